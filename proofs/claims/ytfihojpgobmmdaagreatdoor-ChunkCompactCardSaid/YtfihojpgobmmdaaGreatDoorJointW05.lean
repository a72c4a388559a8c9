/- The Chunk laws: the program; octet.Put and what it calls. No conditions. -/
import Derived.Test.YtfihojpgobmmdaaGreatDoorProg
import Derived.Test.YtfihojpgobmmdaaGreatDoorJointW04
import Derived.Test.YtfihojpgobmmdaaGreatDoorJointW03
import Derived.Shelf.Strings.Repeat
set_option linter.unusedVariables false
set_option linter.unusedSimpArgs false
set_option linter.unusedSectionVars false
set_option maxRecDepth 20000
namespace Go.Proofs.YtfihojpgobmmdaaGreatDoor
open Go Go.Eng
noncomputable abbrev ak:=Tryz.prog
theorem po:lA ak=true:=by kernel_rfl
theorem mo:Tryz.prog.follows .mixedOrders=true:=by kernel_rfl
noncomputable def dP(f:Func):Code:=match f.body with|some c=>c|none=>.skip
abbrev H0:FuncId->List (Nat×o8):=fun _=>[]
noncomputable abbrev Zq:fb:=gI ak noW H0 1000 40
noncomputable abbrev X0:CX ak:=CX.of mo po (Qr _) H0 1000 40
section
variable{n0 N:Nat}{c:Code}{s:St}{Q:Exit->St->Prop}{H:List (Nat×o8)}{fn:Func}{live:List Nat}{G:List (List (Bool×Bool)×ah×pb)}
abbrev c6(cs:fb)(H:List (Nat×o8))(n0:Nat)(fn:Func)(live:List Nat)(c:Code)(s:St)(G:List (List (Bool×Bool)×ah×pb)):Prop:=∃L,cQ ak cs H 1000 n0 fn live c s L G
theorem fZ(X:CX ak)(hr:c6 X.cs H n0 fn live c s G)(h:∀g∈G,(∀b∈g.1,b.1=b.2)->(∀a∈g.2.1,a)/\g.2.2.post ak n0 fn live kS Q)(hc:eX N c=true:=by kernel_rfl):TG ak n0 N c s Q:=
 hr.elim fun _ hr=>gh X mo kS hc hr h
theorem iL(k:Nat)(X:CX ak){A:ah}{s1:St}(hr:c6 X.cs H n0 fn live (eR k c) s [([],A,.to .normal s1)])(hA:∀a∈A,a)(h:TG ak n0 N (de k c) s1 Q)(hc:eX N c=true:=by kernel_rfl):TG ak n0 N c s Q:=
 hr.elim fun _ hr=>mA k X mo hc hr hA h
theorem fB{R:V->Tr O->Nat->Prop}(X:CX ak)(hr:c6 X.cs H n0 fn live c s G)(h:∀g∈G,(∀b∈g.1,b.1=b.2)->(∀a∈g.2.1,a)/\∃v h n,g.2.2= .ret v h n/\R v h n)(hc:eX N c=true:=by kernel_rfl):TG ak n0 N c s (fG ak n0 fn R):=
 hr.elim fun _ hr=>gY X mo R hc hr h
end
abbrev w32(x:Int):Int:=IntKind.u32.wrap x
def JK(a b:Int):Int:=w32 ↑(BitVec.ofInt 32 a|||BitVec.ofInt 32 b).toNat
def nv(a b:Int):Int:=w32 ↑(BitVec.ofInt 32 a^^^BitVec.ofInt 32 b).toNat
def C4(m d x:Int):Int:=JK (w32 (x*m)) (x.fdiv d)
section
variable(ws:List Int)(x:Int)(b:aa)(i:Nat)
abbrev gW:Int:=ws.getD (0+i*1) 0
def sg0:Int:=nv (nv (C4 33554432 128 x) (C4 16384 262144 x)) (x.fdiv 8)
def sg1:Int:=nv (nv (C4 32768 131072 x) (C4 8192 524288 x)) (x.fdiv 1024)
def IC:Int:=w32 (w32 (w32 (gW ws (i-16)+sg0 (gW ws (i-15)))+gW ws (i-7))+sg1 (gW ws (i-2)))
abbrev Uz:Int:=w32 ↑(b.getD i 0).toNat
def ID:Int:=JK (JK (JK (w32 (Uz b (i*4)*16777216)) (w32 (Uz b (i*4+1)*65536))) (w32 (Uz b (i*4+2)*256))) (Uz b (i*4+3))
end
noncomputable abbrev Zr:Code:=dP Tryz.f97
noncomputable abbrev Zs:Code:=de 1 Zr
noncomputable abbrev adV:Code:=dK Zs
noncomputable abbrev adW:Code:=dw (ee adV)
noncomputable abbrev Zt:Code:=ee Zs
noncomputable abbrev adX:Code:=dK Zt
noncomputable abbrev ajX:Code:=dw (ee adX)
noncomputable abbrev ajY:Code:=ee Zt
section
variable(b:aa)(ws:List Int)(i:Nat)
def zW:O:=.cells (List.replicate 64 (.int .u32 0))
def sS0(o:O):St:=eF [(0,.str b),(2,.ptr (some (3,0)))] (hL [(3,o)]) 4
def Zu:St:=eF [(0,.str b),(2,.ptr (some (3,0))),(9,.int .i64 (Int.ofNat i))] (hL [(3,.own .u32 ws)]) 4
def Zv:St:=eF [(2,.ptr (some (3,0))),(4,.int .i64 (Int.ofNat i))] (hL [(3,.own .u32 ws)]) 4
theorem ajZ:cQ ak Zq [] 1000 3 Tryz.f97 [0,2] (eR 1 Zr) (cS [.str b] .nil 3) [] [([],[],.to .normal (sS0 b zW))]:=by
 unfold cQ;kernel_rfl
theorem Zw:Kw [(3,.u32)] (sS0 b zW)=some (sS0 b (.own .u32 (List.replicate 64 0))):=by kernel_rfl
theorem aj0:cQ ak Zq [] 1000 3 Tryz.f97 [0,2,9] (dK adV) (sS0 b (.own .u32 ws)) [] [([],[],.to .normal (Zu b ws 0))]:=by
 unfold cQ;kernel_rfl
abbrev kT(x:Int)(n:Nat):Prop:=V.int .i64 (IntKind.i64.wrap x)=V.int .i64 (Int.ofNat n)
abbrev ibd(n l:Nat):Prop:=0<=Int.ofNat n/\n<l
abbrev iN(n:Nat):Prop:=0<=Int.ofNat n/\Int.ofNat n<64
def scA:ah:=[kT (Int.ofNat i*4) (i*4),ibd (i*4) b.length,kT (Int.ofNat i*4) (i*4),kT (Int.ofNat (i*4)+1) (i*4+1),ibd (i*4+1) b.length,kT (Int.ofNat i*4) (i*4),kT (Int.ofNat (i*4)+2) (i*4+2),ibd (i*4+2) b.length,kT (Int.ofNat i*4) (i*4),kT (Int.ofNat (i*4)+3) (i*4+3),ibd (i*4+3) b.length,
 iN i,0+i*1+1<=ws.length,kT (Int.ofNat i+1) (i+1)]
theorem aj1:cQ ak Zq [(10,.split),(15,.dc (.int .i64 (Int.ofNat (i*4)))),(21,.dc (.int .i64 (Int.ofNat (i*4)))),(22,.dc (.int .i64 (Int.ofNat (i*4+1)))),(29,.dc (.int .i64 (Int.ofNat (i*4)))),(30,.dc (.int .i64 (Int.ofNat (i*4+2)))),(37,.dc (.int .i64 (Int.ofNat (i*4)))),(38,.dc (.int .i64 (Int.ofNat (i*4+3)))),(43,.dc (.int .i64 (Int.ofNat (i+1))))] 1000 3 Tryz.f97 [0,2,9] (dw adW) (Zu b ws i) []
  [([(decide (Int.ofNat i<16),true)],scA b ws i,.to .normal (Zu b (fO ws (0+i*1) [ID b i]) (i+1))),([(decide (Int.ofNat i<16),false)],[],.to (.exit 0) (Zu b ws i))]:=by
 unfold cQ;kernel_rfl
theorem aj2:cQ ak Zq [(4,.dc (.int .i64 (Int.ofNat 16)))] 1000 3 Tryz.f97 [2,4] (dK adX) (Zu b ws i) [] [([],[V.int .i64 16=V.int .i64 16],.to .normal (Zv ws 16))]:=by
 unfold cQ;kernel_rfl
def scB:ah:=[kT (Int.ofNat i-15) (i-15),iN (i-15),0+(i-15)*1<ws.length,kT (Int.ofNat i-2) (i-2),iN (i-2),0+(i-2)*1<ws.length,kT (Int.ofNat i-16) (i-16),iN (i-16),0+(i-16)*1<ws.length,kT (Int.ofNat i-7) (i-7),iN (i-7),0+(i-7)*1<ws.length,
 iN i,0+i*1+1<=ws.length,kT (Int.ofNat i+1) (i+1)]
theorem aj3:cQ ak Zq [(45,.split),(49,.dc (.int .i64 (Int.ofNat (i-15)))),(53,.dc (.int .i64 (Int.ofNat (i-2)))),(74,.dc (.int .i64 (Int.ofNat (i-16)))),(80,.dc (.int .i64 (Int.ofNat (i-7)))),(47,.dc (.int .i64 (Int.ofNat (i+1))))] 1000 3 Tryz.f97 [2,4] (dw ajX) (Zv ws i) []
  [([(decide (Int.ofNat i<64),true)],scB ws i,.to .normal (Zv (fO ws (0+i*1) [IC ws i]) (i+1))),([(decide (Int.ofNat i<64),false)],[],.to (.exit 2) (Zv ws i))]:=by
 unfold cQ;kernel_rfl
def Zx:V:=.agg ((List.range 64).map fun j=>.int .u32 (ws.getD j 0))
theorem aj4:cQ ak Zq [] 1000 3 Tryz.f97 [] ajY (Zv ws i) [] [([],[64<=ws.length,64<=ws.length],.ret (Zx ws) (hL []) 3)]:=by
 unfold cQ;kernel_rfl
end
theorem dX{i:Nat}{Q:Exit->St->Prop}{s:St}:mQ i Q (.exit i) s=Q .normal s:=by simp[mQ]
theorem C5{px:List Int}{o:Nat}{l:List Int}(h:o+l.length<=px.length):(fO px o l).length=px.length:=by
 unfold fO;simp only[ax,bg,bX];omega
theorem fH{x:Int}(h1:-9000000000000000000<=x)(h2:x<=9000000000000000000):IntKind.i64.wrap x=x:=by
 unfold IntKind.wrap;have e1:(2^IntKind.i64.bits:Int)=18446744073709551616:=by decide
 have e2:(2^(IntKind.i64.bits-1):Int)=9223372036854775808:=by decide
 have e3:IntKind.i64.signed=true:=rfl;simp only[e1,e2,e3,Bool.true_and,bC];split<;>omega
theorem fE{x:Int}{n:Nat}(h:x=(n:Int))(hb:n<1000000000000):kT x n:=by
 unfold kT;rw[fH be be,h];rfl
def XI(b:aa):Nat->List Int
 |0=>List.replicate 64 0
 |i+1=>fO (XI b i) (0+i*1) [ID b i]
theorem BK(b:aa):∀i,i<=16->(XI b i).length=64
 |0,_=>bK ..
 |i+1,h=>by
  have ih:=BK b i be;show(fO (XI b i) (0+i*1) [ID b i]).length=64;rw[C5 (by simp only[aS,bQ];omega),ih]
def Ei(b:aa):Nat->List Int
 |0=>XI b 16
 |j+1=>fO (Ei b j) (0+(16+j)*1) [IC (Ei b j) (16+j)]
theorem y6(b:aa):∀j,j<=48->(Ei b j).length=64
 |0,_=>BK b 16 (aA _)
 |j+1,h=>by
  have ih:=y6 b j be;show(fO (Ei b j) (0+(16+j)*1) [IC (Ei b j) (16+j)]).length=64;rw[C5 (by simp only[aS,bQ];omega),ih]
theorem aj5(b:aa)(hb:64<=b.length):TG ak 3 Tryz.f97.ntmps Zr (cS [.str b] .nil 3) (fG ak 3 Tryz.f97 fun u _ _=>u=Zx (Ei b 48)):=by
 have hO:∀n:Nat,Int.ofNat n=(n:Int):=fun _=>rfl;refine mA 1 X0 mo U (ajZ b) (by simp) ?_;refine tC _ (Zw b) ?_;show TG ak 3 Tryz.f97.ntmps Zs _ _;refine cV U ?_;refine yZ X0 mo kS U U (aj0 b _) (dG ?_);refine⟨by simp,fun s' dL=>?_⟩;refine fg (i:=0) U (ff (Q1:=fun z s'=>z= .exit 0/\∃L,e9 3 L s'=some (Zu b (XI b 16) 16)) (gl (fun k' s=>∃i,k'=16-i/\i<=16/\∃L,e9 3 L s=some (Zu b (XI b i) i)) U ?_ 16 ⟨0,rfl,aZ _,_,dL⟩) ?_)
 . rintro k' s ⟨i,hk,hi,L,hs⟩;refine c5 hs ?_;refine gh X0 mo kS U (aj1 b (XI b i) i) fun g hg hc=>?_;simp only[aE,aL,bu]at hg;rcases hg with rfl|rfl
   . have fF:i<16:=by
      have:=aH (hc _ (aq.2 rfl));rw[hO]at this;omega
     refine⟨fun p hp=>?_,fun s' dL=>⟨16-(i+1),be,i+1,rfl,be,[0,2,9],dL⟩⟩;have hl:=BK b i be;simp only[scA,aE,aL,bu]at hp;rcases hp with rfl|rfl|rfl|rfl|rfl|rfl|rfl|rfl|rfl|rfl|rfl|rfl|rfl|rfl
     . exact fE dh be
     . exact⟨az _,be⟩
     . exact fE dh be
     . exact fE dh be
     . exact⟨az _,be⟩
     . exact fE dh be
     . exact fE dh be
     . exact⟨az _,be⟩
     . exact fE dh be
     . exact fE dh be
     . exact⟨az _,be⟩
     . exact⟨az _,dh⟩
     . omega
     . exact fE dh be
   . have zJ:¬i<16:=by
      have:=aK (hc _ (aq.2 rfl));rw[hO]at this;omega
     obtain rfl:i=16:=by omega
     exact⟨by simp,fun s' dL=>⟨rfl,_,dL⟩⟩
 rintro y s2 ⟨rfl,L,jg⟩;rw[dX];simp only[andThen];refine c5 jg ?_;show TG ak 3 Tryz.f97.ntmps Zt _ _;refine cV U ?_;refine yZ X0 mo kS U U (aj2 b _ 16) (dG ?_);refine⟨fun p hp=>by rw[aq]at hp;subst hp;rfl,fun s' dL=>?_⟩;refine fg (i:=2) U (ff (Q1:=fun z s'=>z= .exit 2/\∃L,e9 3 L s'=some (Zv (Ei b 48) 64)) (gl (fun k' s=>∃j,k'=48-j/\j<=48/\∃L,e9 3 L s=some (Zv (Ei b j) (16+j))) U ?_ 48 ⟨0,rfl,aZ _,_,dL⟩) ?_)
 . rintro k' s ⟨j,hk,hj,L,hs⟩;refine c5 hs ?_;refine gh X0 mo kS U (aj3 (Ei b j) (16+j)) fun g hg hc=>?_;simp only[aE,aL,bu]at hg;rcases hg with rfl|rfl
   . have fF:j<48:=by
      have:=aH (hc _ (aq.2 rfl));rw[hO]at this;omega
     refine⟨fun p hp=>?_,fun s' dL=>⟨48-(j+1),be,j+1,rfl,be,[2,4],dL⟩⟩;have hl:=y6 b j be;simp only[scB,aE,aL,bu]at hp;rcases hp with rfl|rfl|rfl|rfl|rfl|rfl|rfl|rfl|rfl|rfl|rfl|rfl|rfl|rfl|rfl
     . exact fE dh be
     . exact⟨az _,dh⟩
     . omega
     . exact fE dh be
     . exact⟨az _,dh⟩
     . omega
     . exact fE dh be
     . exact⟨az _,dh⟩
     . omega
     . exact fE dh be
     . exact⟨az _,dh⟩
     . omega
     . exact⟨az _,dh⟩
     . omega
     . exact fE dh be
   . have zJ:¬j<48:=by
      have:=aK (hc _ (aq.2 rfl));rw[hO]at this;omega
     obtain rfl:j=48:=by omega
     exact⟨by simp,fun s' dL=>⟨rfl,_,dL⟩⟩
 . rintro y s2 ⟨rfl,L,jg⟩;rw[dX];simp only[andThen];refine c5 jg ?_;refine gY X0 mo _ U (aj4 (Ei b 48) 64) (dG ?_);have hl:=y6 b 48 (aA _);refine⟨fun p hp=>?_,_,_,_,rfl,rfl⟩;simp only[aE,aL,bu]at hp;rcases hp with rfl|rfl<;>omega
def KB:ag->Option (ah×V)
 | [.str b]=>some ([64<=b.length],Zx (Ei b 48))
 |_=>none
theorem Zy:jL ak 97 (jO KB):=by
 refine kf (au U) fun args A v e=>?_;unfold KB at e;split at e
 . obtain⟨rfl,rfl⟩:=fc e;exact⟨rfl,U,fun hA=>gT mo po Tryz.func97 U U rfl (aj5 _ (hA _ (by simp)))⟩
 . cases e
noncomputable abbrev W1:jQ:=kB 97 (jO KB) noW
theorem XJ:gd ak W1:=fk Zy (Qr _)
noncomputable abbrev cs1:fb:=gI ak W1 H0 1000 40
noncomputable abbrev X1:CX ak:=CX.of mo po XJ H0 1000 40
def Ap(a b:Int):Int:=w32 ↑(BitVec.ofInt 32 a&&&BitVec.ofInt 32 b).toNat
abbrev E8:=Int×Int×Int×Int×Int×Int×Int×Int
def bS1(e:Int):Int:=nv (nv (C4 67108864 64 e) (C4 2097152 2048 e)) (C4 128 33554432 e)
def bS0(a:Int):Int:=nv (nv (C4 1073741824 4 a) (C4 524288 8192 a)) (C4 1024 4194304 a)
def chI(e f g:Int):Int:=nv (Ap e f) (Ap (nv 4294967295 e) g)
def maI(a b c:Int):Int:=nv (nv (Ap a b) (Ap a c)) (Ap b c)
section
variable(rd ws:List Int)(i:Nat)
def rdX:E8->Int
 |(_,_,_,_,e,f,g,h)=>w32 (w32 (w32 (w32 (h+bS1 e)+chI e f g)+gW rd i)+gW ws i)
def Bu:E8->E8
 |(a,b,c,d,e,f,g,h)=>(w32 (rdX rd ws i (a,b,c,d,e,f,g,h)+w32 (bS0 a+maI a b c)),a,b,c,w32 (d+rdX rd ws i (a,b,c,d,e,f,g,h)),e,f,g)
def c8(q:E8):ag:=[.int .u32 q.1,.int .u32 q.2.1,.int .u32 q.2.2.1,.int .u32 q.2.2.2.1,.int .u32 q.2.2.2.2.1,.int .u32 q.2.2.2.2.2.1,.int .u32 q.2.2.2.2.2.2.1,.int .u32 q.2.2.2.2.2.2.2]
def Zz:E8->E8->E8
 |(a,b,c,d,e,f,g,h),(a',b',c',d',e',f',g',h')=>(w32 (a+a'),w32 (b+b'),w32 (c+c'),w32 (d+d'),w32 (e+e'),w32 (f+f'),w32 (g+g'),w32 (h+h'))
noncomputable abbrev UA:Code:=dP Tryz.f72
noncomputable abbrev ZA:Code:=de 3 UA
noncomputable abbrev adZ:Code:=dK ZA
noncomputable abbrev aka:Code:=dw (ee adZ)
noncomputable abbrev akb:Code:=ee ZA
def C6:List Int:=(List.range 64).map fun j=>ws.getD j 0
end
section
variable(rd ws:List Int)(a b c d e f g h a' b' c' d' e' f' g' h':Int)(i:Nat)
def ad0:List (Nat×V):=[(2,.ptr (some (3,0))),(4,.ptr (some (4,0))),(5,.ptr (some (5,0))),(6,.ptr (some (6,0)))]
def sC0(o:O):St:=eF ad0 (hL [(1,.ints .u32 rd),(3,.cells (c8 (a,b,c,d,e,f,g,h))),(4,.cells (c8 (0,0,0,0,0,0,0,0))),(5,o),(6,.cells (c8 (a',b',c',d',e',f',g',h')))]) 7
def sCi:St:=eF (ad0++[(18,.int .i64 (Int.ofNat i))]) (hL [(1,.ints .u32 rd),(3,.cells (c8 (a,b,c,d,e,f,g,h))),(4,.cells (c8 (0,0,0,0,0,0,0,0))),(5,.own .u32 ws),(6,.cells (c8 (a',b',c',d',e',f',g',h')))]) 7
theorem akc(s:aa):cQ ak cs1 [] 1000 3 Tryz.f72 [2,4,5,6] (eR 3 UA) (cS [.agg (c8 (a,b,c,d,e,f,g,h)),.str s] (hL [(1,.ints .u32 rd)]) 3) []
  [([],[64<=s.length],.to .normal (sC0 rd a b c d e f g h a b c d e f g h (.cells ((List.range 64).map fun j=>.int .u32 ((Ei s 48).getD j 0)))))]:=by
 unfold cQ;kernel_rfl
theorem ZB:Kw [(5,.u32)] (sC0 rd a b c d e f g h a' b' c' d' e' f' g' h' (.cells ((List.range 64).map fun j=>.int .u32 (ws.getD j 0))))=some (sC0 rd a b c d e f g h a' b' c' d' e' f' g' h' (.own .u32 (C6 ws))):=by
 kernel_rfl
theorem akd:cQ ak cs1 [(18,.dc (.int .i64 (Int.ofNat 0)))] 1000 3 Tryz.f72 [2,4,5,6,18] (dK adZ) (sC0 rd a b c d e f g h a' b' c' d' e' f' g' h' (.own .u32 ws)) [] [([],[V.int .i64 0=V.int .i64 0],.to .normal (sCi rd ws a b c d e f g h a' b' c' d' e' f' g' h' 0))]:=by
 unfold cQ;kernel_rfl
theorem ake:c6 cs1 [(19,.split),(101,.dc (.int .i64 (Int.ofNat (i+1))))] 3 Tryz.f72 [2,4,5,6,18] (dw aka) (sCi rd ws a b c d e f g h a' b' c' d' e' f' g' h' i) [([(decide (Int.ofNat i<64),true)],[iN i,0+i*1<rd.length,iN i,0+i*1<ws.length,kT (Int.ofNat i+1) (i+1)],
   .to .normal (sCi rd ws a b c d e f g h (Bu rd ws i (a',b',c',d',e',f',g',h')).1 (Bu rd ws i (a',b',c',d',e',f',g',h')).2.1 (Bu rd ws i (a',b',c',d',e',f',g',h')).2.2.1 (Bu rd ws i (a',b',c',d',e',f',g',h')).2.2.2.1 (Bu rd ws i (a',b',c',d',e',f',g',h')).2.2.2.2.1 (Bu rd ws i (a',b',c',d',e',f',g',h')).2.2.2.2.2.1 (Bu rd ws i (a',b',c',d',e',f',g',h')).2.2.2.2.2.2.1 (Bu rd ws i (a',b',c',d',e',f',g',h')).2.2.2.2.2.2.2 (i+1))),
   ([(decide (Int.ofNat i<64),false)],[],.to (.exit 0) (sCi rd ws a b c d e f g h a' b' c' d' e' f' g' h' i))]:=
 cQ.of U U U
abbrev XK(k:Int):ah:=[0<=k/\k<8,0<=k/\k<8,0<=k/\k<8]
theorem akf:cQ ak cs1 [] 1000 3 Tryz.f72 [] akb (sCi rd ws a b c d e f g h a' b' c' d' e' f' g' h' i) []
  [([],XK 0++(XK 1++(XK 2++(XK 3++(XK 4++(XK 5++(XK 6++XK 7)))))),.ret (.agg (c8 (Zz (a',b',c',d',e',f',g',h') (a,b,c,d,e,f,g,h)))) (hL [(1,.ints .u32 rd)]) 3)]:=by
 unfold cQ;kernel_rfl
end
def vn(rd ws:List Int)(q:E8):Nat->E8
 |0=>q
 |i+1=>Bu rd ws i (vn rd ws q i)
abbrev sCq(rd ws:List Int)(q q':E8)(i:Nat):St:=sCi rd ws q.1 q.2.1 q.2.2.1 q.2.2.2.1 q.2.2.2.2.1 q.2.2.2.2.2.1 q.2.2.2.2.2.2.1 q.2.2.2.2.2.2.2 q'.1 q'.2.1 q'.2.2.1 q'.2.2.2.1 q'.2.2.2.2.1 q'.2.2.2.2.2.1 q'.2.2.2.2.2.2.1 q'.2.2.2.2.2.2.2 i
def y7(rd:List Int)(s:aa)(q:E8):E8:=Zz (vn rd (C6 (Ei s 48)) q 64) q
theorem akg(rd:List Int)(Y1:64<=rd.length)(s:aa)(akh:64<=s.length)(q:E8):TG ak 3 Tryz.f72.ntmps UA (cS [.agg (c8 q),.str s] (hL [(1,.ints .u32 rd)]) 3)
  (fG ak 3 Tryz.f72 fun u _ _=>u= .agg (c8 (y7 rd s q))):=by
 have hO:∀n:Nat,Int.ofNat n=(n:Int):=fun _=>rfl;obtain⟨a,b,c,d,e,f,g,h⟩:=q;refine mA 3 X1 mo U (akc rd a b c d e f g h s) (fun p hp=>by rw[aq]at hp;subst hp;exact akh) ?_;refine tC _ (ZB rd (Ei s 48) a b c d e f g h a b c d e f g h) ?_;show TG ak 3 Tryz.f72.ntmps ZA _ _;have ue:(C6 (Ei s 48)).length=64:=by unfold C6;rw[aY,List.length_range]
 generalize hW:C6 (Ei s 48)=ws at ue ⊢;refine cV U ?_;refine yZ X1 mo kS U U (akd rd ws a b c d e f g h a b c d e f g h) fun g' hg _=>?_;rw[aq]at hg;subst hg;refine⟨fun p hp=>by rw[aq]at hp;subst hp;rfl,fun s' dL=>?_⟩;refine fg (i:=0) U (ff (Q1:=fun z s'=>z= .exit 0/\∃L,e9 3 L s'=some (sCq rd ws (a,b,c,d,e,f,g,h) (vn rd ws (a,b,c,d,e,f,g,h) 64) 64)) (gl (fun k' s=>∃i,k'=64-i/\i<=64/\∃L,e9 3 L s=some (sCq rd ws (a,b,c,d,e,f,g,h) (vn rd ws (a,b,c,d,e,f,g,h) i) i)) U ?_ 64 ⟨0,rfl,aZ _,_,dL⟩) ?_)
 . rintro k' s0 ⟨i,hk,hi,L,hs⟩;refine c5 hs ?_;obtain⟨L',hr⟩:=ake rd ws a b c d e f g h (vn rd ws (a,b,c,d,e,f,g,h) i).1 (vn rd ws (a,b,c,d,e,f,g,h) i).2.1 (vn rd ws (a,b,c,d,e,f,g,h) i).2.2.1 (vn rd ws (a,b,c,d,e,f,g,h) i).2.2.2.1 (vn rd ws (a,b,c,d,e,f,g,h) i).2.2.2.2.1 (vn rd ws (a,b,c,d,e,f,g,h) i).2.2.2.2.2.1 (vn rd ws (a,b,c,d,e,f,g,h) i).2.2.2.2.2.2.1 (vn rd ws (a,b,c,d,e,f,g,h) i).2.2.2.2.2.2.2 i;refine gh X1 mo kS U hr fun g' hg hc=>?_;simp only[aE,aL,bu]at hg;rcases hg with rfl|rfl
   . have fF:i<64:=by
      have:=aH (hc _ (aq.2 rfl));rw[hO]at this;omega
     refine⟨fun p hp=>?_,fun s' dL=>⟨64-(i+1),be,i+1,rfl,be,[2,4,5,6,18],dL⟩⟩;simp only[aE,aL,bu]at hp;rcases hp with rfl|rfl|rfl|rfl|rfl
     . exact⟨az _,dh⟩
     . omega
     . exact⟨az _,dh⟩
     . omega
     . exact fE dh be
   . have zJ:¬i<64:=by
      have:=aK (hc _ (aq.2 rfl));rw[hO]at this;omega
     obtain rfl:i=64:=by omega
     exact⟨by simp,fun s' dL=>⟨rfl,[2,4,5,6,18],dL⟩⟩
 . rintro y s2 ⟨rfl,L,jg⟩;rw[dX];simp only[andThen];refine c5 jg ?_;refine gY X1 mo _ U (akf rd ws a b c d e f g h _ _ _ _ _ _ _ _ 64) fun g' hg _=>?_;rw[aq]at hg;subst hg;refine⟨fun p hp=>?_,_,_,_,rfl,?_⟩
   . simp only[aT,aE,aL,bu,or_self]at hp;rcases hp with rfl|rfl|rfl|rfl|rfl|rfl|rfl|rfl<;>decide
   . unfold y7;rw[hW]
def TJ:List (Option (Nat×Nat)):=[some (0,0),some (1,0),some (2,0)]
theorem QL:∀p∈jR,TJ[p.2]? =some (some (p.2,0)):=by
 intro p hp;simp only[jR,aE,aL,bu]at hp;rcases hp with rfl|rfl|rfl<;>rfl
def KC:ag->Tr O->Option (ah×V)
 | [.agg [.int .u32 a,.int .u32 b,.int .u32 c,.int .u32 d,.int .u32 e,.int .u32 f,.int .u32 g,.int .u32 x],.str s],h=>match h.get 1 with
   |some (.ints .u32 rd)=>some ([64<=rd.length,64<=s.length],.agg (c8 (y7 rd s (a,b,c,d,e,f,g,x))))
   |_=>none
 |_,_=>none
theorem ZC:Qo ak 72 KC:=by
 refine⟨au U,fun args h A u e=>?_⟩;unfold KC at e;split at e
 case h_2=>cases e
 rename_i a b c d e1 f g x s;split at e
 case h_2=>cases e
 rename_i rd hm;obtain⟨rfl,rfl⟩:=fc e;refine⟨rfl,fun hA E n' w' c9 ra g0 hd hc=>?_⟩;obtain⟨g2,d2,n2⟩:=Mm g0 TJ [none,some (.u32,rd),none] (au rfl) QL (by
  intro j k' Xi hj
  match j,hj with
  |0,hj=>cases hj
  |1,hj=>cases hj;exact⟨1,0,rd,rfl,hm,rfl⟩
  |2,hj=>cases hj
  |j+3,hj=>simp at hj)
 exact CV mo po Tryz.func72 (code:=UA) U U (akg rd (hA _ (by simp)) s (hA (64<=s.length) (by simp)) (a,b,c,d,e1,f,g,x)) (E:=E.rows TJ) g2 d2 n2 (mP _ _ rfl ra)
noncomputable abbrev W2:jQ:=kB 72 (Ml KC) W1
theorem XM:gd ak W2:=fk (Iw ZC) XJ
noncomputable abbrev vc:fb:=gI ak W2 H0 1000 40
noncomputable abbrev X2:CX ak:=CX.of mo po XM H0 1000 40
section
variable(x:Int)
def pB(d:Int):UInt8:=UInt8.ofNat (IntKind.u8.wrap ((IntKind.u64.wrap x).fdiv d)).toNat
def mh:aa:=[pB x 72057594037927936,pB x 281474976710656,pB x 1099511627776,pB x 4294967296,pB x 16777216,pB x 65536,pB x 256,pB x 1]
def dN:aa:=[pB x 16777216,pB x 65536,pB x 256,pB x 1]
def pn:aa:=[pB x 1]
abbrev b8:ah:=[(0:Int)<=0/\(0:Int)<8,(0:Int)<=1/\(1:Int)<8,(0:Int)<=2/\(2:Int)<8,(0:Int)<=3/\(3:Int)<8,(0:Int)<=4/\(4:Int)<8,(0:Int)<=5/\(5:Int)<8,(0:Int)<=6/\(6:Int)<8,(0:Int)<=7/\(7:Int)<8]
theorem QM:∀p∈b8,p:=by
 intro p hp;simp only[aE,aL,bu]at hp;rcases hp with rfl|rfl|rfl|rfl|rfl|rfl|rfl|rfl<;>decide
noncomputable abbrev ZD:Code:=dP Tryz.f59
theorem aki:cQ ak vc [] 1000 3 Tryz.f59 [] ZD (cS [.int .i64 x,.int .i64 8] .nil 3) [] [([],b8,.ret (.str (mh x)) (hL []) 3)]:=by
 unfold cQ;kernel_rfl
theorem akj:cQ ak vc [] 1000 3 Tryz.f59 [] ZD (cS [.int .i64 x,.int .i64 4] .nil 3) [] [([],b8,.ret (.str (dN x)) (hL []) 3)]:=by
 unfold cQ;kernel_rfl
theorem akk:cQ ak vc [] 1000 3 Tryz.f59 [] ZD (cS [.int .i64 x,.int .i64 1] .nil 3) [] [([],b8,.ret (.str (pn x)) (hL []) 3)]:=by
 unfold cQ;kernel_rfl
end
def KD:ag->Option (ah×V)
 | [.int .i64 x,.int .i64 k]=>match k with
   | .ofNat 8=>some ([],.str (mh x))
   | .ofNat 4=>some ([],.str (dN x))
   | .ofNat 1=>some ([],.str (pn x))
   |_=>none
 |_=>none
theorem GB{P:Program}{n0:Nat}{fn:Func}{c:Code}{s:St}(X':CX P)(hm:P.follows .mixedOrders=true){H:List (Nat×o8)}{F:Nat}{live:List Nat}{A:ah}{v:V}{h:Tr O}{n:Nat}(hc:eX fn.ntmps c=true)
  (hr:cQ P X'.cs H F n0 fn live c s [] [([],A,.ret v h n)]) (hA:∀a∈A,a):TG P n0 fn.ntmps c s (fG P n0 fn fun u _ _=>u=v):=by
 refine gY X' hm _ hc hr (dG ?_);exact⟨hA,_,_,_,rfl,rfl⟩
theorem ZE:jL ak 59 (jO KD):=by
 refine kf (au U) fun args A v e=>?_;unfold KD at e;split at e
 . split at e
   . obtain⟨rfl,rfl⟩:=fc e;exact⟨rfl,U,fun _=>gT mo po Tryz.func59 U U rfl (GB X2 mo U (aki _) QM)⟩
   . obtain⟨rfl,rfl⟩:=fc e;exact⟨rfl,U,fun _=>gT mo po Tryz.func59 U U rfl (GB X2 mo U (akj _) QM)⟩
   . obtain⟨rfl,rfl⟩:=fc e;exact⟨rfl,U,fun _=>gT mo po Tryz.func59 U U rfl (GB X2 mo U (akk _) QM)⟩
   . cases e
 . cases e
open Go.Shelf Go.RowKit
def QN:Go.Shelf.Ren:=⟨fun|105=>71|212=>93|99=>94|165=>95|166=>58|170=>96|169=>60|263=>118|264=>119|206=>120|240=>84|241=>121|276=>112|277=>146|n=>n,fun|9=>9|3=>3|4=>4|20=>20|0=>0|46=>144|109=>145|5=>5|72=>102|76=>105|51=>120|146=>164|53=>135|148=>166|70=>100|37=>30|75=>104|127=>137|164=>158|80=>108|n=>n,fun n=>n⟩
theorem tG:Lays.n105 ak QN:={
 mixed:=mo
 f99:=Tryz.func94.trans (aM some U)
 f105:=Tryz.func71.trans (aM some U)
 f165:=Tryz.func95.trans (aM some U)
 f166:=Tryz.func58.trans (aM some U)
 f169:=Tryz.func60.trans (aM some U)
 f170:=Tryz.func96.trans (aM some U)
 f206:=Tryz.func120.trans (aM some U)
 f212:=Tryz.func93.trans (aM some U)
 f240:=Tryz.func84.trans (aM some U)
 f241:=Tryz.func121.trans (aM some U)
 f263:=Tryz.func118.trans (aM some U)
 f264:=Tryz.func119.trans (aM some U)
 f276:=Tryz.func112.trans (aM some U)
 f277:=Tryz.func146.trans (aM some U)
 t0:=Tryz.underlying0
 a0:=Tryz.isAgg0
 z0:=Tryz.sizeOf0
 v0:=Tryz.zeroValue0
 t3:=Tryz.underlying3
 a3:=Tryz.isAgg3
 z3:=Tryz.sizeOf3
 v3:=Tryz.zeroValue3
 t4:=Tryz.underlying4
 a4:=Tryz.isAgg4
 z4:=Tryz.sizeOf4
 v4:=Tryz.zeroValue4
 t5:=Tryz.underlying5
 a5:=Tryz.isAgg5
 z5:=Tryz.sizeOf5
 v5:=Tryz.zeroValue5
 t9:=Tryz.underlying9
 a9:=Tryz.isAgg9
 z9:=Tryz.sizeOf9
 v9:=Tryz.zeroValue9
 t20:=Tryz.underlying20
 a20:=Tryz.isAgg20
 z20:=Tryz.sizeOf20
 v20:=Tryz.zeroValue20
 t37:=Tryz.underlying30
 a37:=Tryz.isAgg30
 z37:=Tryz.sizeOf30
 v37:=Tryz.zeroValue30
 t46:=Tryz.underlying144
 a46:=Tryz.isAgg144
 z46:=Tryz.sizeOf144
 v46:=Tryz.zeroValue144
 t51:=Tryz.underlying120
 a51:=Tryz.isAgg120
 z51:=Tryz.sizeOf120
 v51:=Tryz.zeroValue120
 t53:=Tryz.underlying135
 a53:=Tryz.isAgg135
 z53:=Tryz.sizeOf135
 v53:=Tryz.zeroValue135
 t70:=Tryz.underlying100
 a70:=Tryz.isAgg100
 z70:=Tryz.sizeOf100
 v70:=Tryz.zeroValue100
 t72:=Tryz.underlying102
 a72:=Tryz.isAgg102
 z72:=Tryz.sizeOf102
 v72:=Tryz.zeroValue102
 t75:=Tryz.underlying104
 a75:=Tryz.isAgg104
 z75:=Tryz.sizeOf104
 v75:=Tryz.zeroValue104
 t76:=Tryz.underlying105
 a76:=Tryz.isAgg105
 z76:=Tryz.sizeOf105
 v76:=Tryz.zeroValue105
 t109:=Tryz.underlying145
 a109:=Tryz.isAgg145
 z109:=Tryz.sizeOf145
 v109:=Tryz.zeroValue145
 t127:=Tryz.underlying137
 a127:=Tryz.isAgg137
 z127:=Tryz.sizeOf137
 v127:=Tryz.zeroValue137
 t146:=Tryz.underlying164
 a146:=Tryz.isAgg164
 z146:=Tryz.sizeOf164
 v146:=Tryz.zeroValue164
 t148:=Tryz.underlying166
 a148:=Tryz.isAgg166
 z148:=Tryz.sizeOf166
 v148:=Tryz.zeroValue166
 t164:=Tryz.underlying158
 a164:=Tryz.isAgg158
 z164:=Tryz.sizeOf158
 v164:=Tryz.zeroValue158
}
theorem GC:Builder.Extra ak QN where
 sizeBuilder:=by kernel_rfl
 liesBuilder:=by kernel_rfl
 t5:=tG.t5
 a5:=tG.a5
 z5:=tG.z5
 v5:=tG.v5
 infoByte:=by kernel_rfl
 cellsByte:=by kernel_rfl
 sizeByte:=by kernel_rfl
 neB5:=by decide
def KE:ag->Option (ah×V)
 | [.str [0],.int .i64 x]=>some ([0<=x/\x<=1000],.str (List.replicate x.toNat 0))
 |_=>none
theorem ZF:jL ak 71 (jO KE):=by
 refine kf (au U) fun args A v e=>?_;unfold KE at e;split at e
 . rename_i x;obtain⟨rfl,rfl⟩:=fc e;refine⟨rfl,rfl,fun hA E w c9 _ ra=>?_⟩;have hx:=hA _ (aq.2 rfl);obtain⟨c,rfl⟩:∃c:Nat,x=(c:Int):=⟨x.toNat,be⟩;obtain⟨y,ys,r0,⟨z,zs,r1,rs,rfl⟩,rfl⟩:=ra;have rs:zs=[]:=rs;subst rs;have r1:z= .int .i64 (c:Int):=r1;subst r1;have r0:y= .string ⟨#[0]⟩:=r0;subst r0;have h:=Any.strings_Repeat tG GC ⟨#[0]⟩ c w be (by show 1*c<=_;omega);refine h.mono fun en w' ⟨he,hw⟩=>⟨⟨E,?_⟩,hw⟩;rw[he];have e:Lib.repeatL (ByteArray.mk #[0]).data.toList c=List.replicate c 0:=by
    have:=Lib.repeatL_replicate 0 1 c;rw[bk]at this;exact this
   rw[e];exact rfl
 . cases e
noncomputable abbrev W3:jQ:=kB 71 (jO KE) (kB 59 (jO KD) W2)
theorem ad1:gd ak W3:=fk ZF (fk ZE XM)
def KF:ag->Tr O->Nat->Option (ah×V×Tr O×Nat)
 | [.ptr (some (m,0))],h,n=>match h.get m with
   |some (.Bj t _ x)=>match Nat.beq t 102&&Nat.blt m fL with
    |true=>some ([],.ew [],h.set m (some (.Bj t true x)),n)
    |false=>none
   |_=>none
 |_,_,_=>none
theorem ZG:jL ak 84 KF:=by
 refine⟨au U,fun args h n A v h' n' e hA E w c9 ra g hd hc=>?_⟩;unfold KF at e;split at e
 case h_2=>cases e
 rename_i m;split at e
 case h_2=>cases e
 rename_i t self x hm;split at e
 case h_2=>cases e
 rename_i hq;simp only[aC]at hq;obtain⟨ht,yP⟩:=hq;have ht:=aD ht;subst ht;have yP:m<fL:=au yP;simp only[an,aB]at e;obtain⟨rfl,rfl,rfl,rfl⟩:=e;obtain⟨y,ys,r0,rs,rfl⟩:=ra;have rs:ys=[]:=rs;subst rs;obtain⟨b,s,e1,rfl⟩:=r0;obtain⟨b',s',e2,hs,x',fz,k1,k2,k3,k4⟩:=g.rel m _ hm;rw[e1]at e2;simp only[an,aB]at e2;obtain⟨rfl,rfl⟩:=e2;subst hs;have hbb:b<w.heap.size:=g.mW m b 0 e1;have iu:eC h m:=⟨_,hm,rfl⟩;have l9:∀{self:Bool},w.heap[b]? =some (.cells #[.pointer (if self then some ⟨b,0,none⟩else none),x'] 102 fz)->w.cell? ⟨b,0,none⟩=some (.pointer (if self then some ⟨b,0,none⟩else none)):=by
  intro self k1;unfold World.cell?;rw[k1];rfl
 have QO:∀w',w'.heap.size=w.heap.size->w'.tape=w.tape->w'.os=w.os->w'.output=w.output->(∀j,j≠b->w'.heap[j]? =w.heap[j]?)->w'.heap[b]? =some (.cells #[.pointer (some ⟨b,0,none⟩),x'] 102 fz)->
   jX E h n w (.ret (.ew [])) (h.set m (some (.Bj 102 true x))) n (.returned (.tuple #[])) w':=by
  intro w' h1 h2 h3 h4 h5 h6;refine⟨E,ir.write g yP iu e1 h1 h2 h3 h4 h5 ⟨rfl,x',fz,h6,k2,k3,k4⟩,fun _ _=>rfl,hd,aA _,⟨[],rfl,rfl⟩⟩
 cases self with
 |true=>
  have h:=Any.Builder_copyCheck_used { tG with } { GC with } b w (l9 k1);refine h.mono fun en w' ⟨he,hw⟩=>?_;subst he;subst hw;exact QO w' rfl rfl rfl rfl (fun _ _=>rfl) k1
 |false=>
  have h:=Any.Builder_copyCheck_fresh { tG with } { GC with } b w (l9 k1) (by unfold World.shape?;rw[k1];rfl) (by
   unfold World.frozen?;simp only[k1];have:=k3 0 be;obtain⟨lo,hi⟩:=fz;simp only at this ⊢;cases hq:(decide (lo<=0)&&decide (0<hi))with
   |false=>rfl
   |true=>simp only[aC,bC]at hq;exact absurd hq this)
  refine h.mono fun en w' ⟨he,hw⟩=>?_;subst he;subst hw;refine QO _ (by simp[World.setCell]) rfl rfl rfl (fun j hj=>by simp[World.setCell,cm,Ne.symm hj]) ?_;simp[World.setCell,cm,k1]
noncomputable abbrev W4:jQ:=kB 84 KF W3
theorem XN:gd ak W4:=fk ZG ad1
noncomputable abbrev cs4:fb:=gI ak W4 H0 1000 40
noncomputable abbrev X4:CX ak:=CX.of mo po XN H0 1000 40
noncomputable abbrev UB:Code:=dP Tryz.f38
noncomputable abbrev ZH:Code:=de 4 UB
noncomputable abbrev ad3:Code:=dK ZH
noncomputable abbrev UC:Code:=ee ZH
noncomputable abbrev akl:Code:=dK UC
noncomputable abbrev akm:Code:=ee UC
section
variable(s:aa)(st:List Int)
def D0(rd:List Int):Tr O:=hL [(0,.ints .u32 st),(1,.ints .u32 rd)]
def gZ:Nat:=(119-s.length%64)%64
def mR:aa:=((s.take s.length).drop (s.length/64*64)++[128]++List.replicate (gZ s) 0)++mh (Int.ofNat (s.length*8))
def KG:E8:=(st.getD 0 0,st.getD 1 0,st.getD 2 0,st.getD 3 0,st.getD 4 0,st.getD 5 0,st.getD 6 0,st.getD 7 0)
def BL(i:Nat):aa:=(s.take (i+64)).drop i
end
def jP(rd:List Int)(s:aa)(q:E8):Nat->E8
 |0=>q
 |j+1=>y7 rd (BL s (64*j)) (jP rd s q j)
def wB(x:Int):aa:=dN (IntKind.i64.wrap x)
section
variable(st rd:List Int)(q:E8)(s p:aa)
def QS:aa:=wB q.1++eN (dV (wB q.2.1))++eN (dV (wB q.2.2.1))++eN (dV (wB q.2.2.2.1))++eN (dV (wB q.2.2.2.2.1))++eN (dV (wB q.2.2.2.2.2.1))++eN (dV (wB q.2.2.2.2.2.2.1))++eN (dV (wB q.2.2.2.2.2.2.2))
def QT:aa:=QS (jP rd (mR s) (jP rd s (KG st) (s.length/64)) ((mR s).length/64))
def ad4:St:=eF [(0,.str s),(3,.ptr (some (3,0))),(5,.str p)] (hL [(0,.ints .u32 st),(1,.ints .u32 rd),(3,.cells (c8 q))]) 4
def N7(i:Nat):St:=eF [(0,.str s),(3,.ptr (some (3,0))),(5,.str p),(6,.int .i64 (Int.ofNat i))] (hL [(0,.ints .u32 st),(1,.ints .u32 rd),(3,.cells (c8 q))]) 4
def IE:St:=eF [(3,.ptr (some (3,0))),(5,.str p)] (hL [(0,.ints .u32 st),(1,.ints .u32 rd),(3,.cells (c8 q))]) 4
theorem akn:c6 cs4 [(13,.dc (.int .i64 (Int.ofNat (s.length%64)))),(15,.dc (.int .i64 (Int.ofNat (gZ s)))),(20,.dc (.int .i64 (Int.ofNat (s.length/64*64)))),(28,.dc (.int .i64 (Int.ofNat (s.length*8))))] 3 Tryz.f38 [0,3,5] (eR 4 UB) (cS [.str s] (D0 st rd) 3) [([],
   [(8<=st.length),(V.int aj (((Int.ofNat s.length)).tmod (64:Int))=V.int aj (Int.ofNat (s.length%64))),(V.int aj ((IntKind.i64.wrap ((119:Int)-Int.ofNat (s.length%64))).tmod (64:Int))=V.int aj (Int.ofNat (gZ s))),((64:Int)≠(0:Int)),(V.int aj (IntKind.i64.wrap (IntKind.i64.wrap (((Int.ofNat s.length)).tdiv (64:Int))*(64:Int)))=V.int aj (Int.ofNat (s.length/64*64))),((0:Int)<=Int.ofNat (s.length/64*64)/\Int.ofNat (s.length/64*64)<=(Int.ofNat s.length)),((List.drop (Int.ofNat (s.length/64*64)).toNat (List.take s.length s)).length+1<=9223372036854775807),((0:Int)<=Int.ofNat (gZ s)/\Int.ofNat (gZ s)<=(1000:Int)),((0:Int)<=Int.ofNat (s.length/64*64)/\Int.ofNat (s.length/64*64)<=(Int.ofNat s.length)),((List.drop (Int.ofNat (s.length/64*64)).toNat (List.take s.length s)++([(128:UInt8)]:aa)).length+(List.replicate (Int.ofNat (gZ s)).toNat (0:UInt8)).length<=9223372036854775807),(V.int aj (IntKind.i64.wrap ((Int.ofNat s.length)*(8:Int)))=V.int aj (Int.ofNat (s.length*8))),((0:Int)<=Int.ofNat (s.length/64*64)/\Int.ofNat (s.length/64*64)<=(Int.ofNat s.length)),((List.drop (Int.ofNat (s.length/64*64)).toNat (List.take s.length s)++([(128:UInt8)]:aa)++List.replicate (Int.ofNat (gZ s)).toNat (0:UInt8)).length+(mh (Int.ofNat (s.length*8))).length<=9223372036854775807)],
   .to .normal (eF [(0,.str (s)),(3,.ptr (some (3,0))),(5,.str (List.drop (Int.ofNat (s.length/64*64)).toNat (List.take s.length s)++([(128:UInt8)]:aa)++List.replicate (Int.ofNat (gZ s)).toNat (0:UInt8)++mh (Int.ofNat (s.length*8))))] (hL [(0,.ints .u32 (st)),(1,.ints .u32 (rd)),(3,.cells [.int .u32 (st.getD 0 (0:Int)),.int .u32 (st.getD 1 (0:Int)),.int .u32 (st.getD 2 (0:Int)),.int .u32 (st.getD 3 (0:Int)),.int .u32 (st.getD 4 (0:Int)),.int .u32 (st.getD 5 (0:Int)),.int .u32 (st.getD 6 (0:Int)),.int .u32 (st.getD 7 (0:Int))])]) 4))]
 :=cQ.of U U U
theorem ako:c6 cs4 [(6,.dc (.int .i64 (Int.ofNat 0)))] 3 Tryz.f38 [0,3,5,6] (dK ad3) (ad4 st rd q s p) [([],
   [(V.int aj (0:Int)=V.int aj (0:Int))],
   .to .normal (eF [(0,.str (s)),(3,.ptr (some (3,0))),(5,.str (p)),(6,.int .i64 0)] (hL [(0,.ints .u32 (st)),(1,.ints .u32 (rd)),(3,.cells [.int .u32 (q.1),.int .u32 (q.2.1),.int .u32 (q.2.2.1),.int .u32 (q.2.2.2.1),.int .u32 (q.2.2.2.2.1),.int .u32 (q.2.2.2.2.2.1),.int .u32 (q.2.2.2.2.2.2.1),.int .u32 (q.2.2.2.2.2.2.2)])]) 4))]
 :=cQ.of U U U
theorem akp:c6 cs4 [] 3 Tryz.f38 [] (akm) (IE st rd q p) [([],
   [(0<(dN (IntKind.i64.wrap q.1)).length),(eT (dN (IntKind.i64.wrap q.1)).length 1 1=true),(0<(dN (IntKind.i64.wrap q.1)).length),((dN (IntKind.i64.wrap q.1)).length=(dN (IntKind.i64.wrap q.1)).length),(eT ((dN (IntKind.i64.wrap q.1)).length+(dN (IntKind.i64.wrap q.2.1)).length) 1 1=true),(0<(dN (IntKind.i64.wrap q.1)).length+(dN (IntKind.i64.wrap q.2.1)).length),((dN (IntKind.i64.wrap q.1)).length+(dN (IntKind.i64.wrap q.2.1)).length=(dN (IntKind.i64.wrap q.1)++eN (dV (dN (IntKind.i64.wrap q.2.1)))).length),(eT ((dN (IntKind.i64.wrap q.1)).length+(dN (IntKind.i64.wrap q.2.1)).length+(dN (IntKind.i64.wrap q.2.2.1)).length) 1 1=true),(0<(dN (IntKind.i64.wrap q.1)).length+(dN (IntKind.i64.wrap q.2.1)).length+(dN (IntKind.i64.wrap q.2.2.1)).length),((dN (IntKind.i64.wrap q.1)).length+(dN (IntKind.i64.wrap q.2.1)).length+(dN (IntKind.i64.wrap q.2.2.1)).length=(dN (IntKind.i64.wrap q.1)++eN (dV (dN (IntKind.i64.wrap q.2.1)))++eN (dV (dN (IntKind.i64.wrap q.2.2.1)))).length),(eT ((dN (IntKind.i64.wrap q.1)).length+(dN (IntKind.i64.wrap q.2.1)).length+(dN (IntKind.i64.wrap q.2.2.1)).length+(dN (IntKind.i64.wrap q.2.2.2.1)).length) 1 1=true),(0<(dN (IntKind.i64.wrap q.1)).length+(dN (IntKind.i64.wrap q.2.1)).length+(dN (IntKind.i64.wrap q.2.2.1)).length+(dN (IntKind.i64.wrap q.2.2.2.1)).length),((dN (IntKind.i64.wrap q.1)).length+(dN (IntKind.i64.wrap q.2.1)).length+(dN (IntKind.i64.wrap q.2.2.1)).length+(dN (IntKind.i64.wrap q.2.2.2.1)).length=(dN (IntKind.i64.wrap q.1)++eN (dV (dN (IntKind.i64.wrap q.2.1)))++eN (dV (dN (IntKind.i64.wrap q.2.2.1)))++eN (dV (dN (IntKind.i64.wrap q.2.2.2.1)))).length),(eT ((dN (IntKind.i64.wrap q.1)).length+(dN (IntKind.i64.wrap q.2.1)).length+(dN (IntKind.i64.wrap q.2.2.1)).length+(dN (IntKind.i64.wrap q.2.2.2.1)).length+(dN (IntKind.i64.wrap q.2.2.2.2.1)).length) 1 1=true),(0<(dN (IntKind.i64.wrap q.1)).length+(dN (IntKind.i64.wrap q.2.1)).length+(dN (IntKind.i64.wrap q.2.2.1)).length+(dN (IntKind.i64.wrap q.2.2.2.1)).length+(dN (IntKind.i64.wrap q.2.2.2.2.1)).length),((dN (IntKind.i64.wrap q.1)).length+(dN (IntKind.i64.wrap q.2.1)).length+(dN (IntKind.i64.wrap q.2.2.1)).length+(dN (IntKind.i64.wrap q.2.2.2.1)).length+(dN (IntKind.i64.wrap q.2.2.2.2.1)).length=(dN (IntKind.i64.wrap q.1)++eN (dV (dN (IntKind.i64.wrap q.2.1)))++eN (dV (dN (IntKind.i64.wrap q.2.2.1)))++eN (dV (dN (IntKind.i64.wrap q.2.2.2.1)))++eN (dV (dN (IntKind.i64.wrap q.2.2.2.2.1)))).length),(eT ((dN (IntKind.i64.wrap q.1)).length+(dN (IntKind.i64.wrap q.2.1)).length+(dN (IntKind.i64.wrap q.2.2.1)).length+(dN (IntKind.i64.wrap q.2.2.2.1)).length+(dN (IntKind.i64.wrap q.2.2.2.2.1)).length+(dN (IntKind.i64.wrap q.2.2.2.2.2.1)).length) 1 1=true),(0<(dN (IntKind.i64.wrap q.1)).length+(dN (IntKind.i64.wrap q.2.1)).length+(dN (IntKind.i64.wrap q.2.2.1)).length+(dN (IntKind.i64.wrap q.2.2.2.1)).length+(dN (IntKind.i64.wrap q.2.2.2.2.1)).length+(dN (IntKind.i64.wrap q.2.2.2.2.2.1)).length),((dN (IntKind.i64.wrap q.1)).length+(dN (IntKind.i64.wrap q.2.1)).length+(dN (IntKind.i64.wrap q.2.2.1)).length+(dN (IntKind.i64.wrap q.2.2.2.1)).length+(dN (IntKind.i64.wrap q.2.2.2.2.1)).length+(dN (IntKind.i64.wrap q.2.2.2.2.2.1)).length=(dN (IntKind.i64.wrap q.1)++eN (dV (dN (IntKind.i64.wrap q.2.1)))++eN (dV (dN (IntKind.i64.wrap q.2.2.1)))++eN (dV (dN (IntKind.i64.wrap q.2.2.2.1)))++eN (dV (dN (IntKind.i64.wrap q.2.2.2.2.1)))++eN (dV (dN (IntKind.i64.wrap q.2.2.2.2.2.1)))).length),(eT ((dN (IntKind.i64.wrap q.1)).length+(dN (IntKind.i64.wrap q.2.1)).length+(dN (IntKind.i64.wrap q.2.2.1)).length+(dN (IntKind.i64.wrap q.2.2.2.1)).length+(dN (IntKind.i64.wrap q.2.2.2.2.1)).length+(dN (IntKind.i64.wrap q.2.2.2.2.2.1)).length+(dN (IntKind.i64.wrap q.2.2.2.2.2.2.1)).length) 1 1=true),(0<(dN (IntKind.i64.wrap q.1)).length+(dN (IntKind.i64.wrap q.2.1)).length+(dN (IntKind.i64.wrap q.2.2.1)).length+(dN (IntKind.i64.wrap q.2.2.2.1)).length+(dN (IntKind.i64.wrap q.2.2.2.2.1)).length+(dN (IntKind.i64.wrap q.2.2.2.2.2.1)).length+(dN (IntKind.i64.wrap q.2.2.2.2.2.2.1)).length),((dN (IntKind.i64.wrap q.1)).length+(dN (IntKind.i64.wrap q.2.1)).length+(dN (IntKind.i64.wrap q.2.2.1)).length+(dN (IntKind.i64.wrap q.2.2.2.1)).length+(dN (IntKind.i64.wrap q.2.2.2.2.1)).length+(dN (IntKind.i64.wrap q.2.2.2.2.2.1)).length+(dN (IntKind.i64.wrap q.2.2.2.2.2.2.1)).length=(dN (IntKind.i64.wrap q.1)++eN (dV (dN (IntKind.i64.wrap q.2.1)))++eN (dV (dN (IntKind.i64.wrap q.2.2.1)))++eN (dV (dN (IntKind.i64.wrap q.2.2.2.1)))++eN (dV (dN (IntKind.i64.wrap q.2.2.2.2.1)))++eN (dV (dN (IntKind.i64.wrap q.2.2.2.2.2.1)))++eN (dV (dN (IntKind.i64.wrap q.2.2.2.2.2.2.1)))).length),(eT ((dN (IntKind.i64.wrap q.1)).length+(dN (IntKind.i64.wrap q.2.1)).length+(dN (IntKind.i64.wrap q.2.2.1)).length+(dN (IntKind.i64.wrap q.2.2.2.1)).length+(dN (IntKind.i64.wrap q.2.2.2.2.1)).length+(dN (IntKind.i64.wrap q.2.2.2.2.2.1)).length+(dN (IntKind.i64.wrap q.2.2.2.2.2.2.1)).length+(dN (IntKind.i64.wrap q.2.2.2.2.2.2.2)).length) 1 1=true),(0<(dN (IntKind.i64.wrap q.1)).length+(dN (IntKind.i64.wrap q.2.1)).length+(dN (IntKind.i64.wrap q.2.2.1)).length+(dN (IntKind.i64.wrap q.2.2.2.1)).length+(dN (IntKind.i64.wrap q.2.2.2.2.1)).length+(dN (IntKind.i64.wrap q.2.2.2.2.2.1)).length+(dN (IntKind.i64.wrap q.2.2.2.2.2.2.1)).length+(dN (IntKind.i64.wrap q.2.2.2.2.2.2.2)).length),((Int.ofNat ((dN (IntKind.i64.wrap q.1)).length+(dN (IntKind.i64.wrap q.2.1)).length+(dN (IntKind.i64.wrap q.2.2.1)).length+(dN (IntKind.i64.wrap q.2.2.2.1)).length+(dN (IntKind.i64.wrap q.2.2.2.2.1)).length+(dN (IntKind.i64.wrap q.2.2.2.2.2.1)).length+(dN (IntKind.i64.wrap q.2.2.2.2.2.2.1)).length+(dN (IntKind.i64.wrap q.2.2.2.2.2.2.2)).length))=(Int.ofNat (dN (IntKind.i64.wrap q.1)++eN (dV (dN (IntKind.i64.wrap q.2.1)))++eN (dV (dN (IntKind.i64.wrap q.2.2.1)))++eN (dV (dN (IntKind.i64.wrap q.2.2.2.1)))++eN (dV (dN (IntKind.i64.wrap q.2.2.2.2.1)))++eN (dV (dN (IntKind.i64.wrap q.2.2.2.2.2.1)))++eN (dV (dN (IntKind.i64.wrap q.2.2.2.2.2.2.1)))++eN (dV (dN (IntKind.i64.wrap q.2.2.2.2.2.2.2)))).length)/\0<(dN (IntKind.i64.wrap q.1)++eN (dV (dN (IntKind.i64.wrap q.2.1)))++eN (dV (dN (IntKind.i64.wrap q.2.2.1)))++eN (dV (dN (IntKind.i64.wrap q.2.2.2.1)))++eN (dV (dN (IntKind.i64.wrap q.2.2.2.2.1)))++eN (dV (dN (IntKind.i64.wrap q.2.2.2.2.2.1)))++eN (dV (dN (IntKind.i64.wrap q.2.2.2.2.2.2.1)))++eN (dV (dN (IntKind.i64.wrap q.2.2.2.2.2.2.2)))).length),((dN (IntKind.i64.wrap q.1)++eN (dV (dN (IntKind.i64.wrap q.2.1)))++eN (dV (dN (IntKind.i64.wrap q.2.2.1)))++eN (dV (dN (IntKind.i64.wrap q.2.2.2.1)))++eN (dV (dN (IntKind.i64.wrap q.2.2.2.2.1)))++eN (dV (dN (IntKind.i64.wrap q.2.2.2.2.2.1)))++eN (dV (dN (IntKind.i64.wrap q.2.2.2.2.2.2.1)))++eN (dV (dN (IntKind.i64.wrap q.2.2.2.2.2.2.2)))).length<=9223372036854775807)],
   .ret (.str (dN (IntKind.i64.wrap q.1)++eN (dV (dN (IntKind.i64.wrap q.2.1)))++eN (dV (dN (IntKind.i64.wrap q.2.2.1)))++eN (dV (dN (IntKind.i64.wrap q.2.2.2.1)))++eN (dV (dN (IntKind.i64.wrap q.2.2.2.2.1)))++eN (dV (dN (IntKind.i64.wrap q.2.2.2.2.2.1)))++eN (dV (dN (IntKind.i64.wrap q.2.2.2.2.2.2.1)))++eN (dV (dN (IntKind.i64.wrap q.2.2.2.2.2.2.2))))) (hL [(0,.ints .u32 (st)),(1,.ints .u32 (rd))]) 3)]
 :=cQ.of U U U
end
section
variable(st rd:List Int)(s p:aa)(q:E8)
def GD:aa:=QS (jP rd p q (p.length/64))
theorem cR:∀a∈([]:ah),a:=fun _ h=>absurd h aL
theorem vo(x:Int):(mh x).length=8:=rfl
theorem Fb:(mR s).length=(s.length-s.length/64*64)+1+gZ s+8:=by
 unfold mR;simp only[ax,bX,bg,bK,vo,aS,bQ,Nat.min_self]
theorem N8:∃k,(mR s).length=64*k:=by
 rw[Fb];unfold gZ;refine⟨((s.length-s.length/64*64)+1+((119-s.length%64)%64)+8)/64,?_⟩;omega
theorem ad5(p p1 b1:aa)(h1:List.drop 64 (List.take p.length p)=p1)(h2:List.drop 0 (List.take 64 p)=b1):c6 cs4 [(47,.split)] 3 Tryz.f38 [3,5] (dw (dw akl)) (IE st rd q p) [([((decide ((Int.ofNat p.length)>(0:Int))),true)],
   [((0:Int)<=(64:Int)/\(64:Int)<=(Int.ofNat p.length)),(64<=rd.length),(64<=b1.length),((0:Int)<=(64:Int)/\(64:Int)<=(Int.ofNat p.length))],
   .to .normal (IE st rd (y7 rd b1 q) p1)),
   ([((decide ((Int.ofNat p.length)>(0:Int))),false)],[],.to (.exit 2) (IE st rd q p))]:=by
 subst h1 h2;exact cQ.of U U U
theorem ad6(s p:aa)(i:Nat):c6 cs4 [(35,.split),(32,.dc (.int .i64 (Int.ofNat (i+64)))),(42,.dc (.int .i64 (Int.ofNat (i+64)))),(37,.dc (.int .i64 (Int.ofNat (i+64))))] 3 Tryz.f38 [0,3,5,6] (dw (dw (ee ad3))) (N7 st rd q s p i) [([((decide (Int.ofNat (i+64)<=(Int.ofNat s.length))),true)],
   [kT (Int.ofNat i+64) (i+64),kT (Int.ofNat i+64) (i+64),((0:Int)<=Int.ofNat (i+64)/\Int.ofNat (i+64)<=(Int.ofNat s.length)),((0:Int)<=Int.ofNat i/\Int.ofNat i<=(Int.ofNat (Int.ofNat (i+64)).toNat)),(64<=rd.length),(64<=(BL s i).length),kT (Int.ofNat i+64) (i+64)],
   .to .normal (N7 st rd (y7 rd (BL s i) q) s p (i+64))),
   ([((decide (Int.ofNat (i+64)<=(Int.ofNat s.length))),false)],[kT (Int.ofNat i+64) (i+64)],.to (.exit 0) (N7 st rd q s p i))]:=
 cQ.of U U U
theorem Mr{s:aa}{i:Nat}(h:i+64<=s.length):(BL s i).length=64:=by
 unfold BL;rw[bX,bg];omega
theorem N9(j:Nat):List.drop 64 (List.take (p.drop (64*j)).length (p.drop (64*j)))=p.drop (64*(j+1)):=by
 rw[aW,List.drop_drop,Nat.mul_succ]
theorem QU(j:Nat):List.drop 0 (List.take 64 (p.drop (64*j)))=BL p (64*j):=by
 unfold BL;rw[bw,List.drop_take];rw[Nat.add_sub_cancel_left]
theorem ad7(Y1:64<=rd.length)(q0:E8)(p:aa)(kp:Nat)(hkp:p.length=64*kp)(oz:p.length<=200):TG ak 3 Tryz.f38.ntmps UC (IE st rd q0 p)
  (fG ak 3 Tryz.f38 fun u _ _=>u= .str (GD rd p q0)):=by
 have hO:∀n:Nat,Int.ofNat n=(n:Int):=fun _=>rfl;have rE:GD rd p q0=QS (jP rd p q0 kp):=by unfold GD;rw[hkp,Nat.mul_div_cancel_left _ be]
 rw[rE];clear rE;refine cV U ?_;refine fg (i:=2) U (ff (Q1:=fun z s'=>z= .exit 2/\∃L,e9 3 L s'=some (IE st rd (jP rd p q0 kp) (p.drop (64*kp)))) (gl (fun k' s'=>∃j,k'=kp-j/\j<=kp/\∃L,e9 3 L s'=some (IE st rd (jP rd p q0 j) (p.drop (64*j)))) U ?_ kp ⟨0,rfl,aZ _,[3,5],U⟩) ?_)
 . rintro k' s1 ⟨j,hk,hj,L,fS⟩;refine c5 fS ?_;have iS:(p.drop (64*j)).length=64*kp-64*j:=by rw[bX,hkp]
   refine fZ X4 (ad5 st rd (jP rd p q0 j) (p.drop (64*j)) (p.drop (64*(j+1))) (BL p (64*j)) (N9 p j) (QU p j)) fun g hg hc=>?_;simp only[aE,aL,bu]at hg;rcases hg with rfl|rfl
   . have fF:j<kp:=by
      have:=aH (hc _ (aq.2 rfl));rw[hO,iS]at this;omega
     refine⟨fun p' Pe=>?_,fun s' dL=>⟨kp-(j+1),be,j+1,rfl,be,_,dL⟩⟩;simp only[aE,aL,bu]at Pe;rcases Pe with rfl|rfl|rfl|rfl
     . exact⟨dU,by rw[hO,iS];omega⟩
     . exact Y1
     . rw[Mr be];exact aA _
     . exact⟨dU,by rw[hO,iS];omega⟩
   . have zJ:¬j<kp:=by
      have:=aK (hc _ (aq.2 rfl));rw[hO,iS]at this;omega
     obtain rfl:j=kp:=by omega
     exact⟨cR,fun s' dL=>⟨rfl,_,dL⟩⟩
 rintro y s2 ⟨rfl,L,jg⟩;rw[dX];simp only[andThen];refine c5 jg ?_;refine fB X4 (akp st rd (jP rd p q0 kp) (p.drop (64*kp))) (dG ?_);refine⟨?_,_,_,_,rfl,rfl⟩
 repeat' (first|exact cR|refine jw ?_ ?_)
 all_goals first|exact au U|exact⟨U,au U⟩|kernel_rfl
theorem akq(st rd:List Int)(Bm:8<=st.length)(Y1:64<=rd.length)(s:aa)(hs:s.length<=1000000000):TG ak 3 Tryz.f38.ntmps UB (cS [.str s] (D0 st rd) 3)
  (fG ak 3 Tryz.f38 fun u _ _=>u= .str (QT st rd s)):=by
 have hO:∀n:Nat,Int.ofNat n=(n:Int):=fun _=>rfl;have hz:gZ s<64:=by unfold gZ;omega
 refine iL  4 X4 (akn st rd s) ?_ ?_
 . intro p hp;simp only[aE,aL,bu]at hp;rcases hp with rfl|rfl|rfl|rfl|rfl|rfl|rfl|rfl|rfl|rfl|rfl|rfl|rfl
   . exact Bm
   . rfl
   . have e:IntKind.i64.wrap ((119:Int)-Int.ofNat (s.length%64))=Int.ofNat (119-s.length%64):=by
      rw[fH dh dh,hO,hO];omega
     rw[e];rfl
   . decide
   . have e:(Int.ofNat s.length).tdiv 64=Int.ofNat (s.length/64):=rfl;rw[e,fH (x:=Int.ofNat (s.length/64)) dh dh];exact fE dh be
   . exact⟨az _,dh⟩
   . simp only[bX,bg,Nat.min_self];omega
   . exact⟨az _,dh⟩
   . exact⟨az _,dh⟩
   . simp only[ax,bX,bg,bK,aS,bQ,Nat.min_self,hO,Int.toNat_natCast];omega
   . exact fE dh be
   . exact⟨az _,dh⟩
   . simp only[ax,bX,bg,bK,aS,bQ,Nat.min_self,hO,Int.toNat_natCast,vo];omega
 show TG ak 3 Tryz.f38.ntmps ZH (ad4 st rd (KG st) s (mR s)) _;refine cV U ?_;obtain⟨L2,Fc⟩:=ako st rd (KG st) s (mR s);refine yZ X4 mo kS U U Fc (dG ?_);refine⟨fun p hp=>by rw[aq]at hp;subst hp;rfl,fun s' dL=>?_⟩;have dL:e9 3 [0,3,5,6] s'=some (N7 st rd (jP rd s (KG st) 0) s (mR s) (64*0)):=dL;refine fg (i:=0) U (ff (Q1:=fun z s'=>z= .exit 0/\∃L,e9 3 L s'=some (N7 st rd (jP rd s (KG st) (s.length/64)) s (mR s) (64*(s.length/64)))) (gl (fun k' s'=>∃j,k'=s.length/64-j/\j<=s.length/64/\∃L,e9 3 L s'=some (N7 st rd (jP rd s (KG st) j) s (mR s) (64*j))) U ?_ (s.length/64) ⟨0,rfl,aZ _,_,dL⟩) ?_)
 . rintro k' s1 ⟨j,hk,hj,L,fS⟩;refine c5 fS ?_;refine fZ X4 (ad6 st rd (jP rd s (KG st) j) s (mR s) (64*j)) fun g hg hc=>?_;simp only[aE,aL,bu]at hg;rcases hg with rfl|rfl
   . have fF:64*j+64<=s.length:=by
      have:=aH (hc _ (aq.2 rfl));rw[hO,hO]at this;omega
     refine⟨fun p hp=>?_,fun s' dL=>⟨s.length/64-(j+1),be,j+1,rfl,be,_,dL⟩⟩;simp only[aE,aL,bu]at hp;rcases hp with rfl|rfl|rfl|rfl|rfl|rfl|rfl
     . exact fE dh be
     . exact fE dh be
     . exact⟨az _,dh⟩
     . exact⟨az _,by simp only[hO,Int.toNat_natCast];omega⟩
     . exact Y1
     . rw[Mr fF];exact aA _
     . exact fE dh be
   . have zJ:¬64*j+64<=s.length:=by
      have:=aK (hc _ (aq.2 rfl));rw[hO,hO]at this;omega
     obtain rfl:j=s.length/64:=by omega
     refine⟨fun p hp=>?_,fun s' dL=>⟨rfl,_,dL⟩⟩;rw[aq]at hp;subst hp;exact fE dh be
 rintro y s2 ⟨rfl,L,jg⟩;rw[dX];simp only[andThen];refine c5 jg ?_;refine c5 (live:=[3,5]) (s2:=IE st rd (jP rd s (KG st) (s.length/64)) (mR s)) U ?_;show TG ak 3 Tryz.f38.ntmps UC _ (fG ak 3 Tryz.f38 fun u _ _=>u= .str (GD rd (mR s) (jP rd s (KG st) (s.length/64))));obtain⟨kp,hkp⟩:=N8 s;have oz:(mR s).length<=200:=by rw[Fb];omega
 exact ad7 st rd Y1 _ _ kp hkp oz
end
def gS:List Int:=[1779033703,3144134277,1013904242,2773480762,1359893119,2600822924,528734635,1541459225]
def gR:List Int:=[1116352408,1899447441,3049323471,3921009573,961987163,1508970993,2453635748,2870763221,3624381080,310598401,607225278,1426881987,1925078388,2162078206,2614888103,3248222580,3835390401,4022224774,264347078,604807628,770255983,1249150122,1555081692,1996064986,2554220882,2821834349,2952996808,3210313671,3336571891,3584528711,113926993,338241895,666307205,773529912,1294757372,1396182291,1695183700,1986661051,2177026350,2456956037,2730485921,2820302411,3259730800,3345764771,3516065817,3600352804,4094571909,275423344,430227734,506948616,659060556,883997877,958139571,1322822218,1537002063,1747873779,1955562222,2024104815,2227730452,2361852424,2428436474,2756734187,3204031479,3329325298]
def Ej(s:aa):aa:=QT gS gR s
def KH(h:Tr O):Option (List Int×List Int):=match h.get 0,h.get 1 with
 |some (.ints .u32 st),some (.ints .u32 rd)=>some (st,rd)
 |_,_=>none
theorem Aq{h:Tr O}{st rd:List Int}(e:KH h=some (st,rd)):h.get 0=some (.ints .u32 st)/\h.get 1=some (.ints .u32 rd):=by
 unfold KH at e;split at e
 . rename_i a b h0 h1;obtain⟨rfl,rfl⟩:=fc e;exact⟨h0,h1⟩
 . cases e
def KI:ag->Tr O->Option (ah×V)
 | [.str s],h=>match KH h with
   |some (st,rd)=>some ([st=gS,rd=gR,s.length<=1000000000],.str (Ej s))
   |none=>none
 |_,_=>none
theorem Fe{E:Env}{h:Tr O}{w:World}{st rd:List Int}(g0:Eng.Good E h w)(h0:h.get 0=some (.ints .u32 st))(h1:h.get 1=some (.ints .u32 rd)):
  Eng.Good (E.rows TJ) (D0 st rd) w/\qN (E.rows TJ) 3/\∀m,¬eC (D0 st rd) m:=
 Mm g0 TJ [some (.u32,st),some (.u32,rd),none] (au rfl) QL (by
  intro j k' Xi hj
  match j,hj with
  |0,hj=>cases hj;exact⟨0,0,st,rfl,h0,rfl⟩
  |1,hj=>cases hj;exact⟨1,0,rd,rfl,h1,rfl⟩
  |2,hj=>cases hj
  |j+3,hj=>simp at hj)
theorem ZI:Qo ak 38 KI:=by
 refine⟨au U,fun args h A u e=>?_⟩;unfold KI at e;split at e
 case h_2=>cases e
 rename_i s;split at e
 case h_2=>cases e
 rename_i st rd ht;obtain⟨h0,h1⟩:=Aq ht;obtain⟨rfl,rfl⟩:=fc e;refine⟨rfl,fun hA E n' w' c9 ra g0 hd hc=>?_⟩;have e1:st=gS:=hA _ (by simp);have e2:rd=gR:=hA _ (by simp);have e3:s.length<=1000000000:=hA (s.length<=1000000000) (by simp);subst e1 e2;obtain⟨g2,d2,n2⟩:=Fe g0 h0 h1;exact CV mo po Tryz.func38 (code:=UB) U U (akq gS gR (au rfl) (au rfl) s e3) (E:=E.rows TJ) g2 d2 n2 (mP _ _ rfl ra)
noncomputable abbrev W5:jQ:=kB 38 (Ml KI) W4
theorem XO:gd ak W5:=fk (Iw ZI) XN
noncomputable abbrev cs5:fb:=gI ak W5 H0 1000 40
noncomputable abbrev X5:CX ak:=CX.of mo po XO H0 1000 40
theorem gk(u:aa):eN (dV u)=u:=by
 induction u with
 |nil=>rfl
 |cons x u ih=>
  show UInt8.ofNat ((x.toNat:Int)).toNat::eN (dV u)=x::u;rw[ih];simp
noncomputable abbrev ZJ:Code:=dP Tryz.f22
noncomputable abbrev ZK:Code:=de 2 ZJ
noncomputable abbrev ZL:Code:=dK ZK
noncomputable abbrev akr:Code:=ee ZK
section
variable(f:Bool)(ps:List (aa))(i cO:Nat)(gr:aa)
def hT:af:=[(0,.ints .u32 gS),(1,.ints .u32 gR)]
def strs:ai:=ps.map .str
def sJ0:St:=eF [(3,.ptr (some (3,0))),(6,.dO f ps.length (strs ps)),(7,.int .i64 (Int.ofNat ps.length)),(8,.int .i64 (Int.ofNat 0))] (hL [(0,.ints .u32 gS),(1,.ints .u32 gR),(3,.Bj 102 false (.dj none 0 0 0))]) 4
def ZM:St:=eF [(3,.ptr (some (3,0))),(6,.dO f ps.length (strs ps)),(7,.int .i64 (Int.ofNat ps.length)),(8,.int .i64 (Int.ofNat i))] (hL [(0,.ints .u32 gS),(1,.ints .u32 gR),(3,.Bj 102 true (.dj (some (4,0)) cO cO 1)),(4,.iU 5 false gr)]) 5
def sJa:St:=eF [(0,.dO f ps.length (strs ps)),(3,.ptr (some (3,0)))] (hL [(0,.ints .u32 gS),(1,.ints .u32 gR),(3,.Bj 102 false (.dj none 0 0 0))]) 4
theorem aks:c6 cs5 [] 3 Tryz.f22 [0,3] (eR 2 ZJ) (cS [.dO f ps.length (strs ps)] (D0 gS gR) 3) [([],
   [],
   .to .normal (eF [(0,.dO (f) (ps.length) (strs ps)),(3,.ptr (some (3,0)))] (hL [(0,.ints .u32 gS),(1,.ints .u32 gR),(3,.Bj 102 false (.dj none 0 0 0))]) 4))]
 :=cQ.of U U U
theorem ad9:c6 cs5 [(8,.dc (.int .i64 (Int.ofNat 0)))] 3 Tryz.f22 [3,6,7,8] (dK ZL) (sJa f ps) [([],
   [(V.int aj (0:Int)=V.int aj (0:Int))],
   .to .normal (eF [(3,.ptr (some (3,0))),(6,.dO (f) (ps.length) (strs ps)),(7,.int .i64 ((Int.ofNat ps.length))),(8,.int .i64 0)] (hL [(0,.ints .u32 gS),(1,.ints .u32 gR),(3,.Bj 102 false (.dj none 0 0 0))]) 4))]
 :=cQ.of U U U
theorem akt:c6 cs5 [] 3 Tryz.f22 [] (akr) (ZM f ps i cO gr) [([],
   [(0<cO),((Int.ofNat cO)=(Int.ofNat gr.length)/\0<gr.length),(gr.length<=9223372036854775807),(gS=gS),(gR=gR),(gr.length<=1000000000)],
   .ret (.str (Ej gr)) (hL [(0,.ints .u32 gS),(1,.ints .u32 gR)]) 3)]
 :=cQ.of U U U
end
section
variable(f:Bool)(ps:List (aa))
def eH:aa:=ps.flatMap fun p=>mh (Int.ofNat p.length)++p
theorem tH{ps:List (aa)}{i:Nat}{p:aa}(h:ps[i]? =some p):eH (ps.take (i+1))=eH (ps.take i)++mh (Int.ofNat p.length)++p:=by
 have fF:i<ps.length:=(aF.1 h).1;have e:ps.take (i+1)=ps.take i++[p]:=by
  rw[bJ,h];rfl
 unfold eH;rw[e,List.flatMap_append];simp
theorem QV(i:Nat):(eH (ps.take i)).length<=(eH ps).length:=by
 have:eH ps=eH (ps.take i)++eH (ps.drop i):=by
  unfold eH;rw[<- List.flatMap_append,ck]
 rw[this,ax];omega
theorem jn{k:Nat}(h:k<=100000000000):eT k 1 1=true:=by
 unfold eT;exact bM ⟨be,be⟩
theorem eJ:(strs ps).length=ps.length:=aY ..
theorem fI{ps:List (aa)}{i:Nat}{p:aa}(h:ps[i]? =some p):dx (strs ps) (i*1) 1=[D.str p]:=by
 unfold dx strs;rw[bk];have fF:i<ps.length:=(aF.1 h).1;have:(ps.drop i).take 1=[p]:=by
  rw[bF fF];have:ps[i]=p:=(aF.1 h).2;simp[this]
 rw[<- List.map_drop,<- cL,this];rfl
theorem aea(p gr:aa)(h:mh (Int.ofNat p.length)++eN (dV p)=gr):c6 cs5 [(9,.split),(10,.dc (.dm [.str p])),(18,.dc (.int .i64 (Int.ofNat 1)))] 3 Tryz.f22 [3,6,7,8] (dw (dw (ee ZL))) (sJ0 f ps) [([((decide ((0:Int)<Int.ofNat ps.length)),true)],
   [((0:Int)<=(0:Int)/\(0:Int)<(Int.ofNat ps.length)),((strs ps).length=ps.length*1),(V.dm (dx (strs ps) 0 1)=V.dm [D.str p]),(0<(mh (Int.ofNat p.length)).length),(eT (mh (Int.ofNat p.length)).length 1 1=true),(0<(mh (Int.ofNat p.length)).length),((mh (Int.ofNat p.length)).length=(mh (Int.ofNat p.length)).length),(eT ((mh (Int.ofNat p.length)).length+p.length) 1 1=true),(V.int aj (1:Int)=V.int aj (1:Int))],
   .to .normal (ZM f ps 1 ((mh (Int.ofNat p.length)).length+p.length) gr)),
  ([((decide ((0:Int)<Int.ofNat ps.length)),false)],[],.to (.exit 0) (sJ0 f ps))]:=by
 subst h;exact cQ.of U U U
theorem XR(p:aa)(i cO:Nat)(gr aeb:aa)(h:gr++eN (dV (mh (Int.ofNat p.length)))++eN (dV p)=aeb):c6 cs5 [(9,.split),(10,.dc (.dm [.str p])),(18,.dc (.int .i64 (Int.ofNat (i+1))))] 3 Tryz.f22 [3,6,7,8] (dw (dw (ee ZL))) (ZM f ps i cO gr) [([((decide (Int.ofNat i<Int.ofNat ps.length)),true)],
   [((0:Int)<=Int.ofNat i/\Int.ofNat i<(Int.ofNat ps.length)),((strs ps).length=ps.length*1),(V.dm (dx (strs ps) ((Int.ofNat i).toNat*1) 1)=V.dm [D.str p]),(0<cO),(cO=gr.length),(eT (cO+(mh (Int.ofNat p.length)).length) 1 1=true),(0<cO+(mh (Int.ofNat p.length)).length),(cO+(mh (Int.ofNat p.length)).length=(gr++eN (dV (mh (Int.ofNat p.length)))).length),(eT (cO+(mh (Int.ofNat p.length)).length+p.length) 1 1=true),kT (Int.ofNat i+1) (i+1)],
   .to .normal (ZM f ps (i+1) (cO+(mh (Int.ofNat p.length)).length+p.length) aeb)),
  ([((decide (Int.ofNat i<Int.ofNat ps.length)),false)],[],.to (.exit 0) (ZM f ps i cO gr))]:=by
 subst h;exact cQ.of U U U
def JoI(k':Nat)(s:St):Prop:=∃i,k'=ps.length-i/\i<=ps.length/\((i=0/\∃L,e9 3 L s=some (sJ0 f ps))\/(0<i/\∃L,e9 3 L s=some (ZM f ps i (eH (ps.take i)).length (eH (ps.take i)))))
theorem aku(h0:0<ps.length)(Ho:ps.length<=1000000000)(hs:(eH ps).length<=1000000000):TG ak 3 Tryz.f22.ntmps ZJ (cS [.dO f ps.length (strs ps)] (D0 gS gR) 3)
  (fG ak 3 Tryz.f22 fun u _ _=>u= .str (Ej (eH ps))):=by
 have hO:∀n:Nat,Int.ofNat n=(n:Int):=fun _=>rfl;have hb:=QV ps;have QW:=fun x=>vo x;refine iL  2 X5 (aks f ps) cR ?_;show TG ak 3 Tryz.f22.ntmps ZK (sJa f ps) _;refine cV U ?_;refine cV U ?_;refine fZ X5 (ad9 f ps) (dG ?_);refine⟨fun p hp=>by rw[aq]at hp;subst hp;rfl,fun s' dL=>?_⟩;have dL:e9 3 [3,6,7,8] s'=some (sJ0 f ps):=dL;refine fg (i:=0) U (ff (Q1:=fun z s'=>z= .exit 0/\∃L,e9 3 L s'=some (ZM f ps ps.length (eH ps).length (eH ps))) (gl (JoI f ps) U ?_ ps.length ⟨0,rfl,aZ _,.inl ⟨rfl,_,dL⟩⟩) ?_)
 . rintro k' s1 ⟨i,hk,hi,⟨rfl,L,fS⟩|⟨h1,L,fS⟩⟩
   . refine c5 fS ?_;obtain⟨p,hp⟩:∃p,ps[0]? =some p:=⟨_,ay h0⟩;have hj:=tH hp;have hj:eH (ps.take 1)=mh (Int.ofNat p.length)++p:=hj;have yA:=hb 1;rw[hj,ax,QW]at yA;refine fZ X5 (aea f ps p (eH (ps.take 1)) (by rw[gk,hj])) fun g hg hc=>?_;simp only[aE,aL,bu]at hg;rcases hg with rfl|rfl
     . refine⟨fun p' Pe=>?_,fun s' dL=>⟨ps.length-1,be,1,rfl,be,.inr ⟨be,[3,6,7,8],?_⟩⟩⟩
       . revert p' Pe
         repeat' (first|exact cR|refine jw ?_ ?_)
         . exact⟨dU,dh⟩
         . rw[eJ,bk]
         . exact aM V.dm (fI hp)
         . rw[QW];decide
         . rw[QW];rfl
         . rw[QW];decide
         . first|rfl|trivial
         . rw[QW];exact jn be
         . first|rfl|trivial
       . rw[dL,hj,ax]
     . exact absurd (aK (hc _ (aq.2 rfl))) dh
   . refine c5 fS ?_;rcases bP i ps.length with fF|zJ
     . obtain⟨p,hp⟩:∃p,ps[i]? =some p:=⟨_,ay fF⟩;have hj:=tH hp;have yA:=hb (i+1);rw[hj,ax,ax,QW]at yA;have mF:0<(eH (ps.take i)).length:=by
        obtain⟨j,rfl⟩:∃j,i=j+1:=⟨i-1,be⟩;rw[tH (ay (show j<ps.length by omega)),ax,ax,QW];omega
       refine fZ X5 (XR f ps p i (eH (ps.take i)).length (eH (ps.take i)) (eH (ps.take (i+1))) (by rw[gk,gk,hj])) fun g hg hc=>?_;simp only[aE,aL,bu]at hg;rcases hg with rfl|rfl
       . refine⟨fun p' Pe=>?_,fun s' dL=>⟨ps.length-(i+1),be,i+1,rfl,be,.inr ⟨be,[3,6,7,8],?_⟩⟩⟩
         . revert p' Pe
           repeat' (first|exact cR|refine jw ?_ ?_)
           . exact⟨az _,dh⟩
           . rw[eJ,bk]
           . exact aM V.dm (fI hp)
           . exact mF
           . first|rfl|trivial
           . rw[QW];exact jn be
           . rw[QW];omega
           . rw[gk,ax]
           . rw[QW];exact jn be
           . exact fE dh be
         . rw[dL,hj,ax,ax]
       . exact absurd (aK (hc _ (aq.2 rfl))) dh
     . obtain rfl:i=ps.length:=by omega
       refine fZ X5 (XR f ps [] ps.length (eH (ps.take ps.length)).length (eH (ps.take ps.length)) _ rfl) fun g hg hc=>?_;simp only[aE,aL,bu]at hg;rcases hg with rfl|rfl
       . exact absurd (aH (hc _ (aq.2 rfl))) dh
       . refine⟨cR,fun s' dL=>⟨rfl,[3,6,7,8],?_⟩⟩;rw[dL,aW]
 rintro y s2 ⟨rfl,L,jg⟩;rw[dX];simp only[andThen];refine c5 jg ?_;have mF:0<(eH ps).length:=by
  have hj:=tH (ay h0);have yA:=hb 1;rw[hj,ax,ax,QW]at yA;omega
 refine fB X5 (akt f ps ps.length (eH ps).length (eH ps)) (dG ?_);refine⟨fun p' Pe=>?_,_,_,_,rfl,rfl⟩;revert p' Pe
 repeat' (first|exact cR|refine jw ?_ ?_)
 . exact mF
 . exact⟨rfl,mF⟩
 . omega
 . first|rfl|trivial
 . first|rfl|trivial
 . exact hs
end
def QX(f:FuncId)(args:ag)(v:V):Prop:=∀E h n w c9,KH h=some (gS,gR)->dI E args c9->Eng.Good E h w->qN E n->Calls ak f c9.toArray w (jX E h n w (.ret v) h n)
def tW(f:ai->Option (ah×V)):ag->Tr O->Nat->Option (ah×V×Tr O×Nat):=fun args h n=>match KH h,E9 args with
 |some (st,rd),some ds=>match f ds with
  |some (A,v)=>some ((st=gS)::(rd=gR)::A,v,h,n)
  |none=>none
 |_,_=>none
theorem QY{f:FuncId}{spec:ai->Option (ah×V)}(fF:f<Tryz.prog.funcs.size)(h:∀args A v,spec args=some (A,v)->(∀a∈A,a)->QX f (args.map D.iJ) v):jL ak f (tW spec):=by
 refine⟨fF,fun args h' n A v h2 n2 e hA E w c9 ra g hd hc=>?_⟩;unfold tW at e;split at e
 case h_2=>cases e
 rename_i st rd ds ht hds;split at e
 case h_2=>cases e
 rename_i A' v' hs;simp only[an,aB]at e;obtain⟨rfl,rfl,rfl,rfl⟩:=e;have e1:st=gS:=hA _ (by simp);have e2:rd=gR:=hA _ (by simp);subst e1 e2;exact h ds _ _ hs (fun a ha=>hA a (by simp[ha])) E h' n w c9 ht (Al hds ra) g hd
theorem xI{f:FuncId}{fn:Func}{code:Code}(hf:Tryz.prog.funcs[f]? =some fn)(hb:fn.body=some code){args:ag}
  (l:(Nat.ble args.length fn.ntmps&&Nat.blt fn.ntmps fL)=true) {v:V} (hdp:V.qF args=true) (hv:v.deep=true) (hT:TG ak 3 fn.ntmps code (cS args (D0 gS gR) 3) (fG ak 3 fn (nG v))):QX f args v:=by
 intro E h n w c9 ht ra g hd;obtain⟨h0,h1⟩:=Aq ht;obtain⟨g0,d0,n0⟩:=Fe g h0 h1;have ra0:dI (E.rows TJ) args c9:=oo (E:=E) (E':=E.rows TJ) (fun _ _ q=>q) _ _ hdp ra;exact(oK mo po hf hb l _ hT ra0 g0 d0).mono fun e w' ⟨u,h',n',hz,k⟩=>C3 (E1:=E.rows TJ) g hd rfl n0 hv hz k
theorem kg{P:Program}{n0:Nat}{fn:Func}{v:V}{y:Exit}{s:St}(h:fG P n0 fn (fun u _ _=>u=v) y s):fG P n0 fn (nG v) y s:=by
 obtain⟨hy,u,h',n',e,rfl⟩:=h;exact⟨hy,_,h',n',e,.self⟩
def D.ZN:D->aa
 | .str p=>p
 |_=>[]
def dH(cs:ai):List (aa):=cs.map D.ZN
theorem ik(ps:List (aa)):dH (strs ps)=ps:=by
 unfold dH strs;rw[List.map_map];exact List.map_id ps
def KJ:ai->Option (ah×V)
 | [.dO n cs]=>some ([cs=strs (dH cs),n=(dH cs).length,0<n,n<=1000000000,(eH (dH cs)).length<=1000000000],.str (Ej (eH (dH cs))))
 |_=>none
theorem ZO:jL ak 22 (tW KJ):=by
 refine QY (au U) fun args A v e hA=>?_;unfold KJ at e;split at e
 case h_2=>cases e
 rename_i n cs;simp only[an,aB]at e;obtain⟨rfl,rfl⟩:=e;have e1:cs=strs (dH cs):=hA _ (by simp);have e2:n=(dH cs).length:=hA (n=(dH cs).length) (by simp);have e3:0<n:=hA (0<n) (by simp);have e4:n<=1000000000:=hA (n<=1000000000) (by simp);have e5:(eH (dH cs)).length<=1000000000:=hA ((eH (dH cs)).length<=1000000000) (by simp);generalize dH cs=ps at *;subst e1 e2;exact xI Tryz.func22 U U rfl rfl (ff (aku false ps e3 e4 e5) fun y s h=>kg h)
noncomputable abbrev W6:jQ:=kB 22 (tW KJ) W5
theorem XS:gd ak W6:=fk ZO XO
noncomputable abbrev cs6:fb:=gI ak W6 H0 1000 40
noncomputable abbrev X6:CX ak:=CX.of mo po XS H0 1000 40
noncomputable abbrev ZP:Code:=dP Tryz.f45
noncomputable abbrev ZQ:Code:=de 2 ZP
noncomputable abbrev aec:Code:=dK ZQ
noncomputable abbrev akv:Code:=ee ZQ
section
variable(rs:List (aa))(n:Nat)(ds:ai)
def sN0(d:aa)(o:O):St:=eF [(1,.dO false rs.length (strs rs)),(5,.dj (some (3,0)) 1 1 1)] (hL [(0,.ints .u32 gS),(1,.ints .u32 gR),(3,o)]) 4
def sN1(i cO:Nat):St:=eF [(5,.dj (some (3,0)) cO cO 1),(10,.dO false rs.length (strs rs)),(11,.int .i64 (Int.ofNat rs.length)),(12,.int .i64 (Int.ofNat i))] (hL [(0,.ints .u32 gS),(1,.ints .u32 gR),(3,.deep ds)]) 4
def sN2:St:=eF [(5,.dO false n ds)] (hL [(0,.ints .u32 gS),(1,.ints .u32 gR)]) 3
theorem akw(d:aa):c6 cs6 [] 3 Tryz.f45 [1,5] (eR 2 ZP) (cS [.str d,.dO false rs.length (strs rs)] (D0 gS gR) 3) [([],
   [],
   .to .normal (eF [(1,.dO false (rs.length) (strs rs)),(5,.dj (some (3,0)) 1 1 1)] (hL [(0,.ints .u32 gS),(1,.ints .u32 gR),(3,.cells [.str (d)])]) 4))]
 :=cQ.of U U U
theorem akx(d:aa)(ds:ai):c6 cs6 [(12,.dc (.int .i64 (Int.ofNat 0)))] 3 Tryz.f45 [5,10,11,12] (dK aec) (sN0 rs d (.deep ds)) [([],
   [(V.int aj (0:Int)=V.int aj (0:Int))],
   .to .normal (eF [(5,.dj (some (3,0)) 1 1 1),(10,.dO false (rs.length) (strs rs)),(11,.int .i64 ((Int.ofNat rs.length))),(12,.int .i64 0)] (hL [(0,.ints .u32 gS),(1,.ints .u32 gR),(3,.deep (ds))]) 4))]
 :=cQ.of U U U
theorem aky(qs:List (aa))(n:Nat):c6 cs6 [] 3 Tryz.f45 [] (akv) (sN2 n (strs qs)) [([],
   [(gS=gS),(gR=gR),(strs qs=strs (dH (strs qs))),(n=(dH (strs qs)).length),(0<n),(n<=1000000000),((eH (dH (strs qs))).length<=1000000000)],
   .ret (.str (Ej (eH (dH (strs qs))))) (hL [(0,.ints .u32 gS),(1,.ints .u32 gR)]) 3)]
 :=cQ.of U U U
end
def dM(d:aa)(rs:List (aa)):aa:=Ej (eH (d::rs))
theorem KK(d:aa)(rs:List (aa)):(dM d rs).length=32:=rfl
theorem pV{k:Nat}(h:k<=1000000000):eT k 1 16=true:=by
 unfold eT;exact bM ⟨be,be⟩
section
variable(rs:List (aa))
theorem XV(ds ds2:ai)(p:aa)(i cO:Nat)(h:List.take (cO*1) (List.drop 0 ds)++[D.str p]=ds2):c6 cs6 [(13,.split),(14,.dc (.dm [.str p])),(20,.dc (.int .i64 (Int.ofNat (i+1))))] 3 Tryz.f45 [5,10,11,12] (dw (dw (ee aec))) (sN1 rs ds i cO) [([((decide (Int.ofNat i<Int.ofNat rs.length)),true)],
   [((0:Int)<=Int.ofNat i/\Int.ofNat i<(Int.ofNat rs.length)),((strs rs).length=rs.length*1),(V.dm (dx (strs rs) ((Int.ofNat i).toNat*1) 1)=V.dm [D.str p]),(0+cO*1<=ds.length),(0<1),(eT (cO+1) 1 16=true),kT (Int.ofNat i+1) (i+1)],
   .to .normal (sN1 rs ds2 (i+1) (cO+1))),
  ([((decide (Int.ofNat i<Int.ofNat rs.length)),false)],[],.to (.exit 0) (sN1 rs ds i cO))]:=by
 subst h;exact cQ.of U U U
theorem Oa(d:aa){rs:List (aa)}{i:Nat}{p:aa}(h:rs[i]? =some p):List.take ((i+1)*1) (List.drop 0 (strs (d::rs.take i)))++[D.str p]=strs (d::rs.take (i+1)):=by
 have fF:i<rs.length:=(aF.1 h).1;rw[bw,bk,br (by rw[eJ,aS,bg];omega),bJ,h];unfold strs;simp
theorem akz(d:aa)(Nq:rs.length<=1000000)(hs:(eH (d::rs)).length<=1000000000):TG ak 3 Tryz.f45.ntmps ZP (cS [.str d,.dO false rs.length (strs rs)] (D0 gS gR) 3)
  (fG ak 3 Tryz.f45 fun u _ _=>u= .str (dM d rs)):=by
 have hO:∀n:Nat,Int.ofNat n=(n:Int):=fun _=>rfl;refine iL  2 X6 (akw rs d) cR ?_;refine tF [3] (s2:=sN0 rs d (.deep [.str d])) U ?_;show TG ak 3 Tryz.f45.ntmps ZQ _ _;refine cV U ?_;refine cV U ?_;refine fZ X6 (akx rs d [.str d]) (dG ?_);refine⟨fun p hp=>by rw[aq]at hp;subst hp;rfl,fun s' dL=>?_⟩;have dL:e9 3 [5,10,11,12] s'=some (sN1 rs (strs (d::rs.take 0)) 0 1):=dL;refine fg (i:=0) U (ff (Q1:=fun z s'=>z= .exit 0/\∃L,e9 3 L s'=some (sN1 rs (strs (d::rs)) rs.length (rs.length+1))) (gl (fun k' s=>∃i,k'=rs.length-i/\i<=rs.length/\∃L,e9 3 L s=some (sN1 rs (strs (d::rs.take i)) i (i+1))) U ?_ rs.length ⟨0,rfl,aZ _,_,dL⟩) ?_)
 . rintro k' s1 ⟨i,hk,hi,L,fS⟩;refine c5 fS ?_;rcases bP i rs.length with fF|zJ
   . obtain⟨p,hp⟩:∃p,rs[i]? =some p:=⟨_,ay fF⟩;refine fZ X6 (XV rs (strs (d::rs.take i)) _ p i (i+1) (Oa d hp)) fun g hg hc=>?_;simp only[aE,aL,bu]at hg;rcases hg with rfl|rfl
     . refine⟨?_,fun s' dL=>⟨rs.length-(i+1),be,i+1,rfl,be,_,dL⟩⟩
       repeat' (first|exact cR|refine jw ?_ ?_)
       . exact⟨az _,dh⟩
       . rw[eJ,bk]
       . exact aM V.dm (fI hp)
       . rw[eJ,aS,bg];omega
       . decide
       . exact pV be
       . exact fE dh be
     . exact absurd (aK (hc _ (aq.2 rfl))) dh
   . obtain rfl:i=rs.length:=by omega
     refine fZ X6 (XV rs (strs (d::rs.take rs.length)) _ [] rs.length (rs.length+1) rfl) fun g hg hc=>?_;simp only[aE,aL,bu]at hg;rcases hg with rfl|rfl
     . exact absurd (aH (hc _ (aq.2 rfl))) dh
     . refine⟨cR,fun s' dL=>⟨rfl,[5,10,11,12],?_⟩⟩;rw[dL,aW]
 rintro y s2 ⟨rfl,L,jg⟩;rw[dX];simp only[andThen];refine c5 jg ?_;refine c5 (live:=[5]) (s2:=eF [(5,.dj (some (3,0)) (rs.length+1) (rs.length+1) 1)] (hL [(0,.ints .u32 gS),(1,.ints .u32 gR),(3,.deep (strs (d::rs)))]) 4) U ?_;refine xH [3] (A:=[(strs (d::rs)).length=(rs.length+1)*1]) (s2:=eF [(5,.dO false (rs.length+1) (strs (d::rs)))] ((hL [(0,.ints .u32 gS),(1,.ints .u32 gR),(3,.deep (strs (d::rs)))]).set 3 none) 4) U (fun x hx=>?_) ?_
 . rw[aq]at hx;subst hx;rw[eJ,bk];rfl
 refine c5 (live:=[5]) (s2:=sN2 (rs.length+1) (strs (d::rs))) U ?_;obtain⟨L5,uj⟩:=aky (d::rs) (rs.length+1);rw[ik]at uj;refine gY X6 mo _ U uj (dG ?_);refine⟨?_,_,_,_,rfl,rfl⟩
 repeat' (first|exact cR|refine jw ?_ ?_)
 . first|rfl|trivial
 . first|rfl|trivial
 . first|rfl|trivial
 . first|rfl|trivial
 . omega
 . omega
 . exact hs
end
def KL:ai->Option (ah×V)
 | [.str d,.dO n cs]=>some ([cs=strs (dH cs),n=(dH cs).length,n<=1000000,(eH (d::dH cs)).length<=1000000000],.str (dM d (dH cs)))
 |_=>none
theorem ZR:jL ak 45 (tW KL):=by
 refine QY (au U) fun args A v e hA=>?_;unfold KL at e;split at e
 case h_2=>cases e
 rename_i d n cs;simp only[an,aB]at e;obtain⟨rfl,rfl⟩:=e;have e1:cs=strs (dH cs):=hA _ (by simp);have e2:n=(dH cs).length:=hA (n=(dH cs).length) (by simp);have e4:n<=1000000:=hA (n<=1000000) (by simp);have e5:(eH (d::dH cs)).length<=1000000000:=hA ((eH (d::dH cs)).length<=1000000000) (by simp);generalize dH cs=ps at *;subst e1 e2;exact xI Tryz.func45 U U rfl rfl (ff (akz ps d e4 e5) fun y s h=>kg h)
noncomputable abbrev W7:jQ:=kB 45 (tW KL) W6
theorem XW:gd ak W7:=fk ZR XS
noncomputable abbrev cs7:fb:=gI ak W7 H0 1000 40
noncomputable abbrev X7:CX ak:=CX.of mo po XW H0 1000 40
noncomputable abbrev ZS:Code:=dP Tryz.f75
noncomputable abbrev UD:Code:=de 3 ZS
noncomputable abbrev aee:Code:=dK UD
noncomputable abbrev ZT:Code:=ee UD
section
variable(u:Int)
def sV0:St:=eF [(3,.dj none 0 0 0),(4,.int .u64 u)] (hL []) 3
def QZ(o:O)(cO:Nat):St:=eF [(3,.dj (some (3,0)) cO cO 1),(4,.int .u64 u)] (hL [(3,o)]) 4
theorem akA(n:Int):c6 cs7 [(6,.dc (.int .u64 n))] 3 Tryz.f75 [3,4] (eR 3 ZS) (cS [.int .i64 n] .nil 3) [([],
   [(V.int IntKind.u64 (IntKind.u64.wrap n)=V.int IntKind.u64 n)],
   .to .normal (eF [(3,.dj none 0 0 0),(4,.int .u64 n)] (hL []) 3))]
 :=cQ.of U U U
theorem akB:c6 cs7 [] 3 Tryz.f75 [] (ZT) (sV0 u) [([],
   [],
   .ret (.str ([UInt8.ofNat (IntKind.u8.wrap u).toNat])) (hL []) 3)]
 :=cQ.of U U U
theorem akC(ks:List Int)(cO:Nat):c6 cs7 [] 3 Tryz.f75 [] (ZT) (QZ u (.own .u8 ks) cO) [([],
   [(0<cO),(0+cO*1<=ks.length),(0<1),(eT (cO+1) 1 1=true),(0+(cO+1)<=(List.take (cO*1) (List.drop 0 ks)++[IntKind.u8.wrap u]).length)],
   .ret (.str (eN (List.take (cO+1) (List.drop 0 (List.take (cO*1) (List.drop 0 ks)++[IntKind.u8.wrap u]))))) (hL []) 3)]
 :=cQ.of U U U
end
def TK(u:Int):Int:=IntKind.u8.wrap (Int.ofNat (BitVec.ofInt 8 (IntKind.u8.wrap u)|||BitVec.ofInt 8 (128:Int)).toNat)
def ZU(u:Int):Int:=IntKind.u8.wrap u
def oq:Nat->Int->List Int
 |0,u=>[ZU u]
 |k+1,u=>if 128<=u then TK u::oq k (u.fdiv 128)else[ZU u]
def jo(n:Int):aa:=eN (oq 4 n)
theorem Q0{k:Nat}{u:Int}(h:¬128<=u):oq k u=[ZU u]:=by
 cases k with
 |zero=>rfl
 |succ k=>show(if 128<=u then _ else _)=_;rw[aI h]
theorem C7:∀(k:Nat) (u:Int),0<(oq k u).length/\(oq k u).length<=k+1
 |0,u=>by simp[oq]
 |k+1,u=>by
  have:=C7 k (u.fdiv 128);show 0<(if 128<=u then _ else _:List Int).length/\(if 128<=u then _ else _:List Int).length<=_;split
  . simp only[aS];omega
  . simp only[aS,bQ];omega
theorem mj(n:Int):0<(jo n).length/\(jo n).length<=5:=by
 have:=C7 4 n;unfold jo eN;rw[aY];exact this
theorem aeg(u:Int):c6 cs7 [(8,.split)] 3 Tryz.f75 [3,4] (dw (dw aee)) (sV0 u) [([((decide (u>=(128:Int))),true)],[],.to .normal (QZ (u.fdiv 128) (.cells [.int .u8 (TK u)]) 1)),
   ([((decide (u>=(128:Int))),false)],[],.to (.exit 0) (sV0 u))]:=cQ.of U U U
theorem aeh(u:Int)(ks ks2:List Int)(cO:Nat)(h:List.take (cO*1) (List.drop 0 ks)++[TK u]=ks2):c6 cs7 [(8,.split)] 3 Tryz.f75 [3,4] (dw (dw aee)) (QZ u (.own .u8 ks) cO) [([((decide (u>=(128:Int))),true)],[(0<cO),(0+cO*1<=ks.length),(0<1),(eT (cO+1) 1 1=true)],.to .normal (QZ (u.fdiv 128) (.own .u8 ks2) (cO+1))),
   ([((decide (u>=(128:Int))),false)],[],.to (.exit 0) (QZ u (.own .u8 ks) cO))]:=by
 subst h;exact cQ.of U U U
def VaS(ks:List Int)(u:Int)(s:St):Prop:=(ks=[]/\∃L,e9 3 L s=some (sV0 u))\/(0<ks.length/\∃L,e9 3 L s=some (QZ u (.own .u8 ks) ks.length))\/(∃x,ks=[x]/\∃L,e9 3 L s=some (QZ u (.cells [.int .u8 x]) 1))
def VaI(n:Int)(k:Nat)(s:St):Prop:=∃ks u,0<=u/\u<128^(k+1)/\ks.length+k<=10/\ks++oq k u=oq 4 n/\VaS ks u s
def VaE(n:Int)(s:St):Prop:=∃ks u,ks.length<=10/\ks++[ZU u]=oq 4 n/\VaS ks u s
theorem akD(n:Int)(h0:0<=n)(hn:n<1000000000):TG ak 3 Tryz.f75.ntmps ZS (cS [.int .i64 n] .nil 3) (fG ak 3 Tryz.f75 fun u _ _=>u= .str (jo n)):=by
 refine iL  3 X7 (akA n) (fun p hp=>?_) ?_
 . rw[aq]at hp;subst hp;have:IntKind.u64.wrap n=n:=by
    unfold IntKind.wrap;have e1:(2^IntKind.u64.bits:Int)=18446744073709551616:=by decide
    have e3:IntKind.u64.signed=false:=rfl;simp only[e1,e3,Bool.false_and,aO,cG];omega
   rw[this]
 show TG ak 3 Tryz.f75.ntmps UD (sV0 n) _;refine cV U ?_;refine fg (i:=0) U (ff (Q1:=fun z s'=>z= .exit 0/\VaE n s') (gl (VaI n) U ?_ 4 ⟨[],n,h0,be,dU,rfl,.inl ⟨rfl,[3,4],U⟩⟩) ?_)
 . rintro k s1 ⟨ks,u,hu0,hu,hl,hv,hs⟩;have key:∀hk:128<=u,∃j,k=j+1/\0<=u.fdiv 128/\u.fdiv 128<128^(j+1)/\(ks++[TK u])++oq j (u.fdiv 128)=oq 4 n:=by
    intro hk;cases k with
    |zero=>simp at hu;omega
    |succ j=>
     have ed:u.fdiv 128=u/128:=cK _ dU;refine⟨j,rfl,by rw[ed];omega,?_,?_⟩
     . rw[ed];have:(128:Int)^(j+1+1)=128^(j+1)*128:=Int.pow_succ ..;rw[this]at hu;exact Int.ediv_lt_of_lt_mul dU hu
     . rw[<- hv];show _=ks++(if 128<=u then _ else _);rw[aG hk];simp
   have EH:∀hk:¬128<=u,ks++[ZU u]=oq 4 n:=fun hk=>by rw[<- hv,Q0 hk]
   have own:∀s2,0<ks.length->s2=QZ u (.own .u8 ks) ks.length->TG ak 3 Tryz.f75.ntmps (dw (dw (dK UD))) s2 (andThen (fun s'=>∃k',k'<k/\VaI n k' s') fun z s'=>z= .exit 0/\VaE n s'):=by
    rintro s2 mF rfl;refine fZ X7 (aeh u ks (ks++[TK u]) ks.length (by rw[bw,bk,aW])) fun g hg hc=>?_;simp only[aE,aL,bu]at hg;rcases hg with rfl|rfl
    . have hk:128<=u:=aH (hc _ (aq.2 rfl));obtain⟨j,rfl,a1,a2,a3⟩:=key hk;have Hp:(ks++[TK u]).length+j<=10:=by
       clear a2 hu;rw[ax,aS,bQ];omega
      refine⟨?_,fun s' dL=>⟨j,Nat.lt_succ_self j,_,_,a1,a2,Hp,a3,.inr (.inl ⟨by simp,[3,4],by rw[dL,ax];rfl⟩)⟩⟩
      repeat' (first|exact cR|refine jw ?_ ?_)
      . exact mF
      . omega
      . decide
      . exact jn be
    . have hk:¬128<=u:=aK (hc _ (aq.2 rfl));exact⟨cR,fun s' dL=>⟨rfl,ks,u,be,EH hk,.inr (.inl ⟨mF,_,dL⟩)⟩⟩
   rcases hs with⟨rfl,L,hs⟩|⟨mF,L,hs⟩|⟨x,rfl,L,hs⟩
   . refine c5 hs ?_;refine fZ X7 (aeg u) fun g hg hc=>?_;simp only[aE,aL,bu]at hg;rcases hg with rfl|rfl
     . have hk:128<=u:=aH (hc _ (aq.2 rfl));obtain⟨j,rfl,a1,a2,a3⟩:=key hk;have Hp:[TK u].length+j<=10:=by
        clear a2 hu;simp only[aS,bQ]at hl ⊢;omega
       exact⟨cR,fun s' dL=>⟨j,Nat.lt_succ_self j,_,_,a1,a2,Hp,a3,.inr (.inr ⟨_,rfl,_,dL⟩)⟩⟩
     . have hk:¬128<=u:=aK (hc _ (aq.2 rfl));exact⟨cR,fun s' dL=>⟨rfl,[],u,dU,EH hk,.inl ⟨rfl,_,dL⟩⟩⟩
   . exact c5 hs (own _ mF rfl)
   . refine c5 hs ?_;refine tC [(3,.u8)] (s2:=QZ u (.own .u8 [x]) 1) U ?_;exact own _ Nat.zero_lt_one rfl
 rintro y s2 ⟨rfl,ks,u,hl,hv,hs⟩;rw[dX];simp only[andThen];have own:∀s2,0<ks.length->s2=QZ u (.own .u8 ks) ks.length->TG ak 3 Tryz.f75.ntmps ZT s2 (fG ak 3 Tryz.f75 fun u _ _=>u= .str (jo n)):=by
  rintro s2 mF rfl;refine fB X7 (akC u ks ks.length) (dG ?_);have e:List.take (ks.length*1) (List.drop 0 ks)++[IntKind.u8.wrap u]=oq 4 n:=by rw[bw,bk,aW];exact hv
  have el:(oq 4 n).length=ks.length+1:=by rw[<- hv,ax];rfl
  rw[e];refine⟨?_,_,_,_,rfl,?_⟩
  . repeat' (first|exact cR|refine jw ?_ ?_)
    . exact mF
    . omega
    . decide
    . exact jn be
    . omega
  . unfold jo;rw[bw,<- el,aW]
 rcases hs with⟨rfl,L,hs⟩|⟨mF,L,hs⟩|⟨x,rfl,L,hs⟩
 . refine c5 hs ?_;refine fB X7 (akB u) (dG ?_);refine⟨cR,_,_,_,rfl,?_⟩;unfold jo;rw[<- hv];rfl
 . exact c5 hs (own _ mF rfl)
 . refine c5 hs ?_;refine tC [(3,.u8)] (s2:=QZ u (.own .u8 [x]) 1) U ?_;exact own _ Nat.zero_lt_one rfl
def KM:ag->Option (ah×V)
 | [.int .i64 n]=>some ([0<=n/\n<1000000000],.str (jo n))
 |_=>none
theorem ZV:jL ak 75 (jO KM):=by
 refine kf (au U) fun args A v e=>?_;unfold KM at e;split at e
 . obtain⟨rfl,rfl⟩:=fc e;exact⟨rfl,U,fun hA=>gT mo po Tryz.func75 U U rfl (akD _ (hA _ (aq.2 rfl)).1 (hA _ (aq.2 rfl)).2)⟩
 . cases e
noncomputable abbrev W8:jQ:=kB 75 (jO KM) W7
theorem XX:gd ak W8:=fk ZV XW
noncomputable abbrev cs8:fb:=gI ak W8 H0 1000 40
noncomputable abbrev X8:CX ak:=CX.of mo po XX H0 1000 40
noncomputable abbrev ZW:Code:=dP Tryz.f122
noncomputable abbrev ZX:Code:=de 1 ZW
noncomputable abbrev aei:Code:=dK ZX
noncomputable abbrev akE:Code:=ee ZX
noncomputable abbrev ZY:Code:=dP Tryz.f99
noncomputable abbrev ZZ:Code:=de 4 ZY
noncomputable abbrev aej:Code:=dK ZZ
noncomputable abbrev akF:Code:=ee ZZ
def XY(c:Int):Int:=nv (c.fdiv 2) (w32 (3988292384*Ap c 1))
def sT0(o:O):St:=eF [(0,.ptr (some (3,0)))] (hL [(3,o)]) 4
section
variable(s:aa)(ws:List Int)(i:Nat)
def XZ:St:=eF [(0,.ptr (some (3,0))),(3,.int .i64 (Int.ofNat i))] (hL [(3,.own .u32 ws)]) 4
def Z0:V:=.agg ((List.range 256).map fun j=>.int .u32 (ws.getD j 0))
def sU0(c:Int)(o:O):St:=eF [(0,.str s),(4,.ptr (some (3,0))),(5,.fn (.func 123) [] [.ptr (some (4,0)),.ptr (some (3,0))])] (hL [(3,.cells [.int .u32 c]),(4,o)]) 5
def Z1(c:Int)(ws:List Int)(i:Nat):St:=eF [(0,.str s),(4,.ptr (some (3,0))),(5,.fn (.func 123) [] [.ptr (some (4,0)),.ptr (some (3,0))]),(10,.int .i64 (Int.ofNat s.length)),(11,.int .i64 (Int.ofNat i))] (hL [(3,.cells [.int .u32 c]),(4,.own .u32 ws)]) 5
def Z2:Int:=XY (XY (XY (XY (XY (XY (XY (XY (w32 (Int.ofNat i)))))))))
theorem akG:cQ ak cs8 [] 1000 3 Tryz.f122 [0] (eR 1 ZW) (cS [] .nil 3) [] [([],[],.to .normal (sT0 (.cells (List.replicate 256 (.int .u32 0)))))]:=by
 unfold cQ;kernel_rfl
theorem Z3:Kw [(3,.u32)] (sT0 (.cells (List.replicate 256 (.int .u32 0))))=some (sT0 (.own .u32 (List.replicate 256 0))):=by kernel_rfl
theorem akH:c6 cs8 [(3,.dc (.int .i64 (Int.ofNat 0)))] 3 Tryz.f122 [0,3] (dK aei) (sT0 (.own .u32 ws)) [([],[V.int .i64 0=V.int .i64 0],.to .normal (XZ ws 0))]:=
 cQ.of U U U
theorem akI:c6 cs8 [(4,.split),(20,.dc (.int .i64 (Int.ofNat (i+1))))] 3 Tryz.f122 [0,3] (dw (dw (ee aei))) (XZ ws i) [([(decide (Int.ofNat i<256),true)],[0<=Int.ofNat i/\Int.ofNat i<256,0+i*1+1<=ws.length,kT (Int.ofNat i+1) (i+1)],.to .normal (XZ (fO ws (0+i*1) [Z2 i]) (i+1))),
   ([(decide (Int.ofNat i<256),false)],[],.to (.exit 0) (XZ ws i))]:=
 cQ.of U U U
theorem akJ:c6 cs8 [] 3 Tryz.f122 [] akE (XZ ws i) [([],[256<=ws.length,256<=ws.length],.ret (Z0 ws) (hL []) 3)]:=
 cQ.of U U U
theorem akK(c:Int)(ws:List Int):c6 cs8 [(11,.dc (.int .i64 (Int.ofNat 0)))] 3 Tryz.f99 [0,4,5,10,11] (dK aej) (sU0 s c (.own .u32 ws)) [([],
   [(V.int aj (0:Int)=V.int aj (0:Int))],
   .to .normal (eF [(0,.str (s)),(4,.ptr (some (3,0))),(5,.fn (.func 123) [] [.ptr (some (4,0)),.ptr (some (3,0))]),(10,.int .i64 ((Int.ofNat s.length))),(11,.int .i64 0)] (hL [(3,.cells [.int .u32 c]),(4,.own .u32 (ws))]) 5))]
 :=cQ.of U U U
theorem akL(c:Int)(ws:List Int)(i:Nat):c6 cs8 [] 3 Tryz.f99 [] (akF) (Z1 s c ws i) [([],
   [],
   .ret (.int .u32 (IntKind.u32.wrap (Int.ofNat (BitVec.ofInt 32 (4294967295:Int)^^^BitVec.ofInt 32 c).toNat))) (hL []) 3)]
 :=cQ.of U U U
end
def KN:Nat->List Int
 |0=>List.replicate 256 0
 |i+1=>fO (KN i) (0+i*1) [Z2 i]
theorem C8:∀i,i<=256->(KN i).length=256
 |0,_=>bK ..
 |i+1,h=>by
  have ih:=C8 i be;show(fO (KN i) (0+i*1) [Z2 i]).length=256;rw[C5 (by simp only[aS,bQ];omega),ih]
def y8:List Int:=KN 256
theorem akM:TG ak 3 Tryz.f122.ntmps ZW (cS [] .nil 3) (fG ak 3 Tryz.f122 fun u _ _=>u=Z0 y8):=by
 have hO:∀n:Nat,Int.ofNat n=(n:Int):=fun _=>rfl;refine mA 1 X8 mo U akG cR ?_;refine tC _ Z3 ?_;show TG ak 3 Tryz.f122.ntmps ZX _ _;refine cV U ?_;refine cV U ?_;refine fZ X8 (akH (List.replicate 256 0)) (dG ?_);refine⟨fun p hp=>by rw[aq]at hp;subst hp;rfl,fun s' dL=>?_⟩;have dL:e9 3 [0,3] s'=some (XZ (KN 0) 0):=dL;refine fg (i:=0) U (ff (Q1:=fun z s'=>z= .exit 0/\∃L,e9 3 L s'=some (XZ y8 256)) (gl (fun k' s=>∃i,k'=256-i/\i<=256/\∃L,e9 3 L s=some (XZ (KN i) i)) U ?_ 256 ⟨0,rfl,aZ _,_,dL⟩) ?_)
 . rintro k' s1 ⟨i,hk,hi,L,fS⟩;refine c5 fS ?_;refine fZ X8 (akI (KN i) i) fun g hg hc=>?_;simp only[aE,aL,bu]at hg;rcases hg with rfl|rfl
   . have fF:i<256:=by
      have:=aH (hc _ (aq.2 rfl));rw[hO]at this;omega
     have hl:=C8 i hi;refine⟨?_,fun s' dL=>⟨256-(i+1),be,i+1,rfl,be,_,dL⟩⟩
     repeat' (first|exact cR|refine jw ?_ ?_)
     . exact⟨az _,dh⟩
     . omega
     . exact fE dh be
   . have zJ:¬i<256:=by
      have:=aK (hc _ (aq.2 rfl));rw[hO]at this;omega
     obtain rfl:i=256:=by omega
     exact⟨cR,fun s' dL=>⟨rfl,_,dL⟩⟩
 rintro y s2 ⟨rfl,L,jg⟩;rw[dX];simp only[andThen];refine c5 jg ?_;refine fB X8 (akJ y8 256) (dG ?_);have hl:y8.length=256:=C8 256 (aA _);refine⟨?_,_,_,_,rfl,rfl⟩
 repeat' (first|exact cR|refine jw ?_ ?_)
 . omega
 . omega
def KO:ag->Option (ah×V)
 | []=>some ([],Z0 y8)
 |_=>none
theorem Z4:jL ak 122 (jO KO):=by
 refine kf (au U) fun args A v e=>?_;unfold KO at e;split at e
 . obtain⟨rfl,rfl⟩:=fc e;exact⟨rfl,U,fun hA=>gT mo po Tryz.func122 U U rfl akM⟩
 . cases e
noncomputable abbrev W9:jQ:=kB 122 (jO KO) W8
theorem X3:gd ak W9:=fk Z4 XX
noncomputable abbrev cs9:fb:=gI ak W9 H0 1000 40
noncomputable abbrev X9:CX ak:=CX.of mo po X3 H0 1000 40
section
variable(ws:List Int)(s:aa)
theorem akN:c6 cs9 [] 3 Tryz.f99 [0,4,5] (eR 4 ZY) (cS [.str s] .nil 3) [([],[],.to .normal (sU0 s 4294967295 (.cells ((List.range 256).map fun j=>.int .u32 (y8.getD j 0)))))]:=
 cQ.of U U U
def w256:List Int:=(List.range 256).map fun j=>ws.getD j 0
theorem Q2:(w256 ws).length=256:=by unfold w256;rw[aY,List.length_range]
theorem Z5(c:Int):Kw [(4,.u32)] (sU0 s c (.cells ((List.range 256).map fun j=>.int .u32 (y8.getD j 0))))=some (sU0 s c (.own .u32 (w256 y8))):=by
 kernel_rfl
def KP(c:Int)(b:UInt8):Int:=IntKind.u8.wrap (Int.ofNat (BitVec.ofInt 8 (IntKind.u8.wrap c)^^^BitVec.ofInt 8 (Int.ofNat b.toNat)).toNat)
def aek(c:Int)(b:UInt8):Int:=nv (ws.getD (0+(KP c b).toNat*1) 0) (c.fdiv 256)
end
def C9(ws:List Int)(s:aa):Nat->Int
 |0=>4294967295
 |i+1=>aek ws (C9 ws s i) (s.getD i 0)
section
variable(s:aa)
def qH:Int:=nv 4294967295 (C9 (w256 y8) s s.length)
theorem ael(c:Int)(ws:List Int)(i:Nat):c6 cs9 [(12,.split),(19,.dc (.int .i64 (Int.ofNat (i+1))))] 3 Tryz.f99 [0,4,5,10,11] (dw (dw (ee aej))) (Z1 s c ws i) [([(decide (Int.ofNat i<Int.ofNat s.length),true)],[0<=Int.ofNat i/\(Int.ofNat i).toNat<s.length,0<=KP c (s.getD i 0)/\KP c (s.getD i 0)<256,0+(KP c (s.getD i 0)).toNat*1<ws.length,kT (Int.ofNat i+1) (i+1)],.to .normal (Z1 s (aek ws c (s.getD i 0)) ws (i+1))),
   ([(decide (Int.ofNat i<Int.ofNat s.length),false)],[],.to (.exit 0) (Z1 s c ws i))]:=
 cQ.of U U U
theorem UE(c:Int)(b:UInt8):0<=KP c b/\KP c b<256:=by
 unfold KP IntKind.wrap;have e1:(2^IntKind.u8.bits:Int)=256:=by decide
 have e3:IntKind.u8.signed=false:=rfl;simp only[e1,e3,Bool.false_and,aO,cG];omega
theorem akO(hs:s.length<1000000000):TG ak 3 Tryz.f99.ntmps ZY (cS [.str s] .nil 3) (fG ak 3 Tryz.f99 fun u _ _=>u= .int .u32 (qH s)):=by
 have hO:∀n:Nat,Int.ofNat n=(n:Int):=fun _=>rfl;refine iL  4 X9 (akN s) cR ?_;refine tC _ (Z5 s 4294967295) ?_;show TG ak 3 Tryz.f99.ntmps ZZ _ _;have hw:=Q2 y8;unfold qH;generalize w256 y8=ws at hw ⊢;refine cV U ?_;refine cV U ?_;refine fZ X8 (akK s 4294967295 ws) (dG ?_);refine⟨fun p hp=>by rw[aq]at hp;subst hp;rfl,fun s' dL=>?_⟩;have dL:e9 3 [0,4,5,10,11] s'=some (Z1 s (C9 ws s 0) ws 0):=dL;refine fg (i:=0) U (ff (Q1:=fun z s'=>z= .exit 0/\∃L,e9 3 L s'=some (Z1 s (C9 ws s s.length) ws s.length)) (gl (fun k' s'=>∃i,k'=s.length-i/\i<=s.length/\∃L,e9 3 L s'=some (Z1 s (C9 ws s i) ws i)) U ?_ s.length ⟨0,rfl,aZ _,_,dL⟩) ?_)
 . rintro k' s1 ⟨i,hk,hi,L,fS⟩;refine c5 fS ?_;refine fZ X9 (ael s (C9 ws s i) ws i) fun g hg hc=>?_;simp only[aE,aL,bu]at hg;rcases hg with rfl|rfl
   . have fF:i<s.length:=by
      have:=aH (hc _ (aq.2 rfl));rw[hO,hO]at this;omega
     have hx:=UE (C9 ws s i) (s.getD i 0);refine⟨?_,fun s' dL=>⟨s.length-(i+1),be,i+1,rfl,be,_,dL⟩⟩
     repeat' (first|exact cR|refine jw ?_ ?_)
     . exact⟨az _,fF⟩
     . exact hx
     . omega
     . exact fE dh be
   . have zJ:¬i<s.length:=by
      have:=aK (hc _ (aq.2 rfl));rw[hO,hO]at this;omega
     obtain rfl:i=s.length:=by omega
     exact⟨cR,fun s' dL=>⟨rfl,_,dL⟩⟩
 rintro y s2 ⟨rfl,L,jg⟩;rw[dX];simp only[andThen];refine c5 jg ?_;refine fB X8 (akL s (C9 ws s s.length) ws s.length) (dG ?_);exact⟨cR,_,_,_,rfl,rfl⟩
end
def KQ:ag->Option (ah×V)
 | [.str s]=>some ([s.length<1000000000],.int .u32 (qH s))
 |_=>none
theorem Z6:jL ak 99 (jO KQ):=by
 refine kf (au U) fun args A v e=>?_;unfold KQ at e;split at e
 . obtain⟨rfl,rfl⟩:=fc e;exact⟨rfl,U,fun hA=>gT mo po Tryz.func99 U U rfl (akO _ (hA _ (aq.2 rfl)))⟩
 . cases e
noncomputable abbrev W10:jQ:=kB 99 (jO KQ) W9
theorem Q3:gd ak W10:=fk Z6 X3
noncomputable abbrev Z7:fb:=gI ak W10 H0 1000 40
noncomputable abbrev X10:CX ak:=CX.of mo po Q3 H0 1000 40
noncomputable abbrev Z8:Code:=dP Tryz.f47
noncomputable abbrev Z9:Code:=de 2 Z8
noncomputable abbrev aem:Code:=dK Z9
noncomputable abbrev akR:Code:=ee Z9
section
variable(b:aa)(rs:List (aa))
def sR0:St:=eF [(1,.dO false rs.length (strs rs)),(5,.str b)] (hL []) 3
def sR1(i:Nat):St:=eF [(5,.str b),(16,.dO false rs.length (strs rs)),(17,.int .i64 (Int.ofNat rs.length)),(18,.int .i64 (Int.ofNat i))] (hL []) 3
theorem akS:c6 Z7 [] 3 Tryz.f76 [] (dP Tryz.f76) (cS [.str b] .nil 3) [([],
   [((0:Int)<=(Int.ofNat b.length)/\(Int.ofNat b.length)<(1000000000:Int)),((jo (Int.ofNat b.length)).length+b.length<=9223372036854775807),(b.length<1000000000),((jo (Int.ofNat b.length)++b).length+(dN (IntKind.i64.wrap (qH b))).length<=9223372036854775807)],
   .ret (.str (jo (Int.ofNat b.length)++b++dN (IntKind.i64.wrap (qH b)))) (hL []) 3)]
 :=cQ.of U U U
theorem akT(d:aa)(rs:List (aa)):c6 Z7 [] 3 Tryz.f47 [1,5] (eR 2 Z8) (cS [.str d,.dO false rs.length (strs rs)] .nil 3) [([],
   [((0:Int)<=(Int.ofNat d.length)/\(Int.ofNat d.length)<(1000000000:Int)),((jo (Int.ofNat d.length)).length+d.length<=9223372036854775807),(1+(jo (Int.ofNat d.length)++d).length<=9223372036854775807),((0:Int)<=(Int.ofNat rs.length)/\(Int.ofNat rs.length)<(1000000000:Int)),((pn (1:Int)++(jo (Int.ofNat d.length)++d)).length+(jo (Int.ofNat rs.length)).length<=9223372036854775807)],
   .to .normal (eF [(1,.dO false (rs.length) (strs rs)),(5,.str (pn (1:Int)++(jo (Int.ofNat d.length)++d)++jo (Int.ofNat rs.length)))] (hL []) 3))]
 :=cQ.of U U U
theorem akU:c6 Z7 [(18,.dc (.int .i64 (Int.ofNat 0)))] 3 Tryz.f47 [5,16,17,18] (dK aem) (sR0 b rs) [([],
   [(V.int aj (0:Int)=V.int aj (0:Int))],
   .to .normal (eF [(5,.str (b)),(16,.dO false (rs.length) (strs rs)),(17,.int .i64 ((Int.ofNat rs.length))),(18,.int .i64 0)] (hL []) 3))]
 :=cQ.of U U U
end
section
variable(s b n:aa)(rs:List (aa))(i:Nat)
def jt:aa:=jo (Int.ofNat s.length)++s
def nw:aa:=jt b++dN (IntKind.i64.wrap (qH b))
def vp(d:aa)(n:Nat):aa:=pn 1++jt d++jo (Int.ofNat n)
def gL(d:aa)(rs:List (aa)):aa:=nw (vp d rs.length++rs.flatten)
def kK(d:aa):aa:=nw (pn 2++jt n++jt d)
theorem oM:s.length<(jt s).length/\(jt s).length<=s.length+5:=by
 have:=mj (Int.ofNat s.length);unfold jt;rw[ax];omega
theorem xJ:s.length+4<(nw s).length/\(nw s).length<=s.length+9:=by
 have:=oM s;unfold nw;rw[ax];show _<_+4/\_+4<=_;omega
theorem wm(d:aa)(n:Nat):d.length<(vp d n).length/\(vp d n).length<=d.length+11:=by
 have:=oM d;have h2:=mj (Int.ofNat n);unfold vp;rw[ax,ax];show _<1+_+_/\1+_+_<=_;omega
theorem IF(d:aa)(rs:List (aa)):0<(gL d rs).length/\(gL d rs).length<=d.length+20+rs.flatten.length:=by
 have h:=xJ (vp d rs.length++rs.flatten);have h1:=wm d rs.length;rw[ax]at h;unfold gL;omega
theorem IG(d:aa):0<(kK n d).length/\(kK n d).length<=n.length+d.length+20:=by
 have h:=xJ (pn 2++jt n++jt d);have h1:=oM n;have h2:=oM d;rw[ax,ax]at h;have e:(pn 2).length=1:=rfl;unfold kK;omega
def KR:ag->Option (ah×V)
 | [.str b]=>some ([b.length<1000000000],.str (nw b))
 |_=>none
theorem aab:jL ak 76 (jO KR):=by
 refine kf (au U) fun args A v e=>?_;unfold KR at e;split at e
 . rename_i b;obtain⟨rfl,rfl⟩:=fc e;refine⟨rfl,U,fun hA=>?_⟩;have hb:b.length<1000000000:=hA _ (aq.2 rfl);have hO:∀n:Nat,Int.ofNat n=(n:Int):=fun _=>rfl;have h1:=mj (Int.ofNat b.length);obtain⟨L,hr⟩:=akS b;refine gT mo po Tryz.func76 U U rfl (gY X10 mo _ U hr fun g hg _=>?_);rw[aq]at hg;subst hg;refine⟨?_,_,_,_,rfl,rfl⟩
   repeat' (first|exact cR|refine jw ?_ ?_)
   . exact⟨az _,dh⟩
   . omega
   . exact hb
   . rw[ax];show _+4<=_;omega
 . cases e
noncomputable abbrev W11:jQ:=kB 76 (jO KR) W10
theorem Q4:gd ak W11:=fk aab Q3
noncomputable abbrev aac:fb:=gI ak W11 H0 1000 40
noncomputable abbrev X11:CX ak:=CX.of mo po Q4 H0 1000 40
theorem Ya(b2:aa)(rs:List (aa))(p:aa)(i:Nat)(h:b++p=b2):c6 aac [(19,.split),(20,.dc (.dm [.str p])),(25,.dc (.int .i64 (Int.ofNat (i+1))))] 3 Tryz.f47 [5,16,17,18] (dw (dw (ee aem))) (sR1 b rs i) [([((decide (Int.ofNat i<Int.ofNat rs.length)),true)],
   [((0:Int)<=Int.ofNat i/\Int.ofNat i<(Int.ofNat rs.length)),((strs rs).length=rs.length*1),(V.dm (dx (strs rs) ((Int.ofNat i).toNat*1) 1)=V.dm [D.str p]),(b.length+p.length<=9223372036854775807),kT (Int.ofNat i+1) (i+1)],
   .to .normal (sR1 b2 rs (i+1))),
  ([((decide (Int.ofNat i<Int.ofNat rs.length)),false)],[],.to (.exit 0) (sR1 b rs i))]:=by
 subst h;exact cQ.of U U U
theorem akW:c6 aac [] 3 Tryz.f47 [] akR (sR1 b rs i) [([],[b.length<1000000000],.ret (.str (nw b)) (hL []) 3)]:=
 cQ.of U U U
theorem Ff{rs:List (aa)}{i:Nat}{p:aa}(h:rs[i]? =some p):(rs.take (i+1)).flatten=(rs.take i).flatten++p:=by
 rw[bJ,h,cn];simp
theorem UF:(rs.take i).flatten.length<=rs.flatten.length:=by
 have:rs.flatten=(rs.take i).flatten++(rs.drop i).flatten:=by
  rw[<- cn,ck]
 rw[this,ax];omega
theorem akX(d:aa)(rs:List (aa))(hd:d.length<=100000000)(Nq:rs.length<=1000000)(hf:rs.flatten.length<=100000000):TG ak 3 Tryz.f47.ntmps Z8 (cS [.str d,.dO false rs.length (strs rs)] .nil 3)
  (fG ak 3 Tryz.f47 fun u _ _=>u= .str (gL d rs)):=by
 have hO:∀n:Nat,Int.ofNat n=(n:Int):=fun _=>rfl;have hh:=wm d rs.length;refine iL  2 X10 (akT d rs) ?_ ?_
 . have h1:=mj (Int.ofNat d.length);have h2:=mj (Int.ofNat rs.length)
   repeat' (first|exact cR|refine jw ?_ ?_)
   . exact⟨az _,dh⟩
   . omega
   . rw[ax];omega
   . exact⟨az _,dh⟩
   . rw[ax,ax];show 1+_+_<=_;omega
 show TG ak 3 Tryz.f47.ntmps Z9 (sR0 (vp d rs.length) rs) _;unfold gL;generalize vp d rs.length=hb at hh ⊢;refine cV U ?_;refine cV U ?_;refine fZ X10 (akU hb rs) (dG ?_);refine⟨fun p hp=>by rw[aq]at hp;subst hp;rfl,fun s' dL=>?_⟩;have dL:e9 3 [5,16,17,18] s'=some (sR1 (hb++(rs.take 0).flatten) rs 0):=by rw[dL];simp;rfl
 refine fg (i:=0) U (ff (Q1:=fun z s'=>z= .exit 0/\∃L,e9 3 L s'=some (sR1 (hb++rs.flatten) rs rs.length)) (gl (fun k' s=>∃i,k'=rs.length-i/\i<=rs.length/\∃L,e9 3 L s=some (sR1 (hb++(rs.take i).flatten) rs i)) U ?_ rs.length ⟨0,rfl,aZ _,_,dL⟩) ?_)
 . rintro k' s1 ⟨i,hk,hi,L,fS⟩;refine c5 fS ?_;rcases bP i rs.length with fF|zJ
   . obtain⟨p,hp⟩:∃p,rs[i]? =some p:=⟨_,ay fF⟩;have TI:=UF rs (i+1);rw[Ff hp,ax]at TI;refine fZ X11 (Ya (hb++(rs.take i).flatten) (hb++(rs.take (i+1)).flatten) rs p i (by rw[Ff hp,bB])) fun g hg hc=>?_;simp only[aE,aL,bu]at hg;rcases hg with rfl|rfl
     . refine⟨?_,fun s' dL=>⟨rs.length-(i+1),be,i+1,rfl,be,_,dL⟩⟩
       repeat' (first|exact cR|refine jw ?_ ?_)
       . exact⟨az _,dh⟩
       . rw[eJ,bk]
       . exact aM V.dm (fI hp)
       . rw[ax];omega
       . exact fE dh be
     . exact absurd (aK (hc _ (aq.2 rfl))) dh
   . obtain rfl:i=rs.length:=by omega
     refine fZ X11 (Ya (hb++(rs.take rs.length).flatten) _ rs [] rs.length rfl) fun g hg hc=>?_;simp only[aE,aL,bu]at hg;rcases hg with rfl|rfl
     . exact absurd (aH (hc _ (aq.2 rfl))) dh
     . refine⟨cR,fun s' dL=>⟨rfl,[5,16,17,18],?_⟩⟩;rw[dL,aW]
 rintro y s2 ⟨rfl,L,jg⟩;rw[dX];simp only[andThen];refine c5 jg ?_;refine fB X11 (akW (hb++rs.flatten) rs rs.length) (dG ?_);refine⟨fun p hp=>?_,_,_,_,rfl,rfl⟩;rw[aq]at hp;subst hp;rw[ax];omega
def KS:ai->Option (ah×V)
 | [.str d,.dO n cs]=>some ([cs=strs (dH cs),n=(dH cs).length,d.length<=100000000,n<=1000000,(dH cs).flatten.length<=100000000],.str (gL d (dH cs)))
 |_=>none
theorem aad:jL ak 47 (dW KS):=by
 refine vk (au U) fun args A v e hA=>?_;unfold KS at e;split at e
 case h_2=>cases e
 rename_i d n cs;simp only[an,aB]at e;obtain⟨rfl,rfl⟩:=e;have e1:cs=strs (dH cs):=hA _ (by simp);have e2:n=(dH cs).length:=hA (n=(dH cs).length) (by simp);have e3:d.length<=100000000:=hA (d.length<=100000000) (by simp);have e4:n<=1000000:=hA (n<=1000000) (by simp);have e5:(dH cs).flatten.length<=100000000:=hA ((dH cs).flatten.length<=100000000) (by simp);generalize dH cs=ps at *;subst e1 e2;exact gU mo po Tryz.func47 U U rfl rfl (ff (akX d ps e3 e4 e5) fun y s h=>kg h)
def KT:ag->Option (ah×V)
 | [.str n,.str d]=>some ([n.length<100000000,d.length<100000000],.str (kK n d))
 |_=>none
theorem akY(d:aa):c6 aac [] 3 Tryz.f49 [] (dP Tryz.f49) (cS [.str n,.str d] .nil 3) [([],[0<=Int.ofNat n.length/\Int.ofNat n.length<1000000000,(jo (Int.ofNat n.length)).length+n.length<=9223372036854775807,1+(jo (Int.ofNat n.length)++n).length<=9223372036854775807,0<=Int.ofNat d.length/\Int.ofNat d.length<1000000000,(jo (Int.ofNat d.length)).length+d.length<=9223372036854775807,(pn 2++(jo (Int.ofNat n.length)++n)).length+(jo (Int.ofNat d.length)++d).length<=9223372036854775807,(pn 2++(jo (Int.ofNat n.length)++n)++(jo (Int.ofNat d.length)++d)).length<1000000000],.ret (.str (kK n d)) (hL []) 3)]:=
 cQ.of U U U
theorem aae:jL ak 49 (jO KT):=by
 refine kf (au U) fun args A v e=>?_;unfold KT at e;split at e
 . rename_i n d;obtain⟨rfl,rfl⟩:=fc e;refine⟨rfl,U,fun hA=>?_⟩;have hn:n.length<100000000:=hA _ (by simp);have hd:d.length<100000000:=hA (d.length<100000000) (by simp);have hO:∀n:Nat,Int.ofNat n=(n:Int):=fun _=>rfl;have h1:=mj (Int.ofNat n.length);have h2:=mj (Int.ofNat d.length);obtain⟨L,hr⟩:=akY n d;refine gT mo po Tryz.func49 U U rfl (gY X11 mo _ U hr fun g hg _=>?_);rw[aq]at hg;subst hg;refine⟨?_,_,_,_,rfl,rfl⟩;have e1:(pn 2).length=1:=rfl
   repeat' (first|exact cR|refine jw ?_ ?_)
   . exact⟨az _,dh⟩
   . omega
   . rw[ax];omega
   . exact⟨az _,dh⟩
   . omega
   . simp only[ax,e1];omega
   . simp only[ax,e1];omega
 . cases e
noncomputable abbrev W12:jQ:=kB 49 (jO KT) (kB 47 (dW KS) W11)
end
theorem Q5:gd ak W12:=fk aae (fk aad Q4)
noncomputable abbrev UG:fb:=gI ak W12 H0 1000 40
noncomputable abbrev X12:CX ak:=CX.of mo po Q5 H0 1000 40
end Go.Proofs.YtfihojpgobmmdaaGreatDoor
