/- The Chunk laws: the program; octet.Put and what it calls. No conditions. -/
import Derived.Test.YtfihojpgobmmdaaGreatDoorProg
import Derived.Test.YtfihojpgobmmdaaGreatDoorJointW04
import Derived.Test.YtfihojpgobmmdaaGreatDoorJointW03
import Derived.Shelf.Strings.Repeat
set_option linter.unusedVariables false
set_option linter.unusedSimpArgs false
set_option linter.unusedSectionVars false
set_option maxRecDepth 20000
namespace Go.Proofs.YtfihojpgobmmdaaGreatDoor
open Go Go.Eng
noncomputable abbrev ak:=Tryz.prog
theorem po:lB ak=true:=by kernel_rfl
theorem mo:Tryz.prog.follows .mixedOrders=true:=by kernel_rfl
noncomputable def dS(f:Func):Code:=match f.body with|some c=>c|none=>.skip
abbrev H0:FuncId->List (Nat×oZ):=fun _=>[]
noncomputable abbrev ZE:e9:=gG ak noW H0 1000 40
noncomputable abbrev X0:CX ak:=CX.of mo po (QH _) H0 1000 40
section
variable{n0 N:Nat}{c:Code}{s:St}{Q:Exit->St->Prop}{H:List (Nat×oZ)}{fn:Func}{live:List Nat}{G:List (List (Bool×Bool)×ah×o6)}
abbrev c7(cs:e9)(H:List (Nat×oZ))(n0:Nat)(fn:Func)(live:List Nat)(c:Code)(s:St)(G:List (List (Bool×Bool)×ah×o6)):Prop:=∃L,cQ ak cs H 1000 n0 fn live c s L G
theorem fR(X:CX ak)(hr:c7 X.cs H n0 fn live c s G)(h:∀g∈G,(∀b∈g.1,b.1=b.2)->(∀a∈g.2.1,a)/\g.2.2.post ak n0 fn live lT Q)(hc:eU N c=true:=by kernel_rfl):TG ak n0 N c s Q:=
 hr.elim fun _ hr=>gy X mo lT hc hr h
theorem iO(k:Nat)(X:CX ak){A:ah}{s1:St}(hr:c7 X.cs H n0 fn live (eO k c) s [([],A,.to .normal s1)])(hA:∀a∈A,a)(h:TG ak n0 N (de k c) s1 Q)(hc:eU N c=true:=by kernel_rfl):TG ak n0 N c s Q:=
 hr.elim fun _ hr=>kV k X mo hc hr hA h
theorem fu{R:V->Tr O->Nat->Prop}(X:CX ak)(hr:c7 X.cs H n0 fn live c s G)(h:∀g∈G,(∀b∈g.1,b.1=b.2)->(∀a∈g.2.1,a)/\∃v h n,g.2.2= .ret v h n/\R v h n)(hc:eU N c=true:=by kernel_rfl):TG ak n0 N c s (fH ak n0 fn R):=
 hr.elim fun _ hr=>iq X mo R hc hr h
end
abbrev w32(x:Int):Int:=IntKind.u32.wrap x
def JV(a b:Int):Int:=w32 ↑(BitVec.ofInt 32 a|||BitVec.ofInt 32 b).toNat
def nt(a b:Int):Int:=w32 ↑(BitVec.ofInt 32 a^^^BitVec.ofInt 32 b).toNat
def C7(m d x:Int):Int:=JV (w32 (x*m)) (x.fdiv d)
section
variable(ws:List Int)(x:Int)(b:aa)(i:Nat)
abbrev gW:Int:=ws.getD (0+i*1) 0
def sg0:Int:=nt (nt (C7 33554432 128 x) (C7 16384 262144 x)) (x.fdiv 8)
def sg1:Int:=nt (nt (C7 32768 131072 x) (C7 8192 524288 x)) (x.fdiv 1024)
def IQ:Int:=w32 (w32 (w32 (gW ws (i-16)+sg0 (gW ws (i-15)))+gW ws (i-7))+sg1 (gW ws (i-2)))
abbrev UO:Int:=w32 ↑(b.getD i 0).toNat
def IS:Int:=JV (JV (JV (w32 (UO b (i*4)*16777216)) (w32 (UO b (i*4+1)*65536))) (w32 (UO b (i*4+2)*256))) (UO b (i*4+3))
end
noncomputable abbrev ZF:Code:=dS Tryz.f97
noncomputable abbrev ZG:Code:=de 1 ZF
noncomputable abbrev aee:Code:=dK ZG
noncomputable abbrev aef:Code:=dx (dV aee)
noncomputable abbrev ZH:Code:=dV ZG
noncomputable abbrev aeg:Code:=dK ZH
noncomputable abbrev akd:Code:=dx (dV aeg)
noncomputable abbrev ake:Code:=dV ZH
section
variable(b:aa)(ws:List Int)(i:Nat)
def zW:O:=.cells (List.replicate 64 (.int .u32 0))
def sS0(o:O):St:=eF [(0,.str b),(2,.ptr (some (3,0)))] (hL [(3,o)]) 4
def ZI:St:=eF [(0,.str b),(2,.ptr (some (3,0))),(9,.int .i64 (Int.ofNat i))] (hL [(3,.own .u32 ws)]) 4
def ZJ:St:=eF [(2,.ptr (some (3,0))),(4,.int .i64 (Int.ofNat i))] (hL [(3,.own .u32 ws)]) 4
theorem akf:cQ ak ZE [] 1000 3 Tryz.f97 [0,2] (eO 1 ZF) (cT [.str b] .nil 3) [] [([],[],.to .normal (sS0 b zW))]:=by
 unfold cQ;kernel_rfl
theorem ZK:KK [(3,.u32)] (sS0 b zW)=some (sS0 b (.own .u32 (List.replicate 64 0))):=by kernel_rfl
theorem akg:cQ ak ZE [] 1000 3 Tryz.f97 [0,2,9] (dK aee) (sS0 b (.own .u32 ws)) [] [([],[],.to .normal (ZI b ws 0))]:=by
 unfold cQ;kernel_rfl
abbrev kQ(x:Int)(n:Nat):Prop:=V.int .i64 (IntKind.i64.wrap x)=V.int .i64 (Int.ofNat n)
abbrev ibd(n l:Nat):Prop:=0<=Int.ofNat n/\n<l
abbrev iN(n:Nat):Prop:=0<=Int.ofNat n/\Int.ofNat n<64
def scA:ah:=[kQ (Int.ofNat i*4) (i*4),ibd (i*4) b.length,kQ (Int.ofNat i*4) (i*4),kQ (Int.ofNat (i*4)+1) (i*4+1),ibd (i*4+1) b.length,kQ (Int.ofNat i*4) (i*4),kQ (Int.ofNat (i*4)+2) (i*4+2),ibd (i*4+2) b.length,kQ (Int.ofNat i*4) (i*4),kQ (Int.ofNat (i*4)+3) (i*4+3),ibd (i*4+3) b.length,
 iN i,0+i*1+1<=ws.length,kQ (Int.ofNat i+1) (i+1)]
theorem akh:cQ ak ZE [(10,.split),(15,.dc (.int .i64 (Int.ofNat (i*4)))),(21,.dc (.int .i64 (Int.ofNat (i*4)))),(22,.dc (.int .i64 (Int.ofNat (i*4+1)))),(29,.dc (.int .i64 (Int.ofNat (i*4)))),(30,.dc (.int .i64 (Int.ofNat (i*4+2)))),(37,.dc (.int .i64 (Int.ofNat (i*4)))),(38,.dc (.int .i64 (Int.ofNat (i*4+3)))),(43,.dc (.int .i64 (Int.ofNat (i+1))))] 1000 3 Tryz.f97 [0,2,9] (dx aef) (ZI b ws i) []
  [([(decide (Int.ofNat i<16),true)],scA b ws i,.to .normal (ZI b (fS ws (0+i*1) [IS b i]) (i+1))),([(decide (Int.ofNat i<16),false)],[],.to (.exit 0) (ZI b ws i))]:=by
 unfold cQ;kernel_rfl
theorem aki:cQ ak ZE [(4,.dc (.int .i64 (Int.ofNat 16)))] 1000 3 Tryz.f97 [2,4] (dK aeg) (ZI b ws i) [] [([],[V.int .i64 16=V.int .i64 16],.to .normal (ZJ ws 16))]:=by
 unfold cQ;kernel_rfl
def scB:ah:=[kQ (Int.ofNat i-15) (i-15),iN (i-15),0+(i-15)*1<ws.length,kQ (Int.ofNat i-2) (i-2),iN (i-2),0+(i-2)*1<ws.length,kQ (Int.ofNat i-16) (i-16),iN (i-16),0+(i-16)*1<ws.length,kQ (Int.ofNat i-7) (i-7),iN (i-7),0+(i-7)*1<ws.length,
 iN i,0+i*1+1<=ws.length,kQ (Int.ofNat i+1) (i+1)]
theorem akj:cQ ak ZE [(45,.split),(49,.dc (.int .i64 (Int.ofNat (i-15)))),(53,.dc (.int .i64 (Int.ofNat (i-2)))),(74,.dc (.int .i64 (Int.ofNat (i-16)))),(80,.dc (.int .i64 (Int.ofNat (i-7)))),(47,.dc (.int .i64 (Int.ofNat (i+1))))] 1000 3 Tryz.f97 [2,4] (dx akd) (ZJ ws i) []
  [([(decide (Int.ofNat i<64),true)],scB ws i,.to .normal (ZJ (fS ws (0+i*1) [IQ ws i]) (i+1))),([(decide (Int.ofNat i<64),false)],[],.to (.exit 2) (ZJ ws i))]:=by
 unfold cQ;kernel_rfl
def ZL:V:=.agg ((List.range 64).map fun j=>.int .u32 (ws.getD j 0))
theorem akk:cQ ak ZE [] 1000 3 Tryz.f97 [] ake (ZJ ws i) [] [([],[64<=ws.length,64<=ws.length],.ret (ZL ws) (hL []) 3)]:=by
 unfold cQ;kernel_rfl
end
theorem dY{i:Nat}{Q:Exit->St->Prop}{s:St}:mj i Q (.exit i) s=Q .normal s:=by simp[mj]
theorem C8{px:List Int}{o:Nat}{l:List Int}(h:o+l.length<=px.length):(fS px o l).length=px.length:=by
 unfold fS;simp only[ax,aX,bX];omega
theorem fE{x:Int}(h1:-9000000000000000000<=x)(h2:x<=9000000000000000000):IntKind.i64.wrap x=x:=by
 unfold IntKind.wrap;have e1:(2^IntKind.i64.bits:Int)=18446744073709551616:=by decide
 have e2:(2^(IntKind.i64.bits-1):Int)=9223372036854775808:=by decide
 have e3:IntKind.i64.signed=true:=rfl;simp only[e1,e2,e3,Bool.true_and,bC];split<;>omega
theorem fG{x:Int}{n:Nat}(h:x=(n:Int))(hb:n<1000000000000):kQ x n:=by
 unfold kQ;rw[fE be be,h];rfl
def XV(b:aa):Nat->List Int
 |0=>List.replicate 64 0
 |i+1=>fS (XV b i) (0+i*1) [IS b i]
theorem BN(b:aa):∀i,i<=16->(XV b i).length=64
 |0,_=>bJ ..
 |i+1,h=>by
  have ih:=BN b i be;show(fS (XV b i) (0+i*1) [IS b i]).length=64;rw[C8 (by simp only[aT,bO];omega),ih]
def Ei(b:aa):Nat->List Int
 |0=>XV b 16
 |j+1=>fS (Ei b j) (0+(16+j)*1) [IQ (Ei b j) (16+j)]
theorem y9(b:aa):∀j,j<=48->(Ei b j).length=64
 |0,_=>BN b 16 (aA _)
 |j+1,h=>by
  have ih:=y9 b j be;show(fS (Ei b j) (0+(16+j)*1) [IQ (Ei b j) (16+j)]).length=64;rw[C8 (by simp only[aT,bO];omega),ih]
theorem akl(b:aa)(hb:64<=b.length):TG ak 3 Tryz.f97.ntmps ZF (cT [.str b] .nil 3) (fH ak 3 Tryz.f97 fun u _ _=>u=ZL (Ei b 48)):=by
 have hO:∀n:Nat,Int.ofNat n=(n:Int):=fun _=>rfl;refine kV 1 X0 mo U (akf b) (by simp) ?_;refine tC _ (ZK b) ?_;show TG ak 3 Tryz.f97.ntmps ZG _ _;refine cV U ?_;refine y6 X0 mo lT U U (akg b _) (dG ?_);refine⟨by simp,fun s' dL=>?_⟩;refine fg (i:=0) U (fe (Q1:=fun z s'=>z= .exit 0/\∃L,eX 3 L s'=some (ZI b (XV b 16) 16)) (gl (fun k' s=>∃i,k'=16-i/\i<=16/\∃L,eX 3 L s=some (ZI b (XV b i) i)) U ?_ 16 ⟨0,rfl,aY _,_,dL⟩) ?_)
 . rintro k' s ⟨i,hk,hi,L,hs⟩;refine c6 hs ?_;refine gy X0 mo lT U (akh b (XV b i) i) fun g hg hc=>?_;simp only[aE,aM,bt]at hg;rcases hg with rfl|rfl
   . have fJ:i<16:=by
      have:=aH (hc _ (aq.2 rfl));rw[hO]at this;omega
     refine⟨fun p hp=>?_,fun s' dL=>⟨16-(i+1),be,i+1,rfl,be,[0,2,9],dL⟩⟩;have hl:=BN b i be;simp only[scA,aE,aM,bt]at hp;rcases hp with rfl|rfl|rfl|rfl|rfl|rfl|rfl|rfl|rfl|rfl|rfl|rfl|rfl|rfl
     . exact fG dh be
     . exact⟨az _,be⟩
     . exact fG dh be
     . exact fG dh be
     . exact⟨az _,be⟩
     . exact fG dh be
     . exact fG dh be
     . exact⟨az _,be⟩
     . exact fG dh be
     . exact fG dh be
     . exact⟨az _,be⟩
     . exact⟨az _,dh⟩
     . omega
     . exact fG dh be
   . have Ae:¬i<16:=by
      have:=aJ (hc _ (aq.2 rfl));rw[hO]at this;omega
     obtain rfl:i=16:=by omega
     exact⟨by simp,fun s' dL=>⟨rfl,_,dL⟩⟩
 rintro y s2 ⟨rfl,L,jd⟩;rw[dY];simp only[andThen];refine c6 jd ?_;show TG ak 3 Tryz.f97.ntmps ZH _ _;refine cV U ?_;refine y6 X0 mo lT U U (aki b _ 16) (dG ?_);refine⟨fun p hp=>by rw[aq]at hp;subst hp;rfl,fun s' dL=>?_⟩;refine fg (i:=2) U (fe (Q1:=fun z s'=>z= .exit 2/\∃L,eX 3 L s'=some (ZJ (Ei b 48) 64)) (gl (fun k' s=>∃j,k'=48-j/\j<=48/\∃L,eX 3 L s=some (ZJ (Ei b j) (16+j))) U ?_ 48 ⟨0,rfl,aY _,_,dL⟩) ?_)
 . rintro k' s ⟨j,hk,hj,L,hs⟩;refine c6 hs ?_;refine gy X0 mo lT U (akj (Ei b j) (16+j)) fun g hg hc=>?_;simp only[aE,aM,bt]at hg;rcases hg with rfl|rfl
   . have fJ:j<48:=by
      have:=aH (hc _ (aq.2 rfl));rw[hO]at this;omega
     refine⟨fun p hp=>?_,fun s' dL=>⟨48-(j+1),be,j+1,rfl,be,[2,4],dL⟩⟩;have hl:=y9 b j be;simp only[scB,aE,aM,bt]at hp;rcases hp with rfl|rfl|rfl|rfl|rfl|rfl|rfl|rfl|rfl|rfl|rfl|rfl|rfl|rfl|rfl
     . exact fG dh be
     . exact⟨az _,dh⟩
     . omega
     . exact fG dh be
     . exact⟨az _,dh⟩
     . omega
     . exact fG dh be
     . exact⟨az _,dh⟩
     . omega
     . exact fG dh be
     . exact⟨az _,dh⟩
     . omega
     . exact⟨az _,dh⟩
     . omega
     . exact fG dh be
   . have Ae:¬j<48:=by
      have:=aJ (hc _ (aq.2 rfl));rw[hO]at this;omega
     obtain rfl:j=48:=by omega
     exact⟨by simp,fun s' dL=>⟨rfl,_,dL⟩⟩
 . rintro y s2 ⟨rfl,L,jd⟩;rw[dY];simp only[andThen];refine c6 jd ?_;refine iq X0 mo _ U (akk (Ei b 48) 64) (dG ?_);have hl:=y9 b 48 (aA _);refine⟨fun p hp=>?_,_,_,_,rfl,rfl⟩;simp only[aE,aM,bt]at hp;rcases hp with rfl|rfl<;>omega
def KP:ag->Option (ah×V)
 | [.str b]=>some ([64<=b.length],ZL (Ei b 48))
 |_=>none
theorem ZM:jG ak 97 (jJ KP):=by
 refine jY (au U) fun args A v e=>?_;unfold KP at e;split at e
 . obtain⟨rfl,rfl⟩:=fa e;exact⟨rfl,U,fun hA=>gT mo po Tryz.func97 U U rfl (akl _ (hA _ (by simp)))⟩
 . cases e
noncomputable abbrev W1:jL:=kA 97 (jJ KP) noW
theorem XW:gd ak W1:=fk ZM (QH _)
noncomputable abbrev cs1:e9:=gG ak W1 H0 1000 40
noncomputable abbrev X1:CX ak:=CX.of mo po XW H0 1000 40
def Aw(a b:Int):Int:=w32 ↑(BitVec.ofInt 32 a&&&BitVec.ofInt 32 b).toNat
abbrev E8:=Int×Int×Int×Int×Int×Int×Int×Int
def bS1(e:Int):Int:=nt (nt (C7 67108864 64 e) (C7 2097152 2048 e)) (C7 128 33554432 e)
def bS0(a:Int):Int:=nt (nt (C7 1073741824 4 a) (C7 524288 8192 a)) (C7 1024 4194304 a)
def chI(e f g:Int):Int:=nt (Aw e f) (Aw (nt 4294967295 e) g)
def maI(a b c:Int):Int:=nt (nt (Aw a b) (Aw a c)) (Aw b c)
section
variable(rd ws:List Int)(i:Nat)
def rdX:E8->Int
 |(_,_,_,_,e,f,g,h)=>w32 (w32 (w32 (w32 (h+bS1 e)+chI e f g)+gW rd i)+gW ws i)
def Bz:E8->E8
 |(a,b,c,d,e,f,g,h)=>(w32 (rdX rd ws i (a,b,c,d,e,f,g,h)+w32 (bS0 a+maI a b c)),a,b,c,w32 (d+rdX rd ws i (a,b,c,d,e,f,g,h)),e,f,g)
def c8(q:E8):ag:=[.int .u32 q.1,.int .u32 q.2.1,.int .u32 q.2.2.1,.int .u32 q.2.2.2.1,.int .u32 q.2.2.2.2.1,.int .u32 q.2.2.2.2.2.1,.int .u32 q.2.2.2.2.2.2.1,.int .u32 q.2.2.2.2.2.2.2]
def ZN:E8->E8->E8
 |(a,b,c,d,e,f,g,h),(a',b',c',d',e',f',g',h')=>(w32 (a+a'),w32 (b+b'),w32 (c+c'),w32 (d+d'),w32 (e+e'),w32 (f+f'),w32 (g+g'),w32 (h+h'))
noncomputable abbrev UP:Code:=dS Tryz.f72
noncomputable abbrev ZO:Code:=de 3 UP
noncomputable abbrev aei:Code:=dK ZO
noncomputable abbrev akq:Code:=dx (dV aei)
noncomputable abbrev akr:Code:=dV ZO
def C9:List Int:=(List.range 64).map fun j=>ws.getD j 0
end
section
variable(rd ws:List Int)(a b c d e f g h a' b' c' d' e' f' g' h':Int)(i:Nat)
def aej:List (Nat×V):=[(2,.ptr (some (3,0))),(4,.ptr (some (4,0))),(5,.ptr (some (5,0))),(6,.ptr (some (6,0)))]
def sC0(o:O):St:=eF aej (hL [(1,.ints .u32 rd),(3,.cells (c8 (a,b,c,d,e,f,g,h))),(4,.cells (c8 (0,0,0,0,0,0,0,0))),(5,o),(6,.cells (c8 (a',b',c',d',e',f',g',h')))]) 7
def sCi:St:=eF (aej++[(18,.int .i64 (Int.ofNat i))]) (hL [(1,.ints .u32 rd),(3,.cells (c8 (a,b,c,d,e,f,g,h))),(4,.cells (c8 (0,0,0,0,0,0,0,0))),(5,.own .u32 ws),(6,.cells (c8 (a',b',c',d',e',f',g',h')))]) 7
theorem aks(s:aa):cQ ak cs1 [] 1000 3 Tryz.f72 [2,4,5,6] (eO 3 UP) (cT [.agg (c8 (a,b,c,d,e,f,g,h)),.str s] (hL [(1,.ints .u32 rd)]) 3) []
  [([],[64<=s.length],.to .normal (sC0 rd a b c d e f g h a b c d e f g h (.cells ((List.range 64).map fun j=>.int .u32 ((Ei s 48).getD j 0)))))]:=by
 unfold cQ;kernel_rfl
theorem ZP:KK [(5,.u32)] (sC0 rd a b c d e f g h a' b' c' d' e' f' g' h' (.cells ((List.range 64).map fun j=>.int .u32 (ws.getD j 0))))=some (sC0 rd a b c d e f g h a' b' c' d' e' f' g' h' (.own .u32 (C9 ws))):=by
 kernel_rfl
theorem akt:cQ ak cs1 [(18,.dc (.int .i64 (Int.ofNat 0)))] 1000 3 Tryz.f72 [2,4,5,6,18] (dK aei) (sC0 rd a b c d e f g h a' b' c' d' e' f' g' h' (.own .u32 ws)) [] [([],[V.int .i64 0=V.int .i64 0],.to .normal (sCi rd ws a b c d e f g h a' b' c' d' e' f' g' h' 0))]:=by
 unfold cQ;kernel_rfl
theorem aku:c7 cs1 [(19,.split),(101,.dc (.int .i64 (Int.ofNat (i+1))))] 3 Tryz.f72 [2,4,5,6,18] (dx akq) (sCi rd ws a b c d e f g h a' b' c' d' e' f' g' h' i) [([(decide (Int.ofNat i<64),true)],[iN i,0+i*1<rd.length,iN i,0+i*1<ws.length,kQ (Int.ofNat i+1) (i+1)],
   .to .normal (sCi rd ws a b c d e f g h (Bz rd ws i (a',b',c',d',e',f',g',h')).1 (Bz rd ws i (a',b',c',d',e',f',g',h')).2.1 (Bz rd ws i (a',b',c',d',e',f',g',h')).2.2.1 (Bz rd ws i (a',b',c',d',e',f',g',h')).2.2.2.1 (Bz rd ws i (a',b',c',d',e',f',g',h')).2.2.2.2.1 (Bz rd ws i (a',b',c',d',e',f',g',h')).2.2.2.2.2.1 (Bz rd ws i (a',b',c',d',e',f',g',h')).2.2.2.2.2.2.1 (Bz rd ws i (a',b',c',d',e',f',g',h')).2.2.2.2.2.2.2 (i+1))),
   ([(decide (Int.ofNat i<64),false)],[],.to (.exit 0) (sCi rd ws a b c d e f g h a' b' c' d' e' f' g' h' i))]:=
 cQ.of U U U
abbrev XX(k:Int):ah:=[0<=k/\k<8,0<=k/\k<8,0<=k/\k<8]
theorem akv:cQ ak cs1 [] 1000 3 Tryz.f72 [] akr (sCi rd ws a b c d e f g h a' b' c' d' e' f' g' h' i) []
  [([],XX 0++(XX 1++(XX 2++(XX 3++(XX 4++(XX 5++(XX 6++XX 7)))))),.ret (.agg (c8 (ZN (a',b',c',d',e',f',g',h') (a,b,c,d,e,f,g,h)))) (hL [(1,.ints .u32 rd)]) 3)]:=by
 unfold cQ;kernel_rfl
end
def vo(rd ws:List Int)(q:E8):Nat->E8
 |0=>q
 |i+1=>Bz rd ws i (vo rd ws q i)
abbrev sCq(rd ws:List Int)(q q':E8)(i:Nat):St:=sCi rd ws q.1 q.2.1 q.2.2.1 q.2.2.2.1 q.2.2.2.2.1 q.2.2.2.2.2.1 q.2.2.2.2.2.2.1 q.2.2.2.2.2.2.2 q'.1 q'.2.1 q'.2.2.1 q'.2.2.2.1 q'.2.2.2.2.1 q'.2.2.2.2.2.1 q'.2.2.2.2.2.2.1 q'.2.2.2.2.2.2.2 i
def za(rd:List Int)(s:aa)(q:E8):E8:=ZN (vo rd (C9 (Ei s 48)) q 64) q
theorem akw(rd:List Int)(Zf:64<=rd.length)(s:aa)(akx:64<=s.length)(q:E8):TG ak 3 Tryz.f72.ntmps UP (cT [.agg (c8 q),.str s] (hL [(1,.ints .u32 rd)]) 3)
  (fH ak 3 Tryz.f72 fun u _ _=>u= .agg (c8 (za rd s q))):=by
 have hO:∀n:Nat,Int.ofNat n=(n:Int):=fun _=>rfl;obtain⟨a,b,c,d,e,f,g,h⟩:=q;refine kV 3 X1 mo U (aks rd a b c d e f g h s) (fun p hp=>by rw[aq]at hp;subst hp;exact akx) ?_;refine tC _ (ZP rd (Ei s 48) a b c d e f g h a b c d e f g h) ?_;show TG ak 3 Tryz.f72.ntmps ZO _ _;have tZ:(C9 (Ei s 48)).length=64:=by unfold C9;rw[aW,List.length_range]
 generalize hW:C9 (Ei s 48)=ws at tZ ⊢;refine cV U ?_;refine y6 X1 mo lT U U (akt rd ws a b c d e f g h a b c d e f g h) fun g' hg _=>?_;rw[aq]at hg;subst hg;refine⟨fun p hp=>by rw[aq]at hp;subst hp;rfl,fun s' dL=>?_⟩;refine fg (i:=0) U (fe (Q1:=fun z s'=>z= .exit 0/\∃L,eX 3 L s'=some (sCq rd ws (a,b,c,d,e,f,g,h) (vo rd ws (a,b,c,d,e,f,g,h) 64) 64)) (gl (fun k' s=>∃i,k'=64-i/\i<=64/\∃L,eX 3 L s=some (sCq rd ws (a,b,c,d,e,f,g,h) (vo rd ws (a,b,c,d,e,f,g,h) i) i)) U ?_ 64 ⟨0,rfl,aY _,_,dL⟩) ?_)
 . rintro k' s0 ⟨i,hk,hi,L,hs⟩;refine c6 hs ?_;obtain⟨L',hr⟩:=aku rd ws a b c d e f g h (vo rd ws (a,b,c,d,e,f,g,h) i).1 (vo rd ws (a,b,c,d,e,f,g,h) i).2.1 (vo rd ws (a,b,c,d,e,f,g,h) i).2.2.1 (vo rd ws (a,b,c,d,e,f,g,h) i).2.2.2.1 (vo rd ws (a,b,c,d,e,f,g,h) i).2.2.2.2.1 (vo rd ws (a,b,c,d,e,f,g,h) i).2.2.2.2.2.1 (vo rd ws (a,b,c,d,e,f,g,h) i).2.2.2.2.2.2.1 (vo rd ws (a,b,c,d,e,f,g,h) i).2.2.2.2.2.2.2 i;refine gy X1 mo lT U hr fun g' hg hc=>?_;simp only[aE,aM,bt]at hg;rcases hg with rfl|rfl
   . have fJ:i<64:=by
      have:=aH (hc _ (aq.2 rfl));rw[hO]at this;omega
     refine⟨fun p hp=>?_,fun s' dL=>⟨64-(i+1),be,i+1,rfl,be,[2,4,5,6,18],dL⟩⟩;simp only[aE,aM,bt]at hp;rcases hp with rfl|rfl|rfl|rfl|rfl
     . exact⟨az _,dh⟩
     . omega
     . exact⟨az _,dh⟩
     . omega
     . exact fG dh be
   . have Ae:¬i<64:=by
      have:=aJ (hc _ (aq.2 rfl));rw[hO]at this;omega
     obtain rfl:i=64:=by omega
     exact⟨by simp,fun s' dL=>⟨rfl,[2,4,5,6,18],dL⟩⟩
 . rintro y s2 ⟨rfl,L,jd⟩;rw[dY];simp only[andThen];refine c6 jd ?_;refine iq X1 mo _ U (akv rd ws a b c d e f g h _ _ _ _ _ _ _ _ 64) fun g' hg _=>?_;rw[aq]at hg;subst hg;refine⟨fun p hp=>?_,_,_,_,rfl,?_⟩
   . simp only[aU,aE,aM,bt,or_self]at hp;rcases hp with rfl|rfl|rfl|rfl|rfl|rfl|rfl|rfl<;>decide
   . unfold za;rw[hW]
def T0:List (Option (Nat×Nat)):=[some (0,0),some (1,0),some (2,0)]
theorem Q5:∀p∈jN,T0[p.2]? =some (some (p.2,0)):=by
 intro p hp;simp only[jN,aE,aM,bt]at hp;rcases hp with rfl|rfl|rfl<;>rfl
def KQ:ag->Tr O->Option (ah×V)
 | [.agg [.int .u32 a,.int .u32 b,.int .u32 c,.int .u32 d,.int .u32 e,.int .u32 f,.int .u32 g,.int .u32 x],.str s],h=>match h.get 1 with
   |some (.ints .u32 rd)=>some ([64<=rd.length,64<=s.length],.agg (c8 (za rd s (a,b,c,d,e,f,g,x))))
   |_=>none
 |_,_=>none
theorem ZQ:QE ak 72 KQ:=by
 refine⟨au U,fun args h A u e=>?_⟩;unfold KQ at e;split at e
 case h_2=>cases e
 rename_i a b c d e1 f g x s;split at e
 case h_2=>cases e
 rename_i rd hm;obtain⟨rfl,rfl⟩:=fa e;refine⟨rfl,fun hA E n' w' c9 ra g0 hd hc=>?_⟩;obtain⟨g2,d2,n2⟩:=MD g0 T0 [none,some (.u32,rd),none] (au rfl) Q5 (by
  intro j k' Xq hj
  match j,hj with
  |0,hj=>cases hj
  |1,hj=>cases hj;exact⟨1,0,rd,rfl,hm,rfl⟩
  |2,hj=>cases hj
  |j+3,hj=>simp at hj)
 exact CZ mo po Tryz.func72 (code:=UP) U U (akw rd (hA _ (by simp)) s (hA (64<=s.length) (by simp)) (a,b,c,d,e1,f,g,x)) (E:=E.rows T0) g2 d2 n2 (mQ _ _ rfl ra)
noncomputable abbrev W2:jL:=kA 72 (MC KQ) W1
theorem XY:gd ak W2:=fk (IJ ZQ) XW
noncomputable abbrev ve:e9:=gG ak W2 H0 1000 40
noncomputable abbrev X2:CX ak:=CX.of mo po XY H0 1000 40
section
variable(x:Int)
def pB(d:Int):UInt8:=UInt8.ofNat (IntKind.u8.wrap ((IntKind.u64.wrap x).fdiv d)).toNat
def mw:aa:=[pB x 72057594037927936,pB x 281474976710656,pB x 1099511627776,pB x 4294967296,pB x 16777216,pB x 65536,pB x 256,pB x 1]
def dO:aa:=[pB x 16777216,pB x 65536,pB x 256,pB x 1]
def o8:aa:=[pB x 1]
abbrev b8:ah:=[(0:Int)<=0/\(0:Int)<8,(0:Int)<=1/\(1:Int)<8,(0:Int)<=2/\(2:Int)<8,(0:Int)<=3/\(3:Int)<8,(0:Int)<=4/\(4:Int)<8,(0:Int)<=5/\(5:Int)<8,(0:Int)<=6/\(6:Int)<8,(0:Int)<=7/\(7:Int)<8]
theorem Q6:∀p∈b8,p:=by
 intro p hp;simp only[aE,aM,bt]at hp;rcases hp with rfl|rfl|rfl|rfl|rfl|rfl|rfl|rfl<;>decide
noncomputable abbrev ZR:Code:=dS Tryz.f59
theorem aky:cQ ak ve [] 1000 3 Tryz.f59 [] ZR (cT [.int .i64 x,.int .i64 8] .nil 3) [] [([],b8,.ret (.str (mw x)) (hL []) 3)]:=by
 unfold cQ;kernel_rfl
theorem akz:cQ ak ve [] 1000 3 Tryz.f59 [] ZR (cT [.int .i64 x,.int .i64 4] .nil 3) [] [([],b8,.ret (.str (dO x)) (hL []) 3)]:=by
 unfold cQ;kernel_rfl
theorem akA:cQ ak ve [] 1000 3 Tryz.f59 [] ZR (cT [.int .i64 x,.int .i64 1] .nil 3) [] [([],b8,.ret (.str (o8 x)) (hL []) 3)]:=by
 unfold cQ;kernel_rfl
end
def KR:ag->Option (ah×V)
 | [.int .i64 x,.int .i64 k]=>match k with
   | .ofNat 8=>some ([],.str (mw x))
   | .ofNat 4=>some ([],.str (dO x))
   | .ofNat 1=>some ([],.str (o8 x))
   |_=>none
 |_=>none
theorem GJ{P:Program}{n0:Nat}{fn:Func}{c:Code}{s:St}(X':CX P)(hm:P.follows .mixedOrders=true){H:List (Nat×oZ)}{F:Nat}{live:List Nat}{A:ah}{v:V}{h:Tr O}{n:Nat}(hc:eU fn.ntmps c=true)
  (hr:cQ P X'.cs H F n0 fn live c s [] [([],A,.ret v h n)]) (hA:∀a∈A,a):TG P n0 fn.ntmps c s (fH P n0 fn fun u _ _=>u=v):=by
 refine iq X' hm _ hc hr (dG ?_);exact⟨hA,_,_,_,rfl,rfl⟩
theorem ZS:jG ak 59 (jJ KR):=by
 refine jY (au U) fun args A v e=>?_;unfold KR at e;split at e
 . split at e
   . obtain⟨rfl,rfl⟩:=fa e;exact⟨rfl,U,fun _=>gT mo po Tryz.func59 U U rfl (GJ X2 mo U (aky _) Q6)⟩
   . obtain⟨rfl,rfl⟩:=fa e;exact⟨rfl,U,fun _=>gT mo po Tryz.func59 U U rfl (GJ X2 mo U (akz _) Q6)⟩
   . obtain⟨rfl,rfl⟩:=fa e;exact⟨rfl,U,fun _=>gT mo po Tryz.func59 U U rfl (GJ X2 mo U (akA _) Q6)⟩
   . cases e
 . cases e
open Go.Shelf Go.RowKit
def Q7:Go.Shelf.Ren:=⟨fun|105=>71|212=>93|99=>94|165=>95|166=>58|170=>96|169=>60|263=>118|264=>119|206=>120|240=>84|241=>121|276=>112|277=>146|n=>n,fun|9=>9|3=>3|4=>4|20=>20|0=>0|46=>144|109=>145|5=>5|72=>102|76=>105|51=>120|146=>164|53=>135|148=>166|70=>100|37=>30|75=>104|127=>137|164=>158|80=>108|n=>n,fun n=>n⟩
theorem tG:Lays.n105 ak Q7:={
 mixed:=mo
 f99:=Tryz.func94.trans (aN some U)
 f105:=Tryz.func71.trans (aN some U)
 f165:=Tryz.func95.trans (aN some U)
 f166:=Tryz.func58.trans (aN some U)
 f169:=Tryz.func60.trans (aN some U)
 f170:=Tryz.func96.trans (aN some U)
 f206:=Tryz.func120.trans (aN some U)
 f212:=Tryz.func93.trans (aN some U)
 f240:=Tryz.func84.trans (aN some U)
 f241:=Tryz.func121.trans (aN some U)
 f263:=Tryz.func118.trans (aN some U)
 f264:=Tryz.func119.trans (aN some U)
 f276:=Tryz.func112.trans (aN some U)
 f277:=Tryz.func146.trans (aN some U)
 t0:=Tryz.underlying0
 a0:=Tryz.isAgg0
 z0:=Tryz.sizeOf0
 v0:=Tryz.zeroValue0
 t3:=Tryz.underlying3
 a3:=Tryz.isAgg3
 z3:=Tryz.sizeOf3
 v3:=Tryz.zeroValue3
 t4:=Tryz.underlying4
 a4:=Tryz.isAgg4
 z4:=Tryz.sizeOf4
 v4:=Tryz.zeroValue4
 t5:=Tryz.underlying5
 a5:=Tryz.isAgg5
 z5:=Tryz.sizeOf5
 v5:=Tryz.zeroValue5
 t9:=Tryz.underlying9
 a9:=Tryz.isAgg9
 z9:=Tryz.sizeOf9
 v9:=Tryz.zeroValue9
 t20:=Tryz.underlying20
 a20:=Tryz.isAgg20
 z20:=Tryz.sizeOf20
 v20:=Tryz.zeroValue20
 t37:=Tryz.underlying30
 a37:=Tryz.isAgg30
 z37:=Tryz.sizeOf30
 v37:=Tryz.zeroValue30
 t46:=Tryz.underlying144
 a46:=Tryz.isAgg144
 z46:=Tryz.sizeOf144
 v46:=Tryz.zeroValue144
 t51:=Tryz.underlying120
 a51:=Tryz.isAgg120
 z51:=Tryz.sizeOf120
 v51:=Tryz.zeroValue120
 t53:=Tryz.underlying135
 a53:=Tryz.isAgg135
 z53:=Tryz.sizeOf135
 v53:=Tryz.zeroValue135
 t70:=Tryz.underlying100
 a70:=Tryz.isAgg100
 z70:=Tryz.sizeOf100
 v70:=Tryz.zeroValue100
 t72:=Tryz.underlying102
 a72:=Tryz.isAgg102
 z72:=Tryz.sizeOf102
 v72:=Tryz.zeroValue102
 t75:=Tryz.underlying104
 a75:=Tryz.isAgg104
 z75:=Tryz.sizeOf104
 v75:=Tryz.zeroValue104
 t76:=Tryz.underlying105
 a76:=Tryz.isAgg105
 z76:=Tryz.sizeOf105
 v76:=Tryz.zeroValue105
 t109:=Tryz.underlying145
 a109:=Tryz.isAgg145
 z109:=Tryz.sizeOf145
 v109:=Tryz.zeroValue145
 t127:=Tryz.underlying137
 a127:=Tryz.isAgg137
 z127:=Tryz.sizeOf137
 v127:=Tryz.zeroValue137
 t146:=Tryz.underlying164
 a146:=Tryz.isAgg164
 z146:=Tryz.sizeOf164
 v146:=Tryz.zeroValue164
 t148:=Tryz.underlying166
 a148:=Tryz.isAgg166
 z148:=Tryz.sizeOf166
 v148:=Tryz.zeroValue166
 t164:=Tryz.underlying158
 a164:=Tryz.isAgg158
 z164:=Tryz.sizeOf158
 v164:=Tryz.zeroValue158
}
theorem GK:Builder.Extra ak Q7 where
 sizeBuilder:=by kernel_rfl
 liesBuilder:=by kernel_rfl
 t5:=tG.t5
 a5:=tG.a5
 z5:=tG.z5
 v5:=tG.v5
 infoByte:=by kernel_rfl
 cellsByte:=by kernel_rfl
 sizeByte:=by kernel_rfl
 neB5:=by decide
def KS:ag->Option (ah×V)
 | [.str [0],.int .i64 x]=>some ([0<=x/\x<=1000],.str (List.replicate x.toNat 0))
 |_=>none
theorem ZT:jG ak 71 (jJ KS):=by
 refine jY (au U) fun args A v e=>?_;unfold KS at e;split at e
 . rename_i x;obtain⟨rfl,rfl⟩:=fa e;refine⟨rfl,rfl,fun hA E w c9 _ ra=>?_⟩;have hx:=hA _ (aq.2 rfl);obtain⟨c,rfl⟩:∃c:Nat,x=(c:Int):=⟨x.toNat,be⟩;obtain⟨y,ys,r0,⟨z,zs,r1,rs,rfl⟩,rfl⟩:=ra;have rs:zs=[]:=rs;subst rs;have r1:z= .int .i64 (c:Int):=r1;subst r1;have r0:y= .string ⟨#[0]⟩:=r0;subst r0;have h:=Any.strings_Repeat tG GK ⟨#[0]⟩ c w be (by show 1*c<=_;omega);refine h.mono fun en w' ⟨he,hw⟩=>⟨⟨E,?_⟩,hw⟩;rw[he];have e:Lib.repeatL (ByteArray.mk #[0]).data.toList c=List.replicate c 0:=by
    have:=Lib.repeatL_replicate 0 1 c;rw[bj]at this;exact this
   rw[e];exact rfl
 . cases e
noncomputable abbrev W3:jL:=kA 71 (jJ KS) (kA 59 (jJ KR) W2)
theorem aek:gd ak W3:=fk ZT (fk ZS XY)
def KT:ag->Tr O->Nat->Option (ah×V×Tr O×Nat)
 | [.ptr (some (m,0))],h,n=>match h.get m with
   |some (.Bp t _ x)=>match Nat.beq t 102&&Nat.blt m fN with
    |true=>some ([],.ef [],h.set m (some (.Bp t true x)),n)
    |false=>none
   |_=>none
 |_,_,_=>none
theorem ZU:jG ak 84 KT:=by
 refine⟨au U,fun args h n A v h' n' e hA E w c9 ra g hd hc=>?_⟩;unfold KT at e;split at e
 case h_2=>cases e
 rename_i m;split at e
 case h_2=>cases e
 rename_i t self x hm;split at e
 case h_2=>cases e
 rename_i hq;simp only[aC]at hq;obtain⟨ht,yS⟩:=hq;have ht:=aD ht;subst ht;have yS:m<fN:=au yS;simp only[an,aB]at e;obtain⟨rfl,rfl,rfl,rfl⟩:=e;obtain⟨y,ys,r0,rs,rfl⟩:=ra;have rs:ys=[]:=rs;subst rs;obtain⟨b,s,e1,rfl⟩:=r0;obtain⟨b',s',e2,hs,x',fz,k1,k2,k3,k4⟩:=g.rel m _ hm;rw[e1]at e2;simp only[an,aB]at e2;obtain⟨rfl,rfl⟩:=e2;subst hs;have hbb:b<w.heap.size:=g.mU m b 0 e1;have iz:eC h m:=⟨_,hm,rfl⟩;have mh:∀{self:Bool},w.heap[b]? =some (.cells #[.pointer (if self then some ⟨b,0,none⟩else none),x'] 102 fz)->w.cell? ⟨b,0,none⟩=some (.pointer (if self then some ⟨b,0,none⟩else none)):=by
  intro self k1;unfold World.cell?;rw[k1];rfl
 have Q8:∀w',w'.heap.size=w.heap.size->w'.tape=w.tape->w'.os=w.os->w'.output=w.output->(∀j,j≠b->w'.heap[j]? =w.heap[j]?)->w'.heap[b]? =some (.cells #[.pointer (some ⟨b,0,none⟩),x'] 102 fz)->
   jU E h n w (.ret (.ef [])) (h.set m (some (.Bp 102 true x))) n (.returned (.tuple #[])) w':=by
  intro w' h1 h2 h3 h4 h5 h6;refine⟨E,iy.write g yS iz e1 h1 h2 h3 h4 h5 ⟨rfl,x',fz,h6,k2,k3,k4⟩,fun _ _=>rfl,hd,aA _,⟨[],rfl,rfl⟩⟩
 cases self with
 |true=>
  have h:=Any.Builder_copyCheck_used { tG with } { GK with } b w (mh k1);refine h.mono fun en w' ⟨he,hw⟩=>?_;subst he;subst hw;exact Q8 w' rfl rfl rfl rfl (fun _ _=>rfl) k1
 |false=>
  have h:=Any.Builder_copyCheck_fresh { tG with } { GK with } b w (mh k1) (by unfold World.shape?;rw[k1];rfl) (by
   unfold World.frozen?;simp only[k1];have:=k3 0 be;obtain⟨lo,hi⟩:=fz;simp only at this ⊢;cases hq:(decide (lo<=0)&&decide (0<hi))with
   |false=>rfl
   |true=>simp only[aC,bC]at hq;exact absurd hq this)
  refine h.mono fun en w' ⟨he,hw⟩=>?_;subst he;subst hw;refine Q8 _ (by simp[World.setCell]) rfl rfl rfl (fun j hj=>by simp[World.setCell,cm,Ne.symm hj]) ?_;simp[World.setCell,cm,k1]
noncomputable abbrev W4:jL:=kA 84 KT W3
theorem XZ:gd ak W4:=fk ZU aek
noncomputable abbrev cs4:e9:=gG ak W4 H0 1000 40
noncomputable abbrev X4:CX ak:=CX.of mo po XZ H0 1000 40
noncomputable abbrev UQ:Code:=dS Tryz.f38
noncomputable abbrev ZV:Code:=de 4 UQ
noncomputable abbrev aem:Code:=dK ZV
noncomputable abbrev UR:Code:=dV ZV
noncomputable abbrev akB:Code:=dK UR
noncomputable abbrev akC:Code:=dV UR
section
variable(s:aa)(st:List Int)
def Ej(rd:List Int):Tr O:=hL [(0,.ints .u32 st),(1,.ints .u32 rd)]
def gZ:Nat:=(119-s.length%64)%64
def mR:aa:=((s.take s.length).drop (s.length/64*64)++[128]++List.replicate (gZ s) 0)++mw (Int.ofNat (s.length*8))
def KU:E8:=(st.getD 0 0,st.getD 1 0,st.getD 2 0,st.getD 3 0,st.getD 4 0,st.getD 5 0,st.getD 6 0,st.getD 7 0)
def BO(i:Nat):aa:=(s.take (i+64)).drop i
end
def jK(rd:List Int)(s:aa)(q:E8):Nat->E8
 |0=>q
 |j+1=>za rd (BO s (64*j)) (jK rd s q j)
def wB(x:Int):aa:=dO (IntKind.i64.wrap x)
section
variable(st rd:List Int)(q:E8)(s p:aa)
def Q9:aa:=wB q.1++eN (dX (wB q.2.1))++eN (dX (wB q.2.2.1))++eN (dX (wB q.2.2.2.1))++eN (dX (wB q.2.2.2.2.1))++eN (dX (wB q.2.2.2.2.2.1))++eN (dX (wB q.2.2.2.2.2.2.1))++eN (dX (wB q.2.2.2.2.2.2.2))
def Ra:aa:=Q9 (jK rd (mR s) (jK rd s (KU st) (s.length/64)) ((mR s).length/64))
def aen:St:=eF [(0,.str s),(3,.ptr (some (3,0))),(5,.str p)] (hL [(0,.ints .u32 st),(1,.ints .u32 rd),(3,.cells (c8 q))]) 4
def Oy(i:Nat):St:=eF [(0,.str s),(3,.ptr (some (3,0))),(5,.str p),(6,.int .i64 (Int.ofNat i))] (hL [(0,.ints .u32 st),(1,.ints .u32 rd),(3,.cells (c8 q))]) 4
def IT:St:=eF [(3,.ptr (some (3,0))),(5,.str p)] (hL [(0,.ints .u32 st),(1,.ints .u32 rd),(3,.cells (c8 q))]) 4
theorem akD:c7 cs4 [(13,.dc (.int .i64 (Int.ofNat (s.length%64)))),(15,.dc (.int .i64 (Int.ofNat (gZ s)))),(20,.dc (.int .i64 (Int.ofNat (s.length/64*64)))),(28,.dc (.int .i64 (Int.ofNat (s.length*8))))] 3 Tryz.f38 [0,3,5] (eO 4 UQ) (cT [.str s] (Ej st rd) 3) [([],
   [(8<=st.length),(V.int aj (((Int.ofNat s.length)).tmod (64:Int))=V.int aj (Int.ofNat (s.length%64))),(V.int aj ((IntKind.i64.wrap ((119:Int)-Int.ofNat (s.length%64))).tmod (64:Int))=V.int aj (Int.ofNat (gZ s))),((64:Int)≠(0:Int)),(V.int aj (IntKind.i64.wrap (IntKind.i64.wrap (((Int.ofNat s.length)).tdiv (64:Int))*(64:Int)))=V.int aj (Int.ofNat (s.length/64*64))),((0:Int)<=Int.ofNat (s.length/64*64)/\Int.ofNat (s.length/64*64)<=(Int.ofNat s.length)),((List.drop (Int.ofNat (s.length/64*64)).toNat (List.take s.length s)).length+1<=9223372036854775807),((0:Int)<=Int.ofNat (gZ s)/\Int.ofNat (gZ s)<=(1000:Int)),((0:Int)<=Int.ofNat (s.length/64*64)/\Int.ofNat (s.length/64*64)<=(Int.ofNat s.length)),((List.drop (Int.ofNat (s.length/64*64)).toNat (List.take s.length s)++([(128:UInt8)]:aa)).length+(List.replicate (Int.ofNat (gZ s)).toNat (0:UInt8)).length<=9223372036854775807),(V.int aj (IntKind.i64.wrap ((Int.ofNat s.length)*(8:Int)))=V.int aj (Int.ofNat (s.length*8))),((0:Int)<=Int.ofNat (s.length/64*64)/\Int.ofNat (s.length/64*64)<=(Int.ofNat s.length)),((List.drop (Int.ofNat (s.length/64*64)).toNat (List.take s.length s)++([(128:UInt8)]:aa)++List.replicate (Int.ofNat (gZ s)).toNat (0:UInt8)).length+(mw (Int.ofNat (s.length*8))).length<=9223372036854775807)],
   .to .normal (eF [(0,.str (s)),(3,.ptr (some (3,0))),(5,.str (List.drop (Int.ofNat (s.length/64*64)).toNat (List.take s.length s)++([(128:UInt8)]:aa)++List.replicate (Int.ofNat (gZ s)).toNat (0:UInt8)++mw (Int.ofNat (s.length*8))))] (hL [(0,.ints .u32 (st)),(1,.ints .u32 (rd)),(3,.cells [.int .u32 (st.getD 0 (0:Int)),.int .u32 (st.getD 1 (0:Int)),.int .u32 (st.getD 2 (0:Int)),.int .u32 (st.getD 3 (0:Int)),.int .u32 (st.getD 4 (0:Int)),.int .u32 (st.getD 5 (0:Int)),.int .u32 (st.getD 6 (0:Int)),.int .u32 (st.getD 7 (0:Int))])]) 4))]
 :=cQ.of U U U
theorem akE:c7 cs4 [(6,.dc (.int .i64 (Int.ofNat 0)))] 3 Tryz.f38 [0,3,5,6] (dK aem) (aen st rd q s p) [([],
   [(V.int aj (0:Int)=V.int aj (0:Int))],
   .to .normal (eF [(0,.str (s)),(3,.ptr (some (3,0))),(5,.str (p)),(6,.int .i64 0)] (hL [(0,.ints .u32 (st)),(1,.ints .u32 (rd)),(3,.cells [.int .u32 (q.1),.int .u32 (q.2.1),.int .u32 (q.2.2.1),.int .u32 (q.2.2.2.1),.int .u32 (q.2.2.2.2.1),.int .u32 (q.2.2.2.2.2.1),.int .u32 (q.2.2.2.2.2.2.1),.int .u32 (q.2.2.2.2.2.2.2)])]) 4))]
 :=cQ.of U U U
theorem akF:c7 cs4 [] 3 Tryz.f38 [] (akC) (IT st rd q p) [([],
   [(0<(dO (IntKind.i64.wrap q.1)).length),(eT (dO (IntKind.i64.wrap q.1)).length 1 1=true),(0<(dO (IntKind.i64.wrap q.1)).length),((dO (IntKind.i64.wrap q.1)).length=(dO (IntKind.i64.wrap q.1)).length),(eT ((dO (IntKind.i64.wrap q.1)).length+(dO (IntKind.i64.wrap q.2.1)).length) 1 1=true),(0<(dO (IntKind.i64.wrap q.1)).length+(dO (IntKind.i64.wrap q.2.1)).length),((dO (IntKind.i64.wrap q.1)).length+(dO (IntKind.i64.wrap q.2.1)).length=(dO (IntKind.i64.wrap q.1)++eN (dX (dO (IntKind.i64.wrap q.2.1)))).length),(eT ((dO (IntKind.i64.wrap q.1)).length+(dO (IntKind.i64.wrap q.2.1)).length+(dO (IntKind.i64.wrap q.2.2.1)).length) 1 1=true),(0<(dO (IntKind.i64.wrap q.1)).length+(dO (IntKind.i64.wrap q.2.1)).length+(dO (IntKind.i64.wrap q.2.2.1)).length),((dO (IntKind.i64.wrap q.1)).length+(dO (IntKind.i64.wrap q.2.1)).length+(dO (IntKind.i64.wrap q.2.2.1)).length=(dO (IntKind.i64.wrap q.1)++eN (dX (dO (IntKind.i64.wrap q.2.1)))++eN (dX (dO (IntKind.i64.wrap q.2.2.1)))).length),(eT ((dO (IntKind.i64.wrap q.1)).length+(dO (IntKind.i64.wrap q.2.1)).length+(dO (IntKind.i64.wrap q.2.2.1)).length+(dO (IntKind.i64.wrap q.2.2.2.1)).length) 1 1=true),(0<(dO (IntKind.i64.wrap q.1)).length+(dO (IntKind.i64.wrap q.2.1)).length+(dO (IntKind.i64.wrap q.2.2.1)).length+(dO (IntKind.i64.wrap q.2.2.2.1)).length),((dO (IntKind.i64.wrap q.1)).length+(dO (IntKind.i64.wrap q.2.1)).length+(dO (IntKind.i64.wrap q.2.2.1)).length+(dO (IntKind.i64.wrap q.2.2.2.1)).length=(dO (IntKind.i64.wrap q.1)++eN (dX (dO (IntKind.i64.wrap q.2.1)))++eN (dX (dO (IntKind.i64.wrap q.2.2.1)))++eN (dX (dO (IntKind.i64.wrap q.2.2.2.1)))).length),(eT ((dO (IntKind.i64.wrap q.1)).length+(dO (IntKind.i64.wrap q.2.1)).length+(dO (IntKind.i64.wrap q.2.2.1)).length+(dO (IntKind.i64.wrap q.2.2.2.1)).length+(dO (IntKind.i64.wrap q.2.2.2.2.1)).length) 1 1=true),(0<(dO (IntKind.i64.wrap q.1)).length+(dO (IntKind.i64.wrap q.2.1)).length+(dO (IntKind.i64.wrap q.2.2.1)).length+(dO (IntKind.i64.wrap q.2.2.2.1)).length+(dO (IntKind.i64.wrap q.2.2.2.2.1)).length),((dO (IntKind.i64.wrap q.1)).length+(dO (IntKind.i64.wrap q.2.1)).length+(dO (IntKind.i64.wrap q.2.2.1)).length+(dO (IntKind.i64.wrap q.2.2.2.1)).length+(dO (IntKind.i64.wrap q.2.2.2.2.1)).length=(dO (IntKind.i64.wrap q.1)++eN (dX (dO (IntKind.i64.wrap q.2.1)))++eN (dX (dO (IntKind.i64.wrap q.2.2.1)))++eN (dX (dO (IntKind.i64.wrap q.2.2.2.1)))++eN (dX (dO (IntKind.i64.wrap q.2.2.2.2.1)))).length),(eT ((dO (IntKind.i64.wrap q.1)).length+(dO (IntKind.i64.wrap q.2.1)).length+(dO (IntKind.i64.wrap q.2.2.1)).length+(dO (IntKind.i64.wrap q.2.2.2.1)).length+(dO (IntKind.i64.wrap q.2.2.2.2.1)).length+(dO (IntKind.i64.wrap q.2.2.2.2.2.1)).length) 1 1=true),(0<(dO (IntKind.i64.wrap q.1)).length+(dO (IntKind.i64.wrap q.2.1)).length+(dO (IntKind.i64.wrap q.2.2.1)).length+(dO (IntKind.i64.wrap q.2.2.2.1)).length+(dO (IntKind.i64.wrap q.2.2.2.2.1)).length+(dO (IntKind.i64.wrap q.2.2.2.2.2.1)).length),((dO (IntKind.i64.wrap q.1)).length+(dO (IntKind.i64.wrap q.2.1)).length+(dO (IntKind.i64.wrap q.2.2.1)).length+(dO (IntKind.i64.wrap q.2.2.2.1)).length+(dO (IntKind.i64.wrap q.2.2.2.2.1)).length+(dO (IntKind.i64.wrap q.2.2.2.2.2.1)).length=(dO (IntKind.i64.wrap q.1)++eN (dX (dO (IntKind.i64.wrap q.2.1)))++eN (dX (dO (IntKind.i64.wrap q.2.2.1)))++eN (dX (dO (IntKind.i64.wrap q.2.2.2.1)))++eN (dX (dO (IntKind.i64.wrap q.2.2.2.2.1)))++eN (dX (dO (IntKind.i64.wrap q.2.2.2.2.2.1)))).length),(eT ((dO (IntKind.i64.wrap q.1)).length+(dO (IntKind.i64.wrap q.2.1)).length+(dO (IntKind.i64.wrap q.2.2.1)).length+(dO (IntKind.i64.wrap q.2.2.2.1)).length+(dO (IntKind.i64.wrap q.2.2.2.2.1)).length+(dO (IntKind.i64.wrap q.2.2.2.2.2.1)).length+(dO (IntKind.i64.wrap q.2.2.2.2.2.2.1)).length) 1 1=true),(0<(dO (IntKind.i64.wrap q.1)).length+(dO (IntKind.i64.wrap q.2.1)).length+(dO (IntKind.i64.wrap q.2.2.1)).length+(dO (IntKind.i64.wrap q.2.2.2.1)).length+(dO (IntKind.i64.wrap q.2.2.2.2.1)).length+(dO (IntKind.i64.wrap q.2.2.2.2.2.1)).length+(dO (IntKind.i64.wrap q.2.2.2.2.2.2.1)).length),((dO (IntKind.i64.wrap q.1)).length+(dO (IntKind.i64.wrap q.2.1)).length+(dO (IntKind.i64.wrap q.2.2.1)).length+(dO (IntKind.i64.wrap q.2.2.2.1)).length+(dO (IntKind.i64.wrap q.2.2.2.2.1)).length+(dO (IntKind.i64.wrap q.2.2.2.2.2.1)).length+(dO (IntKind.i64.wrap q.2.2.2.2.2.2.1)).length=(dO (IntKind.i64.wrap q.1)++eN (dX (dO (IntKind.i64.wrap q.2.1)))++eN (dX (dO (IntKind.i64.wrap q.2.2.1)))++eN (dX (dO (IntKind.i64.wrap q.2.2.2.1)))++eN (dX (dO (IntKind.i64.wrap q.2.2.2.2.1)))++eN (dX (dO (IntKind.i64.wrap q.2.2.2.2.2.1)))++eN (dX (dO (IntKind.i64.wrap q.2.2.2.2.2.2.1)))).length),(eT ((dO (IntKind.i64.wrap q.1)).length+(dO (IntKind.i64.wrap q.2.1)).length+(dO (IntKind.i64.wrap q.2.2.1)).length+(dO (IntKind.i64.wrap q.2.2.2.1)).length+(dO (IntKind.i64.wrap q.2.2.2.2.1)).length+(dO (IntKind.i64.wrap q.2.2.2.2.2.1)).length+(dO (IntKind.i64.wrap q.2.2.2.2.2.2.1)).length+(dO (IntKind.i64.wrap q.2.2.2.2.2.2.2)).length) 1 1=true),(0<(dO (IntKind.i64.wrap q.1)).length+(dO (IntKind.i64.wrap q.2.1)).length+(dO (IntKind.i64.wrap q.2.2.1)).length+(dO (IntKind.i64.wrap q.2.2.2.1)).length+(dO (IntKind.i64.wrap q.2.2.2.2.1)).length+(dO (IntKind.i64.wrap q.2.2.2.2.2.1)).length+(dO (IntKind.i64.wrap q.2.2.2.2.2.2.1)).length+(dO (IntKind.i64.wrap q.2.2.2.2.2.2.2)).length),((Int.ofNat ((dO (IntKind.i64.wrap q.1)).length+(dO (IntKind.i64.wrap q.2.1)).length+(dO (IntKind.i64.wrap q.2.2.1)).length+(dO (IntKind.i64.wrap q.2.2.2.1)).length+(dO (IntKind.i64.wrap q.2.2.2.2.1)).length+(dO (IntKind.i64.wrap q.2.2.2.2.2.1)).length+(dO (IntKind.i64.wrap q.2.2.2.2.2.2.1)).length+(dO (IntKind.i64.wrap q.2.2.2.2.2.2.2)).length))=(Int.ofNat (dO (IntKind.i64.wrap q.1)++eN (dX (dO (IntKind.i64.wrap q.2.1)))++eN (dX (dO (IntKind.i64.wrap q.2.2.1)))++eN (dX (dO (IntKind.i64.wrap q.2.2.2.1)))++eN (dX (dO (IntKind.i64.wrap q.2.2.2.2.1)))++eN (dX (dO (IntKind.i64.wrap q.2.2.2.2.2.1)))++eN (dX (dO (IntKind.i64.wrap q.2.2.2.2.2.2.1)))++eN (dX (dO (IntKind.i64.wrap q.2.2.2.2.2.2.2)))).length)/\0<(dO (IntKind.i64.wrap q.1)++eN (dX (dO (IntKind.i64.wrap q.2.1)))++eN (dX (dO (IntKind.i64.wrap q.2.2.1)))++eN (dX (dO (IntKind.i64.wrap q.2.2.2.1)))++eN (dX (dO (IntKind.i64.wrap q.2.2.2.2.1)))++eN (dX (dO (IntKind.i64.wrap q.2.2.2.2.2.1)))++eN (dX (dO (IntKind.i64.wrap q.2.2.2.2.2.2.1)))++eN (dX (dO (IntKind.i64.wrap q.2.2.2.2.2.2.2)))).length),((dO (IntKind.i64.wrap q.1)++eN (dX (dO (IntKind.i64.wrap q.2.1)))++eN (dX (dO (IntKind.i64.wrap q.2.2.1)))++eN (dX (dO (IntKind.i64.wrap q.2.2.2.1)))++eN (dX (dO (IntKind.i64.wrap q.2.2.2.2.1)))++eN (dX (dO (IntKind.i64.wrap q.2.2.2.2.2.1)))++eN (dX (dO (IntKind.i64.wrap q.2.2.2.2.2.2.1)))++eN (dX (dO (IntKind.i64.wrap q.2.2.2.2.2.2.2)))).length<=9223372036854775807)],
   .ret (.str (dO (IntKind.i64.wrap q.1)++eN (dX (dO (IntKind.i64.wrap q.2.1)))++eN (dX (dO (IntKind.i64.wrap q.2.2.1)))++eN (dX (dO (IntKind.i64.wrap q.2.2.2.1)))++eN (dX (dO (IntKind.i64.wrap q.2.2.2.2.1)))++eN (dX (dO (IntKind.i64.wrap q.2.2.2.2.2.1)))++eN (dX (dO (IntKind.i64.wrap q.2.2.2.2.2.2.1)))++eN (dX (dO (IntKind.i64.wrap q.2.2.2.2.2.2.2))))) (hL [(0,.ints .u32 (st)),(1,.ints .u32 (rd))]) 3)]
 :=cQ.of U U U
end
section
variable(st rd:List Int)(s p:aa)(q:E8)
def GL:aa:=Q9 (jK rd p q (p.length/64))
theorem cR:∀a∈([]:ah),a:=fun _ h=>absurd h aM
theorem vp(x:Int):(mw x).length=8:=rfl
theorem Fb:(mR s).length=(s.length-s.length/64*64)+1+gZ s+8:=by
 unfold mR;simp only[ax,bX,aX,bJ,vp,aT,bO,Nat.min_self]
theorem Oz:∃k,(mR s).length=64*k:=by
 rw[Fb];unfold gZ;refine⟨((s.length-s.length/64*64)+1+((119-s.length%64)%64)+8)/64,?_⟩;omega
theorem aeo(p p1 b1:aa)(h1:List.drop 64 (List.take p.length p)=p1)(h2:List.drop 0 (List.take 64 p)=b1):c7 cs4 [(47,.split)] 3 Tryz.f38 [3,5] (dx (dx akB)) (IT st rd q p) [([((decide ((Int.ofNat p.length)>(0:Int))),true)],
   [((0:Int)<=(64:Int)/\(64:Int)<=(Int.ofNat p.length)),(64<=rd.length),(64<=b1.length),((0:Int)<=(64:Int)/\(64:Int)<=(Int.ofNat p.length))],
   .to .normal (IT st rd (za rd b1 q) p1)),
   ([((decide ((Int.ofNat p.length)>(0:Int))),false)],[],.to (.exit 2) (IT st rd q p))]:=by
 subst h1 h2;exact cQ.of U U U
theorem aep(s p:aa)(i:Nat):c7 cs4 [(35,.split),(32,.dc (.int .i64 (Int.ofNat (i+64)))),(42,.dc (.int .i64 (Int.ofNat (i+64)))),(37,.dc (.int .i64 (Int.ofNat (i+64))))] 3 Tryz.f38 [0,3,5,6] (dx (dx (dV aem))) (Oy st rd q s p i) [([((decide (Int.ofNat (i+64)<=(Int.ofNat s.length))),true)],
   [kQ (Int.ofNat i+64) (i+64),kQ (Int.ofNat i+64) (i+64),((0:Int)<=Int.ofNat (i+64)/\Int.ofNat (i+64)<=(Int.ofNat s.length)),((0:Int)<=Int.ofNat i/\Int.ofNat i<=(Int.ofNat (Int.ofNat (i+64)).toNat)),(64<=rd.length),(64<=(BO s i).length),kQ (Int.ofNat i+64) (i+64)],
   .to .normal (Oy st rd (za rd (BO s i) q) s p (i+64))),
   ([((decide (Int.ofNat (i+64)<=(Int.ofNat s.length))),false)],[kQ (Int.ofNat i+64) (i+64)],.to (.exit 0) (Oy st rd q s p i))]:=
 cQ.of U U U
theorem MI{s:aa}{i:Nat}(h:i+64<=s.length):(BO s i).length=64:=by
 unfold BO;rw[bX,aX];omega
theorem OA(j:Nat):List.drop 64 (List.take (p.drop (64*j)).length (p.drop (64*j)))=p.drop (64*(j+1)):=by
 rw[aS,List.drop_drop,Nat.mul_succ]
theorem Rb(j:Nat):List.drop 0 (List.take 64 (p.drop (64*j)))=BO p (64*j):=by
 unfold BO;rw[bu,List.drop_take];rw[Nat.add_sub_cancel_left]
theorem aeq(Zf:64<=rd.length)(q0:E8)(p:aa)(kp:Nat)(hkp:p.length=64*kp)(pA:p.length<=200):TG ak 3 Tryz.f38.ntmps UR (IT st rd q0 p)
  (fH ak 3 Tryz.f38 fun u _ _=>u= .str (GL rd p q0)):=by
 have hO:∀n:Nat,Int.ofNat n=(n:Int):=fun _=>rfl;have rE:GL rd p q0=Q9 (jK rd p q0 kp):=by unfold GL;rw[hkp,Nat.mul_div_cancel_left _ be]
 rw[rE];clear rE;refine cV U ?_;refine fg (i:=2) U (fe (Q1:=fun z s'=>z= .exit 2/\∃L,eX 3 L s'=some (IT st rd (jK rd p q0 kp) (p.drop (64*kp)))) (gl (fun k' s'=>∃j,k'=kp-j/\j<=kp/\∃L,eX 3 L s'=some (IT st rd (jK rd p q0 j) (p.drop (64*j)))) U ?_ kp ⟨0,rfl,aY _,[3,5],U⟩) ?_)
 . rintro k' s1 ⟨j,hk,hj,L,fQ⟩;refine c6 fQ ?_;have iT:(p.drop (64*j)).length=64*kp-64*j:=by rw[bX,hkp]
   refine fR X4 (aeo st rd (jK rd p q0 j) (p.drop (64*j)) (p.drop (64*(j+1))) (BO p (64*j)) (OA p j) (Rb p j)) fun g hg hc=>?_;simp only[aE,aM,bt]at hg;rcases hg with rfl|rfl
   . have fJ:j<kp:=by
      have:=aH (hc _ (aq.2 rfl));rw[hO,iT]at this;omega
     refine⟨fun p' Pw=>?_,fun s' dL=>⟨kp-(j+1),be,j+1,rfl,be,_,dL⟩⟩;simp only[aE,aM,bt]at Pw;rcases Pw with rfl|rfl|rfl|rfl
     . exact⟨dP,by rw[hO,iT];omega⟩
     . exact Zf
     . rw[MI be];exact aA _
     . exact⟨dP,by rw[hO,iT];omega⟩
   . have Ae:¬j<kp:=by
      have:=aJ (hc _ (aq.2 rfl));rw[hO,iT]at this;omega
     obtain rfl:j=kp:=by omega
     exact⟨cR,fun s' dL=>⟨rfl,_,dL⟩⟩
 rintro y s2 ⟨rfl,L,jd⟩;rw[dY];simp only[andThen];refine c6 jd ?_;refine fu X4 (akF st rd (jK rd p q0 kp) (p.drop (64*kp))) (dG ?_);refine⟨?_,_,_,_,rfl,rfl⟩
 repeat' (first|exact cR|refine ju ?_ ?_)
 all_goals first|exact au U|exact⟨U,au U⟩|kernel_rfl
theorem akG(st rd:List Int)(z6:8<=st.length)(Zf:64<=rd.length)(s:aa)(hs:s.length<=1000000000):TG ak 3 Tryz.f38.ntmps UQ (cT [.str s] (Ej st rd) 3)
  (fH ak 3 Tryz.f38 fun u _ _=>u= .str (Ra st rd s)):=by
 have hO:∀n:Nat,Int.ofNat n=(n:Int):=fun _=>rfl;have hz:gZ s<64:=by unfold gZ;omega
 refine iO  4 X4 (akD st rd s) ?_ ?_
 . intro p hp;simp only[aE,aM,bt]at hp;rcases hp with rfl|rfl|rfl|rfl|rfl|rfl|rfl|rfl|rfl|rfl|rfl|rfl|rfl
   . exact z6
   . rfl
   . have e:IntKind.i64.wrap ((119:Int)-Int.ofNat (s.length%64))=Int.ofNat (119-s.length%64):=by
      rw[fE dh dh,hO,hO];omega
     rw[e];rfl
   . decide
   . have e:(Int.ofNat s.length).tdiv 64=Int.ofNat (s.length/64):=rfl;rw[e,fE (x:=Int.ofNat (s.length/64)) dh dh];exact fG dh be
   . exact⟨az _,dh⟩
   . simp only[bX,aX,Nat.min_self];omega
   . exact⟨az _,dh⟩
   . exact⟨az _,dh⟩
   . simp only[ax,bX,aX,bJ,aT,bO,Nat.min_self,hO,Int.toNat_natCast];omega
   . exact fG dh be
   . exact⟨az _,dh⟩
   . simp only[ax,bX,aX,bJ,aT,bO,Nat.min_self,hO,Int.toNat_natCast,vp];omega
 show TG ak 3 Tryz.f38.ntmps ZV (aen st rd (KU st) s (mR s)) _;refine cV U ?_;obtain⟨L2,Fc⟩:=akE st rd (KU st) s (mR s);refine y6 X4 mo lT U U Fc (dG ?_);refine⟨fun p hp=>by rw[aq]at hp;subst hp;rfl,fun s' dL=>?_⟩;have dL:eX 3 [0,3,5,6] s'=some (Oy st rd (jK rd s (KU st) 0) s (mR s) (64*0)):=dL;refine fg (i:=0) U (fe (Q1:=fun z s'=>z= .exit 0/\∃L,eX 3 L s'=some (Oy st rd (jK rd s (KU st) (s.length/64)) s (mR s) (64*(s.length/64)))) (gl (fun k' s'=>∃j,k'=s.length/64-j/\j<=s.length/64/\∃L,eX 3 L s'=some (Oy st rd (jK rd s (KU st) j) s (mR s) (64*j))) U ?_ (s.length/64) ⟨0,rfl,aY _,_,dL⟩) ?_)
 . rintro k' s1 ⟨j,hk,hj,L,fQ⟩;refine c6 fQ ?_;refine fR X4 (aep st rd (jK rd s (KU st) j) s (mR s) (64*j)) fun g hg hc=>?_;simp only[aE,aM,bt]at hg;rcases hg with rfl|rfl
   . have fJ:64*j+64<=s.length:=by
      have:=aH (hc _ (aq.2 rfl));rw[hO,hO]at this;omega
     refine⟨fun p hp=>?_,fun s' dL=>⟨s.length/64-(j+1),be,j+1,rfl,be,_,dL⟩⟩;simp only[aE,aM,bt]at hp;rcases hp with rfl|rfl|rfl|rfl|rfl|rfl|rfl
     . exact fG dh be
     . exact fG dh be
     . exact⟨az _,dh⟩
     . exact⟨az _,by simp only[hO,Int.toNat_natCast];omega⟩
     . exact Zf
     . rw[MI fJ];exact aA _
     . exact fG dh be
   . have Ae:¬64*j+64<=s.length:=by
      have:=aJ (hc _ (aq.2 rfl));rw[hO,hO]at this;omega
     obtain rfl:j=s.length/64:=by omega
     refine⟨fun p hp=>?_,fun s' dL=>⟨rfl,_,dL⟩⟩;rw[aq]at hp;subst hp;exact fG dh be
 rintro y s2 ⟨rfl,L,jd⟩;rw[dY];simp only[andThen];refine c6 jd ?_;refine c6 (live:=[3,5]) (s2:=IT st rd (jK rd s (KU st) (s.length/64)) (mR s)) U ?_;show TG ak 3 Tryz.f38.ntmps UR _ (fH ak 3 Tryz.f38 fun u _ _=>u= .str (GL rd (mR s) (jK rd s (KU st) (s.length/64))));obtain⟨kp,hkp⟩:=Oz s;have pA:(mR s).length<=200:=by rw[Fb];omega
 exact aeq st rd Zf _ _ kp hkp pA
end
def gS:List Int:=[1779033703,3144134277,1013904242,2773480762,1359893119,2600822924,528734635,1541459225]
def gR:List Int:=[1116352408,1899447441,3049323471,3921009573,961987163,1508970993,2453635748,2870763221,3624381080,310598401,607225278,1426881987,1925078388,2162078206,2614888103,3248222580,3835390401,4022224774,264347078,604807628,770255983,1249150122,1555081692,1996064986,2554220882,2821834349,2952996808,3210313671,3336571891,3584528711,113926993,338241895,666307205,773529912,1294757372,1396182291,1695183700,1986661051,2177026350,2456956037,2730485921,2820302411,3259730800,3345764771,3516065817,3600352804,4094571909,275423344,430227734,506948616,659060556,883997877,958139571,1322822218,1537002063,1747873779,1955562222,2024104815,2227730452,2361852424,2428436474,2756734187,3204031479,3329325298]
def Ek(s:aa):aa:=Ra gS gR s
def KV(h:Tr O):Option (List Int×List Int):=match h.get 0,h.get 1 with
 |some (.ints .u32 st),some (.ints .u32 rd)=>some (st,rd)
 |_,_=>none
theorem Ax{h:Tr O}{st rd:List Int}(e:KV h=some (st,rd)):h.get 0=some (.ints .u32 st)/\h.get 1=some (.ints .u32 rd):=by
 unfold KV at e;split at e
 . rename_i a b h0 h1;obtain⟨rfl,rfl⟩:=fa e;exact⟨h0,h1⟩
 . cases e
def KW:ag->Tr O->Option (ah×V)
 | [.str s],h=>match KV h with
   |some (st,rd)=>some ([st=gS,rd=gR,s.length<=1000000000],.str (Ek s))
   |none=>none
 |_,_=>none
theorem Fe{E:Env}{h:Tr O}{w:World}{st rd:List Int}(g0:Eng.Good E h w)(h0:h.get 0=some (.ints .u32 st))(h1:h.get 1=some (.ints .u32 rd)):
  Eng.Good (E.rows T0) (Ej st rd) w/\qL (E.rows T0) 3/\∀m,¬eC (Ej st rd) m:=
 MD g0 T0 [some (.u32,st),some (.u32,rd),none] (au rfl) Q5 (by
  intro j k' Xq hj
  match j,hj with
  |0,hj=>cases hj;exact⟨0,0,st,rfl,h0,rfl⟩
  |1,hj=>cases hj;exact⟨1,0,rd,rfl,h1,rfl⟩
  |2,hj=>cases hj
  |j+3,hj=>simp at hj)
theorem ZW:QE ak 38 KW:=by
 refine⟨au U,fun args h A u e=>?_⟩;unfold KW at e;split at e
 case h_2=>cases e
 rename_i s;split at e
 case h_2=>cases e
 rename_i st rd ht;obtain⟨h0,h1⟩:=Ax ht;obtain⟨rfl,rfl⟩:=fa e;refine⟨rfl,fun hA E n' w' c9 ra g0 hd hc=>?_⟩;have e1:st=gS:=hA _ (by simp);have e2:rd=gR:=hA _ (by simp);have e3:s.length<=1000000000:=hA (s.length<=1000000000) (by simp);subst e1 e2;obtain⟨g2,d2,n2⟩:=Fe g0 h0 h1;exact CZ mo po Tryz.func38 (code:=UQ) U U (akG gS gR (au rfl) (au rfl) s e3) (E:=E.rows T0) g2 d2 n2 (mQ _ _ rfl ra)
noncomputable abbrev W5:jL:=kA 38 (MC KW) W4
theorem X3:gd ak W5:=fk (IJ ZW) XZ
noncomputable abbrev cs5:e9:=gG ak W5 H0 1000 40
noncomputable abbrev X5:CX ak:=CX.of mo po X3 H0 1000 40
theorem gk(u:aa):eN (dX u)=u:=by
 induction u with
 |nil=>rfl
 |cons x u ih=>
  show UInt8.ofNat ((x.toNat:Int)).toNat::eN (dX u)=x::u;rw[ih];simp
noncomputable abbrev ZX:Code:=dS Tryz.f22
noncomputable abbrev ZY:Code:=de 2 ZX
noncomputable abbrev ZZ:Code:=dK ZY
noncomputable abbrev akH:Code:=dV ZY
section
variable(f:Bool)(ps:List (aa))(i cO:Nat)(gq:aa)
def hT:af:=[(0,.ints .u32 gS),(1,.ints .u32 gR)]
def strs:ai:=ps.map .str
def sJ0:St:=eF [(3,.ptr (some (3,0))),(6,.dM f ps.length (strs ps)),(7,.int .i64 (Int.ofNat ps.length)),(8,.int .i64 (Int.ofNat 0))] (hL [(0,.ints .u32 gS),(1,.ints .u32 gR),(3,.Bp 102 false (.di none 0 0 0))]) 4
def Z0:St:=eF [(3,.ptr (some (3,0))),(6,.dM f ps.length (strs ps)),(7,.int .i64 (Int.ofNat ps.length)),(8,.int .i64 (Int.ofNat i))] (hL [(0,.ints .u32 gS),(1,.ints .u32 gR),(3,.Bp 102 true (.di (some (4,0)) cO cO 1)),(4,.iX 5 false gq)]) 5
def sJa:St:=eF [(0,.dM f ps.length (strs ps)),(3,.ptr (some (3,0)))] (hL [(0,.ints .u32 gS),(1,.ints .u32 gR),(3,.Bp 102 false (.di none 0 0 0))]) 4
theorem akI:c7 cs5 [] 3 Tryz.f22 [0,3] (eO 2 ZX) (cT [.dM f ps.length (strs ps)] (Ej gS gR) 3) [([],
   [],
   .to .normal (eF [(0,.dM (f) (ps.length) (strs ps)),(3,.ptr (some (3,0)))] (hL [(0,.ints .u32 gS),(1,.ints .u32 gR),(3,.Bp 102 false (.di none 0 0 0))]) 4))]
 :=cQ.of U U U
theorem aes:c7 cs5 [(8,.dc (.int .i64 (Int.ofNat 0)))] 3 Tryz.f22 [3,6,7,8] (dK ZZ) (sJa f ps) [([],
   [(V.int aj (0:Int)=V.int aj (0:Int))],
   .to .normal (eF [(3,.ptr (some (3,0))),(6,.dM (f) (ps.length) (strs ps)),(7,.int .i64 ((Int.ofNat ps.length))),(8,.int .i64 0)] (hL [(0,.ints .u32 gS),(1,.ints .u32 gR),(3,.Bp 102 false (.di none 0 0 0))]) 4))]
 :=cQ.of U U U
theorem akJ:c7 cs5 [] 3 Tryz.f22 [] (akH) (Z0 f ps i cO gq) [([],
   [(0<cO),((Int.ofNat cO)=(Int.ofNat gq.length)/\0<gq.length),(gq.length<=9223372036854775807),(gS=gS),(gR=gR),(gq.length<=1000000000)],
   .ret (.str (Ek gq)) (hL [(0,.ints .u32 gS),(1,.ints .u32 gR)]) 3)]
 :=cQ.of U U U
end
section
variable(f:Bool)(ps:List (aa))
def eH:aa:=ps.flatMap fun p=>mw (Int.ofNat p.length)++p
theorem tH{ps:List (aa)}{i:Nat}{p:aa}(h:ps[i]? =some p):eH (ps.take (i+1))=eH (ps.take i)++mw (Int.ofNat p.length)++p:=by
 have fJ:i<ps.length:=(aF.1 h).1;have e:ps.take (i+1)=ps.take i++[p]:=by
  rw[bI,h];rfl
 unfold eH;rw[e,List.flatMap_append];simp
theorem Rc(i:Nat):(eH (ps.take i)).length<=(eH ps).length:=by
 have:eH ps=eH (ps.take i)++eH (ps.drop i):=by
  unfold eH;rw[<- List.flatMap_append,ck]
 rw[this,ax];omega
theorem jq{k:Nat}(h:k<=100000000000):eT k 1 1=true:=by
 unfold eT;exact bM ⟨be,be⟩
theorem eJ:(strs ps).length=ps.length:=aW ..
theorem fI{ps:List (aa)}{i:Nat}{p:aa}(h:ps[i]? =some p):dm (strs ps) (i*1) 1=[D.str p]:=by
 unfold dm strs;rw[bj];have fJ:i<ps.length:=(aF.1 h).1;have:(ps.drop i).take 1=[p]:=by
  rw[bF fJ];have:ps[i]=p:=(aF.1 h).2;simp[this]
 rw[<- List.map_drop,<- cL,this];rfl
theorem aet(p gq:aa)(h:mw (Int.ofNat p.length)++eN (dX p)=gq):c7 cs5 [(9,.split),(10,.dc (.dw [.str p])),(18,.dc (.int .i64 (Int.ofNat 1)))] 3 Tryz.f22 [3,6,7,8] (dx (dx (dV ZZ))) (sJ0 f ps) [([((decide ((0:Int)<Int.ofNat ps.length)),true)],
   [((0:Int)<=(0:Int)/\(0:Int)<(Int.ofNat ps.length)),((strs ps).length=ps.length*1),(V.dw (dm (strs ps) 0 1)=V.dw [D.str p]),(0<(mw (Int.ofNat p.length)).length),(eT (mw (Int.ofNat p.length)).length 1 1=true),(0<(mw (Int.ofNat p.length)).length),((mw (Int.ofNat p.length)).length=(mw (Int.ofNat p.length)).length),(eT ((mw (Int.ofNat p.length)).length+p.length) 1 1=true),(V.int aj (1:Int)=V.int aj (1:Int))],
   .to .normal (Z0 f ps 1 ((mw (Int.ofNat p.length)).length+p.length) gq)),
  ([((decide ((0:Int)<Int.ofNat ps.length)),false)],[],.to (.exit 0) (sJ0 f ps))]:=by
 subst h;exact cQ.of U U U
theorem Ya(p:aa)(i cO:Nat)(gq aeu:aa)(h:gq++eN (dX (mw (Int.ofNat p.length)))++eN (dX p)=aeu):c7 cs5 [(9,.split),(10,.dc (.dw [.str p])),(18,.dc (.int .i64 (Int.ofNat (i+1))))] 3 Tryz.f22 [3,6,7,8] (dx (dx (dV ZZ))) (Z0 f ps i cO gq) [([((decide (Int.ofNat i<Int.ofNat ps.length)),true)],
   [((0:Int)<=Int.ofNat i/\Int.ofNat i<(Int.ofNat ps.length)),((strs ps).length=ps.length*1),(V.dw (dm (strs ps) ((Int.ofNat i).toNat*1) 1)=V.dw [D.str p]),(0<cO),(cO=gq.length),(eT (cO+(mw (Int.ofNat p.length)).length) 1 1=true),(0<cO+(mw (Int.ofNat p.length)).length),(cO+(mw (Int.ofNat p.length)).length=(gq++eN (dX (mw (Int.ofNat p.length)))).length),(eT (cO+(mw (Int.ofNat p.length)).length+p.length) 1 1=true),kQ (Int.ofNat i+1) (i+1)],
   .to .normal (Z0 f ps (i+1) (cO+(mw (Int.ofNat p.length)).length+p.length) aeu)),
  ([((decide (Int.ofNat i<Int.ofNat ps.length)),false)],[],.to (.exit 0) (Z0 f ps i cO gq))]:=by
 subst h;exact cQ.of U U U
def JoI(k':Nat)(s:St):Prop:=∃i,k'=ps.length-i/\i<=ps.length/\((i=0/\∃L,eX 3 L s=some (sJ0 f ps))\/(0<i/\∃L,eX 3 L s=some (Z0 f ps i (eH (ps.take i)).length (eH (ps.take i)))))
theorem akK(h0:0<ps.length)(HA:ps.length<=1000000000)(hs:(eH ps).length<=1000000000):TG ak 3 Tryz.f22.ntmps ZX (cT [.dM f ps.length (strs ps)] (Ej gS gR) 3)
  (fH ak 3 Tryz.f22 fun u _ _=>u= .str (Ek (eH ps))):=by
 have hO:∀n:Nat,Int.ofNat n=(n:Int):=fun _=>rfl;have hb:=Rc ps;have Re:=fun x=>vp x;refine iO  2 X5 (akI f ps) cR ?_;show TG ak 3 Tryz.f22.ntmps ZY (sJa f ps) _;refine cV U ?_;refine cV U ?_;refine fR X5 (aes f ps) (dG ?_);refine⟨fun p hp=>by rw[aq]at hp;subst hp;rfl,fun s' dL=>?_⟩;have dL:eX 3 [3,6,7,8] s'=some (sJ0 f ps):=dL;refine fg (i:=0) U (fe (Q1:=fun z s'=>z= .exit 0/\∃L,eX 3 L s'=some (Z0 f ps ps.length (eH ps).length (eH ps))) (gl (JoI f ps) U ?_ ps.length ⟨0,rfl,aY _,.inl ⟨rfl,_,dL⟩⟩) ?_)
 . rintro k' s1 ⟨i,hk,hi,⟨rfl,L,fQ⟩|⟨h1,L,fQ⟩⟩
   . refine c6 fQ ?_;obtain⟨p,hp⟩:∃p,ps[0]? =some p:=⟨_,ay h0⟩;have hj:=tH hp;have hj:eH (ps.take 1)=mw (Int.ofNat p.length)++p:=hj;have yD:=hb 1;rw[hj,ax,Re]at yD;refine fR X5 (aet f ps p (eH (ps.take 1)) (by rw[gk,hj])) fun g hg hc=>?_;simp only[aE,aM,bt]at hg;rcases hg with rfl|rfl
     . refine⟨fun p' Pw=>?_,fun s' dL=>⟨ps.length-1,be,1,rfl,be,.inr ⟨be,[3,6,7,8],?_⟩⟩⟩
       . revert p' Pw
         repeat' (first|exact cR|refine ju ?_ ?_)
         . exact⟨dP,dh⟩
         . rw[eJ,bj]
         . exact aN V.dw (fI hp)
         . rw[Re];decide
         . rw[Re];rfl
         . rw[Re];decide
         . first|rfl|trivial
         . rw[Re];exact jq be
         . first|rfl|trivial
       . rw[dL,hj,ax]
     . exact absurd (aJ (hc _ (aq.2 rfl))) dh
   . refine c6 fQ ?_;rcases bN i ps.length with fJ|Ae
     . obtain⟨p,hp⟩:∃p,ps[i]? =some p:=⟨_,ay fJ⟩;have hj:=tH hp;have yD:=hb (i+1);rw[hj,ax,ax,Re]at yD;have mG:0<(eH (ps.take i)).length:=by
        obtain⟨j,rfl⟩:∃j,i=j+1:=⟨i-1,be⟩;rw[tH (ay (show j<ps.length by omega)),ax,ax,Re];omega
       refine fR X5 (Ya f ps p i (eH (ps.take i)).length (eH (ps.take i)) (eH (ps.take (i+1))) (by rw[gk,gk,hj])) fun g hg hc=>?_;simp only[aE,aM,bt]at hg;rcases hg with rfl|rfl
       . refine⟨fun p' Pw=>?_,fun s' dL=>⟨ps.length-(i+1),be,i+1,rfl,be,.inr ⟨be,[3,6,7,8],?_⟩⟩⟩
         . revert p' Pw
           repeat' (first|exact cR|refine ju ?_ ?_)
           . exact⟨az _,dh⟩
           . rw[eJ,bj]
           . exact aN V.dw (fI hp)
           . exact mG
           . first|rfl|trivial
           . rw[Re];exact jq be
           . rw[Re];omega
           . rw[gk,ax]
           . rw[Re];exact jq be
           . exact fG dh be
         . rw[dL,hj,ax,ax]
       . exact absurd (aJ (hc _ (aq.2 rfl))) dh
     . obtain rfl:i=ps.length:=by omega
       refine fR X5 (Ya f ps [] ps.length (eH (ps.take ps.length)).length (eH (ps.take ps.length)) _ rfl) fun g hg hc=>?_;simp only[aE,aM,bt]at hg;rcases hg with rfl|rfl
       . exact absurd (aH (hc _ (aq.2 rfl))) dh
       . refine⟨cR,fun s' dL=>⟨rfl,[3,6,7,8],?_⟩⟩;rw[dL,aS]
 rintro y s2 ⟨rfl,L,jd⟩;rw[dY];simp only[andThen];refine c6 jd ?_;have mG:0<(eH ps).length:=by
  have hj:=tH (ay h0);have yD:=hb 1;rw[hj,ax,ax,Re]at yD;omega
 refine fu X5 (akJ f ps ps.length (eH ps).length (eH ps)) (dG ?_);refine⟨fun p' Pw=>?_,_,_,_,rfl,rfl⟩;revert p' Pw
 repeat' (first|exact cR|refine ju ?_ ?_)
 . exact mG
 . exact⟨rfl,mG⟩
 . omega
 . first|rfl|trivial
 . first|rfl|trivial
 . exact hs
end
def Rf(f:FuncId)(args:ag)(v:V):Prop:=∀E h n w c9,KV h=some (gS,gR)->dI E args c9->Eng.Good E h w->qL E n->Calls ak f c9.toArray w (jU E h n w (.ret v) h n)
def tW(f:ai->Option (ah×V)):ag->Tr O->Nat->Option (ah×V×Tr O×Nat):=fun args h n=>match KV h,E9 args with
 |some (st,rd),some ds=>match f ds with
  |some (A,v)=>some ((st=gS)::(rd=gR)::A,v,h,n)
  |none=>none
 |_,_=>none
theorem Rg{f:FuncId}{spec:ai->Option (ah×V)}(fJ:f<Tryz.prog.funcs.size)(h:∀args A v,spec args=some (A,v)->(∀a∈A,a)->Rf f (args.map D.iL) v):jG ak f (tW spec):=by
 refine⟨fJ,fun args h' n A v h2 n2 e hA E w c9 ra g hd hc=>?_⟩;unfold tW at e;split at e
 case h_2=>cases e
 rename_i st rd ds ht hds;split at e
 case h_2=>cases e
 rename_i A' v' hs;simp only[an,aB]at e;obtain⟨rfl,rfl,rfl,rfl⟩:=e;have e1:st=gS:=hA _ (by simp);have e2:rd=gR:=hA _ (by simp);subst e1 e2;exact h ds _ _ hs (fun a ha=>hA a (by simp[ha])) E h' n w c9 ht (Ar hds ra) g hd
theorem xK{f:FuncId}{fn:Func}{code:Code}(hf:Tryz.prog.funcs[f]? =some fn)(hb:fn.body=some code){args:ag}
  (l:(Nat.ble args.length fn.ntmps&&Nat.blt fn.ntmps fN)=true) {v:V} (hdp:V.qE args=true) (hv:v.deep=true) (hT:TG ak 3 fn.ntmps code (cT args (Ej gS gR) 3) (fH ak 3 fn (nB v))):Rf f args v:=by
 intro E h n w c9 ht ra g hd;obtain⟨h0,h1⟩:=Ax ht;obtain⟨g0,d0,n0⟩:=Fe g h0 h1;have ra0:dI (E.rows T0) args c9:=od (E:=E) (E':=E.rows T0) (fun _ _ q=>q) _ _ hdp ra;exact(oH mo po hf hb l _ hT ra0 g0 d0).mono fun e w' ⟨u,h',n',hz,k⟩=>C6 (E1:=E.rows T0) g hd rfl n0 hv hz k
theorem jZ{P:Program}{n0:Nat}{fn:Func}{v:V}{y:Exit}{s:St}(h:fH P n0 fn (fun u _ _=>u=v) y s):fH P n0 fn (nB v) y s:=by
 obtain⟨hy,u,h',n',e,rfl⟩:=h;exact⟨hy,_,h',n',e,.self⟩
def D.Z1:D->aa
 | .str p=>p
 |_=>[]
def dH(cs:ai):List (aa):=cs.map D.Z1
theorem ir(ps:List (aa)):dH (strs ps)=ps:=by
 unfold dH strs;rw[List.map_map];exact List.map_id ps
def KX:ai->Option (ah×V)
 | [.dM n cs]=>some ([cs=strs (dH cs),n=(dH cs).length,0<n,n<=1000000000,(eH (dH cs)).length<=1000000000],.str (Ek (eH (dH cs))))
 |_=>none
theorem Z2:jG ak 22 (tW KX):=by
 refine Rg (au U) fun args A v e hA=>?_;unfold KX at e;split at e
 case h_2=>cases e
 rename_i n cs;simp only[an,aB]at e;obtain⟨rfl,rfl⟩:=e;have e1:cs=strs (dH cs):=hA _ (by simp);have e2:n=(dH cs).length:=hA (n=(dH cs).length) (by simp);have e3:0<n:=hA (0<n) (by simp);have e4:n<=1000000000:=hA (n<=1000000000) (by simp);have e5:(eH (dH cs)).length<=1000000000:=hA ((eH (dH cs)).length<=1000000000) (by simp);generalize dH cs=ps at *;subst e1 e2;exact xK Tryz.func22 U U rfl rfl (fe (akK false ps e3 e4 e5) fun y s h=>jZ h)
noncomputable abbrev W6:jL:=kA 22 (tW KX) W5
theorem Yb:gd ak W6:=fk Z2 X3
noncomputable abbrev cs6:e9:=gG ak W6 H0 1000 40
noncomputable abbrev X6:CX ak:=CX.of mo po Yb H0 1000 40
noncomputable abbrev Z3:Code:=dS Tryz.f45
noncomputable abbrev Z4:Code:=de 2 Z3
noncomputable abbrev aev:Code:=dK Z4
noncomputable abbrev akL:Code:=dV Z4
section
variable(rs:List (aa))(n:Nat)(ds:ai)
def sN0(d:aa)(o:O):St:=eF [(1,.dM false rs.length (strs rs)),(5,.di (some (3,0)) 1 1 1)] (hL [(0,.ints .u32 gS),(1,.ints .u32 gR),(3,o)]) 4
def sN1(i cO:Nat):St:=eF [(5,.di (some (3,0)) cO cO 1),(10,.dM false rs.length (strs rs)),(11,.int .i64 (Int.ofNat rs.length)),(12,.int .i64 (Int.ofNat i))] (hL [(0,.ints .u32 gS),(1,.ints .u32 gR),(3,.deep ds)]) 4
def sN2:St:=eF [(5,.dM false n ds)] (hL [(0,.ints .u32 gS),(1,.ints .u32 gR)]) 3
theorem akM(d:aa):c7 cs6 [] 3 Tryz.f45 [1,5] (eO 2 Z3) (cT [.str d,.dM false rs.length (strs rs)] (Ej gS gR) 3) [([],
   [],
   .to .normal (eF [(1,.dM false (rs.length) (strs rs)),(5,.di (some (3,0)) 1 1 1)] (hL [(0,.ints .u32 gS),(1,.ints .u32 gR),(3,.cells [.str (d)])]) 4))]
 :=cQ.of U U U
theorem akN(d:aa)(ds:ai):c7 cs6 [(12,.dc (.int .i64 (Int.ofNat 0)))] 3 Tryz.f45 [5,10,11,12] (dK aev) (sN0 rs d (.deep ds)) [([],
   [(V.int aj (0:Int)=V.int aj (0:Int))],
   .to .normal (eF [(5,.di (some (3,0)) 1 1 1),(10,.dM false (rs.length) (strs rs)),(11,.int .i64 ((Int.ofNat rs.length))),(12,.int .i64 0)] (hL [(0,.ints .u32 gS),(1,.ints .u32 gR),(3,.deep (ds))]) 4))]
 :=cQ.of U U U
theorem akO(qs:List (aa))(n:Nat):c7 cs6 [] 3 Tryz.f45 [] (akL) (sN2 n (strs qs)) [([],
   [(gS=gS),(gR=gR),(strs qs=strs (dH (strs qs))),(n=(dH (strs qs)).length),(0<n),(n<=1000000000),((eH (dH (strs qs))).length<=1000000000)],
   .ret (.str (Ek (eH (dH (strs qs))))) (hL [(0,.ints .u32 gS),(1,.ints .u32 gR)]) 3)]
 :=cQ.of U U U
end
def dN(d:aa)(rs:List (aa)):aa:=Ek (eH (d::rs))
theorem KY(d:aa)(rs:List (aa)):(dN d rs).length=32:=rfl
theorem pT{k:Nat}(h:k<=1000000000):eT k 1 16=true:=by
 unfold eT;exact bM ⟨be,be⟩
section
variable(rs:List (aa))
theorem Yc(ds ds2:ai)(p:aa)(i cO:Nat)(h:List.take (cO*1) (List.drop 0 ds)++[D.str p]=ds2):c7 cs6 [(13,.split),(14,.dc (.dw [.str p])),(20,.dc (.int .i64 (Int.ofNat (i+1))))] 3 Tryz.f45 [5,10,11,12] (dx (dx (dV aev))) (sN1 rs ds i cO) [([((decide (Int.ofNat i<Int.ofNat rs.length)),true)],
   [((0:Int)<=Int.ofNat i/\Int.ofNat i<(Int.ofNat rs.length)),((strs rs).length=rs.length*1),(V.dw (dm (strs rs) ((Int.ofNat i).toNat*1) 1)=V.dw [D.str p]),(0+cO*1<=ds.length),(0<1),(eT (cO+1) 1 16=true),kQ (Int.ofNat i+1) (i+1)],
   .to .normal (sN1 rs ds2 (i+1) (cO+1))),
  ([((decide (Int.ofNat i<Int.ofNat rs.length)),false)],[],.to (.exit 0) (sN1 rs ds i cO))]:=by
 subst h;exact cQ.of U U U
theorem OB(d:aa){rs:List (aa)}{i:Nat}{p:aa}(h:rs[i]? =some p):List.take ((i+1)*1) (List.drop 0 (strs (d::rs.take i)))++[D.str p]=strs (d::rs.take (i+1)):=by
 have fJ:i<rs.length:=(aF.1 h).1;rw[bu,bj,bq (by rw[eJ,aT,aX];omega),bI,h];unfold strs;simp
theorem akP(d:aa)(NM:rs.length<=1000000)(hs:(eH (d::rs)).length<=1000000000):TG ak 3 Tryz.f45.ntmps Z3 (cT [.str d,.dM false rs.length (strs rs)] (Ej gS gR) 3)
  (fH ak 3 Tryz.f45 fun u _ _=>u= .str (dN d rs)):=by
 have hO:∀n:Nat,Int.ofNat n=(n:Int):=fun _=>rfl;refine iO  2 X6 (akM rs d) cR ?_;refine tF [3] (s2:=sN0 rs d (.deep [.str d])) U ?_;show TG ak 3 Tryz.f45.ntmps Z4 _ _;refine cV U ?_;refine cV U ?_;refine fR X6 (akN rs d [.str d]) (dG ?_);refine⟨fun p hp=>by rw[aq]at hp;subst hp;rfl,fun s' dL=>?_⟩;have dL:eX 3 [5,10,11,12] s'=some (sN1 rs (strs (d::rs.take 0)) 0 1):=dL;refine fg (i:=0) U (fe (Q1:=fun z s'=>z= .exit 0/\∃L,eX 3 L s'=some (sN1 rs (strs (d::rs)) rs.length (rs.length+1))) (gl (fun k' s=>∃i,k'=rs.length-i/\i<=rs.length/\∃L,eX 3 L s=some (sN1 rs (strs (d::rs.take i)) i (i+1))) U ?_ rs.length ⟨0,rfl,aY _,_,dL⟩) ?_)
 . rintro k' s1 ⟨i,hk,hi,L,fQ⟩;refine c6 fQ ?_;rcases bN i rs.length with fJ|Ae
   . obtain⟨p,hp⟩:∃p,rs[i]? =some p:=⟨_,ay fJ⟩;refine fR X6 (Yc rs (strs (d::rs.take i)) _ p i (i+1) (OB d hp)) fun g hg hc=>?_;simp only[aE,aM,bt]at hg;rcases hg with rfl|rfl
     . refine⟨?_,fun s' dL=>⟨rs.length-(i+1),be,i+1,rfl,be,_,dL⟩⟩
       repeat' (first|exact cR|refine ju ?_ ?_)
       . exact⟨az _,dh⟩
       . rw[eJ,bj]
       . exact aN V.dw (fI hp)
       . rw[eJ,aT,aX];omega
       . decide
       . exact pT be
       . exact fG dh be
     . exact absurd (aJ (hc _ (aq.2 rfl))) dh
   . obtain rfl:i=rs.length:=by omega
     refine fR X6 (Yc rs (strs (d::rs.take rs.length)) _ [] rs.length (rs.length+1) rfl) fun g hg hc=>?_;simp only[aE,aM,bt]at hg;rcases hg with rfl|rfl
     . exact absurd (aH (hc _ (aq.2 rfl))) dh
     . refine⟨cR,fun s' dL=>⟨rfl,[5,10,11,12],?_⟩⟩;rw[dL,aS]
 rintro y s2 ⟨rfl,L,jd⟩;rw[dY];simp only[andThen];refine c6 jd ?_;refine c6 (live:=[5]) (s2:=eF [(5,.di (some (3,0)) (rs.length+1) (rs.length+1) 1)] (hL [(0,.ints .u32 gS),(1,.ints .u32 gR),(3,.deep (strs (d::rs)))]) 4) U ?_;refine xJ [3] (A:=[(strs (d::rs)).length=(rs.length+1)*1]) (s2:=eF [(5,.dM false (rs.length+1) (strs (d::rs)))] ((hL [(0,.ints .u32 gS),(1,.ints .u32 gR),(3,.deep (strs (d::rs)))]).set 3 none) 4) U (fun x hx=>?_) ?_
 . rw[aq]at hx;subst hx;rw[eJ,bj];rfl
 refine c6 (live:=[5]) (s2:=sN2 (rs.length+1) (strs (d::rs))) U ?_;obtain⟨L5,ue⟩:=akO (d::rs) (rs.length+1);rw[ir]at ue;refine iq X6 mo _ U ue (dG ?_);refine⟨?_,_,_,_,rfl,rfl⟩
 repeat' (first|exact cR|refine ju ?_ ?_)
 . first|rfl|trivial
 . first|rfl|trivial
 . first|rfl|trivial
 . first|rfl|trivial
 . omega
 . omega
 . exact hs
end
def KZ:ai->Option (ah×V)
 | [.str d,.dM n cs]=>some ([cs=strs (dH cs),n=(dH cs).length,n<=1000000,(eH (d::dH cs)).length<=1000000000],.str (dN d (dH cs)))
 |_=>none
theorem Z5:jG ak 45 (tW KZ):=by
 refine Rg (au U) fun args A v e hA=>?_;unfold KZ at e;split at e
 case h_2=>cases e
 rename_i d n cs;simp only[an,aB]at e;obtain⟨rfl,rfl⟩:=e;have e1:cs=strs (dH cs):=hA _ (by simp);have e2:n=(dH cs).length:=hA (n=(dH cs).length) (by simp);have e4:n<=1000000:=hA (n<=1000000) (by simp);have e5:(eH (d::dH cs)).length<=1000000000:=hA ((eH (d::dH cs)).length<=1000000000) (by simp);generalize dH cs=ps at *;subst e1 e2;exact xK Tryz.func45 U U rfl rfl (fe (akP ps d e4 e5) fun y s h=>jZ h)
noncomputable abbrev W7:jL:=kA 45 (tW KZ) W6
theorem Yd:gd ak W7:=fk Z5 Yb
noncomputable abbrev cs7:e9:=gG ak W7 H0 1000 40
noncomputable abbrev X7:CX ak:=CX.of mo po Yd H0 1000 40
noncomputable abbrev Z6:Code:=dS Tryz.f75
noncomputable abbrev US:Code:=de 3 Z6
noncomputable abbrev aex:Code:=dK US
noncomputable abbrev Z7:Code:=dV US
section
variable(u:Int)
def sV0:St:=eF [(3,.di none 0 0 0),(4,.int .u64 u)] (hL []) 3
def Rh(o:O)(cO:Nat):St:=eF [(3,.di (some (3,0)) cO cO 1),(4,.int .u64 u)] (hL [(3,o)]) 4
theorem akQ(n:Int):c7 cs7 [(6,.dc (.int .u64 n))] 3 Tryz.f75 [3,4] (eO 3 Z6) (cT [.int .i64 n] .nil 3) [([],
   [(V.int IntKind.u64 (IntKind.u64.wrap n)=V.int IntKind.u64 n)],
   .to .normal (eF [(3,.di none 0 0 0),(4,.int .u64 n)] (hL []) 3))]
 :=cQ.of U U U
theorem akR:c7 cs7 [] 3 Tryz.f75 [] (Z7) (sV0 u) [([],
   [],
   .ret (.str ([UInt8.ofNat (IntKind.u8.wrap u).toNat])) (hL []) 3)]
 :=cQ.of U U U
theorem akS(ks:List Int)(cO:Nat):c7 cs7 [] 3 Tryz.f75 [] (Z7) (Rh u (.own .u8 ks) cO) [([],
   [(0<cO),(0+cO*1<=ks.length),(0<1),(eT (cO+1) 1 1=true),(0+(cO+1)<=(List.take (cO*1) (List.drop 0 ks)++[IntKind.u8.wrap u]).length)],
   .ret (.str (eN (List.take (cO+1) (List.drop 0 (List.take (cO*1) (List.drop 0 ks)++[IntKind.u8.wrap u]))))) (hL []) 3)]
 :=cQ.of U U U
end
def T1(u:Int):Int:=IntKind.u8.wrap (Int.ofNat (BitVec.ofInt 8 (IntKind.u8.wrap u)|||BitVec.ofInt 8 (128:Int)).toNat)
def Z8(u:Int):Int:=IntKind.u8.wrap u
def oe:Nat->Int->List Int
 |0,u=>[Z8 u]
 |k+1,u=>if 128<=u then T1 u::oe k (u.fdiv 128)else[Z8 u]
def jr(n:Int):aa:=eN (oe 4 n)
theorem Ri{k:Nat}{u:Int}(h:¬128<=u):oe k u=[Z8 u]:=by
 cases k with
 |zero=>rfl
 |succ k=>show(if 128<=u then _ else _)=_;rw[aI h]
theorem Da:∀(k:Nat) (u:Int),0<(oe k u).length/\(oe k u).length<=k+1
 |0,u=>by simp[oe]
 |k+1,u=>by
  have:=Da k (u.fdiv 128);show 0<(if 128<=u then _ else _:List Int).length/\(if 128<=u then _ else _:List Int).length<=_;split
  . simp only[aT];omega
  . simp only[aT,bO];omega
theorem my(n:Int):0<(jr n).length/\(jr n).length<=5:=by
 have:=Da 4 n;unfold jr eN;rw[aW];exact this
theorem aez(u:Int):c7 cs7 [(8,.split)] 3 Tryz.f75 [3,4] (dx (dx aex)) (sV0 u) [([((decide (u>=(128:Int))),true)],[],.to .normal (Rh (u.fdiv 128) (.cells [.int .u8 (T1 u)]) 1)),
   ([((decide (u>=(128:Int))),false)],[],.to (.exit 0) (sV0 u))]:=cQ.of U U U
theorem aeA(u:Int)(ks ks2:List Int)(cO:Nat)(h:List.take (cO*1) (List.drop 0 ks)++[T1 u]=ks2):c7 cs7 [(8,.split)] 3 Tryz.f75 [3,4] (dx (dx aex)) (Rh u (.own .u8 ks) cO) [([((decide (u>=(128:Int))),true)],[(0<cO),(0+cO*1<=ks.length),(0<1),(eT (cO+1) 1 1=true)],.to .normal (Rh (u.fdiv 128) (.own .u8 ks2) (cO+1))),
   ([((decide (u>=(128:Int))),false)],[],.to (.exit 0) (Rh u (.own .u8 ks) cO))]:=by
 subst h;exact cQ.of U U U
def VaS(ks:List Int)(u:Int)(s:St):Prop:=(ks=[]/\∃L,eX 3 L s=some (sV0 u))\/(0<ks.length/\∃L,eX 3 L s=some (Rh u (.own .u8 ks) ks.length))\/(∃x,ks=[x]/\∃L,eX 3 L s=some (Rh u (.cells [.int .u8 x]) 1))
def VaI(n:Int)(k:Nat)(s:St):Prop:=∃ks u,0<=u/\u<128^(k+1)/\ks.length+k<=10/\ks++oe k u=oe 4 n/\VaS ks u s
def VaE(n:Int)(s:St):Prop:=∃ks u,ks.length<=10/\ks++[Z8 u]=oe 4 n/\VaS ks u s
theorem akT(n:Int)(h0:0<=n)(hn:n<1000000000):TG ak 3 Tryz.f75.ntmps Z6 (cT [.int .i64 n] .nil 3) (fH ak 3 Tryz.f75 fun u _ _=>u= .str (jr n)):=by
 refine iO  3 X7 (akQ n) (fun p hp=>?_) ?_
 . rw[aq]at hp;subst hp;have:IntKind.u64.wrap n=n:=by
    unfold IntKind.wrap;have e1:(2^IntKind.u64.bits:Int)=18446744073709551616:=by decide
    have e3:IntKind.u64.signed=false:=rfl;simp only[e1,e3,Bool.false_and,aO,cG];omega
   rw[this]
 show TG ak 3 Tryz.f75.ntmps US (sV0 n) _;refine cV U ?_;refine fg (i:=0) U (fe (Q1:=fun z s'=>z= .exit 0/\VaE n s') (gl (VaI n) U ?_ 4 ⟨[],n,h0,be,dP,rfl,.inl ⟨rfl,[3,4],U⟩⟩) ?_)
 . rintro k s1 ⟨ks,u,hu0,hu,hl,hv,hs⟩;have key:∀hk:128<=u,∃j,k=j+1/\0<=u.fdiv 128/\u.fdiv 128<128^(j+1)/\(ks++[T1 u])++oe j (u.fdiv 128)=oe 4 n:=by
    intro hk;cases k with
    |zero=>simp at hu;omega
    |succ j=>
     have ed:u.fdiv 128=u/128:=cK _ dP;refine⟨j,rfl,by rw[ed];omega,?_,?_⟩
     . rw[ed];have:(128:Int)^(j+1+1)=128^(j+1)*128:=Int.pow_succ ..;rw[this]at hu;exact Int.ediv_lt_of_lt_mul dP hu
     . rw[<- hv];show _=ks++(if 128<=u then _ else _);rw[aG hk];simp
   have Cu:∀hk:¬128<=u,ks++[Z8 u]=oe 4 n:=fun hk=>by rw[<- hv,Ri hk]
   have own:∀s2,0<ks.length->s2=Rh u (.own .u8 ks) ks.length->TG ak 3 Tryz.f75.ntmps (dx (dx (dK US))) s2 (andThen (fun s'=>∃k',k'<k/\VaI n k' s') fun z s'=>z= .exit 0/\VaE n s'):=by
    rintro s2 mG rfl;refine fR X7 (aeA u ks (ks++[T1 u]) ks.length (by rw[bu,bj,aS])) fun g hg hc=>?_;simp only[aE,aM,bt]at hg;rcases hg with rfl|rfl
    . have hk:128<=u:=aH (hc _ (aq.2 rfl));obtain⟨j,rfl,a1,a2,a3⟩:=key hk;have HB:(ks++[T1 u]).length+j<=10:=by
       clear a2 hu;rw[ax,aT,bO];omega
      refine⟨?_,fun s' dL=>⟨j,Nat.lt_succ_self j,_,_,a1,a2,HB,a3,.inr (.inl ⟨by simp,[3,4],by rw[dL,ax];rfl⟩)⟩⟩
      repeat' (first|exact cR|refine ju ?_ ?_)
      . exact mG
      . omega
      . decide
      . exact jq be
    . have hk:¬128<=u:=aJ (hc _ (aq.2 rfl));exact⟨cR,fun s' dL=>⟨rfl,ks,u,be,Cu hk,.inr (.inl ⟨mG,_,dL⟩)⟩⟩
   rcases hs with⟨rfl,L,hs⟩|⟨mG,L,hs⟩|⟨x,rfl,L,hs⟩
   . refine c6 hs ?_;refine fR X7 (aez u) fun g hg hc=>?_;simp only[aE,aM,bt]at hg;rcases hg with rfl|rfl
     . have hk:128<=u:=aH (hc _ (aq.2 rfl));obtain⟨j,rfl,a1,a2,a3⟩:=key hk;have HB:[T1 u].length+j<=10:=by
        clear a2 hu;simp only[aT,bO]at hl ⊢;omega
       exact⟨cR,fun s' dL=>⟨j,Nat.lt_succ_self j,_,_,a1,a2,HB,a3,.inr (.inr ⟨_,rfl,_,dL⟩)⟩⟩
     . have hk:¬128<=u:=aJ (hc _ (aq.2 rfl));exact⟨cR,fun s' dL=>⟨rfl,[],u,dP,Cu hk,.inl ⟨rfl,_,dL⟩⟩⟩
   . exact c6 hs (own _ mG rfl)
   . refine c6 hs ?_;refine tC [(3,.u8)] (s2:=Rh u (.own .u8 [x]) 1) U ?_;exact own _ Nat.zero_lt_one rfl
 rintro y s2 ⟨rfl,ks,u,hl,hv,hs⟩;rw[dY];simp only[andThen];have own:∀s2,0<ks.length->s2=Rh u (.own .u8 ks) ks.length->TG ak 3 Tryz.f75.ntmps Z7 s2 (fH ak 3 Tryz.f75 fun u _ _=>u= .str (jr n)):=by
  rintro s2 mG rfl;refine fu X7 (akS u ks ks.length) (dG ?_);have e:List.take (ks.length*1) (List.drop 0 ks)++[IntKind.u8.wrap u]=oe 4 n:=by rw[bu,bj,aS];exact hv
  have el:(oe 4 n).length=ks.length+1:=by rw[<- hv,ax];rfl
  rw[e];refine⟨?_,_,_,_,rfl,?_⟩
  . repeat' (first|exact cR|refine ju ?_ ?_)
    . exact mG
    . omega
    . decide
    . exact jq be
    . omega
  . unfold jr;rw[bu,<- el,aS]
 rcases hs with⟨rfl,L,hs⟩|⟨mG,L,hs⟩|⟨x,rfl,L,hs⟩
 . refine c6 hs ?_;refine fu X7 (akR u) (dG ?_);refine⟨cR,_,_,_,rfl,?_⟩;unfold jr;rw[<- hv];rfl
 . exact c6 hs (own _ mG rfl)
 . refine c6 hs ?_;refine tC [(3,.u8)] (s2:=Rh u (.own .u8 [x]) 1) U ?_;exact own _ Nat.zero_lt_one rfl
def K0:ag->Option (ah×V)
 | [.int .i64 n]=>some ([0<=n/\n<1000000000],.str (jr n))
 |_=>none
theorem Z9:jG ak 75 (jJ K0):=by
 refine jY (au U) fun args A v e=>?_;unfold K0 at e;split at e
 . obtain⟨rfl,rfl⟩:=fa e;exact⟨rfl,U,fun hA=>gT mo po Tryz.func75 U U rfl (akT _ (hA _ (aq.2 rfl)).1 (hA _ (aq.2 rfl)).2)⟩
 . cases e
noncomputable abbrev W8:jL:=kA 75 (jJ K0) W7
theorem Ye:gd ak W8:=fk Z9 Yd
noncomputable abbrev cs8:e9:=gG ak W8 H0 1000 40
noncomputable abbrev X8:CX ak:=CX.of mo po Ye H0 1000 40
noncomputable abbrev aaa:Code:=dS Tryz.f122
noncomputable abbrev aab:Code:=de 1 aaa
noncomputable abbrev aeB:Code:=dK aab
noncomputable abbrev akU:Code:=dV aab
noncomputable abbrev aac:Code:=dS Tryz.f99
noncomputable abbrev aad:Code:=de 4 aac
noncomputable abbrev aeC:Code:=dK aad
noncomputable abbrev akV:Code:=dV aad
def Yf(c:Int):Int:=nt (c.fdiv 2) (w32 (3988292384*Aw c 1))
def sT0(o:O):St:=eF [(0,.ptr (some (3,0)))] (hL [(3,o)]) 4
section
variable(s:aa)(ws:List Int)(i:Nat)
def Yg:St:=eF [(0,.ptr (some (3,0))),(3,.int .i64 (Int.ofNat i))] (hL [(3,.own .u32 ws)]) 4
def aae:V:=.agg ((List.range 256).map fun j=>.int .u32 (ws.getD j 0))
def sU0(c:Int)(o:O):St:=eF [(0,.str s),(4,.ptr (some (3,0))),(5,.fn (.func 123) [] [.ptr (some (4,0)),.ptr (some (3,0))])] (hL [(3,.cells [.int .u32 c]),(4,o)]) 5
def sU1(c:Int)(ws:List Int)(i:Nat):St:=eF [(0,.str s),(4,.ptr (some (3,0))),(5,.fn (.func 123) [] [.ptr (some (4,0)),.ptr (some (3,0))]),(10,.int .i64 (Int.ofNat s.length)),(11,.int .i64 (Int.ofNat i))] (hL [(3,.cells [.int .u32 c]),(4,.own .u32 ws)]) 5
def aag:Int:=Yf (Yf (Yf (Yf (Yf (Yf (Yf (Yf (w32 (Int.ofNat i)))))))))
theorem akW:cQ ak cs8 [] 1000 3 Tryz.f122 [0] (eO 1 aaa) (cT [] .nil 3) [] [([],[],.to .normal (sT0 (.cells (List.replicate 256 (.int .u32 0)))))]:=by
 unfold cQ;kernel_rfl
theorem aah:KK [(3,.u32)] (sT0 (.cells (List.replicate 256 (.int .u32 0))))=some (sT0 (.own .u32 (List.replicate 256 0))):=by kernel_rfl
theorem akX:c7 cs8 [(3,.dc (.int .i64 (Int.ofNat 0)))] 3 Tryz.f122 [0,3] (dK aeB) (sT0 (.own .u32 ws)) [([],[V.int .i64 0=V.int .i64 0],.to .normal (Yg ws 0))]:=
 cQ.of U U U
theorem akY:c7 cs8 [(4,.split),(20,.dc (.int .i64 (Int.ofNat (i+1))))] 3 Tryz.f122 [0,3] (dx (dx (dV aeB))) (Yg ws i) [([(decide (Int.ofNat i<256),true)],[0<=Int.ofNat i/\Int.ofNat i<256,0+i*1+1<=ws.length,kQ (Int.ofNat i+1) (i+1)],.to .normal (Yg (fS ws (0+i*1) [aag i]) (i+1))),
   ([(decide (Int.ofNat i<256),false)],[],.to (.exit 0) (Yg ws i))]:=
 cQ.of U U U
theorem akZ:c7 cs8 [] 3 Tryz.f122 [] akU (Yg ws i) [([],[256<=ws.length,256<=ws.length],.ret (aae ws) (hL []) 3)]:=
 cQ.of U U U
theorem ak0(c:Int)(ws:List Int):c7 cs8 [(11,.dc (.int .i64 (Int.ofNat 0)))] 3 Tryz.f99 [0,4,5,10,11] (dK aeC) (sU0 s c (.own .u32 ws)) [([],
   [(V.int aj (0:Int)=V.int aj (0:Int))],
   .to .normal (eF [(0,.str (s)),(4,.ptr (some (3,0))),(5,.fn (.func 123) [] [.ptr (some (4,0)),.ptr (some (3,0))]),(10,.int .i64 ((Int.ofNat s.length))),(11,.int .i64 0)] (hL [(3,.cells [.int .u32 c]),(4,.own .u32 (ws))]) 5))]
 :=cQ.of U U U
theorem ak1(c:Int)(ws:List Int)(i:Nat):c7 cs8 [] 3 Tryz.f99 [] (akV) (sU1 s c ws i) [([],
   [],
   .ret (.int .u32 (IntKind.u32.wrap (Int.ofNat (BitVec.ofInt 32 (4294967295:Int)^^^BitVec.ofInt 32 c).toNat))) (hL []) 3)]
 :=cQ.of U U U
end
def K1:Nat->List Int
 |0=>List.replicate 256 0
 |i+1=>fS (K1 i) (0+i*1) [aag i]
theorem Db:∀i,i<=256->(K1 i).length=256
 |0,_=>bJ ..
 |i+1,h=>by
  have ih:=Db i be;show(fS (K1 i) (0+i*1) [aag i]).length=256;rw[C8 (by simp only[aT,bO];omega),ih]
def zb:List Int:=K1 256
theorem ak2:TG ak 3 Tryz.f122.ntmps aaa (cT [] .nil 3) (fH ak 3 Tryz.f122 fun u _ _=>u=aae zb):=by
 have hO:∀n:Nat,Int.ofNat n=(n:Int):=fun _=>rfl;refine kV 1 X8 mo U akW cR ?_;refine tC _ aah ?_;show TG ak 3 Tryz.f122.ntmps aab _ _;refine cV U ?_;refine cV U ?_;refine fR X8 (akX (List.replicate 256 0)) (dG ?_);refine⟨fun p hp=>by rw[aq]at hp;subst hp;rfl,fun s' dL=>?_⟩;have dL:eX 3 [0,3] s'=some (Yg (K1 0) 0):=dL;refine fg (i:=0) U (fe (Q1:=fun z s'=>z= .exit 0/\∃L,eX 3 L s'=some (Yg zb 256)) (gl (fun k' s=>∃i,k'=256-i/\i<=256/\∃L,eX 3 L s=some (Yg (K1 i) i)) U ?_ 256 ⟨0,rfl,aY _,_,dL⟩) ?_)
 . rintro k' s1 ⟨i,hk,hi,L,fQ⟩;refine c6 fQ ?_;refine fR X8 (akY (K1 i) i) fun g hg hc=>?_;simp only[aE,aM,bt]at hg;rcases hg with rfl|rfl
   . have fJ:i<256:=by
      have:=aH (hc _ (aq.2 rfl));rw[hO]at this;omega
     have hl:=Db i hi;refine⟨?_,fun s' dL=>⟨256-(i+1),be,i+1,rfl,be,_,dL⟩⟩
     repeat' (first|exact cR|refine ju ?_ ?_)
     . exact⟨az _,dh⟩
     . omega
     . exact fG dh be
   . have Ae:¬i<256:=by
      have:=aJ (hc _ (aq.2 rfl));rw[hO]at this;omega
     obtain rfl:i=256:=by omega
     exact⟨cR,fun s' dL=>⟨rfl,_,dL⟩⟩
 rintro y s2 ⟨rfl,L,jd⟩;rw[dY];simp only[andThen];refine c6 jd ?_;refine fu X8 (akZ zb 256) (dG ?_);have hl:zb.length=256:=Db 256 (aA _);refine⟨?_,_,_,_,rfl,rfl⟩
 repeat' (first|exact cR|refine ju ?_ ?_)
 . omega
 . omega
def K2:ag->Option (ah×V)
 | []=>some ([],aae zb)
 |_=>none
theorem aai:jG ak 122 (jJ K2):=by
 refine jY (au U) fun args A v e=>?_;unfold K2 at e;split at e
 . obtain⟨rfl,rfl⟩:=fa e;exact⟨rfl,U,fun hA=>gT mo po Tryz.func122 U U rfl ak2⟩
 . cases e
noncomputable abbrev W9:jL:=kA 122 (jJ K2) W8
theorem Yh:gd ak W9:=fk aai Ye
noncomputable abbrev cs9:e9:=gG ak W9 H0 1000 40
noncomputable abbrev X9:CX ak:=CX.of mo po Yh H0 1000 40
section
variable(ws:List Int)(s:aa)
theorem ak3:c7 cs9 [] 3 Tryz.f99 [0,4,5] (eO 4 aac) (cT [.str s] .nil 3) [([],[],.to .normal (sU0 s 4294967295 (.cells ((List.range 256).map fun j=>.int .u32 (zb.getD j 0)))))]:=
 cQ.of U U U
def w256:List Int:=(List.range 256).map fun j=>ws.getD j 0
theorem Rj:(w256 ws).length=256:=by unfold w256;rw[aW,List.length_range]
theorem aaj(c:Int):KK [(4,.u32)] (sU0 s c (.cells ((List.range 256).map fun j=>.int .u32 (zb.getD j 0))))=some (sU0 s c (.own .u32 (w256 zb))):=by
 kernel_rfl
def K3(c:Int)(b:UInt8):Int:=IntKind.u8.wrap (Int.ofNat (BitVec.ofInt 8 (IntKind.u8.wrap c)^^^BitVec.ofInt 8 (Int.ofNat b.toNat)).toNat)
def aeD(c:Int)(b:UInt8):Int:=nt (ws.getD (0+(K3 c b).toNat*1) 0) (c.fdiv 256)
end
def Dc(ws:List Int)(s:aa):Nat->Int
 |0=>4294967295
 |i+1=>aeD ws (Dc ws s i) (s.getD i 0)
section
variable(s:aa)
def qG:Int:=nt 4294967295 (Dc (w256 zb) s s.length)
theorem aeE(c:Int)(ws:List Int)(i:Nat):c7 cs9 [(12,.split),(19,.dc (.int .i64 (Int.ofNat (i+1))))] 3 Tryz.f99 [0,4,5,10,11] (dx (dx (dV aeC))) (sU1 s c ws i) [([(decide (Int.ofNat i<Int.ofNat s.length),true)],[0<=Int.ofNat i/\(Int.ofNat i).toNat<s.length,0<=K3 c (s.getD i 0)/\K3 c (s.getD i 0)<256,0+(K3 c (s.getD i 0)).toNat*1<ws.length,kQ (Int.ofNat i+1) (i+1)],.to .normal (sU1 s (aeD ws c (s.getD i 0)) ws (i+1))),
   ([(decide (Int.ofNat i<Int.ofNat s.length),false)],[],.to (.exit 0) (sU1 s c ws i))]:=
 cQ.of U U U
theorem UT(c:Int)(b:UInt8):0<=K3 c b/\K3 c b<256:=by
 unfold K3 IntKind.wrap;have e1:(2^IntKind.u8.bits:Int)=256:=by decide
 have e3:IntKind.u8.signed=false:=rfl;simp only[e1,e3,Bool.false_and,aO,cG];omega
theorem ak4(hs:s.length<1000000000):TG ak 3 Tryz.f99.ntmps aac (cT [.str s] .nil 3) (fH ak 3 Tryz.f99 fun u _ _=>u= .int .u32 (qG s)):=by
 have hO:∀n:Nat,Int.ofNat n=(n:Int):=fun _=>rfl;refine iO  4 X9 (ak3 s) cR ?_;refine tC _ (aaj s 4294967295) ?_;show TG ak 3 Tryz.f99.ntmps aad _ _;have hw:=Rj zb;unfold qG;generalize w256 zb=ws at hw ⊢;refine cV U ?_;refine cV U ?_;refine fR X8 (ak0 s 4294967295 ws) (dG ?_);refine⟨fun p hp=>by rw[aq]at hp;subst hp;rfl,fun s' dL=>?_⟩;have dL:eX 3 [0,4,5,10,11] s'=some (sU1 s (Dc ws s 0) ws 0):=dL;refine fg (i:=0) U (fe (Q1:=fun z s'=>z= .exit 0/\∃L,eX 3 L s'=some (sU1 s (Dc ws s s.length) ws s.length)) (gl (fun k' s'=>∃i,k'=s.length-i/\i<=s.length/\∃L,eX 3 L s'=some (sU1 s (Dc ws s i) ws i)) U ?_ s.length ⟨0,rfl,aY _,_,dL⟩) ?_)
 . rintro k' s1 ⟨i,hk,hi,L,fQ⟩;refine c6 fQ ?_;refine fR X9 (aeE s (Dc ws s i) ws i) fun g hg hc=>?_;simp only[aE,aM,bt]at hg;rcases hg with rfl|rfl
   . have fJ:i<s.length:=by
      have:=aH (hc _ (aq.2 rfl));rw[hO,hO]at this;omega
     have hx:=UT (Dc ws s i) (s.getD i 0);refine⟨?_,fun s' dL=>⟨s.length-(i+1),be,i+1,rfl,be,_,dL⟩⟩
     repeat' (first|exact cR|refine ju ?_ ?_)
     . exact⟨az _,fJ⟩
     . exact hx
     . omega
     . exact fG dh be
   . have Ae:¬i<s.length:=by
      have:=aJ (hc _ (aq.2 rfl));rw[hO,hO]at this;omega
     obtain rfl:i=s.length:=by omega
     exact⟨cR,fun s' dL=>⟨rfl,_,dL⟩⟩
 rintro y s2 ⟨rfl,L,jd⟩;rw[dY];simp only[andThen];refine c6 jd ?_;refine fu X8 (ak1 s (Dc ws s s.length) ws s.length) (dG ?_);exact⟨cR,_,_,_,rfl,rfl⟩
end
def K4:ag->Option (ah×V)
 | [.str s]=>some ([s.length<1000000000],.int .u32 (qG s))
 |_=>none
theorem aak:jG ak 99 (jJ K4):=by
 refine jY (au U) fun args A v e=>?_;unfold K4 at e;split at e
 . obtain⟨rfl,rfl⟩:=fa e;exact⟨rfl,U,fun hA=>gT mo po Tryz.func99 U U rfl (ak4 _ (hA _ (aq.2 rfl)))⟩
 . cases e
noncomputable abbrev W10:jL:=kA 99 (jJ K4) W9
theorem Rk:gd ak W10:=fk aak Yh
noncomputable abbrev aal:e9:=gG ak W10 H0 1000 40
noncomputable abbrev X10:CX ak:=CX.of mo po Rk H0 1000 40
noncomputable abbrev aam:Code:=dS Tryz.f47
noncomputable abbrev aan:Code:=de 2 aam
noncomputable abbrev aeF:Code:=dK aan
noncomputable abbrev ak7:Code:=dV aan
section
variable(b:aa)(rs:List (aa))
def sR0:St:=eF [(1,.dM false rs.length (strs rs)),(5,.str b)] (hL []) 3
def sR1(i:Nat):St:=eF [(5,.str b),(16,.dM false rs.length (strs rs)),(17,.int .i64 (Int.ofNat rs.length)),(18,.int .i64 (Int.ofNat i))] (hL []) 3
theorem ak8:c7 aal [] 3 Tryz.f76 [] (dS Tryz.f76) (cT [.str b] .nil 3) [([],
   [((0:Int)<=(Int.ofNat b.length)/\(Int.ofNat b.length)<(1000000000:Int)),((jr (Int.ofNat b.length)).length+b.length<=9223372036854775807),(b.length<1000000000),((jr (Int.ofNat b.length)++b).length+(dO (IntKind.i64.wrap (qG b))).length<=9223372036854775807)],
   .ret (.str (jr (Int.ofNat b.length)++b++dO (IntKind.i64.wrap (qG b)))) (hL []) 3)]
 :=cQ.of U U U
theorem ak9(d:aa)(rs:List (aa)):c7 aal [] 3 Tryz.f47 [1,5] (eO 2 aam) (cT [.str d,.dM false rs.length (strs rs)] .nil 3) [([],
   [((0:Int)<=(Int.ofNat d.length)/\(Int.ofNat d.length)<(1000000000:Int)),((jr (Int.ofNat d.length)).length+d.length<=9223372036854775807),(1+(jr (Int.ofNat d.length)++d).length<=9223372036854775807),((0:Int)<=(Int.ofNat rs.length)/\(Int.ofNat rs.length)<(1000000000:Int)),((o8 (1:Int)++(jr (Int.ofNat d.length)++d)).length+(jr (Int.ofNat rs.length)).length<=9223372036854775807)],
   .to .normal (eF [(1,.dM false (rs.length) (strs rs)),(5,.str (o8 (1:Int)++(jr (Int.ofNat d.length)++d)++jr (Int.ofNat rs.length)))] (hL []) 3))]
 :=cQ.of U U U
theorem ala:c7 aal [(18,.dc (.int .i64 (Int.ofNat 0)))] 3 Tryz.f47 [5,16,17,18] (dK aeF) (sR0 b rs) [([],
   [(V.int aj (0:Int)=V.int aj (0:Int))],
   .to .normal (eF [(5,.str (b)),(16,.dM false (rs.length) (strs rs)),(17,.int .i64 ((Int.ofNat rs.length))),(18,.int .i64 0)] (hL []) 3))]
 :=cQ.of U U U
end
section
variable(s b n:aa)(rs:List (aa))(i:Nat)
def js:aa:=jr (Int.ofNat s.length)++s
def nu:aa:=js b++dO (IntKind.i64.wrap (qG b))
def vr(d:aa)(n:Nat):aa:=o8 1++js d++jr (Int.ofNat n)
def gO(d:aa)(rs:List (aa)):aa:=nu (vr d rs.length++rs.flatten)
def kR(d:aa):aa:=nu (o8 2++js n++js d)
theorem oK:s.length<(js s).length/\(js s).length<=s.length+5:=by
 have:=my (Int.ofNat s.length);unfold js;rw[ax];omega
theorem xL:s.length+4<(nu s).length/\(nu s).length<=s.length+9:=by
 have:=oK s;unfold nu;rw[ax];show _<_+4/\_+4<=_;omega
theorem wm(d:aa)(n:Nat):d.length<(vr d n).length/\(vr d n).length<=d.length+11:=by
 have:=oK d;have h2:=my (Int.ofNat n);unfold vr;rw[ax,ax];show _<1+_+_/\1+_+_<=_;omega
theorem IU(d:aa)(rs:List (aa)):0<(gO d rs).length/\(gO d rs).length<=d.length+20+rs.flatten.length:=by
 have h:=xL (vr d rs.length++rs.flatten);have h1:=wm d rs.length;rw[ax]at h;unfold gO;omega
theorem Rl(d:aa):0<(kR n d).length/\(kR n d).length<=n.length+d.length+20:=by
 have h:=xL (o8 2++js n++js d);have h1:=oK n;have h2:=oK d;rw[ax,ax]at h;have e:(o8 2).length=1:=rfl;unfold kR;omega
def K5:ag->Option (ah×V)
 | [.str b]=>some ([b.length<1000000000],.str (nu b))
 |_=>none
theorem aap:jG ak 76 (jJ K5):=by
 refine jY (au U) fun args A v e=>?_;unfold K5 at e;split at e
 . rename_i b;obtain⟨rfl,rfl⟩:=fa e;refine⟨rfl,U,fun hA=>?_⟩;have hb:b.length<1000000000:=hA _ (aq.2 rfl);have hO:∀n:Nat,Int.ofNat n=(n:Int):=fun _=>rfl;have h1:=my (Int.ofNat b.length);obtain⟨L,hr⟩:=ak8 b;refine gT mo po Tryz.func76 U U rfl (iq X10 mo _ U hr fun g hg _=>?_);rw[aq]at hg;subst hg;refine⟨?_,_,_,_,rfl,rfl⟩
   repeat' (first|exact cR|refine ju ?_ ?_)
   . exact⟨az _,dh⟩
   . omega
   . exact hb
   . rw[ax];show _+4<=_;omega
 . cases e
noncomputable abbrev W11:jL:=kA 76 (jJ K5) W10
theorem Rm:gd ak W11:=fk aap Rk
noncomputable abbrev aaq:e9:=gG ak W11 H0 1000 40
noncomputable abbrev X11:CX ak:=CX.of mo po Rm H0 1000 40
theorem Yi(b2:aa)(rs:List (aa))(p:aa)(i:Nat)(h:b++p=b2):c7 aaq [(19,.split),(20,.dc (.dw [.str p])),(25,.dc (.int .i64 (Int.ofNat (i+1))))] 3 Tryz.f47 [5,16,17,18] (dx (dx (dV aeF))) (sR1 b rs i) [([((decide (Int.ofNat i<Int.ofNat rs.length)),true)],
   [((0:Int)<=Int.ofNat i/\Int.ofNat i<(Int.ofNat rs.length)),((strs rs).length=rs.length*1),(V.dw (dm (strs rs) ((Int.ofNat i).toNat*1) 1)=V.dw [D.str p]),(b.length+p.length<=9223372036854775807),kQ (Int.ofNat i+1) (i+1)],
   .to .normal (sR1 b2 rs (i+1))),
  ([((decide (Int.ofNat i<Int.ofNat rs.length)),false)],[],.to (.exit 0) (sR1 b rs i))]:=by
 subst h;exact cQ.of U U U
theorem alc:c7 aaq [] 3 Tryz.f47 [] ak7 (sR1 b rs i) [([],[b.length<1000000000],.ret (.str (nu b)) (hL []) 3)]:=
 cQ.of U U U
theorem Ff{rs:List (aa)}{i:Nat}{p:aa}(h:rs[i]? =some p):(rs.take (i+1)).flatten=(rs.take i).flatten++p:=by
 rw[bI,h,cr];simp
theorem UU:(rs.take i).flatten.length<=rs.flatten.length:=by
 have:rs.flatten=(rs.take i).flatten++(rs.drop i).flatten:=by
  rw[<- cr,ck]
 rw[this,ax];omega
theorem ald(d:aa)(rs:List (aa))(hd:d.length<=100000000)(NM:rs.length<=1000000)(hf:rs.flatten.length<=100000000):TG ak 3 Tryz.f47.ntmps aam (cT [.str d,.dM false rs.length (strs rs)] .nil 3)
  (fH ak 3 Tryz.f47 fun u _ _=>u= .str (gO d rs)):=by
 have hO:∀n:Nat,Int.ofNat n=(n:Int):=fun _=>rfl;have hh:=wm d rs.length;refine iO  2 X10 (ak9 d rs) ?_ ?_
 . have h1:=my (Int.ofNat d.length);have h2:=my (Int.ofNat rs.length)
   repeat' (first|exact cR|refine ju ?_ ?_)
   . exact⟨az _,dh⟩
   . omega
   . rw[ax];omega
   . exact⟨az _,dh⟩
   . rw[ax,ax];show 1+_+_<=_;omega
 show TG ak 3 Tryz.f47.ntmps aan (sR0 (vr d rs.length) rs) _;unfold gO;generalize vr d rs.length=hb at hh ⊢;refine cV U ?_;refine cV U ?_;refine fR X10 (ala hb rs) (dG ?_);refine⟨fun p hp=>by rw[aq]at hp;subst hp;rfl,fun s' dL=>?_⟩;have dL:eX 3 [5,16,17,18] s'=some (sR1 (hb++(rs.take 0).flatten) rs 0):=by rw[dL];simp;rfl
 refine fg (i:=0) U (fe (Q1:=fun z s'=>z= .exit 0/\∃L,eX 3 L s'=some (sR1 (hb++rs.flatten) rs rs.length)) (gl (fun k' s=>∃i,k'=rs.length-i/\i<=rs.length/\∃L,eX 3 L s=some (sR1 (hb++(rs.take i).flatten) rs i)) U ?_ rs.length ⟨0,rfl,aY _,_,dL⟩) ?_)
 . rintro k' s1 ⟨i,hk,hi,L,fQ⟩;refine c6 fQ ?_;rcases bN i rs.length with fJ|Ae
   . obtain⟨p,hp⟩:∃p,rs[i]? =some p:=⟨_,ay fJ⟩;have TZ:=UU rs (i+1);rw[Ff hp,ax]at TZ;refine fR X11 (Yi (hb++(rs.take i).flatten) (hb++(rs.take (i+1)).flatten) rs p i (by rw[Ff hp,bA])) fun g hg hc=>?_;simp only[aE,aM,bt]at hg;rcases hg with rfl|rfl
     . refine⟨?_,fun s' dL=>⟨rs.length-(i+1),be,i+1,rfl,be,_,dL⟩⟩
       repeat' (first|exact cR|refine ju ?_ ?_)
       . exact⟨az _,dh⟩
       . rw[eJ,bj]
       . exact aN V.dw (fI hp)
       . rw[ax];omega
       . exact fG dh be
     . exact absurd (aJ (hc _ (aq.2 rfl))) dh
   . obtain rfl:i=rs.length:=by omega
     refine fR X11 (Yi (hb++(rs.take rs.length).flatten) _ rs [] rs.length rfl) fun g hg hc=>?_;simp only[aE,aM,bt]at hg;rcases hg with rfl|rfl
     . exact absurd (aH (hc _ (aq.2 rfl))) dh
     . refine⟨cR,fun s' dL=>⟨rfl,[5,16,17,18],?_⟩⟩;rw[dL,aS]
 rintro y s2 ⟨rfl,L,jd⟩;rw[dY];simp only[andThen];refine c6 jd ?_;refine fu X11 (alc (hb++rs.flatten) rs rs.length) (dG ?_);refine⟨fun p hp=>?_,_,_,_,rfl,rfl⟩;rw[aq]at hp;subst hp;rw[ax];omega
def K6:ai->Option (ah×V)
 | [.str d,.dM n cs]=>some ([cs=strs (dH cs),n=(dH cs).length,d.length<=100000000,n<=1000000,(dH cs).flatten.length<=100000000],.str (gO d (dH cs)))
 |_=>none
theorem aar:jG ak 47 (dW K6):=by
 refine vl (au U) fun args A v e hA=>?_;unfold K6 at e;split at e
 case h_2=>cases e
 rename_i d n cs;simp only[an,aB]at e;obtain⟨rfl,rfl⟩:=e;have e1:cs=strs (dH cs):=hA _ (by simp);have e2:n=(dH cs).length:=hA (n=(dH cs).length) (by simp);have e3:d.length<=100000000:=hA (d.length<=100000000) (by simp);have e4:n<=1000000:=hA (n<=1000000) (by simp);have e5:(dH cs).flatten.length<=100000000:=hA ((dH cs).flatten.length<=100000000) (by simp);generalize dH cs=ps at *;subst e1 e2;exact gU mo po Tryz.func47 U U rfl rfl (fe (ald d ps e3 e4 e5) fun y s h=>jZ h)
def K7:ag->Option (ah×V)
 | [.str n,.str d]=>some ([n.length<100000000,d.length<100000000],.str (kR n d))
 |_=>none
theorem ale(d:aa):c7 aaq [] 3 Tryz.f49 [] (dS Tryz.f49) (cT [.str n,.str d] .nil 3) [([],[0<=Int.ofNat n.length/\Int.ofNat n.length<1000000000,(jr (Int.ofNat n.length)).length+n.length<=9223372036854775807,1+(jr (Int.ofNat n.length)++n).length<=9223372036854775807,0<=Int.ofNat d.length/\Int.ofNat d.length<1000000000,(jr (Int.ofNat d.length)).length+d.length<=9223372036854775807,(o8 2++(jr (Int.ofNat n.length)++n)).length+(jr (Int.ofNat d.length)++d).length<=9223372036854775807,(o8 2++(jr (Int.ofNat n.length)++n)++(jr (Int.ofNat d.length)++d)).length<1000000000],.ret (.str (kR n d)) (hL []) 3)]:=
 cQ.of U U U
theorem aas:jG ak 49 (jJ K7):=by
 refine jY (au U) fun args A v e=>?_;unfold K7 at e;split at e
 . rename_i n d;obtain⟨rfl,rfl⟩:=fa e;refine⟨rfl,U,fun hA=>?_⟩;have hn:n.length<100000000:=hA _ (by simp);have hd:d.length<100000000:=hA (d.length<100000000) (by simp);have hO:∀n:Nat,Int.ofNat n=(n:Int):=fun _=>rfl;have h1:=my (Int.ofNat n.length);have h2:=my (Int.ofNat d.length);obtain⟨L,hr⟩:=ale n d;refine gT mo po Tryz.func49 U U rfl (iq X11 mo _ U hr fun g hg _=>?_);rw[aq]at hg;subst hg;refine⟨?_,_,_,_,rfl,rfl⟩;have e1:(o8 2).length=1:=rfl
   repeat' (first|exact cR|refine ju ?_ ?_)
   . exact⟨az _,dh⟩
   . omega
   . rw[ax];omega
   . exact⟨az _,dh⟩
   . omega
   . simp only[ax,e1];omega
   . simp only[ax,e1];omega
 . cases e
noncomputable abbrev W12:jL:=kA 49 (jJ K7) (kA 47 (dW K6) W11)
end
theorem Rn:gd ak W12:=fk aas (fk aar Rm)
noncomputable abbrev UW:e9:=gG ak W12 H0 1000 40
noncomputable abbrev X12:CX ak:=CX.of mo po Rn H0 1000 40
end Go.Proofs.YtfihojpgobmmdaaGreatDoor
