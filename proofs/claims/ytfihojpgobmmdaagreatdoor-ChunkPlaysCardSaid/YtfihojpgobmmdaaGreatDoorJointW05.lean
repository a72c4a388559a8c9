/- The Chunk laws: the program; octet.Put and what it calls. No conditions. -/
import Derived.Test.YtfihojpgobmmdaaGreatDoorProg
import Derived.Test.YtfihojpgobmmdaaGreatDoorJointW04
import Derived.Test.YtfihojpgobmmdaaGreatDoorJointW03
import Derived.Shelf.Strings.Repeat
set_option linter.unusedVariables false
set_option linter.unusedSimpArgs false
set_option linter.unusedSectionVars false
set_option maxRecDepth 20000
namespace Go.Proofs.YtfihojpgobmmdaaGreatDoor
open Go Go.Eng
noncomputable abbrev ak:=Tryz.prog
theorem po:lj ak=true:=by kernel_rfl
theorem mo:Tryz.prog.follows .mixedOrders=true:=by kernel_rfl
noncomputable def dU(f:Func):Code:=match f.body with|some c=>c|none=>.skip
abbrev H0:FuncId->List (Nat×oT):=fun _=>[]
noncomputable abbrev YR:eX:=gC ak noW H0 1000 40
noncomputable abbrev X0:CX ak:=CX.of mo po (PY _) H0 1000 40
section
variable{n0 N:Nat}{c:Code}{s:St}{Q:Exit->St->Prop}{H:List (Nat×oT)}{fn:Func}{live:List Nat}{G:List (List (Bool×Bool)×ah×oV)}
abbrev c5(cs:eX)(H:List (Nat×oT))(n0:Nat)(fn:Func)(live:List Nat)(c:Code)(s:St)(G:List (List (Bool×Bool)×ah×oV)):Prop:=∃L,cP ak cs H 1000 n0 fn live c s L G
theorem fV(X:CX ak)(hr:c5 X.cs H n0 fn live c s G)(h:∀g∈G,(∀b∈g.1,b.1=b.2)->(∀a∈g.2.1,a)/\g.2.2.post ak n0 fn live nZ Q)(hc:eS N c=true:=by kernel_rfl):TG ak n0 N c s Q:=
 hr.elim fun _ hr=>gT X mo nZ hc hr h
theorem iJ(k:Nat)(X:CX ak){A:ah}{s1:St}(hr:c5 X.cs H n0 fn live (eR k c) s [([],A,.to .normal s1)])(hA:∀a∈A,a)(h:TG ak n0 N (dh k c) s1 Q)(hc:eS N c=true:=by kernel_rfl):TG ak n0 N c s Q:=
 hr.elim fun _ hr=>nh k X mo hc hr hA h
theorem fu{R:V->Tr O->Nat->Prop}(X:CX ak)(hr:c5 X.cs H n0 fn live c s G)(h:∀g∈G,(∀b∈g.1,b.1=b.2)->(∀a∈g.2.1,a)/\∃v h n,g.2.2= .ret v h n/\R v h n)(hc:eS N c=true:=by kernel_rfl):TG ak n0 N c s (fB ak n0 fn R):=
 hr.elim fun _ hr=>ia X mo R hc hr h
end
abbrev w32(x:Int):Int:=IntKind.u32.wrap x
def Jr(a b:Int):Int:=w32 ↑(BitVec.ofInt 32 a|||BitVec.ofInt 32 b).toNat
def nj(a b:Int):Int:=w32 ↑(BitVec.ofInt 32 a^^^BitVec.ofInt 32 b).toNat
def CL(m d x:Int):Int:=Jr (w32 (x*m)) (x.fdiv d)
section
variable(ws:List Int)(x:Int)(b:aa)(i:Nat)
abbrev gW:Int:=ws.getD (0+i*1) 0
def sg0:Int:=nj (nj (CL 33554432 128 x) (CL 16384 262144 x)) (x.fdiv 8)
def sg1:Int:=nj (nj (CL 32768 131072 x) (CL 8192 524288 x)) (x.fdiv 1024)
def Il:Int:=w32 (w32 (w32 (gW ws (i-16)+sg0 (gW ws (i-15)))+gW ws (i-7))+sg1 (gW ws (i-2)))
abbrev T1:Int:=w32 ↑(b.getD i 0).toNat
def Im:Int:=Jr (Jr (Jr (w32 (T1 b (i*4)*16777216)) (w32 (T1 b (i*4+1)*65536))) (w32 (T1 b (i*4+2)*256))) (T1 b (i*4+3))
end
noncomputable abbrev YS:Code:=dU Tryz.f97
noncomputable abbrev YT:Code:=dh 1 YS
noncomputable abbrev adb:Code:=dO YT
noncomputable abbrev ade:Code:=dr (dY adb)
noncomputable abbrev YU:Code:=dY YT
noncomputable abbrev adf:Code:=dO YU
noncomputable abbrev aiY:Code:=dr (dY adf)
noncomputable abbrev aiZ:Code:=dY YU
section
variable(b:aa)(ws:List Int)(i:Nat)
def zW:O:=.cells (List.replicate 64 (.int .u32 0))
def sS0(o:O):St:=eG [(0,.str b),(2,.ptr (some (3,0)))] (hL [(3,o)]) 4
def YV:St:=eG [(0,.str b),(2,.ptr (some (3,0))),(9,.int .i64 (Int.ofNat i))] (hL [(3,.own .u32 ws)]) 4
def YW:St:=eG [(2,.ptr (some (3,0))),(4,.int .i64 (Int.ofNat i))] (hL [(3,.own .u32 ws)]) 4
theorem ai0:cP ak YR [] 1000 3 Tryz.f97 [0,2] (eR 1 YS) (cR [.str b] .nil 3) [] [([],[],.to .normal (sS0 b zW))]:=by
 unfold cP;kernel_rfl
theorem YX:Kc [(3,.u32)] (sS0 b zW)=some (sS0 b (.own .u32 (List.replicate 64 0))):=by kernel_rfl
theorem ai1:cP ak YR [] 1000 3 Tryz.f97 [0,2,9] (dO adb) (sS0 b (.own .u32 ws)) [] [([],[],.to .normal (YV b ws 0))]:=by
 unfold cP;kernel_rfl
abbrev kM(x:Int)(n:Nat):Prop:=V.int .i64 (IntKind.i64.wrap x)=V.int .i64 (Int.ofNat n)
abbrev ibd(n l:Nat):Prop:=0<=Int.ofNat n/\n<l
abbrev iN(n:Nat):Prop:=0<=Int.ofNat n/\Int.ofNat n<64
def scA:ah:=[kM (Int.ofNat i*4) (i*4),ibd (i*4) b.length,kM (Int.ofNat i*4) (i*4),kM (Int.ofNat (i*4)+1) (i*4+1),ibd (i*4+1) b.length,kM (Int.ofNat i*4) (i*4),kM (Int.ofNat (i*4)+2) (i*4+2),ibd (i*4+2) b.length,kM (Int.ofNat i*4) (i*4),kM (Int.ofNat (i*4)+3) (i*4+3),ibd (i*4+3) b.length,
 iN i,0+i*1+1<=ws.length,kM (Int.ofNat i+1) (i+1)]
theorem ai2:cP ak YR [(10,.split),(15,.c9 (.int .i64 (Int.ofNat (i*4)))),(21,.c9 (.int .i64 (Int.ofNat (i*4)))),(22,.c9 (.int .i64 (Int.ofNat (i*4+1)))),(29,.c9 (.int .i64 (Int.ofNat (i*4)))),(30,.c9 (.int .i64 (Int.ofNat (i*4+2)))),(37,.c9 (.int .i64 (Int.ofNat (i*4)))),(38,.c9 (.int .i64 (Int.ofNat (i*4+3)))),(43,.c9 (.int .i64 (Int.ofNat (i+1))))] 1000 3 Tryz.f97 [0,2,9] (dr ade) (YV b ws i) []
  [([(decide (Int.ofNat i<16),true)],scA b ws i,.to .normal (YV b (fM ws (0+i*1) [Im b i]) (i+1))),([(decide (Int.ofNat i<16),false)],[],.to (.exit 0) (YV b ws i))]:=by
 unfold cP;kernel_rfl
theorem ai3:cP ak YR [(4,.c9 (.int .i64 (Int.ofNat 16)))] 1000 3 Tryz.f97 [2,4] (dO adf) (YV b ws i) [] [([],[V.int .i64 16=V.int .i64 16],.to .normal (YW ws 16))]:=by
 unfold cP;kernel_rfl
def scB:ah:=[kM (Int.ofNat i-15) (i-15),iN (i-15),0+(i-15)*1<ws.length,kM (Int.ofNat i-2) (i-2),iN (i-2),0+(i-2)*1<ws.length,kM (Int.ofNat i-16) (i-16),iN (i-16),0+(i-16)*1<ws.length,kM (Int.ofNat i-7) (i-7),iN (i-7),0+(i-7)*1<ws.length,
 iN i,0+i*1+1<=ws.length,kM (Int.ofNat i+1) (i+1)]
theorem ai4:cP ak YR [(45,.split),(49,.c9 (.int .i64 (Int.ofNat (i-15)))),(53,.c9 (.int .i64 (Int.ofNat (i-2)))),(74,.c9 (.int .i64 (Int.ofNat (i-16)))),(80,.c9 (.int .i64 (Int.ofNat (i-7)))),(47,.c9 (.int .i64 (Int.ofNat (i+1))))] 1000 3 Tryz.f97 [2,4] (dr aiY) (YW ws i) []
  [([(decide (Int.ofNat i<64),true)],scB ws i,.to .normal (YW (fM ws (0+i*1) [Il ws i]) (i+1))),([(decide (Int.ofNat i<64),false)],[],.to (.exit 2) (YW ws i))]:=by
 unfold cP;kernel_rfl
def YY:V:=.agg ((List.range 64).map fun j=>.int .u32 (ws.getD j 0))
theorem ai5:cP ak YR [] 1000 3 Tryz.f97 [] aiZ (YW ws i) [] [([],[64<=ws.length,64<=ws.length],.ret (YY ws) (hL []) 3)]:=by
 unfold cP;kernel_rfl
end
theorem dV{i:Nat}{Q:Exit->St->Prop}{s:St}:mK i Q (.exit i) s=Q .normal s:=by simp[mK]
theorem CM{px:List Int}{o:Nat}{l:List Int}(h:o+l.length<=px.length):(fM px o l).length=px.length:=by
 unfold fM;simp only[ax,bg,bX];omega
theorem fC{x:Int}(h1:-9000000000000000000<=x)(h2:x<=9000000000000000000):IntKind.i64.wrap x=x:=by
 unfold IntKind.wrap;have e1:(2^IntKind.i64.bits:Int)=18446744073709551616:=by decide
 have e2:(2^(IntKind.i64.bits-1):Int)=9223372036854775808:=by decide
 have e3:IntKind.i64.signed=true:=rfl;simp only[e1,e2,e3,Bool.true_and,bB];split<;>omega
theorem fA{x:Int}{n:Nat}(h:x=(n:Int))(hb:n<1000000000000):kM x n:=by
 unfold kM;rw[fC be be,h];rfl
def Xa(b:aa):Nat->List Int
 |0=>List.replicate 64 0
 |i+1=>fM (Xa b i) (0+i*1) [Im b i]
theorem Bu(b:aa):∀i,i<=16->(Xa b i).length=64
 |0,_=>bJ ..
 |i+1,h=>by
  have ih:=Bu b i be;show(fM (Xa b i) (0+i*1) [Im b i]).length=64;rw[CM (by simp only[aS,bO];omega),ih]
def D1(b:aa):Nat->List Int
 |0=>Xa b 16
 |j+1=>fM (D1 b j) (0+(16+j)*1) [Il (D1 b j) (16+j)]
theorem yT(b:aa):∀j,j<=48->(D1 b j).length=64
 |0,_=>Bu b 16 (aA _)
 |j+1,h=>by
  have ih:=yT b j be;show(fM (D1 b j) (0+(16+j)*1) [Il (D1 b j) (16+j)]).length=64;rw[CM (by simp only[aS,bO];omega),ih]
theorem ai6(b:aa)(hb:64<=b.length):TG ak 3 Tryz.f97.ntmps YS (cR [.str b] .nil 3) (fB ak 3 Tryz.f97 fun u _ _=>u=YY (D1 b 48)):=by
 have hO:∀n:Nat,Int.ofNat n=(n:Int):=fun _=>rfl;refine nh 1 X0 mo U (ai0 b) (by simp) ?_;refine tw _ (YX b) ?_;show TG ak 3 Tryz.f97.ntmps YT _ _;refine cV U ?_;refine yQ X0 mo nZ U U (ai1 b _) (dI ?_);refine⟨by simp,fun s' dX=>?_⟩;refine fh (i:=0) U (fb (Q1:=fun z s'=>z= .exit 0/\∃L,eU 3 L s'=some (YV b (Xa b 16) 16)) (gh (fun k' s=>∃i,k'=16-i/\i<=16/\∃L,eU 3 L s=some (YV b (Xa b i) i)) U ?_ 16 ⟨0,rfl,aW _,_,dX⟩) ?_)
 . rintro k' s ⟨i,hk,hi,L,hs⟩;refine c6 hs ?_;refine gT X0 mo nZ U (ai2 b (Xa b i) i) fun g hg hc=>?_;simp only[aE,aL,bt]at hg;rcases hg with rfl|rfl
   . have fE:i<16:=by
      have:=aH (hc _ (aq.2 rfl));rw[hO]at this;omega
     refine⟨fun p hp=>?_,fun s' dX=>⟨16-(i+1),be,i+1,rfl,be,[0,2,9],dX⟩⟩;have hl:=Bu b i be;simp only[scA,aE,aL,bt]at hp;rcases hp with rfl|rfl|rfl|rfl|rfl|rfl|rfl|rfl|rfl|rfl|rfl|rfl|rfl|rfl
     . exact fA de be
     . exact⟨az _,be⟩
     . exact fA de be
     . exact fA de be
     . exact⟨az _,be⟩
     . exact fA de be
     . exact fA de be
     . exact⟨az _,be⟩
     . exact fA de be
     . exact fA de be
     . exact⟨az _,be⟩
     . exact⟨az _,de⟩
     . omega
     . exact fA de be
   . have zO:¬i<16:=by
      have:=aK (hc _ (aq.2 rfl));rw[hO]at this;omega
     obtain rfl:i=16:=by omega
     exact⟨by simp,fun s' dX=>⟨rfl,_,dX⟩⟩
 rintro y s2 ⟨rfl,L,jd⟩;rw[dV];simp only[andThen];refine c6 jd ?_;show TG ak 3 Tryz.f97.ntmps YU _ _;refine cV U ?_;refine yQ X0 mo nZ U U (ai3 b _ 16) (dI ?_);refine⟨fun p hp=>by rw[aq]at hp;subst hp;rfl,fun s' dX=>?_⟩;refine fh (i:=2) U (fb (Q1:=fun z s'=>z= .exit 2/\∃L,eU 3 L s'=some (YW (D1 b 48) 64)) (gh (fun k' s=>∃j,k'=48-j/\j<=48/\∃L,eU 3 L s=some (YW (D1 b j) (16+j))) U ?_ 48 ⟨0,rfl,aW _,_,dX⟩) ?_)
 . rintro k' s ⟨j,hk,hj,L,hs⟩;refine c6 hs ?_;refine gT X0 mo nZ U (ai4 (D1 b j) (16+j)) fun g hg hc=>?_;simp only[aE,aL,bt]at hg;rcases hg with rfl|rfl
   . have fE:j<48:=by
      have:=aH (hc _ (aq.2 rfl));rw[hO]at this;omega
     refine⟨fun p hp=>?_,fun s' dX=>⟨48-(j+1),be,j+1,rfl,be,[2,4],dX⟩⟩;have hl:=yT b j be;simp only[scB,aE,aL,bt]at hp;rcases hp with rfl|rfl|rfl|rfl|rfl|rfl|rfl|rfl|rfl|rfl|rfl|rfl|rfl|rfl|rfl
     . exact fA de be
     . exact⟨az _,de⟩
     . omega
     . exact fA de be
     . exact⟨az _,de⟩
     . omega
     . exact fA de be
     . exact⟨az _,de⟩
     . omega
     . exact fA de be
     . exact⟨az _,de⟩
     . omega
     . exact⟨az _,de⟩
     . omega
     . exact fA de be
   . have zO:¬j<48:=by
      have:=aK (hc _ (aq.2 rfl));rw[hO]at this;omega
     obtain rfl:j=48:=by omega
     exact⟨by simp,fun s' dX=>⟨rfl,_,dX⟩⟩
 . rintro y s2 ⟨rfl,L,jd⟩;rw[dV];simp only[andThen];refine c6 jd ?_;refine ia X0 mo _ U (ai5 (D1 b 48) 64) (dI ?_);have hl:=yT b 48 (aA _);refine⟨fun p hp=>?_,_,_,_,rfl,rfl⟩;simp only[aE,aL,bt]at hp;rcases hp with rfl|rfl<;>omega
def Ki:ag->Option (ah×V)
 | [.str b]=>some ([64<=b.length],YY (D1 b 48))
 |_=>none
theorem YZ:jC ak 97 (jG Ki):=by
 refine jV (au U) fun args A v e=>?_;unfold Ki at e;split at e
 . obtain⟨rfl,rfl⟩:=eY e;exact⟨rfl,U,fun hA=>gM mo po Tryz.func97 U U rfl (ai6 _ (hA _ (by simp)))⟩
 . cases e
noncomputable abbrev W1:jJ:=kj 97 (jG Ki) noW
theorem Xb:fU ak W1:=fe YZ (PY _)
noncomputable abbrev cs1:eX:=gC ak W1 H0 1000 40
noncomputable abbrev X1:CX ak:=CX.of mo po Xb H0 1000 40
def Ad(a b:Int):Int:=w32 ↑(BitVec.ofInt 32 a&&&BitVec.ofInt 32 b).toNat
abbrev E8:=Int×Int×Int×Int×Int×Int×Int×Int
def bS1(e:Int):Int:=nj (nj (CL 67108864 64 e) (CL 2097152 2048 e)) (CL 128 33554432 e)
def bS0(a:Int):Int:=nj (nj (CL 1073741824 4 a) (CL 524288 8192 a)) (CL 1024 4194304 a)
def chI(e f g:Int):Int:=nj (Ad e f) (Ad (nj 4294967295 e) g)
def maI(a b c:Int):Int:=nj (nj (Ad a b) (Ad a c)) (Ad b c)
section
variable(rd ws:List Int)(i:Nat)
def rdX:E8->Int
 |(_,_,_,_,e,f,g,h)=>w32 (w32 (w32 (w32 (h+bS1 e)+chI e f g)+gW rd i)+gW ws i)
def Bg:E8->E8
 |(a,b,c,d,e,f,g,h)=>(w32 (rdX rd ws i (a,b,c,d,e,f,g,h)+w32 (bS0 a+maI a b c)),a,b,c,w32 (d+rdX rd ws i (a,b,c,d,e,f,g,h)),e,f,g)
def c8(q:E8):ag:=[.int .u32 q.1,.int .u32 q.2.1,.int .u32 q.2.2.1,.int .u32 q.2.2.2.1,.int .u32 q.2.2.2.2.1,.int .u32 q.2.2.2.2.2.1,.int .u32 q.2.2.2.2.2.2.1,.int .u32 q.2.2.2.2.2.2.2]
def Y0:E8->E8->E8
 |(a,b,c,d,e,f,g,h),(a',b',c',d',e',f',g',h')=>(w32 (a+a'),w32 (b+b'),w32 (c+c'),w32 (d+d'),w32 (e+e'),w32 (f+f'),w32 (g+g'),w32 (h+h'))
noncomputable abbrev T2:Code:=dU Tryz.f72
noncomputable abbrev Y1:Code:=dh 3 T2
noncomputable abbrev adh:Code:=dO Y1
noncomputable abbrev ajb:Code:=dr (dY adh)
noncomputable abbrev ajc:Code:=dY Y1
def CN:List Int:=(List.range 64).map fun j=>ws.getD j 0
end
section
variable(rd ws:List Int)(a b c d e f g h a' b' c' d' e' f' g' h':Int)(i:Nat)
def adi:List (Nat×V):=[(2,.ptr (some (3,0))),(4,.ptr (some (4,0))),(5,.ptr (some (5,0))),(6,.ptr (some (6,0)))]
def sC0(o:O):St:=eG adi (hL [(1,.ints .u32 rd),(3,.cells (c8 (a,b,c,d,e,f,g,h))),(4,.cells (c8 (0,0,0,0,0,0,0,0))),(5,o),(6,.cells (c8 (a',b',c',d',e',f',g',h')))]) 7
def sCi:St:=eG (adi++[(18,.int .i64 (Int.ofNat i))]) (hL [(1,.ints .u32 rd),(3,.cells (c8 (a,b,c,d,e,f,g,h))),(4,.cells (c8 (0,0,0,0,0,0,0,0))),(5,.own .u32 ws),(6,.cells (c8 (a',b',c',d',e',f',g',h')))]) 7
theorem ajd(s:aa):cP ak cs1 [] 1000 3 Tryz.f72 [2,4,5,6] (eR 3 T2) (cR [.agg (c8 (a,b,c,d,e,f,g,h)),.str s] (hL [(1,.ints .u32 rd)]) 3) []
  [([],[64<=s.length],.to .normal (sC0 rd a b c d e f g h a b c d e f g h (.cells ((List.range 64).map fun j=>.int .u32 ((D1 s 48).getD j 0)))))]:=by
 unfold cP;kernel_rfl
theorem Y2:Kc [(5,.u32)] (sC0 rd a b c d e f g h a' b' c' d' e' f' g' h' (.cells ((List.range 64).map fun j=>.int .u32 (ws.getD j 0))))=some (sC0 rd a b c d e f g h a' b' c' d' e' f' g' h' (.own .u32 (CN ws))):=by
 kernel_rfl
theorem aje:cP ak cs1 [(18,.c9 (.int .i64 (Int.ofNat 0)))] 1000 3 Tryz.f72 [2,4,5,6,18] (dO adh) (sC0 rd a b c d e f g h a' b' c' d' e' f' g' h' (.own .u32 ws)) [] [([],[V.int .i64 0=V.int .i64 0],.to .normal (sCi rd ws a b c d e f g h a' b' c' d' e' f' g' h' 0))]:=by
 unfold cP;kernel_rfl
theorem ajf:c5 cs1 [(19,.split),(101,.c9 (.int .i64 (Int.ofNat (i+1))))] 3 Tryz.f72 [2,4,5,6,18] (dr ajb) (sCi rd ws a b c d e f g h a' b' c' d' e' f' g' h' i) [([(decide (Int.ofNat i<64),true)],[iN i,0+i*1<rd.length,iN i,0+i*1<ws.length,kM (Int.ofNat i+1) (i+1)],
   .to .normal (sCi rd ws a b c d e f g h (Bg rd ws i (a',b',c',d',e',f',g',h')).1 (Bg rd ws i (a',b',c',d',e',f',g',h')).2.1 (Bg rd ws i (a',b',c',d',e',f',g',h')).2.2.1 (Bg rd ws i (a',b',c',d',e',f',g',h')).2.2.2.1 (Bg rd ws i (a',b',c',d',e',f',g',h')).2.2.2.2.1 (Bg rd ws i (a',b',c',d',e',f',g',h')).2.2.2.2.2.1 (Bg rd ws i (a',b',c',d',e',f',g',h')).2.2.2.2.2.2.1 (Bg rd ws i (a',b',c',d',e',f',g',h')).2.2.2.2.2.2.2 (i+1))),
   ([(decide (Int.ofNat i<64),false)],[],.to (.exit 0) (sCi rd ws a b c d e f g h a' b' c' d' e' f' g' h' i))]:=
 cP.of U U U
abbrev Xc(k:Int):ah:=[0<=k/\k<8,0<=k/\k<8,0<=k/\k<8]
theorem ajg:cP ak cs1 [] 1000 3 Tryz.f72 [] ajc (sCi rd ws a b c d e f g h a' b' c' d' e' f' g' h' i) []
  [([],Xc 0++(Xc 1++(Xc 2++(Xc 3++(Xc 4++(Xc 5++(Xc 6++Xc 7)))))),.ret (.agg (c8 (Y0 (a',b',c',d',e',f',g',h') (a,b,c,d,e,f,g,h)))) (hL [(1,.ints .u32 rd)]) 3)]:=by
 unfold cP;kernel_rfl
end
def vf(rd ws:List Int)(q:E8):Nat->E8
 |0=>q
 |i+1=>Bg rd ws i (vf rd ws q i)
abbrev sCq(rd ws:List Int)(q q':E8)(i:Nat):St:=sCi rd ws q.1 q.2.1 q.2.2.1 q.2.2.2.1 q.2.2.2.2.1 q.2.2.2.2.2.1 q.2.2.2.2.2.2.1 q.2.2.2.2.2.2.2 q'.1 q'.2.1 q'.2.2.1 q'.2.2.2.1 q'.2.2.2.2.1 q'.2.2.2.2.2.1 q'.2.2.2.2.2.2.1 q'.2.2.2.2.2.2.2 i
def yU(rd:List Int)(s:aa)(q:E8):E8:=Y0 (vf rd (CN (D1 s 48)) q 64) q
theorem ajh(rd:List Int)(Ys:64<=rd.length)(s:aa)(aji:64<=s.length)(q:E8):TG ak 3 Tryz.f72.ntmps T2 (cR [.agg (c8 q),.str s] (hL [(1,.ints .u32 rd)]) 3)
  (fB ak 3 Tryz.f72 fun u _ _=>u= .agg (c8 (yU rd s q))):=by
 have hO:∀n:Nat,Int.ofNat n=(n:Int):=fun _=>rfl;obtain⟨a,b,c,d,e,f,g,h⟩:=q;refine nh 3 X1 mo U (ajd rd a b c d e f g h s) (fun p hp=>by rw[aq]at hp;subst hp;exact aji) ?_;refine tw _ (Y2 rd (D1 s 48) a b c d e f g h a b c d e f g h) ?_;show TG ak 3 Tryz.f72.ntmps Y1 _ _;have tT:(CN (D1 s 48)).length=64:=by unfold CN;rw[aY,List.length_range]
 generalize hW:CN (D1 s 48)=ws at tT ⊢;refine cV U ?_;refine yQ X1 mo nZ U U (aje rd ws a b c d e f g h a b c d e f g h) fun g' hg _=>?_;rw[aq]at hg;subst hg;refine⟨fun p hp=>by rw[aq]at hp;subst hp;rfl,fun s' dX=>?_⟩;refine fh (i:=0) U (fb (Q1:=fun z s'=>z= .exit 0/\∃L,eU 3 L s'=some (sCq rd ws (a,b,c,d,e,f,g,h) (vf rd ws (a,b,c,d,e,f,g,h) 64) 64)) (gh (fun k' s=>∃i,k'=64-i/\i<=64/\∃L,eU 3 L s=some (sCq rd ws (a,b,c,d,e,f,g,h) (vf rd ws (a,b,c,d,e,f,g,h) i) i)) U ?_ 64 ⟨0,rfl,aW _,_,dX⟩) ?_)
 . rintro k' s0 ⟨i,hk,hi,L,hs⟩;refine c6 hs ?_;obtain⟨L',hr⟩:=ajf rd ws a b c d e f g h (vf rd ws (a,b,c,d,e,f,g,h) i).1 (vf rd ws (a,b,c,d,e,f,g,h) i).2.1 (vf rd ws (a,b,c,d,e,f,g,h) i).2.2.1 (vf rd ws (a,b,c,d,e,f,g,h) i).2.2.2.1 (vf rd ws (a,b,c,d,e,f,g,h) i).2.2.2.2.1 (vf rd ws (a,b,c,d,e,f,g,h) i).2.2.2.2.2.1 (vf rd ws (a,b,c,d,e,f,g,h) i).2.2.2.2.2.2.1 (vf rd ws (a,b,c,d,e,f,g,h) i).2.2.2.2.2.2.2 i;refine gT X1 mo nZ U hr fun g' hg hc=>?_;simp only[aE,aL,bt]at hg;rcases hg with rfl|rfl
   . have fE:i<64:=by
      have:=aH (hc _ (aq.2 rfl));rw[hO]at this;omega
     refine⟨fun p hp=>?_,fun s' dX=>⟨64-(i+1),be,i+1,rfl,be,[2,4,5,6,18],dX⟩⟩;simp only[aE,aL,bt]at hp;rcases hp with rfl|rfl|rfl|rfl|rfl
     . exact⟨az _,de⟩
     . omega
     . exact⟨az _,de⟩
     . omega
     . exact fA de be
   . have zO:¬i<64:=by
      have:=aK (hc _ (aq.2 rfl));rw[hO]at this;omega
     obtain rfl:i=64:=by omega
     exact⟨by simp,fun s' dX=>⟨rfl,[2,4,5,6,18],dX⟩⟩
 . rintro y s2 ⟨rfl,L,jd⟩;rw[dV];simp only[andThen];refine c6 jd ?_;refine ia X1 mo _ U (ajg rd ws a b c d e f g h _ _ _ _ _ _ _ _ 64) fun g' hg _=>?_;rw[aq]at hg;subst hg;refine⟨fun p hp=>?_,_,_,_,rfl,?_⟩
   . simp only[aU,aE,aL,bt,or_self]at hp;rcases hp with rfl|rfl|rfl|rfl|rfl|rfl|rfl|rfl<;>decide
   . unfold yU;rw[hW]
def Ta:List (Option (Nat×Nat)):=[some (0,0),some (1,0),some (2,0)]
theorem Qm:∀p∈jL,Ta[p.2]? =some (some (p.2,0)):=by
 intro p hp;simp only[jL,aE,aL,bt]at hp;rcases hp with rfl|rfl|rfl<;>rfl
def Kj:ag->Tr O->Option (ah×V)
 | [.agg [.int .u32 a,.int .u32 b,.int .u32 c,.int .u32 d,.int .u32 e,.int .u32 f,.int .u32 g,.int .u32 x],.str s],h=>match h.get 1 with
   |some (.ints .u32 rd)=>some ([64<=rd.length,64<=s.length],.agg (c8 (yU rd s (a,b,c,d,e,f,g,x))))
   |_=>none
 |_,_=>none
theorem Y3:PV ak 72 Kj:=by
 refine⟨au U,fun args h A u e=>?_⟩;unfold Kj at e;split at e
 case h_2=>cases e
 rename_i a b c d e1 f g x s;split at e
 case h_2=>cases e
 rename_i rd hm;obtain⟨rfl,rfl⟩:=eY e;refine⟨rfl,fun hA E n' w' c7 ra g0 hd hc=>?_⟩;obtain⟨g2,d2,n2⟩:=LR g0 Ta [none,some (.u32,rd),none] (au rfl) Qm (by
  intro j k' Wy hj
  match j,hj with
  |0,hj=>cases hj
  |1,hj=>cases hj;exact⟨1,0,rd,rfl,hm,rfl⟩
  |2,hj=>cases hj
  |j+3,hj=>simp at hj)
 exact CE mo po Tryz.func72 (code:=T2) U U (ajh rd (hA _ (by simp)) s (hA (64<=s.length) (by simp)) (a,b,c,d,e1,f,g,x)) (E:=E.rows Ta) g2 d2 n2 (mJ _ _ rfl ra)
noncomputable abbrev W2:jJ:=kj 72 (LQ Kj) W1
theorem Xd:fU ak W2:=fe (If Y3) Xb
noncomputable abbrev uW:eX:=gC ak W2 H0 1000 40
noncomputable abbrev X2:CX ak:=CX.of mo po Xd H0 1000 40
section
variable(x:Int)
def pB(d:Int):UInt8:=UInt8.ofNat (IntKind.u8.wrap ((IntKind.u64.wrap x).fdiv d)).toNat
def l7:aa:=[pB x 72057594037927936,pB x 281474976710656,pB x 1099511627776,pB x 4294967296,pB x 16777216,pB x 65536,pB x 256,pB x 1]
def dK:aa:=[pB x 16777216,pB x 65536,pB x 256,pB x 1]
def oZ:aa:=[pB x 1]
abbrev b8:ah:=[(0:Int)<=0/\(0:Int)<8,(0:Int)<=1/\(1:Int)<8,(0:Int)<=2/\(2:Int)<8,(0:Int)<=3/\(3:Int)<8,(0:Int)<=4/\(4:Int)<8,(0:Int)<=5/\(5:Int)<8,(0:Int)<=6/\(6:Int)<8,(0:Int)<=7/\(7:Int)<8]
theorem Qn:∀p∈b8,p:=by
 intro p hp;simp only[aE,aL,bt]at hp;rcases hp with rfl|rfl|rfl|rfl|rfl|rfl|rfl|rfl<;>decide
noncomputable abbrev Y4:Code:=dU Tryz.f59
theorem ajj:cP ak uW [] 1000 3 Tryz.f59 [] Y4 (cR [.int .i64 x,.int .i64 8] .nil 3) [] [([],b8,.ret (.str (l7 x)) (hL []) 3)]:=by
 unfold cP;kernel_rfl
theorem ajk:cP ak uW [] 1000 3 Tryz.f59 [] Y4 (cR [.int .i64 x,.int .i64 4] .nil 3) [] [([],b8,.ret (.str (dK x)) (hL []) 3)]:=by
 unfold cP;kernel_rfl
theorem ajl:cP ak uW [] 1000 3 Tryz.f59 [] Y4 (cR [.int .i64 x,.int .i64 1] .nil 3) [] [([],b8,.ret (.str (oZ x)) (hL []) 3)]:=by
 unfold cP;kernel_rfl
end
def Kk:ag->Option (ah×V)
 | [.int .i64 x,.int .i64 k]=>match k with
   | .ofNat 8=>some ([],.str (l7 x))
   | .ofNat 4=>some ([],.str (dK x))
   | .ofNat 1=>some ([],.str (oZ x))
   |_=>none
 |_=>none
theorem Gk{P:Program}{n0:Nat}{fn:Func}{c:Code}{s:St}(X':CX P)(hm:P.follows .mixedOrders=true){H:List (Nat×oT)}{F:Nat}{live:List Nat}{A:ah}{v:V}{h:Tr O}{n:Nat}(hc:eS fn.ntmps c=true)
  (hr:cP P X'.cs H F n0 fn live c s [] [([],A,.ret v h n)]) (hA:∀a∈A,a):TG P n0 fn.ntmps c s (fB P n0 fn fun u _ _=>u=v):=by
 refine ia X' hm _ hc hr (dI ?_);exact⟨hA,_,_,_,rfl,rfl⟩
theorem Y5:jC ak 59 (jG Kk):=by
 refine jV (au U) fun args A v e=>?_;unfold Kk at e;split at e
 . split at e
   . obtain⟨rfl,rfl⟩:=eY e;exact⟨rfl,U,fun _=>gM mo po Tryz.func59 U U rfl (Gk X2 mo U (ajj _) Qn)⟩
   . obtain⟨rfl,rfl⟩:=eY e;exact⟨rfl,U,fun _=>gM mo po Tryz.func59 U U rfl (Gk X2 mo U (ajk _) Qn)⟩
   . obtain⟨rfl,rfl⟩:=eY e;exact⟨rfl,U,fun _=>gM mo po Tryz.func59 U U rfl (Gk X2 mo U (ajl _) Qn)⟩
   . cases e
 . cases e
open Go.Shelf Go.RowKit
def Qo:Go.Shelf.Ren:=⟨fun|105=>71|212=>93|99=>94|165=>95|166=>58|170=>96|169=>60|263=>118|264=>119|206=>120|240=>84|241=>121|276=>112|277=>146|n=>n,fun|9=>9|3=>3|4=>4|20=>20|0=>0|46=>144|109=>145|5=>5|72=>102|76=>105|51=>120|146=>164|53=>135|148=>166|70=>100|37=>30|75=>104|127=>137|164=>158|80=>108|n=>n,fun n=>n⟩
theorem tC:Lays.n105 ak Qo:={
 mixed:=mo
 f99:=Tryz.func94.trans (aN some U)
 f105:=Tryz.func71.trans (aN some U)
 f165:=Tryz.func95.trans (aN some U)
 f166:=Tryz.func58.trans (aN some U)
 f169:=Tryz.func60.trans (aN some U)
 f170:=Tryz.func96.trans (aN some U)
 f206:=Tryz.func120.trans (aN some U)
 f212:=Tryz.func93.trans (aN some U)
 f240:=Tryz.func84.trans (aN some U)
 f241:=Tryz.func121.trans (aN some U)
 f263:=Tryz.func118.trans (aN some U)
 f264:=Tryz.func119.trans (aN some U)
 f276:=Tryz.func112.trans (aN some U)
 f277:=Tryz.func146.trans (aN some U)
 t0:=Tryz.underlying0
 a0:=Tryz.isAgg0
 z0:=Tryz.sizeOf0
 v0:=Tryz.zeroValue0
 t3:=Tryz.underlying3
 a3:=Tryz.isAgg3
 z3:=Tryz.sizeOf3
 v3:=Tryz.zeroValue3
 t4:=Tryz.underlying4
 a4:=Tryz.isAgg4
 z4:=Tryz.sizeOf4
 v4:=Tryz.zeroValue4
 t5:=Tryz.underlying5
 a5:=Tryz.isAgg5
 z5:=Tryz.sizeOf5
 v5:=Tryz.zeroValue5
 t9:=Tryz.underlying9
 a9:=Tryz.isAgg9
 z9:=Tryz.sizeOf9
 v9:=Tryz.zeroValue9
 t20:=Tryz.underlying20
 a20:=Tryz.isAgg20
 z20:=Tryz.sizeOf20
 v20:=Tryz.zeroValue20
 t37:=Tryz.underlying30
 a37:=Tryz.isAgg30
 z37:=Tryz.sizeOf30
 v37:=Tryz.zeroValue30
 t46:=Tryz.underlying144
 a46:=Tryz.isAgg144
 z46:=Tryz.sizeOf144
 v46:=Tryz.zeroValue144
 t51:=Tryz.underlying120
 a51:=Tryz.isAgg120
 z51:=Tryz.sizeOf120
 v51:=Tryz.zeroValue120
 t53:=Tryz.underlying135
 a53:=Tryz.isAgg135
 z53:=Tryz.sizeOf135
 v53:=Tryz.zeroValue135
 t70:=Tryz.underlying100
 a70:=Tryz.isAgg100
 z70:=Tryz.sizeOf100
 v70:=Tryz.zeroValue100
 t72:=Tryz.underlying102
 a72:=Tryz.isAgg102
 z72:=Tryz.sizeOf102
 v72:=Tryz.zeroValue102
 t75:=Tryz.underlying104
 a75:=Tryz.isAgg104
 z75:=Tryz.sizeOf104
 v75:=Tryz.zeroValue104
 t76:=Tryz.underlying105
 a76:=Tryz.isAgg105
 z76:=Tryz.sizeOf105
 v76:=Tryz.zeroValue105
 t109:=Tryz.underlying145
 a109:=Tryz.isAgg145
 z109:=Tryz.sizeOf145
 v109:=Tryz.zeroValue145
 t127:=Tryz.underlying137
 a127:=Tryz.isAgg137
 z127:=Tryz.sizeOf137
 v127:=Tryz.zeroValue137
 t146:=Tryz.underlying164
 a146:=Tryz.isAgg164
 z146:=Tryz.sizeOf164
 v146:=Tryz.zeroValue164
 t148:=Tryz.underlying166
 a148:=Tryz.isAgg166
 z148:=Tryz.sizeOf166
 v148:=Tryz.zeroValue166
 t164:=Tryz.underlying158
 a164:=Tryz.isAgg158
 z164:=Tryz.sizeOf158
 v164:=Tryz.zeroValue158
}
theorem Gl:Builder.Extra ak Qo where
 sizeBuilder:=by kernel_rfl
 liesBuilder:=by kernel_rfl
 t5:=tC.t5
 a5:=tC.a5
 z5:=tC.z5
 v5:=tC.v5
 infoByte:=by kernel_rfl
 cellsByte:=by kernel_rfl
 sizeByte:=by kernel_rfl
 neB5:=by decide
def Kl:ag->Option (ah×V)
 | [.str [0],.int .i64 x]=>some ([0<=x/\x<=1000],.str (List.replicate x.toNat 0))
 |_=>none
theorem Y6:jC ak 71 (jG Kl):=by
 refine jV (au U) fun args A v e=>?_;unfold Kl at e;split at e
 . rename_i x;obtain⟨rfl,rfl⟩:=eY e;refine⟨rfl,rfl,fun hA E w c7 _ ra=>?_⟩;have hx:=hA _ (aq.2 rfl);obtain⟨c,rfl⟩:∃c:Nat,x=(c:Int):=⟨x.toNat,be⟩;obtain⟨y,ys,r0,⟨z,zs,r1,rs,rfl⟩,rfl⟩:=ra;have rs:zs=[]:=rs;subst rs;have r1:z= .int .i64 (c:Int):=r1;subst r1;have r0:y= .string ⟨#[0]⟩:=r0;subst r0;have h:=Any.strings_Repeat tC Gl ⟨#[0]⟩ c w be (by show 1*c<=_;omega);refine h.mono fun en w' ⟨he,hw⟩=>⟨⟨E,?_⟩,hw⟩;rw[he];have e:Lib.repeatL (ByteArray.mk #[0]).data.toList c=List.replicate c 0:=by
    have:=Lib.repeatL_replicate 0 1 c;rw[bj]at this;exact this
   rw[e];exact rfl
 . cases e
noncomputable abbrev W3:jJ:=kj 71 (jG Kl) (kj 59 (jG Kk) W2)
theorem adj:fU ak W3:=fe Y6 (fe Y5 Xd)
def Km:ag->Tr O->Nat->Option (ah×V×Tr O×Nat)
 | [.ptr (some (m,0))],h,n=>match h.get m with
   |some (.A3 t _ x)=>match Nat.beq t 102&&Nat.blt m fI with
    |true=>some ([],.eo [],h.set m (some (.A3 t true x)),n)
    |false=>none
   |_=>none
 |_,_,_=>none
theorem Y7:jC ak 84 Km:=by
 refine⟨au U,fun args h n A v h' n' e hA E w c7 ra g hd hc=>?_⟩;unfold Km at e;split at e
 case h_2=>cases e
 rename_i m;split at e
 case h_2=>cases e
 rename_i t self x hm;split at e
 case h_2=>cases e
 rename_i hq;simp only[aC]at hq;obtain⟨ht,yG⟩:=hq;have ht:=aD ht;subst ht;have yG:m<fI:=au yG;simp only[an,aB]at e;obtain⟨rfl,rfl,rfl,rfl⟩:=e;obtain⟨y,ys,r0,rs,rfl⟩:=ra;have rs:ys=[]:=rs;subst rs;obtain⟨b,s,e1,rfl⟩:=r0;obtain⟨b',s',e2,hs,x',fz,k1,k2,k3,k4⟩:=g.rel m _ hm;rw[e1]at e2;simp only[an,aB]at e2;obtain⟨rfl,rfl⟩:=e2;subst hs;have hbb:b<w.heap.size:=g.mO m b 0 e1;have ik:ew h m:=⟨_,hm,rfl⟩;have l5:∀{self:Bool},w.heap[b]? =some (.cells #[.pointer (if self then some ⟨b,0,none⟩else none),x'] 102 fz)->w.cell? ⟨b,0,none⟩=some (.pointer (if self then some ⟨b,0,none⟩else none)):=by
  intro self k1;unfold World.cell?;rw[k1];rfl
 have Qp:∀w',w'.heap.size=w.heap.size->w'.tape=w.tape->w'.os=w.os->w'.output=w.output->(∀j,j≠b->w'.heap[j]? =w.heap[j]?)->w'.heap[b]? =some (.cells #[.pointer (some ⟨b,0,none⟩),x'] 102 fz)->
   jR E h n w (.ret (.eo [])) (h.set m (some (.A3 102 true x))) n (.returned (.tuple #[])) w':=by
  intro w' h1 h2 h3 h4 h5 h6;refine⟨E,ij.write g yG ik e1 h1 h2 h3 h4 h5 ⟨rfl,x',fz,h6,k2,k3,k4⟩,fun _ _=>rfl,hd,aA _,⟨[],rfl,rfl⟩⟩
 cases self with
 |true=>
  have h:=Any.Builder_copyCheck_used { tC with } { Gl with } b w (l5 k1);refine h.mono fun en w' ⟨he,hw⟩=>?_;subst he;subst hw;exact Qp w' rfl rfl rfl rfl (fun _ _=>rfl) k1
 |false=>
  have h:=Any.Builder_copyCheck_fresh { tC with } { Gl with } b w (l5 k1) (by unfold World.shape?;rw[k1];rfl) (by
   unfold World.frozen?;simp only[k1];have:=k3 0 be;obtain⟨lo,hi⟩:=fz;simp only at this ⊢;cases hq:(decide (lo<=0)&&decide (0<hi))with
   |false=>rfl
   |true=>simp only[aC,bB]at hq;exact absurd hq this)
  refine h.mono fun en w' ⟨he,hw⟩=>?_;subst he;subst hw;refine Qp _ (by simp[World.setCell]) rfl rfl rfl (fun j hj=>by simp[World.setCell,cm,Ne.symm hj]) ?_;simp[World.setCell,cm,k1]
noncomputable abbrev W4:jJ:=kj 84 Km W3
theorem Xe:fU ak W4:=fe Y7 adj
noncomputable abbrev cs4:eX:=gC ak W4 H0 1000 40
noncomputable abbrev X4:CX ak:=CX.of mo po Xe H0 1000 40
noncomputable abbrev T3:Code:=dU Tryz.f38
noncomputable abbrev Y8:Code:=dh 4 T3
noncomputable abbrev adl:Code:=dO Y8
noncomputable abbrev T4:Code:=dY Y8
noncomputable abbrev ajm:Code:=dO T4
noncomputable abbrev ajn:Code:=dY T4
section
variable(s:aa)(st:List Int)
def DK(rd:List Int):Tr O:=hL [(0,.ints .u32 st),(1,.ints .u32 rd)]
def gU:Nat:=(119-s.length%64)%64
def mL:aa:=((s.take s.length).drop (s.length/64*64)++[128]++List.replicate (gU s) 0)++l7 (Int.ofNat (s.length*8))
def Kn:E8:=(st.getD 0 0,st.getD 1 0,st.getD 2 0,st.getD 3 0,st.getD 4 0,st.getD 5 0,st.getD 6 0,st.getD 7 0)
def Bv(i:Nat):aa:=(s.take (i+64)).drop i
end
def jH(rd:List Int)(s:aa)(q:E8):Nat->E8
 |0=>q
 |j+1=>yU rd (Bv s (64*j)) (jH rd s q j)
def wB(x:Int):aa:=dK (IntKind.i64.wrap x)
section
variable(st rd:List Int)(q:E8)(s p:aa)
def Qq:aa:=wB q.1++eM (dP (wB q.2.1))++eM (dP (wB q.2.2.1))++eM (dP (wB q.2.2.2.1))++eM (dP (wB q.2.2.2.2.1))++eM (dP (wB q.2.2.2.2.2.1))++eM (dP (wB q.2.2.2.2.2.2.1))++eM (dP (wB q.2.2.2.2.2.2.2))
def Qr:aa:=Qq (jH rd (mL s) (jH rd s (Kn st) (s.length/64)) ((mL s).length/64))
def adm:St:=eG [(0,.str s),(3,.ptr (some (3,0))),(5,.str p)] (hL [(0,.ints .u32 st),(1,.ints .u32 rd),(3,.cells (c8 q))]) 4
def NL(i:Nat):St:=eG [(0,.str s),(3,.ptr (some (3,0))),(5,.str p),(6,.int .i64 (Int.ofNat i))] (hL [(0,.ints .u32 st),(1,.ints .u32 rd),(3,.cells (c8 q))]) 4
def Io:St:=eG [(3,.ptr (some (3,0))),(5,.str p)] (hL [(0,.ints .u32 st),(1,.ints .u32 rd),(3,.cells (c8 q))]) 4
theorem ajo:c5 cs4 [(13,.c9 (.int .i64 (Int.ofNat (s.length%64)))),(15,.c9 (.int .i64 (Int.ofNat (gU s)))),(20,.c9 (.int .i64 (Int.ofNat (s.length/64*64)))),(28,.c9 (.int .i64 (Int.ofNat (s.length*8))))] 3 Tryz.f38 [0,3,5] (eR 4 T3) (cR [.str s] (DK st rd) 3) [([],
   [(8<=st.length),(V.int aj (((Int.ofNat s.length)).tmod (64:Int))=V.int aj (Int.ofNat (s.length%64))),(V.int aj ((IntKind.i64.wrap ((119:Int)-Int.ofNat (s.length%64))).tmod (64:Int))=V.int aj (Int.ofNat (gU s))),((64:Int)≠(0:Int)),(V.int aj (IntKind.i64.wrap (IntKind.i64.wrap (((Int.ofNat s.length)).tdiv (64:Int))*(64:Int)))=V.int aj (Int.ofNat (s.length/64*64))),((0:Int)<=Int.ofNat (s.length/64*64)/\Int.ofNat (s.length/64*64)<=(Int.ofNat s.length)),((List.drop (Int.ofNat (s.length/64*64)).toNat (List.take s.length s)).length+1<=9223372036854775807),((0:Int)<=Int.ofNat (gU s)/\Int.ofNat (gU s)<=(1000:Int)),((0:Int)<=Int.ofNat (s.length/64*64)/\Int.ofNat (s.length/64*64)<=(Int.ofNat s.length)),((List.drop (Int.ofNat (s.length/64*64)).toNat (List.take s.length s)++([(128:UInt8)]:aa)).length+(List.replicate (Int.ofNat (gU s)).toNat (0:UInt8)).length<=9223372036854775807),(V.int aj (IntKind.i64.wrap ((Int.ofNat s.length)*(8:Int)))=V.int aj (Int.ofNat (s.length*8))),((0:Int)<=Int.ofNat (s.length/64*64)/\Int.ofNat (s.length/64*64)<=(Int.ofNat s.length)),((List.drop (Int.ofNat (s.length/64*64)).toNat (List.take s.length s)++([(128:UInt8)]:aa)++List.replicate (Int.ofNat (gU s)).toNat (0:UInt8)).length+(l7 (Int.ofNat (s.length*8))).length<=9223372036854775807)],
   .to .normal (eG [(0,.str (s)),(3,.ptr (some (3,0))),(5,.str (List.drop (Int.ofNat (s.length/64*64)).toNat (List.take s.length s)++([(128:UInt8)]:aa)++List.replicate (Int.ofNat (gU s)).toNat (0:UInt8)++l7 (Int.ofNat (s.length*8))))] (hL [(0,.ints .u32 (st)),(1,.ints .u32 (rd)),(3,.cells [.int .u32 (st.getD 0 (0:Int)),.int .u32 (st.getD 1 (0:Int)),.int .u32 (st.getD 2 (0:Int)),.int .u32 (st.getD 3 (0:Int)),.int .u32 (st.getD 4 (0:Int)),.int .u32 (st.getD 5 (0:Int)),.int .u32 (st.getD 6 (0:Int)),.int .u32 (st.getD 7 (0:Int))])]) 4))]
 :=cP.of U U U
theorem ajp:c5 cs4 [(6,.c9 (.int .i64 (Int.ofNat 0)))] 3 Tryz.f38 [0,3,5,6] (dO adl) (adm st rd q s p) [([],
   [(V.int aj (0:Int)=V.int aj (0:Int))],
   .to .normal (eG [(0,.str (s)),(3,.ptr (some (3,0))),(5,.str (p)),(6,.int .i64 0)] (hL [(0,.ints .u32 (st)),(1,.ints .u32 (rd)),(3,.cells [.int .u32 (q.1),.int .u32 (q.2.1),.int .u32 (q.2.2.1),.int .u32 (q.2.2.2.1),.int .u32 (q.2.2.2.2.1),.int .u32 (q.2.2.2.2.2.1),.int .u32 (q.2.2.2.2.2.2.1),.int .u32 (q.2.2.2.2.2.2.2)])]) 4))]
 :=cP.of U U U
theorem ajq:c5 cs4 [] 3 Tryz.f38 [] (ajn) (Io st rd q p) [([],
   [(0<(dK (IntKind.i64.wrap q.1)).length),(eP (dK (IntKind.i64.wrap q.1)).length 1 1=true),(0<(dK (IntKind.i64.wrap q.1)).length),((dK (IntKind.i64.wrap q.1)).length=(dK (IntKind.i64.wrap q.1)).length),(eP ((dK (IntKind.i64.wrap q.1)).length+(dK (IntKind.i64.wrap q.2.1)).length) 1 1=true),(0<(dK (IntKind.i64.wrap q.1)).length+(dK (IntKind.i64.wrap q.2.1)).length),((dK (IntKind.i64.wrap q.1)).length+(dK (IntKind.i64.wrap q.2.1)).length=(dK (IntKind.i64.wrap q.1)++eM (dP (dK (IntKind.i64.wrap q.2.1)))).length),(eP ((dK (IntKind.i64.wrap q.1)).length+(dK (IntKind.i64.wrap q.2.1)).length+(dK (IntKind.i64.wrap q.2.2.1)).length) 1 1=true),(0<(dK (IntKind.i64.wrap q.1)).length+(dK (IntKind.i64.wrap q.2.1)).length+(dK (IntKind.i64.wrap q.2.2.1)).length),((dK (IntKind.i64.wrap q.1)).length+(dK (IntKind.i64.wrap q.2.1)).length+(dK (IntKind.i64.wrap q.2.2.1)).length=(dK (IntKind.i64.wrap q.1)++eM (dP (dK (IntKind.i64.wrap q.2.1)))++eM (dP (dK (IntKind.i64.wrap q.2.2.1)))).length),(eP ((dK (IntKind.i64.wrap q.1)).length+(dK (IntKind.i64.wrap q.2.1)).length+(dK (IntKind.i64.wrap q.2.2.1)).length+(dK (IntKind.i64.wrap q.2.2.2.1)).length) 1 1=true),(0<(dK (IntKind.i64.wrap q.1)).length+(dK (IntKind.i64.wrap q.2.1)).length+(dK (IntKind.i64.wrap q.2.2.1)).length+(dK (IntKind.i64.wrap q.2.2.2.1)).length),((dK (IntKind.i64.wrap q.1)).length+(dK (IntKind.i64.wrap q.2.1)).length+(dK (IntKind.i64.wrap q.2.2.1)).length+(dK (IntKind.i64.wrap q.2.2.2.1)).length=(dK (IntKind.i64.wrap q.1)++eM (dP (dK (IntKind.i64.wrap q.2.1)))++eM (dP (dK (IntKind.i64.wrap q.2.2.1)))++eM (dP (dK (IntKind.i64.wrap q.2.2.2.1)))).length),(eP ((dK (IntKind.i64.wrap q.1)).length+(dK (IntKind.i64.wrap q.2.1)).length+(dK (IntKind.i64.wrap q.2.2.1)).length+(dK (IntKind.i64.wrap q.2.2.2.1)).length+(dK (IntKind.i64.wrap q.2.2.2.2.1)).length) 1 1=true),(0<(dK (IntKind.i64.wrap q.1)).length+(dK (IntKind.i64.wrap q.2.1)).length+(dK (IntKind.i64.wrap q.2.2.1)).length+(dK (IntKind.i64.wrap q.2.2.2.1)).length+(dK (IntKind.i64.wrap q.2.2.2.2.1)).length),((dK (IntKind.i64.wrap q.1)).length+(dK (IntKind.i64.wrap q.2.1)).length+(dK (IntKind.i64.wrap q.2.2.1)).length+(dK (IntKind.i64.wrap q.2.2.2.1)).length+(dK (IntKind.i64.wrap q.2.2.2.2.1)).length=(dK (IntKind.i64.wrap q.1)++eM (dP (dK (IntKind.i64.wrap q.2.1)))++eM (dP (dK (IntKind.i64.wrap q.2.2.1)))++eM (dP (dK (IntKind.i64.wrap q.2.2.2.1)))++eM (dP (dK (IntKind.i64.wrap q.2.2.2.2.1)))).length),(eP ((dK (IntKind.i64.wrap q.1)).length+(dK (IntKind.i64.wrap q.2.1)).length+(dK (IntKind.i64.wrap q.2.2.1)).length+(dK (IntKind.i64.wrap q.2.2.2.1)).length+(dK (IntKind.i64.wrap q.2.2.2.2.1)).length+(dK (IntKind.i64.wrap q.2.2.2.2.2.1)).length) 1 1=true),(0<(dK (IntKind.i64.wrap q.1)).length+(dK (IntKind.i64.wrap q.2.1)).length+(dK (IntKind.i64.wrap q.2.2.1)).length+(dK (IntKind.i64.wrap q.2.2.2.1)).length+(dK (IntKind.i64.wrap q.2.2.2.2.1)).length+(dK (IntKind.i64.wrap q.2.2.2.2.2.1)).length),((dK (IntKind.i64.wrap q.1)).length+(dK (IntKind.i64.wrap q.2.1)).length+(dK (IntKind.i64.wrap q.2.2.1)).length+(dK (IntKind.i64.wrap q.2.2.2.1)).length+(dK (IntKind.i64.wrap q.2.2.2.2.1)).length+(dK (IntKind.i64.wrap q.2.2.2.2.2.1)).length=(dK (IntKind.i64.wrap q.1)++eM (dP (dK (IntKind.i64.wrap q.2.1)))++eM (dP (dK (IntKind.i64.wrap q.2.2.1)))++eM (dP (dK (IntKind.i64.wrap q.2.2.2.1)))++eM (dP (dK (IntKind.i64.wrap q.2.2.2.2.1)))++eM (dP (dK (IntKind.i64.wrap q.2.2.2.2.2.1)))).length),(eP ((dK (IntKind.i64.wrap q.1)).length+(dK (IntKind.i64.wrap q.2.1)).length+(dK (IntKind.i64.wrap q.2.2.1)).length+(dK (IntKind.i64.wrap q.2.2.2.1)).length+(dK (IntKind.i64.wrap q.2.2.2.2.1)).length+(dK (IntKind.i64.wrap q.2.2.2.2.2.1)).length+(dK (IntKind.i64.wrap q.2.2.2.2.2.2.1)).length) 1 1=true),(0<(dK (IntKind.i64.wrap q.1)).length+(dK (IntKind.i64.wrap q.2.1)).length+(dK (IntKind.i64.wrap q.2.2.1)).length+(dK (IntKind.i64.wrap q.2.2.2.1)).length+(dK (IntKind.i64.wrap q.2.2.2.2.1)).length+(dK (IntKind.i64.wrap q.2.2.2.2.2.1)).length+(dK (IntKind.i64.wrap q.2.2.2.2.2.2.1)).length),((dK (IntKind.i64.wrap q.1)).length+(dK (IntKind.i64.wrap q.2.1)).length+(dK (IntKind.i64.wrap q.2.2.1)).length+(dK (IntKind.i64.wrap q.2.2.2.1)).length+(dK (IntKind.i64.wrap q.2.2.2.2.1)).length+(dK (IntKind.i64.wrap q.2.2.2.2.2.1)).length+(dK (IntKind.i64.wrap q.2.2.2.2.2.2.1)).length=(dK (IntKind.i64.wrap q.1)++eM (dP (dK (IntKind.i64.wrap q.2.1)))++eM (dP (dK (IntKind.i64.wrap q.2.2.1)))++eM (dP (dK (IntKind.i64.wrap q.2.2.2.1)))++eM (dP (dK (IntKind.i64.wrap q.2.2.2.2.1)))++eM (dP (dK (IntKind.i64.wrap q.2.2.2.2.2.1)))++eM (dP (dK (IntKind.i64.wrap q.2.2.2.2.2.2.1)))).length),(eP ((dK (IntKind.i64.wrap q.1)).length+(dK (IntKind.i64.wrap q.2.1)).length+(dK (IntKind.i64.wrap q.2.2.1)).length+(dK (IntKind.i64.wrap q.2.2.2.1)).length+(dK (IntKind.i64.wrap q.2.2.2.2.1)).length+(dK (IntKind.i64.wrap q.2.2.2.2.2.1)).length+(dK (IntKind.i64.wrap q.2.2.2.2.2.2.1)).length+(dK (IntKind.i64.wrap q.2.2.2.2.2.2.2)).length) 1 1=true),(0<(dK (IntKind.i64.wrap q.1)).length+(dK (IntKind.i64.wrap q.2.1)).length+(dK (IntKind.i64.wrap q.2.2.1)).length+(dK (IntKind.i64.wrap q.2.2.2.1)).length+(dK (IntKind.i64.wrap q.2.2.2.2.1)).length+(dK (IntKind.i64.wrap q.2.2.2.2.2.1)).length+(dK (IntKind.i64.wrap q.2.2.2.2.2.2.1)).length+(dK (IntKind.i64.wrap q.2.2.2.2.2.2.2)).length),((Int.ofNat ((dK (IntKind.i64.wrap q.1)).length+(dK (IntKind.i64.wrap q.2.1)).length+(dK (IntKind.i64.wrap q.2.2.1)).length+(dK (IntKind.i64.wrap q.2.2.2.1)).length+(dK (IntKind.i64.wrap q.2.2.2.2.1)).length+(dK (IntKind.i64.wrap q.2.2.2.2.2.1)).length+(dK (IntKind.i64.wrap q.2.2.2.2.2.2.1)).length+(dK (IntKind.i64.wrap q.2.2.2.2.2.2.2)).length))=(Int.ofNat (dK (IntKind.i64.wrap q.1)++eM (dP (dK (IntKind.i64.wrap q.2.1)))++eM (dP (dK (IntKind.i64.wrap q.2.2.1)))++eM (dP (dK (IntKind.i64.wrap q.2.2.2.1)))++eM (dP (dK (IntKind.i64.wrap q.2.2.2.2.1)))++eM (dP (dK (IntKind.i64.wrap q.2.2.2.2.2.1)))++eM (dP (dK (IntKind.i64.wrap q.2.2.2.2.2.2.1)))++eM (dP (dK (IntKind.i64.wrap q.2.2.2.2.2.2.2)))).length)/\0<(dK (IntKind.i64.wrap q.1)++eM (dP (dK (IntKind.i64.wrap q.2.1)))++eM (dP (dK (IntKind.i64.wrap q.2.2.1)))++eM (dP (dK (IntKind.i64.wrap q.2.2.2.1)))++eM (dP (dK (IntKind.i64.wrap q.2.2.2.2.1)))++eM (dP (dK (IntKind.i64.wrap q.2.2.2.2.2.1)))++eM (dP (dK (IntKind.i64.wrap q.2.2.2.2.2.2.1)))++eM (dP (dK (IntKind.i64.wrap q.2.2.2.2.2.2.2)))).length),((dK (IntKind.i64.wrap q.1)++eM (dP (dK (IntKind.i64.wrap q.2.1)))++eM (dP (dK (IntKind.i64.wrap q.2.2.1)))++eM (dP (dK (IntKind.i64.wrap q.2.2.2.1)))++eM (dP (dK (IntKind.i64.wrap q.2.2.2.2.1)))++eM (dP (dK (IntKind.i64.wrap q.2.2.2.2.2.1)))++eM (dP (dK (IntKind.i64.wrap q.2.2.2.2.2.2.1)))++eM (dP (dK (IntKind.i64.wrap q.2.2.2.2.2.2.2)))).length<=9223372036854775807)],
   .ret (.str (dK (IntKind.i64.wrap q.1)++eM (dP (dK (IntKind.i64.wrap q.2.1)))++eM (dP (dK (IntKind.i64.wrap q.2.2.1)))++eM (dP (dK (IntKind.i64.wrap q.2.2.2.1)))++eM (dP (dK (IntKind.i64.wrap q.2.2.2.2.1)))++eM (dP (dK (IntKind.i64.wrap q.2.2.2.2.2.1)))++eM (dP (dK (IntKind.i64.wrap q.2.2.2.2.2.2.1)))++eM (dP (dK (IntKind.i64.wrap q.2.2.2.2.2.2.2))))) (hL [(0,.ints .u32 (st)),(1,.ints .u32 (rd))]) 3)]
 :=cP.of U U U
end
section
variable(st rd:List Int)(s p:aa)(q:E8)
def Gm:aa:=Qq (jH rd p q (p.length/64))
theorem cQ:∀a∈([]:ah),a:=fun _ h=>absurd h aL
theorem vg(x:Int):(l7 x).length=8:=rfl
theorem EM:(mL s).length=(s.length-s.length/64*64)+1+gU s+8:=by
 unfold mL;simp only[ax,bX,bg,bJ,vg,aS,bO,Nat.min_self]
theorem NM:∃k,(mL s).length=64*k:=by
 rw[EM];unfold gU;refine⟨((s.length-s.length/64*64)+1+((119-s.length%64)%64)+8)/64,?_⟩;omega
theorem adn(p p1 b1:aa)(h1:List.drop 64 (List.take p.length p)=p1)(h2:List.drop 0 (List.take 64 p)=b1):c5 cs4 [(47,.split)] 3 Tryz.f38 [3,5] (dr (dr ajm)) (Io st rd q p) [([((decide ((Int.ofNat p.length)>(0:Int))),true)],
   [((0:Int)<=(64:Int)/\(64:Int)<=(Int.ofNat p.length)),(64<=rd.length),(64<=b1.length),((0:Int)<=(64:Int)/\(64:Int)<=(Int.ofNat p.length))],
   .to .normal (Io st rd (yU rd b1 q) p1)),
   ([((decide ((Int.ofNat p.length)>(0:Int))),false)],[],.to (.exit 2) (Io st rd q p))]:=by
 subst h1 h2;exact cP.of U U U
theorem ado(s p:aa)(i:Nat):c5 cs4 [(35,.split),(32,.c9 (.int .i64 (Int.ofNat (i+64)))),(42,.c9 (.int .i64 (Int.ofNat (i+64)))),(37,.c9 (.int .i64 (Int.ofNat (i+64))))] 3 Tryz.f38 [0,3,5,6] (dr (dr (dY adl))) (NL st rd q s p i) [([((decide (Int.ofNat (i+64)<=(Int.ofNat s.length))),true)],
   [kM (Int.ofNat i+64) (i+64),kM (Int.ofNat i+64) (i+64),((0:Int)<=Int.ofNat (i+64)/\Int.ofNat (i+64)<=(Int.ofNat s.length)),((0:Int)<=Int.ofNat i/\Int.ofNat i<=(Int.ofNat (Int.ofNat (i+64)).toNat)),(64<=rd.length),(64<=(Bv s i).length),kM (Int.ofNat i+64) (i+64)],
   .to .normal (NL st rd (yU rd (Bv s i) q) s p (i+64))),
   ([((decide (Int.ofNat (i+64)<=(Int.ofNat s.length))),false)],[kM (Int.ofNat i+64) (i+64)],.to (.exit 0) (NL st rd q s p i))]:=
 cP.of U U U
theorem LY{s:aa}{i:Nat}(h:i+64<=s.length):(Bv s i).length=64:=by
 unfold Bv;rw[bX,bg];omega
theorem NN(j:Nat):List.drop 64 (List.take (p.drop (64*j)).length (p.drop (64*j)))=p.drop (64*(j+1)):=by
 rw[aT,List.drop_drop,Nat.mul_succ]
theorem Qs(j:Nat):List.drop 0 (List.take 64 (p.drop (64*j)))=Bv p (64*j):=by
 unfold Bv;rw[bu,List.drop_take];rw[Nat.add_sub_cancel_left]
theorem adp(Ys:64<=rd.length)(q0:E8)(p:aa)(kp:Nat)(hkp:p.length=64*kp)(o7:p.length<=200):TG ak 3 Tryz.f38.ntmps T4 (Io st rd q0 p)
  (fB ak 3 Tryz.f38 fun u _ _=>u= .str (Gm rd p q0)):=by
 have hO:∀n:Nat,Int.ofNat n=(n:Int):=fun _=>rfl;have rq:Gm rd p q0=Qq (jH rd p q0 kp):=by unfold Gm;rw[hkp,Nat.mul_div_cancel_left _ be]
 rw[rq];clear rq;refine cV U ?_;refine fh (i:=2) U (fb (Q1:=fun z s'=>z= .exit 2/\∃L,eU 3 L s'=some (Io st rd (jH rd p q0 kp) (p.drop (64*kp)))) (gh (fun k' s'=>∃j,k'=kp-j/\j<=kp/\∃L,eU 3 L s'=some (Io st rd (jH rd p q0 j) (p.drop (64*j)))) U ?_ kp ⟨0,rfl,aW _,[3,5],U⟩) ?_)
 . rintro k' s1 ⟨j,hk,hj,L,fP⟩;refine c6 fP ?_;have iQ:(p.drop (64*j)).length=64*kp-64*j:=by rw[bX,hkp]
   refine fV X4 (adn st rd (jH rd p q0 j) (p.drop (64*j)) (p.drop (64*(j+1))) (Bv p (64*j)) (NN p j) (Qs p j)) fun g hg hc=>?_;simp only[aE,aL,bt]at hg;rcases hg with rfl|rfl
   . have fE:j<kp:=by
      have:=aH (hc _ (aq.2 rfl));rw[hO,iQ]at this;omega
     refine⟨fun p' OP=>?_,fun s' dX=>⟨kp-(j+1),be,j+1,rfl,be,_,dX⟩⟩;simp only[aE,aL,bt]at OP;rcases OP with rfl|rfl|rfl|rfl
     . exact⟨dN,by rw[hO,iQ];omega⟩
     . exact Ys
     . rw[LY be];exact aA _
     . exact⟨dN,by rw[hO,iQ];omega⟩
   . have zO:¬j<kp:=by
      have:=aK (hc _ (aq.2 rfl));rw[hO,iQ]at this;omega
     obtain rfl:j=kp:=by omega
     exact⟨cQ,fun s' dX=>⟨rfl,_,dX⟩⟩
 rintro y s2 ⟨rfl,L,jd⟩;rw[dV];simp only[andThen];refine c6 jd ?_;refine fu X4 (ajq st rd (jH rd p q0 kp) (p.drop (64*kp))) (dI ?_);refine⟨?_,_,_,_,rfl,rfl⟩
 repeat' (first|exact cQ|refine jn ?_ ?_)
 all_goals first|exact au U|exact⟨U,au U⟩|kernel_rfl
theorem ajr(st rd:List Int)(BW:8<=st.length)(Ys:64<=rd.length)(s:aa)(hs:s.length<=1000000000):TG ak 3 Tryz.f38.ntmps T3 (cR [.str s] (DK st rd) 3)
  (fB ak 3 Tryz.f38 fun u _ _=>u= .str (Qr st rd s)):=by
 have hO:∀n:Nat,Int.ofNat n=(n:Int):=fun _=>rfl;have hz:gU s<64:=by unfold gU;omega
 refine iJ  4 X4 (ajo st rd s) ?_ ?_
 . intro p hp;simp only[aE,aL,bt]at hp;rcases hp with rfl|rfl|rfl|rfl|rfl|rfl|rfl|rfl|rfl|rfl|rfl|rfl|rfl
   . exact BW
   . rfl
   . have e:IntKind.i64.wrap ((119:Int)-Int.ofNat (s.length%64))=Int.ofNat (119-s.length%64):=by
      rw[fC de de,hO,hO];omega
     rw[e];rfl
   . decide
   . have e:(Int.ofNat s.length).tdiv 64=Int.ofNat (s.length/64):=rfl;rw[e,fC (x:=Int.ofNat (s.length/64)) de de];exact fA de be
   . exact⟨az _,de⟩
   . simp only[bX,bg,Nat.min_self];omega
   . exact⟨az _,de⟩
   . exact⟨az _,de⟩
   . simp only[ax,bX,bg,bJ,aS,bO,Nat.min_self,hO,Int.toNat_natCast];omega
   . exact fA de be
   . exact⟨az _,de⟩
   . simp only[ax,bX,bg,bJ,aS,bO,Nat.min_self,hO,Int.toNat_natCast,vg];omega
 show TG ak 3 Tryz.f38.ntmps Y8 (adm st rd (Kn st) s (mL s)) _;refine cV U ?_;obtain⟨L2,Ip⟩:=ajp st rd (Kn st) s (mL s);refine yQ X4 mo nZ U U Ip (dI ?_);refine⟨fun p hp=>by rw[aq]at hp;subst hp;rfl,fun s' dX=>?_⟩;have dX:eU 3 [0,3,5,6] s'=some (NL st rd (jH rd s (Kn st) 0) s (mL s) (64*0)):=dX;refine fh (i:=0) U (fb (Q1:=fun z s'=>z= .exit 0/\∃L,eU 3 L s'=some (NL st rd (jH rd s (Kn st) (s.length/64)) s (mL s) (64*(s.length/64)))) (gh (fun k' s'=>∃j,k'=s.length/64-j/\j<=s.length/64/\∃L,eU 3 L s'=some (NL st rd (jH rd s (Kn st) j) s (mL s) (64*j))) U ?_ (s.length/64) ⟨0,rfl,aW _,_,dX⟩) ?_)
 . rintro k' s1 ⟨j,hk,hj,L,fP⟩;refine c6 fP ?_;refine fV X4 (ado st rd (jH rd s (Kn st) j) s (mL s) (64*j)) fun g hg hc=>?_;simp only[aE,aL,bt]at hg;rcases hg with rfl|rfl
   . have fE:64*j+64<=s.length:=by
      have:=aH (hc _ (aq.2 rfl));rw[hO,hO]at this;omega
     refine⟨fun p hp=>?_,fun s' dX=>⟨s.length/64-(j+1),be,j+1,rfl,be,_,dX⟩⟩;simp only[aE,aL,bt]at hp;rcases hp with rfl|rfl|rfl|rfl|rfl|rfl|rfl
     . exact fA de be
     . exact fA de be
     . exact⟨az _,de⟩
     . exact⟨az _,by simp only[hO,Int.toNat_natCast];omega⟩
     . exact Ys
     . rw[LY fE];exact aA _
     . exact fA de be
   . have zO:¬64*j+64<=s.length:=by
      have:=aK (hc _ (aq.2 rfl));rw[hO,hO]at this;omega
     obtain rfl:j=s.length/64:=by omega
     refine⟨fun p hp=>?_,fun s' dX=>⟨rfl,_,dX⟩⟩;rw[aq]at hp;subst hp;exact fA de be
 rintro y s2 ⟨rfl,L,jd⟩;rw[dV];simp only[andThen];refine c6 jd ?_;refine c6 (live:=[3,5]) (s2:=Io st rd (jH rd s (Kn st) (s.length/64)) (mL s)) U ?_;show TG ak 3 Tryz.f38.ntmps T4 _ (fB ak 3 Tryz.f38 fun u _ _=>u= .str (Gm rd (mL s) (jH rd s (Kn st) (s.length/64))));obtain⟨kp,hkp⟩:=NM s;have o7:(mL s).length<=200:=by rw[EM];omega
 exact adp st rd Ys _ _ kp hkp o7
end
def gS:List Int:=[1779033703,3144134277,1013904242,2773480762,1359893119,2600822924,528734635,1541459225]
def gR:List Int:=[1116352408,1899447441,3049323471,3921009573,961987163,1508970993,2453635748,2870763221,3624381080,310598401,607225278,1426881987,1925078388,2162078206,2614888103,3248222580,3835390401,4022224774,264347078,604807628,770255983,1249150122,1555081692,1996064986,2554220882,2821834349,2952996808,3210313671,3336571891,3584528711,113926993,338241895,666307205,773529912,1294757372,1396182291,1695183700,1986661051,2177026350,2456956037,2730485921,2820302411,3259730800,3345764771,3516065817,3600352804,4094571909,275423344,430227734,506948616,659060556,883997877,958139571,1322822218,1537002063,1747873779,1955562222,2024104815,2227730452,2361852424,2428436474,2756734187,3204031479,3329325298]
def D2(s:aa):aa:=Qr gS gR s
def Ko(h:Tr O):Option (List Int×List Int):=match h.get 0,h.get 1 with
 |some (.ints .u32 st),some (.ints .u32 rd)=>some (st,rd)
 |_,_=>none
theorem Ae{h:Tr O}{st rd:List Int}(e:Ko h=some (st,rd)):h.get 0=some (.ints .u32 st)/\h.get 1=some (.ints .u32 rd):=by
 unfold Ko at e;split at e
 . rename_i a b h0 h1;obtain⟨rfl,rfl⟩:=eY e;exact⟨h0,h1⟩
 . cases e
def Kp:ag->Tr O->Option (ah×V)
 | [.str s],h=>match Ko h with
   |some (st,rd)=>some ([st=gS,rd=gR,s.length<=1000000000],.str (D2 s))
   |none=>none
 |_,_=>none
theorem EN{E:Env}{h:Tr O}{w:World}{st rd:List Int}(g0:Eng.Good E h w)(h0:h.get 0=some (.ints .u32 st))(h1:h.get 1=some (.ints .u32 rd)):
  Eng.Good (E.rows Ta) (DK st rd) w/\qH (E.rows Ta) 3/\∀m,¬ew (DK st rd) m:=
 LR g0 Ta [some (.u32,st),some (.u32,rd),none] (au rfl) Qm (by
  intro j k' Wy hj
  match j,hj with
  |0,hj=>cases hj;exact⟨0,0,st,rfl,h0,rfl⟩
  |1,hj=>cases hj;exact⟨1,0,rd,rfl,h1,rfl⟩
  |2,hj=>cases hj
  |j+3,hj=>simp at hj)
theorem Y9:PV ak 38 Kp:=by
 refine⟨au U,fun args h A u e=>?_⟩;unfold Kp at e;split at e
 case h_2=>cases e
 rename_i s;split at e
 case h_2=>cases e
 rename_i st rd ht;obtain⟨h0,h1⟩:=Ae ht;obtain⟨rfl,rfl⟩:=eY e;refine⟨rfl,fun hA E n' w' c7 ra g0 hd hc=>?_⟩;have e1:st=gS:=hA _ (by simp);have e2:rd=gR:=hA _ (by simp);have e3:s.length<=1000000000:=hA (s.length<=1000000000) (by simp);subst e1 e2;obtain⟨g2,d2,n2⟩:=EN g0 h0 h1;exact CE mo po Tryz.func38 (code:=T3) U U (ajr gS gR (au rfl) (au rfl) s e3) (E:=E.rows Ta) g2 d2 n2 (mJ _ _ rfl ra)
noncomputable abbrev W5:jJ:=kj 38 (LQ Kp) W4
theorem Xf:fU ak W5:=fe (If Y9) Xe
noncomputable abbrev cs5:eX:=gC ak W5 H0 1000 40
noncomputable abbrev X5:CX ak:=CX.of mo po Xf H0 1000 40
theorem gd(u:aa):eM (dP u)=u:=by
 induction u with
 |nil=>rfl
 |cons x u ih=>
  show UInt8.ofNat ((x.toNat:Int)).toNat::eM (dP u)=x::u;rw[ih];simp
noncomputable abbrev Za:Code:=dU Tryz.f22
noncomputable abbrev Zb:Code:=dh 2 Za
noncomputable abbrev Zc:Code:=dO Zb
noncomputable abbrev ajs:Code:=dY Zb
section
variable(f:Bool)(ps:List (aa))(i cN:Nat)(gl:aa)
def hT:af:=[(0,.ints .u32 gS),(1,.ints .u32 gR)]
def strs:ai:=ps.map .str
def sJ0:St:=eG [(3,.ptr (some (3,0))),(6,.dL f ps.length (strs ps)),(7,.int .i64 (Int.ofNat ps.length)),(8,.int .i64 (Int.ofNat 0))] (hL [(0,.ints .u32 gS),(1,.ints .u32 gR),(3,.A3 102 false (.di none 0 0 0))]) 4
def Zd:St:=eG [(3,.ptr (some (3,0))),(6,.dL f ps.length (strs ps)),(7,.int .i64 (Int.ofNat ps.length)),(8,.int .i64 (Int.ofNat i))] (hL [(0,.ints .u32 gS),(1,.ints .u32 gR),(3,.A3 102 true (.di (some (4,0)) cN cN 1)),(4,.iS 5 false gl)]) 5
def sJa:St:=eG [(0,.dL f ps.length (strs ps)),(3,.ptr (some (3,0)))] (hL [(0,.ints .u32 gS),(1,.ints .u32 gR),(3,.A3 102 false (.di none 0 0 0))]) 4
theorem ajt:c5 cs5 [] 3 Tryz.f22 [0,3] (eR 2 Za) (cR [.dL f ps.length (strs ps)] (DK gS gR) 3) [([],
   [],
   .to .normal (eG [(0,.dL (f) (ps.length) (strs ps)),(3,.ptr (some (3,0)))] (hL [(0,.ints .u32 gS),(1,.ints .u32 gR),(3,.A3 102 false (.di none 0 0 0))]) 4))]
 :=cP.of U U U
theorem adr:c5 cs5 [(8,.c9 (.int .i64 (Int.ofNat 0)))] 3 Tryz.f22 [3,6,7,8] (dO Zc) (sJa f ps) [([],
   [(V.int aj (0:Int)=V.int aj (0:Int))],
   .to .normal (eG [(3,.ptr (some (3,0))),(6,.dL (f) (ps.length) (strs ps)),(7,.int .i64 ((Int.ofNat ps.length))),(8,.int .i64 0)] (hL [(0,.ints .u32 gS),(1,.ints .u32 gR),(3,.A3 102 false (.di none 0 0 0))]) 4))]
 :=cP.of U U U
theorem aju:c5 cs5 [] 3 Tryz.f22 [] (ajs) (Zd f ps i cN gl) [([],
   [(0<cN),((Int.ofNat cN)=(Int.ofNat gl.length)/\0<gl.length),(gl.length<=9223372036854775807),(gS=gS),(gR=gR),(gl.length<=1000000000)],
   .ret (.str (D2 gl)) (hL [(0,.ints .u32 gS),(1,.ints .u32 gR)]) 3)]
 :=cP.of U U U
end
section
variable(f:Bool)(ps:List (aa))
def eF:aa:=ps.flatMap fun p=>l7 (Int.ofNat p.length)++p
theorem tD{ps:List (aa)}{i:Nat}{p:aa}(h:ps[i]? =some p):eF (ps.take (i+1))=eF (ps.take i)++l7 (Int.ofNat p.length)++p:=by
 have fE:i<ps.length:=(aF.1 h).1;have e:ps.take (i+1)=ps.take i++[p]:=by
  rw[bI,h];rfl
 unfold eF;rw[e,List.flatMap_append];simp
theorem Qt(i:Nat):(eF (ps.take i)).length<=(eF ps).length:=by
 have:eF ps=eF (ps.take i)++eF (ps.drop i):=by
  unfold eF;rw[<- List.flatMap_append,ck]
 rw[this,ax];omega
theorem ji{k:Nat}(h:k<=100000000000):eP k 1 1=true:=by
 unfold eP;exact bL ⟨be,be⟩
theorem eI:(strs ps).length=ps.length:=aY ..
theorem fD{ps:List (aa)}{i:Nat}{p:aa}(h:ps[i]? =some p):dw (strs ps) (i*1) 1=[D.str p]:=by
 unfold dw strs;rw[bj];have fE:i<ps.length:=(aF.1 h).1;have:(ps.drop i).take 1=[p]:=by
  rw[bE fE];have:ps[i]=p:=(aF.1 h).2;simp[this]
 rw[<- List.map_drop,<- cK,this];rfl
theorem ads(p gl:aa)(h:l7 (Int.ofNat p.length)++eM (dP p)=gl):c5 cs5 [(9,.split),(10,.c9 (.dm [.str p])),(18,.c9 (.int .i64 (Int.ofNat 1)))] 3 Tryz.f22 [3,6,7,8] (dr (dr (dY Zc))) (sJ0 f ps) [([((decide ((0:Int)<Int.ofNat ps.length)),true)],
   [((0:Int)<=(0:Int)/\(0:Int)<(Int.ofNat ps.length)),((strs ps).length=ps.length*1),(V.dm (dw (strs ps) 0 1)=V.dm [D.str p]),(0<(l7 (Int.ofNat p.length)).length),(eP (l7 (Int.ofNat p.length)).length 1 1=true),(0<(l7 (Int.ofNat p.length)).length),((l7 (Int.ofNat p.length)).length=(l7 (Int.ofNat p.length)).length),(eP ((l7 (Int.ofNat p.length)).length+p.length) 1 1=true),(V.int aj (1:Int)=V.int aj (1:Int))],
   .to .normal (Zd f ps 1 ((l7 (Int.ofNat p.length)).length+p.length) gl)),
  ([((decide ((0:Int)<Int.ofNat ps.length)),false)],[],.to (.exit 0) (sJ0 f ps))]:=by
 subst h;exact cP.of U U U
theorem Xg(p:aa)(i cN:Nat)(gl adt:aa)(h:gl++eM (dP (l7 (Int.ofNat p.length)))++eM (dP p)=adt):c5 cs5 [(9,.split),(10,.c9 (.dm [.str p])),(18,.c9 (.int .i64 (Int.ofNat (i+1))))] 3 Tryz.f22 [3,6,7,8] (dr (dr (dY Zc))) (Zd f ps i cN gl) [([((decide (Int.ofNat i<Int.ofNat ps.length)),true)],
   [((0:Int)<=Int.ofNat i/\Int.ofNat i<(Int.ofNat ps.length)),((strs ps).length=ps.length*1),(V.dm (dw (strs ps) ((Int.ofNat i).toNat*1) 1)=V.dm [D.str p]),(0<cN),(cN=gl.length),(eP (cN+(l7 (Int.ofNat p.length)).length) 1 1=true),(0<cN+(l7 (Int.ofNat p.length)).length),(cN+(l7 (Int.ofNat p.length)).length=(gl++eM (dP (l7 (Int.ofNat p.length)))).length),(eP (cN+(l7 (Int.ofNat p.length)).length+p.length) 1 1=true),kM (Int.ofNat i+1) (i+1)],
   .to .normal (Zd f ps (i+1) (cN+(l7 (Int.ofNat p.length)).length+p.length) adt)),
  ([((decide (Int.ofNat i<Int.ofNat ps.length)),false)],[],.to (.exit 0) (Zd f ps i cN gl))]:=by
 subst h;exact cP.of U U U
def JoI(k':Nat)(s:St):Prop:=∃i,k'=ps.length-i/\i<=ps.length/\((i=0/\∃L,eU 3 L s=some (sJ0 f ps))\/(0<i/\∃L,eU 3 L s=some (Zd f ps i (eF (ps.take i)).length (eF (ps.take i)))))
theorem ajv(h0:0<ps.length)(G1:ps.length<=1000000000)(hs:(eF ps).length<=1000000000):TG ak 3 Tryz.f22.ntmps Za (cR [.dL f ps.length (strs ps)] (DK gS gR) 3)
  (fB ak 3 Tryz.f22 fun u _ _=>u= .str (D2 (eF ps))):=by
 have hO:∀n:Nat,Int.ofNat n=(n:Int):=fun _=>rfl;have hb:=Qt ps;have Qu:=fun x=>vg x;refine iJ  2 X5 (ajt f ps) cQ ?_;show TG ak 3 Tryz.f22.ntmps Zb (sJa f ps) _;refine cV U ?_;refine cV U ?_;refine fV X5 (adr f ps) (dI ?_);refine⟨fun p hp=>by rw[aq]at hp;subst hp;rfl,fun s' dX=>?_⟩;have dX:eU 3 [3,6,7,8] s'=some (sJ0 f ps):=dX;refine fh (i:=0) U (fb (Q1:=fun z s'=>z= .exit 0/\∃L,eU 3 L s'=some (Zd f ps ps.length (eF ps).length (eF ps))) (gh (JoI f ps) U ?_ ps.length ⟨0,rfl,aW _,.inl ⟨rfl,_,dX⟩⟩) ?_)
 . rintro k' s1 ⟨i,hk,hi,⟨rfl,L,fP⟩|⟨h1,L,fP⟩⟩
   . refine c6 fP ?_;obtain⟨p,hp⟩:∃p,ps[0]? =some p:=⟨_,ay h0⟩;have hj:=tD hp;have hj:eF (ps.take 1)=l7 (Int.ofNat p.length)++p:=hj;have yn:=hb 1;rw[hj,ax,Qu]at yn;refine fV X5 (ads f ps p (eF (ps.take 1)) (by rw[gd,hj])) fun g hg hc=>?_;simp only[aE,aL,bt]at hg;rcases hg with rfl|rfl
     . refine⟨fun p' OP=>?_,fun s' dX=>⟨ps.length-1,be,1,rfl,be,.inr ⟨be,[3,6,7,8],?_⟩⟩⟩
       . revert p' OP
         repeat' (first|exact cQ|refine jn ?_ ?_)
         . exact⟨dN,de⟩
         . rw[eI,bj]
         . exact aN V.dm (fD hp)
         . rw[Qu];decide
         . rw[Qu];rfl
         . rw[Qu];decide
         . first|rfl|trivial
         . rw[Qu];exact ji be
         . first|rfl|trivial
       . rw[dX,hj,ax]
     . exact absurd (aK (hc _ (aq.2 rfl))) de
   . refine c6 fP ?_;rcases bN i ps.length with fE|zO
     . obtain⟨p,hp⟩:∃p,ps[i]? =some p:=⟨_,ay fE⟩;have hj:=tD hp;have yn:=hb (i+1);rw[hj,ax,ax,Qu]at yn;have mz:0<(eF (ps.take i)).length:=by
        obtain⟨j,rfl⟩:∃j,i=j+1:=⟨i-1,be⟩;rw[tD (ay (show j<ps.length by omega)),ax,ax,Qu];omega
       refine fV X5 (Xg f ps p i (eF (ps.take i)).length (eF (ps.take i)) (eF (ps.take (i+1))) (by rw[gd,gd,hj])) fun g hg hc=>?_;simp only[aE,aL,bt]at hg;rcases hg with rfl|rfl
       . refine⟨fun p' OP=>?_,fun s' dX=>⟨ps.length-(i+1),be,i+1,rfl,be,.inr ⟨be,[3,6,7,8],?_⟩⟩⟩
         . revert p' OP
           repeat' (first|exact cQ|refine jn ?_ ?_)
           . exact⟨az _,de⟩
           . rw[eI,bj]
           . exact aN V.dm (fD hp)
           . exact mz
           . first|rfl|trivial
           . rw[Qu];exact ji be
           . rw[Qu];omega
           . rw[gd,ax]
           . rw[Qu];exact ji be
           . exact fA de be
         . rw[dX,hj,ax,ax]
       . exact absurd (aK (hc _ (aq.2 rfl))) de
     . obtain rfl:i=ps.length:=by omega
       refine fV X5 (Xg f ps [] ps.length (eF (ps.take ps.length)).length (eF (ps.take ps.length)) _ rfl) fun g hg hc=>?_;simp only[aE,aL,bt]at hg;rcases hg with rfl|rfl
       . exact absurd (aH (hc _ (aq.2 rfl))) de
       . refine⟨cQ,fun s' dX=>⟨rfl,[3,6,7,8],?_⟩⟩;rw[dX,aT]
 rintro y s2 ⟨rfl,L,jd⟩;rw[dV];simp only[andThen];refine c6 jd ?_;have mz:0<(eF ps).length:=by
  have hj:=tD (ay h0);have yn:=hb 1;rw[hj,ax,ax,Qu]at yn;omega
 refine fu X5 (aju f ps ps.length (eF ps).length (eF ps)) (dI ?_);refine⟨fun p' OP=>?_,_,_,_,rfl,rfl⟩;revert p' OP
 repeat' (first|exact cQ|refine jn ?_ ?_)
 . exact mz
 . exact⟨rfl,mz⟩
 . omega
 . first|rfl|trivial
 . first|rfl|trivial
 . exact hs
end
def Qv(f:FuncId)(args:ag)(v:V):Prop:=∀E h n w c7,Ko h=some (gS,gR)->dG E args c7->Eng.Good E h w->qH E n->Calls ak f c7.toArray w (jR E h n w (.ret v) h n)
def tW(f:ai->Option (ah×V)):ag->Tr O->Nat->Option (ah×V×Tr O×Nat):=fun args h n=>match Ko h,EK args with
 |some (st,rd),some ds=>match f ds with
  |some (A,v)=>some ((st=gS)::(rd=gR)::A,v,h,n)
  |none=>none
 |_,_=>none
theorem Qw{f:FuncId}{spec:ai->Option (ah×V)}(fE:f<Tryz.prog.funcs.size)(h:∀args A v,spec args=some (A,v)->(∀a∈A,a)->Qv f (args.map D.iH) v):jC ak f (tW spec):=by
 refine⟨fE,fun args h' n A v h2 n2 e hA E w c7 ra g hd hc=>?_⟩;unfold tW at e;split at e
 case h_2=>cases e
 rename_i st rd ds ht hds;split at e
 case h_2=>cases e
 rename_i A' v' hs;simp only[an,aB]at e;obtain⟨rfl,rfl,rfl,rfl⟩:=e;have e1:st=gS:=hA _ (by simp);have e2:rd=gR:=hA _ (by simp);subst e1 e2;exact h ds _ _ hs (fun a ha=>hA a (by simp[ha])) E h' n w c7 ht (z8 hds ra) g hd
theorem xA{f:FuncId}{fn:Func}{code:Code}(hf:Tryz.prog.funcs[f]? =some fn)(hb:fn.body=some code){args:ag}
  (l:(Nat.ble args.length fn.ntmps&&Nat.blt fn.ntmps fI)=true) {v:V} (hdp:V.qz args=true) (hv:v.deep=true) (hT:TG ak 3 fn.ntmps code (cR args (DK gS gR) 3) (fB ak 3 fn (ny v))):Qv f args v:=by
 intro E h n w c7 ht ra g hd;obtain⟨h0,h1⟩:=Ae ht;obtain⟨g0,d0,n0⟩:=EN g h0 h1;have ra0:dG (E.rows Ta) args c7:=oa (E:=E) (E':=E.rows Ta) (fun _ _ q=>q) _ _ hdp ra;exact(oF mo po hf hb l _ hT ra0 g0 d0).mono fun e w' ⟨u,h',n',hz,k⟩=>CK (E1:=E.rows Ta) g hd rfl n0 hv hz k
theorem jW{P:Program}{n0:Nat}{fn:Func}{v:V}{y:Exit}{s:St}(h:fB P n0 fn (fun u _ _=>u=v) y s):fB P n0 fn (ny v) y s:=by
 obtain⟨hy,u,h',n',e,rfl⟩:=h;exact⟨hy,_,h',n',e,.self⟩
def D.Ze:D->aa
 | .str p=>p
 |_=>[]
def dF(cs:ai):List (aa):=cs.map D.Ze
theorem ic(ps:List (aa)):dF (strs ps)=ps:=by
 unfold dF strs;rw[List.map_map];exact List.map_id ps
def Kq:ai->Option (ah×V)
 | [.dL n cs]=>some ([cs=strs (dF cs),n=(dF cs).length,0<n,n<=1000000000,(eF (dF cs)).length<=1000000000],.str (D2 (eF (dF cs))))
 |_=>none
theorem Zf:jC ak 22 (tW Kq):=by
 refine Qw (au U) fun args A v e hA=>?_;unfold Kq at e;split at e
 case h_2=>cases e
 rename_i n cs;simp only[an,aB]at e;obtain⟨rfl,rfl⟩:=e;have e1:cs=strs (dF cs):=hA _ (by simp);have e2:n=(dF cs).length:=hA (n=(dF cs).length) (by simp);have e3:0<n:=hA (0<n) (by simp);have e4:n<=1000000000:=hA (n<=1000000000) (by simp);have e5:(eF (dF cs)).length<=1000000000:=hA ((eF (dF cs)).length<=1000000000) (by simp);generalize dF cs=ps at *;subst e1 e2;exact xA Tryz.func22 U U rfl rfl (fb (ajv false ps e3 e4 e5) fun y s h=>jW h)
noncomputable abbrev W6:jJ:=kj 22 (tW Kq) W5
theorem Xh:fU ak W6:=fe Zf Xf
noncomputable abbrev cs6:eX:=gC ak W6 H0 1000 40
noncomputable abbrev X6:CX ak:=CX.of mo po Xh H0 1000 40
noncomputable abbrev Zg:Code:=dU Tryz.f45
noncomputable abbrev Zh:Code:=dh 2 Zg
noncomputable abbrev adu:Code:=dO Zh
noncomputable abbrev ajw:Code:=dY Zh
section
variable(rs:List (aa))(n:Nat)(ds:ai)
def sN0(d:aa)(o:O):St:=eG [(1,.dL false rs.length (strs rs)),(5,.di (some (3,0)) 1 1 1)] (hL [(0,.ints .u32 gS),(1,.ints .u32 gR),(3,o)]) 4
def sN1(i cN:Nat):St:=eG [(5,.di (some (3,0)) cN cN 1),(10,.dL false rs.length (strs rs)),(11,.int .i64 (Int.ofNat rs.length)),(12,.int .i64 (Int.ofNat i))] (hL [(0,.ints .u32 gS),(1,.ints .u32 gR),(3,.deep ds)]) 4
def sN2:St:=eG [(5,.dL false n ds)] (hL [(0,.ints .u32 gS),(1,.ints .u32 gR)]) 3
theorem ajx(d:aa):c5 cs6 [] 3 Tryz.f45 [1,5] (eR 2 Zg) (cR [.str d,.dL false rs.length (strs rs)] (DK gS gR) 3) [([],
   [],
   .to .normal (eG [(1,.dL false (rs.length) (strs rs)),(5,.di (some (3,0)) 1 1 1)] (hL [(0,.ints .u32 gS),(1,.ints .u32 gR),(3,.cells [.str (d)])]) 4))]
 :=cP.of U U U
theorem ajy(d:aa)(ds:ai):c5 cs6 [(12,.c9 (.int .i64 (Int.ofNat 0)))] 3 Tryz.f45 [5,10,11,12] (dO adu) (sN0 rs d (.deep ds)) [([],
   [(V.int aj (0:Int)=V.int aj (0:Int))],
   .to .normal (eG [(5,.di (some (3,0)) 1 1 1),(10,.dL false (rs.length) (strs rs)),(11,.int .i64 ((Int.ofNat rs.length))),(12,.int .i64 0)] (hL [(0,.ints .u32 gS),(1,.ints .u32 gR),(3,.deep (ds))]) 4))]
 :=cP.of U U U
theorem ajz(qs:List (aa))(n:Nat):c5 cs6 [] 3 Tryz.f45 [] (ajw) (sN2 n (strs qs)) [([],
   [(gS=gS),(gR=gR),(strs qs=strs (dF (strs qs))),(n=(dF (strs qs)).length),(0<n),(n<=1000000000),((eF (dF (strs qs))).length<=1000000000)],
   .ret (.str (D2 (eF (dF (strs qs))))) (hL [(0,.ints .u32 gS),(1,.ints .u32 gR)]) 3)]
 :=cP.of U U U
end
def dJ(d:aa)(rs:List (aa)):aa:=D2 (eF (d::rs))
theorem Kr(d:aa)(rs:List (aa)):(dJ d rs).length=32:=rfl
theorem pM{k:Nat}(h:k<=1000000000):eP k 1 16=true:=by
 unfold eP;exact bL ⟨be,be⟩
section
variable(rs:List (aa))
theorem Xi(ds ds2:ai)(p:aa)(i cN:Nat)(h:List.take (cN*1) (List.drop 0 ds)++[D.str p]=ds2):c5 cs6 [(13,.split),(14,.c9 (.dm [.str p])),(20,.c9 (.int .i64 (Int.ofNat (i+1))))] 3 Tryz.f45 [5,10,11,12] (dr (dr (dY adu))) (sN1 rs ds i cN) [([((decide (Int.ofNat i<Int.ofNat rs.length)),true)],
   [((0:Int)<=Int.ofNat i/\Int.ofNat i<(Int.ofNat rs.length)),((strs rs).length=rs.length*1),(V.dm (dw (strs rs) ((Int.ofNat i).toNat*1) 1)=V.dm [D.str p]),(0+cN*1<=ds.length),(0<1),(eP (cN+1) 1 16=true),kM (Int.ofNat i+1) (i+1)],
   .to .normal (sN1 rs ds2 (i+1) (cN+1))),
  ([((decide (Int.ofNat i<Int.ofNat rs.length)),false)],[],.to (.exit 0) (sN1 rs ds i cN))]:=by
 subst h;exact cP.of U U U
theorem NO(d:aa){rs:List (aa)}{i:Nat}{p:aa}(h:rs[i]? =some p):List.take ((i+1)*1) (List.drop 0 (strs (d::rs.take i)))++[D.str p]=strs (d::rs.take (i+1)):=by
 have fE:i<rs.length:=(aF.1 h).1;rw[bu,bj,bq (by rw[eI,aS,bg];omega),bI,h];unfold strs;simp
theorem ajA(d:aa)(M2:rs.length<=1000000)(hs:(eF (d::rs)).length<=1000000000):TG ak 3 Tryz.f45.ntmps Zg (cR [.str d,.dL false rs.length (strs rs)] (DK gS gR) 3)
  (fB ak 3 Tryz.f45 fun u _ _=>u= .str (dJ d rs)):=by
 have hO:∀n:Nat,Int.ofNat n=(n:Int):=fun _=>rfl;refine iJ  2 X6 (ajx rs d) cQ ?_;refine tB [3] (s2:=sN0 rs d (.deep [.str d])) U ?_;show TG ak 3 Tryz.f45.ntmps Zh _ _;refine cV U ?_;refine cV U ?_;refine fV X6 (ajy rs d [.str d]) (dI ?_);refine⟨fun p hp=>by rw[aq]at hp;subst hp;rfl,fun s' dX=>?_⟩;have dX:eU 3 [5,10,11,12] s'=some (sN1 rs (strs (d::rs.take 0)) 0 1):=dX;refine fh (i:=0) U (fb (Q1:=fun z s'=>z= .exit 0/\∃L,eU 3 L s'=some (sN1 rs (strs (d::rs)) rs.length (rs.length+1))) (gh (fun k' s=>∃i,k'=rs.length-i/\i<=rs.length/\∃L,eU 3 L s=some (sN1 rs (strs (d::rs.take i)) i (i+1))) U ?_ rs.length ⟨0,rfl,aW _,_,dX⟩) ?_)
 . rintro k' s1 ⟨i,hk,hi,L,fP⟩;refine c6 fP ?_;rcases bN i rs.length with fE|zO
   . obtain⟨p,hp⟩:∃p,rs[i]? =some p:=⟨_,ay fE⟩;refine fV X6 (Xi rs (strs (d::rs.take i)) _ p i (i+1) (NO d hp)) fun g hg hc=>?_;simp only[aE,aL,bt]at hg;rcases hg with rfl|rfl
     . refine⟨?_,fun s' dX=>⟨rs.length-(i+1),be,i+1,rfl,be,_,dX⟩⟩
       repeat' (first|exact cQ|refine jn ?_ ?_)
       . exact⟨az _,de⟩
       . rw[eI,bj]
       . exact aN V.dm (fD hp)
       . rw[eI,aS,bg];omega
       . decide
       . exact pM be
       . exact fA de be
     . exact absurd (aK (hc _ (aq.2 rfl))) de
   . obtain rfl:i=rs.length:=by omega
     refine fV X6 (Xi rs (strs (d::rs.take rs.length)) _ [] rs.length (rs.length+1) rfl) fun g hg hc=>?_;simp only[aE,aL,bt]at hg;rcases hg with rfl|rfl
     . exact absurd (aH (hc _ (aq.2 rfl))) de
     . refine⟨cQ,fun s' dX=>⟨rfl,[5,10,11,12],?_⟩⟩;rw[dX,aT]
 rintro y s2 ⟨rfl,L,jd⟩;rw[dV];simp only[andThen];refine c6 jd ?_;refine c6 (live:=[5]) (s2:=eG [(5,.di (some (3,0)) (rs.length+1) (rs.length+1) 1)] (hL [(0,.ints .u32 gS),(1,.ints .u32 gR),(3,.deep (strs (d::rs)))]) 4) U ?_;refine xz [3] (A:=[(strs (d::rs)).length=(rs.length+1)*1]) (s2:=eG [(5,.dL false (rs.length+1) (strs (d::rs)))] ((hL [(0,.ints .u32 gS),(1,.ints .u32 gR),(3,.deep (strs (d::rs)))]).set 3 none) 4) U (fun x hx=>?_) ?_
 . rw[aq]at hx;subst hx;rw[eI,bj];rfl
 refine c6 (live:=[5]) (s2:=sN2 (rs.length+1) (strs (d::rs))) U ?_;obtain⟨L5,vY⟩:=ajz (d::rs) (rs.length+1);rw[ic]at vY;refine ia X6 mo _ U vY (dI ?_);refine⟨?_,_,_,_,rfl,rfl⟩
 repeat' (first|exact cQ|refine jn ?_ ?_)
 . first|rfl|trivial
 . first|rfl|trivial
 . first|rfl|trivial
 . first|rfl|trivial
 . omega
 . omega
 . exact hs
end
def Ks:ai->Option (ah×V)
 | [.str d,.dL n cs]=>some ([cs=strs (dF cs),n=(dF cs).length,n<=1000000,(eF (d::dF cs)).length<=1000000000],.str (dJ d (dF cs)))
 |_=>none
theorem Zi:jC ak 45 (tW Ks):=by
 refine Qw (au U) fun args A v e hA=>?_;unfold Ks at e;split at e
 case h_2=>cases e
 rename_i d n cs;simp only[an,aB]at e;obtain⟨rfl,rfl⟩:=e;have e1:cs=strs (dF cs):=hA _ (by simp);have e2:n=(dF cs).length:=hA (n=(dF cs).length) (by simp);have e4:n<=1000000:=hA (n<=1000000) (by simp);have e5:(eF (d::dF cs)).length<=1000000000:=hA ((eF (d::dF cs)).length<=1000000000) (by simp);generalize dF cs=ps at *;subst e1 e2;exact xA Tryz.func45 U U rfl rfl (fb (ajA ps d e4 e5) fun y s h=>jW h)
noncomputable abbrev W7:jJ:=kj 45 (tW Ks) W6
theorem Xj:fU ak W7:=fe Zi Xh
noncomputable abbrev cs7:eX:=gC ak W7 H0 1000 40
noncomputable abbrev X7:CX ak:=CX.of mo po Xj H0 1000 40
noncomputable abbrev Zj:Code:=dU Tryz.f75
noncomputable abbrev T5:Code:=dh 3 Zj
noncomputable abbrev adw:Code:=dO T5
noncomputable abbrev Zk:Code:=dY T5
section
variable(u:Int)
def sV0:St:=eG [(3,.di none 0 0 0),(4,.int .u64 u)] (hL []) 3
def Qx(o:O)(cN:Nat):St:=eG [(3,.di (some (3,0)) cN cN 1),(4,.int .u64 u)] (hL [(3,o)]) 4
theorem ajB(n:Int):c5 cs7 [(6,.c9 (.int .u64 n))] 3 Tryz.f75 [3,4] (eR 3 Zj) (cR [.int .i64 n] .nil 3) [([],
   [(V.int IntKind.u64 (IntKind.u64.wrap n)=V.int IntKind.u64 n)],
   .to .normal (eG [(3,.di none 0 0 0),(4,.int .u64 n)] (hL []) 3))]
 :=cP.of U U U
theorem ajC:c5 cs7 [] 3 Tryz.f75 [] (Zk) (sV0 u) [([],
   [],
   .ret (.str ([UInt8.ofNat (IntKind.u8.wrap u).toNat])) (hL []) 3)]
 :=cP.of U U U
theorem ajD(ks:List Int)(cN:Nat):c5 cs7 [] 3 Tryz.f75 [] (Zk) (Qx u (.own .u8 ks) cN) [([],
   [(0<cN),(0+cN*1<=ks.length),(0<1),(eP (cN+1) 1 1=true),(0+(cN+1)<=(List.take (cN*1) (List.drop 0 ks)++[IntKind.u8.wrap u]).length)],
   .ret (.str (eM (List.take (cN+1) (List.drop 0 (List.take (cN*1) (List.drop 0 ks)++[IntKind.u8.wrap u]))))) (hL []) 3)]
 :=cP.of U U U
end
def Tb(u:Int):Int:=IntKind.u8.wrap (Int.ofNat (BitVec.ofInt 8 (IntKind.u8.wrap u)|||BitVec.ofInt 8 (128:Int)).toNat)
def Zl(u:Int):Int:=IntKind.u8.wrap u
def oc:Nat->Int->List Int
 |0,u=>[Zl u]
 |k+1,u=>if 128<=u then Tb u::oc k (u.fdiv 128)else[Zl u]
def jj(n:Int):aa:=eM (oc 4 n)
theorem Qy{k:Nat}{u:Int}(h:¬128<=u):oc k u=[Zl u]:=by
 cases k with
 |zero=>rfl
 |succ k=>show(if 128<=u then _ else _)=_;rw[aI h]
theorem CO:∀(k:Nat) (u:Int),0<(oc k u).length/\(oc k u).length<=k+1
 |0,u=>by simp[oc]
 |k+1,u=>by
  have:=CO k (u.fdiv 128);show 0<(if 128<=u then _ else _:List Int).length/\(if 128<=u then _ else _:List Int).length<=_;split
  . simp only[aS];omega
  . simp only[aS,bO];omega
theorem l8(n:Int):0<(jj n).length/\(jj n).length<=5:=by
 have:=CO 4 n;unfold jj eM;rw[aY];exact this
theorem ady(u:Int):c5 cs7 [(8,.split)] 3 Tryz.f75 [3,4] (dr (dr adw)) (sV0 u) [([((decide (u>=(128:Int))),true)],[],.to .normal (Qx (u.fdiv 128) (.cells [.int .u8 (Tb u)]) 1)),
   ([((decide (u>=(128:Int))),false)],[],.to (.exit 0) (sV0 u))]:=cP.of U U U
theorem adz(u:Int)(ks ks2:List Int)(cN:Nat)(h:List.take (cN*1) (List.drop 0 ks)++[Tb u]=ks2):c5 cs7 [(8,.split)] 3 Tryz.f75 [3,4] (dr (dr adw)) (Qx u (.own .u8 ks) cN) [([((decide (u>=(128:Int))),true)],[(0<cN),(0+cN*1<=ks.length),(0<1),(eP (cN+1) 1 1=true)],.to .normal (Qx (u.fdiv 128) (.own .u8 ks2) (cN+1))),
   ([((decide (u>=(128:Int))),false)],[],.to (.exit 0) (Qx u (.own .u8 ks) cN))]:=by
 subst h;exact cP.of U U U
def VaS(ks:List Int)(u:Int)(s:St):Prop:=(ks=[]/\∃L,eU 3 L s=some (sV0 u))\/(0<ks.length/\∃L,eU 3 L s=some (Qx u (.own .u8 ks) ks.length))\/(∃x,ks=[x]/\∃L,eU 3 L s=some (Qx u (.cells [.int .u8 x]) 1))
def VaI(n:Int)(k:Nat)(s:St):Prop:=∃ks u,0<=u/\u<128^(k+1)/\ks.length+k<=10/\ks++oc k u=oc 4 n/\VaS ks u s
def VaE(n:Int)(s:St):Prop:=∃ks u,ks.length<=10/\ks++[Zl u]=oc 4 n/\VaS ks u s
theorem ajE(n:Int)(h0:0<=n)(hn:n<1000000000):TG ak 3 Tryz.f75.ntmps Zj (cR [.int .i64 n] .nil 3) (fB ak 3 Tryz.f75 fun u _ _=>u= .str (jj n)):=by
 refine iJ  3 X7 (ajB n) (fun p hp=>?_) ?_
 . rw[aq]at hp;subst hp;have:IntKind.u64.wrap n=n:=by
    unfold IntKind.wrap;have e1:(2^IntKind.u64.bits:Int)=18446744073709551616:=by decide
    have e3:IntKind.u64.signed=false:=rfl;simp only[e1,e3,Bool.false_and,aO,cF];omega
   rw[this]
 show TG ak 3 Tryz.f75.ntmps T5 (sV0 n) _;refine cV U ?_;refine fh (i:=0) U (fb (Q1:=fun z s'=>z= .exit 0/\VaE n s') (gh (VaI n) U ?_ 4 ⟨[],n,h0,be,dN,rfl,.inl ⟨rfl,[3,4],U⟩⟩) ?_)
 . rintro k s1 ⟨ks,u,hu0,hu,hl,hv,hs⟩;have key:∀hk:128<=u,∃j,k=j+1/\0<=u.fdiv 128/\u.fdiv 128<128^(j+1)/\(ks++[Tb u])++oc j (u.fdiv 128)=oc 4 n:=by
    intro hk;cases k with
    |zero=>simp at hu;omega
    |succ j=>
     have ed:u.fdiv 128=u/128:=cJ _ dN;refine⟨j,rfl,by rw[ed];omega,?_,?_⟩
     . rw[ed];have:(128:Int)^(j+1+1)=128^(j+1)*128:=Int.pow_succ ..;rw[this]at hu;exact Int.ediv_lt_of_lt_mul dN hu
     . rw[<- hv];show _=ks++(if 128<=u then _ else _);rw[aG hk];simp
   have Ep:∀hk:¬128<=u,ks++[Zl u]=oc 4 n:=fun hk=>by rw[<- hv,Qy hk]
   have own:∀s2,0<ks.length->s2=Qx u (.own .u8 ks) ks.length->TG ak 3 Tryz.f75.ntmps (dr (dr (dO T5))) s2 (andThen (fun s'=>∃k',k'<k/\VaI n k' s') fun z s'=>z= .exit 0/\VaE n s'):=by
    rintro s2 mz rfl;refine fV X7 (adz u ks (ks++[Tb u]) ks.length (by rw[bu,bj,aT])) fun g hg hc=>?_;simp only[aE,aL,bt]at hg;rcases hg with rfl|rfl
    . have hk:128<=u:=aH (hc _ (aq.2 rfl));obtain⟨j,rfl,a1,a2,a3⟩:=key hk;have G2:(ks++[Tb u]).length+j<=10:=by
       clear a2 hu;rw[ax,aS,bO];omega
      refine⟨?_,fun s' dX=>⟨j,Nat.lt_succ_self j,_,_,a1,a2,G2,a3,.inr (.inl ⟨by simp,[3,4],by rw[dX,ax];rfl⟩)⟩⟩
      repeat' (first|exact cQ|refine jn ?_ ?_)
      . exact mz
      . omega
      . decide
      . exact ji be
    . have hk:¬128<=u:=aK (hc _ (aq.2 rfl));exact⟨cQ,fun s' dX=>⟨rfl,ks,u,be,Ep hk,.inr (.inl ⟨mz,_,dX⟩)⟩⟩
   rcases hs with⟨rfl,L,hs⟩|⟨mz,L,hs⟩|⟨x,rfl,L,hs⟩
   . refine c6 hs ?_;refine fV X7 (ady u) fun g hg hc=>?_;simp only[aE,aL,bt]at hg;rcases hg with rfl|rfl
     . have hk:128<=u:=aH (hc _ (aq.2 rfl));obtain⟨j,rfl,a1,a2,a3⟩:=key hk;have G2:[Tb u].length+j<=10:=by
        clear a2 hu;simp only[aS,bO]at hl ⊢;omega
       exact⟨cQ,fun s' dX=>⟨j,Nat.lt_succ_self j,_,_,a1,a2,G2,a3,.inr (.inr ⟨_,rfl,_,dX⟩)⟩⟩
     . have hk:¬128<=u:=aK (hc _ (aq.2 rfl));exact⟨cQ,fun s' dX=>⟨rfl,[],u,dN,Ep hk,.inl ⟨rfl,_,dX⟩⟩⟩
   . exact c6 hs (own _ mz rfl)
   . refine c6 hs ?_;refine tw [(3,.u8)] (s2:=Qx u (.own .u8 [x]) 1) U ?_;exact own _ Nat.zero_lt_one rfl
 rintro y s2 ⟨rfl,ks,u,hl,hv,hs⟩;rw[dV];simp only[andThen];have own:∀s2,0<ks.length->s2=Qx u (.own .u8 ks) ks.length->TG ak 3 Tryz.f75.ntmps Zk s2 (fB ak 3 Tryz.f75 fun u _ _=>u= .str (jj n)):=by
  rintro s2 mz rfl;refine fu X7 (ajD u ks ks.length) (dI ?_);have e:List.take (ks.length*1) (List.drop 0 ks)++[IntKind.u8.wrap u]=oc 4 n:=by rw[bu,bj,aT];exact hv
  have el:(oc 4 n).length=ks.length+1:=by rw[<- hv,ax];rfl
  rw[e];refine⟨?_,_,_,_,rfl,?_⟩
  . repeat' (first|exact cQ|refine jn ?_ ?_)
    . exact mz
    . omega
    . decide
    . exact ji be
    . omega
  . unfold jj;rw[bu,<- el,aT]
 rcases hs with⟨rfl,L,hs⟩|⟨mz,L,hs⟩|⟨x,rfl,L,hs⟩
 . refine c6 hs ?_;refine fu X7 (ajC u) (dI ?_);refine⟨cQ,_,_,_,rfl,?_⟩;unfold jj;rw[<- hv];rfl
 . exact c6 hs (own _ mz rfl)
 . refine c6 hs ?_;refine tw [(3,.u8)] (s2:=Qx u (.own .u8 [x]) 1) U ?_;exact own _ Nat.zero_lt_one rfl
def Kt:ag->Option (ah×V)
 | [.int .i64 n]=>some ([0<=n/\n<1000000000],.str (jj n))
 |_=>none
theorem Zm:jC ak 75 (jG Kt):=by
 refine jV (au U) fun args A v e=>?_;unfold Kt at e;split at e
 . obtain⟨rfl,rfl⟩:=eY e;exact⟨rfl,U,fun hA=>gM mo po Tryz.func75 U U rfl (ajE _ (hA _ (aq.2 rfl)).1 (hA _ (aq.2 rfl)).2)⟩
 . cases e
noncomputable abbrev W8:jJ:=kj 75 (jG Kt) W7
theorem Xk:fU ak W8:=fe Zm Xj
noncomputable abbrev cs8:eX:=gC ak W8 H0 1000 40
noncomputable abbrev X8:CX ak:=CX.of mo po Xk H0 1000 40
noncomputable abbrev Zn:Code:=dU Tryz.f122
noncomputable abbrev Zo:Code:=dh 1 Zn
noncomputable abbrev adA:Code:=dO Zo
noncomputable abbrev ajF:Code:=dY Zo
noncomputable abbrev Zp:Code:=dU Tryz.f99
noncomputable abbrev Zq:Code:=dh 4 Zp
noncomputable abbrev adB:Code:=dO Zq
noncomputable abbrev ajG:Code:=dY Zq
def Xl(c:Int):Int:=nj (c.fdiv 2) (w32 (3988292384*Ad c 1))
def sT0(o:O):St:=eG [(0,.ptr (some (3,0)))] (hL [(3,o)]) 4
section
variable(s:aa)(ws:List Int)(i:Nat)
def Xm:St:=eG [(0,.ptr (some (3,0))),(3,.int .i64 (Int.ofNat i))] (hL [(3,.own .u32 ws)]) 4
def Zr:V:=.agg ((List.range 256).map fun j=>.int .u32 (ws.getD j 0))
def sU0(c:Int)(o:O):St:=eG [(0,.str s),(4,.ptr (some (3,0))),(5,.fn (.func 123) [] [.ptr (some (4,0)),.ptr (some (3,0))])] (hL [(3,.cells [.int .u32 c]),(4,o)]) 5
def Zs(c:Int)(ws:List Int)(i:Nat):St:=eG [(0,.str s),(4,.ptr (some (3,0))),(5,.fn (.func 123) [] [.ptr (some (4,0)),.ptr (some (3,0))]),(10,.int .i64 (Int.ofNat s.length)),(11,.int .i64 (Int.ofNat i))] (hL [(3,.cells [.int .u32 c]),(4,.own .u32 ws)]) 5
def Zt:Int:=Xl (Xl (Xl (Xl (Xl (Xl (Xl (Xl (w32 (Int.ofNat i)))))))))
theorem ajH:cP ak cs8 [] 1000 3 Tryz.f122 [0] (eR 1 Zn) (cR [] .nil 3) [] [([],[],.to .normal (sT0 (.cells (List.replicate 256 (.int .u32 0)))))]:=by
 unfold cP;kernel_rfl
theorem Zu:Kc [(3,.u32)] (sT0 (.cells (List.replicate 256 (.int .u32 0))))=some (sT0 (.own .u32 (List.replicate 256 0))):=by kernel_rfl
theorem ajI:c5 cs8 [(3,.c9 (.int .i64 (Int.ofNat 0)))] 3 Tryz.f122 [0,3] (dO adA) (sT0 (.own .u32 ws)) [([],[V.int .i64 0=V.int .i64 0],.to .normal (Xm ws 0))]:=
 cP.of U U U
theorem ajJ:c5 cs8 [(4,.split),(20,.c9 (.int .i64 (Int.ofNat (i+1))))] 3 Tryz.f122 [0,3] (dr (dr (dY adA))) (Xm ws i) [([(decide (Int.ofNat i<256),true)],[0<=Int.ofNat i/\Int.ofNat i<256,0+i*1+1<=ws.length,kM (Int.ofNat i+1) (i+1)],.to .normal (Xm (fM ws (0+i*1) [Zt i]) (i+1))),
   ([(decide (Int.ofNat i<256),false)],[],.to (.exit 0) (Xm ws i))]:=
 cP.of U U U
theorem ajK:c5 cs8 [] 3 Tryz.f122 [] ajF (Xm ws i) [([],[256<=ws.length,256<=ws.length],.ret (Zr ws) (hL []) 3)]:=
 cP.of U U U
theorem ajL(c:Int)(ws:List Int):c5 cs8 [(11,.c9 (.int .i64 (Int.ofNat 0)))] 3 Tryz.f99 [0,4,5,10,11] (dO adB) (sU0 s c (.own .u32 ws)) [([],
   [(V.int aj (0:Int)=V.int aj (0:Int))],
   .to .normal (eG [(0,.str (s)),(4,.ptr (some (3,0))),(5,.fn (.func 123) [] [.ptr (some (4,0)),.ptr (some (3,0))]),(10,.int .i64 ((Int.ofNat s.length))),(11,.int .i64 0)] (hL [(3,.cells [.int .u32 c]),(4,.own .u32 (ws))]) 5))]
 :=cP.of U U U
theorem ajM(c:Int)(ws:List Int)(i:Nat):c5 cs8 [] 3 Tryz.f99 [] (ajG) (Zs s c ws i) [([],
   [],
   .ret (.int .u32 (IntKind.u32.wrap (Int.ofNat (BitVec.ofInt 32 (4294967295:Int)^^^BitVec.ofInt 32 c).toNat))) (hL []) 3)]
 :=cP.of U U U
end
def Ku:Nat->List Int
 |0=>List.replicate 256 0
 |i+1=>fM (Ku i) (0+i*1) [Zt i]
theorem CP:∀i,i<=256->(Ku i).length=256
 |0,_=>bJ ..
 |i+1,h=>by
  have ih:=CP i be;show(fM (Ku i) (0+i*1) [Zt i]).length=256;rw[CM (by simp only[aS,bO];omega),ih]
def yV:List Int:=Ku 256
theorem ajN:TG ak 3 Tryz.f122.ntmps Zn (cR [] .nil 3) (fB ak 3 Tryz.f122 fun u _ _=>u=Zr yV):=by
 have hO:∀n:Nat,Int.ofNat n=(n:Int):=fun _=>rfl;refine nh 1 X8 mo U ajH cQ ?_;refine tw _ Zu ?_;show TG ak 3 Tryz.f122.ntmps Zo _ _;refine cV U ?_;refine cV U ?_;refine fV X8 (ajI (List.replicate 256 0)) (dI ?_);refine⟨fun p hp=>by rw[aq]at hp;subst hp;rfl,fun s' dX=>?_⟩;have dX:eU 3 [0,3] s'=some (Xm (Ku 0) 0):=dX;refine fh (i:=0) U (fb (Q1:=fun z s'=>z= .exit 0/\∃L,eU 3 L s'=some (Xm yV 256)) (gh (fun k' s=>∃i,k'=256-i/\i<=256/\∃L,eU 3 L s=some (Xm (Ku i) i)) U ?_ 256 ⟨0,rfl,aW _,_,dX⟩) ?_)
 . rintro k' s1 ⟨i,hk,hi,L,fP⟩;refine c6 fP ?_;refine fV X8 (ajJ (Ku i) i) fun g hg hc=>?_;simp only[aE,aL,bt]at hg;rcases hg with rfl|rfl
   . have fE:i<256:=by
      have:=aH (hc _ (aq.2 rfl));rw[hO]at this;omega
     have hl:=CP i hi;refine⟨?_,fun s' dX=>⟨256-(i+1),be,i+1,rfl,be,_,dX⟩⟩
     repeat' (first|exact cQ|refine jn ?_ ?_)
     . exact⟨az _,de⟩
     . omega
     . exact fA de be
   . have zO:¬i<256:=by
      have:=aK (hc _ (aq.2 rfl));rw[hO]at this;omega
     obtain rfl:i=256:=by omega
     exact⟨cQ,fun s' dX=>⟨rfl,_,dX⟩⟩
 rintro y s2 ⟨rfl,L,jd⟩;rw[dV];simp only[andThen];refine c6 jd ?_;refine fu X8 (ajK yV 256) (dI ?_);have hl:yV.length=256:=CP 256 (aA _);refine⟨?_,_,_,_,rfl,rfl⟩
 repeat' (first|exact cQ|refine jn ?_ ?_)
 . omega
 . omega
def Kv:ag->Option (ah×V)
 | []=>some ([],Zr yV)
 |_=>none
theorem Zv:jC ak 122 (jG Kv):=by
 refine jV (au U) fun args A v e=>?_;unfold Kv at e;split at e
 . obtain⟨rfl,rfl⟩:=eY e;exact⟨rfl,U,fun hA=>gM mo po Tryz.func122 U U rfl ajN⟩
 . cases e
noncomputable abbrev W9:jJ:=kj 122 (jG Kv) W8
theorem Xn:fU ak W9:=fe Zv Xk
noncomputable abbrev cs9:eX:=gC ak W9 H0 1000 40
noncomputable abbrev X9:CX ak:=CX.of mo po Xn H0 1000 40
section
variable(ws:List Int)(s:aa)
theorem ajO:c5 cs9 [] 3 Tryz.f99 [0,4,5] (eR 4 Zp) (cR [.str s] .nil 3) [([],[],.to .normal (sU0 s 4294967295 (.cells ((List.range 256).map fun j=>.int .u32 (yV.getD j 0)))))]:=
 cP.of U U U
def w256:List Int:=(List.range 256).map fun j=>ws.getD j 0
theorem Qz:(w256 ws).length=256:=by unfold w256;rw[aY,List.length_range]
theorem Zw(c:Int):Kc [(4,.u32)] (sU0 s c (.cells ((List.range 256).map fun j=>.int .u32 (yV.getD j 0))))=some (sU0 s c (.own .u32 (w256 yV))):=by
 kernel_rfl
def Kw(c:Int)(b:UInt8):Int:=IntKind.u8.wrap (Int.ofNat (BitVec.ofInt 8 (IntKind.u8.wrap c)^^^BitVec.ofInt 8 (Int.ofNat b.toNat)).toNat)
def adC(c:Int)(b:UInt8):Int:=nj (ws.getD (0+(Kw c b).toNat*1) 0) (c.fdiv 256)
end
def CQ(ws:List Int)(s:aa):Nat->Int
 |0=>4294967295
 |i+1=>adC ws (CQ ws s i) (s.getD i 0)
section
variable(s:aa)
def qB:Int:=nj 4294967295 (CQ (w256 yV) s s.length)
theorem adD(c:Int)(ws:List Int)(i:Nat):c5 cs9 [(12,.split),(19,.c9 (.int .i64 (Int.ofNat (i+1))))] 3 Tryz.f99 [0,4,5,10,11] (dr (dr (dY adB))) (Zs s c ws i) [([(decide (Int.ofNat i<Int.ofNat s.length),true)],[0<=Int.ofNat i/\(Int.ofNat i).toNat<s.length,0<=Kw c (s.getD i 0)/\Kw c (s.getD i 0)<256,0+(Kw c (s.getD i 0)).toNat*1<ws.length,kM (Int.ofNat i+1) (i+1)],.to .normal (Zs s (adC ws c (s.getD i 0)) ws (i+1))),
   ([(decide (Int.ofNat i<Int.ofNat s.length),false)],[],.to (.exit 0) (Zs s c ws i))]:=
 cP.of U U U
theorem T6(c:Int)(b:UInt8):0<=Kw c b/\Kw c b<256:=by
 unfold Kw IntKind.wrap;have e1:(2^IntKind.u8.bits:Int)=256:=by decide
 have e3:IntKind.u8.signed=false:=rfl;simp only[e1,e3,Bool.false_and,aO,cF];omega
theorem ajP(hs:s.length<1000000000):TG ak 3 Tryz.f99.ntmps Zp (cR [.str s] .nil 3) (fB ak 3 Tryz.f99 fun u _ _=>u= .int .u32 (qB s)):=by
 have hO:∀n:Nat,Int.ofNat n=(n:Int):=fun _=>rfl;refine iJ  4 X9 (ajO s) cQ ?_;refine tw _ (Zw s 4294967295) ?_;show TG ak 3 Tryz.f99.ntmps Zq _ _;have hw:=Qz yV;unfold qB;generalize w256 yV=ws at hw ⊢;refine cV U ?_;refine cV U ?_;refine fV X8 (ajL s 4294967295 ws) (dI ?_);refine⟨fun p hp=>by rw[aq]at hp;subst hp;rfl,fun s' dX=>?_⟩;have dX:eU 3 [0,4,5,10,11] s'=some (Zs s (CQ ws s 0) ws 0):=dX;refine fh (i:=0) U (fb (Q1:=fun z s'=>z= .exit 0/\∃L,eU 3 L s'=some (Zs s (CQ ws s s.length) ws s.length)) (gh (fun k' s'=>∃i,k'=s.length-i/\i<=s.length/\∃L,eU 3 L s'=some (Zs s (CQ ws s i) ws i)) U ?_ s.length ⟨0,rfl,aW _,_,dX⟩) ?_)
 . rintro k' s1 ⟨i,hk,hi,L,fP⟩;refine c6 fP ?_;refine fV X9 (adD s (CQ ws s i) ws i) fun g hg hc=>?_;simp only[aE,aL,bt]at hg;rcases hg with rfl|rfl
   . have fE:i<s.length:=by
      have:=aH (hc _ (aq.2 rfl));rw[hO,hO]at this;omega
     have hx:=T6 (CQ ws s i) (s.getD i 0);refine⟨?_,fun s' dX=>⟨s.length-(i+1),be,i+1,rfl,be,_,dX⟩⟩
     repeat' (first|exact cQ|refine jn ?_ ?_)
     . exact⟨az _,fE⟩
     . exact hx
     . omega
     . exact fA de be
   . have zO:¬i<s.length:=by
      have:=aK (hc _ (aq.2 rfl));rw[hO,hO]at this;omega
     obtain rfl:i=s.length:=by omega
     exact⟨cQ,fun s' dX=>⟨rfl,_,dX⟩⟩
 rintro y s2 ⟨rfl,L,jd⟩;rw[dV];simp only[andThen];refine c6 jd ?_;refine fu X8 (ajM s (CQ ws s s.length) ws s.length) (dI ?_);exact⟨cQ,_,_,_,rfl,rfl⟩
end
def Kx:ag->Option (ah×V)
 | [.str s]=>some ([s.length<1000000000],.int .u32 (qB s))
 |_=>none
theorem Zx:jC ak 99 (jG Kx):=by
 refine jV (au U) fun args A v e=>?_;unfold Kx at e;split at e
 . obtain⟨rfl,rfl⟩:=eY e;exact⟨rfl,U,fun hA=>gM mo po Tryz.func99 U U rfl (ajP _ (hA _ (aq.2 rfl)))⟩
 . cases e
noncomputable abbrev W10:jJ:=kj 99 (jG Kx) W9
theorem QA:fU ak W10:=fe Zx Xn
noncomputable abbrev Zy:eX:=gC ak W10 H0 1000 40
noncomputable abbrev X10:CX ak:=CX.of mo po QA H0 1000 40
noncomputable abbrev Zz:Code:=dU Tryz.f47
noncomputable abbrev ZA:Code:=dh 2 Zz
noncomputable abbrev adE:Code:=dO ZA
noncomputable abbrev ajS:Code:=dY ZA
section
variable(b:aa)(rs:List (aa))
def sR0:St:=eG [(1,.dL false rs.length (strs rs)),(5,.str b)] (hL []) 3
def ZB(i:Nat):St:=eG [(5,.str b),(16,.dL false rs.length (strs rs)),(17,.int .i64 (Int.ofNat rs.length)),(18,.int .i64 (Int.ofNat i))] (hL []) 3
theorem ajT:c5 Zy [] 3 Tryz.f76 [] (dU Tryz.f76) (cR [.str b] .nil 3) [([],
   [((0:Int)<=(Int.ofNat b.length)/\(Int.ofNat b.length)<(1000000000:Int)),((jj (Int.ofNat b.length)).length+b.length<=9223372036854775807),(b.length<1000000000),((jj (Int.ofNat b.length)++b).length+(dK (IntKind.i64.wrap (qB b))).length<=9223372036854775807)],
   .ret (.str (jj (Int.ofNat b.length)++b++dK (IntKind.i64.wrap (qB b)))) (hL []) 3)]
 :=cP.of U U U
theorem ajU(d:aa)(rs:List (aa)):c5 Zy [] 3 Tryz.f47 [1,5] (eR 2 Zz) (cR [.str d,.dL false rs.length (strs rs)] .nil 3) [([],
   [((0:Int)<=(Int.ofNat d.length)/\(Int.ofNat d.length)<(1000000000:Int)),((jj (Int.ofNat d.length)).length+d.length<=9223372036854775807),(1+(jj (Int.ofNat d.length)++d).length<=9223372036854775807),((0:Int)<=(Int.ofNat rs.length)/\(Int.ofNat rs.length)<(1000000000:Int)),((oZ (1:Int)++(jj (Int.ofNat d.length)++d)).length+(jj (Int.ofNat rs.length)).length<=9223372036854775807)],
   .to .normal (eG [(1,.dL false (rs.length) (strs rs)),(5,.str (oZ (1:Int)++(jj (Int.ofNat d.length)++d)++jj (Int.ofNat rs.length)))] (hL []) 3))]
 :=cP.of U U U
theorem ajV:c5 Zy [(18,.c9 (.int .i64 (Int.ofNat 0)))] 3 Tryz.f47 [5,16,17,18] (dO adE) (sR0 b rs) [([],
   [(V.int aj (0:Int)=V.int aj (0:Int))],
   .to .normal (eG [(5,.str (b)),(16,.dL false (rs.length) (strs rs)),(17,.int .i64 ((Int.ofNat rs.length))),(18,.int .i64 0)] (hL []) 3))]
 :=cP.of U U U
end
section
variable(s b n:aa)(rs:List (aa))(i:Nat)
def jl:aa:=jj (Int.ofNat s.length)++s
def nk:aa:=jl b++dK (IntKind.i64.wrap (qB b))
def vh(d:aa)(n:Nat):aa:=oZ 1++jl d++jj (Int.ofNat n)
def gJ(d:aa)(rs:List (aa)):aa:=nk (vh d rs.length++rs.flatten)
def kN(d:aa):aa:=nk (oZ 2++jl n++jl d)
theorem oH:s.length<(jl s).length/\(jl s).length<=s.length+5:=by
 have:=l8 (Int.ofNat s.length);unfold jl;rw[ax];omega
theorem xB:s.length+4<(nk s).length/\(nk s).length<=s.length+9:=by
 have:=oH s;unfold nk;rw[ax];show _<_+4/\_+4<=_;omega
theorem vZ(d:aa)(n:Nat):d.length<(vh d n).length/\(vh d n).length<=d.length+11:=by
 have:=oH d;have h2:=l8 (Int.ofNat n);unfold vh;rw[ax,ax];show _<1+_+_/\1+_+_<=_;omega
theorem Iq(d:aa)(rs:List (aa)):0<(gJ d rs).length/\(gJ d rs).length<=d.length+20+rs.flatten.length:=by
 have h:=xB (vh d rs.length++rs.flatten);have h1:=vZ d rs.length;rw[ax]at h;unfold gJ;omega
theorem QB(d:aa):0<(kN n d).length/\(kN n d).length<=n.length+d.length+20:=by
 have h:=xB (oZ 2++jl n++jl d);have h1:=oH n;have h2:=oH d;rw[ax,ax]at h;have e:(oZ 2).length=1:=rfl;unfold kN;omega
def Ky:ag->Option (ah×V)
 | [.str b]=>some ([b.length<1000000000],.str (nk b))
 |_=>none
theorem ZC:jC ak 76 (jG Ky):=by
 refine jV (au U) fun args A v e=>?_;unfold Ky at e;split at e
 . rename_i b;obtain⟨rfl,rfl⟩:=eY e;refine⟨rfl,U,fun hA=>?_⟩;have hb:b.length<1000000000:=hA _ (aq.2 rfl);have hO:∀n:Nat,Int.ofNat n=(n:Int):=fun _=>rfl;have h1:=l8 (Int.ofNat b.length);obtain⟨L,hr⟩:=ajT b;refine gM mo po Tryz.func76 U U rfl (ia X10 mo _ U hr fun g hg _=>?_);rw[aq]at hg;subst hg;refine⟨?_,_,_,_,rfl,rfl⟩
   repeat' (first|exact cQ|refine jn ?_ ?_)
   . exact⟨az _,de⟩
   . omega
   . exact hb
   . rw[ax];show _+4<=_;omega
 . cases e
noncomputable abbrev W11:jJ:=kj 76 (jG Ky) W10
theorem QC:fU ak W11:=fe ZC QA
noncomputable abbrev ZD:eX:=gC ak W11 H0 1000 40
noncomputable abbrev X11:CX ak:=CX.of mo po QC H0 1000 40
theorem Xo(b2:aa)(rs:List (aa))(p:aa)(i:Nat)(h:b++p=b2):c5 ZD [(19,.split),(20,.c9 (.dm [.str p])),(25,.c9 (.int .i64 (Int.ofNat (i+1))))] 3 Tryz.f47 [5,16,17,18] (dr (dr (dY adE))) (ZB b rs i) [([((decide (Int.ofNat i<Int.ofNat rs.length)),true)],
   [((0:Int)<=Int.ofNat i/\Int.ofNat i<(Int.ofNat rs.length)),((strs rs).length=rs.length*1),(V.dm (dw (strs rs) ((Int.ofNat i).toNat*1) 1)=V.dm [D.str p]),(b.length+p.length<=9223372036854775807),kM (Int.ofNat i+1) (i+1)],
   .to .normal (ZB b2 rs (i+1))),
  ([((decide (Int.ofNat i<Int.ofNat rs.length)),false)],[],.to (.exit 0) (ZB b rs i))]:=by
 subst h;exact cP.of U U U
theorem ajX:c5 ZD [] 3 Tryz.f47 [] ajS (ZB b rs i) [([],[b.length<1000000000],.ret (.str (nk b)) (hL []) 3)]:=
 cP.of U U U
theorem EO{rs:List (aa)}{i:Nat}{p:aa}(h:rs[i]? =some p):(rs.take (i+1)).flatten=(rs.take i).flatten++p:=by
 rw[bI,h,cr];simp
theorem T7:(rs.take i).flatten.length<=rs.flatten.length:=by
 have:rs.flatten=(rs.take i).flatten++(rs.drop i).flatten:=by
  rw[<- cr,ck]
 rw[this,ax];omega
theorem ajY(d:aa)(rs:List (aa))(hd:d.length<=100000000)(M2:rs.length<=1000000)(hf:rs.flatten.length<=100000000):TG ak 3 Tryz.f47.ntmps Zz (cR [.str d,.dL false rs.length (strs rs)] .nil 3)
  (fB ak 3 Tryz.f47 fun u _ _=>u= .str (gJ d rs)):=by
 have hO:∀n:Nat,Int.ofNat n=(n:Int):=fun _=>rfl;have hh:=vZ d rs.length;refine iJ  2 X10 (ajU d rs) ?_ ?_
 . have h1:=l8 (Int.ofNat d.length);have h2:=l8 (Int.ofNat rs.length)
   repeat' (first|exact cQ|refine jn ?_ ?_)
   . exact⟨az _,de⟩
   . omega
   . rw[ax];omega
   . exact⟨az _,de⟩
   . rw[ax,ax];show 1+_+_<=_;omega
 show TG ak 3 Tryz.f47.ntmps ZA (sR0 (vh d rs.length) rs) _;unfold gJ;generalize vh d rs.length=hb at hh ⊢;refine cV U ?_;refine cV U ?_;refine fV X10 (ajV hb rs) (dI ?_);refine⟨fun p hp=>by rw[aq]at hp;subst hp;rfl,fun s' dX=>?_⟩;have dX:eU 3 [5,16,17,18] s'=some (ZB (hb++(rs.take 0).flatten) rs 0):=by rw[dX];simp;rfl
 refine fh (i:=0) U (fb (Q1:=fun z s'=>z= .exit 0/\∃L,eU 3 L s'=some (ZB (hb++rs.flatten) rs rs.length)) (gh (fun k' s=>∃i,k'=rs.length-i/\i<=rs.length/\∃L,eU 3 L s=some (ZB (hb++(rs.take i).flatten) rs i)) U ?_ rs.length ⟨0,rfl,aW _,_,dX⟩) ?_)
 . rintro k' s1 ⟨i,hk,hi,L,fP⟩;refine c6 fP ?_;rcases bN i rs.length with fE|zO
   . obtain⟨p,hp⟩:∃p,rs[i]? =some p:=⟨_,ay fE⟩;have S9:=T7 rs (i+1);rw[EO hp,ax]at S9;refine fV X11 (Xo (hb++(rs.take i).flatten) (hb++(rs.take (i+1)).flatten) rs p i (by rw[EO hp,bz])) fun g hg hc=>?_;simp only[aE,aL,bt]at hg;rcases hg with rfl|rfl
     . refine⟨?_,fun s' dX=>⟨rs.length-(i+1),be,i+1,rfl,be,_,dX⟩⟩
       repeat' (first|exact cQ|refine jn ?_ ?_)
       . exact⟨az _,de⟩
       . rw[eI,bj]
       . exact aN V.dm (fD hp)
       . rw[ax];omega
       . exact fA de be
     . exact absurd (aK (hc _ (aq.2 rfl))) de
   . obtain rfl:i=rs.length:=by omega
     refine fV X11 (Xo (hb++(rs.take rs.length).flatten) _ rs [] rs.length rfl) fun g hg hc=>?_;simp only[aE,aL,bt]at hg;rcases hg with rfl|rfl
     . exact absurd (aH (hc _ (aq.2 rfl))) de
     . refine⟨cQ,fun s' dX=>⟨rfl,[5,16,17,18],?_⟩⟩;rw[dX,aT]
 rintro y s2 ⟨rfl,L,jd⟩;rw[dV];simp only[andThen];refine c6 jd ?_;refine fu X11 (ajX (hb++rs.flatten) rs rs.length) (dI ?_);refine⟨fun p hp=>?_,_,_,_,rfl,rfl⟩;rw[aq]at hp;subst hp;rw[ax];omega
def Kz:ai->Option (ah×V)
 | [.str d,.dL n cs]=>some ([cs=strs (dF cs),n=(dF cs).length,d.length<=100000000,n<=1000000,(dF cs).flatten.length<=100000000],.str (gJ d (dF cs)))
 |_=>none
theorem ZE:jC ak 47 (dW Kz):=by
 refine vc (au U) fun args A v e hA=>?_;unfold Kz at e;split at e
 case h_2=>cases e
 rename_i d n cs;simp only[an,aB]at e;obtain⟨rfl,rfl⟩:=e;have e1:cs=strs (dF cs):=hA _ (by simp);have e2:n=(dF cs).length:=hA (n=(dF cs).length) (by simp);have e3:d.length<=100000000:=hA (d.length<=100000000) (by simp);have e4:n<=1000000:=hA (n<=1000000) (by simp);have e5:(dF cs).flatten.length<=100000000:=hA ((dF cs).flatten.length<=100000000) (by simp);generalize dF cs=ps at *;subst e1 e2;exact gO mo po Tryz.func47 U U rfl rfl (fb (ajY d ps e3 e4 e5) fun y s h=>jW h)
def KA:ag->Option (ah×V)
 | [.str n,.str d]=>some ([n.length<100000000,d.length<100000000],.str (kN n d))
 |_=>none
theorem ajZ(d:aa):c5 ZD [] 3 Tryz.f49 [] (dU Tryz.f49) (cR [.str n,.str d] .nil 3) [([],[0<=Int.ofNat n.length/\Int.ofNat n.length<1000000000,(jj (Int.ofNat n.length)).length+n.length<=9223372036854775807,1+(jj (Int.ofNat n.length)++n).length<=9223372036854775807,0<=Int.ofNat d.length/\Int.ofNat d.length<1000000000,(jj (Int.ofNat d.length)).length+d.length<=9223372036854775807,(oZ 2++(jj (Int.ofNat n.length)++n)).length+(jj (Int.ofNat d.length)++d).length<=9223372036854775807,(oZ 2++(jj (Int.ofNat n.length)++n)++(jj (Int.ofNat d.length)++d)).length<1000000000],.ret (.str (kN n d)) (hL []) 3)]:=
 cP.of U U U
theorem ZF:jC ak 49 (jG KA):=by
 refine jV (au U) fun args A v e=>?_;unfold KA at e;split at e
 . rename_i n d;obtain⟨rfl,rfl⟩:=eY e;refine⟨rfl,U,fun hA=>?_⟩;have hn:n.length<100000000:=hA _ (by simp);have hd:d.length<100000000:=hA (d.length<100000000) (by simp);have hO:∀n:Nat,Int.ofNat n=(n:Int):=fun _=>rfl;have h1:=l8 (Int.ofNat n.length);have h2:=l8 (Int.ofNat d.length);obtain⟨L,hr⟩:=ajZ n d;refine gM mo po Tryz.func49 U U rfl (ia X11 mo _ U hr fun g hg _=>?_);rw[aq]at hg;subst hg;refine⟨?_,_,_,_,rfl,rfl⟩;have e1:(oZ 2).length=1:=rfl
   repeat' (first|exact cQ|refine jn ?_ ?_)
   . exact⟨az _,de⟩
   . omega
   . rw[ax];omega
   . exact⟨az _,de⟩
   . omega
   . simp only[ax,e1];omega
   . simp only[ax,e1];omega
 . cases e
noncomputable abbrev W12:jJ:=kj 49 (jG KA) (kj 47 (dW Kz) W11)
end
theorem QD:fU ak W12:=fe ZF (fe ZE QC)
noncomputable abbrev T8:eX:=gC ak W12 H0 1000 40
noncomputable abbrev X12:CX ak:=CX.of mo po QD H0 1000 40
end Go.Proofs.YtfihojpgobmmdaaGreatDoor
