/- The Chunk laws: a record applied: pieces. No conditions. -/
import Derived.Test.YtfihojpgobmmdaaGreatDoorJointW09
import Derived.Test.YtfihojpgobmmdaaGreatDoorJointW10
set_option linter.unusedVariables false
set_option linter.unusedSimpArgs false
set_option linter.unusedSectionVars false
set_option maxRecDepth 20000
namespace Go.Proofs.YtfihojpgobmmdaaGreatDoor
open Go Go.Eng
noncomputable abbrev KN:Code:=dU Tryz.f83
noncomputable abbrev KO:Code:=dr (dh 2 KN)
noncomputable abbrev IB:Code:=LM (dY KO)
def Un:aa:=[1,1,121,1]++dA
section
variable(cN cO:Nat)(b:aa)(fl nx lf:Int)(es rt:ae)
theorem aki:c5 (kW []) [] 7 Tryz.f83 [0,4,11] (eR 2 KN) (cR [.ptr (some (3,0)),.str Un] (eu (pS cN cO b fl nx lf es rt)) 7) [([],
   [((0:Int)<=(1:Int)/\(1:Int)<=(36:Int)),((0:Int)<=(0:Int)/\(0:Int)<=(1:Int)),((0:Int)<=(0:Int)/\(0:Int)<(1:Int)),(0<1)],
   .to .normal (eG [(0,.ptr (some (3,0))),(4,.ptr (some (7,0))),(11,.int .i64 1)] (hL [(0,.ints .u32 gS),(1,.ints .u32 gR),(3,.cells [.di (some (4,0)) cN cO 1,.int .i64 ((pS cN cO b fl nx lf es rt).fl),.map (some 5),.map (some 6),.int .i64 ((pS cN cO b fl nx lf es rt).nx),.bool false,.bool false,.int .i64 ((pS cN cO b fl nx lf es rt).lf)]),(4,.iS 5 false (b)),(5,.dD none ((pS cN cO b fl nx lf es rt).es)),(6,.dD none ((pS cN cO b fl nx lf es rt).rs)),(7,.cells [.str [1,1,121,1,2,143,13,245,184,89,111,188,209,12,151,32,183,164,120,79,142,126,4,246,41,189,90,98,191,189,241,57,103,139,102,36],.int .i64 1,.bool false])]) 8))]
 :=cP.of U U U
def IC(fr:List (Nat×V))(QX:af)(n:Nat)(cN cO:Nat)(b:aa)(fl nx lf:Int)(es rt:ae):St:=eG fr (hL (eN (pS cN cO b fl nx lf es rt)++QX)) n
theorem akj:c5 (kW []) [] 7 Tryz.f83 [0,4,12] (dO KO) (IC [(0,.ptr (some (3,0))),(4,.ptr (some (7,0))),(11,.int .i64 1)] [(7,.cells [.str Un,.int .i64 1,.bool false])] 8 cN cO b fl nx lf es rt) [([],
   [],
   .to .normal (eG [(0,.ptr (some (3,0))),(4,.ptr (some (7,0))),(12,.bool true)] (hL [(0,.ints .u32 gS),(1,.ints .u32 gR),(3,.cells [.di (some (4,0)) cN cO 1,.int .i64 ((pS cN cO b fl nx lf es rt).fl),.map (some 5),.map (some 6),.int .i64 ((pS cN cO b fl nx lf es rt).nx),.bool false,.bool false,.int .i64 ((pS cN cO b fl nx lf es rt).lf)]),(4,.iS 5 false (b)),(5,.dD none ((pS cN cO b fl nx lf es rt).es)),(6,.dD none ((pS cN cO b fl nx lf es rt).rs)),(7,.cells [.str [1,1,121,1,2,143,13,245,184,89,111,188,209,12,151,32,183,164,120,79,142,126,4,246,41,189,90,98,191,189,241,57,103,139,102,36],.int .i64 1,.bool false])]) 8))]
 :=cP.of U U U
theorem akk:c5 (kW []) [] 7 Tryz.f83 [0,4,5,6] (eR 2 IB) (IC [(0,.ptr (some (3,0))),(4,.ptr (some (7,0))),(12,.bool true)] [(7,.cells [.str Un,.int .i64 1,.bool false])] 8 cN cO b fl nx lf es rt) [([],
   [((0:Int)<=(1:Int)/\1<36),((0:Int)<=(3:Int)/\(3:Int)<=(36:Int)),((0:Int)<=(2:Int)/\(2:Int)<=(3:Int))],
   .to .normal (eG [(0,.ptr (some (3,0))),(4,.ptr (some (7,0))),(5,.str [121]),(6,.di none 0 0 0)] (hL [(0,.ints .u32 gS),(1,.ints .u32 gR),(3,.cells [.di (some (4,0)) cN cO 1,.int .i64 ((pS cN cO b fl nx lf es rt).fl),.map (some 5),.map (some 6),.int .i64 ((pS cN cO b fl nx lf es rt).nx),.bool false,.bool false,.int .i64 ((pS cN cO b fl nx lf es rt).lf)]),(4,.iS 5 false (b)),(5,.dD none ((pS cN cO b fl nx lf es rt).es)),(6,.dD none ((pS cN cO b fl nx lf es rt).rs)),(7,.cells [.str [1,1,121,1,2,143,13,245,184,89,111,188,209,12,151,32,183,164,120,79,142,126,4,246,41,189,90,98,191,189,241,57,103,139,102,36],.int .i64 3,.bool false])]) 8))]
 :=cP.of U U U
theorem akl:c5 (kW []) [] 7 Tryz.f83 [0,5,6] (dO (dh 2 IB)) (IC [(0,.ptr (some (3,0))),(4,.ptr (some (7,0))),(5,.str [121]),(6,.di none 0 0 0)] [(7,.cells [.str Un,.int .i64 3,.bool false])] 8 cN cO b fl nx lf es rt) [([],
   [((0:Int)<=(3:Int)/\3<36),((0:Int)<=(36:Int)/\(36:Int)<=(36:Int)),((0:Int)<=(4:Int)/\(4:Int)<=(36:Int))],
   .to .normal (eG [(0,.ptr (some (3,0))),(5,.str [121]),(6,.di (some (7,0)) 1 1 1)] (hL [(0,.ints .u32 gS),(1,.ints .u32 gR),(3,.cells [.di (some (4,0)) cN cO 1,.int .i64 ((pS cN cO b fl nx lf es rt).fl),.map (some 5),.map (some 6),.int .i64 ((pS cN cO b fl nx lf es rt).nx),.bool false,.bool false,.int .i64 ((pS cN cO b fl nx lf es rt).lf)]),(4,.iS 5 false (b)),(5,.dD none ((pS cN cO b fl nx lf es rt).es)),(6,.dD none ((pS cN cO b fl nx lf es rt).rs)),(7,.cells [.str [2,143,13,245,184,89,111,188,209,12,151,32,183,164,120,79,142,126,4,246,41,189,90,98,191,189,241,57,103,139,102,36]])]) 8))]
 :=cP.of U U U
end
section
variable(cN cO:Nat)(b:aa)(fl nx lf:Int)(es rt:ae)
noncomputable abbrev stE:St:=eG [(0,.ptr (some (3,0))),(5,.str [121]),(6,.dL false 1 [.str dA])] (hL (eN (pS cN cO b fl nx lf es rt))) 7
def Uo(key:aa):Tr O:=eu (pS cN cO b fl (IntKind.i64.wrap (nx+1)) lf (gY (.str key) (pO [121] [dA] nx) es) rt)
theorem akm:vj ak (kW []) [] 1000 7 Tryz.f83 (dY (dh 2 IB)) (stE cN cO b fl nx lf es rt)
  [([],[gS=gS,gR=gR,[D.str dA]=strs (dF [.str dA]),1=(dF [.str dA]).length,1<=1000000,(eF ([121]::dF [.str dA])).length<=1000000000,0<1,[D.str dA].length=1,1<=1000000],.ret (.eo []) (Uo cN cO b fl nx lf es rt (dJ [121] (dF [.str dA]))) 7)]:=
 ⟨U,U,U⟩
theorem akn:TG ak 7 Tryz.f83.ntmps KN (cR [.ptr (some (3,0)),.str Un] (eu (pS cN cO b fl nx lf es rt)) 7) (fB ak 7 Tryz.f83 fun v h n=>v= .eo []/\h=Uo cN cO b fl nx lf es rt dB/\n=7):=by
 refine iJ  2 (XQ []) (aki cN cO b fl nx lf es rt) ?_ ?_
 . repeat' (first|exact cQ|refine jn ?_ ?_)
   all_goals first|decide|trivial
 refine fh (i:=0) U ?_;refine fb (Q1:=fB ak 7 Tryz.f83 fun v h n=>v= .eo []/\h=Uo cN cO b fl nx lf es rt dB/\n=7) ?_ fun y s h=>xE h;show TG ak 7 Tryz.f83.ntmps KO (IC [(0,.ptr (some (3,0))),(4,.ptr (some (7,0))),(11,.int .i64 1)] [(7,.cells [.str Un,.int .i64 1,.bool false])] 8 cN cO b fl nx lf es rt) _;refine cV U ?_;refine fV (XQ []) (akj cN cO b fl nx lf es rt) (dI ?_);refine⟨cQ,fun s' dX=>?_⟩;refine c6 dX ?_;refine Bt (t:=true) U U (fun _=>?_) (fun h=>by cases h);show TG ak 7 Tryz.f83.ntmps IB (IC [(0,.ptr (some (3,0))),(4,.ptr (some (7,0))),(12,.bool true)] [(7,.cells [.str Un,.int .i64 1,.bool false])] 8 cN cO b fl nx lf es rt) _;refine iJ  2 (XQ []) (akk cN cO b fl nx lf es rt) ?_ ?_
 . repeat' (first|exact cQ|refine jn ?_ ?_)
   all_goals first|decide|trivial
 show TG ak 7 Tryz.f83.ntmps (dh 2 IB) (IC [(0,.ptr (some (3,0))),(4,.ptr (some (7,0))),(5,.str [121]),(6,.di none 0 0 0)] [(7,.cells [.str Un,.int .i64 3,.bool false])] 8 cN cO b fl nx lf es rt) _;refine cV U ?_;refine fV (XQ []) (akl cN cO b fl nx lf es rt) (dI ?_);refine⟨?_,fun s' dX=>?_⟩
 . repeat' (first|exact cQ|refine jn ?_ ?_)
   all_goals first|decide|trivial
 refine c6 dX ?_;refine tB [7] (s2:=IC [(0,.ptr (some (3,0))),(5,.str [121]),(6,.di (some (7,0)) 1 1 1)] [(7,.deep [.str dA])] 8 cN cO b fl nx lf es rt) U ?_;refine xz [7] (A:=[[D.str dA].length=1*1]) (s2:={ IC [(0,.ptr (some (3,0))),(5,.str [121]),(6,.dL false 1 [.str dA])] [(7,.deep [.str dA])] 8 cN cO b fl nx lf es rt with h:=(hL (eN (pS cN cO b fl nx lf es rt)++[(7,.deep [.str dA])])).set 7 none }) U (fun x hx=>?_) ?_
 . rw[aq]at hx;subst hx;rfl
 refine c6 (live:=[0,5,6]) (s2:=stE cN cO b fl nx lf es rt) U ?_;have vY:=akm cN cO b fl nx lf es rt;have e1:dF [.str dA]=[dA]:=rfl;simp only[e1,Xs]at vY;refine ru (XQ []) mo _ U vY (dI ?_);refine⟨?_,_,_,_,rfl,rfl,rfl,rfl⟩
 repeat' (first|exact cQ|refine jn ?_ ?_)
 all_goals first|rfl|decide|trivial
end
def KP:QH:=fun p args=>match p.lo,p.off,p.arm with
 |some (cN,cO,b),false,false=>match args with
  | [.ptr (some (3,0)),.str body]=>match eE body Un with
    |true=>some ([],.eo [],Uo cN cO b p.fl p.nx p.lf p.es p.rs dB,7)
    |false=>none
  |_=>none
 |_,_,_=>none
theorem kJ:∀{a b:aa},eE a b=true->a=b
 | [],[],_=>rfl
 |x::a,y::b,h=>by
  simp only[eE]at h;split at h
  . rename_i hx;rw[kJ h,UInt8.toNat_inj.1 (aD hx)]
  . cases h
 | [],_::_,h=>by cases h
 |_::_,[],h=>by cases h
theorem ZU:jC ak 83 (Ud KP):=by
 refine Ue (au U) Tryz.func83 (code:=KN) U fun p args A v1 h1 n1 e hA=>?_;obtain⟨lo,fl,nx,off,arm,lf,es,rs⟩:=p;unfold KP at e;simp only at e;split at e
 case h_2=>cases e
 rename_i x1 x2 x3 cN cO b;split at e
 case h_2=>cases e
 rename_i body;split at e
 case h_2=>cases e
 rename_i hb;have hb:=kJ hb;subst hb;simp only[an,aB]at e;obtain⟨rfl,rfl,rfl,rfl⟩:=e;exact⟨U,akn cN cO b fl nx lf es rs⟩
noncomputable abbrev W15:jJ:=kj 83 (Ud KP) W14
theorem QY:fU ak W15:=fe ZU KK
noncomputable abbrev AR:eX:=gC ak W15 H0 1000 40
noncomputable abbrev XT:CX ak:=CX.of mo po QY H0 1000 40
noncomputable abbrev QZ:Code:=dU Tryz.f57
noncomputable abbrev NZ:Code:=dh 3 QZ
noncomputable abbrev ad7:Code:=dr (dY (dO NZ))
noncomputable abbrev ad8:Code:=Eng.rA ad7
noncomputable abbrev ad9:Code:=Eng.rB ad7
def N0:aa:=ad4++rN
def v103:V:=.fn (.func 103) [] [.ptr (some (11,0))]
section
variable(cN cO:Nat)(b:aa)(fl lf:Int)(es rt:ae)
def lRv(nx:Int)(mE mP:ae)(en:Int):af:=[(0,.ints .u32 gS),(1,.ints .u32 gR),(3,.cells [.di (some (4,0)) cN cO 1,.int .i64 fl,.map (some 7),.map (some 8),.int .i64 nx,.bool false,.bool false,.int .i64 lf]),(4,.iS 5 false b),(5,.dD none es),(6,.dD none rt),(7,.dD none mE),(8,.dD none mP),(9,.cells [.ptr (some (3,0))]),(10,.cells [.int .i64 en])]
end
def tP:ae:=[(.str dA,eA),(.str dB,eB)]
section
variable(cN cO:Nat)(b:aa)(fl nx lf:Int)(es rt:ae)
theorem aeb:c5 AR [] 7 Tryz.f57 [1,2] (eR 3 QZ) (cR [.ptr (some (3,0))] (eu (pS cN cO b fl nx lf es rt)) 7) [([],[],.to .normal (eG [(1,.ptr (some (9,0))),(2,.ptr (some (10,0)))] (hL [(0,.ints .u32 gS),(1,.ints .u32 gR),(3,.cells [.di (some (4,0)) cN cO 1,.int .i64 fl,.map (some 7),.map (some 8),.int .i64 0,.bool false,.bool false,.int .i64 lf]),(4,.iS 5 false b),(5,.dD none es),(6,.dD none rt),(7,.map [] 0),(8,.map [] 0),(9,.cells [.ptr (some (3,0))]),(10,.cells [.int .i64 0])]) 11))]:=
 cP.of U U U
end
section
variable(cN cO:Nat)(b:aa)(fl nx lf:Int)
def akp:List (Option Nat):=[some 0,some 1,some 2,some 3,some 7,some 5,some 6]
def h57:Tr O:=hL [(0,.ints .u32 gS),(1,.ints .u32 gR),(3,.cells [.di (some (7,0)) 91 91 1,.int .i64 91,.map (some 9),.map (some 10),.int .i64 2,.bool false,.bool false,.int .i64 lf]),(4,.iS 5 false b),(5,.dD none esS),(6,.dD none Ui),(7,.iS 5 false N0),(8,.cells [.ptr (some (3,0))]),(9,.dD none tP),(10,.dD none Ui)]
end
end Go.Proofs.YtfihojpgobmmdaaGreatDoor
