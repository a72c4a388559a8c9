/- Lemmas on the chunk store. No conditions. -/
import Derived.Test.YtfihojpgobmmdaaGreatDoorJointW09
import Derived.Test.YtfihojpgobmmdaaGreatDoorJointW10
set_option linter.unusedVariables false
set_option linter.unusedSimpArgs false
set_option linter.unusedSectionVars false
set_option maxRecDepth 20000
namespace Go.Proofs.YtfihojpgobmmdaaGreatDoor
open Go Go.Eng
noncomputable abbrev Ls:Code:=dN Tryz.f83
noncomputable abbrev Lt:Code:=dz (dh 2 Ls)
noncomputable abbrev Jc:Code:=MC (dY Lt)
def Vw:L:=[1,1,121,1]++dA
section
variable(T A:Nat)(b:L)(X R O:Int)(Q F:ae)
theorem aml:c9 (kS []) [] 7 Tryz.f83 [0,4,11] (eV 2 Ls) (cU [.ptr (some (3,0)),.str Vw] (eu (pS T A b X R O Q F)) 7) [([],
   [((0:Int)<=(1:Int)/\(1:Int)<=(36:Int)),((0:Int)<=(0:Int)/\(0:Int)<=(1:Int)),((0:Int)<=(0:Int)/\(0:Int)<(1:Int)),(0<1)],
   .to .normal (eG [(0,.ptr (some (3,0))),(4,.ptr (some (7,0))),(11,.int .i64 1)] (J [(0,.ints .u32 gS),(1,.ints .u32 gR),(3,.cells [.dj (some (4,0)) T A 1,.int .i64 ((pS T A b X R O Q F).X),.map (some 5),.map (some 6),.int .i64 ((pS T A b X R O Q F).R),.bool false,.bool false,.int .i64 ((pS T A b X R O Q F).O)]),(4,.jf 5 false (b)),(5,.dI none ((pS T A b X R O Q F).Q)),(6,.dI none ((pS T A b X R O Q F).D)),(7,.cells [.str [1,1,121,1,2,143,13,245,184,89,111,188,209,12,151,32,183,164,120,79,142,126,4,246,41,189,90,98,191,189,241,57,103,139,102,36],.int .i64 1,.bool false])]) 8))]
 :=cR.of U U U
def Jd(S:List (Nat×V))(RV:af)(n:Nat)(T A:Nat)(b:L)(X R O:Int)(Q F:ae):St:=eG S (J (eK (pS T A b X R O Q F)++RV)) n
theorem amm:c9 (kS []) [] 7 Tryz.f83 [0,4,12] (dP Lt) (Jd [(0,.ptr (some (3,0))),(4,.ptr (some (7,0))),(11,.int .i64 1)] [(7,.cells [.str Vw,.int .i64 1,.bool false])] 8 T A b X R O Q F) [([],
   [],
   .to .normal (eG [(0,.ptr (some (3,0))),(4,.ptr (some (7,0))),(12,.bool true)] (J [(0,.ints .u32 gS),(1,.ints .u32 gR),(3,.cells [.dj (some (4,0)) T A 1,.int .i64 ((pS T A b X R O Q F).X),.map (some 5),.map (some 6),.int .i64 ((pS T A b X R O Q F).R),.bool false,.bool false,.int .i64 ((pS T A b X R O Q F).O)]),(4,.jf 5 false (b)),(5,.dI none ((pS T A b X R O Q F).Q)),(6,.dI none ((pS T A b X R O Q F).D)),(7,.cells [.str [1,1,121,1,2,143,13,245,184,89,111,188,209,12,151,32,183,164,120,79,142,126,4,246,41,189,90,98,191,189,241,57,103,139,102,36],.int .i64 1,.bool false])]) 8))]
 :=cR.of U U U
theorem amn:c9 (kS []) [] 7 Tryz.f83 [0,4,5,6] (eV 2 Jc) (Jd [(0,.ptr (some (3,0))),(4,.ptr (some (7,0))),(12,.bool true)] [(7,.cells [.str Vw,.int .i64 1,.bool false])] 8 T A b X R O Q F) [([],
   [((0:Int)<=(1:Int)/\1<36),((0:Int)<=(3:Int)/\(3:Int)<=(36:Int)),((0:Int)<=(2:Int)/\(2:Int)<=(3:Int))],
   .to .normal (eG [(0,.ptr (some (3,0))),(4,.ptr (some (7,0))),(5,.str [121]),(6,.dj none 0 0 0)] (J [(0,.ints .u32 gS),(1,.ints .u32 gR),(3,.cells [.dj (some (4,0)) T A 1,.int .i64 ((pS T A b X R O Q F).X),.map (some 5),.map (some 6),.int .i64 ((pS T A b X R O Q F).R),.bool false,.bool false,.int .i64 ((pS T A b X R O Q F).O)]),(4,.jf 5 false (b)),(5,.dI none ((pS T A b X R O Q F).Q)),(6,.dI none ((pS T A b X R O Q F).D)),(7,.cells [.str [1,1,121,1,2,143,13,245,184,89,111,188,209,12,151,32,183,164,120,79,142,126,4,246,41,189,90,98,191,189,241,57,103,139,102,36],.int .i64 3,.bool false])]) 8))]
 :=cR.of U U U
theorem amo:c9 (kS []) [] 7 Tryz.f83 [0,5,6] (dP (dh 2 Jc)) (Jd [(0,.ptr (some (3,0))),(4,.ptr (some (7,0))),(5,.str [121]),(6,.dj none 0 0 0)] [(7,.cells [.str Vw,.int .i64 3,.bool false])] 8 T A b X R O Q F) [([],
   [((0:Int)<=(3:Int)/\3<36),((0:Int)<=(36:Int)/\(36:Int)<=(36:Int)),((0:Int)<=(4:Int)/\(4:Int)<=(36:Int))],
   .to .normal (eG [(0,.ptr (some (3,0))),(5,.str [121]),(6,.dj (some (7,0)) 1 1 1)] (J [(0,.ints .u32 gS),(1,.ints .u32 gR),(3,.cells [.dj (some (4,0)) T A 1,.int .i64 ((pS T A b X R O Q F).X),.map (some 5),.map (some 6),.int .i64 ((pS T A b X R O Q F).R),.bool false,.bool false,.int .i64 ((pS T A b X R O Q F).O)]),(4,.jf 5 false (b)),(5,.dI none ((pS T A b X R O Q F).Q)),(6,.dI none ((pS T A b X R O Q F).D)),(7,.cells [.str [2,143,13,245,184,89,111,188,209,12,151,32,183,164,120,79,142,126,4,246,41,189,90,98,191,189,241,57,103,139,102,36]])]) 8))]
 :=cR.of U U U
end
section
variable(T A:Nat)(b:L)(X R O:Int)(Q F:ae)
noncomputable abbrev stE:St:=eG [(0,.ptr (some (3,0))),(5,.str [121]),(6,.dS false 1 [.str dA])] (J (eK (pS T A b X R O Q F))) 7
def Vx(key:L):H lf:=eu (pS T A b X (IntKind.i64.wrap (R+1)) O (ir (.str key) (oF [121] [dA] R) Q) F)
theorem amq:vJ ak (kS []) [] 1000 7 Tryz.f83 (dY (dh 2 Jc)) (stE T A b X R O Q F)
  [([],[gS=gS,gR=gR,[rs.str dA]=strs (dy [.str dA]),1=(dy [.str dA]).length,1<=1000000,(eI ([121]::dy [.str dA])).length<=1000000000,0<1,[rs.str dA].length=1,1<=1000000],.ret (.ew []) (Vx T A b X R O Q F (dw [121] (dy [.str dA]))) 7)]:=
 ⟨U,U,U⟩
theorem amr:TG ak 7 Tryz.f83.ntmps Ls (cU [.ptr (some (3,0)),.str Vw] (eu (pS T A b X R O Q F)) 7) (fJ ak 7 Tryz.f83 fun v h n=>v= .ew []/\h=Vx T A b X R O Q F dB/\n=7):=by
 refine iF  2 (XQ []) (aml T A b X R O Q F) ?_ ?_
 . repeat' (first|exact cT|refine iI ?_ ?_)
   all_goals first|decide|trivial
 refine fB (i:=0) U ?_;refine fA (Q1:=fJ ak 7 Tryz.f83 fun v h n=>v= .ew []/\h=Vx T A b X R O Q F dB/\n=7) ?_ fun y s h=>x9 h;show TG ak 7 Tryz.f83.ntmps Lt (Jd [(0,.ptr (some (3,0))),(4,.ptr (some (7,0))),(11,.int .i64 1)] [(7,.cells [.str Vw,.int .i64 1,.bool false])] 8 T A b X R O Q F) _;refine cZ U ?_;refine fO (XQ []) (amm T A b X R O Q F) (dG ?_);refine⟨cT,fun s' dO=>?_⟩;refine c6 dO ?_;refine BZ (t:=true) U U (fun _=>?_) (fun h=>by cases h);show TG ak 7 Tryz.f83.ntmps Jc (Jd [(0,.ptr (some (3,0))),(4,.ptr (some (7,0))),(12,.bool true)] [(7,.cells [.str Vw,.int .i64 1,.bool false])] 8 T A b X R O Q F) _;refine iF  2 (XQ []) (amn T A b X R O Q F) ?_ ?_
 . repeat' (first|exact cT|refine iI ?_ ?_)
   all_goals first|decide|trivial
 show TG ak 7 Tryz.f83.ntmps (dh 2 Jc) (Jd [(0,.ptr (some (3,0))),(4,.ptr (some (7,0))),(5,.str [121]),(6,.dj none 0 0 0)] [(7,.cells [.str Vw,.int .i64 3,.bool false])] 8 T A b X R O Q F) _;refine cZ U ?_;refine fO (XQ []) (amo T A b X R O Q F) (dG ?_);refine⟨?_,fun s' dO=>?_⟩
 . repeat' (first|exact cT|refine iI ?_ ?_)
   all_goals first|decide|trivial
 refine c6 dO ?_;refine tX [7] (s2:=Jd [(0,.ptr (some (3,0))),(5,.str [121]),(6,.dj (some (7,0)) 1 1 1)] [(7,.deep [.str dA])] 8 T A b X R O Q F) U ?_;refine tV [7] (cS:=[[rs.str dA].length=1*1]) (s2:={ Jd [(0,.ptr (some (3,0))),(5,.str [121]),(6,.dS false 1 [.str dA])] [(7,.deep [.str dA])] 8 T A b X R O Q F with h:=(J (eK (pS T A b X R O Q F)++[(7,.deep [.str dA])])).set 7 none }) U (fun x G=>?_) ?_
 . rw[aq]at G;subst G;rfl
 refine c6 (live:=[0,5,6]) (s2:=stE T A b X R O Q F) U ?_;have wK:=amq T A b X R O Q F;have e1:dy [.str dA]=[dA]:=rfl;simp only[e1,YR]at wK;refine r7 (XQ []) mo _ U wK (dG ?_);refine⟨?_,_,_,_,rfl,rfl,rfl,rfl⟩
 repeat' (first|exact cT|refine iI ?_ ?_)
 all_goals first|rfl|decide|trivial
end
def Lu:RE:=fun p args=>match p.lo,p.off,p.arm with
 |some (T,A,b),false,false=>match args with
  | [.ptr (some (3,0)),.str body]=>match eJ body Vw with
    |true=>some ([],.ew [],Vx T A b p.X p.R p.O p.Q p.D dB,7)
    |false=>none
  |_=>none
 |_,_,_=>none
theorem kT:∀{a b:L},eJ a b=true->a=b
 | [],[],_=>rfl
 |x::a,y::b,h=>by
  simp only[eJ]at h;split at h
  . rename_i G;rw[kT h,UInt8.toNat_inj.1 (aD G)]
  . cases h
 | [],_::_,h=>by cases h
 |_::_,[],h=>by cases h
theorem aa6:jv ak 83 (Vm Lu):=by
 refine Vn (au U) Tryz.func83 (code:=Ls) U fun p args cS v1 N n1 e hA=>?_;obtain⟨lo,X,R,off,arm,O,Q,D⟩:=p;unfold Lu at e;simp only at e;split at e
 case h_2=>cases e
 rename_i x1 x2 x3 T A b;split at e
 case h_2=>cases e
 rename_i body;split at e
 case h_2=>cases e
 rename_i hb;have hb:=kT hb;subst hb;simp only[an,aB]at e;obtain⟨rfl,rfl,rfl,rfl⟩:=e;exact⟨U,amr T A b X R O Q D⟩
noncomputable abbrev W15:jQ:=jD 83 (Vm Lu) W14
theorem RW:gl ak W15:=e9 aa6 Lp
noncomputable abbrev Bq:fb:=gP ak W15 H0 1000 40
noncomputable abbrev XT:CX ak:=CX.of mo po RW H0 1000 40
noncomputable abbrev RX:Code:=dN Tryz.f57
noncomputable abbrev ON:Code:=dh 3 RX
noncomputable abbrev aft:Code:=dz (dY (dP ON))
noncomputable abbrev afu:Code:=Eng.rA aft
noncomputable abbrev afv:Code:=Eng.rB aft
def OO:L:=afq++rN
def v103:V:=.fn (.func 103) [] [.ptr (some (11,0))]
section
variable(T A:Nat)(b:L)(X O:Int)(Q F:ae)
def lRv(R:Int)(mQ nj:ae)(en:Int):af:=[(0,.ints .u32 gS),(1,.ints .u32 gR),(3,.cells [.dj (some (4,0)) T A 1,.int .i64 X,.map (some 7),.map (some 8),.int .i64 R,.bool false,.bool false,.int .i64 O]),(4,.jf 5 false b),(5,.dI none Q),(6,.dI none F),(7,.dI none mQ),(8,.dI none nj),(9,.cells [.ptr (some (3,0))]),(10,.cells [.int .i64 en])]
end
def uv:ae:=[(.str dA,eA),(.str dB,eB)]
section
variable(T A:Nat)(b:L)(X R O:Int)(Q F:ae)
theorem afx:c9 Bq [] 7 Tryz.f57 [1,2] (eV 3 RX) (cU [.ptr (some (3,0))] (eu (pS T A b X R O Q F)) 7) [([],[],.to .normal (eG [(1,.ptr (some (9,0))),(2,.ptr (some (10,0)))] (J [(0,.ints .u32 gS),(1,.ints .u32 gR),(3,.cells [.dj (some (4,0)) T A 1,.int .i64 X,.map (some 7),.map (some 8),.int .i64 0,.bool false,.bool false,.int .i64 O]),(4,.jf 5 false b),(5,.dI none Q),(6,.dI none F),(7,.map [] 0),(8,.map [] 0),(9,.cells [.ptr (some (3,0))]),(10,.cells [.int .i64 0])]) 11))]:=
 cR.of U U U
end
section
variable(T A:Nat)(b:L)(X R O:Int)
def amt:List (Option Nat):=[some 0,some 1,some 2,some 3,some 7,some 5,some 6]
def h57:H lf:=J [(0,.ints .u32 gS),(1,.ints .u32 gR),(3,.cells [.dj (some (7,0)) 91 91 1,.int .i64 91,.map (some 9),.map (some 10),.int .i64 2,.bool false,.bool false,.int .i64 O]),(4,.jf 5 false b),(5,.dI none esS),(6,.dI none Vr),(7,.jf 5 false OO),(8,.cells [.ptr (some (3,0))]),(9,.dI none uv),(10,.dI none Vr)]
end
end Go.Proofs.YtfihojpgobmmdaaGreatDoor
