/- The Chunk laws: a record applied: pieces. No conditions. -/
import Derived.Test.YtfihojpgobmmdaaGreatDoorJointW09
import Derived.Test.YtfihojpgobmmdaaGreatDoorJointW10
set_option linter.unusedVariables false
set_option linter.unusedSimpArgs false
set_option linter.unusedSectionVars false
set_option maxRecDepth 20000
namespace Go.Proofs.YtfihojpgobmmdaaGreatDoor
open Go Go.Eng
noncomputable abbrev K6:Code:=dP Tryz.f83
noncomputable abbrev K7:Code:=dw (de 2 K6)
noncomputable abbrev IU:Code:=Mh (ee K7)
def UW:aa:=[1,1,121,1]++dA
section
variable(cO cP:Nat)(b:aa)(fl nx lf:Int)(es rt:ae)
theorem alh:c6 (kY []) [] 7 Tryz.f83 [0,4,11] (eR 2 K6) (cS [.ptr (some (3,0)),.str UW] (eu (pS cO cP b fl nx lf es rt)) 7) [([],
   [((0:Int)<=(1:Int)/\(1:Int)<=(36:Int)),((0:Int)<=(0:Int)/\(0:Int)<=(1:Int)),((0:Int)<=(0:Int)/\(0:Int)<(1:Int)),(0<1)],
   .to .normal (eF [(0,.ptr (some (3,0))),(4,.ptr (some (7,0))),(11,.int .i64 1)] (hL [(0,.ints .u32 gS),(1,.ints .u32 gR),(3,.cells [.dj (some (4,0)) cO cP 1,.int .i64 ((pS cO cP b fl nx lf es rt).fl),.map (some 5),.map (some 6),.int .i64 ((pS cO cP b fl nx lf es rt).nx),.bool false,.bool false,.int .i64 ((pS cO cP b fl nx lf es rt).lf)]),(4,.iU 5 false (b)),(5,.dF none ((pS cO cP b fl nx lf es rt).es)),(6,.dF none ((pS cO cP b fl nx lf es rt).rs)),(7,.cells [.str [1,1,121,1,2,143,13,245,184,89,111,188,209,12,151,32,183,164,120,79,142,126,4,246,41,189,90,98,191,189,241,57,103,139,102,36],.int .i64 1,.bool false])]) 8))]
 :=cQ.of U U U
def IV(fr:List (Nat×V))(Rn:af)(n:Nat)(cO cP:Nat)(b:aa)(fl nx lf:Int)(es rt:ae):St:=eF fr (hL (eO (pS cO cP b fl nx lf es rt)++Rn)) n
theorem ali:c6 (kY []) [] 7 Tryz.f83 [0,4,12] (dK K7) (IV [(0,.ptr (some (3,0))),(4,.ptr (some (7,0))),(11,.int .i64 1)] [(7,.cells [.str UW,.int .i64 1,.bool false])] 8 cO cP b fl nx lf es rt) [([],
   [],
   .to .normal (eF [(0,.ptr (some (3,0))),(4,.ptr (some (7,0))),(12,.bool true)] (hL [(0,.ints .u32 gS),(1,.ints .u32 gR),(3,.cells [.dj (some (4,0)) cO cP 1,.int .i64 ((pS cO cP b fl nx lf es rt).fl),.map (some 5),.map (some 6),.int .i64 ((pS cO cP b fl nx lf es rt).nx),.bool false,.bool false,.int .i64 ((pS cO cP b fl nx lf es rt).lf)]),(4,.iU 5 false (b)),(5,.dF none ((pS cO cP b fl nx lf es rt).es)),(6,.dF none ((pS cO cP b fl nx lf es rt).rs)),(7,.cells [.str [1,1,121,1,2,143,13,245,184,89,111,188,209,12,151,32,183,164,120,79,142,126,4,246,41,189,90,98,191,189,241,57,103,139,102,36],.int .i64 1,.bool false])]) 8))]
 :=cQ.of U U U
theorem alj:c6 (kY []) [] 7 Tryz.f83 [0,4,5,6] (eR 2 IU) (IV [(0,.ptr (some (3,0))),(4,.ptr (some (7,0))),(12,.bool true)] [(7,.cells [.str UW,.int .i64 1,.bool false])] 8 cO cP b fl nx lf es rt) [([],
   [((0:Int)<=(1:Int)/\1<36),((0:Int)<=(3:Int)/\(3:Int)<=(36:Int)),((0:Int)<=(2:Int)/\(2:Int)<=(3:Int))],
   .to .normal (eF [(0,.ptr (some (3,0))),(4,.ptr (some (7,0))),(5,.str [121]),(6,.dj none 0 0 0)] (hL [(0,.ints .u32 gS),(1,.ints .u32 gR),(3,.cells [.dj (some (4,0)) cO cP 1,.int .i64 ((pS cO cP b fl nx lf es rt).fl),.map (some 5),.map (some 6),.int .i64 ((pS cO cP b fl nx lf es rt).nx),.bool false,.bool false,.int .i64 ((pS cO cP b fl nx lf es rt).lf)]),(4,.iU 5 false (b)),(5,.dF none ((pS cO cP b fl nx lf es rt).es)),(6,.dF none ((pS cO cP b fl nx lf es rt).rs)),(7,.cells [.str [1,1,121,1,2,143,13,245,184,89,111,188,209,12,151,32,183,164,120,79,142,126,4,246,41,189,90,98,191,189,241,57,103,139,102,36],.int .i64 3,.bool false])]) 8))]
 :=cQ.of U U U
theorem alk:c6 (kY []) [] 7 Tryz.f83 [0,5,6] (dK (de 2 IU)) (IV [(0,.ptr (some (3,0))),(4,.ptr (some (7,0))),(5,.str [121]),(6,.dj none 0 0 0)] [(7,.cells [.str UW,.int .i64 3,.bool false])] 8 cO cP b fl nx lf es rt) [([],
   [((0:Int)<=(3:Int)/\3<36),((0:Int)<=(36:Int)/\(36:Int)<=(36:Int)),((0:Int)<=(4:Int)/\(4:Int)<=(36:Int))],
   .to .normal (eF [(0,.ptr (some (3,0))),(5,.str [121]),(6,.dj (some (7,0)) 1 1 1)] (hL [(0,.ints .u32 gS),(1,.ints .u32 gR),(3,.cells [.dj (some (4,0)) cO cP 1,.int .i64 ((pS cO cP b fl nx lf es rt).fl),.map (some 5),.map (some 6),.int .i64 ((pS cO cP b fl nx lf es rt).nx),.bool false,.bool false,.int .i64 ((pS cO cP b fl nx lf es rt).lf)]),(4,.iU 5 false (b)),(5,.dF none ((pS cO cP b fl nx lf es rt).es)),(6,.dF none ((pS cO cP b fl nx lf es rt).rs)),(7,.cells [.str [2,143,13,245,184,89,111,188,209,12,151,32,183,164,120,79,142,126,4,246,41,189,90,98,191,189,241,57,103,139,102,36]])]) 8))]
 :=cQ.of U U U
end
section
variable(cO cP:Nat)(b:aa)(fl nx lf:Int)(es rt:ae)
noncomputable abbrev stE:St:=eF [(0,.ptr (some (3,0))),(5,.str [121]),(6,.dO false 1 [.str dA])] (hL (eO (pS cO cP b fl nx lf es rt))) 7
def UX(key:aa):Tr O:=eu (pS cO cP b fl (IntKind.i64.wrap (nx+1)) lf (ic (.str key) (pW [121] [dA] nx) es) rt)
theorem alm:vt ak (kY []) [] 1000 7 Tryz.f83 (ee (de 2 IU)) (stE cO cP b fl nx lf es rt)
  [([],[gS=gS,gR=gR,[D.str dA]=strs (dH [.str dA]),1=(dH [.str dA]).length,1<=1000000,(eH ([121]::dH [.str dA])).length<=1000000000,0<1,[D.str dA].length=1,1<=1000000],.ret (.ew []) (UX cO cP b fl nx lf es rt (dM [121] (dH [.str dA]))) 7)]:=
 ⟨U,U,U⟩
theorem aln:TG ak 7 Tryz.f83.ntmps K6 (cS [.ptr (some (3,0)),.str UW] (eu (pS cO cP b fl nx lf es rt)) 7) (fG ak 7 Tryz.f83 fun v h n=>v= .ew []/\h=UX cO cP b fl nx lf es rt dB/\n=7):=by
 refine iL  2 (XQ []) (alh cO cP b fl nx lf es rt) ?_ ?_
 . repeat' (first|exact cR|refine jw ?_ ?_)
   all_goals first|decide|trivial
 refine fg (i:=0) U ?_;refine ff (Q1:=fG ak 7 Tryz.f83 fun v h n=>v= .ew []/\h=UX cO cP b fl nx lf es rt dB/\n=7) ?_ fun y s h=>xM h;show TG ak 7 Tryz.f83.ntmps K7 (IV [(0,.ptr (some (3,0))),(4,.ptr (some (7,0))),(11,.int .i64 1)] [(7,.cells [.str UW,.int .i64 1,.bool false])] 8 cO cP b fl nx lf es rt) _;refine cV U ?_;refine fZ (XQ []) (ali cO cP b fl nx lf es rt) (dG ?_);refine⟨cR,fun s' dL=>?_⟩;refine c5 dL ?_;refine BJ (t:=true) U U (fun _=>?_) (fun h=>by cases h);show TG ak 7 Tryz.f83.ntmps IU (IV [(0,.ptr (some (3,0))),(4,.ptr (some (7,0))),(12,.bool true)] [(7,.cells [.str UW,.int .i64 1,.bool false])] 8 cO cP b fl nx lf es rt) _;refine iL  2 (XQ []) (alj cO cP b fl nx lf es rt) ?_ ?_
 . repeat' (first|exact cR|refine jw ?_ ?_)
   all_goals first|decide|trivial
 show TG ak 7 Tryz.f83.ntmps (de 2 IU) (IV [(0,.ptr (some (3,0))),(4,.ptr (some (7,0))),(5,.str [121]),(6,.dj none 0 0 0)] [(7,.cells [.str UW,.int .i64 3,.bool false])] 8 cO cP b fl nx lf es rt) _;refine cV U ?_;refine fZ (XQ []) (alk cO cP b fl nx lf es rt) (dG ?_);refine⟨?_,fun s' dL=>?_⟩
 . repeat' (first|exact cR|refine jw ?_ ?_)
   all_goals first|decide|trivial
 refine c5 dL ?_;refine tF [7] (s2:=IV [(0,.ptr (some (3,0))),(5,.str [121]),(6,.dj (some (7,0)) 1 1 1)] [(7,.deep [.str dA])] 8 cO cP b fl nx lf es rt) U ?_;refine xH [7] (A:=[[D.str dA].length=1*1]) (s2:={ IV [(0,.ptr (some (3,0))),(5,.str [121]),(6,.dO false 1 [.str dA])] [(7,.deep [.str dA])] 8 cO cP b fl nx lf es rt with h:=(hL (eO (pS cO cP b fl nx lf es rt)++[(7,.deep [.str dA])])).set 7 none }) U (fun x hx=>?_) ?_
 . rw[aq]at hx;subst hx;rfl
 refine c5 (live:=[0,5,6]) (s2:=stE cO cP b fl nx lf es rt) U ?_;have uj:=alm cO cP b fl nx lf es rt;have e1:dH [.str dA]=[dA]:=rfl;simp only[e1,Ye]at uj;refine rF (XQ []) mo _ U uj (dG ?_);refine⟨?_,_,_,_,rfl,rfl,rfl,rfl⟩
 repeat' (first|exact cR|refine jw ?_ ?_)
 all_goals first|rfl|decide|trivial
end
def K8:Q9:=fun p args=>match p.lo,p.off,p.arm with
 |some (cO,cP,b),false,false=>match args with
  | [.ptr (some (3,0)),.str body]=>match eG body UW with
    |true=>some ([],.ew [],UX cO cP b p.fl p.nx p.lf p.es p.rs dB,7)
    |false=>none
  |_=>none
 |_,_,_=>none
theorem kP:∀{a b:aa},eG a b=true->a=b
 | [],[],_=>rfl
 |x::a,y::b,h=>by
  simp only[eG]at h;split at h
  . rename_i hx;rw[kP h,UInt8.toNat_inj.1 (aD hx)]
  . cases h
 | [],_::_,h=>by cases h
 |_::_,[],h=>by cases h
theorem aat:jL ak 83 (UL K8):=by
 refine UM (au U) Tryz.func83 (code:=K6) U fun p args A v1 h1 n1 e hA=>?_;obtain⟨lo,fl,nx,off,arm,lf,es,rs⟩:=p;unfold K8 at e;simp only at e;split at e
 case h_2=>cases e
 rename_i x1 x2 x3 cO cP b;split at e
 case h_2=>cases e
 rename_i body;split at e
 case h_2=>cases e
 rename_i hb;have hb:=kP hb;subst hb;simp only[an,aB]at e;obtain⟨rfl,rfl,rfl,rfl⟩:=e;exact⟨U,aln cO cP b fl nx lf es rs⟩
noncomputable abbrev W15:jQ:=kB 83 (UL K8) W14
theorem Ro:gd ak W15:=fk aat K3
noncomputable abbrev A9:fb:=gI ak W15 H0 1000 40
noncomputable abbrev XT:CX ak:=CX.of mo po Ro H0 1000 40
noncomputable abbrev Rp:Code:=dP Tryz.f57
noncomputable abbrev On:Code:=de 3 Rp
noncomputable abbrev aeP:Code:=dw (ee (dK On))
noncomputable abbrev aeQ:Code:=Eng.rA aeP
noncomputable abbrev aeR:Code:=Eng.rB aeP
def Oo:aa:=aeM++rN
def v103:V:=.fn (.func 103) [] [.ptr (some (11,0))]
section
variable(cO cP:Nat)(b:aa)(fl lf:Int)(es rt:ae)
def lRv(nx:Int)(mK mX:ae)(en:Int):af:=[(0,.ints .u32 gS),(1,.ints .u32 gR),(3,.cells [.dj (some (4,0)) cO cP 1,.int .i64 fl,.map (some 7),.map (some 8),.int .i64 nx,.bool false,.bool false,.int .i64 lf]),(4,.iU 5 false b),(5,.dF none es),(6,.dF none rt),(7,.dF none mK),(8,.dF none mX),(9,.cells [.ptr (some (3,0))]),(10,.cells [.int .i64 en])]
end
def tX:ae:=[(.str dA,eA),(.str dB,eB)]
section
variable(cO cP:Nat)(b:aa)(fl nx lf:Int)(es rt:ae)
theorem aeT:c6 A9 [] 7 Tryz.f57 [1,2] (eR 3 Rp) (cS [.ptr (some (3,0))] (eu (pS cO cP b fl nx lf es rt)) 7) [([],[],.to .normal (eF [(1,.ptr (some (9,0))),(2,.ptr (some (10,0)))] (hL [(0,.ints .u32 gS),(1,.ints .u32 gR),(3,.cells [.dj (some (4,0)) cO cP 1,.int .i64 fl,.map (some 7),.map (some 8),.int .i64 0,.bool false,.bool false,.int .i64 lf]),(4,.iU 5 false b),(5,.dF none es),(6,.dF none rt),(7,.map [] 0),(8,.map [] 0),(9,.cells [.ptr (some (3,0))]),(10,.cells [.int .i64 0])]) 11))]:=
 cQ.of U U U
end
section
variable(cO cP:Nat)(b:aa)(fl nx lf:Int)
def alp:List (Option Nat):=[some 0,some 1,some 2,some 3,some 7,some 5,some 6]
def h57:Tr O:=hL [(0,.ints .u32 gS),(1,.ints .u32 gR),(3,.cells [.dj (some (7,0)) 91 91 1,.int .i64 91,.map (some 9),.map (some 10),.int .i64 2,.bool false,.bool false,.int .i64 lf]),(4,.iU 5 false b),(5,.dF none esS),(6,.dF none UQ),(7,.iU 5 false Oo),(8,.cells [.ptr (some (3,0))]),(9,.dF none tX),(10,.dF none UQ)]
end
end Go.Proofs.YtfihojpgobmmdaaGreatDoor
