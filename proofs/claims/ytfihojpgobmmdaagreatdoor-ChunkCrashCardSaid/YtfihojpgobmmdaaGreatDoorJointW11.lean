/- The Chunk laws: a record applied: pieces. No conditions. -/
import Derived.Test.YtfihojpgobmmdaaGreatDoorJointW09
import Derived.Test.YtfihojpgobmmdaaGreatDoorJointW10
set_option linter.unusedVariables false
set_option linter.unusedSimpArgs false
set_option linter.unusedSectionVars false
set_option maxRecDepth 20000
namespace Go.Proofs.YtfihojpgobmmdaaGreatDoor
open Go Go.Eng
noncomputable abbrev Lm:Code:=dS Tryz.f83
noncomputable abbrev Ln:Code:=dx (de 2 Lm)
noncomputable abbrev I5:Code:=My (dV Ln)
def Vb:aa:=[1,1,121,1]++dA
section
variable(cO cP:Nat)(b:aa)(fl nx lf:Int)(es rt:ae)
theorem alz:c7 (kW []) [] 7 Tryz.f83 [0,4,11] (eO 2 Lm) (cT [.ptr (some (3,0)),.str Vb] (eu (pS cO cP b fl nx lf es rt)) 7) [([],
   [((0:Int)<=(1:Int)/\(1:Int)<=(36:Int)),((0:Int)<=(0:Int)/\(0:Int)<=(1:Int)),((0:Int)<=(0:Int)/\(0:Int)<(1:Int)),(0<1)],
   .to .normal (eF [(0,.ptr (some (3,0))),(4,.ptr (some (7,0))),(11,.int .i64 1)] (hL [(0,.ints .u32 gS),(1,.ints .u32 gR),(3,.cells [.di (some (4,0)) cO cP 1,.int .i64 ((pS cO cP b fl nx lf es rt).fl),.map (some 5),.map (some 6),.int .i64 ((pS cO cP b fl nx lf es rt).nx),.bool false,.bool false,.int .i64 ((pS cO cP b fl nx lf es rt).lf)]),(4,.iX 5 false (b)),(5,.dy none ((pS cO cP b fl nx lf es rt).es)),(6,.dy none ((pS cO cP b fl nx lf es rt).rs)),(7,.cells [.str [1,1,121,1,2,143,13,245,184,89,111,188,209,12,151,32,183,164,120,79,142,126,4,246,41,189,90,98,191,189,241,57,103,139,102,36],.int .i64 1,.bool false])]) 8))]
 :=cQ.of U U U
def I6(fr:List (Nat×V))(RD:af)(n:Nat)(cO cP:Nat)(b:aa)(fl nx lf:Int)(es rt:ae):St:=eF fr (hL (eP (pS cO cP b fl nx lf es rt)++RD)) n
theorem alA:c7 (kW []) [] 7 Tryz.f83 [0,4,12] (dK Ln) (I6 [(0,.ptr (some (3,0))),(4,.ptr (some (7,0))),(11,.int .i64 1)] [(7,.cells [.str Vb,.int .i64 1,.bool false])] 8 cO cP b fl nx lf es rt) [([],
   [],
   .to .normal (eF [(0,.ptr (some (3,0))),(4,.ptr (some (7,0))),(12,.bool true)] (hL [(0,.ints .u32 gS),(1,.ints .u32 gR),(3,.cells [.di (some (4,0)) cO cP 1,.int .i64 ((pS cO cP b fl nx lf es rt).fl),.map (some 5),.map (some 6),.int .i64 ((pS cO cP b fl nx lf es rt).nx),.bool false,.bool false,.int .i64 ((pS cO cP b fl nx lf es rt).lf)]),(4,.iX 5 false (b)),(5,.dy none ((pS cO cP b fl nx lf es rt).es)),(6,.dy none ((pS cO cP b fl nx lf es rt).rs)),(7,.cells [.str [1,1,121,1,2,143,13,245,184,89,111,188,209,12,151,32,183,164,120,79,142,126,4,246,41,189,90,98,191,189,241,57,103,139,102,36],.int .i64 1,.bool false])]) 8))]
 :=cQ.of U U U
theorem alB:c7 (kW []) [] 7 Tryz.f83 [0,4,5,6] (eO 2 I5) (I6 [(0,.ptr (some (3,0))),(4,.ptr (some (7,0))),(12,.bool true)] [(7,.cells [.str Vb,.int .i64 1,.bool false])] 8 cO cP b fl nx lf es rt) [([],
   [((0:Int)<=(1:Int)/\1<36),((0:Int)<=(3:Int)/\(3:Int)<=(36:Int)),((0:Int)<=(2:Int)/\(2:Int)<=(3:Int))],
   .to .normal (eF [(0,.ptr (some (3,0))),(4,.ptr (some (7,0))),(5,.str [121]),(6,.di none 0 0 0)] (hL [(0,.ints .u32 gS),(1,.ints .u32 gR),(3,.cells [.di (some (4,0)) cO cP 1,.int .i64 ((pS cO cP b fl nx lf es rt).fl),.map (some 5),.map (some 6),.int .i64 ((pS cO cP b fl nx lf es rt).nx),.bool false,.bool false,.int .i64 ((pS cO cP b fl nx lf es rt).lf)]),(4,.iX 5 false (b)),(5,.dy none ((pS cO cP b fl nx lf es rt).es)),(6,.dy none ((pS cO cP b fl nx lf es rt).rs)),(7,.cells [.str [1,1,121,1,2,143,13,245,184,89,111,188,209,12,151,32,183,164,120,79,142,126,4,246,41,189,90,98,191,189,241,57,103,139,102,36],.int .i64 3,.bool false])]) 8))]
 :=cQ.of U U U
theorem alC:c7 (kW []) [] 7 Tryz.f83 [0,5,6] (dK (de 2 I5)) (I6 [(0,.ptr (some (3,0))),(4,.ptr (some (7,0))),(5,.str [121]),(6,.di none 0 0 0)] [(7,.cells [.str Vb,.int .i64 3,.bool false])] 8 cO cP b fl nx lf es rt) [([],
   [((0:Int)<=(3:Int)/\3<36),((0:Int)<=(36:Int)/\(36:Int)<=(36:Int)),((0:Int)<=(4:Int)/\(4:Int)<=(36:Int))],
   .to .normal (eF [(0,.ptr (some (3,0))),(5,.str [121]),(6,.di (some (7,0)) 1 1 1)] (hL [(0,.ints .u32 gS),(1,.ints .u32 gR),(3,.cells [.di (some (4,0)) cO cP 1,.int .i64 ((pS cO cP b fl nx lf es rt).fl),.map (some 5),.map (some 6),.int .i64 ((pS cO cP b fl nx lf es rt).nx),.bool false,.bool false,.int .i64 ((pS cO cP b fl nx lf es rt).lf)]),(4,.iX 5 false (b)),(5,.dy none ((pS cO cP b fl nx lf es rt).es)),(6,.dy none ((pS cO cP b fl nx lf es rt).rs)),(7,.cells [.str [2,143,13,245,184,89,111,188,209,12,151,32,183,164,120,79,142,126,4,246,41,189,90,98,191,189,241,57,103,139,102,36]])]) 8))]
 :=cQ.of U U U
end
section
variable(cO cP:Nat)(b:aa)(fl nx lf:Int)(es rt:ae)
noncomputable abbrev stE:St:=eF [(0,.ptr (some (3,0))),(5,.str [121]),(6,.dM false 1 [.str dA])] (hL (eP (pS cO cP b fl nx lf es rt))) 7
def Vc(key:aa):Tr O:=eu (pS cO cP b fl (IntKind.i64.wrap (nx+1)) lf (ig (.str key) (pU [121] [dA] nx) es) rt)
theorem alD:sB ak (kW []) [] 1000 7 Tryz.f83 (dV (de 2 I5)) (stE cO cP b fl nx lf es rt)
  [([],[gS=gS,gR=gR,[D.str dA]=strs (dH [.str dA]),1=(dH [.str dA]).length,1<=1000000,(eH ([121]::dH [.str dA])).length<=1000000000,0<1,[D.str dA].length=1,1<=1000000],.ret (.ef []) (Vc cO cP b fl nx lf es rt (dN [121] (dH [.str dA]))) 7)]:=
 ⟨U,U,U⟩
theorem alE:TG ak 7 Tryz.f83.ntmps Lm (cT [.ptr (some (3,0)),.str Vb] (eu (pS cO cP b fl nx lf es rt)) 7) (fH ak 7 Tryz.f83 fun v h n=>v= .ef []/\h=Vc cO cP b fl nx lf es rt dB/\n=7):=by
 refine iO  2 (XQ []) (alz cO cP b fl nx lf es rt) ?_ ?_
 . repeat' (first|exact cR|refine ju ?_ ?_)
   all_goals first|decide|trivial
 refine fg (i:=0) U ?_;refine fe (Q1:=fH ak 7 Tryz.f83 fun v h n=>v= .ef []/\h=Vc cO cP b fl nx lf es rt dB/\n=7) ?_ fun y s h=>xN h;show TG ak 7 Tryz.f83.ntmps Ln (I6 [(0,.ptr (some (3,0))),(4,.ptr (some (7,0))),(11,.int .i64 1)] [(7,.cells [.str Vb,.int .i64 1,.bool false])] 8 cO cP b fl nx lf es rt) _;refine cV U ?_;refine fR (XQ []) (alA cO cP b fl nx lf es rt) (dG ?_);refine⟨cR,fun s' dL=>?_⟩;refine c6 dL ?_;refine BM (t:=true) U U (fun _=>?_) (fun h=>by cases h);show TG ak 7 Tryz.f83.ntmps I5 (I6 [(0,.ptr (some (3,0))),(4,.ptr (some (7,0))),(12,.bool true)] [(7,.cells [.str Vb,.int .i64 1,.bool false])] 8 cO cP b fl nx lf es rt) _;refine iO  2 (XQ []) (alB cO cP b fl nx lf es rt) ?_ ?_
 . repeat' (first|exact cR|refine ju ?_ ?_)
   all_goals first|decide|trivial
 show TG ak 7 Tryz.f83.ntmps (de 2 I5) (I6 [(0,.ptr (some (3,0))),(4,.ptr (some (7,0))),(5,.str [121]),(6,.di none 0 0 0)] [(7,.cells [.str Vb,.int .i64 3,.bool false])] 8 cO cP b fl nx lf es rt) _;refine cV U ?_;refine fR (XQ []) (alC cO cP b fl nx lf es rt) (dG ?_);refine⟨?_,fun s' dL=>?_⟩
 . repeat' (first|exact cR|refine ju ?_ ?_)
   all_goals first|decide|trivial
 refine c6 dL ?_;refine tF [7] (s2:=I6 [(0,.ptr (some (3,0))),(5,.str [121]),(6,.di (some (7,0)) 1 1 1)] [(7,.deep [.str dA])] 8 cO cP b fl nx lf es rt) U ?_;refine xJ [7] (A:=[[D.str dA].length=1*1]) (s2:={ I6 [(0,.ptr (some (3,0))),(5,.str [121]),(6,.dM false 1 [.str dA])] [(7,.deep [.str dA])] 8 cO cP b fl nx lf es rt with h:=(hL (eP (pS cO cP b fl nx lf es rt)++[(7,.deep [.str dA])])).set 7 none }) U (fun x hx=>?_) ?_
 . rw[aq]at hx;subst hx;rfl
 refine c6 (live:=[0,5,6]) (s2:=stE cO cP b fl nx lf es rt) U ?_;have ue:=alD cO cP b fl nx lf es rt;have e1:dH [.str dA]=[dA]:=rfl;simp only[e1,Ym]at ue;refine o9 (XQ []) mo _ U ue (dG ?_);refine⟨?_,_,_,_,rfl,rfl,rfl,rfl⟩
 repeat' (first|exact cR|refine ju ?_ ?_)
 all_goals first|rfl|decide|trivial
end
def Lo:Rq:=fun p args=>match p.lo,p.off,p.arm with
 |some (cO,cP,b),false,false=>match args with
  | [.ptr (some (3,0)),.str body]=>match eG body Vb with
    |true=>some ([],.ef [],Vc cO cP b p.fl p.nx p.lf p.es p.rs dB,7)
    |false=>none
  |_=>none
 |_,_,_=>none
theorem kM:∀{a b:aa},eG a b=true->a=b
 | [],[],_=>rfl
 |x::a,y::b,h=>by
  simp only[eG]at h;split at h
  . rename_i hx;rw[kM h,UInt8.toNat_inj.1 (aD hx)]
  . cases h
 | [],_::_,h=>by cases h
 |_::_,[],h=>by cases h
theorem aaH:jG ak 83 (U1 Lo):=by
 refine U2 (au U) Tryz.func83 (code:=Lm) U fun p args A v1 h1 n1 e hA=>?_;obtain⟨lo,fl,nx,off,arm,lf,es,rs⟩:=p;unfold Lo at e;simp only at e;split at e
 case h_2=>cases e
 rename_i x1 x2 x3 cO cP b;split at e
 case h_2=>cases e
 rename_i body;split at e
 case h_2=>cases e
 rename_i hb;have hb:=kM hb;subst hb;simp only[an,aB]at e;obtain⟨rfl,rfl,rfl,rfl⟩:=e;exact⟨U,alE cO cP b fl nx lf es rs⟩
noncomputable abbrev W15:jL:=kA 83 (U1 Lo) W14
theorem RE:gd ak W15:=fk aaH Li
noncomputable abbrev Be:e9:=gG ak W15 H0 1000 40
noncomputable abbrev XT:CX ak:=CX.of mo po RE H0 1000 40
noncomputable abbrev RF:Code:=dS Tryz.f57
noncomputable abbrev OM:Code:=de 3 RF
noncomputable abbrev ae8:Code:=dx (dV (dK OM))
noncomputable abbrev ae9:Code:=Eng.rA ae8
noncomputable abbrev afa:Code:=Eng.rB ae8
def ON:aa:=ae5++rN
def v103:V:=.fn (.func 103) [] [.ptr (some (11,0))]
section
variable(cO cP:Nat)(b:aa)(fl lf:Int)(es rt:ae)
def lRv(nx:Int)(lI lX:ae)(en:Int):af:=[(0,.ints .u32 gS),(1,.ints .u32 gR),(3,.cells [.di (some (4,0)) cO cP 1,.int .i64 fl,.map (some 7),.map (some 8),.int .i64 nx,.bool false,.bool false,.int .i64 lf]),(4,.iX 5 false b),(5,.dy none es),(6,.dy none rt),(7,.dy none lI),(8,.dy none lX),(9,.cells [.ptr (some (3,0))]),(10,.cells [.int .i64 en])]
end
def tU:ae:=[(.str dA,eA),(.str dB,eB)]
section
variable(cO cP:Nat)(b:aa)(fl nx lf:Int)(es rt:ae)
theorem afc:c7 Be [] 7 Tryz.f57 [1,2] (eO 3 RF) (cT [.ptr (some (3,0))] (eu (pS cO cP b fl nx lf es rt)) 7) [([],[],.to .normal (eF [(1,.ptr (some (9,0))),(2,.ptr (some (10,0)))] (hL [(0,.ints .u32 gS),(1,.ints .u32 gR),(3,.cells [.di (some (4,0)) cO cP 1,.int .i64 fl,.map (some 7),.map (some 8),.int .i64 0,.bool false,.bool false,.int .i64 lf]),(4,.iX 5 false b),(5,.dy none es),(6,.dy none rt),(7,.map [] 0),(8,.map [] 0),(9,.cells [.ptr (some (3,0))]),(10,.cells [.int .i64 0])]) 11))]:=
 cQ.of U U U
end
section
variable(cO cP:Nat)(b:aa)(fl nx lf:Int)
def alG:List (Option Nat):=[some 0,some 1,some 2,some 3,some 7,some 5,some 6]
def h57:Tr O:=hL [(0,.ints .u32 gS),(1,.ints .u32 gR),(3,.cells [.di (some (7,0)) 91 91 1,.int .i64 91,.map (some 9),.map (some 10),.int .i64 2,.bool false,.bool false,.int .i64 lf]),(4,.iX 5 false b),(5,.dy none esS),(6,.dy none U6),(7,.iX 5 false ON),(8,.cells [.ptr (some (3,0))]),(9,.dy none tU),(10,.dy none U6)]
end
end Go.Proofs.YtfihojpgobmmdaaGreatDoor
