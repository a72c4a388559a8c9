/- The Chunk laws: sanity, Compact's first half. No conditions. -/
import Derived.Test.YtfihojpgobmmdaaGreatDoorJointW07
import Derived.Test.YtfihojpgobmmdaaGreatDoorJointW08
set_option linter.unusedVariables false
set_option linter.unusedSimpArgs false
set_option linter.unusedSectionVars false
namespace Go.Proofs.YtfihojpgobmmdaaGreatDoor
open Go Go.Eng
noncomputable abbrev Rj:Code:=dP Tryz.f51
noncomputable abbrev GI:Code:=de 4 Rj
noncomputable abbrev aeD:Code:=dw (ee (dK GI))
noncomputable abbrev aap:Code:=rA aeD
noncomputable abbrev aaq:Code:=rB aeD
noncomputable abbrev GJ:Code:=dP Tryz.f78
def lC(cO cP:Nat)(b:aa)(fl nx lf:Int)(es rt:ae):af:=[(0,.ints .u32 gS),(1,.ints .u32 gR),(3,.cells [.dj (some (4,0)) cO cP 1,.int .i64 fl,.map (some 5),.map (some 6),.int .i64 nx,.bool false,.bool false,.int .i64 lf]),(4,.iU 5 false b),(5,.dF none es),(6,.dF none rt),(7,.cells [.ptr (some (3,0))]),(19,.cells [.map (some 6)])]
def v78:V:=.fn (.func 78) [] [.ptr (some (19,0))]
section
end
def Mt:Code->Nat | .region i _ _=>i|_=>0
def Yd:Code->Nat | .block i _=>i|_=>0
def Dd(c:Code)(i:Nat):Oper:=(wT c).toList.getD i default
noncomputable def sq(c:Code):q7:=
 ⟨Mt (dK c),Mt (dK (dw (dw (ee c)))),Mt (dK (dw (ee (ee (dw (dw (ee c))))))),Dd (dK c) 0,Dd (dK c) 1,Dd (dK (dw (dw (ee c)))) 0,Dd (dK (dw (dw (ee c)))) 1,
  Dd (dK (dw (ee (ee (dw (dw (ee c))))))) 0,(wT (dK (dw (ee (ee (dw (dw (ee c)))))))).toList.tail,Yd (ee c),Yd (ee (ee (dw (dw (ee c))))),Xy (dK (ee (dw (dw (ee c))))),ee (dw (ee (ee (dw (dw (ee c))))))⟩
def GK(o:Oper):TypeId:=match o.op with | .range t _=>t|_=>0
noncomputable def aar(t:TypeId):TypeId:=match Tryz.prog.underlying t with|some (.map k _)=>k|_=>0
noncomputable def aas(t:TypeId):TypeId:=match Tryz.prog.underlying t with|some (.map _ e)=>e|_=>0
theorem aeE:GJ=(sq GJ).code:=by kernel_rfl
noncomputable abbrev El:Code:=dP Tryz.f81
theorem aeF:El=(sq El).code:=by kernel_rfl
theorem Mu:sj ak Tryz.f78.ntmps (sq GJ) (.tmp 5) 6:=
 ⟨U,U,U,U,⟨GK (sq GJ).oR,aar (GK (sq GJ).oR),aas (GK (sq GJ).oR),U,U⟩,U,U,U,U,au rfl⟩
theorem Mv:sj ak Tryz.f81.ntmps (sq El) (.tmp 4) 5:=
 ⟨U,U,U,U,⟨GK (sq El).oR,aar (GK (sq El).oR),aas (GK (sq El).oR),U,U⟩,U,U,U,U,au rfl⟩
def dA:aa:=[2,143,13,245,184,89,111,188,209,12,151,32,183,164,120,79,142,126,4,246,41,189,90,98,191,189,241,57,103,139,102,36]
def dB:aa:=[2,0,227,41,71,203,8,171,164,202,84,84,254,249,10,138,12,255,62,110,197,82,81,216,2,100,190,234,142,14,23,255]
def dZ:aa:=[12,52,209,150,179,80,244,8,94,45,21,205,102,195,192,169,125,80,156,122,62,79,6,250,229,93,93,120,21,103,11,60]
def dW:aa:=[35,95,214,175,20,142,21,202,151,71,13,237,237,76,72,234,146,53,15,127,206,192,87,87,51,33,159,135,81,237,161,19]
def dQ:aa:=[142,53,194,205,59,246,100,27,219,14,32,80,183,105,50,203,178,230,3,74,13,218,204,29,155,234,130,166,186,87,247,207]
def rA:aa:=[4,1,1,120,0,127,220,33,176]
def rB:aa:=[36,1,1,121,1,2,143,13,245,184,89,111,188,209,12,151,32,183,164,120,79,142,126,4,246,41,189,90,98,191,189,241,57,103,139,102,36,200,76,115,100]
def rZ:aa:=[4,1,1,122,0,77,234,67,50]
def rW:aa:=[4,1,1,119,0,248,68,61,127]
def rN:aa:=[36,2,1,114,32,2,0,227,41,71,203,8,171,164,202,84,84,254,249,10,138,12,255,62,110,197,82,81,216,2,100,190,234,142,14,23,255,137,56,251,159]
theorem aeG:dM [120] []=dA:=by kernel_rfl
theorem Ye:dM [121] [dA]=dB:=by kernel_rfl
theorem aeH:dM [122] []=dZ:=by kernel_rfl
theorem aeI:dM [119] []=dW:=by kernel_rfl
theorem Yf:Ej [113]=dQ:=by kernel_rfl
def eA:D:=pW [120] [] 0
def eB:D:=pW [121] [dA] 1
def eZ:D:=pW [122] [] 2
def esS:ae:=[(.str dA,eA),(.str dB,eB),(.str dZ,eZ)]
def UQ:ae:=[(.str [114],.str dB)]
def aeJ:ae:=[(.str dB,.bool true),(.str dA,.bool true)]
section
variable(cO cP:Nat)(b:aa)(fl nx lf:Int)
section
variable(sn:ae)
def lRd:af:=[(0,.ints .u32 gS),(1,.ints .u32 gR),(3,.cells [.dj (some (4,0)) cO cP 1,.int .i64 fl,.map (some 5),.map (some 6),.int .i64 nx,.bool false,.bool false,.int .i64 lf]),(4,.iU 5 false b),(5,.dF none esS),(6,.dF none UQ),(7,.cells [.ptr (some (3,0))]),(19,.cells [.map (some 6)]),(20,.cells [.map (some 21)]),(21,.dF none sn),(22,.cells [.fn (.func 77) [] [.ptr (some (20,0)),.ptr (some (23,0)),.ptr (some (22,0))]]),(23,.cells [.ptr (some (3,0))])]
def sRd:St:=eF [(5,.ptr (some (20,0))),(6,.ptr (some (22,0))),(10,v78)] (hL (lRd cO cP b fl nx lf sn)) 24
noncomputable def hV:Tr O:=hL (lRd cO cP b fl nx lf sn++[(24,.my),(25,.loop true none (sRd cO cP b fl nx lf []).fr [11] aap aaq)])
end
end
section
variable(cO cP:Nat)(b:aa)(fl nx lf:Int)
end
noncomputable abbrev Rk:Code:=dP Tryz.f100
noncomputable abbrev Oj:Code:=de 1 Rk
noncomputable abbrev aeK:Code:=dw (ee (dK Oj))
noncomputable abbrev UR:Code:=Eng.rA aeK
noncomputable abbrev US:Code:=Eng.rB aeK
noncomputable abbrev K4:Code:=dP Tryz.f54
noncomputable abbrev K5:Code:=dP Tryz.f79
def v81:V:=.fn (.func 81) [] [.ptr (some (21,0))]
def v56:V:=.fn (.func 56) [] [.ptr (some (7,0))]
section
variable(cO cP:Nat)(b:aa)(fl nx lf:Int)
def lSf:af:=[(0,.ints .u32 gS),(1,.ints .u32 gR),(3,.cells [.dj (some (4,0)) cO cP 1,.int .i64 fl,.map (some 5),.map (some 6),.int .i64 nx,.bool false,.bool false,.int .i64 lf]),(4,.iU 5 false b),(5,.dF none esS),(6,.dF none UQ),(7,.cells [.ptr (some (3,0))]),(19,.cells [.map (some 6)]),(20,.dF none aeJ),(21,.cells [.map (some 20)])]
def sAp:St:=eF [(2,.ptr (some (22,0))),(6,v81)] (hL (lSf cO cP b fl nx lf++[(22,.cells [.dj none 0 0 0])])) 23
noncomputable def oLp:O:=.loop true none (sAp cO cP b fl nx lf).fr [7] UR US
noncomputable def hK0:Tr O:=hL (lSf cO cP b fl nx lf++[(22,.cells [.dj none 0 0 0]),(23,.my),(24,oLp cO cP b fl nx lf)])
def TM(s:St)(k:aa)(v:V):St:={ s with fr:=((((s.fr.set 6 (some (.ew [.bool true,.str k,v]))).set 7 (some (.bool true))).set 8 (some (.ew [.str k,v]))).set 9 (some (.str k))).set 3 (some (.str k)) }
end
section
variable(cO cP:Nat)(b:aa)(fl nx lf:Int)
end
theorem qb{n0 N:Nat}{c:Code}{s s1:St}{Q:Exit->St->Prop}{f:FuncId}{args:ag}{R:V->Tr O->Nat->Prop}(k:Nat)(hk:c= .region (Mt c) (((wT c).toList.take k)++Dd c k::(wT c).toList.drop (k+1)).toArray false)(iD:eX N c=true)
  (h1:ja ak UK (((wT c).toList.take k)++Dd c k::(wT c).toList.drop (k+1)).toArray ((wT c).toList.take k) s=some (.normal,s1)) (hg:(Dd c k).guard=none) (ho:dz ak (Dd c k) s1.fr s1.h s1.n=some (.call f args)) (uQ:(callee ak f&&Nat.blt f Tryz.prog.funcs.size)=true) (hc:fQ ak f args s1.h s1.n R)
  (hq:∀v h n,R v h n->∃fr s2,iV s1.fr (Dd c k).dst v=some fr/\ja ak UK (((wT c).toList.take k)++Dd c k::(wT c).toList.drop (k+1)).toArray ((wT c).toList.drop (k+1)) { s1 with fr:=fr,h:=h,n:=n }=some (.normal,s2)/\Q .normal s2):TG ak n0 N c s Q:=by
 rw[hk]at iD ⊢;exact Ri (GF _) iD h1 hg ho uQ hc hq
section
variable(cO cP:Nat)(b:aa)(fl nx lf:Int)
end
noncomputable abbrev Ol:Code:=dP Tryz.f19
noncomputable abbrev Rl:Code:=dP Tryz.f113
noncomputable abbrev Au:Code:=de 1 Rl
noncomputable abbrev aeL:Code:=dw (ee (dK Au))
noncomputable abbrev UT:Code:=Eng.rA aeL
noncomputable abbrev UU:Code:=Eng.rB aeL
noncomputable abbrev Em:Code:=dP Tryz.f88
noncomputable abbrev En:Code:=dP Tryz.f61
noncomputable abbrev Eo:Code:=dP Tryz.f86
noncomputable abbrev Om:Code:=dP Tryz.f23
def aeM:aa:=[4,1,1,120,0,127,220,33,176,36,1,1,121,1,2,143,13,245,184,89,111,188,209,12,151,32,183,164,120,79,142,126,4,246,41,189,90,98,191,189,241,57,103,139,102,36,200,76,115,100]
section
variable(cO cP:Nat)(b:aa)(fl nx lf:Int)
end
theorem aeN:Em=(sq Em).code:=by kernel_rfl
theorem Mw:sj ak Tryz.f88.ntmps (sq Em) (.tmp 4) 5:=
 ⟨U,U,U,U,⟨GK (sq Em).oR,aar (GK (sq Em).oR),aas (GK (sq Em).oR),U,U⟩,U,U,U,U,au rfl⟩
section
variable(cO cP:Nat)(b:aa)(fl nx lf:Int)
theorem De{a:ag}{h:Tr O}{n:Nat}:a=a/\h=h/\n=n:=⟨rfl,rfl,rfl⟩
end
end Go.Proofs.YtfihojpgobmmdaaGreatDoor
