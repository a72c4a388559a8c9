/- The Chunk laws: sanity, Compact's first half. No conditions. -/
import Derived.Test.YtfihojpgobmmdaaGreatDoorJointW07
import Derived.Test.YtfihojpgobmmdaaGreatDoorJointW08
set_option linter.unusedVariables false
set_option linter.unusedSimpArgs false
set_option linter.unusedSectionVars false
namespace Go.Proofs.YtfihojpgobmmdaaGreatDoor
open Go Go.Eng
noncomputable abbrev QT:Code:=dU Tryz.f51
noncomputable abbrev Gr:Code:=dh 4 QT
noncomputable abbrev adV:Code:=dr (dY (dO Gr))
noncomputable abbrev ZQ:Code:=rA adV
noncomputable abbrev ZR:Code:=rB adV
noncomputable abbrev Gs:Code:=dU Tryz.f78
def lC(cN cO:Nat)(b:aa)(fl nx lf:Int)(es rt:ae):af:=[(0,.ints .u32 gS),(1,.ints .u32 gR),(3,.cells [.di (some (4,0)) cN cO 1,.int .i64 fl,.map (some 5),.map (some 6),.int .i64 nx,.bool false,.bool false,.int .i64 lf]),(4,.iS 5 false b),(5,.dD none es),(6,.dD none rt),(7,.cells [.ptr (some (3,0))]),(19,.cells [.map (some 6)])]
def v78:V:=.fn (.func 78) [] [.ptr (some (19,0))]
section
end
def L0:Code->Nat | .region i _ _=>i|_=>0
def Xr:Code->Nat | .block i _=>i|_=>0
def CU(c:Code)(i:Nat):Oper:=(wL c).toList.getD i default
noncomputable def si(c:Code):qV:=
 ⟨L0 (dO c),L0 (dO (dr (dr (dY c)))),L0 (dO (dr (dY (dY (dr (dr (dY c))))))),CU (dO c) 0,CU (dO c) 1,CU (dO (dr (dr (dY c)))) 0,CU (dO (dr (dr (dY c)))) 1,
  CU (dO (dr (dY (dY (dr (dr (dY c))))))) 0,(wL (dO (dr (dY (dY (dr (dr (dY c)))))))).toList.tail,Xr (dY c),Xr (dY (dY (dr (dr (dY c))))),WS (dO (dY (dr (dr (dY c))))),dY (dr (dY (dY (dr (dr (dY c))))))⟩
def Gt(o:Oper):TypeId:=match o.op with | .range t _=>t|_=>0
noncomputable def ZS(t:TypeId):TypeId:=match Tryz.prog.underlying t with|some (.map k _)=>k|_=>0
noncomputable def ZT(t:TypeId):TypeId:=match Tryz.prog.underlying t with|some (.map _ e)=>e|_=>0
theorem adW:Gs=(si Gs).code:=by kernel_rfl
noncomputable abbrev D4:Code:=dU Tryz.f81
theorem adX:D4=(si D4).code:=by kernel_rfl
theorem L9:r9 ak Tryz.f78.ntmps (si Gs) (.tmp 5) 6:=
 ⟨U,U,U,U,⟨Gt (si Gs).oR,ZS (Gt (si Gs).oR),ZT (Gt (si Gs).oR),U,U⟩,U,U,U,U,au rfl⟩
theorem Ma:r9 ak Tryz.f81.ntmps (si D4) (.tmp 4) 5:=
 ⟨U,U,U,U,⟨Gt (si D4).oR,ZS (Gt (si D4).oR),ZT (Gt (si D4).oR),U,U⟩,U,U,U,U,au rfl⟩
def dA:aa:=[2,143,13,245,184,89,111,188,209,12,151,32,183,164,120,79,142,126,4,246,41,189,90,98,191,189,241,57,103,139,102,36]
def dB:aa:=[2,0,227,41,71,203,8,171,164,202,84,84,254,249,10,138,12,255,62,110,197,82,81,216,2,100,190,234,142,14,23,255]
def dZ:aa:=[12,52,209,150,179,80,244,8,94,45,21,205,102,195,192,169,125,80,156,122,62,79,6,250,229,93,93,120,21,103,11,60]
def dW:aa:=[35,95,214,175,20,142,21,202,151,71,13,237,237,76,72,234,146,53,15,127,206,192,87,87,51,33,159,135,81,237,161,19]
def dQ:aa:=[142,53,194,205,59,246,100,27,219,14,32,80,183,105,50,203,178,230,3,74,13,218,204,29,155,234,130,166,186,87,247,207]
def rA:aa:=[4,1,1,120,0,127,220,33,176]
def rB:aa:=[36,1,1,121,1,2,143,13,245,184,89,111,188,209,12,151,32,183,164,120,79,142,126,4,246,41,189,90,98,191,189,241,57,103,139,102,36,200,76,115,100]
def rZ:aa:=[4,1,1,122,0,77,234,67,50]
def rW:aa:=[4,1,1,119,0,248,68,61,127]
def rN:aa:=[36,2,1,114,32,2,0,227,41,71,203,8,171,164,202,84,84,254,249,10,138,12,255,62,110,197,82,81,216,2,100,190,234,142,14,23,255,137,56,251,159]
theorem adY:dJ [120] []=dA:=by kernel_rfl
theorem Xs:dJ [121] [dA]=dB:=by kernel_rfl
theorem adZ:dJ [122] []=dZ:=by kernel_rfl
theorem ad0:dJ [119] []=dW:=by kernel_rfl
theorem Xt:D2 [113]=dQ:=by kernel_rfl
def eA:D:=pO [120] [] 0
def eB:D:=pO [121] [dA] 1
def eZ:D:=pO [122] [] 2
def esS:ae:=[(.str dA,eA),(.str dB,eB),(.str dZ,eZ)]
def Ui:ae:=[(.str [114],.str dB)]
def ad1:ae:=[(.str dB,.bool true),(.str dA,.bool true)]
section
variable(cN cO:Nat)(b:aa)(fl nx lf:Int)
section
variable(sn:ae)
def lRd:af:=[(0,.ints .u32 gS),(1,.ints .u32 gR),(3,.cells [.di (some (4,0)) cN cO 1,.int .i64 fl,.map (some 5),.map (some 6),.int .i64 nx,.bool false,.bool false,.int .i64 lf]),(4,.iS 5 false b),(5,.dD none esS),(6,.dD none Ui),(7,.cells [.ptr (some (3,0))]),(19,.cells [.map (some 6)]),(20,.cells [.map (some 21)]),(21,.dD none sn),(22,.cells [.fn (.func 77) [] [.ptr (some (20,0)),.ptr (some (23,0)),.ptr (some (22,0))]]),(23,.cells [.ptr (some (3,0))])]
def sRd:St:=eG [(5,.ptr (some (20,0))),(6,.ptr (some (22,0))),(10,v78)] (hL (lRd cN cO b fl nx lf sn)) 24
noncomputable def hV:Tr O:=hL (lRd cN cO b fl nx lf sn++[(24,.me),(25,.loop true none (sRd cN cO b fl nx lf []).fr [11] ZQ ZR)])
end
end
section
variable(cN cO:Nat)(b:aa)(fl nx lf:Int)
end
noncomputable abbrev QU:Code:=dU Tryz.f100
noncomputable abbrev NW:Code:=dh 1 QU
noncomputable abbrev ad2:Code:=dr (dY (dO NW))
noncomputable abbrev Uj:Code:=Eng.rA ad2
noncomputable abbrev Uk:Code:=Eng.rB ad2
noncomputable abbrev KL:Code:=dU Tryz.f54
noncomputable abbrev KM:Code:=dU Tryz.f79
def v81:V:=.fn (.func 81) [] [.ptr (some (21,0))]
def v56:V:=.fn (.func 56) [] [.ptr (some (7,0))]
section
variable(cN cO:Nat)(b:aa)(fl nx lf:Int)
def lSf:af:=[(0,.ints .u32 gS),(1,.ints .u32 gR),(3,.cells [.di (some (4,0)) cN cO 1,.int .i64 fl,.map (some 5),.map (some 6),.int .i64 nx,.bool false,.bool false,.int .i64 lf]),(4,.iS 5 false b),(5,.dD none esS),(6,.dD none Ui),(7,.cells [.ptr (some (3,0))]),(19,.cells [.map (some 6)]),(20,.dD none ad1),(21,.cells [.map (some 20)])]
def sAp:St:=eG [(2,.ptr (some (22,0))),(6,v81)] (hL (lSf cN cO b fl nx lf++[(22,.cells [.di none 0 0 0])])) 23
noncomputable def oLp:O:=.loop true none (sAp cN cO b fl nx lf).fr [7] Uj Uk
noncomputable def hK0:Tr O:=hL (lSf cN cO b fl nx lf++[(22,.cells [.di none 0 0 0]),(23,.me),(24,oLp cN cO b fl nx lf)])
def Td(s:St)(k:aa)(v:V):St:={ s with fr:=((((s.fr.set 6 (some (.eo [.bool true,.str k,v]))).set 7 (some (.bool true))).set 8 (some (.eo [.str k,v]))).set 9 (some (.str k))).set 3 (some (.str k)) }
end
section
variable(cN cO:Nat)(b:aa)(fl nx lf:Int)
end
theorem pW{n0 N:Nat}{c:Code}{s s1:St}{Q:Exit->St->Prop}{f:FuncId}{args:ag}{R:V->Tr O->Nat->Prop}(k:Nat)(hk:c= .region (L0 c) (((wL c).toList.take k)++CU c k::(wL c).toList.drop (k+1)).toArray false)(iA:eS N c=true)
  (h1:iY ak Uc (((wL c).toList.take k)++CU c k::(wL c).toList.drop (k+1)).toArray ((wL c).toList.take k) s=some (.normal,s1)) (hg:(CU c k).guard=none) (ho:dy ak (CU c k) s1.fr s1.h s1.n=some (.call f args)) (uJ:(callee ak f&&Nat.blt f Tryz.prog.funcs.size)=true) (hc:fO ak f args s1.h s1.n R)
  (hq:∀v h n,R v h n->∃fr s2,iT s1.fr (CU c k).dst v=some fr/\iY ak Uc (((wL c).toList.take k)++CU c k::(wL c).toList.drop (k+1)).toArray ((wL c).toList.drop (k+1)) { s1 with fr:=fr,h:=h,n:=n }=some (.normal,s2)/\Q .normal s2):TG ak n0 N c s Q:=by
 rw[hk]at iA ⊢;exact QS (Gn _) iA h1 hg ho uJ hc hq
section
variable(cN cO:Nat)(b:aa)(fl nx lf:Int)
end
noncomputable abbrev NX:Code:=dU Tryz.f19
noncomputable abbrev QV:Code:=dU Tryz.f113
noncomputable abbrev Ag:Code:=dh 1 QV
noncomputable abbrev ad3:Code:=dr (dY (dO Ag))
noncomputable abbrev Ul:Code:=Eng.rA ad3
noncomputable abbrev Um:Code:=Eng.rB ad3
noncomputable abbrev D5:Code:=dU Tryz.f88
noncomputable abbrev D6:Code:=dU Tryz.f61
noncomputable abbrev D7:Code:=dU Tryz.f86
noncomputable abbrev NY:Code:=dU Tryz.f23
def ad4:aa:=[4,1,1,120,0,127,220,33,176,36,1,1,121,1,2,143,13,245,184,89,111,188,209,12,151,32,183,164,120,79,142,126,4,246,41,189,90,98,191,189,241,57,103,139,102,36,200,76,115,100]
section
variable(cN cO:Nat)(b:aa)(fl nx lf:Int)
end
theorem ad5:D5=(si D5).code:=by kernel_rfl
theorem Mb:r9 ak Tryz.f88.ntmps (si D5) (.tmp 4) 5:=
 ⟨U,U,U,U,⟨Gt (si D5).oR,ZS (Gt (si D5).oR),ZT (Gt (si D5).oR),U,U⟩,U,U,U,U,au rfl⟩
section
variable(cN cO:Nat)(b:aa)(fl nx lf:Int)
theorem CV{a:ag}{h:Tr O}{n:Nat}:a=a/\h=h/\n=n:=⟨rfl,rfl,rfl⟩
end
end Go.Proofs.YtfihojpgobmmdaaGreatDoor
