/- Lemmas on the chunk store. No conditions. -/
import Derived.Test.YtfihojpgobmmdaaGreatDoorJointW07
import Derived.Test.YtfihojpgobmmdaaGreatDoorJointW08
set_option linter.unusedVariables false
set_option linter.unusedSimpArgs false
set_option linter.unusedSectionVars false
namespace Go.Proofs.YtfihojpgobmmdaaGreatDoor
open Go Go.Eng
noncomputable abbrev RP:Code:=dN Tryz.f51
noncomputable abbrev GY:Code:=dh 4 RP
noncomputable abbrev afh:Code:=dz (dY (dP GY))
noncomputable abbrev aa2:Code:=rA afh
noncomputable abbrev aa3:Code:=rB afh
noncomputable abbrev GZ:Code:=dN Tryz.f78
def lC(T A:Nat)(b:L)(X R O:Int)(Q F:ae):af:=[(0,.ints .u32 gS),(1,.ints .u32 gR),(3,.cells [.dj (some (4,0)) T A 1,.int .i64 X,.map (some 5),.map (some 6),.int .i64 R,.bool false,.bool false,.int .i64 O]),(4,.jf 5 false b),(5,.dI none Q),(6,.dI none F),(7,.cells [.ptr (some (3,0))]),(19,.cells [.map (some 6)])]
def v78:V:=.fn (.func 78) [] [.ptr (some (19,0))]
section
end
def MP:Code->Nat | .region i _ _=>i|_=>0
def YQ:Code->Nat | .block i _=>i|_=>0
def Dw(c:Code)(i:Nat):Oper:=(xp c).toList.getD i default
noncomputable def sO(c:Code):rM:=
 ⟨MP (dP c),MP (dP (dz (dz (dY c)))),MP (dP (dz (dY (dY (dz (dz (dY c))))))),Dw (dP c) 0,Dw (dP c) 1,Dw (dP (dz (dz (dY c)))) 0,Dw (dP (dz (dz (dY c)))) 1,
  Dw (dP (dz (dY (dY (dz (dz (dY c))))))) 0,(xp (dP (dz (dY (dY (dz (dz (dY c)))))))).toList.tail,YQ (dY c),YQ (dY (dY (dz (dz (dY c))))),Yr (dP (dY (dz (dz (dY c))))),dY (dz (dY (dY (dz (dz (dY c))))))⟩
def G0(o:Oper):TypeId:=match o.op with | .range t _=>t|_=>0
noncomputable def aa4(t:TypeId):TypeId:=match Tryz.prog.underlying t with|some (.map k _)=>k|_=>0
noncomputable def aa5(t:TypeId):TypeId:=match Tryz.prog.underlying t with|some (.map _ e)=>e|_=>0
theorem afi:GZ=(sO GZ).code:=by kernel_rfl
noncomputable abbrev Ey:Code:=dN Tryz.f81
theorem afj:Ey=(sO Ey).code:=by kernel_rfl
theorem MQ:sM ak Tryz.f78.ntmps (sO GZ) (.tmp 5) 6:=
 ⟨U,U,U,U,⟨G0 (sO GZ).oR,aa4 (G0 (sO GZ).oR),aa5 (G0 (sO GZ).oR),U,U⟩,U,U,U,U,au rfl⟩
theorem MR:sM ak Tryz.f81.ntmps (sO Ey) (.tmp 4) 5:=
 ⟨U,U,U,U,⟨G0 (sO Ey).oR,aa4 (G0 (sO Ey).oR),aa5 (G0 (sO Ey).oR),U,U⟩,U,U,U,U,au rfl⟩
def dA:L:=[2,143,13,245,184,89,111,188,209,12,151,32,183,164,120,79,142,126,4,246,41,189,90,98,191,189,241,57,103,139,102,36]
def dB:L:=[2,0,227,41,71,203,8,171,164,202,84,84,254,249,10,138,12,255,62,110,197,82,81,216,2,100,190,234,142,14,23,255]
def dZ:L:=[12,52,209,150,179,80,244,8,94,45,21,205,102,195,192,169,125,80,156,122,62,79,6,250,229,93,93,120,21,103,11,60]
def dW:L:=[35,95,214,175,20,142,21,202,151,71,13,237,237,76,72,234,146,53,15,127,206,192,87,87,51,33,159,135,81,237,161,19]
def dQ:L:=[142,53,194,205,59,246,100,27,219,14,32,80,183,105,50,203,178,230,3,74,13,218,204,29,155,234,130,166,186,87,247,207]
def rA:L:=[4,1,1,120,0,127,220,33,176]
def rB:L:=[36,1,1,121,1,2,143,13,245,184,89,111,188,209,12,151,32,183,164,120,79,142,126,4,246,41,189,90,98,191,189,241,57,103,139,102,36,200,76,115,100]
def rZ:L:=[4,1,1,122,0,77,234,67,50]
def rW:L:=[4,1,1,119,0,248,68,61,127]
def rN:L:=[36,2,1,114,32,2,0,227,41,71,203,8,171,164,202,84,84,254,249,10,138,12,255,62,110,197,82,81,216,2,100,190,234,142,14,23,255,137,56,251,159]
theorem afk:dw [120] []=dA:=by kernel_rfl
theorem YR:dw [121] [dA]=dB:=by kernel_rfl
theorem afl:dw [122] []=dZ:=by kernel_rfl
theorem afm:dw [119] []=dW:=by kernel_rfl
theorem YS:Ex [113]=dQ:=by kernel_rfl
def eA:rs:=oF [120] [] 0
def eB:rs:=oF [121] [dA] 1
def eZ:rs:=oF [122] [] 2
def esS:ae:=[(.str dA,eA),(.str dB,eB),(.str dZ,eZ)]
def Vr:ae:=[(.str [114],.str dB)]
def afn:ae:=[(.str dB,.bool true),(.str dA,.bool true)]
section
variable(T A:Nat)(b:L)(X R O:Int)
section
variable(sn:ae)
def lRd:af:=[(0,.ints .u32 gS),(1,.ints .u32 gR),(3,.cells [.dj (some (4,0)) T A 1,.int .i64 X,.map (some 5),.map (some 6),.int .i64 R,.bool false,.bool false,.int .i64 O]),(4,.jf 5 false b),(5,.dI none esS),(6,.dI none Vr),(7,.cells [.ptr (some (3,0))]),(19,.cells [.map (some 6)]),(20,.cells [.map (some 21)]),(21,.dI none sn),(22,.cells [.fn (.func 77) [] [.ptr (some (20,0)),.ptr (some (23,0)),.ptr (some (22,0))]]),(23,.cells [.ptr (some (3,0))])]
def sRd:St:=eG [(5,.ptr (some (20,0))),(6,.ptr (some (22,0))),(10,v78)] (J (lRd T A b X R O sn)) 24
noncomputable def hV:H lf:=J (lRd T A b X R O sn++[(24,.mF),(25,.loop true none (sRd T A b X R O []).S [11] aa2 aa3)])
end
end
section
variable(T A:Nat)(b:L)(X R O:Int)
end
noncomputable abbrev RQ:Code:=dN Tryz.f100
noncomputable abbrev OK:Code:=dh 1 RQ
noncomputable abbrev afo:Code:=dz (dY (dP OK))
noncomputable abbrev Vs:Code:=Eng.rA afo
noncomputable abbrev Vt:Code:=Eng.rB afo
noncomputable abbrev Lq:Code:=dN Tryz.f54
noncomputable abbrev Lr:Code:=dN Tryz.f79
def v81:V:=.fn (.func 81) [] [.ptr (some (21,0))]
def v56:V:=.fn (.func 56) [] [.ptr (some (7,0))]
section
variable(T A:Nat)(b:L)(X R O:Int)
def lSf:af:=[(0,.ints .u32 gS),(1,.ints .u32 gR),(3,.cells [.dj (some (4,0)) T A 1,.int .i64 X,.map (some 5),.map (some 6),.int .i64 R,.bool false,.bool false,.int .i64 O]),(4,.jf 5 false b),(5,.dI none esS),(6,.dI none Vr),(7,.cells [.ptr (some (3,0))]),(19,.cells [.map (some 6)]),(20,.dI none afn),(21,.cells [.map (some 20)])]
def sAp:St:=eG [(2,.ptr (some (22,0))),(6,v81)] (J (lSf T A b X R O++[(22,.cells [.dj none 0 0 0])])) 23
noncomputable def oLp:lf:=.loop true none (sAp T A b X R O).S [7] Vs Vt
noncomputable def hK0:H lf:=J (lSf T A b X R O++[(22,.cells [.dj none 0 0 0]),(23,.mF),(24,oLp T A b X R O)])
def Um(s:St)(k:L)(v:V):St:={ s with S:=((((s.S.set 6 (some (.ew [.bool true,.str k,v]))).set 7 (some (.bool true))).set 8 (some (.ew [.str k,v]))).set 9 (some (.str k))).set 3 (some (.str k)) }
end
section
variable(T A:Nat)(b:L)(X R O:Int)
end
theorem qt{M h1:Nat}{c:Code}{s s1:St}{es:Exit->St->Prop}{f:FuncId}{args:ag}{nx:V->H lf->Nat->Prop}(k:Nat)(hk:c= .region (MP c) (((xp c).toList.take k)++Dw c k::(xp c).toList.drop (k+1)).toArray false)(iy:fc h1 c=true)
  (N:jl ak Vl (((xp c).toList.take k)++Dw c k::(xp c).toList.drop (k+1)).toArray ((xp c).toList.take k) s=some (.normal,s1)) (hg:(Dw c k).guard=none) (ho:dJ ak (Dw c k) s1.S s1.h s1.n=some (.call f args)) (vh:(callee ak f&&Nat.blt f Tryz.prog.funcs.size)=true) (I:gh ak f args s1.h s1.n nx)
  (hq:∀v h n,nx v h n->∃S s2,jg s1.S (Dw c k).dst v=some S/\jl ak Vl (((xp c).toList.take k)++Dw c k::(xp c).toList.drop (k+1)).toArray ((xp c).toList.drop (k+1)) { s1 with S:=S,h:=h,n:=n }=some (.normal,s2)/\es .normal s2):TG ak M h1 c s es:=by
 rw[hk]at iy ⊢;exact RO (GV _) iy N hg ho vh I hq
section
variable(T A:Nat)(b:L)(X R O:Int)
end
noncomputable abbrev OL:Code:=dN Tryz.f19
noncomputable abbrev RT:Code:=dN Tryz.f113
noncomputable abbrev AJ:Code:=dh 1 RT
noncomputable abbrev afp:Code:=dz (dY (dP AJ))
noncomputable abbrev Vu:Code:=Eng.rA afp
noncomputable abbrev Vv:Code:=Eng.rB afp
noncomputable abbrev Ez:Code:=dN Tryz.f88
noncomputable abbrev EA:Code:=dN Tryz.f61
noncomputable abbrev EB:Code:=dN Tryz.f86
noncomputable abbrev OM:Code:=dN Tryz.f23
def afq:L:=[4,1,1,120,0,127,220,33,176,36,1,1,121,1,2,143,13,245,184,89,111,188,209,12,151,32,183,164,120,79,142,126,4,246,41,189,90,98,191,189,241,57,103,139,102,36,200,76,115,100]
section
variable(T A:Nat)(b:L)(X R O:Int)
end
theorem afr:Ez=(sO Ez).code:=by kernel_rfl
theorem MS:sM ak Tryz.f88.ntmps (sO Ez) (.tmp 4) 5:=
 ⟨U,U,U,U,⟨G0 (sO Ez).oR,aa4 (G0 (sO Ez).oR),aa5 (G0 (sO Ez).oR),U,U⟩,U,U,U,U,au rfl⟩
section
variable(T A:Nat)(b:L)(X R O:Int)
theorem Dx{a:ag}{h:H lf}{n:Nat}:a=a/\h=h/\n=n:=⟨rfl,rfl,rfl⟩
end
end Go.Proofs.YtfihojpgobmmdaaGreatDoor
