/- The Chunk laws: sanity, Compact's first half. No conditions. -/
import Derived.Test.YtfihojpgobmmdaaGreatDoorJointW07
import Derived.Test.YtfihojpgobmmdaaGreatDoorJointW08
set_option linter.unusedVariables false
set_option linter.unusedSimpArgs false
set_option linter.unusedSectionVars false
namespace Go.Proofs.YtfihojpgobmmdaaGreatDoor
open Go Go.Eng
noncomputable abbrev Rz:Code:=dS Tryz.f51
noncomputable abbrev GP:Code:=de 4 Rz
noncomputable abbrev aeW:Code:=dx (dV (dK GP))
noncomputable abbrev aaD:Code:=rA aeW
noncomputable abbrev aaE:Code:=rB aeW
noncomputable abbrev GQ:Code:=dS Tryz.f78
def lC(cO cP:Nat)(b:aa)(fl nx lf:Int)(es rt:ae):af:=[(0,.ints .u32 gS),(1,.ints .u32 gR),(3,.cells [.di (some (4,0)) cO cP 1,.int .i64 fl,.map (some 5),.map (some 6),.int .i64 nx,.bool false,.bool false,.int .i64 lf]),(4,.iX 5 false b),(5,.dy none es),(6,.dy none rt),(7,.cells [.ptr (some (3,0))]),(19,.cells [.map (some 6)])]
def v78:V:=.fn (.func 78) [] [.ptr (some (19,0))]
section
end
def MK:Code->Nat | .region i _ _=>i|_=>0
def Yl:Code->Nat | .block i _=>i|_=>0
def Df(c:Code)(i:Nat):Oper:=(wV c).toList.getD i default
noncomputable def sA(c:Code):qZ:=
 ⟨MK (dK c),MK (dK (dx (dx (dV c)))),MK (dK (dx (dV (dV (dx (dx (dV c))))))),Df (dK c) 0,Df (dK c) 1,Df (dK (dx (dx (dV c)))) 0,Df (dK (dx (dx (dV c)))) 1,
  Df (dK (dx (dV (dV (dx (dx (dV c))))))) 0,(wV (dK (dx (dV (dV (dx (dx (dV c)))))))).toList.tail,Yl (dV c),Yl (dV (dV (dx (dx (dV c))))),XH (dK (dV (dx (dx (dV c))))),dV (dx (dV (dV (dx (dx (dV c))))))⟩
def GR(o:Oper):TypeId:=match o.op with | .range t _=>t|_=>0
noncomputable def aaF(t:TypeId):TypeId:=match Tryz.prog.underlying t with|some (.map k _)=>k|_=>0
noncomputable def aaG(t:TypeId):TypeId:=match Tryz.prog.underlying t with|some (.map _ e)=>e|_=>0
theorem aeX:GQ=(sA GQ).code:=by kernel_rfl
noncomputable abbrev Em:Code:=dS Tryz.f81
theorem aeY:Em=(sA Em).code:=by kernel_rfl
theorem ML:su ak Tryz.f78.ntmps (sA GQ) (.tmp 5) 6:=
 ⟨U,U,U,U,⟨GR (sA GQ).oR,aaF (GR (sA GQ).oR),aaG (GR (sA GQ).oR),U,U⟩,U,U,U,U,au rfl⟩
theorem MM:su ak Tryz.f81.ntmps (sA Em) (.tmp 4) 5:=
 ⟨U,U,U,U,⟨GR (sA Em).oR,aaF (GR (sA Em).oR),aaG (GR (sA Em).oR),U,U⟩,U,U,U,U,au rfl⟩
def dA:aa:=[2,143,13,245,184,89,111,188,209,12,151,32,183,164,120,79,142,126,4,246,41,189,90,98,191,189,241,57,103,139,102,36]
def dB:aa:=[2,0,227,41,71,203,8,171,164,202,84,84,254,249,10,138,12,255,62,110,197,82,81,216,2,100,190,234,142,14,23,255]
def dZ:aa:=[12,52,209,150,179,80,244,8,94,45,21,205,102,195,192,169,125,80,156,122,62,79,6,250,229,93,93,120,21,103,11,60]
def dW:aa:=[35,95,214,175,20,142,21,202,151,71,13,237,237,76,72,234,146,53,15,127,206,192,87,87,51,33,159,135,81,237,161,19]
def dQ:aa:=[142,53,194,205,59,246,100,27,219,14,32,80,183,105,50,203,178,230,3,74,13,218,204,29,155,234,130,166,186,87,247,207]
def rA:aa:=[4,1,1,120,0,127,220,33,176]
def rB:aa:=[36,1,1,121,1,2,143,13,245,184,89,111,188,209,12,151,32,183,164,120,79,142,126,4,246,41,189,90,98,191,189,241,57,103,139,102,36,200,76,115,100]
def rZ:aa:=[4,1,1,122,0,77,234,67,50]
def rW:aa:=[4,1,1,119,0,248,68,61,127]
def rN:aa:=[36,2,1,114,32,2,0,227,41,71,203,8,171,164,202,84,84,254,249,10,138,12,255,62,110,197,82,81,216,2,100,190,234,142,14,23,255,137,56,251,159]
theorem aeZ:dN [120] []=dA:=by kernel_rfl
theorem Ym:dN [121] [dA]=dB:=by kernel_rfl
theorem ae0:dN [122] []=dZ:=by kernel_rfl
theorem ae1:dN [119] []=dW:=by kernel_rfl
theorem Yn:Ek [113]=dQ:=by kernel_rfl
def eA:D:=pU [120] [] 0
def eB:D:=pU [121] [dA] 1
def eZ:D:=pU [122] [] 2
def esS:ae:=[(.str dA,eA),(.str dB,eB),(.str dZ,eZ)]
def U6:ae:=[(.str [114],.str dB)]
def ae2:ae:=[(.str dB,.bool true),(.str dA,.bool true)]
section
variable(cO cP:Nat)(b:aa)(fl nx lf:Int)
section
variable(sn:ae)
def lRd:af:=[(0,.ints .u32 gS),(1,.ints .u32 gR),(3,.cells [.di (some (4,0)) cO cP 1,.int .i64 fl,.map (some 5),.map (some 6),.int .i64 nx,.bool false,.bool false,.int .i64 lf]),(4,.iX 5 false b),(5,.dy none esS),(6,.dy none U6),(7,.cells [.ptr (some (3,0))]),(19,.cells [.map (some 6)]),(20,.cells [.map (some 21)]),(21,.dy none sn),(22,.cells [.fn (.func 77) [] [.ptr (some (20,0)),.ptr (some (23,0)),.ptr (some (22,0))]]),(23,.cells [.ptr (some (3,0))])]
def sRd:St:=eF [(5,.ptr (some (20,0))),(6,.ptr (some (22,0))),(10,v78)] (hL (lRd cO cP b fl nx lf sn)) 24
noncomputable def hV:Tr O:=hL (lRd cO cP b fl nx lf sn++[(24,.mA),(25,.loop true none (sRd cO cP b fl nx lf []).fr [11] aaD aaE)])
end
end
section
variable(cO cP:Nat)(b:aa)(fl nx lf:Int)
end
noncomputable abbrev RA:Code:=dS Tryz.f100
noncomputable abbrev OJ:Code:=de 1 RA
noncomputable abbrev ae3:Code:=dx (dV (dK OJ))
noncomputable abbrev U7:Code:=Eng.rA ae3
noncomputable abbrev U8:Code:=Eng.rB ae3
noncomputable abbrev Lj:Code:=dS Tryz.f54
noncomputable abbrev Ll:Code:=dS Tryz.f79
def v81:V:=.fn (.func 81) [] [.ptr (some (21,0))]
def v56:V:=.fn (.func 56) [] [.ptr (some (7,0))]
section
variable(cO cP:Nat)(b:aa)(fl nx lf:Int)
def lSf:af:=[(0,.ints .u32 gS),(1,.ints .u32 gR),(3,.cells [.di (some (4,0)) cO cP 1,.int .i64 fl,.map (some 5),.map (some 6),.int .i64 nx,.bool false,.bool false,.int .i64 lf]),(4,.iX 5 false b),(5,.dy none esS),(6,.dy none U6),(7,.cells [.ptr (some (3,0))]),(19,.cells [.map (some 6)]),(20,.dy none ae2),(21,.cells [.map (some 20)])]
def sAp:St:=eF [(2,.ptr (some (22,0))),(6,v81)] (hL (lSf cO cP b fl nx lf++[(22,.cells [.di none 0 0 0])])) 23
noncomputable def oLp:O:=.loop true none (sAp cO cP b fl nx lf).fr [7] U7 U8
noncomputable def hK0:Tr O:=hL (lSf cO cP b fl nx lf++[(22,.cells [.di none 0 0 0]),(23,.mA),(24,oLp cO cP b fl nx lf)])
def T3(s:St)(k:aa)(v:V):St:={ s with fr:=((((s.fr.set 6 (some (.ef [.bool true,.str k,v]))).set 7 (some (.bool true))).set 8 (some (.ef [.str k,v]))).set 9 (some (.str k))).set 3 (some (.str k)) }
end
section
variable(cO cP:Nat)(b:aa)(fl nx lf:Int)
end
theorem p9{n0 N:Nat}{c:Code}{s s1:St}{Q:Exit->St->Prop}{f:FuncId}{args:ag}{R:V->Tr O->Nat->Prop}(k:Nat)(hk:c= .region (MK c) (((wV c).toList.take k)++Df c k::(wV c).toList.drop (k+1)).toArray false)(ic:eU N c=true)
  (h1:je ak U0 (((wV c).toList.take k)++Df c k::(wV c).toList.drop (k+1)).toArray ((wV c).toList.take k) s=some (.normal,s1)) (hg:(Df c k).guard=none) (ho:dD ak (Df c k) s1.fr s1.h s1.n=some (.call f args)) (uR:(callee ak f&&Nat.blt f Tryz.prog.funcs.size)=true) (hc:fU ak f args s1.h s1.n R)
  (hq:∀v h n,R v h n->∃fr s2,iZ s1.fr (Df c k).dst v=some fr/\je ak U0 (((wV c).toList.take k)++Df c k::(wV c).toList.drop (k+1)).toArray ((wV c).toList.drop (k+1)) { s1 with fr:=fr,h:=h,n:=n }=some (.normal,s2)/\Q .normal s2):TG ak n0 N c s Q:=by
 rw[hk]at ic ⊢;exact Ry (GM _) ic h1 hg ho uR hc hq
section
variable(cO cP:Nat)(b:aa)(fl nx lf:Int)
end
noncomputable abbrev OK:Code:=dS Tryz.f19
noncomputable abbrev RB:Code:=dS Tryz.f113
noncomputable abbrev Az:Code:=de 1 RB
noncomputable abbrev ae4:Code:=dx (dV (dK Az))
noncomputable abbrev U9:Code:=Eng.rA ae4
noncomputable abbrev Va:Code:=Eng.rB ae4
noncomputable abbrev En:Code:=dS Tryz.f88
noncomputable abbrev Eo:Code:=dS Tryz.f61
noncomputable abbrev Ep:Code:=dS Tryz.f86
noncomputable abbrev OL:Code:=dS Tryz.f23
def ae5:aa:=[4,1,1,120,0,127,220,33,176,36,1,1,121,1,2,143,13,245,184,89,111,188,209,12,151,32,183,164,120,79,142,126,4,246,41,189,90,98,191,189,241,57,103,139,102,36,200,76,115,100]
section
variable(cO cP:Nat)(b:aa)(fl nx lf:Int)
end
theorem ae6:En=(sA En).code:=by kernel_rfl
theorem MN:su ak Tryz.f88.ntmps (sA En) (.tmp 4) 5:=
 ⟨U,U,U,U,⟨GR (sA En).oR,aaF (GR (sA En).oR),aaG (GR (sA En).oR),U,U⟩,U,U,U,U,au rfl⟩
section
variable(cO cP:Nat)(b:aa)(fl nx lf:Int)
theorem Dg{a:ag}{h:Tr O}{n:Nat}:a=a/\h=h/\n=n:=⟨rfl,rfl,rfl⟩
end
end Go.Proofs.YtfihojpgobmmdaaGreatDoor
