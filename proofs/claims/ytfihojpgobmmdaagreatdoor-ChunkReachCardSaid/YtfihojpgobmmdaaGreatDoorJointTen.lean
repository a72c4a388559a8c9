/- The Chunk laws: sanity, Compact's first half. No conditions. -/
import Derived.Test.YtfihojpgobmmdaaGreatDoorJointEight
import Derived.Test.YtfihojpgobmmdaaGreatDoorJointNine
set_option linter.unusedVariables false
set_option linter.unusedSimpArgs false
set_option linter.unusedSectionVars false
namespace Go.Proofs.YtfihojpgobmmdaaGreatDoor
open Go Go.Eng
noncomputable abbrev cdRd:Code:=bodyOf Tryz.f51
noncomputable abbrev tlRd:Code:=tailN 4 cdRd
noncomputable abbrev rgRd:Code:=inner (seqR (seqL tlRd))
noncomputable abbrev asRd:Code:=rA rgRd
noncomputable abbrev boRd:Code:=rB rgRd
noncomputable abbrev cdVl:Code:=bodyOf Tryz.f78
def lC (len cap:Nat) (b:List UInt8) (fl nx lf:Int) (es rt:List (D × D)):List (Nat × O):=[(0,.ints .u32 gS),(1,.ints .u32 gR),(3,.cells [.slc (some (4,0)) len cap 1,.int .i64 fl,.map (some 5),.map (some 6),.int .i64 nx,.bool false,.bool false,.int .i64 lf]),(4,.buf 5 false b),(5,.mapD none es),(6,.mapD none rt),(7,.cells [.ptr (some (3,0))]),(19,.cells [.map (some 6)])]
def v78:V:=.fn (.func 78) [] [.ptr (some (19,0))]
section
theorem rd_1 (len cap:Nat) (b:List UInt8) (fl nx lf:Int) (es rt:List (D × D)):∃ L,RunIs Tryz.prog (csQ []) [] 1000 20 Tryz.f51 [1,5,6] (headN 4 cdRd) (startSt [.ptr (some (3,0)),v78] (hL (lC len cap b fl nx lf es rt)) 20) L
  [([],
   [],
   .to .normal (stG [(1,.fn (.func 78) [] [.ptr (some (19,0))]),(5,.ptr (some (20,0))),(6,.ptr (some (22,0)))] (hL [(0,.ints .u32 gS),(1,.ints .u32 gR),(3,.cells [.slc (some (4,0)) len cap 1,.int .i64 fl,.map (some 5),.map (some 6),.int .i64 nx,.bool false,.bool false,.int .i64 lf]),(4,.buf 5 false (b)),(5,.mapD none (es)),(6,.mapD none (rt)),(7,.cells [.ptr (some (3,0))]),(19,.cells [.map (some 6)]),(20,.cells [.map (some 21)]),(21,.map [] 0),(22,.cells [.fn (.func 77) [] [.ptr (some (20,0)),.ptr (some (23,0)),.ptr (some (22,0))]]),(23,.cells [.ptr (some (3,0))])]) 24))]
 :=RunIs.of (by kernel_rfl) (by kernel_rfl) (by kernel_rfl)
end
end Go.Proofs.YtfihojpgobmmdaaGreatDoor
namespace Go.Proofs.YtfihojpgobmmdaaGreatDoor
open Go Go.Eng
def regId:Code→Nat | .region i _ _=>i | _=>0
def blkId:Code→Nat | .block i _=>i | _=>0
def opAt (c:Code) (i:Nat):Oper:=(opsOf c).toList.getD i default
noncomputable def mlOf (c:Code):MapLoop:=
 ⟨regId (seqL c),regId (seqL (inner (inner (seqR c)))),regId (seqL (inner (seqR (seqR (inner (inner (seqR c))))))),opAt (seqL c) 0,opAt (seqL c) 1,opAt (seqL (inner (inner (seqR c)))) 0,opAt (seqL (inner (inner (seqR c)))) 1,
  opAt (seqL (inner (seqR (seqR (inner (inner (seqR c))))))) 0,(opsOf (seqL (inner (seqR (seqR (inner (inner (seqR c)))))))).toList.tail,blkId (seqR c),blkId (seqR (seqR (inner (inner (seqR c))))),condO (seqL (seqR (inner (inner (seqR c))))),seqR (inner (seqR (seqR (inner (inner (seqR c))))))⟩
def rngT (o:Oper):TypeId:=match o.op with | .range t _=>t | _=>0
noncomputable def mapK (t:TypeId):TypeId:=match Tryz.prog.underlying t with | some (.map k _)=>k | _=>0
noncomputable def mapE (t:TypeId):TypeId:=match Tryz.prog.underlying t with | some (.map _ e)=>e | _=>0
theorem ml78:cdVl=(mlOf cdVl).code:=by kernel_rfl
noncomputable abbrev cdKy:Code:=bodyOf Tryz.f81
theorem ml81:cdKy=(mlOf cdKy).code:=by kernel_rfl
theorem ml78_ok:MapLoopOk Tryz.prog Tryz.f78.ntmps (mlOf cdVl) (.tmp 5) 6:=
 ⟨by kernel_rfl,by kernel_rfl,by kernel_rfl,by kernel_rfl,⟨rngT (mlOf cdVl).oR,mapK (rngT (mlOf cdVl).oR),mapE (rngT (mlOf cdVl).oR),by kernel_rfl,by kernel_rfl⟩,by kernel_rfl,by kernel_rfl,by kernel_rfl,by kernel_rfl,Nat.le_of_ble_eq_true rfl⟩
theorem ml81_ok:MapLoopOk Tryz.prog Tryz.f81.ntmps (mlOf cdKy) (.tmp 4) 5:=
 ⟨by kernel_rfl,by kernel_rfl,by kernel_rfl,by kernel_rfl,⟨rngT (mlOf cdKy).oR,mapK (rngT (mlOf cdKy).oR),mapE (rngT (mlOf cdKy).oR),by kernel_rfl,by kernel_rfl⟩,by kernel_rfl,by kernel_rfl,by kernel_rfl,by kernel_rfl,Nat.le_of_ble_eq_true rfl⟩
end Go.Proofs.YtfihojpgobmmdaaGreatDoor
namespace Go.Proofs.YtfihojpgobmmdaaGreatDoor
open Go Go.Eng
def dA:List UInt8:=[2,143,13,245,184,89,111,188,209,12,151,32,183,164,120,79,142,126,4,246,41,189,90,98,191,189,241,57,103,139,102,36]
def dB:List UInt8:=[2,0,227,41,71,203,8,171,164,202,84,84,254,249,10,138,12,255,62,110,197,82,81,216,2,100,190,234,142,14,23,255]
def dZ:List UInt8:=[12,52,209,150,179,80,244,8,94,45,21,205,102,195,192,169,125,80,156,122,62,79,6,250,229,93,93,120,21,103,11,60]
def dW:List UInt8:=[35,95,214,175,20,142,21,202,151,71,13,237,237,76,72,234,146,53,15,127,206,192,87,87,51,33,159,135,81,237,161,19]
def rA:List UInt8:=[4,1,1,120,0,127,220,33,176]
def rB:List UInt8:=[36,1,1,121,1,2,143,13,245,184,89,111,188,209,12,151,32,183,164,120,79,142,126,4,246,41,189,90,98,191,189,241,57,103,139,102,36,200,76,115,100]
def rZ:List UInt8:=[4,1,1,122,0,77,234,67,50]
def rW:List UInt8:=[4,1,1,119,0,248,68,61,127]
def rN:List UInt8:=[36,2,1,114,32,2,0,227,41,71,203,8,171,164,202,84,84,254,249,10,138,12,255,62,110,197,82,81,216,2,100,190,234,142,14,23,255,137,56,251,159]
theorem nA_is:nameOf [120] []=dA:=by kernel_rfl
theorem nB_is:nameOf [121] [dA]=dB:=by kernel_rfl
theorem nZ_is:nameOf [122] []=dZ:=by kernel_rfl
theorem nW_is:nameOf [119] []=dW:=by kernel_rfl
theorem rA_is:recB [120] []=rA:=by kernel_rfl
theorem rB_is:recB [121] [dA]=rB:=by kernel_rfl
theorem rZ_is:recB [122] []=rZ:=by kernel_rfl
theorem rW_is:recB [119] []=rW:=by kernel_rfl
end Go.Proofs.YtfihojpgobmmdaaGreatDoor
namespace Go.Proofs.YtfihojpgobmmdaaGreatDoor
open Go Go.Eng
def eA:D:=entD [120] [] 0
def eB:D:=entD [121] [dA] 1
def eZ:D:=entD [122] [] 2
def esS:List (D × D):=[(.str dA,eA),(.str dB,eB),(.str dZ,eZ)]
def rtS:List (D × D):=[(.str [114],.str dB)]
def seen1:List (D × D):=[(.str dB,.bool true),(.str dA,.bool true)]
section
variable (len cap:Nat) (b:List UInt8) (fl nx lf:Int)
def lRd (sn:List (D × D)):List (Nat × O):=[(0,.ints .u32 gS),(1,.ints .u32 gR),(3,.cells [.slc (some (4,0)) len cap 1,.int .i64 fl,.map (some 5),.map (some 6),.int .i64 nx,.bool false,.bool false,.int .i64 lf]),(4,.buf 5 false b),(5,.mapD none esS),(6,.mapD none rtS),(7,.cells [.ptr (some (3,0))]),(19,.cells [.map (some 6)]),(20,.cells [.map (some 21)]),(21,.mapD none sn),(22,.cells [.fn (.func 77) [] [.ptr (some (20,0)),.ptr (some (23,0)),.ptr (some (22,0))]]),(23,.cells [.ptr (some (3,0))])]
def sRd (sn:List (D × D)):St:=stG [(5,.ptr (some (20,0))),(6,.ptr (some (22,0))),(10,v78)] (hL (lRd len cap b fl nx lf sn)) 24
noncomputable def hV (sn:List (D × D)):Tr O:=hL (lRd len cap b fl nx lf sn ++ [(24,.dfr),(25,.loop true none (sRd len cap b fl nx lf []).fr [11] asRd boRd)])
noncomputable def SV (sn:List (D × D)):St:=stG [(0,.fn (.yield 25) [] []),(6,.ptr (some (26,0)))] ((hV len cap b fl nx lf sn).set 6 none) 27
noncomputable def s4V:St:={ SV len cap b fl nx lf [] with fr:=(((((SV len cap b fl nx lf []).fr.set 7 (some (.tup [.bool true,.str [114],.str dB]))).set 8 (some (.bool true))).set 9 (some (.tup [.str [114],.str dB]))).set 10 (some (.str dB))).set 4 (some (.str dB)) }
end
theorem rd_2 (len cap:Nat) (b:List UInt8) (fl nx lf:Int):∃ L,RunIs Tryz.prog (csQ []) [] 1000 20 Tryz.f51 [5,6,10] (seqL (seqL tlRd)) (stG [(1,v78),(5,.ptr (some (20,0))),(6,.ptr (some (22,0)))] (hL (lRd len cap b fl nx lf [])) 24) L
  [([],
   [],
   .to .normal (stG [(5,.ptr (some (20,0))),(6,.ptr (some (22,0))),(10,.fn (.func 78) [] [.ptr (some (19,0))])] (hL [(0,.ints .u32 gS),(1,.ints .u32 gR),(3,.cells [.slc (some (4,0)) len cap 1,.int .i64 fl,.map (some 5),.map (some 6),.int .i64 nx,.bool false,.bool false,.int .i64 lf]),(4,.buf 5 false (b)),(5,.mapD none [(.str [2,143,13,245,184,89,111,188,209,12,151,32,183,164,120,79,142,126,4,246,41,189,90,98,191,189,241,57,103,139,102,36],.agg [.str [120],.lst 0 [],.int .i64 0]),(.str [2,0,227,41,71,203,8,171,164,202,84,84,254,249,10,138,12,255,62,110,197,82,81,216,2,100,190,234,142,14,23,255],.agg [.str [121],.lst 1 [.str [2,143,13,245,184,89,111,188,209,12,151,32,183,164,120,79,142,126,4,246,41,189,90,98,191,189,241,57,103,139,102,36]],.int .i64 1]),(.str [12,52,209,150,179,80,244,8,94,45,21,205,102,195,192,169,125,80,156,122,62,79,6,250,229,93,93,120,21,103,11,60],.agg [.str [122],.lst 0 [],.int .i64 2])]),(6,.mapD none [(.str [114],.str [2,0,227,41,71,203,8,171,164,202,84,84,254,249,10,138,12,255,62,110,197,82,81,216,2,100,190,234,142,14,23,255])]),(7,.cells [.ptr (some (3,0))]),(19,.cells [.map (some 6)]),(20,.cells [.map (some 21)]),(21,.mapD none []),(22,.cells [.fn (.func 77) [] [.ptr (some (20,0)),.ptr (some (23,0)),.ptr (some (22,0))]]),(23,.cells [.ptr (some (3,0))])]) 24))]
 :=RunIs.of (by kernel_rfl) (by kernel_rfl) (by kernel_rfl)
end Go.Proofs.YtfihojpgobmmdaaGreatDoor
namespace Go.Proofs.YtfihojpgobmmdaaGreatDoor
open Go Go.Eng
section
variable (len cap:Nat) (b:List UInt8) (fl nx lf:Int)
abbrev JV (vis:List (D × D)) (s1:St):Prop:=(vis=[]∧normG 27 [0,6] s1=some (SV len cap b fl nx lf [])) ∨ (vis=rtS∧normG 27 [0,6] s1=some (SV len cap b fl nx lf seen1))
theorem vl_1b:∃ L,RunIs Tryz.prog (csQ []) [] 1000 27 Tryz.f78 [0,6] ((mlOf cdVl).rest) (s4V len cap b fl nx lf) L [([],[(0:Int) ≤ 0∧(0:Int) < 1,1=1],.to .normal (SV len cap b fl nx lf seen1))]:=
 RunIs.of (by kernel_rfl) (by kernel_rfl) (by kernel_rfl)
theorem call78:CallsOne Tryz.prog 78 [.fn (.yield 25) [] [],.ptr (some (19,0))] (hV len cap b fl nx lf []) 26 fun v h n=>v= .tup []∧h=hV len cap b fl nx lf seen1∧n=26:=by
 refine callsOne_of_TG mo po Tryz.func78 (code:=cdVl) (by kernel_rfl) (by kernel_rfl) ?_
 rw [ml78]
 refine TG_maps (v0:=.map (some 6)) (fr0:=(startSt [.fn (.yield 25) [] [],.ptr (some (19,0))] (hV len cap b fl nx lf []) 26).fr.set 5 (some (.map (some 6)))) (fr1:=((startSt [.fn (.yield 25) [] [],.ptr (some (19,0))] (hV len cap b fl nx lf []) 26).fr.set 5 (some (.map (some 6)))).set 6 (some (.ptr (some (26,0))))) (m:=6) (kd:=none) (es:=rtS) mo ml78_ok
  (by kernel_rfl) (by kernel_rfl) (by kernel_rfl) (by kernel_rfl) (Nat.le_of_ble_eq_true rfl) (by kernel_rfl) (JV len cap b fl nx lf) (.inl ⟨rfl,by kernel_rfl⟩) ?_
 rintro vis left s1 (⟨rfl,hs⟩ | ⟨rfl,hs⟩) hp
 · refine ⟨[0,6],_,hs,by kernel_rfl,fun hl=>?_,fun e left' he=>?_⟩
   · subst hl
     have:=hp.length_eq
     simp [rtS] at this
   · have h1:=(he.symm.trans hp).length_eq
     have hl':left'=[]:=by
      simp only [rtS,List.length_cons,List.length_nil] at h1
      exact List.eq_nil_of_length_eq_zero (by omega)
     subst hl'
     have h2:e=(.str [114],.str dB):=by
      have:e ∈ rtS:=(he.symm.trans hp).mem_iff.1 (by simp)
      simpa [rtS] using this
     subst h2
     refine ⟨(SV len cap b fl nx lf []).fr.set 7 (some (.tup [.bool true,.str [114],.str dB])),{ SV len cap b fl nx lf [] with fr:=((SV len cap b fl nx lf []).fr.set 7 (some (.tup [.bool true,.str [114],.str dB]))).set 8 (some (.bool true)) },
      (((SV len cap b fl nx lf []).fr.set 7 (some (.tup [.bool true,.str [114],.str dB]))).set 8 (some (.bool true))).set 9 (some (.tup [.str [114],.str dB])),s4V len cap b fl nx lf,by kernel_rfl,by kernel_rfl,by kernel_rfl,by kernel_rfl,by kernel_rfl,by kernel_rfl,by kernel_rfl,by kernel_rfl,?_⟩
     obtain ⟨L,hr⟩:=vl_1b len cap b fl nx lf
     refine TG_is (XQ []) mo anyR (by kernel_rfl) hr fun g hg _=>?_
     rw [List.mem_singleton] at hg; subst hg
     refine ⟨?_,fun s' hs'=>.inr ⟨rfl,hs'⟩⟩
     repeat' (first | exact all_nil | refine List.forall_mem_cons.2 ⟨?_,?_⟩)
     · first | decide | trivial
     · first | rfl | trivial
 · refine ⟨[0,6],_,hs,by kernel_rfl,fun hl=>?_,fun e left' he=>?_⟩
   · refine ⟨(SV len cap b fl nx lf seen1).fr.set 7 (some (.tup [.bool false])),{ SV len cap b fl nx lf seen1 with fr:=((SV len cap b fl nx lf seen1).fr.set 7 (some (.tup [.bool false]))).set 8 (some (.bool false)) },by kernel_rfl,by kernel_rfl,by kernel_rfl,.inl rfl,.tup [],hV len cap b fl nx lf seen1,26,by kernel_rfl,rfl,rfl,rfl⟩
   · have h1:=hp.length_eq
     have h2:=he.length_eq
     simp only [List.length_append,rtS,List.length_cons,List.length_nil] at h1 h2
     omega
def hRd:Tr O:=hL [(0,.ints .u32 gS),(1,.ints .u32 gR),(3,.cells [.slc (some (4,0)) len cap 1,.int .i64 fl,.map (some 5),.map (some 6),.int .i64 nx,.bool false,.bool false,.int .i64 lf]),(4,.buf 5 false b),(5,.mapD none esS),(6,.mapD none rtS),(7,.cells [.ptr (some (3,0))]),(19,.cells [.map (some 6)]),(20,.mapD none seen1)]
theorem call51:CallIs Tryz.prog 51 [.ptr (some (3,0)),v78] (hL (lC len cap b fl nx lf esS rtS)) 20 (.map (some 20)) (hRd len cap b fl nx lf) 21:=by
 refine callIs_of_TG Tryz.func51 (code:=cdRd) (by kernel_rfl) (by kernel_rfl) ?_
 obtain ⟨L1,hr1⟩:=rd_1 len cap b fl nx lf esS rtS
 refine TG_isN1 4 (XQ []) mo (by kernel_rfl) hr1 all_nil ?_
 refine TG_map [(21,none)] (s2:=stG [(1,v78),(5,.ptr (some (20,0))),(6,.ptr (some (22,0)))] (hL (lRd len cap b fl nx lf [])) 24) (by kernel_rfl) ?_
 show TG Tryz.prog 20 Tryz.f51.ntmps tlRd _ _
 refine TG_seq' (by kernel_rfl) ?_
 refine TG_seq' (by kernel_rfl) ?_
 obtain ⟨L2,hr2⟩:=rd_2 len cap b fl nx lf
 refine TG_is (XQ []) mo anyR (by kernel_rfl) hr2 fun g hg _=>?_
 rw [List.mem_singleton] at hg; subst hg
 refine ⟨all_nil,fun s' hs'=>?_⟩
 have hs':normG 20 [5,6,10] s'=some (sRd len cap b fl nx lf []):=hs'
 refine TG_norm hs' ?_
 refine TG_block (i:=0) (by kernel_rfl) ?_
 refine TG_rangeN (gf:=78) (lb:=[.ptr (some (19,0))]) (by kernel_rfl) (by kernel_rfl) (by kernel_rfl) (by kernel_rfl) (by kernel_rfl) (R:=fun v h n=>v= .tup []∧h=hV len cap b fl nx lf seen1∧n=26) (call78 len cap b fl nx lf) ?_
 rintro v h n ⟨rfl,rfl,rfl⟩
 refine ⟨by kernel_rfl,?_⟩
 show TG Tryz.prog 20 Tryz.f51.ntmps (seqR tlRd) _ _
 have hrd:∃ L,RunIs Tryz.prog (csQ []) [] 1000 20 Tryz.f51 [] (seqR tlRd) (rEnd (sRd len cap b fl nx lf []) (hV len cap b fl nx lf seen1) 26) L [([],[],.ret (.map (some 20)) (hRd len cap b fl nx lf) 21)]:=
  RunIs.of (by kernel_rfl) (by kernel_rfl) (by kernel_rfl)
 obtain ⟨L5,hr5⟩:=hrd
 refine TG_ret (XQ []) mo _ (by kernel_rfl) hr5 fun g hg _=>?_
 rw [List.mem_singleton] at hg; subst hg
 exact ⟨all_nil,_,_,_,rfl,rfl,rfl,rfl⟩
end
end Go.Proofs.YtfihojpgobmmdaaGreatDoor
namespace Go.Proofs.YtfihojpgobmmdaaGreatDoor
open Go Go.Eng
noncomputable abbrev cdAp:Code:=bodyOf Tryz.f100
noncomputable abbrev tlAp:Code:=tailN 1 cdAp
noncomputable abbrev rgAp:Code:=inner (seqR (seqL tlAp))
noncomputable abbrev asAp:Code:=Eng.rA rgAp
noncomputable abbrev boAp:Code:=Eng.rB rgAp
noncomputable abbrev cdSo:Code:=bodyOf Tryz.f54
noncomputable abbrev cdCl:Code:=bodyOf Tryz.f79
def v81:V:=.fn (.func 81) [] [.ptr (some (21,0))]
def v56:V:=.fn (.func 56) [] [.ptr (some (7,0))]
section
variable (len cap:Nat) (b:List UInt8) (fl nx lf:Int)
def lSf:List (Nat × O):=[(0,.ints .u32 gS),(1,.ints .u32 gR),(3,.cells [.slc (some (4,0)) len cap 1,.int .i64 fl,.map (some 5),.map (some 6),.int .i64 nx,.bool false,.bool false,.int .i64 lf]),(4,.buf 5 false b),(5,.mapD none esS),(6,.mapD none rtS),(7,.cells [.ptr (some (3,0))]),(19,.cells [.map (some 6)]),(20,.mapD none seen1),(21,.cells [.map (some 20)])]
def lSg:List (Nat × O):=[(0,.ints .u32 gS),(1,.ints .u32 gR),(3,.cells [.slc (some (4,0)) len cap 1,.int .i64 fl,.map (some 5),.map (some 6),.int .i64 nx,.bool false,.bool false,.int .i64 lf]),(4,.buf 5 false b),(5,.mapD none esS),(6,.mapD none rtS),(7,.cells [.ptr (some (3,0))]),(19,.cells [.map (some 6)]),(21,.cells [.map (some 20)])]
def sAp:St:=stG [(2,.ptr (some (22,0))),(6,v81)] (hL (lSf len cap b fl nx lf ++ [(22,.cells [.slc none 0 0 0])])) 23
noncomputable def oLp:O:=.loop true none (sAp len cap b fl nx lf).fr [7] asAp boAp
noncomputable def hK0:Tr O:=hL (lSf len cap b fl nx lf ++ [(22,.cells [.slc none 0 0 0]),(23,.dfr),(24,oLp len cap b fl nx lf)])
noncomputable def SK0:St:=stG [(0,.fn (.yield 24) [] []),(5,.ptr (some (25,0)))] (hL (lSg len cap b fl nx lf ++ [(22,.cells [.slc none 0 0 0]),(23,.dfr),(24,oLp len cap b fl nx lf)])) 26
noncomputable def SK1 (x:List UInt8):St:=stG [(0,.fn (.yield 24) [] []),(5,.ptr (some (25,0)))] (hL (lSg len cap b fl nx lf ++ [(22,.cells [.slc (some (26,0)) 1 1 1]),(23,.dfr),(24,oLp len cap b fl nx lf),(26,.cells [.str x])])) 27
noncomputable def SK2 (x y:List UInt8):St:=stG [(0,.fn (.yield 24) [] []),(5,.ptr (some (25,0)))] (hL (lSg len cap b fl nx lf ++ [(22,.cells [.slc (some (26,0)) 2 2 1]),(23,.dfr),(24,oLp len cap b fl nx lf),(26,.cells [.str x,.str y])])) 27
def kSt (s:St) (k:List UInt8) (v:V):St:={ s with fr:=((((s.fr.set 6 (some (.tup [.bool true,.str k,v]))).set 7 (some (.bool true))).set 8 (some (.tup [.str k,v]))).set 9 (some (.str k))).set 3 (some (.str k)) }
end
theorem ap_1 (len cap:Nat) (b:List UInt8) (fl nx lf:Int):∃ L,RunIs Tryz.prog (csQ []) [] 1000 22 Tryz.f100 [1,2] (headN 1 cdAp) (startSt [.slc none 0 0 0,v81] (hL (lSf len cap b fl nx lf)) 22) L
  [([],
   [],
   .to .normal (stG [(1,.fn (.func 81) [] [.ptr (some (21,0))]),(2,.ptr (some (22,0)))] (hL [(0,.ints .u32 gS),(1,.ints .u32 gR),(3,.cells [.slc (some (4,0)) len cap 1,.int .i64 fl,.map (some 5),.map (some 6),.int .i64 nx,.bool false,.bool false,.int .i64 lf]),(4,.buf 5 false (b)),(5,.mapD none [(.str [2,143,13,245,184,89,111,188,209,12,151,32,183,164,120,79,142,126,4,246,41,189,90,98,191,189,241,57,103,139,102,36],.agg [.str [120],.lst 0 [],.int .i64 0]),(.str [2,0,227,41,71,203,8,171,164,202,84,84,254,249,10,138,12,255,62,110,197,82,81,216,2,100,190,234,142,14,23,255],.agg [.str [121],.lst 1 [.str [2,143,13,245,184,89,111,188,209,12,151,32,183,164,120,79,142,126,4,246,41,189,90,98,191,189,241,57,103,139,102,36]],.int .i64 1]),(.str [12,52,209,150,179,80,244,8,94,45,21,205,102,195,192,169,125,80,156,122,62,79,6,250,229,93,93,120,21,103,11,60],.agg [.str [122],.lst 0 [],.int .i64 2])]),(6,.mapD none [(.str [114],.str [2,0,227,41,71,203,8,171,164,202,84,84,254,249,10,138,12,255,62,110,197,82,81,216,2,100,190,234,142,14,23,255])]),(7,.cells [.ptr (some (3,0))]),(19,.cells [.map (some 6)]),(20,.mapD none [(.str [2,0,227,41,71,203,8,171,164,202,84,84,254,249,10,138,12,255,62,110,197,82,81,216,2,100,190,234,142,14,23,255],.bool true),(.str [2,143,13,245,184,89,111,188,209,12,151,32,183,164,120,79,142,126,4,246,41,189,90,98,191,189,241,57,103,139,102,36],.bool true)]),(21,.cells [.map (some 20)]),(22,.cells [.slc none 0 0 0])]) 23))]
 :=RunIs.of (by kernel_rfl) (by kernel_rfl) (by kernel_rfl)
theorem ap_2 (len cap:Nat) (b:List UInt8) (fl nx lf:Int):∃ L,RunIs Tryz.prog (csQ []) [] 1000 22 Tryz.f100 [2,6] (seqL (seqL tlAp)) (stG [(1,v81),(2,.ptr (some (22,0)))] (hL (lSf len cap b fl nx lf ++ [(22,.cells [.slc none 0 0 0])])) 23) L
  [([],
   [],
   .to .normal (stG [(2,.ptr (some (22,0))),(6,.fn (.func 81) [] [.ptr (some (21,0))])] (hL [(0,.ints .u32 gS),(1,.ints .u32 gR),(3,.cells [.slc (some (4,0)) len cap 1,.int .i64 fl,.map (some 5),.map (some 6),.int .i64 nx,.bool false,.bool false,.int .i64 lf]),(4,.buf 5 false (b)),(5,.mapD none [(.str [2,143,13,245,184,89,111,188,209,12,151,32,183,164,120,79,142,126,4,246,41,189,90,98,191,189,241,57,103,139,102,36],.agg [.str [120],.lst 0 [],.int .i64 0]),(.str [2,0,227,41,71,203,8,171,164,202,84,84,254,249,10,138,12,255,62,110,197,82,81,216,2,100,190,234,142,14,23,255],.agg [.str [121],.lst 1 [.str [2,143,13,245,184,89,111,188,209,12,151,32,183,164,120,79,142,126,4,246,41,189,90,98,191,189,241,57,103,139,102,36]],.int .i64 1]),(.str [12,52,209,150,179,80,244,8,94,45,21,205,102,195,192,169,125,80,156,122,62,79,6,250,229,93,93,120,21,103,11,60],.agg [.str [122],.lst 0 [],.int .i64 2])]),(6,.mapD none [(.str [114],.str [2,0,227,41,71,203,8,171,164,202,84,84,254,249,10,138,12,255,62,110,197,82,81,216,2,100,190,234,142,14,23,255])]),(7,.cells [.ptr (some (3,0))]),(19,.cells [.map (some 6)]),(20,.mapD none [(.str [2,0,227,41,71,203,8,171,164,202,84,84,254,249,10,138,12,255,62,110,197,82,81,216,2,100,190,234,142,14,23,255],.bool true),(.str [2,143,13,245,184,89,111,188,209,12,151,32,183,164,120,79,142,126,4,246,41,189,90,98,191,189,241,57,103,139,102,36],.bool true)]),(21,.cells [.map (some 20)]),(22,.cells [.slc none 0 0 0])]) 23))]
 :=RunIs.of (by kernel_rfl) (by kernel_rfl) (by kernel_rfl)
end Go.Proofs.YtfihojpgobmmdaaGreatDoor
namespace Go.Proofs.YtfihojpgobmmdaaGreatDoor
open Go Go.Eng
section
variable (len cap:Nat) (b:List UInt8) (fl nx lf:Int)
theorem ky_1b (k:List UInt8) (v:V):∃ L,RunIs Tryz.prog (csQ []) [] 1000 26 Tryz.f81 [0,5] ((mlOf cdKy).rest) (kSt (SK0 len cap b fl nx lf) k v) L [([],[],.to .normal (SK1 len cap b fl nx lf k))]:=
 RunIs.of (by kernel_rfl) (by kernel_rfl) (by kernel_rfl)
theorem ky_2b (x k:List UInt8) (v:V):∃ L,RunIs Tryz.prog (csQ []) [] 1000 26 Tryz.f81 [0,5] ((mlOf cdKy).rest) (kSt (SK1 len cap b fl nx lf x) k v) L [([],[],.to .normal (SK2 len cap b fl nx lf x k))]:=
 RunIs.of (by kernel_rfl) (by kernel_rfl) (by kernel_rfl)
def pr2 (x y:List UInt8):Prop:=(x=dA∧y=dB) ∨ (x=dB∧y=dA)
def JK (vis:List (D × D)) (s1:St):Prop:=(vis=[]∧normG 26 [0,5] s1=some (SK0 len cap b fl nx lf)) ∨ (∃ x,vis=[(.str x,.bool true)]∧normG 26 [0,5] s1=some (SK1 len cap b fl nx lf x)) ∨ ∃ x y,vis=[(.str x,.bool true),(.str y,.bool true)]∧normG 26 [0,5] s1=some (SK2 len cap b fl nx lf x y)
noncomputable def hK2 (x y:List UInt8):Tr O:=hL (lSf len cap b fl nx lf ++ [(22,.cells [.slc (some (25,0)) 2 2 1]),(23,.dfr),(24,oLp len cap b fl nx lf),(25,.cells [.str x,.str y])])
theorem seen1_mem {e:D × D} (h:e ∈ seen1):∃ k,e=(.str k,.bool true):=by
 simp only [seen1,List.mem_cons,List.not_mem_nil,or_false] at h
 rcases h with rfl | rfl <;> exact ⟨_,rfl⟩
theorem dAB_ne:¬ dA=dB:=by decide
theorem perm2 {x y:List UInt8} (h:List.Perm [(D.str x,D.bool true),(D.str y,D.bool true)] seen1):pr2 x y:=by
 have hx:(D.str x,D.bool true) ∈ seen1:=h.mem_iff.1 (by simp)
 have hy:(D.str y,D.bool true) ∈ seen1:=h.mem_iff.1 (by simp)
 have hA:(D.str dA,D.bool true) ∈ [(D.str x,D.bool true),(D.str y,D.bool true)]:=h.mem_iff.2 (by simp [seen1])
 have hB:(D.str dB,D.bool true) ∈ [(D.str x,D.bool true),(D.str y,D.bool true)]:=h.mem_iff.2 (by simp [seen1])
 simp only [seen1,List.mem_cons,List.not_mem_nil,or_false,Prod.mk.injEq,D.str.injEq,and_true] at hx hy hA hB
 unfold pr2
 rcases hx with rfl | rfl <;> rcases hy with rfl | rfl
 · rcases hA with h | h <;> exact absurd h dAB_ne
 · exact .inr ⟨rfl,rfl⟩
 · exact .inl ⟨rfl,rfl⟩
 · rcases hB with h | h <;> exact absurd h.symm dAB_ne
theorem call81:CallsOne Tryz.prog 81 [.fn (.yield 24) [] [],.ptr (some (21,0))] (hK0 len cap b fl nx lf) 25 fun v h n=>∃ x y,pr2 x y∧v= .tup []∧h=hK2 len cap b fl nx lf x y∧n=26:=by
 refine callsOne_of_TG mo po Tryz.func81 (code:=cdKy) (by kernel_rfl) (by kernel_rfl) ?_
 rw [ml81]
 refine TG_maps (v0:=.map (some 20)) (fr0:=(startSt [.fn (.yield 24) [] [],.ptr (some (21,0))] (hK0 len cap b fl nx lf) 25).fr.set 4 (some (.map (some 20)))) (fr1:=((startSt [.fn (.yield 24) [] [],.ptr (some (21,0))] (hK0 len cap b fl nx lf) 25).fr.set 4 (some (.map (some 20)))).set 5 (some (.ptr (some (25,0))))) (m:=20) (kd:=none) (es:=seen1) mo ml81_ok
  (by kernel_rfl) (by kernel_rfl) (by kernel_rfl) (by kernel_rfl) (Nat.le_of_ble_eq_true rfl) (by kernel_rfl) (JK len cap b fl nx lf) (.inl ⟨rfl,by kernel_rfl⟩) ?_
 rintro vis left s1 (⟨rfl,hs⟩ | ⟨x,rfl,hs⟩ | ⟨x,y,rfl,hs⟩) hp
 · refine ⟨[0,5],_,hs,by kernel_rfl,fun hl=>?_,fun e left' he=>?_⟩
   · subst hl
     have:=hp.length_eq
     simp [seen1] at this
   · obtain ⟨k,rfl⟩:=seen1_mem (e:=e) ((he.symm.trans hp).mem_iff.1 (by simp))
     refine ⟨(SK0 len cap b fl nx lf).fr.set 6 (some (.tup [.bool true,.str k,.bool true])),{ SK0 len cap b fl nx lf with fr:=((SK0 len cap b fl nx lf).fr.set 6 (some (.tup [.bool true,.str k,.bool true]))).set 7 (some (.bool true)) },
      (((SK0 len cap b fl nx lf).fr.set 6 (some (.tup [.bool true,.str k,.bool true]))).set 7 (some (.bool true))).set 8 (some (.tup [.str k,.bool true])),kSt (SK0 len cap b fl nx lf) k (.bool true),by kernel_rfl,by kernel_rfl,by kernel_rfl,by kernel_rfl,by kernel_rfl,by kernel_rfl,by kernel_rfl,by kernel_rfl,?_⟩
     obtain ⟨L,hr⟩:=ky_1b len cap b fl nx lf k (.bool true)
     refine TG_is (XQ []) mo anyR (by kernel_rfl) hr fun g hg _=>?_
     rw [List.mem_singleton] at hg; subst hg
     exact ⟨all_nil,fun s' hs'=>.inr (.inl ⟨k,rfl,hs'⟩)⟩
 · refine ⟨[0,5],_,hs,by kernel_rfl,fun hl=>?_,fun e left' he=>?_⟩
   · subst hl
     have:=hp.length_eq
     simp [seen1] at this
   · obtain ⟨k,rfl⟩:=seen1_mem (e:=e) (hp.mem_iff.1 (List.mem_append_right _ (he.mem_iff.2 (by simp))))
     refine ⟨(SK1 len cap b fl nx lf x).fr.set 6 (some (.tup [.bool true,.str k,.bool true])),{ SK1 len cap b fl nx lf x with fr:=((SK1 len cap b fl nx lf x).fr.set 6 (some (.tup [.bool true,.str k,.bool true]))).set 7 (some (.bool true)) },
      (((SK1 len cap b fl nx lf x).fr.set 6 (some (.tup [.bool true,.str k,.bool true]))).set 7 (some (.bool true))).set 8 (some (.tup [.str k,.bool true])),kSt (SK1 len cap b fl nx lf x) k (.bool true),by kernel_rfl,by kernel_rfl,by kernel_rfl,by kernel_rfl,by kernel_rfl,by kernel_rfl,by kernel_rfl,by kernel_rfl,?_⟩
     obtain ⟨L,hr⟩:=ky_2b len cap b fl nx lf x k (.bool true)
     refine TG_is (XQ []) mo anyR (by kernel_rfl) hr fun g hg _=>?_
     rw [List.mem_singleton] at hg; subst hg
     exact ⟨all_nil,fun s' hs'=>.inr (.inr ⟨x,k,rfl,hs'⟩)⟩
 · refine ⟨[0,5],_,hs,by kernel_rfl,fun hl=>?_,fun e left' he=>?_⟩
   · subst hl
     rw [List.append_nil] at hp
     refine ⟨(SK2 len cap b fl nx lf x y).fr.set 6 (some (.tup [.bool false])),{ SK2 len cap b fl nx lf x y with fr:=((SK2 len cap b fl nx lf x y).fr.set 6 (some (.tup [.bool false]))).set 7 (some (.bool false)) },by kernel_rfl,by kernel_rfl,by kernel_rfl,.inl rfl,.tup [],hK2 len cap b fl nx lf x y,26,by kernel_rfl,x,y,perm2 hp,rfl,rfl,rfl⟩
   · have h1:=hp.length_eq
     have h2:=he.length_eq
     simp only [List.length_append,seen1,List.length_cons,List.length_nil] at h1 h2
     omega
abbrev Rcl (v:V) (h:Tr O) (n:Nat):Prop:=∃ x y,pr2 x y∧v= .slc (some (22,0)) 2 2 1∧h=hL (lSf len cap b fl nx lf ++ [(22,.cells [.str x,.str y])])∧n=23
theorem call100:CallsOne Tryz.prog 100 [.slc none 0 0 0,v81] (hL (lSf len cap b fl nx lf)) 22 (Rcl len cap b fl nx lf):=by
 refine callsOne_of_TG mo po Tryz.func100 (code:=cdAp) (by kernel_rfl) (by kernel_rfl) ?_
 obtain ⟨L1,hr1⟩:=ap_1 len cap b fl nx lf
 refine TG_isN1 1 (XQ []) mo (by kernel_rfl) hr1 all_nil ?_
 show TG Tryz.prog 22 Tryz.f100.ntmps tlAp (stG [(1,v81),(2,.ptr (some (22,0)))] (hL (lSf len cap b fl nx lf ++ [(22,.cells [.slc none 0 0 0])])) 23) _
 refine TG_seq' (by kernel_rfl) ?_
 refine TG_seq' (by kernel_rfl) ?_
 obtain ⟨L2,hr2⟩:=ap_2 len cap b fl nx lf
 refine TG_is (XQ []) mo anyR (by kernel_rfl) hr2 fun g hg _=>?_
 rw [List.mem_singleton] at hg; subst hg
 refine ⟨all_nil,fun s' hs'=>?_⟩
 have hs':normG 22 [2,6] s'=some (sAp len cap b fl nx lf):=hs'
 refine TG_norm hs' ?_
 refine TG_block (i:=0) (by kernel_rfl) ?_
 refine TG_rangeN (gf:=81) (lb:=[.ptr (some (21,0))]) (by kernel_rfl) (by kernel_rfl) (by kernel_rfl) (by kernel_rfl) (by kernel_rfl) (call81 len cap b fl nx lf) ?_
 rintro v h n ⟨x,y,hxy,rfl,rfl,rfl⟩
 refine ⟨by kernel_rfl,?_⟩
 show TG Tryz.prog 22 Tryz.f100.ntmps (seqR tlAp) _ _
 have hrd:∃ L,RunIs Tryz.prog (csQ []) [] 1000 22 Tryz.f100 [] (seqR tlAp) (rEnd (sAp len cap b fl nx lf) (hK2 len cap b fl nx lf x y) 26) L [([],[],.ret (.slc (some (22,0)) 2 2 1) (hL (lSf len cap b fl nx lf ++ [(22,.cells [.str x,.str y])])) 23)]:=
  RunIs.of (by kernel_rfl) (by kernel_rfl) (by kernel_rfl)
 obtain ⟨L5,hr5⟩:=hrd
 refine TG_ret (XQ []) mo _ (by kernel_rfl) hr5 fun g hg _=>?_
 rw [List.mem_singleton] at hg; subst hg
 exact ⟨all_nil,_,_,_,rfl,x,y,hxy,rfl,rfl,rfl⟩
end
end Go.Proofs.YtfihojpgobmmdaaGreatDoor
namespace Go.Proofs.YtfihojpgobmmdaaGreatDoor
open Go Go.Eng
theorem TG_callAt {n0 N:Nat} {c:Code} {s s1:St} {Q:Exit→St→Prop} {f:FuncId} {args:List V} {R:V→Tr O→Nat→Prop} (k:Nat) (hk:c= .region (regId c) (((opsOf c).toList.take k) ++ opAt c k :: (opsOf c).toList.drop (k+1)).toArray false) (hok:codeOk N c=true)
  (h1:seqOps Tryz.prog noC (((opsOf c).toList.take k) ++ opAt c k :: (opsOf c).toList.drop (k+1)).toArray ((opsOf c).toList.take k) s=some (.normal,s1)) (hg:(opAt c k).guard=none) (ho:stepOp Tryz.prog (opAt c k) s1.fr s1.h s1.n=some (.call f args)) (hcal:(callee Tryz.prog f && Nat.blt f Tryz.prog.funcs.size)=true) (hc:CallsOne Tryz.prog f args s1.h s1.n R)
  (hq:∀ v h n,R v h n→∃ fr s2,putD s1.fr (opAt c k).dst v=some fr∧seqOps Tryz.prog noC (((opsOf c).toList.take k) ++ opAt c k :: (opsOf c).toList.drop (k+1)).toArray ((opsOf c).toList.drop (k+1)) { s1 with fr:=fr,h:=h,n:=n }=some (.normal,s2)∧Q .normal s2):TG Tryz.prog n0 N c s Q:=by
 rw [hk] at hok ⊢
 exact TG_callN (noC_ok _) hok h1 hg ho hcal hc hq
section
variable (len cap:Nat) (b:List UInt8) (fl nx lf:Int)
theorem cl_hd:∃ L,RunIs Tryz.prog (csQ []) [] 1000 22 Tryz.f79 [0] (headN 1 cdCl) (startSt [v81] (hL (lSf len cap b fl nx lf)) 22) L [([],[],.to .normal (stG [(0,v81)] (hL (lSf len cap b fl nx lf)) 22))]:=
 RunIs.of (by kernel_rfl) (by kernel_rfl) (by kernel_rfl)
def sClS (h:Tr O) (n:Nat) (v:V):St:={ fr:=((((frL [(0,v81)]).set 3 (some v81)).set 4 (some v)).set 2 (some v)),h:=h,n:=n,dfs:=[] }
theorem cl_end (x y:List UInt8):∃ L,RunIs Tryz.prog (csQ []) [] 1000 22 Tryz.f79 [] (seqR (tailN 1 cdCl)) (sClS (hL (lSf len cap b fl nx lf ++ [(22,.cells [.str x,.str y])])) 23 (.slc (some (22,0)) 2 2 1)) L [([],[],.ret (.slc (some (22,0)) 2 2 1) (hL (lSf len cap b fl nx lf ++ [(22,.cells [.str x,.str y])])) 23)]:=
 RunIs.of (by kernel_rfl) (by kernel_rfl) (by kernel_rfl)
theorem call79:CallsOne Tryz.prog 79 [v81] (hL (lSf len cap b fl nx lf)) 22 (Rcl len cap b fl nx lf):=by
 refine callsOne_of_TG mo po Tryz.func79 (code:=cdCl) (by kernel_rfl) (by kernel_rfl) ?_
 obtain ⟨L1,hr1⟩:=cl_hd len cap b fl nx lf
 refine TG_isN1 1 (XQ []) mo (by kernel_rfl) hr1 all_nil ?_
 refine TG_seq' (by kernel_rfl) ?_
 refine TG_callAt 1 (s1:={ fr:=(frL [(0,v81)]).set 3 (some v81),h:=hL (lSf len cap b fl nx lf),n:=22,dfs:=[] }) (f:=100) (args:=[.slc none 0 0 0,v81]) (by kernel_rfl) (by kernel_rfl) (by kernel_rfl) (by kernel_rfl) (by kernel_rfl) (by kernel_rfl) (call100 len cap b fl nx lf) ?_
 rintro v h n ⟨x,y,hxy,rfl,rfl,rfl⟩
 refine ⟨(((frL [(0,v81)]).set 3 (some v81)).set 4 (some (.slc (some (22,0)) 2 2 1))),sClS (hL (lSf len cap b fl nx lf ++ [(22,.cells [.str x,.str y])])) 23 (.slc (some (22,0)) 2 2 1),by kernel_rfl,by kernel_rfl,?_⟩
 obtain ⟨L5,hr5⟩:=cl_end len cap b fl nx lf x y
 show TG Tryz.prog 22 Tryz.f79.ntmps (seqR (tailN 1 cdCl)) _ _
 refine TG_ret (XQ []) mo _ (by kernel_rfl) hr5 fun g hg _=>?_
 rw [List.mem_singleton] at hg; subst hg
 exact ⟨all_nil,_,_,_,rfl,x,y,hxy,rfl,rfl,rfl⟩
theorem so_hd:∃ L,RunIs Tryz.prog (csQ []) [] 1000 22 Tryz.f54 [0,1] (headN 1 cdSo) (startSt [v81,v56] (hL (lSf len cap b fl nx lf)) 22) L [([],[],.to .normal (stG [(0,v81),(1,v56)] (hL (lSf len cap b fl nx lf)) 22))]:=
 RunIs.of (by kernel_rfl) (by kernel_rfl) (by kernel_rfl)
def sSoS (h:Tr O) (n:Nat) (v:V):St:={ fr:=((((frL [(0,v81),(1,v56)]).set 6 (some v81)).set 7 (some v)).set 5 (some v)),h:=h,n:=n,dfs:=[] }
def hSo:Tr O:=hL (lSf len cap b fl nx lf ++ [(22,.cells [.str dA,.str dB])])
theorem so_1b:∃ L,RunIs Tryz.prog (csQ []) [] 1000 22 Tryz.f54 [] (tailN 2 cdSo) (sSoS (hL (lSf len cap b fl nx lf ++ [(22,.cells [.str dA,.str dB])])) 23 (.slc (some (22,0)) 2 2 1)) L
  [([],[((0:Int) ≤ (2:Int)∧2 < 256),((0:Int) ≤ (1:Int)∧(1:Int) < (2:Int)),((0:Int) ≤ (0:Int)∧(0:Int) < (2:Int))],.ret (.slc (some (22,0)) 2 2 1) (hSo len cap b fl nx lf) 23)]:=
 RunIs.of (by kernel_rfl) (by kernel_rfl) (by kernel_rfl)
theorem so_2b:∃ L,RunIs Tryz.prog (csQ []) [] 1000 22 Tryz.f54 [] (tailN 2 cdSo) (sSoS (hL (lSf len cap b fl nx lf ++ [(22,.cells [.str dB,.str dA])])) 23 (.slc (some (22,0)) 2 2 1)) L
  [([],[((0:Int) ≤ (2:Int)∧2 < 256),((0:Int) ≤ (1:Int)∧(1:Int) < (2:Int)),((0:Int) ≤ (0:Int)∧(0:Int) < (2:Int)),((0:Int) ≤ (0:Int)∧(0:Int) < (2:Int)),((0:Int) ≤ (1:Int)∧(1:Int) < (2:Int)),((0:Int) ≤ (1:Int)∧(1:Int) < (2:Int)),((0:Int) ≤ (0:Int)∧(0:Int) < (2:Int))],.ret (.slc (some (22,0)) 2 2 1) (hSo len cap b fl nx lf) 23)]:=
 RunIs.of (by kernel_rfl) (by kernel_rfl) (by kernel_rfl)
theorem call54:CallIs Tryz.prog 54 [v81,v56] (hL (lSf len cap b fl nx lf)) 22 (.slc (some (22,0)) 2 2 1) (hSo len cap b fl nx lf) 23:=by
 refine callIs_of_TG Tryz.func54 (code:=cdSo) (by kernel_rfl) (by kernel_rfl) ?_
 obtain ⟨L1,hr1⟩:=so_hd len cap b fl nx lf
 refine TG_isN1 1 (XQ []) mo (by kernel_rfl) hr1 all_nil ?_
 refine TG_seq' (by kernel_rfl) ?_
 refine TG_callAt 1 (s1:={ fr:=(frL [(0,v81),(1,v56)]).set 6 (some v81),h:=hL (lSf len cap b fl nx lf),n:=22,dfs:=[] }) (f:=79) (args:=[v81]) (by kernel_rfl) (by kernel_rfl) (by kernel_rfl) (by kernel_rfl) (by kernel_rfl) (by kernel_rfl) (call79 len cap b fl nx lf) ?_
 rintro v h n ⟨x,y,hxy,rfl,rfl,rfl⟩
 refine ⟨(((frL [(0,v81),(1,v56)]).set 6 (some v81)).set 7 (some (.slc (some (22,0)) 2 2 1))),sSoS (hL (lSf len cap b fl nx lf ++ [(22,.cells [.str x,.str y])])) 23 (.slc (some (22,0)) 2 2 1),by kernel_rfl,by kernel_rfl,?_⟩
 show TG Tryz.prog 22 Tryz.f54.ntmps (tailN 2 cdSo) _ _
 rcases hxy with ⟨rfl,rfl⟩ | ⟨rfl,rfl⟩
 · obtain ⟨L5,hr5⟩:=so_1b len cap b fl nx lf
   refine TG_ret (XQ []) mo _ (by kernel_rfl) hr5 fun g hg _=>?_
   rw [List.mem_singleton] at hg; subst hg
   refine ⟨?_,_,_,_,rfl,rfl,rfl,rfl⟩
   repeat' (first | exact all_nil | refine List.forall_mem_cons.2 ⟨?_,?_⟩)
   all_goals first | decide | trivial
 · obtain ⟨L5,hr5⟩:=so_2b len cap b fl nx lf
   refine TG_ret (XQ []) mo _ (by kernel_rfl) hr5 fun g hg _=>?_
   rw [List.mem_singleton] at hg; subst hg
   refine ⟨?_,_,_,_,rfl,rfl,rfl,rfl⟩
   repeat' (first | exact all_nil | refine List.forall_mem_cons.2 ⟨?_,?_⟩)
   all_goals first | decide | trivial
end
end Go.Proofs.YtfihojpgobmmdaaGreatDoor
namespace Go.Proofs.YtfihojpgobmmdaaGreatDoor
open Go Go.Eng
noncomputable abbrev cdCo:Code:=bodyOf Tryz.f19
def pV (len cap:Nat) (b:List UInt8) (fl nx lf:Int):Sto:=pS len cap b fl nx lf esS rtS
noncomputable abbrev csC (len cap:Nat) (b:List UInt8) (fl nx lf:Int):CallS:=pinS (pinS (csQ []) 51 [.ptr (some (3,0)),v78] (hL (lC len cap b fl nx lf esS rtS)) 20 (.map (some 20),hRd len cap b fl nx lf,21)) 54 [v81,v56] (hL (lSf len cap b fl nx lf)) 22 (.slc (some (22,0)) 2 2 1,hSo len cap b fl nx lf,23)
end Go.Proofs.YtfihojpgobmmdaaGreatDoor
namespace Go.Proofs.YtfihojpgobmmdaaGreatDoor
open Go Go.Eng
noncomputable abbrev cdA2:Code:=bodyOf Tryz.f113
noncomputable abbrev tlA2:Code:=tailN 1 cdA2
noncomputable abbrev rgA2:Code:=inner (seqR (seqL tlA2))
noncomputable abbrev asA2:Code:=Eng.rA rgA2
noncomputable abbrev boA2:Code:=Eng.rB rgA2
noncomputable abbrev cdK2:Code:=bodyOf Tryz.f88
noncomputable abbrev cdS2:Code:=bodyOf Tryz.f61
noncomputable abbrev cdC2:Code:=bodyOf Tryz.f86
noncomputable abbrev cdRo:Code:=bodyOf Tryz.f23
def v88:V:=.fn (.func 88) [] [.ptr (some (9,0))]
def log2:List UInt8:=[4,1,1,120,0,127,220,33,176,36,1,1,121,1,2,143,13,245,184,89,111,188,209,12,151,32,183,164,120,79,142,126,4,246,41,189,90,98,191,189,241,57,103,139,102,36,200,76,115,100]
section
variable (len cap:Nat) (b:List UInt8) (fl nx lf:Int)
def lQ0:List (Nat × O):=[(0,.ints .u32 gS),(1,.ints .u32 gR),(3,.cells [.slc (some (4,0)) len cap 1,.int .i64 fl,.map (some 5),.map (some 6),.int .i64 nx,.bool false,.bool false,.int .i64 lf]),(4,.buf 5 false b),(5,.mapD none esS),(6,.mapD none rtS),(7,.cells [.ptr (some (3,0))]),(8,.buf 5 false log2)]
def lQ:List (Nat × O):=lQ0 len cap b fl nx lf ++ [(9,.cells [.map (some 6)])]
def lQg:List (Nat × O):=[(0,.ints .u32 gS),(1,.ints .u32 gR),(3,.cells [.slc (some (4,0)) len cap 1,.int .i64 fl,.map (some 5),.map (some 6),.int .i64 nx,.bool false,.bool false,.int .i64 lf]),(4,.buf 5 false b),(5,.mapD none esS),(7,.cells [.ptr (some (3,0))]),(8,.buf 5 false log2),(9,.cells [.map (some 6)])]
def sA2:St:=stG [(2,.ptr (some (10,0))),(6,v88)] (hL (lQ len cap b fl nx lf ++ [(10,.cells [.slc none 0 0 0])])) 11
noncomputable def oL2:O:=.loop true none (sA2 len cap b fl nx lf).fr [7] asA2 boA2
noncomputable def hM0:Tr O:=hL (lQ len cap b fl nx lf ++ [(10,.cells [.slc none 0 0 0]),(11,.dfr),(12,oL2 len cap b fl nx lf)])
noncomputable def SM0:St:=stG [(0,.fn (.yield 12) [] []),(5,.ptr (some (13,0)))] (hL (lQg len cap b fl nx lf ++ [(10,.cells [.slc none 0 0 0]),(11,.dfr),(12,oL2 len cap b fl nx lf)])) 14
noncomputable def SM1:St:=stG [(0,.fn (.yield 12) [] []),(5,.ptr (some (13,0)))] (hL (lQg len cap b fl nx lf ++ [(10,.cells [.slc (some (14,0)) 1 1 1]),(11,.dfr),(12,oL2 len cap b fl nx lf),(14,.cells [.str [114]])])) 15
noncomputable def hM1:Tr O:=hL (lQ len cap b fl nx lf ++ [(10,.cells [.slc (some (13,0)) 1 1 1]),(11,.dfr),(12,oL2 len cap b fl nx lf),(13,.cells [.str [114]])])
end
theorem a2_1 (len cap:Nat) (b:List UInt8) (fl nx lf:Int):∃ L,RunIs Tryz.prog (csQ []) [] 1000 10 Tryz.f113 [1,2] (headN 1 cdA2) (startSt [.slc none 0 0 0,v88] (hL (lQ len cap b fl nx lf)) 10) L
  [([],
   [],
   .to .normal (stG [(1,.fn (.func 88) [] [.ptr (some (9,0))]),(2,.ptr (some (10,0)))] (hL [(0,.ints .u32 gS),(1,.ints .u32 gR),(3,.cells [.slc (some (4,0)) len cap 1,.int .i64 fl,.map (some 5),.map (some 6),.int .i64 nx,.bool false,.bool false,.int .i64 lf]),(4,.buf 5 false (b)),(5,.mapD none [(.str [2,143,13,245,184,89,111,188,209,12,151,32,183,164,120,79,142,126,4,246,41,189,90,98,191,189,241,57,103,139,102,36],.agg [.str [120],.lst 0 [],.int .i64 0]),(.str [2,0,227,41,71,203,8,171,164,202,84,84,254,249,10,138,12,255,62,110,197,82,81,216,2,100,190,234,142,14,23,255],.agg [.str [121],.lst 1 [.str [2,143,13,245,184,89,111,188,209,12,151,32,183,164,120,79,142,126,4,246,41,189,90,98,191,189,241,57,103,139,102,36]],.int .i64 1]),(.str [12,52,209,150,179,80,244,8,94,45,21,205,102,195,192,169,125,80,156,122,62,79,6,250,229,93,93,120,21,103,11,60],.agg [.str [122],.lst 0 [],.int .i64 2])]),(6,.mapD none [(.str [114],.str [2,0,227,41,71,203,8,171,164,202,84,84,254,249,10,138,12,255,62,110,197,82,81,216,2,100,190,234,142,14,23,255])]),(7,.cells [.ptr (some (3,0))]),(8,.buf 5 false [4,1,1,120,0,127,220,33,176,36,1,1,121,1,2,143,13,245,184,89,111,188,209,12,151,32,183,164,120,79,142,126,4,246,41,189,90,98,191,189,241,57,103,139,102,36,200,76,115,100]),(9,.cells [.map (some 6)]),(10,.cells [.slc none 0 0 0])]) 11))]
 :=RunIs.of (by kernel_rfl) (by kernel_rfl) (by kernel_rfl)
theorem a2_2 (len cap:Nat) (b:List UInt8) (fl nx lf:Int):∃ L,RunIs Tryz.prog (csQ []) [] 1000 10 Tryz.f113 [2,6] (seqL (seqL tlA2)) (stG [(1,v88),(2,.ptr (some (10,0)))] (hL (lQ len cap b fl nx lf ++ [(10,.cells [.slc none 0 0 0])])) 11) L
  [([],
   [],
   .to .normal (stG [(2,.ptr (some (10,0))),(6,.fn (.func 88) [] [.ptr (some (9,0))])] (hL [(0,.ints .u32 gS),(1,.ints .u32 gR),(3,.cells [.slc (some (4,0)) len cap 1,.int .i64 fl,.map (some 5),.map (some 6),.int .i64 nx,.bool false,.bool false,.int .i64 lf]),(4,.buf 5 false (b)),(5,.mapD none [(.str [2,143,13,245,184,89,111,188,209,12,151,32,183,164,120,79,142,126,4,246,41,189,90,98,191,189,241,57,103,139,102,36],.agg [.str [120],.lst 0 [],.int .i64 0]),(.str [2,0,227,41,71,203,8,171,164,202,84,84,254,249,10,138,12,255,62,110,197,82,81,216,2,100,190,234,142,14,23,255],.agg [.str [121],.lst 1 [.str [2,143,13,245,184,89,111,188,209,12,151,32,183,164,120,79,142,126,4,246,41,189,90,98,191,189,241,57,103,139,102,36]],.int .i64 1]),(.str [12,52,209,150,179,80,244,8,94,45,21,205,102,195,192,169,125,80,156,122,62,79,6,250,229,93,93,120,21,103,11,60],.agg [.str [122],.lst 0 [],.int .i64 2])]),(6,.mapD none [(.str [114],.str [2,0,227,41,71,203,8,171,164,202,84,84,254,249,10,138,12,255,62,110,197,82,81,216,2,100,190,234,142,14,23,255])]),(7,.cells [.ptr (some (3,0))]),(8,.buf 5 false [4,1,1,120,0,127,220,33,176,36,1,1,121,1,2,143,13,245,184,89,111,188,209,12,151,32,183,164,120,79,142,126,4,246,41,189,90,98,191,189,241,57,103,139,102,36,200,76,115,100]),(9,.cells [.map (some 6)]),(10,.cells [.slc none 0 0 0])]) 11))]
 :=RunIs.of (by kernel_rfl) (by kernel_rfl) (by kernel_rfl)
end Go.Proofs.YtfihojpgobmmdaaGreatDoor
namespace Go.Proofs.YtfihojpgobmmdaaGreatDoor
open Go Go.Eng
theorem ml88:cdK2=(mlOf cdK2).code:=by kernel_rfl
theorem ml88_ok:MapLoopOk Tryz.prog Tryz.f88.ntmps (mlOf cdK2) (.tmp 4) 5:=
 ⟨by kernel_rfl,by kernel_rfl,by kernel_rfl,by kernel_rfl,⟨rngT (mlOf cdK2).oR,mapK (rngT (mlOf cdK2).oR),mapE (rngT (mlOf cdK2).oR),by kernel_rfl,by kernel_rfl⟩,by kernel_rfl,by kernel_rfl,by kernel_rfl,by kernel_rfl,Nat.le_of_ble_eq_true rfl⟩
section
variable (len cap:Nat) (b:List UInt8) (fl nx lf:Int)
theorem k2_1b:∃ L,RunIs Tryz.prog (csQ []) [] 1000 14 Tryz.f88 [0,5] ((mlOf cdK2).rest) (kSt (SM0 len cap b fl nx lf) [114] (.str dB)) L [([],[],.to .normal (SM1 len cap b fl nx lf))]:=
 RunIs.of (by kernel_rfl) (by kernel_rfl) (by kernel_rfl)
def JM (vis:List (D × D)) (s1:St):Prop:=(vis=[]∧normG 14 [0,5] s1=some (SM0 len cap b fl nx lf)) ∨ (vis=rtS∧normG 14 [0,5] s1=some (SM1 len cap b fl nx lf))
theorem call88:CallIs Tryz.prog 88 [.fn (.yield 12) [] [],.ptr (some (9,0))] (hM0 len cap b fl nx lf) 13 (.tup []) (hM1 len cap b fl nx lf) 14:=by
 refine callIs_of_TG Tryz.func88 (code:=cdK2) (by kernel_rfl) (by kernel_rfl) ?_
 rw [ml88]
 refine TG_maps (v0:=.map (some 6)) (fr0:=(startSt [.fn (.yield 12) [] [],.ptr (some (9,0))] (hM0 len cap b fl nx lf) 13).fr.set 4 (some (.map (some 6)))) (fr1:=((startSt [.fn (.yield 12) [] [],.ptr (some (9,0))] (hM0 len cap b fl nx lf) 13).fr.set 4 (some (.map (some 6)))).set 5 (some (.ptr (some (13,0))))) (m:=6) (kd:=none) (es:=rtS) mo ml88_ok
  (by kernel_rfl) (by kernel_rfl) (by kernel_rfl) (by kernel_rfl) (Nat.le_of_ble_eq_true rfl) (by kernel_rfl) (JM len cap b fl nx lf) (.inl ⟨rfl,by kernel_rfl⟩) ?_
 rintro vis left s1 (⟨rfl,hs⟩ | ⟨rfl,hs⟩) hp
 · refine ⟨[0,5],_,hs,by kernel_rfl,fun hl=>?_,fun e left' he=>?_⟩
   · subst hl
     have:=hp.length_eq
     simp [rtS] at this
   · have h1:=(he.symm.trans hp).length_eq
     have hl':left'=[]:=by
      simp only [rtS,List.length_cons,List.length_nil] at h1
      exact List.eq_nil_of_length_eq_zero (by omega)
     subst hl'
     have h2:e=(.str [114],.str dB):=by
      have:e ∈ rtS:=(he.symm.trans hp).mem_iff.1 (by simp)
      simpa [rtS] using this
     subst h2
     refine ⟨(SM0 len cap b fl nx lf).fr.set 6 (some (.tup [.bool true,.str [114],.str dB])),{ SM0 len cap b fl nx lf with fr:=((SM0 len cap b fl nx lf).fr.set 6 (some (.tup [.bool true,.str [114],.str dB]))).set 7 (some (.bool true)) },
      (((SM0 len cap b fl nx lf).fr.set 6 (some (.tup [.bool true,.str [114],.str dB]))).set 7 (some (.bool true))).set 8 (some (.tup [.str [114],.str dB])),kSt (SM0 len cap b fl nx lf) [114] (.str dB),by kernel_rfl,by kernel_rfl,by kernel_rfl,by kernel_rfl,by kernel_rfl,by kernel_rfl,by kernel_rfl,by kernel_rfl,?_⟩
     obtain ⟨L,hr⟩:=k2_1b len cap b fl nx lf
     refine TG_is (XQ []) mo anyR (by kernel_rfl) hr fun g hg _=>?_
     rw [List.mem_singleton] at hg; subst hg
     exact ⟨all_nil,fun s' hs'=>.inr ⟨rfl,hs'⟩⟩
 · refine ⟨[0,5],_,hs,by kernel_rfl,fun hl=>?_,fun e left' he=>?_⟩
   · refine ⟨(SM1 len cap b fl nx lf).fr.set 6 (some (.tup [.bool false])),{ SM1 len cap b fl nx lf with fr:=((SM1 len cap b fl nx lf).fr.set 6 (some (.tup [.bool false]))).set 7 (some (.bool false)) },by kernel_rfl,by kernel_rfl,by kernel_rfl,.inl rfl,.tup [],hM1 len cap b fl nx lf,14,by kernel_rfl,rfl,rfl,rfl⟩
   · have h1:=hp.length_eq
     have h2:=he.length_eq
     simp only [List.length_append,rtS,List.length_cons,List.length_nil] at h1 h2
     omega
def hRo:Tr O:=hL (lQ len cap b fl nx lf ++ [(10,.cells [.str [114]])])
theorem call113:CallIs Tryz.prog 113 [.slc none 0 0 0,v88] (hL (lQ len cap b fl nx lf)) 10 (.slc (some (10,0)) 1 1 1) (hRo len cap b fl nx lf) 11:=by
 refine callIs_of_TG Tryz.func113 (code:=cdA2) (by kernel_rfl) (by kernel_rfl) ?_
 obtain ⟨L1,hr1⟩:=a2_1 len cap b fl nx lf
 refine TG_isN1 1 (XQ []) mo (by kernel_rfl) hr1 all_nil ?_
 show TG Tryz.prog 10 Tryz.f113.ntmps tlA2 (stG [(1,v88),(2,.ptr (some (10,0)))] (hL (lQ len cap b fl nx lf ++ [(10,.cells [.slc none 0 0 0])])) 11) _
 refine TG_seq' (by kernel_rfl) ?_
 refine TG_seq' (by kernel_rfl) ?_
 obtain ⟨L2,hr2⟩:=a2_2 len cap b fl nx lf
 refine TG_is (XQ []) mo anyR (by kernel_rfl) hr2 fun g hg _=>?_
 rw [List.mem_singleton] at hg; subst hg
 refine ⟨all_nil,fun s' hs'=>?_⟩
 have hs':normG 10 [2,6] s'=some (sA2 len cap b fl nx lf):=hs'
 refine TG_norm hs' ?_
 refine TG_block (i:=0) (by kernel_rfl) ?_
 refine TG_rangeN (gf:=88) (lb:=[.ptr (some (9,0))]) (by kernel_rfl) (by kernel_rfl) (by kernel_rfl) (by kernel_rfl) (by kernel_rfl) (call88 len cap b fl nx lf).one ?_
 rintro v h n ⟨rfl,rfl,rfl⟩
 refine ⟨by kernel_rfl,?_⟩
 show TG Tryz.prog 10 Tryz.f113.ntmps (seqR tlA2) _ _
 have hrd:∃ L,RunIs Tryz.prog (csQ []) [] 1000 10 Tryz.f113 [] (seqR tlA2) (rEnd (sA2 len cap b fl nx lf) (hM1 len cap b fl nx lf) 14) L [([],[],.ret (.slc (some (10,0)) 1 1 1) (hRo len cap b fl nx lf) 11)]:=
  RunIs.of (by kernel_rfl) (by kernel_rfl) (by kernel_rfl)
 obtain ⟨L5,hr5⟩:=hrd
 refine TG_ret (XQ []) mo _ (by kernel_rfl) hr5 fun g hg _=>?_
 rw [List.mem_singleton] at hg; subst hg
 exact ⟨all_nil,_,_,_,rfl,rfl,rfl,rfl⟩
theorem pinEq {a:List V} {h:Tr O} {n:Nat}:a=a∧h=h∧n=n:=⟨rfl,rfl,rfl⟩
theorem c2_run:∃ L,RunIs Tryz.prog (pinS (csQ []) 113 [.slc none 0 0 0,v88] (hL (lQ len cap b fl nx lf)) 10 (.slc (some (10,0)) 1 1 1,hRo len cap b fl nx lf,11)) [] 1000 10 Tryz.f86 [] cdC2 (startSt [v88] (hL (lQ len cap b fl nx lf)) 10) L
  [([],[[.slc none 0 0 0,v88]=[.slc none 0 0 0,v88]∧hL (lQ len cap b fl nx lf)=hL (lQ len cap b fl nx lf)∧10=10],.ret (.slc (some (10,0)) 1 1 1) (hRo len cap b fl nx lf) 11)]:=
 RunIs.of (by kernel_rfl) (by kernel_rfl) (by kernel_rfl)
theorem call86:CallIs Tryz.prog 86 [v88] (hL (lQ len cap b fl nx lf)) 10 (.slc (some (10,0)) 1 1 1) (hRo len cap b fl nx lf) 11:=by
 refine callIs_of_TG Tryz.func86 (code:=cdC2) (by kernel_rfl) (by kernel_rfl) ?_
 obtain ⟨L,hr⟩:=c2_run len cap b fl nx lf
 refine TG_ret ((XQ []).pin (Nat.le_of_ble_eq_true (by kernel_rfl)) (call113 len cap b fl nx lf)) mo _ (by kernel_rfl) hr fun g hg _=>?_
 rw [List.mem_singleton] at hg; subst hg
 exact ⟨fun p hp=>by rw [List.mem_singleton] at hp; subst hp; exact pinEq,_,_,_,rfl,rfl,rfl,rfl⟩
theorem s2_run:∃ L,RunIs Tryz.prog (pinS (csQ []) 86 [v88] (hL (lQ len cap b fl nx lf)) 10 (.slc (some (10,0)) 1 1 1,hRo len cap b fl nx lf,11)) [] 1000 10 Tryz.f61 [] cdS2 (startSt [v88] (hL (lQ len cap b fl nx lf)) 10) L
  [([],[[v88]=[v88]∧hL (lQ len cap b fl nx lf)=hL (lQ len cap b fl nx lf)∧10=10,(0:Int) ≤ (1:Int)∧1 < 256],.ret (.slc (some (10,0)) 1 1 1) (hRo len cap b fl nx lf) 11)]:=
 RunIs.of (by kernel_rfl) (by kernel_rfl) (by kernel_rfl)
theorem call61:CallIs Tryz.prog 61 [v88] (hL (lQ len cap b fl nx lf)) 10 (.slc (some (10,0)) 1 1 1) (hRo len cap b fl nx lf) 11:=by
 refine callIs_of_TG Tryz.func61 (code:=cdS2) (by kernel_rfl) (by kernel_rfl) ?_
 obtain ⟨L,hr⟩:=s2_run len cap b fl nx lf
 refine TG_ret ((XQ []).pin (Nat.le_of_ble_eq_true (by kernel_rfl)) (call86 len cap b fl nx lf)) mo _ (by kernel_rfl) hr fun g hg _=>?_
 rw [List.mem_singleton] at hg; subst hg
 refine ⟨?_,_,_,_,rfl,rfl,rfl,rfl⟩
 repeat' (first | exact all_nil | refine List.forall_mem_cons.2 ⟨?_,?_⟩)
 · exact pinEq
 · decide
def hRq:Tr O:=hL (lQ0 len cap b fl nx lf ++ [(9,.cells [.str [114]])])
theorem ro_run:∃ L,RunIs Tryz.prog (pinS (csQ []) 61 [v88] (hL (lQ len cap b fl nx lf)) 10 (.slc (some (10,0)) 1 1 1,hRo len cap b fl nx lf,11)) [] 1000 9 Tryz.f23 [] cdRo (startSt [.ptr (some (3,0))] (hL (lQ0 len cap b fl nx lf)) 9) L
  [([],[[v88]=[v88]∧hL (lQ len cap b fl nx lf)=hL (lQ len cap b fl nx lf)∧10=10],.ret (.slc (some (9,0)) 1 1 1) (hRq len cap b fl nx lf) 10)]:=
 RunIs.of (by kernel_rfl) (by kernel_rfl) (by kernel_rfl)
theorem call23:CallIs Tryz.prog 23 [.ptr (some (3,0))] (hL (lQ0 len cap b fl nx lf)) 9 (.slc (some (9,0)) 1 1 1) (hRq len cap b fl nx lf) 10:=by
 refine callIs_of_TG Tryz.func23 (code:=cdRo) (by kernel_rfl) (by kernel_rfl) ?_
 obtain ⟨L,hr⟩:=ro_run len cap b fl nx lf
 refine TG_ret ((XQ []).pin (Nat.le_of_ble_eq_true (by kernel_rfl)) (call61 len cap b fl nx lf)) mo _ (by kernel_rfl) hr fun g hg _=>?_
 rw [List.mem_singleton] at hg; subst hg
 exact ⟨fun p hp=>by rw [List.mem_singleton] at hp; subst hp; exact pinEq,_,_,_,rfl,rfl,rfl,rfl⟩
end
end Go.Proofs.YtfihojpgobmmdaaGreatDoor
