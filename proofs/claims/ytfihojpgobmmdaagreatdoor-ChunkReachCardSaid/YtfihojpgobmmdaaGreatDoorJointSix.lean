/- The Chunk laws: the program; octet.Put and what it calls. No conditions. -/
import Derived.Test.YtfihojpgobmmdaaGreatDoorProg
import Derived.Test.YtfihojpgobmmdaaGreatDoorJointFive
import Derived.Shelf.Strings.Repeat
set_option linter.unusedVariables false
set_option linter.unusedSimpArgs false
set_option linter.unusedSectionVars false
namespace Go.Proofs.YtfihojpgobmmdaaGreatDoor
open Go Go.Eng
theorem po:progOk Tryz.prog=true:=by kernel_rfl
theorem mo:Tryz.prog.follows .mixedOrders=true:=by kernel_rfl
noncomputable def bodyOf (f:Func):Code:=match f.body with | some c=>c | none=>.skip
abbrev H0:FuncId→List (Nat × Fix):=fun _=>[]
noncomputable abbrev cs0:CallS:=callX Tryz.prog noW H0 1000 40
noncomputable abbrev X0:CX Tryz.prog:=CX.of mo po (noW_ok _) H0 1000 40
end Go.Proofs.YtfihojpgobmmdaaGreatDoor
namespace Go.Proofs.YtfihojpgobmmdaaGreatDoor
open Go Go.Eng
abbrev w32 (x:Int):Int:=IntKind.u32.wrap x
def orI (a b:Int):Int:=w32 ↑(BitVec.ofInt 32 a ||| BitVec.ofInt 32 b).toNat
def xorI (a b:Int):Int:=w32 ↑(BitVec.ofInt 32 a ^^^ BitVec.ofInt 32 b).toNat
def rotI (m d x:Int):Int:=orI (w32 (x * m)) (x.fdiv d)
abbrev gW (ws:List Int) (i:Nat):Int:=ws.getD (0+i * 1) 0
def sg0 (x:Int):Int:=xorI (xorI (rotI 33554432 128 x) (rotI 16384 262144 x)) (x.fdiv 8)
def sg1 (x:Int):Int:=xorI (xorI (rotI 32768 131072 x) (rotI 8192 524288 x)) (x.fdiv 1024)
def nextW (ws:List Int) (i:Nat):Int:=w32 (w32 (w32 (gW ws (i - 16)+sg0 (gW ws (i - 15)))+gW ws (i - 7))+sg1 (gW ws (i - 2)))
abbrev byI (b:List UInt8) (i:Nat):Int:=w32 ↑(b.getD i 0).toNat
def wordB (b:List UInt8) (i:Nat):Int:=orI (orI (orI (w32 (byI b (i * 4) * 16777216)) (w32 (byI b (i * 4+1) * 65536))) (w32 (byI b (i * 4+2) * 256))) (byI b (i * 4+3))
noncomputable abbrev cdSc:Code:=bodyOf Tryz.f97
noncomputable abbrev tlSc:Code:=tailN 1 cdSc
noncomputable abbrev l1Sc:Code:=seqL tlSc
noncomputable abbrev lo1Sc:Code:=inner (seqR l1Sc)
noncomputable abbrev t2Sc:Code:=seqR tlSc
noncomputable abbrev l2Sc:Code:=seqL t2Sc
noncomputable abbrev loSc:Code:=inner (seqR l2Sc)
noncomputable abbrev enSc:Code:=seqR t2Sc
section
variable (b:List UInt8) (ws:List Int) (i:Nat)
def zW:O:=.cells (List.replicate 64 (.int .u32 0))
def sS0 (o:O):St:=stG [(0,.str b),(2,.ptr (some (3,0)))] (hL [(3,o)]) 4
def sSA:St:=stG [(0,.str b),(2,.ptr (some (3,0))),(9,.int .i64 (Int.ofNat i))] (hL [(3,.own .u32 ws)]) 4
def sSB:St:=stG [(2,.ptr (some (3,0))),(4,.int .i64 (Int.ofNat i))] (hL [(3,.own .u32 ws)]) 4
theorem sc_1:RunIs Tryz.prog cs0 [] 1000 3 Tryz.f97 [0,2] (headN 1 cdSc) (startSt [.str b] .nil 3) [] [([],[],.to .normal (sS0 b zW))]:=by
 unfold RunIs; kernel_rfl
theorem sc_own:ownS [(3,.u32)] (sS0 b zW)=some (sS0 b (.own .u32 (List.replicate 64 0))):=by kernel_rfl
theorem sc_2:RunIs Tryz.prog cs0 [] 1000 3 Tryz.f97 [0,2,9] (seqL l1Sc) (sS0 b (.own .u32 ws)) [] [([],[],.to .normal (sSA b ws 0))]:=by
 unfold RunIs; kernel_rfl
abbrev ieq (x:Int) (n:Nat):Prop:=V.int .i64 (IntKind.i64.wrap x)=V.int .i64 (Int.ofNat n)
abbrev ibd (n l:Nat):Prop:=0 ≤ Int.ofNat n∧n < l
abbrev iN (n:Nat):Prop:=0 ≤ Int.ofNat n∧Int.ofNat n < 64
def scA:List Prop:=[ieq (Int.ofNat i * 4) (i * 4),ibd (i * 4) b.length,ieq (Int.ofNat i * 4) (i * 4),ieq (Int.ofNat (i * 4)+1) (i * 4+1),ibd (i * 4+1) b.length,ieq (Int.ofNat i * 4) (i * 4),ieq (Int.ofNat (i * 4)+2) (i * 4+2),ibd (i * 4+2) b.length,ieq (Int.ofNat i * 4) (i * 4),ieq (Int.ofNat (i * 4)+3) (i * 4+3),ibd (i * 4+3) b.length,
 iN i,0+i * 1+1 ≤ ws.length,ieq (Int.ofNat i+1) (i+1)]
theorem sc_3:RunIs Tryz.prog cs0 [(10,.split),(15,.give (.int .i64 (Int.ofNat (i * 4)))),(21,.give (.int .i64 (Int.ofNat (i * 4)))),(22,.give (.int .i64 (Int.ofNat (i * 4+1)))),(29,.give (.int .i64 (Int.ofNat (i * 4)))),(30,.give (.int .i64 (Int.ofNat (i * 4+2)))),(37,.give (.int .i64 (Int.ofNat (i * 4)))),(38,.give (.int .i64 (Int.ofNat (i * 4+3)))),(43,.give (.int .i64 (Int.ofNat (i+1))))] 1000 3 Tryz.f97 [0,2,9] (inner lo1Sc) (sSA b ws i) []
  [([(decide (Int.ofNat i < 16),true)],scA b ws i,.to .normal (sSA b (putI ws (0+i * 1) [wordB b i]) (i+1))),([(decide (Int.ofNat i < 16),false)],[],.to (.exit 0) (sSA b ws i))]:=by
 unfold RunIs; kernel_rfl
theorem sc_4:RunIs Tryz.prog cs0 [(4,.give (.int .i64 (Int.ofNat 16)))] 1000 3 Tryz.f97 [2,4] (seqL l2Sc) (sSA b ws i) [] [([],[V.int .i64 16=V.int .i64 16],.to .normal (sSB ws 16))]:=by
 unfold RunIs; kernel_rfl
def scB:List Prop:=[ieq (Int.ofNat i - 15) (i - 15),iN (i - 15),0+(i - 15) * 1 < ws.length,ieq (Int.ofNat i - 2) (i - 2),iN (i - 2),0+(i - 2) * 1 < ws.length,ieq (Int.ofNat i - 16) (i - 16),iN (i - 16),0+(i - 16) * 1 < ws.length,ieq (Int.ofNat i - 7) (i - 7),iN (i - 7),0+(i - 7) * 1 < ws.length,
 iN i,0+i * 1+1 ≤ ws.length,ieq (Int.ofNat i+1) (i+1)]
theorem sc_5:RunIs Tryz.prog cs0 [(45,.split),(49,.give (.int .i64 (Int.ofNat (i - 15)))),(53,.give (.int .i64 (Int.ofNat (i - 2)))),(74,.give (.int .i64 (Int.ofNat (i - 16)))),(80,.give (.int .i64 (Int.ofNat (i - 7)))),(47,.give (.int .i64 (Int.ofNat (i+1))))] 1000 3 Tryz.f97 [2,4] (inner loSc) (sSB ws i) []
  [([(decide (Int.ofNat i < 64),true)],scB ws i,.to .normal (sSB (putI ws (0+i * 1) [nextW ws i]) (i+1))),([(decide (Int.ofNat i < 64),false)],[],.to (.exit 2) (sSB ws i))]:=by
 unfold RunIs; kernel_rfl
def schV:V:=.agg ((List.range 64).map fun j=>.int .u32 (ws.getD j 0))
theorem sc_6:RunIs Tryz.prog cs0 [] 1000 3 Tryz.f97 [] enSc (sSB ws i) [] [([],[64 ≤ ws.length,64 ≤ ws.length],.ret (schV ws) (hL []) 3)]:=by
 unfold RunIs; kernel_rfl
end
end Go.Proofs.YtfihojpgobmmdaaGreatDoor
namespace Go.Proofs.YtfihojpgobmmdaaGreatDoor
open Go Go.Eng
theorem outOf_exit {i:Nat} {Q:Exit→St→Prop} {s:St}:outOf i Q (.exit i) s=Q .normal s:=by simp [outOf]
theorem putI_len {px:List Int} {o:Nat} {l:List Int} (h:o+l.length ≤ px.length):(putI px o l).length=px.length:=by
 unfold putI
 simp only [List.length_append,List.length_take,List.length_drop]
 omega
theorem wrap_id {x:Int} (h1:-9000000000000000000 ≤ x) (h2:x ≤ 9000000000000000000):IntKind.i64.wrap x=x:=by
 unfold IntKind.wrap
 have e1:(2 ^ IntKind.i64.bits:Int)=18446744073709551616:=by decide
 have e2:(2 ^ (IntKind.i64.bits - 1):Int)=9223372036854775808:=by decide
 have e3:IntKind.i64.signed=true:=rfl
 simp only [e1,e2,e3,Bool.true_and,decide_eq_true_eq]
 split <;> omega
theorem ieq_ok {x:Int} {n:Nat} (h:x=(n:Int)) (hb:n < 1000000000000):ieq x n:=by
 unfold ieq
 rw [wrap_id (by omega) (by omega),h]; rfl
def scW (b:List UInt8):Nat→List Int
 | 0=>List.replicate 64 0
 | i+1=>putI (scW b i) (0+i * 1) [wordB b i]
theorem scW_len (b:List UInt8):∀ i,i ≤ 16→(scW b i).length=64
 | 0,_=>List.length_replicate ..
 | i+1,h=>by
   have ih:=scW_len b i (by omega)
   show (putI (scW b i) (0+i * 1) [wordB b i]).length=64
   rw [putI_len (by simp only [List.length_cons,List.length_nil]; omega),ih]
def scX (b:List UInt8):Nat→List Int
 | 0=>scW b 16
 | j+1=>putI (scX b j) (0+(16+j) * 1) [nextW (scX b j) (16+j)]
theorem scX_len (b:List UInt8):∀ j,j ≤ 48→(scX b j).length=64
 | 0,_=>scW_len b 16 (Nat.le_refl _)
 | j+1,h=>by
   have ih:=scX_len b j (by omega)
   show (putI (scX b j) (0+(16+j) * 1) [nextW (scX b j) (16+j)]).length=64
   rw [putI_len (by simp only [List.length_cons,List.length_nil]; omega),ih]
set_option maxRecDepth 20000 in
theorem tgSc (b:List UInt8) (hb:64 ≤ b.length):TG Tryz.prog 3 Tryz.f97.ntmps cdSc (startSt [.str b] .nil 3) (RetG Tryz.prog 3 Tryz.f97 fun u _ _=>u=schV (scX b 48)):=by
 have hO:∀ n:Nat,Int.ofNat n=(n:Int):=fun _=>rfl
 refine TG_isN1 1 X0 mo (by kernel_rfl) (sc_1 b) (by simp) ?_
 refine TG_own _ (sc_own b) ?_
 show TG Tryz.prog 3 Tryz.f97.ntmps tlSc _ _
 refine TG_seq' (by kernel_rfl) ?_
 refine TG_isSeq X0 mo anyR (by kernel_rfl) (by kernel_rfl) (sc_2 b _) fun g hg _=>?_
 rw [List.mem_singleton] at hg; subst hg
 refine ⟨by simp,fun s' hs'=>?_⟩
 refine TG_block (i:=0) (by kernel_rfl) (TG_mono (Q1:=fun z s'=>z= .exit 0∧∃ L,normG 3 L s'=some (sSA b (scW b 16) 16)) (TG_loop_inv (fun k' s=>∃ i,k'=16 - i∧i ≤ 16∧∃ L,normG 3 L s=some (sSA b (scW b i) i)) (by kernel_rfl) ?_ 16 ⟨0,rfl,Nat.zero_le _,_,hs'⟩) ?_)
 · rintro k' s ⟨i,hk,hi,L,hs⟩
   refine TG_norm hs ?_
   refine TG_is X0 mo anyR (by kernel_rfl) (sc_3 b (scW b i) i) fun g hg hc=>?_
   simp only [List.mem_cons,List.not_mem_nil,or_false] at hg
   rcases hg with rfl | rfl
   · have hlt:i < 16:=by
      have:=of_decide_eq_true (hc _ (List.mem_singleton.2 rfl))
      rw [hO] at this; omega
     refine ⟨fun p hp=>?_,fun s' hs'=>⟨16 - (i+1),by omega,i+1,rfl,by omega,[0,2,9],hs'⟩⟩
     have hl:=scW_len b i (by omega)
     simp only [scA,List.mem_cons,List.not_mem_nil,or_false] at hp
     rcases hp with rfl | rfl | rfl | rfl | rfl | rfl | rfl | rfl | rfl | rfl | rfl | rfl | rfl | rfl
     · exact ieq_ok (by rw [hO]; omega) (by omega)
     · exact ⟨Int.natCast_nonneg _,by omega⟩
     · exact ieq_ok (by rw [hO]; omega) (by omega)
     · exact ieq_ok (by rw [hO]; omega) (by omega)
     · exact ⟨Int.natCast_nonneg _,by omega⟩
     · exact ieq_ok (by rw [hO]; omega) (by omega)
     · exact ieq_ok (by rw [hO]; omega) (by omega)
     · exact ⟨Int.natCast_nonneg _,by omega⟩
     · exact ieq_ok (by rw [hO]; omega) (by omega)
     · exact ieq_ok (by rw [hO]; omega) (by omega)
     · exact ⟨Int.natCast_nonneg _,by omega⟩
     · exact ⟨Int.natCast_nonneg _,by rw [hO]; omega⟩
     · omega
     · exact ieq_ok (by rw [hO]; omega) (by omega)
   · have hge:¬ i < 16:=by
      have:=of_decide_eq_false (hc _ (List.mem_singleton.2 rfl))
      rw [hO] at this; omega
     obtain rfl:i=16:=by omega
     exact ⟨by simp,fun s' hs'=>⟨rfl,_,hs'⟩⟩
 rintro y s2 ⟨rfl,L,hs2⟩
 rw [outOf_exit]
 simp only [andThen]
 refine TG_norm hs2 ?_
 show TG Tryz.prog 3 Tryz.f97.ntmps t2Sc _ _
 refine TG_seq' (by kernel_rfl) ?_
 refine TG_isSeq X0 mo anyR (by kernel_rfl) (by kernel_rfl) (sc_4 b _ 16) fun g hg _=>?_
 rw [List.mem_singleton] at hg; subst hg
 refine ⟨fun p hp=>by rw [List.mem_singleton] at hp; subst hp; rfl,fun s' hs'=>?_⟩
 refine TG_block (i:=2) (by kernel_rfl) (TG_mono (Q1:=fun z s'=>z= .exit 2∧∃ L,normG 3 L s'=some (sSB (scX b 48) 64)) (TG_loop_inv (fun k' s=>∃ j,k'=48 - j∧j ≤ 48∧∃ L,normG 3 L s=some (sSB (scX b j) (16+j))) (by kernel_rfl) ?_ 48 ⟨0,rfl,Nat.zero_le _,_,hs'⟩) ?_)
 · rintro k' s ⟨j,hk,hj,L,hs⟩
   refine TG_norm hs ?_
   refine TG_is X0 mo anyR (by kernel_rfl) (sc_5 (scX b j) (16+j)) fun g hg hc=>?_
   simp only [List.mem_cons,List.not_mem_nil,or_false] at hg
   rcases hg with rfl | rfl
   · have hlt:j < 48:=by
      have:=of_decide_eq_true (hc _ (List.mem_singleton.2 rfl))
      rw [hO] at this; omega
     refine ⟨fun p hp=>?_,fun s' hs'=>⟨48 - (j+1),by omega,j+1,rfl,by omega,[2,4],hs'⟩⟩
     have hl:=scX_len b j (by omega)
     simp only [scB,List.mem_cons,List.not_mem_nil,or_false] at hp
     rcases hp with rfl | rfl | rfl | rfl | rfl | rfl | rfl | rfl | rfl | rfl | rfl | rfl | rfl | rfl | rfl
     · exact ieq_ok (by rw [hO]; omega) (by omega)
     · exact ⟨Int.natCast_nonneg _,by rw [hO]; omega⟩
     · omega
     · exact ieq_ok (by rw [hO]; omega) (by omega)
     · exact ⟨Int.natCast_nonneg _,by rw [hO]; omega⟩
     · omega
     · exact ieq_ok (by rw [hO]; omega) (by omega)
     · exact ⟨Int.natCast_nonneg _,by rw [hO]; omega⟩
     · omega
     · exact ieq_ok (by rw [hO]; omega) (by omega)
     · exact ⟨Int.natCast_nonneg _,by rw [hO]; omega⟩
     · omega
     · exact ⟨Int.natCast_nonneg _,by rw [hO]; omega⟩
     · omega
     · exact ieq_ok (by rw [hO]; omega) (by omega)
   · have hge:¬ j < 48:=by
      have:=of_decide_eq_false (hc _ (List.mem_singleton.2 rfl))
      rw [hO] at this; omega
     obtain rfl:j=48:=by omega
     exact ⟨by simp,fun s' hs'=>⟨rfl,_,hs'⟩⟩
 · rintro y s2 ⟨rfl,L,hs2⟩
   rw [outOf_exit]
   simp only [andThen]
   refine TG_norm hs2 ?_
   refine TG_ret X0 mo _ (by kernel_rfl) (sc_6 (scX b 48) 64) fun g hg _=>?_
   rw [List.mem_singleton] at hg; subst hg
   have hl:=scX_len b 48 (Nat.le_refl _)
   refine ⟨fun p hp=>?_,_,_,_,rfl,rfl⟩
   simp only [List.mem_cons,List.not_mem_nil,or_false] at hp
   rcases hp with rfl | rfl <;> omega
end Go.Proofs.YtfihojpgobmmdaaGreatDoor
namespace Go.Proofs.YtfihojpgobmmdaaGreatDoor
open Go Go.Eng
def specSc:List V→Option (List Prop × V)
 | [.str b]=>some ([64 ≤ b.length],schV (scX b 48))
 | _=>none
theorem one_Sc:OneW Tryz.prog 97 (pureW specSc):=by
 refine pureW_ok (Nat.le_of_ble_eq_true (by kernel_rfl)) fun args A v e=>?_
 unfold specSc at e
 split at e
 · simp only [Option.some.injEq,Prod.mk.injEq] at e; obtain ⟨rfl,rfl⟩:=e
   exact ⟨rfl,by kernel_rfl,fun hA=>pure_calls mo po Tryz.func97 (by kernel_rfl) (by kernel_rfl) rfl (tgSc _ (hA _ (by simp)))⟩
 · cases e
noncomputable abbrev W1:CtrW:=addW 97 (pureW specSc) noW
theorem W1_ok:CtrWOk Tryz.prog W1:=addW_ok one_Sc (noW_ok _)
noncomputable abbrev cs1:CallS:=callX Tryz.prog W1 H0 1000 40
noncomputable abbrev X1:CX Tryz.prog:=CX.of mo po W1_ok H0 1000 40
end Go.Proofs.YtfihojpgobmmdaaGreatDoor
namespace Go.Proofs.YtfihojpgobmmdaaGreatDoor
open Go Go.Eng
def andI (a b:Int):Int:=w32 ↑(BitVec.ofInt 32 a &&& BitVec.ofInt 32 b).toNat
abbrev E8:=Int × Int × Int × Int × Int × Int × Int × Int
def bS1 (e:Int):Int:=xorI (xorI (rotI 67108864 64 e) (rotI 2097152 2048 e)) (rotI 128 33554432 e)
def bS0 (a:Int):Int:=xorI (xorI (rotI 1073741824 4 a) (rotI 524288 8192 a)) (rotI 1024 4194304 a)
def chI (e f g:Int):Int:=xorI (andI e f) (andI (xorI 4294967295 e) g)
def maI (a b c:Int):Int:=xorI (xorI (andI a b) (andI a c)) (andI b c)
def rdX (rd ws:List Int) (i:Nat):E8→Int
 | (_,_,_,_,e,f,g,h)=>w32 (w32 (w32 (w32 (h+bS1 e)+chI e f g)+gW rd i)+gW ws i)
def rndE (rd ws:List Int) (i:Nat):E8→E8
 | (a,b,c,d,e,f,g,h)=>(w32 (rdX rd ws i (a,b,c,d,e,f,g,h)+w32 (bS0 a+maI a b c)),a,b,c,w32 (d+rdX rd ws i (a,b,c,d,e,f,g,h)),e,f,g)
def c8 (q:E8):List V:=[.int .u32 q.1,.int .u32 q.2.1,.int .u32 q.2.2.1,.int .u32 q.2.2.2.1,.int .u32 q.2.2.2.2.1,.int .u32 q.2.2.2.2.2.1,.int .u32 q.2.2.2.2.2.2.1,.int .u32 q.2.2.2.2.2.2.2]
def add8:E8→E8→E8
 | (a,b,c,d,e,f,g,h),(a',b',c',d',e',f',g',h')=>(w32 (a+a'),w32 (b+b'),w32 (c+c'),w32 (d+d'),w32 (e+e'),w32 (f+f'),w32 (g+g'),w32 (h+h'))
noncomputable abbrev cdCm:Code:=bodyOf Tryz.f72
noncomputable abbrev tlCm:Code:=tailN 3 cdCm
noncomputable abbrev lpCm:Code:=seqL tlCm
noncomputable abbrev loCm:Code:=inner (seqR lpCm)
noncomputable abbrev enCm:Code:=seqR tlCm
def w64L (ws:List Int):List Int:=(List.range 64).map fun j=>ws.getD j 0
section
variable (rd ws:List Int) (a b c d e f g h a' b' c' d' e' f' g' h':Int) (i:Nat)
def frCm:List (Nat × V):=[(2,.ptr (some (3,0))),(4,.ptr (some (4,0))),(5,.ptr (some (5,0))),(6,.ptr (some (6,0)))]
def sC0 (o:O):St:=stG frCm (hL [(1,.ints .u32 rd),(3,.cells (c8 (a,b,c,d,e,f,g,h))),(4,.cells (c8 (0,0,0,0,0,0,0,0))),(5,o),(6,.cells (c8 (a',b',c',d',e',f',g',h')))]) 7
def sCi:St:=stG (frCm ++ [(18,.int .i64 (Int.ofNat i))]) (hL [(1,.ints .u32 rd),(3,.cells (c8 (a,b,c,d,e,f,g,h))),(4,.cells (c8 (0,0,0,0,0,0,0,0))),(5,.own .u32 ws),(6,.cells (c8 (a',b',c',d',e',f',g',h')))]) 7
theorem cm_1 (s:List UInt8):RunIs Tryz.prog cs1 [] 1000 3 Tryz.f72 [2,4,5,6] (headN 3 cdCm) (startSt [.agg (c8 (a,b,c,d,e,f,g,h)),.str s] (hL [(1,.ints .u32 rd)]) 3) []
  [([],[64 ≤ s.length],.to .normal (sC0 rd a b c d e f g h a b c d e f g h (.cells ((List.range 64).map fun j=>.int .u32 ((scX s 48).getD j 0)))))]:=by
 unfold RunIs; kernel_rfl
theorem cm_own:ownS [(5,.u32)] (sC0 rd a b c d e f g h a' b' c' d' e' f' g' h' (.cells ((List.range 64).map fun j=>.int .u32 (ws.getD j 0))))=some (sC0 rd a b c d e f g h a' b' c' d' e' f' g' h' (.own .u32 (w64L ws))):=by
 kernel_rfl
theorem cm_2:RunIs Tryz.prog cs1 [(18,.give (.int .i64 (Int.ofNat 0)))] 1000 3 Tryz.f72 [2,4,5,6,18] (seqL lpCm) (sC0 rd a b c d e f g h a' b' c' d' e' f' g' h' (.own .u32 ws)) [] [([],[V.int .i64 0=V.int .i64 0],.to .normal (sCi rd ws a b c d e f g h a' b' c' d' e' f' g' h' 0))]:=by
 unfold RunIs; kernel_rfl
theorem cm_3:∃ L,RunIs Tryz.prog cs1 [(19,.split),(101,.give (.int .i64 (Int.ofNat (i+1))))] 1000 3 Tryz.f72 [2,4,5,6,18] (inner loCm) (sCi rd ws a b c d e f g h a' b' c' d' e' f' g' h' i) L
  [([(decide (Int.ofNat i < 64),true)],[iN i,0+i * 1 < rd.length,iN i,0+i * 1 < ws.length,ieq (Int.ofNat i+1) (i+1)],
   .to .normal (sCi rd ws a b c d e f g h (rndE rd ws i (a',b',c',d',e',f',g',h')).1 (rndE rd ws i (a',b',c',d',e',f',g',h')).2.1 (rndE rd ws i (a',b',c',d',e',f',g',h')).2.2.1 (rndE rd ws i (a',b',c',d',e',f',g',h')).2.2.2.1 (rndE rd ws i (a',b',c',d',e',f',g',h')).2.2.2.2.1 (rndE rd ws i (a',b',c',d',e',f',g',h')).2.2.2.2.2.1 (rndE rd ws i (a',b',c',d',e',f',g',h')).2.2.2.2.2.2.1 (rndE rd ws i (a',b',c',d',e',f',g',h')).2.2.2.2.2.2.2 (i+1))),
   ([(decide (Int.ofNat i < 64),false)],[],.to (.exit 0) (sCi rd ws a b c d e f g h a' b' c' d' e' f' g' h' i))]:=
 RunIs.of (by kernel_rfl) (by kernel_rfl) (by kernel_rfl)
abbrev bd8 (k:Int):List Prop:=[0 ≤ k∧k < 8,0 ≤ k∧k < 8,0 ≤ k∧k < 8]
theorem cm_4:RunIs Tryz.prog cs1 [] 1000 3 Tryz.f72 [] enCm (sCi rd ws a b c d e f g h a' b' c' d' e' f' g' h' i) []
  [([],bd8 0 ++ (bd8 1 ++ (bd8 2 ++ (bd8 3 ++ (bd8 4 ++ (bd8 5 ++ (bd8 6 ++ bd8 7)))))),.ret (.agg (c8 (add8 (a',b',c',d',e',f',g',h') (a,b,c,d,e,f,g,h)))) (hL [(1,.ints .u32 rd)]) 3)]:=by
 unfold RunIs; kernel_rfl
end
def rndN (rd ws:List Int) (q:E8):Nat→E8
 | 0=>q
 | i+1=>rndE rd ws i (rndN rd ws q i)
abbrev sCq (rd ws:List Int) (q q':E8) (i:Nat):St:=sCi rd ws q.1 q.2.1 q.2.2.1 q.2.2.2.1 q.2.2.2.2.1 q.2.2.2.2.2.1 q.2.2.2.2.2.2.1 q.2.2.2.2.2.2.2 q'.1 q'.2.1 q'.2.2.1 q'.2.2.2.1 q'.2.2.2.2.1 q'.2.2.2.2.2.1 q'.2.2.2.2.2.2.1 q'.2.2.2.2.2.2.2 i
def cmpL (rd:List Int) (s:List UInt8) (q:E8):E8:=add8 (rndN rd (w64L (scX s 48)) q 64) q
set_option maxRecDepth 20000 in
theorem tgCm (rd:List Int) (hrd:64 ≤ rd.length) (s:List UInt8) (hs64:64 ≤ s.length) (q:E8):TG Tryz.prog 3 Tryz.f72.ntmps cdCm (startSt [.agg (c8 q),.str s] (hL [(1,.ints .u32 rd)]) 3)
  (RetG Tryz.prog 3 Tryz.f72 fun u _ _=>u= .agg (c8 (cmpL rd s q))):=by
 have hO:∀ n:Nat,Int.ofNat n=(n:Int):=fun _=>rfl
 obtain ⟨a,b,c,d,e,f,g,h⟩:=q
 refine TG_isN1 3 X1 mo (by kernel_rfl) (cm_1 rd a b c d e f g h s) (fun p hp=>by rw [List.mem_singleton] at hp; subst hp; exact hs64) ?_
 refine TG_own _ (cm_own rd (scX s 48) a b c d e f g h a b c d e f g h) ?_
 show TG Tryz.prog 3 Tryz.f72.ntmps tlCm _ _
 have hwl:(w64L (scX s 48)).length=64:=by unfold w64L; rw [List.length_map,List.length_range]
 generalize hW:w64L (scX s 48)=ws at hwl ⊢
 refine TG_seq' (by kernel_rfl) ?_
 refine TG_isSeq X1 mo anyR (by kernel_rfl) (by kernel_rfl) (cm_2 rd ws a b c d e f g h a b c d e f g h) fun g' hg _=>?_
 rw [List.mem_singleton] at hg; subst hg
 refine ⟨fun p hp=>by rw [List.mem_singleton] at hp; subst hp; rfl,fun s' hs'=>?_⟩
 refine TG_block (i:=0) (by kernel_rfl) (TG_mono (Q1:=fun z s'=>z= .exit 0∧∃ L,normG 3 L s'=some (sCq rd ws (a,b,c,d,e,f,g,h) (rndN rd ws (a,b,c,d,e,f,g,h) 64) 64)) (TG_loop_inv (fun k' s=>∃ i,k'=64 - i∧i ≤ 64∧∃ L,normG 3 L s=some (sCq rd ws (a,b,c,d,e,f,g,h) (rndN rd ws (a,b,c,d,e,f,g,h) i) i)) (by kernel_rfl) ?_ 64 ⟨0,rfl,Nat.zero_le _,_,hs'⟩) ?_)
 · rintro k' s0 ⟨i,hk,hi,L,hs⟩
   refine TG_norm hs ?_
   obtain ⟨L',hr⟩:=cm_3 rd ws a b c d e f g h (rndN rd ws (a,b,c,d,e,f,g,h) i).1 (rndN rd ws (a,b,c,d,e,f,g,h) i).2.1 (rndN rd ws (a,b,c,d,e,f,g,h) i).2.2.1 (rndN rd ws (a,b,c,d,e,f,g,h) i).2.2.2.1 (rndN rd ws (a,b,c,d,e,f,g,h) i).2.2.2.2.1 (rndN rd ws (a,b,c,d,e,f,g,h) i).2.2.2.2.2.1 (rndN rd ws (a,b,c,d,e,f,g,h) i).2.2.2.2.2.2.1 (rndN rd ws (a,b,c,d,e,f,g,h) i).2.2.2.2.2.2.2 i
   refine TG_is X1 mo anyR (by kernel_rfl) hr fun g' hg hc=>?_
   simp only [List.mem_cons,List.not_mem_nil,or_false] at hg
   rcases hg with rfl | rfl
   · have hlt:i < 64:=by
      have:=of_decide_eq_true (hc _ (List.mem_singleton.2 rfl))
      rw [hO] at this; omega
     refine ⟨fun p hp=>?_,fun s' hs'=>⟨64 - (i+1),by omega,i+1,rfl,by omega,[2,4,5,6,18],hs'⟩⟩
     simp only [List.mem_cons,List.not_mem_nil,or_false] at hp
     rcases hp with rfl | rfl | rfl | rfl | rfl
     · exact ⟨Int.natCast_nonneg _,by rw [hO]; omega⟩
     · omega
     · exact ⟨Int.natCast_nonneg _,by rw [hO]; omega⟩
     · omega
     · exact ieq_ok (by rw [hO]; omega) (by omega)
   · have hge:¬ i < 64:=by
      have:=of_decide_eq_false (hc _ (List.mem_singleton.2 rfl))
      rw [hO] at this; omega
     obtain rfl:i=64:=by omega
     exact ⟨by simp,fun s' hs'=>⟨rfl,[2,4,5,6,18],hs'⟩⟩
 · rintro y s2 ⟨rfl,L,hs2⟩
   rw [outOf_exit]
   simp only [andThen]
   refine TG_norm hs2 ?_
   refine TG_ret X1 mo _ (by kernel_rfl) (cm_4 rd ws a b c d e f g h _ _ _ _ _ _ _ _ 64) fun g' hg _=>?_
   rw [List.mem_singleton] at hg; subst hg
   refine ⟨fun p hp=>?_,_,_,_,rfl,?_⟩
   · simp only [List.mem_append,List.mem_cons,List.not_mem_nil,or_false,or_self] at hp
     rcases hp with rfl | rfl | rfl | rfl | rfl | rfl | rfl | rfl <;> decide
   · unfold cmpL; rw [hW]
end Go.Proofs.YtfihojpgobmmdaaGreatDoor
namespace Go.Proofs.YtfihojpgobmmdaaGreatDoor
open Go Go.Eng
def nsG:List (Option (Nat × Nat)):=[some (0,0),some (1,0),some (2,0)]
theorem nsG_ok:∀ p ∈ gtab,nsG[p.2]? =some (some (p.2,0)):=by
 intro p hp
 simp only [gtab,List.mem_cons,List.not_mem_nil,or_false] at hp
 rcases hp with rfl | rfl | rfl <;> rfl
def specCm:List V→Tr O→Option (List Prop × V)
 | [.agg [.int .u32 a,.int .u32 b,.int .u32 c,.int .u32 d,.int .u32 e,.int .u32 f,.int .u32 g,.int .u32 x],.str s],h=>match h.get 1 with
   | some (.ints .u32 rd)=>some ([64 ≤ rd.length,64 ≤ s.length],.agg (c8 (cmpL rd s (a,b,c,d,e,f,g,x))))
   | _=>none
 | _,_=>none
theorem one_Cm:PureA Tryz.prog 72 specCm:=by
 refine ⟨Nat.le_of_ble_eq_true (by kernel_rfl),fun args h A u e=>?_⟩
 unfold specCm at e
 split at e
 case h_2=>cases e
 rename_i a b c d e1 f g x s
 split at e
 case h_2=>cases e
 rename_i rd hm
 simp only [Option.some.injEq,Prod.mk.injEq] at e; obtain ⟨rfl,rfl⟩:=e
 refine ⟨rfl,fun hA E n' w' args' ra g0 hd hc=>?_⟩
 obtain ⟨g2,d2,n2⟩:=rows_ok g0 nsG [none,some (.u32,rd),none] (Nat.le_of_ble_eq_true rfl) nsG_ok (by
  intro j k' ks' hj
  match j,hj with
  | 0,hj=>cases hj
  | 1,hj=>cases hj; exact ⟨1,0,rd,rfl,hm,rfl⟩
  | 2,hj=>cases hj
  | j+3,hj=>simp at hj)
 exact read_calls mo po Tryz.func72 (code:=cdCm) (by kernel_rfl) (by kernel_rfl) (tgCm rd (hA _ (by simp)) s (hA (64 ≤ s.length) (by simp)) (a,b,c,d,e1,f,g,x)) (E:=E.rows nsG) g2 d2 n2 (frees_rel _ _ rfl ra)
noncomputable abbrev W2:CtrW:=addW 72 (readW specCm) W1
theorem W2_ok:CtrWOk Tryz.prog W2:=addW_ok (readW_ok one_Cm) W1_ok
noncomputable abbrev cs2:CallS:=callX Tryz.prog W2 H0 1000 40
noncomputable abbrev X2:CX Tryz.prog:=CX.of mo po W2_ok H0 1000 40
end Go.Proofs.YtfihojpgobmmdaaGreatDoor
namespace Go.Proofs.YtfihojpgobmmdaaGreatDoor
open Go Go.Eng
def pB (x d:Int):UInt8:=UInt8.ofNat (IntKind.u8.wrap ((IntKind.u64.wrap x).fdiv d)).toNat
def put8 (x:Int):List UInt8:=[pB x 72057594037927936,pB x 281474976710656,pB x 1099511627776,pB x 4294967296,pB x 16777216,pB x 65536,pB x 256,pB x 1]
def put4 (x:Int):List UInt8:=[pB x 16777216,pB x 65536,pB x 256,pB x 1]
def put1 (x:Int):List UInt8:=[pB x 1]
abbrev b8:List Prop:=[(0:Int) ≤ 0∧(0:Int) < 8,(0:Int) ≤ 1∧(1:Int) < 8,(0:Int) ≤ 2∧(2:Int) < 8,(0:Int) ≤ 3∧(3:Int) < 8,(0:Int) ≤ 4∧(4:Int) < 8,(0:Int) ≤ 5∧(5:Int) < 8,(0:Int) ≤ 6∧(6:Int) < 8,(0:Int) ≤ 7∧(7:Int) < 8]
theorem b8_ok:∀ p ∈ b8,p:=by
 intro p hp
 simp only [List.mem_cons,List.not_mem_nil,or_false] at hp
 rcases hp with rfl | rfl | rfl | rfl | rfl | rfl | rfl | rfl <;> decide
noncomputable abbrev cdPu:Code:=bodyOf Tryz.f59
theorem pu_8 (x:Int):RunIs Tryz.prog cs2 [] 1000 3 Tryz.f59 [] cdPu (startSt [.int .i64 x,.int .i64 8] .nil 3) [] [([],b8,.ret (.str (put8 x)) (hL []) 3)]:=by
 unfold RunIs; kernel_rfl
theorem pu_4 (x:Int):RunIs Tryz.prog cs2 [] 1000 3 Tryz.f59 [] cdPu (startSt [.int .i64 x,.int .i64 4] .nil 3) [] [([],b8,.ret (.str (put4 x)) (hL []) 3)]:=by
 unfold RunIs; kernel_rfl
theorem pu_1 (x:Int):RunIs Tryz.prog cs2 [] 1000 3 Tryz.f59 [] cdPu (startSt [.int .i64 x,.int .i64 1] .nil 3) [] [([],b8,.ret (.str (put1 x)) (hL []) 3)]:=by
 unfold RunIs; kernel_rfl
def specPu:List V→Option (List Prop × V)
 | [.int .i64 x,.int .i64 k]=>match k with
   | .ofNat 8=>some ([],.str (put8 x))
   | .ofNat 4=>some ([],.str (put4 x))
   | .ofNat 1=>some ([],.str (put1 x))
   | _=>none
 | _=>none
theorem TG_one {P:Program} {n0:Nat} {fn:Func} {c:Code} {s:St} (X':CX P) (hm:P.follows .mixedOrders=true) {H:List (Nat × Fix)} {F:Nat} {live:List Nat} {A:List Prop} {v:V} {h:Tr O} {n:Nat} (hc:codeOk fn.ntmps c=true)
  (hr:RunIs P X'.cs H F n0 fn live c s [] [([],A,.ret v h n)]) (hA:∀ a ∈ A,a):TG P n0 fn.ntmps c s (RetG P n0 fn fun u _ _=>u=v):=by
 refine TG_ret X' hm _ hc hr fun g hg _=>?_
 rw [List.mem_singleton] at hg; subst hg
 exact ⟨hA,_,_,_,rfl,rfl⟩
theorem one_Pu:OneW Tryz.prog 59 (pureW specPu):=by
 refine pureW_ok (Nat.le_of_ble_eq_true (by kernel_rfl)) fun args A v e=>?_
 unfold specPu at e
 split at e
 · split at e
   · simp only [Option.some.injEq,Prod.mk.injEq] at e; obtain ⟨rfl,rfl⟩:=e
     exact ⟨rfl,by kernel_rfl,fun _=>pure_calls mo po Tryz.func59 (by kernel_rfl) (by kernel_rfl) rfl (TG_one X2 mo (by kernel_rfl) (pu_8 _) b8_ok)⟩
   · simp only [Option.some.injEq,Prod.mk.injEq] at e; obtain ⟨rfl,rfl⟩:=e
     exact ⟨rfl,by kernel_rfl,fun _=>pure_calls mo po Tryz.func59 (by kernel_rfl) (by kernel_rfl) rfl (TG_one X2 mo (by kernel_rfl) (pu_4 _) b8_ok)⟩
   · simp only [Option.some.injEq,Prod.mk.injEq] at e; obtain ⟨rfl,rfl⟩:=e
     exact ⟨rfl,by kernel_rfl,fun _=>pure_calls mo po Tryz.func59 (by kernel_rfl) (by kernel_rfl) rfl (TG_one X2 mo (by kernel_rfl) (pu_1 _) b8_ok)⟩
   · cases e
 · cases e
end Go.Proofs.YtfihojpgobmmdaaGreatDoor
namespace Go.Proofs.YtfihojpgobmmdaaGreatDoor
open Go Go.Eng Go.Shelf Go.RowKit
def repRen:Go.Shelf.Ren:=⟨fun | 105=>71 | 212=>93 | 99=>94 | 165=>95 | 166=>58 | 170=>96 | 169=>60 | 263=>118 | 264=>119 | 206=>120 | 240=>84 | 241=>121 | 276=>112 | 277=>146 | n=>n,fun | 9=>9 | 3=>3 | 4=>4 | 20=>20 | 0=>0 | 46=>144 | 109=>145 | 5=>5 | 72=>102 | 76=>105 | 51=>120 | 146=>164 | 53=>135 | 148=>166 | 70=>100 | 37=>30 | 75=>104 | 127=>137 | 164=>158 | 80=>108 | n=>n,fun n=>n⟩
theorem repLays:Lays.n105 Tryz.prog repRen:={
 mixed:=mo
 f99:=Tryz.func94.trans (congrArg some (by kernel_rfl))
 f105:=Tryz.func71.trans (congrArg some (by kernel_rfl))
 f165:=Tryz.func95.trans (congrArg some (by kernel_rfl))
 f166:=Tryz.func58.trans (congrArg some (by kernel_rfl))
 f169:=Tryz.func60.trans (congrArg some (by kernel_rfl))
 f170:=Tryz.func96.trans (congrArg some (by kernel_rfl))
 f206:=Tryz.func120.trans (congrArg some (by kernel_rfl))
 f212:=Tryz.func93.trans (congrArg some (by kernel_rfl))
 f240:=Tryz.func84.trans (congrArg some (by kernel_rfl))
 f241:=Tryz.func121.trans (congrArg some (by kernel_rfl))
 f263:=Tryz.func118.trans (congrArg some (by kernel_rfl))
 f264:=Tryz.func119.trans (congrArg some (by kernel_rfl))
 f276:=Tryz.func112.trans (congrArg some (by kernel_rfl))
 f277:=Tryz.func146.trans (congrArg some (by kernel_rfl))
 t0:=Tryz.underlying0
 a0:=Tryz.isAgg0
 z0:=Tryz.sizeOf0
 v0:=Tryz.zeroValue0
 t3:=Tryz.underlying3
 a3:=Tryz.isAgg3
 z3:=Tryz.sizeOf3
 v3:=Tryz.zeroValue3
 t4:=Tryz.underlying4
 a4:=Tryz.isAgg4
 z4:=Tryz.sizeOf4
 v4:=Tryz.zeroValue4
 t5:=Tryz.underlying5
 a5:=Tryz.isAgg5
 z5:=Tryz.sizeOf5
 v5:=Tryz.zeroValue5
 t9:=Tryz.underlying9
 a9:=Tryz.isAgg9
 z9:=Tryz.sizeOf9
 v9:=Tryz.zeroValue9
 t20:=Tryz.underlying20
 a20:=Tryz.isAgg20
 z20:=Tryz.sizeOf20
 v20:=Tryz.zeroValue20
 t37:=Tryz.underlying30
 a37:=Tryz.isAgg30
 z37:=Tryz.sizeOf30
 v37:=Tryz.zeroValue30
 t46:=Tryz.underlying144
 a46:=Tryz.isAgg144
 z46:=Tryz.sizeOf144
 v46:=Tryz.zeroValue144
 t51:=Tryz.underlying120
 a51:=Tryz.isAgg120
 z51:=Tryz.sizeOf120
 v51:=Tryz.zeroValue120
 t53:=Tryz.underlying135
 a53:=Tryz.isAgg135
 z53:=Tryz.sizeOf135
 v53:=Tryz.zeroValue135
 t70:=Tryz.underlying100
 a70:=Tryz.isAgg100
 z70:=Tryz.sizeOf100
 v70:=Tryz.zeroValue100
 t72:=Tryz.underlying102
 a72:=Tryz.isAgg102
 z72:=Tryz.sizeOf102
 v72:=Tryz.zeroValue102
 t75:=Tryz.underlying104
 a75:=Tryz.isAgg104
 z75:=Tryz.sizeOf104
 v75:=Tryz.zeroValue104
 t76:=Tryz.underlying105
 a76:=Tryz.isAgg105
 z76:=Tryz.sizeOf105
 v76:=Tryz.zeroValue105
 t109:=Tryz.underlying145
 a109:=Tryz.isAgg145
 z109:=Tryz.sizeOf145
 v109:=Tryz.zeroValue145
 t127:=Tryz.underlying137
 a127:=Tryz.isAgg137
 z127:=Tryz.sizeOf137
 v127:=Tryz.zeroValue137
 t146:=Tryz.underlying164
 a146:=Tryz.isAgg164
 z146:=Tryz.sizeOf164
 v146:=Tryz.zeroValue164
 t148:=Tryz.underlying166
 a148:=Tryz.isAgg166
 z148:=Tryz.sizeOf166
 v148:=Tryz.zeroValue166
 t164:=Tryz.underlying158
 a164:=Tryz.isAgg158
 z164:=Tryz.sizeOf158
 v164:=Tryz.zeroValue158
}
theorem repMore:Builder.Extra Tryz.prog repRen where
 sizeBuilder:=by kernel_rfl
 liesBuilder:=by kernel_rfl
 t5:=repLays.t5
 a5:=repLays.a5
 z5:=repLays.z5
 v5:=repLays.v5
 infoByte:=by kernel_rfl
 cellsByte:=by kernel_rfl
 sizeByte:=by kernel_rfl
 neB5:=by decide
def specRe:List V→Option (List Prop × V)
 | [.str [0],.int .i64 x]=>some ([0 ≤ x∧x ≤ 1000],.str (List.replicate x.toNat 0))
 | _=>none
theorem one_Re:OneW Tryz.prog 71 (pureW specRe):=by
 refine pureW_ok (Nat.le_of_ble_eq_true (by kernel_rfl)) fun args A v e=>?_
 unfold specRe at e
 split at e
 · rename_i x
   simp only [Option.some.injEq,Prod.mk.injEq] at e; obtain ⟨rfl,rfl⟩:=e
   refine ⟨rfl,rfl,fun hA E w args' _ ra=>?_⟩
   have hx:=hA _ (List.mem_singleton.2 rfl)
   obtain ⟨c,rfl⟩:∃ c:Nat,x=(c:Int):=⟨x.toNat,by omega⟩
   obtain ⟨y,ys,r0,⟨z,zs,r1,rs,rfl⟩,rfl⟩:=ra
   have rs:zs=[]:=rs
   subst rs
   have r1:z= .int .i64 (c:Int):=r1
   subst r1
   have r0:y= .string ⟨#[0]⟩:=r0
   subst r0
   have h:=Any.strings_Repeat repLays repMore ⟨#[0]⟩ c w (by omega) (by show 1 * c ≤ _; omega)
   refine h.mono fun en w' ⟨he,hw⟩=>⟨⟨E,?_⟩,hw⟩
   rw [he]
   have e:Lib.repeatL (ByteArray.mk #[0]).data.toList c=List.replicate c 0:=by
    have:=Lib.repeatL_replicate 0 1 c
    rw [Nat.mul_one] at this
    exact this
   rw [e]
   exact rfl
 · cases e
noncomputable abbrev W3:CtrW:=addW 71 (pureW specRe) (addW 59 (pureW specPu) W2)
theorem W3_ok:CtrWOk Tryz.prog W3:=addW_ok one_Re (addW_ok one_Pu W2_ok)
end Go.Proofs.YtfihojpgobmmdaaGreatDoor
namespace Go.Proofs.YtfihojpgobmmdaaGreatDoor
open Go Go.Eng Go.Shelf Go.RowKit
def specCk:List V→Tr O→Nat→Option (List Prop × V × Tr O × Nat)
 | [.ptr (some (m,0))],h,n=>match h.get m with
   | some (.bld t _ x)=>match Nat.beq t 102 && Nat.blt m top with
     | true=>some ([],.tup [],h.set m (some (.bld t true x)),n)
     | false=>none
   | _=>none
 | _,_,_=>none
theorem one_Ck:OneW Tryz.prog 84 specCk:=by
 refine ⟨Nat.le_of_ble_eq_true (by kernel_rfl),fun args h n A v h' n' e hA E w args' ra g hd hc=>?_⟩
 unfold specCk at e
 split at e
 case h_2=>cases e
 rename_i m
 split at e
 case h_2=>cases e
 rename_i t self x hm
 split at e
 case h_2=>cases e
 rename_i hq
 simp only [Bool.and_eq_true] at hq
 obtain ⟨ht,hmt⟩:=hq
 have ht:=Nat.eq_of_beq_eq_true ht
 subst ht
 have hmt:m < top:=Nat.le_of_ble_eq_true hmt
 simp only [Option.some.injEq,Prod.mk.injEq] at e
 obtain ⟨rfl,rfl,rfl,rfl⟩:=e
 obtain ⟨y,ys,r0,rs,rfl⟩:=ra
 have rs:ys=[]:=rs
 subst rs
 obtain ⟨b,s,e1,rfl⟩:=r0
 obtain ⟨b',s',e2,hs,x',fz,k1,k2,k3,k4⟩:=g.rel m _ hm
 rw [e1] at e2
 simp only [Option.some.injEq,Prod.mk.injEq] at e2
 obtain ⟨rfl,rfl⟩:=e2
 subst hs
 have hbb:b < w.heap.size:=g.bnd m b 0 e1
 have hlive:wlive h m:=⟨_,hm,rfl⟩
 have hcell:∀ {self:Bool},w.heap[b]? =some (.cells #[.pointer (if self then some ⟨b,0,none⟩ else none),x'] 102 fz)→w.cell? ⟨b,0,none⟩=some (.pointer (if self then some ⟨b,0,none⟩ else none)):=by
  intro self k1
  unfold World.cell?; rw [k1]; rfl
 have hcpost:∀ w',w'.heap.size=w.heap.size→w'.tape=w.tape→w'.os=w.os→w'.output=w.output→(∀ j,j ≠ b→w'.heap[j]? =w.heap[j]?)→w'.heap[b]? =some (.cells #[.pointer (some ⟨b,0,none⟩),x'] 102 fz)→
   CPost E h n w (.ret (.tup [])) (h.set m (some (.bld 102 true x))) n (.returned (.tuple #[])) w':=by
  intro w' h1 h2 h3 h4 h5 h6
  refine ⟨E,Upd.write g hmt hlive e1 h1 h2 h3 h4 h5 ⟨rfl,x',fz,h6,k2,k3,k4⟩,fun _ _=>rfl,hd,Nat.le_refl _,⟨[],rfl,rfl⟩⟩
 cases self with
 | true=>
   have h:=Any.Builder_copyCheck_used { repLays with } { repMore with } b w (hcell k1)
   refine h.mono fun en w' ⟨he,hw⟩=>?_
   subst he; subst hw
   exact hcpost w' rfl rfl rfl rfl (fun _ _=>rfl) k1
 | false=>
   have h:=Any.Builder_copyCheck_fresh { repLays with } { repMore with } b w (hcell k1) (by unfold World.shape?; rw [k1]; rfl) (by
    unfold World.frozen?
    simp only [k1]
    have:=k3 0 (by omega)
    obtain ⟨lo,hi⟩:=fz
    simp only at this ⊢
    cases hq:(decide (lo ≤ 0) && decide (0 < hi)) with
    | false=>rfl
    | true=>simp only [Bool.and_eq_true,decide_eq_true_eq] at hq; exact absurd hq this)
   refine h.mono fun en w' ⟨he,hw⟩=>?_
   subst he; subst hw
   refine hcpost _ (by simp [World.setCell]) rfl rfl rfl (fun j hj=>by simp [World.setCell,Array.getElem?_modify,Ne.symm hj]) ?_
   simp [World.setCell,Array.getElem?_modify,k1]
noncomputable abbrev W4:CtrW:=addW 84 specCk W3
theorem W4_ok:CtrWOk Tryz.prog W4:=addW_ok one_Ck W3_ok
noncomputable abbrev cs4:CallS:=callX Tryz.prog W4 H0 1000 40
noncomputable abbrev X4:CX Tryz.prog:=CX.of mo po W4_ok H0 1000 40
end Go.Proofs.YtfihojpgobmmdaaGreatDoor
namespace Go.Proofs.YtfihojpgobmmdaaGreatDoor
open Go Go.Eng
noncomputable abbrev cdOf:Code:=bodyOf Tryz.f38
noncomputable abbrev tlOf:Code:=tailN 4 cdOf
noncomputable abbrev l1Of:Code:=seqL tlOf
noncomputable abbrev t2Of:Code:=seqR tlOf
noncomputable abbrev l2Of:Code:=seqL t2Of
noncomputable abbrev t3Of:Code:=seqR t2Of
def hSR (st rd:List Int):Tr O:=hL [(0,.ints .u32 st),(1,.ints .u32 rd)]
def zerosN (s:List UInt8):Nat:=(119 - s.length % 64) % 64
def padOf (s:List UInt8):List UInt8:=((s.take s.length).drop (s.length / 64 * 64) ++ [128] ++ List.replicate (zerosN s) 0) ++ put8 (Int.ofNat (s.length * 8))
def stq (st:List Int):E8:=(st.getD 0 0,st.getD 1 0,st.getD 2 0,st.getD 3 0,st.getD 4 0,st.getD 5 0,st.getD 6 0,st.getD 7 0)
def blk (s:List UInt8) (i:Nat):List UInt8:=(s.take (i+64)).drop i
def hashN (rd:List Int) (s:List UInt8) (q:E8):Nat→E8
 | 0=>q
 | j+1=>cmpL rd (blk s (64 * j)) (hashN rd s q j)
def wB (x:Int):List UInt8:=put4 (IntKind.i64.wrap x)
def out8 (q:E8):List UInt8:=wB q.1 ++ strI (bytesI (wB q.2.1)) ++ strI (bytesI (wB q.2.2.1)) ++ strI (bytesI (wB q.2.2.2.1)) ++ strI (bytesI (wB q.2.2.2.2.1)) ++ strI (bytesI (wB q.2.2.2.2.2.1)) ++ strI (bytesI (wB q.2.2.2.2.2.2.1)) ++ strI (bytesI (wB q.2.2.2.2.2.2.2))
def shaOf (st rd:List Int) (s:List UInt8):List UInt8:=out8 (hashN rd (padOf s) (hashN rd s (stq st) (s.length / 64)) ((padOf s).length / 64))
def sOf0 (st rd:List Int) (q:E8) (s p:List UInt8):St:=stG [(0,.str s),(3,.ptr (some (3,0))),(5,.str p)] (hL [(0,.ints .u32 st),(1,.ints .u32 rd),(3,.cells (c8 q))]) 4
def sOf1 (st rd:List Int) (q:E8) (s p:List UInt8) (i:Nat):St:=stG [(0,.str s),(3,.ptr (some (3,0))),(5,.str p),(6,.int .i64 (Int.ofNat i))] (hL [(0,.ints .u32 st),(1,.ints .u32 rd),(3,.cells (c8 q))]) 4
def sOf2 (st rd:List Int) (q:E8) (p:List UInt8):St:=stG [(3,.ptr (some (3,0))),(5,.str p)] (hL [(0,.ints .u32 st),(1,.ints .u32 rd),(3,.cells (c8 q))]) 4
theorem of_1 (st rd:List Int) (s:List UInt8):∃ L,RunIs Tryz.prog cs4 [(13,.give (.int .i64 (Int.ofNat (s.length % 64)))),(15,.give (.int .i64 (Int.ofNat (zerosN s)))),(20,.give (.int .i64 (Int.ofNat (s.length / 64 * 64)))),(28,.give (.int .i64 (Int.ofNat (s.length * 8))))] 1000 3 Tryz.f38 [0,3,5] (headN 4 cdOf) (startSt [.str s] (hSR st rd) 3) L
  [([],
   [(8 ≤ st.length),(V.int IntKind.i64 (((Int.ofNat s.length)).tmod (64:Int))=V.int IntKind.i64 (Int.ofNat (s.length % 64))),(V.int IntKind.i64 ((IntKind.i64.wrap ((119:Int) - Int.ofNat (s.length % 64))).tmod (64:Int))=V.int IntKind.i64 (Int.ofNat (zerosN s))),((64:Int) ≠ (0:Int)),(V.int IntKind.i64 (IntKind.i64.wrap (IntKind.i64.wrap (((Int.ofNat s.length)).tdiv (64:Int)) * (64:Int)))=V.int IntKind.i64 (Int.ofNat (s.length / 64 * 64))),((0:Int) ≤ Int.ofNat (s.length / 64 * 64)∧Int.ofNat (s.length / 64 * 64) ≤ (Int.ofNat s.length)),((List.drop (Int.ofNat (s.length / 64 * 64)).toNat (List.take s.length s)).length+1 ≤ 9223372036854775807),((0:Int) ≤ Int.ofNat (zerosN s)∧Int.ofNat (zerosN s) ≤ (1000:Int)),((0:Int) ≤ Int.ofNat (s.length / 64 * 64)∧Int.ofNat (s.length / 64 * 64) ≤ (Int.ofNat s.length)),((List.drop (Int.ofNat (s.length / 64 * 64)).toNat (List.take s.length s) ++ ([(128:UInt8)]:List UInt8)).length+(List.replicate (Int.ofNat (zerosN s)).toNat (0:UInt8)).length ≤ 9223372036854775807),(V.int IntKind.i64 (IntKind.i64.wrap ((Int.ofNat s.length) * (8:Int)))=V.int IntKind.i64 (Int.ofNat (s.length * 8))),((0:Int) ≤ Int.ofNat (s.length / 64 * 64)∧Int.ofNat (s.length / 64 * 64) ≤ (Int.ofNat s.length)),((List.drop (Int.ofNat (s.length / 64 * 64)).toNat (List.take s.length s) ++ ([(128:UInt8)]:List UInt8) ++ List.replicate (Int.ofNat (zerosN s)).toNat (0:UInt8)).length+(put8 (Int.ofNat (s.length * 8))).length ≤ 9223372036854775807)],
   .to .normal (stG [(0,.str (s)),(3,.ptr (some (3,0))),(5,.str (List.drop (Int.ofNat (s.length / 64 * 64)).toNat (List.take s.length s) ++ ([(128:UInt8)]:List UInt8) ++ List.replicate (Int.ofNat (zerosN s)).toNat (0:UInt8) ++ put8 (Int.ofNat (s.length * 8))))] (hL [(0,.ints .u32 (st)),(1,.ints .u32 (rd)),(3,.cells [.int .u32 (st.getD 0 (0:Int)),.int .u32 (st.getD 1 (0:Int)),.int .u32 (st.getD 2 (0:Int)),.int .u32 (st.getD 3 (0:Int)),.int .u32 (st.getD 4 (0:Int)),.int .u32 (st.getD 5 (0:Int)),.int .u32 (st.getD 6 (0:Int)),.int .u32 (st.getD 7 (0:Int))])]) 4))]
 :=RunIs.of (by kernel_rfl) (by kernel_rfl) (by kernel_rfl)
theorem of_2 (st rd:List Int) (q:E8) (s p:List UInt8):∃ L,RunIs Tryz.prog cs4 [(6,.give (.int .i64 (Int.ofNat 0)))] 1000 3 Tryz.f38 [0,3,5,6] (seqL l1Of) (sOf0 st rd q s p) L
  [([],
   [(V.int IntKind.i64 (0:Int)=V.int IntKind.i64 (0:Int))],
   .to .normal (stG [(0,.str (s)),(3,.ptr (some (3,0))),(5,.str (p)),(6,.int .i64 0)] (hL [(0,.ints .u32 (st)),(1,.ints .u32 (rd)),(3,.cells [.int .u32 (q.fst),.int .u32 (q.snd.fst),.int .u32 (q.snd.snd.fst),.int .u32 (q.snd.snd.snd.fst),.int .u32 (q.snd.snd.snd.snd.fst),.int .u32 (q.snd.snd.snd.snd.snd.fst),.int .u32 (q.snd.snd.snd.snd.snd.snd.fst),.int .u32 (q.snd.snd.snd.snd.snd.snd.snd)])]) 4))]
 :=RunIs.of (by kernel_rfl) (by kernel_rfl) (by kernel_rfl)
theorem of_5 (st rd:List Int) (q:E8) (p:List UInt8):∃ L,RunIs Tryz.prog cs4 [] 1000 3 Tryz.f38 [] (t3Of) (sOf2 st rd q p) L
  [([],
   [(0 < (put4 (IntKind.i64.wrap q.fst)).length),(roomy (put4 (IntKind.i64.wrap q.fst)).length 1 1=true),(0 < (put4 (IntKind.i64.wrap q.fst)).length),((put4 (IntKind.i64.wrap q.fst)).length=(put4 (IntKind.i64.wrap q.fst)).length),(roomy ((put4 (IntKind.i64.wrap q.fst)).length+(put4 (IntKind.i64.wrap q.snd.fst)).length) 1 1=true),(0 < (put4 (IntKind.i64.wrap q.fst)).length+(put4 (IntKind.i64.wrap q.snd.fst)).length),((put4 (IntKind.i64.wrap q.fst)).length+(put4 (IntKind.i64.wrap q.snd.fst)).length=(put4 (IntKind.i64.wrap q.fst) ++ strI (bytesI (put4 (IntKind.i64.wrap q.snd.fst)))).length),(roomy ((put4 (IntKind.i64.wrap q.fst)).length+(put4 (IntKind.i64.wrap q.snd.fst)).length+(put4 (IntKind.i64.wrap q.snd.snd.fst)).length) 1 1=true),(0 < (put4 (IntKind.i64.wrap q.fst)).length+(put4 (IntKind.i64.wrap q.snd.fst)).length+(put4 (IntKind.i64.wrap q.snd.snd.fst)).length),((put4 (IntKind.i64.wrap q.fst)).length+(put4 (IntKind.i64.wrap q.snd.fst)).length+(put4 (IntKind.i64.wrap q.snd.snd.fst)).length=(put4 (IntKind.i64.wrap q.fst) ++ strI (bytesI (put4 (IntKind.i64.wrap q.snd.fst))) ++ strI (bytesI (put4 (IntKind.i64.wrap q.snd.snd.fst)))).length),(roomy ((put4 (IntKind.i64.wrap q.fst)).length+(put4 (IntKind.i64.wrap q.snd.fst)).length+(put4 (IntKind.i64.wrap q.snd.snd.fst)).length+(put4 (IntKind.i64.wrap q.snd.snd.snd.fst)).length) 1 1=true),(0 < (put4 (IntKind.i64.wrap q.fst)).length+(put4 (IntKind.i64.wrap q.snd.fst)).length+(put4 (IntKind.i64.wrap q.snd.snd.fst)).length+(put4 (IntKind.i64.wrap q.snd.snd.snd.fst)).length),((put4 (IntKind.i64.wrap q.fst)).length+(put4 (IntKind.i64.wrap q.snd.fst)).length+(put4 (IntKind.i64.wrap q.snd.snd.fst)).length+(put4 (IntKind.i64.wrap q.snd.snd.snd.fst)).length=(put4 (IntKind.i64.wrap q.fst) ++ strI (bytesI (put4 (IntKind.i64.wrap q.snd.fst))) ++ strI (bytesI (put4 (IntKind.i64.wrap q.snd.snd.fst))) ++ strI (bytesI (put4 (IntKind.i64.wrap q.snd.snd.snd.fst)))).length),(roomy ((put4 (IntKind.i64.wrap q.fst)).length+(put4 (IntKind.i64.wrap q.snd.fst)).length+(put4 (IntKind.i64.wrap q.snd.snd.fst)).length+(put4 (IntKind.i64.wrap q.snd.snd.snd.fst)).length+(put4 (IntKind.i64.wrap q.snd.snd.snd.snd.fst)).length) 1 1=true),(0 < (put4 (IntKind.i64.wrap q.fst)).length+(put4 (IntKind.i64.wrap q.snd.fst)).length+(put4 (IntKind.i64.wrap q.snd.snd.fst)).length+(put4 (IntKind.i64.wrap q.snd.snd.snd.fst)).length+(put4 (IntKind.i64.wrap q.snd.snd.snd.snd.fst)).length),((put4 (IntKind.i64.wrap q.fst)).length+(put4 (IntKind.i64.wrap q.snd.fst)).length+(put4 (IntKind.i64.wrap q.snd.snd.fst)).length+(put4 (IntKind.i64.wrap q.snd.snd.snd.fst)).length+(put4 (IntKind.i64.wrap q.snd.snd.snd.snd.fst)).length=(put4 (IntKind.i64.wrap q.fst) ++ strI (bytesI (put4 (IntKind.i64.wrap q.snd.fst))) ++ strI (bytesI (put4 (IntKind.i64.wrap q.snd.snd.fst))) ++ strI (bytesI (put4 (IntKind.i64.wrap q.snd.snd.snd.fst))) ++ strI (bytesI (put4 (IntKind.i64.wrap q.snd.snd.snd.snd.fst)))).length),(roomy ((put4 (IntKind.i64.wrap q.fst)).length+(put4 (IntKind.i64.wrap q.snd.fst)).length+(put4 (IntKind.i64.wrap q.snd.snd.fst)).length+(put4 (IntKind.i64.wrap q.snd.snd.snd.fst)).length+(put4 (IntKind.i64.wrap q.snd.snd.snd.snd.fst)).length+(put4 (IntKind.i64.wrap q.snd.snd.snd.snd.snd.fst)).length) 1 1=true),(0 < (put4 (IntKind.i64.wrap q.fst)).length+(put4 (IntKind.i64.wrap q.snd.fst)).length+(put4 (IntKind.i64.wrap q.snd.snd.fst)).length+(put4 (IntKind.i64.wrap q.snd.snd.snd.fst)).length+(put4 (IntKind.i64.wrap q.snd.snd.snd.snd.fst)).length+(put4 (IntKind.i64.wrap q.snd.snd.snd.snd.snd.fst)).length),((put4 (IntKind.i64.wrap q.fst)).length+(put4 (IntKind.i64.wrap q.snd.fst)).length+(put4 (IntKind.i64.wrap q.snd.snd.fst)).length+(put4 (IntKind.i64.wrap q.snd.snd.snd.fst)).length+(put4 (IntKind.i64.wrap q.snd.snd.snd.snd.fst)).length+(put4 (IntKind.i64.wrap q.snd.snd.snd.snd.snd.fst)).length=(put4 (IntKind.i64.wrap q.fst) ++ strI (bytesI (put4 (IntKind.i64.wrap q.snd.fst))) ++ strI (bytesI (put4 (IntKind.i64.wrap q.snd.snd.fst))) ++ strI (bytesI (put4 (IntKind.i64.wrap q.snd.snd.snd.fst))) ++ strI (bytesI (put4 (IntKind.i64.wrap q.snd.snd.snd.snd.fst))) ++ strI (bytesI (put4 (IntKind.i64.wrap q.snd.snd.snd.snd.snd.fst)))).length),(roomy ((put4 (IntKind.i64.wrap q.fst)).length+(put4 (IntKind.i64.wrap q.snd.fst)).length+(put4 (IntKind.i64.wrap q.snd.snd.fst)).length+(put4 (IntKind.i64.wrap q.snd.snd.snd.fst)).length+(put4 (IntKind.i64.wrap q.snd.snd.snd.snd.fst)).length+(put4 (IntKind.i64.wrap q.snd.snd.snd.snd.snd.fst)).length+(put4 (IntKind.i64.wrap q.snd.snd.snd.snd.snd.snd.fst)).length) 1 1=true),(0 < (put4 (IntKind.i64.wrap q.fst)).length+(put4 (IntKind.i64.wrap q.snd.fst)).length+(put4 (IntKind.i64.wrap q.snd.snd.fst)).length+(put4 (IntKind.i64.wrap q.snd.snd.snd.fst)).length+(put4 (IntKind.i64.wrap q.snd.snd.snd.snd.fst)).length+(put4 (IntKind.i64.wrap q.snd.snd.snd.snd.snd.fst)).length+(put4 (IntKind.i64.wrap q.snd.snd.snd.snd.snd.snd.fst)).length),((put4 (IntKind.i64.wrap q.fst)).length+(put4 (IntKind.i64.wrap q.snd.fst)).length+(put4 (IntKind.i64.wrap q.snd.snd.fst)).length+(put4 (IntKind.i64.wrap q.snd.snd.snd.fst)).length+(put4 (IntKind.i64.wrap q.snd.snd.snd.snd.fst)).length+(put4 (IntKind.i64.wrap q.snd.snd.snd.snd.snd.fst)).length+(put4 (IntKind.i64.wrap q.snd.snd.snd.snd.snd.snd.fst)).length=(put4 (IntKind.i64.wrap q.fst) ++ strI (bytesI (put4 (IntKind.i64.wrap q.snd.fst))) ++ strI (bytesI (put4 (IntKind.i64.wrap q.snd.snd.fst))) ++ strI (bytesI (put4 (IntKind.i64.wrap q.snd.snd.snd.fst))) ++ strI (bytesI (put4 (IntKind.i64.wrap q.snd.snd.snd.snd.fst))) ++ strI (bytesI (put4 (IntKind.i64.wrap q.snd.snd.snd.snd.snd.fst))) ++ strI (bytesI (put4 (IntKind.i64.wrap q.snd.snd.snd.snd.snd.snd.fst)))).length),(roomy ((put4 (IntKind.i64.wrap q.fst)).length+(put4 (IntKind.i64.wrap q.snd.fst)).length+(put4 (IntKind.i64.wrap q.snd.snd.fst)).length+(put4 (IntKind.i64.wrap q.snd.snd.snd.fst)).length+(put4 (IntKind.i64.wrap q.snd.snd.snd.snd.fst)).length+(put4 (IntKind.i64.wrap q.snd.snd.snd.snd.snd.fst)).length+(put4 (IntKind.i64.wrap q.snd.snd.snd.snd.snd.snd.fst)).length+(put4 (IntKind.i64.wrap q.snd.snd.snd.snd.snd.snd.snd)).length) 1 1=true),(0 < (put4 (IntKind.i64.wrap q.fst)).length+(put4 (IntKind.i64.wrap q.snd.fst)).length+(put4 (IntKind.i64.wrap q.snd.snd.fst)).length+(put4 (IntKind.i64.wrap q.snd.snd.snd.fst)).length+(put4 (IntKind.i64.wrap q.snd.snd.snd.snd.fst)).length+(put4 (IntKind.i64.wrap q.snd.snd.snd.snd.snd.fst)).length+(put4 (IntKind.i64.wrap q.snd.snd.snd.snd.snd.snd.fst)).length+(put4 (IntKind.i64.wrap q.snd.snd.snd.snd.snd.snd.snd)).length),((Int.ofNat ((put4 (IntKind.i64.wrap q.fst)).length+(put4 (IntKind.i64.wrap q.snd.fst)).length+(put4 (IntKind.i64.wrap q.snd.snd.fst)).length+(put4 (IntKind.i64.wrap q.snd.snd.snd.fst)).length+(put4 (IntKind.i64.wrap q.snd.snd.snd.snd.fst)).length+(put4 (IntKind.i64.wrap q.snd.snd.snd.snd.snd.fst)).length+(put4 (IntKind.i64.wrap q.snd.snd.snd.snd.snd.snd.fst)).length+(put4 (IntKind.i64.wrap q.snd.snd.snd.snd.snd.snd.snd)).length))=(Int.ofNat (put4 (IntKind.i64.wrap q.fst) ++ strI (bytesI (put4 (IntKind.i64.wrap q.snd.fst))) ++ strI (bytesI (put4 (IntKind.i64.wrap q.snd.snd.fst))) ++ strI (bytesI (put4 (IntKind.i64.wrap q.snd.snd.snd.fst))) ++ strI (bytesI (put4 (IntKind.i64.wrap q.snd.snd.snd.snd.fst))) ++ strI (bytesI (put4 (IntKind.i64.wrap q.snd.snd.snd.snd.snd.fst))) ++ strI (bytesI (put4 (IntKind.i64.wrap q.snd.snd.snd.snd.snd.snd.fst))) ++ strI (bytesI (put4 (IntKind.i64.wrap q.snd.snd.snd.snd.snd.snd.snd)))).length)∧0 < (put4 (IntKind.i64.wrap q.fst) ++ strI (bytesI (put4 (IntKind.i64.wrap q.snd.fst))) ++ strI (bytesI (put4 (IntKind.i64.wrap q.snd.snd.fst))) ++ strI (bytesI (put4 (IntKind.i64.wrap q.snd.snd.snd.fst))) ++ strI (bytesI (put4 (IntKind.i64.wrap q.snd.snd.snd.snd.fst))) ++ strI (bytesI (put4 (IntKind.i64.wrap q.snd.snd.snd.snd.snd.fst))) ++ strI (bytesI (put4 (IntKind.i64.wrap q.snd.snd.snd.snd.snd.snd.fst))) ++ strI (bytesI (put4 (IntKind.i64.wrap q.snd.snd.snd.snd.snd.snd.snd)))).length),((put4 (IntKind.i64.wrap q.fst) ++ strI (bytesI (put4 (IntKind.i64.wrap q.snd.fst))) ++ strI (bytesI (put4 (IntKind.i64.wrap q.snd.snd.fst))) ++ strI (bytesI (put4 (IntKind.i64.wrap q.snd.snd.snd.fst))) ++ strI (bytesI (put4 (IntKind.i64.wrap q.snd.snd.snd.snd.fst))) ++ strI (bytesI (put4 (IntKind.i64.wrap q.snd.snd.snd.snd.snd.fst))) ++ strI (bytesI (put4 (IntKind.i64.wrap q.snd.snd.snd.snd.snd.snd.fst))) ++ strI (bytesI (put4 (IntKind.i64.wrap q.snd.snd.snd.snd.snd.snd.snd)))).length ≤ 9223372036854775807)],
   .ret (.str (put4 (IntKind.i64.wrap q.fst) ++ strI (bytesI (put4 (IntKind.i64.wrap q.snd.fst))) ++ strI (bytesI (put4 (IntKind.i64.wrap q.snd.snd.fst))) ++ strI (bytesI (put4 (IntKind.i64.wrap q.snd.snd.snd.fst))) ++ strI (bytesI (put4 (IntKind.i64.wrap q.snd.snd.snd.snd.fst))) ++ strI (bytesI (put4 (IntKind.i64.wrap q.snd.snd.snd.snd.snd.fst))) ++ strI (bytesI (put4 (IntKind.i64.wrap q.snd.snd.snd.snd.snd.snd.fst))) ++ strI (bytesI (put4 (IntKind.i64.wrap q.snd.snd.snd.snd.snd.snd.snd))))) (hL [(0,.ints .u32 (st)),(1,.ints .u32 (rd))]) 3)]
 :=RunIs.of (by kernel_rfl) (by kernel_rfl) (by kernel_rfl)
end Go.Proofs.YtfihojpgobmmdaaGreatDoor
namespace Go.Proofs.YtfihojpgobmmdaaGreatDoor
open Go Go.Eng
def shaOfQ (rd:List Int) (p:List UInt8) (q:E8):List UInt8:=out8 (hashN rd p q (p.length / 64))
theorem all_nil:∀ a ∈ ([]:List Prop),a:=fun _ h=>absurd h List.not_mem_nil
theorem put8_len (x:Int):(put8 x).length=8:=rfl
theorem padOf_len (s:List UInt8):(padOf s).length=(s.length - s.length / 64 * 64)+1+zerosN s+8:=by
 unfold padOf
 simp only [List.length_append,List.length_drop,List.length_take,List.length_replicate,put8_len,List.length_cons,List.length_nil,Nat.min_self]
theorem padOf_mod (s:List UInt8):∃ k,(padOf s).length=64 * k:=by
 rw [padOf_len]
 unfold zerosN
 refine ⟨((s.length - s.length / 64 * 64)+1+((119 - s.length % 64) % 64)+8) / 64,?_⟩
 omega
theorem of_4b (st rd:List Int) (q:E8) (p p1 b1:List UInt8) (h1:List.drop 64 (List.take p.length p)=p1) (h2:List.drop 0 (List.take 64 p)=b1):∃ L,RunIs Tryz.prog cs4 [(47,.split)] 1000 3 Tryz.f38 [3,5] (inner (inner l2Of)) (sOf2 st rd q p) L
  [([((decide ((Int.ofNat p.length) > (0:Int))),true)],
   [((0:Int) ≤ (64:Int)∧(64:Int) ≤ (Int.ofNat p.length)),(64 ≤ rd.length),(64 ≤ b1.length),((0:Int) ≤ (64:Int)∧(64:Int) ≤ (Int.ofNat p.length))],
   .to .normal (sOf2 st rd (cmpL rd b1 q) p1)),
   ([((decide ((Int.ofNat p.length) > (0:Int))),false)],[],.to (.exit 2) (sOf2 st rd q p))]:=by
 subst h1 h2
 exact RunIs.of (by kernel_rfl) (by kernel_rfl) (by kernel_rfl)
theorem of_3b (st rd:List Int) (q:E8) (s p:List UInt8) (i:Nat):∃ L,RunIs Tryz.prog cs4 [(35,.split),(32,.give (.int .i64 (Int.ofNat (i+64)))),(42,.give (.int .i64 (Int.ofNat (i+64)))),(37,.give (.int .i64 (Int.ofNat (i+64))))] 1000 3 Tryz.f38 [0,3,5,6] (inner (inner (seqR l1Of))) (sOf1 st rd q s p i) L
  [([((decide (Int.ofNat (i+64) ≤ (Int.ofNat s.length))),true)],
   [ieq (Int.ofNat i+64) (i+64),ieq (Int.ofNat i+64) (i+64),((0:Int) ≤ Int.ofNat (i+64)∧Int.ofNat (i+64) ≤ (Int.ofNat s.length)),((0:Int) ≤ Int.ofNat i∧Int.ofNat i ≤ (Int.ofNat (Int.ofNat (i+64)).toNat)),(64 ≤ rd.length),(64 ≤ (blk s i).length),ieq (Int.ofNat i+64) (i+64)],
   .to .normal (sOf1 st rd (cmpL rd (blk s i) q) s p (i+64))),
   ([((decide (Int.ofNat (i+64) ≤ (Int.ofNat s.length))),false)],[ieq (Int.ofNat i+64) (i+64)],.to (.exit 0) (sOf1 st rd q s p i))]:=
 RunIs.of (by kernel_rfl) (by kernel_rfl) (by kernel_rfl)
theorem blk_len {s:List UInt8} {i:Nat} (h:i+64 ≤ s.length):(blk s i).length=64:=by
 unfold blk
 rw [List.length_drop,List.length_take]; omega
theorem drop_step (p:List UInt8) (j:Nat):List.drop 64 (List.take (p.drop (64 * j)).length (p.drop (64 * j)))=p.drop (64 * (j+1)):=by
 rw [List.take_length,List.drop_drop,Nat.mul_succ]
theorem blk_drop (p:List UInt8) (j:Nat):List.drop 0 (List.take 64 (p.drop (64 * j)))=blk p (64 * j):=by
 unfold blk
 rw [List.drop_zero,List.drop_take]
 rw [Nat.add_sub_cancel_left]
set_option maxRecDepth 20000 in
theorem tgOf2 (st rd:List Int) (hrd:64 ≤ rd.length) (q0:E8) (p:List UInt8) (kp:Nat) (hkp:p.length=64 * kp) (hpl:p.length ≤ 200):TG Tryz.prog 3 Tryz.f38.ntmps t2Of (sOf2 st rd q0 p)
  (RetG Tryz.prog 3 Tryz.f38 fun u _ _=>u= .str (shaOfQ rd p q0)):=by
 have hO:∀ n:Nat,Int.ofNat n=(n:Int):=fun _=>rfl
 have hfin:shaOfQ rd p q0=out8 (hashN rd p q0 kp):=by unfold shaOfQ; rw [hkp,Nat.mul_div_cancel_left _ (by omega)]
 rw [hfin]
 clear hfin
 refine TG_seq' (by kernel_rfl) ?_
 refine TG_block (i:=2) (by kernel_rfl) (TG_mono (Q1:=fun z s'=>z= .exit 2∧∃ L,normG 3 L s'=some (sOf2 st rd (hashN rd p q0 kp) (p.drop (64 * kp)))) (TG_loop_inv (fun k' s'=>∃ j,k'=kp - j∧j ≤ kp∧∃ L,normG 3 L s'=some (sOf2 st rd (hashN rd p q0 j) (p.drop (64 * j)))) (by kernel_rfl) ?_ kp ⟨0,rfl,Nat.zero_le _,[3,5],by kernel_rfl⟩) ?_)
 · rintro k' s1 ⟨j,hk,hj,L,hs1⟩
   refine TG_norm hs1 ?_
   have hlen:(p.drop (64 * j)).length=64 * kp - 64 * j:=by rw [List.length_drop,hkp]
   obtain ⟨L3,hr3⟩:=of_4b st rd (hashN rd p q0 j) (p.drop (64 * j)) (p.drop (64 * (j+1))) (blk p (64 * j)) (drop_step p j) (blk_drop p j)
   refine TG_is X4 mo anyR (by kernel_rfl) hr3 fun g hg hc=>?_
   simp only [List.mem_cons,List.not_mem_nil,or_false] at hg
   rcases hg with rfl | rfl
   · have hlt:j < kp:=by
      have:=of_decide_eq_true (hc _ (List.mem_singleton.2 rfl))
      rw [hO,hlen] at this; omega
     refine ⟨fun p' hp'=>?_,fun s' hs'=>⟨kp - (j+1),by omega,j+1,rfl,by omega,_,hs'⟩⟩
     simp only [List.mem_cons,List.not_mem_nil,or_false] at hp'
     rcases hp' with rfl | rfl | rfl | rfl
     · exact ⟨by decide,by rw [hO,hlen]; omega⟩
     · exact hrd
     · rw [blk_len (by omega)]; exact Nat.le_refl _
     · exact ⟨by decide,by rw [hO,hlen]; omega⟩
   · have hge:¬ j < kp:=by
      have:=of_decide_eq_false (hc _ (List.mem_singleton.2 rfl))
      rw [hO,hlen] at this; omega
     obtain rfl:j=kp:=by omega
     exact ⟨all_nil,fun s' hs'=>⟨rfl,_,hs'⟩⟩
 rintro y s2 ⟨rfl,L,hs2⟩
 rw [outOf_exit]
 simp only [andThen]
 refine TG_norm hs2 ?_
 obtain ⟨L5,hr5⟩:=of_5 st rd (hashN rd p q0 kp) (p.drop (64 * kp))
 refine TG_ret X4 mo _ (by kernel_rfl) hr5 fun g hg _=>?_
 rw [List.mem_singleton] at hg; subst hg
 refine ⟨?_,_,_,_,rfl,rfl⟩
 repeat' (first | exact all_nil | refine List.forall_mem_cons.2 ⟨?_,?_⟩)
 all_goals first | exact Nat.le_of_ble_eq_true (by kernel_rfl) | exact ⟨by kernel_rfl,Nat.le_of_ble_eq_true (by kernel_rfl)⟩ | kernel_rfl
set_option maxRecDepth 20000 in
theorem tgOf (st rd:List Int) (hst:8 ≤ st.length) (hrd:64 ≤ rd.length) (s:List UInt8) (hs:s.length ≤ 1000000000):TG Tryz.prog 3 Tryz.f38.ntmps cdOf (startSt [.str s] (hSR st rd) 3)
  (RetG Tryz.prog 3 Tryz.f38 fun u _ _=>u= .str (shaOf st rd s)):=by
 have hO:∀ n:Nat,Int.ofNat n=(n:Int):=fun _=>rfl
 have hz:zerosN s < 64:=by unfold zerosN; omega
 obtain ⟨L1,hr1⟩:=of_1 st rd s
 refine TG_isN1 4 X4 mo (by kernel_rfl) hr1 ?_ ?_
 · intro p hp
   simp only [List.mem_cons,List.not_mem_nil,or_false] at hp
   rcases hp with rfl | rfl | rfl | rfl | rfl | rfl | rfl | rfl | rfl | rfl | rfl | rfl | rfl
   · exact hst
   · rfl
   · have e:IntKind.i64.wrap ((119:Int) - Int.ofNat (s.length % 64))=Int.ofNat (119 - s.length % 64):=by
      rw [wrap_id (by rw [hO]; omega) (by rw [hO]; omega),hO,hO]; omega
     rw [e]; rfl
   · decide
   · have e:(Int.ofNat s.length).tdiv 64=Int.ofNat (s.length / 64):=rfl
     rw [e,wrap_id (x:=Int.ofNat (s.length / 64)) (by rw [hO]; omega) (by rw [hO]; omega)]
     exact ieq_ok (by rw [hO]; omega) (by omega)
   · exact ⟨Int.natCast_nonneg _,by rw [hO,hO]; omega⟩
   · simp only [List.length_drop,List.length_take,Nat.min_self]; omega
   · exact ⟨Int.natCast_nonneg _,by rw [hO]; omega⟩
   · exact ⟨Int.natCast_nonneg _,by rw [hO,hO]; omega⟩
   · simp only [List.length_append,List.length_drop,List.length_take,List.length_replicate,List.length_cons,List.length_nil,Nat.min_self,hO,Int.toNat_natCast]; omega
   · exact ieq_ok (by rw [hO]; omega) (by omega)
   · exact ⟨Int.natCast_nonneg _,by rw [hO,hO]; omega⟩
   · simp only [List.length_append,List.length_drop,List.length_take,List.length_replicate,List.length_cons,List.length_nil,Nat.min_self,hO,Int.toNat_natCast,put8_len]; omega
 show TG Tryz.prog 3 Tryz.f38.ntmps tlOf (sOf0 st rd (stq st) s (padOf s)) _
 refine TG_seq' (by kernel_rfl) ?_
 obtain ⟨L2,hr2⟩:=of_2 st rd (stq st) s (padOf s)
 refine TG_isSeq X4 mo anyR (by kernel_rfl) (by kernel_rfl) hr2 fun g hg _=>?_
 rw [List.mem_singleton] at hg; subst hg
 refine ⟨fun p hp=>by rw [List.mem_singleton] at hp; subst hp; rfl,fun s' hs'=>?_⟩
 have hs':normG 3 [0,3,5,6] s'=some (sOf1 st rd (hashN rd s (stq st) 0) s (padOf s) (64 * 0)):=hs'
 refine TG_block (i:=0) (by kernel_rfl) (TG_mono (Q1:=fun z s'=>z= .exit 0∧∃ L,normG 3 L s'=some (sOf1 st rd (hashN rd s (stq st) (s.length / 64)) s (padOf s) (64 * (s.length / 64)))) (TG_loop_inv (fun k' s'=>∃ j,k'=s.length / 64 - j∧j ≤ s.length / 64∧∃ L,normG 3 L s'=some (sOf1 st rd (hashN rd s (stq st) j) s (padOf s) (64 * j))) (by kernel_rfl) ?_ (s.length / 64) ⟨0,rfl,Nat.zero_le _,_,hs'⟩) ?_)
 · rintro k' s1 ⟨j,hk,hj,L,hs1⟩
   refine TG_norm hs1 ?_
   obtain ⟨L3,hr3⟩:=of_3b st rd (hashN rd s (stq st) j) s (padOf s) (64 * j)
   refine TG_is X4 mo anyR (by kernel_rfl) hr3 fun g hg hc=>?_
   simp only [List.mem_cons,List.not_mem_nil,or_false] at hg
   rcases hg with rfl | rfl
   · have hlt:64 * j+64 ≤ s.length:=by
      have:=of_decide_eq_true (hc _ (List.mem_singleton.2 rfl))
      rw [hO,hO] at this; omega
     refine ⟨fun p hp=>?_,fun s' hs'=>⟨s.length / 64 - (j+1),by omega,j+1,rfl,by omega,_,hs'⟩⟩
     simp only [List.mem_cons,List.not_mem_nil,or_false] at hp
     rcases hp with rfl | rfl | rfl | rfl | rfl | rfl | rfl
     · exact ieq_ok (by rw [hO]; omega) (by omega)
     · exact ieq_ok (by rw [hO]; omega) (by omega)
     · exact ⟨Int.natCast_nonneg _,by rw [hO,hO]; omega⟩
     · exact ⟨Int.natCast_nonneg _,by simp only [hO,Int.toNat_natCast]; omega⟩
     · exact hrd
     · rw [blk_len hlt]; exact Nat.le_refl _
     · exact ieq_ok (by rw [hO]; omega) (by omega)
   · have hge:¬ 64 * j+64 ≤ s.length:=by
      have:=of_decide_eq_false (hc _ (List.mem_singleton.2 rfl))
      rw [hO,hO] at this; omega
     obtain rfl:j=s.length / 64:=by omega
     refine ⟨fun p hp=>?_,fun s' hs'=>⟨rfl,_,hs'⟩⟩
     rw [List.mem_singleton] at hp; subst hp
     exact ieq_ok (by rw [hO]; omega) (by omega)
 rintro y s2 ⟨rfl,L,hs2⟩
 rw [outOf_exit]
 simp only [andThen]
 refine TG_norm hs2 ?_
 refine TG_norm (live:=[3,5]) (s2:=sOf2 st rd (hashN rd s (stq st) (s.length / 64)) (padOf s)) (by kernel_rfl) ?_
 show TG Tryz.prog 3 Tryz.f38.ntmps t2Of _ (RetG Tryz.prog 3 Tryz.f38 fun u _ _=>u= .str (shaOfQ rd (padOf s) (hashN rd s (stq st) (s.length / 64))))
 obtain ⟨kp,hkp⟩:=padOf_mod s
 have hpl:(padOf s).length ≤ 200:=by rw [padOf_len]; omega
 exact tgOf2 st rd hrd _ _ kp hkp hpl
end Go.Proofs.YtfihojpgobmmdaaGreatDoor
namespace Go.Proofs.YtfihojpgobmmdaaGreatDoor
open Go Go.Eng
def gS:List Int:=[1779033703,3144134277,1013904242,2773480762,1359893119,2600822924,528734635,1541459225]
def gR:List Int:=[1116352408,1899447441,3049323471,3921009573,961987163,1508970993,2453635748,2870763221,3624381080,310598401,607225278,1426881987,1925078388,2162078206,2614888103,3248222580,3835390401,4022224774,264347078,604807628,770255983,1249150122,1555081692,1996064986,2554220882,2821834349,2952996808,3210313671,3336571891,3584528711,113926993,338241895,666307205,773529912,1294757372,1396182291,1695183700,1986661051,2177026350,2456956037,2730485921,2820302411,3259730800,3345764771,3516065817,3600352804,4094571909,275423344,430227734,506948616,659060556,883997877,958139571,1322822218,1537002063,1747873779,1955562222,2024104815,2227730452,2361852424,2428436474,2756734187,3204031479,3329325298]
def sha (s:List UInt8):List UInt8:=shaOf gS gR s
def tabs (h:Tr O):Option (List Int × List Int):=match h.get 0,h.get 1 with
 | some (.ints .u32 st),some (.ints .u32 rd)=>some (st,rd)
 | _,_=>none
theorem tabs_some {h:Tr O} {st rd:List Int} (e:tabs h=some (st,rd)):h.get 0=some (.ints .u32 st)∧h.get 1=some (.ints .u32 rd):=by
 unfold tabs at e
 split at e
 · rename_i a b h0 h1
   simp only [Option.some.injEq,Prod.mk.injEq] at e; obtain ⟨rfl,rfl⟩:=e
   exact ⟨h0,h1⟩
 · cases e
def specOf:List V→Tr O→Option (List Prop × V)
 | [.str s],h=>match tabs h with
   | some (st,rd)=>some ([st=gS,rd=gR,s.length ≤ 1000000000],.str (sha s))
   | none=>none
 | _,_=>none
theorem tabs_rows {E:Env} {h:Tr O} {w:World} {st rd:List Int} (g0:Eng.Good E h w) (h0:h.get 0=some (.ints .u32 st)) (h1:h.get 1=some (.ints .u32 rd)):
  Eng.Good (E.rows nsG) (hSR st rd) w∧Dom (E.rows nsG) 3∧∀ m,¬ wlive (hSR st rd) m:=
 rows_ok g0 nsG [some (.u32,st),some (.u32,rd),none] (Nat.le_of_ble_eq_true rfl) nsG_ok (by
  intro j k' ks' hj
  match j,hj with
  | 0,hj=>cases hj; exact ⟨0,0,st,rfl,h0,rfl⟩
  | 1,hj=>cases hj; exact ⟨1,0,rd,rfl,h1,rfl⟩
  | 2,hj=>cases hj
  | j+3,hj=>simp at hj)
theorem one_Of:PureA Tryz.prog 38 specOf:=by
 refine ⟨Nat.le_of_ble_eq_true (by kernel_rfl),fun args h A u e=>?_⟩
 unfold specOf at e
 split at e
 case h_2=>cases e
 rename_i s
 split at e
 case h_2=>cases e
 rename_i st rd ht
 obtain ⟨h0,h1⟩:=tabs_some ht
 simp only [Option.some.injEq,Prod.mk.injEq] at e; obtain ⟨rfl,rfl⟩:=e
 refine ⟨rfl,fun hA E n' w' args' ra g0 hd hc=>?_⟩
 have e1:st=gS:=hA _ (by simp)
 have e2:rd=gR:=hA _ (by simp)
 have e3:s.length ≤ 1000000000:=hA (s.length ≤ 1000000000) (by simp)
 subst e1 e2
 obtain ⟨g2,d2,n2⟩:=tabs_rows g0 h0 h1
 exact read_calls mo po Tryz.func38 (code:=cdOf) (by kernel_rfl) (by kernel_rfl) (tgOf gS gR (Nat.le_of_ble_eq_true rfl) (Nat.le_of_ble_eq_true rfl) s e3) (E:=E.rows nsG) g2 d2 n2 (frees_rel _ _ rfl ra)
noncomputable abbrev W5:CtrW:=addW 38 (readW specOf) W4
theorem W5_ok:CtrWOk Tryz.prog W5:=addW_ok (readW_ok one_Of) W4_ok
noncomputable abbrev cs5:CallS:=callX Tryz.prog W5 H0 1000 40
noncomputable abbrev X5:CX Tryz.prog:=CX.of mo po W5_ok H0 1000 40
end Go.Proofs.YtfihojpgobmmdaaGreatDoor
namespace Go.Proofs.YtfihojpgobmmdaaGreatDoor
open Go Go.Eng
theorem strI_bytesI (u:List UInt8):strI (bytesI u)=u:=by
 induction u with
 | nil=>rfl
 | cons x u ih=>
   show UInt8.ofNat ((x.toNat:Int)).toNat :: strI (bytesI u)=x :: u
   rw [ih]; simp
noncomputable abbrev cdJo:Code:=bodyOf Tryz.f22
noncomputable abbrev tlJo:Code:=tailN 2 cdJo
noncomputable abbrev lpJo:Code:=seqL tlJo
noncomputable abbrev enJo:Code:=seqR tlJo
def hT:List (Nat × O):=[(0,.ints .u32 gS),(1,.ints .u32 gR)]
def strs (ps:List (List UInt8)):List D:=ps.map .str
def sJ0 (f:Bool) (ps:List (List UInt8)):St:=stG [(3,.ptr (some (3,0))),(6,.lst f ps.length (strs ps)),(7,.int .i64 (Int.ofNat ps.length)),(8,.int .i64 (Int.ofNat 0))] (hL [(0,.ints .u32 gS),(1,.ints .u32 gR),(3,.bld 102 false (.slc none 0 0 0))]) 4
def sJ1 (f:Bool) (ps:List (List UInt8)) (i len:Nat) (acc:List UInt8):St:=stG [(3,.ptr (some (3,0))),(6,.lst f ps.length (strs ps)),(7,.int .i64 (Int.ofNat ps.length)),(8,.int .i64 (Int.ofNat i))] (hL [(0,.ints .u32 gS),(1,.ints .u32 gR),(3,.bld 102 true (.slc (some (4,0)) len len 1)),(4,.buf 5 false acc)]) 5
def sJa (f:Bool) (ps:List (List UInt8)):St:=stG [(0,.lst f ps.length (strs ps)),(3,.ptr (some (3,0)))] (hL [(0,.ints .u32 gS),(1,.ints .u32 gR),(3,.bld 102 false (.slc none 0 0 0))]) 4
theorem jo_1 (f:Bool) (ps:List (List UInt8)):∃ L,RunIs Tryz.prog cs5 [] 1000 3 Tryz.f22 [0,3] (headN 2 cdJo) (startSt [.lst f ps.length (strs ps)] (hSR gS gR) 3) L
  [([],
   [],
   .to .normal (stG [(0,.lst (f) (ps.length) (strs ps)),(3,.ptr (some (3,0)))] (hL [(0,.ints .u32 gS),(1,.ints .u32 gR),(3,.bld 102 false (.slc none 0 0 0))]) 4))]
 :=RunIs.of (by kernel_rfl) (by kernel_rfl) (by kernel_rfl)
theorem jo_1a (f:Bool) (ps:List (List UInt8)):∃ L,RunIs Tryz.prog cs5 [(8,.give (.int .i64 (Int.ofNat 0)))] 1000 3 Tryz.f22 [3,6,7,8] (seqL lpJo) (sJa f ps) L
  [([],
   [(V.int IntKind.i64 (0:Int)=V.int IntKind.i64 (0:Int))],
   .to .normal (stG [(3,.ptr (some (3,0))),(6,.lst (f) (ps.length) (strs ps)),(7,.int .i64 ((Int.ofNat ps.length))),(8,.int .i64 0)] (hL [(0,.ints .u32 gS),(1,.ints .u32 gR),(3,.bld 102 false (.slc none 0 0 0))]) 4))]
 :=RunIs.of (by kernel_rfl) (by kernel_rfl) (by kernel_rfl)
theorem jo_4 (f:Bool) (ps:List (List UInt8)) (i len:Nat) (acc:List UInt8):∃ L,RunIs Tryz.prog cs5 [] 1000 3 Tryz.f22 [] (enJo) (sJ1 f ps i len acc) L
  [([],
   [(0 < len),((Int.ofNat len)=(Int.ofNat acc.length)∧0 < acc.length),(acc.length ≤ 9223372036854775807),(gS=gS),(gR=gR),(acc.length ≤ 1000000000)],
   .ret (.str (sha acc)) (hL [(0,.ints .u32 gS),(1,.ints .u32 gR)]) 3)]
 :=RunIs.of (by kernel_rfl) (by kernel_rfl) (by kernel_rfl)
end Go.Proofs.YtfihojpgobmmdaaGreatDoor
namespace Go.Proofs.YtfihojpgobmmdaaGreatDoor
open Go Go.Eng
def joinB (ps:List (List UInt8)):List UInt8:=ps.flatMap fun p=>put8 (Int.ofNat p.length) ++ p
theorem joinB_take {ps:List (List UInt8)} {i:Nat} {p:List UInt8} (h:ps[i]? =some p):joinB (ps.take (i+1))=joinB (ps.take i) ++ put8 (Int.ofNat p.length) ++ p:=by
 have hlt:i < ps.length:=(List.getElem?_eq_some_iff.1 h).1
 have e:ps.take (i+1)=ps.take i ++ [p]:=by
  rw [List.take_add_one,h]; rfl
 unfold joinB
 rw [e,List.flatMap_append]
 simp
theorem joinB_le (ps:List (List UInt8)) (i:Nat):(joinB (ps.take i)).length ≤ (joinB ps).length:=by
 have:joinB ps=joinB (ps.take i) ++ joinB (ps.drop i):=by
  unfold joinB; rw [← List.flatMap_append,List.take_append_drop]
 rw [this,List.length_append]; omega
theorem roomy_ok {k:Nat} (h:k ≤ 100000000000):roomy k 1 1=true:=by
 unfold roomy
 exact decide_eq_true ⟨by omega,by omega⟩
theorem strs_len (ps:List (List UInt8)):(strs ps).length=ps.length:=List.length_map ..
theorem cellsAt_strs {ps:List (List UInt8)} {i:Nat} {p:List UInt8} (h:ps[i]? =some p):cellsAt (strs ps) (i * 1) 1=[D.str p]:=by
 unfold cellsAt strs
 rw [Nat.mul_one]
 have hlt:i < ps.length:=(List.getElem?_eq_some_iff.1 h).1
 have:(ps.drop i).take 1=[p]:=by
  rw [List.drop_eq_getElem_cons hlt]
  have:ps[i]=p:=(List.getElem?_eq_some_iff.1 h).2
  simp [this]
 rw [← List.map_drop,← List.map_take,this]; rfl
theorem jo_2b (f:Bool) (ps:List (List UInt8)) (p acc:List UInt8) (h:put8 (Int.ofNat p.length) ++ strI (bytesI p)=acc):∃ L,RunIs Tryz.prog cs5 [(9,.split),(10,.give (.fptr [.str p])),(18,.give (.int .i64 (Int.ofNat 1)))] 1000 3 Tryz.f22 [3,6,7,8] (inner (inner (seqR lpJo))) (sJ0 f ps) L
  [([((decide ((0:Int) < Int.ofNat ps.length)),true)],
   [((0:Int) ≤ (0:Int)∧(0:Int) < (Int.ofNat ps.length)),((strs ps).length=ps.length * 1),(V.fptr (cellsAt (strs ps) 0 1)=V.fptr [D.str p]),(0 < (put8 (Int.ofNat p.length)).length),(roomy (put8 (Int.ofNat p.length)).length 1 1=true),(0 < (put8 (Int.ofNat p.length)).length),((put8 (Int.ofNat p.length)).length=(put8 (Int.ofNat p.length)).length),(roomy ((put8 (Int.ofNat p.length)).length+p.length) 1 1=true),(V.int IntKind.i64 (1:Int)=V.int IntKind.i64 (1:Int))],
   .to .normal (sJ1 f ps 1 ((put8 (Int.ofNat p.length)).length+p.length) acc)),
  ([((decide ((0:Int) < Int.ofNat ps.length)),false)],[],.to (.exit 0) (sJ0 f ps))]:=by
 subst h
 exact RunIs.of (by kernel_rfl) (by kernel_rfl) (by kernel_rfl)
theorem jo_3b (f:Bool) (ps:List (List UInt8)) (p:List UInt8) (i len:Nat) (acc acc2:List UInt8) (h:acc ++ strI (bytesI (put8 (Int.ofNat p.length))) ++ strI (bytesI p)=acc2):∃ L,RunIs Tryz.prog cs5 [(9,.split),(10,.give (.fptr [.str p])),(18,.give (.int .i64 (Int.ofNat (i+1))))] 1000 3 Tryz.f22 [3,6,7,8] (inner (inner (seqR lpJo))) (sJ1 f ps i len acc) L
  [([((decide (Int.ofNat i < Int.ofNat ps.length)),true)],
   [((0:Int) ≤ Int.ofNat i∧Int.ofNat i < (Int.ofNat ps.length)),((strs ps).length=ps.length * 1),(V.fptr (cellsAt (strs ps) ((Int.ofNat i).toNat * 1) 1)=V.fptr [D.str p]),(0 < len),(len=acc.length),(roomy (len+(put8 (Int.ofNat p.length)).length) 1 1=true),(0 < len+(put8 (Int.ofNat p.length)).length),(len+(put8 (Int.ofNat p.length)).length=(acc ++ strI (bytesI (put8 (Int.ofNat p.length)))).length),(roomy (len+(put8 (Int.ofNat p.length)).length+p.length) 1 1=true),ieq (Int.ofNat i+1) (i+1)],
   .to .normal (sJ1 f ps (i+1) (len+(put8 (Int.ofNat p.length)).length+p.length) acc2)),
  ([((decide (Int.ofNat i < Int.ofNat ps.length)),false)],[],.to (.exit 0) (sJ1 f ps i len acc))]:=by
 subst h
 exact RunIs.of (by kernel_rfl) (by kernel_rfl) (by kernel_rfl)
def JoI (f:Bool) (ps:List (List UInt8)) (k':Nat) (s:St):Prop:=∃ i,k'=ps.length - i∧i ≤ ps.length∧((i=0∧∃ L,normG 3 L s=some (sJ0 f ps)) ∨ (0 < i∧∃ L,normG 3 L s=some (sJ1 f ps i (joinB (ps.take i)).length (joinB (ps.take i)))))
set_option maxRecDepth 20000 in
theorem tgJo (f:Bool) (ps:List (List UInt8)) (h0:0 < ps.length) (hps:ps.length ≤ 1000000000) (hs:(joinB ps).length ≤ 1000000000):TG Tryz.prog 3 Tryz.f22.ntmps cdJo (startSt [.lst f ps.length (strs ps)] (hSR gS gR) 3)
  (RetG Tryz.prog 3 Tryz.f22 fun u _ _=>u= .str (sha (joinB ps))):=by
 have hO:∀ n:Nat,Int.ofNat n=(n:Int):=fun _=>rfl
 have hb:=joinB_le ps
 have hl8:=fun x=>put8_len x
 obtain ⟨L1,hr1⟩:=jo_1 f ps
 refine TG_isN1 2 X5 mo (by kernel_rfl) hr1 all_nil ?_
 show TG Tryz.prog 3 Tryz.f22.ntmps tlJo (sJa f ps) _
 refine TG_seq' (by kernel_rfl) ?_
 refine TG_seq' (by kernel_rfl) ?_
 obtain ⟨L2,hr2⟩:=jo_1a f ps
 refine TG_is X5 mo anyR (by kernel_rfl) hr2 fun g hg _=>?_
 rw [List.mem_singleton] at hg; subst hg
 refine ⟨fun p hp=>by rw [List.mem_singleton] at hp; subst hp; rfl,fun s' hs'=>?_⟩
 have hs':normG 3 [3,6,7,8] s'=some (sJ0 f ps):=hs'
 refine TG_block (i:=0) (by kernel_rfl) (TG_mono (Q1:=fun z s'=>z= .exit 0∧∃ L,normG 3 L s'=some (sJ1 f ps ps.length (joinB ps).length (joinB ps))) (TG_loop_inv (JoI f ps) (by kernel_rfl) ?_ ps.length ⟨0,rfl,Nat.zero_le _,.inl ⟨rfl,_,hs'⟩⟩) ?_)
 · rintro k' s1 ⟨i,hk,hi,⟨rfl,L,hs1⟩ | ⟨h1,L,hs1⟩⟩
   · refine TG_norm hs1 ?_
     obtain ⟨p,hp⟩:∃ p,ps[0]? =some p:=⟨_,List.getElem?_eq_getElem h0⟩
     have hj:=joinB_take hp
     have hj:joinB (ps.take 1)=put8 (Int.ofNat p.length) ++ p:=hj
     have hb1:=hb 1
     rw [hj,List.length_append,hl8] at hb1
     obtain ⟨L3,hr3⟩:=jo_2b f ps p (joinB (ps.take 1)) (by rw [strI_bytesI,hj])
     refine TG_is X5 mo anyR (by kernel_rfl) hr3 fun g hg hc=>?_
     simp only [List.mem_cons,List.not_mem_nil,or_false] at hg
     rcases hg with rfl | rfl
     · refine ⟨fun p' hp'=>?_,fun s' hs'=>⟨ps.length - 1,by omega,1,rfl,by omega,.inr ⟨by omega,[3,6,7,8],?_⟩⟩⟩
       · revert p' hp'
         repeat' (first | exact all_nil | refine List.forall_mem_cons.2 ⟨?_,?_⟩)
         · exact ⟨by decide,by rw [hO]; omega⟩
         · rw [strs_len,Nat.mul_one]
         · exact congrArg V.fptr (cellsAt_strs hp)
         · rw [hl8]; decide
         · rw [hl8]; rfl
         · rw [hl8]; decide
         · first | rfl | trivial
         · rw [hl8]; exact roomy_ok (by omega)
         · first | rfl | trivial
       · rw [hs',hj,List.length_append]
     · exact absurd (of_decide_eq_false (hc _ (List.mem_singleton.2 rfl))) (by rw [hO]; omega)
   · refine TG_norm hs1 ?_
     rcases Nat.lt_or_ge i ps.length with hlt | hge
     · obtain ⟨p,hp⟩:∃ p,ps[i]? =some p:=⟨_,List.getElem?_eq_getElem hlt⟩
       have hj:=joinB_take hp
       have hb1:=hb (i+1)
       rw [hj,List.length_append,List.length_append,hl8] at hb1
       have hpos:0 < (joinB (ps.take i)).length:=by
        obtain ⟨j,rfl⟩:∃ j,i=j+1:=⟨i - 1,by omega⟩
        rw [joinB_take (List.getElem?_eq_getElem (show j < ps.length by omega)),List.length_append,List.length_append,hl8]; omega
       obtain ⟨L3,hr3⟩:=jo_3b f ps p i (joinB (ps.take i)).length (joinB (ps.take i)) (joinB (ps.take (i+1))) (by rw [strI_bytesI,strI_bytesI,hj])
       refine TG_is X5 mo anyR (by kernel_rfl) hr3 fun g hg hc=>?_
       simp only [List.mem_cons,List.not_mem_nil,or_false] at hg
       rcases hg with rfl | rfl
       · refine ⟨fun p' hp'=>?_,fun s' hs'=>⟨ps.length - (i+1),by omega,i+1,rfl,by omega,.inr ⟨by omega,[3,6,7,8],?_⟩⟩⟩
         · revert p' hp'
           repeat' (first | exact all_nil | refine List.forall_mem_cons.2 ⟨?_,?_⟩)
           · exact ⟨Int.natCast_nonneg _,by rw [hO,hO]; omega⟩
           · rw [strs_len,Nat.mul_one]
           · exact congrArg V.fptr (cellsAt_strs hp)
           · exact hpos
           · first | rfl | trivial
           · rw [hl8]; exact roomy_ok (by omega)
           · rw [hl8]; omega
           · rw [strI_bytesI,List.length_append]
           · rw [hl8]; exact roomy_ok (by omega)
           · exact ieq_ok (by rw [hO]; omega) (by omega)
         · rw [hs',hj,List.length_append,List.length_append]
       · exact absurd (of_decide_eq_false (hc _ (List.mem_singleton.2 rfl))) (by rw [hO,hO]; omega)
     · obtain rfl:i=ps.length:=by omega
       obtain ⟨L3,hr3⟩:=jo_3b f ps [] ps.length (joinB (ps.take ps.length)).length (joinB (ps.take ps.length)) _ rfl
       refine TG_is X5 mo anyR (by kernel_rfl) hr3 fun g hg hc=>?_
       simp only [List.mem_cons,List.not_mem_nil,or_false] at hg
       rcases hg with rfl | rfl
       · exact absurd (of_decide_eq_true (hc _ (List.mem_singleton.2 rfl))) (by rw [hO]; omega)
       · refine ⟨all_nil,fun s' hs'=>⟨rfl,[3,6,7,8],?_⟩⟩
         rw [hs',List.take_length]
 rintro y s2 ⟨rfl,L,hs2⟩
 rw [outOf_exit]
 simp only [andThen]
 refine TG_norm hs2 ?_
 have hpos:0 < (joinB ps).length:=by
  have hj:=joinB_take (List.getElem?_eq_getElem h0)
  have hb1:=hb 1
  rw [hj,List.length_append,List.length_append,hl8] at hb1
  omega
 obtain ⟨L5,hr5⟩:=jo_4 f ps ps.length (joinB ps).length (joinB ps)
 refine TG_ret X5 mo _ (by kernel_rfl) hr5 fun g hg _=>?_
 rw [List.mem_singleton] at hg; subst hg
 refine ⟨fun p' hp'=>?_,_,_,_,rfl,rfl⟩
 revert p' hp'
 repeat' (first | exact all_nil | refine List.forall_mem_cons.2 ⟨?_,?_⟩)
 · exact hpos
 · exact ⟨rfl,hpos⟩
 · omega
 · first | rfl | trivial
 · first | rfl | trivial
 · exact hs
end Go.Proofs.YtfihojpgobmmdaaGreatDoor
namespace Go.Proofs.YtfihojpgobmmdaaGreatDoor
open Go Go.Eng
def TabsTo (f:FuncId) (args:List V) (v:V):Prop:=∀ E h n w args',tabs h=some (gS,gR)→vrels E args args'→Eng.Good E h w→Dom E n→Calls Tryz.prog f args'.toArray w (CPost E h n w (.ret v) h n)
def tW (f:List D→Option (List Prop × V)):List V→Tr O→Nat→Option (List Prop × V × Tr O × Nat):=fun args h n=>match tabs h,dargs args with
 | some (st,rd),some ds=>match f ds with
   | some (A,v)=>some ((st=gS) :: (rd=gR) :: A,v,h,n)
   | none=>none
 | _,_=>none
theorem tW_ok {f:FuncId} {spec:List D→Option (List Prop × V)} (hlt:f < Tryz.prog.funcs.size) (h:∀ args A v,spec args=some (A,v)→(∀ a ∈ A,a)→TabsTo f (args.map D.toV) v):OneW Tryz.prog f (tW spec):=by
 refine ⟨hlt,fun args h' n A v h2 n2 e hA E w args' ra g hd hc=>?_⟩
 unfold tW at e
 split at e
 case h_2=>cases e
 rename_i st rd ds ht hds
 split at e
 case h_2=>cases e
 rename_i A' v' hs
 simp only [Option.some.injEq,Prod.mk.injEq] at e
 obtain ⟨rfl,rfl,rfl,rfl⟩:=e
 have e1:st=gS:=hA _ (by simp)
 have e2:rd=gR:=hA _ (by simp)
 subst e1 e2
 exact h ds _ _ hs (fun a ha=>hA a (by simp [ha])) E h' n w args' ht (dargs_rel hds ra) g hd
theorem tabs_calls {f:FuncId} {fn:Func} {code:Code} (hf:Tryz.prog.funcs[f]? =some fn) (hb:fn.body=some code) {args:List V}
  (l:(Nat.ble args.length fn.ntmps && Nat.blt fn.ntmps top)=true) {v:V} (hdp:V.deeps args=true) (hv:v.deep=true) (hT:TG Tryz.prog 3 fn.ntmps code (startSt args (hSR gS gR) 3) (RetG Tryz.prog 3 fn (FzTo v))):TabsTo f args v:=by
 intro E h n w args' ht ra g hd
 obtain ⟨h0,h1⟩:=tabs_some ht
 obtain ⟨g0,d0,n0⟩:=tabs_rows g h0 h1
 have ra0:vrels (E.rows nsG) args args':=deeps_rel (E:=E) (E':=E.rows nsG) (fun _ _ q=>q) _ _ hdp ra
 exact (calls_of_TG mo po hf hb l _ hT ra0 g0 d0).mono fun e w' ⟨u,h',n',hz,k⟩=>cpost_deep (E1:=E.rows nsG) g hd rfl n0 hv hz k
theorem RetG_self {P:Program} {n0:Nat} {fn:Func} {v:V} {y:Exit} {s:St} (h:RetG P n0 fn (fun u _ _=>u=v) y s):RetG P n0 fn (FzTo v) y s:=by
 obtain ⟨hy,u,h',n',e,rfl⟩:=h
 exact ⟨hy,_,h',n',e,.self⟩
def D.strB:D→List UInt8
 | .str p=>p
 | _=>[]
def strL (cs:List D):List (List UInt8):=cs.map D.strB
theorem strL_strs (ps:List (List UInt8)):strL (strs ps)=ps:=by
 unfold strL strs; rw [List.map_map]
 exact List.map_id ps
def specJo:List D→Option (List Prop × V)
 | [.lst n cs]=>some ([cs=strs (strL cs),n=(strL cs).length,0 < n,n ≤ 1000000000,(joinB (strL cs)).length ≤ 1000000000],.str (sha (joinB (strL cs))))
 | _=>none
theorem one_Jo:OneW Tryz.prog 22 (tW specJo):=by
 refine tW_ok (Nat.le_of_ble_eq_true (by kernel_rfl)) fun args A v e hA=>?_
 unfold specJo at e
 split at e
 case h_2=>cases e
 rename_i n cs
 simp only [Option.some.injEq,Prod.mk.injEq] at e
 obtain ⟨rfl,rfl⟩:=e
 have e1:cs=strs (strL cs):=hA _ (by simp)
 have e2:n=(strL cs).length:=hA (n=(strL cs).length) (by simp)
 have e3:0 < n:=hA (0 < n) (by simp)
 have e4:n ≤ 1000000000:=hA (n ≤ 1000000000) (by simp)
 have e5:(joinB (strL cs)).length ≤ 1000000000:=hA ((joinB (strL cs)).length ≤ 1000000000) (by simp)
 generalize strL cs=ps at *
 subst e1 e2
 exact tabs_calls Tryz.func22 (by kernel_rfl) (by kernel_rfl) rfl rfl (TG_mono (tgJo false ps e3 e4 e5) fun y s h=>RetG_self h)
noncomputable abbrev W6:CtrW:=addW 22 (tW specJo) W5
theorem W6_ok:CtrWOk Tryz.prog W6:=addW_ok one_Jo W5_ok
noncomputable abbrev cs6:CallS:=callX Tryz.prog W6 H0 1000 40
noncomputable abbrev X6:CX Tryz.prog:=CX.of mo po W6_ok H0 1000 40
end Go.Proofs.YtfihojpgobmmdaaGreatDoor
namespace Go.Proofs.YtfihojpgobmmdaaGreatDoor
open Go Go.Eng
noncomputable abbrev cdNa:Code:=bodyOf Tryz.f45
noncomputable abbrev tlNa:Code:=tailN 2 cdNa
noncomputable abbrev lpNa:Code:=seqL tlNa
noncomputable abbrev enNa:Code:=seqR tlNa
def sN0 (rs:List (List UInt8)) (d:List UInt8) (o:O):St:=stG [(1,.lst false rs.length (strs rs)),(5,.slc (some (3,0)) 1 1 1)] (hL [(0,.ints .u32 gS),(1,.ints .u32 gR),(3,o)]) 4
def sN1 (rs:List (List UInt8)) (ds:List D) (i len:Nat):St:=stG [(5,.slc (some (3,0)) len len 1),(10,.lst false rs.length (strs rs)),(11,.int .i64 (Int.ofNat rs.length)),(12,.int .i64 (Int.ofNat i))] (hL [(0,.ints .u32 gS),(1,.ints .u32 gR),(3,.deep ds)]) 4
def sN2 (n:Nat) (ds:List D):St:=stG [(5,.lst false n ds)] (hL [(0,.ints .u32 gS),(1,.ints .u32 gR)]) 3
theorem na_1 (rs:List (List UInt8)) (d:List UInt8):∃ L,RunIs Tryz.prog cs6 [] 1000 3 Tryz.f45 [1,5] (headN 2 cdNa) (startSt [.str d,.lst false rs.length (strs rs)] (hSR gS gR) 3) L
  [([],
   [],
   .to .normal (stG [(1,.lst false (rs.length) (strs rs)),(5,.slc (some (3,0)) 1 1 1)] (hL [(0,.ints .u32 gS),(1,.ints .u32 gR),(3,.cells [.str (d)])]) 4))]
 :=RunIs.of (by kernel_rfl) (by kernel_rfl) (by kernel_rfl)
theorem na_2 (rs:List (List UInt8)) (d:List UInt8) (ds:List D):∃ L,RunIs Tryz.prog cs6 [(12,.give (.int .i64 (Int.ofNat 0)))] 1000 3 Tryz.f45 [5,10,11,12] (seqL lpNa) (sN0 rs d (.deep ds)) L
  [([],
   [(V.int IntKind.i64 (0:Int)=V.int IntKind.i64 (0:Int))],
   .to .normal (stG [(5,.slc (some (3,0)) 1 1 1),(10,.lst false (rs.length) (strs rs)),(11,.int .i64 ((Int.ofNat rs.length))),(12,.int .i64 0)] (hL [(0,.ints .u32 gS),(1,.ints .u32 gR),(3,.deep (ds))]) 4))]
 :=RunIs.of (by kernel_rfl) (by kernel_rfl) (by kernel_rfl)
theorem na_4 (qs:List (List UInt8)) (n:Nat):∃ L,RunIs Tryz.prog cs6 [] 1000 3 Tryz.f45 [] (enNa) (sN2 n (strs qs)) L
  [([],
   [(gS=gS),(gR=gR),(strs qs=strs (strL (strs qs))),(n=(strL (strs qs)).length),(0 < n),(n ≤ 1000000000),((joinB (strL (strs qs))).length ≤ 1000000000)],
   .ret (.str (sha (joinB (strL (strs qs))))) (hL [(0,.ints .u32 gS),(1,.ints .u32 gR)]) 3)]
 :=RunIs.of (by kernel_rfl) (by kernel_rfl) (by kernel_rfl)
end Go.Proofs.YtfihojpgobmmdaaGreatDoor
namespace Go.Proofs.YtfihojpgobmmdaaGreatDoor
open Go Go.Eng
def nameOf (d:List UInt8) (rs:List (List UInt8)):List UInt8:=sha (joinB (d :: rs))
theorem nameOf_len (d:List UInt8) (rs:List (List UInt8)):(nameOf d rs).length=32:=rfl
theorem roomy16 {k:Nat} (h:k ≤ 1000000000):roomy k 1 16=true:=by
 unfold roomy
 exact decide_eq_true ⟨by omega,by omega⟩
theorem na_3b (rs:List (List UInt8)) (ds ds2:List D) (p:List UInt8) (i len:Nat) (h:List.take (len * 1) (List.drop 0 ds) ++ [D.str p]=ds2):∃ L,RunIs Tryz.prog cs6 [(13,.split),(14,.give (.fptr [.str p])),(20,.give (.int .i64 (Int.ofNat (i+1))))] 1000 3 Tryz.f45 [5,10,11,12] (inner (inner (seqR lpNa))) (sN1 rs ds i len) L
  [([((decide (Int.ofNat i < Int.ofNat rs.length)),true)],
   [((0:Int) ≤ Int.ofNat i∧Int.ofNat i < (Int.ofNat rs.length)),((strs rs).length=rs.length * 1),(V.fptr (cellsAt (strs rs) ((Int.ofNat i).toNat * 1) 1)=V.fptr [D.str p]),(0+len * 1 ≤ ds.length),(0 < 1),(roomy (len+1) 1 16=true),ieq (Int.ofNat i+1) (i+1)],
   .to .normal (sN1 rs ds2 (i+1) (len+1))),
  ([((decide (Int.ofNat i < Int.ofNat rs.length)),false)],[],.to (.exit 0) (sN1 rs ds i len))]:=by
 subst h
 exact RunIs.of (by kernel_rfl) (by kernel_rfl) (by kernel_rfl)
theorem strs_take (d:List UInt8) {rs:List (List UInt8)} {i:Nat} {p:List UInt8} (h:rs[i]? =some p):List.take ((i+1) * 1) (List.drop 0 (strs (d :: rs.take i))) ++ [D.str p]=strs (d :: rs.take (i+1)):=by
 have hlt:i < rs.length:=(List.getElem?_eq_some_iff.1 h).1
 rw [List.drop_zero,Nat.mul_one,List.take_of_length_le (by rw [strs_len,List.length_cons,List.length_take]; omega),List.take_add_one,h]
 unfold strs
 simp
set_option maxRecDepth 20000 in
theorem tgNa (rs:List (List UInt8)) (d:List UInt8) (hrs:rs.length ≤ 1000000) (hs:(joinB (d :: rs)).length ≤ 1000000000):TG Tryz.prog 3 Tryz.f45.ntmps cdNa (startSt [.str d,.lst false rs.length (strs rs)] (hSR gS gR) 3)
  (RetG Tryz.prog 3 Tryz.f45 fun u _ _=>u= .str (nameOf d rs)):=by
 have hO:∀ n:Nat,Int.ofNat n=(n:Int):=fun _=>rfl
 obtain ⟨L1,hr1⟩:=na_1 rs d
 refine TG_isN1 2 X6 mo (by kernel_rfl) hr1 all_nil ?_
 refine TG_deep [3] (s2:=sN0 rs d (.deep [.str d])) (by kernel_rfl) ?_
 show TG Tryz.prog 3 Tryz.f45.ntmps tlNa _ _
 refine TG_seq' (by kernel_rfl) ?_
 refine TG_seq' (by kernel_rfl) ?_
 obtain ⟨L2,hr2⟩:=na_2 rs d [.str d]
 refine TG_is X6 mo anyR (by kernel_rfl) hr2 fun g hg _=>?_
 rw [List.mem_singleton] at hg; subst hg
 refine ⟨fun p hp=>by rw [List.mem_singleton] at hp; subst hp; rfl,fun s' hs'=>?_⟩
 have hs':normG 3 [5,10,11,12] s'=some (sN1 rs (strs (d :: rs.take 0)) 0 1):=hs'
 refine TG_block (i:=0) (by kernel_rfl) (TG_mono (Q1:=fun z s'=>z= .exit 0∧∃ L,normG 3 L s'=some (sN1 rs (strs (d :: rs)) rs.length (rs.length+1))) (TG_loop_inv (fun k' s=>∃ i,k'=rs.length - i∧i ≤ rs.length∧∃ L,normG 3 L s=some (sN1 rs (strs (d :: rs.take i)) i (i+1))) (by kernel_rfl) ?_ rs.length ⟨0,rfl,Nat.zero_le _,_,hs'⟩) ?_)
 · rintro k' s1 ⟨i,hk,hi,L,hs1⟩
   refine TG_norm hs1 ?_
   rcases Nat.lt_or_ge i rs.length with hlt | hge
   · obtain ⟨p,hp⟩:∃ p,rs[i]? =some p:=⟨_,List.getElem?_eq_getElem hlt⟩
     obtain ⟨L3,hr3⟩:=na_3b rs (strs (d :: rs.take i)) _ p i (i+1) (strs_take d hp)
     refine TG_is X6 mo anyR (by kernel_rfl) hr3 fun g hg hc=>?_
     simp only [List.mem_cons,List.not_mem_nil,or_false] at hg
     rcases hg with rfl | rfl
     · refine ⟨?_,fun s' hs'=>⟨rs.length - (i+1),by omega,i+1,rfl,by omega,_,hs'⟩⟩
       repeat' (first | exact all_nil | refine List.forall_mem_cons.2 ⟨?_,?_⟩)
       · exact ⟨Int.natCast_nonneg _,by rw [hO,hO]; omega⟩
       · rw [strs_len,Nat.mul_one]
       · exact congrArg V.fptr (cellsAt_strs hp)
       · rw [strs_len,List.length_cons,List.length_take]; omega
       · decide
       · exact roomy16 (by omega)
       · exact ieq_ok (by rw [hO]; omega) (by omega)
     · exact absurd (of_decide_eq_false (hc _ (List.mem_singleton.2 rfl))) (by rw [hO,hO]; omega)
   · obtain rfl:i=rs.length:=by omega
     obtain ⟨L3,hr3⟩:=na_3b rs (strs (d :: rs.take rs.length)) _ [] rs.length (rs.length+1) rfl
     refine TG_is X6 mo anyR (by kernel_rfl) hr3 fun g hg hc=>?_
     simp only [List.mem_cons,List.not_mem_nil,or_false] at hg
     rcases hg with rfl | rfl
     · exact absurd (of_decide_eq_true (hc _ (List.mem_singleton.2 rfl))) (by rw [hO]; omega)
     · refine ⟨all_nil,fun s' hs'=>⟨rfl,[5,10,11,12],?_⟩⟩
       rw [hs',List.take_length]
 rintro y s2 ⟨rfl,L,hs2⟩
 rw [outOf_exit]
 simp only [andThen]
 refine TG_norm hs2 ?_
 refine TG_norm (live:=[5]) (s2:=stG [(5,.slc (some (3,0)) (rs.length+1) (rs.length+1) 1)] (hL [(0,.ints .u32 gS),(1,.ints .u32 gR),(3,.deep (strs (d :: rs)))]) 4) (by kernel_rfl) ?_
 refine TG_frz [3] (A:=[(strs (d :: rs)).length=(rs.length+1) * 1]) (s2:=stG [(5,.lst false (rs.length+1) (strs (d :: rs)))] ((hL [(0,.ints .u32 gS),(1,.ints .u32 gR),(3,.deep (strs (d :: rs)))]).set 3 none) 4) (by kernel_rfl) (fun x hx=>?_) ?_
 · rw [List.mem_singleton] at hx; subst hx; rw [strs_len,Nat.mul_one]; rfl
 refine TG_norm (live:=[5]) (s2:=sN2 (rs.length+1) (strs (d :: rs))) (by kernel_rfl) ?_
 obtain ⟨L5,hr5⟩:=na_4 (d :: rs) (rs.length+1)
 rw [strL_strs] at hr5
 refine TG_ret X6 mo _ (by kernel_rfl) hr5 fun g hg _=>?_
 rw [List.mem_singleton] at hg; subst hg
 refine ⟨?_,_,_,_,rfl,rfl⟩
 repeat' (first | exact all_nil | refine List.forall_mem_cons.2 ⟨?_,?_⟩)
 · first | rfl | trivial
 · first | rfl | trivial
 · first | rfl | trivial
 · first | rfl | trivial
 · omega
 · omega
 · exact hs
def specNa:List D→Option (List Prop × V)
 | [.str d,.lst n cs]=>some ([cs=strs (strL cs),n=(strL cs).length,n ≤ 1000000,(joinB (d :: strL cs)).length ≤ 1000000000],.str (nameOf d (strL cs)))
 | _=>none
theorem one_Na:OneW Tryz.prog 45 (tW specNa):=by
 refine tW_ok (Nat.le_of_ble_eq_true (by kernel_rfl)) fun args A v e hA=>?_
 unfold specNa at e
 split at e
 case h_2=>cases e
 rename_i d n cs
 simp only [Option.some.injEq,Prod.mk.injEq] at e
 obtain ⟨rfl,rfl⟩:=e
 have e1:cs=strs (strL cs):=hA _ (by simp)
 have e2:n=(strL cs).length:=hA (n=(strL cs).length) (by simp)
 have e4:n ≤ 1000000:=hA (n ≤ 1000000) (by simp)
 have e5:(joinB (d :: strL cs)).length ≤ 1000000000:=hA ((joinB (d :: strL cs)).length ≤ 1000000000) (by simp)
 generalize strL cs=ps at *
 subst e1 e2
 exact tabs_calls Tryz.func45 (by kernel_rfl) (by kernel_rfl) rfl rfl (TG_mono (tgNa ps d e4 e5) fun y s h=>RetG_self h)
noncomputable abbrev W7:CtrW:=addW 45 (tW specNa) W6
theorem W7_ok:CtrWOk Tryz.prog W7:=addW_ok one_Na W6_ok
noncomputable abbrev cs7:CallS:=callX Tryz.prog W7 H0 1000 40
noncomputable abbrev X7:CX Tryz.prog:=CX.of mo po W7_ok H0 1000 40
end Go.Proofs.YtfihojpgobmmdaaGreatDoor
namespace Go.Proofs.YtfihojpgobmmdaaGreatDoor
open Go Go.Eng
noncomputable abbrev cdVa:Code:=bodyOf Tryz.f75
noncomputable abbrev tlVa:Code:=tailN 3 cdVa
noncomputable abbrev lpVa:Code:=seqL tlVa
noncomputable abbrev enVa:Code:=seqR tlVa
def sV0 (u:Int):St:=stG [(3,.slc none 0 0 0),(4,.int .u64 u)] (hL []) 3
def sV1 (u:Int) (o:O) (len:Nat):St:=stG [(3,.slc (some (3,0)) len len 1),(4,.int .u64 u)] (hL [(3,o)]) 4
theorem va_1 (n:Int):∃ L,RunIs Tryz.prog cs7 [(6,.give (.int .u64 n))] 1000 3 Tryz.f75 [3,4] (headN 3 cdVa) (startSt [.int .i64 n] .nil 3) L
  [([],
   [(V.int IntKind.u64 (IntKind.u64.wrap n)=V.int IntKind.u64 n)],
   .to .normal (stG [(3,.slc none 0 0 0),(4,.int .u64 n)] (hL []) 3))]
 :=RunIs.of (by kernel_rfl) (by kernel_rfl) (by kernel_rfl)
theorem va_4 (u:Int):∃ L,RunIs Tryz.prog cs7 [] 1000 3 Tryz.f75 [] (enVa) (sV0 u) L
  [([],
   [],
   .ret (.str ([UInt8.ofNat (IntKind.u8.wrap u).toNat])) (hL []) 3)]
 :=RunIs.of (by kernel_rfl) (by kernel_rfl) (by kernel_rfl)
theorem va_5 (u:Int) (ks:List Int) (len:Nat):∃ L,RunIs Tryz.prog cs7 [] 1000 3 Tryz.f75 [] (enVa) (sV1 u (.own .u8 ks) len) L
  [([],
   [(0 < len),(0+len * 1 ≤ ks.length),(0 < 1),(roomy (len+1) 1 1=true),(0+(len+1) ≤ (List.take (len * 1) (List.drop 0 ks) ++ [IntKind.u8.wrap u]).length)],
   .ret (.str (strI (List.take (len+1) (List.drop 0 (List.take (len * 1) (List.drop 0 ks) ++ [IntKind.u8.wrap u]))))) (hL []) 3)]
 :=RunIs.of (by kernel_rfl) (by kernel_rfl) (by kernel_rfl)
end Go.Proofs.YtfihojpgobmmdaaGreatDoor
namespace Go.Proofs.YtfihojpgobmmdaaGreatDoor
open Go Go.Eng
def hiB (u:Int):Int:=IntKind.u8.wrap (Int.ofNat (BitVec.ofInt 8 (IntKind.u8.wrap u) ||| BitVec.ofInt 8 (128:Int)).toNat)
def loB (u:Int):Int:=IntKind.u8.wrap u
def varL:Nat→Int→List Int
 | 0,u=>[loB u]
 | k+1,u=>if 128 ≤ u then hiB u :: varL k (u.fdiv 128) else [loB u]
def varB (n:Int):List UInt8:=strI (varL 4 n)
theorem varL_low {k:Nat} {u:Int} (h:¬ 128 ≤ u):varL k u=[loB u]:=by
 cases k with
 | zero=>rfl
 | succ k=>show (if 128 ≤ u then _ else _)=_; rw [if_neg h]
theorem varL_len:∀ (k:Nat) (u:Int),0 < (varL k u).length∧(varL k u).length ≤ k+1
 | 0,u=>by simp [varL]
 | k+1,u=>by
   have:=varL_len k (u.fdiv 128)
   show 0 < (if 128 ≤ u then _ else _:List Int).length∧(if 128 ≤ u then _ else _:List Int).length ≤ _
   split
   · simp only [List.length_cons]; omega
   · simp only [List.length_cons,List.length_nil]; omega
theorem varB_len (n:Int):0 < (varB n).length∧(varB n).length ≤ 5:=by
 have:=varL_len 4 n
 unfold varB strI
 rw [List.length_map]; exact this
theorem va_2b (u:Int):∃ L,RunIs Tryz.prog cs7 [(8,.split)] 1000 3 Tryz.f75 [3,4] (inner (inner lpVa)) (sV0 u) L
  [([((decide (u ≥ (128:Int))),true)],[],.to .normal (sV1 (u.fdiv 128) (.cells [.int .u8 (hiB u)]) 1)),
   ([((decide (u ≥ (128:Int))),false)],[],.to (.exit 0) (sV0 u))]:=RunIs.of (by kernel_rfl) (by kernel_rfl) (by kernel_rfl)
theorem va_3b (u:Int) (ks ks2:List Int) (len:Nat) (h:List.take (len * 1) (List.drop 0 ks) ++ [hiB u]=ks2):∃ L,RunIs Tryz.prog cs7 [(8,.split)] 1000 3 Tryz.f75 [3,4] (inner (inner lpVa)) (sV1 u (.own .u8 ks) len) L
  [([((decide (u ≥ (128:Int))),true)],[(0 < len),(0+len * 1 ≤ ks.length),(0 < 1),(roomy (len+1) 1 1=true)],.to .normal (sV1 (u.fdiv 128) (.own .u8 ks2) (len+1))),
   ([((decide (u ≥ (128:Int))),false)],[],.to (.exit 0) (sV1 u (.own .u8 ks) len))]:=by
 subst h
 exact RunIs.of (by kernel_rfl) (by kernel_rfl) (by kernel_rfl)
def VaS (ks:List Int) (u:Int) (s:St):Prop:=(ks=[]∧∃ L,normG 3 L s=some (sV0 u)) ∨ (0 < ks.length∧∃ L,normG 3 L s=some (sV1 u (.own .u8 ks) ks.length)) ∨ (∃ x,ks=[x]∧∃ L,normG 3 L s=some (sV1 u (.cells [.int .u8 x]) 1))
def VaI (n:Int) (k:Nat) (s:St):Prop:=∃ ks u,0 ≤ u∧u < 128 ^ (k+1)∧ks.length+k ≤ 10∧ks ++ varL k u=varL 4 n∧VaS ks u s
def VaE (n:Int) (s:St):Prop:=∃ ks u,ks.length ≤ 10∧ks ++ [loB u]=varL 4 n∧VaS ks u s
set_option maxRecDepth 20000 in
theorem tgVa (n:Int) (h0:0 ≤ n) (hn:n < 1000000000):TG Tryz.prog 3 Tryz.f75.ntmps cdVa (startSt [.int .i64 n] .nil 3) (RetG Tryz.prog 3 Tryz.f75 fun u _ _=>u= .str (varB n)):=by
 obtain ⟨L1,hr1⟩:=va_1 n
 refine TG_isN1 3 X7 mo (by kernel_rfl) hr1 (fun p hp=>?_) ?_
 · rw [List.mem_singleton] at hp; subst hp
   have:IntKind.u64.wrap n=n:=by
    unfold IntKind.wrap
    have e1:(2 ^ IntKind.u64.bits:Int)=18446744073709551616:=by decide
    have e3:IntKind.u64.signed=false:=rfl
    simp only [e1,e3,Bool.false_and,Bool.false_eq_true,if_false]
    omega
   rw [this]
 show TG Tryz.prog 3 Tryz.f75.ntmps tlVa (sV0 n) _
 refine TG_seq' (by kernel_rfl) ?_
 refine TG_block (i:=0) (by kernel_rfl) (TG_mono (Q1:=fun z s'=>z= .exit 0∧VaE n s') (TG_loop_inv (VaI n) (by kernel_rfl) ?_ 4 ⟨[],n,h0,by omega,by decide,rfl,.inl ⟨rfl,[3,4],by kernel_rfl⟩⟩) ?_)
 · rintro k s1 ⟨ks,u,hu0,hu,hl,hv,hs⟩
   have key:∀ hk:128 ≤ u,∃ j,k=j+1∧0 ≤ u.fdiv 128∧u.fdiv 128 < 128 ^ (j+1)∧(ks ++ [hiB u]) ++ varL j (u.fdiv 128)=varL 4 n:=by
    intro hk
    cases k with
    | zero=>simp at hu; omega
    | succ j=>
      have ed:u.fdiv 128=u / 128:=Int.fdiv_eq_ediv_of_nonneg _ (by decide)
      refine ⟨j,rfl,by rw [ed]; omega,?_,?_⟩
      · rw [ed]
        have:(128:Int) ^ (j+1+1)=128 ^ (j+1) * 128:=Int.pow_succ ..
        rw [this] at hu
        exact Int.ediv_lt_of_lt_mul (by decide) hu
      · rw [← hv]
        show _=ks ++ (if 128 ≤ u then _ else _)
        rw [if_pos hk]; simp
   have fin:∀ hk:¬ 128 ≤ u,ks ++ [loB u]=varL 4 n:=fun hk=>by rw [← hv,varL_low hk]
   have own:∀ s2,0 < ks.length→s2=sV1 u (.own .u8 ks) ks.length→TG Tryz.prog 3 Tryz.f75.ntmps (inner (inner (seqL tlVa))) s2 (andThen (fun s'=>∃ k',k' < k∧VaI n k' s') fun z s'=>z= .exit 0∧VaE n s'):=by
    rintro s2 hpos rfl
    obtain ⟨L3,hr3⟩:=va_3b u ks (ks ++ [hiB u]) ks.length (by rw [List.drop_zero,Nat.mul_one,List.take_length])
    refine TG_is X7 mo anyR (by kernel_rfl) hr3 fun g hg hc=>?_
    simp only [List.mem_cons,List.not_mem_nil,or_false] at hg
    rcases hg with rfl | rfl
    · have hk:128 ≤ u:=of_decide_eq_true (hc _ (List.mem_singleton.2 rfl))
      obtain ⟨j,rfl,a1,a2,a3⟩:=key hk
      have hl2:(ks ++ [hiB u]).length+j ≤ 10:=by
       clear a2 hu
       rw [List.length_append,List.length_cons,List.length_nil]; omega
      refine ⟨?_,fun s' hs'=>⟨j,Nat.lt_succ_self j,_,_,a1,a2,hl2,a3,.inr (.inl ⟨by simp,[3,4],by rw [hs',List.length_append]; rfl⟩)⟩⟩
      repeat' (first | exact all_nil | refine List.forall_mem_cons.2 ⟨?_,?_⟩)
      · exact hpos
      · omega
      · decide
      · exact roomy_ok (by omega)
    · have hk:¬ 128 ≤ u:=of_decide_eq_false (hc _ (List.mem_singleton.2 rfl))
      exact ⟨all_nil,fun s' hs'=>⟨rfl,ks,u,by omega,fin hk,.inr (.inl ⟨hpos,_,hs'⟩)⟩⟩
   rcases hs with ⟨rfl,L,hs⟩ | ⟨hpos,L,hs⟩ | ⟨x,rfl,L,hs⟩
   · refine TG_norm hs ?_
     obtain ⟨L3,hr3⟩:=va_2b u
     refine TG_is X7 mo anyR (by kernel_rfl) hr3 fun g hg hc=>?_
     simp only [List.mem_cons,List.not_mem_nil,or_false] at hg
     rcases hg with rfl | rfl
     · have hk:128 ≤ u:=of_decide_eq_true (hc _ (List.mem_singleton.2 rfl))
       obtain ⟨j,rfl,a1,a2,a3⟩:=key hk
       have hl2:[hiB u].length+j ≤ 10:=by
        clear a2 hu
        simp only [List.length_cons,List.length_nil] at hl ⊢; omega
       exact ⟨all_nil,fun s' hs'=>⟨j,Nat.lt_succ_self j,_,_,a1,a2,hl2,a3,.inr (.inr ⟨_,rfl,_,hs'⟩)⟩⟩
     · have hk:¬ 128 ≤ u:=of_decide_eq_false (hc _ (List.mem_singleton.2 rfl))
       exact ⟨all_nil,fun s' hs'=>⟨rfl,[],u,by decide,fin hk,.inl ⟨rfl,_,hs'⟩⟩⟩
   · exact TG_norm hs (own _ hpos rfl)
   · refine TG_norm hs ?_
     refine TG_own [(3,.u8)] (s2:=sV1 u (.own .u8 [x]) 1) (by kernel_rfl) ?_
     exact own _ Nat.zero_lt_one rfl
 rintro y s2 ⟨rfl,ks,u,hl,hv,hs⟩
 rw [outOf_exit]
 simp only [andThen]
 have own:∀ s2,0 < ks.length→s2=sV1 u (.own .u8 ks) ks.length→TG Tryz.prog 3 Tryz.f75.ntmps enVa s2 (RetG Tryz.prog 3 Tryz.f75 fun u _ _=>u= .str (varB n)):=by
  rintro s2 hpos rfl
  obtain ⟨L5,hr5⟩:=va_5 u ks ks.length
  refine TG_ret X7 mo _ (by kernel_rfl) hr5 fun g hg _=>?_
  rw [List.mem_singleton] at hg; subst hg
  have e:List.take (ks.length * 1) (List.drop 0 ks) ++ [IntKind.u8.wrap u]=varL 4 n:=by rw [List.drop_zero,Nat.mul_one,List.take_length]; exact hv
  have el:(varL 4 n).length=ks.length+1:=by rw [← hv,List.length_append]; rfl
  rw [e]
  refine ⟨?_,_,_,_,rfl,?_⟩
  · repeat' (first | exact all_nil | refine List.forall_mem_cons.2 ⟨?_,?_⟩)
    · exact hpos
    · omega
    · decide
    · exact roomy_ok (by omega)
    · omega
  · unfold varB
    rw [List.drop_zero,← el,List.take_length]
 rcases hs with ⟨rfl,L,hs⟩ | ⟨hpos,L,hs⟩ | ⟨x,rfl,L,hs⟩
 · refine TG_norm hs ?_
   obtain ⟨L5,hr5⟩:=va_4 u
   refine TG_ret X7 mo _ (by kernel_rfl) hr5 fun g hg _=>?_
   rw [List.mem_singleton] at hg; subst hg
   refine ⟨all_nil,_,_,_,rfl,?_⟩
   unfold varB
   rw [← hv]; rfl
 · exact TG_norm hs (own _ hpos rfl)
 · refine TG_norm hs ?_
   refine TG_own [(3,.u8)] (s2:=sV1 u (.own .u8 [x]) 1) (by kernel_rfl) ?_
   exact own _ Nat.zero_lt_one rfl
def specVa:List V→Option (List Prop × V)
 | [.int .i64 n]=>some ([0 ≤ n∧n < 1000000000],.str (varB n))
 | _=>none
theorem one_Va:OneW Tryz.prog 75 (pureW specVa):=by
 refine pureW_ok (Nat.le_of_ble_eq_true (by kernel_rfl)) fun args A v e=>?_
 unfold specVa at e
 split at e
 · simp only [Option.some.injEq,Prod.mk.injEq] at e; obtain ⟨rfl,rfl⟩:=e
   exact ⟨rfl,by kernel_rfl,fun hA=>pure_calls mo po Tryz.func75 (by kernel_rfl) (by kernel_rfl) rfl (tgVa _ (hA _ (List.mem_singleton.2 rfl)).1 (hA _ (List.mem_singleton.2 rfl)).2)⟩
 · cases e
noncomputable abbrev W8:CtrW:=addW 75 (pureW specVa) W7
theorem W8_ok:CtrWOk Tryz.prog W8:=addW_ok one_Va W7_ok
noncomputable abbrev cs8:CallS:=callX Tryz.prog W8 H0 1000 40
noncomputable abbrev X8:CX Tryz.prog:=CX.of mo po W8_ok H0 1000 40
end Go.Proofs.YtfihojpgobmmdaaGreatDoor
namespace Go.Proofs.YtfihojpgobmmdaaGreatDoor
open Go Go.Eng
noncomputable abbrev cdTa:Code:=bodyOf Tryz.f122
noncomputable abbrev tlTa:Code:=tailN 1 cdTa
noncomputable abbrev lpTa:Code:=seqL tlTa
noncomputable abbrev enTa:Code:=seqR tlTa
noncomputable abbrev cdSu:Code:=bodyOf Tryz.f99
noncomputable abbrev tlSu:Code:=tailN 4 cdSu
noncomputable abbrev lpSu:Code:=seqL tlSu
noncomputable abbrev enSu:Code:=seqR tlSu
def cst (c:Int):Int:=xorI (c.fdiv 2) (w32 (3988292384 * andI c 1))
def sT0 (o:O):St:=stG [(0,.ptr (some (3,0)))] (hL [(3,o)]) 4
def sT1 (ws:List Int) (i:Nat):St:=stG [(0,.ptr (some (3,0))),(3,.int .i64 (Int.ofNat i))] (hL [(3,.own .u32 ws)]) 4
def tabV (ws:List Int):V:=.agg ((List.range 256).map fun j=>.int .u32 (ws.getD j 0))
def sU0 (s:List UInt8) (c:Int) (o:O):St:=stG [(0,.str s),(4,.ptr (some (3,0))),(5,.fn (.func 123) [] [.ptr (some (4,0)),.ptr (some (3,0))])] (hL [(3,.cells [.int .u32 c]),(4,o)]) 5
def sU1 (s:List UInt8) (c:Int) (ws:List Int) (i:Nat):St:=stG [(0,.str s),(4,.ptr (some (3,0))),(5,.fn (.func 123) [] [.ptr (some (4,0)),.ptr (some (3,0))]),(10,.int .i64 (Int.ofNat s.length)),(11,.int .i64 (Int.ofNat i))] (hL [(3,.cells [.int .u32 c]),(4,.own .u32 ws)]) 5
def tabE (i:Nat):Int:=cst (cst (cst (cst (cst (cst (cst (cst (w32 (Int.ofNat i)))))))))
theorem ta_1:RunIs Tryz.prog cs8 [] 1000 3 Tryz.f122 [0] (headN 1 cdTa) (startSt [] .nil 3) [] [([],[],.to .normal (sT0 (.cells (List.replicate 256 (.int .u32 0)))))]:=by
 unfold RunIs; kernel_rfl
theorem ta_own:ownS [(3,.u32)] (sT0 (.cells (List.replicate 256 (.int .u32 0))))=some (sT0 (.own .u32 (List.replicate 256 0))):=by kernel_rfl
theorem ta_2 (ws:List Int):∃ L,RunIs Tryz.prog cs8 [(3,.give (.int .i64 (Int.ofNat 0)))] 1000 3 Tryz.f122 [0,3] (seqL lpTa) (sT0 (.own .u32 ws)) L [([],[V.int .i64 0=V.int .i64 0],.to .normal (sT1 ws 0))]:=
 RunIs.of (by kernel_rfl) (by kernel_rfl) (by kernel_rfl)
theorem ta_3 (ws:List Int) (i:Nat):∃ L,RunIs Tryz.prog cs8 [(4,.split),(20,.give (.int .i64 (Int.ofNat (i+1))))] 1000 3 Tryz.f122 [0,3] (inner (inner (seqR lpTa))) (sT1 ws i) L
  [([(decide (Int.ofNat i < 256),true)],[0 ≤ Int.ofNat i∧Int.ofNat i < 256,0+i * 1+1 ≤ ws.length,ieq (Int.ofNat i+1) (i+1)],.to .normal (sT1 (putI ws (0+i * 1) [tabE i]) (i+1))),
   ([(decide (Int.ofNat i < 256),false)],[],.to (.exit 0) (sT1 ws i))]:=
 RunIs.of (by kernel_rfl) (by kernel_rfl) (by kernel_rfl)
theorem ta_4 (ws:List Int) (i:Nat):∃ L,RunIs Tryz.prog cs8 [] 1000 3 Tryz.f122 [] enTa (sT1 ws i) L
  [([],[256 ≤ ws.length,256 ≤ ws.length],.ret (tabV ws) (hL []) 3)]:=
 RunIs.of (by kernel_rfl) (by kernel_rfl) (by kernel_rfl)
theorem su_2 (s:List UInt8) (c:Int) (ws:List Int):∃ L,RunIs Tryz.prog cs8 [(11,.give (.int .i64 (Int.ofNat 0)))] 1000 3 Tryz.f99 [0,4,5,10,11] (seqL lpSu) (sU0 s c (.own .u32 ws)) L
  [([],
   [(V.int IntKind.i64 (0:Int)=V.int IntKind.i64 (0:Int))],
   .to .normal (stG [(0,.str (s)),(4,.ptr (some (3,0))),(5,.fn (.func 123) [] [.ptr (some (4,0)),.ptr (some (3,0))]),(10,.int .i64 ((Int.ofNat s.length))),(11,.int .i64 0)] (hL [(3,.cells [.int .u32 c]),(4,.own .u32 (ws))]) 5))]
 :=RunIs.of (by kernel_rfl) (by kernel_rfl) (by kernel_rfl)
theorem su_4 (s:List UInt8) (c:Int) (ws:List Int) (i:Nat):∃ L,RunIs Tryz.prog cs8 [] 1000 3 Tryz.f99 [] (enSu) (sU1 s c ws i) L
  [([],
   [],
   .ret (.int .u32 (IntKind.u32.wrap (Int.ofNat (BitVec.ofInt 32 (4294967295:Int) ^^^ BitVec.ofInt 32 c).toNat))) (hL []) 3)]
 :=RunIs.of (by kernel_rfl) (by kernel_rfl) (by kernel_rfl)
end Go.Proofs.YtfihojpgobmmdaaGreatDoor
namespace Go.Proofs.YtfihojpgobmmdaaGreatDoor
open Go Go.Eng
def tabW:Nat→List Int
 | 0=>List.replicate 256 0
 | i+1=>putI (tabW i) (0+i * 1) [tabE i]
theorem tabW_len:∀ i,i ≤ 256→(tabW i).length=256
 | 0,_=>List.length_replicate ..
 | i+1,h=>by
   have ih:=tabW_len i (by omega)
   show (putI (tabW i) (0+i * 1) [tabE i]).length=256
   rw [putI_len (by simp only [List.length_cons,List.length_nil]; omega),ih]
def tabL:List Int:=tabW 256
set_option maxRecDepth 20000 in
theorem tgTa:TG Tryz.prog 3 Tryz.f122.ntmps cdTa (startSt [] .nil 3) (RetG Tryz.prog 3 Tryz.f122 fun u _ _=>u=tabV tabL):=by
 have hO:∀ n:Nat,Int.ofNat n=(n:Int):=fun _=>rfl
 refine TG_isN1 1 X8 mo (by kernel_rfl) ta_1 all_nil ?_
 refine TG_own _ ta_own ?_
 show TG Tryz.prog 3 Tryz.f122.ntmps tlTa _ _
 refine TG_seq' (by kernel_rfl) ?_
 refine TG_seq' (by kernel_rfl) ?_
 obtain ⟨L2,hr2⟩:=ta_2 (List.replicate 256 0)
 refine TG_is X8 mo anyR (by kernel_rfl) hr2 fun g hg _=>?_
 rw [List.mem_singleton] at hg; subst hg
 refine ⟨fun p hp=>by rw [List.mem_singleton] at hp; subst hp; rfl,fun s' hs'=>?_⟩
 have hs':normG 3 [0,3] s'=some (sT1 (tabW 0) 0):=hs'
 refine TG_block (i:=0) (by kernel_rfl) (TG_mono (Q1:=fun z s'=>z= .exit 0∧∃ L,normG 3 L s'=some (sT1 tabL 256)) (TG_loop_inv (fun k' s=>∃ i,k'=256 - i∧i ≤ 256∧∃ L,normG 3 L s=some (sT1 (tabW i) i)) (by kernel_rfl) ?_ 256 ⟨0,rfl,Nat.zero_le _,_,hs'⟩) ?_)
 · rintro k' s1 ⟨i,hk,hi,L,hs1⟩
   refine TG_norm hs1 ?_
   obtain ⟨L3,hr3⟩:=ta_3 (tabW i) i
   refine TG_is X8 mo anyR (by kernel_rfl) hr3 fun g hg hc=>?_
   simp only [List.mem_cons,List.not_mem_nil,or_false] at hg
   rcases hg with rfl | rfl
   · have hlt:i < 256:=by
      have:=of_decide_eq_true (hc _ (List.mem_singleton.2 rfl))
      rw [hO] at this; omega
     have hl:=tabW_len i hi
     refine ⟨?_,fun s' hs'=>⟨256 - (i+1),by omega,i+1,rfl,by omega,_,hs'⟩⟩
     repeat' (first | exact all_nil | refine List.forall_mem_cons.2 ⟨?_,?_⟩)
     · exact ⟨Int.natCast_nonneg _,by rw [hO]; omega⟩
     · omega
     · exact ieq_ok (by rw [hO]; omega) (by omega)
   · have hge:¬ i < 256:=by
      have:=of_decide_eq_false (hc _ (List.mem_singleton.2 rfl))
      rw [hO] at this; omega
     obtain rfl:i=256:=by omega
     exact ⟨all_nil,fun s' hs'=>⟨rfl,_,hs'⟩⟩
 rintro y s2 ⟨rfl,L,hs2⟩
 rw [outOf_exit]
 simp only [andThen]
 refine TG_norm hs2 ?_
 obtain ⟨L5,hr5⟩:=ta_4 tabL 256
 refine TG_ret X8 mo _ (by kernel_rfl) hr5 fun g hg _=>?_
 rw [List.mem_singleton] at hg; subst hg
 have hl:tabL.length=256:=tabW_len 256 (Nat.le_refl _)
 refine ⟨?_,_,_,_,rfl,rfl⟩
 repeat' (first | exact all_nil | refine List.forall_mem_cons.2 ⟨?_,?_⟩)
 · omega
 · omega
def specTa:List V→Option (List Prop × V)
 | []=>some ([],tabV tabL)
 | _=>none
theorem one_Ta:OneW Tryz.prog 122 (pureW specTa):=by
 refine pureW_ok (Nat.le_of_ble_eq_true (by kernel_rfl)) fun args A v e=>?_
 unfold specTa at e
 split at e
 · simp only [Option.some.injEq,Prod.mk.injEq] at e; obtain ⟨rfl,rfl⟩:=e
   exact ⟨rfl,by kernel_rfl,fun hA=>pure_calls mo po Tryz.func122 (by kernel_rfl) (by kernel_rfl) rfl tgTa⟩
 · cases e
noncomputable abbrev W9:CtrW:=addW 122 (pureW specTa) W8
theorem W9_ok:CtrWOk Tryz.prog W9:=addW_ok one_Ta W8_ok
noncomputable abbrev cs9:CallS:=callX Tryz.prog W9 H0 1000 40
noncomputable abbrev X9:CX Tryz.prog:=CX.of mo po W9_ok H0 1000 40
theorem su_1 (s:List UInt8):∃ L,RunIs Tryz.prog cs9 [] 1000 3 Tryz.f99 [0,4,5] (headN 4 cdSu) (startSt [.str s] .nil 3) L
  [([],[],.to .normal (sU0 s 4294967295 (.cells ((List.range 256).map fun j=>.int .u32 (tabL.getD j 0)))))]:=
 RunIs.of (by kernel_rfl) (by kernel_rfl) (by kernel_rfl)
def w256 (ws:List Int):List Int:=(List.range 256).map fun j=>ws.getD j 0
theorem w256_len (ws:List Int):(w256 ws).length=256:=by unfold w256; rw [List.length_map,List.length_range]
theorem su_own (s:List UInt8) (c:Int):ownS [(4,.u32)] (sU0 s c (.cells ((List.range 256).map fun j=>.int .u32 (tabL.getD j 0))))=some (sU0 s c (.own .u32 (w256 tabL))):=by
 kernel_rfl
def crcX (c:Int) (b:UInt8):Int:=IntKind.u8.wrap (Int.ofNat (BitVec.ofInt 8 (IntKind.u8.wrap c) ^^^ BitVec.ofInt 8 (Int.ofNat b.toNat)).toNat)
def crcS (ws:List Int) (c:Int) (b:UInt8):Int:=xorI (ws.getD (0+(crcX c b).toNat * 1) 0) (c.fdiv 256)
def crcN (ws:List Int) (s:List UInt8):Nat→Int
 | 0=>4294967295
 | i+1=>crcS ws (crcN ws s i) (s.getD i 0)
def crcI (s:List UInt8):Int:=xorI 4294967295 (crcN (w256 tabL) s s.length)
theorem su_3b (s:List UInt8) (c:Int) (ws:List Int) (i:Nat):∃ L,RunIs Tryz.prog cs9 [(12,.split),(19,.give (.int .i64 (Int.ofNat (i+1))))] 1000 3 Tryz.f99 [0,4,5,10,11] (inner (inner (seqR lpSu))) (sU1 s c ws i) L
  [([(decide (Int.ofNat i < Int.ofNat s.length),true)],[0 ≤ Int.ofNat i∧(Int.ofNat i).toNat < s.length,0 ≤ crcX c (s.getD i 0)∧crcX c (s.getD i 0) < 256,0+(crcX c (s.getD i 0)).toNat * 1 < ws.length,ieq (Int.ofNat i+1) (i+1)],.to .normal (sU1 s (crcS ws c (s.getD i 0)) ws (i+1))),
   ([(decide (Int.ofNat i < Int.ofNat s.length),false)],[],.to (.exit 0) (sU1 s c ws i))]:=
 RunIs.of (by kernel_rfl) (by kernel_rfl) (by kernel_rfl)
theorem crcX_in (c:Int) (b:UInt8):0 ≤ crcX c b∧crcX c b < 256:=by
 unfold crcX IntKind.wrap
 have e1:(2 ^ IntKind.u8.bits:Int)=256:=by decide
 have e3:IntKind.u8.signed=false:=rfl
 simp only [e1,e3,Bool.false_and,Bool.false_eq_true,if_false]
 omega
set_option maxRecDepth 20000 in
theorem tgSu (s:List UInt8) (hs:s.length < 1000000000):TG Tryz.prog 3 Tryz.f99.ntmps cdSu (startSt [.str s] .nil 3) (RetG Tryz.prog 3 Tryz.f99 fun u _ _=>u= .int .u32 (crcI s)):=by
 have hO:∀ n:Nat,Int.ofNat n=(n:Int):=fun _=>rfl
 obtain ⟨L1,hr1⟩:=su_1 s
 refine TG_isN1 4 X9 mo (by kernel_rfl) hr1 all_nil ?_
 refine TG_own _ (su_own s 4294967295) ?_
 show TG Tryz.prog 3 Tryz.f99.ntmps tlSu _ _
 have hw:=w256_len tabL
 unfold crcI
 generalize w256 tabL=ws at hw ⊢
 refine TG_seq' (by kernel_rfl) ?_
 refine TG_seq' (by kernel_rfl) ?_
 obtain ⟨L2,hr2⟩:=su_2 s 4294967295 ws
 refine TG_is X8 mo anyR (by kernel_rfl) hr2 fun g hg _=>?_
 rw [List.mem_singleton] at hg; subst hg
 refine ⟨fun p hp=>by rw [List.mem_singleton] at hp; subst hp; rfl,fun s' hs'=>?_⟩
 have hs':normG 3 [0,4,5,10,11] s'=some (sU1 s (crcN ws s 0) ws 0):=hs'
 refine TG_block (i:=0) (by kernel_rfl) (TG_mono (Q1:=fun z s'=>z= .exit 0∧∃ L,normG 3 L s'=some (sU1 s (crcN ws s s.length) ws s.length)) (TG_loop_inv (fun k' s'=>∃ i,k'=s.length - i∧i ≤ s.length∧∃ L,normG 3 L s'=some (sU1 s (crcN ws s i) ws i)) (by kernel_rfl) ?_ s.length ⟨0,rfl,Nat.zero_le _,_,hs'⟩) ?_)
 · rintro k' s1 ⟨i,hk,hi,L,hs1⟩
   refine TG_norm hs1 ?_
   obtain ⟨L3,hr3⟩:=su_3b s (crcN ws s i) ws i
   refine TG_is X9 mo anyR (by kernel_rfl) hr3 fun g hg hc=>?_
   simp only [List.mem_cons,List.not_mem_nil,or_false] at hg
   rcases hg with rfl | rfl
   · have hlt:i < s.length:=by
      have:=of_decide_eq_true (hc _ (List.mem_singleton.2 rfl))
      rw [hO,hO] at this; omega
     have hx:=crcX_in (crcN ws s i) (s.getD i 0)
     refine ⟨?_,fun s' hs'=>⟨s.length - (i+1),by omega,i+1,rfl,by omega,_,hs'⟩⟩
     repeat' (first | exact all_nil | refine List.forall_mem_cons.2 ⟨?_,?_⟩)
     · exact ⟨Int.natCast_nonneg _,hlt⟩
     · exact hx
     · omega
     · exact ieq_ok (by rw [hO]; omega) (by omega)
   · have hge:¬ i < s.length:=by
      have:=of_decide_eq_false (hc _ (List.mem_singleton.2 rfl))
      rw [hO,hO] at this; omega
     obtain rfl:i=s.length:=by omega
     exact ⟨all_nil,fun s' hs'=>⟨rfl,_,hs'⟩⟩
 rintro y s2 ⟨rfl,L,hs2⟩
 rw [outOf_exit]
 simp only [andThen]
 refine TG_norm hs2 ?_
 obtain ⟨L5,hr5⟩:=su_4 s (crcN ws s s.length) ws s.length
 refine TG_ret X8 mo _ (by kernel_rfl) hr5 fun g hg _=>?_
 rw [List.mem_singleton] at hg; subst hg
 exact ⟨all_nil,_,_,_,rfl,rfl⟩
def specSu:List V→Option (List Prop × V)
 | [.str s]=>some ([s.length < 1000000000],.int .u32 (crcI s))
 | _=>none
theorem one_Su:OneW Tryz.prog 99 (pureW specSu):=by
 refine pureW_ok (Nat.le_of_ble_eq_true (by kernel_rfl)) fun args A v e=>?_
 unfold specSu at e
 split at e
 · simp only [Option.some.injEq,Prod.mk.injEq] at e; obtain ⟨rfl,rfl⟩:=e
   exact ⟨rfl,by kernel_rfl,fun hA=>pure_calls mo po Tryz.func99 (by kernel_rfl) (by kernel_rfl) rfl (tgSu _ (hA _ (List.mem_singleton.2 rfl)))⟩
 · cases e
noncomputable abbrev W10:CtrW:=addW 99 (pureW specSu) W9
theorem W10_ok:CtrWOk Tryz.prog W10:=addW_ok one_Su W9_ok
noncomputable abbrev cs10:CallS:=callX Tryz.prog W10 H0 1000 40
noncomputable abbrev X10:CX Tryz.prog:=CX.of mo po W10_ok H0 1000 40
end Go.Proofs.YtfihojpgobmmdaaGreatDoor
namespace Go.Proofs.YtfihojpgobmmdaaGreatDoor
open Go Go.Eng
noncomputable abbrev cdRe:Code:=bodyOf Tryz.f47
noncomputable abbrev tlRe:Code:=tailN 2 cdRe
noncomputable abbrev lpRe:Code:=seqL tlRe
noncomputable abbrev enRe:Code:=seqR tlRe
def sR0 (b:List UInt8) (rs:List (List UInt8)):St:=stG [(1,.lst false rs.length (strs rs)),(5,.str b)] (hL []) 3
def sR1 (b:List UInt8) (rs:List (List UInt8)) (i:Nat):St:=stG [(5,.str b),(16,.lst false rs.length (strs rs)),(17,.int .i64 (Int.ofNat rs.length)),(18,.int .i64 (Int.ofNat i))] (hL []) 3
theorem fr_1 (b:List UInt8):∃ L,RunIs Tryz.prog cs10 [] 1000 3 Tryz.f76 [] (bodyOf Tryz.f76) (startSt [.str b] .nil 3) L
  [([],
   [((0:Int) ≤ (Int.ofNat b.length)∧(Int.ofNat b.length) < (1000000000:Int)),((varB (Int.ofNat b.length)).length+b.length ≤ 9223372036854775807),(b.length < 1000000000),((varB (Int.ofNat b.length) ++ b).length+(put4 (IntKind.i64.wrap (crcI b))).length ≤ 9223372036854775807)],
   .ret (.str (varB (Int.ofNat b.length) ++ b ++ put4 (IntKind.i64.wrap (crcI b)))) (hL []) 3)]
 :=RunIs.of (by kernel_rfl) (by kernel_rfl) (by kernel_rfl)
theorem re_1 (d:List UInt8) (rs:List (List UInt8)):∃ L,RunIs Tryz.prog cs10 [] 1000 3 Tryz.f47 [1,5] (headN 2 cdRe) (startSt [.str d,.lst false rs.length (strs rs)] .nil 3) L
  [([],
   [((0:Int) ≤ (Int.ofNat d.length)∧(Int.ofNat d.length) < (1000000000:Int)),((varB (Int.ofNat d.length)).length+d.length ≤ 9223372036854775807),(1+(varB (Int.ofNat d.length) ++ d).length ≤ 9223372036854775807),((0:Int) ≤ (Int.ofNat rs.length)∧(Int.ofNat rs.length) < (1000000000:Int)),((put1 (1:Int) ++ (varB (Int.ofNat d.length) ++ d)).length+(varB (Int.ofNat rs.length)).length ≤ 9223372036854775807)],
   .to .normal (stG [(1,.lst false (rs.length) (strs rs)),(5,.str (put1 (1:Int) ++ (varB (Int.ofNat d.length) ++ d) ++ varB (Int.ofNat rs.length)))] (hL []) 3))]
 :=RunIs.of (by kernel_rfl) (by kernel_rfl) (by kernel_rfl)
theorem re_2 (b:List UInt8) (rs:List (List UInt8)):∃ L,RunIs Tryz.prog cs10 [(18,.give (.int .i64 (Int.ofNat 0)))] 1000 3 Tryz.f47 [5,16,17,18] (seqL lpRe) (sR0 b rs) L
  [([],
   [(V.int IntKind.i64 (0:Int)=V.int IntKind.i64 (0:Int))],
   .to .normal (stG [(5,.str (b)),(16,.lst false (rs.length) (strs rs)),(17,.int .i64 ((Int.ofNat rs.length))),(18,.int .i64 0)] (hL []) 3))]
 :=RunIs.of (by kernel_rfl) (by kernel_rfl) (by kernel_rfl)
end Go.Proofs.YtfihojpgobmmdaaGreatDoor
namespace Go.Proofs.YtfihojpgobmmdaaGreatDoor
open Go Go.Eng
def txtB (s:List UInt8):List UInt8:=varB (Int.ofNat s.length) ++ s
def frameB (b:List UInt8):List UInt8:=txtB b ++ put4 (IntKind.i64.wrap (crcI b))
def headB (d:List UInt8) (n:Nat):List UInt8:=put1 1 ++ txtB d ++ varB (Int.ofNat n)
def recB (d:List UInt8) (rs:List (List UInt8)):List UInt8:=frameB (headB d rs.length ++ rs.flatten)
def namB (n d:List UInt8):List UInt8:=frameB (put1 2 ++ txtB n ++ txtB d)
theorem txtB_len (s:List UInt8):s.length < (txtB s).length∧(txtB s).length ≤ s.length+5:=by
 have:=varB_len (Int.ofNat s.length)
 unfold txtB; rw [List.length_append]; omega
theorem frameB_len (s:List UInt8):s.length+4 < (frameB s).length∧(frameB s).length ≤ s.length+9:=by
 have:=txtB_len s
 unfold frameB; rw [List.length_append]
 show _ < _+4∧_+4 ≤ _; omega
theorem headB_len (d:List UInt8) (n:Nat):d.length < (headB d n).length∧(headB d n).length ≤ d.length+11:=by
 have:=txtB_len d
 have h2:=varB_len (Int.ofNat n)
 unfold headB; rw [List.length_append,List.length_append]
 show _ < 1+_+_∧1+_+_ ≤ _; omega
theorem recB_len (d:List UInt8) (rs:List (List UInt8)):0 < (recB d rs).length∧(recB d rs).length ≤ d.length+20+rs.flatten.length:=by
 have h:=frameB_len (headB d rs.length ++ rs.flatten)
 have h1:=headB_len d rs.length
 rw [List.length_append] at h
 unfold recB; omega
def specFr:List V→Option (List Prop × V)
 | [.str b]=>some ([b.length < 1000000000],.str (frameB b))
 | _=>none
theorem one_Fr:OneW Tryz.prog 76 (pureW specFr):=by
 refine pureW_ok (Nat.le_of_ble_eq_true (by kernel_rfl)) fun args A v e=>?_
 unfold specFr at e
 split at e
 · rename_i b
   simp only [Option.some.injEq,Prod.mk.injEq] at e; obtain ⟨rfl,rfl⟩:=e
   refine ⟨rfl,by kernel_rfl,fun hA=>?_⟩
   have hb:b.length < 1000000000:=hA _ (List.mem_singleton.2 rfl)
   have hO:∀ n:Nat,Int.ofNat n=(n:Int):=fun _=>rfl
   have h1:=varB_len (Int.ofNat b.length)
   obtain ⟨L,hr⟩:=fr_1 b
   refine pure_calls mo po Tryz.func76 (by kernel_rfl) (by kernel_rfl) rfl (TG_ret X10 mo _ (by kernel_rfl) hr fun g hg _=>?_)
   rw [List.mem_singleton] at hg; subst hg
   refine ⟨?_,_,_,_,rfl,rfl⟩
   repeat' (first | exact all_nil | refine List.forall_mem_cons.2 ⟨?_,?_⟩)
   · exact ⟨Int.natCast_nonneg _,by rw [hO]; omega⟩
   · omega
   · exact hb
   · rw [List.length_append]
     show _+4 ≤ _; omega
 · cases e
noncomputable abbrev W11:CtrW:=addW 76 (pureW specFr) W10
theorem W11_ok:CtrWOk Tryz.prog W11:=addW_ok one_Fr W10_ok
noncomputable abbrev cs11:CallS:=callX Tryz.prog W11 H0 1000 40
noncomputable abbrev X11:CX Tryz.prog:=CX.of mo po W11_ok H0 1000 40
theorem re_3b (b b2:List UInt8) (rs:List (List UInt8)) (p:List UInt8) (i:Nat) (h:b ++ p=b2):∃ L,RunIs Tryz.prog cs11 [(19,.split),(20,.give (.fptr [.str p])),(25,.give (.int .i64 (Int.ofNat (i+1))))] 1000 3 Tryz.f47 [5,16,17,18] (inner (inner (seqR lpRe))) (sR1 b rs i) L
  [([((decide (Int.ofNat i < Int.ofNat rs.length)),true)],
   [((0:Int) ≤ Int.ofNat i∧Int.ofNat i < (Int.ofNat rs.length)),((strs rs).length=rs.length * 1),(V.fptr (cellsAt (strs rs) ((Int.ofNat i).toNat * 1) 1)=V.fptr [D.str p]),(b.length+p.length ≤ 9223372036854775807),ieq (Int.ofNat i+1) (i+1)],
   .to .normal (sR1 b2 rs (i+1))),
  ([((decide (Int.ofNat i < Int.ofNat rs.length)),false)],[],.to (.exit 0) (sR1 b rs i))]:=by
 subst h
 exact RunIs.of (by kernel_rfl) (by kernel_rfl) (by kernel_rfl)
theorem re_4 (b:List UInt8) (rs:List (List UInt8)) (i:Nat):∃ L,RunIs Tryz.prog cs11 [] 1000 3 Tryz.f47 [] enRe (sR1 b rs i) L [([],[b.length < 1000000000],.ret (.str (frameB b)) (hL []) 3)]:=
 RunIs.of (by kernel_rfl) (by kernel_rfl) (by kernel_rfl)
theorem flat_take {rs:List (List UInt8)} {i:Nat} {p:List UInt8} (h:rs[i]? =some p):(rs.take (i+1)).flatten=(rs.take i).flatten ++ p:=by
 rw [List.take_add_one,h,List.flatten_append]; simp
theorem flat_le (rs:List (List UInt8)) (i:Nat):(rs.take i).flatten.length ≤ rs.flatten.length:=by
 have:rs.flatten=(rs.take i).flatten ++ (rs.drop i).flatten:=by
  rw [← List.flatten_append,List.take_append_drop]
 rw [this,List.length_append]; omega
set_option maxRecDepth 20000 in
theorem tgRe (d:List UInt8) (rs:List (List UInt8)) (hd:d.length ≤ 100000000) (hrs:rs.length ≤ 1000000) (hf:rs.flatten.length ≤ 100000000):TG Tryz.prog 3 Tryz.f47.ntmps cdRe (startSt [.str d,.lst false rs.length (strs rs)] .nil 3)
  (RetG Tryz.prog 3 Tryz.f47 fun u _ _=>u= .str (recB d rs)):=by
 have hO:∀ n:Nat,Int.ofNat n=(n:Int):=fun _=>rfl
 have hh:=headB_len d rs.length
 obtain ⟨L1,hr1⟩:=re_1 d rs
 refine TG_isN1 2 X10 mo (by kernel_rfl) hr1 ?_ ?_
 · have h1:=varB_len (Int.ofNat d.length)
   have h2:=varB_len (Int.ofNat rs.length)
   repeat' (first | exact all_nil | refine List.forall_mem_cons.2 ⟨?_,?_⟩)
   · exact ⟨Int.natCast_nonneg _,by rw [hO]; omega⟩
   · omega
   · rw [List.length_append]; omega
   · exact ⟨Int.natCast_nonneg _,by rw [hO]; omega⟩
   · rw [List.length_append,List.length_append]
     show 1+_+_ ≤ _; omega
 show TG Tryz.prog 3 Tryz.f47.ntmps tlRe (sR0 (headB d rs.length) rs) _
 unfold recB
 generalize headB d rs.length=hb at hh ⊢
 refine TG_seq' (by kernel_rfl) ?_
 refine TG_seq' (by kernel_rfl) ?_
 obtain ⟨L2,hr2⟩:=re_2 hb rs
 refine TG_is X10 mo anyR (by kernel_rfl) hr2 fun g hg _=>?_
 rw [List.mem_singleton] at hg; subst hg
 refine ⟨fun p hp=>by rw [List.mem_singleton] at hp; subst hp; rfl,fun s' hs'=>?_⟩
 have hs':normG 3 [5,16,17,18] s'=some (sR1 (hb ++ (rs.take 0).flatten) rs 0):=by rw [hs']; simp; rfl
 refine TG_block (i:=0) (by kernel_rfl) (TG_mono (Q1:=fun z s'=>z= .exit 0∧∃ L,normG 3 L s'=some (sR1 (hb ++ rs.flatten) rs rs.length)) (TG_loop_inv (fun k' s=>∃ i,k'=rs.length - i∧i ≤ rs.length∧∃ L,normG 3 L s=some (sR1 (hb ++ (rs.take i).flatten) rs i)) (by kernel_rfl) ?_ rs.length ⟨0,rfl,Nat.zero_le _,_,hs'⟩) ?_)
 · rintro k' s1 ⟨i,hk,hi,L,hs1⟩
   refine TG_norm hs1 ?_
   rcases Nat.lt_or_ge i rs.length with hlt | hge
   · obtain ⟨p,hp⟩:∃ p,rs[i]? =some p:=⟨_,List.getElem?_eq_getElem hlt⟩
     have hfl:=flat_le rs (i+1)
     rw [flat_take hp,List.length_append] at hfl
     obtain ⟨L3,hr3⟩:=re_3b (hb ++ (rs.take i).flatten) (hb ++ (rs.take (i+1)).flatten) rs p i (by rw [flat_take hp,List.append_assoc])
     refine TG_is X11 mo anyR (by kernel_rfl) hr3 fun g hg hc=>?_
     simp only [List.mem_cons,List.not_mem_nil,or_false] at hg
     rcases hg with rfl | rfl
     · refine ⟨?_,fun s' hs'=>⟨rs.length - (i+1),by omega,i+1,rfl,by omega,_,hs'⟩⟩
       repeat' (first | exact all_nil | refine List.forall_mem_cons.2 ⟨?_,?_⟩)
       · exact ⟨Int.natCast_nonneg _,by rw [hO,hO]; omega⟩
       · rw [strs_len,Nat.mul_one]
       · exact congrArg V.fptr (cellsAt_strs hp)
       · rw [List.length_append]; omega
       · exact ieq_ok (by rw [hO]; omega) (by omega)
     · exact absurd (of_decide_eq_false (hc _ (List.mem_singleton.2 rfl))) (by rw [hO,hO]; omega)
   · obtain rfl:i=rs.length:=by omega
     obtain ⟨L3,hr3⟩:=re_3b (hb ++ (rs.take rs.length).flatten) _ rs [] rs.length rfl
     refine TG_is X11 mo anyR (by kernel_rfl) hr3 fun g hg hc=>?_
     simp only [List.mem_cons,List.not_mem_nil,or_false] at hg
     rcases hg with rfl | rfl
     · exact absurd (of_decide_eq_true (hc _ (List.mem_singleton.2 rfl))) (by rw [hO]; omega)
     · refine ⟨all_nil,fun s' hs'=>⟨rfl,[5,16,17,18],?_⟩⟩
       rw [hs',List.take_length]
 rintro y s2 ⟨rfl,L,hs2⟩
 rw [outOf_exit]
 simp only [andThen]
 refine TG_norm hs2 ?_
 obtain ⟨L5,hr5⟩:=re_4 (hb ++ rs.flatten) rs rs.length
 refine TG_ret X11 mo _ (by kernel_rfl) hr5 fun g hg _=>?_
 rw [List.mem_singleton] at hg; subst hg
 refine ⟨fun p hp=>?_,_,_,_,rfl,rfl⟩
 rw [List.mem_singleton] at hp; subst hp
 rw [List.length_append]; omega
def specRc:List D→Option (List Prop × V)
 | [.str d,.lst n cs]=>some ([cs=strs (strL cs),n=(strL cs).length,d.length ≤ 100000000,n ≤ 1000000,(strL cs).flatten.length ≤ 100000000],.str (recB d (strL cs)))
 | _=>none
theorem one_Rc:OneW Tryz.prog 47 (dW specRc):=by
 refine dW_ok (Nat.le_of_ble_eq_true (by kernel_rfl)) fun args A v e hA=>?_
 unfold specRc at e
 split at e
 case h_2=>cases e
 rename_i d n cs
 simp only [Option.some.injEq,Prod.mk.injEq] at e
 obtain ⟨rfl,rfl⟩:=e
 have e1:cs=strs (strL cs):=hA _ (by simp)
 have e2:n=(strL cs).length:=hA (n=(strL cs).length) (by simp)
 have e3:d.length ≤ 100000000:=hA (d.length ≤ 100000000) (by simp)
 have e4:n ≤ 1000000:=hA (n ≤ 1000000) (by simp)
 have e5:(strL cs).flatten.length ≤ 100000000:=hA ((strL cs).flatten.length ≤ 100000000) (by simp)
 generalize strL cs=ps at *
 subst e1 e2
 exact deep_calls mo po Tryz.func47 (by kernel_rfl) (by kernel_rfl) rfl rfl (TG_mono (tgRe d ps e3 e4 e5) fun y s h=>RetG_self h)
def specNm:List V→Option (List Prop × V)
 | [.str n,.str d]=>some ([n.length < 100000000,d.length < 100000000],.str (namB n d))
 | _=>none
theorem nm_1 (n d:List UInt8):∃ L,RunIs Tryz.prog cs11 [] 1000 3 Tryz.f49 [] (bodyOf Tryz.f49) (startSt [.str n,.str d] .nil 3) L
  [([],[0 ≤ Int.ofNat n.length∧Int.ofNat n.length < 1000000000,(varB (Int.ofNat n.length)).length+n.length ≤ 9223372036854775807,1+(varB (Int.ofNat n.length) ++ n).length ≤ 9223372036854775807,0 ≤ Int.ofNat d.length∧Int.ofNat d.length < 1000000000,(varB (Int.ofNat d.length)).length+d.length ≤ 9223372036854775807,(put1 2 ++ (varB (Int.ofNat n.length) ++ n)).length+(varB (Int.ofNat d.length) ++ d).length ≤ 9223372036854775807,(put1 2 ++ (varB (Int.ofNat n.length) ++ n) ++ (varB (Int.ofNat d.length) ++ d)).length < 1000000000],.ret (.str (namB n d)) (hL []) 3)]:=
 RunIs.of (by kernel_rfl) (by kernel_rfl) (by kernel_rfl)
theorem one_Nm:OneW Tryz.prog 49 (pureW specNm):=by
 refine pureW_ok (Nat.le_of_ble_eq_true (by kernel_rfl)) fun args A v e=>?_
 unfold specNm at e
 split at e
 · rename_i n d
   simp only [Option.some.injEq,Prod.mk.injEq] at e; obtain ⟨rfl,rfl⟩:=e
   refine ⟨rfl,by kernel_rfl,fun hA=>?_⟩
   have hn:n.length < 100000000:=hA _ (by simp)
   have hd:d.length < 100000000:=hA (d.length < 100000000) (by simp)
   have hO:∀ n:Nat,Int.ofNat n=(n:Int):=fun _=>rfl
   have h1:=varB_len (Int.ofNat n.length)
   have h2:=varB_len (Int.ofNat d.length)
   obtain ⟨L,hr⟩:=nm_1 n d
   refine pure_calls mo po Tryz.func49 (by kernel_rfl) (by kernel_rfl) rfl (TG_ret X11 mo _ (by kernel_rfl) hr fun g hg _=>?_)
   rw [List.mem_singleton] at hg; subst hg
   refine ⟨?_,_,_,_,rfl,rfl⟩
   have e1:(put1 2).length=1:=rfl
   repeat' (first | exact all_nil | refine List.forall_mem_cons.2 ⟨?_,?_⟩)
   · exact ⟨Int.natCast_nonneg _,by rw [hO]; omega⟩
   · omega
   · rw [List.length_append]; omega
   · exact ⟨Int.natCast_nonneg _,by rw [hO]; omega⟩
   · omega
   · simp only [List.length_append,e1]; omega
   · simp only [List.length_append,e1]; omega
 · cases e
noncomputable abbrev W12:CtrW:=addW 49 (pureW specNm) (addW 47 (dW specRc) W11)
theorem W12_ok:CtrWOk Tryz.prog W12:=addW_ok one_Nm (addW_ok one_Rc W11_ok)
noncomputable abbrev cs12:CallS:=callX Tryz.prog W12 H0 1000 40
noncomputable abbrev X12:CX Tryz.prog:=CX.of mo po W12_ok H0 1000 40
end Go.Proofs.YtfihojpgobmmdaaGreatDoor
