/- The Doc laws: the program; octet.Put and what it calls. No conditions. -/
import Derived.Test.YtmjggdmekboefaaGreatDoorProg
import Derived.Test.YtmjggdmekboefaaGreatDoorJointFive
import Derived.Test.YtmjggdmekboefaaGreatDoorJointFour
import Derived.Shelf.Strings.Repeat
set_option linter.unusedVariables false
set_option linter.unusedSimpArgs false
set_option linter.unusedSectionVars false
namespace Go.Proofs.YtmjggdmekboefaaGreatDoor.Sha
open Go.Proofs.YtmjggdmekboefaaGreatDoor Go Go.Eng
theorem po:progOk Tryz.prog=true:=by kernel_rfl
theorem mo:Tryz.prog.follows .mixedOrders=true:=by kernel_rfl
noncomputable def bodyOf (f:Func):Code:=match f.body with | some c=>c | none=>.skip
abbrev H0:FuncId→List (Nat × Fix):=fun _=>[]
noncomputable abbrev cs0:CallS:=callX Tryz.prog noW H0 1000 40
noncomputable abbrev X0:CX Tryz.prog:=CX.of mo po (noW_ok _) H0 1000 40
section
variable {n0 N:Nat} {c:Code} {s:St} {Q:Exit→St→Prop} {H:List (Nat × Fix)} {fn:Func} {live:List Nat} {G:List (List (Bool × Bool) × List Prop × ResG)}
abbrev RunE (cs:CallS) (H:List (Nat × Fix)) (n0:Nat) (fn:Func) (live:List Nat) (c:Code) (s:St) (G:List (List (Bool × Bool) × List Prop × ResG)):Prop:=∃ L,RunIs Tryz.prog cs H 1000 n0 fn live c s L G
theorem isE (X:CX Tryz.prog) (hr:RunE X.cs H n0 fn live c s G) (h:∀ g ∈ G,(∀ b ∈ g.1,b.1=b.2)→(∀ a ∈ g.2.1,a)∧g.2.2.post Tryz.prog n0 fn live anyR Q) (hc:codeOk N c=true:=by kernel_rfl):TG Tryz.prog n0 N c s Q:=
 hr.elim fun _ hr=>TG_is X mo anyR hc hr h
theorem isE1 (k:Nat) (X:CX Tryz.prog) {A:List Prop} {s1:St} (hr:RunE X.cs H n0 fn live (headN k c) s [([],A,.to .normal s1)]) (hA:∀ a ∈ A,a) (h:TG Tryz.prog n0 N (tailN k c) s1 Q) (hc:codeOk N c=true:=by kernel_rfl):TG Tryz.prog n0 N c s Q:=
 hr.elim fun _ hr=>TG_isN1 k X mo hc hr hA h
theorem retE {R:V→Tr O→Nat→Prop} (X:CX Tryz.prog) (hr:RunE X.cs H n0 fn live c s G) (h:∀ g ∈ G,(∀ b ∈ g.1,b.1=b.2)→(∀ a ∈ g.2.1,a)∧∃ v h n,g.2.2= .ret v h n∧R v h n) (hc:codeOk N c=true:=by kernel_rfl):TG Tryz.prog n0 N c s (RetG Tryz.prog n0 fn R):=
 hr.elim fun _ hr=>TG_ret X mo R hc hr h
end
end Go.Proofs.YtmjggdmekboefaaGreatDoor.Sha
namespace Go.Proofs.YtmjggdmekboefaaGreatDoor.Sha
open Go Go.Eng
abbrev w32 (x:Int):Int:=IntKind.u32.wrap x
def orI (a b:Int):Int:=w32 ↑(BitVec.ofInt 32 a ||| BitVec.ofInt 32 b).toNat
def xorI (a b:Int):Int:=w32 ↑(BitVec.ofInt 32 a ^^^ BitVec.ofInt 32 b).toNat
def rotI (m d x:Int):Int:=orI (w32 (x * m)) (x.fdiv d)
abbrev gW (ws:List Int) (i:Nat):Int:=ws.getD (0+i * 1) 0
def sg0 (x:Int):Int:=xorI (xorI (rotI 33554432 128 x) (rotI 16384 262144 x)) (x.fdiv 8)
def sg1 (x:Int):Int:=xorI (xorI (rotI 32768 131072 x) (rotI 8192 524288 x)) (x.fdiv 1024)
def nextW (ws:List Int) (i:Nat):Int:=w32 (w32 (w32 (gW ws (i - 16)+sg0 (gW ws (i - 15)))+gW ws (i - 7))+sg1 (gW ws (i - 2)))
abbrev byI (b:List UInt8) (i:Nat):Int:=w32 ↑(b.getD i 0).toNat
def wordB (b:List UInt8) (i:Nat):Int:=orI (orI (orI (w32 (byI b (i * 4) * 16777216)) (w32 (byI b (i * 4+1) * 65536))) (w32 (byI b (i * 4+2) * 256))) (byI b (i * 4+3))
noncomputable abbrev cdSc:Code:=bodyOf Tryz.f92
noncomputable abbrev tlSc:Code:=tailN 1 cdSc
noncomputable abbrev l1Sc:Code:=seqL tlSc
noncomputable abbrev lo1Sc:Code:=inner (seqR l1Sc)
noncomputable abbrev t2Sc:Code:=seqR tlSc
noncomputable abbrev l2Sc:Code:=seqL t2Sc
noncomputable abbrev loSc:Code:=inner (seqR l2Sc)
noncomputable abbrev enSc:Code:=seqR t2Sc
section
variable (b:List UInt8) (ws:List Int) (i:Nat)
def zW:O:=.cells (List.replicate 64 (.int .u32 0))
def sS0 (o:O):St:=stG [(0,.str b),(2,.ptr (some (3,0)))] (hL [(3,o)]) 4
def sSA:St:=stG [(0,.str b),(2,.ptr (some (3,0))),(9,.int .i64 (Int.ofNat i))] (hL [(3,.own .u32 ws)]) 4
def sSB:St:=stG [(2,.ptr (some (3,0))),(4,.int .i64 (Int.ofNat i))] (hL [(3,.own .u32 ws)]) 4
theorem sc_1:RunIs Tryz.prog cs0 [] 1000 3 Tryz.f92 [0,2] (headN 1 cdSc) (startSt [.str b] .nil 3) [] [([],[],.to .normal (sS0 b zW))]:=by
 unfold RunIs; kernel_rfl
theorem sc_own:ownS [(3,.u32)] (sS0 b zW)=some (sS0 b (.own .u32 (List.replicate 64 0))):=by kernel_rfl
theorem sc_2:RunIs Tryz.prog cs0 [] 1000 3 Tryz.f92 [0,2,9] (seqL l1Sc) (sS0 b (.own .u32 ws)) [] [([],[],.to .normal (sSA b ws 0))]:=by
 unfold RunIs; kernel_rfl
abbrev ieq (x:Int) (n:Nat):Prop:=V.int .i64 (IntKind.i64.wrap x)=V.int .i64 (Int.ofNat n)
abbrev ibd (n l:Nat):Prop:=0 ≤ Int.ofNat n∧n < l
abbrev iN (n:Nat):Prop:=0 ≤ Int.ofNat n∧Int.ofNat n < 64
def scA:List Prop:=[ieq (Int.ofNat i * 4) (i * 4),ibd (i * 4) b.length,ieq (Int.ofNat i * 4) (i * 4),ieq (Int.ofNat (i * 4)+1) (i * 4+1),ibd (i * 4+1) b.length,ieq (Int.ofNat i * 4) (i * 4),ieq (Int.ofNat (i * 4)+2) (i * 4+2),ibd (i * 4+2) b.length,ieq (Int.ofNat i * 4) (i * 4),ieq (Int.ofNat (i * 4)+3) (i * 4+3),ibd (i * 4+3) b.length,
 iN i,0+i * 1+1 ≤ ws.length,ieq (Int.ofNat i+1) (i+1)]
theorem sc_3:RunIs Tryz.prog cs0 [(10,.split),(15,.give (.int .i64 (Int.ofNat (i * 4)))),(21,.give (.int .i64 (Int.ofNat (i * 4)))),(22,.give (.int .i64 (Int.ofNat (i * 4+1)))),(29,.give (.int .i64 (Int.ofNat (i * 4)))),(30,.give (.int .i64 (Int.ofNat (i * 4+2)))),(37,.give (.int .i64 (Int.ofNat (i * 4)))),(38,.give (.int .i64 (Int.ofNat (i * 4+3)))),(43,.give (.int .i64 (Int.ofNat (i+1))))] 1000 3 Tryz.f92 [0,2,9] (inner lo1Sc) (sSA b ws i) []
  [([(decide (Int.ofNat i < 16),true)],scA b ws i,.to .normal (sSA b (putI ws (0+i * 1) [wordB b i]) (i+1))),([(decide (Int.ofNat i < 16),false)],[],.to (.exit 0) (sSA b ws i))]:=by
 unfold RunIs; kernel_rfl
theorem sc_4:RunIs Tryz.prog cs0 [(4,.give (.int .i64 (Int.ofNat 16)))] 1000 3 Tryz.f92 [2,4] (seqL l2Sc) (sSA b ws i) [] [([],[V.int .i64 16=V.int .i64 16],.to .normal (sSB ws 16))]:=by
 unfold RunIs; kernel_rfl
def scB:List Prop:=[ieq (Int.ofNat i - 15) (i - 15),iN (i - 15),0+(i - 15) * 1 < ws.length,ieq (Int.ofNat i - 2) (i - 2),iN (i - 2),0+(i - 2) * 1 < ws.length,ieq (Int.ofNat i - 16) (i - 16),iN (i - 16),0+(i - 16) * 1 < ws.length,ieq (Int.ofNat i - 7) (i - 7),iN (i - 7),0+(i - 7) * 1 < ws.length,
 iN i,0+i * 1+1 ≤ ws.length,ieq (Int.ofNat i+1) (i+1)]
theorem sc_5:RunIs Tryz.prog cs0 [(45,.split),(49,.give (.int .i64 (Int.ofNat (i - 15)))),(53,.give (.int .i64 (Int.ofNat (i - 2)))),(74,.give (.int .i64 (Int.ofNat (i - 16)))),(80,.give (.int .i64 (Int.ofNat (i - 7)))),(47,.give (.int .i64 (Int.ofNat (i+1))))] 1000 3 Tryz.f92 [2,4] (inner loSc) (sSB ws i) []
  [([(decide (Int.ofNat i < 64),true)],scB ws i,.to .normal (sSB (putI ws (0+i * 1) [nextW ws i]) (i+1))),([(decide (Int.ofNat i < 64),false)],[],.to (.exit 2) (sSB ws i))]:=by
 unfold RunIs; kernel_rfl
def schV:V:=.agg ((List.range 64).map fun j=>.int .u32 (ws.getD j 0))
theorem sc_6:RunIs Tryz.prog cs0 [] 1000 3 Tryz.f92 [] enSc (sSB ws i) [] [([],[64 ≤ ws.length,64 ≤ ws.length],.ret (schV ws) (hL []) 3)]:=by
 unfold RunIs; kernel_rfl
end
end Go.Proofs.YtmjggdmekboefaaGreatDoor.Sha
namespace Go.Proofs.YtmjggdmekboefaaGreatDoor.Sha
open Go Go.Eng
theorem outOf_exit {i:Nat} {Q:Exit→St→Prop} {s:St}:outOf i Q (.exit i) s=Q .normal s:=by simp [outOf]
theorem putI_len {px:List Int} {o:Nat} {l:List Int} (h:o+l.length ≤ px.length):(putI px o l).length=px.length:=by
 unfold putI
 simp only [List.length_append,List.length_take,List.length_drop]
 omega
theorem wrap_id {x:Int} (h1:-9000000000000000000 ≤ x) (h2:x ≤ 9000000000000000000):IntKind.i64.wrap x=x:=by
 unfold IntKind.wrap
 have e1:(2 ^ IntKind.i64.bits:Int)=18446744073709551616:=by decide
 have e2:(2 ^ (IntKind.i64.bits - 1):Int)=9223372036854775808:=by decide
 have e3:IntKind.i64.signed=true:=rfl
 simp only [e1,e2,e3,Bool.true_and,decide_eq_true_eq]
 split <;> omega
theorem ieq_ok {x:Int} {n:Nat} (h:x=(n:Int)) (hb:n < 1000000000000):ieq x n:=by
 unfold ieq
 rw [wrap_id (by omega) (by omega),h]; rfl
def scW (b:List UInt8):Nat→List Int
 | 0=>List.replicate 64 0
 | i+1=>putI (scW b i) (0+i * 1) [wordB b i]
theorem scW_len (b:List UInt8):∀ i,i ≤ 16→(scW b i).length=64
 | 0,_=>List.length_replicate ..
 | i+1,h=>by
   have ih:=scW_len b i (by omega)
   show (putI (scW b i) (0+i * 1) [wordB b i]).length=64
   rw [putI_len (by simp only [List.length_cons,List.length_nil]; omega),ih]
def scX (b:List UInt8):Nat→List Int
 | 0=>scW b 16
 | j+1=>putI (scX b j) (0+(16+j) * 1) [nextW (scX b j) (16+j)]
theorem scX_len (b:List UInt8):∀ j,j ≤ 48→(scX b j).length=64
 | 0,_=>scW_len b 16 (Nat.le_refl _)
 | j+1,h=>by
   have ih:=scX_len b j (by omega)
   show (putI (scX b j) (0+(16+j) * 1) [nextW (scX b j) (16+j)]).length=64
   rw [putI_len (by simp only [List.length_cons,List.length_nil]; omega),ih]
set_option maxRecDepth 20000 in
theorem tgSc (b:List UInt8) (hb:64 ≤ b.length):TG Tryz.prog 3 Tryz.f92.ntmps cdSc (startSt [.str b] .nil 3) (RetG Tryz.prog 3 Tryz.f92 fun u _ _=>u=schV (scX b 48)):=by
 have hO:∀ n:Nat,Int.ofNat n=(n:Int):=fun _=>rfl
 refine TG_isN1 1 X0 mo (by kernel_rfl) (sc_1 b) (by simp) ?_
 refine TG_own _ (sc_own b) ?_
 show TG Tryz.prog 3 Tryz.f92.ntmps tlSc _ _
 refine TG_seq' (by kernel_rfl) ?_
 refine TG_isSeq X0 mo anyR (by kernel_rfl) (by kernel_rfl) (sc_2 b _) fun g hg _=>?_
 rw [List.mem_singleton] at hg; subst hg
 refine ⟨by simp,fun s' hs'=>?_⟩
 refine TG_block (i:=0) (by kernel_rfl) (TG_mono (Q1:=fun z s'=>z= .exit 0∧∃ L,normG 3 L s'=some (sSA b (scW b 16) 16)) (TG_loop_inv (fun k' s=>∃ i,k'=16 - i∧i ≤ 16∧∃ L,normG 3 L s=some (sSA b (scW b i) i)) (by kernel_rfl) ?_ 16 ⟨0,rfl,Nat.zero_le _,_,hs'⟩) ?_)
 · rintro k' s ⟨i,hk,hi,L,hs⟩
   refine TG_norm hs ?_
   refine TG_is X0 mo anyR (by kernel_rfl) (sc_3 b (scW b i) i) fun g hg hc=>?_
   simp only [List.mem_cons,List.not_mem_nil,or_false] at hg
   rcases hg with rfl | rfl
   · have hlt:i < 16:=by
      have:=of_decide_eq_true (hc _ (List.mem_singleton.2 rfl))
      rw [hO] at this; omega
     refine ⟨fun p hp=>?_,fun s' hs'=>⟨16 - (i+1),by omega,i+1,rfl,by omega,[0,2,9],hs'⟩⟩
     have hl:=scW_len b i (by omega)
     simp only [scA,List.mem_cons,List.not_mem_nil,or_false] at hp
     rcases hp with rfl | rfl | rfl | rfl | rfl | rfl | rfl | rfl | rfl | rfl | rfl | rfl | rfl | rfl
     · exact ieq_ok (by rw [hO]; omega) (by omega)
     · exact ⟨Int.natCast_nonneg _,by omega⟩
     · exact ieq_ok (by rw [hO]; omega) (by omega)
     · exact ieq_ok (by rw [hO]; omega) (by omega)
     · exact ⟨Int.natCast_nonneg _,by omega⟩
     · exact ieq_ok (by rw [hO]; omega) (by omega)
     · exact ieq_ok (by rw [hO]; omega) (by omega)
     · exact ⟨Int.natCast_nonneg _,by omega⟩
     · exact ieq_ok (by rw [hO]; omega) (by omega)
     · exact ieq_ok (by rw [hO]; omega) (by omega)
     · exact ⟨Int.natCast_nonneg _,by omega⟩
     · exact ⟨Int.natCast_nonneg _,by rw [hO]; omega⟩
     · omega
     · exact ieq_ok (by rw [hO]; omega) (by omega)
   · have hge:¬ i < 16:=by
      have:=of_decide_eq_false (hc _ (List.mem_singleton.2 rfl))
      rw [hO] at this; omega
     obtain rfl:i=16:=by omega
     exact ⟨by simp,fun s' hs'=>⟨rfl,_,hs'⟩⟩
 rintro y s2 ⟨rfl,L,hs2⟩
 rw [outOf_exit]
 simp only [andThen]
 refine TG_norm hs2 ?_
 show TG Tryz.prog 3 Tryz.f92.ntmps t2Sc _ _
 refine TG_seq' (by kernel_rfl) ?_
 refine TG_isSeq X0 mo anyR (by kernel_rfl) (by kernel_rfl) (sc_4 b _ 16) fun g hg _=>?_
 rw [List.mem_singleton] at hg; subst hg
 refine ⟨fun p hp=>by rw [List.mem_singleton] at hp; subst hp; rfl,fun s' hs'=>?_⟩
 refine TG_block (i:=2) (by kernel_rfl) (TG_mono (Q1:=fun z s'=>z= .exit 2∧∃ L,normG 3 L s'=some (sSB (scX b 48) 64)) (TG_loop_inv (fun k' s=>∃ j,k'=48 - j∧j ≤ 48∧∃ L,normG 3 L s=some (sSB (scX b j) (16+j))) (by kernel_rfl) ?_ 48 ⟨0,rfl,Nat.zero_le _,_,hs'⟩) ?_)
 · rintro k' s ⟨j,hk,hj,L,hs⟩
   refine TG_norm hs ?_
   refine TG_is X0 mo anyR (by kernel_rfl) (sc_5 (scX b j) (16+j)) fun g hg hc=>?_
   simp only [List.mem_cons,List.not_mem_nil,or_false] at hg
   rcases hg with rfl | rfl
   · have hlt:j < 48:=by
      have:=of_decide_eq_true (hc _ (List.mem_singleton.2 rfl))
      rw [hO] at this; omega
     refine ⟨fun p hp=>?_,fun s' hs'=>⟨48 - (j+1),by omega,j+1,rfl,by omega,[2,4],hs'⟩⟩
     have hl:=scX_len b j (by omega)
     simp only [scB,List.mem_cons,List.not_mem_nil,or_false] at hp
     rcases hp with rfl | rfl | rfl | rfl | rfl | rfl | rfl | rfl | rfl | rfl | rfl | rfl | rfl | rfl | rfl
     · exact ieq_ok (by rw [hO]; omega) (by omega)
     · exact ⟨Int.natCast_nonneg _,by rw [hO]; omega⟩
     · omega
     · exact ieq_ok (by rw [hO]; omega) (by omega)
     · exact ⟨Int.natCast_nonneg _,by rw [hO]; omega⟩
     · omega
     · exact ieq_ok (by rw [hO]; omega) (by omega)
     · exact ⟨Int.natCast_nonneg _,by rw [hO]; omega⟩
     · omega
     · exact ieq_ok (by rw [hO]; omega) (by omega)
     · exact ⟨Int.natCast_nonneg _,by rw [hO]; omega⟩
     · omega
     · exact ⟨Int.natCast_nonneg _,by rw [hO]; omega⟩
     · omega
     · exact ieq_ok (by rw [hO]; omega) (by omega)
   · have hge:¬ j < 48:=by
      have:=of_decide_eq_false (hc _ (List.mem_singleton.2 rfl))
      rw [hO] at this; omega
     obtain rfl:j=48:=by omega
     exact ⟨by simp,fun s' hs'=>⟨rfl,_,hs'⟩⟩
 · rintro y s2 ⟨rfl,L,hs2⟩
   rw [outOf_exit]
   simp only [andThen]
   refine TG_norm hs2 ?_
   refine TG_ret X0 mo _ (by kernel_rfl) (sc_6 (scX b 48) 64) fun g hg _=>?_
   rw [List.mem_singleton] at hg; subst hg
   have hl:=scX_len b 48 (Nat.le_refl _)
   refine ⟨fun p hp=>?_,_,_,_,rfl,rfl⟩
   simp only [List.mem_cons,List.not_mem_nil,or_false] at hp
   rcases hp with rfl | rfl <;> omega
end Go.Proofs.YtmjggdmekboefaaGreatDoor.Sha
namespace Go.Proofs.YtmjggdmekboefaaGreatDoor.Sha
open Go Go.Eng
def specSc:List V→Option (List Prop × V)
 | [.str b]=>some ([64 ≤ b.length],schV (scX b 48))
 | _=>none
theorem one_Sc:OneW Tryz.prog 92 (pureW specSc):=by
 refine pureW_ok (Nat.le_of_ble_eq_true (by kernel_rfl)) fun args A v e=>?_
 unfold specSc at e
 split at e
 · simp only [Option.some.injEq,Prod.mk.injEq] at e; obtain ⟨rfl,rfl⟩:=e
   exact ⟨rfl,by kernel_rfl,fun hA=>pure_calls mo po Tryz.func92 (by kernel_rfl) (by kernel_rfl) rfl (tgSc _ (hA _ (by simp)))⟩
 · cases e
noncomputable abbrev W1:CtrW:=addW 92 (pureW specSc) noW
theorem W1_ok:CtrWOk Tryz.prog W1:=addW_ok one_Sc (noW_ok _)
noncomputable abbrev cs1:CallS:=callX Tryz.prog W1 H0 1000 40
noncomputable abbrev X1:CX Tryz.prog:=CX.of mo po W1_ok H0 1000 40
end Go.Proofs.YtmjggdmekboefaaGreatDoor.Sha
namespace Go.Proofs.YtmjggdmekboefaaGreatDoor.Sha
open Go Go.Eng
def andI (a b:Int):Int:=w32 ↑(BitVec.ofInt 32 a &&& BitVec.ofInt 32 b).toNat
abbrev E8:=Int × Int × Int × Int × Int × Int × Int × Int
def bS1 (e:Int):Int:=xorI (xorI (rotI 67108864 64 e) (rotI 2097152 2048 e)) (rotI 128 33554432 e)
def bS0 (a:Int):Int:=xorI (xorI (rotI 1073741824 4 a) (rotI 524288 8192 a)) (rotI 1024 4194304 a)
def chI (e f g:Int):Int:=xorI (andI e f) (andI (xorI 4294967295 e) g)
def maI (a b c:Int):Int:=xorI (xorI (andI a b) (andI a c)) (andI b c)
def rdX (rd ws:List Int) (i:Nat):E8→Int
 | (_,_,_,_,e,f,g,h)=>w32 (w32 (w32 (w32 (h+bS1 e)+chI e f g)+gW rd i)+gW ws i)
def rndE (rd ws:List Int) (i:Nat):E8→E8
 | (a,b,c,d,e,f,g,h)=>(w32 (rdX rd ws i (a,b,c,d,e,f,g,h)+w32 (bS0 a+maI a b c)),a,b,c,w32 (d+rdX rd ws i (a,b,c,d,e,f,g,h)),e,f,g)
def c8 (q:E8):List V:=[.int .u32 q.1,.int .u32 q.2.1,.int .u32 q.2.2.1,.int .u32 q.2.2.2.1,.int .u32 q.2.2.2.2.1,.int .u32 q.2.2.2.2.2.1,.int .u32 q.2.2.2.2.2.2.1,.int .u32 q.2.2.2.2.2.2.2]
def add8:E8→E8→E8
 | (a,b,c,d,e,f,g,h),(a',b',c',d',e',f',g',h')=>(w32 (a+a'),w32 (b+b'),w32 (c+c'),w32 (d+d'),w32 (e+e'),w32 (f+f'),w32 (g+g'),w32 (h+h'))
noncomputable abbrev cdCm:Code:=bodyOf Tryz.f61
noncomputable abbrev tlCm:Code:=tailN 3 cdCm
noncomputable abbrev lpCm:Code:=seqL tlCm
noncomputable abbrev loCm:Code:=inner (seqR lpCm)
noncomputable abbrev enCm:Code:=seqR tlCm
def w64L (ws:List Int):List Int:=(List.range 64).map fun j=>ws.getD j 0
section
variable (rd ws:List Int) (a b c d e f g h a' b' c' d' e' f' g' h':Int) (i:Nat)
def frCm:List (Nat × V):=[(2,.ptr (some (3,0))),(4,.ptr (some (4,0))),(5,.ptr (some (5,0))),(6,.ptr (some (6,0)))]
def sC0 (o:O):St:=stG frCm (hL [(1,.ints .u32 rd),(3,.cells (c8 (a,b,c,d,e,f,g,h))),(4,.cells (c8 (0,0,0,0,0,0,0,0))),(5,o),(6,.cells (c8 (a',b',c',d',e',f',g',h')))]) 7
def sCi:St:=stG (frCm ++ [(18,.int .i64 (Int.ofNat i))]) (hL [(1,.ints .u32 rd),(3,.cells (c8 (a,b,c,d,e,f,g,h))),(4,.cells (c8 (0,0,0,0,0,0,0,0))),(5,.own .u32 ws),(6,.cells (c8 (a',b',c',d',e',f',g',h')))]) 7
theorem cm_1 (s:List UInt8):RunIs Tryz.prog cs1 [] 1000 3 Tryz.f61 [2,4,5,6] (headN 3 cdCm) (startSt [.agg (c8 (a,b,c,d,e,f,g,h)),.str s] (hL [(1,.ints .u32 rd)]) 3) []
  [([],[64 ≤ s.length],.to .normal (sC0 rd a b c d e f g h a b c d e f g h (.cells ((List.range 64).map fun j=>.int .u32 ((scX s 48).getD j 0)))))]:=by
 unfold RunIs; kernel_rfl
theorem cm_own:ownS [(5,.u32)] (sC0 rd a b c d e f g h a' b' c' d' e' f' g' h' (.cells ((List.range 64).map fun j=>.int .u32 (ws.getD j 0))))=some (sC0 rd a b c d e f g h a' b' c' d' e' f' g' h' (.own .u32 (w64L ws))):=by
 kernel_rfl
theorem cm_2:RunIs Tryz.prog cs1 [(18,.give (.int .i64 (Int.ofNat 0)))] 1000 3 Tryz.f61 [2,4,5,6,18] (seqL lpCm) (sC0 rd a b c d e f g h a' b' c' d' e' f' g' h' (.own .u32 ws)) [] [([],[V.int .i64 0=V.int .i64 0],.to .normal (sCi rd ws a b c d e f g h a' b' c' d' e' f' g' h' 0))]:=by
 unfold RunIs; kernel_rfl
theorem cm_3:∃ L,RunIs Tryz.prog cs1 [(19,.split),(101,.give (.int .i64 (Int.ofNat (i+1))))] 1000 3 Tryz.f61 [2,4,5,6,18] (inner loCm) (sCi rd ws a b c d e f g h a' b' c' d' e' f' g' h' i) L
  [([(decide (Int.ofNat i < 64),true)],[iN i,0+i * 1 < rd.length,iN i,0+i * 1 < ws.length,ieq (Int.ofNat i+1) (i+1)],
   .to .normal (sCi rd ws a b c d e f g h (rndE rd ws i (a',b',c',d',e',f',g',h')).1 (rndE rd ws i (a',b',c',d',e',f',g',h')).2.1 (rndE rd ws i (a',b',c',d',e',f',g',h')).2.2.1 (rndE rd ws i (a',b',c',d',e',f',g',h')).2.2.2.1 (rndE rd ws i (a',b',c',d',e',f',g',h')).2.2.2.2.1 (rndE rd ws i (a',b',c',d',e',f',g',h')).2.2.2.2.2.1 (rndE rd ws i (a',b',c',d',e',f',g',h')).2.2.2.2.2.2.1 (rndE rd ws i (a',b',c',d',e',f',g',h')).2.2.2.2.2.2.2 (i+1))),
   ([(decide (Int.ofNat i < 64),false)],[],.to (.exit 0) (sCi rd ws a b c d e f g h a' b' c' d' e' f' g' h' i))]:=
 RunIs.of (by kernel_rfl) (by kernel_rfl) (by kernel_rfl)
abbrev bd8 (k:Int):List Prop:=[0 ≤ k∧k < 8,0 ≤ k∧k < 8,0 ≤ k∧k < 8]
theorem cm_4:RunIs Tryz.prog cs1 [] 1000 3 Tryz.f61 [] enCm (sCi rd ws a b c d e f g h a' b' c' d' e' f' g' h' i) []
  [([],bd8 0 ++ (bd8 1 ++ (bd8 2 ++ (bd8 3 ++ (bd8 4 ++ (bd8 5 ++ (bd8 6 ++ bd8 7)))))),.ret (.agg (c8 (add8 (a',b',c',d',e',f',g',h') (a,b,c,d,e,f,g,h)))) (hL [(1,.ints .u32 rd)]) 3)]:=by
 unfold RunIs; kernel_rfl
end
def rndN (rd ws:List Int) (q:E8):Nat→E8
 | 0=>q
 | i+1=>rndE rd ws i (rndN rd ws q i)
abbrev sCq (rd ws:List Int) (q q':E8) (i:Nat):St:=sCi rd ws q.1 q.2.1 q.2.2.1 q.2.2.2.1 q.2.2.2.2.1 q.2.2.2.2.2.1 q.2.2.2.2.2.2.1 q.2.2.2.2.2.2.2 q'.1 q'.2.1 q'.2.2.1 q'.2.2.2.1 q'.2.2.2.2.1 q'.2.2.2.2.2.1 q'.2.2.2.2.2.2.1 q'.2.2.2.2.2.2.2 i
def cmpL (rd:List Int) (s:List UInt8) (q:E8):E8:=add8 (rndN rd (w64L (scX s 48)) q 64) q
set_option maxRecDepth 20000 in
theorem tgCm (rd:List Int) (hrd:64 ≤ rd.length) (s:List UInt8) (hs64:64 ≤ s.length) (q:E8):TG Tryz.prog 3 Tryz.f61.ntmps cdCm (startSt [.agg (c8 q),.str s] (hL [(1,.ints .u32 rd)]) 3)
  (RetG Tryz.prog 3 Tryz.f61 fun u _ _=>u= .agg (c8 (cmpL rd s q))):=by
 have hO:∀ n:Nat,Int.ofNat n=(n:Int):=fun _=>rfl
 obtain ⟨a,b,c,d,e,f,g,h⟩:=q
 refine TG_isN1 3 X1 mo (by kernel_rfl) (cm_1 rd a b c d e f g h s) (fun p hp=>by rw [List.mem_singleton] at hp; subst hp; exact hs64) ?_
 refine TG_own _ (cm_own rd (scX s 48) a b c d e f g h a b c d e f g h) ?_
 show TG Tryz.prog 3 Tryz.f61.ntmps tlCm _ _
 have hwl:(w64L (scX s 48)).length=64:=by unfold w64L; rw [List.length_map,List.length_range]
 generalize hW:w64L (scX s 48)=ws at hwl ⊢
 refine TG_seq' (by kernel_rfl) ?_
 refine TG_isSeq X1 mo anyR (by kernel_rfl) (by kernel_rfl) (cm_2 rd ws a b c d e f g h a b c d e f g h) fun g' hg _=>?_
 rw [List.mem_singleton] at hg; subst hg
 refine ⟨fun p hp=>by rw [List.mem_singleton] at hp; subst hp; rfl,fun s' hs'=>?_⟩
 refine TG_block (i:=0) (by kernel_rfl) (TG_mono (Q1:=fun z s'=>z= .exit 0∧∃ L,normG 3 L s'=some (sCq rd ws (a,b,c,d,e,f,g,h) (rndN rd ws (a,b,c,d,e,f,g,h) 64) 64)) (TG_loop_inv (fun k' s=>∃ i,k'=64 - i∧i ≤ 64∧∃ L,normG 3 L s=some (sCq rd ws (a,b,c,d,e,f,g,h) (rndN rd ws (a,b,c,d,e,f,g,h) i) i)) (by kernel_rfl) ?_ 64 ⟨0,rfl,Nat.zero_le _,_,hs'⟩) ?_)
 · rintro k' s0 ⟨i,hk,hi,L,hs⟩
   refine TG_norm hs ?_
   obtain ⟨L',hr⟩:=cm_3 rd ws a b c d e f g h (rndN rd ws (a,b,c,d,e,f,g,h) i).1 (rndN rd ws (a,b,c,d,e,f,g,h) i).2.1 (rndN rd ws (a,b,c,d,e,f,g,h) i).2.2.1 (rndN rd ws (a,b,c,d,e,f,g,h) i).2.2.2.1 (rndN rd ws (a,b,c,d,e,f,g,h) i).2.2.2.2.1 (rndN rd ws (a,b,c,d,e,f,g,h) i).2.2.2.2.2.1 (rndN rd ws (a,b,c,d,e,f,g,h) i).2.2.2.2.2.2.1 (rndN rd ws (a,b,c,d,e,f,g,h) i).2.2.2.2.2.2.2 i
   refine TG_is X1 mo anyR (by kernel_rfl) hr fun g' hg hc=>?_
   simp only [List.mem_cons,List.not_mem_nil,or_false] at hg
   rcases hg with rfl | rfl
   · have hlt:i < 64:=by
      have:=of_decide_eq_true (hc _ (List.mem_singleton.2 rfl))
      rw [hO] at this; omega
     refine ⟨fun p hp=>?_,fun s' hs'=>⟨64 - (i+1),by omega,i+1,rfl,by omega,[2,4,5,6,18],hs'⟩⟩
     simp only [List.mem_cons,List.not_mem_nil,or_false] at hp
     rcases hp with rfl | rfl | rfl | rfl | rfl
     · exact ⟨Int.natCast_nonneg _,by rw [hO]; omega⟩
     · omega
     · exact ⟨Int.natCast_nonneg _,by rw [hO]; omega⟩
     · omega
     · exact ieq_ok (by rw [hO]; omega) (by omega)
   · have hge:¬ i < 64:=by
      have:=of_decide_eq_false (hc _ (List.mem_singleton.2 rfl))
      rw [hO] at this; omega
     obtain rfl:i=64:=by omega
     exact ⟨by simp,fun s' hs'=>⟨rfl,[2,4,5,6,18],hs'⟩⟩
 · rintro y s2 ⟨rfl,L,hs2⟩
   rw [outOf_exit]
   simp only [andThen]
   refine TG_norm hs2 ?_
   refine TG_ret X1 mo _ (by kernel_rfl) (cm_4 rd ws a b c d e f g h _ _ _ _ _ _ _ _ 64) fun g' hg _=>?_
   rw [List.mem_singleton] at hg; subst hg
   refine ⟨fun p hp=>?_,_,_,_,rfl,?_⟩
   · simp only [List.mem_append,List.mem_cons,List.not_mem_nil,or_false,or_self] at hp
     rcases hp with rfl | rfl | rfl | rfl | rfl | rfl | rfl | rfl <;> decide
   · unfold cmpL; rw [hW]
end Go.Proofs.YtmjggdmekboefaaGreatDoor.Sha
namespace Go.Proofs.YtmjggdmekboefaaGreatDoor.Sha
open Go Go.Eng
def nsG:List (Option (Nat × Nat)):=[some (0,0),some (1,0),some (2,0)]
theorem nsG_ok:∀ p ∈ gtab,nsG[p.2]? =some (some (p.2,0)):=by
 intro p hp
 simp only [gtab,List.mem_cons,List.not_mem_nil,or_false] at hp
 rcases hp with rfl | rfl | rfl <;> rfl
def specCm:List V→Tr O→Option (List Prop × V)
 | [.agg [.int .u32 a,.int .u32 b,.int .u32 c,.int .u32 d,.int .u32 e,.int .u32 f,.int .u32 g,.int .u32 x],.str s],h=>match h.get 1 with
   | some (.ints .u32 rd)=>some ([64 ≤ rd.length,64 ≤ s.length],.agg (c8 (cmpL rd s (a,b,c,d,e,f,g,x))))
   | _=>none
 | _,_=>none
theorem one_Cm:PureA Tryz.prog 61 specCm:=by
 refine ⟨Nat.le_of_ble_eq_true (by kernel_rfl),fun args h A u e=>?_⟩
 unfold specCm at e
 split at e
 case h_2=>cases e
 rename_i a b c d e1 f g x s
 split at e
 case h_2=>cases e
 rename_i rd hm
 simp only [Option.some.injEq,Prod.mk.injEq] at e; obtain ⟨rfl,rfl⟩:=e
 refine ⟨rfl,fun hA E n' w' args' ra g0 hd hc=>?_⟩
 obtain ⟨g2,d2,n2⟩:=rows_ok g0 nsG [none,some (.u32,rd),none] (Nat.le_of_ble_eq_true rfl) nsG_ok (by
  intro j k' ks' hj
  match j,hj with
  | 0,hj=>cases hj
  | 1,hj=>cases hj; exact ⟨1,0,rd,rfl,hm,rfl⟩
  | 2,hj=>cases hj
  | j+3,hj=>simp at hj)
 exact read_calls mo po Tryz.func61 (code:=cdCm) (by kernel_rfl) (by kernel_rfl) (tgCm rd (hA _ (by simp)) s (hA (64 ≤ s.length) (by simp)) (a,b,c,d,e1,f,g,x)) (E:=E.rows nsG) g2 d2 n2 (frees_rel _ _ rfl ra)
noncomputable abbrev W2:CtrW:=addW 61 (readW specCm) W1
theorem W2_ok:CtrWOk Tryz.prog W2:=addW_ok (readW_ok one_Cm) W1_ok
noncomputable abbrev cs2:CallS:=callX Tryz.prog W2 H0 1000 40
noncomputable abbrev X2:CX Tryz.prog:=CX.of mo po W2_ok H0 1000 40
end Go.Proofs.YtmjggdmekboefaaGreatDoor.Sha
namespace Go.Proofs.YtmjggdmekboefaaGreatDoor.Sha
open Go Go.Eng
def pB (x d:Int):UInt8:=UInt8.ofNat (IntKind.u8.wrap ((IntKind.u64.wrap x).fdiv d)).toNat
def put8 (x:Int):List UInt8:=[pB x 72057594037927936,pB x 281474976710656,pB x 1099511627776,pB x 4294967296,pB x 16777216,pB x 65536,pB x 256,pB x 1]
def put4 (x:Int):List UInt8:=[pB x 16777216,pB x 65536,pB x 256,pB x 1]
def put1 (x:Int):List UInt8:=[pB x 1]
abbrev b8:List Prop:=[(0:Int) ≤ 0∧(0:Int) < 8,(0:Int) ≤ 1∧(1:Int) < 8,(0:Int) ≤ 2∧(2:Int) < 8,(0:Int) ≤ 3∧(3:Int) < 8,(0:Int) ≤ 4∧(4:Int) < 8,(0:Int) ≤ 5∧(5:Int) < 8,(0:Int) ≤ 6∧(6:Int) < 8,(0:Int) ≤ 7∧(7:Int) < 8]
theorem b8_ok:∀ p ∈ b8,p:=by
 intro p hp
 simp only [List.mem_cons,List.not_mem_nil,or_false] at hp
 rcases hp with rfl | rfl | rfl | rfl | rfl | rfl | rfl | rfl <;> decide
noncomputable abbrev cdPu:Code:=bodyOf Tryz.f27
theorem pu_8 (x:Int):RunIs Tryz.prog cs2 [] 1000 3 Tryz.f27 [] cdPu (startSt [.int .i64 x,.int .i64 8] .nil 3) [] [([],b8,.ret (.str (put8 x)) (hL []) 3)]:=by
 unfold RunIs; kernel_rfl
theorem pu_4 (x:Int):RunIs Tryz.prog cs2 [] 1000 3 Tryz.f27 [] cdPu (startSt [.int .i64 x,.int .i64 4] .nil 3) [] [([],b8,.ret (.str (put4 x)) (hL []) 3)]:=by
 unfold RunIs; kernel_rfl
theorem pu_1 (x:Int):RunIs Tryz.prog cs2 [] 1000 3 Tryz.f27 [] cdPu (startSt [.int .i64 x,.int .i64 1] .nil 3) [] [([],b8,.ret (.str (put1 x)) (hL []) 3)]:=by
 unfold RunIs; kernel_rfl
def specPu:List V→Option (List Prop × V)
 | [.int .i64 x,.int .i64 k]=>match k with
   | .ofNat 8=>some ([],.str (put8 x))
   | .ofNat 4=>some ([],.str (put4 x))
   | .ofNat 1=>some ([],.str (put1 x))
   | _=>none
 | _=>none
theorem TG_one {P:Program} {n0:Nat} {fn:Func} {c:Code} {s:St} (X':CX P) (hm:P.follows .mixedOrders=true) {H:List (Nat × Fix)} {F:Nat} {live:List Nat} {A:List Prop} {v:V} {h:Tr O} {n:Nat} (hc:codeOk fn.ntmps c=true)
  (hr:RunIs P X'.cs H F n0 fn live c s [] [([],A,.ret v h n)]) (hA:∀ a ∈ A,a):TG P n0 fn.ntmps c s (RetG P n0 fn fun u _ _=>u=v):=by
 refine TG_ret X' hm _ hc hr fun g hg _=>?_
 rw [List.mem_singleton] at hg; subst hg
 exact ⟨hA,_,_,_,rfl,rfl⟩
theorem one_Pu:OneW Tryz.prog 27 (pureW specPu):=by
 refine pureW_ok (Nat.le_of_ble_eq_true (by kernel_rfl)) fun args A v e=>?_
 unfold specPu at e
 split at e
 · split at e
   · simp only [Option.some.injEq,Prod.mk.injEq] at e; obtain ⟨rfl,rfl⟩:=e
     exact ⟨rfl,by kernel_rfl,fun _=>pure_calls mo po Tryz.func27 (by kernel_rfl) (by kernel_rfl) rfl (TG_one X2 mo (by kernel_rfl) (pu_8 _) b8_ok)⟩
   · simp only [Option.some.injEq,Prod.mk.injEq] at e; obtain ⟨rfl,rfl⟩:=e
     exact ⟨rfl,by kernel_rfl,fun _=>pure_calls mo po Tryz.func27 (by kernel_rfl) (by kernel_rfl) rfl (TG_one X2 mo (by kernel_rfl) (pu_4 _) b8_ok)⟩
   · simp only [Option.some.injEq,Prod.mk.injEq] at e; obtain ⟨rfl,rfl⟩:=e
     exact ⟨rfl,by kernel_rfl,fun _=>pure_calls mo po Tryz.func27 (by kernel_rfl) (by kernel_rfl) rfl (TG_one X2 mo (by kernel_rfl) (pu_1 _) b8_ok)⟩
   · cases e
 · cases e
end Go.Proofs.YtmjggdmekboefaaGreatDoor.Sha
namespace Go.Proofs.YtmjggdmekboefaaGreatDoor.Sha
open Go Go.Eng Go.Shelf Go.RowKit
def repRen:Go.Shelf.Ren:=⟨fun | 105=>60 | 212=>88 | 99=>89 | 165=>90 | 166=>26 | 170=>91 | 169=>29 | 263=>116 | 264=>117 | 206=>118 | 240=>58 | 241=>119 | 276=>87 | 277=>141 | n=>n,fun | 9=>9 | 3=>3 | 4=>4 | 20=>20 | 0=>0 | 46=>61 | 109=>154 | 5=>5 | 72=>73 | 76=>76 | 51=>118 | 146=>181 | 53=>120 | 148=>183 | 70=>70 | 37=>71 | 75=>75 | 127=>124 | 164=>152 | 80=>80 | n=>n,fun n=>n⟩
theorem repLays:Lays.n105 Tryz.prog repRen:={
 mixed:=mo
 f99:=Tryz.func89.trans (congrArg some (by kernel_rfl))
 f105:=Tryz.func60.trans (congrArg some (by kernel_rfl))
 f165:=Tryz.func90.trans (congrArg some (by kernel_rfl))
 f166:=Tryz.func26.trans (congrArg some (by kernel_rfl))
 f169:=Tryz.func29.trans (congrArg some (by kernel_rfl))
 f170:=Tryz.func91.trans (congrArg some (by kernel_rfl))
 f206:=Tryz.func118.trans (congrArg some (by kernel_rfl))
 f212:=Tryz.func88.trans (congrArg some (by kernel_rfl))
 f240:=Tryz.func58.trans (congrArg some (by kernel_rfl))
 f241:=Tryz.func119.trans (congrArg some (by kernel_rfl))
 f263:=Tryz.func116.trans (congrArg some (by kernel_rfl))
 f264:=Tryz.func117.trans (congrArg some (by kernel_rfl))
 f276:=Tryz.func87.trans (congrArg some (by kernel_rfl))
 f277:=Tryz.func141.trans (congrArg some (by kernel_rfl))
 t0:=Tryz.underlying0
 a0:=Tryz.isAgg0
 z0:=Tryz.sizeOf0
 v0:=Tryz.zeroValue0
 t3:=Tryz.underlying3
 a3:=Tryz.isAgg3
 z3:=Tryz.sizeOf3
 v3:=Tryz.zeroValue3
 t4:=Tryz.underlying4
 a4:=Tryz.isAgg4
 z4:=Tryz.sizeOf4
 v4:=Tryz.zeroValue4
 t5:=Tryz.underlying5
 a5:=Tryz.isAgg5
 z5:=Tryz.sizeOf5
 v5:=Tryz.zeroValue5
 t9:=Tryz.underlying9
 a9:=Tryz.isAgg9
 z9:=Tryz.sizeOf9
 v9:=Tryz.zeroValue9
 t20:=Tryz.underlying20
 a20:=Tryz.isAgg20
 z20:=Tryz.sizeOf20
 v20:=Tryz.zeroValue20
 t37:=Tryz.underlying71
 a37:=Tryz.isAgg71
 z37:=Tryz.sizeOf71
 v37:=Tryz.zeroValue71
 t46:=Tryz.underlying61
 a46:=Tryz.isAgg61
 z46:=Tryz.sizeOf61
 v46:=Tryz.zeroValue61
 t51:=Tryz.underlying118
 a51:=Tryz.isAgg118
 z51:=Tryz.sizeOf118
 v51:=Tryz.zeroValue118
 t53:=Tryz.underlying120
 a53:=Tryz.isAgg120
 z53:=Tryz.sizeOf120
 v53:=Tryz.zeroValue120
 t70:=Tryz.underlying70
 a70:=Tryz.isAgg70
 z70:=Tryz.sizeOf70
 v70:=Tryz.zeroValue70
 t72:=Tryz.underlying73
 a72:=Tryz.isAgg73
 z72:=Tryz.sizeOf73
 v72:=Tryz.zeroValue73
 t75:=Tryz.underlying75
 a75:=Tryz.isAgg75
 z75:=Tryz.sizeOf75
 v75:=Tryz.zeroValue75
 t76:=Tryz.underlying76
 a76:=Tryz.isAgg76
 z76:=Tryz.sizeOf76
 v76:=Tryz.zeroValue76
 t109:=Tryz.underlying154
 a109:=Tryz.isAgg154
 z109:=Tryz.sizeOf154
 v109:=Tryz.zeroValue154
 t127:=Tryz.underlying124
 a127:=Tryz.isAgg124
 z127:=Tryz.sizeOf124
 v127:=Tryz.zeroValue124
 t146:=Tryz.underlying181
 a146:=Tryz.isAgg181
 z146:=Tryz.sizeOf181
 v146:=Tryz.zeroValue181
 t148:=Tryz.underlying183
 a148:=Tryz.isAgg183
 z148:=Tryz.sizeOf183
 v148:=Tryz.zeroValue183
 t164:=Tryz.underlying152
 a164:=Tryz.isAgg152
 z164:=Tryz.sizeOf152
 v164:=Tryz.zeroValue152
}
theorem repMore:Builder.Extra Tryz.prog repRen where
 sizeBuilder:=by kernel_rfl
 liesBuilder:=by kernel_rfl
 t5:=repLays.t5
 a5:=repLays.a5
 z5:=repLays.z5
 v5:=repLays.v5
 infoByte:=by kernel_rfl
 cellsByte:=by kernel_rfl
 sizeByte:=by kernel_rfl
 neB5:=by decide
def specRe:List V→Option (List Prop × V)
 | [.str [0],.int .i64 x]=>some ([0 ≤ x∧x ≤ 1000],.str (List.replicate x.toNat 0))
 | _=>none
theorem one_Re:OneW Tryz.prog 60 (pureW specRe):=by
 refine pureW_ok (Nat.le_of_ble_eq_true (by kernel_rfl)) fun args A v e=>?_
 unfold specRe at e
 split at e
 · rename_i x
   simp only [Option.some.injEq,Prod.mk.injEq] at e; obtain ⟨rfl,rfl⟩:=e
   refine ⟨rfl,rfl,fun hA E w args' _ ra=>?_⟩
   have hx:=hA _ (List.mem_singleton.2 rfl)
   obtain ⟨c,rfl⟩:∃ c:Nat,x=(c:Int):=⟨x.toNat,by omega⟩
   obtain ⟨y,ys,r0,⟨z,zs,r1,rs,rfl⟩,rfl⟩:=ra
   have rs:zs=[]:=rs
   subst rs
   have r1:z= .int .i64 (c:Int):=r1
   subst r1
   have r0:y= .string ⟨#[0]⟩:=r0
   subst r0
   have h:=Any.strings_Repeat repLays repMore ⟨#[0]⟩ c w (by omega) (by show 1 * c ≤ _; omega)
   refine h.mono fun en w' ⟨he,hw⟩=>⟨⟨E,?_⟩,hw⟩
   rw [he]
   have e:Lib.repeatL (ByteArray.mk #[0]).data.toList c=List.replicate c 0:=by
    have:=Lib.repeatL_replicate 0 1 c
    rw [Nat.mul_one] at this
    exact this
   rw [e]
   exact rfl
 · cases e
noncomputable abbrev W3:CtrW:=addW 60 (pureW specRe) (addW 27 (pureW specPu) W2)
theorem W3_ok:CtrWOk Tryz.prog W3:=addW_ok one_Re (addW_ok one_Pu W2_ok)
end Go.Proofs.YtmjggdmekboefaaGreatDoor.Sha
namespace Go.Proofs.YtmjggdmekboefaaGreatDoor.Sha
open Go Go.Eng Go.Shelf Go.RowKit
def specCk:List V→Tr O→Nat→Option (List Prop × V × Tr O × Nat)
 | [.ptr (some (m,0))],h,n=>match h.get m with
   | some (.bld t _ x)=>match Nat.beq t 73 && Nat.blt m top with
     | true=>some ([],.tup [],h.set m (some (.bld t true x)),n)
     | false=>none
   | _=>none
 | _,_,_=>none
theorem one_Ck:OneW Tryz.prog 58 specCk:=by
 refine ⟨Nat.le_of_ble_eq_true (by kernel_rfl),fun args h n A v h' n' e hA E w args' ra g hd hc=>?_⟩
 unfold specCk at e
 split at e
 case h_2=>cases e
 rename_i m
 split at e
 case h_2=>cases e
 rename_i t self x hm
 split at e
 case h_2=>cases e
 rename_i hq
 simp only [Bool.and_eq_true] at hq
 obtain ⟨ht,hmt⟩:=hq
 have ht:=Nat.eq_of_beq_eq_true ht
 subst ht
 have hmt:m < top:=Nat.le_of_ble_eq_true hmt
 simp only [Option.some.injEq,Prod.mk.injEq] at e
 obtain ⟨rfl,rfl,rfl,rfl⟩:=e
 obtain ⟨y,ys,r0,rs,rfl⟩:=ra
 have rs:ys=[]:=rs
 subst rs
 obtain ⟨b,s,e1,rfl⟩:=r0
 obtain ⟨b',s',e2,hs,x',fz,k1,k2,k3,k4⟩:=g.rel m _ hm
 rw [e1] at e2
 simp only [Option.some.injEq,Prod.mk.injEq] at e2
 obtain ⟨rfl,rfl⟩:=e2
 subst hs
 have hbb:b < w.heap.size:=g.bnd m b 0 e1
 have hlive:wlive h m:=⟨_,hm,rfl⟩
 have hcell:∀ {self:Bool},w.heap[b]? =some (.cells #[.pointer (if self then some ⟨b,0,none⟩ else none),x'] 73 fz)→w.cell? ⟨b,0,none⟩=some (.pointer (if self then some ⟨b,0,none⟩ else none)):=by
  intro self k1
  unfold World.cell?; rw [k1]; rfl
 have hcpost:∀ w',w'.heap.size=w.heap.size→w'.tape=w.tape→w'.os=w.os→w'.output=w.output→(∀ j,j ≠ b→w'.heap[j]? =w.heap[j]?)→w'.heap[b]? =some (.cells #[.pointer (some ⟨b,0,none⟩),x'] 73 fz)→
   CPost E h n w (.ret (.tup [])) (h.set m (some (.bld 73 true x))) n (.returned (.tuple #[])) w':=by
  intro w' h1 h2 h3 h4 h5 h6
  refine ⟨E,Upd.write g hmt hlive e1 h1 h2 h3 h4 h5 ⟨rfl,x',fz,h6,k2,k3,k4⟩,fun _ _=>rfl,hd,Nat.le_refl _,⟨[],rfl,rfl⟩⟩
 cases self with
 | true=>
   have h:=Any.Builder_copyCheck_used { repLays with } { repMore with } b w (hcell k1)
   refine h.mono fun en w' ⟨he,hw⟩=>?_
   subst he; subst hw
   exact hcpost w' rfl rfl rfl rfl (fun _ _=>rfl) k1
 | false=>
   have h:=Any.Builder_copyCheck_fresh { repLays with } { repMore with } b w (hcell k1) (by unfold World.shape?; rw [k1]; rfl) (by
    unfold World.frozen?
    simp only [k1]
    have:=k3 0 (by omega)
    obtain ⟨lo,hi⟩:=fz
    simp only at this ⊢
    cases hq:(decide (lo ≤ 0) && decide (0 < hi)) with
    | false=>rfl
    | true=>simp only [Bool.and_eq_true,decide_eq_true_eq] at hq; exact absurd hq this)
   refine h.mono fun en w' ⟨he,hw⟩=>?_
   subst he; subst hw
   refine hcpost _ (by simp [World.setCell]) rfl rfl rfl (fun j hj=>by simp [World.setCell,Array.getElem?_modify,Ne.symm hj]) ?_
   simp [World.setCell,Array.getElem?_modify,k1]
noncomputable abbrev W4:CtrW:=addW 58 specCk W3
theorem W4_ok:CtrWOk Tryz.prog W4:=addW_ok one_Ck W3_ok
noncomputable abbrev cs4:CallS:=callX Tryz.prog W4 H0 1000 40
noncomputable abbrev X4:CX Tryz.prog:=CX.of mo po W4_ok H0 1000 40
end Go.Proofs.YtmjggdmekboefaaGreatDoor.Sha
namespace Go.Proofs.YtmjggdmekboefaaGreatDoor.Sha
open Go Go.Eng
noncomputable abbrev cdOf:Code:=bodyOf Tryz.f28
noncomputable abbrev tlOf:Code:=tailN 4 cdOf
noncomputable abbrev l1Of:Code:=seqL tlOf
noncomputable abbrev t2Of:Code:=seqR tlOf
noncomputable abbrev l2Of:Code:=seqL t2Of
noncomputable abbrev t3Of:Code:=seqR t2Of
def hSR (st rd:List Int):Tr O:=hL [(0,.ints .u32 st),(1,.ints .u32 rd)]
def zerosN (s:List UInt8):Nat:=(119 - s.length % 64) % 64
def padOf (s:List UInt8):List UInt8:=((s.take s.length).drop (s.length / 64 * 64) ++ [128] ++ List.replicate (zerosN s) 0) ++ put8 (Int.ofNat (s.length * 8))
def stq (st:List Int):E8:=(st.getD 0 0,st.getD 1 0,st.getD 2 0,st.getD 3 0,st.getD 4 0,st.getD 5 0,st.getD 6 0,st.getD 7 0)
def blk (s:List UInt8) (i:Nat):List UInt8:=(s.take (i+64)).drop i
def hashN (rd:List Int) (s:List UInt8) (q:E8):Nat→E8
 | 0=>q
 | j+1=>cmpL rd (blk s (64 * j)) (hashN rd s q j)
def wB (x:Int):List UInt8:=put4 (IntKind.i64.wrap x)
def out8 (q:E8):List UInt8:=wB q.1 ++ strI (bytesI (wB q.2.1)) ++ strI (bytesI (wB q.2.2.1)) ++ strI (bytesI (wB q.2.2.2.1)) ++ strI (bytesI (wB q.2.2.2.2.1)) ++ strI (bytesI (wB q.2.2.2.2.2.1)) ++ strI (bytesI (wB q.2.2.2.2.2.2.1)) ++ strI (bytesI (wB q.2.2.2.2.2.2.2))
def shaOf (st rd:List Int) (s:List UInt8):List UInt8:=out8 (hashN rd (padOf s) (hashN rd s (stq st) (s.length / 64)) ((padOf s).length / 64))
def sOf0 (st rd:List Int) (q:E8) (s p:List UInt8):St:=stG [(0,.str s),(3,.ptr (some (3,0))),(5,.str p)] (hL [(0,.ints .u32 st),(1,.ints .u32 rd),(3,.cells (c8 q))]) 4
def sOf1 (st rd:List Int) (q:E8) (s p:List UInt8) (i:Nat):St:=stG [(0,.str s),(3,.ptr (some (3,0))),(5,.str p),(6,.int .i64 (Int.ofNat i))] (hL [(0,.ints .u32 st),(1,.ints .u32 rd),(3,.cells (c8 q))]) 4
def sOf2 (st rd:List Int) (q:E8) (p:List UInt8):St:=stG [(3,.ptr (some (3,0))),(5,.str p)] (hL [(0,.ints .u32 st),(1,.ints .u32 rd),(3,.cells (c8 q))]) 4
theorem of_1 (st rd:List Int) (s:List UInt8):∃ L,RunIs Tryz.prog cs4 [(13,.give (.int .i64 (Int.ofNat (s.length % 64)))),(15,.give (.int .i64 (Int.ofNat (zerosN s)))),(20,.give (.int .i64 (Int.ofNat (s.length / 64 * 64)))),(28,.give (.int .i64 (Int.ofNat (s.length * 8))))] 1000 3 Tryz.f28 [0,3,5] (headN 4 cdOf) (startSt [.str s] (hSR st rd) 3) L
  [([],
   [(8 ≤ st.length),(V.int IntKind.i64 (((Int.ofNat s.length)).tmod (64:Int))=V.int IntKind.i64 (Int.ofNat (s.length % 64))),(V.int IntKind.i64 ((IntKind.i64.wrap ((119:Int) - Int.ofNat (s.length % 64))).tmod (64:Int))=V.int IntKind.i64 (Int.ofNat (zerosN s))),((64:Int) ≠ (0:Int)),(V.int IntKind.i64 (IntKind.i64.wrap (IntKind.i64.wrap (((Int.ofNat s.length)).tdiv (64:Int)) * (64:Int)))=V.int IntKind.i64 (Int.ofNat (s.length / 64 * 64))),((0:Int) ≤ Int.ofNat (s.length / 64 * 64)∧Int.ofNat (s.length / 64 * 64) ≤ (Int.ofNat s.length)),((List.drop (Int.ofNat (s.length / 64 * 64)).toNat (List.take s.length s)).length+1 ≤ 9223372036854775807),((0:Int) ≤ Int.ofNat (zerosN s)∧Int.ofNat (zerosN s) ≤ (1000:Int)),((0:Int) ≤ Int.ofNat (s.length / 64 * 64)∧Int.ofNat (s.length / 64 * 64) ≤ (Int.ofNat s.length)),((List.drop (Int.ofNat (s.length / 64 * 64)).toNat (List.take s.length s) ++ ([(128:UInt8)]:List UInt8)).length+(List.replicate (Int.ofNat (zerosN s)).toNat (0:UInt8)).length ≤ 9223372036854775807),(V.int IntKind.i64 (IntKind.i64.wrap ((Int.ofNat s.length) * (8:Int)))=V.int IntKind.i64 (Int.ofNat (s.length * 8))),((0:Int) ≤ Int.ofNat (s.length / 64 * 64)∧Int.ofNat (s.length / 64 * 64) ≤ (Int.ofNat s.length)),((List.drop (Int.ofNat (s.length / 64 * 64)).toNat (List.take s.length s) ++ ([(128:UInt8)]:List UInt8) ++ List.replicate (Int.ofNat (zerosN s)).toNat (0:UInt8)).length+(put8 (Int.ofNat (s.length * 8))).length ≤ 9223372036854775807)],
   .to .normal (stG [(0,.str (s)),(3,.ptr (some (3,0))),(5,.str (List.drop (Int.ofNat (s.length / 64 * 64)).toNat (List.take s.length s) ++ ([(128:UInt8)]:List UInt8) ++ List.replicate (Int.ofNat (zerosN s)).toNat (0:UInt8) ++ put8 (Int.ofNat (s.length * 8))))] (hL [(0,.ints .u32 (st)),(1,.ints .u32 (rd)),(3,.cells [.int .u32 (st.getD 0 (0:Int)),.int .u32 (st.getD 1 (0:Int)),.int .u32 (st.getD 2 (0:Int)),.int .u32 (st.getD 3 (0:Int)),.int .u32 (st.getD 4 (0:Int)),.int .u32 (st.getD 5 (0:Int)),.int .u32 (st.getD 6 (0:Int)),.int .u32 (st.getD 7 (0:Int))])]) 4))]
 :=RunIs.of (by kernel_rfl) (by kernel_rfl) (by kernel_rfl)
theorem of_2 (st rd:List Int) (q:E8) (s p:List UInt8):∃ L,RunIs Tryz.prog cs4 [(6,.give (.int .i64 (Int.ofNat 0)))] 1000 3 Tryz.f28 [0,3,5,6] (seqL l1Of) (sOf0 st rd q s p) L
  [([],
   [(V.int IntKind.i64 (0:Int)=V.int IntKind.i64 (0:Int))],
   .to .normal (stG [(0,.str (s)),(3,.ptr (some (3,0))),(5,.str (p)),(6,.int .i64 0)] (hL [(0,.ints .u32 (st)),(1,.ints .u32 (rd)),(3,.cells [.int .u32 (q.fst),.int .u32 (q.snd.fst),.int .u32 (q.snd.snd.fst),.int .u32 (q.snd.snd.snd.fst),.int .u32 (q.snd.snd.snd.snd.fst),.int .u32 (q.snd.snd.snd.snd.snd.fst),.int .u32 (q.snd.snd.snd.snd.snd.snd.fst),.int .u32 (q.snd.snd.snd.snd.snd.snd.snd)])]) 4))]
 :=RunIs.of (by kernel_rfl) (by kernel_rfl) (by kernel_rfl)
theorem of_5 (st rd:List Int) (q:E8) (p:List UInt8):∃ L,RunIs Tryz.prog cs4 [] 1000 3 Tryz.f28 [] (t3Of) (sOf2 st rd q p) L
  [([],
   [(0 < (put4 (IntKind.i64.wrap q.fst)).length),(roomy (put4 (IntKind.i64.wrap q.fst)).length 1 1=true),(0 < (put4 (IntKind.i64.wrap q.fst)).length),((put4 (IntKind.i64.wrap q.fst)).length=(put4 (IntKind.i64.wrap q.fst)).length),(roomy ((put4 (IntKind.i64.wrap q.fst)).length+(put4 (IntKind.i64.wrap q.snd.fst)).length) 1 1=true),(0 < (put4 (IntKind.i64.wrap q.fst)).length+(put4 (IntKind.i64.wrap q.snd.fst)).length),((put4 (IntKind.i64.wrap q.fst)).length+(put4 (IntKind.i64.wrap q.snd.fst)).length=(put4 (IntKind.i64.wrap q.fst) ++ strI (bytesI (put4 (IntKind.i64.wrap q.snd.fst)))).length),(roomy ((put4 (IntKind.i64.wrap q.fst)).length+(put4 (IntKind.i64.wrap q.snd.fst)).length+(put4 (IntKind.i64.wrap q.snd.snd.fst)).length) 1 1=true),(0 < (put4 (IntKind.i64.wrap q.fst)).length+(put4 (IntKind.i64.wrap q.snd.fst)).length+(put4 (IntKind.i64.wrap q.snd.snd.fst)).length),((put4 (IntKind.i64.wrap q.fst)).length+(put4 (IntKind.i64.wrap q.snd.fst)).length+(put4 (IntKind.i64.wrap q.snd.snd.fst)).length=(put4 (IntKind.i64.wrap q.fst) ++ strI (bytesI (put4 (IntKind.i64.wrap q.snd.fst))) ++ strI (bytesI (put4 (IntKind.i64.wrap q.snd.snd.fst)))).length),(roomy ((put4 (IntKind.i64.wrap q.fst)).length+(put4 (IntKind.i64.wrap q.snd.fst)).length+(put4 (IntKind.i64.wrap q.snd.snd.fst)).length+(put4 (IntKind.i64.wrap q.snd.snd.snd.fst)).length) 1 1=true),(0 < (put4 (IntKind.i64.wrap q.fst)).length+(put4 (IntKind.i64.wrap q.snd.fst)).length+(put4 (IntKind.i64.wrap q.snd.snd.fst)).length+(put4 (IntKind.i64.wrap q.snd.snd.snd.fst)).length),((put4 (IntKind.i64.wrap q.fst)).length+(put4 (IntKind.i64.wrap q.snd.fst)).length+(put4 (IntKind.i64.wrap q.snd.snd.fst)).length+(put4 (IntKind.i64.wrap q.snd.snd.snd.fst)).length=(put4 (IntKind.i64.wrap q.fst) ++ strI (bytesI (put4 (IntKind.i64.wrap q.snd.fst))) ++ strI (bytesI (put4 (IntKind.i64.wrap q.snd.snd.fst))) ++ strI (bytesI (put4 (IntKind.i64.wrap q.snd.snd.snd.fst)))).length),(roomy ((put4 (IntKind.i64.wrap q.fst)).length+(put4 (IntKind.i64.wrap q.snd.fst)).length+(put4 (IntKind.i64.wrap q.snd.snd.fst)).length+(put4 (IntKind.i64.wrap q.snd.snd.snd.fst)).length+(put4 (IntKind.i64.wrap q.snd.snd.snd.snd.fst)).length) 1 1=true),(0 < (put4 (IntKind.i64.wrap q.fst)).length+(put4 (IntKind.i64.wrap q.snd.fst)).length+(put4 (IntKind.i64.wrap q.snd.snd.fst)).length+(put4 (IntKind.i64.wrap q.snd.snd.snd.fst)).length+(put4 (IntKind.i64.wrap q.snd.snd.snd.snd.fst)).length),((put4 (IntKind.i64.wrap q.fst)).length+(put4 (IntKind.i64.wrap q.snd.fst)).length+(put4 (IntKind.i64.wrap q.snd.snd.fst)).length+(put4 (IntKind.i64.wrap q.snd.snd.snd.fst)).length+(put4 (IntKind.i64.wrap q.snd.snd.snd.snd.fst)).length=(put4 (IntKind.i64.wrap q.fst) ++ strI (bytesI (put4 (IntKind.i64.wrap q.snd.fst))) ++ strI (bytesI (put4 (IntKind.i64.wrap q.snd.snd.fst))) ++ strI (bytesI (put4 (IntKind.i64.wrap q.snd.snd.snd.fst))) ++ strI (bytesI (put4 (IntKind.i64.wrap q.snd.snd.snd.snd.fst)))).length),(roomy ((put4 (IntKind.i64.wrap q.fst)).length+(put4 (IntKind.i64.wrap q.snd.fst)).length+(put4 (IntKind.i64.wrap q.snd.snd.fst)).length+(put4 (IntKind.i64.wrap q.snd.snd.snd.fst)).length+(put4 (IntKind.i64.wrap q.snd.snd.snd.snd.fst)).length+(put4 (IntKind.i64.wrap q.snd.snd.snd.snd.snd.fst)).length) 1 1=true),(0 < (put4 (IntKind.i64.wrap q.fst)).length+(put4 (IntKind.i64.wrap q.snd.fst)).length+(put4 (IntKind.i64.wrap q.snd.snd.fst)).length+(put4 (IntKind.i64.wrap q.snd.snd.snd.fst)).length+(put4 (IntKind.i64.wrap q.snd.snd.snd.snd.fst)).length+(put4 (IntKind.i64.wrap q.snd.snd.snd.snd.snd.fst)).length),((put4 (IntKind.i64.wrap q.fst)).length+(put4 (IntKind.i64.wrap q.snd.fst)).length+(put4 (IntKind.i64.wrap q.snd.snd.fst)).length+(put4 (IntKind.i64.wrap q.snd.snd.snd.fst)).length+(put4 (IntKind.i64.wrap q.snd.snd.snd.snd.fst)).length+(put4 (IntKind.i64.wrap q.snd.snd.snd.snd.snd.fst)).length=(put4 (IntKind.i64.wrap q.fst) ++ strI (bytesI (put4 (IntKind.i64.wrap q.snd.fst))) ++ strI (bytesI (put4 (IntKind.i64.wrap q.snd.snd.fst))) ++ strI (bytesI (put4 (IntKind.i64.wrap q.snd.snd.snd.fst))) ++ strI (bytesI (put4 (IntKind.i64.wrap q.snd.snd.snd.snd.fst))) ++ strI (bytesI (put4 (IntKind.i64.wrap q.snd.snd.snd.snd.snd.fst)))).length),(roomy ((put4 (IntKind.i64.wrap q.fst)).length+(put4 (IntKind.i64.wrap q.snd.fst)).length+(put4 (IntKind.i64.wrap q.snd.snd.fst)).length+(put4 (IntKind.i64.wrap q.snd.snd.snd.fst)).length+(put4 (IntKind.i64.wrap q.snd.snd.snd.snd.fst)).length+(put4 (IntKind.i64.wrap q.snd.snd.snd.snd.snd.fst)).length+(put4 (IntKind.i64.wrap q.snd.snd.snd.snd.snd.snd.fst)).length) 1 1=true),(0 < (put4 (IntKind.i64.wrap q.fst)).length+(put4 (IntKind.i64.wrap q.snd.fst)).length+(put4 (IntKind.i64.wrap q.snd.snd.fst)).length+(put4 (IntKind.i64.wrap q.snd.snd.snd.fst)).length+(put4 (IntKind.i64.wrap q.snd.snd.snd.snd.fst)).length+(put4 (IntKind.i64.wrap q.snd.snd.snd.snd.snd.fst)).length+(put4 (IntKind.i64.wrap q.snd.snd.snd.snd.snd.snd.fst)).length),((put4 (IntKind.i64.wrap q.fst)).length+(put4 (IntKind.i64.wrap q.snd.fst)).length+(put4 (IntKind.i64.wrap q.snd.snd.fst)).length+(put4 (IntKind.i64.wrap q.snd.snd.snd.fst)).length+(put4 (IntKind.i64.wrap q.snd.snd.snd.snd.fst)).length+(put4 (IntKind.i64.wrap q.snd.snd.snd.snd.snd.fst)).length+(put4 (IntKind.i64.wrap q.snd.snd.snd.snd.snd.snd.fst)).length=(put4 (IntKind.i64.wrap q.fst) ++ strI (bytesI (put4 (IntKind.i64.wrap q.snd.fst))) ++ strI (bytesI (put4 (IntKind.i64.wrap q.snd.snd.fst))) ++ strI (bytesI (put4 (IntKind.i64.wrap q.snd.snd.snd.fst))) ++ strI (bytesI (put4 (IntKind.i64.wrap q.snd.snd.snd.snd.fst))) ++ strI (bytesI (put4 (IntKind.i64.wrap q.snd.snd.snd.snd.snd.fst))) ++ strI (bytesI (put4 (IntKind.i64.wrap q.snd.snd.snd.snd.snd.snd.fst)))).length),(roomy ((put4 (IntKind.i64.wrap q.fst)).length+(put4 (IntKind.i64.wrap q.snd.fst)).length+(put4 (IntKind.i64.wrap q.snd.snd.fst)).length+(put4 (IntKind.i64.wrap q.snd.snd.snd.fst)).length+(put4 (IntKind.i64.wrap q.snd.snd.snd.snd.fst)).length+(put4 (IntKind.i64.wrap q.snd.snd.snd.snd.snd.fst)).length+(put4 (IntKind.i64.wrap q.snd.snd.snd.snd.snd.snd.fst)).length+(put4 (IntKind.i64.wrap q.snd.snd.snd.snd.snd.snd.snd)).length) 1 1=true),(0 < (put4 (IntKind.i64.wrap q.fst)).length+(put4 (IntKind.i64.wrap q.snd.fst)).length+(put4 (IntKind.i64.wrap q.snd.snd.fst)).length+(put4 (IntKind.i64.wrap q.snd.snd.snd.fst)).length+(put4 (IntKind.i64.wrap q.snd.snd.snd.snd.fst)).length+(put4 (IntKind.i64.wrap q.snd.snd.snd.snd.snd.fst)).length+(put4 (IntKind.i64.wrap q.snd.snd.snd.snd.snd.snd.fst)).length+(put4 (IntKind.i64.wrap q.snd.snd.snd.snd.snd.snd.snd)).length),((Int.ofNat ((put4 (IntKind.i64.wrap q.fst)).length+(put4 (IntKind.i64.wrap q.snd.fst)).length+(put4 (IntKind.i64.wrap q.snd.snd.fst)).length+(put4 (IntKind.i64.wrap q.snd.snd.snd.fst)).length+(put4 (IntKind.i64.wrap q.snd.snd.snd.snd.fst)).length+(put4 (IntKind.i64.wrap q.snd.snd.snd.snd.snd.fst)).length+(put4 (IntKind.i64.wrap q.snd.snd.snd.snd.snd.snd.fst)).length+(put4 (IntKind.i64.wrap q.snd.snd.snd.snd.snd.snd.snd)).length))=(Int.ofNat (put4 (IntKind.i64.wrap q.fst) ++ strI (bytesI (put4 (IntKind.i64.wrap q.snd.fst))) ++ strI (bytesI (put4 (IntKind.i64.wrap q.snd.snd.fst))) ++ strI (bytesI (put4 (IntKind.i64.wrap q.snd.snd.snd.fst))) ++ strI (bytesI (put4 (IntKind.i64.wrap q.snd.snd.snd.snd.fst))) ++ strI (bytesI (put4 (IntKind.i64.wrap q.snd.snd.snd.snd.snd.fst))) ++ strI (bytesI (put4 (IntKind.i64.wrap q.snd.snd.snd.snd.snd.snd.fst))) ++ strI (bytesI (put4 (IntKind.i64.wrap q.snd.snd.snd.snd.snd.snd.snd)))).length)∧0 < (put4 (IntKind.i64.wrap q.fst) ++ strI (bytesI (put4 (IntKind.i64.wrap q.snd.fst))) ++ strI (bytesI (put4 (IntKind.i64.wrap q.snd.snd.fst))) ++ strI (bytesI (put4 (IntKind.i64.wrap q.snd.snd.snd.fst))) ++ strI (bytesI (put4 (IntKind.i64.wrap q.snd.snd.snd.snd.fst))) ++ strI (bytesI (put4 (IntKind.i64.wrap q.snd.snd.snd.snd.snd.fst))) ++ strI (bytesI (put4 (IntKind.i64.wrap q.snd.snd.snd.snd.snd.snd.fst))) ++ strI (bytesI (put4 (IntKind.i64.wrap q.snd.snd.snd.snd.snd.snd.snd)))).length),((put4 (IntKind.i64.wrap q.fst) ++ strI (bytesI (put4 (IntKind.i64.wrap q.snd.fst))) ++ strI (bytesI (put4 (IntKind.i64.wrap q.snd.snd.fst))) ++ strI (bytesI (put4 (IntKind.i64.wrap q.snd.snd.snd.fst))) ++ strI (bytesI (put4 (IntKind.i64.wrap q.snd.snd.snd.snd.fst))) ++ strI (bytesI (put4 (IntKind.i64.wrap q.snd.snd.snd.snd.snd.fst))) ++ strI (bytesI (put4 (IntKind.i64.wrap q.snd.snd.snd.snd.snd.snd.fst))) ++ strI (bytesI (put4 (IntKind.i64.wrap q.snd.snd.snd.snd.snd.snd.snd)))).length ≤ 9223372036854775807)],
   .ret (.str (put4 (IntKind.i64.wrap q.fst) ++ strI (bytesI (put4 (IntKind.i64.wrap q.snd.fst))) ++ strI (bytesI (put4 (IntKind.i64.wrap q.snd.snd.fst))) ++ strI (bytesI (put4 (IntKind.i64.wrap q.snd.snd.snd.fst))) ++ strI (bytesI (put4 (IntKind.i64.wrap q.snd.snd.snd.snd.fst))) ++ strI (bytesI (put4 (IntKind.i64.wrap q.snd.snd.snd.snd.snd.fst))) ++ strI (bytesI (put4 (IntKind.i64.wrap q.snd.snd.snd.snd.snd.snd.fst))) ++ strI (bytesI (put4 (IntKind.i64.wrap q.snd.snd.snd.snd.snd.snd.snd))))) (hL [(0,.ints .u32 (st)),(1,.ints .u32 (rd))]) 3)]
 :=RunIs.of (by kernel_rfl) (by kernel_rfl) (by kernel_rfl)
end Go.Proofs.YtmjggdmekboefaaGreatDoor.Sha
namespace Go.Proofs.YtmjggdmekboefaaGreatDoor.Sha
open Go Go.Eng
def shaOfQ (rd:List Int) (p:List UInt8) (q:E8):List UInt8:=out8 (hashN rd p q (p.length / 64))
theorem all_nil:∀ a ∈ ([]:List Prop),a:=fun _ h=>absurd h List.not_mem_nil
theorem put8_len (x:Int):(put8 x).length=8:=rfl
theorem padOf_len (s:List UInt8):(padOf s).length=(s.length - s.length / 64 * 64)+1+zerosN s+8:=by
 unfold padOf
 simp only [List.length_append,List.length_drop,List.length_take,List.length_replicate,put8_len,List.length_cons,List.length_nil,Nat.min_self]
theorem padOf_mod (s:List UInt8):∃ k,(padOf s).length=64 * k:=by
 rw [padOf_len]
 unfold zerosN
 refine ⟨((s.length - s.length / 64 * 64)+1+((119 - s.length % 64) % 64)+8) / 64,?_⟩
 omega
theorem of_4b (st rd:List Int) (q:E8) (p p1 b1:List UInt8) (h1:List.drop 64 (List.take p.length p)=p1) (h2:List.drop 0 (List.take 64 p)=b1):∃ L,RunIs Tryz.prog cs4 [(47,.split)] 1000 3 Tryz.f28 [3,5] (inner (inner l2Of)) (sOf2 st rd q p) L
  [([((decide ((Int.ofNat p.length) > (0:Int))),true)],
   [((0:Int) ≤ (64:Int)∧(64:Int) ≤ (Int.ofNat p.length)),(64 ≤ rd.length),(64 ≤ b1.length),((0:Int) ≤ (64:Int)∧(64:Int) ≤ (Int.ofNat p.length))],
   .to .normal (sOf2 st rd (cmpL rd b1 q) p1)),
   ([((decide ((Int.ofNat p.length) > (0:Int))),false)],[],.to (.exit 2) (sOf2 st rd q p))]:=by
 subst h1 h2
 exact RunIs.of (by kernel_rfl) (by kernel_rfl) (by kernel_rfl)
theorem of_3b (st rd:List Int) (q:E8) (s p:List UInt8) (i:Nat):∃ L,RunIs Tryz.prog cs4 [(35,.split),(32,.give (.int .i64 (Int.ofNat (i+64)))),(42,.give (.int .i64 (Int.ofNat (i+64)))),(37,.give (.int .i64 (Int.ofNat (i+64))))] 1000 3 Tryz.f28 [0,3,5,6] (inner (inner (seqR l1Of))) (sOf1 st rd q s p i) L
  [([((decide (Int.ofNat (i+64) ≤ (Int.ofNat s.length))),true)],
   [ieq (Int.ofNat i+64) (i+64),ieq (Int.ofNat i+64) (i+64),((0:Int) ≤ Int.ofNat (i+64)∧Int.ofNat (i+64) ≤ (Int.ofNat s.length)),((0:Int) ≤ Int.ofNat i∧Int.ofNat i ≤ (Int.ofNat (Int.ofNat (i+64)).toNat)),(64 ≤ rd.length),(64 ≤ (blk s i).length),ieq (Int.ofNat i+64) (i+64)],
   .to .normal (sOf1 st rd (cmpL rd (blk s i) q) s p (i+64))),
   ([((decide (Int.ofNat (i+64) ≤ (Int.ofNat s.length))),false)],[ieq (Int.ofNat i+64) (i+64)],.to (.exit 0) (sOf1 st rd q s p i))]:=
 RunIs.of (by kernel_rfl) (by kernel_rfl) (by kernel_rfl)
theorem blk_len {s:List UInt8} {i:Nat} (h:i+64 ≤ s.length):(blk s i).length=64:=by
 unfold blk
 rw [List.length_drop,List.length_take]; omega
theorem drop_step (p:List UInt8) (j:Nat):List.drop 64 (List.take (p.drop (64 * j)).length (p.drop (64 * j)))=p.drop (64 * (j+1)):=by
 rw [List.take_length,List.drop_drop,Nat.mul_succ]
theorem blk_drop (p:List UInt8) (j:Nat):List.drop 0 (List.take 64 (p.drop (64 * j)))=blk p (64 * j):=by
 unfold blk
 rw [List.drop_zero,List.drop_take]
 rw [Nat.add_sub_cancel_left]
set_option maxRecDepth 20000 in
theorem tgOf2 (st rd:List Int) (hrd:64 ≤ rd.length) (q0:E8) (p:List UInt8) (kp:Nat) (hkp:p.length=64 * kp) (hpl:p.length ≤ 200):TG Tryz.prog 3 Tryz.f28.ntmps t2Of (sOf2 st rd q0 p)
  (RetG Tryz.prog 3 Tryz.f28 fun u _ _=>u= .str (shaOfQ rd p q0)):=by
 have hO:∀ n:Nat,Int.ofNat n=(n:Int):=fun _=>rfl
 have hfin:shaOfQ rd p q0=out8 (hashN rd p q0 kp):=by unfold shaOfQ; rw [hkp,Nat.mul_div_cancel_left _ (by omega)]
 rw [hfin]
 clear hfin
 refine TG_seq' (by kernel_rfl) ?_
 refine TG_block (i:=2) (by kernel_rfl) (TG_mono (Q1:=fun z s'=>z= .exit 2∧∃ L,normG 3 L s'=some (sOf2 st rd (hashN rd p q0 kp) (p.drop (64 * kp)))) (TG_loop_inv (fun k' s'=>∃ j,k'=kp - j∧j ≤ kp∧∃ L,normG 3 L s'=some (sOf2 st rd (hashN rd p q0 j) (p.drop (64 * j)))) (by kernel_rfl) ?_ kp ⟨0,rfl,Nat.zero_le _,[3,5],by kernel_rfl⟩) ?_)
 · rintro k' s1 ⟨j,hk,hj,L,hs1⟩
   refine TG_norm hs1 ?_
   have hlen:(p.drop (64 * j)).length=64 * kp - 64 * j:=by rw [List.length_drop,hkp]
   obtain ⟨L3,hr3⟩:=of_4b st rd (hashN rd p q0 j) (p.drop (64 * j)) (p.drop (64 * (j+1))) (blk p (64 * j)) (drop_step p j) (blk_drop p j)
   refine TG_is X4 mo anyR (by kernel_rfl) hr3 fun g hg hc=>?_
   simp only [List.mem_cons,List.not_mem_nil,or_false] at hg
   rcases hg with rfl | rfl
   · have hlt:j < kp:=by
      have:=of_decide_eq_true (hc _ (List.mem_singleton.2 rfl))
      rw [hO,hlen] at this; omega
     refine ⟨fun p' hp'=>?_,fun s' hs'=>⟨kp - (j+1),by omega,j+1,rfl,by omega,_,hs'⟩⟩
     simp only [List.mem_cons,List.not_mem_nil,or_false] at hp'
     rcases hp' with rfl | rfl | rfl | rfl
     · exact ⟨by decide,by rw [hO,hlen]; omega⟩
     · exact hrd
     · rw [blk_len (by omega)]; exact Nat.le_refl _
     · exact ⟨by decide,by rw [hO,hlen]; omega⟩
   · have hge:¬ j < kp:=by
      have:=of_decide_eq_false (hc _ (List.mem_singleton.2 rfl))
      rw [hO,hlen] at this; omega
     obtain rfl:j=kp:=by omega
     exact ⟨all_nil,fun s' hs'=>⟨rfl,_,hs'⟩⟩
 rintro y s2 ⟨rfl,L,hs2⟩
 rw [outOf_exit]
 simp only [andThen]
 refine TG_norm hs2 ?_
 obtain ⟨L5,hr5⟩:=of_5 st rd (hashN rd p q0 kp) (p.drop (64 * kp))
 refine TG_ret X4 mo _ (by kernel_rfl) hr5 fun g hg _=>?_
 rw [List.mem_singleton] at hg; subst hg
 refine ⟨?_,_,_,_,rfl,rfl⟩
 repeat' (first | exact all_nil | refine List.forall_mem_cons.2 ⟨?_,?_⟩)
 all_goals first | exact Nat.le_of_ble_eq_true (by kernel_rfl) | exact ⟨by kernel_rfl,Nat.le_of_ble_eq_true (by kernel_rfl)⟩ | kernel_rfl
set_option maxRecDepth 20000 in
theorem tgOf (st rd:List Int) (hst:8 ≤ st.length) (hrd:64 ≤ rd.length) (s:List UInt8) (hs:s.length ≤ 1000000000):TG Tryz.prog 3 Tryz.f28.ntmps cdOf (startSt [.str s] (hSR st rd) 3)
  (RetG Tryz.prog 3 Tryz.f28 fun u _ _=>u= .str (shaOf st rd s)):=by
 have hO:∀ n:Nat,Int.ofNat n=(n:Int):=fun _=>rfl
 have hz:zerosN s < 64:=by unfold zerosN; omega
 obtain ⟨L1,hr1⟩:=of_1 st rd s
 refine TG_isN1 4 X4 mo (by kernel_rfl) hr1 ?_ ?_
 · intro p hp
   simp only [List.mem_cons,List.not_mem_nil,or_false] at hp
   rcases hp with rfl | rfl | rfl | rfl | rfl | rfl | rfl | rfl | rfl | rfl | rfl | rfl | rfl
   · exact hst
   · rfl
   · have e:IntKind.i64.wrap ((119:Int) - Int.ofNat (s.length % 64))=Int.ofNat (119 - s.length % 64):=by
      rw [wrap_id (by rw [hO]; omega) (by rw [hO]; omega),hO,hO]; omega
     rw [e]; rfl
   · decide
   · have e:(Int.ofNat s.length).tdiv 64=Int.ofNat (s.length / 64):=rfl
     rw [e,wrap_id (x:=Int.ofNat (s.length / 64)) (by rw [hO]; omega) (by rw [hO]; omega)]
     exact ieq_ok (by rw [hO]; omega) (by omega)
   · exact ⟨Int.natCast_nonneg _,by rw [hO,hO]; omega⟩
   · simp only [List.length_drop,List.length_take,Nat.min_self]; omega
   · exact ⟨Int.natCast_nonneg _,by rw [hO]; omega⟩
   · exact ⟨Int.natCast_nonneg _,by rw [hO,hO]; omega⟩
   · simp only [List.length_append,List.length_drop,List.length_take,List.length_replicate,List.length_cons,List.length_nil,Nat.min_self,hO,Int.toNat_natCast]; omega
   · exact ieq_ok (by rw [hO]; omega) (by omega)
   · exact ⟨Int.natCast_nonneg _,by rw [hO,hO]; omega⟩
   · simp only [List.length_append,List.length_drop,List.length_take,List.length_replicate,List.length_cons,List.length_nil,Nat.min_self,hO,Int.toNat_natCast,put8_len]; omega
 show TG Tryz.prog 3 Tryz.f28.ntmps tlOf (sOf0 st rd (stq st) s (padOf s)) _
 refine TG_seq' (by kernel_rfl) ?_
 obtain ⟨L2,hr2⟩:=of_2 st rd (stq st) s (padOf s)
 refine TG_isSeq X4 mo anyR (by kernel_rfl) (by kernel_rfl) hr2 fun g hg _=>?_
 rw [List.mem_singleton] at hg; subst hg
 refine ⟨fun p hp=>by rw [List.mem_singleton] at hp; subst hp; rfl,fun s' hs'=>?_⟩
 have hs':normG 3 [0,3,5,6] s'=some (sOf1 st rd (hashN rd s (stq st) 0) s (padOf s) (64 * 0)):=hs'
 refine TG_block (i:=0) (by kernel_rfl) (TG_mono (Q1:=fun z s'=>z= .exit 0∧∃ L,normG 3 L s'=some (sOf1 st rd (hashN rd s (stq st) (s.length / 64)) s (padOf s) (64 * (s.length / 64)))) (TG_loop_inv (fun k' s'=>∃ j,k'=s.length / 64 - j∧j ≤ s.length / 64∧∃ L,normG 3 L s'=some (sOf1 st rd (hashN rd s (stq st) j) s (padOf s) (64 * j))) (by kernel_rfl) ?_ (s.length / 64) ⟨0,rfl,Nat.zero_le _,_,hs'⟩) ?_)
 · rintro k' s1 ⟨j,hk,hj,L,hs1⟩
   refine TG_norm hs1 ?_
   obtain ⟨L3,hr3⟩:=of_3b st rd (hashN rd s (stq st) j) s (padOf s) (64 * j)
   refine TG_is X4 mo anyR (by kernel_rfl) hr3 fun g hg hc=>?_
   simp only [List.mem_cons,List.not_mem_nil,or_false] at hg
   rcases hg with rfl | rfl
   · have hlt:64 * j+64 ≤ s.length:=by
      have:=of_decide_eq_true (hc _ (List.mem_singleton.2 rfl))
      rw [hO,hO] at this; omega
     refine ⟨fun p hp=>?_,fun s' hs'=>⟨s.length / 64 - (j+1),by omega,j+1,rfl,by omega,_,hs'⟩⟩
     simp only [List.mem_cons,List.not_mem_nil,or_false] at hp
     rcases hp with rfl | rfl | rfl | rfl | rfl | rfl | rfl
     · exact ieq_ok (by rw [hO]; omega) (by omega)
     · exact ieq_ok (by rw [hO]; omega) (by omega)
     · exact ⟨Int.natCast_nonneg _,by rw [hO,hO]; omega⟩
     · exact ⟨Int.natCast_nonneg _,by simp only [hO,Int.toNat_natCast]; omega⟩
     · exact hrd
     · rw [blk_len hlt]; exact Nat.le_refl _
     · exact ieq_ok (by rw [hO]; omega) (by omega)
   · have hge:¬ 64 * j+64 ≤ s.length:=by
      have:=of_decide_eq_false (hc _ (List.mem_singleton.2 rfl))
      rw [hO,hO] at this; omega
     obtain rfl:j=s.length / 64:=by omega
     refine ⟨fun p hp=>?_,fun s' hs'=>⟨rfl,_,hs'⟩⟩
     rw [List.mem_singleton] at hp; subst hp
     exact ieq_ok (by rw [hO]; omega) (by omega)
 rintro y s2 ⟨rfl,L,hs2⟩
 rw [outOf_exit]
 simp only [andThen]
 refine TG_norm hs2 ?_
 refine TG_norm (live:=[3,5]) (s2:=sOf2 st rd (hashN rd s (stq st) (s.length / 64)) (padOf s)) (by kernel_rfl) ?_
 show TG Tryz.prog 3 Tryz.f28.ntmps t2Of _ (RetG Tryz.prog 3 Tryz.f28 fun u _ _=>u= .str (shaOfQ rd (padOf s) (hashN rd s (stq st) (s.length / 64))))
 obtain ⟨kp,hkp⟩:=padOf_mod s
 have hpl:(padOf s).length ≤ 200:=by rw [padOf_len]; omega
 exact tgOf2 st rd hrd _ _ kp hkp hpl
end Go.Proofs.YtmjggdmekboefaaGreatDoor.Sha
namespace Go.Proofs.YtmjggdmekboefaaGreatDoor.Sha
open Go Go.Eng
def gS:List Int:=[1779033703,3144134277,1013904242,2773480762,1359893119,2600822924,528734635,1541459225]
def gR:List Int:=[1116352408,1899447441,3049323471,3921009573,961987163,1508970993,2453635748,2870763221,3624381080,310598401,607225278,1426881987,1925078388,2162078206,2614888103,3248222580,3835390401,4022224774,264347078,604807628,770255983,1249150122,1555081692,1996064986,2554220882,2821834349,2952996808,3210313671,3336571891,3584528711,113926993,338241895,666307205,773529912,1294757372,1396182291,1695183700,1986661051,2177026350,2456956037,2730485921,2820302411,3259730800,3345764771,3516065817,3600352804,4094571909,275423344,430227734,506948616,659060556,883997877,958139571,1322822218,1537002063,1747873779,1955562222,2024104815,2227730452,2361852424,2428436474,2756734187,3204031479,3329325298]
def sha (s:List UInt8):List UInt8:=shaOf gS gR s
theorem sha_len (s:List UInt8):(sha s).length=32:=rfl
def tabs (h:Tr O):Option (List Int × List Int):=match h.get 0,h.get 1 with
 | some (.ints .u32 st),some (.ints .u32 rd)=>some (st,rd)
 | _,_=>none
theorem tabs_some {h:Tr O} {st rd:List Int} (e:tabs h=some (st,rd)):h.get 0=some (.ints .u32 st)∧h.get 1=some (.ints .u32 rd):=by
 unfold tabs at e
 split at e
 · rename_i a b h0 h1
   simp only [Option.some.injEq,Prod.mk.injEq] at e; obtain ⟨rfl,rfl⟩:=e
   exact ⟨h0,h1⟩
 · cases e
def specOf:List V→Tr O→Option (List Prop × V)
 | [.str s],h=>match tabs h with
   | some (st,rd)=>some ([st=gS,rd=gR,s.length ≤ 1000000000],.str (sha s))
   | none=>none
 | _,_=>none
theorem tabs_rows {E:Env} {h:Tr O} {w:World} {st rd:List Int} (g0:Eng.Good E h w) (h0:h.get 0=some (.ints .u32 st)) (h1:h.get 1=some (.ints .u32 rd)):
  Eng.Good (E.rows nsG) (hSR st rd) w∧Dom (E.rows nsG) 3∧∀ m,¬ wlive (hSR st rd) m:=
 rows_ok g0 nsG [some (.u32,st),some (.u32,rd),none] (Nat.le_of_ble_eq_true rfl) nsG_ok (by
  intro j k' ks' hj
  match j,hj with
  | 0,hj=>cases hj; exact ⟨0,0,st,rfl,h0,rfl⟩
  | 1,hj=>cases hj; exact ⟨1,0,rd,rfl,h1,rfl⟩
  | 2,hj=>cases hj
  | j+3,hj=>simp at hj)
theorem one_Of:PureA Tryz.prog 28 specOf:=by
 refine ⟨Nat.le_of_ble_eq_true (by kernel_rfl),fun args h A u e=>?_⟩
 unfold specOf at e
 split at e
 case h_2=>cases e
 rename_i s
 split at e
 case h_2=>cases e
 rename_i st rd ht
 obtain ⟨h0,h1⟩:=tabs_some ht
 simp only [Option.some.injEq,Prod.mk.injEq] at e; obtain ⟨rfl,rfl⟩:=e
 refine ⟨rfl,fun hA E n' w' args' ra g0 hd hc=>?_⟩
 have e1:st=gS:=hA _ (by simp)
 have e2:rd=gR:=hA _ (by simp)
 have e3:s.length ≤ 1000000000:=hA (s.length ≤ 1000000000) (by simp)
 subst e1 e2
 obtain ⟨g2,d2,n2⟩:=tabs_rows g0 h0 h1
 exact read_calls mo po Tryz.func28 (code:=cdOf) (by kernel_rfl) (by kernel_rfl) (tgOf gS gR (Nat.le_of_ble_eq_true rfl) (Nat.le_of_ble_eq_true rfl) s e3) (E:=E.rows nsG) g2 d2 n2 (frees_rel _ _ rfl ra)
noncomputable abbrev W5:CtrW:=addW 28 (readW specOf) W4
theorem W5_ok:CtrWOk Tryz.prog W5:=addW_ok (readW_ok one_Of) W4_ok
noncomputable abbrev cs5:CallS:=callX Tryz.prog W5 H0 1000 40
noncomputable abbrev X5:CX Tryz.prog:=CX.of mo po W5_ok H0 1000 40
end Go.Proofs.YtmjggdmekboefaaGreatDoor.Sha
namespace Go.Proofs.YtmjggdmekboefaaGreatDoor.Sha
open Go Go.Eng
theorem strI_bytesI (u:List UInt8):strI (bytesI u)=u:=by
 induction u with
 | nil=>rfl
 | cons x u ih=>
   show UInt8.ofNat ((x.toNat:Int)).toNat :: strI (bytesI u)=x :: u
   rw [ih]; simp
noncomputable abbrev cdJo:Code:=bodyOf Tryz.f8
noncomputable abbrev tlJo:Code:=tailN 2 cdJo
noncomputable abbrev lpJo:Code:=seqL tlJo
noncomputable abbrev enJo:Code:=seqR tlJo
def hT:List (Nat × O):=[(0,.ints .u32 gS),(1,.ints .u32 gR)]
def strs (ps:List (List UInt8)):List D:=ps.map .str
def sJ0 (f:Bool) (ps:List (List UInt8)):St:=stG [(3,.ptr (some (3,0))),(6,.lst f ps.length (strs ps)),(7,.int .i64 (Int.ofNat ps.length)),(8,.int .i64 (Int.ofNat 0))] (hL [(0,.ints .u32 gS),(1,.ints .u32 gR),(3,.bld 73 false (.slc none 0 0 0))]) 4
def sJ1 (f:Bool) (ps:List (List UInt8)) (i len:Nat) (acc:List UInt8):St:=stG [(3,.ptr (some (3,0))),(6,.lst f ps.length (strs ps)),(7,.int .i64 (Int.ofNat ps.length)),(8,.int .i64 (Int.ofNat i))] (hL [(0,.ints .u32 gS),(1,.ints .u32 gR),(3,.bld 73 true (.slc (some (4,0)) len len 1)),(4,.buf 5 false acc)]) 5
def sJa (f:Bool) (ps:List (List UInt8)):St:=stG [(0,.lst f ps.length (strs ps)),(3,.ptr (some (3,0)))] (hL [(0,.ints .u32 gS),(1,.ints .u32 gR),(3,.bld 73 false (.slc none 0 0 0))]) 4
theorem jo_1 (f:Bool) (ps:List (List UInt8)):∃ L,RunIs Tryz.prog cs5 [] 1000 3 Tryz.f8 [0,3] (headN 2 cdJo) (startSt [.lst f ps.length (strs ps)] (hSR gS gR) 3) L
  [([],
   [],
   .to .normal (stG [(0,.lst (f) (ps.length) (strs ps)),(3,.ptr (some (3,0)))] (hL [(0,.ints .u32 gS),(1,.ints .u32 gR),(3,.bld 73 false (.slc none 0 0 0))]) 4))]
 :=RunIs.of (by kernel_rfl) (by kernel_rfl) (by kernel_rfl)
theorem jo_1a (f:Bool) (ps:List (List UInt8)):∃ L,RunIs Tryz.prog cs5 [(8,.give (.int .i64 (Int.ofNat 0)))] 1000 3 Tryz.f8 [3,6,7,8] (seqL lpJo) (sJa f ps) L
  [([],
   [(V.int IntKind.i64 (0:Int)=V.int IntKind.i64 (0:Int))],
   .to .normal (stG [(3,.ptr (some (3,0))),(6,.lst (f) (ps.length) (strs ps)),(7,.int .i64 ((Int.ofNat ps.length))),(8,.int .i64 0)] (hL [(0,.ints .u32 gS),(1,.ints .u32 gR),(3,.bld 73 false (.slc none 0 0 0))]) 4))]
 :=RunIs.of (by kernel_rfl) (by kernel_rfl) (by kernel_rfl)
theorem jo_4 (f:Bool) (ps:List (List UInt8)) (i len:Nat) (acc:List UInt8):∃ L,RunIs Tryz.prog cs5 [] 1000 3 Tryz.f8 [] (enJo) (sJ1 f ps i len acc) L
  [([],
   [(0 < len),((Int.ofNat len)=(Int.ofNat acc.length)∧0 < acc.length),(acc.length ≤ 9223372036854775807),(gS=gS),(gR=gR),(acc.length ≤ 1000000000)],
   .ret (.str (sha acc)) (hL [(0,.ints .u32 gS),(1,.ints .u32 gR)]) 3)]
 :=RunIs.of (by kernel_rfl) (by kernel_rfl) (by kernel_rfl)
end Go.Proofs.YtmjggdmekboefaaGreatDoor.Sha
namespace Go.Proofs.YtmjggdmekboefaaGreatDoor.Sha
open Go Go.Eng
def joinB (ps:List (List UInt8)):List UInt8:=ps.flatMap fun p=>put8 (Int.ofNat p.length) ++ p
theorem joinB_take {ps:List (List UInt8)} {i:Nat} {p:List UInt8} (h:ps[i]? =some p):joinB (ps.take (i+1))=joinB (ps.take i) ++ put8 (Int.ofNat p.length) ++ p:=by
 have hlt:i < ps.length:=(List.getElem?_eq_some_iff.1 h).1
 have e:ps.take (i+1)=ps.take i ++ [p]:=by
  rw [List.take_add_one,h]; rfl
 unfold joinB
 rw [e,List.flatMap_append]
 simp
theorem joinB_le (ps:List (List UInt8)) (i:Nat):(joinB (ps.take i)).length ≤ (joinB ps).length:=by
 have:joinB ps=joinB (ps.take i) ++ joinB (ps.drop i):=by
  unfold joinB; rw [← List.flatMap_append,List.take_append_drop]
 rw [this,List.length_append]; omega
theorem roomy_ok {k:Nat} (h:k ≤ 100000000000):roomy k 1 1=true:=by
 unfold roomy
 exact decide_eq_true ⟨by omega,by omega⟩
theorem strs_len (ps:List (List UInt8)):(strs ps).length=ps.length:=List.length_map ..
theorem cellsAt_strs {ps:List (List UInt8)} {i:Nat} {p:List UInt8} (h:ps[i]? =some p):cellsAt (strs ps) (i * 1) 1=[D.str p]:=by
 unfold cellsAt strs
 rw [Nat.mul_one]
 have hlt:i < ps.length:=(List.getElem?_eq_some_iff.1 h).1
 have:(ps.drop i).take 1=[p]:=by
  rw [List.drop_eq_getElem_cons hlt]
  have:ps[i]=p:=(List.getElem?_eq_some_iff.1 h).2
  simp [this]
 rw [← List.map_drop,← List.map_take,this]; rfl
theorem jo_2b (f:Bool) (ps:List (List UInt8)) (p acc:List UInt8) (h:put8 (Int.ofNat p.length) ++ strI (bytesI p)=acc):∃ L,RunIs Tryz.prog cs5 [(9,.split),(10,.give (.fptr [.str p])),(18,.give (.int .i64 (Int.ofNat 1)))] 1000 3 Tryz.f8 [3,6,7,8] (inner (inner (seqR lpJo))) (sJ0 f ps) L
  [([((decide ((0:Int) < Int.ofNat ps.length)),true)],
   [((0:Int) ≤ (0:Int)∧(0:Int) < (Int.ofNat ps.length)),((strs ps).length=ps.length * 1),(V.fptr (cellsAt (strs ps) 0 1)=V.fptr [D.str p]),(0 < (put8 (Int.ofNat p.length)).length),(roomy (put8 (Int.ofNat p.length)).length 1 1=true),(0 < (put8 (Int.ofNat p.length)).length),((put8 (Int.ofNat p.length)).length=(put8 (Int.ofNat p.length)).length),(roomy ((put8 (Int.ofNat p.length)).length+p.length) 1 1=true),(V.int IntKind.i64 (1:Int)=V.int IntKind.i64 (1:Int))],
   .to .normal (sJ1 f ps 1 ((put8 (Int.ofNat p.length)).length+p.length) acc)),
  ([((decide ((0:Int) < Int.ofNat ps.length)),false)],[],.to (.exit 0) (sJ0 f ps))]:=by
 subst h
 exact RunIs.of (by kernel_rfl) (by kernel_rfl) (by kernel_rfl)
theorem jo_3b (f:Bool) (ps:List (List UInt8)) (p:List UInt8) (i len:Nat) (acc acc2:List UInt8) (h:acc ++ strI (bytesI (put8 (Int.ofNat p.length))) ++ strI (bytesI p)=acc2):∃ L,RunIs Tryz.prog cs5 [(9,.split),(10,.give (.fptr [.str p])),(18,.give (.int .i64 (Int.ofNat (i+1))))] 1000 3 Tryz.f8 [3,6,7,8] (inner (inner (seqR lpJo))) (sJ1 f ps i len acc) L
  [([((decide (Int.ofNat i < Int.ofNat ps.length)),true)],
   [((0:Int) ≤ Int.ofNat i∧Int.ofNat i < (Int.ofNat ps.length)),((strs ps).length=ps.length * 1),(V.fptr (cellsAt (strs ps) ((Int.ofNat i).toNat * 1) 1)=V.fptr [D.str p]),(0 < len),(len=acc.length),(roomy (len+(put8 (Int.ofNat p.length)).length) 1 1=true),(0 < len+(put8 (Int.ofNat p.length)).length),(len+(put8 (Int.ofNat p.length)).length=(acc ++ strI (bytesI (put8 (Int.ofNat p.length)))).length),(roomy (len+(put8 (Int.ofNat p.length)).length+p.length) 1 1=true),ieq (Int.ofNat i+1) (i+1)],
   .to .normal (sJ1 f ps (i+1) (len+(put8 (Int.ofNat p.length)).length+p.length) acc2)),
  ([((decide (Int.ofNat i < Int.ofNat ps.length)),false)],[],.to (.exit 0) (sJ1 f ps i len acc))]:=by
 subst h
 exact RunIs.of (by kernel_rfl) (by kernel_rfl) (by kernel_rfl)
def JoI (f:Bool) (ps:List (List UInt8)) (k':Nat) (s:St):Prop:=∃ i,k'=ps.length - i∧i ≤ ps.length∧((i=0∧∃ L,normG 3 L s=some (sJ0 f ps)) ∨ (0 < i∧∃ L,normG 3 L s=some (sJ1 f ps i (joinB (ps.take i)).length (joinB (ps.take i)))))
set_option maxRecDepth 20000 in
theorem tgJo (f:Bool) (ps:List (List UInt8)) (h0:0 < ps.length) (hps:ps.length ≤ 1000000000) (hs:(joinB ps).length ≤ 1000000000):TG Tryz.prog 3 Tryz.f8.ntmps cdJo (startSt [.lst f ps.length (strs ps)] (hSR gS gR) 3)
  (RetG Tryz.prog 3 Tryz.f8 fun u _ _=>u= .str (sha (joinB ps))):=by
 have hO:∀ n:Nat,Int.ofNat n=(n:Int):=fun _=>rfl
 have hb:=joinB_le ps
 have hl8:=fun x=>put8_len x
 obtain ⟨L1,hr1⟩:=jo_1 f ps
 refine TG_isN1 2 X5 mo (by kernel_rfl) hr1 all_nil ?_
 show TG Tryz.prog 3 Tryz.f8.ntmps tlJo (sJa f ps) _
 refine TG_seq' (by kernel_rfl) ?_
 refine TG_seq' (by kernel_rfl) ?_
 obtain ⟨L2,hr2⟩:=jo_1a f ps
 refine TG_is X5 mo anyR (by kernel_rfl) hr2 fun g hg _=>?_
 rw [List.mem_singleton] at hg; subst hg
 refine ⟨fun p hp=>by rw [List.mem_singleton] at hp; subst hp; rfl,fun s' hs'=>?_⟩
 have hs':normG 3 [3,6,7,8] s'=some (sJ0 f ps):=hs'
 refine TG_block (i:=0) (by kernel_rfl) (TG_mono (Q1:=fun z s'=>z= .exit 0∧∃ L,normG 3 L s'=some (sJ1 f ps ps.length (joinB ps).length (joinB ps))) (TG_loop_inv (JoI f ps) (by kernel_rfl) ?_ ps.length ⟨0,rfl,Nat.zero_le _,.inl ⟨rfl,_,hs'⟩⟩) ?_)
 · rintro k' s1 ⟨i,hk,hi,⟨rfl,L,hs1⟩ | ⟨h1,L,hs1⟩⟩
   · refine TG_norm hs1 ?_
     obtain ⟨p,hp⟩:∃ p,ps[0]? =some p:=⟨_,List.getElem?_eq_getElem h0⟩
     have hj:=joinB_take hp
     have hj:joinB (ps.take 1)=put8 (Int.ofNat p.length) ++ p:=hj
     have hb1:=hb 1
     rw [hj,List.length_append,hl8] at hb1
     obtain ⟨L3,hr3⟩:=jo_2b f ps p (joinB (ps.take 1)) (by rw [strI_bytesI,hj])
     refine TG_is X5 mo anyR (by kernel_rfl) hr3 fun g hg hc=>?_
     simp only [List.mem_cons,List.not_mem_nil,or_false] at hg
     rcases hg with rfl | rfl
     · refine ⟨fun p' hp'=>?_,fun s' hs'=>⟨ps.length - 1,by omega,1,rfl,by omega,.inr ⟨by omega,[3,6,7,8],?_⟩⟩⟩
       · revert p' hp'
         repeat' (first | exact all_nil | refine List.forall_mem_cons.2 ⟨?_,?_⟩)
         · exact ⟨by decide,by rw [hO]; omega⟩
         · rw [strs_len,Nat.mul_one]
         · exact congrArg V.fptr (cellsAt_strs hp)
         · rw [hl8]; decide
         · rw [hl8]; rfl
         · rw [hl8]; decide
         · first | rfl | trivial
         · rw [hl8]; exact roomy_ok (by omega)
         · first | rfl | trivial
       · rw [hs',hj,List.length_append]
     · exact absurd (of_decide_eq_false (hc _ (List.mem_singleton.2 rfl))) (by rw [hO]; omega)
   · refine TG_norm hs1 ?_
     rcases Nat.lt_or_ge i ps.length with hlt | hge
     · obtain ⟨p,hp⟩:∃ p,ps[i]? =some p:=⟨_,List.getElem?_eq_getElem hlt⟩
       have hj:=joinB_take hp
       have hb1:=hb (i+1)
       rw [hj,List.length_append,List.length_append,hl8] at hb1
       have hpos:0 < (joinB (ps.take i)).length:=by
        obtain ⟨j,rfl⟩:∃ j,i=j+1:=⟨i - 1,by omega⟩
        rw [joinB_take (List.getElem?_eq_getElem (show j < ps.length by omega)),List.length_append,List.length_append,hl8]; omega
       obtain ⟨L3,hr3⟩:=jo_3b f ps p i (joinB (ps.take i)).length (joinB (ps.take i)) (joinB (ps.take (i+1))) (by rw [strI_bytesI,strI_bytesI,hj])
       refine TG_is X5 mo anyR (by kernel_rfl) hr3 fun g hg hc=>?_
       simp only [List.mem_cons,List.not_mem_nil,or_false] at hg
       rcases hg with rfl | rfl
       · refine ⟨fun p' hp'=>?_,fun s' hs'=>⟨ps.length - (i+1),by omega,i+1,rfl,by omega,.inr ⟨by omega,[3,6,7,8],?_⟩⟩⟩
         · revert p' hp'
           repeat' (first | exact all_nil | refine List.forall_mem_cons.2 ⟨?_,?_⟩)
           · exact ⟨Int.natCast_nonneg _,by rw [hO,hO]; omega⟩
           · rw [strs_len,Nat.mul_one]
           · exact congrArg V.fptr (cellsAt_strs hp)
           · exact hpos
           · first | rfl | trivial
           · rw [hl8]; exact roomy_ok (by omega)
           · rw [hl8]; omega
           · rw [strI_bytesI,List.length_append]
           · rw [hl8]; exact roomy_ok (by omega)
           · exact ieq_ok (by rw [hO]; omega) (by omega)
         · rw [hs',hj,List.length_append,List.length_append]
       · exact absurd (of_decide_eq_false (hc _ (List.mem_singleton.2 rfl))) (by rw [hO,hO]; omega)
     · obtain rfl:i=ps.length:=by omega
       obtain ⟨L3,hr3⟩:=jo_3b f ps [] ps.length (joinB (ps.take ps.length)).length (joinB (ps.take ps.length)) _ rfl
       refine TG_is X5 mo anyR (by kernel_rfl) hr3 fun g hg hc=>?_
       simp only [List.mem_cons,List.not_mem_nil,or_false] at hg
       rcases hg with rfl | rfl
       · exact absurd (of_decide_eq_true (hc _ (List.mem_singleton.2 rfl))) (by rw [hO]; omega)
       · refine ⟨all_nil,fun s' hs'=>⟨rfl,[3,6,7,8],?_⟩⟩
         rw [hs',List.take_length]
 rintro y s2 ⟨rfl,L,hs2⟩
 rw [outOf_exit]
 simp only [andThen]
 refine TG_norm hs2 ?_
 have hpos:0 < (joinB ps).length:=by
  have hj:=joinB_take (List.getElem?_eq_getElem h0)
  have hb1:=hb 1
  rw [hj,List.length_append,List.length_append,hl8] at hb1
  omega
 obtain ⟨L5,hr5⟩:=jo_4 f ps ps.length (joinB ps).length (joinB ps)
 refine TG_ret X5 mo _ (by kernel_rfl) hr5 fun g hg _=>?_
 rw [List.mem_singleton] at hg; subst hg
 refine ⟨fun p' hp'=>?_,_,_,_,rfl,rfl⟩
 revert p' hp'
 repeat' (first | exact all_nil | refine List.forall_mem_cons.2 ⟨?_,?_⟩)
 · exact hpos
 · exact ⟨rfl,hpos⟩
 · omega
 · first | rfl | trivial
 · first | rfl | trivial
 · exact hs
end Go.Proofs.YtmjggdmekboefaaGreatDoor.Sha
namespace Go.Proofs.YtmjggdmekboefaaGreatDoor.Sha
open Go Go.Eng
def TabsTo (f:FuncId) (args:List V) (v:V):Prop:=∀ E h n w args',tabs h=some (gS,gR)→vrels E args args'→Eng.Good E h w→Dom E n→Calls Tryz.prog f args'.toArray w (CPost E h n w (.ret v) h n)
def tW (f:List D→Option (List Prop × V)):List V→Tr O→Nat→Option (List Prop × V × Tr O × Nat):=fun args h n=>match tabs h,dargs args with
 | some (st,rd),some ds=>match f ds with
   | some (A,v)=>some ((st=gS) :: (rd=gR) :: A,v,h,n)
   | none=>none
 | _,_=>none
theorem tW_ok {f:FuncId} {spec:List D→Option (List Prop × V)} (hlt:f < Tryz.prog.funcs.size) (h:∀ args A v,spec args=some (A,v)→(∀ a ∈ A,a)→TabsTo f (args.map D.toV) v):OneW Tryz.prog f (tW spec):=by
 refine ⟨hlt,fun args h' n A v h2 n2 e hA E w args' ra g hd hc=>?_⟩
 unfold tW at e
 split at e
 case h_2=>cases e
 rename_i st rd ds ht hds
 split at e
 case h_2=>cases e
 rename_i A' v' hs
 simp only [Option.some.injEq,Prod.mk.injEq] at e
 obtain ⟨rfl,rfl,rfl,rfl⟩:=e
 have e1:st=gS:=hA _ (by simp)
 have e2:rd=gR:=hA _ (by simp)
 subst e1 e2
 exact h ds _ _ hs (fun a ha=>hA a (by simp [ha])) E h' n w args' ht (dargs_rel hds ra) g hd
theorem tabs_calls {f:FuncId} {fn:Func} {code:Code} (hf:Tryz.prog.funcs[f]? =some fn) (hb:fn.body=some code) {args:List V}
  (l:(Nat.ble args.length fn.ntmps && Nat.blt fn.ntmps top)=true) {v:V} (hdp:V.deeps args=true) (hv:v.deep=true) (hT:TG Tryz.prog 3 fn.ntmps code (startSt args (hSR gS gR) 3) (RetG Tryz.prog 3 fn (FzTo v))):TabsTo f args v:=by
 intro E h n w args' ht ra g hd
 obtain ⟨h0,h1⟩:=tabs_some ht
 obtain ⟨g0,d0,n0⟩:=tabs_rows g h0 h1
 have ra0:vrels (E.rows nsG) args args':=deeps_rel (E:=E) (E':=E.rows nsG) (fun _ _ q=>q) _ _ hdp ra
 exact (calls_of_TG mo po hf hb l _ hT ra0 g0 d0).mono fun e w' ⟨u,h',n',hz,k⟩=>cpost_deep (E1:=E.rows nsG) g hd rfl n0 hv hz k
theorem RetG_self {P:Program} {n0:Nat} {fn:Func} {v:V} {y:Exit} {s:St} (h:RetG P n0 fn (fun u _ _=>u=v) y s):RetG P n0 fn (FzTo v) y s:=by
 obtain ⟨hy,u,h',n',e,rfl⟩:=h
 exact ⟨hy,_,h',n',e,.self⟩
def D.strB:D→List UInt8
 | .str p=>p
 | _=>[]
def strL (cs:List D):List (List UInt8):=cs.map D.strB
theorem strL_strs (ps:List (List UInt8)):strL (strs ps)=ps:=by
 unfold strL strs; rw [List.map_map]
 exact List.map_id ps
def specJo:List D→Option (List Prop × V)
 | [.lst n cs]=>some ([cs=strs (strL cs),n=(strL cs).length,0 < n,n ≤ 1000000000,(joinB (strL cs)).length ≤ 1000000000],.str (sha (joinB (strL cs))))
 | _=>none
theorem one_Jo:OneW Tryz.prog 8 (tW specJo):=by
 refine tW_ok (Nat.le_of_ble_eq_true (by kernel_rfl)) fun args A v e hA=>?_
 unfold specJo at e
 split at e
 case h_2=>cases e
 rename_i n cs
 simp only [Option.some.injEq,Prod.mk.injEq] at e
 obtain ⟨rfl,rfl⟩:=e
 have e1:cs=strs (strL cs):=hA _ (by simp)
 have e2:n=(strL cs).length:=hA (n=(strL cs).length) (by simp)
 have e3:0 < n:=hA (0 < n) (by simp)
 have e4:n ≤ 1000000000:=hA (n ≤ 1000000000) (by simp)
 have e5:(joinB (strL cs)).length ≤ 1000000000:=hA ((joinB (strL cs)).length ≤ 1000000000) (by simp)
 generalize strL cs=ps at *
 subst e1 e2
 exact tabs_calls Tryz.func8 (by kernel_rfl) (by kernel_rfl) rfl rfl (TG_mono (tgJo false ps e3 e4 e5) fun y s h=>RetG_self h)
noncomputable abbrev W6:CtrW:=addW 8 (tW specJo) W5
theorem W6_ok:CtrWOk Tryz.prog W6:=addW_ok one_Jo W5_ok
end Go.Proofs.YtmjggdmekboefaaGreatDoor.Sha
