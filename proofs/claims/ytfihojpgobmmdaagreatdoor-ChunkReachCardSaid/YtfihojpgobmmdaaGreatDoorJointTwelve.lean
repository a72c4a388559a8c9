/- The Chunk laws: a record applied: pieces. No conditions. -/
import Derived.Test.YtfihojpgobmmdaaGreatDoorJointTen
import Derived.Test.YtfihojpgobmmdaaGreatDoorJointEleven
set_option linter.unusedVariables false
set_option linter.unusedSimpArgs false
set_option linter.unusedSectionVars false
namespace Go.Proofs.YtfihojpgobmmdaaGreatDoor
open Go Go.Eng
noncomputable abbrev cdAy:Code:=bodyOf Tryz.f83
noncomputable abbrev inAy:Code:=inner (tailN 2 cdAy)
noncomputable abbrev thAy:Code:=condT (seqR inAy)
def bdB:List UInt8:=[1,1,121,1] ++ dA
theorem ay_1 (len cap:Nat) (b:List UInt8) (fl nx lf:Int) (es rt:List (D × D)):∃ L,RunIs Tryz.prog (csQ []) [] 1000 7 Tryz.f83 [0,4,11] (headN 2 cdAy) (startSt [.ptr (some (3,0)),.str bdB] (memS (pS len cap b fl nx lf es rt)) 7) L
  [([],
   [((0:Int) ≤ (1:Int)∧(1:Int) ≤ (36:Int)),((0:Int) ≤ (0:Int)∧(0:Int) ≤ (1:Int)),((0:Int) ≤ (0:Int)∧(0:Int) < (1:Int)),(0 < 1)],
   .to .normal (stG [(0,.ptr (some (3,0))),(4,.ptr (some (7,0))),(11,.int .i64 1)] (hL [(0,.ints .u32 gS),(1,.ints .u32 gR),(3,.cells [.slc (some (4,0)) len cap 1,.int .i64 ((pS len cap b fl nx lf es rt).fl),.map (some 5),.map (some 6),.int .i64 ((pS len cap b fl nx lf es rt).nx),.bool false,.bool false,.int .i64 ((pS len cap b fl nx lf es rt).lf)]),(4,.buf 5 false (b)),(5,.mapD none ((pS len cap b fl nx lf es rt).es)),(6,.mapD none ((pS len cap b fl nx lf es rt).rs)),(7,.cells [.str [1,1,121,1,2,143,13,245,184,89,111,188,209,12,151,32,183,164,120,79,142,126,4,246,41,189,90,98,191,189,241,57,103,139,102,36],.int .i64 1,.bool false])]) 8))]
 :=RunIs.of (by kernel_rfl) (by kernel_rfl) (by kernel_rfl)
def stAy (fr:List (Nat × V)) (extra:List (Nat × O)) (n:Nat) (len cap:Nat) (b:List UInt8) (fl nx lf:Int) (es rt:List (D × D)):St:=stG fr (hL (memL (pS len cap b fl nx lf es rt) ++ extra)) n
theorem ay_2 (len cap:Nat) (b:List UInt8) (fl nx lf:Int) (es rt:List (D × D)):∃ L,RunIs Tryz.prog (csQ []) [] 1000 7 Tryz.f83 [0,4,12] (seqL inAy) (stAy [(0,.ptr (some (3,0))),(4,.ptr (some (7,0))),(11,.int .i64 1)] [(7,.cells [.str bdB,.int .i64 1,.bool false])] 8 len cap b fl nx lf es rt) L
  [([],
   [],
   .to .normal (stG [(0,.ptr (some (3,0))),(4,.ptr (some (7,0))),(12,.bool true)] (hL [(0,.ints .u32 gS),(1,.ints .u32 gR),(3,.cells [.slc (some (4,0)) len cap 1,.int .i64 ((pS len cap b fl nx lf es rt).fl),.map (some 5),.map (some 6),.int .i64 ((pS len cap b fl nx lf es rt).nx),.bool false,.bool false,.int .i64 ((pS len cap b fl nx lf es rt).lf)]),(4,.buf 5 false (b)),(5,.mapD none ((pS len cap b fl nx lf es rt).es)),(6,.mapD none ((pS len cap b fl nx lf es rt).rs)),(7,.cells [.str [1,1,121,1,2,143,13,245,184,89,111,188,209,12,151,32,183,164,120,79,142,126,4,246,41,189,90,98,191,189,241,57,103,139,102,36],.int .i64 1,.bool false])]) 8))]
 :=RunIs.of (by kernel_rfl) (by kernel_rfl) (by kernel_rfl)
theorem ay_3 (len cap:Nat) (b:List UInt8) (fl nx lf:Int) (es rt:List (D × D)):∃ L,RunIs Tryz.prog (csQ []) [] 1000 7 Tryz.f83 [0,4,5,6] (headN 2 thAy) (stAy [(0,.ptr (some (3,0))),(4,.ptr (some (7,0))),(12,.bool true)] [(7,.cells [.str bdB,.int .i64 1,.bool false])] 8 len cap b fl nx lf es rt) L
  [([],
   [((0:Int) ≤ (1:Int)∧1 < 36),((0:Int) ≤ (3:Int)∧(3:Int) ≤ (36:Int)),((0:Int) ≤ (2:Int)∧(2:Int) ≤ (3:Int))],
   .to .normal (stG [(0,.ptr (some (3,0))),(4,.ptr (some (7,0))),(5,.str [121]),(6,.slc none 0 0 0)] (hL [(0,.ints .u32 gS),(1,.ints .u32 gR),(3,.cells [.slc (some (4,0)) len cap 1,.int .i64 ((pS len cap b fl nx lf es rt).fl),.map (some 5),.map (some 6),.int .i64 ((pS len cap b fl nx lf es rt).nx),.bool false,.bool false,.int .i64 ((pS len cap b fl nx lf es rt).lf)]),(4,.buf 5 false (b)),(5,.mapD none ((pS len cap b fl nx lf es rt).es)),(6,.mapD none ((pS len cap b fl nx lf es rt).rs)),(7,.cells [.str [1,1,121,1,2,143,13,245,184,89,111,188,209,12,151,32,183,164,120,79,142,126,4,246,41,189,90,98,191,189,241,57,103,139,102,36],.int .i64 3,.bool false])]) 8))]
 :=RunIs.of (by kernel_rfl) (by kernel_rfl) (by kernel_rfl)
theorem ay_4 (len cap:Nat) (b:List UInt8) (fl nx lf:Int) (es rt:List (D × D)):∃ L,RunIs Tryz.prog (csQ []) [] 1000 7 Tryz.f83 [0,5,6] (seqL (tailN 2 thAy)) (stAy [(0,.ptr (some (3,0))),(4,.ptr (some (7,0))),(5,.str [121]),(6,.slc none 0 0 0)] [(7,.cells [.str bdB,.int .i64 3,.bool false])] 8 len cap b fl nx lf es rt) L
  [([],
   [((0:Int) ≤ (3:Int)∧3 < 36),((0:Int) ≤ (36:Int)∧(36:Int) ≤ (36:Int)),((0:Int) ≤ (4:Int)∧(4:Int) ≤ (36:Int))],
   .to .normal (stG [(0,.ptr (some (3,0))),(5,.str [121]),(6,.slc (some (7,0)) 1 1 1)] (hL [(0,.ints .u32 gS),(1,.ints .u32 gR),(3,.cells [.slc (some (4,0)) len cap 1,.int .i64 ((pS len cap b fl nx lf es rt).fl),.map (some 5),.map (some 6),.int .i64 ((pS len cap b fl nx lf es rt).nx),.bool false,.bool false,.int .i64 ((pS len cap b fl nx lf es rt).lf)]),(4,.buf 5 false (b)),(5,.mapD none ((pS len cap b fl nx lf es rt).es)),(6,.mapD none ((pS len cap b fl nx lf es rt).rs)),(7,.cells [.str [2,143,13,245,184,89,111,188,209,12,151,32,183,164,120,79,142,126,4,246,41,189,90,98,191,189,241,57,103,139,102,36]])]) 8))]
 :=RunIs.of (by kernel_rfl) (by kernel_rfl) (by kernel_rfl)
end Go.Proofs.YtfihojpgobmmdaaGreatDoor
namespace Go.Proofs.YtfihojpgobmmdaaGreatDoor
open Go Go.Eng
section
variable (len cap:Nat) (b:List UInt8) (fl nx lf:Int) (es rt:List (D × D))
noncomputable abbrev stE:St:=stG [(0,.ptr (some (3,0))),(5,.str [121]),(6,.lst false 1 [.str dA])] (hL (memL (pS len cap b fl nx lf es rt))) 7
def memA (key:List UInt8):Tr O:=memS (pS len cap b fl (IntKind.i64.wrap (nx+1)) lf (updD (.str key) (entD [121] [dA] nx) es) rt)
theorem ay_5:EndIs Tryz.prog (csQ []) [] 1000 7 Tryz.f83 (seqR (tailN 2 thAy)) (stE len cap b fl nx lf es rt)
  [([],[gS=gS,gR=gR,[D.str dA]=strs (strL [.str dA]),1=(strL [.str dA]).length,1 ≤ 1000000,(joinB ([121] :: strL [.str dA])).length ≤ 1000000000,0 < 1,[D.str dA].length=1,1 ≤ 1000000],.ret (.tup []) (memA len cap b fl nx lf es rt (nameOf [121] (strL [.str dA]))) 7)]:=
 ⟨by kernel_rfl,by kernel_rfl,by kernel_rfl⟩
set_option maxRecDepth 20000 in
theorem tgAy:TG Tryz.prog 7 Tryz.f83.ntmps cdAy (startSt [.ptr (some (3,0)),.str bdB] (memS (pS len cap b fl nx lf es rt)) 7) (RetG Tryz.prog 7 Tryz.f83 fun v h n=>v= .tup []∧h=memA len cap b fl nx lf es rt dB∧n=7):=by
 obtain ⟨L1,hr1⟩:=ay_1 len cap b fl nx lf es rt
 refine TG_isN1 2 (XQ []) mo (by kernel_rfl) hr1 ?_ ?_
 · repeat' (first | exact all_nil | refine List.forall_mem_cons.2 ⟨?_,?_⟩)
   all_goals first | decide | trivial
 refine TG_block (i:=0) (by kernel_rfl) ?_
 refine TG_mono (Q1:=RetG Tryz.prog 7 Tryz.f83 fun v h n=>v= .tup []∧h=memA len cap b fl nx lf es rt dB∧n=7) ?_ fun y s h=>RetG_outOf h
 show TG Tryz.prog 7 Tryz.f83.ntmps inAy (stAy [(0,.ptr (some (3,0))),(4,.ptr (some (7,0))),(11,.int .i64 1)] [(7,.cells [.str bdB,.int .i64 1,.bool false])] 8 len cap b fl nx lf es rt) _
 refine TG_seq' (by kernel_rfl) ?_
 obtain ⟨L2,hr2⟩:=ay_2 len cap b fl nx lf es rt
 refine TG_is (XQ []) mo anyR (by kernel_rfl) hr2 fun g hg _=>?_
 rw [List.mem_singleton] at hg; subst hg
 refine ⟨all_nil,fun s' hs'=>?_⟩
 refine TG_norm hs' ?_
 refine TG_cond (t:=true) (by kernel_rfl) (by kernel_rfl) (fun _=>?_) (fun h=>by cases h)
 show TG Tryz.prog 7 Tryz.f83.ntmps thAy (stAy [(0,.ptr (some (3,0))),(4,.ptr (some (7,0))),(12,.bool true)] [(7,.cells [.str bdB,.int .i64 1,.bool false])] 8 len cap b fl nx lf es rt) _
 obtain ⟨L3,hr3⟩:=ay_3 len cap b fl nx lf es rt
 refine TG_isN1 2 (XQ []) mo (by kernel_rfl) hr3 ?_ ?_
 · repeat' (first | exact all_nil | refine List.forall_mem_cons.2 ⟨?_,?_⟩)
   all_goals first | decide | trivial
 show TG Tryz.prog 7 Tryz.f83.ntmps (tailN 2 thAy) (stAy [(0,.ptr (some (3,0))),(4,.ptr (some (7,0))),(5,.str [121]),(6,.slc none 0 0 0)] [(7,.cells [.str bdB,.int .i64 3,.bool false])] 8 len cap b fl nx lf es rt) _
 refine TG_seq' (by kernel_rfl) ?_
 obtain ⟨L4,hr4⟩:=ay_4 len cap b fl nx lf es rt
 refine TG_is (XQ []) mo anyR (by kernel_rfl) hr4 fun g hg _=>?_
 rw [List.mem_singleton] at hg; subst hg
 refine ⟨?_,fun s' hs'=>?_⟩
 · repeat' (first | exact all_nil | refine List.forall_mem_cons.2 ⟨?_,?_⟩)
   all_goals first | decide | trivial
 refine TG_norm hs' ?_
 refine TG_deep [7] (s2:=stAy [(0,.ptr (some (3,0))),(5,.str [121]),(6,.slc (some (7,0)) 1 1 1)] [(7,.deep [.str dA])] 8 len cap b fl nx lf es rt) (by kernel_rfl) ?_
 refine TG_frz [7] (A:=[[D.str dA].length=1 * 1]) (s2:={ stAy [(0,.ptr (some (3,0))),(5,.str [121]),(6,.lst false 1 [.str dA])] [(7,.deep [.str dA])] 8 len cap b fl nx lf es rt with h:=(hL (memL (pS len cap b fl nx lf es rt) ++ [(7,.deep [.str dA])])).set 7 none }) (by kernel_rfl) (fun x hx=>?_) ?_
 · rw [List.mem_singleton] at hx; subst hx; rfl
 refine TG_norm (live:=[0,5,6]) (s2:=stE len cap b fl nx lf es rt) (by kernel_rfl) ?_
 have hr5:=ay_5 len cap b fl nx lf es rt
 have e1:strL [.str dA]=[dA]:=rfl
 simp only [e1,nB_is] at hr5
 refine TG_end (XQ []) mo _ (by kernel_rfl) hr5 fun g hg _=>?_
 rw [List.mem_singleton] at hg; subst hg
 refine ⟨?_,_,_,_,rfl,rfl,rfl,rfl⟩
 repeat' (first | exact all_nil | refine List.forall_mem_cons.2 ⟨?_,?_⟩)
 all_goals first | rfl | decide | trivial
end
def specAy:SpecS:=fun p args=>match p.lo,p.off,p.arm with
 | some (len,cap,b),false,false=>match args with
   | [.ptr (some (3,0)),.str body]=>match beqB body bdB with
     | true=>some ([],.tup [],memA len cap b p.fl p.nx p.lf p.es p.rs dB,7)
     | false=>none
   | _=>none
 | _,_,_=>none
theorem beqB_true:∀ {a b:List UInt8},beqB a b=true→a=b
 | [],[],_=>rfl
 | x :: a,y :: b,h=>by
   simp only [beqB] at h
   split at h
   · rename_i hx
     rw [beqB_true h,UInt8.toNat_inj.1 (Nat.eq_of_beq_eq_true hx)]
   · cases h
 | [],_ :: _,h=>by cases h
 | _ :: _,[],h=>by cases h
theorem one_Ay:OneW Tryz.prog 83 (stoW specAy):=by
 refine stoW_ok (Nat.le_of_ble_eq_true (by kernel_rfl)) Tryz.func83 (code:=cdAy) (by kernel_rfl) fun p args A v1 h1 n1 e hA=>?_
 obtain ⟨lo,fl,nx,off,arm,lf,es,rs⟩:=p
 unfold specAy at e
 simp only at e
 split at e
 case h_2=>cases e
 rename_i x1 x2 x3 len cap b
 split at e
 case h_2=>cases e
 rename_i body
 split at e
 case h_2=>cases e
 rename_i hb
 have hb:=beqB_true hb
 subst hb
 simp only [Option.some.injEq,Prod.mk.injEq] at e
 obtain ⟨rfl,rfl,rfl,rfl⟩:=e
 exact ⟨by kernel_rfl,tgAy len cap b fl nx lf es rs⟩
noncomputable abbrev W15:CtrW:=addW 83 (stoW specAy) W14
theorem W15_ok:CtrWOk Tryz.prog W15:=addW_ok one_Ay W14_ok
noncomputable abbrev csT:CallS:=callX Tryz.prog W15 H0 1000 40
noncomputable abbrev XT:CX Tryz.prog:=CX.of mo po W15_ok H0 1000 40
end Go.Proofs.YtfihojpgobmmdaaGreatDoor
namespace Go.Proofs.YtfihojpgobmmdaaGreatDoor
open Go Go.Eng
noncomputable abbrev cdRv:Code:=bodyOf Tryz.f57
noncomputable abbrev tlRv:Code:=tailN 3 cdRv
noncomputable abbrev rgRv:Code:=inner (seqR (seqL tlRv))
noncomputable abbrev asRv:Code:=Eng.rA rgRv
noncomputable abbrev boRv:Code:=Eng.rB rgRv
def log3:List UInt8:=log2 ++ rN
def v103:V:=.fn (.func 103) [] [.ptr (some (11,0))]
section
variable (len cap:Nat) (b:List UInt8) (fl lf:Int) (es rt:List (D × D))
def lRv (nx:Int) (es1 rt1:List (D × D)) (en:Int):List (Nat × O):=[(0,.ints .u32 gS),(1,.ints .u32 gR),(3,.cells [.slc (some (4,0)) len cap 1,.int .i64 fl,.map (some 7),.map (some 8),.int .i64 nx,.bool false,.bool false,.int .i64 lf]),(4,.buf 5 false b),(5,.mapD none es),(6,.mapD none rt),(7,.mapD none es1),(8,.mapD none rt1),(9,.cells [.ptr (some (3,0))]),(10,.cells [.int .i64 en])]
def sRv:St:=stG [(1,.ptr (some (9,0))),(2,.ptr (some (10,0))),(12,v103)] (hL (lRv len cap b fl lf es rt 0 [] [] 0 ++ [(11,.cells [.str log3])])) 12
noncomputable def hRv (nx:Int) (es1 rt1:List (D × D)) (en:Int):Tr O:=hL (lRv len cap b fl lf es rt nx es1 rt1 en ++ [(11,.cells [.str log3]),(12,.dfr),(13,.loop true none (sRv len cap b fl lf es rt).fr [13,14] asRv boRv)])
end
theorem rv_2 (len cap:Nat) (b:List UInt8) (fl lf:Int) (es rt:List (D × D)):∃ L,RunIs Tryz.prog csT [(11,.give (.str log3))] 1000 7 Tryz.f57 [1,2,12] (seqL (seqL tlRv)) (stG [(1,.ptr (some (9,0))),(2,.ptr (some (10,0)))] (hL (lRv len cap b fl lf es rt 0 [] [] 0)) 11) L
  [([],
   [(0+len ≤ b.length),(V.str (List.take len (List.drop 0 b))=V.str log3)],
   .to .normal (stG [(1,.ptr (some (9,0))),(2,.ptr (some (10,0))),(12,.fn (.func 103) [] [.ptr (some (11,0))])] (hL [(0,.ints .u32 gS),(1,.ints .u32 gR),(3,.cells [.slc (some (4,0)) len cap 1,.int .i64 fl,.map (some 7),.map (some 8),.int .i64 0,.bool false,.bool false,.int .i64 lf]),(4,.buf 5 false (b)),(5,.mapD none (es)),(6,.mapD none (rt)),(7,.mapD none []),(8,.mapD none []),(9,.cells [.ptr (some (3,0))]),(10,.cells [.int .i64 0]),(11,.cells [.str [4,1,1,120,0,127,220,33,176,36,1,1,121,1,2,143,13,245,184,89,111,188,209,12,151,32,183,164,120,79,142,126,4,246,41,189,90,98,191,189,241,57,103,139,102,36,200,76,115,100,36,2,1,114,32,2,0,227,41,71,203,8,171,164,202,84,84,254,249,10,138,12,255,62,110,197,82,81,216,2,100,190,234,142,14,23,255,137,56,251,159]])]) 12))]
 :=RunIs.of (by kernel_rfl) (by kernel_rfl) (by kernel_rfl)
end Go.Proofs.YtfihojpgobmmdaaGreatDoor
namespace Go.Proofs.YtfihojpgobmmdaaGreatDoor
open Go Go.Eng
def es2:List (D × D):=[(.str dA,eA),(.str dB,eB)]
def asR:List Prop:=[((0:Int) ≤ (0:Int)∧0 < 91),((0:Int) ≤ (5:Int)∧(5:Int) ≤ (91:Int)),((0:Int) ≤ (1:Int)∧(1:Int) ≤ (5:Int)),((0:Int) ≤ (9:Int)∧(9:Int) ≤ (91:Int)),((0:Int) ≤ (5:Int)∧(5:Int) ≤ (9:Int)),((0:Int) ≤ (0:Int)∧(0:Int) < (4:Int)),(0 < 4),((0:Int) ≤ (1:Int)∧(1:Int) < (4:Int)),(1 < 4),((0:Int) ≤ (2:Int)∧(2:Int) < (4:Int)),(2 < 4),((0:Int) ≤ (3:Int)∧(3:Int) < (4:Int)),(3 < 4),(4 < 1000000000),((0:Int) ≤ (1:Int)∧(1:Int) ≤ (4:Int)),((0:Int) ≤ (0:Int)∧(0:Int) ≤ (1:Int)),((0:Int) ≤ (0:Int)∧(0:Int) < (1:Int)),(0 < 1),((0:Int) ≤ (1:Int)∧1 < 4),((0:Int) ≤ (3:Int)∧(3:Int) ≤ (4:Int)),((0:Int) ≤ (2:Int)∧(2:Int) ≤ (3:Int)),((0:Int) ≤ (3:Int)∧3 < 4),(gS=gS),(gR=gR),([]=strs (strL [])),(0=0),(0 ≤ 1000000),(9 ≤ 1000000000),((0:Int) ≤ (9:Int)∧9 < 91),((0:Int) ≤ (46:Int)∧(46:Int) ≤ (91:Int)),((0:Int) ≤ (10:Int)∧(10:Int) ≤ (46:Int)),((0:Int) ≤ (50:Int)∧(50:Int) ≤ (91:Int)),((0:Int) ≤ (46:Int)∧(46:Int) ≤ (50:Int)),((0:Int) ≤ (0:Int)∧(0:Int) < (4:Int)),(0 < 4),((0:Int) ≤ (1:Int)∧(1:Int) < (4:Int)),(1 < 4),((0:Int) ≤ (2:Int)∧(2:Int) < (4:Int)),(2 < 4),((0:Int) ≤ (3:Int)∧(3:Int) < (4:Int)),(3 < 4),(36 < 1000000000),(gS=gS),(gR=gR),((0:Int) ≤ (50:Int)∧50 < 91),((0:Int) ≤ (87:Int)∧(87:Int) ≤ (91:Int)),((0:Int) ≤ (51:Int)∧(51:Int) ≤ (87:Int)),((0:Int) ≤ (91:Int)∧(91:Int) ≤ (91:Int)),((0:Int) ≤ (87:Int)∧(87:Int) ≤ (91:Int)),((0:Int) ≤ (0:Int)∧(0:Int) < (4:Int)),(0 < 4),((0:Int) ≤ (1:Int)∧(1:Int) < (4:Int)),(1 < 4),((0:Int) ≤ (2:Int)∧(2:Int) < (4:Int)),(2 < 4),((0:Int) ≤ (3:Int)∧(3:Int) < (4:Int)),(3 < 4),(36 < 1000000000),((0:Int) ≤ (1:Int)∧(1:Int) ≤ (36:Int)),((0:Int) ≤ (0:Int)∧(0:Int) ≤ (1:Int)),((0:Int) ≤ (0:Int)∧(0:Int) < (1:Int)),(0 < 1),((0:Int) ≤ (1:Int)∧1 < 36),((0:Int) ≤ (3:Int)∧(3:Int) ≤ (36:Int)),((0:Int) ≤ (2:Int)∧(2:Int) ≤ (3:Int)),((0:Int) ≤ (3:Int)∧3 < 36),((0:Int) ≤ (36:Int)∧(36:Int) ≤ (36:Int)),((0:Int) ≤ (4:Int)∧(4:Int) ≤ (36:Int))]
theorem asR_ok:∀ p ∈ asR,p:=by
 unfold asR
 repeat' (first | exact (fun _ h=>absurd h List.not_mem_nil) | refine List.forall_mem_cons.2 ⟨?_,?_⟩)
 all_goals first | decide | rfl | trivial
theorem rv_3 (len cap:Nat) (b:List UInt8) (fl lf:Int) (es rt:List (D × D)):EndIs Tryz.prog csT [] 1000 14 Tryz.f103 (bodyOf Tryz.f103) (startSt [.fn (.yield 13) [] [],.ptr (some (11,0))] (hRv len cap b fl lf es rt 0 [] [] 0) 14)
  [([],asR,.ret (.tup []) (hRv len cap b fl lf es rt 2 es2 rtS 91) 14)]:=
 ⟨by kernel_rfl,by kernel_rfl,by kernel_rfl⟩
end Go.Proofs.YtfihojpgobmmdaaGreatDoor
namespace Go.Proofs.YtfihojpgobmmdaaGreatDoor
open Go Go.Eng
section
variable (len cap:Nat) (b:List UInt8) (fl nx lf:Int) (es rt:List (D × D))
def hRe:Tr O:=hL [(0,.ints .u32 gS),(1,.ints .u32 gR),(3,.cells [.slc (some (4,0)) 91 cap 1,.int .i64 91,.map (some 7),.map (some 8),.int .i64 2,.bool false,.bool false,.int .i64 lf]),(4,.buf 5 false b),(5,.mapD none es),(6,.mapD none rt),(7,.mapD none es2),(8,.mapD none rtS)]
theorem rv_1b:∃ L,RunIs Tryz.prog csT [] 1000 7 Tryz.f57 [1,2] (headN 3 cdRv) (startSt [.ptr (some (3,0))] (memS (pS len cap b fl nx lf es rt)) 7) L
  [([],[],.to .normal (stG [(1,.ptr (some (9,0))),(2,.ptr (some (10,0)))] (hL [(0,.ints .u32 gS),(1,.ints .u32 gR),(3,.cells [.slc (some (4,0)) len cap 1,.int .i64 fl,.map (some 7),.map (some 8),.int .i64 0,.bool false,.bool false,.int .i64 lf]),(4,.buf 5 false b),(5,.mapD none es),(6,.mapD none rt),(7,.map [] 0),(8,.map [] 0),(9,.cells [.ptr (some (3,0))]),(10,.cells [.int .i64 0])]) 11))]:=
 RunIs.of (by kernel_rfl) (by kernel_rfl) (by kernel_rfl)
theorem rv_end:EndIs Tryz.prog csT [] 1000 7 Tryz.f57 (seqR tlRv) (rEnd (sRv len cap b fl lf es rt) (hRv len cap b fl lf es rt 2 es2 rtS 91) 14)
  [([],[(0:Int) ≤ 91∧(91:Int) ≤ (Int.ofNat cap)],.ret (.tup []) (hRe cap b lf es rt) 9)]:=
 ⟨by kernel_rfl,by kernel_rfl,by kernel_rfl⟩
theorem call103:CallIs Tryz.prog 103 [.fn (.yield 13) [] [],.ptr (some (11,0))] (hRv len cap b fl lf es rt 0 [] [] 0) 14 (.tup []) (hRv len cap b fl lf es rt 2 es2 rtS 91) 14:=by
 refine callIs_of_TG Tryz.func103 (code:=bodyOf Tryz.f103) (by kernel_rfl) (by kernel_rfl) ?_
 refine TG_end XT mo _ (by kernel_rfl) (rv_3 len cap b fl lf es rt) fun g hg _=>?_
 rw [List.mem_singleton] at hg; subst hg
 exact ⟨asR_ok,_,_,_,rfl,rfl,rfl,rfl⟩
set_option maxRecDepth 20000 in
theorem tgRv (hl:len ≤ b.length) (hlog:List.take len (List.drop 0 b)=log3) (hc:91 ≤ cap):TG Tryz.prog 7 Tryz.f57.ntmps cdRv (startSt [.ptr (some (3,0))] (memS (pS len cap b fl nx lf es rt)) 7) (RetG Tryz.prog 7 Tryz.f57 fun v h n=>v= .tup []∧h=hRe cap b lf es rt∧n=9):=by
 obtain ⟨L1,hr1⟩:=rv_1b len cap b fl nx lf es rt
 refine TG_isN1 3 XT mo (by kernel_rfl) hr1 all_nil ?_
 refine TG_map [(7,none),(8,none)] (s2:=stG [(1,.ptr (some (9,0))),(2,.ptr (some (10,0)))] (hL (lRv len cap b fl lf es rt 0 [] [] 0)) 11) (by kernel_rfl) ?_
 show TG Tryz.prog 7 Tryz.f57.ntmps tlRv _ _
 refine TG_seq' (by kernel_rfl) ?_
 refine TG_seq' (by kernel_rfl) ?_
 obtain ⟨L2,hr2⟩:=rv_2 len cap b fl lf es rt
 refine TG_is XT mo anyR (by kernel_rfl) hr2 fun g hg _=>?_
 rw [List.mem_singleton] at hg; subst hg
 refine ⟨?_,fun s' hs'=>?_⟩
 · repeat' (first | exact all_nil | refine List.forall_mem_cons.2 ⟨?_,?_⟩)
   · omega
   · exact congrArg V.str hlog
 have hs':normG 7 [1,2,12] s'=some (sRv len cap b fl lf es rt):=hs'
 refine TG_norm hs' ?_
 refine TG_block (i:=0) (by kernel_rfl) ?_
 refine TG_rangeN (gf:=103) (lb:=[.ptr (some (11,0))]) (by kernel_rfl) (by kernel_rfl) (by kernel_rfl) (by kernel_rfl) (by kernel_rfl) (call103 len cap b fl lf es rt).one ?_
 rintro v h n ⟨rfl,rfl,rfl⟩
 refine ⟨by kernel_rfl,?_⟩
 show TG Tryz.prog 7 Tryz.f57.ntmps (seqR tlRv) _ _
 refine TG_end XT mo _ (by kernel_rfl) (rv_end len cap b fl lf es rt) fun g hg _=>?_
 rw [List.mem_singleton] at hg; subst hg
 refine ⟨fun p hp=>?_,_,_,_,rfl,rfl,rfl,rfl⟩
 rw [List.mem_singleton] at hp; subst hp
 have hO:∀ n:Nat,Int.ofNat n=(n:Int):=fun _=>rfl
 exact ⟨by decide,by rw [hO]; omega⟩
end
end Go.Proofs.YtfihojpgobmmdaaGreatDoor
namespace Go.Proofs.YtfihojpgobmmdaaGreatDoor
open Go Go.Eng
noncomputable abbrev tlCo:Code:=tailN 5 cdCo
noncomputable abbrev csD (len cap:Nat) (b:List UInt8) (fl nx lf:Int):CallS:=pinS csT 23 [.ptr (some (3,0))] (hL (lQ0 len cap b fl nx lf)) 9 (.slc (some (9,0)) 1 1 1,hRq len cap b fl nx lf,10)
def sC5 (len cap:Nat) (b:List UInt8) (fl nx lf:Int):St:=stG [(1,.ptr (some (7,0))),(4,.slc (some (8,0)) 50 50 1)] (hL (lQ0 len cap b fl nx lf)) 9
def l19 (len cap:Nat) (lg:V) (b:List UInt8) (fl nx lf:Int):List (Nat × O):=[(0,.ints .u32 gS),(1,.ints .u32 gR),(3,.cells [lg,.int .i64 fl,.map (some 5),.map (some 6),.int .i64 nx,.bool false,.bool false,.int .i64 lf]),(4,.buf 5 false b),(5,.mapD none esS),(6,.mapD none rtS),(7,.cells [.ptr (some (3,0))]),(8,.buf 5 false log3)]
def sC6 (len cap:Nat) (b:List UInt8) (fl nx lf:Int):St:=stG [(1,.ptr (some (7,0))),(4,.slc (some (8,0)) 91 91 1)] (hL (l19 len cap (.slc (some (4,0)) len cap 1) b fl nx lf)) 9
end Go.Proofs.YtfihojpgobmmdaaGreatDoor
namespace Go.Proofs.YtfihojpgobmmdaaGreatDoor
open Go Go.Eng
section
variable (len cap:Nat) (b:List UInt8) (fl nx lf:Int)
def l20:List (Nat × O):=[(0,.ints .u32 gS),(1,.ints .u32 gR),(3,.cells [.slc (some (7,0)) 91 91 1,.int .i64 91,.map (some 5),.map (some 6),.int .i64 nx,.bool false,.bool false,.int .i64 lf]),(4,.buf 5 false b),(5,.mapD none esS),(6,.mapD none rtS),(7,.buf 5 false log3),(8,.cells [.ptr (some (3,0))])]
def sC7:St:=stG [(1,.ptr (some (8,0)))] (hL (l20 b nx lf)) 9
theorem co_1b:∃ L,RunIs Tryz.prog (csC len cap b fl nx lf) [] 1000 7 Tryz.f19 [1,4] (headN 5 cdCo) (startSt [.ptr (some (3,0))] (memS (pV len cap b fl nx lf)) 7) L
  [([],[([.ptr (some (3,0)),v78]:List V)=[.ptr (some (3,0)),v78]∧hL (lC len cap b fl nx lf esS rtS)=hL (lC len cap b fl nx lf esS rtS)∧20=20,[v81,v56]=[v81,v56]∧hL (lSf len cap b fl nx lf)=hL (lSf len cap b fl nx lf)∧22=22,(0:Int) ≤ 0∧(0:Int) < 2,strs []=strs (strL (strs [])),0=0,1 ≤ 100000000,0 ≤ 1000000,0 ≤ 100000000,0 < 9,roomy 9 1 1=true,(0:Int) ≤ 1∧(1:Int) < 2,strs [dA]=strs (strL (strs [dA])),1=1,1 ≤ 100000000,1 ≤ 1000000,32 ≤ 100000000,0 < 9,9=9,roomy 50 1 1=true],.to .normal (sC5 len cap b fl nx lf))]:=
 RunIs.of (by kernel_rfl) (by kernel_rfl) (by kernel_rfl)
theorem co_2b:∃ L,RunIs Tryz.prog (csD len cap b fl nx lf) [] 1000 7 Tryz.f19 [1,4] (seqL tlCo) (sC5 len cap b fl nx lf) L
  [([],[([.ptr (some (3,0))]:List V)=[.ptr (some (3,0))]∧hL (lQ0 len cap b fl nx lf)=hL (lQ0 len cap b fl nx lf)∧9=9,(0:Int) ≤ 0∧(0:Int) < 1,1 < 100000000,32 < 100000000,0 < 50,50=50,roomy 91 1 1=true],.to .normal (sC6 len cap b fl nx lf))]:=
 RunIs.of (by kernel_rfl) (by kernel_rfl) (by kernel_rfl)
theorem co_3b:∃ L,RunIs Tryz.prog csT [] 1000 7 Tryz.f19 [1] (headN 3 (seqR tlCo)) (sC6 len cap b fl nx lf) L [([],[],.to .normal (sC7 b nx lf))]:=
 RunIs.of (by kernel_rfl) (by kernel_rfl) (by kernel_rfl)
def ns57:List (Option Nat):=[some 0,some 1,some 2,some 3,some 7,some 5,some 6]
def h57:Tr O:=hL [(0,.ints .u32 gS),(1,.ints .u32 gR),(3,.cells [.slc (some (7,0)) 91 91 1,.int .i64 91,.map (some 9),.map (some 10),.int .i64 2,.bool false,.bool false,.int .i64 lf]),(4,.buf 5 false b),(5,.mapD none esS),(6,.mapD none rtS),(7,.buf 5 false log3),(8,.cells [.ptr (some (3,0))]),(9,.mapD none es2),(10,.mapD none rtS)]
theorem emb57:embW ns57 (memS (pS 91 91 log3 91 nx lf esS rtS)) (.tup [],hRe 91 log3 lf esS rtS,9) (hL (l20 b nx lf)) 9=some (.tup [],h57 b lf,11):=by kernel_rfl
theorem st57:stoAt (hL (l20 b nx lf)) 3=some (ns57,pS 91 91 log3 91 nx lf esS rtS):=by kernel_rfl
theorem call57:CallIs Tryz.prog 57 [.ptr (some (3,0))] (hL (l20 b nx lf)) 9 (.tup []) (h57 b lf) 11:=by
 intro E w args' ra g hd
 obtain ⟨hp,hlen,_⟩:=sto_pick (st57 b nx lf) (by kernel_rfl) (by kernel_rfl)
 exact own_calls mo po Tryz.func57 (code:=cdRv) (by kernel_rfl) (by kernel_rfl) hp (by kernel_rfl) (emb57 b nx lf) (tgRv 91 91 log3 91 nx lf esS rtS (by decide) (by kernel_rfl) (by decide)) ra g hd
def hCo:Tr O:=hL [(0,.ints .u32 gS),(1,.ints .u32 gR),(3,.cells [.slc (some (7,0)) 91 91 1,.int .i64 91,.map (some 8),.map (some 9),.int .i64 2,.bool false,.bool false,.int .i64 lf]),(4,.buf 5 false b),(5,.mapD none esS),(6,.mapD none rtS),(7,.buf 5 false log3),(8,.mapD none es2),(9,.mapD none rtS)]
theorem co_4:∃ L,RunIs Tryz.prog (pinS csT 57 [.ptr (some (3,0))] (hL (l20 b nx lf)) 9 (.tup [],h57 b lf,11)) [] 1000 7 Tryz.f19 [] (tailN 3 (seqR tlCo)) (sC7 b nx lf) L
  [([],[([.ptr (some (3,0))]:List V)=[.ptr (some (3,0))]∧hL (l20 b nx lf)=hL (l20 b nx lf)∧9=9],.ret (.int .i64 0) (hCo b lf) 10)]:=
 RunIs.of (by kernel_rfl) (by kernel_rfl) (by kernel_rfl)
set_option maxRecDepth 20000 in
theorem call19:CallIs Tryz.prog 19 [.ptr (some (3,0))] (memS (pV len cap b fl nx lf)) 7 (.int .i64 0) (hCo b lf) 10:=by
 refine callIs_of_TG Tryz.func19 (code:=cdCo) (by kernel_rfl) (by kernel_rfl) ?_
 obtain ⟨L1,hr1⟩:=co_1b len cap b fl nx lf
 refine TG_isN1 5 (((XQ []).pin (Nat.le_of_ble_eq_true (by kernel_rfl)) (call51 len cap b fl nx lf)).pin (Nat.le_of_ble_eq_true (by kernel_rfl)) (call54 len cap b fl nx lf)) mo (by kernel_rfl) hr1 ?_ ?_
 · repeat' (first | exact all_nil | refine List.forall_mem_cons.2 ⟨?_,?_⟩)
   all_goals first | exact pinEq | decide | rfl | trivial
 show TG Tryz.prog 7 Tryz.f19.ntmps tlCo _ _
 refine TG_seq' (by kernel_rfl) ?_
 obtain ⟨L2,hr2⟩:=co_2b len cap b fl nx lf
 refine TG_is (XT.pin (Nat.le_of_ble_eq_true (by kernel_rfl)) (call23 len cap b fl nx lf)) mo anyR (by kernel_rfl) hr2 fun g hg _=>?_
 rw [List.mem_singleton] at hg; subst hg
 refine ⟨?_,fun s' hs'=>?_⟩
 · repeat' (first | exact all_nil | refine List.forall_mem_cons.2 ⟨?_,?_⟩)
   all_goals first | exact pinEq | decide | rfl | trivial
 refine TG_norm hs' ?_
 show TG Tryz.prog 7 Tryz.f19.ntmps (seqR tlCo) _ _
 obtain ⟨L3,hr3⟩:=co_3b len cap b fl nx lf
 refine TG_isN1 3 XT mo (by kernel_rfl) hr3 all_nil ?_
 obtain ⟨L4,hr4⟩:=co_4 b nx lf
 refine TG_ret (XT.pin (Nat.le_of_ble_eq_true (by kernel_rfl)) (call57 b nx lf)) mo _ (by kernel_rfl) hr4 fun g hg _=>?_
 rw [List.mem_singleton] at hg; subst hg
 exact ⟨fun p hp=>by rw [List.mem_singleton] at hp; subst hp; exact pinEq,_,_,_,rfl,rfl,rfl,rfl⟩
end
end Go.Proofs.YtfihojpgobmmdaaGreatDoor
