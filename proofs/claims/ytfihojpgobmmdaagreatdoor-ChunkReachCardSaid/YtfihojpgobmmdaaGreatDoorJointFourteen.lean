/- The Chunk laws: sanity: pieces. No conditions. -/
import Derived.Test.YtfihojpgobmmdaaGreatDoorJointTwelve
import Derived.Test.YtfihojpgobmmdaaGreatDoorJointThirteen
set_option linter.unusedVariables false
set_option linter.unusedSimpArgs false
set_option linter.unusedSectionVars false
namespace Go.Proofs.YtfihojpgobmmdaaGreatDoor
open Go Go.Eng
noncomputable abbrev cdSa:Code:=bodyOf Tryz.f13
def es1:List (D × D):=[(.str dA,eA)]
def stS (fr:List (Nat × V)) (p:Sto):St:=stG ((1,.ptr (some (3,0))) :: fr) (memS p) 7
def p1:Sto:=pS 9 9 rA 0 1 0 es1 []
def p2:Sto:=pS 50 50 log2 0 2 0 es2 []
def p3:Sto:=pS 91 91 log3 0 2 0 es2 rtS
def p4:Sto:=pS 100 100 (log3 ++ rZ) 0 3 0 esS rtS
def p5:Sto:=pS 91 91 log3 91 2 0 es2 rtS
def eW:D:=entD [119] [] 2
def es3:List (D × D):=[(.str dA,eA),(.str dB,eB),(.str dW,eW)]
def p6:Sto:=pS 100 100 (log3 ++ rW) 91 3 0 es3 rtS
def p7:Sto:=pS 91 100 (log3 ++ rW) 91 2 0 es2 rtS
abbrev okE:V:=.int .i64 0
end Go.Proofs.YtfihojpgobmmdaaGreatDoor
namespace Go.Proofs.YtfihojpgobmmdaaGreatDoor
open Go Go.Eng
theorem own_callIs {f:FuncId} {args args1:List V} {ns:List (Option Nat)} {h h1 h2 h1':Tr O} {n n2 n1':Nat} {v v1:V} (k:PickOk ns h h1) (ka:V.rns (mu ns) args=some args1) (he:embW ns h1 (v1,h1',n1') h n=some (v,h2,n2))
  (hc:CallIs Tryz.prog f args1 h1 ns.length v1 h1' n1'):CallIs Tryz.prog f args h n v h2 n2:=by
 intro E w args' ra g hd
 obtain ⟨g1,d1⟩:=pick_ok g k
 have ra1:vrels (E.pick ns) args1 args':=rns_rel (E':=E.pick ns) mu_ι (fun _ _ _ _ _ _=>rfl) (fun _ _ q=>q) _ _ _ ka ra
 exact (hc _ w args' ra1 g1 d1).mono fun en w' c=>embW_ok g hd k he c
theorem castP {a b:Prop} (e:a=b) (h:a):b:=e ▸ h
def ns7:List (Option Nat):=[some 0,some 1,some 2,some 3,some 4,some 5,some 6]
theorem TG_callFAt {n0 N:Nat} {c:Code} {s s0 s1:St} {ms:List Nat} {A:List Prop} {Q:Exit→St→Prop} {f:FuncId} {args:List V} {R:V→Tr O→Nat→Prop} (k:Nat) (hk:c= .region (regId c) (((opsOf c).toList.take k) ++ opAt c k :: (opsOf c).toList.drop (k+1)).toArray false) (hok:codeOk N c=true)
  (h1:seqOps Tryz.prog noC (((opsOf c).toList.take k) ++ opAt c k :: (opsOf c).toList.drop (k+1)).toArray ((opsOf c).toList.take k) s=some (.normal,s0)) (hfz:fzS ms s0=some (A,s1)) (hA:∀ a ∈ A,a) (hg:(opAt c k).guard=none) (ho:stepOp Tryz.prog (opAt c k) s1.fr s1.h s1.n=some (.call f args)) (hcal:(callee Tryz.prog f && Nat.blt f Tryz.prog.funcs.size)=true) (hc:CallsOne Tryz.prog f args s1.h s1.n R)
  (hq:∀ v h n,R v h n→∃ fr s2,putD s1.fr (opAt c k).dst v=some fr∧seqOps Tryz.prog noC (((opsOf c).toList.take k) ++ opAt c k :: (opsOf c).toList.drop (k+1)).toArray ((opsOf c).toList.drop (k+1)) { s1 with fr:=fr,h:=h,n:=n }=some (.normal,s2)∧Q .normal s2):TG Tryz.prog n0 N c s Q:=by
 rw [hk] at hok ⊢
 exact TG_callF (noC_ok _) hok h1 hfz hA hg ho hcal hc hq
def m1:Tr O:=mem0w 9 rA 0 1 0 es1 []
theorem call15x:CallIs Tryz.prog 15 [.ptr (some (3,0)),.str [120],.slc none 0 0 0] (mem0 0 0 0 [] []) 6 (.tup [.str dA,okE]) m1 7:=by
 have h:=put_first [120] 0 0 0 [] [] (by decide) rfl
 simp only [nA_is,rA_is] at h
 exact castP (by kernel_rfl) h
def m5:Tr O:=memNw 100 (log3 ++ rZ) 0 3 0 esS rtS
theorem call15z:CallIs Tryz.prog 15 [.ptr (some (3,0)),.str [122],.slc none 0 0 0] (memS p3) 7 (.tup [.str dZ,okE]) m5 8:=by
 have h:=put_new0 [122] 91 91 log3 0 2 0 es2 rtS (by decide) (by rw [nZ_is]; kernel_rfl) (by decide) (by decide) (by rw [rZ_is]; decide)
 simp only [nZ_is,rZ_is] at h
 exact castP (by kernel_rfl) h
def m9:Tr O:=memNw 100 (log3 ++ rW) 91 3 0 es3 rtS
theorem call15w:CallIs Tryz.prog 15 [.ptr (some (3,0)),.str [119],.slc none 0 0 0] (memS p5) 7 (.tup [.str dW,okE]) m9 8:=by
 have h:=put_new0 [119] 91 91 log3 91 2 0 es2 rtS (by decide) (by rw [nW_is]; kernel_rfl) (by decide) (by decide) (by rw [rW_is]; decide)
 simp only [nW_is,rW_is] at h
 exact castP (by kernel_rfl) h
def h3a:Tr O:=hL (memL p1 ++ [(7,.cells [.str dA])])
def h3b:Tr O:=h3a.set 7 none
theorem call15y:CallIs Tryz.prog 15 [.ptr (some (3,0)),.str [121],.lst false 1 [.str dA]] (memS p1) 7 (.tup [.str dB,okE]) (memNw 50 log2 0 2 0 es2 []) 8:=by
 have h:=put_newL [121] 9 9 rA 0 1 0 es1 [] false [dA] (by decide) (by decide) (by decide) (by decide) (fun x hx=>by rw [List.mem_singleton] at hx; subst hx; exact ⟨[120],[],0,by kernel_rfl⟩) (by rw [nB_is]; kernel_rfl) (by decide) (by decide) (by rw [rB_is]; decide)
 simp only [nB_is,rB_is] at h
 exact castP (by kernel_rfl) h
theorem st3:stoAt h3b 3=some (ns7,p1):=by kernel_rfl
end Go.Proofs.YtfihojpgobmmdaaGreatDoor
namespace Go.Proofs.YtfihojpgobmmdaaGreatDoor
open Go Go.Eng
theorem emb3:embW ns7 (memS p1) (.tup [.str dB,okE],memNw 50 log2 0 2 0 es2 [],8) h3b 8=some (.tup [.str dB,okE],(h3b.set 3 (some (.cells [.slc (some (8,0)) 50 50 1,.int .i64 0,.map (some 5),.map (some 6),.int .i64 2,.bool false,.bool false,.int .i64 0]))).set 4 none |>.set 5 (some (.mapD none es2)) |>.set 6 (some (.mapD none [])) |>.set 8 (some (.buf 5 false log2)),9):=by kernel_rfl
def h3d:Tr O:=(h3b.set 3 (some (.cells [.slc (some (8,0)) 50 50 1,.int .i64 0,.map (some 5),.map (some 6),.int .i64 2,.bool false,.bool false,.int .i64 0]))).set 4 none |>.set 5 (some (.mapD none es2)) |>.set 6 (some (.mapD none [])) |>.set 8 (some (.buf 5 false log2))
theorem call15b:CallIs Tryz.prog 15 [.ptr (some (3,0)),.str [121],.lst false 1 [.str dA]] h3b 8 (.tup [.str dB,okE]) h3d 9:=by
 obtain ⟨hp,hlen,_⟩:=sto_pick st3 (by kernel_rfl) (by kernel_rfl)
 exact own_callIs hp (by kernel_rfl) emb3 call15y
noncomputable abbrev cdCr:Code:=bodyOf Tryz.f31
def l31 (es rt:List (D × D)) (nx:Int) (a b:Nat) (r:List (Nat × O)):List (Nat × O):=[(0,.ints .u32 gS),(1,.ints .u32 gR),(3,.cells [.slc (some (4,0)) 91 100 1,.int .i64 91,.map (some a),.map (some b),.int .i64 nx,.bool false,.bool false,.int .i64 0]),(4,.buf 5 false (log3 ++ rW)),(5,.mapD none es),(6,.mapD none rt),(7,.cells [.int .i64 0])] ++ r
def h31:Tr O:=hL (l31 es3 rtS 3 5 6 [])
def h31b:Tr O:=hL (l31 es3 rtS 2 8 9 [(8,.mapD none es2),(9,.mapD none rtS)])
def h31p:Tr O:=hL (l31 es3 rtS 2 35 36 [(35,.mapD none es2),(36,.mapD none rtS)])
theorem st31:stoAt h31 3=some (ns7,pS 91 100 (log3 ++ rW) 91 3 0 es3 rtS):=by kernel_rfl
theorem emb31:embW ns7 (memS (pS 91 100 (log3 ++ rW) 91 3 0 es3 rtS)) (.tup [],hRe 100 (log3 ++ rW) 0 es3 rtS,9) h31 35=some (.tup [],h31p,37):=by kernel_rfl
theorem call57b:CallIs Tryz.prog 57 [.ptr (some (3,0))] h31 35 (.tup []) h31p 37:=by
 intro E w args' ra g hd
 obtain ⟨hp,hlen,_⟩:=sto_pick st31 (by kernel_rfl) (by kernel_rfl)
 exact own_calls mo po Tryz.func57 (code:=cdRv) (by kernel_rfl) (by kernel_rfl) hp (by kernel_rfl) emb31 (tgRv 91 100 (log3 ++ rW) 91 3 0 es3 rtS (by decide) (by kernel_rfl) (by decide)) ra g hd
def h31s:Tr O:=hL (memL p6 ++ [(7,.cells [.int .i64 0])])
theorem cr_run:EndIs Tryz.prog (pinS csT 57 [.ptr (some (3,0))] h31 35 (.tup [],h31p,37)) [] 1000 8 Tryz.f31 cdCr (startSt [.ptr (some (3,0)),.slc (some (7,0)) 1 1 1] h31s 8)
  [([],[(0:Int) ≤ 0∧(0:Int) < 1,(255:Int) ≠ 0,(0:Int) ≤ 91∧(91:Int) ≤ 100,([.ptr (some (3,0))]:List V)=[.ptr (some (3,0))]∧h31=h31∧35=35],.ret (.tup []) h31b 10)]:=
 ⟨by kernel_rfl,by kernel_rfl,by kernel_rfl⟩
theorem call31:CallIs Tryz.prog 31 [.ptr (some (3,0)),.slc (some (7,0)) 1 1 1] h31s 8 (.tup []) h31b 10:=by
 refine callIs_of_TG Tryz.func31 (code:=cdCr) (by kernel_rfl) (by kernel_rfl) ?_
 refine TG_end (XT.pin (Nat.le_of_ble_eq_true (by kernel_rfl)) call57b) mo _ (by kernel_rfl) cr_run fun g hg _=>?_
 rw [List.mem_singleton] at hg; subst hg
 refine ⟨?_,_,_,_,rfl,rfl,rfl,rfl⟩
 repeat' (first | exact all_nil | refine List.forall_mem_cons.2 ⟨?_,?_⟩)
 all_goals first | exact pinEq | decide | trivial
noncomputable abbrev rgS (k:Nat):Code:=seqL (tailN k cdSa)
theorem sb_1:∃ L,RunIs Tryz.prog csT [] 1000 3 Tryz.f13 [1] (headN 2 cdSa) (startSt [] (hSR gS gR) 3) L [([],[],.to .normal (stG [(1,.ptr (some (3,0)))] (hL [(0,.ints .u32 gS),(1,.ints .u32 gR),(3,.cells [.slc none 0 0 0,.int .i64 0,.map (some 4),.map (some 5),.int .i64 0,.bool false,.bool false,.int .i64 0]),(4,.map [] 0),(5,.map [] 0)]) 6))]:=
 RunIs.of (by kernel_rfl) (by kernel_rfl) (by kernel_rfl)
def s2a:St:=stG [(1,.ptr (some (3,0)))] (mem0 0 0 0 [] []) 6
theorem sb_2:∃ L,RunIs Tryz.prog (pinS csT 15 [.ptr (some (3,0)),.str [120],.slc none 0 0 0] (mem0 0 0 0 [] []) 6 (.tup [.str dA,okE],m1,7)) [] 1000 3 Tryz.f13 [1,2,3] (rgS 2) s2a L
  [([],[([.ptr (some (3,0)),.str [120],.slc none 0 0 0]:List V)=[.ptr (some (3,0)),.str [120],.slc none 0 0 0]∧mem0 0 0 0 [] []=mem0 0 0 0 [] []∧6=6],.to .normal (stS [(2,.str dA),(3,okE)] p1))]:=
 RunIs.of (by kernel_rfl) (by kernel_rfl) (by kernel_rfl)
theorem sb_4:∃ L,RunIs Tryz.prog csT [] 1000 3 Tryz.f13 [1,3,5,6] (rgS 4) (stS [(3,okE),(4,.str dB),(5,okE)] p2) L
  [([],[1 < 100000000,32 < 100000000,0 < 50,50=50,roomy 91 1 1=true],.to .normal (stS [(3,okE),(5,okE),(6,okE)] p3))]:=
 RunIs.of (by kernel_rfl) (by kernel_rfl) (by kernel_rfl)
theorem sb_5:∃ L,RunIs Tryz.prog (pinS csT 15 [.ptr (some (3,0)),.str [122],.slc none 0 0 0] (memS p3) 7 (.tup [.str dZ,okE],m5,8)) [] 1000 3 Tryz.f13 [1,3,5,6,8] (rgS 5) (stS [(3,okE),(5,okE),(6,okE)] p3) L
  [([],[([.ptr (some (3,0)),.str [122],.slc none 0 0 0]:List V)=[.ptr (some (3,0)),.str [122],.slc none 0 0 0]∧memS p3=memS p3∧7=7],.to .normal (stS [(3,okE),(5,okE),(6,okE),(8,okE)] p4))]:=
 RunIs.of (by kernel_rfl) (by kernel_rfl) (by kernel_rfl)
theorem sb_6:∃ L,RunIs Tryz.prog csT [] 1000 3 Tryz.f13 [1,3,5,6,8,9] (rgS 6) (stS [(3,okE),(5,okE),(6,okE),(8,okE)] p4) L
  [([],[],.to .normal (stS [(3,okE),(5,okE),(6,okE),(8,okE),(9,.int .i64 3)] p4))]:=
 RunIs.of (by kernel_rfl) (by kernel_rfl) (by kernel_rfl)
theorem sb_7:∃ L,RunIs Tryz.prog (pinS csT 19 [.ptr (some (3,0))] (memS p4) 7 (okE,hCo (log3 ++ rZ) 0,10)) [] 1000 3 Tryz.f13 [1,3,5,6,8,9,10] (rgS 7) (stS [(3,okE),(5,okE),(6,okE),(8,okE),(9,.int .i64 3)] p4) L
  [([],[([.ptr (some (3,0))]:List V)=[.ptr (some (3,0))]∧memS p4=memS p4∧7=7],.to .normal (stS [(3,okE),(5,okE),(6,okE),(8,okE),(9,.int .i64 3),(10,okE)] p5))]:=
 RunIs.of (by kernel_rfl) (by kernel_rfl) (by kernel_rfl)
abbrev frS:List (Nat × V):=[(3,okE),(5,okE),(6,okE),(8,okE),(9,.int .i64 3),(10,okE),(11,.int .i64 2)]
theorem sb_8:∃ L,RunIs Tryz.prog csT [] 1000 3 Tryz.f13 [1,3,5,6,8,9,10,11] (rgS 8) (stS [(3,okE),(5,okE),(6,okE),(8,okE),(9,.int .i64 3),(10,okE)] p5) L
  [([],[],.to .normal (stS frS p5))]:=
 RunIs.of (by kernel_rfl) (by kernel_rfl) (by kernel_rfl)
theorem sb_9:∃ L,RunIs Tryz.prog (pinS csT 15 [.ptr (some (3,0)),.str [119],.slc none 0 0 0] (memS p5) 7 (.tup [.str dW,okE],m9,8)) [] 1000 3 Tryz.f13 [1,3,5,6,8,9,10,11,13] (rgS 9) (stS frS p5) L
  [([],[([.ptr (some (3,0)),.str [119],.slc none 0 0 0]:List V)=[.ptr (some (3,0)),.str [119],.slc none 0 0 0]∧memS p5=memS p5∧7=7],.to .normal (stS (frS ++ [(13,okE)]) p6))]:=
 RunIs.of (by kernel_rfl) (by kernel_rfl) (by kernel_rfl)
theorem sb_10:∃ L,RunIs Tryz.prog (pinS csT 31 [.ptr (some (3,0)),.slc (some (7,0)) 1 1 1] h31s 8 (.tup [],h31b,10)) [] 1000 3 Tryz.f13 [1,3,5,6,8,9,10,11,13] (rgS 10) (stS (frS ++ [(13,okE)]) p6) L
  [([],[([.ptr (some (3,0)),.slc (some (7,0)) 1 1 1]:List V)=[.ptr (some (3,0)),.slc (some (7,0)) 1 1 1]∧h31s=h31s∧8=8],.to .normal (stS (frS ++ [(13,okE)]) p7))]:=
 RunIs.of (by kernel_rfl) (by kernel_rfl) (by kernel_rfl)
theorem sb_11:∃ L,RunIs Tryz.prog csT [] 1000 3 Tryz.f13 [1,3,5,6,8,9,10,11,13,15] (rgS 11) (stS (frS ++ [(13,okE)]) p7) L
  [([],[gS=gS,gR=gR,1 ≤ 1000000000,(0:Int) ≤ 0∧(0:Int) < 1,(0:Int) ≤ 0∧(0:Int) < 1],.to .normal (stS (frS ++ [(13,okE),(15,.int .i64 63)]) p7))]:=
 RunIs.of (by kernel_rfl) (by kernel_rfl) (by kernel_rfl)
theorem sb_12:∃ L,RunIs Tryz.prog csT [] 1000 3 Tryz.f13 [] (tailN 12 cdSa) (stS (frS ++ [(13,okE),(15,.int .i64 63)]) p7) L [([],[],.ret (.bool true) (hL [(0,.ints .u32 gS),(1,.ints .u32 gR)]) 3)]:=
 RunIs.of (by kernel_rfl) (by kernel_rfl) (by kernel_rfl)
end Go.Proofs.YtfihojpgobmmdaaGreatDoor
namespace Go.Proofs.YtfihojpgobmmdaaGreatDoor
open Go Go.Eng
def s3v:St:={ stS [(2,.str dA),(3,okE)] p1 with fr:=(((frL ((1,V.ptr (some (3,0))) :: [(2,.str dA),(3,okE)])).set 23 (some (.ptr (some (3,0))))).set 24 (some (.str dA))).set 25 (some (.slc (some (7,0)) 1 1 1)),h:=h3a,n:=8 }
def s3w:St:={ s3v with fr:=(((frL ((1,V.ptr (some (3,0))) :: [(2,.str dA),(3,okE)])).set 23 (some (.ptr (some (3,0))))).set 24 (some (.str dA))).set 25 (some (.lst false 1 [.str dA])),h:=h3b }
def s3z:St:={ s3w with fr:=((((((s3w.fr.set 26 (some (.tup [.str dB,okE]))).set 22 (some (.tup [.str dB,okE]))).set 27 (some (.str dB))).set 28 (some okE)).set 4 (some (.str dB))).set 5 (some okE)),h:=h3d,n:=9 }
set_option maxRecDepth 20000 in
theorem tgSa:TG Tryz.prog 3 Tryz.f13.ntmps cdSa (startSt [] (hSR gS gR) 3) (RetG Tryz.prog 3 Tryz.f13 fun u _ _=>u= .bool true):=by
 have pin1:∀ {a:Prop},a→∀ p ∈ [a],p:=fun h p hp=>by rw [List.mem_singleton] at hp; subst hp; exact h
 obtain ⟨L1,hr1⟩:=sb_1
 refine TG_isN1 2 XT mo (by kernel_rfl) hr1 all_nil ?_
 refine TG_map [(4,none),(5,none)] (s2:=s2a) (by kernel_rfl) ?_
 refine TG_seq' (by kernel_rfl) ?_
 obtain ⟨L2,hr2⟩:=sb_2
 refine TG_is (XT.pin (Nat.le_of_ble_eq_true (by kernel_rfl)) call15x) mo anyR (by kernel_rfl) hr2 fun g hg _=>?_
 rw [List.mem_singleton] at hg; subst hg
 refine ⟨pin1 pinEq,fun s' hs'=>TG_norm hs' ?_⟩
 refine TG_seq' (by kernel_rfl) ?_
 refine TG_callFAt 3 (s0:=s3v) (s1:=s3w) (ms:=[7]) (A:=[[D.str dA].length=1 * 1]) (f:=15) (args:=[.ptr (some (3,0)),.str [121],.lst false 1 [.str dA]]) (by kernel_rfl) (by kernel_rfl) (by kernel_rfl) (by kernel_rfl) (pin1 rfl) (by kernel_rfl) (by kernel_rfl) (by kernel_rfl) call15b.one ?_
 rintro v h n ⟨rfl,rfl,rfl⟩
 refine ⟨s3w.fr.set 26 (some (.tup [.str dB,okE])),s3z,by kernel_rfl,by kernel_rfl,?_⟩
 refine TG_norm (live:=[1,3,4,5]) (s2:=stS [(3,okE),(4,.str dB),(5,okE)] p2) (by kernel_rfl) ?_
 refine TG_seq' (by kernel_rfl) ?_
 obtain ⟨L4,hr4⟩:=sb_4
 refine TG_is XT mo anyR (by kernel_rfl) hr4 fun g hg _=>?_
 rw [List.mem_singleton] at hg; subst hg
 refine ⟨?_,fun s' hs'=>TG_norm hs' ?_⟩
 · repeat' (first | exact all_nil | refine List.forall_mem_cons.2 ⟨?_,?_⟩)
   all_goals first | decide | rfl | trivial
 refine TG_seq' (by kernel_rfl) ?_
 obtain ⟨L5,hr5⟩:=sb_5
 refine TG_is (XT.pin (Nat.le_of_ble_eq_true (by kernel_rfl)) call15z) mo anyR (by kernel_rfl) hr5 fun g hg _=>?_
 rw [List.mem_singleton] at hg; subst hg
 refine ⟨pin1 pinEq,fun s' hs'=>TG_norm hs' ?_⟩
 refine TG_seq' (by kernel_rfl) ?_
 obtain ⟨L6,hr6⟩:=sb_6
 refine TG_is XT mo anyR (by kernel_rfl) hr6 fun g hg _=>?_
 rw [List.mem_singleton] at hg; subst hg
 refine ⟨all_nil,fun s' hs'=>TG_norm hs' ?_⟩
 refine TG_seq' (by kernel_rfl) ?_
 obtain ⟨L7,hr7⟩:=sb_7
 refine TG_is (XT.pin (Nat.le_of_ble_eq_true (by kernel_rfl)) (call19 100 100 (log3 ++ rZ) 0 3 0)) mo anyR (by kernel_rfl) hr7 fun g hg _=>?_
 rw [List.mem_singleton] at hg; subst hg
 refine ⟨pin1 pinEq,fun s' hs'=>TG_norm hs' ?_⟩
 refine TG_seq' (by kernel_rfl) ?_
 obtain ⟨L8,hr8⟩:=sb_8
 refine TG_is XT mo anyR (by kernel_rfl) hr8 fun g hg _=>?_
 rw [List.mem_singleton] at hg; subst hg
 refine ⟨all_nil,fun s' hs'=>TG_norm hs' ?_⟩
 refine TG_seq' (by kernel_rfl) ?_
 obtain ⟨L9,hr9⟩:=sb_9
 refine TG_is (XT.pin (Nat.le_of_ble_eq_true (by kernel_rfl)) call15w) mo anyR (by kernel_rfl) hr9 fun g hg _=>?_
 rw [List.mem_singleton] at hg; subst hg
 refine ⟨pin1 pinEq,fun s' hs'=>TG_norm hs' ?_⟩
 refine TG_seq' (by kernel_rfl) ?_
 obtain ⟨L10,hr10⟩:=sb_10
 refine TG_is (XT.pin (Nat.le_of_ble_eq_true (by kernel_rfl)) call31) mo anyR (by kernel_rfl) hr10 fun g hg _=>?_
 rw [List.mem_singleton] at hg; subst hg
 refine ⟨pin1 pinEq,fun s' hs'=>TG_norm hs' ?_⟩
 refine TG_seq' (by kernel_rfl) ?_
 obtain ⟨L11,hr11⟩:=sb_11
 refine TG_is XT mo anyR (by kernel_rfl) hr11 fun g hg _=>?_
 rw [List.mem_singleton] at hg; subst hg
 refine ⟨?_,fun s' hs'=>TG_norm hs' ?_⟩
 · repeat' (first | exact all_nil | refine List.forall_mem_cons.2 ⟨?_,?_⟩)
   all_goals first | decide | rfl | trivial
 obtain ⟨L12,hr12⟩:=sb_12
 refine TG_ret XT mo _ (by kernel_rfl) hr12 fun g hg _=>?_
 rw [List.mem_singleton] at hg; subst hg
 exact ⟨all_nil,_,_,_,rfl,rfl⟩
def specSa:List D→Option (List Prop × V)
 | []=>some ([],.bool true)
 | _=>none
theorem one_Sa:OneW Tryz.prog 13 (tW specSa):=by
 refine tW_ok (Nat.le_of_ble_eq_true (by kernel_rfl)) fun args A v e hA=>?_
 unfold specSa at e
 split at e
 · simp only [Option.some.injEq,Prod.mk.injEq] at e; obtain ⟨rfl,rfl⟩:=e
   exact tabs_calls Tryz.func13 (by kernel_rfl) (by kernel_rfl) rfl rfl (TG_mono tgSa fun y s h=>RetG_self h)
 · cases e
noncomputable abbrev W16:CtrW:=addW 13 (tW specSa) W15
theorem W16_ok:CtrWOk Tryz.prog W16:=addW_ok one_Sa W15_ok
noncomputable abbrev csL:CallS:=callX Tryz.prog W16 H0 1000 40
noncomputable abbrev XL:CX Tryz.prog:=CX.of mo po W16_ok H0 1000 40
end Go.Proofs.YtfihojpgobmmdaaGreatDoor
