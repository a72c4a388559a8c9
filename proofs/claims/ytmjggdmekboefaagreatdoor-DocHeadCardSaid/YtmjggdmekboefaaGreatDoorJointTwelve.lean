/- The Doc laws: the program's tiles: Clean, Zero; Bytes: pieces. No conditions. -/
import Derived.Test.YtmjggdmekboefaaGreatDoorJointTen
import Derived.Test.YtmjggdmekboefaaGreatDoorJointEleven
import Derived.Test.YtmjggdmekboefaaGreatDoorJointSix
import Derived.Test.YtmjggdmekboefaaGreatDoorJointNine
import Derived.Test.YtmjggdmekboefaaGreatDoorJointSeven
set_option linter.unusedVariables false
set_option linter.unusedSimpArgs false
set_option linter.unusedSectionVars false
namespace Go.Proofs.YtmjggdmekboefaaGreatDoor
open Go Go.Eng
set_option maxRecDepth 100000
theorem tcs_eq (p:Nat→Int):D.toVs (tcs p)=(List.range 256).map fun j=>V.int .u8 (p j):=by
 unfold tcs
 rw [D.toVs_map,List.map_map]; rfl
theorem tcs_px (p:Nat→Int) {i:Nat} (h:i < 64):List.take 4 (List.drop (i * 4) (D.toVs (tcs p)))=[.int .u8 (p (4 * i)),.int .u8 (p (4 * i+1)),.int .u8 (p (4 * i+2)),.int .u8 (p (4 * i+3))]:=by
 rw [tcs_eq]
 refine List.ext_getElem? fun j=>?_
 rw [List.getElem?_take]
 by_cases c:j < 4
 · rw [if_pos c,List.getElem?_drop,List.getElem?_map,List.getElem?_range (by omega),Nat.mul_comm i 4]
   rcases (by omega:j=0 ∨ j=1 ∨ j=2 ∨ j=3) with rfl | rfl | rfl | rfl <;> rfl
 · rw [if_neg c,List.getElem?_eq_none (by simp only [List.length_cons,List.length_nil]; omega)]
theorem tcs_len (p:Nat→Int):(D.toVs (tcs p)).length=256:=by rw [tcs_eq]; simp
theorem tcD (p:Nat→Int):DeepTo Tryz.prog 96 [tlV p] (tlV (clnT p)):=by
 refine deepT Tryz.func96 ?_
 refine isE1 1 Wpc_ok (tc_1 p) all_nil ?_
 refine loopF Wpc_ok 0 _ [1,2,5,6] (64 - ·) (· ≤ 64) (fun i=>sTc p (tl fun j=>if j < 4 * i then clnT p j else p j) i) 0 (by decide) (tc_2 p []) all_nil (by
  rw [tl_congr (q:=p) fun j _=>if_neg (by omega)]; exact .own [(3,.u8),(4,.u8)] (by kernel_rfl)) fun i hi=>?_
 refine ⟨_,Wpc_ok,[],_,_,tc_3 p _ i (p (4 * i)) (p (4 * i+1)) (p (4 * i+2)) (p (4 * i+3)),gcons (g1 fun h1=>?_) (gone (g1 fun h=>?_))⟩
 · have hlt:=d64 h1
   refine ⟨fm (b64 hlt) (fm (by rw [tcs_len]; omega) (fm (congrArg V.agg (tcs_px p hlt)) (fm (b64 hlt) (fm (by rw [tl_len]; omega) (fm1 (vsuc (by omega))))))),i+1,lsub hlt,by show i+1 ≤ 64; omega,?_⟩
   rw [tl_put (k:=fun j=>if j < 4 * (i+1) then clnT p j else p j) hlt]
   · exact .refl
   all_goals first
    | (rw [if_pos (by omega)]; unfold clnT; congr 2; omega)
    | skip
   intro j _ hj
   by_cases c:j < 4 * i
   · rw [if_pos c,if_pos (by omega)]
   · rw [if_neg c,if_neg (by omega)]
 · have:=n64 h
   obtain rfl:i=64:=by omega
   refine ⟨all_nil,rfl,retE Wpc_ok (tc_4 p _) (gone (g0 ⟨fm (by rw [tl_len]; exact Nat.le_refl _) (fm1 (Nat.le_refl _)),_,_,_,rfl,?_⟩))⟩
   rw [tlV_agg]
   exact tlV_congr fun j hj=>if_pos (by omega)
theorem tzD (p:Nat→Int):DeepTo Tryz.prog 95 [tlV p] (.bool (eqT (clnT p) fun _=>0)):=by
 refine deepT Tryz.func95 ?_
 exact retE (pinK (tcD p) (noW_ok _)) (tz_1 p (clnT p)) (gone (g0 ⟨fm1 rfl,_,_,_,rfl,rfl⟩))
theorem tb_1 (p:Nat→Int):RunE (csH noW []) [] 3 Tryz.f64 [1,3] (headN 2 cdTb) (startSt [tlV p] .nil 3) [([],[],.to .normal (stG [(1,.ptr (some (3,0))),(3,.slc (some (4,0)) 0 256 1)] (hL [(3,.cells (D.toVs (tcs p))),(4,.own .u8 (List.replicate 256 0))]) 5))]:=RunIs.of (by kernel_rfl) (by kernel_rfl) (by kernel_rfl)
def sTb0 (p:Nat→Int):St:=stG [(3,.slc (some (3,0)) 0 256 1),(7,tlV p),(8,iX 0)] (hL [(3,.own .u8 (List.replicate 256 0))]) 4
theorem tb_2 (p:Nat→Int):RunE (csH noW []) [] 3 Tryz.f64 [3,7,8] (seqL (seqL tlTb)) (stG [(1,.ptr (some (3,0))),(3,.slc (some (4,0)) 0 256 1)] (hL [(3,.cells (D.toVs (tcs p))),(4,.own .u8 (List.replicate 256 0))]) 5) [([],[],.to .normal (sTb0 p))]:=RunIs.of (by kernel_rfl) (by kernel_rfl) (by kernel_rfl)
def sTd (p:Nat→Int) (ds:List D) (m c i:Nat):St:=stG [(3,.slc (some (3,0)) m c 1),(7,tlV p),(8,iW i)] (hL [(3,.deep ds)]) 4
theorem tb_4 (p:Nat→Int) (ds:List D) (m k i:Nat) (r g b a:Int):RunE (csH noW []) [(9,.split),(10,.give (pq4 r g b a)),(22,.give (iW (i+1)))] 3 Tryz.f64 [3,7,8] (inner (inner (seqR (seqL tlTb)))) (sTd p ds m k i)
  [([(decide (Int.ofNat i < 64),true)],[(0:Int) ≤ Int.ofNat i∧Int.ofNat i < 64,i * 4+4 ≤ (D.toVs (tcs p)).length,V.agg (List.take 4 (List.drop (i * 4) (D.toVs (tcs p))))=pq4 r g b a,0+m * 1 ≤ ds.length,0 < 4,roomy (m+4) 1 1=true,V.int .i64 (IntKind.i64.wrap (Int.ofNat i+1))=iW (i+1)],
   .to .normal (sTd p (List.take (m * 1) (List.drop 0 ds) ++ [D.int .u8 r,D.int .u8 g,D.int .u8 b,D.int .u8 a]) (m+4) (m+4) (i+1))),
   ([(decide (Int.ofNat i < 64),false)],[],.to (.exit 0) (sTd p ds m k i))]:=RunIs.of (by kernel_rfl) (by kernel_rfl) (by kernel_rfl)
def sTo (p:Nat→Int) (ks:List Int) (m k i:Nat):St:=stG [(3,.slc (some (3,0)) m k 1),(7,tlV p),(8,iW i)] (hL [(3,.own .u8 ks)]) 4
theorem tb_5 (p:Nat→Int) (ks:List Int) (m k i:Nat):∃ L,RunIs Tryz.prog (csH noW []) [] 1000 3 Tryz.f64 [] (seqR tlTb) (sTo p ks m k i) L
  [([],
   [(0+m ≤ ks.length)],
   .ret (.str (strI (List.take m (List.drop 0 ks)))) (hL []) 3)]
 :=RunIs.of (by kernel_rfl) (by kernel_rfl) (by kernel_rfl)
theorem tcs_take (p:Nat→Int) {i:Nat} (h:i < 64):(tcs p).take (4 * i) ++ [D.int .u8 (p (4 * i)),D.int .u8 (p (4 * i+1)),D.int .u8 (p (4 * i+2)),D.int .u8 (p (4 * i+3))]=(tcs p).take (4 * (i+1)):=by
 rw [show 4 * (i+1)=4 * i+4 by omega,List.take_add]
 refine congrArg _ (List.ext_getElem? fun j=>?_)
 unfold tcs
 rw [List.getElem?_take]
 by_cases c:j < 4
 · rw [if_pos c,List.getElem?_drop,List.getElem?_map,List.getElem?_range (by omega)]
   rcases (by omega:j=0 ∨ j=1 ∨ j=2 ∨ j=3) with rfl | rfl | rfl | rfl <;> rfl
 · rw [if_neg c,List.getElem?_eq_none (by simp only [List.length_cons,List.length_nil]; omega)]
def dsB (p:Nat→Int):Nat→List D
 | 0=>List.replicate 256 (.int .u8 0)
 | i+1=>(tcs p).take (4 * (i+1))
def cpB:Nat→Nat
 | 0=>256
 | i+1=>4 * (i+1)
theorem dsB_step (p:Nat→Int) {i:Nat} (h:i < 64):List.take (4 * i * 1) (List.drop 0 (dsB p i)) ++ [D.int .u8 (p (4 * i)),D.int .u8 (p (4 * i+1)),D.int .u8 (p (4 * i+2)),D.int .u8 (p (4 * i+3))]=dsB p (i+1):=by
 show _=(tcs p).take (4 * (i+1))
 rw [← tcs_take p h,List.drop_zero,Nat.mul_one]
 cases i with
 | zero=>rfl
 | succ i=>
   show List.take (4 * (i+1)) ((tcs p).take (4 * (i+1))) ++ _=_
   rw [List.take_take,Nat.min_self]
theorem dsB_len (p:Nat→Int) {i:Nat} (h:i ≤ 64):4 * i ≤ (dsB p i).length:=by
 cases i with
 | zero=>exact Nat.zero_le _
 | succ i=>
   show _ ≤ ((tcs p).take (4 * (i+1))).length
   rw [List.length_take]
   unfold tcs
   rw [List.length_map,List.length_range]; omega
def tileB (p:Nat→Int):List UInt8:=strI (tl p)
theorem tbD (p:Nat→Int):DeepTo Tryz.prog 64 [tlV p] (.str (tileB p)):=by
 refine deepT Tryz.func64 ?_
 refine isE1 2 (noW_ok _) (tb_1 p) all_nil ?_
 refine loopF (noW_ok _) 0 _ [3,7,8] (64 - ·) (· ≤ 64) (fun i=>sTd p (dsB p i) (4 * i) (cpB i) i) 0 (by decide) (tb_2 p) all_nil (.deep [3] (by kernel_rfl)) fun i hi=>?_
 refine ⟨_,noW_ok _,_,_,_,tb_4 p (dsB p i) (4 * i) (cpB i) i (p (4 * i)) (p (4 * i+1)) (p (4 * i+2)) (p (4 * i+3)),gcons (g1 fun h1=>?_) (gone (g1 fun h=>?_))⟩
 · have hlt:=d64 h1
   have hl:=dsB_len p hi
   refine ⟨fm (b64 hlt) (fm (by rw [tcs_len]; omega) (fm (congrArg V.agg (tcs_px p hlt)) (fm (by omega) (fm (by decide) (fm (roomy_ok (by omega)) (fm1 (vsuc (by omega)))))))),i+1,lsub hlt,by show i+1 ≤ 64; omega,?_⟩
   rw [dsB_step p hlt]
   exact .refl
 · have:=n64 h
   obtain rfl:i=64:=by omega
   refine ⟨all_nil,rfl,?_⟩
   refine Goes.dow 3 .u8 (S:=sTo p (tl p) 256 256 64) (by kernel_rfl) _ _ ?_
   refine retE (noW_ok _) (tb_5 p (tl p) 256 256 64) (gone (g0 ⟨fm1 (by rw [tl_len]; decide),_,_,_,rfl,?_⟩))
   rw [List.drop_zero,List.take_of_length_le (by rw [tl_len]; exact Nat.le_refl _)]; rfl
end Go.Proofs.YtmjggdmekboefaaGreatDoor
namespace Go.Proofs.YtmjggdmekboefaaGreatDoor
open Go Go.Eng
set_option maxRecDepth 100000
open Sha (gS gR hSR tabs TabsTo sha)
noncomputable abbrev cdTk:Code:=bodyOf Tryz.f37
noncomputable abbrev cdOr:Code:=bodyOf Tryz.f121
noncomputable abbrev cdOd:Code:=bodyOf Tryz.f97
noncomputable abbrev cdCo:Code:=bodyOf Tryz.f122
theorem tk_1 (p:Nat→Int) (b:List UInt8):RunE (csH (pinN 64 [tlV p] (.str b) Sha.W5) []) [] 3 Tryz.f37 [] cdTk (startSt [tlV p] (hSR gS gR) 3) [([],[pinA [tlV p],gS=gS,gR=gR,b.length ≤ 1000000000],.ret (.str (sha b)) (hSR gS gR) 3)]:=RunIs.of (by kernel_rfl) (by kernel_rfl) (by kernel_rfl)
theorem co_1 (x y:Int):RunE (csH noW []) [(11,.give (.bool false)),(13,.give (.bool false)),(16,.split),(19,.split)] 3 Tryz.f122 [] cdCo (startSt [iX x,iX y] .nil 3)
  [([(decide (x < y),true)],[V.bool (x != x)=V.bool false,V.bool (y != y)=V.bool false],.ret (.int .i64 (-1)) (hL []) 3),
   ([(decide (x < y),false),(decide (x > y),true)],[V.bool (x != x)=V.bool false,V.bool (y != y)=V.bool false],.ret (.int .i64 1) (hL []) 3),
   ([(decide (x < y),false),(decide (x > y),false)],[V.bool (x != x)=V.bool false,V.bool (y != y)=V.bool false],.ret (.int .i64 0) (hL []) 3)]:=RunIs.of (by kernel_rfl) (by kernel_rfl) (by kernel_rfl)
def cmpI (x y:Int):Int:=if x < y then -1 else if y < x then 1 else 0
def specCo:List V→Option (List Prop × V)
 | [.int .i64 x,.int .i64 y]=>some ([],.int .i64 (cmpI x y))
 | _=>none
theorem nan_f (x:Int):V.bool (x != x)=V.bool false:=congrArg V.bool (by simp)
theorem one_Co:OneW Tryz.prog 122 (pureW specCo):=by
 refine pureT Tryz.func122 fun args A v e=>?_
 unfold specCo at e
 split at e
 case h_2=>cases e
 rename_i x y
 obtain ⟨rfl,rfl⟩:=sm e
 refine ⟨rfl,rfl,rfl,fun _=>retE (noW_ok _) (co_1 x y) (gcons (g1 fun h=>⟨fm (nan_f x) (fm1 (nan_f y)),_,_,_,rfl,?_⟩) (gcons (g2 fun h h2=>⟨fm (nan_f x) (fm1 (nan_f y)),_,_,_,rfl,?_⟩) (gone (g2 fun h h2=>⟨fm (nan_f x) (fm1 (nan_f y)),_,_,_,rfl,?_⟩))))⟩
 · have h:=of_decide_eq_true h
   unfold cmpI; rw [if_pos h]
 · have h:=of_decide_eq_false h
   have h2:=of_decide_eq_true h2
   unfold cmpI; rw [if_neg h,if_pos h2]
 · have h:=of_decide_eq_false h
   have h2:=of_decide_eq_false h2
   unfold cmpI; rw [if_neg h,if_neg h2]
noncomputable abbrev tlOr:Code:=tailN 2 cdOr
def sOr (a b:Int) (i:Int):St:=stG [(3,iX 0),(6,.lst false 2 [.int .i64 a,.int .i64 b]),(7,iX 2),(8,iX i)] .nil 3
theorem or_1 (a b:Int):∃ L,RunIs Tryz.prog (csH noW []) [] 1000 3 Tryz.f121 [0,3] (headN 2 cdOr) (startSt [.lst false 2 [.int .i64 a,.int .i64 b]] .nil 3) L
  [([],
   [],
   .to .normal (stG [(0,.lst false 2 [.int .i64 a,.int .i64 b]),(3,.int .i64 0)] (hL []) 3))]
 :=RunIs.of (by kernel_rfl) (by kernel_rfl) (by kernel_rfl)
theorem or_2 (a b:Int):∃ L,RunIs Tryz.prog (csH noW []) [] 1000 3 Tryz.f121 [3,6,7,8] (seqL (seqL tlOr)) (stG [(0,.lst false 2 [.int .i64 a,.int .i64 b]),(3,iX 0)] .nil 3) L
  [([],
   [],
   .to .normal (stG [(3,.int .i64 0),(6,.lst false 2 [.int .i64 a,.int .i64 b]),(7,.int .i64 2),(8,.int .i64 0)] (hL []) 3))]
 :=RunIs.of (by kernel_rfl) (by kernel_rfl) (by kernel_rfl)
theorem or_3 (a b:Int):∃ L,RunIs Tryz.prog (csH noW []) [(14,.split)] 1000 3 Tryz.f121 [3,6,7,8] (inner (inner (seqR (seqL tlOr)))) (sOr a b 0) L
  [([((a != (0:Int)),true)],
   [((0:Int) ≤ (0:Int)∧(0:Int) < (2:Int)),([D.int IntKind.i64 a,D.int IntKind.i64 b].length=2)],
   .ret (.int .i64 a) (hL []) 3),
  ([((a != (0:Int)),false)],
   [((0:Int) ≤ (0:Int)∧(0:Int) < (2:Int)),([D.int IntKind.i64 a,D.int IntKind.i64 b].length=2)],
   .to .normal (stG [(3,.int .i64 0),(6,.lst false 2 [.int .i64 a,.int .i64 b]),(7,.int .i64 2),(8,.int .i64 1)] (hL []) 3))]
 :=RunIs.of (by kernel_rfl) (by kernel_rfl) (by kernel_rfl)
theorem or_4 (a b:Int):∃ L,RunIs Tryz.prog (csH noW []) [(14,.split)] 1000 3 Tryz.f121 [3,6,7,8] (inner (inner (seqR (seqL tlOr)))) (sOr a b 1) L
  [([((b != (0:Int)),true)],
   [((0:Int) ≤ (1:Int)∧(1:Int) < (2:Int)),([D.int IntKind.i64 a,D.int IntKind.i64 b].length=2)],
   .ret (.int .i64 b) (hL []) 3),
  ([((b != (0:Int)),false)],
   [((0:Int) ≤ (1:Int)∧(1:Int) < (2:Int)),([D.int IntKind.i64 a,D.int IntKind.i64 b].length=2)],
   .to .normal (stG [(3,.int .i64 0),(6,.lst false 2 [.int .i64 a,.int .i64 b]),(7,.int .i64 2),(8,.int .i64 2)] (hL []) 3))]
 :=RunIs.of (by kernel_rfl) (by kernel_rfl) (by kernel_rfl)
theorem or_5 (a b:Int):∃ L,RunIs Tryz.prog (csH noW []) [] 1000 3 Tryz.f121 [3,6,7,8] (inner (inner (seqR (seqL tlOr)))) (sOr a b 2) L
  [([],
   [],
   .to (.exit 0) (stG [(3,.int .i64 0),(6,.lst false 2 [.int .i64 a,.int .i64 b]),(7,.int .i64 2),(8,.int .i64 2)] (hL []) 3))]
 :=RunIs.of (by kernel_rfl) (by kernel_rfl) (by kernel_rfl)
theorem or_6 (a b:Int):∃ L,RunIs Tryz.prog (csH noW []) [] 1000 3 Tryz.f121 [] (seqR tlOr) (sOr a b 2) L
  [([],
   [],
   .ret (.int .i64 0) (hL []) 3)]
 :=RunIs.of (by kernel_rfl) (by kernel_rfl) (by kernel_rfl)
def orI (a b:Int):Int:=if a ≠ 0 then a else b
theorem orD (a b:Int):DeepTo Tryz.prog 121 [.lst false 2 [.int .i64 a,.int .i64 b]] (iX (orI a b)):=by
 refine deepT Tryz.func121 ?_
 refine isE1 2 (noW_ok _) (or_1 a b) all_nil ?_
 refine loopF (noW_ok _) 0 _ [3,6,7,8] (2 - ·) (fun i:Nat=>i ≤ 2∧(1 ≤ i→a=0)∧(2 ≤ i→b=0)) (fun i=>sOr a b (Int.ofNat i)) 0 ⟨Nat.zero_le _,fun h=>absurd h (by decide),fun h=>absurd h (by decide)⟩ (or_2 a b) all_nil .refl fun i ⟨hi,h1,h2⟩=>?_
 have A0:∀ p ∈ [((0:Int) ≤ (0:Int)∧(0:Int) < (2:Int)),([D.int IntKind.i64 a,D.int IntKind.i64 b].length=2)],p:=fm (by decide) (fm1 rfl)
 have A1:∀ p ∈ [((0:Int) ≤ (1:Int)∧(1:Int) < (2:Int)),([D.int IntKind.i64 a,D.int IntKind.i64 b].length=2)],p:=fm (by decide) (fm1 rfl)
 rcases (by omega:i=0 ∨ i=1 ∨ i=2) with rfl | rfl | rfl
 · refine ⟨_,noW_ok _,_,_,_,or_3 a b,gcons (g1 fun h=>⟨A0,?_⟩) (gone (g1 fun h=>⟨A0,1,by decide,⟨by decide,fun _=>?_,fun h=>absurd h (by decide)⟩,.refl⟩))⟩
   · show iX a=iX (orI a b)
     unfold orI; rw [if_pos (by simpa using h)]
   · simpa using h
 · refine ⟨_,noW_ok _,_,_,_,or_4 a b,gcons (g1 fun h=>⟨A1,?_⟩) (gone (g1 fun h=>⟨A1,2,by decide,⟨by decide,fun _=>h1 (by decide),fun _=>?_⟩,.refl⟩))⟩
   · show iX b=iX (orI a b)
     unfold orI; rw [if_neg (by simpa using h1 (by decide))]
   · simpa using h
 · refine ⟨_,noW_ok _,_,_,_,or_5 a b,gone (g0 ⟨all_nil,rfl,retE (noW_ok _) (or_6 a b) (gone (g0 ⟨all_nil,_,_,_,rfl,?_⟩))⟩)⟩
   show iX 0=iX (orI a b)
   unfold orI; rw [if_neg (by simpa using h1 (by decide)),h2 (by decide)]
def specOr:List D→Option (List Prop × V)
 | [.lst 2 [.int .i64 a,.int .i64 b]]=>some ([],.int .i64 (orI a b))
 | _=>none
theorem one_Or:OneW Tryz.prog 121 (thawD specOr):=by
 refine thawD_ok (by kernel_rfl) fun ds A v e hA=>?_
 unfold specOr at e
 split at e
 case h_2=>cases e
 obtain ⟨rfl,rfl⟩:=sm e
 exact orD _ _
noncomputable abbrev Wod:CtrW:=addW 121 (thawD specOr) (addW 122 (pureW specCo) noW)
theorem Wod_ok:CtrWOk Tryz.prog Wod:=addW_ok one_Or (addW_ok one_Co (noW_ok _))
theorem od_1 (x y z w:Int):∃ L,RunIs Tryz.prog (csH Wod []) [] 1000 3 Tryz.f97 [] (cdOd) (startSt [.agg [iX x,iX y],.agg [iX z,iX w]] .nil 3) L
  [([],
   [([D.int IntKind.i64 (cmpI y w),D.int IntKind.i64 (cmpI x z)].length=2)],
   .ret (.int .i64 (orI (cmpI y w) (cmpI x z))) (hL []) 3)]
 :=RunIs.of (by kernel_rfl) (by kernel_rfl) (by kernel_rfl)
end Go.Proofs.YtmjggdmekboefaaGreatDoor
namespace Go.Proofs.YtmjggdmekboefaaGreatDoor
open Go Go.Eng
set_option maxRecDepth 100000
noncomputable abbrev cdWr:Code:=bodyOf Tryz.f94
noncomputable abbrev cdRv:Code:=bodyOf Tryz.f63
noncomputable abbrev tlRv:Code:=tailN 2 cdRv
theorem wr_1 (x y:Int):∃ L,RunIs Tryz.prog (csH noW []) [(5,.split),(9,.split),(14,.split)] 1000 3 Tryz.f94 [] (cdWr) (startSt [.agg [iX x,iX y]] .nil 3) L
  [([((decide (x ≥ (-8192:Int))),true),((decide (x ≤ (8191:Int))),true),((decide (y ≥ (-8192:Int))),true)],
   [],
   .ret (.bool (decide (y ≤ (8191:Int)))) (hL []) 3),
  ([((decide (x ≥ (-8192:Int))),true),((decide (x ≤ (8191:Int))),true),((decide (y ≥ (-8192:Int))),false)],
   [],
   .ret (.bool false) (hL []) 3),
  ([((decide (x ≥ (-8192:Int))),true),((decide (x ≤ (8191:Int))),false)],
   [],
   .ret (.bool false) (hL []) 3),
  ([((decide (x ≥ (-8192:Int))),false)],
   [],
   .ret (.bool false) (hL []) 3)]
 :=RunIs.of (by kernel_rfl) (by kernel_rfl) (by kernel_rfl)
theorem one_Wr:OneW Tryz.prog 94 (pureW specWi):=by
 refine pureT Tryz.func94 fun args A v e=>?_
 unfold specWi at e
 split at e
 case h_2=>cases e
 rename_i x y
 obtain ⟨rfl,rfl⟩:=sm e
 refine ⟨rfl,rfl,rfl,fun _=>retE (noW_ok _) (wr_1 x y) (gcons (g3 fun h h2 h3=>⟨all_nil,_,_,_,rfl,?_⟩) (gcons (g3 fun h h2 h3=>⟨all_nil,_,_,_,rfl,?_⟩) (gcons (g2 fun h h2=>⟨all_nil,_,_,_,rfl,?_⟩) (gone (g1 fun h=>⟨all_nil,_,_,_,rfl,?_⟩)))))⟩ <;> simp only [in8, *,Bool.true_and,Bool.false_and]
theorem rv_1 (n:Nat) (cs:List D):∃ L,RunIs Tryz.prog (csH noW []) [(8,.give (.bool false))] 1000 3 Tryz.f63 [1] (headN 2 cdRv) (startSt [.agg [.lst false n cs]] .nil 3) L
  [([],
   [(V.bool (decide ((Int.ofNat n) > (1024:Int)))=V.bool false)],
   .to .normal (stG [(1,.ptr (some (3,0)))] (hL [(3,.cells [.lst false n cs])]) 4))]
 :=RunIs.of (by kernel_rfl) (by kernel_rfl) (by kernel_rfl)
theorem rv_z (n:Nat) (cs:List D):∃ L,RunIs Tryz.prog (csH noW []) [(8,.give (.bool true))] 1000 3 Tryz.f63 [] (cdRv) (startSt [.agg [.lst false n cs]] .nil 3) L
  [([],
   [(V.bool (decide ((Int.ofNat n) > (1024:Int)))=V.bool true)],
   .ret (.bool false) (hL []) 3)]
 :=RunIs.of (by kernel_rfl) (by kernel_rfl) (by kernel_rfl)
def specOd:List V→Option (List Prop × V)
 | [.agg [.int .i64 x,.int .i64 y],.agg [.int .i64 z,.int .i64 w]]=>some ([],.int .i64 (orI (cmpI y w) (cmpI x z)))
 | _=>none
theorem one_Od:OneW Tryz.prog 97 (pureW specOd):=by
 refine pureT Tryz.func97 fun args A v e=>?_
 unfold specOd at e
 split at e
 case h_2=>cases e
 rename_i x y z w
 obtain ⟨rfl,rfl⟩:=sm e
 exact ⟨rfl,rfl,rfl,fun _=>retE Wod_ok (od_1 x y z w) (gone (g0 ⟨fm1 rfl,_,_,_,rfl,rfl⟩))⟩
noncomputable abbrev Wrv:CtrW:=addW 97 (pureW specOd) (addW 94 (pureW specWi) noW)
theorem Wrv_ok:CtrWOk Tryz.prog Wrv:=addW_ok one_Od (addW_ok one_Wr (noW_ok _))
def sRv2 (n:Nat) (cs:List D) (i:Nat):St:=stG [(1,.ptr (some (3,0))),(10,.lst false n cs),(11,iW n),(12,iW i)] (hL [(3,.cells [.lst false n cs])]) 4
theorem rv_2 (n:Nat) (cs:List D):∃ L,RunIs Tryz.prog (csH noW []) [] 1000 3 Tryz.f63 [1,10,11,12] (seqL (seqL tlRv)) (stG [(1,.ptr (some (3,0)))] (hL [(3,.cells [.lst false n cs])]) 4) L
  [([],
   [],
   .to .normal (sRv2 n cs 0))]
 :=RunIs.of (by kernel_rfl) (by kernel_rfl) (by kernel_rfl)
theorem rv_a (n:Nat) (cs:List D) (i:Nat) (t:Tl):RunE (csH Wrv []) [(13,.give (.bool true)),(15,.give (.fptr t.d)),(21,.give (.bool true))] 3 Tryz.f63 [1,10,11,12] (inner (inner (seqR (seqL tlRv)))) (sRv2 n cs i) [([],[V.bool (decide (Int.ofNat i < Int.ofNat n))=V.bool true,(0:Int) ≤ Int.ofNat i∧Int.ofNat i < Int.ofNat n,cs.length=n * 258,V.fptr (cellsAt cs (i * 258) 258)=V.fptr t.d,V.bool (!in8 t.x t.y)=V.bool true],.ret (.bool false) (hL []) 3)]:=RunIs.of (by kernel_rfl) (by kernel_rfl) (by kernel_rfl)
theorem rv_b (n:Nat) (cs:List D) (i:Nat) (t:Tl) (z:Bool):RunE (csH (pinN 95 [tlV t.p] (.bool z) Wrv) []) [(13,.give (.bool true)),(15,.give (.fptr t.d)),(21,.give (.bool false)),(26,.give (.bool true))] 3 Tryz.f63 [1,10,11,12] (inner (inner (seqR (seqL tlRv)))) (sRv2 n cs i) [([],[V.bool (decide (Int.ofNat i < Int.ofNat n))=V.bool true,(0:Int) ≤ Int.ofNat i∧Int.ofNat i < Int.ofNat n,cs.length=n * 258,V.fptr (cellsAt cs (i * 258) 258)=V.fptr t.d,V.bool (!in8 t.x t.y)=V.bool false,pinA [tlV t.p],V.bool (z)=V.bool true],.ret (.bool false) (hL []) 3)]:=RunIs.of (by kernel_rfl) (by kernel_rfl) (by kernel_rfl)
theorem rv_c (n:Nat) (cs:List D) (i:Nat) (t:Tl) (z:Bool) (q:Nat→Int):RunE (csH (pinN 95 [tlV t.p] (.bool z) (pinN 96 [tlV t.p] (tlV q) Wrv)) []) [(13,.give (.bool true)),(15,.give (.fptr t.d)),(21,.give (.bool false)),(26,.give (.bool false)),(34,.give (.bool true))] 3 Tryz.f63 [1,10,11,12] (inner (inner (seqR (seqL tlRv)))) (sRv2 n cs i) [([],[V.bool (decide (Int.ofNat i < Int.ofNat n))=V.bool true,(0:Int) ≤ Int.ofNat i∧Int.ofNat i < Int.ofNat n,cs.length=n * 258,V.fptr (cellsAt cs (i * 258) 258)=V.fptr t.d,V.bool (!in8 t.x t.y)=V.bool false,pinA [tlV t.p],V.bool (z)=V.bool false,pinA [tlV t.p],V.bool (!eqT q t.p)=V.bool true],.ret (.bool false) (hL []) 3)]:=RunIs.of (by kernel_rfl) (by kernel_rfl) (by kernel_rfl)
theorem rv_d (n:Nat) (cs:List D) (j:Nat) (t u:Tl) (z:Bool) (q:Nat→Int):RunE (csH (pinN 95 [tlV t.p] (.bool z) (pinN 96 [tlV t.p] (tlV q) Wrv)) []) [(13,.give (.bool true)),(15,.give (.fptr t.d)),(21,.give (.bool false)),(26,.give (.bool false)),(34,.give (.bool false)),(37,.give (.bool true)),(41,.give (iW j)),(42,.give (.fptr u.d)),(50,.give (.bool true))] 3 Tryz.f63 [1,10,11,12] (inner (inner (seqR (seqL tlRv)))) (sRv2 n cs (j+1)) [([],[V.bool (decide (Int.ofNat (j+1) < Int.ofNat n))=V.bool true,(0:Int) ≤ Int.ofNat (j+1)∧Int.ofNat (j+1) < Int.ofNat n,cs.length=n * 258,V.fptr (cellsAt cs ((j+1) * 258) 258)=V.fptr t.d,V.bool (!in8 t.x t.y)=V.bool false,pinA [tlV t.p],V.bool (z)=V.bool false,pinA [tlV t.p],V.bool (!eqT q t.p)=V.bool false,V.bool (decide (Int.ofNat (j+1) > (0:Int)))=V.bool true,V.int .i64 (IntKind.i64.wrap (Int.ofNat (j+1) - (1:Int)))=iW j,(0:Int) ≤ Int.ofNat j∧Int.ofNat j < Int.ofNat n,cs.length=n * 258,V.fptr (cellsAt cs (j * 258) 258)=V.fptr u.d,V.bool (decide (orI (cmpI u.y t.y) (cmpI u.x t.x) ≥ (0:Int)))=V.bool true],.ret (.bool false) (hL []) 3)]:=RunIs.of (by kernel_rfl) (by kernel_rfl) (by kernel_rfl)
theorem rv_e (n:Nat) (cs:List D) (j:Nat) (t u:Tl) (z:Bool) (q:Nat→Int):RunE (csH (pinN 95 [tlV t.p] (.bool z) (pinN 96 [tlV t.p] (tlV q) Wrv)) []) [(13,.give (.bool true)),(15,.give (.fptr t.d)),(21,.give (.bool false)),(26,.give (.bool false)),(34,.give (.bool false)),(37,.give (.bool true)),(41,.give (iW j)),(42,.give (.fptr u.d)),(50,.give (.bool false)),(51,.give (iW (j+2)))] 3 Tryz.f63 [1,10,11,12] (inner (inner (seqR (seqL tlRv)))) (sRv2 n cs (j+1)) [([],[V.bool (decide (Int.ofNat (j+1) < Int.ofNat n))=V.bool true,(0:Int) ≤ Int.ofNat (j+1)∧Int.ofNat (j+1) < Int.ofNat n,cs.length=n * 258,V.fptr (cellsAt cs ((j+1) * 258) 258)=V.fptr t.d,V.bool (!in8 t.x t.y)=V.bool false,pinA [tlV t.p],V.bool (z)=V.bool false,pinA [tlV t.p],V.bool (!eqT q t.p)=V.bool false,V.bool (decide (Int.ofNat (j+1) > (0:Int)))=V.bool true,V.int .i64 (IntKind.i64.wrap (Int.ofNat (j+1) - (1:Int)))=iW j,(0:Int) ≤ Int.ofNat j∧Int.ofNat j < Int.ofNat n,cs.length=n * 258,V.fptr (cellsAt cs (j * 258) 258)=V.fptr u.d,V.bool (decide (orI (cmpI u.y t.y) (cmpI u.x t.x) ≥ (0:Int)))=V.bool false,V.int .i64 (IntKind.i64.wrap (Int.ofNat (j+1)+(1:Int)))=iW (j+2)],.to .normal (sRv2 n cs (j+2)))]:=RunIs.of (by kernel_rfl) (by kernel_rfl) (by kernel_rfl)
theorem rv_f (n:Nat) (cs:List D) (i:Nat) (t:Tl) (z:Bool) (q:Nat→Int):RunE (csH (pinN 95 [tlV t.p] (.bool z) (pinN 96 [tlV t.p] (tlV q) Wrv)) []) [(13,.give (.bool true)),(15,.give (.fptr t.d)),(21,.give (.bool false)),(26,.give (.bool false)),(34,.give (.bool false)),(37,.give (.bool false)),(51,.give (iW (i+1)))] 3 Tryz.f63 [1,10,11,12] (inner (inner (seqR (seqL tlRv)))) (sRv2 n cs i) [([],[V.bool (decide (Int.ofNat i < Int.ofNat n))=V.bool true,(0:Int) ≤ Int.ofNat i∧Int.ofNat i < Int.ofNat n,cs.length=n * 258,V.fptr (cellsAt cs (i * 258) 258)=V.fptr t.d,V.bool (!in8 t.x t.y)=V.bool false,pinA [tlV t.p],V.bool (z)=V.bool false,pinA [tlV t.p],V.bool (!eqT q t.p)=V.bool false,V.bool (decide (Int.ofNat i > (0:Int)))=V.bool false,V.int .i64 (IntKind.i64.wrap (Int.ofNat i+(1:Int)))=iW (i+1)],.to .normal (sRv2 n cs (i+1)))]:=RunIs.of (by kernel_rfl) (by kernel_rfl) (by kernel_rfl)
theorem rv_x (n:Nat) (cs:List D) (i:Nat):∃ L,RunIs Tryz.prog (csH noW []) [(13,.give (.bool false))] 1000 3 Tryz.f63 [1,10,11,12] (inner (inner (seqR (seqL tlRv)))) (sRv2 n cs i) L
  [([],
   [(V.bool (decide (Int.ofNat i < Int.ofNat n))=V.bool false)],
   .to (.exit 0) (sRv2 n cs i))]
 :=RunIs.of (by kernel_rfl) (by kernel_rfl) (by kernel_rfl)
theorem rv_y (n:Nat) (cs:List D) (i:Nat):∃ L,RunIs Tryz.prog (csH noW []) [] 1000 3 Tryz.f63 [] (seqR tlRv) (sRv2 n cs i) L
  [([],
   [],
   .ret (.bool true) (hL []) 3)]
 :=RunIs.of (by kernel_rfl) (by kernel_rfl) (by kernel_rfl)
end Go.Proofs.YtmjggdmekboefaaGreatDoor
namespace Go.Proofs.YtmjggdmekboefaaGreatDoor
open Go Go.Eng
set_option maxRecDepth 100000
def okV (u:Option Tl) (t:Tl):Bool:=in8 t.x t.y && (!(eqT (clnT t.p) fun _=>0) && (eqT (clnT t.p) t.p && (match u with | none=>true | some u=>decide (orI (cmpI u.y t.y) (cmpI u.x t.x) < 0))))
def valV:Option Tl→List Tl→Bool
 | _,[]=>true
 | u,t :: l=>okV u t && valV (some t) l
def rvF (l:List Tl):Bool:=decide (l.length ≤ 1024) && valV none l
def pvT (l:List Tl):Nat→Option Tl
 | 0=>none
 | i+1=>l[i]?
theorem bT {p:Prop} [Decidable p] (h:p):V.bool (decide p)=V.bool true:=congrArg V.bool (decide_eq_true h)
theorem bF {p:Prop} [Decidable p] (h:¬ p):V.bool (decide p)=V.bool false:=congrArg V.bool (decide_eq_false h)
theorem rvD (l:List Tl) (hl:l.length ≤ 1000000):DeepTo Tryz.prog 63 [rasV l] (.bool (rvF l)):=by
 refine deepT Tryz.func63 ?_
 by_cases hb:l.length ≤ 1024
 case neg=>
  have e:rvF l=false:=by unfold rvF; rw [decide_eq_false hb]; rfl
  rw [e]
  exact retE (noW_ok _) (rv_z _ _) (gone (g0 ⟨fm1 (bT (by simp only [hOn]; omega)),_,_,_,rfl,rfl⟩))
 have e0:rvF l=valV none l:=by unfold rvF; rw [decide_eq_true hb,Bool.true_and]
 rw [e0]
 refine isE1 2 (noW_ok _) (rv_1 l.length (tlD l)) (fm1 (bF (by simp only [hOn]; omega))) ?_
 refine loopF (noW_ok _) 0 _ [1,10,11,12] (l.length - ·) (fun i=>i ≤ l.length∧valV none l=valV (pvT l i) (l.drop i)) (fun i=>sRv2 l.length (tlD l) i) 0 ⟨Nat.zero_le _,rfl⟩ (rv_2 _ _) all_nil .refl fun i ⟨hi,hv⟩=>?_
 by_cases hlt:i < l.length
 case neg=>
  obtain rfl:i=l.length:=by omega
  refine ⟨_,noW_ok _,_,_,_,rv_x _ _ _,gone (g0 ⟨fm1 (bF (by simp only [hOn]; omega)),rfl,retE (noW_ok _) (rv_y _ _ _) (gone (g0 ⟨all_nil,_,_,_,rfl,?_⟩))⟩)⟩
  rw [hv,List.drop_length]; rfl
 have hd:l.drop i=l[i] :: l.drop (i+1):=List.drop_eq_getElem_cons hlt
 have hat:=tlD_at hlt
 have hlen:=tlD_len l
 have hn:l[i]? =some l[i]:=List.getElem?_eq_getElem hlt
 generalize l[i]=t at hd hat hn
 rw [hd] at hv
 have hv:valV none l=(okV (pvT l i) t && valV (some t) (l.drop (i+1))):=hv
 have hT:V.bool (decide (Int.ofNat i < Int.ofNat l.length))=V.bool true:=bT (by simp only [hOn]; omega)
 have bad:okV (pvT l i) t=false→V.bool false=V.bool (valV none l):=fun h=>by rw [hv,h]; rfl
 cases h1:in8 t.x t.y with
 | false=>exact ⟨_,Wrv_ok,_,_,_,rv_a _ _ i t,gone (g0 ⟨fm hT (fm (ibd hlt) (fm hlen (fm hat (fm1 (by rw [h1]; rfl))))),bad (by unfold okV; rw [h1]; rfl)⟩)⟩
 | true=>
 cases h2:eqT (clnT t.p) (fun _=>0) with
 | true=>exact ⟨_,pinK (tzD t.p) Wrv_ok,_,_,_,rv_b _ _ i t _,gone (g0 ⟨fm hT (fm (ibd hlt) (fm hlen (fm hat (fm (by rw [h1]; rfl) (fm rfl (fm1 (congrArg V.bool h2))))))),bad (by unfold okV; rw [h1,h2]; rfl)⟩)⟩
 | false=>
 have X:=pinK (tzD t.p) (pinK (tcD t.p) Wrv_ok)
 cases h3:eqT (clnT t.p) t.p with
 | false=>exact ⟨_,X,_,_,_,rv_c _ _ i t _ _,gone (g0 ⟨fm hT (fm (ibd hlt) (fm hlen (fm hat (fm (by rw [h1]; rfl) (fm rfl (fm (congrArg V.bool h2) (fm rfl (fm1 (by rw [h3]; rfl))))))))),bad (by unfold okV; rw [h1,h2,h3]; rfl)⟩)⟩
 | true=>
 cases i with
 | zero=>
   refine ⟨_,X,_,_,_,rv_f _ _ 0 t _ _,gone (g0 ⟨?_,1,lsub hlt,⟨hlt,?_⟩,.refl⟩)⟩
   · repeat' (first | exact all_nil | refine fm ?_ ?_)
     all_goals first
      | exact hT
      | exact ibd hlt
      | exact hlen
      | exact hat
      | rfl
      | exact congrArg V.bool h2
      | (rw [h1]; rfl)
      | (rw [h3]; rfl)
      | exact bF (by decide)
      | exact vsuc (by omega)
   rw [hv]
   have:okV (pvT l 0) t=true:=by unfold okV pvT; rw [h1,h2,h3]; rfl
   rw [this,Bool.true_and]
   show _=valV l[0]? _
   rw [hn]
 | succ j=>
   have hj:j < l.length:=by omega
   have hat2:=tlD_at hj
   have hn2:l[j]? =some l[j]:=List.getElem?_eq_getElem hj
   generalize l[j]=u at hat2 hn2
   have hpv:pvT l (j+1)=some u:=hn2
   rw [hpv] at hv bad
   have A:∀ (o:Bool),V.bool (decide (orI (cmpI u.y t.y) (cmpI u.x t.x) ≥ (0:Int)))=V.bool o→∀ p ∈ [V.bool (decide (Int.ofNat (j+1) < Int.ofNat l.length))=V.bool true,(0:Int) ≤ Int.ofNat (j+1)∧Int.ofNat (j+1) < Int.ofNat l.length,(tlD l).length=l.length * 258,V.fptr (cellsAt (tlD l) ((j+1) * 258) 258)=V.fptr t.d,V.bool (!in8 t.x t.y)=V.bool false,pinA [tlV t.p],V.bool (eqT (clnT t.p) fun _=>0)=V.bool false,pinA [tlV t.p],V.bool (!eqT (clnT t.p) t.p)=V.bool false,V.bool (decide (Int.ofNat (j+1) > (0:Int)))=V.bool true,V.int .i64 (IntKind.i64.wrap (Int.ofNat (j+1) - (1:Int)))=iW j,(0:Int) ≤ Int.ofNat j∧Int.ofNat j < Int.ofNat l.length,(tlD l).length=l.length * 258,V.fptr (cellsAt (tlD l) (j * 258) 258)=V.fptr u.d,V.bool (decide (orI (cmpI u.y t.y) (cmpI u.x t.x) ≥ (0:Int)))=V.bool o],p:=fun o ho=>
    fm hT (fm (ibd hlt) (fm hlen (fm hat (fm (by rw [h1]; rfl) (fm rfl (fm (congrArg V.bool h2) (fm rfl (fm (by rw [h3]; rfl) (fm (bT (by simp only [hOn]; omega)) (fm (ieq_ok (by simp only [hOn]; omega) (by omega)) (fm (ibd hj) (fm hlen (fm hat2 (fm1 ho))))))))))))))
   by_cases ho:orI (cmpI u.y t.y) (cmpI u.x t.x) ≥ 0
   · exact ⟨_,X,_,_,_,rv_d _ _ j t u _ _,gone (g0 ⟨A true (bT ho),bad (by unfold okV; rw [h1,h2,h3]; simp only [Bool.true_and,Bool.not_false]; exact decide_eq_false (by omega))⟩)⟩
   · refine ⟨_,X,_,_,_,rv_e _ _ j t u _ _,gone (g0 ⟨?_,j+2,by show l.length - (j+2) < l.length - (j+1); omega,⟨hlt,?_⟩,.refl⟩)⟩
     · clear A
       repeat' (first | exact all_nil | refine fm ?_ ?_)
       all_goals first
        | exact hT
        | exact ibd hlt
        | exact hlen
        | exact hat
        | rfl
        | exact congrArg V.bool h2
        | (rw [h1]; rfl)
        | (rw [h3]; rfl)
        | exact bT (by simp only [hOn]; omega)
        | exact ieq_ok (by simp only [hOn]; omega) (by omega)
        | exact ibd hj
        | exact hat2
        | exact bF ho
        | exact vsuc (by omega)
     · rw [hv]
       have:okV (some u) t=true:=by unfold okV; rw [h1,h2,h3]; simp only [Bool.true_and,Bool.not_false]; exact decide_eq_true (by omega)
       rw [this,Bool.true_and]
       show _=valV l[j+1]? _
       rw [hn]
end Go.Proofs.YtmjggdmekboefaaGreatDoor
namespace Go.Proofs.YtmjggdmekboefaaGreatDoor
open Go Go.Eng
set_option maxRecDepth 100000
open Sha (gS gR hSR tabs TabsTo sha strs)
def pinB (f0:FuncId) (args0:List V) (v:V) (S:CtrW):CtrW:=fun f args h n=>match Nat.beq f f0 with
 | true=>match tabs h with
   | some (st,rd)=>some ([args=args0,st=gS,rd=gR],v,h,n)
   | none=>none
 | false=>S f args h n
theorem pinB_ok {f0:FuncId} {args0:List V} {v:V} {S:CtrW} (hc:TabsTo f0 args0 v) (hS:CtrWOk Tryz.prog S) (hlt:Nat.blt f0 Tryz.prog.funcs.size=true:=by kernel_rfl):CtrWOk Tryz.prog (pinB f0 args0 v S):=by
 intro f args h n A v' h' n' e
 unfold pinB at e
 split at e
 · rename_i hb
   have hb:=Nat.eq_of_beq_eq_true hb
   subst hb
   split at e
   case h_2=>cases e
   rename_i st rd ht
   simp only [Option.some.injEq,Prod.mk.injEq] at e
   obtain ⟨rfl,rfl,rfl,rfl⟩:=e
   refine ⟨Nat.le_of_ble_eq_true hlt,fun hA E w args' ra g hd _=>?_⟩
   obtain rfl:args=args0:=hA _ (by simp)
   obtain rfl:st=gS:=hA (st=gS) (by simp)
   obtain rfl:rd=gR:=hA (rd=gR) (by simp)
   exact hc E h n w args' ht ra g hd
 · exact hS f args h n A v' h' n' e
theorem tkD (p:Nat→Int):TabsTo 37 [tlV p] (.str (sha (tileB p))):=
 Sha.tabs_calls Tryz.func37 (code:=cdTk) (by kernel_rfl) (by kernel_rfl) (by kernel_rfl) rfl (TG_mono (retE (R:=fun u _ _=>u= .str (sha (tileB p))) (pinK (tbD p) Sha.W5_ok) (tk_1 p (tileB p)) (gone (g0 ⟨fm rfl (fm rfl (fm rfl (fm1 (by unfold tileB strI; rw [List.length_map,tl_len]; decide)))),_,_,_,rfl,rfl⟩))) fun y s h=>Sha.RetG_self h)
noncomputable abbrev cdKy:Code:=bodyOf Tryz.f10
noncomputable abbrev tlKy:Code:=tailN 2 cdKy
def hKy (r:List (Nat × O)):Tr O:=hL ((0,.ints .u32 gS) :: (1,.ints .u32 gR) :: r)
def sKy0 (n:Nat) (cs:List D) (i:Nat):St:=stG [(3,nilS),(7,.lst false n cs),(8,iW n),(9,iW i)] (hKy []) 3
def sKy1 (n:Nat) (cs:List D) (i m:Nat) (ds:List D):St:=stG [(3,.slc (some (3,0)) m m 1),(7,.lst false n cs),(8,iW n),(9,iW i)] (hKy [(3,.deep ds)]) 4
def sKz:St:=stG [(3,nilS),(7,nilS),(8,iX 0),(9,iX 0)] (hKy []) 3
theorem ky_1 (n:Nat) (cs:List D):∃ L,RunIs Tryz.prog (csH noW []) [] 1000 3 Tryz.f10 [1,3] (headN 2 cdKy) (startSt [.agg [.lst false n cs]] (hSR gS gR) 3) L
  [([],
   [],
   .to .normal (stG [(1,.ptr (some (3,0))),(3,.slc none 0 0 0)] (hL [(0,.ints .u32 gS),(1,.ints .u32 gR),(3,.cells [.lst false n cs])]) 4))]
 :=RunIs.of (by kernel_rfl) (by kernel_rfl) (by kernel_rfl)
theorem ky_2 (n:Nat) (cs:List D):∃ L,RunIs Tryz.prog (csH (pinN 63 [.agg [.lst false n cs]] (.bool true) noW) []) [] 1000 3 Tryz.f10 [3,7,8,9] (seqL (seqL tlKy)) (stG [(1,.ptr (some (3,0))),(3,nilS)] (hKy [(3,.cells [.lst false n cs])]) 4) L
  [([],
   [(pinA [.agg [.lst false n cs]])],
   .to .normal (sKy0 n cs 0))]
 :=RunIs.of (by kernel_rfl) (by kernel_rfl) (by kernel_rfl)
theorem ky_3 (n:Nat) (cs:List D):∃ L,RunIs Tryz.prog (csH (pinN 63 [.agg [.lst false n cs]] (.bool false) noW) []) [] 1000 3 Tryz.f10 [3,7,8,9] (seqL (seqL tlKy)) (stG [(1,.ptr (some (3,0))),(3,nilS)] (hKy [(3,.cells [.lst false n cs])]) 4) L
  [([],
   [(pinA [.agg [.lst false n cs]])],
   .to .normal (sKz))]
 :=RunIs.of (by kernel_rfl) (by kernel_rfl) (by kernel_rfl)
def kyA (t:Tl):List UInt8:=put4 (IntKind.i64.wrap (t.x+65536)) ++ put4 (IntKind.i64.wrap (t.y+65536))
theorem ky_4 (n:Nat) (cs:List D) (i:Nat) (t:Tl) (k:List UInt8):RunE (csH (pinB 37 [tlV t.p] (.str k) W1) []) [(10,.split),(11,.give (.fptr t.d)),(30,.give (iW (i+1)))] 3 Tryz.f10 [3,7,8,9] (inner (inner (seqR (seqL tlKy)))) (sKy0 n cs i)
  [([(decide (Int.ofNat i < Int.ofNat n),true)],[(0:Int) ≤ Int.ofNat i∧Int.ofNat i < Int.ofNat n,cs.length=n * 258,V.fptr (cellsAt cs (i * 258) 258)=V.fptr t.d,(put4 (IntKind.i64.wrap (t.x+(65536:Int)))).length+(put4 (IntKind.i64.wrap (t.y+(65536:Int)))).length ≤ 9223372036854775807,pinA [tlV t.p],gS=gS,gR=gR,V.int .i64 (IntKind.i64.wrap (Int.ofNat i+(1:Int)))=iW (i+1)],.to .normal (stG [(3,.slc (some (3,0)) 2 2 1),(7,.lst false n cs),(8,iW n),(9,iW (i+1))] (hKy [(3,.cells [.str (kyA t),.str k])]) 4)),
   ([(decide (Int.ofNat i < Int.ofNat n),false)],[],.to (.exit 0) (sKy0 n cs i))]:=RunIs.of (by kernel_rfl) (by kernel_rfl) (by kernel_rfl)
theorem ky_5 (n:Nat) (cs:List D) (i m:Nat) (ds:List D) (t:Tl) (k:List UInt8):RunE (csH (pinB 37 [tlV t.p] (.str k) W1) []) [(10,.split),(11,.give (.fptr t.d)),(30,.give (iW (i+1)))] 3 Tryz.f10 [3,7,8,9] (inner (inner (seqR (seqL tlKy)))) (sKy1 n cs i m ds)
  [([(decide (Int.ofNat i < Int.ofNat n),true)],[(0:Int) ≤ Int.ofNat i∧Int.ofNat i < Int.ofNat n,cs.length=n * 258,V.fptr (cellsAt cs (i * 258) 258)=V.fptr t.d,(put4 (IntKind.i64.wrap (t.x+(65536:Int)))).length+(put4 (IntKind.i64.wrap (t.y+(65536:Int)))).length ≤ 9223372036854775807,pinA [tlV t.p],gS=gS,gR=gR,0+m * 1 ≤ ds.length,0 < 2,roomy (m+2) 1 16=true,V.int .i64 (IntKind.i64.wrap (Int.ofNat i+(1:Int)))=iW (i+1)],.to .normal (sKy1 n cs (i+1) (m+2) (List.take (m * 1) (List.drop 0 ds) ++ [.str (kyA t),.str k]))),
   ([(decide (Int.ofNat i < Int.ofNat n),false)],[],.to (.exit 0) (sKy1 n cs i m ds))]:=RunIs.of (by kernel_rfl) (by kernel_rfl) (by kernel_rfl)
def sKe (n:Nat) (cs:List D) (i m:Nat) (ds:List D):St:=stG [(3,.lst false m ds),(7,.lst false n cs),(8,iW n),(9,iW i)] (hKy []) 3
theorem ky_6 (n:Nat) (cs:List D) (i m:Nat) (ds:List D):∃ L,RunIs Tryz.prog (csH Sha.W6 []) [] 1000 3 Tryz.f10 [] (seqR tlKy) (sKe n cs i m ds) L
  [([],
   [(gS=gS),(gR=gR),(ds=strs (Sha.strL ds)),(m=(Sha.strL ds).length),(0 < m),(m ≤ 1000000000),((Sha.joinB (Sha.strL ds)).length ≤ 1000000000)],
   .ret (.str (sha (Sha.joinB (Sha.strL ds)))) (hL [(0,.ints .u32 gS),(1,.ints .u32 gR)]) 3)]
 :=RunIs.of (by kernel_rfl) (by kernel_rfl) (by kernel_rfl)
theorem ky_7 (n:Nat) (cs:List D) (i:Nat) (v:List UInt8):∃ L,RunIs Tryz.prog (csH (pinB 8 [nilS] (.str v) noW) []) [] 1000 3 Tryz.f10 [] (seqR tlKy) (sKy0 n cs i) L
  [([],
   [([] ++ [nilS] ++ []=[nilS]),(gS=gS),(gR=gR)],
   .ret (.str v) (hL [(0,.ints .u32 gS),(1,.ints .u32 gR)]) 3)]
 :=RunIs.of (by kernel_rfl) (by kernel_rfl) (by kernel_rfl)
theorem ky_8 (v:List UInt8):∃ L,RunIs Tryz.prog (csH (pinB 8 [nilS] (.str v) noW) []) [] 1000 3 Tryz.f10 [] (seqR tlKy) (sKz) L
  [([],
   [([] ++ [nilS] ++ []=[nilS]),(gS=gS),(gR=gR)],
   .ret (.str v) (hL [(0,.ints .u32 gS),(1,.ints .u32 gR)]) 3)]
 :=RunIs.of (by kernel_rfl) (by kernel_rfl) (by kernel_rfl)
theorem ky_9 (n:Nat):∃ L,RunIs Tryz.prog (csH noW []) [] 1000 3 Tryz.f10 [3,7,8,9] (inner (inner (seqR (seqL tlKy)))) (sKz) L
  [([],
   [],
   .to (.exit 0) (sKz))]
 :=RunIs.of (by kernel_rfl) (by kernel_rfl) (by kernel_rfl)
noncomputable abbrev cdJo:Code:=bodyOf Tryz.f8
theorem ky_0 (n:Nat):∃ L,RunIs Tryz.prog (csH Sha.W5 []) [] 1000 3 Tryz.f8 [] (cdJo) (startSt [nilS] (hSR gS gR) 3) L
  [([],
   [(gS=gS),(gR=gR),(0 ≤ 1000000000)],
   .ret (.str [227,176,196,66,152,252,28,20,154,251,244,200,153,111,185,36,39,174,65,228,100,155,147,76,164,149,153,27,120,82,184,85]) (hL [(0,.ints .u32 gS),(1,.ints .u32 gR)]) 3)]
 :=RunIs.of (by kernel_rfl) (by kernel_rfl) (by kernel_rfl)
end Go.Proofs.YtmjggdmekboefaaGreatDoor
namespace Go.Proofs.YtmjggdmekboefaaGreatDoor
open Go Go.Eng
set_option maxRecDepth 100000
open Sha (gS gR hSR tabs TabsTo sha strs joinB strL strL_strs)
def fzG (n0:Nat) (ms live:List Nat) (s:St):Option (List Prop × St):=match fzS ms s with
 | some (A,s1)=>match normG n0 live s1 with
   | some S=>some (A,S)
   | none=>none
 | none=>none
theorem Goes.fzG {P:Program} {n0 N:Nat} {s S:St} (ms live:List Nat) {A:List Prop} (e:fzG n0 ms live s=some (A,S)) (hA:∀ x ∈ A,x):Goes P n0 N s S:=by
 unfold YtmjggdmekboefaaGreatDoor.fzG at e
 split at e
 case h_2=>cases e
 rename_i A1 s1 h1
 split at e
 case h_2=>cases e
 rename_i S1 h2
 simp only [Option.some.injEq,Prod.mk.injEq] at e
 obtain ⟨rfl,rfl⟩:=e
 exact (Goes.frz ms h1 hA).trans (.norm h2)
theorem roomy_k {k:Nat} (h:k ≤ 1000000000):roomy k 1 16=true:=by
 unfold roomy
 exact decide_eq_true ⟨by omega,by omega⟩
theorem joD0:TabsTo 8 [nilS] (.str (sha [])):=
 Sha.tabs_calls Tryz.func8 (code:=cdJo) (by kernel_rfl) (by kernel_rfl) (by kernel_rfl) rfl (TG_mono (retE (R:=fun u _ _=>u= .str (sha [])) Sha.W5_ok (ky_0 0) (gone (g0 ⟨by
  repeat' (first | exact all_nil | refine fm ?_ ?_)
  all_goals first | rfl | decide,_,_,_,rfl,rfl⟩))) fun y s h=>Sha.RetG_self h)
def kyL (l:List Tl):List (List UInt8):=(l.map fun t=>[kyA t,sha (tileB t.p)]).flatten
def keyR (l:List Tl):List UInt8:=sha (joinB (if rvF l=true then kyL l else []))
theorem kyL_step {l:List Tl} {i:Nat} {t:Tl} (h:l[i]? =some t):kyL (l.take (i+1))=kyL (l.take i) ++ [kyA t,sha (tileB t.p)]:=by
 unfold kyL
 rw [List.take_add_one,h]; simp
theorem kyL_len:∀ l:List Tl,(kyL l).length=2 * l.length
 | []=>rfl
 | t :: l=>by
   have:=kyL_len l
   unfold kyL at this ⊢
   simp only [List.map_cons,List.flatten_cons,List.length_append,List.length_cons,List.length_nil,this]; omega
def sKyi (l:List Tl):Nat→St
 | 0=>sKy0 l.length (tlD l) 0
 | i+1=>sKy1 l.length (tlD l) (i+1) (2 * (i+1)) (strs (kyL (l.take (i+1))))
theorem strs_app (a b:List (List UInt8)):strs (a ++ b)=strs a ++ strs b:=List.map_append ..
theorem strs_len (a:List (List UInt8)):(strs a).length=a.length:=List.length_map ..
theorem keyT (l:List Tl) (hl:l.length ≤ 1000000) (hJ:(joinB (kyL l)).length ≤ 1000000000):TG Tryz.prog 3 Tryz.f10.ntmps cdKy (startSt [rasV l] (hSR gS gR) 3) (RetG Tryz.prog 3 Tryz.f10 fun u _ _=>u= .str (keyR l)):=by
 refine isE1 2 (noW_ok _) (ky_1 l.length (tlD l)) all_nil ?_
 have hD:=rvD l hl
 cases hv:rvF l with
 | false=>
   rw [hv] at hD
   have ek:keyR l=sha []:=by unfold keyR; rw [hv]; rfl
   rw [ek]
   refine loopF (pinK hD (noW_ok _)) 0 _ [3,7,8,9] (fun _:Nat=>0) (fun _=>True) (fun _=>sKz) 0 trivial (ky_3 _ _) (fm1 rfl) .refl fun _ _=>?_
   exact ⟨_,noW_ok _,_,_,_,ky_9 0,gone (g0 ⟨all_nil,rfl,retE (pinB_ok joD0 (noW_ok _)) (ky_8 _) (gone (g0 ⟨fm rfl (fm rfl (fm1 rfl)),_,_,_,rfl,rfl⟩))⟩)⟩
 | true=>
   rw [hv] at hD
   have ek:keyR l=sha (joinB (kyL l)):=by unfold keyR; rw [hv]; rfl
   rw [ek]
   refine loopF (pinK hD (noW_ok _)) 0 _ [3,7,8,9] (l.length - ·) (· ≤ l.length) (sKyi l) 0 (Nat.zero_le _) (ky_2 _ _) (fm1 rfl) .refl fun i hi=>?_
   have hput:∀ t:Tl,(put4 (IntKind.i64.wrap (t.x+(65536:Int)))).length+(put4 (IntKind.i64.wrap (t.y+(65536:Int)))).length ≤ 9223372036854775807:=fun t=>by
    show 4+4 ≤ _; decide
   have hlen:=tlD_len l
   have ht:∀ h:i < l.length,∃ t,l[i]? =some t∧V.fptr (cellsAt (tlD l) (i * 258) 258)=V.fptr t.d:=fun h=>⟨_,List.getElem?_eq_getElem h,tlD_at h⟩
   obtain ⟨t,htt⟩:∃ t:Tl,∀ h:i < l.length,l[i]? =some t∧V.fptr (cellsAt (tlD l) (i * 258) 258)=V.fptr t.d:=by
    by_cases h:i < l.length
    · obtain ⟨t,h1⟩:=ht h; exact ⟨t,fun _=>h1⟩
    · exact ⟨⟨0,0,fun _=>0⟩,fun q=>absurd q h⟩
   have X:=pinB_ok (tkD t.p) W1_ok
   cases i with
   | zero=>
     refine ⟨_,X,_,_,_,ky_4 _ _ 0 t _,gcons (g1 fun h=>?_) (gone (g1 fun h=>⟨all_nil,rfl,?_⟩))⟩
     · have hlt:=dlt h
       obtain ⟨h1,h2⟩:=htt hlt
       refine ⟨?_,1,lsub hlt,hlt,?_⟩
       · exact fm (ibd hlt) (fm hlen (fm h2 (fm (hput t) (fm rfl (fm rfl (fm rfl (fm1 (vsuc (by omega)))))))))
       show Goes _ _ _ _ (sKy1 l.length (tlD l) (0+1) (2 * (0+1)) (strs (kyL (l.take (0+1)))))
       rw [kyL_step h1]
       exact .deep [3] (by kernel_rfl)
     · have:=dge h
       have e:l=[]:=List.length_eq_zero_iff.1 (by omega)
       subst e
       exact retE (pinB_ok joD0 (noW_ok _)) (ky_7 _ _ _ _) (gone (g0 ⟨fm rfl (fm rfl (fm1 rfl)),_,_,_,rfl,rfl⟩))
   | succ j=>
     have hk:=kyL_len (l.take (j+1))
     rw [List.length_take] at hk
     refine ⟨_,X,_,_,_,ky_5 _ _ (j+1) (2 * (j+1)) (strs (kyL (l.take (j+1)))) t _,gcons (g1 fun h=>?_) (gone (g1 fun h=>⟨all_nil,rfl,?_⟩))⟩
     · have hlt:=dlt h
       obtain ⟨h1,h2⟩:=htt hlt
       refine ⟨?_,j+2,by show l.length - (j+2) < l.length - (j+1); omega,hlt,?_⟩
       · repeat' (first | exact all_nil | refine fm ?_ ?_)
         all_goals first
          | exact ibd hlt
          | exact hlen
          | exact h2
          | exact hput t
          | exact rfl
          | exact roomy_k (by omega)
          | exact vsuc (by omega)
          | (rw [strs_len]; omega)
          | decide
       show Goes _ _ _ _ (sKy1 l.length (tlD l) (j+1+1) (2 * (j+1+1)) (strs (kyL (l.take (j+1+1)))))
       rw [kyL_step h1,strs_app,List.drop_zero,List.take_of_length_le (by rw [strs_len]; omega)]
       exact .refl
     · have hn:j+1=l.length:=by have:=dge h; omega
       rw [hn,List.take_length] at *
       have hq:=strL_strs (kyL l)
       refine Goes.fzG [3] [3,7,8,9] (S:=sKe l.length (tlD l) l.length (2 * l.length) (strs (kyL l))) (A:=[(strs (kyL l)).length=2 * l.length * 1]) (by kernel_rfl) (fm1 (by rw [strs_len,kyL_len]; omega)) _ _ ?_
       refine retE Sha.W6_ok (ky_6 _ _ _ _ _) (gone (g0 ⟨?_,_,_,_,rfl,by rw [hq]⟩))
       rw [hq]
       exact fm rfl (fm rfl (fm rfl (fm (kyL_len l).symm (fm (by omega) (fm (by omega) (fm1 hJ))))))
theorem keyD (l:List Tl) (hl:l.length ≤ 1000000) (hJ:(joinB (kyL l)).length ≤ 1000000000):TabsTo 10 [rasV l] (.str (keyR l)):=
 Sha.tabs_calls Tryz.func10 (code:=cdKy) (by kernel_rfl) (by kernel_rfl) (by kernel_rfl) rfl (TG_mono (keyT l hl hJ) fun y s h=>Sha.RetG_self h)
end Go.Proofs.YtmjggdmekboefaaGreatDoor
namespace Go.Proofs.YtmjggdmekboefaaGreatDoor
open Go Go.Eng
set_option maxRecDepth 100000
open Sha (gS gR hSR tabs TabsTo sha strs joinB strL strL_strs)
theorem good_phi {E:Env} {h:Tr O} {w:World} {φ:Nat→Option (Array Value)} (g:Eng.Good E h w) (hro:∀ m,¬ wlive h m) (hint:∀ m o,h.get m=some o→∃ k ks,o= .ints k ks) (hok:FzOk φ w):Eng.Good ⟨E.ι,E.β,φ⟩ h w:=by
 refine ⟨fun m o hm=>?_,fun m m' b s s' hne hm hm' e1 e2=>g.inj m m' b s s' hne hm hm' e1 e2,g.bnd,g.glob,fun b c q=>⟨hok b c q,fun m s hm=>absurd hm (hro m)⟩⟩
 obtain ⟨b,s,h1,h2⟩:=g.rel m o hm
 obtain ⟨k,ks,rfl⟩:=hint m o hm
 exact ⟨b,s,h1,h2⟩
theorem hSR_ints (st rd:List Int):∀ m o,(hSR st rd).get m=some o→∃ k ks,o= .ints k ks:=by
 intro m o hm
 rcases hLi_get [(0,.ints .u32 st),(1,.ints .u32 rd)] .nil m o (fun q hq=>by
  simp only [List.mem_cons,List.not_mem_nil,or_false] at hq
  rcases hq with rfl | rfl <;> exact Nat.le_of_ble_eq_true rfl) hm with h1 | h1
 · simp [Tr.get] at h1
 · simp only [List.mem_cons,Prod.mk.injEq,List.not_mem_nil,or_false] at h1
   rcases h1 with ⟨_,rfl⟩ | ⟨_,rfl⟩ <;> exact ⟨_,_,rfl⟩
def thawT (sp:List D→Option (List Prop × V)):List V→Tr O→Nat→Option (List Prop × V × Tr O × Nat):=fun args h n=>match tabs h,fzVs (rowH h) args with
 | some (st,rd),some (A,a2)=>match dargs a2 with
   | some ds=>match sp ds with
     | some (B,v)=>match v.free with
       | true=>some ((st=gS) :: (rd=gR) :: (A ++ B),v,h,n)
       | false=>none
     | none=>none
   | none=>none
 | _,_=>none
theorem thawT_ok {f:FuncId} {sp:List D→Option (List Prop × V)} (hlt:Nat.blt f Tryz.prog.funcs.size=true) (hp:∀ ds A v,sp ds=some (A,v)→(∀ a ∈ A,a)→∀ E w args',vrels E (ds.map D.toV) args'→Eng.Good E (hSR gS gR) w→Dom E 3→Calls Tryz.prog f args'.toArray w (fun e w'=>(∃ E,outrel E (.ret v) e)∧RowKit.Below w.heap.size w w')):OneW Tryz.prog f (thawT sp):=by
 refine ⟨Nat.le_of_ble_eq_true hlt,fun args h n A v h2 n2 e hA E w args' ra g hd hc=>?_⟩
 unfold thawT at e
 split at e
 case h_2=>cases e
 rename_i st rd A1 a2 ht e1
 split at e
 case h_2=>cases e
 rename_i ds e2
 split at e
 case h_2=>cases e
 rename_i B v' e3
 split at e
 case h_2=>cases e
 rename_i hf
 simp only [Option.some.injEq,Prod.mk.injEq] at e
 obtain ⟨rfl,rfl,rfl,rfl⟩:=e
 obtain rfl:st=gS:=hA _ (by simp)
 obtain rfl:rd=gR:=hA (rd=gR) (by simp)
 obtain ⟨φ,hok,hsub,ra2⟩:=thaw_env g e1 (fun a ha=>hA a (by simp [ha])) ra
 obtain ⟨h0,h1⟩:=Sha.tabs_some ht
 obtain ⟨g2,d2,n2⟩:=Sha.tabs_rows g h0 h1
 have ra3:=dargs_rel e2 ra2
 have ra4:vrels ⟨(E.rows Sha.nsG).ι,(E.rows Sha.nsG).β,φ⟩ (ds.map D.toV) args':=deeps_rel (E:=⟨E.ι,E.β,φ⟩) (E':=⟨(E.rows Sha.nsG).ι,(E.rows Sha.nsG).β,φ⟩) (fun _ _ q=>q) _ _ (map_deep ds) ra3
 exact (hp ds B v' e3 (fun a ha=>hA a (by simp [ha])) _ w args' ra4 (good_phi g2 n2 (hSR_ints _ _) hok) d2).mono fun en w' ⟨ho,b⟩=>cpost_of g hd hf ho b
noncomputable abbrev cdDk:Code:=bodyOf Tryz.f7
theorem one_Jt:OneW Tryz.prog 8 (thawT Sha.specJo):=by
 refine thawT_ok (by kernel_rfl) fun ds A v e hA E w args' ra g hd=>?_
 unfold Sha.specJo at e
 split at e
 case h_2=>cases e
 rename_i n cs
 obtain ⟨rfl,rfl⟩:=sm e
 have e1:cs=strs (strL cs):=hA _ (by simp)
 have e2:n=(strL cs).length:=hA (n=(strL cs).length) (by simp)
 have e3:0 < n:=hA (0 < n) (by simp)
 have e4:n ≤ 1000000000:=hA (n ≤ 1000000000) (by simp)
 have e5:(joinB (strL cs)).length ≤ 1000000000:=hA ((joinB (strL cs)).length ≤ 1000000000) (by simp)
 generalize strL cs=ps at *
 subst e1 e2
 have n2:∀ m,¬ wlive (hSR gS gR) m:=by
  rintro m ⟨o,h1,h2⟩
  obtain ⟨k,ks,rfl⟩:=hSR_ints _ _ m o h1
  cases h2
 exact calls_pure Sha.mo Sha.po Tryz.func8 (by kernel_rfl) (by kernel_rfl) (Sha.tgJo false ps e3 e4 e5) ra g hd n2
theorem joinB_len:∀ ps:List (List UInt8),(∀ p ∈ ps,p.length ≤ 64)→(joinB ps).length ≤ 72 * ps.length
 | [],_=>Nat.le_refl _
 | p :: ps,h=>by
   have h1:=joinB_len ps fun q hq=>h q (List.mem_cons_of_mem _ hq)
   have h2:=h p (List.mem_cons_self ..)
   have e:joinB (p :: ps)=Sha.put8 (Int.ofNat p.length) ++ p ++ joinB ps:=by unfold Sha.joinB; rw [List.flatMap_cons]
   rw [e,List.length_append,List.length_append,Sha.put8_len,List.length_cons]; omega
theorem kyL_small (l:List Tl):∀ p ∈ kyL l,p.length ≤ 64:=by
 intro p hp
 unfold kyL at hp
 rw [List.mem_flatten] at hp
 obtain ⟨q,hq,hp⟩:=hp
 obtain ⟨t,_,rfl⟩:=List.mem_map.1 hq
 simp only [List.mem_cons,List.not_mem_nil,or_false] at hp
 rcases hp with rfl | rfl
 · show 4+4 ≤ 64; decide
 · rw [Sha.sha_len]; decide
theorem kyB_len (l:List Tl) (h:l.length ≤ 1000000):(joinB (kyL l)).length ≤ 1000000000:=by
 have:=joinB_len (kyL l) (kyL_small l)
 rw [kyL_len] at this
 omega
noncomputable def rsL (cs:List D):List Tl:=@dite _ (∃ l,cs=tlD l) (Classical.propDecidable _) (fun h=>Classical.choose h) (fun _=>[])
theorem rsL_tlD (l:List Tl):tlD (rsL (tlD l))=tlD l:=by
 have h:∃ k,tlD l=tlD k:=⟨l,rfl⟩
 unfold rsL
 rw [dif_pos h]
 exact (Classical.choose_spec h).symm
theorem rsL_len (l:List Tl):(rsL (tlD l)).length=l.length:=by
 have h:=congrArg List.length (rsL_tlD l)
 rw [tlD_len,tlD_len] at h
 omega
noncomputable def specKy:List D→Option (List Prop × V)
 | [.agg [.lst n cs]]=>some ([cs=tlD (rsL cs),n=(rsL cs).length,n ≤ 1000000],.str (keyR (rsL cs)))
 | _=>none
theorem one_Ky:OneW Tryz.prog 10 (Sha.tW specKy):=by
 refine Sha.tW_ok (Nat.le_of_ble_eq_true (by kernel_rfl)) fun ds A v e hA=>?_
 unfold specKy at e
 split at e
 case h_2=>cases e
 rename_i n cs
 obtain ⟨rfl,rfl⟩:=sm e
 have e1:cs=tlD (rsL cs):=hA _ (by simp)
 have e2:n=(rsL cs).length:=hA (n=(rsL cs).length) (by simp)
 have e3:n ≤ 1000000:=hA (n ≤ 1000000) (by simp)
 generalize rsL cs=l at *
 subst e1 e2
 exact keyD l e3 (kyB_len l e3)
noncomputable abbrev Wdk:CtrW:=addW 10 (Sha.tW specKy) (addW 8 (thawT Sha.specJo) noW)
theorem Wdk_ok:CtrWOk Tryz.prog Wdk:=addW_ok one_Ky (addW_ok one_Jt (noW_ok _))
theorem dk_1 (l:Lay) (h:List UInt8):∃ L,RunIs Tryz.prog (csH (pinN 9 [l.v] (.str h) Wdk) []) [] 1000 3 Tryz.f7 [] (cdDk) (startSt [l.v] (hSR gS gR) 3) L
  [([],
   [(pinA [l.v]),(gS=gS),(gR=gR),(tlD l.con=tlD (rsL (tlD l.con))),(l.con.length=(rsL (tlD l.con)).length),(l.con.length ≤ 1000000),(gS=gS),(gR=gR),(tlD l.msk=tlD (rsL (tlD l.msk))),(l.msk.length=(rsL (tlD l.msk)).length),(l.msk.length ≤ 1000000),(gS=gS),(gR=gR),([D.str h,D.str (keyR (rsL (tlD l.con))),D.str (keyR (rsL (tlD l.msk)))].length=3),([D.str h,D.str (keyR (rsL (tlD l.con))),D.str (keyR (rsL (tlD l.msk)))]=strs (strL [D.str h,D.str (keyR (rsL (tlD l.con))),D.str (keyR (rsL (tlD l.msk)))])),(3=(strL [D.str h,D.str (keyR (rsL (tlD l.con))),D.str (keyR (rsL (tlD l.msk)))]).length),(0 < 3),(3 ≤ 1000000000),((joinB (strL [D.str h,D.str (keyR (rsL (tlD l.con))),D.str (keyR (rsL (tlD l.msk)))])).length ≤ 1000000000)],
   .ret (.str (sha (joinB (strL [D.str h,D.str (keyR (rsL (tlD l.con))),D.str (keyR (rsL (tlD l.msk)))])))) (hL [(0,.ints .u32 gS),(1,.ints .u32 gR)]) 3)]
 :=RunIs.of (by kernel_rfl) (by kernel_rfl) (by kernel_rfl)
end Go.Proofs.YtmjggdmekboefaaGreatDoor
namespace Go.Proofs.YtmjggdmekboefaaGreatDoor
open Go Go.Eng
set_option maxRecDepth 100000
open Sha (gS gR hSR tabs TabsTo sha strs joinB strL strL_strs)
noncomputable def retIs (cf:CallF) (x:FuncId × List V × V):Bool:=
 match cf x.1 x.2.1 .nil gN with
 | some (.ret u,_,_)=>V.beq u x.2.2
 | _=>false
noncomputable def specGood (cf:CallF) (x:FuncId × List V × V):Bool:=(Nat.blt x.1 Tryz.prog.funcs.size && V.frees x.2.1) && (x.2.2.free && retIs cf x)
theorem spec_of {cf:CallF} (hc:CallOk Tryz.prog cf) {x:FuncId × List V × V} (h:specGood cf x=true):SpecOk Tryz.prog x:=by
 simp only [specGood,Bool.and_eq_true,retIs] at h
 obtain ⟨⟨h0,h1⟩,h2,h3⟩:=h
 split at h3
 · rename_i u h' n' e
   rw [beq_eq _ _ h3] at e
   exact ⟨Nat.le_of_ble_eq_true h0,h1,h2,cf,h',n',hc,e⟩
 · cases h3
theorem san:SpecOk Tryz.prog (5,[],.bool true):=spec_of (call_sound' (F:=1000) mo po 60) (by kernel_rfl)
theorem mT_ok:CtrWOk Tryz.prog (memoW [(5,[],.bool true)]):=memoW_ok fun x hx=>by
 obtain rfl:=List.mem_singleton.1 hx
 exact san
structure smL (l:Lay):Prop where
 nm:l.nm.length ≤ 1000
 kids:l.kids.length ≤ 1000
 ker:l.f.ker.length ≤ 1000
 cu:l.f.cu.length ≤ 1000
 pth:l.pth.length ≤ 1000
theorem smL.ok {l:Lay} (h:smL l):okL l:=by
 obtain ⟨h1,h2,h3,h4,h5⟩:=h
 exact ⟨by omega,by omega,by omega,by omega,by omega⟩
theorem headF_sm (l:Lay) (h:smL l):0 < (headF l).length∧(headF l).length ≤ 100000:=by
 have a1:=varB_len l.id
 have a2:=numsB_len l.kids
 have a3:=bytesF_len l.f
 have a4:=ptsB_len l.pth
 have a5:=(varB_len l.kd).2
 have a6:=(varB_len (Int.ofNat l.nm.length)).2
 have a7:=(varB_len l.op).2
 have a8:=(varB_len l.md).2
 have a9:=(varB_len l.sp).2
 have b1:=(varB_len (Int.ofNat l.kids.length)).2
 have b2:=(varB_len l.of).2
 have b3:=(varB_len (Int.ofNat l.pth.length)).2
 have c1:=(varB_len l.pl.a).2
 have c2:=(varB_len l.pl.b).2
 have c3:=(varB_len l.pl.c).2
 have c4:=(varB_len l.pl.d).2
 have c5:=(varB_len l.pl.e).2
 have c6:=(varB_len l.pl.f).2
 have c7:=(varB_len l.pl.n).2
 have d1:=h.nm
 have d2:=h.kids
 have d3:=h.ker
 have d4:=h.cu
 have d5:=h.pth
 have p1:(put1 (flg l.hid l.clip l.hm)).length=1:=rfl
 have p2:(fiB l.fi).length=4:=rfl
 unfold headF textB plcB
 simp only [List.length_append]
 omega
theorem mdF_len (s:List Int):(mdF s).length=s.length+1:=by
 unfold mdF
 split <;> simp [cum_len]
theorem mk13_sm (s:List Int) (hs:s.length ≤ 12):(mk13 s).ker.length ≤ 1000∧(mk13 s).cu.length ≤ 1000:=by
 have h1:=f12_in s 1
 have ht:=tm_in h1.1 (d:=3) (by decide)
 unfold mk13
 repeat' split
 all_goals first
  | exact ⟨Nat.zero_le _,Nat.zero_le _⟩
  | (refine ⟨?_,Nat.zero_le _⟩
     rw [kerF_len]
     have:((f12 s 1).tmod 3).toNat ≤ 2:=by omega
     have:=Nat.mul_le_mul (show 2 * ((f12 s 1).tmod 3).toNat+1 ≤ 5 by omega) (show 2 * ((f12 s 1).tmod 3).toNat+1 ≤ 5 by omega)
     omega)
  | (refine ⟨Nat.zero_le _,?_⟩
     show (mdF (s.drop 1)).length ≤ 1000
     rw [mdF_len,List.length_drop]; omega)
theorem layF_sm (s:S8):smL (layF s):=by
 refine ⟨?_,Nat.zero_le _,?_,?_,?_⟩
 · show (nmF s.s1).length ≤ 1000
   unfold nmF
   rw [List.length_drop,List.length_take]
   simp only [List.length_cons,List.length_nil]; omega
 · show (if kdF s=3 then mk13 (l12 s) else zFL).ker.length ≤ 1000
   split
   · exact (mk13_sm (l12 s) (Nat.le_refl 12)).1
   · exact Nat.zero_le _
 · show (if kdF s=3 then mk13 (l12 s) else zFL).cu.length ≤ 1000
   split
   · exact (mk13_sm (l12 s) (Nat.le_refl 12)).2
   · exact Nat.zero_le _
 · show (if kdF s=5 then ptF s.s6 s.s7 (cn5 s) else []).length ≤ 1000
   split
   · unfold ptF cn5
     rw [List.length_map,List.length_range]
     have:(BitVec.ofInt 64 s.s5 &&& BitVec.ofInt 64 (3:Int)).toNat ≤ 3:=by
      rw [BitVec.toNat_and]; exact Nat.and_le_right
     omega
   · exact Nat.zero_le _
noncomputable def dkF (l:Lay):List UInt8:=sha (joinB (strL [D.str (headF l),D.str (keyR (rsL (tlD l.con))),D.str (keyR (rsL (tlD l.msk)))]))
theorem keyR_len (l:List Tl):(keyR l).length=32:=rfl
theorem j3_len (h:List UInt8) (a b:List Tl) (hh:h.length ≤ 100000):(joinB (strL [D.str h,D.str (keyR a),D.str (keyR b)])).length ≤ 1000000000:=by
 show (joinB [h,keyR a,keyR b]).length ≤ 1000000000
 have e:joinB [h,keyR a,keyR b]=Sha.put8 (Int.ofNat h.length) ++ h ++ (Sha.put8 (Int.ofNat (keyR a).length) ++ keyR a ++ (Sha.put8 (Int.ofNat (keyR b).length) ++ keyR b ++ [])):=by
  unfold Sha.joinB
  simp only [List.flatMap_cons,List.flatMap_nil]
 rw [e]
 simp only [List.length_append,Sha.put8_len,keyR_len,List.length_nil]; omega
theorem dkD (l:Lay) (h:smL l) (hc:l.con.length ≤ 1000000) (hm:l.msk.length ≤ 1000000):TabsTo 7 [l.v] (.str (dkF l)):=by
 have hd:=headD l h.ok
 have hh:=(headF_sm l h).2
 refine Sha.tabs_calls Tryz.func7 (code:=cdDk) (by kernel_rfl) (by kernel_rfl) (by kernel_rfl) rfl (TG_mono (retE (R:=fun u _ _=>u= .str (dkF l)) (pinK hd Wdk_ok) (dk_1 l (headF l)) (gone (g0 ⟨?_,_,_,_,rfl,rfl⟩))) fun y s h=>Sha.RetG_self h)
 repeat' (first | exact all_nil | refine fm ?_ ?_)
 all_goals first
  | exact (rsL_tlD _).symm
  | exact (rsL_len _).symm
  | exact hc
  | exact hm
  | exact j3_len _ _ _ hh
  | exact rfl
  | decide
theorem beqB_r (a:List UInt8):V.bool (beqB a a)=V.bool true:=by rw [beqB_eq,beq_self_eq_true]
end Go.Proofs.YtmjggdmekboefaaGreatDoor
namespace Go.Proofs.YtmjggdmekboefaaGreatDoor.Sha
open Go.Proofs.YtmjggdmekboefaaGreatDoor Go Go.Eng
noncomputable abbrev csL:CallS:=callX Tryz.prog noW H0 1000 40
noncomputable abbrev XL:CX Tryz.prog:=CX.of mo po (noW_ok _) H0 1000 40
theorem vadd {x:Int} {n:Nat} (h:x=(n:Int)) (hb:n < 1000000000000):V.int IntKind.i64 (IntKind.i64.wrap x)=iW n:=ieq_ok h hb
end Go.Proofs.YtmjggdmekboefaaGreatDoor.Sha
namespace Go.Proofs.YtmjggdmekboefaaGreatDoor.Sha
open Go Go.Eng
noncomputable abbrev cdVc:Code:=bodyOf Tryz.f99
noncomputable abbrev tlVc:Code:=tailN 2 cdVc
noncomputable abbrev rdVc:Code:=inner (inner (seqR (seqL tlVc)))
def aR:V:=.agg (gR.map (V.int .u32 ·))
theorem vb_8 (x:Int):∃ L,RunIs Tryz.prog csL [] 1000 3 Tryz.f70 [] (bodyOf Tryz.f70) (startSt [.int .u64 x,.int .i64 8] .nil 3) L
  [([],
   [((0:Int) ≤ (8:Int)∧(8:Int) ≤ (8:Int)∧(8:Int) ≤ (281474976710656:Int)),((0:Int) ≤ (7:Int)∧(7:Int) < (8:Int)),(8 ≤ 8),((0:Int) ≤ (6:Int)∧(6:Int) < (8:Int)),(7 ≤ (putI (repI [(0:Int)] 8) 7 [IntKind.u8.wrap x]).length),((0:Int) ≤ (5:Int)∧(5:Int) < (8:Int)),(6 ≤ (putI (putI (repI [(0:Int)] 8) 7 [IntKind.u8.wrap x]) 6 [IntKind.u8.wrap (x.fdiv (256:Int))]).length),((0:Int) ≤ (4:Int)∧(4:Int) < (8:Int)),(5 ≤ (putI (putI (putI (repI [(0:Int)] 8) 7 [IntKind.u8.wrap x]) 6 [IntKind.u8.wrap (x.fdiv (256:Int))]) 5 [IntKind.u8.wrap ((x.fdiv (256:Int)).fdiv (256:Int))]).length),((0:Int) ≤ (3:Int)∧(3:Int) < (8:Int)),(4 ≤ (putI (putI (putI (putI (repI [(0:Int)] 8) 7 [IntKind.u8.wrap x]) 6 [IntKind.u8.wrap (x.fdiv (256:Int))]) 5 [IntKind.u8.wrap ((x.fdiv (256:Int)).fdiv (256:Int))]) 4 [IntKind.u8.wrap (((x.fdiv (256:Int)).fdiv (256:Int)).fdiv (256:Int))]).length),((0:Int) ≤ (2:Int)∧(2:Int) < (8:Int)),(3 ≤ (putI (putI (putI (putI (putI (repI [(0:Int)] 8) 7 [IntKind.u8.wrap x]) 6 [IntKind.u8.wrap (x.fdiv (256:Int))]) 5 [IntKind.u8.wrap ((x.fdiv (256:Int)).fdiv (256:Int))]) 4 [IntKind.u8.wrap (((x.fdiv (256:Int)).fdiv (256:Int)).fdiv (256:Int))]) 3 [IntKind.u8.wrap ((((x.fdiv (256:Int)).fdiv (256:Int)).fdiv (256:Int)).fdiv (256:Int))]).length),((0:Int) ≤ (1:Int)∧(1:Int) < (8:Int)),(2 ≤ (putI (putI (putI (putI (putI (putI (repI [(0:Int)] 8) 7 [IntKind.u8.wrap x]) 6 [IntKind.u8.wrap (x.fdiv (256:Int))]) 5 [IntKind.u8.wrap ((x.fdiv (256:Int)).fdiv (256:Int))]) 4 [IntKind.u8.wrap (((x.fdiv (256:Int)).fdiv (256:Int)).fdiv (256:Int))]) 3 [IntKind.u8.wrap ((((x.fdiv (256:Int)).fdiv (256:Int)).fdiv (256:Int)).fdiv (256:Int))]) 2 [IntKind.u8.wrap (((((x.fdiv (256:Int)).fdiv (256:Int)).fdiv (256:Int)).fdiv (256:Int)).fdiv (256:Int))]).length),((0:Int) ≤ (0:Int)∧(0:Int) < (8:Int)),(1 ≤ (putI (putI (putI (putI (putI (putI (putI (repI [(0:Int)] 8) 7 [IntKind.u8.wrap x]) 6 [IntKind.u8.wrap (x.fdiv (256:Int))]) 5 [IntKind.u8.wrap ((x.fdiv (256:Int)).fdiv (256:Int))]) 4 [IntKind.u8.wrap (((x.fdiv (256:Int)).fdiv (256:Int)).fdiv (256:Int))]) 3 [IntKind.u8.wrap ((((x.fdiv (256:Int)).fdiv (256:Int)).fdiv (256:Int)).fdiv (256:Int))]) 2 [IntKind.u8.wrap (((((x.fdiv (256:Int)).fdiv (256:Int)).fdiv (256:Int)).fdiv (256:Int)).fdiv (256:Int))]) 1 [IntKind.u8.wrap ((((((x.fdiv (256:Int)).fdiv (256:Int)).fdiv (256:Int)).fdiv (256:Int)).fdiv (256:Int)).fdiv (256:Int))]).length),(8 ≤ (putI (putI (putI (putI (putI (putI (putI (putI (repI [(0:Int)] 8) 7 [IntKind.u8.wrap x]) 6 [IntKind.u8.wrap (x.fdiv (256:Int))]) 5 [IntKind.u8.wrap ((x.fdiv (256:Int)).fdiv (256:Int))]) 4 [IntKind.u8.wrap (((x.fdiv (256:Int)).fdiv (256:Int)).fdiv (256:Int))]) 3 [IntKind.u8.wrap ((((x.fdiv (256:Int)).fdiv (256:Int)).fdiv (256:Int)).fdiv (256:Int))]) 2 [IntKind.u8.wrap (((((x.fdiv (256:Int)).fdiv (256:Int)).fdiv (256:Int)).fdiv (256:Int)).fdiv (256:Int))]) 1 [IntKind.u8.wrap ((((((x.fdiv (256:Int)).fdiv (256:Int)).fdiv (256:Int)).fdiv (256:Int)).fdiv (256:Int)).fdiv (256:Int))]) 0 [IntKind.u8.wrap (((((((x.fdiv (256:Int)).fdiv (256:Int)).fdiv (256:Int)).fdiv (256:Int)).fdiv (256:Int)).fdiv (256:Int)).fdiv (256:Int))]).length)],
   .ret (.str (strI (List.take 8 (List.drop 0 (putI (putI (putI (putI (putI (putI (putI (putI (repI [(0:Int)] 8) 7 [IntKind.u8.wrap x]) 6 [IntKind.u8.wrap (x.fdiv (256:Int))]) 5 [IntKind.u8.wrap ((x.fdiv (256:Int)).fdiv (256:Int))]) 4 [IntKind.u8.wrap (((x.fdiv (256:Int)).fdiv (256:Int)).fdiv (256:Int))]) 3 [IntKind.u8.wrap ((((x.fdiv (256:Int)).fdiv (256:Int)).fdiv (256:Int)).fdiv (256:Int))]) 2 [IntKind.u8.wrap (((((x.fdiv (256:Int)).fdiv (256:Int)).fdiv (256:Int)).fdiv (256:Int)).fdiv (256:Int))]) 1 [IntKind.u8.wrap ((((((x.fdiv (256:Int)).fdiv (256:Int)).fdiv (256:Int)).fdiv (256:Int)).fdiv (256:Int)).fdiv (256:Int))]) 0 [IntKind.u8.wrap (((((((x.fdiv (256:Int)).fdiv (256:Int)).fdiv (256:Int)).fdiv (256:Int)).fdiv (256:Int)).fdiv (256:Int)).fdiv (256:Int))]))))) (hL []) 3)]
 :=RunIs.of (by kernel_rfl) (by kernel_rfl) (by kernel_rfl)
theorem vb_4 (x:Int):∃ L,RunIs Tryz.prog csL [] 1000 3 Tryz.f70 [] (bodyOf Tryz.f70) (startSt [.int .u64 x,.int .i64 4] .nil 3) L
  [([],
   [((0:Int) ≤ (4:Int)∧(4:Int) ≤ (4:Int)∧(4:Int) ≤ (281474976710656:Int)),((0:Int) ≤ (3:Int)∧(3:Int) < (4:Int)),(4 ≤ 4),((0:Int) ≤ (2:Int)∧(2:Int) < (4:Int)),(3 ≤ (putI (repI [(0:Int)] 4) 3 [IntKind.u8.wrap x]).length),((0:Int) ≤ (1:Int)∧(1:Int) < (4:Int)),(2 ≤ (putI (putI (repI [(0:Int)] 4) 3 [IntKind.u8.wrap x]) 2 [IntKind.u8.wrap (x.fdiv (256:Int))]).length),((0:Int) ≤ (0:Int)∧(0:Int) < (4:Int)),(1 ≤ (putI (putI (putI (repI [(0:Int)] 4) 3 [IntKind.u8.wrap x]) 2 [IntKind.u8.wrap (x.fdiv (256:Int))]) 1 [IntKind.u8.wrap ((x.fdiv (256:Int)).fdiv (256:Int))]).length),(4 ≤ (putI (putI (putI (putI (repI [(0:Int)] 4) 3 [IntKind.u8.wrap x]) 2 [IntKind.u8.wrap (x.fdiv (256:Int))]) 1 [IntKind.u8.wrap ((x.fdiv (256:Int)).fdiv (256:Int))]) 0 [IntKind.u8.wrap (((x.fdiv (256:Int)).fdiv (256:Int)).fdiv (256:Int))]).length)],
   .ret (.str (strI (List.take 4 (List.drop 0 (putI (putI (putI (putI (repI [(0:Int)] 4) 3 [IntKind.u8.wrap x]) 2 [IntKind.u8.wrap (x.fdiv (256:Int))]) 1 [IntKind.u8.wrap ((x.fdiv (256:Int)).fdiv (256:Int))]) 0 [IntKind.u8.wrap (((x.fdiv (256:Int)).fdiv (256:Int)).fdiv (256:Int))]))))) (hL []) 3)]
 :=RunIs.of (by kernel_rfl) (by kernel_rfl) (by kernel_rfl)
theorem vc_1 (b:List UInt8) (q:E8):∃ L,RunIs Tryz.prog csL [] 1000 3 Tryz.f99 [1,3,5,6,7] (headN 2 cdVc) (startSt [.agg (c8 q),.str b,aR] .nil 3) L
  [([],
   [],
   .to .normal (stG [(1,.str b),(3,.ptr (some (3,0))),(5,.ptr (some (4,0))),(6,.ptr (some (5,0))),(7,.ptr (some (6,0)))] (hL [(3,.cells [.int .u32 (q.fst),.int .u32 (q.snd.fst),.int .u32 (q.snd.snd.fst),.int .u32 (q.snd.snd.snd.fst),.int .u32 (q.snd.snd.snd.snd.fst),.int .u32 (q.snd.snd.snd.snd.snd.fst),.int .u32 (q.snd.snd.snd.snd.snd.snd.fst),.int .u32 (q.snd.snd.snd.snd.snd.snd.snd)]),(4,.cells [.int .u32 1116352408,.int .u32 1899447441,.int .u32 3049323471,.int .u32 3921009573,.int .u32 961987163,.int .u32 1508970993,.int .u32 2453635748,.int .u32 2870763221,.int .u32 3624381080,.int .u32 310598401,.int .u32 607225278,.int .u32 1426881987,.int .u32 1925078388,.int .u32 2162078206,.int .u32 2614888103,.int .u32 3248222580,.int .u32 3835390401,.int .u32 4022224774,.int .u32 264347078,.int .u32 604807628,.int .u32 770255983,.int .u32 1249150122,.int .u32 1555081692,.int .u32 1996064986,.int .u32 2554220882,.int .u32 2821834349,.int .u32 2952996808,.int .u32 3210313671,.int .u32 3336571891,.int .u32 3584528711,.int .u32 113926993,.int .u32 338241895,.int .u32 666307205,.int .u32 773529912,.int .u32 1294757372,.int .u32 1396182291,.int .u32 1695183700,.int .u32 1986661051,.int .u32 2177026350,.int .u32 2456956037,.int .u32 2730485921,.int .u32 2820302411,.int .u32 3259730800,.int .u32 3345764771,.int .u32 3516065817,.int .u32 3600352804,.int .u32 4094571909,.int .u32 275423344,.int .u32 430227734,.int .u32 506948616,.int .u32 659060556,.int .u32 883997877,.int .u32 958139571,.int .u32 1322822218,.int .u32 1537002063,.int .u32 1747873779,.int .u32 1955562222,.int .u32 2024104815,.int .u32 2227730452,.int .u32 2361852424,.int .u32 2428436474,.int .u32 2756734187,.int .u32 3204031479,.int .u32 3329325298]),(5,.cells [.int .u32 0,.int .u32 0,.int .u32 0,.int .u32 0,.int .u32 0,.int .u32 0,.int .u32 0,.int .u32 0]),(6,.cells [.int .u32 0,.int .u32 0,.int .u32 0,.int .u32 0,.int .u32 0,.int .u32 0,.int .u32 0,.int .u32 0,.int .u32 0,.int .u32 0,.int .u32 0,.int .u32 0,.int .u32 0,.int .u32 0,.int .u32 0,.int .u32 0,.int .u32 0,.int .u32 0,.int .u32 0,.int .u32 0,.int .u32 0,.int .u32 0,.int .u32 0,.int .u32 0,.int .u32 0,.int .u32 0,.int .u32 0,.int .u32 0,.int .u32 0,.int .u32 0,.int .u32 0,.int .u32 0,.int .u32 0,.int .u32 0,.int .u32 0,.int .u32 0,.int .u32 0,.int .u32 0,.int .u32 0,.int .u32 0,.int .u32 0,.int .u32 0,.int .u32 0,.int .u32 0,.int .u32 0,.int .u32 0,.int .u32 0,.int .u32 0,.int .u32 0,.int .u32 0,.int .u32 0,.int .u32 0,.int .u32 0,.int .u32 0,.int .u32 0,.int .u32 0,.int .u32 0,.int .u32 0,.int .u32 0,.int .u32 0,.int .u32 0,.int .u32 0,.int .u32 0,.int .u32 0])]) 7))]
 :=RunIs.of (by kernel_rfl) (by kernel_rfl) (by kernel_rfl)
section
variable (b:List UInt8) (q:E8) (ws:List Int) (i:Nat)
def mVc:List (Nat × O):=[(3,.cells (c8 q)),(4,.own .u32 gR),(5,.cells (c8 (0,0,0,0,0,0,0,0))),(6,.own .u32 ws)]
def sVc:St:=stG [(1,.str b),(3,.ptr (some (3,0))),(5,.ptr (some (4,0))),(6,.ptr (some (5,0))),(7,.ptr (some (6,0))),(8,iW i)] (hL (mVc q ws)) 7
end
theorem vc_2 (b:List UInt8) (q:E8) (ws:List Int):∃ L,RunIs Tryz.prog csL [] 1000 3 Tryz.f99 [1,3,5,6,7,8] (seqL (seqL tlVc)) (stG [(1,.str b),(3,.ptr (some (3,0))),(5,.ptr (some (4,0))),(6,.ptr (some (5,0))),(7,.ptr (some (6,0)))] (hL (mVc q ws)) 7) L
  [([],
   [],
   .to .normal (sVc b q ws 0))]
 :=RunIs.of (by kernel_rfl) (by kernel_rfl) (by kernel_rfl)
def rotR (m d x:Int):Int:=orI (x.fdiv d) (w32 (x * m))
def sgR0 (x:Int):Int:=xorI (xorI (rotR 33554432 128 x) (rotR 16384 262144 x)) (x.fdiv 8)
def sgR1 (x:Int):Int:=xorI (xorI (rotR 32768 131072 x) (rotR 8192 524288 x)) (x.fdiv 1024)
def nextR (ws:List Int) (i:Nat):Int:=w32 (w32 (w32 (gW ws (i - 16)+sgR0 (gW ws (i - 15)))+gW ws (i - 7))+sgR1 (gW ws (i - 2)))
def wordR (b:List UInt8) (i:Nat):Int:=w32 (w32 (w32 (w32 (byI b (i * 4) * 16777216)+w32 (byI b (i * 4+1) * 65536))+w32 (byI b (i * 4+2) * 256))+byI b (i * 4+3))
def bSR1 (e:Int):Int:=xorI (xorI (rotR 67108864 64 e) (rotR 2097152 2048 e)) (rotR 128 33554432 e)
def bSR0 (a:Int):Int:=xorI (xorI (rotR 1073741824 4 a) (rotR 524288 8192 a)) (rotR 1024 4194304 a)
def chR (e f g:Int):Int:=orI (andI e f) (andI (w32 (4294967295 - e)) g)
def maR (a b c:Int):Int:=orI (orI (andI a b) (andI a c)) (andI b c)
def rdR (rd ws:List Int) (i:Nat):E8→Int
 | (_,_,_,_,e,f,g,h)=>w32 (w32 (w32 (w32 (h+bSR1 e)+chR e f g)+gW rd i)+gW ws i)
def rndR (rd ws:List Int) (i:Nat):E8→E8
 | (a,b,c,d,e,f,g,h)=>(w32 (w32 (rdR rd ws i (a,b,c,d,e,f,g,h)+bSR0 a)+maR a b c),a,b,c,w32 (d+rdR rd ws i (a,b,c,d,e,f,g,h)),e,f,g)
abbrev vc_3A1 (i:Nat):Prop:=V.int IntKind.i64 (IntKind.i64.wrap ((4:Int) * Int.ofNat i))=iW (i * 4)
theorem vc_3 (b:List UInt8) (q:E8) (ws:List Int) (i:Nat):∃ L,RunIs Tryz.prog csL [(20,.split),(24,.give (.bool true)),(28,.give (iW (i * 4))),(34,.give (iW (i * 4))),(35,.give (iW (i * 4+1))),(42,.give (iW (i * 4))),(43,.give (iW (i * 4+2))),(50,.give (iW (i * 4))),(51,.give (iW (i * 4+3))),(22,.give (iW (i+1)))] 1000 3 Tryz.f99 [1,3,5,6,7,8] (rdVc) (sVc b q ws i) L
  [([((decide (Int.ofNat i < (64:Int))),true)],
   [(V.bool (decide (Int.ofNat i < (16:Int)))=V.bool true),vc_3A1 i,((0:Int) ≤ Int.ofNat (i * 4)∧(i * 4) < b.length),vc_3A1 i,(V.int IntKind.i64 (IntKind.i64.wrap (Int.ofNat (i * 4)+(1:Int)))=iW (i * 4+1)),((0:Int) ≤ Int.ofNat (i * 4+1)∧(i * 4+1) < b.length),vc_3A1 i,(V.int IntKind.i64 (IntKind.i64.wrap (Int.ofNat (i * 4)+(2:Int)))=iW (i * 4+2)),((0:Int) ≤ Int.ofNat (i * 4+2)∧(i * 4+2) < b.length),vc_3A1 i,(V.int IntKind.i64 (IntKind.i64.wrap (Int.ofNat (i * 4)+(3:Int)))=iW (i * 4+3)),((0:Int) ≤ Int.ofNat (i * 4+3)∧(i * 4+3) < b.length),((0:Int) ≤ Int.ofNat i∧Int.ofNat i < (64:Int)),(0+i * 1+1 ≤ ws.length),(V.int IntKind.i64 (IntKind.i64.wrap (Int.ofNat i+(1:Int)))=iW (i+1))],
   .to .normal (sVc b q (putI ws (0+i * 1) [wordR b i]) (i+1))),
  ([((decide (Int.ofNat i < (64:Int))),false)],
   [],
   .to (.exit 0) (sVc b q ws i))]
 :=RunIs.of (by kernel_rfl) (by kernel_rfl) (by kernel_rfl)
abbrev vc_4A1 (i:Nat):Prop:=V.int IntKind.i64 (IntKind.i64.wrap (Int.ofNat i - (15:Int)))=iW (i - 15)
abbrev vc_4A2 (i:Nat):Prop:=V.int IntKind.i64 (IntKind.i64.wrap (Int.ofNat i - (2:Int)))=iW (i - 2)
theorem vc_4 (b:List UInt8) (q:E8) (ws:List Int) (i:Nat):∃ L,RunIs Tryz.prog csL [(20,.split),(24,.give (.bool false)),(57,.give (iW (i - 15))),(62,.give (iW (i - 15))),(68,.give (iW (i - 15))),(74,.give (iW (i - 2))),(79,.give (iW (i - 2))),(85,.give (iW (i - 2))),(92,.give (iW (i - 16))),(98,.give (iW (i - 7))),(22,.give (iW (i+1)))] 1000 3 Tryz.f99 [1,3,5,6,7,8] (rdVc) (sVc b q ws i) L
  [([((decide (Int.ofNat i < (64:Int))),true)],
   [(V.bool (decide (Int.ofNat i < (16:Int)))=V.bool false),vc_4A1 i,((0:Int) ≤ Int.ofNat (i - 15)∧Int.ofNat (i - 15) < (64:Int)),(0+(i - 15) * 1 < ws.length),vc_4A1 i,((0:Int) ≤ Int.ofNat (i - 15)∧Int.ofNat (i - 15) < (64:Int)),(0+(i - 15) * 1 < ws.length),(0+(i - 15) * 1 < ws.length),vc_4A1 i,((0:Int) ≤ Int.ofNat (i - 15)∧Int.ofNat (i - 15) < (64:Int)),(0+(i - 15) * 1 < ws.length),(0+(i - 15) * 1 < ws.length),(0+(i - 15) * 1 < ws.length),vc_4A2 i,((0:Int) ≤ Int.ofNat (i - 2)∧Int.ofNat (i - 2) < (64:Int)),(0+(i - 2) * 1 < ws.length),vc_4A2 i,((0:Int) ≤ Int.ofNat (i - 2)∧Int.ofNat (i - 2) < (64:Int)),(0+(i - 2) * 1 < ws.length),(0+(i - 2) * 1 < ws.length),vc_4A2 i,((0:Int) ≤ Int.ofNat (i - 2)∧Int.ofNat (i - 2) < (64:Int)),(0+(i - 2) * 1 < ws.length),(0+(i - 2) * 1 < ws.length),(0+(i - 2) * 1 < ws.length),(V.int IntKind.i64 (IntKind.i64.wrap (Int.ofNat i - (16:Int)))=iW (i - 16)),((0:Int) ≤ Int.ofNat (i - 16)∧Int.ofNat (i - 16) < (64:Int)),(0+(i - 16) * 1 < ws.length),(V.int IntKind.i64 (IntKind.i64.wrap (Int.ofNat i - (7:Int)))=iW (i - 7)),((0:Int) ≤ Int.ofNat (i - 7)∧Int.ofNat (i - 7) < (64:Int)),(0+(i - 7) * 1 < ws.length),((0:Int) ≤ Int.ofNat i∧Int.ofNat i < (64:Int)),(0+i * 1+1 ≤ ws.length),(V.int IntKind.i64 (IntKind.i64.wrap (Int.ofNat i+(1:Int)))=iW (i+1))],
   .to .normal (sVc b q (putI ws (0+i * 1) [nextR ws i]) (i+1))),
  ([((decide (Int.ofNat i < (64:Int))),false)],
   [],
   .to (.exit 0) (sVc b q ws i))]
 :=RunIs.of (by kernel_rfl) (by kernel_rfl) (by kernel_rfl)
noncomputable abbrev tl4Vc:Code:=tailN 4 cdVc
noncomputable abbrev rdVd:Code:=inner (inner (seqR (seqL tl4Vc)))
section
variable (q q':E8) (ws:List Int) (i:Nat)
def mVd:List (Nat × O):=[(3,.cells (c8 q)),(4,.own .u32 gR),(5,.cells (c8 (0,0,0,0,0,0,0,0))),(6,.own .u32 ws),(7,.cells (c8 q'))]
def sVd (r:List (Nat × V)):St:=stG ([(3,.ptr (some (3,0))),(5,.ptr (some (4,0))),(6,.ptr (some (5,0))),(7,.ptr (some (6,0))),(11,.ptr (some (7,0)))] ++ r) (hL (mVd q q' ws)) 8
end
theorem vc_5 (b:List UInt8) (q:E8) (ws:List Int) (i:Nat):∃ L,RunIs Tryz.prog csL [] 1000 3 Tryz.f99 [3,5,6,7,11] (seqL (tailN 3 cdVc)) (sVc b q ws i) L
  [([],
   [],
   .to .normal (sVd q q ws []))]
 :=RunIs.of (by kernel_rfl) (by kernel_rfl) (by kernel_rfl)
theorem vc_6 (q q':E8) (ws:List Int):∃ L,RunIs Tryz.prog csL [] 1000 3 Tryz.f99 [3,5,6,7,11,12] (seqL (seqL tl4Vc)) (sVd q q' ws []) L
  [([],
   [],
   .to .normal (sVd q q' ws [(12,iW 0)]))]
 :=RunIs.of (by kernel_rfl) (by kernel_rfl) (by kernel_rfl)
theorem vc_7 (a b c d e f g h a' b' c' d' e' f' g' h':Int) (ws:List Int) (i:Nat):∃ L,RunIs Tryz.prog csL [(107,.split),(109,.give (iW (i+1)))] 1000 3 Tryz.f99 [3,5,6,7,11,12] (rdVd) (sVd (a,b,c,d,e,f,g,h) (a',b',c',d',e',f',g',h') ws [(12,iW i)]) L
  [([((decide (Int.ofNat i < (64:Int))),true)],
   [((0:Int) ≤ Int.ofNat i∧Int.ofNat i < (64:Int)),(0+i * 1 < 64),((0:Int) ≤ Int.ofNat i∧Int.ofNat i < (64:Int)),(0+i * 1 < ws.length),(V.int IntKind.i64 (IntKind.i64.wrap (Int.ofNat i+(1:Int)))=iW (i+1))],
   .to .normal (sVd (a,b,c,d,e,f,g,h) (rndR gR ws i (a',b',c',d',e',f',g',h')) ws [(12,iW (i+1))])),
  ([((decide (Int.ofNat i < (64:Int))),false)],
   [],
   .to (.exit 2) (sVd (a,b,c,d,e,f,g,h) (a',b',c',d',e',f',g',h') ws [(12,iW i)]))]
 :=RunIs.of (by kernel_rfl) (by kernel_rfl) (by kernel_rfl)
theorem vc_8 (a b c d e f g h a' b' c' d' e' f' g' h':Int) (ws:List Int) (i:Nat):∃ L,RunIs Tryz.prog csL [] 1000 3 Tryz.f99 [] (seqR tl4Vc) (sVd (a,b,c,d,e,f,g,h) (a',b',c',d',e',f',g',h') ws [(12,iW i)]) L
  [([],
   [((0:Int) ≤ (0:Int)∧(0:Int) < (8:Int)),((0:Int) ≤ (0:Int)∧(0:Int) < (8:Int)),((0:Int) ≤ (0:Int)∧(0:Int) < (8:Int)),((0:Int) ≤ (1:Int)∧(1:Int) < (8:Int)),((0:Int) ≤ (1:Int)∧(1:Int) < (8:Int)),((0:Int) ≤ (1:Int)∧(1:Int) < (8:Int)),((0:Int) ≤ (2:Int)∧(2:Int) < (8:Int)),((0:Int) ≤ (2:Int)∧(2:Int) < (8:Int)),((0:Int) ≤ (2:Int)∧(2:Int) < (8:Int)),((0:Int) ≤ (3:Int)∧(3:Int) < (8:Int)),((0:Int) ≤ (3:Int)∧(3:Int) < (8:Int)),((0:Int) ≤ (3:Int)∧(3:Int) < (8:Int)),((0:Int) ≤ (4:Int)∧(4:Int) < (8:Int)),((0:Int) ≤ (4:Int)∧(4:Int) < (8:Int)),((0:Int) ≤ (4:Int)∧(4:Int) < (8:Int)),((0:Int) ≤ (5:Int)∧(5:Int) < (8:Int)),((0:Int) ≤ (5:Int)∧(5:Int) < (8:Int)),((0:Int) ≤ (5:Int)∧(5:Int) < (8:Int)),((0:Int) ≤ (6:Int)∧(6:Int) < (8:Int)),((0:Int) ≤ (6:Int)∧(6:Int) < (8:Int)),((0:Int) ≤ (6:Int)∧(6:Int) < (8:Int)),((0:Int) ≤ (7:Int)∧(7:Int) < (8:Int)),((0:Int) ≤ (7:Int)∧(7:Int) < (8:Int)),((0:Int) ≤ (7:Int)∧(7:Int) < (8:Int))],
   .ret (.agg [.int .u32 (IntKind.u32.wrap ((a,b,c,d,e,f,g,h).fst+(a',b',c',d',e',f',g',h').fst)),.int .u32 (IntKind.u32.wrap ((a,b,c,d,e,f,g,h).snd.fst+(a',b',c',d',e',f',g',h').snd.fst)),.int .u32 (IntKind.u32.wrap ((a,b,c,d,e,f,g,h).snd.snd.fst+(a',b',c',d',e',f',g',h').snd.snd.fst)),.int .u32 (IntKind.u32.wrap ((a,b,c,d,e,f,g,h).snd.snd.snd.fst+(a',b',c',d',e',f',g',h').snd.snd.snd.fst)),.int .u32 (IntKind.u32.wrap ((a,b,c,d,e,f,g,h).snd.snd.snd.snd.fst+(a',b',c',d',e',f',g',h').snd.snd.snd.snd.fst)),.int .u32 (IntKind.u32.wrap ((a,b,c,d,e,f,g,h).snd.snd.snd.snd.snd.fst+(a',b',c',d',e',f',g',h').snd.snd.snd.snd.snd.fst)),.int .u32 (IntKind.u32.wrap ((a,b,c,d,e,f,g,h).snd.snd.snd.snd.snd.snd.fst+(a',b',c',d',e',f',g',h').snd.snd.snd.snd.snd.snd.fst)),.int .u32 (IntKind.u32.wrap ((a,b,c,d,e,f,g,h).snd.snd.snd.snd.snd.snd.snd+(a',b',c',d',e',f',g',h').snd.snd.snd.snd.snd.snd.snd))]) (hL []) 3)]
 :=RunIs.of (by kernel_rfl) (by kernel_rfl) (by kernel_rfl)
end Go.Proofs.YtmjggdmekboefaaGreatDoor.Sha
namespace Go.Proofs.YtmjggdmekboefaaGreatDoor.Sha
open Go Go.Eng
theorem w32_eq (x:Int):w32 x=x % 4294967296:=rfl
theorem bv_w32 (z:Int):BitVec.ofInt 32 (w32 z)=BitVec.ofInt 32 z:=by
 apply BitVec.eq_of_toInt_eq
 rw [BitVec.toInt_ofInt,BitVec.toInt_ofInt,w32_eq]
 exact Int.emod_bmod ..
theorem bv_back (v:BitVec 32):BitVec.ofInt 32 (w32 ↑v.toNat)=v:=by
 rw [bv_w32]
 apply BitVec.eq_of_toNat_eq
 rw [BitVec.toNat_ofInt]
 have:=v.isLt
 have h:((v.toNat:Int) % ((2 ^ 32:Nat):Int))=v.toNat:=Int.emod_eq_of_lt (by omega) (by omega)
 rw [h]; rfl
theorem orI_comm (a b:Int):orI a b=orI b a:=by unfold orI; rw [BitVec.or_comm]
theorem rotR_eq (m d x:Int):rotR m d x=rotI m d x:=orI_comm _ _
theorem sgR0_eq (x:Int):sgR0 x=sg0 x:=by unfold sgR0 sg0; rw [rotR_eq,rotR_eq]
theorem sgR1_eq (x:Int):sgR1 x=sg1 x:=by unfold sgR1 sg1; rw [rotR_eq,rotR_eq]
theorem bSR0_eq (x:Int):bSR0 x=bS0 x:=by unfold bSR0 bS0; rw [rotR_eq,rotR_eq,rotR_eq]
theorem bSR1_eq (x:Int):bSR1 x=bS1 x:=by unfold bSR1 bS1; rw [rotR_eq,rotR_eq,rotR_eq]
theorem nextR_eq (ws:List Int) (i:Nat):nextR ws i=nextW ws i:=by unfold nextR nextW; rw [sgR0_eq,sgR1_eq]
theorem bv_flip (e:Int):BitVec.ofInt 32 (w32 (4294967295 - e))= ~~~ BitVec.ofInt 32 e:=by
 rw [bv_w32]
 apply BitVec.eq_of_toNat_eq
 rw [BitVec.toNat_not,BitVec.toNat_ofInt,BitVec.toNat_ofInt]
 have h1:=Int.emod_nonneg e (show ((2 ^ 32:Nat):Int) ≠ 0 by decide)
 have h2:=Int.emod_lt_of_pos e (show (0:Int) < ((2 ^ 32:Nat):Int) by decide)
 have h3:(4294967295 - e) % ((2 ^ 32:Nat):Int)=4294967295 - e % ((2 ^ 32:Nat):Int):=by omega
 rw [h3]; omega
theorem bv_flip2 (e:Int):BitVec.ofInt 32 (xorI 4294967295 e)= ~~~ BitVec.ofInt 32 e:=by
 unfold xorI
 rw [bv_back]
 apply BitVec.eq_of_getLsbD_eq
 intro i hi
 have:BitVec.ofInt 32 4294967295=BitVec.allOnes 32:=by decide
 rw [this,BitVec.allOnes_xor]
theorem bv_ch (E F G:BitVec 32):(E &&& F) ||| (~~~E &&& G)=(E &&& F) ^^^ (~~~E &&& G):=by
 apply BitVec.eq_of_getLsbD_eq
 intro i hi
 simp only [BitVec.getLsbD_or,BitVec.getLsbD_and,BitVec.getLsbD_xor,BitVec.getLsbD_not]
 cases E.getLsbD i <;> cases F.getLsbD i <;> cases G.getLsbD i <;> simp
theorem bv_ma (A B C:BitVec 32):((A &&& B) ||| (A &&& C)) ||| (B &&& C)=((A &&& B) ^^^ (A &&& C)) ^^^ (B &&& C):=by
 apply BitVec.eq_of_getLsbD_eq
 intro i hi
 simp only [BitVec.getLsbD_or,BitVec.getLsbD_and,BitVec.getLsbD_xor]
 cases A.getLsbD i <;> cases B.getLsbD i <;> cases C.getLsbD i <;> rfl
theorem chR_eq (e f g:Int):chR e f g=chI e f g:=by
 unfold chR chI orI xorI andI
 simp only [bv_back]
 have h:=bv_flip2 e
 unfold xorI at h
 rw [bv_back] at h
 rw [bv_flip,h,bv_ch]
theorem maR_eq (a b c:Int):maR a b c=maI a b c:=by
 unfold maR maI orI xorI andI
 simp only [bv_back]
 rw [bv_ma]
theorem rdR_eq (rd ws:List Int) (i:Nat) (q:E8):rdR rd ws i q=rdX rd ws i q:=by
 obtain ⟨a,b,c,d,e,f,g,h⟩:=q
 simp only [rdR,rdX,bSR1_eq,chR_eq]
theorem w32_add (a b c:Int):w32 (w32 (a+b)+c)=w32 (a+w32 (b+c)):=by
 simp only [w32_eq]; omega
theorem rndR_eq (rd ws:List Int) (i:Nat) (q:E8):rndR rd ws i q=rndE rd ws i q:=by
 obtain ⟨a,b,c,d,e,f,g,h⟩:=q
 simp only [rndR,rndE,rdR_eq,bSR0_eq,maR_eq,w32_add]
theorem or_add {a b k:Nat} (hb:b < 2 ^ k) (ha:a * 2 ^ k+b < 4294967296):orI ((a * 2 ^ k:Nat):Int) (b:Int)=((a * 2 ^ k+b:Nat):Int):=by
 unfold orI
 have h1:∀ n:Nat,n < 4294967296→(BitVec.ofInt 32 (n:Int)).toNat=n:=fun n hn=>by
  rw [BitVec.toNat_ofInt]
  have:((n:Int) % ((2 ^ 32:Nat):Int))=n:=Int.emod_eq_of_lt (by omega) (by omega)
  rw [this]; rfl
 rw [BitVec.toNat_or,h1 _ (by omega),h1 _ (by omega)]
 have h2:a * 2 ^ k ||| b=a * 2 ^ k+b:=by
  have:=Nat.shiftLeft_add_eq_or_of_lt hb a
  rw [Nat.shiftLeft_eq] at this
  exact this.symm
 rw [h2,w32_eq]
 exact Int.emod_eq_of_lt (by omega) (by omega)
theorem or_step {p q k s:Nat} (hk:k=2 ^ s) (hq:q < k) (h:p * k+q < 4294967296) {a b:Int} (ha:a=((p * k:Nat):Int)) (hb:b=(q:Int)):orI a b=((p * k+q:Nat):Int):=by
 subst hk ha hb
 exact or_add hq h
theorem wordR_eq (b:List UInt8) (i:Nat):wordR b i=wordB b i:=by
 have hby:∀ j,∃ n:Nat,n < 256∧byI b j=(n:Int):=fun j=>⟨(b.getD j 0).toNat,(b.getD j 0).toNat_lt,by
  have:=(b.getD j 0).toNat_lt
  show ((b.getD j 0).toNat:Int) % 4294967296=_
  exact Int.emod_eq_of_lt (by omega) (by omega)⟩
 unfold wordR wordB
 obtain ⟨x,hx,ex⟩:=hby (i * 4)
 obtain ⟨y,hy,ey⟩:=hby (i * 4+1)
 obtain ⟨z,hz,ez⟩:=hby (i * 4+2)
 obtain ⟨t,ht,et⟩:=hby (i * 4+3)
 rw [ex,ey,ez,et]
 have e1:w32 ((x:Int) * 16777216)=((x * 16777216:Nat):Int):=by rw [w32_eq]; omega
 have e2:w32 ((y:Int) * 65536)=((y * 65536:Nat):Int):=by rw [w32_eq]; omega
 have e3:w32 ((z:Int) * 256)=((z * 256:Nat):Int):=by rw [w32_eq]; omega
 rw [e1,e2,e3]
 have o1:=or_step (p:=x) (q:=y * 65536) (k:=16777216) (s:=24) (by decide) (by omega) (by omega) rfl rfl
 have o2:=or_step (p:=x * 256+y) (q:=z * 256) (k:=65536) (s:=16) (a:=((x * 16777216+y * 65536:Nat):Int)) (by decide) (by omega) (by omega) (by omega) rfl
 have o3:=or_step (p:=x * 65536+y * 256+z) (q:=t) (k:=256) (s:=8) (a:=(((x * 256+y) * 65536+z * 256:Nat):Int)) (by decide) (by omega) (by omega) (by omega) rfl
 rw [o1,o2,o3]
 simp only [w32_eq]
 omega
end Go.Proofs.YtmjggdmekboefaaGreatDoor.Sha
namespace Go.Proofs.YtmjggdmekboefaaGreatDoor.Sha
open Go Go.Eng
theorem w64L_eq {ws:List Int} (h:ws.length=64):w64L ws=ws:=by
 unfold w64L
 refine List.ext_getElem (by rw [List.length_map,List.length_range,h]) fun i h1 h2=>?_
 rw [List.getElem_map,List.getElem_range,List.getD_eq_getElem?_getD,List.getElem?_eq_getElem h2]; rfl
def wsR (b:List UInt8) (i:Nat):List Int:=if i ≤ 16 then scW b i else scX b (i - 16)
theorem wsR_len (b:List UInt8) (i:Nat) (hi:i ≤ 64):(wsR b i).length=64:=by
 unfold wsR
 split
 · exact scW_len b i (by omega)
 · exact scX_len b (i - 16) (by omega)
theorem wsR_lo (b:List UInt8) {i:Nat} (h:i < 16):wsR b (i+1)=putI (wsR b i) (0+i * 1) [wordR b i]:=by
 unfold wsR
 rw [if_pos (by omega),if_pos (by omega),wordR_eq]; rfl
theorem wsR_hi (b:List UInt8) {i:Nat} (h:16 ≤ i):wsR b (i+1)=putI (wsR b i) (0+i * 1) [nextR (wsR b i) i]:=by
 obtain ⟨j,rfl⟩:∃ j,i=16+j:=⟨i - 16,by omega⟩
 have e:wsR b (16+j)=scX b j:=by
  unfold wsR
  split
  · obtain rfl:j=0:=by omega
    rfl
  · rw [show 16+j - 16=j by omega]
 rw [e,nextR_eq]
 unfold wsR
 rw [if_neg (by omega),show 16+j+1 - 16=j+1 by omega]; rfl
section
variable (b:List UInt8) (hb:64 ≤ b.length) (q:E8)
include hb in
set_option maxRecDepth 20000 in
theorem tgVc:TG Tryz.prog 3 Tryz.f99.ntmps cdVc (startSt [.agg (c8 q),.str b,aR] .nil 3) (RetG Tryz.prog 3 Tryz.f99 fun u _ _=>u= .agg (c8 (cmpL gR b q))):=by
 obtain ⟨L1,hr1⟩:=vc_1 b q
 refine TG_isN1 2 XL mo (by kernel_rfl) hr1 all_nil ?_
 refine TG_own [(4,.u32),(6,.u32)] (s2:=stG [(1,.str b),(3,.ptr (some (3,0))),(5,.ptr (some (4,0))),(6,.ptr (some (5,0))),(7,.ptr (some (6,0)))] (hL (mVc q (wsR b 0))) 7) (by kernel_rfl) ?_
 show TG _ _ _ tlVc _ _
 refine TG_seq' (by kernel_rfl) ?_
 refine TG_seq' (by kernel_rfl) ?_
 obtain ⟨L2,hr2⟩:=vc_2 b q (wsR b 0)
 refine TG_is XL mo anyR (by kernel_rfl) hr2 fun g hg _=>?_
 rw [List.mem_singleton] at hg; subst hg
 refine ⟨all_nil,fun s' hs'=>?_⟩
 refine TG_forN 0 64 (fun i=>sVc b q (wsR b i) i) (by kernel_rfl) (by kernel_rfl) (.norm hs') (fun i hi=>?_) ?_
 · have hwl:=wsR_len b i (by omega)
   rcases Nat.lt_or_ge i 16 with h16 | h16
   · have e:=wsR_lo b h16
     show TG _ _ _ _ _ (andThen (fun s'=>Goes Tryz.prog 3 Tryz.f99.ntmps s' (sVc b q (wsR b (i+1)) (i+1))) _)
     rw [e]
     obtain ⟨L,hr⟩:=vc_3 b q (wsR b i) i
     refine TG_is XL mo anyR (by kernel_rfl) hr fun g hg hc=>?_
     rcases mem2 hg with rfl | rfl
     · refine ⟨?_,fun s1 hs1=>.norm hs1⟩
       repeat' (first | exact all_nil | refine List.forall_mem_cons.2 ⟨?_,?_⟩)
       all_goals first
        | exact vadd (by rw [hOn]; omega) (by omega)
        | exact ⟨Int.natCast_nonneg _,by omega⟩
        | exact ⟨Int.natCast_nonneg _,by rw [hOn]; omega⟩
        | exact congrArg V.bool (decide_eq_true (by rw [hOn]; omega))
        | omega
     · exact absurd (of_decide_eq_false (hc _ (List.mem_singleton.2 rfl))) (by rw [hOn]; omega)
   · have e:=wsR_hi b h16
     show TG _ _ _ _ _ (andThen (fun s'=>Goes Tryz.prog 3 Tryz.f99.ntmps s' (sVc b q (wsR b (i+1)) (i+1))) _)
     rw [e]
     obtain ⟨L,hr⟩:=vc_4 b q (wsR b i) i
     refine TG_is XL mo anyR (by kernel_rfl) hr fun g hg hc=>?_
     rcases mem2 hg with rfl | rfl
     · refine ⟨?_,fun s1 hs1=>.norm hs1⟩
       repeat' (first | exact all_nil | refine List.forall_mem_cons.2 ⟨?_,?_⟩)
       all_goals first
        | exact vadd (by rw [hOn]; omega) (by omega)
        | exact ⟨Int.natCast_nonneg _,by rw [hOn]; omega⟩
        | exact congrArg V.bool (decide_eq_false (by rw [hOn]; omega))
        | omega
     · exact absurd (of_decide_eq_false (hc _ (List.mem_singleton.2 rfl))) (by rw [hOn]; omega)
 · obtain ⟨L,hr⟩:=vc_3 b q (wsR b 64) 64
   refine TG_is XL mo anyR (by kernel_rfl) hr fun g hg hc=>?_
   rcases mem2 hg with rfl | rfl
   · exact absurd (hc _ (List.mem_singleton.2 rfl)) (by decide)
   refine ⟨all_nil,fun s1 hs1=>⟨by simp,?_⟩⟩
   rw [outOf_exit]
   refine TG_norm hs1 ?_
   show TG _ _ _ (tailN 3 cdVc) _ _
   have hw:wsR b 64=w64L (scX b 48):=by rw [w64L_eq (scX_len b 48 (Nat.le_refl _))]; rfl
   rw [hw]
   have hwl:(w64L (scX b 48)).length=64:=by unfold w64L; rw [List.length_map,List.length_range]
   refine TG_seq' (by kernel_rfl) ?_
   unfold cmpL
   generalize w64L (scX b 48)=ws at hwl ⊢
   obtain ⟨L5,hr5⟩:=vc_5 b q ws 64
   refine TG_is XL mo anyR (by kernel_rfl) hr5 fun g hg _=>?_
   rw [List.mem_singleton] at hg; subst hg
   refine ⟨all_nil,fun s2 hs2=>TG_norm hs2 ?_⟩
   show TG _ _ _ tl4Vc _ _
   refine TG_seq' (by kernel_rfl) ?_
   refine TG_seq' (by kernel_rfl) ?_
   obtain ⟨L6,hr6⟩:=vc_6 q q ws
   refine TG_is XL mo anyR (by kernel_rfl) hr6 fun g hg _=>?_
   rw [List.mem_singleton] at hg; subst hg
   refine ⟨all_nil,fun s3 hs3=>?_⟩
   refine TG_forN 2 64 (fun i=>sVd q (rndN gR ws q i) ws [(12,iW i)]) (by kernel_rfl) (by kernel_rfl) (.norm hs3) (fun i hi=>?_) ?_
   · show TG _ _ _ _ _ (andThen (fun s'=>Goes Tryz.prog 3 Tryz.f99.ntmps s' (sVd q (rndE gR ws i (rndN gR ws q i)) ws [(12,iW (i+1))])) _)
     rw [← rndR_eq]
     generalize rndN gR ws q i=q'
     obtain ⟨a,b,c,d,e,f,g,h⟩:=q
     obtain ⟨a',b',c',d',e',f',g',h'⟩:=q'
     obtain ⟨L7,hr7⟩:=vc_7 a b c d e f g h a' b' c' d' e' f' g' h' ws i
     refine TG_is XL mo anyR (by kernel_rfl) hr7 fun g hg hc=>?_
     rcases mem2 hg with rfl | rfl
     · refine ⟨?_,fun s4 hs4=>.norm hs4⟩
       repeat' (first | exact all_nil | refine List.forall_mem_cons.2 ⟨?_,?_⟩)
       all_goals first
        | exact vadd (by rw [hOn]; omega) (by omega)
        | exact ⟨Int.natCast_nonneg _,by rw [hOn]; omega⟩
        | omega
     · exact absurd (of_decide_eq_false (hc _ (List.mem_singleton.2 rfl))) (by rw [hOn]; omega)
   · show TG _ _ _ _ (sVd q (rndN gR ws q 64) ws [(12,iW 64)]) _
     generalize rndN gR ws q 64=q'
     obtain ⟨a,b,c,d,e,f,g,h⟩:=q
     obtain ⟨a',b',c',d',e',f',g',h'⟩:=q'
     obtain ⟨L7,hr7⟩:=vc_7 a b c d e f g h a' b' c' d' e' f' g' h' ws 64
     refine TG_is XL mo anyR (by kernel_rfl) hr7 fun g hg hc=>?_
     rcases mem2 hg with rfl | rfl
     · exact absurd (hc _ (List.mem_singleton.2 rfl)) (by decide)
     refine ⟨all_nil,fun s4 hs4=>⟨by simp,?_⟩⟩
     rw [outOf_exit]
     refine TG_norm hs4 ?_
     obtain ⟨L8,hr8⟩:=vc_8 a b c d e f g h a' b' c' d' e' f' g' h' ws 64
     refine TG_ret XL mo _ (by kernel_rfl) hr8 fun g hg _=>?_
     rw [List.mem_singleton] at hg; subst hg
     refine ⟨?_,_,_,_,rfl,?_⟩
     · repeat' (first | exact all_nil | refine List.forall_mem_cons.2 ⟨?_,?_⟩)
       all_goals exact ⟨by decide,by decide⟩
     · simp only [add8,c8,Int.add_comm]
end
end Go.Proofs.YtmjggdmekboefaaGreatDoor.Sha
namespace Go.Proofs.YtmjggdmekboefaaGreatDoor.Sha
open Go Go.Eng
def specVc:List V→Option (List Prop × V)
 | [.agg [.int .u32 a,.int .u32 b,.int .u32 c,.int .u32 d,.int .u32 e,.int .u32 f,.int .u32 g,.int .u32 x],.str s,r]=>match r.free with
   | true=>some ([64 ≤ s.length,r=aR],.agg (c8 (cmpL gR s (a,b,c,d,e,f,g,x))))
   | false=>none
 | _=>none
theorem one_Vc:OneW Tryz.prog 99 (pureW specVc):=by
 refine pureW_ok (Nat.le_of_ble_eq_true (by kernel_rfl)) fun args A v e=>?_
 unfold specVc at e
 split at e
 case h_2=>cases e
 rename_i a b c d e1 f g x s r
 split at e
 case h_2=>cases e
 rename_i hr
 simp only [Option.some.injEq,Prod.mk.injEq] at e; obtain ⟨rfl,rfl⟩:=e
 refine ⟨by simp [V.frees,V.free,hr],by kernel_rfl,fun hA=>?_⟩
 obtain rfl:r=aR:=hA (r=aR) (by simp)
 exact pure_calls mo po Tryz.func99 (by kernel_rfl) (by kernel_rfl) rfl (tgVc s (hA (64 ≤ s.length) (by simp)) (a,b,c,d,e1,f,g,x))
theorem fdv (x:Int) (a b c:Int) (h:a * b=c) (ha:0 < a) (hb:0 < b):(x.fdiv a).fdiv b=x.fdiv c:=by
 subst h
 rw [Int.fdiv_eq_ediv_of_nonneg _ (Int.le_of_lt ha),Int.fdiv_eq_ediv_of_nonneg _ (Int.le_of_lt hb),Int.fdiv_eq_ediv_of_nonneg _ (Int.le_of_lt (Int.mul_pos ha hb)),Int.ediv_ediv_of_nonneg (Int.le_of_lt ha)]
def rawB8 (x:Int):List UInt8:=[UInt8.ofNat (IntKind.u8.wrap (((((((x.fdiv 256).fdiv 256).fdiv 256).fdiv 256).fdiv 256).fdiv 256).fdiv 256)).toNat,UInt8.ofNat (IntKind.u8.wrap ((((((x.fdiv 256).fdiv 256).fdiv 256).fdiv 256).fdiv 256).fdiv 256)).toNat,UInt8.ofNat (IntKind.u8.wrap (((((x.fdiv 256).fdiv 256).fdiv 256).fdiv 256).fdiv 256)).toNat,
    UInt8.ofNat (IntKind.u8.wrap ((((x.fdiv 256).fdiv 256).fdiv 256).fdiv 256)).toNat,UInt8.ofNat (IntKind.u8.wrap (((x.fdiv 256).fdiv 256).fdiv 256)).toNat,UInt8.ofNat (IntKind.u8.wrap ((x.fdiv 256).fdiv 256)).toNat,UInt8.ofNat (IntKind.u8.wrap (x.fdiv 256)).toNat,UInt8.ofNat (IntKind.u8.wrap x).toNat]
theorem big8 (x:Int) (h0:0 ≤ x) (h1:x < 18446744073709551616):rawB8 x=put8 x:=by
 unfold rawB8
 have hw:IntKind.u64.wrap x=x:=Int.emod_eq_of_lt h0 h1
 unfold put8 pB
 rw [hw,fdv x 256 256 65536 (by decide) (by decide) (by decide),fdv x 65536 256 16777216 (by decide) (by decide) (by decide),fdv x 16777216 256 4294967296 (by decide) (by decide) (by decide),fdv x 4294967296 256 1099511627776 (by decide) (by decide) (by decide),fdv x 1099511627776 256 281474976710656 (by decide) (by decide) (by decide),fdv x 281474976710656 256 72057594037927936 (by decide) (by decide) (by decide)]
 have h1:x.fdiv 1=x:=Int.fdiv_one x
 rw [h1]
def rawB4 (x:Int):List UInt8:=[UInt8.ofNat (IntKind.u8.wrap (((x.fdiv 256).fdiv 256).fdiv 256)).toNat,UInt8.ofNat (IntKind.u8.wrap ((x.fdiv 256).fdiv 256)).toNat,UInt8.ofNat (IntKind.u8.wrap (x.fdiv 256)).toNat,UInt8.ofNat (IntKind.u8.wrap x).toNat]
theorem big4 (x:Int) (h0:0 ≤ x) (h1:x < 18446744073709551616):rawB4 x=put4 x:=by
 unfold rawB4
 have hw:IntKind.u64.wrap x=x:=Int.emod_eq_of_lt h0 h1
 unfold put4 pB
 rw [hw,fdv x 256 256 65536 (by decide) (by decide) (by decide),fdv x 65536 256 16777216 (by decide) (by decide) (by decide)]
 have h1:x.fdiv 1=x:=Int.fdiv_one x
 rw [h1]
def specBg:List V→Option (List Prop × V)
 | [.int .u64 x,.int .i64 k]=>match k with
   | .ofNat 8=>some ([],.str (rawB8 x))
   | .ofNat 4=>some ([],.str (rawB4 x))
   | _=>none
 | _=>none
set_option maxRecDepth 20000 in
theorem one_Bg:OneW Tryz.prog 70 (pureW specBg):=by
 refine pureW_ok (Nat.le_of_ble_eq_true (by kernel_rfl)) fun args A v e=>?_
 unfold specBg at e
 split at e
 case h_2=>cases e
 rename_i x k
 split at e
 · simp only [Option.some.injEq,Prod.mk.injEq] at e; obtain ⟨rfl,rfl⟩:=e
   refine ⟨rfl,by kernel_rfl,fun _=>pure_calls mo po Tryz.func70 (code:=bodyOf Tryz.f70) (by kernel_rfl) (by kernel_rfl) rfl ?_⟩
   obtain ⟨L,hr⟩:=vb_8 x
   refine TG_ret XL mo _ (by kernel_rfl) hr fun g hg _=>?_
   rw [List.mem_singleton] at hg; subst hg
   refine ⟨?_,_,_,_,rfl,?_⟩
   · repeat' (first | exact all_nil | refine List.forall_mem_cons.2 ⟨?_,?_⟩)
     all_goals first | exact ⟨by decide,by decide⟩ | exact ⟨by decide,by decide,by decide⟩ | exact Nat.le_of_ble_eq_true rfl
   · rfl
 · simp only [Option.some.injEq,Prod.mk.injEq] at e; obtain ⟨rfl,rfl⟩:=e
   refine ⟨rfl,by kernel_rfl,fun _=>pure_calls mo po Tryz.func70 (code:=bodyOf Tryz.f70) (by kernel_rfl) (by kernel_rfl) rfl ?_⟩
   obtain ⟨L,hr⟩:=vb_4 x
   refine TG_ret XL mo _ (by kernel_rfl) hr fun g hg _=>?_
   rw [List.mem_singleton] at hg; subst hg
   refine ⟨?_,_,_,_,rfl,?_⟩
   · repeat' (first | exact all_nil | refine List.forall_mem_cons.2 ⟨?_,?_⟩)
     all_goals first | exact ⟨by decide,by decide⟩ | exact ⟨by decide,by decide,by decide⟩ | exact Nat.le_of_ble_eq_true rfl
   · rfl
 · cases e
noncomputable abbrev W20:CtrW:=addW 70 (pureW specBg) (addW 99 (pureW specVc) noW)
theorem W20_ok:CtrWOk Tryz.prog W20:=addW_ok one_Bg (addW_ok one_Vc (noW_ok _))
noncomputable abbrev cs20:CallS:=callX Tryz.prog W20 H0 1000 40
noncomputable abbrev X20:CX Tryz.prog:=CX.of mo po W20_ok H0 1000 40
end Go.Proofs.YtmjggdmekboefaaGreatDoor.Sha
namespace Go.Proofs.YtmjggdmekboefaaGreatDoor.Sha
open Go Go.Eng
noncomputable abbrev cdVo:Code:=bodyOf Tryz.f67
section
variable (s:List UInt8) (q:E8) (k:Nat) (m acc:List UInt8)
def zs (k:Nat):List Int:=(128:Int) :: List.replicate k 0
def qS:E8:=(1779033703,3144134277,1013904242,2773480762,1359893119,2600822924,528734635,1541459225)
def sOz (us:List Int):St:=stG [(0,.str s),(3,.ptr (some (3,0))),(4,.ptr (some (4,0))),(5,.slc (some (5,0)) (k+1) (k+1) 1)] (hL [(3,.cells (c8 qS)),(4,.cells (gR.map (V.int .u32 ·))),(5,.own .u8 us)]) 6
def sOa:St:=sOz s k (zs k)
def sOb (r:List (Nat × V)):St:=stG ([(3,.ptr (some (3,0))),(4,.ptr (some (4,0))),(6,.str m)] ++ r) (hL [(3,.cells (c8 q)),(4,.cells (gR.map (V.int .u32 ·)))]) 5
end
theorem vo_1 (s:List UInt8):∃ L,RunIs Tryz.prog cs20 [] 1000 3 Tryz.f67 [0,3,4,5] (headN 4 cdVo) (startSt [.str s] .nil 3) L
  [([],
   [],
   .to .normal (stG [(0,.str s),(3,.ptr (some (3,0))),(4,.ptr (some (4,0))),(5,.slc (some (5,0)) 1 1 1)] (hL [(3,.cells [.int .u32 1779033703,.int .u32 3144134277,.int .u32 1013904242,.int .u32 2773480762,.int .u32 1359893119,.int .u32 2600822924,.int .u32 528734635,.int .u32 1541459225]),(4,.cells [.int .u32 1116352408,.int .u32 1899447441,.int .u32 3049323471,.int .u32 3921009573,.int .u32 961987163,.int .u32 1508970993,.int .u32 2453635748,.int .u32 2870763221,.int .u32 3624381080,.int .u32 310598401,.int .u32 607225278,.int .u32 1426881987,.int .u32 1925078388,.int .u32 2162078206,.int .u32 2614888103,.int .u32 3248222580,.int .u32 3835390401,.int .u32 4022224774,.int .u32 264347078,.int .u32 604807628,.int .u32 770255983,.int .u32 1249150122,.int .u32 1555081692,.int .u32 1996064986,.int .u32 2554220882,.int .u32 2821834349,.int .u32 2952996808,.int .u32 3210313671,.int .u32 3336571891,.int .u32 3584528711,.int .u32 113926993,.int .u32 338241895,.int .u32 666307205,.int .u32 773529912,.int .u32 1294757372,.int .u32 1396182291,.int .u32 1695183700,.int .u32 1986661051,.int .u32 2177026350,.int .u32 2456956037,.int .u32 2730485921,.int .u32 2820302411,.int .u32 3259730800,.int .u32 3345764771,.int .u32 3516065817,.int .u32 3600352804,.int .u32 4094571909,.int .u32 275423344,.int .u32 430227734,.int .u32 506948616,.int .u32 659060556,.int .u32 883997877,.int .u32 958139571,.int .u32 1322822218,.int .u32 1537002063,.int .u32 1747873779,.int .u32 1955562222,.int .u32 2024104815,.int .u32 2227730452,.int .u32 2361852424,.int .u32 2428436474,.int .u32 2756734187,.int .u32 3204031479,.int .u32 3329325298]),(5,.cells [.int .u8 128])]) 6))]
 :=RunIs.of (by kernel_rfl) (by kernel_rfl) (by kernel_rfl)
abbrev vo_2A1 (s:List UInt8) (k:Nat):Prop:=V.int IntKind.i64 (IntKind.i64.wrap ((Int.ofNat s.length)+(Int.ofNat (k+1))))=iW (s.length+(k+1))
abbrev vo_2A2 (s:List UInt8) (k:Nat):Prop:=V.int IntKind.i64 ((Int.ofNat (s.length+(k+1))).tmod (64:Int))=iW ((s.length+(k+1)) % 64)
theorem vo_2 (s:List UInt8) (k:Nat):∃ L,RunIs Tryz.prog cs20 [(17,.give (iW (s.length+(k+1)))),(18,.give (iW ((s.length+(k+1)) % 64))),(19,.split)] 1000 3 Tryz.f67 [0,3,4,5] (inner (inner (seqL (tailN 4 cdVo)))) (sOa s k) L
  [([((Int.ofNat ((s.length+(k+1)) % 64) != (56:Int)),true)],
   [vo_2A1 s k,vo_2A2 s k,(0 < k+1),(0+(k+1) * 1 ≤ (zs k).length),(0 < 1),(roomy (k+1+1) 1 1=true)],
   .to .normal (sOz s (k+1) (List.take ((k+1) * 1) (List.drop 0 (zs k)) ++ [0]))),
  ([((Int.ofNat ((s.length+(k+1)) % 64) != (56:Int)),false)],
   [vo_2A1 s k,vo_2A2 s k],
   .to (.exit 0) (sOa s k))]
 :=RunIs.of (by kernel_rfl) (by kernel_rfl) (by kernel_rfl)
theorem vo_3 (s:List UInt8) (k:Nat):∃ L,RunIs Tryz.prog cs20 [] 1000 3 Tryz.f67 [3,4,6] (seqL (tailN 5 cdVo)) (sOa s k) L
  [([],
   [(0+(k+1) ≤ (zs k).length),(s.length+(strI (List.take (k+1) (List.drop 0 (zs k)))).length ≤ 9223372036854775807),(0+(k+1) ≤ (zs k).length),((s ++ strI (List.take (k+1) (List.drop 0 (zs k)))).length+(rawB8 (IntKind.u64.wrap ((8:Int) * IntKind.u64.wrap (Int.ofNat s.length)))).length ≤ 9223372036854775807)],
   .to .normal (sOb qS (s ++ strI (List.take (k+1) (List.drop 0 (zs k))) ++ rawB8 (IntKind.u64.wrap ((8:Int) * IntKind.u64.wrap (Int.ofNat s.length)))) []))]
 :=RunIs.of (by kernel_rfl) (by kernel_rfl) (by kernel_rfl)
theorem vo_4 (q:E8) (m:List UInt8):∃ L,RunIs Tryz.prog cs20 [] 1000 3 Tryz.f67 [3,4,6,7] (seqL (seqL (tailN 6 cdVo))) (sOb q m []) L
  [([],
   [],
   .to .normal (sOb q m [(7,iW 0)]))]
 :=RunIs.of (by kernel_rfl) (by kernel_rfl) (by kernel_rfl)
theorem vo_5 (q:E8) (m:List UInt8) (i:Nat):∃ L,RunIs Tryz.prog cs20 [(36,.split),(43,.give (iW (64 * i+64))),(38,.give (iW (64 * (i+1))))] 1000 3 Tryz.f67 [3,4,6,7] (inner (inner (seqR (seqL (tailN 6 cdVo))))) (sOb q m [(7,iW (64 * i))]) L
  [([((decide (Int.ofNat (64 * i) < (Int.ofNat m.length))),true)],
   [(V.int IntKind.i64 (IntKind.i64.wrap (Int.ofNat (64 * i)+(64:Int)))=iW (64 * i+64)),((0:Int) ≤ Int.ofNat (64 * i+64)∧Int.ofNat (64 * i+64) ≤ (Int.ofNat m.length)),((0:Int) ≤ Int.ofNat (64 * i)∧Int.ofNat (64 * i) ≤ (Int.ofNat (64 * i+64))),(64 ≤ (List.drop (64 * i) (List.take (64 * i+64) m)).length),(V.agg (List.take 64 (List.drop 0 (List.map (fun x=>V.int IntKind.u32 x) gR)))=aR),(V.int IntKind.i64 (IntKind.i64.wrap (Int.ofNat (64 * i)+(64:Int)))=iW (64 * (i+1)))],
   .to .normal (sOb (cmpL gR (blk m (64 * i)) q) m [(7,iW (64 * (i+1)))])),
  ([((decide (Int.ofNat (64 * i) < (Int.ofNat m.length))),false)],
   [],
   .to (.exit 2) (sOb q m [(7,iW (64 * i))]))]
 :=RunIs.of (by kernel_rfl) (by kernel_rfl) (by kernel_rfl)
theorem vo_6 (q:E8) (m:List UInt8) (i:Nat):∃ L,RunIs Tryz.prog cs20 [] 1000 3 Tryz.f67 [] (tailN 7 cdVo) (sOb q m [(7,iW (64 * i))]) L
  [([],
   [((0:Int) ≤ (0:Int)∧(0:Int) < (8:Int)),(0+(rawB4 (IntKind.u64.wrap q.fst)).length ≤ 9223372036854775807),((0:Int) ≤ (1:Int)∧(1:Int) < (8:Int)),((([]:List UInt8) ++ rawB4 (IntKind.u64.wrap q.fst)).length+(rawB4 (IntKind.u64.wrap q.snd.fst)).length ≤ 9223372036854775807),((0:Int) ≤ (2:Int)∧(2:Int) < (8:Int)),((([]:List UInt8) ++ rawB4 (IntKind.u64.wrap q.fst) ++ rawB4 (IntKind.u64.wrap q.snd.fst)).length+(rawB4 (IntKind.u64.wrap q.snd.snd.fst)).length ≤ 9223372036854775807),((0:Int) ≤ (3:Int)∧(3:Int) < (8:Int)),((([]:List UInt8) ++ rawB4 (IntKind.u64.wrap q.fst) ++ rawB4 (IntKind.u64.wrap q.snd.fst) ++ rawB4 (IntKind.u64.wrap q.snd.snd.fst)).length+(rawB4 (IntKind.u64.wrap q.snd.snd.snd.fst)).length ≤ 9223372036854775807),((0:Int) ≤ (4:Int)∧(4:Int) < (8:Int)),((([]:List UInt8) ++ rawB4 (IntKind.u64.wrap q.fst) ++ rawB4 (IntKind.u64.wrap q.snd.fst) ++ rawB4 (IntKind.u64.wrap q.snd.snd.fst) ++ rawB4 (IntKind.u64.wrap q.snd.snd.snd.fst)).length+(rawB4 (IntKind.u64.wrap q.snd.snd.snd.snd.fst)).length ≤ 9223372036854775807),((0:Int) ≤ (5:Int)∧(5:Int) < (8:Int)),((([]:List UInt8) ++ rawB4 (IntKind.u64.wrap q.fst) ++ rawB4 (IntKind.u64.wrap q.snd.fst) ++ rawB4 (IntKind.u64.wrap q.snd.snd.fst) ++ rawB4 (IntKind.u64.wrap q.snd.snd.snd.fst) ++ rawB4 (IntKind.u64.wrap q.snd.snd.snd.snd.fst)).length+(rawB4 (IntKind.u64.wrap q.snd.snd.snd.snd.snd.fst)).length ≤ 9223372036854775807),((0:Int) ≤ (6:Int)∧(6:Int) < (8:Int)),((([]:List UInt8) ++ rawB4 (IntKind.u64.wrap q.fst) ++ rawB4 (IntKind.u64.wrap q.snd.fst) ++ rawB4 (IntKind.u64.wrap q.snd.snd.fst) ++ rawB4 (IntKind.u64.wrap q.snd.snd.snd.fst) ++ rawB4 (IntKind.u64.wrap q.snd.snd.snd.snd.fst) ++ rawB4 (IntKind.u64.wrap q.snd.snd.snd.snd.snd.fst)).length+(rawB4 (IntKind.u64.wrap q.snd.snd.snd.snd.snd.snd.fst)).length ≤ 9223372036854775807),((0:Int) ≤ (7:Int)∧(7:Int) < (8:Int)),((([]:List UInt8) ++ rawB4 (IntKind.u64.wrap q.fst) ++ rawB4 (IntKind.u64.wrap q.snd.fst) ++ rawB4 (IntKind.u64.wrap q.snd.snd.fst) ++ rawB4 (IntKind.u64.wrap q.snd.snd.snd.fst) ++ rawB4 (IntKind.u64.wrap q.snd.snd.snd.snd.fst) ++ rawB4 (IntKind.u64.wrap q.snd.snd.snd.snd.snd.fst) ++ rawB4 (IntKind.u64.wrap q.snd.snd.snd.snd.snd.snd.fst)).length+(rawB4 (IntKind.u64.wrap q.snd.snd.snd.snd.snd.snd.snd)).length ≤ 9223372036854775807)],
   .ret (.str (([]:List UInt8) ++ rawB4 (IntKind.u64.wrap q.fst) ++ rawB4 (IntKind.u64.wrap q.snd.fst) ++ rawB4 (IntKind.u64.wrap q.snd.snd.fst) ++ rawB4 (IntKind.u64.wrap q.snd.snd.snd.fst) ++ rawB4 (IntKind.u64.wrap q.snd.snd.snd.snd.fst) ++ rawB4 (IntKind.u64.wrap q.snd.snd.snd.snd.snd.fst) ++ rawB4 (IntKind.u64.wrap q.snd.snd.snd.snd.snd.snd.fst) ++ rawB4 (IntKind.u64.wrap q.snd.snd.snd.snd.snd.snd.snd))) (hL []) 3)]
 :=RunIs.of (by kernel_rfl) (by kernel_rfl) (by kernel_rfl)
end Go.Proofs.YtmjggdmekboefaaGreatDoor.Sha
namespace Go.Proofs.YtmjggdmekboefaaGreatDoor.Sha
open Go Go.Eng
theorem blk_app {s t:List UInt8} {j:Nat} (h:64 * j+64 ≤ s.length):blk (s ++ t) (64 * j)=blk s (64 * j):=by
 unfold blk
 rw [List.take_append_of_le_length h]
theorem hashN_app (rd:List Int) (s t:List UInt8) (q:E8):∀ n,64 * n ≤ s.length→hashN rd (s ++ t) q n=hashN rd s q n
 | 0,_=>rfl
 | n+1,h=>by
   show cmpL rd (blk (s ++ t) (64 * n)) (hashN rd (s ++ t) q n)=cmpL rd (blk s (64 * n)) (hashN rd s q n)
   rw [blk_app (by omega),hashN_app rd s t q n (by omega)]
theorem hashN_drop (rd:List Int) (m:List UInt8) (q:E8) (n0:Nat):∀ k,hashN rd m q (n0+k)=hashN rd (m.drop (64 * n0)) (hashN rd m q n0) k
 | 0=>rfl
 | k+1=>by
   show cmpL rd (blk m (64 * (n0+k))) (hashN rd m q (n0+k))=cmpL rd (blk (m.drop (64 * n0)) (64 * k)) _
   rw [hashN_drop rd m q n0 k]
   congr 1
   unfold blk
   rw [List.take_drop,List.drop_drop,show 64 * n0+(64 * k+64)=64 * (n0+k)+64 by omega,show 64 * n0+64 * k=64 * (n0+k) by omega]
def msgR (s:List UInt8):List UInt8:=s ++ (128 :: List.replicate (zerosN s) 0) ++ put8 (Int.ofNat (s.length * 8))
theorem msgR_len (s:List UInt8):(msgR s).length=s.length / 64 * 64+(padOf s).length∧(padOf s).length % 64=0:=by
 unfold msgR padOf zerosN
 simp only [List.length_append,List.length_cons,List.length_replicate,List.length_drop,List.length_take,List.length_nil]
 have:(put8 (Int.ofNat (s.length * 8))).length=8:=rfl
 rw [this]
 omega
theorem msgR_drop (s:List UInt8):(msgR s).drop (64 * (s.length / 64))=padOf s:=by
 unfold msgR padOf
 rw [List.take_length,List.append_assoc,List.drop_append_of_le_length (by omega),Nat.mul_comm 64,List.append_assoc,List.append_assoc]; rfl
theorem sha_msg (s:List UInt8):out8 (hashN gR (msgR s) (stq gS) ((msgR s).length / 64))=sha s:=by
 unfold sha shaOf
 congr 1
 obtain ⟨h1,h2⟩:=msgR_len s
 have e:(msgR s).length / 64=s.length / 64+(padOf s).length / 64:=by omega
 rw [e,hashN_drop,msgR_drop]
 congr 1
 unfold msgR
 rw [List.append_assoc]
 exact hashN_app gR s _ (stq gS) _ (by omega)
end Go.Proofs.YtmjggdmekboefaaGreatDoor.Sha
namespace Go.Proofs.YtmjggdmekboefaaGreatDoor.Sha
open Go Go.Eng
theorem zs_len (k:Nat):(zs k).length=k+1:=by unfold zs; rw [List.length_cons,List.length_replicate]
theorem zs_next (k:Nat):List.take ((k+1) * 1) (List.drop 0 (zs k)) ++ [0]=zs (k+1):=by
 rw [List.drop_zero,List.take_of_length_le (by rw [zs_len]; omega)]
 unfold zs
 rw [List.cons_append,List.replicate_succ']
theorem zs_str (k:Nat):strI (List.take (k+1) (List.drop 0 (zs k)))=128 :: List.replicate k 0:=by
 rw [List.drop_zero,List.take_of_length_le (by rw [zs_len]; omega)]
 unfold zs strI
 rw [List.map_cons,List.map_replicate]; rfl
theorem wr64 (x:Int):IntKind.u64.wrap (IntKind.u64.wrap x)=IntKind.u64.wrap (IntKind.i64.wrap x):=by
 have h:∀ y:Int,IntKind.u64.wrap y=y % 18446744073709551616:=fun _=>rfl
 have h2:IntKind.i64.wrap x=(if (decide (x % 18446744073709551616 ≥ 9223372036854775808))=true then x % 18446744073709551616 - 18446744073709551616 else x % 18446744073709551616):=rfl
 rw [h,h,h,h2]
 split <;> omega
theorem put4_u (x:Int):rawB4 (IntKind.u64.wrap x)=wB x:=by
 have h:IntKind.u64.wrap x=x % 18446744073709551616:=rfl
 rw [big4 _ (by rw [h]; omega) (by rw [h]; omega)]
 unfold wB put4 pB
 rw [wr64]
section
variable (s:List UInt8)
set_option maxRecDepth 20000 in
theorem tgVo (hs:s.length ≤ 1000000000):TG Tryz.prog 3 Tryz.f67.ntmps cdVo (startSt [.str s] .nil 3) (RetG Tryz.prog 3 Tryz.f67 fun u _ _=>u= .str (sha s)):=by
 obtain ⟨L1,hr1⟩:=vo_1 s
 refine TG_isN1 4 X20 mo (by kernel_rfl) hr1 all_nil ?_
 refine TG_own [(5,.u8)] (s2:=sOa s 0) (by kernel_rfl) ?_
 show TG _ _ _ (tailN 4 cdVo) _ _
 have hz:zerosN s < 64:=Nat.mod_lt _ (by decide)
 have hzm:(s.length+(zerosN s+1)) % 64=56:=by unfold zerosN; omega
 have hzl:∀ k,k < zerosN s→(s.length+(k+1)) % 64 ≠ 56:=fun k hk=>by unfold zerosN at hk; omega
 have ha:∀ k,k ≤ zerosN s→V.int IntKind.i64 (IntKind.i64.wrap ((Int.ofNat s.length)+(Int.ofNat (k+1))))=iW (s.length+(k+1))∧V.int IntKind.i64 ((Int.ofNat (s.length+(k+1))).tmod (64:Int))=iW ((s.length+(k+1)) % 64):=fun k hk=>
  ⟨vadd (by rw [hOn,hOn]; omega) (by omega),congrArg (V.int IntKind.i64) (by rw [hOn,Int.tmod_eq_emod_of_nonneg (by omega)]; rfl)⟩
 refine TG_seq' (by kernel_rfl) ?_
 refine TG_forN 0 (zerosN s) (fun k=>sOa s k) (by kernel_rfl) (by kernel_rfl) .refl (fun k hk=>?_) ?_
 · obtain ⟨L,hr⟩:=vo_2 s k
   refine TG_is X20 mo anyR (by kernel_rfl) hr fun g hg hc=>?_
   rcases mem2 hg with rfl | rfl
   · refine ⟨fm ((ha k (by omega)).1) (fm ((ha k (by omega)).2) (fm (by omega) (fm (by rw [zs_len]; omega) (fm (by decide) (fm1 (roomy_ok (by omega))))))),fun s1 hs1=>?_⟩
     rw [zs_next] at hs1
     exact .norm hs1
   · have h:=hc _ (List.mem_singleton.2 rfl)
     dsimp only at h
     have:Int.ofNat ((s.length+(k+1)) % 64)=56:=by simpa using h
     exact absurd (Int.ofNat.inj this) (hzl k hk)
 · obtain ⟨L,hr⟩:=vo_2 s (zerosN s)
   refine TG_is X20 mo anyR (by kernel_rfl) hr fun g hg hc=>?_
   rcases mem2 hg with rfl | rfl
   · have h:=hc _ (List.mem_singleton.2 rfl)
     dsimp only at h
     rw [hzm] at h
     exact absurd h (by decide)
   refine ⟨fm ((ha _ (Nat.le_refl _)).1) (fm1 ((ha _ (Nat.le_refl _)).2)),fun s1 hs1=>⟨by simp,?_⟩⟩
   rw [outOf_exit]
   refine TG_norm hs1 ?_
   show TG _ _ _ (tailN 5 cdVo) _ _
   refine TG_seq' (by kernel_rfl) ?_
   obtain ⟨L3,hr3⟩:=vo_3 s (zerosN s)
   refine TG_is X20 mo anyR (by kernel_rfl) hr3 fun g hg _=>?_
   rw [List.mem_singleton] at hg; subst hg
   have hx:IntKind.u64.wrap ((8:Int) * IntKind.u64.wrap (Int.ofNat s.length))=Int.ofNat (s.length * 8):=by
    show (8 * (Int.ofNat s.length % 18446744073709551616)) % 18446744073709551616=_
    rw [hOn,hOn]; omega
   have hmsg:s ++ strI (List.take (zerosN s+1) (List.drop 0 (zs (zerosN s)))) ++ rawB8 (IntKind.u64.wrap ((8:Int) * IntKind.u64.wrap (Int.ofNat s.length)))=msgR s:=by
    rw [zs_str,hx,big8 _ (by rw [hOn]; omega) (by rw [hOn]; omega)]; rfl
   have hl1:(strI (List.take (zerosN s+1) (List.drop 0 (zs (zerosN s))))).length=zerosN s+1:=by rw [zs_str,List.length_cons,List.length_replicate]
   have hl2:∀ x,(rawB8 x).length=8:=fun _=>rfl
   refine ⟨fm (by rw [zs_len]; omega) (fm (by rw [hl1]; omega) (fm (by rw [zs_len]; omega) (fm1 (by rw [List.length_append,hl1,hl2]; omega)))),fun s2 hs2=>?_⟩
   rw [hmsg] at hs2
   refine TG_norm hs2 ?_
   have hml:=msgR_len s
   have hfin:=sha_msg s
   have hmb:(msgR s).length ≤ 2000000000:=by
    unfold msgR
    rw [List.length_append,List.length_append,List.length_cons,List.length_replicate]
    have:(put8 (Int.ofNat (s.length * 8))).length=8:=rfl
    omega
   obtain ⟨n,hn⟩:∃ n,(msgR s).length=64 * n:=⟨(msgR s).length / 64,by omega⟩
   rw [hn,show 64 * n / 64=n by omega] at hfin
   generalize msgR s=m at hn hfin hmb ⊢
   show TG _ _ _ (tailN 6 cdVo) _ _
   refine TG_seq' (by kernel_rfl) ?_
   refine TG_seq' (by kernel_rfl) ?_
   obtain ⟨L4,hr4⟩:=vo_4 qS m
   refine TG_is X20 mo anyR (by kernel_rfl) hr4 fun g hg _=>?_
   rw [List.mem_singleton] at hg; subst hg
   refine ⟨all_nil,fun s3 hs3=>?_⟩
   refine TG_forN 2 n (fun i=>sOb (hashN gR m (stq gS) i) m [(7,iW (64 * i))]) (by kernel_rfl) (by kernel_rfl) (.norm hs3) (fun i hi=>?_) ?_
   · obtain ⟨L5,hr5⟩:=vo_5 (hashN gR m (stq gS) i) m i
     refine TG_is X20 mo anyR (by kernel_rfl) hr5 fun g hg hc=>?_
     rcases mem2 hg with rfl | rfl
     · refine ⟨fm (vadd (by rw [hOn]; omega) (by omega)) (fm (⟨Int.natCast_nonneg _,by rw [hOn,hOn]; omega⟩) (fm (⟨Int.natCast_nonneg _,by rw [hOn,hOn]; omega⟩) (fm (by rw [List.length_drop,List.length_take]; omega) (fm (rfl) (fm1 (vadd (by rw [hOn]; omega) (by omega))))))),fun s4 hs4=>.norm hs4⟩
     · exact absurd (of_decide_eq_false (hc _ (List.mem_singleton.2 rfl))) (by rw [hOn,hOn]; omega)
   · obtain ⟨L5,hr5⟩:=vo_5 (hashN gR m (stq gS) n) m n
     refine TG_is X20 mo anyR (by kernel_rfl) hr5 fun g hg hc=>?_
     rcases mem2 hg with rfl | rfl
     · exact absurd (of_decide_eq_true (hc _ (List.mem_singleton.2 rfl))) (by rw [hOn,hOn]; omega)
     refine ⟨all_nil,fun s4 hs4=>⟨by simp,?_⟩⟩
     rw [outOf_exit]
     refine TG_norm hs4 ?_
     obtain ⟨L6,hr6⟩:=vo_6 (hashN gR m (stq gS) n) m n
     refine TG_ret X20 mo _ (by kernel_rfl) hr6 fun g hg _=>?_
     rw [List.mem_singleton] at hg; subst hg
     refine ⟨?_,_,_,_,rfl,?_⟩
     · repeat' (first | exact all_nil | refine List.forall_mem_cons.2 ⟨?_,?_⟩)
       all_goals first | exact ⟨by decide,by decide⟩ | exact Nat.le_of_ble_eq_true rfl
     · rw [← hfin]
       unfold out8
       simp only [put4_u,strI_bytesI,List.nil_append]
end
end Go.Proofs.YtmjggdmekboefaaGreatDoor.Sha
namespace Go.Proofs.YtmjggdmekboefaaGreatDoor.Sha
open Go Go.Eng
def specVo:List V→Option (List Prop × V)
 | [.str s]=>some ([s.length ≤ 1000000000],.str (sha s))
 | _=>none
theorem one_Vo:OneW Tryz.prog 67 (pureW specVo):=by
 refine pureW_ok (Nat.le_of_ble_eq_true (by kernel_rfl)) fun args A v e=>?_
 unfold specVo at e
 split at e
 · simp only [Option.some.injEq,Prod.mk.injEq] at e; obtain ⟨rfl,rfl⟩:=e
   exact ⟨rfl,by kernel_rfl,fun hA=>pure_calls mo po Tryz.func67 (by kernel_rfl) (by kernel_rfl) rfl (tgVo _ (hA _ (by simp)))⟩
 · cases e
noncomputable abbrev W21:CtrW:=addW 67 (pureW specVo) W20
theorem W21_ok:CtrWOk Tryz.prog W21:=addW_ok one_Vo W20_ok
noncomputable abbrev cs21:CallS:=callX Tryz.prog W21 H0 1000 40
noncomputable abbrev X21:CX Tryz.prog:=CX.of mo po W21_ok H0 1000 40
noncomputable abbrev cdPi:Code:=bodyOf Tryz.f68
noncomputable abbrev rdPi:Code:=inner (inner (seqR (seqL (tailN 2 cdPi))))
def sPi (f:Bool) (ps:List (List UInt8)) (acc:List UInt8) (i:Nat):St:=stG [(0,.lst f ps.length (strs ps)),(3,.str acc),(4,iW i)] (hL []) 3
theorem pi_1 (f:Bool) (ps:List (List UInt8)):∃ L,RunIs Tryz.prog cs21 [] 1000 3 Tryz.f68 [0,3] (headN 2 cdPi) (startSt [.lst f ps.length (strs ps)] .nil 3) L
  [([],
   [],
   .to .normal (stG [(0,.lst f ps.length (strs ps)),(3,.str [])] (hL []) 3))]
 :=RunIs.of (by kernel_rfl) (by kernel_rfl) (by kernel_rfl)
theorem pi_2 (f:Bool) (ps:List (List UInt8)):∃ L,RunIs Tryz.prog cs21 [] 1000 3 Tryz.f68 [0,3,4] (seqL (seqL (tailN 2 cdPi))) (stG [(0,.lst f ps.length (strs ps)),(3,.str [])] (hL []) 3) L
  [([],
   [],
   .to .normal (sPi f ps [] 0))]
 :=RunIs.of (by kernel_rfl) (by kernel_rfl) (by kernel_rfl)
theorem pi_3 (f:Bool) (ps:List (List UInt8)) (acc p:List UInt8) (i:Nat):∃ L,RunIs Tryz.prog cs21 [(8,.split),(14,.give (.fptr [.str p])),(22,.give (.fptr [.str p])),(10,.give (iW (i+1)))] 1000 3 Tryz.f68 [0,3,4] (rdPi) (sPi f ps acc i) L
  [([((decide (Int.ofNat i < (Int.ofNat ps.length))),true)],
   [((0:Int) ≤ Int.ofNat i∧Int.ofNat i < (Int.ofNat ps.length)),((strs ps).length=ps.length * 1),(V.fptr (cellsAt (strs ps) (i * 1) 1)=V.fptr [D.str p]),(acc.length+(rawB8 (IntKind.u64.wrap (Int.ofNat p.length))).length ≤ 9223372036854775807),((0:Int) ≤ Int.ofNat i∧Int.ofNat i < (Int.ofNat ps.length)),((strs ps).length=ps.length * 1),(V.fptr (cellsAt (strs ps) (i * 1) 1)=V.fptr [D.str p]),((acc ++ rawB8 (IntKind.u64.wrap (Int.ofNat p.length))).length+p.length ≤ 9223372036854775807),(V.int IntKind.i64 (IntKind.i64.wrap (Int.ofNat i+(1:Int)))=iW (i+1))],
   .to .normal (stG [(0,.lst f (ps.length) (strs ps)),(3,.str (acc ++ rawB8 (IntKind.u64.wrap (Int.ofNat p.length)) ++ p)),(4,.int .i64 (Int.ofNat (i+1)))] (hL []) 3)),
  ([((decide (Int.ofNat i < (Int.ofNat ps.length))),false)],
   [],
   .to (.exit 0) (stG [(0,.lst f (ps.length) (strs ps)),(3,.str acc),(4,.int .i64 (Int.ofNat i))] (hL []) 3))]
 :=RunIs.of (by kernel_rfl) (by kernel_rfl) (by kernel_rfl)
theorem pi_4 (f:Bool) (ps:List (List UInt8)) (acc:List UInt8) (i:Nat):∃ L,RunIs Tryz.prog cs21 [] 1000 3 Tryz.f68 [] (seqR (tailN 2 cdPi)) (sPi f ps acc i) L
  [([],
   [],
   .ret (.str acc) (hL []) 3)]
 :=RunIs.of (by kernel_rfl) (by kernel_rfl) (by kernel_rfl)
end Go.Proofs.YtmjggdmekboefaaGreatDoor.Sha
namespace Go.Proofs.YtmjggdmekboefaaGreatDoor.Sha
open Go Go.Eng
theorem joinB_next {ps:List (List UInt8)} {i:Nat} (h:i < ps.length):joinB (ps.take (i+1))=joinB (ps.take i) ++ put8 (Int.ofNat (ps[i]).length) ++ ps[i]:=by
 unfold joinB
 rw [List.take_add_one,List.getElem?_eq_getElem h,Option.toList_some,List.flatMap_append,List.flatMap_singleton,List.append_assoc]
theorem joinB_pre (ps:List (List UInt8)) (i:Nat):(joinB (ps.take i)).length ≤ (joinB ps).length:=by
 conv=>rhs; rw [← List.take_append_drop i ps]
 unfold joinB
 rw [List.flatMap_append,List.length_append]; omega
theorem tgPi (f:Bool) (ps:List (List UInt8)) (hp:ps.length ≤ 1000000) (hj:(joinB ps).length ≤ 1000000000):TG Tryz.prog 3 Tryz.f68.ntmps cdPi (startSt [.lst f ps.length (strs ps)] .nil 3) (RetG Tryz.prog 3 Tryz.f68 fun u _ _=>u= .str (joinB ps)):=by
 obtain ⟨L1,hr1⟩:=pi_1 f ps
 refine TG_isN1 2 X21 mo (by kernel_rfl) hr1 all_nil ?_
 refine TG_seq' (by kernel_rfl) ?_
 refine TG_seq' (by kernel_rfl) ?_
 obtain ⟨L2,hr2⟩:=pi_2 f ps
 refine TG_is X21 mo anyR (by kernel_rfl) hr2 fun g hg _=>?_
 rw [List.mem_singleton] at hg; subst hg
 refine ⟨all_nil,fun s' hs'=>?_⟩
 refine TG_forN 0 ps.length (fun i=>sPi f ps (joinB (ps.take i)) i) (by kernel_rfl) (by kernel_rfl) (.norm hs') (fun i hi=>?_) ?_
 · have hn:=joinB_next hi
   have h1:=joinB_pre ps (i+1)
   have hat:=congrArg V.fptr (cellsAt_strs (List.getElem?_eq_getElem hi))
   have hx:IntKind.u64.wrap (Int.ofNat ps[i].length)=Int.ofNat ps[i].length:=by
    have:ps[i].length ≤ 1000000000:=by rw [hn,List.length_append] at h1; omega
    show Int.ofNat ps[i].length % 18446744073709551616=_
    rw [hOn]; omega
   have hlp:ps[i].length ≤ 1000000000:=by rw [hn,List.length_append] at h1; omega
   obtain ⟨L3,hr3⟩:=pi_3 f ps (joinB (ps.take i)) ps[i] i
   refine TG_is X21 mo anyR (by kernel_rfl) hr3 fun g hg hc=>?_
   have h8:∀ x,(rawB8 x).length=8:=fun _=>rfl
   have h8':(put8 (Int.ofNat ps[i].length)).length=8:=rfl
   rcases mem2 hg with rfl | rfl
   · rw [hn,List.length_append,List.length_append] at h1
     refine ⟨fm (⟨Int.natCast_nonneg _,by rw [hOn,hOn]; omega⟩) (fm (by rw [strs_len]; omega) (fm (hat) (fm (by rw [h8]; omega) (fm (⟨Int.natCast_nonneg _,by rw [hOn,hOn]; omega⟩) (fm (by rw [strs_len]; omega) (fm (hat) (fm (by rw [List.length_append,h8]; omega) (fm1 (vadd (by rw [hOn]; omega) (by omega)))))))))),fun s1 hs1=>?_⟩
     rw [hx,big8 _ (by rw [hOn]; omega) (by rw [hOn]; omega)] at hs1
     show Goes _ _ _ _ (sPi f ps (joinB (ps.take (i+1))) (i+1))
     rw [hn]
     exact .norm hs1
   · exact absurd (of_decide_eq_false (hc _ (List.mem_singleton.2 rfl))) (by rw [hOn,hOn]; omega)
 · obtain ⟨L3,hr3⟩:=pi_3 f ps (joinB (ps.take ps.length)) [] ps.length
   refine TG_is X21 mo anyR (by kernel_rfl) hr3 fun g hg hc=>?_
   rcases mem2 hg with rfl | rfl
   · exact absurd (of_decide_eq_true (hc _ (List.mem_singleton.2 rfl))) (by rw [hOn]; omega)
   refine ⟨all_nil,fun s1 hs1=>⟨by simp,?_⟩⟩
   rw [outOf_exit]
   refine TG_norm hs1 ?_
   obtain ⟨L4,hr4⟩:=pi_4 f ps (joinB (ps.take ps.length)) ps.length
   refine TG_ret X21 mo _ (by kernel_rfl) hr4 fun g hg _=>?_
   rw [List.mem_singleton] at hg; subst hg
   exact ⟨all_nil,_,_,_,rfl,by rw [List.take_length]⟩
def specPi:List D→Option (List Prop × V)
 | [.lst n cs]=>some ([cs=strs (strL cs),n=(strL cs).length,n ≤ 1000000,(joinB (strL cs)).length ≤ 1000000000],.str (joinB (strL cs)))
 | _=>none
theorem one_Pi:OneW Tryz.prog 68 (Go.Eng.dW specPi):=by
 refine dW_ok (Nat.le_of_ble_eq_true (by kernel_rfl)) fun args A v e hA=>?_
 unfold specPi at e
 split at e
 case h_2=>cases e
 rename_i n cs
 simp only [Option.some.injEq,Prod.mk.injEq] at e
 obtain ⟨rfl,rfl⟩:=e
 have e1:cs=strs (strL cs):=hA _ (by simp)
 have e2:n=(strL cs).length:=hA (n=(strL cs).length) (by simp)
 have e3:n ≤ 1000000:=hA (n ≤ 1000000) (by simp)
 have e4:(joinB (strL cs)).length ≤ 1000000000:=hA ((joinB (strL cs)).length ≤ 1000000000) (by simp)
 generalize strL cs=ps at *
 subst e1 e2
 exact deep_calls mo po Tryz.func68 (by kernel_rfl) (by kernel_rfl) rfl rfl (TG_mono (tgPi false ps e3 e4) fun y s h=>RetG_self h)
noncomputable abbrev W22:CtrW:=addW 68 (Go.Eng.dW specPi) W21
theorem W22_ok:CtrWOk Tryz.prog W22:=addW_ok one_Pi W21_ok
noncomputable abbrev cs22:CallS:=callX Tryz.prog W22 H0 1000 40
noncomputable abbrev X22:CX Tryz.prog:=CX.of mo po W22_ok H0 1000 40
end Go.Proofs.YtmjggdmekboefaaGreatDoor.Sha
namespace Go.Proofs.YtmjggdmekboefaaGreatDoor.Sha
open Go Go.Eng
theorem jn_1 (ps:List (List UInt8)):∃ L,RunIs Tryz.prog cs22 [] 1000 3 Tryz.f49 [] (bodyOf Tryz.f49) (startSt [.lst false ps.length (strs ps)] .nil 3) L
  [([],
   [(strs ps=strs (strL (strs ps))),(ps.length=(strL (strs ps)).length),(ps.length ≤ 1000000),((joinB (strL (strs ps))).length ≤ 1000000000),((joinB (strL (strs ps))).length ≤ 1000000000)],
   .ret (.str (sha (joinB (strL (strs ps))))) (hL []) 3)]
 :=RunIs.of (by kernel_rfl) (by kernel_rfl) (by kernel_rfl)
end Go.Proofs.YtmjggdmekboefaaGreatDoor.Sha
namespace Go.Proofs.YtmjggdmekboefaaGreatDoor.Sha
open Go Go.Eng
def specJr:List D→Option (List Prop × V)
 | [.lst n cs]=>some ([cs=strs (strL cs),n=(strL cs).length,n ≤ 1000000,(joinB (strL cs)).length ≤ 1000000000],.str (sha (joinB (strL cs))))
 | _=>none
theorem jrD (args:List D) (A:List Prop) (v:V) (e:specJr args=some (A,v)) (hA:∀ a ∈ A,a):DeepTo Tryz.prog 49 (args.map D.toV) v:=by
 unfold specJr at e
 split at e
 case h_2=>cases e
 rename_i n cs
 simp only [Option.some.injEq,Prod.mk.injEq] at e
 obtain ⟨rfl,rfl⟩:=e
 have e1:cs=strs (strL cs):=hA _ (by simp)
 have e2:n=(strL cs).length:=hA (n=(strL cs).length) (by simp)
 have e3:n ≤ 1000000:=hA (n ≤ 1000000) (by simp)
 have e4:(joinB (strL cs)).length ≤ 1000000000:=hA ((joinB (strL cs)).length ≤ 1000000000) (by simp)
 generalize strL cs=ps at *
 subst e1 e2
 refine deep_calls mo po Tryz.func49 (code:=bodyOf Tryz.f49) (by kernel_rfl) (by kernel_rfl) rfl rfl (TG_mono (Q1:=RetG Tryz.prog 3 Tryz.f49 fun u _ _=>u= .str (sha (joinB ps))) ?_ fun y s h=>RetG_self h)
 obtain ⟨L,hr⟩:=jn_1 ps
 simp only [strL_strs] at hr
 refine TG_ret X22 mo _ (by kernel_rfl) hr fun g hg _=>?_
 rw [List.mem_singleton] at hg; subst hg
 exact ⟨fm trivial (fm trivial (fm e3 (fm e4 (fm1 e4)))),_,_,_,rfl,rfl⟩
theorem one_Jr:OneW Tryz.prog 49 (Go.Eng.dW specJr):=dW_ok (Nat.le_of_ble_eq_true (by kernel_rfl)) jrD
end Go.Proofs.YtmjggdmekboefaaGreatDoor.Sha
namespace Go.Proofs.YtmjggdmekboefaaGreatDoor
open Go Go.Eng
noncomputable abbrev cdRu:Code:=bodyOf Tryz.f38
noncomputable abbrev tlRu:Code:=tailN 3 cdRu
theorem ru_1 (n:Int):∃ L,RunIs Tryz.prog (csH noW []) [] 1000 3 Tryz.f38 [3,4] (headN 3 cdRu) (startSt [.int .i64 n] .nil 3) L
  [([],
   [],
   .to .normal (stG [(3,.slc (some (3,0)) 0 0 1),(4,.int .u64 (IntKind.u64.wrap n))] (hL [(3,.cells [])]) 4))]
 :=RunIs.of (by kernel_rfl) (by kernel_rfl) (by kernel_rfl)
theorem rp_1 (x:Int):∃ L,RunIs Tryz.prog (csH noW []) [] 1000 3 Tryz.f40 [] (bodyOf Tryz.f40) (startSt [.int .i64 x,.int .i64 1] .nil 3) L
  [([],
   [([UInt8.ofNat (IntKind.u8.wrap ((IntKind.u64.wrap x).tmod (256:Int))).toNat].length+0 ≤ 9223372036854775807),((256:Int) ≠ (0:Int))],
   .ret (.str ([UInt8.ofNat (IntKind.u8.wrap ((IntKind.u64.wrap x).tmod (256:Int))).toNat] ++ ([]:List UInt8))) (hL []) 3)]
 :=RunIs.of (by kernel_rfl) (by kernel_rfl) (by kernel_rfl)
def sU0 (u:Int):St:=stG [(3,.slc (some (3,0)) 0 0 1),(4,.int .u64 u)] (hL [(3,.cells [])]) 4
def sU1 (ks:List Int) (u:Int):St:=stG [(3,.slc (some (3,0)) ks.length ks.length 1),(4,.int .u64 u)] (hL [(3,.own .u8 ks)]) 4
theorem ru_2 (u:Int):∃ L,RunIs Tryz.prog (csH noW []) [(9,.split)] 1000 3 Tryz.f38 [3,4] (inner (inner (seqL tlRu))) (sU0 u) L
  [([((decide (u ≥ (128:Int))),true)],
   [((128:Int) ≠ (0:Int))],
   .to .normal (stG [(3,.slc (some (3,0)) 1 1 1),(4,.int .u64 (IntKind.u64.wrap (u.tdiv (128:Int))))] (hL [(3,.cells [.int .u8 (IntKind.u8.wrap (IntKind.u64.wrap (u.tmod (128:Int)+(128:Int))))])]) 4)),
  ([((decide (u ≥ (128:Int))),false)],
   [],
   .to (.exit 0) (stG [(3,.slc (some (3,0)) 0 0 1),(4,.int .u64 u)] (hL [(3,.cells [])]) 4))]
 :=RunIs.of (by kernel_rfl) (by kernel_rfl) (by kernel_rfl)
theorem ru_3 (u:Int) (ks:List Int):∃ L,RunIs Tryz.prog (csH noW []) [(9,.split)] 1000 3 Tryz.f38 [3,4] (inner (inner (seqL tlRu))) (sU1 ks u) L
  [([((decide (u ≥ (128:Int))),true)],
   [(0 < ks.length),(0+ks.length * 1 ≤ ks.length),(0 < 1),(roomy (ks.length+1) 1 1=true),((128:Int) ≠ (0:Int))],
   .to .normal (stG [(3,.slc (some (3,0)) (ks.length+1) (ks.length+1) 1),(4,.int .u64 (IntKind.u64.wrap (u.tdiv (128:Int))))] (hL [(3,.own .u8 (List.take (ks.length * 1) (List.drop 0 ks) ++ [IntKind.u8.wrap (IntKind.u64.wrap (u.tmod (128:Int)+(128:Int)))]))]) 4)),
  ([((decide (u ≥ (128:Int))),false)],
   [],
   .to (.exit 0) (stG [(3,.slc (some (3,0)) (ks.length) (ks.length) 1),(4,.int .u64 u)] (hL [(3,.own .u8 ks)]) 4))]
 :=RunIs.of (by kernel_rfl) (by kernel_rfl) (by kernel_rfl)
theorem ru_4 (u:Int):∃ L,RunIs Tryz.prog (csH noW []) [] 1000 3 Tryz.f38 [] (seqR tlRu) (sU0 u) L
  [([],
   [],
   .ret (.str ([UInt8.ofNat (IntKind.u8.wrap u).toNat])) (hL []) 3)]
 :=RunIs.of (by kernel_rfl) (by kernel_rfl) (by kernel_rfl)
theorem ru_5 (u:Int) (ks:List Int):∃ L,RunIs Tryz.prog (csH noW []) [] 1000 3 Tryz.f38 [] (seqR tlRu) (sU1 ks u) L
  [([],
   [(0 < ks.length),(0+ks.length * 1 ≤ ks.length),(0 < 1),(roomy (ks.length+1) 1 1=true),(0+(ks.length+1) ≤ (List.take (ks.length * 1) (List.drop 0 ks) ++ [IntKind.u8.wrap u]).length)],
   .ret (.str (strI (List.take (ks.length+1) (List.drop 0 (List.take (ks.length * 1) (List.drop 0 ks) ++ [IntKind.u8.wrap u]))))) (hL []) 3)]
 :=RunIs.of (by kernel_rfl) (by kernel_rfl) (by kernel_rfl)
end Go.Proofs.YtmjggdmekboefaaGreatDoor
namespace Go.Proofs.YtmjggdmekboefaaGreatDoor
open Go Go.Eng
noncomputable abbrev csQ (l:List (Nat × List (Nat × Fix))):CallS:=csH W1 l
noncomputable abbrev XQ (l:List (Nat × List (Nat × Fix))):CX Tryz.prog:=XH W1_ok l
noncomputable abbrev cdRV:Code:=bodyOf Tryz.f43
noncomputable abbrev tlRV:Code:=tailN 3 cdRV
noncomputable abbrev lpRV:Code:=seqL tlRV
noncomputable abbrev bdRV:Code:=inner (inner (seqR lpRV))
abbrev rdP:V:=.ptr (some (3,0))
abbrev rdC (s:List UInt8) (a:Nat) (f:Bool):List V:=[.str s,.int .i64 (Int.ofNat a),.bool f]
def uS (u:Int) (b:UInt8) (i:Nat):Int:=IntKind.u64.wrap (Int.ofNat (BitVec.ofInt 64 u ||| BitVec.ofInt 64 (IntKind.u64.wrap (IntKind.u64.wrap (IntKind.u8.wrap (Int.ofNat (BitVec.ofInt 8 (Int.ofNat b.toNat) &&& BitVec.ofInt 8 (127:Int)).toNat)) * (2:Int) ^ min (Int.ofNat (7 * i)).toNat 64))).toNat)
def sRV (s:List UInt8) (a:Nat) (u:Int) (m i:Nat):St:=stG [(0,rdP),(3,.int .u64 u),(16,.int .i64 (Int.ofNat m)),(17,.int .i64 (Int.ofNat i))] (hP (rdC s a false)) 4
theorem rv1_t (s:List UInt8) (a:Int):∃ L,RunIs Tryz.prog (csQ []) [] 1000 4 Tryz.f43 [] (cdRV) (startSt [rdP] (hP [.str s,.int .i64 a,.bool true]) 4) L
  [([],
   [],
   .ret (.int .i64 0) (hL [(3,.cells [.str s,.int .i64 a,.bool true])]) 4)]
 :=RunIs.of (by kernel_rfl) (by kernel_rfl) (by kernel_rfl)
theorem rv1_h (s:List UInt8) (a:Nat):∃ L,RunIs Tryz.prog (csQ []) [] 1000 4 Tryz.f43 [0,3] (headN 3 cdRV) (startSt [rdP] (hP (rdC s a false)) 4) L
  [([],
   [],
   .to .normal (stG [(0,.ptr (some (3,0))),(3,.int .u64 0)] (hL [(3,.cells [.str s,.int .i64 (Int.ofNat a),.bool false])]) 4))]
 :=RunIs.of (by kernel_rfl) (by kernel_rfl) (by kernel_rfl)
theorem rv1_i (s:List UInt8) (a m:Nat):∃ L,RunIs Tryz.prog (csQ []) [(16,.give (.int .i64 (Int.ofNat m))),(17,.give (.int .i64 (Int.ofNat 0)))] 1000 4 Tryz.f43 [0,3,16,17] (seqL lpRV) (stG [(0,rdP),(3,.int .u64 0)] (hP (rdC s a false)) 4) L
  [([],
   [(V.int IntKind.i64 (if IntKind.i64.wrap ((Int.ofNat s.length) - Int.ofNat a) < (10:Int) then IntKind.i64.wrap ((Int.ofNat s.length) - Int.ofNat a) else (10:Int))=V.int IntKind.i64 (Int.ofNat m)),(V.int IntKind.i64 (0:Int)=V.int IntKind.i64 (0:Int))],
   .to .normal (stG [(0,.ptr (some (3,0))),(3,.int .u64 0),(16,.int .i64 (Int.ofNat m)),(17,.int .i64 0)] (hL [(3,.cells [.str s,.int .i64 (Int.ofNat a),.bool false])]) 4))]
 :=RunIs.of (by kernel_rfl) (by kernel_rfl) (by kernel_rfl)
abbrev rv1_bA1 (i:Nat) (u:Int) (b:UInt8):Prop:=V.int IntKind.u64 (IntKind.u64.wrap (Int.ofNat (BitVec.ofInt 64 u ||| BitVec.ofInt 64 (IntKind.u64.wrap (IntKind.u64.wrap (IntKind.u8.wrap (Int.ofNat (BitVec.ofInt 8 (Int.ofNat b.toNat) &&& BitVec.ofInt 8 (127:Int)).toNat)) * (2:Int) ^ min (7 * i) 64))).toNat))=V.int IntKind.u64 (uS u b i)
abbrev rv1_bA2 (s:List UInt8) (a i:Nat) (b:UInt8):Prop:=V.int IntKind.u8 (Int.ofNat (s.getD (a+i) (0:UInt8)).toNat)=V.int IntKind.u8 (Int.ofNat b.toNat)
theorem rv1_b (s:List UInt8) (a m i:Nat) (u:Int) (b:UInt8):∃ L,RunIs Tryz.prog (csQ []) [(18,.split),(29,.give (.int .i64 (Int.ofNat (a+i)))),(30,.give (.int .u8 (Int.ofNat b.toNat))),(36,.give (.int .i64 (Int.ofNat (7 * i)))),(38,.give (.int .u64 (uS u b i))),(40,.split),(43,.split),(47,.split),(50,.split),(54,.split),(61,.give (.int .i64 (Int.ofNat (a+(i+1))))),(66,.give (.int .i64 (Int.ofNat (i+1))))] 1000 4 Tryz.f43 [0,3,16,17] (bdRV) (sRV s a u m i) L
  [([((decide (Int.ofNat i < Int.ofNat m)),true),((decide (Int.ofNat b.toNat ≥ (128:Int))),true)],
   [ieq (Int.ofNat a+Int.ofNat i) (a+i),((0:Int) ≤ Int.ofNat (a+i)∧(a+i) < s.length),rv1_bA2 s a i b,ieq ((7:Int) * Int.ofNat i) (7 * i),rv1_bA1 i u b,ieq (Int.ofNat i+(1:Int)) (i+1)],
   .to .normal (stG [(0,.ptr (some (3,0))),(3,.int .u64 (uS u b i)),(16,.int .i64 (Int.ofNat m)),(17,.int .i64 (Int.ofNat (i+1)))] (hL [(3,.cells [.str s,.int .i64 (Int.ofNat a),.bool false])]) 4)),
  ([((decide (Int.ofNat i < Int.ofNat m)),true),((decide (Int.ofNat b.toNat ≥ (128:Int))),false),((decide (Int.ofNat i > (0:Int))),true),((Int.ofNat b.toNat == (0:Int)),true),(true,true)],
   [ieq (Int.ofNat a+Int.ofNat i) (a+i),((0:Int) ≤ Int.ofNat (a+i)∧(a+i) < s.length),rv1_bA2 s a i b,ieq ((7:Int) * Int.ofNat i) (7 * i),rv1_bA1 i u b],
   .to (.exit 0) (stG [(0,.ptr (some (3,0))),(3,.int .u64 (uS u b i)),(16,.int .i64 (Int.ofNat m)),(17,.int .i64 (Int.ofNat i))] (hL [(3,.cells [.str s,.int .i64 (Int.ofNat a),.bool false])]) 4)),
  ([((decide (Int.ofNat i < Int.ofNat m)),true),((decide (Int.ofNat b.toNat ≥ (128:Int))),false),((decide (Int.ofNat i > (0:Int))),true),((Int.ofNat b.toNat == (0:Int)),true),(true,false)],
   [ieq (Int.ofNat a+Int.ofNat i) (a+i),((0:Int) ≤ Int.ofNat (a+i)∧(a+i) < s.length),rv1_bA2 s a i b,ieq ((7:Int) * Int.ofNat i) (7 * i),rv1_bA1 i u b,ieq (Int.ofNat a+IntKind.i64.wrap (Int.ofNat i+(1:Int))) (a+(i+1))],
   .ret (.int .i64 (IntKind.i64.wrap (uS u b i))) (hL [(3,.cells [.str s,.int .i64 (Int.ofNat (a+(i+1))),.bool false])]) 4),
  ([((decide (Int.ofNat i < Int.ofNat m)),true),((decide (Int.ofNat b.toNat ≥ (128:Int))),false),((decide (Int.ofNat i > (0:Int))),true),((Int.ofNat b.toNat == (0:Int)),false),((Int.ofNat i == (9:Int)),true),((decide (Int.ofNat b.toNat > (1:Int))),true)],
   [ieq (Int.ofNat a+Int.ofNat i) (a+i),((0:Int) ≤ Int.ofNat (a+i)∧(a+i) < s.length),rv1_bA2 s a i b,ieq ((7:Int) * Int.ofNat i) (7 * i),rv1_bA1 i u b],
   .to (.exit 0) (stG [(0,.ptr (some (3,0))),(3,.int .u64 (uS u b i)),(16,.int .i64 (Int.ofNat m)),(17,.int .i64 (Int.ofNat i))] (hL [(3,.cells [.str s,.int .i64 (Int.ofNat a),.bool false])]) 4)),
  ([((decide (Int.ofNat i < Int.ofNat m)),true),((decide (Int.ofNat b.toNat ≥ (128:Int))),false),((decide (Int.ofNat i > (0:Int))),true),((Int.ofNat b.toNat == (0:Int)),false),((Int.ofNat i == (9:Int)),true),((decide (Int.ofNat b.toNat > (1:Int))),false)],
   [ieq (Int.ofNat a+Int.ofNat i) (a+i),((0:Int) ≤ Int.ofNat (a+i)∧(a+i) < s.length),rv1_bA2 s a i b,ieq ((7:Int) * Int.ofNat i) (7 * i),rv1_bA1 i u b,ieq (Int.ofNat a+IntKind.i64.wrap (Int.ofNat i+(1:Int))) (a+(i+1))],
   .ret (.int .i64 (IntKind.i64.wrap (uS u b i))) (hL [(3,.cells [.str s,.int .i64 (Int.ofNat (a+(i+1))),.bool false])]) 4),
  ([((decide (Int.ofNat i < Int.ofNat m)),true),((decide (Int.ofNat b.toNat ≥ (128:Int))),false),((decide (Int.ofNat i > (0:Int))),true),((Int.ofNat b.toNat == (0:Int)),false),((Int.ofNat i == (9:Int)),false),(false,true)],
   [ieq (Int.ofNat a+Int.ofNat i) (a+i),((0:Int) ≤ Int.ofNat (a+i)∧(a+i) < s.length),rv1_bA2 s a i b,ieq ((7:Int) * Int.ofNat i) (7 * i),rv1_bA1 i u b],
   .to (.exit 0) (stG [(0,.ptr (some (3,0))),(3,.int .u64 (uS u b i)),(16,.int .i64 (Int.ofNat m)),(17,.int .i64 (Int.ofNat i))] (hL [(3,.cells [.str s,.int .i64 (Int.ofNat a),.bool false])]) 4)),
  ([((decide (Int.ofNat i < Int.ofNat m)),true),((decide (Int.ofNat b.toNat ≥ (128:Int))),false),((decide (Int.ofNat i > (0:Int))),true),((Int.ofNat b.toNat == (0:Int)),false),((Int.ofNat i == (9:Int)),false),(false,false)],
   [ieq (Int.ofNat a+Int.ofNat i) (a+i),((0:Int) ≤ Int.ofNat (a+i)∧(a+i) < s.length),rv1_bA2 s a i b,ieq ((7:Int) * Int.ofNat i) (7 * i),rv1_bA1 i u b,ieq (Int.ofNat a+IntKind.i64.wrap (Int.ofNat i+(1:Int))) (a+(i+1))],
   .ret (.int .i64 (IntKind.i64.wrap (uS u b i))) (hL [(3,.cells [.str s,.int .i64 (Int.ofNat (a+(i+1))),.bool false])]) 4),
  ([((decide (Int.ofNat i < Int.ofNat m)),true),((decide (Int.ofNat b.toNat ≥ (128:Int))),false),((decide (Int.ofNat i > (0:Int))),false),(false,true),(true,true)],
   [ieq (Int.ofNat a+Int.ofNat i) (a+i),((0:Int) ≤ Int.ofNat (a+i)∧(a+i) < s.length),rv1_bA2 s a i b,ieq ((7:Int) * Int.ofNat i) (7 * i),rv1_bA1 i u b],
   .to (.exit 0) (stG [(0,.ptr (some (3,0))),(3,.int .u64 (uS u b i)),(16,.int .i64 (Int.ofNat m)),(17,.int .i64 (Int.ofNat i))] (hL [(3,.cells [.str s,.int .i64 (Int.ofNat a),.bool false])]) 4)),
  ([((decide (Int.ofNat i < Int.ofNat m)),true),((decide (Int.ofNat b.toNat ≥ (128:Int))),false),((decide (Int.ofNat i > (0:Int))),false),(false,true),(true,false)],
   [ieq (Int.ofNat a+Int.ofNat i) (a+i),((0:Int) ≤ Int.ofNat (a+i)∧(a+i) < s.length),rv1_bA2 s a i b,ieq ((7:Int) * Int.ofNat i) (7 * i),rv1_bA1 i u b,ieq (Int.ofNat a+IntKind.i64.wrap (Int.ofNat i+(1:Int))) (a+(i+1))],
   .ret (.int .i64 (IntKind.i64.wrap (uS u b i))) (hL [(3,.cells [.str s,.int .i64 (Int.ofNat (a+(i+1))),.bool false])]) 4),
  ([((decide (Int.ofNat i < Int.ofNat m)),true),((decide (Int.ofNat b.toNat ≥ (128:Int))),false),((decide (Int.ofNat i > (0:Int))),false),(false,false),((Int.ofNat i == (9:Int)),true),((decide (Int.ofNat b.toNat > (1:Int))),true)],
   [ieq (Int.ofNat a+Int.ofNat i) (a+i),((0:Int) ≤ Int.ofNat (a+i)∧(a+i) < s.length),rv1_bA2 s a i b,ieq ((7:Int) * Int.ofNat i) (7 * i),rv1_bA1 i u b],
   .to (.exit 0) (stG [(0,.ptr (some (3,0))),(3,.int .u64 (uS u b i)),(16,.int .i64 (Int.ofNat m)),(17,.int .i64 (Int.ofNat i))] (hL [(3,.cells [.str s,.int .i64 (Int.ofNat a),.bool false])]) 4)),
  ([((decide (Int.ofNat i < Int.ofNat m)),true),((decide (Int.ofNat b.toNat ≥ (128:Int))),false),((decide (Int.ofNat i > (0:Int))),false),(false,false),((Int.ofNat i == (9:Int)),true),((decide (Int.ofNat b.toNat > (1:Int))),false)],
   [ieq (Int.ofNat a+Int.ofNat i) (a+i),((0:Int) ≤ Int.ofNat (a+i)∧(a+i) < s.length),rv1_bA2 s a i b,ieq ((7:Int) * Int.ofNat i) (7 * i),rv1_bA1 i u b,ieq (Int.ofNat a+IntKind.i64.wrap (Int.ofNat i+(1:Int))) (a+(i+1))],
   .ret (.int .i64 (IntKind.i64.wrap (uS u b i))) (hL [(3,.cells [.str s,.int .i64 (Int.ofNat (a+(i+1))),.bool false])]) 4),
  ([((decide (Int.ofNat i < Int.ofNat m)),true),((decide (Int.ofNat b.toNat ≥ (128:Int))),false),((decide (Int.ofNat i > (0:Int))),false),(false,false),((Int.ofNat i == (9:Int)),false),(false,true)],
   [ieq (Int.ofNat a+Int.ofNat i) (a+i),((0:Int) ≤ Int.ofNat (a+i)∧(a+i) < s.length),rv1_bA2 s a i b,ieq ((7:Int) * Int.ofNat i) (7 * i),rv1_bA1 i u b],
   .to (.exit 0) (stG [(0,.ptr (some (3,0))),(3,.int .u64 (uS u b i)),(16,.int .i64 (Int.ofNat m)),(17,.int .i64 (Int.ofNat i))] (hL [(3,.cells [.str s,.int .i64 (Int.ofNat a),.bool false])]) 4)),
  ([((decide (Int.ofNat i < Int.ofNat m)),true),((decide (Int.ofNat b.toNat ≥ (128:Int))),false),((decide (Int.ofNat i > (0:Int))),false),(false,false),((Int.ofNat i == (9:Int)),false),(false,false)],
   [ieq (Int.ofNat a+Int.ofNat i) (a+i),((0:Int) ≤ Int.ofNat (a+i)∧(a+i) < s.length),rv1_bA2 s a i b,ieq ((7:Int) * Int.ofNat i) (7 * i),rv1_bA1 i u b,ieq (Int.ofNat a+IntKind.i64.wrap (Int.ofNat i+(1:Int))) (a+(i+1))],
   .ret (.int .i64 (IntKind.i64.wrap (uS u b i))) (hL [(3,.cells [.str s,.int .i64 (Int.ofNat (a+(i+1))),.bool false])]) 4),
  ([((decide (Int.ofNat i < Int.ofNat m)),false)],
   [],
   .to (.exit 0) (stG [(0,.ptr (some (3,0))),(3,.int .u64 u),(16,.int .i64 (Int.ofNat m)),(17,.int .i64 (Int.ofNat i))] (hL [(3,.cells [.str s,.int .i64 (Int.ofNat a),.bool false])]) 4))]
 :=RunIs.of (by kernel_rfl) (by kernel_rfl) (by kernel_rfl)
theorem rv1_e (s:List UInt8) (a m i:Nat) (u:Int):∃ L,RunIs Tryz.prog (csQ []) [] 1000 4 Tryz.f43 [] (seqR tlRV) (sRV s a u m i) L
  [([],
   [],
   .ret (.int .i64 0) (hL [(3,.cells [.str s,.int .i64 (Int.ofNat a),.bool true])]) 4)]
 :=RunIs.of (by kernel_rfl) (by kernel_rfl) (by kernel_rfl)
end Go.Proofs.YtmjggdmekboefaaGreatDoor
namespace Go.Proofs.YtmjggdmekboefaaGreatDoor
open Go Go.Eng
theorem gtok:GtOk:=by
 refine ⟨by decide,fun j hj=>?_,Nat.le_of_ble_eq_true rfl⟩
 rcases j with _ | _ | _ | j
 · exact ⟨(0,0),by simp [gtab],rfl⟩
 · exact ⟨(1,1),by simp [gtab],rfl⟩
 · exact ⟨(2,2),by simp [gtab],rfl⟩
 · have:gN=3:=rfl
   omega
def rvL (s:List UInt8) (a:Nat):Nat→Nat→Int→Option (Int × Nat)
 | 0,_,_=>none
 | k+1,i,u=>if 128 ≤ (s.getD (a+i) 0).toNat then rvL s a k (i+1) (uS u (s.getD (a+i) 0) i)
   else if (0 < i∧(s.getD (a+i) 0).toNat=0) ∨ (i=9∧1 < (s.getD (a+i) 0).toNat) then none else some (IntKind.i64.wrap (uS u (s.getD (a+i) 0) i),i+1)
def rdM (s:List UInt8) (a:Nat):Nat:=min 10 (s.length - a)
def rdVar (s:List UInt8) (a:Nat):Option (Int × Nat):=rvL s a (rdM s a) 0 0
def rdV (s:List UInt8) (a:Nat):Int × Nat × Bool:=match rdVar s a with
 | some (v,k)=>(v,a+k,false)
 | none=>(0,a,true)
theorem wrap_nat {n:Nat} (h:n ≤ 9000000000000000000):IntKind.i64.wrap (n:Int)=(n:Int):=wrap_id (by omega) (by omega)
abbrev RRV (s:List UInt8) (a:Nat) (v:V) (h:Tr O) (n:Nat):Prop:=v= .int .i64 (rdV s a).1∧h=hP (rdC s (rdV s a).2.1 (rdV s a).2.2)∧n=4
theorem tgRV (s:List UInt8) (a:Nat) (ha:a ≤ s.length) (hs:s.length ≤ 1000000000):TG Tryz.prog 4 Tryz.f43.ntmps cdRV (startSt [rdP] (hP (rdC s a false)) 4) (RetG Tryz.prog 4 Tryz.f43 (RRV s a)):=by
 obtain ⟨L1,hr1⟩:=rv1_h s a
 refine TG_isN1 3 (XQ []) mo (by kernel_rfl) hr1 all_nil ?_
 refine TG_seq' (by kernel_rfl) ?_
 refine TG_seq' (by kernel_rfl) ?_
 obtain ⟨L2,hr2⟩:=rv1_i s a (rdM s a)
 have hm:rdM s a ≤ 10∧rdM s a ≤ s.length - a:=⟨Nat.min_le_left _ _,Nat.min_le_right _ _⟩
 have hmm:(if IntKind.i64.wrap ((Int.ofNat s.length) - Int.ofNat a) < (10:Int) then IntKind.i64.wrap ((Int.ofNat s.length) - Int.ofNat a) else (10:Int))=Int.ofNat (rdM s a):=by
  have hw:IntKind.i64.wrap ((Int.ofNat s.length) - Int.ofNat a)=((s.length - a:Nat):Int):=by
   have:(Int.ofNat s.length) - Int.ofNat a=((s.length - a:Nat):Int):=by rw [hOn,hOn]; omega
   rw [this]
   exact wrap_nat (by omega)
  rw [hw,hOn]
  unfold rdM
  split <;> omega
 refine TG_is (XQ []) mo anyR (by kernel_rfl) hr2 fun g hg _=>?_
 rw [List.mem_singleton] at hg; subst hg
 refine ⟨List.forall_mem_cons.2 ⟨by rw [hmm],List.forall_mem_cons.2 ⟨rfl,all_nil⟩⟩,fun s' hs'=>?_⟩
 have hend:∀ u i,rdVar s a=none→TG Tryz.prog 4 Tryz.f43.ntmps (seqR tlRV) (sRV s a u (rdM s a) i) (RetG Tryz.prog 4 Tryz.f43 (RRV s a)):=by
  intro u i hn
  obtain ⟨L,hr⟩:=rv1_e s a (rdM s a) i u
  refine TG_ret (XQ []) mo _ (by kernel_rfl) hr fun g hg _=>?_
  rw [List.mem_singleton] at hg; subst hg
  refine ⟨all_nil,_,_,_,rfl,?_⟩
  unfold RRV rdV; rw [hn]
  exact ⟨rfl,rfl,rfl⟩
 refine TG_whileN (α:=Nat × Int) 0 (fun x=>rdM s a - x.1) (fun x=>x.1 ≤ rdM s a∧rdVar s a=rvL s a (rdM s a - x.1) x.1 x.2) (fun x=>sRV s a x.2 (rdM s a) x.1) (by kernel_rfl) (by kernel_rfl) (0,0) ⟨Nat.zero_le _,rfl⟩ (.norm hs') ?_
 rintro ⟨i,u⟩ ⟨hi,hv⟩
 simp only at hi hv ⊢
 have hlt128:∀ b:UInt8,b.toNat < 256:=fun b=>b.toNat_lt
 obtain ⟨L3,hr3⟩:=rv1_b s a (rdM s a) i u (s.getD (a+i) 0)
 refine TG_is (XQ []) mo (RRV s a) (by kernel_rfl) hr3 fun g hg hc=>?_
 have hA:∀ k,i < rdM s a→k < 1000000000→(0:Int) ≤ Int.ofNat (a+i)∧(Int.ofNat (a+i)).toNat < s.length:=fun k h _=>by rw [hOn]; constructor <;> omega
 by_cases hlt:i < rdM s a
 case neg=>
  have hn:rdVar s a=none:=by rw [hv,show rdM s a - i=0 by omega]; rfl
  simp only [List.mem_cons,List.not_mem_nil,or_false] at hg
  have hf:decide (Int.ofNat i < Int.ofNat (rdM s a))=false:=decide_eq_false (by rw [hOn,hOn]; omega)
  rcases hg with rfl | rfl | rfl | rfl | rfl | rfl | rfl | rfl | rfl | rfl | rfl | rfl | rfl | rfl
  all_goals first
   | (have:=hc _ (List.mem_cons_self ..); simp only [hf] at this; cases this; done)
   | skip
  exact ⟨all_nil,fun s' hs'=>by simp only [andThen,outOf_exit]; exact TG_norm hs' (hend u i hn)⟩
 case pos=>
 have e1:ieq (Int.ofNat a+Int.ofNat i) (a+i):=ieq_ok (by rw [hOn,hOn]; omega) (by omega)
 have e2:=hA 0 hlt (by decide)
 have e3:rv1_bA2 s a i (s.getD (a+i) 0):=rfl
 have e4:ieq ((7:Int) * Int.ofNat i) (7 * i):=ieq_ok (by rw [hOn]; omega) (by omega)
 have e5:rv1_bA1 i u (s.getD (a+i) 0):=rfl
 have e6:ieq (Int.ofNat i+(1:Int)) (i+1):=ieq_ok (by rw [hOn]; omega) (by omega)
 have e7:ieq (Int.ofNat a+IntKind.i64.wrap (Int.ofNat i+(1:Int))) (a+(i+1)):=by
  have:IntKind.i64.wrap (Int.ofNat i+(1:Int))=((i+1:Nat):Int):=by
   have:Int.ofNat i+1=((i+1:Nat):Int):=by rw [hOn]; omega
   rw [this]; exact wrap_nat (by omega)
  exact ieq_ok (by rw [this,hOn]; omega) (by omega)
 have hstep:rdVar s a=if 128 ≤ (s.getD (a+i) 0).toNat then rvL s a (rdM s a - (i+1)) (i+1) (uS u (s.getD (a+i) 0) i)
  else if (0 < i∧(s.getD (a+i) 0).toNat=0) ∨ (i=9∧1 < (s.getD (a+i) 0).toNat) then none else some (IntKind.i64.wrap (uS u (s.getD (a+i) 0) i),i+1):=by
  rw [hv,show rdM s a - i=(rdM s a - (i+1))+1 by omega]; rfl
 generalize s.getD (a+i) 0=b at *
 have hgo:128 ≤ b.toNat→∀ s',normG 4 [0,3,16,17] s'=some (sRV s a (uS u b i) (rdM s a) (i+1))→∃ x':Nat × Int,rdM s a - x'.1 < rdM s a - i∧(x'.1 ≤ rdM s a∧rdVar s a=rvL s a (rdM s a - x'.1) x'.1 x'.2)∧Goes Tryz.prog 4 Tryz.f43.ntmps s' (sRV s a x'.2 (rdM s a) x'.1):=fun h s' hs'=>
  ⟨(i+1,uS u b i),by simp only; omega,⟨by simp only; omega,by rw [hstep,if_pos h]⟩,.norm hs'⟩
 have hbad:¬ 128 ≤ b.toNat→((0 < i∧b.toNat=0) ∨ (i=9∧1 < b.toNat))→∀ s',normG 4 [0,3,16,17] s'=some (sRV s a (uS u b i) (rdM s a) i)→TG Tryz.prog 4 Tryz.f43.ntmps (seqR tlRV) s' (RetG Tryz.prog 4 Tryz.f43 (RRV s a)):=fun h1 h2 s' hs'=>
  TG_norm hs' (hend _ _ (by rw [hstep,if_neg h1,if_pos h2]))
 have hret:¬ 128 ≤ b.toNat→¬ ((0 < i∧b.toNat=0) ∨ (i=9∧1 < b.toNat))→RRV s a (.int .i64 (IntKind.i64.wrap (uS u b i))) (hL [(3,.cells [.str s,.int .i64 (Int.ofNat (a+(i+1))),.bool false])]) 4:=fun h1 h2=>by
  unfold RRV rdV; rw [hstep,if_neg h1,if_neg h2]
  exact ⟨rfl,rfl,rfl⟩
 have q1:(decide (Int.ofNat b.toNat ≥ (128:Int)))=decide (128 ≤ b.toNat):=by rw [hOn]; exact decide_eq_decide.2 (by omega)
 have q2:(decide (Int.ofNat i > (0:Int)))=decide (0 < i):=by rw [hOn]; exact decide_eq_decide.2 (by omega)
 have q3:(Int.ofNat b.toNat == (0:Int))=decide (b.toNat=0):=by
  rw [hOn]; by_cases h:b.toNat=0
  · simp [h]
  · rw [decide_eq_false h]; simpa using h
 have q4:(Int.ofNat i == (9:Int))=decide (i=9):=by
  rw [hOn]; by_cases h:i=9
  · simp [h]
  · rw [decide_eq_false h]
    exact beq_false_of_ne (by omega)
 have q5:(decide (Int.ofNat b.toNat > (1:Int)))=decide (1 < b.toNat):=by rw [hOn]; exact decide_eq_decide.2 (by omega)
 simp only [List.mem_cons,List.not_mem_nil,or_false] at hg
 rw [q1,q2,q3,q4,q5] at hg
 have A5:=fm e1 (fm e2 (fm e3 (fm e4 (fm1 e5))))
 have A6:=fm e1 (fm e2 (fm e3 (fm e4 (fm e5 (fm1 e6)))))
 have A7:=fm e1 (fm e2 (fm e3 (fm e4 (fm e5 (fm1 e7)))))
 have hbad:¬ 128 ≤ b.toNat→((0 < i∧b.toNat=0) ∨ (i=9∧1 < b.toNat))→∀ (Q1:St→Prop) (s':St),normG 4 [0,3,16,17] s'=some (sRV s a (uS u b i) (rdM s a) i)→andThen Q1 (outOf 0 (andThen (fun s'=>TG Tryz.prog 4 Tryz.f43.ntmps (seqR (tailN 3 cdRV)) s' (RetG Tryz.prog 4 Tryz.f43 (RRV s a))) (RetG Tryz.prog 4 Tryz.f43 (RRV s a)))) (.exit 0) s':=fun h1 h2 Q1 s' hs'=>by
  simp only [andThen,outOf_exit]; exact hbad h1 h2 s' hs'
 rcases hg with rfl | rfl | rfl | rfl | rfl | rfl | rfl | rfl | rfl | rfl | rfl | rfl | rfl | rfl
 all_goals
  simp only [List.mem_cons,List.not_mem_nil,or_false,forall_eq_or_imp,forall_eq,decide_eq_true_eq,decide_eq_false_iff_not,reduceCtorEq,and_false,and_true] at hc
 all_goals first | exact hc.elim | skip
 · exact ⟨A6,fun s' hs'=>hgo hc.2 s' hs'⟩
 · exact ⟨A5,fun s' hs'=>hbad hc.2.1 (by omega) _ s' hs'⟩
 · exact ⟨A5,fun s' hs'=>hbad hc.2.1 (by omega) _ s' hs'⟩
 all_goals first
  | exact ⟨A7,hret hc.2.1 (by omega),fun s' hs'=>hs'⟩
  | exact ⟨A5,fun s' hs'=>hbad hc.2.1 (by omega) _ s' hs'⟩
  | exact absurd hlt (by rw [hOn,hOn] at hc; omega)
end Go.Proofs.YtmjggdmekboefaaGreatDoor
namespace Go.Proofs.YtmjggdmekboefaaGreatDoor
open Go Go.Eng
def rdVf (s:List UInt8) (a:Nat) (f:Bool):Int × Nat × Bool:=if f then (0,a,true) else rdV s a
theorem rdV_at (s:List UInt8) (a:Nat) (h:a ≤ s.length):(rdV s a).2.1 ≤ s.length∧a ≤ (rdV s a).2.1:=by
 have key:∀ k i u v n,i+k ≤ s.length - a→rvL s a k i u=some (v,n)→n ≤ s.length - a:=by
  intro k
  induction k with
  | zero=>intro i u v n _ e; cases e
  | succ k ih=>
    intro i u v n hi e
    unfold rvL at e
    split at e
    · exact ih _ _ _ _ (by omega) e
    · split at e
      · cases e
      · simp only [Option.some.injEq,Prod.mk.injEq] at e; omega
 unfold rdV
 have hm:rdM s a ≤ s.length - a:=Nat.min_le_right _ _
 cases e:rdVar s a with
 | none=>exact ⟨h,Nat.le_refl _⟩
 | some p=>
   have:=key _ _ _ _ _ (by omega) e
   exact ⟨by simp only; omega,by simp only; omega⟩
def spV:List V→List V→Option (List Prop × V × List V)
 | [.str s,.int .i64 x,.bool f],[]=>some ([0 ≤ x∧x.toNat ≤ s.length,s.length ≤ 1000000000],.int .i64 (rdVf s x.toNat f).1,rdC s (rdVf s x.toNat f).2.1 (rdVf s x.toNat f).2.2)
 | _,_=>none
theorem one_RV:OneW Tryz.prog 43 (ptrW spV):=by
 refine ptrW_ok mo po gtok (Nat.le_of_ble_eq_true (by kernel_rfl)) Tryz.func43 (code:=cdRV) (by kernel_rfl) fun cs args A v cs2 e hA=>⟨?_,?_⟩
 all_goals
  unfold spV at e
  split at e
  case h_2=>cases e
  rename_i s x f
  simp only [Option.some.injEq,Prod.mk.injEq] at e; obtain ⟨rfl,rfl,rfl⟩:=e
 · kernel_rfl
 obtain ⟨a1,a2⟩:=hA _ (List.mem_cons_self ..)
 have a3:s.length ≤ 1000000000:=hA (s.length ≤ 1000000000) (by simp)
 obtain ⟨a,rfl⟩:∃ a:Nat,x=Int.ofNat a:=⟨x.toNat,(Int.toNat_of_nonneg a1).symm⟩
 have a2:a ≤ s.length:=a2
 cases f with
 | false=>exact tgRV s a a2 a3
 | true=>
   obtain ⟨L,hr⟩:=rv1_t s (Int.ofNat a)
   refine TG_ret (XQ []) mo _ (by kernel_rfl) hr fun g hg _=>?_
   rw [List.mem_singleton] at hg; subst hg
   exact ⟨all_nil,_,_,_,rfl,rfl,rfl,rfl⟩
noncomputable abbrev W17:CtrW:=addW 43 (ptrW spV) W1
theorem W17_ok:CtrWOk Tryz.prog W17:=addW_ok one_RV W1_ok
noncomputable abbrev cs17:CallS:=callX Tryz.prog W17 H0 1000 40
noncomputable abbrev X17:CX Tryz.prog:=CX.of mo po W17_ok H0 1000 40
noncomputable abbrev cdRT:Code:=bodyOf Tryz.f47
theorem rt_t (s:List UInt8) (a:Nat) (n:Int):∃ L,RunIs Tryz.prog cs17 [] 1000 4 Tryz.f47 [] (cdRT) (startSt [rdP,.int .i64 n] (hP (rdC s a true)) 4) L
  [([],
   [],
   .ret (.str []) (hL [(3,.cells [.str s,.int .i64 (Int.ofNat a),.bool true])]) 4)]
 :=RunIs.of (by kernel_rfl) (by kernel_rfl) (by kernel_rfl)
abbrev rt_fA1 (s:List UInt8) (a:Nat) (n:Int):Prop:=(0:Int) ≤ Int.ofNat (a+n.toNat)∧Int.ofNat (a+n.toNat) ≤ (Int.ofNat s.length)
theorem rt_f (s:List UInt8) (a l:Nat) (n:Int):∃ L,RunIs Tryz.prog (csQ [(66,[(14,.give (.int .i64 (Int.ofNat l)))])]) [(17,.split),(22,.split),(33,.give (.int .i64 (Int.ofNat (a+n.toNat)))),(45,.give (.int .i64 (Int.ofNat a)))] 1000 4 Tryz.f47 [] (cdRT) (startSt [rdP,.int .i64 n] (hP (rdC s a false)) 4) L
  [([((decide (n < (0:Int))),true),(true,true)],
   [],
   .ret (.str []) (hL [(3,.cells [.str s,.int .i64 (Int.ofNat a),.bool true])]) 4),
  ([((decide (n < (0:Int))),true),(true,false)],
   [ieq (Int.ofNat a+n) (a+n.toNat),ieq (Int.ofNat (a+n.toNat) - n) a,rt_fA1 s a n,((0:Int) ≤ Int.ofNat a∧Int.ofNat a ≤ (Int.ofNat (a+n.toNat)))],
   .ret (.str (List.drop a (List.take (a+n.toNat) s))) (hL [(3,.cells [.str s,.int .i64 (Int.ofNat (a+n.toNat)),.bool false])]) 4),
  ([((decide (n < (0:Int))),false),((decide (n > Int.ofNat l)),true)],
   [ieq ((Int.ofNat s.length) - Int.ofNat a) l],
   .ret (.str []) (hL [(3,.cells [.str s,.int .i64 (Int.ofNat a),.bool true])]) 4),
  ([((decide (n < (0:Int))),false),((decide (n > Int.ofNat l)),false)],
   [ieq ((Int.ofNat s.length) - Int.ofNat a) l,ieq (Int.ofNat a+n) (a+n.toNat),ieq (Int.ofNat (a+n.toNat) - n) a,rt_fA1 s a n,((0:Int) ≤ Int.ofNat a∧Int.ofNat a ≤ (Int.ofNat (a+n.toNat)))],
   .ret (.str (List.drop a (List.take (a+n.toNat) s))) (hL [(3,.cells [.str s,.int .i64 (Int.ofNat (a+n.toNat)),.bool false])]) 4)]
 :=RunIs.of (by kernel_rfl) (by kernel_rfl) (by kernel_rfl)
end Go.Proofs.YtmjggdmekboefaaGreatDoor
namespace Go.Proofs.YtmjggdmekboefaaGreatDoor
open Go Go.Eng
def rdT (s:List UInt8) (a:Nat) (f:Bool) (n:Int):List UInt8 × Nat × Bool:=if f=true ∨ n < 0 ∨ ((s.length - a:Nat):Int) < n then ([],a,true) else ((s.drop a).take n.toNat,a+n.toNat,false)
theorem rdT_at (s:List UInt8) (a:Nat) (f:Bool) (n:Int) (h:a ≤ s.length):(rdT s a f n).2.1 ≤ s.length:=by
 unfold rdT; split
 · exact h
 · rename_i hn
   simp only; omega
def spT:List V→List V→Option (List Prop × V × List V)
 | [.str s,.int .i64 x,.bool f],[.int .i64 n]=>some ([0 ≤ x∧x.toNat ≤ s.length,s.length ≤ 1000000000],.str (rdT s x.toNat f n).1,rdC s (rdT s x.toNat f n).2.1 (rdT s x.toNat f n).2.2)
 | _,_=>none
theorem one_RT:OneW Tryz.prog 47 (ptrW spT):=by
 refine ptrW_ok mo po gtok (Nat.le_of_ble_eq_true (by kernel_rfl)) Tryz.func47 (code:=cdRT) (by kernel_rfl) fun cs args A v cs2 e hA=>⟨?_,?_⟩
 all_goals
  unfold spT at e
  split at e
  case h_2=>cases e
  rename_i s x f n
  simp only [Option.some.injEq,Prod.mk.injEq] at e; obtain ⟨rfl,rfl,rfl⟩:=e
 · kernel_rfl
 obtain ⟨a1,a2⟩:=hA _ (List.mem_cons_self ..)
 have a3:s.length ≤ 1000000000:=hA (s.length ≤ 1000000000) (by simp)
 obtain ⟨a,rfl⟩:∃ a:Nat,x=Int.ofNat a:=⟨x.toNat,(Int.toNat_of_nonneg a1).symm⟩
 have a2:a ≤ s.length:=a2
 rw [show (Int.ofNat a).toNat=a from rfl]
 cases f with
 | true=>
   obtain ⟨L,hr⟩:=rt_t s a n
   refine TG_ret X17 mo _ (by kernel_rfl) hr fun g hg _=>?_
   rw [List.mem_singleton] at hg; subst hg
   exact ⟨all_nil,_,_,_,rfl,rfl,rfl,rfl⟩
 | false=>
   obtain ⟨L,hr⟩:=rt_f s a (s.length - a) n
   have hl:ieq ((Int.ofNat s.length) - Int.ofNat a) (s.length - a):=ieq_ok (by rw [hOn,hOn]; omega) (by omega)
   refine TG_ret (XQ [(66,[(14,.give (.int .i64 (Int.ofNat (s.length - a))))])]) mo _ (by kernel_rfl) hr fun g hg hc=>?_
   simp only [List.mem_cons,List.not_mem_nil,or_false] at hg
   rcases hg with rfl | rfl | rfl | rfl
   all_goals
    simp only [List.mem_cons,List.not_mem_nil,or_false,forall_eq_or_imp,forall_eq,decide_eq_true_eq,decide_eq_false_iff_not,reduceCtorEq,and_false,and_true,hOn] at hc
   · refine ⟨all_nil,_,_,_,rfl,?_⟩
     unfold rdT; rw [if_pos (.inr (.inl hc))]
     exact ⟨rfl,rfl,rfl⟩
   · refine ⟨fm1 hl,_,_,_,rfl,?_⟩
     unfold rdT; rw [if_pos (.inr (.inr (by omega)))]
     exact ⟨rfl,rfl,rfl⟩
   · obtain ⟨h1,h2⟩:=hc
     have hn:((n.toNat:Nat):Int)=n:=Int.toNat_of_nonneg (by omega)
     refine ⟨fm hl (fm (ieq_ok (by rw [hOn]; omega) (by omega)) (fm (ieq_ok (by rw [hOn]; omega) (by omega)) (fm ⟨Int.natCast_nonneg _,by rw [hOn,hOn]; omega⟩ (fm1 ⟨Int.natCast_nonneg _,by rw [hOn,hOn]; omega⟩)))),_,_,_,rfl,?_⟩
     unfold rdT; rw [if_neg (by simp only [Bool.false_eq_true,false_or]; omega)]
     rw [List.drop_take,Nat.add_sub_cancel_left]
     exact ⟨rfl,rfl,rfl⟩
noncomputable abbrev W18:CtrW:=addW 47 (ptrW spT) W17
theorem W18_ok:CtrWOk Tryz.prog W18:=addW_ok one_RT W17_ok
noncomputable abbrev cs18:CallS:=callX Tryz.prog W18 H0 1000 40
noncomputable abbrev X18:CX Tryz.prog:=CX.of mo po W18_ok H0 1000 40
noncomputable abbrev cdRX:Code:=bodyOf Tryz.f44
noncomputable abbrev cdRN:Code:=bodyOf Tryz.f45
noncomputable abbrev tlRN:Code:=tailN 2 cdRN
noncomputable abbrev lpRN:Code:=seqL tlRN
def sRN (s:List UInt8) (a:Nat) (f:Bool) (n:Int) (t:List UInt8) (i:Nat):St:=stG [(0,rdP),(5,.int .i64 n),(12,.slc (some (4,0)) t.length t.length 1),(13,.int .i64 (Int.ofNat t.length)),(14,.int .i64 (Int.ofNat i))] (hL [(3,.cells (rdC s a f)),(4,.own .u8 (bytesI t))]) 5
noncomputable abbrev cs18k (k:Nat):CallS:=callX Tryz.prog W18 (hints [(59,[(5,.give (.int .i64 (Int.ofNat k)))])]) 1000 40
noncomputable abbrev X18k (k:Nat):CX Tryz.prog:=CX.of mo po W18_ok (hints [(59,[(5,.give (.int .i64 (Int.ofNat k)))])]) 1000 40
def numS (n:Int) (b:UInt8):Int:=IntKind.i64.wrap (Int.ofNat (BitVec.ofInt 64 (IntKind.i64.wrap (n * (256:Int))) ||| BitVec.ofInt 64 (IntKind.i64.wrap (Int.ofNat b.toNat))).toNat)
abbrev rx_1A1 (s:List UInt8) (a:Nat) (f:Bool):Prop:=(0:Int) ≤ Int.ofNat (rdVf s a f).snd.fst∧(Int.ofNat (rdVf s a f).snd.fst).toNat ≤ s.length
theorem rx_1 (s:List UInt8) (a:Nat) (f:Bool):∃ L,RunIs Tryz.prog cs18 [(21,.split)] 1000 4 Tryz.f44 [] (cdRX) (startSt [rdP] (hP (rdC s a f)) 4) L
  [([(((rdT s (Int.ofNat (rdVf s a f).snd.fst).toNat (rdVf s a f).snd.snd (rdVf s a f).fst).snd.snd),true)],
   [((0:Int) ≤ Int.ofNat a∧a ≤ s.length),(s.length ≤ 1000000000),rx_1A1 s a f,(s.length ≤ 1000000000)],
   .ret (.str ((rdT s (Int.ofNat (rdVf s a f).snd.fst).toNat (rdVf s a f).snd.snd (rdVf s a f).fst).fst)) (hL [(3,.cells [.str s,.int .i64 (Int.ofNat a),.bool ((rdT s (Int.ofNat (rdVf s a f).snd.fst).toNat (rdVf s a f).snd.snd (rdVf s a f).fst).snd.snd)])]) 4),
  ([(((rdT s (Int.ofNat (rdVf s a f).snd.fst).toNat (rdVf s a f).snd.snd (rdVf s a f).fst).snd.snd),false)],
   [((0:Int) ≤ Int.ofNat a∧a ≤ s.length),(s.length ≤ 1000000000),rx_1A1 s a f,(s.length ≤ 1000000000)],
   .ret (.str ((rdT s (Int.ofNat (rdVf s a f).snd.fst).toNat (rdVf s a f).snd.snd (rdVf s a f).fst).fst)) (hL [(3,.cells [.str s,.int .i64 (Int.ofNat (rdT s (Int.ofNat (rdVf s a f).snd.fst).toNat (rdVf s a f).snd.snd (rdVf s a f).fst).snd.fst),.bool ((rdT s (Int.ofNat (rdVf s a f).snd.fst).toNat (rdVf s a f).snd.snd (rdVf s a f).fst).snd.snd)])]) 4)]
 :=RunIs.of (by kernel_rfl) (by kernel_rfl) (by kernel_rfl)
theorem rn_1 (s:List UInt8) (a:Nat) (f:Bool) (k:Nat):∃ L,RunIs Tryz.prog cs18 [] 1000 4 Tryz.f45 [0,1,5] (headN 2 cdRN) (startSt [rdP,.int .i64 (Int.ofNat k)] (hP (rdC s a f)) 4) L
  [([],
   [],
   .to .normal (stG [(0,.ptr (some (3,0))),(1,.int .i64 (Int.ofNat k)),(5,.int .i64 0)] (hL [(3,.cells [.str s,.int .i64 (Int.ofNat a),.bool f])]) 4))]
 :=RunIs.of (by kernel_rfl) (by kernel_rfl) (by kernel_rfl)
theorem rn_2 (s:List UInt8) (a:Nat) (f:Bool) (k:Nat):∃ L,RunIs Tryz.prog (cs18k k) [(14,.give (.int .i64 (Int.ofNat 0)))] 1000 4 Tryz.f45 [0,5,12,13,14] (seqL lpRN) (stG [(0,rdP),(1,.int .i64 (Int.ofNat k)),(5,.int .i64 0)] (hP (rdC s a f)) 4) L
  [([],
   [(V.int IntKind.i64 (if (if (8:Int) < Int.ofNat k then (8:Int) else Int.ofNat k) > (0:Int) then if (8:Int) < Int.ofNat k then (8:Int) else Int.ofNat k else (0:Int))=V.int IntKind.i64 (Int.ofNat k)),((0:Int) ≤ Int.ofNat a∧a ≤ s.length),(s.length ≤ 1000000000),(V.int IntKind.i64 (0:Int)=V.int IntKind.i64 (0:Int))],
   .to .normal (stG [(0,.ptr (some (3,0))),(5,.int .i64 0),(12,.slc (some (4,0)) ((rdT s a f (Int.ofNat k)).fst.length) ((rdT s a f (Int.ofNat k)).fst.length) 1),(13,.int .i64 ((Int.ofNat (rdT s a f (Int.ofNat k)).fst.length))),(14,.int .i64 0)] (hL [(3,.cells [.str s,.int .i64 (Int.ofNat (rdT s a f (Int.ofNat k)).snd.fst),.bool ((rdT s a f (Int.ofNat k)).snd.snd)]),(4,.own .u8 (bytesI (rdT s a f (Int.ofNat k)).fst))]) 5))]
 :=RunIs.of (by kernel_rfl) (by kernel_rfl) (by kernel_rfl)
theorem rn_3 (s:List UInt8) (a:Nat) (f:Bool) (n:Int) (t:List UInt8) (i:Nat) (b:UInt8):∃ L,RunIs Tryz.prog cs18 [(15,.split),(17,.give (.int .u8 (Int.ofNat b.toNat))),(22,.give (.int .i64 (numS n b))),(23,.give (.int .i64 (Int.ofNat (i+1))))] 1000 4 Tryz.f45 [0,5,12,13,14] (inner (inner (seqR lpRN))) (sRN s a f n t i) L
  [([((decide (Int.ofNat i < Int.ofNat t.length)),true)],
   [((0:Int) ≤ Int.ofNat i∧Int.ofNat i < (Int.ofNat t.length)),(0+i * 1 < (bytesI t).length),(V.int IntKind.u8 ((bytesI t).getD (0+i * 1) (0:Int))=V.int IntKind.u8 (Int.ofNat b.toNat)),(V.int IntKind.i64 (IntKind.i64.wrap (Int.ofNat (BitVec.ofInt 64 (IntKind.i64.wrap (n * (256:Int))) ||| BitVec.ofInt 64 (IntKind.i64.wrap (Int.ofNat b.toNat))).toNat))=V.int IntKind.i64 (numS n b)),ieq (Int.ofNat i+(1:Int)) (i+1)],
   .to .normal (stG [(0,.ptr (some (3,0))),(5,.int .i64 (numS n b)),(12,.slc (some (4,0)) (t.length) (t.length) 1),(13,.int .i64 (Int.ofNat t.length)),(14,.int .i64 (Int.ofNat (i+1)))] (hL [(3,.cells [.str s,.int .i64 (Int.ofNat a),.bool f]),(4,.own .u8 (bytesI t))]) 5)),
  ([((decide (Int.ofNat i < Int.ofNat t.length)),false)],
   [],
   .to (.exit 0) (stG [(0,.ptr (some (3,0))),(5,.int .i64 n),(12,.slc (some (4,0)) (t.length) (t.length) 1),(13,.int .i64 (Int.ofNat t.length)),(14,.int .i64 (Int.ofNat i))] (hL [(3,.cells [.str s,.int .i64 (Int.ofNat a),.bool f]),(4,.own .u8 (bytesI t))]) 5))]
 :=RunIs.of (by kernel_rfl) (by kernel_rfl) (by kernel_rfl)
theorem rn_4 (s:List UInt8) (a:Nat) (f:Bool) (n:Int) (t:List UInt8) (i:Nat):∃ L,RunIs Tryz.prog cs18 [] 1000 4 Tryz.f45 [] (seqR tlRN) (sRN s a f n t i) L
  [([],
   [],
   .ret (.int .i64 n) (hL [(3,.cells [.str s,.int .i64 (Int.ofNat a),.bool f])]) 4)]
 :=RunIs.of (by kernel_rfl) (by kernel_rfl) (by kernel_rfl)
end Go.Proofs.YtmjggdmekboefaaGreatDoor
namespace Go.Proofs.YtmjggdmekboefaaGreatDoor
open Go Go.Eng
theorem rdVf_at (s:List UInt8) (a:Nat) (f:Bool) (h:a ≤ s.length):(rdVf s a f).2.1 ≤ s.length:=by
 unfold rdVf; split
 · exact h
 · exact (rdV_at s a h).1
def rdTx (s:List UInt8) (a:Nat) (f:Bool):List UInt8 × Nat × Bool:=
 ((rdT s (rdVf s a f).2.1 (rdVf s a f).2.2 (rdVf s a f).1).1,if (rdT s (rdVf s a f).2.1 (rdVf s a f).2.2 (rdVf s a f).1).2.2 then a else (rdT s (rdVf s a f).2.1 (rdVf s a f).2.2 (rdVf s a f).1).2.1,(rdT s (rdVf s a f).2.1 (rdVf s a f).2.2 (rdVf s a f).1).2.2)
theorem rdTx_at (s:List UInt8) (a:Nat) (f:Bool) (h:a ≤ s.length):(rdTx s a f).2.1 ≤ s.length:=by
 unfold rdTx; simp only; split
 · exact h
 · exact rdT_at _ _ _ _ (rdVf_at s a f h)
def spX:List V→List V→Option (List Prop × V × List V)
 | [.str s,.int .i64 x,.bool f],[]=>some ([0 ≤ x∧x.toNat ≤ s.length,s.length ≤ 1000000000],.str (rdTx s x.toNat f).1,rdC s (rdTx s x.toNat f).2.1 (rdTx s x.toNat f).2.2)
 | _,_=>none
theorem one_RX:OneW Tryz.prog 44 (ptrW spX):=by
 refine ptrW_ok mo po gtok (Nat.le_of_ble_eq_true (by kernel_rfl)) Tryz.func44 (code:=cdRX) (by kernel_rfl) fun cs args A v cs2 e hA=>⟨?_,?_⟩
 all_goals
  unfold spX at e
  split at e
  case h_2=>cases e
  rename_i s x f
  simp only [Option.some.injEq,Prod.mk.injEq] at e; obtain ⟨rfl,rfl,rfl⟩:=e
 · kernel_rfl
 obtain ⟨a1,a2⟩:=hA _ (List.mem_cons_self ..)
 have a3:s.length ≤ 1000000000:=hA (s.length ≤ 1000000000) (by simp)
 obtain ⟨a,rfl⟩:∃ a:Nat,x=Int.ofNat a:=⟨x.toNat,(Int.toNat_of_nonneg a1).symm⟩
 have a2:a ≤ s.length:=a2
 rw [show (Int.ofNat a).toNat=a from rfl]
 obtain ⟨L,hr⟩:=rx_1 s a f
 have h1:=rdVf_at s a f a2
 refine TG_ret X18 mo _ (by kernel_rfl) hr fun g hg hc=>?_
 simp only [List.mem_cons,List.not_mem_nil,or_false] at hg
 have A:∀ p ∈ [((0:Int) ≤ Int.ofNat a∧a ≤ s.length),(s.length ≤ 1000000000),((0:Int) ≤ Int.ofNat (rdVf s a f).snd.fst∧(Int.ofNat (rdVf s a f).snd.fst).toNat ≤ s.length),(s.length ≤ 1000000000)],p:=
  fm ⟨Int.natCast_nonneg _,a2⟩ (fm a3 (fm ⟨Int.natCast_nonneg _,h1⟩ (fm1 a3)))
 rcases hg with rfl | rfl
 all_goals
  have q:=hc _ (List.mem_singleton.2 rfl)
  refine ⟨A,_,_,_,rfl,rfl,?_,rfl⟩
  have q:(rdTx s a f).2.2=_:=q
  have q':(rdTx s a f).2.1=if (rdTx s a f).2.2 then a else (rdT s (rdVf s a f).2.1 (rdVf s a f).2.2 (rdVf s a f).1).2.1:=rfl
  rw [q] at q'
  rw [q']
  rfl
def rdN (s:List UInt8) (a:Nat) (f:Bool) (k:Nat):Int × Nat × Bool:=((rdT s a f (Int.ofNat k)).1.foldl numS 0,(rdT s a f (Int.ofNat k)).2.1,(rdT s a f (Int.ofNat k)).2.2)
theorem rdN_at (s:List UInt8) (a:Nat) (f:Bool) (k:Nat) (h:a ≤ s.length):(rdN s a f k).2.1 ≤ s.length:=rdT_at _ _ _ _ h
theorem bytesI_get {t:List UInt8} {i:Nat} {b:UInt8} (h:t[i]? =some b):(bytesI t).getD (0+i * 1) 0=Int.ofNat b.toNat:=by
 unfold bytesI
 rw [List.getD_eq_getElem?_getD,Nat.zero_add,Nat.mul_one,List.getElem?_map,h]; rfl
theorem tgRN (s:List UInt8) (a k:Nat) (f:Bool) (ha:a ≤ s.length) (hs:s.length ≤ 1000000000) (hk:k ≤ 8):TG Tryz.prog 4 Tryz.f45.ntmps cdRN (startSt [rdP,.int .i64 (Int.ofNat k)] (hP (rdC s a f)) 4)
  (RetG Tryz.prog 4 Tryz.f45 fun v h n=>v= .int .i64 (rdN s a f k).1∧h=hP (rdC s (rdN s a f k).2.1 (rdN s a f k).2.2)∧n=4):=by
 obtain ⟨L1,hr1⟩:=rn_1 s a f k
 refine TG_isN1 2 X18 mo (by kernel_rfl) hr1 all_nil ?_
 refine TG_seq' (by kernel_rfl) ?_
 refine TG_seq' (by kernel_rfl) ?_
 obtain ⟨L2,hr2⟩:=rn_2 s a f k
 refine TG_is (X18k k) mo anyR (by kernel_rfl) hr2 fun g hg _=>?_
 rw [List.mem_singleton] at hg; subst hg
 refine ⟨fm (congrArg (V.int IntKind.i64) ?_) (fm ⟨Int.natCast_nonneg _,ha⟩ (fm hs (fm1 rfl))),fun s' hs'=>?_⟩
 · simp only [hOn]
   split <;> split <;> omega
 have hlen:(rdT s a f (Int.ofNat k)).1.length ≤ 8:=by
  unfold rdT; split
  · simp
  · simp only [List.length_take,hOn,Int.toNat_natCast]; omega
 unfold rdN
 generalize hT:rdT s a f (Int.ofNat k)=T at hs' hlen ⊢
 obtain ⟨t,a1,f1⟩:=T
 have hs':normG 4 [0,5,12,13,14] s'=some (sRN s a1 f1 ((t.take 0).foldl numS 0) t 0):=hs'
 simp only at hlen ⊢
 refine TG_forN 0 t.length (fun i=>sRN s a1 f1 ((t.take i).foldl numS 0) t i) (by kernel_rfl) (by kernel_rfl) (.norm hs') (fun i hi=>?_) ?_
 · obtain ⟨b,hb⟩:∃ b,t[i]? =some b:=⟨_,List.getElem?_eq_getElem hi⟩
   obtain ⟨L3,hr3⟩:=rn_3 s a1 f1 ((t.take i).foldl numS 0) t i b
   refine TG_is X18 mo anyR (by kernel_rfl) hr3 fun g hg hc=>?_
   simp only [List.mem_cons,List.not_mem_nil,or_false] at hg
   rcases hg with rfl | rfl
   · refine ⟨fm ⟨Int.natCast_nonneg _,by rw [hOn,hOn]; omega⟩ (fm (by simp only [bytesI,List.length_map]; omega) (fm (congrArg _ (bytesI_get hb)) (fm rfl (fm1 (ieq_ok (by rw [hOn]; omega) (by omega)))))),fun s' hs'=>.norm (live:=[0,5,12,13,14]) ?_⟩
     show _=some (sRN s a1 f1 ((t.take (i+1)).foldl numS 0) t (i+1))
     rw [List.take_add_one,hb,Option.toList_some,List.foldl_append]
     exact hs'
   · exact absurd (of_decide_eq_false (hc _ (List.mem_singleton.2 rfl))) (by rw [hOn,hOn]; omega)
 · obtain ⟨L3,hr3⟩:=rn_3 s a1 f1 ((t.take t.length).foldl numS 0) t t.length 0
   refine TG_is X18 mo anyR (by kernel_rfl) hr3 fun g hg hc=>?_
   simp only [List.mem_cons,List.not_mem_nil,or_false] at hg
   rcases hg with rfl | rfl
   · exact absurd (of_decide_eq_true (hc _ (List.mem_singleton.2 rfl))) (by omega)
   · refine ⟨all_nil,fun s' hs'=>⟨by simp,?_⟩⟩
     rw [outOf_exit]
     simp only [andThen]
     have hs':normG 4 [0,5,12,13,14] s'=some (sRN s a1 f1 ((t.take t.length).foldl numS 0) t t.length):=hs'
     refine TG_norm hs' ?_
     obtain ⟨L5,hr5⟩:=rn_4 s a1 f1 ((t.take t.length).foldl numS 0) t t.length
     refine TG_ret X18 mo _ (by kernel_rfl) hr5 fun g hg _=>?_
     rw [List.mem_singleton] at hg; subst hg
     exact ⟨all_nil,_,_,_,rfl,by rw [List.take_length],rfl,rfl⟩
def spN:List V→List V→Option (List Prop × V × List V)
 | [.str s,.int .i64 x,.bool f],[.int .i64 k]=>some ([0 ≤ x∧x.toNat ≤ s.length,s.length ≤ 1000000000,0 ≤ k∧k.toNat ≤ 8],.int .i64 (rdN s x.toNat f k.toNat).1,rdC s (rdN s x.toNat f k.toNat).2.1 (rdN s x.toNat f k.toNat).2.2)
 | _,_=>none
theorem one_RN:OneW Tryz.prog 45 (ptrW spN):=by
 refine ptrW_ok mo po gtok (Nat.le_of_ble_eq_true (by kernel_rfl)) Tryz.func45 (code:=cdRN) (by kernel_rfl) fun cs args A v cs2 e hA=>⟨?_,?_⟩
 all_goals
  unfold spN at e
  split at e
  case h_2=>cases e
  rename_i s x f k
  simp only [Option.some.injEq,Prod.mk.injEq] at e; obtain ⟨rfl,rfl,rfl⟩:=e
 · kernel_rfl
 obtain ⟨a1,a2⟩:=hA _ (List.mem_cons_self ..)
 have a3:s.length ≤ 1000000000:=hA (s.length ≤ 1000000000) (by simp)
 obtain ⟨a4,a5⟩:0 ≤ k∧k.toNat ≤ 8:=hA (0 ≤ k∧k.toNat ≤ 8) (by simp)
 obtain ⟨a,rfl⟩:∃ a:Nat,x=Int.ofNat a:=⟨x.toNat,(Int.toNat_of_nonneg a1).symm⟩
 obtain ⟨k,rfl⟩:∃ a:Nat,k=Int.ofNat a:=⟨k.toNat,(Int.toNat_of_nonneg a4).symm⟩
 exact tgRN s a k f a2 a3 a5
noncomputable abbrev W19:CtrW:=addW 44 (ptrW spX) (addW 45 (ptrW spN) W18)
theorem W19_ok:CtrWOk Tryz.prog W19:=addW_ok one_RX (addW_ok one_RN W18_ok)
end Go.Proofs.YtmjggdmekboefaaGreatDoor
namespace Go.Proofs.YtmjggdmekboefaaGreatDoor
open Go Go.Eng
noncomputable abbrev cdLi:Code:=bodyOf Tryz.f46
noncomputable abbrev tlLi:Code:=tailN 2 cdLi
def zLay:Lay:=⟨0,0,[],false,0,0,false,z7,0,[],0,zFL,z4,[],[],false,[]⟩
def Lay.rc (y:Lay):List V:=y.cs.set 27 nilS
def hR (y:Lay) (s:List UInt8) (a:Nat) (f:Bool):Tr O:=hL [(3,.cells zLay.cs),(4,.cells (rdC s a f)),(5,.cells y.rc)]
def hRo (y:Lay) (s:List UInt8) (a:Nat) (f:Bool) (l:List Int):Tr O:=hL [(3,.cells zLay.cs),(4,.cells (rdC s a f)),(5,.cells y.rc),(6,.own .i64 l)]
abbrev rP:V:=.ptr (some (4,0))
def sL0 (y:Lay) (s:List UInt8) (a:Nat) (f:Bool) (n:Int) (i:Nat):St:=stG [(0,rP),(2,nilS),(3,iX n),(4,iW i)] (hR y s a f) 6
def sL1 (y:Lay) (s:List UInt8) (a:Nat) (f:Bool) (n:Int) (i m:Nat) (l:List Int):St:=stG [(0,rP),(2,.slc (some (6,0)) m m 1),(3,iX n),(4,iW i)] (hRo y s a f l) 7
def sLd (y:Lay) (s:List UInt8) (a:Nat) (f:Bool) (n:Int) (i:Nat) (v:Int):St:=stG [(0,rP),(2,.slc (some (6,0)) 1 1 1),(3,iX n),(4,iW i)] (hL [(3,.cells zLay.cs),(4,.cells (rdC s a f)),(5,.cells y.rc),(6,.cells [.int .i64 v])]) 7
theorem li_1 (y:Lay) (s:List UInt8) (a:Nat) (f:Bool):∃ L,RunIs Tryz.prog (csH W19 []) [] 1000 6 Tryz.f46 [0,2,3] (headN 2 cdLi) (startSt [rP] (hR y s a f) 6) L
  [([],
   [((0:Int) ≤ Int.ofNat a∧a ≤ s.length),(s.length ≤ 1000000000)],
   .to .normal (stG [(0,rP),(2,nilS),(3,iX (rdVf s a f).1)] (hR y s (rdVf s a f).2.1 (rdVf s a f).2.2) 6))]
 :=RunIs.of (by kernel_rfl) (by kernel_rfl) (by kernel_rfl)
theorem li_2 (y:Lay) (s:List UInt8) (a:Nat) (f:Bool) (n:Int):∃ L,RunIs Tryz.prog (csH W19 []) [] 1000 6 Tryz.f46 [0,2,3,4] (seqL (seqL tlLi)) (stG [(0,rP),(2,nilS),(3,iX n)] (hR y s a f) 6) L
  [([],
   [],
   .to .normal (sL0 y s a f n 0))]
 :=RunIs.of (by kernel_rfl) (by kernel_rfl) (by kernel_rfl)
abbrev li_3A1 (i:Nat):Prop:=V.int IntKind.i64 (IntKind.i64.wrap (Int.ofNat i+(1:Int)))=iW (i+1)
theorem li_3 (y:Lay) (s:List UInt8) (a:Nat) (f:Bool) (n:Int) (i:Nat):∃ L,RunIs Tryz.prog (csH W19 []) [(10,.split),(14,.split),(16,.give (iW (i+1)))] 1000 6 Tryz.f46 [0,2,3,4] (inner (inner (seqR (seqL tlLi)))) (sL0 y s a f n i) L
  [([((decide (Int.ofNat i < n)),true),((!f),true)],
   [((0:Int) ≤ Int.ofNat a∧a ≤ s.length),(s.length ≤ 1000000000),li_3A1 i],
   .to .normal (sLd y s (rdVf s a f).2.1 (rdVf s a f).2.2 n (i+1) (rdVf s a f).1)),
  ([((decide (Int.ofNat i < n)),true),((!f),false)],
   [],
   .to (.exit 0) (sL0 y s a f n i)),
  ([((decide (Int.ofNat i < n)),false),(false,true)],
   [((0:Int) ≤ Int.ofNat a∧a ≤ s.length),(s.length ≤ 1000000000),li_3A1 i],
   .to .normal (sLd y s (rdVf s a f).2.1 (rdVf s a f).2.2 n (i+1) (rdVf s a f).1)),
  ([((decide (Int.ofNat i < n)),false),(false,false)],
   [],
   .to (.exit 0) (sL0 y s a f n i))]
 :=RunIs.of (by kernel_rfl) (by kernel_rfl) (by kernel_rfl)
abbrev li_4A1 (i:Nat):Prop:=V.int IntKind.i64 (IntKind.i64.wrap (Int.ofNat i+(1:Int)))=iW (i+1)
theorem li_4 (y:Lay) (s:List UInt8) (a:Nat) (f:Bool) (n:Int) (i:Nat) (l:List Int):∃ L,RunIs Tryz.prog (csH W19 []) [(10,.split),(14,.split),(16,.give (iW (i+1)))] 1000 6 Tryz.f46 [0,2,3,4] (inner (inner (seqR (seqL tlLi)))) (sL1 y s a f n i l.length l) L
  [([((decide (Int.ofNat i < n)),true),((!f),true)],
   [((0:Int) ≤ Int.ofNat a∧a ≤ s.length),(s.length ≤ 1000000000),(0 < l.length),(0+l.length * 1 ≤ l.length),(0 < 1),(roomy (l.length+1) 1 8=true),li_4A1 i],
   .to .normal (sL1 y s (rdVf s a f).2.1 (rdVf s a f).2.2 n (i+1) (l.length+1) (List.take (l.length * 1) (List.drop 0 l) ++ [(rdVf s a f).1]))),
  ([((decide (Int.ofNat i < n)),true),((!f),false)],
   [],
   .to (.exit 0) (sL1 y s a f n i l.length l)),
  ([((decide (Int.ofNat i < n)),false),(false,true)],
   [((0:Int) ≤ Int.ofNat a∧a ≤ s.length),(s.length ≤ 1000000000),(0 < l.length),(0+l.length * 1 ≤ l.length),(0 < 1),(roomy (l.length+1) 1 8=true),li_4A1 i],
   .to .normal (sL1 y s (rdVf s a f).2.1 (rdVf s a f).2.2 n (i+1) (l.length+1) (List.take (l.length * 1) (List.drop 0 l) ++ [(rdVf s a f).1]))),
  ([((decide (Int.ofNat i < n)),false),(false,false)],
   [],
   .to (.exit 0) (sL1 y s a f n i l.length l))]
 :=RunIs.of (by kernel_rfl) (by kernel_rfl) (by kernel_rfl)
theorem li_5 (y:Lay) (s:List UInt8) (a:Nat) (f:Bool) (n:Int) (i:Nat):∃ L,RunIs Tryz.prog (csH W19 []) [] 1000 6 Tryz.f46 [] (seqR tlLi) (sL0 y s a f n i) L
  [([],
   [],
   .ret (nilS) (hR y s a f) 6)]
 :=RunIs.of (by kernel_rfl) (by kernel_rfl) (by kernel_rfl)
theorem li_6 (y:Lay) (s:List UInt8) (a:Nat) (f:Bool) (n:Int) (i:Nat) (l:List Int):∃ L,RunIs Tryz.prog (csH W19 []) [] 1000 6 Tryz.f46 [] (seqR tlLi) (sL1 y s a f n i l.length l) L
  [([],
   [],
   .ret (.slc (some (6,0)) l.length l.length 1) (hRo y s a f l) 7)]
 :=RunIs.of (by kernel_rfl) (by kernel_rfl) (by kernel_rfl)
end Go.Proofs.YtmjggdmekboefaaGreatDoor
namespace Go.Proofs.YtmjggdmekboefaaGreatDoor
open Go Go.Eng
def liF (s:List UInt8):Nat→Int→Nat→Bool→List Int × Nat × Bool
 | 0,_,a,f=>([],a,f)
 | k+1,m,a,f=>if 0 < m∧f=false then ((rdVf s a f).1 :: (liF s k (m - 1) (rdVf s a f).2.1 (rdVf s a f).2.2).1,(liF s k (m - 1) (rdVf s a f).2.1 (rdVf s a f).2.2).2) else ([],a,f)
def msr (s:List UInt8) (a:Nat) (f:Bool):Nat:=(s.length - a)+(if f then 0 else 1)
theorem rvL_pos (s:List UInt8) (a:Nat):∀ k i u v n,rvL s a k i u=some (v,n)→i < n:=by
 intro k
 induction k with
 | zero=>intro i u v n e; cases e
 | succ k ih=>
   intro i u v n e
   unfold rvL at e
   split at e
   · have:=ih _ _ _ _ e; omega
   · split at e
     · cases e
     · simp only [Option.some.injEq,Prod.mk.injEq] at e; omega
theorem msr_lt {s:List UInt8} {a:Nat} (h:a ≤ s.length):msr s (rdVf s a false).2.1 (rdVf s a false).2.2 < msr s a false:=by
 have e:rdVf s a false=rdV s a:=rfl
 rw [e]
 have h1:=(rdV_at s a h).1
 unfold rdV at h1 ⊢
 cases q:rdVar s a with
 | none=>unfold msr; simp
 | some p=>
   rw [q] at h1
   have:=rvL_pos _ _ _ _ _ _ _ q
   unfold msr
   simp only [Bool.false_eq_true,if_false] at h1 ⊢
   omega
theorem liF_at (s:List UInt8):∀ k m a f,a ≤ s.length→(liF s k m a f).2.1 ≤ s.length∧(liF s k m a f).1.length ≤ k
 | 0,_,_,_,h=>⟨h,Nat.le_refl _⟩
 | k+1,m,a,f,h=>by
   unfold liF
   split
   · have:=liF_at s k (m - 1) _ (rdVf s a f).2.2 (rdVf_at s a f h)
     exact ⟨this.1,by simp only [List.length_cons]; omega⟩
   · exact ⟨h,by simp⟩
def rdLi (s:List UInt8) (a:Nat) (f:Bool):List Int × Nat × Bool:=liF s (s.length+2) (rdVf s a f).1 (rdVf s a f).2.1 (rdVf s a f).2.2
theorem rdLi_at {s:List UInt8} {a:Nat} {f:Bool} (h:a ≤ s.length):(rdLi s a f).2.1 ≤ s.length∧(rdLi s a f).1.length ≤ s.length+2:=liF_at _ _ _ _ _ (rdVf_at s a f h)
theorem roomy_ok8 {k:Nat} (h:k ≤ 1000000000):roomy k 1 8=true:=by
 unfold roomy
 exact decide_eq_true ⟨by omega,by omega⟩
def sL (y:Lay) (s:List UInt8) (n:Int) (x:Nat × List Int × Nat × Bool):St:=match x.2.1 with
 | []=>sL0 y s x.2.2.1 x.2.2.2 n 0
 | l=>sL1 y s x.2.2.1 x.2.2.2 n l.length l.length l
theorem liG (y:Lay) (s:List UInt8) (a:Nat) (f:Bool) (ha:a ≤ s.length) (hs:s.length ≤ 10000000) (R:V→Tr O→Nat→Prop)
  (r0:(rdLi s a f).1=[]→R nilS (hR y s (rdLi s a f).2.1 (rdLi s a f).2.2) 6)
  (r1:(rdLi s a f).1 ≠ []→R (.slc (some (6,0)) (rdLi s a f).1.length (rdLi s a f).1.length 1) (hRo y s (rdLi s a f).2.1 (rdLi s a f).2.2 (rdLi s a f).1) 7):
  TG Tryz.prog 6 Tryz.f46.ntmps cdLi (startSt [rP] (hR y s a f) 6) (RetG Tryz.prog 6 Tryz.f46 R):=by
 have h9:s.length ≤ 1000000000:=by omega
 refine isE1 2 W19_ok (li_1 y s a f) (fm ⟨Int.natCast_nonneg _,ha⟩ (fm1 h9)) ?_
 have h1:=rdVf_at s a f ha
 unfold rdLi at r0 r1
 generalize hv:rdVf s a f=v1 at h1 r0 r1 ⊢
 obtain ⟨n,b,g⟩:=v1
 simp only at h1 r0 r1 ⊢
 generalize hT:liF s (s.length+2) n b g=T at r0 r1
 obtain ⟨l0,a0,f0⟩:=T
 simp only at r0 r1
 refine loopF (α:=Nat × List Int × Nat × Bool) W19_ok 0 _ [0,2,3,4] (·.1) (fun x=>x.2.2.1 ≤ s.length∧msr s x.2.2.1 x.2.2.2 < x.1∧x.2.1.length+x.1 ≤ s.length+2∧(x.2.1 ++ (liF s x.1 (n - x.2.1.length) x.2.2.1 x.2.2.2).1,(liF s x.1 (n - x.2.1.length) x.2.2.1 x.2.2.2).2)=(l0,a0,f0)) (sL y s n) (s.length+2,[],b,g)
  ⟨h1,by unfold msr; simp only; split <;> omega,by simp,by simp only [List.nil_append,List.length_nil,Int.natCast_zero,Int.sub_zero]; rw [hT]⟩ (li_2 y s b g n) all_nil .refl ?_
 rintro ⟨k,l,c,q⟩ ⟨i1,i2,i3,i4⟩
 simp only at i1 i2 i3 i4
 obtain ⟨j,rfl⟩:∃ j,k=j+1:=⟨k - 1,by omega⟩
 unfold liF at i4
 have hgo:Int.ofNat l.length < n→q=false→∀ S,S=sL y s n (j,l ++ [(rdVf s c q).1],(rdVf s c q).2.1,(rdVf s c q).2.2)→∀ s',Goes Tryz.prog 6 Tryz.f46.ntmps s' S→∃ x':Nat × List Int × Nat × Bool,x'.1 < j+1∧(x'.2.2.1 ≤ s.length∧msr s x'.2.2.1 x'.2.2.2 < x'.1∧x'.2.1.length+x'.1 ≤ s.length+2∧(x'.2.1 ++ (liF s x'.1 (n - x'.2.1.length) x'.2.2.1 x'.2.2.2).1,(liF s x'.1 (n - x'.2.1.length) x'.2.2.1 x'.2.2.2).2)=(l0,a0,f0))∧Goes Tryz.prog 6 Tryz.f46.ntmps s' (sL y s n x'):=by
  rintro hlt rfl S rfl s' hS
  refine ⟨(j,l ++ [(rdVf s c false).1],(rdVf s c false).2.1,(rdVf s c false).2.2),Nat.lt_succ_self j,⟨rdVf_at s c false i1,?_,by simp only [List.length_append,List.length_cons,List.length_nil]; omega,?_⟩,hS⟩
  · have:=msr_lt i1; simp only; omega
  · rw [if_pos ⟨by rw [hOn] at hlt; omega,rfl⟩] at i4
    rw [← i4]
    have e:n - ((l ++ [(rdVf s c false).1]).length:Nat)=n - l.length - 1:=by simp only [List.length_append,List.length_cons,List.length_nil]; omega
    simp only [e,List.append_assoc,List.singleton_append]
 have hend:¬ (Int.ofNat l.length < n∧q=false)→l=l0∧c=a0∧q=f0:=fun h=>by
  rw [if_neg (fun x=>h ⟨by have:=x.1; rw [hOn]; omega,x.2⟩)] at i4
  simp only [List.append_nil,Prod.mk.injEq] at i4
  exact i4
 cases l with
 | nil=>
   refine ⟨_,W19_ok,[],_,_,li_3 y s c q n 0,gcons (g2 fun h h2=>?_) (gcons (g2 fun h h2=>⟨all_nil,rfl,?_⟩) (gcons (g2 fun h h2=>Bool.noConfusion h2) (gone (g2 fun h h2=>⟨all_nil,rfl,?_⟩))))⟩
   · refine ⟨fm ⟨Int.natCast_nonneg _,i1⟩ (fm h9 (fm1 rfl)),hgo (of_decide_eq_true h) (by simpa using h2) _ rfl _ ?_⟩
     exact .own [(6,.i64)] (by kernel_rfl)
   · obtain ⟨rfl,rfl,rfl⟩:=hend (fun x=>by rw [x.2] at h2; cases h2)
     exact retE W19_ok (li_5 y s c q n 0) (gone (g0 ⟨all_nil,_,_,_,rfl,r0 rfl⟩))
   · obtain ⟨rfl,rfl,rfl⟩:=hend (fun x=>of_decide_eq_false h x.1)
     exact retE W19_ok (li_5 y s c q n 0) (gone (g0 ⟨all_nil,_,_,_,rfl,r0 rfl⟩))
 | cons x r=>
   have hpos:0 < (x :: r).length:=by simp
   have e0:List.take ((x :: r).length * 1) (List.drop 0 (x :: r))=x :: r:=by rw [List.drop_zero,Nat.mul_one,List.take_length]
   have h4:=li_4 y s c q n (x :: r).length (x :: r)
   rw [e0] at h4
   have hfin:¬ (Int.ofNat (x :: r).length < n∧q=false)→TG Tryz.prog 6 Tryz.f46.ntmps (seqR tlLi) (sL1 y s c q n (x :: r).length (x :: r).length (x :: r)) (RetG Tryz.prog 6 Tryz.f46 R):=fun h=>by
    obtain ⟨rfl,rfl,rfl⟩:=hend h
    exact retE W19_ok (li_6 y s c q n (x :: r).length (x :: r)) (gone (g0 ⟨all_nil,_,_,_,rfl,r1 (by simp)⟩))
   refine ⟨_,W19_ok,[],_,_,h4,gcons (g2 fun h h2=>?_) (gcons (g2 fun h h2=>⟨all_nil,rfl,?_⟩) (gcons (g2 fun h h2=>Bool.noConfusion h2) (gone (g2 fun h h2=>⟨all_nil,rfl,?_⟩))))⟩
   · refine ⟨fm ⟨Int.natCast_nonneg _,i1⟩ (fm h9 (fm hpos (fm (by omega) (fm (by decide) (fm (roomy_ok8 (by omega)) (fm1 (vsuc (by omega)))))))),hgo (of_decide_eq_true h) (by simpa using h2) _ ?_ _ .refl⟩
     have e1:(x :: r ++ [(rdVf s c q).1]).length=(x :: r).length+1:=by rw [List.length_append]; rfl
     show _=sL1 y s _ _ n (x :: r ++ [(rdVf s c q).1]).length (x :: r ++ [(rdVf s c q).1]).length _
     rw [e1]
   · exact hfin fun x=>by rw [x.2] at h2; cases h2
   · exact hfin fun x=>of_decide_eq_false h x.1
theorem liIs0 (y:Lay) (s:List UInt8) (a:Nat) (f:Bool) (ha:a ≤ s.length) (hs:s.length ≤ 10000000) (h:(rdLi s a f).1=[]):CallIs Tryz.prog 46 [rP] (hR y s a f) 6 nilS (hR y s (rdLi s a f).2.1 (rdLi s a f).2.2) 6:=fun E w args' ra g hd=>
 calls_of_TG1 mo po Tryz.func46 (code:=cdLi) (by kernel_rfl) (by kernel_rfl) _ _ _ (liG y s a f ha hs _ (fun _=>⟨rfl,rfl,rfl⟩) (fun n=>absurd h n)) ra g hd
theorem liIs1 (y:Lay) (s:List UInt8) (a:Nat) (f:Bool) (ha:a ≤ s.length) (hs:s.length ≤ 10000000) (h:(rdLi s a f).1 ≠ []):CallIs Tryz.prog 46 [rP] (hR y s a f) 6 (.slc (some (6,0)) (rdLi s a f).1.length (rdLi s a f).1.length 1) (hRo y s (rdLi s a f).2.1 (rdLi s a f).2.2 (rdLi s a f).1) 7:=fun E w args' ra g hd=>
 calls_of_TG1 mo po Tryz.func46 (code:=cdLi) (by kernel_rfl) (by kernel_rfl) _ _ _ (liG y s a f ha hs _ (fun n=>absurd n h) (fun _=>⟨rfl,rfl,rfl⟩)) ra g hd
end Go.Proofs.YtmjggdmekboefaaGreatDoor
namespace Go.Proofs.YtmjggdmekboefaaGreatDoor
open Go Go.Eng
noncomputable abbrev cdRd:Code:=bodyOf Tryz.f13
def z31 (id kd:Int) (nm:List UInt8):List V:=[iX id,iX kd,.str nm,.bool false,iX 0,iX 0,.bool false] ++ (z7.cs ++ ([iX 0,nilS,iX 0] ++ ([iX 0,iX 0,nilS,iX 0,iX 0,nilS] ++ (z4.cs ++ [nilS,nilS,.bool false,nilS]))))
abbrev fR (s:List UInt8) (r:List (Nat × V)):List (Nat × V):=(0,.str s) :: (2,.ptr (some (3,0))) :: (4,.ptr (some (4,0))) :: (5,.ptr (some (5,0))) :: r
def sRd (y:Lay) (s:List UInt8) (a:Nat) (f:Bool) (r:List (Nat × V)):St:=stG (fR s r) (hR y s a f) 6
def mR (s:List UInt8) (a:Nat) (f:Bool) (cs:List V):Tr O:=hL [(3,.cells zLay.cs),(4,.cells (rdC s a f)),(5,.cells cs)]
def mRo (s:List UInt8) (a:Nat) (f:Bool) (cs:List V) (l:List Int):Tr O:=hL [(3,.cells zLay.cs),(4,.cells (rdC s a f)),(5,.cells cs),(6,.own .i64 l)]
def plP:V:=.agg [.ptr (some (5,7)),.ptr (some (5,8)),.ptr (some (5,9)),.ptr (some (5,10)),.ptr (some (5,11)),.ptr (some (5,12)),.ptr (some (5,13))]
def updP:Nat→P7→Int→P7
 | 0,p,v=>{ p with a:=v }
 | 1,p,v=>{ p with b:=v }
 | 2,p,v=>{ p with c:=v }
 | 3,p,v=>{ p with d:=v }
 | 4,p,v=>{ p with e:=v }
 | 5,p,v=>{ p with f:=v }
 | _,p,v=>{ p with n:=v }
def bitB (n k:Int):Bool:=!(IntKind.i64.wrap (Int.ofNat (BitVec.ofInt 64 n &&& BitVec.ofInt 64 k).toNat) == (0:Int))
theorem rd_1 (s:List UInt8):∃ L,RunIs Tryz.prog (csH W19 []) [] 1000 3 Tryz.f13 [0,2,4] (headN 2 cdRd) (startSt [.str s] .nil 3) L
  [([],
   [],
   .to .normal (stG [(0,.str s),(2,.ptr (some (3,0))),(4,.ptr (some (4,0)))] (hL [(3,.cells (z31 0 0 [])),(4,.cells (rdC s 0 false))]) 5))]
 :=RunIs.of (by kernel_rfl) (by kernel_rfl) (by kernel_rfl)
theorem rd_2 (s:List UInt8) (a:Nat) (f:Bool):∃ L,RunIs Tryz.prog (csH W19 []) [] 1000 3 Tryz.f13 [0,2,4,5] (headN 1 (tailN 2 cdRd)) (stG [(0,.str s),(2,.ptr (some (3,0))),(4,.ptr (some (4,0)))] (hL [(3,.cells zLay.cs),(4,.cells (rdC s a f))]) 5) L
  [([],
   [((0:Int) ≤ Int.ofNat a∧a ≤ s.length),(s.length ≤ 1000000000),((0:Int) ≤ Int.ofNat (rdVf s a f).snd.fst∧(Int.ofNat (rdVf s a f).snd.fst).toNat ≤ s.length),(s.length ≤ 1000000000),((0:Int) ≤ Int.ofNat (rdVf s (Int.ofNat (rdVf s a f).snd.fst).toNat (rdVf s a f).snd.snd).snd.fst∧(Int.ofNat (rdVf s (Int.ofNat (rdVf s a f).snd.fst).toNat (rdVf s a f).snd.snd).snd.fst).toNat ≤ s.length),(s.length ≤ 1000000000)],
   .to .normal (stG (fR s []) (mR s (rdTx s (rdVf s (rdVf s a f).2.1 (rdVf s a f).2.2).2.1 (rdVf s (rdVf s a f).2.1 (rdVf s a f).2.2).2.2).2.1 (rdTx s (rdVf s (rdVf s a f).2.1 (rdVf s a f).2.2).2.1 (rdVf s (rdVf s a f).2.1 (rdVf s a f).2.2).2.2).2.2 (z31 (rdVf s a f).1 (rdVf s (rdVf s a f).2.1 (rdVf s a f).2.2).1 (rdTx s (rdVf s (rdVf s a f).2.1 (rdVf s a f).2.2).2.1 (rdVf s (rdVf s a f).2.1 (rdVf s a f).2.2).2.2).1)) 6))]
 :=RunIs.of (by kernel_rfl) (by kernel_rfl) (by kernel_rfl)
theorem rd_3 (y:Lay) (s:List UInt8) (a:Nat) (f:Bool):∃ L,RunIs Tryz.prog (csH W19 []) [] 1000 3 Tryz.f13 [0,2,4,5,6] (headN 1 (tailN 3 cdRd)) (sRd y s a f []) L
  [([],
   [((0:Int) ≤ Int.ofNat a∧a ≤ s.length),(s.length ≤ 1000000000),((0:Int) ≤ (1:Int)∧1 ≤ 8)],
   .to .normal (sRd y s (rdN s a f 1).2.1 (rdN s a f 1).2.2 [(6,iX (rdN s a f 1).1)]))]
 :=RunIs.of (by kernel_rfl) (by kernel_rfl) (by kernel_rfl)
theorem rd_4 (y:Lay) (s:List UInt8) (a:Nat) (f:Bool) (n:Int):∃ L,RunIs Tryz.prog (csH W19 []) [] 1000 3 Tryz.f13 [0,2,4,5] (headN 1 (tailN 4 cdRd)) (sRd y s a f [(6,iX n)]) L
  [([],
   [],
   .to .normal (sRd { y with hid:=bitB n 1,clip:=bitB n 2,hm:=bitB n 4 } s a f []))]
 :=RunIs.of (by kernel_rfl) (by kernel_rfl) (by kernel_rfl)
theorem rd_5 (y:Lay) (s:List UInt8) (a:Nat) (f:Bool):∃ L,RunIs Tryz.prog (csH W19 []) [] 1000 3 Tryz.f13 [0,2,4,5] (headN 1 (tailN 5 cdRd)) (sRd y s a f []) L
  [([],
   [((0:Int) ≤ Int.ofNat a∧a ≤ s.length),(s.length ≤ 1000000000),((0:Int) ≤ Int.ofNat (rdVf s a f).snd.fst∧(Int.ofNat (rdVf s a f).snd.fst).toNat ≤ s.length),(s.length ≤ 1000000000)],
   .to .normal (sRd { y with op:=(rdVf s a f).1,md:=(rdVf s (rdVf s a f).2.1 (rdVf s a f).2.2).1 } s (rdVf s (rdVf s a f).2.1 (rdVf s a f).2.2).2.1 (rdVf s (rdVf s a f).2.1 (rdVf s a f).2.2).2.2 []))]
 :=RunIs.of (by kernel_rfl) (by kernel_rfl) (by kernel_rfl)
noncomputable abbrev tlR6:Code:=tailN 6 cdRd
theorem rd_6 (y:Lay) (s:List UInt8) (a:Nat) (f:Bool):∃ L,RunIs Tryz.prog (csH W19 []) [] 1000 3 Tryz.f13 [0,2,4,5,42,43] (seqL (seqL tlR6)) (sRd y s a f []) L
  [([],
   [],
   .to .normal (sRd y s a f [(42,plP),(43,iW 0)]))]
 :=RunIs.of (by kernel_rfl) (by kernel_rfl) (by kernel_rfl)
theorem rd_70 (y:Lay) (s:List UInt8) (a:Nat) (f:Bool):∃ L,RunIs Tryz.prog (csH W19 []) [(50,.give (iW 1))] 1000 3 Tryz.f13 [0,2,4,5,42,43] (inner (inner (seqR (seqL tlR6)))) (sRd y s a f [(42,plP),(43,iW 0)]) L
  [([],
   [((0:Int) ≤ Int.ofNat a∧a ≤ s.length),(s.length ≤ 1000000000),(V.int IntKind.i64 (1:Int)=iW 1)],
   .to .normal (sRd { y with pl:=updP 0 y.pl (rdVf s a f).1 } s (rdVf s a f).2.1 (rdVf s a f).2.2 [(42,plP),(43,iW 1)]))]
 :=RunIs.of (by kernel_rfl) (by kernel_rfl) (by kernel_rfl)
theorem rd_71 (y:Lay) (s:List UInt8) (a:Nat) (f:Bool):∃ L,RunIs Tryz.prog (csH W19 []) [(50,.give (iW 2))] 1000 3 Tryz.f13 [0,2,4,5,42,43] (inner (inner (seqR (seqL tlR6)))) (sRd y s a f [(42,plP),(43,iW 1)]) L
  [([],
   [((0:Int) ≤ Int.ofNat a∧a ≤ s.length),(s.length ≤ 1000000000),(V.int IntKind.i64 (2:Int)=iW 2)],
   .to .normal (sRd { y with pl:=updP 1 y.pl (rdVf s a f).1 } s (rdVf s a f).2.1 (rdVf s a f).2.2 [(42,plP),(43,iW 2)]))]
 :=RunIs.of (by kernel_rfl) (by kernel_rfl) (by kernel_rfl)
theorem rd_72 (y:Lay) (s:List UInt8) (a:Nat) (f:Bool):∃ L,RunIs Tryz.prog (csH W19 []) [(50,.give (iW 3))] 1000 3 Tryz.f13 [0,2,4,5,42,43] (inner (inner (seqR (seqL tlR6)))) (sRd y s a f [(42,plP),(43,iW 2)]) L
  [([],
   [((0:Int) ≤ Int.ofNat a∧a ≤ s.length),(s.length ≤ 1000000000),(V.int IntKind.i64 (3:Int)=iW 3)],
   .to .normal (sRd { y with pl:=updP 2 y.pl (rdVf s a f).1 } s (rdVf s a f).2.1 (rdVf s a f).2.2 [(42,plP),(43,iW 3)]))]
 :=RunIs.of (by kernel_rfl) (by kernel_rfl) (by kernel_rfl)
theorem rd_73 (y:Lay) (s:List UInt8) (a:Nat) (f:Bool):∃ L,RunIs Tryz.prog (csH W19 []) [(50,.give (iW 4))] 1000 3 Tryz.f13 [0,2,4,5,42,43] (inner (inner (seqR (seqL tlR6)))) (sRd y s a f [(42,plP),(43,iW 3)]) L
  [([],
   [((0:Int) ≤ Int.ofNat a∧a ≤ s.length),(s.length ≤ 1000000000),(V.int IntKind.i64 (4:Int)=iW 4)],
   .to .normal (sRd { y with pl:=updP 3 y.pl (rdVf s a f).1 } s (rdVf s a f).2.1 (rdVf s a f).2.2 [(42,plP),(43,iW 4)]))]
 :=RunIs.of (by kernel_rfl) (by kernel_rfl) (by kernel_rfl)
theorem rd_74 (y:Lay) (s:List UInt8) (a:Nat) (f:Bool):∃ L,RunIs Tryz.prog (csH W19 []) [(50,.give (iW 5))] 1000 3 Tryz.f13 [0,2,4,5,42,43] (inner (inner (seqR (seqL tlR6)))) (sRd y s a f [(42,plP),(43,iW 4)]) L
  [([],
   [((0:Int) ≤ Int.ofNat a∧a ≤ s.length),(s.length ≤ 1000000000),(V.int IntKind.i64 (5:Int)=iW 5)],
   .to .normal (sRd { y with pl:=updP 4 y.pl (rdVf s a f).1 } s (rdVf s a f).2.1 (rdVf s a f).2.2 [(42,plP),(43,iW 5)]))]
 :=RunIs.of (by kernel_rfl) (by kernel_rfl) (by kernel_rfl)
theorem rd_75 (y:Lay) (s:List UInt8) (a:Nat) (f:Bool):∃ L,RunIs Tryz.prog (csH W19 []) [(50,.give (iW 6))] 1000 3 Tryz.f13 [0,2,4,5,42,43] (inner (inner (seqR (seqL tlR6)))) (sRd y s a f [(42,plP),(43,iW 5)]) L
  [([],
   [((0:Int) ≤ Int.ofNat a∧a ≤ s.length),(s.length ≤ 1000000000),(V.int IntKind.i64 (6:Int)=iW 6)],
   .to .normal (sRd { y with pl:=updP 5 y.pl (rdVf s a f).1 } s (rdVf s a f).2.1 (rdVf s a f).2.2 [(42,plP),(43,iW 6)]))]
 :=RunIs.of (by kernel_rfl) (by kernel_rfl) (by kernel_rfl)
theorem rd_76 (y:Lay) (s:List UInt8) (a:Nat) (f:Bool):∃ L,RunIs Tryz.prog (csH W19 []) [(50,.give (iW 7))] 1000 3 Tryz.f13 [0,2,4,5,42,43] (inner (inner (seqR (seqL tlR6)))) (sRd y s a f [(42,plP),(43,iW 6)]) L
  [([],
   [((0:Int) ≤ Int.ofNat a∧a ≤ s.length),(s.length ≤ 1000000000),(V.int IntKind.i64 (7:Int)=iW 7)],
   .to .normal (sRd { y with pl:=updP 6 y.pl (rdVf s a f).1 } s (rdVf s a f).2.1 (rdVf s a f).2.2 [(42,plP),(43,iW 7)]))]
 :=RunIs.of (by kernel_rfl) (by kernel_rfl) (by kernel_rfl)
theorem rd_77 (y:Lay) (s:List UInt8) (a:Nat) (f:Bool):∃ L,RunIs Tryz.prog (csH W19 []) [] 1000 3 Tryz.f13 [0,2,4,5,42,43] (inner (inner (seqR (seqL tlR6)))) (sRd y s a f [(42,plP),(43,iW 7)]) L
  [([],
   [],
   .to (.exit 0) (stG [(0,.str s),(2,.ptr (some (3,0))),(4,.ptr (some (4,0))),(5,.ptr (some (5,0))),(42,.agg [.ptr (some (5,7)),.ptr (some (5,8)),.ptr (some (5,9)),.ptr (some (5,10)),.ptr (some (5,11)),.ptr (some (5,12)),.ptr (some (5,13))]),(43,.int .i64 7)] (hL [(3,.cells [.int .i64 0,.int .i64 0,.str [],.bool false,.int .i64 0,.int .i64 0,.bool false,.int .i64 0,.int .i64 0,.int .i64 0,.int .i64 0,.int .i64 0,.int .i64 0,.int .i64 0,.int .i64 0,.lst false 0 [],.int .i64 0,.int .i64 0,.int .i64 0,.lst false 0 [],.int .i64 0,.int .i64 0,.lst false 0 [],.int .u8 0,.int .u8 0,.int .u8 0,.int .u8 0,.lst false 0 [],.lst false 0 [],.bool false,.lst false 0 []]),(4,.cells [.str s,.int .i64 (Int.ofNat a),.bool f]),(5,.cells [.int .i64 (y.id),.int .i64 (y.kd),.str (y.nm),.bool (y.hid),.int .i64 (y.op),.int .i64 (y.md),.bool (y.clip),.int .i64 (y.pl.a),.int .i64 (y.pl.b),.int .i64 (y.pl.c),.int .i64 (y.pl.d),.int .i64 (y.pl.e),.int .i64 (y.pl.f),.int .i64 (y.pl.n),.int .i64 (y.sp),.lst false (y.kids.length) (isD y.kids),.int .i64 (y.of),.int .i64 (y.f.k),.int .i64 (y.f.r),.lst false (y.f.ker.length) (isD y.f.ker),.int .i64 (y.f.dv),.int .i64 (y.f.vl),.lst false (y.f.cu.length) (isD y.f.cu),.int .u8 (y.fi.r),.int .u8 (y.fi.g),.int .u8 (y.fi.b),.int .u8 (y.fi.a),.slc none 0 0 0,.lst false (y.con.length) (tlD y.con),.bool (y.hm),.lst false (y.msk.length) (tlD y.msk)])]) 6))]
 :=RunIs.of (by kernel_rfl) (by kernel_rfl) (by kernel_rfl)
theorem rd_8 (y:Lay) (s:List UInt8) (a:Nat) (f:Bool):∃ L,RunIs Tryz.prog (csH W19 []) [] 1000 3 Tryz.f13 [0,2,4,5] (headN 1 (tailN 7 cdRd)) (sRd y s a f [(42,plP),(43,iW 7)]) L
  [([],
   [((0:Int) ≤ Int.ofNat a∧a ≤ s.length),(s.length ≤ 1000000000)],
   .to .normal (sRd { y with sp:=(rdVf s a f).1 } s (rdVf s a f).2.1 (rdVf s a f).2.2 []))]
 :=RunIs.of (by kernel_rfl) (by kernel_rfl) (by kernel_rfl)
theorem rd_9n (y:Lay) (s:List UInt8) (a:Nat) (f:Bool) (b:Nat) (g:Bool):∃ L,RunIs Tryz.prog (csH (pinW 46 [rP] (hR y s a f) 6 nilS (hR y s b g) 6 W19) []) [] 1000 3 Tryz.f13 [0,2,4,5] (headN 1 (tailN 8 cdRd)) (sRd y s a f []) L
  [([],
   [(pinT [rP] (hR y s a f) 6)],
   .to .normal (stG (fR s []) (mR s b g (y.rc.set 15 nilS)) 6))]
 :=RunIs.of (by kernel_rfl) (by kernel_rfl) (by kernel_rfl)
theorem rd_9o (y:Lay) (s:List UInt8) (a:Nat) (f:Bool) (b:Nat) (g:Bool) (l:List Int):∃ L,RunIs Tryz.prog (csH (pinW 46 [rP] (hR y s a f) 6 (.slc (some (6,0)) l.length l.length 1) (hRo y s b g l) 7 W19) []) [] 1000 3 Tryz.f13 [0,2,4,5] (headN 1 (tailN 8 cdRd)) (sRd y s a f []) L
  [([],
   [(pinT [rP] (hR y s a f) 6)],
   .to .normal (stG (fR s []) (mRo s b g (y.rc.set 15 (.slc (some (6,0)) l.length l.length 1)) l) 7))]
 :=RunIs.of (by kernel_rfl) (by kernel_rfl) (by kernel_rfl)
theorem rd_a (y:Lay) (s:List UInt8) (a:Nat) (f:Bool):∃ L,RunIs Tryz.prog (csH W19 []) [] 1000 3 Tryz.f13 [0,2,4,5] (headN 1 (tailN 9 cdRd)) (sRd y s a f []) L
  [([],
   [((0:Int) ≤ Int.ofNat a∧a ≤ s.length),(s.length ≤ 1000000000)],
   .to .normal (sRd { y with of:=(rdVf s a f).1 } s (rdVf s a f).2.1 (rdVf s a f).2.2 []))]
 :=RunIs.of (by kernel_rfl) (by kernel_rfl) (by kernel_rfl)
theorem rd_b (y:Lay) (s:List UInt8) (a:Nat) (f:Bool):∃ L,RunIs Tryz.prog (csH W19 []) [] 1000 3 Tryz.f13 [0,2,4,5] (headN 1 (tailN 10 cdRd)) (sRd y s a f []) L
  [([],
   [((0:Int) ≤ Int.ofNat a∧a ≤ s.length),(s.length ≤ 1000000000),((0:Int) ≤ Int.ofNat (rdVf s a f).snd.fst∧(Int.ofNat (rdVf s a f).snd.fst).toNat ≤ s.length),(s.length ≤ 1000000000)],
   .to .normal (sRd { y with f:={ y.f with k:=(rdVf s a f).1,r:=(rdVf s (rdVf s a f).2.1 (rdVf s a f).2.2).1 } } s (rdVf s (rdVf s a f).2.1 (rdVf s a f).2.2).2.1 (rdVf s (rdVf s a f).2.1 (rdVf s a f).2.2).2.2 []))]
 :=RunIs.of (by kernel_rfl) (by kernel_rfl) (by kernel_rfl)
theorem rd_cn (y:Lay) (s:List UInt8) (a:Nat) (f:Bool) (b:Nat) (g:Bool):∃ L,RunIs Tryz.prog (csH (pinW 46 [rP] (hR y s a f) 6 nilS (hR y s b g) 6 W19) []) [] 1000 3 Tryz.f13 [0,2,4,5] (headN 1 (tailN 11 cdRd)) (sRd y s a f []) L
  [([],
   [(pinT [rP] (hR y s a f) 6)],
   .to .normal (stG (fR s []) (mR s b g (y.rc.set 19 nilS)) 6))]
 :=RunIs.of (by kernel_rfl) (by kernel_rfl) (by kernel_rfl)
theorem rd_co (y:Lay) (s:List UInt8) (a:Nat) (f:Bool) (b:Nat) (g:Bool) (l:List Int):∃ L,RunIs Tryz.prog (csH (pinW 46 [rP] (hR y s a f) 6 (.slc (some (6,0)) l.length l.length 1) (hRo y s b g l) 7 W19) []) [] 1000 3 Tryz.f13 [0,2,4,5] (headN 1 (tailN 11 cdRd)) (sRd y s a f []) L
  [([],
   [(pinT [rP] (hR y s a f) 6)],
   .to .normal (stG (fR s []) (mRo s b g (y.rc.set 19 (.slc (some (6,0)) l.length l.length 1)) l) 7))]
 :=RunIs.of (by kernel_rfl) (by kernel_rfl) (by kernel_rfl)
theorem rd_d (y:Lay) (s:List UInt8) (a:Nat) (f:Bool):∃ L,RunIs Tryz.prog (csH W19 []) [] 1000 3 Tryz.f13 [0,2,4,5] (headN 1 (tailN 12 cdRd)) (sRd y s a f []) L
  [([],
   [((0:Int) ≤ Int.ofNat a∧a ≤ s.length),(s.length ≤ 1000000000),((0:Int) ≤ Int.ofNat (rdVf s a f).snd.fst∧(Int.ofNat (rdVf s a f).snd.fst).toNat ≤ s.length),(s.length ≤ 1000000000)],
   .to .normal (sRd { y with f:={ y.f with dv:=(rdVf s a f).1,vl:=(rdVf s (rdVf s a f).2.1 (rdVf s a f).2.2).1 } } s (rdVf s (rdVf s a f).2.1 (rdVf s a f).2.2).2.1 (rdVf s (rdVf s a f).2.1 (rdVf s a f).2.2).2.2 []))]
 :=RunIs.of (by kernel_rfl) (by kernel_rfl) (by kernel_rfl)
theorem rd_en (y:Lay) (s:List UInt8) (a:Nat) (f:Bool) (b:Nat) (g:Bool):∃ L,RunIs Tryz.prog (csH (pinW 46 [rP] (hR y s a f) 6 nilS (hR y s b g) 6 W19) []) [] 1000 3 Tryz.f13 [0,2,4,5] (headN 1 (tailN 13 cdRd)) (sRd y s a f []) L
  [([],
   [(pinT [rP] (hR y s a f) 6)],
   .to .normal (stG (fR s []) (mR s b g (y.rc.set 22 nilS)) 6))]
 :=RunIs.of (by kernel_rfl) (by kernel_rfl) (by kernel_rfl)
theorem rd_eo (y:Lay) (s:List UInt8) (a:Nat) (f:Bool) (b:Nat) (g:Bool) (l:List Int):∃ L,RunIs Tryz.prog (csH (pinW 46 [rP] (hR y s a f) 6 (.slc (some (6,0)) l.length l.length 1) (hRo y s b g l) 7 W19) []) [] 1000 3 Tryz.f13 [0,2,4,5] (headN 1 (tailN 13 cdRd)) (sRd y s a f []) L
  [([],
   [(pinT [rP] (hR y s a f) 6)],
   .to .normal (stG (fR s []) (mRo s b g (y.rc.set 22 (.slc (some (6,0)) l.length l.length 1)) l) 7))]
 :=RunIs.of (by kernel_rfl) (by kernel_rfl) (by kernel_rfl)
def fi4 (b:List UInt8):C4:=⟨Int.ofNat (b.getD 0 0).toNat,Int.ofNat (b.getD 1 0).toNat,Int.ofNat (b.getD 2 0).toNat,Int.ofNat (b.getD 3 0).toNat⟩
theorem rd_f (y:Lay) (s:List UInt8) (a:Nat) (f:Bool):∃ L,RunIs Tryz.prog (csH W19 []) [(87,.split)] 1000 3 Tryz.f13 [0,2,4,5] (headN 1 (tailN 14 cdRd)) (sRd y s a f []) L
  [([((!beqB (rdT s a f (4:Int)).fst ([]:List UInt8)),true)],
   [((0:Int) ≤ Int.ofNat a∧a ≤ s.length),(s.length ≤ 1000000000),((0:Int) ≤ (0:Int)∧0 < (rdT s a f (4:Int)).fst.length),((0:Int) ≤ (1:Int)∧1 < (rdT s a f (4:Int)).fst.length),((0:Int) ≤ (2:Int)∧2 < (rdT s a f (4:Int)).fst.length),((0:Int) ≤ (3:Int)∧3 < (rdT s a f (4:Int)).fst.length)],
   .to .normal (sRd { y with fi:=fi4 (rdT s a f 4).1 } s (rdT s a f 4).2.1 (rdT s a f 4).2.2 [])),
  ([((!beqB (rdT s a f (4:Int)).fst ([]:List UInt8)),false)],
   [((0:Int) ≤ Int.ofNat a∧a ≤ s.length),(s.length ≤ 1000000000)],
   .to .normal (sRd y s (rdT s a f 4).2.1 (rdT s a f 4).2.2 []))]
 :=RunIs.of (by kernel_rfl) (by kernel_rfl) (by kernel_rfl)
theorem rd_g (y:Lay) (s:List UInt8) (a:Nat) (f:Bool):∃ L,RunIs Tryz.prog (csH W19 []) [] 1000 3 Tryz.f13 [0,2,4,5,10] (headN 1 (tailN 15 cdRd)) (sRd y s a f []) L
  [([],
   [((0:Int) ≤ Int.ofNat a∧a ≤ s.length),(s.length ≤ 1000000000)],
   .to .normal (sRd y s (rdVf s a f).2.1 (rdVf s a f).2.2 [(10,iX (rdVf s a f).1)]))]
 :=RunIs.of (by kernel_rfl) (by kernel_rfl) (by kernel_rfl)
noncomputable abbrev tlR7:Code:=tailN 16 cdRd
def sRq (y:Lay) (s:List UInt8) (a:Nat) (f:Bool) (n:Int) (i:Nat) (m:Nat) (ds:List D):St:=stG (fR s [(10,iX n),(11,iW i)]) (hL [(3,.cells zLay.cs),(4,.cells (rdC s a f)),(5,.cells (y.cs.set 27 (.slc (some (6,0)) m m 2))),(6,.deep ds)]) 7
theorem rd_h (y:Lay) (s:List UInt8) (a:Nat) (f:Bool) (n:Int):∃ L,RunIs Tryz.prog (csH W19 []) [] 1000 3 Tryz.f13 [0,2,4,5,10,11] (seqL (seqL tlR7)) (sRd y s a f [(10,iX n)]) L
  [([],
   [],
   .to .normal (sRd y s a f [(10,iX n),(11,iW 0)]))]
 :=RunIs.of (by kernel_rfl) (by kernel_rfl) (by kernel_rfl)
abbrev rd_iA1 (s:List UInt8) (a:Nat) (f:Bool):Prop:=(0:Int) ≤ Int.ofNat (rdVf s a f).snd.fst∧(Int.ofNat (rdVf s a f).snd.fst).toNat ≤ s.length
abbrev rd_iA2 (i:Nat):Prop:=V.int IntKind.i64 (IntKind.i64.wrap (Int.ofNat i+(1:Int)))=iW (i+1)
theorem rd_i (y:Lay) (s:List UInt8) (a:Nat) (f:Bool) (n:Int) (i:Nat):∃ L,RunIs Tryz.prog (csH W19 []) [(103,.split),(107,.split),(109,.give (iW (i+1)))] 1000 3 Tryz.f13 [0,2,4,5,10,11] (inner (inner (seqR (seqL tlR7)))) (sRd y s a f [(10,iX n),(11,iW i)]) L
  [([((decide (Int.ofNat i < n)),true),((!f),true)],
   [((0:Int) ≤ Int.ofNat a∧a ≤ s.length),(s.length ≤ 1000000000),rd_iA1 s a f,(s.length ≤ 1000000000),rd_iA2 i],
   .to .normal (stG (fR s [(10,iX n),(11,iW (i+1))]) (hL [(3,.cells zLay.cs),(4,.cells (rdC s (rdVf s (rdVf s a f).2.1 (rdVf s a f).2.2).2.1 (rdVf s (rdVf s a f).2.1 (rdVf s a f).2.2).2.2)),(5,.cells (y.rc.set 27 (.slc (some (6,0)) 1 1 2))),(6,.cells [iX (rdVf s a f).1,iX (rdVf s (rdVf s a f).2.1 (rdVf s a f).2.2).1])]) 7)),
  ([((decide (Int.ofNat i < n)),true),((!f),false)],
   [],
   .to (.exit 2) (sRd y s a f [(10,iX n),(11,iW i)])),
  ([((decide (Int.ofNat i < n)),false),(false,true)],
   [((0:Int) ≤ Int.ofNat a∧a ≤ s.length),(s.length ≤ 1000000000),rd_iA1 s a f,(s.length ≤ 1000000000),rd_iA2 i],
   .to .normal (stG (fR s [(10,iX n),(11,iW (i+1))]) (hL [(3,.cells zLay.cs),(4,.cells (rdC s (rdVf s (rdVf s a f).2.1 (rdVf s a f).2.2).2.1 (rdVf s (rdVf s a f).2.1 (rdVf s a f).2.2).2.2)),(5,.cells (y.rc.set 27 (.slc (some (6,0)) 1 1 2))),(6,.cells [iX (rdVf s a f).1,iX (rdVf s (rdVf s a f).2.1 (rdVf s a f).2.2).1])]) 7)),
  ([((decide (Int.ofNat i < n)),false),(false,false)],
   [],
   .to (.exit 2) (sRd y s a f [(10,iX n),(11,iW i)]))]
 :=RunIs.of (by kernel_rfl) (by kernel_rfl) (by kernel_rfl)
abbrev rd_jA1 (s:List UInt8) (a:Nat) (f:Bool):Prop:=(0:Int) ≤ Int.ofNat (rdVf s a f).snd.fst∧(Int.ofNat (rdVf s a f).snd.fst).toNat ≤ s.length
abbrev rd_jA2 (i:Nat):Prop:=V.int IntKind.i64 (IntKind.i64.wrap (Int.ofNat i+(1:Int)))=iW (i+1)
theorem rd_j (y:Lay) (s:List UInt8) (a:Nat) (f:Bool) (n:Int) (i:Nat) (l:List (Int × Int)):∃ L,RunIs Tryz.prog (csH W19 []) [(103,.split),(107,.split),(109,.give (iW (i+1)))] 1000 3 Tryz.f13 [0,2,4,5,10,11] (inner (inner (seqR (seqL tlR7)))) (sRq y s a f n i l.length (ptD l)) L
  [([((decide (Int.ofNat i < n)),true),((!f),true)],
   [((0:Int) ≤ Int.ofNat a∧a ≤ s.length),(s.length ≤ 1000000000),rd_jA1 s a f,(s.length ≤ 1000000000),(0+l.length * 2 ≤ (ptD l).length),(0 < 1),(roomy (l.length+1) 2 16=true),rd_jA2 i],
   .to .normal (sRq y s (rdVf s (rdVf s a f).2.1 (rdVf s a f).2.2).2.1 (rdVf s (rdVf s a f).2.1 (rdVf s a f).2.2).2.2 n (i+1) (l.length+1) (List.take (l.length * 2) (List.drop 0 (ptD l)) ++ [.int .i64 (rdVf s a f).1,.int .i64 (rdVf s (rdVf s a f).2.1 (rdVf s a f).2.2).1]))),
  ([((decide (Int.ofNat i < n)),true),((!f),false)],
   [],
   .to (.exit 2) (sRq y s a f n i l.length (ptD l))),
  ([((decide (Int.ofNat i < n)),false),(false,true)],
   [((0:Int) ≤ Int.ofNat a∧a ≤ s.length),(s.length ≤ 1000000000),rd_jA1 s a f,(s.length ≤ 1000000000),(0+l.length * 2 ≤ (ptD l).length),(0 < 1),(roomy (l.length+1) 2 16=true),rd_jA2 i],
   .to .normal (sRq y s (rdVf s (rdVf s a f).2.1 (rdVf s a f).2.2).2.1 (rdVf s (rdVf s a f).2.1 (rdVf s a f).2.2).2.2 n (i+1) (l.length+1) (List.take (l.length * 2) (List.drop 0 (ptD l)) ++ [.int .i64 (rdVf s a f).1,.int .i64 (rdVf s (rdVf s a f).2.1 (rdVf s a f).2.2).1]))),
  ([((decide (Int.ofNat i < n)),false),(false,false)],
   [],
   .to (.exit 2) (sRq y s a f n i l.length (ptD l)))]
 :=RunIs.of (by kernel_rfl) (by kernel_rfl) (by kernel_rfl)
theorem rd_k (y:Lay) (s b:List UInt8) (a m:Nat) (f:Bool) (n:Int) (i:Nat):∃ L,RunIs Tryz.prog (csH (pinN 9 [y.v] (.str b) W19) []) [(122,.split),(127,.split)] 1000 3 Tryz.f13 [] (seqR tlR7) (stG (fR s [(10,iX n),(11,iW i)]) (hL [(3,.cells zLay.cs),(4,.cells (rdC s a f)),(5,.cells y.cs)]) (m+6)) L
  [([(f,true),(true,true)],
   [],
   .ret (.tup [.agg (z31 0 0 []),iX 11]) (hL []) 3),
  ([(f,true),(true,false)],
   [],
   .ret (.tup [y.v,iX 0]) (hL []) 3),
  ([(f,false),((!beqB b s),true)],
   [(pinA [y.v])],
   .ret (.tup [.agg (z31 0 0 []),iX 11]) (hL []) 3),
  ([(f,false),((!beqB b s),false)],
   [(pinA [y.v])],
   .ret (.tup [y.v,iX 0]) (hL []) 3)]
 :=RunIs.of (by kernel_rfl) (by kernel_rfl) (by kernel_rfl)
end Go.Proofs.YtmjggdmekboefaaGreatDoor
namespace Go.Proofs.YtmjggdmekboefaaGreatDoor
open Go Go.Eng
theorem beqE {a b:List UInt8} (h:beqB a b=true):a=b:=by rw [beqB_eq] at h; exact beq_iff_eq.1 h
theorem beqN {a b:List UInt8} (h:beqB a b=false):a ≠ b:=by rw [beqB_eq] at h; exact beq_eq_false_iff_ne.1 h
abbrev hEnd (y:Lay) (s:List UInt8) (a:Nat) (f:Bool):Tr O:=hL [(3,.cells zLay.cs),(4,.cells (rdC s a f)),(5,.cells y.cs)]
theorem msr_le {s:List UInt8} {a:Nat} {f:Bool} (h:a ≤ s.length):msr s (rdVf s a f).2.1 (rdVf s a f).2.2 ≤ msr s a f:=by
 cases f with
 | false=>exact Nat.le_of_lt (msr_lt h)
 | true=>exact Nat.le_refl _
def ppF (s:List UInt8):Nat→Int→Nat→Bool→List (Int × Int) × Nat × Bool
 | 0,_,a,f=>([],a,f)
 | k+1,m,a,f=>if 0 < m∧f=false then
    (((rdVf s a f).1,(rdVf s (rdVf s a f).2.1 (rdVf s a f).2.2).1) :: (ppF s k (m - 1) (rdVf s (rdVf s a f).2.1 (rdVf s a f).2.2).2.1 (rdVf s (rdVf s a f).2.1 (rdVf s a f).2.2).2.2).1,(ppF s k (m - 1) (rdVf s (rdVf s a f).2.1 (rdVf s a f).2.2).2.1 (rdVf s (rdVf s a f).2.1 (rdVf s a f).2.2).2.2).2)
   else ([],a,f)
theorem ppF_at (s:List UInt8):∀ k m a f,a ≤ s.length→(ppF s k m a f).2.1 ≤ s.length∧(ppF s k m a f).1.length ≤ k
 | 0,_,_,_,h=>⟨h,Nat.le_refl _⟩
 | k+1,m,a,f,h=>by
   unfold ppF
   split
   · have:=ppF_at s k (m - 1) _ (rdVf s (rdVf s a f).2.1 (rdVf s a f).2.2).2.2 (rdVf_at s _ (rdVf s a f).2.2 (rdVf_at s a f h))
     exact ⟨this.1,by simp only [List.length_cons]; omega⟩
   · exact ⟨h,by simp⟩
def sP (y:Lay) (s:List UInt8) (n:Int) (x:Nat × List (Int × Int) × Nat × Bool):St:=match x.2.1 with
 | []=>sRd y s x.2.2.1 x.2.2.2 [(10,iX n),(11,iW 0)]
 | l=>sRq y s x.2.2.1 x.2.2.2 n l.length l.length (ptD l)
theorem roomy_ok16 {k:Nat} (h:k ≤ 1000000000):roomy k 2 16=true:=by
 unfold roomy
 exact decide_eq_true ⟨by omega,by omega⟩
theorem ptD_app (l:List (Int × Int)) (p q:Int):List.take (l.length * 2) (List.drop 0 (ptD l)) ++ [D.int .i64 p,D.int .i64 q]=ptD (l ++ [(p,q)]):=by
 rw [List.drop_zero,List.take_of_length_le (by rw [ptD_len]; exact Nat.le_refl _)]
 unfold ptD
 simp
end Go.Proofs.YtmjggdmekboefaaGreatDoor
