/- The Chunk laws: octet.Reader: Var: pieces. No conditions. -/
import Derived.Test.YtfihojpgobmmdaaGreatDoorJointEight
import Derived.Test.YtfihojpgobmmdaaGreatDoorJointSeventeen
import Derived.Test.YtfihojpgobmmdaaGreatDoorJointFourteen
import Derived.Test.YtfihojpgobmmdaaGreatDoorJointFifteen
import Derived.Test.YtfihojpgobmmdaaGreatDoorJointTwelve
import Derived.Test.YtfihojpgobmmdaaGreatDoorJointSixteen
import Derived.Shelf.SlicesG.Clone
set_option linter.unusedVariables false
set_option linter.unusedSimpArgs false
set_option linter.unusedSectionVars false
namespace Go.Proofs.YtfihojpgobmmdaaGreatDoor
open Go Go.Eng
noncomputable abbrev cdRV:Code:=bodyOf Tryz.f110
noncomputable abbrev tlRV:Code:=tailN 3 cdRV
noncomputable abbrev lpRV:Code:=seqL tlRV
noncomputable abbrev bdRV:Code:=inner (inner (seqR lpRV))
abbrev rdP:V:=.ptr (some (3,0))
abbrev rdC (s:List UInt8) (a:Nat) (f:Bool):List V:=[.str s,.int .i64 (Int.ofNat a),.bool f]
def uS (u:Int) (b:UInt8) (i:Nat):Int:=IntKind.u64.wrap (Int.ofNat (BitVec.ofInt 64 u ||| BitVec.ofInt 64 (IntKind.u64.wrap (IntKind.u64.wrap (IntKind.u8.wrap (Int.ofNat (BitVec.ofInt 8 (Int.ofNat b.toNat) &&& BitVec.ofInt 8 (127:Int)).toNat)) * (2:Int) ^ min (Int.ofNat (7 * i)).toNat 64))).toNat)
def sRV (s:List UInt8) (a:Nat) (u:Int) (m i:Nat):St:=stG [(0,rdP),(3,.int .u64 u),(16,.int .i64 (Int.ofNat m)),(17,.int .i64 (Int.ofNat i))] (hP (rdC s a false)) 4
theorem rv1_t (s:List UInt8) (a:Int):∃ L,RunIs Tryz.prog (csQ []) [] 1000 4 Tryz.f110 [] (cdRV) (startSt [rdP] (hP [.str s,.int .i64 a,.bool true]) 4) L
  [([],
   [],
   .ret (.int .i64 0) (hL [(3,.cells [.str s,.int .i64 a,.bool true])]) 4)]
 :=RunIs.of (by kernel_rfl) (by kernel_rfl) (by kernel_rfl)
theorem rv1_h (s:List UInt8) (a:Nat):∃ L,RunIs Tryz.prog (csQ []) [] 1000 4 Tryz.f110 [0,3] (headN 3 cdRV) (startSt [rdP] (hP (rdC s a false)) 4) L
  [([],
   [],
   .to .normal (stG [(0,.ptr (some (3,0))),(3,.int .u64 0)] (hL [(3,.cells [.str s,.int .i64 (Int.ofNat a),.bool false])]) 4))]
 :=RunIs.of (by kernel_rfl) (by kernel_rfl) (by kernel_rfl)
theorem rv1_i (s:List UInt8) (a m:Nat):∃ L,RunIs Tryz.prog (csQ []) [(16,.give (.int .i64 (Int.ofNat m))),(17,.give (.int .i64 (Int.ofNat 0)))] 1000 4 Tryz.f110 [0,3,16,17] (seqL lpRV) (stG [(0,rdP),(3,.int .u64 0)] (hP (rdC s a false)) 4) L
  [([],
   [(V.int IntKind.i64 (if IntKind.i64.wrap ((Int.ofNat s.length) - Int.ofNat a) < (10:Int) then IntKind.i64.wrap ((Int.ofNat s.length) - Int.ofNat a) else (10:Int))=V.int IntKind.i64 (Int.ofNat m)),(V.int IntKind.i64 (0:Int)=V.int IntKind.i64 (0:Int))],
   .to .normal (stG [(0,.ptr (some (3,0))),(3,.int .u64 0),(16,.int .i64 (Int.ofNat m)),(17,.int .i64 0)] (hL [(3,.cells [.str s,.int .i64 (Int.ofNat a),.bool false])]) 4))]
 :=RunIs.of (by kernel_rfl) (by kernel_rfl) (by kernel_rfl)
abbrev rv1_bA1 (i:Nat) (u:Int) (b:UInt8):Prop:=V.int IntKind.u64 (IntKind.u64.wrap (Int.ofNat (BitVec.ofInt 64 u ||| BitVec.ofInt 64 (IntKind.u64.wrap (IntKind.u64.wrap (IntKind.u8.wrap (Int.ofNat (BitVec.ofInt 8 (Int.ofNat b.toNat) &&& BitVec.ofInt 8 (127:Int)).toNat)) * (2:Int) ^ min (7 * i) 64))).toNat))=V.int IntKind.u64 (uS u b i)
abbrev rv1_bA2 (s:List UInt8) (a i:Nat) (b:UInt8):Prop:=V.int IntKind.u8 (Int.ofNat (s.getD (a+i) (0:UInt8)).toNat)=V.int IntKind.u8 (Int.ofNat b.toNat)
theorem rv1_b (s:List UInt8) (a m i:Nat) (u:Int) (b:UInt8):∃ L,RunIs Tryz.prog (csQ []) [(18,.split),(29,.give (.int .i64 (Int.ofNat (a+i)))),(30,.give (.int .u8 (Int.ofNat b.toNat))),(36,.give (.int .i64 (Int.ofNat (7 * i)))),(38,.give (.int .u64 (uS u b i))),(40,.split),(43,.split),(47,.split),(50,.split),(54,.split),(61,.give (.int .i64 (Int.ofNat (a+(i+1))))),(66,.give (.int .i64 (Int.ofNat (i+1))))] 1000 4 Tryz.f110 [0,3,16,17] (bdRV) (sRV s a u m i) L
  [([((decide (Int.ofNat i < Int.ofNat m)),true),((decide (Int.ofNat b.toNat ≥ (128:Int))),true)],
   [ieq (Int.ofNat a+Int.ofNat i) (a+i),((0:Int) ≤ Int.ofNat (a+i)∧(a+i) < s.length),rv1_bA2 s a i b,ieq ((7:Int) * Int.ofNat i) (7 * i),rv1_bA1 i u b,ieq (Int.ofNat i+(1:Int)) (i+1)],
   .to .normal (stG [(0,.ptr (some (3,0))),(3,.int .u64 (uS u b i)),(16,.int .i64 (Int.ofNat m)),(17,.int .i64 (Int.ofNat (i+1)))] (hL [(3,.cells [.str s,.int .i64 (Int.ofNat a),.bool false])]) 4)),
  ([((decide (Int.ofNat i < Int.ofNat m)),true),((decide (Int.ofNat b.toNat ≥ (128:Int))),false),((decide (Int.ofNat i > (0:Int))),true),((Int.ofNat b.toNat == (0:Int)),true),(true,true)],
   [ieq (Int.ofNat a+Int.ofNat i) (a+i),((0:Int) ≤ Int.ofNat (a+i)∧(a+i) < s.length),rv1_bA2 s a i b,ieq ((7:Int) * Int.ofNat i) (7 * i),rv1_bA1 i u b],
   .to (.exit 0) (stG [(0,.ptr (some (3,0))),(3,.int .u64 (uS u b i)),(16,.int .i64 (Int.ofNat m)),(17,.int .i64 (Int.ofNat i))] (hL [(3,.cells [.str s,.int .i64 (Int.ofNat a),.bool false])]) 4)),
  ([((decide (Int.ofNat i < Int.ofNat m)),true),((decide (Int.ofNat b.toNat ≥ (128:Int))),false),((decide (Int.ofNat i > (0:Int))),true),((Int.ofNat b.toNat == (0:Int)),true),(true,false)],
   [ieq (Int.ofNat a+Int.ofNat i) (a+i),((0:Int) ≤ Int.ofNat (a+i)∧(a+i) < s.length),rv1_bA2 s a i b,ieq ((7:Int) * Int.ofNat i) (7 * i),rv1_bA1 i u b,ieq (Int.ofNat a+IntKind.i64.wrap (Int.ofNat i+(1:Int))) (a+(i+1))],
   .ret (.int .i64 (IntKind.i64.wrap (uS u b i))) (hL [(3,.cells [.str s,.int .i64 (Int.ofNat (a+(i+1))),.bool false])]) 4),
  ([((decide (Int.ofNat i < Int.ofNat m)),true),((decide (Int.ofNat b.toNat ≥ (128:Int))),false),((decide (Int.ofNat i > (0:Int))),true),((Int.ofNat b.toNat == (0:Int)),false),((Int.ofNat i == (9:Int)),true),((decide (Int.ofNat b.toNat > (1:Int))),true)],
   [ieq (Int.ofNat a+Int.ofNat i) (a+i),((0:Int) ≤ Int.ofNat (a+i)∧(a+i) < s.length),rv1_bA2 s a i b,ieq ((7:Int) * Int.ofNat i) (7 * i),rv1_bA1 i u b],
   .to (.exit 0) (stG [(0,.ptr (some (3,0))),(3,.int .u64 (uS u b i)),(16,.int .i64 (Int.ofNat m)),(17,.int .i64 (Int.ofNat i))] (hL [(3,.cells [.str s,.int .i64 (Int.ofNat a),.bool false])]) 4)),
  ([((decide (Int.ofNat i < Int.ofNat m)),true),((decide (Int.ofNat b.toNat ≥ (128:Int))),false),((decide (Int.ofNat i > (0:Int))),true),((Int.ofNat b.toNat == (0:Int)),false),((Int.ofNat i == (9:Int)),true),((decide (Int.ofNat b.toNat > (1:Int))),false)],
   [ieq (Int.ofNat a+Int.ofNat i) (a+i),((0:Int) ≤ Int.ofNat (a+i)∧(a+i) < s.length),rv1_bA2 s a i b,ieq ((7:Int) * Int.ofNat i) (7 * i),rv1_bA1 i u b,ieq (Int.ofNat a+IntKind.i64.wrap (Int.ofNat i+(1:Int))) (a+(i+1))],
   .ret (.int .i64 (IntKind.i64.wrap (uS u b i))) (hL [(3,.cells [.str s,.int .i64 (Int.ofNat (a+(i+1))),.bool false])]) 4),
  ([((decide (Int.ofNat i < Int.ofNat m)),true),((decide (Int.ofNat b.toNat ≥ (128:Int))),false),((decide (Int.ofNat i > (0:Int))),true),((Int.ofNat b.toNat == (0:Int)),false),((Int.ofNat i == (9:Int)),false),(false,true)],
   [ieq (Int.ofNat a+Int.ofNat i) (a+i),((0:Int) ≤ Int.ofNat (a+i)∧(a+i) < s.length),rv1_bA2 s a i b,ieq ((7:Int) * Int.ofNat i) (7 * i),rv1_bA1 i u b],
   .to (.exit 0) (stG [(0,.ptr (some (3,0))),(3,.int .u64 (uS u b i)),(16,.int .i64 (Int.ofNat m)),(17,.int .i64 (Int.ofNat i))] (hL [(3,.cells [.str s,.int .i64 (Int.ofNat a),.bool false])]) 4)),
  ([((decide (Int.ofNat i < Int.ofNat m)),true),((decide (Int.ofNat b.toNat ≥ (128:Int))),false),((decide (Int.ofNat i > (0:Int))),true),((Int.ofNat b.toNat == (0:Int)),false),((Int.ofNat i == (9:Int)),false),(false,false)],
   [ieq (Int.ofNat a+Int.ofNat i) (a+i),((0:Int) ≤ Int.ofNat (a+i)∧(a+i) < s.length),rv1_bA2 s a i b,ieq ((7:Int) * Int.ofNat i) (7 * i),rv1_bA1 i u b,ieq (Int.ofNat a+IntKind.i64.wrap (Int.ofNat i+(1:Int))) (a+(i+1))],
   .ret (.int .i64 (IntKind.i64.wrap (uS u b i))) (hL [(3,.cells [.str s,.int .i64 (Int.ofNat (a+(i+1))),.bool false])]) 4),
  ([((decide (Int.ofNat i < Int.ofNat m)),true),((decide (Int.ofNat b.toNat ≥ (128:Int))),false),((decide (Int.ofNat i > (0:Int))),false),(false,true),(true,true)],
   [ieq (Int.ofNat a+Int.ofNat i) (a+i),((0:Int) ≤ Int.ofNat (a+i)∧(a+i) < s.length),rv1_bA2 s a i b,ieq ((7:Int) * Int.ofNat i) (7 * i),rv1_bA1 i u b],
   .to (.exit 0) (stG [(0,.ptr (some (3,0))),(3,.int .u64 (uS u b i)),(16,.int .i64 (Int.ofNat m)),(17,.int .i64 (Int.ofNat i))] (hL [(3,.cells [.str s,.int .i64 (Int.ofNat a),.bool false])]) 4)),
  ([((decide (Int.ofNat i < Int.ofNat m)),true),((decide (Int.ofNat b.toNat ≥ (128:Int))),false),((decide (Int.ofNat i > (0:Int))),false),(false,true),(true,false)],
   [ieq (Int.ofNat a+Int.ofNat i) (a+i),((0:Int) ≤ Int.ofNat (a+i)∧(a+i) < s.length),rv1_bA2 s a i b,ieq ((7:Int) * Int.ofNat i) (7 * i),rv1_bA1 i u b,ieq (Int.ofNat a+IntKind.i64.wrap (Int.ofNat i+(1:Int))) (a+(i+1))],
   .ret (.int .i64 (IntKind.i64.wrap (uS u b i))) (hL [(3,.cells [.str s,.int .i64 (Int.ofNat (a+(i+1))),.bool false])]) 4),
  ([((decide (Int.ofNat i < Int.ofNat m)),true),((decide (Int.ofNat b.toNat ≥ (128:Int))),false),((decide (Int.ofNat i > (0:Int))),false),(false,false),((Int.ofNat i == (9:Int)),true),((decide (Int.ofNat b.toNat > (1:Int))),true)],
   [ieq (Int.ofNat a+Int.ofNat i) (a+i),((0:Int) ≤ Int.ofNat (a+i)∧(a+i) < s.length),rv1_bA2 s a i b,ieq ((7:Int) * Int.ofNat i) (7 * i),rv1_bA1 i u b],
   .to (.exit 0) (stG [(0,.ptr (some (3,0))),(3,.int .u64 (uS u b i)),(16,.int .i64 (Int.ofNat m)),(17,.int .i64 (Int.ofNat i))] (hL [(3,.cells [.str s,.int .i64 (Int.ofNat a),.bool false])]) 4)),
  ([((decide (Int.ofNat i < Int.ofNat m)),true),((decide (Int.ofNat b.toNat ≥ (128:Int))),false),((decide (Int.ofNat i > (0:Int))),false),(false,false),((Int.ofNat i == (9:Int)),true),((decide (Int.ofNat b.toNat > (1:Int))),false)],
   [ieq (Int.ofNat a+Int.ofNat i) (a+i),((0:Int) ≤ Int.ofNat (a+i)∧(a+i) < s.length),rv1_bA2 s a i b,ieq ((7:Int) * Int.ofNat i) (7 * i),rv1_bA1 i u b,ieq (Int.ofNat a+IntKind.i64.wrap (Int.ofNat i+(1:Int))) (a+(i+1))],
   .ret (.int .i64 (IntKind.i64.wrap (uS u b i))) (hL [(3,.cells [.str s,.int .i64 (Int.ofNat (a+(i+1))),.bool false])]) 4),
  ([((decide (Int.ofNat i < Int.ofNat m)),true),((decide (Int.ofNat b.toNat ≥ (128:Int))),false),((decide (Int.ofNat i > (0:Int))),false),(false,false),((Int.ofNat i == (9:Int)),false),(false,true)],
   [ieq (Int.ofNat a+Int.ofNat i) (a+i),((0:Int) ≤ Int.ofNat (a+i)∧(a+i) < s.length),rv1_bA2 s a i b,ieq ((7:Int) * Int.ofNat i) (7 * i),rv1_bA1 i u b],
   .to (.exit 0) (stG [(0,.ptr (some (3,0))),(3,.int .u64 (uS u b i)),(16,.int .i64 (Int.ofNat m)),(17,.int .i64 (Int.ofNat i))] (hL [(3,.cells [.str s,.int .i64 (Int.ofNat a),.bool false])]) 4)),
  ([((decide (Int.ofNat i < Int.ofNat m)),true),((decide (Int.ofNat b.toNat ≥ (128:Int))),false),((decide (Int.ofNat i > (0:Int))),false),(false,false),((Int.ofNat i == (9:Int)),false),(false,false)],
   [ieq (Int.ofNat a+Int.ofNat i) (a+i),((0:Int) ≤ Int.ofNat (a+i)∧(a+i) < s.length),rv1_bA2 s a i b,ieq ((7:Int) * Int.ofNat i) (7 * i),rv1_bA1 i u b,ieq (Int.ofNat a+IntKind.i64.wrap (Int.ofNat i+(1:Int))) (a+(i+1))],
   .ret (.int .i64 (IntKind.i64.wrap (uS u b i))) (hL [(3,.cells [.str s,.int .i64 (Int.ofNat (a+(i+1))),.bool false])]) 4),
  ([((decide (Int.ofNat i < Int.ofNat m)),false)],
   [],
   .to (.exit 0) (stG [(0,.ptr (some (3,0))),(3,.int .u64 u),(16,.int .i64 (Int.ofNat m)),(17,.int .i64 (Int.ofNat i))] (hL [(3,.cells [.str s,.int .i64 (Int.ofNat a),.bool false])]) 4))]
 :=RunIs.of (by kernel_rfl) (by kernel_rfl) (by kernel_rfl)
theorem rv1_e (s:List UInt8) (a m i:Nat) (u:Int):∃ L,RunIs Tryz.prog (csQ []) [] 1000 4 Tryz.f110 [] (seqR tlRV) (sRV s a u m i) L
  [([],
   [],
   .ret (.int .i64 0) (hL [(3,.cells [.str s,.int .i64 (Int.ofNat a),.bool true])]) 4)]
 :=RunIs.of (by kernel_rfl) (by kernel_rfl) (by kernel_rfl)
end Go.Proofs.YtfihojpgobmmdaaGreatDoor
namespace Go.Proofs.YtfihojpgobmmdaaGreatDoor
open Go Go.Eng
theorem gtok:GtOk:=by
 refine ⟨by decide,fun j hj=>?_,Nat.le_of_ble_eq_true rfl⟩
 rcases j with _ | _ | _ | j
 · exact ⟨(0,0),by simp [gtab],rfl⟩
 · exact ⟨(1,1),by simp [gtab],rfl⟩
 · exact ⟨(2,2),by simp [gtab],rfl⟩
 · have:gN=3:=rfl
   omega
def rvL (s:List UInt8) (a:Nat):Nat→Nat→Int→Option (Int × Nat)
 | 0,_,_=>none
 | k+1,i,u=>if 128 ≤ (s.getD (a+i) 0).toNat then rvL s a k (i+1) (uS u (s.getD (a+i) 0) i)
   else if (0 < i∧(s.getD (a+i) 0).toNat=0) ∨ (i=9∧1 < (s.getD (a+i) 0).toNat) then none else some (IntKind.i64.wrap (uS u (s.getD (a+i) 0) i),i+1)
def rdM (s:List UInt8) (a:Nat):Nat:=min 10 (s.length - a)
def rdVar (s:List UInt8) (a:Nat):Option (Int × Nat):=rvL s a (rdM s a) 0 0
def rdV (s:List UInt8) (a:Nat):Int × Nat × Bool:=match rdVar s a with
 | some (v,k)=>(v,a+k,false)
 | none=>(0,a,true)
theorem wrap_nat {n:Nat} (h:n ≤ 9000000000000000000):IntKind.i64.wrap (n:Int)=(n:Int):=wrap_id (by omega) (by omega)
theorem hOn:∀ n:Nat,Int.ofNat n=(n:Int):=fun _=>rfl
abbrev RRV (s:List UInt8) (a:Nat) (v:V) (h:Tr O) (n:Nat):Prop:=v= .int .i64 (rdV s a).1∧h=hP (rdC s (rdV s a).2.1 (rdV s a).2.2)∧n=4
theorem tgRV (s:List UInt8) (a:Nat) (ha:a ≤ s.length) (hs:s.length ≤ 1000000000):TG Tryz.prog 4 Tryz.f110.ntmps cdRV (startSt [rdP] (hP (rdC s a false)) 4) (RetG Tryz.prog 4 Tryz.f110 (RRV s a)):=by
 obtain ⟨L1,hr1⟩:=rv1_h s a
 refine TG_isN1 3 (XQ []) mo (by kernel_rfl) hr1 all_nil ?_
 refine TG_seq' (by kernel_rfl) ?_
 refine TG_seq' (by kernel_rfl) ?_
 obtain ⟨L2,hr2⟩:=rv1_i s a (rdM s a)
 have hm:rdM s a ≤ 10∧rdM s a ≤ s.length - a:=⟨Nat.min_le_left _ _,Nat.min_le_right _ _⟩
 have hmm:(if IntKind.i64.wrap ((Int.ofNat s.length) - Int.ofNat a) < (10:Int) then IntKind.i64.wrap ((Int.ofNat s.length) - Int.ofNat a) else (10:Int))=Int.ofNat (rdM s a):=by
  have hw:IntKind.i64.wrap ((Int.ofNat s.length) - Int.ofNat a)=((s.length - a:Nat):Int):=by
   have:(Int.ofNat s.length) - Int.ofNat a=((s.length - a:Nat):Int):=by rw [hOn,hOn]; omega
   rw [this]
   exact wrap_nat (by omega)
  rw [hw,hOn]
  unfold rdM
  split <;> omega
 refine TG_is (XQ []) mo anyR (by kernel_rfl) hr2 fun g hg _=>?_
 rw [List.mem_singleton] at hg; subst hg
 refine ⟨List.forall_mem_cons.2 ⟨by rw [hmm],List.forall_mem_cons.2 ⟨rfl,all_nil⟩⟩,fun s' hs'=>?_⟩
 have hend:∀ u i,rdVar s a=none→TG Tryz.prog 4 Tryz.f110.ntmps (seqR tlRV) (sRV s a u (rdM s a) i) (RetG Tryz.prog 4 Tryz.f110 (RRV s a)):=by
  intro u i hn
  obtain ⟨L,hr⟩:=rv1_e s a (rdM s a) i u
  refine TG_ret (XQ []) mo _ (by kernel_rfl) hr fun g hg _=>?_
  rw [List.mem_singleton] at hg; subst hg
  refine ⟨all_nil,_,_,_,rfl,?_⟩
  unfold RRV rdV; rw [hn]
  exact ⟨rfl,rfl,rfl⟩
 refine TG_whileN (α:=Nat × Int) 0 (fun x=>rdM s a - x.1) (fun x=>x.1 ≤ rdM s a∧rdVar s a=rvL s a (rdM s a - x.1) x.1 x.2) (fun x=>sRV s a x.2 (rdM s a) x.1) (by kernel_rfl) (by kernel_rfl) (0,0) ⟨Nat.zero_le _,rfl⟩ (.norm hs') ?_
 rintro ⟨i,u⟩ ⟨hi,hv⟩
 simp only at hi hv ⊢
 have hlt128:∀ b:UInt8,b.toNat < 256:=fun b=>b.toNat_lt
 obtain ⟨L3,hr3⟩:=rv1_b s a (rdM s a) i u (s.getD (a+i) 0)
 refine TG_is (XQ []) mo (RRV s a) (by kernel_rfl) hr3 fun g hg hc=>?_
 have hA:∀ k,i < rdM s a→k < 1000000000→(0:Int) ≤ Int.ofNat (a+i)∧(Int.ofNat (a+i)).toNat < s.length:=fun k h _=>by rw [hOn]; constructor <;> omega
 by_cases hlt:i < rdM s a
 case neg=>
  have hn:rdVar s a=none:=by rw [hv,show rdM s a - i=0 by omega]; rfl
  simp only [List.mem_cons,List.not_mem_nil,or_false] at hg
  have hf:decide (Int.ofNat i < Int.ofNat (rdM s a))=false:=decide_eq_false (by rw [hOn,hOn]; omega)
  rcases hg with rfl | rfl | rfl | rfl | rfl | rfl | rfl | rfl | rfl | rfl | rfl | rfl | rfl | rfl
  all_goals first
   | (have:=hc _ (List.mem_cons_self ..); simp only [hf] at this; cases this; done)
   | skip
  exact ⟨all_nil,fun s' hs'=>by simp only [andThen,outOf_exit]; exact TG_norm hs' (hend u i hn)⟩
 case pos=>
 have e1:ieq (Int.ofNat a+Int.ofNat i) (a+i):=ieq_ok (by rw [hOn,hOn]; omega) (by omega)
 have e2:=hA 0 hlt (by decide)
 have e3:rv1_bA2 s a i (s.getD (a+i) 0):=rfl
 have e4:ieq ((7:Int) * Int.ofNat i) (7 * i):=ieq_ok (by rw [hOn]; omega) (by omega)
 have e5:rv1_bA1 i u (s.getD (a+i) 0):=rfl
 have e6:ieq (Int.ofNat i+(1:Int)) (i+1):=ieq_ok (by rw [hOn]; omega) (by omega)
 have e7:ieq (Int.ofNat a+IntKind.i64.wrap (Int.ofNat i+(1:Int))) (a+(i+1)):=by
  have:IntKind.i64.wrap (Int.ofNat i+(1:Int))=((i+1:Nat):Int):=by
   have:Int.ofNat i+1=((i+1:Nat):Int):=by rw [hOn]; omega
   rw [this]; exact wrap_nat (by omega)
  exact ieq_ok (by rw [this,hOn]; omega) (by omega)
 have hstep:rdVar s a=if 128 ≤ (s.getD (a+i) 0).toNat then rvL s a (rdM s a - (i+1)) (i+1) (uS u (s.getD (a+i) 0) i)
  else if (0 < i∧(s.getD (a+i) 0).toNat=0) ∨ (i=9∧1 < (s.getD (a+i) 0).toNat) then none else some (IntKind.i64.wrap (uS u (s.getD (a+i) 0) i),i+1):=by
  rw [hv,show rdM s a - i=(rdM s a - (i+1))+1 by omega]; rfl
 generalize s.getD (a+i) 0=b at *
 have hgo:128 ≤ b.toNat→∀ s',normG 4 [0,3,16,17] s'=some (sRV s a (uS u b i) (rdM s a) (i+1))→∃ x':Nat × Int,rdM s a - x'.1 < rdM s a - i∧(x'.1 ≤ rdM s a∧rdVar s a=rvL s a (rdM s a - x'.1) x'.1 x'.2)∧Goes Tryz.prog 4 Tryz.f110.ntmps s' (sRV s a x'.2 (rdM s a) x'.1):=fun h s' hs'=>
  ⟨(i+1,uS u b i),by simp only; omega,⟨by simp only; omega,by rw [hstep,if_pos h]⟩,.norm hs'⟩
 have hbad:¬ 128 ≤ b.toNat→((0 < i∧b.toNat=0) ∨ (i=9∧1 < b.toNat))→∀ s',normG 4 [0,3,16,17] s'=some (sRV s a (uS u b i) (rdM s a) i)→TG Tryz.prog 4 Tryz.f110.ntmps (seqR tlRV) s' (RetG Tryz.prog 4 Tryz.f110 (RRV s a)):=fun h1 h2 s' hs'=>
  TG_norm hs' (hend _ _ (by rw [hstep,if_neg h1,if_pos h2]))
 have hret:¬ 128 ≤ b.toNat→¬ ((0 < i∧b.toNat=0) ∨ (i=9∧1 < b.toNat))→RRV s a (.int .i64 (IntKind.i64.wrap (uS u b i))) (hL [(3,.cells [.str s,.int .i64 (Int.ofNat (a+(i+1))),.bool false])]) 4:=fun h1 h2=>by
  unfold RRV rdV; rw [hstep,if_neg h1,if_neg h2]
  exact ⟨rfl,rfl,rfl⟩
 have q1:(decide (Int.ofNat b.toNat ≥ (128:Int)))=decide (128 ≤ b.toNat):=by rw [hOn]; exact decide_eq_decide.2 (by omega)
 have q2:(decide (Int.ofNat i > (0:Int)))=decide (0 < i):=by rw [hOn]; exact decide_eq_decide.2 (by omega)
 have q3:(Int.ofNat b.toNat == (0:Int))=decide (b.toNat=0):=by
  rw [hOn]; by_cases h:b.toNat=0
  · simp [h]
  · rw [decide_eq_false h]; simpa using h
 have q4:(Int.ofNat i == (9:Int))=decide (i=9):=by
  rw [hOn]; by_cases h:i=9
  · simp [h]
  · rw [decide_eq_false h]
    exact beq_false_of_ne (by omega)
 have q5:(decide (Int.ofNat b.toNat > (1:Int)))=decide (1 < b.toNat):=by rw [hOn]; exact decide_eq_decide.2 (by omega)
 simp only [List.mem_cons,List.not_mem_nil,or_false] at hg
 rw [q1,q2,q3,q4,q5] at hg
 have A5:=fm e1 (fm e2 (fm e3 (fm e4 (fm1 e5))))
 have A6:=fm e1 (fm e2 (fm e3 (fm e4 (fm e5 (fm1 e6)))))
 have A7:=fm e1 (fm e2 (fm e3 (fm e4 (fm e5 (fm1 e7)))))
 have hbad:¬ 128 ≤ b.toNat→((0 < i∧b.toNat=0) ∨ (i=9∧1 < b.toNat))→∀ (Q1:St→Prop) (s':St),normG 4 [0,3,16,17] s'=some (sRV s a (uS u b i) (rdM s a) i)→andThen Q1 (outOf 0 (andThen (fun s'=>TG Tryz.prog 4 Tryz.f110.ntmps (seqR (tailN 3 cdRV)) s' (RetG Tryz.prog 4 Tryz.f110 (RRV s a))) (RetG Tryz.prog 4 Tryz.f110 (RRV s a)))) (.exit 0) s':=fun h1 h2 Q1 s' hs'=>by
  simp only [andThen,outOf_exit]; exact hbad h1 h2 s' hs'
 rcases hg with rfl | rfl | rfl | rfl | rfl | rfl | rfl | rfl | rfl | rfl | rfl | rfl | rfl | rfl
 all_goals
  simp only [List.mem_cons,List.not_mem_nil,or_false,forall_eq_or_imp,forall_eq,decide_eq_true_eq,decide_eq_false_iff_not,reduceCtorEq,and_false,and_true] at hc
 all_goals first | exact hc.elim | skip
 · exact ⟨A6,fun s' hs'=>hgo hc.2 s' hs'⟩
 · exact ⟨A5,fun s' hs'=>hbad hc.2.1 (by omega) _ s' hs'⟩
 · exact ⟨A5,fun s' hs'=>hbad hc.2.1 (by omega) _ s' hs'⟩
 all_goals first
  | exact ⟨A7,hret hc.2.1 (by omega),fun s' hs'=>hs'⟩
  | exact ⟨A5,fun s' hs'=>hbad hc.2.1 (by omega) _ s' hs'⟩
  | exact absurd hlt (by rw [hOn,hOn] at hc; omega)
end Go.Proofs.YtfihojpgobmmdaaGreatDoor
namespace Go.Proofs.YtfihojpgobmmdaaGreatDoor
open Go Go.Eng
def rdVf (s:List UInt8) (a:Nat) (f:Bool):Int × Nat × Bool:=if f then (0,a,true) else rdV s a
theorem rdV_at (s:List UInt8) (a:Nat) (h:a ≤ s.length):(rdV s a).2.1 ≤ s.length∧a ≤ (rdV s a).2.1:=by
 have key:∀ k i u v n,i+k ≤ s.length - a→rvL s a k i u=some (v,n)→n ≤ s.length - a:=by
  intro k
  induction k with
  | zero=>intro i u v n _ e; cases e
  | succ k ih=>
    intro i u v n hi e
    unfold rvL at e
    split at e
    · exact ih _ _ _ _ (by omega) e
    · split at e
      · cases e
      · simp only [Option.some.injEq,Prod.mk.injEq] at e; omega
 unfold rdV
 have hm:rdM s a ≤ s.length - a:=Nat.min_le_right _ _
 cases e:rdVar s a with
 | none=>exact ⟨h,Nat.le_refl _⟩
 | some p=>
   have:=key _ _ _ _ _ (by omega) e
   exact ⟨by simp only; omega,by simp only; omega⟩
def spV:List V→List V→Option (List Prop × V × List V)
 | [.str s,.int .i64 x,.bool f],[]=>some ([0 ≤ x∧x.toNat ≤ s.length,s.length ≤ 1000000000],.int .i64 (rdVf s x.toNat f).1,rdC s (rdVf s x.toNat f).2.1 (rdVf s x.toNat f).2.2)
 | _,_=>none
theorem one_RV:OneW Tryz.prog 110 (ptrW spV):=by
 refine ptrW_ok mo po gtok (Nat.le_of_ble_eq_true (by kernel_rfl)) Tryz.func110 (code:=cdRV) (by kernel_rfl) fun cs args A v cs2 e hA=>⟨?_,?_⟩
 all_goals
  unfold spV at e
  split at e
  case h_2=>cases e
  rename_i s x f
  simp only [Option.some.injEq,Prod.mk.injEq] at e; obtain ⟨rfl,rfl,rfl⟩:=e
 · kernel_rfl
 obtain ⟨a1,a2⟩:=hA _ (List.mem_cons_self ..)
 have a3:s.length ≤ 1000000000:=hA (s.length ≤ 1000000000) (by simp)
 obtain ⟨a,rfl⟩:∃ a:Nat,x=Int.ofNat a:=⟨x.toNat,(Int.toNat_of_nonneg a1).symm⟩
 have a2:a ≤ s.length:=a2
 cases f with
 | false=>exact tgRV s a a2 a3
 | true=>
   obtain ⟨L,hr⟩:=rv1_t s (Int.ofNat a)
   refine TG_ret (XQ []) mo _ (by kernel_rfl) hr fun g hg _=>?_
   rw [List.mem_singleton] at hg; subst hg
   exact ⟨all_nil,_,_,_,rfl,rfl,rfl,rfl⟩
noncomputable abbrev W17:CtrW:=addW 110 (ptrW spV) W14
theorem W17_ok:CtrWOk Tryz.prog W17:=addW_ok one_RV W14_ok
noncomputable abbrev cs17:CallS:=callX Tryz.prog W17 H0 1000 40
noncomputable abbrev X17:CX Tryz.prog:=CX.of mo po W17_ok H0 1000 40
noncomputable abbrev cdRT:Code:=bodyOf Tryz.f111
theorem rt_t (s:List UInt8) (a:Nat) (n:Int):∃ L,RunIs Tryz.prog cs17 [] 1000 4 Tryz.f111 [] (cdRT) (startSt [rdP,.int .i64 n] (hP (rdC s a true)) 4) L
  [([],
   [],
   .ret (.str []) (hL [(3,.cells [.str s,.int .i64 (Int.ofNat a),.bool true])]) 4)]
 :=RunIs.of (by kernel_rfl) (by kernel_rfl) (by kernel_rfl)
abbrev rt_fA1 (s:List UInt8) (a:Nat) (n:Int):Prop:=(0:Int) ≤ Int.ofNat (a+n.toNat)∧Int.ofNat (a+n.toNat) ≤ (Int.ofNat s.length)
theorem rt_f (s:List UInt8) (a l:Nat) (n:Int):∃ L,RunIs Tryz.prog (csQ [(105,[(14,.give (.int .i64 (Int.ofNat l)))])]) [(17,.split),(22,.split),(33,.give (.int .i64 (Int.ofNat (a+n.toNat)))),(45,.give (.int .i64 (Int.ofNat a)))] 1000 4 Tryz.f111 [] (cdRT) (startSt [rdP,.int .i64 n] (hP (rdC s a false)) 4) L
  [([((decide (n < (0:Int))),true),(true,true)],
   [],
   .ret (.str []) (hL [(3,.cells [.str s,.int .i64 (Int.ofNat a),.bool true])]) 4),
  ([((decide (n < (0:Int))),true),(true,false)],
   [ieq (Int.ofNat a+n) (a+n.toNat),ieq (Int.ofNat (a+n.toNat) - n) a,rt_fA1 s a n,((0:Int) ≤ Int.ofNat a∧Int.ofNat a ≤ (Int.ofNat (a+n.toNat)))],
   .ret (.str (List.drop a (List.take (a+n.toNat) s))) (hL [(3,.cells [.str s,.int .i64 (Int.ofNat (a+n.toNat)),.bool false])]) 4),
  ([((decide (n < (0:Int))),false),((decide (n > Int.ofNat l)),true)],
   [ieq ((Int.ofNat s.length) - Int.ofNat a) l],
   .ret (.str []) (hL [(3,.cells [.str s,.int .i64 (Int.ofNat a),.bool true])]) 4),
  ([((decide (n < (0:Int))),false),((decide (n > Int.ofNat l)),false)],
   [ieq ((Int.ofNat s.length) - Int.ofNat a) l,ieq (Int.ofNat a+n) (a+n.toNat),ieq (Int.ofNat (a+n.toNat) - n) a,rt_fA1 s a n,((0:Int) ≤ Int.ofNat a∧Int.ofNat a ≤ (Int.ofNat (a+n.toNat)))],
   .ret (.str (List.drop a (List.take (a+n.toNat) s))) (hL [(3,.cells [.str s,.int .i64 (Int.ofNat (a+n.toNat)),.bool false])]) 4)]
 :=RunIs.of (by kernel_rfl) (by kernel_rfl) (by kernel_rfl)
end Go.Proofs.YtfihojpgobmmdaaGreatDoor
namespace Go.Proofs.YtfihojpgobmmdaaGreatDoor
open Go Go.Eng
def rdT (s:List UInt8) (a:Nat) (f:Bool) (n:Int):List UInt8 × Nat × Bool:=if f=true ∨ n < 0 ∨ ((s.length - a:Nat):Int) < n then ([],a,true) else ((s.drop a).take n.toNat,a+n.toNat,false)
theorem rdT_at (s:List UInt8) (a:Nat) (f:Bool) (n:Int) (h:a ≤ s.length):(rdT s a f n).2.1 ≤ s.length:=by
 unfold rdT; split
 · exact h
 · rename_i hn
   simp only; omega
def spT:List V→List V→Option (List Prop × V × List V)
 | [.str s,.int .i64 x,.bool f],[.int .i64 n]=>some ([0 ≤ x∧x.toNat ≤ s.length,s.length ≤ 1000000000],.str (rdT s x.toNat f n).1,rdC s (rdT s x.toNat f n).2.1 (rdT s x.toNat f n).2.2)
 | _,_=>none
theorem one_RT:OneW Tryz.prog 111 (ptrW spT):=by
 refine ptrW_ok mo po gtok (Nat.le_of_ble_eq_true (by kernel_rfl)) Tryz.func111 (code:=cdRT) (by kernel_rfl) fun cs args A v cs2 e hA=>⟨?_,?_⟩
 all_goals
  unfold spT at e
  split at e
  case h_2=>cases e
  rename_i s x f n
  simp only [Option.some.injEq,Prod.mk.injEq] at e; obtain ⟨rfl,rfl,rfl⟩:=e
 · kernel_rfl
 obtain ⟨a1,a2⟩:=hA _ (List.mem_cons_self ..)
 have a3:s.length ≤ 1000000000:=hA (s.length ≤ 1000000000) (by simp)
 obtain ⟨a,rfl⟩:∃ a:Nat,x=Int.ofNat a:=⟨x.toNat,(Int.toNat_of_nonneg a1).symm⟩
 have a2:a ≤ s.length:=a2
 rw [show (Int.ofNat a).toNat=a from rfl]
 cases f with
 | true=>
   obtain ⟨L,hr⟩:=rt_t s a n
   refine TG_ret X17 mo _ (by kernel_rfl) hr fun g hg _=>?_
   rw [List.mem_singleton] at hg; subst hg
   exact ⟨all_nil,_,_,_,rfl,rfl,rfl,rfl⟩
 | false=>
   obtain ⟨L,hr⟩:=rt_f s a (s.length - a) n
   have hl:ieq ((Int.ofNat s.length) - Int.ofNat a) (s.length - a):=ieq_ok (by rw [hOn,hOn]; omega) (by omega)
   refine TG_ret (XQ [(105,[(14,.give (.int .i64 (Int.ofNat (s.length - a))))])]) mo _ (by kernel_rfl) hr fun g hg hc=>?_
   simp only [List.mem_cons,List.not_mem_nil,or_false] at hg
   rcases hg with rfl | rfl | rfl | rfl
   all_goals
    simp only [List.mem_cons,List.not_mem_nil,or_false,forall_eq_or_imp,forall_eq,decide_eq_true_eq,decide_eq_false_iff_not,reduceCtorEq,and_false,and_true,hOn] at hc
   · refine ⟨all_nil,_,_,_,rfl,?_⟩
     unfold rdT; rw [if_pos (.inr (.inl hc))]
     exact ⟨rfl,rfl,rfl⟩
   · refine ⟨fm1 hl,_,_,_,rfl,?_⟩
     unfold rdT; rw [if_pos (.inr (.inr (by omega)))]
     exact ⟨rfl,rfl,rfl⟩
   · obtain ⟨h1,h2⟩:=hc
     have hn:((n.toNat:Nat):Int)=n:=Int.toNat_of_nonneg (by omega)
     refine ⟨fm hl (fm (ieq_ok (by rw [hOn]; omega) (by omega)) (fm (ieq_ok (by rw [hOn]; omega) (by omega)) (fm ⟨Int.natCast_nonneg _,by rw [hOn,hOn]; omega⟩ (fm1 ⟨Int.natCast_nonneg _,by rw [hOn,hOn]; omega⟩)))),_,_,_,rfl,?_⟩
     unfold rdT; rw [if_neg (by simp only [Bool.false_eq_true,false_or]; omega)]
     rw [List.drop_take,Nat.add_sub_cancel_left]
     exact ⟨rfl,rfl,rfl⟩
noncomputable abbrev W18:CtrW:=addW 111 (ptrW spT) W17
theorem W18_ok:CtrWOk Tryz.prog W18:=addW_ok one_RT W17_ok
noncomputable abbrev cs18:CallS:=callX Tryz.prog W18 H0 1000 40
noncomputable abbrev X18:CX Tryz.prog:=CX.of mo po W18_ok H0 1000 40
noncomputable abbrev cdRX:Code:=bodyOf Tryz.f106
noncomputable abbrev cdRN:Code:=bodyOf Tryz.f107
noncomputable abbrev tlRN:Code:=tailN 2 cdRN
noncomputable abbrev lpRN:Code:=seqL tlRN
def sRN (s:List UInt8) (a:Nat) (f:Bool) (n:Int) (t:List UInt8) (i:Nat):St:=stG [(0,rdP),(5,.int .i64 n),(12,.slc (some (4,0)) t.length t.length 1),(13,.int .i64 (Int.ofNat t.length)),(14,.int .i64 (Int.ofNat i))] (hL [(3,.cells (rdC s a f)),(4,.own .u8 (bytesI t))]) 5
noncomputable abbrev cs18k (k:Nat):CallS:=callX Tryz.prog W18 (hints [(85,[(5,.give (.int .i64 (Int.ofNat k)))])]) 1000 40
noncomputable abbrev X18k (k:Nat):CX Tryz.prog:=CX.of mo po W18_ok (hints [(85,[(5,.give (.int .i64 (Int.ofNat k)))])]) 1000 40
def numS (n:Int) (b:UInt8):Int:=IntKind.i64.wrap (Int.ofNat (BitVec.ofInt 64 (IntKind.i64.wrap (n * (256:Int))) ||| BitVec.ofInt 64 (IntKind.i64.wrap (Int.ofNat b.toNat))).toNat)
abbrev rx_1A1 (s:List UInt8) (a:Nat) (f:Bool):Prop:=(0:Int) ≤ Int.ofNat (rdVf s a f).snd.fst∧(Int.ofNat (rdVf s a f).snd.fst).toNat ≤ s.length
theorem rx_1 (s:List UInt8) (a:Nat) (f:Bool):∃ L,RunIs Tryz.prog cs18 [(21,.split)] 1000 4 Tryz.f106 [] (cdRX) (startSt [rdP] (hP (rdC s a f)) 4) L
  [([(((rdT s (Int.ofNat (rdVf s a f).snd.fst).toNat (rdVf s a f).snd.snd (rdVf s a f).fst).snd.snd),true)],
   [((0:Int) ≤ Int.ofNat a∧a ≤ s.length),(s.length ≤ 1000000000),rx_1A1 s a f,(s.length ≤ 1000000000)],
   .ret (.str ((rdT s (Int.ofNat (rdVf s a f).snd.fst).toNat (rdVf s a f).snd.snd (rdVf s a f).fst).fst)) (hL [(3,.cells [.str s,.int .i64 (Int.ofNat a),.bool ((rdT s (Int.ofNat (rdVf s a f).snd.fst).toNat (rdVf s a f).snd.snd (rdVf s a f).fst).snd.snd)])]) 4),
  ([(((rdT s (Int.ofNat (rdVf s a f).snd.fst).toNat (rdVf s a f).snd.snd (rdVf s a f).fst).snd.snd),false)],
   [((0:Int) ≤ Int.ofNat a∧a ≤ s.length),(s.length ≤ 1000000000),rx_1A1 s a f,(s.length ≤ 1000000000)],
   .ret (.str ((rdT s (Int.ofNat (rdVf s a f).snd.fst).toNat (rdVf s a f).snd.snd (rdVf s a f).fst).fst)) (hL [(3,.cells [.str s,.int .i64 (Int.ofNat (rdT s (Int.ofNat (rdVf s a f).snd.fst).toNat (rdVf s a f).snd.snd (rdVf s a f).fst).snd.fst),.bool ((rdT s (Int.ofNat (rdVf s a f).snd.fst).toNat (rdVf s a f).snd.snd (rdVf s a f).fst).snd.snd)])]) 4)]
 :=RunIs.of (by kernel_rfl) (by kernel_rfl) (by kernel_rfl)
theorem rn_1 (s:List UInt8) (a:Nat) (f:Bool) (k:Nat):∃ L,RunIs Tryz.prog cs18 [] 1000 4 Tryz.f107 [0,1,5] (headN 2 cdRN) (startSt [rdP,.int .i64 (Int.ofNat k)] (hP (rdC s a f)) 4) L
  [([],
   [],
   .to .normal (stG [(0,.ptr (some (3,0))),(1,.int .i64 (Int.ofNat k)),(5,.int .i64 0)] (hL [(3,.cells [.str s,.int .i64 (Int.ofNat a),.bool f])]) 4))]
 :=RunIs.of (by kernel_rfl) (by kernel_rfl) (by kernel_rfl)
theorem rn_2 (s:List UInt8) (a:Nat) (f:Bool) (k:Nat):∃ L,RunIs Tryz.prog (cs18k k) [(14,.give (.int .i64 (Int.ofNat 0)))] 1000 4 Tryz.f107 [0,5,12,13,14] (seqL lpRN) (stG [(0,rdP),(1,.int .i64 (Int.ofNat k)),(5,.int .i64 0)] (hP (rdC s a f)) 4) L
  [([],
   [(V.int IntKind.i64 (if (if (8:Int) < Int.ofNat k then (8:Int) else Int.ofNat k) > (0:Int) then if (8:Int) < Int.ofNat k then (8:Int) else Int.ofNat k else (0:Int))=V.int IntKind.i64 (Int.ofNat k)),((0:Int) ≤ Int.ofNat a∧a ≤ s.length),(s.length ≤ 1000000000),(V.int IntKind.i64 (0:Int)=V.int IntKind.i64 (0:Int))],
   .to .normal (stG [(0,.ptr (some (3,0))),(5,.int .i64 0),(12,.slc (some (4,0)) ((rdT s a f (Int.ofNat k)).fst.length) ((rdT s a f (Int.ofNat k)).fst.length) 1),(13,.int .i64 ((Int.ofNat (rdT s a f (Int.ofNat k)).fst.length))),(14,.int .i64 0)] (hL [(3,.cells [.str s,.int .i64 (Int.ofNat (rdT s a f (Int.ofNat k)).snd.fst),.bool ((rdT s a f (Int.ofNat k)).snd.snd)]),(4,.own .u8 (bytesI (rdT s a f (Int.ofNat k)).fst))]) 5))]
 :=RunIs.of (by kernel_rfl) (by kernel_rfl) (by kernel_rfl)
theorem rn_3 (s:List UInt8) (a:Nat) (f:Bool) (n:Int) (t:List UInt8) (i:Nat) (b:UInt8):∃ L,RunIs Tryz.prog cs18 [(15,.split),(17,.give (.int .u8 (Int.ofNat b.toNat))),(22,.give (.int .i64 (numS n b))),(23,.give (.int .i64 (Int.ofNat (i+1))))] 1000 4 Tryz.f107 [0,5,12,13,14] (inner (inner (seqR lpRN))) (sRN s a f n t i) L
  [([((decide (Int.ofNat i < Int.ofNat t.length)),true)],
   [((0:Int) ≤ Int.ofNat i∧Int.ofNat i < (Int.ofNat t.length)),(0+i * 1 < (bytesI t).length),(V.int IntKind.u8 ((bytesI t).getD (0+i * 1) (0:Int))=V.int IntKind.u8 (Int.ofNat b.toNat)),(V.int IntKind.i64 (IntKind.i64.wrap (Int.ofNat (BitVec.ofInt 64 (IntKind.i64.wrap (n * (256:Int))) ||| BitVec.ofInt 64 (IntKind.i64.wrap (Int.ofNat b.toNat))).toNat))=V.int IntKind.i64 (numS n b)),ieq (Int.ofNat i+(1:Int)) (i+1)],
   .to .normal (stG [(0,.ptr (some (3,0))),(5,.int .i64 (numS n b)),(12,.slc (some (4,0)) (t.length) (t.length) 1),(13,.int .i64 (Int.ofNat t.length)),(14,.int .i64 (Int.ofNat (i+1)))] (hL [(3,.cells [.str s,.int .i64 (Int.ofNat a),.bool f]),(4,.own .u8 (bytesI t))]) 5)),
  ([((decide (Int.ofNat i < Int.ofNat t.length)),false)],
   [],
   .to (.exit 0) (stG [(0,.ptr (some (3,0))),(5,.int .i64 n),(12,.slc (some (4,0)) (t.length) (t.length) 1),(13,.int .i64 (Int.ofNat t.length)),(14,.int .i64 (Int.ofNat i))] (hL [(3,.cells [.str s,.int .i64 (Int.ofNat a),.bool f]),(4,.own .u8 (bytesI t))]) 5))]
 :=RunIs.of (by kernel_rfl) (by kernel_rfl) (by kernel_rfl)
theorem rn_4 (s:List UInt8) (a:Nat) (f:Bool) (n:Int) (t:List UInt8) (i:Nat):∃ L,RunIs Tryz.prog cs18 [] 1000 4 Tryz.f107 [] (seqR tlRN) (sRN s a f n t i) L
  [([],
   [],
   .ret (.int .i64 n) (hL [(3,.cells [.str s,.int .i64 (Int.ofNat a),.bool f])]) 4)]
 :=RunIs.of (by kernel_rfl) (by kernel_rfl) (by kernel_rfl)
end Go.Proofs.YtfihojpgobmmdaaGreatDoor
namespace Go.Proofs.YtfihojpgobmmdaaGreatDoor
open Go Go.Eng
theorem rdVf_at (s:List UInt8) (a:Nat) (f:Bool) (h:a ≤ s.length):(rdVf s a f).2.1 ≤ s.length:=by
 unfold rdVf; split
 · exact h
 · exact (rdV_at s a h).1
def rdTx (s:List UInt8) (a:Nat) (f:Bool):List UInt8 × Nat × Bool:=
 ((rdT s (rdVf s a f).2.1 (rdVf s a f).2.2 (rdVf s a f).1).1,if (rdT s (rdVf s a f).2.1 (rdVf s a f).2.2 (rdVf s a f).1).2.2 then a else (rdT s (rdVf s a f).2.1 (rdVf s a f).2.2 (rdVf s a f).1).2.1,(rdT s (rdVf s a f).2.1 (rdVf s a f).2.2 (rdVf s a f).1).2.2)
theorem rdTx_at (s:List UInt8) (a:Nat) (f:Bool) (h:a ≤ s.length):(rdTx s a f).2.1 ≤ s.length:=by
 unfold rdTx; simp only; split
 · exact h
 · exact rdT_at _ _ _ _ (rdVf_at s a f h)
def spX:List V→List V→Option (List Prop × V × List V)
 | [.str s,.int .i64 x,.bool f],[]=>some ([0 ≤ x∧x.toNat ≤ s.length,s.length ≤ 1000000000],.str (rdTx s x.toNat f).1,rdC s (rdTx s x.toNat f).2.1 (rdTx s x.toNat f).2.2)
 | _,_=>none
theorem one_RX:OneW Tryz.prog 106 (ptrW spX):=by
 refine ptrW_ok mo po gtok (Nat.le_of_ble_eq_true (by kernel_rfl)) Tryz.func106 (code:=cdRX) (by kernel_rfl) fun cs args A v cs2 e hA=>⟨?_,?_⟩
 all_goals
  unfold spX at e
  split at e
  case h_2=>cases e
  rename_i s x f
  simp only [Option.some.injEq,Prod.mk.injEq] at e; obtain ⟨rfl,rfl,rfl⟩:=e
 · kernel_rfl
 obtain ⟨a1,a2⟩:=hA _ (List.mem_cons_self ..)
 have a3:s.length ≤ 1000000000:=hA (s.length ≤ 1000000000) (by simp)
 obtain ⟨a,rfl⟩:∃ a:Nat,x=Int.ofNat a:=⟨x.toNat,(Int.toNat_of_nonneg a1).symm⟩
 have a2:a ≤ s.length:=a2
 rw [show (Int.ofNat a).toNat=a from rfl]
 obtain ⟨L,hr⟩:=rx_1 s a f
 have h1:=rdVf_at s a f a2
 refine TG_ret X18 mo _ (by kernel_rfl) hr fun g hg hc=>?_
 simp only [List.mem_cons,List.not_mem_nil,or_false] at hg
 have A:∀ p ∈ [((0:Int) ≤ Int.ofNat a∧a ≤ s.length),(s.length ≤ 1000000000),((0:Int) ≤ Int.ofNat (rdVf s a f).snd.fst∧(Int.ofNat (rdVf s a f).snd.fst).toNat ≤ s.length),(s.length ≤ 1000000000)],p:=
  fm ⟨Int.natCast_nonneg _,a2⟩ (fm a3 (fm ⟨Int.natCast_nonneg _,h1⟩ (fm1 a3)))
 rcases hg with rfl | rfl
 all_goals
  have q:=hc _ (List.mem_singleton.2 rfl)
  refine ⟨A,_,_,_,rfl,rfl,?_,rfl⟩
  have q:(rdTx s a f).2.2=_:=q
  have q':(rdTx s a f).2.1=if (rdTx s a f).2.2 then a else (rdT s (rdVf s a f).2.1 (rdVf s a f).2.2 (rdVf s a f).1).2.1:=rfl
  rw [q] at q'
  rw [q']
  rfl
def rdN (s:List UInt8) (a:Nat) (f:Bool) (k:Nat):Int × Nat × Bool:=((rdT s a f (Int.ofNat k)).1.foldl numS 0,(rdT s a f (Int.ofNat k)).2.1,(rdT s a f (Int.ofNat k)).2.2)
theorem bytesI_get {t:List UInt8} {i:Nat} {b:UInt8} (h:t[i]? =some b):(bytesI t).getD (0+i * 1) 0=Int.ofNat b.toNat:=by
 unfold bytesI
 rw [List.getD_eq_getElem?_getD,Nat.zero_add,Nat.mul_one,List.getElem?_map,h]; rfl
theorem tgRN (s:List UInt8) (a k:Nat) (f:Bool) (ha:a ≤ s.length) (hs:s.length ≤ 1000000000) (hk:k ≤ 8):TG Tryz.prog 4 Tryz.f107.ntmps cdRN (startSt [rdP,.int .i64 (Int.ofNat k)] (hP (rdC s a f)) 4)
  (RetG Tryz.prog 4 Tryz.f107 fun v h n=>v= .int .i64 (rdN s a f k).1∧h=hP (rdC s (rdN s a f k).2.1 (rdN s a f k).2.2)∧n=4):=by
 obtain ⟨L1,hr1⟩:=rn_1 s a f k
 refine TG_isN1 2 X18 mo (by kernel_rfl) hr1 all_nil ?_
 refine TG_seq' (by kernel_rfl) ?_
 refine TG_seq' (by kernel_rfl) ?_
 obtain ⟨L2,hr2⟩:=rn_2 s a f k
 refine TG_is (X18k k) mo anyR (by kernel_rfl) hr2 fun g hg _=>?_
 rw [List.mem_singleton] at hg; subst hg
 refine ⟨fm (congrArg (V.int IntKind.i64) ?_) (fm ⟨Int.natCast_nonneg _,ha⟩ (fm hs (fm1 rfl))),fun s' hs'=>?_⟩
 · simp only [hOn]
   split <;> split <;> omega
 have hlen:(rdT s a f (Int.ofNat k)).1.length ≤ 8:=by
  unfold rdT; split
  · simp
  · simp only [List.length_take,hOn,Int.toNat_natCast]; omega
 unfold rdN
 generalize hT:rdT s a f (Int.ofNat k)=T at hs' hlen ⊢
 obtain ⟨t,a1,f1⟩:=T
 have hs':normG 4 [0,5,12,13,14] s'=some (sRN s a1 f1 ((t.take 0).foldl numS 0) t 0):=hs'
 simp only at hlen ⊢
 refine TG_forN 0 t.length (fun i=>sRN s a1 f1 ((t.take i).foldl numS 0) t i) (by kernel_rfl) (by kernel_rfl) (.norm hs') (fun i hi=>?_) ?_
 · obtain ⟨b,hb⟩:∃ b,t[i]? =some b:=⟨_,List.getElem?_eq_getElem hi⟩
   obtain ⟨L3,hr3⟩:=rn_3 s a1 f1 ((t.take i).foldl numS 0) t i b
   refine TG_is X18 mo anyR (by kernel_rfl) hr3 fun g hg hc=>?_
   simp only [List.mem_cons,List.not_mem_nil,or_false] at hg
   rcases hg with rfl | rfl
   · refine ⟨fm ⟨Int.natCast_nonneg _,by rw [hOn,hOn]; omega⟩ (fm (by simp only [bytesI,List.length_map]; omega) (fm (congrArg _ (bytesI_get hb)) (fm rfl (fm1 (ieq_ok (by rw [hOn]; omega) (by omega)))))),fun s' hs'=>.norm (live:=[0,5,12,13,14]) ?_⟩
     show _=some (sRN s a1 f1 ((t.take (i+1)).foldl numS 0) t (i+1))
     rw [List.take_add_one,hb,Option.toList_some,List.foldl_append]
     exact hs'
   · exact absurd (of_decide_eq_false (hc _ (List.mem_singleton.2 rfl))) (by rw [hOn,hOn]; omega)
 · obtain ⟨L3,hr3⟩:=rn_3 s a1 f1 ((t.take t.length).foldl numS 0) t t.length 0
   refine TG_is X18 mo anyR (by kernel_rfl) hr3 fun g hg hc=>?_
   simp only [List.mem_cons,List.not_mem_nil,or_false] at hg
   rcases hg with rfl | rfl
   · exact absurd (of_decide_eq_true (hc _ (List.mem_singleton.2 rfl))) (by omega)
   · refine ⟨all_nil,fun s' hs'=>⟨by simp,?_⟩⟩
     rw [outOf_exit]
     simp only [andThen]
     have hs':normG 4 [0,5,12,13,14] s'=some (sRN s a1 f1 ((t.take t.length).foldl numS 0) t t.length):=hs'
     refine TG_norm hs' ?_
     obtain ⟨L5,hr5⟩:=rn_4 s a1 f1 ((t.take t.length).foldl numS 0) t t.length
     refine TG_ret X18 mo _ (by kernel_rfl) hr5 fun g hg _=>?_
     rw [List.mem_singleton] at hg; subst hg
     exact ⟨all_nil,_,_,_,rfl,by rw [List.take_length],rfl,rfl⟩
def spN:List V→List V→Option (List Prop × V × List V)
 | [.str s,.int .i64 x,.bool f],[.int .i64 k]=>some ([0 ≤ x∧x.toNat ≤ s.length,s.length ≤ 1000000000,0 ≤ k∧k.toNat ≤ 8],.int .i64 (rdN s x.toNat f k.toNat).1,rdC s (rdN s x.toNat f k.toNat).2.1 (rdN s x.toNat f k.toNat).2.2)
 | _,_=>none
theorem one_RN:OneW Tryz.prog 107 (ptrW spN):=by
 refine ptrW_ok mo po gtok (Nat.le_of_ble_eq_true (by kernel_rfl)) Tryz.func107 (code:=cdRN) (by kernel_rfl) fun cs args A v cs2 e hA=>⟨?_,?_⟩
 all_goals
  unfold spN at e
  split at e
  case h_2=>cases e
  rename_i s x f k
  simp only [Option.some.injEq,Prod.mk.injEq] at e; obtain ⟨rfl,rfl,rfl⟩:=e
 · kernel_rfl
 obtain ⟨a1,a2⟩:=hA _ (List.mem_cons_self ..)
 have a3:s.length ≤ 1000000000:=hA (s.length ≤ 1000000000) (by simp)
 obtain ⟨a4,a5⟩:0 ≤ k∧k.toNat ≤ 8:=hA (0 ≤ k∧k.toNat ≤ 8) (by simp)
 obtain ⟨a,rfl⟩:∃ a:Nat,x=Int.ofNat a:=⟨x.toNat,(Int.toNat_of_nonneg a1).symm⟩
 obtain ⟨k,rfl⟩:∃ a:Nat,k=Int.ofNat a:=⟨k.toNat,(Int.toNat_of_nonneg a4).symm⟩
 exact tgRN s a k f a2 a3 a5
noncomputable abbrev W19:CtrW:=addW 106 (ptrW spX) (addW 107 (ptrW spN) W18)
theorem W19_ok:CtrWOk Tryz.prog W19:=addW_ok one_RX (addW_ok one_RN W18_ok)
noncomputable abbrev cs19:CallS:=callX Tryz.prog W19 H0 1000 40
noncomputable abbrev X19:CX Tryz.prog:=CX.of mo po W19_ok H0 1000 40
end Go.Proofs.YtfihojpgobmmdaaGreatDoor
namespace Go.Proofs.YtfihojpgobmmdaaGreatDoor
open Go Go.Eng
set_option maxRecDepth 20000 in
theorem or128:∀ x:Nat,x < 256→x ||| 128=x % 128+128:=by decide
theorem u8w (n:Nat):IntKind.u8.wrap (n:Int)=((n % 256:Nat):Int):=by
 simp only [IntKind.wrap,IntKind.bits,IntKind.signed]; simp
theorem u64w (n:Nat):IntKind.u64.wrap (n:Int)=((n % 18446744073709551616:Nat):Int):=by
 simp only [IntKind.wrap,IntKind.bits,IntKind.signed]; simp
theorem hiB_nat (u:Nat):hiB (u:Int)=((u % 128+128:Nat):Int):=by
 unfold hiB
 rw [u8w]
 have h1:(BitVec.ofInt 8 ((u % 256:Nat):Int) ||| BitVec.ofInt 8 (128:Int)).toNat=u % 128+128:=by
  rw [BitVec.toNat_or]
  have e1:(BitVec.ofInt 8 ((u % 256:Nat):Int)).toNat=u % 256:=by
   rw [BitVec.ofInt_natCast,BitVec.toNat_ofNat]; omega
  have e2:(BitVec.ofInt 8 (128:Int)).toNat=128:=rfl
  rw [e1,e2,or128 _ (by omega)]; omega
 rw [h1,hOn,u8w]
 congr 1; omega
theorem loB_nat (u:Nat) (h:u < 128):loB (u:Int)=(u:Int):=by
 unfold loB; rw [u8w]; congr 1; omega
theorem fdiv_nat (u:Nat):(u:Int).fdiv 128=((u / 128:Nat):Int):=by
 rw [Int.fdiv_eq_ediv_of_nonneg _ (by decide)]; rfl
theorem u8_ofNat {n:Nat} (h:n < 256):(UInt8.ofNat n).toNat=n:=by
 rw [UInt8.toNat_ofNat']; omega
theorem uS_nat (acc:Nat) (b:UInt8) (i:Nat) (ha:acc < 2 ^ (7 * i)) (hi:i ≤ 7):uS (acc:Int) b i=((acc+b.toNat % 128 * 2 ^ (7 * i):Nat):Int):=by
 have hb:b.toNat < 256:=b.toNat_lt
 unfold uS
 have e1:(BitVec.ofInt 8 (Int.ofNat b.toNat) &&& BitVec.ofInt 8 (127:Int)).toNat=b.toNat % 128:=by
  rw [BitVec.toNat_and]
  have e2:(BitVec.ofInt 8 (127:Int)).toNat=2 ^ 7 - 1:=rfl
  have e3:(BitVec.ofInt 8 (Int.ofNat b.toNat)).toNat=b.toNat:=by
   rw [hOn,BitVec.ofInt_natCast,BitVec.toNat_ofNat]; omega
  rw [e2,e3,Nat.and_two_pow_sub_one_eq_mod]
 have hp:2 ^ (7 * i) ≤ 2 ^ 49:=Nat.pow_le_pow_right (by decide) (by omega)
 have hmul:b.toNat % 128 * 2 ^ (7 * i) < 128 * 2 ^ 49:=by
  have:b.toNat % 128 < 128:=by omega
  calc b.toNat % 128 * 2 ^ (7 * i) ≤ 127 * 2 ^ (7 * i):=Nat.mul_le_mul_right _ (by omega)
   _ ≤ 127 * 2 ^ 49:=Nat.mul_le_mul_left _ hp
   _ < 128 * 2 ^ 49:=by decide
 rw [e1]
 simp only [hOn]
 rw [u8w,u64w (b.toNat % 128 % 256),Int.toNat_natCast,show min (7 * i) 64=7 * i by omega]
 have e4:(((b.toNat % 128 % 256 % 18446744073709551616:Nat):Int) * (2:Int) ^ (7 * i))=((b.toNat % 128 * 2 ^ (7 * i):Nat):Int):=by
  rw [show b.toNat % 128 % 256 % 18446744073709551616=b.toNat % 128 by omega]
  simp [Int.natCast_mul,Int.natCast_pow]
 rw [e4,u64w (b.toNat % 128 * 2 ^ (7 * i)),BitVec.toNat_or,BitVec.ofInt_natCast,BitVec.ofInt_natCast,BitVec.toNat_ofNat,BitVec.toNat_ofNat]
 have h64:(2:Nat) ^ 64=18446744073709551616:=by decide
 have h49:(128:Nat) * 2 ^ 49 < 18446744073709551616:=by decide
 have h49':(2:Nat) ^ 49 < 18446744073709551616:=by decide
 rw [h64,Nat.mod_mod,Nat.mod_eq_of_lt (a:=acc) (by omega),Nat.mod_eq_of_lt (a:=b.toNat % 128 * 2 ^ (7 * i)) (by omega)]
 have h5:acc ||| b.toNat % 128 * 2 ^ (7 * i)=acc+b.toNat % 128 * 2 ^ (7 * i):=by
  rw [Nat.or_comm,Nat.mul_comm,← Nat.two_pow_add_eq_or_of_lt ha,Nat.add_comm]
 rw [h5,u64w]
 have:acc+b.toNat % 128 * 2 ^ (7 * i) < 18446744073709551616:=by
  have h6:acc < 2 ^ 49:=by omega
  have h7:(128:Nat) * 2 ^ 49+2 ^ 49 < 18446744073709551616:=by decide
  omega
 rw [Nat.mod_eq_of_lt this]
theorem getD_of_drop {s:List UInt8} {q:Nat} {b:UInt8} {r:List UInt8} (h:s.drop q=b :: r):s.getD q 0=b:=by
 have:(s.drop q)[0]? =some b:=by rw [h]; rfl
 rw [List.getElem?_drop,Nat.add_zero] at this
 rw [List.getD_eq_getElem?_getD,this]; rfl
theorem drop_next {s:List UInt8} {q:Nat} {b:UInt8} {r:List UInt8} (h:s.drop q=b :: r):s.drop (q+1)=r:=by
 rw [← List.drop_drop,h]; rfl
theorem u8I {n:Nat} (h:n < 256):(UInt8.ofNat (n:Int).toNat).toNat=n:=by rw [Int.toNat_natCast,u8_ofNat h]
theorem rvL_varL:∀ (k m i acc u:Nat) (s:List UInt8) (a:Nat) (r:List UInt8),u < 128 ^ (k+1)→i+k ≤ 7→acc < 2 ^ (7 * i)→(0 < i→0 < u)→s.drop (a+i)=strI (varL k (u:Int)) ++ r→(varL k (u:Int)).length ≤ m→
  rvL s a m i (acc:Int)=some (((acc+u * 2 ^ (7 * i):Nat):Int),i+(varL k (u:Int)).length)
 | k,0,_,_,u,_,_,_,_,_,_,_,_,hm=>by have:=(varL_len k (u:Int)).1; omega
 | k,m+1,i,acc,u,s,a,r,hu,hi,ha,h0,hs,hm=>by
   have last:u < 128→s.drop (a+i)=UInt8.ofNat (u:Int).toNat :: r→rvL s a (m+1) i (acc:Int)=some (((acc+u * 2 ^ (7 * i):Nat):Int),i+1):=by
    intro hlt hd
    unfold rvL
    rw [getD_of_drop hd,u8I (by omega),if_neg (by omega),if_neg (by omega),uS_nat _ _ _ ha (by omega),u8I (by omega),show u % 128=u by omega]
    have hp:2 ^ (7 * i) ≤ 2 ^ 49:=Nat.pow_le_pow_right (by decide) (by omega)
    have hm2:u * 2 ^ (7 * i) ≤ 127 * 2 ^ 49:=Nat.le_trans (Nat.mul_le_mul_right _ (by omega)) (Nat.mul_le_mul_left _ hp)
    have h9:(127:Nat) * 2 ^ 49+2 ^ 49 ≤ 9000000000000000000:=by decide
    rw [wrap_nat (by omega)]
   cases k with
   | zero=>
     simp only [varL] at hs ⊢
     rw [loB_nat u (by omega)] at hs
     exact last (by omega) hs
   | succ k=>
     unfold varL at hs hm ⊢
     by_cases h128:(128:Int) ≤ (u:Int)
     · rw [if_pos h128] at hs hm ⊢
       rw [hiB_nat,fdiv_nat] at hs
       rw [fdiv_nat] at hm ⊢
       have hs:s.drop (a+i)=UInt8.ofNat ((u % 128+128:Nat):Int).toNat :: (strI (varL k ((u / 128:Nat):Int)) ++ r):=hs
       have hb:=u8I (n:=u % 128+128) (by omega)
       unfold rvL
       rw [getD_of_drop hs,hb,if_pos (by omega),uS_nat _ _ _ ha (by omega),hb]
       have e1:(u % 128+128) % 128=u % 128:=by omega
       rw [e1]
       have hpow:(2:Nat) ^ (7 * (i+1))=128 * 2 ^ (7 * i):=by rw [show 7 * (i+1)=7+7 * i by omega,Nat.pow_add]
       have hlt:u % 128 * 2 ^ (7 * i) ≤ 127 * 2 ^ (7 * i):=Nat.mul_le_mul_right _ (by omega)
       have hu2:u / 128 < 128 ^ (k+1):=by
        rw [Nat.pow_succ] at hu
        exact Nat.div_lt_of_lt_mul (by rw [Nat.mul_comm]; exact hu)
       have ih:=rvL_varL k m (i+1) (acc+u % 128 * 2 ^ (7 * i)) (u / 128) s a r hu2 (by omega) (by rw [hpow]; omega) (by omega) (drop_next hs) (by simpa using hm)
       rw [ih,hpow]
       have e2:acc+u % 128 * 2 ^ (7 * i)+u / 128 * (128 * 2 ^ (7 * i))=acc+u * 2 ^ (7 * i):=by
        rw [Nat.add_assoc,← Nat.mul_assoc,← Nat.add_mul]
        congr 2; omega
       rw [e2,List.length_cons,Nat.add_assoc,Nat.add_comm 1]
     · rw [if_neg h128] at hs hm ⊢
       rw [loB_nat u (by omega)] at hs
       exact last (by omega) hs
theorem strI_len (l:List Int):(strI l).length=l.length:=by unfold strI; rw [List.length_map]
theorem rdV_var {s:List UInt8} {a n:Nat} {r:List UInt8} (hn:n < 34359738368) (h:s.drop a=varB (Int.ofNat n) ++ r):rdV s a=((n:Int),a+(varB (Int.ofNat n)).length,false):=by
 have hl:(varB (Int.ofNat n)).length=(varL 4 (n:Int)).length:=strI_len _
 have h5:=varB_len (Int.ofNat n)
 have hd:s.length - a=(varB (Int.ofNat n)).length+r.length:=by rw [← List.length_drop,h,List.length_append]
 have:=rvL_varL 4 (rdM s a) 0 0 n s a r (by omega) (by omega) (by decide) (by omega) h (by unfold rdM; omega)
 simp only [Nat.zero_add,Nat.mul_zero,Nat.pow_zero,Nat.mul_one] at this
 unfold rdV rdVar
 rw [show ((0:Nat):Int)=0 from rfl] at this
 rw [this,hl]
theorem rdT_eq {s:List UInt8} {a:Nat} {t r:List UInt8} (h:s.drop a=t ++ r):rdT s a false (t.length:Int)=(t,a+t.length,false):=by
 have hd:s.length - a=t.length+r.length:=by rw [← List.length_drop,h,List.length_append]
 unfold rdT
 rw [if_neg (by simp only [Bool.false_eq_true,false_or]; omega),h,Int.toNat_natCast,List.take_left']
 rfl
theorem rdTx_eq {s:List UInt8} {a:Nat} {t r:List UInt8} (ht:t.length < 34359738368) (h:s.drop a=txtB t ++ r):rdTx s a false=(t,a+(txtB t).length,false):=by
 have h1:s.drop a=varB (Int.ofNat t.length) ++ (t ++ r):=by rw [h]; unfold txtB; rw [List.append_assoc]
 have e1:=rdV_var ht h1
 have h2:s.drop (a+(varB (Int.ofNat t.length)).length)=t ++ r:=by rw [← List.drop_drop,h1,List.drop_left']; rfl
 have e2:=rdT_eq h2
 unfold rdTx rdVf
 simp only [Bool.false_eq_true,if_false,e1,e2]
 unfold txtB
 rw [List.length_append,Nat.add_assoc]
theorem numS_nat (n:Nat) (b:UInt8) (h:n < 1099511627776):numS (n:Int) b=((n * 256+b.toNat:Nat):Int):=by
 have hb:b.toNat < 256:=b.toNat_lt
 unfold numS
 have e1:(n:Int) * (256:Int)=((n * 256:Nat):Int):=by simp
 rw [e1,wrap_nat (by omega),hOn b.toNat,wrap_nat (by omega),BitVec.toNat_or,BitVec.ofInt_natCast,BitVec.ofInt_natCast,BitVec.toNat_ofNat,BitVec.toNat_ofNat]
 have h64:(2:Nat) ^ 64=18446744073709551616:=by decide
 rw [h64,Nat.mod_eq_of_lt (a:=n * 256) (by omega),Nat.mod_eq_of_lt (a:=b.toNat) (by omega)]
 have h5:n * 256 ||| b.toNat=n * 256+b.toNat:=by
  rw [Nat.mul_comm n 256,show (256:Nat)=2 ^ 8 by decide,← Nat.two_pow_add_eq_or_of_lt (by omega)]
 rw [h5,hOn,wrap_nat (by omega)]
theorem pB_nat (x d:Nat) (hx:x < 18446744073709551616):(pB (x:Int) (d:Int)).toNat=x / d % 256:=by
 unfold pB
 rw [u64w,Nat.mod_eq_of_lt hx,Int.fdiv_eq_ediv_of_nonneg _ (Int.natCast_nonneg _)]
 rw [show (x:Int) / (d:Int)=((x / d:Nat):Int) from rfl,u8w,u8I (by omega)]
theorem fold_put4 (x:Nat) (hx:x < 4294967296):(put4 (x:Int)).foldl numS 0=(x:Int):=by
 unfold put4
 simp only [List.foldl_cons,List.foldl_nil]
 have c1:=pB_nat x 16777216 (by omega)
 have c2:=pB_nat x 65536 (by omega)
 have c3:=pB_nat x 256 (by omega)
 have c4:=pB_nat x 1 (by omega)
 have e1:=numS_nat 0 (pB (x:Int) 16777216) (by omega)
 rw [show ((0:Nat):Int)=0 from rfl] at e1
 rw [e1,show (pB (x:Int) 16777216).toNat=_ from c1]
 rw [numS_nat _ _ (by omega),show (pB (x:Int) 65536).toNat=_ from c2]
 rw [numS_nat _ _ (by omega),show (pB (x:Int) 256).toNat=_ from c3]
 rw [numS_nat _ _ (by omega),show (pB (x:Int) 1).toNat=_ from c4]
 congr 1; omega
theorem crc_nat (s:List UInt8):∃ c:Nat,c < 4294967296∧crcI s=(c:Int):=by
 unfold crcI xorI w32
 refine ⟨(BitVec.ofInt 32 4294967295 ^^^ BitVec.ofInt 32 (crcN (w256 tabL) s s.length)).toNat,BitVec.isLt _,?_⟩
 have h:=(BitVec.ofInt 32 4294967295 ^^^ BitVec.ofInt 32 (crcN (w256 tabL) s s.length)).isLt
 generalize (BitVec.ofInt 32 4294967295 ^^^ BitVec.ofInt 32 (crcN (w256 tabL) s s.length)).toNat=c at h
 simp only [IntKind.wrap,IntKind.bits,IntKind.signed]
 simp
 omega
theorem rdN_put4 {s b:List UInt8} {a:Nat} {r:List UInt8} (h:s.drop a=put4 (IntKind.i64.wrap (crcI b)) ++ r):rdN s a false 4=(IntKind.i64.wrap (crcI b),a+4,false):=by
 obtain ⟨c,hc,e⟩:=crc_nat b
 have e1:=rdT_eq h
 have hl:(put4 (IntKind.i64.wrap (crcI b))).length=4:=rfl
 rw [hl] at e1
 unfold rdN
 rw [show (Int.ofNat 4)=((4:Nat):Int) from rfl,e1]
 simp only
 rw [e,wrap_nat (by omega),fold_put4 c hc]
theorem rdN_one {s:List UInt8} {a:Nat} {k:Nat} {r:List UInt8} (hk:k < 256) (h:s.drop a=put1 (k:Int) ++ r):rdN s a false 1=((k:Int),a+1,false):=by
 have e1:=rdT_eq h
 have hl:(put1 (k:Int)).length=1:=rfl
 rw [hl] at e1
 unfold rdN
 rw [show (Int.ofNat 1)=((1:Nat):Int) from rfl,e1]
 have e2:=numS_nat 0 (pB (k:Int) 1) (by omega)
 rw [show ((0:Nat):Int)=0 from rfl] at e2
 have c1:=pB_nat k 1 (by omega)
 unfold put1
 simp only [List.foldl_cons,List.foldl_nil,e2]
 rw [show (pB (k:Int) 1).toNat=_ from c1]
 congr 2; omega
end Go.Proofs.YtfihojpgobmmdaaGreatDoor
namespace Go.Proofs.YtfihojpgobmmdaaGreatDoor
open Go Go.Eng
abbrev P3:V:=.ptr (some (3,0))
abbrev nilS:V:=.slc none 0 0 0
abbrev one1 (b:List UInt8):V:=.lst false 1 [.str b]
def hJ (d:List UInt8) (p:Sto):Tr O:=(memS p).set 7 (some (.cells [.str d]))
end Go.Proofs.YtfihojpgobmmdaaGreatDoor
namespace Go.Proofs.YtfihojpgobmmdaaGreatDoor
open Go Go.Eng
noncomputable abbrev lpAy:Code:=seqL (tailN 2 thAy)
noncomputable abbrev enAy:Code:=seqR (tailN 2 thAy)
noncomputable abbrev elAy:Code:=condF (seqR inAy)
section
variable (len cap:Nat) (b:List UInt8) (fl nx lf:Int) (es rt:List (D × D))
def mAy (s:List UInt8) (a:Nat) (f:Bool) (extra:List (Nat × O)):Tr O:=hL (memL (pS len cap b fl nx lf es rt) ++ (7,.cells (rdC s a f)) :: extra)
def sA0 (s:List UInt8) (a:Nat) (f:Bool) (d:List UInt8) (n i:Nat):St:=stG [(0,P3),(4,.ptr (some (7,0))),(5,.str d),(6,nilS),(17,.int .i64 (Int.ofNat n)),(18,.int .i64 (Int.ofNat i))] (mAy len cap b fl nx lf es rt s a f []) 8
def sA1 (s:List UInt8) (a:Nat) (f:Bool) (d:List UInt8) (n i k:Nat) (cs:List D):St:=stG [(0,P3),(4,.ptr (some (7,0))),(5,.str d),(6,.slc (some (8,0)) k k 1),(17,.int .i64 (Int.ofNat n)),(18,.int .i64 (Int.ofNat i))] (mAy len cap b fl nx lf es rt s a f [(8,.deep cs)]) 9
end
theorem az_1 (len cap:Nat) (b:List UInt8) (fl nx lf:Int) (es rt:List (D × D)) (s:List UInt8):∃ L,RunIs Tryz.prog cs19 [] 1000 7 Tryz.f83 [0,4,11] (headN 2 cdAy) (startSt [P3,.str s] (memS (pS len cap b fl nx lf es rt)) 7) L
  [([],
   [((0:Int) ≤ (0:Int)∧0 ≤ s.length),(s.length ≤ 1000000000),((0:Int) ≤ (1:Int)∧1 ≤ 8)],
   .to .normal (stG [(0,.ptr (some (3,0))),(4,.ptr (some (7,0))),(11,.int .i64 ((rdN s 0 false 1).fst))] (hL (memL (pS len cap b fl nx lf es rt) ++ [(7,.cells [.str s,.int .i64 (Int.ofNat (rdN s 0 false 1).snd.fst),.bool ((rdN s 0 false 1).snd.snd)])])) 8))]
 :=RunIs.of (by kernel_rfl) (by kernel_rfl) (by kernel_rfl)
theorem az_2 (len cap:Nat) (b:List UInt8) (fl nx lf:Int) (es rt:List (D × D)) (s:List UInt8) (a:Nat) (f:Bool) (k:Int):∃ L,RunIs Tryz.prog cs19 [(12,.split)] 1000 7 Tryz.f83 [0,4,11,12] (seqL inAy) (stG [(0,P3),(4,.ptr (some (7,0))),(11,.int .i64 k)] (mAy len cap b fl nx lf es rt s a f []) 8) L
  [([((k == (1:Int)),true)],
   [],
   .to .normal (stG [(0,.ptr (some (3,0))),(4,.ptr (some (7,0))),(11,.int .i64 k),(12,.bool true)] (hL (memL (pS len cap b fl nx lf es rt) ++ [(7,.cells [.str s,.int .i64 (Int.ofNat a),.bool f])])) 8)),
  ([((k == (1:Int)),false)],
   [],
   .to .normal (stG [(0,.ptr (some (3,0))),(4,.ptr (some (7,0))),(11,.int .i64 k),(12,.bool false)] (hL (memL (pS len cap b fl nx lf es rt) ++ [(7,.cells [.str s,.int .i64 (Int.ofNat a),.bool f])])) 8))]
 :=RunIs.of (by kernel_rfl) (by kernel_rfl) (by kernel_rfl)
theorem az_3 (len cap:Nat) (b:List UInt8) (fl nx lf:Int) (es rt:List (D × D)) (s:List UInt8) (a:Nat) (f:Bool):∃ L,RunIs Tryz.prog cs19 [] 1000 7 Tryz.f83 [0,4,5,6] (headN 2 thAy) (stG [(0,P3),(4,.ptr (some (7,0)))] (mAy len cap b fl nx lf es rt s a f []) 8) L
  [([],
   [((0:Int) ≤ Int.ofNat a∧a ≤ s.length),(s.length ≤ 1000000000)],
   .to .normal (stG [(0,.ptr (some (3,0))),(4,.ptr (some (7,0))),(5,.str ((rdTx s a f).fst)),(6,.slc none 0 0 0)] (hL (memL (pS len cap b fl nx lf es rt) ++ [(7,.cells [.str s,.int .i64 (Int.ofNat (rdTx s a f).snd.fst),.bool ((rdTx s a f).snd.snd)])])) 8))]
 :=RunIs.of (by kernel_rfl) (by kernel_rfl) (by kernel_rfl)
theorem az_4 (len cap:Nat) (b:List UInt8) (fl nx lf:Int) (es rt:List (D × D)) (s:List UInt8) (a:Nat) (f:Bool) (d:List UInt8):∃ L,RunIs Tryz.prog cs19 [(18,.give (.int .i64 (Int.ofNat 0)))] 1000 7 Tryz.f83 [0,4,5,6,17,18] (seqL lpAy) (stG [(0,P3),(4,.ptr (some (7,0))),(5,.str d),(6,nilS)] (mAy len cap b fl nx lf es rt s a f []) 8) L
  [([],
   [((0:Int) ≤ Int.ofNat a∧a ≤ s.length),(s.length ≤ 1000000000),(V.int IntKind.i64 (0:Int)=V.int IntKind.i64 (0:Int))],
   .to .normal (stG [(0,.ptr (some (3,0))),(4,.ptr (some (7,0))),(5,.str d),(6,.slc none 0 0 0),(17,.int .i64 ((rdVf s a f).fst)),(18,.int .i64 0)] (hL (memL (pS len cap b fl nx lf es rt) ++ [(7,.cells [.str s,.int .i64 (Int.ofNat (rdVf s a f).snd.fst),.bool ((rdVf s a f).snd.snd)])])) 8))]
 :=RunIs.of (by kernel_rfl) (by kernel_rfl) (by kernel_rfl)
theorem az_5 (len cap:Nat) (b:List UInt8) (fl nx lf:Int) (es rt:List (D × D)) (s:List UInt8) (a:Nat) (f:Bool) (d:List UInt8) (n i:Nat):∃ L,RunIs Tryz.prog cs19 [(19,.split),(25,.give (.int .i64 (Int.ofNat (i+1))))] 1000 7 Tryz.f83 [0,4,5,6,17,18] (inner (inner (seqR lpAy))) (sA0 len cap b fl nx lf es rt s a f d n i) L
  [([((decide (Int.ofNat i < Int.ofNat n)),true)],
   [((0:Int) ≤ Int.ofNat a∧a ≤ s.length),(s.length ≤ 1000000000),ieq (Int.ofNat i+(1:Int)) (i+1)],
   .to .normal (stG [(0,.ptr (some (3,0))),(4,.ptr (some (7,0))),(5,.str d),(6,.slc (some (8,0)) 1 1 1),(17,.int .i64 (Int.ofNat n)),(18,.int .i64 (Int.ofNat (i+1)))] (hL (memL (pS len cap b fl nx lf es rt) ++ [(7,.cells [.str s,.int .i64 (Int.ofNat (rdT s a f (32:Int)).snd.fst),.bool ((rdT s a f (32:Int)).snd.snd)]),(8,.cells [.str ((rdT s a f (32:Int)).fst)])])) 9)),
  ([((decide (Int.ofNat i < Int.ofNat n)),false)],
   [],
   .to (.exit 1) (stG [(0,.ptr (some (3,0))),(4,.ptr (some (7,0))),(5,.str d),(6,.slc none 0 0 0),(17,.int .i64 (Int.ofNat n)),(18,.int .i64 (Int.ofNat i))] (hL (memL (pS len cap b fl nx lf es rt) ++ [(7,.cells [.str s,.int .i64 (Int.ofNat a),.bool f])])) 8))]
 :=RunIs.of (by kernel_rfl) (by kernel_rfl) (by kernel_rfl)
theorem az_6 (len cap:Nat) (b:List UInt8) (fl nx lf:Int) (es rt:List (D × D)) (s:List UInt8) (a:Nat) (f:Bool) (d:List UInt8) (n i k:Nat) (cs:List D):∃ L,RunIs Tryz.prog cs19 [(19,.split),(25,.give (.int .i64 (Int.ofNat (i+1))))] 1000 7 Tryz.f83 [0,4,5,6,17,18] (inner (inner (seqR lpAy))) (sA1 len cap b fl nx lf es rt s a f d n i k cs) L
  [([((decide (Int.ofNat i < Int.ofNat n)),true)],
   [((0:Int) ≤ Int.ofNat a∧a ≤ s.length),(s.length ≤ 1000000000),(0+k * 1 ≤ cs.length),(0 < 1),(roomy (k+1) 1 16=true),ieq (Int.ofNat i+(1:Int)) (i+1)],
   .to .normal (stG [(0,.ptr (some (3,0))),(4,.ptr (some (7,0))),(5,.str d),(6,.slc (some (8,0)) (k+1) (k+1) 1),(17,.int .i64 (Int.ofNat n)),(18,.int .i64 (Int.ofNat (i+1)))] (hL (memL (pS len cap b fl nx lf es rt) ++ [(7,.cells [.str s,.int .i64 (Int.ofNat (rdT s a f (32:Int)).snd.fst),.bool ((rdT s a f (32:Int)).snd.snd)]),(8,.deep (List.take (k * 1) (List.drop 0 cs) ++ [D.str (rdT s a f (32:Int)).fst]))])) 9)),
  ([((decide (Int.ofNat i < Int.ofNat n)),false)],
   [],
   .to (.exit 1) (stG [(0,.ptr (some (3,0))),(4,.ptr (some (7,0))),(5,.str d),(6,.slc (some (8,0)) k k 1),(17,.int .i64 (Int.ofNat n)),(18,.int .i64 (Int.ofNat i))] (hL (memL (pS len cap b fl nx lf es rt) ++ [(7,.cells [.str s,.int .i64 (Int.ofNat a),.bool f]),(8,.deep cs)])) 9))]
 :=RunIs.of (by kernel_rfl) (by kernel_rfl) (by kernel_rfl)
theorem az_7 (len cap:Nat) (b:List UInt8) (fl nx lf:Int) (es rt:List (D × D)) (d:List UInt8):EndIs Tryz.prog cs19 [] 1000 7 Tryz.f83 (enAy) (stG [(0,P3),(5,.str d),(6,nilS)] (memS (pS len cap b fl nx lf es rt)) 7)
  [([],
   [(gS=gS),(gR=gR),([]=strs (strL [])),(0=0),(0 ≤ 1000000),((joinB (d :: strL [])).length ≤ 1000000000)],
   .ret (.tup []) (memS (pS len cap b fl (IntKind.i64.wrap (nx+(1:Int))) lf (updD (D.str (nameOf d (strL []))) (D.agg [D.str d,D.lst 0 [],D.int IntKind.i64 nx]) es) rt)) 7)]
 :=⟨by kernel_rfl,by kernel_rfl,by kernel_rfl⟩
theorem az_8 (len cap:Nat) (b:List UInt8) (fl nx lf:Int) (es rt:List (D × D)) (d:List UInt8) (n:Nat) (cs:List D):EndIs Tryz.prog cs19 [] 1000 7 Tryz.f83 (enAy) (stG [(0,P3),(5,.str d),(6,.lst false n cs)] (memS (pS len cap b fl nx lf es rt)) 7)
  [([],
   [(gS=gS),(gR=gR),(cs=strs (strL cs)),(n=(strL cs).length),(n ≤ 1000000),((joinB (d :: strL cs)).length ≤ 1000000000),(0 < n),(cs.length=n),(n ≤ 1000000)],
   .ret (.tup []) (memS (pS len cap b fl (IntKind.i64.wrap (nx+(1:Int))) lf (updD (D.str (nameOf d (strL cs))) (D.agg [D.str d,D.lst n cs,D.int IntKind.i64 nx]) es) rt)) 7)]
 :=⟨by kernel_rfl,by kernel_rfl,by kernel_rfl⟩
theorem az_9 (len cap:Nat) (b:List UInt8) (fl nx lf:Int) (es rt:List (D × D)) (s:List UInt8) (a:Nat) (f:Bool):∃ L,RunIs Tryz.prog cs19 [] 1000 7 Tryz.f83 [0,4,33] (seqL elAy) (stG [(0,P3),(4,.ptr (some (7,0))),(11,.int .i64 2)] (mAy len cap b fl nx lf es rt s a f []) 8) L
  [([],
   [],
   .to .normal (stG [(0,.ptr (some (3,0))),(4,.ptr (some (7,0))),(33,.bool true)] (hL (memL (pS len cap b fl nx lf es rt) ++ [(7,.cells [.str s,.int .i64 (Int.ofNat a),.bool f])])) 8))]
 :=RunIs.of (by kernel_rfl) (by kernel_rfl) (by kernel_rfl)
theorem az_10 (len cap:Nat) (b:List UInt8) (fl nx lf:Int) (es rt:List (D × D)) (s:List UInt8) (a:Nat) (f:Bool):∃ L,RunIs Tryz.prog cs19 [] 1000 7 Tryz.f83 [0,4,7] (seqL (condT (seqR elAy))) (stG [(0,P3),(4,.ptr (some (7,0)))] (mAy len cap b fl nx lf es rt s a f []) 8) L
  [([],
   [((0:Int) ≤ Int.ofNat a∧a ≤ s.length),(s.length ≤ 1000000000)],
   .to .normal (stG [(0,.ptr (some (3,0))),(4,.ptr (some (7,0))),(7,.str ((rdTx s a f).fst))] (hL (memL (pS len cap b fl nx lf es rt) ++ [(7,.cells [.str s,.int .i64 (Int.ofNat (rdTx s a f).snd.fst),.bool ((rdTx s a f).snd.snd)])])) 8))]
 :=RunIs.of (by kernel_rfl) (by kernel_rfl) (by kernel_rfl)
noncomputable abbrev cs19s:CallS:=callX Tryz.prog W19 (hints [(50,[(7,.split)])]) 1000 40
noncomputable abbrev X19s:CX Tryz.prog:=CX.of mo po W19_ok (hints [(50,[(7,.split)])]) 1000 40
theorem az_11 (len cap:Nat) (b:List UInt8) (fl nx lf:Int) (es rt:List (D × D)) (s n:List UInt8) (a:Nat) (f:Bool):EndIs Tryz.prog cs19s [] 1000 7 Tryz.f83 (seqR (condT (seqR elAy))) (stG [(0,P3),(4,.ptr (some (7,0))),(7,.str n)] (mAy len cap b fl nx lf es rt s a f []) 8)
  [([((beqB (rdTx s a f).fst ([]:List UInt8)),true)],
   [((0:Int) ≤ Int.ofNat a∧a ≤ s.length),(s.length ≤ 1000000000)],
   .ret (.tup []) (memS (pS len cap b fl nx lf es (delD (D.str n) rt))) 7),
  ([((beqB (rdTx s a f).fst ([]:List UInt8)),false)],
   [((0:Int) ≤ Int.ofNat a∧a ≤ s.length),(s.length ≤ 1000000000)],
   .ret (.tup []) (memS (pS len cap b fl nx lf es (updD (D.str n) (D.str (rdTx s a f).fst) rt))) 7)]
 :=⟨by kernel_rfl,by kernel_rfl,by kernel_rfl⟩
end Go.Proofs.YtfihojpgobmmdaaGreatDoor
namespace Go.Proofs.YtfihojpgobmmdaaGreatDoor
open Go Go.Eng
theorem drop_len {α:Type} {s p r:List α} {a:Nat} (h:s.drop a=p ++ r):s.drop (a+p.length)=r:=by rw [← List.drop_drop,h,List.drop_left']; rfl
section
variable (len cap:Nat) (b:List UInt8) (fl nx lf:Int) (es rt:List (D × D))
theorem call83c (d:List UInt8) (rs:List (List UInt8)) (hd:d.length ≤ 65536) (hn:rs.length ≤ 1024) (h32:∀ x ∈ rs,x.length=32):
  CallIs Tryz.prog 83 [P3,.str (headB d rs.length ++ rs.flatten)] (memS (pS len cap b fl nx lf es rt)) 7 (.tup []) (memS (pS len cap b fl (IntKind.i64.wrap (nx+1)) lf (updD (.str (nameOf d rs)) (entD d rs nx) es) rt)) 7:=by
 have hfl:=flat_len h32
 have hhl:=headB_len d rs.length
 obtain ⟨s,hs⟩:∃ s,s=headB d rs.length ++ rs.flatten:=⟨_,rfl⟩
 rw [← hs]
 have hsl:s.length ≤ 1000000:=by rw [hs,List.length_append]; omega
 have d0:s.drop 0=put1 ((1:Nat):Int) ++ (txtB d ++ (varB (Int.ofNat rs.length) ++ rs.flatten)):=by
  rw [hs,List.drop_zero]; unfold headB; simp only [List.append_assoc]; rfl
 have d1:=drop_len d0
 rw [show 0+(put1 ((1:Nat):Int)).length=1 from rfl] at d1
 have d2:=drop_len d1
 have d3:=drop_len d2
 have r1:=rdN_one (by decide) d0
 have r2:=rdTx_eq (by omega) d1
 have r3:=rdV_var (by omega) d2
 have hv:=varB_len (Int.ofNat rs.length)
 have l3:1+(txtB d).length+(varB (Int.ofNat rs.length)).length+rs.flatten.length=s.length:=by
  have e:=congrArg List.length d0
  simp only [List.length_append,List.drop_zero] at e
  rw [show (put1 ((1:Nat):Int)).length=1 from rfl] at e
  omega
 rw [show 1+(txtB d).length=(txtB d).length+1 by omega] at *
 refine callIs_of_TG Tryz.func83 (code:=cdAy) (by kernel_rfl) (by kernel_rfl) ?_
 obtain ⟨L1,hr1⟩:=az_1 len cap b fl nx lf es rt s
 rw [r1] at hr1
 refine TG_isN1 2 X19 mo (by kernel_rfl) hr1 (fm ⟨by decide,by omega⟩ (fm (by omega) (fm1 ⟨by decide,by decide⟩))) ?_
 refine TG_block (i:=0) (by kernel_rfl) ?_
 refine TG_mono (Q1:=RetG Tryz.prog 7 Tryz.f83 fun v h n=>v= .tup []∧h=memS (pS len cap b fl (IntKind.i64.wrap (nx+1)) lf (updD (.str (nameOf d rs)) (entD d rs nx) es) rt)∧n=7) ?_ fun y s h=>RetG_outOf h
 show TG Tryz.prog 7 Tryz.f83.ntmps inAy (stG [(0,P3),(4,.ptr (some (7,0))),(11,.int .i64 1)] (mAy len cap b fl nx lf es rt s 1 false []) 8) _
 refine TG_seq' (by kernel_rfl) ?_
 obtain ⟨L2,hr2⟩:=az_2 len cap b fl nx lf es rt s 1 false 1
 refine TG_is X19 mo anyR (by kernel_rfl) hr2 fun g hg hc=>?_
 simp only [List.mem_cons,List.not_mem_nil,or_false] at hg
 rcases hg with rfl | rfl
 case inr=>exact absurd (hc _ (List.mem_singleton.2 rfl)) (by decide)
 refine ⟨all_nil,fun s' hs'=>TG_norm hs' ?_⟩
 refine TG_cond (t:=true) (by kernel_rfl) (by kernel_rfl) (fun _=>?_) (fun h=>by cases h)
 refine TG_norm (live:=[0,4]) (s2:=stG [(0,P3),(4,.ptr (some (7,0)))] (mAy len cap b fl nx lf es rt s 1 false []) 8) (by kernel_rfl) ?_
 obtain ⟨L3,hr3⟩:=az_3 len cap b fl nx lf es rt s 1 false
 rw [r2] at hr3
 refine TG_isN1 2 X19 mo (by kernel_rfl) hr3 (fm ⟨by decide,by omega⟩ (fm1 (by omega))) ?_
 refine TG_seq' (by kernel_rfl) ?_
 refine TG_seq' (by kernel_rfl) ?_
 have r3f:rdVf s ((txtB d).length+1) false=_:=r3
 obtain ⟨L4,hr4⟩:=az_4 len cap b fl nx lf es rt s ((txtB d).length+1) false d
 rw [r3f] at hr4
 refine TG_is X19 mo anyR (by kernel_rfl) hr4 fun g hg _=>?_
 rw [List.mem_singleton] at hg; subst hg
 refine ⟨fm ⟨Int.natCast_nonneg _,by omega⟩ (fm (by omega) (fm1 rfl)),fun s' hs'=>?_⟩
 obtain ⟨a,ha⟩:∃ a,a=(txtB d).length+1+(varB (Int.ofNat rs.length)).length:=⟨_,rfl⟩
 rw [← ha] at hs' d3 l3
 have hpos:∀ i,i ≤ rs.length→s.drop (a+32 * i)=(rs.drop i).flatten:=by
  intro i
  induction i with
  | zero=>intro _; simpa using d3
  | succ i ih=>
    intro hi
    have ih:=ih (by omega)
    rw [List.drop_eq_getElem_cons (l:=rs) (by omega),List.flatten_cons] at ih
    have h2:=drop_len ih
    rw [h32 _ (List.getElem_mem _)] at h2
    rw [show a+32 * (i+1)=a+32 * i+32 by omega]; exact h2
 have htk:∀ i (hi:i < rs.length),rdT s (a+32 * i) false (32:Int)=(rs[i],a+32 * i+32,false):=by
  intro i hi
  have h1:=hpos i (by omega)
  rw [List.drop_eq_getElem_cons hi,List.flatten_cons] at h1
  have h2:=rdT_eq h1
  rw [h32 _ (List.getElem_mem _)] at h2
  exact h2
 have hle:∀ i,i ≤ rs.length→a+32 * i ≤ s.length:=fun i hi=>by omega
 let S:Nat→St:=fun i=>match i with
  | 0=>sA0 len cap b fl nx lf es rt s a false d rs.length 0
  | i+1=>sA1 len cap b fl nx lf es rt s (a+32 * (i+1)) false d rs.length (i+1) (i+1) (strs (rs.take (i+1)))
 have tail:∀ s',Goes Tryz.prog 7 Tryz.f83.ntmps s' (S rs.length)→TG Tryz.prog 7 Tryz.f83.ntmps enAy s' (RetG Tryz.prog 7 Tryz.f83 fun v h n=>v= .tup []∧h=memS (pS len cap b fl (IntKind.i64.wrap (nx+1)) lf (updD (.str (nameOf d rs)) (entD d rs nx) es) rt)∧n=7):=by
  intro s' hs'
  refine hs' _ _ ?_
  have hj:=joinB_cons_le d rs h32
  rcases Nat.eq_zero_or_pos rs.length with h0 | h0
  · have:rs=[]:=List.eq_nil_of_length_eq_zero h0
    subst this
    refine TG_norm (live:=[0,5,6]) (s2:=stG [(0,P3),(5,.str d),(6,nilS)] (memS (pS len cap b fl nx lf es rt)) 7) (by kernel_rfl) ?_
    refine TG_end X19 mo _ (by kernel_rfl) (az_7 len cap b fl nx lf es rt d) fun g hg _=>?_
    rw [List.mem_singleton] at hg; subst hg
    refine ⟨fm rfl (fm rfl (fm rfl (fm rfl (fm (by decide) (fm1 ?_))))),_,_,_,rfl,rfl,rfl,rfl⟩
    show (joinB [d]).length ≤ _
    simp only [List.length_nil] at hj; omega
  · have hS:S rs.length=sA1 len cap b fl nx lf es rt s (a+32 * rs.length) false d rs.length rs.length rs.length (strs rs):=by
     obtain ⟨k,hk⟩:∃ k,rs.length=k+1:=⟨rs.length - 1,by omega⟩
     show (match rs.length with | 0=>_ | i+1=>_)=_
     have e:rs.take (k+1)=rs:=by rw [← hk,List.take_length]
     rw [hk]; simp only [e]
    rw [hS]
    refine TG_frz [8] (A:=[(strs rs).length=rs.length * 1]) (s2:={ stG [(0,P3),(4,.ptr (some (7,0))),(5,.str d),(6,.lst false rs.length (strs rs)),(17,.int .i64 (Int.ofNat rs.length)),(18,.int .i64 (Int.ofNat rs.length))] (mAy len cap b fl nx lf es rt s (a+32 * rs.length) false [(8,.deep (strs rs))]) 9 with h:=(mAy len cap b fl nx lf es rt s (a+32 * rs.length) false [(8,.deep (strs rs))]).set 8 none }) (by kernel_rfl) (fm1 (by rw [strs_len,Nat.mul_one])) ?_
    refine TG_norm (live:=[0,5,6]) (s2:=stG [(0,P3),(5,.str d),(6,.lst false rs.length (strs rs))] (memS (pS len cap b fl nx lf es rt)) 7) (by kernel_rfl) ?_
    have hr:=az_8 len cap b fl nx lf es rt d rs.length (strs rs)
    rw [strL_strs] at hr
    refine TG_end X19 mo _ (by kernel_rfl) hr fun g hg _=>?_
    rw [List.mem_singleton] at hg; subst hg
    exact ⟨fm rfl (fm rfl (fm rfl (fm rfl (fm (by omega) (fm (by omega) (fm h0 (fm (strs_len rs) (fm1 (by omega))))))))),_,_,_,rfl,rfl,rfl,rfl⟩
 refine TG_forN 1 rs.length S (by kernel_rfl) (by kernel_rfl) (.norm hs') (fun i hi=>?_) ?_
 · have ht:=htk i hi
   cases i with
   | zero=>
     obtain ⟨L5,hr5⟩:=az_5 len cap b fl nx lf es rt s a false d rs.length 0
     rw [show a+32 * 0=a by omega] at ht
     rw [ht] at hr5
     refine TG_is X19 mo anyR (by kernel_rfl) hr5 fun g hg hc=>?_
     simp only [List.mem_cons,List.not_mem_nil,or_false] at hg
     rcases hg with rfl | rfl
     case inr=>exact absurd (of_decide_eq_false (hc _ (List.mem_singleton.2 rfl))) (by rw [hOn,hOn]; omega)
     refine ⟨fm ⟨Int.natCast_nonneg _,by omega⟩ (fm (by omega) (fm1 (ieq_ok (by rw [hOn]; omega) (by omega)))),fun s' hs'=>?_⟩
     have e:rs.take 1=[rs[0]]:=by
      rw [List.take_add_one,List.getElem?_eq_getElem hi]; rfl
     refine (Goes.norm hs').trans ?_
     show Goes _ _ _ _ (sA1 len cap b fl nx lf es rt s (a+32 * 1) false d rs.length 1 1 (strs (rs.take 1)))
     rw [e]
     exact .deep [8] (by kernel_rfl)
   | succ i=>
     obtain ⟨L5,hr5⟩:=az_6 len cap b fl nx lf es rt s (a+32 * (i+1)) false d rs.length (i+1) (i+1) (strs (rs.take (i+1)))
     rw [ht] at hr5
     refine TG_is X19 mo anyR (by kernel_rfl) hr5 fun g hg hc=>?_
     simp only [List.mem_cons,List.not_mem_nil,or_false] at hg
     rcases hg with rfl | rfl
     case inr=>exact absurd (of_decide_eq_false (hc _ (List.mem_singleton.2 rfl))) (by rw [hOn,hOn]; omega)
     have hl:(strs (rs.take (i+1))).length=i+1:=by rw [strs_len,List.length_take]; omega
     refine ⟨fm ⟨Int.natCast_nonneg _,hle _ (by omega)⟩ (fm (by omega) (fm (by omega) (fm (by decide) (fm (roomy16 (by omega)) (fm1 (ieq_ok (by rw [hOn]; omega) (by omega))))))),fun s' hs'=>?_⟩
     have e:List.take ((i+1) * 1) (List.drop 0 (strs (rs.take (i+1)))) ++ [D.str rs[i+1]]=strs (rs.take (i+1+1)):=by
      rw [List.drop_zero,Nat.mul_one,List.take_of_length_le (by omega)]
      rw [List.take_add_one (i:=i+1),List.getElem?_eq_getElem hi]
      unfold strs; rw [List.map_append]; rfl
     rw [e] at hs'
     exact .norm hs'
 · rcases Nat.eq_zero_or_pos rs.length with h0 | h0
   · have h1:S rs.length=sA0 len cap b fl nx lf es rt s a false d rs.length 0:=by
      show (match rs.length with | 0=>_ | i+1=>_)=_
      rw [h0]
     rw [h1] at tail ⊢
     obtain ⟨L5,hr5⟩:=az_5 len cap b fl nx lf es rt s a false d rs.length 0
     refine TG_is X19 mo anyR (by kernel_rfl) hr5 fun g hg hc=>?_
     simp only [List.mem_cons,List.not_mem_nil,or_false] at hg
     rcases hg with rfl | rfl
     · exact absurd (of_decide_eq_true (hc _ (List.mem_singleton.2 rfl))) (by rw [hOn,hOn]; omega)
     · exact ⟨all_nil,fun s' hs'=>⟨by simp,by simp only [outOf_exit,andThen]; exact tail s' (.norm hs')⟩⟩
   · have h1:S rs.length=sA1 len cap b fl nx lf es rt s (a+32 * rs.length) false d rs.length rs.length rs.length (strs rs):=by
      obtain ⟨k,hk⟩:∃ k,rs.length=k+1:=⟨rs.length - 1,by omega⟩
      show (match rs.length with | 0=>_ | i+1=>_)=_
      have e:rs.take (k+1)=rs:=by rw [← hk,List.take_length]
      rw [hk]; simp only [e]
     rw [h1] at tail ⊢
     obtain ⟨L5,hr5⟩:=az_6 len cap b fl nx lf es rt s (a+32 * rs.length) false d rs.length rs.length rs.length (strs rs)
     refine TG_is X19 mo anyR (by kernel_rfl) hr5 fun g hg hc=>?_
     simp only [List.mem_cons,List.not_mem_nil,or_false] at hg
     rcases hg with rfl | rfl
     · exact absurd (of_decide_eq_true (hc _ (List.mem_singleton.2 rfl))) (by omega)
     · exact ⟨all_nil,fun s' hs'=>⟨by simp,by simp only [outOf_exit,andThen]; exact tail s' (.norm hs')⟩⟩
theorem call83r (n dd:List UInt8) (hn:n.length ≤ 1000000) (hd:dd.length ≤ 1000000):
  CallIs Tryz.prog 83 [P3,.str (put1 2 ++ txtB n ++ txtB dd)] (memS (pS len cap b fl nx lf es rt)) 7 (.tup []) (memS (pS len cap b fl nx lf es (if dd=[] then delD (.str n) rt else updD (.str n) (.str dd) rt))) 7:=by
 obtain ⟨s,hs⟩:∃ s,s=put1 2 ++ txtB n ++ txtB dd:=⟨_,rfl⟩
 rw [← hs]
 have t1:=txtB_len n
 have t2:=txtB_len dd
 have hsl:s.length ≤ 3000000:=by
  rw [hs,List.length_append,List.length_append,show (put1 2).length=1 from rfl]; omega
 have d0:s.drop 0=put1 ((2:Nat):Int) ++ (txtB n ++ (txtB dd ++ [])):=by
  rw [hs,List.drop_zero]; simp only [List.append_assoc,List.append_nil]; rfl
 have d1:=drop_len d0
 rw [show 0+(put1 ((2:Nat):Int)).length=1 from rfl] at d1
 have d2:=drop_len d1
 have r1:=rdN_one (by decide) d0
 have r2:=rdTx_eq (by omega) d1
 have r3:=rdTx_eq (by omega) d2
 have l3:1+(txtB n).length+(txtB dd).length=s.length:=by
  have e:=congrArg List.length d0
  simp only [List.length_append,List.drop_zero,List.length_nil] at e
  rw [show (put1 ((2:Nat):Int)).length=1 from rfl] at e
  omega
 refine callIs_of_TG Tryz.func83 (code:=cdAy) (by kernel_rfl) (by kernel_rfl) ?_
 obtain ⟨L1,hr1⟩:=az_1 len cap b fl nx lf es rt s
 rw [r1] at hr1
 refine TG_isN1 2 X19 mo (by kernel_rfl) hr1 (fm ⟨by decide,by omega⟩ (fm (by omega) (fm1 ⟨by decide,by decide⟩))) ?_
 refine TG_block (i:=0) (by kernel_rfl) ?_
 refine TG_mono (Q1:=RetG Tryz.prog 7 Tryz.f83 fun v h k=>v= .tup []∧h=memS (pS len cap b fl nx lf es (if dd=[] then delD (.str n) rt else updD (.str n) (.str dd) rt))∧k=7) ?_ fun y s h=>RetG_outOf h
 show TG Tryz.prog 7 Tryz.f83.ntmps inAy (stG [(0,P3),(4,.ptr (some (7,0))),(11,.int .i64 2)] (mAy len cap b fl nx lf es rt s 1 false []) 8) _
 refine TG_seq' (by kernel_rfl) ?_
 obtain ⟨L2,hr2⟩:=az_2 len cap b fl nx lf es rt s 1 false 2
 refine TG_is X19 mo anyR (by kernel_rfl) hr2 fun g hg hc=>?_
 simp only [List.mem_cons,List.not_mem_nil,or_false] at hg
 rcases hg with rfl | rfl
 · exact absurd (hc _ (List.mem_singleton.2 rfl)) (by decide)
 refine ⟨all_nil,fun s' hs'=>TG_norm hs' ?_⟩
 refine TG_cond (t:=false) (by kernel_rfl) (by kernel_rfl) (fun h=>by cases h) (fun _=>?_)
 refine TG_norm (live:=[0,4,11]) (s2:=stG [(0,P3),(4,.ptr (some (7,0))),(11,.int .i64 2)] (mAy len cap b fl nx lf es rt s 1 false []) 8) (by kernel_rfl) ?_
 refine TG_seq' (by kernel_rfl) ?_
 obtain ⟨L3,hr3⟩:=az_9 len cap b fl nx lf es rt s 1 false
 refine TG_is X19 mo anyR (by kernel_rfl) hr3 fun g hg _=>?_
 rw [List.mem_singleton] at hg; subst hg
 refine ⟨all_nil,fun s' hs'=>TG_norm hs' ?_⟩
 refine TG_cond (t:=true) (by kernel_rfl) (by kernel_rfl) (fun _=>?_) (fun h=>by cases h)
 refine TG_norm (live:=[0,4]) (s2:=stG [(0,P3),(4,.ptr (some (7,0)))] (mAy len cap b fl nx lf es rt s 1 false []) 8) (by kernel_rfl) ?_
 refine TG_seq' (by kernel_rfl) ?_
 obtain ⟨L4,hr4⟩:=az_10 len cap b fl nx lf es rt s 1 false
 rw [r2] at hr4
 refine TG_is X19 mo anyR (by kernel_rfl) hr4 fun g hg _=>?_
 rw [List.mem_singleton] at hg; subst hg
 refine ⟨fm ⟨by decide,by omega⟩ (fm1 (by omega)),fun s' hs'=>?_⟩
 have hr5:=az_11 len cap b fl nx lf es rt s n (1+(txtB n).length) false
 rw [r3] at hr5
 refine TG_norm hs' ?_
 refine TG_end X19s mo _ (by kernel_rfl) hr5 fun g hg hc=>?_
 simp only [List.mem_cons,List.not_mem_nil,or_false] at hg
 have A:∀ p ∈ [((0:Int) ≤ Int.ofNat (1+(txtB n).length)∧1+(txtB n).length ≤ s.length),(s.length ≤ 1000000000)],p:=fm ⟨Int.natCast_nonneg _,by omega⟩ (fm1 (by omega))
 have hb:beqB dd []=decide (dd=[]):=by
  rw [beqB_eq]; cases dd <;> rfl
 rcases hg with rfl | rfl
 all_goals
  have q:=hc _ (List.mem_singleton.2 rfl)
  have q:beqB dd []=_:=q
  rw [hb] at q
  refine ⟨A,_,_,_,rfl,rfl,?_,rfl⟩
 · rw [if_pos (of_decide_eq_true q)]
 · rw [if_neg (of_decide_eq_false q)]
end
end Go.Proofs.YtfihojpgobmmdaaGreatDoor
namespace Go.Proofs.YtfihojpgobmmdaaGreatDoor
open Go Go.Eng
noncomputable abbrev cdRc:Code:=bodyOf Tryz.f103
noncomputable abbrev lpRc:Code:=tailN 1 cdRc
noncomputable abbrev bdRc:Code:=inner (inner lpRc)
section
variable (len cap:Nat) (b:List UInt8) (fl lf:Int) (es rt:List (D × D)) (lg:List UInt8)
def sRw:St:=stG [(1,.ptr (some (9,0))),(2,.ptr (some (10,0))),(12,v103)] (hL (lRv len cap b fl lf es rt 0 [] [] 0 ++ [(11,.cells [.str lg])])) 12
noncomputable def oRw:O:=.loop true none (sRw len cap b fl lf es rt lg).fr [13,14] asRv boRv
noncomputable def hRw (nx:Int) (es1 rt1:List (D × D)) (en:Int):Tr O:=hL (lRv len cap b fl lf es rt nx es1 rt1 en ++ [(11,.cells [.str lg]),(12,.dfr),(13,oRw len cap b fl lf es rt lg)])
noncomputable def mRc (nx:Int) (es1 rt1:List (D × D)) (en:Int) (a:Nat) (f:Bool):Tr O:=hL (lRv len cap b fl lf es rt nx es1 rt1 en ++ [(11,.cells [.str lg]),(12,.dfr),(13,oRw len cap b fl lf es rt lg),(14,.cells (rdC lg a f))])
noncomputable def sRc (nx:Int) (es1 rt1:List (D × D)) (en:Int) (a:Nat) (f:Bool):St:=stG [(0,.fn (.yield 13) [] []),(3,.ptr (some (14,0)))] (mRc len cap b fl lf es rt lg nx es1 rt1 en a f) 15
end
noncomputable abbrev cs83 (args:List V) (h:Tr O) (n:Nat) (v:V) (h1:Tr O) (n1:Nat):CallS:=callX Tryz.prog (pinW 83 args h n v h1 n1 W19) H0 1000 40
theorem rc_1 (len cap:Nat) (b:List UInt8) (fl lf:Int) (es rt:List (D × D)) (lg:List UInt8):∃ L,RunIs Tryz.prog cs19 [] 1000 14 Tryz.f103 [0,3] (headN 1 cdRc) (startSt [.fn (.yield 13) [] [],.ptr (some (11,0))] (hRw len cap b fl lf es rt lg 0 [] [] 0) 14) L
  [([],
   [],
   .to .normal (sRc len cap b fl lf es rt lg 0 [] [] 0 0 false))]
 :=RunIs.of (by kernel_rfl) (by kernel_rfl) (by kernel_rfl)
section
variable (len cap:Nat) (b:List UInt8) (fl lf:Int) (es rt:List (D × D)) (lg:List UInt8)
noncomputable def mRd (nx:Int) (es1 rt1:List (D × D)) (en:Int) (a:Nat):Tr O:=(mRc len cap b fl lf es rt lg nx es1 rt1 en a false).set 13 none
noncomputable def sRe (nx:Int) (es1 rt1:List (D × D)) (en:Int) (t:List UInt8) (k:Int) (a:Nat) (f:Bool):St:=stG [(0,.fn (.yield 13) [] []),(3,.ptr (some (14,0))),(4,.str t),(5,.int .i64 k)] (mRc len cap b fl lf es rt lg nx es1 rt1 en a f) 15
end
noncomputable abbrev b1Rc:Code:=inner (seqR bdRc)
theorem rc_2 (len cap:Nat) (b:List UInt8) (fl lf:Int) (es rt:List (D × D)) (lg:List UInt8) (nx:Int) (es1 rt1:List (D × D)) (en:Int) (a:Nat):∃ L,RunIs Tryz.prog cs19 [(10,.split)] 1000 14 Tryz.f103 [0,3] (seqL bdRc) (sRc len cap b fl lf es rt lg nx es1 rt1 en a false) L
  [([((decide (IntKind.i64.wrap ((Int.ofNat lg.length) - Int.ofNat a) > (0:Int))),true)],
   [],
   .to .normal (sRc len cap b fl lf es rt lg nx es1 rt1 en a false)),
  ([((decide (IntKind.i64.wrap ((Int.ofNat lg.length) - Int.ofNat a) > (0:Int))),false)],
   [],
   .to (.exit 0) (sRc len cap b fl lf es rt lg nx es1 rt1 en a false))]
 :=RunIs.of (by kernel_rfl) (by kernel_rfl) (by kernel_rfl)
theorem rc_3 (len cap:Nat) (b:List UInt8) (fl lf:Int) (es rt:List (D × D)) (lg:List UInt8) (nx:Int) (es1 rt1:List (D × D)) (en:Int) (a:Nat):∃ L,RunIs Tryz.prog cs19 [] 1000 14 Tryz.f103 [0,3,4,5] (headN 2 b1Rc) (sRc len cap b fl lf es rt lg nx es1 rt1 en a false) L
  [([],
   [((0:Int) ≤ Int.ofNat a∧a ≤ lg.length),(lg.length ≤ 1000000000),((0:Int) ≤ Int.ofNat (rdTx lg a false).snd.fst∧(Int.ofNat (rdTx lg a false).snd.fst).toNat ≤ lg.length),(lg.length ≤ 1000000000),((0:Int) ≤ (4:Int)∧4 ≤ 8)],
   .to .normal (sRe len cap b fl lf es rt lg nx es1 rt1 en (rdTx lg a false).1 (rdN lg (rdTx lg a false).2.1 (rdTx lg a false).2.2 4).1 (rdN lg (rdTx lg a false).2.1 (rdTx lg a false).2.2 4).2.1 (rdN lg (rdTx lg a false).2.1 (rdTx lg a false).2.2 4).2.2))]
 :=RunIs.of (by kernel_rfl) (by kernel_rfl) (by kernel_rfl)
theorem rc_4 (len cap:Nat) (b:List UInt8) (fl lf:Int) (es rt:List (D × D)) (lg:List UInt8) (nx:Int) (es1 rt1:List (D × D)) (en:Int) (t:List UInt8) (k:Int) (a:Nat) (nx2:Int) (es2 rt2:List (D × D)):∃ L,RunIs Tryz.prog (cs83 [P3,.str t] (mRd len cap b fl lf es rt lg nx es1 rt1 en a) 15 (.tup []) (mRd len cap b fl lf es rt lg nx2 es2 rt2 en a) 15) [(24,.give (.bool false))] 1000 14 Tryz.f103 [0,3] (tailN 2 b1Rc) (sRe len cap b fl lf es rt lg nx es1 rt1 en t k a false) L
  [([],
   [(t.length < 1000000000),(V.bool (k != IntKind.i64.wrap (crcI t))=V.bool false),((([.ptr (some (3,0)),.str t]:List V)=[.ptr (some (3,0)),.str t]∧mRd len cap b fl lf es rt lg nx es1 rt1 en a=mRd len cap b fl lf es rt lg nx es1 rt1 en a∧15=15))],
   .to .normal (sRc len cap b fl lf es rt lg nx2 es2 rt2 (Int.ofNat a) a false))]
 :=RunIs.of (by kernel_rfl) (by kernel_rfl) (by kernel_rfl)
--@ rc_5 (len cap:Nat) (b:List UInt8) (fl lf:Int) (es rt:List (D × D)) (lg:List UInt8) (nx:Int) (es1 rt1:List (D × D)) (en:Int) (t:List UInt8) (k:Int) (a:Nat) (f:Bool) | cs19 | [(17,.split),(24,.give (.bool true))] | 14 | Tryz.f103 | [] | tailN 2 b1Rc | sRe len cap b fl lf es rt lg nx es1 rt1 en t k a f | [asRv,boRv] | | | hRw len cap b fl lf es rt lg nx es1 rt1 en ;; hRw len cap b fl lf es rt lg nx es1 rt1 en
abbrev rc_6A1 (lg:List UInt8) (a:Nat):Prop:=(0:Int) ≤ Int.ofNat (rdTx lg a false).snd.fst∧(Int.ofNat (rdTx lg a false).snd.fst).toNat ≤ lg.length
theorem rc_6 (len cap:Nat) (b:List UInt8) (fl lf:Int) (es rt:List (D × D)) (lg:List UInt8) (nx:Int) (es1 rt1:List (D × D)) (en:Int) (a:Nat):∃ L,FinIs Tryz.prog cs19 [(10,.split),(17,.split),(24,.give (.bool true))] 1000 14 Tryz.f103 [0,3] 0 (bdRc) (sRc len cap b fl lf es rt lg nx es1 rt1 en a false) L
  [([((decide (IntKind.i64.wrap ((Int.ofNat lg.length) - Int.ofNat a) > (0:Int))),true),(((rdN lg (Int.ofNat (rdTx lg a false).snd.fst).toNat (rdTx lg a false).snd.snd 4).snd.snd),true)],
   [((0:Int) ≤ Int.ofNat a∧a ≤ lg.length),(lg.length ≤ 1000000000),rc_6A1 lg a,(lg.length ≤ 1000000000),((0:Int) ≤ (4:Int)∧4 ≤ 8),(V.bool true=V.bool true)],
   .ret (.tup []) (hRw len cap b fl lf es rt lg nx es1 rt1 en) 14),
  ([((decide (IntKind.i64.wrap ((Int.ofNat lg.length) - Int.ofNat a) > (0:Int))),true),(((rdN lg (Int.ofNat (rdTx lg a false).snd.fst).toNat (rdTx lg a false).snd.snd 4).snd.snd),false)],
   [((0:Int) ≤ Int.ofNat a∧a ≤ lg.length),(lg.length ≤ 1000000000),rc_6A1 lg a,(lg.length ≤ 1000000000),((0:Int) ≤ (4:Int)∧4 ≤ 8),((rdTx lg a false).fst.length < 1000000000),(V.bool ((rdN lg (Int.ofNat (rdTx lg a false).snd.fst).toNat (rdTx lg a false).snd.snd 4).fst != IntKind.i64.wrap (crcI (rdTx lg a false).fst))=V.bool true)],
   .ret (.tup []) (hRw len cap b fl lf es rt lg nx es1 rt1 en) 14),
  ([((decide (IntKind.i64.wrap ((Int.ofNat lg.length) - Int.ofNat a) > (0:Int))),false)],
   [],
   .ret (.tup []) (hRw len cap b fl lf es rt lg nx es1 rt1 en) 14)]
 :=FinIs.of (by kernel_rfl) (by kernel_rfl) (by kernel_rfl)
end Go.Proofs.YtfihojpgobmmdaaGreatDoor
namespace Go.Proofs.YtfihojpgobmmdaaGreatDoor
open Go Go.Eng
inductive Rcd where
 | chunk (d:List UInt8) (rs:List (List UInt8))
 | root (n dd:List UInt8)
def Rcd.body:Rcd→List UInt8
 | .chunk d rs=>headB d rs.length ++ rs.flatten
 | .root n dd=>put1 2 ++ txtB n ++ txtB dd
def Rcd.bytes (r:Rcd):List UInt8:=frameB r.body
def Rcd.ok:Rcd→Prop
 | .chunk d rs=>d.length ≤ 65536∧rs.length ≤ 1024∧∀ x ∈ rs,x.length=32
 | .root n dd=>n.length ≤ 1000∧dd.length ≤ 1000
theorem Rcd.body_len {r:Rcd} (h:r.ok):r.body.length ≤ 200000:=by
 cases r with
 | chunk d rs=>
   obtain ⟨h1,h2,h3⟩:=h
   have:=headB_len d rs.length
   have:=flat_len h3
   simp only [Rcd.body,List.length_append]; omega
 | root n dd=>
   obtain ⟨h1,h2⟩:=h
   have:=txtB_len n
   have:=txtB_len dd
   simp only [Rcd.body,List.length_append,show (put1 2).length=1 from rfl]; omega
structure LS where
 nx:Int
 es:List (D × D)
 rt:List (D × D)
def apL (s:LS):Rcd→LS
 | .chunk d rs=>⟨IntKind.i64.wrap (s.nx+1),updD (.str (nameOf d rs)) (entD d rs s.nx) s.es,s.rt⟩
 | .root n dd=>⟨s.nx,s.es,if dd=[] then delD (.str n) s.rt else updD (.str n) (.str dd) s.rt⟩
def ls0:LS:=⟨0,[],[]⟩
abbrev apA (l:List Rcd):LS:=l.foldl apL ls0
def bytesA (l:List Rcd):List UInt8:=(l.map Rcd.bytes).flatten
theorem call83 (len cap:Nat) (b:List UInt8) (fl nx lf:Int) (es rt:List (D × D)) (r:Rcd) (h:r.ok):CallIs Tryz.prog 83 [P3,.str r.body] (memS (pS len cap b fl nx lf es rt)) 7 (.tup []) (memS (pS len cap b fl (apL ⟨nx,es,rt⟩ r).nx lf (apL ⟨nx,es,rt⟩ r).es (apL ⟨nx,es,rt⟩ r).rt)) 7:=by
 cases r with
 | chunk d rs=>exact call83c len cap b fl nx lf es rt d rs h.1 h.2.1 h.2.2
 | root n dd=>exact call83r len cap b fl nx lf es rt n dd (by have:=h.1; omega) (by have:=h.2; omega)
def nsR:List (Option Nat):=[some 0,some 1,some 2,some 3,some 4,some 7,some 8]
section
variable (len cap:Nat) (b:List UInt8) (fl lf:Int) (es rt:List (D × D)) (lg:List UInt8)
set_option maxRecDepth 20000 in
theorem call83w (nx:Int) (es1 rt1:List (D × D)) (en:Int) (a:Nat) (r:Rcd) (h:r.ok):CallIs Tryz.prog 83 [P3,.str r.body] (mRd len cap b fl lf es rt lg nx es1 rt1 en a) 15 (.tup [])
  (mRd len cap b fl lf es rt lg (apL ⟨nx,es1,rt1⟩ r).nx (apL ⟨nx,es1,rt1⟩ r).es (apL ⟨nx,es1,rt1⟩ r).rt en a) 15:=by
 have hc:=call83 len cap b fl nx lf es1 rt1 r h
 generalize apL ⟨nx,es1,rt1⟩ r=q at hc ⊢
 obtain ⟨nx2,es2,rt2⟩:=q
 generalize r.body=t at hc ⊢
 have hst:stoAt (mRd len cap b fl lf es rt lg nx es1 rt1 en a) 3=some (nsR,pS len cap b fl nx lf es1 rt1):=by kernel_rfl
 exact own_callIs (ns:=nsR) (sto_pick hst (by kernel_rfl) (by kernel_rfl)).1 (by kernel_rfl) (by kernel_rfl) hc
def Stop (lg:List UInt8) (a:Nat):Prop:=a=lg.length ∨ (rdN lg (rdTx lg a false).2.1 (rdTx lg a false).2.2 4).2.2=true ∨ (rdN lg (rdTx lg a false).2.1 (rdTx lg a false).2.2 4).1 ≠ IntKind.i64.wrap (crcI (rdTx lg a false).1)
theorem bytes_len {r:Rcd}:0 < r.bytes.length:=by
 have:=frameB_len r.body
 unfold Rcd.bytes; omega
theorem bytesA_take {l:List Rcd} {i:Nat} (h:i < l.length):bytesA (l.take (i+1))=bytesA (l.take i) ++ (l[i]).bytes:=by
 unfold bytesA
 rw [List.take_add_one,List.getElem?_eq_getElem h,Option.toList_some,List.map_append,List.flatten_append]
 simp
theorem bytesA_drop {l:List Rcd} {i:Nat} (h:i < l.length):bytesA (l.drop i)=(l[i]).bytes ++ bytesA (l.drop (i+1)):=by
 unfold bytesA
 rw [List.drop_eq_getElem_cons h,List.map_cons,List.flatten_cons]
theorem bytesA_split (l:List Rcd) (i:Nat):bytesA l=bytesA (l.take i) ++ bytesA (l.drop i):=by
 unfold bytesA
 rw [← List.flatten_append,← List.map_append,List.take_append_drop]
theorem apA_take {l:List Rcd} {i:Nat} (h:i < l.length):apA (l.take (i+1))=apL (apA (l.take i)) l[i]:=by
 unfold apA
 rw [List.take_add_one,List.getElem?_eq_getElem h,Option.toList_some,List.foldl_append]; rfl
theorem rec_read {lg:List UInt8} {a:Nat} {r:Rcd} {x:List UInt8} (hr:r.ok) (h:lg.drop a=r.bytes ++ x):
  rdTx lg a false=(r.body,a+(txtB r.body).length,false)∧rdN lg (a+(txtB r.body).length) false 4=(IntKind.i64.wrap (crcI r.body),a+r.bytes.length,false):=by
 have hl:=Rcd.body_len hr
 have h1:lg.drop a=txtB r.body ++ (put4 (IntKind.i64.wrap (crcI r.body)) ++ x):=by
  rw [h]; unfold Rcd.bytes frameB; rw [List.append_assoc]
 refine ⟨rdTx_eq (by omega) h1,?_⟩
 rw [rdN_put4 (drop_len h1)]
 unfold Rcd.bytes frameB
 rw [List.length_append,Nat.add_assoc]; rfl
theorem rdTx_len (s:List UInt8) (a:Nat) (f:Bool):(rdTx s a f).1.length ≤ s.length:=by
 unfold rdTx rdT
 simp only
 split
 · simp
 · simp only [List.length_take,List.length_drop]; omega
set_option maxRecDepth 20000 in
theorem call103g (l:List Rcd) (x:List UInt8) (hl:∀ r ∈ l,r.ok) (hlg:lg=bytesA l ++ x) (hst:Stop lg (bytesA l).length) (hsz:lg.length < 1000000000):
  CallIs Tryz.prog 103 [.fn (.yield 13) [] [],.ptr (some (11,0))] (hRw len cap b fl lf es rt lg 0 [] [] 0) 14 (.tup []) (hRw len cap b fl lf es rt lg (apA l).nx (apA l).es (apA l).rt (Int.ofNat (bytesA l).length)) 14:=by
 refine callIs_of_TG Tryz.func103 (code:=cdRc) (by kernel_rfl) (by kernel_rfl) ?_
 obtain ⟨L1,hr1⟩:=rc_1 len cap b fl lf es rt lg
 refine TG_isN1 1 X19 mo (by kernel_rfl) hr1 all_nil ?_
 let S:Nat→St:=fun i=>sRc len cap b fl lf es rt lg (apA (l.take i)).nx (apA (l.take i)).es (apA (l.take i)).rt (Int.ofNat (bytesA (l.take i)).length) (bytesA (l.take i)).length false
 have hpos:∀ i,i ≤ l.length→lg.drop (bytesA (l.take i)).length=bytesA (l.drop i) ++ x:=by
  intro i hi
  have:lg=bytesA (l.take i) ++ (bytesA (l.drop i) ++ x):=by rw [hlg,bytesA_split l i,List.append_assoc]
  rw [this,List.drop_left']; rfl
 have hle:∀ i,i ≤ l.length→(bytesA (l.take i)).length+(bytesA (l.drop i)).length+x.length=lg.length:=by
  intro i hi
  have h1:=congrArg List.length (hpos i hi)
  have h2:=congrArg List.length (bytesA_split l i)
  rw [List.length_append] at h2
  rw [hlg,List.length_append]; omega
 refine TG_forN 0 l.length S (by kernel_rfl) (by kernel_rfl) .refl (fun i hi=>?_) ?_
 · have hok:=hl _ (List.getElem_mem hi)
   have hp:=hpos i (by omega)
   have hlt:=hle i (by omega)
   rw [bytesA_drop hi] at hp hlt
   rw [List.append_assoc] at hp
   have hbl:=bytes_len (r:=l[i])
   obtain ⟨q1,q2⟩:=rec_read hok hp
   rw [List.length_append] at hlt
   have hbo:=Rcd.body_len hok
   have hfr:(txtB (l[i]).body).length ≤ (l[i]).bytes.length:=by unfold Rcd.bytes frameB; rw [List.length_append]; omega
   refine TG_seq' (by kernel_rfl) ?_
   obtain ⟨L2,hr2⟩:=rc_2 len cap b fl lf es rt lg (apA (l.take i)).nx (apA (l.take i)).es (apA (l.take i)).rt (Int.ofNat (bytesA (l.take i)).length) (bytesA (l.take i)).length
   refine TG_is X19 mo anyR (by kernel_rfl) hr2 fun g hg hc=>?_
   simp only [List.mem_cons,List.not_mem_nil,or_false] at hg
   have hw:IntKind.i64.wrap ((Int.ofNat lg.length) - Int.ofNat (bytesA (l.take i)).length)=((lg.length - (bytesA (l.take i)).length:Nat):Int):=by
    rw [show (Int.ofNat lg.length) - Int.ofNat (bytesA (l.take i)).length=((lg.length - (bytesA (l.take i)).length:Nat):Int) by rw [hOn,hOn]; omega]
    exact wrap_nat (by omega)
   rcases hg with rfl | rfl
   case inr=>exact absurd (of_decide_eq_false (hc _ (List.mem_singleton.2 rfl))) (by rw [hw]; omega)
   refine ⟨all_nil,fun s' hs'=>TG_norm hs' ?_⟩
   refine TG_block (i:=1) (by kernel_rfl) ?_
   obtain ⟨L3,hr3⟩:=rc_3 len cap b fl lf es rt lg (apA (l.take i)).nx (apA (l.take i)).es (apA (l.take i)).rt (Int.ofNat (bytesA (l.take i)).length) (bytesA (l.take i)).length
   rw [q1] at hr3
   have q2':rdN lg (l[i].body,(bytesA (l.take i)).length+(txtB (l[i]).body).length,false).2.1 (l[i].body,(bytesA (l.take i)).length+(txtB (l[i]).body).length,false).2.2 4=_:=q2
   rw [q2'] at hr3
   refine TG_isN1 2 X19 mo (by kernel_rfl) hr3 (fm ⟨Int.natCast_nonneg _,by omega⟩ (fm (by omega) (fm ⟨Int.natCast_nonneg _,by show (bytesA (l.take i)).length+(txtB (l[i]).body).length ≤ _; omega⟩ (fm (by omega) (fm1 ⟨by decide,by decide⟩))))) ?_
   have hcall:=call83w len cap b fl lf es rt lg (apA (l.take i)).nx (apA (l.take i)).es (apA (l.take i)).rt (Int.ofNat (bytesA (l.take i)).length) ((bytesA (l.take i)).length+(l[i]).bytes.length) l[i] hok
   obtain ⟨L4,hr4⟩:=rc_4 len cap b fl lf es rt lg (apA (l.take i)).nx (apA (l.take i)).es (apA (l.take i)).rt (Int.ofNat (bytesA (l.take i)).length) (l[i]).body (IntKind.i64.wrap (crcI (l[i]).body)) ((bytesA (l.take i)).length+(l[i]).bytes.length) (apL (apA (l.take i)) l[i]).nx (apL (apA (l.take i)) l[i]).es (apL (apA (l.take i)) l[i]).rt
   refine TG_is (CX.of mo po (pinW_ok (Nat.le_of_ble_eq_true (by kernel_rfl)) hcall W19_ok) H0 1000 40) mo anyR (by kernel_rfl) hr4 fun g hg _=>?_
   rw [List.mem_singleton] at hg; subst hg
   refine ⟨fm (by omega) (fm (by simp) (fm1 ⟨rfl,rfl,rfl⟩)),fun s' hs'=>?_⟩
   show Goes Tryz.prog 14 Tryz.f103.ntmps s' (S (i+1))
   have e1:S (i+1)=sRc len cap b fl lf es rt lg (apL (apA (l.take i)) l[i]).nx (apL (apA (l.take i)) l[i]).es (apL (apA (l.take i)) l[i]).rt (Int.ofNat ((bytesA (l.take i)).length+(l[i]).bytes.length)) ((bytesA (l.take i)).length+(l[i]).bytes.length) false:=by
    show sRc _ _ _ _ _ _ _ _ _ _ _ _ _ _=_
    rw [apA_take hi,bytesA_take hi,List.length_append]
   rw [e1]
   exact .norm hs'
 · have h1:S l.length=sRc len cap b fl lf es rt lg (apA l).nx (apA l).es (apA l).rt (Int.ofNat (bytesA l).length) (bytesA l).length false:=by
    show sRc _ _ _ _ _ _ _ _ _ _ _ _ _ _=_
    rw [List.take_length]
   rw [h1]
   have h2:=hle l.length (Nat.le_refl _)
   rw [List.take_length] at h2
   generalize (bytesA l).length=a at *
   have x1:=rdTx_at lg a false (by omega)
   have x2:=rdTx_len lg a false
   obtain ⟨L6,hr6⟩:=rc_6 len cap b fl lf es rt lg (apA l).nx (apA l).es (apA l).rt (Int.ofNat a) a
   refine TG_isF 0 X19 mo (fun v h n=>v= .tup []∧h=hRw len cap b fl lf es rt lg (apA l).nx (apA l).es (apA l).rt (Int.ofNat a)∧n=14) (by kernel_rfl) hr6 (fun s' hs'=>⟨by simp,by rw [outOf_exit]; exact hs'⟩) fun g hg hc=>?_
   simp only [List.mem_cons,List.not_mem_nil,or_false] at hg
   have q1:(0:Int) ≤ Int.ofNat a∧a ≤ lg.length:=⟨Int.natCast_nonneg _,by omega⟩
   have q2:lg.length ≤ 1000000000:=by omega
   have q3:(0:Int) ≤ Int.ofNat (rdTx lg a false).snd.fst∧(Int.ofNat (rdTx lg a false).snd.fst).toNat ≤ lg.length:=⟨Int.natCast_nonneg _,x1⟩
   have q4:(0:Int) ≤ (4:Int)∧4 ≤ 8:=⟨by decide,by decide⟩
   have hret:∀ s',RetG Tryz.prog 14 Tryz.f103 (fun v h n=>v= .tup []∧h=hRw len cap b fl lf es rt lg (apA l).nx (apA l).es (apA l).rt (Int.ofNat a)∧n=14) .ret s'→(Exit.ret ≠ .normal∧outOf 0 (RetG Tryz.prog 14 Tryz.f103 (fun v h n=>v= .tup []∧h=hRw len cap b fl lf es rt lg (apA l).nx (apA l).es (apA l).rt (Int.ofNat a)∧n=14)) .ret s'):=fun s' h=>⟨by simp,h⟩
   have hw:IntKind.i64.wrap ((Int.ofNat lg.length) - Int.ofNat a)=((lg.length - a:Nat):Int):=by
    rw [show (Int.ofNat lg.length) - Int.ofNat a=((lg.length - a:Nat):Int) by rw [hOn,hOn]; omega]
    exact wrap_nat (by omega)
   rcases hg with rfl | rfl | rfl
   · exact ⟨fm q1 (fm q2 (fm q3 (fm q2 (fm q4 (fm1 trivial))))),⟨rfl,rfl,rfl⟩,hret⟩
   · have c1:=of_decide_eq_true (hc _ (List.mem_cons_self ..))
     have c2:=hc _ (List.mem_cons_of_mem _ (List.mem_singleton.2 rfl))
     have hne:(rdN lg (rdTx lg a false).2.1 (rdTx lg a false).2.2 4).1 ≠ IntKind.i64.wrap (crcI (rdTx lg a false).1):=by
      rcases hst with h | h | h
      · rw [hw] at c1; omega
      · have c2:(rdN lg (rdTx lg a false).2.1 (rdTx lg a false).2.2 4).2.2=false:=c2
        rw [h] at c2; cases c2
      · exact h
     exact ⟨fm q1 (fm q2 (fm q3 (fm q2 (fm q4 (fm (Nat.lt_of_le_of_lt x2 hsz) (fm1 (congrArg V.bool (bne_iff_ne.2 hne)))))))),⟨rfl,rfl,rfl⟩,hret⟩
   · exact ⟨all_nil,⟨rfl,rfl,rfl⟩,hret⟩
end
end Go.Proofs.YtfihojpgobmmdaaGreatDoor
namespace Go.Proofs.YtfihojpgobmmdaaGreatDoor
open Go Go.Eng
section
variable (len cap:Nat) (b:List UInt8) (fl nx lf:Int) (es rt es1 rt1:List (D × D))
def hRg (lw:V) (o4:List (Nat × O)) (fl nx:Int):Tr O:=hL ([(0,.ints .u32 gS),(1,.ints .u32 gR),(3,.cells [lw,.int .i64 fl,.map (some 7),.map (some 8),.int .i64 nx,.bool false,.bool false,.int .i64 lf])] ++ o4 ++ [(5,.mapD none es),(6,.mapD none rt),(7,.mapD none es1),(8,.mapD none rt1)])
end
theorem rw_2 (len cap:Nat) (b:List UInt8) (fl lf:Int) (es rt:List (D × D)) (lg:List UInt8):∃ L,RunIs Tryz.prog cs19 [(11,.give (.str lg))] 1000 7 Tryz.f57 [1,2,12] (seqL (seqL tlRv)) (stG [(1,.ptr (some (9,0))),(2,.ptr (some (10,0)))] (hL (lRv len cap b fl lf es rt 0 [] [] 0)) 11) L
  [([],
   [(0+len ≤ b.length),(V.str (List.take len (List.drop 0 b))=V.str lg)],
   .to .normal (sRw len cap b fl lf es rt lg))]
 :=RunIs.of (by kernel_rfl) (by kernel_rfl) (by kernel_rfl)
theorem rw_e (len cap:Nat) (b:List UInt8) (fl lf:Int) (es rt:List (D × D)) (lg:List UInt8) (nx:Int) (es1 rt1:List (D × D)) (e:Nat):EndIs Tryz.prog cs19 [] 1000 7 Tryz.f57 (seqR tlRv) (rEnd (sRw len cap b fl lf es rt lg) (hRw len cap b fl lf es rt lg nx es1 rt1 (Int.ofNat e)) 14)
  [([],
   [((0:Int) ≤ Int.ofNat e∧Int.ofNat e ≤ (Int.ofNat cap))],
   .ret (.tup []) (hRg lf es rt es1 rt1 (.slc (some (4,0)) e cap 1) [(4,.buf 5 false b)] (Int.ofNat e) nx) 9)]
 :=⟨by kernel_rfl,by kernel_rfl,by kernel_rfl⟩
section
variable (fl nx lf:Int) (es rt:List (D × D))
def lRn (fl nx:Int):List (Nat × O):=[(0,.ints .u32 gS),(1,.ints .u32 gR),(3,.cells [nilS,.int .i64 fl,.map (some 7),.map (some 8),.int .i64 nx,.bool false,.bool false,.int .i64 lf]),(5,.mapD none es),(6,.mapD none rt),(7,.mapD none []),(8,.mapD none []),(9,.cells [P3]),(10,.cells [.int .i64 0])]
def sRn (fl:Int):St:=stG [(1,.ptr (some (9,0))),(2,.ptr (some (10,0)))] (hL (lRn lf es rt fl 0)) 11
end
theorem rw_n1 (fl nx lf:Int) (es rt:List (D × D)):∃ L,RunIs Tryz.prog cs19 [] 1000 7 Tryz.f57 [1,2] (headN 3 cdRv) (startSt [P3] (memS (pN fl nx lf es rt)) 7) L
  [([],
   [],
   .to .normal (stG [(1,.ptr (some (9,0))),(2,.ptr (some (10,0)))] (hL [(0,.ints .u32 gS),(1,.ints .u32 gR),(3,.cells [nilS,.int .i64 fl,.map (some 7),.map (some 8),.int .i64 0,.bool false,.bool false,.int .i64 lf]),(5,.mapD none es),(6,.mapD none rt),(7,.map [] 0),(8,.map [] 0),(9,.cells [P3]),(10,.cells [.int .i64 0])]) 11))]
 :=RunIs.of (by kernel_rfl) (by kernel_rfl) (by kernel_rfl)
theorem rw_n2 (fl lf:Int) (es rt:List (D × D)):EndIs Tryz.prog cs19 [] 1000 7 Tryz.f57 (tlRv) (sRn lf es rt fl)
  [([],
   [((0:Int) ≤ (0:Int)∧(0:Int) ≤ (0:Int))],
   .ret (.tup []) (hRg lf es rt [] [] nilS [] 0 0) 9)]
 :=⟨by kernel_rfl,by kernel_rfl,by kernel_rfl⟩
end Go.Proofs.YtfihojpgobmmdaaGreatDoor
namespace Go.Proofs.YtfihojpgobmmdaaGreatDoor
open Go Go.Eng
theorem call57g (len cap:Nat) (b:List UInt8) (fl nx lf:Int) (es rt:List (D × D)) (l:List Rcd) (x:List UInt8) (hb:len ≤ b.length) (hok:∀ r ∈ l,r.ok) (hlg:b.take len=bytesA l ++ x) (hst:Stop (b.take len) (bytesA l).length) (hc:len ≤ cap) (hsz:len < 1000000000):
  CallIs Tryz.prog 57 [P3] (memS (pS len cap b fl nx lf es rt)) 7 (.tup []) (hRg lf es rt (apA l).es (apA l).rt (.slc (some (4,0)) (bytesA l).length cap 1) [(4,.buf 5 false b)] (Int.ofNat (bytesA l).length) (apA l).nx) 9:=by
 refine callIs_of_TG Tryz.func57 (code:=cdRv) (by kernel_rfl) (by kernel_rfl) ?_
 obtain ⟨L1,hr1⟩:=rv_1b len cap b fl nx lf es rt
 refine TG_isN1 3 XT mo (by kernel_rfl) hr1 all_nil ?_
 refine TG_map [(7,none),(8,none)] (s2:=stG [(1,.ptr (some (9,0))),(2,.ptr (some (10,0)))] (hL (lRv len cap b fl lf es rt 0 [] [] 0)) 11) (by kernel_rfl) ?_
 show TG Tryz.prog 7 Tryz.f57.ntmps tlRv _ _
 refine TG_seq' (by kernel_rfl) ?_
 refine TG_seq' (by kernel_rfl) ?_
 have hl2:(bytesA l).length+x.length=len:=by
  have:=congrArg List.length hlg
  rw [List.length_take,List.length_append] at this; omega
 obtain ⟨L2,hr2⟩:=rw_2 len cap b fl lf es rt (b.take len)
 refine TG_is X19 mo anyR (by kernel_rfl) hr2 fun g hg _=>?_
 rw [List.mem_singleton] at hg; subst hg
 refine ⟨fm (by omega) (fm1 rfl),fun s' hs'=>TG_norm hs' ?_⟩
 refine TG_block (i:=0) (by kernel_rfl) ?_
 refine TG_rangeN (gf:=103) (lb:=[.ptr (some (11,0))]) (by kernel_rfl) (by kernel_rfl) (by kernel_rfl) (by kernel_rfl) (by kernel_rfl) (call103g len cap b fl lf es rt (b.take len) l x hok hlg hst (by rw [List.length_take]; omega)).one ?_
 rintro v h n ⟨rfl,rfl,rfl⟩
 refine ⟨by kernel_rfl,?_⟩
 show TG Tryz.prog 7 Tryz.f57.ntmps (seqR tlRv) (rEnd (sRw len cap b fl lf es rt (b.take len)) (hRw len cap b fl lf es rt (b.take len) (apA l).nx (apA l).es (apA l).rt (Int.ofNat (bytesA l).length)) 14) _
 refine TG_end X19 mo _ (by kernel_rfl) (rw_e len cap b fl lf es rt (b.take len) (apA l).nx (apA l).es (apA l).rt (bytesA l).length) fun g hg _=>?_
 rw [List.mem_singleton] at hg; subst hg
 exact ⟨fm1 ⟨Int.natCast_nonneg _,by rw [hOn,hOn]; omega⟩,_,_,_,rfl,rfl,rfl,rfl⟩
theorem call57n (fl nx lf:Int) (es rt:List (D × D)):CallIs Tryz.prog 57 [P3] (memS (pN fl nx lf es rt)) 7 (.tup []) (hRg lf es rt [] [] nilS [] 0 0) 9:=by
 refine callIs_of_TG Tryz.func57 (code:=cdRv) (by kernel_rfl) (by kernel_rfl) ?_
 obtain ⟨L1,hr1⟩:=rw_n1 fl nx lf es rt
 refine TG_isN1 3 X19 mo (by kernel_rfl) hr1 all_nil ?_
 refine TG_map [(7,none),(8,none)] (s2:=sRn lf es rt fl) (by kernel_rfl) ?_
 refine TG_end X19 mo _ (by kernel_rfl) (rw_n2 fl lf es rt) fun g hg _=>?_
 rw [List.mem_singleton] at hg; subst hg
 exact ⟨fm1 ⟨by decide,by decide⟩,_,_,_,rfl,rfl,rfl,rfl⟩
end Go.Proofs.YtfihojpgobmmdaaGreatDoor
namespace Go.Proofs.YtfihojpgobmmdaaGreatDoor
open Go Go.Eng
noncomputable abbrev cdVi:Code:=bodyOf Tryz.f77
noncomputable abbrev lpVi:Code:=tailN 2 cdVi
abbrev P8:V:=.ptr (some (8,0))
abbrev P10:V:=.ptr (some (10,0))
abbrev P11:V:=.ptr (some (11,0))
abbrev aV (x:List UInt8):List V:=[.str x,P8,P11,P10]
abbrev f78:V:=.fn (.func 78) [] [.ptr (some (7,0))]
section
variable (len cap:Nat) (b:List UInt8) (fl nx lf:Int) (es rt:List (D × D))
def lV (sn:List (D × D)):List (Nat × O):=memL (pS len cap b fl nx lf es rt) ++ [(7,.cells [.map (some 6)]),(8,.cells [.map (some 9)]),(9,.mapD none sn),(10,.cells [.fn (.func 77) [] [P8,P11,P10]]),(11,.cells [P3])]
def sRx:St:=stG [(5,P8),(6,P10),(10,f78)] (hL (lV len cap b fl nx lf es rt [])) 12
noncomputable def lVx (sn:List (D × D)):List (Nat × O):=lV len cap b fl nx lf es rt sn ++ [(12,.dfr),(13,.loop true none (sRx len cap b fl nx lf es rt).fr [11] asRd boRd)]
noncomputable def hVx (sn:List (D × D)):Tr O:=hL (lVx len cap b fl nx lf es rt sn)
def lMv (sn:List (D × D)):List (Nat × O):=[(0,.ints .u32 gS),(1,.ints .u32 gR),(3,.cells (stoC 4 5 6 (pS len cap b fl nx lf es rt))),(4,.buf 5 false b),(5,.mapD none es),(7,.cells [.map (some 6)]),(8,.cells [.map (some 9)]),(9,.mapD none sn),(10,.cells [.fn (.func 77) [] [P8,P11,P10]]),(11,.cells [P3]),(12,.dfr)]
def mV (sn:List (D × D)):Tr O:=hL (lMv len cap b fl nx lf es rt sn)
noncomputable def mVy (sn:List (D × D)):Tr O:=((hVx len cap b fl nx lf es rt sn).set 6 none).set 13 none
def sVi (sn:List (D × D)) (rs:List (List UInt8)) (i:Nat):St:=stG [(1,P8),(2,P11),(3,P10),(18,.lst false rs.length (strs rs)),(19,.int .i64 (Int.ofNat rs.length)),(20,.int .i64 (Int.ofNat i))] (mV len cap b fl nx lf es rt sn) 15
end
theorem vi_t (len cap:Nat) (b:List UInt8) (fl nx lf:Int) (es rt:List (D × D)) (x:List UInt8) (sn:List (D × D)):∃ L,RunIs Tryz.prog cs19 [(9,.give (.bool true))] 1000 15 Tryz.f77 [] (cdVi) (startSt (aV x) (mV len cap b fl nx lf es rt sn) 15) L
  [([],
   [((if false=true then V.tup [D.valV (V.bool false) (lookD (D.str x) sn),V.bool (lookD (D.str x) sn).isSome] else D.valV (V.bool false) (lookD (D.str x) sn))=V.bool true)],
   .ret (.tup []) (mV len cap b fl nx lf es rt sn) 15)]
 :=RunIs.of (by kernel_rfl) (by kernel_rfl) (by kernel_rfl)
theorem vi_f (len cap:Nat) (b:List UInt8) (fl nx lf:Int) (es rt:List (D × D)) (x:List UInt8) (sn:List (D × D)):∃ L,RunIs Tryz.prog cs19 [(9,.give (.bool false))] 1000 15 Tryz.f77 [0,1,2,3] (headN 2 cdVi) (startSt (aV x) (mV len cap b fl nx lf es rt sn) 15) L
  [([],
   [((if false=true then V.tup [D.valV (V.bool false) (lookD (D.str x) sn),V.bool (lookD (D.str x) sn).isSome] else D.valV (V.bool false) (lookD (D.str x) sn))=V.bool false)],
   .to .normal (stG [(0,.str x),(1,P8),(2,P11),(3,P10)] (mV len cap b fl nx lf es rt (updD (.str x) (.bool true) sn)) 15))]
 :=RunIs.of (by kernel_rfl) (by kernel_rfl) (by kernel_rfl)
theorem vi_r (len cap:Nat) (b:List UInt8) (fl nx lf:Int) (es rt:List (D × D)) (x:List UInt8) (sn:List (D × D)) (d:List UInt8) (rs:List (List UInt8)) (k:Int):∃ L,RunIs Tryz.prog cs19 [(17,.give (entV d rs k)),(20,.give (.int .i64 (Int.ofNat 0)))] 1000 15 Tryz.f77 [1,2,3,18,19,20] (seqL lpVi) (stG [(0,.str x),(1,P8),(2,P11),(3,P10)] (mV len cap b fl nx lf es rt sn) 15) L
  [([],
   [((if false=true then V.tup [D.valV (V.agg [V.str ([]:List UInt8),V.slc none 0 0 0,V.int IntKind.i64 (0:Int)]) (lookD (D.str x) es),V.bool (lookD (D.str x) es).isSome] else D.valV (V.agg [V.str ([]:List UInt8),V.slc none 0 0 0,V.int IntKind.i64 (0:Int)]) (lookD (D.str x) es))=entV d rs k),(V.int IntKind.i64 (0:Int)=V.int IntKind.i64 (0:Int))],
   .to .normal (stG [(1,.ptr (some (8,0))),(2,.ptr (some (11,0))),(3,.ptr (some (10,0))),(18,.lst false (rs.length) (strs rs)),(19,.int .i64 ((Int.ofNat rs.length))),(20,.int .i64 0)] (hL [(0,.ints .u32 gS),(1,.ints .u32 gR),(3,.cells [.slc (some (4,0)) len cap 1,.int .i64 fl,.map (some 5),.map (some 6),.int .i64 nx,.bool false,.bool false,.int .i64 lf]),(4,.buf 5 false b),(5,.mapD none es),(7,.cells [.map (some 6)]),(8,.cells [.map (some 9)]),(9,.mapD none sn),(10,.cells [.fn (.func 77) [] [.ptr (some (8,0)),.ptr (some (11,0)),.ptr (some (10,0))]]),(11,.cells [.ptr (some (3,0))]),(12,.dfr)]) 15))]
 :=RunIs.of (by kernel_rfl) (by kernel_rfl) (by kernel_rfl)
theorem vi_b (len cap:Nat) (b:List UInt8) (fl nx lf:Int) (es rt:List (D × D)) (sn sn2:List (D × D)) (rs:List (List UInt8)) (i:Nat) (p:List UInt8):∃ L,RunIs Tryz.prog (pinS cs19 77 (aV p) (mV len cap b fl nx lf es rt sn) 15 (.tup [],mV len cap b fl nx lf es rt sn2,15)) [(21,.split),(22,.give (.fptr [.str p])),(27,.give (.int .i64 (Int.ofNat (i+1))))] 1000 15 Tryz.f77 [1,2,3,18,19,20] (inner (inner (seqR lpVi))) (sVi len cap b fl nx lf es rt sn rs i) L
  [([((decide (Int.ofNat i < Int.ofNat rs.length)),true)],
   [((0:Int) ≤ Int.ofNat i∧Int.ofNat i < (Int.ofNat rs.length)),((strs rs).length=rs.length * 1),(V.fptr (cellsAt (strs rs) (i * 1) 1)=V.fptr [D.str p]),(aV p=aV p∧mV len cap b fl nx lf es rt sn=mV len cap b fl nx lf es rt sn∧15=15),ieq (Int.ofNat i+(1:Int)) (i+1)],
   .to .normal (sVi len cap b fl nx lf es rt sn2 rs (i+1))),
  ([((decide (Int.ofNat i < Int.ofNat rs.length)),false)],
   [],
   .to (.exit 0) (sVi len cap b fl nx lf es rt sn rs i))]
 :=RunIs.of (by kernel_rfl) (by kernel_rfl) (by kernel_rfl)
theorem vi_e (len cap:Nat) (b:List UInt8) (fl nx lf:Int) (es rt:List (D × D)) (sn:List (D × D)) (rs:List (List UInt8)) (i:Nat):∃ L,FinIs Tryz.prog cs19 [(21,.give (.bool false))] 1000 15 Tryz.f77 [1,2,3,18,19,20] 0 (inner (inner (seqR lpVi))) (sVi len cap b fl nx lf es rt sn rs i) L
  [([],
   [(V.bool (decide (Int.ofNat i < Int.ofNat rs.length))=V.bool false)],
   .ret (.tup []) (mV len cap b fl nx lf es rt sn) 15)]
 :=FinIs.of (by kernel_rfl) (by kernel_rfl) (by kernel_rfl)
end Go.Proofs.YtfihojpgobmmdaaGreatDoor
namespace Go.Proofs.YtfihojpgobmmdaaGreatDoor
open Go Go.Eng
def snL (ks:List (List UInt8)):List (D × D):=ks.map fun k=>(.str k,.bool true)
theorem snL_look (x:List UInt8):∀ ks:List (List UInt8),lookD (.str x) (snL ks)=if x ∈ ks then some (.bool true) else none
 | []=>rfl
 | k :: ks=>by
   have ih:=snL_look x ks
   unfold snL at ih ⊢
   rw [List.map_cons,lookD_cons,ih]
   by_cases h:k=x
   · subst h; simp
   · have h1:¬ (D.str k=D.str x):=fun e=>h (by cases e; rfl)
     have h2:¬ x=k:=fun e=>h e.symm
     simp only [h1,if_false,List.mem_cons,h2,false_or]
theorem snL_upd {x:List UInt8} {ks:List (List UInt8)} (h:x ∉ ks):updD (.str x) (.bool true) (snL ks)=snL (ks ++ [x]):=by
 rw [upd_len_new _ (by rw [snL_look,if_neg h])]
 unfold snL; rw [List.map_append]; rfl
def refsD (es:List (D × D)) (x:List UInt8):List (List UInt8):=match lookD (.str x) es with
 | some (.agg [_,.lst _ cs,_])=>strL cs
 | _=>[]
theorem refsD_has {es:List (D × D)} {x d:List UInt8} {rs:List (List UInt8)} {k:Int} (h:lookD (.str x) es=some (entD d rs k)):refsD es x=rs:=by
 unfold refsD; rw [h]; exact strL_strs rs
def dfsK (es:List (D × D)):Nat→List UInt8→List (List UInt8)→List (List UInt8)
 | 0,_,ks=>ks
 | k+1,x,ks=>if x ∈ ks then ks else (refsD es x).foldl (fun a r=>dfsK es k r a) (ks ++ [x])
def Ends (es:List (D × D)):Nat→List UInt8→Prop
 | 0,_=>False
 | k+1,x=>Has es x∧(refsD es x).length ≤ 1000000∧∀ r ∈ refsD es x,Ends es k r
section
variable (len cap:Nat) (b:List UInt8) (fl nx lf:Int) (es rt:List (D × D))
theorem look_true {x:List UInt8} {ks:List (List UInt8)} (h:x ∈ ks):(if false=true then V.tup [D.valV (V.bool false) (lookD (D.str x) (snL ks)),V.bool (lookD (D.str x) (snL ks)).isSome] else D.valV (V.bool false) (lookD (D.str x) (snL ks)))=V.bool true:=by
 rw [snL_look,if_pos h]; rfl
theorem look_false {x:List UInt8} {ks:List (List UInt8)} (h:x ∉ ks):(if false=true then V.tup [D.valV (V.bool false) (lookD (D.str x) (snL ks)),V.bool (lookD (D.str x) (snL ks)).isSome] else D.valV (V.bool false) (lookD (D.str x) (snL ks)))=V.bool false:=by
 rw [snL_look,if_neg h]; rfl
theorem look_ent {x d:List UInt8} {rs:List (List UInt8)} {k:Int} (h:lookD (.str x) es=some (entD d rs k)):(if false=true then V.tup [D.valV (V.agg [V.str ([]:List UInt8),V.slc none 0 0 0,V.int IntKind.i64 (0:Int)]) (lookD (D.str x) es),V.bool (lookD (D.str x) es).isSome] else D.valV (V.agg [V.str ([]:List UInt8),V.slc none 0 0 0,V.int IntKind.i64 (0:Int)]) (lookD (D.str x) es))=entV d rs k:=by
 rw [h]; rfl
theorem lt77:77 < Tryz.prog.funcs.size:=Nat.le_of_ble_eq_true (by kernel_rfl)
theorem call77:∀ (k:Nat) (x:List UInt8) (ks:List (List UInt8)),Ends es k x→CallIs Tryz.prog 77 (aV x) (mV len cap b fl nx lf es rt (snL ks)) 15 (.tup []) (mV len cap b fl nx lf es rt (snL (dfsK es k x ks))) 15
 | 0,_,_,h=>h.elim
 | k+1,x,ks,h=>by
   obtain ⟨⟨d,rs,n,he⟩,hn,hr⟩:=h
   refine callIs_of_TG Tryz.func77 (code:=cdVi) (by kernel_rfl) (by kernel_rfl) ?_
   unfold dfsK
   by_cases hx:x ∈ ks
   · rw [if_pos hx]
     obtain ⟨L,hr1⟩:=vi_t len cap b fl nx lf es rt x (snL ks)
     refine TG_ret X19 mo _ (by kernel_rfl) hr1 fun g hg _=>?_
     rw [List.mem_singleton] at hg; subst hg
     exact ⟨fm1 (look_true hx),_,_,_,rfl,rfl,rfl,rfl⟩
   · rw [if_neg hx]
     obtain ⟨L,hr1⟩:=vi_f len cap b fl nx lf es rt x (snL ks)
     refine TG_isN1 2 X19 mo (by kernel_rfl) hr1 (fm1 (look_false hx)) ?_
     rw [snL_upd hx]
     rw [refsD_has he] at hn hr ⊢
     refine TG_seq' (by kernel_rfl) ?_
     obtain ⟨L2,hr2⟩:=vi_r len cap b fl nx lf es rt x (snL (ks ++ [x])) d rs n
     refine TG_is X19 mo anyR (by kernel_rfl) hr2 fun g hg _=>?_
     rw [List.mem_singleton] at hg; subst hg
     refine ⟨fm (look_ent es he) (fm1 rfl),fun s' hs'=>?_⟩
     have hs':normG 15 [1,2,3,18,19,20] s'=some (sVi len cap b fl nx lf es rt (snL ((rs.take 0).foldl (fun a r=>dfsK es k r a) (ks ++ [x]))) rs 0):=hs'
     refine TG_forN 0 rs.length (fun i=>sVi len cap b fl nx lf es rt (snL ((rs.take i).foldl (fun a r=>dfsK es k r a) (ks ++ [x]))) rs i) (by kernel_rfl) (by kernel_rfl) (.norm hs') (fun i hi=>?_) ?_
     · have hc:=call77 k rs[i] ((rs.take i).foldl (fun a r=>dfsK es k r a) (ks ++ [x])) (hr _ (List.getElem_mem hi))
       generalize hK:(rs.take i).foldl (fun a r=>dfsK es k r a) (ks ++ [x])=K at hc
       have hnext:(rs.take (i+1)).foldl (fun a r=>dfsK es k r a) (ks ++ [x])=dfsK es k rs[i] K:=by
        rw [List.take_add_one,List.getElem?_eq_getElem hi,Option.toList_some,List.foldl_append,hK]; rfl
       obtain ⟨L3,hr3⟩:=vi_b len cap b fl nx lf es rt (snL K) (snL (dfsK es k rs[i] K)) rs i rs[i]
       simp only [hnext,hK]
       refine TG_is (X19.pin lt77 hc) mo anyR (by kernel_rfl) hr3 fun g hg hc=>?_
       rcases mem2 hg with rfl | rfl
       · exact ⟨fm ⟨Int.natCast_nonneg _,by rw [hOn,hOn]; omega⟩ (fm (by rw [strs_len,Nat.mul_one]) (fm (congrArg V.fptr (cellsAt_strs (List.getElem?_eq_getElem hi))) (fm ⟨rfl,rfl,rfl⟩ (fm1 (ieq_ok (by rw [hOn]; omega) (by omega)))))),fun s' hs'=>.norm hs'⟩
       · exact absurd (of_decide_eq_false (hc _ (List.mem_singleton.2 rfl))) (by rw [hOn,hOn]; omega)
     · obtain ⟨L3,hr3⟩:=vi_e len cap b fl nx lf es rt (snL ((rs.take rs.length).foldl (fun a r=>dfsK es k r a) (ks ++ [x]))) rs rs.length
       refine TG_isF 0 X19 mo (fun v h n=>v= .tup []∧h=mV len cap b fl nx lf es rt (snL (rs.foldl (fun a r=>dfsK es k r a) (ks ++ [x])))∧n=15) (by kernel_rfl) hr3 (fun s' hs'=>⟨by simp,by rw [outOf_exit]; exact hs'⟩) fun g hg _=>?_
       rw [List.mem_singleton] at hg; subst hg
       exact ⟨fm1 (congrArg V.bool (decide_eq_false (by omega))),⟨rfl,by rw [List.take_length],rfl⟩,fun s' hs'=>⟨by simp,hs'⟩⟩
end
end Go.Proofs.YtfihojpgobmmdaaGreatDoor
namespace Go.Proofs.YtfihojpgobmmdaaGreatDoor
open Go Go.Eng
def reachK (es:List (D × D)) (k:Nat) (ds:List (List UInt8)):List (List UInt8):=ds.foldl (fun a d=>dfsK es k d a) []
inductive Rch (es:List (D × D)):List UInt8→List UInt8→Prop where
 | self (x):Rch es x x
 | step (x y z):y ∈ refsD es x→Rch es y z→Rch es x z
variable {es:List (D × D)}
def Grow (es:List (D × D)) (ks S:List (List UInt8)):Prop:=(∀ y ∈ ks,y ∈ S)∧(∀ y ∈ S,y ∉ ks→∀ r ∈ refsD es y,r ∈ S)∧(ks.Nodup→S.Nodup)
theorem Grow.refl (ks:List (List UInt8)):Grow es ks ks:=⟨fun _ h=>h,fun _ h1 h2=>absurd h1 h2,id⟩
theorem Grow.trans {a b c:List (List UInt8)} (h1:Grow es a b) (h2:Grow es b c):Grow es a c:=
 ⟨fun y h=>h2.1 y (h1.1 y h),fun y hy hn r hr=>by
  by_cases hb:y ∈ b
  · exact h2.1 r (h1.2.1 y hb hn r hr)
  · exact h2.2.1 y hy hb r hr,fun h=>h2.2.2 (h1.2.2 h)⟩
theorem fold_grow {f:List (List UInt8)→List UInt8→List (List UInt8)}:∀ (l:List (List UInt8)) (ks:List (List UInt8)),(∀ r ∈ l,∀ a,Grow es a (f a r)∧r ∈ f a r)→Grow es ks (l.foldl f ks)∧∀ r ∈ l,r ∈ l.foldl f ks
 | [],ks,_=>⟨.refl ks,fun _ h=>by cases h⟩
 | x :: l,ks,h=>by
   obtain ⟨g1,g2⟩:=h x (by simp) ks
   obtain ⟨g3,g4⟩:=fold_grow l (f ks x) fun r hr=>h r (by simp [hr])
   refine ⟨g1.trans g3,fun r hr=>?_⟩
   rcases List.mem_cons.1 hr with rfl | hr
   · exact g3.1 _ g2
   · exact g4 r hr
theorem dfs_grow:∀ (k:Nat) (x:List UInt8) (ks:List (List UInt8)),Ends es k x→Grow es ks (dfsK es k x ks)∧x ∈ dfsK es k x ks
 | 0,_,_,h=>h.elim
 | k+1,x,ks,h=>by
   unfold dfsK
   split
   · rename_i hx; exact ⟨.refl ks,hx⟩
   · rename_i hx
     obtain ⟨g1,g2⟩:=fold_grow (es:=es) (f:=fun a r=>dfsK es k r a) (refsD es x) (ks ++ [x]) fun r hr a=>dfs_grow k r a (h.2.2 r hr)
     have hxm:=g1.1 x (by simp)
     refine ⟨⟨fun y hy=>g1.1 y (by simp [hy]),fun y hy hn r hr=>?_,fun hn=>g1.2.2 ?_⟩,hxm⟩
     · by_cases e:y=x
       · subst e; exact g2 r hr
       · exact g1.2.1 y hy (by simp [hn,e]) r hr
     · exact List.nodup_append.2 ⟨hn,by simp,fun a ha b hb=>by rw [List.mem_singleton] at hb; subst hb; intro e; subst e; exact hx ha⟩
theorem fold_sound {f:List (List UInt8)→List UInt8→List (List UInt8)} {P:List UInt8→Prop}:∀ (l:List (List UInt8)) (ks:List (List UInt8)),(∀ r ∈ l,∀ a,∀ y ∈ f a r,y ∈ a ∨ P y)→∀ y ∈ l.foldl f ks,y ∈ ks ∨ P y
 | [],_,_,y,hy=>.inl hy
 | x :: l,ks,h,y,hy=>by
   rcases fold_sound l (f ks x) (fun r hr=>h r (by simp [hr])) y hy with h1 | h1
   · exact h x (by simp) ks y h1
   · exact .inr h1
theorem dfs_sound:∀ (k:Nat) (x:List UInt8) (ks:List (List UInt8)),∀ y ∈ dfsK es k x ks,y ∈ ks ∨ Rch es x y
 | 0,_,_,_,h=>.inl h
 | k+1,x,ks,y,h=>by
   unfold dfsK at h
   split at h
   · exact .inl h
   · rcases fold_sound (P:=Rch es x) (refsD es x) (ks ++ [x]) (fun r hr a z hz=>(dfs_sound k r a z hz).imp id fun q=>.step x r z hr q) y h with h1 | h1
     · rcases List.mem_append.1 h1 with h2 | h2
       · exact .inl h2
       · rw [List.mem_singleton] at h2; subst h2; exact .inr (.self _)
     · exact .inr h1
theorem closed_reach {S:List (List UInt8)} (hS:∀ y ∈ S,∀ r ∈ refsD es y,r ∈ S) {x y:List UInt8} (h:Rch es x y):x ∈ S→y ∈ S:=by
 induction h with
 | self x=>exact id
 | step x y z hr _ ih=>exact fun hx=>ih (hS x hx y hr)
theorem reachK_mem {k:Nat} {ds:List (List UInt8)} (he:∀ d ∈ ds,Ends es k d) (y:List UInt8):y ∈ reachK es k ds ↔ ∃ d ∈ ds,Rch es d y:=by
 obtain ⟨g1,g2⟩:=fold_grow (es:=es) (f:=fun a d=>dfsK es k d a) ds [] fun r hr a=>dfs_grow k r a (he r hr)
 constructor
 · intro h
   rcases fold_sound (P:=fun y=>∃ d ∈ ds,Rch es d y) ds [] (fun r hr a z hz=>(dfs_sound k r a z hz).imp id fun q=>⟨r,hr,q⟩) y h with h1 | h1
   · cases h1
   · exact h1
 · rintro ⟨d,hd,hr⟩
   exact closed_reach (fun y hy r hr=>g1.2.1 y hy (by simp) r hr) hr (g2 d hd)
theorem reachK_nodup {k:Nat} {ds:List (List UInt8)} (he:∀ d ∈ ds,Ends es k d):(reachK es k ds).Nodup:=
 (fold_grow (es:=es) (f:=fun a d=>dfsK es k d a) ds [] fun r hr a=>dfs_grow k r a (he r hr)).1.2.2 List.nodup_nil
theorem reachK_perm {k:Nat} {a b:List (List UInt8)} (hp:List.Perm a b) (he:∀ d ∈ b,Ends es k d):List.Perm (reachK es k a) (reachK es k b):=by
 have ha:∀ d ∈ a,Ends es k d:=fun d h=>he d (hp.mem_iff.1 h)
 refine (List.perm_ext_iff_of_nodup (reachK_nodup ha) (reachK_nodup he)).2 fun y=>?_
 rw [reachK_mem ha,reachK_mem he]
 exact ⟨fun ⟨d,h,r⟩=>⟨d,hp.mem_iff.1 h,r⟩,fun ⟨d,h,r⟩=>⟨d,hp.mem_iff.2 h,r⟩⟩
end Go.Proofs.YtfihojpgobmmdaaGreatDoor
namespace Go.Proofs.YtfihojpgobmmdaaGreatDoor
open Go Go.Eng
section
variable (len cap:Nat) (b:List UInt8) (fl nx lf:Int) (es rt:List (D × D))
noncomputable def SVx (sn:List (D × D)):St:=stG [(0,.fn (.yield 13) [] []),(6,.ptr (some (14,0)))] ((hVx len cap b fl nx lf es rt sn).set 6 none) 15
noncomputable def s4x (sn:List (D × D)) (kn d:List UInt8):St:={ SVx len cap b fl nx lf es rt sn with fr:=(((((SVx len cap b fl nx lf es rt sn).fr.set 7 (some (.tup [.bool true,.str kn,.str d]))).set 8 (some (.bool true))).set 9 (some (.tup [.str kn,.str d]))).set 10 (some (.str d))).set 4 (some (.str d)) }
def lR7:List (Nat × O):=memL (pS len cap b fl nx lf es rt) ++ [(7,.cells [.map (some 6)])]
def hRx (sn:List (D × D)):Tr O:=hL (lR7 len cap b fl nx lf es rt ++ [(8,.mapD none sn)])
end
noncomputable abbrev cs77 (args:List V) (h:Tr O) (n:Nat) (v:V) (h1:Tr O) (n1:Nat):CallS:=callX Tryz.prog (pinW 77 args h n v h1 n1 W19) H0 1000 40
theorem vx_1 (len cap:Nat) (b:List UInt8) (fl nx lf:Int) (es rt:List (D × D)) (sn sn2:List (D × D)) (kn d:List UInt8):∃ L,RunIs Tryz.prog (cs77 (aV d) (mVy len cap b fl nx lf es rt sn) 15 (.tup []) (mVy len cap b fl nx lf es rt sn2) 15) [] 1000 15 Tryz.f78 [0,6] ((mlOf cdVl).rest) (s4x len cap b fl nx lf es rt sn kn d) L
  [([],
   [(aV d=aV d∧mVy len cap b fl nx lf es rt sn=mVy len cap b fl nx lf es rt sn∧15=15)],
   .to .normal (SVx len cap b fl nx lf es rt sn2))]
 :=RunIs.of (by kernel_rfl) (by kernel_rfl) (by kernel_rfl)
theorem rx1_ (len cap:Nat) (b:List UInt8) (fl nx lf:Int) (es rt:List (D × D)):∃ L,RunIs Tryz.prog cs19 [] 1000 8 Tryz.f51 [1,5,6] (headN 4 cdRd) (startSt [P3,f78] (hL (lR7 len cap b fl nx lf es rt)) 8) L
  [([],
   [],
   .to .normal (stG [(1,.fn (.func 78) [] [.ptr (some (7,0))]),(5,.ptr (some (8,0))),(6,.ptr (some (10,0)))] (hL (memL (pS len cap b fl nx lf es rt) ++ [(7,.cells [.map (some 6)]),(8,.cells [.map (some 9)]),(9,.map [] 0),(10,.cells [.fn (.func 77) [] [.ptr (some (8,0)),.ptr (some (11,0)),.ptr (some (10,0))]]),(11,.cells [.ptr (some (3,0))])])) 12))]
 :=RunIs.of (by kernel_rfl) (by kernel_rfl) (by kernel_rfl)
theorem rx2_ (len cap:Nat) (b:List UInt8) (fl nx lf:Int) (es rt:List (D × D)):∃ L,RunIs Tryz.prog cs19 [] 1000 8 Tryz.f51 [5,6,10] (seqL (seqL tlRd)) (stG [(1,f78),(5,P8),(6,P10)] (hL (lV len cap b fl nx lf es rt [])) 12) L
  [([],
   [],
   .to .normal (sRx len cap b fl nx lf es rt))]
 :=RunIs.of (by kernel_rfl) (by kernel_rfl) (by kernel_rfl)
theorem rx3_ (len cap:Nat) (b:List UInt8) (fl nx lf:Int) (es rt sn:List (D × D)):EndIs Tryz.prog cs19 [] 1000 8 Tryz.f51 (seqR tlRd) (rEnd (sRx len cap b fl nx lf es rt) (hVx len cap b fl nx lf es rt sn) 14)
  [([],
   [],
   .ret (.map (some 8)) (hRx len cap b fl nx lf es rt sn) 9)]
 :=⟨by kernel_rfl,by kernel_rfl,by kernel_rfl⟩
end Go.Proofs.YtfihojpgobmmdaaGreatDoor
namespace Go.Proofs.YtfihojpgobmmdaaGreatDoor
open Go Go.Eng
def RtS (rt:List (D × D)):Prop:=∀ e ∈ rt,∃ n d,e=(.str n,.str d)
def valsOf (rt:List (D × D)):List (List UInt8):=rt.map fun e=>D.strB e.2
section
variable (len cap:Nat) (b:List UInt8) (fl nx lf:Int) (es rt:List (D × D))
set_option maxRecDepth 20000 in
theorem mVy_get (sn:List (D × D)):∀ k,(mVy len cap b fl nx lf es rt sn).get k=(mV len cap b fl nx lf es rt sn).get k:=by
 have key:∀ k,k < 15→(mVy len cap b fl nx lf es rt sn).get k=(mV len cap b fl nx lf es rt sn).get k:=by
  intro k hk
  rcases (by omega:k=0 ∨ k=1 ∨ k=2 ∨ k=3 ∨ k=4 ∨ k=5 ∨ k=6 ∨ k=7 ∨ k=8 ∨ k=9 ∨ k=10 ∨ k=11 ∨ k=12 ∨ k=13 ∨ k=14) with rfl | rfl | rfl | rfl | rfl | rfl | rfl | rfl | rfl | rfl | rfl | rfl | rfl | rfl | rfl <;> kernel_rfl
 exact get_two (l:=lVx len cap b fl nx lf es rt sn) (l0:=lMv len cap b fl nx lf es rt sn) (a:=6) (b:=13) (N:=15) (by kernel_rfl) (by kernel_rfl) (by decide) (by decide) (by decide) key
theorem call77y (k:Nat) (x:List UInt8) (ks:List (List UInt8)) (h:Ends es k x):CallIs Tryz.prog 77 (aV x) (mVy len cap b fl nx lf es rt (snL ks)) 15 (.tup []) (mVy len cap b fl nx lf es rt (snL (dfsK es k x ks))) 15:=
 CallIs.ext (mVy_get len cap b fl nx lf es rt _) (mVy_get len cap b fl nx lf es rt _) (call77 len cap b fl nx lf es rt k x ks h)
abbrev RVx (k:Nat) (v:V) (h:Tr O) (n:Nat):Prop:=∃ vis,List.Perm vis rt∧v= .tup []∧h=hVx len cap b fl nx lf es rt (snL (reachK es k (valsOf vis)))∧n=14
set_option maxRecDepth 20000 in
theorem call78x (k:Nat) (hrt:RtS rt) (he:∀ d ∈ valsOf rt,Ends es k d):CallsOne Tryz.prog 78 [.fn (.yield 13) [] [],.ptr (some (7,0))] (hVx len cap b fl nx lf es rt (snL [])) 14 (RVx len cap b fl nx lf es rt k):=by
 refine callsOne_of_TG mo po Tryz.func78 (code:=cdVl) (by kernel_rfl) (by kernel_rfl) ?_
 rw [ml78]
 refine TG_maps (v0:=.map (some 6)) (fr0:=(startSt [.fn (.yield 13) [] [],.ptr (some (7,0))] (hVx len cap b fl nx lf es rt (snL [])) 14).fr.set 5 (some (.map (some 6)))) (fr1:=((startSt [.fn (.yield 13) [] [],.ptr (some (7,0))] (hVx len cap b fl nx lf es rt (snL [])) 14).fr.set 5 (some (.map (some 6)))).set 6 (some (.ptr (some (14,0))))) (m:=6) (kd:=none) (es:=rt) mo ml78_ok
  (by kernel_rfl) (by kernel_rfl) (by kernel_rfl) (by kernel_rfl) (Nat.le_of_ble_eq_true rfl) (by kernel_rfl) (fun vis s1=>normG 15 [0,6] s1=some (SVx len cap b fl nx lf es rt (snL (reachK es k (valsOf vis))))) (by kernel_rfl) ?_
 rintro vis left s1 hs hp
 refine ⟨[0,6],_,hs,by kernel_rfl,fun hl=>?_,fun e left' he2=>?_⟩
 · subst hl
   rw [List.append_nil] at hp
   refine ⟨(SVx len cap b fl nx lf es rt (snL (reachK es k (valsOf vis)))).fr.set 7 (some (.tup [.bool false])),{ SVx len cap b fl nx lf es rt (snL (reachK es k (valsOf vis))) with fr:=((SVx len cap b fl nx lf es rt (snL (reachK es k (valsOf vis)))).fr.set 7 (some (.tup [.bool false]))).set 8 (some (.bool false)) },by kernel_rfl,by kernel_rfl,by kernel_rfl,.inl rfl,.tup [],hVx len cap b fl nx lf es rt (snL (reachK es k (valsOf vis))),14,by kernel_rfl,vis,hp,rfl,rfl,rfl⟩
 · have hmem:e ∈ rt:=hp.mem_iff.1 (List.mem_append_right _ (he2.mem_iff.2 (by simp)))
   obtain ⟨kn,d,rfl⟩:=hrt e hmem
   have hd:Ends es k d:=he d (List.mem_map.2 ⟨_,hmem,rfl⟩)
   have hnext:reachK es k (valsOf (vis ++ [(.str kn,.str d)]))=dfsK es k d (reachK es k (valsOf vis)):=by
    unfold reachK valsOf
    rw [List.map_append,List.foldl_append]; rfl
   rw [hnext]
   generalize reachK es k (valsOf vis)=ks at *
   refine ⟨(SVx len cap b fl nx lf es rt (snL ks)).fr.set 7 (some (.tup [.bool true,.str kn,.str d])),{ SVx len cap b fl nx lf es rt (snL ks) with fr:=((SVx len cap b fl nx lf es rt (snL ks)).fr.set 7 (some (.tup [.bool true,.str kn,.str d]))).set 8 (some (.bool true)) },
    (((SVx len cap b fl nx lf es rt (snL ks)).fr.set 7 (some (.tup [.bool true,.str kn,.str d]))).set 8 (some (.bool true))).set 9 (some (.tup [.str kn,.str d])),s4x len cap b fl nx lf es rt (snL ks) kn d,by kernel_rfl,by kernel_rfl,by kernel_rfl,by kernel_rfl,by kernel_rfl,by kernel_rfl,by kernel_rfl,by kernel_rfl,?_⟩
   obtain ⟨L,hr⟩:=vx_1 len cap b fl nx lf es rt (snL ks) (snL (dfsK es k d ks)) kn d
   refine TG_is (CX.of mo po (pinW_ok lt77 (call77y len cap b fl nx lf es rt k d ks hd) W19_ok) H0 1000 40) mo anyR (by kernel_rfl) hr fun g hg _=>?_
   rw [List.mem_singleton] at hg; subst hg
   exact ⟨fm1 ⟨rfl,rfl,rfl⟩,fun s' hs'=>hs'⟩
def canK (es rt:List (D × D)) (k:Nat):List (List UInt8):=reachK es k (valsOf rt)
set_option maxRecDepth 20000 in
theorem call51x (k:Nat) (hrt:RtS rt) (he:∀ d ∈ valsOf rt,Ends es k d):CallIs Tryz.prog 51 [P3,f78] (hL (lR7 len cap b fl nx lf es rt)) 8 (.map (some 8)) (hRx len cap b fl nx lf es rt (snL (canK es rt k))) 9:=by
 refine callIs_of_TG Tryz.func51 (code:=cdRd) (by kernel_rfl) (by kernel_rfl) ?_
 obtain ⟨L1,hr1⟩:=rx1_ len cap b fl nx lf es rt
 refine TG_isN1 4 X19 mo (by kernel_rfl) hr1 all_nil ?_
 refine TG_map [(9,none)] (s2:=stG [(1,f78),(5,P8),(6,P10)] (hL (lV len cap b fl nx lf es rt [])) 12) (by kernel_rfl) ?_
 show TG Tryz.prog 8 Tryz.f51.ntmps tlRd _ _
 refine TG_seq' (by kernel_rfl) ?_
 refine TG_seq' (by kernel_rfl) ?_
 obtain ⟨L2,hr2⟩:=rx2_ len cap b fl nx lf es rt
 refine TG_is X19 mo anyR (by kernel_rfl) hr2 fun g hg _=>?_
 rw [List.mem_singleton] at hg; subst hg
 refine ⟨all_nil,fun s' hs'=>TG_norm hs' ?_⟩
 refine TG_block (i:=0) (by kernel_rfl) ?_
 refine TG_rangeN (gf:=78) (lb:=[.ptr (some (7,0))]) (by kernel_rfl) (by kernel_rfl) (by kernel_rfl) (by kernel_rfl) (by kernel_rfl) (call78x len cap b fl nx lf es rt k hrt he) ?_
 rintro v h n ⟨vis,hp,rfl,rfl,rfl⟩
 have hperm:List.Perm (snL (reachK es k (valsOf vis))) (snL (canK es rt k)):=(reachK_perm (hp.map _) he).map _
 generalize snL (reachK es k (valsOf vis))=sn at hperm ⊢
 generalize snL (canK es rt k)=sn0 at hperm ⊢
 refine ⟨by kernel_rfl,?_⟩
 show TG Tryz.prog 8 Tryz.f51.ntmps (seqR tlRd) (rEnd (sRx len cap b fl nx lf es rt) (hVx len cap b fl nx lf es rt sn) 14) _
 have hg:(rEnd (sRx len cap b fl nx lf es rt) (hVx len cap b fl nx lf es rt sn) 14).h.get 9=some (.mapD none sn):=by kernel_rfl
 refine TG_mem (h2:=(rEnd (sRx len cap b fl nx lf es rt) (hVx len cap b fl nx lf es rt sn) 14).h.set 9 (some (.mapD none sn0))) (fun E w g=>swap_good (by decide) hg rfl (fun b s _ r=>mapD_perm hperm r) g) ?_
 have e:({ rEnd (sRx len cap b fl nx lf es rt) (hVx len cap b fl nx lf es rt sn) 14 with h:=(rEnd (sRx len cap b fl nx lf es rt) (hVx len cap b fl nx lf es rt sn) 14).h.set 9 (some (.mapD none sn0)) }:St)=rEnd (sRx len cap b fl nx lf es rt) (hVx len cap b fl nx lf es rt sn0) 14:=by kernel_rfl
 rw [e]
 refine TG_end X19 mo _ (by kernel_rfl) (rx3_ len cap b fl nx lf es rt sn0) fun g hg _=>?_
 rw [List.mem_singleton] at hg; subst hg
 exact ⟨all_nil,_,_,_,rfl,rfl,rfl,rfl⟩
end
end Go.Proofs.YtfihojpgobmmdaaGreatDoor
namespace Go.Proofs.YtfihojpgobmmdaaGreatDoor
open Go Go.Eng
noncomputable abbrev cdLi:Code:=bodyOf Tryz.f17
theorem li_1 (len cap:Nat) (b:List UInt8) (fl nx lf:Int) (es rt sn:List (D × D)) (d:List UInt8) (c:Bool):∃ L,RunIs Tryz.prog (pinS cs19 51 [P3,f78] (hL (lR7 len cap b fl nx lf es rt)) 8 (.map (some 8),hRx len cap b fl nx lf es rt sn,9)) [(17,.give (.bool c))] 1000 7 Tryz.f17 [] (cdLi) (startSt [P3,.str d] (memS (pS len cap b fl nx lf es rt)) 7) L
  [([],
   [([P3,f78]=[P3,f78]∧hL (lR7 len cap b fl nx lf es rt)=hL (lR7 len cap b fl nx lf es rt)∧8=8),((if false=true then V.tup [D.valV (V.bool false) (lookD (D.str d) sn),V.bool (lookD (D.str d) sn).isSome] else D.valV (V.bool false) (lookD (D.str d) sn))=V.bool c)],
   .ret (.bool c) (memS (pS len cap b fl nx lf es rt)) 7)]
 :=RunIs.of (by kernel_rfl) (by kernel_rfl) (by kernel_rfl)
end Go.Proofs.YtfihojpgobmmdaaGreatDoor
namespace Go.Proofs.YtfihojpgobmmdaaGreatDoor
open Go Go.Eng
noncomputable abbrev cdRt:Code:=bodyOf Tryz.f16
noncomputable abbrev csU (l:List (Nat × List (Nat × Fix))):CallS:=callX Tryz.prog W16 (hints l) 1000 40
noncomputable abbrev XU (l:List (Nat × List (Nat × Fix))):CX Tryz.prog:=CX.of mo po W16_ok (hints l) 1000 40
def hRn (d0:List UInt8) (rs0:List (List UInt8)) (k:Int):List (Nat × List (Nat × Fix)):=[(18,[(15,.give (.tup [entV d0 rs0 k,.bool true]))]),(46,[(13,.give (.bool false))]),(50,[(7,.give (.bool false))])]
def hRt (was:List UInt8) (ex b1 b2 b3 b4 b5 b6:Bool):List (Nat × Fix):=[(18,.give (.tup [.str was,.bool ex])),(23,.give (.bool b1)),(27,.give (.bool b2)),(31,.give (.bool b3)),(36,.give (.bool b4)),(40,.give (.bool b3)),(51,.give (.bool b5)),(56,.give (.bool b6))]
theorem rt_new (n d d0:List UInt8) (rs0:List (List UInt8)) (k:Int) (len cap:Nat) (b:List UInt8) (fl nx lf:Int) (es rt:List (D × D)):∃ L,RunIs Tryz.prog (csU (hRn d0 rs0 k)) (hRt [] false false false true false false false) 1000 7 Tryz.f16 [] (cdRt) (startSt [P3,.str n,.str d] (memS (pS len cap b fl nx lf es rt)) 7) L
  [([],
   [((if true=true then V.tup [D.valV (V.str ([]:List UInt8)) (lookD (D.str n) rt),V.bool (lookD (D.str n) rt).isSome] else D.valV (V.str ([]:List UInt8)) (lookD (D.str n) rt))=V.tup [V.str [],V.bool false]),(V.bool (beqB n ([]:List UInt8))=V.bool false),(V.bool (decide ((Int.ofNat n.length) > (64:Int)))=V.bool false),((V.bool !beqB d ([]:List UInt8))=V.bool true),((if true=true then V.tup [D.valV (V.agg [V.str ([]:List UInt8),V.slc none 0 0 0,V.int IntKind.i64 (0:Int)]) (lookD (D.str d) es),V.bool (lookD (D.str d) es).isSome] else D.valV (V.agg [V.str ([]:List UInt8),V.slc none 0 0 0,V.int IntKind.i64 (0:Int)]) (lookD (D.str d) es))=V.tup [entV d0 rs0 k,V.bool true]),((V.bool !true)=V.bool false),((V.bool !beqB d ([]:List UInt8))=V.bool true),(V.bool (decide ((Int.ofNat rt.length) ≥ (64:Int)))=V.bool false),(V.bool (beqB d [])=V.bool false),(n.length < 100000000),(d.length < 100000000),(V.bool (decide (IntKind.i64.wrap ((Int.ofNat len)+(Int.ofNat (namB n d).length)) > (1048576:Int)))=V.bool false),(0 < cap),(len=b.length),(roomy (len+(namB n d).length) 1 1=true),(V.bool (beqB d ([]:List UInt8))=V.bool false)],
   .ret (.int .i64 0) (hL [(0,.ints .u32 gS),(1,.ints .u32 gR),(3,.cells [.slc (some (7,0)) (len+(namB n d).length) (len+(namB n d).length) 1,.int .i64 fl,.map (some 5),.map (some 6),.int .i64 nx,.bool false,.bool false,.int .i64 lf]),(5,.mapD none es),(6,.mapD none (updD (D.str n) (D.str d) rt)),(7,.buf 5 false (b ++ strI (bytesI (namB n d))))]) 8)]
 :=RunIs.of (by kernel_rfl) (by kernel_rfl) (by kernel_rfl)
theorem rt_del (n was:List UInt8) (len cap:Nat) (b:List UInt8) (fl nx lf:Int) (es rt:List (D × D)):∃ L,RunIs Tryz.prog (csU [(46,[(13,.give (.bool false))]),(50,[(7,.give (.bool true))])]) (hRt was true false false false false false false) 1000 7 Tryz.f16 [] (cdRt) (startSt [P3,.str n,.str []] (memS (pS len cap b fl nx lf es rt)) 7) L
  [([],
   [((if true=true then V.tup [D.valV (V.str ([]:List UInt8)) (lookD (D.str n) rt),V.bool (lookD (D.str n) rt).isSome] else D.valV (V.str ([]:List UInt8)) (lookD (D.str n) rt))=V.tup [V.str was,V.bool true]),(V.bool (beqB n ([]:List UInt8))=V.bool false),(V.bool (decide ((Int.ofNat n.length) > (64:Int)))=V.bool false),((V.bool !beqB [] ([]:List UInt8))=V.bool false),((V.bool !beqB [] ([]:List UInt8))=V.bool false),(V.bool (beqB [] was)=V.bool false),(n.length < 100000000),(0 < 100000000),(V.bool (decide (IntKind.i64.wrap ((Int.ofNat len)+(Int.ofNat (namB n []).length)) > (1048576:Int)))=V.bool false),(0 < cap),(len=b.length),(roomy (len+(namB n []).length) 1 1=true),(V.bool (beqB [] ([]:List UInt8))=V.bool true)],
   .ret (.int .i64 0) (hL [(0,.ints .u32 gS),(1,.ints .u32 gR),(3,.cells [.slc (some (7,0)) (len+(namB n []).length) (len+(namB n []).length) 1,.int .i64 fl,.map (some 5),.map (some 6),.int .i64 nx,.bool false,.bool false,.int .i64 lf]),(5,.mapD none es),(6,.mapD none (delD (D.str n) rt)),(7,.buf 5 false (b ++ strI (bytesI (namB n []))))]) 8)]
 :=RunIs.of (by kernel_rfl) (by kernel_rfl) (by kernel_rfl)
end Go.Proofs.YtfihojpgobmmdaaGreatDoor
namespace Go.Proofs.YtfihojpgobmmdaaGreatDoor
open Go Go.Eng
theorem rt_some {rt:List (D × D)} {n was:List UInt8} (h:lookD (.str n) rt=some (.str was)):(if true=true then V.tup [D.valV (V.str ([]:List UInt8)) (lookD (D.str n) rt),V.bool (lookD (D.str n) rt).isSome] else D.valV (V.str ([]:List UInt8)) (lookD (D.str n) rt))=V.tup [V.str was,V.bool true]:=by
 rw [h]; rfl
theorem rt_non {rt:List (D × D)} {n:List UInt8} (h:lookD (.str n) rt=none):(if true=true then V.tup [D.valV (V.str ([]:List UInt8)) (lookD (D.str n) rt),V.bool (lookD (D.str n) rt).isSome] else D.valV (V.str ([]:List UInt8)) (lookD (D.str n) rt))=V.tup [V.str [],V.bool false]:=by
 rw [h]; rfl
theorem vb_f {p:Prop} [Decidable p] (h:¬ p):V.bool (decide p)=V.bool false:=by rw [decide_eq_false h]
theorem vq_f {a b:List UInt8} (h:a ≠ b):V.bool (beqB a b)=V.bool false:=by rw [beqB_eq,beq_eq_false_iff_ne.2 h]
theorem vn_t {a b:List UInt8} (h:a ≠ b):(V.bool !beqB a b)=V.bool true:=by rw [beqB_eq,beq_eq_false_iff_ne.2 h]; rfl
theorem ng64 {n:List UInt8} (h:n.length ≤ 64):V.bool (decide ((Int.ofNat n.length) > (64:Int)))=V.bool false:=vb_f (by rw [show Int.ofNat n.length=(n.length:Int) from rfl]; omega)
section
variable (n d:List UInt8) (len cap:Nat) (b:List UInt8) (fl nx lf:Int) (es rt:List (D × D))
abbrev nOk:Prop:=n ≠ []∧n.length ≤ 64
abbrev memRw (m:Nat) (b':List UInt8) (rt':List (D × D)):Tr O:=memNw m b' fl nx lf es rt'
theorem root_new (hn:nOk n) (hd:d ≠ []) (hdl:d.length ≤ 100) (hk:Has es d) (hno:lookD (.str n) rt=none) (h64:rt.length < 64) (hc:0 < cap) (hl:len=b.length) (hfit:len+(namB n d).length ≤ 1048576):
  CallIs Tryz.prog 16 [P3,.str n,.str d] (memS (pS len cap b fl nx lf es rt)) 7 (.int .i64 0) (memRw fl nx lf es (len+(namB n d).length) (b ++ namB n d) (updD (.str n) (.str d) rt)) 8:=by
 have hO:∀ n:Nat,Int.ofNat n=(n:Int):=fun _=>rfl
 obtain ⟨d0,rs0,k,hk⟩:=hk
 refine callIs_of_TG Tryz.func16 (code:=cdRt) (by kernel_rfl) (by kernel_rfl) ?_
 obtain ⟨L,hr⟩:=rt_new n d d0 rs0 k len cap b fl nx lf es rt
 simp only [strI_bytesI] at hr
 refine TG_ret (XU (hRn d0 rs0 k)) mo _ (by kernel_rfl) hr fun g hg _=>?_
 rw [List.mem_singleton] at hg; subst hg
 refine ⟨?_,_,_,_,rfl,rfl,rfl,rfl⟩
 repeat' (first | exact all_nil | refine List.forall_mem_cons.2 ⟨?_,?_⟩)
 · exact rt_non hno
 · exact vq_f hn.1
 · exact ng64 hn.2
 · exact vn_t hd
 · exact has_hint hk
 · rfl
 · exact vn_t hd
 · exact vb_f (by rw [hO]; omega)
 · exact vq_f hd
 · exact Nat.lt_of_le_of_lt hn.2 (by decide)
 · omega
 · rw [wrap_id (by rw [hO,hO]; omega) (by rw [hO,hO]; omega)]
   exact gt_false (by rw [hO,hO]; omega)
 · exact hc
 · exact hl
 · exact roomy_ok (by omega)
 · exact vq_f hd
theorem root_del (was:List UInt8) (hn:nOk n) (hno:lookD (.str n) rt=some (.str was)) (hne:was ≠ []) (hc:0 < cap) (hl:len=b.length) (hfit:len+(namB n []).length ≤ 1048576):
  CallIs Tryz.prog 16 [P3,.str n,.str []] (memS (pS len cap b fl nx lf es rt)) 7 (.int .i64 0) (memRw fl nx lf es (len+(namB n []).length) (b ++ namB n []) (delD (.str n) rt)) 8:=by
 have hO:∀ n:Nat,Int.ofNat n=(n:Int):=fun _=>rfl
 refine callIs_of_TG Tryz.func16 (code:=cdRt) (by kernel_rfl) (by kernel_rfl) ?_
 obtain ⟨L,hr⟩:=rt_del n was len cap b fl nx lf es rt
 simp only [strI_bytesI] at hr
 refine TG_ret (XU [(46,[(13,.give (.bool false))]),(50,[(7,.give (.bool true))])]) mo _ (by kernel_rfl) hr fun g hg _=>?_
 rw [List.mem_singleton] at hg; subst hg
 refine ⟨?_,_,_,_,rfl,rfl,rfl,rfl⟩
 repeat' (first | exact all_nil | refine List.forall_mem_cons.2 ⟨?_,?_⟩)
 · exact rt_some hno
 · exact vq_f hn.1
 · exact ng64 hn.2
 · rfl
 · rfl
 · exact vq_f hne.symm
 · exact Nat.lt_of_le_of_lt hn.2 (by decide)
 · decide
 · rw [wrap_id (by rw [hO,hO]; omega) (by rw [hO,hO]; omega)]
   exact gt_false (by rw [hO,hO]; omega)
 · exact hc
 · exact hl
 · exact roomy_ok (by omega)
 · rfl
end
end Go.Proofs.YtfihojpgobmmdaaGreatDoor
namespace Go.Proofs.YtfihojpgobmmdaaGreatDoor
open Go Go.Eng Go.Shelf Go.RowKit
end Go.Proofs.YtfihojpgobmmdaaGreatDoor
namespace Go.Proofs.YtfihojpgobmmdaaGreatDoor
open Go Go.Eng
theorem hs_no (d:List UInt8) (len cap:Nat) (b:List UInt8) (fl nx lf:Int) (es rt:List (D × D)):∃ L,RunIs Tryz.prog (csQ []) [(15,.give (.tup [entZ,.bool false]))] 1000 7 Tryz.f18 [] (bodyOf Tryz.f18) (startSt [P3,.str d] (memS (pS len cap b fl nx lf es rt)) 7) L
  [([],
   [((if true=true then V.tup [D.valV (V.agg [V.str ([]:List UInt8),V.slc none 0 0 0,V.int IntKind.i64 (0:Int)]) (lookD (D.str d) es),V.bool (lookD (D.str d) es).isSome] else D.valV (V.agg [V.str ([]:List UInt8),V.slc none 0 0 0,V.int IntKind.i64 (0:Int)]) (lookD (D.str d) es))=V.tup [entZ,V.bool false])],
   .ret (.bool false) (memS (pS len cap b fl nx lf es rt)) 7)]
 :=RunIs.of (by kernel_rfl) (by kernel_rfl) (by kernel_rfl)
theorem hs_has (d d0:List UInt8) (rs0:List (List UInt8)) (k:Int) (len cap:Nat) (b:List UInt8) (fl nx lf:Int) (es rt:List (D × D)):∃ L,RunIs Tryz.prog (csQ []) [(15,.give (.tup [entV d0 rs0 k,.bool true]))] 1000 7 Tryz.f18 [] (bodyOf Tryz.f18) (startSt [P3,.str d] (memS (pS len cap b fl nx lf es rt)) 7) L
  [([],
   [((if true=true then V.tup [D.valV (V.agg [V.str ([]:List UInt8),V.slc none 0 0 0,V.int IntKind.i64 (0:Int)]) (lookD (D.str d) es),V.bool (lookD (D.str d) es).isSome] else D.valV (V.agg [V.str ([]:List UInt8),V.slc none 0 0 0,V.int IntKind.i64 (0:Int)]) (lookD (D.str d) es))=V.tup [entV d0 rs0 k,V.bool true])],
   .ret (.bool true) (memS (pS len cap b fl nx lf es rt)) 7)]
 :=RunIs.of (by kernel_rfl) (by kernel_rfl) (by kernel_rfl)
end Go.Proofs.YtfihojpgobmmdaaGreatDoor
namespace Go.Proofs.YtfihojpgobmmdaaGreatDoor
open Go Go.Eng
section
variable (f:Bool) (rs:List (List UInt8)) (len cap:Nat) (b:List UInt8) (fl nx lf:Int) (es rt:List (D × D))
theorem has_no (d:List UInt8) (hx:lookD (.str d) es=none):CallIs Tryz.prog 18 [P3,.str d] (memS (pS len cap b fl nx lf es rt)) 7 (.bool false) (memS (pS len cap b fl nx lf es rt)) 7:=by
 refine callIs_of_TG Tryz.func18 (code:=bodyOf Tryz.f18) (by kernel_rfl) (by kernel_rfl) ?_
 obtain ⟨L,hr⟩:=hs_no d len cap b fl nx lf es rt
 refine TG_ret (XQ []) mo _ (by kernel_rfl) hr fun g hg _=>?_
 rw [List.mem_singleton] at hg; subst hg
 refine ⟨fun a ha=>?_,_,_,_,rfl,rfl,rfl,rfl⟩
 rw [List.mem_singleton] at ha; subst ha
 exact hasnt_hint hx
theorem has_yes (d:List UInt8) (hx:Has es d):CallIs Tryz.prog 18 [P3,.str d] (memS (pS len cap b fl nx lf es rt)) 7 (.bool true) (memS (pS len cap b fl nx lf es rt)) 7:=by
 obtain ⟨d0,rs0,k,hx⟩:=hx
 refine callIs_of_TG Tryz.func18 (code:=bodyOf Tryz.f18) (by kernel_rfl) (by kernel_rfl) ?_
 obtain ⟨L,hr⟩:=hs_has d d0 rs0 k len cap b fl nx lf es rt
 refine TG_ret (XQ []) mo _ (by kernel_rfl) hr fun g hg _=>?_
 rw [List.mem_singleton] at hg; subst hg
 refine ⟨fun a ha=>?_,_,_,_,rfl,rfl,rfl,rfl⟩
 rw [List.mem_singleton] at ha; subst ha
 exact has_hint hx
end
end Go.Proofs.YtfihojpgobmmdaaGreatDoor
