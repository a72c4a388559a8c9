/- The Doc laws: the program's tiles: Clean, Zero; Bytes: pieces. No conditions. -/
import Derived.Test.YtmjggdmekboefaaGreatDoorJointEight
import Derived.Test.YtmjggdmekboefaaGreatDoorJointNine
import Derived.Test.YtmjggdmekboefaaGreatDoorProg
import Derived.Test.YtmjggdmekboefaaGreatDoorJointFive
import Derived.Test.YtmjggdmekboefaaGreatDoorJointFour
import Derived.Shelf.Strings.Repeat
import Derived.Test.YtmjggdmekboefaaGreatDoorJointSeven
set_option linter.unusedVariables false
set_option linter.unusedSimpArgs false
set_option linter.unusedSectionVars false
namespace Go.Proofs.YtmjggdmekboefaaGreatDoor
open Go Go.Eng
set_option maxRecDepth 100000
theorem tcs_eq (p : Nat → Int) : D.toVs (tcs p) = (List.range 256).map fun j => V.int .u8 (p j) := by
  unfold tcs
  rw [D.toVs_map, List.map_map]; rfl
theorem tcs_px (p : Nat → Int) {i : Nat} (h : i < 64) : List.take 4 (List.drop (i * 4) (D.toVs (tcs p))) = [.int .u8 (p (4 * i)), .int .u8 (p (4 * i + 1)), .int .u8 (p (4 * i + 2)), .int .u8 (p (4 * i + 3))] := by
  rw [tcs_eq]
  refine List.ext_getElem? fun j => ?_
  rw [List.getElem?_take]
  by_cases c : j < 4
  · rw [if_pos c, List.getElem?_drop, List.getElem?_map, List.getElem?_range (by omega), Nat.mul_comm i 4]
    rcases (by omega : j = 0 ∨ j = 1 ∨ j = 2 ∨ j = 3) with rfl | rfl | rfl | rfl <;> rfl
  · rw [if_neg c, List.getElem?_eq_none (by simp only [List.length_cons, List.length_nil]; omega)]
theorem tcs_len (p : Nat → Int) : (D.toVs (tcs p)).length = 256 := by rw [tcs_eq]; simp
theorem tcD (p : Nat → Int) : DeepTo Tryz.prog 96 [tlV p] (tlV (clnT p)) := by
  refine deepT Tryz.func96 ?_
  refine isE1 1 Wpc_ok (tc_1 p) all_nil ?_
  refine loopF Wpc_ok 0 _ [1, 2, 5, 6] (64 - ·) (· ≤ 64) (fun i => sTc p (tl fun j => if j < 4 * i then clnT p j else p j) i) 0 (by decide) (tc_2 p []) all_nil (by
    rw [tl_congr (q := p) fun j _ => if_neg (by omega)]; exact .own [(3, .u8), (4, .u8)] (by kernel_rfl)) fun i hi => ?_
  refine ⟨_, Wpc_ok, [], _, _, tc_3 p _ i (p (4 * i)) (p (4 * i + 1)) (p (4 * i + 2)) (p (4 * i + 3)), gcons (g1 fun h1 => ?_) (gone (g1 fun h => ?_))⟩
  · have hlt := d64 h1
    refine ⟨fm (b64 hlt) (fm (by rw [tcs_len]; omega) (fm (congrArg V.agg (tcs_px p hlt)) (fm (b64 hlt) (fm (by rw [tl_len]; omega) (fm1 (vsuc (by omega))))))), i + 1, lsub hlt, by show i + 1 ≤ 64; omega, ?_⟩
    rw [tl_put (k := fun j => if j < 4 * (i + 1) then clnT p j else p j) hlt]
    · exact .refl
    all_goals first
      | (rw [if_pos (by omega)]; unfold clnT; congr 2; omega)
      | skip
    intro j _ hj
    by_cases c : j < 4 * i
    · rw [if_pos c, if_pos (by omega)]
    · rw [if_neg c, if_neg (by omega)]
  · have := n64 h
    obtain rfl : i = 64 := by omega
    refine ⟨all_nil, rfl, retE Wpc_ok (tc_4 p _) (gone (g0 ⟨fm (by rw [tl_len]; exact Nat.le_refl _) (fm1 (Nat.le_refl _)), _, _, _, rfl, ?_⟩))⟩
    rw [tlV_agg]
    exact tlV_congr fun j hj => if_pos (by omega)
theorem tzD (p : Nat → Int) : DeepTo Tryz.prog 95 [tlV p] (.bool (eqT (clnT p) fun _ => 0)) := by
  refine deepT Tryz.func95 ?_
  exact retE (pinK (tcD p) (noW_ok _)) (tz_1 p (clnT p)) (gone (g0 ⟨fm1 rfl, _, _, _, rfl, rfl⟩))
theorem tb_1 (p : Nat → Int) : RunE (csH noW []) [] 3 Tryz.f64 [1, 3] (headN 2 cdTb) (startSt [tlV p] .nil 3) [([], [], .to .normal (stG [(1, .ptr (some (3, 0))), (3, .slc (some (4, 0)) 0 256 1)] (hL [(3, .cells (D.toVs (tcs p))), (4, .own .u8 (List.replicate 256 0))]) 5))] := RunIs.of (by kernel_rfl) (by kernel_rfl) (by kernel_rfl)
def sTb0 (p : Nat → Int) : St := stG [(3, .slc (some (3, 0)) 0 256 1), (7, tlV p), (8, iX 0)] (hL [(3, .own .u8 (List.replicate 256 0))]) 4
theorem tb_2 (p : Nat → Int) : RunE (csH noW []) [] 3 Tryz.f64 [3, 7, 8] (seqL (seqL tlTb)) (stG [(1, .ptr (some (3, 0))), (3, .slc (some (4, 0)) 0 256 1)] (hL [(3, .cells (D.toVs (tcs p))), (4, .own .u8 (List.replicate 256 0))]) 5) [([], [], .to .normal (sTb0 p))] := RunIs.of (by kernel_rfl) (by kernel_rfl) (by kernel_rfl)
def sTd (p : Nat → Int) (ds : List D) (m c i : Nat) : St := stG [(3, .slc (some (3, 0)) m c 1), (7, tlV p), (8, iW i)] (hL [(3, .deep ds)]) 4
theorem tb_4 (p : Nat → Int) (ds : List D) (m k i : Nat) (r g b a : Int) : RunE (csH noW []) [(9, .split), (10, .give (pq4 r g b a)), (22, .give (iW (i + 1)))] 3 Tryz.f64 [3, 7, 8] (inner (inner (seqR (seqL tlTb)))) (sTd p ds m k i)
    [([(decide (Int.ofNat i < 64), true)], [(0 : Int) ≤ Int.ofNat i ∧ Int.ofNat i < 64, i * 4 + 4 ≤ (D.toVs (tcs p)).length, V.agg (List.take 4 (List.drop (i * 4) (D.toVs (tcs p)))) = pq4 r g b a, 0 + m * 1 ≤ ds.length, 0 < 4, roomy (m + 4) 1 1 = true, V.int .i64 (IntKind.i64.wrap (Int.ofNat i + 1)) = iW (i + 1)],
      .to .normal (sTd p (List.take (m * 1) (List.drop 0 ds) ++ [D.int .u8 r, D.int .u8 g, D.int .u8 b, D.int .u8 a]) (m + 4) (m + 4) (i + 1))),
     ([(decide (Int.ofNat i < 64), false)], [], .to (.exit 0) (sTd p ds m k i))] := RunIs.of (by kernel_rfl) (by kernel_rfl) (by kernel_rfl)
def sTo (p : Nat → Int) (ks : List Int) (m k i : Nat) : St := stG [(3, .slc (some (3, 0)) m k 1), (7, tlV p), (8, iW i)] (hL [(3, .own .u8 ks)]) 4
theorem tb_5 (p : Nat → Int) (ks : List Int) (m k i : Nat) : ∃ L, RunIs Tryz.prog (csH noW []) [] 1000 3 Tryz.f64 [] (seqR tlTb) (sTo p ks m k i) L
    [([],
      [(0 + m ≤ ks.length)],
      .ret (.str (strI (List.take m (List.drop 0 ks)))) (hL []) 3)]
  := RunIs.of (by kernel_rfl) (by kernel_rfl) (by kernel_rfl)
theorem tcs_take (p : Nat → Int) {i : Nat} (h : i < 64) : (tcs p).take (4 * i) ++ [D.int .u8 (p (4 * i)), D.int .u8 (p (4 * i + 1)), D.int .u8 (p (4 * i + 2)), D.int .u8 (p (4 * i + 3))] = (tcs p).take (4 * (i + 1)) := by
  rw [show 4 * (i + 1) = 4 * i + 4 by omega, List.take_add]
  refine congrArg _ (List.ext_getElem? fun j => ?_)
  unfold tcs
  rw [List.getElem?_take]
  by_cases c : j < 4
  · rw [if_pos c, List.getElem?_drop, List.getElem?_map, List.getElem?_range (by omega)]
    rcases (by omega : j = 0 ∨ j = 1 ∨ j = 2 ∨ j = 3) with rfl | rfl | rfl | rfl <;> rfl
  · rw [if_neg c, List.getElem?_eq_none (by simp only [List.length_cons, List.length_nil]; omega)]
def dsB (p : Nat → Int) : Nat → List D
  | 0 => List.replicate 256 (.int .u8 0)
  | i + 1 => (tcs p).take (4 * (i + 1))
def cpB : Nat → Nat
  | 0 => 256
  | i + 1 => 4 * (i + 1)
theorem dsB_step (p : Nat → Int) {i : Nat} (h : i < 64) : List.take (4 * i * 1) (List.drop 0 (dsB p i)) ++ [D.int .u8 (p (4 * i)), D.int .u8 (p (4 * i + 1)), D.int .u8 (p (4 * i + 2)), D.int .u8 (p (4 * i + 3))] = dsB p (i + 1) := by
  show _ = (tcs p).take (4 * (i + 1))
  rw [← tcs_take p h, List.drop_zero, Nat.mul_one]
  cases i with
  | zero => rfl
  | succ i =>
    show List.take (4 * (i + 1)) ((tcs p).take (4 * (i + 1))) ++ _ = _
    rw [List.take_take, Nat.min_self]
theorem dsB_len (p : Nat → Int) {i : Nat} (h : i ≤ 64) : 4 * i ≤ (dsB p i).length := by
  cases i with
  | zero => exact Nat.zero_le _
  | succ i =>
    show _ ≤ ((tcs p).take (4 * (i + 1))).length
    rw [List.length_take]
    unfold tcs
    rw [List.length_map, List.length_range]; omega
def tileB (p : Nat → Int) : List UInt8 := strI (tl p)
theorem tbD (p : Nat → Int) : DeepTo Tryz.prog 64 [tlV p] (.str (tileB p)) := by
  refine deepT Tryz.func64 ?_
  refine isE1 2 (noW_ok _) (tb_1 p) all_nil ?_
  refine loopF (noW_ok _) 0 _ [3, 7, 8] (64 - ·) (· ≤ 64) (fun i => sTd p (dsB p i) (4 * i) (cpB i) i) 0 (by decide) (tb_2 p) all_nil (.deep [3] (by kernel_rfl)) fun i hi => ?_
  refine ⟨_, noW_ok _, _, _, _, tb_4 p (dsB p i) (4 * i) (cpB i) i (p (4 * i)) (p (4 * i + 1)) (p (4 * i + 2)) (p (4 * i + 3)), gcons (g1 fun h1 => ?_) (gone (g1 fun h => ?_))⟩
  · have hlt := d64 h1
    have hl := dsB_len p hi
    refine ⟨fm (b64 hlt) (fm (by rw [tcs_len]; omega) (fm (congrArg V.agg (tcs_px p hlt)) (fm (by omega) (fm (by decide) (fm (roomy_ok (by omega)) (fm1 (vsuc (by omega)))))))), i + 1, lsub hlt, by show i + 1 ≤ 64; omega, ?_⟩
    rw [dsB_step p hlt]
    exact .refl
  · have := n64 h
    obtain rfl : i = 64 := by omega
    refine ⟨all_nil, rfl, ?_⟩
    refine Goes.dow 3 .u8 (S := sTo p (tl p) 256 256 64) (by kernel_rfl) _ _ ?_
    refine retE (noW_ok _) (tb_5 p (tl p) 256 256 64) (gone (g0 ⟨fm1 (by rw [tl_len]; decide), _, _, _, rfl, ?_⟩))
    rw [List.drop_zero, List.take_of_length_le (by rw [tl_len]; exact Nat.le_refl _)]; rfl
end Go.Proofs.YtmjggdmekboefaaGreatDoor
namespace Go.Proofs.YtmjggdmekboefaaGreatDoor.Sha
open Go.Proofs.YtmjggdmekboefaaGreatDoor Go Go.Eng
theorem po : progOk Tryz.prog = true := by kernel_rfl
theorem mo : Tryz.prog.follows .mixedOrders = true := by kernel_rfl
noncomputable def bodyOf (f : Func) : Code := match f.body with | some c => c | none => .skip
abbrev H0 : FuncId → List (Nat × Fix) := fun _ => []
noncomputable abbrev cs0 : CallS := callX Tryz.prog noW H0 1000 40
noncomputable abbrev X0 : CX Tryz.prog := CX.of mo po (noW_ok _) H0 1000 40
section
variable {n0 N : Nat} {c : Code} {s : St} {Q : Exit → St → Prop} {H : List (Nat × Fix)} {fn : Func} {live : List Nat} {G : List (List (Bool × Bool) × List Prop × ResG)}
abbrev RunE (cs : CallS) (H : List (Nat × Fix)) (n0 : Nat) (fn : Func) (live : List Nat) (c : Code) (s : St) (G : List (List (Bool × Bool) × List Prop × ResG)) : Prop := ∃ L, RunIs Tryz.prog cs H 1000 n0 fn live c s L G
theorem isE (X : CX Tryz.prog) (hr : RunE X.cs H n0 fn live c s G) (h : ∀ g ∈ G, (∀ b ∈ g.1, b.1 = b.2) → (∀ a ∈ g.2.1, a) ∧ g.2.2.post Tryz.prog n0 fn live anyR Q) (hc : codeOk N c = true := by kernel_rfl) : TG Tryz.prog n0 N c s Q :=
  hr.elim fun _ hr => TG_is X mo anyR hc hr h
theorem isE1 (k : Nat) (X : CX Tryz.prog) {A : List Prop} {s1 : St} (hr : RunE X.cs H n0 fn live (headN k c) s [([], A, .to .normal s1)]) (hA : ∀ a ∈ A, a) (h : TG Tryz.prog n0 N (tailN k c) s1 Q) (hc : codeOk N c = true := by kernel_rfl) : TG Tryz.prog n0 N c s Q :=
  hr.elim fun _ hr => TG_isN1 k X mo hc hr hA h
theorem retE {R : V → Tr O → Nat → Prop} (X : CX Tryz.prog) (hr : RunE X.cs H n0 fn live c s G) (h : ∀ g ∈ G, (∀ b ∈ g.1, b.1 = b.2) → (∀ a ∈ g.2.1, a) ∧ ∃ v h n, g.2.2 = .ret v h n ∧ R v h n) (hc : codeOk N c = true := by kernel_rfl) : TG Tryz.prog n0 N c s (RetG Tryz.prog n0 fn R) :=
  hr.elim fun _ hr => TG_ret X mo R hc hr h
end
end Go.Proofs.YtmjggdmekboefaaGreatDoor.Sha
namespace Go.Proofs.YtmjggdmekboefaaGreatDoor.Sha
open Go Go.Eng
abbrev w32 (x : Int) : Int := IntKind.u32.wrap x
def orI (a b : Int) : Int := w32 ↑(BitVec.ofInt 32 a ||| BitVec.ofInt 32 b).toNat
def xorI (a b : Int) : Int := w32 ↑(BitVec.ofInt 32 a ^^^ BitVec.ofInt 32 b).toNat
def rotI (m d x : Int) : Int := orI (w32 (x * m)) (x.fdiv d)
abbrev gW (ws : List Int) (i : Nat) : Int := ws.getD (0 + i * 1) 0
def sg0 (x : Int) : Int := xorI (xorI (rotI 33554432 128 x) (rotI 16384 262144 x)) (x.fdiv 8)
def sg1 (x : Int) : Int := xorI (xorI (rotI 32768 131072 x) (rotI 8192 524288 x)) (x.fdiv 1024)
def nextW (ws : List Int) (i : Nat) : Int := w32 (w32 (w32 (gW ws (i - 16) + sg0 (gW ws (i - 15))) + gW ws (i - 7)) + sg1 (gW ws (i - 2)))
abbrev byI (b : List UInt8) (i : Nat) : Int := w32 ↑(b.getD i 0).toNat
def wordB (b : List UInt8) (i : Nat) : Int := orI (orI (orI (w32 (byI b (i * 4) * 16777216)) (w32 (byI b (i * 4 + 1) * 65536))) (w32 (byI b (i * 4 + 2) * 256))) (byI b (i * 4 + 3))
noncomputable abbrev cdSc : Code := bodyOf Tryz.f92
noncomputable abbrev tlSc : Code := tailN 1 cdSc
noncomputable abbrev l1Sc : Code := seqL tlSc
noncomputable abbrev lo1Sc : Code := inner (seqR l1Sc)
noncomputable abbrev t2Sc : Code := seqR tlSc
noncomputable abbrev l2Sc : Code := seqL t2Sc
noncomputable abbrev loSc : Code := inner (seqR l2Sc)
noncomputable abbrev enSc : Code := seqR t2Sc
section
variable (b : List UInt8) (ws : List Int) (i : Nat)
def zW : O := .cells (List.replicate 64 (.int .u32 0))
def sS0 (o : O) : St := stG [(0, .str b), (2, .ptr (some (3, 0)))] (hL [(3, o)]) 4
def sSA : St := stG [(0, .str b), (2, .ptr (some (3, 0))), (9, .int .i64 (Int.ofNat i))] (hL [(3, .own .u32 ws)]) 4
def sSB : St := stG [(2, .ptr (some (3, 0))), (4, .int .i64 (Int.ofNat i))] (hL [(3, .own .u32 ws)]) 4
theorem sc_1 : RunIs Tryz.prog cs0 [] 1000 3 Tryz.f92 [0, 2] (headN 1 cdSc) (startSt [.str b] .nil 3) [] [([], [], .to .normal (sS0 b zW))] := by
  unfold RunIs; kernel_rfl
theorem sc_own : ownS [(3, .u32)] (sS0 b zW) = some (sS0 b (.own .u32 (List.replicate 64 0))) := by kernel_rfl
theorem sc_2 : RunIs Tryz.prog cs0 [] 1000 3 Tryz.f92 [0, 2, 9] (seqL l1Sc) (sS0 b (.own .u32 ws)) [] [([], [], .to .normal (sSA b ws 0))] := by
  unfold RunIs; kernel_rfl
abbrev ieq (x : Int) (n : Nat) : Prop := V.int .i64 (IntKind.i64.wrap x) = V.int .i64 (Int.ofNat n)
abbrev ibd (n l : Nat) : Prop := 0 ≤ Int.ofNat n ∧ n < l
abbrev iN (n : Nat) : Prop := 0 ≤ Int.ofNat n ∧ Int.ofNat n < 64
def scA : List Prop := [ieq (Int.ofNat i * 4) (i * 4), ibd (i * 4) b.length, ieq (Int.ofNat i * 4) (i * 4), ieq (Int.ofNat (i * 4) + 1) (i * 4 + 1), ibd (i * 4 + 1) b.length, ieq (Int.ofNat i * 4) (i * 4), ieq (Int.ofNat (i * 4) + 2) (i * 4 + 2), ibd (i * 4 + 2) b.length, ieq (Int.ofNat i * 4) (i * 4), ieq (Int.ofNat (i * 4) + 3) (i * 4 + 3), ibd (i * 4 + 3) b.length,
  iN i, 0 + i * 1 + 1 ≤ ws.length, ieq (Int.ofNat i + 1) (i + 1)]
theorem sc_3 : RunIs Tryz.prog cs0 [(10, .split), (15, .give (.int .i64 (Int.ofNat (i * 4)))), (21, .give (.int .i64 (Int.ofNat (i * 4)))), (22, .give (.int .i64 (Int.ofNat (i * 4 + 1)))), (29, .give (.int .i64 (Int.ofNat (i * 4)))), (30, .give (.int .i64 (Int.ofNat (i * 4 + 2)))), (37, .give (.int .i64 (Int.ofNat (i * 4)))), (38, .give (.int .i64 (Int.ofNat (i * 4 + 3)))), (43, .give (.int .i64 (Int.ofNat (i + 1))))] 1000 3 Tryz.f92 [0, 2, 9] (inner lo1Sc) (sSA b ws i) []
    [([(decide (Int.ofNat i < 16), true)], scA b ws i, .to .normal (sSA b (putI ws (0 + i * 1) [wordB b i]) (i + 1))), ([(decide (Int.ofNat i < 16), false)], [], .to (.exit 0) (sSA b ws i))] := by
  unfold RunIs; kernel_rfl
theorem sc_4 : RunIs Tryz.prog cs0 [(4, .give (.int .i64 (Int.ofNat 16)))] 1000 3 Tryz.f92 [2, 4] (seqL l2Sc) (sSA b ws i) [] [([], [V.int .i64 16 = V.int .i64 16], .to .normal (sSB ws 16))] := by
  unfold RunIs; kernel_rfl
def scB : List Prop := [ieq (Int.ofNat i - 15) (i - 15), iN (i - 15), 0 + (i - 15) * 1 < ws.length, ieq (Int.ofNat i - 2) (i - 2), iN (i - 2), 0 + (i - 2) * 1 < ws.length, ieq (Int.ofNat i - 16) (i - 16), iN (i - 16), 0 + (i - 16) * 1 < ws.length, ieq (Int.ofNat i - 7) (i - 7), iN (i - 7), 0 + (i - 7) * 1 < ws.length,
  iN i, 0 + i * 1 + 1 ≤ ws.length, ieq (Int.ofNat i + 1) (i + 1)]
theorem sc_5 : RunIs Tryz.prog cs0 [(45, .split), (49, .give (.int .i64 (Int.ofNat (i - 15)))), (53, .give (.int .i64 (Int.ofNat (i - 2)))), (74, .give (.int .i64 (Int.ofNat (i - 16)))), (80, .give (.int .i64 (Int.ofNat (i - 7)))), (47, .give (.int .i64 (Int.ofNat (i + 1))))] 1000 3 Tryz.f92 [2, 4] (inner loSc) (sSB ws i) []
    [([(decide (Int.ofNat i < 64), true)], scB ws i, .to .normal (sSB (putI ws (0 + i * 1) [nextW ws i]) (i + 1))), ([(decide (Int.ofNat i < 64), false)], [], .to (.exit 2) (sSB ws i))] := by
  unfold RunIs; kernel_rfl
def schV : V := .agg ((List.range 64).map fun j => .int .u32 (ws.getD j 0))
theorem sc_6 : RunIs Tryz.prog cs0 [] 1000 3 Tryz.f92 [] enSc (sSB ws i) [] [([], [64 ≤ ws.length, 64 ≤ ws.length], .ret (schV ws) (hL []) 3)] := by
  unfold RunIs; kernel_rfl
end
end Go.Proofs.YtmjggdmekboefaaGreatDoor.Sha
namespace Go.Proofs.YtmjggdmekboefaaGreatDoor.Sha
open Go Go.Eng
theorem outOf_exit {i : Nat} {Q : Exit → St → Prop} {s : St} : outOf i Q (.exit i) s = Q .normal s := by simp [outOf]
theorem putI_len {px : List Int} {o : Nat} {l : List Int} (h : o + l.length ≤ px.length) : (putI px o l).length = px.length := by
  unfold putI
  simp only [List.length_append, List.length_take, List.length_drop]
  omega
theorem wrap_id {x : Int} (h1 : -9000000000000000000 ≤ x) (h2 : x ≤ 9000000000000000000) : IntKind.i64.wrap x = x := by
  unfold IntKind.wrap
  have e1 : (2 ^ IntKind.i64.bits : Int) = 18446744073709551616 := by decide
  have e2 : (2 ^ (IntKind.i64.bits - 1) : Int) = 9223372036854775808 := by decide
  have e3 : IntKind.i64.signed = true := rfl
  simp only [e1, e2, e3, Bool.true_and, decide_eq_true_eq]
  split <;> omega
theorem ieq_ok {x : Int} {n : Nat} (h : x = (n : Int)) (hb : n < 1000000000000) : ieq x n := by
  unfold ieq
  rw [wrap_id (by omega) (by omega), h]; rfl
def scW (b : List UInt8) : Nat → List Int
  | 0 => List.replicate 64 0
  | i + 1 => putI (scW b i) (0 + i * 1) [wordB b i]
theorem scW_len (b : List UInt8) : ∀ i, i ≤ 16 → (scW b i).length = 64
  | 0, _ => List.length_replicate ..
  | i + 1, h => by
    have ih := scW_len b i (by omega)
    show (putI (scW b i) (0 + i * 1) [wordB b i]).length = 64
    rw [putI_len (by simp only [List.length_cons, List.length_nil]; omega), ih]
def scX (b : List UInt8) : Nat → List Int
  | 0 => scW b 16
  | j + 1 => putI (scX b j) (0 + (16 + j) * 1) [nextW (scX b j) (16 + j)]
theorem scX_len (b : List UInt8) : ∀ j, j ≤ 48 → (scX b j).length = 64
  | 0, _ => scW_len b 16 (Nat.le_refl _)
  | j + 1, h => by
    have ih := scX_len b j (by omega)
    show (putI (scX b j) (0 + (16 + j) * 1) [nextW (scX b j) (16 + j)]).length = 64
    rw [putI_len (by simp only [List.length_cons, List.length_nil]; omega), ih]
set_option maxRecDepth 20000 in
theorem tgSc (b : List UInt8) (hb : 64 ≤ b.length) : TG Tryz.prog 3 Tryz.f92.ntmps cdSc (startSt [.str b] .nil 3) (RetG Tryz.prog 3 Tryz.f92 fun u _ _ => u = schV (scX b 48)) := by
  have hO : ∀ n : Nat, Int.ofNat n = (n : Int) := fun _ => rfl
  refine TG_isN1 1 X0 mo (by kernel_rfl) (sc_1 b) (by simp) ?_
  refine TG_own _ (sc_own b) ?_
  show TG Tryz.prog 3 Tryz.f92.ntmps tlSc _ _
  refine TG_seq' (by kernel_rfl) ?_
  refine TG_isSeq X0 mo anyR (by kernel_rfl) (by kernel_rfl) (sc_2 b _) fun g hg _ => ?_
  rw [List.mem_singleton] at hg; subst hg
  refine ⟨by simp, fun s' hs' => ?_⟩
  refine TG_block (i := 0) (by kernel_rfl) (TG_mono (Q1 := fun z s' => z = .exit 0 ∧ ∃ L, normG 3 L s' = some (sSA b (scW b 16) 16)) (TG_loop_inv (fun k' s => ∃ i, k' = 16 - i ∧ i ≤ 16 ∧ ∃ L, normG 3 L s = some (sSA b (scW b i) i)) (by kernel_rfl) ?_ 16 ⟨0, rfl, Nat.zero_le _, _, hs'⟩) ?_)
  · rintro k' s ⟨i, hk, hi, L, hs⟩
    refine TG_norm hs ?_
    refine TG_is X0 mo anyR (by kernel_rfl) (sc_3 b (scW b i) i) fun g hg hc => ?_
    simp only [List.mem_cons, List.not_mem_nil, or_false] at hg
    rcases hg with rfl | rfl
    · have hlt : i < 16 := by
        have := of_decide_eq_true (hc _ (List.mem_singleton.2 rfl))
        rw [hO] at this; omega
      refine ⟨fun p hp => ?_, fun s' hs' => ⟨16 - (i + 1), by omega, i + 1, rfl, by omega, [0, 2, 9], hs'⟩⟩
      have hl := scW_len b i (by omega)
      simp only [scA, List.mem_cons, List.not_mem_nil, or_false] at hp
      rcases hp with rfl | rfl | rfl | rfl | rfl | rfl | rfl | rfl | rfl | rfl | rfl | rfl | rfl | rfl
      · exact ieq_ok (by rw [hO]; omega) (by omega)
      · exact ⟨Int.natCast_nonneg _, by omega⟩
      · exact ieq_ok (by rw [hO]; omega) (by omega)
      · exact ieq_ok (by rw [hO]; omega) (by omega)
      · exact ⟨Int.natCast_nonneg _, by omega⟩
      · exact ieq_ok (by rw [hO]; omega) (by omega)
      · exact ieq_ok (by rw [hO]; omega) (by omega)
      · exact ⟨Int.natCast_nonneg _, by omega⟩
      · exact ieq_ok (by rw [hO]; omega) (by omega)
      · exact ieq_ok (by rw [hO]; omega) (by omega)
      · exact ⟨Int.natCast_nonneg _, by omega⟩
      · exact ⟨Int.natCast_nonneg _, by rw [hO]; omega⟩
      · omega
      · exact ieq_ok (by rw [hO]; omega) (by omega)
    · have hge : ¬ i < 16 := by
        have := of_decide_eq_false (hc _ (List.mem_singleton.2 rfl))
        rw [hO] at this; omega
      obtain rfl : i = 16 := by omega
      exact ⟨by simp, fun s' hs' => ⟨rfl, _, hs'⟩⟩
  rintro y s2 ⟨rfl, L, hs2⟩
  rw [outOf_exit]
  simp only [andThen]
  refine TG_norm hs2 ?_
  show TG Tryz.prog 3 Tryz.f92.ntmps t2Sc _ _
  refine TG_seq' (by kernel_rfl) ?_
  refine TG_isSeq X0 mo anyR (by kernel_rfl) (by kernel_rfl) (sc_4 b _ 16) fun g hg _ => ?_
  rw [List.mem_singleton] at hg; subst hg
  refine ⟨fun p hp => by rw [List.mem_singleton] at hp; subst hp; rfl, fun s' hs' => ?_⟩
  refine TG_block (i := 2) (by kernel_rfl) (TG_mono (Q1 := fun z s' => z = .exit 2 ∧ ∃ L, normG 3 L s' = some (sSB (scX b 48) 64)) (TG_loop_inv (fun k' s => ∃ j, k' = 48 - j ∧ j ≤ 48 ∧ ∃ L, normG 3 L s = some (sSB (scX b j) (16 + j))) (by kernel_rfl) ?_ 48 ⟨0, rfl, Nat.zero_le _, _, hs'⟩) ?_)
  · rintro k' s ⟨j, hk, hj, L, hs⟩
    refine TG_norm hs ?_
    refine TG_is X0 mo anyR (by kernel_rfl) (sc_5 (scX b j) (16 + j)) fun g hg hc => ?_
    simp only [List.mem_cons, List.not_mem_nil, or_false] at hg
    rcases hg with rfl | rfl
    · have hlt : j < 48 := by
        have := of_decide_eq_true (hc _ (List.mem_singleton.2 rfl))
        rw [hO] at this; omega
      refine ⟨fun p hp => ?_, fun s' hs' => ⟨48 - (j + 1), by omega, j + 1, rfl, by omega, [2, 4], hs'⟩⟩
      have hl := scX_len b j (by omega)
      simp only [scB, List.mem_cons, List.not_mem_nil, or_false] at hp
      rcases hp with rfl | rfl | rfl | rfl | rfl | rfl | rfl | rfl | rfl | rfl | rfl | rfl | rfl | rfl | rfl
      · exact ieq_ok (by rw [hO]; omega) (by omega)
      · exact ⟨Int.natCast_nonneg _, by rw [hO]; omega⟩
      · omega
      · exact ieq_ok (by rw [hO]; omega) (by omega)
      · exact ⟨Int.natCast_nonneg _, by rw [hO]; omega⟩
      · omega
      · exact ieq_ok (by rw [hO]; omega) (by omega)
      · exact ⟨Int.natCast_nonneg _, by rw [hO]; omega⟩
      · omega
      · exact ieq_ok (by rw [hO]; omega) (by omega)
      · exact ⟨Int.natCast_nonneg _, by rw [hO]; omega⟩
      · omega
      · exact ⟨Int.natCast_nonneg _, by rw [hO]; omega⟩
      · omega
      · exact ieq_ok (by rw [hO]; omega) (by omega)
    · have hge : ¬ j < 48 := by
        have := of_decide_eq_false (hc _ (List.mem_singleton.2 rfl))
        rw [hO] at this; omega
      obtain rfl : j = 48 := by omega
      exact ⟨by simp, fun s' hs' => ⟨rfl, _, hs'⟩⟩
  · rintro y s2 ⟨rfl, L, hs2⟩
    rw [outOf_exit]
    simp only [andThen]
    refine TG_norm hs2 ?_
    refine TG_ret X0 mo _ (by kernel_rfl) (sc_6 (scX b 48) 64) fun g hg _ => ?_
    rw [List.mem_singleton] at hg; subst hg
    have hl := scX_len b 48 (Nat.le_refl _)
    refine ⟨fun p hp => ?_, _, _, _, rfl, rfl⟩
    simp only [List.mem_cons, List.not_mem_nil, or_false] at hp
    rcases hp with rfl | rfl <;> omega
end Go.Proofs.YtmjggdmekboefaaGreatDoor.Sha
namespace Go.Proofs.YtmjggdmekboefaaGreatDoor.Sha
open Go Go.Eng
def specSc : List V → Option (List Prop × V)
  | [.str b] => some ([64 ≤ b.length], schV (scX b 48))
  | _ => none
theorem one_Sc : OneW Tryz.prog 92 (pureW specSc) := by
  refine pureW_ok (Nat.le_of_ble_eq_true (by kernel_rfl)) fun args A v e => ?_
  unfold specSc at e
  split at e
  · simp only [Option.some.injEq, Prod.mk.injEq] at e; obtain ⟨rfl, rfl⟩ := e
    exact ⟨rfl, by kernel_rfl, fun hA => pure_calls mo po Tryz.func92 (by kernel_rfl) (by kernel_rfl) rfl (tgSc _ (hA _ (by simp)))⟩
  · cases e
noncomputable abbrev W1 : CtrW := addW 92 (pureW specSc) noW
theorem W1_ok : CtrWOk Tryz.prog W1 := addW_ok one_Sc (noW_ok _)
noncomputable abbrev cs1 : CallS := callX Tryz.prog W1 H0 1000 40
noncomputable abbrev X1 : CX Tryz.prog := CX.of mo po W1_ok H0 1000 40
end Go.Proofs.YtmjggdmekboefaaGreatDoor.Sha
namespace Go.Proofs.YtmjggdmekboefaaGreatDoor.Sha
open Go Go.Eng
def andI (a b : Int) : Int := w32 ↑(BitVec.ofInt 32 a &&& BitVec.ofInt 32 b).toNat
abbrev E8 := Int × Int × Int × Int × Int × Int × Int × Int
def bS1 (e : Int) : Int := xorI (xorI (rotI 67108864 64 e) (rotI 2097152 2048 e)) (rotI 128 33554432 e)
def bS0 (a : Int) : Int := xorI (xorI (rotI 1073741824 4 a) (rotI 524288 8192 a)) (rotI 1024 4194304 a)
def chI (e f g : Int) : Int := xorI (andI e f) (andI (xorI 4294967295 e) g)
def maI (a b c : Int) : Int := xorI (xorI (andI a b) (andI a c)) (andI b c)
def rdX (rd ws : List Int) (i : Nat) : E8 → Int
  | (_, _, _, _, e, f, g, h) => w32 (w32 (w32 (w32 (h + bS1 e) + chI e f g) + gW rd i) + gW ws i)
def rndE (rd ws : List Int) (i : Nat) : E8 → E8
  | (a, b, c, d, e, f, g, h) => (w32 (rdX rd ws i (a, b, c, d, e, f, g, h) + w32 (bS0 a + maI a b c)), a, b, c, w32 (d + rdX rd ws i (a, b, c, d, e, f, g, h)), e, f, g)
def c8 (q : E8) : List V := [.int .u32 q.1, .int .u32 q.2.1, .int .u32 q.2.2.1, .int .u32 q.2.2.2.1, .int .u32 q.2.2.2.2.1, .int .u32 q.2.2.2.2.2.1, .int .u32 q.2.2.2.2.2.2.1, .int .u32 q.2.2.2.2.2.2.2]
def add8 : E8 → E8 → E8
  | (a, b, c, d, e, f, g, h), (a', b', c', d', e', f', g', h') => (w32 (a + a'), w32 (b + b'), w32 (c + c'), w32 (d + d'), w32 (e + e'), w32 (f + f'), w32 (g + g'), w32 (h + h'))
noncomputable abbrev cdCm : Code := bodyOf Tryz.f61
noncomputable abbrev tlCm : Code := tailN 3 cdCm
noncomputable abbrev lpCm : Code := seqL tlCm
noncomputable abbrev loCm : Code := inner (seqR lpCm)
noncomputable abbrev enCm : Code := seqR tlCm
def w64L (ws : List Int) : List Int := (List.range 64).map fun j => ws.getD j 0
section
variable (rd ws : List Int) (a b c d e f g h a' b' c' d' e' f' g' h' : Int) (i : Nat)
def frCm : List (Nat × V) := [(2, .ptr (some (3, 0))), (4, .ptr (some (4, 0))), (5, .ptr (some (5, 0))), (6, .ptr (some (6, 0)))]
def sC0 (o : O) : St := stG frCm (hL [(1, .ints .u32 rd), (3, .cells (c8 (a, b, c, d, e, f, g, h))), (4, .cells (c8 (0, 0, 0, 0, 0, 0, 0, 0))), (5, o), (6, .cells (c8 (a', b', c', d', e', f', g', h')))]) 7
def sCi : St := stG (frCm ++ [(18, .int .i64 (Int.ofNat i))]) (hL [(1, .ints .u32 rd), (3, .cells (c8 (a, b, c, d, e, f, g, h))), (4, .cells (c8 (0, 0, 0, 0, 0, 0, 0, 0))), (5, .own .u32 ws), (6, .cells (c8 (a', b', c', d', e', f', g', h')))]) 7
theorem cm_1 (s : List UInt8) : RunIs Tryz.prog cs1 [] 1000 3 Tryz.f61 [2, 4, 5, 6] (headN 3 cdCm) (startSt [.agg (c8 (a, b, c, d, e, f, g, h)), .str s] (hL [(1, .ints .u32 rd)]) 3) []
    [([], [64 ≤ s.length], .to .normal (sC0 rd a b c d e f g h a b c d e f g h (.cells ((List.range 64).map fun j => .int .u32 ((scX s 48).getD j 0)))))] := by
  unfold RunIs; kernel_rfl
theorem cm_own : ownS [(5, .u32)] (sC0 rd a b c d e f g h a' b' c' d' e' f' g' h' (.cells ((List.range 64).map fun j => .int .u32 (ws.getD j 0)))) = some (sC0 rd a b c d e f g h a' b' c' d' e' f' g' h' (.own .u32 (w64L ws))) := by
  kernel_rfl
theorem cm_2 : RunIs Tryz.prog cs1 [(18, .give (.int .i64 (Int.ofNat 0)))] 1000 3 Tryz.f61 [2, 4, 5, 6, 18] (seqL lpCm) (sC0 rd a b c d e f g h a' b' c' d' e' f' g' h' (.own .u32 ws)) [] [([], [V.int .i64 0 = V.int .i64 0], .to .normal (sCi rd ws a b c d e f g h a' b' c' d' e' f' g' h' 0))] := by
  unfold RunIs; kernel_rfl
theorem cm_3 : ∃ L, RunIs Tryz.prog cs1 [(19, .split), (101, .give (.int .i64 (Int.ofNat (i + 1))))] 1000 3 Tryz.f61 [2, 4, 5, 6, 18] (inner loCm) (sCi rd ws a b c d e f g h a' b' c' d' e' f' g' h' i) L
    [([(decide (Int.ofNat i < 64), true)], [iN i, 0 + i * 1 < rd.length, iN i, 0 + i * 1 < ws.length, ieq (Int.ofNat i + 1) (i + 1)],
      .to .normal (sCi rd ws a b c d e f g h (rndE rd ws i (a', b', c', d', e', f', g', h')).1 (rndE rd ws i (a', b', c', d', e', f', g', h')).2.1 (rndE rd ws i (a', b', c', d', e', f', g', h')).2.2.1 (rndE rd ws i (a', b', c', d', e', f', g', h')).2.2.2.1 (rndE rd ws i (a', b', c', d', e', f', g', h')).2.2.2.2.1 (rndE rd ws i (a', b', c', d', e', f', g', h')).2.2.2.2.2.1 (rndE rd ws i (a', b', c', d', e', f', g', h')).2.2.2.2.2.2.1 (rndE rd ws i (a', b', c', d', e', f', g', h')).2.2.2.2.2.2.2 (i + 1))),
     ([(decide (Int.ofNat i < 64), false)], [], .to (.exit 0) (sCi rd ws a b c d e f g h a' b' c' d' e' f' g' h' i))] :=
  RunIs.of (by kernel_rfl) (by kernel_rfl) (by kernel_rfl)
abbrev bd8 (k : Int) : List Prop := [0 ≤ k ∧ k < 8, 0 ≤ k ∧ k < 8, 0 ≤ k ∧ k < 8]
theorem cm_4 : RunIs Tryz.prog cs1 [] 1000 3 Tryz.f61 [] enCm (sCi rd ws a b c d e f g h a' b' c' d' e' f' g' h' i) []
    [([], bd8 0 ++ (bd8 1 ++ (bd8 2 ++ (bd8 3 ++ (bd8 4 ++ (bd8 5 ++ (bd8 6 ++ bd8 7)))))), .ret (.agg (c8 (add8 (a', b', c', d', e', f', g', h') (a, b, c, d, e, f, g, h)))) (hL [(1, .ints .u32 rd)]) 3)] := by
  unfold RunIs; kernel_rfl
end
def rndN (rd ws : List Int) (q : E8) : Nat → E8
  | 0 => q
  | i + 1 => rndE rd ws i (rndN rd ws q i)
abbrev sCq (rd ws : List Int) (q q' : E8) (i : Nat) : St := sCi rd ws q.1 q.2.1 q.2.2.1 q.2.2.2.1 q.2.2.2.2.1 q.2.2.2.2.2.1 q.2.2.2.2.2.2.1 q.2.2.2.2.2.2.2 q'.1 q'.2.1 q'.2.2.1 q'.2.2.2.1 q'.2.2.2.2.1 q'.2.2.2.2.2.1 q'.2.2.2.2.2.2.1 q'.2.2.2.2.2.2.2 i
def cmpL (rd : List Int) (s : List UInt8) (q : E8) : E8 := add8 (rndN rd (w64L (scX s 48)) q 64) q
set_option maxRecDepth 20000 in
theorem tgCm (rd : List Int) (hrd : 64 ≤ rd.length) (s : List UInt8) (hs64 : 64 ≤ s.length) (q : E8) : TG Tryz.prog 3 Tryz.f61.ntmps cdCm (startSt [.agg (c8 q), .str s] (hL [(1, .ints .u32 rd)]) 3)
    (RetG Tryz.prog 3 Tryz.f61 fun u _ _ => u = .agg (c8 (cmpL rd s q))) := by
  have hO : ∀ n : Nat, Int.ofNat n = (n : Int) := fun _ => rfl
  obtain ⟨a, b, c, d, e, f, g, h⟩ := q
  refine TG_isN1 3 X1 mo (by kernel_rfl) (cm_1 rd a b c d e f g h s) (fun p hp => by rw [List.mem_singleton] at hp; subst hp; exact hs64) ?_
  refine TG_own _ (cm_own rd (scX s 48) a b c d e f g h a b c d e f g h) ?_
  show TG Tryz.prog 3 Tryz.f61.ntmps tlCm _ _
  have hwl : (w64L (scX s 48)).length = 64 := by unfold w64L; rw [List.length_map, List.length_range]
  generalize hW : w64L (scX s 48) = ws at hwl ⊢
  refine TG_seq' (by kernel_rfl) ?_
  refine TG_isSeq X1 mo anyR (by kernel_rfl) (by kernel_rfl) (cm_2 rd ws a b c d e f g h a b c d e f g h) fun g' hg _ => ?_
  rw [List.mem_singleton] at hg; subst hg
  refine ⟨fun p hp => by rw [List.mem_singleton] at hp; subst hp; rfl, fun s' hs' => ?_⟩
  refine TG_block (i := 0) (by kernel_rfl) (TG_mono (Q1 := fun z s' => z = .exit 0 ∧ ∃ L, normG 3 L s' = some (sCq rd ws (a, b, c, d, e, f, g, h) (rndN rd ws (a, b, c, d, e, f, g, h) 64) 64)) (TG_loop_inv (fun k' s => ∃ i, k' = 64 - i ∧ i ≤ 64 ∧ ∃ L, normG 3 L s = some (sCq rd ws (a, b, c, d, e, f, g, h) (rndN rd ws (a, b, c, d, e, f, g, h) i) i)) (by kernel_rfl) ?_ 64 ⟨0, rfl, Nat.zero_le _, _, hs'⟩) ?_)
  · rintro k' s0 ⟨i, hk, hi, L, hs⟩
    refine TG_norm hs ?_
    obtain ⟨L', hr⟩ := cm_3 rd ws a b c d e f g h (rndN rd ws (a, b, c, d, e, f, g, h) i).1 (rndN rd ws (a, b, c, d, e, f, g, h) i).2.1 (rndN rd ws (a, b, c, d, e, f, g, h) i).2.2.1 (rndN rd ws (a, b, c, d, e, f, g, h) i).2.2.2.1 (rndN rd ws (a, b, c, d, e, f, g, h) i).2.2.2.2.1 (rndN rd ws (a, b, c, d, e, f, g, h) i).2.2.2.2.2.1 (rndN rd ws (a, b, c, d, e, f, g, h) i).2.2.2.2.2.2.1 (rndN rd ws (a, b, c, d, e, f, g, h) i).2.2.2.2.2.2.2 i
    refine TG_is X1 mo anyR (by kernel_rfl) hr fun g' hg hc => ?_
    simp only [List.mem_cons, List.not_mem_nil, or_false] at hg
    rcases hg with rfl | rfl
    · have hlt : i < 64 := by
        have := of_decide_eq_true (hc _ (List.mem_singleton.2 rfl))
        rw [hO] at this; omega
      refine ⟨fun p hp => ?_, fun s' hs' => ⟨64 - (i + 1), by omega, i + 1, rfl, by omega, [2, 4, 5, 6, 18], hs'⟩⟩
      simp only [List.mem_cons, List.not_mem_nil, or_false] at hp
      rcases hp with rfl | rfl | rfl | rfl | rfl
      · exact ⟨Int.natCast_nonneg _, by rw [hO]; omega⟩
      · omega
      · exact ⟨Int.natCast_nonneg _, by rw [hO]; omega⟩
      · omega
      · exact ieq_ok (by rw [hO]; omega) (by omega)
    · have hge : ¬ i < 64 := by
        have := of_decide_eq_false (hc _ (List.mem_singleton.2 rfl))
        rw [hO] at this; omega
      obtain rfl : i = 64 := by omega
      exact ⟨by simp, fun s' hs' => ⟨rfl, [2, 4, 5, 6, 18], hs'⟩⟩
  · rintro y s2 ⟨rfl, L, hs2⟩
    rw [outOf_exit]
    simp only [andThen]
    refine TG_norm hs2 ?_
    refine TG_ret X1 mo _ (by kernel_rfl) (cm_4 rd ws a b c d e f g h _ _ _ _ _ _ _ _ 64) fun g' hg _ => ?_
    rw [List.mem_singleton] at hg; subst hg
    refine ⟨fun p hp => ?_, _, _, _, rfl, ?_⟩
    · simp only [List.mem_append, List.mem_cons, List.not_mem_nil, or_false, or_self] at hp
      rcases hp with rfl | rfl | rfl | rfl | rfl | rfl | rfl | rfl <;> decide
    · unfold cmpL; rw [hW]
end Go.Proofs.YtmjggdmekboefaaGreatDoor.Sha
namespace Go.Proofs.YtmjggdmekboefaaGreatDoor.Sha
open Go Go.Eng
def nsG : List (Option (Nat × Nat)) := [some (0, 0), some (1, 0), some (2, 0)]
theorem nsG_ok : ∀ p ∈ gtab, nsG[p.2]? = some (some (p.2, 0)) := by
  intro p hp
  simp only [gtab, List.mem_cons, List.not_mem_nil, or_false] at hp
  rcases hp with rfl | rfl | rfl <;> rfl
def specCm : List V → Tr O → Option (List Prop × V)
  | [.agg [.int .u32 a, .int .u32 b, .int .u32 c, .int .u32 d, .int .u32 e, .int .u32 f, .int .u32 g, .int .u32 x], .str s], h => match h.get 1 with
    | some (.ints .u32 rd) => some ([64 ≤ rd.length, 64 ≤ s.length], .agg (c8 (cmpL rd s (a, b, c, d, e, f, g, x))))
    | _ => none
  | _, _ => none
theorem one_Cm : PureA Tryz.prog 61 specCm := by
  refine ⟨Nat.le_of_ble_eq_true (by kernel_rfl), fun args h A u e => ?_⟩
  unfold specCm at e
  split at e
  case h_2 => cases e
  rename_i a b c d e1 f g x s
  split at e
  case h_2 => cases e
  rename_i rd hm
  simp only [Option.some.injEq, Prod.mk.injEq] at e; obtain ⟨rfl, rfl⟩ := e
  refine ⟨rfl, fun hA E n' w' args' ra g0 hd hc => ?_⟩
  obtain ⟨g2, d2, n2⟩ := rows_ok g0 nsG [none, some (.u32, rd), none] (Nat.le_of_ble_eq_true rfl) nsG_ok (by
    intro j k' ks' hj
    match j, hj with
    | 0, hj => cases hj
    | 1, hj => cases hj; exact ⟨1, 0, rd, rfl, hm, rfl⟩
    | 2, hj => cases hj
    | j + 3, hj => simp at hj)
  exact read_calls mo po Tryz.func61 (code := cdCm) (by kernel_rfl) (by kernel_rfl) (tgCm rd (hA _ (by simp)) s (hA (64 ≤ s.length) (by simp)) (a, b, c, d, e1, f, g, x)) (E := E.rows nsG) g2 d2 n2 (frees_rel _ _ rfl ra)
noncomputable abbrev W2 : CtrW := addW 61 (readW specCm) W1
theorem W2_ok : CtrWOk Tryz.prog W2 := addW_ok (readW_ok one_Cm) W1_ok
noncomputable abbrev cs2 : CallS := callX Tryz.prog W2 H0 1000 40
noncomputable abbrev X2 : CX Tryz.prog := CX.of mo po W2_ok H0 1000 40
end Go.Proofs.YtmjggdmekboefaaGreatDoor.Sha
namespace Go.Proofs.YtmjggdmekboefaaGreatDoor.Sha
open Go Go.Eng
def pB (x d : Int) : UInt8 := UInt8.ofNat (IntKind.u8.wrap ((IntKind.u64.wrap x).fdiv d)).toNat
def put8 (x : Int) : List UInt8 := [pB x 72057594037927936, pB x 281474976710656, pB x 1099511627776, pB x 4294967296, pB x 16777216, pB x 65536, pB x 256, pB x 1]
def put4 (x : Int) : List UInt8 := [pB x 16777216, pB x 65536, pB x 256, pB x 1]
def put1 (x : Int) : List UInt8 := [pB x 1]
abbrev b8 : List Prop := [(0 : Int) ≤ 0 ∧ (0 : Int) < 8, (0 : Int) ≤ 1 ∧ (1 : Int) < 8, (0 : Int) ≤ 2 ∧ (2 : Int) < 8, (0 : Int) ≤ 3 ∧ (3 : Int) < 8, (0 : Int) ≤ 4 ∧ (4 : Int) < 8, (0 : Int) ≤ 5 ∧ (5 : Int) < 8, (0 : Int) ≤ 6 ∧ (6 : Int) < 8, (0 : Int) ≤ 7 ∧ (7 : Int) < 8]
theorem b8_ok : ∀ p ∈ b8, p := by
  intro p hp
  simp only [List.mem_cons, List.not_mem_nil, or_false] at hp
  rcases hp with rfl | rfl | rfl | rfl | rfl | rfl | rfl | rfl <;> decide
noncomputable abbrev cdPu : Code := bodyOf Tryz.f27
theorem pu_8 (x : Int) : RunIs Tryz.prog cs2 [] 1000 3 Tryz.f27 [] cdPu (startSt [.int .i64 x, .int .i64 8] .nil 3) [] [([], b8, .ret (.str (put8 x)) (hL []) 3)] := by
  unfold RunIs; kernel_rfl
theorem pu_4 (x : Int) : RunIs Tryz.prog cs2 [] 1000 3 Tryz.f27 [] cdPu (startSt [.int .i64 x, .int .i64 4] .nil 3) [] [([], b8, .ret (.str (put4 x)) (hL []) 3)] := by
  unfold RunIs; kernel_rfl
theorem pu_1 (x : Int) : RunIs Tryz.prog cs2 [] 1000 3 Tryz.f27 [] cdPu (startSt [.int .i64 x, .int .i64 1] .nil 3) [] [([], b8, .ret (.str (put1 x)) (hL []) 3)] := by
  unfold RunIs; kernel_rfl
def specPu : List V → Option (List Prop × V)
  | [.int .i64 x, .int .i64 k] => match k with
    | .ofNat 8 => some ([], .str (put8 x))
    | .ofNat 4 => some ([], .str (put4 x))
    | .ofNat 1 => some ([], .str (put1 x))
    | _ => none
  | _ => none
theorem TG_one {P : Program} {n0 : Nat} {fn : Func} {c : Code} {s : St} (X' : CX P) (hm : P.follows .mixedOrders = true) {H : List (Nat × Fix)} {F : Nat} {live : List Nat} {A : List Prop} {v : V} {h : Tr O} {n : Nat} (hc : codeOk fn.ntmps c = true)
    (hr : RunIs P X'.cs H F n0 fn live c s [] [([], A, .ret v h n)]) (hA : ∀ a ∈ A, a) : TG P n0 fn.ntmps c s (RetG P n0 fn fun u _ _ => u = v) := by
  refine TG_ret X' hm _ hc hr fun g hg _ => ?_
  rw [List.mem_singleton] at hg; subst hg
  exact ⟨hA, _, _, _, rfl, rfl⟩
theorem one_Pu : OneW Tryz.prog 27 (pureW specPu) := by
  refine pureW_ok (Nat.le_of_ble_eq_true (by kernel_rfl)) fun args A v e => ?_
  unfold specPu at e
  split at e
  · split at e
    · simp only [Option.some.injEq, Prod.mk.injEq] at e; obtain ⟨rfl, rfl⟩ := e
      exact ⟨rfl, by kernel_rfl, fun _ => pure_calls mo po Tryz.func27 (by kernel_rfl) (by kernel_rfl) rfl (TG_one X2 mo (by kernel_rfl) (pu_8 _) b8_ok)⟩
    · simp only [Option.some.injEq, Prod.mk.injEq] at e; obtain ⟨rfl, rfl⟩ := e
      exact ⟨rfl, by kernel_rfl, fun _ => pure_calls mo po Tryz.func27 (by kernel_rfl) (by kernel_rfl) rfl (TG_one X2 mo (by kernel_rfl) (pu_4 _) b8_ok)⟩
    · simp only [Option.some.injEq, Prod.mk.injEq] at e; obtain ⟨rfl, rfl⟩ := e
      exact ⟨rfl, by kernel_rfl, fun _ => pure_calls mo po Tryz.func27 (by kernel_rfl) (by kernel_rfl) rfl (TG_one X2 mo (by kernel_rfl) (pu_1 _) b8_ok)⟩
    · cases e
  · cases e
end Go.Proofs.YtmjggdmekboefaaGreatDoor.Sha
namespace Go.Proofs.YtmjggdmekboefaaGreatDoor.Sha
open Go Go.Eng Go.Shelf Go.RowKit
def repRen : Go.Shelf.Ren := ⟨fun | 105 => 60 | 212 => 88 | 99 => 89 | 165 => 90 | 166 => 26 | 170 => 91 | 169 => 29 | 263 => 116 | 264 => 117 | 206 => 118 | 240 => 58 | 241 => 119 | 276 => 87 | 277 => 141 | n => n, fun | 9 => 9 | 3 => 3 | 4 => 4 | 20 => 20 | 0 => 0 | 46 => 61 | 109 => 154 | 5 => 5 | 72 => 73 | 76 => 76 | 51 => 118 | 146 => 181 | 53 => 120 | 148 => 183 | 70 => 70 | 37 => 71 | 75 => 75 | 127 => 124 | 164 => 152 | 80 => 80 | n => n, fun n => n⟩
theorem repLays : Lays.n105 Tryz.prog repRen := {
  mixed := mo
  f99 := Tryz.func89.trans (congrArg some (by kernel_rfl))
  f105 := Tryz.func60.trans (congrArg some (by kernel_rfl))
  f165 := Tryz.func90.trans (congrArg some (by kernel_rfl))
  f166 := Tryz.func26.trans (congrArg some (by kernel_rfl))
  f169 := Tryz.func29.trans (congrArg some (by kernel_rfl))
  f170 := Tryz.func91.trans (congrArg some (by kernel_rfl))
  f206 := Tryz.func118.trans (congrArg some (by kernel_rfl))
  f212 := Tryz.func88.trans (congrArg some (by kernel_rfl))
  f240 := Tryz.func58.trans (congrArg some (by kernel_rfl))
  f241 := Tryz.func119.trans (congrArg some (by kernel_rfl))
  f263 := Tryz.func116.trans (congrArg some (by kernel_rfl))
  f264 := Tryz.func117.trans (congrArg some (by kernel_rfl))
  f276 := Tryz.func87.trans (congrArg some (by kernel_rfl))
  f277 := Tryz.func141.trans (congrArg some (by kernel_rfl))
  t0 := Tryz.underlying0
  a0 := Tryz.isAgg0
  z0 := Tryz.sizeOf0
  v0 := Tryz.zeroValue0
  t3 := Tryz.underlying3
  a3 := Tryz.isAgg3
  z3 := Tryz.sizeOf3
  v3 := Tryz.zeroValue3
  t4 := Tryz.underlying4
  a4 := Tryz.isAgg4
  z4 := Tryz.sizeOf4
  v4 := Tryz.zeroValue4
  t5 := Tryz.underlying5
  a5 := Tryz.isAgg5
  z5 := Tryz.sizeOf5
  v5 := Tryz.zeroValue5
  t9 := Tryz.underlying9
  a9 := Tryz.isAgg9
  z9 := Tryz.sizeOf9
  v9 := Tryz.zeroValue9
  t20 := Tryz.underlying20
  a20 := Tryz.isAgg20
  z20 := Tryz.sizeOf20
  v20 := Tryz.zeroValue20
  t37 := Tryz.underlying71
  a37 := Tryz.isAgg71
  z37 := Tryz.sizeOf71
  v37 := Tryz.zeroValue71
  t46 := Tryz.underlying61
  a46 := Tryz.isAgg61
  z46 := Tryz.sizeOf61
  v46 := Tryz.zeroValue61
  t51 := Tryz.underlying118
  a51 := Tryz.isAgg118
  z51 := Tryz.sizeOf118
  v51 := Tryz.zeroValue118
  t53 := Tryz.underlying120
  a53 := Tryz.isAgg120
  z53 := Tryz.sizeOf120
  v53 := Tryz.zeroValue120
  t70 := Tryz.underlying70
  a70 := Tryz.isAgg70
  z70 := Tryz.sizeOf70
  v70 := Tryz.zeroValue70
  t72 := Tryz.underlying73
  a72 := Tryz.isAgg73
  z72 := Tryz.sizeOf73
  v72 := Tryz.zeroValue73
  t75 := Tryz.underlying75
  a75 := Tryz.isAgg75
  z75 := Tryz.sizeOf75
  v75 := Tryz.zeroValue75
  t76 := Tryz.underlying76
  a76 := Tryz.isAgg76
  z76 := Tryz.sizeOf76
  v76 := Tryz.zeroValue76
  t109 := Tryz.underlying154
  a109 := Tryz.isAgg154
  z109 := Tryz.sizeOf154
  v109 := Tryz.zeroValue154
  t127 := Tryz.underlying124
  a127 := Tryz.isAgg124
  z127 := Tryz.sizeOf124
  v127 := Tryz.zeroValue124
  t146 := Tryz.underlying181
  a146 := Tryz.isAgg181
  z146 := Tryz.sizeOf181
  v146 := Tryz.zeroValue181
  t148 := Tryz.underlying183
  a148 := Tryz.isAgg183
  z148 := Tryz.sizeOf183
  v148 := Tryz.zeroValue183
  t164 := Tryz.underlying152
  a164 := Tryz.isAgg152
  z164 := Tryz.sizeOf152
  v164 := Tryz.zeroValue152
}
theorem repMore : Builder.Extra Tryz.prog repRen where
  sizeBuilder := by kernel_rfl
  liesBuilder := by kernel_rfl
  t5 := repLays.t5
  a5 := repLays.a5
  z5 := repLays.z5
  v5 := repLays.v5
  infoByte := by kernel_rfl
  cellsByte := by kernel_rfl
  sizeByte := by kernel_rfl
  neB5 := by decide
def specRe : List V → Option (List Prop × V)
  | [.str [0], .int .i64 x] => some ([0 ≤ x ∧ x ≤ 1000], .str (List.replicate x.toNat 0))
  | _ => none
theorem one_Re : OneW Tryz.prog 60 (pureW specRe) := by
  refine pureW_ok (Nat.le_of_ble_eq_true (by kernel_rfl)) fun args A v e => ?_
  unfold specRe at e
  split at e
  · rename_i x
    simp only [Option.some.injEq, Prod.mk.injEq] at e; obtain ⟨rfl, rfl⟩ := e
    refine ⟨rfl, rfl, fun hA E w args' _ ra => ?_⟩
    have hx := hA _ (List.mem_singleton.2 rfl)
    obtain ⟨c, rfl⟩ : ∃ c : Nat, x = (c : Int) := ⟨x.toNat, by omega⟩
    obtain ⟨y, ys, r0, ⟨z, zs, r1, rs, rfl⟩, rfl⟩ := ra
    have rs : zs = [] := rs
    subst rs
    have r1 : z = .int .i64 (c : Int) := r1
    subst r1
    have r0 : y = .string ⟨#[0]⟩ := r0
    subst r0
    have h := Any.strings_Repeat repLays repMore ⟨#[0]⟩ c w (by omega) (by show 1 * c ≤ _; omega)
    refine h.mono fun en w' ⟨he, hw⟩ => ⟨⟨E, ?_⟩, hw⟩
    rw [he]
    have e : Lib.repeatL (ByteArray.mk #[0]).data.toList c = List.replicate c 0 := by
      have := Lib.repeatL_replicate 0 1 c
      rw [Nat.mul_one] at this
      exact this
    rw [e]
    exact rfl
  · cases e
noncomputable abbrev W3 : CtrW := addW 60 (pureW specRe) (addW 27 (pureW specPu) W2)
theorem W3_ok : CtrWOk Tryz.prog W3 := addW_ok one_Re (addW_ok one_Pu W2_ok)
end Go.Proofs.YtmjggdmekboefaaGreatDoor.Sha
namespace Go.Proofs.YtmjggdmekboefaaGreatDoor.Sha
open Go Go.Eng Go.Shelf Go.RowKit
def specCk : List V → Tr O → Nat → Option (List Prop × V × Tr O × Nat)
  | [.ptr (some (m, 0))], h, n => match h.get m with
    | some (.bld t _ x) => match Nat.beq t 73 && Nat.blt m top with
      | true => some ([], .tup [], h.set m (some (.bld t true x)), n)
      | false => none
    | _ => none
  | _, _, _ => none
theorem one_Ck : OneW Tryz.prog 58 specCk := by
  refine ⟨Nat.le_of_ble_eq_true (by kernel_rfl), fun args h n A v h' n' e hA E w args' ra g hd hc => ?_⟩
  unfold specCk at e
  split at e
  case h_2 => cases e
  rename_i m
  split at e
  case h_2 => cases e
  rename_i t self x hm
  split at e
  case h_2 => cases e
  rename_i hq
  simp only [Bool.and_eq_true] at hq
  obtain ⟨ht, hmt⟩ := hq
  have ht := Nat.eq_of_beq_eq_true ht
  subst ht
  have hmt : m < top := Nat.le_of_ble_eq_true hmt
  simp only [Option.some.injEq, Prod.mk.injEq] at e
  obtain ⟨rfl, rfl, rfl, rfl⟩ := e
  obtain ⟨y, ys, r0, rs, rfl⟩ := ra
  have rs : ys = [] := rs
  subst rs
  obtain ⟨b, s, e1, rfl⟩ := r0
  obtain ⟨b', s', e2, hs, x', fz, k1, k2, k3, k4⟩ := g.rel m _ hm
  rw [e1] at e2
  simp only [Option.some.injEq, Prod.mk.injEq] at e2
  obtain ⟨rfl, rfl⟩ := e2
  subst hs
  have hbb : b < w.heap.size := g.bnd m b 0 e1
  have hlive : wlive h m := ⟨_, hm, rfl⟩
  have hcell : ∀ {self : Bool}, w.heap[b]? = some (.cells #[.pointer (if self then some ⟨b, 0, none⟩ else none), x'] 73 fz) → w.cell? ⟨b, 0, none⟩ = some (.pointer (if self then some ⟨b, 0, none⟩ else none)) := by
    intro self k1
    unfold World.cell?; rw [k1]; rfl
  have hcpost : ∀ w', w'.heap.size = w.heap.size → w'.tape = w.tape → w'.os = w.os → w'.output = w.output → (∀ j, j ≠ b → w'.heap[j]? = w.heap[j]?) → w'.heap[b]? = some (.cells #[.pointer (some ⟨b, 0, none⟩), x'] 73 fz) →
      CPost E h n w (.ret (.tup [])) (h.set m (some (.bld 73 true x))) n (.returned (.tuple #[])) w' := by
    intro w' h1 h2 h3 h4 h5 h6
    refine ⟨E, Upd.write g hmt hlive e1 h1 h2 h3 h4 h5 ⟨rfl, x', fz, h6, k2, k3, k4⟩, fun _ _ => rfl, hd, Nat.le_refl _, ⟨[], rfl, rfl⟩⟩
  cases self with
  | true =>
    have h := Any.Builder_copyCheck_used { repLays with } { repMore with } b w (hcell k1)
    refine h.mono fun en w' ⟨he, hw⟩ => ?_
    subst he; subst hw
    exact hcpost w' rfl rfl rfl rfl (fun _ _ => rfl) k1
  | false =>
    have h := Any.Builder_copyCheck_fresh { repLays with } { repMore with } b w (hcell k1) (by unfold World.shape?; rw [k1]; rfl) (by
      unfold World.frozen?
      simp only [k1]
      have := k3 0 (by omega)
      obtain ⟨lo, hi⟩ := fz
      simp only at this ⊢
      cases hq : (decide (lo ≤ 0) && decide (0 < hi)) with
      | false => rfl
      | true => simp only [Bool.and_eq_true, decide_eq_true_eq] at hq; exact absurd hq this)
    refine h.mono fun en w' ⟨he, hw⟩ => ?_
    subst he; subst hw
    refine hcpost _ (by simp [World.setCell]) rfl rfl rfl (fun j hj => by simp [World.setCell, Array.getElem?_modify, Ne.symm hj]) ?_
    simp [World.setCell, Array.getElem?_modify, k1]
noncomputable abbrev W4 : CtrW := addW 58 specCk W3
theorem W4_ok : CtrWOk Tryz.prog W4 := addW_ok one_Ck W3_ok
noncomputable abbrev cs4 : CallS := callX Tryz.prog W4 H0 1000 40
noncomputable abbrev X4 : CX Tryz.prog := CX.of mo po W4_ok H0 1000 40
end Go.Proofs.YtmjggdmekboefaaGreatDoor.Sha
namespace Go.Proofs.YtmjggdmekboefaaGreatDoor.Sha
open Go Go.Eng
noncomputable abbrev cdOf : Code := bodyOf Tryz.f28
noncomputable abbrev tlOf : Code := tailN 4 cdOf
noncomputable abbrev l1Of : Code := seqL tlOf
noncomputable abbrev t2Of : Code := seqR tlOf
noncomputable abbrev l2Of : Code := seqL t2Of
noncomputable abbrev t3Of : Code := seqR t2Of
def hSR (st rd : List Int) : Tr O := hL [(0, .ints .u32 st), (1, .ints .u32 rd)]
def zerosN (s : List UInt8) : Nat := (119 - s.length % 64) % 64
def padOf (s : List UInt8) : List UInt8 := ((s.take s.length).drop (s.length / 64 * 64) ++ [128] ++ List.replicate (zerosN s) 0) ++ put8 (Int.ofNat (s.length * 8))
def stq (st : List Int) : E8 := (st.getD 0 0, st.getD 1 0, st.getD 2 0, st.getD 3 0, st.getD 4 0, st.getD 5 0, st.getD 6 0, st.getD 7 0)
def blk (s : List UInt8) (i : Nat) : List UInt8 := (s.take (i + 64)).drop i
def hashN (rd : List Int) (s : List UInt8) (q : E8) : Nat → E8
  | 0 => q
  | j + 1 => cmpL rd (blk s (64 * j)) (hashN rd s q j)
def wB (x : Int) : List UInt8 := put4 (IntKind.i64.wrap x)
def out8 (q : E8) : List UInt8 := wB q.1 ++ strI (bytesI (wB q.2.1)) ++ strI (bytesI (wB q.2.2.1)) ++ strI (bytesI (wB q.2.2.2.1)) ++ strI (bytesI (wB q.2.2.2.2.1)) ++ strI (bytesI (wB q.2.2.2.2.2.1)) ++ strI (bytesI (wB q.2.2.2.2.2.2.1)) ++ strI (bytesI (wB q.2.2.2.2.2.2.2))
def shaOf (st rd : List Int) (s : List UInt8) : List UInt8 := out8 (hashN rd (padOf s) (hashN rd s (stq st) (s.length / 64)) ((padOf s).length / 64))
def sOf0 (st rd : List Int) (q : E8) (s p : List UInt8) : St := stG [(0, .str s), (3, .ptr (some (3, 0))), (5, .str p)] (hL [(0, .ints .u32 st), (1, .ints .u32 rd), (3, .cells (c8 q))]) 4
def sOf1 (st rd : List Int) (q : E8) (s p : List UInt8) (i : Nat) : St := stG [(0, .str s), (3, .ptr (some (3, 0))), (5, .str p), (6, .int .i64 (Int.ofNat i))] (hL [(0, .ints .u32 st), (1, .ints .u32 rd), (3, .cells (c8 q))]) 4
def sOf2 (st rd : List Int) (q : E8) (p : List UInt8) : St := stG [(3, .ptr (some (3, 0))), (5, .str p)] (hL [(0, .ints .u32 st), (1, .ints .u32 rd), (3, .cells (c8 q))]) 4
theorem of_1 (st rd : List Int) (s : List UInt8) : ∃ L, RunIs Tryz.prog cs4 [(13, .give (.int .i64 (Int.ofNat (s.length % 64)))), (15, .give (.int .i64 (Int.ofNat (zerosN s)))), (20, .give (.int .i64 (Int.ofNat (s.length / 64 * 64)))), (28, .give (.int .i64 (Int.ofNat (s.length * 8))))] 1000 3 Tryz.f28 [0, 3, 5] (headN 4 cdOf) (startSt [.str s] (hSR st rd) 3) L
    [([],
      [(8 ≤ st.length), (V.int IntKind.i64 (((Int.ofNat s.length)).tmod (64 : Int)) = V.int IntKind.i64 (Int.ofNat (s.length % 64))), (V.int IntKind.i64 ((IntKind.i64.wrap ((119 : Int) - Int.ofNat (s.length % 64))).tmod (64 : Int)) = V.int IntKind.i64 (Int.ofNat (zerosN s))), ((64 : Int) ≠ (0 : Int)), (V.int IntKind.i64 (IntKind.i64.wrap (IntKind.i64.wrap (((Int.ofNat s.length)).tdiv (64 : Int)) * (64 : Int))) = V.int IntKind.i64 (Int.ofNat (s.length / 64 * 64))), ((0 : Int) ≤ Int.ofNat (s.length / 64 * 64) ∧ Int.ofNat (s.length / 64 * 64) ≤ (Int.ofNat s.length)), ((List.drop (Int.ofNat (s.length / 64 * 64)).toNat (List.take s.length s)).length + 1 ≤ 9223372036854775807), ((0 : Int) ≤ Int.ofNat (zerosN s) ∧ Int.ofNat (zerosN s) ≤ (1000 : Int)), ((0 : Int) ≤ Int.ofNat (s.length / 64 * 64) ∧ Int.ofNat (s.length / 64 * 64) ≤ (Int.ofNat s.length)), ((List.drop (Int.ofNat (s.length / 64 * 64)).toNat (List.take s.length s) ++ ([(128 : UInt8)] : List UInt8)).length + (List.replicate (Int.ofNat (zerosN s)).toNat (0 : UInt8)).length ≤ 9223372036854775807), (V.int IntKind.i64 (IntKind.i64.wrap ((Int.ofNat s.length) * (8 : Int))) = V.int IntKind.i64 (Int.ofNat (s.length * 8))), ((0 : Int) ≤ Int.ofNat (s.length / 64 * 64) ∧ Int.ofNat (s.length / 64 * 64) ≤ (Int.ofNat s.length)), ((List.drop (Int.ofNat (s.length / 64 * 64)).toNat (List.take s.length s) ++ ([(128 : UInt8)] : List UInt8) ++ List.replicate (Int.ofNat (zerosN s)).toNat (0 : UInt8)).length + (put8 (Int.ofNat (s.length * 8))).length ≤ 9223372036854775807)],
      .to .normal (stG [(0, .str (s)), (3, .ptr (some (3, 0))), (5, .str (List.drop (Int.ofNat (s.length / 64 * 64)).toNat (List.take s.length s) ++ ([(128 : UInt8)] : List UInt8) ++ List.replicate (Int.ofNat (zerosN s)).toNat (0 : UInt8) ++ put8 (Int.ofNat (s.length * 8))))] (hL [(0, .ints .u32 (st)), (1, .ints .u32 (rd)), (3, .cells [.int .u32 (st.getD 0 (0 : Int)), .int .u32 (st.getD 1 (0 : Int)), .int .u32 (st.getD 2 (0 : Int)), .int .u32 (st.getD 3 (0 : Int)), .int .u32 (st.getD 4 (0 : Int)), .int .u32 (st.getD 5 (0 : Int)), .int .u32 (st.getD 6 (0 : Int)), .int .u32 (st.getD 7 (0 : Int))])]) 4))]
  := RunIs.of (by kernel_rfl) (by kernel_rfl) (by kernel_rfl)
theorem of_2 (st rd : List Int) (q : E8) (s p : List UInt8) : ∃ L, RunIs Tryz.prog cs4 [(6, .give (.int .i64 (Int.ofNat 0)))] 1000 3 Tryz.f28 [0, 3, 5, 6] (seqL l1Of) (sOf0 st rd q s p) L
    [([],
      [(V.int IntKind.i64 (0 : Int) = V.int IntKind.i64 (0 : Int))],
      .to .normal (stG [(0, .str (s)), (3, .ptr (some (3, 0))), (5, .str (p)), (6, .int .i64 0)] (hL [(0, .ints .u32 (st)), (1, .ints .u32 (rd)), (3, .cells [.int .u32 (q.fst), .int .u32 (q.snd.fst), .int .u32 (q.snd.snd.fst), .int .u32 (q.snd.snd.snd.fst), .int .u32 (q.snd.snd.snd.snd.fst), .int .u32 (q.snd.snd.snd.snd.snd.fst), .int .u32 (q.snd.snd.snd.snd.snd.snd.fst), .int .u32 (q.snd.snd.snd.snd.snd.snd.snd)])]) 4))]
  := RunIs.of (by kernel_rfl) (by kernel_rfl) (by kernel_rfl)
theorem of_5 (st rd : List Int) (q : E8) (p : List UInt8) : ∃ L, RunIs Tryz.prog cs4 [] 1000 3 Tryz.f28 [] (t3Of) (sOf2 st rd q p) L
    [([],
      [(0 < (put4 (IntKind.i64.wrap q.fst)).length), (roomy (put4 (IntKind.i64.wrap q.fst)).length 1 1 = true), (0 < (put4 (IntKind.i64.wrap q.fst)).length), ((put4 (IntKind.i64.wrap q.fst)).length = (put4 (IntKind.i64.wrap q.fst)).length), (roomy ((put4 (IntKind.i64.wrap q.fst)).length + (put4 (IntKind.i64.wrap q.snd.fst)).length) 1 1 = true), (0 < (put4 (IntKind.i64.wrap q.fst)).length + (put4 (IntKind.i64.wrap q.snd.fst)).length), ((put4 (IntKind.i64.wrap q.fst)).length + (put4 (IntKind.i64.wrap q.snd.fst)).length = (put4 (IntKind.i64.wrap q.fst) ++ strI (bytesI (put4 (IntKind.i64.wrap q.snd.fst)))).length), (roomy ((put4 (IntKind.i64.wrap q.fst)).length + (put4 (IntKind.i64.wrap q.snd.fst)).length + (put4 (IntKind.i64.wrap q.snd.snd.fst)).length) 1 1 = true), (0 < (put4 (IntKind.i64.wrap q.fst)).length + (put4 (IntKind.i64.wrap q.snd.fst)).length + (put4 (IntKind.i64.wrap q.snd.snd.fst)).length), ((put4 (IntKind.i64.wrap q.fst)).length + (put4 (IntKind.i64.wrap q.snd.fst)).length + (put4 (IntKind.i64.wrap q.snd.snd.fst)).length = (put4 (IntKind.i64.wrap q.fst) ++ strI (bytesI (put4 (IntKind.i64.wrap q.snd.fst))) ++ strI (bytesI (put4 (IntKind.i64.wrap q.snd.snd.fst)))).length), (roomy ((put4 (IntKind.i64.wrap q.fst)).length + (put4 (IntKind.i64.wrap q.snd.fst)).length + (put4 (IntKind.i64.wrap q.snd.snd.fst)).length + (put4 (IntKind.i64.wrap q.snd.snd.snd.fst)).length) 1 1 = true), (0 < (put4 (IntKind.i64.wrap q.fst)).length + (put4 (IntKind.i64.wrap q.snd.fst)).length + (put4 (IntKind.i64.wrap q.snd.snd.fst)).length + (put4 (IntKind.i64.wrap q.snd.snd.snd.fst)).length), ((put4 (IntKind.i64.wrap q.fst)).length + (put4 (IntKind.i64.wrap q.snd.fst)).length + (put4 (IntKind.i64.wrap q.snd.snd.fst)).length + (put4 (IntKind.i64.wrap q.snd.snd.snd.fst)).length = (put4 (IntKind.i64.wrap q.fst) ++ strI (bytesI (put4 (IntKind.i64.wrap q.snd.fst))) ++ strI (bytesI (put4 (IntKind.i64.wrap q.snd.snd.fst))) ++ strI (bytesI (put4 (IntKind.i64.wrap q.snd.snd.snd.fst)))).length), (roomy ((put4 (IntKind.i64.wrap q.fst)).length + (put4 (IntKind.i64.wrap q.snd.fst)).length + (put4 (IntKind.i64.wrap q.snd.snd.fst)).length + (put4 (IntKind.i64.wrap q.snd.snd.snd.fst)).length + (put4 (IntKind.i64.wrap q.snd.snd.snd.snd.fst)).length) 1 1 = true), (0 < (put4 (IntKind.i64.wrap q.fst)).length + (put4 (IntKind.i64.wrap q.snd.fst)).length + (put4 (IntKind.i64.wrap q.snd.snd.fst)).length + (put4 (IntKind.i64.wrap q.snd.snd.snd.fst)).length + (put4 (IntKind.i64.wrap q.snd.snd.snd.snd.fst)).length), ((put4 (IntKind.i64.wrap q.fst)).length + (put4 (IntKind.i64.wrap q.snd.fst)).length + (put4 (IntKind.i64.wrap q.snd.snd.fst)).length + (put4 (IntKind.i64.wrap q.snd.snd.snd.fst)).length + (put4 (IntKind.i64.wrap q.snd.snd.snd.snd.fst)).length = (put4 (IntKind.i64.wrap q.fst) ++ strI (bytesI (put4 (IntKind.i64.wrap q.snd.fst))) ++ strI (bytesI (put4 (IntKind.i64.wrap q.snd.snd.fst))) ++ strI (bytesI (put4 (IntKind.i64.wrap q.snd.snd.snd.fst))) ++ strI (bytesI (put4 (IntKind.i64.wrap q.snd.snd.snd.snd.fst)))).length), (roomy ((put4 (IntKind.i64.wrap q.fst)).length + (put4 (IntKind.i64.wrap q.snd.fst)).length + (put4 (IntKind.i64.wrap q.snd.snd.fst)).length + (put4 (IntKind.i64.wrap q.snd.snd.snd.fst)).length + (put4 (IntKind.i64.wrap q.snd.snd.snd.snd.fst)).length + (put4 (IntKind.i64.wrap q.snd.snd.snd.snd.snd.fst)).length) 1 1 = true), (0 < (put4 (IntKind.i64.wrap q.fst)).length + (put4 (IntKind.i64.wrap q.snd.fst)).length + (put4 (IntKind.i64.wrap q.snd.snd.fst)).length + (put4 (IntKind.i64.wrap q.snd.snd.snd.fst)).length + (put4 (IntKind.i64.wrap q.snd.snd.snd.snd.fst)).length + (put4 (IntKind.i64.wrap q.snd.snd.snd.snd.snd.fst)).length), ((put4 (IntKind.i64.wrap q.fst)).length + (put4 (IntKind.i64.wrap q.snd.fst)).length + (put4 (IntKind.i64.wrap q.snd.snd.fst)).length + (put4 (IntKind.i64.wrap q.snd.snd.snd.fst)).length + (put4 (IntKind.i64.wrap q.snd.snd.snd.snd.fst)).length + (put4 (IntKind.i64.wrap q.snd.snd.snd.snd.snd.fst)).length = (put4 (IntKind.i64.wrap q.fst) ++ strI (bytesI (put4 (IntKind.i64.wrap q.snd.fst))) ++ strI (bytesI (put4 (IntKind.i64.wrap q.snd.snd.fst))) ++ strI (bytesI (put4 (IntKind.i64.wrap q.snd.snd.snd.fst))) ++ strI (bytesI (put4 (IntKind.i64.wrap q.snd.snd.snd.snd.fst))) ++ strI (bytesI (put4 (IntKind.i64.wrap q.snd.snd.snd.snd.snd.fst)))).length), (roomy ((put4 (IntKind.i64.wrap q.fst)).length + (put4 (IntKind.i64.wrap q.snd.fst)).length + (put4 (IntKind.i64.wrap q.snd.snd.fst)).length + (put4 (IntKind.i64.wrap q.snd.snd.snd.fst)).length + (put4 (IntKind.i64.wrap q.snd.snd.snd.snd.fst)).length + (put4 (IntKind.i64.wrap q.snd.snd.snd.snd.snd.fst)).length + (put4 (IntKind.i64.wrap q.snd.snd.snd.snd.snd.snd.fst)).length) 1 1 = true), (0 < (put4 (IntKind.i64.wrap q.fst)).length + (put4 (IntKind.i64.wrap q.snd.fst)).length + (put4 (IntKind.i64.wrap q.snd.snd.fst)).length + (put4 (IntKind.i64.wrap q.snd.snd.snd.fst)).length + (put4 (IntKind.i64.wrap q.snd.snd.snd.snd.fst)).length + (put4 (IntKind.i64.wrap q.snd.snd.snd.snd.snd.fst)).length + (put4 (IntKind.i64.wrap q.snd.snd.snd.snd.snd.snd.fst)).length), ((put4 (IntKind.i64.wrap q.fst)).length + (put4 (IntKind.i64.wrap q.snd.fst)).length + (put4 (IntKind.i64.wrap q.snd.snd.fst)).length + (put4 (IntKind.i64.wrap q.snd.snd.snd.fst)).length + (put4 (IntKind.i64.wrap q.snd.snd.snd.snd.fst)).length + (put4 (IntKind.i64.wrap q.snd.snd.snd.snd.snd.fst)).length + (put4 (IntKind.i64.wrap q.snd.snd.snd.snd.snd.snd.fst)).length = (put4 (IntKind.i64.wrap q.fst) ++ strI (bytesI (put4 (IntKind.i64.wrap q.snd.fst))) ++ strI (bytesI (put4 (IntKind.i64.wrap q.snd.snd.fst))) ++ strI (bytesI (put4 (IntKind.i64.wrap q.snd.snd.snd.fst))) ++ strI (bytesI (put4 (IntKind.i64.wrap q.snd.snd.snd.snd.fst))) ++ strI (bytesI (put4 (IntKind.i64.wrap q.snd.snd.snd.snd.snd.fst))) ++ strI (bytesI (put4 (IntKind.i64.wrap q.snd.snd.snd.snd.snd.snd.fst)))).length), (roomy ((put4 (IntKind.i64.wrap q.fst)).length + (put4 (IntKind.i64.wrap q.snd.fst)).length + (put4 (IntKind.i64.wrap q.snd.snd.fst)).length + (put4 (IntKind.i64.wrap q.snd.snd.snd.fst)).length + (put4 (IntKind.i64.wrap q.snd.snd.snd.snd.fst)).length + (put4 (IntKind.i64.wrap q.snd.snd.snd.snd.snd.fst)).length + (put4 (IntKind.i64.wrap q.snd.snd.snd.snd.snd.snd.fst)).length + (put4 (IntKind.i64.wrap q.snd.snd.snd.snd.snd.snd.snd)).length) 1 1 = true), (0 < (put4 (IntKind.i64.wrap q.fst)).length + (put4 (IntKind.i64.wrap q.snd.fst)).length + (put4 (IntKind.i64.wrap q.snd.snd.fst)).length + (put4 (IntKind.i64.wrap q.snd.snd.snd.fst)).length + (put4 (IntKind.i64.wrap q.snd.snd.snd.snd.fst)).length + (put4 (IntKind.i64.wrap q.snd.snd.snd.snd.snd.fst)).length + (put4 (IntKind.i64.wrap q.snd.snd.snd.snd.snd.snd.fst)).length + (put4 (IntKind.i64.wrap q.snd.snd.snd.snd.snd.snd.snd)).length), ((Int.ofNat ((put4 (IntKind.i64.wrap q.fst)).length + (put4 (IntKind.i64.wrap q.snd.fst)).length + (put4 (IntKind.i64.wrap q.snd.snd.fst)).length + (put4 (IntKind.i64.wrap q.snd.snd.snd.fst)).length + (put4 (IntKind.i64.wrap q.snd.snd.snd.snd.fst)).length + (put4 (IntKind.i64.wrap q.snd.snd.snd.snd.snd.fst)).length + (put4 (IntKind.i64.wrap q.snd.snd.snd.snd.snd.snd.fst)).length + (put4 (IntKind.i64.wrap q.snd.snd.snd.snd.snd.snd.snd)).length)) = (Int.ofNat (put4 (IntKind.i64.wrap q.fst) ++ strI (bytesI (put4 (IntKind.i64.wrap q.snd.fst))) ++ strI (bytesI (put4 (IntKind.i64.wrap q.snd.snd.fst))) ++ strI (bytesI (put4 (IntKind.i64.wrap q.snd.snd.snd.fst))) ++ strI (bytesI (put4 (IntKind.i64.wrap q.snd.snd.snd.snd.fst))) ++ strI (bytesI (put4 (IntKind.i64.wrap q.snd.snd.snd.snd.snd.fst))) ++ strI (bytesI (put4 (IntKind.i64.wrap q.snd.snd.snd.snd.snd.snd.fst))) ++ strI (bytesI (put4 (IntKind.i64.wrap q.snd.snd.snd.snd.snd.snd.snd)))).length) ∧ 0 < (put4 (IntKind.i64.wrap q.fst) ++ strI (bytesI (put4 (IntKind.i64.wrap q.snd.fst))) ++ strI (bytesI (put4 (IntKind.i64.wrap q.snd.snd.fst))) ++ strI (bytesI (put4 (IntKind.i64.wrap q.snd.snd.snd.fst))) ++ strI (bytesI (put4 (IntKind.i64.wrap q.snd.snd.snd.snd.fst))) ++ strI (bytesI (put4 (IntKind.i64.wrap q.snd.snd.snd.snd.snd.fst))) ++ strI (bytesI (put4 (IntKind.i64.wrap q.snd.snd.snd.snd.snd.snd.fst))) ++ strI (bytesI (put4 (IntKind.i64.wrap q.snd.snd.snd.snd.snd.snd.snd)))).length), ((put4 (IntKind.i64.wrap q.fst) ++ strI (bytesI (put4 (IntKind.i64.wrap q.snd.fst))) ++ strI (bytesI (put4 (IntKind.i64.wrap q.snd.snd.fst))) ++ strI (bytesI (put4 (IntKind.i64.wrap q.snd.snd.snd.fst))) ++ strI (bytesI (put4 (IntKind.i64.wrap q.snd.snd.snd.snd.fst))) ++ strI (bytesI (put4 (IntKind.i64.wrap q.snd.snd.snd.snd.snd.fst))) ++ strI (bytesI (put4 (IntKind.i64.wrap q.snd.snd.snd.snd.snd.snd.fst))) ++ strI (bytesI (put4 (IntKind.i64.wrap q.snd.snd.snd.snd.snd.snd.snd)))).length ≤ 9223372036854775807)],
      .ret (.str (put4 (IntKind.i64.wrap q.fst) ++ strI (bytesI (put4 (IntKind.i64.wrap q.snd.fst))) ++ strI (bytesI (put4 (IntKind.i64.wrap q.snd.snd.fst))) ++ strI (bytesI (put4 (IntKind.i64.wrap q.snd.snd.snd.fst))) ++ strI (bytesI (put4 (IntKind.i64.wrap q.snd.snd.snd.snd.fst))) ++ strI (bytesI (put4 (IntKind.i64.wrap q.snd.snd.snd.snd.snd.fst))) ++ strI (bytesI (put4 (IntKind.i64.wrap q.snd.snd.snd.snd.snd.snd.fst))) ++ strI (bytesI (put4 (IntKind.i64.wrap q.snd.snd.snd.snd.snd.snd.snd))))) (hL [(0, .ints .u32 (st)), (1, .ints .u32 (rd))]) 3)]
  := RunIs.of (by kernel_rfl) (by kernel_rfl) (by kernel_rfl)
end Go.Proofs.YtmjggdmekboefaaGreatDoor.Sha
namespace Go.Proofs.YtmjggdmekboefaaGreatDoor.Sha
open Go Go.Eng
def shaOfQ (rd : List Int) (p : List UInt8) (q : E8) : List UInt8 := out8 (hashN rd p q (p.length / 64))
theorem all_nil : ∀ a ∈ ([] : List Prop), a := fun _ h => absurd h List.not_mem_nil
theorem put8_len (x : Int) : (put8 x).length = 8 := rfl
theorem padOf_len (s : List UInt8) : (padOf s).length = (s.length - s.length / 64 * 64) + 1 + zerosN s + 8 := by
  unfold padOf
  simp only [List.length_append, List.length_drop, List.length_take, List.length_replicate, put8_len, List.length_cons, List.length_nil, Nat.min_self]
theorem padOf_mod (s : List UInt8) : ∃ k, (padOf s).length = 64 * k := by
  rw [padOf_len]
  unfold zerosN
  refine ⟨((s.length - s.length / 64 * 64) + 1 + ((119 - s.length % 64) % 64) + 8) / 64, ?_⟩
  omega
theorem of_4b (st rd : List Int) (q : E8) (p p1 b1 : List UInt8) (h1 : List.drop 64 (List.take p.length p) = p1) (h2 : List.drop 0 (List.take 64 p) = b1) : ∃ L, RunIs Tryz.prog cs4 [(47, .split)] 1000 3 Tryz.f28 [3, 5] (inner (inner l2Of)) (sOf2 st rd q p) L
    [([((decide ((Int.ofNat p.length) > (0 : Int))), true)],
      [((0 : Int) ≤ (64 : Int) ∧ (64 : Int) ≤ (Int.ofNat p.length)), (64 ≤ rd.length), (64 ≤ b1.length), ((0 : Int) ≤ (64 : Int) ∧ (64 : Int) ≤ (Int.ofNat p.length))],
      .to .normal (sOf2 st rd (cmpL rd b1 q) p1)),
     ([((decide ((Int.ofNat p.length) > (0 : Int))), false)], [], .to (.exit 2) (sOf2 st rd q p))] := by
  subst h1 h2
  exact RunIs.of (by kernel_rfl) (by kernel_rfl) (by kernel_rfl)
theorem of_3b (st rd : List Int) (q : E8) (s p : List UInt8) (i : Nat) : ∃ L, RunIs Tryz.prog cs4 [(35, .split), (32, .give (.int .i64 (Int.ofNat (i + 64)))), (42, .give (.int .i64 (Int.ofNat (i + 64)))), (37, .give (.int .i64 (Int.ofNat (i + 64))))] 1000 3 Tryz.f28 [0, 3, 5, 6] (inner (inner (seqR l1Of))) (sOf1 st rd q s p i) L
    [([((decide (Int.ofNat (i + 64) ≤ (Int.ofNat s.length))), true)],
      [ieq (Int.ofNat i + 64) (i + 64), ieq (Int.ofNat i + 64) (i + 64), ((0 : Int) ≤ Int.ofNat (i + 64) ∧ Int.ofNat (i + 64) ≤ (Int.ofNat s.length)), ((0 : Int) ≤ Int.ofNat i ∧ Int.ofNat i ≤ (Int.ofNat (Int.ofNat (i + 64)).toNat)), (64 ≤ rd.length), (64 ≤ (blk s i).length), ieq (Int.ofNat i + 64) (i + 64)],
      .to .normal (sOf1 st rd (cmpL rd (blk s i) q) s p (i + 64))),
     ([((decide (Int.ofNat (i + 64) ≤ (Int.ofNat s.length))), false)], [ieq (Int.ofNat i + 64) (i + 64)], .to (.exit 0) (sOf1 st rd q s p i))] :=
  RunIs.of (by kernel_rfl) (by kernel_rfl) (by kernel_rfl)
theorem blk_len {s : List UInt8} {i : Nat} (h : i + 64 ≤ s.length) : (blk s i).length = 64 := by
  unfold blk
  rw [List.length_drop, List.length_take]; omega
theorem drop_step (p : List UInt8) (j : Nat) : List.drop 64 (List.take (p.drop (64 * j)).length (p.drop (64 * j))) = p.drop (64 * (j + 1)) := by
  rw [List.take_length, List.drop_drop, Nat.mul_succ]
theorem blk_drop (p : List UInt8) (j : Nat) : List.drop 0 (List.take 64 (p.drop (64 * j))) = blk p (64 * j) := by
  unfold blk
  rw [List.drop_zero, List.drop_take]
  rw [Nat.add_sub_cancel_left]
set_option maxRecDepth 20000 in
theorem tgOf2 (st rd : List Int) (hrd : 64 ≤ rd.length) (q0 : E8) (p : List UInt8) (kp : Nat) (hkp : p.length = 64 * kp) (hpl : p.length ≤ 200) : TG Tryz.prog 3 Tryz.f28.ntmps t2Of (sOf2 st rd q0 p)
    (RetG Tryz.prog 3 Tryz.f28 fun u _ _ => u = .str (shaOfQ rd p q0)) := by
  have hO : ∀ n : Nat, Int.ofNat n = (n : Int) := fun _ => rfl
  have hfin : shaOfQ rd p q0 = out8 (hashN rd p q0 kp) := by unfold shaOfQ; rw [hkp, Nat.mul_div_cancel_left _ (by omega)]
  rw [hfin]
  clear hfin
  refine TG_seq' (by kernel_rfl) ?_
  refine TG_block (i := 2) (by kernel_rfl) (TG_mono (Q1 := fun z s' => z = .exit 2 ∧ ∃ L, normG 3 L s' = some (sOf2 st rd (hashN rd p q0 kp) (p.drop (64 * kp)))) (TG_loop_inv (fun k' s' => ∃ j, k' = kp - j ∧ j ≤ kp ∧ ∃ L, normG 3 L s' = some (sOf2 st rd (hashN rd p q0 j) (p.drop (64 * j)))) (by kernel_rfl) ?_ kp ⟨0, rfl, Nat.zero_le _, [3, 5], by kernel_rfl⟩) ?_)
  · rintro k' s1 ⟨j, hk, hj, L, hs1⟩
    refine TG_norm hs1 ?_
    have hlen : (p.drop (64 * j)).length = 64 * kp - 64 * j := by rw [List.length_drop, hkp]
    obtain ⟨L3, hr3⟩ := of_4b st rd (hashN rd p q0 j) (p.drop (64 * j)) (p.drop (64 * (j + 1))) (blk p (64 * j)) (drop_step p j) (blk_drop p j)
    refine TG_is X4 mo anyR (by kernel_rfl) hr3 fun g hg hc => ?_
    simp only [List.mem_cons, List.not_mem_nil, or_false] at hg
    rcases hg with rfl | rfl
    · have hlt : j < kp := by
        have := of_decide_eq_true (hc _ (List.mem_singleton.2 rfl))
        rw [hO, hlen] at this; omega
      refine ⟨fun p' hp' => ?_, fun s' hs' => ⟨kp - (j + 1), by omega, j + 1, rfl, by omega, _, hs'⟩⟩
      simp only [List.mem_cons, List.not_mem_nil, or_false] at hp'
      rcases hp' with rfl | rfl | rfl | rfl
      · exact ⟨by decide, by rw [hO, hlen]; omega⟩
      · exact hrd
      · rw [blk_len (by omega)]; exact Nat.le_refl _
      · exact ⟨by decide, by rw [hO, hlen]; omega⟩
    · have hge : ¬ j < kp := by
        have := of_decide_eq_false (hc _ (List.mem_singleton.2 rfl))
        rw [hO, hlen] at this; omega
      obtain rfl : j = kp := by omega
      exact ⟨all_nil, fun s' hs' => ⟨rfl, _, hs'⟩⟩
  rintro y s2 ⟨rfl, L, hs2⟩
  rw [outOf_exit]
  simp only [andThen]
  refine TG_norm hs2 ?_
  obtain ⟨L5, hr5⟩ := of_5 st rd (hashN rd p q0 kp) (p.drop (64 * kp))
  refine TG_ret X4 mo _ (by kernel_rfl) hr5 fun g hg _ => ?_
  rw [List.mem_singleton] at hg; subst hg
  refine ⟨?_, _, _, _, rfl, rfl⟩
  repeat' (first | exact all_nil | refine List.forall_mem_cons.2 ⟨?_, ?_⟩)
  all_goals first | exact Nat.le_of_ble_eq_true (by kernel_rfl) | exact ⟨by kernel_rfl, Nat.le_of_ble_eq_true (by kernel_rfl)⟩ | kernel_rfl
set_option maxRecDepth 20000 in
theorem tgOf (st rd : List Int) (hst : 8 ≤ st.length) (hrd : 64 ≤ rd.length) (s : List UInt8) (hs : s.length ≤ 1000000000) : TG Tryz.prog 3 Tryz.f28.ntmps cdOf (startSt [.str s] (hSR st rd) 3)
    (RetG Tryz.prog 3 Tryz.f28 fun u _ _ => u = .str (shaOf st rd s)) := by
  have hO : ∀ n : Nat, Int.ofNat n = (n : Int) := fun _ => rfl
  have hz : zerosN s < 64 := by unfold zerosN; omega
  obtain ⟨L1, hr1⟩ := of_1 st rd s
  refine TG_isN1 4 X4 mo (by kernel_rfl) hr1 ?_ ?_
  · intro p hp
    simp only [List.mem_cons, List.not_mem_nil, or_false] at hp
    rcases hp with rfl | rfl | rfl | rfl | rfl | rfl | rfl | rfl | rfl | rfl | rfl | rfl | rfl
    · exact hst
    · rfl
    · have e : IntKind.i64.wrap ((119 : Int) - Int.ofNat (s.length % 64)) = Int.ofNat (119 - s.length % 64) := by
        rw [wrap_id (by rw [hO]; omega) (by rw [hO]; omega), hO, hO]; omega
      rw [e]; rfl
    · decide
    · have e : (Int.ofNat s.length).tdiv 64 = Int.ofNat (s.length / 64) := rfl
      rw [e, wrap_id (x := Int.ofNat (s.length / 64)) (by rw [hO]; omega) (by rw [hO]; omega)]
      exact ieq_ok (by rw [hO]; omega) (by omega)
    · exact ⟨Int.natCast_nonneg _, by rw [hO, hO]; omega⟩
    · simp only [List.length_drop, List.length_take, Nat.min_self]; omega
    · exact ⟨Int.natCast_nonneg _, by rw [hO]; omega⟩
    · exact ⟨Int.natCast_nonneg _, by rw [hO, hO]; omega⟩
    · simp only [List.length_append, List.length_drop, List.length_take, List.length_replicate, List.length_cons, List.length_nil, Nat.min_self, hO, Int.toNat_natCast]; omega
    · exact ieq_ok (by rw [hO]; omega) (by omega)
    · exact ⟨Int.natCast_nonneg _, by rw [hO, hO]; omega⟩
    · simp only [List.length_append, List.length_drop, List.length_take, List.length_replicate, List.length_cons, List.length_nil, Nat.min_self, hO, Int.toNat_natCast, put8_len]; omega
  show TG Tryz.prog 3 Tryz.f28.ntmps tlOf (sOf0 st rd (stq st) s (padOf s)) _
  refine TG_seq' (by kernel_rfl) ?_
  obtain ⟨L2, hr2⟩ := of_2 st rd (stq st) s (padOf s)
  refine TG_isSeq X4 mo anyR (by kernel_rfl) (by kernel_rfl) hr2 fun g hg _ => ?_
  rw [List.mem_singleton] at hg; subst hg
  refine ⟨fun p hp => by rw [List.mem_singleton] at hp; subst hp; rfl, fun s' hs' => ?_⟩
  have hs' : normG 3 [0, 3, 5, 6] s' = some (sOf1 st rd (hashN rd s (stq st) 0) s (padOf s) (64 * 0)) := hs'
  refine TG_block (i := 0) (by kernel_rfl) (TG_mono (Q1 := fun z s' => z = .exit 0 ∧ ∃ L, normG 3 L s' = some (sOf1 st rd (hashN rd s (stq st) (s.length / 64)) s (padOf s) (64 * (s.length / 64)))) (TG_loop_inv (fun k' s' => ∃ j, k' = s.length / 64 - j ∧ j ≤ s.length / 64 ∧ ∃ L, normG 3 L s' = some (sOf1 st rd (hashN rd s (stq st) j) s (padOf s) (64 * j))) (by kernel_rfl) ?_ (s.length / 64) ⟨0, rfl, Nat.zero_le _, _, hs'⟩) ?_)
  · rintro k' s1 ⟨j, hk, hj, L, hs1⟩
    refine TG_norm hs1 ?_
    obtain ⟨L3, hr3⟩ := of_3b st rd (hashN rd s (stq st) j) s (padOf s) (64 * j)
    refine TG_is X4 mo anyR (by kernel_rfl) hr3 fun g hg hc => ?_
    simp only [List.mem_cons, List.not_mem_nil, or_false] at hg
    rcases hg with rfl | rfl
    · have hlt : 64 * j + 64 ≤ s.length := by
        have := of_decide_eq_true (hc _ (List.mem_singleton.2 rfl))
        rw [hO, hO] at this; omega
      refine ⟨fun p hp => ?_, fun s' hs' => ⟨s.length / 64 - (j + 1), by omega, j + 1, rfl, by omega, _, hs'⟩⟩
      simp only [List.mem_cons, List.not_mem_nil, or_false] at hp
      rcases hp with rfl | rfl | rfl | rfl | rfl | rfl | rfl
      · exact ieq_ok (by rw [hO]; omega) (by omega)
      · exact ieq_ok (by rw [hO]; omega) (by omega)
      · exact ⟨Int.natCast_nonneg _, by rw [hO, hO]; omega⟩
      · exact ⟨Int.natCast_nonneg _, by simp only [hO, Int.toNat_natCast]; omega⟩
      · exact hrd
      · rw [blk_len hlt]; exact Nat.le_refl _
      · exact ieq_ok (by rw [hO]; omega) (by omega)
    · have hge : ¬ 64 * j + 64 ≤ s.length := by
        have := of_decide_eq_false (hc _ (List.mem_singleton.2 rfl))
        rw [hO, hO] at this; omega
      obtain rfl : j = s.length / 64 := by omega
      refine ⟨fun p hp => ?_, fun s' hs' => ⟨rfl, _, hs'⟩⟩
      rw [List.mem_singleton] at hp; subst hp
      exact ieq_ok (by rw [hO]; omega) (by omega)
  rintro y s2 ⟨rfl, L, hs2⟩
  rw [outOf_exit]
  simp only [andThen]
  refine TG_norm hs2 ?_
  refine TG_norm (live := [3, 5]) (s2 := sOf2 st rd (hashN rd s (stq st) (s.length / 64)) (padOf s)) (by kernel_rfl) ?_
  show TG Tryz.prog 3 Tryz.f28.ntmps t2Of _ (RetG Tryz.prog 3 Tryz.f28 fun u _ _ => u = .str (shaOfQ rd (padOf s) (hashN rd s (stq st) (s.length / 64))))
  obtain ⟨kp, hkp⟩ := padOf_mod s
  have hpl : (padOf s).length ≤ 200 := by rw [padOf_len]; omega
  exact tgOf2 st rd hrd _ _ kp hkp hpl
end Go.Proofs.YtmjggdmekboefaaGreatDoor.Sha
namespace Go.Proofs.YtmjggdmekboefaaGreatDoor.Sha
open Go Go.Eng
def gS : List Int := [1779033703, 3144134277, 1013904242, 2773480762, 1359893119, 2600822924, 528734635, 1541459225]
def gR : List Int := [1116352408, 1899447441, 3049323471, 3921009573, 961987163, 1508970993, 2453635748, 2870763221, 3624381080, 310598401, 607225278, 1426881987, 1925078388, 2162078206, 2614888103, 3248222580, 3835390401, 4022224774, 264347078, 604807628, 770255983, 1249150122, 1555081692, 1996064986, 2554220882, 2821834349, 2952996808, 3210313671, 3336571891, 3584528711, 113926993, 338241895, 666307205, 773529912, 1294757372, 1396182291, 1695183700, 1986661051, 2177026350, 2456956037, 2730485921, 2820302411, 3259730800, 3345764771, 3516065817, 3600352804, 4094571909, 275423344, 430227734, 506948616, 659060556, 883997877, 958139571, 1322822218, 1537002063, 1747873779, 1955562222, 2024104815, 2227730452, 2361852424, 2428436474, 2756734187, 3204031479, 3329325298]
def sha (s : List UInt8) : List UInt8 := shaOf gS gR s
theorem sha_len (s : List UInt8) : (sha s).length = 32 := rfl
def tabs (h : Tr O) : Option (List Int × List Int) := match h.get 0, h.get 1 with
  | some (.ints .u32 st), some (.ints .u32 rd) => some (st, rd)
  | _, _ => none
theorem tabs_some {h : Tr O} {st rd : List Int} (e : tabs h = some (st, rd)) : h.get 0 = some (.ints .u32 st) ∧ h.get 1 = some (.ints .u32 rd) := by
  unfold tabs at e
  split at e
  · rename_i a b h0 h1
    simp only [Option.some.injEq, Prod.mk.injEq] at e; obtain ⟨rfl, rfl⟩ := e
    exact ⟨h0, h1⟩
  · cases e
def specOf : List V → Tr O → Option (List Prop × V)
  | [.str s], h => match tabs h with
    | some (st, rd) => some ([st = gS, rd = gR, s.length ≤ 1000000000], .str (sha s))
    | none => none
  | _, _ => none
theorem tabs_rows {E : Env} {h : Tr O} {w : World} {st rd : List Int} (g0 : Eng.Good E h w) (h0 : h.get 0 = some (.ints .u32 st)) (h1 : h.get 1 = some (.ints .u32 rd)) :
    Eng.Good (E.rows nsG) (hSR st rd) w ∧ Dom (E.rows nsG) 3 ∧ ∀ m, ¬ wlive (hSR st rd) m :=
  rows_ok g0 nsG [some (.u32, st), some (.u32, rd), none] (Nat.le_of_ble_eq_true rfl) nsG_ok (by
    intro j k' ks' hj
    match j, hj with
    | 0, hj => cases hj; exact ⟨0, 0, st, rfl, h0, rfl⟩
    | 1, hj => cases hj; exact ⟨1, 0, rd, rfl, h1, rfl⟩
    | 2, hj => cases hj
    | j + 3, hj => simp at hj)
theorem one_Of : PureA Tryz.prog 28 specOf := by
  refine ⟨Nat.le_of_ble_eq_true (by kernel_rfl), fun args h A u e => ?_⟩
  unfold specOf at e
  split at e
  case h_2 => cases e
  rename_i s
  split at e
  case h_2 => cases e
  rename_i st rd ht
  obtain ⟨h0, h1⟩ := tabs_some ht
  simp only [Option.some.injEq, Prod.mk.injEq] at e; obtain ⟨rfl, rfl⟩ := e
  refine ⟨rfl, fun hA E n' w' args' ra g0 hd hc => ?_⟩
  have e1 : st = gS := hA _ (by simp)
  have e2 : rd = gR := hA _ (by simp)
  have e3 : s.length ≤ 1000000000 := hA (s.length ≤ 1000000000) (by simp)
  subst e1 e2
  obtain ⟨g2, d2, n2⟩ := tabs_rows g0 h0 h1
  exact read_calls mo po Tryz.func28 (code := cdOf) (by kernel_rfl) (by kernel_rfl) (tgOf gS gR (Nat.le_of_ble_eq_true rfl) (Nat.le_of_ble_eq_true rfl) s e3) (E := E.rows nsG) g2 d2 n2 (frees_rel _ _ rfl ra)
noncomputable abbrev W5 : CtrW := addW 28 (readW specOf) W4
theorem W5_ok : CtrWOk Tryz.prog W5 := addW_ok (readW_ok one_Of) W4_ok
noncomputable abbrev cs5 : CallS := callX Tryz.prog W5 H0 1000 40
noncomputable abbrev X5 : CX Tryz.prog := CX.of mo po W5_ok H0 1000 40
end Go.Proofs.YtmjggdmekboefaaGreatDoor.Sha
namespace Go.Proofs.YtmjggdmekboefaaGreatDoor.Sha
open Go Go.Eng
theorem strI_bytesI (u : List UInt8) : strI (bytesI u) = u := by
  induction u with
  | nil => rfl
  | cons x u ih =>
    show UInt8.ofNat ((x.toNat : Int)).toNat :: strI (bytesI u) = x :: u
    rw [ih]; simp
noncomputable abbrev cdJo : Code := bodyOf Tryz.f8
noncomputable abbrev tlJo : Code := tailN 2 cdJo
noncomputable abbrev lpJo : Code := seqL tlJo
noncomputable abbrev enJo : Code := seqR tlJo
def hT : List (Nat × O) := [(0, .ints .u32 gS), (1, .ints .u32 gR)]
def strs (ps : List (List UInt8)) : List D := ps.map .str
def sJ0 (f : Bool) (ps : List (List UInt8)) : St := stG [(3, .ptr (some (3, 0))), (6, .lst f ps.length (strs ps)), (7, .int .i64 (Int.ofNat ps.length)), (8, .int .i64 (Int.ofNat 0))] (hL [(0, .ints .u32 gS), (1, .ints .u32 gR), (3, .bld 73 false (.slc none 0 0 0))]) 4
def sJ1 (f : Bool) (ps : List (List UInt8)) (i len : Nat) (acc : List UInt8) : St := stG [(3, .ptr (some (3, 0))), (6, .lst f ps.length (strs ps)), (7, .int .i64 (Int.ofNat ps.length)), (8, .int .i64 (Int.ofNat i))] (hL [(0, .ints .u32 gS), (1, .ints .u32 gR), (3, .bld 73 true (.slc (some (4, 0)) len len 1)), (4, .buf 5 false acc)]) 5
def sJa (f : Bool) (ps : List (List UInt8)) : St := stG [(0, .lst f ps.length (strs ps)), (3, .ptr (some (3, 0)))] (hL [(0, .ints .u32 gS), (1, .ints .u32 gR), (3, .bld 73 false (.slc none 0 0 0))]) 4
theorem jo_1 (f : Bool) (ps : List (List UInt8)) : ∃ L, RunIs Tryz.prog cs5 [] 1000 3 Tryz.f8 [0, 3] (headN 2 cdJo) (startSt [.lst f ps.length (strs ps)] (hSR gS gR) 3) L
    [([],
      [],
      .to .normal (stG [(0, .lst (f) (ps.length) (strs ps)), (3, .ptr (some (3, 0)))] (hL [(0, .ints .u32 gS), (1, .ints .u32 gR), (3, .bld 73 false (.slc none 0 0 0))]) 4))]
  := RunIs.of (by kernel_rfl) (by kernel_rfl) (by kernel_rfl)
theorem jo_1a (f : Bool) (ps : List (List UInt8)) : ∃ L, RunIs Tryz.prog cs5 [(8, .give (.int .i64 (Int.ofNat 0)))] 1000 3 Tryz.f8 [3, 6, 7, 8] (seqL lpJo) (sJa f ps) L
    [([],
      [(V.int IntKind.i64 (0 : Int) = V.int IntKind.i64 (0 : Int))],
      .to .normal (stG [(3, .ptr (some (3, 0))), (6, .lst (f) (ps.length) (strs ps)), (7, .int .i64 ((Int.ofNat ps.length))), (8, .int .i64 0)] (hL [(0, .ints .u32 gS), (1, .ints .u32 gR), (3, .bld 73 false (.slc none 0 0 0))]) 4))]
  := RunIs.of (by kernel_rfl) (by kernel_rfl) (by kernel_rfl)
theorem jo_4 (f : Bool) (ps : List (List UInt8)) (i len : Nat) (acc : List UInt8) : ∃ L, RunIs Tryz.prog cs5 [] 1000 3 Tryz.f8 [] (enJo) (sJ1 f ps i len acc) L
    [([],
      [(0 < len), ((Int.ofNat len) = (Int.ofNat acc.length) ∧ 0 < acc.length), (acc.length ≤ 9223372036854775807), (gS = gS), (gR = gR), (acc.length ≤ 1000000000)],
      .ret (.str (sha acc)) (hL [(0, .ints .u32 gS), (1, .ints .u32 gR)]) 3)]
  := RunIs.of (by kernel_rfl) (by kernel_rfl) (by kernel_rfl)
end Go.Proofs.YtmjggdmekboefaaGreatDoor.Sha
namespace Go.Proofs.YtmjggdmekboefaaGreatDoor.Sha
open Go Go.Eng
def joinB (ps : List (List UInt8)) : List UInt8 := ps.flatMap fun p => put8 (Int.ofNat p.length) ++ p
theorem joinB_take {ps : List (List UInt8)} {i : Nat} {p : List UInt8} (h : ps[i]? = some p) : joinB (ps.take (i + 1)) = joinB (ps.take i) ++ put8 (Int.ofNat p.length) ++ p := by
  have hlt : i < ps.length := (List.getElem?_eq_some_iff.1 h).1
  have e : ps.take (i + 1) = ps.take i ++ [p] := by
    rw [List.take_add_one, h]; rfl
  unfold joinB
  rw [e, List.flatMap_append]
  simp
theorem joinB_le (ps : List (List UInt8)) (i : Nat) : (joinB (ps.take i)).length ≤ (joinB ps).length := by
  have : joinB ps = joinB (ps.take i) ++ joinB (ps.drop i) := by
    unfold joinB; rw [← List.flatMap_append, List.take_append_drop]
  rw [this, List.length_append]; omega
theorem roomy_ok {k : Nat} (h : k ≤ 100000000000) : roomy k 1 1 = true := by
  unfold roomy
  exact decide_eq_true ⟨by omega, by omega⟩
theorem strs_len (ps : List (List UInt8)) : (strs ps).length = ps.length := List.length_map ..
theorem cellsAt_strs {ps : List (List UInt8)} {i : Nat} {p : List UInt8} (h : ps[i]? = some p) : cellsAt (strs ps) (i * 1) 1 = [D.str p] := by
  unfold cellsAt strs
  rw [Nat.mul_one]
  have hlt : i < ps.length := (List.getElem?_eq_some_iff.1 h).1
  have : (ps.drop i).take 1 = [p] := by
    rw [List.drop_eq_getElem_cons hlt]
    have : ps[i] = p := (List.getElem?_eq_some_iff.1 h).2
    simp [this]
  rw [← List.map_drop, ← List.map_take, this]; rfl
theorem jo_2b (f : Bool) (ps : List (List UInt8)) (p acc : List UInt8) (h : put8 (Int.ofNat p.length) ++ strI (bytesI p) = acc) : ∃ L, RunIs Tryz.prog cs5 [(9, .split), (10, .give (.fptr [.str p])), (18, .give (.int .i64 (Int.ofNat 1)))] 1000 3 Tryz.f8 [3, 6, 7, 8] (inner (inner (seqR lpJo))) (sJ0 f ps) L
    [([((decide ((0 : Int) < Int.ofNat ps.length)), true)],
      [((0 : Int) ≤ (0 : Int) ∧ (0 : Int) < (Int.ofNat ps.length)), ((strs ps).length = ps.length * 1), (V.fptr (cellsAt (strs ps) 0 1) = V.fptr [D.str p]), (0 < (put8 (Int.ofNat p.length)).length), (roomy (put8 (Int.ofNat p.length)).length 1 1 = true), (0 < (put8 (Int.ofNat p.length)).length), ((put8 (Int.ofNat p.length)).length = (put8 (Int.ofNat p.length)).length), (roomy ((put8 (Int.ofNat p.length)).length + p.length) 1 1 = true), (V.int IntKind.i64 (1 : Int) = V.int IntKind.i64 (1 : Int))],
      .to .normal (sJ1 f ps 1 ((put8 (Int.ofNat p.length)).length + p.length) acc)),
    ([((decide ((0 : Int) < Int.ofNat ps.length)), false)], [], .to (.exit 0) (sJ0 f ps))] := by
  subst h
  exact RunIs.of (by kernel_rfl) (by kernel_rfl) (by kernel_rfl)
theorem jo_3b (f : Bool) (ps : List (List UInt8)) (p : List UInt8) (i len : Nat) (acc acc2 : List UInt8) (h : acc ++ strI (bytesI (put8 (Int.ofNat p.length))) ++ strI (bytesI p) = acc2) : ∃ L, RunIs Tryz.prog cs5 [(9, .split), (10, .give (.fptr [.str p])), (18, .give (.int .i64 (Int.ofNat (i + 1))))] 1000 3 Tryz.f8 [3, 6, 7, 8] (inner (inner (seqR lpJo))) (sJ1 f ps i len acc) L
    [([((decide (Int.ofNat i < Int.ofNat ps.length)), true)],
      [((0 : Int) ≤ Int.ofNat i ∧ Int.ofNat i < (Int.ofNat ps.length)), ((strs ps).length = ps.length * 1), (V.fptr (cellsAt (strs ps) ((Int.ofNat i).toNat * 1) 1) = V.fptr [D.str p]), (0 < len), (len = acc.length), (roomy (len + (put8 (Int.ofNat p.length)).length) 1 1 = true), (0 < len + (put8 (Int.ofNat p.length)).length), (len + (put8 (Int.ofNat p.length)).length = (acc ++ strI (bytesI (put8 (Int.ofNat p.length)))).length), (roomy (len + (put8 (Int.ofNat p.length)).length + p.length) 1 1 = true), ieq (Int.ofNat i + 1) (i + 1)],
      .to .normal (sJ1 f ps (i + 1) (len + (put8 (Int.ofNat p.length)).length + p.length) acc2)),
    ([((decide (Int.ofNat i < Int.ofNat ps.length)), false)], [], .to (.exit 0) (sJ1 f ps i len acc))] := by
  subst h
  exact RunIs.of (by kernel_rfl) (by kernel_rfl) (by kernel_rfl)
def JoI (f : Bool) (ps : List (List UInt8)) (k' : Nat) (s : St) : Prop := ∃ i, k' = ps.length - i ∧ i ≤ ps.length ∧ ((i = 0 ∧ ∃ L, normG 3 L s = some (sJ0 f ps)) ∨ (0 < i ∧ ∃ L, normG 3 L s = some (sJ1 f ps i (joinB (ps.take i)).length (joinB (ps.take i)))))
set_option maxRecDepth 20000 in
theorem tgJo (f : Bool) (ps : List (List UInt8)) (h0 : 0 < ps.length) (hps : ps.length ≤ 1000000000) (hs : (joinB ps).length ≤ 1000000000) : TG Tryz.prog 3 Tryz.f8.ntmps cdJo (startSt [.lst f ps.length (strs ps)] (hSR gS gR) 3)
    (RetG Tryz.prog 3 Tryz.f8 fun u _ _ => u = .str (sha (joinB ps))) := by
  have hO : ∀ n : Nat, Int.ofNat n = (n : Int) := fun _ => rfl
  have hb := joinB_le ps
  have hl8 := fun x => put8_len x
  obtain ⟨L1, hr1⟩ := jo_1 f ps
  refine TG_isN1 2 X5 mo (by kernel_rfl) hr1 all_nil ?_
  show TG Tryz.prog 3 Tryz.f8.ntmps tlJo (sJa f ps) _
  refine TG_seq' (by kernel_rfl) ?_
  refine TG_seq' (by kernel_rfl) ?_
  obtain ⟨L2, hr2⟩ := jo_1a f ps
  refine TG_is X5 mo anyR (by kernel_rfl) hr2 fun g hg _ => ?_
  rw [List.mem_singleton] at hg; subst hg
  refine ⟨fun p hp => by rw [List.mem_singleton] at hp; subst hp; rfl, fun s' hs' => ?_⟩
  have hs' : normG 3 [3, 6, 7, 8] s' = some (sJ0 f ps) := hs'
  refine TG_block (i := 0) (by kernel_rfl) (TG_mono (Q1 := fun z s' => z = .exit 0 ∧ ∃ L, normG 3 L s' = some (sJ1 f ps ps.length (joinB ps).length (joinB ps))) (TG_loop_inv (JoI f ps) (by kernel_rfl) ?_ ps.length ⟨0, rfl, Nat.zero_le _, .inl ⟨rfl, _, hs'⟩⟩) ?_)
  · rintro k' s1 ⟨i, hk, hi, ⟨rfl, L, hs1⟩ | ⟨h1, L, hs1⟩⟩
    · refine TG_norm hs1 ?_
      obtain ⟨p, hp⟩ : ∃ p, ps[0]? = some p := ⟨_, List.getElem?_eq_getElem h0⟩
      have hj := joinB_take hp
      have hj : joinB (ps.take 1) = put8 (Int.ofNat p.length) ++ p := hj
      have hb1 := hb 1
      rw [hj, List.length_append, hl8] at hb1
      obtain ⟨L3, hr3⟩ := jo_2b f ps p (joinB (ps.take 1)) (by rw [strI_bytesI, hj])
      refine TG_is X5 mo anyR (by kernel_rfl) hr3 fun g hg hc => ?_
      simp only [List.mem_cons, List.not_mem_nil, or_false] at hg
      rcases hg with rfl | rfl
      · refine ⟨fun p' hp' => ?_, fun s' hs' => ⟨ps.length - 1, by omega, 1, rfl, by omega, .inr ⟨by omega, [3, 6, 7, 8], ?_⟩⟩⟩
        · revert p' hp'
          repeat' (first | exact all_nil | refine List.forall_mem_cons.2 ⟨?_, ?_⟩)
          · exact ⟨by decide, by rw [hO]; omega⟩
          · rw [strs_len, Nat.mul_one]
          · exact congrArg V.fptr (cellsAt_strs hp)
          · rw [hl8]; decide
          · rw [hl8]; rfl
          · rw [hl8]; decide
          · first | rfl | trivial
          · rw [hl8]; exact roomy_ok (by omega)
          · first | rfl | trivial
        · rw [hs', hj, List.length_append]
      · exact absurd (of_decide_eq_false (hc _ (List.mem_singleton.2 rfl))) (by rw [hO]; omega)
    · refine TG_norm hs1 ?_
      rcases Nat.lt_or_ge i ps.length with hlt | hge
      · obtain ⟨p, hp⟩ : ∃ p, ps[i]? = some p := ⟨_, List.getElem?_eq_getElem hlt⟩
        have hj := joinB_take hp
        have hb1 := hb (i + 1)
        rw [hj, List.length_append, List.length_append, hl8] at hb1
        have hpos : 0 < (joinB (ps.take i)).length := by
          obtain ⟨j, rfl⟩ : ∃ j, i = j + 1 := ⟨i - 1, by omega⟩
          rw [joinB_take (List.getElem?_eq_getElem (show j < ps.length by omega)), List.length_append, List.length_append, hl8]; omega
        obtain ⟨L3, hr3⟩ := jo_3b f ps p i (joinB (ps.take i)).length (joinB (ps.take i)) (joinB (ps.take (i + 1))) (by rw [strI_bytesI, strI_bytesI, hj])
        refine TG_is X5 mo anyR (by kernel_rfl) hr3 fun g hg hc => ?_
        simp only [List.mem_cons, List.not_mem_nil, or_false] at hg
        rcases hg with rfl | rfl
        · refine ⟨fun p' hp' => ?_, fun s' hs' => ⟨ps.length - (i + 1), by omega, i + 1, rfl, by omega, .inr ⟨by omega, [3, 6, 7, 8], ?_⟩⟩⟩
          · revert p' hp'
            repeat' (first | exact all_nil | refine List.forall_mem_cons.2 ⟨?_, ?_⟩)
            · exact ⟨Int.natCast_nonneg _, by rw [hO, hO]; omega⟩
            · rw [strs_len, Nat.mul_one]
            · exact congrArg V.fptr (cellsAt_strs hp)
            · exact hpos
            · first | rfl | trivial
            · rw [hl8]; exact roomy_ok (by omega)
            · rw [hl8]; omega
            · rw [strI_bytesI, List.length_append]
            · rw [hl8]; exact roomy_ok (by omega)
            · exact ieq_ok (by rw [hO]; omega) (by omega)
          · rw [hs', hj, List.length_append, List.length_append]
        · exact absurd (of_decide_eq_false (hc _ (List.mem_singleton.2 rfl))) (by rw [hO, hO]; omega)
      · obtain rfl : i = ps.length := by omega
        obtain ⟨L3, hr3⟩ := jo_3b f ps [] ps.length (joinB (ps.take ps.length)).length (joinB (ps.take ps.length)) _ rfl
        refine TG_is X5 mo anyR (by kernel_rfl) hr3 fun g hg hc => ?_
        simp only [List.mem_cons, List.not_mem_nil, or_false] at hg
        rcases hg with rfl | rfl
        · exact absurd (of_decide_eq_true (hc _ (List.mem_singleton.2 rfl))) (by rw [hO]; omega)
        · refine ⟨all_nil, fun s' hs' => ⟨rfl, [3, 6, 7, 8], ?_⟩⟩
          rw [hs', List.take_length]
  rintro y s2 ⟨rfl, L, hs2⟩
  rw [outOf_exit]
  simp only [andThen]
  refine TG_norm hs2 ?_
  have hpos : 0 < (joinB ps).length := by
    have hj := joinB_take (List.getElem?_eq_getElem h0)
    have hb1 := hb 1
    rw [hj, List.length_append, List.length_append, hl8] at hb1
    omega
  obtain ⟨L5, hr5⟩ := jo_4 f ps ps.length (joinB ps).length (joinB ps)
  refine TG_ret X5 mo _ (by kernel_rfl) hr5 fun g hg _ => ?_
  rw [List.mem_singleton] at hg; subst hg
  refine ⟨fun p' hp' => ?_, _, _, _, rfl, rfl⟩
  revert p' hp'
  repeat' (first | exact all_nil | refine List.forall_mem_cons.2 ⟨?_, ?_⟩)
  · exact hpos
  · exact ⟨rfl, hpos⟩
  · omega
  · first | rfl | trivial
  · first | rfl | trivial
  · exact hs
end Go.Proofs.YtmjggdmekboefaaGreatDoor.Sha
namespace Go.Proofs.YtmjggdmekboefaaGreatDoor.Sha
open Go Go.Eng
def TabsTo (f : FuncId) (args : List V) (v : V) : Prop := ∀ E h n w args', tabs h = some (gS, gR) → vrels E args args' → Eng.Good E h w → Dom E n → Calls Tryz.prog f args'.toArray w (CPost E h n w (.ret v) h n)
def tW (f : List D → Option (List Prop × V)) : List V → Tr O → Nat → Option (List Prop × V × Tr O × Nat) := fun args h n => match tabs h, dargs args with
  | some (st, rd), some ds => match f ds with
    | some (A, v) => some ((st = gS) :: (rd = gR) :: A, v, h, n)
    | none => none
  | _, _ => none
theorem tW_ok {f : FuncId} {spec : List D → Option (List Prop × V)} (hlt : f < Tryz.prog.funcs.size) (h : ∀ args A v, spec args = some (A, v) → (∀ a ∈ A, a) → TabsTo f (args.map D.toV) v) : OneW Tryz.prog f (tW spec) := by
  refine ⟨hlt, fun args h' n A v h2 n2 e hA E w args' ra g hd hc => ?_⟩
  unfold tW at e
  split at e
  case h_2 => cases e
  rename_i st rd ds ht hds
  split at e
  case h_2 => cases e
  rename_i A' v' hs
  simp only [Option.some.injEq, Prod.mk.injEq] at e
  obtain ⟨rfl, rfl, rfl, rfl⟩ := e
  have e1 : st = gS := hA _ (by simp)
  have e2 : rd = gR := hA _ (by simp)
  subst e1 e2
  exact h ds _ _ hs (fun a ha => hA a (by simp [ha])) E h' n w args' ht (dargs_rel hds ra) g hd
theorem tabs_calls {f : FuncId} {fn : Func} {code : Code} (hf : Tryz.prog.funcs[f]? = some fn) (hb : fn.body = some code) {args : List V}
    (l : (Nat.ble args.length fn.ntmps && Nat.blt fn.ntmps top) = true) {v : V} (hdp : V.deeps args = true) (hv : v.deep = true) (hT : TG Tryz.prog 3 fn.ntmps code (startSt args (hSR gS gR) 3) (RetG Tryz.prog 3 fn (FzTo v))) : TabsTo f args v := by
  intro E h n w args' ht ra g hd
  obtain ⟨h0, h1⟩ := tabs_some ht
  obtain ⟨g0, d0, n0⟩ := tabs_rows g h0 h1
  have ra0 : vrels (E.rows nsG) args args' := deeps_rel (E := E) (E' := E.rows nsG) (fun _ _ q => q) _ _ hdp ra
  exact (calls_of_TG mo po hf hb l _ hT ra0 g0 d0).mono fun e w' ⟨u, h', n', hz, k⟩ => cpost_deep (E1 := E.rows nsG) g hd rfl n0 hv hz k
theorem RetG_self {P : Program} {n0 : Nat} {fn : Func} {v : V} {y : Exit} {s : St} (h : RetG P n0 fn (fun u _ _ => u = v) y s) : RetG P n0 fn (FzTo v) y s := by
  obtain ⟨hy, u, h', n', e, rfl⟩ := h
  exact ⟨hy, _, h', n', e, .self⟩
def D.strB : D → List UInt8
  | .str p => p
  | _ => []
def strL (cs : List D) : List (List UInt8) := cs.map D.strB
theorem strL_strs (ps : List (List UInt8)) : strL (strs ps) = ps := by
  unfold strL strs; rw [List.map_map]
  exact List.map_id ps
def specJo : List D → Option (List Prop × V)
  | [.lst n cs] => some ([cs = strs (strL cs), n = (strL cs).length, 0 < n, n ≤ 1000000000, (joinB (strL cs)).length ≤ 1000000000], .str (sha (joinB (strL cs))))
  | _ => none
theorem one_Jo : OneW Tryz.prog 8 (tW specJo) := by
  refine tW_ok (Nat.le_of_ble_eq_true (by kernel_rfl)) fun args A v e hA => ?_
  unfold specJo at e
  split at e
  case h_2 => cases e
  rename_i n cs
  simp only [Option.some.injEq, Prod.mk.injEq] at e
  obtain ⟨rfl, rfl⟩ := e
  have e1 : cs = strs (strL cs) := hA _ (by simp)
  have e2 : n = (strL cs).length := hA (n = (strL cs).length) (by simp)
  have e3 : 0 < n := hA (0 < n) (by simp)
  have e4 : n ≤ 1000000000 := hA (n ≤ 1000000000) (by simp)
  have e5 : (joinB (strL cs)).length ≤ 1000000000 := hA ((joinB (strL cs)).length ≤ 1000000000) (by simp)
  generalize strL cs = ps at *
  subst e1 e2
  exact tabs_calls Tryz.func8 (by kernel_rfl) (by kernel_rfl) rfl rfl (TG_mono (tgJo false ps e3 e4 e5) fun y s h => RetG_self h)
noncomputable abbrev W6 : CtrW := addW 8 (tW specJo) W5
theorem W6_ok : CtrWOk Tryz.prog W6 := addW_ok one_Jo W5_ok
end Go.Proofs.YtmjggdmekboefaaGreatDoor.Sha
namespace Go.Proofs.YtmjggdmekboefaaGreatDoor
open Go Go.Eng
set_option maxRecDepth 100000
open Sha (gS gR hSR tabs TabsTo sha)
noncomputable abbrev cdTk : Code := bodyOf Tryz.f37
noncomputable abbrev cdOr : Code := bodyOf Tryz.f121
noncomputable abbrev cdOd : Code := bodyOf Tryz.f97
noncomputable abbrev cdCo : Code := bodyOf Tryz.f122
theorem tk_1 (p : Nat → Int) (b : List UInt8) : RunE (csH (pinN 64 [tlV p] (.str b) Sha.W5) []) [] 3 Tryz.f37 [] cdTk (startSt [tlV p] (hSR gS gR) 3) [([], [pinA [tlV p], gS = gS, gR = gR, b.length ≤ 1000000000], .ret (.str (sha b)) (hSR gS gR) 3)] := RunIs.of (by kernel_rfl) (by kernel_rfl) (by kernel_rfl)
theorem co_1 (x y : Int) : RunE (csH noW []) [(11, .give (.bool false)), (13, .give (.bool false)), (16, .split), (19, .split)] 3 Tryz.f122 [] cdCo (startSt [iX x, iX y] .nil 3)
    [([(decide (x < y), true)], [V.bool (x != x) = V.bool false, V.bool (y != y) = V.bool false], .ret (.int .i64 (-1)) (hL []) 3),
     ([(decide (x < y), false), (decide (x > y), true)], [V.bool (x != x) = V.bool false, V.bool (y != y) = V.bool false], .ret (.int .i64 1) (hL []) 3),
     ([(decide (x < y), false), (decide (x > y), false)], [V.bool (x != x) = V.bool false, V.bool (y != y) = V.bool false], .ret (.int .i64 0) (hL []) 3)] := RunIs.of (by kernel_rfl) (by kernel_rfl) (by kernel_rfl)
def cmpI (x y : Int) : Int := if x < y then -1 else if y < x then 1 else 0
def specCo : List V → Option (List Prop × V)
  | [.int .i64 x, .int .i64 y] => some ([], .int .i64 (cmpI x y))
  | _ => none
theorem nan_f (x : Int) : V.bool (x != x) = V.bool false := congrArg V.bool (by simp)
theorem one_Co : OneW Tryz.prog 122 (pureW specCo) := by
  refine pureT Tryz.func122 fun args A v e => ?_
  unfold specCo at e
  split at e
  case h_2 => cases e
  rename_i x y
  obtain ⟨rfl, rfl⟩ := sm e
  refine ⟨rfl, rfl, rfl, fun _ => retE (noW_ok _) (co_1 x y) (gcons (g1 fun h => ⟨fm (nan_f x) (fm1 (nan_f y)), _, _, _, rfl, ?_⟩) (gcons (g2 fun h h2 => ⟨fm (nan_f x) (fm1 (nan_f y)), _, _, _, rfl, ?_⟩) (gone (g2 fun h h2 => ⟨fm (nan_f x) (fm1 (nan_f y)), _, _, _, rfl, ?_⟩))))⟩
  · have h := of_decide_eq_true h
    unfold cmpI; rw [if_pos h]
  · have h := of_decide_eq_false h
    have h2 := of_decide_eq_true h2
    unfold cmpI; rw [if_neg h, if_pos h2]
  · have h := of_decide_eq_false h
    have h2 := of_decide_eq_false h2
    unfold cmpI; rw [if_neg h, if_neg h2]
noncomputable abbrev tlOr : Code := tailN 2 cdOr
def sOr (a b : Int) (i : Int) : St := stG [(3, iX 0), (6, .lst false 2 [.int .i64 a, .int .i64 b]), (7, iX 2), (8, iX i)] .nil 3
theorem or_1 (a b : Int) : ∃ L, RunIs Tryz.prog (csH noW []) [] 1000 3 Tryz.f121 [0, 3] (headN 2 cdOr) (startSt [.lst false 2 [.int .i64 a, .int .i64 b]] .nil 3) L
    [([],
      [],
      .to .normal (stG [(0, .lst false 2 [.int .i64 a, .int .i64 b]), (3, .int .i64 0)] (hL []) 3))]
  := RunIs.of (by kernel_rfl) (by kernel_rfl) (by kernel_rfl)
theorem or_2 (a b : Int) : ∃ L, RunIs Tryz.prog (csH noW []) [] 1000 3 Tryz.f121 [3, 6, 7, 8] (seqL (seqL tlOr)) (stG [(0, .lst false 2 [.int .i64 a, .int .i64 b]), (3, iX 0)] .nil 3) L
    [([],
      [],
      .to .normal (stG [(3, .int .i64 0), (6, .lst false 2 [.int .i64 a, .int .i64 b]), (7, .int .i64 2), (8, .int .i64 0)] (hL []) 3))]
  := RunIs.of (by kernel_rfl) (by kernel_rfl) (by kernel_rfl)
theorem or_3 (a b : Int) : ∃ L, RunIs Tryz.prog (csH noW []) [(14, .split)] 1000 3 Tryz.f121 [3, 6, 7, 8] (inner (inner (seqR (seqL tlOr)))) (sOr a b 0) L
    [([((a != (0 : Int)), true)],
      [((0 : Int) ≤ (0 : Int) ∧ (0 : Int) < (2 : Int)), ([D.int IntKind.i64 a, D.int IntKind.i64 b].length = 2)],
      .ret (.int .i64 a) (hL []) 3),
    ([((a != (0 : Int)), false)],
      [((0 : Int) ≤ (0 : Int) ∧ (0 : Int) < (2 : Int)), ([D.int IntKind.i64 a, D.int IntKind.i64 b].length = 2)],
      .to .normal (stG [(3, .int .i64 0), (6, .lst false 2 [.int .i64 a, .int .i64 b]), (7, .int .i64 2), (8, .int .i64 1)] (hL []) 3))]
  := RunIs.of (by kernel_rfl) (by kernel_rfl) (by kernel_rfl)
theorem or_4 (a b : Int) : ∃ L, RunIs Tryz.prog (csH noW []) [(14, .split)] 1000 3 Tryz.f121 [3, 6, 7, 8] (inner (inner (seqR (seqL tlOr)))) (sOr a b 1) L
    [([((b != (0 : Int)), true)],
      [((0 : Int) ≤ (1 : Int) ∧ (1 : Int) < (2 : Int)), ([D.int IntKind.i64 a, D.int IntKind.i64 b].length = 2)],
      .ret (.int .i64 b) (hL []) 3),
    ([((b != (0 : Int)), false)],
      [((0 : Int) ≤ (1 : Int) ∧ (1 : Int) < (2 : Int)), ([D.int IntKind.i64 a, D.int IntKind.i64 b].length = 2)],
      .to .normal (stG [(3, .int .i64 0), (6, .lst false 2 [.int .i64 a, .int .i64 b]), (7, .int .i64 2), (8, .int .i64 2)] (hL []) 3))]
  := RunIs.of (by kernel_rfl) (by kernel_rfl) (by kernel_rfl)
theorem or_5 (a b : Int) : ∃ L, RunIs Tryz.prog (csH noW []) [] 1000 3 Tryz.f121 [3, 6, 7, 8] (inner (inner (seqR (seqL tlOr)))) (sOr a b 2) L
    [([],
      [],
      .to (.exit 0) (stG [(3, .int .i64 0), (6, .lst false 2 [.int .i64 a, .int .i64 b]), (7, .int .i64 2), (8, .int .i64 2)] (hL []) 3))]
  := RunIs.of (by kernel_rfl) (by kernel_rfl) (by kernel_rfl)
theorem or_6 (a b : Int) : ∃ L, RunIs Tryz.prog (csH noW []) [] 1000 3 Tryz.f121 [] (seqR tlOr) (sOr a b 2) L
    [([],
      [],
      .ret (.int .i64 0) (hL []) 3)]
  := RunIs.of (by kernel_rfl) (by kernel_rfl) (by kernel_rfl)
def orI (a b : Int) : Int := if a ≠ 0 then a else b
theorem orD (a b : Int) : DeepTo Tryz.prog 121 [.lst false 2 [.int .i64 a, .int .i64 b]] (iX (orI a b)) := by
  refine deepT Tryz.func121 ?_
  refine isE1 2 (noW_ok _) (or_1 a b) all_nil ?_
  refine loopF (noW_ok _) 0 _ [3, 6, 7, 8] (2 - ·) (fun i : Nat => i ≤ 2 ∧ (1 ≤ i → a = 0) ∧ (2 ≤ i → b = 0)) (fun i => sOr a b (Int.ofNat i)) 0 ⟨Nat.zero_le _, fun h => absurd h (by decide), fun h => absurd h (by decide)⟩ (or_2 a b) all_nil .refl fun i ⟨hi, h1, h2⟩ => ?_
  have A0 : ∀ p ∈ [((0 : Int) ≤ (0 : Int) ∧ (0 : Int) < (2 : Int)), ([D.int IntKind.i64 a, D.int IntKind.i64 b].length = 2)], p := fm (by decide) (fm1 rfl)
  have A1 : ∀ p ∈ [((0 : Int) ≤ (1 : Int) ∧ (1 : Int) < (2 : Int)), ([D.int IntKind.i64 a, D.int IntKind.i64 b].length = 2)], p := fm (by decide) (fm1 rfl)
  rcases (by omega : i = 0 ∨ i = 1 ∨ i = 2) with rfl | rfl | rfl
  · refine ⟨_, noW_ok _, _, _, _, or_3 a b, gcons (g1 fun h => ⟨A0, ?_⟩) (gone (g1 fun h => ⟨A0, 1, by decide, ⟨by decide, fun _ => ?_, fun h => absurd h (by decide)⟩, .refl⟩))⟩
    · show iX a = iX (orI a b)
      unfold orI; rw [if_pos (by simpa using h)]
    · simpa using h
  · refine ⟨_, noW_ok _, _, _, _, or_4 a b, gcons (g1 fun h => ⟨A1, ?_⟩) (gone (g1 fun h => ⟨A1, 2, by decide, ⟨by decide, fun _ => h1 (by decide), fun _ => ?_⟩, .refl⟩))⟩
    · show iX b = iX (orI a b)
      unfold orI; rw [if_neg (by simpa using h1 (by decide))]
    · simpa using h
  · refine ⟨_, noW_ok _, _, _, _, or_5 a b, gone (g0 ⟨all_nil, rfl, retE (noW_ok _) (or_6 a b) (gone (g0 ⟨all_nil, _, _, _, rfl, ?_⟩))⟩)⟩
    show iX 0 = iX (orI a b)
    unfold orI; rw [if_neg (by simpa using h1 (by decide)), h2 (by decide)]
def specOr : List D → Option (List Prop × V)
  | [.lst 2 [.int .i64 a, .int .i64 b]] => some ([], .int .i64 (orI a b))
  | _ => none
theorem one_Or : OneW Tryz.prog 121 (thawD specOr) := by
  refine thawD_ok (by kernel_rfl) fun ds A v e hA => ?_
  unfold specOr at e
  split at e
  case h_2 => cases e
  obtain ⟨rfl, rfl⟩ := sm e
  exact orD _ _
noncomputable abbrev Wod : CtrW := addW 121 (thawD specOr) (addW 122 (pureW specCo) noW)
theorem Wod_ok : CtrWOk Tryz.prog Wod := addW_ok one_Or (addW_ok one_Co (noW_ok _))
theorem od_1 (x y z w : Int) : ∃ L, RunIs Tryz.prog (csH Wod []) [] 1000 3 Tryz.f97 [] (cdOd) (startSt [.agg [iX x, iX y], .agg [iX z, iX w]] .nil 3) L
    [([],
      [([D.int IntKind.i64 (cmpI y w), D.int IntKind.i64 (cmpI x z)].length = 2)],
      .ret (.int .i64 (orI (cmpI y w) (cmpI x z))) (hL []) 3)]
  := RunIs.of (by kernel_rfl) (by kernel_rfl) (by kernel_rfl)
end Go.Proofs.YtmjggdmekboefaaGreatDoor
namespace Go.Proofs.YtmjggdmekboefaaGreatDoor
open Go Go.Eng
set_option maxRecDepth 100000
noncomputable abbrev cdWr : Code := bodyOf Tryz.f94
noncomputable abbrev cdRv : Code := bodyOf Tryz.f63
noncomputable abbrev tlRv : Code := tailN 2 cdRv
theorem wr_1 (x y : Int) : ∃ L, RunIs Tryz.prog (csH noW []) [(5, .split), (9, .split), (14, .split)] 1000 3 Tryz.f94 [] (cdWr) (startSt [.agg [iX x, iX y]] .nil 3) L
    [([((decide (x ≥ (-8192 : Int))), true), ((decide (x ≤ (8191 : Int))), true), ((decide (y ≥ (-8192 : Int))), true)],
      [],
      .ret (.bool (decide (y ≤ (8191 : Int)))) (hL []) 3),
    ([((decide (x ≥ (-8192 : Int))), true), ((decide (x ≤ (8191 : Int))), true), ((decide (y ≥ (-8192 : Int))), false)],
      [],
      .ret (.bool false) (hL []) 3),
    ([((decide (x ≥ (-8192 : Int))), true), ((decide (x ≤ (8191 : Int))), false)],
      [],
      .ret (.bool false) (hL []) 3),
    ([((decide (x ≥ (-8192 : Int))), false)],
      [],
      .ret (.bool false) (hL []) 3)]
  := RunIs.of (by kernel_rfl) (by kernel_rfl) (by kernel_rfl)
theorem one_Wr : OneW Tryz.prog 94 (pureW specWi) := by
  refine pureT Tryz.func94 fun args A v e => ?_
  unfold specWi at e
  split at e
  case h_2 => cases e
  rename_i x y
  obtain ⟨rfl, rfl⟩ := sm e
  refine ⟨rfl, rfl, rfl, fun _ => retE (noW_ok _) (wr_1 x y) (gcons (g3 fun h h2 h3 => ⟨all_nil, _, _, _, rfl, ?_⟩) (gcons (g3 fun h h2 h3 => ⟨all_nil, _, _, _, rfl, ?_⟩) (gcons (g2 fun h h2 => ⟨all_nil, _, _, _, rfl, ?_⟩) (gone (g1 fun h => ⟨all_nil, _, _, _, rfl, ?_⟩)))))⟩ <;> simp only [in8, *, Bool.true_and, Bool.false_and]
theorem rv_1 (n : Nat) (cs : List D) : ∃ L, RunIs Tryz.prog (csH noW []) [(8, .give (.bool false))] 1000 3 Tryz.f63 [1] (headN 2 cdRv) (startSt [.agg [.lst false n cs]] .nil 3) L
    [([],
      [(V.bool (decide ((Int.ofNat n) > (1024 : Int))) = V.bool false)],
      .to .normal (stG [(1, .ptr (some (3, 0)))] (hL [(3, .cells [.lst false n cs])]) 4))]
  := RunIs.of (by kernel_rfl) (by kernel_rfl) (by kernel_rfl)
theorem rv_z (n : Nat) (cs : List D) : ∃ L, RunIs Tryz.prog (csH noW []) [(8, .give (.bool true))] 1000 3 Tryz.f63 [] (cdRv) (startSt [.agg [.lst false n cs]] .nil 3) L
    [([],
      [(V.bool (decide ((Int.ofNat n) > (1024 : Int))) = V.bool true)],
      .ret (.bool false) (hL []) 3)]
  := RunIs.of (by kernel_rfl) (by kernel_rfl) (by kernel_rfl)
def specOd : List V → Option (List Prop × V)
  | [.agg [.int .i64 x, .int .i64 y], .agg [.int .i64 z, .int .i64 w]] => some ([], .int .i64 (orI (cmpI y w) (cmpI x z)))
  | _ => none
theorem one_Od : OneW Tryz.prog 97 (pureW specOd) := by
  refine pureT Tryz.func97 fun args A v e => ?_
  unfold specOd at e
  split at e
  case h_2 => cases e
  rename_i x y z w
  obtain ⟨rfl, rfl⟩ := sm e
  exact ⟨rfl, rfl, rfl, fun _ => retE Wod_ok (od_1 x y z w) (gone (g0 ⟨fm1 rfl, _, _, _, rfl, rfl⟩))⟩
noncomputable abbrev Wrv : CtrW := addW 97 (pureW specOd) (addW 94 (pureW specWi) noW)
theorem Wrv_ok : CtrWOk Tryz.prog Wrv := addW_ok one_Od (addW_ok one_Wr (noW_ok _))
def sRv2 (n : Nat) (cs : List D) (i : Nat) : St := stG [(1, .ptr (some (3, 0))), (10, .lst false n cs), (11, iW n), (12, iW i)] (hL [(3, .cells [.lst false n cs])]) 4
theorem rv_2 (n : Nat) (cs : List D) : ∃ L, RunIs Tryz.prog (csH noW []) [] 1000 3 Tryz.f63 [1, 10, 11, 12] (seqL (seqL tlRv)) (stG [(1, .ptr (some (3, 0)))] (hL [(3, .cells [.lst false n cs])]) 4) L
    [([],
      [],
      .to .normal (sRv2 n cs 0))]
  := RunIs.of (by kernel_rfl) (by kernel_rfl) (by kernel_rfl)
theorem rv_a (n : Nat) (cs : List D) (i : Nat) (t : Tl) : RunE (csH Wrv []) [(13, .give (.bool true)), (15, .give (.fptr t.d)), (21, .give (.bool true))] 3 Tryz.f63 [1, 10, 11, 12] (inner (inner (seqR (seqL tlRv)))) (sRv2 n cs i) [([], [V.bool (decide (Int.ofNat i < Int.ofNat n)) = V.bool true, (0 : Int) ≤ Int.ofNat i ∧ Int.ofNat i < Int.ofNat n, cs.length = n * 258, V.fptr (cellsAt cs (i * 258) 258) = V.fptr t.d, V.bool (!in8 t.x t.y) = V.bool true], .ret (.bool false) (hL []) 3)] := RunIs.of (by kernel_rfl) (by kernel_rfl) (by kernel_rfl)
theorem rv_b (n : Nat) (cs : List D) (i : Nat) (t : Tl) (z : Bool) : RunE (csH (pinN 95 [tlV t.p] (.bool z) Wrv) []) [(13, .give (.bool true)), (15, .give (.fptr t.d)), (21, .give (.bool false)), (26, .give (.bool true))] 3 Tryz.f63 [1, 10, 11, 12] (inner (inner (seqR (seqL tlRv)))) (sRv2 n cs i) [([], [V.bool (decide (Int.ofNat i < Int.ofNat n)) = V.bool true, (0 : Int) ≤ Int.ofNat i ∧ Int.ofNat i < Int.ofNat n, cs.length = n * 258, V.fptr (cellsAt cs (i * 258) 258) = V.fptr t.d, V.bool (!in8 t.x t.y) = V.bool false, pinA [tlV t.p], V.bool (z) = V.bool true], .ret (.bool false) (hL []) 3)] := RunIs.of (by kernel_rfl) (by kernel_rfl) (by kernel_rfl)
theorem rv_c (n : Nat) (cs : List D) (i : Nat) (t : Tl) (z : Bool) (q : Nat → Int) : RunE (csH (pinN 95 [tlV t.p] (.bool z) (pinN 96 [tlV t.p] (tlV q) Wrv)) []) [(13, .give (.bool true)), (15, .give (.fptr t.d)), (21, .give (.bool false)), (26, .give (.bool false)), (34, .give (.bool true))] 3 Tryz.f63 [1, 10, 11, 12] (inner (inner (seqR (seqL tlRv)))) (sRv2 n cs i) [([], [V.bool (decide (Int.ofNat i < Int.ofNat n)) = V.bool true, (0 : Int) ≤ Int.ofNat i ∧ Int.ofNat i < Int.ofNat n, cs.length = n * 258, V.fptr (cellsAt cs (i * 258) 258) = V.fptr t.d, V.bool (!in8 t.x t.y) = V.bool false, pinA [tlV t.p], V.bool (z) = V.bool false, pinA [tlV t.p], V.bool (!eqT q t.p) = V.bool true], .ret (.bool false) (hL []) 3)] := RunIs.of (by kernel_rfl) (by kernel_rfl) (by kernel_rfl)
theorem rv_d (n : Nat) (cs : List D) (j : Nat) (t u : Tl) (z : Bool) (q : Nat → Int) : RunE (csH (pinN 95 [tlV t.p] (.bool z) (pinN 96 [tlV t.p] (tlV q) Wrv)) []) [(13, .give (.bool true)), (15, .give (.fptr t.d)), (21, .give (.bool false)), (26, .give (.bool false)), (34, .give (.bool false)), (37, .give (.bool true)), (41, .give (iW j)), (42, .give (.fptr u.d)), (50, .give (.bool true))] 3 Tryz.f63 [1, 10, 11, 12] (inner (inner (seqR (seqL tlRv)))) (sRv2 n cs (j + 1)) [([], [V.bool (decide (Int.ofNat (j + 1) < Int.ofNat n)) = V.bool true, (0 : Int) ≤ Int.ofNat (j + 1) ∧ Int.ofNat (j + 1) < Int.ofNat n, cs.length = n * 258, V.fptr (cellsAt cs ((j + 1) * 258) 258) = V.fptr t.d, V.bool (!in8 t.x t.y) = V.bool false, pinA [tlV t.p], V.bool (z) = V.bool false, pinA [tlV t.p], V.bool (!eqT q t.p) = V.bool false, V.bool (decide (Int.ofNat (j + 1) > (0 : Int))) = V.bool true, V.int .i64 (IntKind.i64.wrap (Int.ofNat (j + 1) - (1 : Int))) = iW j, (0 : Int) ≤ Int.ofNat j ∧ Int.ofNat j < Int.ofNat n, cs.length = n * 258, V.fptr (cellsAt cs (j * 258) 258) = V.fptr u.d, V.bool (decide (orI (cmpI u.y t.y) (cmpI u.x t.x) ≥ (0 : Int))) = V.bool true], .ret (.bool false) (hL []) 3)] := RunIs.of (by kernel_rfl) (by kernel_rfl) (by kernel_rfl)
theorem rv_e (n : Nat) (cs : List D) (j : Nat) (t u : Tl) (z : Bool) (q : Nat → Int) : RunE (csH (pinN 95 [tlV t.p] (.bool z) (pinN 96 [tlV t.p] (tlV q) Wrv)) []) [(13, .give (.bool true)), (15, .give (.fptr t.d)), (21, .give (.bool false)), (26, .give (.bool false)), (34, .give (.bool false)), (37, .give (.bool true)), (41, .give (iW j)), (42, .give (.fptr u.d)), (50, .give (.bool false)), (51, .give (iW (j + 2)))] 3 Tryz.f63 [1, 10, 11, 12] (inner (inner (seqR (seqL tlRv)))) (sRv2 n cs (j + 1)) [([], [V.bool (decide (Int.ofNat (j + 1) < Int.ofNat n)) = V.bool true, (0 : Int) ≤ Int.ofNat (j + 1) ∧ Int.ofNat (j + 1) < Int.ofNat n, cs.length = n * 258, V.fptr (cellsAt cs ((j + 1) * 258) 258) = V.fptr t.d, V.bool (!in8 t.x t.y) = V.bool false, pinA [tlV t.p], V.bool (z) = V.bool false, pinA [tlV t.p], V.bool (!eqT q t.p) = V.bool false, V.bool (decide (Int.ofNat (j + 1) > (0 : Int))) = V.bool true, V.int .i64 (IntKind.i64.wrap (Int.ofNat (j + 1) - (1 : Int))) = iW j, (0 : Int) ≤ Int.ofNat j ∧ Int.ofNat j < Int.ofNat n, cs.length = n * 258, V.fptr (cellsAt cs (j * 258) 258) = V.fptr u.d, V.bool (decide (orI (cmpI u.y t.y) (cmpI u.x t.x) ≥ (0 : Int))) = V.bool false, V.int .i64 (IntKind.i64.wrap (Int.ofNat (j + 1) + (1 : Int))) = iW (j + 2)], .to .normal (sRv2 n cs (j + 2)))] := RunIs.of (by kernel_rfl) (by kernel_rfl) (by kernel_rfl)
theorem rv_f (n : Nat) (cs : List D) (i : Nat) (t : Tl) (z : Bool) (q : Nat → Int) : RunE (csH (pinN 95 [tlV t.p] (.bool z) (pinN 96 [tlV t.p] (tlV q) Wrv)) []) [(13, .give (.bool true)), (15, .give (.fptr t.d)), (21, .give (.bool false)), (26, .give (.bool false)), (34, .give (.bool false)), (37, .give (.bool false)), (51, .give (iW (i + 1)))] 3 Tryz.f63 [1, 10, 11, 12] (inner (inner (seqR (seqL tlRv)))) (sRv2 n cs i) [([], [V.bool (decide (Int.ofNat i < Int.ofNat n)) = V.bool true, (0 : Int) ≤ Int.ofNat i ∧ Int.ofNat i < Int.ofNat n, cs.length = n * 258, V.fptr (cellsAt cs (i * 258) 258) = V.fptr t.d, V.bool (!in8 t.x t.y) = V.bool false, pinA [tlV t.p], V.bool (z) = V.bool false, pinA [tlV t.p], V.bool (!eqT q t.p) = V.bool false, V.bool (decide (Int.ofNat i > (0 : Int))) = V.bool false, V.int .i64 (IntKind.i64.wrap (Int.ofNat i + (1 : Int))) = iW (i + 1)], .to .normal (sRv2 n cs (i + 1)))] := RunIs.of (by kernel_rfl) (by kernel_rfl) (by kernel_rfl)
theorem rv_x (n : Nat) (cs : List D) (i : Nat) : ∃ L, RunIs Tryz.prog (csH noW []) [(13, .give (.bool false))] 1000 3 Tryz.f63 [1, 10, 11, 12] (inner (inner (seqR (seqL tlRv)))) (sRv2 n cs i) L
    [([],
      [(V.bool (decide (Int.ofNat i < Int.ofNat n)) = V.bool false)],
      .to (.exit 0) (sRv2 n cs i))]
  := RunIs.of (by kernel_rfl) (by kernel_rfl) (by kernel_rfl)
theorem rv_y (n : Nat) (cs : List D) (i : Nat) : ∃ L, RunIs Tryz.prog (csH noW []) [] 1000 3 Tryz.f63 [] (seqR tlRv) (sRv2 n cs i) L
    [([],
      [],
      .ret (.bool true) (hL []) 3)]
  := RunIs.of (by kernel_rfl) (by kernel_rfl) (by kernel_rfl)
end Go.Proofs.YtmjggdmekboefaaGreatDoor
namespace Go.Proofs.YtmjggdmekboefaaGreatDoor
open Go Go.Eng
set_option maxRecDepth 100000
def okV (u : Option Tl) (t : Tl) : Bool := in8 t.x t.y && (!(eqT (clnT t.p) fun _ => 0) && (eqT (clnT t.p) t.p && (match u with | none => true | some u => decide (orI (cmpI u.y t.y) (cmpI u.x t.x) < 0))))
def valV : Option Tl → List Tl → Bool
  | _, [] => true
  | u, t :: l => okV u t && valV (some t) l
def rvF (l : List Tl) : Bool := decide (l.length ≤ 1024) && valV none l
def pvT (l : List Tl) : Nat → Option Tl
  | 0 => none
  | i + 1 => l[i]?
theorem bT {p : Prop} [Decidable p] (h : p) : V.bool (decide p) = V.bool true := congrArg V.bool (decide_eq_true h)
theorem bF {p : Prop} [Decidable p] (h : ¬ p) : V.bool (decide p) = V.bool false := congrArg V.bool (decide_eq_false h)
theorem rvD (l : List Tl) (hl : l.length ≤ 1000000) : DeepTo Tryz.prog 63 [rasV l] (.bool (rvF l)) := by
  refine deepT Tryz.func63 ?_
  by_cases hb : l.length ≤ 1024
  case neg =>
    have e : rvF l = false := by unfold rvF; rw [decide_eq_false hb]; rfl
    rw [e]
    exact retE (noW_ok _) (rv_z _ _) (gone (g0 ⟨fm1 (bT (by simp only [hOn]; omega)), _, _, _, rfl, rfl⟩))
  have e0 : rvF l = valV none l := by unfold rvF; rw [decide_eq_true hb, Bool.true_and]
  rw [e0]
  refine isE1 2 (noW_ok _) (rv_1 l.length (tlD l)) (fm1 (bF (by simp only [hOn]; omega))) ?_
  refine loopF (noW_ok _) 0 _ [1, 10, 11, 12] (l.length - ·) (fun i => i ≤ l.length ∧ valV none l = valV (pvT l i) (l.drop i)) (fun i => sRv2 l.length (tlD l) i) 0 ⟨Nat.zero_le _, rfl⟩ (rv_2 _ _) all_nil .refl fun i ⟨hi, hv⟩ => ?_
  by_cases hlt : i < l.length
  case neg =>
    obtain rfl : i = l.length := by omega
    refine ⟨_, noW_ok _, _, _, _, rv_x _ _ _, gone (g0 ⟨fm1 (bF (by simp only [hOn]; omega)), rfl, retE (noW_ok _) (rv_y _ _ _) (gone (g0 ⟨all_nil, _, _, _, rfl, ?_⟩))⟩)⟩
    rw [hv, List.drop_length]; rfl
  have hd : l.drop i = l[i] :: l.drop (i + 1) := List.drop_eq_getElem_cons hlt
  have hat := tlD_at hlt
  have hlen := tlD_len l
  have hn : l[i]? = some l[i] := List.getElem?_eq_getElem hlt
  generalize l[i] = t at hd hat hn
  rw [hd] at hv
  have hv : valV none l = (okV (pvT l i) t && valV (some t) (l.drop (i + 1))) := hv
  have hT : V.bool (decide (Int.ofNat i < Int.ofNat l.length)) = V.bool true := bT (by simp only [hOn]; omega)
  have bad : okV (pvT l i) t = false → V.bool false = V.bool (valV none l) := fun h => by rw [hv, h]; rfl
  cases h1 : in8 t.x t.y with
  | false => exact ⟨_, Wrv_ok, _, _, _, rv_a _ _ i t, gone (g0 ⟨fm hT (fm (ibd hlt) (fm hlen (fm hat (fm1 (by rw [h1]; rfl))))), bad (by unfold okV; rw [h1]; rfl)⟩)⟩
  | true =>
  cases h2 : eqT (clnT t.p) (fun _ => 0) with
  | true => exact ⟨_, pinK (tzD t.p) Wrv_ok, _, _, _, rv_b _ _ i t _, gone (g0 ⟨fm hT (fm (ibd hlt) (fm hlen (fm hat (fm (by rw [h1]; rfl) (fm rfl (fm1 (congrArg V.bool h2))))))), bad (by unfold okV; rw [h1, h2]; rfl)⟩)⟩
  | false =>
  have X := pinK (tzD t.p) (pinK (tcD t.p) Wrv_ok)
  cases h3 : eqT (clnT t.p) t.p with
  | false => exact ⟨_, X, _, _, _, rv_c _ _ i t _ _, gone (g0 ⟨fm hT (fm (ibd hlt) (fm hlen (fm hat (fm (by rw [h1]; rfl) (fm rfl (fm (congrArg V.bool h2) (fm rfl (fm1 (by rw [h3]; rfl))))))))), bad (by unfold okV; rw [h1, h2, h3]; rfl)⟩)⟩
  | true =>
  cases i with
  | zero =>
    refine ⟨_, X, _, _, _, rv_f _ _ 0 t _ _, gone (g0 ⟨?_, 1, lsub hlt, ⟨hlt, ?_⟩, .refl⟩)⟩
    · repeat' (first | exact all_nil | refine fm ?_ ?_)
      all_goals first
        | exact hT
        | exact ibd hlt
        | exact hlen
        | exact hat
        | rfl
        | exact congrArg V.bool h2
        | (rw [h1]; rfl)
        | (rw [h3]; rfl)
        | exact bF (by decide)
        | exact vsuc (by omega)
    rw [hv]
    have : okV (pvT l 0) t = true := by unfold okV pvT; rw [h1, h2, h3]; rfl
    rw [this, Bool.true_and]
    show _ = valV l[0]? _
    rw [hn]
  | succ j =>
    have hj : j < l.length := by omega
    have hat2 := tlD_at hj
    have hn2 : l[j]? = some l[j] := List.getElem?_eq_getElem hj
    generalize l[j] = u at hat2 hn2
    have hpv : pvT l (j + 1) = some u := hn2
    rw [hpv] at hv bad
    have A : ∀ (o : Bool), V.bool (decide (orI (cmpI u.y t.y) (cmpI u.x t.x) ≥ (0 : Int))) = V.bool o → ∀ p ∈ [V.bool (decide (Int.ofNat (j + 1) < Int.ofNat l.length)) = V.bool true, (0 : Int) ≤ Int.ofNat (j + 1) ∧ Int.ofNat (j + 1) < Int.ofNat l.length, (tlD l).length = l.length * 258, V.fptr (cellsAt (tlD l) ((j + 1) * 258) 258) = V.fptr t.d, V.bool (!in8 t.x t.y) = V.bool false, pinA [tlV t.p], V.bool (eqT (clnT t.p) fun _ => 0) = V.bool false, pinA [tlV t.p], V.bool (!eqT (clnT t.p) t.p) = V.bool false, V.bool (decide (Int.ofNat (j + 1) > (0 : Int))) = V.bool true, V.int .i64 (IntKind.i64.wrap (Int.ofNat (j + 1) - (1 : Int))) = iW j, (0 : Int) ≤ Int.ofNat j ∧ Int.ofNat j < Int.ofNat l.length, (tlD l).length = l.length * 258, V.fptr (cellsAt (tlD l) (j * 258) 258) = V.fptr u.d, V.bool (decide (orI (cmpI u.y t.y) (cmpI u.x t.x) ≥ (0 : Int))) = V.bool o], p := fun o ho =>
      fm hT (fm (ibd hlt) (fm hlen (fm hat (fm (by rw [h1]; rfl) (fm rfl (fm (congrArg V.bool h2) (fm rfl (fm (by rw [h3]; rfl) (fm (bT (by simp only [hOn]; omega)) (fm (ieq_ok (by simp only [hOn]; omega) (by omega)) (fm (ibd hj) (fm hlen (fm hat2 (fm1 ho))))))))))))))
    by_cases ho : orI (cmpI u.y t.y) (cmpI u.x t.x) ≥ 0
    · exact ⟨_, X, _, _, _, rv_d _ _ j t u _ _, gone (g0 ⟨A true (bT ho), bad (by unfold okV; rw [h1, h2, h3]; simp only [Bool.true_and, Bool.not_false]; exact decide_eq_false (by omega))⟩)⟩
    · refine ⟨_, X, _, _, _, rv_e _ _ j t u _ _, gone (g0 ⟨?_, j + 2, by show l.length - (j + 2) < l.length - (j + 1); omega, ⟨hlt, ?_⟩, .refl⟩)⟩
      · clear A
        repeat' (first | exact all_nil | refine fm ?_ ?_)
        all_goals first
          | exact hT
          | exact ibd hlt
          | exact hlen
          | exact hat
          | rfl
          | exact congrArg V.bool h2
          | (rw [h1]; rfl)
          | (rw [h3]; rfl)
          | exact bT (by simp only [hOn]; omega)
          | exact ieq_ok (by simp only [hOn]; omega) (by omega)
          | exact ibd hj
          | exact hat2
          | exact bF ho
          | exact vsuc (by omega)
      · rw [hv]
        have : okV (some u) t = true := by unfold okV; rw [h1, h2, h3]; simp only [Bool.true_and, Bool.not_false]; exact decide_eq_true (by omega)
        rw [this, Bool.true_and]
        show _ = valV l[j + 1]? _
        rw [hn]
end Go.Proofs.YtmjggdmekboefaaGreatDoor
namespace Go.Proofs.YtmjggdmekboefaaGreatDoor
open Go Go.Eng
set_option maxRecDepth 100000
open Sha (gS gR hSR tabs TabsTo sha strs)
def pinB (f0 : FuncId) (args0 : List V) (v : V) (S : CtrW) : CtrW := fun f args h n => match Nat.beq f f0 with
  | true => match tabs h with
    | some (st, rd) => some ([args = args0, st = gS, rd = gR], v, h, n)
    | none => none
  | false => S f args h n
theorem pinB_ok {f0 : FuncId} {args0 : List V} {v : V} {S : CtrW} (hc : TabsTo f0 args0 v) (hS : CtrWOk Tryz.prog S) (hlt : Nat.blt f0 Tryz.prog.funcs.size = true := by kernel_rfl) : CtrWOk Tryz.prog (pinB f0 args0 v S) := by
  intro f args h n A v' h' n' e
  unfold pinB at e
  split at e
  · rename_i hb
    have hb := Nat.eq_of_beq_eq_true hb
    subst hb
    split at e
    case h_2 => cases e
    rename_i st rd ht
    simp only [Option.some.injEq, Prod.mk.injEq] at e
    obtain ⟨rfl, rfl, rfl, rfl⟩ := e
    refine ⟨Nat.le_of_ble_eq_true hlt, fun hA E w args' ra g hd _ => ?_⟩
    obtain rfl : args = args0 := hA _ (by simp)
    obtain rfl : st = gS := hA (st = gS) (by simp)
    obtain rfl : rd = gR := hA (rd = gR) (by simp)
    exact hc E h n w args' ht ra g hd
  · exact hS f args h n A v' h' n' e
theorem tkD (p : Nat → Int) : TabsTo 37 [tlV p] (.str (sha (tileB p))) :=
  Sha.tabs_calls Tryz.func37 (code := cdTk) (by kernel_rfl) (by kernel_rfl) (by kernel_rfl) rfl (TG_mono (retE (R := fun u _ _ => u = .str (sha (tileB p))) (pinK (tbD p) Sha.W5_ok) (tk_1 p (tileB p)) (gone (g0 ⟨fm rfl (fm rfl (fm rfl (fm1 (by unfold tileB strI; rw [List.length_map, tl_len]; decide)))), _, _, _, rfl, rfl⟩))) fun y s h => Sha.RetG_self h)
noncomputable abbrev cdKy : Code := bodyOf Tryz.f10
noncomputable abbrev tlKy : Code := tailN 2 cdKy
def hKy (r : List (Nat × O)) : Tr O := hL ((0, .ints .u32 gS) :: (1, .ints .u32 gR) :: r)
def sKy0 (n : Nat) (cs : List D) (i : Nat) : St := stG [(3, nilS), (7, .lst false n cs), (8, iW n), (9, iW i)] (hKy []) 3
def sKy1 (n : Nat) (cs : List D) (i m : Nat) (ds : List D) : St := stG [(3, .slc (some (3, 0)) m m 1), (7, .lst false n cs), (8, iW n), (9, iW i)] (hKy [(3, .deep ds)]) 4
def sKz : St := stG [(3, nilS), (7, nilS), (8, iX 0), (9, iX 0)] (hKy []) 3
theorem ky_1 (n : Nat) (cs : List D) : ∃ L, RunIs Tryz.prog (csH noW []) [] 1000 3 Tryz.f10 [1, 3] (headN 2 cdKy) (startSt [.agg [.lst false n cs]] (hSR gS gR) 3) L
    [([],
      [],
      .to .normal (stG [(1, .ptr (some (3, 0))), (3, .slc none 0 0 0)] (hL [(0, .ints .u32 gS), (1, .ints .u32 gR), (3, .cells [.lst false n cs])]) 4))]
  := RunIs.of (by kernel_rfl) (by kernel_rfl) (by kernel_rfl)
theorem ky_2 (n : Nat) (cs : List D) : ∃ L, RunIs Tryz.prog (csH (pinN 63 [.agg [.lst false n cs]] (.bool true) noW) []) [] 1000 3 Tryz.f10 [3, 7, 8, 9] (seqL (seqL tlKy)) (stG [(1, .ptr (some (3, 0))), (3, nilS)] (hKy [(3, .cells [.lst false n cs])]) 4) L
    [([],
      [(pinA [.agg [.lst false n cs]])],
      .to .normal (sKy0 n cs 0))]
  := RunIs.of (by kernel_rfl) (by kernel_rfl) (by kernel_rfl)
theorem ky_3 (n : Nat) (cs : List D) : ∃ L, RunIs Tryz.prog (csH (pinN 63 [.agg [.lst false n cs]] (.bool false) noW) []) [] 1000 3 Tryz.f10 [3, 7, 8, 9] (seqL (seqL tlKy)) (stG [(1, .ptr (some (3, 0))), (3, nilS)] (hKy [(3, .cells [.lst false n cs])]) 4) L
    [([],
      [(pinA [.agg [.lst false n cs]])],
      .to .normal (sKz))]
  := RunIs.of (by kernel_rfl) (by kernel_rfl) (by kernel_rfl)
def kyA (t : Tl) : List UInt8 := put4 (IntKind.i64.wrap (t.x + 65536)) ++ put4 (IntKind.i64.wrap (t.y + 65536))
theorem ky_4 (n : Nat) (cs : List D) (i : Nat) (t : Tl) (k : List UInt8) : RunE (csH (pinB 37 [tlV t.p] (.str k) W1) []) [(10, .split), (11, .give (.fptr t.d)), (30, .give (iW (i + 1)))] 3 Tryz.f10 [3, 7, 8, 9] (inner (inner (seqR (seqL tlKy)))) (sKy0 n cs i)
    [([(decide (Int.ofNat i < Int.ofNat n), true)], [(0 : Int) ≤ Int.ofNat i ∧ Int.ofNat i < Int.ofNat n, cs.length = n * 258, V.fptr (cellsAt cs (i * 258) 258) = V.fptr t.d, (put4 (IntKind.i64.wrap (t.x + (65536 : Int)))).length + (put4 (IntKind.i64.wrap (t.y + (65536 : Int)))).length ≤ 9223372036854775807, pinA [tlV t.p], gS = gS, gR = gR, V.int .i64 (IntKind.i64.wrap (Int.ofNat i + (1 : Int))) = iW (i + 1)], .to .normal (stG [(3, .slc (some (3, 0)) 2 2 1), (7, .lst false n cs), (8, iW n), (9, iW (i + 1))] (hKy [(3, .cells [.str (kyA t), .str k])]) 4)),
     ([(decide (Int.ofNat i < Int.ofNat n), false)], [], .to (.exit 0) (sKy0 n cs i))] := RunIs.of (by kernel_rfl) (by kernel_rfl) (by kernel_rfl)
theorem ky_5 (n : Nat) (cs : List D) (i m : Nat) (ds : List D) (t : Tl) (k : List UInt8) : RunE (csH (pinB 37 [tlV t.p] (.str k) W1) []) [(10, .split), (11, .give (.fptr t.d)), (30, .give (iW (i + 1)))] 3 Tryz.f10 [3, 7, 8, 9] (inner (inner (seqR (seqL tlKy)))) (sKy1 n cs i m ds)
    [([(decide (Int.ofNat i < Int.ofNat n), true)], [(0 : Int) ≤ Int.ofNat i ∧ Int.ofNat i < Int.ofNat n, cs.length = n * 258, V.fptr (cellsAt cs (i * 258) 258) = V.fptr t.d, (put4 (IntKind.i64.wrap (t.x + (65536 : Int)))).length + (put4 (IntKind.i64.wrap (t.y + (65536 : Int)))).length ≤ 9223372036854775807, pinA [tlV t.p], gS = gS, gR = gR, 0 + m * 1 ≤ ds.length, 0 < 2, roomy (m + 2) 1 16 = true, V.int .i64 (IntKind.i64.wrap (Int.ofNat i + (1 : Int))) = iW (i + 1)], .to .normal (sKy1 n cs (i + 1) (m + 2) (List.take (m * 1) (List.drop 0 ds) ++ [.str (kyA t), .str k]))),
     ([(decide (Int.ofNat i < Int.ofNat n), false)], [], .to (.exit 0) (sKy1 n cs i m ds))] := RunIs.of (by kernel_rfl) (by kernel_rfl) (by kernel_rfl)
def sKe (n : Nat) (cs : List D) (i m : Nat) (ds : List D) : St := stG [(3, .lst false m ds), (7, .lst false n cs), (8, iW n), (9, iW i)] (hKy []) 3
theorem ky_6 (n : Nat) (cs : List D) (i m : Nat) (ds : List D) : ∃ L, RunIs Tryz.prog (csH Sha.W6 []) [] 1000 3 Tryz.f10 [] (seqR tlKy) (sKe n cs i m ds) L
    [([],
      [(gS = gS), (gR = gR), (ds = strs (Sha.strL ds)), (m = (Sha.strL ds).length), (0 < m), (m ≤ 1000000000), ((Sha.joinB (Sha.strL ds)).length ≤ 1000000000)],
      .ret (.str (sha (Sha.joinB (Sha.strL ds)))) (hL [(0, .ints .u32 gS), (1, .ints .u32 gR)]) 3)]
  := RunIs.of (by kernel_rfl) (by kernel_rfl) (by kernel_rfl)
theorem ky_7 (n : Nat) (cs : List D) (i : Nat) (v : List UInt8) : ∃ L, RunIs Tryz.prog (csH (pinB 8 [nilS] (.str v) noW) []) [] 1000 3 Tryz.f10 [] (seqR tlKy) (sKy0 n cs i) L
    [([],
      [([] ++ [nilS] ++ [] = [nilS]), (gS = gS), (gR = gR)],
      .ret (.str v) (hL [(0, .ints .u32 gS), (1, .ints .u32 gR)]) 3)]
  := RunIs.of (by kernel_rfl) (by kernel_rfl) (by kernel_rfl)
theorem ky_8 (v : List UInt8) : ∃ L, RunIs Tryz.prog (csH (pinB 8 [nilS] (.str v) noW) []) [] 1000 3 Tryz.f10 [] (seqR tlKy) (sKz) L
    [([],
      [([] ++ [nilS] ++ [] = [nilS]), (gS = gS), (gR = gR)],
      .ret (.str v) (hL [(0, .ints .u32 gS), (1, .ints .u32 gR)]) 3)]
  := RunIs.of (by kernel_rfl) (by kernel_rfl) (by kernel_rfl)
theorem ky_9 (n : Nat) : ∃ L, RunIs Tryz.prog (csH noW []) [] 1000 3 Tryz.f10 [3, 7, 8, 9] (inner (inner (seqR (seqL tlKy)))) (sKz) L
    [([],
      [],
      .to (.exit 0) (sKz))]
  := RunIs.of (by kernel_rfl) (by kernel_rfl) (by kernel_rfl)
noncomputable abbrev cdJo : Code := bodyOf Tryz.f8
theorem ky_0 (n : Nat) : ∃ L, RunIs Tryz.prog (csH Sha.W5 []) [] 1000 3 Tryz.f8 [] (cdJo) (startSt [nilS] (hSR gS gR) 3) L
    [([],
      [(gS = gS), (gR = gR), (0 ≤ 1000000000)],
      .ret (.str [227, 176, 196, 66, 152, 252, 28, 20, 154, 251, 244, 200, 153, 111, 185, 36, 39, 174, 65, 228, 100, 155, 147, 76, 164, 149, 153, 27, 120, 82, 184, 85]) (hL [(0, .ints .u32 gS), (1, .ints .u32 gR)]) 3)]
  := RunIs.of (by kernel_rfl) (by kernel_rfl) (by kernel_rfl)
end Go.Proofs.YtmjggdmekboefaaGreatDoor
namespace Go.Proofs.YtmjggdmekboefaaGreatDoor
open Go Go.Eng
set_option maxRecDepth 100000
open Sha (gS gR hSR tabs TabsTo sha strs joinB strL strL_strs)
def fzG (n0 : Nat) (ms live : List Nat) (s : St) : Option (List Prop × St) := match fzS ms s with
  | some (A, s1) => match normG n0 live s1 with
    | some S => some (A, S)
    | none => none
  | none => none
theorem Goes.fzG {P : Program} {n0 N : Nat} {s S : St} (ms live : List Nat) {A : List Prop} (e : fzG n0 ms live s = some (A, S)) (hA : ∀ x ∈ A, x) : Goes P n0 N s S := by
  unfold YtmjggdmekboefaaGreatDoor.fzG at e
  split at e
  case h_2 => cases e
  rename_i A1 s1 h1
  split at e
  case h_2 => cases e
  rename_i S1 h2
  simp only [Option.some.injEq, Prod.mk.injEq] at e
  obtain ⟨rfl, rfl⟩ := e
  exact (Goes.frz ms h1 hA).trans (.norm h2)
theorem roomy_k {k : Nat} (h : k ≤ 1000000000) : roomy k 1 16 = true := by
  unfold roomy
  exact decide_eq_true ⟨by omega, by omega⟩
theorem joD0 : TabsTo 8 [nilS] (.str (sha [])) :=
  Sha.tabs_calls Tryz.func8 (code := cdJo) (by kernel_rfl) (by kernel_rfl) (by kernel_rfl) rfl (TG_mono (retE (R := fun u _ _ => u = .str (sha [])) Sha.W5_ok (ky_0 0) (gone (g0 ⟨by
    repeat' (first | exact all_nil | refine fm ?_ ?_)
    all_goals first | rfl | decide, _, _, _, rfl, rfl⟩))) fun y s h => Sha.RetG_self h)
def kyL (l : List Tl) : List (List UInt8) := (l.map fun t => [kyA t, sha (tileB t.p)]).flatten
def keyR (l : List Tl) : List UInt8 := sha (joinB (if rvF l = true then kyL l else []))
theorem kyL_step {l : List Tl} {i : Nat} {t : Tl} (h : l[i]? = some t) : kyL (l.take (i + 1)) = kyL (l.take i) ++ [kyA t, sha (tileB t.p)] := by
  unfold kyL
  rw [List.take_add_one, h]; simp
theorem kyL_len : ∀ l : List Tl, (kyL l).length = 2 * l.length
  | [] => rfl
  | t :: l => by
    have := kyL_len l
    unfold kyL at this ⊢
    simp only [List.map_cons, List.flatten_cons, List.length_append, List.length_cons, List.length_nil, this]; omega
def sKyi (l : List Tl) : Nat → St
  | 0 => sKy0 l.length (tlD l) 0
  | i + 1 => sKy1 l.length (tlD l) (i + 1) (2 * (i + 1)) (strs (kyL (l.take (i + 1))))
theorem strs_app (a b : List (List UInt8)) : strs (a ++ b) = strs a ++ strs b := List.map_append ..
theorem strs_len (a : List (List UInt8)) : (strs a).length = a.length := List.length_map ..
theorem keyT (l : List Tl) (hl : l.length ≤ 1000000) (hJ : (joinB (kyL l)).length ≤ 1000000000) : TG Tryz.prog 3 Tryz.f10.ntmps cdKy (startSt [rasV l] (hSR gS gR) 3) (RetG Tryz.prog 3 Tryz.f10 fun u _ _ => u = .str (keyR l)) := by
  refine isE1 2 (noW_ok _) (ky_1 l.length (tlD l)) all_nil ?_
  have hD := rvD l hl
  cases hv : rvF l with
  | false =>
    rw [hv] at hD
    have ek : keyR l = sha [] := by unfold keyR; rw [hv]; rfl
    rw [ek]
    refine loopF (pinK hD (noW_ok _)) 0 _ [3, 7, 8, 9] (fun _ : Nat => 0) (fun _ => True) (fun _ => sKz) 0 trivial (ky_3 _ _) (fm1 rfl) .refl fun _ _ => ?_
    exact ⟨_, noW_ok _, _, _, _, ky_9 0, gone (g0 ⟨all_nil, rfl, retE (pinB_ok joD0 (noW_ok _)) (ky_8 _) (gone (g0 ⟨fm rfl (fm rfl (fm1 rfl)), _, _, _, rfl, rfl⟩))⟩)⟩
  | true =>
    rw [hv] at hD
    have ek : keyR l = sha (joinB (kyL l)) := by unfold keyR; rw [hv]; rfl
    rw [ek]
    refine loopF (pinK hD (noW_ok _)) 0 _ [3, 7, 8, 9] (l.length - ·) (· ≤ l.length) (sKyi l) 0 (Nat.zero_le _) (ky_2 _ _) (fm1 rfl) .refl fun i hi => ?_
    have hput : ∀ t : Tl, (put4 (IntKind.i64.wrap (t.x + (65536 : Int)))).length + (put4 (IntKind.i64.wrap (t.y + (65536 : Int)))).length ≤ 9223372036854775807 := fun t => by
      show 4 + 4 ≤ _; decide
    have hlen := tlD_len l
    have ht : ∀ h : i < l.length, ∃ t, l[i]? = some t ∧ V.fptr (cellsAt (tlD l) (i * 258) 258) = V.fptr t.d := fun h => ⟨_, List.getElem?_eq_getElem h, tlD_at h⟩
    obtain ⟨t, htt⟩ : ∃ t : Tl, ∀ h : i < l.length, l[i]? = some t ∧ V.fptr (cellsAt (tlD l) (i * 258) 258) = V.fptr t.d := by
      by_cases h : i < l.length
      · obtain ⟨t, h1⟩ := ht h; exact ⟨t, fun _ => h1⟩
      · exact ⟨⟨0, 0, fun _ => 0⟩, fun q => absurd q h⟩
    have X := pinB_ok (tkD t.p) W1_ok
    cases i with
    | zero =>
      refine ⟨_, X, _, _, _, ky_4 _ _ 0 t _, gcons (g1 fun h => ?_) (gone (g1 fun h => ⟨all_nil, rfl, ?_⟩))⟩
      · have hlt := dlt h
        obtain ⟨h1, h2⟩ := htt hlt
        refine ⟨?_, 1, lsub hlt, hlt, ?_⟩
        · exact fm (ibd hlt) (fm hlen (fm h2 (fm (hput t) (fm rfl (fm rfl (fm rfl (fm1 (vsuc (by omega)))))))))
        show Goes _ _ _ _ (sKy1 l.length (tlD l) (0 + 1) (2 * (0 + 1)) (strs (kyL (l.take (0 + 1)))))
        rw [kyL_step h1]
        exact .deep [3] (by kernel_rfl)
      · have := dge h
        have e : l = [] := List.length_eq_zero_iff.1 (by omega)
        subst e
        exact retE (pinB_ok joD0 (noW_ok _)) (ky_7 _ _ _ _) (gone (g0 ⟨fm rfl (fm rfl (fm1 rfl)), _, _, _, rfl, rfl⟩))
    | succ j =>
      have hk := kyL_len (l.take (j + 1))
      rw [List.length_take] at hk
      refine ⟨_, X, _, _, _, ky_5 _ _ (j + 1) (2 * (j + 1)) (strs (kyL (l.take (j + 1)))) t _, gcons (g1 fun h => ?_) (gone (g1 fun h => ⟨all_nil, rfl, ?_⟩))⟩
      · have hlt := dlt h
        obtain ⟨h1, h2⟩ := htt hlt
        refine ⟨?_, j + 2, by show l.length - (j + 2) < l.length - (j + 1); omega, hlt, ?_⟩
        · repeat' (first | exact all_nil | refine fm ?_ ?_)
          all_goals first
            | exact ibd hlt
            | exact hlen
            | exact h2
            | exact hput t
            | exact rfl
            | exact roomy_k (by omega)
            | exact vsuc (by omega)
            | (rw [strs_len]; omega)
            | decide
        show Goes _ _ _ _ (sKy1 l.length (tlD l) (j + 1 + 1) (2 * (j + 1 + 1)) (strs (kyL (l.take (j + 1 + 1)))))
        rw [kyL_step h1, strs_app, List.drop_zero, List.take_of_length_le (by rw [strs_len]; omega)]
        exact .refl
      · have hn : j + 1 = l.length := by have := dge h; omega
        rw [hn, List.take_length] at *
        have hq := strL_strs (kyL l)
        refine Goes.fzG [3] [3, 7, 8, 9] (S := sKe l.length (tlD l) l.length (2 * l.length) (strs (kyL l))) (A := [(strs (kyL l)).length = 2 * l.length * 1]) (by kernel_rfl) (fm1 (by rw [strs_len, kyL_len]; omega)) _ _ ?_
        refine retE Sha.W6_ok (ky_6 _ _ _ _ _) (gone (g0 ⟨?_, _, _, _, rfl, by rw [hq]⟩))
        rw [hq]
        exact fm rfl (fm rfl (fm rfl (fm (kyL_len l).symm (fm (by omega) (fm (by omega) (fm1 hJ))))))
theorem keyD (l : List Tl) (hl : l.length ≤ 1000000) (hJ : (joinB (kyL l)).length ≤ 1000000000) : TabsTo 10 [rasV l] (.str (keyR l)) :=
  Sha.tabs_calls Tryz.func10 (code := cdKy) (by kernel_rfl) (by kernel_rfl) (by kernel_rfl) rfl (TG_mono (keyT l hl hJ) fun y s h => Sha.RetG_self h)
end Go.Proofs.YtmjggdmekboefaaGreatDoor
namespace Go.Proofs.YtmjggdmekboefaaGreatDoor
open Go Go.Eng
set_option maxRecDepth 100000
open Sha (gS gR hSR tabs TabsTo sha strs joinB strL strL_strs)
theorem good_phi {E : Env} {h : Tr O} {w : World} {φ : Nat → Option (Array Value)} (g : Eng.Good E h w) (hro : ∀ m, ¬ wlive h m) (hint : ∀ m o, h.get m = some o → ∃ k ks, o = .ints k ks) (hok : FzOk φ w) : Eng.Good ⟨E.ι, E.β, φ⟩ h w := by
  refine ⟨fun m o hm => ?_, fun m m' b s s' hne hm hm' e1 e2 => g.inj m m' b s s' hne hm hm' e1 e2, g.bnd, g.glob, fun b c q => ⟨hok b c q, fun m s hm => absurd hm (hro m)⟩⟩
  obtain ⟨b, s, h1, h2⟩ := g.rel m o hm
  obtain ⟨k, ks, rfl⟩ := hint m o hm
  exact ⟨b, s, h1, h2⟩
theorem hSR_ints (st rd : List Int) : ∀ m o, (hSR st rd).get m = some o → ∃ k ks, o = .ints k ks := by
  intro m o hm
  rcases hLi_get [(0, .ints .u32 st), (1, .ints .u32 rd)] .nil m o (fun q hq => by
    simp only [List.mem_cons, List.not_mem_nil, or_false] at hq
    rcases hq with rfl | rfl <;> exact Nat.le_of_ble_eq_true rfl) hm with h1 | h1
  · simp [Tr.get] at h1
  · simp only [List.mem_cons, Prod.mk.injEq, List.not_mem_nil, or_false] at h1
    rcases h1 with ⟨_, rfl⟩ | ⟨_, rfl⟩ <;> exact ⟨_, _, rfl⟩
def thawT (sp : List D → Option (List Prop × V)) : List V → Tr O → Nat → Option (List Prop × V × Tr O × Nat) := fun args h n => match tabs h, fzVs (rowH h) args with
  | some (st, rd), some (A, a2) => match dargs a2 with
    | some ds => match sp ds with
      | some (B, v) => match v.free with
        | true => some ((st = gS) :: (rd = gR) :: (A ++ B), v, h, n)
        | false => none
      | none => none
    | none => none
  | _, _ => none
theorem thawT_ok {f : FuncId} {sp : List D → Option (List Prop × V)} (hlt : Nat.blt f Tryz.prog.funcs.size = true) (hp : ∀ ds A v, sp ds = some (A, v) → (∀ a ∈ A, a) → ∀ E w args', vrels E (ds.map D.toV) args' → Eng.Good E (hSR gS gR) w → Dom E 3 → Calls Tryz.prog f args'.toArray w (fun e w' => (∃ E, outrel E (.ret v) e) ∧ RowKit.Below w.heap.size w w')) : OneW Tryz.prog f (thawT sp) := by
  refine ⟨Nat.le_of_ble_eq_true hlt, fun args h n A v h2 n2 e hA E w args' ra g hd hc => ?_⟩
  unfold thawT at e
  split at e
  case h_2 => cases e
  rename_i st rd A1 a2 ht e1
  split at e
  case h_2 => cases e
  rename_i ds e2
  split at e
  case h_2 => cases e
  rename_i B v' e3
  split at e
  case h_2 => cases e
  rename_i hf
  simp only [Option.some.injEq, Prod.mk.injEq] at e
  obtain ⟨rfl, rfl, rfl, rfl⟩ := e
  obtain rfl : st = gS := hA _ (by simp)
  obtain rfl : rd = gR := hA (rd = gR) (by simp)
  obtain ⟨φ, hok, hsub, ra2⟩ := thaw_env g e1 (fun a ha => hA a (by simp [ha])) ra
  obtain ⟨h0, h1⟩ := Sha.tabs_some ht
  obtain ⟨g2, d2, n2⟩ := Sha.tabs_rows g h0 h1
  have ra3 := dargs_rel e2 ra2
  have ra4 : vrels ⟨(E.rows Sha.nsG).ι, (E.rows Sha.nsG).β, φ⟩ (ds.map D.toV) args' := deeps_rel (E := ⟨E.ι, E.β, φ⟩) (E' := ⟨(E.rows Sha.nsG).ι, (E.rows Sha.nsG).β, φ⟩) (fun _ _ q => q) _ _ (map_deep ds) ra3
  exact (hp ds B v' e3 (fun a ha => hA a (by simp [ha])) _ w args' ra4 (good_phi g2 n2 (hSR_ints _ _) hok) d2).mono fun en w' ⟨ho, b⟩ => cpost_of g hd hf ho b
noncomputable abbrev cdDk : Code := bodyOf Tryz.f7
theorem one_Jt : OneW Tryz.prog 8 (thawT Sha.specJo) := by
  refine thawT_ok (by kernel_rfl) fun ds A v e hA E w args' ra g hd => ?_
  unfold Sha.specJo at e
  split at e
  case h_2 => cases e
  rename_i n cs
  obtain ⟨rfl, rfl⟩ := sm e
  have e1 : cs = strs (strL cs) := hA _ (by simp)
  have e2 : n = (strL cs).length := hA (n = (strL cs).length) (by simp)
  have e3 : 0 < n := hA (0 < n) (by simp)
  have e4 : n ≤ 1000000000 := hA (n ≤ 1000000000) (by simp)
  have e5 : (joinB (strL cs)).length ≤ 1000000000 := hA ((joinB (strL cs)).length ≤ 1000000000) (by simp)
  generalize strL cs = ps at *
  subst e1 e2
  have n2 : ∀ m, ¬ wlive (hSR gS gR) m := by
    rintro m ⟨o, h1, h2⟩
    obtain ⟨k, ks, rfl⟩ := hSR_ints _ _ m o h1
    cases h2
  exact calls_pure Sha.mo Sha.po Tryz.func8 (by kernel_rfl) (by kernel_rfl) (Sha.tgJo false ps e3 e4 e5) ra g hd n2
theorem joinB_len : ∀ ps : List (List UInt8), (∀ p ∈ ps, p.length ≤ 64) → (joinB ps).length ≤ 72 * ps.length
  | [], _ => Nat.le_refl _
  | p :: ps, h => by
    have h1 := joinB_len ps fun q hq => h q (List.mem_cons_of_mem _ hq)
    have h2 := h p (List.mem_cons_self ..)
    have e : joinB (p :: ps) = Sha.put8 (Int.ofNat p.length) ++ p ++ joinB ps := by unfold Sha.joinB; rw [List.flatMap_cons]
    rw [e, List.length_append, List.length_append, Sha.put8_len, List.length_cons]; omega
theorem kyL_small (l : List Tl) : ∀ p ∈ kyL l, p.length ≤ 64 := by
  intro p hp
  unfold kyL at hp
  rw [List.mem_flatten] at hp
  obtain ⟨q, hq, hp⟩ := hp
  obtain ⟨t, _, rfl⟩ := List.mem_map.1 hq
  simp only [List.mem_cons, List.not_mem_nil, or_false] at hp
  rcases hp with rfl | rfl
  · show 4 + 4 ≤ 64; decide
  · rw [Sha.sha_len]; decide
theorem kyB_len (l : List Tl) (h : l.length ≤ 1000000) : (joinB (kyL l)).length ≤ 1000000000 := by
  have := joinB_len (kyL l) (kyL_small l)
  rw [kyL_len] at this
  omega
noncomputable def rsL (cs : List D) : List Tl := @dite _ (∃ l, cs = tlD l) (Classical.propDecidable _) (fun h => Classical.choose h) (fun _ => [])
theorem rsL_tlD (l : List Tl) : tlD (rsL (tlD l)) = tlD l := by
  have h : ∃ k, tlD l = tlD k := ⟨l, rfl⟩
  unfold rsL
  rw [dif_pos h]
  exact (Classical.choose_spec h).symm
theorem rsL_len (l : List Tl) : (rsL (tlD l)).length = l.length := by
  have h := congrArg List.length (rsL_tlD l)
  rw [tlD_len, tlD_len] at h
  omega
noncomputable def specKy : List D → Option (List Prop × V)
  | [.agg [.lst n cs]] => some ([cs = tlD (rsL cs), n = (rsL cs).length, n ≤ 1000000], .str (keyR (rsL cs)))
  | _ => none
theorem one_Ky : OneW Tryz.prog 10 (Sha.tW specKy) := by
  refine Sha.tW_ok (Nat.le_of_ble_eq_true (by kernel_rfl)) fun ds A v e hA => ?_
  unfold specKy at e
  split at e
  case h_2 => cases e
  rename_i n cs
  obtain ⟨rfl, rfl⟩ := sm e
  have e1 : cs = tlD (rsL cs) := hA _ (by simp)
  have e2 : n = (rsL cs).length := hA (n = (rsL cs).length) (by simp)
  have e3 : n ≤ 1000000 := hA (n ≤ 1000000) (by simp)
  generalize rsL cs = l at *
  subst e1 e2
  exact keyD l e3 (kyB_len l e3)
noncomputable abbrev Wdk : CtrW := addW 10 (Sha.tW specKy) (addW 8 (thawT Sha.specJo) noW)
theorem Wdk_ok : CtrWOk Tryz.prog Wdk := addW_ok one_Ky (addW_ok one_Jt (noW_ok _))
theorem dk_1 (l : Lay) (h : List UInt8) : ∃ L, RunIs Tryz.prog (csH (pinN 9 [l.v] (.str h) Wdk) []) [] 1000 3 Tryz.f7 [] (cdDk) (startSt [l.v] (hSR gS gR) 3) L
    [([],
      [(pinA [l.v]), (gS = gS), (gR = gR), (tlD l.con = tlD (rsL (tlD l.con))), (l.con.length = (rsL (tlD l.con)).length), (l.con.length ≤ 1000000), (gS = gS), (gR = gR), (tlD l.msk = tlD (rsL (tlD l.msk))), (l.msk.length = (rsL (tlD l.msk)).length), (l.msk.length ≤ 1000000), (gS = gS), (gR = gR), ([D.str h, D.str (keyR (rsL (tlD l.con))), D.str (keyR (rsL (tlD l.msk)))].length = 3), ([D.str h, D.str (keyR (rsL (tlD l.con))), D.str (keyR (rsL (tlD l.msk)))] = strs (strL [D.str h, D.str (keyR (rsL (tlD l.con))), D.str (keyR (rsL (tlD l.msk)))])), (3 = (strL [D.str h, D.str (keyR (rsL (tlD l.con))), D.str (keyR (rsL (tlD l.msk)))]).length), (0 < 3), (3 ≤ 1000000000), ((joinB (strL [D.str h, D.str (keyR (rsL (tlD l.con))), D.str (keyR (rsL (tlD l.msk)))])).length ≤ 1000000000)],
      .ret (.str (sha (joinB (strL [D.str h, D.str (keyR (rsL (tlD l.con))), D.str (keyR (rsL (tlD l.msk)))])))) (hL [(0, .ints .u32 gS), (1, .ints .u32 gR)]) 3)]
  := RunIs.of (by kernel_rfl) (by kernel_rfl) (by kernel_rfl)
end Go.Proofs.YtmjggdmekboefaaGreatDoor
namespace Go.Proofs.YtmjggdmekboefaaGreatDoor
open Go Go.Eng
set_option maxRecDepth 100000
open Sha (gS gR hSR tabs TabsTo sha strs joinB strL strL_strs)
noncomputable def retIs (cf : CallF) (x : FuncId × List V × V) : Bool :=
  match cf x.1 x.2.1 .nil gN with
  | some (.ret u, _, _) => V.beq u x.2.2
  | _ => false
noncomputable def specGood (cf : CallF) (x : FuncId × List V × V) : Bool := (Nat.blt x.1 Tryz.prog.funcs.size && V.frees x.2.1) && (x.2.2.free && retIs cf x)
theorem spec_of {cf : CallF} (hc : CallOk Tryz.prog cf) {x : FuncId × List V × V} (h : specGood cf x = true) : SpecOk Tryz.prog x := by
  simp only [specGood, Bool.and_eq_true, retIs] at h
  obtain ⟨⟨h0, h1⟩, h2, h3⟩ := h
  split at h3
  · rename_i u h' n' e
    rw [beq_eq _ _ h3] at e
    exact ⟨Nat.le_of_ble_eq_true h0, h1, h2, cf, h', n', hc, e⟩
  · cases h3
theorem san : SpecOk Tryz.prog (5, [], .bool true) := spec_of (call_sound' (F := 1000) mo po 60) (by kernel_rfl)
theorem mT_ok : CtrWOk Tryz.prog (memoW [(5, [], .bool true)]) := memoW_ok fun x hx => by
  obtain rfl := List.mem_singleton.1 hx
  exact san
structure smL (l : Lay) : Prop where
  nm : l.nm.length ≤ 1000
  kids : l.kids.length ≤ 1000
  ker : l.f.ker.length ≤ 1000
  cu : l.f.cu.length ≤ 1000
  pth : l.pth.length ≤ 1000
theorem smL.ok {l : Lay} (h : smL l) : okL l := by
  obtain ⟨h1, h2, h3, h4, h5⟩ := h
  exact ⟨by omega, by omega, by omega, by omega, by omega⟩
theorem headF_sm (l : Lay) (h : smL l) : 0 < (headF l).length ∧ (headF l).length ≤ 100000 := by
  have a1 := varB_len l.id
  have a2 := numsB_len l.kids
  have a3 := bytesF_len l.f
  have a4 := ptsB_len l.pth
  have a5 := (varB_len l.kd).2
  have a6 := (varB_len (Int.ofNat l.nm.length)).2
  have a7 := (varB_len l.op).2
  have a8 := (varB_len l.md).2
  have a9 := (varB_len l.sp).2
  have b1 := (varB_len (Int.ofNat l.kids.length)).2
  have b2 := (varB_len l.of).2
  have b3 := (varB_len (Int.ofNat l.pth.length)).2
  have c1 := (varB_len l.pl.a).2
  have c2 := (varB_len l.pl.b).2
  have c3 := (varB_len l.pl.c).2
  have c4 := (varB_len l.pl.d).2
  have c5 := (varB_len l.pl.e).2
  have c6 := (varB_len l.pl.f).2
  have c7 := (varB_len l.pl.n).2
  have d1 := h.nm
  have d2 := h.kids
  have d3 := h.ker
  have d4 := h.cu
  have d5 := h.pth
  have p1 : (put1 (flg l.hid l.clip l.hm)).length = 1 := rfl
  have p2 : (fiB l.fi).length = 4 := rfl
  unfold headF textB plcB
  simp only [List.length_append]
  omega
theorem mdF_len (s : List Int) : (mdF s).length = s.length + 1 := by
  unfold mdF
  split <;> simp [cum_len]
theorem mk13_sm (s : List Int) (hs : s.length ≤ 12) : (mk13 s).ker.length ≤ 1000 ∧ (mk13 s).cu.length ≤ 1000 := by
  have h1 := f12_in s 1
  have ht := tm_in h1.1 (d := 3) (by decide)
  unfold mk13
  repeat' split
  all_goals first
    | exact ⟨Nat.zero_le _, Nat.zero_le _⟩
    | (refine ⟨?_, Nat.zero_le _⟩
       rw [kerF_len]
       have : ((f12 s 1).tmod 3).toNat ≤ 2 := by omega
       have := Nat.mul_le_mul (show 2 * ((f12 s 1).tmod 3).toNat + 1 ≤ 5 by omega) (show 2 * ((f12 s 1).tmod 3).toNat + 1 ≤ 5 by omega)
       omega)
    | (refine ⟨Nat.zero_le _, ?_⟩
       show (mdF (s.drop 1)).length ≤ 1000
       rw [mdF_len, List.length_drop]; omega)
theorem layF_sm (s : S8) : smL (layF s) := by
  refine ⟨?_, Nat.zero_le _, ?_, ?_, ?_⟩
  · show (nmF s.s1).length ≤ 1000
    unfold nmF
    rw [List.length_drop, List.length_take]
    simp only [List.length_cons, List.length_nil]; omega
  · show (if kdF s = 3 then mk13 (l12 s) else zFL).ker.length ≤ 1000
    split
    · exact (mk13_sm (l12 s) (Nat.le_refl 12)).1
    · exact Nat.zero_le _
  · show (if kdF s = 3 then mk13 (l12 s) else zFL).cu.length ≤ 1000
    split
    · exact (mk13_sm (l12 s) (Nat.le_refl 12)).2
    · exact Nat.zero_le _
  · show (if kdF s = 5 then ptF s.s6 s.s7 (cn5 s) else []).length ≤ 1000
    split
    · unfold ptF cn5
      rw [List.length_map, List.length_range]
      have : (BitVec.ofInt 64 s.s5 &&& BitVec.ofInt 64 (3 : Int)).toNat ≤ 3 := by
        rw [BitVec.toNat_and]; exact Nat.and_le_right
      omega
    · exact Nat.zero_le _
noncomputable def dkF (l : Lay) : List UInt8 := sha (joinB (strL [D.str (headF l), D.str (keyR (rsL (tlD l.con))), D.str (keyR (rsL (tlD l.msk)))]))
theorem keyR_len (l : List Tl) : (keyR l).length = 32 := rfl
theorem j3_len (h : List UInt8) (a b : List Tl) (hh : h.length ≤ 100000) : (joinB (strL [D.str h, D.str (keyR a), D.str (keyR b)])).length ≤ 1000000000 := by
  show (joinB [h, keyR a, keyR b]).length ≤ 1000000000
  have e : joinB [h, keyR a, keyR b] = Sha.put8 (Int.ofNat h.length) ++ h ++ (Sha.put8 (Int.ofNat (keyR a).length) ++ keyR a ++ (Sha.put8 (Int.ofNat (keyR b).length) ++ keyR b ++ [])) := by
    unfold Sha.joinB
    simp only [List.flatMap_cons, List.flatMap_nil]
  rw [e]
  simp only [List.length_append, Sha.put8_len, keyR_len, List.length_nil]; omega
theorem dkD (l : Lay) (h : smL l) (hc : l.con.length ≤ 1000000) (hm : l.msk.length ≤ 1000000) : TabsTo 7 [l.v] (.str (dkF l)) := by
  have hd := headD l h.ok
  have hh := (headF_sm l h).2
  refine Sha.tabs_calls Tryz.func7 (code := cdDk) (by kernel_rfl) (by kernel_rfl) (by kernel_rfl) rfl (TG_mono (retE (R := fun u _ _ => u = .str (dkF l)) (pinK hd Wdk_ok) (dk_1 l (headF l)) (gone (g0 ⟨?_, _, _, _, rfl, rfl⟩))) fun y s h => Sha.RetG_self h)
  repeat' (first | exact all_nil | refine fm ?_ ?_)
  all_goals first
    | exact (rsL_tlD _).symm
    | exact (rsL_len _).symm
    | exact hc
    | exact hm
    | exact j3_len _ _ _ hh
    | exact rfl
    | decide
noncomputable abbrev cdLk : Code := bodyOf Tryz.f3
theorem lk_1 (s : S8) (l : Lay) (h k : List UInt8) : RunE (csH (pinN 6 [.agg s.cs] l.v (pinB 7 [l.v] (.str k) (pinN 9 [l.v] (.str h) (addW 10 (Sha.tW specKy) (addW 8 (thawT Sha.specJo) (memoW [(5, [], .bool true)])))))) []) [(17, .give (.bool true)), (32, .give (.bool true))] 3 Tryz.f3 [] cdLk (startSt [.agg s.cs] (hSR gS gR) 3)
    [([], [pinA [.agg s.cs], pinA [.agg s.cs], pinA [l.v], gS = gS, gR = gR, pinA [l.v], gS = gS, gR = gR, V.bool (beqB k k) = V.bool true, pinA [l.v], gS = gS, gR = gR, pinA [l.v], gS = gS, gR = gR, tlD l.con = tlD (rsL (tlD l.con)), l.con.length = (rsL (tlD l.con)).length, l.con.length ≤ 1000000, gS = gS, gR = gR, tlD l.msk = tlD (rsL (tlD l.msk)), l.msk.length = (rsL (tlD l.msk)).length, l.msk.length ≤ 1000000, gS = gS, gR = gR, [D.str h, D.str (keyR (rsL (tlD l.con))), D.str (keyR (rsL (tlD l.msk)))].length = 3, [D.str h, D.str (keyR (rsL (tlD l.con))), D.str (keyR (rsL (tlD l.msk)))] = strs (strL [D.str h, D.str (keyR (rsL (tlD l.con))), D.str (keyR (rsL (tlD l.msk)))]), 3 = (strL [D.str h, D.str (keyR (rsL (tlD l.con))), D.str (keyR (rsL (tlD l.msk)))]).length, 0 < 3, 3 ≤ 1000000000, (joinB (strL [D.str h, D.str (keyR (rsL (tlD l.con))), D.str (keyR (rsL (tlD l.msk)))])).length ≤ 1000000000, V.bool (beqB k (sha (joinB (strL [D.str h, D.str (keyR (rsL (tlD l.con))), D.str (keyR (rsL (tlD l.msk)))])))) = V.bool true], .ret (.bool true) (hSR gS gR) 3)] := RunIs.of (by kernel_rfl) (by kernel_rfl) (by kernel_rfl)
theorem beqB_r (a : List UInt8) : V.bool (beqB a a) = V.bool true := by rw [beqB_eq, beq_self_eq_true]
theorem lkT (s : S8) : TG Tryz.prog 3 Tryz.f3.ntmps cdLk (startSt [.agg s.cs] (hSR gS gR) 3) (RetG Tryz.prog 3 Tryz.f3 fun u _ _ => u = .bool true) := by
  have sm := layF_sm s
  have hl := layD s
  have hd := headD (layF s) sm.ok
  have hh := (headF_sm _ sm).2
  have hc : (layF s).con.length ≤ 1000000 := by
    show (if kdF s = 1 then smallF [s.s4, s.s5, s.s6, s.s7, s.s2] else []).length ≤ _
    split
    · exact Nat.le_trans (smallF_len _) (by decide)
    · exact Nat.zero_le _
  have hm : (layF s).msk.length ≤ 1000000 := by
    show (if an s.s3 192 = 64 then smallF [s.s3, s.s4, s.s5] else []).length ≤ _
    split
    · exact Nat.le_trans (smallF_len _) (by decide)
    · exact Nat.zero_le _
  have hk := dkD (layF s) sm hc hm
  have ek : dkF (layF s) = sha (joinB (strL [D.str (headF (layF s)), D.str (keyR (rsL (tlD (layF s).con))), D.str (keyR (rsL (tlD (layF s).msk)))])) := rfl
  generalize layF s = l at *
  have hb := beqB_r (dkF l)
  have hb2 : V.bool (beqB (dkF l) (sha (joinB (strL [D.str (headF l), D.str (keyR (rsL (tlD l.con))), D.str (keyR (rsL (tlD l.msk)))])))) = V.bool true := by rw [← ek]; exact hb
  refine retE (pinK hl (pinB_ok hk (pinK hd (addW_ok one_Ky (addW_ok one_Jt mT_ok))))) (lk_1 s l (headF l) (dkF l)) (gone (g0 ⟨?_, _, _, _, rfl, rfl⟩))
  repeat' (first | exact all_nil | refine fm ?_ ?_)
  all_goals first
    | exact hb
    | exact hb2
    | exact (rsL_tlD _).symm
    | exact (rsL_len _).symm
    | exact hc
    | exact hm
    | exact j3_len _ _ _ hh
    | exact rfl
    | decide
end Go.Proofs.YtmjggdmekboefaaGreatDoor
