/- The Chunk laws: ChunkErrors. No conditions. -/
import Derived.Test.YtfihojpgobmmdaaGreatDoorJointSixteen
set_option linter.unusedVariables false
set_option linter.unusedSimpArgs false
set_option linter.unusedSectionVars false
namespace Go.Proofs.YtfihojpgobmmdaaGreatDoor
open Go Go.Eng
theorem pickX (len cap : Nat) (lg : List UInt8) (nx : Int) (es rt : List (D × D)) (o : O) : PickOk ns7 (hX (mQ len cap lg nx es rt) o) (memS (mQ len cap lg nx es rt)) :=
  (sto_pick (m := 3) (by kernel_rfl) (by kernel_rfl) (by kernel_rfl)).1
theorem pickY (len cap : Nat) (lg : List UInt8) (nx : Int) (es rt : List (D × D)) (o : O) : PickOk ns7 (hY (mQ len cap lg nx es rt) o) (memS (mQ len cap lg nx es rt)) :=
  (sto_pick (m := 3) (by kernel_rfl) (by kernel_rfl) (by kernel_rfl)).1
theorem lt16 : 16 < Tryz.prog.funcs.size := Nat.le_of_ble_eq_true (by kernel_rfl)
theorem lt18 : 18 < Tryz.prog.funcs.size := Nat.le_of_ble_eq_true (by kernel_rfl)
theorem lt25 : 25 < Tryz.prog.funcs.size := Nat.le_of_ble_eq_true (by kernel_rfl)
theorem veq_t {a b : Int} (h : a = b) : V.bool (a == b) = V.bool true := by rw [h]; simp
theorem veq_f {a b : Int} (h : a ≠ b) : V.bool (a == b) = V.bool false := by rw [beq_eq_false_iff_ne.2 h]
theorem zN_is {m : Nat} (h : m ≤ 1000000) : (IntKind.i64.wrap (Int.ofNat m)).toNat = m := by
  rw [wrap_id (by rw [show Int.ofNat m = (m : Int) from rfl]; omega) (by rw [show Int.ofNat m = (m : Int) from rfl]; omega)]; rfl
theorem zW_is {m : Nat} (h : m ≤ 1000000) : IntKind.i64.wrap (Int.ofNat m) = (m : Int) :=
  wrap_id (by rw [show Int.ofNat m = (m : Int) from rfl]; omega) (by rw [show Int.ofNat m = (m : Int) from rfl]; omega)
theorem repI_is (m : Nat) : repI [(0 : Int)] m = List.replicate m 0 := by
  induction m with
  | zero => rfl
  | succ m ih => rw [repI, ih]; rfl
theorem repD_is (m : Nat) : repD [D.str ([] : List UInt8)] m = List.replicate m (D.str []) := by
  induction m with
  | zero => rfl
  | succ m ih => rw [repD, ih]; rfl
def zeros (m : Nat) : List UInt8 := List.replicate m 0
theorem strI_zeros (m : Nat) : strI (List.take m (List.drop 0 (repI [(0 : Int)] m))) = zeros m := by
  rw [repI_is, List.drop_zero, List.take_of_length_le (by simp)]
  unfold strI zeros
  rw [List.map_replicate]; rfl
def RtA (a : List UInt8) (rt : List (D × D)) : Prop := ∀ n, lookD (.str n) rt = none ∨ lookD (.str n) rt = some (.str a)
theorem RtA.rte {a : List UInt8} {rt : List (D × D)} (h : RtA a rt) : RtE rt := fun n => (h n).imp id fun h => ⟨_, h⟩
theorem RtA.upd {a n : List UInt8} {rt : List (D × D)} (h : RtA a rt) : RtA a (updD (.str n) (.str a) rt) := by
  intro x
  rw [look_upd]
  by_cases q : x = n
  · rw [if_pos q]; exact .inr rfl
  · rw [if_neg q]; exact h x
theorem namB32 {n d : List UInt8} (hn : n.length ≤ 64) (hd : d.length ≤ 32) : (namB n d).length ≤ 116 ∧ 0 < (namB n d).length := by
  have := namB_len n d
  omega
theorem ne32 {a : List UInt8} (h : a.length = 32) : a ≠ [] := by rintro rfl; cases h
section
variable (r tx : List UInt8)
abbrev Fin7 : Exit → St → Prop := RetG Tryz.prog 3 Tryz.f7 fun u _ _ => u = .bool true
abbrev TE (j : Nat) (l : List (Nat × V)) (h : Tr O) (n : Nat) : Prop := TG Tryz.prog 3 Tryz.f7.ntmps (tailN j cdEr) (stE1 r tx l h n) Fin7
structure KF (a g g2 : List UInt8) (k : Nat) (e e2 : Int) (es : List (D × D)) : Prop where
  k8 : k < 8
  ha : Has es a
  hal : a.length = 32
  hg : (k = 0 ∧ e = 0 ∧ Has es g ∧ g.length = 32) ∨ (0 < k ∧ e = 1 ∧ g = [])
  hg2 : (k = 0 ∧ e2 = 0 ∧ Has es g2 ∧ g2.length = 32) ∨ (0 < k ∧ e2 = 1 ∧ g2 = [])
  hemp : lookD (.str []) es = none
theorem KF.upd {a g g2 : List UInt8} {k : Nat} {e e2 : Int} {es : List (D × D)} {y d : List UInt8} {rs : List (List UInt8)} {q : Int} (h : KF a g g2 k e e2 es) (hy : y.length = 32) : KF a g g2 k e e2 (updD (.str y) (entD d rs q) es) :=
  ⟨h.k8, has_upd h.ha, h.hal, h.hg.imp (fun ⟨x, y, z, w⟩ => ⟨x, y, has_upd z, w⟩) id, h.hg2.imp (fun ⟨x, y, z, w⟩ => ⟨x, y, has_upd z, w⟩) id, by rw [look_upd, if_neg (by intro q; rw [← q] at hy; cases hy)]; exact h.hemp⟩
variable {a g g2 : List UInt8} {k : Nat} {e e2 : Int} {len cap : Nat} {lg : List UInt8} {nx : Int} {es rt : List (D × D)}
abbrev fr17 (k : Nat) (a g g2 : List UInt8) (e e2 : Int) (l : List (Nat × V)) : List (Nat × V) := (9, nV k) :: (10, .str a) :: (11, okE) :: (12, .str g) :: (13, eV e) :: (16, .str g2) :: (17, eV e2) :: l
abbrev fr27 (k : Nat) (a g g2 : List UInt8) (e e2 : Int) (kn : Bool) (bad gi ej ex ey : Int) (l : List (Nat × V)) : List (Nat × V) := fr17 k a g g2 e e2 ((18, .bool kn) :: (19, eV bad) :: (21, eV bad) :: (24, eV gi) :: (25, eV ej) :: (26, eV ex) :: (27, eV ey) :: l)
theorem tE21 {kn nm : Bool} {bad gi ej ex ey : Int} (hk : KF a g g2 k e e2 es) (hj : ej = if nm then 0 else 1) (hx : ex = if k = 0 then 0 else 1) (hy : ey = 0 ↔ (r = [] ∨ kn = true)) :
    TE r tx 21 (fr27 k a g g2 e e2 kn bad gi ej ex ey [(28, .bool nm), (29, .bool true), (30, .bool true), (31, .bool true)]) (memS (mQ len cap lg nx es rt)) 7 := by
  have hOk : (Int.ofNat k = 0) ↔ k = 0 := ⟨fun h => by have h : (k : Int) = 0 := h; omega, fun h => by rw [h]; rfl⟩
  have h18 := has_no len cap lg 0 nx 0 es rt [] hk.hemp
  by_cases hk0 : k = 0 <;> by_cases hr : r = [] <;> cases nm <;> cases kn
  · obtain ⟨L, hr1⟩ := ea_27_0101 r tx k a g g2 e e2 bad gi ej ex ey len cap lg nx es rt
    refine TG_ret (XL.pin lt18 h18) mo _ (by kernel_rfl) hr1 fun q hq _ => ?_
    rw [List.mem_singleton] at hq; subst hq
    refine ⟨?_, _, _, _, rfl, rfl⟩
    refine List.forall_mem_cons.2 ⟨veq_t rfl, List.forall_mem_cons.2 ⟨veq_t rfl, List.forall_mem_cons.2 ⟨veq_f (by rw [hj]; decide), ?_⟩⟩⟩
    refine List.forall_mem_cons.2 ⟨veq_t hj, ?_⟩
    refine List.forall_mem_cons.2 ⟨veq_t (by rw [hx, if_pos hk0]), List.forall_mem_cons.2 ⟨veq_t (hOk.2 hk0), List.forall_mem_cons.2 ⟨veq_t (hy.2 (by simp_all)), List.forall_mem_cons.2 ⟨vq_t hr, List.forall_mem_cons.2 ⟨pinEq, all_nil⟩⟩⟩⟩⟩
  · obtain ⟨L, hr1⟩ := ea_27_0111 r tx k a g g2 e e2 bad gi ej ex ey len cap lg nx es rt
    refine TG_ret (XL.pin lt18 h18) mo _ (by kernel_rfl) hr1 fun q hq _ => ?_
    rw [List.mem_singleton] at hq; subst hq
    refine ⟨?_, _, _, _, rfl, rfl⟩
    refine List.forall_mem_cons.2 ⟨veq_t rfl, List.forall_mem_cons.2 ⟨veq_t rfl, List.forall_mem_cons.2 ⟨veq_f (by rw [hj]; decide), ?_⟩⟩⟩
    refine List.forall_mem_cons.2 ⟨veq_t hj, ?_⟩
    refine List.forall_mem_cons.2 ⟨veq_t (by rw [hx, if_pos hk0]), List.forall_mem_cons.2 ⟨veq_t (hOk.2 hk0), List.forall_mem_cons.2 ⟨veq_t (hy.2 (by simp_all)), List.forall_mem_cons.2 ⟨vq_t hr, List.forall_mem_cons.2 ⟨pinEq, all_nil⟩⟩⟩⟩⟩
  · obtain ⟨L, hr1⟩ := ea_27_1101 r tx k a g g2 e e2 bad gi ej ex ey len cap lg nx es rt
    refine TG_ret (XL.pin lt18 h18) mo _ (by kernel_rfl) hr1 fun q hq _ => ?_
    rw [List.mem_singleton] at hq; subst hq
    refine ⟨?_, _, _, _, rfl, rfl⟩
    refine List.forall_mem_cons.2 ⟨veq_t rfl, List.forall_mem_cons.2 ⟨veq_t rfl, List.forall_mem_cons.2 ⟨veq_t hj, ?_⟩⟩⟩
    refine List.forall_mem_cons.2 ⟨veq_t (by rw [hx, if_pos hk0]), List.forall_mem_cons.2 ⟨veq_t (hOk.2 hk0), List.forall_mem_cons.2 ⟨veq_t (hy.2 (by simp_all)), List.forall_mem_cons.2 ⟨vq_t hr, List.forall_mem_cons.2 ⟨pinEq, all_nil⟩⟩⟩⟩⟩
  · obtain ⟨L, hr1⟩ := ea_27_1111 r tx k a g g2 e e2 bad gi ej ex ey len cap lg nx es rt
    refine TG_ret (XL.pin lt18 h18) mo _ (by kernel_rfl) hr1 fun q hq _ => ?_
    rw [List.mem_singleton] at hq; subst hq
    refine ⟨?_, _, _, _, rfl, rfl⟩
    refine List.forall_mem_cons.2 ⟨veq_t rfl, List.forall_mem_cons.2 ⟨veq_t rfl, List.forall_mem_cons.2 ⟨veq_t hj, ?_⟩⟩⟩
    refine List.forall_mem_cons.2 ⟨veq_t (by rw [hx, if_pos hk0]), List.forall_mem_cons.2 ⟨veq_t (hOk.2 hk0), List.forall_mem_cons.2 ⟨veq_t (hy.2 (by simp_all)), List.forall_mem_cons.2 ⟨vq_t hr, List.forall_mem_cons.2 ⟨pinEq, all_nil⟩⟩⟩⟩⟩
  · obtain ⟨L, hr1⟩ := ea_27_0100 r tx k a g g2 e e2 bad gi ej ex ey len cap lg nx es rt
    refine TG_ret (XL.pin lt18 h18) mo _ (by kernel_rfl) hr1 fun q hq _ => ?_
    rw [List.mem_singleton] at hq; subst hq
    refine ⟨?_, _, _, _, rfl, rfl⟩
    refine List.forall_mem_cons.2 ⟨veq_t rfl, List.forall_mem_cons.2 ⟨veq_t rfl, List.forall_mem_cons.2 ⟨veq_f (by rw [hj]; decide), ?_⟩⟩⟩
    refine List.forall_mem_cons.2 ⟨veq_t hj, ?_⟩
    refine List.forall_mem_cons.2 ⟨veq_t (by rw [hx, if_pos hk0]), List.forall_mem_cons.2 ⟨veq_t (hOk.2 hk0), List.forall_mem_cons.2 ⟨veq_f (fun q => absurd (hy.1 q) (by simp_all)), List.forall_mem_cons.2 ⟨vq_f hr, List.forall_mem_cons.2 ⟨pinEq, all_nil⟩⟩⟩⟩⟩
  · obtain ⟨L, hr1⟩ := ea_27_0110 r tx k a g g2 e e2 bad gi ej ex ey len cap lg nx es rt
    refine TG_ret (XL.pin lt18 h18) mo _ (by kernel_rfl) hr1 fun q hq _ => ?_
    rw [List.mem_singleton] at hq; subst hq
    refine ⟨?_, _, _, _, rfl, rfl⟩
    refine List.forall_mem_cons.2 ⟨veq_t rfl, List.forall_mem_cons.2 ⟨veq_t rfl, List.forall_mem_cons.2 ⟨veq_f (by rw [hj]; decide), ?_⟩⟩⟩
    refine List.forall_mem_cons.2 ⟨veq_t hj, ?_⟩
    refine List.forall_mem_cons.2 ⟨veq_t (by rw [hx, if_pos hk0]), List.forall_mem_cons.2 ⟨veq_t (hOk.2 hk0), List.forall_mem_cons.2 ⟨veq_t (hy.2 (by simp_all)), List.forall_mem_cons.2 ⟨vq_f hr, List.forall_mem_cons.2 ⟨pinEq, all_nil⟩⟩⟩⟩⟩
  · obtain ⟨L, hr1⟩ := ea_27_1100 r tx k a g g2 e e2 bad gi ej ex ey len cap lg nx es rt
    refine TG_ret (XL.pin lt18 h18) mo _ (by kernel_rfl) hr1 fun q hq _ => ?_
    rw [List.mem_singleton] at hq; subst hq
    refine ⟨?_, _, _, _, rfl, rfl⟩
    refine List.forall_mem_cons.2 ⟨veq_t rfl, List.forall_mem_cons.2 ⟨veq_t rfl, List.forall_mem_cons.2 ⟨veq_t hj, ?_⟩⟩⟩
    refine List.forall_mem_cons.2 ⟨veq_t (by rw [hx, if_pos hk0]), List.forall_mem_cons.2 ⟨veq_t (hOk.2 hk0), List.forall_mem_cons.2 ⟨veq_f (fun q => absurd (hy.1 q) (by simp_all)), List.forall_mem_cons.2 ⟨vq_f hr, List.forall_mem_cons.2 ⟨pinEq, all_nil⟩⟩⟩⟩⟩
  · obtain ⟨L, hr1⟩ := ea_27_1110 r tx k a g g2 e e2 bad gi ej ex ey len cap lg nx es rt
    refine TG_ret (XL.pin lt18 h18) mo _ (by kernel_rfl) hr1 fun q hq _ => ?_
    rw [List.mem_singleton] at hq; subst hq
    refine ⟨?_, _, _, _, rfl, rfl⟩
    refine List.forall_mem_cons.2 ⟨veq_t rfl, List.forall_mem_cons.2 ⟨veq_t rfl, List.forall_mem_cons.2 ⟨veq_t hj, ?_⟩⟩⟩
    refine List.forall_mem_cons.2 ⟨veq_t (by rw [hx, if_pos hk0]), List.forall_mem_cons.2 ⟨veq_t (hOk.2 hk0), List.forall_mem_cons.2 ⟨veq_t (hy.2 (by simp_all)), List.forall_mem_cons.2 ⟨vq_f hr, List.forall_mem_cons.2 ⟨pinEq, all_nil⟩⟩⟩⟩⟩
  · obtain ⟨L, hr1⟩ := ea_27_0001 r tx k a g g2 e e2 bad gi ej ex ey len cap lg nx es rt
    refine TG_ret (XL.pin lt18 h18) mo _ (by kernel_rfl) hr1 fun q hq _ => ?_
    rw [List.mem_singleton] at hq; subst hq
    refine ⟨?_, _, _, _, rfl, rfl⟩
    refine List.forall_mem_cons.2 ⟨veq_t rfl, List.forall_mem_cons.2 ⟨veq_t rfl, List.forall_mem_cons.2 ⟨veq_f (by rw [hj]; decide), ?_⟩⟩⟩
    refine List.forall_mem_cons.2 ⟨veq_t hj, ?_⟩
    refine List.forall_mem_cons.2 ⟨veq_f (by rw [hx, if_neg hk0]; decide), List.forall_mem_cons.2 ⟨veq_f (fun q => hk0 (hOk.1 q)), List.forall_mem_cons.2 ⟨veq_t (hy.2 (by simp_all)), List.forall_mem_cons.2 ⟨vq_t hr, List.forall_mem_cons.2 ⟨pinEq, all_nil⟩⟩⟩⟩⟩
  · obtain ⟨L, hr1⟩ := ea_27_0011 r tx k a g g2 e e2 bad gi ej ex ey len cap lg nx es rt
    refine TG_ret (XL.pin lt18 h18) mo _ (by kernel_rfl) hr1 fun q hq _ => ?_
    rw [List.mem_singleton] at hq; subst hq
    refine ⟨?_, _, _, _, rfl, rfl⟩
    refine List.forall_mem_cons.2 ⟨veq_t rfl, List.forall_mem_cons.2 ⟨veq_t rfl, List.forall_mem_cons.2 ⟨veq_f (by rw [hj]; decide), ?_⟩⟩⟩
    refine List.forall_mem_cons.2 ⟨veq_t hj, ?_⟩
    refine List.forall_mem_cons.2 ⟨veq_f (by rw [hx, if_neg hk0]; decide), List.forall_mem_cons.2 ⟨veq_f (fun q => hk0 (hOk.1 q)), List.forall_mem_cons.2 ⟨veq_t (hy.2 (by simp_all)), List.forall_mem_cons.2 ⟨vq_t hr, List.forall_mem_cons.2 ⟨pinEq, all_nil⟩⟩⟩⟩⟩
  · obtain ⟨L, hr1⟩ := ea_27_1001 r tx k a g g2 e e2 bad gi ej ex ey len cap lg nx es rt
    refine TG_ret (XL.pin lt18 h18) mo _ (by kernel_rfl) hr1 fun q hq _ => ?_
    rw [List.mem_singleton] at hq; subst hq
    refine ⟨?_, _, _, _, rfl, rfl⟩
    refine List.forall_mem_cons.2 ⟨veq_t rfl, List.forall_mem_cons.2 ⟨veq_t rfl, List.forall_mem_cons.2 ⟨veq_t hj, ?_⟩⟩⟩
    refine List.forall_mem_cons.2 ⟨veq_f (by rw [hx, if_neg hk0]; decide), List.forall_mem_cons.2 ⟨veq_f (fun q => hk0 (hOk.1 q)), List.forall_mem_cons.2 ⟨veq_t (hy.2 (by simp_all)), List.forall_mem_cons.2 ⟨vq_t hr, List.forall_mem_cons.2 ⟨pinEq, all_nil⟩⟩⟩⟩⟩
  · obtain ⟨L, hr1⟩ := ea_27_1011 r tx k a g g2 e e2 bad gi ej ex ey len cap lg nx es rt
    refine TG_ret (XL.pin lt18 h18) mo _ (by kernel_rfl) hr1 fun q hq _ => ?_
    rw [List.mem_singleton] at hq; subst hq
    refine ⟨?_, _, _, _, rfl, rfl⟩
    refine List.forall_mem_cons.2 ⟨veq_t rfl, List.forall_mem_cons.2 ⟨veq_t rfl, List.forall_mem_cons.2 ⟨veq_t hj, ?_⟩⟩⟩
    refine List.forall_mem_cons.2 ⟨veq_f (by rw [hx, if_neg hk0]; decide), List.forall_mem_cons.2 ⟨veq_f (fun q => hk0 (hOk.1 q)), List.forall_mem_cons.2 ⟨veq_t (hy.2 (by simp_all)), List.forall_mem_cons.2 ⟨vq_t hr, List.forall_mem_cons.2 ⟨pinEq, all_nil⟩⟩⟩⟩⟩
  · obtain ⟨L, hr1⟩ := ea_27_0000 r tx k a g g2 e e2 bad gi ej ex ey len cap lg nx es rt
    refine TG_ret (XL.pin lt18 h18) mo _ (by kernel_rfl) hr1 fun q hq _ => ?_
    rw [List.mem_singleton] at hq; subst hq
    refine ⟨?_, _, _, _, rfl, rfl⟩
    refine List.forall_mem_cons.2 ⟨veq_t rfl, List.forall_mem_cons.2 ⟨veq_t rfl, List.forall_mem_cons.2 ⟨veq_f (by rw [hj]; decide), ?_⟩⟩⟩
    refine List.forall_mem_cons.2 ⟨veq_t hj, ?_⟩
    refine List.forall_mem_cons.2 ⟨veq_f (by rw [hx, if_neg hk0]; decide), List.forall_mem_cons.2 ⟨veq_f (fun q => hk0 (hOk.1 q)), List.forall_mem_cons.2 ⟨veq_f (fun q => absurd (hy.1 q) (by simp_all)), List.forall_mem_cons.2 ⟨vq_f hr, List.forall_mem_cons.2 ⟨pinEq, all_nil⟩⟩⟩⟩⟩
  · obtain ⟨L, hr1⟩ := ea_27_0010 r tx k a g g2 e e2 bad gi ej ex ey len cap lg nx es rt
    refine TG_ret (XL.pin lt18 h18) mo _ (by kernel_rfl) hr1 fun q hq _ => ?_
    rw [List.mem_singleton] at hq; subst hq
    refine ⟨?_, _, _, _, rfl, rfl⟩
    refine List.forall_mem_cons.2 ⟨veq_t rfl, List.forall_mem_cons.2 ⟨veq_t rfl, List.forall_mem_cons.2 ⟨veq_f (by rw [hj]; decide), ?_⟩⟩⟩
    refine List.forall_mem_cons.2 ⟨veq_t hj, ?_⟩
    refine List.forall_mem_cons.2 ⟨veq_f (by rw [hx, if_neg hk0]; decide), List.forall_mem_cons.2 ⟨veq_f (fun q => hk0 (hOk.1 q)), List.forall_mem_cons.2 ⟨veq_t (hy.2 (by simp_all)), List.forall_mem_cons.2 ⟨vq_f hr, List.forall_mem_cons.2 ⟨pinEq, all_nil⟩⟩⟩⟩⟩
  · obtain ⟨L, hr1⟩ := ea_27_1000 r tx k a g g2 e e2 bad gi ej ex ey len cap lg nx es rt
    refine TG_ret (XL.pin lt18 h18) mo _ (by kernel_rfl) hr1 fun q hq _ => ?_
    rw [List.mem_singleton] at hq; subst hq
    refine ⟨?_, _, _, _, rfl, rfl⟩
    refine List.forall_mem_cons.2 ⟨veq_t rfl, List.forall_mem_cons.2 ⟨veq_t rfl, List.forall_mem_cons.2 ⟨veq_t hj, ?_⟩⟩⟩
    refine List.forall_mem_cons.2 ⟨veq_f (by rw [hx, if_neg hk0]; decide), List.forall_mem_cons.2 ⟨veq_f (fun q => hk0 (hOk.1 q)), List.forall_mem_cons.2 ⟨veq_f (fun q => absurd (hy.1 q) (by simp_all)), List.forall_mem_cons.2 ⟨vq_f hr, List.forall_mem_cons.2 ⟨pinEq, all_nil⟩⟩⟩⟩⟩
  · obtain ⟨L, hr1⟩ := ea_27_1010 r tx k a g g2 e e2 bad gi ej ex ey len cap lg nx es rt
    refine TG_ret (XL.pin lt18 h18) mo _ (by kernel_rfl) hr1 fun q hq _ => ?_
    rw [List.mem_singleton] at hq; subst hq
    refine ⟨?_, _, _, _, rfl, rfl⟩
    refine List.forall_mem_cons.2 ⟨veq_t rfl, List.forall_mem_cons.2 ⟨veq_t rfl, List.forall_mem_cons.2 ⟨veq_t hj, ?_⟩⟩⟩
    refine List.forall_mem_cons.2 ⟨veq_f (by rw [hx, if_neg hk0]; decide), List.forall_mem_cons.2 ⟨veq_f (fun q => hk0 (hOk.1 q)), List.forall_mem_cons.2 ⟨veq_t (hy.2 (by simp_all)), List.forall_mem_cons.2 ⟨vq_f hr, List.forall_mem_cons.2 ⟨pinEq, all_nil⟩⟩⟩⟩⟩
theorem kN {k : Nat} : (Int.ofNat k = 0) ↔ k = 0 := ⟨fun h => by have h : (k : Int) = 0 := h; omega, fun h => by rw [h]; rfl⟩
theorem tE20 {kn nm : Bool} {bad gi ej ex ey : Int} (hk : KF a g g2 k e e2 es) (hj : ej = if nm then 0 else 1) (hx : ex = if k = 0 then 0 else 1) (hy : ey = 0 ↔ (r = [] ∨ kn = true)) :
    TE r tx 20 (fr27 k a g g2 e e2 kn bad gi ej ex ey [(28, .bool nm), (29, .bool true), (30, .bool true)]) (memS (mQ len cap lg nx es rt)) 7 := by
  refine TG_seq' (by kernel_rfl) ?_
  rcases hk.hg2 with ⟨h0, h1, h2, h3⟩ | ⟨h0, h1, h2⟩
  · obtain ⟨L, hr1⟩ := ea_26z r tx k a g g2 e e2 kn bad gi ej ex ey nm len cap lg nx es rt
    refine TG_is (XL.pin lt18 (has_yes len cap lg 0 nx 0 es rt g2 h2)) mo anyR (by kernel_rfl) hr1 fun q hq _ => ?_
    rw [List.mem_singleton] at hq; subst hq
    refine ⟨?_, fun s' hs' => TG_norm hs' (tE21 r tx hk hj hx hy)⟩
    repeat' (first | exact all_nil | refine List.forall_mem_cons.2 ⟨?_, ?_⟩)
    · exact veq_t (kN.2 h0)
    · exact veq_t h1
    · exact pinEq
  · obtain ⟨L, hr1⟩ := ea_26p r tx k a g g2 e e2 kn bad gi ej ex ey nm len cap lg nx es rt
    refine TG_is XL mo anyR (by kernel_rfl) hr1 fun q hq _ => ?_
    rw [List.mem_singleton] at hq; subst hq
    refine ⟨?_, fun s' hs' => TG_norm hs' (tE21 r tx hk hj hx hy)⟩
    have hkne : Int.ofNat k ≠ 0 := fun q => by have := kN.1 q; omega
    repeat' (first | exact all_nil | refine List.forall_mem_cons.2 ⟨?_, ?_⟩)
    · exact veq_f hkne
    · exact vb_t (by rw [show Int.ofNat k = (k : Int) from rfl]; omega)
    · exact veq_t h1
    · exact vq_t h2
theorem tE19 {kn nm : Bool} {bad gi ej ex ey : Int} (hk : KF a g g2 k e e2 es) (hj : ej = if nm then 0 else 1) (hx : ex = if k = 0 then 0 else 1) (hy : ey = 0 ↔ (r = [] ∨ kn = true)) :
    TE r tx 19 (fr27 k a g g2 e e2 kn bad gi ej ex ey [(28, .bool nm), (29, .bool true)]) (memS (mQ len cap lg nx es rt)) 7 := by
  refine TG_seq' (by kernel_rfl) ?_
  rcases hk.hg with ⟨h0, h1, h2, h3⟩ | ⟨h0, h1, h2⟩
  · obtain ⟨L, hr1⟩ := ea_25z r tx k a g g2 e e2 kn bad gi ej ex ey nm len cap lg nx es rt
    refine TG_is (XL.pin lt18 (has_yes len cap lg 0 nx 0 es rt g h2)) mo anyR (by kernel_rfl) hr1 fun q hq _ => ?_
    rw [List.mem_singleton] at hq; subst hq
    refine ⟨?_, fun s' hs' => TG_norm hs' (tE20 r tx hk hj hx hy)⟩
    repeat' (first | exact all_nil | refine List.forall_mem_cons.2 ⟨?_, ?_⟩)
    · exact veq_t (kN.2 h0)
    · exact veq_t h1
    · exact pinEq
  · obtain ⟨L, hr1⟩ := ea_25p r tx k a g g2 e e2 kn bad gi ej ex ey nm len cap lg nx es rt
    refine TG_is XL mo anyR (by kernel_rfl) hr1 fun q hq _ => ?_
    rw [List.mem_singleton] at hq; subst hq
    refine ⟨?_, fun s' hs' => TG_norm hs' (tE20 r tx hk hj hx hy)⟩
    have hkne : Int.ofNat k ≠ 0 := fun q => by have := kN.1 q; omega
    repeat' (first | exact all_nil | refine List.forall_mem_cons.2 ⟨?_, ?_⟩)
    · exact veq_f hkne
    · exact vb_t (by rw [show Int.ofNat k = (k : Int) from rfl]; omega)
    · exact veq_t h1
    · exact vq_t h2
theorem tE18 {kn nm : Bool} {bad gi ej ex ey : Int} (hk : KF a g g2 k e e2 es) (hgi : gi = if kn then 0 else 62) (hj : ej = if nm then 0 else 1) (hx : ex = if k = 0 then 0 else 1) (hy : ey = 0 ↔ (r = [] ∨ kn = true)) :
    TE r tx 18 (fr27 k a g g2 e e2 kn bad gi ej ex ey [(28, .bool nm)]) (memS (mQ len cap lg nx es rt)) 7 := by
  refine TG_seq' (by kernel_rfl) ?_
  cases kn with
  | true =>
    have hgi : gi = 0 := hgi
    subst hgi
    obtain ⟨L, hr1⟩ := ea_24k r tx k a g g2 e e2 bad ej ex ey nm len cap lg nx es rt
    refine TG_is XL mo anyR (by kernel_rfl) hr1 fun q hq _ => ?_
    rw [List.mem_singleton] at hq; subst hq
    exact ⟨all_nil, fun s' hs' => TG_norm hs' (tE19 r tx hk hj hx hy)⟩
  | false =>
    have hgi : gi = 62 := hgi
    subst hgi
    obtain ⟨L, hr1⟩ := ea_24n r tx k a g g2 e e2 bad ej ex ey nm len cap lg nx es rt
    refine TG_is XL mo anyR (by kernel_rfl) hr1 fun q hq _ => ?_
    rw [List.mem_singleton] at hq; subst hq
    exact ⟨all_nil, fun s' hs' => TG_norm hs' (tE19 r tx hk hj hx hy)⟩
open Classical in
theorem tE17 {kn : Bool} {bad gi ej ex ey : Int} (hk : KF a g g2 k e e2 es) (hgi : gi = if kn then 0 else 62) (hj : ej = if nOk tx then 0 else 1) (hx : ex = if k = 0 then 0 else 1) (hy : ey = 0 ↔ (r = [] ∨ kn = true)) :
    TE r tx 17 (fr27 k a g g2 e e2 kn bad gi ej ex ey []) (memS (mQ len cap lg nx es rt)) 7 := by
  refine TG_seq' (by kernel_rfl) ?_
  have hO : ∀ n : Nat, Int.ofNat n = (n : Int) := fun _ => rfl
  by_cases h0 : tx = []
  · rw [if_neg (fun h => h.1 h0)] at hj
    obtain ⟨L, hr1⟩ := ea_23a r tx k a g g2 e e2 kn bad gi ej ex ey len cap lg nx es rt
    refine TG_is XL mo anyR (by kernel_rfl) hr1 fun q hq _ => ?_
    rw [List.mem_singleton] at hq; subst hq
    refine ⟨fun p hp => ?_, fun s' hs' => TG_norm hs' (tE18 (nm := false) r tx hk hgi hj hx hy)⟩
    rw [List.mem_singleton] at hp; subst hp
    rw [h0]; rfl
  · have hpos : 0 < tx.length := List.length_pos_iff.2 h0
    by_cases h1 : tx.length ≤ 64
    · rw [if_pos ⟨h0, h1⟩] at hj
      obtain ⟨L, hr1⟩ := ea_23t r tx k a g g2 e e2 kn bad gi ej ex ey len cap lg nx es rt
      refine TG_is XL mo anyR (by kernel_rfl) hr1 fun q hq _ => ?_
      rw [List.mem_singleton] at hq; subst hq
      refine ⟨?_, fun s' hs' => TG_norm hs' (tE18 (nm := true) r tx hk hgi hj hx hy)⟩
      repeat' (first | exact all_nil | refine List.forall_mem_cons.2 ⟨?_, ?_⟩)
      · exact vb_t (by rw [hO]; omega)
      · exact vb_t (by rw [hO]; omega)
    · rw [if_neg (fun h => h1 h.2)] at hj
      obtain ⟨L, hr1⟩ := ea_23b r tx k a g g2 e e2 kn bad gi ej ex ey len cap lg nx es rt
      refine TG_is XL mo anyR (by kernel_rfl) hr1 fun q hq _ => ?_
      rw [List.mem_singleton] at hq; subst hq
      refine ⟨?_, fun s' hs' => TG_norm hs' (tE18 (nm := false) r tx hk hgi hj hx hy)⟩
      repeat' (first | exact all_nil | refine List.forall_mem_cons.2 ⟨?_, ?_⟩)
      · exact vb_t (by rw [hO]; omega)
      · exact vb_f (by rw [hO]; omega)
theorem tOk : nOk [116] := ⟨by decide, by decide⟩
open Classical in
theorem tE16 {kn : Bool} {bad gi ej ex : Int} (hk : KF a g g2 k e e2 es) (inv : InvS 200000 len cap lg es) (hrt : RtA a rt) (hr64 : rt.length < 64) (hgi : gi = if kn then 0 else 62) (hj : ej = if nOk tx then 0 else 1) (hx : ex = if k = 0 then 0 else 1) (hkn : kn = true → Has es r ∧ r.length = 32) (hkf : kn = false → lookD (.str r) es = none) :
    TE r tx 16 (fr17 k a g g2 e e2 [(18, .bool kn), (19, eV bad), (21, eV bad), (24, eV gi), (25, eV ej), (26, eV ex)]) (memS (mQ len cap lg nx es rt)) 7 := by
  refine TG_seq' (by kernel_rfl) ?_
  have old : ∀ ey : Int, (ey = 0 ↔ (r = [] ∨ kn = true)) → CallIs Tryz.prog 16 [P3, .str [116], .str r] (memS (mQ len cap lg nx es rt)) 7 (eV ey) (memS (mQ len cap lg nx es rt)) 7 → TG Tryz.prog 3 Tryz.f7.ntmps (seqL (tailN 16 cdEr)) (stE1 r tx (fr17 k a g g2 e e2 [(18, .bool kn), (19, eV bad), (21, eV bad), (24, eV gi), (25, eV ej), (26, eV ex)]) (memS (mQ len cap lg nx es rt)) 7) (andThen (fun s' => TG Tryz.prog 3 Tryz.f7.ntmps (seqR (tailN 16 cdEr)) s' Fin7) Fin7) := by
    intro ey hey hc
    obtain ⟨L, hr1⟩ := ea_22o r tx k a g g2 e e2 kn bad gi ej ex ey len cap lg nx es rt
    refine TG_is (XL.pin lt16 hc) mo anyR (by kernel_rfl) hr1 fun q hq _ => ?_
    rw [List.mem_singleton] at hq; subst hq
    exact ⟨fun p hp => by rw [List.mem_singleton] at hp; subst hp; exact pinEq, fun s' hs' => TG_norm hs' (tE17 r tx hk hgi hj hx hey)⟩
  have new : ∀ (m : Nat) (lg2 : List UInt8) (rt2 : List (D × D)), (r = [] ∨ kn = true) → CallIs Tryz.prog 16 [P3, .str [116], .str r] (memS (mQ len cap lg nx es rt)) 7 (eV 0) (memNw m lg2 0 nx 0 es rt2) 8 → TG Tryz.prog 3 Tryz.f7.ntmps (seqL (tailN 16 cdEr)) (stE1 r tx (fr17 k a g g2 e e2 [(18, .bool kn), (19, eV bad), (21, eV bad), (24, eV gi), (25, eV ej), (26, eV ex)]) (memS (mQ len cap lg nx es rt)) 7) (andThen (fun s' => TG Tryz.prog 3 Tryz.f7.ntmps (seqR (tailN 16 cdEr)) s' Fin7) Fin7) := by
    intro m lg2 rt2 hey hc
    obtain ⟨L, hr1⟩ := ea_22w r tx k a g g2 e e2 kn bad gi ej ex 0 len cap lg nx es rt m lg2 nx es rt2
    refine TG_is (XL.pin lt16 hc) mo anyR (by kernel_rfl) hr1 fun q hq _ => ?_
    rw [List.mem_singleton] at hq; subst hq
    exact ⟨fun p hp => by rw [List.mem_singleton] at hp; subst hp; exact pinEq, fun s' hs' => TG_norm hs' (tE17 r tx hk hgi hj hx ⟨fun _ => hey, fun _ => rfl⟩)⟩
  have hle := inv.hle
  by_cases h0 : r = []
  · subst h0
    have hb := namB32 (n := [116]) (d := []) (by decide) (by decide)
    rcases hrt [116] with h1 | h1
    · exact old 0 ⟨fun _ => .inl rfl, fun _ => rfl⟩ (root_none [116] len cap lg 0 nx 0 es rt tOk h1)
    · exact new _ _ _ (.inl rfl) (root_del [116] len cap lg 0 nx 0 es rt a tOk h1 (ne32 hk.hal) inv.hcp inv.hln (by omega))
  · cases kn with
    | true =>
      obtain ⟨h2, h3⟩ := hkn rfl
      have hb := namB32 (n := [116]) (d := r) (by decide) (by omega)
      rcases hrt [116] with h1 | h1
      · exact new _ _ _ (.inr rfl) (root_new [116] r len cap lg 0 nx 0 es rt tOk h0 (by omega) h2 h1 hr64 inv.hcp inv.hln (by omega))
      · by_cases h4 : r = a
        · exact old 0 ⟨fun _ => .inr rfl, fun _ => rfl⟩ (root_same [116] r len cap lg 0 nx 0 es rt tOk h0 h2 (by rw [h4]; exact h1))
        · exact new _ _ _ (.inr rfl) (root_upd [116] r len cap lg 0 nx 0 es rt a tOk h0 (by omega) h2 h1 h4 inv.hcp inv.hln (by omega))
    | false =>
      exact old 62 ⟨fun h => absurd h (by decide), fun h => by rcases h with h | h; exact absurd h h0; cases h⟩ (root_chunk [116] r len cap lg 0 nx 0 es rt hrt.rte tOk h0 (hkf rfl))
theorem root_any (n : List UInt8) (hn : nOk n) (hrt : RtA a rt) (hr64 : rt.length < 64) (ha : Has es a) (hal : a.length = 32) (inv : InvS 300000 len cap lg es) :
    CallIs Tryz.prog 16 [P3, .str n, .str a] (memS (mQ len cap lg nx es rt)) 7 (eV 0) (memS (mQ len cap lg nx es rt)) 7 ∨
    CallIs Tryz.prog 16 [P3, .str n, .str a] (memS (mQ len cap lg nx es rt)) 7 (eV 0) (memNw (len + (namB n a).length) (lg ++ namB n a) 0 nx 0 es (updD (.str n) (.str a) rt)) 8 := by
  have hb := namB32 (n := n) (d := a) hn.2 (by omega)
  have hle := inv.hle
  rcases hrt n with h1 | h1
  · exact .inr (root_new n a len cap lg 0 nx 0 es rt hn (ne32 hal) (by omega) ha h1 hr64 inv.hcp inv.hln (by omega))
  · exact .inl (root_same n a len cap lg 0 nx 0 es rt hn (ne32 hal) ha h1)
theorem invS_app {B len cap m : Nat} {lg l2 : List UInt8} {es es2 : List (D × D)} (inv : InvS B len cap lg es) (h0 : 0 < l2.length) (hm : l2.length ≤ m) (he : Ent es2) : InvS (B + m) (len + l2.length) (len + l2.length) (lg ++ l2) es2 :=
  ⟨by rw [List.length_append, inv.hln], by omega, by have := inv.hle; omega, he⟩
theorem invS_mono {B B2 len cap : Nat} {lg : List UInt8} {es : List (D × D)} (inv : InvS B len cap lg es) (h : B ≤ B2) : InvS B2 len cap lg es := ⟨inv.hln, inv.hcp, Nat.le_trans inv.hle h, inv.hen⟩
theorem upd_len64 {n : List UInt8} {v : D} {rt : List (D × D)} {m : Nat} (h : rt.length ≤ m) : (updD (.str n) v rt).length ≤ m + 1 := Nat.le_trans (upd_len n v rt) (Nat.succ_le_succ h)
theorem zeros_len (m : Nat) : (zeros m).length = m := by unfold zeros; rw [List.length_replicate]
theorem make_asks {m0 k : Nat} (h : m0 + k ≤ 1000000) : V.int IntKind.i64 (IntKind.i64.wrap ((Int.ofNat m0) + Int.ofNat k)) = nV (m0 + k) ∧ ((0 : Int) ≤ IntKind.i64.wrap (Int.ofNat (m0 + k)) ∧ IntKind.i64.wrap (Int.ofNat (m0 + k)) ≤ IntKind.i64.wrap (Int.ofNat (m0 + k)) ∧ (1 : Int) * IntKind.i64.wrap (Int.ofNat (m0 + k)) ≤ (281474976710656 : Int)) ∧
    (0 + (IntKind.i64.wrap (Int.ofNat (m0 + k))).toNat ≤ (repI [(0 : Int)] (IntKind.i64.wrap (Int.ofNat (m0 + k))).toNat).length) ∧ (V.str (strI (List.take (IntKind.i64.wrap (Int.ofNat (m0 + k))).toNat (List.drop 0 (repI [(0 : Int)] (IntKind.i64.wrap (Int.ofNat (m0 + k))).toNat)))) = V.str (zeros (m0 + k))) := by
  have h1 := zW_is h
  have h2 := zN_is h
  refine ⟨?_, ?_, ?_, ?_⟩
  · rw [show (Int.ofNat m0 + Int.ofNat k) = Int.ofNat (m0 + k) from rfl, h1]; rfl
  · rw [h1]; omega
  · rw [h2, repI_is, List.length_replicate]; omega
  · rw [h2, strI_zeros]
open Classical in
theorem tE15 {kn : Bool} {bad gi ej : Int} (hk : KF a g g2 k e e2 es) (inv : InvS 199000 len cap lg es) (hrt : RtA a rt) (hr64 : rt.length < 60) (hgi : gi = if kn then 0 else 62) (hj : ej = if nOk tx then 0 else 1) (hkn : kn = true → Has es r ∧ r.length = 32) (hkf : kn = false → lookD (.str r) es = none) :
    TE r tx 15 (fr17 k a g g2 e e2 [(18, .bool kn), (19, eV bad), (21, eV bad), (24, eV gi), (25, eV ej)]) (memS (mQ len cap lg nx es rt)) 7 := by
  refine TG_seq' (by kernel_rfl) ?_
  have hk8 := hk.k8
  obtain ⟨m1, m2, m3, m4⟩ := make_asks (m0 := 64) (k := k) (by omega)
  have old : ∀ ex : Int, (ex = if k = 0 then 0 else 1) → CallIs Tryz.prog 16 [P3, .str (zeros (64 + k)), .str a] (memS (mQ len cap lg nx es rt)) 7 (eV ex) (memS (mQ len cap lg nx es rt)) 7 → TG Tryz.prog 3 Tryz.f7.ntmps (seqL (tailN 15 cdEr)) (stE1 r tx (fr17 k a g g2 e e2 [(18, .bool kn), (19, eV bad), (21, eV bad), (24, eV gi), (25, eV ej)]) (memS (mQ len cap lg nx es rt)) 7) (andThen (fun s' => TG Tryz.prog 3 Tryz.f7.ntmps (seqR (tailN 15 cdEr)) s' Fin7) Fin7) := by
    intro ex hex hc
    obtain ⟨L, hr1⟩ := ea_21o r tx k a g g2 e e2 kn bad gi ej ex (zeros (64 + k)) (repI [(0 : Int)] (IntKind.i64.wrap (Int.ofNat (64 + k))).toNat) len cap lg nx es rt
    refine TG_is (XL.pin lt16 (own_callIs (pickX len cap lg nx es rt _) (by kernel_rfl) (by kernel_rfl) hc)) mo anyR (by kernel_rfl) hr1 fun q hq _ => ?_
    rw [List.mem_singleton] at hq; subst hq
    refine ⟨?_, fun s' hs' => TG_norm hs' (tE16 r tx hk (invS_mono inv (by decide)) hrt (by omega) hgi hj hex hkn hkf)⟩
    exact List.forall_mem_cons.2 ⟨m1, List.forall_mem_cons.2 ⟨m2, List.forall_mem_cons.2 ⟨m3, List.forall_mem_cons.2 ⟨m4, List.forall_mem_cons.2 ⟨pinEq, all_nil⟩⟩⟩⟩⟩
  by_cases h0 : k = 0
  · have hz : nOk (zeros (64 + k)) := ⟨fun q => by have := congrArg List.length q; rw [zeros_len, List.length_nil] at this; omega, by rw [zeros_len]; omega⟩
    have hb := namB32 (n := zeros (64 + k)) (d := a) hz.2 (by rw [hk.hal]; decide)
    rcases root_any (zeros (64 + k)) hz hrt (by omega) hk.ha hk.hal (invS_mono inv (by decide)) with hc | hc
    · exact old 0 (by rw [if_pos h0]) hc
    · obtain ⟨L, hr1⟩ := ea_21w r tx k a g g2 e e2 kn bad gi ej 0 (zeros (64 + k)) (repI [(0 : Int)] (IntKind.i64.wrap (Int.ofNat (64 + k))).toNat) len cap lg nx es rt (len + (namB (zeros (64 + k)) a).length) (lg ++ namB (zeros (64 + k)) a) nx es (updD (.str (zeros (64 + k))) (.str a) rt)
      refine TG_is (XL.pin lt16 (own_callIs (pickX len cap lg nx es rt _) (by kernel_rfl) (by kernel_rfl) hc)) mo anyR (by kernel_rfl) hr1 fun q hq _ => ?_
      rw [List.mem_singleton] at hq; subst hq
      have hl2 := upd_len64 (n := zeros (64 + k)) (v := .str a) (Nat.le_of_lt_succ (show rt.length < 59 + 1 from hr64))
      refine ⟨?_, fun s' hs' => TG_norm hs' (tE16 r tx hk (invS_mono (invS_app inv hb.2 hb.1 inv.hen) (by decide)) hrt.upd (by omega) hgi hj (by rw [if_pos h0]) hkn hkf)⟩
      exact List.forall_mem_cons.2 ⟨m1, List.forall_mem_cons.2 ⟨m2, List.forall_mem_cons.2 ⟨m3, List.forall_mem_cons.2 ⟨m4, List.forall_mem_cons.2 ⟨pinEq, all_nil⟩⟩⟩⟩⟩
  · exact old 1 (by rw [if_neg h0]) (root_arg (zeros (64 + k)) a len cap lg 0 nx 0 es rt hrt.rte (fun h => by have := h.2; rw [zeros_len] at this; omega))
open Classical in
theorem tE14 {kn : Bool} {bad gi : Int} (hk : KF a g g2 k e e2 es) (inv : InvS 198000 len cap lg es) (hgi : gi = if kn then 0 else 62) (hkn : kn = true → Has es r ∧ r.length = 32) (hkf : kn = false → lookD (.str r) es = none) :
    TE r tx 14 (fr17 k a g g2 e e2 [(18, .bool kn), (19, eV bad), (21, eV bad), (24, eV gi)]) (memS (mQ len cap lg nx es [])) 7 := by
  refine TG_seq' (by kernel_rfl) ?_
  have hr0 : RtA a [] := fun _ => .inl rfl
  by_cases hz : nOk tx
  · have hb := namB32 (n := tx) (d := a) hz.2 (by rw [hk.hal]; decide)
    rcases root_any tx hz hr0 (by decide) hk.ha hk.hal (invS_mono inv (by decide)) with hc | hc
    · obtain ⟨L, hr1⟩ := ea_20o r tx k a g g2 e e2 kn bad gi 0 len cap lg nx es []
      refine TG_is (XL.pin lt16 hc) mo anyR (by kernel_rfl) hr1 fun q hq _ => ?_
      rw [List.mem_singleton] at hq; subst hq
      exact ⟨fun p hp => by rw [List.mem_singleton] at hp; subst hp; exact pinEq, fun s' hs' => TG_norm hs' (tE15 r tx hk (invS_mono inv (by decide)) hr0 (by decide) hgi (by rw [if_pos hz]) hkn hkf)⟩
    · obtain ⟨L, hr1⟩ := ea_20w r tx k a g g2 e e2 kn bad gi 0 len cap lg nx es [] (len + (namB tx a).length) (lg ++ namB tx a) nx es (updD (.str tx) (.str a) [])
      refine TG_is (XL.pin lt16 hc) mo anyR (by kernel_rfl) hr1 fun q hq _ => ?_
      rw [List.mem_singleton] at hq; subst hq
      exact ⟨fun p hp => by rw [List.mem_singleton] at hp; subst hp; exact pinEq, fun s' hs' => TG_norm hs' (tE15 r tx hk (invS_mono (invS_app inv hb.2 hb.1 inv.hen) (by decide)) hr0.upd (Nat.lt_of_le_of_lt (upd_len tx (.str a) []) (by decide)) hgi (by rw [if_pos hz]) hkn hkf)⟩
  · obtain ⟨L, hr1⟩ := ea_20o r tx k a g g2 e e2 kn bad gi 1 len cap lg nx es []
    refine TG_is (XL.pin lt16 (root_arg tx a len cap lg 0 nx 0 es [] hr0.rte hz)) mo anyR (by kernel_rfl) hr1 fun q hq _ => ?_
    rw [List.mem_singleton] at hq; subst hq
    exact ⟨fun p hp => by rw [List.mem_singleton] at hp; subst hp; exact pinEq, fun s' hs' => TG_norm hs' (tE15 r tx hk (invS_mono inv (by decide)) hr0 (by decide) hgi (by rw [if_neg hz]) hkn hkf)⟩
def RefsOk (es : List (D × D)) : Prop := ∀ x d rs q, lookD (.str x) es = some (entD d rs q) → rs.length ≤ 1024
theorem RefsOk.upd {y d : List UInt8} {rs : List (List UInt8)} {q : Int} (h : RefsOk es) (hr : rs.length ≤ 1024) : RefsOk (updD (.str y) (entD d rs q) es) := by
  intro x d2 rs2 q2 hx
  rw [look_upd] at hx
  by_cases hxy : x = y
  · rw [if_pos hxy] at hx
    simp only [Option.some.injEq, entD, D.agg.injEq, List.cons.injEq, D.lst.injEq] at hx
    have := hx.2.1.1
    omega
  · rw [if_neg hxy] at hx; exact h _ _ _ _ hx
theorem tE13 {kn : Bool} {bad : Int} (hk : KF a g g2 k e e2 es) (inv : InvS 198000 len cap lg es) (hro : RefsOk es) (hkn : kn = true → Has es r ∧ r.length = 32) (hkf : kn = false → lookD (.str r) es = none) :
    TE r tx 13 (fr17 k a g g2 e e2 [(18, .bool kn), (19, eV bad), (21, eV bad)]) (memS (mQ len cap lg nx es [])) 7 := by
  refine TG_seq' (by kernel_rfl) ?_
  cases kn with
  | true =>
    obtain ⟨⟨d0, lv, q0, h1⟩, _⟩ := hkn rfl
    obtain ⟨L, hr1⟩ := ea_19 r tx k a g g2 e e2 true bad d0 lv 0 len cap lg nx es []
    refine TG_is (XL.pin lt25 (get_has len cap lg 0 nx 0 es [] r d0 lv q0 h1 (Nat.le_trans (hro _ _ _ _ h1) (by decide)))) mo anyR (by kernel_rfl) hr1 fun q hq _ => ?_
    rw [List.mem_singleton] at hq; subst hq
    exact ⟨fun p hp => by rw [List.mem_singleton] at hp; subst hp; exact pinEq, fun s' hs' => TG_norm hs' (tE14 r tx hk inv rfl hkn hkf)⟩
  | false =>
    obtain ⟨L, hr1⟩ := ea_19n r tx k a g g2 e e2 false bad len cap lg nx es []
    refine TG_is (XL.pin lt25 (get_no len cap lg 0 nx 0 es [] r (hkf rfl))) mo anyR (by kernel_rfl) hr1 fun q hq _ => ?_
    rw [List.mem_singleton] at hq; subst hq
    exact ⟨fun p hp => by rw [List.mem_singleton] at hp; subst hp; exact pinEq, fun s' hs' => TG_norm hs' (tE14 r tx hk inv rfl hkn hkf)⟩
theorem tE12 {kn : Bool} {bad : Int} (hk : KF a g g2 k e e2 es) (inv : InvS 197000 len cap lg es) (hro : RefsOk es) (hbad : bad = if kn then 0 else if r.length = 32 then 63 else 1) (hkn : kn = true → Has es r ∧ r.length = 32) (hkf : kn = false → lookD (.str r) es = none) :
    TE r tx 12 (fr17 k a g g2 e e2 [(18, .bool kn), (19, eV bad)]) (memS (mQ len cap lg nx es [])) 7 := by
  refine TG_seq' (by kernel_rfl) ?_
  have hle := inv.hle
  have fz : ∀ (g3 : List UInt8) (h' : Tr O) (n' : Nat), CallIs Tryz.prog 15 [P3, .str [114, 101, 102], .lst false 2 [.str a, .str r]] (hY (mQ len cap lg nx es []) (.cells [.str a, .str r])) 8 (.tup [.str g3, eV bad]) h' n' → CallIs Tryz.prog 15 [P3, .str [114, 101, 102], .slc (some (7, 0)) 2 2 1] (hX (mQ len cap lg nx es []) (.cells [.str a, .str r])) 8 (.tup [.str g3, eV bad]) h' n' := fun g3 h' n' hc =>
    hc.frz (ms := [7]) (A := [[D.str a, D.str r].length = 2 * 1]) (by kernel_rfl) (by kernel_rfl) (fun p hp => by rw [List.mem_singleton] at hp; subst hp; rfl)
  have old : ∀ (g3 : List UInt8), CallIs Tryz.prog 15 [P3, .str [114, 101, 102], .lst false 2 [.str a, .str r]] (memS (mQ len cap lg nx es [])) 7 (.tup [.str g3, eV bad]) (memS (mQ len cap lg nx es [])) 7 → TG Tryz.prog 3 Tryz.f7.ntmps (seqL (tailN 12 cdEr)) (stE1 r tx (fr17 k a g g2 e e2 [(18, .bool kn), (19, eV bad)]) (memS (mQ len cap lg nx es [])) 7) (andThen (fun s' => TG Tryz.prog 3 Tryz.f7.ntmps (seqR (tailN 12 cdEr)) s' Fin7) Fin7) := by
    intro g3 hc
    obtain ⟨L, hr1⟩ := ea_18o r tx k a g g2 e e2 kn bad g3 len cap lg nx es []
    refine TG_is (XL.pin lt15 (fz g3 _ _ (own_callIs (pickY len cap lg nx es [] _) (by kernel_rfl) (by kernel_rfl) hc))) mo anyR (by kernel_rfl) hr1 fun q hq _ => ?_
    rw [List.mem_singleton] at hq; subst hq
    exact ⟨fun p hp => by rw [List.mem_singleton] at hp; subst hp; exact pinEq, fun s' hs' => TG_norm hs' (tE13 r tx hk (invS_mono inv (by decide)) hro hkn hkf)⟩
  cases kn with
  | true =>
    have hbad : bad = 0 := hbad
    subst hbad
    obtain ⟨h1, h2⟩ := hkn rfl
    have h32 : ∀ x ∈ [a, r], x.length = 32 := by
      intro x hx
      simp only [List.mem_cons, List.not_mem_nil, or_false] at hx
      rcases hx with rfl | rfl
      · exact hk.hal
      · exact h2
    have hks : ∀ x ∈ [a, r], Has es x := by
      intro x hx
      simp only [List.mem_cons, List.not_mem_nil, or_false] at hx
      rcases hx with rfl | rfl
      · exact hk.ha
      · exact h1
    rcases inv.hen (nameOf [114, 101, 102] [a, r]) with hnew | hold
    · have hrl := recB_lenr [114, 101, 102] h32
      simp only [List.length_cons, List.length_nil] at hrl
      have hc := put_newL [114, 101, 102] len cap lg 0 nx 0 es [] false [a, r] (by decide) (by simp) (by simp) h32 hks hnew inv.hcp inv.hln (by omega)
      obtain ⟨L, hr1⟩ := ea_18w r tx k a g g2 e e2 true 0 (nameOf [114, 101, 102] [a, r]) len cap lg nx es [] (len + (recB [114, 101, 102] [a, r]).length) (lg ++ recB [114, 101, 102] [a, r]) (IntKind.i64.wrap (nx + 1)) (updD (.str (nameOf [114, 101, 102] [a, r])) (entD [114, 101, 102] [a, r] nx) es) []
      refine TG_is (XL.pin lt15 (fz _ _ _ (own_callIs (pickY len cap lg nx es [] _) (by kernel_rfl) (by kernel_rfl) hc))) mo anyR (by kernel_rfl) hr1 fun q hq _ => ?_
      rw [List.mem_singleton] at hq; subst hq
      exact ⟨fun p hp => by rw [List.mem_singleton] at hp; subst hp; exact pinEq, fun s' hs' => TG_norm hs' (tE13 r tx (hk.upd (nameOf_len _ _)) (invS_mono (invS_app inv (recB_len _ _).1 (m := 87) (by omega) (ent_upd inv.hen)) (by decide)) (hro.upd (by simp)) (fun _ => ⟨has_upd h1, h2⟩) (fun h => by cases h))⟩
    · exact old _ (put_oldL [114, 101, 102] len cap lg 0 nx 0 es [] false [a, r] (by decide) (by simp) h32 hks hold)
  | false =>
    have hno := hkf rfl
    by_cases h32 : r.length = 32
    · have hbad : bad = 63 := by rw [hbad, if_neg (by decide), if_pos h32]
      subst hbad
      refine old [] (put_mis false [a, r] len cap lg 0 nx 0 es [] [114, 101, 102] (by decide) (by simp) (fun x hx => ?_) 1 r rfl hno (fun i y hi hy => ?_))
      · simp only [List.mem_cons, List.not_mem_nil, or_false] at hx
        rcases hx with rfl | rfl
        · exact hk.hal
        · exact h32
      · obtain rfl : i = 0 := by omega
        simp only [List.getElem?_cons_zero, Option.some.injEq] at hy
        rw [← hy]; exact hk.ha
    · have hbad : bad = 1 := by rw [hbad, if_neg (by decide), if_neg h32]
      subst hbad
      refine old [] (put_bad false [a, r] len cap lg 0 nx 0 es [] [114, 101, 102] (by decide) (by simp) 1 r rfl h32 (fun i y hi hy => ?_))
      obtain rfl : i = 0 := by omega
      simp only [List.getElem?_cons_zero, Option.some.injEq] at hy
      rw [← hy]; exact hk.hal
theorem tE10 {kn : Bool} (hk : KF a g g2 k e e2 es) (inv : InvS 197000 len cap lg es) (hro : RefsOk es) (hkn : kn = true → Has es r ∧ r.length = 32) (hkf : kn = false → lookD (.str r) es = none) :
    TE r tx 10 (fr17 k a g g2 e e2 [(18, .bool kn)]) (memS (mQ len cap lg nx es [])) 7 := by
  have hO : ∀ n : Nat, Int.ofNat n = (n : Int) := fun _ => rfl
  cases kn with
  | true =>
    obtain ⟨L, hr1⟩ := ea_13k r tx k a g g2 e e2 len cap lg nx es []
    exact TG_isN1 2 XL mo (by kernel_rfl) hr1 all_nil (tE12 r tx hk inv hro rfl hkn hkf)
  | false =>
    by_cases h32 : r.length = 32
    · obtain ⟨L, hr1⟩ := ea_13y r tx k a g g2 e e2 len cap lg nx es []
      exact TG_isN1 2 XL mo (by kernel_rfl) hr1 (fun p hp => by rw [List.mem_singleton] at hp; subst hp; exact veq_t (by rw [hO]; omega)) (tE12 r tx hk inv hro (by rw [if_neg (by decide), if_pos h32]) hkn hkf)
    · obtain ⟨L, hr1⟩ := ea_13n r tx k a g g2 e e2 len cap lg nx es []
      exact TG_isN1 2 XL mo (by kernel_rfl) hr1 (fun p hp => by rw [List.mem_singleton] at hp; subst hp; exact veq_f (by rw [hO]; omega)) (tE12 r tx hk inv hro (by rw [if_neg (by decide), if_neg h32]) hkn hkf)
theorem tE9 (hk : KF a g g2 k e e2 es) (inv : InvS 197000 len cap lg es) (hro : RefsOk es) (hkeys : ∀ x, lookD (.str x) es = none ∨ x = a ∨ x = g ∨ x = g2) :
    TE r tx 9 (fr17 k a g g2 e e2 []) (memS (mQ len cap lg nx es [])) 7 := by
  refine TG_seq' (by kernel_rfl) ?_
  by_cases h0 : r = []
  · obtain ⟨L, hr1⟩ := ea_12A r tx k a g g2 e e2 len cap lg nx es []
    refine TG_is XL mo anyR (by kernel_rfl) hr1 fun q hq _ => ?_
    rw [List.mem_singleton] at hq; subst hq
    exact ⟨fun p hp => by rw [List.mem_singleton] at hp; subst hp; exact vn_f h0, fun s' hs' => TG_norm hs' (tE10 (kn := false) r tx hk inv hro (fun h => by cases h) (fun _ => by rw [h0]; exact hk.hemp))⟩
  by_cases h1 : r = a
  · obtain ⟨L, hr1⟩ := ea_12B r tx k a g g2 e e2 len cap lg nx es []
    refine TG_is XL mo anyR (by kernel_rfl) hr1 fun q hq _ => ?_
    rw [List.mem_singleton] at hq; subst hq
    refine ⟨?_, fun s' hs' => TG_norm hs' (tE10 (kn := true) r tx hk inv hro (fun _ => by rw [h1]; exact ⟨hk.ha, hk.hal⟩) (fun h => by cases h))⟩
    exact List.forall_mem_cons.2 ⟨vn_t h0, List.forall_mem_cons.2 ⟨vq_t h1, all_nil⟩⟩
  by_cases h2 : r = g
  · obtain ⟨L, hr1⟩ := ea_12C r tx k a g g2 e e2 len cap lg nx es []
    refine TG_is XL mo anyR (by kernel_rfl) hr1 fun q hq _ => ?_
    rw [List.mem_singleton] at hq; subst hq
    refine ⟨?_, fun s' hs' => TG_norm hs' (tE10 (kn := true) r tx hk inv hro (fun _ => ?_) (fun h => by cases h))⟩
    · exact List.forall_mem_cons.2 ⟨vn_t h0, List.forall_mem_cons.2 ⟨vq_f h1, List.forall_mem_cons.2 ⟨vq_t h2, all_nil⟩⟩⟩
    · rcases hk.hg with ⟨_, _, h3, h4⟩ | ⟨_, _, h3⟩
      · rw [h2]; exact ⟨h3, h4⟩
      · exact absurd (h2.trans h3) h0
  by_cases h3 : r = g2
  · obtain ⟨L, hr1⟩ := ea_12D r tx k a g g2 e e2 len cap lg nx es []
    refine TG_is XL mo anyR (by kernel_rfl) hr1 fun q hq _ => ?_
    rw [List.mem_singleton] at hq; subst hq
    refine ⟨?_, fun s' hs' => TG_norm hs' (tE10 (kn := true) r tx hk inv hro (fun _ => ?_) (fun h => by cases h))⟩
    · exact List.forall_mem_cons.2 ⟨vn_t h0, List.forall_mem_cons.2 ⟨vq_f h1, List.forall_mem_cons.2 ⟨vq_f h2, List.forall_mem_cons.2 ⟨vq_t h3, all_nil⟩⟩⟩⟩
    · rcases hk.hg2 with ⟨_, _, h4, h5⟩ | ⟨_, _, h4⟩
      · rw [h3]; exact ⟨h4, h5⟩
      · exact absurd (h3.trans h4) h0
  · obtain ⟨L, hr1⟩ := ea_12E r tx k a g g2 e e2 len cap lg nx es []
    refine TG_is XL mo anyR (by kernel_rfl) hr1 fun q hq _ => ?_
    rw [List.mem_singleton] at hq; subst hq
    refine ⟨?_, fun s' hs' => TG_norm hs' (tE10 (kn := false) r tx hk inv hro (fun h => by cases h) (fun _ => ?_))⟩
    · exact List.forall_mem_cons.2 ⟨vn_t h0, List.forall_mem_cons.2 ⟨vq_f h1, List.forall_mem_cons.2 ⟨vq_f h2, List.forall_mem_cons.2 ⟨vq_f h3, all_nil⟩⟩⟩⟩
    · rcases hkeys r with h | h | h | h
      · exact h
      · exact absurd h h1
      · exact absurd h h2
      · exact absurd h h3
structure KE (a g : List UInt8) (k : Nat) (e : Int) (es : List (D × D)) : Prop where
  k8 : k < 8
  ha : Has es a
  hal : a.length = 32
  hg : (k = 0 ∧ e = 0 ∧ Has es g ∧ g.length = 32) ∨ (0 < k ∧ e = 1 ∧ g = [])
  hemp : lookD (.str []) es = none
  hro : RefsOk es
  hkeys : ∀ x, lookD (.str x) es = none ∨ x = a ∨ x = g
abbrev fr13 (k : Nat) (a g : List UInt8) (e : Int) (l : List (Nat × V)) : List (Nat × V) := (9, nV k) :: (10, .str a) :: (11, okE) :: (12, .str g) :: (13, eV e) :: l
theorem strs_rep (m : Nat) (a : List UInt8) : strs (List.replicate m a) = List.replicate m (.str a) := by unfold strs; rw [List.map_replicate]
theorem tE8 (hk : KE a g k e es) (inv : InvS 100000 len cap lg es) {m : Nat} (hm : m = 1024 + k) (cs : List D) (hcs : cs = List.replicate m (.str a)) :
    TE r tx 8 (fr13 k a g e [(14, .slc (some (7, 0)) m m 1), (15, nV m)]) (hX (mQ len cap lg nx es []) (.deep cs)) 8 := by
  refine TG_seq' (by kernel_rfl) ?_
  have hk8 := hk.k8
  have hle := inv.hle
  have hcl : cs.length = m := by rw [hcs, List.length_replicate]
  have fz : ∀ (g3 : List UInt8) (e3 : Int) (h' : Tr O) (n' : Nat), CallIs Tryz.prog 15 [P3, .str [109, 97, 110, 121], .lst false m cs] (hY (mQ len cap lg nx es []) (.deep cs)) 8 (.tup [.str g3, eV e3]) h' n' → CallIs Tryz.prog 15 [P3, .str [109, 97, 110, 121], .slc (some (7, 0)) m m 1] (hX (mQ len cap lg nx es []) (.deep cs)) 8 (.tup [.str g3, eV e3]) h' n' := fun g3 e3 h' n' hc =>
    hc.frz (ms := [7]) (A := [cs.length = m * 1]) (by kernel_rfl) (by kernel_rfl) (fun p hp => by rw [List.mem_singleton] at hp; subst hp; omega)
  have old : ∀ (g3 : List UInt8) (e3 : Int), KF a g g3 k e e3 es → (∀ x, lookD (.str x) es = none ∨ x = a ∨ x = g ∨ x = g3) → CallIs Tryz.prog 15 [P3, .str [109, 97, 110, 121], .lst false m cs] (memS (mQ len cap lg nx es [])) 7 (.tup [.str g3, eV e3]) (memS (mQ len cap lg nx es [])) 7 → TG Tryz.prog 3 Tryz.f7.ntmps (seqL (tailN 8 cdEr)) (stE1 r tx (fr13 k a g e [(14, .slc (some (7, 0)) m m 1), (15, nV m)]) (hX (mQ len cap lg nx es []) (.deep cs)) 8) (andThen (fun s' => TG Tryz.prog 3 Tryz.f7.ntmps (seqR (tailN 8 cdEr)) s' Fin7) Fin7) := by
    intro g3 e3 hkf hkeys hc
    obtain ⟨L, hr1⟩ := ea_11o r tx k a g e g3 e3 m m cs len cap lg nx es []
    refine TG_is (XL.pin lt15 (fz _ _ _ _ (own_callIs (pickY len cap lg nx es [] _) (by kernel_rfl) (by kernel_rfl) hc))) mo anyR (by kernel_rfl) hr1 fun q hq _ => ?_
    rw [List.mem_singleton] at hq; subst hq
    exact ⟨fun p hp => by rw [List.mem_singleton] at hp; subst hp; exact pinEq, fun s' hs' => TG_norm hs' (tE9 r tx hkf (invS_mono inv (by decide)) hk.hro hkeys)⟩
  by_cases h0 : k = 0
  · have hrs : cs = strs (List.replicate m a) := by rw [hcs, strs_rep]
    have hrl : (List.replicate m a).length = m := List.length_replicate
    have h32 : ∀ x ∈ List.replicate m a, x.length = 32 := fun x hx => by rw [(List.mem_replicate.1 hx).2]; exact hk.hal
    have hks : ∀ x ∈ List.replicate m a, Has es x := fun x hx => by rw [(List.mem_replicate.1 hx).2]; exact hk.ha
    rcases inv.hen (nameOf [109, 97, 110, 121] (List.replicate m a)) with hnew | hold
    · have hrb := recB_lenr [109, 97, 110, 121] h32
      simp only [List.length_cons, List.length_nil, hrl] at hrb
      have hc := put_newL [109, 97, 110, 121] len cap lg 0 nx 0 es [] false (List.replicate m a) (by decide) (by omega) (by omega) h32 hks hnew inv.hcp inv.hln (by omega)
      rw [hrl, ← hrs] at hc
      have hkf : KF a g (nameOf [109, 97, 110, 121] (List.replicate m a)) k e 0 (updD (.str (nameOf [109, 97, 110, 121] (List.replicate m a))) (entD [109, 97, 110, 121] (List.replicate m a) nx) es) :=
        ⟨hk8, has_upd hk.ha, hk.hal, hk.hg.imp (fun ⟨x, y, z, w⟩ => ⟨x, y, has_upd z, w⟩) id, .inl ⟨h0, rfl, has_upd_self, nameOf_len _ _⟩, by rw [look_upd, if_neg (ne32 (nameOf_len _ _)).symm]; exact hk.hemp⟩
      obtain ⟨L, hr1⟩ := ea_11w r tx k a g e (nameOf [109, 97, 110, 121] (List.replicate m a)) 0 m m cs len cap lg nx es [] (len + (recB [109, 97, 110, 121] (List.replicate m a)).length) (lg ++ recB [109, 97, 110, 121] (List.replicate m a)) (IntKind.i64.wrap (nx + 1)) (updD (.str (nameOf [109, 97, 110, 121] (List.replicate m a))) (entD [109, 97, 110, 121] (List.replicate m a) nx) es) []
      refine TG_is (XL.pin lt15 (fz _ _ _ _ (own_callIs (pickY len cap lg nx es [] _) (by kernel_rfl) (by kernel_rfl) hc))) mo anyR (by kernel_rfl) hr1 fun q hq _ => ?_
      rw [List.mem_singleton] at hq; subst hq
      refine ⟨fun p hp => by rw [List.mem_singleton] at hp; subst hp; exact pinEq, fun s' hs' => TG_norm hs' (tE9 r tx hkf (invS_mono (invS_app inv (recB_len _ _).1 (m := 40000) (by omega) (ent_upd inv.hen)) (by decide)) (hk.hro.upd (by omega)) (fun x => ?_))⟩
      rw [look_upd]
      by_cases hx : x = nameOf [109, 97, 110, 121] (List.replicate m a)
      · exact .inr (.inr (.inr hx))
      · rw [if_neg hx]
        rcases hk.hkeys x with h | h | h
        · exact .inl h
        · exact .inr (.inl h)
        · exact .inr (.inr (.inl h))
    · have hc := put_oldL [109, 97, 110, 121] len cap lg 0 nx 0 es [] false (List.replicate m a) (by decide) (by omega) h32 hks hold
      rw [hrl, ← hrs] at hc
      refine old _ 0 ⟨hk8, hk.ha, hk.hal, hk.hg, .inl ⟨h0, rfl, hold, nameOf_len _ _⟩, hk.hemp⟩ (fun x => ?_) hc
      rcases hk.hkeys x with h | h | h
      · exact .inl h
      · exact .inr (.inl h)
      · exact .inr (.inr (.inl h))
  · refine old [] 1 ⟨hk8, hk.ha, hk.hal, hk.hg, .inr ⟨by omega, rfl, rfl⟩, hk.hemp⟩ (fun x => ?_) (put_many false len cap lg 0 nx 0 es [] [109, 97, 110, 121] m cs (by decide) (by omega))
    rcases hk.hkeys x with h | h | h
    · exact .inl h
    · exact .inr (.inl h)
    · exact .inr (.inr (.inl h))
def rowD1 (a : List UInt8) (m i : Nat) : List D := List.replicate i (.str a) ++ List.replicate (m - i) (.str [])
theorem rowD1_put {m i : Nat} (h : i < m) : putDs (rowD1 a m i) (0 + (Int.ofNat i).toNat * 1) [D.str a] = rowD1 a m (i + 1) := by
  have e : 0 + (Int.ofNat i).toNat * 1 = i := by show 0 + i * 1 = i; omega
  rw [e]
  unfold putDs rowD1
  have e2 : m - i = (m - (i + 1)) + 1 := by omega
  rw [e2, List.replicate_succ]
  rw [List.take_append_of_le_length (by simp), List.take_of_length_le (by simp)]
  have e3 : List.drop (i + [D.str a].length) (List.replicate i (D.str a) ++ D.str [] :: List.replicate (m - (i + 1)) (D.str [])) = List.replicate (m - (i + 1)) (D.str []) := by
    rw [List.drop_append, List.drop_eq_nil_of_le (by simp), List.nil_append]
    simp
  rw [e3, List.replicate_succ']
  simp
theorem rowD1_len {m i : Nat} (h : i ≤ m) : (rowD1 a m i).length = m := by unfold rowD1; simp; omega
theorem tE7 (hk : KE a g k e es) (inv : InvS 100000 len cap lg es) {m : Nat} (hm : m = 1024 + k) :
    TE r tx 7 (fr13 k a g e [(14, .slc (some (7, 0)) m m 1)]) (hX (mQ len cap lg nx es []) (.deep (List.replicate m (.str [])))) 8 := by
  have hO : ∀ n : Nat, Int.ofNat n = (n : Int) := fun _ => rfl
  have hk8 := hk.k8
  refine TG_seq' (by kernel_rfl) ?_
  refine TG_seq' (by kernel_rfl) ?_
  obtain ⟨L2, hr2⟩ := ea_7 r tx k a g e m (List.replicate m (.str [])) len cap lg nx es []
  refine TG_is XL mo anyR (by kernel_rfl) hr2 fun q hq _ => ?_
  rw [List.mem_singleton] at hq; subst hq
  refine ⟨fun p hp => by rw [List.mem_singleton] at hp; subst hp; rfl, fun s' hs' => ?_⟩
  have h00 : rowD1 a m 0 = List.replicate m (.str []) := by unfold rowD1; simp
  let StH : Nat → St := fun i => stE1 r tx (fr13 k a g e [(14, .slc (some (7, 0)) m m 1), (15, nV i)]) (hX (mQ len cap lg nx es []) (.deep (rowD1 a m i))) 8
  have hs0 : normG 3 [0, 1, 7, 8, 9, 10, 11, 12, 13, 14, 15] s' = some (StH 0) := by rw [hs']; show some _ = some (stE1 r tx _ (hX _ (.deep (rowD1 a m 0))) 8); rw [h00]; rfl
  refine TG_block (i := 0) (by kernel_rfl) (TG_mono (Q1 := fun z s' => z = .exit 0 ∧ ∃ L, normG 3 L s' = some (StH m)) (TG_loop_inv (fun k' s => ∃ i, k' = m - i ∧ i ≤ m ∧ ∃ L, normG 3 L s = some (StH i)) (by kernel_rfl) ?_ m ⟨0, rfl, Nat.zero_le _, _, hs0⟩) ?_)
  · rintro k' s1 ⟨i, hk', hi, L, hs1⟩
    refine TG_norm hs1 ?_
    obtain ⟨L3, hr3⟩ := ea_8 r tx k a g e m i (rowD1 a m i) len cap lg nx es []
    refine TG_is XL mo anyR (by kernel_rfl) hr3 fun q hq hc => ?_
    simp only [List.mem_cons, List.not_mem_nil, or_false] at hq
    rcases hq with rfl | rfl
    · have c1 := of_decide_eq_true (hc _ (List.mem_cons_self ..))
      simp only [hO] at c1
      have hlt : i < m := by omega
      refine ⟨?_, fun s' hs' => ⟨m - (i + 1), by omega, i + 1, rfl, by omega, [0, 1, 7, 8, 9, 10, 11, 12, 13, 14, 15], ?_⟩⟩
      · refine List.forall_mem_cons.2 ⟨⟨Int.natCast_nonneg _, by rw [hO, hO]; omega⟩, List.forall_mem_cons.2 ⟨?_, List.forall_mem_cons.2 ⟨ieq_ok (by rw [hO]; omega) (by omega), all_nil⟩⟩⟩
        rw [rowD1_len hi]; show 0 + i * 1 + 1 ≤ m; omega
      · rw [rowD1_put hlt] at hs'
        exact hs'
    · have c1 := of_decide_eq_false (hc _ (List.mem_cons_self ..))
      simp only [hO] at c1
      obtain rfl : i = m := by omega
      exact ⟨all_nil, fun s' hs' => ⟨rfl, _, hs'⟩⟩
  rintro y s2 ⟨rfl, L, hs2⟩
  rw [outOf_exit]
  simp only [andThen]
  refine TG_norm hs2 (tE8 r tx hk inv hm (rowD1 a m m) ?_)
  unfold rowD1; simp
theorem tE6 (hk : KE a g k e es) (inv : InvS 100000 len cap lg es) :
    TE r tx 6 (fr13 k a g e []) (memS (mQ len cap lg nx es [])) 7 := by
  refine TG_seq' (by kernel_rfl) ?_
  have hk8 := hk.k8
  obtain ⟨L, hr1⟩ := ea_6 r tx k a g e len cap lg nx es []
  have h1 := zW_is (m := 1024 + k) (by omega)
  have h2 := zN_is (m := 1024 + k) (by omega)
  rw [h2, repD_is] at hr1
  refine TG_is XL mo anyR (by kernel_rfl) hr1 fun q hq _ => ?_
  rw [List.mem_singleton] at hq; subst hq
  refine ⟨?_, fun s' hs' => TG_norm hs' (tE7 r tx hk inv rfl)⟩
  refine List.forall_mem_cons.2 ⟨?_, List.forall_mem_cons.2 ⟨?_, all_nil⟩⟩
  · rw [show ((1024 : Int) + Int.ofNat k) = Int.ofNat (1024 + k) from rfl, h1]; rfl
  · rw [h1]; omega
theorem tE5 (hk8 : k < 8) (ha : Has es a) (hal : a.length = 32) (inv : InvS 100 len cap lg es) (hemp : lookD (.str []) es = none) (hro : RefsOk es) (hkeys : ∀ x, lookD (.str x) es = none ∨ x = a) :
    TE r tx 5 [(9, nV k), (10, .str a), (11, okE)] (memS (mQ len cap lg nx es [])) 7 := by
  refine TG_seq' (by kernel_rfl) ?_
  have hle := inv.hle
  obtain ⟨m1, m2, m3, m4⟩ := make_asks (m0 := 65536) (k := k) (by omega)
  have old : ∀ (g : List UInt8) (e : Int), KE a g k e es → CallIs Tryz.prog 15 [P3, .str (zeros (65536 + k)), nilS] (memS (mQ len cap lg nx es [])) 7 (.tup [.str g, eV e]) (memS (mQ len cap lg nx es [])) 7 → TG Tryz.prog 3 Tryz.f7.ntmps (seqL (tailN 5 cdEr)) (stE1 r tx [(9, nV k), (10, .str a), (11, okE)] (memS (mQ len cap lg nx es [])) 7) (andThen (fun s' => TG Tryz.prog 3 Tryz.f7.ntmps (seqR (tailN 5 cdEr)) s' Fin7) Fin7) := by
    intro g e hk hc
    obtain ⟨L, hr1⟩ := ea_5o r tx k a (zeros (65536 + k)) g e (repI [(0 : Int)] (IntKind.i64.wrap (Int.ofNat (65536 + k))).toNat) len cap lg nx es []
    refine TG_is (XL.pin lt15 (own_callIs (pickX len cap lg nx es [] _) (by kernel_rfl) (by kernel_rfl) hc)) mo anyR (by kernel_rfl) hr1 fun q hq _ => ?_
    rw [List.mem_singleton] at hq; subst hq
    refine ⟨?_, fun s' hs' => TG_norm hs' (tE6 r tx hk (invS_mono inv (by decide)))⟩
    exact List.forall_mem_cons.2 ⟨m1, List.forall_mem_cons.2 ⟨m2, List.forall_mem_cons.2 ⟨m3, List.forall_mem_cons.2 ⟨m4, List.forall_mem_cons.2 ⟨pinEq, all_nil⟩⟩⟩⟩⟩
  have hzl := zeros_len (65536 + k)
  by_cases h0 : k = 0
  · rcases inv.hen (nameOf (zeros (65536 + k)) []) with hnew | hold
    · have hrb := recB_lenr (zeros (65536 + k)) (rs := []) (by simp)
      simp only [List.length_nil] at hrb
      have hc := put_new0 (zeros (65536 + k)) len cap lg 0 nx 0 es [] (by omega) hnew inv.hcp inv.hln (by omega)
      have hk : KE a (nameOf (zeros (65536 + k)) []) k 0 (updD (.str (nameOf (zeros (65536 + k)) [])) (entD (zeros (65536 + k)) [] nx) es) :=
        ⟨hk8, has_upd ha, hal, .inl ⟨h0, rfl, has_upd_self, nameOf_len _ _⟩, by rw [look_upd, if_neg (ne32 (nameOf_len _ _)).symm]; exact hemp, hro.upd (by simp), fun x => by
          rw [look_upd]
          by_cases hx : x = nameOf (zeros (65536 + k)) []
          · exact .inr (.inr hx)
          · rw [if_neg hx]; exact (hkeys x).imp id .inl⟩
      obtain ⟨L, hr1⟩ := ea_5w r tx k a (zeros (65536 + k)) (nameOf (zeros (65536 + k)) []) 0 (repI [(0 : Int)] (IntKind.i64.wrap (Int.ofNat (65536 + k))).toNat) len cap lg nx es [] (len + (recB (zeros (65536 + k)) []).length) (lg ++ recB (zeros (65536 + k)) []) (IntKind.i64.wrap (nx + 1)) (updD (.str (nameOf (zeros (65536 + k)) [])) (entD (zeros (65536 + k)) [] nx) es) []
      refine TG_is (XL.pin lt15 (own_callIs (pickX len cap lg nx es [] _) (by kernel_rfl) (by kernel_rfl) hc)) mo anyR (by kernel_rfl) hr1 fun q hq _ => ?_
      rw [List.mem_singleton] at hq; subst hq
      refine ⟨?_, fun s' hs' => TG_norm hs' (tE6 r tx hk (invS_mono (invS_app inv (recB_len _ _).1 (m := 66000) (by omega) (ent_upd inv.hen)) (by decide)))⟩
      exact List.forall_mem_cons.2 ⟨m1, List.forall_mem_cons.2 ⟨m2, List.forall_mem_cons.2 ⟨m3, List.forall_mem_cons.2 ⟨m4, List.forall_mem_cons.2 ⟨pinEq, all_nil⟩⟩⟩⟩⟩
    · exact old _ 0 ⟨hk8, ha, hal, .inl ⟨h0, rfl, hold, nameOf_len _ _⟩, hemp, hro, fun x => (hkeys x).imp id .inl⟩ (put_old0 (zeros (65536 + k)) len cap lg 0 nx 0 es [] (by omega) hold)
  · exact old [] 1 ⟨hk8, ha, hal, .inr ⟨by omega, rfl, rfl⟩, hemp, hro, fun x => (hkeys x).imp id .inl⟩ (put_long len cap lg 0 nx 0 es [] (zeros (65536 + k)) (by omega))
theorem tgEr (nn : Int) (hn0 : 0 ≤ nn) (hn : nn ≤ 255) : TG Tryz.prog 3 Tryz.f7.ntmps cdEr (startSt [.str r, .str tx, .int .u8 nn] (hSR gS gR) 3) Fin7 := by
  have hO : ∀ n : Nat, Int.ofNat n = (n : Int) := fun _ => rfl
  obtain ⟨k, hk8, hk⟩ : ∃ k : Nat, k < 8 ∧ nn.tmod 8 = (k : Int) := by
    refine ⟨(nn.tmod 8).toNat, ?_, ?_⟩
    · have h1 := Int.tmod_lt_of_pos nn (show (0 : Int) < 8 by decide)
      have h2 := Int.tmod_nonneg 8 hn0
      omega
    · have h2 := Int.tmod_nonneg 8 hn0
      omega
  obtain ⟨L1, hr1⟩ := ea_1 r tx nn
  refine TG_isN1 3 XL mo (by kernel_rfl) hr1 (fun p hp => ?_) ?_
  · simp only [List.mem_cons, List.not_mem_nil, or_false] at hp
    rcases hp with rfl | rfl <;> first | rfl | trivial
  refine TG_map [(4, none), (5, none)] (s2 := stE1 r tx [(2, .int .u8 nn)] (mem0 0 0 0 [] []) 6) (by kernel_rfl) ?_
  refine TG_seq' (by kernel_rfl) ?_
  obtain ⟨L3, hr3⟩ := ea_3 r tx nn k
  refine TG_is XL mo anyR (by kernel_rfl) hr3 fun q hq _ => ?_
  rw [List.mem_singleton] at hq; subst hq
  refine ⟨fun p hp => ?_, fun s' hs' => TG_norm hs' ?_⟩
  · rw [List.mem_singleton] at hp; subst hp
    rw [hk, wrap_id (by omega) (by omega)]; rfl
  refine TG_seq' (by kernel_rfl) ?_
  have hrl := recB_lenr [] (rs := []) (by simp)
  have hr0 := (recB_len [] []).1
  simp only [List.length_nil] at hrl
  obtain ⟨L4, hr4⟩ := ea_4 r tx k (nameOf [] []) (recB [] []).length (recB [] []) (IntKind.i64.wrap (0 + 1)) (updD (.str (nameOf [] [])) (entD [] [] 0) []) []
  refine TG_is (XL.pin lt15 (put_first [] 0 0 0 [] [] (by decide) rfl)) mo anyR (by kernel_rfl) hr4 fun q hq _ => ?_
  rw [List.mem_singleton] at hq; subst hq
  refine ⟨fun p hp => by rw [List.mem_singleton] at hp; subst hp; exact pinEq, fun s' hs' => TG_norm hs' ?_⟩
  refine tE5 r tx hk8 has_upd_self (nameOf_len _ _) ⟨rfl, hr0, by omega, ent_upd ent_nil⟩ ?_ ?_ fun x => ?_
  · rw [look_upd, if_neg (ne32 (nameOf_len _ _)).symm]; rfl
  · exact RefsOk.upd (fun x d rs q hx => by cases hx) (by simp)
  · rw [look_upd]
    by_cases hx : x = nameOf [] []
    · exact .inr hx
    · rw [if_neg hx]; exact .inl rfl
end
end Go.Proofs.YtfihojpgobmmdaaGreatDoor
