/- Filter laws, part B: more small functions at open arguments. No conditions. -/
import Derived.Test.YtpkpcnohnlhjlaaEngFilA
import Derived.Test.YtpkpcnohnlhjlaaEngFour
namespace Go.Proofs.Ytpkpcnohnlhjlaa
open Go Go.Eng
def pointsB (n : Int) : Bool := decide (n ≥ 2) && decide (n ≤ 257)
def outB (k : Int) : Bool := !(within k (-4096) 4096)

def spec63 : List V → Tr O → Option (List Prop × V)
  | [.int .i64 n], _ => some ([], .bool (pointsB n))
  | _, _ => none
theorem ok63 (n : Int) : funOk Try.prog S3 cf0 [(4, .split)] 1000 (bodyOf Try.f63) [.int .i64 n] .nil 0 = true := by kernel_rfl
theorem sm63 (n : Int) : samesL (funM Try.prog S3 cf0 [(4, .split)] 1000 (bodyOf Try.f63) [.int .i64 n] .nil 0) = samesR (funM Try.prog S3 cf0 [(4, .split)] 1000 (bodyOf Try.f63) [.int .i64 n] .nil 0) := by kernel_rfl
theorem hr63 (n : Int) : tells (retOf Try.prog (joinA S3 cf0) 1000 Try.f63) (funM Try.prog S3 cf0 [(4, .split)] 1000 (bodyOf Try.f63) [.int .i64 n] .nil 0) =
    [([(decide (n ≥ 2), true)], [], some (.bool (decide (n ≤ 257)))), ([(decide (n ≥ 2), false)], [], some (.bool false))] := by kernel_rfl
theorem p63 : PureA Try.prog 63 spec63 := by
  refine ⟨Nat.le_of_ble_eq_true (by kernel_rfl), fun args h A v e => ?_⟩
  unfold spec63 at e
  split at e
  · rename_i n
    simp only [Option.some.injEq, Prod.mk.injEq] at e; obtain ⟨rfl, rfl⟩ := e
    refine ⟨by kernel_rfl, fun _ E_ n_ w_ args_ ra_ g_ hd_ hc_ => calls_tells mo po S3_ok cf0_ok Try.func63 (by kernel_rfl) (by kernel_rfl) ra_ (by kernel_rfl) _ (ok63 n) (sm63 n) (hr63 n) ?_⟩
    intro g hg hc; simp only [List.mem_cons, List.not_mem_nil, or_false] at hg; rcases hg with rfl | rfl <;> simp_all [pointsB] <;> (intros; omega)
  · cases e

def spec61 : List V → Tr O → Option (List Prop × V)
  | [.int .i64 n], _ => some ([], .bool (pointsB n))
  | _, _ => none
theorem ok61 (n : Int) : funOk Try.prog S3 cf0 [(4, .split)] 1000 (bodyOf Try.f61) [.int .i64 n] .nil 0 = true := by kernel_rfl
theorem sm61 (n : Int) : samesL (funM Try.prog S3 cf0 [(4, .split)] 1000 (bodyOf Try.f61) [.int .i64 n] .nil 0) = samesR (funM Try.prog S3 cf0 [(4, .split)] 1000 (bodyOf Try.f61) [.int .i64 n] .nil 0) := by kernel_rfl
theorem hr61 (n : Int) : tells (retOf Try.prog (joinA S3 cf0) 1000 Try.f61) (funM Try.prog S3 cf0 [(4, .split)] 1000 (bodyOf Try.f61) [.int .i64 n] .nil 0) =
    [([(decide (n ≥ 2), true)], [], some (.bool (decide (n ≤ 257)))), ([(decide (n ≥ 2), false)], [], some (.bool false))] := by kernel_rfl
theorem p61 : PureA Try.prog 61 spec61 := by
  refine ⟨Nat.le_of_ble_eq_true (by kernel_rfl), fun args h A v e => ?_⟩
  unfold spec61 at e
  split at e
  · rename_i n
    simp only [Option.some.injEq, Prod.mk.injEq] at e; obtain ⟨rfl, rfl⟩ := e
    refine ⟨by kernel_rfl, fun _ E_ n_ w_ args_ ra_ g_ hd_ hc_ => calls_tells mo po S3_ok cf0_ok Try.func61 (by kernel_rfl) (by kernel_rfl) ra_ (by kernel_rfl) _ (ok61 n) (sm61 n) (hr61 n) ?_⟩
    intro g hg hc; simp only [List.mem_cons, List.not_mem_nil, or_false] at hg; rcases hg with rfl | rfl <;> simp_all [pointsB] <;> (intros; omega)
  · cases e

def spec45 : List V → Tr O → Option (List Prop × V)
  | [.int .i64 k], _ => some ([], .bool (within k 1 4))
  | _, _ => none
theorem ok45 (k : Int) : funOk Try.prog S3 cf0 [] 1000 (bodyOf Try.f45) [.int .i64 k] .nil 0 = true := by kernel_rfl
theorem sm45 (k : Int) : samesL (funM Try.prog S3 cf0 [] 1000 (bodyOf Try.f45) [.int .i64 k] .nil 0) = samesR (funM Try.prog S3 cf0 [] 1000 (bodyOf Try.f45) [.int .i64 k] .nil 0) := by kernel_rfl
theorem hr45 (k : Int) : tells (retOf Try.prog (joinA S3 cf0) 1000 Try.f45) (funM Try.prog S3 cf0 [] 1000 (bodyOf Try.f45) [.int .i64 k] .nil 0) =
    [([], [], some (.bool (within k 1 4)))] := by kernel_rfl
theorem p45 : PureA Try.prog 45 spec45 := by
  refine ⟨Nat.le_of_ble_eq_true (by kernel_rfl), fun args h A v e => ?_⟩
  unfold spec45 at e
  split at e
  · rename_i k
    simp only [Option.some.injEq, Prod.mk.injEq] at e; obtain ⟨rfl, rfl⟩ := e
    refine ⟨by kernel_rfl, fun _ E_ n_ w_ args_ ra_ g_ hd_ hc_ => calls_tells mo po S3_ok cf0_ok Try.func45 (by kernel_rfl) (by kernel_rfl) ra_ (by kernel_rfl) _ (ok45 k) (sm45 k) (hr45 k) ?_⟩
    intro g hg hc; simp only [List.mem_cons, List.not_mem_nil, or_false] at hg; subst hg; simp
  · cases e

def spec39 : List V → Tr O → Option (List Prop × V)
  | [.int .i64 k], _ => some ([], .bool (outB k))
  | _, _ => none
theorem ok39 (k : Int) : funOk Try.prog S3 cf0 [] 1000 (bodyOf Try.f39) [.int .i64 k] .nil 0 = true := by kernel_rfl
theorem sm39 (k : Int) : samesL (funM Try.prog S3 cf0 [] 1000 (bodyOf Try.f39) [.int .i64 k] .nil 0) = samesR (funM Try.prog S3 cf0 [] 1000 (bodyOf Try.f39) [.int .i64 k] .nil 0) := by kernel_rfl
theorem hr39 (k : Int) : tells (retOf Try.prog (joinA S3 cf0) 1000 Try.f39) (funM Try.prog S3 cf0 [] 1000 (bodyOf Try.f39) [.int .i64 k] .nil 0) =
    [([], [], some (.bool (outB k)))] := by kernel_rfl
theorem p39 : PureA Try.prog 39 spec39 := by
  refine ⟨Nat.le_of_ble_eq_true (by kernel_rfl), fun args h A v e => ?_⟩
  unfold spec39 at e
  split at e
  · rename_i k
    simp only [Option.some.injEq, Prod.mk.injEq] at e; obtain ⟨rfl, rfl⟩ := e
    refine ⟨by kernel_rfl, fun _ E_ n_ w_ args_ ra_ g_ hd_ hc_ => calls_tells mo po S3_ok cf0_ok Try.func39 (by kernel_rfl) (by kernel_rfl) ra_ (by kernel_rfl) _ (ok39 k) (sm39 k) (hr39 k) ?_⟩
    intro g hg hc; simp only [List.mem_cons, List.not_mem_nil, or_false] at hg; subst hg; simp
  · cases e

def spec84 : List V → Tr O → Option (List Prop × V)
  | [.int .i64 x], _ => some ([], .bool false)
  | _, _ => none
theorem ok84 (x : Int) : funOk Try.prog S3 cf0 [(5, .give (.bool false))] 1000 (bodyOf Try.f84) [.int .i64 x] .nil 0 = true := by kernel_rfl
theorem sm84 (x : Int) : samesL (funM Try.prog S3 cf0 [(5, .give (.bool false))] 1000 (bodyOf Try.f84) [.int .i64 x] .nil 0) = samesR (funM Try.prog S3 cf0 [(5, .give (.bool false))] 1000 (bodyOf Try.f84) [.int .i64 x] .nil 0) := by kernel_rfl
theorem hr84 (x : Int) : tells (retOf Try.prog (joinA S3 cf0) 1000 Try.f84) (funM Try.prog S3 cf0 [(5, .give (.bool false))] 1000 (bodyOf Try.f84) [.int .i64 x] .nil 0) =
    [([], [V.bool (!decide (x = x)) = V.bool false], some (.bool false))] := by kernel_rfl
theorem p84 : PureA Try.prog 84 spec84 := by
  refine ⟨Nat.le_of_ble_eq_true (by kernel_rfl), fun args h A v e => ?_⟩
  unfold spec84 at e
  split at e
  · rename_i x
    simp only [Option.some.injEq, Prod.mk.injEq] at e; obtain ⟨rfl, rfl⟩ := e
    refine ⟨by kernel_rfl, fun _ E_ n_ w_ args_ ra_ g_ hd_ hc_ => calls_tells mo po S3_ok cf0_ok Try.func84 (by kernel_rfl) (by kernel_rfl) ra_ (by kernel_rfl) _ (ok84 x) (sm84 x) (hr84 x) ?_⟩
    intro g hg hc; simp only [List.mem_cons, List.not_mem_nil, or_false] at hg; subst hg; simp
  · cases e

abbrev S4 : Ctr := (addS 84 spec84 (addS 39 spec39 (addS 45 spec45 (addS 61 spec61 (addS 63 spec63 S3)))))
theorem S4_ok : CtrOk Try.prog S4 := (addS_ok p84 (addS_ok p39 (addS_ok p45 (addS_ok p61 (addS_ok p63 S3_ok)))))

def spec78 : List V → Tr O → Option (List Prop × V)
  | [.int .i64 x, .int .i64 y], _ => some ([], .bool (decide (x < y)))
  | _, _ => none
theorem ok78 (x : Int) (y : Int) : funOk Try.prog S4 cf0 [] 1000 (bodyOf Try.f78) [.int .i64 x, .int .i64 y] .nil 0 = true := by kernel_rfl
theorem sm78 (x : Int) (y : Int) : samesL (funM Try.prog S4 cf0 [] 1000 (bodyOf Try.f78) [.int .i64 x, .int .i64 y] .nil 0) = samesR (funM Try.prog S4 cf0 [] 1000 (bodyOf Try.f78) [.int .i64 x, .int .i64 y] .nil 0) := by kernel_rfl
theorem hr78 (x : Int) (y : Int) : tells (retOf Try.prog (joinA S4 cf0) 1000 Try.f78) (funM Try.prog S4 cf0 [] 1000 (bodyOf Try.f78) [.int .i64 x, .int .i64 y] .nil 0) =
    [([], [], some (.bool (decide (x < y))))] := by kernel_rfl
theorem p78 : PureA Try.prog 78 spec78 := by
  refine ⟨Nat.le_of_ble_eq_true (by kernel_rfl), fun args h A v e => ?_⟩
  unfold spec78 at e
  split at e
  · rename_i x y
    simp only [Option.some.injEq, Prod.mk.injEq] at e; obtain ⟨rfl, rfl⟩ := e
    refine ⟨by kernel_rfl, fun _ E_ n_ w_ args_ ra_ g_ hd_ hc_ => calls_tells mo po S4_ok cf0_ok Try.func78 (by kernel_rfl) (by kernel_rfl) ra_ (by kernel_rfl) _ (ok78 x y) (sm78 x y) (hr78 x y) ?_⟩
    intro g hg hc; simp only [List.mem_cons, List.not_mem_nil, or_false] at hg; subst hg; simp
  · cases e

abbrev S5 : Ctr := (addS 78 spec78 S4)
theorem S5_ok : CtrOk Try.prog S5 := (addS_ok p78 S4_ok)
end Go.Proofs.Ytpkpcnohnlhjlaa
