/- Filter laws, part A: small functions at open arguments. No conditions. -/
import Derived.Test.YtpkpcnohnlhjlaaEngFil
import Derived.Test.YtpkpcnohnlhjlaaEngFour
namespace Go.Proofs.Ytpkpcnohnlhjlaa
open Go Go.Eng

noncomputable def bodyOf (f : Func) : Code := match f.body with | some c => c | none => .skip
noncomputable def cf0 : CallF := callM Try.prog specs 1000 60
theorem cf0_ok : CallOk Try.prog cf0 := callM_ok mo po specs_ok 60
abbrev S0 : Ctr := noCtr
theorem S0_ok : CtrOk Try.prog S0 := noCtr_ok _

abbrev i64 (x : Int) : V := .int .i64 x
abbrev Q4 := Int × Int × Int × Int
abbrev rectV (q : Q4) : V := .agg [i64 q.1, i64 q.2.1, i64 q.2.2.1, i64 q.2.2.2]
def zeroQ : Q4 := (0, 0, 0, 0)
def w64 (x : Int) : Int := IntKind.i64.wrap x

def within (x lo hi : Int) : Bool := decide (lo ≤ x) && decide (x ≤ hi)
def emptyB (x0 y0 x1 y1 : Int) : Bool := decide (x0 ≥ x1) || decide (y0 ≥ y1)
def normQ (x0 y0 x1 y1 : Int) : Q4 := if emptyB x0 y0 x1 y1 = true then zeroQ else (x0, y0, x1, y1)
def growQ (x0 y0 x1 y1 n : Int) : Q4 := if emptyB x0 y0 x1 y1 = true then zeroQ else normQ (w64 (x0 - n)) (w64 (y0 - n)) (w64 (x1 + n)) (w64 (y1 + n))
def moveQ (x0 y0 x1 y1 x y : Int) : Q4 := if emptyB x0 y0 x1 y1 = true then zeroQ else normQ (w64 (x0 + x)) (w64 (y0 + y)) (w64 (x1 + x)) (w64 (y1 + y))

def spec40 : List V → Tr O → Option (List Prop × V)
  | [.int .i64 x, .int .i64 lo, .int .i64 hi], _ => some ([], .bool (within x lo hi))
  | _, _ => none
theorem ok40 (x : Int) (lo : Int) (hi : Int) : funOk Try.prog S0 cf0 [(9, .split)] 1000 (bodyOf Try.f40) [.int .i64 x, .int .i64 lo, .int .i64 hi] .nil 0 = true := by kernel_rfl
theorem sm40 (x : Int) (lo : Int) (hi : Int) : samesL (funM Try.prog S0 cf0 [(9, .split)] 1000 (bodyOf Try.f40) [.int .i64 x, .int .i64 lo, .int .i64 hi] .nil 0) = samesR (funM Try.prog S0 cf0 [(9, .split)] 1000 (bodyOf Try.f40) [.int .i64 x, .int .i64 lo, .int .i64 hi] .nil 0) := by kernel_rfl
theorem hr40 (x : Int) (lo : Int) (hi : Int) : tells (retOf Try.prog (joinA S0 cf0) 1000 Try.f40) (funM Try.prog S0 cf0 [(9, .split)] 1000 (bodyOf Try.f40) [.int .i64 x, .int .i64 lo, .int .i64 hi] .nil 0) =
    [([(decide (lo ≤ x), true)], [], some (.bool (decide (x ≤ hi)))), ([(decide (lo ≤ x), false)], [], some (.bool false))] := by kernel_rfl
theorem p40 : PureA Try.prog 40 spec40 := by
  refine ⟨Nat.le_of_ble_eq_true (by kernel_rfl), fun args h A v e => ?_⟩
  unfold spec40 at e
  split at e
  · rename_i x lo hi
    simp only [Option.some.injEq, Prod.mk.injEq] at e; obtain ⟨rfl, rfl⟩ := e
    refine ⟨by kernel_rfl, fun _ E_ n_ w_ args_ ra_ g_ hd_ hc_ => calls_tells mo po S0_ok cf0_ok Try.func40 (by kernel_rfl) (by kernel_rfl) ra_ (by kernel_rfl) _ (ok40 x lo hi) (sm40 x lo hi) (hr40 x lo hi) ?_⟩
    intro g hg hc; simp only [List.mem_cons, List.not_mem_nil, or_false] at hg; rcases hg with rfl | rfl <;> simp_all [within] <;> (intros; omega)
  · cases e

def spec44 : List V → Tr O → Option (List Prop × V)
  | [.agg [.int .i64 x0, .int .i64 y0, .int .i64 x1, .int .i64 y1]], _ => some ([], .bool (emptyB x0 y0 x1 y1))
  | _, _ => none
theorem ok44 (x0 : Int) (y0 : Int) (x1 : Int) (y1 : Int) : funOk Try.prog S0 cf0 [(7, .split)] 1000 (bodyOf Try.f44) [.agg [.int .i64 x0, .int .i64 y0, .int .i64 x1, .int .i64 y1]] .nil 0 = true := by kernel_rfl
theorem sm44 (x0 : Int) (y0 : Int) (x1 : Int) (y1 : Int) : samesL (funM Try.prog S0 cf0 [(7, .split)] 1000 (bodyOf Try.f44) [.agg [.int .i64 x0, .int .i64 y0, .int .i64 x1, .int .i64 y1]] .nil 0) = samesR (funM Try.prog S0 cf0 [(7, .split)] 1000 (bodyOf Try.f44) [.agg [.int .i64 x0, .int .i64 y0, .int .i64 x1, .int .i64 y1]] .nil 0) := by kernel_rfl
theorem hr44 (x0 : Int) (y0 : Int) (x1 : Int) (y1 : Int) : tells (retOf Try.prog (joinA S0 cf0) 1000 Try.f44) (funM Try.prog S0 cf0 [(7, .split)] 1000 (bodyOf Try.f44) [.agg [.int .i64 x0, .int .i64 y0, .int .i64 x1, .int .i64 y1]] .nil 0) =
    [([(decide (x0 ≥ x1), true)], [], some (.bool true)), ([(decide (x0 ≥ x1), false)], [], some (.bool (decide (y0 ≥ y1))))] := by kernel_rfl
theorem p44 : PureA Try.prog 44 spec44 := by
  refine ⟨Nat.le_of_ble_eq_true (by kernel_rfl), fun args h A v e => ?_⟩
  unfold spec44 at e
  split at e
  · rename_i x0 y0 x1 y1
    simp only [Option.some.injEq, Prod.mk.injEq] at e; obtain ⟨rfl, rfl⟩ := e
    refine ⟨by kernel_rfl, fun _ E_ n_ w_ args_ ra_ g_ hd_ hc_ => calls_tells mo po S0_ok cf0_ok Try.func44 (by kernel_rfl) (by kernel_rfl) ra_ (by kernel_rfl) _ (ok44 x0 y0 x1 y1) (sm44 x0 y0 x1 y1) (hr44 x0 y0 x1 y1) ?_⟩
    intro g hg hc; simp only [List.mem_cons, List.not_mem_nil, or_false] at hg; rcases hg with rfl | rfl <;> simp_all [emptyB] <;> (intros; omega)
  · cases e

def spec29 : List V → Tr O → Option (List Prop × V)
  | [.agg [.int .i64 x0, .int .i64 y0, .int .i64 x1, .int .i64 y1]], _ => some ([], .bool (emptyB x0 y0 x1 y1))
  | _, _ => none
theorem ok29 (x0 : Int) (y0 : Int) (x1 : Int) (y1 : Int) : funOk Try.prog S0 cf0 [(7, .split)] 1000 (bodyOf Try.f29) [.agg [.int .i64 x0, .int .i64 y0, .int .i64 x1, .int .i64 y1]] .nil 0 = true := by kernel_rfl
theorem sm29 (x0 : Int) (y0 : Int) (x1 : Int) (y1 : Int) : samesL (funM Try.prog S0 cf0 [(7, .split)] 1000 (bodyOf Try.f29) [.agg [.int .i64 x0, .int .i64 y0, .int .i64 x1, .int .i64 y1]] .nil 0) = samesR (funM Try.prog S0 cf0 [(7, .split)] 1000 (bodyOf Try.f29) [.agg [.int .i64 x0, .int .i64 y0, .int .i64 x1, .int .i64 y1]] .nil 0) := by kernel_rfl
theorem hr29 (x0 : Int) (y0 : Int) (x1 : Int) (y1 : Int) : tells (retOf Try.prog (joinA S0 cf0) 1000 Try.f29) (funM Try.prog S0 cf0 [(7, .split)] 1000 (bodyOf Try.f29) [.agg [.int .i64 x0, .int .i64 y0, .int .i64 x1, .int .i64 y1]] .nil 0) =
    [([(decide (x0 ≥ x1), true)], [], some (.bool true)), ([(decide (x0 ≥ x1), false)], [], some (.bool (decide (y0 ≥ y1))))] := by kernel_rfl
theorem p29 : PureA Try.prog 29 spec29 := by
  refine ⟨Nat.le_of_ble_eq_true (by kernel_rfl), fun args h A v e => ?_⟩
  unfold spec29 at e
  split at e
  · rename_i x0 y0 x1 y1
    simp only [Option.some.injEq, Prod.mk.injEq] at e; obtain ⟨rfl, rfl⟩ := e
    refine ⟨by kernel_rfl, fun _ E_ n_ w_ args_ ra_ g_ hd_ hc_ => calls_tells mo po S0_ok cf0_ok Try.func29 (by kernel_rfl) (by kernel_rfl) ra_ (by kernel_rfl) _ (ok29 x0 y0 x1 y1) (sm29 x0 y0 x1 y1) (hr29 x0 y0 x1 y1) ?_⟩
    intro g hg hc; simp only [List.mem_cons, List.not_mem_nil, or_false] at hg; rcases hg with rfl | rfl <;> simp_all [emptyB] <;> (intros; omega)
  · cases e

abbrev S1 : Ctr := (addS 29 spec29 (addS 44 spec44 (addS 40 spec40 S0)))
theorem S1_ok : CtrOk Try.prog S1 := (addS_ok p29 (addS_ok p44 (addS_ok p40 S0_ok)))

def spec65 : List V → Tr O → Option (List Prop × V)
  | [.agg [.int .i64 x0, .int .i64 y0, .int .i64 x1, .int .i64 y1]], _ => some ([], rectV (normQ x0 y0 x1 y1))
  | _, _ => none
theorem ok65 (x0 : Int) (y0 : Int) (x1 : Int) (y1 : Int) : funOk Try.prog S1 cf0 [(4, .split)] 1000 (bodyOf Try.f65) [.agg [.int .i64 x0, .int .i64 y0, .int .i64 x1, .int .i64 y1]] .nil 0 = true := by kernel_rfl
theorem sm65 (x0 : Int) (y0 : Int) (x1 : Int) (y1 : Int) : samesL (funM Try.prog S1 cf0 [(4, .split)] 1000 (bodyOf Try.f65) [.agg [.int .i64 x0, .int .i64 y0, .int .i64 x1, .int .i64 y1]] .nil 0) = samesR (funM Try.prog S1 cf0 [(4, .split)] 1000 (bodyOf Try.f65) [.agg [.int .i64 x0, .int .i64 y0, .int .i64 x1, .int .i64 y1]] .nil 0) := by kernel_rfl
theorem hr65 (x0 : Int) (y0 : Int) (x1 : Int) (y1 : Int) : tells (retOf Try.prog (joinA S1 cf0) 1000 Try.f65) (funM Try.prog S1 cf0 [(4, .split)] 1000 (bodyOf Try.f65) [.agg [.int .i64 x0, .int .i64 y0, .int .i64 x1, .int .i64 y1]] .nil 0) =
    [([(emptyB x0 y0 x1 y1, true)], [], some (rectV zeroQ)), ([(emptyB x0 y0 x1 y1, false)], [], some (rectV (x0, y0, x1, y1)))] := by kernel_rfl
theorem p65 : PureA Try.prog 65 spec65 := by
  refine ⟨Nat.le_of_ble_eq_true (by kernel_rfl), fun args h A v e => ?_⟩
  unfold spec65 at e
  split at e
  · rename_i x0 y0 x1 y1
    simp only [Option.some.injEq, Prod.mk.injEq] at e; obtain ⟨rfl, rfl⟩ := e
    refine ⟨by kernel_rfl, fun _ E_ n_ w_ args_ ra_ g_ hd_ hc_ => calls_tells mo po S1_ok cf0_ok Try.func65 (by kernel_rfl) (by kernel_rfl) ra_ (by kernel_rfl) _ (ok65 x0 y0 x1 y1) (sm65 x0 y0 x1 y1) (hr65 x0 y0 x1 y1) ?_⟩
    intro g hg hc; simp only [List.mem_cons, List.not_mem_nil, or_false] at hg; rcases hg with rfl | rfl <;> simp_all [normQ] <;> (intros; omega)
  · cases e

def spec66 : List V → Tr O → Option (List Prop × V)
  | [.agg [.int .i64 x0, .int .i64 y0, .int .i64 x1, .int .i64 y1]], _ => some ([], rectV (normQ x0 y0 x1 y1))
  | _, _ => none
theorem ok66 (x0 : Int) (y0 : Int) (x1 : Int) (y1 : Int) : funOk Try.prog S1 cf0 [(5, .split)] 1000 (bodyOf Try.f66) [.agg [.int .i64 x0, .int .i64 y0, .int .i64 x1, .int .i64 y1]] .nil 0 = true := by kernel_rfl
theorem sm66 (x0 : Int) (y0 : Int) (x1 : Int) (y1 : Int) : samesL (funM Try.prog S1 cf0 [(5, .split)] 1000 (bodyOf Try.f66) [.agg [.int .i64 x0, .int .i64 y0, .int .i64 x1, .int .i64 y1]] .nil 0) = samesR (funM Try.prog S1 cf0 [(5, .split)] 1000 (bodyOf Try.f66) [.agg [.int .i64 x0, .int .i64 y0, .int .i64 x1, .int .i64 y1]] .nil 0) := by kernel_rfl
theorem hr66 (x0 : Int) (y0 : Int) (x1 : Int) (y1 : Int) : tells (retOf Try.prog (joinA S1 cf0) 1000 Try.f66) (funM Try.prog S1 cf0 [(5, .split)] 1000 (bodyOf Try.f66) [.agg [.int .i64 x0, .int .i64 y0, .int .i64 x1, .int .i64 y1]] .nil 0) =
    [([(emptyB x0 y0 x1 y1, true)], [], some (rectV zeroQ)), ([(emptyB x0 y0 x1 y1, false)], [], some (rectV (x0, y0, x1, y1)))] := by kernel_rfl
theorem p66 : PureA Try.prog 66 spec66 := by
  refine ⟨Nat.le_of_ble_eq_true (by kernel_rfl), fun args h A v e => ?_⟩
  unfold spec66 at e
  split at e
  · rename_i x0 y0 x1 y1
    simp only [Option.some.injEq, Prod.mk.injEq] at e; obtain ⟨rfl, rfl⟩ := e
    refine ⟨by kernel_rfl, fun _ E_ n_ w_ args_ ra_ g_ hd_ hc_ => calls_tells mo po S1_ok cf0_ok Try.func66 (by kernel_rfl) (by kernel_rfl) ra_ (by kernel_rfl) _ (ok66 x0 y0 x1 y1) (sm66 x0 y0 x1 y1) (hr66 x0 y0 x1 y1) ?_⟩
    intro g hg hc; simp only [List.mem_cons, List.not_mem_nil, or_false] at hg; rcases hg with rfl | rfl <;> simp_all [normQ] <;> (intros; omega)
  · cases e

abbrev S2 : Ctr := (addS 66 spec66 (addS 65 spec65 S1))
theorem S2_ok : CtrOk Try.prog S2 := (addS_ok p66 (addS_ok p65 S1_ok))

def spec46 : List V → Tr O → Option (List Prop × V)
  | [.agg [.int .i64 x0, .int .i64 y0, .int .i64 x1, .int .i64 y1], .int .i64 n], _ => some ([], rectV (growQ x0 y0 x1 y1 n))
  | _, _ => none
theorem ok46 (x0 : Int) (y0 : Int) (x1 : Int) (y1 : Int) (n : Int) : funOk Try.prog S2 cf0 [(6, .split)] 1000 (bodyOf Try.f46) [.agg [.int .i64 x0, .int .i64 y0, .int .i64 x1, .int .i64 y1], .int .i64 n] .nil 0 = true := by kernel_rfl
theorem sm46 (x0 : Int) (y0 : Int) (x1 : Int) (y1 : Int) (n : Int) : samesL (funM Try.prog S2 cf0 [(6, .split)] 1000 (bodyOf Try.f46) [.agg [.int .i64 x0, .int .i64 y0, .int .i64 x1, .int .i64 y1], .int .i64 n] .nil 0) = samesR (funM Try.prog S2 cf0 [(6, .split)] 1000 (bodyOf Try.f46) [.agg [.int .i64 x0, .int .i64 y0, .int .i64 x1, .int .i64 y1], .int .i64 n] .nil 0) := by kernel_rfl
theorem hr46 (x0 : Int) (y0 : Int) (x1 : Int) (y1 : Int) (n : Int) : tells (retOf Try.prog (joinA S2 cf0) 1000 Try.f46) (funM Try.prog S2 cf0 [(6, .split)] 1000 (bodyOf Try.f46) [.agg [.int .i64 x0, .int .i64 y0, .int .i64 x1, .int .i64 y1], .int .i64 n] .nil 0) =
    [([(emptyB x0 y0 x1 y1, true)], [], some (rectV zeroQ)), ([(emptyB x0 y0 x1 y1, false)], [], some (rectV (normQ (w64 (x0 - n)) (w64 (y0 - n)) (w64 (x1 + n)) (w64 (y1 + n)))))] := by kernel_rfl
theorem p46 : PureA Try.prog 46 spec46 := by
  refine ⟨Nat.le_of_ble_eq_true (by kernel_rfl), fun args h A v e => ?_⟩
  unfold spec46 at e
  split at e
  · rename_i x0 y0 x1 y1 n
    simp only [Option.some.injEq, Prod.mk.injEq] at e; obtain ⟨rfl, rfl⟩ := e
    refine ⟨by kernel_rfl, fun _ E_ n_ w_ args_ ra_ g_ hd_ hc_ => calls_tells mo po S2_ok cf0_ok Try.func46 (by kernel_rfl) (by kernel_rfl) ra_ (by kernel_rfl) _ (ok46 x0 y0 x1 y1 n) (sm46 x0 y0 x1 y1 n) (hr46 x0 y0 x1 y1 n) ?_⟩
    intro g hg hc; simp only [List.mem_cons, List.not_mem_nil, or_false] at hg; rcases hg with rfl | rfl <;> simp_all [growQ] <;> (intros; omega)
  · cases e

def spec49 : List V → Tr O → Option (List Prop × V)
  | [.agg [.int .i64 x0, .int .i64 y0, .int .i64 x1, .int .i64 y1], .int .i64 n], _ => some ([], rectV (growQ x0 y0 x1 y1 n))
  | _, _ => none
theorem ok49 (x0 : Int) (y0 : Int) (x1 : Int) (y1 : Int) (n : Int) : funOk Try.prog S2 cf0 [(7, .split)] 1000 (bodyOf Try.f49) [.agg [.int .i64 x0, .int .i64 y0, .int .i64 x1, .int .i64 y1], .int .i64 n] .nil 0 = true := by kernel_rfl
theorem sm49 (x0 : Int) (y0 : Int) (x1 : Int) (y1 : Int) (n : Int) : samesL (funM Try.prog S2 cf0 [(7, .split)] 1000 (bodyOf Try.f49) [.agg [.int .i64 x0, .int .i64 y0, .int .i64 x1, .int .i64 y1], .int .i64 n] .nil 0) = samesR (funM Try.prog S2 cf0 [(7, .split)] 1000 (bodyOf Try.f49) [.agg [.int .i64 x0, .int .i64 y0, .int .i64 x1, .int .i64 y1], .int .i64 n] .nil 0) := by kernel_rfl
theorem hr49 (x0 : Int) (y0 : Int) (x1 : Int) (y1 : Int) (n : Int) : tells (retOf Try.prog (joinA S2 cf0) 1000 Try.f49) (funM Try.prog S2 cf0 [(7, .split)] 1000 (bodyOf Try.f49) [.agg [.int .i64 x0, .int .i64 y0, .int .i64 x1, .int .i64 y1], .int .i64 n] .nil 0) =
    [([(emptyB x0 y0 x1 y1, true)], [], some (rectV zeroQ)), ([(emptyB x0 y0 x1 y1, false)], [], some (rectV (normQ (w64 (x0 - n)) (w64 (y0 - n)) (w64 (x1 + n)) (w64 (y1 + n)))))] := by kernel_rfl
theorem p49 : PureA Try.prog 49 spec49 := by
  refine ⟨Nat.le_of_ble_eq_true (by kernel_rfl), fun args h A v e => ?_⟩
  unfold spec49 at e
  split at e
  · rename_i x0 y0 x1 y1 n
    simp only [Option.some.injEq, Prod.mk.injEq] at e; obtain ⟨rfl, rfl⟩ := e
    refine ⟨by kernel_rfl, fun _ E_ n_ w_ args_ ra_ g_ hd_ hc_ => calls_tells mo po S2_ok cf0_ok Try.func49 (by kernel_rfl) (by kernel_rfl) ra_ (by kernel_rfl) _ (ok49 x0 y0 x1 y1 n) (sm49 x0 y0 x1 y1 n) (hr49 x0 y0 x1 y1 n) ?_⟩
    intro g hg hc; simp only [List.mem_cons, List.not_mem_nil, or_false] at hg; rcases hg with rfl | rfl <;> simp_all [growQ] <;> (intros; omega)
  · cases e

def spec47 : List V → Tr O → Option (List Prop × V)
  | [.agg [.int .i64 x0, .int .i64 y0, .int .i64 x1, .int .i64 y1], .int .i64 x, .int .i64 y], _ => some ([], rectV (moveQ x0 y0 x1 y1 x y))
  | _, _ => none
theorem ok47 (x0 : Int) (y0 : Int) (x1 : Int) (y1 : Int) (x : Int) (y : Int) : funOk Try.prog S2 cf0 [(8, .split)] 1000 (bodyOf Try.f47) [.agg [.int .i64 x0, .int .i64 y0, .int .i64 x1, .int .i64 y1], .int .i64 x, .int .i64 y] .nil 0 = true := by kernel_rfl
theorem sm47 (x0 : Int) (y0 : Int) (x1 : Int) (y1 : Int) (x : Int) (y : Int) : samesL (funM Try.prog S2 cf0 [(8, .split)] 1000 (bodyOf Try.f47) [.agg [.int .i64 x0, .int .i64 y0, .int .i64 x1, .int .i64 y1], .int .i64 x, .int .i64 y] .nil 0) = samesR (funM Try.prog S2 cf0 [(8, .split)] 1000 (bodyOf Try.f47) [.agg [.int .i64 x0, .int .i64 y0, .int .i64 x1, .int .i64 y1], .int .i64 x, .int .i64 y] .nil 0) := by kernel_rfl
theorem hr47 (x0 : Int) (y0 : Int) (x1 : Int) (y1 : Int) (x : Int) (y : Int) : tells (retOf Try.prog (joinA S2 cf0) 1000 Try.f47) (funM Try.prog S2 cf0 [(8, .split)] 1000 (bodyOf Try.f47) [.agg [.int .i64 x0, .int .i64 y0, .int .i64 x1, .int .i64 y1], .int .i64 x, .int .i64 y] .nil 0) =
    [([(emptyB x0 y0 x1 y1, true)], [], some (rectV zeroQ)), ([(emptyB x0 y0 x1 y1, false)], [], some (rectV (normQ (w64 (x0 + x)) (w64 (y0 + y)) (w64 (x1 + x)) (w64 (y1 + y)))))] := by kernel_rfl
theorem p47 : PureA Try.prog 47 spec47 := by
  refine ⟨Nat.le_of_ble_eq_true (by kernel_rfl), fun args h A v e => ?_⟩
  unfold spec47 at e
  split at e
  · rename_i x0 y0 x1 y1 x y
    simp only [Option.some.injEq, Prod.mk.injEq] at e; obtain ⟨rfl, rfl⟩ := e
    refine ⟨by kernel_rfl, fun _ E_ n_ w_ args_ ra_ g_ hd_ hc_ => calls_tells mo po S2_ok cf0_ok Try.func47 (by kernel_rfl) (by kernel_rfl) ra_ (by kernel_rfl) _ (ok47 x0 y0 x1 y1 x y) (sm47 x0 y0 x1 y1 x y) (hr47 x0 y0 x1 y1 x y) ?_⟩
    intro g hg hc; simp only [List.mem_cons, List.not_mem_nil, or_false] at hg; rcases hg with rfl | rfl <;> simp_all [moveQ] <;> (intros; omega)
  · cases e

def spec50 : List V → Tr O → Option (List Prop × V)
  | [.agg [.int .i64 x0, .int .i64 y0, .int .i64 x1, .int .i64 y1], .int .i64 x, .int .i64 y], _ => some ([], rectV (moveQ x0 y0 x1 y1 x y))
  | _, _ => none
theorem ok50 (x0 : Int) (y0 : Int) (x1 : Int) (y1 : Int) (x : Int) (y : Int) : funOk Try.prog S2 cf0 [(9, .split)] 1000 (bodyOf Try.f50) [.agg [.int .i64 x0, .int .i64 y0, .int .i64 x1, .int .i64 y1], .int .i64 x, .int .i64 y] .nil 0 = true := by kernel_rfl
theorem sm50 (x0 : Int) (y0 : Int) (x1 : Int) (y1 : Int) (x : Int) (y : Int) : samesL (funM Try.prog S2 cf0 [(9, .split)] 1000 (bodyOf Try.f50) [.agg [.int .i64 x0, .int .i64 y0, .int .i64 x1, .int .i64 y1], .int .i64 x, .int .i64 y] .nil 0) = samesR (funM Try.prog S2 cf0 [(9, .split)] 1000 (bodyOf Try.f50) [.agg [.int .i64 x0, .int .i64 y0, .int .i64 x1, .int .i64 y1], .int .i64 x, .int .i64 y] .nil 0) := by kernel_rfl
theorem hr50 (x0 : Int) (y0 : Int) (x1 : Int) (y1 : Int) (x : Int) (y : Int) : tells (retOf Try.prog (joinA S2 cf0) 1000 Try.f50) (funM Try.prog S2 cf0 [(9, .split)] 1000 (bodyOf Try.f50) [.agg [.int .i64 x0, .int .i64 y0, .int .i64 x1, .int .i64 y1], .int .i64 x, .int .i64 y] .nil 0) =
    [([(emptyB x0 y0 x1 y1, true)], [], some (rectV zeroQ)), ([(emptyB x0 y0 x1 y1, false)], [], some (rectV (normQ (w64 (x0 + x)) (w64 (y0 + y)) (w64 (x1 + x)) (w64 (y1 + y)))))] := by kernel_rfl
theorem p50 : PureA Try.prog 50 spec50 := by
  refine ⟨Nat.le_of_ble_eq_true (by kernel_rfl), fun args h A v e => ?_⟩
  unfold spec50 at e
  split at e
  · rename_i x0 y0 x1 y1 x y
    simp only [Option.some.injEq, Prod.mk.injEq] at e; obtain ⟨rfl, rfl⟩ := e
    refine ⟨by kernel_rfl, fun _ E_ n_ w_ args_ ra_ g_ hd_ hc_ => calls_tells mo po S2_ok cf0_ok Try.func50 (by kernel_rfl) (by kernel_rfl) ra_ (by kernel_rfl) _ (ok50 x0 y0 x1 y1 x y) (sm50 x0 y0 x1 y1 x y) (hr50 x0 y0 x1 y1 x y) ?_⟩
    intro g hg hc; simp only [List.mem_cons, List.not_mem_nil, or_false] at hg; rcases hg with rfl | rfl <;> simp_all [moveQ] <;> (intros; omega)
  · cases e

abbrev S3 : Ctr := (addS 50 spec50 (addS 47 spec47 (addS 49 spec49 (addS 46 spec46 S2))))
theorem S3_ok : CtrOk Try.prog S3 := (addS_ok p50 (addS_ok p47 (addS_ok p49 (addS_ok p46 S2_ok))))
end Go.Proofs.Ytpkpcnohnlhjlaa
