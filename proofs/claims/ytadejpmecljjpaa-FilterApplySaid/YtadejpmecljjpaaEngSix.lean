/- What the engine runs at the filter laws' own closed calls. No conditions. -/
import Derived.Test.YtadejpmecljjpaaProg
import Derived.Test.YtadejpmecljjpaaEngThree
import Derived.Test.YtadejpmecljjpaaEngFour
import Derived.IntWalk
set_option linter.unusedVariables false
set_option linter.unusedSimpArgs false
set_option linter.unusedSectionVars false
namespace Go.Proofs.Ytadejpmecljjpaa
open Go Go.Eng
theorem po : progOk Try.prog = true := by kernel_rfl
theorem mo : Try.prog.follows .mixedOrders = true := by kernel_rfl
def retIs (cf : CallF) (x : FuncId × List V × V) : Bool :=
  match cf x.1 x.2.1 .nil 0 with
  | some (.ret u, _, _) => V.beq u x.2.2
  | _ => false
def specGood (cf : CallF) (x : FuncId × List V × V) : Bool := V.frees x.2.1 && (x.2.2.free && retIs cf x)
theorem spec_of {cf : CallF} (hc : CallOk Try.prog cf) {l : List (FuncId × List V × V)} (hl : l.all (fun x => Nat.blt x.1 Try.prog.funcs.size) = true) (h : l.all (specGood cf) = true) : ∀ x ∈ l, SpecOk Try.prog x := by
  intro x hx
  have := List.all_eq_true.1 h x hx
  have hlt := List.all_eq_true.1 hl x hx
  simp only [specGood, Bool.and_eq_true, Go.Proofs.Ytadejpmecljjpaa.retIs] at this
  obtain ⟨h1, h2, h3⟩ := this
  split at h3
  · rename_i u h' n' e
    rw [beq_eq _ _ h3] at e
    exact ⟨Nat.le_of_ble_eq_true hlt, h1, h2, cf, h', n', hc, e⟩
  · cases h3
def specs : List (FuncId × List V × V) := [(13, [], .bool true)]
theorem specs_small : specs.all (fun x => Nat.blt x.1 Try.prog.funcs.size) = true := by kernel_rfl
theorem specs_good : specs.all (specGood (call Try.prog 1000 60)) = true := by kernel_rfl
theorem specs_ok : ∀ x ∈ specs, SpecOk Try.prog x := spec_of (call_sound' mo po 60) specs_small specs_good
end Go.Proofs.Ytadejpmecljjpaa
namespace Go.Proofs.Ytadejpmecljjpaa
open Go Go.Eng
noncomputable def bodyOf (f : Func) : Code := match f.body with | some c => c | none => .skip
noncomputable def cf0 : CallF := callM Try.prog specs 1000 60
theorem cf0_ok : CallOk Try.prog cf0 := callM_ok mo po specs_ok 60
abbrev S0 : Ctr := noCtr
theorem S0_ok : CtrOk Try.prog S0 := noCtr_ok _
abbrev i64 (x : Int) : V := .int .i64 x
abbrev Q4 := Int × Int × Int × Int
abbrev rectV (q : Q4) : V := .agg [i64 q.1, i64 q.2.1, i64 q.2.2.1, i64 q.2.2.2]
def zeroQ : Q4 := (0, 0, 0, 0)
def w64 (x : Int) : Int := IntKind.i64.wrap x
def within (x lo hi : Int) : Bool := decide (lo ≤ x) && decide (x ≤ hi)
def emptyB (x0 y0 x1 y1 : Int) : Bool := decide (x0 ≥ x1) || decide (y0 ≥ y1)
def normQ (x0 y0 x1 y1 : Int) : Q4 := if emptyB x0 y0 x1 y1 = true then zeroQ else (x0, y0, x1, y1)
def growQ (x0 y0 x1 y1 n : Int) : Q4 := if emptyB x0 y0 x1 y1 = true then zeroQ else normQ (w64 (x0 - n)) (w64 (y0 - n)) (w64 (x1 + n)) (w64 (y1 + n))
def moveQ (x0 y0 x1 y1 x y : Int) : Q4 := if emptyB x0 y0 x1 y1 = true then zeroQ else normQ (w64 (x0 + x)) (w64 (y0 + y)) (w64 (x1 + x)) (w64 (y1 + y))
def spec40 : List V → Tr O → Option (List Prop × V)
  | [.int .i64 x, .int .i64 lo, .int .i64 hi], _ => some ([], .bool (within x lo hi))
  | _, _ => none
theorem ok40 (x : Int) (lo : Int) (hi : Int) : funOk Try.prog S0 cf0 [(9, .split)] 1000 (bodyOf Try.f60) [.int .i64 x, .int .i64 lo, .int .i64 hi] .nil 0 = true := by kernel_rfl
theorem sm40 (x : Int) (lo : Int) (hi : Int) : samesL (funM Try.prog S0 cf0 [(9, .split)] 1000 (bodyOf Try.f60) [.int .i64 x, .int .i64 lo, .int .i64 hi] .nil 0) = samesR (funM Try.prog S0 cf0 [(9, .split)] 1000 (bodyOf Try.f60) [.int .i64 x, .int .i64 lo, .int .i64 hi] .nil 0) := by kernel_rfl
theorem hr40 (x : Int) (lo : Int) (hi : Int) : tells (retOf Try.prog (joinA S0 cf0) 1000 Try.f60) (funM Try.prog S0 cf0 [(9, .split)] 1000 (bodyOf Try.f60) [.int .i64 x, .int .i64 lo, .int .i64 hi] .nil 0) =
    [([(decide (lo ≤ x), true)], [], some (.bool (decide (x ≤ hi)))), ([(decide (lo ≤ x), false)], [], some (.bool false))] := by kernel_rfl
theorem p40 : PureA Try.prog 60 spec40 := by
  refine ⟨Nat.le_of_ble_eq_true (by kernel_rfl), fun args h A v e => ?_⟩
  unfold spec40 at e
  split at e
  · rename_i x lo hi
    simp only [Option.some.injEq, Prod.mk.injEq] at e; obtain ⟨rfl, rfl⟩ := e
    refine ⟨by kernel_rfl, fun _ E_ n_ w_ args_ ra_ g_ hd_ hc_ => calls_tells mo po S0_ok cf0_ok Try.func60 (by kernel_rfl) (by kernel_rfl) ra_ (by kernel_rfl) _ (ok40 x lo hi) (sm40 x lo hi) (hr40 x lo hi) ?_⟩
    intro g hg hc; simp only [List.mem_cons, List.not_mem_nil, or_false] at hg; rcases hg with rfl | rfl <;> simp_all [within] <;> (intros; omega)
  · cases e
def spec44 : List V → Tr O → Option (List Prop × V)
  | [.agg [.int .i64 x0, .int .i64 y0, .int .i64 x1, .int .i64 y1]], _ => some ([], .bool (emptyB x0 y0 x1 y1))
  | _, _ => none
theorem ok44 (x0 : Int) (y0 : Int) (x1 : Int) (y1 : Int) : funOk Try.prog S0 cf0 [(7, .split)] 1000 (bodyOf Try.f67) [.agg [.int .i64 x0, .int .i64 y0, .int .i64 x1, .int .i64 y1]] .nil 0 = true := by kernel_rfl
theorem sm44 (x0 : Int) (y0 : Int) (x1 : Int) (y1 : Int) : samesL (funM Try.prog S0 cf0 [(7, .split)] 1000 (bodyOf Try.f67) [.agg [.int .i64 x0, .int .i64 y0, .int .i64 x1, .int .i64 y1]] .nil 0) = samesR (funM Try.prog S0 cf0 [(7, .split)] 1000 (bodyOf Try.f67) [.agg [.int .i64 x0, .int .i64 y0, .int .i64 x1, .int .i64 y1]] .nil 0) := by kernel_rfl
theorem hr44 (x0 : Int) (y0 : Int) (x1 : Int) (y1 : Int) : tells (retOf Try.prog (joinA S0 cf0) 1000 Try.f67) (funM Try.prog S0 cf0 [(7, .split)] 1000 (bodyOf Try.f67) [.agg [.int .i64 x0, .int .i64 y0, .int .i64 x1, .int .i64 y1]] .nil 0) =
    [([(decide (x0 ≥ x1), true)], [], some (.bool true)), ([(decide (x0 ≥ x1), false)], [], some (.bool (decide (y0 ≥ y1))))] := by kernel_rfl
theorem p44 : PureA Try.prog 67 spec44 := by
  refine ⟨Nat.le_of_ble_eq_true (by kernel_rfl), fun args h A v e => ?_⟩
  unfold spec44 at e
  split at e
  · rename_i x0 y0 x1 y1
    simp only [Option.some.injEq, Prod.mk.injEq] at e; obtain ⟨rfl, rfl⟩ := e
    refine ⟨by kernel_rfl, fun _ E_ n_ w_ args_ ra_ g_ hd_ hc_ => calls_tells mo po S0_ok cf0_ok Try.func67 (by kernel_rfl) (by kernel_rfl) ra_ (by kernel_rfl) _ (ok44 x0 y0 x1 y1) (sm44 x0 y0 x1 y1) (hr44 x0 y0 x1 y1) ?_⟩
    intro g hg hc; simp only [List.mem_cons, List.not_mem_nil, or_false] at hg; rcases hg with rfl | rfl <;> simp_all [emptyB] <;> (intros; omega)
  · cases e
def spec29 : List V → Tr O → Option (List Prop × V)
  | [.agg [.int .i64 x0, .int .i64 y0, .int .i64 x1, .int .i64 y1]], _ => some ([], .bool (emptyB x0 y0 x1 y1))
  | _, _ => none
theorem ok29 (x0 : Int) (y0 : Int) (x1 : Int) (y1 : Int) : funOk Try.prog S0 cf0 [(7, .split)] 1000 (bodyOf Try.f18) [.agg [.int .i64 x0, .int .i64 y0, .int .i64 x1, .int .i64 y1]] .nil 0 = true := by kernel_rfl
theorem sm29 (x0 : Int) (y0 : Int) (x1 : Int) (y1 : Int) : samesL (funM Try.prog S0 cf0 [(7, .split)] 1000 (bodyOf Try.f18) [.agg [.int .i64 x0, .int .i64 y0, .int .i64 x1, .int .i64 y1]] .nil 0) = samesR (funM Try.prog S0 cf0 [(7, .split)] 1000 (bodyOf Try.f18) [.agg [.int .i64 x0, .int .i64 y0, .int .i64 x1, .int .i64 y1]] .nil 0) := by kernel_rfl
theorem hr29 (x0 : Int) (y0 : Int) (x1 : Int) (y1 : Int) : tells (retOf Try.prog (joinA S0 cf0) 1000 Try.f18) (funM Try.prog S0 cf0 [(7, .split)] 1000 (bodyOf Try.f18) [.agg [.int .i64 x0, .int .i64 y0, .int .i64 x1, .int .i64 y1]] .nil 0) =
    [([(decide (x0 ≥ x1), true)], [], some (.bool true)), ([(decide (x0 ≥ x1), false)], [], some (.bool (decide (y0 ≥ y1))))] := by kernel_rfl
theorem p29 : PureA Try.prog 18 spec29 := by
  refine ⟨Nat.le_of_ble_eq_true (by kernel_rfl), fun args h A v e => ?_⟩
  unfold spec29 at e
  split at e
  · rename_i x0 y0 x1 y1
    simp only [Option.some.injEq, Prod.mk.injEq] at e; obtain ⟨rfl, rfl⟩ := e
    refine ⟨by kernel_rfl, fun _ E_ n_ w_ args_ ra_ g_ hd_ hc_ => calls_tells mo po S0_ok cf0_ok Try.func18 (by kernel_rfl) (by kernel_rfl) ra_ (by kernel_rfl) _ (ok29 x0 y0 x1 y1) (sm29 x0 y0 x1 y1) (hr29 x0 y0 x1 y1) ?_⟩
    intro g hg hc; simp only [List.mem_cons, List.not_mem_nil, or_false] at hg; rcases hg with rfl | rfl <;> simp_all [emptyB] <;> (intros; omega)
  · cases e
abbrev S1 : Ctr := (addS 18 spec29 (addS 67 spec44 (addS 60 spec40 S0)))
theorem S1_ok : CtrOk Try.prog S1 := (addS_ok p29 (addS_ok p44 (addS_ok p40 S0_ok)))
def spec65 : List V → Tr O → Option (List Prop × V)
  | [.agg [.int .i64 x0, .int .i64 y0, .int .i64 x1, .int .i64 y1]], _ => some ([], rectV (normQ x0 y0 x1 y1))
  | _, _ => none
theorem ok65 (x0 : Int) (y0 : Int) (x1 : Int) (y1 : Int) : funOk Try.prog S1 cf0 [(4, .split)] 1000 (bodyOf Try.f102) [.agg [.int .i64 x0, .int .i64 y0, .int .i64 x1, .int .i64 y1]] .nil 0 = true := by kernel_rfl
theorem sm65 (x0 : Int) (y0 : Int) (x1 : Int) (y1 : Int) : samesL (funM Try.prog S1 cf0 [(4, .split)] 1000 (bodyOf Try.f102) [.agg [.int .i64 x0, .int .i64 y0, .int .i64 x1, .int .i64 y1]] .nil 0) = samesR (funM Try.prog S1 cf0 [(4, .split)] 1000 (bodyOf Try.f102) [.agg [.int .i64 x0, .int .i64 y0, .int .i64 x1, .int .i64 y1]] .nil 0) := by kernel_rfl
theorem hr65 (x0 : Int) (y0 : Int) (x1 : Int) (y1 : Int) : tells (retOf Try.prog (joinA S1 cf0) 1000 Try.f102) (funM Try.prog S1 cf0 [(4, .split)] 1000 (bodyOf Try.f102) [.agg [.int .i64 x0, .int .i64 y0, .int .i64 x1, .int .i64 y1]] .nil 0) =
    [([(emptyB x0 y0 x1 y1, true)], [], some (rectV zeroQ)), ([(emptyB x0 y0 x1 y1, false)], [], some (rectV (x0, y0, x1, y1)))] := by kernel_rfl
theorem p65 : PureA Try.prog 102 spec65 := by
  refine ⟨Nat.le_of_ble_eq_true (by kernel_rfl), fun args h A v e => ?_⟩
  unfold spec65 at e
  split at e
  · rename_i x0 y0 x1 y1
    simp only [Option.some.injEq, Prod.mk.injEq] at e; obtain ⟨rfl, rfl⟩ := e
    refine ⟨by kernel_rfl, fun _ E_ n_ w_ args_ ra_ g_ hd_ hc_ => calls_tells mo po S1_ok cf0_ok Try.func102 (by kernel_rfl) (by kernel_rfl) ra_ (by kernel_rfl) _ (ok65 x0 y0 x1 y1) (sm65 x0 y0 x1 y1) (hr65 x0 y0 x1 y1) ?_⟩
    intro g hg hc; simp only [List.mem_cons, List.not_mem_nil, or_false] at hg; rcases hg with rfl | rfl <;> simp_all [normQ] <;> (intros; omega)
  · cases e
def spec66 : List V → Tr O → Option (List Prop × V)
  | [.agg [.int .i64 x0, .int .i64 y0, .int .i64 x1, .int .i64 y1]], _ => some ([], rectV (normQ x0 y0 x1 y1))
  | _, _ => none
theorem ok66 (x0 : Int) (y0 : Int) (x1 : Int) (y1 : Int) : funOk Try.prog S1 cf0 [(5, .split)] 1000 (bodyOf Try.f52) [.agg [.int .i64 x0, .int .i64 y0, .int .i64 x1, .int .i64 y1]] .nil 0 = true := by kernel_rfl
theorem sm66 (x0 : Int) (y0 : Int) (x1 : Int) (y1 : Int) : samesL (funM Try.prog S1 cf0 [(5, .split)] 1000 (bodyOf Try.f52) [.agg [.int .i64 x0, .int .i64 y0, .int .i64 x1, .int .i64 y1]] .nil 0) = samesR (funM Try.prog S1 cf0 [(5, .split)] 1000 (bodyOf Try.f52) [.agg [.int .i64 x0, .int .i64 y0, .int .i64 x1, .int .i64 y1]] .nil 0) := by kernel_rfl
theorem hr66 (x0 : Int) (y0 : Int) (x1 : Int) (y1 : Int) : tells (retOf Try.prog (joinA S1 cf0) 1000 Try.f52) (funM Try.prog S1 cf0 [(5, .split)] 1000 (bodyOf Try.f52) [.agg [.int .i64 x0, .int .i64 y0, .int .i64 x1, .int .i64 y1]] .nil 0) =
    [([(emptyB x0 y0 x1 y1, true)], [], some (rectV zeroQ)), ([(emptyB x0 y0 x1 y1, false)], [], some (rectV (x0, y0, x1, y1)))] := by kernel_rfl
theorem p66 : PureA Try.prog 52 spec66 := by
  refine ⟨Nat.le_of_ble_eq_true (by kernel_rfl), fun args h A v e => ?_⟩
  unfold spec66 at e
  split at e
  · rename_i x0 y0 x1 y1
    simp only [Option.some.injEq, Prod.mk.injEq] at e; obtain ⟨rfl, rfl⟩ := e
    refine ⟨by kernel_rfl, fun _ E_ n_ w_ args_ ra_ g_ hd_ hc_ => calls_tells mo po S1_ok cf0_ok Try.func52 (by kernel_rfl) (by kernel_rfl) ra_ (by kernel_rfl) _ (ok66 x0 y0 x1 y1) (sm66 x0 y0 x1 y1) (hr66 x0 y0 x1 y1) ?_⟩
    intro g hg hc; simp only [List.mem_cons, List.not_mem_nil, or_false] at hg; rcases hg with rfl | rfl <;> simp_all [normQ] <;> (intros; omega)
  · cases e
abbrev S2 : Ctr := (addS 52 spec66 (addS 102 spec65 S1))
theorem S2_ok : CtrOk Try.prog S2 := (addS_ok p66 (addS_ok p65 S1_ok))
def spec46 : List V → Tr O → Option (List Prop × V)
  | [.agg [.int .i64 x0, .int .i64 y0, .int .i64 x1, .int .i64 y1], .int .i64 n], _ => some ([], rectV (growQ x0 y0 x1 y1 n))
  | _, _ => none
theorem ok46 (x0 : Int) (y0 : Int) (x1 : Int) (y1 : Int) (n : Int) : funOk Try.prog S2 cf0 [(6, .split)] 1000 (bodyOf Try.f79) [.agg [.int .i64 x0, .int .i64 y0, .int .i64 x1, .int .i64 y1], .int .i64 n] .nil 0 = true := by kernel_rfl
theorem sm46 (x0 : Int) (y0 : Int) (x1 : Int) (y1 : Int) (n : Int) : samesL (funM Try.prog S2 cf0 [(6, .split)] 1000 (bodyOf Try.f79) [.agg [.int .i64 x0, .int .i64 y0, .int .i64 x1, .int .i64 y1], .int .i64 n] .nil 0) = samesR (funM Try.prog S2 cf0 [(6, .split)] 1000 (bodyOf Try.f79) [.agg [.int .i64 x0, .int .i64 y0, .int .i64 x1, .int .i64 y1], .int .i64 n] .nil 0) := by kernel_rfl
theorem hr46 (x0 : Int) (y0 : Int) (x1 : Int) (y1 : Int) (n : Int) : tells (retOf Try.prog (joinA S2 cf0) 1000 Try.f79) (funM Try.prog S2 cf0 [(6, .split)] 1000 (bodyOf Try.f79) [.agg [.int .i64 x0, .int .i64 y0, .int .i64 x1, .int .i64 y1], .int .i64 n] .nil 0) =
    [([(emptyB x0 y0 x1 y1, true)], [], some (rectV zeroQ)), ([(emptyB x0 y0 x1 y1, false)], [], some (rectV (normQ (w64 (x0 - n)) (w64 (y0 - n)) (w64 (x1 + n)) (w64 (y1 + n)))))] := by kernel_rfl
theorem p46 : PureA Try.prog 79 spec46 := by
  refine ⟨Nat.le_of_ble_eq_true (by kernel_rfl), fun args h A v e => ?_⟩
  unfold spec46 at e
  split at e
  · rename_i x0 y0 x1 y1 n
    simp only [Option.some.injEq, Prod.mk.injEq] at e; obtain ⟨rfl, rfl⟩ := e
    refine ⟨by kernel_rfl, fun _ E_ n_ w_ args_ ra_ g_ hd_ hc_ => calls_tells mo po S2_ok cf0_ok Try.func79 (by kernel_rfl) (by kernel_rfl) ra_ (by kernel_rfl) _ (ok46 x0 y0 x1 y1 n) (sm46 x0 y0 x1 y1 n) (hr46 x0 y0 x1 y1 n) ?_⟩
    intro g hg hc; simp only [List.mem_cons, List.not_mem_nil, or_false] at hg; rcases hg with rfl | rfl <;> simp_all [growQ] <;> (intros; omega)
  · cases e
def spec49 : List V → Tr O → Option (List Prop × V)
  | [.agg [.int .i64 x0, .int .i64 y0, .int .i64 x1, .int .i64 y1], .int .i64 n], _ => some ([], rectV (growQ x0 y0 x1 y1 n))
  | _, _ => none
theorem ok49 (x0 : Int) (y0 : Int) (x1 : Int) (y1 : Int) (n : Int) : funOk Try.prog S2 cf0 [(7, .split)] 1000 (bodyOf Try.f24) [.agg [.int .i64 x0, .int .i64 y0, .int .i64 x1, .int .i64 y1], .int .i64 n] .nil 0 = true := by kernel_rfl
theorem sm49 (x0 : Int) (y0 : Int) (x1 : Int) (y1 : Int) (n : Int) : samesL (funM Try.prog S2 cf0 [(7, .split)] 1000 (bodyOf Try.f24) [.agg [.int .i64 x0, .int .i64 y0, .int .i64 x1, .int .i64 y1], .int .i64 n] .nil 0) = samesR (funM Try.prog S2 cf0 [(7, .split)] 1000 (bodyOf Try.f24) [.agg [.int .i64 x0, .int .i64 y0, .int .i64 x1, .int .i64 y1], .int .i64 n] .nil 0) := by kernel_rfl
theorem hr49 (x0 : Int) (y0 : Int) (x1 : Int) (y1 : Int) (n : Int) : tells (retOf Try.prog (joinA S2 cf0) 1000 Try.f24) (funM Try.prog S2 cf0 [(7, .split)] 1000 (bodyOf Try.f24) [.agg [.int .i64 x0, .int .i64 y0, .int .i64 x1, .int .i64 y1], .int .i64 n] .nil 0) =
    [([(emptyB x0 y0 x1 y1, true)], [], some (rectV zeroQ)), ([(emptyB x0 y0 x1 y1, false)], [], some (rectV (normQ (w64 (x0 - n)) (w64 (y0 - n)) (w64 (x1 + n)) (w64 (y1 + n)))))] := by kernel_rfl
theorem p49 : PureA Try.prog 24 spec49 := by
  refine ⟨Nat.le_of_ble_eq_true (by kernel_rfl), fun args h A v e => ?_⟩
  unfold spec49 at e
  split at e
  · rename_i x0 y0 x1 y1 n
    simp only [Option.some.injEq, Prod.mk.injEq] at e; obtain ⟨rfl, rfl⟩ := e
    refine ⟨by kernel_rfl, fun _ E_ n_ w_ args_ ra_ g_ hd_ hc_ => calls_tells mo po S2_ok cf0_ok Try.func24 (by kernel_rfl) (by kernel_rfl) ra_ (by kernel_rfl) _ (ok49 x0 y0 x1 y1 n) (sm49 x0 y0 x1 y1 n) (hr49 x0 y0 x1 y1 n) ?_⟩
    intro g hg hc; simp only [List.mem_cons, List.not_mem_nil, or_false] at hg; rcases hg with rfl | rfl <;> simp_all [growQ] <;> (intros; omega)
  · cases e
def spec47 : List V → Tr O → Option (List Prop × V)
  | [.agg [.int .i64 x0, .int .i64 y0, .int .i64 x1, .int .i64 y1], .int .i64 x, .int .i64 y], _ => some ([], rectV (moveQ x0 y0 x1 y1 x y))
  | _, _ => none
theorem ok47 (x0 : Int) (y0 : Int) (x1 : Int) (y1 : Int) (x : Int) (y : Int) : funOk Try.prog S2 cf0 [(8, .split)] 1000 (bodyOf Try.f80) [.agg [.int .i64 x0, .int .i64 y0, .int .i64 x1, .int .i64 y1], .int .i64 x, .int .i64 y] .nil 0 = true := by kernel_rfl
theorem sm47 (x0 : Int) (y0 : Int) (x1 : Int) (y1 : Int) (x : Int) (y : Int) : samesL (funM Try.prog S2 cf0 [(8, .split)] 1000 (bodyOf Try.f80) [.agg [.int .i64 x0, .int .i64 y0, .int .i64 x1, .int .i64 y1], .int .i64 x, .int .i64 y] .nil 0) = samesR (funM Try.prog S2 cf0 [(8, .split)] 1000 (bodyOf Try.f80) [.agg [.int .i64 x0, .int .i64 y0, .int .i64 x1, .int .i64 y1], .int .i64 x, .int .i64 y] .nil 0) := by kernel_rfl
theorem hr47 (x0 : Int) (y0 : Int) (x1 : Int) (y1 : Int) (x : Int) (y : Int) : tells (retOf Try.prog (joinA S2 cf0) 1000 Try.f80) (funM Try.prog S2 cf0 [(8, .split)] 1000 (bodyOf Try.f80) [.agg [.int .i64 x0, .int .i64 y0, .int .i64 x1, .int .i64 y1], .int .i64 x, .int .i64 y] .nil 0) =
    [([(emptyB x0 y0 x1 y1, true)], [], some (rectV zeroQ)), ([(emptyB x0 y0 x1 y1, false)], [], some (rectV (normQ (w64 (x0 + x)) (w64 (y0 + y)) (w64 (x1 + x)) (w64 (y1 + y)))))] := by kernel_rfl
theorem p47 : PureA Try.prog 80 spec47 := by
  refine ⟨Nat.le_of_ble_eq_true (by kernel_rfl), fun args h A v e => ?_⟩
  unfold spec47 at e
  split at e
  · rename_i x0 y0 x1 y1 x y
    simp only [Option.some.injEq, Prod.mk.injEq] at e; obtain ⟨rfl, rfl⟩ := e
    refine ⟨by kernel_rfl, fun _ E_ n_ w_ args_ ra_ g_ hd_ hc_ => calls_tells mo po S2_ok cf0_ok Try.func80 (by kernel_rfl) (by kernel_rfl) ra_ (by kernel_rfl) _ (ok47 x0 y0 x1 y1 x y) (sm47 x0 y0 x1 y1 x y) (hr47 x0 y0 x1 y1 x y) ?_⟩
    intro g hg hc; simp only [List.mem_cons, List.not_mem_nil, or_false] at hg; rcases hg with rfl | rfl <;> simp_all [moveQ] <;> (intros; omega)
  · cases e
def spec50 : List V → Tr O → Option (List Prop × V)
  | [.agg [.int .i64 x0, .int .i64 y0, .int .i64 x1, .int .i64 y1], .int .i64 x, .int .i64 y], _ => some ([], rectV (moveQ x0 y0 x1 y1 x y))
  | _, _ => none
theorem ok50 (x0 : Int) (y0 : Int) (x1 : Int) (y1 : Int) (x : Int) (y : Int) : funOk Try.prog S2 cf0 [(9, .split)] 1000 (bodyOf Try.f19) [.agg [.int .i64 x0, .int .i64 y0, .int .i64 x1, .int .i64 y1], .int .i64 x, .int .i64 y] .nil 0 = true := by kernel_rfl
theorem sm50 (x0 : Int) (y0 : Int) (x1 : Int) (y1 : Int) (x : Int) (y : Int) : samesL (funM Try.prog S2 cf0 [(9, .split)] 1000 (bodyOf Try.f19) [.agg [.int .i64 x0, .int .i64 y0, .int .i64 x1, .int .i64 y1], .int .i64 x, .int .i64 y] .nil 0) = samesR (funM Try.prog S2 cf0 [(9, .split)] 1000 (bodyOf Try.f19) [.agg [.int .i64 x0, .int .i64 y0, .int .i64 x1, .int .i64 y1], .int .i64 x, .int .i64 y] .nil 0) := by kernel_rfl
theorem hr50 (x0 : Int) (y0 : Int) (x1 : Int) (y1 : Int) (x : Int) (y : Int) : tells (retOf Try.prog (joinA S2 cf0) 1000 Try.f19) (funM Try.prog S2 cf0 [(9, .split)] 1000 (bodyOf Try.f19) [.agg [.int .i64 x0, .int .i64 y0, .int .i64 x1, .int .i64 y1], .int .i64 x, .int .i64 y] .nil 0) =
    [([(emptyB x0 y0 x1 y1, true)], [], some (rectV zeroQ)), ([(emptyB x0 y0 x1 y1, false)], [], some (rectV (normQ (w64 (x0 + x)) (w64 (y0 + y)) (w64 (x1 + x)) (w64 (y1 + y)))))] := by kernel_rfl
theorem p50 : PureA Try.prog 19 spec50 := by
  refine ⟨Nat.le_of_ble_eq_true (by kernel_rfl), fun args h A v e => ?_⟩
  unfold spec50 at e
  split at e
  · rename_i x0 y0 x1 y1 x y
    simp only [Option.some.injEq, Prod.mk.injEq] at e; obtain ⟨rfl, rfl⟩ := e
    refine ⟨by kernel_rfl, fun _ E_ n_ w_ args_ ra_ g_ hd_ hc_ => calls_tells mo po S2_ok cf0_ok Try.func19 (by kernel_rfl) (by kernel_rfl) ra_ (by kernel_rfl) _ (ok50 x0 y0 x1 y1 x y) (sm50 x0 y0 x1 y1 x y) (hr50 x0 y0 x1 y1 x y) ?_⟩
    intro g hg hc; simp only [List.mem_cons, List.not_mem_nil, or_false] at hg; rcases hg with rfl | rfl <;> simp_all [moveQ] <;> (intros; omega)
  · cases e
abbrev S3 : Ctr := (addS 19 spec50 (addS 80 spec47 (addS 24 spec49 (addS 79 spec46 S2))))
theorem S3_ok : CtrOk Try.prog S3 := (addS_ok p50 (addS_ok p47 (addS_ok p49 (addS_ok p46 S2_ok))))
end Go.Proofs.Ytadejpmecljjpaa
namespace Go.Proofs.Ytadejpmecljjpaa
open Go Go.Eng
def pointsB (n : Int) : Bool := decide (n ≥ 2) && decide (n ≤ 257)
def outB (k : Int) : Bool := !(within k (-4096) 4096)
def spec63 : List V → Tr O → Option (List Prop × V)
  | [.int .i64 n], _ => some ([], .bool (pointsB n))
  | _, _ => none
theorem ok63 (n : Int) : funOk Try.prog S3 cf0 [(4, .split)] 1000 (bodyOf Try.f64) [.int .i64 n] .nil 0 = true := by kernel_rfl
theorem sm63 (n : Int) : samesL (funM Try.prog S3 cf0 [(4, .split)] 1000 (bodyOf Try.f64) [.int .i64 n] .nil 0) = samesR (funM Try.prog S3 cf0 [(4, .split)] 1000 (bodyOf Try.f64) [.int .i64 n] .nil 0) := by kernel_rfl
theorem hr63 (n : Int) : tells (retOf Try.prog (joinA S3 cf0) 1000 Try.f64) (funM Try.prog S3 cf0 [(4, .split)] 1000 (bodyOf Try.f64) [.int .i64 n] .nil 0) =
    [([(decide (n ≥ 2), true)], [], some (.bool (decide (n ≤ 257)))), ([(decide (n ≥ 2), false)], [], some (.bool false))] := by kernel_rfl
theorem p63 : PureA Try.prog 64 spec63 := by
  refine ⟨Nat.le_of_ble_eq_true (by kernel_rfl), fun args h A v e => ?_⟩
  unfold spec63 at e
  split at e
  · rename_i n
    simp only [Option.some.injEq, Prod.mk.injEq] at e; obtain ⟨rfl, rfl⟩ := e
    refine ⟨by kernel_rfl, fun _ E_ n_ w_ args_ ra_ g_ hd_ hc_ => calls_tells mo po S3_ok cf0_ok Try.func64 (by kernel_rfl) (by kernel_rfl) ra_ (by kernel_rfl) _ (ok63 n) (sm63 n) (hr63 n) ?_⟩
    intro g hg hc; simp only [List.mem_cons, List.not_mem_nil, or_false] at hg; rcases hg with rfl | rfl <;> simp_all [pointsB] <;> (intros; omega)
  · cases e
def spec61 : List V → Tr O → Option (List Prop × V)
  | [.int .i64 n], _ => some ([], .bool (pointsB n))
  | _, _ => none
theorem ok61 (n : Int) : funOk Try.prog S3 cf0 [(4, .split)] 1000 (bodyOf Try.f83) [.int .i64 n] .nil 0 = true := by kernel_rfl
theorem sm61 (n : Int) : samesL (funM Try.prog S3 cf0 [(4, .split)] 1000 (bodyOf Try.f83) [.int .i64 n] .nil 0) = samesR (funM Try.prog S3 cf0 [(4, .split)] 1000 (bodyOf Try.f83) [.int .i64 n] .nil 0) := by kernel_rfl
theorem hr61 (n : Int) : tells (retOf Try.prog (joinA S3 cf0) 1000 Try.f83) (funM Try.prog S3 cf0 [(4, .split)] 1000 (bodyOf Try.f83) [.int .i64 n] .nil 0) =
    [([(decide (n ≥ 2), true)], [], some (.bool (decide (n ≤ 257)))), ([(decide (n ≥ 2), false)], [], some (.bool false))] := by kernel_rfl
theorem p61 : PureA Try.prog 83 spec61 := by
  refine ⟨Nat.le_of_ble_eq_true (by kernel_rfl), fun args h A v e => ?_⟩
  unfold spec61 at e
  split at e
  · rename_i n
    simp only [Option.some.injEq, Prod.mk.injEq] at e; obtain ⟨rfl, rfl⟩ := e
    refine ⟨by kernel_rfl, fun _ E_ n_ w_ args_ ra_ g_ hd_ hc_ => calls_tells mo po S3_ok cf0_ok Try.func83 (by kernel_rfl) (by kernel_rfl) ra_ (by kernel_rfl) _ (ok61 n) (sm61 n) (hr61 n) ?_⟩
    intro g hg hc; simp only [List.mem_cons, List.not_mem_nil, or_false] at hg; rcases hg with rfl | rfl <;> simp_all [pointsB] <;> (intros; omega)
  · cases e
def spec45 : List V → Tr O → Option (List Prop × V)
  | [.int .i64 k], _ => some ([], .bool (within k 1 4))
  | _, _ => none
theorem ok45 (k : Int) : funOk Try.prog S3 cf0 [] 1000 (bodyOf Try.f78) [.int .i64 k] .nil 0 = true := by kernel_rfl
theorem sm45 (k : Int) : samesL (funM Try.prog S3 cf0 [] 1000 (bodyOf Try.f78) [.int .i64 k] .nil 0) = samesR (funM Try.prog S3 cf0 [] 1000 (bodyOf Try.f78) [.int .i64 k] .nil 0) := by kernel_rfl
theorem hr45 (k : Int) : tells (retOf Try.prog (joinA S3 cf0) 1000 Try.f78) (funM Try.prog S3 cf0 [] 1000 (bodyOf Try.f78) [.int .i64 k] .nil 0) =
    [([], [], some (.bool (within k 1 4)))] := by kernel_rfl
theorem p45 : PureA Try.prog 78 spec45 := by
  refine ⟨Nat.le_of_ble_eq_true (by kernel_rfl), fun args h A v e => ?_⟩
  unfold spec45 at e
  split at e
  · rename_i k
    simp only [Option.some.injEq, Prod.mk.injEq] at e; obtain ⟨rfl, rfl⟩ := e
    refine ⟨by kernel_rfl, fun _ E_ n_ w_ args_ ra_ g_ hd_ hc_ => calls_tells mo po S3_ok cf0_ok Try.func78 (by kernel_rfl) (by kernel_rfl) ra_ (by kernel_rfl) _ (ok45 k) (sm45 k) (hr45 k) ?_⟩
    intro g hg hc; simp only [List.mem_cons, List.not_mem_nil, or_false] at hg; subst hg; simp
  · cases e
def spec39 : List V → Tr O → Option (List Prop × V)
  | [.int .i64 k], _ => some ([], .bool (outB k))
  | _, _ => none
theorem ok39 (k : Int) : funOk Try.prog S3 cf0 [] 1000 (bodyOf Try.f59) [.int .i64 k] .nil 0 = true := by kernel_rfl
theorem sm39 (k : Int) : samesL (funM Try.prog S3 cf0 [] 1000 (bodyOf Try.f59) [.int .i64 k] .nil 0) = samesR (funM Try.prog S3 cf0 [] 1000 (bodyOf Try.f59) [.int .i64 k] .nil 0) := by kernel_rfl
theorem hr39 (k : Int) : tells (retOf Try.prog (joinA S3 cf0) 1000 Try.f59) (funM Try.prog S3 cf0 [] 1000 (bodyOf Try.f59) [.int .i64 k] .nil 0) =
    [([], [], some (.bool (outB k)))] := by kernel_rfl
theorem p39 : PureA Try.prog 59 spec39 := by
  refine ⟨Nat.le_of_ble_eq_true (by kernel_rfl), fun args h A v e => ?_⟩
  unfold spec39 at e
  split at e
  · rename_i k
    simp only [Option.some.injEq, Prod.mk.injEq] at e; obtain ⟨rfl, rfl⟩ := e
    refine ⟨by kernel_rfl, fun _ E_ n_ w_ args_ ra_ g_ hd_ hc_ => calls_tells mo po S3_ok cf0_ok Try.func59 (by kernel_rfl) (by kernel_rfl) ra_ (by kernel_rfl) _ (ok39 k) (sm39 k) (hr39 k) ?_⟩
    intro g hg hc; simp only [List.mem_cons, List.not_mem_nil, or_false] at hg; subst hg; simp
  · cases e
def spec84 : List V → Tr O → Option (List Prop × V)
  | [.int .i64 x], _ => some ([], .bool false)
  | _, _ => none
theorem ok84 (x : Int) : funOk Try.prog S3 cf0 [(5, .give (.bool false))] 1000 (bodyOf Try.f112) [.int .i64 x] .nil 0 = true := by kernel_rfl
theorem sm84 (x : Int) : samesL (funM Try.prog S3 cf0 [(5, .give (.bool false))] 1000 (bodyOf Try.f112) [.int .i64 x] .nil 0) = samesR (funM Try.prog S3 cf0 [(5, .give (.bool false))] 1000 (bodyOf Try.f112) [.int .i64 x] .nil 0) := by kernel_rfl
theorem hr84 (x : Int) : tells (retOf Try.prog (joinA S3 cf0) 1000 Try.f112) (funM Try.prog S3 cf0 [(5, .give (.bool false))] 1000 (bodyOf Try.f112) [.int .i64 x] .nil 0) =
    [([], [V.bool (!decide (x = x)) = V.bool false], some (.bool false))] := by kernel_rfl
theorem p84 : PureA Try.prog 112 spec84 := by
  refine ⟨Nat.le_of_ble_eq_true (by kernel_rfl), fun args h A v e => ?_⟩
  unfold spec84 at e
  split at e
  · rename_i x
    simp only [Option.some.injEq, Prod.mk.injEq] at e; obtain ⟨rfl, rfl⟩ := e
    refine ⟨by kernel_rfl, fun _ E_ n_ w_ args_ ra_ g_ hd_ hc_ => calls_tells mo po S3_ok cf0_ok Try.func112 (by kernel_rfl) (by kernel_rfl) ra_ (by kernel_rfl) _ (ok84 x) (sm84 x) (hr84 x) ?_⟩
    intro g hg hc; simp only [List.mem_cons, List.not_mem_nil, or_false] at hg; subst hg; simp
  · cases e
abbrev S4 : Ctr := (addS 112 spec84 (addS 59 spec39 (addS 78 spec45 (addS 83 spec61 (addS 64 spec63 S3)))))
theorem S4_ok : CtrOk Try.prog S4 := (addS_ok p84 (addS_ok p39 (addS_ok p45 (addS_ok p61 (addS_ok p63 S3_ok)))))
def spec78 : List V → Tr O → Option (List Prop × V)
  | [.int .i64 x, .int .i64 y], _ => some ([], .bool (decide (x < y)))
  | _, _ => none
theorem ok78 (x : Int) (y : Int) : funOk Try.prog S4 cf0 [] 1000 (bodyOf Try.f103) [.int .i64 x, .int .i64 y] .nil 0 = true := by kernel_rfl
theorem sm78 (x : Int) (y : Int) : samesL (funM Try.prog S4 cf0 [] 1000 (bodyOf Try.f103) [.int .i64 x, .int .i64 y] .nil 0) = samesR (funM Try.prog S4 cf0 [] 1000 (bodyOf Try.f103) [.int .i64 x, .int .i64 y] .nil 0) := by kernel_rfl
theorem hr78 (x : Int) (y : Int) : tells (retOf Try.prog (joinA S4 cf0) 1000 Try.f103) (funM Try.prog S4 cf0 [] 1000 (bodyOf Try.f103) [.int .i64 x, .int .i64 y] .nil 0) =
    [([], [], some (.bool (decide (x < y))))] := by kernel_rfl
theorem p78 : PureA Try.prog 103 spec78 := by
  refine ⟨Nat.le_of_ble_eq_true (by kernel_rfl), fun args h A v e => ?_⟩
  unfold spec78 at e
  split at e
  · rename_i x y
    simp only [Option.some.injEq, Prod.mk.injEq] at e; obtain ⟨rfl, rfl⟩ := e
    refine ⟨by kernel_rfl, fun _ E_ n_ w_ args_ ra_ g_ hd_ hc_ => calls_tells mo po S4_ok cf0_ok Try.func103 (by kernel_rfl) (by kernel_rfl) ra_ (by kernel_rfl) _ (ok78 x y) (sm78 x y) (hr78 x y) ?_⟩
    intro g hg hc; simp only [List.mem_cons, List.not_mem_nil, or_false] at hg; subst hg; simp
  · cases e
abbrev S5 : Ctr := (addS 103 spec78 S4)
theorem S5_ok : CtrOk Try.prog S5 := (addS_ok p78 S4_ok)
end Go.Proofs.Ytadejpmecljjpaa
namespace Go.Proofs.Ytadejpmecljjpaa
open Go Go.Eng
def rowOf (h : Tr O) : V → Option (Nat × List Int)
  | .slc none 0 _ _ => some (0, [])
  | .slc (some (m, 0)) len _ 1 => match h.get m with
    | some (.ints .i64 ks) => some (len, ks)
    | _ => none
  | _ => none
theorem rowOf_cases {h : Tr O} {v : V} {l : Nat} {ks : List Int} (e : rowOf h v = some (l, ks)) : (∃ c z, v = .slc none 0 c z ∧ l = 0 ∧ ks = []) ∨ ∃ m c, v = .slc (some (m, 0)) l c 1 ∧ h.get m = some (.ints .i64 ks) := by
  unfold rowOf at e
  split at e
  · rename_i c z
    simp only [Option.some.injEq, Prod.mk.injEq] at e
    exact .inl ⟨c, z, rfl, e.1.symm, e.2.symm⟩
  · rename_i m len c
    split at e
    · rename_i ks' hm
      simp only [Option.some.injEq, Prod.mk.injEq] at e; obtain ⟨rfl, rfl⟩ := e
      exact .inr ⟨m, c, rfl, hm⟩
    · cases e
  · cases e
def frL : List (Nat × V) → Tr V → Tr V
  | [], t => t
  | x :: r, t => frL r (t.set x.1 (some x.2))
def stL (l : List (Nat × V)) (h : Tr O) (n : Nat) : St := { fr := frL l .nil, h := h, n := n, dfs := [] }
def oneH (ks : List Int) : Tr O := Tr.nil.set 0 (some (.ints .i64 ks))
abbrev rowA (ks : List Int) : Tr O := twoH (rowO (some ks)) (rowO none)
abbrev sl (l c : Nat) : V := .slc (some (0, 0)) l c 1
abbrev fn39 : V := .fn (.func 59) [] []
def at0 (ks : List Int) (i : Nat) : Int := ks.getD i 0
theorem wrap64 {x : Int} (h1 : -9223372036854775808 ≤ x) (h2 : x < 9223372036854775808) : IntKind.i64.wrap x = x := by
  rw [IntWalk.i64_left]
  exact IntWalk.wrap64_in x ⟨h1, by omega⟩
noncomputable abbrev cd62 : Code := bodyOf Try.f84
noncomputable abbrev cfS (S : Ctr) : CallF := joinA S cf0
def sI62 (ks : List Int) (l c i : Nat) : St := stL [(0, sl l c), (1, fn39), (7, .int .i64 (Int.ofNat l)), (8, .int .i64 (Int.ofNat i))] (oneH ks) 1
def s162 (ks : List Int) (l c : Nat) : St := stL [(0, sl l c), (1, fn39)] (oneH ks) 1
noncomputable abbrev X62 : Code := seqL (seqR cd62)
noncomputable abbrev B62 : Code := inner (inner (seqR X62))
abbrev H62 (i : Nat) : List (Nat × Fix) := [(9, .split), (16, .split), (18, .give (.int .i64 (Int.ofNat (i + 1))))]
noncomputable abbrev M62 (ks : List Int) (l c i : Nat) := codeM Try.prog S5 cf0 (H62 i) 1000 B62 (sI62 ks l c i)
theorem a62 (ks : List Int) (l c : Nat) : tells (normF [0, 1]) (orNil (codeM Try.prog S5 cf0 [] 1000 (seqL cd62) (startSt [sl l c, fn39] (rowA ks) 2))) = [([], [], some (s162 ks l c))] := by kernel_rfl
theorem b62 (ks : List Int) (l c : Nat) : tells (normF [0, 1, 7, 8]) (orNil (codeM Try.prog S5 cf0 [] 1000 (seqL X62) (s162 ks l c))) = [([], [], some (sI62 ks l c 0))] := by kernel_rfl
theorem c62 (ks : List Int) (l c i : Nat) : tells (roundF Try.prog (cfS S5) 1000 Try.f84 [0, 1, 7, 8]) (orNil (M62 ks l c i)) =
    [([(decide (Int.ofNat i < Int.ofNat l), true), (outB (at0 ks (0 + i * 1)), true)], [0 ≤ Int.ofNat i ∧ Int.ofNat i < Int.ofNat l, 0 + i * 1 < ks.length], .ret (.int .i64 (Int.ofNat i))),
     ([(decide (Int.ofNat i < Int.ofNat l), true), (outB (at0 ks (0 + i * 1)), false)], [0 ≤ Int.ofNat i ∧ Int.ofNat i < Int.ofNat l, 0 + i * 1 < ks.length, V.int .i64 (IntKind.i64.wrap (Int.ofNat i + 1)) = V.int .i64 (Int.ofNat (i + 1))], .next (sI62 ks l c (i + 1))),
     ([(decide (Int.ofNat i < Int.ofNat l), false)], [], .exit 0 (sI62 ks l c i))] := by kernel_rfl
theorem d62 (ks : List Int) (l c i : Nat) : tells (retOf Try.prog (cfS S5) 1000 Try.f84) (orNil (codeM Try.prog S5 cf0 [] 1000 (seqR (seqR cd62)) (sI62 ks l c i))) = [([], [], some (.int .i64 (-1)))] := by kernel_rfl
theorem up_ok {i : Nat} (h : i < 1000000) : V.int .i64 (IntKind.i64.wrap (Int.ofNat i + 1)) = V.int .i64 (Int.ofNat (i + 1)) := by
  rw [wrap64 (by show -9223372036854775808 ≤ (i : Int) + 1; omega) (by show (i : Int) + 1 < 9223372036854775808; omega)]; rfl
theorem lt_ofNat {i l : Nat} (h : decide (Int.ofNat i < Int.ofNat l) = true) : i < l := by
  have : (i : Int) < (l : Int) := of_decide_eq_true h
  omega
theorem nlt_ofNat {i l : Nat} (h : decide (Int.ofNat i < Int.ofNat l) = false) : l ≤ i := by
  have : ¬ (i : Int) < (l : Int) := of_decide_eq_false h
  omega
theorem in_ofNat {i l : Nat} (h : i < l) : 0 ≤ Int.ofNat i ∧ Int.ofNat i < Int.ofNat l := ⟨Int.natCast_nonneg i, by show (i : Int) < (l : Int); omega⟩
theorem at00 (ks : List Int) (i : Nat) : at0 ks (0 + i * 1) = at0 ks i := by rw [Nat.zero_add, Nat.mul_one]
def idxOut (ks : List Int) (l : Nat) : Int := match (List.range l).find? (fun i => outB (at0 ks i)) with
  | some i => Int.ofNat i
  | none => -1
theorem idxOut_at {ks : List Int} {l i : Nat} (hi : i < l) (h : outB (at0 ks i) = true) (hall : ∀ j, j < i → outB (at0 ks j) = false) : idxOut ks l = Int.ofNat i := by
  unfold idxOut
  have : (List.range l).find? (fun i => outB (at0 ks i)) = some i := by
    rw [List.find?_range_eq_some]
    exact ⟨h, by simpa using hi, fun j hj => by rw [hall j hj]; rfl⟩
  rw [this]
theorem idxOut_none {ks : List Int} {l : Nat} (hall : ∀ j, j < l → outB (at0 ks j) = false) : idxOut ks l = -1 := by
  unfold idxOut
  have : (List.range l).find? (fun i => outB (at0 ks i)) = none := by
    rw [List.find?_eq_none]
    intro x hx
    rw [List.mem_range] at hx
    rw [hall x hx]; simp
  rw [this]
theorem cS {S : Ctr} (h : CtrOk Try.prog S) : CallOk Try.prog (joinA S cf0) := joinA_ok h cf0_ok
theorem t62 (ks : List Int) (l c : Nat) (w0 : World) (hl : l ≤ ks.length) (hl2 : l ≤ 1000) : T Try.prog Try.f84.ntmps w0 cd62 (startSt [sl l c, fn39] (rowA ks) 2) (RetQ Try.prog (cfS S5) 1000 Try.f84 (.int .i64 (idxOut ks l))) := by
  refine T_next (cS S5_ok) mo [] 1000 [0, 1] (s162 ks l c) [] (by kernel_rfl) (by kernel_rfl) (by kernel_rfl) (by kernel_rfl) (a62 ks l c) (by simp) ?_
  refine T_seq' (by kernel_rfl) ?_
  refine T_next (cS S5_ok) mo [] 1000 [0, 1, 7, 8] (sI62 ks l c 0) [] (by kernel_rfl) (by kernel_rfl) (by kernel_rfl) (by kernel_rfl) (b62 ks l c) (by simp) ?_
  refine T_block (i := 0) (by kernel_rfl) ?_
  refine T_rounds (cS S5_ok) mo H62 1000 Try.f84 [0, 1, 7, 8] (fun k s => ∃ i, k = l - i ∧ i ≤ l ∧ s = sI62 ks l c i ∧ ∀ j, j < i → outB (at0 ks j) = false) (by kernel_rfl) (by kernel_rfl) ?_ l ⟨0, rfl, Nat.zero_le _, rfl, fun j hj => absurd hj (by omega)⟩
  rintro k s ⟨i, hk, hi, rfl, hall⟩
  refine ⟨i, _, by kernel_rfl, by kernel_rfl, c62 ks l c i, fun g hg hc => ?_⟩
  simp only [List.mem_cons, List.not_mem_nil, or_false] at hg
  rcases hg with rfl | rfl | rfl
  · have hil := lt_ofNat (hc _ (List.mem_cons_self ..))
    have h2 : outB (at0 ks i) = true := by rw [← at00 ks i]; exact hc _ (List.mem_cons_of_mem _ (List.mem_cons_self ..))
    refine ⟨?_, fun s' hq => ?_⟩
    · simp only [List.mem_cons, List.not_mem_nil, or_false]
      rintro a (rfl | rfl)
      · exact in_ofNat hil
      · omega
    · rw [← idxOut_at hil h2 hall] at hq
      exact hq
  · have hil := lt_ofNat (hc _ (List.mem_cons_self ..))
    have h2 : outB (at0 ks i) = false := by rw [← at00 ks i]; exact hc _ (List.mem_cons_of_mem _ (List.mem_cons_self ..))
    refine ⟨?_, l - (i + 1), by omega, i + 1, rfl, hil, rfl, fun j hj => ?_⟩
    · simp only [List.mem_cons, List.not_mem_nil, or_false]
      rintro a (rfl | rfl | rfl)
      · exact in_ofNat hil
      · omega
      · exact up_ok (by omega)
    · by_cases hji : j = i
      · subst hji; exact h2
      · exact hall j (by omega)
  · have hil := nlt_ofNat (hc _ (List.mem_cons_self ..))
    refine ⟨by simp, fun s' hs' => ?_⟩
    have hil : i = l := by omega
    subst hil
    simp only [outOf, if_true, andThen]
    refine T_norm hs' (T_ret (cS S5_ok) mo [] 1000 Try.f84 _ _ (by kernel_rfl) (by kernel_rfl) (by kernel_rfl) (d62 ks i c i) ?_)
    rw [idxOut_none hall]
    simp
theorem oneCall {S : Ctr} (hS : CtrOk Try.prog S) {f : FuncId} {fn : Func} {code : Code} (hf : Try.prog.funcs[f]? = some fn) (hb : fn.body = some code) {ks : List Int} {E : Env} {h : Tr O} {w : World} {m : Nat} (g : Eng.Good E h w) (hm : h.get m = some (.ints .i64 ks)) {args : List V} {args' : List Value} {v : V}
    (ra : vrels (E.two (some m) none) args args') (l : (Nat.ble args.length fn.ntmps && Nat.blt fn.ntmps top) = true) (ht : ∀ w0, T Try.prog fn.ntmps w0 code (startSt args (rowA ks) 2) (RetQ Try.prog (cfS S) 1000 fn v)) :
    Calls Try.prog f args'.toArray w fun e w' => (∃ E, outrel E (.ret v) e) ∧ RowKit.Below w.heap.size w w' := by
  simp only [Bool.and_eq_true] at l
  obtain ⟨g2, d2, n2⟩ := two_ok (a := some m) (b := none) (x := some ks) (y := none) g (fun k e => by cases e; exact ⟨m, rfl, hm⟩) (fun k e => by cases e)
  exact calls_of_TE (F := 1000) mo po (cS hS) hf hb g2 d2 n2 ra (Nat.le_of_ble_eq_true l.1) (Nat.le_of_ble_eq_true l.2) (ht w)
def spec62 : List V → Tr O → Option (List Prop × V)
  | [v, .fn (.func 59) [] []], h => match rowOf h v with
    | some (l, ks) => some ([l ≤ ks.length, l ≤ 1000], .int .i64 (idxOut ks l))
    | none => none
  | _, _ => none
abbrev nilS (c z : Nat) : V := .slc none 0 c z
theorem ok62n (c z : Nat) : funOk Try.prog S5 cf0 [] 1000 (bodyOf Try.f84) [nilS c z, fn39] .nil 0 = true := by kernel_rfl
theorem sm62n (c z : Nat) : samesL (funM Try.prog S5 cf0 [] 1000 (bodyOf Try.f84) [nilS c z, fn39] .nil 0) = samesR (funM Try.prog S5 cf0 [] 1000 (bodyOf Try.f84) [nilS c z, fn39] .nil 0) := by kernel_rfl
theorem hr62n (c z : Nat) : tells (retOf Try.prog (cfS S5) 1000 Try.f84) (funM Try.prog S5 cf0 [] 1000 (bodyOf Try.f84) [nilS c z, fn39] .nil 0) = [([], [], some (.int .i64 (-1)))] := by kernel_rfl
theorem p62 : PureA Try.prog 84 spec62 := by
  refine ⟨Nat.le_of_ble_eq_true (by kernel_rfl), fun args h A v e => ?_⟩
  unfold spec62 at e
  split at e
  · rename_i sv
    split at e
    · rename_i l ks hr
      simp only [Option.some.injEq, Prod.mk.injEq] at e; obtain ⟨rfl, rfl⟩ := e
      refine ⟨by kernel_rfl, fun hA E_ n_ w_ args_ ra_ g_ hd_ hc_ => ?_⟩
      rcases rowOf_cases hr with ⟨c, z, rfl, rfl, rfl⟩ | ⟨m, c, rfl, hm⟩
      · exact calls_tells mo po S5_ok cf0_ok Try.func84 (by kernel_rfl) (by kernel_rfl) ra_ (by kernel_rfl) _ (ok62n c z) (sm62n c z) (hr62n c z) (by simp [idxOut])
      · have h1 : l ≤ ks.length := hA _ (by simp)
        have h2 : l ≤ 1000 := hA (l ≤ 1000) (by simp)
        obtain ⟨y, ys, r0, rs, rfl⟩ := ra_
        exact oneCall S5_ok Try.func84 (by kernel_rfl) g_ hm (args := [sl l c, fn39]) ⟨y, ys, two_slc0 r0, frees_rel _ _ (by kernel_rfl) rs, rfl⟩ (by kernel_rfl) fun w0 => t62 ks l c w0 h1 h2
    · cases e
  · cases e
abbrev S6 : Ctr := addS 84 spec62 S5
theorem S6_ok : CtrOk Try.prog S6 := addS_ok p62 S5_ok
end Go.Proofs.Ytadejpmecljjpaa
namespace Go.Proofs.Ytadejpmecljjpaa
open Go Go.Eng
def badB (l : Nat) (ks : List Int) : Bool := decide (idxOut ks l ≥ 0)
def spec41 : List V → Tr O → Option (List Prop × V)
  | [v, .fn (.func 59) [] []], h => match rowOf h v with
    | some (l, ks) => some ([l ≤ ks.length, l ≤ 1000], .bool (badB l ks))
    | none => none
  | _, _ => none
theorem ok41n (c z : Nat) : funOk Try.prog S6 cf0 [] 1000 (bodyOf Try.f61) [nilS c z, fn39] .nil 0 = true := by kernel_rfl
theorem sm41n (c z : Nat) : samesL (funM Try.prog S6 cf0 [] 1000 (bodyOf Try.f61) [nilS c z, fn39] .nil 0) = samesR (funM Try.prog S6 cf0 [] 1000 (bodyOf Try.f61) [nilS c z, fn39] .nil 0) := by kernel_rfl
theorem hr41n (c z : Nat) : tells (retOf Try.prog (cfS S6) 1000 Try.f61) (funM Try.prog S6 cf0 [] 1000 (bodyOf Try.f61) [nilS c z, fn39] .nil 0) = [([], [0 ≤ ([] : List Int).length, 0 ≤ 1000], some (.bool (badB 0 [])))] := by kernel_rfl
theorem ok41 (ks : List Int) (l c : Nat) : funOk Try.prog S6 cf0 [] 1000 (bodyOf Try.f61) [sl l c, fn39] (rowA ks) 2 = true := by kernel_rfl
theorem sm41 (ks : List Int) (l c : Nat) : samesL (funM Try.prog S6 cf0 [] 1000 (bodyOf Try.f61) [sl l c, fn39] (rowA ks) 2) = samesR (funM Try.prog S6 cf0 [] 1000 (bodyOf Try.f61) [sl l c, fn39] (rowA ks) 2) := by kernel_rfl
theorem hr41 (ks : List Int) (l c : Nat) : tells (retOf Try.prog (cfS S6) 1000 Try.f61) (funM Try.prog S6 cf0 [] 1000 (bodyOf Try.f61) [sl l c, fn39] (rowA ks) 2) = [([], [l ≤ ks.length, l ≤ 1000], some (.bool (badB l ks)))] := by kernel_rfl
theorem p41 : PureA Try.prog 61 spec41 := by
  refine ⟨Nat.le_of_ble_eq_true (by kernel_rfl), fun args h A v e => ?_⟩
  unfold spec41 at e
  split at e
  · rename_i sv
    split at e
    · rename_i l ks hr
      simp only [Option.some.injEq, Prod.mk.injEq] at e; obtain ⟨rfl, rfl⟩ := e
      refine ⟨by kernel_rfl, fun hA E_ n_ w_ args_ ra_ g_ hd_ hc_ => ?_⟩
      rcases rowOf_cases hr with ⟨c, z, rfl, rfl, rfl⟩ | ⟨m, c, rfl, hm⟩
      · exact calls_tells mo po S6_ok cf0_ok Try.func61 (by kernel_rfl) (by kernel_rfl) ra_ (by kernel_rfl) _ (ok41n c z) (sm41n c z) (hr41n c z) (by simp)
      · have h1 : l ≤ ks.length := hA _ (by simp)
        have h2 : l ≤ 1000 := hA (l ≤ 1000) (by simp)
        obtain ⟨y, ys, r0, rs, rfl⟩ := ra_
        obtain ⟨g2, d2, n2⟩ := two_ok (a := some m) (b := none) (x := some ks) (y := none) g_ (fun k e => by cases e; exact ⟨m, rfl, hm⟩) (fun k e => by cases e)
        exact calls_tellsE mo po S6_ok cf0_ok Try.func61 (by kernel_rfl) g2 d2 n2 (args := [sl l c, fn39]) ⟨y, ys, two_slc0 r0, frees_rel _ _ (by kernel_rfl) rs, rfl⟩ (by kernel_rfl) _ (ok41 ks l c) (sm41 ks l c) (hr41 ks l c) (by simp [h1, h2])
    · cases e
  · cases e
noncomputable abbrev cd64 : Code := bodyOf Try.f85
def sI64 (ks : List Int) (l c i : Nat) : St := stL [(0, sl l c), (3, .int .i64 (Int.ofNat i))] (oneH ks) 1
def s164 (ks : List Int) (l c : Nat) : St := stL [(0, sl l c)] (oneH ks) 1
noncomputable abbrev X64 : Code := seqL (seqR cd64)
noncomputable abbrev B64 : Code := inner (inner (seqR X64))
abbrev H64 (i : Nat) : List (Nat × Fix) := [(8, .split), (17, .give (.int .i64 (Int.ofNat (i - 1)))), (20, .split), (10, .give (.int .i64 (Int.ofNat (i - 1))))]
noncomputable abbrev M64 (ks : List Int) (l c i : Nat) := codeM Try.prog S6 cf0 (H64 i) 1000 B64 (sI64 ks l c i)
theorem a64 (ks : List Int) (l c : Nat) : tells (normF [0]) (orNil (codeM Try.prog S6 cf0 [] 1000 (seqL cd64) (startSt [sl l c] (rowA ks) 2))) = [([], [], some (s164 ks l c))] := by kernel_rfl
theorem b64 (ks : List Int) (l c : Nat) : tells (normF [0, 3]) (orNil (codeM Try.prog S6 cf0 [(6, .give (.int .i64 (Int.ofNat (l - 1))))] 1000 (seqL X64) (s164 ks l c))) = [([], [V.int .i64 (IntKind.i64.wrap (Int.ofNat l - 1)) = V.int .i64 (Int.ofNat (l - 1))], some (sI64 ks l c (l - 1)))] := by kernel_rfl
theorem c64 (ks : List Int) (l c i : Nat) : tells (roundF Try.prog (cfS S6) 1000 Try.f85 [0, 3]) (orNil (M64 ks l c i)) =
    [([(decide (Int.ofNat i > 0), true), (decide (at0 ks (0 + i * 1) < at0 ks (0 + (i - 1) * 1)), true)], [0 ≤ Int.ofNat i ∧ Int.ofNat i < Int.ofNat l, 0 + i * 1 < ks.length, V.int .i64 (IntKind.i64.wrap (Int.ofNat i - 1)) = V.int .i64 (Int.ofNat (i - 1)), 0 ≤ Int.ofNat (i - 1) ∧ Int.ofNat (i - 1) < Int.ofNat l, 0 + (i - 1) * 1 < ks.length], .ret (.bool false)),
     ([(decide (Int.ofNat i > 0), true), (decide (at0 ks (0 + i * 1) < at0 ks (0 + (i - 1) * 1)), false)], [0 ≤ Int.ofNat i ∧ Int.ofNat i < Int.ofNat l, 0 + i * 1 < ks.length, V.int .i64 (IntKind.i64.wrap (Int.ofNat i - 1)) = V.int .i64 (Int.ofNat (i - 1)), 0 ≤ Int.ofNat (i - 1) ∧ Int.ofNat (i - 1) < Int.ofNat l, 0 + (i - 1) * 1 < ks.length, V.int .i64 (IntKind.i64.wrap (Int.ofNat i - 1)) = V.int .i64 (Int.ofNat (i - 1))], .next (sI64 ks l c (i - 1))),
     ([(decide (Int.ofNat i > 0), false)], [], .exit 0 (sI64 ks l c i))] := by kernel_rfl
theorem d64 (ks : List Int) (l c i : Nat) : tells (retOf Try.prog (cfS S6) 1000 Try.f85) (orNil (codeM Try.prog S6 cf0 [] 1000 (seqR (seqR cd64)) (sI64 ks l c i))) = [([], [], some (.bool true))] := by kernel_rfl
def sortedB (ks : List Int) (l : Nat) : Bool := decide (∀ j, j < l → 0 < j → at0 ks (j - 1) ≤ at0 ks j)
theorem down_ok {i : Nat} (h0 : 0 < i) (h : i < 1000000) : V.int .i64 (IntKind.i64.wrap (Int.ofNat i - 1)) = V.int .i64 (Int.ofNat (i - 1)) := by
  have : Int.ofNat i - 1 = Int.ofNat (i - 1) := by show (i : Int) - 1 = ((i - 1 : Nat) : Int); omega
  rw [this, wrap64 (by show -9223372036854775808 ≤ ((i - 1 : Nat) : Int); omega) (by show ((i - 1 : Nat) : Int) < 9223372036854775808; omega)]
theorem pos_ofNat {i : Nat} (h : decide (Int.ofNat i > 0) = true) : 0 < i := by
  have : (i : Int) > 0 := of_decide_eq_true h
  omega
theorem npos_ofNat {i : Nat} (h : decide (Int.ofNat i > 0) = false) : i = 0 := by
  have : ¬ (i : Int) > 0 := of_decide_eq_false h
  omega
theorem t64 (ks : List Int) (l c : Nat) (w0 : World) (hl0 : 0 < l) (hl : l ≤ ks.length) (hl2 : l ≤ 1000) : T Try.prog Try.f85.ntmps w0 cd64 (startSt [sl l c] (rowA ks) 2) (RetQ Try.prog (cfS S6) 1000 Try.f85 (.bool (sortedB ks l))) := by
  refine T_next (cS S6_ok) mo [] 1000 [0] (s164 ks l c) [] (by kernel_rfl) (by kernel_rfl) (by kernel_rfl) (by kernel_rfl) (a64 ks l c) (by simp) ?_
  refine T_seq' (by kernel_rfl) ?_
  refine T_next (cS S6_ok) mo _ 1000 [0, 3] (sI64 ks l c (l - 1)) _ (by kernel_rfl) (by kernel_rfl) (by kernel_rfl) (by kernel_rfl) (b64 ks l c) (by intro a ha; rw [List.mem_singleton.1 ha]; exact down_ok hl0 (by omega)) ?_
  refine T_block (i := 0) (by kernel_rfl) ?_
  refine T_rounds (cS S6_ok) mo H64 1000 Try.f85 [0, 3] (fun k s => k < l ∧ s = sI64 ks l c k ∧ ∀ j, k < j → j < l → at0 ks (j - 1) ≤ at0 ks j) (by kernel_rfl) (by kernel_rfl) ?_ (l - 1) ⟨by omega, rfl, fun j h1 h2 => by omega⟩
  rintro i s ⟨hi, rfl, hall⟩
  refine ⟨i, _, by kernel_rfl, by kernel_rfl, c64 ks l c i, fun g hg hc => ?_⟩
  simp only [List.mem_cons, List.not_mem_nil, or_false] at hg
  rcases hg with rfl | rfl | rfl
  · have hip := pos_ofNat (hc _ (List.mem_cons_self ..))
    have h2 : decide (at0 ks (0 + i * 1) < at0 ks (0 + (i - 1) * 1)) = true := hc _ (List.mem_cons_of_mem _ (List.mem_cons_self ..))
    rw [at00, at00, decide_eq_true_eq] at h2
    refine ⟨?_, fun s' hq => ?_⟩
    · simp only [List.mem_cons, List.not_mem_nil, or_false]
      rintro a (rfl | rfl | rfl | rfl | rfl)
      · exact in_ofNat hi
      · omega
      · exact down_ok hip (by omega)
      · exact in_ofNat (by omega)
      · omega
    · have : sortedB ks l = false := decide_eq_false fun h => by have := h i hi hip; omega
      rw [this]; exact hq
  · have hip := pos_ofNat (hc _ (List.mem_cons_self ..))
    have h2 : decide (at0 ks (0 + i * 1) < at0 ks (0 + (i - 1) * 1)) = false := hc _ (List.mem_cons_of_mem _ (List.mem_cons_self ..))
    rw [at00, at00, decide_eq_false_iff_not] at h2
    refine ⟨?_, i - 1, by omega, by omega, rfl, fun j h3 h4 => ?_⟩
    · simp only [List.mem_cons, List.not_mem_nil, or_false]
      rintro a (rfl | rfl | rfl | rfl | rfl | rfl)
      · exact in_ofNat hi
      · omega
      · exact down_ok hip (by omega)
      · exact in_ofNat (by omega)
      · omega
      · exact down_ok hip (by omega)
    · by_cases hj : j = i
      · subst hj; omega
      · exact hall j (by omega) h4
  · have hi0 := npos_ofNat (hc _ (List.mem_cons_self ..))
    subst hi0
    refine ⟨by simp, fun s' hs' => ?_⟩
    simp only [outOf, if_true, andThen]
    refine T_norm hs' (T_ret (cS S6_ok) mo [] 1000 Try.f85 _ _ (by kernel_rfl) (by kernel_rfl) (by kernel_rfl) (d64 ks l c 0) ?_)
    have : sortedB ks l = true := decide_eq_true fun j h1 h2 => hall j h2 h1
    rw [this]
    simp
def spec64 : List V → Tr O → Option (List Prop × V)
  | [.slc (some (m, 0)) l c 1], h => match h.get m with
    | some (.ints .i64 ks) => some ([0 < l, l ≤ ks.length, l ≤ 1000], .bool (sortedB ks l))
    | _ => none
  | _, _ => none
theorem p64 : PureA Try.prog 85 spec64 := by
  refine ⟨Nat.le_of_ble_eq_true (by kernel_rfl), fun args h A v e => ?_⟩
  unfold spec64 at e
  split at e
  · rename_i m l c
    split at e
    · rename_i ks hm
      simp only [Option.some.injEq, Prod.mk.injEq] at e; obtain ⟨rfl, rfl⟩ := e
      refine ⟨by kernel_rfl, fun hA E_ n_ w_ args_ ra_ g_ hd_ hc_ => ?_⟩
      have h0 : 0 < l := hA _ (by simp)
      have h1 : l ≤ ks.length := hA _ (by simp)
      have h2 : l ≤ 1000 := hA (l ≤ 1000) (by simp)
      obtain ⟨y, ys, r0, rs, rfl⟩ := ra_
      exact oneCall S6_ok Try.func85 (by kernel_rfl) g_ hm (args := [sl l c]) ⟨y, ys, two_slc0 r0, rs, rfl⟩ (by kernel_rfl) fun w0 => t64 ks l c w0 h0 h1 h2
    · cases e
  · cases e
abbrev S7 : Ctr := addS 85 spec64 (addS 61 spec41 S6)
theorem S7_ok : CtrOk Try.prog S7 := addS_ok p64 (addS_ok p41 S6_ok)
def curveB (l : Nat) (ks : List Int) : Bool := pointsB (Int.ofNat l) && (decide (at0 ks 0 ≥ 0) && (decide (at0 ks (l - 1) ≤ 65535) && sortedB ks l))
def spec42 : List V → Tr O → Option (List Prop × V)
  | [v], h => match rowOf h v with
    | some (l, ks) => some ([l ≤ ks.length, l ≤ 1000], .bool (curveB l ks))
    | none => none
  | _, _ => none
abbrev H42 (l : Nat) : List (Nat × Fix) := [(5, .split), (10, .split), (16, .give (.int .i64 (Int.ofNat (l - 1)))), (19, .split)]
theorem ok42n (c z : Nat) : funOk Try.prog S7 cf0 [] 1000 (bodyOf Try.f62) [nilS c z] .nil 0 = true := by kernel_rfl
theorem sm42n (c z : Nat) : samesL (funM Try.prog S7 cf0 [] 1000 (bodyOf Try.f62) [nilS c z] .nil 0) = samesR (funM Try.prog S7 cf0 [] 1000 (bodyOf Try.f62) [nilS c z] .nil 0) := by kernel_rfl
theorem hr42n (c z : Nat) : tells (retOf Try.prog (cfS S7) 1000 Try.f62) (funM Try.prog S7 cf0 [] 1000 (bodyOf Try.f62) [nilS c z] .nil 0) = [([], [], some (.bool false))] := by kernel_rfl
theorem ok42 (ks : List Int) (l c : Nat) : funOk Try.prog S7 cf0 (H42 l) 1000 (bodyOf Try.f62) [sl l c] (rowA ks) 2 = true := by kernel_rfl
theorem sm42 (ks : List Int) (l c : Nat) : samesL (funM Try.prog S7 cf0 (H42 l) 1000 (bodyOf Try.f62) [sl l c] (rowA ks) 2) = samesR (funM Try.prog S7 cf0 (H42 l) 1000 (bodyOf Try.f62) [sl l c] (rowA ks) 2) := by kernel_rfl
theorem hr42 (ks : List Int) (l c : Nat) : tells (retOf Try.prog (cfS S7) 1000 Try.f62) (funM Try.prog S7 cf0 (H42 l) 1000 (bodyOf Try.f62) [sl l c] (rowA ks) 2) =
    [([(pointsB (Int.ofNat l), true), (decide (at0 ks 0 ≥ 0), true), (decide (at0 ks (0 + (l - 1) * 1) ≤ 65535), true)], [0 ≤ (0 : Int) ∧ 0 < Int.ofNat l, 0 < ks.length, V.int .i64 (IntKind.i64.wrap (Int.ofNat l - 1)) = V.int .i64 (Int.ofNat (l - 1)), 0 ≤ Int.ofNat (l - 1) ∧ Int.ofNat (l - 1) < Int.ofNat l, 0 + (l - 1) * 1 < ks.length, 0 < l, l ≤ ks.length, l ≤ 1000], some (.bool (sortedB ks l))),
     ([(pointsB (Int.ofNat l), true), (decide (at0 ks 0 ≥ 0), true), (decide (at0 ks (0 + (l - 1) * 1) ≤ 65535), false)], [0 ≤ (0 : Int) ∧ 0 < Int.ofNat l, 0 < ks.length, V.int .i64 (IntKind.i64.wrap (Int.ofNat l - 1)) = V.int .i64 (Int.ofNat (l - 1)), 0 ≤ Int.ofNat (l - 1) ∧ Int.ofNat (l - 1) < Int.ofNat l, 0 + (l - 1) * 1 < ks.length], some (.bool false)),
     ([(pointsB (Int.ofNat l), true), (decide (at0 ks 0 ≥ 0), false)], [0 ≤ (0 : Int) ∧ 0 < Int.ofNat l, 0 < ks.length], some (.bool false)),
     ([(pointsB (Int.ofNat l), false)], [], some (.bool false))] := by kernel_rfl
theorem points_nat {l : Nat} (h : pointsB (Int.ofNat l) = true) : 2 ≤ l ∧ l ≤ 257 := by
  simp only [pointsB, Bool.and_eq_true, decide_eq_true_eq] at h
  have h1 : (l : Int) ≥ 2 := h.1
  have h2 : (l : Int) ≤ 257 := h.2
  omega
theorem p42 : PureA Try.prog 62 spec42 := by
  refine ⟨Nat.le_of_ble_eq_true (by kernel_rfl), fun args h A v e => ?_⟩
  unfold spec42 at e
  split at e
  · rename_i sv
    split at e
    · rename_i l ks hr
      simp only [Option.some.injEq, Prod.mk.injEq] at e; obtain ⟨rfl, rfl⟩ := e
      refine ⟨by kernel_rfl, fun hA E_ n_ w_ args_ ra_ g_ hd_ hc_ => ?_⟩
      rcases rowOf_cases hr with ⟨c, z, rfl, rfl, rfl⟩ | ⟨m, c, rfl, hm⟩
      · exact calls_tells mo po S7_ok cf0_ok Try.func62 (by kernel_rfl) (by kernel_rfl) ra_ (by kernel_rfl) _ (ok42n c z) (sm42n c z) (hr42n c z) (by simp [curveB, pointsB])
      · have h1 : l ≤ ks.length := hA _ (by simp)
        have h2 : l ≤ 1000 := hA (l ≤ 1000) (by simp)
        obtain ⟨y, ys, r0, rs, rfl⟩ := ra_
        obtain ⟨g2, d2, n2⟩ := two_ok (a := some m) (b := none) (x := some ks) (y := none) g_ (fun k e => by cases e; exact ⟨m, rfl, hm⟩) (fun k e => by cases e)
        refine calls_tellsE mo po S7_ok cf0_ok Try.func62 (by kernel_rfl) g2 d2 n2 (args := [sl l c]) ⟨y, ys, two_slc0 r0, rs, rfl⟩ (by kernel_rfl) _ (ok42 ks l c) (sm42 ks l c) (hr42 ks l c) ?_
        intro g hg hc
        simp only [List.mem_cons, List.not_mem_nil, or_false] at hg
        have asr : 2 ≤ l → (0 ≤ (0 : Int) ∧ 0 < Int.ofNat l) ∧ 0 < ks.length ∧ V.int .i64 (IntKind.i64.wrap (Int.ofNat l - 1)) = V.int .i64 (Int.ofNat (l - 1)) ∧ (0 ≤ Int.ofNat (l - 1) ∧ Int.ofNat (l - 1) < Int.ofNat l) ∧ 0 + (l - 1) * 1 < ks.length ∧ 0 < l :=
          fun hl => ⟨⟨Int.le_refl _, by show (0 : Int) < (l : Int); omega⟩, by omega, down_ok (by omega) (by omega), in_ofNat (by omega), by omega, by omega⟩
        rcases hg with rfl | rfl | rfl | rfl
        · have hp : pointsB (Int.ofNat l) = true := hc _ (List.mem_cons_self ..)
          have hq : decide (at0 ks 0 ≥ 0) = true := hc _ (List.mem_cons_of_mem _ (List.mem_cons_self ..))
          have hz : decide (at0 ks (0 + (l - 1) * 1) ≤ 65535) = true := hc _ (List.mem_cons_of_mem _ (List.mem_cons_of_mem _ (List.mem_cons_self ..)))
          rw [at00] at hz
          obtain ⟨q1, q2, q3, q4, q5, q6⟩ := asr (points_nat hp).1
          refine ⟨?_, by simp only [curveB, hp, hq, hz, Bool.true_and]⟩
          simp only [List.mem_cons, List.not_mem_nil, or_false]
          rintro a (rfl | rfl | rfl | rfl | rfl | rfl | rfl | rfl) <;> assumption
        · have hp : pointsB (Int.ofNat l) = true := hc _ (List.mem_cons_self ..)
          have hq : decide (at0 ks 0 ≥ 0) = true := hc _ (List.mem_cons_of_mem _ (List.mem_cons_self ..))
          have hz : decide (at0 ks (0 + (l - 1) * 1) ≤ 65535) = false := hc _ (List.mem_cons_of_mem _ (List.mem_cons_of_mem _ (List.mem_cons_self ..)))
          rw [at00] at hz
          obtain ⟨q1, q2, q3, q4, q5, q6⟩ := asr (points_nat hp).1
          refine ⟨?_, by simp only [curveB, hp, hq, hz, Bool.true_and, Bool.false_and]⟩
          simp only [List.mem_cons, List.not_mem_nil, or_false]
          rintro a (rfl | rfl | rfl | rfl | rfl) <;> assumption
        · have hp : pointsB (Int.ofNat l) = true := hc _ (List.mem_cons_self ..)
          have hq : decide (at0 ks 0 ≥ 0) = false := hc _ (List.mem_cons_of_mem _ (List.mem_cons_self ..))
          obtain ⟨q1, q2, q3, q4, q5, q6⟩ := asr (points_nat hp).1
          refine ⟨?_, by simp only [curveB, hp, hq, Bool.true_and, Bool.false_and]⟩
          simp only [List.mem_cons, List.not_mem_nil, or_false]
          rintro a (rfl | rfl) <;> assumption
        · have hp : pointsB (Int.ofNat l) = false := hc _ (List.mem_cons_self ..)
          exact ⟨by simp, by simp only [curveB, hp, Bool.false_and]⟩
    · cases e
  · cases e
end Go.Proofs.Ytadejpmecljjpaa
namespace Go.Proofs.Ytadejpmecljjpaa
open Go Go.Eng
noncomputable abbrev cd38 : Code := bodyOf Try.f58
def s138 (ks : List Int) (l c : Nat) : St := stL [(0, sl l c)] (oneH ks) 1
def s238 (ks : List Int) (l c : Nat) : St := stL [(0, sl l c), (3, .bool true)] (oneH ks) 1
def sI38 (ks : List Int) (l c i : Nat) : St := stL [(0, sl l c), (4, .int .i64 (Int.ofNat i))] (oneH ks) 1
noncomputable abbrev Y38 : Code := seqR (seqR (seqR cd38))
noncomputable abbrev X38 : Code := seqL Y38
noncomputable abbrev B38 : Code := inner (inner (seqR X38))
abbrev H38 (i : Nat) : List (Nat × Fix) := [(13, .split), (20, .split), (26, .split), (30, .split), (38, .give (.int .i64 (Int.ofNat (i - 1)))), (41, .split), (15, .give (.int .i64 (Int.ofNat (i + 1))))]
noncomputable abbrev M38 (ks : List Int) (l c i : Nat) := codeM Try.prog S7 cf0 (H38 i) 1000 B38 (sI38 ks l c i)
theorem n38 (ks : List Int) (l c : Nat) : tells (retOf Try.prog (cfS S7) 1000 Try.f58) (orNil (codeM Try.prog S7 cf0 [(7, .give (.bool false))] 1000 cd38 (startSt [sl l c] (rowA ks) 2))) = [([], [V.bool (pointsB (Int.ofNat l)) = V.bool false], some (.bool false))] := by kernel_rfl
theorem a38 (ks : List Int) (l c : Nat) : tells (normF [0]) (orNil (codeM Try.prog S7 cf0 [] 1000 (seqL cd38) (startSt [sl l c] (rowA ks) 2))) = [([], [], some (s138 ks l c))] := by kernel_rfl
theorem a38' (ks : List Int) (l c : Nat) : tells (normF [0, 3]) (orNil (codeM Try.prog S7 cf0 [(7, .give (.bool true))] 1000 (seqL (seqR cd38)) (s138 ks l c))) = [([], [V.bool (pointsB (Int.ofNat l)) = V.bool true], some (s238 ks l c))] := by kernel_rfl
theorem a38'' (ks : List Int) (l c : Nat) : tells (normF [0]) (orNil (codeM Try.prog S7 cf0 [] 1000 (seqL (seqR (seqR cd38))) (s238 ks l c))) = [([], [], some (s138 ks l c))] := by kernel_rfl
theorem b38 (ks : List Int) (l c : Nat) : tells (normF [0, 4]) (orNil (codeM Try.prog S7 cf0 [] 1000 (seqL X38) (s138 ks l c))) = [([], [], some (sI38 ks l c 0))] := by kernel_rfl
def ix (l i : Nat) : Prop := 0 ≤ Int.ofNat i ∧ Int.ofNat i < Int.ofNat l
def ld (ks : List Int) (i : Nat) : Prop := 0 + i * 1 < ks.length
def atx (ks : List Int) (i : Nat) : Int := at0 ks (0 + i * 1)
theorem c38 (ks : List Int) (l c i : Nat) : tells (roundF Try.prog (cfS S7) 1000 Try.f58 [0, 4]) (orNil (M38 ks l c i)) =
    [([(decide (Int.ofNat i < Int.ofNat l), true), (decide (atx ks i < 0), true)], [ix l i, ld ks i], .ret (.bool false)),
     ([(decide (Int.ofNat i < Int.ofNat l), true), (decide (atx ks i < 0), false), (decide (atx ks i > 65535), true)], [ix l i, ld ks i, ix l i, ld ks i], .ret (.bool false)),
     ([(decide (Int.ofNat i < Int.ofNat l), true), (decide (atx ks i < 0), false), (decide (atx ks i > 65535), false), (decide (Int.ofNat i > 0), true), (decide (atx ks i < atx ks (i - 1)), true)], [ix l i, ld ks i, ix l i, ld ks i, ix l i, ld ks i, V.int .i64 (IntKind.i64.wrap (Int.ofNat i - 1)) = V.int .i64 (Int.ofNat (i - 1)), ix l (i - 1), ld ks (i - 1)], .ret (.bool false)),
     ([(decide (Int.ofNat i < Int.ofNat l), true), (decide (atx ks i < 0), false), (decide (atx ks i > 65535), false), (decide (Int.ofNat i > 0), true), (decide (atx ks i < atx ks (i - 1)), false)], [ix l i, ld ks i, ix l i, ld ks i, ix l i, ld ks i, V.int .i64 (IntKind.i64.wrap (Int.ofNat i - 1)) = V.int .i64 (Int.ofNat (i - 1)), ix l (i - 1), ld ks (i - 1), V.int .i64 (IntKind.i64.wrap (Int.ofNat i + 1)) = V.int .i64 (Int.ofNat (i + 1))], .next (sI38 ks l c (i + 1))),
     ([(decide (Int.ofNat i < Int.ofNat l), true), (decide (atx ks i < 0), false), (decide (atx ks i > 65535), false), (decide (Int.ofNat i > 0), false)], [ix l i, ld ks i, ix l i, ld ks i, V.int .i64 (IntKind.i64.wrap (Int.ofNat i + 1)) = V.int .i64 (Int.ofNat (i + 1))], .next (sI38 ks l c (i + 1))),
     ([(decide (Int.ofNat i < Int.ofNat l), false)], [], .exit 0 (sI38 ks l c i))] := by kernel_rfl
theorem d38 (ks : List Int) (l c i : Nat) : tells (retOf Try.prog (cfS S7) 1000 Try.f58) (orNil (codeM Try.prog S7 cf0 [] 1000 (seqR Y38) (sI38 ks l c i))) = [([], [], some (.bool true))] := by kernel_rfl
def fineAt (ks : List Int) (i : Nat) : Prop := 0 ≤ at0 ks i ∧ at0 ks i ≤ 65535 ∧ (0 < i → at0 ks (i - 1) ≤ at0 ks i)
theorem curveB_true {l : Nat} {ks : List Int} (hp : pointsB (Int.ofNat l) = true) (h : ∀ i, i < l → fineAt ks i) : curveB l ks = true := by
  have hl := points_nat hp
  have h1 : decide (at0 ks 0 ≥ 0) = true := decide_eq_true (h 0 (by omega)).1
  have h2 : decide (at0 ks (l - 1) ≤ 65535) = true := decide_eq_true (h (l - 1) (by omega)).2.1
  have h3 : sortedB ks l = true := decide_eq_true fun j hj h0 => (h j hj).2.2 h0
  simp only [curveB, hp, h1, h2, h3, Bool.and_self]
theorem sorted_le {ks : List Int} {l : Nat} (h : sortedB ks l = true) : ∀ (j i : Nat), i ≤ j → j < l → at0 ks i ≤ at0 ks j := by
  have h := of_decide_eq_true h
  intro j
  induction j with
  | zero => intro i hi _; have : i = 0 := by omega
            subst this; exact Int.le_refl _
  | succ j ih =>
    intro i hi hj
    by_cases q : i = j + 1
    · subst q; exact Int.le_refl _
    · have h1 := ih i (by omega) (by omega)
      have h2 := h (j + 1) hj (by omega)
      simp only [Nat.add_sub_cancel] at h2
      omega
theorem curveB_false {l : Nat} {ks : List Int} {i : Nat} (hi : i < l) (h : ¬ fineAt ks i) : curveB l ks = false := by
  cases hb : curveB l ks with
  | false => rfl
  | true =>
    exfalso
    simp only [curveB, Bool.and_eq_true, decide_eq_true_eq] at hb
    obtain ⟨hp, h1, h2, h3⟩ := hb
    have hle := sorted_le h3
    have k1 := hle i 0 (by omega) hi
    have k2 := hle (l - 1) i (by omega) (by omega)
    exact h ⟨by omega, by omega, fun h0 => of_decide_eq_true h3 i hi h0⟩
theorem t38 (ks : List Int) (l c : Nat) (w0 : World) (hl : l ≤ ks.length) (hl2 : l ≤ 1000) : T Try.prog Try.f58.ntmps w0 cd38 (startSt [sl l c] (rowA ks) 2) (RetQ Try.prog (cfS S7) 1000 Try.f58 (.bool (curveB l ks))) := by
  cases hp : pointsB (Int.ofNat l) with
  | false =>
    refine T_ret (cS S7_ok) mo _ 1000 Try.f58 _ _ (by kernel_rfl) (by kernel_rfl) (by kernel_rfl) (n38 ks l c) ?_
    have : curveB l ks = false := by simp only [curveB, hp, Bool.false_and]
    rw [this]
    intro g hg _
    rw [List.mem_singleton.1 hg]
    exact ⟨fun a ha => by rw [List.mem_singleton.1 ha, hp], rfl⟩
  | true =>
  refine T_next (cS S7_ok) mo [] 1000 [0] (s138 ks l c) [] (by kernel_rfl) (by kernel_rfl) (by kernel_rfl) (by kernel_rfl) (a38 ks l c) (by simp) ?_
  refine T_next (cS S7_ok) mo _ 1000 [0, 3] (s238 ks l c) _ (by kernel_rfl) (by kernel_rfl) (by kernel_rfl) (by kernel_rfl) (a38' ks l c) (fun a ha => by rw [List.mem_singleton.1 ha, hp]) ?_
  refine T_next (cS S7_ok) mo _ 1000 [0] (s138 ks l c) _ (by kernel_rfl) (by kernel_rfl) (by kernel_rfl) (by kernel_rfl) (a38'' ks l c) (by simp) ?_
  refine T_seq' (by kernel_rfl) ?_
  refine T_next (cS S7_ok) mo [] 1000 [0, 4] (sI38 ks l c 0) [] (by kernel_rfl) (by kernel_rfl) (by kernel_rfl) (by kernel_rfl) (b38 ks l c) (by simp) ?_
  refine T_block (i := 0) (by kernel_rfl) ?_
  refine T_rounds (cS S7_ok) mo H38 1000 Try.f58 [0, 4] (fun k s => ∃ i, k = l - i ∧ i ≤ l ∧ s = sI38 ks l c i ∧ ∀ j, j < i → fineAt ks j) (by kernel_rfl) (by kernel_rfl) ?_ l ⟨0, rfl, Nat.zero_le _, rfl, fun j hj => absurd hj (by omega)⟩
  rintro k s ⟨i, hk, hi, rfl, hall⟩
  refine ⟨i, _, by kernel_rfl, by kernel_rfl, c38 ks l c i, fun g hg hc => ?_⟩
  simp only [List.mem_cons, List.not_mem_nil, or_false] at hg
  have hx : ∀ j, atx ks j = at0 ks j := fun j => at00 ks j
  have hix : ∀ j, j < l → ix l j := fun j hj => in_ofNat hj
  have hld : ∀ j, j < l → ld ks j := fun j hj => by unfold ld; omega
  rcases hg with rfl | rfl | rfl | rfl | rfl | rfl
  · have hil := lt_ofNat (hc _ (List.mem_cons_self ..))
    have h2 : decide (atx ks i < 0) = true := hc (decide (atx ks i < 0), true) (List.mem_cons_of_mem _ (List.mem_cons_self ..))
    rw [hx, decide_eq_true_eq] at h2
    refine ⟨?_, fun s' hq => ?_⟩
    · simp only [List.mem_cons, List.not_mem_nil, or_false]
      rintro a (rfl | rfl)
      · exact hix i hil
      · exact hld i hil
    · rw [curveB_false hil (fun h => by have := h.1; omega)]; exact hq
  · have hil := lt_ofNat (hc _ (List.mem_cons_self ..))
    have h2 : decide (atx ks i > 65535) = true := hc (decide (atx ks i > 65535), true) (List.mem_cons_of_mem _ (List.mem_cons_of_mem _ (List.mem_cons_self ..)))
    rw [hx, decide_eq_true_eq] at h2
    refine ⟨?_, fun s' hq => ?_⟩
    · simp only [List.mem_cons, List.not_mem_nil, or_false]
      rintro a (rfl | rfl | rfl | rfl) <;> first | exact hix i hil | exact hld i hil
    · rw [curveB_false hil (fun h => by have := h.2.1; omega)]; exact hq
  · have hil := lt_ofNat (hc _ (List.mem_cons_self ..))
    have h3 := pos_ofNat (hc (decide (Int.ofNat i > 0), true) (List.mem_cons_of_mem _ (List.mem_cons_of_mem _ (List.mem_cons_of_mem _ (List.mem_cons_self ..)))))
    have h2 : decide (atx ks i < atx ks (i - 1)) = true := hc (decide (atx ks i < atx ks (i - 1)), true) (List.mem_cons_of_mem _ (List.mem_cons_of_mem _ (List.mem_cons_of_mem _ (List.mem_cons_of_mem _ (List.mem_cons_self ..)))))
    rw [hx, hx, decide_eq_true_eq] at h2
    refine ⟨?_, fun s' hq => ?_⟩
    · simp only [List.mem_cons, List.not_mem_nil, or_false]
      rintro a (rfl | rfl | rfl | rfl | rfl | rfl | rfl | rfl | rfl) <;> first | exact hix i hil | exact hld i hil | exact hix (i - 1) (by omega) | exact hld (i - 1) (by omega) | exact down_ok h3 (by omega)
    · rw [curveB_false hil (fun h => by have := h.2.2 h3; omega)]; exact hq
  · have hil := lt_ofNat (hc _ (List.mem_cons_self ..))
    have k1 : decide (atx ks i < 0) = false := hc (decide (atx ks i < 0), false) (List.mem_cons_of_mem _ (List.mem_cons_self ..))
    have k2 : decide (atx ks i > 65535) = false := hc (decide (atx ks i > 65535), false) (List.mem_cons_of_mem _ (List.mem_cons_of_mem _ (List.mem_cons_self ..)))
    have h3 := pos_ofNat (hc (decide (Int.ofNat i > 0), true) (List.mem_cons_of_mem _ (List.mem_cons_of_mem _ (List.mem_cons_of_mem _ (List.mem_cons_self ..)))))
    have h2 : decide (atx ks i < atx ks (i - 1)) = false := hc (decide (atx ks i < atx ks (i - 1)), false) (List.mem_cons_of_mem _ (List.mem_cons_of_mem _ (List.mem_cons_of_mem _ (List.mem_cons_of_mem _ (List.mem_cons_self ..)))))
    rw [hx, decide_eq_false_iff_not] at k1 k2
    rw [hx, hx, decide_eq_false_iff_not] at h2
    refine ⟨?_, l - (i + 1), by omega, i + 1, rfl, hil, rfl, fun j hj => ?_⟩
    · simp only [List.mem_cons, List.not_mem_nil, or_false]
      rintro a (rfl | rfl | rfl | rfl | rfl | rfl | rfl | rfl | rfl | rfl) <;> first | exact hix i hil | exact hld i hil | exact hix (i - 1) (by omega) | exact hld (i - 1) (by omega) | exact down_ok h3 (by omega) | exact up_ok (by omega)
    · by_cases hji : j = i
      · subst hji; exact ⟨by omega, by omega, fun _ => by omega⟩
      · exact hall j (by omega)
  · have hil := lt_ofNat (hc _ (List.mem_cons_self ..))
    have k1 : decide (atx ks i < 0) = false := hc (decide (atx ks i < 0), false) (List.mem_cons_of_mem _ (List.mem_cons_self ..))
    have k2 : decide (atx ks i > 65535) = false := hc (decide (atx ks i > 65535), false) (List.mem_cons_of_mem _ (List.mem_cons_of_mem _ (List.mem_cons_self ..)))
    have h3 := npos_ofNat (hc (decide (Int.ofNat i > 0), false) (List.mem_cons_of_mem _ (List.mem_cons_of_mem _ (List.mem_cons_of_mem _ (List.mem_cons_self ..)))))
    rw [hx, decide_eq_false_iff_not] at k1 k2
    refine ⟨?_, l - (i + 1), by omega, i + 1, rfl, hil, rfl, fun j hj => ?_⟩
    · simp only [List.mem_cons, List.not_mem_nil, or_false]
      rintro a (rfl | rfl | rfl | rfl | rfl) <;> first | exact hix i hil | exact hld i hil | exact up_ok (by omega)
    · by_cases hji : j = i
      · subst hji; exact ⟨by omega, by omega, fun h0 => absurd h0 (by omega)⟩
      · exact hall j (by omega)
  · have hil := nlt_ofNat (hc _ (List.mem_cons_self ..))
    refine ⟨by simp, fun s' hs' => ?_⟩
    have hil : i = l := by omega
    subst hil
    simp only [outOf, if_true, andThen]
    refine T_norm hs' (T_ret (cS S7_ok) mo [] 1000 Try.f58 _ _ (by kernel_rfl) (by kernel_rfl) (by kernel_rfl) (d38 ks i c i) ?_)
    rw [curveB_true hp hall]
    simp
theorem ok38n (c z : Nat) : funOk Try.prog S7 cf0 [] 1000 (bodyOf Try.f58) [nilS c z] .nil 0 = true := by kernel_rfl
theorem sm38n (c z : Nat) : samesL (funM Try.prog S7 cf0 [] 1000 (bodyOf Try.f58) [nilS c z] .nil 0) = samesR (funM Try.prog S7 cf0 [] 1000 (bodyOf Try.f58) [nilS c z] .nil 0) := by kernel_rfl
theorem hr38n (c z : Nat) : tells (retOf Try.prog (cfS S7) 1000 Try.f58) (funM Try.prog S7 cf0 [] 1000 (bodyOf Try.f58) [nilS c z] .nil 0) = [([], [], some (.bool false))] := by kernel_rfl
theorem p38 : PureA Try.prog 58 spec42 := by
  refine ⟨Nat.le_of_ble_eq_true (by kernel_rfl), fun args h A v e => ?_⟩
  unfold spec42 at e
  split at e
  · rename_i sv
    split at e
    · rename_i l ks hr
      simp only [Option.some.injEq, Prod.mk.injEq] at e; obtain ⟨rfl, rfl⟩ := e
      refine ⟨by kernel_rfl, fun hA E_ n_ w_ args_ ra_ g_ hd_ hc_ => ?_⟩
      rcases rowOf_cases hr with ⟨c, z, rfl, rfl, rfl⟩ | ⟨m, c, rfl, hm⟩
      · exact calls_tells mo po S7_ok cf0_ok Try.func58 (by kernel_rfl) (by kernel_rfl) ra_ (by kernel_rfl) _ (ok38n c z) (sm38n c z) (hr38n c z) (by simp [curveB, pointsB])
      · have h1 : l ≤ ks.length := hA _ (by simp)
        have h2 : l ≤ 1000 := hA (l ≤ 1000) (by simp)
        obtain ⟨y, ys, r0, rs, rfl⟩ := ra_
        exact oneCall S7_ok Try.func58 (by kernel_rfl) g_ hm (args := [sl l c]) ⟨y, ys, two_slc0 r0, rs, rfl⟩ (by kernel_rfl) fun w0 => t38 ks l c w0 h1 h2
    · cases e
  · cases e
abbrev S8 : Ctr := addS 58 spec42 (addS 62 spec42 S7)
theorem S8_ok : CtrOk Try.prog S8 := addS_ok p38 (addS_ok p42 S7_ok)
end Go.Proofs.Ytadejpmecljjpaa
