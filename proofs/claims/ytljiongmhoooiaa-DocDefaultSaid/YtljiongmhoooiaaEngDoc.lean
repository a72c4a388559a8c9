/- What the engine runs at the program's own closed calls: the calls that are remembered. No conditions. -/
import Derived.Test.YtljiongmhoooiaaProg
import Derived.Test.YtljiongmhoooiaaEngY
namespace Go.Proofs.Ytljiongmhoooiaa
open Go Go.Eng

theorem po : progOk Try.prog = true := by kernel_rfl
theorem mo : Try.prog.follows .mixedOrders = true := by kernel_rfl

def retIs (cf : CallF) (x : FuncId × List V × V) : Bool :=
  match cf x.1 x.2.1 .nil 0 with
  | some (.ret u, _, _) => V.beq u x.2.2
  | _ => false

def specGood (cf : CallF) (x : FuncId × List V × V) : Bool := V.frees x.2.1 && (x.2.2.free && retIs cf x)

theorem spec_of {cf : CallF} (hc : CallOk Try.prog cf) {l : List (FuncId × List V × V)} (h : l.all (specGood cf) = true) : ∀ x ∈ l, SpecOk Try.prog x := by
  intro x hx
  have := List.all_eq_true.1 h x hx
  simp only [specGood, Bool.and_eq_true, retIs] at this
  obtain ⟨h1, h2, h3⟩ := this
  split at h3
  · rename_i u h' n' e
    rw [beq_eq _ _ h3] at e
    exact ⟨h1, h2, cf, h', n', hc, e⟩
  · cases h3

def specs : List (FuncId × List V × V) := [
  (5, [], .bool true),
  (7, [.int .i64 0], .agg [.int .i64 0, .int .i64 0, .str [], .bool false, .int .i64 255, .int .i64 0, .bool false, .int .i64 0, .int .i64 0, .int .i64 0, .int .i64 0, .int .i64 0, .int .i64 0, .int .i64 0, .int .i64 0, .slc none 0 0 0, .int .i64 0, .int .i64 0, .int .i64 0, .slc none 0 0 0, .int .i64 0, .int .i64 0, .slc none 0 0 0, .int .u8 0, .int .u8 0, .int .u8 0, .int .u8 0, .slc none 0 0 0, .slc none 0 0 0, .bool false, .slc none 0 0 0]),
  (7, [.int .i64 1], .agg [.int .i64 0, .int .i64 1, .str [], .bool false, .int .i64 255, .int .i64 0, .bool false, .int .i64 1, .int .i64 0, .int .i64 0, .int .i64 0, .int .i64 1, .int .i64 0, .int .i64 1, .int .i64 0, .slc none 0 0 0, .int .i64 0, .int .i64 0, .int .i64 0, .slc none 0 0 0, .int .i64 0, .int .i64 0, .slc none 0 0 0, .int .u8 0, .int .u8 0, .int .u8 0, .int .u8 0, .slc none 0 0 0, .slc none 0 0 0, .bool false, .slc none 0 0 0]),
  (7, [.int .i64 2], .agg [.int .i64 0, .int .i64 2, .str [], .bool false, .int .i64 255, .int .i64 0, .bool false, .int .i64 0, .int .i64 0, .int .i64 0, .int .i64 0, .int .i64 0, .int .i64 0, .int .i64 0, .int .i64 0, .slc none 0 0 0, .int .i64 0, .int .i64 0, .int .i64 0, .slc none 0 0 0, .int .i64 0, .int .i64 0, .slc none 0 0 0, .int .u8 0, .int .u8 0, .int .u8 0, .int .u8 0, .slc none 0 0 0, .slc none 0 0 0, .bool false, .slc none 0 0 0]),
  (7, [.int .i64 3], .agg [.int .i64 0, .int .i64 3, .str [], .bool false, .int .i64 255, .int .i64 0, .bool false, .int .i64 0, .int .i64 0, .int .i64 0, .int .i64 0, .int .i64 0, .int .i64 0, .int .i64 0, .int .i64 0, .slc none 0 0 0, .int .i64 0, .int .i64 6, .int .i64 0, .slc none 0 0 0, .int .i64 0, .int .i64 0, .slc none 0 0 0, .int .u8 0, .int .u8 0, .int .u8 0, .int .u8 0, .slc none 0 0 0, .slc none 0 0 0, .bool false, .slc none 0 0 0]),
  (7, [.int .i64 4], .agg [.int .i64 0, .int .i64 4, .str [], .bool false, .int .i64 255, .int .i64 0, .bool false, .int .i64 1, .int .i64 0, .int .i64 0, .int .i64 0, .int .i64 1, .int .i64 0, .int .i64 1, .int .i64 0, .slc none 0 0 0, .int .i64 0, .int .i64 0, .int .i64 0, .slc none 0 0 0, .int .i64 0, .int .i64 0, .slc none 0 0 0, .int .u8 0, .int .u8 0, .int .u8 0, .int .u8 0, .slc none 0 0 0, .slc none 0 0 0, .bool false, .slc none 0 0 0]),
  (7, [.int .i64 5], .agg [.int .i64 0, .int .i64 5, .str [], .bool false, .int .i64 255, .int .i64 0, .bool false, .int .i64 0, .int .i64 0, .int .i64 0, .int .i64 0, .int .i64 0, .int .i64 0, .int .i64 0, .int .i64 0, .slc none 0 0 0, .int .i64 0, .int .i64 0, .int .i64 0, .slc none 0 0 0, .int .i64 0, .int .i64 0, .slc none 0 0 0, .int .u8 0, .int .u8 0, .int .u8 0, .int .u8 0, .slc none 0 0 0, .slc none 0 0 0, .bool false, .slc none 0 0 0]),
  (7, [.int .i64 6], .agg [.int .i64 0, .int .i64 6, .str [], .bool false, .int .i64 255, .int .i64 0, .bool false, .int .i64 0, .int .i64 0, .int .i64 0, .int .i64 0, .int .i64 0, .int .i64 0, .int .i64 0, .int .i64 0, .slc none 0 0 0, .int .i64 0, .int .i64 0, .int .i64 0, .slc none 0 0 0, .int .i64 0, .int .i64 0, .slc none 0 0 0, .int .u8 0, .int .u8 0, .int .u8 0, .int .u8 0, .slc none 0 0 0, .slc none 0 0 0, .bool false, .slc none 0 0 0]),
  (13, [.int .i64 0], .agg [.int .i64 0, .int .i64 0, .str [], .bool false, .int .i64 255, .int .i64 0, .bool false, .int .i64 0, .int .i64 0, .int .i64 0, .int .i64 0, .int .i64 0, .int .i64 0, .int .i64 0, .int .i64 0, .slc none 0 0 0, .int .i64 0, .int .i64 0, .int .i64 0, .slc none 0 0 0, .int .i64 0, .int .i64 0, .slc none 0 0 0, .int .u8 0, .int .u8 0, .int .u8 0, .int .u8 0, .slc none 0 0 0, .slc none 0 0 0, .bool false, .slc none 0 0 0]),
  (13, [.int .i64 1], .agg [.int .i64 0, .int .i64 1, .str [], .bool false, .int .i64 255, .int .i64 0, .bool false, .int .i64 1, .int .i64 0, .int .i64 0, .int .i64 0, .int .i64 1, .int .i64 0, .int .i64 1, .int .i64 0, .slc none 0 0 0, .int .i64 0, .int .i64 0, .int .i64 0, .slc none 0 0 0, .int .i64 0, .int .i64 0, .slc none 0 0 0, .int .u8 0, .int .u8 0, .int .u8 0, .int .u8 0, .slc none 0 0 0, .slc none 0 0 0, .bool false, .slc none 0 0 0]),
  (13, [.int .i64 2], .agg [.int .i64 0, .int .i64 2, .str [], .bool false, .int .i64 255, .int .i64 0, .bool false, .int .i64 0, .int .i64 0, .int .i64 0, .int .i64 0, .int .i64 0, .int .i64 0, .int .i64 0, .int .i64 0, .slc none 0 0 0, .int .i64 0, .int .i64 0, .int .i64 0, .slc none 0 0 0, .int .i64 0, .int .i64 0, .slc none 0 0 0, .int .u8 0, .int .u8 0, .int .u8 0, .int .u8 0, .slc none 0 0 0, .slc none 0 0 0, .bool false, .slc none 0 0 0]),
  (13, [.int .i64 3], .agg [.int .i64 0, .int .i64 3, .str [], .bool false, .int .i64 255, .int .i64 0, .bool false, .int .i64 0, .int .i64 0, .int .i64 0, .int .i64 0, .int .i64 0, .int .i64 0, .int .i64 0, .int .i64 0, .slc none 0 0 0, .int .i64 0, .int .i64 6, .int .i64 0, .slc none 0 0 0, .int .i64 0, .int .i64 0, .slc none 0 0 0, .int .u8 0, .int .u8 0, .int .u8 0, .int .u8 0, .slc none 0 0 0, .slc none 0 0 0, .bool false, .slc none 0 0 0]),
  (13, [.int .i64 4], .agg [.int .i64 0, .int .i64 4, .str [], .bool false, .int .i64 255, .int .i64 0, .bool false, .int .i64 1, .int .i64 0, .int .i64 0, .int .i64 0, .int .i64 1, .int .i64 0, .int .i64 1, .int .i64 0, .slc none 0 0 0, .int .i64 0, .int .i64 0, .int .i64 0, .slc none 0 0 0, .int .i64 0, .int .i64 0, .slc none 0 0 0, .int .u8 0, .int .u8 0, .int .u8 0, .int .u8 0, .slc none 0 0 0, .slc none 0 0 0, .bool false, .slc none 0 0 0]),
  (13, [.int .i64 5], .agg [.int .i64 0, .int .i64 5, .str [], .bool false, .int .i64 255, .int .i64 0, .bool false, .int .i64 0, .int .i64 0, .int .i64 0, .int .i64 0, .int .i64 0, .int .i64 0, .int .i64 0, .int .i64 0, .slc none 0 0 0, .int .i64 0, .int .i64 0, .int .i64 0, .slc none 0 0 0, .int .i64 0, .int .i64 0, .slc none 0 0 0, .int .u8 0, .int .u8 0, .int .u8 0, .int .u8 0, .slc none 0 0 0, .slc none 0 0 0, .bool false, .slc none 0 0 0]),
  (13, [.int .i64 6], .agg [.int .i64 0, .int .i64 6, .str [], .bool false, .int .i64 255, .int .i64 0, .bool false, .int .i64 0, .int .i64 0, .int .i64 0, .int .i64 0, .int .i64 0, .int .i64 0, .int .i64 0, .int .i64 0, .slc none 0 0 0, .int .i64 0, .int .i64 0, .int .i64 0, .slc none 0 0 0, .int .i64 0, .int .i64 0, .slc none 0 0 0, .int .u8 0, .int .u8 0, .int .u8 0, .int .u8 0, .slc none 0 0 0, .slc none 0 0 0, .bool false, .slc none 0 0 0]),
  (30, [.slc none 0 0 0, .fn (.func 28) [] []], .bool false),
  (45, [.str []], .bool true),
  (46, [.agg [.slc none 0 0 0]], .bool true),
  (47, [.agg [.int .i64 0, .int .i64 0, .slc none 0 0 0, .int .i64 0, .int .i64 0, .slc none 0 0 0]], .str [0, 0, 0, 0, 0, 0]),
  (47, [.agg [.int .i64 6, .int .i64 0, .slc none 0 0 0, .int .i64 0, .int .i64 0, .slc none 0 0 0]], .str [6, 0, 0, 0, 0, 0]),
  (48, [.agg [.int .i64 1, .int .i64 0, .int .i64 0, .int .i64 0, .int .i64 1, .int .i64 0, .int .i64 1]], .bool true),
  (78, [.int .i64 0], .str [0]),
  (78, [.int .i64 6], .str [6])]

theorem specs_good : specs.all (specGood (call Try.prog 1000 60)) = true := by kernel_rfl
theorem specs_ok : ∀ x ∈ specs, SpecOk Try.prog x := spec_of (call_sound' mo po 60) specs_good

noncomputable def cf : CallF := callM Try.prog specs 1000 60
theorem cf_ok : CallOk Try.prog cf := callM_ok mo po specs_ok 60
end Go.Proofs.Ytljiongmhoooiaa
