/- What the engine runs at the filter laws' own closed calls. No conditions. -/
import Derived.Test.YtpkpcnohnlhjlaaProg
import Derived.Test.YtpkpcnohnlhjlaaEngFour
namespace Go.Proofs.Ytpkpcnohnlhjlaa
open Go Go.Eng

theorem po : progOk Try.prog = true := by kernel_rfl
theorem mo : Try.prog.follows .mixedOrders = true := by kernel_rfl

def retIs (cf : CallF) (x : FuncId × List V × V) : Bool :=
  match cf x.1 x.2.1 .nil 0 with
  | some (.ret u, _, _) => V.beq u x.2.2
  | _ => false

def specGood (cf : CallF) (x : FuncId × List V × V) : Bool := V.frees x.2.1 && (x.2.2.free && retIs cf x)

theorem spec_of {cf : CallF} (hc : CallOk Try.prog cf) {l : List (FuncId × List V × V)} (hl : l.all (fun x => Nat.blt x.1 Try.prog.funcs.size) = true) (h : l.all (specGood cf) = true) : ∀ x ∈ l, SpecOk Try.prog x := by
  intro x hx
  have := List.all_eq_true.1 h x hx
  have hlt := List.all_eq_true.1 hl x hx
  simp only [specGood, Bool.and_eq_true, Go.Proofs.Ytpkpcnohnlhjlaa.retIs] at this
  obtain ⟨h1, h2, h3⟩ := this
  split at h3
  · rename_i u h' n' e
    rw [beq_eq _ _ h3] at e
    exact ⟨Nat.le_of_ble_eq_true hlt, h1, h2, cf, h', n', hc, e⟩
  · cases h3

def specs : List (FuncId × List V × V) := [(6, [], .bool true)]
theorem specs_small : specs.all (fun x => Nat.blt x.1 Try.prog.funcs.size) = true := by kernel_rfl
theorem specs_good : specs.all (specGood (call Try.prog 1000 60)) = true := by kernel_rfl
theorem specs_ok : ∀ x ∈ specs, SpecOk Try.prog x := spec_of (call_sound' mo po 60) specs_small specs_good
end Go.Proofs.Ytpkpcnohnlhjlaa
