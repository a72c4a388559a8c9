/- Filter laws, part K4: the ends of curves, by their lengths. No conditions. -/
import Derived.Test.YtpkpcnohnlhjlaaEngFilK
namespace Go.Proofs.Ytpkpcnohnlhjlaa
open Go Go.Eng
theorem en26_49 (ss : List Int) (c : Nat) : En26 ss c 49 := fun pos x sm => by cases pos <;> exact ⟨by kernel_rfl, by kernel_rfl, by kernel_rfl⟩
theorem en26_50 (ss : List Int) (c : Nat) : En26 ss c 50 := fun pos x sm => by cases pos <;> exact ⟨by kernel_rfl, by kernel_rfl, by kernel_rfl⟩
theorem en26_51 (ss : List Int) (c : Nat) : En26 ss c 51 := fun pos x sm => by cases pos <;> exact ⟨by kernel_rfl, by kernel_rfl, by kernel_rfl⟩
theorem en26_52 (ss : List Int) (c : Nat) : En26 ss c 52 := fun pos x sm => by cases pos <;> exact ⟨by kernel_rfl, by kernel_rfl, by kernel_rfl⟩
theorem en26_53 (ss : List Int) (c : Nat) : En26 ss c 53 := fun pos x sm => by cases pos <;> exact ⟨by kernel_rfl, by kernel_rfl, by kernel_rfl⟩
theorem en26_54 (ss : List Int) (c : Nat) : En26 ss c 54 := fun pos x sm => by cases pos <;> exact ⟨by kernel_rfl, by kernel_rfl, by kernel_rfl⟩
end Go.Proofs.Ytpkpcnohnlhjlaa
