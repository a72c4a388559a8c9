/- Filter laws, part K5: the ends of curves, by their lengths. No conditions. -/
import Derived.Test.YtpkpcnohnlhjlaaEngFilK
namespace Go.Proofs.Ytpkpcnohnlhjlaa
open Go Go.Eng
theorem en26_55 (ss : List Int) (c : Nat) : En26 ss c 55 := fun pos x sm => by cases pos <;> exact ⟨by kernel_rfl, by kernel_rfl, by kernel_rfl⟩
theorem en26_56 (ss : List Int) (c : Nat) : En26 ss c 56 := fun pos x sm => by cases pos <;> exact ⟨by kernel_rfl, by kernel_rfl, by kernel_rfl⟩
theorem en26_57 (ss : List Int) (c : Nat) : En26 ss c 57 := fun pos x sm => by cases pos <;> exact ⟨by kernel_rfl, by kernel_rfl, by kernel_rfl⟩
theorem en26_58 (ss : List Int) (c : Nat) : En26 ss c 58 := fun pos x sm => by cases pos <;> exact ⟨by kernel_rfl, by kernel_rfl, by kernel_rfl⟩
theorem en26_59 (ss : List Int) (c : Nat) : En26 ss c 59 := fun pos x sm => by cases pos <;> exact ⟨by kernel_rfl, by kernel_rfl, by kernel_rfl⟩
end Go.Proofs.Ytpkpcnohnlhjlaa
