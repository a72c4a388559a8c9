/- Filter laws, part K3: the ends of curves, by their lengths. No conditions. -/
import Derived.Test.YtpkpcnohnlhjlaaEngFilK
namespace Go.Proofs.Ytpkpcnohnlhjlaa
open Go Go.Eng
theorem en26_38 (ss : List Int) (c : Nat) : En26 ss c 38 := fun pos x sm => by cases pos <;> exact ⟨by kernel_rfl, by kernel_rfl, by kernel_rfl⟩
theorem en26_39 (ss : List Int) (c : Nat) : En26 ss c 39 := fun pos x sm => by cases pos <;> exact ⟨by kernel_rfl, by kernel_rfl, by kernel_rfl⟩
theorem en26_40 (ss : List Int) (c : Nat) : En26 ss c 40 := fun pos x sm => by cases pos <;> exact ⟨by kernel_rfl, by kernel_rfl, by kernel_rfl⟩
theorem en26_41 (ss : List Int) (c : Nat) : En26 ss c 41 := fun pos x sm => by cases pos <;> exact ⟨by kernel_rfl, by kernel_rfl, by kernel_rfl⟩
theorem en26_42 (ss : List Int) (c : Nat) : En26 ss c 42 := fun pos x sm => by cases pos <;> exact ⟨by kernel_rfl, by kernel_rfl, by kernel_rfl⟩
theorem en26_43 (ss : List Int) (c : Nat) : En26 ss c 43 := fun pos x sm => by cases pos <;> exact ⟨by kernel_rfl, by kernel_rfl, by kernel_rfl⟩
theorem en26_44 (ss : List Int) (c : Nat) : En26 ss c 44 := fun pos x sm => by cases pos <;> exact ⟨by kernel_rfl, by kernel_rfl, by kernel_rfl⟩
theorem en26_45 (ss : List Int) (c : Nat) : En26 ss c 45 := fun pos x sm => by cases pos <;> exact ⟨by kernel_rfl, by kernel_rfl, by kernel_rfl⟩
theorem en26_46 (ss : List Int) (c : Nat) : En26 ss c 46 := fun pos x sm => by cases pos <;> exact ⟨by kernel_rfl, by kernel_rfl, by kernel_rfl⟩
theorem en26_47 (ss : List Int) (c : Nat) : En26 ss c 47 := fun pos x sm => by cases pos <;> exact ⟨by kernel_rfl, by kernel_rfl, by kernel_rfl⟩
theorem en26_48 (ss : List Int) (c : Nat) : En26 ss c 48 := fun pos x sm => by cases pos <;> exact ⟨by kernel_rfl, by kernel_rfl, by kernel_rfl⟩
end Go.Proofs.Ytpkpcnohnlhjlaa
