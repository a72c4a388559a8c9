/- Filter laws, part K2: the ends of curves, by their lengths. No conditions. -/
import Derived.Test.YtpkpcnohnlhjlaaEngFilK
namespace Go.Proofs.Ytpkpcnohnlhjlaa
open Go Go.Eng
theorem en26_24 (ss : List Int) (c : Nat) : En26 ss c 24 := fun pos x sm => by cases pos <;> exact ⟨by kernel_rfl, by kernel_rfl, by kernel_rfl⟩
theorem en26_25 (ss : List Int) (c : Nat) : En26 ss c 25 := fun pos x sm => by cases pos <;> exact ⟨by kernel_rfl, by kernel_rfl, by kernel_rfl⟩
theorem en26_26 (ss : List Int) (c : Nat) : En26 ss c 26 := fun pos x sm => by cases pos <;> exact ⟨by kernel_rfl, by kernel_rfl, by kernel_rfl⟩
theorem en26_27 (ss : List Int) (c : Nat) : En26 ss c 27 := fun pos x sm => by cases pos <;> exact ⟨by kernel_rfl, by kernel_rfl, by kernel_rfl⟩
theorem en26_28 (ss : List Int) (c : Nat) : En26 ss c 28 := fun pos x sm => by cases pos <;> exact ⟨by kernel_rfl, by kernel_rfl, by kernel_rfl⟩
theorem en26_29 (ss : List Int) (c : Nat) : En26 ss c 29 := fun pos x sm => by cases pos <;> exact ⟨by kernel_rfl, by kernel_rfl, by kernel_rfl⟩
theorem en26_30 (ss : List Int) (c : Nat) : En26 ss c 30 := fun pos x sm => by cases pos <;> exact ⟨by kernel_rfl, by kernel_rfl, by kernel_rfl⟩
theorem en26_31 (ss : List Int) (c : Nat) : En26 ss c 31 := fun pos x sm => by cases pos <;> exact ⟨by kernel_rfl, by kernel_rfl, by kernel_rfl⟩
theorem en26_32 (ss : List Int) (c : Nat) : En26 ss c 32 := fun pos x sm => by cases pos <;> exact ⟨by kernel_rfl, by kernel_rfl, by kernel_rfl⟩
theorem en26_33 (ss : List Int) (c : Nat) : En26 ss c 33 := fun pos x sm => by cases pos <;> exact ⟨by kernel_rfl, by kernel_rfl, by kernel_rfl⟩
theorem en26_34 (ss : List Int) (c : Nat) : En26 ss c 34 := fun pos x sm => by cases pos <;> exact ⟨by kernel_rfl, by kernel_rfl, by kernel_rfl⟩
theorem en26_35 (ss : List Int) (c : Nat) : En26 ss c 35 := fun pos x sm => by cases pos <;> exact ⟨by kernel_rfl, by kernel_rfl, by kernel_rfl⟩
theorem en26_36 (ss : List Int) (c : Nat) : En26 ss c 36 := fun pos x sm => by cases pos <;> exact ⟨by kernel_rfl, by kernel_rfl, by kernel_rfl⟩
theorem en26_37 (ss : List Int) (c : Nat) : En26 ss c 37 := fun pos x sm => by cases pos <;> exact ⟨by kernel_rfl, by kernel_rfl, by kernel_rfl⟩
end Go.Proofs.Ytpkpcnohnlhjlaa
