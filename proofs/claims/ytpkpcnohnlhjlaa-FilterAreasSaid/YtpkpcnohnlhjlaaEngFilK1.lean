/- Filter laws, part K1: the ends of curves, by their lengths. No conditions. -/
import Derived.Test.YtpkpcnohnlhjlaaEngFilK
namespace Go.Proofs.Ytpkpcnohnlhjlaa
open Go Go.Eng
theorem en26_4 (ss : List Int) (c : Nat) : En26 ss c 4 := fun pos x sm => by cases pos <;> exact ⟨by kernel_rfl, by kernel_rfl, by kernel_rfl⟩
theorem en26_5 (ss : List Int) (c : Nat) : En26 ss c 5 := fun pos x sm => by cases pos <;> exact ⟨by kernel_rfl, by kernel_rfl, by kernel_rfl⟩
theorem en26_6 (ss : List Int) (c : Nat) : En26 ss c 6 := fun pos x sm => by cases pos <;> exact ⟨by kernel_rfl, by kernel_rfl, by kernel_rfl⟩
theorem en26_7 (ss : List Int) (c : Nat) : En26 ss c 7 := fun pos x sm => by cases pos <;> exact ⟨by kernel_rfl, by kernel_rfl, by kernel_rfl⟩
theorem en26_8 (ss : List Int) (c : Nat) : En26 ss c 8 := fun pos x sm => by cases pos <;> exact ⟨by kernel_rfl, by kernel_rfl, by kernel_rfl⟩
theorem en26_9 (ss : List Int) (c : Nat) : En26 ss c 9 := fun pos x sm => by cases pos <;> exact ⟨by kernel_rfl, by kernel_rfl, by kernel_rfl⟩
theorem en26_10 (ss : List Int) (c : Nat) : En26 ss c 10 := fun pos x sm => by cases pos <;> exact ⟨by kernel_rfl, by kernel_rfl, by kernel_rfl⟩
theorem en26_11 (ss : List Int) (c : Nat) : En26 ss c 11 := fun pos x sm => by cases pos <;> exact ⟨by kernel_rfl, by kernel_rfl, by kernel_rfl⟩
theorem en26_12 (ss : List Int) (c : Nat) : En26 ss c 12 := fun pos x sm => by cases pos <;> exact ⟨by kernel_rfl, by kernel_rfl, by kernel_rfl⟩
theorem en26_13 (ss : List Int) (c : Nat) : En26 ss c 13 := fun pos x sm => by cases pos <;> exact ⟨by kernel_rfl, by kernel_rfl, by kernel_rfl⟩
theorem en26_14 (ss : List Int) (c : Nat) : En26 ss c 14 := fun pos x sm => by cases pos <;> exact ⟨by kernel_rfl, by kernel_rfl, by kernel_rfl⟩
theorem en26_15 (ss : List Int) (c : Nat) : En26 ss c 15 := fun pos x sm => by cases pos <;> exact ⟨by kernel_rfl, by kernel_rfl, by kernel_rfl⟩
theorem en26_16 (ss : List Int) (c : Nat) : En26 ss c 16 := fun pos x sm => by cases pos <;> exact ⟨by kernel_rfl, by kernel_rfl, by kernel_rfl⟩
theorem en26_17 (ss : List Int) (c : Nat) : En26 ss c 17 := fun pos x sm => by cases pos <;> exact ⟨by kernel_rfl, by kernel_rfl, by kernel_rfl⟩
theorem en26_18 (ss : List Int) (c : Nat) : En26 ss c 18 := fun pos x sm => by cases pos <;> exact ⟨by kernel_rfl, by kernel_rfl, by kernel_rfl⟩
theorem en26_19 (ss : List Int) (c : Nat) : En26 ss c 19 := fun pos x sm => by cases pos <;> exact ⟨by kernel_rfl, by kernel_rfl, by kernel_rfl⟩
theorem en26_20 (ss : List Int) (c : Nat) : En26 ss c 20 := fun pos x sm => by cases pos <;> exact ⟨by kernel_rfl, by kernel_rfl, by kernel_rfl⟩
theorem en26_21 (ss : List Int) (c : Nat) : En26 ss c 21 := fun pos x sm => by cases pos <;> exact ⟨by kernel_rfl, by kernel_rfl, by kernel_rfl⟩
theorem en26_22 (ss : List Int) (c : Nat) : En26 ss c 22 := fun pos x sm => by cases pos <;> exact ⟨by kernel_rfl, by kernel_rfl, by kernel_rfl⟩
theorem en26_23 (ss : List Int) (c : Nat) : En26 ss c 23 := fun pos x sm => by cases pos <;> exact ⟨by kernel_rfl, by kernel_rfl, by kernel_rfl⟩
end Go.Proofs.Ytpkpcnohnlhjlaa
