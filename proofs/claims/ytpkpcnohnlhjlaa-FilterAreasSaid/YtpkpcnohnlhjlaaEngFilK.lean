/- Filter laws, part K: the reference's curves are made. No conditions. -/
import Derived.Test.YtpkpcnohnlhjlaaEngFilC
import Derived.Test.YtpkpcnohnlhjlaaEngFour
namespace Go.Proofs.Ytpkpcnohnlhjlaa
open Go Go.Eng

def andI (a b : Int) : Int := match pureSem (binOp .and 3 (.int .i64 a) (.int .i64 b)) with
  | some (.int _ r) => r
  | _ => 0
noncomputable abbrev cd26 : Code := bodyOf Try.f26
noncomputable abbrev L26 : Code := seqL (seqR (seqR (seqR cd26)))
noncomputable abbrev B26 : Code := inner (inner (seqR L26))
noncomputable abbrev R26c : Code := seqR (seqR (seqR (seqR cd26)))
def cellsN (L : Nat) (x : Nat → Int) : List V := (List.range L).map fun j => V.int .i64 (x j)
def upd (x : Nat → Int) (i : Nat) (v : Int) : Nat → Int := fun j => match Nat.beq j i with | true => v | false => x j
def hc26 (ss : List Int) (L : Nat) (x : Nat → Int) : Tr O := (Tr.nil.set 0 (some (.ints .i64 ss))).set 1 (some (.cells (cellsN L x)))
def S26 (ss : List Int) (n c i : Nat) (x : Nat → Int) (sm : Int) : St := stL [(0, sl n c), (3, .slc (some (1, 0)) (i + 1) (i + 1) 1), (4, .int .i64 sm), (5, .int .i64 (Int.ofNat i))] (hc26 ss (i + 1) x) 2
def atI (ss : List Int) (i : Nat) : Int := ss.getD (0 + i * 1) 0
def ldI (ss : List Int) (i : Nat) : Prop := 0 + i * 1 < ss.length
def ixI (n i : Nat) : Prop := 0 ≤ Int.ofNat i ∧ Int.ofNat i < Int.ofNat n
noncomputable abbrev M26 (ss : List Int) (n c i : Nat) (x : Nat → Int) (sm : Int) := codeM Try.prog S6 cf0 [(12, .split)] 1000 B26 (S26 ss n c i x sm)
def sum26 (ss : List Int) (i : Nat) (sm : Int) : Int := IntKind.i64.wrap (sm + andI (atI ss i) 65535)
def Rd26 (ss : List Int) (n c : Nat) (i : Nat) : Prop := ∀ (x : Nat → Int) (sm : Int), (M26 ss n c i x sm).isSome = true ∧ samesL (orNil (M26 ss n c i x sm)) = samesR (orNil (M26 ss n c i x sm)) ∧
  tells (roundF Try.prog (cfS S6) 1000 Try.f26 [0, 3, 4, 5]) (orNil (M26 ss n c i x sm)) =
    [([(decide (Int.ofNat i < Int.ofNat n), true)], [ixI n i, ldI ss i], .next (S26 ss n c (i + 1) (upd x (i + 1) (sum26 ss i sm)) (sum26 ss i sm))),
     ([(decide (Int.ofNat i < Int.ofNat n), false)], [], .exit 0 (S26 ss n c i x sm))]
theorem rd26_0 (ss : List Int) (n c : Nat) : Rd26 ss n c 0 := fun x sm => ⟨by kernel_rfl, by kernel_rfl, by kernel_rfl⟩
theorem rd26_1 (ss : List Int) (n c : Nat) : Rd26 ss n c 1 := fun x sm => ⟨by kernel_rfl, by kernel_rfl, by kernel_rfl⟩
theorem rd26_2 (ss : List Int) (n c : Nat) : Rd26 ss n c 2 := fun x sm => ⟨by kernel_rfl, by kernel_rfl, by kernel_rfl⟩
theorem rd26_3 (ss : List Int) (n c : Nat) : Rd26 ss n c 3 := fun x sm => ⟨by kernel_rfl, by kernel_rfl, by kernel_rfl⟩
theorem rd26_4 (ss : List Int) (n c : Nat) : Rd26 ss n c 4 := fun x sm => ⟨by kernel_rfl, by kernel_rfl, by kernel_rfl⟩
theorem rd26_5 (ss : List Int) (n c : Nat) : Rd26 ss n c 5 := fun x sm => ⟨by kernel_rfl, by kernel_rfl, by kernel_rfl⟩
theorem rd26_6 (ss : List Int) (n c : Nat) : Rd26 ss n c 6 := fun x sm => ⟨by kernel_rfl, by kernel_rfl, by kernel_rfl⟩
theorem rd26_7 (ss : List Int) (n c : Nat) : Rd26 ss n c 7 := fun x sm => ⟨by kernel_rfl, by kernel_rfl, by kernel_rfl⟩
theorem rd26_8 (ss : List Int) (n c : Nat) : Rd26 ss n c 8 := fun x sm => ⟨by kernel_rfl, by kernel_rfl, by kernel_rfl⟩
theorem rd26_9 (ss : List Int) (n c : Nat) : Rd26 ss n c 9 := fun x sm => ⟨by kernel_rfl, by kernel_rfl, by kernel_rfl⟩
theorem rd26_10 (ss : List Int) (n c : Nat) : Rd26 ss n c 10 := fun x sm => ⟨by kernel_rfl, by kernel_rfl, by kernel_rfl⟩
theorem rd26_11 (ss : List Int) (n c : Nat) : Rd26 ss n c 11 := fun x sm => ⟨by kernel_rfl, by kernel_rfl, by kernel_rfl⟩
theorem rd26_12 (ss : List Int) (n c : Nat) : Rd26 ss n c 12 := fun x sm => ⟨by kernel_rfl, by kernel_rfl, by kernel_rfl⟩
theorem rd26_13 (ss : List Int) (n c : Nat) : Rd26 ss n c 13 := fun x sm => ⟨by kernel_rfl, by kernel_rfl, by kernel_rfl⟩
theorem rd26_14 (ss : List Int) (n c : Nat) : Rd26 ss n c 14 := fun x sm => ⟨by kernel_rfl, by kernel_rfl, by kernel_rfl⟩
theorem rd26_15 (ss : List Int) (n c : Nat) : Rd26 ss n c 15 := fun x sm => ⟨by kernel_rfl, by kernel_rfl, by kernel_rfl⟩
theorem rd26_16 (ss : List Int) (n c : Nat) : Rd26 ss n c 16 := fun x sm => ⟨by kernel_rfl, by kernel_rfl, by kernel_rfl⟩
theorem rd26_17 (ss : List Int) (n c : Nat) : Rd26 ss n c 17 := fun x sm => ⟨by kernel_rfl, by kernel_rfl, by kernel_rfl⟩
theorem rd26_18 (ss : List Int) (n c : Nat) : Rd26 ss n c 18 := fun x sm => ⟨by kernel_rfl, by kernel_rfl, by kernel_rfl⟩
theorem rd26_19 (ss : List Int) (n c : Nat) : Rd26 ss n c 19 := fun x sm => ⟨by kernel_rfl, by kernel_rfl, by kernel_rfl⟩
theorem rd26_20 (ss : List Int) (n c : Nat) : Rd26 ss n c 20 := fun x sm => ⟨by kernel_rfl, by kernel_rfl, by kernel_rfl⟩
theorem rd26_21 (ss : List Int) (n c : Nat) : Rd26 ss n c 21 := fun x sm => ⟨by kernel_rfl, by kernel_rfl, by kernel_rfl⟩
theorem rd26_22 (ss : List Int) (n c : Nat) : Rd26 ss n c 22 := fun x sm => ⟨by kernel_rfl, by kernel_rfl, by kernel_rfl⟩
theorem rd26_23 (ss : List Int) (n c : Nat) : Rd26 ss n c 23 := fun x sm => ⟨by kernel_rfl, by kernel_rfl, by kernel_rfl⟩
theorem rd26_24 (ss : List Int) (n c : Nat) : Rd26 ss n c 24 := fun x sm => ⟨by kernel_rfl, by kernel_rfl, by kernel_rfl⟩
theorem rd26_25 (ss : List Int) (n c : Nat) : Rd26 ss n c 25 := fun x sm => ⟨by kernel_rfl, by kernel_rfl, by kernel_rfl⟩
theorem rd26_26 (ss : List Int) (n c : Nat) : Rd26 ss n c 26 := fun x sm => ⟨by kernel_rfl, by kernel_rfl, by kernel_rfl⟩
theorem rd26_27 (ss : List Int) (n c : Nat) : Rd26 ss n c 27 := fun x sm => ⟨by kernel_rfl, by kernel_rfl, by kernel_rfl⟩
theorem rd26_28 (ss : List Int) (n c : Nat) : Rd26 ss n c 28 := fun x sm => ⟨by kernel_rfl, by kernel_rfl, by kernel_rfl⟩
theorem rd26_29 (ss : List Int) (n c : Nat) : Rd26 ss n c 29 := fun x sm => ⟨by kernel_rfl, by kernel_rfl, by kernel_rfl⟩
theorem rd26_30 (ss : List Int) (n c : Nat) : Rd26 ss n c 30 := fun x sm => ⟨by kernel_rfl, by kernel_rfl, by kernel_rfl⟩
theorem rd26_31 (ss : List Int) (n c : Nat) : Rd26 ss n c 31 := fun x sm => ⟨by kernel_rfl, by kernel_rfl, by kernel_rfl⟩
theorem rd26_32 (ss : List Int) (n c : Nat) : Rd26 ss n c 32 := fun x sm => ⟨by kernel_rfl, by kernel_rfl, by kernel_rfl⟩
theorem rd26_33 (ss : List Int) (n c : Nat) : Rd26 ss n c 33 := fun x sm => ⟨by kernel_rfl, by kernel_rfl, by kernel_rfl⟩
theorem rd26_34 (ss : List Int) (n c : Nat) : Rd26 ss n c 34 := fun x sm => ⟨by kernel_rfl, by kernel_rfl, by kernel_rfl⟩
theorem rd26_35 (ss : List Int) (n c : Nat) : Rd26 ss n c 35 := fun x sm => ⟨by kernel_rfl, by kernel_rfl, by kernel_rfl⟩
theorem rd26_36 (ss : List Int) (n c : Nat) : Rd26 ss n c 36 := fun x sm => ⟨by kernel_rfl, by kernel_rfl, by kernel_rfl⟩
theorem rd26_37 (ss : List Int) (n c : Nat) : Rd26 ss n c 37 := fun x sm => ⟨by kernel_rfl, by kernel_rfl, by kernel_rfl⟩
theorem rd26_38 (ss : List Int) (n c : Nat) : Rd26 ss n c 38 := fun x sm => ⟨by kernel_rfl, by kernel_rfl, by kernel_rfl⟩
theorem rd26_39 (ss : List Int) (n c : Nat) : Rd26 ss n c 39 := fun x sm => ⟨by kernel_rfl, by kernel_rfl, by kernel_rfl⟩
theorem rd26_40 (ss : List Int) (n c : Nat) : Rd26 ss n c 40 := fun x sm => ⟨by kernel_rfl, by kernel_rfl, by kernel_rfl⟩
theorem rd26_41 (ss : List Int) (n c : Nat) : Rd26 ss n c 41 := fun x sm => ⟨by kernel_rfl, by kernel_rfl, by kernel_rfl⟩
theorem rd26_42 (ss : List Int) (n c : Nat) : Rd26 ss n c 42 := fun x sm => ⟨by kernel_rfl, by kernel_rfl, by kernel_rfl⟩
theorem rd26_43 (ss : List Int) (n c : Nat) : Rd26 ss n c 43 := fun x sm => ⟨by kernel_rfl, by kernel_rfl, by kernel_rfl⟩
theorem rd26_44 (ss : List Int) (n c : Nat) : Rd26 ss n c 44 := fun x sm => ⟨by kernel_rfl, by kernel_rfl, by kernel_rfl⟩
theorem rd26_45 (ss : List Int) (n c : Nat) : Rd26 ss n c 45 := fun x sm => ⟨by kernel_rfl, by kernel_rfl, by kernel_rfl⟩
theorem rd26_46 (ss : List Int) (n c : Nat) : Rd26 ss n c 46 := fun x sm => ⟨by kernel_rfl, by kernel_rfl, by kernel_rfl⟩
theorem rd26_47 (ss : List Int) (n c : Nat) : Rd26 ss n c 47 := fun x sm => ⟨by kernel_rfl, by kernel_rfl, by kernel_rfl⟩
theorem rd26_48 (ss : List Int) (n c : Nat) : Rd26 ss n c 48 := fun x sm => ⟨by kernel_rfl, by kernel_rfl, by kernel_rfl⟩
theorem rd26_49 (ss : List Int) (n c : Nat) : Rd26 ss n c 49 := fun x sm => ⟨by kernel_rfl, by kernel_rfl, by kernel_rfl⟩
theorem rd26_50 (ss : List Int) (n c : Nat) : Rd26 ss n c 50 := fun x sm => ⟨by kernel_rfl, by kernel_rfl, by kernel_rfl⟩
theorem rd26_51 (ss : List Int) (n c : Nat) : Rd26 ss n c 51 := fun x sm => ⟨by kernel_rfl, by kernel_rfl, by kernel_rfl⟩
theorem rd26_52 (ss : List Int) (n c : Nat) : Rd26 ss n c 52 := fun x sm => ⟨by kernel_rfl, by kernel_rfl, by kernel_rfl⟩
theorem rd26_53 (ss : List Int) (n c : Nat) : Rd26 ss n c 53 := fun x sm => ⟨by kernel_rfl, by kernel_rfl, by kernel_rfl⟩
theorem rd26_54 (ss : List Int) (n c : Nat) : Rd26 ss n c 54 := fun x sm => ⟨by kernel_rfl, by kernel_rfl, by kernel_rfl⟩
theorem rd26_55 (ss : List Int) (n c : Nat) : Rd26 ss n c 55 := fun x sm => ⟨by kernel_rfl, by kernel_rfl, by kernel_rfl⟩
theorem rd26_56 (ss : List Int) (n c : Nat) : Rd26 ss n c 56 := fun x sm => ⟨by kernel_rfl, by kernel_rfl, by kernel_rfl⟩
theorem rd26_57 (ss : List Int) (n c : Nat) : Rd26 ss n c 57 := fun x sm => ⟨by kernel_rfl, by kernel_rfl, by kernel_rfl⟩
theorem rd26_58 (ss : List Int) (n c : Nat) : Rd26 ss n c 58 := fun x sm => ⟨by kernel_rfl, by kernel_rfl, by kernel_rfl⟩
theorem rd26_59 (ss : List Int) (n c : Nat) : Rd26 ss n c 59 := fun x sm => ⟨by kernel_rfl, by kernel_rfl, by kernel_rfl⟩
theorem rd26 (ss : List Int) (n c : Nat) : ∀ i, i < 60 → Rd26 ss n c i
  | 0, _ => rd26_0 ss n c
  | 1, _ => rd26_1 ss n c
  | 2, _ => rd26_2 ss n c
  | 3, _ => rd26_3 ss n c
  | 4, _ => rd26_4 ss n c
  | 5, _ => rd26_5 ss n c
  | 6, _ => rd26_6 ss n c
  | 7, _ => rd26_7 ss n c
  | 8, _ => rd26_8 ss n c
  | 9, _ => rd26_9 ss n c
  | 10, _ => rd26_10 ss n c
  | 11, _ => rd26_11 ss n c
  | 12, _ => rd26_12 ss n c
  | 13, _ => rd26_13 ss n c
  | 14, _ => rd26_14 ss n c
  | 15, _ => rd26_15 ss n c
  | 16, _ => rd26_16 ss n c
  | 17, _ => rd26_17 ss n c
  | 18, _ => rd26_18 ss n c
  | 19, _ => rd26_19 ss n c
  | 20, _ => rd26_20 ss n c
  | 21, _ => rd26_21 ss n c
  | 22, _ => rd26_22 ss n c
  | 23, _ => rd26_23 ss n c
  | 24, _ => rd26_24 ss n c
  | 25, _ => rd26_25 ss n c
  | 26, _ => rd26_26 ss n c
  | 27, _ => rd26_27 ss n c
  | 28, _ => rd26_28 ss n c
  | 29, _ => rd26_29 ss n c
  | 30, _ => rd26_30 ss n c
  | 31, _ => rd26_31 ss n c
  | 32, _ => rd26_32 ss n c
  | 33, _ => rd26_33 ss n c
  | 34, _ => rd26_34 ss n c
  | 35, _ => rd26_35 ss n c
  | 36, _ => rd26_36 ss n c
  | 37, _ => rd26_37 ss n c
  | 38, _ => rd26_38 ss n c
  | 39, _ => rd26_39 ss n c
  | 40, _ => rd26_40 ss n c
  | 41, _ => rd26_41 ss n c
  | 42, _ => rd26_42 ss n c
  | 43, _ => rd26_43 ss n c
  | 44, _ => rd26_44 ss n c
  | 45, _ => rd26_45 ss n c
  | 46, _ => rd26_46 ss n c
  | 47, _ => rd26_47 ss n c
  | 48, _ => rd26_48 ss n c
  | 49, _ => rd26_49 ss n c
  | 50, _ => rd26_50 ss n c
  | 51, _ => rd26_51 ss n c
  | 52, _ => rd26_52 ss n c
  | 53, _ => rd26_53 ss n c
  | 54, _ => rd26_54 ss n c
  | 55, _ => rd26_55 ss n c
  | 56, _ => rd26_56 ss n c
  | 57, _ => rd26_57 ss n c
  | 58, _ => rd26_58 ss n c
  | 59, _ => rd26_59 ss n c
  | _ + 60, h => absurd h (by omega)

/-- what stands at the end: a row of integers of its own -/
def shpR (P : Program) (cf : CallF) (F : Nat) (fn : Func) (p : X × St) : Bool := match p.1 with
  | .ret => match leave P cf F fn p.2.fr p.2.dfs .ret p.2.h p.2.n with
    | some (.ret (.slc (some (q, 0)) l _ 1), h', _) => match h'.get q with
      | some (.cells cs) => allI cs && (Nat.beq cs.length l && Nat.ble l 300)
      | _ => false
    | _ => false
  | _ => false

theorem shpR_some {P : Program} {cf : CallF} {F : Nat} {fn : Func} {x : X} {s : St} (h : shpR P cf F fn (x, s) = true) : x = .ret ∧ ∃ (q l c : Nat) (h' : Tr O) (n' : Nat) (ks : List Int), leave P cf F fn s.fr s.dfs .ret s.h s.n = some (.ret (.slc (some (q, 0)) l c 1), h', n') ∧ h'.get q = some (.cells (ks.map (.int .i64))) ∧ ks.length = l ∧ l ≤ 300 := by
  unfold shpR at h
  split at h
  · rename_i hx
    have hx : x = .ret := hx
    subst hx
    split at h
    · rename_i q l c h' n' e
      split at h
      · rename_i cs hq
        simp only [Bool.and_eq_true] at h
        obtain ⟨ks, rfl⟩ := allI_ints h.1
        have hl := Nat.eq_of_beq_eq_true h.2.1
        simp only [List.length_map] at hl
        exact ⟨rfl, q, l, c, h', n', ks, e, hq, hl, Nat.le_of_ble_eq_true h.2.2⟩
      · cases h
    · cases h
  · cases h

abbrev H26 (pos : Bool) : List (Nat × Fix) := [(44, .split), (56, .give (.bool pos))]
noncomputable abbrev E26 (pos : Bool) (ss : List Int) (n c : Nat) (x : Nat → Int) (sm : Int) := codeM Try.prog S6 cf0 (H26 pos) 1000 R26c (S26 ss n c n x sm)
def lp26 (pos : Bool) (L : Nat) (sm : Int) : List Prop := match pos with
  | true => (List.range L).flatMap fun i => [V.bool (decide (sm > 0)) = V.bool true, ixI L i, sm ≠ 0, ixI L i]
  | false => [V.bool (decide (sm > 0)) = V.bool false]
def big26 (n : Nat) : Nat := match n with | 0 => 2 | n + 1 => n + 2
def G26 (pos : Bool) (ss : List Int) (n : Nat) (sm : Int) : List (List (Bool × Bool) × List Prop × Bool) := match Nat.blt 2 n with
  | true => [([(decide (andI (atI ss 0) 7 = 3), true)], [ixI n 0, ldI ss 0, ixI n 1, ldI ss 1] ++ lp26 pos (n + 1) sm, true), ([(decide (andI (atI ss 0) 7 = 3), false)], [ixI n 0, ldI ss 0] ++ lp26 pos (n + 1) sm, true)]
  | false => [([], lp26 pos (big26 n) sm, true)]
def En26 (ss : List Int) (c n : Nat) : Prop := ∀ (pos : Bool) (x : Nat → Int) (sm : Int), (E26 pos ss n c x sm).isSome = true ∧ samesL (orNil (E26 pos ss n c x sm)) = samesR (orNil (E26 pos ss n c x sm)) ∧
  tells (shpR Try.prog (cfS S6) 1000 Try.f26) (orNil (E26 pos ss n c x sm)) = G26 pos ss n sm
theorem en26_0 (ss : List Int) (c : Nat) : En26 ss c 0 := fun pos x sm => by cases pos <;> exact ⟨by kernel_rfl, by kernel_rfl, by kernel_rfl⟩
theorem en26_1 (ss : List Int) (c : Nat) : En26 ss c 1 := fun pos x sm => by cases pos <;> exact ⟨by kernel_rfl, by kernel_rfl, by kernel_rfl⟩
theorem en26_2 (ss : List Int) (c : Nat) : En26 ss c 2 := fun pos x sm => by cases pos <;> exact ⟨by kernel_rfl, by kernel_rfl, by kernel_rfl⟩
theorem en26_3 (ss : List Int) (c : Nat) : En26 ss c 3 := fun pos x sm => by cases pos <;> exact ⟨by kernel_rfl, by kernel_rfl, by kernel_rfl⟩
end Go.Proofs.Ytpkpcnohnlhjlaa
