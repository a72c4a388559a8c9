/- Filter laws, part L: the reference makes a filter. No conditions. -/
import Derived.Test.YtpkpcnohnlhjlaaEngFilF
import Derived.Test.YtpkpcnohnlhjlaaEngFilKZ
namespace Go.Proofs.Ytpkpcnohnlhjlaa
open Go Go.Eng

noncomputable abbrev cd7 : Code := bodyOf Try.f7
noncomputable abbrev L7 : Code := seqL (seqR (seqR cd7))
noncomputable abbrev B7 : Code := inner (inner (seqR L7))
noncomputable abbrev R7c : Code := seqR (seqR (seqR cd7))
def zf : List V := [.int .i64 0, .int .i64 0, .slc none 0 0 0, .int .i64 0, .int .i64 0, .slc none 0 0 0]
def h7 (ss : List Int) (x : Nat → Int) : Tr O := ((Tr.nil.set 0 (some (.ints .i64 ss))).set 1 (some (.cells zf))).set 2 (some (.cells (cellsN 60 x)))
def SA7 (ss : List Int) (n c i : Nat) (x : Nat → Int) : St := stL [(0, sl n c), (2, .ptr (some (1, 0))), (3, .ptr (some (2, 0))), (4, .int .i64 (Int.ofNat i))] (h7 ss x) 3
def s7a (ss : List Int) (n c : Nat) : St := stL [(0, sl n c), (2, .ptr (some (1, 0)))] ((Tr.nil.set 0 (some (.ints .i64 ss))).set 1 (some (.cells zf))) 2
def s7b (ss : List Int) (n c : Nat) : St := stL [(0, sl n c), (2, .ptr (some (1, 0))), (3, .ptr (some (2, 0)))] (h7 ss (fun _ => 0)) 3
theorem a7 (ss : List Int) (n c : Nat) : tells (normF [0, 2]) (orNil (r26 [] (seqL cd7) (startSt [sl n c] (rowA ss) 2))) = [([], [], some (s7a ss n c))] := by kernel_rfl
theorem b7 (ss : List Int) (n c : Nat) : tells (normF [0, 2, 3]) (orNil (r26 [] (seqL (seqR cd7)) (s7a ss n c))) = [([], [], some (s7b ss n c))] := by kernel_rfl
theorem d7 (ss : List Int) (n c : Nat) : tells (normF [0, 2, 3, 4]) (orNil (r26 [] (seqL L7) (s7b ss n c))) = [([], [], some (SA7 ss n c 0 (fun _ => 0)))] := by kernel_rfl
noncomputable abbrev M7 (ss : List Int) (n c i : Nat) (x : Nat → Int) := r26 [(14, .split)] B7 (SA7 ss n c i x)
def Rd7 (ss : List Int) (n c i : Nat) : Prop := ∀ (x : Nat → Int), (M7 ss n c i x).isSome = true ∧ samesL (orNil (M7 ss n c i x)) = samesR (orNil (M7 ss n c i x)) ∧
  tells (roundF Try.prog (cfS S6) 1000 Try.f7 [0, 2, 3, 4]) (orNil (M7 ss n c i x)) =
    [([(decide (Int.ofNat i < Int.ofNat n), true)], [ixI n i, ldI ss i], .next (SA7 ss n c (i + 1) (upd x i (andI (atI ss i) 65535)))),
     ([(decide (Int.ofNat i < Int.ofNat n), false)], [], .exit 0 (SA7 ss n c i x))]
theorem rd7_0 (ss : List Int) (n c : Nat) : Rd7 ss n c 0 := fun x => ⟨by kernel_rfl, by kernel_rfl, by kernel_rfl⟩
theorem rd7_1 (ss : List Int) (n c : Nat) : Rd7 ss n c 1 := fun x => ⟨by kernel_rfl, by kernel_rfl, by kernel_rfl⟩
theorem rd7_2 (ss : List Int) (n c : Nat) : Rd7 ss n c 2 := fun x => ⟨by kernel_rfl, by kernel_rfl, by kernel_rfl⟩
theorem rd7_3 (ss : List Int) (n c : Nat) : Rd7 ss n c 3 := fun x => ⟨by kernel_rfl, by kernel_rfl, by kernel_rfl⟩
theorem rd7_4 (ss : List Int) (n c : Nat) : Rd7 ss n c 4 := fun x => ⟨by kernel_rfl, by kernel_rfl, by kernel_rfl⟩
theorem rd7_5 (ss : List Int) (n c : Nat) : Rd7 ss n c 5 := fun x => ⟨by kernel_rfl, by kernel_rfl, by kernel_rfl⟩
theorem rd7_6 (ss : List Int) (n c : Nat) : Rd7 ss n c 6 := fun x => ⟨by kernel_rfl, by kernel_rfl, by kernel_rfl⟩
theorem rd7_7 (ss : List Int) (n c : Nat) : Rd7 ss n c 7 := fun x => ⟨by kernel_rfl, by kernel_rfl, by kernel_rfl⟩
theorem rd7_8 (ss : List Int) (n c : Nat) : Rd7 ss n c 8 := fun x => ⟨by kernel_rfl, by kernel_rfl, by kernel_rfl⟩
theorem rd7_9 (ss : List Int) (n c : Nat) : Rd7 ss n c 9 := fun x => ⟨by kernel_rfl, by kernel_rfl, by kernel_rfl⟩
theorem rd7_10 (ss : List Int) (n c : Nat) : Rd7 ss n c 10 := fun x => ⟨by kernel_rfl, by kernel_rfl, by kernel_rfl⟩
theorem rd7_11 (ss : List Int) (n c : Nat) : Rd7 ss n c 11 := fun x => ⟨by kernel_rfl, by kernel_rfl, by kernel_rfl⟩
theorem rd7_12 (ss : List Int) (n c : Nat) : Rd7 ss n c 12 := fun x => ⟨by kernel_rfl, by kernel_rfl, by kernel_rfl⟩
theorem rd7_13 (ss : List Int) (n c : Nat) : Rd7 ss n c 13 := fun x => ⟨by kernel_rfl, by kernel_rfl, by kernel_rfl⟩
theorem rd7_14 (ss : List Int) (n c : Nat) : Rd7 ss n c 14 := fun x => ⟨by kernel_rfl, by kernel_rfl, by kernel_rfl⟩
theorem rd7_15 (ss : List Int) (n c : Nat) : Rd7 ss n c 15 := fun x => ⟨by kernel_rfl, by kernel_rfl, by kernel_rfl⟩
theorem rd7_16 (ss : List Int) (n c : Nat) : Rd7 ss n c 16 := fun x => ⟨by kernel_rfl, by kernel_rfl, by kernel_rfl⟩
theorem rd7_17 (ss : List Int) (n c : Nat) : Rd7 ss n c 17 := fun x => ⟨by kernel_rfl, by kernel_rfl, by kernel_rfl⟩
theorem rd7_18 (ss : List Int) (n c : Nat) : Rd7 ss n c 18 := fun x => ⟨by kernel_rfl, by kernel_rfl, by kernel_rfl⟩
theorem rd7_19 (ss : List Int) (n c : Nat) : Rd7 ss n c 19 := fun x => ⟨by kernel_rfl, by kernel_rfl, by kernel_rfl⟩
theorem rd7_20 (ss : List Int) (n c : Nat) : Rd7 ss n c 20 := fun x => ⟨by kernel_rfl, by kernel_rfl, by kernel_rfl⟩
theorem rd7_21 (ss : List Int) (n c : Nat) : Rd7 ss n c 21 := fun x => ⟨by kernel_rfl, by kernel_rfl, by kernel_rfl⟩
theorem rd7_22 (ss : List Int) (n c : Nat) : Rd7 ss n c 22 := fun x => ⟨by kernel_rfl, by kernel_rfl, by kernel_rfl⟩
theorem rd7_23 (ss : List Int) (n c : Nat) : Rd7 ss n c 23 := fun x => ⟨by kernel_rfl, by kernel_rfl, by kernel_rfl⟩
theorem rd7_24 (ss : List Int) (n c : Nat) : Rd7 ss n c 24 := fun x => ⟨by kernel_rfl, by kernel_rfl, by kernel_rfl⟩
theorem rd7_25 (ss : List Int) (n c : Nat) : Rd7 ss n c 25 := fun x => ⟨by kernel_rfl, by kernel_rfl, by kernel_rfl⟩
theorem rd7_26 (ss : List Int) (n c : Nat) : Rd7 ss n c 26 := fun x => ⟨by kernel_rfl, by kernel_rfl, by kernel_rfl⟩
theorem rd7_27 (ss : List Int) (n c : Nat) : Rd7 ss n c 27 := fun x => ⟨by kernel_rfl, by kernel_rfl, by kernel_rfl⟩
theorem rd7_28 (ss : List Int) (n c : Nat) : Rd7 ss n c 28 := fun x => ⟨by kernel_rfl, by kernel_rfl, by kernel_rfl⟩
theorem rd7_29 (ss : List Int) (n c : Nat) : Rd7 ss n c 29 := fun x => ⟨by kernel_rfl, by kernel_rfl, by kernel_rfl⟩
theorem rd7_30 (ss : List Int) (n c : Nat) : Rd7 ss n c 30 := fun x => ⟨by kernel_rfl, by kernel_rfl, by kernel_rfl⟩
theorem rd7_31 (ss : List Int) (n c : Nat) : Rd7 ss n c 31 := fun x => ⟨by kernel_rfl, by kernel_rfl, by kernel_rfl⟩
theorem rd7_32 (ss : List Int) (n c : Nat) : Rd7 ss n c 32 := fun x => ⟨by kernel_rfl, by kernel_rfl, by kernel_rfl⟩
theorem rd7_33 (ss : List Int) (n c : Nat) : Rd7 ss n c 33 := fun x => ⟨by kernel_rfl, by kernel_rfl, by kernel_rfl⟩
theorem rd7_34 (ss : List Int) (n c : Nat) : Rd7 ss n c 34 := fun x => ⟨by kernel_rfl, by kernel_rfl, by kernel_rfl⟩
theorem rd7_35 (ss : List Int) (n c : Nat) : Rd7 ss n c 35 := fun x => ⟨by kernel_rfl, by kernel_rfl, by kernel_rfl⟩
theorem rd7_36 (ss : List Int) (n c : Nat) : Rd7 ss n c 36 := fun x => ⟨by kernel_rfl, by kernel_rfl, by kernel_rfl⟩
theorem rd7_37 (ss : List Int) (n c : Nat) : Rd7 ss n c 37 := fun x => ⟨by kernel_rfl, by kernel_rfl, by kernel_rfl⟩
theorem rd7_38 (ss : List Int) (n c : Nat) : Rd7 ss n c 38 := fun x => ⟨by kernel_rfl, by kernel_rfl, by kernel_rfl⟩
theorem rd7_39 (ss : List Int) (n c : Nat) : Rd7 ss n c 39 := fun x => ⟨by kernel_rfl, by kernel_rfl, by kernel_rfl⟩
theorem rd7_40 (ss : List Int) (n c : Nat) : Rd7 ss n c 40 := fun x => ⟨by kernel_rfl, by kernel_rfl, by kernel_rfl⟩
theorem rd7_41 (ss : List Int) (n c : Nat) : Rd7 ss n c 41 := fun x => ⟨by kernel_rfl, by kernel_rfl, by kernel_rfl⟩
theorem rd7_42 (ss : List Int) (n c : Nat) : Rd7 ss n c 42 := fun x => ⟨by kernel_rfl, by kernel_rfl, by kernel_rfl⟩
theorem rd7_43 (ss : List Int) (n c : Nat) : Rd7 ss n c 43 := fun x => ⟨by kernel_rfl, by kernel_rfl, by kernel_rfl⟩
theorem rd7_44 (ss : List Int) (n c : Nat) : Rd7 ss n c 44 := fun x => ⟨by kernel_rfl, by kernel_rfl, by kernel_rfl⟩
theorem rd7_45 (ss : List Int) (n c : Nat) : Rd7 ss n c 45 := fun x => ⟨by kernel_rfl, by kernel_rfl, by kernel_rfl⟩
theorem rd7_46 (ss : List Int) (n c : Nat) : Rd7 ss n c 46 := fun x => ⟨by kernel_rfl, by kernel_rfl, by kernel_rfl⟩
theorem rd7_47 (ss : List Int) (n c : Nat) : Rd7 ss n c 47 := fun x => ⟨by kernel_rfl, by kernel_rfl, by kernel_rfl⟩
theorem rd7_48 (ss : List Int) (n c : Nat) : Rd7 ss n c 48 := fun x => ⟨by kernel_rfl, by kernel_rfl, by kernel_rfl⟩
theorem rd7_49 (ss : List Int) (n c : Nat) : Rd7 ss n c 49 := fun x => ⟨by kernel_rfl, by kernel_rfl, by kernel_rfl⟩
theorem rd7_50 (ss : List Int) (n c : Nat) : Rd7 ss n c 50 := fun x => ⟨by kernel_rfl, by kernel_rfl, by kernel_rfl⟩
theorem rd7_51 (ss : List Int) (n c : Nat) : Rd7 ss n c 51 := fun x => ⟨by kernel_rfl, by kernel_rfl, by kernel_rfl⟩
theorem rd7_52 (ss : List Int) (n c : Nat) : Rd7 ss n c 52 := fun x => ⟨by kernel_rfl, by kernel_rfl, by kernel_rfl⟩
theorem rd7_53 (ss : List Int) (n c : Nat) : Rd7 ss n c 53 := fun x => ⟨by kernel_rfl, by kernel_rfl, by kernel_rfl⟩
theorem rd7_54 (ss : List Int) (n c : Nat) : Rd7 ss n c 54 := fun x => ⟨by kernel_rfl, by kernel_rfl, by kernel_rfl⟩
theorem rd7_55 (ss : List Int) (n c : Nat) : Rd7 ss n c 55 := fun x => ⟨by kernel_rfl, by kernel_rfl, by kernel_rfl⟩
theorem rd7_56 (ss : List Int) (n c : Nat) : Rd7 ss n c 56 := fun x => ⟨by kernel_rfl, by kernel_rfl, by kernel_rfl⟩
theorem rd7_57 (ss : List Int) (n c : Nat) : Rd7 ss n c 57 := fun x => ⟨by kernel_rfl, by kernel_rfl, by kernel_rfl⟩
theorem rd7_58 (ss : List Int) (n c : Nat) : Rd7 ss n c 58 := fun x => ⟨by kernel_rfl, by kernel_rfl, by kernel_rfl⟩
theorem rd7_59 (ss : List Int) (n c : Nat) : Rd7 ss n c 59 := fun x => ⟨by kernel_rfl, by kernel_rfl, by kernel_rfl⟩
theorem rd7 (ss : List Int) (n c : Nat) : ∀ i, i < 60 → Rd7 ss n c i
  | 0, _ => rd7_0 ss n c
  | 1, _ => rd7_1 ss n c
  | 2, _ => rd7_2 ss n c
  | 3, _ => rd7_3 ss n c
  | 4, _ => rd7_4 ss n c
  | 5, _ => rd7_5 ss n c
  | 6, _ => rd7_6 ss n c
  | 7, _ => rd7_7 ss n c
  | 8, _ => rd7_8 ss n c
  | 9, _ => rd7_9 ss n c
  | 10, _ => rd7_10 ss n c
  | 11, _ => rd7_11 ss n c
  | 12, _ => rd7_12 ss n c
  | 13, _ => rd7_13 ss n c
  | 14, _ => rd7_14 ss n c
  | 15, _ => rd7_15 ss n c
  | 16, _ => rd7_16 ss n c
  | 17, _ => rd7_17 ss n c
  | 18, _ => rd7_18 ss n c
  | 19, _ => rd7_19 ss n c
  | 20, _ => rd7_20 ss n c
  | 21, _ => rd7_21 ss n c
  | 22, _ => rd7_22 ss n c
  | 23, _ => rd7_23 ss n c
  | 24, _ => rd7_24 ss n c
  | 25, _ => rd7_25 ss n c
  | 26, _ => rd7_26 ss n c
  | 27, _ => rd7_27 ss n c
  | 28, _ => rd7_28 ss n c
  | 29, _ => rd7_29 ss n c
  | 30, _ => rd7_30 ss n c
  | 31, _ => rd7_31 ss n c
  | 32, _ => rd7_32 ss n c
  | 33, _ => rd7_33 ss n c
  | 34, _ => rd7_34 ss n c
  | 35, _ => rd7_35 ss n c
  | 36, _ => rd7_36 ss n c
  | 37, _ => rd7_37 ss n c
  | 38, _ => rd7_38 ss n c
  | 39, _ => rd7_39 ss n c
  | 40, _ => rd7_40 ss n c
  | 41, _ => rd7_41 ss n c
  | 42, _ => rd7_42 ss n c
  | 43, _ => rd7_43 ss n c
  | 44, _ => rd7_44 ss n c
  | 45, _ => rd7_45 ss n c
  | 46, _ => rd7_46 ss n c
  | 47, _ => rd7_47 ss n c
  | 48, _ => rd7_48 ss n c
  | 49, _ => rd7_49 ss n c
  | 50, _ => rd7_50 ss n c
  | 51, _ => rd7_51 ss n c
  | 52, _ => rd7_52 ss n c
  | 53, _ => rd7_53 ss n c
  | 54, _ => rd7_54 ss n c
  | 55, _ => rd7_55 ss n c
  | 56, _ => rd7_56 ss n c
  | 57, _ => rd7_57 ss n c
  | 58, _ => rd7_58 ss n c
  | 59, _ => rd7_59 ss n c
  | _ + 60, h => absurd h (by omega)
theorem rd7e (ss : List Int) (n c : Nat) (x : Nat → Int) : (M7 ss n c 60 x).isSome = true ∧ samesL (orNil (M7 ss n c 60 x)) = samesR (orNil (M7 ss n c 60 x)) ∧
  tells (roundF Try.prog (cfS S6) 1000 Try.f7 [0, 2, 3, 4]) (orNil (M7 ss n c 60 x)) = [([], [], .exit 0 (SA7 ss n c 60 x))] := ⟨by kernel_rfl, by kernel_rfl, by kernel_rfl⟩

/-! ### the ends -/
def shpA (P : Program) (cf : CallF) (F : Nat) (fn : Func) (p : X × St) : Bool := match p.1 with
  | .ret => match leave P cf F fn p.2.fr p.2.dfs .ret p.2.h p.2.n with
    | some (.ret (.agg [.int .i64 _, .int .i64 _, .slc none 0 _ _, .int .i64 _, .int .i64 _, .slc none 0 _ _]), _, _) => true
    | _ => false
  | _ => false
def shpB (P : Program) (cf : CallF) (F : Nat) (fn : Func) (p : X × St) : Bool := match p.1 with
  | .ret => match leave P cf F fn p.2.fr p.2.dfs .ret p.2.h p.2.n with
    | some (.ret (.agg [.int .i64 _, .int .i64 _, .slc (some (q, 0)) l _ 1, .int .i64 _, .int .i64 _, .slc none 0 _ _]), h', _) => match h'.get q with
      | some (.cells cs) => allI cs && (Nat.beq cs.length l && Nat.ble l 300)
      | _ => false
    | _ => false
  | _ => false
def shpC (P : Program) (cf : CallF) (F : Nat) (fn : Func) (p : X × St) : Option (V × Option O) := match p.1 with
  | .ret => match leave P cf F fn p.2.fr p.2.dfs .ret p.2.h p.2.n with
    | some (.ret v, h', _) => some (v, h'.get 2)
    | _ => none
  | _ => none

/-- a filter as it is made -/
def MR (v : V) (h' : Tr O) : Prop := ∃ k r d w, (∃ c z c' z', v = FV k r (.slc none 0 c z) d w (.slc none 0 c' z')) ∨
  (∃ (q l c : Nat) (ks : List Int) (c' z' : Nat) (o2 : O), v = FV k r (.slc (some (q, 0)) l c 1) d w (.slc none 0 c' z') ∧ h'.get q = some o2 ∧ rowLike o2 ks ∧ o2.wr = true ∧ ks.length = l ∧ l ≤ 300) ∨
  (∃ (q l c : Nat) (ks : List Int) (c' z' : Nat) (o2 : O), v = FV k r (.slc none 0 c' z') d w (.slc (some (q, 0)) l c 1) ∧ h'.get q = some o2 ∧ rowLike o2 ks ∧ o2.wr = true ∧ ks.length = l ∧ l ≤ 300)
def MadeQ (y : Exit) (s' : St) : Prop := (y = .normal ∨ y = .ret) ∧ ∃ v h' n', leave Try.prog (cfS S6) 1000 Try.f7 s'.fr s'.dfs .ret s'.h s'.n = some (.ret v, h', n') ∧ MR v h'
theorem madeA {x : X} {s' : St} (h : shpA Try.prog (cfS S6) 1000 Try.f7 (x, s') = true) : ∃ y, x.plain = some y ∧ MadeQ y s' := by
  unfold shpA at h
  split at h
  · rename_i hx
    have hx : x = .ret := hx
    subst hx
    split at h
    · rename_i k r c z d w c' z' h' n' e
      exact ⟨.ret, rfl, .inr rfl, _, h', n', e, k, r, d, w, .inl ⟨c, z, c', z', rfl⟩⟩
    · cases h
  · cases h
theorem madeB {x : X} {s' : St} (h : shpB Try.prog (cfS S6) 1000 Try.f7 (x, s') = true) : ∃ y, x.plain = some y ∧ MadeQ y s' := by
  unfold shpB at h
  split at h
  · rename_i hx
    have hx : x = .ret := hx
    subst hx
    split at h
    · rename_i k r q l c d w c' z' h' n' e
      split at h
      · rename_i cs hq
        simp only [Bool.and_eq_true] at h
        obtain ⟨ks, rfl⟩ := allI_ints h.1
        have hl := Nat.eq_of_beq_eq_true h.2.1
        simp only [List.length_map] at hl
        exact ⟨.ret, rfl, .inr rfl, _, h', n', e, k, r, d, w, .inr (.inl ⟨q, l, c, ks, c', z', _, rfl, hq, rfl, rfl, hl, Nat.le_of_ble_eq_true h.2.2⟩)⟩
      · cases h
    · cases h
  · cases h
theorem madeC {x : X} {s' : St} {l c : Nat} {ks : List Int} (hk : ks.length = l) (hl : l ≤ 300) (h : shpC Try.prog (cfS S6) 1000 Try.f7 (x, s') = some (FV 5 0 (.slc none 0 0 0) 0 0 (.slc (some (2, 0)) l c 1), some (.own .i64 ks))) : ∃ y, x.plain = some y ∧ MadeQ y s' := by
  unfold shpC at h
  split at h
  · rename_i hx
    have hx : x = .ret := hx
    subst hx
    split at h
    · rename_i v h' n' e
      simp only [Option.some.injEq, Prod.mk.injEq] at h
      obtain ⟨rfl, hq⟩ := h
      exact ⟨.ret, rfl, .inr rfl, _, h', n', e, 5, 0, 0, 0, .inr (.inr ⟨2, l, c, ks, 0, 0, _, rfl, hq, rfl, rfl, hk, hl⟩)⟩
    · cases h
  · cases h

def Kx (x : Nat → Int) : Int := IntKind.i64.wrap (1 + (x 0).tmod 8)
abbrev isK (a b : Int) : Prop := V.int .i64 a = V.int .i64 b
def nK7 (x : Nat → Int) (j : Int) : Prop := V.bool (decide (Kx x = j)) = V.bool false
noncomputable abbrev E7 (H : List (Nat × Fix)) (ss : List Int) (n c i : Nat) (x : Nat → Int) := r26 H R7c (SA7 ss n c i x)
abbrev H7o : List (Nat × Fix) := [(33, .give (.bool false)), (68, .give (.bool false)), (69, .give (.bool false)), (70, .give (.bool false)), (76, .give (.bool false)), (85, .give (.bool false)), (91, .give (.bool false))]
theorem k7_1_0 (ss : List Int) (n c i : Nat) (x : Nat → Int) : (E7 [(28, .give (.int .i64 1)), (36, .give (.int .i64 (-2)))] ss n c i x).isSome = true ∧ samesL (orNil (E7 [(28, .give (.int .i64 1)), (36, .give (.int .i64 (-2)))] ss n c i x)) = samesR (orNil (E7 [(28, .give (.int .i64 1)), (36, .give (.int .i64 (-2)))] ss n c i x)) ∧ tells (shpB Try.prog (cfS S6) 1000 Try.f7) (orNil (E7 [(28, .give (.int .i64 1)), (36, .give (.int .i64 (-2)))] ss n c i x)) = [([], [isK (Kx x) 1, isK ((x 1).tmod 3) (-2)], true)] := ⟨by kernel_rfl, by kernel_rfl, by kernel_rfl⟩
theorem k7_1_1 (ss : List Int) (n c i : Nat) (x : Nat → Int) : (E7 [(28, .give (.int .i64 1)), (36, .give (.int .i64 (-1)))] ss n c i x).isSome = true ∧ samesL (orNil (E7 [(28, .give (.int .i64 1)), (36, .give (.int .i64 (-1)))] ss n c i x)) = samesR (orNil (E7 [(28, .give (.int .i64 1)), (36, .give (.int .i64 (-1)))] ss n c i x)) ∧ tells (shpB Try.prog (cfS S6) 1000 Try.f7) (orNil (E7 [(28, .give (.int .i64 1)), (36, .give (.int .i64 (-1)))] ss n c i x)) = [([], [isK (Kx x) 1, isK ((x 1).tmod 3) (-1)], true)] := ⟨by kernel_rfl, by kernel_rfl, by kernel_rfl⟩
theorem k7_1_2 (ss : List Int) (n c i : Nat) (x : Nat → Int) : (E7 [(28, .give (.int .i64 1)), (36, .give (.int .i64 (0)))] ss n c i x).isSome = true ∧ samesL (orNil (E7 [(28, .give (.int .i64 1)), (36, .give (.int .i64 (0)))] ss n c i x)) = samesR (orNil (E7 [(28, .give (.int .i64 1)), (36, .give (.int .i64 (0)))] ss n c i x)) ∧ tells (shpB Try.prog (cfS S6) 1000 Try.f7) (orNil (E7 [(28, .give (.int .i64 1)), (36, .give (.int .i64 (0)))] ss n c i x)) = [([], [isK (Kx x) 1, isK ((x 1).tmod 3) (0)], true)] := ⟨by kernel_rfl, by kernel_rfl, by kernel_rfl⟩
theorem k7_1_3 (ss : List Int) (n c i : Nat) (x : Nat → Int) : (E7 [(28, .give (.int .i64 1)), (36, .give (.int .i64 (1)))] ss n c i x).isSome = true ∧ samesL (orNil (E7 [(28, .give (.int .i64 1)), (36, .give (.int .i64 (1)))] ss n c i x)) = samesR (orNil (E7 [(28, .give (.int .i64 1)), (36, .give (.int .i64 (1)))] ss n c i x)) ∧ tells (shpB Try.prog (cfS S6) 1000 Try.f7) (orNil (E7 [(28, .give (.int .i64 1)), (36, .give (.int .i64 (1)))] ss n c i x)) = [([], [isK (Kx x) 1, isK ((x 1).tmod 3) (1)], true)] := ⟨by kernel_rfl, by kernel_rfl, by kernel_rfl⟩
theorem k7_1_4 (ss : List Int) (n c i : Nat) (x : Nat → Int) : (E7 [(28, .give (.int .i64 1)), (36, .give (.int .i64 (2)))] ss n c i x).isSome = true ∧ samesL (orNil (E7 [(28, .give (.int .i64 1)), (36, .give (.int .i64 (2)))] ss n c i x)) = samesR (orNil (E7 [(28, .give (.int .i64 1)), (36, .give (.int .i64 (2)))] ss n c i x)) ∧ tells (shpB Try.prog (cfS S6) 1000 Try.f7) (orNil (E7 [(28, .give (.int .i64 1)), (36, .give (.int .i64 (2)))] ss n c i x)) = [([], [isK (Kx x) 1, isK ((x 1).tmod 3) (2)], true)] := ⟨by kernel_rfl, by kernel_rfl, by kernel_rfl⟩
theorem k7_2 (ss : List Int) (n c i : Nat) (x : Nat → Int) : (E7 [(28, .give (.int .i64 2))] ss n c i x).isSome = true ∧ samesL (orNil (E7 [(28, .give (.int .i64 2))] ss n c i x)) = samesR (orNil (E7 [(28, .give (.int .i64 2))] ss n c i x)) ∧ tells (shpA Try.prog (cfS S6) 1000 Try.f7) (orNil (E7 [(28, .give (.int .i64 2))] ss n c i x)) = [([], [isK (Kx x) 2], true)] := ⟨by kernel_rfl, by kernel_rfl, by kernel_rfl⟩
theorem k7_3 (ss : List Int) (n c i : Nat) (x : Nat → Int) : (E7 [(28, .give (.int .i64 3))] ss n c i x).isSome = true ∧ samesL (orNil (E7 [(28, .give (.int .i64 3))] ss n c i x)) = samesR (orNil (E7 [(28, .give (.int .i64 3))] ss n c i x)) ∧ tells (shpA Try.prog (cfS S6) 1000 Try.f7) (orNil (E7 [(28, .give (.int .i64 3))] ss n c i x)) = [([], [isK (Kx x) 3], true)] := ⟨by kernel_rfl, by kernel_rfl, by kernel_rfl⟩
theorem k7_4 (ss : List Int) (n c i : Nat) (x : Nat → Int) : (E7 [(28, .give (.int .i64 4))] ss n c i x).isSome = true ∧ samesL (orNil (E7 [(28, .give (.int .i64 4))] ss n c i x)) = samesR (orNil (E7 [(28, .give (.int .i64 4))] ss n c i x)) ∧ tells (shpA Try.prog (cfS S6) 1000 Try.f7) (orNil (E7 [(28, .give (.int .i64 4))] ss n c i x)) = [([], [isK (Kx x) 4], true)] := ⟨by kernel_rfl, by kernel_rfl, by kernel_rfl⟩
theorem k7_7 (ss : List Int) (n c i : Nat) (x : Nat → Int) : (E7 [(28, .give (.int .i64 7))] ss n c i x).isSome = true ∧ samesL (orNil (E7 [(28, .give (.int .i64 7))] ss n c i x)) = samesR (orNil (E7 [(28, .give (.int .i64 7))] ss n c i x)) ∧ tells (shpA Try.prog (cfS S6) 1000 Try.f7) (orNil (E7 [(28, .give (.int .i64 7))] ss n c i x)) = [([], [isK (Kx x) 7], true)] := ⟨by kernel_rfl, by kernel_rfl, by kernel_rfl⟩
theorem k7_8 (ss : List Int) (n c i : Nat) (x : Nat → Int) : (E7 [(28, .give (.int .i64 8))] ss n c i x).isSome = true ∧ samesL (orNil (E7 [(28, .give (.int .i64 8))] ss n c i x)) = samesR (orNil (E7 [(28, .give (.int .i64 8))] ss n c i x)) ∧ tells (shpA Try.prog (cfS S6) 1000 Try.f7) (orNil (E7 [(28, .give (.int .i64 8))] ss n c i x)) = [([], [isK (Kx x) 8], true)] := ⟨by kernel_rfl, by kernel_rfl, by kernel_rfl⟩
theorem k7_o (ss : List Int) (n c i : Nat) (x : Nat → Int) : (E7 H7o ss n c i x).isSome = true ∧ samesL (orNil (E7 H7o ss n c i x)) = samesR (orNil (E7 H7o ss n c i x)) ∧ tells (shpA Try.prog (cfS S6) 1000 Try.f7) (orNil (E7 H7o ss n c i x)) = [([], [nK7 x 1, nK7 x 2, nK7 x 3, nK7 x 4, nK7 x 5, nK7 x 7, nK7 x 8], true)] := ⟨by kernel_rfl, by kernel_rfl, by kernel_rfl⟩

theorem nil7i (c z : Nat) : (r26 [] cd7 (startSt [nilS c z] (twoH (rowO none) (rowO none)) 2)).isSome = true := by kernel_rfl
theorem nil7s (c z : Nat) : samesL (orNil (r26 [] cd7 (startSt [nilS c z] (twoH (rowO none) (rowO none)) 2))) = samesR (orNil (r26 [] cd7 (startSt [nilS c z] (twoH (rowO none) (rowO none)) 2))) := by kernel_rfl
theorem nil7 (c z : Nat) : tells (shpB Try.prog (cfS S6) 1000 Try.f7) (orNil (r26 [] cd7 (startSt [nilS c z] (twoH (rowO none) (rowO none)) 2))) = [([], [], true)] := by kernel_rfl

/-! ### a curve -/
noncomputable abbrev W7 : Code := seqL (seqR R7c)
noncomputable abbrev W7b : Code := inner (seqR W7)
noncomputable abbrev W7c : Code := condF (seqR W7b)
noncomputable abbrev W7d : Code := condF (seqR W7c)
noncomputable abbrev R20c : Code := condT (seqR W7d)
def five (sv : V) : List V := [.int .i64 5, .int .i64 0, .slc none 0 0 0, .int .i64 0, .int .i64 0, sv]
def h5 (ss : List Int) : Tr O := ((Tr.nil.set 0 (some (.ints .i64 ss))).set 1 (some (.cells zf))).set 2 (some (.cells (five (.slc none 0 0 0))))
def s5 (ss : List Int) (n c : Nat) (l : List (Nat × V)) : St := stL ([(0, sl n c), (2, .ptr (some (1, 0))), (5, .ptr (some (2, 0)))] ++ l) (h5 ss) 3
def h5z (ss : List Int) : Tr O := ((Tr.nil.set 0 (some (.cells zf))).set 1 (some (.cells (five (.slc none 0 0 0))))).set 2 (some (.ints .i64 ss))
def s5z (ss : List Int) (b l c : Nat) : St := stL [(2, .ptr (some (0, 0))), (5, .ptr (some (1, 0))), (81, .slc (some (2, b)) l c 1)] (h5z ss) 3
def s5y (ks : List Int) (l c : Nat) : St := stL [(2, .ptr (some (0, 0))), (5, .ptr (some (1, 0)))] (((Tr.nil.set 0 (some (.cells zf))).set 1 (some (.cells (five (.slc (some (2, 0)) l c 1))))).set 2 (some (.own .i64 ks))) 3
theorem w1 (ss : List Int) (n c : Nat) (i : Nat) (x : Nat → Int) : (r26 [(28, .give (.int .i64 5))] (seqL R7c) (SA7 ss n c i x)).isSome = true ∧ samesL (orNil (r26 [(28, .give (.int .i64 5))] (seqL R7c) (SA7 ss n c i x))) = samesR (orNil (r26 [(28, .give (.int .i64 5))] (seqL R7c) (SA7 ss n c i x))) ∧ tells (normF [0, 2, 5]) (orNil (r26 [(28, .give (.int .i64 5))] (seqL R7c) (SA7 ss n c i x))) = [([], [isK (Kx x) 5], some (s5 ss n c []))] := ⟨by kernel_rfl, by kernel_rfl, by kernel_rfl⟩
theorem w2 (ss : List Int) (n c : Nat) : (r26 [] (seqL W7) (s5 ss n c [])).isSome = true ∧ samesL (orNil (r26 [] (seqL W7) (s5 ss n c []))) = samesR (orNil (r26 [] (seqL W7) (s5 ss n c []))) ∧ tells (normF [0, 2, 5, 31]) (orNil (r26 [] (seqL W7) (s5 ss n c []))) = [([], [], some (s5 ss n c [(31, .int .i64 5)]))] := ⟨by kernel_rfl, by kernel_rfl, by kernel_rfl⟩
theorem w3 (ss : List Int) (n c : Nat) : (r26 [] (seqL W7b) (s5 ss n c [(31, .int .i64 5)])).isSome = true ∧ samesL (orNil (r26 [] (seqL W7b) (s5 ss n c [(31, .int .i64 5)]))) = samesR (orNil (r26 [] (seqL W7b) (s5 ss n c [(31, .int .i64 5)]))) ∧ tells (normF [0, 2, 5, 31, 32]) (orNil (r26 [] (seqL W7b) (s5 ss n c [(31, .int .i64 5)]))) = [([], [], some (s5 ss n c [(31, .int .i64 5), (32, .bool false)]))] := ⟨by kernel_rfl, by kernel_rfl, by kernel_rfl⟩
theorem w4 (ss : List Int) (n c : Nat) : (r26 [] (seqL W7c) (s5 ss n c [(31, .int .i64 5), (32, .bool false)])).isSome = true ∧ samesL (orNil (r26 [] (seqL W7c) (s5 ss n c [(31, .int .i64 5), (32, .bool false)]))) = samesR (orNil (r26 [] (seqL W7c) (s5 ss n c [(31, .int .i64 5), (32, .bool false)]))) ∧ tells (normF [0, 2, 5, 31, 67]) (orNil (r26 [] (seqL W7c) (s5 ss n c [(31, .int .i64 5), (32, .bool false)]))) = [([], [], some (s5 ss n c [(31, .int .i64 5), (67, .bool false)]))] := ⟨by kernel_rfl, by kernel_rfl, by kernel_rfl⟩
theorem w5 (ss : List Int) (n c : Nat) : (r26 [] (seqL W7d) (s5 ss n c [(31, .int .i64 5), (67, .bool false)])).isSome = true ∧ samesL (orNil (r26 [] (seqL W7d) (s5 ss n c [(31, .int .i64 5), (67, .bool false)]))) = samesR (orNil (r26 [] (seqL W7d) (s5 ss n c [(31, .int .i64 5), (67, .bool false)]))) ∧ tells (normF [0, 2, 5, 75]) (orNil (r26 [] (seqL W7d) (s5 ss n c [(31, .int .i64 5), (67, .bool false)]))) = [([], [], some (s5 ss n c [(75, .bool true)]))] := ⟨by kernel_rfl, by kernel_rfl, by kernel_rfl⟩

noncomputable abbrev ops20 : Array Oper := opsOf R20c
noncomputable abbrev p20a : List Oper := ops20.toList.take 5
noncomputable abbrev p20b : List Oper := ops20.toList.drop 6
noncomputable abbrev sq (H : List (Nat × Fix)) (l : List Oper) (s : St) := seqM Try.prog S6 cf0 H ops20 l s
theorem w6_0 (ss : List Int) (c : Nat) : (sq [(80, .give (.int .i64 0))] p20a (s5 ss 0 c [(75, .bool true)])).isSome = true ∧ samesL (orNil (sq [(80, .give (.int .i64 0))] p20a (s5 ss 0 c [(75, .bool true)]))) = samesR (orNil (sq [(80, .give (.int .i64 0))] p20a (s5 ss 0 c [(75, .bool true)]))) ∧
    tells (normF [2, 5, 81]) (orNil (sq [(80, .give (.int .i64 0))] p20a (s5 ss 0 c [(75, .bool true)]))) = [([], [V.int .i64 (if Int.ofNat 0 < 1 then Int.ofNat 0 else 1) = V.int .i64 0, (0 : Int) ≤ 0 ∧ (0 : Int) ≤ Int.ofNat 0], some (s5z ss 0 0 c))] := ⟨by kernel_rfl, by kernel_rfl, by kernel_rfl⟩
theorem w6_1 (ss : List Int) (n c : Nat) : (sq [(80, .give (.int .i64 1))] p20a (s5 ss n c [(75, .bool true)])).isSome = true ∧ samesL (orNil (sq [(80, .give (.int .i64 1))] p20a (s5 ss n c [(75, .bool true)]))) = samesR (orNil (sq [(80, .give (.int .i64 1))] p20a (s5 ss n c [(75, .bool true)]))) ∧
    tells (normF [2, 5, 81]) (orNil (sq [(80, .give (.int .i64 1))] p20a (s5 ss n c [(75, .bool true)]))) = [([], [V.int .i64 (if Int.ofNat n < 1 then Int.ofNat n else 1) = V.int .i64 1, (0 : Int) ≤ 1 ∧ (1 : Int) ≤ Int.ofNat n], some (s5z ss 1 (n - 1) (c - 1)))] := ⟨by kernel_rfl, by kernel_rfl, by kernel_rfl⟩
end Go.Proofs.Ytpkpcnohnlhjlaa
