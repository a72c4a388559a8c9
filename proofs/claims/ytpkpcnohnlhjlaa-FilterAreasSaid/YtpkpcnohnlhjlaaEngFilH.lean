/- Filter laws, part H: the reference's test of filters. No conditions. -/
import Derived.Test.YtpkpcnohnlhjlaaEngFilG
namespace Go.Proofs.Ytpkpcnohnlhjlaa
open Go Go.Eng

def chP : List (Bool × Bool) → List Prop → List (List Prop × Bool) → List Prop → Bool → List (List (Bool × Bool) × List Prop × Option V)
  | acc, az, [], fa, p => [(acc, az ++ fa, some (.bool p))]
  | acc, az, x :: r, fa, p => chP (acc ++ [(x.2, true)]) (az ++ x.1) r fa p ++ [(acc ++ [(x.2, false)], az ++ x.1, some (.bool false))]

theorem chP_ok (fa : List Prop) (p : Bool) (hfa : ∀ a ∈ fa, a) : ∀ (l : List (List Prop × Bool)) (acc : List (Bool × Bool)) (az : List Prop), (∀ a ∈ az, a) → (∀ x ∈ l, ∀ a ∈ x.1, a) → ∀ g ∈ chP acc az l fa p, (∀ b ∈ g.1, b.1 = b.2) → (∀ a ∈ g.2.1, a) ∧ g.2.2 = some (.bool (chB l && p))
  | [], acc, az, ha, _, g, hg, hc => by
    simp only [chP, List.mem_singleton] at hg; subst hg
    exact ⟨fun a h => (List.mem_append.1 h).elim (ha a) (hfa a), by simp [chB]⟩
  | x :: r, acc, az, ha, hl, g, hg, hc => by
    have has : ∀ a ∈ az ++ x.1, a := fun a h => (List.mem_append.1 h).elim (ha a) (hl x (by simp) a)
    simp only [chP, List.mem_append, List.mem_singleton] at hg
    rcases hg with hg | rfl
    · obtain ⟨k1, k2⟩ := chP_ok fa p hfa r _ _ has (fun y hy => hl y (by simp [hy])) g hg hc
      refine ⟨k1, ?_⟩
      have mem : ∀ (l : List (List Prop × Bool)) (acc : List (Bool × Bool)) (az : List Prop) (g), g ∈ chP acc az l fa p → ∀ b ∈ acc, b ∈ g.1 := by
        intro l
        induction l with
        | nil => intro acc az g hg b hb; simp only [chP, List.mem_singleton] at hg; subst hg; exact hb
        | cons y l ih =>
          intro acc az g hg b hb
          simp only [chP, List.mem_append, List.mem_singleton] at hg
          rcases hg with hg | rfl
          · exact ih _ _ g hg b (by simp [hb])
          · simp [hb]
      have hx : x.2 = true := hc (x.2, true) (mem r _ _ g hg _ (by simp))
      rw [k2]; simp only [chB, hx, Bool.true_and]
    · have hx : x.2 = false := hc (x.2, false) (by simp)
      exact ⟨has, by simp only [chB, hx, Bool.false_and]⟩

inductive RC where
  | ok
  | hi
  | lo
abbrev isB (b c : Bool) : Prop := V.bool b = V.bool c
def Hr : RC → List (Nat × Fix)
  | .ok => [(7, .give (.bool true)), (11, .give (.bool true))]
  | .hi => [(7, .give (.bool true)), (11, .give (.bool false))]
  | .lo => [(7, .give (.bool false))]
def az20 (r : Int) : RC → List Prop
  | .ok => [isB (decide (r ≥ 0)) true, isB (decide (r ≤ 3)) true]
  | .hi => [isB (decide (r ≥ 0)) true, isB (decide (r ≤ 3)) false]
  | .lo => [isB (decide (r ≥ 0)) false]
def rcIs (r : Int) : RC → Prop
  | .ok => 0 ≤ r ∧ r ≤ 3
  | .hi => 3 < r
  | .lo => r < 0
theorem rc_of (r : Int) : ∃ rc, rcIs r rc := by
  by_cases h0 : 0 ≤ r
  · by_cases h3 : r ≤ 3
    · exact ⟨.ok, h0, h3⟩
    · exact ⟨.hi, by show 3 < r; omega⟩
  · exact ⟨.lo, by show r < 0; omega⟩
theorem isB_true {p : Prop} [Decidable p] (h : p) : isB (decide p) true := by unfold isB; rw [decide_eq_true h]
theorem isB_false {p : Prop} [Decidable p] (h : ¬ p) : isB (decide p) false := by unfold isB; rw [decide_eq_false h]
theorem az20_ok {r : Int} : ∀ {rc : RC}, rcIs r rc → ∀ a ∈ az20 r rc, a
  | .ok, h, a, ha => by
    simp only [az20, List.mem_cons, List.not_mem_nil, or_false] at ha
    rcases ha with rfl | rfl
    · exact isB_true h.1
    · exact isB_true h.2
  | .hi, h, a, ha => by
    have h : 3 < r := h
    simp only [az20, List.mem_cons, List.not_mem_nil, or_false] at ha
    rcases ha with rfl | rfl
    · exact isB_true (by omega)
    · exact isB_false (by omega)
  | .lo, h, a, ha => by
    have h : r < 0 := h
    simp only [az20, List.mem_cons, List.not_mem_nil, or_false] at ha
    subst ha
    exact isB_false (by omega)

def fa20 (lK : Nat) (ks : List Int) (lC : Nat) (cs : List Int) : List Prop := [lK ≤ ks.length, lK ≤ 1000, lC ≤ cs.length, lC ≤ 1000]
def okB : RC → Bool
  | .ok => true
  | _ => false
def G20 (k : Nat) (rc : RC) (r d v : Int) (lK : Nat) (ks : List Int) (lC : Nat) (cs : List Int) : List (List (Bool × Bool) × List Prop × Option V) := match k with
  | 5 => chP [] (az20 r rc) [([lC ≤ cs.length, lC ≤ 1000], curveB lC cs)] (fa20 lK ks lC cs) (plainB false false true false r d v lK lC)
  | 6 => chP [] (az20 r rc) [] (fa20 lK ks lC cs) (plainB false false false false r d v lK lC)
  | 7 => chP [] (az20 r rc) [([], decide (v ≥ 0)), ([], decide (v ≤ 256))] (fa20 lK ks lC cs) (plainB false true false false r d v lK lC)
  | 8 => chP [] (az20 r rc) [([], decide (r ≥ -3)), ([], decide (r ≤ 3)), ([], decide (v ≥ -3)), ([], decide (v ≤ 3))] (fa20 lK ks lC cs) (plainB false true false true r d v lK lC)
  | _ => match rc with
    | .ok => [([], az20 r .ok ++ fa20 lK ks lC cs, some (.bool (plainB false false false true r d v lK lC)))]
    | rc => [([], az20 r rc, some (.bool false))]
abbrev S20 : List (Nat × Fix) := [(80, .split), (93, .split), (97, .split), (107, .split), (111, .split), (116, .split), (121, .split)]
abbrev H20o : List (Nat × Fix) := [(16, .give (.bool false)), (68, .give (.bool false)), (69, .give (.bool false)), (70, .give (.bool false)), (77, .give (.bool false)), (86, .give (.bool false)), (90, .give (.bool false)), (104, .give (.bool false))]
noncomputable abbrev M20 (H : List (Nat × Fix)) (k r d v : Int) (lK : Nat) (ks : List Int) (lC : Nat) (cs : List Int) (nK nC : Bool) (cK zK cC zC : Nat) := codeM Try.prog S9 cf0 H 1000 (bodyOf Try.f20) (startSt [FV k r (sK nK lK cK zK) d v (sC nC lC cC zC)] (hF nK nC ks cs) 2)
theorem ok20_2 (rc : RC) (r d v : Int) (lK : Nat) (ks : List Int) (lC : Nat) (cs : List Int) (nK nC : Bool) (cK zK cC zC : Nat) : (M20 (Hr rc ++ S20) 2 r d v lK ks lC cs nK nC cK zK cC zC).isSome = true := by cases rc <;> cases nK <;> cases nC <;> kernel_rfl
theorem sm20_2 (rc : RC) (r d v : Int) (lK : Nat) (ks : List Int) (lC : Nat) (cs : List Int) (nK nC : Bool) (cK zK cC zC : Nat) : samesL (orNil (M20 (Hr rc ++ S20) 2 r d v lK ks lC cs nK nC cK zK cC zC)) = samesR (orNil (M20 (Hr rc ++ S20) 2 r d v lK ks lC cs nK nC cK zK cC zC)) := by cases rc <;> cases nK <;> cases nC <;> kernel_rfl
theorem hr20_2 (rc : RC) (r d v : Int) (lK : Nat) (ks : List Int) (lC : Nat) (cs : List Int) (nK nC : Bool) (cK zK cC zC : Nat) : tells (retOf Try.prog (cfS S9) 1000 Try.f20) (orNil (M20 (Hr rc ++ S20) 2 r d v lK ks lC cs nK nC cK zK cC zC)) = G20 2 rc r d v (ln nK lK) (rw' nK ks) (ln nC lC) (rw' nC cs) := by cases rc <;> cases nK <;> cases nC <;> kernel_rfl
theorem ok20_3 (rc : RC) (r d v : Int) (lK : Nat) (ks : List Int) (lC : Nat) (cs : List Int) (nK nC : Bool) (cK zK cC zC : Nat) : (M20 (Hr rc ++ S20) 3 r d v lK ks lC cs nK nC cK zK cC zC).isSome = true := by cases rc <;> cases nK <;> cases nC <;> kernel_rfl
theorem sm20_3 (rc : RC) (r d v : Int) (lK : Nat) (ks : List Int) (lC : Nat) (cs : List Int) (nK nC : Bool) (cK zK cC zC : Nat) : samesL (orNil (M20 (Hr rc ++ S20) 3 r d v lK ks lC cs nK nC cK zK cC zC)) = samesR (orNil (M20 (Hr rc ++ S20) 3 r d v lK ks lC cs nK nC cK zK cC zC)) := by cases rc <;> cases nK <;> cases nC <;> kernel_rfl
theorem hr20_3 (rc : RC) (r d v : Int) (lK : Nat) (ks : List Int) (lC : Nat) (cs : List Int) (nK nC : Bool) (cK zK cC zC : Nat) : tells (retOf Try.prog (cfS S9) 1000 Try.f20) (orNil (M20 (Hr rc ++ S20) 3 r d v lK ks lC cs nK nC cK zK cC zC)) = G20 3 rc r d v (ln nK lK) (rw' nK ks) (ln nC lC) (rw' nC cs) := by cases rc <;> cases nK <;> cases nC <;> kernel_rfl
theorem ok20_4 (rc : RC) (r d v : Int) (lK : Nat) (ks : List Int) (lC : Nat) (cs : List Int) (nK nC : Bool) (cK zK cC zC : Nat) : (M20 (Hr rc ++ S20) 4 r d v lK ks lC cs nK nC cK zK cC zC).isSome = true := by cases rc <;> cases nK <;> cases nC <;> kernel_rfl
theorem sm20_4 (rc : RC) (r d v : Int) (lK : Nat) (ks : List Int) (lC : Nat) (cs : List Int) (nK nC : Bool) (cK zK cC zC : Nat) : samesL (orNil (M20 (Hr rc ++ S20) 4 r d v lK ks lC cs nK nC cK zK cC zC)) = samesR (orNil (M20 (Hr rc ++ S20) 4 r d v lK ks lC cs nK nC cK zK cC zC)) := by cases rc <;> cases nK <;> cases nC <;> kernel_rfl
theorem hr20_4 (rc : RC) (r d v : Int) (lK : Nat) (ks : List Int) (lC : Nat) (cs : List Int) (nK nC : Bool) (cK zK cC zC : Nat) : tells (retOf Try.prog (cfS S9) 1000 Try.f20) (orNil (M20 (Hr rc ++ S20) 4 r d v lK ks lC cs nK nC cK zK cC zC)) = G20 4 rc r d v (ln nK lK) (rw' nK ks) (ln nC lC) (rw' nC cs) := by cases rc <;> cases nK <;> cases nC <;> kernel_rfl
theorem ok20_5 (rc : RC) (r d v : Int) (lK : Nat) (ks : List Int) (lC : Nat) (cs : List Int) (nK nC : Bool) (cK zK cC zC : Nat) : (M20 (Hr rc ++ S20) 5 r d v lK ks lC cs nK nC cK zK cC zC).isSome = true := by cases rc <;> cases nK <;> cases nC <;> kernel_rfl
theorem sm20_5 (rc : RC) (r d v : Int) (lK : Nat) (ks : List Int) (lC : Nat) (cs : List Int) (nK nC : Bool) (cK zK cC zC : Nat) : samesL (orNil (M20 (Hr rc ++ S20) 5 r d v lK ks lC cs nK nC cK zK cC zC)) = samesR (orNil (M20 (Hr rc ++ S20) 5 r d v lK ks lC cs nK nC cK zK cC zC)) := by cases rc <;> cases nK <;> cases nC <;> kernel_rfl
theorem hr20_5 (rc : RC) (r d v : Int) (lK : Nat) (ks : List Int) (lC : Nat) (cs : List Int) (nK nC : Bool) (cK zK cC zC : Nat) : tells (retOf Try.prog (cfS S9) 1000 Try.f20) (orNil (M20 (Hr rc ++ S20) 5 r d v lK ks lC cs nK nC cK zK cC zC)) = G20 5 rc r d v (ln nK lK) (rw' nK ks) (ln nC lC) (rw' nC cs) := by cases rc <;> cases nK <;> cases nC <;> kernel_rfl
theorem ok20_6 (rc : RC) (r d v : Int) (lK : Nat) (ks : List Int) (lC : Nat) (cs : List Int) (nK nC : Bool) (cK zK cC zC : Nat) : (M20 (Hr rc ++ S20) 6 r d v lK ks lC cs nK nC cK zK cC zC).isSome = true := by cases rc <;> cases nK <;> cases nC <;> kernel_rfl
theorem sm20_6 (rc : RC) (r d v : Int) (lK : Nat) (ks : List Int) (lC : Nat) (cs : List Int) (nK nC : Bool) (cK zK cC zC : Nat) : samesL (orNil (M20 (Hr rc ++ S20) 6 r d v lK ks lC cs nK nC cK zK cC zC)) = samesR (orNil (M20 (Hr rc ++ S20) 6 r d v lK ks lC cs nK nC cK zK cC zC)) := by cases rc <;> cases nK <;> cases nC <;> kernel_rfl
theorem hr20_6 (rc : RC) (r d v : Int) (lK : Nat) (ks : List Int) (lC : Nat) (cs : List Int) (nK nC : Bool) (cK zK cC zC : Nat) : tells (retOf Try.prog (cfS S9) 1000 Try.f20) (orNil (M20 (Hr rc ++ S20) 6 r d v lK ks lC cs nK nC cK zK cC zC)) = G20 6 rc r d v (ln nK lK) (rw' nK ks) (ln nC lC) (rw' nC cs) := by cases rc <;> cases nK <;> cases nC <;> kernel_rfl
theorem ok20_7 (rc : RC) (r d v : Int) (lK : Nat) (ks : List Int) (lC : Nat) (cs : List Int) (nK nC : Bool) (cK zK cC zC : Nat) : (M20 (Hr rc ++ S20) 7 r d v lK ks lC cs nK nC cK zK cC zC).isSome = true := by cases rc <;> cases nK <;> cases nC <;> kernel_rfl
theorem sm20_7 (rc : RC) (r d v : Int) (lK : Nat) (ks : List Int) (lC : Nat) (cs : List Int) (nK nC : Bool) (cK zK cC zC : Nat) : samesL (orNil (M20 (Hr rc ++ S20) 7 r d v lK ks lC cs nK nC cK zK cC zC)) = samesR (orNil (M20 (Hr rc ++ S20) 7 r d v lK ks lC cs nK nC cK zK cC zC)) := by cases rc <;> cases nK <;> cases nC <;> kernel_rfl
theorem hr20_7 (rc : RC) (r d v : Int) (lK : Nat) (ks : List Int) (lC : Nat) (cs : List Int) (nK nC : Bool) (cK zK cC zC : Nat) : tells (retOf Try.prog (cfS S9) 1000 Try.f20) (orNil (M20 (Hr rc ++ S20) 7 r d v lK ks lC cs nK nC cK zK cC zC)) = G20 7 rc r d v (ln nK lK) (rw' nK ks) (ln nC lC) (rw' nC cs) := by cases rc <;> cases nK <;> cases nC <;> kernel_rfl
theorem ok20_8 (rc : RC) (r d v : Int) (lK : Nat) (ks : List Int) (lC : Nat) (cs : List Int) (nK nC : Bool) (cK zK cC zC : Nat) : (M20 (Hr rc ++ S20) 8 r d v lK ks lC cs nK nC cK zK cC zC).isSome = true := by cases rc <;> cases nK <;> cases nC <;> kernel_rfl
theorem sm20_8 (rc : RC) (r d v : Int) (lK : Nat) (ks : List Int) (lC : Nat) (cs : List Int) (nK nC : Bool) (cK zK cC zC : Nat) : samesL (orNil (M20 (Hr rc ++ S20) 8 r d v lK ks lC cs nK nC cK zK cC zC)) = samesR (orNil (M20 (Hr rc ++ S20) 8 r d v lK ks lC cs nK nC cK zK cC zC)) := by cases rc <;> cases nK <;> cases nC <;> kernel_rfl
theorem hr20_8 (rc : RC) (r d v : Int) (lK : Nat) (ks : List Int) (lC : Nat) (cs : List Int) (nK nC : Bool) (cK zK cC zC : Nat) : tells (retOf Try.prog (cfS S9) 1000 Try.f20) (orNil (M20 (Hr rc ++ S20) 8 r d v lK ks lC cs nK nC cK zK cC zC)) = G20 8 rc r d v (ln nK lK) (rw' nK ks) (ln nC lC) (rw' nC cs) := by cases rc <;> cases nK <;> cases nC <;> kernel_rfl
theorem ok20_o (rc : RC) (k : Int) (r d v : Int) (lK : Nat) (ks : List Int) (lC : Nat) (cs : List Int) (nK nC : Bool) (cK zK cC zC : Nat) : (M20 (Hr rc ++ H20o) k r d v lK ks lC cs nK nC cK zK cC zC).isSome = true := by cases rc <;> cases nK <;> cases nC <;> kernel_rfl
theorem sm20_o (rc : RC) (k : Int) (r d v : Int) (lK : Nat) (ks : List Int) (lC : Nat) (cs : List Int) (nK nC : Bool) (cK zK cC zC : Nat) : samesL (orNil (M20 (Hr rc ++ H20o) k r d v lK ks lC cs nK nC cK zK cC zC)) = samesR (orNil (M20 (Hr rc ++ H20o) k r d v lK ks lC cs nK nC cK zK cC zC)) := by cases rc <;> cases nK <;> cases nC <;> kernel_rfl
theorem hr20_o (rc : RC) (k : Int) (r d v : Int) (lK : Nat) (ks : List Int) (lC : Nat) (cs : List Int) (nK nC : Bool) (cK zK cC zC : Nat) : tells (retOf Try.prog (cfS S9) 1000 Try.f20) (orNil (M20 (Hr rc ++ H20o) k r d v lK ks lC cs nK nC cK zK cC zC)) = [([], az20 r rc ++ [notK k 1, notK k 2, notK k 3, notK k 4, notK k 5, notK k 6, notK k 7, notK k 8], some (.bool false))] := by cases rc <;> cases nK <;> cases nC <;> kernel_rfl
theorem ok20_1a (r d v : Int) (lK : Nat) (ks : List Int) (lC : Nat) (cs : List Int) (nK nC : Bool) (cK zK cC zC : Nat) : (M20 (Hr .ok ++ [(32, .give (.bool true))]) 1 r d v lK ks lC cs nK nC cK zK cC zC).isSome = true := by cases nK <;> cases nC <;> kernel_rfl
theorem sm20_1a (r d v : Int) (lK : Nat) (ks : List Int) (lC : Nat) (cs : List Int) (nK nC : Bool) (cK zK cC zC : Nat) : samesL (orNil (M20 (Hr .ok ++ [(32, .give (.bool true))]) 1 r d v lK ks lC cs nK nC cK zK cC zC)) = samesR (orNil (M20 (Hr .ok ++ [(32, .give (.bool true))]) 1 r d v lK ks lC cs nK nC cK zK cC zC)) := by cases nK <;> cases nC <;> kernel_rfl
theorem hr20_1a (r d v : Int) (lK : Nat) (ks : List Int) (lC : Nat) (cs : List Int) (nK nC : Bool) (cK zK cC zC : Nat) : tells (retOf Try.prog (cfS S9) 1000 Try.f20) (orNil (M20 (Hr .ok ++ [(32, .give (.bool true))]) 1 r d v lK ks lC cs nK nC cK zK cC zC)) = [([], az20 r .ok ++ [isB (!decide (Int.ofNat (ln nK lK) = w64 (side r * side r))) true], some (.bool false))] := by cases nK <;> cases nC <;> kernel_rfl
theorem ok20_1b (r d v : Int) (lK : Nat) (ks : List Int) (lC : Nat) (cs : List Int) (nK nC : Bool) (cK zK cC zC : Nat) : (M20 (Hr .ok ++ [(32, .give (.bool false)), (37, .give (.bool true))]) 1 r d v lK ks lC cs nK nC cK zK cC zC).isSome = true := by cases nK <;> cases nC <;> kernel_rfl
theorem sm20_1b (r d v : Int) (lK : Nat) (ks : List Int) (lC : Nat) (cs : List Int) (nK nC : Bool) (cK zK cC zC : Nat) : samesL (orNil (M20 (Hr .ok ++ [(32, .give (.bool false)), (37, .give (.bool true))]) 1 r d v lK ks lC cs nK nC cK zK cC zC)) = samesR (orNil (M20 (Hr .ok ++ [(32, .give (.bool false)), (37, .give (.bool true))]) 1 r d v lK ks lC cs nK nC cK zK cC zC)) := by cases nK <;> cases nC <;> kernel_rfl
theorem hr20_1b (r d v : Int) (lK : Nat) (ks : List Int) (lC : Nat) (cs : List Int) (nK nC : Bool) (cK zK cC zC : Nat) : tells (retOf Try.prog (cfS S9) 1000 Try.f20) (orNil (M20 (Hr .ok ++ [(32, .give (.bool false)), (37, .give (.bool true))]) 1 r d v lK ks lC cs nK nC cK zK cC zC)) = [([], az20 r .ok ++ [isB (!decide (Int.ofNat (ln nK lK) = w64 (side r * side r))) false, isB (decide (d < 1)) true], some (.bool false))] := by cases nK <;> cases nC <;> kernel_rfl
theorem ok20_1c (r d v : Int) (lK : Nat) (ks : List Int) (lC : Nat) (cs : List Int) (nK nC : Bool) (cK zK cC zC : Nat) : (M20 (Hr .ok ++ [(32, .give (.bool false)), (37, .give (.bool false)), (42, .give (.bool true))]) 1 r d v lK ks lC cs nK nC cK zK cC zC).isSome = true := by cases nK <;> cases nC <;> kernel_rfl
theorem sm20_1c (r d v : Int) (lK : Nat) (ks : List Int) (lC : Nat) (cs : List Int) (nK nC : Bool) (cK zK cC zC : Nat) : samesL (orNil (M20 (Hr .ok ++ [(32, .give (.bool false)), (37, .give (.bool false)), (42, .give (.bool true))]) 1 r d v lK ks lC cs nK nC cK zK cC zC)) = samesR (orNil (M20 (Hr .ok ++ [(32, .give (.bool false)), (37, .give (.bool false)), (42, .give (.bool true))]) 1 r d v lK ks lC cs nK nC cK zK cC zC)) := by cases nK <;> cases nC <;> kernel_rfl
theorem hr20_1c (r d v : Int) (lK : Nat) (ks : List Int) (lC : Nat) (cs : List Int) (nK nC : Bool) (cK zK cC zC : Nat) : tells (retOf Try.prog (cfS S9) 1000 Try.f20) (orNil (M20 (Hr .ok ++ [(32, .give (.bool false)), (37, .give (.bool false)), (42, .give (.bool true))]) 1 r d v lK ks lC cs nK nC cK zK cC zC)) = [([], az20 r .ok ++ [isB (!decide (Int.ofNat (ln nK lK) = w64 (side r * side r))) false, isB (decide (d < 1)) false, isB (decide (d > 1048576)) true], some (.bool false))] := by cases nK <;> cases nC <;> kernel_rfl
theorem ok20_1hi (r d v : Int) (lK : Nat) (ks : List Int) (lC : Nat) (cs : List Int) (nK nC : Bool) (cK zK cC zC : Nat) : (M20 (Hr .hi) 1 r d v lK ks lC cs nK nC cK zK cC zC).isSome = true := by cases nK <;> cases nC <;> kernel_rfl
theorem sm20_1hi (r d v : Int) (lK : Nat) (ks : List Int) (lC : Nat) (cs : List Int) (nK nC : Bool) (cK zK cC zC : Nat) : samesL (orNil (M20 (Hr .hi) 1 r d v lK ks lC cs nK nC cK zK cC zC)) = samesR (orNil (M20 (Hr .hi) 1 r d v lK ks lC cs nK nC cK zK cC zC)) := by cases nK <;> cases nC <;> kernel_rfl
theorem hr20_1hi (r d v : Int) (lK : Nat) (ks : List Int) (lC : Nat) (cs : List Int) (nK nC : Bool) (cK zK cC zC : Nat) : tells (retOf Try.prog (cfS S9) 1000 Try.f20) (orNil (M20 (Hr .hi) 1 r d v lK ks lC cs nK nC cK zK cC zC)) = [([], az20 r .hi, some (.bool false))] := by cases nK <;> cases nC <;> kernel_rfl
theorem ok20_1lo (r d v : Int) (lK : Nat) (ks : List Int) (lC : Nat) (cs : List Int) (nK nC : Bool) (cK zK cC zC : Nat) : (M20 (Hr .lo) 1 r d v lK ks lC cs nK nC cK zK cC zC).isSome = true := by cases nK <;> cases nC <;> kernel_rfl
theorem sm20_1lo (r d v : Int) (lK : Nat) (ks : List Int) (lC : Nat) (cs : List Int) (nK nC : Bool) (cK zK cC zC : Nat) : samesL (orNil (M20 (Hr .lo) 1 r d v lK ks lC cs nK nC cK zK cC zC)) = samesR (orNil (M20 (Hr .lo) 1 r d v lK ks lC cs nK nC cK zK cC zC)) := by cases nK <;> cases nC <;> kernel_rfl
theorem hr20_1lo (r d v : Int) (lK : Nat) (ks : List Int) (lC : Nat) (cs : List Int) (nK nC : Bool) (cK zK cC zC : Nat) : tells (retOf Try.prog (cfS S9) 1000 Try.f20) (orNil (M20 (Hr .lo) 1 r d v lK ks lC cs nK nC cK zK cC zC)) = [([], az20 r .lo, some (.bool false))] := by cases nK <;> cases nC <;> kernel_rfl
end Go.Proofs.Ytpkpcnohnlhjlaa
