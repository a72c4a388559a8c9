/- Filter laws, part G: filter.Valid. No conditions. -/
import Derived.Test.YtpkpcnohnlhjlaaEngFilF
namespace Go.Proofs.Ytpkpcnohnlhjlaa
open Go Go.Eng

def side (r : Int) : Int := w64 (w64 (2 * r) + 1)
abbrev nat0 (l : Nat) : Bool := decide (Int.ofNat l = 0)
def chV (k : Nat) (r d v : Int) (lK : Nat) (ks : List Int) (lC : Nat) (cs : List Int) : List (List Prop × Bool) := match k with
  | 1 => [([], within r 0 3), ([], decide (Int.ofNat lK = w64 (side r * side r))), ([], within d 1 1048576), ([lK ≤ ks.length, lK ≤ 1000], !(badB lK ks)), ([], decide (r = r)), ([], decide (d = d)), ([], decide (v = 0)), ([], decide (Int.ofNat lK = Int.ofNat lK)), ([], nat0 lC)]
  | 2 => [([], within r 0 3), ([], decide (r = r)), ([], decide (d = 0)), ([], decide (v = 0)), ([], nat0 lK), ([], nat0 lC)]
  | 3 => [([], within r 0 3), ([], decide (r = r)), ([], decide (d = 0)), ([], decide (v = 0)), ([], nat0 lK), ([], nat0 lC)]
  | 4 => [([], within r 0 3), ([], decide (r = r)), ([], decide (d = 0)), ([], decide (v = 0)), ([], nat0 lK), ([], nat0 lC)]
  | 5 => [([lC ≤ cs.length, lC ≤ 1000], curveB lC cs), ([], decide (r = 0)), ([], decide (d = 0)), ([], decide (v = 0)), ([], nat0 lK), ([], decide (Int.ofNat lC = Int.ofNat lC))]
  | 6 => [([], decide (r = 0)), ([], decide (d = 0)), ([], decide (v = 0)), ([], nat0 lK), ([], nat0 lC)]
  | 7 => [([], within v 0 256), ([], decide (r = 0)), ([], decide (d = 0)), ([], decide (v = v)), ([], nat0 lK), ([], nat0 lC)]
  | 8 => [([], within r (-3) 3), ([], within v (-3) 3), ([], decide (r = r)), ([], decide (d = 0)), ([], decide (v = v)), ([], nat0 lK), ([], nat0 lC)]
  | _ => []

def validB (k r d v : Int) (lK : Nat) (ks : List Int) (lC : Nat) (cs : List Int) : Bool :=
  if k = 1 then chB (chV 1 r d v lK ks lC cs) else if k = 2 then chB (chV 2 r d v lK ks lC cs) else if k = 3 then chB (chV 3 r d v lK ks lC cs) else if k = 4 then chB (chV 4 r d v lK ks lC cs)
  else if k = 5 then chB (chV 5 r d v lK ks lC cs) else if k = 6 then chB (chV 6 r d v lK ks lC cs) else if k = 7 then chB (chV 7 r d v lK ks lC cs) else if k = 8 then chB (chV 8 r d v lK ks lC cs) else false

def R21 : RF := fun k r d v lK ks lC cs X => match X with
  | [] => some (.bool (validB k r d v lK ks lC cs))
  | _ => none
abbrev H21 : List (Nat × Fix) := [(29, .split), (37, .split), (42, .split), (49, .split), (60, .split), (68, .split), (78, .split), (89, .split), (93, .split), (101, .split), (108, .split), (115, .split), (124, .split), (133, .split)]
abbrev H21o : List (Nat × Fix) := [(13, .give (.bool false)), (52, .give (.bool false)), (53, .give (.bool false)), (54, .give (.bool false)), (62, .give (.bool false)), (70, .give (.bool false)), (72, .give (.bool false)), (80, .give (.bool false))]
noncomputable abbrev M21 (H : List (Nat × Fix)) (k r d v : Int) (lK : Nat) (ks : List Int) (lC : Nat) (cs : List Int) (nK nC : Bool) (cK zK cC zC : Nat) := codeM Try.prog S9 cf0 H 1000 (bodyOf Try.f21) (startSt [FV k r (sK nK lK cK zK) d v (sC nC lC cC zC)] (hF nK nC ks cs) 2)

theorem ok21_1 (r d v : Int) (lK : Nat) (ks : List Int) (lC : Nat) (cs : List Int) (nK nC : Bool) (cK zK cC zC : Nat) : (M21 H21 1 r d v lK ks lC cs nK nC cK zK cC zC).isSome = true := by cases nK <;> cases nC <;> kernel_rfl
theorem sm21_1 (r d v : Int) (lK : Nat) (ks : List Int) (lC : Nat) (cs : List Int) (nK nC : Bool) (cK zK cC zC : Nat) : samesL (orNil (M21 H21 1 r d v lK ks lC cs nK nC cK zK cC zC)) = samesR (orNil (M21 H21 1 r d v lK ks lC cs nK nC cK zK cC zC)) := by cases nK <;> cases nC <;> kernel_rfl
theorem hr21_1 (r d v : Int) (lK : Nat) (ks : List Int) (lC : Nat) (cs : List Int) (nK nC : Bool) (cK zK cC zC : Nat) : tells (retOf Try.prog (cfS S9) 1000 Try.f21) (orNil (M21 H21 1 r d v lK ks lC cs nK nC cK zK cC zC)) = chG [] [] (chV 1 r d v (ln nK lK) (rw' nK ks) (ln nC lC) (rw' nC cs)) := by cases nK <;> cases nC <;> kernel_rfl
theorem ok21_2 (r d v : Int) (lK : Nat) (ks : List Int) (lC : Nat) (cs : List Int) (nK nC : Bool) (cK zK cC zC : Nat) : (M21 H21 2 r d v lK ks lC cs nK nC cK zK cC zC).isSome = true := by cases nK <;> cases nC <;> kernel_rfl
theorem sm21_2 (r d v : Int) (lK : Nat) (ks : List Int) (lC : Nat) (cs : List Int) (nK nC : Bool) (cK zK cC zC : Nat) : samesL (orNil (M21 H21 2 r d v lK ks lC cs nK nC cK zK cC zC)) = samesR (orNil (M21 H21 2 r d v lK ks lC cs nK nC cK zK cC zC)) := by cases nK <;> cases nC <;> kernel_rfl
theorem hr21_2 (r d v : Int) (lK : Nat) (ks : List Int) (lC : Nat) (cs : List Int) (nK nC : Bool) (cK zK cC zC : Nat) : tells (retOf Try.prog (cfS S9) 1000 Try.f21) (orNil (M21 H21 2 r d v lK ks lC cs nK nC cK zK cC zC)) = chG [] [] (chV 2 r d v (ln nK lK) (rw' nK ks) (ln nC lC) (rw' nC cs)) := by cases nK <;> cases nC <;> kernel_rfl
theorem ok21_3 (r d v : Int) (lK : Nat) (ks : List Int) (lC : Nat) (cs : List Int) (nK nC : Bool) (cK zK cC zC : Nat) : (M21 H21 3 r d v lK ks lC cs nK nC cK zK cC zC).isSome = true := by cases nK <;> cases nC <;> kernel_rfl
theorem sm21_3 (r d v : Int) (lK : Nat) (ks : List Int) (lC : Nat) (cs : List Int) (nK nC : Bool) (cK zK cC zC : Nat) : samesL (orNil (M21 H21 3 r d v lK ks lC cs nK nC cK zK cC zC)) = samesR (orNil (M21 H21 3 r d v lK ks lC cs nK nC cK zK cC zC)) := by cases nK <;> cases nC <;> kernel_rfl
theorem hr21_3 (r d v : Int) (lK : Nat) (ks : List Int) (lC : Nat) (cs : List Int) (nK nC : Bool) (cK zK cC zC : Nat) : tells (retOf Try.prog (cfS S9) 1000 Try.f21) (orNil (M21 H21 3 r d v lK ks lC cs nK nC cK zK cC zC)) = chG [] [] (chV 3 r d v (ln nK lK) (rw' nK ks) (ln nC lC) (rw' nC cs)) := by cases nK <;> cases nC <;> kernel_rfl
theorem ok21_4 (r d v : Int) (lK : Nat) (ks : List Int) (lC : Nat) (cs : List Int) (nK nC : Bool) (cK zK cC zC : Nat) : (M21 H21 4 r d v lK ks lC cs nK nC cK zK cC zC).isSome = true := by cases nK <;> cases nC <;> kernel_rfl
theorem sm21_4 (r d v : Int) (lK : Nat) (ks : List Int) (lC : Nat) (cs : List Int) (nK nC : Bool) (cK zK cC zC : Nat) : samesL (orNil (M21 H21 4 r d v lK ks lC cs nK nC cK zK cC zC)) = samesR (orNil (M21 H21 4 r d v lK ks lC cs nK nC cK zK cC zC)) := by cases nK <;> cases nC <;> kernel_rfl
theorem hr21_4 (r d v : Int) (lK : Nat) (ks : List Int) (lC : Nat) (cs : List Int) (nK nC : Bool) (cK zK cC zC : Nat) : tells (retOf Try.prog (cfS S9) 1000 Try.f21) (orNil (M21 H21 4 r d v lK ks lC cs nK nC cK zK cC zC)) = chG [] [] (chV 4 r d v (ln nK lK) (rw' nK ks) (ln nC lC) (rw' nC cs)) := by cases nK <;> cases nC <;> kernel_rfl
theorem ok21_5 (r d v : Int) (lK : Nat) (ks : List Int) (lC : Nat) (cs : List Int) (nK nC : Bool) (cK zK cC zC : Nat) : (M21 H21 5 r d v lK ks lC cs nK nC cK zK cC zC).isSome = true := by cases nK <;> cases nC <;> kernel_rfl
theorem sm21_5 (r d v : Int) (lK : Nat) (ks : List Int) (lC : Nat) (cs : List Int) (nK nC : Bool) (cK zK cC zC : Nat) : samesL (orNil (M21 H21 5 r d v lK ks lC cs nK nC cK zK cC zC)) = samesR (orNil (M21 H21 5 r d v lK ks lC cs nK nC cK zK cC zC)) := by cases nK <;> cases nC <;> kernel_rfl
theorem hr21_5 (r d v : Int) (lK : Nat) (ks : List Int) (lC : Nat) (cs : List Int) (nK nC : Bool) (cK zK cC zC : Nat) : tells (retOf Try.prog (cfS S9) 1000 Try.f21) (orNil (M21 H21 5 r d v lK ks lC cs nK nC cK zK cC zC)) = chG [] [] (chV 5 r d v (ln nK lK) (rw' nK ks) (ln nC lC) (rw' nC cs)) := by cases nK <;> cases nC <;> kernel_rfl
theorem ok21_6 (r d v : Int) (lK : Nat) (ks : List Int) (lC : Nat) (cs : List Int) (nK nC : Bool) (cK zK cC zC : Nat) : (M21 H21 6 r d v lK ks lC cs nK nC cK zK cC zC).isSome = true := by cases nK <;> cases nC <;> kernel_rfl
theorem sm21_6 (r d v : Int) (lK : Nat) (ks : List Int) (lC : Nat) (cs : List Int) (nK nC : Bool) (cK zK cC zC : Nat) : samesL (orNil (M21 H21 6 r d v lK ks lC cs nK nC cK zK cC zC)) = samesR (orNil (M21 H21 6 r d v lK ks lC cs nK nC cK zK cC zC)) := by cases nK <;> cases nC <;> kernel_rfl
theorem hr21_6 (r d v : Int) (lK : Nat) (ks : List Int) (lC : Nat) (cs : List Int) (nK nC : Bool) (cK zK cC zC : Nat) : tells (retOf Try.prog (cfS S9) 1000 Try.f21) (orNil (M21 H21 6 r d v lK ks lC cs nK nC cK zK cC zC)) = chG [] [] (chV 6 r d v (ln nK lK) (rw' nK ks) (ln nC lC) (rw' nC cs)) := by cases nK <;> cases nC <;> kernel_rfl
theorem ok21_7 (r d v : Int) (lK : Nat) (ks : List Int) (lC : Nat) (cs : List Int) (nK nC : Bool) (cK zK cC zC : Nat) : (M21 H21 7 r d v lK ks lC cs nK nC cK zK cC zC).isSome = true := by cases nK <;> cases nC <;> kernel_rfl
theorem sm21_7 (r d v : Int) (lK : Nat) (ks : List Int) (lC : Nat) (cs : List Int) (nK nC : Bool) (cK zK cC zC : Nat) : samesL (orNil (M21 H21 7 r d v lK ks lC cs nK nC cK zK cC zC)) = samesR (orNil (M21 H21 7 r d v lK ks lC cs nK nC cK zK cC zC)) := by cases nK <;> cases nC <;> kernel_rfl
theorem hr21_7 (r d v : Int) (lK : Nat) (ks : List Int) (lC : Nat) (cs : List Int) (nK nC : Bool) (cK zK cC zC : Nat) : tells (retOf Try.prog (cfS S9) 1000 Try.f21) (orNil (M21 H21 7 r d v lK ks lC cs nK nC cK zK cC zC)) = chG [] [] (chV 7 r d v (ln nK lK) (rw' nK ks) (ln nC lC) (rw' nC cs)) := by cases nK <;> cases nC <;> kernel_rfl
theorem ok21_8 (r d v : Int) (lK : Nat) (ks : List Int) (lC : Nat) (cs : List Int) (nK nC : Bool) (cK zK cC zC : Nat) : (M21 H21 8 r d v lK ks lC cs nK nC cK zK cC zC).isSome = true := by cases nK <;> cases nC <;> kernel_rfl
theorem sm21_8 (r d v : Int) (lK : Nat) (ks : List Int) (lC : Nat) (cs : List Int) (nK nC : Bool) (cK zK cC zC : Nat) : samesL (orNil (M21 H21 8 r d v lK ks lC cs nK nC cK zK cC zC)) = samesR (orNil (M21 H21 8 r d v lK ks lC cs nK nC cK zK cC zC)) := by cases nK <;> cases nC <;> kernel_rfl
theorem hr21_8 (r d v : Int) (lK : Nat) (ks : List Int) (lC : Nat) (cs : List Int) (nK nC : Bool) (cK zK cC zC : Nat) : tells (retOf Try.prog (cfS S9) 1000 Try.f21) (orNil (M21 H21 8 r d v lK ks lC cs nK nC cK zK cC zC)) = chG [] [] (chV 8 r d v (ln nK lK) (rw' nK ks) (ln nC lC) (rw' nC cs)) := by cases nK <;> cases nC <;> kernel_rfl
theorem ok21_o (k : Int) (r d v : Int) (lK : Nat) (ks : List Int) (lC : Nat) (cs : List Int) (nK nC : Bool) (cK zK cC zC : Nat) : (M21 H21o k r d v lK ks lC cs nK nC cK zK cC zC).isSome = true := by cases nK <;> cases nC <;> kernel_rfl
theorem sm21_o (k : Int) (r d v : Int) (lK : Nat) (ks : List Int) (lC : Nat) (cs : List Int) (nK nC : Bool) (cK zK cC zC : Nat) : samesL (orNil (M21 H21o k r d v lK ks lC cs nK nC cK zK cC zC)) = samesR (orNil (M21 H21o k r d v lK ks lC cs nK nC cK zK cC zC)) := by cases nK <;> cases nC <;> kernel_rfl
def notK (k j : Int) : Prop := V.bool (decide (k = j)) = V.bool false
theorem hr21_o (k : Int) (r d v : Int) (lK : Nat) (ks : List Int) (lC : Nat) (cs : List Int) (nK nC : Bool) (cK zK cC zC : Nat) : tells (retOf Try.prog (cfS S9) 1000 Try.f21) (orNil (M21 H21o k r d v lK ks lC cs nK nC cK zK cC zC)) = [([], [notK k 1, notK k 2, notK k 3, notK k 4, notK k 5, notK k 6, notK k 7, notK k 8], some (.bool false))] := by cases nK <;> cases nC <;> kernel_rfl

theorem chV_ok (k : Nat) (r d v : Int) {lK : Nat} {ks : List Int} {lC : Nat} {cs : List Int} (h1 : lK ≤ ks.length) (h2 : lK ≤ 1000) (h3 : lC ≤ cs.length) (h4 : lC ≤ 1000) : ∀ x ∈ chV k r d v lK ks lC cs, ∀ a ∈ x.1, a := by
  intro x hx a ha
  unfold chV at hx
  split at hx <;> simp only [List.mem_cons, List.not_mem_nil, or_false] at hx
  · rcases hx with rfl | rfl | rfl | rfl | rfl | rfl | rfl | rfl | rfl <;> simp only [List.mem_cons, List.not_mem_nil, or_false] at ha
    rcases ha with rfl | rfl <;> assumption
  · rcases hx with rfl | rfl | rfl | rfl | rfl | rfl <;> simp at ha
  · rcases hx with rfl | rfl | rfl | rfl | rfl | rfl <;> simp at ha
  · rcases hx with rfl | rfl | rfl | rfl | rfl | rfl <;> simp at ha
  · rcases hx with rfl | rfl | rfl | rfl | rfl | rfl <;> simp only [List.mem_cons, List.not_mem_nil, or_false] at ha
    rcases ha with rfl | rfl <;> assumption
  · rcases hx with rfl | rfl | rfl | rfl | rfl <;> simp at ha
  · rcases hx with rfl | rfl | rfl | rfl | rfl | rfl <;> simp at ha
  · rcases hx with rfl | rfl | rfl | rfl | rfl | rfl | rfl <;> simp at ha

theorem validB_o {k : Int} (r d v : Int) (lK : Nat) (ks : List Int) (lC : Nat) (cs : List Int) (h : k < 1 ∨ 8 < k) : validB k r d v lK ks lC cs = false := by
  unfold validB
  rw [if_neg (by omega), if_neg (by omega), if_neg (by omega), if_neg (by omega), if_neg (by omega), if_neg (by omega), if_neg (by omega), if_neg (by omega)]

theorem kinds (k : Int) : k = 1 ∨ k = 2 ∨ k = 3 ∨ k = 4 ∨ k = 5 ∨ k = 6 ∨ k = 7 ∨ k = 8 ∨ (k < 1 ∨ 8 < k) := by omega
theorem notK_of {k j : Int} (h : k ≠ j) : notK k j := by unfold notK; rw [decide_eq_false h]

theorem p21 : PureA Try.prog 21 (specF R21) := by
  refine pureF S9_ok (Nat.le_of_ble_eq_true (by kernel_rfl)) Try.func21 (code := bodyOf Try.f21) (by kernel_rfl) (fun k r d v lK ks lC cs X u e => ?_) (fun k r d v lK ks lC cs X u nK nC cK zK cC zC e h1 h2 h3 h4 w0 => ?_)
  · unfold R21 at e
    split at e
    · simp only [Option.some.injEq] at e; subst e
      exact ⟨rfl, rfl, by kernel_rfl⟩
    · cases e
  · unfold R21 at e
    split at e
    · simp only [Option.some.injEq] at e; subst e
      have hcode : codeOk Try.f21.ntmps (bodyOf Try.f21) = true := by kernel_rfl
      rcases kinds k with rfl | rfl | rfl | rfl | rfl | rfl | rfl | rfl | ho
      · exact T_ret (cS S9_ok) mo H21 1000 Try.f21 _ _ hcode (ok21_1 r d v lK ks lC cs nK nC cK zK cC zC) (sm21_1 r d v lK ks lC cs nK nC cK zK cC zC) (hr21_1 r d v lK ks lC cs nK nC cK zK cC zC) (chG_ok _ [] [] (by simp) (chV_ok 1 r d v h1 h2 h3 h4))
      · exact T_ret (cS S9_ok) mo H21 1000 Try.f21 _ _ hcode (ok21_2 r d v lK ks lC cs nK nC cK zK cC zC) (sm21_2 r d v lK ks lC cs nK nC cK zK cC zC) (hr21_2 r d v lK ks lC cs nK nC cK zK cC zC) (chG_ok _ [] [] (by simp) (chV_ok 2 r d v h1 h2 h3 h4))
      · exact T_ret (cS S9_ok) mo H21 1000 Try.f21 _ _ hcode (ok21_3 r d v lK ks lC cs nK nC cK zK cC zC) (sm21_3 r d v lK ks lC cs nK nC cK zK cC zC) (hr21_3 r d v lK ks lC cs nK nC cK zK cC zC) (chG_ok _ [] [] (by simp) (chV_ok 3 r d v h1 h2 h3 h4))
      · exact T_ret (cS S9_ok) mo H21 1000 Try.f21 _ _ hcode (ok21_4 r d v lK ks lC cs nK nC cK zK cC zC) (sm21_4 r d v lK ks lC cs nK nC cK zK cC zC) (hr21_4 r d v lK ks lC cs nK nC cK zK cC zC) (chG_ok _ [] [] (by simp) (chV_ok 4 r d v h1 h2 h3 h4))
      · exact T_ret (cS S9_ok) mo H21 1000 Try.f21 _ _ hcode (ok21_5 r d v lK ks lC cs nK nC cK zK cC zC) (sm21_5 r d v lK ks lC cs nK nC cK zK cC zC) (hr21_5 r d v lK ks lC cs nK nC cK zK cC zC) (chG_ok _ [] [] (by simp) (chV_ok 5 r d v h1 h2 h3 h4))
      · exact T_ret (cS S9_ok) mo H21 1000 Try.f21 _ _ hcode (ok21_6 r d v lK ks lC cs nK nC cK zK cC zC) (sm21_6 r d v lK ks lC cs nK nC cK zK cC zC) (hr21_6 r d v lK ks lC cs nK nC cK zK cC zC) (chG_ok _ [] [] (by simp) (chV_ok 6 r d v h1 h2 h3 h4))
      · exact T_ret (cS S9_ok) mo H21 1000 Try.f21 _ _ hcode (ok21_7 r d v lK ks lC cs nK nC cK zK cC zC) (sm21_7 r d v lK ks lC cs nK nC cK zK cC zC) (hr21_7 r d v lK ks lC cs nK nC cK zK cC zC) (chG_ok _ [] [] (by simp) (chV_ok 7 r d v h1 h2 h3 h4))
      · exact T_ret (cS S9_ok) mo H21 1000 Try.f21 _ _ hcode (ok21_8 r d v lK ks lC cs nK nC cK zK cC zC) (sm21_8 r d v lK ks lC cs nK nC cK zK cC zC) (hr21_8 r d v lK ks lC cs nK nC cK zK cC zC) (chG_ok _ [] [] (by simp) (chV_ok 8 r d v h1 h2 h3 h4))
      · rw [validB_o r d v _ _ _ _ ho]
        refine T_ret (cS S9_ok) mo H21o 1000 Try.f21 _ _ hcode (ok21_o k r d v lK ks lC cs nK nC cK zK cC zC) (sm21_o k r d v lK ks lC cs nK nC cK zK cC zC) (hr21_o k r d v lK ks lC cs nK nC cK zK cC zC) ?_
        intro g hg _
        rw [List.mem_singleton.1 hg]
        refine ⟨?_, rfl⟩
        simp only [List.mem_cons, List.not_mem_nil, or_false]
        rintro a (rfl | rfl | rfl | rfl | rfl | rfl | rfl | rfl) <;> exact notK_of (by omega)
    · cases e
end Go.Proofs.Ytpkpcnohnlhjlaa
