/- Filter laws, part J: the areas. No conditions. -/
import Derived.Test.YtpkpcnohnlhjlaaEngFilI
namespace Go.Proofs.Ytpkpcnohnlhjlaa
open Go Go.Eng

def areaQ (vb : Bool) (k r v x0 y0 x1 y1 sg : Int) : Q4 :=
  if vb = false ∨ emptyB x0 y0 x1 y1 = true then zeroQ
  else if within k 1 4 = true then growQ x0 y0 x1 y1 r
  else if k = 8 then moveQ x0 y0 x1 y1 (w64 (sg * r)) (w64 (sg * v))
  else (x0, y0, x1, y1)
def R27 : RF := fun k r d v lK ks lC cs X => match X with
  | [.agg [.int .i64 x0, .int .i64 y0, .int .i64 x1, .int .i64 y1], .int .i64 sg] => some (rectV (areaQ (validB k r d v lK ks lC cs) k r v x0 y0 x1 y1 sg))
  | _ => none
def RN (sg : Int) : RF := fun k r d v lK ks lC cs X => match X with
  | [.agg [.int .i64 x0, .int .i64 y0, .int .i64 x1, .int .i64 y1]] => some (rectV (areaQ (validB k r d v lK ks lC cs) k r v x0 y0 x1 y1 sg))
  | _ => none
abbrev rc4 (x0 y0 x1 y1 : Int) : V := .agg [.int .i64 x0, .int .i64 y0, .int .i64 x1, .int .i64 y1]
section
variable (k r d v : Int) (lK : Nat) (ks : List Int) (lC : Nat) (cs : List Int) (x0 y0 x1 y1 sg : Int)
def G27 : List (List (Bool × Bool) × List Prop × Option V) :=
  let vb := validB k r d v lK ks lC cs
  let em := emptyB x0 y0 x1 y1
  let wi := within k 1 4
  let k8 := decide (k = 8)
  let fa := fa20 lK ks lC cs
  [([(vb, true), (em, true)], fa, some (rectV zeroQ)), ([(vb, true), (em, false), (wi, true)], fa, some (rectV (growQ x0 y0 x1 y1 r))),
   ([(vb, true), (em, false), (wi, false), (k8, true)], fa, some (rectV (moveQ x0 y0 x1 y1 (w64 (sg * r)) (w64 (sg * v))))), ([(vb, true), (em, false), (wi, false), (k8, false)], fa, some (rectV (x0, y0, x1, y1))),
   ([(vb, false)], fa, some (rectV zeroQ))]
def G28 : List (List (Bool × Bool) × List Prop × Option V) :=
  let vb := validB k r d v lK ks lC cs
  let em := emptyB x0 y0 x1 y1
  let wi := within k 1 4
  let k8 := decide (k = 8)
  let fa := fa20 lK ks lC cs
  [([(vb, true), (em, true)], fa, some (rectV zeroQ)), ([(vb, true), (em, false), (wi, true)], fa ++ fa, some (rectV (growQ x0 y0 x1 y1 r))),
   ([(vb, true), (em, false), (wi, false), (k8, true)], fa ++ fa, some (rectV (moveQ x0 y0 x1 y1 (w64 (sg * r)) (w64 (sg * v))))), ([(vb, true), (em, false), (wi, false), (k8, false)], fa ++ fa, some (rectV (x0, y0, x1, y1))),
   ([(vb, false), (em, true)], fa, some (rectV zeroQ)), ([(vb, false), (em, false)], fa, some (rectV zeroQ))]
theorem G27_ok (hfa : ∀ a ∈ fa20 lK ks lC cs, a) : ∀ g ∈ G27 k r d v lK ks lC cs x0 y0 x1 y1 sg, (∀ b ∈ g.1, b.1 = b.2) → (∀ a ∈ g.2.1, a) ∧ g.2.2 = some (rectV (areaQ (validB k r d v lK ks lC cs) k r v x0 y0 x1 y1 sg)) := by
  intro g hg hc
  simp only [G27, List.mem_cons, List.not_mem_nil, or_false] at hg
  rcases hg with rfl | rfl | rfl | rfl | rfl <;> refine ⟨hfa, ?_⟩ <;> simp only [List.mem_cons, List.not_mem_nil, or_false, forall_eq_or_imp, forall_eq, decide_eq_true_eq, decide_eq_false_iff_not] at hc <;> simp only [areaQ] <;> first | (simp [hc]; done) | (obtain ⟨q1, q2, q3, rfl⟩ := hc; simp [q1, q2, q3])
theorem G28_ok (hfa : ∀ a ∈ fa20 lK ks lC cs, a) : ∀ g ∈ G28 k r d v lK ks lC cs x0 y0 x1 y1 sg, (∀ b ∈ g.1, b.1 = b.2) → (∀ a ∈ g.2.1, a) ∧ g.2.2 = some (rectV (areaQ (validB k r d v lK ks lC cs) k r v x0 y0 x1 y1 sg)) := by
  intro g hg hc
  have hf2 : ∀ a ∈ fa20 lK ks lC cs ++ fa20 lK ks lC cs, a := fun a ha => (List.mem_append.1 ha).elim (hfa a) (hfa a)
  simp only [G28, List.mem_cons, List.not_mem_nil, or_false] at hg
  rcases hg with rfl | rfl | rfl | rfl | rfl | rfl <;> refine ⟨by first | exact hfa | exact hf2, ?_⟩ <;> simp only [List.mem_cons, List.not_mem_nil, or_false, forall_eq_or_imp, forall_eq, decide_eq_true_eq, decide_eq_false_iff_not] at hc <;> simp only [areaQ] <;> first | (simp [hc]; done) | (obtain ⟨q1, q2, q3, rfl⟩ := hc; simp [q1, q2, q3])
end

noncomputable abbrev M27 (k r d v : Int) (lK : Nat) (ks : List Int) (lC : Nat) (cs : List Int) (nK nC : Bool) (cK zK cC zC : Nat) (x0 y0 x1 y1 sg : Int) := codeM Try.prog S10 cf0 [(9, .split), (13, .split), (19, .split), (27, .split)] 1000 (bodyOf Try.f27) (startSt (FV k r (sK nK lK cK zK) d v (sC nC lC cC zC) :: [rc4 x0 y0 x1 y1, .int .i64 sg]) (hF nK nC ks cs) 2)
theorem ok27 (k r d v : Int) (lK : Nat) (ks : List Int) (lC : Nat) (cs : List Int) (nK nC : Bool) (cK zK cC zC : Nat) (x0 y0 x1 y1 sg : Int) : (M27 k r d v lK ks lC cs nK nC cK zK cC zC x0 y0 x1 y1 sg).isSome = true := by cases nK <;> cases nC <;> kernel_rfl
theorem sm27 (k r d v : Int) (lK : Nat) (ks : List Int) (lC : Nat) (cs : List Int) (nK nC : Bool) (cK zK cC zC : Nat) (x0 y0 x1 y1 sg : Int) : samesL (orNil (M27 k r d v lK ks lC cs nK nC cK zK cC zC x0 y0 x1 y1 sg)) = samesR (orNil (M27 k r d v lK ks lC cs nK nC cK zK cC zC x0 y0 x1 y1 sg)) := by cases nK <;> cases nC <;> kernel_rfl
theorem hr27 (k r d v : Int) (lK : Nat) (ks : List Int) (lC : Nat) (cs : List Int) (nK nC : Bool) (cK zK cC zC : Nat) (x0 y0 x1 y1 sg : Int) : tells (retOf Try.prog (cfS S10) 1000 Try.f27) (orNil (M27 k r d v lK ks lC cs nK nC cK zK cC zC x0 y0 x1 y1 sg)) = G27 k r d v (ln nK lK) (rw' nK ks) (ln nC lC) (rw' nC cs) x0 y0 x1 y1 sg := by cases nK <;> cases nC <;> kernel_rfl
theorem p27 : PureA Try.prog 27 (specF R27) := by
  refine pureF S10_ok (Nat.le_of_ble_eq_true (by kernel_rfl)) Try.func27 (code := bodyOf Try.f27) (by kernel_rfl) (fun k r d v lK ks lC cs X u e => ?_) (fun k r d v lK ks lC cs X u nK nC cK zK cC zC e h1 h2 h3 h4 w0 => ?_)
  · unfold R27 at e
    split at e
    · simp only [Option.some.injEq] at e; subst e
      exact ⟨rfl, rfl, by kernel_rfl⟩
    · cases e
  · unfold R27 at e
    split at e
    · rename_i x0 y0 x1 y1 sg
      simp only [Option.some.injEq] at e; subst e
      exact T_ret (cS S10_ok) mo _ 1000 Try.f27 _ _ (by kernel_rfl) (ok27 k r d v lK ks lC cs nK nC cK zK cC zC x0 y0 x1 y1 sg) (sm27 k r d v lK ks lC cs nK nC cK zK cC zC x0 y0 x1 y1 sg) (hr27 k r d v lK ks lC cs nK nC cK zK cC zC x0 y0 x1 y1 sg) (G27_ok k r d v (ln nK lK) (rw' nK ks) (ln nC lC) (rw' nC cs) x0 y0 x1 y1 sg (fa20_ok h1 h2 h3 h4))
    · cases e

noncomputable abbrev M28 (k r d v : Int) (lK : Nat) (ks : List Int) (lC : Nat) (cs : List Int) (nK nC : Bool) (cK zK cC zC : Nat) (x0 y0 x1 y1 sg : Int) := codeM Try.prog S10 cf0 [(10, .split), (12, .split), (20, .split), (27, .split)] 1000 (bodyOf Try.f28) (startSt (FV k r (sK nK lK cK zK) d v (sC nC lC cC zC) :: [rc4 x0 y0 x1 y1, .int .i64 sg]) (hF nK nC ks cs) 2)
theorem ok28 (k r d v : Int) (lK : Nat) (ks : List Int) (lC : Nat) (cs : List Int) (nK nC : Bool) (cK zK cC zC : Nat) (x0 y0 x1 y1 sg : Int) : (M28 k r d v lK ks lC cs nK nC cK zK cC zC x0 y0 x1 y1 sg).isSome = true := by cases nK <;> cases nC <;> kernel_rfl
theorem sm28 (k r d v : Int) (lK : Nat) (ks : List Int) (lC : Nat) (cs : List Int) (nK nC : Bool) (cK zK cC zC : Nat) (x0 y0 x1 y1 sg : Int) : samesL (orNil (M28 k r d v lK ks lC cs nK nC cK zK cC zC x0 y0 x1 y1 sg)) = samesR (orNil (M28 k r d v lK ks lC cs nK nC cK zK cC zC x0 y0 x1 y1 sg)) := by cases nK <;> cases nC <;> kernel_rfl
theorem hr28 (k r d v : Int) (lK : Nat) (ks : List Int) (lC : Nat) (cs : List Int) (nK nC : Bool) (cK zK cC zC : Nat) (x0 y0 x1 y1 sg : Int) : tells (retOf Try.prog (cfS S10) 1000 Try.f28) (orNil (M28 k r d v lK ks lC cs nK nC cK zK cC zC x0 y0 x1 y1 sg)) = G28 k r d v (ln nK lK) (rw' nK ks) (ln nC lC) (rw' nC cs) x0 y0 x1 y1 sg := by cases nK <;> cases nC <;> kernel_rfl
theorem p28 : PureA Try.prog 28 (specF R27) := by
  refine pureF S10_ok (Nat.le_of_ble_eq_true (by kernel_rfl)) Try.func28 (code := bodyOf Try.f28) (by kernel_rfl) (fun k r d v lK ks lC cs X u e => ?_) (fun k r d v lK ks lC cs X u nK nC cK zK cC zC e h1 h2 h3 h4 w0 => ?_)
  · unfold R27 at e
    split at e
    · simp only [Option.some.injEq] at e; subst e
      exact ⟨rfl, rfl, by kernel_rfl⟩
    · cases e
  · unfold R27 at e
    split at e
    · rename_i x0 y0 x1 y1 sg
      simp only [Option.some.injEq] at e; subst e
      exact T_ret (cS S10_ok) mo _ 1000 Try.f28 _ _ (by kernel_rfl) (ok28 k r d v lK ks lC cs nK nC cK zK cC zC x0 y0 x1 y1 sg) (sm28 k r d v lK ks lC cs nK nC cK zK cC zC x0 y0 x1 y1 sg) (hr28 k r d v lK ks lC cs nK nC cK zK cC zC x0 y0 x1 y1 sg) (G28_ok k r d v (ln nK lK) (rw' nK ks) (ln nC lC) (rw' nC cs) x0 y0 x1 y1 sg (fa20_ok h1 h2 h3 h4))
    · cases e

abbrev S11 : Ctr := addS 28 (specF R27) (addS 27 (specF R27) S10)
theorem S11_ok : CtrOk Try.prog S11 := addS_ok p28 (addS_ok p27 S10_ok)
theorem oneG {v : V} {A : List Prop} (hA : ∀ a ∈ A, a) : ∀ g ∈ [(([] : List (Bool × Bool)), A, some v)], (∀ b ∈ g.1, b.1 = b.2) → (∀ a ∈ g.2.1, a) ∧ g.2.2 = some v := by
  intro g hg _
  rw [List.mem_singleton.1 hg]
  exact ⟨hA, rfl⟩

noncomputable abbrev M9 (k r d v : Int) (lK : Nat) (ks : List Int) (lC : Nat) (cs : List Int) (nK nC : Bool) (cK zK cC zC : Nat) (x0 y0 x1 y1 : Int) := codeM Try.prog S11 cf0 [] 1000 (bodyOf Try.f9) (startSt (FV k r (sK nK lK cK zK) d v (sC nC lC cC zC) :: [rc4 x0 y0 x1 y1]) (hF nK nC ks cs) 2)
theorem ok9 (k r d v : Int) (lK : Nat) (ks : List Int) (lC : Nat) (cs : List Int) (nK nC : Bool) (cK zK cC zC : Nat) (x0 y0 x1 y1 : Int) : (M9 k r d v lK ks lC cs nK nC cK zK cC zC x0 y0 x1 y1).isSome = true := by cases nK <;> cases nC <;> kernel_rfl
theorem sm9 (k r d v : Int) (lK : Nat) (ks : List Int) (lC : Nat) (cs : List Int) (nK nC : Bool) (cK zK cC zC : Nat) (x0 y0 x1 y1 : Int) : samesL (orNil (M9 k r d v lK ks lC cs nK nC cK zK cC zC x0 y0 x1 y1)) = samesR (orNil (M9 k r d v lK ks lC cs nK nC cK zK cC zC x0 y0 x1 y1)) := by cases nK <;> cases nC <;> kernel_rfl
theorem hr9 (k r d v : Int) (lK : Nat) (ks : List Int) (lC : Nat) (cs : List Int) (nK nC : Bool) (cK zK cC zC : Nat) (x0 y0 x1 y1 : Int) : tells (retOf Try.prog (cfS S11) 1000 Try.f9) (orNil (M9 k r d v lK ks lC cs nK nC cK zK cC zC x0 y0 x1 y1)) = [([], fa20 (ln nK lK) (rw' nK ks) (ln nC lC) (rw' nC cs), some (rectV (areaQ (validB k r d v (ln nK lK) (rw' nK ks) (ln nC lC) (rw' nC cs)) k r v x0 y0 x1 y1 (-1))))] := by cases nK <;> cases nC <;> kernel_rfl
theorem p9 : PureA Try.prog 9 (specF (RN (-1))) := by
  refine pureF S11_ok (Nat.le_of_ble_eq_true (by kernel_rfl)) Try.func9 (code := bodyOf Try.f9) (by kernel_rfl) (fun k r d v lK ks lC cs X u e => ?_) (fun k r d v lK ks lC cs X u nK nC cK zK cC zC e h1 h2 h3 h4 w0 => ?_)
  · unfold RN at e
    split at e
    · simp only [Option.some.injEq] at e; subst e
      exact ⟨rfl, rfl, by kernel_rfl⟩
    · cases e
  · unfold RN at e
    split at e
    · rename_i x0 y0 x1 y1
      simp only [Option.some.injEq] at e; subst e
      exact T_ret (cS S11_ok) mo _ 1000 Try.f9 _ _ (by kernel_rfl) (ok9 k r d v lK ks lC cs nK nC cK zK cC zC x0 y0 x1 y1) (sm9 k r d v lK ks lC cs nK nC cK zK cC zC x0 y0 x1 y1) (hr9 k r d v lK ks lC cs nK nC cK zK cC zC x0 y0 x1 y1) (oneG (fa20_ok h1 h2 h3 h4))
    · cases e

noncomputable abbrev M10 (k r d v : Int) (lK : Nat) (ks : List Int) (lC : Nat) (cs : List Int) (nK nC : Bool) (cK zK cC zC : Nat) (x0 y0 x1 y1 : Int) := codeM Try.prog S11 cf0 [] 1000 (bodyOf Try.f10) (startSt (FV k r (sK nK lK cK zK) d v (sC nC lC cC zC) :: [rc4 x0 y0 x1 y1]) (hF nK nC ks cs) 2)
theorem ok10 (k r d v : Int) (lK : Nat) (ks : List Int) (lC : Nat) (cs : List Int) (nK nC : Bool) (cK zK cC zC : Nat) (x0 y0 x1 y1 : Int) : (M10 k r d v lK ks lC cs nK nC cK zK cC zC x0 y0 x1 y1).isSome = true := by cases nK <;> cases nC <;> kernel_rfl
theorem sm10 (k r d v : Int) (lK : Nat) (ks : List Int) (lC : Nat) (cs : List Int) (nK nC : Bool) (cK zK cC zC : Nat) (x0 y0 x1 y1 : Int) : samesL (orNil (M10 k r d v lK ks lC cs nK nC cK zK cC zC x0 y0 x1 y1)) = samesR (orNil (M10 k r d v lK ks lC cs nK nC cK zK cC zC x0 y0 x1 y1)) := by cases nK <;> cases nC <;> kernel_rfl
theorem hr10 (k r d v : Int) (lK : Nat) (ks : List Int) (lC : Nat) (cs : List Int) (nK nC : Bool) (cK zK cC zC : Nat) (x0 y0 x1 y1 : Int) : tells (retOf Try.prog (cfS S11) 1000 Try.f10) (orNil (M10 k r d v lK ks lC cs nK nC cK zK cC zC x0 y0 x1 y1)) = [([], fa20 (ln nK lK) (rw' nK ks) (ln nC lC) (rw' nC cs), some (rectV (areaQ (validB k r d v (ln nK lK) (rw' nK ks) (ln nC lC) (rw' nC cs)) k r v x0 y0 x1 y1 (-1))))] := by cases nK <;> cases nC <;> kernel_rfl
theorem p10 : PureA Try.prog 10 (specF (RN (-1))) := by
  refine pureF S11_ok (Nat.le_of_ble_eq_true (by kernel_rfl)) Try.func10 (code := bodyOf Try.f10) (by kernel_rfl) (fun k r d v lK ks lC cs X u e => ?_) (fun k r d v lK ks lC cs X u nK nC cK zK cC zC e h1 h2 h3 h4 w0 => ?_)
  · unfold RN at e
    split at e
    · simp only [Option.some.injEq] at e; subst e
      exact ⟨rfl, rfl, by kernel_rfl⟩
    · cases e
  · unfold RN at e
    split at e
    · rename_i x0 y0 x1 y1
      simp only [Option.some.injEq] at e; subst e
      exact T_ret (cS S11_ok) mo _ 1000 Try.f10 _ _ (by kernel_rfl) (ok10 k r d v lK ks lC cs nK nC cK zK cC zC x0 y0 x1 y1) (sm10 k r d v lK ks lC cs nK nC cK zK cC zC x0 y0 x1 y1) (hr10 k r d v lK ks lC cs nK nC cK zK cC zC x0 y0 x1 y1) (oneG (fa20_ok h1 h2 h3 h4))
    · cases e

noncomputable abbrev M11 (k r d v : Int) (lK : Nat) (ks : List Int) (lC : Nat) (cs : List Int) (nK nC : Bool) (cK zK cC zC : Nat) (x0 y0 x1 y1 : Int) := codeM Try.prog S11 cf0 [] 1000 (bodyOf Try.f11) (startSt (FV k r (sK nK lK cK zK) d v (sC nC lC cC zC) :: [rc4 x0 y0 x1 y1]) (hF nK nC ks cs) 2)
theorem ok11 (k r d v : Int) (lK : Nat) (ks : List Int) (lC : Nat) (cs : List Int) (nK nC : Bool) (cK zK cC zC : Nat) (x0 y0 x1 y1 : Int) : (M11 k r d v lK ks lC cs nK nC cK zK cC zC x0 y0 x1 y1).isSome = true := by cases nK <;> cases nC <;> kernel_rfl
theorem sm11 (k r d v : Int) (lK : Nat) (ks : List Int) (lC : Nat) (cs : List Int) (nK nC : Bool) (cK zK cC zC : Nat) (x0 y0 x1 y1 : Int) : samesL (orNil (M11 k r d v lK ks lC cs nK nC cK zK cC zC x0 y0 x1 y1)) = samesR (orNil (M11 k r d v lK ks lC cs nK nC cK zK cC zC x0 y0 x1 y1)) := by cases nK <;> cases nC <;> kernel_rfl
theorem hr11 (k r d v : Int) (lK : Nat) (ks : List Int) (lC : Nat) (cs : List Int) (nK nC : Bool) (cK zK cC zC : Nat) (x0 y0 x1 y1 : Int) : tells (retOf Try.prog (cfS S11) 1000 Try.f11) (orNil (M11 k r d v lK ks lC cs nK nC cK zK cC zC x0 y0 x1 y1)) = [([], fa20 (ln nK lK) (rw' nK ks) (ln nC lC) (rw' nC cs), some (rectV (areaQ (validB k r d v (ln nK lK) (rw' nK ks) (ln nC lC) (rw' nC cs)) k r v x0 y0 x1 y1 1)))] := by cases nK <;> cases nC <;> kernel_rfl
theorem p11 : PureA Try.prog 11 (specF (RN 1)) := by
  refine pureF S11_ok (Nat.le_of_ble_eq_true (by kernel_rfl)) Try.func11 (code := bodyOf Try.f11) (by kernel_rfl) (fun k r d v lK ks lC cs X u e => ?_) (fun k r d v lK ks lC cs X u nK nC cK zK cC zC e h1 h2 h3 h4 w0 => ?_)
  · unfold RN at e
    split at e
    · simp only [Option.some.injEq] at e; subst e
      exact ⟨rfl, rfl, by kernel_rfl⟩
    · cases e
  · unfold RN at e
    split at e
    · rename_i x0 y0 x1 y1
      simp only [Option.some.injEq] at e; subst e
      exact T_ret (cS S11_ok) mo _ 1000 Try.f11 _ _ (by kernel_rfl) (ok11 k r d v lK ks lC cs nK nC cK zK cC zC x0 y0 x1 y1) (sm11 k r d v lK ks lC cs nK nC cK zK cC zC x0 y0 x1 y1) (hr11 k r d v lK ks lC cs nK nC cK zK cC zC x0 y0 x1 y1) (oneG (fa20_ok h1 h2 h3 h4))
    · cases e

noncomputable abbrev M12 (k r d v : Int) (lK : Nat) (ks : List Int) (lC : Nat) (cs : List Int) (nK nC : Bool) (cK zK cC zC : Nat) (x0 y0 x1 y1 : Int) := codeM Try.prog S11 cf0 [] 1000 (bodyOf Try.f12) (startSt (FV k r (sK nK lK cK zK) d v (sC nC lC cC zC) :: [rc4 x0 y0 x1 y1]) (hF nK nC ks cs) 2)
theorem ok12 (k r d v : Int) (lK : Nat) (ks : List Int) (lC : Nat) (cs : List Int) (nK nC : Bool) (cK zK cC zC : Nat) (x0 y0 x1 y1 : Int) : (M12 k r d v lK ks lC cs nK nC cK zK cC zC x0 y0 x1 y1).isSome = true := by cases nK <;> cases nC <;> kernel_rfl
theorem sm12 (k r d v : Int) (lK : Nat) (ks : List Int) (lC : Nat) (cs : List Int) (nK nC : Bool) (cK zK cC zC : Nat) (x0 y0 x1 y1 : Int) : samesL (orNil (M12 k r d v lK ks lC cs nK nC cK zK cC zC x0 y0 x1 y1)) = samesR (orNil (M12 k r d v lK ks lC cs nK nC cK zK cC zC x0 y0 x1 y1)) := by cases nK <;> cases nC <;> kernel_rfl
theorem hr12 (k r d v : Int) (lK : Nat) (ks : List Int) (lC : Nat) (cs : List Int) (nK nC : Bool) (cK zK cC zC : Nat) (x0 y0 x1 y1 : Int) : tells (retOf Try.prog (cfS S11) 1000 Try.f12) (orNil (M12 k r d v lK ks lC cs nK nC cK zK cC zC x0 y0 x1 y1)) = [([], fa20 (ln nK lK) (rw' nK ks) (ln nC lC) (rw' nC cs), some (rectV (areaQ (validB k r d v (ln nK lK) (rw' nK ks) (ln nC lC) (rw' nC cs)) k r v x0 y0 x1 y1 1)))] := by cases nK <;> cases nC <;> kernel_rfl
theorem p12 : PureA Try.prog 12 (specF (RN 1)) := by
  refine pureF S11_ok (Nat.le_of_ble_eq_true (by kernel_rfl)) Try.func12 (code := bodyOf Try.f12) (by kernel_rfl) (fun k r d v lK ks lC cs X u e => ?_) (fun k r d v lK ks lC cs X u nK nC cK zK cC zC e h1 h2 h3 h4 w0 => ?_)
  · unfold RN at e
    split at e
    · simp only [Option.some.injEq] at e; subst e
      exact ⟨rfl, rfl, by kernel_rfl⟩
    · cases e
  · unfold RN at e
    split at e
    · rename_i x0 y0 x1 y1
      simp only [Option.some.injEq] at e; subst e
      exact T_ret (cS S11_ok) mo _ 1000 Try.f12 _ _ (by kernel_rfl) (ok12 k r d v lK ks lC cs nK nC cK zK cC zC x0 y0 x1 y1) (sm12 k r d v lK ks lC cs nK nC cK zK cC zC x0 y0 x1 y1) (hr12 k r d v lK ks lC cs nK nC cK zK cC zC x0 y0 x1 y1) (oneG (fa20_ok h1 h2 h3 h4))
    · cases e

abbrev S12 : Ctr := addS 12 (specF (RN 1)) (addS 11 (specF (RN 1)) (addS 10 (specF (RN (-1))) (addS 9 (specF (RN (-1))) S11)))
theorem S12_ok : CtrOk Try.prog S12 := addS_ok p12 (addS_ok p11 (addS_ok p10 (addS_ok p9 S11_ok)))

def insideB (a0 b0 a1 b1 c0 d0 c1 d1 : Int) : Bool := emptyB a0 b0 a1 b1 || (decide (c0 ≤ a0) && (decide (a1 ≤ c1) && (decide (d0 ≤ b0) && decide (b1 ≤ d1))))

def spec13 : List V → Tr O → Option (List Prop × V)
  | [.agg [.int .i64 a0, .int .i64 b0, .int .i64 a1, .int .i64 b1], .agg [.int .i64 c0, .int .i64 d0, .int .i64 c1, .int .i64 d1]], _ => some ([], .bool (insideB a0 b0 a1 b1 c0 d0 c1 d1))
  | _, _ => none
theorem ok13 (a0 : Int) (b0 : Int) (a1 : Int) (b1 : Int) (c0 : Int) (d0 : Int) (c1 : Int) (d1 : Int) : funOk Try.prog S12 cf0 [(7, .split), (14, .split), (20, .split), (27, .split)] 1000 (bodyOf Try.f13) [.agg [.int .i64 a0, .int .i64 b0, .int .i64 a1, .int .i64 b1], .agg [.int .i64 c0, .int .i64 d0, .int .i64 c1, .int .i64 d1]] .nil 0 = true := by kernel_rfl
theorem sm13 (a0 : Int) (b0 : Int) (a1 : Int) (b1 : Int) (c0 : Int) (d0 : Int) (c1 : Int) (d1 : Int) : samesL (funM Try.prog S12 cf0 [(7, .split), (14, .split), (20, .split), (27, .split)] 1000 (bodyOf Try.f13) [.agg [.int .i64 a0, .int .i64 b0, .int .i64 a1, .int .i64 b1], .agg [.int .i64 c0, .int .i64 d0, .int .i64 c1, .int .i64 d1]] .nil 0) = samesR (funM Try.prog S12 cf0 [(7, .split), (14, .split), (20, .split), (27, .split)] 1000 (bodyOf Try.f13) [.agg [.int .i64 a0, .int .i64 b0, .int .i64 a1, .int .i64 b1], .agg [.int .i64 c0, .int .i64 d0, .int .i64 c1, .int .i64 d1]] .nil 0) := by kernel_rfl
theorem hr13 (a0 : Int) (b0 : Int) (a1 : Int) (b1 : Int) (c0 : Int) (d0 : Int) (c1 : Int) (d1 : Int) : tells (retOf Try.prog (joinA S12 cf0) 1000 Try.f13) (funM Try.prog S12 cf0 [(7, .split), (14, .split), (20, .split), (27, .split)] 1000 (bodyOf Try.f13) [.agg [.int .i64 a0, .int .i64 b0, .int .i64 a1, .int .i64 b1], .agg [.int .i64 c0, .int .i64 d0, .int .i64 c1, .int .i64 d1]] .nil 0) =
    [([(emptyB a0 b0 a1 b1, true)], [], some (.bool true)), ([(emptyB a0 b0 a1 b1, false), (decide (c0 ≤ a0), true), (decide (a1 ≤ c1), true), (decide (d0 ≤ b0), true)], [], some (.bool (decide (b1 ≤ d1)))), ([(emptyB a0 b0 a1 b1, false), (decide (c0 ≤ a0), true), (decide (a1 ≤ c1), true), (decide (d0 ≤ b0), false)], [], some (.bool false)), ([(emptyB a0 b0 a1 b1, false), (decide (c0 ≤ a0), true), (decide (a1 ≤ c1), false)], [], some (.bool false)), ([(emptyB a0 b0 a1 b1, false), (decide (c0 ≤ a0), false)], [], some (.bool false))] := by kernel_rfl
theorem p13 : PureA Try.prog 13 spec13 := by
  refine ⟨Nat.le_of_ble_eq_true (by kernel_rfl), fun args h A v e => ?_⟩
  unfold spec13 at e
  split at e
  · rename_i a0 b0 a1 b1 c0 d0 c1 d1
    simp only [Option.some.injEq, Prod.mk.injEq] at e; obtain ⟨rfl, rfl⟩ := e
    refine ⟨by kernel_rfl, fun _ E_ n_ w_ args_ ra_ g_ hd_ hc_ => calls_tells mo po S12_ok cf0_ok Try.func13 (by kernel_rfl) (by kernel_rfl) ra_ (by kernel_rfl) _ (ok13 a0 b0 a1 b1 c0 d0 c1 d1) (sm13 a0 b0 a1 b1 c0 d0 c1 d1) (hr13 a0 b0 a1 b1 c0 d0 c1 d1) ?_⟩
    intro g hg hc; simp only [List.mem_cons, List.not_mem_nil, or_false] at hg; rcases hg with rfl | rfl | rfl | rfl | rfl <;> simp only [List.mem_cons, List.not_mem_nil, or_false, forall_eq_or_imp, forall_eq] at hc <;> refine ⟨by simp, ?_⟩ <;> simp only [insideB, hc, Bool.true_or, Bool.false_or, Bool.true_and, Bool.false_and]
  · cases e

abbrev S13 : Ctr := addS 13 spec13 S12
theorem S13_ok : CtrOk Try.prog S13 := addS_ok p13 S12_ok
end Go.Proofs.Ytpkpcnohnlhjlaa
