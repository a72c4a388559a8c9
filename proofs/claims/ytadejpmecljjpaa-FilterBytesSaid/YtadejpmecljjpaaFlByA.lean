/- FilterBytes: Equal of the reference, exactly. No conditions. -/
import Derived.Test.YtadejpmecljjpaaFlFourteen
set_option linter.unusedVariables false
set_option linter.unusedSimpArgs false
set_option linter.unusedSectionVars false
namespace Go.Proofs.Ytadejpmecljjpaa
open Go Go.Eng
noncomputable abbrev cdEq : Code := bodyOf Try.f36
noncomputable abbrev l1Eq : Code := seqL (tailN 2 cdEq)
noncomputable abbrev tEq : Code := seqR (tailN 2 cdEq)
noncomputable abbrev l2Eq : Code := seqL tEq
noncomputable abbrev enEq : Code := seqR tEq
section
variable (nK nC nA nB : Bool) (k r d v k' r' d' v' : Int) (lK cK zK lC cC zC lA cA zA lB cB zB : Nat) (ks cs ka ca : List Int)
def stEq : St := startSt [FV k r (slK nK 0 lK cK zK 1) d v (slK nC 1 lC cC zC 1), FV k' r' (slK nA 2 lA cA zA 1) d' v' (slK nB 3 lB cB zB 1)] (rH [rwK nK .i64 ks, rwK nC .i64 cs, rwK nA .i64 ka, rwK nB .i64 ca]) 4
def rwEq : List (Nat × O) := rwL nK 0 .i64 ks ++ (rwL nC 1 .i64 cs ++ (rwL nA 2 .i64 ka ++ rwL nB 3 .i64 ca))
def lsEq : List (Nat × O) := rwEq nK nC nA nB ks cs ka ca ++ [(4, .cells (FV k r (slK nK 0 lK cK zK 1) d v (slK nC 1 lC cC zC 1)).cells), (5, .cells (FV k' r' (slK nA 2 lA cA zA 1) d' v' (slK nB 3 lB cB zB 1)).cells)]
def frEq : List (Nat × V) := [(2, .ptr (some (4, 0))), (3, .ptr (some (5, 0)))]
def sEq0 : St := stG frEq (hL (lsEq nK nC nA nB k r d v k' r' d' v' lK cK zK lC cC zC lA cA zA lB cB zB ks cs ka ca)) 6
def sEq1 (i : Nat) : St := stG (frEq ++ [(5, .int .i64 (Int.ofNat i))]) (hL (lsEq nK nC nA nB k r d v k' r' d' v' lK cK zK lC cC zC lA cA zA lB cB zB ks cs ka ca)) 6
def sEq2 (i : Nat) : St := stG (frEq ++ [(6, .int .i64 (Int.ofNat i))]) (hL (lsEq nK nC nA nB k r d v k' r' d' v' lK cK zK lC cC zC lA cA zA lB cB zB ks cs ka ca)) 6
def lN (n : Bool) (l : Nat) : Nat := match n with | true => 0 | false => l
abbrev neI (x y : Int) : Bool := x != y
abbrev rtF : ResG := .ret (.bool false) (hL (rwEq nK nC nA nB ks cs ka ca)) 4
theorem eq_1 : RunIs Try.prog csH [] 1000 4 Try.f36 [2, 3] (headN 1 cdEq) (stEq nK nC nA nB k r d v k' r' d' v' lK cK zK lC cC zC lA cA zA lB cB zB ks cs ka ca) []
    [([], [], .to .normal (sEq0 nK nC nA nB k r d v k' r' d' v' lK cK zK lC cC zC lA cA zA lB cB zB ks cs ka ca))] := by
  unfold RunIs; cases nK <;> cases nC <;> cases nA <;> cases nB <;> kernel_rfl
theorem eq_2 : RunIs Try.prog csH [(11, .split), (17, .split), (24, .split), (31, .split), (40, .split), (49, .split)] 1000 4 Try.f36 [2, 3] (seqL (tailN 1 cdEq)) (sEq0 nK nC nA nB k r d v k' r' d' v' lK cK zK lC cC zC lA cA zA lB cB zB ks cs ka ca) []
    [([(neI k k', true)], [], rtF nK nC nA nB ks cs ka ca), ([(neI k k', false), (neI r r', true)], [], rtF nK nC nA nB ks cs ka ca), ([(neI k k', false), (neI r r', false), (neI d d', true)], [], rtF nK nC nA nB ks cs ka ca),
     ([(neI k k', false), (neI r r', false), (neI d d', false), (neI v v', true)], [], rtF nK nC nA nB ks cs ka ca),
     ([(neI k k', false), (neI r r', false), (neI d d', false), (neI v v', false), (neI (lN nK lK : Int) (lN nA lA : Int), true)], [], rtF nK nC nA nB ks cs ka ca),
     ([(neI k k', false), (neI r r', false), (neI d d', false), (neI v v', false), (neI (lN nK lK : Int) (lN nA lA : Int), false), (neI (lN nC lC : Int) (lN nB lB : Int), true)], [], rtF nK nC nA nB ks cs ka ca),
     ([(neI k k', false), (neI r r', false), (neI d d', false), (neI v v', false), (neI (lN nK lK : Int) (lN nA lA : Int), false), (neI (lN nC lC : Int) (lN nB lB : Int), false)], [], .to .normal (sEq0 nK nC nA nB k r d v k' r' d' v' lK cK zK lC cC zC lA cA zA lB cB zB ks cs ka ca))] := by
  unfold RunIs; cases nK <;> cases nC <;> cases nA <;> cases nB <;> kernel_rfl
theorem eq_3 : RunIs Try.prog csH [] 1000 4 Try.f36 [2, 3, 5] (seqL l1Eq) (sEq0 nK nC nA nB k r d v k' r' d' v' lK cK zK lC cC zC lA cA zA lB cB zB ks cs ka ca) []
    [([], [], .to .normal (sEq1 nK nC nA nB k r d v k' r' d' v' lK cK zK lC cC zC lA cA zA lB cB zB ks cs ka ca 0))] := by
  unfold RunIs; cases nK <;> cases nC <;> cases nA <;> cases nB <;> kernel_rfl
def eqA (l l' : Nat) (x y : List Int) (i : Nat) : List Prop := [0 ≤ Int.ofNat i ∧ Int.ofNat i < (l : Int), 0 + (Int.ofNat i).toNat * 1 < x.length, 0 ≤ Int.ofNat i ∧ Int.ofNat i < (l' : Int), 0 + (Int.ofNat i).toNat * 1 < y.length]
abbrev gD (x : List Int) (i : Nat) : Int := x.getD (0 + i * 1) 0
theorem eq_4 (i : Nat) : RunIs Try.prog csH [(55, .split), (68, .split), (5, .give (.int .i64 (Int.ofNat (i + 1))))] 1000 4 Try.f36 [2, 3, 5] (inner (inner (seqR l1Eq))) (sEq1 false nC false nB k r d v k' r' d' v' lK cK zK lC cC zC lA cA zA lB cB zB ks cs ka ca i) []
    [([(decide (Int.ofNat i < (lK : Int)), true), (neI (gD ks i) (gD ka i), true)], eqA lK lA ks ka i, rtF false nC false nB ks cs ka ca),
     ([(decide (Int.ofNat i < (lK : Int)), true), (neI (gD ks i) (gD ka i), false)], eqA lK lA ks ka i ++ [upP (Int.ofNat i) (Int.ofNat (i + 1))], .to .normal (sEq1 false nC false nB k r d v k' r' d' v' lK cK zK lC cC zC lA cA zA lB cB zB ks cs ka ca (i + 1))),
     ([(decide (Int.ofNat i < (lK : Int)), false)], [], .to (.exit 0) (sEq1 false nC false nB k r d v k' r' d' v' lK cK zK lC cC zC lA cA zA lB cB zB ks cs ka ca i))] := by
  unfold RunIs; cases nC <;> cases nB <;> kernel_rfl
theorem eq_40 : RunIs Try.prog csH [] 1000 4 Try.f36 [2, 3, 5] (inner (inner (seqR l1Eq))) (sEq1 nK nC nA nB k r d v k' r' d' v' 0 cK zK lC cC zC lA cA zA lB cB zB ks cs ka ca 0) []
    [([], [], .to (.exit 0) (sEq1 nK nC nA nB k r d v k' r' d' v' 0 cK zK lC cC zC lA cA zA lB cB zB ks cs ka ca 0))] := by
  unfold RunIs; cases nK <;> cases nC <;> cases nA <;> cases nB <;> kernel_rfl
theorem eq_5 (i : Nat) : RunIs Try.prog csH [] 1000 4 Try.f36 [2, 3, 6] (seqL l2Eq) (sEq1 nK nC nA nB k r d v k' r' d' v' lK cK zK lC cC zC lA cA zA lB cB zB ks cs ka ca i) []
    [([], [], .to .normal (sEq2 nK nC nA nB k r d v k' r' d' v' lK cK zK lC cC zC lA cA zA lB cB zB ks cs ka ca 0))] := by
  unfold RunIs; cases nK <;> cases nC <;> cases nA <;> cases nB <;> kernel_rfl
theorem eq_6 (i : Nat) : RunIs Try.prog csH [(73, .split), (86, .split), (6, .give (.int .i64 (Int.ofNat (i + 1))))] 1000 4 Try.f36 [2, 3, 6] (inner (inner (seqR l2Eq))) (sEq2 nK false nA false k r d v k' r' d' v' lK cK zK lC cC zC lA cA zA lB cB zB ks cs ka ca i) []
    [([(decide (Int.ofNat i < (lC : Int)), true), (neI (gD cs i) (gD ca i), true)], eqA lC lB cs ca i, rtF nK false nA false ks cs ka ca),
     ([(decide (Int.ofNat i < (lC : Int)), true), (neI (gD cs i) (gD ca i), false)], eqA lC lB cs ca i ++ [upP (Int.ofNat i) (Int.ofNat (i + 1))], .to .normal (sEq2 nK false nA false k r d v k' r' d' v' lK cK zK lC cC zC lA cA zA lB cB zB ks cs ka ca (i + 1))),
     ([(decide (Int.ofNat i < (lC : Int)), false)], [], .to (.exit 2) (sEq2 nK false nA false k r d v k' r' d' v' lK cK zK lC cC zC lA cA zA lB cB zB ks cs ka ca i))] := by
  unfold RunIs; cases nK <;> cases nA <;> kernel_rfl
theorem eq_60 : RunIs Try.prog csH [] 1000 4 Try.f36 [2, 3, 6] (inner (inner (seqR l2Eq))) (sEq2 nK nC nA nB k r d v k' r' d' v' lK cK zK 0 cC zC lA cA zA lB cB zB ks cs ka ca 0) []
    [([], [], .to (.exit 2) (sEq2 nK nC nA nB k r d v k' r' d' v' lK cK zK 0 cC zC lA cA zA lB cB zB ks cs ka ca 0))] := by
  unfold RunIs; cases nK <;> cases nC <;> cases nA <;> cases nB <;> kernel_rfl
theorem eq_7 (i : Nat) : RunIs Try.prog csH [] 1000 4 Try.f36 [] enEq (sEq2 nK nC nA nB k r d v k' r' d' v' lK cK zK lC cC zC lA cA zA lB cB zB ks cs ka ca i) []
    [([], [], .ret (.bool true) (hL (rwEq nK nC nA nB ks cs ka ca)) 4)] := by
  unfold RunIs; cases nK <;> cases nC <;> cases nA <;> cases nB <;> kernel_rfl
end
end Go.Proofs.Ytadejpmecljjpaa
