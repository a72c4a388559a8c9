/- Filter laws, part N: FilterAreas, its loops. No conditions. -/
import Derived.Test.YtpkpcnohnlhjlaaEngFilM
namespace Go.Proofs.Ytpkpcnohnlhjlaa
open Go Go.Eng

def eqQ (p q : Q4) : Bool := (p.1 == q.1) && ((p.2.1 == q.2.1) && ((p.2.2.1 == q.2.2.1) && ((p.2.2.2 == q.2.2.2) && true)))
def neA (p q : Q4) : Prop := V.bool (!(eqQ p q)) = V.bool false
theorem neA_rfl (p : Q4) : neA p p := by simp [neA, eqQ]
noncomputable def nearI (j : Nat) (x0 y0 x1 y1 : Int) : Int := match cf0 8 [rc4 x0 y0 x1 y1] .nil 0 with
  | some (.ret (.agg l), _) => match l[j]? with
    | some (.int _ a) => a
    | _ => 0
  | _ => 0
abbrev area4 (vb : Bool) (k r v x0 y0 x1 y1 : Int) (sg : Int) : Prop := neA (areaQ vb k r v x0 y0 x1 y1 sg) (areaQ vb k r v x0 y0 x1 y1 sg)
noncomputable def one4 (fa : List Prop) (vb : Bool) (k r v x0 y0 x1 y1 : Int) : List Prop :=
  fa ++ fa ++ [area4 vb k r v x0 y0 x1 y1 (-1)] ++ fa ++ fa ++ [area4 vb k r v x0 y0 x1 y1 1] ++
  fa ++ fa ++ [area4 vb k r v (nearI 0 x0 y0 x1 y1) (nearI 1 x0 y0 x1 y1) (nearI 2 x0 y0 x1 y1) (nearI 3 x0 y0 x1 y1) (-1)] ++ fa ++ fa ++ [area4 vb k r v (nearI 0 x0 y0 x1 y1) (nearI 1 x0 y0 x1 y1) (nearI 2 x0 y0 x1 y1) (nearI 3 x0 y0 x1 y1) 1]
theorem one4_ok {fa : List Prop} {vb : Bool} {k r v x0 y0 x1 y1 : Int} (h : ∀ a ∈ fa, a) : ∀ a ∈ one4 fa vb k r v x0 y0 x1 y1, a := by
  intro a ha
  simp only [one4, List.mem_append, List.mem_singleton] at ha
  rcases ha with ((((((((((h1 | h1) | rfl) | h1) | h1) | rfl) | h1) | h1) | rfl) | h1) | h1) | rfl
  all_goals first | exact h _ h1 | exact neA_rfl _

section
variable (k r d v : Int) (ks : List Int) (cs : List Int) (x0 y0 x1 y1 : Int) (nK nC : Bool) (cK zK cC zC : Nat) (mK mC : Nat) (gk gr gd gw : Int) (sh : GS) (l c c1 z1 c2 z2 : Nat) (gs : List Int)
abbrev faF : List Prop := fa20 (ln nK mK) (rw' nK ks) (ln nC mC) (rw' nC cs)
abbrev vbF : Bool := validB k r d v (ln nK mK) (rw' nK ks) (ln nC mC) (rw' nC cs)
abbrev faG : List Prop := fa20 (glK sh l) (grK sh gs) (glC sh l) (grC sh gs)
abbrev vbG : Bool := validB gk gr gd gw (glK sh l) (grK sh gs) (glC sh l) (grC sh gs)
def PL : St := stL [(8, .ptr (some (0, 0))), (7, .bool true)] (setAll ([boxG gk gr gd gw sh l c c1 z1 c2 z2 1] ++ gO sh gs) 0 .nil) (gN sh 1)
abbrev H2 : List (Nat × Fix) := [(66, .give (.bool false)), (78, .give (.bool false)), (91, .give (.bool false)), (104, .give (.bool false))]
noncomputable abbrev PGx : St := PG k r d v ks cs x0 y0 x1 y1 nK nC cK zK cC zC mK mC gk gr gd gw sh l c c1 z1 c2 z2 gs
theorem P2i : (r13 H2 (headN 3 T5) (PGx k r d v ks cs x0 y0 x1 y1 nK nC cK zK cC zC mK mC gk gr gd gw sh l c c1 z1 c2 z2 gs)).isSome = true := by cases nK <;> cases nC <;> cases sh <;> kernel_rfl
theorem P2s : samesL (orNil (r13 H2 (headN 3 T5) (PGx k r d v ks cs x0 y0 x1 y1 nK nC cK zK cC zC mK mC gk gr gd gw sh l c c1 z1 c2 z2 gs))) = samesR (orNil (r13 H2 (headN 3 T5) (PGx k r d v ks cs x0 y0 x1 y1 nK nC cK zK cC zC mK mC gk gr gd gw sh l c c1 z1 c2 z2 gs))) := by cases nK <;> cases nC <;> cases sh <;> kernel_rfl
theorem P2 : tells (normF [8, 7]) (orNil (r13 H2 (headN 3 T5) (PGx k r d v ks cs x0 y0 x1 y1 nK nC cK zK cC zC mK mC gk gr gd gw sh l c c1 z1 c2 z2 gs))) =
    [([], one4 (faF ks cs nK nC mK mC) (vbF k r d v ks cs nK nC mK mC) k r v x0 y0 x1 y1 ++ one4 (faG sh l gs) (vbG gk gr gd gw sh l gs) gk gr gw x0 y0 x1 y1, some (PL gk gr gd gw sh l c c1 z1 c2 z2 gs))] := by cases nK <;> cases nC <;> cases sh <;> kernel_rfl

def insA (vb : Bool) (k r v : Int) (dx dy : Int) : Prop :=
  V.bool (!(insideB dx dy (dx + 1) (dy + 1) (areaQ vb k r v 0 0 1 1 (-1)).1 (areaQ vb k r v 0 0 1 1 (-1)).2.1 (areaQ vb k r v 0 0 1 1 (-1)).2.2.1 (areaQ vb k r v 0 0 1 1 (-1)).2.2.2 ==
    insideB 0 0 1 1 (areaQ vb k r v dx dy (dx + 1) (dy + 1) 1).1 (areaQ vb k r v dx dy (dx + 1) (dy + 1) 1).2.1 (areaQ vb k r v dx dy (dx + 1) (dy + 1) 1).2.2.1 (areaQ vb k r v dx dy (dx + 1) (dy + 1) 1).2.2.2)) = V.bool false
def nine : List Int := [-4, -3, -2, -1, 0, 1, 2, 3, 4]
def all81 (fa : List Prop) (vb : Bool) (k r v : Int) : List Prop := nine.flatMap fun dy => nine.flatMap fun dx => fa ++ fa ++ [insA vb k r v dx dy]
abbrev H3 : List (Nat × Fix) := [(130, .give (.bool false))]
theorem P3i : (r13 H3 T8 (PL gk gr gd gw sh l c c1 z1 c2 z2 gs)).isSome = true := by cases sh <;> kernel_rfl
theorem P3s : samesL (orNil (r13 H3 T8 (PL gk gr gd gw sh l c c1 z1 c2 z2 gs))) = samesR (orNil (r13 H3 T8 (PL gk gr gd gw sh l c c1 z1 c2 z2 gs))) := by cases sh <;> kernel_rfl
theorem P3 : tells (retOf Try.prog (cfS S13) 1000 Try.f3) (orNil (r13 H3 T8 (PL gk gr gd gw sh l c c1 z1 c2 z2 gs))) = [([], all81 (faG sh l gs) (vbG gk gr gd gw sh l gs) gk gr gw, some (.bool true))] := by cases sh <;> kernel_rfl
end
end Go.Proofs.Ytpkpcnohnlhjlaa
