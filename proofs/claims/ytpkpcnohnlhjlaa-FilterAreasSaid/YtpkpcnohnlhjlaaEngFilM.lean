/- Filter laws, part M: FilterAreas, its pieces. No conditions. -/
import Derived.Test.YtpkpcnohnlhjlaaEngFilJ
import Derived.Test.YtpkpcnohnlhjlaaEngFilLZ
import Derived.Test.YtpkpcnohnlhjlaaEngFour
namespace Go.Proofs.Ytpkpcnohnlhjlaa
open Go Go.Eng

inductive GS where
  | o
  | K
  | C
def gkV (sh : GS) (pos l c c1 z1 : Nat) : V := match sh with | .K => .slc (some (pos, 0)) l c 1 | _ => .slc none 0 c1 z1
def gcV (sh : GS) (pos l c c2 z2 : Nat) : V := match sh with | .C => .slc (some (pos, 0)) l c 1 | _ => .slc none 0 c2 z2
def gO (sh : GS) (gs : List Int) : List O := match sh with | .o => [] | _ => [.ints .i64 gs]
def glK (sh : GS) (l : Nat) : Nat := match sh with | .K => l | _ => 0
def glC (sh : GS) (l : Nat) : Nat := match sh with | .C => l | _ => 0
def grK (sh : GS) (gs : List Int) : List Int := match sh with | .K => gs | _ => []
def grC (sh : GS) (gs : List Int) : List Int := match sh with | .C => gs | _ => []
def cnt (b : Bool) : Nat := match b with | true => 0 | false => 1
def optO (b : Bool) (ks : List Int) : List O := match b with | true => [] | false => [.ints .i64 ks]
def setAll : List O → Nat → Tr O → Tr O
  | [], _, t => t
  | o :: r, i, t => setAll r (i + 1) (t.set i (some o))
def slN (b : Bool) (pos l c z : Nat) : V := match b with | true => .slc none 0 0 0 | false => .slc (some (pos, 0)) l c 1

noncomputable abbrev cd3 : Code := bodyOf Try.f3
noncomputable abbrev R4c : Code := seqL (tailN 4 cd3)
noncomputable abbrev T5 : Code := tailN 5 cd3
noncomputable abbrev T8 : Code := tailN 3 T5
noncomputable abbrev ops4 : Array Oper := opsOf R4c
noncomputable abbrev p4a : List Oper := ops4.toList.take 5
noncomputable abbrev p4b : List Oper := ops4.toList.drop 6
noncomputable abbrev o4 : Oper := match ops4.toList.drop 5 with | o :: _ => o | [] => default
theorem sp4 : ops4.toList = p4a ++ (o4 :: p4b) := by kernel_rfl

section
variable (k r d v : Int) (lK : Nat) (ks : List Int) (lC : Nat) (cs : List Int) (n : Nat) (ss : List Int) (x0 y0 x1 y1 : Int) (nK nC nS : Bool) (cK zK cC zC cz zS : Nat) (mK mC mS : Nat)
abbrev st3 : St := startSt [FV k r (slN nK 0 lK cK zK) d v (slN nC 1 lC cC zC), slN nS 2 n cz zS, rc4 x0 y0 x1 y1] (threeH (rowO (rO nK ks)) (rowO (rO nC cs)) (rowO (rO nS ss))) 3
def b5 : Nat := 1 + cnt nK + cnt nC
def boxF : O := .cells [.int .i64 k, .int .i64 r, slN nK 1 mK cK zK, .int .i64 d, .int .i64 v, slN nC (1 + cnt nK) mC cC zC]
def box5 : O := .cells [.int .i64 x0, .int .i64 y0, .int .i64 x1, .int .i64 y1]
def blF : List O := [boxF k r d v nK nC cK zK cC zC mK mC] ++ (optO nK ks ++ (optO nC cs ++ [box5 x0 y0 x1 y1]))
def PS (t : Nat) (m : Nat) : St := stL [(3, .ptr (some (0, 0))), (5, .ptr (some (b5 nK nC, 0))), (7, .bool true), (t, slN nS (b5 nK nC + 1) m cz zS)] (setAll (blF k r d v ks cs x0 y0 x1 y1 nK nC cK zK cC zC mK mC ++ optO nS ss) 0 .nil) (b5 nK nC + 1 + cnt nS)
abbrev H1 : List (Nat × Fix) := [(22, .give (.int .i64 (Int.ofNat (ln nK mK)))), (30, .give (.int .i64 (Int.ofNat (ln nC mC))))]
def minP (lim : Int) (l m : Nat) : Prop := V.int .i64 (if lim < Int.ofNat l then lim else Int.ofNat l) = V.int .i64 (Int.ofNat m)
def capP (m c : Nat) : Prop := 0 ≤ Int.ofNat m ∧ Int.ofNat m ≤ Int.ofNat c
def capL (b : Bool) (m c : Nat) : List Prop := match b with | true => [capP 0 0] | false => [capP m c]
noncomputable abbrev r13 (H : List (Nat × Fix)) (c : Code) (s : St) := codeM Try.prog S13 cf0 H 1000 c s
theorem P1 : (r13 (H1 nK nC mK mC) (headN 4 cd3) (st3 k r d v lK ks lC cs n ss x0 y0 x1 y1 nK nC nS cK zK cC zC cz zS)).isSome = true ∧
    samesL (orNil (r13 (H1 nK nC mK mC) (headN 4 cd3) (st3 k r d v lK ks lC cs n ss x0 y0 x1 y1 nK nC nS cK zK cC zC cz zS))) = samesR (orNil (r13 (H1 nK nC mK mC) (headN 4 cd3) (st3 k r d v lK ks lC cs n ss x0 y0 x1 y1 nK nC nS cK zK cC zC cz zS))) ∧
    tells (normF [3, 5, 7, 1]) (orNil (r13 (H1 nK nC mK mC) (headN 4 cd3) (st3 k r d v lK ks lC cs n ss x0 y0 x1 y1 nK nC nS cK zK cC zC cz zS))) =
      [([], minP 60 (ln nK lK) (ln nK mK) :: (capL nK mK cK ++ (minP 300 (ln nC lC) (ln nC mC) :: capL nC mC cC)), some (PS k r d v ks cs ss x0 y0 x1 y1 nK nC nS cK zK cC zC cz zS mK mC 1 n))] := by
  refine ⟨?_, ?_, ?_⟩ <;> cases nK <;> cases nC <;> cases nS <;> kernel_rfl
noncomputable abbrev sq4 (H : List (Nat × Fix)) (l : List Oper) (s : St) := seqM Try.prog S13 cf0 H ops4 l s
abbrev H4 : List (Nat × Fix) := [(36, .give (.int .i64 (Int.ofNat (ln nS mS))))]
theorem P4 : (sq4 (H4 nS mS) p4a (PS k r d v ks cs ss x0 y0 x1 y1 nK nC nS cK zK cC zC cz zS mK mC 1 n)).isSome = true ∧
    samesL (orNil (sq4 (H4 nS mS) p4a (PS k r d v ks cs ss x0 y0 x1 y1 nK nC nS cK zK cC zC cz zS mK mC 1 n))) = samesR (orNil (sq4 (H4 nS mS) p4a (PS k r d v ks cs ss x0 y0 x1 y1 nK nC nS cK zK cC zC cz zS mK mC 1 n))) ∧
    tells (normF [3, 5, 7, 37]) (orNil (sq4 (H4 nS mS) p4a (PS k r d v ks cs ss x0 y0 x1 y1 nK nC nS cK zK cC zC cz zS mK mC 1 n))) =
      [([], minP 60 (ln nS n) (ln nS mS) :: capL nS mS cz, some (PS k r d v ks cs ss x0 y0 x1 y1 nK nC nS cK zK cC zC cz zS mK mC 37 mS))] := by
  refine ⟨?_, ?_, ?_⟩ <;> cases nK <;> cases nC <;> cases nS <;> kernel_rfl
abbrev PT : St := PS k r d v ks cs ss x0 y0 x1 y1 nK nC nS cK zK cC zC cz zS mK mC 37 mS
theorem PTn : (PT k r d v ks cs ss x0 y0 x1 y1 nK nC nS cK zK cC zC cz zS mK mC mS).n = b5 nK nC + 1 + cnt nS := rfl
theorem PTs : stepOp Try.prog o4 (PT k r d v ks cs ss x0 y0 x1 y1 nK nC nS cK zK cC zC cz zS mK mC mS).fr (PT k r d v ks cs ss x0 y0 x1 y1 nK nC nS cK zK cC zC cz zS mK mC mS).h (PT k r d v ks cs ss x0 y0 x1 y1 nK nC nS cK zK cC zC cz zS mK mC mS).n = some (.call 7 [slN nS (b5 nK nC + 1) mS cz zS]) := by
  cases nK <;> cases nC <;> cases nS <;> kernel_rfl
theorem PTw : wantedV ops4 o4 (PT k r d v ks cs ss x0 y0 x1 y1 nK nC nS cK zK cC zC cz zS mK mC mS).fr = some true := by kernel_rfl
theorem PTh : (PT k r d v ks cs ss x0 y0 x1 y1 nK nC false cK zK cC zC cz zS mK mC mS).h.get (b5 nK nC + 1) = some (.ints .i64 ss) := by cases nK <;> cases nC <;> kernel_rfl
end

section
variable (k r d v : Int) (ks : List Int) (cs : List Int) (ss : List Int) (x0 y0 x1 y1 : Int) (nK nC nS : Bool) (cK zK cC zC cz zS : Nat) (mK mC mS : Nat) (gk gr gd gw : Int) (sh : GS) (l c c1 z1 c2 z2 : Nat) (gs : List Int)
def nT : Nat := b5 nK nC + 1 + cnt nS
def gH (h : Tr O) (n : Nat) : Tr O := match sh with | .o => h | _ => h.set n (some (.ints .i64 gs))
def gN (n : Nat) : Nat := match sh with | .o => n | _ => n + 1
def gFV (pos : Nat) : V := FV gk gr (gkV sh pos l c c1 z1) gd gw (gcV sh pos l c c2 z2)
abbrev PC : St := { (PT k r d v ks cs ss x0 y0 x1 y1 nK nC nS cK zK cC zC cz zS mK mC mS) with fr := (PT k r d v ks cs ss x0 y0 x1 y1 nK nC nS cK zK cC zC cz zS mK mC mS).fr.set 38 (some (gFV gk gr gd gw sh l c c1 z1 c2 z2 (nT nK nC nS))), h := gH sh gs (PT k r d v ks cs ss x0 y0 x1 y1 nK nC nS cK zK cC zC cz zS mK mC mS).h (nT nK nC nS), n := gN sh (nT nK nC nS) }
def boxG (pos : Nat) : O := .cells [.int .i64 gk, .int .i64 gr, gkV sh pos l c c1 z1, .int .i64 gd, .int .i64 gw, gcV sh pos l c c2 z2]
def PG : St := stL [(3, .ptr (some (0, 0))), (5, .ptr (some (b5 nK nC, 0))), (8, .ptr (some (b5 nK nC + 1, 0))), (7, .bool true)] (setAll (blF k r d v ks cs x0 y0 x1 y1 nK nC cK zK cC zC mK mC ++ ([boxG gk gr gd gw sh l c c1 z1 c2 z2 (b5 nK nC + 2)] ++ gO sh gs)) 0 .nil) (gN sh (b5 nK nC + 2))
theorem P4b : (sq4 [] p4b (PC k r d v ks cs ss x0 y0 x1 y1 nK nC nS cK zK cC zC cz zS mK mC mS gk gr gd gw sh l c c1 z1 c2 z2 gs)).isSome = true ∧
    samesL (orNil (sq4 [] p4b (PC k r d v ks cs ss x0 y0 x1 y1 nK nC nS cK zK cC zC cz zS mK mC mS gk gr gd gw sh l c c1 z1 c2 z2 gs))) = samesR (orNil (sq4 [] p4b (PC k r d v ks cs ss x0 y0 x1 y1 nK nC nS cK zK cC zC cz zS mK mC mS gk gr gd gw sh l c c1 z1 c2 z2 gs))) ∧
    tells (normF [3, 5, 8, 7]) (orNil (sq4 [] p4b (PC k r d v ks cs ss x0 y0 x1 y1 nK nC nS cK zK cC zC cz zS mK mC mS gk gr gd gw sh l c c1 z1 c2 z2 gs))) = [([], [], some (PG k r d v ks cs x0 y0 x1 y1 nK nC cK zK cC zC mK mC gk gr gd gw sh l c c1 z1 c2 z2 gs))] := by
  refine ⟨?_, ?_, ?_⟩ <;> cases nK <;> cases nC <;> cases nS <;> cases sh <;> kernel_rfl
end
end Go.Proofs.Ytpkpcnohnlhjlaa
