/- Filter laws anew, part N: FilterValid, its pieces. No conditions. -/
import Derived.Test.YtadejpmecljjpaaFlThree
namespace Go.Proofs.Ytadejpmecljjpaa
open Go Go.Eng
noncomputable abbrev cdFV : Code := bodyOf Try.f11
def slN (b : Bool) (pos l c : Nat) : V := match b with | true => .slc none 0 0 0 | false => .slc (some (pos, 0)) l c 1
def opL (b : Bool) (i : Nat) (ks : List Int) : List (Nat × O) := match b with | true => [] | false => [(i, .ints .i64 ks)]
def opR (b : Bool) (ks : List Int) : Option (IntKind × List Int) := match b with | true => none | false => some (.i64, ks)
def gkV (cl : Cl) (pos l : Nat) : V := match cl with | .K => .slc (some (pos, 0)) l l 1 | _ => .slc none 0 0 0
def gcV (cl : Cl) (pos l : Nat) : V := match cl with | .C => .slc (some (pos, 0)) l l 1 | _ => .slc none 0 0 0
def gO (cl : Cl) (pos : Nat) (gs : List Int) : List (Nat × O) := match cl with | .o => [] | _ => [(pos, .own .i64 gs)]
def gN (cl : Cl) (pos : Nat) : Nat := match cl with | .o => pos | _ => pos + 1
def bxF (k r : Int) (a : V) (d v : Int) (b : V) : O := .cells [.int .i64 k, .int .i64 r, a, .int .i64 d, .int .i64 v, b]
def minP (lim : Int) (l m : Nat) : Prop := V.int .i64 (if lim < Int.ofNat l then lim else Int.ofNat l) = V.int .i64 (Int.ofNat m)
def capP (m c : Nat) : Prop := 0 ≤ Int.ofNat m ∧ Int.ofNat m ≤ Int.ofNat c
def isV (b : Bool) (x : Bool) : Prop := V.bool x = V.bool b

/-! what comes in -/
section
variable (nK nC nS : Bool) (k r d v : Int) (lK cK lC cC n cS : Nat) (ks cs ss : List Int) (q0 q1 : Int) (mK mC mS : Nat)
def rowsV : List (Nat × O) := opL nK 0 ks ++ opL nC 1 cs ++ opL nS 2 ss
abbrev stFV : St := startSt [FV k r (slN nK 0 lK cK) d v (slN nC 1 lC cC), slN nS 2 n cS, .agg [.int .i64 q0, .int .i64 q1]] (rH [opR nK ks, opR nC cs, opR nS ss]) 3
def sVA : St := stG [(1, slN nS 2 n cS), (3, .ptr (some (3, 0))), (5, .ptr (some (4, 0))), (7, .bool true)] (hL (rowsV nK nC nS ks cs ss ++ [(3, bxF k r (slN nK 0 mK cK) d v (slN nC 1 mC cC)), (4, .cells [.int .i64 q0, .int .i64 q1])])) 5
abbrev HVA : List (Nat × Fix) := [(19, .give (.int .i64 (Int.ofNat (ln nK mK)))), (27, .give (.int .i64 (Int.ofNat (ln nC mC))))]
theorem vA : RunIs Try.prog cs5 (HVA nK nC mK mC) 1000 3 Try.f11 [1, 3, 5, 7] (headN 4 cdFV) (stFV nK nC nS k r d v lK cK lC cC n cS ks cs ss q0 q1) []
    [([], [minP 60 (ln nK lK) (ln nK mK), capP (ln nK mK) (ln nK cK), minP 300 (ln nC lC) (ln nC mC), capP (ln nC mC) (ln nC cC)], .to .normal (sVA nK nC nS k r d v cK cC n cS ks cs ss q0 q1 mK mC))] := by
  unfold RunIs; cases nK <;> cases nC <;> cases nS <;> kernel_rfl

/-! the filter that is made, and a copy -/
variable (cl : Cl) (gk gr gd gw : Int) (l : Nat) (gs : List Int)
def sVB : St := stG [(3, .ptr (some (3, 0))), (5, .ptr (some (4, 0))), (7, .bool true), (8, .ptr (some (5, 0))), (9, .ptr (some (gN cl 6, 0)))]
  (hL (rowsV nK nC nS ks cs ss ++ [(3, bxF k r (slN nK 0 mK cK) d v (slN nC 1 mC cC)), (4, .cells [.int .i64 q0, .int .i64 q1]), (5, bxF gk gr (gkV cl 6 l) gd gw (gcV cl 6 l))] ++ gO cl 6 gs ++ [(gN cl 6, bxF gk gr (gkV cl 6 l) gd gw (gcV cl 6 l))])) (gN cl 6 + 1)
theorem vB (sh : Sh) : RunIs Try.prog (cs6 sh) [(33, .give (.int .i64 (Int.ofNat mS)))] 1000 3 Try.f11 [3, 5, 7, 8, 9] (headN 2 (tailN 4 cdFV)) (sVA nK nC false k r d v cK cC n cS ks cs ss q0 q1 mK mC) []
    [([], [minP 60 n mS, capP mS cS, madeOk ss mS sh], .to .normal (sVB nK nC false k r d v cK cC ks cs ss q0 q1 mK mC (clOf sh) (shK sh) (shR (madeX ss mS) sh) (shD (madeX ss mS) sh) (shV (madeX ss mS) sh) (shL mS sh) (shRow (madeX ss mS) ss mS sh)))] := by
  unfold RunIs; cases sh <;> cases nK <;> cases nC <;> kernel_rfl
theorem vB0 : RunIs Try.prog (cs6 .conv0) [(33, .give (.int .i64 (Int.ofNat 0)))] 1000 3 Try.f11 [3, 5, 7, 8, 9] (headN 2 (tailN 4 cdFV)) (sVA nK nC true k r d v cK cC n cS ks cs ss q0 q1 mK mC) []
    [([], [minP 60 0 0, capP 0 0], .to .normal (sVB nK nC true k r d v cK cC ks cs ss q0 q1 mK mC .K (shK .conv0) (shR (madeX [] 0) .conv0) (shD (madeX [] 0) .conv0) (shV (madeX [] 0) .conv0) (shL 0 .conv0) (shRow (madeX [] 0) [] 0 .conv0)))] := by
  unfold RunIs; cases nK <;> cases nC <;> kernel_rfl

/-! the copy, one field changed -/
inductive Hc where
  | same | newK | newC
def hkV (hc : Hc) (cl : Cl) (l hl : Nat) : V := match hc with | .newK => .slc (some (gN cl 4 + 1, 0)) hl hl 1 | _ => gkV cl 4 l
def hcV (hc : Hc) (cl : Cl) (l hl : Nat) : V := match hc with | .newC => .slc (some (gN cl 4 + 1, 0)) hl hl 1 | _ => gcV cl 4 l
def hO (hc : Hc) (cl : Cl) (ho : O) : List (Nat × O) := match hc with | .same => [] | _ => [(gN cl 4 + 1, ho)]
def hN (hc : Hc) (m : Nat) : Nat := match hc with | .same => m | _ => m + 1
variable (hc : Hc) (hk hr hd hw : Int) (hl : Nat) (ho : O)
def sVD : St := stG [(7, .bool true), (8, .ptr (some (3, 0))), (10, .ptr (some (gN cl 4, 0)))]
  (hL (rowsV nK nC nS ks cs ss ++ [(3, bxF gk gr (gkV cl 4 l) gd gw (gcV cl 4 l))] ++ gO cl 4 gs ++ [(gN cl 4, .cells ([.int .i64 k, .int .i64 r, slN nK 0 mK cK, .int .i64 d, .int .i64 v, slN nC 1 mC cC] ++ [.int .i64 gk, .int .i64 gr, gkV cl 4 l, .int .i64 gd, .int .i64 gw, gcV cl 4 l] ++ [.int .i64 hk, .int .i64 hr, hkV hc cl l hl, .int .i64 hd, .int .i64 hw, hcV hc cl l hl]))] ++ hO hc cl ho)) (hN hc (gN cl 4 + 1))
def caseP (j : Int) : Prop := V.int .i64 (mask 7 q0) = V.int .i64 j
abbrev sVBx : St := sVB nK nC nS k r d v cK cC ks cs ss q0 q1 mK mC cl gk gr gd gw l gs
noncomputable abbrev rVC (j : Int) (L : List V) (G : List (List (Bool × Bool) × List Prop × ResG)) : Prop := RunIs Try.prog cs5 [(39, .give (.int .i64 j))] 1000 3 Try.f11 [7, 8, 10] (headN 2 (tailN 6 cdFV)) (sVBx nK nC nS k r d v cK cC ks cs ss q0 q1 mK mC cl gk gr gd gw l gs) L G
abbrev sVDs (hk hr hd hw : Int) : St := sVD nK nC nS k r d v cK cC ks cs ss mK mC cl gk gr gd gw l gs .same hk hr hd hw 0 .dfr
theorem vC0 : rVC nK nC nS k r d v cK cC ks cs ss q0 q1 mK mC cl gk gr gd gw l gs 0 [] [([], [caseP q0 0], .to .normal (sVDs nK nC nS k r d v cK cC ks cs ss mK mC cl gk gr gd gw l gs q1 gr gd gw))] := by
  unfold rVC RunIs; cases cl <;> cases nK <;> cases nC <;> cases nS <;> kernel_rfl
theorem vC1 : rVC nK nC nS k r d v cK cC ks cs ss q0 q1 mK mC cl gk gr gd gw l gs 1 [] [([], [caseP q0 1], .to .normal (sVDs nK nC nS k r d v cK cC ks cs ss mK mC cl gk gr gd gw l gs gk (mask 7 q1) gd gw))] := by
  unfold rVC RunIs; cases cl <;> cases nK <;> cases nC <;> cases nS <;> kernel_rfl
theorem vC2 : rVC nK nC nS k r d v cK cC ks cs ss q0 q1 mK mC cl gk gr gd gw l gs 2 [] [([], [caseP q0 2], .to .normal (sVDs nK nC nS k r d v cK cC ks cs ss mK mC cl gk gr gd gw l gs gk gr q1 gw))] := by
  unfold rVC RunIs; cases cl <;> cases nK <;> cases nC <;> cases nS <;> kernel_rfl
theorem vC3 : rVC nK nC nS k r d v cK cC ks cs ss q0 q1 mK mC cl gk gr gd gw l gs 3 [] [([], [caseP q0 3], .to .normal (sVDs nK nC nS k r d v cK cC ks cs ss mK mC cl gk gr gd gw l gs gk gr gd q1))] := by
  unfold rVC RunIs; cases cl <;> cases nK <;> cases nC <;> cases nS <;> kernel_rfl
theorem vC6 : rVC nK nC nS k r d v cK cC ks cs ss q0 q1 mK mC cl gk gr gd gw l gs 6 [] [([], [caseP q0 6], .to .normal (sVDs nK nC nS k r d v cK cC ks cs ss mK mC cl gk gr gd gw l gs gk (IntKind.i64.wrap (0 - gr)) gd gw))] := by
  unfold rVC RunIs; cases cl <;> cases nK <;> cases nC <;> cases nS <;> kernel_rfl
theorem vC7 : rVC nK nC nS k r d v cK cC ks cs ss q0 q1 mK mC cl gk gr gd gw l gs 7 [] [([], [caseP q0 7], .to .normal (sVDs nK nC nS k r d v cK cC ks cs ss mK mC cl gk gr gd gw l gs gk gr gd gw))] := by
  unfold rVC RunIs; cases cl <;> cases nK <;> cases nC <;> cases nS <;> kernel_rfl
def isK : Cl → Bool | .K => true | _ => false
def isC : Cl → Bool | .C => true | _ => false
def nrA (has : Bool) (l : Nat) (gs : List Int) : List Prop := match has with
  | true => [0 < l, 0 + l * 1 ≤ gs.length, 0 < l, roomy (0 + l) 1 8 = true, 0 < 0 + l, 0 + (0 + l) * 1 ≤ ([] ++ List.take (l * 1) (List.drop 0 gs)).length, 0 < 1, roomy (0 + l + 1) 1 8 = true]
  | false => []
def nrRow (has : Bool) (l : Nat) (gs : List Int) (x : Int) : List Int := match has with
  | true => List.take ((0 + l) * 1) (List.drop 0 ([] ++ List.take (l * 1) (List.drop 0 gs))) ++ [x]
  | false => [x]
def nrLen (has : Bool) (l : Nat) : Nat := match has with | true => 0 + l + 1 | false => 1
def nrO (has : Bool) (l : Nat) (gs : List Int) (x : Int) : O := match has with | true => .own .i64 (nrRow true l gs x) | false => .cells [.int .i64 x]
theorem vC4 : rVC nK nC nS k r d v cK cC ks cs ss q0 q1 mK mC cl gk gr gd gw l gs 4 [.int .i64 q1] [([], caseP q0 4 :: nrA (isK cl) l gs, .to .normal (sVD nK nC nS k r d v cK cC ks cs ss mK mC cl gk gr gd gw l gs .newK gk gr gd gw (nrLen (isK cl) l) (nrO (isK cl) l gs q1)))] := by
  unfold rVC RunIs; cases cl <;> cases nK <;> cases nC <;> cases nS <;> kernel_rfl
theorem vC5 : rVC nK nC nS k r d v cK cC ks cs ss q0 q1 mK mC cl gk gr gd gw l gs 5 [.int .i64 q1] [([], caseP q0 5 :: nrA (isC cl) l gs, .to .normal (sVD nK nC nS k r d v cK cC ks cs ss mK mC cl gk gr gd gw l gs .newC gk gr gd gw (nrLen (isC cl) l) (nrO (isC cl) l gs q1)))] := by
  unfold rVC RunIs; cases cl <;> cases nK <;> cases nC <;> cases nS <;> kernel_rfl

/-! the rounds, and the end -/
def hlK : Nat := match hc with | .newK => hl | _ => glK cl l
def hlC : Nat := match hc with | .newC => hl | _ => glC cl l
def hrK (hs : List Int) : List Int := match hc with | .newK => hs | _ => grK cl gs
def hrC (hs : List Int) : List Int := match hc with | .newC => hs | _ => grC cl gs
def f4 (a : Nat) (ax : List Int) (b : Nat) (bx : List Int) : List Prop := [a ≤ ax.length, a ≤ 1000, b ≤ bx.length, b ≤ 1000]
def ixP (i : Int) : Prop := 0 ≤ i ∧ i < 3
def neB (a b : Bool) : Prop := isV false (!(a == b))
def neS (a b : List UInt8) : Prop := isV false (!(beqB a b))
def blk (i : Int) (k r d v : Int) (a : Nat) (ax : List Int) (b : Nat) (bx : List Int) : List Prop :=
  ixP i :: (f4 a ax b bx ++ (ixP i :: (f4 a ax b bx ++ (neB (validB k r d v a ax b bx) (validB k r d v a ax b bx) ::
  (ixP i :: (f4 a ax b bx ++ (ixP i :: (f4 a ax b bx ++ (neB (localB (validB k r d v a ax b bx) k r v) (localB (validB k r d v a ax b bx) k r v) ::
  (ixP i :: (f4 a ax b bx ++ (neB (validB k r d v a ax b bx) (validB k r d v a ax b bx) ::
  (ixP i :: (f4 a ax b bx ++ (ixP i :: (f4 a ax b bx ++ (neS (bytesS k r d v (ax.take a) (bx.take b)) (bytesS k r d v (ax.take a) (bx.take b)) :: [isV false false])))))))))))))))))
abbrev HD : List (Nat × Fix) := [(106, .give (.bool false)), (116, .give (.bool false)), (124, .give (.bool false)), (135, .give (.bool false)), (136, .give (.bool false))]
def fvF : V := .agg [.int .i64 k, .int .i64 r, slN nK 0 mK cK, .int .i64 d, .int .i64 v, slN nC 1 mC cC]
def fvG : V := .agg [.int .i64 gk, .int .i64 gr, gkV cl 4 l, .int .i64 gd, .int .i64 gw, gcV cl 4 l]
def fvH : V := .agg [.int .i64 hk, .int .i64 hr, hkV hc cl l hl, .int .i64 hd, .int .i64 hw, hcV hc cl l hl]
abbrev vDp (hs : List Int) : Prop := RunIs Try.prog cs5 HD 1000 3 Try.f11 [] (tailN 8 cdFV) (sVD nK nC nS k r d v cK cC ks cs ss mK mC cl gk gr gd gw l gs hc hk hr hd hw hl (.own .i64 hs))
    [fvF nK nC k r d v cK cC mK mC, fvF nK nC k r d v cK cC mK mC, fvG cl gk gr gd gw l, fvG cl gk gr gd gw l, fvH cl l hc hk hr hd hw hl, fvH cl l hc hk hr hd hw hl]
    [([], blk 0 k r d v (ln nK mK) (rw' nK ks) (ln nC mC) (rw' nC cs) ++ blk 1 gk gr gd gw (glK cl l) (grK cl gs) (glC cl l) (grC cl gs) ++ blk 2 hk hr hd hw (hlK cl l hc hl) (hrK cl gs hc hs) (hlC cl l hc hl) (hrC cl gs hc hs) ++ f4 (glK cl l) (grK cl gs) (glC cl l) (grC cl gs),
      .ret (.bool (validB gk gr gd gw (glK cl l) (grK cl gs) (glC cl l) (grC cl gs))) (hL (rowsV nK nC nS ks cs ss)) 3)]
end
end Go.Proofs.Ytadejpmecljjpaa
