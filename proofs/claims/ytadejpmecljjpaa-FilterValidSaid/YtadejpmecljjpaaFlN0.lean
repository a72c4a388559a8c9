/- Filter laws anew, part N0: FilterValid, its rounds. No conditions. -/
import Derived.Test.YtadejpmecljjpaaFlFour
namespace Go.Proofs.Ytadejpmecljjpaa
open Go Go.Eng
section
variable (nK nC nS : Bool) (k r d v : Int) (cK cC : Nat) (ks cs ss : List Int) (mK mC : Nat) (gk gr gd gw : Int) (l : Nat) (gs : List Int) (hk hr hd hw : Int) (hl : Nat) (hs : List Int)
theorem vD_o_same_true : vDp true nC nS k r d v cK cC ks cs ss mK mC .o gk gr gd gw l gs .same hk hr hd hw hl hs := by
  unfold vDp RunIs; cases nC <;> cases nS <;> kernel_rfl
theorem vD_o_same_false : vDp false nC nS k r d v cK cC ks cs ss mK mC .o gk gr gd gw l gs .same hk hr hd hw hl hs := by
  unfold vDp RunIs; cases nC <;> cases nS <;> kernel_rfl
theorem vD_o_newK_true : vDp true nC nS k r d v cK cC ks cs ss mK mC .o gk gr gd gw l gs .newK hk hr hd hw hl hs := by
  unfold vDp RunIs; cases nC <;> cases nS <;> kernel_rfl
theorem vD_o_newK_false : vDp false nC nS k r d v cK cC ks cs ss mK mC .o gk gr gd gw l gs .newK hk hr hd hw hl hs := by
  unfold vDp RunIs; cases nC <;> cases nS <;> kernel_rfl
theorem vD_o_newC_true : vDp true nC nS k r d v cK cC ks cs ss mK mC .o gk gr gd gw l gs .newC hk hr hd hw hl hs := by
  unfold vDp RunIs; cases nC <;> cases nS <;> kernel_rfl
theorem vD_o_newC_false : vDp false nC nS k r d v cK cC ks cs ss mK mC .o gk gr gd gw l gs .newC hk hr hd hw hl hs := by
  unfold vDp RunIs; cases nC <;> cases nS <;> kernel_rfl
end
end Go.Proofs.Ytadejpmecljjpaa
