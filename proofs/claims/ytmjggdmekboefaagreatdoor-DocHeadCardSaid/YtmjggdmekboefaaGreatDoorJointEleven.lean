/- The engine, part DO: rows of deep values that are integers, as rows of integers. No conditions: lemmas alone. -/
import Derived.Test.YtmjggdmekboefaaGreatDoorJointSeven
set_option linter.unusedVariables false
set_option linter.unusedSimpArgs false
set_option linter.unusedSectionVars false
namespace Go.Eng
open Go Go.RowKit
theorem deep_own {E:Env} {w:World} {b s:Nat} {ds:List D} {k:IntKind} {ks:List Int} (hk:intsOf k (D.toVs ds)=some ks) (r:orel E w b s (.deep ds)):orel E w b s (.own k ks):=by
 obtain ⟨c,el,fz,vs,h1,h2,h3,h4,h5⟩:=r
 refine ⟨c,el,fz,h1,h2,h3,?_⟩
 rw [← intsOf_eq hk]
 exact crel_iff.2 ⟨vs,drels_toV ds vs h4,h5⟩
def dowS (m:Nat) (k:IntKind) (s:St):Option St:=match Nat.blt m top,s.h.get m with
 | true,some (.deep ds)=>match intsOf k (D.toVs ds) with
   | some ks=>some { s with h:=s.h.set m (some (.own k ks)) }
   | none=>none
 | _,_=>none
theorem Goes.dow {P:Program} {n0 N:Nat} {s S:St} (m:Nat) (k:IntKind) (e:dowS m k s=some S):Goes P n0 N s S:=by
 unfold dowS at e
 split at e
 case h_2=>cases e
 rename_i ds hb hm
 split at e
 case h_2=>cases e
 rename_i ks hk
 simp only [Option.some.injEq] at e; subst e
 exact fun c Q h=>TG_mem (fun E w g=>swap_good (Nat.le_of_ble_eq_true hb) hm rfl (fun b s _ q=>deep_own hk q) g) h
end Go.Eng
