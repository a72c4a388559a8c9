/- The Doc laws: the close of a claim. No conditions. -/
import Derived.Test.YtmjggdmekboefaaGreatRows
import Derived.Test.YtmjggdmekboefaaGreatJointW05
import Derived.Test.YtmjggdmekboefaaGreatJointW17
import Derived.ChangeSame
import Derived.ProofKit
import Derived.LaidMore
import Derived.Stop.Joined
import Derived.Deep.DeepHandedRow
import Derived.JoinedCond
import Derived.ChangeMaps5
set_option linter.unusedVariables false
set_option linter.unusedSimpArgs false
set_option linter.unusedSectionVars false
namespace Go.Proofs.YtmjggdmekboefaaGreat
open Go Go.ChangeShapes Go.WideShapes Go.ChangeAt Go.RowKit Go.Eng
set_option maxRecDepth 100000
theorem own:ownKnob Tryz.prog.godebug=none:=by kernel_rfl
theorem aii:laidOutB ak=true:=by kernel_rfl
theorem au7:mapsRowed ak=true:=by kernel_rfl
theorem au8:((List.range Tryz.prog.types.size).all fun t=>match Tryz.prog.underlying t with|some (.slice e)=>decide (0<Tryz.prog.cellsOf e)|_=>true)=true:=by kernel_rfl
section
variable{dG:Type}{enc:TypeId×Value->dG}{P:Program}
theorem ED{f:Func}{s:ChangeSpec}{apart aij We aik:Bool}{ks W':World}{args:Array Value}{v:Value}{ds gs:List (DataW dG)}{rM pa pv:List MemPlace}
  (hW:DataW.Whole enc P f.params.toList s.vars apart ks args.toList ds gs rM)
  (IT:∀(b:Nat) (sp:Nat->Bool) (hd:Bool),DataW.TrodAll enc P W' b sp hd f.resultTypes.toList (v.resultList f.resultTypes.size) (s.fn dG (ds++gs)).results [])
  (mS:∀sp:Nat->Bool,(∀p∈rM,sp p.block=true)->DataW.TrodAll enc P W' 0 sp true f.params.toList args.toList (s.fn dG (ds++gs)).args pa)
  (XD:∀sp:Nat->Bool,(∀p∈rM,sp p.block=true)->DataW.TrodVars enc P W' sp s.vars (s.fn dG (ds++gs)).vars pv)
  (wo:rM=pa++pv) (U:Below ks.heap.size ks W')
  (mY:∀(j:Nat) (t:TypeId) (r:Value),f.resultTypes[j]? =some t->(v.resultList f.resultTypes.size)[j]? =some r->Value.okWide P W' .any 0 t r):
  s.post enc P f apart aij We aik ks args v W':=by
 have fj:∀p∈rM,p.block<ks.heap.size:=fun p hp=>hW.lt p hp;have qn:∀p∈rM,(fun b=>decide (b<ks.heap.size)) p.block=true:=fun p hp=>by simpa using fj p hp
 refine⟨ds,gs,rM,[],pa,pv,hW,IT _ _ _,mS _ qn,XD _ qn,World.keptBut_mono (fun p hp=>⟨hp,?_⟩) (U.frame (. ∈rM)),fun _=>?_⟩
 . rw[wo,bj]at hp;exact Or.inr hp
 . obtain⟨_,_,_,_,_,hz,hn⟩:=hW;refine⟨mY,_,_,([]++pa)++pv,⟨[]++pa,pv,trodAll_append (mS _ (fun _ _=>rfl)) (IT _ _ _),XD _ (fun _ _=>rfl),rfl,?_,?_⟩,?_⟩
   . intro b off hp;have Gg:MemPlace.cell b off∈rM:=by rw[wo];simpa using hp
     rw[U.frozen (fj _ Gg)];exact hz b off Gg
   . intro ha;have:=hn ha;rw[wo]at this;simpa using this
   . intro p hp _;rw[wo];simpa using hp
end
end Go.Proofs.YtmjggdmekboefaaGreat
