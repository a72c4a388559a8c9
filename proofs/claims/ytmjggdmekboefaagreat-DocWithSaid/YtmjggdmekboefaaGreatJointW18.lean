/- The Doc laws: the close of a claim. No conditions. -/
import Derived.Test.YtmjggdmekboefaaGreatRows
import Derived.Test.YtmjggdmekboefaaGreatJointW05
import Derived.Test.YtmjggdmekboefaaGreatJointW17
import Derived.ChangeSame
import Derived.ProofKit
import Derived.LaidMore
import Derived.Stop.Joined
import Derived.Deep.DeepHandedRow
import Derived.JoinedCond
import Derived.ChangeMaps5
set_option linter.unusedVariables false
set_option linter.unusedSimpArgs false
set_option linter.unusedSectionVars false
namespace Go.Proofs.YtmjggdmekboefaaGreat
open Go Go.ChangeShapes Go.WideShapes Go.ChangeAt Go.RowKit Go.Eng
set_option maxRecDepth 100000
theorem own:ownKnob Tryz.prog.godebug=none:=by kernel_rfl
theorem ahv:laidOutB ak=true:=by kernel_rfl
theorem at1:mapsRowed ak=true:=by kernel_rfl
theorem at5:((List.range Tryz.prog.types.size).all fun t=>match Tryz.prog.underlying t with|some (.slice e)=>decide (0<Tryz.prog.cellsOf e)|_=>true)=true:=by kernel_rfl
section
variable{dz:Type}{enc:TypeId×Value->dz}{P:Program}
theorem Eh{f:Func}{s:ChangeSpec}{apart ahw Vu ahx:Bool}{dP W':World}{args:Array Value}{v:Value}{ds gs:List (DataW dz)}{rB pa pv:List MemPlace}
  (hW:DataW.Whole enc P f.params.toList s.vars apart dP args.toList ds gs rB)
  (Iq:∀(b:Nat) (sp:Nat->Bool) (hd:Bool),DataW.TrodAll enc P W' b sp hd f.resultTypes.toList (v.resultList f.resultTypes.size) (s.fn dz (ds++gs)).results [])
  (mG:∀sp:Nat->Bool,(∀p∈rB,sp p.block=true)->DataW.TrodAll enc P W' 0 sp true f.params.toList args.toList (s.fn dz (ds++gs)).args pa)
  (WQ:∀sp:Nat->Bool,(∀p∈rB,sp p.block=true)->DataW.TrodVars enc P W' sp s.vars (s.fn dz (ds++gs)).vars pv)
  (Jt:rB=pa++pv) (Y:Below dP.heap.size dP W')
  (mN:∀(j:Nat) (t:TypeId) (r:Value),f.resultTypes[j]? =some t->(v.resultList f.resultTypes.size)[j]? =some r->Value.okWide P W' .any 0 t r):
  s.post enc P f apart ahw Vu ahx dP args v W':=by
 have eY:∀p∈rB,p.block<dP.heap.size:=fun p hp=>hW.lt p hp;have pW:∀p∈rB,(fun b=>decide (b<dP.heap.size)) p.block=true:=fun p hp=>by simpa using eY p hp
 refine⟨ds,gs,rB,[],pa,pv,hW,Iq _ _ _,mG _ pW,WQ _ pW,World.keptBut_mono (fun p hp=>⟨hp,?_⟩) (Y.frame (. ∈rB)),fun _=>?_⟩
 . rw[Jt,bf]at hp;exact Or.inr hp
 . obtain⟨_,_,_,_,_,hz,hn⟩:=hW;refine⟨mN,_,_,([]++pa)++pv,⟨[]++pa,pv,trodAll_append (mG _ (fun _ _=>rfl)) (Iq _ _ _),WQ _ (fun _ _=>rfl),rfl,?_,?_⟩,?_⟩
   . intro b off hp;have FR:MemPlace.cell b off∈rB:=by rw[Jt];simpa using hp
     rw[Y.frozen (eY _ FR)];exact hz b off FR
   . intro ha;have:=hn ha;rw[Jt]at this;simpa using this
   . intro p hp _;rw[Jt];simpa using hp
end
end Go.Proofs.YtmjggdmekboefaaGreat
