/- The Doc laws: the close of a claim. No conditions. -/
import Derived.Test.YtmjggdmekboefaaGreatRows
import Derived.Test.YtmjggdmekboefaaGreatJointW05
import Derived.Test.YtmjggdmekboefaaGreatJointW16
import Derived.ChangeSame
import Derived.ProofKit
import Derived.LaidMore
import Derived.Stop.Joined
import Derived.Deep.DeepHandedRow
import Derived.JoinedCond
import Derived.ChangeMaps5
set_option linter.unusedVariables false
set_option linter.unusedSimpArgs false
set_option linter.unusedSectionVars false
namespace Go.Proofs.YtmjggdmekboefaaGreat
open Go Go.ChangeShapes Go.WideShapes Go.ChangeAt Go.RowKit Go.Eng
set_option maxRecDepth 100000
theorem own:ownKnob Tryz.prog.godebug=none:=by kernel_rfl
theorem aeE:laidOutB ak=true:=by kernel_rfl
theorem aqs:mapsRowed ak=true:=by kernel_rfl
theorem aqt:((List.range Tryz.prog.types.size).all fun t=>match Tryz.prog.underlying t with|some (.slice e)=>decide (0<Tryz.prog.cellsOf e)|_=>true)=true:=by kernel_rfl
section
variable{hx:Type}{enc:TypeId×Value->hx}{P:Program}
theorem DD{f:Func}{s:ChangeSpec}{apart fresh T6 aeF:Bool}{hL W':World}{args:Array Value}{v:Value}{ds gs:List (DataW hx)}{qT pa pv:List MemPlace}
  (hW:DataW.Whole enc P f.params.toList s.vars apart hL args.toList ds gs qT)
  (G9:∀(b:Nat) (sp:Nat->Bool) (hd:Bool),DataW.TrodAll enc P W' b sp hd f.resultTypes.toList (v.resultList f.resultTypes.size) (s.fn hx (ds++gs)).results [])
  (mj:∀sp:Nat->Bool,(∀p∈qT,sp p.block=true)->DataW.TrodAll enc P W' 0 sp true f.params.toList args.toList (s.fn hx (ds++gs)).args pa)
  (Vb:∀sp:Nat->Bool,(∀p∈qT,sp p.block=true)->DataW.TrodVars enc P W' sp s.vars (s.fn hx (ds++gs)).vars pv)
  (EN:qT=pa++pv) (hb:Below hL.heap.size hL W')
  (mC:∀(j:Nat) (t:TypeId) (r:Value),f.resultTypes[j]? =some t->(v.resultList f.resultTypes.size)[j]? =some r->Value.okWide P W' .any 0 t r):
  s.post enc P f apart fresh T6 aeF hL args v W':=by
 have eM:∀p∈qT,p.block<hL.heap.size:=fun p hp=>hW.lt p hp;have n7:∀p∈qT,(fun b=>decide (b<hL.heap.size)) p.block=true:=fun p hp=>by simpa using eM p hp
 refine⟨ds,gs,qT,[],pa,pv,hW,G9 _ _ _,mj _ n7,Vb _ n7,World.keptBut_mono (fun p hp=>⟨hp,?_⟩) (hb.frame (. ∈qT)),fun _=>?_⟩
 . rw[EN,bf]at hp;exact Or.inr hp
 . obtain⟨_,_,_,_,_,hz,hn⟩:=hW;refine⟨mC,_,_,([]++pa)++pv,⟨[]++pa,pv,trodAll_append (mj _ (fun _ _=>rfl)) (G9 _ _ _),Vb _ (fun _ _=>rfl),rfl,?_,?_⟩,?_⟩
   . intro b off hp;have D2:MemPlace.cell b off∈qT:=by rw[EN];simpa using hp
     rw[hb.frozen (eM _ D2)];exact hz b off D2
   . intro ha;have:=hn ha;rw[EN]at this;simpa using this
   . intro p hp _;rw[EN];simpa using hp
end
end Go.Proofs.YtmjggdmekboefaaGreat
