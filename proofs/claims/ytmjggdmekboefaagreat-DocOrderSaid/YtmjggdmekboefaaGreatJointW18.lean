/- The Doc laws: the close of a claim. No conditions. -/
import Derived.Test.YtmjggdmekboefaaGreatRows
import Derived.Test.YtmjggdmekboefaaGreatJointW05
import Derived.Test.YtmjggdmekboefaaGreatJointW17
import Derived.ChangeSame
import Derived.ProofKit
import Derived.LaidMore
import Derived.Stop.Joined
import Derived.Deep.DeepHandedRow
import Derived.JoinedCond
import Derived.ChangeMaps5
set_option linter.unusedVariables false
set_option linter.unusedSimpArgs false
set_option linter.unusedSectionVars false
namespace Go.Proofs.YtmjggdmekboefaaGreat
open Go Go.ChangeShapes Go.WideShapes Go.ChangeAt Go.RowKit Go.Eng
set_option maxRecDepth 100000
theorem own:ownKnob Tryz.prog.godebug=none:=by kernel_rfl
theorem afU:laidOutB ak=true:=by kernel_rfl
theorem arO:mapsRowed ak=true:=by kernel_rfl
theorem arP:((List.range Tryz.prog.types.size).all fun t=>match Tryz.prog.underlying t with|some (.slice e)=>decide (0<Tryz.prog.cellsOf e)|_=>true)=true:=by kernel_rfl
section
variable{dm:Type}{enc:TypeId×Value->dm}{P:Program}
theorem Ea{f:Func}{s:ChangeSpec}{apart fresh UX afV:Bool}{hk W':World}{args:Array Value}{v:Value}{ds gs:List (DataW dm)}{ru pa pv:List MemPlace}
  (hW:DataW.Whole enc P f.params.toList s.vars apart hk args.toList ds gs ru)
  (HS:∀(b:Nat) (sp:Nat->Bool) (hd:Bool),DataW.TrodAll enc P W' b sp hd f.resultTypes.toList (v.resultList f.resultTypes.size) (s.fn dm (ds++gs)).results [])
  (mA:∀sp:Nat->Bool,(∀p∈ru,sp p.block=true)->DataW.TrodAll enc P W' 0 sp true f.params.toList args.toList (s.fn dm (ds++gs)).args pa)
  (V1:∀sp:Nat->Bool,(∀p∈ru,sp p.block=true)->DataW.TrodVars enc P W' sp s.vars (s.fn dm (ds++gs)).vars pv)
  (vL:ru=pa++pv) (hb:Below hk.heap.size hk W')
  (mc:∀(j:Nat) (t:TypeId) (r:Value),f.resultTypes[j]? =some t->(v.resultList f.resultTypes.size)[j]? =some r->Value.okWide P W' .any 0 t r):
  s.post enc P f apart fresh UX afV hk args v W':=by
 have eO:∀p∈ru,p.block<hk.heap.size:=fun p hp=>hW.lt p hp;have og:∀p∈ru,(fun b=>decide (b<hk.heap.size)) p.block=true:=fun p hp=>by simpa using eO p hp
 refine⟨ds,gs,ru,[],pa,pv,hW,HS _ _ _,mA _ og,V1 _ og,World.keptBut_mono (fun p hp=>⟨hp,?_⟩) (hb.frame (. ∈ru)),fun _=>?_⟩
 . rw[vL,bg]at hp;exact Or.inr hp
 . obtain⟨_,_,_,_,_,hz,hn⟩:=hW;refine⟨mc,_,_,([]++pa)++pv,⟨[]++pa,pv,trodAll_append (mA _ (fun _ _=>rfl)) (HS _ _ _),V1 _ (fun _ _=>rfl),rfl,?_,?_⟩,?_⟩
   . intro b off hp;have DA:MemPlace.cell b off∈ru:=by rw[vL];simpa using hp
     rw[hb.frozen (eO _ DA)];exact hz b off DA
   . intro ha;have:=hn ha;rw[vL]at this;simpa using this
   . intro p hp _;rw[vL];simpa using hp
end
end Go.Proofs.YtmjggdmekboefaaGreat
