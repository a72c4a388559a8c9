/- Lemmas of the engine. No conditions. -/
import Derived.Test.YtfihojpgobmmdaaGreatDoorJointW03
import Derived.OpenShut
import Derived.ChangeSlices
import Derived.ChangeStays
set_option linter.unusedVariables false
set_option linter.unusedSimpArgs false
set_option linter.unusedSectionVars false
namespace Go.Eng
open Go Go.RowKit
section
variable{P:Program}{fr:Ctr}{cf:ga}{fl rt:Nat}{w0:World}
end
open Go.ChangeShapes Go.WideShapes
theorem Gr{Tr:Type}{enc:TypeId×Value->Tr}{P:Program}{hm W':World}(hl:laidOutB P=true)(W:mapsRowed P=true)(hz:((List.range P.types.size).all fun t=>match P.underlying t with|some (.slice e)=>decide (0<P.cellsOf e)|_=>true)=true)
  (hb:Below hm.heap.size hm W') {sp:Nat->Bool}:∀{ts:List TypeId} {vs:List Value} {ds:List (DataW Tr)} {ps:List MemPlace},(∀t∈ts,t<P.types.size)->DataW.TrodAll enc P hm 0 (fun _=>true) true ts vs ds ps->(∀p∈ps,sp p.block=true)->DataW.TrodAll enc P W' 0 sp true ts vs ds ps
 | [],[],[],_,_,h,_=>h
 |t::ts,_::_,_::_,_,hT,⟨p,q,⟨n,X⟩,h2,e⟩,hs=>by
  refine⟨p,q,⟨n,?_⟩,Gr hl W hz hb (fun t ht=>hT t (aM _ ht)) h2 (fun x M=>hs x (by rw[e];exact cj _ M)),e⟩;have hz':∀{t e:TypeId},t<P.types.size->P.underlying t=some (.slice e)->0<P.cellsOf e:=by
   intro t e hl ht;have:=bt.1 hz t (List.mem_range.2 hl);rw[ht]at this;simpa using this
  refine DataW.trod_stays (T:=(. <P.types.size)) (kids_rows hl W) hz' (fun h=>by cases h) (hT t (aQ ..)) X (fun x M=>?_) (fun x M=>hs x (by rw[e];exact cL _ M));exact hb.same (DataW.trod_lt n _ _ _ X x M)
theorem asl{E:Env}:dK E [] []:=rfl
theorem UW{E:Env}{x:V}{y:Value}{xs:ag}{ys:List Value}(h:dJ E x y)(t:dK E xs ys):dK E (x::xs) (y::ys):=⟨y,ys,h,t,rfl⟩
end Go.Eng
