/- Lemmas of the engine. No conditions. -/
import Derived.Test.YtmjggdmekboefaaGreatJointW03
import Derived.OpenShut
import Derived.ChangeSlices
import Derived.ChangeStays
set_option linter.unusedVariables false
set_option linter.unusedSimpArgs false
set_option linter.unusedSectionVars false
namespace Go.Eng
open Go Go.RowKit
section
variable{P:Program}{dy:Ctr}{cf:gm}{iX hc:Nat}{w0:World}
end
open Go.ChangeShapes Go.WideShapes
theorem Fe{dz:Type}{enc:TypeId×Value->dz}{P:Program}{dP W':World}(hl:laidOutB P=true)(K:mapsRowed P=true)(hz:((List.range P.types.size).all fun t=>match P.underlying t with|some (.slice e)=>decide (0<P.cellsOf e)|_=>true)=true)
  (Y:Below dP.heap.size dP W') {sp:Nat->Bool}:∀{ts:List TypeId} {vs:List Value} {ds:List (DataW dz)} {ps:List MemPlace},(∀t∈ts,t<P.types.size)->DataW.TrodAll enc P dP 0 (fun _=>true) true ts vs ds ps->(∀p∈ps,sp p.block=true)->DataW.TrodAll enc P W' 0 sp true ts vs ds ps
 | [],[],[],_,_,h,_=>h
 |t::ts,_::_,_::_,_,hT,⟨p,q,⟨n,h1⟩,C,e⟩,hs=>by
  refine⟨p,q,⟨n,?_⟩,Fe hl K hz Y (fun t ht=>hT t (aZ _ ht)) C (fun x J=>hs x (by rw[e];exact List.mem_append_right _ J)),e⟩;have hz':∀{t e:TypeId},t<P.types.size->P.underlying t=some (.slice e)->0<P.cellsOf e:=by
   intro t e hl ht;have:=br.1 hz t (bN.2 hl);rw[ht]at this;simpa using this
  refine DataW.trod_stays (T:=(. <P.types.size)) (kids_rows hl K) hz' (fun h=>by cases h) (hT t (bw ..)) h1 (fun x J=>?_) (fun x J=>hs x (by rw[e];exact List.mem_append_left _ J));exact Y.same (DataW.trod_lt n _ _ _ h1 x J)
theorem atZ{E:Env}:eC E [] []:=rfl
theorem WO{E:Env}{x:V}{y:Value}{xs:ag}{ys:List Value}(h:eB E x y)(t:eC E xs ys):eC E (x::xs) (y::ys):=⟨y,ys,h,t,rfl⟩
theorem at0{E:Env}{xs:ag}{ys:List Value}(t:eC E xs ys):eB E (.agg xs) (.agg ys.toArray):=⟨ys,t,rfl⟩
end Go.Eng
