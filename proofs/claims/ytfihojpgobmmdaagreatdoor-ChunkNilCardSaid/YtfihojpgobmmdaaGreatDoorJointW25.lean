/- Lemmas of the engine. No conditions. -/
import Derived.Test.YtfihojpgobmmdaaGreatDoorJointW03
import Derived.OpenShut
import Derived.ChangeSlices
import Derived.ChangeStays
set_option linter.unusedVariables false
set_option linter.unusedSimpArgs false
set_option linter.unusedSectionVars false
namespace Go.Eng
open Go Go.RowKit
section
variable{P:Program}{fr:Ctr}{cf:fT}{rt h1:Nat}{w0:World}
end
def Env.three(E:Env)(a b c:Option Nat):Env:=⟨fun j=>match j with|0=>a.bind E.ι|1=>b.bind E.ι|2=>c.bind E.ι|_=>none,E.β,E.φ⟩
open Go.ChangeShapes Go.WideShapes
theorem FZ{Tr:Type}{enc:TypeId×Value->Tr}{P:Program}{hm W':World}(hl:laidOutB P=true)(W:mapsRowed P=true)(hz:((List.range P.types.size).all fun t=>match P.underlying t with|some (.slice e)=>decide (0<P.cellsOf e)|_=>true)=true)
  (hb:Below hm.heap.size hm W') {sp:Nat->Bool}:∀{ts:List TypeId} {vs:List Value} {ds:List (DataW Tr)} {ps:List MemPlace},(∀t∈ts,t<P.types.size)->DataW.TrodAll enc P hm 0 (fun _=>true) true ts vs ds ps->(∀p∈ps,sp p.block=true)->DataW.TrodAll enc P W' 0 sp true ts vs ds ps
 | [],[],[],_,_,h,_=>h
 |t::ts,_::_,_::_,_,hT,⟨p,q,⟨n,N⟩,B,e⟩,hs=>by
  refine⟨p,q,⟨n,?_⟩,FZ hl W hz hb (fun t ht=>hT t (aK _ ht)) B (fun x G=>hs x (by rw[e];exact b9 _ G)),e⟩;have hz':∀{t e:TypeId},t<P.types.size->P.underlying t=some (.slice e)->0<P.cellsOf e:=by
   intro t e hl ht;have:=bt.1 hz t (List.mem_range.2 hl);rw[ht]at this;simpa using this
  refine DataW.trod_stays (T:=(. <P.types.size)) (kids_rows hl W) hz' (fun h=>by cases h) (hT t (aP ..)) N (fun x G=>?_) (fun x G=>hs x (by rw[e];exact cL _ G));exact hb.same (DataW.trod_lt n _ _ _ N x G)
theorem are{E:Env}:dL E [] []:=rfl
theorem aiN{E:Env}{x:V}{y:Value}{xs:ag}{ys:List Value}(h:dK E x y)(t:dL E xs ys):dL E (x::xs) (y::ys):=⟨y,ys,h,t,rfl⟩
end Go.Eng
