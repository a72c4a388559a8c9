/- Lemmas of the engine. No conditions. -/
import Derived.Test.YtmjggdmekboefaaGreatJointW03
import Derived.OpenShut
import Derived.ChangeSlices
import Derived.ChangeStays
set_option linter.unusedVariables false
set_option linter.unusedSimpArgs false
set_option linter.unusedSectionVars false
namespace Go.Eng
open Go Go.RowKit
section
variable{P:Program}{dF:Ctr}{cf:gu}{fr n0:Nat}{w0:World}
end
open Go.ChangeShapes Go.WideShapes
theorem FD{dG:Type}{enc:TypeId×Value->dG}{P:Program}{ks W':World}(hl:laidOutB P=true)(L:mapsRowed P=true)(hz:((List.range P.types.size).all fun t=>match P.underlying t with|some (.slice e)=>decide (0<P.cellsOf e)|_=>true)=true)
  (U:Below ks.heap.size ks W') {sp:Nat->Bool}:∀{ts:List TypeId} {vs:List Value} {ds:List (DataW dG)} {ps:List MemPlace},(∀t∈ts,t<P.types.size)->DataW.TrodAll enc P ks 0 (fun _=>true) true ts vs ds ps->(∀p∈ps,sp p.block=true)->DataW.TrodAll enc P W' 0 sp true ts vs ds ps
 | [],[],[],_,_,h,_=>h
 |t::ts,_::_,_::_,_,hT,⟨p,q,⟨n,h1⟩,C,e⟩,hs=>by
  refine⟨p,q,⟨n,?_⟩,FD hl L hz U (fun t ht=>hT t (bh _ ht)) C (fun x K=>hs x (by rw[e];exact List.mem_append_right _ K)),e⟩;have hz':∀{t e:TypeId},t<P.types.size->P.underlying t=some (.slice e)->0<P.cellsOf e:=by
   intro t e hl ht;have:=bw.1 hz t (bQ.2 hl);rw[ht]at this;simpa using this
  refine DataW.trod_stays (T:=(. <P.types.size)) (kids_rows hl L) hz' (fun h=>by cases h) (hT t (bB ..)) h1 (fun x K=>?_) (fun x K=>hs x (by rw[e];exact List.mem_append_left _ K));exact U.same (DataW.trod_lt n _ _ _ h1 x K)
section
variable{E:Env}{xs:ag}{ys:List Value}
theorem au4:eK E [] []:=rfl
theorem Tc{x:V}{y:Value}{xs:ag}{ys:List Value}(h:eH E x y)(t:eK E xs ys):eK E (x::xs) (y::ys):=⟨y,ys,h,t,rfl⟩
theorem au5(t:eK E xs ys):eH E (.agg xs) (.agg ys.toArray):=⟨ys,t,rfl⟩
theorem au6{k:IntKind}{n:Int}:eH E (.int k n) (.int k n):=rfl
end
end Go.Eng
