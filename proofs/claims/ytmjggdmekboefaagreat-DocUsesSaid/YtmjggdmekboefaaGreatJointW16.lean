/- Lemmas of the engine. No conditions. -/
import Derived.Test.YtmjggdmekboefaaGreatJointW03
import Derived.OpenShut
import Derived.ChangeSlices
import Derived.ChangeStays
set_option linter.unusedVariables false
set_option linter.unusedSimpArgs false
set_option linter.unusedSectionVars false
namespace Go.Eng
open Go Go.RowKit
section
variable{P:Program}{hm:Zi}{cf:fL}{fr n0:Nat}{w0:World}
end
def Env.three(E:Env)(a b c:Option Nat):Env:=⟨fun j=>match j with|0=>a.bind E.ι|1=>b.bind E.ι|2=>c.bind E.ι|_=>none,E.β,E.φ⟩
open Go.ChangeShapes Go.WideShapes
theorem Et{hx:Type}{enc:TypeId×Value->hx}{P:Program}{hL W':World}(hl:laidOutB P=true)(S:mapsRowed P=true)(hz:((List.range P.types.size).all fun t=>match P.underlying t with|some (.slice e)=>decide (0<P.cellsOf e)|_=>true)=true)
  (hb:Below hL.heap.size hL W') {sp:Nat->Bool}:∀{ts:List TypeId} {vs:List Value} {ds:List (DataW hx)} {ps:List MemPlace},(∀t∈ts,t<P.types.size)->DataW.TrodAll enc P hL 0 (fun _=>true) true ts vs ds ps->(∀p∈ps,sp p.block=true)->DataW.TrodAll enc P W' 0 sp true ts vs ds ps
 | [],[],[],_,_,h,_=>h
 |t::ts,_::_,_::_,_,hT,⟨p,q,⟨n,Q⟩,R,e⟩,hs=>by
  refine⟨p,q,⟨n,?_⟩,Et hl S hz hb (fun t ht=>hT t (bj _ ht)) R (fun x H=>hs x (by rw[e];exact List.mem_append_right _ H)),e⟩;have hz':∀{t e:TypeId},t<P.types.size->P.underlying t=some (.slice e)->0<P.cellsOf e:=by
   intro t e hl ht;have:=bq.1 hz t (bH.2 hl);rw[ht]at this;simpa using this
  refine DataW.trod_stays (T:=(. <P.types.size)) (kids_rows hl S) hz' (fun h=>by cases h) (hT t (bz ..)) Q (fun x H=>?_) (fun x H=>hs x (by rw[e];exact cN _ H));exact hb.same (DataW.trod_lt n _ _ _ Q x H)
theorem aqr{E:Env}:dV E [] []:=rfl
theorem aeD{E:Env}{x:V}{y:Value}{xs:ag}{ys:List Value}(h:dQ E x y)(t:dV E xs ys):dV E (x::xs) (y::ys):=⟨y,ys,h,t,rfl⟩
end Go.Eng
