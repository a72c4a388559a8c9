/- Lemmas of the engine. No conditions. -/
import Derived.Test.YtmjggdmekboefaaGreatJointW03
import Derived.OpenShut
import Derived.ChangeSlices
import Derived.ChangeStays
set_option linter.unusedVariables false
set_option linter.unusedSimpArgs false
set_option linter.unusedSectionVars false
namespace Go.Eng
open Go Go.RowKit
section
variable{P:Program}{fm:Ctr}{cf:fO}{n0 fr:Nat}{w0:World}
end
def Env.three(E:Env)(a b c:Option Nat):Env:=⟨fun j=>match j with|0=>a.bind E.ι|1=>b.bind E.ι|2=>c.bind E.ι|_=>none,E.β,E.φ⟩
open Go.ChangeShapes Go.WideShapes
theorem E6{dm:Type}{enc:TypeId×Value->dm}{P:Program}{hk W':World}(hl:laidOutB P=true)(K:mapsRowed P=true)(hz:((List.range P.types.size).all fun t=>match P.underlying t with|some (.slice e)=>decide (0<P.cellsOf e)|_=>true)=true)
  (hb:Below hk.heap.size hk W') {sp:Nat->Bool}:∀{ts:List TypeId} {vs:List Value} {ds:List (DataW dm)} {ps:List MemPlace},(∀t∈ts,t<P.types.size)->DataW.TrodAll enc P hk 0 (fun _=>true) true ts vs ds ps->(∀p∈ps,sp p.block=true)->DataW.TrodAll enc P W' 0 sp true ts vs ds ps
 | [],[],[],_,_,h,_=>h
 |t::ts,_::_,_::_,_,hT,⟨p,q,⟨n,Q⟩,O,e⟩,hs=>by
  refine⟨p,q,⟨n,?_⟩,E6 hl K hz hb (fun t ht=>hT t (bj _ ht)) O (fun x I=>hs x (by rw[e];exact List.mem_append_right _ I)),e⟩;have hz':∀{t e:TypeId},t<P.types.size->P.underlying t=some (.slice e)->0<P.cellsOf e:=by
   intro t e hl ht;have:=br.1 hz t (bL.2 hl);rw[ht]at this;simpa using this
  refine DataW.trod_stays (T:=(. <P.types.size)) (kids_rows hl K) hz' (fun h=>by cases h) (hT t (bx ..)) Q (fun x I=>?_) (fun x I=>hs x (by rw[e];exact List.mem_append_left _ I));exact hb.same (DataW.trod_lt n _ _ _ Q x I)
theorem arN{E:Env}:dZ E [] []:=rfl
theorem afT{E:Env}{x:V}{y:Value}{xs:ag}{ys:List Value}(h:dV E x y)(t:dZ E xs ys):dZ E (x::xs) (y::ys):=⟨y,ys,h,t,rfl⟩
end Go.Eng
