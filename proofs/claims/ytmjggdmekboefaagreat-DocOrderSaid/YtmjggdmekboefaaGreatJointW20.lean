/- The Doc laws: numbers that come in. No conditions. -/
import Derived.Test.YtmjggdmekboefaaGreatJointW18
import Derived.Test.YtmjggdmekboefaaGreatJointW19
set_option linter.unusedVariables false
set_option linter.unusedSimpArgs false
set_option linter.unusedSectionVars false
namespace Go.Proofs.YtmjggdmekboefaaGreat
open Go Go.ChangeShapes Go.WideShapes Go.ChangeAt Go.RowKit Go.Eng
set_option linter.constructorNameAsVariable false
theorem E7:∀{rows:List (ai)},(∀r∈rows,Ty.ok (.int .i64) r)->∃l:List Int,rows.flatten=l.map (.int .i64)/\l.length=rows.length
 | [],_=>⟨[],rfl,rfl⟩
 |r::rows,h=>by
  obtain⟨l,Q,O⟩:=E7 (rows:=rows) fun x I=>h x (bj _ I);obtain⟨n,rfl,_⟩:=h r (by simp);exact⟨n::l,by rw[List.flatten_cons,Q];rfl,by simp[O]⟩
section
variable{dm:Type}{enc:TypeId×Value->dm}{w:World}{r:Reach}{base:Nat}{t:TypeId}{v:Value}{d:DataW dm}{ps:List MemPlace}{Dw:Nat->Bool}{Lc:Bool}
theorem UZ{es:Ty}(n:Nat)(hT:GJ ak n t=some es)(hs:∀R,v≠ .agg R)(h:DataW.Trod enc ak w 0 Dw Lc t v d ps):∃ds,es.ok ds/\iS (vU w) ds [v]:=by
 obtain⟨fuel,h⟩:=h;have e:v.cells.toList=[v]:=by cases v<;>first|rfl|exact absurd rfl (hs _)
 rw[e]at h;exact BK n hT h
theorem ZY(h:Value.okWide ak w r base t v)(ht:∀fs,Tryz.prog.underlying t≠some (.struct fs))(ht2:∀k e,Tryz.prog.underlying t≠some (.array k e)):∀R,v≠ .agg R:=by
 rintro R rfl;unfold Value.okWide at h;split at h
 . rename_i q;exact ht _ q
 . rename_i q;exact ht2 _ _ q
 . unfold Cell.okWide Cell.ok at h;split at h<;>first|(split at h<;>simp_all)|simp_all
theorem U0(hT:GJ ak 9 t=some (.eR (.int .i64)))(hs:∀R,v≠ .agg R)(h:DataW.Trod enc ak w 0 Dw Lc t v d ps):∃l:List Int,kS (vU w) (.eB l.length (l.map (.int .i64))) v:=by
 obtain⟨xs0,⟨aty,rfl,_,ZZ⟩,y0,ys0,_,Vs,_,e0⟩:=UZ 9 hT hs h;cases e0;obtain⟨l,arR,arS⟩:=E7 ZZ;rw[arR,<- arS]at Vs;exact⟨l,Vs⟩
end
theorem NN{f:FuncId}{fn:Func}{code:Code}(hf:Tryz.prog.funcs[f]? =some fn)(hb:fn.body=some code){args:ag}{vs:List Value}{w:World}
  (l:(Nat.ble args.length fn.ntmps&&Nat.blt fn.ntmps fZ)=true) (hT:TG ak 0 fn.ntmps code (dy args .nil 0) (fH ak 0 fn fun u _ _=>u= .bool true))
  (ra:dZ (Bo (vU w)) args vs):Calls ak f vs.toArray w fun e w'=>e= .returned (.bool true)/\Below w.heap.size w w':=by
 have g:Eng.Good (Bo (vU w)) .nil w:=wR (fun p hp=>by cases hp) (UY w);refine(CJ mo po hf hb l hT ra g (Cw (aK _)) wX).mono fun e w' ⟨⟨E2,ho⟩,hbl⟩=>⟨?_,hbl⟩;cases e with
 |returned v'=>
  have ho:dV E2 (.bool true) v':=ho;simp only[dV]at ho;rw[ho]
 |_=>exact ho.elim
end Go.Proofs.YtmjggdmekboefaaGreat
