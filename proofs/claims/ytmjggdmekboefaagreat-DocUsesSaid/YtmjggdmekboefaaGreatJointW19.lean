/- The Doc laws: numbers that come in. No conditions. -/
import Derived.Test.YtmjggdmekboefaaGreatJointW17
import Derived.Test.YtmjggdmekboefaaGreatJointW18
set_option linter.unusedVariables false
set_option linter.unusedSimpArgs false
set_option linter.unusedSectionVars false
namespace Go.Proofs.YtmjggdmekboefaaGreat
open Go Go.ChangeShapes Go.WideShapes Go.ChangeAt Go.RowKit Go.Eng
set_option linter.constructorNameAsVariable false
theorem Eu:∀{rows:List (ai)},(∀r∈rows,Ty.ok (.int .i64) r)->∃l:List Int,rows.flatten=l.map (.int .i64)/\l.length=rows.length
 | [],_=>⟨[],rfl,rfl⟩
 |r::rows,h=>by
  obtain⟨l,Q,R⟩:=Eu (rows:=rows) fun x H=>h x (bj _ H);obtain⟨n,rfl,_⟩:=h r (by simp);exact⟨n::l,by rw[List.flatten_cons,Q];rfl,by simp[R]⟩
section
variable{hx:Type}{enc:TypeId×Value->hx}{w:World}{r:Reach}{base:Nat}{t:TypeId}{v:Value}{d:DataW hx}{ps:List MemPlace}{CR:Nat->Bool}{KA:Bool}
theorem T8{cs:Ty}(n:Nat)(hT:F6 ak n t=some cs)(hs:∀T,v≠ .agg T)(h:DataW.Trod enc ak w 0 CR KA t v d ps):∃ds,cs.ok ds/\iN (vB w) ds [v]:=by
 obtain⟨fuel,h⟩:=h;have e:v.cells.toList=[v]:=by cases v<;>first|rfl|exact absurd rfl (hs _)
 rw[e]at h;exact Bm n hT h
theorem Y0(h:Value.okWide ak w r base t v)(ht:∀fs,Tryz.prog.underlying t≠some (.struct fs))(ZJ:∀k e,Tryz.prog.underlying t≠some (.array k e)):∀T,v≠ .agg T:=by
 rintro T rfl;unfold Value.okWide at h;split at h
 . rename_i q;exact ht _ q
 . rename_i q;exact ZJ _ _ q
 . unfold Cell.okWide Cell.ok at h;split at h<;>first|(split at h<;>simp_all)|simp_all
theorem T9(hT:F6 ak 9 t=some (.eS (.int .i64)))(hs:∀T,v≠ .agg T)(h:DataW.Trod enc ak w 0 CR KA t v d ps):∃l:List Int,kN (vB w) (.eo l.length (l.map (.int .i64))) v:=by
 obtain⟨xs0,⟨asn,rfl,_,Y1⟩,y0,ys0,_,UA,_,e0⟩:=T8 9 hT hs h;cases e0;obtain⟨l,aqv,aqw⟩:=Eu Y1;rw[aqv,<- aqw]at UA;exact⟨l,UA⟩
end
theorem MY{f:FuncId}{fn:Func}{code:Code}(hf:Tryz.prog.funcs[f]? =some fn)(hb:fn.body=some code){args:ag}{vs:List Value}{w:World}
  (l:(Nat.ble args.length fn.ntmps&&Nat.blt fn.ntmps fV)=true) (hT:TG ak 0 fn.ntmps code (dw args .nil 0) (fD ak 0 fn fun u _ _=>u= .bool true))
  (ra:dV (AW (vB w)) args vs):Calls ak f vs.toArray w fun e w'=>e= .returned (.bool true)/\Below w.heap.size w w':=by
 have g:Eng.Good (AW (vB w)) .nil w:=wA (fun p hp=>by cases hp) (T7 w);refine(Cj mo po hf hb l hT ra g (B6 (aK _)) wG).mono fun e w' ⟨⟨E2,ho⟩,hbl⟩=>⟨?_,hbl⟩;cases e with
 |returned v'=>
  have ho:dQ E2 (.bool true) v':=ho;simp only[dQ]at ho;rw[ho]
 |_=>exact ho.elim
end Go.Proofs.YtmjggdmekboefaaGreat
