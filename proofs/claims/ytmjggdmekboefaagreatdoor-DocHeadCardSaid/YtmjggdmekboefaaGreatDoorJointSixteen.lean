/- The engine, part ZF: several pieces at once; three rows. No conditions: lemmas alone. -/
import Derived.Test.YtmjggdmekboefaaGreatDoorJointFour
import Derived.OpenShut
import Derived.Below
import Derived.ChangeSlices
import Derived.ChangeStays
set_option linter.unusedVariables false
set_option linter.unusedSimpArgs false
set_option linter.unusedSectionVars false
namespace Go.Eng
open Go Go.RowKit
section
variable {P:Program} {S:Ctr} {cf:CallF} {F N:Nat} {w0:World}
end
def Env.three (E:Env) (a b c:Option Nat):Env:=⟨fun j=>match j with | 0=>a.bind E.ι | 1=>b.bind E.ι | 2=>c.bind E.ι | _=>none,E.β,E.φ⟩
end Go.Eng
namespace Go.Eng
open Go Go.RowKit Go.ChangeShapes Go.WideShapes
theorem args_stay {H:Type} {enc:TypeId × Value→H} {P:Program} {W W':World} (hl:laidOutB P=true) (hm:mapsRowed P=true) (hz:((List.range P.types.size).all fun t=>match P.underlying t with | some (.slice e)=>decide (0 < P.cellsOf e) | _=>true)=true)
  (hb:Below W.heap.size W W') {sp:Nat→Bool}:∀ {ts:List TypeId} {vs:List Value} {ds:List (DataW H)} {ps:List MemPlace},(∀ t ∈ ts,t < P.types.size)→DataW.TrodAll enc P W 0 (fun _=>true) true ts vs ds ps→(∀ p ∈ ps,sp p.block=true)→DataW.TrodAll enc P W' 0 sp true ts vs ds ps
 | [],[],[],_,_,h,_=>h
 | t :: ts,_ :: _,_ :: _,_,hT,⟨p,q,⟨n,h1⟩,h2,e⟩,hs=>by
   refine ⟨p,q,⟨n,?_⟩,args_stay hl hm hz hb (fun t ht=>hT t (List.mem_cons_of_mem _ ht)) h2 (fun x hx=>hs x (by rw [e]; exact List.mem_append_right _ hx)),e⟩
   have hz':∀ {t e:TypeId},t < P.types.size→P.underlying t=some (.slice e)→0 < P.cellsOf e:=by
    intro t e hl ht
    have:=List.all_eq_true.1 hz t (List.mem_range.2 hl)
    rw [ht] at this
    simpa using this
   refine DataW.trod_stays (T:=(· < P.types.size)) (kids_rows hl hm) hz' (fun h=>by cases h) (hT t (List.mem_cons_self ..)) h1 (fun x hx=>?_) (fun x hx=>hs x (by rw [e]; exact List.mem_append_left _ hx))
   exact hb.same (DataW.trod_lt n _ _ _ h1 x hx)
theorem struct_in {H:Type} {enc:TypeId × Value→H} {P:Program} {W:World} {r:Reach} {base:Nat} {t:TypeId} {fs:Array Field} {v:Value} {d:DataW H} {p:List MemPlace} {us:List TypeId} (hs:P.underlying t=some (.struct fs)) (hC:P.cellsOf t=fs.size) (hU:P.cellTypes P.depth t=some us) (hul:us.length=fs.size)
  (hf:∀ (j:Nat) f,fs[j]? =some f→f.offset=j∧P.cellsOf f.type=1∧us[j]? =some f.type)
  (hv:Value.okWide P W r base t v) (h:DataW.Trod enc P W 0 (fun _=>true) true t v d p):
  ∃ cs:Array Value,v= .agg cs∧cs.size=fs.size∧∃ n,∀ (j:Nat) f,fs[j]? =some f→∃ x y,cs[j]? =some x∧Cell.okWide P W r base f.type x∧DataW.trod enc P W 0 (fun _=>true) true n f.type [x]=some y:=by
 simp only [Value.okWide,hs] at hv
 obtain ⟨cs,rfl,hsz,ts,hts,_,hrow⟩:=hv
 rw [hU] at hts
 simp only [Option.some.injEq] at hts
 subst hts
 obtain ⟨fuel,h⟩:=h
 obtain ⟨xs,n,_,_,_,hxl,hx⟩:=DataW.trod_struct hs h
 refine ⟨cs,rfl,by omega,n,fun j f hj=>?_⟩
 obtain ⟨ho,h1,hu⟩:=hf j f hj
 have hjl:j < fs.size:=(Array.getElem?_eq_some_iff.1 hj).1
 have hcs:cs[j]? =some (cs[j]'(by omega)):=Array.getElem?_eq_getElem (by omega)
 have hg:=hx j f hj
 rw [ho,h1] at hg
 have e1:((Value.agg cs).cells.toList.drop j).take 1=[cs[j]'(by omega)]:=by
  simp only [Value.cells]
  rw [List.drop_eq_getElem_cons (by simp; omega)]
  simp
 rw [e1] at hg
 have hxj:xs[j]? =some (xs[j]'(by omega)):=List.getElem?_eq_getElem (by omega)
 obtain ⟨u,hu1,hu2⟩:=hrow j _ hcs
 rw [hul,Nat.mod_eq_of_lt hjl,hu] at hu1
 simp only [Option.some.injEq] at hu1
 subst hu1
 exact ⟨_,_,hcs,hu2,hg.trans hxj⟩
theorem vnil {E:Env}:vrels E [] []:=rfl
theorem vcons {E:Env} {x:V} {y:Value} {xs:List V} {ys:List Value} (h:vrel E x y) (t:vrels E xs ys):vrels E (x :: xs) (y :: ys):=⟨y,ys,h,t,rfl⟩
theorem vagg {E:Env} {xs:List V} {ys:List Value} (t:vrels E xs ys):vrel E (.agg xs) (.agg ys.toArray):=⟨ys,t,rfl⟩
theorem vint {E:Env} {k:IntKind} {n:Int}:vrel E (.int k n) (.int k n):=rfl
theorem int_in {H:Type} {enc:TypeId × Value→H} {P:Program} {W:World} {t:TypeId} {k:IntKind} {n:Nat} {v:Value} {y:DataW H × List MemPlace} (ht:P.underlying t=some (.int k)) (h:DataW.trod enc P W 0 (fun _=>true) true n t [v]=some y):∃ i,v= .int k i:=by
 obtain ⟨i,h1,_⟩:=DataW.trod_int ht h
 exact ⟨i,by simpa using h1⟩
end Go.Eng
