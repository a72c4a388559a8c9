/- The Doc laws: the close of a claim; a start that fits. No conditions. -/
import Derived.Test.YtmjggdmekboefaaGreatDoorJointFifteen
import Derived.Test.YtmjggdmekboefaaGreatDoorJointSixteen
import Derived.ChangeSame
import Derived.LaidMore
import Derived.Stop.Joined
set_option linter.unusedVariables false
set_option linter.unusedSimpArgs false
set_option linter.unusedSectionVars false
namespace Go.Proofs.YtmjggdmekboefaaGreatDoor.Sha
open Go Go.ChangeShapes Go.WideShapes Go.ChangeAt Go.RowKit Go.Eng
set_option linter.unusedVariables false
set_option maxRecDepth 100000
theorem own:ownKnob Tryz.prog.godebug=none:=by kernel_rfl
theorem laidO:laidOutB Tryz.prog=true:=by kernel_rfl
theorem mapd:mapsRowed Tryz.prog=true:=by kernel_rfl
theorem full:((List.range Tryz.prog.types.size).all fun t=>match Tryz.prog.underlying t with | some (.slice e)=>decide (0 < Tryz.prog.cellsOf e) | _=>true)=true:=by kernel_rfl
section
variable {H:Type} {enc:TypeId × Value→H} {P:Program}
theorem post_of_below {f:Func} {s:ChangeSpec} {apart fresh handsOn again:Bool} {W W':World} {args:Array Value} {v:Value} {ds gs:List (DataW H)} {before pa pv:List MemPlace}
  (hW:DataW.Whole enc P f.params.toList s.vars apart W args.toList ds gs before)
  (hres:∀ (b:Nat) (sp:Nat→Bool) (hd:Bool),DataW.TrodAll enc P W' b sp hd f.resultTypes.toList (v.resultList f.resultTypes.size) (s.fn H (ds ++ gs)).results [])
  (hargs:∀ sp:Nat→Bool,(∀ p ∈ before,sp p.block=true)→DataW.TrodAll enc P W' 0 sp true f.params.toList args.toList (s.fn H (ds ++ gs)).args pa)
  (hvars:∀ sp:Nat→Bool,(∀ p ∈ before,sp p.block=true)→DataW.TrodVars enc P W' sp s.vars (s.fn H (ds ++ gs)).vars pv)
  (hps:before=pa ++ pv) (hb:Below W.heap.size W W')
  (hok:∀ (j:Nat) (t:TypeId) (r:Value),f.resultTypes[j]? =some t→(v.resultList f.resultTypes.size)[j]? =some r→Value.okWide P W' .any 0 t r):
  s.post enc P f apart fresh handsOn again W args v W':=by
 have hlt:∀ p ∈ before,p.block < W.heap.size:=fun p hp=>hW.lt p hp
 have hold:∀ p ∈ before,(fun b=>decide (b < W.heap.size)) p.block=true:=fun p hp=>by simpa using hlt p hp
 refine ⟨ds,gs,before,[],pa,pv,hW,hres _ _ _,hargs _ hold,hvars _ hold,World.keptBut_mono (fun p hp=>⟨hp,?_⟩) (hb.frame (· ∈ before)),fun _=>?_⟩
 · rw [hps,List.mem_append] at hp
   exact Or.inr hp
 · obtain ⟨_,_,_,_,_,hz,hn⟩:=hW
   refine ⟨hok,_,_,([] ++ pa) ++ pv,⟨[] ++ pa,pv,trodAll_append (hargs _ (fun _ _=>rfl)) (hres _ _ _),hvars _ (fun _ _=>rfl),rfl,?_,?_⟩,?_⟩
   · intro b off hp
     have hin:MemPlace.cell b off ∈ before:=by rw [hps]; simpa using hp
     rw [hb.frozen (hlt _ hin)]
     exact hz b off hin
   · intro ha
     have:=hn ha
     rw [hps] at this
     simpa using this
   · intro p hp _
     rw [hps]
     simpa using hp
end
theorem door_met (os:Os) (args:Array Value):laidMetH Tryz.prog laidL ((World.doorLaid Tryz.prog 400 os).forCall (fun _ _=>0) ⟨#[],args,[]⟩).memory:=
 laidMetH_of_parts3 (fuel:=8) (laidMet_of_run' 8 (by kernel_rfl) (by kernel_rfl)) (by kernel_rfl) (by kernel_rfl)
theorem wg_of {w:World} (h:w.ShapedOpen Tryz.prog):WG w:=by
 obtain ⟨h1,_⟩:=h
 have key:∀ g,g < 3→g < w.heap.size:=by
  intro g hg
  have hrow:∃ zero t,((begin Tryz.prog (fun _ _=>0) default).world.heap[g]?).bind Obj.row? =some (zero,t):=by
   have hs:(((begin Tryz.prog (fun _ _=>0) default).world.heap[g]?).bind Obj.row?).isSome=true:=by
    rcases g with _ | _ | _ | g
    · kernel_rfl
    · kernel_rfl
    · kernel_rfl
    · omega
   obtain ⟨⟨zero,t⟩,e⟩:=Option.isSome_iff_exists.1 hs
   exact ⟨zero,t,e⟩
  obtain ⟨zero,t,hr⟩:=hrow
  obtain ⟨cs,hcs,_⟩:=h1 g zero t (Nat.lt_of_lt_of_le hg (Nat.le_of_ble_eq_true (by kernel_rfl))) hr
  exact (Array.getElem?_eq_some_iff.1 hcs).1
 intro p hp
 simp only [gtab,List.mem_cons,List.not_mem_nil,or_false] at hp
 rcases hp with rfl | rfl | rfl <;> exact key _ (by decide)
theorem handed {a:Assume} {os:Os} {f:FuncId} {fn:Func} {s:ChangeSpec} {apart fresh handsOn again:Bool} {H:Type} {enc:TypeId × Value→H} (started:os.Started) (noInit:Tryz.checked.prog.inits.idxOf? f=none) (hfn:Tryz.checked.prog.funcs[f]? =some fn)
  (witness:∃ (w:World) (tape:Tape) (i:Input),w.os=os∧(w.forCall tape i).Shaped Tryz.checked.prog∧i.vars=[]∧Input.okWide Tryz.checked.prog (w.forCall tape i) .any w.heap.size f i∧
   ((s.pre enc Tryz.checked.prog fn [] apart (w.forCall tape i).memory i.args∧laidMetH Tryz.prog laidL (w.forCall tape i).memory)∧sizedMet enc Tryz.checked.prog fn (OpenSpec.ofChange s) apart (w.forCall tape i).memory i.args)∧a.holds Tryz.checked.prog (lone (Frame.enter Tryz.checked.prog f i.args .normal) [] (w.forCall tape i)))
  (contract:∀ (W:World) (base:Nat) (args:Array Value) (ds gs:List (DataW H)) (before:List MemPlace),WG W→
   (∀ (j:Nat) t v,fn.params[j]? =some t→args[j]? =some v→Value.okWide Tryz.prog W .any base t v)→DataW.Whole enc Tryz.prog fn.params.toList s.vars apart W args.toList ds gs before→laidMetH Tryz.prog laidL W→
   Calls Tryz.prog f args W fun e W'=>∃ v,e= .returned v∧s.post enc Tryz.prog fn apart fresh handsOn again W args v W'):
  ReturnsInHanded a Tryz.checked os f .any (fun w args=>(s.pre enc Tryz.prog fn [] apart w args∧laidMetH Tryz.prog laidL w)∧sizedMet enc Tryz.prog fn (OpenSpec.ofChange s) apart w args) (s.post enc Tryz.prog fn apart fresh handsOn again):=by
 refine returnsInHanded_of_calls (C:=Tryz.checked) own started noInit witness ?_
 intro w tape i _ hsh _ hok hpre _
 obtain ⟨_,_,_,fn',hfn',_,_,_,_,hval⟩:=hok
 have e:fn'=fn:=Option.some.inj (hfn'.symm.trans hfn)
 subst e
 obtain ⟨⟨⟨ds,gs,before,hw,_⟩,hx⟩,_⟩:=hpre
 have hw':=DataW.Whole.of_heap (w':=w.forCall tape i) (by rfl) hw
 refine (contract (w.forCall tape i) w.heap.size i.args ds gs before (wg_of hsh) hval hw' (laidMetH.of_heap (by rfl) hx)).mono fun e W' ⟨v,he,hp⟩=>?_
 subst he
 exact ChangeSpec.post_blind hp
end Go.Proofs.YtmjggdmekboefaaGreatDoor.Sha
