/- The Chunk laws: the close of a claim; a start that fits. No conditions. -/
import Derived.Test.YtfihojpgobmmdaaGreatDoorJointW24
import Derived.Test.YtfihojpgobmmdaaGreatDoorJointW25
import Derived.ChangeSame
import Derived.LaidMore
import Derived.Stop.Joined
set_option linter.unusedVariables false
set_option linter.unusedSimpArgs false
set_option linter.unusedSectionVars false
namespace Go.Proofs.YtfihojpgobmmdaaGreatDoor
open Go Go.ChangeShapes Go.WideShapes Go.ChangeAt Go.RowKit Go.Eng
set_option maxRecDepth 100000
theorem own:ownKnob Tryz.prog.godebug=none:=by kernel_rfl
theorem ahI:laidOutB ak=true:=by kernel_rfl
theorem ap0:mapsRowed ak=true:=by kernel_rfl
theorem QA:((List.range Tryz.prog.types.size).all fun t=>match Tryz.prog.underlying t with|some (.slice e)=>decide (0<Tryz.prog.cellsOf e)|_=>true)=true:=by kernel_rfl
section
variable{H:Type}{enc:TypeId×Value->H}{P:Program}
theorem Ez{f:Func}{s:ChangeSpec}{apart fresh BY Nj:Bool}{W W':World}{args:Array Value}{v:Value}{ds gs:List (DataW H)}{nE pa pv:List MemPlace}
  (hW:DataW.Whole enc P f.params.toList s.vars apart W args.toList ds gs nE)
  (Ij:∀(b:Nat) (sp:Nat->Bool) (hd:Bool),DataW.TrodAll enc P W' b sp hd f.resultTypes.toList (v.resultList f.resultTypes.size) (s.fn H (ds++gs)).results [])
  (nJ:∀sp:Nat->Bool,(∀p∈nE,sp p.block=true)->DataW.TrodAll enc P W' 0 sp true f.params.toList args.toList (s.fn H (ds++gs)).args pa)
  (YI:∀sp:Nat->Bool,(∀p∈nE,sp p.block=true)->DataW.TrodVars enc P W' sp s.vars (s.fn H (ds++gs)).vars pv)
  (Ho:nE=pa++pv) (hb:Below W.heap.size W W')
  (iD:∀(j:Nat) (t:TypeId) (r:Value),f.resultTypes[j]? =some t->(v.resultList f.resultTypes.size)[j]? =some r->Value.okWide P W' .any 0 t r):
  s.post enc P f apart fresh BY Nj W args v W':=by
 have fF:∀p∈nE,p.block<W.heap.size:=fun p hp=>hW.lt p hp;have oD:∀p∈nE,(fun b=>decide (b<W.heap.size)) p.block=true:=fun p hp=>by simpa using fF p hp
 refine⟨ds,gs,nE,[],pa,pv,hW,Ij _ _ _,nJ _ oD,YI _ oD,World.keptBut_mono (fun p hp=>⟨hp,?_⟩) (hb.frame (. ∈nE)),fun _=>?_⟩
 . rw[Ho,aT]at hp;exact Or.inr hp
 . obtain⟨_,_,_,_,_,hz,hn⟩:=hW;refine⟨iD,_,_,([]++pa)++pv,⟨[]++pa,pv,trodAll_append (nJ _ (fun _ _=>rfl)) (Ij _ _ _),YI _ (fun _ _=>rfl),rfl,?_,?_⟩,?_⟩
   . intro b off hp;have XD:MemPlace.cell b off∈nE:=by rw[Ho];simpa using hp
     rw[hb.frozen (fF _ XD)];exact hz b off XD
   . intro ha;have:=hn ha;rw[Ho]at this;simpa using this
   . intro p hp _;rw[Ho];simpa using hp
end
theorem Tw(os:Os)(args:Array Value):laidMetH ak w8 ((World.doorLaid ak 400 os).forCall (fun _ _=>0) ⟨#[],args,[]⟩).memory:=
 laidMetH_of_parts3 (fuel:=8) (laidMet_of_run' 8 U U) U U
theorem ahJ{w:World}(h:w.ShapedOpen ak):WG w:=by
 obtain⟨h1,_⟩:=h;have key:∀g,g<3->g<w.heap.size:=by
  intro g hg;have xm:∃zero t,((begin ak (fun _ _=>0) default).world.heap[g]?).bind Obj.row? =some (zero,t):=by
   have hs:(((begin ak (fun _ _=>0) default).world.heap[g]?).bind Obj.row?).isSome=true:=by
    rcases g with _|_|_|g
    . kernel_rfl
    . kernel_rfl
    . kernel_rfl
    . omega
   obtain⟨⟨zero,t⟩,e⟩:=b9.1 hs;exact⟨zero,t,e⟩
  obtain⟨zero,t,hr⟩:=xm;obtain⟨cs,o5,_⟩:=h1 g zero t (bE hg (au U)) hr;exact(aQ.1 o5).1
 intro p hp;simp only[jR,aE,aL,bu]at hp;rcases hp with rfl|rfl|rfl<;>exact key _ dU
theorem ab6{a:Assume}{os:Os}{f:FuncId}{fn:Func}{s:ChangeSpec}{apart fresh BY Nj:Bool}{H:Type}{enc:TypeId×Value->H}(zH:os.Started)(ab7:Tryz.checked.prog.inits.idxOf? f=none)(TE:Tryz.checked.prog.funcs[f]? =some fn)
  (Xf:∃(w:World) (tape:Tape) (i:Input),w.os=os/\(w.forCall tape i).Shaped Tryz.checked.prog/\i.vars=[]/\Input.okWide Tryz.checked.prog (w.forCall tape i) .any w.heap.size f i/\
   ((s.pre enc Tryz.checked.prog fn [] apart (w.forCall tape i).memory i.args/\laidMetH ak w8 (w.forCall tape i).memory)/\sizedMet enc Tryz.checked.prog fn (OpenSpec.ofChange s) apart (w.forCall tape i).memory i.args)/\a.holds Tryz.checked.prog (lone (Frame.enter Tryz.checked.prog f i.args .normal) [] (w.forCall tape i)))
  (Tx:∀(W:World) (base:Nat) (args:Array Value) (ds gs:List (DataW H)) (nE:List MemPlace),WG W->
   (∀(j:Nat) t v,fn.params[j]? =some t->args[j]? =some v->Value.okWide ak W .any base t v)->DataW.Whole enc ak fn.params.toList s.vars apart W args.toList ds gs nE->laidMetH ak w8 W->
   Calls ak f args W fun e W'=>∃v,e= .returned v/\s.post enc ak fn apart fresh BY Nj W args v W'):
  ReturnsInHanded a Tryz.checked os f .any (fun w args=>(s.pre enc ak fn [] apart w args/\laidMetH ak w8 w)/\sizedMet enc ak fn (OpenSpec.ofChange s) apart w args) (s.post enc ak fn apart fresh BY Nj):=by
 refine returnsInHanded_of_calls (C:=Tryz.checked) own zH ab7 Xf ?_;intro w tape i _ YP _ iD JB _;obtain⟨_,_,_,fn',ap1,_,_,_,_,Xg⟩:=iD;have e:fn'=fn:=ct (ap1.symm.trans TE);subst e;obtain⟨⟨⟨ds,gs,nE,hw,_⟩,hx⟩,_⟩:=JB;have hw':=DataW.Whole.of_heap (w':=w.forCall tape i) (by rfl) hw;refine(Tx (w.forCall tape i) w.heap.size i.args ds gs nE (ahJ YP) Xg hw' (laidMetH.of_heap (by rfl) hx)).mono fun e W' ⟨v,he,hp⟩=>?_;subst he;exact ChangeSpec.post_blind hp
end Go.Proofs.YtfihojpgobmmdaaGreatDoor
