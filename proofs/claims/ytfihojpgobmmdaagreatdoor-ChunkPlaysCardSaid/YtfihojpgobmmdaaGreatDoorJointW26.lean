/- The Chunk laws: the close of a claim; a start that fits. No conditions. -/
import Derived.Test.YtfihojpgobmmdaaGreatDoorJointW24
import Derived.Test.YtfihojpgobmmdaaGreatDoorJointW25
import Derived.ChangeSame
import Derived.LaidMore
import Derived.Stop.Joined
set_option linter.unusedVariables false
set_option linter.unusedSimpArgs false
set_option linter.unusedSectionVars false
namespace Go.Proofs.YtfihojpgobmmdaaGreatDoor
open Go Go.ChangeShapes Go.WideShapes Go.ChangeAt Go.RowKit Go.Eng
set_option maxRecDepth 100000
theorem own:ownKnob Tryz.prog.godebug=none:=by kernel_rfl
theorem agN:laidOutB ak=true:=by kernel_rfl
theorem aoM:mapsRowed ak=true:=by kernel_rfl
theorem Qb:((List.range Tryz.prog.types.size).all fun t=>match Tryz.prog.underlying t with|some (.slice e)=>decide (0<Tryz.prog.cellsOf e)|_=>true)=true:=by kernel_rfl
section
variable{H:Type}{enc:TypeId×Value->H}{P:Program}
theorem Eg{f:Func}{s:ChangeSpec}{apart fresh BG MW:Bool}{W W':World}{args:Array Value}{v:Value}{ds gs:List (DataW H)}{nt pa pv:List MemPlace}
  (hW:DataW.Whole enc P f.params.toList s.vars apart W args.toList ds gs nt)
  (HW:∀(b:Nat) (sp:Nat->Bool) (hd:Bool),DataW.TrodAll enc P W' b sp hd f.resultTypes.toList (v.resultList f.resultTypes.size) (s.fn H (ds++gs)).results [])
  (nD:∀sp:Nat->Bool,(∀p∈nt,sp p.block=true)->DataW.TrodAll enc P W' 0 sp true f.params.toList args.toList (s.fn H (ds++gs)).args pa)
  (X3:∀sp:Nat->Bool,(∀p∈nt,sp p.block=true)->DataW.TrodVars enc P W' sp s.vars (s.fn H (ds++gs)).vars pv)
  (G1:nt=pa++pv) (hb:Below W.heap.size W W')
  (iA:∀(j:Nat) (t:TypeId) (r:Value),f.resultTypes[j]? =some t->(v.resultList f.resultTypes.size)[j]? =some r->Value.okWide P W' .any 0 t r):
  s.post enc P f apart fresh BG MW W args v W':=by
 have fE:∀p∈nt,p.block<W.heap.size:=fun p hp=>hW.lt p hp;have oy:∀p∈nt,(fun b=>decide (b<W.heap.size)) p.block=true:=fun p hp=>by simpa using fE p hp
 refine⟨ds,gs,nt,[],pa,pv,hW,HW _ _ _,nD _ oy,X3 _ oy,World.keptBut_mono (fun p hp=>⟨hp,?_⟩) (hb.frame (. ∈nt)),fun _=>?_⟩
 . rw[G1,aU]at hp;exact Or.inr hp
 . obtain⟨_,_,_,_,_,hz,hn⟩:=hW;refine⟨iA,_,_,([]++pa)++pv,⟨[]++pa,pv,trodAll_append (nD _ (fun _ _=>rfl)) (HW _ _ _),X3 _ (fun _ _=>rfl),rfl,?_,?_⟩,?_⟩
   . intro b off hp;have WX:MemPlace.cell b off∈nt:=by rw[G1];simpa using hp
     rw[hb.frozen (fE _ WX)];exact hz b off WX
   . intro ha;have:=hn ha;rw[G1]at this;simpa using this
   . intro p hp _;rw[G1];simpa using hp
end
theorem SZ(os:Os)(args:Array Value):laidMetH ak wU ((World.doorLaid ak 400 os).forCall (fun _ _=>0) ⟨#[],args,[]⟩).memory:=
 laidMetH_of_parts3 (fuel:=8) (laidMet_of_run' 8 U U) U U
theorem agO{w:World}(h:w.ShapedOpen ak):WG w:=by
 obtain⟨h1,_⟩:=h;have key:∀g,g<3->g<w.heap.size:=by
  intro g hg;have w9:∃zero t,((begin ak (fun _ _=>0) default).world.heap[g]?).bind Obj.row? =some (zero,t):=by
   have hs:(((begin ak (fun _ _=>0) default).world.heap[g]?).bind Obj.row?).isSome=true:=by
    rcases g with _|_|_|g
    . kernel_rfl
    . kernel_rfl
    . kernel_rfl
    . omega
   obtain⟨⟨zero,t⟩,e⟩:=b9.1 hs;exact⟨zero,t,e⟩
  obtain⟨zero,t,hr⟩:=w9;obtain⟨cs,oQ,_⟩:=h1 g zero t (bD hg (au U)) hr;exact(aQ.1 oQ).1
 intro p hp;simp only[jL,aE,aL,bt]at hp;rcases hp with rfl|rfl|rfl<;>exact key _ dN
theorem abq{a:Assume}{os:Os}{f:FuncId}{fn:Func}{s:ChangeSpec}{apart fresh BG MW:Bool}{H:Type}{enc:TypeId×Value->H}(zv:os.Started)(abr:Tryz.checked.prog.inits.idxOf? f=none)(S6:Tryz.checked.prog.funcs[f]? =some fn)
  (Wv:∃(w:World) (tape:Tape) (i:Input),w.os=os/\(w.forCall tape i).Shaped Tryz.checked.prog/\i.vars=[]/\Input.okWide Tryz.checked.prog (w.forCall tape i) .any w.heap.size f i/\
   ((s.pre enc Tryz.checked.prog fn [] apart (w.forCall tape i).memory i.args/\laidMetH ak wU (w.forCall tape i).memory)/\sizedMet enc Tryz.checked.prog fn (OpenSpec.ofChange s) apart (w.forCall tape i).memory i.args)/\a.holds Tryz.checked.prog (lone (Frame.enter Tryz.checked.prog f i.args .normal) [] (w.forCall tape i)))
  (S0:∀(W:World) (base:Nat) (args:Array Value) (ds gs:List (DataW H)) (nt:List MemPlace),WG W->
   (∀(j:Nat) t v,fn.params[j]? =some t->args[j]? =some v->Value.okWide ak W .any base t v)->DataW.Whole enc ak fn.params.toList s.vars apart W args.toList ds gs nt->laidMetH ak wU W->
   Calls ak f args W fun e W'=>∃v,e= .returned v/\s.post enc ak fn apart fresh BG MW W args v W'):
  ReturnsInHanded a Tryz.checked os f .any (fun w args=>(s.pre enc ak fn [] apart w args/\laidMetH ak wU w)/\sizedMet enc ak fn (OpenSpec.ofChange s) apart w args) (s.post enc ak fn apart fresh BG MW):=by
 refine returnsInHanded_of_calls (C:=Tryz.checked) own zv abr Wv ?_;intro w tape i _ Yg _ iA DB _;obtain⟨_,_,_,fn',aoN,_,_,_,_,Ww⟩:=iA;have e:fn'=fn:=cC (aoN.symm.trans S6);subst e;obtain⟨⟨⟨ds,gs,nt,hw,_⟩,hx⟩,_⟩:=DB;have hw':=DataW.Whole.of_heap (w':=w.forCall tape i) (by rfl) hw;refine(S0 (w.forCall tape i) w.heap.size i.args ds gs nt (agO Yg) Ww hw' (laidMetH.of_heap (by rfl) hx)).mono fun e W' ⟨v,he,hp⟩=>?_;subst he;exact ChangeSpec.post_blind hp
end Go.Proofs.YtfihojpgobmmdaaGreatDoor
