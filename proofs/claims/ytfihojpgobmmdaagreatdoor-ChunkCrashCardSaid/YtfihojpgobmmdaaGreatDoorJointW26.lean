/- The Chunk laws: the close of a claim; a start that fits. No conditions. -/
import Derived.Test.YtfihojpgobmmdaaGreatDoorJointW24
import Derived.Test.YtfihojpgobmmdaaGreatDoorJointW25
import Derived.ChangeSame
import Derived.LaidMore
import Derived.Stop.Joined
set_option linter.unusedVariables false
set_option linter.unusedSimpArgs false
set_option linter.unusedSectionVars false
namespace Go.Proofs.YtfihojpgobmmdaaGreatDoor
open Go Go.ChangeShapes Go.WideShapes Go.ChangeAt Go.RowKit Go.Eng
set_option maxRecDepth 100000
theorem own:ownKnob Tryz.prog.godebug=none:=by kernel_rfl
theorem ahZ:laidOutB ak=true:=by kernel_rfl
theorem aqi:mapsRowed ak=true:=by kernel_rfl
theorem QT:((List.range Tryz.prog.types.size).all fun t=>match Tryz.prog.underlying t with|some (.slice e)=>decide (0<Tryz.prog.cellsOf e)|_=>true)=true:=by kernel_rfl
section
variable{H:Type}{enc:TypeId×Value->H}{P:Program}
theorem EB{f:Func}{s:ChangeSpec}{apart fresh B0 NG:Bool}{W W':World}{args:Array Value}{v:Value}{ds gs:List (DataW H)}{ny pa pv:List MemPlace}
  (hW:DataW.Whole enc P f.params.toList s.vars apart W args.toList ds gs ny)
  (Iw:∀(b:Nat) (sp:Nat->Bool) (hd:Bool),DataW.TrodAll enc P W' b sp hd f.resultTypes.toList (v.resultList f.resultTypes.size) (s.fn H (ds++gs)).results [])
  (nG:∀sp:Nat->Bool,(∀p∈ny,sp p.block=true)->DataW.TrodAll enc P W' 0 sp true f.params.toList args.toList (s.fn H (ds++gs)).args pa)
  (YW:∀sp:Nat->Bool,(∀p∈ny,sp p.block=true)->DataW.TrodVars enc P W' sp s.vars (s.fn H (ds++gs)).vars pv)
  (HA:ny=pa++pv) (hb:Below W.heap.size W W')
  (ic:∀(j:Nat) (t:TypeId) (r:Value),f.resultTypes[j]? =some t->(v.resultList f.resultTypes.size)[j]? =some r->Value.okWide P W' .any 0 t r):
  s.post enc P f apart fresh B0 NG W args v W':=by
 have fJ:∀p∈ny,p.block<W.heap.size:=fun p hp=>hW.lt p hp;have oA:∀p∈ny,(fun b=>decide (b<W.heap.size)) p.block=true:=fun p hp=>by simpa using fJ p hp
 refine⟨ds,gs,ny,[],pa,pv,hW,Iw _ _ _,nG _ oA,YW _ oA,World.keptBut_mono (fun p hp=>⟨hp,?_⟩) (hb.frame (. ∈ny)),fun _=>?_⟩
 . rw[HA,aU]at hp;exact Or.inr hp
 . obtain⟨_,_,_,_,_,hz,hn⟩:=hW;refine⟨ic,_,_,([]++pa)++pv,⟨[]++pa,pv,trodAll_append (nG _ (fun _ _=>rfl)) (Iw _ _ _),YW _ (fun _ _=>rfl),rfl,?_,?_⟩,?_⟩
   . intro b off hp;have XN:MemPlace.cell b off∈ny:=by rw[HA];simpa using hp
     rw[hb.frozen (fJ _ XN)];exact hz b off XN
   . intro ha;have:=hn ha;rw[HA]at this;simpa using this
   . intro p hp _;rw[HA];simpa using hp
end
theorem TN(os:Os)(args:Array Value):laidMetH ak xb ((World.doorLaid ak 400 os).forCall (fun _ _=>0) ⟨#[],args,[]⟩).memory:=
 laidMetH_of_parts3 (fuel:=8) (laidMet_of_run' 8 U U) U U
theorem ah0{w:World}(h:w.ShapedOpen ak):WG w:=by
 obtain⟨h1,_⟩:=h;have key:∀g,g<3->g<w.heap.size:=by
  intro g hg;have xo:∃zero t,((begin ak (fun _ _=>0) default).world.heap[g]?).bind Obj.row? =some (zero,t):=by
   have hs:(((begin ak (fun _ _=>0) default).world.heap[g]?).bind Obj.row?).isSome=true:=by
    rcases g with _|_|_|g
    . kernel_rfl
    . kernel_rfl
    . kernel_rfl
    . omega
   obtain⟨⟨zero,t⟩,e⟩:=b9.1 hs;exact⟨zero,t,e⟩
  obtain⟨zero,t,hr⟩:=xo;obtain⟨cs,oV,_⟩:=h1 g zero t (bD hg (au U)) hr;exact(aQ.1 oV).1
 intro p hp;simp only[jN,aE,aM,bt]at hp;rcases hp with rfl|rfl|rfl<;>exact key _ dP
theorem acu{a:Assume}{os:Os}{f:FuncId}{fn:Func}{s:ChangeSpec}{apart fresh B0 NG:Bool}{H:Type}{enc:TypeId×Value->H}(zL:os.Started)(acv:Tryz.checked.prog.inits.idxOf? f=none)(TV:Tryz.checked.prog.funcs[f]? =some fn)
  (Xo:∃(w:World) (tape:Tape) (i:Input),w.os=os/\(w.forCall tape i).Shaped Tryz.checked.prog/\i.vars=[]/\Input.okWide Tryz.checked.prog (w.forCall tape i) .any w.heap.size f i/\
   ((s.pre enc Tryz.checked.prog fn [] apart (w.forCall tape i).memory i.args/\laidMetH ak xb (w.forCall tape i).memory)/\sizedMet enc Tryz.checked.prog fn (OpenSpec.ofChange s) apart (w.forCall tape i).memory i.args)/\a.holds Tryz.checked.prog (lone (Frame.enter Tryz.checked.prog f i.args .normal) [] (w.forCall tape i)))
  (TO:∀(W:World) (base:Nat) (args:Array Value) (ds gs:List (DataW H)) (ny:List MemPlace),WG W->
   (∀(j:Nat) t v,fn.params[j]? =some t->args[j]? =some v->Value.okWide ak W .any base t v)->DataW.Whole enc ak fn.params.toList s.vars apart W args.toList ds gs ny->laidMetH ak xb W->
   Calls ak f args W fun e W'=>∃v,e= .returned v/\s.post enc ak fn apart fresh B0 NG W args v W'):
  ReturnsInHanded a Tryz.checked os f .any (fun w args=>(s.pre enc ak fn [] apart w args/\laidMetH ak xb w)/\sizedMet enc ak fn (OpenSpec.ofChange s) apart w args) (s.post enc ak fn apart fresh B0 NG):=by
 refine returnsInHanded_of_calls (C:=Tryz.checked) own zL acv Xo ?_;intro w tape i _ Y3 _ ic DQ _;obtain⟨_,_,_,fn',aqj,_,_,_,_,TP⟩:=ic;have e:fn'=fn:=cC (aqj.symm.trans TV);subst e;obtain⟨⟨⟨ds,gs,ny,hw,_⟩,hx⟩,_⟩:=DQ;have hw':=DataW.Whole.of_heap (w':=w.forCall tape i) (by rfl) hw;refine(TO (w.forCall tape i) w.heap.size i.args ds gs ny (ah0 Y3) TP hw' (laidMetH.of_heap (by rfl) hx)).mono fun e W' ⟨v,he,hp⟩=>?_;subst he;exact ChangeSpec.post_blind hp
end Go.Proofs.YtfihojpgobmmdaaGreatDoor
