/- Lemmas on the chunk store. No conditions. -/
import Derived.Test.YtfihojpgobmmdaaGreatDoorJointW24
import Derived.Test.YtfihojpgobmmdaaGreatDoorJointW25
import Derived.ChangeSame
import Derived.Stop.Joined
set_option linter.unusedVariables false
set_option linter.unusedSimpArgs false
set_option linter.unusedSectionVars false
namespace Go.Proofs.YtfihojpgobmmdaaGreatDoor
open Go Go.ChangeShapes Go.WideShapes Go.ChangeAt Go.RowKit Go.Eng
set_option maxRecDepth 100000
theorem own:ownKnob Tryz.prog.godebug=none:=by kernel_rfl
theorem aiO:laidOutB ak=true:=by kernel_rfl
theorem arf:mapsRowed ak=true:=by kernel_rfl
theorem Q6:((List.range Tryz.prog.types.size).all fun t=>match Tryz.prog.underlying t with|some (.slice e)=>decide (0<Tryz.prog.cellsOf e)|_=>true)=true:=by kernel_rfl
section
variable{Tr:Type}{enc:TypeId×Value->Tr}{P:Program}
theorem EL{f:Func}{s:ChangeSpec}{apart fresh Cf NL:Bool}{hm W':World}{args:Array Value}{v:Value}{ds gs:List (DataW Tr)}{nO pa pv:List MemPlace}
  (hW:DataW.Whole enc P f.params.toList s.vars apart hm args.toList ds gs nO)
  (IE:∀(b:Nat) (sp:Nat->Bool) (hd:Bool),DataW.TrodAll enc P W' b sp hd f.resultTypes.toList (v.resultList f.resultTypes.size) (s.fn Tr (ds++gs)).results [])
  (nY:∀sp:Nat->Bool,(∀p∈nO,sp p.block=true)->DataW.TrodAll enc P W' 0 sp true f.params.toList args.toList (s.fn Tr (ds++gs)).args pa)
  (Zn:∀sp:Nat->Bool,(∀p∈nO,sp p.block=true)->DataW.TrodVars enc P W' sp s.vars (s.fn Tr (ds++gs)).vars pv)
  (HG:nO=pa++pv) (hb:Below hm.heap.size hm W')
  (iy:∀(j:Nat) (t:TypeId) (r:Value),f.resultTypes[j]? =some t->(v.resultList f.resultTypes.size)[j]? =some r->Value.okWide P W' .any 0 t r):
  s.post enc P f apart fresh Cf NL hm args v W':=by
 have fI:∀p∈nO,p.block<hm.heap.size:=fun p hp=>hW.lt p hp;have oT:∀p∈nO,(fun b=>decide (b<hm.heap.size)) p.block=true:=fun p hp=>by simpa using fI p hp
 refine⟨ds,gs,nO,[],pa,pv,hW,IE _ _ _,nY _ oT,Zn _ oT,World.keptBut_mono (fun p hp=>⟨hp,?_⟩) (hb.frame (. ∈nO)),fun _=>?_⟩
 . rw[HG,aW]at hp;exact Or.inr hp
 . obtain⟨_,_,_,_,_,hz,hn⟩:=hW;refine⟨iy,_,_,([]++pa)++pv,⟨[]++pa,pv,trodAll_append (nY _ (fun _ _=>rfl)) (IE _ _ _),Zn _ (fun _ _=>rfl),rfl,?_,?_⟩,?_⟩
   . intro b off hp;have Yw:MemPlace.cell b off∈nO:=by rw[HG];simpa using hp
     rw[hb.frozen (fI _ Yw)];exact hz b off Yw
   . intro ha;have:=hn ha;rw[HG]at this;simpa using this
   . intro p hp _;rw[HG];simpa using hp
end
theorem T8(os:Os)(args:Array Value):laidMetH ak xC ((World.doorLaid ak 400 os).forCall (fun _ _=>0) ⟨#[],args,[]⟩).memory:=
 laidMetH_of_parts3 (fuel:=8) (laidMet_of_run' 8 U U) U U
theorem aiP{w:World}(h:w.ShapedOpen ak):WG w:=by
 obtain⟨N,_⟩:=h;have key:∀g,g<3->g<w.heap.size:=by
  intro g hg;have vc:∃zero t,((begin ak (fun _ _=>0) default).world.heap[g]?).bind Obj.row? =some (zero,t):=by
   have hs:(((begin ak (fun _ _=>0) default).world.heap[g]?).bind Obj.row?).isSome=true:=by
    rcases g with _|_|_|g
    . kernel_rfl
    . kernel_rfl
    . kernel_rfl
    . omega
   obtain⟨⟨zero,t⟩,e⟩:=bW.1 hs;exact⟨zero,t,e⟩
  obtain⟨zero,t,hr⟩:=vc;obtain⟨C,nX,_⟩:=N g zero t (bF hg (au U)) hr;exact(aQ.1 nX).1
 intro p hp;simp only[jU,aF,aL,bw]at hp;rcases hp with rfl|rfl|rfl<;>exact key _ dU
theorem acP{a:Assume}{os:Os}{f:FuncId}{fn:Func}{s:ChangeSpec}{apart fresh Cf NL:Bool}{Tr:Type}{enc:TypeId×Value->Tr}(zV:os.Started)(acQ:Tryz.checked.prog.inits.idxOf? f=none)(Uf:Tryz.checked.prog.funcs[f]? =some fn)
  (X3:∃(w:World) (tape:Tape) (i:Input),w.os=os/\(w.forCall tape i).Shaped Tryz.checked.prog/\i.vars=[]/\Input.okWide Tryz.checked.prog (w.forCall tape i) .any w.heap.size f i/\
   ((s.pre enc Tryz.checked.prog fn [] apart (w.forCall tape i).memory i.args/\laidMetH ak xC (w.forCall tape i).memory)/\sizedMet enc Tryz.checked.prog fn (OpenSpec.ofChange s) apart (w.forCall tape i).memory i.args)/\a.holds Tryz.checked.prog (lone (Frame.enter Tryz.checked.prog f i.args .normal) [] (w.forCall tape i)))
  (T9:∀(hm:World) (base:Nat) (args:Array Value) (ds gs:List (DataW Tr)) (nO:List MemPlace),WG hm->
   (∀(j:Nat) t v,fn.params[j]? =some t->args[j]? =some v->Value.okWide ak hm .any base t v)->DataW.Whole enc ak fn.params.toList s.vars apart hm args.toList ds gs nO->laidMetH ak xC hm->
   Calls ak f args hm fun e W'=>∃v,e= .returned v/\s.post enc ak fn apart fresh Cf NL hm args v W'):
  ReturnsInHanded a Tryz.checked os f .any (fun w args=>(s.pre enc ak fn [] apart w args/\laidMetH ak xC w)/\sizedMet enc ak fn (OpenSpec.ofChange s) apart w args) (s.post enc ak fn apart fresh Cf NL):=by
 refine returnsInHanded_of_calls (C:=Tryz.checked) own zV acQ X3 ?_;intro w tape i _ Zu _ iy JS _;obtain⟨_,_,_,fn',arh,_,_,_,_,Ya⟩:=iy;have e:fn'=fn:=cF (arh.symm.trans Uf);subst e;obtain⟨⟨⟨ds,gs,nO,hw,_⟩,G⟩,_⟩:=JS;have hw':=DataW.Whole.of_heap (w':=w.forCall tape i) (by rfl) hw;refine(T9 (w.forCall tape i) w.heap.size i.args ds gs nO (aiP Zu) Ya hw' (laidMetH.of_heap (by rfl) G)).mono fun e W' ⟨v,he,hp⟩=>?_;subst he;exact ChangeSpec.post_blind hp
end Go.Proofs.YtfihojpgobmmdaaGreatDoor
