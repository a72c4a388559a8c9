/- Lemmas on the chunk store. No conditions. -/
import Derived.Test.YtfihojpgobmmdaaGreatDoorJointW18
import Derived.Test.YtfihojpgobmmdaaGreatDoorJointW19
import Derived.ChangeSame
import Derived.Stop.Joined
set_option linter.unusedVariables false
set_option linter.unusedSimpArgs false
set_option linter.unusedSectionVars false
set_option maxRecDepth 100000
namespace Go.Proofs.YtfihojpgobmmdaaGreatDoor
open Go Go.ChangeShapes Go.WideShapes Go.ChangeAt Go.RowKit Go.Eng
set_option maxRecDepth 100000
theorem own:ownKnob Tryz.prog.godebug=none:=by kernel_rfl
theorem ajx:laidOutB ak=true:=by kernel_rfl
theorem asm:mapsRowed ak=true:=by kernel_rfl
theorem RO:((List.range Tryz.prog.types.size).all fun t=>match Tryz.prog.underlying t with|some (.slice e)=>decide (0<Tryz.prog.cellsOf e)|_=>true)=true:=by kernel_rfl
section
variable{Tr:Type}{enc:TypeId×Value->Tr}{P:Program}
theorem Fm{f:Func}{s:ChangeSpec}{apart Ou Cw Ov:Bool}{hm W':World}{args:Array Value}{v:Value}{ds gs:List (DataW Tr)}{oa pa pv:List MemPlace}
  (hW:DataW.Whole enc P f.params.toList s.vars apart hm args.toList ds gs oa)
  (I3:∀(b:Nat) (sp:Nat->Bool) (hd:Bool),DataW.TrodAll enc P W' b sp hd f.resultTypes.toList (v.resultList f.resultTypes.size) (s.fn Tr (ds++gs)).results [])
  (oq:∀sp:Nat->Bool,(∀p∈oa,sp p.block=true)->DataW.TrodAll enc P W' 0 sp true f.params.toList args.toList (s.fn Tr (ds++gs)).args pa)
  (Z2:∀sp:Nat->Bool,(∀p∈oa,sp p.block=true)->DataW.TrodVars enc P W' sp s.vars (s.fn Tr (ds++gs)).vars pv)
  (Fw:oa=pa++pv) (hb:Below hm.heap.size hm W')
  (iC:∀(j:Nat) (t:TypeId) (r:Value),f.resultTypes[j]? =some t->(v.resultList f.resultTypes.size)[j]? =some r->Value.okWide P W' .any 0 t r):
  s.post enc P f apart Ou Cw Ov hm args v W':=by
 have fH:∀p∈oa,p.block<hm.heap.size:=fun p hp=>hW.lt p hp;have pb:∀p∈oa,(fun b=>decide (b<hm.heap.size)) p.block=true:=fun p hp=>by simpa using fH p hp
 refine⟨ds,gs,oa,[],pa,pv,hW,I3 _ _ _,oq _ pb,Z2 _ pb,World.keptBut_mono (fun p hp=>⟨hp,?_⟩) (hb.frame (. ∈oa)),fun _=>?_⟩
 . rw[Fw,aW]at hp;exact Or.inr hp
 . obtain⟨_,_,_,_,_,hz,hn⟩:=hW;refine⟨iC,_,_,([]++pa)++pv,⟨[]++pa,pv,trodAll_append (oq _ (fun _ _=>rfl)) (I3 _ _ _),Z2 _ (fun _ _=>rfl),rfl,?_,?_⟩,?_⟩
   . intro b off hp;have Y5:MemPlace.cell b off∈oa:=by rw[Fw];simpa using hp
     rw[hb.frozen (fH _ Y5)];exact hz b off Y5
   . intro ha;have:=hn ha;rw[Fw]at this;simpa using this
   . intro p hp _;rw[Fw];simpa using hp
end
theorem UX(os:Os)(args:Array Value):laidMetH ak xM ((World.doorLaid ak 400 os).forCall (fun _ _=>0) ⟨#[],args,[]⟩).memory:=
 laidMetH_of_parts3 (fuel:=8) (laidMet_of_run' 8 U U) U U
theorem ajy{w:World}(h:w.ShapedOpen ak):WG w:=by
 obtain⟨X,_⟩:=h;have key:∀g,g<3->g<w.heap.size:=by
  intro g hg;have xX:∃zero t,((begin ak (fun _ _=>0) default).world.heap[g]?).bind Obj.row? =some (zero,t):=by
   have hs:(((begin ak (fun _ _=>0) default).world.heap[g]?).bind Obj.row?).isSome=true:=by
    rcases g with _|_|_|g
    . kernel_rfl
    . kernel_rfl
    . kernel_rfl
    . omega
   obtain⟨⟨zero,t⟩,e⟩:=cm.1 hs;exact⟨zero,t,e⟩
  obtain⟨zero,t,hr⟩:=xX;obtain⟨Q,pT,_⟩:=X g zero t (bC hg (ax U)) hr;exact(aS.1 pT).1
 intro p hp;simp only[kf,aD,aN,br]at hp;rcases hp with rfl|rfl|rfl<;>exact key _ dP
theorem adL{a:Assume}{os:Os}{f:FuncId}{fn:Func}{s:ChangeSpec}{apart Ou Cw Ov:Bool}{Tr:Type}{enc:TypeId×Value->Tr}(Aj:os.Started)(adM:Tryz.checked.prog.inits.idxOf? f=none)(U4:Tryz.checked.prog.funcs[f]? =some fn)
  (YG:∃(w:World) (tape:Tape) (i:Input),w.os=os/\(w.forCall tape i).Shaped Tryz.checked.prog/\i.vars=[]/\Input.okWide Tryz.checked.prog (w.forCall tape i) .any w.heap.size f i/\
   ((s.pre enc Tryz.checked.prog fn [] apart (w.forCall tape i).memory i.args/\laidMetH ak xM (w.forCall tape i).memory)/\sizedMet enc Tryz.checked.prog fn (OpenSpec.ofChange s) apart (w.forCall tape i).memory i.args)/\a.holds Tryz.checked.prog (lone (Frame.enter Tryz.checked.prog f i.args .normal) [] (w.forCall tape i)))
  (UY:∀(hm:World) (base:Nat) (args:Array Value) (ds gs:List (DataW Tr)) (oa:List MemPlace),WG hm->
   (∀(j:Nat) t v,fn.params[j]? =some t->args[j]? =some v->Value.okWide ak hm .any base t v)->DataW.Whole enc ak fn.params.toList s.vars apart hm args.toList ds gs oa->laidMetH ak xM hm->
   Calls ak f args hm fun e W'=>∃v,e= .returned v/\s.post enc ak fn apart Ou Cw Ov hm args v W'):
  ReturnsInHanded a Tryz.checked os f .any (fun w args=>(s.pre enc ak fn [] apart w args/\laidMetH ak xM w)/\sizedMet enc ak fn (OpenSpec.ofChange s) apart w args) (s.post enc ak fn apart Ou Cw Ov):=by
 refine returnsInHanded_of_calls (C:=Tryz.checked) own Aj adM YG ?_;intro w tape i _ Z8 _ iC En _;obtain⟨_,_,_,fn',asn,_,_,_,_,Qk⟩:=iC;have e:fn'=fn:=cG (asn.symm.trans U4);subst e;obtain⟨⟨⟨ds,gs,oa,hw,_⟩,M⟩,_⟩:=En;have hw':=DataW.Whole.of_heap (w':=w.forCall tape i) (by rfl) hw;refine(UY (w.forCall tape i) w.heap.size i.args ds gs oa (ajy Z8) Qk hw' (laidMetH.of_heap (by rfl) M)).mono fun e W' ⟨v,he,hp⟩=>?_;subst he;exact ChangeSpec.post_blind hp
set_option linter.constructorNameAsVariable false
theorem YH{Tr:Type}{enc:TypeId×Value->Tr}{w:World}{r:Reach}{base:Nat}{v:Value}{d:DataW Tr}{ps:List MemPlace}{BN:Nat->Bool}{Km:Bool}
  (hv:Value.okWide ak w r base 61 v) (h:DataW.Trod enc ak w 0 BN Km 61 v d ps):∃x y:Nat,x<=255/\y<=255/\kV (xm w) (.agg [.int .u8 (x:Int),.int .u8 (y:Int)]) v:=by
 unfold Value.okWide at hv;rw[Tryz.underlying61]at hv;obtain⟨Q,rfl,_,_⟩:=hv;obtain⟨fuel,h⟩:=h;obtain⟨ds,X,h2⟩:=Ai (cS:=.agg [.int .u8,.int .u8]) 9 U h;simp only[Ty.ok,Ty.oks]at X;obtain⟨_,_,rfl,⟨n1,rfl,w1⟩,_,_,rfl,⟨n2,rfl,w2⟩,rfl⟩:=X;obtain⟨a,rfl,ha⟩:=Kp w1;obtain⟨b,rfl,hb⟩:=Kp w2;exact⟨a,b,ha,hb,Q.toList,h2,by simp⟩
end Go.Proofs.YtfihojpgobmmdaaGreatDoor
