/- The Chunk laws: what comes in; the program's tables as the row lists them. No conditions. -/
import Derived.Test.YtfihojpgobmmdaaGreatDoorRows
import Derived.Test.YtfihojpgobmmdaaGreatDoorJointW13
import Derived.Test.YtfihojpgobmmdaaGreatDoorJointW23
import Derived.LaidMore
import Derived.MakeChecks
import Derived.Test.YtfihojpgobmmdaaGreatDoorJointW22
set_option linter.unusedVariables false
set_option linter.unusedSimpArgs false
set_option linter.unusedSectionVars false
set_option maxRecDepth 100000
namespace Go.Proofs.YtfihojpgobmmdaaGreatDoor
open Go Go.Eng Go.ChangeShapes Go.WideShapes Go.RowKit
theorem TL:Tryz.prog.globalNamed "gouache/digest.round"=some 1:=by kernel_rfl
theorem TM:Tryz.prog.globalNamed "gouache/digest.start"=some 0:=by kernel_rfl
abbrev xb:List (String×DataW Unit):=[("gouache/digest.round",Rows.laid_gouache_digest_round),("gouache/digest.start",Rows.laid_gouache_digest_start)]
def DT:List Int->List (DataW Unit):=fun l=>l.map fun n=>.lit (.int .u32 n)
theorem Xj:(Rows.laid_gouache_digest_round:DataW Unit)= .agg (DT gR):=by kernel_rfl
theorem Xk:(Rows.laid_gouache_digest_start:DataW Unit)= .agg (DT gS):=by kernel_rfl
theorem JR{w:World}{g t e n:Nat}{cs:Array Value}{fuel:Nat}{p:List MemPlace}{ks:List Int}{name:String}(hg:Tryz.prog.globalNamed name=some g)(hv:w.var? ak name=some cs)
  (ht:Tryz.prog.underlying t=some (.array n e)) (he:Tryz.prog.underlying e=some (.int .u32)) (hc:Tryz.prog.cellsOf e=1)
  (h:DataW.trod (fun _=>()) ak w 0 (fun _=>true) false fuel t cs.toList=some (.agg (DT ks),p)):∃c el fz,w.heap[g]? =some (.cells c el fz)/\∀(i:Nat) (x:Int),ks[i]? =some x->c[i]? =some (.int .u32 x):=by
 obtain⟨xs,m,rfl,hx,rT,hn,hel⟩:=DataW.trod_array ht h;simp only[aB,DataW.agg.injEq]at hx;have iT:ks.length=n:=by
  have:=aN List.length hx.1;simp only[DT,aW]at this;omega
 have key:∀(i:Nat) (x:Int),ks[i]? =some x->cs[i]? =some (.int .u32 x):=by
  intro i x hi;have fJ:i<ks.length:=(aF.1 hi).1;have h1:=hel i be;rw[ay be]at h1;obtain⟨k,e1,e2,_⟩:=DataW.trod_int he h1;have h2:=aN (fun l=>l[i]?) hx.1;simp only[DT,br,hi,bh]at h2;rw[ay be,e2]at h2;simp only[bh,an,DataW.lit.injEq,Lit.int.injEq,true_and]at h2;subst h2;rw[hc,bj]at e1;have h3:=aN (fun l=>l[0]?) e1;simp only[bL,Nat.lt_add_one,if_true,bH,Nat.add_zero,bG]at h3;simpa using h3
 have mh:=World.var?_cell hg hv 0;have h00:0<ks.length\/ks=[]:=by cases ks<;>simp
 unfold World.var? at hv;rw[hg]at hv;simp only[Option.bind_some]at hv;split at hv
 . rename_i c el fz hb;simp only[an]at hv;subst hv;exact⟨_,el,fz,hb,key⟩
 . cases hv
theorem Xl{w:World}(h:laidMetH ak xb w):(∃c el fz,w.heap[0]? =some (.cells c el fz)/\∀(i:Nat) (x:Int),gS[i]? =some x->c[i]? =some (.int .u32 x))/\
  ∃c el fz,w.heap[1]? =some (.cells c el fz)/\∀(i:Nat) (x:Int),gR[i]? =some x->c[i]? =some (.int .u32 x):=by
 rw[MakeChecks.laidMetH_plain _ _ _ U]at h;obtain⟨ps,⟨g0,t0,ZE,f0,p0,q0,hg0,ht0,Zh,hd0,⟨g1,t1,cs1,f1,p1,q1,hg1,ht1,hv1,Qr,_,_⟩,_⟩,_,_⟩:=h;obtain rfl:=cC (TL.symm.trans hg0);obtain rfl:=cC (TM.symm.trans hg1);rw[Xj]at hd0;rw[Xk]at Qr;obtain rfl:=cC ((show(Tryz.prog.globals[1]?).map (·.type)=some 148 by kernel_rfl).symm.trans ht0);obtain rfl:=cC ((show(Tryz.prog.globals[0]?).map (·.type)=some 121 by kernel_rfl).symm.trans ht1);exact⟨JR TM hv1 Tryz.underlying121 Tryz.underlying120 U Qr,JR TL Zh Tryz.underlying148 Tryz.underlying120 U hd0⟩
def JS(w:World)(b:Nat):Nat:=match w.heap[b]? with
 |some (.cells c _ _)=>c.size
 |_=>0
def EW(w:World):Env:=⟨fun m=>CI jN m,JS w,x9 w⟩
theorem ahY{w:World}(hw:WG w)(h:laidMetH ak xb w):Eng.Good (EW w) (Ej gS gR) w/\qL (EW w) 3/\∀m,¬eC (Ej gS gR) m:=by
 obtain⟨⟨c0,Zv,fz0,k0,m0⟩,⟨c1,el1,fz1,k1,m1⟩⟩:=Xl h;have kH:∀m o,(Ej gS gR).get m=some o->(m=0/\o= .ints .u32 gS)\/(m=1/\o= .ints .u32 gR):=by
  intro m o hm;rcases BP [(0,.ints .u32 gS),(1,.ints .u32 gR)] .nil m o (fun q hq=>by
   simp only[aE,aM,bt]at hq;rcases hq with rfl|rfl<;>exact au rfl) hm with h1|h1
  . simp[Tr.get]at h1
  . simp only[aE,aB,aM,bt]at h1;exact h1
 have Bc:∀m,¬eC (Ej gS gR) m:=by
  rintro m ⟨o,h1,h2⟩;rcases kH m o h1 with⟨_,rfl⟩|⟨_,rfl⟩<;>cases h2
 refine⟨⟨fun m o hm=>?_,fun m _ _ _ _ _ hl=>absurd hl (Bc m),fun m b s hb=>?_,fun p hp=>CJ hp Mv,fun b c q=>⟨Xi w b c q,fun m s hl=>absurd hl (Bc m)⟩⟩,fun m hm=>?_,Bc⟩
 . rcases kH m o hm with⟨rfl,rfl⟩|⟨rfl,rfl⟩
   . refine⟨0,0,rfl,c0,Zv,fz0,k0,?_,fun i x hx=>by rw[bE];exact m0 i x hx⟩;show c0.size=JS w 0;unfold JS;rw[k0]
   . refine⟨1,0,rfl,c1,el1,fz1,k1,?_,fun i x hx=>by rw[bE];exact m1 i x hx⟩;show c1.size=JS w 1;unfold JS;rw[k1]
 . obtain⟨p,h1,_,h2⟩:=rY hb;cases h2;exact hw p h1
 . cases q:(EW w).ι m with
   |none=>rfl
   |some _=>obtain⟨p',h1,h2,_⟩:=rY q;have:=BG h1;simp only[gN,jN,aT,bO]at this;omega
theorem Pr{f:FuncId}{fn:Func}{code:Code}(hf:Tryz.prog.funcs[f]? =some fn)(hb:fn.body=some code){ds:ai}{vs:List Value}{w:World}
  (l:(Nat.ble (ds.map D.iL).length fn.ntmps&&Nat.blt fn.ntmps fN)=true) (hT:TG ak 3 fn.ntmps code (cT (ds.map D.iL) (Ej gS gR) 3) (fH ak 3 fn fun u _ _=>u= .bool true))
  (hw:WG w) (hl:laidMetH ak xb w) (ra:dI (EW w) (ds.map D.iL) vs):Calls ak f vs.toArray w fun e w'=>e= .returned (.bool true)/\Below w.heap.size w w':=by
 obtain⟨g,hd,Bc⟩:=ahY hw hl;refine(xI mo po hf hb l hT ra g hd Bc).mono fun e w' ⟨⟨E2,ho⟩,OV⟩=>⟨?_,OV⟩;cases e with
 |returned v'=>
  have ho:dF E2 (.bool true) v':=ho;simp only[dF]at ho;rw[ho]
 |_=>exact ho.elim
set_option linter.constructorNameAsVariable false
section
variable{H:Type}{enc:TypeId×Value->H}{w:World}{r:Reach}{base:Nat}{t:TypeId}{v:Value}{d:DataW H}{ps:List MemPlace}{Bo:Nat->Bool}{JQ:Bool}
theorem Xm{T:Ty}(n:Nat)(hT:JP ak n t=some T)(hs:∀cs,v≠ .agg cs)(h:DataW.Trod enc ak w 0 Bo JQ t v d ps):∃ds,T.ok ds/\iw (x9 w) ds [v]:=by
 obtain⟨fuel,h⟩:=h;have e:v.cells.toList=[v]:=by cases v<;>first|rfl|exact absurd rfl (hs _)
 rw[e]at h;exact zK n hT h
theorem acs(h:Value.okWide ak w r base t v)(ht:∀fs,Tryz.prog.underlying t≠some (.struct fs))(ht2:∀k e,Tryz.prog.underlying t≠some (.array k e)):∀cs,v≠ .agg cs:=by
 rintro cs rfl;unfold Value.okWide at h;split at h
 . rename_i q;exact ht _ q
 . rename_i q;exact ht2 _ _ q
 . unfold Cell.okWide Cell.ok at h;split at h<;>first|(split at h<;>simp_all)|simp_all
end
theorem JT{n:Int}(h:(Lit.int .u8 n).wf=true):∃k:Nat,n=(k:Int)/\k<=255:=by
 simp only[Lit.wf,aC,bC]at h;have h1:0<=n:=h.1;have h2:n<=255:=h.2;exact⟨n.toNat,be,be⟩
theorem JU:∀{rows:List (ai)},(∀r∈rows,Ty.ok (.agg [.int .u8,.int .u8,.int .u8,.str]) r)->∃l:List zJ,rows.flatten=BB l/\l.length=rows.length
 | [],_=>⟨[],rfl,rfl⟩
 |r::rows,h=>by
  obtain⟨l,h1,h2⟩:=JU (rows:=rows) fun x hx=>h x (aK _ hx);have hr:=h r (by simp);simp only[Ty.ok,Ty.oks]at hr;obtain⟨_,_,rfl,⟨n1,rfl,w1⟩,_,_,rfl,⟨n2,rfl,w2⟩,_,_,rfl,⟨n3,rfl,w3⟩,_,_,rfl,⟨s,rfl,_⟩,rfl⟩:=hr;obtain⟨a,rfl,ha⟩:=JT w1;obtain⟨b,rfl,hb⟩:=JT w2;obtain⟨c,rfl,hc⟩:=JT w3;exact⟨⟨a,b,c,s,ha,hb,hc⟩::l,by rw[List.flatten_cons,h1];rfl,by simp[h2]⟩
theorem Xn{H:Type}{enc:TypeId×Value->H}{w:World}{r:Reach}{base:Nat}{v:Value}{d:DataW H}{ps:List MemPlace}{Bo:Nat->Bool}{JQ:Bool}
  (hv:Value.okWide ak w r base 61 v) (h:DataW.Trod enc ak w 0 Bo JQ 61 v d ps):∃x y:Nat,x<=255/\y<=255/\kO (x9 w) (.agg [.int .u8 (x:Int),.int .u8 (y:Int)]) v:=by
 unfold Value.okWide at hv;rw[Tryz.underlying61]at hv;obtain⟨cs,rfl,_,_⟩:=hv;obtain⟨fuel,h⟩:=h;obtain⟨ds,h1,h2⟩:=zK (T:=.agg [.int .u8,.int .u8]) 9 U h;simp only[Ty.ok,Ty.oks]at h1;obtain⟨_,_,rfl,⟨n1,rfl,w1⟩,_,_,rfl,⟨n2,rfl,w2⟩,rfl⟩:=h1;obtain⟨a,rfl,ha⟩:=JT w1;obtain⟨b,rfl,hb⟩:=JT w2;exact⟨a,b,ha,hb,cs.toList,h2,by simp⟩
end Go.Proofs.YtfihojpgobmmdaaGreatDoor
