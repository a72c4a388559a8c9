/- The Chunk laws: what comes in; the program's tables as the row lists them. No conditions. -/
import Derived.Test.YtfihojpgobmmdaaGreatDoorRows
import Derived.Test.YtfihojpgobmmdaaGreatDoorJointW13
import Derived.Test.YtfihojpgobmmdaaGreatDoorJointW23
import Derived.LaidMore
import Derived.MakeChecks
import Derived.Test.YtfihojpgobmmdaaGreatDoorJointW22
set_option linter.unusedVariables false
set_option linter.unusedSimpArgs false
set_option linter.unusedSectionVars false
namespace Go.Proofs.YtfihojpgobmmdaaGreatDoor
open Go Go.Eng Go.ChangeShapes Go.WideShapes Go.RowKit
theorem SV:Tryz.prog.globalNamed "gouache/digest.round"=some 1:=by kernel_rfl
theorem SX:Tryz.prog.globalNamed "gouache/digest.start"=some 0:=by kernel_rfl
abbrev wU:List (String×DataW Unit):=[("gouache/digest.round",Rows.laid_gouache_digest_round),("gouache/digest.start",Rows.laid_gouache_digest_start)]
def DE:List Int->List (DataW Unit):=fun l=>l.map fun n=>.lit (.int .u32 n)
theorem Wr:(Rows.laid_gouache_digest_round:DataW Unit)= .agg (DE gR):=by kernel_rfl
theorem Ws:(Rows.laid_gouache_digest_start:DataW Unit)= .agg (DE gS):=by kernel_rfl
theorem Jo{w:World}{g t e n:Nat}{cs:Array Value}{fuel:Nat}{p:List MemPlace}{ks:List Int}{name:String}(hg:Tryz.prog.globalNamed name=some g)(hv:w.var? ak name=some cs)
  (ht:Tryz.prog.underlying t=some (.array n e)) (he:Tryz.prog.underlying e=some (.int .u32)) (hc:Tryz.prog.cellsOf e=1)
  (h:DataW.trod (fun _=>()) ak w 0 (fun _=>true) false fuel t cs.toList=some (.agg (DE ks),p)):∃c el fz,w.heap[g]? =some (.cells c el fz)/\∀(i:Nat) (x:Int),ks[i]? =some x->c[i]? =some (.int .u32 x):=by
 obtain⟨xs,m,rfl,hx,rD,hn,hel⟩:=DataW.trod_array ht h;simp only[aB,DataW.agg.injEq]at hx;have iQ:ks.length=n:=by
  have:=aN List.length hx.1;simp only[DE,aY]at this;omega
 have key:∀(i:Nat) (x:Int),ks[i]? =some x->cs[i]? =some (.int .u32 x):=by
  intro i x hi;have fE:i<ks.length:=(aF.1 hi).1;have h1:=hel i be;rw[ay be]at h1;obtain⟨k,e1,e2,_⟩:=DataW.trod_int he h1;have h2:=aN (fun l=>l[i]?) hx.1;simp only[DE,br,hi,bh]at h2;rw[ay be,e2]at h2;simp only[bh,an,DataW.lit.injEq,Lit.int.injEq,true_and]at h2;subst h2;rw[hc,bj]at e1;have h3:=aN (fun l=>l[0]?) e1;simp only[bM,Nat.lt_add_one,if_true,bG,Nat.add_zero,bF]at h3;simpa using h3
 have l5:=World.var?_cell hg hv 0;have h00:0<ks.length\/ks=[]:=by cases ks<;>simp
 unfold World.var? at hv;rw[hg]at hv;simp only[Option.bind_some]at hv;split at hv
 . rename_i c el fz hb;simp only[an]at hv;subst hv;exact⟨_,el,fz,hb,key⟩
 . cases hv
theorem Wt{w:World}(h:laidMetH ak wU w):(∃c el fz,w.heap[0]? =some (.cells c el fz)/\∀(i:Nat) (x:Int),gS[i]? =some x->c[i]? =some (.int .u32 x))/\
  ∃c el fz,w.heap[1]? =some (.cells c el fz)/\∀(i:Nat) (x:Int),gR[i]? =some x->c[i]? =some (.int .u32 x):=by
 rw[MakeChecks.laidMetH_plain _ _ _ U]at h;obtain⟨ps,⟨g0,t0,YR,f0,p0,q0,hg0,ht0,Yu,hd0,⟨g1,t1,cs1,f1,p1,q1,hg1,ht1,hv1,PF,_,_⟩,_⟩,_,_⟩:=h;obtain rfl:=cC (SV.symm.trans hg0);obtain rfl:=cC (SX.symm.trans hg1);rw[Wr]at hd0;rw[Ws]at PF;obtain rfl:=cC ((show(Tryz.prog.globals[1]?).map (·.type)=some 148 by kernel_rfl).symm.trans ht0);obtain rfl:=cC ((show(Tryz.prog.globals[0]?).map (·.type)=some 121 by kernel_rfl).symm.trans ht1);exact⟨Jo SX hv1 Tryz.underlying121 Tryz.underlying120 U PF,Jo SV Yu Tryz.underlying148 Tryz.underlying120 U hd0⟩
def Jp(w:World)(b:Nat):Nat:=match w.heap[b]? with
 |some (.cells c _ _)=>c.size
 |_=>0
def EW(w:World):Env:=⟨fun m=>Co jL m,Jp w,Ar w⟩
theorem agL{w:World}(hw:WG w)(h:laidMetH ak wU w):Eng.Good (EW w) (DK gS gR) w/\qH (EW w) 3/\∀m,¬ew (DK gS gR) m:=by
 obtain⟨⟨c0,YI,fz0,k0,m0⟩,⟨c1,el1,fz1,k1,m1⟩⟩:=Wt h;have kD:∀m o,(DK gS gR).get m=some o->(m=0/\o= .ints .u32 gS)\/(m=1/\o= .ints .u32 gR):=by
  intro m o hm;rcases Bw [(0,.ints .u32 gS),(1,.ints .u32 gR)] .nil m o (fun q hq=>by
   simp only[aE,aL,bt]at hq;rcases hq with rfl|rfl<;>exact au rfl) hm with h1|h1
  . simp[Tr.get]at h1
  . simp only[aE,aB,aL,bt]at h1;exact h1
 have AP:∀m,¬ew (DK gS gR) m:=by
  rintro m ⟨o,h1,h2⟩;rcases kD m o h1 with⟨_,rfl⟩|⟨_,rfl⟩<;>cases h2
 refine⟨⟨fun m o hm=>?_,fun m _ _ _ _ _ hl=>absurd hl (AP m),fun m b s hb=>?_,fun p hp=>Cp hp LJ,fun b c q=>⟨Wq w b c q,fun m s hl=>absurd hl (AP m)⟩⟩,fun m hm=>?_,AP⟩
 . rcases kD m o hm with⟨rfl,rfl⟩|⟨rfl,rfl⟩
   . refine⟨0,0,rfl,c0,YI,fz0,k0,?_,fun i x hx=>by rw[bH];exact m0 i x hx⟩;show c0.size=Jp w 0;unfold Jp;rw[k0]
   . refine⟨1,0,rfl,c1,el1,fz1,k1,?_,fun i x hx=>by rw[bH];exact m1 i x hx⟩;show c1.size=Jp w 1;unfold Jp;rw[k1]
 . obtain⟨p,h1,_,h2⟩:=rR hb;cases h2;exact hw p h1
 . cases q:(EW w).ι m with
   |none=>rfl
   |some _=>obtain⟨p',h1,h2,_⟩:=rR q;have:=Bn h1;simp only[gN,jL,aS,bO]at this;omega
theorem OI{f:FuncId}{fn:Func}{code:Code}(hf:Tryz.prog.funcs[f]? =some fn)(hb:fn.body=some code){ds:ai}{vs:List Value}{w:World}
  (l:(Nat.ble (ds.map D.iH).length fn.ntmps&&Nat.blt fn.ntmps fI)=true) (hT:TG ak 3 fn.ntmps code (cR (ds.map D.iH) (DK gS gR) 3) (fB ak 3 fn fun u _ _=>u= .bool true))
  (hw:WG w) (hl:laidMetH ak wU w) (ra:dG (EW w) (ds.map D.iH) vs):Calls ak f vs.toArray w fun e w'=>e= .returned (.bool true)/\Below w.heap.size w w':=by
 obtain⟨g,hd,AP⟩:=agL hw hl;refine(xy mo po hf hb l hT ra g hd AP).mono fun e w' ⟨⟨E2,ho⟩,N8⟩=>⟨?_,N8⟩;cases e with
 |returned v'=>
  have ho:dz E2 (.bool true) v':=ho;simp only[dz]at ho;rw[ho]
 |_=>exact ho.elim
set_option linter.constructorNameAsVariable false
section
variable{H:Type}{enc:TypeId×Value->H}{w:World}{r:Reach}{base:Nat}{t:TypeId}{v:Value}{d:DataW H}{ps:List MemPlace}{Fv:Nat->Bool}{OG:Bool}
theorem Wu{T:Ty}(n:Nat)(hT:Jn ak n t=some T)(hs:∀cs,v≠ .agg cs)(h:DataW.Trod enc ak w 0 Fv OG t v d ps):∃ds,T.ok ds/\ig (Ar w) ds [v]:=by
 obtain⟨fuel,h⟩:=h;have e:v.cells.toList=[v]:=by cases v<;>first|rfl|exact absurd rfl (hs _)
 rw[e]at h;exact BF n hT h
theorem abp(h:Value.okWide ak w r base t v)(ht:∀fs,Tryz.prog.underlying t≠some (.struct fs))(ht2:∀k e,Tryz.prog.underlying t≠some (.array k e)):∀cs,v≠ .agg cs:=by
 rintro cs rfl;unfold Value.okWide at h;split at h
 . rename_i q;exact ht _ q
 . rename_i q;exact ht2 _ _ q
 . unfold Cell.okWide Cell.ok at h;split at h<;>first|(split at h<;>simp_all)|simp_all
end
theorem SY{n:Int}(h:(Lit.int .u8 n).wf=true):∃k:Nat,n=(k:Int)/\k<=255:=by
 simp only[Lit.wf,aC,bB]at h;have h1:0<=n:=h.1;have h2:n<=255:=h.2;exact⟨n.toNat,be,be⟩
theorem Jq:∀{rows:List (ai)},(∀r∈rows,Ty.ok (.agg [.int .u8,.int .u8,.int .u8,.str]) r)->∃l:List GY,rows.flatten=DC l/\l.length=rows.length
 | [],_=>⟨[],rfl,rfl⟩
 |r::rows,h=>by
  obtain⟨l,h1,h2⟩:=Jq (rows:=rows) fun x hx=>h x (aJ _ hx);have hr:=h r (by simp);simp only[Ty.ok,Ty.oks]at hr;obtain⟨_,_,rfl,⟨n1,rfl,w1⟩,_,_,rfl,⟨n2,rfl,w2⟩,_,_,rfl,⟨n3,rfl,w3⟩,_,_,rfl,⟨s,rfl,_⟩,rfl⟩:=hr;obtain⟨a,rfl,ha⟩:=SY w1;obtain⟨b,rfl,hb⟩:=SY w2;obtain⟨c,rfl,hc⟩:=SY w3;exact⟨⟨a,b,c,s,ha,hb,hc⟩::l,by rw[List.flatten_cons,h1];rfl,by simp[h2]⟩
end Go.Proofs.YtfihojpgobmmdaaGreatDoor
