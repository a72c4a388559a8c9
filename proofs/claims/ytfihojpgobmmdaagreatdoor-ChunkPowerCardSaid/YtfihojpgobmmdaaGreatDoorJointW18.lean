/- Lemmas on the chunk store. No conditions. -/
import Derived.Test.YtfihojpgobmmdaaGreatDoorRows
import Derived.Test.YtfihojpgobmmdaaGreatDoorJointW17
import Derived.LaidMore
import Derived.MakeChecks
import Derived.Test.YtfihojpgobmmdaaGreatDoorJointW16
set_option linter.unusedVariables false
set_option linter.unusedSimpArgs false
set_option linter.unusedSectionVars false
namespace Go.Proofs.YtfihojpgobmmdaaGreatDoor
open Go Go.Eng Go.ChangeShapes Go.WideShapes Go.RowKit
theorem US:Tryz.prog.globalNamed "gouache/digest.round"=some 1:=by kernel_rfl
theorem UT:Tryz.prog.globalNamed "gouache/digest.start"=some 0:=by kernel_rfl
abbrev xM:List (String×DataW Unit):=[("gouache/digest.round",Rows.laid_gouache_digest_round),("gouache/digest.start",Rows.laid_gouache_digest_start)]
def Es:List Int->List (DataW Unit):=fun l=>l.map fun n=>.lit (.int .u32 n)
theorem YD:(Rows.laid_gouache_digest_round:DataW Unit)= .agg (Es gR):=by kernel_rfl
theorem YE:(Rows.laid_gouache_digest_start:DataW Unit)= .agg (Es gS):=by kernel_rfl
theorem Kn{w:World}{g t e n:Nat}{Q:Array Value}{fuel:Nat}{p:List MemPlace}{ks:List Int}{name:String}(hg:Tryz.prog.globalNamed name=some g)(hv:w.var? ak name=some Q)
  (ht:Tryz.prog.underlying t=some (.array n e)) (he:Tryz.prog.underlying e=some (.int .u32)) (J:Tryz.prog.cellsOf e=1)
  (h:DataW.trod (fun _=>()) ak w 0 (fun _=>true) false fuel t Q.toList=some (.agg (Es ks),p)):∃c el fz,w.heap[g]? =some (.cells c el fz)/\∀(i:Nat) (x:Int),ks[i]? =some x->c[i]? =some (.int .u32 x):=by
 obtain⟨xs,m,rfl,M,qR,hn,hel⟩:=DataW.trod_array ht h;simp only[aB,DataW.agg.injEq]at M;have ja:ks.length=n:=by
  have:=aL List.length M.1;simp only[Es,bf]at this;omega
 have key:∀(i:Nat) (x:Int),ks[i]? =some x->Q[i]? =some (.int .u32 x):=by
  intro i x hi;have fH:i<ks.length:=(aH.1 hi).1;have X:=hel i L;rw[az L]at X;obtain⟨k,e1,e2,_⟩:=DataW.trod_int he X;have h2:=aL (fun l=>l[i]?) M.1;simp only[Es,bu,hi,bj]at h2;rw[az L,e2]at h2;simp only[bj,an,DataW.lit.injEq,Lit.int.injEq,true_and]at h2;subst h2;rw[J,bn]at e1;have h3:=aL (fun l=>l[0]?) e1;simp only[bQ,Nat.lt_add_one,if_true,bL,Nat.add_zero,bK]at h3;simpa using h3
 have mJ:=World.var?_cell hg hv 0;have h00:0<ks.length\/ks=[]:=by cases ks<;>simp
 unfold World.var? at hv;rw[hg]at hv;simp only[Option.bind_some]at hv;split at hv
 . rename_i c el fz hb;simp only[an]at hv;subst hv;exact⟨_,el,fz,hb,key⟩
 . cases hv
theorem YF{w:World}(h:laidMetH ak xM w):(∃c el fz,w.heap[0]? =some (.cells c el fz)/\∀(i:Nat) (x:Int),gS[i]? =some x->c[i]? =some (.int .u32 x))/\
  ∃c el fz,w.heap[1]? =some (.cells c el fz)/\∀(i:Nat) (x:Int),gR[i]? =some x->c[i]? =some (.int .u32 x):=by
 rw[MakeChecks.laidMetH_plain _ _ _ U]at h;obtain⟨ps,⟨g0,t0,cs0,f0,p0,q0,hg0,ht0,hv0,hd0,⟨g1,t1,cs1,f1,p1,q1,hg1,ht1,hv1,Rn,_,_⟩,_⟩,_,_⟩:=h;obtain rfl:=cG (US.symm.trans hg0);obtain rfl:=cG (UT.symm.trans hg1);rw[YD]at hd0;rw[YE]at Rn;obtain rfl:=cG ((show(Tryz.prog.globals[1]?).map (·.type)=some 148 by kernel_rfl).symm.trans ht0);obtain rfl:=cG ((show(Tryz.prog.globals[0]?).map (·.type)=some 121 by kernel_rfl).symm.trans ht1);exact⟨Kn UT hv1 Tryz.underlying121 Tryz.underlying120 U Rn,Kn US hv0 Tryz.underlying148 Tryz.underlying120 U hd0⟩
def Ko(w:World)(b:Nat):Nat:=match w.heap[b]? with
 |some (.cells c _ _)=>c.size
 |_=>0
def EW(w:World):Env:=⟨fun m=>De kf m,Ko w,xm w⟩
theorem ajv{w:World}(hw:WG w)(h:laidMetH ak xM w):Eng.Good (EW w) (EB gS gR) w/\rL (EW w) 3/\∀m,¬eG (EB gS gR) m:=by
 obtain⟨⟨c0,el0,fz0,k0,m0⟩,⟨c1,el1,fz1,k1,m1⟩⟩:=YF h;have kY:∀m o,(EB gS gR).get m=some o->(m=0/\o= .ints .u32 gS)\/(m=1/\o= .ints .u32 gR):=by
  intro m o W;rcases Cm [(0,.ints .u32 gS),(1,.ints .u32 gR)] .nil m o (fun q hq=>by
   simp only[aD,aN,br]at hq;rcases hq with rfl|rfl<;>exact ax rfl) W with X|X
  . simp[H.get]at X
  . simp only[aD,aB,aN,br]at X;exact X
 have xk:∀m,¬eG (EB gS gR) m:=by
  rintro m ⟨o,X,h2⟩;rcases kY m o X with⟨_,rfl⟩|⟨_,rfl⟩<;>cases h2
 refine⟨⟨fun m o W=>?_,fun m _ _ _ _ _ hl=>absurd hl (xk m),fun m b s hb=>?_,fun p hp=>Df hp M7,fun b c q=>⟨YC w b c q,fun m s hl=>absurd hl (xk m)⟩⟩,fun m W=>?_,xk⟩
 . rcases kY m o W with⟨rfl,rfl⟩|⟨rfl,rfl⟩
   . refine⟨0,0,rfl,c0,el0,fz0,k0,?_,fun i x M=>by rw[bI];exact m0 i x M⟩;show c0.size=Ko w 0;unfold Ko;rw[k0]
   . refine⟨1,0,rfl,c1,el1,fz1,k1,?_,fun i x M=>by rw[bI];exact m1 i x M⟩;show c1.size=Ko w 1;unfold Ko;rw[k1]
 . obtain⟨p,X,_,h2⟩:=sQ hb;cases h2;exact hw p X
 . cases q:(EW w).ι m with
   |none=>rfl
   |some _=>obtain⟨p',X,h2,_⟩:=sQ q;have:=Ce X;simp only[gN,kf,aT,bP]at this;omega
theorem Qj{f:FuncId}{fn:Func}{code:Code}(hf:Tryz.prog.funcs[f]? =some fn)(hb:fn.body=some code){ds:ai}{vs:List Value}{w:World}
  (l:(Nat.ble (ds.map lf.iZ).length fn.ntmps&&Nat.blt fn.ntmps fW)=true) (hT:TG ak 3 fn.ntmps code (cZ (ds.map lf.iZ) (EB gS gR) 3) (fL ak 3 fn fun u _ _=>u= .bool true))
  (hw:WG w) (hl:laidMetH ak xM w) (ra:dK (EW w) (ds.map lf.iZ) vs):Calls ak f vs.toArray w fun e w'=>e= .returned (.bool true)/\Below w.heap.size w w':=by
 obtain⟨g,hd,xk⟩:=ajv hw hl;refine(yh mo po hf hb l hT ra g hd xk).mono fun e w' ⟨⟨E2,ho⟩,Md⟩=>⟨?_,Md⟩;cases e with
 |returned v'=>
  have ho:dJ E2 (.bool true) v':=ho;simp only[dJ]at ho;rw[ho]
 |_=>exact ho.elim
set_option linter.constructorNameAsVariable false
section
variable{Tr:Type}{enc:TypeId×Value->Tr}{w:World}{r:Reach}{base:Nat}{t:TypeId}{v:Value}{d:DataW Tr}{ps:List MemPlace}{BN:Nat->Bool}{Km:Bool}
theorem Ot{cS:Ty}(n:Nat)(hT:Kl ak n t=some cS)(hs:∀Q,v≠ .agg Q)(h:DataW.Trod enc ak w 0 BN Km t v d ps):∃ds,cS.ok ds/\iH (xm w) ds [v]:=by
 obtain⟨fuel,h⟩:=h;have e:v.cells.toList=[v]:=by cases v<;>first|rfl|exact absurd rfl (hs _)
 rw[e]at h;exact Ai n hT h
theorem UU(h:Value.okWide ak w r base t v)(ht:∀fs,Tryz.prog.underlying t≠some (.struct fs))(ht2:∀k e,Tryz.prog.underlying t≠some (.array k e)):∀Q,v≠ .agg Q:=by
 rintro Q rfl;unfold Value.okWide at h;split at h
 . rename_i q;exact ht _ q
 . rename_i q;exact ht2 _ _ q
 . unfold Cell.okWide Cell.ok at h;split at h<;>first|(split at h<;>simp_all)|simp_all
end
theorem Kp{n:Int}(h:(Lit.int .u8 n).wf=true):∃k:Nat,n=(k:Int)/\k<=255:=by
 simp only[Lit.wf,aE,bD]at h;have X:0<=n:=h.1;have h2:n<=255:=h.2;exact⟨n.toNat,L,L⟩
theorem Et:∀{rows:List (ai)},(∀r∈rows,Ty.ok (.agg [.int .u8,.int .u8,.int .u8,.str]) r)->∃l:List lR,rows.flatten=pM l/\l.length=rows.length
 | [],_=>⟨[],rfl,rfl⟩
 |r::rows,h=>by
  obtain⟨l,X,h2⟩:=Et (rows:=rows) fun x M=>h x (aM _ M);have hr:=h r (by simp);simp only[Ty.ok,Ty.oks]at hr;obtain⟨_,_,rfl,⟨n1,rfl,w1⟩,_,_,rfl,⟨n2,rfl,w2⟩,_,_,rfl,⟨n3,rfl,w3⟩,_,_,rfl,⟨s,rfl,_⟩,rfl⟩:=hr;obtain⟨a,rfl,ha⟩:=Kp w1;obtain⟨b,rfl,hb⟩:=Kp w2;obtain⟨c,rfl,J⟩:=Kp w3;exact⟨⟨a,b,c,s,ha,hb,J⟩::l,by rw[List.flatten_cons,X];rfl,by simp[h2]⟩
theorem ajw(ls ms:List lR)(x y:Nat)(M:x<=255)(hy:y<=255):TG ak 3 Tryz.f11.ntmps Kk (cZ [lH ls,lH ms,.agg [.int .u8 (x:Int),.int .u8 (y:Int)]] (EB gS gR) 3) (fL ak 3 Tryz.f11 fun u _ _=>u= .bool true):=ash x y ls ms hy M
end Go.Proofs.YtfihojpgobmmdaaGreatDoor
