/- The Chunk laws: what comes in; the program's tables as the row lists them. No conditions. -/
import Derived.Test.YtfihojpgobmmdaaGreatDoorRows
import Derived.Test.YtfihojpgobmmdaaGreatDoorJointW13
import Derived.Test.YtfihojpgobmmdaaGreatDoorJointW23
import Derived.LaidMore
import Derived.MakeChecks
import Derived.Test.YtfihojpgobmmdaaGreatDoorJointW22
import Derived.Test.YtfihojpgobmmdaaGreatDoorJointW19
set_option linter.unusedVariables false
set_option linter.unusedSimpArgs false
set_option linter.unusedSectionVars false
set_option maxRecDepth 20000
namespace Go.Proofs.YtfihojpgobmmdaaGreatDoor
open Go Go.Eng Go.ChangeShapes Go.WideShapes Go.RowKit
theorem To:Tryz.prog.globalNamed "gouache/digest.round"=some 1:=by kernel_rfl
theorem Tp:Tryz.prog.globalNamed "gouache/digest.start"=some 0:=by kernel_rfl
abbrev w8:List (String×DataW Unit):=[("gouache/digest.round",Rows.laid_gouache_digest_round),("gouache/digest.start",Rows.laid_gouache_digest_start)]
def DU:List Int->List (DataW Unit):=fun l=>l.map fun n=>.lit (.int .u32 n)
theorem WX:(Rows.laid_gouache_digest_round:DataW Unit)= .agg (DU gR):=by kernel_rfl
theorem WY:(Rows.laid_gouache_digest_start:DataW Unit)= .agg (DU gS):=by kernel_rfl
theorem JG{w:World}{g t e n:Nat}{cs:Array Value}{fuel:Nat}{p:List MemPlace}{ks:List Int}{name:String}(hg:Tryz.prog.globalNamed name=some g)(hv:w.var? ak name=some cs)
  (ht:Tryz.prog.underlying t=some (.array n e)) (he:Tryz.prog.underlying e=some (.int .u32)) (hc:Tryz.prog.cellsOf e=1)
  (h:DataW.trod (fun _=>()) ak w 0 (fun _=>true) false fuel t cs.toList=some (.agg (DU ks),p)):∃c el fz,w.heap[g]? =some (.cells c el fz)/\∀(i:Nat) (x:Int),ks[i]? =some x->c[i]? =some (.int .u32 x):=by
 obtain⟨xs,m,rfl,hx,rJ,hn,hel⟩:=DataW.trod_array ht h;simp only[aB,DataW.agg.injEq]at hx;have iS:ks.length=n:=by
  have:=aM List.length hx.1;simp only[DU,aY]at this;omega
 have key:∀(i:Nat) (x:Int),ks[i]? =some x->cs[i]? =some (.int .u32 x):=by
  intro i x hi;have fF:i<ks.length:=(aF.1 hi).1;have h1:=hel i be;rw[ay be]at h1;obtain⟨k,e1,e2,_⟩:=DataW.trod_int he h1;have h2:=aM (fun l=>l[i]?) hx.1;simp only[DU,bt,hi,bh]at h2;rw[ay be,e2]at h2;simp only[bh,an,DataW.lit.injEq,Lit.int.injEq,true_and]at h2;subst h2;rw[hc,bk]at e1;have h3:=aM (fun l=>l[0]?) e1;simp only[bO,Nat.lt_add_one,if_true,bH,Nat.add_zero,bG]at h3;simpa using h3
 have l9:=World.var?_cell hg hv 0;have h00:0<ks.length\/ks=[]:=by cases ks<;>simp
 unfold World.var? at hv;rw[hg]at hv;simp only[Option.bind_some]at hv;split at hv
 . rename_i c el fz hb;simp only[an]at hv;subst hv;exact⟨_,el,fz,hb,key⟩
 . cases hv
theorem WZ{w:World}(h:laidMetH ak w8 w):(∃c el fz,w.heap[0]? =some (.cells c el fz)/\∀(i:Nat) (x:Int),gS[i]? =some x->c[i]? =some (.int .u32 x))/\
  ∃c el fz,w.heap[1]? =some (.cells c el fz)/\∀(i:Nat) (x:Int),gR[i]? =some x->c[i]? =some (.int .u32 x):=by
 rw[MakeChecks.laidMetH_plain _ _ _ U]at h;obtain⟨ps,⟨g0,t0,Zq,f0,p0,q0,hg0,ht0,Y3,hd0,⟨g1,t1,cs1,f1,p1,q1,hg1,ht1,hv1,Qb,_,_⟩,_⟩,_,_⟩:=h;obtain rfl:=ct (To.symm.trans hg0);obtain rfl:=ct (Tp.symm.trans hg1);rw[WX]at hd0;rw[WY]at Qb;obtain rfl:=ct ((show(Tryz.prog.globals[1]?).map (·.type)=some 148 by kernel_rfl).symm.trans ht0);obtain rfl:=ct ((show(Tryz.prog.globals[0]?).map (·.type)=some 121 by kernel_rfl).symm.trans ht1);exact⟨JG Tp hv1 Tryz.underlying121 Tryz.underlying120 U Qb,JG To Y3 Tryz.underlying148 Tryz.underlying120 U hd0⟩
def JH(w:World)(b:Nat):Nat:=match w.heap[b]? with
 |some (.cells c _ _)=>c.size
 |_=>0
def EW(w:World):Env:=⟨fun m=>CF jR m,JH w,AG w⟩
theorem ahs{w:World}(hw:WG w)(h:laidMetH ak w8 w):Eng.Good (EW w) (D0 gS gR) w/\qN (EW w) 3/\∀m,¬eC (D0 gS gR) m:=by
 obtain⟨⟨c0,Zh,fz0,k0,m0⟩,⟨c1,el1,fz1,k1,m1⟩⟩:=WZ h;have kJ:∀m o,(D0 gS gR).get m=some o->(m=0/\o= .ints .u32 gS)\/(m=1/\o= .ints .u32 gR):=by
  intro m o hm;rcases BM [(0,.ints .u32 gS),(1,.ints .u32 gR)] .nil m o (fun q hq=>by
   simp only[aE,aL,bu]at hq;rcases hq with rfl|rfl<;>exact au rfl) hm with h1|h1
  . simp[Tr.get]at h1
  . simp only[aE,aB,aL,bu]at h1;exact h1
 have A4:∀m,¬eC (D0 gS gR) m:=by
  rintro m ⟨o,h1,h2⟩;rcases kJ m o h1 with⟨_,rfl⟩|⟨_,rfl⟩<;>cases h2
 refine⟨⟨fun m o hm=>?_,fun m _ _ _ _ _ hl=>absurd hl (A4 m),fun m b s hb=>?_,fun p hp=>CG hp Me,fun b c q=>⟨WW w b c q,fun m s hl=>absurd hl (A4 m)⟩⟩,fun m hm=>?_,A4⟩
 . rcases kJ m o hm with⟨rfl,rfl⟩|⟨rfl,rfl⟩
   . refine⟨0,0,rfl,c0,Zh,fz0,k0,?_,fun i x hx=>by rw[bI];exact m0 i x hx⟩;show c0.size=JH w 0;unfold JH;rw[k0]
   . refine⟨1,0,rfl,c1,el1,fz1,k1,?_,fun i x hx=>by rw[bI];exact m1 i x hx⟩;show c1.size=JH w 1;unfold JH;rw[k1]
 . obtain⟨p,h1,_,h2⟩:=rU hb;cases h2;exact hw p h1
 . cases q:(EW w).ι m with
   |none=>rfl
   |some _=>obtain⟨p',h1,h2,_⟩:=rU q;have:=BD h1;simp only[gN,jR,aS,bQ]at this;omega
theorem O5{f:FuncId}{fn:Func}{code:Code}(hf:Tryz.prog.funcs[f]? =some fn)(hb:fn.body=some code){ds:ai}{vs:List Value}{w:World}
  (l:(Nat.ble (ds.map D.iJ).length fn.ntmps&&Nat.blt fn.ntmps fL)=true) (hT:TG ak 3 fn.ntmps code (cS (ds.map D.iJ) (D0 gS gR) 3) (fG ak 3 fn fun u _ _=>u= .bool true))
  (hw:WG w) (hl:laidMetH ak w8 w) (ra:dI (EW w) (ds.map D.iJ) vs):Calls ak f vs.toArray w fun e w'=>e= .returned (.bool true)/\Below w.heap.size w w':=by
 obtain⟨g,hd,A4⟩:=ahs hw hl;refine(xG mo po hf hb l hT ra g hd A4).mono fun e w' ⟨⟨E2,ho⟩,Oz⟩=>⟨?_,Oz⟩;cases e with
 |returned v'=>
  have ho:dD E2 (.bool true) v':=ho;simp only[dD]at ho;rw[ho]
 |_=>exact ho.elim
set_option linter.constructorNameAsVariable false
section
variable{H:Type}{enc:TypeId×Value->H}{w:World}{r:Reach}{base:Nat}{t:TypeId}{v:Value}{d:DataW H}{ps:List MemPlace}{FK:Nat->Bool}{O3:Bool}
theorem W0{T:Ty}(n:Nat)(hT:JF ak n t=some T)(hs:∀cs,v≠ .agg cs)(h:DataW.Trod enc ak w 0 FK O3 t v d ps):∃ds,T.ok ds/\iq (AG w) ds [v]:=by
 obtain⟨fuel,h⟩:=h;have e:v.cells.toList=[v]:=by cases v<;>first|rfl|exact absurd rfl (hs _)
 rw[e]at h;exact BX n hT h
theorem abZ(h:Value.okWide ak w r base t v)(ht:∀fs,Tryz.prog.underlying t≠some (.struct fs))(ht2:∀k e,Tryz.prog.underlying t≠some (.array k e)):∀cs,v≠ .agg cs:=by
 rintro cs rfl;unfold Value.okWide at h;split at h
 . rename_i q;exact ht _ q
 . rename_i q;exact ht2 _ _ q
 . unfold Cell.okWide Cell.ok at h;split at h<;>first|(split at h<;>simp_all)|simp_all
end
theorem Tq{n:Int}(h:(Lit.int .u8 n).wf=true):∃k:Nat,n=(k:Int)/\k<=255:=by
 simp only[Lit.wf,aC,bC]at h;have h1:0<=n:=h.1;have h2:n<=255:=h.2;exact⟨n.toNat,be,be⟩
theorem JI:∀{rows:List (ai)},(∀r∈rows,Ty.ok (.agg [.int .u8,.int .u8,.int .u8,.str]) r)->∃l:List AF,rows.flatten=DR l/\l.length=rows.length
 | [],_=>⟨[],rfl,rfl⟩
 |r::rows,h=>by
  obtain⟨l,h1,h2⟩:=JI (rows:=rows) fun x hx=>h x (aJ _ hx);have hr:=h r (by simp);simp only[Ty.ok,Ty.oks]at hr;obtain⟨_,_,rfl,⟨n1,rfl,w1⟩,_,_,rfl,⟨n2,rfl,w2⟩,_,_,rfl,⟨n3,rfl,w3⟩,_,_,rfl,⟨s,rfl,_⟩,rfl⟩:=hr;obtain⟨a,rfl,ha⟩:=Tq w1;obtain⟨b,rfl,hb⟩:=Tq w2;obtain⟨c,rfl,hc⟩:=Tq w3;exact⟨⟨a,b,c,s,ha,hb,hc⟩::l,by rw[List.flatten_cons,h1];rfl,by simp[h2]⟩
theorem apI(cO cP:Nat)(b:aa)(fl nx lf:Int)(es rt:ae):c6 (kY []) [] 7 Tryz.f21 [] (dP Tryz.f21) (cS [P3] (eu (pS cO cP b fl nx lf es rt)) 7) [([],
   [],
   .ret (.int .i64 ((Int.ofNat cO))) (eu (pS cO cP b fl nx lf es rt)) 7)]
 :=cQ.of U U U
section
variable{p:iw}(fl:Int){cT:List ju}(nx:Int){k:Nat}(lf:Int)
theorem apJ:c6 (kY []) [] 7 Tryz.f21 [] (dP Tryz.f21) (cS [P3] (eu (pN fl nx lf [] [])) 7) [([],
   [],
   .ret (.int .i64 0) (hL [(0,.ints .u32 gS),(1,.ints .u32 gR),(3,.cells [.dj none 0 0 0,.int .i64 ((pN fl nx lf [] []).fl),.map (some 5),.map (some 6),.int .i64 ((pN fl nx lf [] []).nx),.bool false,.bool false,.int .i64 ((pN fl nx lf [] []).lf)]),(5,.dF none []),(6,.dF none [])]) 7)]
 :=cQ.of U U U
theorem aht:30<Tryz.prog.funcs.size:=au U
theorem YH:21<Tryz.prog.funcs.size:=au U
abbrev nsT(p:iw):List (Option Nat):=[some 0,some 1,some 2,some 4,lgN 5 p,some (5+sh p),some (6+sh p)]
theorem Xa(n cP:Nat)(b:aa)(fl nx lf:Int)(es rt:ae):cU ak 21 [P3] (eu (pS n cP b fl nx lf es rt)) 7 (.int .i64 (Int.ofNat n)) (eu (pS n cP b fl nx lf es rt)) 7:=by
 refine c7 Tryz.func21 (code:=dP Tryz.f21) U U ?_;refine fB (XQ []) (apI n cP b fl nx lf es rt) (dG ?_);exact⟨cR,_,_,_,rfl,rfl,rfl,rfl⟩
theorem Xb:cU ak 21 [P3] (eu (pN fl nx lf [] [])) 7 (.int .i64 0) (eu (pN fl nx lf [] [])) 7:=by
 refine c7 Tryz.func21 (code:=dP Tryz.f21) U U ?_;refine fB (XQ []) (apJ fl nx lf) (dG ?_);exact⟨cR,_,_,_,rfl,rfl,rfl,rfl⟩
theorem qe.same{l0:List RS}(h:qe p cT k l0)(hB:cT.length<=2500)(l:List RS):cU ak 28 [P3,(fW cT).v] (hL (gy p l)) 9 (.bool true) (hL (gy p l)) 9:=by
 obtain⟨hw,hg,rJ,_,_⟩:=h.all be;have:=m28 p l (fW cT) (BW h be) (fun _=>rfl) (by rw[aY];have:=hw.WH;omega) be (fun c hc=>by have:=(hw.nm c hc).2.2;omega);rw[JC hw hg (fun _=>rfl) True ⟨fun _=>trivial,fun _=>rfl⟩]at this;simpa using this
theorem qe.size{l:List RS}(h:qe p cT k l):cU ak 21 [P3] (eu p) 7 (.int .i64 (Int.ofNat (cZ cT).length)) (eu p) 7:=by
 rcases h.LO with⟨e0,e⟩|⟨cP,_,_,e⟩
 . rw[e,e0];exact Xb 0 0 0
 . rw[e];exact Xa _ _ _ _ _ _ _ _
end
theorem FL:∀(cs:List gH) (bs:List Bool),(∀(m:Nat) (c:gH),cs[m]? =some c->bs[m]? =some true)->jH cs bs=cs
 | [],_,_=>by unfold jH;rfl
 |c::cs,[],h=>by have:=h 0 c rfl;cases this
 |c::cs,b::bs,h=>by
  have h0:some b=some true:=h 0 c rfl;have h0:=ct h0;subst h0;unfold jH;rw[aG rfl,FL cs bs fun m c hm=>h (m+1) c hm]
theorem Ts{s:RS}(h:mw s){p:aa×aa}(hp:p∈s.ro){x:aa}(q:oV (nA s.cs 0) p.2 x):oV (nA (eS s).cs 0) p.2 x:=by
 have hw:=zF h;have tc:List.Sublist (eS s).cs s.cs:=mS _ _
 induction q with
 |refl=>exact .refl _
 |step q hz ih=>
  refine .step ih ?_;obtain⟨cy,hcy,e⟩:=LK h q (h.rv p hp).2;subst e;obtain⟨j,hj⟩:=bz.1 hcy;rw[h.refs hj]at hz;obtain⟨c',o7,e⟩:=bj.1 ((vI h cy.dg).2 ⟨j,cy,hj,rfl,cy,hj,p,hp,q⟩);obtain⟨m,hm⟩:=bz.1 o7;obtain⟨i,hi⟩:=bz.1 (tc.subset o7);have:=h.Js hi hj e;subst this;rw[hi]at hj;cases hj;rw[hw.refs hm];exact hz
theorem O6{s:RS}(h:mw s):eS (eS s)=eS s:=by
 have hw:=zF h;have e:jH (eS s).cs (eV (eS s))=(eS s).cs:=FL _ _ fun m c hm=>by
  rw[kept hw hm];obtain⟨k,c',hk,e,c2,h2,p,hp,q⟩:=(vI h c.dg).1 (bj.2 ⟨c,aU hm,rfl⟩);rw[hk]at h2;cases h2;rw[e]at q;exact⟨c,hm,p,hp,Ts h hp q⟩
 show RS.mk (jH (eS s).cs (eV (eS s))) (eS s).ro=_;rw[e]
theorem Tt{t:RS}(h:mw t):Int.ofNat (cZ (jf t)).length<=tM t:=by
 have h1:∀l:List gH,(∀c∈l,(∀x∈c.rs,x.length=32))->(((cZ (l.map fun c=>ju.chunk c.da c.rs)).length:Nat):Int)<=(l.map wI).sum:=by
  intro l
  induction l with
  |nil=>intro _;exact Int.le_refl _
  |cons c l ih=>
   intro hl;have:=ih fun x hx=>hl x (aJ _ hx);have hc:=As c.da (hl c (by simp));rw[bN,jh,ax,bN,List.sum_cons];have e:(ju.chunk c.da c.rs).bytes.length=(gL c.da c.rs).length:=rfl;have e2:wI c=64+(c.da.length:Int)+32*(c.rs.length:Int):=rfl;rw[e,e2];omega
 have h2:∀l:List (aa×aa),(∀p∈l,p.2.length=32)->(((cZ (l.map fun p=>ju.root p.1 p.2)).length:Nat):Int)<=(l.map xZ).sum:=by
  intro l
  induction l with
  |nil=>intro _;exact Int.le_refl _
  |cons p l ih=>
   intro hl;have:=ih fun x hx=>hl x (aJ _ hx);have hc:=(IG p.1 p.2).2;have h32:=hl p (by simp);rw[bN,jh,ax,bN,List.sum_cons];have e:(ju.root p.1 p.2).bytes.length=(kK p.1 p.2).length:=rfl;have e2:xZ p=96+(p.1.length:Int):=rfl;rw[e,e2];omega
 have a1:=h1 t.cs fun c hc r hr=>by
  obtain⟨j,hj⟩:=bz.1 hc;obtain⟨i,c',_,o7,e⟩:=h.ref j c hj r hr;rw[<- e];exact h.zD (aU o7)
 have a2:=h2 t.ro fun p hp=>by
  obtain⟨c,hc,e⟩:=(h.rv p hp).2;rw[<- e];exact h.zD hc
 have e:cZ (jf t)=cZ (t.cs.map fun c=>ju.chunk c.da c.rs)++cZ (t.ro.map fun p=>ju.root p.1 p.2):=by
  unfold jf cZ;rw[aX,cn]
 rw[e,ax];unfold tM;show(((_+_:Nat)):Int)<=_;omega
structure AgI(s u:RS)(i:Nat):Prop where
 sub:∀c∈u.cs,c.dg∈s.cs.map gH.dg
 all:∀(j:Nat) (c:gH),j<i->s.cs[j]? =some c->c.dg∈u.cs.map gH.dg
section
variable{s u:RS}
theorem Xc:AgI s (eS s) 0:=⟨fun _ hc=>bj.2 ⟨_,(mS s.cs (eV s)).subset hc,rfl⟩,fun _ _ h _=>absurd h (Nat.not_lt_zero _)⟩
theorem Tu(hu:mw u){x:aa}(h:x∈u.cs.map gH.dg):0<=fU u.cs x:=by
 obtain⟨c,hc,e⟩:=bj.1 h;obtain⟨j,hj⟩:=bz.1 hc;exact(lR hu.nd).2 ⟨j,c,hj,e⟩
theorem Xd(hs:mw s)(hu:mw u){i:Nat}{c:gH}(hc:s.cs[i]? =some c)(a:AgI s u i):(jv u c.da c.rs).dg=c.dg/\(jv u c.da c.rs).er=0/\AgI s (jv u c.da c.rs).s (i+1):=by
 have hn:=(hs.nm c (aU hc)).1;have hm:¬∃r∈c.rs,fU u.cs r<0:=fun⟨r,hr,hf⟩=>by
  obtain⟨j,c',hj,o7,e⟩:=hs.ref i c hc r hr;have:=Tu hu (a.all j c' hj o7);rw[e]at this;omega
 unfold jv;rw[aI hm,<- hn];by_cases hf:0<=fU u.cs c.dg
 . rw[aG hf];refine⟨rfl,rfl,a.sub,fun j c' hj o7=>?_⟩;by_cases q:j<i
   . exact a.all j c' q o7
   . have:j=i:=by omega
     subst this;rw[hc]at o7;cases o7;obtain⟨k,c2,hk,e⟩:=(lR hu.nd).1 hf;exact bj.2 ⟨c2,aU hk,e⟩
 . rw[aI hf];refine⟨rfl,rfl,fun c' o7=>?_,fun j c' hj o7=>?_⟩
   . rcases aT.1 o7 with q|q
     . exact a.sub c' q
     . rw[aq.1 q];exact bj.2 ⟨c,aU hc,rfl⟩
   . show c'.dg∈(u.cs++[_]).map gH.dg;rw[aX];by_cases q:j<i
     . exact aT.2 (.inl (a.all j c' q o7))
     . have:j=i:=by omega
       subst this;rw[hc]at o7;cases o7;exact aT.2 (.inr (by simp))
theorem ab0(hs:mw s)(hu:mw u)(a:AgI s u s.cs.length):u.cs.length=s.cs.length:=by
 have:=(BV hu.nd hs.nd fun x=>⟨fun hx=>by
  obtain⟨c,hc,rfl⟩:=bj.1 hx;exact a.sub c hc,fun hx=>by
  obtain⟨c,hc,rfl⟩:=bj.1 hx;obtain⟨j,hj⟩:=bz.1 hc;exact a.all j c (aF.1 hj).1 hj⟩).length_eq
 rwa [aY,aY]at this
theorem O7{d:aa}{rs:List (aa)}(h:¬(jv u d rs).ch=true):(jv u d rs).s=u:=by
 unfold jv at h ⊢;split
 . rfl
 . rw[aI ‹_›]at h;split
   . rfl
   . rw[aI ‹_›]at h;exact absurd rfl h
end
noncomputable abbrev x7:Code:=dP Tryz.f10
noncomputable abbrev ahu:Code:=dK (de 13 x7)
noncomputable abbrev ab1:Code:=dw (dw (ee ahu))
section
variable(z:Int)(b:Nat)(p q:iw)(l:List RS)(w w2:RS)
noncomputable abbrev apK:Code:=dw (dK (ee ab1))
def kyC(a:Nat)(l:List RS)(ex:af):af:=moG b (b+sh q) (b+1+sh q) a q l++ex
def kyA:St:=eF [(3,.bool true),(4,P3)] (hL (lL p l)) (8+sh p)
def kyB:St:=eF [(3,.bool true),(4,P3),(5,.ptr (some (8+sh p,0)))] (hL (lL p l++[(8+sh p,bx w)])) (9+sh p)
def uc:af:=lL p l++[(8+sh p,bx w),(9+sh p,bx w2)]
def kyD:af:=kyC b q (7+sh p) l [(8+sh p,bx w),(9+sh p,bx w2)]
def Bi(r:List (Nat×V)):St:=eF ([(3,.bool true),(4,P3),(5,.ptr (some (8+sh p,0))),(6,.ptr (some (9+sh p,0)))]++r) (hL (uc p l w w2)) (10+sh p)
abbrev f8k:List (Nat×V):=[(7,qJ),(8,.int .i64 z)]
abbrev f9k:List (Nat×V):=f8k z++[(9,.bool true)]
abbrev ab3:List (Nat×V):=f9k z++[(10,.bool true)]
end
section
variable(p q:iw)(ops:List AF)(l:List RS)(w w2:RS)(z:Int)(i:Nat)
abbrev ab4:List (Nat×V):=ab3 z++[(11,qJ)]
abbrev Bx:List (Nat×V):=ab4 z++[(12,.bool true)]
theorem apN:c6 (fD apz 26 [] (D0 gS gR) 3 (P3,hL (moG 0 5 6 7 (sZ 0 0 0) [jB]),8)) [] 3 Tryz.f10 [0,3,4] (eR 3 x7) (cS [DS ops] (D0 gS gR) 3) [([],
   [(gS=gS),(gR=gR),fo [] (hL [(0,.ints .u32 gS),(1,.ints .u32 gR)]) 3],
   .to .normal (eF [(0,.dO false (ops.length) (DR ops)),(3,.bool true),(4,.ptr (some (3,0)))] (hL [(0,.ints .u32 gS),(1,.ints .u32 gR),(3,.cells [.ptr (some (4,0)),.dj (some (7,0)) 1 1 2]),(4,.cells [.dj none 0 0 0,.int .i64 0,.map (some 5),.map (some 6),.int .i64 0,.bool false,.bool false,.int .i64 0]),(5,.dF none []),(6,.dF none []),(7,.deep [.dO 0 [],.dO 0 []])]) 8))]
 :=cQ.of U U U
theorem apO(l1:List RS):c6 (fD gu 30 [P3,DS ops] (hL (lL p l)) (8+sh p) (.bool true,hL (moA (8+sh p) q l1),(11+sh p+sh q))) [] 3 Tryz.f10 [3,4] (dK (de 3 x7)) (sL p ops l []) [([],
   [fo [P3,DS ops] (hL (lL p l)) (8+sh p)],
   .to .normal (kyA q l1))]
 :=by rcases p with⟨_|⟨_,_,_⟩,_⟩<;>rcases q with⟨_|⟨_,_,_⟩,_⟩<;>exact cQ.of U U U
theorem apP:c6 (fD gu 29 [P3] (hL (lL p l)) (8+sh p) (w.v,hL (lL p l),(8+sh p))) [] 3 Tryz.f10 [3,4,5] (dK (de 4 x7)) (kyA p l) [([],
   [fo [P3] (hL (lL p l)) (8+sh p)],
   .to .normal (kyB p l w))]
 :=by rcases p with⟨_|⟨_,_,_⟩,_⟩<;>exact cQ.of U U U
theorem apQ:c6 (fD gu 32 [w.v] (hL (lL p l++[(8+sh p,bx w)])) (9+sh p) (w2.v,hL (lL p l++[(8+sh p,bx w)]),(9+sh p))) [] 3 Tryz.f10 [3,4,5,6] (dK (de 5 x7)) (kyB p l w) [([],
   [fo [w.v] (hL (lL p l++[(8+sh p,bx w)])) (9+sh p)],
   .to .normal (Bi p l w w2 []))]
 :=by rcases p with⟨_|⟨_,_,_⟩,_⟩<;>exact cQ.of U U U
theorem apR:c6 (fD gu 19 [.ptr (some (4,0))] (hL (uc p l w w2)) (10+sh p) (qJ,hL (kyD (10+sh p) p q l w w2),(12+sh p+sh q))) [] 3 Tryz.f10 [3,4,5,6,7] (dK (de 6 x7)) (Bi p l w w2 []) [([],
   [fo [.ptr (some (4,0))] (hL (uc p l w w2)) (10+sh p)],
   .to .normal (Bi q l w w2 [(7,qJ)]))]
 :=by rcases p with⟨_|⟨_,_,_⟩,_⟩<;>rcases q with⟨_|⟨_,_,_⟩,_⟩<;>exact cQ.of U U U
theorem apS:c6 (fD gu 21 [.ptr (some (4,0))] (hL (uc p l w w2)) (10+sh p) (.int .i64 z,hL (uc p l w w2),(10+sh p))) [] 3 Tryz.f10 [3,4,5,6,7,8] (dK (de 7 x7)) (Bi p l w w2 [(7,qJ)]) [([],
   [fo [.ptr (some (4,0))] (hL (uc p l w w2)) (10+sh p)],
   .to .normal (Bi p l w w2 (f8k z)))]
 :=by rcases p with⟨_|⟨_,_,_⟩,_⟩<;>exact cQ.of U U U
theorem apT:c6 (fD gu 28 [P3,w2.v] (hL (uc p l w w2)) (10+sh p) (.bool true,hL (uc p l w w2),(10+sh p))) [] 3 Tryz.f10 [3,4,5,6,7,8,9] (dK (de 8 x7)) (Bi p l w w2 (f8k z)) [([],
   [fo [P3,w2.v] (hL (uc p l w w2)) (10+sh p)],
   .to .normal (Bi p l w w2 (f9k z)))]
 :=by rcases p with⟨_|⟨_,_,_⟩,_⟩<;>exact cQ.of U U U
theorem apU:c6 (fD gu 31 [.ptr (some (4,0)),.dj (some (10+sh p,0)) 1 1 1] (hL (uc p l w w2++[(10+sh p,.cells [.int .i64 0])])) (11+sh p) (.ew [],hL (kyD (11+sh p) p q l w w2),(13+sh p+sh q))) [] 3 Tryz.f10 [3,4,5,6,7,8,9] (dK (de 9 x7)) (Bi p l w w2 (f9k z)) [([],
   [fo [.ptr (some (4,0)),.dj (some (10+sh p,0)) 1 1 1] (hL (uc p l w w2++[(10+sh p,.cells [.int .i64 0])])) (11+sh p)],
   .to .normal (Bi q l w w2 (f9k z)))]
 :=by rcases p with⟨_|⟨_,_,_⟩,_⟩<;>rcases q with⟨_|⟨_,_,_⟩,_⟩<;>exact cQ.of U U U
theorem apV:c6 (fD gu 28 [P3,w2.v] (hL (uc p l w w2)) (10+sh p) (.bool true,hL (uc p l w w2),(10+sh p))) [] 3 Tryz.f10 [3,4,5,6,7,8,9,10] (dK (de 10 x7)) (Bi p l w w2 (f9k z)) [([],
   [fo [P3,w2.v] (hL (uc p l w w2)) (10+sh p)],
   .to .normal (Bi p l w w2 (ab3 z)))]
 :=by rcases p with⟨_|⟨_,_,_⟩,_⟩<;>exact cQ.of U U U
theorem ahw:c6 (fD gu 19 [.ptr (some (4,0))] (hL (uc p l w w2)) (10+sh p) (qJ,hL (kyD (10+sh p) p q l w w2),(12+sh p+sh q))) [] 3 Tryz.f10 [3,4,5,6,7,8,9,10,11] (dK (de 11 x7)) (Bi p l w w2 (ab3 z)) [([],
   [fo [.ptr (some (4,0))] (hL (uc p l w w2)) (10+sh p)],
   .to .normal (Bi q l w w2 (ab4 z)))]
 :=by rcases p with⟨_|⟨_,_,_⟩,_⟩<;>rcases q with⟨_|⟨_,_,_⟩,_⟩<;>exact cQ.of U U U
theorem ahx:c6 (fD (fD gu 28 [P3,w2.v] (hL (uc p l w w2)) (10+sh p) (.bool true,hL (uc p l w w2),(10+sh p))) 21 [.ptr (some (4,0))] (hL (uc p l w w2)) (10+sh p) (.int .i64 z,hL (uc p l w w2),(10+sh p))) [(63,.dc (.bool true))] 3 Tryz.f10 [3,4,5,6,7,8,9,10,11,12] (dK (de 12 x7)) (Bi p l w w2 (ab4 z)) [([],
   [fo [P3,w2.v] (hL (uc p l w w2)) (10+sh p),fo [.ptr (some (4,0))] (hL (uc p l w w2)) (10+sh p),(V.bool (z==z)=V.bool true)],
   .to .normal (Bi p l w w2 (Bx z)))]
 :=by rcases p with⟨_|⟨_,_,_⟩,_⟩<;>exact cQ.of U U U
theorem ahy:c6 gu [] 3 Tryz.f10 [3,4,5,6,7,8,9,10,11,12,13] (dK ahu) (Bi p l w w2 (Bx z)) [([],
   [],
   .to .normal (Bi p l w w2 (Bx z++[(13,iW 0)])))]
 :=by rcases p with⟨_|⟨_,_,_⟩,_⟩<;>exact cQ.of U U U
theorem ahz:c6 gu [(69,.split)] 3 Tryz.f10 [3,4,5,6,7,8,9,10,11,12,13] (dK ab1) (Bi p l w w2 (Bx z++[(13,iW i)])) [([((decide (Int.ofNat i<(Int.ofNat w.cs.length))),true)],
   [],
   .to .normal (Bi p l w w2 (Bx z++[(13,iW i)]))),
  ([((decide (Int.ofNat i<(Int.ofNat w.cs.length))),false)],
   [],
   .to (.exit 0) (Bi p l w w2 (Bx z++[(13,iW i)])))]
 :=by rcases p with⟨_|⟨_,_,_⟩,_⟩<;>exact cQ.of U U U
theorem ahA(c:gH):c6 (fD gu 15 [.ptr (some (4,0)),.str c.da,pH c.rs] (hL (uc p l w w2)) (32+sh p) (.ew [.str c.dg,qJ],hL (kyD (32+sh p) p q l w w2),(34+sh p+sh q))) [(80,.dc (.dm c.d)),(86,.dc (.dm c.d)),(99,.dc (.dm c.d)),(102,.dc (.bool false))] 3 Tryz.f10 [3,4,5,6,7,8,9,10,11,12,13] (apK) (Bi p l w w2 (Bx z++[(13,iW i)])) [([],
   [((0:Int)<=Int.ofNat i/\Int.ofNat i<(Int.ofNat w.cs.length)),((fq w.cs).length=w.cs.length*3),(V.dm (dx (fq w.cs) (i*3) 3)=V.dm c.d),((0:Int)<=Int.ofNat i/\Int.ofNat i<(Int.ofNat w.cs.length)),((fq w.cs).length=w.cs.length*3),(V.dm (dx (fq w.cs) (i*3) 3)=V.dm c.d),fo [.ptr (some (4,0)),.str c.da,pH c.rs] (hL (uc p l w w2)) (32+sh p),((0:Int)<=Int.ofNat i/\Int.ofNat i<(Int.ofNat w.cs.length)),((fq w.cs).length=w.cs.length*3),(V.dm (dx (fq w.cs) (i*3) 3)=V.dm c.d),((V.bool !eG c.dg c.dg)=V.bool false)],
   .to .normal (Bi q l w w2 (Bx z++[(13,iW i)])))]
 :=by rcases p with⟨_|⟨_,_,_⟩,_⟩<;>rcases q with⟨_|⟨_,_,_⟩,_⟩<;>exact cQ.of U U U
theorem ahB:c6 gu [(71,.dc (iW (i+1)))] 3 Tryz.f10 [3,4,5,6,7,8,9,10,11,12,13] (ee (ee ab1)) (Bi p l w w2 (Bx z++[(13,iW i)])) [([],
   [(V.int aj (IntKind.i64.wrap (Int.ofNat i+(1:Int)))=iW (i+1))],
   .to .normal (Bi p l w w2 (Bx z++[(13,iW (i+1))])))]
 :=by rcases p with⟨_|⟨_,_,_⟩,_⟩<;>exact cQ.of U U U
theorem ahC(n:Nat):c6 (fD (fD gu 33 [w2.v] (hL (uc p l w w2)) (46+sh p) (.int .i64 (tM w2),hL (uc p l w w2),(46+sh p))) 20 [.ptr (some (4,0))] (hL (uc p l w w2)) (46+sh p) (iW n,hL (uc p l w w2),(46+sh p))) [(126,.dc (.bool true)),(137,.dc (.bool true))] 3 Tryz.f10 [] (de 14 x7) (Bi p l w w2 (Bx z++[(13,iW i)])) [([],
   [fo [w2.v] (hL (uc p l w w2)) (46+sh p),(V.bool (decide (z<=tM w2))=V.bool true),fo [.ptr (some (4,0))] (hL (uc p l w w2)) (46+sh p),(V.bool (Int.ofNat n==(Int.ofNat w.cs.length))=V.bool true)],
   .ret (.bool true) (hL [(0,.ints .u32 gS),(1,.ints .u32 gR)]) 3)]
 :=by rcases p with⟨_|⟨_,_,_⟩,_⟩<;>exact cQ.of U U U
end
theorem ahD:33<Tryz.prog.funcs.size:=au U
theorem Xe(s:RS)(h:Tr O)(n:Nat)(h1:s.cs.length<=100000)(h2:s.ro.length<=100000)(h3:∀c∈s.cs,c.da.length<=100000/\c.rs.length<=2000)(h4:∀p∈s.ro,p.1.length<=100000):cU ak 33 [s.v] h n (.int .i64 (tM s)) h n:=by
 have key:cU ak 33 [s.v] h n (.int .i64 (tM ⟨gp (fq s.cs),oS (fh s.ro)⟩)) h n:=by
  intro E w c9 ra g hd;refine SC.2 _ h n (okS s++[s.cs.length<=100000,s.ro.length<=100000,∀c∈gp (fq s.cs),c.da.length<=100000/\c.rs.length<=2000,∀p∈oS (fh s.ro),p.1.length<=100000]) _ _ _ rfl ?_ E w c9 ra g hd U;refine js (Aw be be) ?_;rw[jr,pC];exact fm h1 (fm h2 (fm h3 (eU h4)))
 rw[jr,pC]at key;exact key
section
variable{p q:iw}{l:List RS}{w w2:RS}
theorem Ni{f:FuncId}{rest:ag}{v:V}(hv:f=19/\rest=[]/\v=qJ)(h:zA f rest p v q):cU ak 19 [.ptr (some (4,0))] (hL (uc p l w w2)) (10+sh p) qJ (hL (kyD (10+sh p) p q l w w2)) (12+sh p+sh q):=by
 obtain⟨rfl,rfl,rfl⟩:=hv;exact x4 (ns:=nsT p) h (10+sh p) (by rcases p with⟨_|⟨_,_,_⟩,_⟩<;>rcases q with⟨_|⟨_,_,_⟩,_⟩<;>kernel_rfl)
theorem Hh(h:cU ak 28 [P3,w2.v] (hL (gy p l)) 9 (.bool true) (hL (gy p l)) 9):cU ak 28 [P3,w2.v] (hL (uc p l w w2)) (10+sh p) (.bool true) (hL (uc p l w w2)) (10+sh p):=
 vC (ns:=nsA 5 p) h (by rcases p with⟨_|⟨_,_,_⟩,_⟩<;>kernel_rfl)
theorem ab5{d x:aa}{rs:List (aa)}(h:zA 15 [.str d,pH rs] p (.ew [.str x,qJ]) q):cU ak 15 [.ptr (some (4,0)),.str d,pH rs] (hL (uc p l w w2)) (32+sh p) (.ew [.str x,qJ]) (hL (kyD (32+sh p) p q l w w2)) (34+sh p+sh q):=
 x4 (ns:=nsT p) h (32+sh p) (by rcases p with⟨_|⟨_,_,_⟩,_⟩<;>rcases q with⟨_|⟨_,_,_⟩,_⟩<;>kernel_rfl)
theorem Tv(h:IsC 0 p q):cU ak 31 [.ptr (some (4,0)),.dj (some (10+sh p,0)) 1 1 1] (hL (uc p l w w2++[(10+sh p,.cells [.int .i64 0])])) (11+sh p) (.ew []) (hL (kyD (11+sh p) p q l w w2)) (13+sh p+sh q):=
 x4 (ns:=nsT p++[some (10+sh p)]) h (11+sh p) (by rcases p with⟨_|⟨_,_,_⟩,_⟩<;>rcases q with⟨_|⟨_,_,_⟩,_⟩<;>kernel_rfl)
theorem LV{f:FuncId}{z:Int}(n:Nat)(h:cU ak f [P3] (eu p) 7 (.int .i64 z) (eu p) 7):cU ak f [.ptr (some (4,0))] (hL (uc p l w w2)) n (.int .i64 z) (hL (uc p l w w2)) n:=
 vC (ns:=nsT p) h (by rcases p with⟨_|⟨_,_,_⟩,_⟩<;>kernel_rfl)
end
theorem apW(ops:List AF):TG ak 3 Tryz.f10.ntmps x7 (cS [DS ops] (D0 gS gR) 3) (fG ak 3 Tryz.f10 fun u _ _=>u= .bool true):=by
 obtain⟨L1,BA⟩:=apN ops;refine mA 3 (X29.jy ahl WS) mo U BA (fm rfl (fm rfl (eU ⟨rfl,rfl,rfl⟩))) ?_;show TG ak 3 Tryz.f10.ntmps (de 3 x7) (sL (sZ 0 0 0) ops [jB] []) _;have hI:O2 (sZ 0 0 0,[jB],0):=iv0;have hp:=WV (sZ 0 0 0) [jB] ops hI;have hJ:=WU (ops:=ops) (a:=(sZ 0 0 0,[jB])) hI;generalize FJ ops (sZ 0 0 0,[jB])=a at hp hJ;obtain⟨p,l⟩:=a;refine cV U ?_;have k30:cU ak 30 [P3,DS ops] (hL (lL (sZ 0 0 0) [jB])) (8+sh (sZ 0 0 0)) (.bool true) (hL (moA (8+sh (sZ 0 0 0)) p l)) (11+sh (sZ 0 0 0)+sh p):=
  x4 (ns:=nsA 5 (sZ 0 0 0)) hp (8+sh (sZ 0 0 0)) (by rcases p with⟨_|⟨_,_,_⟩,_⟩<;>kernel_rfl)
 obtain⟨L2,Fc⟩:=apO (sZ 0 0 0) p ops [jB] l;refine gh (k9.jy aht k30) mo kS U Fc (dG ?_);refine⟨eU ⟨rfl,rfl,rfl⟩,fun s' dL=>c5 dL ?_⟩;clear BA Fc k30 hp hI;obtain⟨_,cT,k,hs,hB,hl⟩:=hJ;have hs:qe p cT k l:=hs;have hB:cT.length<=18*40:=hB;have hl:l.length<=40+1:=hl;obtain⟨hw,hg,rJ,_,_⟩:=hs.all be;have oz:l=nO cT k++[fW cT]:=hs.fC;generalize hwe:fW cT=w at hw hg rJ oz;have h5:=hw.WH;have apX:∀c∈w.cs,c.rs.length<=3:=fun c hc=>(hw.nm c hc).2.2;refine cV U ?_;have h29:=m29 p (nO cT k) w (by have:=aM List.length oz;rw[ax]at this;omega);rw[<- oz]at h29;have k29:cU ak 29 [P3] (hL (lL p l)) (8+sh p) w.v (hL (lL p l)) (8+sh p):=vC (ns:=nsA 5 p) h29 (by rcases p with⟨_|⟨_,_,_⟩,_⟩<;>kernel_rfl);obtain⟨L3,wv⟩:=apP p l w;refine gh (k9.jy Dz k29) mo kS U wv (dG ?_);refine⟨eU ⟨rfl,rfl,rfl⟩,fun s' dL=>c5 dL ?_⟩;refine cV U ?_;obtain⟨L4,Ef⟩:=apQ p l w (eS w);refine gh (k9.jy YB (M7 w _ _ be be (fun c hc=>by have:=apX c hc;omega))) mo kS U Ef (dG ?_);refine⟨eU ⟨rfl,rfl,rfl⟩,fun s' dL=>c5 dL ?_⟩;obtain⟨q,c1,s1,n1⟩:=zG hs be;rw[hwe]at s1 n1;have YD:=zF hw;have e1:fW (jf (eS w))=eS w:=(S4 YD).2;refine cV U ?_;obtain⟨L5,uj⟩:=apR p q l w (eS w);refine gh (k9.jy M6 (Ni ⟨rfl,rfl,rfl⟩ c1)) mo kS U uj (dG ?_);refine⟨eU ⟨rfl,rfl,rfl⟩,fun s' dL=>c5 dL ?_⟩;refine cV U ?_;obtain⟨L6,Hr⟩:=apS q l w (eS w) (Int.ofNat (cZ (jf (eS w))).length);refine gh (k9.jy YH (LV _ s1.size)) mo kS U Hr (dG ?_);refine⟨eU ⟨rfl,rfl,rfl⟩,fun s' dL=>c5 dL ?_⟩;generalize hz:Int.ofNat (cZ (jf (eS w))).length=z;have b1:=s1.same be l;rw[e1]at b1;refine cV U ?_;obtain⟨L7,hr7⟩:=apT q l w (eS w) z;refine gh (k9.jy Jl (Hh b1)) mo kS U hr7 (dG ?_);refine⟨eU ⟨rfl,rfl,rfl⟩,fun s' dL=>c5 dL ?_⟩;clear c1 b1 wv Ef uj Hr hr7 k29 h29;obtain⟨q2,j,j0,_,c2,j1,j2,s2,_⟩:=AE s1 be 0 dU;obtain rfl:j=(jf (eS w)).length:=by omega
 rw[aW,e1]at s2;refine cV U ?_;obtain⟨L8,hr8⟩:=apU q q2 l w (eS w) z;refine gh (k9.jy SS (Tv c2)) mo kS U hr8 (dG ?_);refine⟨eU ⟨rfl,rfl,rfl⟩,fun s' dL=>c5 dL ?_⟩;have b2:=s2.same be l;rw[e1]at b2;refine cV U ?_;obtain⟨L9,hr9⟩:=apV q2 l w (eS w) z;refine gh (k9.jy Jl (Hh b2)) mo kS U hr9 (dG ?_);refine⟨eU ⟨rfl,rfl,rfl⟩,fun s' dL=>c5 dL ?_⟩;obtain⟨q3,c3,s3,n3⟩:=zG s2 be;rw[e1,O6 hw]at s3;refine cV U ?_;obtain⟨L10,ahE⟩:=ahw q2 q3 l w (eS w) z;refine gh (k9.jy M6 (Ni ⟨rfl,rfl,rfl⟩ c3)) mo kS U ahE (dG ?_);refine⟨eU ⟨rfl,rfl,rfl⟩,fun s' dL=>c5 dL ?_⟩;have b3:=s3.same be l;rw[e1]at b3;have z3:=s3.size;rw[hz]at z3;refine cV U ?_;obtain⟨L11,ahF⟩:=ahx q3 l w (eS w) z;refine gh ((k9.jy Jl (Hh b3)).jy YH (LV _ z3)) mo kS U ahF (dG ?_);refine⟨fm ⟨rfl,rfl,rfl⟩ (fm ⟨rfl,rfl,rfl⟩ (eU (by rw[cz]))),fun s' dL=>c5 dL ?_⟩;clear c2 b2 c3 b3 z3 hr8 hr9 ahE ahF;refine cV U ?_;refine cV U ?_;refine fZ k9 (ahy q3 l w (eS w) z) (dG ?_);refine⟨cR,fun s' dL=>?_⟩;have JJ:(jf (eS w)).length<=760:=by omega
 refine jC (α:=iw×Nat) 0 (fun a=>w.cs.length-a.2) (fun a=>a.2<=w.cs.length/\∃cT k l,qe a.1 cT k l/\cT.length<=760+a.2/\AgI w (fW cT) a.2) (fun a=>Bi a.1 l w (eS w) (Bx z++[(13,iW a.2)])) U U (q3,0)
  ⟨aZ _,_,_,_,s3,JJ,by rw[e1];exact Xc⟩ (.norm dL) fun a hI=>?_
 obtain⟨p,i⟩:=a;obtain⟨hi,cT,k,l0,hs,hB,ha⟩:=hI;have hi:i<=w.cs.length:=hi;have hB:cT.length<=760+i:=hB;have hs:qe p cT k l0:=hs;have ha:AgI w (fW cT) i:=ha;obtain⟨hu,hgu,hcu,_,_⟩:=hs.all be;refine cV U ?_;refine fZ k9 (ahz p l w (eS w) z i) fun g hg hc=>?_;rcases jk hg with rfl|rfl
 . have fF:i<w.cs.length:=by
    have:=aH (hc _ (aq.2 rfl));rw[kU,kU]at this;omega
   clear hc;refine⟨cR,fun s' dL=>c5 dL ?_⟩;refine cV U ?_;refine fg (i:=1) U ?_;have Yj:w.cs[i]? =some w.cs[i]:=ay fF;have kj:=aM V.dm (vB w.cs i fF);generalize w.cs[i]=c at Yj kj;have hcm:=aU Yj;obtain⟨d1,d2,d3⟩:=Xd hw hu Yj ha;obtain⟨q,nD,_,c4,s4,n4⟩:=tS hs be c.da c.rs (hw.nm c hcm).2.1 (hw.nm c hcm).2.2 (fun x hx=>by
    obtain⟨j,c',_,hj,e⟩:=hw.ref i c Yj x hx;rw[<- e];exact hw.zD (aU hj)) (fun e0=>by
    have hn:(fW cT).cs=[]:=by rw[e0];rfl
    cases hr:c.rs with
    |nil=>exact aZ _
    |cons x xs=>
     obtain⟨j,c',hj,hcj,_⟩:=hw.ref i c Yj x (by rw[hr];simp);have:=ha.all j c' hj hcj;rw[hn]at this;cases this)
   rw[d1,d2]at c4;have hl4:∃l1,qe q nD k (l1++[(jv (fW cT) c.da c.rs).s]):=by
    by_cases SP:(jv (fW cT) c.da c.rs).ch=true
    . exact⟨l0,by unfold tO at s4;rw[aG SP]at s4;exact s4⟩
    . have e:(jv (fW cT) c.da c.rs).s=fW cT:=O7 SP;refine⟨nO cT k,?_⟩;unfold tO at s4;rw[aI SP]at s4;rw[e];have:l0=nO cT k++[fW cT]:=hs.fC;rw[<- this];exact s4
   obtain⟨l1,s5⟩:=hl4;have e5:=s5.last;rw[<- e5]at d3;refine fZ (k9.jy DC (ab5 c4)) (ahA p q l w (eS w) z i c) (dG ?_);have a1:(0:Int)<=Int.ofNat i/\Int.ofNat i<(Int.ofNat w.cs.length):=⟨az _,dh⟩;have a2:=kC w.cs;refine⟨fm a1 (fm a2 (fm kj (fm a1 (fm a2 (fm kj (fm ⟨rfl,rfl,rfl⟩ (fm a1 (fm a2 (fm kj (eU (by rw[fR,cz];rfl))))))))))),fun s' dL=>c5 dL ?_⟩;refine fZ k9 (ahB q l w (eS w) z i) (dG ?_);refine⟨eU (pA dh be),fun s' dL=>⟨(q,i+1),by show w.cs.length-(i+1)<w.cs.length-i;omega,⟨by show i+1<=_;omega,nD,k,_,s5,by show nD.length<=760+(i+1);omega,d3⟩,.norm dL⟩⟩
 . have zJ:¬i<w.cs.length:=by
    intro h;exact absurd (aK (hc _ (aq.2 rfl))) dh
   clear hc;obtain rfl:i=w.cs.length:=by omega
   refine⟨cR,fun s' dL=>?_⟩;simp only[andThen,dX];have ahG:=(BW hs be).h20;rw[ab0 hw hu ha]at ahG;obtain⟨L16,apY⟩:=ahC p l w (eS w) z w.cs.length w.cs.length;have Ub:(eS w).cs.length<=w.cs.length:=DO _ _;have h33:=fun n=>Xe (eS w) (hL (uc p l w (eS w))) n be (by have:=YD.WH;omega) (fun c hc=>by have:=YD.nm c hc;exact⟨be,be⟩) (fun pr hpr=>by
    obtain⟨⟨y,hy,_⟩,_⟩:=YD.rv pr hpr;rw[hy];exact(by decide:1<=100000))
   refine c5 dL ?_;refine gY ((k9.jy ahD (h33 _)).jy Ji (LV _ ahG)) mo _ U apY (dG ?_);exact⟨fm ⟨rfl,rfl,rfl⟩ (fm (by rw[<- hz,bM (Tt YD)]) (fm ⟨rfl,rfl,rfl⟩ (eU (by rw[cz])))),_,_,_,rfl,rfl⟩
end Go.Proofs.YtfihojpgobmmdaaGreatDoor
