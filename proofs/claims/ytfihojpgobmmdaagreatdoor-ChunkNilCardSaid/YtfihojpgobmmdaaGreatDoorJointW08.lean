/- Lemmas of the engine. No conditions. -/
import Derived.Test.YtfihojpgobmmdaaGreatDoorJointW06
set_option linter.unusedVariables false
set_option linter.unusedSimpArgs false
set_option linter.unusedSectionVars false
namespace Go.Eng
open Go Go.RowKit
def gh(P:Program)(f:FuncId)(args:ag)(h:H lf)(n:Nat)(nx:V->H lf->Nat->Prop):Prop:=
 ∀E w de,dL E args de->Good E h w->qH E n->Calls P f de.toArray w fun e w'=>∃v h' n',nx v h' n'/\jI E h n w (.ret v) h' n' e w'
theorem cW.one{P:Program}{f:FuncId}{args:ag}{h:H lf}{n:Nat}{v:V}{N:H lf}{n1:Nat}(c:cW P f args h n v N n1):gh P f args h n fun a b d=>a=v/\b=N/\d=n1:=
 fun E w de ra g hd=>(c E w de ra g hd).mono fun _ _ q=>⟨_,_,_,⟨rfl,rfl,rfl⟩,q⟩
theorem gh.mono{P:Program}{f:FuncId}{args:ag}{h:H lf}{n:Nat}{nx R':V->H lf->Nat->Prop}(c:gh P f args h n nx)(hr:∀v h n,nx v h n->R' v h n):gh P f args h n R':=
 fun E w de ra g hd=>(c E w de ra g hd).mono fun _ _ ⟨v,h',n',r,q⟩=>⟨v,h',n',hr _ _ _ r,q⟩
theorem gh.is{P:Program}{f:FuncId}{args:ag}{h:H lf}{n:Nat}{v:V}{N:H lf}{n1:Nat}(c:gh P f args h n fun a b d=>a=v/\b=N/\d=n1):cW P f args h n v N n1:=
 fun E w de ra g hd=>(c E w de ra g hd).mono fun _ _ ⟨_,_,_,⟨e1,e2,e3⟩,q⟩=>by subst e1 e2 e3;exact q
theorem gO{P:Program}(W:P.follows .mixedOrders=true)(wZ:kW P=true){f:FuncId}{fn:Func}{code:Code}(hf:P.funcs[f]? =some fn)(hb:fn.body=some code){args:ag}{h:H lf}{n:Nat}{nx:V->H lf->Nat->Prop}
  (l:(Nat.ble args.length fn.ntmps&&Nat.blt fn.ntmps fP)=true) (hT:TG P n fn.ntmps code (cU args h n) (fJ P n fn nx)):gh P f args h n nx:=
 fun _ _ _ ra g hd=>o7 W wZ hf hb l nx hT ra g hd
theorem x8{P:Program}{rt:Fence}{n:Nat}{ops:Array Oper}{es:Exit->Act->World->Prop}{l2:List Oper}:∀(l1:List Oper) {a:Act} {w:World},
  wpListIn rt n P ops (fun y a w=>match y with | .normal=>wpListIn rt n P ops es l2 a w|y=>es y a w) l1 a w->wpListIn rt n P ops es (l1++l2) a w
 | [],a,w,h=>h
 |o::l1,a,w,h=>by
  show wpListIn rt n P ops es (o::(l1++l2)) a w;unfold wpListIn at h ⊢;split
  . rename_i hw;rw[aH hw]at h;refine Om (fun a w q=>x8 l1 q) (fun y a w hy q=>?_) h;cases y<;>first|exact absurd rfl hy|exact q
  . rename_i hw;rw[aI hw]at h;exact⟨h.1,x8 l1 h.2⟩
theorem RO{P:Program}{cf:fT}(oU:jq P cf){M h1 g:Nat}{pre post:List Oper}{o:Oper}{s s1:St}{es:Exit->St->Prop}{f:FuncId}{args:ag}{nx:V->H lf->Nat->Prop}(iy:fc h1 (.region g (pre++o::post).toArray false)=true)
  (N:jl P cf (pre++o::post).toArray pre s=some (.normal,s1)) (hg:o.guard=none) (ho:dJ P o s1.S s1.h s1.n=some (.call f args)) (vh:(callee P f&&Nat.blt f P.funcs.size)=true) (I:gh P f args s1.h s1.n nx)
  (hq:∀v h n,nx v h n->∃S s2,jg s1.S o.dst v=some S/\jl P cf (pre++o::post).toArray post { s1 with S:=S,h:=h,n:=n }=some (.normal,s2)/\es .normal s2):TG P M h1 (.region g (pre++o::post).toArray false) s es:=by
 intro E a w be r hn k;simp only[fc,aC]at iy;simp only[aC]at vh;have fI:f<P.funcs.size:=au vh.2;have uB:∀x∈pre++o::post,nD h1 x.dst:=by
  intro x G d hd;have:=bt.1 iy.1 x (by simpa using G);rw[hd]at this;exact aE this
 refine(wpIn_wide (n:=0)).1 (wpIn_region_list (F:=fz none) ?_);show wpListIn (fz none) 0 P _ _ (pre++o::post) a w;refine x8 pre ?_;refine kQ (vi:=none) oU pre s .normal s1 (.inl rfl) (fun x G=>uB x (by simp[G])) N E a w _ r ?_;intro E1 a1 w1 x1 u1 Ff Eb r1 UK;cases x1<;>first|exact UK.elim|skip
 show wpListIn (fz none) 0 P _ _ (o::post) a1 w1;refine wpListIn_plain hg fun K' Vk=>?_;have Et:∀y∈o.op.operands,mN E1 s1.S a1.eval y:=fun y _=>iS r1.good.jh r1.S y;obtain⟨de,ra,fS⟩:=mO r1.good (r1.oz _ (aA _)) Et ho;refine⟨fun _ _=>trivial,?_⟩;rw[lI (wu ho fun _ _ _=>by simp)];rcases fS with⟨fS,B⟩|⟨m,l,sx,B,h3,fS⟩
 . rw[fS,Oper.uponIn_enter];refine⟨fun hd=>by simp[fz,Fence.wide]at hd,?_⟩;refine callsIn_wide.2 ((I E1 w1 de ra r1.good r1.oz).mono ?_);rintro en w2 ⟨v,h',n',hR,E2,u2,qL,Iw,xK,pJ⟩;obtain⟨S,s2,p1,p2,p3⟩:=hq v h' n' hR;cases en with
   |panicked _=>exact pJ.elim
   |outgrown=>exact pJ.elim
   |returned v'=>
    have pJ:dK E2 v v':=pJ;refine Vk _ _ ?_;have r2:kf E2 h1 { s1 with S:=S,h:=h',n:=n' } (a1.put o.dst v') w2:=
     ⟨u2.good,Iw,jH (j9 u2.le r1.S) p1 pJ (by rw[r1.size];exact uB o (by simp)),by rw[iR];exact r1.size,by rw[gH];exact je u2.le _ _ r1.gG⟩
    refine kQ (vi:=none) oU post _ .normal s2 (.inl rfl) (fun x G=>uB x (by simp[G])) p2 E2 _ w2 _ r2 ?_;intro E3 a3 w3 x3 u3 y7 KE r3 hx3;cases x3<;>first|exact hx3.elim|skip
    have hnn:s.n<=n':=bX Eb xK;have uu:=((lM.of u1 Ff hn).trans (lM.of u2 qL (bX hn Eb))).trans (lM.of u3 y7 (bX hn hnn));have hnf:M<=s2.n:=bX (bX hn hnn) KE;exact k .normal s2 E3 a3 w3 p3 uu hnf r3
 . exact absurd fI (by rw[B];exact Nat.not_lt.2 (Nat.le_add_right _ _))
theorem oH{P:Program}{M h1:Nat}{c:Code}{s:St}{es:Exit->St->Prop}{gf:FuncId}{lb:ag}{nx:V->H lf->Nat->Prop}(hr:MI c=true)(iy:fc h1 c=true)
  (hg:iY s.S (rG c)=some (.fn (.func gf) [] lb)) (vh:(callee P gf&&Nat.blt gf P.funcs.size)=true) (ht:Nat.blt (s.n+1) fP=true)
  (I:gh P gf (.fn (.yield (s.n+1)) [] []::lb) (aer c s) (s.n+2) nx) (hq:∀v h n,nx v h n->Yx s h=true/\es .normal (tT s h n)):TG P M h1 c s es:=by
 cases c<;>simp only[MI,aO]at hr;rename_i g ps assign body;simp only[aC]at vh;have gT:s.n+1<fP:=au ht;simp only[fc,aC]at iy;intro E a w be r hn k;have hg:iY s.S g=some (.fn (.func gf) [] lb):=hg;obtain⟨f',fi,Iv,N3,hfi,hlb,y6⟩:=iS r.good.jh r.S g _ hg;simp only[yC]at N3;subst N3;simp only[dL]at hfi;subst hfi;refine(wpIn_wide (n:=0)).1 ?_;show(Code.rangeFunc g ps assign body).wpIn (fz none) 0 P be a w;refine wpIn_rangeFunc fun fn _=>?_
 let CO:Loop:={ state:=.ready,pending:=none,fn,tmps:=a.tmps,params:=ps,assign,body,defers:=w.heap.size }
 have u1:iG E s.h w (E.put s.n w.heap.size 0 0) (s.h.set s.n (some .mF)) (w.alloc (.deferred (some []))):=iG.alloc (ob:=.deferred (some [])) (o:=.mF) r.good (r.oz _ (aA _)) K heap_alloc_new;have Eb:(E.put s.n w.heap.size 0 0).ι (s.n+1)=none:=by rw[Env.fF K];exact r.oz _ K
 have u2:iG (E.put s.n w.heap.size 0 0) (s.h.set s.n (some .mF)) (w.alloc (.deferred (some []))) ((E.put s.n w.heap.size 0 0).put (s.n+1) (w.alloc (.deferred (some []))).heap.size 0 0) ((s.h.set s.n (some .mF)).set (s.n+1) (some (.loop true none s.S ps.toList assign body))) ((w.alloc (.deferred (some []))).alloc (.loop CO)):=
  iG.alloc (ob:=.loop CO) (o:=.loop true none s.S ps.toList assign body) u1.good Eb gT
   ⟨CO,heap_alloc_new,rfl,rfl,rfl,rfl,rfl,wc (Env.le_trans u1.le (Env.rT Eb fun m x t e G=>by have:=u1.good.mK m x t e;omega)) r.S,by rw[show CO.tmps.size=h1 from r.size];exact⟨iy.2.1,iy.2.2,fun p hp=>by simpa using bt.1 iy.1 p hp⟩⟩
 rw[World.size_alloc]at u2;have Yi:gh P gf (.fn (.yield (s.n+1)) [] []::lb) ((s.h.set s.n (some .mF)).set (s.n+1) (some (.loop true none s.S ps.toList assign body))) (s.n+2) nx:=I;generalize UU:(E.put s.n w.heap.size 0 0).put (s.n+1) (w.heap.size+1) 0 0=E2 at u2;generalize Oa:(s.h.set s.n (some .mF)).set (s.n+1) (some (.loop true none s.S ps.toList assign body))=B at u2 Yi;generalize hW1:(w.alloc (.deferred (some []))).alloc (.loop CO)=W1 at u2;have HI:E2.ι (s.n+1)=some (w.heap.size+1,0):=by rw[<- UU];exact Env.ff
 have Gt:E2.ι s.n=some (w.heap.size,0):=by rw[<- UU,Env.fF K];exact Env.ff
 have qL:∀k,k<s.n->E2.ι k=E.ι k:=fun k hk=>by rw[<- UU,Env.fF K,Env.fF K]
 have Iw:qH E2 (s.n+2):=fun k hk=>by
  have hk:s.n+2<=k:=hk;rw[<- UU,Env.fF K,Env.fF K];exact r.oz k (by show s.n<=k;omega)
 have u12:=u1.trans u2;have ZL:dL E2 lb Iv:=kF u12.le _ _ hlb;have Qy:(invoke (.fn (.func gf) Iv.toArray) #[.func (.yield (w.heap.size+1)) #[] #[]]).run P W1= .ok (.enter gf (Value.func (.yield (w.heap.size+1)) #[] #[]::Iv).toArray) W1:=by
  have ZM:=qg (w:=W1) (args:=(Value.func (.yield (w.heap.size+1)) #[] #[]::Iv).toArray) vh.1;rw[<- ZM];simp[invoke]
 refine⟨w.heap.size+1,[{ target:=.collected w.heap.size,args:=#[] }],W1,{ target:=.fn (.func gf) Iv.toArray,args:=#[.func (.yield (w.heap.size+1)) #[] #[]] },W1,gf,
  (Value.func (.yield (w.heap.size+1)) #[] #[]::Iv).toArray,W1,?_,?_,fun _ _=>trivial,Qy,fun hd=>by simp[fz,Fence.wide]at hd,?_⟩
 . rw[<- hW1];exact run_enterLoop_outer _ _ _ _ _
 . simp only[resolve,y6];simp[go_sem]
 . have CP:=Yi E2 W1 (Value.func (.yield (w.heap.size+1)) #[] #[]::Iv) ⟨_,_,⟨_,[],[],⟨_,_,HI,rfl⟩,rfl,rfl,rfl⟩,ZL,rfl⟩ u2.good Iw;have Gu:CallsIn Fence.wide (0-1) P gf (Value.func (.yield (w.heap.size+1)) #[] #[]::Iv).toArray W1 (rangePost (fz none) 0 P (w.heap.size+1) be { a with defers:=[{ target:=.collected w.heap.size,args:=#[] }]++a.defers }):=by
    refine callsIn_wide.2 (CP.mono ?_);rintro en w3 ⟨v,h,n,hRR,E3,u3,y7,Qz,KE,ho⟩;obtain⟨E7,hQ⟩:=hq v h n hRR;cases en with
    |panicked _=>exact ho.elim
    |outgrown=>exact ho.elim
    |returned v'=>
     have ZN:E3.ι (s.n+1)=some (w.heap.size+1,0):=by rw[y7 _ K];exact HI
     have hd3:E3.ι s.n=some (w.heap.size,0):=by rw[y7 _ K];exact Gt
     unfold Yx at E7;split at E7
     case h_2=>cases E7
     rename_i S pl c1 c2 hdg HJ;obtain⟨b,s0,q1,rc,q2,q3,q4,_⟩:=u3.good.rel _ _ HJ;rw[ZN]at q1;cases q1;have Oc:=run_endLoop (P:=P) q2 (by rw[q3];simp);refine⟨_,_,Oc.trans (aN (fun p=>Result.ok p _) q4),?_⟩;have uk:iG E3 h w3 E3 (h.set (s.n+1) none) (w3.putObj (w.heap.size+1) (.loop { rc with state:=.exhausted })):=
      iG.kill u3.good gT ⟨_,HJ,rfl⟩ ZN (by simp) rfl rfl rfl fun x G=>World.putObj_heap_other G
     have Gv:=(u12.trans u3).trans uk;have hsn:s.n<=n:=by omega
     exact k .normal _ E3 _ _ hQ (.of Gv (fun k hk=>by rw[y7 k K];exact qL k hk) hn) (by show M<=n;omega)
      ⟨Gv.good,Qz,j9 Gv.le r.S,r.size,⟨_,a.defers,.inr ⟨rfl,s.n,w.heap.size,0,rfl,hd3,rfl⟩,je Gv.le _ _ r.gG,rfl⟩⟩
   exact Gu
end Go.Eng
