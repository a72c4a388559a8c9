/- The engine, part MF: ranges over functions and calls whose outcome is one of several. No conditions: lemmas alone. -/
import Derived.Test.YtfihojpgobmmdaaGreatDoorJointW06
set_option linter.unusedVariables false
set_option linter.unusedSimpArgs false
set_option linter.unusedSectionVars false
namespace Go.Eng
open Go Go.RowKit
def fO(P:Program)(f:FuncId)(args:ag)(h:Tr O)(n:Nat)(R:V->Tr O->Nat->Prop):Prop:=
 ∀E w c7,dG E args c7->Good E h w->qH E n->Calls P f c7.toArray w fun e w'=>∃v h' n',R v h' n'/\jR E h n w (.ret v) h' n' e w'
theorem cT.one{P:Program}{f:FuncId}{args:ag}{h:Tr O}{n:Nat}{v:V}{h1:Tr O}{n1:Nat}(c:cT P f args h n v h1 n1):fO P f args h n fun a b d=>a=v/\b=h1/\d=n1:=
 fun E w c7 ra g hd=>(c E w c7 ra g hd).mono fun _ _ q=>⟨_,_,_,⟨rfl,rfl,rfl⟩,q⟩
theorem fO.mono{P:Program}{f:FuncId}{args:ag}{h:Tr O}{n:Nat}{R R':V->Tr O->Nat->Prop}(c:fO P f args h n R)(hr:∀v h n,R v h n->R' v h n):fO P f args h n R':=
 fun E w c7 ra g hd=>(c E w c7 ra g hd).mono fun _ _ ⟨v,h',n',r,q⟩=>⟨v,h',n',hr _ _ _ r,q⟩
theorem fO.is{P:Program}{f:FuncId}{args:ag}{h:Tr O}{n:Nat}{v:V}{h1:Tr O}{n1:Nat}(c:fO P f args h n fun a b d=>a=v/\b=h1/\d=n1):cT P f args h n v h1 n1:=
 fun E w c7 ra g hd=>(c E w c7 ra g hd).mono fun _ _ ⟨_,_,_,⟨e1,e2,e3⟩,q⟩=>by subst e1 e2 e3;exact q
theorem gB{P:Program}(hm:P.follows .mixedOrders=true)(xp:lj P=true){f:FuncId}{fn:Func}{code:Code}(hf:P.funcs[f]? =some fn)(hb:fn.body=some code){args:ag}{h:Tr O}{n:Nat}{R:V->Tr O->Nat->Prop}
  (l:(Nat.ble args.length fn.ntmps&&Nat.blt fn.ntmps fI)=true) (hT:TG P n fn.ntmps code (cR args h n) (fB P n fn R)):fO P f args h n R:=
 fun _ _ _ ra g hd=>oF hm xp hf hb l R hT ra g hd
theorem xD{P:Program}{F:Fence}{n:Nat}{ops:Array Oper}{Q:Exit->Act->World->Prop}{l2:List Oper}:∀(l1:List Oper) {a:Act} {w:World},
  wpListIn F n P ops (fun y a w=>match y with | .normal=>wpListIn F n P ops Q l2 a w|y=>Q y a w) l1 a w->wpListIn F n P ops Q (l1++l2) a w
 | [],a,w,h=>h
 |o::l1,a,w,h=>by
  show wpListIn F n P ops Q (o::(l1++l2)) a w;unfold wpListIn at h ⊢;split
  . rename_i hw;rw[aG hw]at h;refine NA (fun a w q=>xD l1 q) (fun y a w hy q=>?_) h;cases y<;>first|exact absurd rfl hy|exact q
  . rename_i hw;rw[aI hw]at h;exact⟨h.1,xD l1 h.2⟩
theorem QS{P:Program}{cf:fJ}(oz:jc P cf){n0 N g:Nat}{pre post:List Oper}{o:Oper}{s s1:St}{Q:Exit->St->Prop}{f:FuncId}{args:ag}{R:V->Tr O->Nat->Prop}(iA:eS N (.region g (pre++o::post).toArray false)=true)
  (h1:iY P cf (pre++o::post).toArray pre s=some (.normal,s1)) (hg:o.guard=none) (ho:dy P o s1.fr s1.h s1.n=some (.call f args)) (uJ:(callee P f&&Nat.blt f P.funcs.size)=true) (hc:fO P f args s1.h s1.n R)
  (hq:∀v h n,R v h n->∃fr s2,iT s1.fr o.dst v=some fr/\iY P cf (pre++o::post).toArray post { s1 with fr:=fr,h:=h,n:=n }=some (.normal,s2)/\Q .normal s2):TG P n0 N (.region g (pre++o::post).toArray false) s Q:=by
 intro E a w K r hn k;simp only[eS,aC]at iA;simp only[aC]at uJ;have fE:f<P.funcs.size:=au uJ.2;have tV:∀x∈pre++o::post,nc N x.dst:=by
  intro x hx d hd;have:=bn.1 iA.1 x (by simpa using hx);rw[hd]at this;exact aH this
 refine(wpIn_wide (n:=0)).1 (wpIn_region_list (F:=fz none) ?_);show wpListIn (fz none) 0 P _ _ (pre++o::post) a w;refine xD pre ?_;refine kI (uK:=none) oz pre s .normal s1 (.inl rfl) (fun x hx=>tV x (by simp[hx])) h1 E a w _ r ?_;intro E1 a1 w1 x1 u1 EC DG r1 Tz;cases x1<;>first|exact Tz.elim|skip
 show wpListIn (fz none) 0 P _ _ (o::post) a1 w1;refine wpListIn_plain hg fun K' Ub=>?_;have DX:∀y∈o.op.operands,mB E1 s1.fr a1.eval y:=fun y _=>iC r1.good.jf r1.fr y;obtain⟨c7,ra,fH⟩:=mC r1.good (r1.nW _ (aA _)) DX ho;refine⟨fun _ _=>trivial,?_⟩;rw[k9 (vN ho fun _ _ _=>by simp)];rcases fH with⟨fH,h2⟩|⟨m,l,sx,h2,h3,fH⟩
 . rw[fH,Oper.uponIn_enter];refine⟨fun hd=>by simp[fz,Fence.wide]at hd,?_⟩;refine callsIn_wide.2 ((hc E1 w1 c7 ra r1.good r1.nW).mono ?_);rintro en w2 ⟨v,h',n',hR,E2,u2,qn,HO,w8,oP⟩;obtain⟨fr,s2,p1,p2,p3⟩:=hq v h' n' hR;cases en with
   |panicked _=>exact oP.elim
   |outgrown=>exact oP.elim
   |returned v'=>
    have oP:dz E2 v v':=oP;refine Ub _ _ ?_;have r2:jS E2 N { s1 with fr:=fr,h:=h',n:=n' } (a1.put o.dst v') w2:=
     ⟨u2.good,HO,ju (jQ u2.le r1.fr) p1 oP (by rw[r1.size];exact tV o (by simp)),by rw[iB];exact r1.size,by rw[gw];exact iR u2.le _ _ r1.gu⟩
    refine kI (uK:=none) oz post _ .normal s2 (.inl rfl) (fun x hx=>tV x (by simp[hx])) p2 E2 _ w2 _ r2 ?_;intro E3 a3 w3 x3 u3 yF J0 r3 hx3;cases x3<;>first|exact hx3.elim|skip
    have hnn:s.n<=n':=bU DG w8;have uu:=((lp.of u1 EC hn).trans (lp.of u2 qn (bU hn DG))).trans (lp.of u3 yF (bU hn hnn));have hnf:n0<=s2.n:=bU (bU hn hnn) J0;exact k .normal s2 E3 a3 w3 p3 uu hnf r3
 . exact absurd fE (by rw[h2];exact Nat.not_lt.2 (Nat.le_add_right _ _))
theorem oe{P:Program}{n0 N:Nat}{c:Code}{s:St}{Q:Exit->St->Prop}{gf:FuncId}{lb:ag}{R:V->Tr O->Nat->Prop}(hr:LU c=true)(iA:eS N c=true)
  (hg:iG s.fr (rG c)=some (.fn (.func gf) [] lb)) (uJ:(callee P gf&&Nat.blt gf P.funcs.size)=true) (ht:Nat.blt (s.n+1) fI=true)
  (hc:fO P gf (.fn (.yield (s.n+1)) [] []::lb) (ac5 c s) (s.n+2) R) (hq:∀v h n,R v h n->WY s h=true/\Q .normal (tx s h n)):TG P n0 N c s Q:=by
 cases c<;>simp only[LU,aO]at hr;rename_i g ps assign body;simp only[aC]at uJ;have gD:s.n+1<fI:=au ht;simp only[eS,aC]at iA;intro E a w K r hn k;have hg:iG s.fr g=some (.fn (.func gf) [] lb):=hg;obtain⟨f',fi,HN,Nh,hfi,hlb,zO⟩:=iC r.good.jf r.fr g _ hg;simp only[x8]at Nh;subst Nh;simp only[dG]at hfi;subst hfi;refine(wpIn_wide (n:=0)).1 ?_;show(Code.rangeFunc g ps assign body).wpIn (fz none) 0 P K a w;refine wpIn_rangeFunc fun fn _=>?_
 let Ci:Loop:={ state:=.ready,pending:=none,fn,tmps:=a.tmps,params:=ps,assign,body,defers:=w.heap.size }
 have u1:ij E s.h w (E.put s.n w.heap.size 0 0) (s.h.set s.n (some .me)) (w.alloc (.deferred (some []))):=ij.alloc (ob:=.deferred (some [])) (o:=.me) r.good (r.nW _ (aA _)) be heap_alloc_new;have DG:(E.put s.n w.heap.size 0 0).ι (s.n+1)=none:=by rw[Env.fk be];exact r.nW _ be
 have u2:ij (E.put s.n w.heap.size 0 0) (s.h.set s.n (some .me)) (w.alloc (.deferred (some []))) ((E.put s.n w.heap.size 0 0).put (s.n+1) (w.alloc (.deferred (some []))).heap.size 0 0) ((s.h.set s.n (some .me)).set (s.n+1) (some (.loop true none s.fr ps.toList assign body))) ((w.alloc (.deferred (some []))).alloc (.loop Ci)):=
  ij.alloc (ob:=.loop Ci) (o:=.loop true none s.fr ps.toList assign body) u1.good DG gD
   ⟨Ci,heap_alloc_new,rfl,rfl,rfl,rfl,rfl,vG (Env.le_trans u1.le (Env.q8 DG fun m x t e hx=>by have:=u1.good.mO m x t e;omega)) r.fr,by rw[show Ci.tmps.size=N from r.size];exact⟨iA.2.1,iA.2.2,fun p hp=>by simpa using bn.1 iA.1 p hp⟩⟩
 rw[World.size_alloc]at u2;have WH:fO P gf (.fn (.yield (s.n+1)) [] []::lb) ((s.h.set s.n (some .me)).set (s.n+1) (some (.loop true none s.fr ps.toList assign body))) (s.n+2) R:=hc;generalize TL:(E.put s.n w.heap.size 0 0).put (s.n+1) (w.heap.size+1) 0 0=E2 at u2;generalize Np:(s.h.set s.n (some .me)).set (s.n+1) (some (.loop true none s.fr ps.toList assign body))=h2 at u2 WH;generalize hW1:(w.alloc (.deferred (some []))).alloc (.loop Ci)=W1 at u2;have G2:E2.ι (s.n+1)=some (w.heap.size+1,0):=by rw[<- TL];exact Env.eV
 have FY:E2.ι s.n=some (w.heap.size,0):=by rw[<- TL,Env.fk be];exact Env.eV
 have qn:∀k,k<s.n->E2.ι k=E.ι k:=fun k hk=>by rw[<- TL,Env.fk be,Env.fk be]
 have HO:qH E2 (s.n+2):=fun k hk=>by
  have hk:s.n+2<=k:=hk;rw[<- TL,Env.fk be,Env.fk be];exact r.nW k (by show s.n<=k;omega)
 have u12:=u1.trans u2;have Yx:dG E2 lb HN:=kg u12.le _ _ hlb;have PC:(invoke (.fn (.func gf) HN.toArray) #[.func (.yield (w.heap.size+1)) #[] #[]]).run P W1= .ok (.enter gf (Value.func (.yield (w.heap.size+1)) #[] #[]::HN).toArray) W1:=by
  have Yy:=pI (w:=W1) (args:=(Value.func (.yield (w.heap.size+1)) #[] #[]::HN).toArray) uJ.1;rw[<- Yy];simp[invoke]
 refine⟨w.heap.size+1,[{ target:=.collected w.heap.size,args:=#[] }],W1,{ target:=.fn (.func gf) HN.toArray,args:=#[.func (.yield (w.heap.size+1)) #[] #[]] },W1,gf,
  (Value.func (.yield (w.heap.size+1)) #[] #[]::HN).toArray,W1,?_,?_,fun _ _=>trivial,PC,fun hd=>by simp[fz,Fence.wide]at hd,?_⟩
 . rw[<- hW1];exact run_enterLoop_outer _ _ _ _ _
 . simp only[resolve,zO];simp[go_sem]
 . have Cj:=WH E2 W1 (Value.func (.yield (w.heap.size+1)) #[] #[]::HN) ⟨_,_,⟨_,[],[],⟨_,_,G2,rfl⟩,rfl,rfl,rfl⟩,Yx,rfl⟩ u2.good HO;have FZ:CallsIn Fence.wide (0-1) P gf (Value.func (.yield (w.heap.size+1)) #[] #[]::HN).toArray W1 (rangePost (fz none) 0 P (w.heap.size+1) K { a with defers:=[{ target:=.collected w.heap.size,args:=#[] }]++a.defers }):=by
    refine callsIn_wide.2 (Cj.mono ?_);rintro en w3 ⟨v,h,n,hRR,E3,u3,yF,PD,J0,ho⟩;obtain⟨Ew,hQ⟩:=hq v h n hRR;cases en with
    |panicked _=>exact ho.elim
    |outgrown=>exact ho.elim
    |returned v'=>
     have Yz:E3.ι (s.n+1)=some (w.heap.size+1,0):=by rw[yF _ be];exact G2
     have hd3:E3.ι s.n=some (w.heap.size,0):=by rw[yF _ be];exact FY
     unfold WY at Ew;split at Ew
     case h_2=>cases Ew
     rename_i fr pl c1 c2 hdg G3;obtain⟨b,s0,q1,rc,q2,q3,q4,_⟩:=u3.good.rel _ _ G3;rw[Yz]at q1;cases q1;have Nq:=run_endLoop (P:=P) q2 (by rw[q3];simp);refine⟨_,_,Nq.trans (aN (fun p=>Result.ok p _) q4),?_⟩;have uk:ij E3 h w3 E3 (h.set (s.n+1) none) (w3.putObj (w.heap.size+1) (.loop { rc with state:=.exhausted })):=
      ij.kill u3.good gD ⟨_,G3,rfl⟩ Yz (by simp) rfl rfl rfl fun x hx=>World.putObj_heap_other hx
     have F0:=(u12.trans u3).trans uk;have hsn:s.n<=n:=by omega
     exact k .normal _ E3 _ _ hQ (.of F0 (fun k hk=>by rw[yF k be];exact qn k hk) hn) (by show n0<=n;omega)
      ⟨F0.good,PD,jQ F0.le r.fr,r.size,⟨_,a.defers,.inr ⟨rfl,s.n,w.heap.size,0,rfl,hd3,rfl⟩,iR F0.le _ _ r.gu,rfl⟩⟩
   exact FZ
end Go.Eng
