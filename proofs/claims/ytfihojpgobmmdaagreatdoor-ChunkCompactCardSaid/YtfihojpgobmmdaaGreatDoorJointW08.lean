/- The engine, part MF: ranges over functions and calls whose outcome is one of several. No conditions: lemmas alone. -/
import Derived.Test.YtfihojpgobmmdaaGreatDoorJointW06
set_option linter.unusedVariables false
set_option linter.unusedSimpArgs false
set_option linter.unusedSectionVars false
namespace Go.Eng
open Go Go.RowKit
def fQ(P:Program)(f:FuncId)(args:ag)(h:Tr O)(n:Nat)(R:V->Tr O->Nat->Prop):Prop:=
 ∀E w c9,dI E args c9->Good E h w->qN E n->Calls P f c9.toArray w fun e w'=>∃v h' n',R v h' n'/\jX E h n w (.ret v) h' n' e w'
theorem cU.one{P:Program}{f:FuncId}{args:ag}{h:Tr O}{n:Nat}{v:V}{h1:Tr O}{n1:Nat}(c:cU P f args h n v h1 n1):fQ P f args h n fun a b d=>a=v/\b=h1/\d=n1:=
 fun E w c9 ra g hd=>(c E w c9 ra g hd).mono fun _ _ q=>⟨_,_,_,⟨rfl,rfl,rfl⟩,q⟩
theorem fQ.mono{P:Program}{f:FuncId}{args:ag}{h:Tr O}{n:Nat}{R R':V->Tr O->Nat->Prop}(c:fQ P f args h n R)(hr:∀v h n,R v h n->R' v h n):fQ P f args h n R':=
 fun E w c9 ra g hd=>(c E w c9 ra g hd).mono fun _ _ ⟨v,h',n',r,q⟩=>⟨v,h',n',hr _ _ _ r,q⟩
theorem fQ.is{P:Program}{f:FuncId}{args:ag}{h:Tr O}{n:Nat}{v:V}{h1:Tr O}{n1:Nat}(c:fQ P f args h n fun a b d=>a=v/\b=h1/\d=n1):cU P f args h n v h1 n1:=
 fun E w c9 ra g hd=>(c E w c9 ra g hd).mono fun _ _ ⟨_,_,_,⟨e1,e2,e3⟩,q⟩=>by subst e1 e2 e3;exact q
theorem gG{P:Program}(hm:P.follows .mixedOrders=true)(xB:lA P=true){f:FuncId}{fn:Func}{code:Code}(hf:P.funcs[f]? =some fn)(hb:fn.body=some code){args:ag}{h:Tr O}{n:Nat}{R:V->Tr O->Nat->Prop}
  (l:(Nat.ble args.length fn.ntmps&&Nat.blt fn.ntmps fL)=true) (hT:TG P n fn.ntmps code (cS args h n) (fG P n fn R)):fQ P f args h n R:=
 fun _ _ _ ra g hd=>oK hm xB hf hb l R hT ra g hd
theorem xL{P:Program}{F:Fence}{n:Nat}{ops:Array Oper}{Q:Exit->Act->World->Prop}{l2:List Oper}:∀(l1:List Oper) {a:Act} {w:World},
  wpListIn F n P ops (fun y a w=>match y with | .normal=>wpListIn F n P ops Q l2 a w|y=>Q y a w) l1 a w->wpListIn F n P ops Q (l1++l2) a w
 | [],a,w,h=>h
 |o::l1,a,w,h=>by
  show wpListIn F n P ops Q (o::(l1++l2)) a w;unfold wpListIn at h ⊢;split
  . rename_i hw;rw[aG hw]at h;refine NX (fun a w q=>xL l1 q) (fun y a w hy q=>?_) h;cases y<;>first|exact absurd rfl hy|exact q
  . rename_i hw;rw[aI hw]at h;exact⟨h.1,xL l1 h.2⟩
theorem Ri{P:Program}{cf:fM}(oF:je P cf){n0 N g:Nat}{pre post:List Oper}{o:Oper}{s s1:St}{Q:Exit->St->Prop}{f:FuncId}{args:ag}{R:V->Tr O->Nat->Prop}(iD:eX N (.region g (pre++o::post).toArray false)=true)
  (h1:ja P cf (pre++o::post).toArray pre s=some (.normal,s1)) (hg:o.guard=none) (ho:dz P o s1.fr s1.h s1.n=some (.call f args)) (uQ:(callee P f&&Nat.blt f P.funcs.size)=true) (hc:fQ P f args s1.h s1.n R)
  (hq:∀v h n,R v h n->∃fr s2,iV s1.fr o.dst v=some fr/\ja P cf (pre++o::post).toArray post { s1 with fr:=fr,h:=h,n:=n }=some (.normal,s2)/\Q .normal s2):TG P n0 N (.region g (pre++o::post).toArray false) s Q:=by
 intro E a w K r hn k;simp only[eX,aC]at iD;simp only[aC]at uQ;have fF:f<P.funcs.size:=au uQ.2;have uh:∀x∈pre++o::post,nl N x.dst:=by
  intro x hx d hd;have:=bq.1 iD.1 x (by simpa using hx);rw[hd]at this;exact aH this
 refine(wpIn_wide (n:=0)).1 (wpIn_region_list (F:=fz none) ?_);show wpListIn (fz none) 0 P _ _ (pre++o::post) a w;refine xL pre ?_;refine kO (uR:=none) oF pre s .normal s1 (.inl rfl) (fun x hx=>uh x (by simp[hx])) h1 E a w _ r ?_;intro E1 a1 w1 x1 u1 EU DW r1 T6;cases x1<;>first|exact T6.elim|skip
 show wpListIn (fz none) 0 P _ _ (o::post) a1 w1;refine wpListIn_plain hg fun K' UJ=>?_;have Ed:∀y∈o.op.operands,mH E1 s1.fr a1.eval y:=fun y _=>iF r1.good.jj r1.fr y;obtain⟨c9,ra,fK⟩:=mI r1.good (r1.oe _ (aA _)) Ed ho;refine⟨fun _ _=>trivial,?_⟩;rw[lu (vW ho fun _ _ _=>by simp)];rcases fK with⟨fK,h2⟩|⟨m,l,sx,h2,h3,fK⟩
 . rw[fK,Oper.uponIn_enter];refine⟨fun hd=>by simp[fz,Fence.wide]at hd,?_⟩;refine callsIn_wide.2 ((hc E1 w1 c9 ra r1.good r1.oe).mono ?_);rintro en w2 ⟨v,h',n',hR,E2,u2,qv,Ia,xl,oZ⟩;obtain⟨fr,s2,p1,p2,p3⟩:=hq v h' n' hR;cases en with
   |panicked _=>exact oZ.elim
   |outgrown=>exact oZ.elim
   |returned v'=>
    have oZ:dD E2 v v':=oZ;refine UJ _ _ ?_;have r2:jY E2 N { s1 with fr:=fr,h:=h',n:=n' } (a1.put o.dst v') w2:=
     ⟨u2.good,Ia,jE (jW u2.le r1.fr) p1 oZ (by rw[r1.size];exact uh o (by simp)),by rw[iE];exact r1.size,by rw[gA];exact iT u2.le _ _ r1.gz⟩
    refine kO (uR:=none) oF post _ .normal s2 (.inl rfl) (fun x hx=>uh x (by simp[hx])) p2 E2 _ w2 _ r2 ?_;intro E3 a3 w3 x3 u3 yO Kk r3 hx3;cases x3<;>first|exact hx3.elim|skip
    have hnn:s.n<=n':=bV DW xl;have uu:=((lB.of u1 EU hn).trans (lB.of u2 qv (bV hn DW))).trans (lB.of u3 yO (bV hn hnn));have hnf:n0<=s2.n:=bV (bV hn hnn) Kk;exact k .normal s2 E3 a3 w3 p3 uu hnf r3
 . exact absurd fF (by rw[h2];exact Nat.not_lt.2 (Nat.le_add_right _ _))
theorem ou{P:Program}{n0 N:Nat}{c:Code}{s:St}{Q:Exit->St->Prop}{gf:FuncId}{lb:ag}{R:V->Tr O->Nat->Prop}(hr:Mn c=true)(iD:eX N c=true)
  (hg:iI s.fr (rG c)=some (.fn (.func gf) [] lb)) (uQ:(callee P gf&&Nat.blt gf P.funcs.size)=true) (ht:Nat.blt (s.n+1) fL=true)
  (hc:fQ P gf (.fn (.yield (s.n+1)) [] []::lb) (adP c s) (s.n+2) R) (hq:∀v h n,R v h n->XF s h=true/\Q .normal (tD s h n)):TG P n0 N c s Q:=by
 cases c<;>simp only[Mn,aO]at hr;rename_i g ps assign body;simp only[aC]at uQ;have gJ:s.n+1<fL:=au ht;simp only[eX,aC]at iD;intro E a w K r hn k;have hg:iI s.fr g=some (.fn (.func gf) [] lb):=hg;obtain⟨f',fi,H9,NF,hfi,hlb,zJ⟩:=iF r.good.jj r.fr g _ hg;simp only[yh]at NF;subst NF;simp only[dI]at hfi;subst hfi;refine(wpIn_wide (n:=0)).1 ?_;show(Code.rangeFunc g ps assign body).wpIn (fz none) 0 P K a w;refine wpIn_rangeFunc fun fn _=>?_
 let Cz:Loop:={ state:=.ready,pending:=none,fn,tmps:=a.tmps,params:=ps,assign,body,defers:=w.heap.size }
 have u1:ir E s.h w (E.put s.n w.heap.size 0 0) (s.h.set s.n (some .my)) (w.alloc (.deferred (some []))):=ir.alloc (ob:=.deferred (some [])) (o:=.my) r.good (r.oe _ (aA _)) be heap_alloc_new;have DW:(E.put s.n w.heap.size 0 0).ι (s.n+1)=none:=by rw[Env.fA be];exact r.oe _ be
 have u2:ir (E.put s.n w.heap.size 0 0) (s.h.set s.n (some .my)) (w.alloc (.deferred (some []))) ((E.put s.n w.heap.size 0 0).put (s.n+1) (w.alloc (.deferred (some []))).heap.size 0 0) ((s.h.set s.n (some .my)).set (s.n+1) (some (.loop true none s.fr ps.toList assign body))) ((w.alloc (.deferred (some []))).alloc (.loop Cz)):=
  ir.alloc (ob:=.loop Cz) (o:=.loop true none s.fr ps.toList assign body) u1.good DW gJ
   ⟨Cz,heap_alloc_new,rfl,rfl,rfl,rfl,rfl,vP (Env.le_trans u1.le (Env.rz DW fun m x t e hx=>by have:=u1.good.mW m x t e;omega)) r.fr,by rw[show Cz.tmps.size=N from r.size];exact⟨iD.2.1,iD.2.2,fun p hp=>by simpa using bq.1 iD.1 p hp⟩⟩
 rw[World.size_alloc]at u2;have Ub:fQ P gf (.fn (.yield (s.n+1)) [] []::lb) ((s.h.set s.n (some .my)).set (s.n+1) (some (.loop true none s.fr ps.toList assign body))) (s.n+2) R:=hc;generalize Ui:(E.put s.n w.heap.size 0 0).put (s.n+1) (w.heap.size+1) 0 0=E2 at u2;generalize NM:(s.h.set s.n (some .my)).set (s.n+1) (some (.loop true none s.fr ps.toList assign body))=h2 at u2 Ub;generalize hW1:(w.alloc (.deferred (some []))).alloc (.loop Cz)=W1 at u2;have Hp:E2.ι (s.n+1)=some (w.heap.size+1,0):=by rw[<- Ui];exact Env.fa
 have Ge:E2.ι s.n=some (w.heap.size,0):=by rw[<- Ui,Env.fA be];exact Env.fa
 have qv:∀k,k<s.n->E2.ι k=E.ι k:=fun k hk=>by rw[<- Ui,Env.fA be,Env.fA be]
 have Ia:qN E2 (s.n+2):=fun k hk=>by
  have hk:s.n+2<=k:=hk;rw[<- Ui,Env.fA be,Env.fA be];exact r.oe k (by show s.n<=k;omega)
 have u12:=u1.trans u2;have Y6:dI E2 lb H9:=kz u12.le _ _ hlb;have P7:(invoke (.fn (.func gf) H9.toArray) #[.func (.yield (w.heap.size+1)) #[] #[]]).run P W1= .ok (.enter gf (Value.func (.yield (w.heap.size+1)) #[] #[]::H9).toArray) W1:=by
  have Y7:=pR (w:=W1) (args:=(Value.func (.yield (w.heap.size+1)) #[] #[]::H9).toArray) uQ.1;rw[<- Y7];simp[invoke]
 refine⟨w.heap.size+1,[{ target:=.collected w.heap.size,args:=#[] }],W1,{ target:=.fn (.func gf) H9.toArray,args:=#[.func (.yield (w.heap.size+1)) #[] #[]] },W1,gf,
  (Value.func (.yield (w.heap.size+1)) #[] #[]::H9).toArray,W1,?_,?_,fun _ _=>trivial,P7,fun hd=>by simp[fz,Fence.wide]at hd,?_⟩
 . rw[<- hW1];exact run_enterLoop_outer _ _ _ _ _
 . simp only[resolve,zJ];simp[go_sem]
 . have CA:=Ub E2 W1 (Value.func (.yield (w.heap.size+1)) #[] #[]::H9) ⟨_,_,⟨_,[],[],⟨_,_,Hp,rfl⟩,rfl,rfl,rfl⟩,Y6,rfl⟩ u2.good Ia;have Gf:CallsIn Fence.wide (0-1) P gf (Value.func (.yield (w.heap.size+1)) #[] #[]::H9).toArray W1 (rangePost (fz none) 0 P (w.heap.size+1) K { a with defers:=[{ target:=.collected w.heap.size,args:=#[] }]++a.defers }):=by
    refine callsIn_wide.2 (CA.mono ?_);rintro en w3 ⟨v,h,n,hRR,E3,u3,yO,P9,Kk,ho⟩;obtain⟨EN,hQ⟩:=hq v h n hRR;cases en with
    |panicked _=>exact ho.elim
    |outgrown=>exact ho.elim
    |returned v'=>
     have Y8:E3.ι (s.n+1)=some (w.heap.size+1,0):=by rw[yO _ be];exact Hp
     have hd3:E3.ι s.n=some (w.heap.size,0):=by rw[yO _ be];exact Ge
     unfold XF at EN;split at EN
     case h_2=>cases EN
     rename_i fr pl c1 c2 hdg Hq;obtain⟨b,s0,q1,rc,q2,q3,q4,_⟩:=u3.good.rel _ _ Hq;rw[Y8]at q1;cases q1;have NN:=run_endLoop (P:=P) q2 (by rw[q3];simp);refine⟨_,_,NN.trans (aM (fun p=>Result.ok p _) q4),?_⟩;have uk:ir E3 h w3 E3 (h.set (s.n+1) none) (w3.putObj (w.heap.size+1) (.loop { rc with state:=.exhausted })):=
      ir.kill u3.good gJ ⟨_,Hq,rfl⟩ Y8 (by simp) rfl rfl rfl fun x hx=>World.putObj_heap_other hx
     have Gg:=(u12.trans u3).trans uk;have hsn:s.n<=n:=by omega
     exact k .normal _ E3 _ _ hQ (.of Gg (fun k hk=>by rw[yO k be];exact qv k hk) hn) (by show n0<=n;omega)
      ⟨Gg.good,P9,jW Gg.le r.fr,r.size,⟨_,a.defers,.inr ⟨rfl,s.n,w.heap.size,0,rfl,hd3,rfl⟩,iT Gg.le _ _ r.gz,rfl⟩⟩
   exact Gf
end Go.Eng
