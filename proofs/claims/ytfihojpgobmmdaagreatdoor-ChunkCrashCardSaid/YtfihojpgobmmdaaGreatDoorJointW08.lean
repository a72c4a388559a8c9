/- The engine, part MF: ranges over functions and calls whose outcome is one of several. No conditions: lemmas alone. -/
import Derived.Test.YtfihojpgobmmdaaGreatDoorJointW06
set_option linter.unusedVariables false
set_option linter.unusedSimpArgs false
set_option linter.unusedSectionVars false
namespace Go.Eng
open Go Go.RowKit
def fU(P:Program)(f:FuncId)(args:ag)(h:Tr O)(n:Nat)(R:V->Tr O->Nat->Prop):Prop:=
 ∀E w c9,dI E args c9->Good E h w->qL E n->Calls P f c9.toArray w fun e w'=>∃v h' n',R v h' n'/\jU E h n w (.ret v) h' n' e w'
theorem cU.one{P:Program}{f:FuncId}{args:ag}{h:Tr O}{n:Nat}{v:V}{h1:Tr O}{n1:Nat}(c:cU P f args h n v h1 n1):fU P f args h n fun a b d=>a=v/\b=h1/\d=n1:=
 fun E w c9 ra g hd=>(c E w c9 ra g hd).mono fun _ _ q=>⟨_,_,_,⟨rfl,rfl,rfl⟩,q⟩
theorem fU.mono{P:Program}{f:FuncId}{args:ag}{h:Tr O}{n:Nat}{R R':V->Tr O->Nat->Prop}(c:fU P f args h n R)(hr:∀v h n,R v h n->R' v h n):fU P f args h n R':=
 fun E w c9 ra g hd=>(c E w c9 ra g hd).mono fun _ _ ⟨v,h',n',r,q⟩=>⟨v,h',n',hr _ _ _ r,q⟩
theorem fU.is{P:Program}{f:FuncId}{args:ag}{h:Tr O}{n:Nat}{v:V}{h1:Tr O}{n1:Nat}(c:fU P f args h n fun a b d=>a=v/\b=h1/\d=n1):cU P f args h n v h1 n1:=
 fun E w c9 ra g hd=>(c E w c9 ra g hd).mono fun _ _ ⟨_,_,_,⟨e1,e2,e3⟩,q⟩=>by subst e1 e2 e3;exact q
theorem gF{P:Program}(hm:P.follows .mixedOrders=true)(xD:lB P=true){f:FuncId}{fn:Func}{code:Code}(hf:P.funcs[f]? =some fn)(hb:fn.body=some code){args:ag}{h:Tr O}{n:Nat}{R:V->Tr O->Nat->Prop}
  (l:(Nat.ble args.length fn.ntmps&&Nat.blt fn.ntmps fN)=true) (hT:TG P n fn.ntmps code (cT args h n) (fH P n fn R)):fU P f args h n R:=
 fun _ _ _ ra g hd=>oH hm xD hf hb l R hT ra g hd
theorem xM{P:Program}{F:Fence}{n:Nat}{ops:Array Oper}{Q:Exit->Act->World->Prop}{l2:List Oper}:∀(l1:List Oper) {a:Act} {w:World},
  wpListIn F n P ops (fun y a w=>match y with | .normal=>wpListIn F n P ops Q l2 a w|y=>Q y a w) l1 a w->wpListIn F n P ops Q (l1++l2) a w
 | [],a,w,h=>h
 |o::l1,a,w,h=>by
  show wpListIn F n P ops Q (o::(l1++l2)) a w;unfold wpListIn at h ⊢;split
  . rename_i hw;rw[aG hw]at h;refine Ol (fun a w q=>xM l1 q) (fun y a w hy q=>?_) h;cases y<;>first|exact absurd rfl hy|exact q
  . rename_i hw;rw[aI hw]at h;exact⟨h.1,xM l1 h.2⟩
theorem Ry{P:Program}{cf:fO}(oB:ji P cf){n0 N g:Nat}{pre post:List Oper}{o:Oper}{s s1:St}{Q:Exit->St->Prop}{f:FuncId}{args:ag}{R:V->Tr O->Nat->Prop}(ic:eU N (.region g (pre++o::post).toArray false)=true)
  (h1:je P cf (pre++o::post).toArray pre s=some (.normal,s1)) (hg:o.guard=none) (ho:dD P o s1.fr s1.h s1.n=some (.call f args)) (uR:(callee P f&&Nat.blt f P.funcs.size)=true) (hc:fU P f args s1.h s1.n R)
  (hq:∀v h n,R v h n->∃fr s2,iZ s1.fr o.dst v=some fr/\je P cf (pre++o::post).toArray post { s1 with fr:=fr,h:=h,n:=n }=some (.normal,s2)/\Q .normal s2):TG P n0 N (.region g (pre++o::post).toArray false) s Q:=by
 intro E a w K r hn k;simp only[eU,aC]at ic;simp only[aC]at uR;have fJ:f<P.funcs.size:=au uR.2;have ud:∀x∈pre++o::post,nj N x.dst:=by
  intro x hx d hd;have:=bn.1 ic.1 x (by simpa using hx);rw[hd]at this;exact aH this
 refine(wpIn_wide (n:=0)).1 (wpIn_region_list (F:=fz none) ?_);show wpListIn (fz none) 0 P _ _ (pre++o::post) a w;refine xM pre ?_;refine kL (uT:=none) oB pre s .normal s1 (.inl rfl) (fun x hx=>ud x (by simp[hx])) h1 E a w _ r ?_;intro E1 a1 w1 x1 u1 EU DW r1 Um;cases x1<;>first|exact Um.elim|skip
 show wpListIn (fz none) 0 P _ _ (o::post) a1 w1;refine wpListIn_plain hg fun K' UZ=>?_;have Ed:∀y∈o.op.operands,mI E1 s1.fr a1.eval y:=fun y _=>iG r1.good.jm r1.fr y;obtain⟨c9,ra,fM⟩:=mJ r1.good (r1.nZ _ (aA _)) Ed ho;refine⟨fun _ _=>trivial,?_⟩;rw[lz (vV ho fun _ _ _=>by simp)];rcases fM with⟨fM,h2⟩|⟨m,l,sx,h2,h3,fM⟩
 . rw[fM,Oper.uponIn_enter];refine⟨fun hd=>by simp[fz,Fence.wide]at hd,?_⟩;refine callsIn_wide.2 ((hc E1 w1 c9 ra r1.good r1.nZ).mono ?_);rintro en w2 ⟨v,h',n',hR,E2,u2,qu,Io,xn,oU⟩;obtain⟨fr,s2,p1,p2,p3⟩:=hq v h' n' hR;cases en with
   |panicked _=>exact oU.elim
   |outgrown=>exact oU.elim
   |returned v'=>
    have oU:dF E2 v v':=oU;refine UZ _ _ ?_;have r2:jV E2 N { s1 with fr:=fr,h:=h',n:=n' } (a1.put o.dst v') w2:=
     ⟨u2.good,Io,jA (jT u2.le r1.fr) p1 oU (by rw[r1.size];exact ud o (by simp)),by rw[iF];exact r1.size,by rw[gA];exact iU u2.le _ _ r1.gz⟩
    refine kL (uT:=none) oB post _ .normal s2 (.inl rfl) (fun x hx=>ud x (by simp[hx])) p2 E2 _ w2 _ r2 ?_;intro E3 a3 w3 x3 u3 yR Ky r3 hx3;cases x3<;>first|exact hx3.elim|skip
    have hnn:s.n<=n':=bU DW xn;have uu:=((lH.of u1 EU hn).trans (lH.of u2 qu (bU hn DW))).trans (lH.of u3 yR (bU hn hnn));have hnf:n0<=s2.n:=bU (bU hn hnn) Ky;exact k .normal s2 E3 a3 w3 p3 uu hnf r3
 . exact absurd fJ (by rw[h2];exact Nat.not_lt.2 (Nat.le_add_right _ _))
theorem oh{P:Program}{n0 N:Nat}{c:Code}{s:St}{Q:Exit->St->Prop}{gf:FuncId}{lb:ag}{R:V->Tr O->Nat->Prop}(hr:ME c=true)(ic:eU N c=true)
  (hg:iK s.fr (rG c)=some (.fn (.func gf) [] lb)) (uR:(callee P gf&&Nat.blt gf P.funcs.size)=true) (ht:Nat.blt (s.n+1) fN=true)
  (hc:fU P gf (.fn (.yield (s.n+1)) [] []::lb) (ad8 c s) (s.n+2) R) (hq:∀v h n,R v h n->XO s h=true/\Q .normal (tD s h n)):TG P n0 N c s Q:=by
 cases c<;>simp only[ME,aO]at hr;rename_i g ps assign body;simp only[aC]at uR;have gH:s.n+1<fN:=au ht;simp only[eU,aC]at ic;intro E a w K r hn k;have hg:iK s.fr g=some (.fn (.func gf) [] lb):=hg;obtain⟨f',fi,Im,N1,hfi,hlb,Ae⟩:=iG r.good.jm r.fr g _ hg;simp only[yl]at N1;subst N1;simp only[dI]at hfi;subst hfi;refine(wpIn_wide (n:=0)).1 ?_;show(Code.rangeFunc g ps assign body).wpIn (fz none) 0 P K a w;refine wpIn_rangeFunc fun fn _=>?_
 let CC:Loop:={ state:=.ready,pending:=none,fn,tmps:=a.tmps,params:=ps,assign,body,defers:=w.heap.size }
 have u1:iy E s.h w (E.put s.n w.heap.size 0 0) (s.h.set s.n (some .mA)) (w.alloc (.deferred (some []))):=iy.alloc (ob:=.deferred (some [])) (o:=.mA) r.good (r.nZ _ (aA _)) be heap_alloc_new;have DW:(E.put s.n w.heap.size 0 0).ι (s.n+1)=none:=by rw[Env.fB be];exact r.nZ _ be
 have u2:iy (E.put s.n w.heap.size 0 0) (s.h.set s.n (some .mA)) (w.alloc (.deferred (some []))) ((E.put s.n w.heap.size 0 0).put (s.n+1) (w.alloc (.deferred (some []))).heap.size 0 0) ((s.h.set s.n (some .mA)).set (s.n+1) (some (.loop true none s.fr ps.toList assign body))) ((w.alloc (.deferred (some []))).alloc (.loop CC)):=
  iy.alloc (ob:=.loop CC) (o:=.loop true none s.fr ps.toList assign body) u1.good DW gH
   ⟨CC,heap_alloc_new,rfl,rfl,rfl,rfl,rfl,vO (Env.le_trans u1.le (Env.rz DW fun m x t e hx=>by have:=u1.good.mU m x t e;omega)) r.fr,by rw[show CC.tmps.size=N from r.size];exact⟨ic.2.1,ic.2.2,fun p hp=>by simpa using bn.1 ic.1 p hp⟩⟩
 rw[World.size_alloc]at u2;have TW:fU P gf (.fn (.yield (s.n+1)) [] []::lb) ((s.h.set s.n (some .mA)).set (s.n+1) (some (.loop true none s.fr ps.toList assign body))) (s.n+2) R:=hc;generalize Ux:(E.put s.n w.heap.size 0 0).put (s.n+1) (w.heap.size+1) 0 0=E2 at u2;generalize N8:(s.h.set s.n (some .mA)).set (s.n+1) (some (.loop true none s.fr ps.toList assign body))=h2 at u2 TW;generalize hW1:(w.alloc (.deferred (some []))).alloc (.loop CC)=W1 at u2;have HB:E2.ι (s.n+1)=some (w.heap.size+1,0):=by rw[<- Ux];exact Env.eY
 have Gl:E2.ι s.n=some (w.heap.size,0):=by rw[<- Ux,Env.fB be];exact Env.eY
 have qu:∀k,k<s.n->E2.ι k=E.ι k:=fun k hk=>by rw[<- Ux,Env.fB be,Env.fB be]
 have Io:qL E2 (s.n+2):=fun k hk=>by
  have hk:s.n+2<=k:=hk;rw[<- Ux,Env.fB be,Env.fB be];exact r.nZ k (by show s.n<=k;omega)
 have u12:=u1.trans u2;have Zk:dI E2 lb Im:=ku u12.le _ _ hlb;have Qo:(invoke (.fn (.func gf) Im.toArray) #[.func (.yield (w.heap.size+1)) #[] #[]]).run P W1= .ok (.enter gf (Value.func (.yield (w.heap.size+1)) #[] #[]::Im).toArray) W1:=by
  have Zl:=pP (w:=W1) (args:=(Value.func (.yield (w.heap.size+1)) #[] #[]::Im).toArray) uR.1;rw[<- Zl];simp[invoke]
 refine⟨w.heap.size+1,[{ target:=.collected w.heap.size,args:=#[] }],W1,{ target:=.fn (.func gf) Im.toArray,args:=#[.func (.yield (w.heap.size+1)) #[] #[]] },W1,gf,
  (Value.func (.yield (w.heap.size+1)) #[] #[]::Im).toArray,W1,?_,?_,fun _ _=>trivial,Qo,fun hd=>by simp[fz,Fence.wide]at hd,?_⟩
 . rw[<- hW1];exact run_enterLoop_outer _ _ _ _ _
 . simp only[resolve,Ae];simp[go_sem]
 . have CD:=TW E2 W1 (Value.func (.yield (w.heap.size+1)) #[] #[]::Im) ⟨_,_,⟨_,[],[],⟨_,_,HB,rfl⟩,rfl,rfl,rfl⟩,Zk,rfl⟩ u2.good Io;have Gm:CallsIn Fence.wide (0-1) P gf (Value.func (.yield (w.heap.size+1)) #[] #[]::Im).toArray W1 (rangePost (fz none) 0 P (w.heap.size+1) K { a with defers:=[{ target:=.collected w.heap.size,args:=#[] }]++a.defers }):=by
    refine callsIn_wide.2 (CD.mono ?_);rintro en w3 ⟨v,h,n,hRR,E3,u3,yR,Qp,Ky,ho⟩;obtain⟨EN,hQ⟩:=hq v h n hRR;cases en with
    |panicked _=>exact ho.elim
    |outgrown=>exact ho.elim
    |returned v'=>
     have Zm:E3.ι (s.n+1)=some (w.heap.size+1,0):=by rw[yR _ be];exact HB
     have hd3:E3.ι s.n=some (w.heap.size,0):=by rw[yR _ be];exact Gl
     unfold XO at EN;split at EN
     case h_2=>cases EN
     rename_i fr pl c1 c2 hdg DZ;obtain⟨b,s0,q1,rc,q2,q3,q4,_⟩:=u3.good.rel _ _ DZ;rw[Zm]at q1;cases q1;have N9:=run_endLoop (P:=P) q2 (by rw[q3];simp);refine⟨_,_,N9.trans (aN (fun p=>Result.ok p _) q4),?_⟩;have uk:iy E3 h w3 E3 (h.set (s.n+1) none) (w3.putObj (w.heap.size+1) (.loop { rc with state:=.exhausted })):=
      iy.kill u3.good gH ⟨_,DZ,rfl⟩ Zm (by simp) rfl rfl rfl fun x hx=>World.putObj_heap_other hx
     have Gn:=(u12.trans u3).trans uk;have hsn:s.n<=n:=by omega
     exact k .normal _ E3 _ _ hQ (.of Gn (fun k hk=>by rw[yR k be];exact qu k hk) hn) (by show n0<=n;omega)
      ⟨Gn.good,Qp,jT Gn.le r.fr,r.size,⟨_,a.defers,.inr ⟨rfl,s.n,w.heap.size,0,rfl,hd3,rfl⟩,iU Gn.le _ _ r.gz,rfl⟩⟩
   exact Gm
end Go.Eng
