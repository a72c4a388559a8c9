/- The engine, part MF: ranges over functions and calls whose outcome is one of several. No conditions: lemmas alone. -/
import Derived.Test.YtfihojpgobmmdaaGreatDoorJointSeven
set_option linter.unusedVariables false
set_option linter.unusedSimpArgs false
set_option linter.unusedSectionVars false
namespace Go.Eng
open Go Go.RowKit
def CallsOne (P:Program) (f:FuncId) (args:List V) (h:Tr O) (n:Nat) (R:V→Tr O→Nat→Prop):Prop:=
 ∀ E w args',vrels E args args'→Good E h w→Dom E n→Calls P f args'.toArray w fun e w'=>∃ v h' n',R v h' n'∧CPost E h n w (.ret v) h' n' e w'
theorem CallIs.one {P:Program} {f:FuncId} {args:List V} {h:Tr O} {n:Nat} {v:V} {h1:Tr O} {n1:Nat} (c:CallIs P f args h n v h1 n1):CallsOne P f args h n fun a b d=>a=v∧b=h1∧d=n1:=
 fun E w args' ra g hd=>(c E w args' ra g hd).mono fun _ _ q=>⟨_,_,_,⟨rfl,rfl,rfl⟩,q⟩
theorem CallsOne.mono {P:Program} {f:FuncId} {args:List V} {h:Tr O} {n:Nat} {R R':V→Tr O→Nat→Prop} (c:CallsOne P f args h n R) (hr:∀ v h n,R v h n→R' v h n):CallsOne P f args h n R':=
 fun E w args' ra g hd=>(c E w args' ra g hd).mono fun _ _ ⟨v,h',n',r,q⟩=>⟨v,h',n',hr _ _ _ r,q⟩
theorem CallsOne.is {P:Program} {f:FuncId} {args:List V} {h:Tr O} {n:Nat} {v:V} {h1:Tr O} {n1:Nat} (c:CallsOne P f args h n fun a b d=>a=v∧b=h1∧d=n1):CallIs P f args h n v h1 n1:=
 fun E w args' ra g hd=>(c E w args' ra g hd).mono fun _ _ ⟨_,_,_,⟨e1,e2,e3⟩,q⟩=>by subst e1 e2 e3; exact q
theorem callsOne_of_TG {P:Program} (hm:P.follows .mixedOrders=true) (hpo:progOk P=true) {f:FuncId} {fn:Func} {code:Code} (hf:P.funcs[f]? =some fn) (hb:fn.body=some code) {args:List V} {h:Tr O} {n:Nat} {R:V→Tr O→Nat→Prop}
  (l:(Nat.ble args.length fn.ntmps && Nat.blt fn.ntmps top)=true) (hT:TG P n fn.ntmps code (startSt args h n) (RetG P n fn R)):CallsOne P f args h n R:=
 fun _ _ _ ra g hd=>calls_of_TG hm hpo hf hb l R hT ra g hd
theorem wpl_append {P:Program} {F:Fence} {n:Nat} {ops:Array Oper} {Q:Exit→Act→World→Prop} {l2:List Oper}:∀ (l1:List Oper) {a:Act} {w:World},
  wpListIn F n P ops (fun y a w=>match y with | .normal=>wpListIn F n P ops Q l2 a w | y=>Q y a w) l1 a w→wpListIn F n P ops Q (l1 ++ l2) a w
 | [],a,w,h=>h
 | o :: l1,a,w,h=>by
   show wpListIn F n P ops Q (o :: (l1 ++ l2)) a w
   unfold wpListIn at h ⊢
   split
   · rename_i hw
     rw [if_pos hw] at h
     refine opIn_mono (fun a w q=>wpl_append l1 q) (fun y a w hy q=>?_) h
     cases y <;> first | exact absurd rfl hy | exact q
   · rename_i hw
     rw [if_neg hw] at h
     exact ⟨h.1,wpl_append l1 h.2⟩
theorem TG_callN {P:Program} {cf:CallF} (hcf:CallOk P cf) {n0 N g:Nat} {pre post:List Oper} {o:Oper} {s s1:St} {Q:Exit→St→Prop} {f:FuncId} {args:List V} {R:V→Tr O→Nat→Prop} (hok:codeOk N (.region g (pre ++ o :: post).toArray false)=true)
  (h1:seqOps P cf (pre ++ o :: post).toArray pre s=some (.normal,s1)) (hg:o.guard=none) (ho:stepOp P o s1.fr s1.h s1.n=some (.call f args)) (hcal:(callee P f && Nat.blt f P.funcs.size)=true) (hc:CallsOne P f args s1.h s1.n R)
  (hq:∀ v h n,R v h n→∃ fr s2,putD s1.fr o.dst v=some fr∧seqOps P cf (pre ++ o :: post).toArray post { s1 with fr:=fr,h:=h,n:=n }=some (.normal,s2)∧Q .normal s2):TG P n0 N (.region g (pre ++ o :: post).toArray false) s Q:=by
 intro E a w K r hn k
 simp only [codeOk,Bool.and_eq_true] at hok
 simp only [Bool.and_eq_true] at hcal
 have hlt:f < P.funcs.size:=Nat.le_of_ble_eq_true hcal.2
 have hdst:∀ x ∈ pre ++ o :: post,dstOk N x.dst:=by
  intro x hx d hd
  have:=List.all_eq_true.1 hok.1 x (by simpa using hx)
  rw [hd] at this
  exact of_decide_eq_true this
 refine (wpIn_wide (n:=0)).1 (wpIn_region_list (F:=fz none) ?_)
 show wpListIn (fz none) 0 P _ _ (pre ++ o :: post) a w
 refine wpl_append pre ?_
 refine seq_sound (rnd:=none) hcf pre s .normal s1 (.inl rfl) (fun x hx=>hdst x (by simp [hx])) h1 E a w _ r ?_
 intro E1 a1 w1 x1 u1 hlow1 hn1 r1 hx1
 cases x1 <;> first | exact hx1.elim | skip
 show wpListIn (fz none) 0 P _ _ (o :: post) a1 w1
 refine wpListIn_plain hg fun K' hK'=>?_
 have hopd:∀ y ∈ o.op.operands,OpdRel E1 s1.fr a1.eval y:=fun y _=>opdRel_of_frel r1.good.glob r1.fr y
 obtain ⟨args',ra,hrun⟩:=step_sound r1.good (r1.dom _ (Nat.le_refl _)) hopd ho
 refine ⟨fun _ _=>trivial,?_⟩
 rw [semAt_plain (not_defer ho fun _ _ _=>by simp)]
 rcases hrun with ⟨hrun,h2⟩ | ⟨m,l,sx,h2,h3,hrun⟩
 · rw [hrun,Oper.uponIn_enter]
   refine ⟨fun hd=>by simp [fz,Fence.wide] at hd,?_⟩
   refine callsIn_wide.2 ((hc E1 w1 args' ra r1.good r1.dom).mono ?_)
   rintro en w2 ⟨v,h',n',hR,E2,u2,hlow2,hdom2,hn2,hout⟩
   obtain ⟨fr,s2,p1,p2,p3⟩:=hq v h' n' hR
   cases en with
   | panicked _=>exact hout.elim
   | outgrown=>exact hout.elim
   | returned v'=>
     have hout:vrel E2 v v':=hout
     refine hK' _ _ ?_
     have r2:SRel E2 N { s1 with fr:=fr,h:=h',n:=n' } (a1.put o.dst v') w2:=
      ⟨u2.good,hdom2,frel_put (frel_mono u2.le r1.fr) p1 hout (by rw [r1.size]; exact hdst o (by simp)),by rw [put_size]; exact r1.size,by rw [put_defers]; exact dfrel_mono u2.le _ _ r1.dfs⟩
     refine seq_sound (rnd:=none) hcf post _ .normal s2 (.inl rfl) (fun x hx=>hdst x (by simp [hx])) p2 E2 _ w2 _ r2 ?_
     intro E3 a3 w3 x3 u3 hlow3 hn3 r3 hx3
     cases x3 <;> first | exact hx3.elim | skip
     have hnn:s.n ≤ n':=Nat.le_trans hn1 hn2
     have uu:=((UpdL.of u1 hlow1 hn).trans (UpdL.of u2 hlow2 (Nat.le_trans hn hn1))).trans (UpdL.of u3 hlow3 (Nat.le_trans hn hnn))
     have hnf:n0 ≤ s2.n:=Nat.le_trans (Nat.le_trans hn hnn) hn3
     exact k .normal s2 E3 a3 w3 p3 uu hnf r3
 · exact absurd hlt (by rw [h2]; exact Nat.not_lt.2 (Nat.le_add_right _ _))
theorem TG_rangeN {P:Program} {n0 N:Nat} {c:Code} {s:St} {Q:Exit→St→Prop} {gf:FuncId} {lb:List V} {R:V→Tr O→Nat→Prop} (hr:isRange c=true) (hok:codeOk N c=true)
  (hg:opd s.fr (rG c)=some (.fn (.func gf) [] lb)) (hcal:(callee P gf && Nat.blt gf P.funcs.size)=true) (ht:Nat.blt (s.n+1) top=true)
  (hc:CallsOne P gf (.fn (.yield (s.n+1)) [] [] :: lb) (rHeap c s) (s.n+2) R) (hq:∀ v h n,R v h n→rGood s h=true∧Q .normal (rEnd s h n)):TG P n0 N c s Q:=by
 cases c <;> simp only [isRange,Bool.false_eq_true] at hr
 rename_i g ps assign body
 simp only [Bool.and_eq_true] at hcal
 have htop:s.n+1 < top:=Nat.le_of_ble_eq_true ht
 simp only [codeOk,Bool.and_eq_true] at hok
 intro E a w K r hn k
 have hg:opd s.fr g=some (.fn (.func gf) [] lb):=hg
 obtain ⟨f',fi,lb',hff,hfi,hlb,hge⟩:=opdRel_of_frel r.good.glob r.fr g _ hg
 simp only [fnrel] at hff; subst hff
 simp only [vrels] at hfi; subst hfi
 refine (wpIn_wide (n:=0)).1 ?_
 show (Code.rangeFunc g ps assign body).wpIn (fz none) 0 P K a w
 refine wpIn_rangeFunc fun fn _=>?_
 let rec0:Loop:={ state:=.ready,pending:=none,fn,tmps:=a.tmps,params:=ps,assign,body,defers:=w.heap.size }
 have u1:Upd E s.h w (E.put s.n w.heap.size 0 0) (s.h.set s.n (some .dfr)) (w.alloc (.deferred (some []))):=Upd.alloc (ob:=.deferred (some [])) (o:=.dfr) r.good (r.dom _ (Nat.le_refl _)) (by omega) heap_alloc_new
 have hn1:(E.put s.n w.heap.size 0 0).ι (s.n+1)=none:=by rw [Env.put_ne (by omega)]; exact r.dom _ (by omega)
 have u2:Upd (E.put s.n w.heap.size 0 0) (s.h.set s.n (some .dfr)) (w.alloc (.deferred (some []))) ((E.put s.n w.heap.size 0 0).put (s.n+1) (w.alloc (.deferred (some []))).heap.size 0 0) ((s.h.set s.n (some .dfr)).set (s.n+1) (some (.loop true none s.fr ps.toList assign body))) ((w.alloc (.deferred (some []))).alloc (.loop rec0)):=
  Upd.alloc (ob:=.loop rec0) (o:=.loop true none s.fr ps.toList assign body) u1.good hn1 htop
   ⟨rec0,heap_alloc_new,rfl,rfl,rfl,rfl,rfl,trel_mono (Env.le_trans u1.le (Env.le_put hn1 fun m x t e hx=>by have:=u1.good.bnd m x t e; omega)) r.fr,by rw [show rec0.tmps.size=N from r.size]; exact ⟨hok.2.1,hok.2.2,fun p hp=>by simpa using List.all_eq_true.1 hok.1 p hp⟩⟩
 rw [World.size_alloc] at u2
 have hcc:CallsOne P gf (.fn (.yield (s.n+1)) [] [] :: lb) ((s.h.set s.n (some .dfr)).set (s.n+1) (some (.loop true none s.fr ps.toList assign body))) (s.n+2) R:=hc
 generalize hE2:(E.put s.n w.heap.size 0 0).put (s.n+1) (w.heap.size+1) 0 0=E2 at u2
 generalize hh2:(s.h.set s.n (some .dfr)).set (s.n+1) (some (.loop true none s.fr ps.toList assign body))=h2 at u2 hcc
 generalize hW1:(w.alloc (.deferred (some []))).alloc (.loop rec0)=W1 at u2
 have hl2:E2.ι (s.n+1)=some (w.heap.size+1,0):=by rw [← hE2]; exact Env.put_same
 have hd2:E2.ι s.n=some (w.heap.size,0):=by rw [← hE2,Env.put_ne (by omega)]; exact Env.put_same
 have hlow2:∀ k,k < s.n→E2.ι k=E.ι k:=fun k hk=>by rw [← hE2,Env.put_ne (by omega),Env.put_ne (by omega)]
 have hdom2:Dom E2 (s.n+2):=fun k hk=>by
  have hk:s.n+2 ≤ k:=hk
  rw [← hE2,Env.put_ne (by omega),Env.put_ne (by omega)]; exact r.dom k (by show s.n ≤ k; omega)
 have u12:=u1.trans u2
 have hlb2:vrels E2 lb lb':=vrels_mono u12.le _ _ hlb
 have hinv:(invoke (.fn (.func gf) lb'.toArray) #[.func (.yield (w.heap.size+1)) #[] #[]]).run P W1= .ok (.enter gf (Value.func (.yield (w.heap.size+1)) #[] #[] :: lb').toArray) W1:=by
  have hcf':=run_callFunc (w:=W1) (args:=(Value.func (.yield (w.heap.size+1)) #[] #[] :: lb').toArray) hcal.1
  rw [← hcf']
  simp [invoke]
 refine ⟨w.heap.size+1,[{ target:=.collected w.heap.size,args:=#[] }],W1,{ target:=.fn (.func gf) lb'.toArray,args:=#[.func (.yield (w.heap.size+1)) #[] #[]] },W1,gf,
  (Value.func (.yield (w.heap.size+1)) #[] #[] :: lb').toArray,W1,?_,?_,fun _ _=>trivial,hinv,fun hd=>by simp [fz,Fence.wide] at hd,?_⟩
 · rw [← hW1]; exact run_enterLoop_outer _ _ _ _ _
 · simp only [resolve,hge]
   simp [go_sem]
 · have hcalls:=hcc E2 W1 (Value.func (.yield (w.heap.size+1)) #[] #[] :: lb') ⟨_,_,⟨_,[],[],⟨_,_,hl2,rfl⟩,rfl,rfl,rfl⟩,hlb2,rfl⟩ u2.good hdom2
   have hcalls':CallsIn Fence.wide (0 - 1) P gf (Value.func (.yield (w.heap.size+1)) #[] #[] :: lb').toArray W1 (rangePost (fz none) 0 P (w.heap.size+1) K { a with defers:=[{ target:=.collected w.heap.size,args:=#[] }] ++ a.defers }):=by
    refine callsIn_wide.2 (hcalls.mono ?_)
    rintro en w3 ⟨v,h,n,hRR,E3,u3,hlow3,hdom3,hn3,ho⟩
    obtain ⟨hgood,hQ⟩:=hq v h n hRR
    cases en with
    | panicked _=>exact ho.elim
    | outgrown=>exact ho.elim
    | returned v'=>
      have hl3:E3.ι (s.n+1)=some (w.heap.size+1,0):=by rw [hlow3 _ (by omega)]; exact hl2
      have hd3:E3.ι s.n=some (w.heap.size,0):=by rw [hlow3 _ (by omega)]; exact hd2
      unfold rGood at hgood
      split at hgood
      case h_2=>cases hgood
      rename_i fr pl c1 c2 hdg hlg
      obtain ⟨b,s0,q1,rc,q2,q3,q4,_⟩:=u3.good.rel _ _ hlg
      rw [hl3] at q1; cases q1
      have hend:=run_endLoop (P:=P) q2 (by rw [q3]; simp)
      refine ⟨_,_,hend.trans (congrArg (fun p=>Result.ok p _) q4),?_⟩
      have uk:Upd E3 h w3 E3 (h.set (s.n+1) none) (w3.putObj (w.heap.size+1) (.loop { rc with state:=.exhausted })):=
       Upd.kill u3.good htop ⟨_,hlg,rfl⟩ hl3 (by simp) rfl rfl rfl fun x hx=>World.putObj_heap_other hx
      have uall:=(u12.trans u3).trans uk
      have hsn:s.n ≤ n:=by omega
      exact k .normal _ E3 _ _ hQ (.of uall (fun k hk=>by rw [hlow3 k (by omega)]; exact hlow2 k hk) hn) (by show n0 ≤ n; omega)
       ⟨uall.good,hdom3,frel_mono uall.le r.fr,r.size,⟨_,a.defers,.inr ⟨rfl,s.n,w.heap.size,0,rfl,hd3,rfl⟩,dfrel_mono uall.le _ _ r.dfs,rfl⟩⟩
   exact hcalls'
end Go.Eng
