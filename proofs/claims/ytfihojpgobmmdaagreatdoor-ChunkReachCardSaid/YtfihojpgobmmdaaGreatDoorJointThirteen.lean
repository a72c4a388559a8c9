/- The engine, part MH: a call whose arguments are frozen first. No conditions: lemmas alone. -/
import Derived.Test.YtfihojpgobmmdaaGreatDoorJointEleven
set_option linter.unusedVariables false
set_option linter.unusedSimpArgs false
set_option linter.unusedSectionVars false
namespace Go.Eng
open Go Go.RowKit
theorem TG_callF {P:Program} {cf:CallF} (hcf:CallOk P cf) {n0 N g:Nat} {pre post:List Oper} {o:Oper} {s s0 s1:St} {ms:List Nat} {A:List Prop} {Q:Exit→St→Prop} {f:FuncId} {args:List V} {R:V→Tr O→Nat→Prop} (hok:codeOk N (.region g (pre ++ o :: post).toArray false)=true)
  (h1:seqOps P cf (pre ++ o :: post).toArray pre s=some (.normal,s0)) (hfz:fzS ms s0=some (A,s1)) (hA:∀ a ∈ A,a) (hg:o.guard=none) (ho:stepOp P o s1.fr s1.h s1.n=some (.call f args)) (hcal:(callee P f && Nat.blt f P.funcs.size)=true) (hc:CallsOne P f args s1.h s1.n R)
  (hq:∀ v h n,R v h n→∃ fr s2,putD s1.fr o.dst v=some fr∧seqOps P cf (pre ++ o :: post).toArray post { s1 with fr:=fr,h:=h,n:=n }=some (.normal,s2)∧Q .normal s2):TG P n0 N (.region g (pre ++ o :: post).toArray false) s Q:=by
 intro E a w K r hn k
 simp only [codeOk,Bool.and_eq_true] at hok
 simp only [Bool.and_eq_true] at hcal
 have hlt:f < P.funcs.size:=Nat.le_of_ble_eq_true hcal.2
 have hdst:∀ x ∈ pre ++ o :: post,dstOk N x.dst:=by
  intro x hx d hd
  have:=List.all_eq_true.1 hok.1 x (by simpa using hx)
  rw [hd] at this
  exact of_decide_eq_true this
 refine (wpIn_wide (n:=0)).1 (wpIn_region_list (F:=fz none) ?_)
 show wpListIn (fz none) 0 P _ _ (pre ++ o :: post) a w
 refine wpl_append pre ?_
 refine seq_sound (rnd:=none) hcf pre s .normal s0 (.inl rfl) (fun x hx=>hdst x (by simp [hx])) h1 E a w _ r ?_
 intro E0 a1 w1 x1 u0 hlow0 hn00 r0 hx1
 cases x1 <;> first | exact hx1.elim | skip
 obtain ⟨E1,r1,uf,hnf1,_⟩:=fzS_sound (n0:=n0) hfz hA r0 (Nat.le_trans hn hn00)
 have U1:=(UpdL.of u0 hlow0 hn).trans uf
 show wpListIn (fz none) 0 P _ _ (o :: post) a1 w1
 refine wpListIn_plain hg fun K' hK'=>?_
 have hopd:∀ y ∈ o.op.operands,OpdRel E1 s1.fr a1.eval y:=fun y _=>opdRel_of_frel r1.good.glob r1.fr y
 obtain ⟨args',ra,hrun⟩:=step_sound r1.good (r1.dom _ (Nat.le_refl _)) hopd ho
 refine ⟨fun _ _=>trivial,?_⟩
 rw [semAt_plain (not_defer ho fun _ _ _=>by simp)]
 rcases hrun with ⟨hrun,h2⟩ | ⟨m,l,sx,h2,h3,hrun⟩
 · rw [hrun,Oper.uponIn_enter]
   refine ⟨fun hd=>by simp [fz,Fence.wide] at hd,?_⟩
   refine callsIn_wide.2 ((hc E1 w1 args' ra r1.good r1.dom).mono ?_)
   rintro en w2 ⟨v,h',n',hR,E2,u2,hlow2,hdom2,hn2,hout⟩
   obtain ⟨fr,s2,p1,p2,p3⟩:=hq v h' n' hR
   cases en with
   | panicked _=>exact hout.elim
   | outgrown=>exact hout.elim
   | returned v'=>
     have hout:vrel E2 v v':=hout
     refine hK' _ _ ?_
     have r2:SRel E2 N { s1 with fr:=fr,h:=h',n:=n' } (a1.put o.dst v') w2:=
      ⟨u2.good,hdom2,frel_put (frel_mono u2.le r1.fr) p1 hout (by rw [r1.size]; exact hdst o (by simp)),by rw [put_size]; exact r1.size,by rw [put_defers]; exact dfrel_mono u2.le _ _ r1.dfs⟩
     refine seq_sound (rnd:=none) hcf post _ .normal s2 (.inl rfl) (fun x hx=>hdst x (by simp [hx])) p2 E2 _ w2 _ r2 ?_
     intro E3 a3 w3 x3 u3 hlow3 hn3 r3 hx3
     cases x3 <;> first | exact hx3.elim | skip
     have uu:=(U1.trans (UpdL.of u2 hlow2 hnf1)).trans (UpdL.of u3 hlow3 (Nat.le_trans hnf1 hn2))
     have hnf:n0 ≤ s2.n:=Nat.le_trans (Nat.le_trans hnf1 hn2) hn3
     exact k .normal s2 E3 a3 w3 p3 uu hnf r3
 · exact absurd hlt (by rw [h2]; exact Nat.not_lt.2 (Nat.le_add_right _ _))
end Go.Eng
