/- The engine, part TH: what is known at rows that never change, where they may be written; the result names no memory. No conditions: lemmas alone. -/
import Derived.Test.YtmjggdmekboefaaGreatDoorJointSeven
set_option linter.unusedVariables false
set_option linter.unusedSimpArgs false
set_option linter.unusedSectionVars false
namespace Go.Eng
open Go Go.RowKit
def rowH (h:Tr O) (m:Nat):Option (List D):=match h.get m with
 | some o=>rowD o
 | none=>none
theorem thaw_env {E:Env} {h:Tr O} {w:World} {args a2:List V} {A:List Prop} {args':List Value} (g:Good E h w) (e:fzVs (rowH h) args=some (A,a2)) (hA:∀ a ∈ A,a) (ra:vrels E args args'):
  ∃ φ,FzOk φ w∧(∀ b c,E.φ b=some c→φ b=some c)∧vrels ⟨E.ι,E.β,φ⟩ a2 args':=by
 have hFm:∀ m cs,rowH h m=some cs→∃ o,h.get m=some o∧rowD o=some cs:=by
  intro m cs q
  unfold rowH at q
  split at q
  · rename_i o ho; exact ⟨o,ho,q⟩
  · cases q
 have hsub:∀ b c,E.φ b=some c→phiF E (rowH h) w b=some c:=by
  intro b c q
  unfold phiF
  rw [if_neg]; · exact q
  rintro ⟨m,s',h1,h3⟩
  obtain ⟨cs,hcs⟩:=Option.isSome_iff_exists.1 h1
  obtain ⟨o,k1,k2⟩:=hFm m cs hcs
  exact (g.froz b c q).2 m s' ⟨o,k1,rowD_wr k2⟩ h3
 refine ⟨phiF E (rowH h) w,fun b c q=>?_,hsub,fzVs_rel (F:=rowH h) (E:=E) (E':=⟨E.ι,E.β,phiF E (rowH h) w⟩) (fun m cs hcs b s' hb=>?_) (fun _=>rfl) rfl hsub _ _ _ _ e hA ra⟩
 · unfold phiF at q
   split at q
   · split at q
     · rename_i c' el fz hc; cases q; exact ⟨el,fz,hc⟩
     · cases q
   · exact g.fz b c q
 · obtain ⟨o,k1,k2⟩:=hFm m cs hcs
   obtain ⟨b',t,q1,q2⟩:=g.rel m o k1
   rw [hb] at q1; cases q1
   obtain ⟨c,el,fz,vs,p1,p2,p3⟩:=rowD_rel k2 q2
   refine ⟨c,vs,?_,drels_mono hsub _ _ p2,p3⟩
   show phiF E (rowH h) w b=some c
   unfold phiF
   rw [if_pos ⟨m,s',by rw [hcs]; rfl,hb⟩,p1]
def thawD (sp:List D→Option (List Prop × V)):List V→Tr O→Nat→Option (List Prop × V × Tr O × Nat):=fun args h n=>match fzVs (rowH h) args with
 | some (A,a2)=>match dargs a2 with
   | some ds=>match sp ds with
     | some (B,v)=>match v.free with
       | true=>some (A ++ B,v,h,n)
       | false=>none
     | none=>none
   | none=>none
 | none=>none
theorem thawD_ok {P:Program} {f:FuncId} {sp:List D→Option (List Prop × V)} (hlt:Nat.blt f P.funcs.size=true) (hp:∀ ds A v,sp ds=some (A,v)→(∀ a ∈ A,a)→DeepTo P f (ds.map D.toV) v):OneW P f (thawD sp):=by
 refine ⟨Nat.le_of_ble_eq_true hlt,fun args h n A v h2 n2 e hA E w args' ra g hd hc=>?_⟩
 unfold thawD at e
 split at e
 case h_2=>cases e
 rename_i A1 a2 e1
 split at e
 case h_2=>cases e
 rename_i ds e2
 split at e
 case h_2=>cases e
 rename_i B v' e3
 split at e
 case h_2=>cases e
 rename_i hf
 simp only [Option.some.injEq,Prod.mk.injEq] at e
 obtain ⟨rfl,rfl,rfl,rfl⟩:=e
 obtain ⟨φ,hok,hsub,ra2⟩:=thaw_env g e1 (fun a ha=>hA a (by simp [ha])) ra
 have ra3:=dargs_rel e2 ra2
 have ra4:vrels (E0F φ) (ds.map D.toV) args':=deeps_rel (E:=⟨E.ι,E.β,φ⟩) (E':=E0F φ) (fun _ _ q=>q) _ _ (map_deep ds) ra3
 exact (hp ds B v' e3 (fun a ha=>hA a (by simp [ha])) (E0F φ) .nil gN w args' ra4 (good0F g.wg hok) (dom0F (Nat.le_refl _))).mono fun en w' c=>by
  obtain ⟨ho,b⟩:=cpost_below nil_ro c
  exact cpost_of g hd hf ho b
end Go.Eng
