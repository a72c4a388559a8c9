/- The engine, part M: frames; one operation under the kit's own rule for it. No conditions: lemmas alone. -/
import Derived.Test.YtljiongmhoooiaaEngL
namespace Go.Eng
open Go

def frel (E : Env) (fr : Tr V) (a : Act) : Prop := ∀ t v, fr.get t = some v → ∃ v', a.tmps[t]? = some v' ∧ vrel E v v'

theorem frel_mono {E E' : Env} (h : E.le E') {fr : Tr V} {a : Act} (r : frel E fr a) : frel E' fr a := fun t v e => let ⟨v', h1, h2⟩ := r t v e; ⟨v', h1, vrel_mono h v v' h2⟩

theorem put_size (a : Act) (dst : Option Tmp) (v : Value) : (a.put dst v).tmps.size = a.tmps.size := by cases dst <;> simp [Act.put]
theorem put_defers (a : Act) (dst : Option Tmp) (v : Value) : (a.put dst v).defers = a.defers := by cases dst <;> rfl

def dstOk (N : Nat) (dst : Option Tmp) : Prop := ∀ d, dst = some d → d < N

theorem frel_put {E : Env} {fr fr' : Tr V} {a : Act} {dst : Option Tmp} {v : V} {v' : Value} (r : frel E fr a) (e : putD fr dst v = some fr') (hv : vrel E v v') (hd : dstOk a.tmps.size dst) : frel E fr' (a.put dst v') := by
  cases dst with
  | none => simp only [putD, Option.some.injEq] at e; subst e; exact r
  | some d =>
    simp only [putD] at e
    split at e
    · rename_i ht
      simp only [Option.some.injEq] at e; subst e
      intro t x hx
      rw [Tr.get_set _ _ _ ht] at hx
      have hlt := hd d rfl
      by_cases q : t = d
      · subst q; rw [if_pos rfl] at hx; cases hx
        exact ⟨v', by simp [Act.put, hlt], hv⟩
      · rw [if_neg q] at hx
        obtain ⟨y, h1, h2⟩ := r t x hx
        exact ⟨y, by simp [Act.put, Ne.symm q, h1], h2⟩
    · cases e

theorem opdRel_of_frel {E : Env} {fr : Tr V} {a : Act} (r : frel E fr a) (x : Operand) : OpdRel E fr a.eval x := by
  intro v e
  cases x with
  | tmp t => obtain ⟨v', h1, h2⟩ := r t v e; simp only [Act.eval, Array.getD_eq_getD_getElem?, h1]; exact h2
  | const c => exact ofVal_rel e
  | func f => simp only [opd, Option.some.injEq] at e; subst e; exact ⟨[], [], rfl, rfl, rfl⟩
  | global g => simp [opd] at e

theorem wanted_rel {E : Env} {ops : Array Oper} {o : Oper} {fr : Tr V} {a : Act} {b : Bool} (r : ∀ j want q d, o.guard = some (j, want) → ops[j]? = some q → q.dst = some d → ∀ v, fr.get d = some v → ∃ v', a.tmps[d]? = some v' ∧ vrel E v v') (e : wantedV ops o fr = some b) :
    Region.wanted o (yielded ops a.tmps) = b := by
  unfold wantedV at e
  unfold Region.wanted
  cases hg : o.guard with
  | none => simp only [hg, Option.some.injEq] at e ⊢; exact e
  | some p =>
    obtain ⟨j, want⟩ := p
    simp only [hg] at e ⊢
    cases hj : ops[j]? with
    | none => simp [hj] at e
    | some q =>
      simp only [hj] at e
      cases hd : q.dst with
      | none => simp [hd] at e
      | some d =>
        simp only [hd] at e
        cases hf : fr.get d with
        | none => simp [hf] at e
        | some v =>
          obtain ⟨v', h1, h2⟩ := r j want q d hg hj hd v hf
          have hy : yielded ops a.tmps j = (match (some v' : Option Value) with | some (.bool b) => some b | _ => none) := by
            unfold yielded; rw [hj]; simp only [Option.bind_some, hd, h1]; cases v' <;> rfl
          cases v with
          | bool b0 =>
            simp only [hf, Option.some.injEq] at e
            simp only [vrel] at h2; subst h2
            rw [hy, ← e]
            cases b0 <;> cases want <;> rfl
          | tup vs =>
            cases vs with
            | nil =>
              simp only [hf, Option.some.injEq] at e
              obtain ⟨l, hl, rfl⟩ := h2
              rw [hy, ← e]; rfl
            | cons _ _ => simp [hf] at e
          | _ => simp [hf] at e

def Dom (E : Env) (n : Nat) : Prop := ∀ m, n ≤ m → E.ι m = none

def outrel (E : Env) : Out → Ending → Prop
  | .ret v, .returned v' => vrel E v v'
  | .pan v, .panicked chain => ∃ v', vrel E v v' ∧ chain = [{ v := v', recovered := false }]
  | _, _ => False

/-- the calls that the evaluator takes are the model's -/
def CallOk (P : Program) (cf : CallF) : Prop := ∀ f args h n out h' n', cf f args h n = some (out, h', n') → ∀ E w args', vrels E args args' → Good E h w → Dom E n → callee P f = true →
  Calls P f args'.toArray w fun e w' => ∃ E', Upd E h w E' h' w' ∧ (∀ m, m < n → E'.ι m = E.ι m) ∧ Dom E' n' ∧ n ≤ n' ∧ outrel E' out e

section
variable {P : Program} {E : Env} {h h' : Tr O} {n n' : Nat} {w : World} {fr : Tr V} {a : Act} {o : Oper} {K : Act → World → Prop} {Q : Exit → Act → World → Prop}

theorem wp_val {v : V} (g : Good E h w) (hn : E.ι n = none) (hr : ∀ x ∈ o.op.operands, OpdRel E fr a.eval x) (e : stepOp P o fr h n = some (.val v h' n'))
    (hk : ∀ E' w' v', vrel E' v v' → Upd E h w E' h' w' → (∀ m, m ≠ n → E'.ι m = E.ι m) → ((n' = n ∧ E' = E) ∨ n' = n + 1) → K (a.put o.dst v') w') : o.wp P a w K Q := by
  obtain ⟨E', w', v', hrun, h1, h2, h3, h4⟩ := step_sound g hn hr e
  unfold Oper.wp
  rcases hrun with hrun | ⟨hrun, rfl⟩
  · rw [hrun, Oper.upon_value]; exact hk E' w' v' h1 h2 h3 h4
  · rw [hrun, Oper.upon_skip]; exact hk E' w' undef h1 h2 h3 h4

theorem wp_call {cf : CallF} {f : FuncId} {args : List V} {out : Out} (hcf : CallOk P cf) (g : Good E h w) (hn : Dom E n) (hr : ∀ x ∈ o.op.operands, OpdRel E fr a.eval x)
    (e : stepOp P o fr h n = some (.call f args)) (ec : cf f args h n = some (out, h', n'))
    (hk : ∀ E' w', Upd E h w E' h' w' → (∀ m, m < n → E'.ι m = E.ι m) → Dom E' n' → n ≤ n' →
      match out with
      | .ret v => ∀ v', vrel E' v v' → K (a.put o.dst v') w'
      | .pan v => ∀ v', vrel E' v v' → Q (.panic [{ v := v', recovered := false }]) a w') : o.wp P a w K Q := by
  obtain ⟨args', hrun, h1, h2⟩ := step_sound g (hn n (Nat.le_refl _)) hr e
  unfold Oper.wp
  rw [hrun, Oper.upon_enter]
  refine (hcf f args h n out h' n' ec E w args' h1 g hn h2).mono fun en w' ⟨E', u1, u2, u3, u4, u5⟩ => ?_
  have := hk E' w' u1 u2 u3 u4
  cases out with
  | ret v => cases en with
    | returned v' => exact this v' u5
    | panicked _ => exact u5.elim
    | outgrown => exact u5.elim
  | pan v => cases en with
    | returned v' => exact u5.elim
    | panicked chain => obtain ⟨v', q1, rfl⟩ := u5; exact this v' q1
    | outgrown => exact u5.elim

theorem wp_panic {v : V} (g : Good E h w) (hn : E.ι n = none) (hr : ∀ x ∈ o.op.operands, OpdRel E fr a.eval x) (e : stepOp P o fr h n = some (.panic v))
    (hk : ∀ v', vrel E v v' → Q (.panic [{ v := v', recovered := false }]) a w) : o.wp P a w K Q := by
  obtain ⟨v', hrun, h1⟩ := step_sound g hn hr e
  unfold Oper.wp
  rw [hrun, Oper.upon_panic]; exact hk v' h1

theorem wp_dfr {f : FuncId} {c args : List V} (g : Good E h w) (hn : E.ι n = none) (hr : ∀ x ∈ o.op.operands, OpdRel E fr a.eval x) (e : stepOp P o fr h n = some (.dfr f c args))
    (hk : ∀ c' args', vrels E c c' → vrels E args args' → K ({ a with defers := { target := .fn (.func f) c'.toArray, args := args'.toArray } :: a.defers }.put o.dst undef) w) : o.wp P a w K Q := by
  obtain ⟨c', args', hrun, h1, h2⟩ := step_sound g hn hr e
  unfold Oper.wp
  rw [hrun, Oper.upon_defer]; exact hk c' args' h1 h2
end
end Go.Eng
