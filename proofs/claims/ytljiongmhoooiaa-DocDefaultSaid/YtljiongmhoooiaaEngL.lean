/- The engine, part L: every operation that the evaluator takes is the model's. No conditions: lemmas alone. -/
import Derived.Test.YtljiongmhoooiaaEngK
namespace Go.Eng
open Go

section
variable {P : Program} {E : Env} {h : Tr O} {n : Nat} {w : World} {fr : Tr V} {ρ : Operand → Value}

def OpdRel (E : Env) (fr : Tr V) (ρ : Operand → Value) (x : Operand) : Prop := ∀ v, opd fr x = some v → vrel E v (ρ x)

theorem opds_rel : ∀ (xs : List Operand) (vs : List V), (∀ x ∈ xs, OpdRel E fr ρ x) → opds fr xs = some vs → vrels E vs (xs.map ρ)
  | [], vs, _, e => by simp only [opds, Option.some.injEq] at e; subst e; rfl
  | x :: xs, vs, hr, e => by
    simp only [opds] at e
    cases h1 : opd fr x with
    | none => simp [h1] at e
    | some v => cases h2 : opds fr xs with
      | none => simp [h1, h2] at e
      | some r =>
        simp only [h1, h2, Option.some.injEq] at e; subst e
        exact ⟨ρ x, xs.map ρ, hr x (by simp) v h1, opds_rel xs r (fun y hy => hr y (by simp [hy])) h2, rfl⟩

theorem opdParts_rel : ∀ (xs : List (Nat × Operand)) (vs : List (Nat × V)), (∀ x ∈ xs.map (·.2), OpdRel E fr ρ x) → opdParts fr xs = some vs → prels E vs (xs.map fun x => (x.1, ρ x.2))
  | [], vs, _, e => by simp only [opdParts, Option.some.injEq] at e; subst e; rfl
  | (i, x) :: xs, vs, hr, e => by
    simp only [opdParts] at e
    cases h1 : opd fr x with
    | none => simp [h1] at e
    | some v => cases h2 : opdParts fr xs with
      | none => simp [h1, h2] at e
      | some r =>
        simp only [h1, h2, Option.some.injEq] at e; subst e
        exact ⟨(i, ρ x), _, rfl, hr x (by simp) v h1, opdParts_rel xs r (fun y hy => hr y (by simp at hy ⊢; exact .inr hy)) h2, rfl⟩

theorem opdOpt_rel {x : Option Operand} {v : Option V} (hr : ∀ y, x = some y → OpdRel E fr ρ y) (e : opdOpt fr x = some v) : optrel E v (x.map ρ) := by
  cases x with
  | none => simp only [opdOpt, Option.some.injEq] at e; subst e; rfl
  | some x =>
    simp only [opdOpt] at e
    cases h1 : opd fr x with
    | none => simp [h1] at e
    | some y => simp only [h1, Option.some.injEq] at e; subst e; exact ⟨ρ x, hr x rfl y h1, rfl⟩

theorem okV_eq {v : Option V} {r : R} (e : okV h n v = some r) : ∃ x, v = some x ∧ r = .val x h n := by
  cases v with
  | none => simp [okV] at e
  | some x => simp only [okV, Option.some.injEq] at e; exact ⟨x, rfl, e.symm⟩

theorem run_callFunc {f : FuncId} {args : Array Value} (hc : callee P f = true) : (callFunc f args).run P w = .ok (.enter f args) w := by
  unfold callee at hc
  split at hc
  · rename_i fn hf
    simp only [Bool.and_eq_true, bne_iff_ne, ne_eq] at hc
    obtain ⟨h1, h2⟩ := hc
    have h3 : fn.body.isNone = false := by cases hb : fn.body <;> simp_all
    have h4 : (fn.name == "runtime.NumGoroutine") = false := by simpa using h2
    simp only [callFunc, Sem.run_bind, run_program, Result.andThen_ok, hf, h4, h3, Bool.false_eq_true, if_false]
    rfl
  · cases hc

theorem call_sound {c : Call} {ty : TypeId} {r : R} (g : Good E h w) (hn : E.ι n = none) (hr : ∀ x ∈ c.operands, OpdRel E fr ρ x) (e : callV P fr c h n = some r) :
    OpOk P E h n w (do let d ← resolve ρ c ty; invoke d.target d.args) r := by
  unfold callV at e
  split at e
  · rename_i args ha
    have hargs := opds_rel (E := E) (ρ := ρ) c.args.toList args (fun x hx => hr x (by simp [Call.operands]; exact .inr (by simpa using hx))) ha
    have hmap : c.args.map ρ = (c.args.toList.map ρ).toArray := by apply Array.ext'; simp
    split at e
    · rename_i b hc
      unfold builtinV at e
      split at e
      · split at e
        · rename_i h2
          have := op_append (P := P) (ty := ty) g hn hargs e h2
          simpa [resolve, hc, invoke, builtin, hmap] using this
        · cases e
      · obtain ⟨v, h1, rfl⟩ := okV_eq e
        have := op_len (P := P) (n := n) (ty := ty) g hargs h1
        simpa [resolve, hc, invoke, builtin, hmap] using this
      · split at e
        · obtain ⟨v, h1, rfl⟩ := okV_eq e
          have := op_max (P := P) (n := n) (argTypes := c.argTypes) (ty := ty) g hargs h1
          simpa [resolve, hc, invoke, builtin, hmap] using this
        · cases e
      · split at e
        · obtain ⟨v, h1, rfl⟩ := okV_eq e
          have := op_min (P := P) (n := n) (argTypes := c.argTypes) (ty := ty) g hargs h1
          simpa [resolve, hc, invoke, builtin, hmap] using this
        · cases e
      · split at e
        · rename_i t v
          simp only [Option.some.injEq] at e; subst e
          obtain ⟨x', _, ⟨y, ry, rfl⟩, hnil, hl⟩ := hargs
          simp only [vrels] at hnil; subst hnil
          have h0 : (c.args.map ρ).getD 0 .nilIface = .iface t y := by rw [hmap, hl]; rfl
          refine ⟨.iface t y, ?_, y, ry, rfl⟩
          simp only [resolve, hc, pure_bind, invoke, builtin]
          rw [h0]
          rfl
        · cases e
      · simp only [Option.some.injEq] at e; subst e
        show _ = _
        simp [resolve, hc, invoke, builtin]
      · cases e
    · cases e
    · rename_i f hc
      split at e
      · rename_i gf first captured hf
        split at e
        · rename_i hcal
          simp only [Option.some.injEq] at e; subst e
          obtain ⟨fi, ca, r1, r2, hfe⟩ := hr f (by simp [Call.operands, hc]) _ hf
          refine ⟨fi ++ c.args.toList.map ρ ++ ca, ?_, vrels_append (vrels_append r1 hargs) r2, hcal⟩
          have hcf := run_callFunc (w := w) (args := (fi ++ c.args.toList.map ρ ++ ca).toArray) hcal
          simp only [resolve, hc, hfe, Deferred.ofValue, pure_bind, invoke]
          rw [← hcf]
          congr 2
          apply Array.ext'; simp
        · cases e
      · cases e
  · cases e

theorem defer_sound {c : Call} {ty : TypeId} {r : R} (hr : ∀ x ∈ c.operands, OpdRel E fr ρ x) (e : deferV fr c = some r) :
    OpOk P E h n w (do pure (.defer (← resolve ρ c ty))) r := by
  unfold deferV at e
  split at e
  · rename_i args ha
    have hargs := opds_rel (E := E) (ρ := ρ) c.args.toList args (fun x hx => hr x (by simp [Call.operands]; exact .inr (by simpa using hx))) ha
    split at e
    · rename_i f hc
      split at e
      · rename_i gf first captured hf
        simp only [Option.some.injEq] at e; subst e
        obtain ⟨fi, ca, r1, r2, hfe⟩ := hr f (by simp [Call.operands, hc]) _ hf
        refine ⟨ca, fi ++ c.args.toList.map ρ, ?_, r2, vrels_append r1 hargs⟩
        simp only [resolve, hc, hfe, Deferred.ofValue, pure_bind]
        show Result.ok _ w = _
        congr 3
        apply Array.ext'; simp
      · cases e
    · cases e
  · cases e

set_option maxHeartbeats 1000000 in
theorem step_sound {o : Oper} {r : R} (g : Good E h w) (hn : E.ι n = none) (hr : ∀ x ∈ o.op.operands, OpdRel E fr ρ x) (e : stepOp P o fr h n = some r) : OpOk P E h n w (execOp ρ o) r := by
  obtain ⟨dst, op, ty, pos, after, guard⟩ := o
  simp only at hr
  cases op <;> simp only [stepOp] at e <;> simp only [Op.operands] at hr <;> simp only [execOp]
  case move x =>
    obtain ⟨v, h1, rfl⟩ := okV_eq e
    exact ok_same g rfl (hr x (by simp) v h1)
  case assign x =>
    obtain ⟨v, h1, rfl⟩ := okV_eq e
    exact ok_same g rfl (hr x (by simp) v h1)
  case pick c x y =>
    split at e
    · rename_i hc
      obtain ⟨v, h1, rfl⟩ := okV_eq e
      have rc := hr c (by simp) _ hc
      simp only [vrel] at rc
      exact ok_same g (by simp [rc, asBool]) (hr x (by simp) v h1)
    · rename_i hc
      obtain ⟨v, h1, rfl⟩ := okV_eq e
      have rc := hr c (by simp) _ hc
      simp only [vrel] at rc
      exact ok_same g (by simp [rc, asBool]) (hr y (by simp) v h1)
    · cases e
  case alloc t =>
    split at e
    · rename_i z hz
      split at e
      · rename_i h' n' ho
        simp only [Option.some.injEq] at e; subst e
        exact op_alloc g hn hz ho
      · cases e
    · cases e
  case box t x =>
    split at e
    · rename_i v hv
      split at e
      · rename_i h' n' ho
        simp only [Option.some.injEq] at e; subst e
        exact op_box g hn (hr x (by simp) v hv) ho
      · cases e
    · cases e
  case build t parts =>
    split at e
    · rename_i ps hps
      obtain ⟨v, h1, rfl⟩ := okV_eq e
      have hp := opdParts_rel (E := E) (ρ := ρ) parts.toList ps (fun x hx => hr x (by simpa using hx)) hps
      have hq : prels E ps (parts.map fun (i, x) => (i, ρ x)).toList := by simpa using hp
      obtain ⟨v', q1, q2⟩ := build_rel (P := P) (w := w) hq h1
      refine ok_same g (v' := v') ?_ q2
      simp only [Sem.run_bind, q1, Result.andThen_ok, Sem.run_pure]
    · cases e
  case buildSlice t len parts =>
    split at e
    · rename_i ps hps
      have hp := opdParts_rel (E := E) (ρ := ρ) parts.toList ps (fun x hx => hr x (by simpa using hx)) hps
      have hq : prels E ps (parts.map fun (i, x) => (i, ρ x)).toList := by simpa using hp
      have := op_buildSlice (P := P) (w := w) (t := t) (len := len) g hn hq e
      exact this
    · cases e
  case load t x =>
    split at e
    · rename_i v hv
      obtain ⟨u, h1, rfl⟩ := okV_eq e
      exact op_load g (hr x (by simp) v hv) h1
    · cases e
  case store t x y =>
    split at e
    · rename_i a v ha hv
      split at e
      · rename_i h' hs
        simp only [Option.some.injEq] at e; subst e
        exact op_store g (hr x (by simp) a ha) (hr y (by simp) v hv) hs
      · cases e
    · cases e
  case nilCheck x =>
    split at e
    · rename_i p hv
      simp only [Option.some.injEq] at e; subst e
      have hx := hr x (by simp) _ hv
      obtain ⟨b, s, q1, q2⟩ := hx
      rw [q2]
      exact ok_same g (v' := .pointer (some ⟨b, s + p.2, none⟩)) rfl ⟨b, s, q1, rfl⟩
    · rename_i f a c hv
      simp only [Option.some.injEq] at e; subst e
      have hx := hr x (by simp) _ hv
      obtain ⟨a', c', q1, q2, q3⟩ := hx
      rw [q3]
      exact ok_same g (v' := .func (.func f) a'.toArray c'.toArray) rfl ⟨a', c', q1, q2, rfl⟩
    · rename_i t v hv
      simp only [Option.some.injEq] at e; subst e
      have hx := hr x (by simp) _ hv
      obtain ⟨y, q1, q2⟩ := hx
      rw [q2]
      exact ok_same g (v' := .iface t y) rfl ⟨y, q1, rfl⟩
    · cases e
  case binOp op t x y yt =>
    split at e
    · rename_i a b ha hb
      obtain ⟨u, h1, rfl⟩ := okV_eq e
      exact op_binOp g (hr x (by simp) a ha) (hr y (by simp) b hb) h1
    · cases e
  case unOp op t x =>
    split at e
    · rename_i v hv
      obtain ⟨u, h1, rfl⟩ := okV_eq e
      exact op_unOp g (hr x (by simp) v hv) h1
    · cases e
  case convert s d x =>
    split at e
    · rename_i v hv
      exact op_convert g hn (hr x (by simp) v hv) e
    · cases e
  case makeInterface t x =>
    split at e
    · rename_i v d hv hu
      split at e
      · cases e
      · rename_i hd
        simp only [Option.some.injEq] at e; subst e
        have hx := hr x (by simp) v hv
        refine ok_same g (v' := .iface t (ρ x)) ?_ ⟨ρ x, hx, rfl⟩
        simp only [Instr.makeInterface, Sem.run_bind, run_und hu, Result.andThen_ok]
        cases d <;> first | (exact absurd rfl (hd _)) | rfl
    · cases e
  case makeFunc f first captured =>
    split at e
    · rename_i a c ha hc
      simp only [Option.some.injEq] at e; subst e
      have r1 := opds_rel (E := E) (ρ := ρ) first.toList a (fun x hx => hr x (by simp at hx ⊢; exact .inl hx)) ha
      have r2 := opds_rel (E := E) (ρ := ρ) captured.toList c (fun x hx => hr x (by simp at hx ⊢; exact .inr hx)) hc
      refine ok_same g (v' := .func f (first.map ρ) (captured.map ρ)) rfl ⟨first.toList.map ρ, captured.toList.map ρ, r1, r2, ?_⟩
      congr 1 <;> (apply Array.ext'; simp)
    · cases e
  case makeMap t res =>
    cases res with
    | some _ => simp at e
    | none =>
      simp only at e
      split at e
      · rename_i h' n' ho
        simp only [Option.some.injEq] at e; subst e
        exact op_makeMap g hn ho
      · cases e
  case makeSlice t l c =>
    split at e
    · rename_i lv cv hl hc
      exact op_makeSlice g hn (hr l (by simp) lv hl) (hr c (by simp) cv hc) e
    · cases e
  case slice t x lo hi mx =>
    split at e
    · rename_i v lov hiv mxv hv hlo hhi hmx
      obtain ⟨u, h1, rfl⟩ := okV_eq e
      refine op_slice g (hr x (by simp) v hv) (opdOpt_rel (fun y hy => hr y ?_) hlo) (opdOpt_rel (fun y hy => hr y ?_) hhi) (opdOpt_rel (fun y hy => hr y ?_) hmx) h1
      · subst hy; simp
      · subst hy; simp
      · subst hy; simp
    · cases e
  case fieldAddr t x f =>
    split at e
    · rename_i v hv
      obtain ⟨u, h1, rfl⟩ := okV_eq e
      exact op_fieldAddr g (hr x (by simp) v hv) h1
    · cases e
  case field t x f =>
    split at e
    · rename_i v hv
      obtain ⟨u, h1, rfl⟩ := okV_eq e
      exact op_field g (hr x (by simp) v hv) h1
    · cases e
  case indexAddr t x i =>
    split at e
    · rename_i v iv hv hi
      obtain ⟨u, h1, rfl⟩ := okV_eq e
      exact op_indexAddr g (hr x (by simp) v hv) (hr i (by simp) iv hi) h1
    · cases e
  case index t x i =>
    split at e
    · rename_i v iv hv hi
      obtain ⟨u, h1, rfl⟩ := okV_eq e
      exact op_index g (hr x (by simp) v hv) (hr i (by simp) iv hi) h1
    · cases e
  case lookup t x k ok =>
    split at e
    · rename_i v kv hv hk
      obtain ⟨u, h1, rfl⟩ := okV_eq e
      exact op_lookup g (hr x (by simp) v hv) (hr k (by simp) kv hk) h1
    · cases e
  case mapUpdate t m k v =>
    split at e
    · rename_i mv kv vv hm hk hv
      exact op_mapUpdate g (hr m (by simp) mv hm) (hr k (by simp) kv hk) (hr v (by simp) vv hv) e
    · cases e
  case insert t m k v =>
    split at e
    · rename_i mv kv vv hm hk hv
      exact op_mapUpdate g (hr m (by simp) mv hm) (hr k (by simp) kv hk) (hr v (by simp) vv hv) e
    · cases e
  case mapEntry t m k =>
    split at e
    · rename_i mv kv hm hk
      exact op_mapEntry g (hr m (by simp) mv hm) (hr k (by simp) kv hk) e
    · cases e
  case entryStore t m s v =>
    split at e
    · rename_i mv sv vv hm hs hv
      exact op_entryStore g (hr m (by simp) mv hm) (hr s (by simp) sv hs) (hr v (by simp) vv hv) e
    · cases e
  case range t x =>
    split at e
    · rename_i v hv
      exact op_range g hn (hr x (by simp) v hv) e
    · cases e
  case next it b =>
    split at e
    · rename_i v hv
      exact op_next g (hr it (by simp) v hv) e
    · cases e
  case typeAssert x xt t ok =>
    split at e
    · rename_i v hv
      obtain ⟨u, h1, rfl⟩ := okV_eq e
      exact op_typeAssert g (hr x (by simp) v hv) h1
    · cases e
  case extract x i =>
    split at e
    · rename_i vs hv
      obtain ⟨u, h1, rfl⟩ := okV_eq e
      exact op_extract g (hr x (by simp) _ hv) h1
    · cases e
  case panic x =>
    split at e
    · rename_i t v hv
      simp only [Option.some.injEq] at e; subst e
      obtain ⟨y, q1, q2⟩ := hr x (by simp) _ hv
      refine ⟨.iface t y, ?_, y, q1, rfl⟩
      rw [q2]; simp [Instr.panic]
    · cases e
  case call c => exact call_sound g hn hr e
  case defer c => exact defer_sound hr e
  all_goals (cases e)
end
end Go.Eng
