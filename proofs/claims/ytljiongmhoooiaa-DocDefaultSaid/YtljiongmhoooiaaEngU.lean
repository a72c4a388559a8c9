/- The engine, part U: code, deferred calls, calls: what the evaluator comes to the model comes to. No conditions: lemmas alone. -/
import Derived.Test.YtljiongmhoooiaaEngT
import Derived.Recover
import Derived.LoopN
namespace Go.Eng
open Go

def codeOk (N : Nat) : Code → Bool
  | .region _ ops draw => ops.toList.all (fun o => match o.dst with | some d => decide (d < N) | none => true) && (if draw then regOk ops N else true)
  | .seq a b => codeOk N a && codeOk N b
  | .cond _ a b => codeOk N a && codeOk N b
  | .block _ c => codeOk N c
  | .loop c => codeOk N c
  | .scope c => codeOk N c
  | .rangeFunc _ _ a b => codeOk N a && codeOk N b
  | _ => true

def drel (E : Env) : List (FuncId × List V × List V) → List Deferred → Prop
  | [], l => l = []
  | x :: xs, l => ∃ c' args' ys, vrels E x.2.1 c' ∧ vrels E x.2.2 args' ∧ drel E xs ys ∧ l = { target := .fn (.func x.1) c'.toArray, args := args'.toArray } :: ys

theorem drel_mono {E E' : Env} (h : E.le E') : ∀ (xs : List (FuncId × List V × List V)) (ys : List Deferred), drel E xs ys → drel E' xs ys
  | [], _, r => r
  | _ :: xs, _, ⟨c', a', ys, r1, r2, r3, q⟩ => ⟨c', a', ys, vrels_mono h _ _ r1, vrels_mono h _ _ r2, drel_mono h xs ys r3, q⟩

structure SRel (E : Env) (N : Nat) (s : St) (a : Act) (w : World) : Prop where
  good : Good E s.h w
  dom : Dom E s.n
  fr : frel E s.fr a
  size : a.tmps.size = N
  dfs : drel E s.dfs a.defers

/-- what is asked behind a piece of code -/
def Post (E : Env) (N : Nat) (s : St) (w : World) (x : X) (s' : St) (Q : Exit → Act → World → Prop) : Prop :=
  ∀ E' a' w' x', Upd E s.h w E' s'.h w' → (∀ k, k < s.n → E'.ι k = E.ι k) → s.n ≤ s'.n → SRel E' N s' a' w' → xrel E' x x' → Q x' a' w'

theorem Post.after {E E1 : Env} {N : Nat} {s s1 s' : St} {w w1 : World} {x : X} {Q : Exit → Act → World → Prop} (p : Post E N s w x s' Q) (u : Upd E s.h w E1 s1.h w1) (hlow : ∀ k, k < s.n → E1.ι k = E.ι k) (hn : s.n ≤ s1.n) : Post E1 N s1 w1 x s' Q :=
  fun E' a' w' x' u' hlow' hn' r rx => p E' a' w' x' (u.trans u') (fun k hk => by rw [hlow' k (by omega)]; exact hlow k hk) (by omega) r rx

section
variable {P : Program} {cf : CallF} {F N : Nat}

theorem seq_sound (hcf : CallOk P cf) {ops : Array Oper} : ∀ (l : List Oper) (s : St) (x : X) (s' : St), (∀ o ∈ l, dstOk N o.dst) → seqOps P cf ops l s = some (x, s') →
    ∀ (E : Env) (a : Act) (w : World) (Q : Exit → Act → World → Prop), SRel E N s a w → Post E N s w x s' Q → wpList P ops Q l a w
  | [], s, x, s', _, e, E, a, w, Q, r, hp => by
    simp only [seqOps, Option.some.injEq, Prod.mk.injEq] at e; obtain ⟨rfl, rfl⟩ := e
    exact hp E a w .normal (Upd.refl r.good) (fun _ _ => rfl) (Nat.le_refl _) r trivial
  | o :: rest, s, x, s', hdst, e, E, a, w, Q, r, hp => by
    have ho := hdst o (by simp)
    have hrest : ∀ o ∈ rest, dstOk N o.dst := fun o h => hdst o (by simp [h])
    have hd' : dstOk a.tmps.size o.dst := by rw [r.size]; exact ho
    simp only [seqOps] at e
    unfold wpList
    have hwant : ∀ b, wantedV ops o s.fr = some b → Region.wanted o (yielded ops a.tmps) = b := fun b hb => wanted_rel (E := E) (fun _ _ _ d _ _ _ v hv => r.fr d v hv) hb
    have hopd : ∀ y ∈ o.op.operands, OpdRel E s.fr a.eval y := fun y _ => opdRel_of_frel r.fr y
    split at e
    · rename_i hw
      rw [if_neg (by rw [hwant _ hw]; simp)]
      split at e
      · rename_i fr hput
        refine seq_sound hcf rest _ x s' hrest e E _ w Q ⟨r.good, r.dom, frel_put r.fr hput ⟨[], rfl, rfl⟩ hd', by rw [put_size]; exact r.size, by rw [put_defers]; exact r.dfs⟩ ?_
        exact hp.after (Upd.refl r.good) (fun _ _ => rfl) (Nat.le_refl _)
      · cases e
    · rename_i hw
      rw [if_pos (hwant _ hw)]
      refine .inl ?_
      split at e
      · rename_i v h n hs
        split at e
        · rename_i fr hput
          refine wp_val r.good (r.dom _ (Nat.le_refl _)) hopd hs fun E' w' v' q1 q2 q3 q4 => ?_
          have hn : s.n ≤ n := by rcases q4 with ⟨rfl, _⟩ | rfl <;> omega
          have hdom : Dom E' n := by
            rcases q4 with ⟨rfl, rfl⟩ | rfl
            · exact r.dom
            · intro k hk; rw [q3 k (by omega)]; exact r.dom k (by omega)
          refine seq_sound hcf rest _ x s' hrest e E' _ w' Q ⟨q2.good, hdom, frel_put (frel_mono q2.le r.fr) hput q1 hd', by rw [put_size]; exact r.size, by rw [put_defers]; exact drel_mono q2.le _ _ r.dfs⟩ ?_
          exact hp.after q2 (fun k hk => q3 k (by omega)) hn
        · cases e
      · rename_i g args hs
        split at e
        · rename_i v h n hc
          split at e
          · rename_i fr hput
            refine wp_call hcf r.good r.dom hopd hs hc fun E' w' q2 q3 q4 q5 => ?_
            intro v' q1
            refine seq_sound hcf rest _ x s' hrest e E' _ w' Q ⟨q2.good, q4, frel_put (frel_mono q2.le r.fr) hput q1 hd', by rw [put_size]; exact r.size, by rw [put_defers]; exact drel_mono q2.le _ _ r.dfs⟩ ?_
            exact hp.after q2 q3 q5
          · cases e
        · rename_i v h n hc
          simp only [Option.some.injEq, Prod.mk.injEq] at e; obtain ⟨rfl, rfl⟩ := e
          refine wp_call hcf r.good r.dom hopd hs hc fun E' w' q2 q3 q4 q5 => ?_
          intro v' q1
          exact hp E' a w' _ q2 q3 q5 ⟨q2.good, q4, frel_mono q2.le r.fr, r.size, drel_mono q2.le _ _ r.dfs⟩ ⟨v', q1, rfl⟩
        · cases e
      · rename_i g c args hs
        split at e
        · rename_i fr hput
          refine wp_dfr r.good (r.dom _ (Nat.le_refl _)) hopd hs fun c' args' q1 q2 => ?_
          refine seq_sound hcf rest _ x s' hrest e E _ w Q ⟨r.good, r.dom, frel_put (a := { a with defers := { target := .fn (.func g) c'.toArray, args := args'.toArray } :: a.defers }) r.fr hput ⟨[], rfl, rfl⟩ hd', by rw [put_size]; exact r.size, by rw [put_defers]; exact ⟨c', args', a.defers, q1, q2, r.dfs, rfl⟩⟩ ?_
          exact hp.after (Upd.refl r.good) (fun _ _ => rfl) (Nat.le_refl _)
        · cases e
      · rename_i v hs
        simp only [Option.some.injEq, Prod.mk.injEq] at e; obtain ⟨rfl, rfl⟩ := e
        refine wp_panic r.good (r.dom _ (Nat.le_refl _)) hopd hs fun v' q1 => ?_
        exact hp E a w _ (Upd.refl r.good) (fun _ _ => rfl) (Nat.le_refl _) r ⟨v', q1, rfl⟩
      · cases e
      · cases e
    · cases e

theorem cond_rel {E : Env} {fr : Tr V} {a : Act} {c : Operand} {b : Bool} (r : frel E fr a) (e : opd fr c = some (.bool b)) : a.eval c = .bool b := by
  have := opdRel_of_frel r c _ e
  simpa only [vrel] using this

theorem exec_sound (hcf : CallOk P cf) (hm : P.follows .mixedOrders = true) : ∀ (c : Code) (s : St) (x : X) (s' : St), codeOk N c = true → exec P cf F c s = some (x, s') →
    ∀ (E : Env) (a : Act) (w : World) (Q : Exit → Act → World → Prop), SRel E N s a w → Post E N s w x s' Q → c.wp P Q a w := by
  intro c
  induction c with
  | skip =>
    intro s x s' _ e E a w Q r hp
    simp only [exec, Option.some.injEq, Prod.mk.injEq] at e; obtain ⟨rfl, rfl⟩ := e
    exact wp_skip (hp E a w .normal (Upd.refl r.good) (fun _ _ => rfl) (Nat.le_refl _) r trivial)
  | region id ops draw =>
    intro s x s' hok e E a w Q r hp
    simp only [codeOk, Bool.and_eq_true] at hok
    cases draw with
    | false =>
      simp only [exec] at e
      refine wp_region_list (seq_sound hcf ops.toList s x s' (fun o ho d hd => ?_) e E a w Q r hp)
      have := List.all_eq_true.1 hok.1 o ho
      rw [hd] at this; simpa using this
    | true =>
      simp only [exec] at e
      have hreg := regOk_spec (by simpa using hok.2)
      refine wp_drawn hcf hreg hm e r.good r.dom r.fr r.size fun E' a' w' x' u hlow hdom hn hfr hsz hdf hdfs hx => ?_
      exact hp E' a' w' x' u hlow hn ⟨u.good, hdom, hfr, hsz, by rw [hdfs, hdf]; exact drel_mono u.le _ _ r.dfs⟩ hx
  | seq c1 c2 ih1 ih2 =>
    intro s x s' hok e E a w Q r hp
    simp only [codeOk, Bool.and_eq_true] at hok
    simp only [exec] at e
    refine wp_seq ?_
    cases h1 : exec P cf F c1 s with
    | none => simp [h1] at e
    | some p =>
      obtain ⟨x1, s1⟩ := p
      refine ih1 s x1 s1 hok.1 h1 E a w _ r fun E' a' w' x' u hlow hn r' hx => ?_
      cases x1 with
      | normal =>
        simp only [h1] at e
        cases x' <;> first | (exact hx.elim) | skip
        exact ih2 s1 x s' hok.2 e E' a' w' Q r' (hp.after u hlow hn)
      | exit i =>
        simp only [h1, Option.some.injEq, Prod.mk.injEq] at e; obtain ⟨rfl, rfl⟩ := e
        cases x' <;> first | (exact hx.elim) | skip
        exact hp E' a' w' _ u hlow hn r' hx
      | ret =>
        simp only [h1, Option.some.injEq, Prod.mk.injEq] at e; obtain ⟨rfl, rfl⟩ := e
        cases x' <;> first | (exact hx.elim) | skip
        exact hp E' a' w' _ u hlow hn r' hx
      | panic v =>
        simp only [h1, Option.some.injEq, Prod.mk.injEq] at e; obtain ⟨rfl, rfl⟩ := e
        cases x' <;> first | (exact hx.elim) | skip
        exact hp E' a' w' _ u hlow hn r' hx
  | cond c c1 c2 ih1 ih2 =>
    intro s x s' hok e E a w Q r hp
    simp only [codeOk, Bool.and_eq_true] at hok
    simp only [exec] at e
    split at e
    · rename_i hc
      exact wp_cond_true (cond_rel r.fr hc) (ih1 s x s' hok.1 e E a w Q r hp)
    · rename_i hc
      exact wp_cond_false (cond_rel r.fr hc) (ih2 s x s' hok.2 e E a w Q r hp)
    · cases e
  | block id c ih =>
    intro s x s' hok e E a w Q r hp
    simp only [codeOk] at hok
    simp only [exec] at e
    refine wp_block ?_
    cases h1 : exec P cf F c s with
    | none => simp [h1] at e
    | some p =>
      obtain ⟨x1, s1⟩ := p
      refine ih s x1 s1 hok h1 E a w _ r fun E' a' w' x' u hlow hn r' hx => ?_
      cases x1 with
      | normal =>
        simp only [h1, Option.some.injEq, Prod.mk.injEq] at e; obtain ⟨rfl, rfl⟩ := e
        cases x' <;> first | (exact hx.elim) | skip
        exact hp E' a' w' .normal u hlow hn r' trivial
      | exit i =>
        simp only [h1] at e
        cases x' <;> first | (exact hx.elim) | skip
        rename_i j
        have hij : i = j := hx
        subst hij
        simp only [Exit.inBlock]
        split at e
        · rename_i q
          simp only [Option.some.injEq, Prod.mk.injEq] at e; obtain ⟨rfl, rfl⟩ := e
          rw [if_pos q]; exact hp E' a' w' .normal u hlow hn r' trivial
        · rename_i q
          simp only [Option.some.injEq, Prod.mk.injEq] at e; obtain ⟨rfl, rfl⟩ := e
          rw [if_neg q]; exact hp E' a' w' (.exit i) u hlow hn r' rfl
      | ret =>
        simp only [h1, Option.some.injEq, Prod.mk.injEq] at e; obtain ⟨rfl, rfl⟩ := e
        cases x' <;> first | (exact hx.elim) | skip
        exact hp E' a' w' .ret u hlow hn r' trivial
      | panic v =>
        simp only [h1, Option.some.injEq, Prod.mk.injEq] at e; obtain ⟨rfl, rfl⟩ := e
        cases x' <;> first | (exact hx.elim) | skip
        exact hp E' a' w' (.panic _) u hlow hn r' hx
  | loop c ih =>
    intro s x s' hok e E a w Q r hp
    simp only [codeOk] at hok
    simp only [exec] at e
    refine wp_loop_rounds F ?_
    have key : ∀ (k : Nat) (s : St), rounds (exec P cf F c) k s = some (x, s') → ∀ (E : Env) (a : Act) (w : World), SRel E N s a w → Post E N s w x s' Q → Code.rounds P c Q k a w := by
      intro k
      induction k with
      | zero => intro s e; cases e
      | succ k ihk =>
        intro s e E a w r hp
        simp only [rounds] at e
        rw [rounds_succ]
        cases h1 : exec P cf F c s with
        | none => simp [h1] at e
        | some p =>
          obtain ⟨x1, s1⟩ := p
          refine ih s x1 s1 hok h1 E a w _ r fun E' a' w' x' u hlow hn r' hx => ?_
          cases x1 with
          | normal =>
            simp only [h1] at e
            cases x' <;> first | (exact hx.elim) | skip
            exact ihk s1 e E' a' w' r' (hp.after u hlow hn)
          | exit i =>
            simp only [h1, Option.some.injEq, Prod.mk.injEq] at e; obtain ⟨rfl, rfl⟩ := e
            cases x' <;> first | (exact hx.elim) | skip
            exact hp E' a' w' _ u hlow hn r' hx
          | ret =>
            simp only [h1, Option.some.injEq, Prod.mk.injEq] at e; obtain ⟨rfl, rfl⟩ := e
            cases x' <;> first | (exact hx.elim) | skip
            exact hp E' a' w' _ u hlow hn r' hx
          | panic v =>
            simp only [h1, Option.some.injEq, Prod.mk.injEq] at e; obtain ⟨rfl, rfl⟩ := e
            cases x' <;> first | (exact hx.elim) | skip
            exact hp E' a' w' _ u hlow hn r' hx
    exact key F s e E a w r hp
  | exit id =>
    intro s x s' _ e E a w Q r hp
    simp only [exec, Option.some.injEq, Prod.mk.injEq] at e; obtain ⟨rfl, rfl⟩ := e
    exact wp_exit (hp E a w (.exit id) (Upd.refl r.good) (fun _ _ => rfl) (Nat.le_refl _) r rfl)
  | ret =>
    intro s x s' _ e E a w Q r hp
    simp only [exec, Option.some.injEq, Prod.mk.injEq] at e; obtain ⟨rfl, rfl⟩ := e
    exact wp_ret (hp E a w .ret (Upd.refl r.good) (fun _ _ => rfl) (Nat.le_refl _) r trivial)
  | rangeFunc f ps as b _ _ => intro s x s' _ e; cases e
  | scope c _ => intro s x s' _ e; cases e
  | label l => intro s x s' _ e; cases e
  | goto l => intro s x s' _ e; cases e
  | refuse w => intro s x s' _ e; cases e

/- results -/
def resSem (tmps : Array Value) : ResultVar → Sem Value
  | .tmp t => pure (tmps.getD t undef)
  | .cell c t => do loadVar t (← asAddr (tmps.getD c undef))

theorem results_eq (fn : Func) (tmps : Array Value) : results fn tmps = (do
    let vs ← fn.results.mapM (resSem tmps)
    pure (if h : vs.size = 1 then vs[0] else .tuple vs)) := by
  unfold results
  congr 1

theorem results_rel {E : Env} {h : Tr O} {w : World} {fr : Tr V} {a : Act} (g : Good E h w) (r : frel E fr a) : ∀ (rs : List ResultVar) (vs : List V), resultsV P fr h rs = some vs →
    ∃ vs', (rs.mapM (resSem a.tmps)).run P w = .ok vs' w ∧ vrels E vs vs'
  | [], vs, e => by simp only [resultsV, Option.some.injEq] at e; subst e; exact ⟨[], rfl, rfl⟩
  | x :: rs, vs, e => by
    simp only [resultsV] at e
    cases h1 : resultV P fr h x with
    | none => simp [h1] at e
    | some v => cases h2 : resultsV P fr h rs with
      | none => simp [h1, h2] at e
      | some us =>
        simp only [h1, h2, Option.some.injEq] at e; subst e
        obtain ⟨us', q1, q2⟩ := results_rel g r rs us h2
        have hv : ∃ v', (resSem a.tmps x).run P w = .ok v' w ∧ vrel E v v' := by
          cases x with
          | tmp t =>
            obtain ⟨v', p1, p2⟩ := r t v h1
            exact ⟨v', by simp [resSem, p1], p2⟩
          | cell c t =>
            simp only [resultV] at h1
            split at h1
            · rename_i u hu
              obtain ⟨u', p1, p2⟩ := r c u hu
              obtain ⟨b, sh, rfl, v', p3, p4⟩ := loadAt_rel (P := P) g p2 h1
              refine ⟨v', ?_, p4⟩
              simp [resSem, p1, asAddr, p3]
            · cases h1
        obtain ⟨v', p1, p2⟩ := hv
        refine ⟨v' :: us', ?_, v', us', p2, q2, rfl⟩
        rw [List.mapM_cons]
        simp only [Sem.run_bind, p1, q1, Result.andThen_ok, Sem.run_pure]

theorem run_results {E : Env} {h : Tr O} {w : World} {fr : Tr V} {a : Act} {fn : Func} {vs : List V} (g : Good E h w) (r : frel E fr a) (e : resultsV P fr h fn.results.toList = some vs) :
    ∃ v', (results fn a.tmps).run P w = .ok v' w ∧ vrel E (oneOf vs) v' := by
  obtain ⟨vs', q1, q2⟩ := results_rel (P := P) g r fn.results.toList vs e
  have hrun : (results fn a.tmps).run P w = .ok (if h : vs'.toArray.size = 1 then vs'.toArray[0] else .tuple vs'.toArray) w := by
    rw [results_eq, Array.mapM_eq_mapM_toList]
    simp only [Sem.run_bind, Sem.run_map, q1, Result.andThen_ok, Sem.run_pure]
  refine ⟨_, hrun, ?_⟩
  match vs, q2 with
  | [], q2 => simp only [vrels] at q2; subst q2; exact ⟨[], rfl, rfl⟩
  | [v], q2 =>
    obtain ⟨y, ys, p1, p2, rfl⟩ := q2
    simp only [vrels] at p2; subst p2
    exact p1
  | u :: v :: us, q2 =>
    have hl2 := vrels_length q2
    rw [dif_neg (by simp only [List.size_toArray, hl2, List.length_cons]; omega)]
    exact ⟨vs', q2, rfl⟩
end
end Go.Eng
