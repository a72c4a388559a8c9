/- The engine, part W: deferred calls and recover; a call as a whole. No conditions: lemmas alone. -/
import Derived.Test.YtadejpmecljjpaaEngTwo
import Derived.RangeFuncLeaves
import Derived.Below
set_option linter.unusedVariables false
set_option linter.unusedSimpArgs false
set_option linter.unusedSectionVars false
namespace Go.Eng
open Go
def mrel (E : Env) : Mode → FrameMode → Prop
  | .ret, .returning => True
  | .pan v b, .panicking chain => ∃ v', vrel E v v' ∧ chain = [{ v := v', recovered := b }]
  | _, _ => False
theorem mrel_mono {E E' : Env} (h : E.le E') : ∀ {m : Mode} {u : FrameMode}, mrel E m u → mrel E' m u
  | .ret, .returning, _ => trivial
  | .pan _ _, .panicking _, ⟨v', r, q⟩ => ⟨v', vrel_mono h _ _ r, q⟩
  | .ret, .run, r => r.elim
  | .ret, .panicking _, r => r.elim
  | .pan _ _, .run, r => r.elim
  | .pan _ _, .returning, r => r.elim
def PostD (E : Env) (N : Nat) (s : St) (w : World) (x : X) (s' : St) (m' : Mode) (c₀ : Frame) (cs : List Frame) (Q : Exit → Act → List Frame → World → Prop) : Prop :=
  ∀ E' a' w' x' u', Upd E s.h w E' s'.h w' → (∀ k, k < s.n → E'.ι k = E.ι k) → s.n ≤ s'.n → SRel E' N s' a' w' → xrel E' x x' → mrel E' m' u' → Q x' a' ({ c₀ with mode := u' } :: cs) w'
theorem PostD.after {E E1 : Env} {N : Nat} {s s1 s' : St} {w w1 : World} {x : X} {m' : Mode} {c₀ : Frame} {cs : List Frame} {Q : Exit → Act → List Frame → World → Prop} (p : PostD E N s w x s' m' c₀ cs Q) (u : Upd E s.h w E1 s1.h w1)
    (hlow : ∀ k, k < s.n → E1.ι k = E.ι k) (hn : s.n ≤ s1.n) : PostD E1 N s1 w1 x s' m' c₀ cs Q :=
  fun E' a' w' x' u2 u' hlow' hn' r rx rm => p E' a' w' x' u2 (u.trans u') (fun k hk => by rw [hlow' k (by omega)]; exact hlow k hk) (by omega) r rx rm
section
variable {P : Program} {cf : CallF} {F N : Nat}
theorem range'_succ' (k n : Nat) : List.range' k (n + 1) = k :: List.range' (k + 1) n := by simp [List.range'_succ]
theorem seqD_sound {ops : Array Oper} (c₀ : Frame) (cs : List Frame) : ∀ (l : List Oper) (k : Nat) (s : St) (m : Mode) (x : X) (s' : St) (m' : Mode), (∀ j, l[j]? = ops[k + j]?) → (∀ o ∈ l, dstOk N o.dst) → seqOpsD P cf ops l s m = some (x, s', m') →
    ∀ (E : Env) (a : Act) (w : World) (u : FrameMode) (Q : Exit → Act → List Frame → World → Prop), SRel E N s a w → mrel E m u → PostD E N s w x s' m' c₀ cs Q →
      wpOpsS P ops Q (List.range' k l.length) a ({ c₀ with mode := u } :: cs) w
  | [], k, s, m, x, s', m', _, _, e, E, a, w, u, Q, r, rm, hp => by
    simp only [seqOpsD, Option.some.injEq, Prod.mk.injEq] at e; obtain ⟨rfl, rfl, rfl⟩ := e
    exact hp E a w .normal u (Upd.refl r.good) (fun _ _ => rfl) (Nat.le_refl _) r trivial rm
  | o :: rest, k, s, m, x, s', m', hget, hdst, e, E, a, w, u, Q, r, rm, hp => by
    have ho := hdst o (by simp)
    have hrest : ∀ o ∈ rest, dstOk N o.dst := fun o h => hdst o (by simp [h])
    have hd' : dstOk a.tmps.size o.dst := by rw [r.size]; exact ho
    have hgr : ∀ j, rest[j]? = ops[k + 1 + j]? := fun j => by have := hget (j + 1); simpa [Nat.add_assoc, Nat.add_comm 1 j] using this
    have hok : ops[k]? = some o := by have := hget 0; simpa using this.symm
    simp only [seqOpsD] at e
    simp only [List.length_cons, range'_succ', wpOpsS, hok]
    have hwant : ∀ b, wantedV ops o s.fr = some b → Region.wanted o (yielded ops a.tmps) = b := fun b hb => wanted_rel (E := E) (fun _ _ _ d _ _ _ v hv => r.fr d v hv) hb
    have hopd : ∀ y ∈ o.op.operands, OpdRel E s.fr a.eval y := fun y _ => opdRel_of_frel r.fr y
    split at e
    · rename_i hw
      rw [if_neg (by rw [hwant _ hw]; simp)]
      split at e
      · rename_i fr hput
        exact seqD_sound c₀ cs rest (k + 1) _ m x s' m' hgr hrest e E _ w u Q ⟨r.good, r.dom, frel_put r.fr hput ⟨[], rfl, rfl⟩ hd', by rw [put_size]; exact r.size, by rw [put_defers]; exact r.dfs⟩ rm (hp.after (Upd.refl r.good) (fun _ _ => rfl) (Nat.le_refl _))
      · cases e
    · rename_i hw
      rw [if_pos (hwant _ hw)]
      split at e
      · rename_i v h n hs
        split at e
        · rename_i fr hput
          obtain ⟨E', w', v', hrun, q1, q2, q3, q4⟩ := step_sound r.good (r.dom _ (Nat.le_refl _)) hopd hs
          have hn : s.n ≤ n := by rcases q4 with ⟨rfl, _⟩ | rfl <;> omega
          have hdom : Dom E' n := by
            rcases q4 with ⟨rfl, rfl⟩ | rfl
            · exact r.dom
            · intro k hk; rw [q3 k (by omega)]; exact r.dom k (by omega)
          have hgo := seqD_sound c₀ cs rest (k + 1) _ m x s' m' hgr hrest e E' (a.put o.dst v') w' u Q ⟨q2.good, hdom, frel_put (frel_mono q2.le r.fr) hput q1 hd', by rw [put_size]; exact r.size, by rw [put_defers]; exact drel_mono q2.le _ _ r.dfs⟩ (mrel_mono q2.le rm)
            (hp.after q2 (fun k hk => q3 k (by omega)) hn)
          rcases hrun with hrun | ⟨hrun, rfl⟩
          · rw [hrun]; simp only [Oper.upon_value]; exact hgo
          · rw [hrun]; simp only [Oper.upon_skip]; exact hgo
        · cases e
      · rename_i hs
        have hrun := step_sound r.good (r.dom _ (Nat.le_refl _)) hopd hs
        simp only [OpOk] at hrun
        rw [hrun]
        simp only
        split at e
        · rename_i v
          split at e
          · rename_i fr hput
            cases u with
            | panicking chain =>
              obtain ⟨v', q1, rfl⟩ := rm
              simp only [recoverD]
              exact seqD_sound c₀ cs rest (k + 1) _ (.pan v true) x s' m' hgr hrest e E (a.put o.dst v') w (.panicking [{ v := v', recovered := true }]) Q ⟨r.good, r.dom, frel_put r.fr hput q1 hd', by rw [put_size]; exact r.size, by rw [put_defers]; exact r.dfs⟩ ⟨v', q1, rfl⟩
                (hp.after (Upd.refl r.good) (fun _ _ => rfl) (Nat.le_refl _))
            | run => exact rm.elim
            | returning => exact rm.elim
          · cases e
        · rename_i hnp
          split at e
          · rename_i fr hput
            have hnone : recoverD ({ c₀ with mode := u } :: cs) = none := by
              cases m with
              | ret => cases u <;> first | (exact rm.elim) | rfl
              | pan v b =>
                cases b with
                | false => exact absurd rfl (hnp v)
                | true =>
                  cases u with
                  | panicking chain => obtain ⟨v', q1, rfl⟩ := rm; rfl
                  | run => exact rm.elim
                  | returning => exact rm.elim
            rw [hnone]
            exact seqD_sound c₀ cs rest (k + 1) _ m x s' m' hgr hrest e E (a.put o.dst .nilIface) w u Q ⟨r.good, r.dom, frel_put r.fr hput rfl hd', by rw [put_size]; exact r.size, by rw [put_defers]; exact r.dfs⟩ rm (hp.after (Upd.refl r.good) (fun _ _ => rfl) (Nat.le_refl _))
          · cases e
      · cases e
    · cases e
theorem wpS_cond_true {c : Operand} {x y : Code} {a : Act} {cs : List Frame} {w : World} {Q : Exit → Act → List Frame → World → Prop} (hc : a.eval c = .bool true) (h : x.wpS P Q a cs w) : (Code.cond c x y).wpS P Q a cs w := wpS_cond hc h
theorem wpS_cond_false {c : Operand} {x y : Code} {a : Act} {cs : List Frame} {w : World} {Q : Exit → Act → List Frame → World → Prop} (hc : a.eval c = .bool false) (h : y.wpS P Q a cs w) : (Code.cond c x y).wpS P Q a cs w := wpS_cond hc h
theorem execD_plain (hcf : CallOk P cf) (hm : P.follows .mixedOrders = true) {c : Code} {s s' : St} {x : X} {m m' : Mode} (hok : codeOk N c = true) (e : (match exec P cf F c s with | some (x, s') => some (x, s', m) | none => none) = some (x, s', m'))
    {c₀ : Frame} {cs : List Frame} {E : Env} {a : Act} {w : World} {u : FrameMode} {Q : Exit → Act → List Frame → World → Prop} (r : SRel E N s a w) (rm : mrel E m u) (hp : PostD E N s w x s' m' c₀ cs Q) : c.wpS P Q a ({ c₀ with mode := u } :: cs) w := by
  cases h1 : exec P cf F c s with
  | none => simp [h1] at e
  | some p =>
    obtain ⟨x1, s1⟩ := p
    simp only [h1, Option.some.injEq, Prod.mk.injEq] at e; obtain ⟨rfl, rfl, rfl⟩ := e
    exact wpS_of_wp (wpIn_wide.1 (exec_sound (rnd := none) hcf hm c s x1 s1 (.inl rfl) hok h1 E a w _ r fun E' a' w' x' u' hlow hn r' hx => hp E' a' w' x' u u' hlow hn r' hx (mrel_mono u'.le rm)))
theorem execD_sound (hcf : CallOk P cf) (hm : P.follows .mixedOrders = true) (c₀ : Frame) (cs : List Frame) : ∀ (c : Code) (s : St) (m : Mode) (x : X) (s' : St) (m' : Mode), codeOk N c = true → execD P cf F c s m = some (x, s', m') →
    ∀ (E : Env) (a : Act) (w : World) (u : FrameMode) (Q : Exit → Act → List Frame → World → Prop), SRel E N s a w → mrel E m u → PostD E N s w x s' m' c₀ cs Q → c.wpS P Q a ({ c₀ with mode := u } :: cs) w := by
  intro c
  induction c with
  | region id ops draw =>
    intro s m x s' m' hok e E a w u Q r rm hp
    cases draw with
    | false =>
      simp only [execD] at e
      have hok' := hok
      simp only [codeOk, Bool.and_eq_true] at hok'
      have := seqD_sound (P := P) (cf := cf) (ops := ops) c₀ cs ops.toList 0 s m x s' m' (fun j => by simp) (fun o ho d hd => by
        have := List.all_eq_true.1 hok'.1 o ho
        rw [hd] at this; simpa using this) e E a w u Q r rm hp
      exact wpS_region (by rw [List.range_eq_range', ← Array.length_toList]; exact this)
    | true =>
      simp only [execD] at e
      exact execD_plain (F := F) hcf hm hok e r rm hp
  | seq c1 c2 ih1 ih2 =>
    intro s m x s' m' hok e E a w u Q r rm hp
    simp only [codeOk, Bool.and_eq_true] at hok
    simp only [execD] at e
    refine wpS_seq ?_
    cases h1 : execD P cf F c1 s m with
    | none => simp [h1] at e
    | some p =>
      obtain ⟨x1, s1, m1⟩ := p
      refine ih1 s m x1 s1 m1 hok.1 h1 E a w u _ r rm fun E' a' w' x' u1 uu hlow hn r' hx rm' => ?_
      cases x1 with
      | normal =>
        simp only [h1] at e
        cases x' <;> first | (exact hx.elim) | skip
        exact ih2 s1 m1 x s' m' hok.2 e E' a' w' u1 Q r' rm' (hp.after uu hlow hn)
      | exit i =>
        simp only [h1, Option.some.injEq, Prod.mk.injEq] at e; obtain ⟨rfl, rfl, rfl⟩ := e
        cases x' <;> first | (exact hx.elim) | skip
        exact hp E' a' w' _ u1 uu hlow hn r' hx rm'
      | ret =>
        simp only [h1, Option.some.injEq, Prod.mk.injEq] at e; obtain ⟨rfl, rfl, rfl⟩ := e
        cases x' <;> first | (exact hx.elim) | skip
        exact hp E' a' w' _ u1 uu hlow hn r' hx rm'
      | panic v =>
        simp only [h1, Option.some.injEq, Prod.mk.injEq] at e; obtain ⟨rfl, rfl, rfl⟩ := e
        cases x' <;> first | (exact hx.elim) | skip
        exact hp E' a' w' _ u1 uu hlow hn r' hx rm'
  | cond c c1 c2 ih1 ih2 =>
    intro s m x s' m' hok e E a w u Q r rm hp
    simp only [codeOk, Bool.and_eq_true] at hok
    simp only [execD] at e
    split at e
    · rename_i hc
      exact wpS_cond_true (cond_rel r.fr hc) (ih1 s m x s' m' hok.1 e E a w u Q r rm hp)
    · rename_i hc
      exact wpS_cond_false (cond_rel r.fr hc) (ih2 s m x s' m' hok.2 e E a w u Q r rm hp)
    · cases e
  | _ =>
    intro s m x s' m' hok e E a w u Q r rm hp
    simp only [execD] at e
    exact execD_plain (F := F) hcf hm hok e r rm hp
theorem frameOf_get : ∀ (vs : List V) (i : Nat) (t : Tr V) (k : Nat), i + vs.length < top → (frameOf vs i t).get k = if i ≤ k ∧ k < i + vs.length then vs[k - i]? else t.get k
  | [], i, t, k, _ => by simp only [frameOf, List.length_nil]; rw [if_neg (by omega)]
  | v :: vs, i, t, k, h => by
    simp only [List.length_cons] at h
    simp only [frameOf, List.length_cons]
    rw [frameOf_get vs (i + 1) _ k (by omega), Tr.get_set _ _ _ (by omega)]
    by_cases q : k = i
    · subst q
      rw [if_neg (by omega), if_pos rfl, if_pos (by omega)]; simp
    · rw [if_neg q]
      by_cases q2 : i + 1 ≤ k ∧ k < i + 1 + vs.length
      · rw [if_pos q2, if_pos (by omega)]
        have : k - i = (k - (i + 1)) + 1 := by omega
        rw [this]; simp
      · rw [if_neg q2, if_neg (by omega)]
theorem frel_enter {E : Env} {args : List V} {args' : List Value} {n : Nat} (r : vrels E args args') (hn : args.length ≤ n) (ht : n < top) :
    frel E (frameOf args 0 .nil) { tmps := args'.toArray ++ Array.replicate (n - args'.toArray.size) undef, defers := [] } ∧ (args'.toArray ++ Array.replicate (n - args'.toArray.size) undef).size = n := by
  have hl := vrels_length r
  refine ⟨fun t v hv => ?_, by simp; omega⟩
  rw [frameOf_get args 0 .nil t (by omega)] at hv
  split at hv
  · rename_i hi
    obtain ⟨v', h1, h2⟩ := vrels_get r _ v hv
    refine ⟨v', ?_, h2⟩
    simp only [Nat.sub_zero] at h1
    rw [Array.getElem?_append_left (by simp; omega)]
    simpa using h1
  · cases hv
def progOk (P : Program) : Bool := P.funcs.toList.all fun fn => match fn.body with | some c => codeOk fn.ntmps c | none => true
theorem progOk_spec (h : progOk P = true) {f : FuncId} {fn : Func} {c : Code} (hf : P.funcs[f]? = some fn) (hb : fn.body = some c) : codeOk fn.ntmps c = true := by
  unfold progOk at h
  have := List.all_eq_true.1 h fn (by rw [← Array.getElem?_toList] at hf; exact List.mem_of_getElem? hf)
  rw [hb] at this; exact this
theorem callsDIn_of_wpS {f : FuncId} {fn : Func} {c : Code} {args : Array Value} {u : FrameMode} {w : World} {R : Ending → FrameMode → World → Prop}
    (hf : P.funcs[f]? = some fn) (hb : fn.body = some c)
    (h : ∀ (c₀ : Frame) (cs : List Frame), c₀.mode = u →
      c.wpS P (bodyPostS P fn c₀ cs R) { tmps := args ++ Array.replicate (fn.ntmps - args.size) undef, defers := [] } (c₀ :: cs) w) :
    CallsDIn Fence.wide (0 - 1) P f args u w R := by
  refine ⟨trivial, fun c₀ cs hu _ => ?_⟩
  let b : Frame := { (default : Frame) with fn := f, kind := .deferred }
  have henter : Frame.enter P f args .deferred =
      b.at { tmps := args ++ Array.replicate (fn.ntmps - args.size) undef, defers := [] } [.code c] := by
    simp [Frame.enter, Frame.at, hf, hb, b]
  obtain ⟨e, a', cs', w', hq, harr⟩ := h c₀ cs hu b [] rfl rfl
  rw [← henter] at harr
  cases e with
  | normal =>
    obtain ⟨hd, u', rfl, v, hr, hR⟩ := hq
    exact ⟨.returned v, u', w', _, hR, comesIn_wide.2 (Steps.trans harr (.one step_end)), rfl, rfl, rfl, hd, fn, hf, hr⟩
  | ret =>
    obtain ⟨hd, u', rfl, v, hr, hR⟩ := hq
    obtain ⟨todo, hs⟩ := harr
    exact ⟨.returned v, u', w', _, hR, comesIn_wide.2 hs, rfl, rfl, rfl, hd, fn, hf, hr⟩
  | panic chain =>
    obtain ⟨hd, u', rfl, hR⟩ := hq
    obtain ⟨todo, hs⟩ := harr
    exact ⟨.panicked chain, u', w', _, hR, comesIn_wide.2 hs, rfl, rfl, rfl, hd, fn, hf⟩
  | exit id => exact hq.elim
  | goto l => exact hq.elim
  | outgrown =>
    obtain ⟨u', hR⟩ := hq
    exact ⟨.outgrown, u', w', b, hR, comesIn_wide.2 (harr.resolve_left (by simp [b])), rfl, rfl, trivial⟩
theorem leave_sound (hcf : CallOk P cf) (hm : P.follows .mixedOrders = true) (hpo : progOk P = true) {fn : Func} {fr : Tr V} {a : Act} : ∀ (ds : List (FuncId × List V × List V)) (m : Mode) (h : Tr O) (n : Nat) (out : Out) (h' : Tr O) (n' : Nat),
    leave P cf F fn fr ds m h n = some (out, h', n') → ∀ (E : Env) (w : World) (ds' : List Deferred) (u : FrameMode) (R : Ending → World → Prop), Good E h w → Dom E n → frel E fr a → drel E ds ds' → mrel E m u →
      (∀ E' w' en, Upd E h w E' h' w' → (∀ k, k < n → E'.ι k = E.ι k) → Dom E' n' → n ≤ n' → outrel E' out en → R en w') → LeavesInM Fence.wide 0 P fn a.tmps R ds' u w
  | [], m, h, n, out, h', n', e, E, w, ds', u, R, g, hd, hf, hdr, rm, hR => by
    simp only [drel] at hdr; subst hdr
    cases m with
    | ret =>
      cases u <;> first | (exact rm.elim) | skip
      simp only [leave] at e
      split at e
      · rename_i vs hr
        simp only [Option.some.injEq, Prod.mk.injEq] at e; obtain ⟨rfl, rfl, rfl⟩ := e
        obtain ⟨v', h1, h2⟩ := run_results (P := P) g hf hr
        exact ⟨v', h1, hR E w _ (Upd.refl g) (fun _ _ => rfl) hd (Nat.le_refl _) h2⟩
      · cases e
    | pan v b =>
      cases u with
      | panicking chain =>
        obtain ⟨v', q1, rfl⟩ := rm
        cases b with
        | false =>
          simp only [leave, Option.some.injEq, Prod.mk.injEq] at e; obtain ⟨rfl, rfl, rfl⟩ := e
          exact hR E w _ (Upd.refl g) (fun _ _ => rfl) hd (Nat.le_refl _) ⟨v', q1, rfl⟩
        | true => cases e
      | run => exact rm.elim
      | returning => exact rm.elim
  | (gf, c, args) :: ds, m, h, n, out, h', n', e, E, w, ds', u, R, g, hd, hf, hdr, rm, hR => by
    obtain ⟨d, ys, hd1, r3, rfl⟩ := hdr
    simp only [leave] at e
    have hune : u ≠ .run := by intro q; subst q; cases m <;> exact rm.elim
    split at e
    · -- the mark of a range over a function
      rename_i htop
      rcases hd1 with ⟨q, _⟩ | ⟨_, m0, b, s0, ha, hι, rfl⟩
      · exact absurd q (Nat.not_lt.2 htop)
      simp only at ha; subst ha
      simp only at e
      split at e
      · rename_i hdf
        split at e
        · rename_i hlt
          obtain ⟨b', s', q1, q2⟩ := g.rel _ _ hdf
          rw [hι] at q1; cases q1
          have uk : Upd E h w E (h.set m0 none) (w.putObj b (.deferred none)) := Upd.kill g hlt ⟨_, hdf, rfl⟩ hι (by simp) rfl rfl rfl fun x hx => World.putObj_heap_other hx
          exact ⟨hune, .inl ⟨b, _, rfl, run_takeDeferred q2, leave_sound hcf hm hpo ds m _ n out h' n' e E _ ys u R uk.good hd hf r3 rm fun E2 w2 en u2 hlow2 hd2 hn2 ho => hR E2 w2 en (uk.trans u2) hlow2 hd2 hn2 ho⟩⟩
        · cases e
      · cases e
    rename_i htop
    obtain ⟨c', args', r1, r2, rfl⟩ : ∃ c' args', vrels E c c' ∧ vrels E args args' ∧ d = { target := .fn (.func gf) c'.toArray, args := args'.toArray } := by
      rcases hd1 with ⟨_, q⟩ | ⟨q, _⟩
      · exact q
      · exact absurd (Nat.le_of_eq q.symm) htop
    split at e
    · rename_i gn hgn
      split at e
      · rename_i code hb
        split at e
        · rename_i hq
          obtain ⟨hcal, hlen, htop⟩ := hq
          have hvr := vrels_append r2 r1
          obtain ⟨hfr, hsz⟩ := frel_enter (n := gn.ntmps) hvr hlen htop
          have hcode := progOk_spec hpo hgn hb
          -- what comes behind the deferred call
          have next : ∀ (s' : St) (m' : Mode) (vs : List V), s'.dfs = [] → resultsV P s'.fr s'.h gn.results.toList = some vs → leave P cf F fn fr ds (match m' with | .pan _ true => .ret | m => m) s'.h s'.n = some (out, h', n') →
              ∀ E' (a' : Act) w' u', Upd E h w E' s'.h w' → (∀ k, k < n → E'.ι k = E.ι k) → n ≤ s'.n → SRel E' gn.ntmps s' a' w' → mrel E' m' u' →
              a'.defers = [] ∧ ∃ v, (results gn a'.tmps).run P w' = .ok v w' ∧ LeavesInM Fence.wide 0 P fn a.tmps R ys (settle u') w' := by
            intro s' m' vs hdf hrs hlv E' a' w' u' uu hlow hn r' rm'
            have hdf' : a'.defers = [] := by have := r'.dfs; rw [hdf] at this; exact this
            obtain ⟨v', p1, p2⟩ := run_results (P := P) r'.good r'.fr hrs
            refine ⟨hdf', v', p1, ?_⟩
            refine leave_sound hcf hm hpo ds _ s'.h s'.n out h' n' hlv E' w' ys (settle u') R r'.good r'.dom (frel_mono uu.le hf) (drel_mono uu.le _ _ r3) ?_ fun E2 w2 en u2 hlow2 hd2 hn2 ho => hR E2 w2 en (uu.trans u2) (fun k hk => by rw [hlow2 k (by omega)]; exact hlow k hk) hd2 (by omega) ho
            cases m' with
            | ret => cases u' <;> first | (exact rm'.elim) | trivial
            | pan v b =>
              cases u' with
              | panicking chain =>
                obtain ⟨v2, q1, rfl⟩ := rm'
                cases b with
                | false => exact ⟨v2, q1, rfl⟩
                | true => trivial
              | run => exact rm'.elim
              | returning => exact rm'.elim
          have hinv : (invoke (.fn (.func gf) c'.toArray) args'.toArray).run P w = .ok (.enter gf (args' ++ c').toArray) w := by
            simp only [invoke]
            have : args'.toArray ++ c'.toArray = (args' ++ c').toArray := by simp
            rw [this]; exact run_callFunc hcal
          refine ⟨hune, .inr ⟨fun hd => by simp [Fence.wide] at hd, _, _, gf, _, rfl, hinv, fun _ _ => trivial, callsDIn_of_wpS hgn hb fun c₀ cs hmode => ?_⟩⟩
          have hc0 : c₀ = { c₀ with mode := u } := by subst hmode; rfl
          rw [hc0]
          have srel : SRel E gn.ntmps { fr := frameOf (args ++ c) 0 .nil, h := h, n := n, dfs := [] } { tmps := (args' ++ c').toArray ++ Array.replicate (gn.ntmps - (args' ++ c').toArray.size) undef, defers := [] } w := ⟨g, hd, hfr, hsz, rfl⟩
          split at e
          · rename_i s' m' hx
            split at e
            · rename_i hdf
              split at e
              · rename_i vs hrs
                refine execD_sound hcf hm c₀ cs code _ m .normal s' m' hcode hx E _ w u _ srel rm fun E' a' w' x' u' uu hlow hn r' hxx rm' => ?_
                cases x' <;> first | (exact hxx.elim) | skip
                obtain ⟨k1, v, k2, k3⟩ := next s' m' vs hdf hrs e E' a' w' u' uu hlow hn r' rm'
                exact ⟨k1, u', rfl, v, k2, k3⟩
              · cases e
            · cases e
          · rename_i s' m' hx
            split at e
            · rename_i hdf
              split at e
              · rename_i vs hrs
                refine execD_sound hcf hm c₀ cs code _ m .ret s' m' hcode hx E _ w u _ srel rm fun E' a' w' x' u' uu hlow hn r' hxx rm' => ?_
                cases x' <;> first | (exact hxx.elim) | skip
                obtain ⟨k1, v, k2, k3⟩ := next s' m' vs hdf hrs e E' a' w' u' uu hlow hn r' rm'
                exact ⟨k1, u', rfl, v, k2, k3⟩
              · cases e
            · cases e
          · cases e
        · cases e
      · cases e
    · cases e
theorem enter_sound (hcf : CallOk P cf) (hm : P.follows .mixedOrders = true) (hpo : progOk P = true) {f : FuncId} {args : List V} {h : Tr O} {n : Nat} {out : Out} {h' : Tr O} {n' : Nat} (e : enter P cf F f args h n = some (out, h', n'))
    {E : Env} {w : World} {args' : List Value} (ra : vrels E args args') (g : Good E h w) (hd : Dom E n) : Calls P f args'.toArray w (CPost E h n w out h' n') := by
  unfold enter at e
  split at e
  · rename_i fn hf
    split at e
    · rename_i code hb
      split at e
      · rename_i hq
        obtain ⟨hfr, hsz⟩ := frel_enter (n := fn.ntmps) ra hq.1 hq.2
        have hcode := progOk_spec hpo hf hb
        have srel : SRel E fn.ntmps { fr := frameOf args 0 .nil, h := h, n := n, dfs := [] } { tmps := args'.toArray ++ Array.replicate (fn.ntmps - args'.toArray.size) undef, defers := [] } w := ⟨g, hd, hfr, hsz, rfl⟩
        refine callsIn_wide.1 (callsIn_of_wp_marks (n := 0) hf hb trivial ?_)
        have fin : ∀ (s : St) (m : Mode) (u : FrameMode) (E' : Env) (a' : Act) (w' : World), leave P cf F fn s.fr s.dfs m s.h s.n = some (out, h', n') → Upd E h w E' s.h w' → (∀ k, k < n → E'.ι k = E.ι k) → n ≤ s.n → SRel E' fn.ntmps s a' w' → mrel E' m u →
            LeavesInM Fence.wide 0 P fn a'.tmps (CPost E h n w out h' n') a'.defers u w' := by
          intro s m u E' a' w' hl uu hlow hn r' rm
          exact leave_sound hcf hm hpo s.dfs m s.h s.n out h' n' hl E' w' a'.defers u _ r'.good r'.dom r'.fr r'.dfs rm fun E2 w2 en u2 hlow2 hd2 hn2 ho => ⟨E2, uu.trans u2, fun k hk => by rw [hlow2 k (by omega)]; exact hlow k hk, hd2, by omega, ho⟩
        split at e
        · rename_i s hx
          refine exec_sound (rnd := none) hcf hm code _ _ s (.inl rfl) hcode hx E _ w _ srel fun E' a' w' x' uu hlow hn r' hxx => ?_
          cases x' <;> first | (exact hxx.elim) | skip
          exact fin s .ret .returning E' a' w' e uu hlow hn r' trivial
        · rename_i s hx
          refine exec_sound (rnd := none) hcf hm code _ _ s (.inl rfl) hcode hx E _ w _ srel fun E' a' w' x' uu hlow hn r' hxx => ?_
          cases x' <;> first | (exact hxx.elim) | skip
          exact fin s .ret .returning E' a' w' e uu hlow hn r' trivial
        · rename_i v s hx
          refine exec_sound (rnd := none) hcf hm code _ _ s (.inl rfl) hcode hx E _ w _ srel fun E' a' w' x' uu hlow hn r' hxx => ?_
          cases x' <;> first | (exact hxx.elim) | skip
          exact fin s (.pan v false) _ E' a' w' e uu hlow hn r' hxx
        · cases e
      · cases e
    · cases e
  · cases e
theorem putAll_rel {E : Env} : ∀ (ps : List Nat) (args : List V) (args' : List Value) (fr fr1 : Tr V) (t : Array Value), putAll (zipL ps args) fr = some fr1 → vrels E args args' → (∀ p ∈ ps, p < t.size) → trel E fr t →
    trel E fr1 ((ps.zip args').foldl (fun t (p, v) => t.setIfInBounds p v) t) ∧ ((ps.zip args').foldl (fun t (p, v) => t.setIfInBounds p v) t).size = t.size
  | [], args, args', fr, fr1, t, e, _, _, r => by simp only [zipL, putAll, Option.some.injEq] at e; subst e; exact ⟨by simpa using r, by simp⟩
  | p :: ps, [], args', fr, fr1, t, e, ra, _, r => by
    simp only [zipL, putAll, Option.some.injEq] at e; subst e
    simp only [vrels] at ra; subst ra
    exact ⟨by simpa using r, by simp⟩
  | p :: ps, v :: vs, args', fr, fr1, t, e, ra, hp, r => by
    obtain ⟨y, ys, r0, rs, rfl⟩ := ra
    simp only [zipL, putAll] at e
    split at e
    · rename_i hlt
      have hpt := hp p (by simp)
      have h2 := putAll_rel ps vs ys _ fr1 (t.setIfInBounds p y) e rs (fun q hq => by simpa using hp q (by simp [hq])) (fun k x hx => by
        rw [Tr.get_set _ _ _ hlt] at hx
        by_cases q : k = p
        · subst q; rw [if_pos rfl] at hx; cases hx; exact ⟨y, by simp [hpt], r0⟩
        · rw [if_neg q] at hx
          obtain ⟨x', k1, k2⟩ := r k x hx
          exact ⟨x', by rw [Array.getElem?_setIfInBounds_ne (Ne.symm q)]; exact k1, k2⟩)
      simp only [List.zip_cons_cons, List.foldl_cons]
      exact ⟨h2.1, by rw [h2.2]; simp⟩
    · cases e
theorem zip_foldl (ps : Array Nat) (args : List Value) (t : Array Value) : (ps.zip args.toArray).foldl (fun t (p, v) => t.setIfInBounds p v) t = (ps.toList.zip args).foldl (fun t (p, v) => t.setIfInBounds p v) t := by
  rw [← Array.foldl_toList]
  congr 1
  simp
theorem round_sound (hcf : CallOk P cf) (hm : P.follows .mixedOrders = true) {m : Nat} {args : List V} {h : Tr O} {n : Nat} {out : Out} {h' : Tr O} {n' : Nat} (e : aRound P cf F m args h n = some (out, h', n'))
    {E : Env} {w : World} {args' : List Value} (ra : vrels E args args') (g : Good E h w) (hd : Dom E n) {l s0 : Nat} (hι : E.ι m = some (l, s0)) : YieldAt Fence.wide 0 P l args'.toArray w (CPost E h n w out h' n') := by
  unfold aRound at e
  split at e
  case h_2 => cases e
  rename_i fr ps assign body hget
  split at e
  case isFalse => cases e
  rename_i hq
  obtain ⟨hmt, hpl, hpa, hpb⟩ := hq
  split at e
  case h_2 => cases e
  rename_i fr1 hput
  obtain ⟨b, s', q1, r, hb, hst, hpe, hps, hasg, hbod, htr, hok1, hok2, hpb2⟩ := g.rel _ _ hget
  rw [hι] at q1; cases q1
  simp only [if_true] at hst
  subst hps; subst hasg; subst hbod
  have hlw : l < w.heap.size := (Array.getElem?_eq_some_iff.1 hb).1
  have hwm : wlive h m := ⟨_, hget, rfl⟩
  have hrun := run_yield (P := P) (args := args'.toArray) hb (by simp [vrels_length ra, ← hpl])
  refine ⟨_, _, _, _, hrun, roundIn_of_wpIn trivial ?_⟩
  rw [zip_foldl]
  obtain ⟨htr1, hsz1⟩ := putAll_rel r.params.toList args args' fr fr1 r.tmps hput ra hpb2 htr
  have hsub : ∀ k o, (h.set m none).get k = some o → k ≠ m ∧ h.get k = some o := by
    intro k o hk; rw [Tr.get_set _ _ _ hmt] at hk; split at hk
    · cases hk
    · rename_i q; exact ⟨q, hk⟩
  have hsub' : ∀ k o, (h.set m none).get k = some o → h.get k = some o := fun k o q => (hsub k o q).2
  split at e
  case h_2 => cases e
  rename_i s1 hx1
  refine exec_sound (rnd := some l) hcf hm r.assign _ _ s1 (.inr hpa) (by rw [← hsz1] at hok1; exact hok1) hx1 E _ w _ ⟨g.sub hsub', hd, htr1, rfl, rfl⟩ fun E1 a1 w1 x1 u1 hlow1 hn1 r1 hxx1 => ?_
  cases x1 <;> first | (exact hxx1.elim) | skip
  -- no live name is of the record's block
  have nl0 : ∀ k t, (h.set m none).get k ≠ none → E.ι k ≠ some (l, t) := by
    intro k t hk q
    obtain ⟨o, ho⟩ := Option.ne_none_iff_exists'.1 hk
    obtain ⟨c1, c2⟩ := hsub k o ho
    exact g.inj m k l s0 t (fun q => c1 q.symm) hwm (by rw [c2]; simp) hι q
  have nl1 : ∀ k t, s1.h.get k ≠ none → E1.ι k ≠ some (l, t) := by
    intro k t hk q
    obtain ⟨m0, t0, c1, c2, _⟩ := u1.img k l t hk q hlw
    exact nl0 m0 t0 c1 c2
  have hb1 : w1.heap[l]? = some (.loop r) := (u1.keep l hlw fun k t hk => nl0 k t hk.live).trans hb
  have hl1 : l < w1.heap.size := (Array.getElem?_eq_some_iff.1 hb1).1
  refine ⟨_, run_beginRound hb1 hst, ?_⟩
  generalize hw2 : w1.putObj l (.loop { r with state := .busy }) = w2
  have hb2 : w2.heap[l]? = some (.loop { r with state := .busy }) := by rw [← hw2]; exact World.putObj_heap_same hl1
  have hsz2 : w2.heap.size = w1.heap.size := by rw [← hw2]; simp
  have hoth2 : ∀ k, k ≠ l → w2.heap[k]? = w1.heap[k]? := fun k hk => by rw [← hw2]; exact World.putObj_heap_other hk
  have good2 : Good E1 s1.h w2 := by
    refine ⟨fun k o hk => ?_, u1.good.inj, fun k b s hk => by rw [hsz2]; exact u1.good.bnd k b s hk⟩
    obtain ⟨b, s, k1, k2⟩ := u1.good.rel k o hk
    have hne : b ≠ l := by intro q; subst q; exact nl1 k s (by rw [hk]; simp) k1
    exact ⟨b, s, k1, orel_mono E1.le_refl rfl (hoth2 b hne) k2⟩
  have hN1 : a1.tmps.size = r.tmps.size := by
    exact r1.size.trans hsz1
  have rest : ∀ (x : X) (s2 : St), exec P cf F r.body s1 = some (x, s2) → ∀ (st : Bool) (pe : Option Code) (Q : Exit → Act → World → Prop),
      (∀ x' E2 a2 w3, xrel E2 x x' → ((Instr.endRound l pe).run P w3 = .ok (.bool pe.isNone) (w3.putObj l (.loop { r with state := if pe.isNone then .ready else .done, pending := pe })) →
        (pe.isNone = st → Upd E h w E2 (s2.h.set m (some (.loop st pe fr r.params.toList r.assign r.body))) (w3.putObj l (.loop { r with state := if pe.isNone then .ready else .done, pending := pe }))) → Dom E2 s2.n → n ≤ s2.n → (∀ k, k < n → E2.ι k = E.ι k) → Q x' a2 w3)) →
      r.body.wpIn (fz (some l)) 0 P Q a1 w2 := by
    intro x s2 hx2 st pe Q hQ
    refine exec_sound (rnd := some l) hcf hm r.body s1 x s2 (.inr hpb) hok2 hx2 E1 a1 w2 Q ⟨good2, r1.dom, r1.fr, hN1, r1.dfs⟩ fun E2 a2 w3 x' u2 hlow2 hn2 r2 hxx => ?_
    refine hQ x' E2 a2 w3 hxx ?_ ?_ r2.dom (Nat.le_trans hn1 hn2) (fun k hk => by rw [hlow2 k (Nat.lt_of_lt_of_le hk hn1)]; exact hlow1 k hk)
    · have hb3 : w3.heap[l]? = some (.loop { r with state := .busy }) := (u2.keep l (by rw [hsz2]; exact hl1) fun k t hk => nl1 k t hk.live).trans hb2
      exact run_endRound (P := P) (r := { r with state := .busy }) pe hb3
    · intro hst'
      have nl2 : ∀ k t, s2.h.get k ≠ none → E2.ι k ≠ some (l, t) := by
        intro k t hk q
        obtain ⟨m0, t0, c1, c2, _⟩ := u2.img k l t hk q (by rw [hsz2]; exact hl1)
        exact nl1 m0 t0 c1 c2
      have hb3 : w3.heap[l]? = some (.loop { r with state := .busy }) := (u2.keep l (by rw [hsz2]; exact hl1) fun k t hk => nl1 k t hk.live).trans hb2
      have hl3 : l < w3.heap.size := (Array.getElem?_eq_some_iff.1 hb3).1
      have hle : E.le E2 := Env.le_trans u1.le u2.le
      have hι2 : E2.ι m = some (l, s0) := (hle m l s0 hι).1
      generalize hr4 : ({ r with state := if pe.isNone then .ready else .done, pending := pe } : Loop) = r4
      have hsz4 : (w3.putObj l (.loop r4)).heap.size = w3.heap.size := by simp
      have hoth4 : ∀ k, k ≠ l → (w3.putObj l (.loop r4)).heap[k]? = w3.heap[k]? := fun k hk => World.putObj_heap_other hk
      have hnew : orel E2 (w3.putObj l (.loop r4)) l s0 (.loop st pe fr r.params.toList r.assign r.body) := by
        refine ⟨r4, World.putObj_heap_same hl3, ?_, ?_, ?_, ?_, ?_, ?_, ?_⟩
        · rw [← hr4, ← hst']
        · rw [← hr4]
        · rw [← hr4]
        · rw [← hr4]
        · rw [← hr4]
        · rw [← hr4]; exact trel_mono hle htr
        · rw [← hr4]; exact ⟨hok1, hok2, hpb2⟩
      have hcase : ∀ k o, (s2.h.set m (some (.loop st pe fr r.params.toList r.assign r.body))).get k = some o → (k = m ∧ o = .loop st pe fr r.params.toList r.assign r.body) ∨ (k ≠ m ∧ s2.h.get k = some o) := by
        intro k o q
        rw [Tr.get_set _ _ _ hmt] at q
        split at q
        · rename_i c; cases q; exact .inl ⟨c, rfl⟩
        · rename_i c; exact .inr ⟨c, q⟩
      refine ⟨hle, ⟨?_, ?_, ?_⟩, ?_, ?_, ?_, ?_, ?_, ?_⟩
      · intro k o q
        rcases hcase k o q with ⟨rfl, rfl⟩ | ⟨c, q⟩
        · exact ⟨l, s0, hι2, hnew⟩
        · obtain ⟨b, t, k1, k2⟩ := u2.good.rel k o q
          have hne : b ≠ l := by intro c; subst c; exact nl2 k t (by rw [q]; simp) k1
          exact ⟨b, t, k1, orel_mono E2.le_refl rfl (hoth4 b hne) k2⟩
      · intro k k' b t t' hne hk hk' e1 e2
        obtain ⟨o, hk, ho⟩ := hk
        obtain ⟨o', hk'⟩ := Option.ne_none_iff_exists'.1 hk'
        rcases hcase k o hk with ⟨rfl, rfl⟩ | ⟨c, q⟩
        · rcases hcase k' o' hk' with ⟨rfl, rfl⟩ | ⟨c', q'⟩
          · exact hne rfl
          · rw [hι2] at e1; cases e1
            exact nl2 k' t' (by rw [q']; simp) e2
        · rcases hcase k' o' hk' with ⟨rfl, rfl⟩ | ⟨c', q'⟩
          · rw [hι2] at e2; cases e2
            exact nl2 k t (by rw [q]; simp) e1
          · exact u2.good.inj k k' b t t' hne ⟨o, q, ho⟩ (by rw [q']; simp) e1 e2
      · intro k b t q; rw [hsz4]; exact u2.good.bnd k b t q
      · rw [hsz4]; have c1 := u1.size; have c2 := u2.size; omega
      · exact u2.tape.trans (by rw [← hw2]; exact u1.tape)
      · exact u2.os.trans (by rw [← hw2]; exact u1.os)
      · exact u2.output.trans (by rw [← hw2]; exact u1.output)
      · intro b hb' hno
        have hne : b ≠ l := by intro c; subst c; exact hno m s0 hwm hι
        have c1 := u1.size
        rw [hoth4 b hne, u2.keep b (by omega) ?_, hoth2 b hne, u1.keep b hb' ?_]
        · intro k t hk q
          exact hno k t (wlive_sub hsub' hk) q
        · intro k t hk q
          obtain ⟨m0, t0, d1, d2, d3⟩ := u1.img k b t hk.live q hb'
          exact hno m0 t0 (wlive_sub hsub' (d3 hk)) d2
      · intro k b t hk q hb'
        obtain ⟨o, hk⟩ := Option.ne_none_iff_exists'.1 hk
        have c1 := u1.size
        rcases hcase k o hk with ⟨rfl, rfl⟩ | ⟨c, qk⟩
        · rw [hι2] at q; cases q
          exact ⟨k, s0, hwm.live, hι, fun _ => hwm⟩
        · obtain ⟨m1, t1, d1, d2, d3⟩ := u2.img k b t (by rw [qk]; simp) q (by omega)
          obtain ⟨m0, t0, f1, f2, f3⟩ := u1.img m1 b t1 d1 d2 hb'
          exact ⟨m0, t0, live_sub hsub' f1, f2, fun z => wlive_sub hsub' (f3 (d3 (wlive_ne hmt z c)))⟩
  split at e
  · rename_i s2 hx2
    simp only [Option.some.injEq, Prod.mk.injEq] at e; obtain ⟨rfl, rfl, rfl⟩ := e
    refine rest _ s2 hx2 true none _ fun x' E2 a2 w3 hxx hrun hu hdom hn hlow => ?_
    cases x' <;> first | (exact hxx.elim) | skip
    exact ⟨_, _, hrun, E2, hu rfl, hlow, hdom, hn, rfl⟩
  · rename_i s2 hx2
    simp only [Option.some.injEq, Prod.mk.injEq] at e; obtain ⟨rfl, rfl, rfl⟩ := e
    refine rest _ s2 hx2 false (some .ret) _ fun x' E2 a2 w3 hxx hrun hu hdom hn hlow => ?_
    cases x' <;> first | (exact hxx.elim) | skip
    exact ⟨_, _, hrun, E2, hu rfl, hlow, hdom, hn, rfl⟩
  · rename_i j s2 hx2
    simp only [Option.some.injEq, Prod.mk.injEq] at e; obtain ⟨rfl, rfl, rfl⟩ := e
    refine rest _ s2 hx2 false (some (.exit j)) _ fun x' E2 a2 w3 hxx hrun hu hdom hn hlow => ?_
    cases x' <;> first | (exact hxx.elim) | skip
    have : _ = j := hxx.symm
    subst this
    exact ⟨_, _, hrun, E2, hu rfl, hlow, hdom, hn, rfl⟩
  · cases e
theorem step_ok (hcf : CallOk P cf) (hm : P.follows .mixedOrders = true) (hpo : progOk P = true) : CallOk P (fun f args h n => if f < P.funcs.size then enter P cf F f args h n else aRound P cf F (f - P.funcs.size) args h n) := by
  intro f args h n out h' n' e E w args' ra g hd
  simp only at e
  split at e
  · rename_i hlt
    exact ⟨fun _ => enter_sound hcf hm hpo e ra g hd, fun m l s hf _ => absurd hlt (by rw [hf]; exact Nat.not_lt.2 (Nat.le_add_right _ _))⟩
  · rename_i hge
    refine ⟨fun hc => ?_, fun m l s hf hι => ?_⟩
    · exfalso
      unfold callee at hc
      rw [Array.getElem?_eq_none (Nat.not_lt.1 hge)] at hc
      cases hc
    · subst hf
      rw [Nat.add_sub_cancel_left] at e
      exact round_sound hcf hm e ra g hd hι
theorem call_sound' (hm : P.follows .mixedOrders = true) (hpo : progOk P = true) : ∀ k, CallOk P (call P F k)
  | 0 => fun _ _ _ _ _ _ _ e => by cases e
  | k + 1 => step_ok (call_sound' hm hpo k) hm hpo
end
end Go.Eng
namespace Go.Eng
open Go Go.RowKit
def E0 : Env := ⟨fun _ => none, fun _ => 0⟩
theorem good0 (w : World) : Good E0 .nil w := ⟨fun m o h => by simp [Tr.get] at h, fun m _ _ _ _ _ h => absurd rfl h.live, fun m b s h => by simp [E0] at h⟩
theorem dom0 (n : Nat) : Dom E0 n := fun _ _ => rfl
mutual
def V.free : V → Bool
  | .ptr (some _) => false
  | .slc (some _) _ _ _ => false
  | .map (some _) => false
  | .fn f a c => noYield f && (V.frees a && V.frees c)
  | .iface _ x => V.free x
  | .agg cs => V.frees cs
  | .tup cs => V.frees cs
  | _ => true
def V.frees : List V → Bool
  | [] => true
  | x :: xs => V.free x && V.frees xs
end
mutual
theorem free_rel {E E' : Env} : ∀ (v : V) (v' : Value), v.free = true → vrel E v v' → vrel E' v v'
  | .bool _, _, _, r => r
  | .int _ _, _, _, r => r
  | .str _, _, _, r => r
  | .ptr none, _, _, r => r
  | .ptr (some _), _, h, _ => by simp [V.free] at h
  | .slc none _ _ _, _, _, r => r
  | .slc (some _) _ _ _, _, h, _ => by simp [V.free] at h
  | .map none, _, _, r => r
  | .map (some _), _, h, _ => by simp [V.free] at h
  | .fn f a c, _, h, ⟨f', a', c', rf, ra, rc, q⟩ => by
    simp only [V.free, Bool.and_eq_true] at h
    refine ⟨f', a', c', ?_, frees_rel a a' h.2.1 ra, frees_rel c c' h.2.2 rc, q⟩
    cases f <;> first | exact rf | (simp [noYield] at h; done)
  | .nilFn, _, _, r => r
  | .iface _ x, _, h, ⟨x', r, q⟩ => ⟨x', free_rel x x' (by simpa only [V.free] using h) r, q⟩
  | .nilIface, _, _, r => r
  | .agg cs, _, h, ⟨cs', r, q⟩ => ⟨cs', frees_rel cs cs' (by simpa only [V.free] using h) r, q⟩
  | .tup cs, _, h, ⟨cs', r, q⟩ => ⟨cs', frees_rel cs cs' (by simpa only [V.free] using h) r, q⟩
theorem frees_rel {E E' : Env} : ∀ (v : List V) (v' : List Value), V.frees v = true → vrels E v v' → vrels E' v v'
  | [], _, _, r => r
  | x :: xs, _, h, ⟨y, ys, r, rs, q⟩ => by
    simp only [V.frees, Bool.and_eq_true] at h
    exact ⟨y, ys, free_rel x y h.1 r, frees_rel xs ys h.2 rs, q⟩
end
def look (f : FuncId) (args : List V) : List (FuncId × List V × V) → Option V
  | [] => none
  | x :: r => match Nat.beq f x.1 && V.beqs args x.2.1 with
    | true => some x.2.2
    | false => look f args r
def memo (T : List (FuncId × List V × V)) (cf : CallF) : CallF := fun f args h n => match look f args T with
  | some v => some (.ret v, h, n)
  | none => cf f args h n
def SpecOk (P : Program) (x : FuncId × List V × V) : Prop := x.1 < P.funcs.size ∧ V.frees x.2.1 = true ∧ x.2.2.free = true ∧ ∃ cf h' n', CallOk P cf ∧ cf x.1 x.2.1 .nil 0 = some (.ret x.2.2, h', n')
theorem look_mem {f : FuncId} {args : List V} {v : V} : ∀ {T : List (FuncId × List V × V)}, look f args T = some v → (f, args, v) ∈ T
  | [], h => by simp [look] at h
  | x :: r, h => by
    simp only [look] at h
    split at h
    · rename_i hb
      simp only [Bool.and_eq_true] at hb
      simp only [Option.some.injEq] at h
      rw [Nat.eq_of_beq_eq_true hb.1, beqs_eq _ _ hb.2, ← h]
      simp
    · exact List.mem_cons_of_mem _ (look_mem h)
theorem spec_calls {P : Program} {f : FuncId} {args : List V} {v : V} (hs : SpecOk P (f, args, v)) {E : Env} {h : Tr O} {n : Nat} {w : World} {args' : List Value} (ra : vrels E args args') (g : Good E h w) (hd : Dom E n) (hc : callee P f = true) :
    Calls P f args'.toArray w (CPost E h n w (.ret v) h n) := by
  obtain ⟨_, ha, hv, cf, h', n', hcf, e⟩ := hs
  refine (hcf f args .nil 0 _ h' n' e E0 w args' (frees_rel _ _ ha ra) (good0 w) (dom0 0)).1 hc |>.mono fun en w' ⟨E1, u, _, _, _, ho⟩ => ?_
  have hk : ∀ b, b < w.heap.size → w'.heap[b]? = w.heap[b]? := fun b hb => u.keep b hb fun m s hm => absurd rfl hm.live
  refine ⟨E, ⟨E.le_refl, ⟨?_, g.inj, fun m b s hm => Nat.lt_of_lt_of_le (g.bnd m b s hm) u.size⟩, u.size, u.tape, u.os, u.output, fun b hb _ => hk b hb, fun m b s hm he _ => ⟨m, s, hm, he, id⟩⟩, fun _ _ => rfl, hd, Nat.le_refl _, ?_⟩
  · intro m o hm
    obtain ⟨b, s, h1, h2⟩ := g.rel m o hm
    exact ⟨b, s, h1, orel_mono E.le_refl rfl (hk b (g.bnd m b s h1)) h2⟩
  · cases en with
    | returned v' => exact free_rel _ _ hv ho
    | _ => exact ho.elim
theorem memo_ok {P : Program} {T : List (FuncId × List V × V)} {cf : CallF} (hT : ∀ x ∈ T, SpecOk P x) (hc : CallOk P cf) : CallOk P (memo T cf) := by
  intro f args h n out h' n' e E w args' ra g hd
  unfold memo at e
  split at e
  · rename_i v hl
    simp only [Option.some.injEq, Prod.mk.injEq] at e
    obtain ⟨rfl, rfl, rfl⟩ := e
    exact ⟨fun hcal => spec_calls (hT _ (look_mem hl)) ra g hd hcal, fun m l s hf _ => absurd (hT _ (look_mem hl)).1 (by simp only [hf]; exact Nat.not_lt.2 (Nat.le_add_right _ _))⟩
  · exact hc f args h n out h' n' e E w args' ra g hd
def callM (P : Program) (T : List (FuncId × List V × V)) (F : Nat) : Nat → CallF
  | 0 => fun _ _ _ _ => none
  | k + 1 => memo T fun f args h n => if f < P.funcs.size then enter P (callM P T F k) F f args h n else aRound P (callM P T F k) F (f - P.funcs.size) args h n
theorem callM_ok {P : Program} {T : List (FuncId × List V × V)} {F : Nat} (hm : P.follows .mixedOrders = true) (hpo : progOk P = true) (hT : ∀ x ∈ T, SpecOk P x) : ∀ k, CallOk P (callM P T F k)
  | 0 => fun _ _ _ _ _ _ _ e => by cases e
  | k + 1 => memo_ok hT (step_ok (callM_ok hm hpo hT k) hm hpo)
structure Upd0 (w0 : World) (E : Env) (h : Tr O) (w : World) : Prop where
  good : Good E h w
  size : w0.heap.size ≤ w.heap.size
  tape : w.tape = w0.tape
  os : w.os = w0.os
  output : w.output = w0.output
  keep : ∀ b, b < w0.heap.size → w.heap[b]? = w0.heap[b]?
  img : ∀ m b s, wlive h m → E.ι m = some (b, s) → b < w0.heap.size → False
theorem Upd0.trans {w0 : World} {E E' : Env} {h h' : Tr O} {w w' : World} (a : Upd0 w0 E h w) (b : Upd E h w E' h' w') : Upd0 w0 E' h' w' where
  good := b.good
  size := Nat.le_trans a.size b.size
  tape := b.tape.trans a.tape
  os := b.os.trans a.os
  output := b.output.trans a.output
  keep := fun x hx => by
    rw [b.keep x (Nat.lt_of_lt_of_le hx a.size) fun m s hm e => a.img m x s hm e hx, a.keep x hx]
  img := fun m x s hm e hx => by
    obtain ⟨m1, s1, _, e1, k1⟩ := b.img m x s hm.live e (Nat.lt_of_lt_of_le hx a.size)
    exact a.img m1 x s1 (k1 hm) e1 hx
theorem Upd0.init {E : Env} {h : Tr O} {w : World} (g : Good E h w) (hr : ∀ m, ¬ wlive h m) : Upd0 w E h w :=
  ⟨g, Nat.le_refl _, rfl, rfl, rfl, fun _ _ => rfl, fun m _ _ hm _ _ => hr m hm⟩
theorem Upd0.below {w0 : World} {E : Env} {h : Tr O} {w : World} (u : Upd0 w0 E h w) : Below w0.heap.size w0 w :=
  ⟨u.os, u.tape, u.output, u.size, fun k hk => u.keep k hk⟩
def Run0 (N : Nat) (w0 : World) (s : St) (a : Act) (w : World) : Prop := ∃ E, SRel E N s a w ∧ Upd0 w0 E s.h w
theorem Run0.below {N : Nat} {w0 : World} {s : St} {a : Act} {w : World} (i : Run0 N w0 s a w) : Below w0.heap.size w0 w := by
  obtain ⟨E, _, u⟩ := i
  exact u.below
def X.plain : X → Option Exit
  | .normal => some .normal
  | .exit i => some (.exit i)
  | .ret => some .ret
  | .panic _ => none
theorem exec_inv {P : Program} {cf : CallF} {F N : Nat} (hcf : CallOk P cf) (hm : P.follows .mixedOrders = true) {c : Code} {s s' : St} {x : X} {y : Exit} (hc : codeOk N c = true) (e : exec P cf F c s = some (x, s')) (hx : x.plain = some y)
    {w0 : World} {a : Act} {w : World} {Q : Exit → Act → World → Prop} (i : Run0 N w0 s a w) (hq : ∀ a' w', Run0 N w0 s' a' w' → Q y a' w') : c.wp P Q a w := by
  obtain ⟨E, r, u⟩ := i
  refine wpIn_wide (n := 0) |>.1 ?_
  refine exec_sound (rnd := none) hcf hm c s x s' (.inl rfl) hc e E a w Q r fun E' a' w' x' u' _ _ r' hxx => ?_
  have : x' = y := by
    cases x <;> cases x' <;> simp only [xrel, X.plain, Option.some.injEq, reduceCtorEq] at hxx hx <;> first | exact hx | (subst hxx; exact hx)
  subst this
  exact hq a' w' ⟨E', r', u.trans u'⟩
mutual
def V.names : V → List Nat → List Nat
  | .ptr (some (m, _)), l => m :: l
  | .slc (some (m, _)) _ _ _, l => m :: l
  | .map (some m), l => m :: l
  | .fn f a c, l => match f with
    | .yield m => m :: V.namess a (V.namess c l)
    | _ => V.namess a (V.namess c l)
  | .iface _ x, l => V.names x l
  | .agg cs, l => V.namess cs l
  | .tup cs, l => V.namess cs l
  | _, l => l
def V.namess : List V → List Nat → List Nat
  | [], l => l
  | x :: xs, l => V.names x (V.namess xs l)
end
def entNames : List (V × V × Nat) → List Nat
  | [] => []
  | x :: xs => V.names x.1 (V.names x.2.1 (entNames xs))
def O.names : O → List Nat
  | .cells cs => V.namess cs []
  | .map es _ => entNames es
  | .siter _ _ => []
  | .ints _ _ => []
  | .own _ _ => []
  | .dfr => []
  | .loop .. => []
def trav (h : Tr O) : Nat → List Nat → Tr Nat → List Nat → Nat → Option (Tr Nat × List Nat × Nat)
  | 0, _, _, _, _ => none
  | _ + 1, [], ρ, olds, k => some (ρ, olds, k)
  | f + 1, m :: q, ρ, olds, k => match ρ.get m with
    | some _ => trav h f q ρ olds k
    | none => trav h f ((match h.get m with | some o => o.names | none => []) ++ q) (ρ.set m (some k)) (m :: olds) (k + 1)
def backOf : List Nat → Nat → Tr Nat → Tr Nat
  | [], _, t => t
  | m :: r, k, t => backOf r (k - 1) (t.set (k - 1) (some m))
def nameOf (ρ back : Tr Nat) (n2 m : Nat) : Option Nat :=
  match ρ.get m with
  | some k => match back.get k with
    | some m' => match Nat.beq m m' && Nat.blt k n2 with
      | true => some k
      | false => none
    | none => none
  | none => none
theorem nameOf_spec {ρ back : Tr Nat} {n2 m k : Nat} (h : nameOf ρ back n2 m = some k) : ρ.get m = some k ∧ back.get k = some m ∧ k < n2 := by
  unfold nameOf at h
  split at h
  · rename_i k' h1
    split at h
    · rename_i m' h2
      split at h
      · rename_i hb
        simp only [Bool.and_eq_true] at hb
        simp only [Option.some.injEq] at h
        subst h
        have e := Nat.eq_of_beq_eq_true hb.1
        subst e
        exact ⟨h1, h2, by have := hb.2; simp [Nat.blt] at this; omega⟩
      · cases h
    · cases h
  · cases h
section
variable (ν : Nat → Option Nat)
mutual
def V.ren : V → Option V
  | .ptr (some (m, o)) => match ν m with
    | some k => some (.ptr (some (k, o)))
    | none => none
  | .slc (some (m, o)) l c e => match ν m with
    | some k => some (.slc (some (k, o)) l c e)
    | none => none
  | .map (some m) => match ν m with
    | some k => some (.map (some k))
    | none => none
  | .fn f a c => match noYield f with
    | true => match V.rens a with
      | some a => match V.rens c with
        | some c => some (.fn f a c)
        | none => none
      | none => none
    | false => none
  | .iface t x => match V.ren x with
    | some x => some (.iface t x)
    | none => none
  | .agg cs => match V.rens cs with
    | some cs => some (.agg cs)
    | none => none
  | .tup cs => match V.rens cs with
    | some cs => some (.tup cs)
    | none => none
  | .bool b => some (.bool b)
  | .int k n => some (.int k n)
  | .str s => some (.str s)
  | .ptr none => some (.ptr none)
  | .slc none l c e => some (.slc none l c e)
  | .map none => some (.map none)
  | .nilFn => some .nilFn
  | .nilIface => some .nilIface
def V.rens : List V → Option (List V)
  | [] => some []
  | x :: xs => match V.ren x with
    | some x => match V.rens xs with
      | some xs => some (x :: xs)
      | none => none
    | none => none
end
def renEs : List (V × V × Nat) → Option (List (V × V × Nat))
  | [] => some []
  | x :: xs => match V.ren ν x.1, V.ren ν x.2.1, renEs xs with
    | some k, some v, some xs => some ((k, v, x.2.2) :: xs)
    | _, _, _ => none
def O.ren : O → Option O
  | .cells cs => match V.rens ν cs with
    | some cs => some (.cells cs)
    | none => none
  | .map es c => match renEs ν es with
    | some es => some (.map es c)
    | none => none
  | .siter s p => some (.siter s p)
  | .ints k ks => some (.ints k ks)
  | .own k ks => some (.own k ks)
  | .dfr => none
  | .loop .. => none
end
mutual
theorem ren_rel {ν : Nat → Option Nat} {E E' : Env} (hι : ∀ m k, ν m = some k → E'.ι k = E.ι m) (hβ : E'.β = E.β) : ∀ (v v2 : V) (v' : Value), v.ren ν = some v2 → vrel E v v' → vrel E' v2 v'
  | .bool _, v2, _, h, r => by simp only [V.ren, Option.some.injEq] at h; subst h; exact r
  | .int _ _, v2, _, h, r => by simp only [V.ren, Option.some.injEq] at h; subst h; exact r
  | .str _, v2, _, h, r => by simp only [V.ren, Option.some.injEq] at h; subst h; exact r
  | .ptr none, v2, _, h, r => by simp only [V.ren, Option.some.injEq] at h; subst h; exact r
  | .ptr (some (m, o)), v2, _, h, ⟨b, s, e, q⟩ => by
    simp only [V.ren] at h
    split at h
    · rename_i k hk; simp only [Option.some.injEq] at h; subst h; exact ⟨b, s, (hι m k hk).trans e, q⟩
    · cases h
  | .slc none _ _ _, v2, _, h, r => by simp only [V.ren, Option.some.injEq] at h; subst h; exact r
  | .slc (some (m, o)) _ _ _, v2, _, h, ⟨b, s, o', cap', e, q1, q2, q3, q4, q5⟩ => by
    simp only [V.ren] at h
    split at h
    · rename_i k hk; simp only [Option.some.injEq] at h; subst h; exact ⟨b, s, o', cap', (hι m k hk).trans e, q1, q2, q3, by rw [hβ]; exact q4, q5⟩
    · cases h
  | .map none, v2, _, h, r => by simp only [V.ren, Option.some.injEq] at h; subst h; exact r
  | .map (some m), v2, _, h, ⟨b, e, q⟩ => by
    simp only [V.ren] at h
    split at h
    · rename_i k hk; simp only [Option.some.injEq] at h; subst h; exact ⟨b, (hι m k hk).trans e, q⟩
    · cases h
  | .fn f a c, v2, _, h, ⟨f', a', c', rf, ra, rc, q⟩ => by
    simp only [V.ren] at h
    split at h
    · rename_i hny
      split at h
      · rename_i a2 ha
        split at h
        · rename_i c2 hc; simp only [Option.some.injEq] at h; subst h
          refine ⟨f', a', c', ?_, rens_rel hι hβ a a2 a' ha ra, rens_rel hι hβ c c2 c' hc rc, q⟩
          cases f <;> first | exact rf | (simp [noYield] at hny; done)
        · cases h
      · cases h
    · cases h
  | .nilFn, v2, _, h, r => by simp only [V.ren, Option.some.injEq] at h; subst h; exact r
  | .iface t x, v2, _, h, ⟨x', r, q⟩ => by
    simp only [V.ren] at h
    split at h
    · rename_i x2 hx; simp only [Option.some.injEq] at h; subst h; exact ⟨x', ren_rel hι hβ x x2 x' hx r, q⟩
    · cases h
  | .nilIface, v2, _, h, r => by simp only [V.ren, Option.some.injEq] at h; subst h; exact r
  | .agg cs, v2, _, h, ⟨cs', r, q⟩ => by
    simp only [V.ren] at h
    split at h
    · rename_i x2 hx; simp only [Option.some.injEq] at h; subst h; exact ⟨cs', rens_rel hι hβ cs x2 cs' hx r, q⟩
    · cases h
  | .tup cs, v2, _, h, ⟨cs', r, q⟩ => by
    simp only [V.ren] at h
    split at h
    · rename_i x2 hx; simp only [Option.some.injEq] at h; subst h; exact ⟨cs', rens_rel hι hβ cs x2 cs' hx r, q⟩
    · cases h
theorem rens_rel {ν : Nat → Option Nat} {E E' : Env} (hι : ∀ m k, ν m = some k → E'.ι k = E.ι m) (hβ : E'.β = E.β) : ∀ (v v2 : List V) (v' : List Value), V.rens ν v = some v2 → vrels E v v' → vrels E' v2 v'
  | [], v2, _, h, r => by simp only [V.rens, Option.some.injEq] at h; subst h; exact r
  | x :: xs, v2, _, h, ⟨y, ys, r, rs, q⟩ => by
    simp only [V.rens] at h
    split at h
    · rename_i x2 hx
      split at h
      · rename_i xs2 hxs; simp only [Option.some.injEq] at h; subst h; exact ⟨y, ys, ren_rel hι hβ x x2 y hx r, rens_rel hι hβ xs xs2 ys hxs rs, q⟩
      · cases h
    · cases h
end
section
variable {ν : Nat → Option Nat} {E E' : Env} (hι : ∀ m k, ν m = some k → E'.ι k = E.ι m) (hβ : E'.β = E.β)
include hι hβ
theorem renEs_rel : ∀ (es es2 : List (V × V × Nat)) (es' : List MapEntry), renEs ν es = some es2 → erels E es es' → erels E' es2 es'
  | [], _, _, h, r => by simp only [renEs, Option.some.injEq] at h; subst h; exact r
  | x :: xs, _, _, h, ⟨y, ys, a, b, c, r, q⟩ => by
    simp only [renEs] at h
    split at h
    · rename_i k v xs2 hk hv hxs
      simp only [Option.some.injEq] at h; subst h
      exact ⟨y, ys, ren_rel hι hβ _ _ _ hk a, ren_rel hι hβ _ _ _ hv b, c, renEs_rel xs xs2 ys hxs r, q⟩
    · cases h
theorem renO_rel {w : World} {b s : Nat} : ∀ (o o2 : O), o.ren ν = some o2 → orel E w b s o → orel E' w b s o2
  | .cells cs, o2, h, ⟨c, el, fz, h1, h2, h3, h4⟩ => by
    simp only [O.ren] at h
    split at h
    · rename_i cs2 hcs
      simp only [Option.some.injEq] at h; subst h
      refine ⟨c, el, fz, h1, by rw [hβ]; exact h2, h3, ?_⟩
      have : ∀ (cs cs2 : List V), V.rens ν cs = some cs2 → ∀ (s : Nat), crel E s cs c → crel E' s cs2 c := by
        intro cs
        induction cs with
        | nil => intro cs2 h s r; simp only [V.rens, Option.some.injEq] at h; subst h; intro i v e; simp at e
        | cons x xs ih =>
          intro cs2 h s r
          simp only [V.rens] at h
          split at h
          · rename_i x2 hx
            split at h
            · rename_i xs2 hxs
              simp only [Option.some.injEq] at h; subst h
              intro i v e
              cases i with
              | zero =>
                simp only [List.getElem?_cons_zero, Option.some.injEq] at e; subst e
                obtain ⟨v', k1, k2⟩ := r 0 x (by simp)
                exact ⟨v', k1, ren_rel hι hβ _ _ _ hx k2⟩
              | succ i =>
                simp only [List.getElem?_cons_succ] at e
                obtain ⟨v', k1, k2⟩ := ih xs2 hxs (s + 1) (fun j v e => by
                  obtain ⟨v', k1, k2⟩ := r (j + 1) v (by simpa using e)
                  exact ⟨v', by rw [← k1]; congr 1; omega, k2⟩) i v e
                exact ⟨v', by rw [← k1]; congr 1; omega, k2⟩
            · cases h
          · cases h
      exact this cs cs2 hcs s h4
    · cases h
  | .map es cl, o2, h, ⟨hs, es', h1, h2⟩ => by
    simp only [O.ren] at h
    split at h
    · rename_i es2 hes
      simp only [Option.some.injEq] at h; subst h
      exact ⟨hs, es', h1, renEs_rel hι hβ _ _ _ hes h2⟩
    · cases h
  | .siter st p, o2, h, r => by simp only [O.ren, Option.some.injEq] at h; subst h; exact r
  | .ints k ks, o2, h, ⟨c, el, fz, h1, h2, h3⟩ => by simp only [O.ren, Option.some.injEq] at h; subst h; exact ⟨c, el, fz, h1, by rw [hβ]; exact h2, h3⟩
  | .own k ks, o2, h, ⟨c, el, fz, h1, h2, h3, h4⟩ => by simp only [O.ren, Option.some.injEq] at h; subst h; exact ⟨c, el, fz, h1, by rw [hβ]; exact h2, h3, crel_ints_env h4⟩
  | .dfr, o2, h, _ => by simp [O.ren] at h
  | .loop .., o2, h, _ => by simp [O.ren] at h
end
theorem ren_wr {ν : Nat → Option Nat} {o o2 : O} (h : o.ren ν = some o2) : o2.wr = o.wr := by
  cases o with
  | cells cs =>
    simp only [O.ren] at h; split at h
    · simp only [Option.some.injEq] at h; subst h; rfl
    · cases h
  | map es c =>
    simp only [O.ren] at h; split at h
    · simp only [Option.some.injEq] at h; subst h; rfl
    · cases h
  | siter s p => simp only [O.ren, Option.some.injEq] at h; subst h; rfl
  | ints k ks => simp only [O.ren, Option.some.injEq] at h; subst h; rfl
  | own k ks => simp only [O.ren, Option.some.injEq] at h; subst h; rfl
  | dfr => simp [O.ren] at h
  | loop => simp [O.ren] at h
def heapOf (ν : Nat → Option Nat) (h : Tr O) : List Nat → Tr O → Option (Tr O)
  | [], t => some t
  | m :: r, t => match h.get m with
    | none => heapOf ν h r t
    | some o => match ν m with
      | some k => match o.ren ν with
        | some o2 => match Nat.blt k top with
          | true => heapOf ν h r (t.set k (some o2))
          | false => none
        | none => none
      | none => none
theorem heapOf_spec {ν : Nat → Option Nat} {h : Tr O} : ∀ (l : List Nat) (t t2 : Tr O), heapOf ν h l t = some t2 → (∀ k o2, t.get k = some o2 → ∃ m o, ν m = some k ∧ h.get m = some o ∧ o.ren ν = some o2) →
    ∀ k o2, t2.get k = some o2 → ∃ m o, ν m = some k ∧ h.get m = some o ∧ o.ren ν = some o2
  | [], t, t2, e, ht => by simp only [heapOf, Option.some.injEq] at e; subst e; exact ht
  | m :: r, t, t2, e, ht => by
    simp only [heapOf] at e
    split at e
    · exact heapOf_spec r t t2 e ht
    · rename_i o ho
      split at e
      · rename_i k hk
        split at e
        · rename_i o2 ho2
          split at e
          · rename_i hlt
            refine heapOf_spec r _ t2 e fun j o3 h3 => ?_
            rw [Tr.get_set _ _ _ (by simp [Nat.blt] at hlt; omega)] at h3
            split at h3
            · rename_i hj; simp only [Option.some.injEq] at h3; subst h3; subst hj; exact ⟨m, o, hk, ho, ho2⟩
            · exact ht j o3 h3
          · cases e
        · cases e
      · cases e
def frameLive (ν : Nat → Option Nat) (fr : Tr V) : List Nat → Tr V → Option (Tr V)
  | [], t => some t
  | m :: r, t => match fr.get m with
    | none => frameLive ν fr r t
    | some v => match v.ren ν with
      | some v2 => match Nat.blt m top with
        | true => frameLive ν fr r (t.set m (some v2))
        | false => none
      | none => none
theorem frameLive_spec {ν : Nat → Option Nat} {fr : Tr V} : ∀ (l : List Nat) (t t2 : Tr V), frameLive ν fr l t = some t2 → (∀ k v2, t.get k = some v2 → ∃ v, fr.get k = some v ∧ v.ren ν = some v2) →
    ∀ k v2, t2.get k = some v2 → ∃ v, fr.get k = some v ∧ v.ren ν = some v2
  | [], t, t2, e, ht => by simp only [frameLive, Option.some.injEq] at e; subst e; exact ht
  | m :: r, t, t2, e, ht => by
    simp only [frameLive] at e
    split at e
    · exact frameLive_spec r t t2 e ht
    · rename_i v hv
      split at e
      · rename_i v2 hv2
        split at e
        · rename_i hlt
          refine frameLive_spec r _ t2 e fun j o3 h3 => ?_
          rw [Tr.get_set _ _ _ (by simp [Nat.blt] at hlt; omega)] at h3
          split at h3
          · rename_i hj; simp only [Option.some.injEq] at h3; subst h3; subst hj; exact ⟨v, hv, hv2⟩
          · exact ht j o3 h3
        · cases e
      · cases e
def rootNames (fr : Tr V) : List Nat → List Nat
  | [] => []
  | t :: r => match fr.get t with
    | some v => v.names (rootNames fr r)
    | none => rootNames fr r
def norm (live : List Nat) (s : St) : Option St :=
  match s.dfs with
  | [] => match trav s.h 100000 (rootNames s.fr live) .nil [] 0 with
    | some (ρ, olds, k) =>
      let ν := nameOf ρ (backOf olds k .nil) k
      match heapOf ν s.h olds .nil with
      | some h2 => match frameLive ν s.fr live .nil with
        | some fr2 => some { fr := fr2, h := h2, n := k, dfs := [] }
        | none => none
      | none => none
    | none => none
  | _ => none
theorem norm_sound {N : Nat} {w0 : World} {live : List Nat} {s s2 : St} {a : Act} {w : World} (e : norm live s = some s2) (i : Run0 N w0 s a w) : Run0 N w0 s2 a w := by
  obtain ⟨E, r, u⟩ := i
  unfold norm at e
  split at e
  · rename_i hdf
    split at e
    · rename_i ρ olds k ht
      revert e
      generalize hback : backOf olds k .nil = back
      intro e
      simp only at e
      split at e
      · rename_i h2 hh
        split at e
        · rename_i fr2 hfr
          simp only [Option.some.injEq] at e
          subst e
          let E2 : Env := ⟨fun m => if m < k then (match back.get m with | some old => E.ι old | none => none) else none, E.β⟩
          have hι : ∀ m j, nameOf ρ back k m = some j → E2.ι j = E.ι m := by
            intro m j hj
            obtain ⟨_, h2, h3⟩ := nameOf_spec hj
            show (if j < k then (match back.get j with | some old => E.ι old | none => none) else none) = _
            rw [if_pos h3, h2]
          have hh2 := heapOf_spec olds .nil h2 hh (fun j o hj => by simp [Tr.get] at hj)
          have good2 : Good E2 h2 w := by
            refine ⟨?_, ?_, ?_⟩
            · intro m o2 hm
              obtain ⟨old, o, k1, k2, k3⟩ := hh2 m o2 hm
              obtain ⟨b, s', e1, e2⟩ := r.good.rel old o k2
              exact ⟨b, s', (hι old m k1).trans e1, renO_rel hι rfl o o2 k3 e2⟩
            · intro m m' b s1 s2 hne hm hm' e1 e2
              obtain ⟨o, ho, hwo⟩ := hm
              obtain ⟨o', ho'⟩ := Option.ne_none_iff_exists'.1 hm'
              obtain ⟨old, p, k1, k2, k3⟩ := hh2 m o ho
              obtain ⟨old', p', k1', k2', _⟩ := hh2 m' o' ho'
              rw [hι old m k1] at e1
              rw [hι old' m' k1'] at e2
              by_cases hold : old = old'
              · subst hold
                rw [k1] at k1'
                simp only [Option.some.injEq] at k1'
                exact hne k1'
              · exact r.good.inj old old' b s1 s2 hold ⟨p, k2, (ren_wr k3).symm.trans hwo⟩ (by rw [k2']; simp) e1 e2
            · intro m b s1 e1
              have e1 : (if m < k then (match back.get m with | some old => E.ι old | none => none) else none) = some (b, s1) := e1
              split at e1
              · split at e1
                · exact r.good.bnd _ b s1 e1
                · cases e1
              · cases e1
          refine ⟨E2, ⟨good2, ?_, ?_, r.size, ?_⟩, ?_⟩
          · intro m hm
            show (if m < k then _ else none) = none
            rw [if_neg (by show ¬ m < k; have : k ≤ m := hm; omega)]
          · intro t v2 hv
            obtain ⟨v, k1, k2⟩ := frameLive_spec live .nil fr2 hfr (fun j o hj => by simp [Tr.get] at hj) t v2 hv
            obtain ⟨v', h1, h2⟩ := r.fr t v k1
            exact ⟨v', h1, ren_rel hι rfl v v2 v' k2 h2⟩
          · have := r.dfs; rw [hdf] at this; exact this
          · refine ⟨good2, u.size, u.tape, u.os, u.output, u.keep, ?_⟩
            intro m b s1 hm e1 hb
            obtain ⟨o, ho, hwo⟩ := hm
            obtain ⟨old, p, k1, k2, k3⟩ := hh2 m o ho
            rw [hι old m k1] at e1
            exact u.img old b s1 ⟨p, k2, (ren_wr k3).symm.trans hwo⟩ e1 hb
        · cases e
      · cases e
    · cases e
  · cases e
end Go.Eng
namespace Go.Eng
open Go Go.RowKit
def isSeq : Code → Bool | .seq _ _ => true | _ => false
def seqL : Code → Code | .seq a _ => a | c => c
def seqR : Code → Code | .seq _ b => b | c => c
def isCond (c : Code) (o : Operand → Bool) : Bool := match c with | .cond x _ _ => o x | _ => false
def condO : Code → Operand | .cond c _ _ => c | _ => .const (.bool true)
def condT : Code → Code | .cond _ a _ => a | c => c
def condF : Code → Code | .cond _ _ b => b | c => c
def isBlock : Code → Nat → Bool | .block i _, j => Nat.beq i j | _, _ => false
def isLoop : Code → Bool | .loop _ => true | _ => false
def inner : Code → Code | .block _ c => c | .loop c => c | c => c
def headN : Nat → Code → Code
  | k + 1, .seq a b => .seq a (headN k b)
  | _, _ => .skip
def tailN : Nat → Code → Code
  | k + 1, .seq _ b => tailN k b
  | _, c => c
def T (P : Program) (N : Nat) (w0 : World) (c : Code) (s : St) (Q : Exit → St → Prop) : Prop :=
  ∀ (K : Exit → Act → World → Prop) (a : Act) (w : World), Run0 N w0 s a w → (∀ y s' a' w', Q y s' → Run0 N w0 s' a' w' → K y a' w') → c.wp P K a w
section
variable {P : Program} {cf : CallF} {F N : Nat} {w0 : World} {c : Code} {s s' : St} {Q Q1 : Exit → St → Prop}
theorem T_mono (h : T P N w0 c s Q1) (hq : ∀ y s', Q1 y s' → Q y s') : T P N w0 c s Q := fun _ a w r k => h _ a w r fun y s' a' w' q => k y s' a' w' (hq y s' q)
theorem T_exec (hcf : CallOk P cf) (hm : P.follows .mixedOrders = true) {x : X} {y : Exit} (hc : codeOk N c = true) (e : exec P cf F c s = some (x, s')) (hx : x.plain = some y) (hq : Q y s') : T P N w0 c s Q :=
  fun _ _ _ r k => exec_inv hcf hm hc e hx r fun a' w' r' => k y s' a' w' hq r'
theorem T_norm {live : List Nat} {s2 : St} (e : norm live s = some s2) (h : T P N w0 c s2 Q) : T P N w0 c s Q :=
  fun K a w r k => h K a w (norm_sound e r) k
def andThen (R : St → Prop) (Q : Exit → St → Prop) : Exit → St → Prop
  | .normal, s => R s
  | y, s => Q y s
theorem T_seq {c1 c2 : Code} (h : T P N w0 c1 s (andThen (fun s' => T P N w0 c2 s' Q) Q)) : T P N w0 (.seq c1 c2) s Q := by
  intro K a w r k
  refine wp_seq (h _ a w r fun y s' a' w' q r' => ?_)
  cases y <;> first | exact q K a' w' r' k | exact k _ s' a' w' q r'
theorem T_seq' (hs : isSeq c = true) (h : T P N w0 (seqL c) s (andThen (fun s' => T P N w0 (seqR c) s' Q) Q)) : T P N w0 c s Q := by
  cases c <;> simp only [isSeq, Bool.false_eq_true] at hs
  exact T_seq h
theorem T_cond {t : Bool} (hc : isCond c (fun _ => true) = true) (ho : opd s.fr (condO c) = some (.bool t)) (h1 : t = true → T P N w0 (condT c) s Q) (h2 : t = false → T P N w0 (condF c) s Q) : T P N w0 c s Q := by
  cases c <;> simp only [isCond, Bool.false_eq_true] at hc
  intro K a w r k
  obtain ⟨E, r0, _⟩ := id r
  cases t
  · exact wp_cond_false (cond_rel r0.fr ho) (h2 rfl K a w r k)
  · exact wp_cond_true (cond_rel r0.fr ho) (h1 rfl K a w r k)
def outOf (i : Nat) (Q : Exit → St → Prop) : Exit → St → Prop
  | .exit j, s => if j = i then Q .normal s else Q (.exit j) s
  | y, s => Q y s
theorem T_block {i : Nat} (hc : isBlock c i = true) (h : T P N w0 (inner c) s (outOf i Q)) : T P N w0 c s Q := by
  cases c <;> simp only [isBlock, Bool.false_eq_true] at hc
  rename_i j b
  have := Nat.eq_of_beq_eq_true hc
  subst this
  intro K a w r k
  refine wp_block (h _ a w r fun y s' a' w' q r' => ?_)
  cases y <;> first | exact k _ s' a' w' q r' | skip
  simp only [Exit.inBlock, outOf] at q ⊢
  split
  · rename_i he; rw [if_pos he] at q; exact k _ s' a' w' q r'
  · rename_i he; rw [if_neg he] at q; exact k _ s' a' w' q r'
def TR (P : Program) (N : Nat) (w0 : World) (c : Code) (Q : Exit → St → Prop) : Nat → St → Prop
  | 0, _ => False
  | n + 1, s => T P N w0 c s (andThen (fun s' => TR P N w0 c Q n s') Q)
theorem T_loop (n : Nat) (hc : isLoop c = true) (h : TR P N w0 (inner c) Q n s) : T P N w0 c s Q := by
  cases c <;> simp only [isLoop, Bool.false_eq_true] at hc
  rename_i b
  intro K a w r k
  refine wp_loop_rounds n ?_
  have key : ∀ (n : Nat) (s : St) (a : Act) (w : World), TR P N w0 b Q n s → Run0 N w0 s a w → Code.rounds P b K n a w := by
    intro n
    induction n with
    | zero => intro s a w h; exact h.elim
    | succ n ih =>
      intro s a w h r
      rw [rounds_succ]
      refine h _ a w r fun y s' a' w' q r' => ?_
      cases y <;> first | exact ih s' a' w' q r' | exact k _ s' a' w' q r'
  exact key n s a w h r
def ov : List (Nat × V) → Tr V → Tr V
  | [], t => t
  | x :: r, t => (ov r t).set x.1 (some x.2)
def St.over (s : St) (l : List (Nat × V)) : St := { s with fr := ov l s.fr }
def Tr.beq {α : Type} (eq : α → α → Bool) : Tr α → Tr α → Bool
  | .nil, .nil => true
  | .node a l r, .node b l' r' => (match a, b with | none, none => true | some a, some b => eq a b | _, _ => false) && (Tr.beq eq l l' && Tr.beq eq r r')
  | _, _ => false
theorem Tr.beq_eq {α : Type} {eq : α → α → Bool} (h : ∀ a b, eq a b = true → a = b) : ∀ (t u : Tr α), Tr.beq eq t u = true → t = u
  | .nil, .nil, _ => rfl
  | .nil, .node _ _ _, e => by simp [Tr.beq] at e
  | .node _ _ _, .nil, e => by simp [Tr.beq] at e
  | .node a l r, .node b l' r', e => by
    simp only [Tr.beq, Bool.and_eq_true] at e
    rw [Tr.beq_eq h l l' e.2.1, Tr.beq_eq h r r' e.2.2]
    cases a <;> cases b <;> first | rfl | (simp at e; done) | skip
    rw [h _ _ e.1]
def entsBeq : List (V × V × Nat) → List (V × V × Nat) → Bool
  | [], [] => true
  | x :: xs, y :: ys => (V.beq x.1 y.1 && V.beq x.2.1 y.2.1) && (Nat.beq x.2.2 y.2.2 && entsBeq xs ys)
  | _, _ => false
theorem entsBeq_eq : ∀ (a b : List (V × V × Nat)), entsBeq a b = true → a = b
  | [], [], _ => rfl
  | [], _ :: _, h => by simp [entsBeq] at h
  | _ :: _, [], h => by simp [entsBeq] at h
  | (k, v, n) :: xs, (k', v', n') :: ys, h => by
    simp only [entsBeq, Bool.and_eq_true] at h
    rw [beq_eq _ _ h.1.1, beq_eq _ _ h.1.2, Nat.eq_of_beq_eq_true h.2.1, entsBeq_eq xs ys h.2.2]
def O.beq : O → O → Bool
  | .cells a, .cells b => V.beqs a b
  | .map a c, .map b d => entsBeq a b && Nat.beq c d
  | .siter a p, .siter b q => beqB a b && Nat.beq p q
  | .ints k a, .ints j b => decide (k = j) && decide (a = b)
  | _, _ => false
theorem O.beq_eq (a b : O) (h : O.beq a b = true) : a = b := by
  cases a <;> cases b <;> simp only [O.beq, Bool.false_eq_true, Bool.and_eq_true] at h
  · rw [beqs_eq _ _ h]
  · rw [entsBeq_eq _ _ h.1, Nat.eq_of_beq_eq_true h.2]
  · rw [beqB_eq] at h; rw [eq_of_beq h.1, Nat.eq_of_beq_eq_true h.2]
  · rw [of_decide_eq_true h.1, of_decide_eq_true h.2]
def St.beq (a b : St) : Bool := Tr.beq V.beq a.fr b.fr && (Tr.beq O.beq a.h b.h && (Nat.beq a.n b.n && (a.dfs.isEmpty && b.dfs.isEmpty)))
theorem St.beq_eq {a b : St} (h : St.beq a b = true) : a = b := by
  simp only [St.beq, Bool.and_eq_true, List.isEmpty_iff] at h
  obtain ⟨h1, h2, h3, h4, h5⟩ := h
  have e1 := Tr.beq_eq Go.Eng.beq_eq _ _ h1
  have e2 := Tr.beq_eq O.beq_eq _ _ h2
  have e3 := Nat.eq_of_beq_eq_true h3
  cases a; cases b
  simp_all
def St.cell (s : St) (m i : Nat) (v : V) : St := match s.h.get m with
  | some (.cells cs) => match Nat.blt m top with
    | true => { s with h := s.h.set m (some (.cells (cs.set i v))) }
    | false => s
  | _ => s
theorem calls_of_TE (hm : P.follows .mixedOrders = true) (hpo : progOk P = true) (hcf : CallOk P cf) {f : FuncId} {fn : Func} {code : Code} (hf : P.funcs[f]? = some fn) (hb : fn.body = some code) {args : List V} {args' : List Value} {w : World} {v : V} {E1 : Env} {h1 : Tr O} {n1 : Nat}
    (g : Good E1 h1 w) (hd : Dom E1 n1) (hro : ∀ m, ¬ wlive h1 m) (ra : vrels E1 args args') (l1 : args.length ≤ fn.ntmps) (l2 : fn.ntmps < top)
    (h : T P fn.ntmps w code { fr := frameOf args 0 .nil, h := h1, n := n1, dfs := [] } (fun y s' => (y = .normal ∨ y = .ret) ∧ ∃ h' n', leave P cf F fn s'.fr s'.dfs .ret s'.h s'.n = some (.ret v, h', n'))) :
    Calls P f args'.toArray w fun e w' => (∃ E, outrel E (.ret v) e) ∧ Below w.heap.size w w' := by
  obtain ⟨hfr, hsz⟩ := frel_enter (n := fn.ntmps) ra l1 l2
  refine callsIn_wide.1 (callsIn_of_wp_marks (n := 0) hf hb trivial (wpIn_wide.2 ?_))
  refine h _ _ w ⟨E1, ⟨g, hd, hfr, hsz, rfl⟩, Upd0.init g hro⟩ fun y s' a' w' ⟨hy, h', n', hl⟩ r => ?_
  have key : LeavesInM Fence.wide 0 P fn a'.tmps (fun e w' => (∃ E, outrel E (.ret v) e) ∧ Below w.heap.size w w') a'.defers .returning w' := by
    obtain ⟨E, sr, u⟩ := r
    exact leave_sound hcf hm hpo s'.dfs .ret s'.h s'.n _ h' n' hl E w' a'.defers .returning _ sr.good sr.dom sr.fr sr.dfs trivial fun E2 w2 en u2 hlow2 hd2 hn2 ho => ⟨⟨E2, ho⟩, (u.trans u2).below⟩
  rcases hy with rfl | rfl <;> exact key
end
end Go.Eng
namespace Go.Eng
open Go Go.RowKit
mutual
def V.plainFn : V → Bool
  | .fn (.func _) a c => V.plainFns a && V.plainFns c
  | .fn _ _ _ => false
  | .iface _ x => V.plainFn x
  | .agg cs => V.plainFns cs
  | .tup cs => V.plainFns cs
  | _ => true
def V.plainFns : List V → Bool
  | [] => true
  | x :: xs => V.plainFn x && V.plainFns xs
end
mutual
theorem V.beq_refl : ∀ v : V, v.plainFn = true → V.beq v v = true
  | .bool b, _ => by cases b <;> rfl
  | .int k n, _ => by simp [V.beq]
  | .str s, _ => by simp [V.beq, beqB_eq]
  | .ptr none, _ => rfl
  | .ptr (some (m, o)), _ => by simp [V.beq, beqAddr]
  | .slc none l c e, _ => by simp [V.beq, beqAddr]
  | .slc (some (m, o)) l c e, _ => by simp [V.beq, beqAddr]
  | .map none, _ => rfl
  | .map (some m), _ => by simp [V.beq, beqNat?]
  | .fn f a c, h => by
    cases f <;> simp only [V.plainFn, Bool.false_eq_true, Bool.and_eq_true] at h
    simp [V.beq, beqFn, V.beqs_refl a h.1, V.beqs_refl c h.2]
  | .nilFn, _ => rfl
  | .iface t x, h => by simp only [V.plainFn] at h; simp [V.beq, V.beq_refl x h]
  | .nilIface, _ => rfl
  | .agg cs, h => by simp only [V.plainFn] at h; simp [V.beq, V.beqs_refl cs h]
  | .tup cs, h => by simp only [V.plainFn] at h; simp [V.beq, V.beqs_refl cs h]
theorem V.beqs_refl : ∀ vs : List V, V.plainFns vs = true → V.beqs vs vs = true
  | [], _ => rfl
  | x :: xs, h => by simp only [V.plainFns, Bool.and_eq_true] at h; simp [V.beqs, V.beq_refl x h.1, V.beqs_refl xs h.2]
end
inductive Ob where
  | same (a b : V)
  | call (f : FuncId) (args : List V) (v : V)
def Ob.ok (cf : CallF) : Ob → Prop
  | .same a b => a = b
  | .call f args v => ∀ h n, cf f args h n = some (.ret v, h, n)
end Go.Eng
namespace Go.Eng
open Go Go.RowKit
structure Pth where
  conds : List (Bool × Bool)
  same : List (V × V)
  asr : List Prop
def Pth.nil : Pth := ⟨[], [], []⟩
def Pth.app (a b : Pth) : Pth := ⟨a.conds ++ b.conds, a.same ++ b.same, a.asr ++ b.asr⟩
def Pth.ok (p : Pth) : Prop := ∀ c ∈ p.conds, c.1 = c.2
def Pth.good (p : Pth) : Prop := (∀ c ∈ p.same, c.1 = c.2) ∧ ∀ a ∈ p.asr, a
theorem Pth.ok_app {a b : Pth} : (a.app b).ok ↔ a.ok ∧ b.ok := by
  simp only [Pth.ok, Pth.app, List.mem_append]
  exact ⟨fun h => ⟨fun c hc => h c (.inl hc), fun c hc => h c (.inr hc)⟩, fun h c hc => hc.elim (h.1 c) (h.2 c)⟩
theorem Pth.good_app {a b : Pth} : (a.app b).good ↔ a.good ∧ b.good := by
  simp only [Pth.good, Pth.app, List.mem_append]
  exact ⟨fun h => ⟨⟨fun c hc => h.1 c (.inl hc), fun c hc => h.2 c (.inl hc)⟩, fun c hc => h.1 c (.inr hc), fun c hc => h.2 c (.inr hc)⟩,
    fun h => ⟨fun c hc => hc.elim (h.1.1 c) (h.2.1 c), fun c hc => hc.elim (h.1.2 c) (h.2.2 c)⟩⟩
abbrev M (α : Type) := Option (List (Pth × α))
def M.ret {α : Type} (a : α) : M α := some [(.nil, a)]
def pre {α : Type} (p : Pth) : List (Pth × α) → List (Pth × α)
  | [] => []
  | e :: r => (p.app e.1, e.2) :: pre p r
def M.bind {α β : Type} : List (Pth × α) → (α → M β) → M β
  | [], _ => some []
  | (p, a) :: r, f => match f a with
    | some l1 => match M.bind r f with
      | some l2 => some (pre p l1 ++ l2)
      | none => none
    | none => none
def M.then {α β : Type} (m : M α) (f : α → M β) : M β := match m with
  | some l => M.bind l f
  | none => none
def Sound {α : Type} (m : M α) (r : Option α) : Prop := ∀ l, m = some l → (∃ e ∈ l, e.1.ok) ∧ ∀ e ∈ l, e.1.ok → e.1.good → r = some e.2
theorem mem_pre {α : Type} {p : Pth} : ∀ {l : List (Pth × α)} {e : Pth × α}, e ∈ pre p l ↔ ∃ e' ∈ l, e = (p.app e'.1, e'.2)
  | [], e => by simp [pre]
  | x :: r, e => by
    simp only [pre, List.mem_cons, mem_pre]
    exact ⟨fun h => h.elim (fun q => ⟨x, .inl rfl, q⟩) fun ⟨e', h1, h2⟩ => ⟨e', .inr h1, h2⟩, fun ⟨e', h1, h2⟩ => h1.elim (fun q => .inl (by rw [h2, q])) fun q => .inr ⟨e', q, h2⟩⟩
theorem bind_mem {α β : Type} {f : α → M β} : ∀ {l : List (Pth × α)} {l2 : List (Pth × β)}, M.bind l f = some l2 → (∀ e ∈ l2, ∃ d ∈ l, ∃ l1, f d.2 = some l1 ∧ ∃ e' ∈ l1, e = (d.1.app e'.1, e'.2)) ∧ (∀ d ∈ l, ∃ l1, f d.2 = some l1 ∧ ∀ e' ∈ l1, (d.1.app e'.1, e'.2) ∈ l2)
  | [], l2, h => by
    simp only [M.bind, Option.some.injEq] at h; subst h
    exact ⟨fun e he => by simp at he, fun d hd => by simp at hd⟩
  | (p, a) :: r, l2, h => by
    simp only [M.bind] at h
    split at h
    · rename_i l1 h1
      split at h
      · rename_i l3 h3
        simp only [Option.some.injEq] at h; subst h
        obtain ⟨k1, k2⟩ := bind_mem h3
        refine ⟨fun e he => ?_, fun d hd => ?_⟩
        · rcases List.mem_append.1 he with q | q
          · obtain ⟨e', q1, q2⟩ := mem_pre.1 q
            exact ⟨(p, a), by simp, l1, h1, e', q1, q2⟩
          · obtain ⟨d, d1, d2⟩ := k1 e q
            exact ⟨d, by simp [d1], d2⟩
        · rcases List.mem_cons.1 hd with rfl | hd
          · exact ⟨l1, h1, fun e' he' => List.mem_append.2 (.inl (mem_pre.2 ⟨e', he', rfl⟩))⟩
          · obtain ⟨l1', q1, q2⟩ := k2 d hd
            exact ⟨l1', q1, fun e' he' => List.mem_append.2 (.inr (q2 e' he'))⟩
      · cases h
    · cases h
theorem Sound.ret {α : Type} (a : α) : Sound (M.ret a) (some a) := by
  intro l h
  simp only [M.ret, Option.some.injEq] at h; subst h
  exact ⟨⟨_, List.mem_singleton.2 rfl, fun c hc => by simp [Pth.nil] at hc⟩, fun e he _ _ => by simp only [List.mem_singleton] at he; subst he; rfl⟩
theorem Sound.none {α : Type} (r : Option α) : Sound (none : M α) r := fun l h => by cases h
theorem Sound.then {α β : Type} {m : M α} {f : α → M β} {r : Option α} {g : α → Option β} (h : Sound m r) (hf : ∀ a, Sound (f a) (g a)) : Sound (m.then f) (r.bind g) := by
  intro l2 e
  unfold M.then at e
  split at e
  · rename_i l
    obtain ⟨⟨d, hd, hok⟩, h2⟩ := h l rfl
    obtain ⟨k1, k2⟩ := bind_mem e
    refine ⟨?_, fun e he heok hegood => ?_⟩
    · obtain ⟨l1, q1, q2⟩ := k2 d hd
      obtain ⟨⟨e', he', hok'⟩, _⟩ := hf d.2 l1 q1
      exact ⟨_, q2 e' he', Pth.ok_app.2 ⟨hok, hok'⟩⟩
    · obtain ⟨d, hd, l1, q1, e', he', rfl⟩ := k1 e he
      obtain ⟨o1, o2⟩ := Pth.ok_app.1 heok
      obtain ⟨g1, g2⟩ := Pth.good_app.1 hegood
      rw [h2 d hd o1 g1]
      exact (hf d.2 l1 q1).2 e' he' o2 g2
  · cases e
theorem Sound.of_eq {α : Type} {m : M α} {r r' : Option α} (h : Sound m r) (e : r = r') : Sound m r' := e ▸ h
def elemSz (P : Program) (t : TypeId) : Option Nat := match elemT P t with
  | some e => szof P e
  | none => none
def eqFieldsS (P : Program) : List Field → List V → List V → Option Bool
  | [], _, _ => some true
  | f :: fs, xs, ys => match decide (f.name = "_") with
    | true => none
    | false => match P.underlying f.type, partV P f.type xs f.offset, partV P f.type ys f.offset with
      | some (.int _), some (.int k a), some (.int k' b) => match decide (k = k') with
        | true => match eqFieldsS P fs xs ys with
          | some r => some ((a == b) && r)
          | none => none
        | false => none
      | _, _, _ => none
theorem eqFieldsS_ok {P : Program} {d : Nat} : ∀ {fs : List Field} {xs ys : List V} {r : Bool}, eqFieldsS P fs xs ys = some r → eqFields P (fun u a b => eqV P (d + 1) u a b) fs xs ys = some r
  | [], _, _, r, e => by simpa only [eqFieldsS, eqFields] using e
  | f :: fs, xs, ys, r, e => by
    simp only [eqFieldsS] at e
    split at e
    · cases e
    · rename_i hn
      have hn := of_decide_eq_false hn
      split at e
      · rename_i k0 k a k' b h1 h2 h3
        split at e
        · rename_i hk
          have hk := of_decide_eq_true hk
          subst hk
          split at e
          · rename_i r' hr
            simp only [Option.some.injEq] at e; subst e
            have ih := eqFieldsS_ok (d := d) hr
            simp only [eqFields, if_pos hn, h2, h3]
            have : eqV P (d + 1) f.type (.int k a) (.int k b) = some (a == b) := by simp only [eqV, h1, if_true]
            rw [this]
            cases hab : a == b with
            | true => simp only [Bool.true_and]; exact ih
            | false => simp only [Bool.false_and]
          · cases e
        · cases e
      · cases e
def eqAgg (P : Program) (t : TypeId) (xs ys : List V) : Option Bool :=
  match P.eqGuardType P.depth t with
  | true => none
  | false => match P.underlying t with
    | some (.struct fields) => match P.stoodInHeld t with
      | true => none
      | false => eqFieldsS P fields.toList xs ys
    | _ => none
theorem eqV_agg {P : Program} {d : Nat} {t : TypeId} {fields : Array Field} {xs ys : List V} {r : Bool} (hu : P.underlying t = some (.struct fields)) (hs : P.stoodInHeld t = false) (e : eqFieldsS P fields.toList xs ys = some r) : eqV P (d + 1 + 1) t (.agg xs) (.agg ys) = some r := by
  simp only [eqV, hu, hs, Bool.false_eq_true, if_false]
  exact eqFieldsS_ok (d := d) e
theorem eqAgg_ok {P : Program} {t : TypeId} {x y : Operand} {xs ys : List V} {r : Bool} (e : eqAgg P t xs ys = some r) : eqOp P t x y (.agg xs) (.agg ys) = some r := by
  unfold eqAgg at e
  split at e
  · cases e
  · rename_i hg
    split at e
    · rename_i fields hu
      split at e
      · cases e
      · rename_i hs
        simp only [eqOp, hg, Bool.false_eq_true, if_false]
        exact eqV_agg (d := 9998) hu hs e
    · cases e
def plainM (P : Program) (o : Oper) (fr : Tr V) (h : Tr O) (n : Nat) : Option (List Prop × R) := match stepOp P o fr h n with
  | some r => some ([], r)
  | none => none
def isRow (h : Tr O) : V → Bool
  | .slc (some (m, _)) _ _ _ => match h.get m with
    | some (.ints _ _) => true
    | some (.own _ _) => true
    | _ => false
  | _ => false
def symTail (h : Tr O) (size : Nat) (x : V) : Option (List Prop × Nat × Row) :=
  match isRow h x with
  | true => match x with
    | .slc (some (m, o)) len _ esz => match Nat.beq esz size, (h.get m).bind O.rowR with
      | true, some (.is k ks) => some ([0 < len, o + len * size ≤ ks.length], len, .is k ((ks.drop o).take (len * size)))
      | _, _ => none
    | _ => none
  | false => match tailCells h size x with
    | some (k, r) => some ([], k, r)
    | none => none
theorem symTail_ok {h : Tr O} {size k : Nat} {x : V} {A : List Prop} {r : Row} (e : symTail h size x = some (A, k, r)) (hA : ∀ a ∈ A, a) : tailCells h size x = some (k, r) := by
  unfold symTail at e
  split at e
  · split at e
    · rename_i m o len cp esz _
      split at e
      · rename_i k' ks hb hr
        simp only [Option.some.injEq, Prod.mk.injEq] at e; obtain ⟨rfl, rfl, rfl⟩ := e
        have h1 : 0 < len := hA _ (by simp)
        have h2 : o + len * size ≤ ks.length := hA _ (by simp)
        have hb := Nat.eq_of_beq_eq_true hb
        cases hm : h.get m with
        | none => rw [hm] at hr; cases hr
        | some ob =>
          rw [hm] at hr
          have hr : ob.rowR = some (.is k' ks) := hr
          cases len with
          | zero => omega
          | succ len => simp only [tailCells, hb, if_true, hm, hr, Row.cut, if_pos h2]
      · cases e
    · cases e
  · split at e
    · rename_i k' r' h1
      simp only [Option.some.injEq, Prod.mk.injEq] at e; obtain ⟨rfl, rfl, rfl⟩ := e
      exact h1
    · cases e
def oldRow (len size o : Nat) : Row → Option (List Prop × Row)
  | .is k ks => some ([0 < len, o + len * size ≤ ks.length], .is k ((ks.drop o).take (len * size)))
  | .vs cs => match len with
    | 0 => some ([], .vs [])
    | _ => match (Row.vs cs).cut o (len * size) with
      | some r => some ([], r)
      | none => none
theorem oldRow_ok {len size o : Nat} {r old : Row} {A : List Prop} (e : oldRow len size o r = some (A, old)) (hA : ∀ a ∈ A, a) : (match (generalizing := false) len with | 0 => some (.vs []) | _ => r.cut o (len * size) : Option Row) = some old := by
  cases r with
  | is k ks =>
    simp only [oldRow, Option.some.injEq, Prod.mk.injEq] at e; obtain ⟨rfl, rfl⟩ := e
    have h1 : 0 < len := hA _ (by simp)
    have h2 : o + len * size ≤ ks.length := hA _ (by simp)
    cases len with
    | zero => omega
    | succ len => simp only [Row.cut, if_pos h2]
  | vs cs =>
    cases len with
    | zero =>
      simp only [oldRow, Option.some.injEq, Prod.mk.injEq] at e; obtain ⟨rfl, rfl⟩ := e
      rfl
    | succ len =>
      simp only [oldRow] at e
      split at e
      · rename_i r' h1
        simp only [Option.some.injEq, Prod.mk.injEq] at e; obtain ⟨rfl, rfl⟩ := e
        exact h1
      · cases e
def sizesB (i : TypeInfo) (z : V) : Bool := decide (0 < i.size) && (decide (0 < i.bytes) && decide (z.cells.length = i.size))
def symAppend (P : Program) (argTypes : Array TypeId) (args : List V) (h : Tr O) (n : Nat) : Option (List Prop × R) :=
  match argTypes[0]?, argTypes[1]?, args with
  | some st, some xt, [s, x] => match elemT P st, P.underlying xt with
    | some e, some xd => match isSeqT xd, P.info? e, zeroOf P e with
      | true, some i, some z => match sizesB i z, symTail h i.size x with
        | true, some (A, k, new) => match new.flat with
          | true => match s with
            | .slc none 0 _ _ => match newObj h n new.toO with
              | some (h', n') => some (A ++ [0 < k, roomy k i.size i.bytes = true], .val (.slc (some (n, 0)) k k i.size) h' n')
              | none => none
            | .slc (some (m, o)) len _ esz => match Nat.beq esz i.size && Nat.blt m top, (h.get m).bind O.row with
              | true, some r => match oldRow len i.size o r with
                | some (B, old) => match newObj (h.set m none) n (old.app new).toO with
                  | some (h', n') => some (A ++ (B ++ [0 < k, roomy (len + k) i.size i.bytes = true]), .val (.slc (some (n, 0)) (len + k) (len + k) esz) h' n')
                  | none => none
                | none => none
              | _, _ => none
            | _ => none
          | false => none
        | _, _ => none
      | _, _, _ => none
    | _, _ => none
  | _, _, _ => none
theorem symAppend_ok {P : Program} {argTypes : Array TypeId} {args : List V} {h : Tr O} {n : Nat} {A : List Prop} {r : R} (e : symAppend P argTypes args h n = some (A, r)) (hA : ∀ a ∈ A, a) : appendV P argTypes args h n = some r := by
  unfold symAppend at e
  split at e
  · rename_i st xt s x h1 h2
    split at e
    · rename_i el xd h3 h4
      split at e
      · rename_i i z h5 h6 h7
        split at e
        · rename_i A1 k new h8 h9
          simp only [sizesB, Bool.and_eq_true, decide_eq_true_eq] at h8
          split at e
          · rename_i hfl
            unfold appendV
            simp only [h1, h2, h3, h4, h5, h6, h7]
            rw [if_pos h8]
            split at e
            · cases ho : newObj h n new.toO with
              | none => rw [ho] at e; cases e
              | some p =>
                rw [ho] at e
                simp only [Option.some.injEq, Prod.mk.injEq] at e; obtain ⟨rfl, rfl⟩ := e
                have ht := symTail_ok h9 fun a ha => hA a (by simp [ha])
                have hk : 0 < k := hA _ (by simp)
                have hr : roomy k i.size i.bytes = true := hA _ (by simp)
                rw [ht]
                simp only [hfl, if_true]
                cases k with
                | zero => omega
                | succ k => simp only [if_pos hr, ho]
            · rename_i m o len cp esz
              split at e
              · rename_i r0 hb hrow
                split at e
                · rename_i B old hold
                  cases ho : newObj (h.set m none) n (old.app new).toO with
                  | none => rw [ho] at e; cases e
                  | some p =>
                    rw [ho] at e
                    simp only [Option.some.injEq, Prod.mk.injEq] at e; obtain ⟨rfl, rfl⟩ := e
                    have ht := symTail_ok h9 fun a ha => hA a (by simp [ha])
                    have hk : 0 < k := hA _ (by simp)
                    have hr : roomy (len + k) i.size i.bytes = true := hA _ (by simp)
                    have hold' := oldRow_ok hold fun a ha => hA a (by simp [ha])
                    simp only [Bool.and_eq_true] at hb
                    have hb1 := Nat.eq_of_beq_eq_true hb.1
                    have hb2 : m < top := Nat.le_of_ble_eq_true hb.2
                    cases hm : h.get m with
                    | none => rw [hm] at hrow; cases hrow
                    | some ob =>
                      rw [hm] at hrow
                      have hrow : ob.row = some r0 := hrow
                      rw [ht]
                      simp only [hfl, if_true]
                      rw [if_pos ⟨hb1, hr, hb2⟩]
                      simp only [hm, hrow]
                      split
                      · rename_i old2 hq
                        have : old2 = old := by
                          have := hq.symm.trans hold'
                          simpa using this
                        subst this
                        cases k with
                        | zero => omega
                        | succ k => simp only [ho]
                      · rename_i hq
                        have := hq.symm.trans hold'
                        simp at this
                · cases e
              · cases e
            · cases e
          · cases e
        · cases e
      · cases e
    · cases e
  · cases e
def symStore (P : Program) (t : TypeId) (h : Tr O) (v : V) (m o : Nat) (k : IntKind) (ks : List Int) : Option (List Prop × Tr O) :=
  match szof P t, intsOf k v.cells with
  | some s, some new => match Nat.beq v.cells.length s && (Nat.blt 0 s && Nat.blt m top) with
    | true => some ([o + s ≤ ks.length], h.set m (some (.own k (putI ks o new))))
    | false => none
  | _, _ => none
theorem symStore_ok {P : Program} {t : TypeId} {h h' : Tr O} {v : V} {m o : Nat} {k : IntKind} {ks : List Int} {A : List Prop} (hm : h.get m = some (.own k ks)) (e : symStore P t h v m o k ks = some (A, h')) (hA : ∀ a ∈ A, a) : storeAt P t h v (.ptr (some (m, o))) = some h' := by
  unfold symStore at e
  split at e
  · rename_i s new h1 h2
    split at e
    · rename_i hb
      simp only [Option.some.injEq, Prod.mk.injEq] at e; obtain ⟨rfl, rfl⟩ := e
      simp only [Bool.and_eq_true] at hb
      have h3 := Nat.eq_of_beq_eq_true hb.1
      have h4 : 0 < s := Nat.le_of_ble_eq_true hb.2.1
      have h5 : m < top := Nat.le_of_ble_eq_true hb.2.2
      have h6 : o + s ≤ ks.length := hA _ (by simp)
      simp only [storeAt, hm, h1, h2]
      rw [if_pos ⟨h3, h4, h5⟩, if_pos h6]
    · cases e
  · cases e
def aggInts (k : IntKind) (ks : List Int) (off sz : Nat) : V := .agg ((List.range sz).map fun j => V.int k (ks.getD (off + j) 0))
theorem aggInts_ok {P : Program} {t : TypeId} {k : IntKind} {ks : List Int} {off sz : Nat} (ha : aggT P t = some true) (hs : szof P t = some sz) (hl : off + sz ≤ ks.length) : readAt P t (ks.map (.int k)) off = some (aggInts k ks off sz) := by
  simp only [readAt, ha, hs, cut, List.length_map, if_pos hl, Option.map_some, aggInts, Option.some.injEq, V.agg.injEq]
  apply List.ext_getElem
  · simp; omega
  · intro i h1 h2
    simp at h1 h2
    have : off + i < ks.length := by omega
    simp [List.getD, this]
def symLoad (P : Program) (t : TypeId) (k : IntKind) (ks : List Int) (off : Nat) : Option (Prop × V) := match aggT P t with
  | some false => some (off < ks.length, .int k (ks.getD off 0))
  | some true => match szof P t with
    | some sz => some (off + sz ≤ ks.length, aggInts k ks off sz)
    | none => none
  | none => none
theorem symLoad_ok {P : Program} {t : TypeId} {k : IntKind} {ks : List Int} {off : Nat} {p : Prop} {v : V} (e : symLoad P t k ks off = some (p, v)) (hp : p) : readAt P t (ks.map (.int k)) off = some v := by
  unfold symLoad at e
  split at e
  · rename_i hag
    simp only [Option.some.injEq, Prod.mk.injEq] at e; obtain ⟨rfl, rfl⟩ := e
    simp only [readAt, hag, List.getElem?_map, List.getElem?_eq_getElem hp, Option.map_some, List.getD_eq_getElem?_getD, Option.getD_some]
  · rename_i hag
    split at e
    · rename_i sz hs
      simp only [Option.some.injEq, Prod.mk.injEq] at e; obtain ⟨rfl, rfl⟩ := e
      exact aggInts_ok hag hs hp
    · cases e
  · cases e
def symOp (P : Program) (o : Oper) (fr : Tr V) (h : Tr O) (n : Nat) : Option (List Prop × R) :=
  match o.op with
  | .indexAddr t x i => match opd fr x, opd fr i with
    | some (.slc (some (m, off)) len _ esz), some (.int _ ix) => match elemSz P t with
      | some s => match Nat.beq s esz with
        | true => some ([0 ≤ ix ∧ ix < len], .val (.ptr (some (m, off + ix.toNat * s))) h n)
        | false => none
      | none => none
    | _, _ => plainM P o fr h n
  | .load t a => match opd fr a with
    | some (.ptr (some (m, off))) => match h.get m with
      | some (.ints k ks) => match symLoad P t k ks off with
        | some (p, v) => some ([p], .val v h n)
        | none => none
      | some (.own k ks) => match symLoad P t k ks off with
        | some (p, v) => some ([p], .val v h n)
        | none => none
      | _ => plainM P o fr h n
    | _ => plainM P o fr h n
  | .store t a x => match opd fr a, opd fr x with
    | some (.ptr (some (m, off))), some v => match h.get m with
      | some (.own k ks) => match symStore P t h v m off k ks with
        | some (A, h') => some (A, .val (.tup []) h' n)
        | none => none
      | _ => plainM P o fr h n
    | _, _ => plainM P o fr h n
  | .call c => match c.callee with
    | .builtin .append => match opds fr c.args.toList with
      | some [s, x] => match isRow h s || isRow h x with
        | true => match Nat.beq c.argTypes.size 2 with
          | true => symAppend P c.argTypes [s, x] h n
          | false => none
        | false => plainM P o fr h n
      | _ => plainM P o fr h n
    | _ => plainM P o fr h n
  | .slice t x (some lo) (some hi) none => match opd fr x, opd fr lo, opd fr hi with
    | some (.slc a len cap esz), some (.int _ lx), some (.int _ hx) => match elemSz P t with
      | some s => match Nat.beq s esz || a.isNone with
        | true => some ([0 ≤ hx ∧ hx ≤ cap, 0 ≤ lx ∧ lx ≤ hx.toNat], .val (.slc (match a with | none => none | some (b, o) => some (b, o + lx.toNat * esz)) (hx.toNat - lx.toNat) (cap - lx.toNat) esz) h n)
        | false => none
      | none => none
    | _, _, _ => plainM P o fr h n
  | .slice t x none (some hi) none => match opd fr x, opd fr hi with
    | some (.slc a len cap esz), some (.int _ hx) => match elemSz P t with
      | some s => match Nat.beq s esz || a.isNone with
        | true => some ([0 ≤ hx ∧ hx ≤ cap], .val (.slc (match a with | none => none | some (b, o) => some (b, o + 0 * esz)) (hx.toNat - 0) (cap - 0) esz) h n)
        | false => none
      | none => none
    | _, _ => plainM P o fr h n
  | .slice t x (some lo) none none => match opd fr x, opd fr lo with
    | some (.slc a len cap esz), some (.int _ lx) => match elemSz P t with
      | some s => match Nat.beq s esz || a.isNone with
        | true => some ([0 ≤ lx ∧ lx ≤ len], .val (.slc (match a with | none => none | some (b, o) => some (b, o + lx.toNat * esz)) (len - lx.toNat) (cap - lx.toNat) esz) h n)
        | false => none
      | none => none
    | _, _ => plainM P o fr h n
  | .binOp .eql t x y _ => match opd fr x, opd fr y with
    | some (.agg xs), some (.agg ys) => match eqAgg P t xs ys with
      | some r => some ([], .val (.bool r) h n)
      | none => none
    | _, _ => plainM P o fr h n
  | .binOp .neq t x y _ => match opd fr x, opd fr y with
    | some (.agg xs), some (.agg ys) => match eqAgg P t xs ys with
      | some r => some ([], .val (.bool (!r)) h n)
      | none => none
    | _, _ => plainM P o fr h n
  | .binOp .quo t x y _ => match opd fr x, opd fr y with
    | some (.int k a), some (.int k' b) => match decide (k = k') with
      | true => some ([b ≠ 0], .val (.int k (k.wrap (a.tdiv b))) h n)
      | false => none
    | _, _ => plainM P o fr h n
  | _ => plainM P o fr h n
theorem plainM_ok {P : Program} {o : Oper} {fr : Tr V} {h : Tr O} {n : Nat} {l : List Prop} {r : R} (e : plainM P o fr h n = some (l, r)) : stepOp P o fr h n = some r := by
  unfold plainM at e
  split at e
  · rename_i r' hr
    simp only [Option.some.injEq, Prod.mk.injEq] at e; obtain ⟨_, rfl⟩ := e; exact hr
  · cases e
theorem elemSz_ok {P : Program} {t : TypeId} {s : Nat} (e : elemSz P t = some s) : ∃ el, P.underlying t = some (.slice el) ∧ szof P el = some s := by
  unfold elemSz elemT at e
  cases hu : P.underlying t with
  | none => simp [hu] at e
  | some d => cases d <;> simp [hu] at e
              exact ⟨_, rfl, e⟩
theorem symOp_ok {P : Program} {o : Oper} {fr : Tr V} {h : Tr O} {n : Nat} {l : List Prop} {r : R} (e : symOp P o fr h n = some (l, r)) (hl : ∀ p ∈ l, p) : stepOp P o fr h n = some r := by
  unfold symOp at e
  split at e
  · rename_i t x i ho
    split at e
    · rename_i m off len cp esz k ix hx hi
      split at e
      · rename_i s hs
        split at e
        · rename_i hb
          simp only [Option.some.injEq, Prod.mk.injEq] at e; obtain ⟨rfl, rfl⟩ := e
          have hb := Nat.eq_of_beq_eq_true hb
          subst hb
          obtain ⟨el, h1, h2⟩ := elemSz_ok hs
          have hc := hl _ (List.mem_singleton.2 rfl)
          simp only [stepOp, ho, hx, hi, indexAddrV, h1, h2, okV]
          rw [if_pos (by exact ⟨hc.1, hc.2, trivial⟩)]
        · cases e
      · cases e
    · exact plainM_ok e
  · rename_i t a ho
    split at e
    · rename_i m off ha
      split at e
      · rename_i k ks hm
        split at e
        · rename_i p v hs
          simp only [Option.some.injEq, Prod.mk.injEq] at e; obtain ⟨rfl, rfl⟩ := e
          have hp : p := hl _ (List.mem_singleton.2 rfl)
          simp only [stepOp, ho, ha, loadAt, hm, symLoad_ok hs hp, okV]
        · cases e
      · rename_i k ks hm
        split at e
        · rename_i p v hs
          simp only [Option.some.injEq, Prod.mk.injEq] at e; obtain ⟨rfl, rfl⟩ := e
          have hp : p := hl _ (List.mem_singleton.2 rfl)
          simp only [stepOp, ho, ha, loadAt, hm, symLoad_ok hs hp, okV]
        · cases e
      · exact plainM_ok e
    · exact plainM_ok e
  · rename_i t a x ho
    split at e
    · rename_i m off v ha hx
      split at e
      · rename_i k ks hm
        split at e
        · rename_i A h' hs
          simp only [Option.some.injEq, Prod.mk.injEq] at e; obtain ⟨rfl, rfl⟩ := e
          simp only [stepOp, ho, ha, hx, symStore_ok hm hs hl]
        · cases e
      · exact plainM_ok e
    · exact plainM_ok e
  · rename_i c ho
    split at e
    · rename_i hc
      split at e
      · rename_i s x hargs
        split at e
        · split at e
          · rename_i hb
            have hb := Nat.eq_of_beq_eq_true hb
            simp only [stepOp, ho, callV, hargs, hc, builtinV, hb, if_true]
            exact symAppend_ok e hl
          · cases e
        · exact plainM_ok e
      · exact plainM_ok e
    · exact plainM_ok e
  · rename_i t x lo hi ho
    split at e
    · rename_i a len cp esz k lx k2 hx hxx hlo hhi
      split at e
      · rename_i s hs
        split at e
        · rename_i hb
          simp only [Option.some.injEq, Prod.mk.injEq] at e; obtain ⟨rfl, rfl⟩ := e
          obtain ⟨el, h1, h2⟩ := elemSz_ok hs
          have hc := hl _ (List.mem_cons_self ..)
          have hc2 := hl _ (List.mem_cons_of_mem _ (List.mem_singleton.2 rfl))
          have hb' : s = esz ∨ a = none := by
            simp only [Bool.or_eq_true, Option.isNone_iff_eq_none] at hb
            exact hb.imp Nat.eq_of_beq_eq_true _root_.id
          simp only [stepOp, ho, hxx, hlo, hhi, opdOpt, sliceV, h1, h2, okV, Option.isSome_none, Bool.false_eq_true, false_and, if_false]
          rw [if_pos hb']
          simp only [boundV, if_pos hc, if_pos hc2]
          cases a <;> rfl
        · cases e
      · cases e
    · exact plainM_ok e
  · rename_i t x hi ho
    split at e
    · rename_i a len cp esz k hx hxx hhi
      split at e
      · rename_i s hs
        split at e
        · rename_i hb
          simp only [Option.some.injEq, Prod.mk.injEq] at e; obtain ⟨rfl, rfl⟩ := e
          obtain ⟨el, h1, h2⟩ := elemSz_ok hs
          have hc := hl _ (List.mem_singleton.2 rfl)
          have hb' : s = esz ∨ a = none := by
            simp only [Bool.or_eq_true, Option.isNone_iff_eq_none] at hb
            exact hb.imp Nat.eq_of_beq_eq_true _root_.id
          simp only [stepOp, ho, hxx, hhi, opdOpt, sliceV, h1, h2, okV, Option.isSome_none, Bool.false_eq_true, false_and, if_false]
          rw [if_pos hb']
          simp only [boundV, if_pos hc]
          cases a <;> rfl
        · cases e
      · cases e
    · exact plainM_ok e
  · rename_i t x lo ho
    split at e
    · rename_i a len cp esz k lx hxx hhi
      split at e
      · rename_i s hs
        split at e
        · rename_i hb
          simp only [Option.some.injEq, Prod.mk.injEq] at e; obtain ⟨rfl, rfl⟩ := e
          obtain ⟨el, h1, h2⟩ := elemSz_ok hs
          have hc := hl _ (List.mem_singleton.2 rfl)
          have hb' : s = esz ∨ a = none := by
            simp only [Bool.or_eq_true, Option.isNone_iff_eq_none] at hb
            exact hb.imp Nat.eq_of_beq_eq_true _root_.id
          simp only [stepOp, ho, hxx, hhi, opdOpt, sliceV, h1, h2, okV, Option.isSome_none, Bool.false_eq_true, false_and, if_false]
          rw [if_pos hb']
          simp only [boundV, if_pos hc]
          cases a <;> rfl
        · cases e
      · cases e
    · exact plainM_ok e
  · rename_i t x y yt ho
    split at e
    · rename_i xs ys hx hy
      split at e
      · rename_i r hr
        simp only [Option.some.injEq, Prod.mk.injEq] at e; obtain ⟨rfl, rfl⟩ := e
        simp only [stepOp, ho, hx, hy, binV, eqAgg_ok hr, Option.map_some, okV]
      · cases e
    · exact plainM_ok e
  · rename_i t x y yt ho
    split at e
    · rename_i xs ys hx hy
      split at e
      · rename_i r hr
        simp only [Option.some.injEq, Prod.mk.injEq] at e; obtain ⟨rfl, rfl⟩ := e
        simp only [stepOp, ho, hx, hy, binV, eqAgg_ok hr, Option.map_some, okV]
      · cases e
    · exact plainM_ok e
  · rename_i t x y yt ho
    split at e
    · rename_i k a k' b hx hy
      split at e
      · rename_i hk
        have hk := of_decide_eq_true hk
        subst hk
        simp only [Option.some.injEq, Prod.mk.injEq] at e; obtain ⟨rfl, rfl⟩ := e
        have hb : b ≠ 0 := hl _ (List.mem_singleton.2 rfl)
        have : binV P .quo t x y (.int k a) (.int k b) = some (.int k (k.wrap (a.tdiv b))) := by
          simp [binV, binOp, Op.intDiv, hb, pureSem, ofScalar]
          rfl
        simp only [stepOp, ho, hx, hy, this, okV]
      · cases e
    · exact plainM_ok e
  · exact plainM_ok e
end Go.Eng
namespace Go.Eng
open Go Go.RowKit
inductive Fix where
  | split
  | give (v : V)
def fixOf : List (Nat × Fix) → Nat → Option Fix
  | [], _ => none
  | x :: r, d => match Nat.beq x.1 d with
    | true => some x.2
    | false => fixOf r d
def fixM (H : List (Nat × Fix)) (dst : Option Nat) (v : V) : M V :=
  match dst with
  | none => .ret v
  | some d => match fixOf H d with
    | none => .ret v
    | some (.give u) => some [(⟨[], [], [v = u]⟩, u)]
    | some .split => match v with
      | .bool c => some [(⟨[(c, true)], [], []⟩, .bool true), (⟨[(c, false)], [], []⟩, .bool false)]
      | v => .ret v
theorem fixM_sound (H : List (Nat × Fix)) (dst : Option Nat) (v : V) : Sound (fixM H dst v) (some v) := by
  unfold fixM
  split
  · exact .ret v
  · split
    · exact .ret v
    · rename_i u hu
      intro l h
      simp only [Option.some.injEq] at h; subst h
      refine ⟨⟨_, List.mem_singleton.2 rfl, fun c hc => by simp at hc⟩, fun e he _ hg => ?_⟩
      simp only [List.mem_singleton] at he; subst he
      have : v = u := hg.2 _ (List.mem_singleton.2 rfl)
      rw [this]
    · split
      · rename_i c
        intro l h
        simp only [Option.some.injEq] at h; subst h
        refine ⟨?_, fun e he ho _ => ?_⟩
        · cases hc : c with
          | true => exact ⟨(⟨[(true, true)], [], []⟩, .bool true), by simp, fun x hx => by simp only [List.mem_singleton] at hx; subst hx; rfl⟩
          | false => exact ⟨(⟨[(false, false)], [], []⟩, .bool false), by simp, fun x hx => by simp only [List.mem_singleton] at hx; subst hx; rfl⟩
        · simp only [List.mem_cons, List.not_mem_nil, or_false] at he
          rcases he with rfl | rfl
          · have : c = true := ho (c, true) (List.mem_singleton.2 rfl); rw [this]
          · have : c = false := ho (c, false) (List.mem_singleton.2 rfl); rw [this]
      · exact .ret _
def symM (P : Program) (o : Oper) (fr : Tr V) (h : Tr O) (n : Nat) : M R := match symOp P o fr h n with
  | some (l, r) => some [(⟨[], [], l⟩, r)]
  | none => none
theorem symM_sound (P : Program) (o : Oper) (fr : Tr V) (h : Tr O) (n : Nat) : Sound (symM P o fr h n) (stepOp P o fr h n) := by
  intro l e
  unfold symM at e
  split at e
  · rename_i a r hs
    simp only [Option.some.injEq] at e; subst e
    refine ⟨⟨_, List.mem_singleton.2 rfl, fun c hc => by simp at hc⟩, fun e he _ hg => ?_⟩
    simp only [List.mem_singleton] at he; subst he
    exact symOp_ok hs hg.2
  · cases e
abbrev Ctr := FuncId → List V → Tr O → Option (List Prop × V)
open Classical in
noncomputable def joinA (S : Ctr) (cf : CallF) : CallF := fun f args h n => match S f args h with
  | some (A, v) => if ∀ a ∈ A, a then some (.ret v, h, n) else none
  | none => cf f args h n
def retOnly : Option (Out × Tr O × Nat) → Option (V × Tr O × Nat)
  | some (.ret v, h, n) => some (v, h, n)
  | _ => none
def callP (S : Ctr) (cf : CallF) (f : FuncId) (args : List V) (h : Tr O) (n : Nat) : M (V × Tr O × Nat) := match S f args h with
  | some (A, v) => some [(⟨[], [], A⟩, (v, h, n))]
  | none => match cf f args h n with
    | some (.ret v, h, n) => .ret (v, h, n)
    | _ => none
theorem callP_sound (S : Ctr) (cf : CallF) (f : FuncId) (args : List V) (h : Tr O) (n : Nat) : Sound (callP S cf f args h n) (retOnly (joinA S cf f args h n)) := by
  unfold callP joinA
  cases S f args h with
  | some q =>
    obtain ⟨A, v⟩ := q
    intro l e
    simp only [Option.some.injEq] at e; subst e
    refine ⟨⟨_, List.mem_singleton.2 rfl, fun c hc => by simp at hc⟩, fun e he _ hg => ?_⟩
    simp only [List.mem_singleton] at he; subst he
    simp only
    rw [if_pos hg.2]
    rfl
  | none =>
    simp only
    cases cf f args h n with
    | none => exact .none _
    | some q =>
      obtain ⟨out, h, n⟩ := q
      cases out with
      | ret v => exact .ret _
      | pan v => exact .none _
theorem sound_getL {α : Type} {m : M α} {r r' : Option α} (h : Sound m r) (e : ∀ a, r = some a → r' = some a) : Sound m r' := by
  intro l hl
  obtain ⟨h1, h2⟩ := h l hl
  exact ⟨h1, fun x hx ho hg => e _ (h2 x hx ho hg)⟩
section
variable (P : Program) (S : Ctr) (cf : CallF) (H : List (Nat × Fix))
def seqM (ops : Array Oper) : List Oper → St → M (X × St)
  | [], s => .ret (.normal, s)
  | o :: rest, s =>
    match wantedV ops o s.fr with
    | some false => match putD s.fr o.dst (.tup []) with
      | some fr => seqM ops rest { s with fr := fr }
      | none => none
    | some true => (symM P o s.fr s.h s.n).then fun r => match r with
      | .val v h n => (fixM H o.dst v).then fun v => match putD s.fr o.dst v with
        | some fr => seqM ops rest { s with fr := fr, h := h, n := n }
        | none => none
      | .call f args => (callP S cf f args s.h s.n).then fun q => (fixM H o.dst q.1).then fun v => match putD s.fr o.dst v with
        | some fr => seqM ops rest { s with fr := fr, h := q.2.1, n := q.2.2 }
        | none => none
      | _ => none
    | none => none
theorem bind_some' {α β : Type} (a : α) (g : α → Option β) : (some a).bind g = g a := rfl
theorem seqM_sound (ops : Array Oper) : ∀ (l : List Oper) (s : St), Sound (seqM P S cf H ops l s) (seqOps P (joinA S cf) ops l s)
  | [], s => .ret _
  | o :: rest, s => by
    simp only [seqM, seqOps]
    rcases wantedV ops o s.fr with _ | (_ | _)
    · exact .none _
    · cases putD s.fr o.dst (.tup []) with
      | none => exact .none _
      | some fr => exact seqM_sound ops rest _
    · refine sound_getL (Sound.then (symM_sound P o s.fr s.h s.n) (g := fun r => match r with
        | .val v h n => match putD s.fr o.dst v with
          | some fr => seqOps P (joinA S cf) ops rest { s with fr := fr, h := h, n := n }
          | none => none
        | .call f args => (retOnly (joinA S cf f args s.h s.n)).bind fun q => match putD s.fr o.dst q.1 with
          | some fr => seqOps P (joinA S cf) ops rest { s with fr := fr, h := q.2.1, n := q.2.2 }
          | none => none
        | _ => none) (fun r => ?_)) ?_
      · cases r with
        | val v h n =>
          refine (Sound.then (fixM_sound H o.dst v) (g := fun v => match putD s.fr o.dst v with
            | some fr => seqOps P (joinA S cf) ops rest { s with fr := fr, h := h, n := n }
            | none => none) (fun v => ?_)).of_eq rfl
          cases putD s.fr o.dst v with
          | none => exact .none _
          | some fr => exact seqM_sound ops rest _
        | call f args =>
          refine Sound.then (callP_sound S cf f args s.h s.n) (fun q => ?_)
          refine (Sound.then (fixM_sound H o.dst q.1) (g := fun v => match putD s.fr o.dst v with
            | some fr => seqOps P (joinA S cf) ops rest { s with fr := fr, h := q.2.1, n := q.2.2 }
            | none => none) (fun v => ?_)).of_eq rfl
          cases putD s.fr o.dst v with
          | none => exact .none _
          | some fr => exact seqM_sound ops rest _
        | dfr f c args => exact .none _
        | recover => exact .none _
        | panic v => exact .none _
      · intro a ha
        cases hs : stepOp P o s.fr s.h s.n with
        | none => rw [hs] at ha; cases ha
        | some r =>
          rw [hs] at ha
          cases r with
          | call f args =>
            simp only [bind_some'] at ha ⊢
            cases hj : joinA S cf f args s.h s.n with
            | none => rw [hj] at ha; cases ha
            | some q =>
              rw [hj] at ha
              obtain ⟨out, h, n⟩ := q
              cases out with
              | ret v => exact ha
              | pan v => cases ha
          | val v h n => exact ha
          | _ => cases ha
def readM (n0 i : Nat) (o : Oper) (fr : Tr V) (v : V) (x : Tr O) : M Unit :=
  (symM P o fr x (n0 + i)).then fun r => match r with
    | .val u _ k => match Nat.beq k (n0 + i) && v.plainFn with
      | true => some [(⟨[], [(u, v)], []⟩, ())]
      | false => none
    | _ => none
theorem readM_sound (n0 i : Nat) (o : Oper) (fr : Tr V) (v : V) (x : Tr O) : Sound (readM P n0 i o fr v x) (if readsSame P n0 i o fr v x = true then some () else none) := by
  unfold readM
  refine (Sound.then (symM_sound P o fr x (n0 + i)) (g := fun r => if (match r with | .val u _ k => Nat.beq k (n0 + i) && V.beq u v | _ => false) = true then some () else none) (fun r => ?_)).of_eq ?_
  · cases r with
    | val u h k =>
      simp only
      split
      · rename_i hb
        simp only [Bool.and_eq_true] at hb
        intro l e
        simp only [Option.some.injEq] at e; subst e
        refine ⟨⟨_, List.mem_singleton.2 rfl, fun c hc => by simp at hc⟩, fun e he _ hg => ?_⟩
        simp only [List.mem_singleton] at he; subst he
        have : u = v := hg.1 (u, v) (List.mem_singleton.2 rfl)
        subst this
        rw [if_pos (by rw [hb.1, V.beq_refl u hb.2]; rfl)]
      · exact .none _
    | _ => exact .none _
  · unfold readsSame
    cases stepOp P o fr x (n0 + i) with
    | none => rfl
    | some r => cases r <;> rfl
def histM (n0 i : Nat) (o : Oper) (fr : Tr V) (v : V) (allocs : List (Nat × O)) (anc : Nat) : List (Nat × Nat × Tr O) → M Unit
  | [] => .ret ()
  | (e, m, x) :: r => match hasBit anc e with
    | true => .ret ()
    | false => (readM P n0 i o fr v (view n0 allocs m x anc)).then fun _ => histM n0 i o fr v allocs anc r
theorem histM_sound (n0 i : Nat) (o : Oper) (fr : Tr V) (v : V) (allocs : List (Nat × O)) (anc : Nat) : ∀ l : List (Nat × Nat × Tr O), Sound (histM P n0 i o fr v allocs anc l) (if histOk P n0 i o fr v allocs anc l = true then some () else none)
  | [] => (Sound.ret ()).of_eq rfl
  | (e, m, x) :: r => by
    simp only [histM, histOk]
    rcases Bool.eq_false_or_eq_true (hasBit anc e) with hb | hb
    · simp only [hb, if_true]; exact .ret ()
    · simp only [hb, Bool.false_eq_true, if_false]
      refine (Sound.then (readM_sound P n0 i o fr v _) (fun _ => histM_sound n0 i o fr v allocs anc r)).of_eq ?_
      cases readsSame P n0 i o fr v (view n0 allocs m x anc) <;> cases histOk P n0 i o fr v allocs anc r <;> rfl
def readsM (n0 : Nat) (allocs : List (Nat × O)) (m : Nat) (x : Tr O) : List (Nat × Nat × Oper × Tr V × V) → M Unit
  | [] => .ret ()
  | (j, anc, o, fr, v) :: r => match hasBit m j with
    | true => readsM n0 allocs m x r
    | false => (readM P n0 j o fr v (view n0 allocs m x anc)).then fun _ => readsM n0 allocs m x r
theorem readsM_sound (n0 : Nat) (allocs : List (Nat × O)) (m : Nat) (x : Tr O) : ∀ l : List (Nat × Nat × Oper × Tr V × V), Sound (readsM P n0 allocs m x l) (if readsOk P n0 allocs m x l = true then some () else none)
  | [] => (Sound.ret ()).of_eq rfl
  | (j, anc, o, fr, v) :: r => by
    simp only [readsM, readsOk]
    rcases Bool.eq_false_or_eq_true (hasBit m j) with hb | hb
    · simp only [hb, Bool.true_or, Bool.true_and]; exact readsM_sound n0 allocs m x r
    · simp only [hb, Bool.false_or]
      refine (Sound.then (readM_sound P n0 j o fr v _) (fun _ => readsM_sound n0 allocs m x r)).of_eq ?_
      cases readsSame P n0 j o fr v (view n0 allocs m x anc) <;> cases readsOk P n0 allocs m x r <;> rfl
def afterM (n0 i anc : Nat) (o : Oper) (s : Dr) (v : V) (h : Tr O) (n : Nat) : M Dr :=
  match putD s.fr o.dst v with
  | some fr => (readsM P n0 s.allocs anc h s.reads).then fun _ =>
      .ret { fr := fr, masks := s.masks ++ [anc], cur := (anc, h), hist := (i, s.cur.1, s.cur.2) :: s.hist, last := some i, allocs := s.allocs, reads := s.reads, n := n }
  | none => none
theorem afterM_sound (n0 i anc : Nat) (o : Oper) (s : Dr) (v : V) (h : Tr O) (n : Nat) : Sound (afterM P n0 i anc o s v h n) (afterEff P n0 i anc o s v h n) := by
  unfold afterM afterEff
  cases putD s.fr o.dst v with
  | none => exact .none _
  | some fr =>
    refine (Sound.then (readsM_sound P n0 s.allocs anc h s.reads) (g := fun _ => some _) (fun _ => .ret _)).of_eq ?_
    cases readsOk P n0 s.allocs anc h s.reads <;> rfl
def drawM (ops : Array Oper) (n0 i : Nat) (o : Oper) (s : Dr) : M Dr :=
  match wantedV ops o s.fr with
  | some false => match putD s.fr o.dst (.tup []) with
    | some fr => .ret { s with fr := fr, masks := s.masks ++ [maskOf s.masks o.after.toList] }
    | none => none
  | some true =>
    match isEff o.op with
    | true => match lastOk (maskOf s.masks o.after.toList) s.last with
      | true => (symM P o s.fr (view n0 s.allocs s.cur.1 s.cur.2 (maskOf s.masks o.after.toList)) s.n).then fun r => match r with
        | .val v h n => (fixM H o.dst v).then fun v => afterM P n0 i (maskOf s.masks o.after.toList) o s v h n
        | .call f args => (callP S cf f args (view n0 s.allocs s.cur.1 s.cur.2 (maskOf s.masks o.after.toList)) s.n).then fun q => (fixM H o.dst q.1).then fun v => afterM P n0 i (maskOf s.masks o.after.toList) o s v q.2.1 q.2.2
        | _ => none
      | false => none
    | false => (symM P o s.fr (view n0 s.allocs s.cur.1 s.cur.2 (maskOf s.masks o.after.toList)) (n0 + i)).then fun r => match r with
      | .val v h k => (fixM H o.dst v).then fun v => match putD s.fr o.dst v with
        | some fr => match Nat.beq k (n0 + i) with
          | true => match isPure o.op with
            | true => .ret { s with fr := fr, masks := s.masks ++ [maskOf s.masks o.after.toList] }
            | false => (histM P n0 i o s.fr v s.allocs (maskOf s.masks o.after.toList) s.hist).then fun _ =>
                .ret { s with fr := fr, masks := s.masks ++ [maskOf s.masks o.after.toList], reads := (i, maskOf s.masks o.after.toList, o, s.fr, v) :: s.reads }
          | false => match h.get (n0 + i) with
            | some b => match b.wr with
              | true => .ret { s with fr := fr, masks := s.masks ++ [maskOf s.masks o.after.toList], allocs := (i, b) :: s.allocs }
              | false => none
            | none => none
        | none => none
      | _ => none
  | none => none
def getL {α β : Type} : Option (α ⊕ β) → Option α
  | some (.inl a) => some a
  | _ => none
theorem drawM_sound (ops : Array Oper) (n0 i : Nat) (o : Oper) (s : Dr) : Sound (drawM P S cf H ops n0 i o s) (getL (drawOp P (joinA S cf) ops n0 i o s)) := by
  unfold drawM drawOp
  rcases wantedV ops o s.fr with _ | (_ | _)
  · exact .none _
  · cases putD s.fr o.dst (.tup []) with
    | none => exact .none _
    | some fr => exact (Sound.ret _).of_eq rfl
  · cases isEff o.op with
    | true =>
      rcases Bool.eq_false_or_eq_true (lastOk (maskOf s.masks o.after.toList) s.last) with hb | hb
      rotate_left
      · simp only [hb]; exact .none _
      · simp only [hb, if_true]
        refine (Sound.then (symM_sound P o s.fr _ s.n) (g := fun r => match r with
          | .val v h n => afterEff P n0 i (maskOf s.masks o.after.toList) o s v h n
          | .call f args => (retOnly (joinA S cf f args (view n0 s.allocs s.cur.1 s.cur.2 (maskOf s.masks o.after.toList)) s.n)).bind fun q => afterEff P n0 i (maskOf s.masks o.after.toList) o s q.1 q.2.1 q.2.2
          | _ => none) (fun r => ?_)).of_eq ?_
        · cases r with
          | val v h n => exact (Sound.then (fixM_sound H o.dst v) (g := fun v => afterEff P n0 i (maskOf s.masks o.after.toList) o s v h n) (fun v => afterM_sound P n0 i _ o s v h n)).of_eq rfl
          | call f args =>
            refine Sound.then (callP_sound S cf f args _ s.n) (fun q => ?_)
            exact (Sound.then (fixM_sound H o.dst q.1) (g := fun v => afterEff P n0 i (maskOf s.masks o.after.toList) o s v q.2.1 q.2.2) (fun v => afterM_sound P n0 i _ o s v q.2.1 q.2.2)).of_eq rfl
          | _ => exact .none _
        · cases stepOp P o s.fr (view n0 s.allocs s.cur.1 s.cur.2 (maskOf s.masks o.after.toList)) s.n with
          | none => rfl
          | some r =>
            cases r with
            | val v h n =>
              simp only [bind_some']
              cases afterEff P n0 i (maskOf s.masks o.after.toList) o s v h n <;> rfl
            | call f args =>
              simp only [bind_some']
              cases joinA S cf f args (view n0 s.allocs s.cur.1 s.cur.2 (maskOf s.masks o.after.toList)) s.n with
              | none => rfl
              | some q =>
                obtain ⟨out, h, n⟩ := q
                cases out with
                | ret v =>
                  simp only [retOnly, bind_some']
                  cases afterEff P n0 i (maskOf s.masks o.after.toList) o s v h n <;> rfl
                | pan v => simp only; split <;> rfl
            | _ => rfl
    | false =>
      simp only [Bool.false_eq_true, if_false]
      have body : ∀ (v : V) (h : Tr O) (k : Nat), Sound (match putD s.fr o.dst v with
          | some fr => match Nat.beq k (n0 + i) with
            | true => match isPure o.op with
              | true => M.ret { s with fr := fr, masks := s.masks ++ [maskOf s.masks o.after.toList] }
              | false => (histM P n0 i o s.fr v s.allocs (maskOf s.masks o.after.toList) s.hist).then fun _ =>
                  .ret { s with fr := fr, masks := s.masks ++ [maskOf s.masks o.after.toList], reads := (i, maskOf s.masks o.after.toList, o, s.fr, v) :: s.reads }
            | false => match h.get (n0 + i) with
              | some b => match b.wr with
                | true => M.ret { s with fr := fr, masks := s.masks ++ [maskOf s.masks o.after.toList], allocs := (i, b) :: s.allocs }
                | false => none
              | none => none
          | none => none) (getL (match putD s.fr o.dst v with
            | some fr =>
              if Nat.beq k (n0 + i) = true then
                if isPure o.op = true then (some (.inl { s with fr := fr, masks := s.masks ++ [maskOf s.masks o.after.toList] }) : Option (Dr ⊕ (Tr V × V × Tr O × Nat)))
                else if histOk P n0 i o s.fr v s.allocs (maskOf s.masks o.after.toList) s.hist = true then
                  some (.inl { s with fr := fr, masks := s.masks ++ [maskOf s.masks o.after.toList], reads := (i, maskOf s.masks o.after.toList, o, s.fr, v) :: s.reads })
                else miss o
              else match h.get (n0 + i) with
                | some b => if b.wr = true then some (.inl { s with fr := fr, masks := s.masks ++ [maskOf s.masks o.after.toList], allocs := (i, b) :: s.allocs }) else miss o
                | none => miss o
            | none => miss o)) := by
        intro v h k
        cases putD s.fr o.dst v with
        | none => exact .none _
        | some fr =>
          simp only
          cases Nat.beq k (n0 + i) with
          | true =>
            simp only [if_true]
            cases isPure o.op with
            | true => exact (Sound.ret _).of_eq rfl
            | false =>
              refine (Sound.then (histM_sound P n0 i o s.fr v s.allocs _ s.hist) (g := fun _ => some _) (fun _ => .ret _)).of_eq ?_
              simp only [Bool.false_eq_true, if_false]
              cases histOk P n0 i o s.fr v s.allocs (maskOf s.masks o.after.toList) s.hist <;> rfl
          | false =>
            simp only [Bool.false_eq_true, if_false]
            cases h.get (n0 + i) with
            | none => exact .none _
            | some b =>
              simp only
              cases b.wr with
              | true => exact (Sound.ret _).of_eq rfl
              | false => exact .none _
      refine (Sound.then (symM_sound P o s.fr _ (n0 + i)) (g := fun r => match r with
        | .val v h k => getL (match putD s.fr o.dst v with
            | some fr =>
              if Nat.beq k (n0 + i) = true then
                if isPure o.op = true then (some (.inl { s with fr := fr, masks := s.masks ++ [maskOf s.masks o.after.toList] }) : Option (Dr ⊕ (Tr V × V × Tr O × Nat)))
                else if histOk P n0 i o s.fr v s.allocs (maskOf s.masks o.after.toList) s.hist = true then
                  some (.inl { s with fr := fr, masks := s.masks ++ [maskOf s.masks o.after.toList], reads := (i, maskOf s.masks o.after.toList, o, s.fr, v) :: s.reads })
                else miss o
              else match h.get (n0 + i) with
                | some b => if b.wr = true then some (.inl { s with fr := fr, masks := s.masks ++ [maskOf s.masks o.after.toList], allocs := (i, b) :: s.allocs }) else miss o
                | none => miss o
            | none => miss o)
        | _ => none) (fun r => ?_)).of_eq ?_
      · cases r with
        | val v h k => exact (Sound.then (fixM_sound H o.dst v) (g := fun v => getL (match putD s.fr o.dst v with
            | some fr =>
              if Nat.beq k (n0 + i) = true then
                if isPure o.op = true then (some (.inl { s with fr := fr, masks := s.masks ++ [maskOf s.masks o.after.toList] }) : Option (Dr ⊕ (Tr V × V × Tr O × Nat)))
                else if histOk P n0 i o s.fr v s.allocs (maskOf s.masks o.after.toList) s.hist = true then
                  some (.inl { s with fr := fr, masks := s.masks ++ [maskOf s.masks o.after.toList], reads := (i, maskOf s.masks o.after.toList, o, s.fr, v) :: s.reads })
                else miss o
              else match h.get (n0 + i) with
                | some b => if b.wr = true then some (.inl { s with fr := fr, masks := s.masks ++ [maskOf s.masks o.after.toList], allocs := (i, b) :: s.allocs }) else miss o
                | none => miss o
            | none => miss o)) (fun v => body v h k)).of_eq rfl
        | _ => exact .none _
      · cases stepOp P o s.fr (view n0 s.allocs s.cur.1 s.cur.2 (maskOf s.masks o.after.toList)) (n0 + i) with
        | none => rfl
        | some r => cases r <;> rfl
def drawsM (ops : Array Oper) (n0 : Nat) : List Oper → Nat → Dr → M Dr
  | [], _, s => .ret s
  | o :: r, i, s => (drawM P S cf H ops n0 i o s).then fun s' => drawsM ops n0 r (i + 1) s'
theorem drawsM_sound (ops : Array Oper) (n0 : Nat) : ∀ (l : List Oper) (i : Nat) (s : Dr), Sound (drawsM P S cf H ops n0 l i s) (getL (drawOps P (joinA S cf) ops n0 l i s))
  | [], i, s => (Sound.ret s).of_eq rfl
  | o :: r, i, s => by
    simp only [drawsM, drawOps]
    refine (Sound.then (drawM_sound P S cf H ops n0 i o s) (fun s' => drawsM_sound ops n0 r (i + 1) s')).of_eq ?_
    cases drawOp P (joinA S cf) ops n0 i o s with
    | none => rfl
    | some q => cases q <;> rfl
def roundsM (f : St → M (X × St)) : Nat → St → M (X × St)
  | 0, _ => none
  | k + 1, s => (f s).then fun p => match p.1 with
    | .normal => roundsM f k p.2
    | _ => .ret p
def codeM (F : Nat) : Code → St → M (X × St)
  | .region _ ops false, s => seqM P S cf H ops ops.toList s
  | .region _ ops true, s => match decide (s.n + ops.size < top) with
    | true => (drawsM P S cf H ops s.n ops.toList 0 { fr := s.fr, masks := [], cur := (0, s.h), hist := [], last := none, allocs := [], reads := [], n := s.n + ops.size }).then fun d =>
        .ret (.normal, { fr := d.fr, h := view s.n d.allocs d.cur.1 d.cur.2 (2 ^ ops.size - 1), n := d.n, dfs := s.dfs })
    | false => none
  | .seq a b, s => (codeM F a s).then fun p => match p.1 with
    | .normal => codeM F b p.2
    | _ => .ret p
  | .cond c a b, s => match opd s.fr c with
    | some (.bool true) => codeM F a s
    | some (.bool false) => codeM F b s
    | _ => none
  | .block id body, s => (codeM F body s).then fun p => match p.1 with
    | .exit id' => if id' = id then .ret (.normal, p.2) else .ret p
    | _ => .ret p
  | .loop body, s => roundsM (codeM F body) F s
  | .skip, s => .ret (.normal, s)
  | .exit id, s => .ret (.exit id, s)
  | .ret, s => .ret (.ret, s)
  | _, _ => none
theorem roundsM_sound {f : St → M (X × St)} {g : St → Option (X × St)} (h : ∀ s, Sound (f s) (g s)) : ∀ (k : Nat) (s : St), Sound (roundsM f k s) (rounds g k s)
  | 0, s => .none _
  | k + 1, s => by
    simp only [roundsM, rounds]
    refine (Sound.then (h s) (g := fun p => match p.1 with | .normal => rounds g k p.2 | _ => some p) (fun p => ?_)).of_eq ?_
    · obtain ⟨x, s'⟩ := p
      cases x with
      | normal => exact roundsM_sound h k s'
      | _ => exact .ret _
    · cases g s with
      | none => rfl
      | some p => obtain ⟨x, s'⟩ := p; cases x <;> rfl
theorem codeM_sound (F : Nat) : ∀ (c : Code) (s : St), Sound (codeM P S cf H F c s) (exec P (joinA S cf) F c s) := by
  intro c
  induction c with
  | region id ops draw =>
    intro s
    cases draw with
    | false => exact seqM_sound P S cf H ops ops.toList s
    | true =>
      simp only [codeM, exec, drawn]
      by_cases hlt : s.n + ops.size < top
      · simp only [decide_eq_true hlt, if_pos hlt]
        refine sound_getL (Sound.then (drawsM_sound P S cf H ops s.n ops.toList 0 _) (g := fun d => some (.normal, { fr := d.fr, h := view s.n d.allocs d.cur.1 d.cur.2 (2 ^ ops.size - 1), n := d.n, dfs := s.dfs })) (fun d => .ret _)) ?_
        intro d hd
        cases hq : drawOps P (joinA S cf) ops s.n ops.toList 0 { fr := s.fr, masks := [], cur := (0, s.h), hist := [], last := none, allocs := [], reads := [], n := s.n + ops.size } with
        | none => rw [hq] at hd; cases hd
        | some q =>
          rw [hq] at hd
          cases q with
          | inl d' => simp only [getL, Option.bind_some] at hd; simp only; exact hd
          | inr _ => cases hd
      · simp only [decide_eq_false hlt]; exact .none _
  | seq a b iha ihb =>
    intro s
    simp only [codeM, exec]
    refine (Sound.then (iha s) (g := fun p => match p.1 with | .normal => exec P (joinA S cf) F b p.2 | _ => some p) (fun p => ?_)).of_eq ?_
    · obtain ⟨x, s'⟩ := p
      cases x with
      | normal => exact ihb s'
      | _ => exact .ret _
    · cases exec P (joinA S cf) F a s with
      | none => rfl
      | some p => obtain ⟨x, s'⟩ := p; cases x <;> rfl
  | cond c a b iha ihb =>
    intro s
    simp only [codeM, exec]
    cases opd s.fr c with
    | none => exact .none _
    | some v =>
      cases v with
      | bool t =>
        cases t with
        | true => exact iha s
        | false => exact ihb s
      | _ => exact .none _
  | block id c ih =>
    intro s
    simp only [codeM, exec]
    refine (Sound.then (ih s) (g := fun p => match p.1 with | .exit id' => if id' = id then some (.normal, p.2) else some p | _ => some p) (fun p => ?_)).of_eq ?_
    · obtain ⟨x, s'⟩ := p
      cases x with
      | exit j =>
        simp only
        by_cases hj : j = id
        · simp only [if_pos hj]; exact .ret _
        · simp only [if_neg hj]; exact .ret _
      | _ => exact .ret _
    · cases exec P (joinA S cf) F c s with
      | none => rfl
      | some p => obtain ⟨x, s'⟩ := p; cases x <;> rfl
  | loop c ih =>
    intro s
    simp only [codeM, exec]
    exact roundsM_sound ih F s
  | skip => intro s; exact .ret _
  | exit id => intro s; exact .ret _
  | ret => intro s; exact .ret _
  | _ => intro s; exact .none _
end
section
variable {P : Program} {S : Ctr} {cf : CallF} {H : List (Nat × Fix)} {F N : Nat} {w0 : World} {c : Code} {s : St} {Q : Exit → St → Prop}
theorem T_sym (hcf : CallOk P (joinA S cf)) (hm : P.follows .mixedOrders = true) {l : List (Pth × X × St)} (hc : codeOk N c = true) (e : codeM P S cf H F c s = some l) (h : ∀ p ∈ l, p.1.ok → p.1.good ∧ ∃ y, p.2.1.plain = some y ∧ Q y p.2.2) : T P N w0 c s Q := by
  obtain ⟨⟨p, hp, ho⟩, h2⟩ := codeM_sound P S cf H F c s l e
  obtain ⟨hg, y, hy, hq⟩ := h p hp ho
  exact T_exec (F := F) hcf hm hc (h2 p hp ho hg) hy hq
def tells {α : Type} (f : X × St → α) : List (Pth × X × St) → List (List (Bool × Bool) × List Prop × α)
  | [] => []
  | (p, x) :: r => (p.conds, p.asr, f x) :: tells f r
def samesL {α : Type} : List (Pth × α) → List V
  | [] => []
  | (p, _) :: r => p.same.map (·.1) ++ samesL r
def samesR {α : Type} : List (Pth × α) → List V
  | [] => []
  | (p, _) :: r => p.same.map (·.2) ++ samesR r
def orNil {α : Type} : M α → List (Pth × α)
  | some l => l
  | none => []
theorem map_same : ∀ {l : List (V × V)}, l.map (·.1) = l.map (·.2) → ∀ c ∈ l, c.1 = c.2
  | [], _, c, hc => by simp at hc
  | x :: r, h, c, hc => by
    simp only [List.map_cons, List.cons.injEq] at h
    rcases List.mem_cons.1 hc with rfl | hc
    · exact h.1
    · exact map_same h.2 c hc
theorem same_ok {α : Type} : ∀ (l : List (Pth × α)), samesL l = samesR l → ∀ p ∈ l, ∀ c ∈ p.1.same, c.1 = c.2
  | [], _, p, hp => by simp at hp
  | (q, x) :: r, h, p, hp => by
    simp only [samesL, samesR] at h
    have hl : (q.same.map (·.1)).length = (q.same.map (·.2)).length := by simp
    obtain ⟨h1, h2⟩ := List.append_inj h hl
    rcases List.mem_cons.1 hp with rfl | hp
    · exact map_same h1
    · exact same_ok r h2 p hp
theorem tells_mem {α : Type} {f : X × St → α} : ∀ {l : List (Pth × X × St)} {p : Pth × X × St}, p ∈ l → (p.1.conds, p.1.asr, f p.2) ∈ tells f l
  | [], p, hp => by simp at hp
  | (q, x) :: r, p, hp => by
    rcases List.mem_cons.1 hp with rfl | hp
    · simp [tells]
    · simp only [tells, List.mem_cons]; exact .inr (tells_mem hp)
theorem T_tells (hcf : CallOk P (joinA S cf)) (hm : P.follows .mixedOrders = true) {α : Type} (f : X × St → α) (G : List (List (Bool × Bool) × List Prop × α)) (hc : codeOk N c = true) (e1 : (codeM P S cf H F c s).isSome = true) (e2 : samesL (orNil (codeM P S cf H F c s)) = samesR (orNil (codeM P S cf H F c s)))
    (e3 : tells f (orNil (codeM P S cf H F c s)) = G) (h : ∀ g ∈ G, (∀ b ∈ g.1, b.1 = b.2) → (∀ a ∈ g.2.1, a) ∧ ∀ x s', f (x, s') = g.2.2 → ∃ y, x.plain = some y ∧ Q y s') : T P N w0 c s Q := by
  obtain ⟨l, hl⟩ := Option.isSome_iff_exists.1 e1
  rw [hl] at e2 e3
  simp only [orNil] at e2 e3
  refine T_sym hcf hm hc hl fun p hp ho => ?_
  have hg := h (p.1.conds, p.1.asr, f p.2) (e3 ▸ tells_mem hp) ho
  exact ⟨⟨same_ok l e2 p hp, hg.1⟩, hg.2 _ _ rfl⟩
end
end Go.Eng
