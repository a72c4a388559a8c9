/- The engine, part W: deferred calls and recover; a call as a whole. No conditions: lemmas alone. -/
import Derived.Test.YtljiongmhoooiaaEngU
namespace Go.Eng
open Go

def mrel (E : Env) : Mode → FrameMode → Prop
  | .ret, .returning => True
  | .pan v b, .panicking chain => ∃ v', vrel E v v' ∧ chain = [{ v := v', recovered := b }]
  | _, _ => False

theorem mrel_mono {E E' : Env} (h : E.le E') : ∀ {m : Mode} {u : FrameMode}, mrel E m u → mrel E' m u
  | .ret, .returning, _ => trivial
  | .pan _ _, .panicking _, ⟨v', r, q⟩ => ⟨v', vrel_mono h _ _ r, q⟩
  | .ret, .run, r => r.elim
  | .ret, .panicking _, r => r.elim
  | .pan _ _, .run, r => r.elim
  | .pan _ _, .returning, r => r.elim

def PostD (E : Env) (N : Nat) (s : St) (w : World) (x : X) (s' : St) (m' : Mode) (c₀ : Frame) (cs : List Frame) (Q : Exit → Act → List Frame → World → Prop) : Prop :=
  ∀ E' a' w' x' u', Upd E s.h w E' s'.h w' → (∀ k, k < s.n → E'.ι k = E.ι k) → s.n ≤ s'.n → SRel E' N s' a' w' → xrel E' x x' → mrel E' m' u' → Q x' a' ({ c₀ with mode := u' } :: cs) w'

theorem PostD.after {E E1 : Env} {N : Nat} {s s1 s' : St} {w w1 : World} {x : X} {m' : Mode} {c₀ : Frame} {cs : List Frame} {Q : Exit → Act → List Frame → World → Prop} (p : PostD E N s w x s' m' c₀ cs Q) (u : Upd E s.h w E1 s1.h w1)
    (hlow : ∀ k, k < s.n → E1.ι k = E.ι k) (hn : s.n ≤ s1.n) : PostD E1 N s1 w1 x s' m' c₀ cs Q :=
  fun E' a' w' x' u2 u' hlow' hn' r rx rm => p E' a' w' x' u2 (u.trans u') (fun k hk => by rw [hlow' k (by omega)]; exact hlow k hk) (by omega) r rx rm

section
variable {P : Program} {cf : CallF} {F N : Nat}

theorem range'_succ' (k n : Nat) : List.range' k (n + 1) = k :: List.range' (k + 1) n := by simp [List.range'_succ]

theorem seqD_sound {ops : Array Oper} (c₀ : Frame) (cs : List Frame) : ∀ (l : List Oper) (k : Nat) (s : St) (m : Mode) (x : X) (s' : St) (m' : Mode), (∀ j, l[j]? = ops[k + j]?) → (∀ o ∈ l, dstOk N o.dst) → seqOpsD P cf ops l s m = some (x, s', m') →
    ∀ (E : Env) (a : Act) (w : World) (u : FrameMode) (Q : Exit → Act → List Frame → World → Prop), SRel E N s a w → mrel E m u → PostD E N s w x s' m' c₀ cs Q →
      wpOpsS P ops Q (List.range' k l.length) a ({ c₀ with mode := u } :: cs) w
  | [], k, s, m, x, s', m', _, _, e, E, a, w, u, Q, r, rm, hp => by
    simp only [seqOpsD, Option.some.injEq, Prod.mk.injEq] at e; obtain ⟨rfl, rfl, rfl⟩ := e
    exact hp E a w .normal u (Upd.refl r.good) (fun _ _ => rfl) (Nat.le_refl _) r trivial rm
  | o :: rest, k, s, m, x, s', m', hget, hdst, e, E, a, w, u, Q, r, rm, hp => by
    have ho := hdst o (by simp)
    have hrest : ∀ o ∈ rest, dstOk N o.dst := fun o h => hdst o (by simp [h])
    have hd' : dstOk a.tmps.size o.dst := by rw [r.size]; exact ho
    have hgr : ∀ j, rest[j]? = ops[k + 1 + j]? := fun j => by have := hget (j + 1); simpa [Nat.add_assoc, Nat.add_comm 1 j] using this
    have hok : ops[k]? = some o := by have := hget 0; simpa using this.symm
    simp only [seqOpsD] at e
    simp only [List.length_cons, range'_succ', wpOpsS, hok]
    have hwant : ∀ b, wantedV ops o s.fr = some b → Region.wanted o (yielded ops a.tmps) = b := fun b hb => wanted_rel (E := E) (fun _ _ _ d _ _ _ v hv => r.fr d v hv) hb
    have hopd : ∀ y ∈ o.op.operands, OpdRel E s.fr a.eval y := fun y _ => opdRel_of_frel r.fr y
    split at e
    · rename_i hw
      rw [if_neg (by rw [hwant _ hw]; simp)]
      split at e
      · rename_i fr hput
        exact seqD_sound c₀ cs rest (k + 1) _ m x s' m' hgr hrest e E _ w u Q ⟨r.good, r.dom, frel_put r.fr hput ⟨[], rfl, rfl⟩ hd', by rw [put_size]; exact r.size, by rw [put_defers]; exact r.dfs⟩ rm (hp.after (Upd.refl r.good) (fun _ _ => rfl) (Nat.le_refl _))
      · cases e
    · rename_i hw
      rw [if_pos (hwant _ hw)]
      split at e
      · rename_i v h n hs
        split at e
        · rename_i fr hput
          obtain ⟨E', w', v', hrun, q1, q2, q3, q4⟩ := step_sound r.good (r.dom _ (Nat.le_refl _)) hopd hs
          have hn : s.n ≤ n := by rcases q4 with ⟨rfl, _⟩ | rfl <;> omega
          have hdom : Dom E' n := by
            rcases q4 with ⟨rfl, rfl⟩ | rfl
            · exact r.dom
            · intro k hk; rw [q3 k (by omega)]; exact r.dom k (by omega)
          have hgo := seqD_sound c₀ cs rest (k + 1) _ m x s' m' hgr hrest e E' (a.put o.dst v') w' u Q ⟨q2.good, hdom, frel_put (frel_mono q2.le r.fr) hput q1 hd', by rw [put_size]; exact r.size, by rw [put_defers]; exact drel_mono q2.le _ _ r.dfs⟩ (mrel_mono q2.le rm)
            (hp.after q2 (fun k hk => q3 k (by omega)) hn)
          rcases hrun with hrun | ⟨hrun, rfl⟩
          · rw [hrun]; simp only [Oper.upon_value]; exact hgo
          · rw [hrun]; simp only [Oper.upon_skip]; exact hgo
        · cases e
      · rename_i hs
        have hrun := step_sound r.good (r.dom _ (Nat.le_refl _)) hopd hs
        simp only [OpOk] at hrun
        rw [hrun]
        simp only
        split at e
        · rename_i v
          split at e
          · rename_i fr hput
            cases u with
            | panicking chain =>
              obtain ⟨v', q1, rfl⟩ := rm
              simp only [recoverD]
              exact seqD_sound c₀ cs rest (k + 1) _ (.pan v true) x s' m' hgr hrest e E (a.put o.dst v') w (.panicking [{ v := v', recovered := true }]) Q ⟨r.good, r.dom, frel_put r.fr hput q1 hd', by rw [put_size]; exact r.size, by rw [put_defers]; exact r.dfs⟩ ⟨v', q1, rfl⟩
                (hp.after (Upd.refl r.good) (fun _ _ => rfl) (Nat.le_refl _))
            | run => exact rm.elim
            | returning => exact rm.elim
          · cases e
        · rename_i hnp
          split at e
          · rename_i fr hput
            have hnone : recoverD ({ c₀ with mode := u } :: cs) = none := by
              cases m with
              | ret => cases u <;> first | (exact rm.elim) | rfl
              | pan v b =>
                cases b with
                | false => exact absurd rfl (hnp v)
                | true =>
                  cases u with
                  | panicking chain => obtain ⟨v', q1, rfl⟩ := rm; rfl
                  | run => exact rm.elim
                  | returning => exact rm.elim
            rw [hnone]
            exact seqD_sound c₀ cs rest (k + 1) _ m x s' m' hgr hrest e E (a.put o.dst .nilIface) w u Q ⟨r.good, r.dom, frel_put r.fr hput rfl hd', by rw [put_size]; exact r.size, by rw [put_defers]; exact r.dfs⟩ rm (hp.after (Upd.refl r.good) (fun _ _ => rfl) (Nat.le_refl _))
          · cases e
      · cases e
    · cases e

theorem wpS_cond_true {c : Operand} {x y : Code} {a : Act} {cs : List Frame} {w : World} {Q : Exit → Act → List Frame → World → Prop} (hc : a.eval c = .bool true) (h : x.wpS P Q a cs w) : (Code.cond c x y).wpS P Q a cs w := wpS_cond hc h
theorem wpS_cond_false {c : Operand} {x y : Code} {a : Act} {cs : List Frame} {w : World} {Q : Exit → Act → List Frame → World → Prop} (hc : a.eval c = .bool false) (h : y.wpS P Q a cs w) : (Code.cond c x y).wpS P Q a cs w := wpS_cond hc h

theorem execD_plain (hcf : CallOk P cf) (hm : P.follows .mixedOrders = true) {c : Code} {s s' : St} {x : X} {m m' : Mode} (hok : codeOk N c = true) (e : (match exec P cf F c s with | some (x, s') => some (x, s', m) | none => none) = some (x, s', m'))
    {c₀ : Frame} {cs : List Frame} {E : Env} {a : Act} {w : World} {u : FrameMode} {Q : Exit → Act → List Frame → World → Prop} (r : SRel E N s a w) (rm : mrel E m u) (hp : PostD E N s w x s' m' c₀ cs Q) : c.wpS P Q a ({ c₀ with mode := u } :: cs) w := by
  cases h1 : exec P cf F c s with
  | none => simp [h1] at e
  | some p =>
    obtain ⟨x1, s1⟩ := p
    simp only [h1, Option.some.injEq, Prod.mk.injEq] at e; obtain ⟨rfl, rfl, rfl⟩ := e
    exact wpS_of_wp (exec_sound hcf hm c s x1 s1 hok h1 E a w _ r fun E' a' w' x' u' hlow hn r' hx => hp E' a' w' x' u u' hlow hn r' hx (mrel_mono u'.le rm))

theorem execD_sound (hcf : CallOk P cf) (hm : P.follows .mixedOrders = true) (c₀ : Frame) (cs : List Frame) : ∀ (c : Code) (s : St) (m : Mode) (x : X) (s' : St) (m' : Mode), codeOk N c = true → execD P cf F c s m = some (x, s', m') →
    ∀ (E : Env) (a : Act) (w : World) (u : FrameMode) (Q : Exit → Act → List Frame → World → Prop), SRel E N s a w → mrel E m u → PostD E N s w x s' m' c₀ cs Q → c.wpS P Q a ({ c₀ with mode := u } :: cs) w := by
  intro c
  induction c with
  | region id ops draw =>
    intro s m x s' m' hok e E a w u Q r rm hp
    cases draw with
    | false =>
      simp only [execD] at e
      have hok' := hok
      simp only [codeOk, Bool.and_eq_true] at hok'
      have := seqD_sound (P := P) (cf := cf) (ops := ops) c₀ cs ops.toList 0 s m x s' m' (fun j => by simp) (fun o ho d hd => by
        have := List.all_eq_true.1 hok'.1 o ho
        rw [hd] at this; simpa using this) e E a w u Q r rm hp
      exact wpS_region (by rw [List.range_eq_range', ← Array.length_toList]; exact this)
    | true =>
      simp only [execD] at e
      exact execD_plain (F := F) hcf hm hok e r rm hp
  | seq c1 c2 ih1 ih2 =>
    intro s m x s' m' hok e E a w u Q r rm hp
    simp only [codeOk, Bool.and_eq_true] at hok
    simp only [execD] at e
    refine wpS_seq ?_
    cases h1 : execD P cf F c1 s m with
    | none => simp [h1] at e
    | some p =>
      obtain ⟨x1, s1, m1⟩ := p
      refine ih1 s m x1 s1 m1 hok.1 h1 E a w u _ r rm fun E' a' w' x' u1 uu hlow hn r' hx rm' => ?_
      cases x1 with
      | normal =>
        simp only [h1] at e
        cases x' <;> first | (exact hx.elim) | skip
        exact ih2 s1 m1 x s' m' hok.2 e E' a' w' u1 Q r' rm' (hp.after uu hlow hn)
      | exit i =>
        simp only [h1, Option.some.injEq, Prod.mk.injEq] at e; obtain ⟨rfl, rfl, rfl⟩ := e
        cases x' <;> first | (exact hx.elim) | skip
        exact hp E' a' w' _ u1 uu hlow hn r' hx rm'
      | ret =>
        simp only [h1, Option.some.injEq, Prod.mk.injEq] at e; obtain ⟨rfl, rfl, rfl⟩ := e
        cases x' <;> first | (exact hx.elim) | skip
        exact hp E' a' w' _ u1 uu hlow hn r' hx rm'
      | panic v =>
        simp only [h1, Option.some.injEq, Prod.mk.injEq] at e; obtain ⟨rfl, rfl, rfl⟩ := e
        cases x' <;> first | (exact hx.elim) | skip
        exact hp E' a' w' _ u1 uu hlow hn r' hx rm'
  | cond c c1 c2 ih1 ih2 =>
    intro s m x s' m' hok e E a w u Q r rm hp
    simp only [codeOk, Bool.and_eq_true] at hok
    simp only [execD] at e
    split at e
    · rename_i hc
      exact wpS_cond_true (cond_rel r.fr hc) (ih1 s m x s' m' hok.1 e E a w u Q r rm hp)
    · rename_i hc
      exact wpS_cond_false (cond_rel r.fr hc) (ih2 s m x s' m' hok.2 e E a w u Q r rm hp)
    · cases e
  | _ =>
    intro s m x s' m' hok e E a w u Q r rm hp
    simp only [execD] at e
    exact execD_plain (F := F) hcf hm hok e r rm hp

theorem frameOf_get : ∀ (vs : List V) (i : Nat) (t : Tr V) (k : Nat), i + vs.length < top → (frameOf vs i t).get k = if i ≤ k ∧ k < i + vs.length then vs[k - i]? else t.get k
  | [], i, t, k, _ => by simp only [frameOf, List.length_nil]; rw [if_neg (by omega)]
  | v :: vs, i, t, k, h => by
    simp only [List.length_cons] at h
    simp only [frameOf, List.length_cons]
    rw [frameOf_get vs (i + 1) _ k (by omega), Tr.get_set _ _ _ (by omega)]
    by_cases q : k = i
    · subst q
      rw [if_neg (by omega), if_pos rfl, if_pos (by omega)]; simp
    · rw [if_neg q]
      by_cases q2 : i + 1 ≤ k ∧ k < i + 1 + vs.length
      · rw [if_pos q2, if_pos (by omega)]
        have : k - i = (k - (i + 1)) + 1 := by omega
        rw [this]; simp
      · rw [if_neg q2, if_neg (by omega)]

theorem frel_enter {E : Env} {args : List V} {args' : List Value} {n : Nat} (r : vrels E args args') (hn : args.length ≤ n) (ht : n < top) :
    frel E (frameOf args 0 .nil) { tmps := args'.toArray ++ Array.replicate (n - args'.toArray.size) undef, defers := [] } ∧ (args'.toArray ++ Array.replicate (n - args'.toArray.size) undef).size = n := by
  have hl := vrels_length r
  refine ⟨fun t v hv => ?_, by simp; omega⟩
  rw [frameOf_get args 0 .nil t (by omega)] at hv
  split at hv
  · rename_i hi
    obtain ⟨v', h1, h2⟩ := vrels_get r _ v hv
    refine ⟨v', ?_, h2⟩
    simp only [Nat.sub_zero] at h1
    rw [Array.getElem?_append_left (by simp; omega)]
    simpa using h1
  · cases hv

def progOk (P : Program) : Bool := P.funcs.toList.all fun fn => match fn.body with | some c => codeOk fn.ntmps c | none => true

theorem progOk_spec (h : progOk P = true) {f : FuncId} {fn : Func} {c : Code} (hf : P.funcs[f]? = some fn) (hb : fn.body = some c) : codeOk fn.ntmps c = true := by
  unfold progOk at h
  have := List.all_eq_true.1 h fn (by rw [← Array.getElem?_toList] at hf; exact List.mem_of_getElem? hf)
  rw [hb] at this; exact this

theorem settle_ret : settle .returning = .returning := rfl
theorem settle_rec (v : Value) : settle (.panicking [{ v := v, recovered := true }]) = .returning := rfl
theorem settle_not (v : Value) : settle (.panicking [{ v := v, recovered := false }]) = .panicking [{ v := v, recovered := false }] := rfl

/-- the deferred calls of a frame, and its end -/
theorem leave_sound (hcf : CallOk P cf) (hm : P.follows .mixedOrders = true) (hpo : progOk P = true) {fn : Func} {fr : Tr V} {a : Act} : ∀ (ds : List (FuncId × List V × List V)) (m : Mode) (h : Tr O) (n : Nat) (out : Out) (h' : Tr O) (n' : Nat),
    leave P cf F fn fr ds m h n = some (out, h', n') → ∀ (E : Env) (w : World) (ds' : List Deferred) (u : FrameMode) (R : Ending → World → Prop), Good E h w → Dom E n → frel E fr a → drel E ds ds' → mrel E m u →
      (∀ E' w' en, Upd E h w E' h' w' → (∀ k, k < n → E'.ι k = E.ι k) → Dom E' n' → n ≤ n' → outrel E' out en → R en w') → Leaves P fn a.tmps R ds' u w
  | [], m, h, n, out, h', n', e, E, w, ds', u, R, g, hd, hf, hdr, rm, hR => by
    simp only [drel] at hdr; subst hdr
    cases m with
    | ret =>
      cases u <;> first | (exact rm.elim) | skip
      simp only [leave] at e
      split at e
      · rename_i vs hr
        simp only [Option.some.injEq, Prod.mk.injEq] at e; obtain ⟨rfl, rfl, rfl⟩ := e
        obtain ⟨v', h1, h2⟩ := run_results (P := P) g hf hr
        exact ⟨v', h1, hR E w _ (Upd.refl g) (fun _ _ => rfl) hd (Nat.le_refl _) h2⟩
      · cases e
    | pan v b =>
      cases u with
      | panicking chain =>
        obtain ⟨v', q1, rfl⟩ := rm
        cases b with
        | false =>
          simp only [leave, Option.some.injEq, Prod.mk.injEq] at e; obtain ⟨rfl, rfl, rfl⟩ := e
          exact hR E w _ (Upd.refl g) (fun _ _ => rfl) hd (Nat.le_refl _) ⟨v', q1, rfl⟩
        | true => cases e
      | run => exact rm.elim
      | returning => exact rm.elim
  | (gf, c, args) :: ds, m, h, n, out, h', n', e, E, w, ds', u, R, g, hd, hf, hdr, rm, hR => by
    obtain ⟨c', args', ys, r1, r2, r3, rfl⟩ := hdr
    simp only at r1 r2
    simp only [leave] at e
    split at e
    · rename_i gn hgn
      split at e
      · rename_i code hb
        split at e
        · rename_i hq
          obtain ⟨hcal, hlen, htop⟩ := hq
          have hune : u ≠ .run := by intro q; subst q; cases m <;> exact rm.elim
          have hvr := vrels_append r2 r1
          obtain ⟨hfr, hsz⟩ := frel_enter (n := gn.ntmps) hvr hlen htop
          have hcode := progOk_spec hpo hgn hb
          -- what comes behind the deferred call
          have next : ∀ (s' : St) (m' : Mode) (vs : List V), s'.dfs = [] → resultsV P s'.fr s'.h gn.results.toList = some vs → leave P cf F fn fr ds (match m' with | .pan _ true => .ret | m => m) s'.h s'.n = some (out, h', n') →
              ∀ E' (a' : Act) w' u', Upd E h w E' s'.h w' → (∀ k, k < n → E'.ι k = E.ι k) → n ≤ s'.n → SRel E' gn.ntmps s' a' w' → mrel E' m' u' →
              a'.defers = [] ∧ ∃ v, (results gn a'.tmps).run P w' = .ok v w' ∧ Leaves P fn a.tmps R ys (settle u') w' := by
            intro s' m' vs hdf hrs hlv E' a' w' u' uu hlow hn r' rm'
            have hdf' : a'.defers = [] := by have := r'.dfs; rw [hdf] at this; exact this
            obtain ⟨v', p1, p2⟩ := run_results (P := P) r'.good r'.fr hrs
            refine ⟨hdf', v', p1, ?_⟩
            refine leave_sound hcf hm hpo ds _ s'.h s'.n out h' n' hlv E' w' ys (settle u') R r'.good r'.dom (frel_mono uu.le hf) (drel_mono uu.le _ _ r3) ?_ fun E2 w2 en u2 hlow2 hd2 hn2 ho => hR E2 w2 en (uu.trans u2) (fun k hk => by rw [hlow2 k (by omega)]; exact hlow k hk) hd2 (by omega) ho
            cases m' with
            | ret => cases u' <;> first | (exact rm'.elim) | trivial
            | pan v b =>
              cases u' with
              | panicking chain =>
                obtain ⟨v2, q1, rfl⟩ := rm'
                cases b with
                | false => exact ⟨v2, q1, rfl⟩
                | true => trivial
              | run => exact rm'.elim
              | returning => exact rm'.elim
          have hinv : (invoke (.fn (.func gf) c'.toArray) args'.toArray).run P w = .ok (.enter gf (args' ++ c').toArray) w := by
            simp only [invoke]
            have : args'.toArray ++ c'.toArray = (args' ++ c').toArray := by simp
            rw [this]; exact run_callFunc hcal
          refine leaves_cons hune hinv (callsD_of_wpS hgn hb fun c₀ cs hmode => ?_)
          have hc0 : c₀ = { c₀ with mode := u } := by subst hmode; rfl
          rw [hc0]
          have srel : SRel E gn.ntmps { fr := frameOf (args ++ c) 0 .nil, h := h, n := n, dfs := [] } { tmps := (args' ++ c').toArray ++ Array.replicate (gn.ntmps - (args' ++ c').toArray.size) undef, defers := [] } w := ⟨g, hd, hfr, hsz, rfl⟩
          split at e
          · rename_i s' m' hx
            split at e
            · rename_i hdf
              split at e
              · rename_i vs hrs
                refine execD_sound hcf hm c₀ cs code _ m .normal s' m' hcode hx E _ w u _ srel rm fun E' a' w' x' u' uu hlow hn r' hxx rm' => ?_
                cases x' <;> first | (exact hxx.elim) | skip
                obtain ⟨k1, v, k2, k3⟩ := next s' m' vs hdf hrs e E' a' w' u' uu hlow hn r' rm'
                exact ⟨k1, u', rfl, v, k2, k3⟩
              · cases e
            · cases e
          · rename_i s' m' hx
            split at e
            · rename_i hdf
              split at e
              · rename_i vs hrs
                refine execD_sound hcf hm c₀ cs code _ m .ret s' m' hcode hx E _ w u _ srel rm fun E' a' w' x' u' uu hlow hn r' hxx rm' => ?_
                cases x' <;> first | (exact hxx.elim) | skip
                obtain ⟨k1, v, k2, k3⟩ := next s' m' vs hdf hrs e E' a' w' u' uu hlow hn r' rm'
                exact ⟨k1, u', rfl, v, k2, k3⟩
              · cases e
            · cases e
          · cases e
        · cases e
      · cases e
    · cases e

theorem enter_sound (hcf : CallOk P cf) (hm : P.follows .mixedOrders = true) (hpo : progOk P = true) : CallOk P (enter P cf F) := by
  intro f args h n out h' n' e E w args' ra g hd _
  unfold enter at e
  split at e
  · rename_i fn hf
    split at e
    · rename_i code hb
      split at e
      · rename_i hq
        obtain ⟨hfr, hsz⟩ := frel_enter (n := fn.ntmps) ra hq.1 hq.2
        have hcode := progOk_spec hpo hf hb
        have srel : SRel E fn.ntmps { fr := frameOf args 0 .nil, h := h, n := n, dfs := [] } { tmps := args'.toArray ++ Array.replicate (fn.ntmps - args'.toArray.size) undef, defers := [] } w := ⟨g, hd, hfr, hsz, rfl⟩
        refine calls_of_wp_defers hf hb ?_
        have fin : ∀ (s : St) (m : Mode) (u : FrameMode) (E' : Env) (a' : Act) (w' : World), leave P cf F fn s.fr s.dfs m s.h s.n = some (out, h', n') → Upd E h w E' s.h w' → (∀ k, k < n → E'.ι k = E.ι k) → n ≤ s.n → SRel E' fn.ntmps s a' w' → mrel E' m u →
            Leaves P fn a'.tmps (fun e w' => ∃ E', Upd E h w E' h' w' ∧ (∀ m, m < n → E'.ι m = E.ι m) ∧ Dom E' n' ∧ n ≤ n' ∧ outrel E' out e) a'.defers u w' := by
          intro s m u E' a' w' hl uu hlow hn r' rm
          exact leave_sound hcf hm hpo s.dfs m s.h s.n out h' n' hl E' w' a'.defers u _ r'.good r'.dom r'.fr r'.dfs rm fun E2 w2 en u2 hlow2 hd2 hn2 ho => ⟨E2, uu.trans u2, fun k hk => by rw [hlow2 k (by omega)]; exact hlow k hk, hd2, by omega, ho⟩
        split at e
        · rename_i s hx
          refine exec_sound hcf hm code _ _ s hcode hx E _ w _ srel fun E' a' w' x' uu hlow hn r' hxx => ?_
          cases x' <;> first | (exact hxx.elim) | skip
          exact fin s .ret .returning E' a' w' e uu hlow hn r' trivial
        · rename_i s hx
          refine exec_sound hcf hm code _ _ s hcode hx E _ w _ srel fun E' a' w' x' uu hlow hn r' hxx => ?_
          cases x' <;> first | (exact hxx.elim) | skip
          exact fin s .ret .returning E' a' w' e uu hlow hn r' trivial
        · rename_i v s hx
          refine exec_sound hcf hm code _ _ s hcode hx E _ w _ srel fun E' a' w' x' uu hlow hn r' hxx => ?_
          cases x' <;> first | (exact hxx.elim) | skip
          exact fin s (.pan v false) _ E' a' w' e uu hlow hn r' hxx
        · cases e
      · cases e
    · cases e
  · cases e

theorem call_sound' (hm : P.follows .mixedOrders = true) (hpo : progOk P = true) : ∀ k, CallOk P (call P F k)
  | 0 => fun _ _ _ _ _ _ _ e => by cases e
  | k + 1 => enter_sound (call_sound' hm hpo k) hm hpo
end
end Go.Eng
