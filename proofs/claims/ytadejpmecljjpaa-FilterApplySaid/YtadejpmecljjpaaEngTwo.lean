/- The engine, part K: len, max, min, maps, iterators. No conditions: lemmas alone. -/
import Derived.Test.YtadejpmecljjpaaEngOne
import Derived.RangeFuncSeq
import Derived.TacticsIn
import Derived.OrdersIn
import Derived.Recover
import Derived.LoopN
import Derived.LoopNIn
import Derived.RangeFuncRecord
import Derived.RangeFuncIn
set_option linter.unusedVariables false
set_option linter.unusedSimpArgs false
set_option linter.unusedSectionVars false
namespace Go.Eng
open Go
section
variable {P : Program} {E : Env} {h : Tr O} {n : Nat} {w : World}
theorem heap_cells_getObj {b : Nat} {o : Obj} (hb : w.heap[b]? = some o) (hn : ∀ c el fz, o ≠ .cells c el fz) : (getObj b).run P w = .ok o w := by
  simp only [getObj, Sem.run, hb]
theorem heap_setObj {b : Nat} {o o' : Obj} (hb : w.heap[b]? = some o) (hn : ∀ c el fz, o ≠ .cells c el fz) : (setObj b o').run P w = .ok () { w with heap := w.heap.setIfInBounds b o' } := by
  simp only [setObj, Sem.run, hb]
theorem erels_length : ∀ {xs : List (V × V × Nat)} {ys : List MapEntry}, erels E xs ys → ys.length = xs.length
  | [], _, r => by simp only [erels] at r; subst r; rfl
  | _ :: _, _, r => by obtain ⟨y, ys, _, _, _, rs, rfl⟩ := r; simp [erels_length rs]
theorem map_get {m : Nat} {es : List (V × V × Nat)} {clock : Nat} (g : Good E h w) (hm : h.get m = some (.map es clock)) :
    ∃ b es', E.ι m = some (b, 0) ∧ w.heap[b]? = some (.map es' clock) ∧ erels E es es'.toList := by
  obtain ⟨b, s, hi, hs, es', h1, h2⟩ := g.rel m _ hm
  subst hs
  exact ⟨b, es', hi, h1, h2⟩
theorem op_len {argTypes : Array TypeId} {ty : TypeId} {args : List V} {args' : List Value} {v : V} (g : Good E h w) (ra : vrels E args args') (e : lenV P argTypes args h = some v) :
    OpOk P E h n w (do pure (.value (← Builtin.len_ argTypes ty args'.toArray))) (.val v h n) := by
  unfold lenV at e
  split at e
  · rename_i t x h1
    obtain ⟨x', _, rx, hnil, rfl⟩ := ra
    simp only [vrels] at hnil; subst hnil
    split at e
    · rename_i s hu
      simp only [Option.some.injEq] at e; subst e
      simp only [vrel] at rx; subst rx
      refine ok_same g (v' := .int .i64 s.length) ?_ rfl
      have hsz : (⟨s.toArray⟩ : ByteArray).size = s.length := by show s.toArray.size = _; simp
      simp [Builtin.len_, h1, run_und hu, goInt, hsz]
    · rename_i _ k _ hu
      simp only [Option.some.injEq] at e; subst e
      refine ok_same g (v' := .int .i64 k) ?_ rfl
      simp [Builtin.len_, h1, run_und hu, goInt]
    · rename_i a len cap esz hu
      simp only [Option.some.injEq] at e; subst e
      refine ok_same g (v' := .int .i64 len) ?_ rfl
      cases a with
      | none => obtain ⟨rfl, rfl, rfl⟩ := rx; simp [Builtin.len_, h1, run_und hu, goInt]
      | some a => obtain ⟨_, _, _, _, _, _, _, _, _, rfl⟩ := rx; simp [Builtin.len_, h1, run_und hu, goInt]
    · rename_i hu
      simp only [Option.some.injEq] at e; subst e
      simp only [vrel] at rx; subst rx
      refine ok_same g (v' := .int .i64 0) ?_ rfl
      simp [Builtin.len_, h1, run_und hu, goInt]
    · rename_i m hu
      split at e
      · rename_i es clock hm
        simp only [Option.some.injEq] at e; subst e
        obtain ⟨b, es', hi, hb, her⟩ := map_get g hm
        obtain ⟨b', hi', rfl⟩ := rx
        rw [hi] at hi'; cases hi'
        refine ok_same g (v' := .int .i64 es.length) ?_ rfl
        have hl := erels_length her
        simp only [Array.length_toList] at hl
        simp [Builtin.len_, h1, run_und hu, goInt, heap_cells_getObj (P := P) hb (by intro _ _ _ q; cases q), hl]
      · cases e
    · cases e
  · cases e
theorem maxV_rel : ∀ (xs : List V) (x v : V) (x' : Value) (xs' : List Value), vrel E x x' → vrels E xs xs' → maxV x xs = some v →
    ∃ v', (xs'.foldlM Builtin.max2 x').run P w = .ok v' w ∧ vrel E v v'
  | [], x, v, x', xs', rx, rs, e => by
    simp only [vrels] at rs; subst rs
    have : v = x := by cases x <;> simp [maxV] at e <;> exact e.symm
    subst this
    exact ⟨x', rfl, rx⟩
  | y :: ys, x, v, x', _, rx, rs, e => by
    obtain ⟨y', ys', ry, rys, rfl⟩ := rs
    cases x with
    | int k a => cases y with
      | int j b =>
        simp only [maxV] at e
        simp only [vrel] at rx ry; subst rx; subst ry
        obtain ⟨v', h1, h2⟩ := maxV_rel ys (.int k (if b > a then b else a)) v (.int k (if b > a then b else a)) ys' rfl rys e
        refine ⟨v', ?_, h2⟩
        simp only [List.foldlM_cons, Sem.run_bind, Builtin.max2, Sem.run_pure, Result.andThen_ok]
        exact h1
      | _ => simp [maxV] at e
    | _ => simp [maxV] at e
theorem minV_rel : ∀ (xs : List V) (x v : V) (x' : Value) (xs' : List Value), vrel E x x' → vrels E xs xs' → minV x xs = some v →
    ∃ v', (xs'.foldlM Builtin.min2 x').run P w = .ok v' w ∧ vrel E v v'
  | [], x, v, x', xs', rx, rs, e => by
    simp only [vrels] at rs; subst rs
    have : v = x := by cases x <;> simp [minV] at e <;> exact e.symm
    subst this
    exact ⟨x', rfl, rx⟩
  | y :: ys, x, v, x', _, rx, rs, e => by
    obtain ⟨y', ys', ry, rys, rfl⟩ := rs
    cases x with
    | int k a => cases y with
      | int j b =>
        simp only [minV] at e
        simp only [vrel] at rx ry; subst rx; subst ry
        obtain ⟨v', h1, h2⟩ := minV_rel ys (.int k (if b < a then b else a)) v (.int k (if b < a then b else a)) ys' rfl rys e
        refine ⟨v', ?_, h2⟩
        simp only [List.foldlM_cons, Sem.run_bind, Builtin.min2, Sem.run_pure, Result.andThen_ok]
        exact h1
      | _ => simp [minV] at e
    | _ => simp [minV] at e
theorem op_max {argTypes : Array TypeId} {ty : TypeId} {x v : V} {xs : List V} {args' : List Value} (g : Good E h w) (ra : vrels E (x :: xs) args') (e : maxV x xs = some v) :
    OpOk P E h n w (do pure (.value (← Builtin.max_ argTypes ty args'.toArray))) (.val v h n) := by
  obtain ⟨x', xs', rx, rxs, rfl⟩ := ra
  obtain ⟨v', h1, h2⟩ := maxV_rel (P := P) (w := w) xs x v x' xs' rx rxs e
  refine ok_same g (v' := v') ?_ h2
  simp only [Builtin.max_, Sem.run_bind, h1, Result.andThen_ok, Sem.run_pure]
theorem op_min {argTypes : Array TypeId} {ty : TypeId} {x v : V} {xs : List V} {args' : List Value} (g : Good E h w) (ra : vrels E (x :: xs) args') (e : minV x xs = some v) :
    OpOk P E h n w (do pure (.value (← Builtin.min_ argTypes ty args'.toArray))) (.val v h n) := by
  obtain ⟨x', xs', rx, rxs, rfl⟩ := ra
  obtain ⟨v', h1, h2⟩ := minV_rel (P := P) (w := w) xs x v x' xs' rx rxs e
  refine ok_same g (v' := v') ?_ h2
  simp only [Builtin.min_, Sem.run_bind, h1, Result.andThen_ok, Sem.run_pure]
theorem keyEq_rel {kd : TypeDesc} {a b : V} {a' b' : Value} {r : Bool} (ra : vrel E a a') (rb : vrel E b b') (e : keyEq kd a b = some r) : Instr.sameNow kd a' b' = some r := by
  unfold keyEq at e
  split at e
  · simp only [vrel] at ra rb; subst ra; subst rb
    split at e
    · rename_i hk; simp only [Option.some.injEq] at e; subst e
      simp [Instr.sameNow, hk]
    · cases e
  · simp only [vrel] at ra rb; subst ra; subst rb
    simp only [Option.some.injEq] at e; subst e
    simp only [Instr.sameNow]
    rw [bytes_beq]
  · cases e
theorem findV_rel {kd : TypeDesc} {k : V} {k' : Value} (rk : vrel E k k') : ∀ (es : List (V × V × Nat)) (es' : List MapEntry) (i : Nat) (r : Option (Nat × V × V × Nat)), erels E es es' → findV kd k es i = some r →
    match r with
    | none => Instr.findNow kd k' es' i = some none
    | some (j, e) => ∃ e', i ≤ j ∧ es[j - i]? = some e ∧ es'[j - i]? = some e' ∧ keyEq kd k e.1 = some true ∧ vrel E e.1 e'.key ∧ vrel E e.2.1 e'.val ∧ e'.born = e.2.2 ∧ Instr.findNow kd k' es' i = some (some (j, e'.val))
  | [], es', i, r, rs, e => by
    simp only [erels] at rs; subst rs
    simp only [findV, Option.some.injEq] at e; subst e
    simp [Instr.findNow]
  | x :: xs, _, i, r, rs, e => by
    obtain ⟨y, ys, r1, r2, r3, rs, rfl⟩ := rs
    simp only [findV] at e
    cases hk : keyEq kd k x.1 with
    | none => simp [hk] at e
    | some b =>
      have hs := keyEq_rel rk r1 hk
      cases b with
      | true =>
        simp only [hk, Option.some.injEq] at e; subst e
        exact ⟨y, Nat.le_refl _, by simp, by simp, hk, r1, r2, r3, by simp [Instr.findNow, hs]⟩
      | false =>
        simp only [hk] at e
        have ih := findV_rel rk xs ys (i + 1) r rs e
        cases r with
        | none => simp only at ih ⊢; simp [Instr.findNow, hs, ih]
        | some q =>
          obtain ⟨j, e0⟩ := q
          obtain ⟨e', a1, a2, a3, a4, a5, a6, a7, a8⟩ := ih
          have hj : j - i = (j - (i + 1)) + 1 := by omega
          exact ⟨e', by omega, by rw [hj]; simpa using a2, by rw [hj]; simpa using a3, a4, a5, a6, a7, by simp [Instr.findNow, hs, a8]⟩
theorem run_findKey {kt : TypeId} {kd : TypeDesc} {k' : Value} {es' : List MapEntry} {r : Option (Nat × Value)} (hu : P.underlying kt = some kd) (e : Instr.findNow kd k' es' 0 = some r) :
    (Instr.findKey kt k' es').run P w = .ok r w := by
  simp [Instr.findKey, run_und hu, e]
theorem run_checkKey' {kt : TypeId} {kd : TypeDesc} {k : V} {k' : Value} {b : Bool} (d : Nat) (hu : P.underlying kt = some kd) (rk : vrel E k k') (e : keyOk kd k = true) : (Instr.checkKey b (d + 1) kt k').run P w = .ok () w := by
  unfold keyOk at e
  split at e
  · simp only [vrel] at rk; subst rk
    simp only [Instr.checkKey, Sem.run_bind, run_und hu, Result.andThen_ok]; rfl
  · simp only [vrel] at rk; subst rk
    simp only [Instr.checkKey, Sem.run_bind, run_und hu, Result.andThen_ok]; rfl
  · cases e
theorem run_checkKey {kt : TypeId} {kd : TypeDesc} {k : V} {k' : Value} {b : Bool} (hu : P.underlying kt = some kd) (rk : vrel E k k') (e : keyOk kd k = true) : (Instr.checkKey b 10000 kt k').run P w = .ok () w :=
  run_checkKey' 9999 hu rk e
theorem op_lookup {t : TypeId} {x k v : V} {ok : Bool} {x' k' : Value} (g : Good E h w) (rx : vrel E x x') (rk : vrel E k k') (e : lookupV P t h x k ok = some v) :
    OpOk P E h n w (do pure (.value (← Instr.lookup t x' k' ok))) (.val v h n) := by
  unfold lookupV at e
  split at e
  · rename_i kt et hu
    split at e
    · rename_i kd z hk hz
      split at e
      · rename_i hko
        obtain ⟨z', hz1, hz2, _⟩ := run_zero (w := w) E hz
        -- the entries
        have main : ∀ (es : List (V × V × Nat)) (es' : Array MapEntry), erels E es es'.toList → (match findV kd k es 0 with
            | some (some (_, _, v, _)) => some (if ok then V.tup [v, .bool true] else v)
            | some none => some (if ok then V.tup [z, .bool false] else z)
            | none => none) = some v →
            ((Instr.findKey kt k' es'.toList).run P w = .ok none w ∧ vrel E v (if ok then .tuple #[z', .bool false] else z')) ∨
            ∃ j v', (Instr.findKey kt k' es'.toList).run P w = .ok (some (j, v')) w ∧ vrel E v (if ok then .tuple #[v', .bool true] else v') := by
          intro es es' her e
          cases hf : findV kd k es 0 with
          | none => simp [hf] at e
          | some r =>
            have hr := findV_rel rk es es'.toList 0 r her hf
            cases r with
            | none =>
              simp only [hf, Option.some.injEq] at e; subst e
              refine .inl ⟨run_findKey hk hr, ?_⟩
              cases ok with
              | true => exact ⟨[z', .bool false], ⟨z', _, hz2, ⟨.bool false, [], rfl, rfl, rfl⟩, rfl⟩, rfl⟩
              | false => exact hz2
            | some q =>
              obtain ⟨j, k0, v0, n0⟩ := q
              simp only [hf, Option.some.injEq] at e; subst e
              obtain ⟨e', _, _, _, _, _, a6, _, a8⟩ := hr
              refine .inr ⟨j, e'.val, run_findKey hk a8, ?_⟩
              cases ok with
              | true => exact ⟨[e'.val, .bool true], ⟨e'.val, _, a6, ⟨.bool true, [], rfl, rfl, rfl⟩, rfl⟩, rfl⟩
              | false => exact a6
        cases x with
        | map m =>
          cases m with
          | none =>
            simp only at e
            simp only [vrel] at rx; subst rx
            rcases main [] #[] (by simp [erels]) e with ⟨m1, m3⟩ | ⟨j, v', m1, m3⟩
            · refine ok_same g ?_ m3
              simp only [Instr.lookup, Sem.run_bind, run_und hu, Result.andThen_ok, Sem.run_pure, run_checkKey (b := (#[] : Array MapEntry).isEmpty) hk rk hko, m1, hz1]
            · refine ok_same g ?_ m3
              simp only [Instr.lookup, Sem.run_bind, run_und hu, Result.andThen_ok, Sem.run_pure, run_checkKey (b := (#[] : Array MapEntry).isEmpty) hk rk hko, m1]
          | some m =>
            simp only at e
            cases hm : h.get m with
            | none => simp [hm] at e
            | some o =>
              cases o with
              | map es clock =>
                simp only [hm] at e
                obtain ⟨b, es', hi, hb, her⟩ := map_get g hm
                obtain ⟨b', hi', rfl⟩ := rx
                rw [hi] at hi'; cases hi'
                have hgo := heap_cells_getObj (P := P) hb (by intro _ _ _ q; cases q)
                rcases main es es' her e with ⟨m1, m3⟩ | ⟨j, v', m1, m3⟩
                · refine ok_same g ?_ m3
                  simp only [Instr.lookup, Sem.run_bind, run_und hu, Result.andThen_ok, Sem.run_pure, hgo, run_checkKey (b := es'.isEmpty) hk rk hko, m1, hz1]
                · refine ok_same g ?_ m3
                  simp only [Instr.lookup, Sem.run_bind, run_und hu, Result.andThen_ok, Sem.run_pure, hgo, run_checkKey (b := es'.isEmpty) hk rk hko, m1]
              | _ => simp [hm] at e
        | _ => simp at e
      · cases e
    · cases e
  · cases e
theorem erels_setNth {f : V × V × Nat → V × V × Nat} {f' : MapEntry → MapEntry} (hf : ∀ x y, vrel E x.1 y.key → vrel E x.2.1 y.val → y.born = x.2.2 → vrel E (f x).1 (f' y).key ∧ vrel E (f x).2.1 (f' y).val ∧ (f' y).born = (f x).2.2) :
    ∀ (xs : List (V × V × Nat)) (ys : List MapEntry) (i : Nat), erels E xs ys → erels E (setNth xs i f) (ys.modify i f')
  | [], _, i, r => by simp only [erels] at r; subst r; simp [setNth, erels]
  | x :: xs, _, i, r => by
    obtain ⟨y, ys, a, b, c, rs, rfl⟩ := r
    cases i with
    | zero => obtain ⟨p, q, s⟩ := hf x y a b c; exact ⟨f' y, ys, p, q, s, rs, by simp⟩
    | succ i => exact ⟨y, _, a, b, c, erels_setNth hf xs ys i rs, by simp⟩
theorem erels_push : ∀ (xs : List (V × V × Nat)) (ys : List MapEntry) (x : V × V × Nat) (y : MapEntry), erels E xs ys → vrel E x.1 y.key → vrel E x.2.1 y.val → y.born = x.2.2 → erels E (xs ++ [x]) (ys ++ [y])
  | [], _, x, y, r, a, b, c => by simp only [erels] at r; subst r; exact ⟨y, [], a, b, c, rfl, rfl⟩
  | z :: zs, _, x, y, r, a, b, c => by
    obtain ⟨y0, ys, a0, b0, c0, rs, rfl⟩ := r
    exact ⟨y0, _, a0, b0, c0, erels_push zs ys x y rs a b c, rfl⟩
theorem map_upd {m b clock clock' : Nat} {es es2 : List (V × V × Nat)} {es' es2' : Array MapEntry} (g : Good E h w) (htop : m < top) (hm : h.get m = some (.map es clock)) (hi : E.ι m = some (b, 0)) (hb : w.heap[b]? = some (.map es' clock))
    (her : erels E es2 es2'.toList) : Upd E h w E (h.set m (some (.map es2 clock'))) { w with heap := w.heap.setIfInBounds b (.map es2' clock') } := by
  have hlt : b < w.heap.size := (Array.getElem?_eq_some_iff.1 hb).1
  refine Upd.write g htop ⟨_, hm, rfl⟩ hi (by simp) rfl rfl rfl (fun x hx => ?_) ⟨rfl, es2', ?_, her⟩
  · simp [Ne.symm hx]
  · simp [hlt]
theorem keyStays {kd : TypeDesc} {a b : V} {a' b' : Value} (ra : vrel E a a') (rb : vrel E b b') (e : keyEq kd a b = some true) : (Instr.keyThatStays b' a').run P w = .ok a' w := by
  have : Instr.sameBits 10000 b' a' = true := by
    unfold keyEq at e
    split at e
    · simp only [vrel] at ra rb; subst ra; subst rb
      split at e
      · rename_i hk; simp only [Option.some.injEq, beq_iff_eq] at e
        simp [Instr.sameBits, hk, e]
      · cases e
    · simp only [vrel] at ra rb; subst ra; subst rb
      simp only [Option.some.injEq] at e
      simp only [Instr.sameBits]
      rw [beqB_eq] at e
      have hab : _ = _ := eq_of_beq e
      subst hab
      rw [bytes_beq, beqB_eq]; simp
    · cases e
  simp [Instr.keyThatStays, this]
theorem op_mapUpdate {t : TypeId} {m k v : V} {m' k' v' : Value} {r : R} (g : Good E h w) (rm : vrel E m m') (rk : vrel E k k') (rv : vrel E v v') (e : mapUpdateV P t h n m k v = some r) :
    OpOk P E h n w (do Instr.mapUpdate t m' k' v'; pure .skip) r := by
  unfold mapUpdateV at e
  split at e
  · rename_i kt et m hu
    split at e
    · rename_i kd es clock hk hm
      obtain ⟨b, es', hi, hb, her⟩ := map_get g hm
      obtain ⟨b', hi', rfl⟩ := rm
      rw [hi] at hi'; cases hi'
      have hgo := heap_cells_getObj (P := P) hb (by intro _ _ _ q; cases q)
      have hset : ∀ o', (setObj b o').run P w = .ok () { w with heap := w.heap.setIfInBounds b o' } := fun o' => heap_setObj (P := P) hb (by intro _ _ _ q; cases q)
      split at e
      · rename_i hq
        obtain ⟨hko, htop⟩ := hq
        have hck := run_checkKey (P := P) (w := w) (b := false) hk rk hko
        cases hf : findV kd k es 0 with
        | none => simp [hf] at e
        | some q =>
          have hr := findV_rel rk es es'.toList 0 q her hf
          cases q with
          | none =>
            simp only [hf, Option.some.injEq] at e; subst e
            have hu' := map_upd (clock' := clock + 1) (es2 := es ++ [(k, v, clock)]) (es2' := es'.push { key := k', val := v', born := clock }) g htop hm hi hb (by
              rw [Array.toList_push]; exact erels_push es es'.toList (k, v, clock) { key := k', val := v', born := clock } her rk rv rfl)
            refine ⟨E, _, undef, .inr ⟨?_, rfl⟩, ⟨[], rfl, rfl⟩, hu', fun _ _ => rfl, .inl ⟨rfl, rfl⟩⟩
            simp only [Instr.mapUpdate, Sem.run_bind, run_und hu, Result.andThen_ok, hgo, hck, run_findKey hk hr, hset, Sem.run_pure]
          | some q =>
            obtain ⟨j, e0⟩ := q
            simp only [hf, Option.some.injEq] at e; subst e
            obtain ⟨e', a1, a2, a3, a4, a5, a6, a7, a8⟩ := hr
            simp only [Nat.sub_zero] at a2 a3
            have hkey : ((es'[j]?).map (·.key)).getD k' = e'.key := by rw [← Array.getElem?_toList, a3]; rfl
            have hst := keyStays (P := P) (w := w) rk a5 a4
            have hu' := map_upd (clock' := clock) (es2 := setNth es j fun e => (k, v, e.2.2)) (es2' := es'.modify j fun e => { e with key := k', val := v' }) g htop hm hi hb (by
              rw [Array.toList_modify]
              exact erels_setNth (f := fun e => (k, v, e.2.2)) (f' := fun e => { e with key := k', val := v' }) (fun x y p q s => ⟨rk, rv, s⟩) es es'.toList j her)
            refine ⟨E, _, undef, .inr ⟨?_, rfl⟩, ⟨[], rfl, rfl⟩, hu', fun _ _ => rfl, .inl ⟨rfl, rfl⟩⟩
            simp only [Instr.mapUpdate, Sem.run_bind, run_und hu, Result.andThen_ok, hgo, hck, run_findKey hk a8, hkey, hst, hset, Sem.run_pure]
      · cases e
    · cases e
  · cases e
theorem op_mapEntry {t : TypeId} {m k : V} {m' k' : Value} {r : R} (g : Good E h w) (rm : vrel E m m') (rk : vrel E k k') (e : mapEntryV P t h n m k = some r) :
    OpOk P E h n w (do pure (.value (← Instr.mapEntry t m' k'))) r := by
  unfold mapEntryV at e
  split at e
  · rename_i kt et m hu
    split at e
    · rename_i kd es clock z hk hm hz
      obtain ⟨b, es', hi, hb, her⟩ := map_get g hm
      obtain ⟨b', hi', rfl⟩ := rm
      rw [hi] at hi'; cases hi'
      have hgo := heap_cells_getObj (P := P) hb (by intro _ _ _ q; cases q)
      have hset : ∀ o', (setObj b o').run P w = .ok () { w with heap := w.heap.setIfInBounds b o' } := fun o' => heap_setObj (P := P) hb (by intro _ _ _ q; cases q)
      obtain ⟨z', hz1, hz2, _⟩ := run_zero (w := w) E hz
      split at e
      · rename_i hq
        obtain ⟨hko, htop⟩ := hq
        have hck := run_checkKey (P := P) (w := w) (b := false) hk rk hko
        cases hf : findV kd k es 0 with
        | none => simp [hf] at e
        | some q =>
          have hr := findV_rel rk es es'.toList 0 q her hf
          cases q with
          | none =>
            simp only [hf, Option.some.injEq] at e; subst e
            have hu' := map_upd (clock' := clock + 1) (es2 := es ++ [(k, z, clock)]) (es2' := es'.push { key := k', val := z', born := clock }) g htop hm hi hb (by
              rw [Array.toList_push]; exact erels_push es es'.toList (k, z, clock) { key := k', val := z', born := clock } her rk hz2 rfl)
            refine ⟨E, _, .tuple #[z', .int .i64 clock], .inl ?_, ⟨[z', .int .i64 clock], ⟨z', _, hz2, ⟨.int .i64 clock, [], rfl, rfl, rfl⟩, rfl⟩, rfl⟩, hu', fun _ _ => rfl, .inl ⟨rfl, rfl⟩⟩
            simp only [Instr.mapEntry, Sem.run_bind, run_und hu, Result.andThen_ok, hgo, hck, run_findKey hk hr, hz1, hset, Sem.run_pure, goInt]
          | some q =>
            obtain ⟨j, e0⟩ := q
            simp only [hf, Option.some.injEq] at e; subst e
            obtain ⟨e', a1, a2, a3, a4, a5, a6, a7, a8⟩ := hr
            simp only [Nat.sub_zero] at a2 a3
            have hkey : ((es'[j]?).map (·.key)).getD k' = e'.key := by rw [← Array.getElem?_toList, a3]; rfl
            have hborn : (Option.map (fun x => (x.born : Int)) es'[j]?).getD 0 = (e0.2.2 : Int) := by rw [← Array.getElem?_toList, a3]; exact congrArg _ a7
            have hst := keyStays (P := P) (w := w) rk a5 a4
            have hu' := map_upd (clock' := clock) (es2 := setNth es j fun e => (k, e.2.1, e.2.2)) (es2' := es'.modify j fun e => { e with key := k' }) g htop hm hi hb (by
              rw [Array.toList_modify]
              exact erels_setNth (f := fun e => (k, e.2.1, e.2.2)) (f' := fun e => { e with key := k' }) (fun x y p q s => ⟨rk, q, s⟩) es es'.toList j her)
            refine ⟨E, _, .tuple #[e'.val, .int .i64 e0.2.2], .inl ?_, ⟨[e'.val, .int .i64 e0.2.2], ⟨e'.val, _, a6, ⟨.int .i64 e0.2.2, [], rfl, rfl, rfl⟩, rfl⟩, rfl⟩, hu', fun _ _ => rfl, .inl ⟨rfl, rfl⟩⟩
            simp only [Instr.mapEntry, Sem.run_bind, run_und hu, Result.andThen_ok, hgo, hck, run_findKey hk a8, hkey, hborn, hst, hset, Sem.run_pure, goInt]
      · cases e
    · cases e
  · cases e
theorem bornAt_rel {b : Int} : ∀ (xs : List (V × V × Nat)) (ys : List MapEntry) (i j : Nat), erels E xs ys → bornAt b xs i = some j → i ≤ j ∧ ys.findIdx? (fun e => (e.born : Int) == b) = some (j - i)
  | [], _, i, j, r, e => by simp [bornAt] at e
  | x :: xs, _, i, j, r, e => by
    obtain ⟨y, ys, _, _, c, rs, rfl⟩ := r
    simp only [bornAt] at e
    split at e
    · rename_i hb
      simp only [Option.some.injEq] at e; subst e
      refine ⟨Nat.le_refl _, ?_⟩
      rw [List.findIdx?_cons, if_pos (by rw [c]; exact hb)]
      simp
    · rename_i hb
      obtain ⟨h1, h2⟩ := bornAt_rel xs ys (i + 1) j rs e
      refine ⟨by omega, ?_⟩
      rw [List.findIdx?_cons, if_neg (by rw [c]; exact hb), h2]
      simp; omega
theorem op_entryStore {t : TypeId} {m s v : V} {m' s' v' : Value} {r : R} (g : Good E h w) (rm : vrel E m m') (rs : vrel E s s') (rv : vrel E v v') (e : entryStoreV h n m s v = some r) :
    OpOk P E h n w (do Instr.entryStore t m' s' v'; pure .skip) r := by
  unfold entryStoreV at e
  split at e
  · rename_i m k b0
    simp only [vrel] at rs; subst rs
    split at e
    · rename_i es clock hm
      obtain ⟨b, es', hi, hb, her⟩ := map_get g hm
      obtain ⟨b', hi', rfl⟩ := rm
      rw [hi] at hi'; cases hi'
      have hgo := heap_cells_getObj (P := P) hb (by intro _ _ _ q; cases q)
      have hset : ∀ o', (setObj b o').run P w = .ok () { w with heap := w.heap.setIfInBounds b o' } := fun o' => heap_setObj (P := P) hb (by intro _ _ _ q; cases q)
      split at e
      · rename_i htop
        cases hf : bornAt b0 es 0 with
        | none => simp [hf] at e
        | some j =>
          simp only [hf, Option.some.injEq] at e; subst e
          obtain ⟨_, h2⟩ := bornAt_rel es es'.toList 0 j her hf
          have h3 : es'.findIdx? (fun e => (e.born : Int) == b0) = some j := by
            have q := List.findIdx?_toArray (fun (e : MapEntry) => (e.born : Int) == b0) es'.toList
            rw [Array.toArray_toList] at q
            rw [q]; simpa using h2
          have hu' := map_upd (clock' := clock) (es2 := setNth es j fun e => (e.1, v, e.2.2)) (es2' := es'.modify j fun e => { e with val := v' }) g htop hm hi hb (by
            rw [Array.toList_modify]
            exact erels_setNth (f := fun e => (e.1, v, e.2.2)) (f' := fun e => { e with val := v' }) (fun x y p q s => ⟨p, rv, s⟩) es es'.toList j her)
          refine ⟨E, _, undef, .inr ⟨?_, rfl⟩, ⟨[], rfl, rfl⟩, hu', fun _ _ => rfl, .inl ⟨rfl, rfl⟩⟩
          simp only [Instr.entryStore, Sem.run_bind, hgo, Result.andThen_ok, asInt, asIntOf, Sem.run_pure, h3, hset]
      · cases e
    · cases e
  · cases e
theorem ok_newOther {h' : Tr O} {n' : Nat} {s : Sem Next} {o : O} {ob : Obj} {v : V} {v' : Value} (g : Good E h w) (hn : E.ι n = none) (e : newObj h n o = some (h', n'))
    (ho : ∀ E1 w1, w1.heap[w.heap.size]? = some ob → orel E1 w1 w.heap.size 0 o) (hr : s.run P w = .ok (.value v') (w.alloc ob)) (hv : vrel (E.put n w.heap.size 0 (sizeOfObj ob)) v v') : OpOk P E h n w s (.val v h' n') := by
  obtain ⟨htop, rfl, rfl⟩ := newObj_eq e
  exact ⟨_, _, v', .inl hr, hv, Upd.alloc g hn htop (ho _ _ heap_alloc_new), fun m hm => Env.put_ne hm, .inr rfl⟩
theorem op_makeMap {t : TypeId} {h' : Tr O} {n' : Nat} (g : Good E h w) (hn : E.ι n = none) (e : newObj h n (.map [] 0) = some (h', n')) :
    OpOk P E h n w (do pure (.value (← Instr.makeMap t none))) (.val (.map (some n)) h' n') := by
  refine ok_newOther (ob := .map #[] 0) (v' := .map (some w.heap.size)) g hn e (fun E1 w1 q => ⟨rfl, #[], q, by simp [erels]⟩) ?_ ⟨w.heap.size, Env.put_same, rfl⟩
  simp [Instr.makeMap]
theorem op_range {t : TypeId} {x : V} {x' : Value} {r : R} (g : Good E h w) (hn : E.ι n = none) (rx : vrel E x x') (e : rangeV P t x h n = some r) :
    OpOk P E h n w (do pure (.value (← Instr.range t x'))) r := by
  unfold rangeV at e
  split at e
  · rename_i s hu
    simp only [vrel] at rx; subst rx
    cases ho : newObj h n (.siter s 0) with
    | none => simp [ho] at e
    | some p =>
      obtain ⟨h', n'⟩ := p
      simp only [ho, Option.some.injEq] at e; subst e
      refine ok_newOther (ob := .stringIter ⟨s.toArray⟩ 0) (v' := .pointer (some ⟨w.heap.size, 0, none⟩)) g hn ho (fun E1 w1 q => ⟨rfl, q⟩) ?_ ⟨w.heap.size, 0, Env.put_same, by simp⟩
      simp [Instr.range, run_und hu]
  · cases e
theorem op_next {x : V} {b : Bool} {t : TypeId} {x' : Value} {r : R} (g : Good E h w) (rx : vrel E x x') (e : nextV x b h n = some r) :
    OpOk P E h n w (do pure (.value (← Instr.next x' b t))) r := by
  unfold nextV at e
  split at e
  · rename_i m
    obtain ⟨b0, s0, hi, rfl⟩ := rx
    split at e
    · rename_i s pos hm
      obtain ⟨b1, s1, hi1, hs1, hb⟩ := g.rel m _ hm
      rw [hi] at hi1; cases hi1
      subst hs1
      have hgo := heap_cells_getObj (P := P) hb (by intro _ _ _ q; cases q)
      have hset : ∀ o', (setObj b0 o').run P w = .ok () { w with heap := w.heap.setIfInBounds b0 o' } := fun o' => heap_setObj (P := P) hb (by intro _ _ _ q; cases q)
      have hlt : b0 < w.heap.size := (Array.getElem?_eq_some_iff.1 hb).1
      have hsz : (⟨s.toArray⟩ : ByteArray).size = s.length := by show s.toArray.size = _; simp
      split at e
      · rename_i hp
        simp only at e
        split at e
        · rename_i htop
          simp only [Option.some.injEq] at e; subst e
          have hu' : Upd E h w E (h.set m (some (.siter s (pos + (Utf8.decode ⟨s.toArray⟩ pos).2)))) { w with heap := w.heap.setIfInBounds b0 (.stringIter ⟨s.toArray⟩ (pos + (Utf8.decode ⟨s.toArray⟩ pos).2)) } := by
            refine Upd.write g htop ⟨_, hm, rfl⟩ hi (by simp) rfl rfl rfl (fun x hx => ?_) ⟨rfl, ?_⟩
            · simp [Ne.symm hx]
            · simp [hlt]
          refine ⟨E, _, .tuple #[.bool true, .int .i64 pos, .int .i32 (Utf8.decode ⟨s.toArray⟩ pos).1], .inl ?_, ⟨[.bool true, .int .i64 pos, .int .i32 (Utf8.decode ⟨s.toArray⟩ pos).1], ⟨_, _, rfl, ⟨_, _, rfl, ⟨_, _, rfl, rfl, rfl⟩, rfl⟩, rfl⟩, rfl⟩, hu', fun _ _ => rfl, .inl ⟨rfl, rfl⟩⟩
          simp [Instr.next, hgo, hsz, hp, hset, goInt]
        · cases e
      · rename_i hp
        simp only [Option.some.injEq] at e; subst e
        refine ok_same g (v' := .tuple #[.bool false]) ?_ ⟨[.bool false], ⟨_, _, rfl, rfl, rfl⟩, rfl⟩
        simp [Instr.next, hgo, hsz, hp]
    · cases e
  · cases e
end
end Go.Eng
namespace Go.Eng
open Go
section
variable {P : Program} {E : Env} {h : Tr O} {n : Nat} {w : World} {fr : Tr V} {ρ : Operand → Value}
def OpdRel (E : Env) (fr : Tr V) (ρ : Operand → Value) (x : Operand) : Prop := ∀ v, opd fr x = some v → vrel E v (ρ x)
theorem opds_rel : ∀ (xs : List Operand) (vs : List V), (∀ x ∈ xs, OpdRel E fr ρ x) → opds fr xs = some vs → vrels E vs (xs.map ρ)
  | [], vs, _, e => by simp only [opds, Option.some.injEq] at e; subst e; rfl
  | x :: xs, vs, hr, e => by
    simp only [opds] at e
    cases h1 : opd fr x with
    | none => simp [h1] at e
    | some v => cases h2 : opds fr xs with
      | none => simp [h1, h2] at e
      | some r =>
        simp only [h1, h2, Option.some.injEq] at e; subst e
        exact ⟨ρ x, xs.map ρ, hr x (by simp) v h1, opds_rel xs r (fun y hy => hr y (by simp [hy])) h2, rfl⟩
theorem opdParts_rel : ∀ (xs : List (Nat × Operand)) (vs : List (Nat × V)), (∀ x ∈ xs.map (·.2), OpdRel E fr ρ x) → opdParts fr xs = some vs → prels E vs (xs.map fun x => (x.1, ρ x.2))
  | [], vs, _, e => by simp only [opdParts, Option.some.injEq] at e; subst e; rfl
  | (i, x) :: xs, vs, hr, e => by
    simp only [opdParts] at e
    cases h1 : opd fr x with
    | none => simp [h1] at e
    | some v => cases h2 : opdParts fr xs with
      | none => simp [h1, h2] at e
      | some r =>
        simp only [h1, h2, Option.some.injEq] at e; subst e
        exact ⟨(i, ρ x), _, rfl, hr x (by simp) v h1, opdParts_rel xs r (fun y hy => hr y (by simp at hy ⊢; exact .inr hy)) h2, rfl⟩
theorem opdOpt_rel {x : Option Operand} {v : Option V} (hr : ∀ y, x = some y → OpdRel E fr ρ y) (e : opdOpt fr x = some v) : optrel E v (x.map ρ) := by
  cases x with
  | none => simp only [opdOpt, Option.some.injEq] at e; subst e; rfl
  | some x =>
    simp only [opdOpt] at e
    cases h1 : opd fr x with
    | none => simp [h1] at e
    | some y => simp only [h1, Option.some.injEq] at e; subst e; exact ⟨ρ x, hr x rfl y h1, rfl⟩
theorem okV_eq {v : Option V} {r : R} (e : okV h n v = some r) : ∃ x, v = some x ∧ r = .val x h n := by
  cases v with
  | none => simp [okV] at e
  | some x => simp only [okV, Option.some.injEq] at e; exact ⟨x, rfl, e.symm⟩
theorem run_callFunc {f : FuncId} {args : Array Value} (hc : callee P f = true) : (callFunc f args).run P w = .ok (.enter f args) w := by
  unfold callee at hc
  split at hc
  · rename_i fn hf
    simp only [Bool.and_eq_true, bne_iff_ne, ne_eq] at hc
    obtain ⟨h1, h2⟩ := hc
    have h3 : fn.body.isNone = false := by cases hb : fn.body <;> simp_all
    have h4 : (fn.name == "runtime.NumGoroutine") = false := by simpa using h2
    simp only [callFunc, Sem.run_bind, run_program, Result.andThen_ok, hf, h4, h3, Bool.false_eq_true, if_false]
    rfl
  · cases hc
theorem call_sound {c : Call} {ty : TypeId} {r : R} (g : Good E h w) (hn : E.ι n = none) (hr : ∀ x ∈ c.operands, OpdRel E fr ρ x) (e : callV P fr c h n = some r) :
    OpOk P E h n w (do let d ← resolve ρ c ty; invoke d.target d.args) r := by
  unfold callV at e
  split at e
  · rename_i args ha
    have hargs := opds_rel (E := E) (ρ := ρ) c.args.toList args (fun x hx => hr x (by simp [Call.operands]; exact .inr (by simpa using hx))) ha
    have hmap : c.args.map ρ = (c.args.toList.map ρ).toArray := by apply Array.ext'; simp
    split at e
    · rename_i b hc
      unfold builtinV at e
      split at e
      · split at e
        · rename_i h2
          have := op_append (P := P) (ty := ty) g hn hargs e h2
          simpa [resolve, hc, invoke, builtin, hmap] using this
        · cases e
      · obtain ⟨v, h1, rfl⟩ := okV_eq e
        have := op_len (P := P) (n := n) (ty := ty) g hargs h1
        simpa [resolve, hc, invoke, builtin, hmap] using this
      · split at e
        · obtain ⟨v, h1, rfl⟩ := okV_eq e
          have := op_max (P := P) (n := n) (argTypes := c.argTypes) (ty := ty) g hargs h1
          simpa [resolve, hc, invoke, builtin, hmap] using this
        · cases e
      · split at e
        · obtain ⟨v, h1, rfl⟩ := okV_eq e
          have := op_min (P := P) (n := n) (argTypes := c.argTypes) (ty := ty) g hargs h1
          simpa [resolve, hc, invoke, builtin, hmap] using this
        · cases e
      · split at e
        · rename_i t v
          simp only [Option.some.injEq] at e; subst e
          obtain ⟨x', _, ⟨y, ry, rfl⟩, hnil, hl⟩ := hargs
          simp only [vrels] at hnil; subst hnil
          have h0 : (c.args.map ρ).getD 0 .nilIface = .iface t y := by rw [hmap, hl]; rfl
          refine ⟨.iface t y, ?_, y, ry, rfl⟩
          simp only [resolve, hc, pure_bind, invoke, builtin]
          rw [h0]
          rfl
        · cases e
      · simp only [Option.some.injEq] at e; subst e
        show _ = _
        simp [resolve, hc, invoke, builtin]
      · cases e
    · cases e
    · rename_i f hc
      split at e
      · rename_i gf first captured hf
        split at e
        · rename_i hcal
          simp only [Option.some.injEq] at e; subst e
          obtain ⟨f', fi, ca, hff, r1, r2, hfe⟩ := hr f (by simp [Call.operands, hc]) _ hf
          simp only [fnrel] at hff; subst hff
          refine ⟨fi ++ c.args.toList.map ρ ++ ca, vrels_append (vrels_append r1 hargs) r2, .inl ⟨?_, hcal⟩⟩
          have hcf := run_callFunc (w := w) (args := (fi ++ c.args.toList.map ρ ++ ca).toArray) hcal
          simp only [resolve, hc, hfe, Deferred.ofValue, pure_bind, invoke]
          rw [← hcf]
          congr 2
          apply Array.ext'; simp
        · cases e
      · rename_i m hf
        obtain ⟨f', fi, ca, ⟨l, s, hι, hff⟩, r1, r2, hfe⟩ := hr f (by simp [Call.operands, hc]) _ hf
        subst hff
        simp only [vrels] at r1 r2; subst r1; subst r2
        split at e
        · split at e
          · simp only [Option.some.injEq] at e; subst e
            refine ⟨c.args.toList.map ρ, hargs, .inr ⟨m, l, s, rfl, hι, ?_⟩⟩
            simp only [resolve, hc, hfe, Deferred.ofValue, pure_bind, invoke, hmap]
            simp
          · cases e
        · cases e
      · cases e
  · cases e
theorem defer_sound {c : Call} {ty : TypeId} {r : R} (hr : ∀ x ∈ c.operands, OpdRel E fr ρ x) (e : deferV fr c = some r) :
    OpOk P E h n w (do pure (.defer (← resolve ρ c ty))) r := by
  unfold deferV at e
  split at e
  · rename_i args ha
    have hargs := opds_rel (E := E) (ρ := ρ) c.args.toList args (fun x hx => hr x (by simp [Call.operands]; exact .inr (by simpa using hx))) ha
    split at e
    · rename_i f hc
      split at e
      · rename_i gf first captured hf
        simp only [Option.some.injEq] at e; subst e
        obtain ⟨f', fi, ca, hff, r1, r2, hfe⟩ := hr f (by simp [Call.operands, hc]) _ hf
        simp only [fnrel] at hff; subst hff
        refine ⟨ca, fi ++ c.args.toList.map ρ, ?_, r2, vrels_append r1 hargs⟩
        simp only [resolve, hc, hfe, Deferred.ofValue, pure_bind]
        show Result.ok _ w = _
        congr 3
        apply Array.ext'; simp
      · cases e
    · cases e
  · cases e
set_option maxHeartbeats 1000000 in
theorem step_sound {o : Oper} {r : R} (g : Good E h w) (hn : E.ι n = none) (hr : ∀ x ∈ o.op.operands, OpdRel E fr ρ x) (e : stepOp P o fr h n = some r) : OpOk P E h n w (execOp ρ o) r := by
  obtain ⟨dst, op, ty, pos, after, guard⟩ := o
  simp only at hr
  cases op <;> simp only [stepOp] at e <;> simp only [Op.operands] at hr <;> simp only [execOp]
  case move x =>
    obtain ⟨v, h1, rfl⟩ := okV_eq e
    exact ok_same g rfl (hr x (by simp) v h1)
  case assign x =>
    obtain ⟨v, h1, rfl⟩ := okV_eq e
    exact ok_same g rfl (hr x (by simp) v h1)
  case pick c x y =>
    split at e
    · rename_i hc
      obtain ⟨v, h1, rfl⟩ := okV_eq e
      have rc := hr c (by simp) _ hc
      simp only [vrel] at rc
      exact ok_same g (by simp [rc, asBool]) (hr x (by simp) v h1)
    · rename_i hc
      obtain ⟨v, h1, rfl⟩ := okV_eq e
      have rc := hr c (by simp) _ hc
      simp only [vrel] at rc
      exact ok_same g (by simp [rc, asBool]) (hr y (by simp) v h1)
    · cases e
  case alloc t =>
    split at e
    · rename_i z hz
      split at e
      · rename_i h' n' ho
        simp only [Option.some.injEq] at e; subst e
        exact op_alloc g hn hz ho
      · cases e
    · cases e
  case box t x =>
    split at e
    · rename_i v hv
      split at e
      · rename_i h' n' ho
        simp only [Option.some.injEq] at e; subst e
        exact op_box g hn (hr x (by simp) v hv) ho
      · cases e
    · cases e
  case build t parts =>
    split at e
    · rename_i ps hps
      obtain ⟨v, h1, rfl⟩ := okV_eq e
      have hp := opdParts_rel (E := E) (ρ := ρ) parts.toList ps (fun x hx => hr x (by simpa using hx)) hps
      have hq : prels E ps (parts.map fun (i, x) => (i, ρ x)).toList := by simpa using hp
      obtain ⟨v', q1, q2⟩ := build_rel (P := P) (w := w) hq h1
      refine ok_same g (v' := v') ?_ q2
      simp only [Sem.run_bind, q1, Result.andThen_ok, Sem.run_pure]
    · cases e
  case buildSlice t len parts =>
    split at e
    · rename_i ps hps
      have hp := opdParts_rel (E := E) (ρ := ρ) parts.toList ps (fun x hx => hr x (by simpa using hx)) hps
      have hq : prels E ps (parts.map fun (i, x) => (i, ρ x)).toList := by simpa using hp
      have := op_buildSlice (P := P) (w := w) (t := t) (len := len) g hn hq e
      exact this
    · cases e
  case load t x =>
    split at e
    · rename_i v hv
      obtain ⟨u, h1, rfl⟩ := okV_eq e
      exact op_load g (hr x (by simp) v hv) h1
    · cases e
  case store t x y =>
    split at e
    · rename_i a v ha hv
      split at e
      · rename_i h' hs
        simp only [Option.some.injEq] at e; subst e
        exact op_store g (hr x (by simp) a ha) (hr y (by simp) v hv) hs
      · cases e
    · cases e
  case nilCheck x =>
    split at e
    · rename_i p hv
      simp only [Option.some.injEq] at e; subst e
      have hx := hr x (by simp) _ hv
      obtain ⟨b, s, q1, q2⟩ := hx
      rw [q2]
      exact ok_same g (v' := .pointer (some ⟨b, s + p.2, none⟩)) rfl ⟨b, s, q1, rfl⟩
    · rename_i f a c hv
      simp only [Option.some.injEq] at e; subst e
      have hx := hr x (by simp) _ hv
      obtain ⟨f', a', c', q0, q1, q2, q3⟩ := hx
      simp only [fnrel] at q0; subst q0
      rw [q3]
      exact ok_same g (v' := .func (.func f) a'.toArray c'.toArray) rfl ⟨_, a', c', rfl, q1, q2, rfl⟩
    · rename_i t v hv
      simp only [Option.some.injEq] at e; subst e
      have hx := hr x (by simp) _ hv
      obtain ⟨y, q1, q2⟩ := hx
      rw [q2]
      exact ok_same g (v' := .iface t y) rfl ⟨y, q1, rfl⟩
    · cases e
  case binOp op t x y yt =>
    split at e
    · rename_i a b ha hb
      obtain ⟨u, h1, rfl⟩ := okV_eq e
      exact op_binOp g (hr x (by simp) a ha) (hr y (by simp) b hb) h1
    · cases e
  case unOp op t x =>
    split at e
    · rename_i v hv
      obtain ⟨u, h1, rfl⟩ := okV_eq e
      exact op_unOp g (hr x (by simp) v hv) h1
    · cases e
  case convert s d x =>
    split at e
    · rename_i v hv
      exact op_convert g hn (hr x (by simp) v hv) e
    · cases e
  case makeInterface t x =>
    split at e
    · rename_i v d hv hu
      split at e
      · cases e
      · rename_i hd
        simp only [Option.some.injEq] at e; subst e
        have hx := hr x (by simp) v hv
        refine ok_same g (v' := .iface t (ρ x)) ?_ ⟨ρ x, hx, rfl⟩
        simp only [Instr.makeInterface, Sem.run_bind, run_und hu, Result.andThen_ok]
        cases d <;> first | (exact absurd rfl (hd _)) | rfl
    · cases e
  case makeFunc f first captured =>
    split at e
    · rename_i a c ha hc
      split at e
      case isFalse => cases e
      rename_i hny
      simp only [Option.some.injEq] at e; subst e
      have hfn : fnrel E f f := by cases f <;> first | rfl | cases hny
      have r1 := opds_rel (E := E) (ρ := ρ) first.toList a (fun x hx => hr x (by simp at hx ⊢; exact .inl hx)) ha
      have r2 := opds_rel (E := E) (ρ := ρ) captured.toList c (fun x hx => hr x (by simp at hx ⊢; exact .inr hx)) hc
      refine ok_same g (v' := .func f (first.map ρ) (captured.map ρ)) rfl ⟨f, first.toList.map ρ, captured.toList.map ρ, hfn, r1, r2, ?_⟩
      congr 1 <;> (apply Array.ext'; simp)
    · cases e
  case makeMap t res =>
    cases res with
    | some _ => simp at e
    | none =>
      simp only at e
      split at e
      · rename_i h' n' ho
        simp only [Option.some.injEq] at e; subst e
        exact op_makeMap g hn ho
      · cases e
  case makeSlice t l c =>
    split at e
    · rename_i lv cv hl hc
      exact op_makeSlice g hn (hr l (by simp) lv hl) (hr c (by simp) cv hc) e
    · cases e
  case slice t x lo hi mx =>
    split at e
    · rename_i v lov hiv mxv hv hlo hhi hmx
      obtain ⟨u, h1, rfl⟩ := okV_eq e
      refine op_slice g (hr x (by simp) v hv) (opdOpt_rel (fun y hy => hr y ?_) hlo) (opdOpt_rel (fun y hy => hr y ?_) hhi) (opdOpt_rel (fun y hy => hr y ?_) hmx) h1
      · subst hy; simp
      · subst hy; simp
      · subst hy; simp
    · cases e
  case fieldAddr t x f =>
    split at e
    · rename_i v hv
      obtain ⟨u, h1, rfl⟩ := okV_eq e
      exact op_fieldAddr g (hr x (by simp) v hv) h1
    · cases e
  case field t x f =>
    split at e
    · rename_i v hv
      obtain ⟨u, h1, rfl⟩ := okV_eq e
      exact op_field g (hr x (by simp) v hv) h1
    · cases e
  case indexAddr t x i =>
    split at e
    · rename_i v iv hv hi
      obtain ⟨u, h1, rfl⟩ := okV_eq e
      exact op_indexAddr g (hr x (by simp) v hv) (hr i (by simp) iv hi) h1
    · cases e
  case index t x i =>
    split at e
    · rename_i v iv hv hi
      obtain ⟨u, h1, rfl⟩ := okV_eq e
      exact op_index g (hr x (by simp) v hv) (hr i (by simp) iv hi) h1
    · cases e
  case lookup t x k ok =>
    split at e
    · rename_i v kv hv hk
      obtain ⟨u, h1, rfl⟩ := okV_eq e
      exact op_lookup g (hr x (by simp) v hv) (hr k (by simp) kv hk) h1
    · cases e
  case mapUpdate t m k v =>
    split at e
    · rename_i mv kv vv hm hk hv
      exact op_mapUpdate g (hr m (by simp) mv hm) (hr k (by simp) kv hk) (hr v (by simp) vv hv) e
    · cases e
  case insert t m k v =>
    split at e
    · rename_i mv kv vv hm hk hv
      exact op_mapUpdate g (hr m (by simp) mv hm) (hr k (by simp) kv hk) (hr v (by simp) vv hv) e
    · cases e
  case mapEntry t m k =>
    split at e
    · rename_i mv kv hm hk
      exact op_mapEntry g (hr m (by simp) mv hm) (hr k (by simp) kv hk) e
    · cases e
  case entryStore t m s v =>
    split at e
    · rename_i mv sv vv hm hs hv
      exact op_entryStore g (hr m (by simp) mv hm) (hr s (by simp) sv hs) (hr v (by simp) vv hv) e
    · cases e
  case range t x =>
    split at e
    · rename_i v hv
      exact op_range g hn (hr x (by simp) v hv) e
    · cases e
  case next it b =>
    split at e
    · rename_i v hv
      exact op_next g (hr it (by simp) v hv) e
    · cases e
  case typeAssert x xt t ok =>
    split at e
    · rename_i v hv
      obtain ⟨u, h1, rfl⟩ := okV_eq e
      exact op_typeAssert g (hr x (by simp) v hv) h1
    · cases e
  case extract x i =>
    split at e
    · rename_i vs hv
      obtain ⟨u, h1, rfl⟩ := okV_eq e
      exact op_extract g (hr x (by simp) _ hv) h1
    · cases e
  case panic x =>
    split at e
    · rename_i t v hv
      simp only [Option.some.injEq] at e; subst e
      obtain ⟨y, q1, q2⟩ := hr x (by simp) _ hv
      refine ⟨.iface t y, ?_, y, q1, rfl⟩
      rw [q2]; simp [Instr.panic]
    · cases e
  case call c => exact call_sound g hn hr e
  case defer c => exact defer_sound hr e
  all_goals (cases e)
end
end Go.Eng
namespace Go.Eng
open Go
def frel (E : Env) (fr : Tr V) (a : Act) : Prop := ∀ t v, fr.get t = some v → ∃ v', a.tmps[t]? = some v' ∧ vrel E v v'
theorem frel_mono {E E' : Env} (h : E.le E') {fr : Tr V} {a : Act} (r : frel E fr a) : frel E' fr a := fun t v e => let ⟨v', h1, h2⟩ := r t v e; ⟨v', h1, vrel_mono h v v' h2⟩
theorem put_size (a : Act) (dst : Option Tmp) (v : Value) : (a.put dst v).tmps.size = a.tmps.size := by cases dst <;> simp [Act.put]
theorem put_defers (a : Act) (dst : Option Tmp) (v : Value) : (a.put dst v).defers = a.defers := by cases dst <;> rfl
def dstOk (N : Nat) (dst : Option Tmp) : Prop := ∀ d, dst = some d → d < N
theorem frel_put {E : Env} {fr fr' : Tr V} {a : Act} {dst : Option Tmp} {v : V} {v' : Value} (r : frel E fr a) (e : putD fr dst v = some fr') (hv : vrel E v v') (hd : dstOk a.tmps.size dst) : frel E fr' (a.put dst v') := by
  cases dst with
  | none => simp only [putD, Option.some.injEq] at e; subst e; exact r
  | some d =>
    simp only [putD] at e
    split at e
    · rename_i ht
      simp only [Option.some.injEq] at e; subst e
      intro t x hx
      rw [Tr.get_set _ _ _ ht] at hx
      have hlt := hd d rfl
      by_cases q : t = d
      · subst q; rw [if_pos rfl] at hx; cases hx
        exact ⟨v', by simp [Act.put, hlt], hv⟩
      · rw [if_neg q] at hx
        obtain ⟨y, h1, h2⟩ := r t x hx
        exact ⟨y, by simp [Act.put, Ne.symm q, h1], h2⟩
    · cases e
theorem opdRel_of_frel {E : Env} {fr : Tr V} {a : Act} (r : frel E fr a) (x : Operand) : OpdRel E fr a.eval x := by
  intro v e
  cases x with
  | tmp t => obtain ⟨v', h1, h2⟩ := r t v e; simp only [Act.eval, Array.getD_eq_getD_getElem?, h1]; exact h2
  | const c => exact ofVal_rel e
  | func f => simp only [opd, Option.some.injEq] at e; subst e; exact ⟨_, [], [], rfl, rfl, rfl, rfl⟩
  | global g => simp [opd] at e
theorem wanted_rel {E : Env} {ops : Array Oper} {o : Oper} {fr : Tr V} {a : Act} {b : Bool} (r : ∀ j want q d, o.guard = some (j, want) → ops[j]? = some q → q.dst = some d → ∀ v, fr.get d = some v → ∃ v', a.tmps[d]? = some v' ∧ vrel E v v') (e : wantedV ops o fr = some b) :
    Region.wanted o (yielded ops a.tmps) = b := by
  unfold wantedV at e
  unfold Region.wanted
  cases hg : o.guard with
  | none => simp only [hg, Option.some.injEq] at e ⊢; exact e
  | some p =>
    obtain ⟨j, want⟩ := p
    simp only [hg] at e ⊢
    cases hj : ops[j]? with
    | none => simp [hj] at e
    | some q =>
      simp only [hj] at e
      cases hd : q.dst with
      | none => simp [hd] at e
      | some d =>
        simp only [hd] at e
        cases hf : fr.get d with
        | none => simp [hf] at e
        | some v =>
          obtain ⟨v', h1, h2⟩ := r j want q d hg hj hd v hf
          have hy : yielded ops a.tmps j = (match (some v' : Option Value) with | some (.bool b) => some b | _ => none) := by
            unfold yielded; rw [hj]; simp only [Option.bind_some, hd, h1]; cases v' <;> rfl
          cases v with
          | bool b0 =>
            simp only [hf, Option.some.injEq] at e
            simp only [vrel] at h2; subst h2
            rw [hy, ← e]
            cases b0 <;> cases want <;> rfl
          | tup vs =>
            cases vs with
            | nil =>
              simp only [hf, Option.some.injEq] at e
              obtain ⟨l, hl, rfl⟩ := h2
              rw [hy, ← e]; rfl
            | cons _ _ => simp [hf] at e
          | _ => simp [hf] at e
def Dom (E : Env) (n : Nat) : Prop := ∀ m, n ≤ m → E.ι m = none
def outrel (E : Env) : Out → Ending → Prop
  | .ret v, .returned v' => vrel E v v'
  | .pan v, .panicked chain => ∃ v', vrel E v v' ∧ chain = [{ v := v', recovered := false }]
  | _, _ => False
def fz (R : Option Nat) : Fence := { Fence.wide with round := R }
def CPost (E : Env) (h : Tr O) (n : Nat) (w : World) (out : Out) (h' : Tr O) (n' : Nat) (e : Ending) (w' : World) : Prop :=
  ∃ E', Upd E h w E' h' w' ∧ (∀ m, m < n → E'.ι m = E.ι m) ∧ Dom E' n' ∧ n ≤ n' ∧ outrel E' out e
def CallOk (P : Program) (cf : CallF) : Prop := ∀ f args h n out h' n', cf f args h n = some (out, h', n') → ∀ E w args', vrels E args args' → Good E h w → Dom E n →
  (callee P f = true → Calls P f args'.toArray w (CPost E h n w out h' n')) ∧
  (∀ m l s, f = P.funcs.size + m → E.ι m = some (l, s) → YieldAt Fence.wide 0 P l args'.toArray w (CPost E h n w out h' n'))
theorem semAt_plain {R : Option Nat} {ρ : Operand → Value} {o : Oper} (h : ∀ c, o.op ≠ .defer c) : Oper.semAt R ρ o = execOp ρ o := by
  cases R with
  | none => exact Oper.semAt_none ..
  | some l => exact Oper.semAt_some l ρ o h
theorem deferV_dfr {fr : Tr V} {c : Call} {r : R} (e : deferV fr c = some r) : ∃ f a b, r = .dfr f a b := by
  unfold deferV at e
  split at e
  · split at e
    · split at e
      · simp only [Option.some.injEq] at e; exact ⟨_, _, _, e.symm⟩
      · cases e
    · cases e
  · cases e
section
variable {P : Program} {E : Env} {h h' : Tr O} {n n' : Nat} {w : World} {fr : Tr V} {a : Act} {o : Oper} {K : Act → World → Prop} {Q : Exit → Act → World → Prop} {rnd : Option Nat}
theorem not_defer {r : R} (e : stepOp P o fr h n = some r) (hr : ∀ f a b, r ≠ .dfr f a b) : ∀ c, o.op ≠ .defer c := by
  intro c hc
  simp only [stepOp, hc] at e
  obtain ⟨f, x, y, q⟩ := deferV_dfr e
  exact hr f x y q
theorem wp_val {v : V} (g : Good E h w) (hn : E.ι n = none) (hr : ∀ x ∈ o.op.operands, OpdRel E fr a.eval x) (e : stepOp P o fr h n = some (.val v h' n'))
    (hk : ∀ E' w' v', vrel E' v v' → Upd E h w E' h' w' → (∀ m, m ≠ n → E'.ι m = E.ι m) → ((n' = n ∧ E' = E) ∨ n' = n + 1) → K (a.put o.dst v') w') : o.wpIn (fz rnd) 0 P a w K Q := by
  obtain ⟨E', w', v', hrun, h1, h2, h3, h4⟩ := step_sound g hn hr e
  refine ⟨fun _ _ => trivial, ?_⟩
  rw [semAt_plain (not_defer e fun _ _ _ => by simp)]
  rcases hrun with hrun | ⟨hrun, rfl⟩
  · rw [hrun, Oper.uponIn_value]; exact hk E' w' v' h1 h2 h3 h4
  · rw [hrun, Oper.uponIn_skip]; exact hk E' w' undef h1 h2 h3 h4
theorem wp_call {cf : CallF} {f : FuncId} {args : List V} {out : Out} (hcf : CallOk P cf) (g : Good E h w) (hn : Dom E n) (hr : ∀ x ∈ o.op.operands, OpdRel E fr a.eval x)
    (e : stepOp P o fr h n = some (.call f args)) (ec : cf f args h n = some (out, h', n'))
    (hk : ∀ E' w', Upd E h w E' h' w' → (∀ m, m < n → E'.ι m = E.ι m) → Dom E' n' → n ≤ n' →
      match out with
      | .ret v => ∀ v', vrel E' v v' → K (a.put o.dst v') w'
      | .pan v => ∀ v', vrel E' v v' → Q (.panic [{ v := v', recovered := false }]) a w') : o.wpIn (fz rnd) 0 P a w K Q := by
  obtain ⟨args', h1, hrun⟩ := step_sound g (hn n (Nat.le_refl _)) hr e
  refine ⟨fun _ _ => trivial, ?_⟩
  rw [semAt_plain (not_defer e fun _ _ _ => by simp)]
  have fin : ∀ en w', CPost E h n w out h' n' en w' → (match en, w' with
      | .returned v, w'' => K (a.put o.dst v) w''
      | .panicked chain, w'' => Q (.panic chain) a w''
      | .outgrown, _ => LetsOut Q) := fun en w' ⟨E', u1, u2, u3, u4, u5⟩ => by
    have := hk E' w' u1 u2 u3 u4
    cases out with
    | ret v => cases en with
      | returned v' => exact this v' u5
      | panicked _ => exact u5.elim
      | outgrown => exact u5.elim
    | pan v => cases en with
      | returned v' => exact u5.elim
      | panicked chain => obtain ⟨v', q1, rfl⟩ := u5; exact this v' q1
      | outgrown => exact u5.elim
  rcases hrun with ⟨hrun, h2⟩ | ⟨m, l, s, h2, h3, hrun⟩
  · rw [hrun, Oper.uponIn_enter]
    have hc : CallsIn Fence.wide (0 - 1) P f args'.toArray w _ := callsIn_wide.2 (((hcf f args h n out h' n' ec E w args' h1 g hn).1 h2).mono fin)
    exact ⟨fun hd => by simp [fz, Fence.wide] at hd, hc⟩
  · obtain ⟨fn, tmps, assign, body, q1, q2⟩ := (hcf f args h n out h' n' ec E w args' h1 g hn).2 m l s h2 h3
    rw [hrun, q1, Oper.uponIn_round]
    have hc : RoundIn Fence.wide (0 - 1) P l fn tmps assign body w _ := q2.mono fin
    exact ⟨fun hd => by simp [fz, Fence.wide] at hd, hc⟩
theorem wp_panic {v : V} (g : Good E h w) (hn : E.ι n = none) (hr : ∀ x ∈ o.op.operands, OpdRel E fr a.eval x) (e : stepOp P o fr h n = some (.panic v))
    (hk : ∀ v', vrel E v v' → Q (.panic [{ v := v', recovered := false }]) a w) : o.wpIn (fz rnd) 0 P a w K Q := by
  obtain ⟨v', hrun, h1⟩ := step_sound g hn hr e
  refine ⟨fun _ _ => trivial, ?_⟩
  rw [semAt_plain (not_defer e fun _ _ _ => by simp)]
  rw [hrun, Oper.uponIn_panic]; exact hk v' h1
theorem wp_dfr {f : FuncId} {c args : List V} (hrn : rnd = none) (g : Good E h w) (hn : E.ι n = none) (hr : ∀ x ∈ o.op.operands, OpdRel E fr a.eval x) (e : stepOp P o fr h n = some (.dfr f c args))
    (hk : ∀ c' args', vrels E c c' → vrels E args args' → K ({ a with defers := { target := .fn (.func f) c'.toArray, args := args'.toArray } :: a.defers }.put o.dst undef) w) : o.wpIn (fz rnd) 0 P a w K Q := by
  subst hrn
  obtain ⟨c', args', hrun, h1, h2⟩ := step_sound g hn hr e
  refine ⟨fun _ _ => trivial, ?_⟩
  show o.uponIn (fz none) 0 P a K Q ((Oper.semAt none a.eval o).run P w)
  rw [Oper.semAt_none, hrun, Oper.uponIn_defer]; exact hk c' args' h1 h2
end
end Go.Eng
namespace Go.Eng
open Go
def Sub (x y : Tr O) : Prop := ∀ k b, x.get k = some b → y.get k = some b
section
variable {P : Program} {fr : Tr V} {x : Tr O} {n : Nat}
theorem pure_any {o : Oper} {r : R} (hp : isPure o.op = true) (e : stepOp P o fr x n = some r) : ∃ v, r = .val v x n ∧ ∀ (y : Tr O) (k : Nat), stepOp P o fr y k = some (.val v y k) := by
  obtain ⟨dst, op, ty, pos, after, guard⟩ := o
  simp only at hp
  cases op <;> simp only [isPure] at hp <;> first | (cases hp; done) | skip
  all_goals simp only [stepOp] at e
  case move a => obtain ⟨v, h1, rfl⟩ := okV_eq e; exact ⟨v, rfl, fun y k => by simp only [stepOp, h1, okV]⟩
  case assign a => obtain ⟨v, h1, rfl⟩ := okV_eq e; exact ⟨v, rfl, fun y k => by simp only [stepOp, h1, okV]⟩
  case pick c a b =>
    split at e
    · rename_i hc; obtain ⟨v, h1, rfl⟩ := okV_eq e; exact ⟨v, rfl, fun y k => by simp only [stepOp, hc, h1, okV]⟩
    · rename_i hc; obtain ⟨v, h1, rfl⟩ := okV_eq e; exact ⟨v, rfl, fun y k => by simp only [stepOp, hc, h1, okV]⟩
    · cases e
  case build t parts =>
    split at e
    · rename_i ps hc; obtain ⟨v, h1, rfl⟩ := okV_eq e; exact ⟨v, rfl, fun y k => by simp only [stepOp, hc, h1, okV]⟩
    · cases e
  case nilCheck a =>
    split at e
    · rename_i p hc; simp only [Option.some.injEq] at e; subst e; exact ⟨_, rfl, fun y k => by simp only [stepOp, hc]⟩
    · rename_i f a c hc; simp only [Option.some.injEq] at e; subst e; exact ⟨_, rfl, fun y k => by simp only [stepOp, hc]⟩
    · rename_i t v hc; simp only [Option.some.injEq] at e; subst e; exact ⟨_, rfl, fun y k => by simp only [stepOp, hc]⟩
    · cases e
  case binOp op t a b yt =>
    split at e
    · rename_i u w h1 h2; obtain ⟨v, h3, rfl⟩ := okV_eq e; exact ⟨v, rfl, fun y k => by simp only [stepOp, h1, h2, h3, okV]⟩
    · cases e
  case unOp op t a =>
    split at e
    · rename_i u h1; obtain ⟨v, h3, rfl⟩ := okV_eq e; exact ⟨v, rfl, fun y k => by simp only [stepOp, h1, h3, okV]⟩
    · cases e
  case makeInterface t a =>
    split at e
    · rename_i v d h1 h2
      split at e
      · cases e
      · rename_i hd
        simp only [Option.some.injEq] at e; subst e
        refine ⟨_, rfl, fun y k => ?_⟩
        simp only [stepOp, h1, h2]
    · cases e
  case makeFunc f a c =>
    split at e
    · rename_i u w h1 h2
      split at e
      case isFalse => cases e
      rename_i hny
      simp only [Option.some.injEq] at e; subst e; exact ⟨_, rfl, fun y k => by simp only [stepOp, h1, h2, hny, if_true]⟩
    · cases e
  case fieldAddr t a f =>
    split at e
    · rename_i u h1; obtain ⟨v, h3, rfl⟩ := okV_eq e; exact ⟨v, rfl, fun y k => by simp only [stepOp, h1, h3, okV]⟩
    · cases e
  case field t a f =>
    split at e
    · rename_i u h1; obtain ⟨v, h3, rfl⟩ := okV_eq e; exact ⟨v, rfl, fun y k => by simp only [stepOp, h1, h3, okV]⟩
    · cases e
  case indexAddr t a i =>
    split at e
    · rename_i u w h1 h2; obtain ⟨v, h3, rfl⟩ := okV_eq e; exact ⟨v, rfl, fun y k => by simp only [stepOp, h1, h2, h3, okV]⟩
    · cases e
  case index t a i =>
    split at e
    · rename_i u w h1 h2; obtain ⟨v, h3, rfl⟩ := okV_eq e; exact ⟨v, rfl, fun y k => by simp only [stepOp, h1, h2, h3, okV]⟩
    · cases e
  case typeAssert a s t ok =>
    split at e
    · rename_i u h1; obtain ⟨v, h3, rfl⟩ := okV_eq e; exact ⟨v, rfl, fun y k => by simp only [stepOp, h1, h3, okV]⟩
    · cases e
  case extract a i =>
    split at e
    · rename_i vs h1; obtain ⟨v, h3, rfl⟩ := okV_eq e; exact ⟨v, rfl, fun y k => by simp only [stepOp, h1, h3, okV]⟩
    · cases e
theorem loadAt_mono {t : TypeId} {a v : V} {y : Tr O} (hs : Sub x y) (e : loadAt P t x a = some v) : loadAt P t y a = some v := by
  unfold loadAt at e ⊢
  split at e
  · rename_i m o
    split at e
    · rename_i cs hm
      simp only [hs m _ hm]; exact e
    · rename_i k ks hm
      simp only [hs m _ hm]; exact e
    · rename_i k ks hm
      simp only [hs m _ hm]; exact e
    · cases e
  · cases e
theorem liveRow_mono {m k : Nat} {y : Tr O} (hs : Sub x y) (e : liveRow x m k = true) : liveRow y m k = true := by
  unfold liveRow at e ⊢
  split at e
  · rename_i cs hm; simp only [hs m _ hm]; exact e
  · cases e
theorem sliceV_mono {t : TypeId} {a v : V} {lo hi mx : Option V} {y : Tr O} (hs : Sub x y) (e : sliceV P t x a lo hi mx = some v) : sliceV P t y a lo hi mx = some v := by
  unfold sliceV at e ⊢
  split at e
  · cases e
  · rename_i h0
    rw [if_neg h0]
    split at e
    · exact e
    · exact e
    · rename_i nn el b o hu
      cases h1 : szof P el with
      | none => simp [h1] at e
      | some s => cases h2 : boundV nn nn mx with
        | none => simp [h1, h2] at e
        | some m => cases h3 : boundV nn m hi with
          | none => simp [h1, h2, h3] at e
          | some hh => cases h4 : boundV 0 hh lo with
            | none => simp [h1, h2, h3, h4] at e
            | some l =>
              simp only [h1, h2, h3, h4] at e ⊢
              split at e
              · rename_i hq
                rw [if_pos ⟨hq.1, hq.2.1, liveRow_mono hs hq.2.2⟩]; exact e
              · cases e
    · cases e
theorem lookupV_mono {t : TypeId} {a k v : V} {ok : Bool} {y : Tr O} (hs : Sub x y) (e : lookupV P t x a k ok = some v) : lookupV P t y a k ok = some v := by
  unfold lookupV at e ⊢
  split at e
  · split at e
    · split at e
      · rename_i hko
        rw [if_pos hko]
        cases a with
        | map m =>
          cases m with
          | none => exact e
          | some m =>
            simp only at e ⊢
            cases hm : x.get m with
            | none => simp [hm] at e
            | some o =>
              rw [hs m o hm]
              rw [hm] at e
              exact e
        | _ => simp at e
      · cases e
    · cases e
  · cases e
theorem lenV_mono {ts : Array TypeId} {as : List V} {v : V} {y : Tr O} (hs : Sub x y) (e : lenV P ts as x = some v) : lenV P ts as y = some v := by
  unfold lenV at e ⊢
  split at e
  · split at e
    · exact e
    · exact e
    · exact e
    · exact e
    · rename_i m hu
      cases hm : x.get m with
      | none => simp [hm] at e
      | some o =>
        simp only [hs m o hm]
        simp only [hm] at e
        exact e
    · cases e
  · cases e
theorem newObj_any {o : O} {p : Tr O × Nat} (e : newObj x n o = some p) (y : Tr O) : n < top ∧ p = (x.set n (some o), n + 1) ∧ newObj y n o = some (y.set n (some o), n + 1) := by
  obtain ⟨h', n'⟩ := p
  obtain ⟨h1, rfl, rfl⟩ := newObj_eq e
  exact ⟨h1, rfl, by simp [newObj, h1]⟩
def Quiet (P : Program) (o : Oper) (fr : Tr V) (x : Tr O) (n : Nat) (r : R) : Prop :=
  (∃ v, r = .val v x n ∧ ∀ y, Sub x y → stepOp P o fr y n = some (.val v y n)) ∨
  (∃ v b, n < top ∧ r = .val v (x.set n (some b)) (n + 1) ∧ ∀ y, stepOp P o fr y n = some (.val v (y.set n (some b)) (n + 1)))
theorem Quiet.alloc {o : Oper} {ob : O} {v : V} {h' : Tr O} {n' : Nat} (e : newObj x n ob = some (h', n')) (k : ∀ (y h2 : Tr O) (m : Nat), newObj y n ob = some (h2, m) → stepOp P o fr y n = some (.val v h2 m)) : Quiet P o fr x n (.val v h' n') := by
  obtain ⟨h1, rfl, rfl⟩ := newObj_eq e
  exact .inr ⟨v, ob, h1, rfl, fun y => k y _ _ (newObj_any e y).2.2⟩
theorem quiet_of_pure {o : Oper} {r : R} (hp : isPure o.op = true) (e : stepOp P o fr x n = some r) : Quiet P o fr x n r := by
  obtain ⟨v, h1, h2⟩ := pure_any hp e
  exact .inl ⟨v, h1, fun y _ => h2 y n⟩
theorem quiet {o : Oper} {r : R} (hq : isEff o.op = false) (e : stepOp P o fr x n = some r) : Quiet P o fr x n r := by
  by_cases hp : isPure o.op = true
  · exact quiet_of_pure hp e
  have e0 := e
  obtain ⟨dst, op, ty, pos, after, guard⟩ := o
  simp only at hq hp
  cases op <;> simp only [isEff] at hq <;> first | (cases hq; done) | skip
  all_goals first | (exact absurd rfl hp) | skip
  all_goals simp only [stepOp] at e
  case alloc t =>
    split at e
    · rename_i z hz
      split at e
      · rename_i h' n' ho
        simp only [Option.some.injEq] at e; subst e
        exact Quiet.alloc ho fun y h2 m q => by simp only [stepOp, hz, q]
      · cases e
    · cases e
  case box t a =>
    split at e
    · rename_i v hv
      split at e
      · rename_i h' n' ho
        simp only [Option.some.injEq] at e; subst e
        exact Quiet.alloc ho fun y h2 m q => by simp only [stepOp, hv, q]
      · cases e
    · cases e
  case buildSlice t len parts =>
    split at e
    · rename_i ps hps
      unfold buildSliceV at e
      split at e
      · rename_i el he
        split at e
        · rename_i s z hs hz
          split at e
          · rename_i hc
            split at e
            · rename_i cs hf
              split at e
              · rename_i h' n' ho
                simp only [Option.some.injEq] at e; subst e
                exact Quiet.alloc ho fun y h2 m q => by
                  simp only [stepOp, hps, buildSliceV, he, hs, hz]
                  rw [if_pos hc]; simp only [hf, q]
              · cases e
            · cases e
          · cases e
        · cases e
      · cases e
    · cases e
  case load t a =>
    split at e
    · rename_i v hv
      obtain ⟨u, h1, rfl⟩ := okV_eq e
      exact .inl ⟨u, rfl, fun y hs => by simp only [stepOp, hv, loadAt_mono hs h1, okV]⟩
    · cases e
  case convert s d a =>
    split at e
    · rename_i v hv
      unfold convV at e
      split at e
      · rename_i h1 h2
        simp only [Option.some.injEq] at e; subst e
        exact .inl ⟨_, rfl, fun y hs => by simp only [stepOp, hv, convV, h1, h2]⟩
      · rename_i h1 h2
        simp only [Option.some.injEq] at e; subst e
        exact .inl ⟨_, rfl, fun y hs => by simp only [stepOp, hv, convV, h1, h2]⟩
      · rename_i h1 h2
        split at e
        · rename_i h3
          split at e
          · rename_i h' n' ho
            simp only [Option.some.injEq] at e; subst e
            exact Quiet.alloc ho fun y h2' m q => by simp only [stepOp, hv, convV, h1, h2, h3, q]
          · cases e
        · cases e
      · rename_i h1 h2
        split at e
        · rename_i h3
          simp only [Option.some.injEq] at e; subst e
          exact .inl ⟨_, rfl, fun y hs => by simp only [stepOp, hv, convV, h1, h2, h3]⟩
        · cases e
      · rename_i h1 h2
        split at e
        · rename_i h3
          split at e
          · rename_i h4
            split at e
            · simp only [Option.some.injEq] at e; subst e
              exact .inl ⟨_, rfl, fun y hs => by simp only [stepOp, hv, convV, h1, h2, h3]; rw [if_pos h4]⟩
            · rename_i hl
              split at e
              · rename_i cs hm
                split at e
                · rename_i bs hc
                  split at e
                  · rename_i s' ht
                    simp only [Option.some.injEq] at e; subst e
                    refine .inl ⟨_, rfl, fun y hs => ?_⟩
                    simp only [stepOp, hv, convV, h1, h2, h3]; rw [if_pos h4]
                    simp only [hs _ _ hm, hc, ht]
                  · cases e
                · cases e
              · cases e
          · cases e
        · cases e
      · cases e
    · cases e
  case makeMap t res =>
    cases res with
    | some _ => simp at e
    | none =>
      simp only at e
      split at e
      · rename_i h' n' ho
        simp only [Option.some.injEq] at e; subst e
        exact Quiet.alloc ho fun y h2 m q => by simp only [stepOp, q]
      · cases e
  case makeSlice t l c =>
    split at e
    · rename_i lv cv h1 h2
      unfold makeSliceV at e
      split at e
      · rename_i el k l0 k' c0 he
        split at e
        · rename_i i z h3 h4
          simp only at e
          split at e
          · rename_i hc
            split at e
            · rename_i h' n' ho
              simp only [Option.some.injEq] at e; subst e
              exact Quiet.alloc ho fun y h2' m q => by
                simp only [stepOp, h1, h2, makeSliceV, he, h3, h4]
                rw [if_pos hc]; simp only [q]
            · cases e
          · cases e
        · cases e
      · cases e
    · cases e
  case slice t a lo hi mx =>
    split at e
    · rename_i v lov hiv mxv h1 h2 h3 h4
      obtain ⟨u, h5, rfl⟩ := okV_eq e
      exact .inl ⟨u, rfl, fun y hs => by simp only [stepOp, h1, h2, h3, h4, sliceV_mono hs h5, okV]⟩
    · cases e
  case lookup t a k ok =>
    split at e
    · rename_i v kv h1 h2
      obtain ⟨u, h5, rfl⟩ := okV_eq e
      exact .inl ⟨u, rfl, fun y hs => by simp only [stepOp, h1, h2, lookupV_mono hs h5, okV]⟩
    · cases e
  case range t a =>
    split at e
    · rename_i v hv
      unfold rangeV at e
      split at e
      · rename_i s hu
        split at e
        · rename_i h' n' ho
          simp only [Option.some.injEq] at e; subst e
          exact Quiet.alloc ho fun y h2' m q => by simp only [stepOp, hv, rangeV, hu, q]
        · cases e
      · cases e
    · cases e
  case call c =>
    obtain ⟨cal, args, ats⟩ := c
    cases cal with
    | value f => simp at hq
    | invoke f m => simp at hq
    | builtin b =>
      simp only [callV] at e
      split at e
      · rename_i as ha
        cases b <;> simp only [] at hq <;> first | (cases hq; done) | skip
        · simp only [builtinV] at e
          obtain ⟨u, h5, rfl⟩ := okV_eq e
          exact .inl ⟨u, rfl, fun y hs => by simp only [stepOp, callV, ha, builtinV, lenV_mono hs h5, okV]⟩
        · simp only [builtinV] at e
          split at e
          · obtain ⟨u, h5, rfl⟩ := okV_eq e
            exact .inl ⟨u, rfl, fun y hs => by simp only [stepOp, callV, ha, builtinV, h5, okV]⟩
          · cases e
        · simp only [builtinV] at e
          split at e
          · obtain ⟨u, h5, rfl⟩ := okV_eq e
            exact .inl ⟨u, rfl, fun y hs => by simp only [stepOp, callV, ha, builtinV, h5, okV]⟩
          · cases e
      · cases e
  all_goals (cases e)
end
end Go.Eng
namespace Go.Eng
open Go
theorem mlist_snoc (l : List Oper) (o : Oper) : mlist (l ++ [o]) = mlist l ++ [maskOf (mlist l) o.after.toList] := by simp [mlist]
theorem mlist_length' : ∀ (l : List Oper) (acc : List Nat), (l.foldl (fun acc o => acc ++ [maskOf acc o.after.toList]) acc).length = acc.length + l.length
  | [], acc => by simp
  | o :: l, acc => by simp only [List.foldl_cons]; rw [mlist_length' l]; simp; omega
theorem mlist_length (l : List Oper) : (mlist l).length = l.length := by unfold mlist; rw [mlist_length']; simp
def msk (ops : Array Oper) (j : Nat) : Nat := match ops[j]? with
  | some o => maskOf (mlist (ops.toList.take j)) o.after.toList
  | none => 0
theorem take_snoc {α : Type} {l : List α} {i : Nat} {o : α} (h : l[i]? = some o) : l.take (i + 1) = l.take i ++ [o] := by
  rw [List.take_add_one, h]; rfl
theorem mlist_take_get (ops : Array Oper) : ∀ i, i ≤ ops.size → ∀ k, k < i → (mlist (ops.toList.take i)).getD k 0 = msk ops k
  | 0, _, k, hk => by omega
  | i + 1, hi, k, hk => by
    have ho : ops.toList[i]? = some ops[i] := by rw [Array.getElem?_toList]; exact Array.getElem?_eq_getElem (by omega)
    rw [take_snoc ho, mlist_snoc]
    have hl : (mlist (ops.toList.take i)).length = i := by rw [mlist_length]; simp; omega
    by_cases q : k < i
    · rw [List.getD_eq_getElem?_getD, List.getElem?_append_left (by omega), ← List.getD_eq_getElem?_getD]
      exact mlist_take_get ops i (by omega) k q
    · have : k = i := by omega
      subst this
      rw [List.getD_eq_getElem?_getD, List.getElem?_append_right (by omega), hl]
      simp only [Nat.sub_self, List.getElem?_cons_zero, Option.getD_some]
      unfold msk
      rw [← Array.getElem?_toList, ho]
theorem hasBit_or (a b i : Nat) : hasBit (a ||| b) i = (hasBit a i || hasBit b i) := Nat.testBit_or a b i
theorem hasBit_pow (k i : Nat) : hasBit (2 ^ k) i = decide (k = i) := Nat.testBit_two_pow
theorem hasBit_zero (i : Nat) : hasBit 0 i = false := Nat.zero_testBit i
theorem maskOf_bit (masks : List Nat) (k : Nat) : ∀ es : List Edge, hasBit (maskOf masks es) k = true ↔ ∃ e ∈ es, Region.binds .any e = true ∧ (e.on = k ∨ hasBit (masks.getD e.on 0) k = true)
  | [] => by simp [maskOf, hasBit_zero]
  | e :: es => by
    simp only [maskOf]
    by_cases hb : Region.binds .any e = true
    · rw [if_pos hb, hasBit_or, hasBit_or, hasBit_pow, Bool.or_eq_true, Bool.or_eq_true, maskOf_bit masks k es]
      simp only [decide_eq_true_eq, List.mem_cons]
      constructor
      · rintro (⟨x, h1, h2, h3⟩ | h | h)
        · exact ⟨x, .inr h1, h2, h3⟩
        · exact ⟨e, .inl rfl, hb, .inl h⟩
        · exact ⟨e, .inl rfl, hb, .inr h⟩
      · rintro ⟨x, rfl | h1, h2, h3⟩
        · exact .inr h3
        · exact .inl ⟨x, h1, h2, h3⟩
    · rw [if_neg hb, maskOf_bit masks k es]
      simp only [List.mem_cons]
      constructor
      · rintro ⟨x, h1, h2, h3⟩; exact ⟨x, .inr h1, h2, h3⟩
      · rintro ⟨x, rfl | h1, h2, h3⟩
        · exact absurd h2 hb
        · exact ⟨x, h1, h2, h3⟩
def EdgesOk (ops : Array Oper) : Prop := ∀ (j : Nat) (o : Oper), ops[j]? = some o → ∀ e ∈ o.after, Region.binds .any e = true → e.on < j
theorem msk_bit {ops : Array Oper} (he : EdgesOk ops) {j k : Nat} {o : Oper} (ho : ops[j]? = some o) :
    hasBit (msk ops j) k = true ↔ ∃ e ∈ o.after, Region.binds .any e = true ∧ (e.on = k ∨ hasBit (msk ops e.on) k = true) := by
  have hj : j < ops.size := (Array.getElem?_eq_some_iff.1 ho).1
  unfold msk
  simp only [ho]
  rw [maskOf_bit]
  constructor
  · rintro ⟨e, h1, h2, h3⟩
    have h1' : e ∈ o.after := by simpa using h1
    have hlt := he j o ho e h1' h2
    refine ⟨e, h1', h2, h3.imp id fun q => ?_⟩
    rw [mlist_take_get ops j (by omega) e.on hlt] at q
    exact q
  · rintro ⟨e, h1, h2, h3⟩
    have hlt := he j o ho e h1 h2
    refine ⟨e, by simpa using h1, h2, h3.imp id fun q => ?_⟩
    rw [mlist_take_get ops j (by omega) e.on hlt]
    exact q
theorem msk_lt {ops : Array Oper} (he : EdgesOk ops) : ∀ j k, hasBit (msk ops j) k = true → k < j := by
  intro j
  induction j using Nat.strongRecOn with
  | _ j ih =>
    intro k h
    cases ho : ops[j]? with
    | none => simp [msk, ho, hasBit_zero] at h
    | some o =>
      obtain ⟨e, h1, h2, h3⟩ := (msk_bit he ho).1 h
      have hlt := he j o ho e h1 h2
      rcases h3 with rfl | h3
      · exact hlt
      · exact Nat.lt_trans (ih e.on hlt k h3) hlt
theorem msk_trans {ops : Array Oper} (he : EdgesOk ops) : ∀ j i k, hasBit (msk ops j) i = true → hasBit (msk ops i) k = true → hasBit (msk ops j) k = true := by
  intro j
  induction j using Nat.strongRecOn with
  | _ j ih =>
    intro i k h h'
    cases ho : ops[j]? with
    | none => simp [msk, ho, hasBit_zero] at h
    | some o =>
      obtain ⟨e, h1, h2, h3⟩ := (msk_bit he ho).1 h
      have hlt := he j o ho e h1 h2
      refine (msk_bit he ho).2 ⟨e, h1, h2, .inr ?_⟩
      rcases h3 with rfl | h3
      · exact h'
      · exact ih e.on hlt i k h3 h'
theorem msk_closed {ops : Array Oper} (he : EdgesOk ops) {S : Nat → Prop} (hS : ∀ j o, S j → ops[j]? = some o → ∀ e ∈ o.after, Region.binds .any e = true → S e.on) :
    ∀ j k, S j → hasBit (msk ops j) k = true → S k := by
  intro j
  induction j using Nat.strongRecOn with
  | _ j ih =>
    intro k hj h
    cases ho : ops[j]? with
    | none => simp [msk, ho, hasBit_zero] at h
    | some o =>
      obtain ⟨e, h1, h2, h3⟩ := (msk_bit he ho).1 h
      have hs := hS j o hj ho e h1 h2
      rcases h3 with rfl | h3
      · exact hs
      · exact ih e.on (he j o ho e h1 h2) k hs h3
structure RegOk (ops : Array Oper) (N : Nat) : Prop where
  edges : EdgesOk ops
  dst : ∀ (j : Nat) (o : Oper), ops[j]? = some o → dstOk N o.dst
  one : ∀ (i j : Nat) (o q : Oper) (t : Nat), ops[i]? = some o → ops[j]? = some q → o.dst = some t → q.dst = some t → i = j
  use : ∀ (i j : Nat) (o q : Oper) (t : Nat), ops[i]? = some o → ops[j]? = some q → i ≠ j → o.dst = some t → t ∈ usesOf ops q → if i < j then hasBit (msk ops j) i = true else hasBit (msk ops i) j = true
theorem regOk_spec {ops : Array Oper} {N : Nat} (h : regOk ops N = true) : RegOk ops N := by
  unfold regOk at h
  rw [List.all_eq_true] at h
  have at_ : ∀ j o, ops[j]? = some o → (o.after.toList.all (fun e => !Region.binds .any e || decide (e.on < j)) = true ∧ (match o.dst with | some d => decide (d < N) | none => true) = true ∧
      ∀ i, i < ops.size → i ≠ j → pairOk ops (mlist ops.toList) i j = true) := by
    intro j o ho
    have hj : j < ops.size := (Array.getElem?_eq_some_iff.1 ho).1
    have := h j (List.mem_range.2 hj)
    simp only [ho, Bool.and_eq_true, List.all_eq_true, List.mem_range] at this
    obtain ⟨⟨h1, h2⟩, h3⟩ := this
    refine ⟨by rw [List.all_eq_true]; exact h1, h2, fun i hi hne => ?_⟩
    have := h3 i hi
    simp only [Bool.or_eq_true] at this
    rcases this with q | q
    · exact absurd (Nat.eq_of_beq_eq_true q) hne
    · exact q
  have hm : ∀ j, j < ops.size → (mlist ops.toList).getD j 0 = msk ops j := fun j hj => by
    have := mlist_take_get ops ops.size (Nat.le_refl _) j hj
    rwa [show ops.toList.take ops.size = ops.toList from by rw [List.take_of_length_le]; simp] at this
  refine ⟨?_, ?_, ?_, ?_⟩
  · intro j o ho e he hb
    obtain ⟨h1, _, _⟩ := at_ j o ho
    rw [List.all_eq_true] at h1
    have := h1 e (by simpa using he)
    simp only [hb, Bool.not_true, Bool.false_or, decide_eq_true_eq] at this
    exact this
  · intro j o ho d hd
    obtain ⟨_, h2, _⟩ := at_ j o ho
    rw [hd] at h2
    simpa using h2
  · intro i j o q t hi hj ho hq
    by_cases e : i = j
    · exact e
    · obtain ⟨_, _, h3⟩ := at_ j q hj
      have := h3 i (Array.getElem?_eq_some_iff.1 hi).1 e
      simp only [pairOk, hi, hj, ho, hq, Bool.and_eq_true, Bool.not_eq_true'] at this
      have h1 := this.1
      rw [Nat.beq_refl] at h1; cases h1
  · intro i j o q t hi hj hne ho ht
    obtain ⟨_, _, h3⟩ := at_ j q hj
    have hil := (Array.getElem?_eq_some_iff.1 hi).1
    have hjl := (Array.getElem?_eq_some_iff.1 hj).1
    have := h3 i hil hne
    have hc : (usesOf ops q).contains t = true := by simpa using ht
    simp only [pairOk, hi, hj, ho, Bool.and_eq_true, hc, if_true, hm i hil, hm j hjl] at this
    have h2 := this.2
    split
    · rename_i q; rw [if_pos q] at h2; exact h2
    · rename_i q; rw [if_neg q] at h2; exact h2
abbrev Eff := Nat × Nat × Tr O × Nat
def effAt (h0 : Tr O) (c0 : Nat) (effs : List Eff) : Nat → Nat × Tr O × Nat
  | 0 => (0, h0, c0)
  | c + 1 => match effs[c]? with
    | some e => e.2
    | none => (0, h0, c0)
theorem effAt_snoc {h0 : Tr O} {c0 : Nat} {effs : List Eff} {e : Eff} {c : Nat} (h : c ≤ effs.length) : effAt h0 c0 (effs ++ [e]) c = effAt h0 c0 effs c := by
  cases c with
  | zero => rfl
  | succ c => simp only [effAt]; rw [List.getElem?_append_left (by omega)]
theorem effAt_last {h0 : Tr O} {c0 : Nat} {effs : List Eff} {e : Eff} : effAt h0 c0 (effs ++ [e]) (effs.length + 1) = e.2 := by
  simp [effAt]
def histOf (h0 : Tr O) (c0 : Nat) (effs : List Eff) : Nat → List (Nat × Nat × Tr O)
  | 0 => []
  | c + 1 => match effs[c]? with
    | some e => (e.1, (effAt h0 c0 effs c).1, (effAt h0 c0 effs c).2.1) :: histOf h0 c0 effs c
    | none => histOf h0 c0 effs c
theorem histOf_snoc {h0 : Tr O} {c0 : Nat} {effs : List Eff} {e : Eff} : ∀ c, c ≤ effs.length → histOf h0 c0 (effs ++ [e]) c = histOf h0 c0 effs c
  | 0, _ => rfl
  | c + 1, h => by
    simp only [histOf]
    rw [List.getElem?_append_left (by omega), effAt_snoc (by omega), histOf_snoc c (by omega)]
structure FrAt (ops : Array Oper) (fr0 : Tr V) (val : Nat → V) (j : Nat) (fr : Tr V) : Prop where
  new : ∀ (i : Nat) (o : Oper) (t : Nat), i < j → ops[i]? = some o → o.dst = some t → fr.get t = some (val i)
  old : ∀ (t : Nat), (∀ (i : Nat) (o : Oper), i < j → ops[i]? = some o → o.dst ≠ some t) → fr.get t = fr0.get t
section
variable (P : Program) (cf : CallF) (ops : Array Oper) (n0 : Nat) (h0 : Tr O) (fr0 : Tr V)
def OpFact (val : Nat → V) (allocs : List (Nat × O)) (reads : List (Nat × Nat × Oper × Tr V × V)) (effs : List Eff) (j : Nat) (o : Oper) : Prop :=
  ∃ fr, FrAt ops fr0 val j fr ∧
    ((wantedV ops o fr = some false ∧ val j = .tup []) ∨
     (wantedV ops o fr = some true ∧ isEff o.op = false ∧ (∃ b, (j, b) ∈ allocs ∧ n0 + j < top ∧ ∀ y, stepOp P o fr y (n0 + j) = some (.val (val j) (y.set (n0 + j) (some b)) (n0 + j + 1)))) ∨
     (wantedV ops o fr = some true ∧ isEff o.op = false ∧ (∀ y, stepOp P o fr y (n0 + j) = some (.val (val j) y (n0 + j)))) ∨
     (wantedV ops o fr = some true ∧ isEff o.op = false ∧ (j, msk ops j, o, fr, val j) ∈ reads ∧
       ∀ c, c ≤ effs.length → (∀ (c' : Nat) (e : Eff), c ≤ c' → effs[c']? = some e → hasBit (msk ops j) e.1 = false) → (∀ (c' : Nat) (e : Eff), c' < c → effs[c']? = some e → hasBit e.2.1 j = false) →
         ∃ y, stepOp P o fr (view n0 allocs (effAt h0 (n0 + ops.size) effs c).1 (effAt h0 (n0 + ops.size) effs c).2.1 (msk ops j)) (n0 + j) = some (.val (val j) y (n0 + j))) ∨
     (wantedV ops o fr = some true ∧ isEff o.op = true ∧ ∃ c h n, effs[c]? = some (j, msk ops j, h, n) ∧
       (let x := effAt h0 (n0 + ops.size) effs c
        (stepOp P o fr (view n0 allocs x.1 x.2.1 (msk ops j)) x.2.2 = some (.val (val j) h n)) ∨
        ∃ f args, stepOp P o fr (view n0 allocs x.1 x.2.1 (msk ops j)) x.2.2 = some (.call f args) ∧ cf f args (view n0 allocs x.1 x.2.1 (msk ops j)) x.2.2 = some (.ret (val j), h, n))))
def AllocFact (val : Nat → V) (j : Nat) (o : Oper) (b : O) : Prop :=
  ∃ fr, FrAt ops fr0 val j fr ∧ wantedV ops o fr = some true ∧ isEff o.op = false ∧ n0 + j < top ∧ b.wr = true ∧ ∀ y, stepOp P o fr y (n0 + j) = some (.val (val j) (y.set (n0 + j) (some b)) (n0 + j + 1))
structure Facts (val : Nat → V) (effs : List Eff) (i : Nat) (d : Dr) : Prop where
  masks : d.masks = mlist (ops.toList.take i)
  fr : FrAt ops fr0 val i d.fr
  cur : d.cur = ((effAt h0 (n0 + ops.size) effs effs.length).1, (effAt h0 (n0 + ops.size) effs effs.length).2.1)
  n : d.n = (effAt h0 (n0 + ops.size) effs effs.length).2.2
  hist : d.hist = histOf h0 (n0 + ops.size) effs effs.length
  last : d.last = (effs.getLast?).map (·.1)
  effok : ∀ (c : Nat) (e : Eff), effs[c]? = some e → e.1 < i ∧ ∃ o : Oper, ops[e.1]? = some o ∧ isEff o.op = true ∧ e.2.1 = msk ops e.1
  allocs : ∀ x ∈ d.allocs, x.1 < i
  one : ∀ (j : Nat) (b b' : O), (j, b) ∈ d.allocs → (j, b') ∈ d.allocs → b = b'
  wantedEff : ∀ (c : Nat) (e : Eff) (o : Oper), effs[c]? = some e → ops[e.1]? = some o → ∃ fr, FrAt ops fr0 val e.1 fr ∧ wantedV ops o fr = some true
  allocok : ∀ (j : Nat) (o : Oper) (b : O), (j, b) ∈ d.allocs → ops[j]? = some o → AllocFact P ops n0 fr0 val j o b
  chain : ∀ (c c' : Nat) (e e' : Eff), c' < c → effs[c]? = some e → effs[c']? = some e' → hasBit (msk ops e.1) e'.1 = true
  opok : ∀ (j : Nat) (o : Oper), j < i → ops[j]? = some o → OpFact P cf ops n0 h0 fr0 val d.allocs d.reads effs j o
end
mutual
theorem beq_eq : ∀ (a b : V), V.beq a b = true → a = b
  | .bool a, b, h => by cases b <;> simp [V.beq] at h; rw [h]
  | .int k a, b, h => by cases b <;> simp [V.beq] at h; rw [h.1, h.2]
  | .str a, b, h => by
    cases b <;> simp only [V.beq] at h <;> first | (cases h; done) | skip
    rw [beqB_eq] at h; rw [eq_of_beq h]
  | .ptr a, b, h => by
    cases b <;> simp only [V.beq] at h <;> first | (cases h; done) | skip
    rw [beqAddr_eq _ _ h]
  | .slc a l c e, b, h => by
    cases b <;> simp only [V.beq] at h <;> first | (cases h; done) | skip
    simp only [Bool.and_eq_true] at h
    obtain ⟨⟨⟨h1, h2⟩, h3⟩, h4⟩ := h
    rw [beqAddr_eq _ _ h1, Nat.eq_of_beq_eq_true h2, Nat.eq_of_beq_eq_true h3, Nat.eq_of_beq_eq_true h4]
  | .map a, b, h => by
    cases b <;> simp only [V.beq] at h <;> first | (cases h; done) | skip
    rename_i c
    cases a <;> cases c <;> simp only [beqNat?] at h <;> first | (cases h; done) | skip
    · rfl
    · rw [Nat.eq_of_beq_eq_true h]
  | .fn f a c, b, h => by
    cases b <;> simp only [V.beq] at h <;> first | (cases h; done) | skip
    rename_i g b d
    simp only [Bool.and_eq_true] at h
    obtain ⟨⟨h1, h2⟩, h3⟩ := h
    rw [beqs_eq a b h2, beqs_eq c d h3]
    cases f <;> cases g <;> simp only [beqFn] at h1 <;> first | (cases h1; done) | skip
    all_goals rw [Nat.eq_of_beq_eq_true h1]
  | .nilFn, b, h => by cases b <;> simp only [V.beq] at h <;> first | (cases h; done) | rfl
  | .iface t x, b, h => by
    cases b <;> simp only [V.beq] at h <;> first | (cases h; done) | skip
    rename_i u y
    simp only [Bool.and_eq_true] at h
    rw [Nat.eq_of_beq_eq_true h.1, beq_eq x y h.2]
  | .nilIface, b, h => by cases b <;> simp only [V.beq] at h <;> first | (cases h; done) | rfl
  | .agg a, b, h => by
    cases b <;> simp only [V.beq] at h <;> first | (cases h; done) | skip
    rw [beqs_eq _ _ h]
  | .tup a, b, h => by
    cases b <;> simp only [V.beq] at h <;> first | (cases h; done) | skip
    rw [beqs_eq _ _ h]
theorem beqs_eq : ∀ (a b : List V), V.beqs a b = true → a = b
  | [], b, h => by cases b <;> simp only [V.beqs] at h <;> first | (cases h; done) | rfl
  | x :: xs, b, h => by
    cases b <;> simp only [V.beqs] at h <;> first | (cases h; done) | skip
    simp only [Bool.and_eq_true] at h
    rw [beq_eq x _ h.1, beqs_eq xs _ h.2]
theorem beqAddr_eq : ∀ (a b : Option (Nat × Nat)), beqAddr a b = true → a = b
  | none, b, h => by cases b <;> simp only [beqAddr] at h <;> first | (cases h; done) | rfl
  | some (x, y), b, h => by
    cases b <;> simp only [beqAddr] at h <;> first | (cases h; done) | skip
    simp only [Bool.and_eq_true] at h
    rw [Nat.eq_of_beq_eq_true h.1, Nat.eq_of_beq_eq_true h.2]
end
theorem readsSame_eq {P : Program} {n0 i : Nat} {o : Oper} {fr : Tr V} {v : V} {x : Tr O} (h : readsSame P n0 i o fr v x = true) : ∃ y, stepOp P o fr x (n0 + i) = some (.val v y (n0 + i)) := by
  unfold readsSame at h
  split at h
  · rename_i u y k e
    simp only [Bool.and_eq_true] at h
    have h1 := Nat.eq_of_beq_eq_true h.1
    have h2 := beq_eq _ _ h.2
    subst h1; subst h2
    exact ⟨y, e⟩
  · cases h
theorem view_cons {n0 i : Nat} {b : O} {l : List (Nat × O)} {m : Nat} {x : Tr O} {anc : Nat} (h : hasBit anc i = false) : view n0 ((i, b) :: l) m x anc = view n0 l m x anc := by
  simp [view, h]
theorem histOk_eq {P : Program} {n0 i : Nat} {o : Oper} {fr : Tr V} {v : V} {allocs : List (Nat × O)} {anc : Nat} {h0 : Tr O} {c0 : Nat} {effs : List Eff} :
    ∀ k, k ≤ effs.length → histOk P n0 i o fr v allocs anc (histOf h0 c0 effs k) = true → ∀ c, c < k → (∀ (c' : Nat) (e : Eff), c ≤ c' → c' < k → effs[c']? = some e → hasBit anc e.1 = false) →
      ∃ y, stepOp P o fr (view n0 allocs (effAt h0 c0 effs c).1 (effAt h0 c0 effs c).2.1 anc) (n0 + i) = some (.val v y (n0 + i))
  | 0, _, _, c, hc, _ => by omega
  | k + 1, hk, h, c, hc, hn => by
    have he : effs[k]? = some effs[k] := List.getElem?_eq_getElem (by omega)
    simp only [histOf, he, histOk] at h
    have hb := hn k effs[k] (by omega) (by omega) he
    rw [hb] at h
    simp only [Bool.false_eq_true, if_false, Bool.and_eq_true] at h
    by_cases q : c = k
    · subst q; exact readsSame_eq h.1
    · exact histOk_eq k (by omega) h.2 c (by omega) fun c' e h1 h2 h3 => hn c' e h1 (by omega) h3
theorem readsOk_eq {P : Program} {n0 : Nat} {allocs : List (Nat × O)} {m : Nat} {x : Tr O} : ∀ (l : List (Nat × Nat × Oper × Tr V × V)), readsOk P n0 allocs m x l = true →
    ∀ j anc o fr v, (j, anc, o, fr, v) ∈ l → hasBit m j = false → ∃ y, stepOp P o fr (view n0 allocs m x anc) (n0 + j) = some (.val v y (n0 + j))
  | [], _, j, anc, o, fr, v, hm, _ => by simp at hm
  | (j', anc', o', fr', v') :: l, h, j, anc, o, fr, v, hm, hb => by
    simp only [readsOk, Bool.and_eq_true, Bool.or_eq_true] at h
    rcases List.mem_cons.1 hm with q | q
    · cases q
      rcases h.1 with h1 | h1
      · rw [hb] at h1; cases h1
      · exact readsSame_eq h1
    · exact readsOk_eq l h.2 j anc o fr v q hb
end Go.Eng
namespace Go.Eng
open Go
section
variable {P : Program} {cf : CallF} {ops : Array Oper} {n0 N : Nat} {h0 : Tr O} {fr0 : Tr V}
theorem FrAt.mono {val val' : Nat → V} {j : Nat} {fr : Tr V} (h : FrAt ops fr0 val j fr) (hv : ∀ k, k < j → val' k = val k) : FrAt ops fr0 val' j fr :=
  ⟨fun i o t hi ho hd => by rw [hv i hi]; exact h.new i o t hi ho hd, h.old⟩
theorem FrAt.step {val val' : Nat → V} {i : Nat} {fr fr' : Tr V} {o : Oper} {v : V} (hr : RegOk ops N) (ho : ops[i]? = some o) (h : FrAt ops fr0 val i fr) (hv : ∀ k, k < i → val' k = val k) (hi : val' i = v)
    (e : putD fr o.dst v = some fr') : FrAt ops fr0 val' (i + 1) fr' := by
  have h' := h.mono hv
  cases hd : o.dst with
  | none =>
    rw [hd] at e
    simp only [putD, Option.some.injEq] at e; subst e
    refine ⟨fun k q t hk hq ht => ?_, fun t ht => h'.old t fun k q hk hq => ht k q (by omega) hq⟩
    by_cases c : k = i
    · subst c; rw [ho] at hq; cases hq; rw [hd] at ht; cases ht
    · exact h'.new k q t (by omega) hq ht
  | some d =>
    rw [hd] at e
    simp only [putD] at e
    split at e
    · rename_i htop
      simp only [Option.some.injEq] at e; subst e
      refine ⟨fun k q t hk hq ht => ?_, fun t ht => ?_⟩
      · by_cases c : k = i
        · subst c; rw [ho] at hq; cases hq; rw [hd] at ht; cases ht
          rw [Tr.get_set_same _ _ htop, hi]
        · have hne : t ≠ d := by
            intro q'; subst q'
            exact c (hr.one k i q o t hq ho ht hd)
          rw [Tr.get_set_ne _ _ htop hne]
          exact h'.new k q t (by omega) hq ht
      · have hne : t ≠ d := by intro q; subst q; exact ht i o (by omega) ho hd
        rw [Tr.get_set_ne _ _ htop hne]
        exact h'.old t fun k q hk hq => ht k q (by omega) hq
    · cases e
theorem bit_ge {he : EdgesOk ops} {j i : Nat} (h : j ≤ i) : hasBit (msk ops j) i = false := by
  cases q : hasBit (msk ops j) i with
  | false => rfl
  | true => have := msk_lt he j i q; omega
theorem AllocFact.mono {val val' : Nat → V} {j : Nat} {o : Oper} {b : O} (h : AllocFact P ops n0 fr0 val j o b) (hv : ∀ k, k ≤ j → val' k = val k) : AllocFact P ops n0 fr0 val' j o b := by
  obtain ⟨fr, f1, f2, f3, f4, f6, f5⟩ := h
  exact ⟨fr, f1.mono fun k hk => hv k (by omega), f2, f3, f4, f6, fun y => by rw [hv j (Nat.le_refl _)]; exact f5 y⟩
theorem OpFact.quiet {val val' : Nat → V} {allocs allocs' : List (Nat × O)} {reads reads' : List (Nat × Nat × Oper × Tr V × V)} {effs : List Eff} {j : Nat} {o : Oper}
    (h : OpFact P cf ops n0 h0 fr0 val allocs reads effs j o) (hv : ∀ k, k ≤ j → val' k = val k) (ha : ∀ x ∈ allocs, x ∈ allocs') (hr : ∀ x ∈ reads, x ∈ reads')
    (hview : ∀ m x, view n0 allocs' m x (msk ops j) = view n0 allocs m x (msk ops j)) : OpFact P cf ops n0 h0 fr0 val' allocs' reads' effs j o := by
  obtain ⟨fr, f1, f2⟩ := h
  refine ⟨fr, f1.mono fun k hk => hv k (by omega), ?_⟩
  have hj := hv j (Nat.le_refl _)
  rw [hj]
  rcases f2 with q | ⟨q1, q2, b, q3, q4, q5⟩ | q | ⟨q1, q2, q3, q4⟩ | ⟨q1, q2, c, h, n, q3, q4⟩
  · exact .inl q
  · exact .inr (.inl ⟨q1, q2, b, ha _ q3, q4, q5⟩)
  · exact .inr (.inr (.inl q))
  · refine .inr (.inr (.inr (.inl ⟨q1, q2, hr _ q3, fun c hc h1 h2 => ?_⟩)))
    rw [hview]; exact q4 c hc h1 h2
  · refine .inr (.inr (.inr (.inr ⟨q1, q2, c, h, n, q3, ?_⟩)))
    simp only [hview]; exact q4
theorem OpFact.effect {val val' : Nat → V} {allocs : List (Nat × O)} {reads : List (Nat × Nat × Oper × Tr V × V)} {effs : List Eff} {e : Eff} {j : Nat} {o : Oper}
    (h : OpFact P cf ops n0 h0 fr0 val allocs reads effs j o) (hv : ∀ k, k ≤ j → val' k = val k) (hok : readsOk P n0 allocs e.2.1 e.2.2.1 reads = true) :
    OpFact P cf ops n0 h0 fr0 val' allocs reads (effs ++ [e]) j o := by
  obtain ⟨fr, f1, f2⟩ := h
  refine ⟨fr, f1.mono fun k hk => hv k (by omega), ?_⟩
  have hj := hv j (Nat.le_refl _)
  rw [hj]
  rcases f2 with q | q | q | ⟨q1, q2, q3, q4⟩ | ⟨q1, q2, c, h, n, q3, q4⟩
  · exact .inl q
  · exact .inr (.inl q)
  · exact .inr (.inr (.inl q))
  · refine .inr (.inr (.inr (.inl ⟨q1, q2, q3, fun c hc h1 h2 => ?_⟩)))
    simp only [List.length_append, List.length_cons, List.length_nil] at hc
    by_cases cl : c ≤ effs.length
    · rw [effAt_snoc cl]
      refine q4 c cl (fun c' e' hc' he' => h1 c' e' hc' ?_) (fun c' e' hc' he' => h2 c' e' hc' ?_)
      · rw [List.getElem?_append_left (List.getElem?_eq_some_iff.1 he').1]; exact he'
      · rw [List.getElem?_append_left (List.getElem?_eq_some_iff.1 he').1]; exact he'
    · have hcl : c = effs.length + 1 := by omega
      subst hcl
      rw [effAt_last]
      exact readsOk_eq reads hok j _ o fr _ q3 (h2 effs.length e (by omega) (by simp))
  · have hc := (List.getElem?_eq_some_iff.1 q3).1
    refine .inr (.inr (.inr (.inr ⟨q1, q2, c, h, n, by rw [List.getElem?_append_left hc]; exact q3, ?_⟩)))
    rw [effAt_snoc (by omega)]; exact q4
theorem chain_new {val : Nat → V} {effs : List Eff} {i : Nat} {d : Dr} (hr : RegOk ops N) (f : Facts P cf ops n0 h0 fr0 val effs i d) (hl : lastOk (msk ops i) d.last = true) :
    ∀ (c : Nat) (e : Eff), effs[c]? = some e → hasBit (msk ops i) e.1 = true := by
  intro c e he
  have hc := (List.getElem?_eq_some_iff.1 he).1
  rw [f.last] at hl
  have hg : effs.getLast? = some (effs[effs.length - 1]'(by omega)) := by
    rw [List.getLast?_eq_getElem?, List.getElem?_eq_getElem]
  rw [hg] at hl
  simp only [Option.map_some, lastOk] at hl
  by_cases q : c = effs.length - 1
  · subst q
    rw [List.getElem?_eq_getElem (by omega)] at he
    cases he; exact hl
  · exact msk_trans hr.edges i _ _ hl (f.chain (effs.length - 1) c _ e (by omega) (List.getElem?_eq_getElem (by omega)) he)
theorem facts_eff {val : Nat → V} {effs : List Eff} {i : Nat} {d d' : Dr} {o : Oper} {v : V} {h : Tr O} {n : Nat} (hr : RegOk ops N) (ho : ops[i]? = some o) (f : Facts P cf ops n0 h0 fr0 val effs i d)
    (hw : wantedV ops o d.fr = some true) (heff : isEff o.op = true) (hl : lastOk (msk ops i) d.last = true) (ha : afterEff P n0 i (msk ops i) o d v h n = some d')
    (hm : mlist (ops.toList.take (i + 1)) = d.masks ++ [msk ops i])
    (run : (stepOp P o d.fr (view n0 d.allocs d.cur.1 d.cur.2 (msk ops i)) d.n = some (.val v h n)) ∨
      ∃ g args, stepOp P o d.fr (view n0 d.allocs d.cur.1 d.cur.2 (msk ops i)) d.n = some (.call g args) ∧ cf g args (view n0 d.allocs d.cur.1 d.cur.2 (msk ops i)) d.n = some (.ret v, h, n)) :
    ∃ val' effs', Facts P cf ops n0 h0 fr0 val' effs' (i + 1) d' := by
  unfold afterEff at ha
  split at ha
  · rename_i fr hp
    split at ha
    · rename_i hok
      simp only [Option.some.injEq] at ha; subst ha
      let val' : Nat → V := fun k => if k = i then v else val k
      have hvi : val' i = v := by simp [val']
      have hv : ∀ k, k < i → val' k = val k := fun k hk => by simp [val', show k ≠ i by omega]
      refine ⟨val', effs ++ [(i, msk ops i, h, n)], ?_⟩
      have hlen : (effs ++ [(i, msk ops i, h, n)]).length = effs.length + 1 := by simp
      refine ⟨hm.symm, f.fr.step hr ho hv hvi hp, ?_, ?_, ?_, by simp, ?_, fun x hx => by have := f.allocs x hx; omega, f.one, fun c e q he hq => ?_, fun j q b hb hq => (f.allocok j q b hb hq).mono fun k hk => hv k (by have := f.allocs _ hb; simp at this; omega), ?_, ?_⟩
      · rw [hlen, effAt_last]
      · rw [hlen, effAt_last]
      · rw [hlen]
        simp only [histOf]
        rw [List.getElem?_append_right (by omega)]
        simp only [Nat.sub_self, List.getElem?_cons_zero]
        rw [effAt_snoc (Nat.le_refl _), histOf_snoc _ (Nat.le_refl _), ← f.hist, f.cur]
      · intro c e he
        by_cases q : c < effs.length
        · rw [List.getElem?_append_left q] at he
          obtain ⟨h1, h2⟩ := f.effok c e he
          exact ⟨by omega, h2⟩
        · have hc := (List.getElem?_eq_some_iff.1 he).1
          simp at hc
          have : c = effs.length := by omega
          subst this
          simp at he; subst he
          exact ⟨by simp, o, ho, heff, rfl⟩
      · by_cases q2 : c < effs.length
        · rw [List.getElem?_append_left q2] at he
          obtain ⟨h1, _⟩ := f.effok c e he
          obtain ⟨fr2, g1, g2⟩ := f.wantedEff c e q he hq
          exact ⟨fr2, g1.mono fun k hk => hv k (by omega), g2⟩
        · have hc := (List.getElem?_eq_some_iff.1 he).1
          simp at hc
          have : c = effs.length := by omega
          subst this
          simp at he; subst he
          simp only at hq; rw [ho] at hq; cases hq
          exact ⟨d.fr, f.fr.mono hv, hw⟩
      · intro c c' e e' hcc he he'
        have hc := (List.getElem?_eq_some_iff.1 he).1
        simp at hc
        have hc' : c' < effs.length := by omega
        rw [List.getElem?_append_left hc'] at he'
        by_cases q : c < effs.length
        · rw [List.getElem?_append_left q] at he
          exact f.chain c c' e e' hcc he he'
        · have : c = effs.length := by omega
          subst this
          simp at he; subst he
          exact chain_new hr f hl c' e' he'
      · intro j q hj hq
        by_cases c : j = i
        · subst c; rw [ho] at hq; cases hq
          refine ⟨d.fr, f.fr.mono hv, .inr (.inr (.inr (.inr ⟨hw, heff, effs.length, h, n, by simp, ?_⟩)))⟩
          rw [effAt_snoc (Nat.le_refl _), hvi]
          have hcur := f.cur
          have hn := f.n
          have e1 : d.cur.1 = (effAt h0 (n0 + ops.size) effs effs.length).1 := by rw [hcur]
          have e2 : d.cur.2 = (effAt h0 (n0 + ops.size) effs effs.length).2.1 := by rw [hcur]
          rw [e1, e2, hn] at run
          exact run
        · exact (f.opok j q (by omega) hq).effect (fun k hk => hv k (by omega)) hok
    · cases ha
  · cases ha
theorem facts_step {val : Nat → V} {effs : List Eff} {i : Nat} {d d' : Dr} {o : Oper} (hr : RegOk ops N) (ho : ops[i]? = some o) (f : Facts P cf ops n0 h0 fr0 val effs i d)
    (e : drawOp P cf ops n0 i o d = some (.inl d')) : ∃ val' effs', Facts P cf ops n0 h0 fr0 val' effs' (i + 1) d' := by
  have hi : i < ops.size := (Array.getElem?_eq_some_iff.1 ho).1
  have hanc : maskOf d.masks o.after.toList = msk ops i := by rw [f.masks]; unfold msk; rw [ho]
  have hm : mlist (ops.toList.take (i + 1)) = d.masks ++ [msk ops i] := by
    rw [take_snoc (by rw [Array.getElem?_toList]; exact ho), mlist_snoc, ← f.masks, hanc]
  unfold drawOp at e
  simp only [hanc] at e
  -- a step that is no effect
  have quietStep : ∀ (v : V) (fr : Tr V) (allocs' : List (Nat × O)) (reads' : List (Nat × Nat × Oper × Tr V × V)), putD d.fr o.dst v = some fr → (∀ x ∈ d.allocs, x ∈ allocs') → (∀ x ∈ d.reads, x ∈ reads') →
      (∀ j m x, j ≤ i → view n0 allocs' m x (msk ops j) = view n0 d.allocs m x (msk ops j)) → (∀ x ∈ allocs', x.1 < i + 1) → (∀ j b b', (j, b) ∈ allocs' → (j, b') ∈ allocs' → b = b') →
      (∀ val', (∀ k, k < i → val' k = val k) → val' i = v → ∀ b, (i, b) ∈ allocs' → AllocFact P ops n0 fr0 val' i o b) → (∀ x ∈ allocs', x.1 ≠ i → x ∈ d.allocs) →
      (∀ val', (∀ k, k < i → val' k = val k) → val' i = v → OpFact P cf ops n0 h0 fr0 val' allocs' reads' effs i o) →
      ∃ val' effs', Facts P cf ops n0 h0 fr0 val' effs' (i + 1) { d with fr := fr, masks := d.masks ++ [msk ops i], allocs := allocs', reads := reads' } := by
    intro v fr allocs' reads' hp ha hrd hview hai hone hal hal2 hop
    let val' : Nat → V := fun k => if k = i then v else val k
    have hvi : val' i = v := by simp [val']
    have hv : ∀ k, k < i → val' k = val k := fun k hk => by simp [val', show k ≠ i by omega]
    refine ⟨val', effs, ⟨hm.symm, f.fr.step hr ho hv hvi hp, f.cur, f.n, f.hist, f.last, fun c e he => ?_, hai, hone, fun c e q he hq => ?_, fun j q b hb hq => ?_, f.chain, fun j q hj hq => ?_⟩⟩
    · obtain ⟨h1, h2⟩ := f.effok c e he
      exact ⟨by omega, h2⟩
    · obtain ⟨h1, _⟩ := f.effok c e he
      obtain ⟨fr2, g1, g2⟩ := f.wantedEff c e q he hq
      exact ⟨fr2, g1.mono fun k hk => hv k (by omega), g2⟩
    · by_cases c : j = i
      · subst c; rw [ho] at hq; cases hq; exact hal val' hv hvi b hb
      · have hb' := hal2 _ hb c
        exact (f.allocok j q b hb' hq).mono fun k hk => hv k (by have := f.allocs _ hb'; simp at this; omega)
    · by_cases c : j = i
      · subst c; rw [ho] at hq; cases hq; exact hop val' hv hvi
      · exact (f.opok j q (by omega) hq).quiet (fun k hk => hv k (by omega)) ha hrd fun m x => hview j m x (by omega)
  have e1 : d.cur.1 = (effAt h0 (n0 + ops.size) effs effs.length).1 := by rw [f.cur]
  have e2 : d.cur.2 = (effAt h0 (n0 + ops.size) effs effs.length).2.1 := by rw [f.cur]
  split at e
  · rename_i hw
    split at e
    · rename_i fr hp
      simp only [Option.some.injEq, Sum.inl.injEq] at e; subst e
      exact quietStep (.tup []) fr d.allocs d.reads hp (fun _ h => h) (fun _ h => h) (fun _ _ _ _ => rfl) (fun x hx => by have := f.allocs x hx; omega) f.one (fun _ _ _ b hb => by have := f.allocs _ hb; simp at this) (fun _ hx _ => hx)
        fun val' hv hvi => ⟨d.fr, f.fr.mono hv, .inl ⟨hw, hvi⟩⟩
    · cases e
  · rename_i hw
    split at e
    · rename_i heff
      split at e
      · rename_i hl
        split at e
        · rename_i v h n hs
          split at e
          · rename_i s' ha
            simp only [Option.some.injEq, Sum.inl.injEq] at e; subst e
            exact facts_eff hr ho f hw heff hl ha hm (.inl hs)
          · cases e
        · rename_i g args hs
          split at e
          · rename_i v h n hc
            split at e
            · rename_i s' ha
              simp only [Option.some.injEq, Sum.inl.injEq] at e; subst e
              exact facts_eff hr ho f hw heff hl ha hm (.inr ⟨g, args, hs, hc⟩)
            · cases e
          · split at e
            · cases e
            · cases e
          · cases e
        · cases e
      · cases e
    · rename_i heff
      have heff' : isEff o.op = false := by simpa using heff
      split at e
      · rename_i v h k hs
        split at e
        · rename_i fr hp
          have hq := quiet heff' hs
          split at e
          · rename_i hk
            have hk' := Nat.eq_of_beq_eq_true hk
            subst hk'
            split at e
            · rename_i hpure
              simp only [Option.some.injEq, Sum.inl.injEq] at e; subst e
              obtain ⟨u, h1, h2⟩ := pure_any hpure hs
              cases h1
              exact quietStep v fr d.allocs d.reads hp (fun _ h => h) (fun _ h => h) (fun _ _ _ _ => rfl) (fun x hx => by have := f.allocs x hx; omega) f.one (fun _ _ _ b hb => by have := f.allocs _ hb; simp at this) (fun _ hx _ => hx)
                fun val' hv hvi => ⟨d.fr, f.fr.mono hv, .inr (.inr (.inl ⟨hw, heff', fun y => by rw [hvi]; exact h2 y _⟩))⟩
            · split at e
              · rename_i hist
                simp only [Option.some.injEq, Sum.inl.injEq] at e; subst e
                refine quietStep v fr d.allocs ((i, msk ops i, o, d.fr, v) :: d.reads) hp (fun _ h => h) (fun x hx => by simp [hx]) (fun _ _ _ _ => rfl) (fun x hx => by have := f.allocs x hx; omega) f.one (fun _ _ _ b hb => by have := f.allocs _ hb; simp at this) (fun _ hx _ => hx)
                  fun val' hv hvi => ⟨d.fr, f.fr.mono hv, .inr (.inr (.inr (.inl ⟨hw, heff', by simp [hvi], fun c hc h1 _ => ?_⟩)))⟩
                rw [hvi]
                by_cases q : c = effs.length
                · subst q
                  rw [← e1, ← e2]
                  exact ⟨h, hs⟩
                · rw [f.hist] at hist
                  exact histOk_eq effs.length (Nat.le_refl _) hist c (by omega) fun c' e' q1 _ q3 => h1 c' e' q1 q3
              · cases e
          · rename_i hk
            split at e
            · rename_i b hb
              split at e
              case isFalse => cases e
              rename_i hwr
              simp only [Option.some.injEq, Sum.inl.injEq] at e; subst e
              rcases hq with ⟨u, h1, _⟩ | ⟨u, b', h1, h2, h3⟩
              · cases h1; exact absurd (Nat.beq_refl _) hk
              · cases h2
                rw [Tr.get_set_same _ _ h1] at hb
                cases hb
                refine quietStep v fr ((i, b) :: d.allocs) d.reads hp (fun x hx => by simp [hx]) (fun _ h => h) (fun j m x hj => view_cons (bit_ge (he := hr.edges) hj)) (fun x hx => ?_) (fun j c c' hc hc' => ?_) (fun val' hv hvi c hc => ?_) (fun x hx hne => ?_)
                  fun val' hv hvi => ⟨d.fr, f.fr.mono hv, .inr (.inl ⟨hw, heff', b, by simp, h1, fun y => by rw [hvi]; exact h3 y⟩)⟩
                · rcases List.mem_cons.1 hx with rfl | hx
                  · simp
                  · have := f.allocs x hx; omega
                · rcases List.mem_cons.1 hc with q | q <;> rcases List.mem_cons.1 hc' with q' | q'
                  · cases q; cases q'; rfl
                  · cases q; have := f.allocs _ q'; simp at this
                  · cases q'; have := f.allocs _ q; simp at this
                  · exact f.one j c c' q q'
                · rcases List.mem_cons.1 hc with q | q
                  · cases q; exact ⟨d.fr, f.fr.mono hv, hw, heff', h1, hwr, fun y => by rw [hvi]; exact h3 y⟩
                  · have := f.allocs _ q; simp at this
                · rcases List.mem_cons.1 hx with q | q
                  · cases q; exact absurd rfl hne
                  · exact q
            · cases e
        · cases e
      · cases e
  · cases e
theorem facts_init (fr : Tr V) (h : Tr O) : Facts P cf ops n0 h fr (fun _ => .nilFn) [] 0 { fr := fr, masks := [], cur := (0, h), hist := [], last := none, allocs := [], reads := [], n := n0 + ops.size } := by
  refine ⟨by simp [mlist], ⟨fun i o t hi => by omega, fun t _ => rfl⟩, rfl, rfl, rfl, rfl, fun c e he => by simp at he, fun x hx => by simp at hx, fun j b b' hb => by simp at hb, fun c e o he => by simp at he, fun j o b hb => by simp at hb, fun c c' e e' _ he => by simp at he, fun j o hj => by omega⟩
theorem facts_run (hr : RegOk ops N) : ∀ (l : List Oper) (i : Nat) (d : Dr) (val : Nat → V) (effs : List Eff) (r : Dr ⊕ (Tr V × V × Tr O × Nat)), l = ops.toList.drop i → Facts P cf ops n0 h0 fr0 val effs i d →
    drawOps P cf ops n0 l i d = some r →
    match r with
    | .inl d' => ∃ val' effs', Facts P cf ops n0 h0 fr0 val' effs' (max i ops.size) d'
    | .inr x => ∃ j o d' val' effs', ops[j]? = some o ∧ Facts P cf ops n0 h0 fr0 val' effs' j d' ∧ drawOp P cf ops n0 j o d' = some (.inr x)
  | [], i, d, val, effs, r, hl, f, e => by
    simp only [drawOps, Option.some.injEq] at e; subst e
    have hi : ops.size ≤ i := by
      have := congrArg List.length hl
      simp at this; omega
    rw [Nat.max_eq_left hi]
    exact ⟨val, effs, f⟩
  | o :: l, i, d, val, effs, r, hl, f, e => by
    have hi : i < ops.size := by
      have := congrArg List.length hl
      simp at this; omega
    have ho : ops[i]? = some o := by
      have := congrArg (fun x => x[0]?) hl
      simp at this
      exact this.symm
    have hl' : l = ops.toList.drop (i + 1) := by
      have := congrArg List.tail hl
      simpa using this
    simp only [drawOps] at e
    split at e
    · rename_i s' hs
      obtain ⟨val', effs', f'⟩ := facts_step hr ho f hs
      have := facts_run hr l (i + 1) s' val' effs' r hl' f' e
      cases r with
      | inl d' => rw [show max (i + 1) ops.size = max i ops.size by omega] at this; exact this
      | inr x => exact this
    · rename_i x hx
      cases r with
      | inl d' => exact absurd e (hx d')
      | inr y => exact ⟨i, o, d, val, effs, ho, f, e⟩
end
end Go.Eng
namespace Go.Eng
open Go
theorem Good.ext {E : Env} {h h' : Tr O} {w : World} (g : Good E h w) (e : ∀ k, h'.get k = h.get k) : Good E h' w := g.sub fun m o q => by rw [← e]; exact q
theorem Upd.ext {E E' : Env} {h h' h2 : Tr O} {w w' : World} (u : Upd E h w E' h' w') (e : ∀ k, h2.get k = h'.get k) : Upd E h w E' h2 w' :=
  ⟨u.le, u.good.ext e, u.size, u.tape, u.os, u.output, u.keep, fun m b s hm q hb => let ⟨m0, s0, a1, a2, a3⟩ := u.img m b s (by rw [← e]; exact hm) q hb; ⟨m0, s0, a1, a2, fun c => a3 (wlive_of (e m) c)⟩⟩
theorem Upd.frame {E E' : Env} {h x y z : Tr O} {w w' : World} (g : Good E h w) (hx : Sub x h) (u : Upd E x w E' y w')
    (hz : ∀ k, z.get k = match y.get k with | some o => some o | none => if x.get k = none then h.get k else none) : Upd E h w E' z w' := by
  -- of a name of h that x lacks: its block is left as it is, and y does not write it
  have rest : ∀ k o, h.get k = some o → x.get k = none → ∃ b s, E.ι k = some (b, s) ∧ E'.ι k = some (b, s) ∧ E'.β b = E.β b ∧ b < w.heap.size ∧ w'.heap[b]? = w.heap[b]? ∧ (∀ m s', wlive y m → E'.ι m ≠ some (b, s')) ∧ (o.wr = true → ∀ m s', y.get m ≠ none → E'.ι m ≠ some (b, s')) ∧ orel E w b s o := by
    intro k o hk hxk
    obtain ⟨b, s, h1, h2⟩ := g.rel k o hk
    have hb := g.bnd k b s h1
    have hne : ∀ m, x.get m ≠ none → m ≠ k := by intro m hm e; subst e; exact hm hxk
    have hno : ∀ m s', wlive x m → E.ι m ≠ some (b, s') := by
      intro m s' hm q
      exact g.inj m k b s' s (hne m hm.live) (wlive_sub hx hm) (by rw [hk]; simp) q h1
    have hno2 : o.wr = true → ∀ m s', x.get m ≠ none → E.ι m ≠ some (b, s') := by
      intro ho m s' hm q
      exact g.inj k m b s s' (fun e => hne m hm e.symm) ⟨o, hk, ho⟩ (live_sub hx hm) h1 q
    refine ⟨b, s, h1, (u.le k b s h1).1, (u.le k b s h1).2, hb, u.keep b hb hno, ?_, ?_, h2⟩
    · intro m s' hm q
      obtain ⟨m0, s0, a1, a2, a3⟩ := u.img m b s' hm.live q hb
      exact hno m0 s0 (a3 hm) a2
    · intro ho m s' hm q
      obtain ⟨m0, s0, a1, a2, a3⟩ := u.img m b s' hm q hb
      exact hno2 ho m0 s0 a1 a2
  have zc : ∀ k o, z.get k = some o → y.get k = some o ∨ (y.get k = none ∧ x.get k = none ∧ h.get k = some o) := by
    intro k o q
    rw [hz] at q
    split at q
    · rename_i o' hy; cases q; exact .inl hy
    · rename_i hy
      split at q
      · rename_i hxm; exact .inr ⟨hy, hxm, q⟩
      · cases q
  refine ⟨u.le, ⟨?_, ?_, u.good.bnd⟩, u.size, u.tape, u.os, u.output, ?_, ?_⟩
  · intro m o hm
    rcases zc m o hm with hy | ⟨hy, hxm, hm⟩
    · exact u.good.rel m o hy
    · obtain ⟨b, s, h1, h2, h3, h4, h5, h6, h6', h7⟩ := rest m o hm hxm
      exact ⟨b, s, h2, orel_mono u.le h3 h5 h7⟩
  · intro m m' b s s' hne hm hm' e e'
    obtain ⟨o, hm, ho⟩ := hm
    obtain ⟨o', hm'⟩ := Option.ne_none_iff_exists'.1 hm'
    rcases zc m o hm with ym | ⟨ym, hxm, hh⟩
    · rcases zc m' o' hm' with ym' | ⟨ym', hxm', hh'⟩
      · exact u.good.inj m m' b s s' hne ⟨o, ym, ho⟩ (by rw [ym']; simp) e e'
      · obtain ⟨b', t, h1, h2, h3, h4, h5, h6, h6', h7⟩ := rest m' o' hh' hxm'
        rw [h2] at e'; cases e'
        exact h6 m s ⟨o, ym, ho⟩ e
    · obtain ⟨b', t, h1, h2, h3, h4, h5, h6, h6', h7⟩ := rest m o hh hxm
      rw [h2] at e; cases e
      rcases zc m' o' hm' with ym' | ⟨ym', hxm', hh'⟩
      · exact h6' ho m' s' (by rw [ym']; simp) e'
      · obtain ⟨b2, t2, k1, k2, _⟩ := rest m' o' hh' hxm'
        rw [k2] at e'; cases e'
        exact g.inj m m' _ _ _ hne ⟨o, hh, ho⟩ (by rw [hh']; simp) h1 k1
  · intro b hb hn
    exact u.keep b hb fun m s hm => hn m s (wlive_sub hx hm)
  · intro m b s hm e hb
    obtain ⟨o, hm⟩ := Option.ne_none_iff_exists'.1 hm
    have hw : wlive z m → o.wr = true := by rintro ⟨o2, q1, q2⟩; rw [hm] at q1; cases q1; exact q2
    rcases zc m o hm with ym | ⟨ym, hxm, hh⟩
    · obtain ⟨m0, s0, a1, a2, a3⟩ := u.img m b s (by rw [ym]; simp) e hb
      exact ⟨m0, s0, live_sub hx a1, a2, fun q => wlive_sub hx (a3 ⟨o, ym, hw q⟩)⟩
    · obtain ⟨b', t, h1, h2, _⟩ := rest m o hh hxm
      rw [h2] at e; cases e
      exact ⟨m, _, by rw [hh]; simp, h1, fun q => ⟨o, hh, hw q⟩⟩
theorem view_get {n0 : Nat} {m : Nat} {x : Tr O} {anc k : Nat} : ∀ (l : List (Nat × O)), (∀ y ∈ l, n0 + y.1 < top) →
    (view n0 l m x anc).get k = match l.find? (fun y => Nat.beq (n0 + y.1) k && hasBit anc y.1 && !hasBit m y.1) with | some y => some y.2 | none => x.get k
  | [], _ => rfl
  | (i, o) :: l, ht => by
    have ih := view_get (k := k) (m := m) (x := x) (anc := anc) l fun y hy => ht y (by simp [hy])
    simp only [view]
    by_cases hb : (hasBit anc i && !hasBit m i) = true
    · rw [if_pos hb, Tr.get_set _ _ _ (ht (i, o) (by simp))]
      by_cases q : k = n0 + i
      · subst q
        rw [if_pos rfl, List.find?_cons_of_pos (by simp only [Nat.beq_refl, Bool.true_and]; exact hb)]
      · rw [if_neg q, ih, List.find?_cons_of_neg]
        have : Nat.beq (n0 + i) k = false := by
          cases hh : Nat.beq (n0 + i) k with
          | false => rfl
          | true => exact absurd (Nat.eq_of_beq_eq_true hh).symm q
        simp [this]
    · rw [if_neg hb, ih, List.find?_cons_of_neg]
      intro q
      simp only [Bool.and_assoc] at q
      rw [Bool.and_eq_true] at q
      exact hb q.2
theorem view_alloc {n0 : Nat} {m : Nat} {x : Tr O} {anc i : Nat} {b : O} {l : List (Nat × O)} (ht : ∀ y ∈ l, n0 + y.1 < top) (one : ∀ (j : Nat) (b b' : O), (j, b) ∈ l → (j, b') ∈ l → b = b') (hi : (i, b) ∈ l)
    (ha : hasBit anc i = true) (hm : hasBit m i = false) : (view n0 l m x anc).get (n0 + i) = some b := by
  rw [view_get l ht]
  cases hf : l.find? (fun y => Nat.beq (n0 + y.1) (n0 + i) && hasBit anc y.1 && !hasBit m y.1) with
  | none =>
    have := List.find?_eq_none.1 hf (i, b) hi
    simp [Nat.beq_refl, ha, hm] at this
  | some y =>
    have h1 := List.mem_of_find?_eq_some hf
    have h2 := List.find?_some hf
    simp only [Bool.and_eq_true] at h2
    have h3 := Nat.eq_of_beq_eq_true h2.1.1
    have h4 : y.1 = i := by omega
    obtain ⟨y1, y2⟩ := y
    simp only at h4; subst h4
    simp only [one y1 y2 b h1 hi]
theorem view_other {n0 : Nat} {m : Nat} {x : Tr O} {anc k : Nat} {l : List (Nat × O)} (ht : ∀ y ∈ l, n0 + y.1 < top) (h : ∀ i b, (i, b) ∈ l → hasBit anc i = true → hasBit m i = false → k ≠ n0 + i) : (view n0 l m x anc).get k = x.get k := by
  rw [view_get l ht]
  cases hf : l.find? (fun y => Nat.beq (n0 + y.1) k && hasBit anc y.1 && !hasBit m y.1) with
  | none => rfl
  | some y =>
    have h1 := List.mem_of_find?_eq_some hf
    have h2 := List.find?_some hf
    simp only [Bool.and_eq_true, Bool.not_eq_true'] at h2
    exact absurd (Nat.eq_of_beq_eq_true h2.1.1).symm (h y.1 y.2 h1 h2.1.2 h2.2)
theorem view_cases {n0 : Nat} {m : Nat} {x : Tr O} {anc : Nat} {l : List (Nat × O)} (ht : ∀ y ∈ l, n0 + y.1 < top) (one : ∀ (j : Nat) (b b' : O), (j, b) ∈ l → (j, b') ∈ l → b = b') (k : Nat) :
    (∃ i b, (i, b) ∈ l ∧ hasBit anc i = true ∧ hasBit m i = false ∧ k = n0 + i ∧ (view n0 l m x anc).get k = some b) ∨
    ((∀ i b, (i, b) ∈ l → hasBit anc i = true → hasBit m i = false → k ≠ n0 + i) ∧ (view n0 l m x anc).get k = x.get k) := by
  by_cases h : ∃ i b, (i, b) ∈ l ∧ hasBit anc i = true ∧ hasBit m i = false ∧ k = n0 + i
  · obtain ⟨i, b, h1, h2, h3, rfl⟩ := h
    exact .inl ⟨i, b, h1, h2, h3, rfl, view_alloc ht one h1 h2 h3⟩
  · have h' : ∀ i b, (i, b) ∈ l → hasBit anc i = true → hasBit m i = false → k ≠ n0 + i := fun i b h1 h2 h3 q => h ⟨i, b, h1, h2, h3, q⟩
    exact .inr ⟨h', view_other ht h'⟩
def xrel (E : Env) : X → Exit → Prop
  | .normal, .normal => True
  | .exit i, .exit j => i = j
  | .ret, .ret => True
  | .panic v, .panic chain => ∃ v', vrel E v v' ∧ chain = [{ v := v', recovered := false }]
  | _, _ => False
section
variable {P : Program} {cf : CallF} {ops : Array Oper} {n0 N lim : Nat} {h0 : Tr O} {fr0 : Tr V} {val : Nat → V} {effs : List Eff} {d : Dr} {E0 : Env} {w0 : World} {ds0 : List Deferred}
structure Inv (ops : Array Oper) (n0 N lim : Nat) (h0 : Tr O) (fr0 : Tr V) (val : Nat → V) (effs : List Eff) (allocs : List (Nat × O)) (E0 : Env) (w0 : World) (ds0 : List Deferred)
    (S : Nat → Bool) (ms J : Nat) (E : Env) (a : Act) (w : World) : Prop where
  bits : ∀ i, hasBit ms i = S i
  inS : ∀ i, S i = true → i < lim
  closed : ∀ (j : Nat) (o : Oper), S j = true → ops[j]? = some o → ∀ e ∈ o.after, Region.binds .any e = true → S e.on = true
  effJ : ∀ (c : Nat) (e : Eff), effs[c]? = some e → (S e.1 = true ↔ c < J)
  Jle : J ≤ effs.length
  f1 : ∀ (j : Nat) (o : Oper) (t : Nat), S j = true → ops[j]? = some o → o.dst = some t → ∃ v', a.tmps[t]? = some v' ∧ vrel E (val j) v'
  f2 : ∀ (t : Nat) (v : V), fr0.get t = some v → (∀ (j : Nat) (o : Oper), S j = true → ops[j]? = some o → o.dst ≠ some t) → ∃ v', a.tmps[t]? = some v' ∧ vrel E v v'
  upd : Upd E0 h0 w0 E (view n0 allocs (effAt h0 (n0 + ops.size) effs J).1 (effAt h0 (n0 + ops.size) effs J).2.1 ms) w
  old : ∀ k, k < n0 → E.ι k = E0.ι k
  dom : ∀ k p, E.ι k = some p → k < n0 ∨ (∃ i b, (i, b) ∈ allocs ∧ S i = true ∧ k = n0 + i) ∨ (n0 + ops.size ≤ k ∧ k < (effAt h0 (n0 + ops.size) effs J).2.2)
  free : ∀ i, i < ops.size → hasBit (effAt h0 (n0 + ops.size) effs J).1 i = false → (effAt h0 (n0 + ops.size) effs J).2.1.get (n0 + i) = none
  cnt : n0 + ops.size ≤ (effAt h0 (n0 + ops.size) effs J).2.2
  size : a.tmps.size = N
  dfs : a.defers = ds0
theorem Inv.anc (hr : RegOk ops N) {allocs : List (Nat × O)} {S : Nat → Bool} {ms J : Nat} {E : Env} {a : Act} {w : World} (I : Inv ops n0 N lim h0 fr0 val effs allocs E0 w0 ds0 S ms J E a w) {j k : Nat} (hj : S j = true) (h : hasBit (msk ops j) k = true) : S k = true :=
  msk_closed hr.edges (S := fun i => S i = true) (fun j o hs ho e he hb => I.closed j o hs ho e he hb) j k hj h
theorem anc_ready (hr : RegOk ops N) {S : Nat → Bool} (hS : ∀ (j : Nat) (o : Oper), S j = true → ops[j]? = some o → ∀ e ∈ o.after, Region.binds .any e = true → S e.on = true) {j k : Nat} {o : Oper} (ho : ops[j]? = some o)
    (hd : ∀ e ∈ o.after, Region.binds .any e = true → S e.on = true) (h : hasBit (msk ops j) k = true) : S k = true := by
  obtain ⟨e, h1, h2, h3⟩ := (msk_bit hr.edges ho).1 h
  rcases h3 with rfl | h3
  · exact hd e h1 h2
  · exact msk_closed hr.edges (S := fun i => S i = true) hS e.on k (hd e h1 h2) h3
theorem Inv.maskS (hr : RegOk ops N) (f : Facts P cf ops n0 h0 fr0 val effs lim d) {S : Nat → Bool} {ms J : Nat} {E : Env} {a : Act} {w : World}
    (I : Inv ops n0 N lim h0 fr0 val effs d.allocs E0 w0 ds0 S ms J E a w) {i : Nat} (h : hasBit (effAt h0 (n0 + ops.size) effs J).1 i = true) : S i = true := by
  cases J with
  | zero => simp [effAt, hasBit_zero] at h
  | succ c =>
    have hc : c < effs.length := by have := I.Jle; omega
    have he : effs[c]? = some effs[c] := List.getElem?_eq_getElem hc
    simp only [effAt, he] at h
    obtain ⟨_, o, _, _, h3⟩ := f.effok c _ he
    rw [h3] at h
    exact I.anc hr ((I.effJ c _ he).2 (by omega)) h
theorem Inv.use (hr : RegOk ops N) {allocs : List (Nat × O)} {S : Nat → Bool} {ms J : Nat} {E : Env} {a : Act} {w : World} (I : Inv ops n0 N lim h0 fr0 val effs allocs E0 w0 ds0 S ms J E a w)
    {j : Nat} {o : Oper} (ho : ops[j]? = some o) (hj : S j = false) (hd : ∀ e ∈ o.after, Region.binds .any e = true → S e.on = true) {fr : Tr V} (hf : FrAt ops fr0 val j fr) {t : Nat} (ht : t ∈ usesOf ops o) {v : V} (hv : fr.get t = some v) :
    ∃ v', a.tmps[t]? = some v' ∧ vrel E v v' := by
  by_cases h : ∃ i q, i < j ∧ ops[i]? = some q ∧ q.dst = some t
  · obtain ⟨i, q, h1, h2, h3⟩ := h
    have hu := hr.use i j q o t h2 ho (by omega) h3 ht
    rw [if_pos h1] at hu
    have hi := anc_ready hr I.closed ho hd hu
    have := hf.new i q t h1 h2 h3
    rw [this] at hv; cases hv
    exact I.f1 i q t hi h2 h3
  · have hold := hf.old t fun i q hi hq hd => h ⟨i, q, hi, hq, hd⟩
    rw [hold] at hv
    refine I.f2 t v hv fun i q hi hq hdt => ?_
    have hne : i ≠ j := by intro e; subst e; rw [hj] at hi; cases hi
    have hu := hr.use i j q o t hq ho hne hdt ht
    split at hu
    · rename_i hlt; exact h ⟨i, q, hlt, hq, hdt⟩
    · have := I.anc hr hi hu
      rw [hj] at this; cases this
theorem Inv.opds (hr : RegOk ops N) {allocs : List (Nat × O)} {S : Nat → Bool} {ms J : Nat} {E : Env} {a : Act} {w : World} (I : Inv ops n0 N lim h0 fr0 val effs allocs E0 w0 ds0 S ms J E a w)
    {j : Nat} {o : Oper} (ho : ops[j]? = some o) (hj : S j = false) (hd : ∀ e ∈ o.after, Region.binds .any e = true → S e.on = true) {fr : Tr V} (hf : FrAt ops fr0 val j fr) : ∀ x ∈ o.op.operands, OpdRel E fr a.eval x := by
  intro x hx v hv
  cases x with
  | tmp t =>
    have ht : t ∈ usesOf ops o := by
      unfold usesOf
      refine List.mem_append_left _ (List.mem_filterMap.2 ⟨.tmp t, by simpa using hx, rfl⟩)
    obtain ⟨v', h1, h2⟩ := I.use hr ho hj hd hf ht hv
    simp only [Act.eval, Array.getD_eq_getD_getElem?, h1]; exact h2
  | const c => exact ofVal_rel hv
  | func f => simp only [opd, Option.some.injEq] at hv; subst hv; exact ⟨_, [], [], rfl, rfl, rfl, rfl⟩
  | global g => simp [opd] at hv
theorem Inv.wanted (hr : RegOk ops N) {allocs : List (Nat × O)} {S : Nat → Bool} {ms J : Nat} {E : Env} {a : Act} {w : World} (I : Inv ops n0 N lim h0 fr0 val effs allocs E0 w0 ds0 S ms J E a w)
    {j : Nat} {o : Oper} (ho : ops[j]? = some o) (hj : S j = false) (hd : ∀ e ∈ o.after, Region.binds .any e = true → S e.on = true) {fr : Tr V} (hf : FrAt ops fr0 val j fr) {b : Bool} (e : wantedV ops o fr = some b) :
    Region.wanted o (yielded ops a.tmps) = b := by
  refine wanted_rel (E := E) (fun g want q t hg hq hdq v hv => ?_) e
  have ht : t ∈ usesOf ops o := by
    unfold usesOf
    refine List.mem_append_right _ ?_
    simp only [hg, hq, hdq]; simp
  exact I.use hr ho hj hd hf ht hv
theorem Inv.frame (hr : RegOk ops N) {allocs : List (Nat × O)} {S : Nat → Bool} {ms J : Nat} {E E' : Env} {a : Act} {w : World} (I : Inv ops n0 N lim h0 fr0 val effs allocs E0 w0 ds0 S ms J E a w)
    {j : Nat} {o : Oper} (ho : ops[j]? = some o) (hle : E.le E') {v' : Value} (hv : vrel E' (val j) v') :
    (∀ (k : Nat) (q : Oper) (t : Nat), (S k || decide (k = j)) = true → ops[k]? = some q → q.dst = some t → ∃ v2, (a.put o.dst v').tmps[t]? = some v2 ∧ vrel E' (val k) v2) ∧
    (∀ (t : Nat) (v : V), fr0.get t = some v → (∀ (k : Nat) (q : Oper), (S k || decide (k = j)) = true → ops[k]? = some q → q.dst ≠ some t) → ∃ v2, (a.put o.dst v').tmps[t]? = some v2 ∧ vrel E' v v2) := by
  have hdst : dstOk a.tmps.size o.dst := by rw [I.size]; exact hr.dst j o ho
  refine ⟨fun k q t hk hq ht => ?_, fun t v hv0 ht => ?_⟩
  · by_cases c : k = j
    · subst c
      rw [ho] at hq; cases hq
      have := hdst t ht
      exact ⟨v', by simp [Act.put, ht, this], hv⟩
    · have hk' : S k = true := by simpa [c] using hk
      obtain ⟨v2, h1, h2⟩ := I.f1 k q t hk' hq ht
      refine ⟨v2, ?_, vrel_mono hle _ _ h2⟩
      cases hd : o.dst with
      | none => exact h1
      | some u =>
        have hne : u ≠ t := by intro e; subst e; exact c (hr.one k j q o u hq ho ht hd)
        simp [Act.put, hne, h1]
  · obtain ⟨v2, h1, h2⟩ := I.f2 t v hv0 fun k q hk hq => ht k q (by simp [hk]) hq
    refine ⟨v2, ?_, vrel_mono hle _ _ h2⟩
    cases hd : o.dst with
    | none => exact h1
    | some u =>
      have hne : u ≠ t := by intro e; subst e; exact ht j o (by simp) ho hd
      simp [Act.put, hne, h1]
end
end Go.Eng
namespace Go.Eng
open Go
section
variable {P : Program} {cf : CallF} {ops : Array Oper} {n0 N lim : Nat} {h0 : Tr O} {fr0 : Tr V} {val : Nat → V} {effs : List Eff} {d : Dr} {E0 : Env} {w0 : World} {ds0 : List Deferred}
variable {S : Nat → Bool} {ms J : Nat} {E : Env} {a : Act} {w : World} {Q : Exit → Act → World → Prop} {K : Act → World → Prop}
theorem Inv.domN {allocs : List (Nat × O)} (I : Inv ops n0 N lim h0 fr0 val effs allocs E0 w0 ds0 S ms J E a w) (hl : lim ≤ ops.size) : Dom E (effAt h0 (n0 + ops.size) effs J).2.2 := by
  intro k hk
  cases q : E.ι k with
  | none => rfl
  | some p =>
    have hc := I.cnt
    rcases I.dom k p q with h | ⟨i, b, _, h2, h3⟩ | h
    · omega
    · have := I.inS i h2; omega
    · omega
theorem Inv.sub (_hr : RegOk ops N) (hl : lim ≤ ops.size) (f : Facts P cf ops n0 h0 fr0 val effs lim d) (ht : ∀ y ∈ d.allocs, n0 + y.1 < top) (I : Inv ops n0 N lim h0 fr0 val effs d.allocs E0 w0 ds0 S ms J E a w)
    {anc : Nat} (ha : ∀ k, hasBit anc k = true → S k = true) :
    Sub (view n0 d.allocs (effAt h0 (n0 + ops.size) effs J).1 (effAt h0 (n0 + ops.size) effs J).2.1 anc) (view n0 d.allocs (effAt h0 (n0 + ops.size) effs J).1 (effAt h0 (n0 + ops.size) effs J).2.1 ms) := by
  intro k o hk
  rcases view_cases (x := (effAt h0 (n0 + ops.size) effs J).2.1) (m := (effAt h0 (n0 + ops.size) effs J).1) (anc := anc) ht f.one k with ⟨i, b, h1, h2, h3, h4, h5⟩ | ⟨h1, h2⟩
  · rw [h5] at hk; cases hk; subst h4
    exact view_alloc ht f.one h1 (by rw [I.bits]; exact ha i h2) h3
  · rw [h2] at hk
    rcases view_cases (x := (effAt h0 (n0 + ops.size) effs J).2.1) (m := (effAt h0 (n0 + ops.size) effs J).1) (anc := ms) ht f.one k with ⟨i, b, g1, g2, g3, g4, g5⟩ | ⟨g1, g2⟩
    · subst g4
      have hi := I.inS i (by rw [← I.bits]; exact g2)
      rw [I.free i (by omega) g3] at hk; cases hk
    · rw [g2]; exact hk
theorem bits_set (hb : ∀ i, hasBit ms i = S i) (j : Nat) : ∀ i, hasBit (ms ||| 2 ^ j) i = (S i || decide (i = j)) := by
  intro i; rw [hasBit_or, hasBit_pow, hb]
  by_cases q : i = j
  · subst q; simp
  · have : ¬ j = i := fun e => q e.symm
    simp [q, this]
theorem Inv.quiet (hr : RegOk ops N) (_hl : lim ≤ ops.size) (_f : Facts P cf ops n0 h0 fr0 val effs lim d) (I : Inv ops n0 N lim h0 fr0 val effs d.allocs E0 w0 ds0 S ms J E a w)
    {j : Nat} {o : Oper} (ho : ops[j]? = some o) (hj : j < lim) (hSj : S j = false) (hd : ∀ e ∈ o.after, Region.binds .any e = true → S e.on = true) (heff : ∀ (c : Nat) (e : Eff), effs[c]? = some e → e.1 ≠ j)
    {E' : Env} {w' : World} {v' : Value} (hv : vrel E' (val j) v') (hu : Upd E0 h0 w0 E' (view n0 d.allocs (effAt h0 (n0 + ops.size) effs J).1 (effAt h0 (n0 + ops.size) effs J).2.1 (ms ||| 2 ^ j)) w') (hle : E.le E')
    (hold : ∀ k, k < n0 → E'.ι k = E.ι k) (hdom : ∀ k p, E'.ι k = some p → E.ι k = some p ∨ (∃ b, (j, b) ∈ d.allocs ∧ k = n0 + j)) :
    Inv ops n0 N lim h0 fr0 val effs d.allocs E0 w0 ds0 (fun i => S i || decide (i = j)) (ms ||| 2 ^ j) J E' (a.put o.dst v') w' := by
  obtain ⟨g1, g2⟩ := I.frame hr ho hle hv
  refine ⟨bits_set I.bits j, fun i hi => ?_, fun i q hi hq e he hb => ?_, fun c e he => ?_, I.Jle, g1, g2, hu, fun k hk => by rw [hold k hk]; exact I.old k hk, fun k p hp => ?_, I.free, I.cnt, by rw [put_size]; exact I.size, by rw [put_defers]; exact I.dfs⟩
  · rcases Bool.or_eq_true _ _ |>.mp hi with h | h
    · exact I.inS i h
    · simp at h; omega
  · rcases Bool.or_eq_true _ _ |>.mp hi with h | h
    · rw [I.closed i q h hq e he hb]; rfl
    · simp at h; subst h; rw [ho] at hq; cases hq; rw [hd e he hb]; rfl
  · rw [← I.effJ c e he]
    simp [heff c e he]
  · rcases hdom k p hp with h | ⟨b, h1, h2⟩
    · rcases I.dom k p h with h | ⟨i, b, h1, h2, h3⟩ | h
      · exact .inl h
      · exact .inr (.inl ⟨i, b, h1, by rw [h2]; rfl, h3⟩)
      · exact .inr (.inr h)
    · exact .inr (.inl ⟨j, b, h1, by simp, h2⟩)
theorem Inv.free' (hr : RegOk ops N) (hl : lim ≤ ops.size) (f : Facts P cf ops n0 h0 fr0 val effs lim d) (ht : ∀ y ∈ d.allocs, n0 + y.1 < top) (I : Inv ops n0 N lim h0 fr0 val effs d.allocs E0 w0 ds0 S ms J E a w)
    {anc : Nat} (ha : ∀ k, hasBit anc k = true → S k = true) (hm : ∀ k, hasBit (effAt h0 (n0 + ops.size) effs J).1 k = true → hasBit anc k = true) {E' : Env} {h : Tr O} {w' : World}
    (hu : Upd E (view n0 d.allocs (effAt h0 (n0 + ops.size) effs J).1 (effAt h0 (n0 + ops.size) effs J).2.1 anc) w E' h w') (hlow : ∀ k, k < (effAt h0 (n0 + ops.size) effs J).2.2 → E'.ι k = E.ι k) :
    ∀ i, i < ops.size → hasBit anc i = false → h.get (n0 + i) = none := by
  intro i hi hbit
  cases q : h.get (n0 + i) with
  | none => rfl
  | some o =>
    exfalso
    obtain ⟨b, s, h1, _⟩ := hu.good.rel _ o q
    have hlt : n0 + i < (effAt h0 (n0 + ops.size) effs J).2.2 := by have := I.cnt; omega
    have hE := h1
    rw [hlow _ hlt] at hE
    have hmi : hasBit (effAt h0 (n0 + ops.size) effs J).1 i = false := by
      cases c : hasBit (effAt h0 (n0 + ops.size) effs J).1 i with
      | false => rfl
      | true => rw [hm i c] at hbit; cases hbit
    rcases I.dom _ _ hE with c | ⟨i', b', k1, k2, k3⟩ | c
    · omega
    · have : i' = i := by omega
      subst this
      have hlive : (view n0 d.allocs (effAt h0 (n0 + ops.size) effs J).1 (effAt h0 (n0 + ops.size) effs J).2.1 ms).get (n0 + i') = some b' := view_alloc ht f.one k1 (by rw [I.bits]; exact k2) hmi
      obtain ⟨m0, s0, a1, a2, _⟩ := hu.img (n0 + i') b s (by rw [q]; simp) h1 (I.upd.good.bnd _ _ _ hE)
      have hx : (view n0 d.allocs (effAt h0 (n0 + ops.size) effs J).1 (effAt h0 (n0 + ops.size) effs J).2.1 anc).get (n0 + i') = none := by
        rcases view_cases (x := (effAt h0 (n0 + ops.size) effs J).2.1) (m := (effAt h0 (n0 + ops.size) effs J).1) (anc := anc) ht f.one (n0 + i') with ⟨i2, b2, g1, g2, g3, g4, g5⟩ | ⟨g1, g2⟩
        · have : i2 = i' := by omega
          subst this; rw [hbit] at g2; cases g2
        · rw [g2]; exact I.free i' hi hmi
      have hne : m0 ≠ n0 + i' := by intro e; subst e; exact a1 hx
      have hwr : b'.wr = true := by
        obtain ⟨fr, _, _, _, _, q, _⟩ := f.allocok i' _ b' k1 (Array.getElem?_eq_getElem hi)
        exact q
      refine I.upd.good.inj (n0 + i') m0 b s s0 (fun q => hne q.symm) ⟨b', hlive, hwr⟩ ?_ hE a2
      cases c : (view n0 d.allocs (effAt h0 (n0 + ops.size) effs J).1 (effAt h0 (n0 + ops.size) effs J).2.1 anc).get m0 with
      | none => exact absurd c a1
      | some o' => rw [I.sub hr hl f ht ha m0 o' c]; simp
    · omega
theorem Inv.effect (hr : RegOk ops N) (hl : lim ≤ ops.size) (f : Facts P cf ops n0 h0 fr0 val effs lim d) (ht : ∀ y ∈ d.allocs, n0 + y.1 < top) (I : Inv ops n0 N lim h0 fr0 val effs d.allocs E0 w0 ds0 S ms J E a w)
    {j : Nat} {o : Oper} (ho : ops[j]? = some o) (hj : j < lim) (hSj : S j = false) (hd : ∀ e ∈ o.after, Region.binds .any e = true → S e.on = true) (hno : ∀ b, (j, b) ∉ d.allocs)
    {h : Tr O} {n : Nat} (he : effs[J]? = some (j, msk ops j, h, n)) {E' : Env} {w' : World} {v' : Value} (hv : vrel E' (val j) v')
    (hu : Upd E (view n0 d.allocs (effAt h0 (n0 + ops.size) effs J).1 (effAt h0 (n0 + ops.size) effs J).2.1 (msk ops j)) w E' h w')
    (hlow : ∀ k, k < (effAt h0 (n0 + ops.size) effs J).2.2 → E'.ι k = E.ι k) (hdom : Dom E' n) (hn : (effAt h0 (n0 + ops.size) effs J).2.2 ≤ n) :
    Inv ops n0 N lim h0 fr0 val effs d.allocs E0 w0 ds0 (fun i => S i || decide (i = j)) (ms ||| 2 ^ j) (J + 1) E' (a.put o.dst v') w' := by
  have hJ : J < effs.length := (List.getElem?_eq_some_iff.1 he).1
  have hat : effAt h0 (n0 + ops.size) effs (J + 1) = (msk ops j, h, n) := by simp only [effAt, he]
  have hanc : ∀ k, hasBit (msk ops j) k = true → S k = true := fun k hk => anc_ready hr I.closed ho hd hk
  have hm : ∀ k, hasBit (effAt h0 (n0 + ops.size) effs J).1 k = true → hasBit (msk ops j) k = true := by
    intro k hk
    cases J with
    | zero => simp [effAt, hasBit_zero] at hk
    | succ c =>
      have hc : effs[c]? = some (effs[c]'(by omega)) := List.getElem?_eq_getElem (by omega)
      simp only [effAt, hc] at hk
      obtain ⟨_, o', _, _, h3⟩ := f.effok c _ hc
      rw [h3] at hk
      exact msk_trans hr.edges j _ k (f.chain (c + 1) c _ _ (by omega) he hc) hk
  have hfree := I.free' hr hl f ht hanc hm hu hlow
  obtain ⟨g1, g2⟩ := I.frame hr ho hu.le hv
  have hc := I.cnt
  refine ⟨bits_set I.bits j, fun i hi => ?_, fun i q hi hq e he' hb => ?_, fun c e he' => ?_, hJ, g1, g2, ?_, fun k hk => ?_, fun k p hp => ?_, ?_, ?_, by rw [put_size]; exact I.size, by rw [put_defers]; exact I.dfs⟩
  · rcases Bool.or_eq_true _ _ |>.mp hi with h | h
    · exact I.inS i h
    · simp at h; omega
  · rcases Bool.or_eq_true _ _ |>.mp hi with h | h
    · rw [I.closed i q h hq e he' hb]; rfl
    · simp at h; subst h; rw [ho] at hq; cases hq; rw [hd e he' hb]; rfl
  · have h1 := I.effJ c e he'
    constructor
    · intro hs
      rcases Bool.or_eq_true _ _ |>.mp hs with q | q
      · have := h1.1 q; omega
      · simp at q
        by_cases hcJ : c < J + 1
        · exact hcJ
        · have := f.chain c J e _ (by omega) he' he
          simp only at this
          rw [q] at this
          have := msk_lt hr.edges j j this
          omega
    · intro hc'
      by_cases q : c < J
      · rw [h1.2 q]; rfl
      · have : c = J := by omega
        subst this
        rw [he] at he'; cases he'; simp
  · rw [hat]
    refine I.upd.trans (Upd.frame I.upd.good (I.sub hr hl f ht hanc) hu fun k => ?_)
    rcases view_cases (x := h) (m := msk ops j) (anc := ms ||| 2 ^ j) ht f.one k with ⟨i, b, k1, k2, k3, k4, k5⟩ | ⟨k1, k2⟩
    · simp only [k5]
      subst k4
      have hi : S i = true := by
        rw [bits_set I.bits] at k2
        rcases Bool.or_eq_true _ _ |>.mp k2 with q | q
        · exact q
        · simp at q; subst q; exact absurd k1 (hno b)
      have hmi : hasBit (effAt h0 (n0 + ops.size) effs J).1 i = false := by
        cases c : hasBit (effAt h0 (n0 + ops.size) effs J).1 i with
        | false => rfl
        | true => rw [hm i c] at k3; cases k3
      have hi' : i < ops.size := by have := I.inS i hi; omega
      rw [hfree i hi' k3]
      have hx : (view n0 d.allocs (effAt h0 (n0 + ops.size) effs J).1 (effAt h0 (n0 + ops.size) effs J).2.1 (msk ops j)).get (n0 + i) = none := by
        rcases view_cases (x := (effAt h0 (n0 + ops.size) effs J).2.1) (m := (effAt h0 (n0 + ops.size) effs J).1) (anc := msk ops j) ht f.one (n0 + i) with ⟨i2, b2, q1, q2, q3, q4, q5⟩ | ⟨q1, q2⟩
        · have : i2 = i := by omega
          subst this; rw [k3] at q2; cases q2
        · rw [q2]; exact I.free i hi' hmi
      simp only [hx, if_true]
      rw [view_alloc ht f.one k1 (by rw [I.bits]; exact hi) hmi]
    · rw [k2]
      cases hk : h.get k with
      | some o' => rfl
      | none =>
        simp only
        split
        · rename_i hx
          rcases view_cases (x := (effAt h0 (n0 + ops.size) effs J).2.1) (m := (effAt h0 (n0 + ops.size) effs J).1) (anc := ms) ht f.one k with ⟨i, b, q1, q2, q3, q4, q5⟩ | ⟨q1, q2⟩
          · exfalso
            subst q4
            cases c : hasBit (msk ops j) i with
            | false => exact k1 i b q1 (by rw [bits_set I.bits]; rw [I.bits] at q2; rw [q2]; rfl) c rfl
            | true =>
              rw [view_alloc ht f.one q1 c q3] at hx; cases hx
          · rw [q2]
            rcases view_cases (x := (effAt h0 (n0 + ops.size) effs J).2.1) (m := (effAt h0 (n0 + ops.size) effs J).1) (anc := msk ops j) ht f.one k with ⟨i, b, r1, r2, r3, r4, r5⟩ | ⟨r1, r2⟩
            · rw [r5] at hx; cases hx
            · rw [r2] at hx; exact hx.symm
        · rfl
  · rw [hlow k (by omega)]; exact I.old k hk
  · by_cases q : k < (effAt h0 (n0 + ops.size) effs J).2.2
    · rw [hlow k q] at hp
      rcases I.dom k p hp with h | ⟨i, b, h1, h2, h3⟩ | h
      · exact .inl h
      · exact .inr (.inl ⟨i, b, h1, by rw [h2]; rfl, h3⟩)
      · rw [hat]; exact .inr (.inr ⟨h.1, by show k < n; omega⟩)
    · rw [hat]
      refine .inr (.inr ⟨by omega, ?_⟩)
      by_cases q2 : k < n
      · exact q2
      · rw [hdom k (by omega)] at hp; cases hp
  · rw [hat]; exact fun i hi hb => hfree i hi hb
  · rw [hat]; simp only; omega
end
end Go.Eng
namespace Go.Eng
open Go
section
variable {P : Program} {cf : CallF} {ops : Array Oper} {n0 N lim : Nat} {h0 : Tr O} {fr0 : Tr V} {val : Nat → V} {effs : List Eff} {d : Dr} {E0 : Env} {w0 : World} {ds0 : List Deferred}
variable {S : Nat → Bool} {ms J : Nat} {E : Env} {a : Act} {w : World} {Q : Exit → Act → World → Prop} {K : Act → World → Prop} {rnd : Option Nat}
theorem Inv.step (hcf : CallOk P cf) (hr : RegOk ops N) (hl : lim ≤ ops.size) (f : Facts P cf ops n0 h0 fr0 val effs lim d) (ht : ∀ y ∈ d.allocs, n0 + y.1 < top) (I : Inv ops n0 N lim h0 fr0 val effs d.allocs E0 w0 ds0 S ms J E a w)
    {j : Nat} {o : Oper} (ho : ops[j]? = some o) (hj : j < lim) (hSj : S j = false) (hd : ∀ e ∈ o.after, Region.binds .any e = true → S e.on = true)
    (hk : ∀ J' E' a' w', Inv ops n0 N lim h0 fr0 val effs d.allocs E0 w0 ds0 (fun i => S i || decide (i = j)) (ms ||| 2 ^ j) J' E' a' w' → K a' w') : wpOpIn (fz rnd) 0 P ops Q j K a w := by
  have hjs : j < ops.size := by omega
  have hanc : ∀ k, hasBit (msk ops j) k = true → S k = true := fun k hk => anc_ready hr I.closed ho hd hk
  have hmj : hasBit (effAt h0 (n0 + ops.size) effs J).1 j = false := by
    cases c : hasBit (effAt h0 (n0 + ops.size) effs J).1 j with
    | false => rfl
    | true => rw [I.maskS hr f c] at hSj; cases hSj
  have hfresh : E.ι (n0 + j) = none := by
    cases q : E.ι (n0 + j) with
    | none => rfl
    | some p =>
      rcases I.dom _ p q with h | ⟨i, b, _, h2, h3⟩ | h
      · omega
      · have : i = j := by omega
        subst this; rw [hSj] at h2; cases h2
      · omega
  -- the new view, where nothing is new
  have hsame : (∀ b, (j, b) ∉ d.allocs) → ∀ k, (view n0 d.allocs (effAt h0 (n0 + ops.size) effs J).1 (effAt h0 (n0 + ops.size) effs J).2.1 (ms ||| 2 ^ j)).get k =
      (view n0 d.allocs (effAt h0 (n0 + ops.size) effs J).1 (effAt h0 (n0 + ops.size) effs J).2.1 ms).get k := by
    intro hno k
    rcases view_cases (x := (effAt h0 (n0 + ops.size) effs J).2.1) (m := (effAt h0 (n0 + ops.size) effs J).1) (anc := ms ||| 2 ^ j) ht f.one k with ⟨i, b, k1, k2, k3, k4, k5⟩ | ⟨k1, k2⟩
    · subst k4
      rw [k5, view_alloc ht f.one k1 ?_ k3]
      rw [bits_set I.bits] at k2
      rcases Bool.or_eq_true _ _ |>.mp k2 with q | q
      · rw [I.bits]; exact q
      · simp at q; subst q; exact absurd k1 (hno b)
    · rw [k2, view_other ht fun i b q1 q2 q3 => k1 i b q1 (by rw [bits_set I.bits]; rw [I.bits] at q2; rw [q2]; rfl) q3]
  unfold wpOpIn
  simp only [ho]
  by_cases hal : ∃ b, (j, b) ∈ d.allocs
  · -- a new block
    obtain ⟨b, hb⟩ := hal
    obtain ⟨fr, f1, f2, f3, f4, f6, f5⟩ := f.allocok j o b hb ho
    rw [if_pos (I.wanted hr ho hSj hd f1 f2)]
    refine (wp_val I.upd.good hfresh (I.opds hr ho hSj hd f1) (f5 _) fun E' w' v' q1 q2 q3 _ => hk J E' _ w' ?_)
    refine I.quiet hr hl f ho hj hSj hd (fun c e he hne => ?_) q1 ?_ q2.le (fun k hk => q3 k (by omega)) (fun k p hp => ?_)
    · obtain ⟨_, o', h1, h2, _⟩ := f.effok c e he
      rw [hne, ho] at h1; cases h1; rw [f3] at h2; cases h2
    · refine I.upd.trans (q2.ext fun k => ?_)
      by_cases hkj : k = n0 + j
      · subst hkj
        rw [Tr.get_set_same _ _ f4, view_alloc ht f.one hb (by rw [bits_set I.bits]; simp) hmj]
      · rw [Tr.get_set_ne _ _ f4 hkj]
        rcases view_cases (x := (effAt h0 (n0 + ops.size) effs J).2.1) (m := (effAt h0 (n0 + ops.size) effs J).1) (anc := ms ||| 2 ^ j) ht f.one k with ⟨i, b', k1, k2, k3, k4, k5⟩ | ⟨k1, k2⟩
        · subst k4
          rw [k5, view_alloc ht f.one k1 ?_ k3]
          rw [bits_set I.bits] at k2
          rcases Bool.or_eq_true _ _ |>.mp k2 with q | q
          · rw [I.bits]; exact q
          · simp at q; subst q; exact absurd rfl hkj
        · rw [k2, view_other ht fun i b q1 q2 q3 => k1 i b q1 (by rw [bits_set I.bits]; rw [I.bits] at q2; rw [q2]; rfl) q3]
    · by_cases hkj : k = n0 + j
      · exact .inr ⟨b, hb, hkj⟩
      · rw [q3 k hkj] at hp; exact .inl hp
  · have hno : ∀ b, (j, b) ∉ d.allocs := fun b q => hal ⟨b, q⟩
    obtain ⟨fr, f1, f2⟩ := f.opok j o hj ho
    -- an operation that only looks
    have look : wantedV ops o fr = some true → isEff o.op = false → stepOp P o fr (view n0 d.allocs (effAt h0 (n0 + ops.size) effs J).1 (effAt h0 (n0 + ops.size) effs J).2.1 ms) (n0 + j) =
        some (.val (val j) (view n0 d.allocs (effAt h0 (n0 + ops.size) effs J).1 (effAt h0 (n0 + ops.size) effs J).2.1 ms) (n0 + j)) →
        (if Region.wanted o (yielded ops a.tmps) = true then o.wpIn (fz rnd) 0 P a w K Q else (∀ f, o.about P w a.eval = some f → (fz rnd).fn f) ∧ K (a.put o.dst undef) w) := by
      intro hw hne hs
      rw [if_pos (I.wanted hr ho hSj hd f1 hw)]
      refine (wp_val I.upd.good hfresh (I.opds hr ho hSj hd f1) hs fun E' w' v' q1 q2 q3 q4 => hk J E' _ w' ?_)
      rcases q4 with ⟨_, rfl⟩ | q4
      · refine I.quiet hr hl f ho hj hSj hd (fun c e he hne' => ?_) q1 (I.upd.trans (q2.ext (hsame hno))) q2.le (fun _ _ => rfl) (fun _ _ hp => .inl hp)
        obtain ⟨_, o', h1, h2, _⟩ := f.effok c e he
        rw [hne', ho] at h1; cases h1; rw [hne] at h2; cases h2
      · omega
    rcases f2 with ⟨hw, hv⟩ | ⟨_, _, b, q3, _⟩ | ⟨hw, hne, hall⟩ | ⟨hw, hne, hmem, hread⟩ | ⟨hw, heff, c, h, n, hc, hrun⟩
    · -- not wanted
      rw [if_neg (by rw [I.wanted hr ho hSj hd f1 hw]; simp)]
      refine ⟨fun _ _ => trivial, ?_⟩
      refine hk J E _ w (I.quiet (v' := undef) hr hl f ho hj hSj hd (fun c e he hne' => ?_) (by rw [hv]; exact ⟨[], rfl, rfl⟩) (I.upd.ext (hsame hno)) E.le_refl (fun _ _ => rfl) (fun _ _ hp => .inl hp))
      -- an effect is wanted
      have hw1 := I.wanted hr ho hSj hd f1 hw
      have hcc := f.wantedEff c e o he (by rw [hne']; exact ho)
      obtain ⟨fr3, g3, g4⟩ := hcc
      rw [hne'] at g3
      have hw2 := I.wanted hr ho hSj hd g3 g4
      rw [hw1] at hw2; cases hw2
    · exact absurd q3 (hno b)
    · exact look hw hne (hall _)
    · have c1 : ∀ (c' : Nat) (e : Eff), J ≤ c' → effs[c']? = some e → hasBit (msk ops j) e.1 = false := by
        intro c' e hc' he
        cases q : hasBit (msk ops j) e.1 with
        | false => rfl
        | true => have := (I.effJ c' e he).1 (hanc _ q); omega
      have c2 : ∀ (c' : Nat) (e : Eff), c' < J → effs[c']? = some e → hasBit e.2.1 j = false := by
        intro c' e hc' he
        obtain ⟨_, o', _, _, h3⟩ := f.effok c' e he
        cases q : hasBit e.2.1 j with
        | false => rfl
        | true =>
          rw [h3] at q
          rw [I.anc hr ((I.effJ c' e he).2 hc') q] at hSj; cases hSj
      obtain ⟨y, hy⟩ := hread J I.Jle c1 c2
      rcases _root_.Go.Eng.quiet hne hy with ⟨u, h1, h2⟩ | ⟨u, b, h1, h2, h3⟩
      · cases h1
        exact look hw hne (h2 _ (I.sub hr hl f ht hanc))
      · simp only [R.val.injEq] at h2; omega
    · -- an effect: the next one
      have hcJ : c = J := by
        have h1 : ¬ c < J := by
          intro q
          have := (I.effJ c _ hc).2 q
          simp only at this; rw [hSj] at this; cases this
        by_cases q : J < c
        · have hJl : J < effs.length := by have := (List.getElem?_eq_some_iff.1 hc).1; omega
          have he : effs[J]? = some effs[J] := List.getElem?_eq_getElem hJl
          have := f.chain c J _ _ q hc he
          have := (I.effJ J _ he).1 (hanc _ this)
          omega
        · omega
      subst hcJ
      rw [if_pos (I.wanted hr ho hSj hd f1 hw)]
      have hgood := I.upd.good.sub (I.sub hr hl f ht hanc)
      have hdomN := I.domN hl
      simp only at hrun
      rcases hrun with hs | ⟨g, args, hs, hcall⟩
      · refine wp_val hgood (hdomN _ (Nat.le_refl _)) (I.opds hr ho hSj hd f1) hs fun E' w' v' q1 q2 q3 q4 => hk (c + 1) E' _ w' ?_
        refine I.effect hr hl f ht ho hj hSj hd hno hc q1 q2 (fun k hk => q3 k (by omega)) ?_ ?_
        · rcases q4 with ⟨rfl, rfl⟩ | rfl
          · exact hdomN
          · intro k hk; rw [q3 k (by omega)]; exact hdomN k (by omega)
        · rcases q4 with ⟨rfl, _⟩ | rfl <;> omega
      · refine wp_call hcf hgood hdomN (I.opds hr ho hSj hd f1) hs hcall fun E' w' q2 q3 q4 q5 => ?_
        intro v' q1
        exact hk (c + 1) E' _ w' (I.effect hr hl f ht ho hj hSj hd hno hc q1 q2 q3 q4 q5)
end
end Go.Eng
namespace Go.Eng
open Go
theorem filter_lt {α : Type} {p q : α → Bool} {x : α} : ∀ {l : List α}, x ∈ l → p x = true → q x = false → (∀ y, q y = true → p y = true) → (l.filter q).length < (l.filter p).length
  | [], h, _, _, _ => by simp at h
  | y :: l, h, hp, hq, hm => by
    have hle : (l.filter q).length ≤ (l.filter p).length := by
      clear h
      induction l with
      | nil => simp
      | cons z l ih =>
        simp only [List.filter_cons]
        by_cases c : q z = true
        · rw [if_pos c, if_pos (hm z c)]; simp; exact ih
        · rw [if_neg c]
          by_cases c2 : p z = true
          · rw [if_pos c2]; simp; omega
          · rw [if_neg c2]; exact ih
    simp only [List.filter_cons]
    rcases List.mem_cons.1 h with rfl | h
    · rw [if_pos hp, if_neg (by rw [hq]; simp)]; simp; omega
    · have ih := filter_lt h hp hq hm
      by_cases c : q y = true
      · rw [if_pos c, if_pos (hm y c)]; simp; exact ih
      · rw [if_neg c]
        by_cases c2 : p y = true
        · rw [if_pos c2]; simp; omega
        · rw [if_neg c2]; exact ih
def unl (n : Nat) (listed : Array Bool) : Nat := ((List.range n).filter fun i => !listed.getD i false).length
theorem getD_set' {listed : Array Bool} {j : Nat} (hj : j < listed.size) (i : Nat) : (listed.setIfInBounds j true).getD i false = (listed.getD i false || decide (i = j)) := by
  simp only [Array.getD_eq_getD_getElem?, Array.getElem?_setIfInBounds]
  by_cases q : i = j
  · subst q; simp [hj]
  · have : ¬ j = i := fun e => q e.symm
    simp [q, this]
section
variable {P : Program} {cf : CallF} {ops : Array Oper} {n0 N lim : Nat} {h0 : Tr O} {fr0 : Tr V} {val : Nat → V} {effs : List Eff} {d : Dr} {E0 : Env} {w0 : World} {ds0 : List Deferred}
variable {Q : Exit → Act → World → Prop} {rnd : Option Nat}
theorem any_sound (hcf : CallOk P cf) (hr : RegOk ops N) (hl : lim ≤ ops.size) (f : Facts P cf ops n0 h0 fr0 val effs lim d) (ht : ∀ y ∈ d.allocs, n0 + y.1 < top)
    (hQ : lim = ops.size → ∀ S ms J E a w, Inv ops n0 N lim h0 fr0 val effs d.allocs E0 w0 ds0 S ms J E a w → (∀ i, i < ops.size → S i = true) → Q .normal a w)
    (hP : lim < ops.size → lim + 1 = ops.size ∧ ∀ S ms J E a w o, Inv ops n0 N lim h0 fr0 val effs d.allocs E0 w0 ds0 S ms J E a w → ops[lim]? = some o →
      (∀ e ∈ o.after, Region.binds .any e = true → S e.on = true) → ∀ K, wpOpIn (fz rnd) 0 P ops Q lim K a w) :
    ∀ (fuel : Nat) (listed : Array Bool) (ms J : Nat) (E : Env) (a : Act) (w : World), listed.size = ops.size → unl ops.size listed ≤ fuel →
      Inv ops n0 N lim h0 fr0 val effs d.allocs E0 w0 ds0 (fun i => listed.getD i false) ms J E a w → wpAnyIn (fz rnd) 0 P .any ops Q fuel listed a w := by
  -- where nothing is ready all is listed
  have done : ∀ (listed : Array Bool) (ms J : Nat) (E : Env) (a : Act) (w : World), listed.size = ops.size → Inv ops n0 N lim h0 fr0 val effs d.allocs E0 w0 ds0 (fun i => listed.getD i false) ms J E a w →
      Region.ready .any ops listed = [] → Q .normal a w := by
    intro listed ms J E a w hs I hready
    have all : ∀ i, i < ops.size → listed.getD i false = true := by
      intro i
      induction i using Nat.strongRecOn with
      | _ i ih =>
        intro hi
        cases q : listed.getD i false with
        | true => rfl
        | false =>
          exfalso
          have ho : ops[i]? = some ops[i] := Array.getElem?_eq_getElem hi
          have : i ∈ Region.ready .any ops listed := mem_ready.2 ⟨by
            rw [Array.getD_eq_getD_getElem?, Array.getElem?_eq_getElem (by omega)] at q ⊢; exact q, ops[i], ho, fun e he hb => by
            have := hr.edges i _ ho e he hb
            exact ih e.on this (by omega)⟩
          rw [hready] at this; simp at this
    have hlim : lim = ops.size := by
      by_cases q : lim < ops.size
      · have := I.inS lim (all lim q); omega
      · omega
    exact hQ hlim _ ms J E a w I all
  intro fuel
  induction fuel with
  | zero =>
    intro listed ms J E a w hs hu I
    have hready : Region.ready .any ops listed = [] := by
      rw [List.eq_nil_iff_forall_not_mem]
      intro j hj
      obtain ⟨h1, o, ho, _⟩ := mem_ready.1 hj
      have hjs := (Array.getElem?_eq_some_iff.1 ho).1
      have hz : unl ops.size listed = 0 := by omega
      unfold unl at hz
      have := List.eq_nil_iff_length_eq_zero.2 hz
      have hm : j ∈ (List.range ops.size).filter fun i => !listed.getD i false := List.mem_filter.2 ⟨List.mem_range.2 hjs, by
        rw [Array.getD_eq_getD_getElem?, Array.getElem?_eq_getElem (by omega)] at h1 ⊢
        simp at h1; simp [h1]⟩
      rw [this] at hm; simp at hm
    exact ⟨hready, done listed ms J E a w hs I hready⟩
  | succ fuel ih =>
    intro listed ms J E a w hs hu I
    refine ⟨done listed ms J E a w hs I, fun j hj => ?_⟩
    obtain ⟨h1, o, ho, hd⟩ := mem_ready.1 hj
    have hjs := (Array.getElem?_eq_some_iff.1 ho).1
    have hSj : listed.getD j false = false := by
      rw [Array.getD_eq_getD_getElem?, Array.getElem?_eq_getElem (by omega)] at h1 ⊢; exact h1
    by_cases hjl : j < lim
    · refine I.step hcf hr hl f ht ho hjl hSj hd fun J' E' a' w' I' => ?_
      refine ih _ (ms ||| 2 ^ j) J' E' a' w' (by simp; exact hs) ?_ ?_
      · have : unl ops.size (listed.setIfInBounds j true) < unl ops.size listed := by
          refine filter_lt (x := j) (List.mem_range.2 hjs) (by rw [hSj]; rfl) (by rw [getD_set' (by omega)]; simp) fun y hy => ?_
          rw [getD_set' (by omega)] at hy
          simp at hy ⊢; exact hy.1
        omega
      · have : (fun i => (listed.setIfInBounds j true).getD i false) = fun i => (listed.getD i false || decide (i = j)) := funext fun i => getD_set' (by omega) i
        rw [this]; exact I'
    · have hlt : lim < ops.size := by omega
      obtain ⟨p1, p2⟩ := hP hlt
      have : j = lim := by omega
      subst this
      exact p2 _ ms J E a w o I ho hd _
end
theorem wp_drawn {rnd : Option Nat} {P : Program} {cf : CallF} {ops : Array Oper} {N id : Nat} {s s' : St} {x : X} {E0 : Env} {a0 : Act} {w0 : World} {Q : Exit → Act → World → Prop} (hcf : CallOk P cf) (hr : RegOk ops N) (hm : P.follows .mixedOrders = true)
    (e : drawn P cf ops s = some (x, s')) (g : Good E0 s.h w0) (hd : Dom E0 s.n) (hf : frel E0 s.fr a0) (hN : a0.tmps.size = N)
    (hq : ∀ E' a' w' x', Upd E0 s.h w0 E' s'.h w' → (∀ k, k < s.n → E'.ι k = E0.ι k) → Dom E' s'.n → s.n ≤ s'.n → frel E' s'.fr a' → a'.tmps.size = N → a'.defers = a0.defers → s'.dfs = s.dfs → xrel E' x x' → Q x' a' w') :
    (Code.region id ops true).wpIn (fz rnd) 0 P Q a0 w0 := by
  refine wpIn_region_any hm ?_
  unfold drawn at e
  split at e
  · rename_i htop
    have init := facts_init (P := P) (cf := cf) (ops := ops) (n0 := s.n) s.fr s.h
    -- the invariant at the start
    have start : ∀ (lim : Nat) (val : Nat → V) (effs : List Eff) (allocs : List (Nat × O)), Inv ops s.n N lim s.h s.fr val effs allocs E0 w0 a0.defers (fun i => (Array.replicate ops.size false).getD i false) 0 0 E0 a0 { w0 with drawn := w0.drawn + 1 } := by
      intro lim val effs allocs
      have hS : ∀ i, (Array.replicate ops.size false).getD i false = false := by
        intro i; rw [Array.getD_eq_getD_getElem?]
        by_cases q : i < ops.size
        · rw [Array.getElem?_eq_getElem (by simpa using q)]; simp
        · rw [Array.getElem?_eq_none (by simpa using q)]; rfl
      have hv0 : ∀ k, (view s.n allocs (effAt s.h (s.n + ops.size) effs 0).1 (effAt s.h (s.n + ops.size) effs 0).2.1 0).get k = s.h.get k := by
        intro k
        have : ∀ l : List (Nat × O), view s.n l (effAt s.h (s.n + ops.size) effs 0).1 (effAt s.h (s.n + ops.size) effs 0).2.1 0 = s.h := by
          intro l
          induction l with
          | nil => rfl
          | cons y l ih => obtain ⟨i, b⟩ := y; simp only [view, hasBit_zero, Bool.false_and, Bool.false_eq_true, if_false]; exact ih
        rw [this]
      refine ⟨fun i => by rw [hasBit_zero, hS], fun i hi => ?_, fun j o hj => ?_, fun c e' _ => ?_, Nat.zero_le _, fun j o t hj => ?_, fun t v hv _ => hf t v hv, (Upd.drew g).ext hv0, fun _ _ => rfl, fun k p hp => ?_, fun i _ _ => ?_, Nat.le_refl _, hN, rfl⟩
      · rw [hS] at hi; cases hi
      · rw [hS] at hj; cases hj
      · rw [hS]; constructor
        · intro q; cases q
        · intro q; omega
      · rw [hS] at hj; cases hj
      · by_cases q : k < s.n
        · exact .inl q
        · rw [hd k (by omega)] at hp; cases hp
      · show s.h.get (s.n + i) = none
        cases q : s.h.get (s.n + i) with
        | none => rfl
        | some o =>
          obtain ⟨b, t, h1, _⟩ := g.rel _ _ q
          rw [hd _ (by omega)] at h1; cases h1
    have hu0 : unl ops.size (Array.replicate ops.size false) ≤ ops.size := by
      unfold unl
      exact Nat.le_trans (List.length_filter_le _ _) (by simp)
    have hrun := fun (r : Dr ⊕ (Tr V × V × Tr O × Nat)) q => facts_run (N := N) hr ops.toList 0 _ _ _ r (by simp) init q
    split at e
    · rename_i d hdr
      simp only [Option.some.injEq, Prod.mk.injEq] at e; obtain ⟨rfl, rfl⟩ := e
      obtain ⟨val, effs, f⟩ := hrun _ hdr
      rw [show max 0 ops.size = ops.size by omega] at f
      have ht : ∀ y ∈ d.allocs, s.n + y.1 < top := fun y hy => by have := f.allocs y hy; omega
      refine any_sound hcf hr (Nat.le_refl _) f ht (fun _ S ms J E a w I hall => ?_) (fun q => by omega) ops.size _ 0 0 E0 a0 _ (by simp) hu0 (start ops.size val effs d.allocs)
      have hJ : J = effs.length := by
        have h1 := I.Jle
        by_cases q : J < effs.length
        · have he : effs[J]? = some effs[J] := List.getElem?_eq_getElem q
          have := (I.effJ J _ he).1 (hall _ (f.effok J _ he).1)
          omega
        · omega
      have ec1 : d.cur.1 = (effAt s.h (s.n + ops.size) effs J).1 := by rw [hJ, f.cur]
      have ec2 : d.cur.2 = (effAt s.h (s.n + ops.size) effs J).2.1 := by rw [hJ, f.cur]
      have en : d.n = (effAt s.h (s.n + ops.size) effs J).2.2 := by rw [hJ, f.n]
      refine hq E a w .normal ?_ I.old ?_ ?_ ?_ I.size I.dfs rfl trivial
      · refine I.upd.ext fun k => ?_
        simp only [ec1, ec2]
        have hbits : ∀ i, i < ops.size → hasBit (2 ^ ops.size - 1) i = true := fun i hi => by
          unfold hasBit; rw [Nat.testBit_two_pow_sub_one]; simpa using hi
        rcases view_cases (n0 := s.n) (x := (effAt s.h (s.n + ops.size) effs J).2.1) (m := (effAt s.h (s.n + ops.size) effs J).1) (anc := 2 ^ ops.size - 1) ht f.one k with ⟨i, b, k1, k2, k3, k4, k5⟩ | ⟨k1, k2⟩
        · subst k4
          rw [k5, view_alloc ht f.one k1 (by rw [I.bits]; exact hall i (f.allocs _ k1)) k3]
        · rw [k2, view_other ht fun i b q1 q2 q3 => k1 i b q1 (hbits i (f.allocs _ q1)) q3]
      · show Dom E d.n
        rw [en]; exact I.domN (Nat.le_refl _)
      · show s.n ≤ d.n
        rw [en]; have := I.cnt; omega
      · intro t v hv
        by_cases q : ∃ j o, j < ops.size ∧ ops[j]? = some o ∧ o.dst = some t
        · obtain ⟨j, o, q1, q2, q3⟩ := q
          have := f.fr.new j o t q1 q2 q3
          simp only at hv
          rw [this] at hv; cases hv
          exact I.f1 j o t (hall j q1) q2 q3
        · have := f.fr.old t fun i o hi ho hdt => q ⟨i, o, hi, ho, hdt⟩
          simp only at hv
          rw [this] at hv
          exact I.f2 t v hv fun j o hj ho hdt => q ⟨j, o, I.inS j hj, ho, hdt⟩
    · rename_i fr v h n hdr
      simp only [Option.some.injEq, Prod.mk.injEq] at e; obtain ⟨rfl, rfl⟩ := e
      obtain ⟨lim, o, d, val, effs, ho, f, hop⟩ := hrun _ hdr
      have hlim : lim < ops.size := (Array.getElem?_eq_some_iff.1 ho).1
      have ht : ∀ y ∈ d.allocs, s.n + y.1 < top := fun y hy => by have := f.allocs y hy; omega
      -- the operation that panics
      have hanc : maskOf d.masks o.after.toList = msk ops lim := by rw [f.masks]; unfold msk; rw [ho]
      unfold drawOp at hop
      simp only [hanc] at hop
      split at hop
      · split at hop <;> cases hop
      · rename_i hw
        split at hop
        · rename_i heff
          split at hop
          · split at hop
            · split at hop <;> cases hop
            · rename_i gg args hs
              split at hop
              · split at hop <;> cases hop
              · rename_i v' h' n' hc
                split at hop
                · rename_i hb
                  simp only [Option.some.injEq, Sum.inr.injEq, Prod.mk.injEq] at hop
                  obtain ⟨rfl, rfl, rfl, rfl⟩ := hop
                  simp only [Bool.and_eq_true] at hb
                  have hb1 := Nat.eq_of_beq_eq_true hb.1
                  have hb2 := Nat.eq_of_beq_eq_true hb.2
                  have hbit : ∀ i, i < lim → hasBit (msk ops lim) i = true := fun i hi => by
                    have : msk ops lim = 2 ^ lim - 1 := by omega
                    rw [this]; unfold hasBit; rw [Nat.testBit_two_pow_sub_one]; simpa using hi
                  refine any_sound hcf hr (Nat.le_of_lt hlim) f ht (fun q => by omega) (fun _ => ⟨hb2, fun S ms J E a w o' I ho' hdeps K => ?_⟩) ops.size _ 0 0 E0 a0 _ (by simp) hu0 (start lim val effs d.allocs)
                  rw [ho] at ho'; cases ho'
                  have hSl : S lim = false := by
                    cases q : S lim with
                    | false => rfl
                    | true => have := I.inS lim q; omega
                  have hall : ∀ i, i < lim → S i = true := fun i hi => anc_ready hr I.closed ho hdeps (hbit i hi)
                  have hJ : J = effs.length := by
                    have h1 := I.Jle
                    by_cases q : J < effs.length
                    · have he : effs[J]? = some effs[J] := List.getElem?_eq_getElem q
                      have := (I.effJ J _ he).1 (hall _ (f.effok J _ he).1)
                      omega
                    · omega
                  have ec1 : d.cur.1 = (effAt s.h (s.n + ops.size) effs J).1 := by rw [hJ, f.cur]
                  have ec2 : d.cur.2 = (effAt s.h (s.n + ops.size) effs J).2.1 := by rw [hJ, f.cur]
                  have en : d.n = (effAt s.h (s.n + ops.size) effs J).2.2 := by rw [hJ, f.n]
                  rw [ec1, ec2, en] at hs hc
                  have hsub := I.sub hr (Nat.le_of_lt hlim) f ht (anc := msk ops lim) fun k hk => hall k (msk_lt hr.edges lim k hk)
                  have hdomN := I.domN (Nat.le_of_lt hlim)
                  unfold wpOpIn
                  simp only [ho]
                  rw [if_pos (I.wanted hr ho hSl hdeps f.fr hw)]
                  refine (wp_call hcf (I.upd.good.sub hsub) hdomN (I.opds hr ho hSl hdeps f.fr) hs hc fun E' w' q2 q3 q4 q5 => ?_)
                  intro v2 hv2
                  have hcn := I.cnt
                  refine hq E' a w' _ ?_ (fun k hk => ?_) q4 ?_ ?_ I.size I.dfs rfl ⟨v2, hv2, rfl⟩
                  · refine I.upd.trans (Upd.frame I.upd.good hsub q2 fun k => ?_)
                    simp only
                    cases hk : h'.get k with
                    | some o' => rfl
                    | none =>
                      simp only
                      split
                      · rename_i hx
                        rcases view_cases (n0 := s.n) (x := (effAt s.h (s.n + ops.size) effs J).2.1) (m := (effAt s.h (s.n + ops.size) effs J).1) (anc := ms) ht f.one k with ⟨i, b, k1, k2, k3, k4, k5⟩ | ⟨k1, k2⟩
                        · subst k4
                          rw [view_alloc ht f.one k1 (hbit i (f.allocs _ k1)) k3] at hx; cases hx
                        · rw [k2]
                          rw [view_other ht fun i b q1 q2' q3' => k1 i b q1 (by rw [I.bits]; exact hall i (f.allocs _ q1)) q3'] at hx
                          exact hx.symm
                      · rfl
                  · rw [q3 k (by omega)]; exact I.old k hk
                  · show s.n ≤ n'
                    omega
                  · refine frel_mono q2.le ?_
                    intro t v hv
                    by_cases q : ∃ j o, j < lim ∧ ops[j]? = some o ∧ o.dst = some t
                    · obtain ⟨j, o2, q1, q2, q3⟩ := q
                      have := f.fr.new j o2 t q1 q2 q3
                      simp only at hv
                      rw [this] at hv; cases hv
                      exact I.f1 j o2 t (hall j q1) q2 q3
                    · have := f.fr.old t fun i o2 hi ho2 hdt => q ⟨i, o2, hi, ho2, hdt⟩
                      simp only at hv
                      rw [this] at hv
                      exact I.f2 t v hv fun j o2 hj ho2 hdt => q ⟨j, o2, I.inS j hj, ho2, hdt⟩
                · cases hop
              · cases hop
            · cases hop
          · cases hop
        · split at hop
          · split at hop
            · split at hop
              · split at hop
                · cases hop
                · split at hop <;> cases hop
              · split at hop
                · split at hop <;> cases hop
                · cases hop
            · cases hop
          · cases hop
      · cases hop
    · cases e
  · cases e
end Go.Eng
namespace Go.Eng
open Go
def drel1 (E : Env) (x : FuncId × List V × List V) (d : Deferred) : Prop :=
  (x.1 < top ∧ ∃ c' args', vrels E x.2.1 c' ∧ vrels E x.2.2 args' ∧ d = { target := .fn (.func x.1) c'.toArray, args := args'.toArray }) ∨
  (x.1 = top ∧ ∃ m b s, x.2.2 = [.map (some m)] ∧ E.ι m = some (b, s) ∧ d = { target := .collected b, args := #[] })
def drel (E : Env) : List (FuncId × List V × List V) → List Deferred → Prop
  | [], l => l = []
  | x :: xs, l => ∃ d ys, drel1 E x d ∧ drel E xs ys ∧ l = d :: ys
theorem drel1_mono {E E' : Env} (h : E.le E') {x : FuncId × List V × List V} {d : Deferred} : drel1 E x d → drel1 E' x d := by
  rintro (⟨hx, c', a', r1, r2, q⟩ | ⟨hx, m, b, s, q1, q2, q3⟩)
  · exact .inl ⟨hx, c', a', vrels_mono h _ _ r1, vrels_mono h _ _ r2, q⟩
  · exact .inr ⟨hx, m, b, s, q1, (h _ _ _ q2).1, q3⟩
theorem drel_mono {E E' : Env} (h : E.le E') : ∀ (xs : List (FuncId × List V × List V)) (ys : List Deferred), drel E xs ys → drel E' xs ys
  | [], _, r => r
  | _ :: xs, _, ⟨d, ys, r1, r3, q⟩ => ⟨d, ys, drel1_mono h r1, drel_mono h xs ys r3, q⟩
theorem Upd.kill {E : Env} {h : Tr O} {w w' : World} {m b s : Nat} (g : Good E h w) (ht : m < top) (hlive : wlive h m) (hm : E.ι m = some (b, s))
    (hsize : w'.heap.size = w.heap.size) (htape : w'.tape = w.tape) (hos : w'.os = w.os) (hout : w'.output = w.output)
    (hother : ∀ x, x ≠ b → w'.heap[x]? = w.heap[x]?) : Upd E h w E (h.set m none) w' := by
  have hs : ∀ k o, (h.set m none).get k = some o → k ≠ m ∧ h.get k = some o := by
    intro k o hk; rw [Tr.get_set _ _ _ ht] at hk; split at hk
    · cases hk
    · rename_i q; exact ⟨q, hk⟩
  have hs' : ∀ k o, (h.set m none).get k = some o → h.get k = some o := fun k o q => (hs k o q).2
  refine ⟨E.le_refl, ⟨?_, ?_, ?_⟩, by omega, htape, hos, hout, ?_, fun k x t hk e _ => ⟨k, t, live_sub hs' hk, e, wlive_sub hs'⟩⟩
  · intro k o hk
    obtain ⟨hne, hk⟩ := hs k o hk
    obtain ⟨b', s', h1, h2⟩ := g.rel k o hk
    have hb : b' ≠ b := by
      intro hb; subst hb
      exact g.inj m k b' s s' (fun q => hne q.symm) hlive (by rw [hk]; simp) hm h1
    exact ⟨b', s', h1, orel_mono E.le_refl rfl (hother b' hb) h2⟩
  · intro k k' x t t' hne hk hk' e e'
    exact g.inj k k' x t t' hne (wlive_sub hs' hk) (live_sub hs' hk') e e'
  · intro k x t e; rw [hsize]; exact g.bnd k x t e
  · intro x _ hn
    refine hother x ?_
    intro hx; subst hx; exact hn m s hlive hm
structure SRel (E : Env) (N : Nat) (s : St) (a : Act) (w : World) : Prop where
  good : Good E s.h w
  dom : Dom E s.n
  fr : frel E s.fr a
  size : a.tmps.size = N
  dfs : drel E s.dfs a.defers
def Post (E : Env) (N : Nat) (s : St) (w : World) (x : X) (s' : St) (Q : Exit → Act → World → Prop) : Prop :=
  ∀ E' a' w' x', Upd E s.h w E' s'.h w' → (∀ k, k < s.n → E'.ι k = E.ι k) → s.n ≤ s'.n → SRel E' N s' a' w' → xrel E' x x' → Q x' a' w'
theorem Post.after {E E1 : Env} {N : Nat} {s s1 s' : St} {w w1 : World} {x : X} {Q : Exit → Act → World → Prop} (p : Post E N s w x s' Q) (u : Upd E s.h w E1 s1.h w1) (hlow : ∀ k, k < s.n → E1.ι k = E.ι k) (hn : s.n ≤ s1.n) : Post E1 N s1 w1 x s' Q :=
  fun E' a' w' x' u' hlow' hn' r rx => p E' a' w' x' (u.trans u') (fun k hk => by rw [hlow' k (by omega)]; exact hlow k hk) (by omega) r rx
section
variable {P : Program} {cf : CallF} {F N : Nat} {rnd : Option Nat}
theorem seq_sound (hcf : CallOk P cf) {ops : Array Oper} : ∀ (l : List Oper) (s : St) (x : X) (s' : St), (rnd = none ∨ ∀ o ∈ l, opPlain o.op = true) → (∀ o ∈ l, dstOk N o.dst) → seqOps P cf ops l s = some (x, s') →
    ∀ (E : Env) (a : Act) (w : World) (Q : Exit → Act → World → Prop), SRel E N s a w → Post E N s w x s' Q → wpListIn (fz rnd) 0 P ops Q l a w
  | [], s, x, s', _, _, e, E, a, w, Q, r, hp => by
    simp only [seqOps, Option.some.injEq, Prod.mk.injEq] at e; obtain ⟨rfl, rfl⟩ := e
    exact hp E a w .normal (Upd.refl r.good) (fun _ _ => rfl) (Nat.le_refl _) r trivial
  | o :: rest, s, x, s', hpl, hdst, e, E, a, w, Q, r, hp => by
    have hplr : rnd = none ∨ ∀ o ∈ rest, opPlain o.op = true := hpl.imp _root_.id fun h o ho => h o (by simp [ho])
    have ho := hdst o (by simp)
    have hrest : ∀ o ∈ rest, dstOk N o.dst := fun o h => hdst o (by simp [h])
    have hd' : dstOk a.tmps.size o.dst := by rw [r.size]; exact ho
    simp only [seqOps] at e
    unfold wpListIn
    have hwant : ∀ b, wantedV ops o s.fr = some b → Region.wanted o (yielded ops a.tmps) = b := fun b hb => wanted_rel (E := E) (fun _ _ _ d _ _ _ v hv => r.fr d v hv) hb
    have hopd : ∀ y ∈ o.op.operands, OpdRel E s.fr a.eval y := fun y _ => opdRel_of_frel r.fr y
    split at e
    · rename_i hw
      rw [if_neg (by rw [hwant _ hw]; simp)]
      split at e
      · rename_i fr hput
        refine ⟨fun _ _ => trivial, ?_⟩
        refine seq_sound hcf rest _ x s' hplr hrest e E _ w Q ⟨r.good, r.dom, frel_put r.fr hput ⟨[], rfl, rfl⟩ hd', by rw [put_size]; exact r.size, by rw [put_defers]; exact r.dfs⟩ ?_
        exact hp.after (Upd.refl r.good) (fun _ _ => rfl) (Nat.le_refl _)
      · cases e
    · rename_i hw
      rw [if_pos (hwant _ hw)]
      split at e
      · rename_i v h n hs
        split at e
        · rename_i fr hput
          refine wp_val r.good (r.dom _ (Nat.le_refl _)) hopd hs fun E' w' v' q1 q2 q3 q4 => ?_
          have hn : s.n ≤ n := by rcases q4 with ⟨rfl, _⟩ | rfl <;> omega
          have hdom : Dom E' n := by
            rcases q4 with ⟨rfl, rfl⟩ | rfl
            · exact r.dom
            · intro k hk; rw [q3 k (by omega)]; exact r.dom k (by omega)
          refine seq_sound hcf rest _ x s' hplr hrest e E' _ w' Q ⟨q2.good, hdom, frel_put (frel_mono q2.le r.fr) hput q1 hd', by rw [put_size]; exact r.size, by rw [put_defers]; exact drel_mono q2.le _ _ r.dfs⟩ ?_
          exact hp.after q2 (fun k hk => q3 k (by omega)) hn
        · cases e
      · rename_i g args hs
        split at e
        · rename_i v h n hc
          split at e
          · rename_i fr hput
            refine wp_call hcf r.good r.dom hopd hs hc fun E' w' q2 q3 q4 q5 => ?_
            intro v' q1
            refine seq_sound hcf rest _ x s' hplr hrest e E' _ w' Q ⟨q2.good, q4, frel_put (frel_mono q2.le r.fr) hput q1 hd', by rw [put_size]; exact r.size, by rw [put_defers]; exact drel_mono q2.le _ _ r.dfs⟩ ?_
            exact hp.after q2 q3 q5
          · cases e
        · rename_i v h n hc
          simp only [Option.some.injEq, Prod.mk.injEq] at e; obtain ⟨rfl, rfl⟩ := e
          refine wp_call hcf r.good r.dom hopd hs hc fun E' w' q2 q3 q4 q5 => ?_
          intro v' q1
          exact hp E' a w' _ q2 q3 q5 ⟨q2.good, q4, frel_mono q2.le r.fr, r.size, drel_mono q2.le _ _ r.dfs⟩ ⟨v', q1, rfl⟩
        · cases e
      · rename_i g c args hs
        split at e
        case isFalse => cases e
        rename_i hgt
        split at e
        · rename_i fr hput
          have hrn : rnd = none := by
            rcases hpl with q | q
            · exact q
            · exfalso
              have := q o (by simp); rw [hgt.2] at this; cases this
          refine wp_dfr hrn r.good (r.dom _ (Nat.le_refl _)) hopd hs fun c' args' q1 q2 => ?_
          refine seq_sound hcf rest _ x s' hplr hrest e E _ w Q ⟨r.good, r.dom, frel_put (a := { a with defers := { target := .fn (.func g) c'.toArray, args := args'.toArray } :: a.defers }) r.fr hput ⟨[], rfl, rfl⟩ hd', by rw [put_size]; exact r.size, by rw [put_defers]; exact ⟨_, a.defers, .inl ⟨hgt.1, c', args', q1, q2, rfl⟩, r.dfs, rfl⟩⟩ ?_
          exact hp.after (Upd.refl r.good) (fun _ _ => rfl) (Nat.le_refl _)
        · cases e
      · rename_i v hs
        simp only [Option.some.injEq, Prod.mk.injEq] at e; obtain ⟨rfl, rfl⟩ := e
        refine wp_panic r.good (r.dom _ (Nat.le_refl _)) hopd hs fun v' q1 => ?_
        exact hp E a w _ (Upd.refl r.good) (fun _ _ => rfl) (Nat.le_refl _) r ⟨v', q1, rfl⟩
      · cases e
      · cases e
    · cases e
theorem cond_rel {E : Env} {fr : Tr V} {a : Act} {c : Operand} {b : Bool} (r : frel E fr a) (e : opd fr c = some (.bool b)) : a.eval c = .bool b := by
  have := opdRel_of_frel r c _ e
  simpa only [vrel] using this
theorem range_sound (hcf : CallOk P cf) {g : Operand} {ps : Array Tmp} {assign body : Code} {s s' : St} {x : X} (hok : codeOk N (.rangeFunc g ps assign body) = true) (e : exec P cf F (.rangeFunc g ps assign body) s = some (x, s'))
    {E : Env} {a : Act} {w : World} {Q : Exit → Act → World → Prop} (r : SRel E N s a w) (hp : Post E N s w x s' Q) : (Code.rangeFunc g ps assign body).wpIn (fz none) 0 P Q a w := by
  simp only [codeOk, Bool.and_eq_true] at hok
  simp only [exec] at e
  split at e
  · rename_i gf lb hg
    split at e
    case isFalse => cases e
    rename_i hq
    obtain ⟨hcal, htop⟩ := hq
    obtain ⟨f', fi, lb', hff, hfi, hlb, hge⟩ := opdRel_of_frel r.fr g _ hg
    simp only [fnrel] at hff; subst hff
    simp only [vrels] at hfi; subst hfi
    refine wpIn_rangeFunc fun fn _ => ?_
    -- the two blocks
    let rec0 : Loop := { state := .ready, pending := none, fn, tmps := a.tmps, params := ps, assign, body, defers := w.heap.size }
    have u1 : Upd E s.h w (E.put s.n w.heap.size 0 0) (s.h.set s.n (some .dfr)) (w.alloc (.deferred (some []))) := Upd.alloc (ob := .deferred (some [])) (o := .dfr) r.good (r.dom _ (Nat.le_refl _)) (by omega) heap_alloc_new
    have hn1 : (E.put s.n w.heap.size 0 0).ι (s.n + 1) = none := by rw [Env.put_ne (by omega)]; exact r.dom _ (by omega)
    have u2 : Upd (E.put s.n w.heap.size 0 0) (s.h.set s.n (some .dfr)) (w.alloc (.deferred (some []))) ((E.put s.n w.heap.size 0 0).put (s.n + 1) (w.alloc (.deferred (some []))).heap.size 0 0) ((s.h.set s.n (some .dfr)).set (s.n + 1) (some (.loop true none s.fr ps.toList assign body))) ((w.alloc (.deferred (some []))).alloc (.loop rec0)) :=
      Upd.alloc (ob := .loop rec0) (o := .loop true none s.fr ps.toList assign body) u1.good hn1 htop
        ⟨rec0, heap_alloc_new, rfl, rfl, rfl, rfl, rfl, trel_mono (Env.le_trans u1.le (Env.le_put hn1 fun m x t e hx => by have := u1.good.bnd m x t e; omega)) r.fr, by rw [show rec0.tmps.size = N from r.size]; exact ⟨hok.2.1, hok.2.2, fun p hp => by simpa using List.all_eq_true.1 hok.1 p hp⟩⟩
    rw [World.size_alloc] at u2
    revert e
    generalize hE2 : (E.put s.n w.heap.size 0 0).put (s.n + 1) (w.heap.size + 1) 0 0 = E2 at u2
    generalize hh2 : (s.h.set s.n (some .dfr)).set (s.n + 1) (some (.loop true none s.fr ps.toList assign body)) = h2 at u2
    generalize hW1 : (w.alloc (.deferred (some []))).alloc (.loop rec0) = W1 at u2
    intro e
    have hl2 : E2.ι (s.n + 1) = some (w.heap.size + 1, 0) := by rw [← hE2]; exact Env.put_same
    have hd2 : E2.ι s.n = some (w.heap.size, 0) := by rw [← hE2, Env.put_ne (by omega)]; exact Env.put_same
    have hlow2 : ∀ k, k < s.n → E2.ι k = E.ι k := fun k hk => by rw [← hE2, Env.put_ne (by omega), Env.put_ne (by omega)]
    have hdom2 : Dom E2 (s.n + 2) := fun k hk => by
      have hk : s.n + 2 ≤ k := hk
      rw [← hE2, Env.put_ne (by omega), Env.put_ne (by omega)]; exact r.dom k (by show s.n ≤ k; omega)
    have u12 := u1.trans u2
    have hlb2 : vrels E2 lb lb' := vrels_mono u12.le _ _ hlb
    have hinv : (invoke (.fn (.func gf) lb'.toArray) #[.func (.yield (w.heap.size + 1)) #[] #[]]).run P W1 = .ok (.enter gf (Value.func (.yield (w.heap.size + 1)) #[] #[] :: lb').toArray) W1 := by
      have hcf' := run_callFunc (w := W1) (args := (Value.func (.yield (w.heap.size + 1)) #[] #[] :: lb').toArray) hcal
      rw [← hcf']
      simp [invoke]
    refine ⟨w.heap.size + 1, [{ target := .collected w.heap.size, args := #[] }], W1, { target := .fn (.func gf) lb'.toArray, args := #[.func (.yield (w.heap.size + 1)) #[] #[]] }, W1, gf,
      (Value.func (.yield (w.heap.size + 1)) #[] #[] :: lb').toArray, W1, ?_, ?_, fun _ _ => trivial, hinv, fun hd => by simp [fz, Fence.wide] at hd, ?_⟩
    · rw [← hW1]; exact run_enterLoop_outer _ _ _ _ _
    · simp only [resolve, hge]
      simp [go_sem]
    · split at e
      case h_2 => cases e
      rename_i v h n hc
      have hcalls := (hcf gf _ h2 (s.n + 2) _ h n hc E2 W1 (Value.func (.yield (w.heap.size + 1)) #[] #[] :: lb') ⟨_, _, ⟨_, [], [], ⟨_, _, hl2, rfl⟩, rfl, rfl, rfl⟩, hlb2, rfl⟩ u2.good hdom2).1 hcal
      have hcalls' : CallsIn Fence.wide (0 - 1) P gf (Value.func (.yield (w.heap.size + 1)) #[] #[] :: lb').toArray W1 (rangePost (fz none) 0 P (w.heap.size + 1) Q { a with defers := [{ target := .collected w.heap.size, args := #[] }] ++ a.defers }) := by
        refine callsIn_wide.2 (hcalls.mono ?_)
        rintro en w3 ⟨E3, u3, hlow3, hdom3, hn3, ho⟩
        cases en with
        | panicked _ => exact ho.elim
        | outgrown => exact ho.elim
        | returned v' =>
          have hl3 : E3.ι (s.n + 1) = some (w.heap.size + 1, 0) := by rw [hlow3 _ (by omega)]; exact hl2
          have hd3 : E3.ι s.n = some (w.heap.size, 0) := by rw [hlow3 _ (by omega)]; exact hd2
          -- what comes behind
          have fin : ∀ (st : Bool) (pe : Option Code) (fr : Tr V) (pl : List Nat) (c1 c2 : Code), h.get (s.n + 1) = some (.loop st pe fr pl c1 c2) →
              ∃ w4, (Instr.endLoop (w.heap.size + 1)).run P w3 = .ok pe w4 ∧
                ∀ (y : X) (s1 : St), s1 = { s with h := h.set (s.n + 1) none, n := n, dfs := (top, [], [.map (some s.n)]) :: s.dfs } → Post E N s w y s1 Q → ∀ y', xrel E3 y y' → Q y' { a with defers := [{ target := .collected w.heap.size, args := #[] }] ++ a.defers } w4 := by
            intro st pe fr pl c1 c2 hget
            obtain ⟨b, s0, q1, rc, q2, q3, q4, _⟩ := u3.good.rel _ _ hget
            rw [hl3] at q1; cases q1
            have hend := run_endLoop (P := P) q2 (by rw [q3]; cases st <;> simp)
            refine ⟨_, hend.trans (congrArg (fun p => Result.ok p _) q4), fun y s1 hs1 hpost y' hy => ?_⟩
            have uk : Upd E3 h w3 E3 (h.set (s.n + 1) none) (w3.putObj (w.heap.size + 1) (.loop { rc with state := .exhausted })) :=
              Upd.kill u3.good htop ⟨_, hget, rfl⟩ hl3 (by simp) rfl rfl rfl fun x hx => World.putObj_heap_other hx
            have uall := (u12.trans u3).trans uk
            subst hs1
            have hsn : s.n ≤ n := by omega
            exact hpost E3 _ _ y' uall (fun k hk => by rw [hlow3 k (by omega)]; exact hlow2 k hk) hsn
              ⟨uall.good, hdom3, frel_mono uall.le r.fr, r.size, ⟨_, a.defers, .inr ⟨rfl, s.n, w.heap.size, 0, rfl, hd3, rfl⟩, drel_mono uall.le _ _ r.dfs, rfl⟩⟩ hy
          split at e
          · rename_i hdg hlg
            simp only [Option.some.injEq, Prod.mk.injEq] at e; obtain ⟨rfl, rfl⟩ := e
            obtain ⟨w4, k1, k2⟩ := fin _ _ _ _ _ _ hlg
            exact ⟨_, w4, k1, k2 .normal _ rfl hp .normal trivial⟩
          · rename_i hdg hlg
            simp only [Option.some.injEq, Prod.mk.injEq] at e; obtain ⟨rfl, rfl⟩ := e
            obtain ⟨w4, k1, k2⟩ := fin _ _ _ _ _ _ hlg
            exact ⟨_, w4, k1, wpIn_ret (k2 .ret _ rfl hp .ret trivial)⟩
          · rename_i id _ _ _ _ hdg hlg
            simp only [Option.some.injEq, Prod.mk.injEq] at e; obtain ⟨rfl, rfl⟩ := e
            obtain ⟨w4, k1, k2⟩ := fin _ _ _ _ _ _ hlg
            exact ⟨_, w4, k1, wpIn_exit (k2 (.exit id) _ rfl hp (.exit id) rfl)⟩
          · cases e
      exact hcalls'
  · cases e
theorem exec_sound (hcf : CallOk P cf) (hm : P.follows .mixedOrders = true) : ∀ (c : Code) (s : St) (x : X) (s' : St), (rnd = none ∨ plainC c = true) → codeOk N c = true → exec P cf F c s = some (x, s') →
    ∀ (E : Env) (a : Act) (w : World) (Q : Exit → Act → World → Prop), SRel E N s a w → Post E N s w x s' Q → c.wpIn (fz rnd) 0 P Q a w := by
  intro c
  induction c with
  | skip =>
    intro s x s' _ _ e E a w Q r hp
    simp only [exec, Option.some.injEq, Prod.mk.injEq] at e; obtain ⟨rfl, rfl⟩ := e
    exact wpIn_skip (hp E a w .normal (Upd.refl r.good) (fun _ _ => rfl) (Nat.le_refl _) r trivial)
  | region id ops draw =>
    intro s x s' hpl hok e E a w Q r hp
    simp only [codeOk, Bool.and_eq_true] at hok
    cases draw with
    | false =>
      simp only [exec] at e
      refine wpIn_region_list (seq_sound hcf ops.toList s x s' (hpl.imp _root_.id fun q => by simp only [plainC, List.all_eq_true] at q; exact q) (fun o ho d hd => ?_) e E a w Q r hp)
      have := List.all_eq_true.1 hok.1 o ho
      rw [hd] at this; simpa using this
    | true =>
      simp only [exec] at e
      have hreg := regOk_spec (by simpa using hok.2)
      refine wp_drawn hcf hreg hm e r.good r.dom r.fr r.size fun E' a' w' x' u hlow hdom hn hfr hsz hdf hdfs hx => ?_
      exact hp E' a' w' x' u hlow hn ⟨u.good, hdom, hfr, hsz, by rw [hdfs, hdf]; exact drel_mono u.le _ _ r.dfs⟩ hx
  | seq c1 c2 ih1 ih2 =>
    intro s x s' hpl hok e E a w Q r hp
    simp only [codeOk, Bool.and_eq_true] at hok
    simp only [exec] at e
    refine wpIn_seq ?_
    cases h1 : exec P cf F c1 s with
    | none => simp [h1] at e
    | some p =>
      obtain ⟨x1, s1⟩ := p
      refine ih1 s x1 s1 (hpl.imp _root_.id fun q => by simp only [plainC, Bool.and_eq_true] at q; exact q.1) hok.1 h1 E a w _ r fun E' a' w' x' u hlow hn r' hx => ?_
      cases x1 with
      | normal =>
        simp only [h1] at e
        cases x' <;> first | (exact hx.elim) | skip
        exact ih2 s1 x s' (hpl.imp _root_.id fun q => by simp only [plainC, Bool.and_eq_true] at q; exact q.2) hok.2 e E' a' w' Q r' (hp.after u hlow hn)
      | exit i =>
        simp only [h1, Option.some.injEq, Prod.mk.injEq] at e; obtain ⟨rfl, rfl⟩ := e
        cases x' <;> first | (exact hx.elim) | skip
        exact hp E' a' w' _ u hlow hn r' hx
      | ret =>
        simp only [h1, Option.some.injEq, Prod.mk.injEq] at e; obtain ⟨rfl, rfl⟩ := e
        cases x' <;> first | (exact hx.elim) | skip
        exact hp E' a' w' _ u hlow hn r' hx
      | panic v =>
        simp only [h1, Option.some.injEq, Prod.mk.injEq] at e; obtain ⟨rfl, rfl⟩ := e
        cases x' <;> first | (exact hx.elim) | skip
        exact hp E' a' w' _ u hlow hn r' hx
  | cond c c1 c2 ih1 ih2 =>
    intro s x s' hpl hok e E a w Q r hp
    simp only [codeOk, Bool.and_eq_true] at hok
    simp only [exec] at e
    split at e
    · rename_i hc
      exact wpIn_cond_true (cond_rel r.fr hc) (ih1 s x s' (hpl.imp _root_.id fun q => by simp only [plainC, Bool.and_eq_true] at q; exact q.1) hok.1 e E a w Q r hp)
    · rename_i hc
      exact wpIn_cond_false (cond_rel r.fr hc) (ih2 s x s' (hpl.imp _root_.id fun q => by simp only [plainC, Bool.and_eq_true] at q; exact q.2) hok.2 e E a w Q r hp)
    · cases e
  | block id c ih =>
    intro s x s' hpl hok e E a w Q r hp
    simp only [codeOk] at hok
    simp only [exec] at e
    refine wpIn_block ?_
    cases h1 : exec P cf F c s with
    | none => simp [h1] at e
    | some p =>
      obtain ⟨x1, s1⟩ := p
      refine ih s x1 s1 (hpl.imp _root_.id fun q => by simpa only [plainC] using q) hok h1 E a w _ r fun E' a' w' x' u hlow hn r' hx => ?_
      cases x1 with
      | normal =>
        simp only [h1, Option.some.injEq, Prod.mk.injEq] at e; obtain ⟨rfl, rfl⟩ := e
        cases x' <;> first | (exact hx.elim) | skip
        exact hp E' a' w' .normal u hlow hn r' trivial
      | exit i =>
        simp only [h1] at e
        cases x' <;> first | (exact hx.elim) | skip
        rename_i j
        have hij : i = j := hx
        subst hij
        simp only [Exit.inBlock]
        split at e
        · rename_i q
          simp only [Option.some.injEq, Prod.mk.injEq] at e; obtain ⟨rfl, rfl⟩ := e
          rw [if_pos q]; exact hp E' a' w' .normal u hlow hn r' trivial
        · rename_i q
          simp only [Option.some.injEq, Prod.mk.injEq] at e; obtain ⟨rfl, rfl⟩ := e
          rw [if_neg q]; exact hp E' a' w' (.exit i) u hlow hn r' rfl
      | ret =>
        simp only [h1, Option.some.injEq, Prod.mk.injEq] at e; obtain ⟨rfl, rfl⟩ := e
        cases x' <;> first | (exact hx.elim) | skip
        exact hp E' a' w' .ret u hlow hn r' trivial
      | panic v =>
        simp only [h1, Option.some.injEq, Prod.mk.injEq] at e; obtain ⟨rfl, rfl⟩ := e
        cases x' <;> first | (exact hx.elim) | skip
        exact hp E' a' w' (.panic _) u hlow hn r' hx
  | loop c ih =>
    intro s x s' hpl hok e E a w Q r hp
    simp only [codeOk] at hok
    simp only [exec] at e
    refine wpIn_loop_rounds F ?_
    have key : ∀ (k : Nat) (s : St), rounds (exec P cf F c) k s = some (x, s') → ∀ (E : Env) (a : Act) (w : World), SRel E N s a w → Post E N s w x s' Q → Code.roundsIn (fz rnd) 0 P c Q k a w := by
      intro k
      induction k with
      | zero => intro s e; cases e
      | succ k ihk =>
        intro s e E a w r hp
        simp only [rounds] at e
        rw [roundsIn_succ]
        cases h1 : exec P cf F c s with
        | none => simp [h1] at e
        | some p =>
          obtain ⟨x1, s1⟩ := p
          refine ih s x1 s1 (hpl.imp _root_.id fun q => by simpa only [plainC] using q) hok h1 E a w _ r fun E' a' w' x' u hlow hn r' hx => ?_
          cases x1 with
          | normal =>
            simp only [h1] at e
            cases x' <;> first | (exact hx.elim) | skip
            exact ihk s1 e E' a' w' r' (hp.after u hlow hn)
          | exit i =>
            simp only [h1, Option.some.injEq, Prod.mk.injEq] at e; obtain ⟨rfl, rfl⟩ := e
            cases x' <;> first | (exact hx.elim) | skip
            exact hp E' a' w' _ u hlow hn r' hx
          | ret =>
            simp only [h1, Option.some.injEq, Prod.mk.injEq] at e; obtain ⟨rfl, rfl⟩ := e
            cases x' <;> first | (exact hx.elim) | skip
            exact hp E' a' w' _ u hlow hn r' hx
          | panic v =>
            simp only [h1, Option.some.injEq, Prod.mk.injEq] at e; obtain ⟨rfl, rfl⟩ := e
            cases x' <;> first | (exact hx.elim) | skip
            exact hp E' a' w' _ u hlow hn r' hx
    exact key F s e E a w r hp
  | exit id =>
    intro s x s' _ _ e E a w Q r hp
    simp only [exec, Option.some.injEq, Prod.mk.injEq] at e; obtain ⟨rfl, rfl⟩ := e
    exact wpIn_exit (hp E a w (.exit id) (Upd.refl r.good) (fun _ _ => rfl) (Nat.le_refl _) r rfl)
  | ret =>
    intro s x s' _ _ e E a w Q r hp
    simp only [exec, Option.some.injEq, Prod.mk.injEq] at e; obtain ⟨rfl, rfl⟩ := e
    exact wpIn_ret (hp E a w .ret (Upd.refl r.good) (fun _ _ => rfl) (Nat.le_refl _) r trivial)
  | rangeFunc g ps assign body _ _ =>
    intro s x s' hpl hok e E a w Q r hp
    have hrn : rnd = none := by
      rcases hpl with q | q
      · exact q
      · cases q
    subst hrn
    exact range_sound hcf hok e r hp
  | scope c _ => intro s x s' _ _ e; cases e
  | label l => intro s x s' _ _ e; cases e
  | goto l => intro s x s' _ _ e; cases e
  | refuse w => intro s x s' _ _ e; cases e
def resSem (tmps : Array Value) : ResultVar → Sem Value
  | .tmp t => pure (tmps.getD t undef)
  | .cell c t => do loadVar t (← asAddr (tmps.getD c undef))
theorem results_eq (fn : Func) (tmps : Array Value) : results fn tmps = (do
    let vs ← fn.results.mapM (resSem tmps)
    pure (if h : vs.size = 1 then vs[0] else .tuple vs)) := by
  unfold results
  congr 1
theorem results_rel {E : Env} {h : Tr O} {w : World} {fr : Tr V} {a : Act} (g : Good E h w) (r : frel E fr a) : ∀ (rs : List ResultVar) (vs : List V), resultsV P fr h rs = some vs →
    ∃ vs', (rs.mapM (resSem a.tmps)).run P w = .ok vs' w ∧ vrels E vs vs'
  | [], vs, e => by simp only [resultsV, Option.some.injEq] at e; subst e; exact ⟨[], rfl, rfl⟩
  | x :: rs, vs, e => by
    simp only [resultsV] at e
    cases h1 : resultV P fr h x with
    | none => simp [h1] at e
    | some v => cases h2 : resultsV P fr h rs with
      | none => simp [h1, h2] at e
      | some us =>
        simp only [h1, h2, Option.some.injEq] at e; subst e
        obtain ⟨us', q1, q2⟩ := results_rel g r rs us h2
        have hv : ∃ v', (resSem a.tmps x).run P w = .ok v' w ∧ vrel E v v' := by
          cases x with
          | tmp t =>
            obtain ⟨v', p1, p2⟩ := r t v h1
            exact ⟨v', by simp [resSem, p1], p2⟩
          | cell c t =>
            simp only [resultV] at h1
            split at h1
            · rename_i u hu
              obtain ⟨u', p1, p2⟩ := r c u hu
              obtain ⟨b, sh, rfl, v', p3, p4⟩ := loadAt_rel (P := P) g p2 h1
              refine ⟨v', ?_, p4⟩
              simp [resSem, p1, asAddr, p3]
            · cases h1
        obtain ⟨v', p1, p2⟩ := hv
        refine ⟨v' :: us', ?_, v', us', p2, q2, rfl⟩
        rw [List.mapM_cons]
        simp only [Sem.run_bind, p1, q1, Result.andThen_ok, Sem.run_pure]
theorem run_results {E : Env} {h : Tr O} {w : World} {fr : Tr V} {a : Act} {fn : Func} {vs : List V} (g : Good E h w) (r : frel E fr a) (e : resultsV P fr h fn.results.toList = some vs) :
    ∃ v', (results fn a.tmps).run P w = .ok v' w ∧ vrel E (oneOf vs) v' := by
  obtain ⟨vs', q1, q2⟩ := results_rel (P := P) g r fn.results.toList vs e
  have hrun : (results fn a.tmps).run P w = .ok (if h : vs'.toArray.size = 1 then vs'.toArray[0] else .tuple vs'.toArray) w := by
    rw [results_eq, Array.mapM_eq_mapM_toList]
    simp only [Sem.run_bind, Sem.run_map, q1, Result.andThen_ok, Sem.run_pure]
  refine ⟨_, hrun, ?_⟩
  match vs, q2 with
  | [], q2 => simp only [vrels] at q2; subst q2; exact ⟨[], rfl, rfl⟩
  | [v], q2 =>
    obtain ⟨y, ys, p1, p2, rfl⟩ := q2
    simp only [vrels] at p2; subst p2
    exact p1
  | u :: v :: us, q2 =>
    have hl2 := vrels_length q2
    rw [dif_neg (by simp only [List.size_toArray, hl2, List.length_cons]; omega)]
    exact ⟨vs', q2, rfl⟩
end
end Go.Eng
