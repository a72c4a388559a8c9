/- The engine, part K: len, max, min, maps, iterators. No conditions: lemmas alone. -/
import Derived.Test.YtljiongmhoooiaaEngJ
namespace Go.Eng
open Go

section
variable {P : Program} {E : Env} {h : Tr O} {n : Nat} {w : World}

theorem heap_cells_getObj {b : Nat} {o : Obj} (hb : w.heap[b]? = some o) (hn : ∀ c el fz, o ≠ .cells c el fz) : (getObj b).run P w = .ok o w := by
  simp only [getObj, Sem.run, hb]

theorem heap_setObj {b : Nat} {o o' : Obj} (hb : w.heap[b]? = some o) (hn : ∀ c el fz, o ≠ .cells c el fz) : (setObj b o').run P w = .ok () { w with heap := w.heap.setIfInBounds b o' } := by
  simp only [setObj, Sem.run, hb]

theorem erels_length : ∀ {xs : List (V × V × Nat)} {ys : List MapEntry}, erels E xs ys → ys.length = xs.length
  | [], _, r => by simp only [erels] at r; subst r; rfl
  | _ :: _, _, r => by obtain ⟨y, ys, _, _, _, rs, rfl⟩ := r; simp [erels_length rs]

theorem map_get {m : Nat} {es : List (V × V × Nat)} {clock : Nat} (g : Good E h w) (hm : h.get m = some (.map es clock)) :
    ∃ b es', E.ι m = some (b, 0) ∧ w.heap[b]? = some (.map es' clock) ∧ erels E es es'.toList := by
  obtain ⟨b, s, hi, hs, es', h1, h2⟩ := g.rel m _ hm
  subst hs
  exact ⟨b, es', hi, h1, h2⟩

theorem op_len {argTypes : Array TypeId} {ty : TypeId} {args : List V} {args' : List Value} {v : V} (g : Good E h w) (ra : vrels E args args') (e : lenV P argTypes args h = some v) :
    OpOk P E h n w (do pure (.value (← Builtin.len_ argTypes ty args'.toArray))) (.val v h n) := by
  unfold lenV at e
  split at e
  · rename_i t x h1
    obtain ⟨x', _, rx, hnil, rfl⟩ := ra
    simp only [vrels] at hnil; subst hnil
    split at e
    · rename_i s hu
      simp only [Option.some.injEq] at e; subst e
      simp only [vrel] at rx; subst rx
      refine ok_same g (v' := .int .i64 s.length) ?_ rfl
      have hsz : (⟨s.toArray⟩ : ByteArray).size = s.length := by show s.toArray.size = _; simp
      simp [Builtin.len_, h1, run_und hu, goInt, hsz]
    · rename_i _ k _ hu
      simp only [Option.some.injEq] at e; subst e
      refine ok_same g (v' := .int .i64 k) ?_ rfl
      simp [Builtin.len_, h1, run_und hu, goInt]
    · rename_i a len cap esz hu
      simp only [Option.some.injEq] at e; subst e
      refine ok_same g (v' := .int .i64 len) ?_ rfl
      cases a with
      | none => obtain ⟨rfl, rfl, rfl⟩ := rx; simp [Builtin.len_, h1, run_und hu, goInt]
      | some a => obtain ⟨_, _, _, _, _, _, _, _, _, rfl⟩ := rx; simp [Builtin.len_, h1, run_und hu, goInt]
    · rename_i hu
      simp only [Option.some.injEq] at e; subst e
      simp only [vrel] at rx; subst rx
      refine ok_same g (v' := .int .i64 0) ?_ rfl
      simp [Builtin.len_, h1, run_und hu, goInt]
    · rename_i m hu
      split at e
      · rename_i es clock hm
        simp only [Option.some.injEq] at e; subst e
        obtain ⟨b, es', hi, hb, her⟩ := map_get g hm
        obtain ⟨b', hi', rfl⟩ := rx
        rw [hi] at hi'; cases hi'
        refine ok_same g (v' := .int .i64 es.length) ?_ rfl
        have hl := erels_length her
        simp only [Array.length_toList] at hl
        simp [Builtin.len_, h1, run_und hu, goInt, heap_cells_getObj (P := P) hb (by intro _ _ _ q; cases q), hl]
      · cases e
    · cases e
  · cases e

theorem maxV_rel : ∀ (xs : List V) (x v : V) (x' : Value) (xs' : List Value), vrel E x x' → vrels E xs xs' → maxV x xs = some v →
    ∃ v', (xs'.foldlM Builtin.max2 x').run P w = .ok v' w ∧ vrel E v v'
  | [], x, v, x', xs', rx, rs, e => by
    simp only [vrels] at rs; subst rs
    have : v = x := by cases x <;> simp [maxV] at e <;> exact e.symm
    subst this
    exact ⟨x', rfl, rx⟩
  | y :: ys, x, v, x', _, rx, rs, e => by
    obtain ⟨y', ys', ry, rys, rfl⟩ := rs
    cases x with
    | int k a => cases y with
      | int j b =>
        simp only [maxV] at e
        simp only [vrel] at rx ry; subst rx; subst ry
        obtain ⟨v', h1, h2⟩ := maxV_rel ys (.int k (if b > a then b else a)) v (.int k (if b > a then b else a)) ys' rfl rys e
        refine ⟨v', ?_, h2⟩
        simp only [List.foldlM_cons, Sem.run_bind, Builtin.max2, Sem.run_pure, Result.andThen_ok]
        exact h1
      | _ => simp [maxV] at e
    | _ => simp [maxV] at e

theorem minV_rel : ∀ (xs : List V) (x v : V) (x' : Value) (xs' : List Value), vrel E x x' → vrels E xs xs' → minV x xs = some v →
    ∃ v', (xs'.foldlM Builtin.min2 x').run P w = .ok v' w ∧ vrel E v v'
  | [], x, v, x', xs', rx, rs, e => by
    simp only [vrels] at rs; subst rs
    have : v = x := by cases x <;> simp [minV] at e <;> exact e.symm
    subst this
    exact ⟨x', rfl, rx⟩
  | y :: ys, x, v, x', _, rx, rs, e => by
    obtain ⟨y', ys', ry, rys, rfl⟩ := rs
    cases x with
    | int k a => cases y with
      | int j b =>
        simp only [minV] at e
        simp only [vrel] at rx ry; subst rx; subst ry
        obtain ⟨v', h1, h2⟩ := minV_rel ys (.int k (if b < a then b else a)) v (.int k (if b < a then b else a)) ys' rfl rys e
        refine ⟨v', ?_, h2⟩
        simp only [List.foldlM_cons, Sem.run_bind, Builtin.min2, Sem.run_pure, Result.andThen_ok]
        exact h1
      | _ => simp [minV] at e
    | _ => simp [minV] at e

theorem op_max {argTypes : Array TypeId} {ty : TypeId} {x v : V} {xs : List V} {args' : List Value} (g : Good E h w) (ra : vrels E (x :: xs) args') (e : maxV x xs = some v) :
    OpOk P E h n w (do pure (.value (← Builtin.max_ argTypes ty args'.toArray))) (.val v h n) := by
  obtain ⟨x', xs', rx, rxs, rfl⟩ := ra
  obtain ⟨v', h1, h2⟩ := maxV_rel (P := P) (w := w) xs x v x' xs' rx rxs e
  refine ok_same g (v' := v') ?_ h2
  simp only [Builtin.max_, Sem.run_bind, h1, Result.andThen_ok, Sem.run_pure]

theorem op_min {argTypes : Array TypeId} {ty : TypeId} {x v : V} {xs : List V} {args' : List Value} (g : Good E h w) (ra : vrels E (x :: xs) args') (e : minV x xs = some v) :
    OpOk P E h n w (do pure (.value (← Builtin.min_ argTypes ty args'.toArray))) (.val v h n) := by
  obtain ⟨x', xs', rx, rxs, rfl⟩ := ra
  obtain ⟨v', h1, h2⟩ := minV_rel (P := P) (w := w) xs x v x' xs' rx rxs e
  refine ok_same g (v' := v') ?_ h2
  simp only [Builtin.min_, Sem.run_bind, h1, Result.andThen_ok, Sem.run_pure]

/- maps -/
theorem keyEq_rel {kd : TypeDesc} {a b : V} {a' b' : Value} {r : Bool} (ra : vrel E a a') (rb : vrel E b b') (e : keyEq kd a b = some r) : Instr.sameNow kd a' b' = some r := by
  unfold keyEq at e
  split at e
  · simp only [vrel] at ra rb; subst ra; subst rb
    split at e
    · rename_i hk; simp only [Option.some.injEq] at e; subst e
      simp [Instr.sameNow, hk]
    · cases e
  · simp only [vrel] at ra rb; subst ra; subst rb
    simp only [Option.some.injEq] at e; subst e
    simp only [Instr.sameNow]
    rw [bytes_beq]
  · cases e

theorem findV_rel {kd : TypeDesc} {k : V} {k' : Value} (rk : vrel E k k') : ∀ (es : List (V × V × Nat)) (es' : List MapEntry) (i : Nat) (r : Option (Nat × V × V × Nat)), erels E es es' → findV kd k es i = some r →
    match r with
    | none => Instr.findNow kd k' es' i = some none
    | some (j, e) => ∃ e', i ≤ j ∧ es[j - i]? = some e ∧ es'[j - i]? = some e' ∧ keyEq kd k e.1 = some true ∧ vrel E e.1 e'.key ∧ vrel E e.2.1 e'.val ∧ e'.born = e.2.2 ∧ Instr.findNow kd k' es' i = some (some (j, e'.val))
  | [], es', i, r, rs, e => by
    simp only [erels] at rs; subst rs
    simp only [findV, Option.some.injEq] at e; subst e
    simp [Instr.findNow]
  | x :: xs, _, i, r, rs, e => by
    obtain ⟨y, ys, r1, r2, r3, rs, rfl⟩ := rs
    simp only [findV] at e
    cases hk : keyEq kd k x.1 with
    | none => simp [hk] at e
    | some b =>
      have hs := keyEq_rel rk r1 hk
      cases b with
      | true =>
        simp only [hk, Option.some.injEq] at e; subst e
        exact ⟨y, Nat.le_refl _, by simp, by simp, hk, r1, r2, r3, by simp [Instr.findNow, hs]⟩
      | false =>
        simp only [hk] at e
        have ih := findV_rel rk xs ys (i + 1) r rs e
        cases r with
        | none => simp only at ih ⊢; simp [Instr.findNow, hs, ih]
        | some q =>
          obtain ⟨j, e0⟩ := q
          obtain ⟨e', a1, a2, a3, a4, a5, a6, a7, a8⟩ := ih
          have hj : j - i = (j - (i + 1)) + 1 := by omega
          exact ⟨e', by omega, by rw [hj]; simpa using a2, by rw [hj]; simpa using a3, a4, a5, a6, a7, by simp [Instr.findNow, hs, a8]⟩

theorem run_findKey {kt : TypeId} {kd : TypeDesc} {k' : Value} {es' : List MapEntry} {r : Option (Nat × Value)} (hu : P.underlying kt = some kd) (e : Instr.findNow kd k' es' 0 = some r) :
    (Instr.findKey kt k' es').run P w = .ok r w := by
  simp [Instr.findKey, run_und hu, e]

theorem run_checkKey' {kt : TypeId} {kd : TypeDesc} {k : V} {k' : Value} {b : Bool} (d : Nat) (hu : P.underlying kt = some kd) (rk : vrel E k k') (e : keyOk kd k = true) : (Instr.checkKey b (d + 1) kt k').run P w = .ok () w := by
  unfold keyOk at e
  split at e
  · simp only [vrel] at rk; subst rk
    simp only [Instr.checkKey, Sem.run_bind, run_und hu, Result.andThen_ok]; rfl
  · simp only [vrel] at rk; subst rk
    simp only [Instr.checkKey, Sem.run_bind, run_und hu, Result.andThen_ok]; rfl
  · cases e
theorem run_checkKey {kt : TypeId} {kd : TypeDesc} {k : V} {k' : Value} {b : Bool} (hu : P.underlying kt = some kd) (rk : vrel E k k') (e : keyOk kd k = true) : (Instr.checkKey b 10000 kt k').run P w = .ok () w :=
  run_checkKey' 9999 hu rk e

theorem op_lookup {t : TypeId} {x k v : V} {ok : Bool} {x' k' : Value} (g : Good E h w) (rx : vrel E x x') (rk : vrel E k k') (e : lookupV P t h x k ok = some v) :
    OpOk P E h n w (do pure (.value (← Instr.lookup t x' k' ok))) (.val v h n) := by
  unfold lookupV at e
  split at e
  · rename_i kt et hu
    split at e
    · rename_i kd z hk hz
      split at e
      · rename_i hko
        obtain ⟨z', hz1, hz2, _⟩ := run_zero (w := w) E hz
        -- the entries
        have main : ∀ (es : List (V × V × Nat)) (es' : Array MapEntry), erels E es es'.toList → (match findV kd k es 0 with
            | some (some (_, _, v, _)) => some (if ok then V.tup [v, .bool true] else v)
            | some none => some (if ok then V.tup [z, .bool false] else z)
            | none => none) = some v →
            ((Instr.findKey kt k' es'.toList).run P w = .ok none w ∧ vrel E v (if ok then .tuple #[z', .bool false] else z')) ∨
            ∃ j v', (Instr.findKey kt k' es'.toList).run P w = .ok (some (j, v')) w ∧ vrel E v (if ok then .tuple #[v', .bool true] else v') := by
          intro es es' her e
          cases hf : findV kd k es 0 with
          | none => simp [hf] at e
          | some r =>
            have hr := findV_rel rk es es'.toList 0 r her hf
            cases r with
            | none =>
              simp only [hf, Option.some.injEq] at e; subst e
              refine .inl ⟨run_findKey hk hr, ?_⟩
              cases ok with
              | true => exact ⟨[z', .bool false], ⟨z', _, hz2, ⟨.bool false, [], rfl, rfl, rfl⟩, rfl⟩, rfl⟩
              | false => exact hz2
            | some q =>
              obtain ⟨j, k0, v0, n0⟩ := q
              simp only [hf, Option.some.injEq] at e; subst e
              obtain ⟨e', _, _, _, _, _, a6, _, a8⟩ := hr
              refine .inr ⟨j, e'.val, run_findKey hk a8, ?_⟩
              cases ok with
              | true => exact ⟨[e'.val, .bool true], ⟨e'.val, _, a6, ⟨.bool true, [], rfl, rfl, rfl⟩, rfl⟩, rfl⟩
              | false => exact a6
        cases x with
        | map m =>
          cases m with
          | none =>
            simp only at e
            simp only [vrel] at rx; subst rx
            rcases main [] #[] (by simp [erels]) e with ⟨m1, m3⟩ | ⟨j, v', m1, m3⟩
            · refine ok_same g ?_ m3
              simp only [Instr.lookup, Sem.run_bind, run_und hu, Result.andThen_ok, Sem.run_pure, run_checkKey (b := (#[] : Array MapEntry).isEmpty) hk rk hko, m1, hz1]
            · refine ok_same g ?_ m3
              simp only [Instr.lookup, Sem.run_bind, run_und hu, Result.andThen_ok, Sem.run_pure, run_checkKey (b := (#[] : Array MapEntry).isEmpty) hk rk hko, m1]
          | some m =>
            simp only at e
            cases hm : h.get m with
            | none => simp [hm] at e
            | some o =>
              cases o with
              | map es clock =>
                simp only [hm] at e
                obtain ⟨b, es', hi, hb, her⟩ := map_get g hm
                obtain ⟨b', hi', rfl⟩ := rx
                rw [hi] at hi'; cases hi'
                have hgo := heap_cells_getObj (P := P) hb (by intro _ _ _ q; cases q)
                rcases main es es' her e with ⟨m1, m3⟩ | ⟨j, v', m1, m3⟩
                · refine ok_same g ?_ m3
                  simp only [Instr.lookup, Sem.run_bind, run_und hu, Result.andThen_ok, Sem.run_pure, hgo, run_checkKey (b := es'.isEmpty) hk rk hko, m1, hz1]
                · refine ok_same g ?_ m3
                  simp only [Instr.lookup, Sem.run_bind, run_und hu, Result.andThen_ok, Sem.run_pure, hgo, run_checkKey (b := es'.isEmpty) hk rk hko, m1]
              | _ => simp [hm] at e
        | _ => simp at e
      · cases e
    · cases e
  · cases e

theorem erels_setNth {f : V × V × Nat → V × V × Nat} {f' : MapEntry → MapEntry} (hf : ∀ x y, vrel E x.1 y.key → vrel E x.2.1 y.val → y.born = x.2.2 → vrel E (f x).1 (f' y).key ∧ vrel E (f x).2.1 (f' y).val ∧ (f' y).born = (f x).2.2) :
    ∀ (xs : List (V × V × Nat)) (ys : List MapEntry) (i : Nat), erels E xs ys → erels E (setNth xs i f) (ys.modify i f')
  | [], _, i, r => by simp only [erels] at r; subst r; simp [setNth, erels]
  | x :: xs, _, i, r => by
    obtain ⟨y, ys, a, b, c, rs, rfl⟩ := r
    cases i with
    | zero => obtain ⟨p, q, s⟩ := hf x y a b c; exact ⟨f' y, ys, p, q, s, rs, by simp⟩
    | succ i => exact ⟨y, _, a, b, c, erels_setNth hf xs ys i rs, by simp⟩

theorem erels_push : ∀ (xs : List (V × V × Nat)) (ys : List MapEntry) (x : V × V × Nat) (y : MapEntry), erels E xs ys → vrel E x.1 y.key → vrel E x.2.1 y.val → y.born = x.2.2 → erels E (xs ++ [x]) (ys ++ [y])
  | [], _, x, y, r, a, b, c => by simp only [erels] at r; subst r; exact ⟨y, [], a, b, c, rfl, rfl⟩
  | z :: zs, _, x, y, r, a, b, c => by
    obtain ⟨y0, ys, a0, b0, c0, rs, rfl⟩ := r
    exact ⟨y0, _, a0, b0, c0, erels_push zs ys x y rs a b c, rfl⟩

/-- a map is written -/
theorem map_upd {m b clock clock' : Nat} {es es2 : List (V × V × Nat)} {es' es2' : Array MapEntry} (g : Good E h w) (htop : m < top) (hm : h.get m = some (.map es clock)) (hi : E.ι m = some (b, 0)) (hb : w.heap[b]? = some (.map es' clock))
    (her : erels E es2 es2'.toList) : Upd E h w E (h.set m (some (.map es2 clock'))) { w with heap := w.heap.setIfInBounds b (.map es2' clock') } := by
  have hlt : b < w.heap.size := (Array.getElem?_eq_some_iff.1 hb).1
  refine Upd.write g htop (by rw [hm]; simp) hi (by simp) rfl rfl rfl (fun x hx => ?_) ⟨rfl, es2', ?_, her⟩
  · simp [Ne.symm hx]
  · simp [hlt]

theorem keyStays {kd : TypeDesc} {a b : V} {a' b' : Value} (ra : vrel E a a') (rb : vrel E b b') (e : keyEq kd a b = some true) : (Instr.keyThatStays b' a').run P w = .ok a' w := by
  have : Instr.sameBits 10000 b' a' = true := by
    unfold keyEq at e
    split at e
    · simp only [vrel] at ra rb; subst ra; subst rb
      split at e
      · rename_i hk; simp only [Option.some.injEq, beq_iff_eq] at e
        simp [Instr.sameBits, hk, e]
      · cases e
    · simp only [vrel] at ra rb; subst ra; subst rb
      simp only [Option.some.injEq] at e
      simp only [Instr.sameBits]
      rw [beqB_eq] at e
      have hab : _ = _ := eq_of_beq e
      subst hab
      rw [bytes_beq, beqB_eq]; simp
    · cases e
  simp [Instr.keyThatStays, this]

theorem op_mapUpdate {t : TypeId} {m k v : V} {m' k' v' : Value} {r : R} (g : Good E h w) (rm : vrel E m m') (rk : vrel E k k') (rv : vrel E v v') (e : mapUpdateV P t h n m k v = some r) :
    OpOk P E h n w (do Instr.mapUpdate t m' k' v'; pure .skip) r := by
  unfold mapUpdateV at e
  split at e
  · rename_i kt et m hu
    split at e
    · rename_i kd es clock hk hm
      obtain ⟨b, es', hi, hb, her⟩ := map_get g hm
      obtain ⟨b', hi', rfl⟩ := rm
      rw [hi] at hi'; cases hi'
      have hgo := heap_cells_getObj (P := P) hb (by intro _ _ _ q; cases q)
      have hset : ∀ o', (setObj b o').run P w = .ok () { w with heap := w.heap.setIfInBounds b o' } := fun o' => heap_setObj (P := P) hb (by intro _ _ _ q; cases q)
      split at e
      · rename_i hq
        obtain ⟨hko, htop⟩ := hq
        have hck := run_checkKey (P := P) (w := w) (b := false) hk rk hko
        cases hf : findV kd k es 0 with
        | none => simp [hf] at e
        | some q =>
          have hr := findV_rel rk es es'.toList 0 q her hf
          cases q with
          | none =>
            simp only [hf, Option.some.injEq] at e; subst e
            have hu' := map_upd (clock' := clock + 1) (es2 := es ++ [(k, v, clock)]) (es2' := es'.push { key := k', val := v', born := clock }) g htop hm hi hb (by
              rw [Array.toList_push]; exact erels_push es es'.toList (k, v, clock) { key := k', val := v', born := clock } her rk rv rfl)
            refine ⟨E, _, undef, .inr ⟨?_, rfl⟩, ⟨[], rfl, rfl⟩, hu', fun _ _ => rfl, .inl ⟨rfl, rfl⟩⟩
            simp only [Instr.mapUpdate, Sem.run_bind, run_und hu, Result.andThen_ok, hgo, hck, run_findKey hk hr, hset, Sem.run_pure]
          | some q =>
            obtain ⟨j, e0⟩ := q
            simp only [hf, Option.some.injEq] at e; subst e
            obtain ⟨e', a1, a2, a3, a4, a5, a6, a7, a8⟩ := hr
            simp only [Nat.sub_zero] at a2 a3
            have hkey : ((es'[j]?).map (·.key)).getD k' = e'.key := by rw [← Array.getElem?_toList, a3]; rfl
            have hst := keyStays (P := P) (w := w) rk a5 a4
            have hu' := map_upd (clock' := clock) (es2 := setNth es j fun e => (k, v, e.2.2)) (es2' := es'.modify j fun e => { e with key := k', val := v' }) g htop hm hi hb (by
              rw [Array.toList_modify]
              exact erels_setNth (f := fun e => (k, v, e.2.2)) (f' := fun e => { e with key := k', val := v' }) (fun x y p q s => ⟨rk, rv, s⟩) es es'.toList j her)
            refine ⟨E, _, undef, .inr ⟨?_, rfl⟩, ⟨[], rfl, rfl⟩, hu', fun _ _ => rfl, .inl ⟨rfl, rfl⟩⟩
            simp only [Instr.mapUpdate, Sem.run_bind, run_und hu, Result.andThen_ok, hgo, hck, run_findKey hk a8, hkey, hst, hset, Sem.run_pure]
      · cases e
    · cases e
  · cases e

theorem op_mapEntry {t : TypeId} {m k : V} {m' k' : Value} {r : R} (g : Good E h w) (rm : vrel E m m') (rk : vrel E k k') (e : mapEntryV P t h n m k = some r) :
    OpOk P E h n w (do pure (.value (← Instr.mapEntry t m' k'))) r := by
  unfold mapEntryV at e
  split at e
  · rename_i kt et m hu
    split at e
    · rename_i kd es clock z hk hm hz
      obtain ⟨b, es', hi, hb, her⟩ := map_get g hm
      obtain ⟨b', hi', rfl⟩ := rm
      rw [hi] at hi'; cases hi'
      have hgo := heap_cells_getObj (P := P) hb (by intro _ _ _ q; cases q)
      have hset : ∀ o', (setObj b o').run P w = .ok () { w with heap := w.heap.setIfInBounds b o' } := fun o' => heap_setObj (P := P) hb (by intro _ _ _ q; cases q)
      obtain ⟨z', hz1, hz2, _⟩ := run_zero (w := w) E hz
      split at e
      · rename_i hq
        obtain ⟨hko, htop⟩ := hq
        have hck := run_checkKey (P := P) (w := w) (b := false) hk rk hko
        cases hf : findV kd k es 0 with
        | none => simp [hf] at e
        | some q =>
          have hr := findV_rel rk es es'.toList 0 q her hf
          cases q with
          | none =>
            simp only [hf, Option.some.injEq] at e; subst e
            have hu' := map_upd (clock' := clock + 1) (es2 := es ++ [(k, z, clock)]) (es2' := es'.push { key := k', val := z', born := clock }) g htop hm hi hb (by
              rw [Array.toList_push]; exact erels_push es es'.toList (k, z, clock) { key := k', val := z', born := clock } her rk hz2 rfl)
            refine ⟨E, _, .tuple #[z', .int .i64 clock], .inl ?_, ⟨[z', .int .i64 clock], ⟨z', _, hz2, ⟨.int .i64 clock, [], rfl, rfl, rfl⟩, rfl⟩, rfl⟩, hu', fun _ _ => rfl, .inl ⟨rfl, rfl⟩⟩
            simp only [Instr.mapEntry, Sem.run_bind, run_und hu, Result.andThen_ok, hgo, hck, run_findKey hk hr, hz1, hset, Sem.run_pure, goInt]
          | some q =>
            obtain ⟨j, e0⟩ := q
            simp only [hf, Option.some.injEq] at e; subst e
            obtain ⟨e', a1, a2, a3, a4, a5, a6, a7, a8⟩ := hr
            simp only [Nat.sub_zero] at a2 a3
            have hkey : ((es'[j]?).map (·.key)).getD k' = e'.key := by rw [← Array.getElem?_toList, a3]; rfl
            have hborn : (Option.map (fun x => (x.born : Int)) es'[j]?).getD 0 = (e0.2.2 : Int) := by rw [← Array.getElem?_toList, a3]; exact congrArg _ a7
            have hst := keyStays (P := P) (w := w) rk a5 a4
            have hu' := map_upd (clock' := clock) (es2 := setNth es j fun e => (k, e.2.1, e.2.2)) (es2' := es'.modify j fun e => { e with key := k' }) g htop hm hi hb (by
              rw [Array.toList_modify]
              exact erels_setNth (f := fun e => (k, e.2.1, e.2.2)) (f' := fun e => { e with key := k' }) (fun x y p q s => ⟨rk, q, s⟩) es es'.toList j her)
            refine ⟨E, _, .tuple #[e'.val, .int .i64 e0.2.2], .inl ?_, ⟨[e'.val, .int .i64 e0.2.2], ⟨e'.val, _, a6, ⟨.int .i64 e0.2.2, [], rfl, rfl, rfl⟩, rfl⟩, rfl⟩, hu', fun _ _ => rfl, .inl ⟨rfl, rfl⟩⟩
            simp only [Instr.mapEntry, Sem.run_bind, run_und hu, Result.andThen_ok, hgo, hck, run_findKey hk a8, hkey, hborn, hst, hset, Sem.run_pure, goInt]
      · cases e
    · cases e
  · cases e

theorem bornAt_rel {b : Int} : ∀ (xs : List (V × V × Nat)) (ys : List MapEntry) (i j : Nat), erels E xs ys → bornAt b xs i = some j → i ≤ j ∧ ys.findIdx? (fun e => (e.born : Int) == b) = some (j - i)
  | [], _, i, j, r, e => by simp [bornAt] at e
  | x :: xs, _, i, j, r, e => by
    obtain ⟨y, ys, _, _, c, rs, rfl⟩ := r
    simp only [bornAt] at e
    split at e
    · rename_i hb
      simp only [Option.some.injEq] at e; subst e
      refine ⟨Nat.le_refl _, ?_⟩
      rw [List.findIdx?_cons, if_pos (by rw [c]; exact hb)]
      simp
    · rename_i hb
      obtain ⟨h1, h2⟩ := bornAt_rel xs ys (i + 1) j rs e
      refine ⟨by omega, ?_⟩
      rw [List.findIdx?_cons, if_neg (by rw [c]; exact hb), h2]
      simp; omega

theorem op_entryStore {t : TypeId} {m s v : V} {m' s' v' : Value} {r : R} (g : Good E h w) (rm : vrel E m m') (rs : vrel E s s') (rv : vrel E v v') (e : entryStoreV h n m s v = some r) :
    OpOk P E h n w (do Instr.entryStore t m' s' v'; pure .skip) r := by
  unfold entryStoreV at e
  split at e
  · rename_i m k b0
    simp only [vrel] at rs; subst rs
    split at e
    · rename_i es clock hm
      obtain ⟨b, es', hi, hb, her⟩ := map_get g hm
      obtain ⟨b', hi', rfl⟩ := rm
      rw [hi] at hi'; cases hi'
      have hgo := heap_cells_getObj (P := P) hb (by intro _ _ _ q; cases q)
      have hset : ∀ o', (setObj b o').run P w = .ok () { w with heap := w.heap.setIfInBounds b o' } := fun o' => heap_setObj (P := P) hb (by intro _ _ _ q; cases q)
      split at e
      · rename_i htop
        cases hf : bornAt b0 es 0 with
        | none => simp [hf] at e
        | some j =>
          simp only [hf, Option.some.injEq] at e; subst e
          obtain ⟨_, h2⟩ := bornAt_rel es es'.toList 0 j her hf
          have h3 : es'.findIdx? (fun e => (e.born : Int) == b0) = some j := by
            have q := List.findIdx?_toArray (fun (e : MapEntry) => (e.born : Int) == b0) es'.toList
            rw [Array.toArray_toList] at q
            rw [q]; simpa using h2
          have hu' := map_upd (clock' := clock) (es2 := setNth es j fun e => (e.1, v, e.2.2)) (es2' := es'.modify j fun e => { e with val := v' }) g htop hm hi hb (by
            rw [Array.toList_modify]
            exact erels_setNth (f := fun e => (e.1, v, e.2.2)) (f' := fun e => { e with val := v' }) (fun x y p q s => ⟨p, rv, s⟩) es es'.toList j her)
          refine ⟨E, _, undef, .inr ⟨?_, rfl⟩, ⟨[], rfl, rfl⟩, hu', fun _ _ => rfl, .inl ⟨rfl, rfl⟩⟩
          simp only [Instr.entryStore, Sem.run_bind, hgo, Result.andThen_ok, asInt, asIntOf, Sem.run_pure, h3, hset]
      · cases e
    · cases e
  · cases e

/-- a new object that is no row -/
theorem ok_newOther {h' : Tr O} {n' : Nat} {s : Sem Next} {o : O} {ob : Obj} {v : V} {v' : Value} (g : Good E h w) (hn : E.ι n = none) (e : newObj h n o = some (h', n'))
    (ho : ∀ E1 w1, w1.heap[w.heap.size]? = some ob → orel E1 w1 w.heap.size 0 o) (hr : s.run P w = .ok (.value v') (w.alloc ob)) (hv : vrel (E.put n w.heap.size 0 (sizeOfObj ob)) v v') : OpOk P E h n w s (.val v h' n') := by
  obtain ⟨htop, rfl, rfl⟩ := newObj_eq e
  exact ⟨_, _, v', .inl hr, hv, Upd.alloc g hn htop (ho _ _ heap_alloc_new), fun m hm => Env.put_ne hm, .inr rfl⟩

theorem op_makeMap {t : TypeId} {h' : Tr O} {n' : Nat} (g : Good E h w) (hn : E.ι n = none) (e : newObj h n (.map [] 0) = some (h', n')) :
    OpOk P E h n w (do pure (.value (← Instr.makeMap t none))) (.val (.map (some n)) h' n') := by
  refine ok_newOther (ob := .map #[] 0) (v' := .map (some w.heap.size)) g hn e (fun E1 w1 q => ⟨rfl, #[], q, by simp [erels]⟩) ?_ ⟨w.heap.size, Env.put_same, rfl⟩
  simp [Instr.makeMap]

theorem op_range {t : TypeId} {x : V} {x' : Value} {r : R} (g : Good E h w) (hn : E.ι n = none) (rx : vrel E x x') (e : rangeV P t x h n = some r) :
    OpOk P E h n w (do pure (.value (← Instr.range t x'))) r := by
  unfold rangeV at e
  split at e
  · rename_i s hu
    simp only [vrel] at rx; subst rx
    cases ho : newObj h n (.siter s 0) with
    | none => simp [ho] at e
    | some p =>
      obtain ⟨h', n'⟩ := p
      simp only [ho, Option.some.injEq] at e; subst e
      refine ok_newOther (ob := .stringIter ⟨s.toArray⟩ 0) (v' := .pointer (some ⟨w.heap.size, 0, none⟩)) g hn ho (fun E1 w1 q => ⟨rfl, q⟩) ?_ ⟨w.heap.size, 0, Env.put_same, by simp⟩
      simp [Instr.range, run_und hu]
  · cases e

theorem op_next {x : V} {b : Bool} {t : TypeId} {x' : Value} {r : R} (g : Good E h w) (rx : vrel E x x') (e : nextV x b h n = some r) :
    OpOk P E h n w (do pure (.value (← Instr.next x' b t))) r := by
  unfold nextV at e
  split at e
  · rename_i m
    obtain ⟨b0, s0, hi, rfl⟩ := rx
    split at e
    · rename_i s pos hm
      obtain ⟨b1, s1, hi1, hs1, hb⟩ := g.rel m _ hm
      rw [hi] at hi1; cases hi1
      subst hs1
      have hgo := heap_cells_getObj (P := P) hb (by intro _ _ _ q; cases q)
      have hset : ∀ o', (setObj b0 o').run P w = .ok () { w with heap := w.heap.setIfInBounds b0 o' } := fun o' => heap_setObj (P := P) hb (by intro _ _ _ q; cases q)
      have hlt : b0 < w.heap.size := (Array.getElem?_eq_some_iff.1 hb).1
      have hsz : (⟨s.toArray⟩ : ByteArray).size = s.length := by show s.toArray.size = _; simp
      split at e
      · rename_i hp
        simp only at e
        split at e
        · rename_i htop
          simp only [Option.some.injEq] at e; subst e
          have hu' : Upd E h w E (h.set m (some (.siter s (pos + (Utf8.decode ⟨s.toArray⟩ pos).2)))) { w with heap := w.heap.setIfInBounds b0 (.stringIter ⟨s.toArray⟩ (pos + (Utf8.decode ⟨s.toArray⟩ pos).2)) } := by
            refine Upd.write g htop (by rw [hm]; simp) hi (by simp) rfl rfl rfl (fun x hx => ?_) ⟨rfl, ?_⟩
            · simp [Ne.symm hx]
            · simp [hlt]
          refine ⟨E, _, .tuple #[.bool true, .int .i64 pos, .int .i32 (Utf8.decode ⟨s.toArray⟩ pos).1], .inl ?_, ⟨[.bool true, .int .i64 pos, .int .i32 (Utf8.decode ⟨s.toArray⟩ pos).1], ⟨_, _, rfl, ⟨_, _, rfl, ⟨_, _, rfl, rfl, rfl⟩, rfl⟩, rfl⟩, rfl⟩, hu', fun _ _ => rfl, .inl ⟨rfl, rfl⟩⟩
          simp [Instr.next, hgo, hsz, hp, hset, goInt]
        · cases e
      · rename_i hp
        simp only [Option.some.injEq] at e; subst e
        refine ok_same g (v' := .tuple #[.bool false]) ?_ ⟨[.bool false], ⟨_, _, rfl, rfl, rfl⟩, rfl⟩
        simp [Instr.next, hgo, hsz, hp]
    · cases e
  · cases e
end
end Go.Eng
