/- The engine, part H: slices, conversions, maps, iterators. No conditions: lemmas alone. -/
import Derived.Test.YtljiongmhoooiaaEngG
namespace Go.Eng
open Go

def optrel (E : Env) : Option V → Option Value → Prop
  | none, y => y = none
  | some x, y => ∃ y', vrel E x y' ∧ y = some y'

section
variable {P : Program} {E : Env} {h : Tr O} {n : Nat} {w : World}

theorem bound_rel {d y r : Nat} {x : V} {x' : Value} {c : BoundsCode} (e : boundV d y (some x) = some r) (rx : vrel E x x') :
    (Instr.sliceBound x' y c).run P w = .ok r w ∧ r ≤ y := by
  unfold boundV at e
  split at e
  · rename_i q; cases q
  · rename_i k i q
    cases q
    simp only [vrel] at rx; subst rx
    split at e
    · rename_i hb
      simp only [Option.some.injEq] at e; subst e
      refine ⟨?_, by omega⟩
      simp [Instr.sliceBound, asIntOf, hb.1, hb.2]
    · cases e
  · cases e

theorem bounds_rel {isS : Bool} {len cap l hh m : Nat} {lo hi mx : Option V} {lo' hi' mx' : Option Value} (rl : optrel E lo lo') (rh : optrel E hi hi') (rm : optrel E mx mx')
    (hmh : mx = none ∨ hi ≠ none) (e1 : boundV cap cap mx = some m) (e2 : boundV len m hi = some hh) (e3 : boundV 0 hh lo = some l) (hlen : len ≤ cap) :
    (Instr.sliceBounds isS len cap lo' hi' mx').run P w = .ok (l, hh, m) w ∧ l ≤ hh ∧ hh ≤ m ∧ m ≤ cap := by
  have low : ∀ c, ((match lo' with | some v => Instr.sliceBound v hh c | none => pure 0) : Sem Nat).run P w = .ok l w ∧ l ≤ hh := by
    intro c
    cases lo with
    | none => simp only [optrel] at rl; subst rl; simp only [boundV, Option.some.injEq] at e3; subst e3; exact ⟨rfl, Nat.zero_le _⟩
    | some x => obtain ⟨x', rx, rfl⟩ := rl; exact bound_rel e3 rx
  cases mx with
  | none =>
    simp only [optrel] at rm; subst rm
    simp only [boundV, Option.some.injEq] at e1; subst e1
    cases hi with
    | none =>
      simp only [optrel] at rh; subst rh
      simp only [boundV, Option.some.injEq] at e2; subst e2
      obtain ⟨h1, h2⟩ := low .sliceB
      refine ⟨?_, h2, hlen, Nat.le_refl _⟩
      cases lo' <;> simp_all [Instr.sliceBounds]
    | some x =>
      obtain ⟨x', rx, rfl⟩ := rh
      obtain ⟨p1, p2⟩ := bound_rel (P := P) (w := w) (c := if isS then .sliceAcap else .sliceAlen) e2 rx
      obtain ⟨h1, h2⟩ := low .sliceB
      refine ⟨?_, h2, p2, Nat.le_refl _⟩
      cases lo' <;> simp_all [Instr.sliceBounds]
  | some y =>
    obtain ⟨y', ry, rfl⟩ := rm
    obtain ⟨p1, p2⟩ := bound_rel (P := P) (w := w) (c := if isS then .slice3Acap else .slice3Alen) e1 ry
    cases hi with
    | none => rcases hmh with q | q <;> simp at q
    | some x =>
      obtain ⟨x', rx, rfl⟩ := rh
      obtain ⟨q1, q2⟩ := bound_rel (P := P) (w := w) (c := .slice3B) e2 rx
      obtain ⟨h1, h2⟩ := low .slice3C
      refine ⟨?_, h2, q2, p2⟩
      cases lo' <;> simp_all [Instr.sliceBounds]

theorem take_extract (s : List UInt8) (l hh : Nat) : (⟨s.toArray⟩ : ByteArray).extract l hh = ⟨((s.take hh).drop l).toArray⟩ := by
  apply ByteArray.ext
  simp [List.extract_eq_take_drop, List.drop_take]

theorem op_slice {t : TypeId} {x v : V} {x' : Value} {lo hi mx : Option V} {lo' hi' mx' : Option Value} (g : Good E h w) (r : vrel E x x') (rl : optrel E lo lo') (rh : optrel E hi hi') (rm : optrel E mx mx')
    (e : sliceV P t h x lo hi mx = some v) : OpOk P E h n w (do pure (.value (← Instr.sliceAt t x' lo' hi' mx'))) (.val v h n) := by
  unfold sliceV at e
  split at e
  · cases e
  · rename_i hmh0
    have hmh : mx = none ∨ hi ≠ none := by
      cases mx with
      | none => exact .inl rfl
      | some _ => cases hi with
        | none => simp at hmh0
        | some _ => exact .inr (by simp)
    clear hmh0
    split at e
    · rename_i s hu
      cases mx with
      | some _ => simp at e
      | none =>
        simp only [optrel] at rm; subst rm
        simp only at e
        simp only [vrel] at r; subst r
        cases h2 : boundV s.length s.length hi with
        | none => simp [h2] at e
        | some hh =>
          simp only [h2] at e
          cases h3 : boundV 0 hh lo with
          | none => simp [h3] at e
          | some l =>
            simp only [h3, Option.some.injEq] at e; subst e
            have hsz : (⟨s.toArray⟩ : ByteArray).size = s.length := by show s.toArray.size = _; simp
            obtain ⟨q, q1, q2, _⟩ := bounds_rel (P := P) (w := w) (isS := false) (len := s.length) (cap := s.length) (mx := none) (mx' := none) rl rh rfl (.inl rfl) rfl h2 h3 (Nat.le_refl _)
            refine ok_same g (v' := .string ⟨((s.take hh).drop l).toArray⟩) ?_ rfl
            simp only [Sem.run_bind, Instr.sliceAt, run_und hu, Result.andThen_ok, Instr.slice, Option.isSome_none, Bool.false_eq_true, if_false, hsz, q, Sem.run_pure, take_extract s l hh]
    · rename_i el a len cap esz hu
      split at e
      · rename_i s hs
        split at e
        · rename_i hse
          cases h1 : boundV cap cap mx with
          | none => simp [h1] at e
          | some m =>
            simp only [h1] at e
            cases h2 : boundV len m hi with
            | none => simp [h2] at e
            | some hh =>
              simp only [h2] at e
              cases h3 : boundV 0 hh lo with
              | none => simp [h3] at e
              | some l =>
                simp only [h3, Option.some.injEq] at e; subst e
                cases a with
                | none =>
                  obtain ⟨rfl, rfl, rfl⟩ := r
                  obtain ⟨q, q1, q2, q3⟩ := bounds_rel (P := P) (w := w) (isS := true) rl rh rm hmh h1 h2 h3 (Nat.le_refl _)
                  have hm : m = 0 := by omega
                  have hh0 : hh = 0 := by omega
                  have hl0 : l = 0 := by omega
                  subst hm; subst hh0; subst hl0
                  refine ok_same g (v' := .slice none 0 0) ?_ ⟨rfl, rfl, rfl⟩
                  simp only [Sem.run_bind, Instr.sliceAt, run_und hu, Result.andThen_ok, Instr.slice, q, run_sizeOf' hs, Sem.run_pure]
                  rfl
                | some a =>
                  obtain ⟨bm, o⟩ := a
                  have hse : s = esz := by rcases hse with q | q; · exact q
                                           · cases q
                  subst hse
                  obtain ⟨b, sh, o', cap', hi', c1, c2, c3, c4, rfl⟩ := r
                  cases mx with
                  | none =>
                    simp only [optrel] at rm; subst rm
                    simp only [boundV, Option.some.injEq] at h1; subst h1
                    -- the capacity that is there may be greater than the one that is known
                    have h2' : boundV len cap' hi = some hh := by
                      cases hi with
                      | none => exact h2
                      | some y =>
                        unfold boundV at h2 ⊢
                        split at h2
                        · rename_i q; cases q
                        · rename_i k i q; cases q
                          split at h2
                          · rename_i hb; rw [if_pos ⟨hb.1, by omega⟩]; exact h2
                          · cases h2
                        · cases h2
                    obtain ⟨q, q1, q2, q3⟩ := bounds_rel (P := P) (w := w) (isS := true) (mx := none) (mx' := none) (cap := cap') rl rh rfl (.inl rfl) rfl h2' h3 (by omega)
                    have hhc : hh ≤ cap := by
                      cases hi with
                      | none => simp only [boundV, Option.some.injEq] at h2; omega
                      | some y =>
                        unfold boundV at h2
                        split at h2
                        · rename_i q; cases q
                        · rename_i k i q; cases q
                          split at h2
                          · rename_i hb; simp only [Option.some.injEq] at h2; omega
                          · cases h2
                        · cases h2
                    refine ok_same g (v' := .slice (if cap' = l then some ⟨b, o', none⟩ else some ⟨b, o' + l * s, none⟩) (hh - l) (cap' - l)) ?_ ?_
                    · simp only [Sem.run_bind, Instr.sliceAt, run_und hu, Result.andThen_ok, Instr.slice, q, run_sizeOf' hs, Sem.run_pure, Option.map_some, Addr.add_none]
                    · by_cases hcl : cap' = l
                      · rw [if_pos hcl]
                        refine ⟨b, sh, o', cap' - l, hi', fun q => by omega, by omega, by omega, ?_, rfl⟩
                        rw [hcl]; simp; omega
                      · rw [if_neg hcl]
                        refine ⟨b, sh, o' + l * s, cap' - l, hi', fun q => ?_, by omega, by omega, ?_, rfl⟩
                        · rw [c1 (by omega)]; omega
                        · have hm : l * s + (cap' - l) * s = cap' * s := by rw [← Nat.add_mul]; congr 1; omega
                          omega
                  | some y =>
                    obtain ⟨y', ry, rfl⟩ := rm
                    have h1' : boundV cap' cap' (some y) = some m := by
                      unfold boundV at h1 ⊢
                      split at h1
                      · rename_i q; cases q
                      · rename_i k i q; cases q
                        split at h1
                        · rename_i hb; rw [if_pos ⟨hb.1, by omega⟩]; exact h1
                        · cases h1
                      · cases h1
                    have hmc : m ≤ cap := by
                      unfold boundV at h1
                      split at h1
                      · rename_i q; cases q
                      · rename_i k i q; cases q
                        split at h1
                        · rename_i hb; simp only [Option.some.injEq] at h1; omega
                        · cases h1
                      · cases h1
                    obtain ⟨q, q1, q2, q3⟩ := bounds_rel (P := P) (w := w) (isS := true) (cap := cap') rl rh (mx := some y) (mx' := some y') ⟨y', ry, rfl⟩ hmh h1' h2 h3 (by omega)
                    refine ok_same g (v' := .slice (if m = l then some ⟨b, o', none⟩ else some ⟨b, o' + l * s, none⟩) (hh - l) (m - l)) ?_ ?_
                    · simp only [Sem.run_bind, Instr.sliceAt, run_und hu, Result.andThen_ok, Instr.slice, q, run_sizeOf' hs, Sem.run_pure, Option.map_some, Addr.add_none]
                    · by_cases hcl : m = l
                      · rw [if_pos hcl]
                        refine ⟨b, sh, o', m - l, hi', fun q => by omega, by omega, by omega, ?_, rfl⟩
                        rw [hcl]; simp; omega
                      · rw [if_neg hcl]
                        refine ⟨b, sh, o' + l * s, m - l, hi', fun q => ?_, by omega, Nat.le_refl _, ?_, rfl⟩
                        · rw [c1 (by omega)]; omega
                        · have hm : l * s + (m - l) * s = m * s := by rw [← Nat.add_mul]; congr 1; omega
                          have hm2 : m * s ≤ cap' * s := Nat.mul_le_mul_right _ (by omega)
                          omega
        · cases e
      · cases e
    · rename_i len el bm o hu
      split at e
      · rename_i s hs
        cases h1 : boundV len len mx with
        | none => simp [h1] at e
        | some m =>
          simp only [h1] at e
          cases h2 : boundV len m hi with
          | none => simp [h2] at e
          | some hh =>
            simp only [h2] at e
            cases h3 : boundV 0 hh lo with
            | none => simp [h3] at e
            | some l =>
              simp only [h3] at e
              split at e
              · rename_i hb
                simp only [Option.some.injEq] at e; subst e
                obtain ⟨hs0, hn0, hlive⟩ := hb
                unfold liveRow at hlive
                split at hlive
                · rename_i cs hm
                  have hlc : o + len * s ≤ cs.length := by simpa using hlive
                  obtain ⟨b, sh, hi', rfl⟩ := r
                  obtain ⟨b', sh', hi2, c, el', fz, hbk, hsz, _, hcr⟩ := g.rel bm _ hm
                  rw [hi'] at hi2; cases hi2
                  obtain ⟨q, q1, q2, q3⟩ := bounds_rel (P := P) (w := w) (isS := false) rl rh rm hmh h1 h2 h3 (Nat.le_refl _)
                  refine ok_same g (v' := .slice (some (if m = l then ⟨b, sh + o, none⟩ else ⟨b, sh + o + l * s, none⟩)) (hh - l) (m - l)) ?_ ?_
                  · simp only [Sem.run_bind, Instr.sliceAt, run_und hu, Result.andThen_ok, Instr.sureAddr, q, run_sizeOf' hs, Sem.run_pure, Addr.add_none]
                  · have hbound : sh + o + m * s ≤ E.β b := by
                      have hpos : 0 < len * s := Nat.mul_pos hn0 hs0
                      have hb1 := crel_bound hcr (k := o + len * s) (by omega) hlc
                      have hb2 : m * s ≤ len * s := Nat.mul_le_mul_right _ q3
                      omega
                    by_cases hcl : m = l
                    · rw [if_pos hcl]
                      refine ⟨b, sh, sh + o, m - l, hi', fun q => by omega, by omega, by omega, ?_, rfl⟩
                      rw [hcl]; simp; omega
                    · rw [if_neg hcl]
                      refine ⟨b, sh, sh + o + l * s, m - l, hi', fun q => by omega, by omega, Nat.le_refl _, ?_, rfl⟩
                      have hm : l * s + (m - l) * s = m * s := by rw [← Nat.add_mul]; congr 1; omega
                      omega
                · cases hlive
              · cases e
      · cases e
    · cases e
end
end Go.Eng
