/- The engine, part J: append, len, max, min. No conditions: lemmas alone. -/
import Derived.Test.YtljiongmhoooiaaEngI
namespace Go.Eng
open Go

section
variable {P : Program} {E : Env} {h : Tr O} {n : Nat} {w : World}

theorem zeroCells_size (z : Array Value) (k : Nat) : (Builtin.zeroCells z k).size = k * z.size := by simp [Builtin.zeroCells]

theorem roomy_eq {need size bytes : Nat} (q : roomy need size bytes = true) : need * bytes ≤ 281474976710 ∧ need * size ≤ 281474976710 := by
  simpa [roomy] using q

/-- what an append that must grow comes to -/
theorem run_append_grow' {st xt el : TypeId} {ty : TypeId} {xd : TypeDesc} {i : TypeInfo} {z' : Value} (hu : P.underlying st = some (.slice el)) (hx : P.underlying xt = some xd) (hxd : (∃ y, xd = .slice y) ∨ xd = .string)
    (hi : P.info? el = some i) (hz : i.zero = some z') {base : Option Addr} {sLen sCap k : Nat} {x' : Value} {old new : Array Value}
    (hlen : ∀ w1 : World, (Builtin.lenOf x').run P w1 = .ok k w1) (hold : ∀ w1 : World, w1.heap = w.heap → (Builtin.firstCells i.size sLen (.slice base sLen sCap)).run P w1 = .ok old w1)
    (hnew : ∀ w1 : World, w1.heap = w.heap → (Builtin.firstCells i.size k x').run P w1 = .ok new w1)
    (hcap : sCap < sLen + k) (hb : 0 < i.bytes) (hroom : (sLen + k) * i.bytes ≤ 281474976710) :
    (Builtin.append_ #[st, xt] ty #[.slice base sLen sCap, x']).run P w =
      .ok (.slice (some ⟨w.heap.size, 0, none⟩) (sLen + k) (grownCap w (sLen + k) sCap el))
        (w.drew.alloc (.cells (old ++ new ++ Builtin.zeroCells z'.cells (grownCap w (sLen + k) sCap el - (sLen + k))) el)) := by
  have hfit : Builtin.nextslicecap (sLen + k) sCap * i.bytes ≤ 281474976710656 := growslice_fits hcap (by omega)
  have hno : ¬ (sLen + k ≤ sCap) := by omega
  have hfit' : ¬ (281474976710656 < Builtin.nextslicecap (sLen + k) sCap * i.bytes) := by omega
  have hb0 : ¬ (i.bytes = 0) := by omega
  have ho := hold w.drew rfl
  have hn := hnew w.drew rfl
  rcases hxd with ⟨y, rfl⟩ | rfl
  · simp [Builtin.append_, run_und hu, run_und hx, sizeOf, typeInfo, zeroValue, hi, hz, hlen, hno, hfit', hb0, Question.forced, newRow, grownCap, ho, hn]
  · simp [Builtin.append_, run_und hu, run_und hx, sizeOf, typeInfo, zeroValue, hi, hz, hlen, hno, hfit', hb0, Question.forced, newRow, grownCap, ho, hn]

/-- an append that finds room -/
theorem run_append_room {st xt el : TypeId} {ty : TypeId} {xd : TypeDesc} {i : TypeInfo} (hu : P.underlying st = some (.slice el)) (hx : P.underlying xt = some xd) (hxd : (∃ y, xd = .slice y) ∨ xd = .string)
    (hi : P.info? el = some i) {base : Option Addr} {sLen sCap k : Nat} {x' : Value} {new : Array Value}
    (hlen : ∀ w1 : World, (Builtin.lenOf x').run P w1 = .ok k w1) (hnew : (Builtin.firstCells i.size k x').run P w = .ok new w) (hcap : sLen + k ≤ sCap) :
    (Builtin.append_ #[st, xt] ty #[.slice base sLen sCap, x']).run P w =
      ((match base with | some a => storeCells (a.add (sLen * i.size)) new.toList | none => pure ()).run P w).andThen fun _ w' => .ok (.slice base (sLen + k) sCap) w' := by
  rcases hxd with ⟨y, rfl⟩ | rfl
  · cases base <;> simp [Builtin.append_, run_und hu, run_und hx, sizeOf, typeInfo, hi, hlen, hcap, hnew]
  · cases base <;> simp [Builtin.append_, run_und hu, run_und hx, sizeOf, typeInfo, hi, hlen, hcap, hnew]

theorem op_append {argTypes : Array TypeId} {ty : TypeId} {args : List V} {args' : List Value} {r : R} (g : Good E h w) (hn : E.ι n = none) (ra : vrels E args args')
    (e : appendV P argTypes args h n = some r) (ha : argTypes.size = 2) : OpOk P E h n w (do pure (.value (← Builtin.append_ argTypes ty args'.toArray))) r := by
  unfold appendV at e
  split at e
  · rename_i st xt s x h1 h2
    obtain ⟨s', _, rs, ⟨x', _, rx, hnil, rfl⟩, rfl⟩ := ra
    simp only [vrels] at hnil; subst hnil
    have hat : argTypes = #[st, xt] := by
      apply Array.ext
      · simpa using ha
      · intro i q1 q2
        have : i = 0 ∨ i = 1 := by simp at q2; omega
        rcases this with rfl | rfl
        · rw [Array.getElem?_eq_getElem q1] at h1; simpa using h1
        · rw [Array.getElem?_eq_getElem q1] at h2; simpa using h2
    subst hat
    split at e
    · rename_i el xd he hx
      split at e
      · rename_i i z hxd0 hi hz
        have hxd : (∃ y, xd = .slice y) ∨ xd = .string := by
          split at hxd0
          · exact .inl ⟨_, rfl⟩
          · exact .inr rfl
          · cases hxd0
        have hu := elemT_eq he
        split at e
        · rename_i hq
          obtain ⟨q1, q2, q3⟩ := hq
          obtain ⟨z', hz1, hz2, hz3⟩ := info_zero (P := P) (E := E) (w := w) hi hz
          have hzs : z'.cells.size = i.size := by have := vrels_length (vrel_cells hz3); simp at this; omega
          split at e
          · rename_i k new ht
            obtain ⟨t1, t2, new', t3, t4⟩ := tail_rel g rx ht
            have hnl : new'.size = k * i.size := by have := vrels_length t4; simp at this; omega
            split at e
            · rename_i hsc
              split at e
              · -- onto nil
                obtain ⟨_, hc0, rfl⟩ := rs
                split at e
                · simp only [Option.some.injEq] at e; subst e
                  refine ok_same g (v' := .slice none 0 0) ?_ ⟨rfl, rfl, rfl⟩
                  rw [Sem.run_bind, run_append_room hu hx hxd hi t1 (t3 w rfl) (by omega)]
                  rfl
                · rename_i hk0
                  have hk : 0 < k := by
                    cases k with
                    | zero => exact absurd rfl hk0
                    | succ _ => omega
                  split at e
                  · rename_i hroom
                    cases ho : newObj h n (.cells new) with
                    | none => simp [ho] at e
                    | some p =>
                      obtain ⟨h', n'⟩ := p
                      simp only [ho, Option.some.injEq] at e; subst e
                      obtain ⟨r1, r2⟩ := roomy_eq hroom
                      have hrun := run_append_grow' (w := w) (ty := ty) hu hx hxd hi hz1 (base := none) (sLen := 0) (sCap := 0) (x' := x') (old := #[]) t1 (fun _ _ => rfl) t3 (by omega) q2 (by simpa using r1)
                      simp only [Nat.zero_add] at hrun
                      have hcap : k ≤ grownCap w k 0 el := by simp only [grownCap, Question.cut]; omega
                      have hsz : (#[] ++ new' ++ Builtin.zeroCells z'.cells (grownCap w k 0 el - k)).size = grownCap w k 0 el * i.size := by
                        simp only [Array.size_append, zeroCells_size, hzs, hnl, Array.size_empty]
                        rw [Nat.zero_add, ← Nat.add_mul]; congr 1; omega
                      refine ok_newRow (w1 := w.drew) (c := #[] ++ new' ++ Builtin.zeroCells z'.cells (grownCap w k 0 el - k)) (el := el) (v' := .slice (some ⟨w.heap.size, 0, none⟩) k (grownCap w k 0 el)) g hn ho rfl rfl rfl rfl ?_ ?_ ?_
                      · simp only [Sem.run_bind, hrun, Result.andThen_ok, Sem.run_pure]
                      · intro j v q
                        obtain ⟨v', p1, p2⟩ := vrels_get t4 j v q
                        refine ⟨v', ?_, p2⟩
                        have hj : j < new'.size := by have := (List.getElem?_eq_some_iff.1 p1).1; simpa using this
                        rw [Array.getElem?_append_left (by simp; omega)]
                        simpa using p1
                      · refine ⟨w.heap.size, 0, 0, grownCap w k 0 el, Env.put_same, fun _ => rfl, Nat.le_refl _, hcap, ?_, rfl⟩
                        rw [hsz]; simp [Env.put]
                  · cases e
              · -- onto a row
                rename_i m o len cap esz _
                split at e
                · rename_i hq2
                  obtain ⟨u1, u2, u3⟩ := hq2
                  subst u1
                  obtain ⟨b, sh, o', cap', hi', c1, c2, c3, c4, rfl⟩ := rs
                  obtain ⟨r1, r2⟩ := roomy_eq u2
                  split at e
                  · rename_i cs hm
                    obtain ⟨b', sh', hi2, c, el', fz, hbk, hsz, hunf, hcr⟩ := g.rel m _ hm
                    rw [hi'] at hi2; cases hi2
                    split at e
                    · rename_i old hold
                      -- the elder cells
                      have holdr : len * i.size ≤ c.size - o' ∧ o' + len * i.size ≤ c.size ∧ vrels E old ((c.toList.drop o').take (len * i.size)) := by
                        have hb0 : len * i.size ≤ cap' * i.size := Nat.mul_le_mul_right _ (by omega)
                        refine ⟨by omega, by omega, ?_⟩
                        split at hold
                        · simp only [Option.some.injEq] at hold; subst hold; simp [vrels]
                        · rename_i hl0
                          have hl : 0 < len := by
                            cases len with
                            | zero => exact absurd rfl hl0
                            | succ _ => omega
                          obtain ⟨hle, rfl⟩ := cut_eq hold
                          have ho' : o' = sh + o := c1 (by omega)
                          subst ho'
                          exact crel_slice hcr hle (by omega)
                      obtain ⟨_, v1, v2⟩ := holdr
                      have hol : old.length = len * i.size := by have := vrels_length v2; simp at this; omega
                      split at e
                      · simp only [Option.some.injEq] at e; subst e
                        refine ok_same g (v' := .slice (some ⟨b, o', none⟩) len cap') ?_ ⟨b, sh, o', cap', hi', c1, c2, c3, c4, rfl⟩
                        have hn0 : new'.toList = [] := by simp at hnl; simp [hnl]
                        rw [Sem.run_bind, run_append_room hu hx hxd hi t1 (t3 w rfl) (by omega), hn0]
                        rfl
                      · rename_i hk0
                        have hk : 0 < k := by
                          cases k with
                          | zero => exact absurd rfl hk0
                          | succ _ => omega
                        cases ho : newObj (h.set m none) n (.cells (old ++ new)) with
                        | none => simp [ho] at e
                        | some p =>
                          obtain ⟨h', n'⟩ := p
                          simp only [ho, Option.some.injEq] at e; subst e
                          obtain ⟨htop, rfl, rfl⟩ := newObj_eq ho
                          by_cases hroom : len + k ≤ cap'
                          · -- in place
                            have hlast : o' + (len + k) * i.size ≤ c.size := by
                              have : (len + k) * i.size ≤ cap' * i.size := Nat.mul_le_mul_right _ hroom
                              omega
                            have hsum : (len + k) * i.size = len * i.size + k * i.size := Nat.add_mul _ _ _
                            have hone : ∀ v ∈ new'.toList, v.oneCell' = true := by
                              intro v hv
                              obtain ⟨j, hj⟩ := List.getElem?_of_mem hv
                              have hlt : j < new.length := by rw [← vrels_length t4]; exact (List.getElem?_eq_some_iff.1 hj).1
                              obtain ⟨v', p1, p2⟩ := vrels_get t4 j new[j] (List.getElem?_eq_getElem hlt)
                              rw [hj] at p1; cases p1
                              exact vrel_scalar p2 (by rw [List.all_eq_true] at hsc; exact hsc _ (List.getElem_mem hlt))
                            obtain ⟨w', e1, e2, e3, e4, e5, e6, e7⟩ := run_storeCells (P := P) (o := o' + len * i.size) new'.toList 0 w c hbk hunf hone (by simp; omega)
                            have hpl : o' + len * i.size + new'.toList.length ≤ c.size := by simp; omega
                            have hu' := Upd.move (n := n) (s' := o') (o := .cells (old ++ new)) g u3 htop hn (by rw [hm]; simp) hi' e3 e4 e5 e6 e7 (by
                              have hle : E.le (E.put n b o' (E.β b)) := Env.le_put hn fun _ _ _ _ _ => rfl
                              refine ⟨_, el', fz, e2, by rw [putCells_size (by simpa using hpl)]; simp [Env.put, hsz], by rw [putCells_size (by simpa using hpl)]; exact hunf, ?_⟩
                              refine crel_mono hle ?_
                              intro j v q
                              rw [putCells_get (by simpa using hpl)]
                              by_cases hj : j < len * i.size
                              · rw [List.getElem?_append_left (by omega)] at q
                                rw [if_neg (by omega)]
                                obtain ⟨v', p1, p2⟩ := vrels_get v2 j v q
                                refine ⟨v', ?_, p2⟩
                                rw [List.getElem?_take, if_pos hj, List.getElem?_drop] at p1
                                simpa using p1
                              · rw [List.getElem?_append_right (by omega), hol] at q
                                have hj2 : j - len * i.size < new.length := (List.getElem?_eq_some_iff.1 q).1
                                rw [if_pos (by simp; omega)]
                                obtain ⟨v', p1, p2⟩ := vrels_get t4 _ v q
                                refine ⟨v', ?_, p2⟩
                                rw [← p1]; congr 1; omega)
                            refine ⟨_, w', .slice (some ⟨b, o', none⟩) (len + k) cap', .inl ?_, ?_, hu', fun m' hm' => Env.put_ne hm', .inr rfl⟩
                            · rw [Sem.run_bind, run_append_room hu hx hxd hi t1 (t3 w rfl) hroom]
                              simp only [Addr.add_none, e1, Result.andThen_ok, Sem.run_pure]
                            · refine ⟨b, o', o', cap', Env.put_same, fun _ => rfl, Nat.le_refl _, hroom, ?_, rfl⟩
                              simpa [Env.put] using c4
                          · -- elsewhere
                            have hf : ∀ w1 : World, w1.heap = w.heap → (Builtin.firstCells i.size len (.slice (some ⟨b, o', none⟩) len cap')).run P w1 = .ok ((c.toList.drop o').take (len * i.size)).toArray w1 := fun w1 hw1 => by
                              simp only [Builtin.firstCells]
                              exact run_loadCells (by rw [hw1]; exact hbk) v1
                            have hrun := run_append_grow' (w := w) (ty := ty) hu hx hxd hi hz1 t1 hf t3 (by omega) q2 r1
                            have hcap : len + k ≤ grownCap w (len + k) cap' el := by simp only [grownCap, Question.cut]; omega
                            have uf := Upd.forget g u3
                            have hlo : ((c.toList.drop o').take (len * i.size)).toArray.size = len * i.size := by simp; omega
                            have hsz2 : (((c.toList.drop o').take (len * i.size)).toArray ++ new' ++ Builtin.zeroCells z'.cells (grownCap w (len + k) cap' el - (len + k))).size = grownCap w (len + k) cap' el * i.size := by
                              rw [Array.size_append, Array.size_append, zeroCells_size, hzs, hnl, hlo]
                              rw [← Nat.add_mul, ← Nat.add_mul]; congr 1; omega
                            obtain ⟨E', w', v', p1, p2, p3, p4, p5⟩ := ok_newRow (P := P) (s := (do pure (.value (← Builtin.append_ #[st, xt] ty #[.slice (some ⟨b, o', none⟩) len cap', x'])) : Sem Next))
                              (v := .slc (some (n, 0)) (len + k) (len + k) i.size) (w1 := w.drew) (c := ((c.toList.drop o').take (len * i.size)).toArray ++ new' ++ Builtin.zeroCells z'.cells (grownCap w (len + k) cap' el - (len + k))) (el := el)
                              (v' := .slice (some ⟨w.heap.size, 0, none⟩) (len + k) (grownCap w (len + k) cap' el)) uf.good hn ho rfl rfl rfl rfl
                              (by simp only [Sem.run_bind, hrun, Result.andThen_ok, Sem.run_pure])
                              (by
                                intro j v q
                                have q' := vrels_append v2 t4
                                obtain ⟨v', p1, p2⟩ := vrels_get q' j v q
                                refine ⟨v', ?_, p2⟩
                                have hj := (List.getElem?_eq_some_iff.1 p1).1
                                rw [Array.getElem?_append_left (by simp at hj ⊢; omega)]
                                rw [← Array.getElem?_toList]; simpa using p1)
                              (by
                                refine ⟨w.heap.size, 0, 0, grownCap w (len + k) cap' el, Env.put_same, fun _ => rfl, Nat.le_refl _, hcap, ?_, rfl⟩
                                rw [hsz2]; simp [Env.put])
                            exact ⟨E', w', v', p1, p2, uf.trans p3, p4, p5⟩
                    · cases e
                  · cases e
                · cases e
              · cases e
            · cases e
          · cases e
        · cases e
      · cases e
    · cases e
  · cases e
end
end Go.Eng
