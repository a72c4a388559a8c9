/- The engine, part I: conversions, make, append. No conditions: lemmas alone. -/
import Derived.Test.YtljiongmhoooiaaEngH
namespace Go.Eng
open Go

section
variable {P : Program} {E : Env} {h : Tr O} {n : Nat} {w : World}

theorem bytesV_rel (s : List UInt8) : vrels E (bytesV s) (s.map fun b => Value.int .u8 b.toNat) := by
  refine vrels_of_get (by simp [bytesV]) fun i v q => ?_
  simp only [bytesV, List.getElem?_map, Option.map_eq_some_iff] at q ⊢
  obtain ⟨b, q1, rfl⟩ := q
  exact ⟨_, ⟨b, q1, rfl⟩, rfl⟩

theorem toBytes_ns : ∀ (bs : List V) (s : List UInt8) (bs' : List Value), toBytes bs = some s → vrels E bs bs' →
    ∃ ns : List Int, bs' = ns.map (Value.int .u8) ∧ s = ns.map fun n => UInt8.ofNat n.toNat
  | [], s, bs', e, r => by
    simp only [toBytes, Option.some.injEq] at e; subst e
    simp only [vrels] at r; subst r
    exact ⟨[], rfl, rfl⟩
  | x :: xs, s, bs', e, r => by
    obtain ⟨y, ys, rx, rs, rfl⟩ := r
    cases x with
    | int k m =>
      cases k <;> simp only [toBytes] at e <;> first | (cases e; done) | skip
      cases hx : toBytes xs with
      | none => simp [hx] at e
      | some t =>
        simp only [hx, Option.some.injEq] at e; subst e
        simp only [vrel] at rx; subst rx
        obtain ⟨ns, h1, h2⟩ := toBytes_ns xs t ys hx rs
        exact ⟨m :: ns, by simp [h1], by simp [h2]⟩
    | _ => simp [toBytes] at e

theorem foldl_push : ∀ (ns : List Int) (r : ByteArray), ns.foldl (fun r n => r.push (UInt8.ofNat n.toNat)) r = ⟨r.data ++ (ns.map fun n => UInt8.ofNat n.toNat).toArray⟩
  | [], r => by simp
  | n :: ns, r => by
    simp only [List.foldl_cons]
    rw [foldl_push ns]
    simp [ByteArray.push]

theorem op_convert {src dst : TypeId} {x : V} {x' : Value} {r : R} (g : Good E h w) (hn : E.ι n = none) (rx : vrel E x x') (e : convV P src dst x h n = some r) :
    OpOk P E h n w (do pure (.value (← convert src dst x'))) r := by
  unfold convV at e
  split at e
  · rename_i d k k' m h1 h2
    simp only [Option.some.injEq] at e; subst e
    simp only [vrel] at rx; subst rx
    refine ok_same g (v' := .int k (k.wrap m)) ?_ rfl
    simp [convert, run_und h1, run_und h2, Conv.intToInt]
  · rename_i d s h1 h2
    simp only [Option.some.injEq] at e; subst e
    simp only [vrel] at rx; subst rx
    refine ok_same g (v' := .string ⟨s.toArray⟩) ?_ rfl
    simp [convert, run_und h1, run_und h2]
  · rename_i el s h1 h2
    simp only [vrel] at rx; subst rx
    split at e
    · rename_i hu
      cases ho : newObj h n (.cells (bytesV s)) with
      | none => simp [ho] at e
      | some p =>
        obtain ⟨h', n'⟩ := p
        simp only [ho, Option.some.injEq] at e; subst e
        have hsz : (⟨s.toArray⟩ : ByteArray).size = s.length := by show s.toArray.size = _; simp
        have hrun := run_bytes_of_string w src dst el ⟨s.toArray⟩ h1 h2 hu
        rw [hsz] at hrun
        have hcap : s.length ≤ grownCap w s.length 0 el := by simp only [grownCap, Question.cut]; omega
        have hc : (bytesRow ⟨s.toArray⟩ (grownCap w s.length 0 el)).size = grownCap w s.length 0 el := by simp [bytesRow, hsz]; omega
        refine ok_newRowZ (w1 := w.drew) (c := bytesRow ⟨s.toArray⟩ (grownCap w s.length 0 el)) (el := el) (fz := ((bytesRow ⟨s.toArray⟩ (grownCap w s.length 0 el)).size, (bytesRow ⟨s.toArray⟩ (grownCap w s.length 0 el)).size + 1)) (v' := .slice (some ⟨w.heap.size, 0, none⟩) s.length (grownCap w s.length 0 el)) g hn ho rfl rfl rfl rfl ?_ ?_ ?_ ?_
        · intro i hi q; simp at q; omega
        · simp only [Sem.run_bind, hrun, Result.andThen_ok, Sem.run_pure]
        · intro i v q
          obtain ⟨v', q1, q2⟩ := vrels_get (bytesV_rel (E := E) s) i v q
          refine ⟨v', ?_, q2⟩
          simp only [bytesRow, Nat.zero_add]
          rw [Array.getElem?_append_left (by simpa using (List.getElem?_eq_some_iff.1 q1).1)]
          simpa using q1
        · refine ⟨w.heap.size, 0, 0, grownCap w s.length 0 el, Env.put_same, fun _ => rfl, Nat.le_refl _, hcap, ?_, rfl⟩
          simp [Env.put, hc]
    · cases e
  · rename_i el _ _ _ h1 h2
    obtain ⟨_, _, rfl⟩ := rx
    split at e
    · rename_i hu
      simp only [Option.some.injEq] at e; subst e
      refine ok_same g (v' := .string .empty) ?_ rfl
      simp [convert, run_und h1, run_und h2, run_und hu, Conv.bytesToString]
    · cases e
  · rename_i el m o len cap esz h1 h2
    split at e
    · rename_i hu
      split at e
      · rename_i hes
        subst hes
        obtain ⟨b, sh, o', cap', hi, c1, c2, c3, c4, rfl⟩ := rx
        split at e
        · simp only [Option.some.injEq] at e; subst e
          refine ok_same g (v' := .string .empty) ?_ rfl
          simp [convert, run_und h1, run_und h2, run_und hu, Conv.bytesToString, loadCells, loadCellsFrom]
        · rename_i hl0
          split at e
          · rename_i cs hm
            cases hc : cut cs o len with
            | none => simp [hc] at e
            | some bs =>
              simp only [hc] at e
              cases ht : toBytes bs with
              | none => simp [ht] at e
              | some s =>
                simp only [ht, Option.some.injEq] at e; subst e
                obtain ⟨hle, rfl⟩ := cut_eq hc
                have hl0' : 0 < len := by
                  cases len with
                  | zero => exact absurd rfl hl0
                  | succ _ => omega
                have ho' : o' = sh + o := c1 (by omega)
                subst ho'
                obtain ⟨b', sh', hi2, c, el', fz, hbk, _, _, hcr⟩ := g.rel m _ hm
                rw [hi] at hi2; cases hi2
                have hb := crel_bound hcr (k := o + len) (by omega) hle
                have hld := run_loadCells (P := P) (o := sh + o) (n := len) hbk (by omega)
                obtain ⟨ns, n1, n2⟩ := toBytes_ns _ s _ ht (crel_slice hcr hle (by omega))
                rw [n1] at hld
                refine ok_same g (v' := .string ⟨s.toArray⟩) ?_ rfl
                rw [Sem.run_bind, run_convert_bytes_string w src dst el _ len cap' h1 hu h2, run_bytesToString w _ len cap' ns hld, foldl_push, ← n2]
                simp
          · cases e
      · cases e
    · cases e
  · cases e

theorem info_zero {t : TypeId} {i : TypeInfo} {z : V} (hi : P.info? t = some i) (hz : zeroOf P t = some z) : ∃ z', i.zero = some z' ∧ (zeroValue t).run P w = .ok z' w ∧ vrel E z z' := by
  obtain ⟨z', h1, h2, i', h3, h4⟩ := run_zero (P := P) (w := w) E hz
  rw [hi] at h3; cases h3
  exact ⟨z', h4, h1, h2⟩

theorem op_makeSlice {t : TypeId} {l c : V} {l' c' : Value} {r : R} (g : Good E h w) (hn : E.ι n = none) (rl : vrel E l l') (rc : vrel E c c') (e : makeSliceV P t l c h n = some r) :
    OpOk P E h n w (do pure (.value (← Instr.makeSlice t l' c'))) r := by
  unfold makeSliceV at e
  split at e
  · rename_i el k l k' c he
    simp only [vrel] at rl rc; subst rl; subst rc
    split at e
    · rename_i i z hi hz
      simp only at e
      split at e
      · rename_i hq
        obtain ⟨q1, q2, q3, q4, q5⟩ := hq
        cases ho : newObj h n (.cells (repeatV z.cells (IntKind.i64.wrap c).toNat)) with
        | none => simp [ho] at e
        | some p =>
          obtain ⟨h', n'⟩ := p
          simp only [ho, Option.some.injEq] at e; subst e
          obtain ⟨z', hz1, hz2, hz3⟩ := info_zero (P := P) (E := E) (w := w) hi hz
          have hzc := vrel_cells hz3
          have hrep := repeat_rel hzc (by omega) (IntKind.i64.wrap c).toNat
          rw [q2] at hrep
          generalize hC : (IntKind.i64.wrap c) = C at *
          generalize hL : (IntKind.i64.wrap l) = L at *
          have hu := elemT_eq he
          have hsz : (sizeOf el).run P w = .ok i.size w := by simp [sizeOf, typeInfo, hi]
          refine ok_newRow (w1 := w) (c := (Array.range (C.toNat * i.size)).map (z'.cells[· % z'.cells.size]!)) (el := el) (v' := .slice (some ⟨w.heap.size, 0, none⟩) L.toNat C.toNat) g hn ho rfl rfl rfl rfl ?_ (crel_of_vrels hrep) ?_
          · have hbig : ¬ ((i.bytes : Int) * C > 2 ^ 48) := by omega
            simp only [Instr.makeSlice, Sem.run_bind, run_und hu, Result.andThen_ok, asInt, asIntOf, Sem.run_pure, typeInfo, run_program, hi, hC, hL]
            rw [if_neg (by simp; omega)]
            simp only [Sem.run_bind, run_askRoom, Result.andThen_ok, hsz, Sem.run_ite, Sem.run_pure, hz2]
            by_cases h0 : C.toNat * i.size = 0
            · rw [if_pos h0]
              have e0 : ∀ f : Nat → Value, Array.map f (Array.range 0) = #[] := fun f => by apply Array.ext' ; simp
              simp [h0, newRow, e0]
            · rw [if_neg h0]
              simp [newRow]
          · refine ⟨w.heap.size, 0, 0, C.toNat, Env.put_same, fun _ => rfl, by omega, Nat.le_refl _, ?_, rfl⟩
            simp [Env.put]
      · cases e
    · cases e
  · cases e

theorem tail_rel {size k : Nat} {x : V} {new : List V} {x' : Value} (g : Good E h w) (r : vrel E x x') (e : tailCells h size x = some (k, new)) :
    (∀ w1 : World, (Builtin.lenOf x').run P w1 = .ok k w1) ∧ new.length = k * size ∧
      ∃ new' : Array Value, (∀ w1 : World, w1.heap = w.heap → (Builtin.firstCells size k x').run P w1 = .ok new' w1) ∧ vrels E new new'.toList := by
  unfold tailCells at e
  split at e
  · rename_i len _ _
    split at e
    · rename_i hl
      simp only [Option.some.injEq, Prod.mk.injEq] at e; obtain ⟨rfl, rfl⟩ := e
      obtain ⟨_, _, rfl⟩ := r
      exact ⟨fun _ => rfl, by simp, #[], fun _ _ => rfl, by simp [vrels]⟩
    · cases e
  · rename_i m o len cap esz
    split at e
    · rename_i hes
      subst hes
      obtain ⟨b, sh, o', cap', hi, c1, c2, c3, c4, rfl⟩ := r
      split at e
      · simp only [Option.some.injEq, Prod.mk.injEq] at e; obtain ⟨rfl, rfl⟩ := e
        refine ⟨fun _ => rfl, by simp, #[], fun _ _ => ?_, by simp [vrels]⟩
        simp [Builtin.firstCells, loadCells, loadCellsFrom]
      · rename_i hl0
        split at e
        · rename_i cs hm
          cases hc : cut cs o (len * esz) with
          | none => simp [hc] at e
          | some x =>
            simp only [hc, Option.some.injEq, Prod.mk.injEq] at e; obtain ⟨rfl, rfl⟩ := e
            obtain ⟨hle, rfl⟩ := cut_eq hc
            have hl0' : 0 < len := by
              cases len with
              | zero => exact absurd rfl hl0
              | succ _ => omega
            have ho' : o' = sh + o := c1 (by omega)
            subst ho'
            obtain ⟨b', sh', hi2, c, el', fz, hbk, hsz, _, hcr⟩ := g.rel m _ hm
            rw [hi] at hi2; cases hi2
            have hbound : sh + o + len * esz ≤ c.size := by
              have : len * esz ≤ cap' * esz := Nat.mul_le_mul_right _ (by omega)
              omega
            refine ⟨fun _ => rfl, by simp; omega, ((c.toList.drop (sh + o)).take (len * esz)).toArray, fun w1 hw1 => ?_, by simpa using crel_slice hcr hle hbound⟩
            simp only [Builtin.firstCells]
            exact run_loadCells (by rw [hw1]; exact hbk) hbound
        · cases e
    · cases e
  · rename_i s
    split at e
    · rename_i hs1
      simp only [Option.some.injEq, Prod.mk.injEq] at e; obtain ⟨rfl, rfl⟩ := e
      simp only [vrel] at r; subst r
      have hsz : (⟨s.toArray⟩ : ByteArray).size = s.length := by show s.toArray.size = _; simp
      refine ⟨fun _ => ?_, by simp [bytesV, hs1], (s.map fun b => Value.int .u8 b.toNat).toArray, fun w1 _ => ?_, by simpa using bytesV_rel s⟩
      · simp [Builtin.lenOf, hsz]
      · simp only [Builtin.firstCells, Sem.run_pure]
        congr 1
        apply Array.ext'
        simp
    · cases e
  · cases e
end
end Go.Eng
