/- The engine, part E: literals, arithmetic, comparisons, conversions. No conditions: lemmas alone. -/
import Derived.Test.YtljiongmhoooiaaEngD
namespace Go.Eng
open Go

def prels (E : Env) : List (Nat × V) → List (Nat × Value) → Prop
  | [], l => l = []
  | x :: xs, l => ∃ y ys, y.1 = x.1 ∧ vrel E x.2 y.2 ∧ prels E xs ys ∧ l = y :: ys

theorem foldl_put (off : Nat) : ∀ (vs : List Value) (k : Nat) (c : Array Value), off + k + vs.length ≤ c.size →
    (vs.zipIdx k).foldl (fun cs (x : Value × Nat) => cs.setIfInBounds (off + x.2) x.1) c = putCells c (off + k) vs
  | [], k, c, _ => by simp [putCells]
  | v :: vs, k, c, h => by
    simp only [List.length_cons] at h
    simp only [List.zipIdx_cons, List.foldl_cons]
    rw [foldl_put off vs (k + 1) _ (by simp; omega)]
    have : off + (k + 1) = off + k + 1 := by omega
    rw [this, putCells_cons (by omega)]

theorem fill_rel {E : Env} {place : Nat → Option (Nat × Nat)} : ∀ (parts : List (Nat × V)) (parts' : List (Nat × Value)) (cells : List V) (cells' : Array Value) (r : List V),
    fillV place cells parts = some r → vrels E cells cells'.toList → prels E parts parts' → ∃ r', Instr.fill place cells' parts' = some r' ∧ vrels E r r'.toList
  | [], _, cells, cells', r, e, hc, hp => by
    simp only [prels] at hp; subst hp
    simp only [fillV, Option.some.injEq] at e; subst e
    exact ⟨cells', rfl, hc⟩
  | (i, v) :: rest, _, cells, cells', r, e, hc, hp => by
    obtain ⟨⟨i', v'⟩, ys, q1, hv, hr, rfl⟩ := hp
    simp only at q1 hv; subst q1
    simp only [fillV] at e
    cases hpl : place i' with
    | none => simp [hpl] at e
    | some p =>
      obtain ⟨off, size⟩ := p
      simp only [hpl] at e
      split at e
      · rename_i hsz
        cases hs : splice cells off v.cells with
        | none => simp [hs] at e
        | some cells2 =>
          simp only [hs] at e
          obtain ⟨hle, rfl⟩ := splice_eq hs
          have hcv := vrel_cells hv
          have hlv := vrels_length hcv
          have hlc := vrels_length hc
          simp only [Array.length_toList] at hlv hlc
          have hput : v'.cells.zipIdx.foldl (fun cs (x : Value × Nat) => cs.setIfInBounds (off + x.2) x.1) cells' = putCells cells' off v'.cells.toList := by
            rw [← Array.foldl_toList, Array.toList_zipIdx]
            exact foldl_put off v'.cells.toList 0 cells' (by simp; omega)
          have hrel : vrels E (cells.take off ++ (v.cells ++ cells.drop (off + v.cells.length))) (putCells cells' off v'.cells.toList).toList := by
            simp only [putCells]
            refine vrels_append (vrels_take hc) (vrels_append hcv ?_)
            have : off + v'.cells.toList.length = off + v.cells.length := by simp; omega
            rw [this]; exact vrels_drop hc
          obtain ⟨r', h1, h2⟩ := fill_rel rest ys _ _ r e hrel hr
          refine ⟨r', ?_, h2⟩
          simp only [Instr.fill, hpl]
          rw [if_neg (by simp; omega)]
          rw [← h1, ← hput]
      · cases e

theorem sizesOf_places {P : Program} : ∀ (fs : List Field) (places : List (Nat × Nat)), sizesOf P fs = some places →
    fs.mapM (fun f => (P.info? f.type).map fun i => (f.offset, i.size)) = some places
  | [], places, h => by simp [sizesOf] at h; subst h; rfl
  | f :: fs, places, h => by
    simp only [sizesOf, szof] at h
    cases hi : P.info? f.type with
    | none => simp [hi] at h
    | some i =>
      simp only [hi, Option.map_some] at h
      cases hr : sizesOf P fs with
      | none => simp [hr] at h
      | some r =>
        simp only [hr, Option.some.injEq] at h; subst h
        simp [List.mapM_cons, hi, sizesOf_places fs r hr]

theorem repeatV_get {z : List V} (hz : 0 < z.length) : ∀ (n i : Nat), (repeatV z n)[i]? = if i < n * z.length then z[i % z.length]? else none
  | 0, i => by simp [repeatV]
  | n + 1, i => by
    simp only [repeatV, List.getElem?_append]
    by_cases h : i < z.length
    · rw [if_pos h, if_pos (by rw [Nat.add_mul]; omega), Nat.mod_eq_of_lt h]
    · rw [if_neg h, repeatV_get hz n, Nat.add_mul, Nat.one_mul]
      have : (i - z.length) % z.length = i % z.length := by rw [Nat.mod_eq_sub_mod (a := i) (by omega)]
      rw [this]
      by_cases h2 : i - z.length < n * z.length
      · rw [if_pos h2, if_pos (by omega)]
      · rw [if_neg h2, if_neg (by omega)]

theorem repeatV_length {z : List V} : ∀ n, (repeatV z n).length = n * z.length
  | 0 => by simp [repeatV]
  | n + 1 => by simp [repeatV, repeatV_length n, Nat.add_mul]; omega

theorem repeat_rel {E : Env} {z : List V} {z' : Array Value} (hz : vrels E z z'.toList) (h0 : 0 < z.length) (n : Nat) :
    vrels E (repeatV z n) ((Array.range (n * z.length)).map (z'[· % z'.size]!)).toList := by
  have hl : z'.size = z.length := by have := vrels_length hz; simpa using this
  refine vrels_of_get (by simp [repeatV_length]) fun i v q => ?_
  rw [repeatV_get h0] at q
  split at q
  · rename_i hi
    obtain ⟨v', h1, h2⟩ := vrels_get hz _ v q
    refine ⟨v', ?_, h2⟩
    have hlt : i % z'.size < z'.size := Nat.mod_lt _ (by omega)
    rw [Array.getElem?_toList] at h1
    have h1' : z'[i % z'.size]? = some v' := by rw [hl]; exact h1
    rw [Array.getElem?_toList, Array.getElem?_map]
    rw [Array.getElem?_range]
    rw [if_pos hi]
    simp only [Option.map_some]
    rw [getElem!_pos z' _ hlt]
    rw [Array.getElem?_eq_getElem hlt] at h1'
    exact h1'
  · cases q

theorem pureSem_eq {s : Sem Value} {v : V} (e : pureSem s = some v) : ∃ v', s = .pure v' ∧ ∀ E, vrel E v v' := by
  cases s with
  | pure v' => exact ⟨v', rfl, fun E => ofScalar_rel e⟩
  | _ => simp [pureSem] at e

theorem beqB_eq : ∀ (a b : List UInt8), beqB a b = (a == b)
  | [], [] => rfl
  | [], _ :: _ => rfl
  | _ :: _, [] => rfl
  | a :: x, b :: y => by
    simp only [beqB]
    by_cases h : a = b
    · subst h
      have : Nat.beq a.toNat a.toNat = true := Nat.beq_refl _
      rw [this]; simp [beqB_eq x y]
    · have : Nat.beq a.toNat b.toNat = false := by
        cases hh : Nat.beq a.toNat b.toNat with
        | false => rfl
        | true => exact absurd (UInt8.toNat_inj.1 (Nat.eq_of_beq_eq_true hh)) h
      rw [this]
      have hab : (a == b) = false := by simpa using h
      simp [hab]

theorem bytes_beq (a b : List UInt8) : ((⟨a.toArray⟩ : ByteArray) == ⟨b.toArray⟩) = beqB a b := by
  rw [beqB_eq, beq_toListBytes, ByteArray.toList_eq, ByteArray.toList_eq]
theorem bytes_beqL (a b : List UInt8) : ((⟨a.toArray⟩ : ByteArray).toList == (⟨b.toArray⟩ : ByteArray).toList) = beqB a b := by
  rw [← bytes_beq, beq_toListBytes]

section ops
variable {P : Program} {E : Env} {h : Tr O} {n : Nat} {w : World}

theorem build_rel {t : TypeId} {parts : List (Nat × V)} {parts' : Array (Nat × Value)} {v : V} (hp : prels E parts parts'.toList) (e : buildV P t parts = some v) :
    ∃ v', (Instr.build t parts').run P w = .ok v' w ∧ vrel E v v' := by
  unfold buildV at e
  split at e
  · rename_i z fields hz hu
    obtain ⟨z', _, hv, i, hi, hiz⟩ := run_zero (w := w) E hz
    cases hs : sizesOf P fields.toList with
    | none => simp [hs] at e
    | some places =>
      simp only [hs] at e
      cases hf : fillV (fun i => places[i]?) z.cells parts with
      | none => simp [hf] at e
      | some cs =>
        simp only [hf, Option.map_some, Option.some.injEq] at e; subst e
        obtain ⟨r', h1, h2⟩ := fill_rel parts parts'.toList z.cells z'.cells cs hf (vrel_cells hv) hp
        refine ⟨.agg r', run_build w t parts' r' ?_, r'.toList, h2, by simp⟩
        simp only [Program.built, hi, hu, hiz, sizesOf_places _ _ hs]
        simpa using h1
  · rename_i z m elem hz hu
    obtain ⟨z', _, hv, i, hi, hiz⟩ := run_zero (w := w) E hz
    cases hs : szof P elem with
    | none => simp [hs] at e
    | some s =>
      simp only [hs] at e
      cases hf : fillV (fun i => some (i * s, s)) z.cells parts with
      | none => simp [hf] at e
      | some cs =>
        simp only [hf, Option.map_some, Option.some.injEq] at e; subst e
        obtain ⟨r', h1, h2⟩ := fill_rel parts parts'.toList z.cells z'.cells cs hf (vrel_cells hv) hp
        refine ⟨.agg r', run_build w t parts' r' ?_, r'.toList, h2, by simp⟩
        unfold szof at hs
        cases hie : P.info? elem with
        | none => simp [hie] at hs
        | some ie =>
          simp only [hie, Option.map_some, Option.some.injEq] at hs
          simp only [Program.built, hi, hu, hiz, hie, hs]
          exact h1
  · cases e

theorem op_buildSlice {t : TypeId} {len : Nat} {parts : List (Nat × V)} {parts' : Array (Nat × Value)} {r : R} (g : Good E h w) (hn : E.ι n = none) (hp : prels E parts parts'.toList)
    (e : buildSliceV P t len parts h n = some r) : OpOk P E h n w (do pure (.value (← Instr.buildSlice t len parts'))) r := by
  unfold buildSliceV at e
  cases he : elemT P t with
  | none => simp [he] at e
  | some el =>
    simp only [he] at e
    cases hs : szof P el with
    | none => simp [hs] at e
    | some s =>
      cases hz : zeroOf P el with
      | none => simp [hs, hz] at e
      | some z =>
        simp only [hs, hz] at e
        split at e
        · rename_i hq
          obtain ⟨hs0, hcap, hzl⟩ := hq
          cases hf : fillV (fun i => some (i * s, s)) (repeatV z.cells len) parts with
          | none => simp [hf] at e
          | some cs =>
            simp only [hf] at e
            cases ho : newObj h n (.cells cs) with
            | none => simp [ho] at e
            | some x =>
              obtain ⟨h', n'⟩ := x
              simp only [ho, Option.some.injEq] at e; subst e
              obtain ⟨z', hzr, hzv, _⟩ := run_zero (w := w) E hz
              have hzc := vrel_cells hzv
              have hrep := repeat_rel hzc (by omega) len
              rw [hzl] at hrep
              obtain ⟨r', h1, h2⟩ := fill_rel parts parts'.toList _ _ cs hf hrep hp
              have hu : P.underlying t = some (.slice el) := by
                unfold elemT at he; split at he
                · rename_i q; simp at he; subst he; exact q
                · cases he
              have hlen : r'.size = len * s := by
                have a := vrels_length h2
                have b : cs.length = (repeatV z.cells len).length := fillV_length _ _ _ _ hf
                rw [repeatV_length, hzl] at b
                simpa [b] using a
              refine ok_newRow (c := r') (el := el) (w1 := w) (v' := .slice (some ⟨w.heap.size, 0, none⟩) len len) g hn ho rfl rfl rfl rfl ?_ (crel_of_vrels h2) ?_
              · simp only [Instr.buildSlice, Sem.run_bind, run_und hu, Result.andThen_ok, run_sizeOf' hs]
                rw [if_neg (show ¬ (len * s > 2 ^ 24) by omega)]
                by_cases q0 : len * s = 0
                · have hc0 : (Array.range (len * s)).map (fun x => (#[] : Array Value)[x % (#[] : Array Value).size]!) = (Array.range (len * s)).map (z'.cells[· % z'.cells.size]!) := by rw [q0]; simp
                  rw [if_pos q0]
                  simp only [Sem.run_bind, Sem.run_pure, Result.andThen_ok]
                  rw [hc0, h1]
                  simp [newRow]
                · rw [if_neg q0]
                  simp only [Sem.run_bind, Sem.run_pure, Result.andThen_ok, hzr]
                  rw [h1]
                  simp [newRow]
              · refine ⟨w.heap.size, 0, 0, len, Env.put_same, fun _ => by simp, Nat.le_refl _, Nat.le_refl _, ?_, rfl⟩
                simp [Env.put, hlen]
        · cases e
where
  fillV_length (place : Nat → Option (Nat × Nat)) : ∀ (parts : List (Nat × V)) (cells r : List V), fillV place cells parts = some r → r.length = cells.length
    | [], cells, r, e => by simp only [fillV, Option.some.injEq] at e; rw [e]
    | (i, v) :: rest, cells, r, e => by
      simp only [fillV] at e
      split at e
      · cases e
      · split at e
        · split at e
          · rename_i cells2 hs
            obtain ⟨hle, rfl⟩ := splice_eq hs
            rw [fillV_length place rest _ r e]
            simp; omega
          · cases e
        · cases e
end ops
end Go.Eng
