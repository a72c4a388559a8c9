/- The engine, part D: the operations, one by one: what the abstract operation gives the model's gives. No conditions: lemmas alone. -/
import Derived.Test.YtljiongmhoooiaaEngC
namespace Go.Eng
open Go

theorem ofScalar_rel {E : Env} : ∀ {v : Value} {x : V}, ofScalar v = some x → vrel E x v := by
  intro v x h
  cases v with
  | bool b => simp only [ofScalar, Option.some.injEq] at h; subst h; rfl
  | int k n => simp only [ofScalar, Option.some.injEq] at h; subst h; rfl
  | string s =>
    simp only [ofScalar, Option.some.injEq] at h; subst h
    show Value.string s = .string ⟨s.data.toList.toArray⟩
    rw [Array.toArray_toList]
  | pointer a => cases a <;> simp only [ofScalar, Option.some.injEq] at h; · subst h; rfl
                 · cases h
  | slice a l c =>
    cases a with
    | none => match l, c, h with
      | 0, 0, h => simp only [ofScalar, Option.some.injEq] at h; subst h; exact ⟨rfl, rfl, rfl⟩
    | some a => simp [ofScalar] at h
  | map a => cases a <;> simp only [ofScalar, Option.some.injEq] at h; · subst h; rfl
             · cases h
  | nilFunc => simp only [ofScalar, Option.some.injEq] at h; subst h; rfl
  | nilIface => simp only [ofScalar, Option.some.injEq] at h; subst h; rfl
  | _ => simp [ofScalar] at h

theorem ofScalars_rel {E : Env} : ∀ {vs : List Value} {xs : List V}, ofScalars vs = some xs → vrels E xs vs
  | [], xs, h => by simp only [ofScalars, Option.some.injEq] at h; subst h; rfl
  | v :: vs, xs, h => by
    simp only [ofScalars] at h
    cases h1 : ofScalar v with
    | none => simp [h1] at h
    | some x => cases h2 : ofScalars vs with
      | none => simp [h1, h2] at h
      | some r => simp only [h1, h2, Option.some.injEq] at h; subst h; exact ⟨v, vs, ofScalar_rel h1, ofScalars_rel h2, rfl⟩

theorem ofVal_rel {E : Env} {v : Value} {x : V} (h : ofVal v = some x) : vrel E x v := by
  unfold ofVal at h
  split at h
  · rename_i cs
    cases h1 : ofScalars cs.toList with
    | none => simp [h1] at h
    | some r => simp only [h1, Option.some.injEq] at h; subst h; exact ⟨cs.toList, ofScalars_rel h1, by simp⟩
  · exact ofScalar_rel h

section runs
variable {P : Program} {w : World}
theorem run_und {t : TypeId} {d : TypeDesc} (h : P.underlying t = some d) : (underlying t).run P w = .ok d w := by simp [underlying, h]
theorem run_sizeOf' {t : TypeId} {s : Nat} (h : szof P t = some s) : (sizeOf t).run P w = .ok s w := by
  unfold szof at h
  cases hi : P.info? t with
  | none => simp [hi] at h
  | some i => simp [hi] at h; simp [sizeOf, typeInfo, hi, h]
theorem run_zero {t : TypeId} {z : V} (E : Env) (h : zeroOf P t = some z) : ∃ z', (zeroValue t).run P w = .ok z' w ∧ vrel E z z' ∧ (∃ i, P.info? t = some i ∧ i.zero = some z') := by
  unfold zeroOf at h
  cases hi : P.info? t with
  | none => simp [hi] at h
  | some i =>
    simp only [hi] at h
    cases hz : i.zero with
    | none => simp [hz] at h
    | some v => simp only [hz] at h; exact ⟨v, by simp [zeroValue, typeInfo, hi, hz], ofVal_rel h, i, rfl, hz⟩
theorem run_isAgg {t : TypeId} {b : Bool} (h : aggT P t = some b) : (isAgg t).run P w = .ok b w := by
  unfold aggT at h
  split at h
  · rename_i hu; simp at h; subst h; simp [isAgg, run_und hu]
  · rename_i hu; simp at h; subst h; simp [isAgg, run_und hu]
  · rename_i d h1 h2 hu
    simp at h; subst h
    simp only [isAgg, Sem.run_bind, run_und hu, Result.andThen_ok]
    first | rfl | (split <;> first | rfl | (exact absurd rfl (h1 _)) | (exact absurd rfl (h2 _ _)))
  · cases h
end runs

/-- what is asked of an operation's run -/
def OpOk (P : Program) (E : Env) (h : Tr O) (n : Nat) (w : World) (s : Sem Next) : R → Prop
  | .val v h' n' => ∃ E' w' v', (s.run P w = .ok (.value v') w' ∨ (s.run P w = .ok .skip w' ∧ v' = undef)) ∧ vrel E' v v' ∧ Upd E h w E' h' w' ∧
      (∀ m, m ≠ n → E'.ι m = E.ι m) ∧ ((n' = n ∧ E' = E) ∨ n' = n + 1)
  | .call f args => ∃ args', s.run P w = .ok (.enter f args'.toArray) w ∧ vrels E args args' ∧ callee P f = true
  | .dfr f c args => ∃ c' args', s.run P w = .ok (.defer { target := .fn (.func f) c'.toArray, args := args'.toArray }) w ∧ vrels E c c' ∧ vrels E args args'
  | .recover => s.run P w = .ok .recover w
  | .panic v => ∃ v', s.run P w = .halt (.panic v') w ∧ vrel E v v'

theorem ok_same {P : Program} {E : Env} {h : Tr O} {n : Nat} {w : World} {s : Sem Next} {v : V} {v' : Value} (g : Good E h w)
    (hr : s.run P w = .ok (.value v') w) (hv : vrel E v v') : OpOk P E h n w s (.val v h n) :=
  ⟨E, w, v', .inl hr, hv, Upd.refl g, fun _ _ => rfl, .inl ⟨rfl, rfl⟩⟩

theorem crel_of_vrels {E : Env} {cs : List V} {c : Array Value} (r : vrels E cs c.toList) : crel E 0 cs c := by
  intro i v h
  obtain ⟨v', h1, h2⟩ := vrels_get r i v h
  exact ⟨v', by simpa using h1, h2⟩

theorem newObj_eq {h h' : Tr O} {n n' : Nat} {o : O} (e : newObj h n o = some (h', n')) : n < top ∧ h' = h.set n (some o) ∧ n' = n + 1 := by
  unfold newObj at e; split at e
  · rename_i q; simp at e; exact ⟨q, e.1.symm, e.2.symm⟩
  · cases e

/-- a new row of cells -/
theorem ok_newRowZ {P : Program} {E : Env} {h h' : Tr O} {n n' : Nat} {w w1 : World} {s : Sem Next} {cs : List V} {c : Array Value} {el : TypeId} {fz : Nat × Nat} {v : V} {v' : Value}
    (g : Good E h w) (hn : E.ι n = none) (e : newObj h n (.cells cs) = some (h', n')) (hw : w1.heap = w.heap) (ht : w1.tape = w.tape) (ho : w1.os = w.os) (hout : w1.output = w.output)
    (hfz : unfrozen fz c.size) (hr : s.run P w = .ok (.value v') (w1.alloc (.cells c el fz))) (hc : crel E 0 cs c)
    (hv : vrel (E.put n w.heap.size 0 c.size) v v') : OpOk P E h n w s (.val v h' n') := by
  obtain ⟨htop, rfl, rfl⟩ := newObj_eq e
  have g1 : Good E h w1 := g.same hw
  have hs : w1.heap.size = w.heap.size := by rw [hw]
  have hle : E.le (E.put n w1.heap.size 0 c.size) := Env.le_put hn fun m x t q hx => by have := g1.bnd m x t q; omega
  have u1 : Upd E h w E h w1 := ⟨E.le_refl, g1, by omega, ht, ho, hout, fun b _ _ => by rw [hw], fun m _ s hm q _ => ⟨m, s, hm, q⟩⟩
  have u := Upd.alloc (ob := .cells c el fz) (o := .cells cs) g1 hn htop ⟨c, el, fz, heap_alloc_new, by simp [Env.put, sizeOfObj], hfz, crel_mono hle hc⟩
  refine ⟨E.put n w1.heap.size 0 c.size, _, v', .inl hr, by rw [hs]; exact hv, u1.trans u, fun m hm => Env.put_ne hm, .inr rfl⟩

theorem ok_newRow {P : Program} {E : Env} {h h' : Tr O} {n n' : Nat} {w w1 : World} {s : Sem Next} {cs : List V} {c : Array Value} {el : TypeId} {v : V} {v' : Value}
    (g : Good E h w) (hn : E.ι n = none) (e : newObj h n (.cells cs) = some (h', n')) (hw : w1.heap = w.heap) (ht : w1.tape = w.tape) (ho : w1.os = w.os) (hout : w1.output = w.output)
    (hr : s.run P w = .ok (.value v') (w1.alloc (.cells c el))) (hc : crel E 0 cs c)
    (hv : vrel (E.put n w.heap.size 0 c.size) v v') : OpOk P E h n w s (.val v h' n') :=
  ok_newRowZ g hn e hw ht ho hout (fun i _ q => by simp at q) hr hc hv

theorem le_new {E : Env} {h : Tr O} {w : World} {n z : Nat} (g : Good E h w) (hn : E.ι n = none) : E.le (E.put n w.heap.size 0 z) :=
  Env.le_put hn fun m x t q hx => by have := g.bnd m x t q; omega

section ops
variable {P : Program} {E : Env} {h : Tr O} {n : Nat} {w : World}

theorem op_alloc {t : TypeId} {z : V} {h' : Tr O} {n' : Nat} (g : Good E h w) (hn : E.ι n = none) (hz : zeroOf P t = some z) (e : newObj h n (.cells z.cells) = some (h', n')) :
    OpOk P E h n w (do pure (.value (← Instr.alloc t true (.tuple #[])))) (.val (.ptr (some (n, 0))) h' n') := by
  obtain ⟨z', hr, hv, _⟩ := run_zero (w := w) E hz
  refine ok_newRow (c := z'.cells) (el := t) (w1 := w) (v' := .pointer (some ⟨w.heap.size, 0, none⟩)) g hn e rfl rfl rfl rfl ?_ (crel_of_vrels (vrel_cells hv)) ⟨_, _, Env.put_same, by simp⟩
  simp [Instr.alloc, hr, newVar, newRow]

theorem op_box {t : TypeId} {v : V} {v' : Value} {h' : Tr O} {n' : Nat} (g : Good E h w) (hn : E.ι n = none) (hv : vrel E v v') (e : newObj h n (.cells v.cells) = some (h', n')) :
    OpOk P E h n w (do pure (.value (← Instr.box t v'))) (.val (.ptr (some (n, 0))) h' n') := by
  refine ok_newRow (c := v'.cells) (el := t) (w1 := w) (v' := .pointer (some ⟨w.heap.size, 0, none⟩)) g hn e rfl rfl rfl rfl ?_ (crel_of_vrels (vrel_cells hv)) ⟨_, _, Env.put_same, by simp⟩
  simp [Instr.box, newVar, newRow]

theorem crel_bound {s : Nat} {cs : List V} {c : Array Value} (r : crel E s cs c) {k : Nat} (hk : 0 < k) (hc : k ≤ cs.length) : s + k ≤ c.size := by
  obtain ⟨v', h1, _⟩ := r (k - 1) (cs[k - 1]'(by omega)) (List.getElem?_eq_getElem _)
  have := (Array.getElem?_eq_some_iff.1 h1).1
  omega

theorem crel_slice {s : Nat} {cs : List V} {c : Array Value} (r : crel E s cs c) {o k : Nat} (hk : o + k ≤ cs.length) (h0 : s + o + k ≤ c.size) :
    vrels E ((cs.drop o).take k) ((c.toList.drop (s + o)).take k) := by
  refine vrels_of_get (by simp; omega) fun i v q => ?_
  rw [List.getElem?_take] at q ⊢
  split at q
  · rename_i hi
    rw [if_pos hi]
    rw [List.getElem?_drop] at q ⊢
    obtain ⟨v', h1, h2⟩ := r (o + i) v q
    exact ⟨v', by rw [← h1]; simp [Nat.add_assoc], h2⟩
  · cases q

theorem cut_eq {cs : List V} {o k : Nat} {r : List V} (e : cut cs o k = some r) : o + k ≤ cs.length ∧ r = (cs.drop o).take k := by
  unfold cut at e; split at e
  · rename_i q; simp at e; exact ⟨q, e.symm⟩
  · cases e

/-- reading a variable that lies in a live row -/
theorem run_loadVar_rel {t : TypeId} {b s o : Nat} {cs : List V} {v : V} {c : Array Value} {el : TypeId} {fz : Nat × Nat} (hb : w.heap[b]? = some (.cells c el fz)) (r : crel E s cs c)
    (e : readAt P t cs o = some v) : ∃ v', (loadVar t ⟨b, s + o, none⟩).run P w = .ok v' w ∧ vrel E v v' := by
  unfold readAt at e
  split at e
  · rename_i ha
    cases hs : szof P t with
    | none => simp [hs] at e
    | some k =>
      simp only [hs] at e
      cases hc : cut cs o k with
      | none => simp [hc] at e
      | some x =>
        simp only [hc, Option.map_some, Option.some.injEq] at e; subst e
        obtain ⟨h1, rfl⟩ := cut_eq hc
        by_cases hk : k = 0
        · subst hk
          refine ⟨.agg #[], ?_, [], by simp [vrels], rfl⟩
          simp [loadVar, run_isAgg ha, run_sizeOf' hs, loadCells, loadCellsFrom]
        · have h0 : s + o + k ≤ c.size := by have := crel_bound r (k := o + k) (by omega) h1; omega
          refine ⟨_, ?_, _, crel_slice r h1 h0, rfl⟩
          simp [loadVar, run_isAgg ha, run_sizeOf' hs, run_loadCells hb h0]
  · rename_i ha
    obtain ⟨v', h1, h2⟩ := r o v e
    refine ⟨v', ?_, h2⟩
    simp [loadVar, run_isAgg ha, cell_of_heap hb, h1]
  · cases e

theorem loadAt_rel {t : TypeId} {a v : V} {a' : Value} (g : Good E h w) (ha : vrel E a a') (e : loadAt P t h a = some v) :
    ∃ b s, a' = .pointer (some ⟨b, s, none⟩) ∧ ∃ v', (loadVar t ⟨b, s, none⟩).run P w = .ok v' w ∧ vrel E v v' := by
  unfold loadAt at e
  split at e
  · rename_i m o
    split at e
    · rename_i cs hm
      obtain ⟨b, s, hi, c, el, fz, hb, _, _, hc⟩ := g.rel m _ hm
      obtain ⟨b', s', hi', rfl⟩ := ha
      rw [hi] at hi'; cases hi'
      obtain ⟨v', h1, h2⟩ := run_loadVar_rel hb hc e
      exact ⟨b, s + o, rfl, v', h1, h2⟩
    · cases e
  · cases e

theorem op_load {t : TypeId} {a v : V} {a' : Value} (g : Good E h w) (ha : vrel E a a') (e : loadAt P t h a = some v) :
    OpOk P E h n w (do pure (.value (← Instr.loadAt t a'))) (.val v h n) := by
  obtain ⟨b, s, rfl, v', h1, h2⟩ := loadAt_rel g ha e
  exact ok_same g (by simp [Instr.loadAt, Instr.sureAddr, h1]) h2

theorem splice_eq {cs new r : List V} {o : Nat} (e : splice cs o new = some r) : o + new.length ≤ cs.length ∧ r = cs.take o ++ (new ++ cs.drop (o + new.length)) := by
  unfold splice at e; split at e
  · rename_i q; simp at e; exact ⟨q, e.symm⟩
  · cases e

theorem splice_get {α : Type} {cs new : List α} {o : Nat} (h : o + new.length ≤ cs.length) (j : Nat) :
    (cs.take o ++ (new ++ cs.drop (o + new.length)))[j]? = if o ≤ j ∧ j < o + new.length then new[j - o]? else cs[j]? := by
  rw [List.getElem?_append]
  have hl : (List.take o cs).length = o := by simp; omega
  rw [hl]
  by_cases h1 : j < o
  · rw [if_pos h1, if_neg (by omega), List.getElem?_take, if_pos h1]
  · rw [if_neg h1, List.getElem?_append]
    by_cases h2 : j < o + new.length
    · rw [if_pos (by omega), if_pos (by omega)]
    · rw [if_neg (by omega), if_neg (by omega), List.getElem?_drop]
      congr 1; omega

theorem crel_splice {s o : Nat} {cs new : List V} {new' : List Value} {c : Array Value} (r : crel E s cs c) (hn : vrels E new new') (hne : 0 < new.length) (h : o + new.length ≤ cs.length) :
    s + o + new'.length ≤ c.size ∧ crel E s (cs.take o ++ (new ++ cs.drop (o + new.length))) (putCells c (s + o) new') := by
  have hl := vrels_length hn
  have hb : s + o + new'.length ≤ c.size := by have := crel_bound r (k := o + new.length) (by omega) h; omega
  refine ⟨hb, fun i v q => ?_⟩
  rw [splice_get h] at q
  rw [putCells_get hb]
  split at q
  · rename_i hi
    rw [if_pos (by omega)]
    obtain ⟨v', h1, h2⟩ := vrels_get hn _ v q
    exact ⟨v', by rw [← h1]; congr 1; omega, h2⟩
  · rename_i hi
    rw [if_neg (by omega)]
    exact r i v q

/-- cells of a live row are written -/
theorem store_upd {m o b s : Nat} {cs new : List V} {new' : List Value} (g : Good E h w) (htop : m < top) (hm : h.get m = some (.cells cs)) (hi : E.ι m = some (b, s))
    (hn : vrels E new new') (hne : 0 < new.length) (hsc : new.all V.scalar = true) (hl : o + new.length ≤ cs.length) :
    ∃ w', (storeCells ⟨b, s + o, none⟩ new').run P w = .ok () w' ∧ Upd E h w E (h.set m (some (.cells (cs.take o ++ (new ++ cs.drop (o + new.length)))))) w' := by
  obtain ⟨b', s', hi', c, el, fz, hb, hz, hf, hc⟩ := g.rel m _ hm
  rw [hi] at hi'; cases hi'
  obtain ⟨hbound, hcr⟩ := crel_splice hc hn hne hl
  have hone : ∀ v ∈ new', v.oneCell' = true := by
    intro v hv
    obtain ⟨i, hi'⟩ := List.getElem?_of_mem hv
    have hlt : i < new.length := by rw [← vrels_length hn]; exact (List.getElem?_eq_some_iff.1 hi').1
    obtain ⟨v', h1, h2⟩ := vrels_get hn i new[i] (List.getElem?_eq_getElem hlt)
    rw [hi'] at h1; cases h1
    exact vrel_scalar h2 (by rw [List.all_eq_true] at hsc; exact hsc _ (List.getElem_mem hlt))
  obtain ⟨w', e1, e2, e3, e4, e5, e6, e7⟩ := run_storeCells (P := P) (o := s + o) new' 0 w c hb hf hone (by omega)
  refine ⟨w', e1, Upd.write g htop (by rw [hm]; simp) hi e3 e4 e5 e6 e7 ?_⟩
  exact ⟨_, el, fz, e2, by rw [putCells_size (by omega)]; exact hz, by rw [putCells_size (by omega)]; exact hf, hcr⟩

theorem op_store {t : TypeId} {a v : V} {a' v' : Value} {h' : Tr O} (g : Good E h w) (ha : vrel E a a') (hv : vrel E v v') (e : storeAt P t h v a = some h') :
    OpOk P E h n w (do Instr.storeAt t a' v'; pure .skip) (.val (.tup []) h' n) := by
  unfold storeAt at e
  split at e
  · rename_i m o
    split at e
    · rename_i cs hm
      split at e
      · rename_i s hs
        split at e
        · rename_i hq
          obtain ⟨h1, h2, h3, h4⟩ := hq
          split at e
          · rename_i cs' hsp
            simp only [Option.some.injEq] at e; subst e
            obtain ⟨hle, rfl⟩ := splice_eq hsp
            obtain ⟨b, s', hi, rfl⟩ := ha
            have hcells := vrel_cells hv
            obtain ⟨w', hr, hu⟩ := store_upd (P := P) g h3 hm hi hcells (by omega) h4 hle
            refine ⟨E, w', undef, .inr ⟨?_, rfl⟩, ⟨[], rfl, rfl⟩, hu, fun _ _ => rfl, .inl ⟨rfl, rfl⟩⟩
            have hsz : v'.cells.size = s := by have := vrels_length hcells; simp at this; omega
            simp [Instr.storeAt, Instr.sureAddr, storeVar, run_sizeOf' hs, hsz, hr]
          · cases e
        · cases e
      · cases e
    · cases e
  · cases e
end ops
end Go.Eng
