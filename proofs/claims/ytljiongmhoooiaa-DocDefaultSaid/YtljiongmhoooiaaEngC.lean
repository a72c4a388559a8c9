/- The engine, part C: what abstract memory says of the model's memory; updates and how they are joined. No conditions: lemmas alone. -/
import Derived.Test.YtljiongmhoooiaaEngB
namespace Go.Eng
open Go

def erels (E : Env) : List (V × V × Nat) → List MapEntry → Prop
  | [], l => l = []
  | x :: xs, l => ∃ y ys, vrel E x.1 y.key ∧ vrel E x.2.1 y.val ∧ y.born = x.2.2 ∧ erels E xs ys ∧ l = y :: ys

theorem erels_mono {E E' : Env} (h : E.le E') : ∀ (xs : List (V × V × Nat)) (ys : List MapEntry), erels E xs ys → erels E' xs ys
  | [], _, r => r
  | _ :: xs, _, ⟨y, ys, a, b, c, r, q⟩ => ⟨y, ys, vrel_mono h _ _ a, vrel_mono h _ _ b, c, erels_mono h xs ys r, q⟩

def unfrozen (fz : Nat × Nat) (n : Nat) : Prop := ∀ i, i < n → ¬ (fz.1 ≤ i ∧ i < fz.2)

def crel (E : Env) (s : Nat) (cs : List V) (c : Array Value) : Prop := ∀ (i : Nat) (v : V), cs[i]? = some v → ∃ v', c[s + i]? = some v' ∧ vrel E v v'

def orel (E : Env) (w : World) (b s : Nat) : O → Prop
  | .cells cs => ∃ c el fz, w.heap[b]? = some (.cells c el fz) ∧ c.size = E.β b ∧ unfrozen fz c.size ∧ crel E s cs c
  | .map es clock => s = 0 ∧ ∃ es', w.heap[b]? = some (.map es' clock) ∧ erels E es es'.toList
  | .siter st pos => s = 0 ∧ w.heap[b]? = some (.stringIter ⟨st.toArray⟩ pos)

theorem crel_mono {E E' : Env} (h : E.le E') {s : Nat} {cs : List V} {c : Array Value} (r : crel E s cs c) : crel E' s cs c :=
  fun i v e => let ⟨v', h1, h2⟩ := r i v e; ⟨v', h1, vrel_mono h v v' h2⟩

theorem orel_mono {E E' : Env} {w w' : World} {b s : Nat} {o : O} (h : E.le E') (hb : E'.β b = E.β b) (hw : w'.heap[b]? = w.heap[b]?) (r : orel E w b s o) : orel E' w' b s o := by
  cases o with
  | cells cs => obtain ⟨c, el, fz, h1, h2, h3, h4⟩ := r; exact ⟨c, el, fz, hw.trans h1, h2.trans hb.symm, h3, crel_mono h h4⟩
  | map es clock => obtain ⟨hs, es', h1, h2⟩ := r; exact ⟨hs, es', hw.trans h1, erels_mono h _ _ h2⟩
  | siter st pos => exact ⟨r.1, hw.trans r.2⟩

structure Good (E : Env) (h : Tr O) (w : World) : Prop where
  rel : ∀ m o, h.get m = some o → ∃ b s, E.ι m = some (b, s) ∧ orel E w b s o
  inj : ∀ m m' b s s', m ≠ m' → h.get m ≠ none → h.get m' ≠ none → E.ι m = some (b, s) → E.ι m' = some (b, s') → False
  bnd : ∀ m b s, E.ι m = some (b, s) → b < w.heap.size

/-- the step from one state of memory to a later one -/
structure Upd (E : Env) (h : Tr O) (w : World) (E' : Env) (h' : Tr O) (w' : World) : Prop where
  le : E.le E'
  good : Good E' h' w'
  size : w.heap.size ≤ w'.heap.size
  tape : w'.tape = w.tape
  os : w'.os = w.os
  output : w'.output = w.output
  keep : ∀ b, b < w.heap.size → (∀ m s, h.get m ≠ none → E.ι m ≠ some (b, s)) → w'.heap[b]? = w.heap[b]?
  img : ∀ m b s, h'.get m ≠ none → E'.ι m = some (b, s) → b < w.heap.size → ∃ m0 s0, h.get m0 ≠ none ∧ E.ι m0 = some (b, s0)

theorem Upd.refl {E : Env} {h : Tr O} {w : World} (g : Good E h w) : Upd E h w E h w :=
  ⟨E.le_refl, g, Nat.le_refl _, rfl, rfl, rfl, fun _ _ _ => rfl, fun m _ s hm e _ => ⟨m, s, hm, e⟩⟩

theorem Upd.trans {E E1 E2 : Env} {h h1 h2 : Tr O} {w w1 w2 : World} (a : Upd E h w E1 h1 w1) (b : Upd E1 h1 w1 E2 h2 w2) : Upd E h w E2 h2 w2 where
  le := Env.le_trans a.le b.le
  good := b.good
  size := Nat.le_trans a.size b.size
  tape := b.tape.trans a.tape
  os := b.os.trans a.os
  output := b.output.trans a.output
  keep := fun x hx hn => by
    rw [b.keep x (Nat.lt_of_lt_of_le hx a.size) ?_, a.keep x hx hn]
    intro m s hm e
    obtain ⟨m0, s0, h0, e0⟩ := a.img m x s hm e hx
    exact hn m0 s0 h0 e0
  img := fun m x s hm e hx => by
    obtain ⟨m1, s1, h1', e1⟩ := b.img m x s hm e (Nat.lt_of_lt_of_le hx a.size)
    exact a.img m1 x s1 h1' e1 hx

/-- a world of the same memory -/
theorem Good.same {E : Env} {h : Tr O} {w w' : World} (g : Good E h w) (e : w'.heap = w.heap) : Good E h w' where
  rel := fun m o hm => let ⟨b, s, h1, h2⟩ := g.rel m o hm; ⟨b, s, h1, orel_mono E.le_refl rfl (by rw [e]) h2⟩
  inj := g.inj
  bnd := fun m b s h => by rw [e]; exact g.bnd m b s h

theorem Upd.drew {E : Env} {h : Tr O} {w : World} (g : Good E h w) : Upd E h w E h w.drew :=
  ⟨E.le_refl, g.same rfl, Nat.le_refl _, rfl, rfl, rfl, fun _ _ _ => rfl, fun m _ s hm e _ => ⟨m, s, hm, e⟩⟩

def Env.put (E : Env) (n b s z : Nat) : Env := { ι := fun m => if m = n then some (b, s) else E.ι m, β := fun x => if x = b then z else E.β x }

theorem Env.put_ι {E : Env} {n b s z m : Nat} : (E.put n b s z).ι m = if m = n then some (b, s) else E.ι m := rfl
theorem Env.put_same {E : Env} {n b s z : Nat} : (E.put n b s z).ι n = some (b, s) := by simp [Env.put]
theorem Env.put_ne {E : Env} {n b s z m : Nat} (h : m ≠ n) : (E.put n b s z).ι m = E.ι m := by simp [Env.put, h]

theorem Env.le_put {E : Env} {n b s z : Nat} (hn : E.ι n = none) (hb : ∀ m x t, E.ι m = some (x, t) → x = b → E.β b = z) : E.le (E.put n b s z) := by
  intro m x t e
  have : m ≠ n := by intro h; rw [h, hn] at e; simp at e
  refine ⟨by rw [Env.put_ne this]; exact e, ?_⟩
  show (if x = b then z else E.β x) = E.β x
  split
  · rename_i h; rw [← hb m x t e h, h]
  · rfl

theorem heap_alloc_lt {w : World} {o : Obj} {b : Nat} (h : b < w.heap.size) : (w.alloc o).heap[b]? = w.heap[b]? := by
  simp only [World.alloc, Array.getElem?_push]; rw [if_neg (by omega)]
theorem heap_alloc_new {w : World} {o : Obj} : (w.alloc o).heap[w.heap.size]? = some o := by
  simp only [World.alloc, Array.getElem?_push, if_true]

def sizeOfObj : Obj → Nat
  | .cells c _ _ => c.size
  | _ => 0

/-- a new block -/
theorem Upd.alloc {E : Env} {h : Tr O} {w : World} {n : Nat} {o : O} {ob : Obj} (g : Good E h w) (hn : E.ι n = none) (ht : n < top)
    (ho : orel (E.put n w.heap.size 0 (sizeOfObj ob)) (w.alloc ob) w.heap.size 0 o) :
    Upd E h w (E.put n w.heap.size 0 (sizeOfObj ob)) (h.set n (some o)) (w.alloc ob) := by
  have hfresh : ∀ m b s, E.ι m = some (b, s) → b ≠ w.heap.size := fun m b s e hb => by have := g.bnd m b s e; omega
  have hle : E.le (E.put n w.heap.size 0 (sizeOfObj ob)) := Env.le_put hn fun m x t e hx => absurd hx (hfresh m x t e)
  refine ⟨hle, ⟨?_, ?_, ?_⟩, by simp, rfl, rfl, rfl, fun b hb _ => heap_alloc_lt hb, ?_⟩
  · intro m o' hm
    rw [Tr.get_set _ _ _ ht] at hm
    by_cases e : m = n
    · subst e; rw [if_pos rfl] at hm; cases hm; exact ⟨_, _, Env.put_same, ho⟩
    · rw [if_neg e] at hm
      obtain ⟨b, s, h1, h2⟩ := g.rel m o' hm
      exact ⟨b, s, by rw [Env.put_ne e]; exact h1, orel_mono hle (hle m b s h1).2 (heap_alloc_lt (g.bnd m b s h1)) h2⟩
  · intro m m' b s s' hne hm hm' e e'
    rw [Tr.get_set _ _ _ ht] at hm hm'
    by_cases a : m = n
    · subst a
      rw [Env.put_same] at e
      have : m' ≠ m := fun x => hne x.symm
      rw [Env.put_ne this] at e'
      cases e; exact hfresh _ _ _ e' rfl
    · rw [Env.put_ne a] at e
      rw [if_neg a] at hm
      by_cases a' : m' = n
      · subst a'; rw [Env.put_same] at e'; cases e'; exact hfresh _ _ _ e rfl
      · rw [Env.put_ne a'] at e'; rw [if_neg a'] at hm'
        exact g.inj m m' b s s' hne hm hm' e e'
  · intro m b s e
    by_cases a : m = n
    · subst a; rw [Env.put_same] at e; cases e; simp
    · rw [Env.put_ne a] at e; have := g.bnd m b s e; simp; omega
  · intro m b s hm e hb
    by_cases a : m = n
    · subst a; rw [Env.put_same] at e; cases e; omega
    · rw [Env.put_ne a] at e; rw [Tr.get_set _ _ _ ht, if_neg a] at hm; exact ⟨m, s, hm, e⟩

/-- one live block is written, its size unchanged -/
theorem Upd.write {E : Env} {h : Tr O} {w w' : World} {m b s : Nat} {o : O} (g : Good E h w) (ht : m < top) (hlive : h.get m ≠ none) (hm : E.ι m = some (b, s))
    (hsize : w'.heap.size = w.heap.size) (htape : w'.tape = w.tape) (hos : w'.os = w.os) (hout : w'.output = w.output)
    (hother : ∀ x, x ≠ b → w'.heap[x]? = w.heap[x]?) (ho : orel E w' b s o) : Upd E h w E (h.set m (some o)) w' := by
  refine ⟨E.le_refl, ⟨?_, ?_, ?_⟩, by omega, htape, hos, hout, ?_, ?_⟩
  · intro k o' hk
    rw [Tr.get_set _ _ _ ht] at hk
    by_cases e : k = m
    · subst e; rw [if_pos rfl] at hk; cases hk; exact ⟨b, s, hm, ho⟩
    · rw [if_neg e] at hk
      obtain ⟨b', s', h1, h2⟩ := g.rel k o' hk
      have hne : b' ≠ b := by
        intro hb; subst hb
        exact g.inj k m b' s' s e (by rw [hk]; simp) hlive h1 hm
      exact ⟨b', s', h1, orel_mono E.le_refl rfl (hother b' hne) h2⟩
  · intro k k' x t t' hne hk hk' e e'
    refine g.inj k k' x t t' hne ?_ ?_ e e'
    · rw [Tr.get_set _ _ _ ht] at hk; split at hk
      · rename_i q; rw [q]; exact hlive
      · exact hk
    · rw [Tr.get_set _ _ _ ht] at hk'; split at hk'
      · rename_i q; rw [q]; exact hlive
      · exact hk'
  · intro k x t e; rw [hsize]; exact g.bnd k x t e
  · intro x _ hn
    refine hother x ?_
    intro hx; subst hx; exact hn m s hlive hm
  · intro k x t hk e _
    rw [Tr.get_set _ _ _ ht] at hk; split at hk
    · rename_i q; subst q; exact ⟨k, t, hlive, e⟩
    · exact ⟨k, t, hk, e⟩

/-- a block is given up, its place goes to another name -/
theorem Upd.move {E : Env} {h : Tr O} {w w' : World} {m n b s s' : Nat} {o : O} (g : Good E h w) (ht : m < top) (hn : n < top) (hnew : E.ι n = none) (hlive : h.get m ≠ none) (hm : E.ι m = some (b, s))
    (hsize : w'.heap.size = w.heap.size) (htape : w'.tape = w.tape) (hos : w'.os = w.os) (hout : w'.output = w.output)
    (hother : ∀ x, x ≠ b → w'.heap[x]? = w.heap[x]?) (ho : orel (E.put n b s' (E.β b)) w' b s' o) :
    Upd E h w (E.put n b s' (E.β b)) ((h.set m none).set n (some o)) w' := by
  have hmn : m ≠ n := by intro e; rw [e, hnew] at hm; simp at hm
  have hle : E.le (E.put n b s' (E.β b)) := Env.le_put hnew fun _ _ _ _ _ => rfl
  have hget : ∀ k, ((h.set m none).set n (some o)).get k = if k = n then some o else if k = m then none else h.get k := by
    intro k; rw [Tr.get_set _ _ _ hn]; split
    · rfl
    · rw [Tr.get_set _ _ _ ht]
  refine ⟨hle, ⟨?_, ?_, ?_⟩, by omega, htape, hos, hout, ?_, ?_⟩
  · intro k o' hk
    rw [hget] at hk
    by_cases e : k = n
    · subst e; rw [if_pos rfl] at hk; cases hk; exact ⟨_, _, Env.put_same, ho⟩
    · rw [if_neg e] at hk
      by_cases e2 : k = m
      · rw [if_pos e2] at hk; cases hk
      · rw [if_neg e2] at hk
        obtain ⟨b', t, h1, h2⟩ := g.rel k o' hk
        have hne : b' ≠ b := by
          intro hb; subst hb
          exact g.inj k m b' t s e2 (by rw [hk]; simp) hlive h1 hm
        exact ⟨b', t, by rw [Env.put_ne e]; exact h1, orel_mono hle (hle k b' t h1).2 (hother b' hne) h2⟩
  · intro k k' x t t' hne hk hk' e e'
    rw [hget] at hk hk'
    by_cases a : k = n
    · subst a
      rw [Env.put_same] at e; cases e
      have a' : k' ≠ k := fun q => hne q.symm
      rw [Env.put_ne a'] at e'; rw [if_neg a'] at hk'
      by_cases c : k' = m
      · rw [if_pos c] at hk'; exact hk' rfl
      · rw [if_neg c] at hk'; exact g.inj k' m b t' s c hk' hlive e' hm
    · rw [Env.put_ne a] at e; rw [if_neg a] at hk
      by_cases c : k = m
      · rw [if_pos c] at hk; exact hk rfl
      · rw [if_neg c] at hk
        by_cases a' : k' = n
        · subst a'; rw [Env.put_same] at e'; cases e'; exact g.inj k m b t s c hk hlive e hm
        · rw [Env.put_ne a'] at e'; rw [if_neg a'] at hk'
          by_cases c' : k' = m
          · rw [if_pos c'] at hk'; exact hk' rfl
          · rw [if_neg c'] at hk'; exact g.inj k k' x t t' hne hk hk' e e'
  · intro k x t e
    by_cases a : k = n
    · subst a; rw [Env.put_same] at e; cases e; rw [hsize]; exact g.bnd m b s hm
    · rw [Env.put_ne a] at e; rw [hsize]; exact g.bnd k x t e
  · intro x _ hx
    refine hother x ?_
    intro q; subst q; exact hx m s hlive hm
  · intro k x t hk e _
    rw [hget] at hk
    by_cases a : k = n
    · subst a; rw [Env.put_same] at e; cases e; exact ⟨m, s, hlive, hm⟩
    · rw [Env.put_ne a] at e; rw [if_neg a] at hk
      by_cases c : k = m
      · rw [if_pos c] at hk; exact absurd rfl hk
      · rw [if_neg c] at hk; exact ⟨k, t, hk, e⟩

/-- a part of memory is forgotten -/
theorem Good.sub {E : Env} {h h' : Tr O} {w : World} (g : Good E h w) (hs : ∀ m o, h'.get m = some o → h.get m = some o) : Good E h' w where
  rel := fun m o hm => g.rel m o (hs m o hm)
  inj := fun m m' b s s' hne hm hm' e e' => by
    refine g.inj m m' b s s' hne ?_ ?_ e e'
    · cases q : h'.get m with
      | none => exact absurd q hm
      | some o => rw [hs m o q]; simp
    · cases q : h'.get m' with
      | none => exact absurd q hm'
      | some o => rw [hs m' o q]; simp
  bnd := g.bnd

theorem Upd.forget {E : Env} {h : Tr O} {w : World} {m : Nat} (g : Good E h w) (ht : m < top) : Upd E h w E (h.set m none) w := by
  have hs : ∀ k o, (h.set m none).get k = some o → h.get k = some o := by
    intro k o hk; rw [Tr.get_set _ _ _ ht] at hk; split at hk
    · cases hk
    · exact hk
  refine ⟨E.le_refl, g.sub hs, Nat.le_refl _, rfl, rfl, rfl, fun _ _ _ => rfl, fun k b s hk e _ => ⟨k, s, ?_, e⟩⟩
  cases q : (h.set m none).get k with
  | none => exact absurd q hk
  | some o => rw [hs k o q]; simp

/- reading and writing rows of cells -/
theorem Addr.add_none (b o n : Nat) : (⟨b, o, none⟩ : Addr).add n = ⟨b, o + n, none⟩ := by
  unfold Addr.add; split
  · rename_i h; subst h; rfl
  · rfl

theorem cell_of_heap {w : World} {b i : Nat} {c : Array Value} {el : TypeId} {fz : Nat × Nat} (h : w.heap[b]? = some (.cells c el fz)) : w.cell? ⟨b, i, none⟩ = c[i]? := by
  simp [World.cell?, h]

theorem run_loadCellsFrom {P : Program} {w : World} {b o : Nat} {c : Array Value} {el : TypeId} {fz : Nat × Nat} (h : w.heap[b]? = some (.cells c el fz)) :
    ∀ (n i : Nat) (acc : Array Value), o + i + n ≤ c.size → (loadCellsFrom ⟨b, o, none⟩ i n acc).run P w = .ok (acc ++ ((c.toList.drop (o + i)).take n).toArray) w
  | 0, i, acc, _ => by simp [loadCellsFrom]
  | n + 1, i, acc, hn => by
    have hlt : o + i < c.size := by omega
    simp only [loadCellsFrom, Sem.run_bind, run_load, Addr.add_none, cell_of_heap h]
    rw [Array.getElem?_eq_getElem hlt]
    simp only [Result.andThen_ok]
    rw [run_loadCellsFrom h n (i + 1) _ (by omega)]
    congr 1
    have hd : c.toList.drop (o + i) = c[o + i] :: c.toList.drop (o + (i + 1)) := by
      rw [List.drop_eq_getElem_cons (by simpa using hlt)]; simp [Nat.add_assoc]
    rw [hd]
    simp

theorem run_loadCells {P : Program} {w : World} {b o n : Nat} {c : Array Value} {el : TypeId} {fz : Nat × Nat} (h : w.heap[b]? = some (.cells c el fz)) (hn : o + n ≤ c.size) :
    (loadCells ⟨b, o, none⟩ n).run P w = .ok ((c.toList.drop o).take n).toArray w := by
  unfold loadCells; rw [run_loadCellsFrom h n 0 #[] (by omega)]; simp

/-- the row with some cells replaced -/
def putCells (c : Array Value) (o : Nat) (vs : List Value) : Array Value := (c.toList.take o ++ (vs ++ c.toList.drop (o + vs.length))).toArray

theorem putCells_size {c : Array Value} {o : Nat} {vs : List Value} (h : o + vs.length ≤ c.size) : (putCells c o vs).size = c.size := by
  simp [putCells]; omega

theorem putCells_get {c : Array Value} {o : Nat} {vs : List Value} (h : o + vs.length ≤ c.size) (j : Nat) :
    (putCells c o vs)[j]? = if o ≤ j ∧ j < o + vs.length then vs[j - o]? else c[j]? := by
  simp only [putCells, List.getElem?_toArray]
  rw [List.getElem?_append]
  have hl : (List.take o c.toList).length = o := by simp; omega
  rw [hl]
  by_cases h1 : j < o
  · rw [if_pos h1, if_neg (by omega), List.getElem?_take, if_pos h1]; simp
  · rw [if_neg h1, List.getElem?_append]
    by_cases h2 : j < o + vs.length
    · rw [if_pos (by omega), if_pos (by omega)]
    · rw [if_neg (by omega), if_neg (by omega), List.getElem?_drop]
      simp; congr 1; omega

theorem putCells_cons {c : Array Value} {o : Nat} {v : Value} {vs : List Value} (h : o + (vs.length + 1) ≤ c.size) :
    putCells (c.setIfInBounds o v) (o + 1) vs = putCells c o (v :: vs) := by
  have e1 : o + 1 + vs.length ≤ (c.setIfInBounds o v).size := by simp; omega
  have e2 : o + (v :: vs).length ≤ c.size := by simpa using h
  apply Array.ext
  · rw [putCells_size e1, putCells_size e2]; simp
  · intro j h1 h2
    have : (putCells (c.setIfInBounds o v) (o + 1) vs)[j]? = (putCells c o (v :: vs))[j]? := by
      rw [putCells_get e1, putCells_get e2]
      by_cases a : j = o
      · subst a
        rw [if_neg (by omega), if_pos (by simp)]
        have hj : j < c.size := by omega
        simp [hj]
      · by_cases b : o + 1 ≤ j ∧ j < o + 1 + vs.length
        · rw [if_pos b, if_pos (by simp; omega)]
          have : j - o = (j - (o + 1)) + 1 := by omega
          rw [this]; simp
        · rw [if_neg b, if_neg (by simp; omega)]
          rw [Array.getElem?_setIfInBounds]; rw [if_neg (fun q => a q.symm)]
    rw [Array.getElem?_eq_getElem h1, Array.getElem?_eq_getElem h2] at this
    exact Option.some.inj this

theorem run_storeCells {P : Program} {b o : Nat} {el : TypeId} {fz : Nat × Nat} : ∀ (vs : List Value) (i : Nat) (w : World) (c : Array Value), w.heap[b]? = some (.cells c el fz) →
    unfrozen fz c.size → (∀ v ∈ vs, v.oneCell' = true) → o + i + vs.length ≤ c.size →
    ∃ w', (storeCells ⟨b, o, none⟩ vs i).run P w = .ok () w' ∧ w'.heap[b]? = some (.cells (putCells c (o + i) vs) el fz) ∧ w'.heap.size = w.heap.size ∧ w'.tape = w.tape ∧ w'.os = w.os ∧ w'.output = w.output ∧
      ∀ x, x ≠ b → w'.heap[x]? = w.heap[x]?
  | [], i, w, c, h, _, _, hn => by
    refine ⟨w, rfl, ?_, rfl, rfl, rfl, rfl, fun _ _ => rfl⟩
    rw [h]
    have : putCells c (o + i) [] = c := by simp [putCells]
    rw [this]
  | v :: vs, i, w, c, h, hf, hv, hn => by
    simp only [List.length_cons] at hn
    have hlt : o + i < c.size := by omega
    have hnf : w.frozen? ⟨b, o + i, none⟩ = false := by
      have := hf (o + i) hlt
      simp only [World.frozen?, h]
      simpa using this
    let w1 := w.setCell ⟨b, o + i, none⟩ v
    have hw1 : w1.heap[b]? = some (.cells (c.setIfInBounds (o + i) v) el fz) := by
      simp [w1, World.setCell, Array.getElem?_modify, h]
    obtain ⟨w', e1, e2, e3, e4, e5, e6, e7⟩ := run_storeCells (P := P) (o := o) vs (i + 1) w1 (c.setIfInBounds (o + i) v) hw1 (by simpa using hf) (fun v hv' => hv v (by simp [hv'])) (by simp only [Array.size_setIfInBounds]; omega)
    refine ⟨w', ?_, ?_, by rw [e3]; simp [w1], by rw [e4]; rfl, by rw [e5]; rfl, by rw [e6]; rfl, ?_⟩
    · simp only [storeCells, Sem.run_bind]
      rw [run_store P w _ v .plain (hv v (by simp)), Addr.add_none, cell_of_heap h, Array.getElem?_eq_getElem hlt]
      simp only [hnf, Bool.false_eq_true, if_false, Result.andThen_ok]
      exact e1
    · rw [e2]
      have : o + (i + 1) = o + i + 1 := by omega
      rw [this, putCells_cons (by omega)]
    · intro x hx
      rw [e7 x hx]
      simp [w1, World.setCell, Array.getElem?_modify, Ne.symm hx]
end Go.Eng
