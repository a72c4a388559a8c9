/- The engine, part B: what an abstract value, memory and frame say of the model's own; how an update of memory is carried. No conditions: lemmas alone. -/
import Derived.Test.YtljiongmhoooiaaEngA
import Derived.Orders
namespace Go.Eng
open Go

/-- names to blocks (with a shift), and the number of cells of a block -/
structure Env where
  ι : Nat → Option (Nat × Nat)
  β : Nat → Nat

mutual
def vrel (E : Env) : V → Value → Prop
  | .bool b, v => v = .bool b
  | .int k n, v => v = .int k n
  | .str s, v => v = .string ⟨s.toArray⟩
  | .ptr none, v => v = .pointer none
  | .ptr (some (m, o)), v => ∃ b s, E.ι m = some (b, s) ∧ v = .pointer (some ⟨b, s + o, none⟩)
  | .slc none len cap _, v => len = 0 ∧ cap = 0 ∧ v = .slice none 0 0
  | .slc (some (m, o)) len cap esz, v => ∃ b s o' cap', E.ι m = some (b, s) ∧ (0 < cap → o' = s + o) ∧ len ≤ cap ∧ cap ≤ cap' ∧ o' + cap' * esz ≤ E.β b ∧
      v = .slice (some ⟨b, o', none⟩) len cap'
  | .map none, v => v = .map none
  | .map (some m), v => ∃ b, E.ι m = some (b, 0) ∧ v = .map (some b)
  | .fn f a c, v => ∃ a' c', vrels E a a' ∧ vrels E c c' ∧ v = .func f a'.toArray c'.toArray
  | .nilFn, v => v = .nilFunc
  | .iface t x, v => ∃ x', vrel E x x' ∧ v = .iface t x'
  | .nilIface, v => v = .nilIface
  | .agg cs, v => ∃ cs', vrels E cs cs' ∧ v = .agg cs'.toArray
  | .tup cs, v => ∃ cs', vrels E cs cs' ∧ v = .tuple cs'.toArray
def vrels (E : Env) : List V → List Value → Prop
  | [], l => l = []
  | x :: xs, l => ∃ y ys, vrel E x y ∧ vrels E xs ys ∧ l = y :: ys
end

def Env.le (E E' : Env) : Prop := ∀ m b s, E.ι m = some (b, s) → E'.ι m = some (b, s) ∧ E'.β b = E.β b
theorem Env.le_refl (E : Env) : E.le E := fun _ _ _ h => ⟨h, rfl⟩
theorem Env.le_trans {A B C : Env} (h : A.le B) (k : B.le C) : A.le C := fun m b s e =>
  ⟨(k m b s (h m b s e).1).1, (k m b s (h m b s e).1).2.trans (h m b s e).2⟩

mutual
theorem vrel_mono {E E' : Env} (h : E.le E') : ∀ (v : V) (v' : Value), vrel E v v' → vrel E' v v'
  | .bool _, _, r => r
  | .int _ _, _, r => r
  | .str _, _, r => r
  | .ptr none, _, r => r
  | .ptr (some (_, _)), _, ⟨b, s, e, q⟩ => ⟨b, s, (h _ _ _ e).1, q⟩
  | .slc none _ _ _, _, r => r
  | .slc (some (_, _)) _ _ _, _, ⟨b, s, o', cap', e, q1, q2, q3, q4, q5⟩ => ⟨b, s, o', cap', (h _ _ _ e).1, q1, q2, q3, (h _ _ _ e).2 ▸ q4, q5⟩
  | .map none, _, r => r
  | .map (some _), _, ⟨b, e, q⟩ => ⟨b, (h _ _ _ e).1, q⟩
  | .fn _ a c, _, ⟨a', c', ra, rc, q⟩ => ⟨a', c', vrels_mono h a a' ra, vrels_mono h c c' rc, q⟩
  | .nilFn, _, r => r
  | .iface _ x, _, ⟨x', r, q⟩ => ⟨x', vrel_mono h x x' r, q⟩
  | .nilIface, _, r => r
  | .agg cs, _, ⟨cs', r, q⟩ => ⟨cs', vrels_mono h cs cs' r, q⟩
  | .tup cs, _, ⟨cs', r, q⟩ => ⟨cs', vrels_mono h cs cs' r, q⟩
theorem vrels_mono {E E' : Env} (h : E.le E') : ∀ (v : List V) (v' : List Value), vrels E v v' → vrels E' v v'
  | [], _, r => r
  | x :: xs, _, ⟨y, ys, r, rs, q⟩ => ⟨y, ys, vrel_mono h x y r, vrels_mono h xs ys rs, q⟩
end

theorem vrels_length {E : Env} : ∀ {xs : List V} {ys : List Value}, vrels E xs ys → ys.length = xs.length
  | [], _, r => by simp only [vrels] at r; subst r; rfl
  | _ :: _, _, r => by obtain ⟨y, ys, _, rs, rfl⟩ := r; simp [vrels_length rs]

theorem vrels_get {E : Env} : ∀ {xs : List V} {ys : List Value}, vrels E xs ys → ∀ (i : Nat) (v : V), xs[i]? = some v → ∃ v', ys[i]? = some v' ∧ vrel E v v'
  | [], _, _, i, v, h => by simp at h
  | x :: xs, _, r, i, v, h => by
    obtain ⟨y, ys, r0, rs, rfl⟩ := r
    cases i with
    | zero => simp at h; subst h; exact ⟨y, by simp, r0⟩
    | succ i => simp at h; obtain ⟨v', h1, h2⟩ := vrels_get rs i v h; exact ⟨v', by simpa using h1, h2⟩

theorem vrels_of_get {E : Env} : ∀ {xs : List V} {ys : List Value}, xs.length = ys.length → (∀ (i : Nat) (v : V), xs[i]? = some v → ∃ v', ys[i]? = some v' ∧ vrel E v v') → vrels E xs ys
  | [], [], _, _ => rfl
  | [], _ :: _, h, _ => by simp at h
  | _ :: _, [], h, _ => by simp at h
  | x :: xs, y :: ys, h, r => by
    obtain ⟨v', h1, h2⟩ := r 0 x (by simp)
    simp at h1; subst h1
    exact ⟨y, ys, h2, vrels_of_get (by simpa using h) (fun i v hi => r (i + 1) v (by simpa using hi)), rfl⟩

theorem vrels_append {E : Env} : ∀ {xs xs' : List V} {ys ys' : List Value}, vrels E xs ys → vrels E xs' ys' → vrels E (xs ++ xs') (ys ++ ys')
  | [], _, _, _, r, r' => by simp only [vrels] at r; subst r; simpa using r'
  | x :: xs, _, _, _, r, r' => by
    obtain ⟨y, ys, r0, rs, rfl⟩ := r
    exact ⟨y, _, r0, vrels_append rs r', rfl⟩

theorem vrels_take {E : Env} {n : Nat} : ∀ {xs : List V} {ys : List Value}, vrels E xs ys → vrels E (xs.take n) (ys.take n) := by
  intro xs ys r
  refine vrels_of_get (by simp [vrels_length r]) fun i v h => ?_
  rw [List.getElem?_take] at h ⊢
  split at h
  · rename_i hi; rw [if_pos hi]; exact vrels_get r i v h
  · simp at h
theorem vrels_drop {E : Env} {n : Nat} : ∀ {xs : List V} {ys : List Value}, vrels E xs ys → vrels E (xs.drop n) (ys.drop n) := by
  intro xs ys r
  refine vrels_of_get (by simp [vrels_length r]) fun i v h => ?_
  rw [List.getElem?_drop] at h ⊢
  exact vrels_get r _ v h

theorem vrel_cells {E : Env} : ∀ {v : V} {v' : Value}, vrel E v v' → vrels E v.cells v'.cells.toList := by
  intro v v' r
  have one : ∀ {x : V} {y : Value}, vrel E x y → y.cells = #[y] → x.cells = [x] → vrels E x.cells y.cells.toList := by
    intro x y r h1 h2
    rw [h1, h2]; exact ⟨y, [], r, rfl, rfl⟩
  cases v with
  | agg cs => obtain ⟨cs', rs, rfl⟩ := r; simpa [V.cells, Value.cells] using rs
  | bool b => simp only [vrel] at r; subst r; exact one (by simp [vrel]) rfl rfl
  | int k n => simp only [vrel] at r; subst r; exact one (by simp [vrel]) rfl rfl
  | str s => simp only [vrel] at r; subst r; exact one (by simp [vrel]) rfl rfl
  | ptr a => refine one r ?_ rfl; cases a <;> simp only [vrel] at r; · subst r; rfl
             · obtain ⟨b, s, _, rfl⟩ := r; rfl
  | slc a l c e => refine one r ?_ rfl; cases a <;> simp only [vrel] at r; · obtain ⟨_, _, rfl⟩ := r; rfl
                   · obtain ⟨b, s, _, _, _, _, _, _, _, rfl⟩ := r; rfl
  | map a => refine one r ?_ rfl; cases a <;> simp only [vrel] at r; · subst r; rfl
             · obtain ⟨b, _, rfl⟩ := r; rfl
  | fn f a c => refine one r ?_ rfl; obtain ⟨_, _, _, _, rfl⟩ := r; rfl
  | nilFn => simp only [vrel] at r; subst r; exact one (by simp [vrel]) rfl rfl
  | iface t x => refine one r ?_ rfl; obtain ⟨_, _, rfl⟩ := r; rfl
  | nilIface => simp only [vrel] at r; subst r; exact one (by simp [vrel]) rfl rfl
  | tup vs => refine one r ?_ rfl; obtain ⟨_, _, rfl⟩ := r; rfl

theorem vrel_scalar {E : Env} : ∀ {v : V} {v' : Value}, vrel E v v' → v.scalar = true → v'.oneCell' = true := by
  intro v v' r h
  cases v with
  | agg cs => simp [V.scalar] at h
  | tup cs => simp [V.scalar] at h
  | bool b => simp only [vrel] at r; subst r; rfl
  | int k n => simp only [vrel] at r; subst r; rfl
  | str s => simp only [vrel] at r; subst r; rfl
  | ptr a => cases a <;> simp only [vrel] at r; · subst r; rfl
             · obtain ⟨b, s, _, rfl⟩ := r; rfl
  | slc a l c e => cases a <;> simp only [vrel] at r; · obtain ⟨_, _, rfl⟩ := r; rfl
                   · obtain ⟨b, s, _, _, _, _, _, _, _, rfl⟩ := r; rfl
  | map a => cases a <;> simp only [vrel] at r; · subst r; rfl
             · obtain ⟨b, _, rfl⟩ := r; rfl
  | fn f a c => obtain ⟨_, _, _, _, rfl⟩ := r; rfl
  | nilFn => simp only [vrel] at r; subst r; rfl
  | iface t x => obtain ⟨_, _, rfl⟩ := r; rfl
  | nilIface => simp only [vrel] at r; subst r; rfl

/- trees -/
theorem Tr.get_setF {α : Type} : ∀ (f : Nat) (t : Tr α) (k : Nat) (x : Option α) (j : Nat), k + 1 < 2 ^ f → (Tr.setF f t k x).get j = if j = k then x else t.get j
  | 0, t, k, x, j, h => by simp at h
  | f + 1, t, k, x, j, h => by
    have hk : ∀ k', k = k' + 1 → k' / 2 + 1 < 2 ^ f := by intro k' e; subst e; rw [Nat.pow_succ] at h; omega
    cases t with
    | nil =>
      cases k with
      | zero =>
        cases j with
        | zero => simp [Tr.setF, Tr.get]
        | succ j => simp only [Tr.setF, Tr.get]; rw [if_neg (by omega)]; split <;> rfl
      | succ k =>
        have ih := fun j => Tr.get_setF f (.nil : Tr α) (k / 2) x j (hk k rfl)
        rcases Nat.mod_two_eq_zero_or_one k with e | e
        · cases j with
          | zero => simp [Tr.setF, Tr.get, e]
          | succ j =>
            rcases Nat.mod_two_eq_zero_or_one j with e' | e'
            · simp only [Tr.setF, e, Tr.get, e', ih]
              by_cases hj : j = k
              · subst hj; simp
              · rw [if_neg (by omega), if_neg (by omega)]
            · simp only [Tr.setF, e, Tr.get, e']; rw [if_neg (by omega)]
        · cases j with
          | zero => simp [Tr.setF, Tr.get, e]
          | succ j =>
            rcases Nat.mod_two_eq_zero_or_one j with e' | e'
            · simp only [Tr.setF, e, Tr.get, e']; rw [if_neg (by omega)]
            · simp only [Tr.setF, e, Tr.get, e', ih]
              by_cases hj : j = k
              · subst hj; simp
              · rw [if_neg (by omega), if_neg (by omega)]
    | node v l r =>
      cases k with
      | zero => cases j <;> simp [Tr.setF, Tr.get]
      | succ k =>
        have ihl := fun j => Tr.get_setF f l (k / 2) x j (hk k rfl)
        have ihr := fun j => Tr.get_setF f r (k / 2) x j (hk k rfl)
        rcases Nat.mod_two_eq_zero_or_one k with e | e
        · cases j with
          | zero => simp [Tr.setF, Tr.get, e]
          | succ j =>
            rcases Nat.mod_two_eq_zero_or_one j with e' | e'
            · simp only [Tr.setF, e, Tr.get, e', ihl]
              by_cases hj : j = k
              · subst hj; simp
              · rw [if_neg (by omega), if_neg (by omega)]
            · simp only [Tr.setF, e, Tr.get, e']; rw [if_neg (by omega)]
        · cases j with
          | zero => simp [Tr.setF, Tr.get, e]
          | succ j =>
            rcases Nat.mod_two_eq_zero_or_one j with e' | e'
            · simp only [Tr.setF, e, Tr.get, e']; rw [if_neg (by omega)]
            · simp only [Tr.setF, e, Tr.get, e', ihr]
              by_cases hj : j = k
              · subst hj; simp
              · rw [if_neg (by omega), if_neg (by omega)]

theorem Tr.get_set {α : Type} (t : Tr α) {k : Nat} (x : Option α) (j : Nat) (h : k < top) : (t.set k x).get j = if j = k then x else t.get j :=
  Tr.get_setF 33 t k x j (by unfold top at h; omega)
theorem Tr.get_set_same {α : Type} (t : Tr α) {k : Nat} (x : Option α) (h : k < top) : (t.set k x).get k = x := by rw [Tr.get_set t x k h, if_pos rfl]
theorem Tr.get_set_ne {α : Type} (t : Tr α) {k j : Nat} (x : Option α) (h : k < top) (hj : j ≠ k) : (t.set k x).get j = t.get j := by rw [Tr.get_set t x j h, if_neg hj]
theorem Tr.get_nil {α : Type} (j : Nat) : (Tr.nil : Tr α).get j = none := rfl
end Go.Eng
