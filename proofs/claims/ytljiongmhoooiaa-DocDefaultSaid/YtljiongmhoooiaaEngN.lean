/- The engine, part N: operations that write nothing look at the memory that is there and no further. No conditions: lemmas alone. -/
import Derived.Test.YtljiongmhoooiaaEngM
namespace Go.Eng
open Go

def Sub (x y : Tr O) : Prop := ∀ k b, x.get k = some b → y.get k = some b

section
variable {P : Program} {fr : Tr V} {x : Tr O} {n : Nat}

theorem okV_all {h : Tr O} {v : Option V} {r : R} (e : okV h n v = some r) : ∃ u, v = some u ∧ r = .val u h n := okV_eq e

theorem okV_some {y : Tr O} {k : Nat} {u : V} : okV y k (some u) = some (.val u y k) := rfl

theorem pure_any {o : Oper} {r : R} (hp : isPure o.op = true) (e : stepOp P o fr x n = some r) : ∃ v, r = .val v x n ∧ ∀ (y : Tr O) (k : Nat), stepOp P o fr y k = some (.val v y k) := by
  obtain ⟨dst, op, ty, pos, after, guard⟩ := o
  simp only at hp
  cases op <;> simp only [isPure] at hp <;> first | (cases hp; done) | skip
  all_goals simp only [stepOp] at e
  case move a => obtain ⟨v, h1, rfl⟩ := okV_eq e; exact ⟨v, rfl, fun y k => by simp only [stepOp, h1, okV]⟩
  case assign a => obtain ⟨v, h1, rfl⟩ := okV_eq e; exact ⟨v, rfl, fun y k => by simp only [stepOp, h1, okV]⟩
  case pick c a b =>
    split at e
    · rename_i hc; obtain ⟨v, h1, rfl⟩ := okV_eq e; exact ⟨v, rfl, fun y k => by simp only [stepOp, hc, h1, okV]⟩
    · rename_i hc; obtain ⟨v, h1, rfl⟩ := okV_eq e; exact ⟨v, rfl, fun y k => by simp only [stepOp, hc, h1, okV]⟩
    · cases e
  case build t parts =>
    split at e
    · rename_i ps hc; obtain ⟨v, h1, rfl⟩ := okV_eq e; exact ⟨v, rfl, fun y k => by simp only [stepOp, hc, h1, okV]⟩
    · cases e
  case nilCheck a =>
    split at e
    · rename_i p hc; simp only [Option.some.injEq] at e; subst e; exact ⟨_, rfl, fun y k => by simp only [stepOp, hc]⟩
    · rename_i f a c hc; simp only [Option.some.injEq] at e; subst e; exact ⟨_, rfl, fun y k => by simp only [stepOp, hc]⟩
    · rename_i t v hc; simp only [Option.some.injEq] at e; subst e; exact ⟨_, rfl, fun y k => by simp only [stepOp, hc]⟩
    · cases e
  case binOp op t a b yt =>
    split at e
    · rename_i u w h1 h2; obtain ⟨v, h3, rfl⟩ := okV_eq e; exact ⟨v, rfl, fun y k => by simp only [stepOp, h1, h2, h3, okV]⟩
    · cases e
  case unOp op t a =>
    split at e
    · rename_i u h1; obtain ⟨v, h3, rfl⟩ := okV_eq e; exact ⟨v, rfl, fun y k => by simp only [stepOp, h1, h3, okV]⟩
    · cases e
  case makeInterface t a =>
    split at e
    · rename_i v d h1 h2
      split at e
      · cases e
      · rename_i hd
        simp only [Option.some.injEq] at e; subst e
        refine ⟨_, rfl, fun y k => ?_⟩
        simp only [stepOp, h1, h2]
    · cases e
  case makeFunc f a c =>
    split at e
    · rename_i u w h1 h2; simp only [Option.some.injEq] at e; subst e; exact ⟨_, rfl, fun y k => by simp only [stepOp, h1, h2]⟩
    · cases e
  case fieldAddr t a f =>
    split at e
    · rename_i u h1; obtain ⟨v, h3, rfl⟩ := okV_eq e; exact ⟨v, rfl, fun y k => by simp only [stepOp, h1, h3, okV]⟩
    · cases e
  case field t a f =>
    split at e
    · rename_i u h1; obtain ⟨v, h3, rfl⟩ := okV_eq e; exact ⟨v, rfl, fun y k => by simp only [stepOp, h1, h3, okV]⟩
    · cases e
  case indexAddr t a i =>
    split at e
    · rename_i u w h1 h2; obtain ⟨v, h3, rfl⟩ := okV_eq e; exact ⟨v, rfl, fun y k => by simp only [stepOp, h1, h2, h3, okV]⟩
    · cases e
  case index t a i =>
    split at e
    · rename_i u w h1 h2; obtain ⟨v, h3, rfl⟩ := okV_eq e; exact ⟨v, rfl, fun y k => by simp only [stepOp, h1, h2, h3, okV]⟩
    · cases e
  case typeAssert a s t ok =>
    split at e
    · rename_i u h1; obtain ⟨v, h3, rfl⟩ := okV_eq e; exact ⟨v, rfl, fun y k => by simp only [stepOp, h1, h3, okV]⟩
    · cases e
  case extract a i =>
    split at e
    · rename_i vs h1; obtain ⟨v, h3, rfl⟩ := okV_eq e; exact ⟨v, rfl, fun y k => by simp only [stepOp, h1, h3, okV]⟩
    · cases e

theorem loadAt_mono {t : TypeId} {a v : V} {y : Tr O} (hs : Sub x y) (e : loadAt P t x a = some v) : loadAt P t y a = some v := by
  unfold loadAt at e ⊢
  split at e
  · rename_i m o
    split at e
    · rename_i cs hm
      simp only [hs m _ hm]; exact e
    · cases e
  · cases e

theorem liveRow_mono {m k : Nat} {y : Tr O} (hs : Sub x y) (e : liveRow x m k = true) : liveRow y m k = true := by
  unfold liveRow at e ⊢
  split at e
  · rename_i cs hm; simp only [hs m _ hm]; exact e
  · cases e

theorem sliceV_mono {t : TypeId} {a v : V} {lo hi mx : Option V} {y : Tr O} (hs : Sub x y) (e : sliceV P t x a lo hi mx = some v) : sliceV P t y a lo hi mx = some v := by
  unfold sliceV at e ⊢
  split at e
  · cases e
  · rename_i h0
    rw [if_neg h0]
    split at e
    · exact e
    · exact e
    · rename_i nn el b o hu
      cases h1 : szof P el with
      | none => simp [h1] at e
      | some s => cases h2 : boundV nn nn mx with
        | none => simp [h1, h2] at e
        | some m => cases h3 : boundV nn m hi with
          | none => simp [h1, h2, h3] at e
          | some hh => cases h4 : boundV 0 hh lo with
            | none => simp [h1, h2, h3, h4] at e
            | some l =>
              simp only [h1, h2, h3, h4] at e ⊢
              split at e
              · rename_i hq
                rw [if_pos ⟨hq.1, hq.2.1, liveRow_mono hs hq.2.2⟩]; exact e
              · cases e
    · cases e

theorem lookupV_mono {t : TypeId} {a k v : V} {ok : Bool} {y : Tr O} (hs : Sub x y) (e : lookupV P t x a k ok = some v) : lookupV P t y a k ok = some v := by
  unfold lookupV at e ⊢
  split at e
  · split at e
    · split at e
      · rename_i hko
        rw [if_pos hko]
        cases a with
        | map m =>
          cases m with
          | none => exact e
          | some m =>
            simp only at e ⊢
            cases hm : x.get m with
            | none => simp [hm] at e
            | some o =>
              rw [hs m o hm]
              rw [hm] at e
              exact e
        | _ => simp at e
      · cases e
    · cases e
  · cases e

theorem lenV_mono {ts : Array TypeId} {as : List V} {v : V} {y : Tr O} (hs : Sub x y) (e : lenV P ts as x = some v) : lenV P ts as y = some v := by
  unfold lenV at e ⊢
  split at e
  · split at e
    · exact e
    · exact e
    · exact e
    · exact e
    · rename_i m hu
      cases hm : x.get m with
      | none => simp [hm] at e
      | some o =>
        simp only [hs m o hm]
        simp only [hm] at e
        exact e
    · cases e
  · cases e

theorem newObj_any {o : O} {p : Tr O × Nat} (e : newObj x n o = some p) (y : Tr O) : n < top ∧ p = (x.set n (some o), n + 1) ∧ newObj y n o = some (y.set n (some o), n + 1) := by
  obtain ⟨h', n'⟩ := p
  obtain ⟨h1, rfl, rfl⟩ := newObj_eq e
  exact ⟨h1, rfl, by simp [newObj, h1]⟩

/-- what an operation that writes nothing may come to -/
def Quiet (P : Program) (o : Oper) (fr : Tr V) (x : Tr O) (n : Nat) (r : R) : Prop :=
  (∃ v, r = .val v x n ∧ ∀ y, Sub x y → stepOp P o fr y n = some (.val v y n)) ∨
  (∃ v b, n < top ∧ r = .val v (x.set n (some b)) (n + 1) ∧ ∀ y, stepOp P o fr y n = some (.val v (y.set n (some b)) (n + 1)))

theorem Quiet.alloc {o : Oper} {ob : O} {v : V} {h' : Tr O} {n' : Nat} (e : newObj x n ob = some (h', n')) (k : ∀ (y h2 : Tr O) (m : Nat), newObj y n ob = some (h2, m) → stepOp P o fr y n = some (.val v h2 m)) : Quiet P o fr x n (.val v h' n') := by
  obtain ⟨h1, rfl, rfl⟩ := newObj_eq e
  exact .inr ⟨v, ob, h1, rfl, fun y => k y _ _ (newObj_any e y).2.2⟩

theorem quiet_of_pure {o : Oper} {r : R} (hp : isPure o.op = true) (e : stepOp P o fr x n = some r) : Quiet P o fr x n r := by
  obtain ⟨v, h1, h2⟩ := pure_any hp e
  exact .inl ⟨v, h1, fun y _ => h2 y n⟩

theorem quiet {o : Oper} {r : R} (hq : isEff o.op = false) (e : stepOp P o fr x n = some r) : Quiet P o fr x n r := by
  by_cases hp : isPure o.op = true
  · exact quiet_of_pure hp e
  have e0 := e
  obtain ⟨dst, op, ty, pos, after, guard⟩ := o
  simp only at hq hp
  cases op <;> simp only [isEff] at hq <;> first | (cases hq; done) | skip
  all_goals first | (exact absurd rfl hp) | skip
  all_goals simp only [stepOp] at e
  case alloc t =>
    split at e
    · rename_i z hz
      split at e
      · rename_i h' n' ho
        simp only [Option.some.injEq] at e; subst e
        exact Quiet.alloc ho fun y h2 m q => by simp only [stepOp, hz, q]
      · cases e
    · cases e
  case box t a =>
    split at e
    · rename_i v hv
      split at e
      · rename_i h' n' ho
        simp only [Option.some.injEq] at e; subst e
        exact Quiet.alloc ho fun y h2 m q => by simp only [stepOp, hv, q]
      · cases e
    · cases e
  case buildSlice t len parts =>
    split at e
    · rename_i ps hps
      unfold buildSliceV at e
      split at e
      · rename_i el he
        split at e
        · rename_i s z hs hz
          split at e
          · rename_i hc
            split at e
            · rename_i cs hf
              split at e
              · rename_i h' n' ho
                simp only [Option.some.injEq] at e; subst e
                exact Quiet.alloc ho fun y h2 m q => by
                  simp only [stepOp, hps, buildSliceV, he, hs, hz]
                  rw [if_pos hc]; simp only [hf, q]
              · cases e
            · cases e
          · cases e
        · cases e
      · cases e
    · cases e
  case load t a =>
    split at e
    · rename_i v hv
      obtain ⟨u, h1, rfl⟩ := okV_eq e
      exact .inl ⟨u, rfl, fun y hs => by simp only [stepOp, hv, loadAt_mono hs h1, okV]⟩
    · cases e
  case convert s d a =>
    split at e
    · rename_i v hv
      unfold convV at e
      split at e
      · rename_i h1 h2
        simp only [Option.some.injEq] at e; subst e
        exact .inl ⟨_, rfl, fun y hs => by simp only [stepOp, hv, convV, h1, h2]⟩
      · rename_i h1 h2
        simp only [Option.some.injEq] at e; subst e
        exact .inl ⟨_, rfl, fun y hs => by simp only [stepOp, hv, convV, h1, h2]⟩
      · rename_i h1 h2
        split at e
        · rename_i h3
          split at e
          · rename_i h' n' ho
            simp only [Option.some.injEq] at e; subst e
            exact Quiet.alloc ho fun y h2' m q => by simp only [stepOp, hv, convV, h1, h2, h3, q]
          · cases e
        · cases e
      · rename_i h1 h2
        split at e
        · rename_i h3
          simp only [Option.some.injEq] at e; subst e
          exact .inl ⟨_, rfl, fun y hs => by simp only [stepOp, hv, convV, h1, h2, h3]⟩
        · cases e
      · rename_i h1 h2
        split at e
        · rename_i h3
          split at e
          · rename_i h4
            split at e
            · simp only [Option.some.injEq] at e; subst e
              exact .inl ⟨_, rfl, fun y hs => by simp only [stepOp, hv, convV, h1, h2, h3]; rw [if_pos h4]⟩
            · rename_i hl
              split at e
              · rename_i cs hm
                split at e
                · rename_i bs hc
                  split at e
                  · rename_i s' ht
                    simp only [Option.some.injEq] at e; subst e
                    refine .inl ⟨_, rfl, fun y hs => ?_⟩
                    simp only [stepOp, hv, convV, h1, h2, h3]; rw [if_pos h4]
                    simp only [hs _ _ hm, hc, ht]
                  · cases e
                · cases e
              · cases e
          · cases e
        · cases e
      · cases e
    · cases e
  case makeMap t res =>
    cases res with
    | some _ => simp at e
    | none =>
      simp only at e
      split at e
      · rename_i h' n' ho
        simp only [Option.some.injEq] at e; subst e
        exact Quiet.alloc ho fun y h2 m q => by simp only [stepOp, q]
      · cases e
  case makeSlice t l c =>
    split at e
    · rename_i lv cv h1 h2
      unfold makeSliceV at e
      split at e
      · rename_i el k l0 k' c0 he
        split at e
        · rename_i i z h3 h4
          simp only at e
          split at e
          · rename_i hc
            split at e
            · rename_i h' n' ho
              simp only [Option.some.injEq] at e; subst e
              exact Quiet.alloc ho fun y h2' m q => by
                simp only [stepOp, h1, h2, makeSliceV, he, h3, h4]
                rw [if_pos hc]; simp only [q]
            · cases e
          · cases e
        · cases e
      · cases e
    · cases e
  case slice t a lo hi mx =>
    split at e
    · rename_i v lov hiv mxv h1 h2 h3 h4
      obtain ⟨u, h5, rfl⟩ := okV_eq e
      exact .inl ⟨u, rfl, fun y hs => by simp only [stepOp, h1, h2, h3, h4, sliceV_mono hs h5, okV]⟩
    · cases e
  case lookup t a k ok =>
    split at e
    · rename_i v kv h1 h2
      obtain ⟨u, h5, rfl⟩ := okV_eq e
      exact .inl ⟨u, rfl, fun y hs => by simp only [stepOp, h1, h2, lookupV_mono hs h5, okV]⟩
    · cases e
  case range t a =>
    split at e
    · rename_i v hv
      unfold rangeV at e
      split at e
      · rename_i s hu
        split at e
        · rename_i h' n' ho
          simp only [Option.some.injEq] at e; subst e
          exact Quiet.alloc ho fun y h2' m q => by simp only [stepOp, hv, rangeV, hu, q]
        · cases e
      · cases e
    · cases e
  case call c =>
    obtain ⟨cal, args, ats⟩ := c
    cases cal with
    | value f => simp at hq
    | invoke f m => simp at hq
    | builtin b =>
      simp only [callV] at e
      split at e
      · rename_i as ha
        cases b <;> simp only [] at hq <;> first | (cases hq; done) | skip
        · simp only [builtinV] at e
          obtain ⟨u, h5, rfl⟩ := okV_eq e
          exact .inl ⟨u, rfl, fun y hs => by simp only [stepOp, callV, ha, builtinV, lenV_mono hs h5, okV]⟩
        · simp only [builtinV] at e
          split at e
          · obtain ⟨u, h5, rfl⟩ := okV_eq e
            exact .inl ⟨u, rfl, fun y hs => by simp only [stepOp, callV, ha, builtinV, h5, okV]⟩
          · cases e
        · simp only [builtinV] at e
          split at e
          · obtain ⟨u, h5, rfl⟩ := okV_eq e
            exact .inl ⟨u, rfl, fun y hs => by simp only [stepOp, callV, ha, builtinV, h5, okV]⟩
          · cases e
      · cases e
  all_goals (cases e)
end
end Go.Eng
