/- The engine, part R: one operation of a statement that draws, in whatever order; the statement whole. No conditions: lemmas alone. -/
import Derived.Test.YtljiongmhoooiaaEngQ
namespace Go.Eng
open Go

section
variable {P : Program} {cf : CallF} {ops : Array Oper} {n0 N lim : Nat} {h0 : Tr O} {fr0 : Tr V} {val : Nat → V} {effs : List Eff} {d : Dr} {E0 : Env} {w0 : World} {ds0 : List Deferred}
variable {S : Nat → Bool} {ms J : Nat} {E : Env} {a : Act} {w : World} {Q : Exit → Act → World → Prop} {K : Act → World → Prop}

theorem Inv.domN {allocs : List (Nat × O)} (I : Inv ops n0 N lim h0 fr0 val effs allocs E0 w0 ds0 S ms J E a w) (hl : lim ≤ ops.size) : Dom E (effAt h0 (n0 + ops.size) effs J).2.2 := by
  intro k hk
  cases q : E.ι k with
  | none => rfl
  | some p =>
    have hc := I.cnt
    rcases I.dom k p q with h | ⟨i, b, _, h2, h3⟩ | h
    · omega
    · have := I.inS i h2; omega
    · omega

/-- what an operation sees lies in what is there -/
theorem Inv.sub (_hr : RegOk ops N) (hl : lim ≤ ops.size) (f : Facts P cf ops n0 h0 fr0 val effs lim d) (ht : ∀ y ∈ d.allocs, n0 + y.1 < top) (I : Inv ops n0 N lim h0 fr0 val effs d.allocs E0 w0 ds0 S ms J E a w)
    {anc : Nat} (ha : ∀ k, hasBit anc k = true → S k = true) :
    Sub (view n0 d.allocs (effAt h0 (n0 + ops.size) effs J).1 (effAt h0 (n0 + ops.size) effs J).2.1 anc) (view n0 d.allocs (effAt h0 (n0 + ops.size) effs J).1 (effAt h0 (n0 + ops.size) effs J).2.1 ms) := by
  intro k o hk
  rcases view_cases (x := (effAt h0 (n0 + ops.size) effs J).2.1) (m := (effAt h0 (n0 + ops.size) effs J).1) (anc := anc) ht f.one k with ⟨i, b, h1, h2, h3, h4, h5⟩ | ⟨h1, h2⟩
  · rw [h5] at hk; cases hk; subst h4
    exact view_alloc ht f.one h1 (by rw [I.bits]; exact ha i h2) h3
  · rw [h2] at hk
    rcases view_cases (x := (effAt h0 (n0 + ops.size) effs J).2.1) (m := (effAt h0 (n0 + ops.size) effs J).1) (anc := ms) ht f.one k with ⟨i, b, g1, g2, g3, g4, g5⟩ | ⟨g1, g2⟩
    · subst g4
      have hi := I.inS i (by rw [← I.bits]; exact g2)
      rw [I.free i (by omega) g3] at hk; cases hk
    · rw [g2]; exact hk

theorem bits_set (hb : ∀ i, hasBit ms i = S i) (j : Nat) : ∀ i, hasBit (ms ||| 2 ^ j) i = (S i || decide (i = j)) := by
  intro i; rw [hasBit_or, hasBit_pow, hb]
  by_cases q : i = j
  · subst q; simp
  · have : ¬ j = i := fun e => q e.symm
    simp [q, this]

/-- the invariant behind an operation that is no effect -/
theorem Inv.quiet (hr : RegOk ops N) (_hl : lim ≤ ops.size) (_f : Facts P cf ops n0 h0 fr0 val effs lim d) (I : Inv ops n0 N lim h0 fr0 val effs d.allocs E0 w0 ds0 S ms J E a w)
    {j : Nat} {o : Oper} (ho : ops[j]? = some o) (hj : j < lim) (hSj : S j = false) (hd : ∀ e ∈ o.after, Region.binds .any e = true → S e.on = true) (heff : ∀ (c : Nat) (e : Eff), effs[c]? = some e → e.1 ≠ j)
    {E' : Env} {w' : World} {v' : Value} (hv : vrel E' (val j) v') (hu : Upd E0 h0 w0 E' (view n0 d.allocs (effAt h0 (n0 + ops.size) effs J).1 (effAt h0 (n0 + ops.size) effs J).2.1 (ms ||| 2 ^ j)) w') (hle : E.le E')
    (hold : ∀ k, k < n0 → E'.ι k = E.ι k) (hdom : ∀ k p, E'.ι k = some p → E.ι k = some p ∨ (∃ b, (j, b) ∈ d.allocs ∧ k = n0 + j)) :
    Inv ops n0 N lim h0 fr0 val effs d.allocs E0 w0 ds0 (fun i => S i || decide (i = j)) (ms ||| 2 ^ j) J E' (a.put o.dst v') w' := by
  obtain ⟨g1, g2⟩ := I.frame hr ho hle hv
  refine ⟨bits_set I.bits j, fun i hi => ?_, fun i q hi hq e he hb => ?_, fun c e he => ?_, I.Jle, g1, g2, hu, fun k hk => by rw [hold k hk]; exact I.old k hk, fun k p hp => ?_, I.free, I.cnt, by rw [put_size]; exact I.size, by rw [put_defers]; exact I.dfs⟩
  · rcases Bool.or_eq_true _ _ |>.mp hi with h | h
    · exact I.inS i h
    · simp at h; omega
  · rcases Bool.or_eq_true _ _ |>.mp hi with h | h
    · rw [I.closed i q h hq e he hb]; rfl
    · simp at h; subst h; rw [ho] at hq; cases hq; rw [hd e he hb]; rfl
  · rw [← I.effJ c e he]
    simp [heff c e he]
  · rcases hdom k p hp with h | ⟨b, h1, h2⟩
    · rcases I.dom k p h with h | ⟨i, b, h1, h2, h3⟩ | h
      · exact .inl h
      · exact .inr (.inl ⟨i, b, h1, by rw [h2]; rfl, h3⟩)
      · exact .inr (.inr h)
    · exact .inr (.inl ⟨j, b, h1, by simp, h2⟩)

/-- a name of S that an effect cannot see is none of the memory that it leaves -/
theorem Inv.free' (hr : RegOk ops N) (hl : lim ≤ ops.size) (f : Facts P cf ops n0 h0 fr0 val effs lim d) (ht : ∀ y ∈ d.allocs, n0 + y.1 < top) (I : Inv ops n0 N lim h0 fr0 val effs d.allocs E0 w0 ds0 S ms J E a w)
    {anc : Nat} (ha : ∀ k, hasBit anc k = true → S k = true) (hm : ∀ k, hasBit (effAt h0 (n0 + ops.size) effs J).1 k = true → hasBit anc k = true) {E' : Env} {h : Tr O} {w' : World}
    (hu : Upd E (view n0 d.allocs (effAt h0 (n0 + ops.size) effs J).1 (effAt h0 (n0 + ops.size) effs J).2.1 anc) w E' h w') (hlow : ∀ k, k < (effAt h0 (n0 + ops.size) effs J).2.2 → E'.ι k = E.ι k) :
    ∀ i, i < ops.size → hasBit anc i = false → h.get (n0 + i) = none := by
  intro i hi hbit
  cases q : h.get (n0 + i) with
  | none => rfl
  | some o =>
    exfalso
    obtain ⟨b, s, h1, _⟩ := hu.good.rel _ o q
    have hlt : n0 + i < (effAt h0 (n0 + ops.size) effs J).2.2 := by have := I.cnt; omega
    have hE := h1
    rw [hlow _ hlt] at hE
    have hmi : hasBit (effAt h0 (n0 + ops.size) effs J).1 i = false := by
      cases c : hasBit (effAt h0 (n0 + ops.size) effs J).1 i with
      | false => rfl
      | true => rw [hm i c] at hbit; cases hbit
    rcases I.dom _ _ hE with c | ⟨i', b', k1, k2, k3⟩ | c
    · omega
    · have : i' = i := by omega
      subst this
      have hlive : (view n0 d.allocs (effAt h0 (n0 + ops.size) effs J).1 (effAt h0 (n0 + ops.size) effs J).2.1 ms).get (n0 + i') = some b' := view_alloc ht f.one k1 (by rw [I.bits]; exact k2) hmi
      obtain ⟨m0, s0, a1, a2⟩ := hu.img (n0 + i') b s (by rw [q]; simp) h1 (I.upd.good.bnd _ _ _ hE)
      have hx : (view n0 d.allocs (effAt h0 (n0 + ops.size) effs J).1 (effAt h0 (n0 + ops.size) effs J).2.1 anc).get (n0 + i') = none := by
        rcases view_cases (x := (effAt h0 (n0 + ops.size) effs J).2.1) (m := (effAt h0 (n0 + ops.size) effs J).1) (anc := anc) ht f.one (n0 + i') with ⟨i2, b2, g1, g2, g3, g4, g5⟩ | ⟨g1, g2⟩
        · have : i2 = i' := by omega
          subst this; rw [hbit] at g2; cases g2
        · rw [g2]; exact I.free i' hi hmi
      have hne : m0 ≠ n0 + i' := by intro e; subst e; exact a1 hx
      refine I.upd.good.inj m0 (n0 + i') b s0 s hne ?_ (by rw [hlive]; simp) a2 hE
      cases c : (view n0 d.allocs (effAt h0 (n0 + ops.size) effs J).1 (effAt h0 (n0 + ops.size) effs J).2.1 anc).get m0 with
      | none => exact absurd c a1
      | some o' => rw [I.sub hr hl f ht ha m0 o' c]; simp
    · omega

/-- the invariant behind an effect -/
theorem Inv.effect (hr : RegOk ops N) (hl : lim ≤ ops.size) (f : Facts P cf ops n0 h0 fr0 val effs lim d) (ht : ∀ y ∈ d.allocs, n0 + y.1 < top) (I : Inv ops n0 N lim h0 fr0 val effs d.allocs E0 w0 ds0 S ms J E a w)
    {j : Nat} {o : Oper} (ho : ops[j]? = some o) (hj : j < lim) (hSj : S j = false) (hd : ∀ e ∈ o.after, Region.binds .any e = true → S e.on = true) (hno : ∀ b, (j, b) ∉ d.allocs)
    {h : Tr O} {n : Nat} (he : effs[J]? = some (j, msk ops j, h, n)) {E' : Env} {w' : World} {v' : Value} (hv : vrel E' (val j) v')
    (hu : Upd E (view n0 d.allocs (effAt h0 (n0 + ops.size) effs J).1 (effAt h0 (n0 + ops.size) effs J).2.1 (msk ops j)) w E' h w')
    (hlow : ∀ k, k < (effAt h0 (n0 + ops.size) effs J).2.2 → E'.ι k = E.ι k) (hdom : Dom E' n) (hn : (effAt h0 (n0 + ops.size) effs J).2.2 ≤ n) :
    Inv ops n0 N lim h0 fr0 val effs d.allocs E0 w0 ds0 (fun i => S i || decide (i = j)) (ms ||| 2 ^ j) (J + 1) E' (a.put o.dst v') w' := by
  have hJ : J < effs.length := (List.getElem?_eq_some_iff.1 he).1
  have hat : effAt h0 (n0 + ops.size) effs (J + 1) = (msk ops j, h, n) := by simp only [effAt, he]
  have hanc : ∀ k, hasBit (msk ops j) k = true → S k = true := fun k hk => anc_ready hr I.closed ho hd hk
  have hm : ∀ k, hasBit (effAt h0 (n0 + ops.size) effs J).1 k = true → hasBit (msk ops j) k = true := by
    intro k hk
    cases J with
    | zero => simp [effAt, hasBit_zero] at hk
    | succ c =>
      have hc : effs[c]? = some (effs[c]'(by omega)) := List.getElem?_eq_getElem (by omega)
      simp only [effAt, hc] at hk
      obtain ⟨_, o', _, _, h3⟩ := f.effok c _ hc
      rw [h3] at hk
      exact msk_trans hr.edges j _ k (f.chain (c + 1) c _ _ (by omega) he hc) hk
  have hfree := I.free' hr hl f ht hanc hm hu hlow
  obtain ⟨g1, g2⟩ := I.frame hr ho hu.le hv
  have hc := I.cnt
  refine ⟨bits_set I.bits j, fun i hi => ?_, fun i q hi hq e he' hb => ?_, fun c e he' => ?_, hJ, g1, g2, ?_, fun k hk => ?_, fun k p hp => ?_, ?_, ?_, by rw [put_size]; exact I.size, by rw [put_defers]; exact I.dfs⟩
  · rcases Bool.or_eq_true _ _ |>.mp hi with h | h
    · exact I.inS i h
    · simp at h; omega
  · rcases Bool.or_eq_true _ _ |>.mp hi with h | h
    · rw [I.closed i q h hq e he' hb]; rfl
    · simp at h; subst h; rw [ho] at hq; cases hq; rw [hd e he' hb]; rfl
  · have h1 := I.effJ c e he'
    constructor
    · intro hs
      rcases Bool.or_eq_true _ _ |>.mp hs with q | q
      · have := h1.1 q; omega
      · simp at q
        by_cases hcJ : c < J + 1
        · exact hcJ
        · have := f.chain c J e _ (by omega) he' he
          simp only at this
          rw [q] at this
          have := msk_lt hr.edges j j this
          omega
    · intro hc'
      by_cases q : c < J
      · rw [h1.2 q]; rfl
      · have : c = J := by omega
        subst this
        rw [he] at he'; cases he'; simp
  · rw [hat]
    refine I.upd.trans (Upd.frame I.upd.good (I.sub hr hl f ht hanc) hu fun k => ?_)
    rcases view_cases (x := h) (m := msk ops j) (anc := ms ||| 2 ^ j) ht f.one k with ⟨i, b, k1, k2, k3, k4, k5⟩ | ⟨k1, k2⟩
    · simp only [k5]
      subst k4
      have hi : S i = true := by
        rw [bits_set I.bits] at k2
        rcases Bool.or_eq_true _ _ |>.mp k2 with q | q
        · exact q
        · simp at q; subst q; exact absurd k1 (hno b)
      have hmi : hasBit (effAt h0 (n0 + ops.size) effs J).1 i = false := by
        cases c : hasBit (effAt h0 (n0 + ops.size) effs J).1 i with
        | false => rfl
        | true => rw [hm i c] at k3; cases k3
      have hi' : i < ops.size := by have := I.inS i hi; omega
      rw [hfree i hi' k3]
      have hx : (view n0 d.allocs (effAt h0 (n0 + ops.size) effs J).1 (effAt h0 (n0 + ops.size) effs J).2.1 (msk ops j)).get (n0 + i) = none := by
        rcases view_cases (x := (effAt h0 (n0 + ops.size) effs J).2.1) (m := (effAt h0 (n0 + ops.size) effs J).1) (anc := msk ops j) ht f.one (n0 + i) with ⟨i2, b2, q1, q2, q3, q4, q5⟩ | ⟨q1, q2⟩
        · have : i2 = i := by omega
          subst this; rw [k3] at q2; cases q2
        · rw [q2]; exact I.free i hi' hmi
      simp only [hx, if_true]
      rw [view_alloc ht f.one k1 (by rw [I.bits]; exact hi) hmi]
    · rw [k2]
      cases hk : h.get k with
      | some o' => rfl
      | none =>
        simp only
        split
        · rename_i hx
          rcases view_cases (x := (effAt h0 (n0 + ops.size) effs J).2.1) (m := (effAt h0 (n0 + ops.size) effs J).1) (anc := ms) ht f.one k with ⟨i, b, q1, q2, q3, q4, q5⟩ | ⟨q1, q2⟩
          · exfalso
            subst q4
            cases c : hasBit (msk ops j) i with
            | false => exact k1 i b q1 (by rw [bits_set I.bits]; rw [I.bits] at q2; rw [q2]; rfl) c rfl
            | true =>
              rw [view_alloc ht f.one q1 c q3] at hx; cases hx
          · rw [q2]
            rcases view_cases (x := (effAt h0 (n0 + ops.size) effs J).2.1) (m := (effAt h0 (n0 + ops.size) effs J).1) (anc := msk ops j) ht f.one k with ⟨i, b, r1, r2, r3, r4, r5⟩ | ⟨r1, r2⟩
            · rw [r5] at hx; cases hx
            · rw [r2] at hx; exact hx.symm
        · rfl
  · rw [hlow k (by omega)]; exact I.old k hk
  · by_cases q : k < (effAt h0 (n0 + ops.size) effs J).2.2
    · rw [hlow k q] at hp
      rcases I.dom k p hp with h | ⟨i, b, h1, h2, h3⟩ | h
      · exact .inl h
      · exact .inr (.inl ⟨i, b, h1, by rw [h2]; rfl, h3⟩)
      · rw [hat]; exact .inr (.inr ⟨h.1, by show k < n; omega⟩)
    · rw [hat]
      refine .inr (.inr ⟨by omega, ?_⟩)
      by_cases q2 : k < n
      · exact q2
      · rw [hdom k (by omega)] at hp; cases hp
  · rw [hat]; exact fun i hi hb => hfree i hi hb
  · rw [hat]; simp only; omega
end
end Go.Eng
