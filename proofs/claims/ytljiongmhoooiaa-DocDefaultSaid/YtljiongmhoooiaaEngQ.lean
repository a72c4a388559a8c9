/- The engine, part Q: whatever order the model draws, it comes to what the evaluator's own order came to. No conditions: lemmas alone. -/
import Derived.Test.YtljiongmhoooiaaEngP
namespace Go.Eng
open Go

theorem Good.ext {E : Env} {h h' : Tr O} {w : World} (g : Good E h w) (e : ∀ k, h'.get k = h.get k) : Good E h' w := g.sub fun m o q => by rw [← e]; exact q

theorem Upd.ext {E E' : Env} {h h' h2 : Tr O} {w w' : World} (u : Upd E h w E' h' w') (e : ∀ k, h2.get k = h'.get k) : Upd E h w E' h2 w' :=
  ⟨u.le, u.good.ext e, u.size, u.tape, u.os, u.output, u.keep, fun m b s hm => u.img m b s (by rw [← e]; exact hm)⟩

/-- what is not looked at stays -/
theorem Upd.frame {E E' : Env} {h x y z : Tr O} {w w' : World} (g : Good E h w) (hx : Sub x h) (u : Upd E x w E' y w')
    (hz : ∀ k, z.get k = match y.get k with | some o => some o | none => if x.get k = none then h.get k else none) : Upd E h w E' z w' := by
  -- a name of h that x lacks is none of y's, and its block is left as it is
  have rest : ∀ k o, h.get k = some o → x.get k = none → ∃ b s, E.ι k = some (b, s) ∧ E'.ι k = some (b, s) ∧ E'.β b = E.β b ∧ b < w.heap.size ∧ w'.heap[b]? = w.heap[b]? ∧ (∀ m s', y.get m ≠ none → E'.ι m ≠ some (b, s')) ∧ orel E w b s o := by
    intro k o hk hxk
    obtain ⟨b, s, h1, h2⟩ := g.rel k o hk
    have hb := g.bnd k b s h1
    have hno : ∀ m s', x.get m ≠ none → E.ι m ≠ some (b, s') := by
      intro m s' hm q
      have hmk : m ≠ k := by intro e; subst e; exact hm hxk
      refine g.inj m k b s' s hmk ?_ (by rw [hk]; simp) q h1
      cases hxm : x.get m with
      | none => exact absurd hxm hm
      | some o' => rw [hx m o' hxm]; simp
    refine ⟨b, s, h1, (u.le k b s h1).1, (u.le k b s h1).2, hb, u.keep b hb hno, ?_, h2⟩
    intro m s' hm q
    obtain ⟨m0, s0, a1, a2⟩ := u.img m b s' hm q hb
    exact hno m0 s0 a1 a2
  have hyk : ∀ k o, h.get k = some o → x.get k = none → y.get k = none := by
    intro k o hk hxk
    obtain ⟨b, s, _, h2, _, _, _, h6, _⟩ := rest k o hk hxk
    cases q : y.get k with
    | none => rfl
    | some o' => exact absurd h2 (h6 k s (by rw [q]; simp))
  refine ⟨u.le, ⟨?_, ?_, u.good.bnd⟩, u.size, u.tape, u.os, u.output, ?_, ?_⟩
  · intro m o hm
    rw [hz] at hm
    split at hm
    · rename_i o' hy; cases hm; exact u.good.rel m o hy
    · split at hm
      · rename_i hxm
        obtain ⟨b, s, h1, h2, h3, h4, h5, h6, h7⟩ := rest m o hm hxm
        exact ⟨b, s, h2, orel_mono u.le h3 h5 h7⟩
      · cases hm
  · intro m m' b s s' hne hm hm' e e'
    rw [hz] at hm hm'
    cases ym : y.get m with
    | some o =>
      cases ym' : y.get m' with
      | some o' => exact u.good.inj m m' b s s' hne (by rw [ym]; simp) (by rw [ym']; simp) e e'
      | none =>
        simp only [ym'] at hm'
        split at hm'
        · rename_i hxm
          cases hh : h.get m' with
          | none => exact hm' hh
          | some o' =>
            obtain ⟨b', t, h1, h2, h3, h4, h5, h6, h7⟩ := rest m' o' hh hxm
            rw [h2] at e'; cases e'
            exact h6 m s (by rw [ym]; simp) e
        · exact hm' rfl
    | none =>
      simp only [ym] at hm
      split at hm
      · rename_i hxm
        cases hh : h.get m with
        | none => exact hm hh
        | some o =>
          obtain ⟨b', t, h1, h2, h3, h4, h5, h6, h7⟩ := rest m o hh hxm
          rw [h2] at e; cases e
          cases ym' : y.get m' with
          | some o' => exact h6 m' s' (by rw [ym']; simp) e'
          | none =>
            simp only [ym'] at hm'
            split at hm'
            · rename_i hxm'
              cases hh' : h.get m' with
              | none => exact hm' hh'
              | some o' =>
                obtain ⟨b2, t2, k1, k2, k3, k4, k5, k6, k7⟩ := rest m' o' hh' hxm'
                rw [k2] at e'; cases e'
                exact g.inj m m' _ _ _ hne (by rw [hh]; simp) (by rw [hh']; simp) h1 k1
            · exact hm' rfl
      · exact hm rfl
  · intro b hb hn
    refine u.keep b hb fun m s hm => hn m s ?_
    cases hxm : x.get m with
    | none => exact absurd hxm hm
    | some o => rw [hx m o hxm]; simp
  · intro m b s hm e hb
    rw [hz] at hm
    cases ym : y.get m with
    | some o =>
      obtain ⟨m0, s0, a1, a2⟩ := u.img m b s (by rw [ym]; simp) e hb
      refine ⟨m0, s0, ?_, a2⟩
      cases hxm : x.get m0 with
      | none => exact absurd hxm a1
      | some o => rw [hx m0 o hxm]; simp
    | none =>
      simp only [ym] at hm
      split at hm
      · rename_i hxm
        cases hh : h.get m with
        | none => exact absurd hh hm
        | some o =>
          obtain ⟨b', t, h1, h2, _⟩ := rest m o hh hxm
          rw [h2] at e; cases e
          exact ⟨m, _, by rw [hh]; simp, h1⟩
      · exact absurd rfl hm

theorem view_get {n0 : Nat} {m : Nat} {x : Tr O} {anc k : Nat} : ∀ (l : List (Nat × O)), (∀ y ∈ l, n0 + y.1 < top) →
    (view n0 l m x anc).get k = match l.find? (fun y => Nat.beq (n0 + y.1) k && hasBit anc y.1 && !hasBit m y.1) with | some y => some y.2 | none => x.get k
  | [], _ => rfl
  | (i, o) :: l, ht => by
    have ih := view_get (k := k) (m := m) (x := x) (anc := anc) l fun y hy => ht y (by simp [hy])
    simp only [view]
    by_cases hb : (hasBit anc i && !hasBit m i) = true
    · rw [if_pos hb, Tr.get_set _ _ _ (ht (i, o) (by simp))]
      by_cases q : k = n0 + i
      · subst q
        rw [if_pos rfl, List.find?_cons_of_pos (by simp only [Nat.beq_refl, Bool.true_and]; exact hb)]
      · rw [if_neg q, ih, List.find?_cons_of_neg]
        have : Nat.beq (n0 + i) k = false := by
          cases hh : Nat.beq (n0 + i) k with
          | false => rfl
          | true => exact absurd (Nat.eq_of_beq_eq_true hh).symm q
        simp [this]
    · rw [if_neg hb, ih, List.find?_cons_of_neg]
      intro q
      simp only [Bool.and_assoc] at q
      rw [Bool.and_eq_true] at q
      exact hb q.2

theorem view_alloc {n0 : Nat} {m : Nat} {x : Tr O} {anc i : Nat} {b : O} {l : List (Nat × O)} (ht : ∀ y ∈ l, n0 + y.1 < top) (one : ∀ (j : Nat) (b b' : O), (j, b) ∈ l → (j, b') ∈ l → b = b') (hi : (i, b) ∈ l)
    (ha : hasBit anc i = true) (hm : hasBit m i = false) : (view n0 l m x anc).get (n0 + i) = some b := by
  rw [view_get l ht]
  cases hf : l.find? (fun y => Nat.beq (n0 + y.1) (n0 + i) && hasBit anc y.1 && !hasBit m y.1) with
  | none =>
    have := List.find?_eq_none.1 hf (i, b) hi
    simp [Nat.beq_refl, ha, hm] at this
  | some y =>
    have h1 := List.mem_of_find?_eq_some hf
    have h2 := List.find?_some hf
    simp only [Bool.and_eq_true] at h2
    have h3 := Nat.eq_of_beq_eq_true h2.1.1
    have h4 : y.1 = i := by omega
    obtain ⟨y1, y2⟩ := y
    simp only at h4; subst h4
    simp only [one y1 y2 b h1 hi]

theorem view_other {n0 : Nat} {m : Nat} {x : Tr O} {anc k : Nat} {l : List (Nat × O)} (ht : ∀ y ∈ l, n0 + y.1 < top) (h : ∀ i b, (i, b) ∈ l → hasBit anc i = true → hasBit m i = false → k ≠ n0 + i) : (view n0 l m x anc).get k = x.get k := by
  rw [view_get l ht]
  cases hf : l.find? (fun y => Nat.beq (n0 + y.1) k && hasBit anc y.1 && !hasBit m y.1) with
  | none => rfl
  | some y =>
    have h1 := List.mem_of_find?_eq_some hf
    have h2 := List.find?_some hf
    simp only [Bool.and_eq_true, Bool.not_eq_true'] at h2
    exact absurd (Nat.eq_of_beq_eq_true h2.1.1).symm (h y.1 y.2 h1 h2.1.2 h2.2)

/-- a view, name by name -/
theorem view_cases {n0 : Nat} {m : Nat} {x : Tr O} {anc : Nat} {l : List (Nat × O)} (ht : ∀ y ∈ l, n0 + y.1 < top) (one : ∀ (j : Nat) (b b' : O), (j, b) ∈ l → (j, b') ∈ l → b = b') (k : Nat) :
    (∃ i b, (i, b) ∈ l ∧ hasBit anc i = true ∧ hasBit m i = false ∧ k = n0 + i ∧ (view n0 l m x anc).get k = some b) ∨
    ((∀ i b, (i, b) ∈ l → hasBit anc i = true → hasBit m i = false → k ≠ n0 + i) ∧ (view n0 l m x anc).get k = x.get k) := by
  by_cases h : ∃ i b, (i, b) ∈ l ∧ hasBit anc i = true ∧ hasBit m i = false ∧ k = n0 + i
  · obtain ⟨i, b, h1, h2, h3, rfl⟩ := h
    exact .inl ⟨i, b, h1, h2, h3, rfl, view_alloc ht one h1 h2 h3⟩
  · have h' : ∀ i b, (i, b) ∈ l → hasBit anc i = true → hasBit m i = false → k ≠ n0 + i := fun i b h1 h2 h3 q => h ⟨i, b, h1, h2, h3, q⟩
    exact .inr ⟨h', view_other ht h'⟩

def xrel (E : Env) : X → Exit → Prop
  | .normal, .normal => True
  | .exit i, .exit j => i = j
  | .ret, .ret => True
  | .panic v, .panic chain => ∃ v', vrel E v v' ∧ chain = [{ v := v', recovered := false }]
  | _, _ => False

section
variable {P : Program} {cf : CallF} {ops : Array Oper} {n0 N lim : Nat} {h0 : Tr O} {fr0 : Tr V} {val : Nat → V} {effs : List Eff} {d : Dr} {E0 : Env} {w0 : World} {ds0 : List Deferred}

/-- the state of the model's run, when the operations of S have been carried out -/
structure Inv (ops : Array Oper) (n0 N lim : Nat) (h0 : Tr O) (fr0 : Tr V) (val : Nat → V) (effs : List Eff) (allocs : List (Nat × O)) (E0 : Env) (w0 : World) (ds0 : List Deferred)
    (S : Nat → Bool) (ms J : Nat) (E : Env) (a : Act) (w : World) : Prop where
  bits : ∀ i, hasBit ms i = S i
  inS : ∀ i, S i = true → i < lim
  closed : ∀ (j : Nat) (o : Oper), S j = true → ops[j]? = some o → ∀ e ∈ o.after, Region.binds .any e = true → S e.on = true
  effJ : ∀ (c : Nat) (e : Eff), effs[c]? = some e → (S e.1 = true ↔ c < J)
  Jle : J ≤ effs.length
  f1 : ∀ (j : Nat) (o : Oper) (t : Nat), S j = true → ops[j]? = some o → o.dst = some t → ∃ v', a.tmps[t]? = some v' ∧ vrel E (val j) v'
  f2 : ∀ (t : Nat) (v : V), fr0.get t = some v → (∀ (j : Nat) (o : Oper), S j = true → ops[j]? = some o → o.dst ≠ some t) → ∃ v', a.tmps[t]? = some v' ∧ vrel E v v'
  upd : Upd E0 h0 w0 E (view n0 allocs (effAt h0 (n0 + ops.size) effs J).1 (effAt h0 (n0 + ops.size) effs J).2.1 ms) w
  old : ∀ k, k < n0 → E.ι k = E0.ι k
  dom : ∀ k p, E.ι k = some p → k < n0 ∨ (∃ i b, (i, b) ∈ allocs ∧ S i = true ∧ k = n0 + i) ∨ (n0 + ops.size ≤ k ∧ k < (effAt h0 (n0 + ops.size) effs J).2.2)
  free : ∀ i, i < ops.size → hasBit (effAt h0 (n0 + ops.size) effs J).1 i = false → (effAt h0 (n0 + ops.size) effs J).2.1.get (n0 + i) = none
  cnt : n0 + ops.size ≤ (effAt h0 (n0 + ops.size) effs J).2.2
  size : a.tmps.size = N
  dfs : a.defers = ds0

theorem Inv.anc (hr : RegOk ops N) {allocs : List (Nat × O)} {S : Nat → Bool} {ms J : Nat} {E : Env} {a : Act} {w : World} (I : Inv ops n0 N lim h0 fr0 val effs allocs E0 w0 ds0 S ms J E a w) {j k : Nat} (hj : S j = true) (h : hasBit (msk ops j) k = true) : S k = true :=
  msk_closed hr.edges (S := fun i => S i = true) (fun j o hs ho e he hb => I.closed j o hs ho e he hb) j k hj h

theorem anc_ready (hr : RegOk ops N) {S : Nat → Bool} (hS : ∀ (j : Nat) (o : Oper), S j = true → ops[j]? = some o → ∀ e ∈ o.after, Region.binds .any e = true → S e.on = true) {j k : Nat} {o : Oper} (ho : ops[j]? = some o)
    (hd : ∀ e ∈ o.after, Region.binds .any e = true → S e.on = true) (h : hasBit (msk ops j) k = true) : S k = true := by
  obtain ⟨e, h1, h2, h3⟩ := (msk_bit hr.edges ho).1 h
  rcases h3 with rfl | h3
  · exact hd e h1 h2
  · exact msk_closed hr.edges (S := fun i => S i = true) hS e.on k (hd e h1 h2) h3

/-- the effects' mask lies within S -/
theorem Inv.maskS (hr : RegOk ops N) (f : Facts P cf ops n0 h0 fr0 val effs lim d) {S : Nat → Bool} {ms J : Nat} {E : Env} {a : Act} {w : World}
    (I : Inv ops n0 N lim h0 fr0 val effs d.allocs E0 w0 ds0 S ms J E a w) {i : Nat} (h : hasBit (effAt h0 (n0 + ops.size) effs J).1 i = true) : S i = true := by
  cases J with
  | zero => simp [effAt, hasBit_zero] at h
  | succ c =>
    have hc : c < effs.length := by have := I.Jle; omega
    have he : effs[c]? = some effs[c] := List.getElem?_eq_getElem hc
    simp only [effAt, he] at h
    obtain ⟨_, o, _, _, h3⟩ := f.effok c _ he
    rw [h3] at h
    exact I.anc hr ((I.effJ c _ he).2 (by omega)) h

/-- what an operation reads of the frame -/
theorem Inv.use (hr : RegOk ops N) {allocs : List (Nat × O)} {S : Nat → Bool} {ms J : Nat} {E : Env} {a : Act} {w : World} (I : Inv ops n0 N lim h0 fr0 val effs allocs E0 w0 ds0 S ms J E a w)
    {j : Nat} {o : Oper} (ho : ops[j]? = some o) (hj : S j = false) (hd : ∀ e ∈ o.after, Region.binds .any e = true → S e.on = true) {fr : Tr V} (hf : FrAt ops fr0 val j fr) {t : Nat} (ht : t ∈ usesOf ops o) {v : V} (hv : fr.get t = some v) :
    ∃ v', a.tmps[t]? = some v' ∧ vrel E v v' := by
  by_cases h : ∃ i q, i < j ∧ ops[i]? = some q ∧ q.dst = some t
  · obtain ⟨i, q, h1, h2, h3⟩ := h
    have hu := hr.use i j q o t h2 ho (by omega) h3 ht
    rw [if_pos h1] at hu
    have hi := anc_ready hr I.closed ho hd hu
    have := hf.new i q t h1 h2 h3
    rw [this] at hv; cases hv
    exact I.f1 i q t hi h2 h3
  · have hold := hf.old t fun i q hi hq hd => h ⟨i, q, hi, hq, hd⟩
    rw [hold] at hv
    refine I.f2 t v hv fun i q hi hq hdt => ?_
    have hne : i ≠ j := by intro e; subst e; rw [hj] at hi; cases hi
    have hu := hr.use i j q o t hq ho hne hdt ht
    split at hu
    · rename_i hlt; exact h ⟨i, q, hlt, hq, hdt⟩
    · have := I.anc hr hi hu
      rw [hj] at this; cases this

theorem Inv.opds (hr : RegOk ops N) {allocs : List (Nat × O)} {S : Nat → Bool} {ms J : Nat} {E : Env} {a : Act} {w : World} (I : Inv ops n0 N lim h0 fr0 val effs allocs E0 w0 ds0 S ms J E a w)
    {j : Nat} {o : Oper} (ho : ops[j]? = some o) (hj : S j = false) (hd : ∀ e ∈ o.after, Region.binds .any e = true → S e.on = true) {fr : Tr V} (hf : FrAt ops fr0 val j fr) : ∀ x ∈ o.op.operands, OpdRel E fr a.eval x := by
  intro x hx v hv
  cases x with
  | tmp t =>
    have ht : t ∈ usesOf ops o := by
      unfold usesOf
      refine List.mem_append_left _ (List.mem_filterMap.2 ⟨.tmp t, by simpa using hx, rfl⟩)
    obtain ⟨v', h1, h2⟩ := I.use hr ho hj hd hf ht hv
    simp only [Act.eval, Array.getD_eq_getD_getElem?, h1]; exact h2
  | const c => exact ofVal_rel hv
  | func f => simp only [opd, Option.some.injEq] at hv; subst hv; exact ⟨[], [], rfl, rfl, rfl⟩
  | global g => simp [opd] at hv

theorem Inv.wanted (hr : RegOk ops N) {allocs : List (Nat × O)} {S : Nat → Bool} {ms J : Nat} {E : Env} {a : Act} {w : World} (I : Inv ops n0 N lim h0 fr0 val effs allocs E0 w0 ds0 S ms J E a w)
    {j : Nat} {o : Oper} (ho : ops[j]? = some o) (hj : S j = false) (hd : ∀ e ∈ o.after, Region.binds .any e = true → S e.on = true) {fr : Tr V} (hf : FrAt ops fr0 val j fr) {b : Bool} (e : wantedV ops o fr = some b) :
    Region.wanted o (yielded ops a.tmps) = b := by
  refine wanted_rel (E := E) (fun g want q t hg hq hdq v hv => ?_) e
  have ht : t ∈ usesOf ops o := by
    unfold usesOf
    refine List.mem_append_right _ ?_
    simp only [hg, hq, hdq]; simp
  exact I.use hr ho hj hd hf ht hv

/-- the frame behind an operation -/
theorem Inv.frame (hr : RegOk ops N) {allocs : List (Nat × O)} {S : Nat → Bool} {ms J : Nat} {E E' : Env} {a : Act} {w : World} (I : Inv ops n0 N lim h0 fr0 val effs allocs E0 w0 ds0 S ms J E a w)
    {j : Nat} {o : Oper} (ho : ops[j]? = some o) (hle : E.le E') {v' : Value} (hv : vrel E' (val j) v') :
    (∀ (k : Nat) (q : Oper) (t : Nat), (S k || decide (k = j)) = true → ops[k]? = some q → q.dst = some t → ∃ v2, (a.put o.dst v').tmps[t]? = some v2 ∧ vrel E' (val k) v2) ∧
    (∀ (t : Nat) (v : V), fr0.get t = some v → (∀ (k : Nat) (q : Oper), (S k || decide (k = j)) = true → ops[k]? = some q → q.dst ≠ some t) → ∃ v2, (a.put o.dst v').tmps[t]? = some v2 ∧ vrel E' v v2) := by
  have hdst : dstOk a.tmps.size o.dst := by rw [I.size]; exact hr.dst j o ho
  refine ⟨fun k q t hk hq ht => ?_, fun t v hv0 ht => ?_⟩
  · by_cases c : k = j
    · subst c
      rw [ho] at hq; cases hq
      have := hdst t ht
      exact ⟨v', by simp [Act.put, ht, this], hv⟩
    · have hk' : S k = true := by simpa [c] using hk
      obtain ⟨v2, h1, h2⟩ := I.f1 k q t hk' hq ht
      refine ⟨v2, ?_, vrel_mono hle _ _ h2⟩
      cases hd : o.dst with
      | none => exact h1
      | some u =>
        have hne : u ≠ t := by intro e; subst e; exact c (hr.one k j q o u hq ho ht hd)
        simp [Act.put, hne, h1]
  · obtain ⟨v2, h1, h2⟩ := I.f2 t v hv0 fun k q hk hq => ht k q (by simp [hk]) hq
    refine ⟨v2, ?_, vrel_mono hle _ _ h2⟩
    cases hd : o.dst with
    | none => exact h1
    | some u =>
      have hne : u ≠ t := by intro e; subst e; exact ht j o (by simp) ho hd
      simp [Act.put, hne, h1]
end
end Go.Eng
