/- The engine, part S: a statement that draws its order, whole. No conditions: lemmas alone. -/
import Derived.Test.YtljiongmhoooiaaEngR
namespace Go.Eng
open Go

section
variable {P : Program} {cf : CallF} {ops : Array Oper} {n0 N lim : Nat} {h0 : Tr O} {fr0 : Tr V} {val : Nat → V} {effs : List Eff} {d : Dr} {E0 : Env} {w0 : World} {ds0 : List Deferred}
variable {S : Nat → Bool} {ms J : Nat} {E : Env} {a : Act} {w : World} {Q : Exit → Act → World → Prop} {K : Act → World → Prop}

theorem Inv.step (hcf : CallOk P cf) (hr : RegOk ops N) (hl : lim ≤ ops.size) (f : Facts P cf ops n0 h0 fr0 val effs lim d) (ht : ∀ y ∈ d.allocs, n0 + y.1 < top) (I : Inv ops n0 N lim h0 fr0 val effs d.allocs E0 w0 ds0 S ms J E a w)
    {j : Nat} {o : Oper} (ho : ops[j]? = some o) (hj : j < lim) (hSj : S j = false) (hd : ∀ e ∈ o.after, Region.binds .any e = true → S e.on = true)
    (hk : ∀ J' E' a' w', Inv ops n0 N lim h0 fr0 val effs d.allocs E0 w0 ds0 (fun i => S i || decide (i = j)) (ms ||| 2 ^ j) J' E' a' w' → K a' w') : wpOp P ops Q j K a w := by
  have hjs : j < ops.size := by omega
  have hanc : ∀ k, hasBit (msk ops j) k = true → S k = true := fun k hk => anc_ready hr I.closed ho hd hk
  have hmj : hasBit (effAt h0 (n0 + ops.size) effs J).1 j = false := by
    cases c : hasBit (effAt h0 (n0 + ops.size) effs J).1 j with
    | false => rfl
    | true => rw [I.maskS hr f c] at hSj; cases hSj
  have hfresh : E.ι (n0 + j) = none := by
    cases q : E.ι (n0 + j) with
    | none => rfl
    | some p =>
      rcases I.dom _ p q with h | ⟨i, b, _, h2, h3⟩ | h
      · omega
      · have : i = j := by omega
        subst this; rw [hSj] at h2; cases h2
      · omega
  -- the new view, where nothing is new
  have hsame : (∀ b, (j, b) ∉ d.allocs) → ∀ k, (view n0 d.allocs (effAt h0 (n0 + ops.size) effs J).1 (effAt h0 (n0 + ops.size) effs J).2.1 (ms ||| 2 ^ j)).get k =
      (view n0 d.allocs (effAt h0 (n0 + ops.size) effs J).1 (effAt h0 (n0 + ops.size) effs J).2.1 ms).get k := by
    intro hno k
    rcases view_cases (x := (effAt h0 (n0 + ops.size) effs J).2.1) (m := (effAt h0 (n0 + ops.size) effs J).1) (anc := ms ||| 2 ^ j) ht f.one k with ⟨i, b, k1, k2, k3, k4, k5⟩ | ⟨k1, k2⟩
    · subst k4
      rw [k5, view_alloc ht f.one k1 ?_ k3]
      rw [bits_set I.bits] at k2
      rcases Bool.or_eq_true _ _ |>.mp k2 with q | q
      · rw [I.bits]; exact q
      · simp at q; subst q; exact absurd k1 (hno b)
    · rw [k2, view_other ht fun i b q1 q2 q3 => k1 i b q1 (by rw [bits_set I.bits]; rw [I.bits] at q2; rw [q2]; rfl) q3]
  unfold wpOp
  simp only [ho]
  by_cases hal : ∃ b, (j, b) ∈ d.allocs
  · -- a new block
    obtain ⟨b, hb⟩ := hal
    obtain ⟨fr, f1, f2, f3, f4, f5⟩ := f.allocok j o b hb ho
    rw [if_pos (I.wanted hr ho hSj hd f1 f2)]
    refine .inl (wp_val I.upd.good hfresh (I.opds hr ho hSj hd f1) (f5 _) fun E' w' v' q1 q2 q3 _ => hk J E' _ w' ?_)
    refine I.quiet hr hl f ho hj hSj hd (fun c e he hne => ?_) q1 ?_ q2.le (fun k hk => q3 k (by omega)) (fun k p hp => ?_)
    · obtain ⟨_, o', h1, h2, _⟩ := f.effok c e he
      rw [hne, ho] at h1; cases h1; rw [f3] at h2; cases h2
    · refine I.upd.trans (q2.ext fun k => ?_)
      by_cases hkj : k = n0 + j
      · subst hkj
        rw [Tr.get_set_same _ _ f4, view_alloc ht f.one hb (by rw [bits_set I.bits]; simp) hmj]
      · rw [Tr.get_set_ne _ _ f4 hkj]
        rcases view_cases (x := (effAt h0 (n0 + ops.size) effs J).2.1) (m := (effAt h0 (n0 + ops.size) effs J).1) (anc := ms ||| 2 ^ j) ht f.one k with ⟨i, b', k1, k2, k3, k4, k5⟩ | ⟨k1, k2⟩
        · subst k4
          rw [k5, view_alloc ht f.one k1 ?_ k3]
          rw [bits_set I.bits] at k2
          rcases Bool.or_eq_true _ _ |>.mp k2 with q | q
          · rw [I.bits]; exact q
          · simp at q; subst q; exact absurd rfl hkj
        · rw [k2, view_other ht fun i b q1 q2 q3 => k1 i b q1 (by rw [bits_set I.bits]; rw [I.bits] at q2; rw [q2]; rfl) q3]
    · by_cases hkj : k = n0 + j
      · exact .inr ⟨b, hb, hkj⟩
      · rw [q3 k hkj] at hp; exact .inl hp
  · have hno : ∀ b, (j, b) ∉ d.allocs := fun b q => hal ⟨b, q⟩
    obtain ⟨fr, f1, f2⟩ := f.opok j o hj ho
    -- an operation that only looks
    have look : wantedV ops o fr = some true → isEff o.op = false → stepOp P o fr (view n0 d.allocs (effAt h0 (n0 + ops.size) effs J).1 (effAt h0 (n0 + ops.size) effs J).2.1 ms) (n0 + j) =
        some (.val (val j) (view n0 d.allocs (effAt h0 (n0 + ops.size) effs J).1 (effAt h0 (n0 + ops.size) effs J).2.1 ms) (n0 + j)) →
        (if Region.wanted o (yielded ops a.tmps) = true then o.wp P a w K Q ∨ (o.asks P a w ∧ LetsOut Q) else K (a.put o.dst undef) w) := by
      intro hw hne hs
      rw [if_pos (I.wanted hr ho hSj hd f1 hw)]
      refine .inl (wp_val I.upd.good hfresh (I.opds hr ho hSj hd f1) hs fun E' w' v' q1 q2 q3 q4 => hk J E' _ w' ?_)
      rcases q4 with ⟨_, rfl⟩ | q4
      · refine I.quiet hr hl f ho hj hSj hd (fun c e he hne' => ?_) q1 (I.upd.trans (q2.ext (hsame hno))) q2.le (fun _ _ => rfl) (fun _ _ hp => .inl hp)
        obtain ⟨_, o', h1, h2, _⟩ := f.effok c e he
        rw [hne', ho] at h1; cases h1; rw [hne] at h2; cases h2
      · omega
    rcases f2 with ⟨hw, hv⟩ | ⟨_, _, b, q3, _⟩ | ⟨hw, hne, hall⟩ | ⟨hw, hne, hmem, hread⟩ | ⟨hw, heff, c, h, n, hc, hrun⟩
    · -- not wanted
      rw [if_neg (by rw [I.wanted hr ho hSj hd f1 hw]; simp)]
      refine hk J E _ w (I.quiet (v' := undef) hr hl f ho hj hSj hd (fun c e he hne' => ?_) (by rw [hv]; exact ⟨[], rfl, rfl⟩) (I.upd.ext (hsame hno)) E.le_refl (fun _ _ => rfl) (fun _ _ hp => .inl hp))
      -- an effect is wanted
      have hw1 := I.wanted hr ho hSj hd f1 hw
      have hcc := f.wantedEff c e o he (by rw [hne']; exact ho)
      obtain ⟨fr3, g3, g4⟩ := hcc
      rw [hne'] at g3
      have hw2 := I.wanted hr ho hSj hd g3 g4
      rw [hw1] at hw2; cases hw2
    · exact absurd q3 (hno b)
    · exact look hw hne (hall _)
    · have c1 : ∀ (c' : Nat) (e : Eff), J ≤ c' → effs[c']? = some e → hasBit (msk ops j) e.1 = false := by
        intro c' e hc' he
        cases q : hasBit (msk ops j) e.1 with
        | false => rfl
        | true => have := (I.effJ c' e he).1 (hanc _ q); omega
      have c2 : ∀ (c' : Nat) (e : Eff), c' < J → effs[c']? = some e → hasBit e.2.1 j = false := by
        intro c' e hc' he
        obtain ⟨_, o', _, _, h3⟩ := f.effok c' e he
        cases q : hasBit e.2.1 j with
        | false => rfl
        | true =>
          rw [h3] at q
          rw [I.anc hr ((I.effJ c' e he).2 hc') q] at hSj; cases hSj
      obtain ⟨y, hy⟩ := hread J I.Jle c1 c2
      rcases _root_.Go.Eng.quiet hne hy with ⟨u, h1, h2⟩ | ⟨u, b, h1, h2, h3⟩
      · cases h1
        exact look hw hne (h2 _ (I.sub hr hl f ht hanc))
      · simp only [R.val.injEq] at h2; omega
    · -- an effect: the next one
      have hcJ : c = J := by
        have h1 : ¬ c < J := by
          intro q
          have := (I.effJ c _ hc).2 q
          simp only at this; rw [hSj] at this; cases this
        by_cases q : J < c
        · have hJl : J < effs.length := by have := (List.getElem?_eq_some_iff.1 hc).1; omega
          have he : effs[J]? = some effs[J] := List.getElem?_eq_getElem hJl
          have := f.chain c J _ _ q hc he
          have := (I.effJ J _ he).1 (hanc _ this)
          omega
        · omega
      subst hcJ
      rw [if_pos (I.wanted hr ho hSj hd f1 hw)]
      have hgood := I.upd.good.sub (I.sub hr hl f ht hanc)
      have hdomN := I.domN hl
      refine .inl ?_
      simp only at hrun
      rcases hrun with hs | ⟨g, args, hs, hcall⟩
      · refine wp_val hgood (hdomN _ (Nat.le_refl _)) (I.opds hr ho hSj hd f1) hs fun E' w' v' q1 q2 q3 q4 => hk (c + 1) E' _ w' ?_
        refine I.effect hr hl f ht ho hj hSj hd hno hc q1 q2 (fun k hk => q3 k (by omega)) ?_ ?_
        · rcases q4 with ⟨rfl, rfl⟩ | rfl
          · exact hdomN
          · intro k hk; rw [q3 k (by omega)]; exact hdomN k (by omega)
        · rcases q4 with ⟨rfl, _⟩ | rfl <;> omega
      · refine wp_call hcf hgood hdomN (I.opds hr ho hSj hd f1) hs hcall fun E' w' q2 q3 q4 q5 => ?_
        intro v' q1
        exact hk (c + 1) E' _ w' (I.effect hr hl f ht ho hj hSj hd hno hc q1 q2 q3 q4 q5)
end
end Go.Eng
