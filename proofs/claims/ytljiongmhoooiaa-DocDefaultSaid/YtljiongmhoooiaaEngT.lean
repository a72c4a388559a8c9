/- The engine, part T: the rule for a statement that draws. No conditions: lemmas alone. -/
import Derived.Test.YtljiongmhoooiaaEngS
namespace Go.Eng
open Go

theorem filter_lt {α : Type} {p q : α → Bool} {x : α} : ∀ {l : List α}, x ∈ l → p x = true → q x = false → (∀ y, q y = true → p y = true) → (l.filter q).length < (l.filter p).length
  | [], h, _, _, _ => by simp at h
  | y :: l, h, hp, hq, hm => by
    have hle : (l.filter q).length ≤ (l.filter p).length := by
      clear h
      induction l with
      | nil => simp
      | cons z l ih =>
        simp only [List.filter_cons]
        by_cases c : q z = true
        · rw [if_pos c, if_pos (hm z c)]; simp; exact ih
        · rw [if_neg c]
          by_cases c2 : p z = true
          · rw [if_pos c2]; simp; omega
          · rw [if_neg c2]; exact ih
    simp only [List.filter_cons]
    rcases List.mem_cons.1 h with rfl | h
    · rw [if_pos hp, if_neg (by rw [hq]; simp)]; simp; omega
    · have ih := filter_lt h hp hq hm
      by_cases c : q y = true
      · rw [if_pos c, if_pos (hm y c)]; simp; exact ih
      · rw [if_neg c]
        by_cases c2 : p y = true
        · rw [if_pos c2]; simp; omega
        · rw [if_neg c2]; exact ih

def unl (n : Nat) (listed : Array Bool) : Nat := ((List.range n).filter fun i => !listed.getD i false).length

theorem getD_set' {listed : Array Bool} {j : Nat} (hj : j < listed.size) (i : Nat) : (listed.setIfInBounds j true).getD i false = (listed.getD i false || decide (i = j)) := by
  simp only [Array.getD_eq_getD_getElem?, Array.getElem?_setIfInBounds]
  by_cases q : i = j
  · subst q; simp [hj]
  · have : ¬ j = i := fun e => q e.symm
    simp [q, this]

section
variable {P : Program} {cf : CallF} {ops : Array Oper} {n0 N lim : Nat} {h0 : Tr O} {fr0 : Tr V} {val : Nat → V} {effs : List Eff} {d : Dr} {E0 : Env} {w0 : World} {ds0 : List Deferred}
variable {Q : Exit → Act → World → Prop}

theorem any_sound (hcf : CallOk P cf) (hr : RegOk ops N) (hl : lim ≤ ops.size) (f : Facts P cf ops n0 h0 fr0 val effs lim d) (ht : ∀ y ∈ d.allocs, n0 + y.1 < top)
    (hQ : lim = ops.size → ∀ S ms J E a w, Inv ops n0 N lim h0 fr0 val effs d.allocs E0 w0 ds0 S ms J E a w → (∀ i, i < ops.size → S i = true) → Q .normal a w)
    (hP : lim < ops.size → lim + 1 = ops.size ∧ ∀ S ms J E a w o, Inv ops n0 N lim h0 fr0 val effs d.allocs E0 w0 ds0 S ms J E a w → ops[lim]? = some o →
      (∀ e ∈ o.after, Region.binds .any e = true → S e.on = true) → ∀ K, wpOp P ops Q lim K a w) :
    ∀ (fuel : Nat) (listed : Array Bool) (ms J : Nat) (E : Env) (a : Act) (w : World), listed.size = ops.size → unl ops.size listed ≤ fuel →
      Inv ops n0 N lim h0 fr0 val effs d.allocs E0 w0 ds0 (fun i => listed.getD i false) ms J E a w → wpAny P .any ops Q fuel listed a w := by
  -- where nothing is ready all is listed
  have done : ∀ (listed : Array Bool) (ms J : Nat) (E : Env) (a : Act) (w : World), listed.size = ops.size → Inv ops n0 N lim h0 fr0 val effs d.allocs E0 w0 ds0 (fun i => listed.getD i false) ms J E a w →
      Region.ready .any ops listed = [] → Q .normal a w := by
    intro listed ms J E a w hs I hready
    have all : ∀ i, i < ops.size → listed.getD i false = true := by
      intro i
      induction i using Nat.strongRecOn with
      | _ i ih =>
        intro hi
        cases q : listed.getD i false with
        | true => rfl
        | false =>
          exfalso
          have ho : ops[i]? = some ops[i] := Array.getElem?_eq_getElem hi
          have : i ∈ Region.ready .any ops listed := mem_ready.2 ⟨by
            rw [Array.getD_eq_getD_getElem?, Array.getElem?_eq_getElem (by omega)] at q ⊢; exact q, ops[i], ho, fun e he hb => by
            have := hr.edges i _ ho e he hb
            exact ih e.on this (by omega)⟩
          rw [hready] at this; simp at this
    have hlim : lim = ops.size := by
      by_cases q : lim < ops.size
      · have := I.inS lim (all lim q); omega
      · omega
    exact hQ hlim _ ms J E a w I all
  intro fuel
  induction fuel with
  | zero =>
    intro listed ms J E a w hs hu I
    have hready : Region.ready .any ops listed = [] := by
      rw [List.eq_nil_iff_forall_not_mem]
      intro j hj
      obtain ⟨h1, o, ho, _⟩ := mem_ready.1 hj
      have hjs := (Array.getElem?_eq_some_iff.1 ho).1
      have hz : unl ops.size listed = 0 := by omega
      unfold unl at hz
      have := List.eq_nil_iff_length_eq_zero.2 hz
      have hm : j ∈ (List.range ops.size).filter fun i => !listed.getD i false := List.mem_filter.2 ⟨List.mem_range.2 hjs, by
        rw [Array.getD_eq_getD_getElem?, Array.getElem?_eq_getElem (by omega)] at h1 ⊢
        simp at h1; simp [h1]⟩
      rw [this] at hm; simp at hm
    exact ⟨hready, done listed ms J E a w hs I hready⟩
  | succ fuel ih =>
    intro listed ms J E a w hs hu I
    refine ⟨done listed ms J E a w hs I, fun j hj => ?_⟩
    obtain ⟨h1, o, ho, hd⟩ := mem_ready.1 hj
    have hjs := (Array.getElem?_eq_some_iff.1 ho).1
    have hSj : listed.getD j false = false := by
      rw [Array.getD_eq_getD_getElem?, Array.getElem?_eq_getElem (by omega)] at h1 ⊢; exact h1
    by_cases hjl : j < lim
    · refine I.step hcf hr hl f ht ho hjl hSj hd fun J' E' a' w' I' => ?_
      refine ih _ (ms ||| 2 ^ j) J' E' a' w' (by simp; exact hs) ?_ ?_
      · have : unl ops.size (listed.setIfInBounds j true) < unl ops.size listed := by
          refine filter_lt (x := j) (List.mem_range.2 hjs) (by rw [hSj]; rfl) (by rw [getD_set' (by omega)]; simp) fun y hy => ?_
          rw [getD_set' (by omega)] at hy
          simp at hy ⊢; exact hy.1
        omega
      · have : (fun i => (listed.setIfInBounds j true).getD i false) = fun i => (listed.getD i false || decide (i = j)) := funext fun i => getD_set' (by omega) i
        rw [this]; exact I'
    · have hlt : lim < ops.size := by omega
      obtain ⟨p1, p2⟩ := hP hlt
      have : j = lim := by omega
      subst this
      exact p2 _ ms J E a w o I ho hd _
end

theorem wp_drawn {P : Program} {cf : CallF} {ops : Array Oper} {N id : Nat} {s s' : St} {x : X} {E0 : Env} {a0 : Act} {w0 : World} {Q : Exit → Act → World → Prop} (hcf : CallOk P cf) (hr : RegOk ops N) (hm : P.follows .mixedOrders = true)
    (e : drawn P cf ops s = some (x, s')) (g : Good E0 s.h w0) (hd : Dom E0 s.n) (hf : frel E0 s.fr a0) (hN : a0.tmps.size = N)
    (hq : ∀ E' a' w' x', Upd E0 s.h w0 E' s'.h w' → (∀ k, k < s.n → E'.ι k = E0.ι k) → Dom E' s'.n → s.n ≤ s'.n → frel E' s'.fr a' → a'.tmps.size = N → a'.defers = a0.defers → s'.dfs = s.dfs → xrel E' x x' → Q x' a' w') :
    (Code.region id ops true).wp P Q a0 w0 := by
  refine wp_region_any hm ?_
  unfold drawn at e
  split at e
  · rename_i htop
    have init := facts_init (P := P) (cf := cf) (ops := ops) (n0 := s.n) s.fr s.h
    -- the invariant at the start
    have start : ∀ (lim : Nat) (val : Nat → V) (effs : List Eff) (allocs : List (Nat × O)), Inv ops s.n N lim s.h s.fr val effs allocs E0 w0 a0.defers (fun i => (Array.replicate ops.size false).getD i false) 0 0 E0 a0 { w0 with drawn := w0.drawn + 1 } := by
      intro lim val effs allocs
      have hS : ∀ i, (Array.replicate ops.size false).getD i false = false := by
        intro i; rw [Array.getD_eq_getD_getElem?]
        by_cases q : i < ops.size
        · rw [Array.getElem?_eq_getElem (by simpa using q)]; simp
        · rw [Array.getElem?_eq_none (by simpa using q)]; rfl
      have hv0 : ∀ k, (view s.n allocs (effAt s.h (s.n + ops.size) effs 0).1 (effAt s.h (s.n + ops.size) effs 0).2.1 0).get k = s.h.get k := by
        intro k
        have : ∀ l : List (Nat × O), view s.n l (effAt s.h (s.n + ops.size) effs 0).1 (effAt s.h (s.n + ops.size) effs 0).2.1 0 = s.h := by
          intro l
          induction l with
          | nil => rfl
          | cons y l ih => obtain ⟨i, b⟩ := y; simp only [view, hasBit_zero, Bool.false_and, Bool.false_eq_true, if_false]; exact ih
        rw [this]
      refine ⟨fun i => by rw [hasBit_zero, hS], fun i hi => ?_, fun j o hj => ?_, fun c e' _ => ?_, Nat.zero_le _, fun j o t hj => ?_, fun t v hv _ => hf t v hv, (Upd.drew g).ext hv0, fun _ _ => rfl, fun k p hp => ?_, fun i _ _ => ?_, Nat.le_refl _, hN, rfl⟩
      · rw [hS] at hi; cases hi
      · rw [hS] at hj; cases hj
      · rw [hS]; constructor
        · intro q; cases q
        · intro q; omega
      · rw [hS] at hj; cases hj
      · by_cases q : k < s.n
        · exact .inl q
        · rw [hd k (by omega)] at hp; cases hp
      · show s.h.get (s.n + i) = none
        cases q : s.h.get (s.n + i) with
        | none => rfl
        | some o =>
          obtain ⟨b, t, h1, _⟩ := g.rel _ _ q
          rw [hd _ (by omega)] at h1; cases h1
    have hu0 : unl ops.size (Array.replicate ops.size false) ≤ ops.size := by
      unfold unl
      exact Nat.le_trans (List.length_filter_le _ _) (by simp)
    have hrun := fun (r : Dr ⊕ (Tr V × V × Tr O × Nat)) q => facts_run (N := N) hr ops.toList 0 _ _ _ r (by simp) init q
    split at e
    · rename_i d hdr
      simp only [Option.some.injEq, Prod.mk.injEq] at e; obtain ⟨rfl, rfl⟩ := e
      obtain ⟨val, effs, f⟩ := hrun _ hdr
      rw [show max 0 ops.size = ops.size by omega] at f
      have ht : ∀ y ∈ d.allocs, s.n + y.1 < top := fun y hy => by have := f.allocs y hy; omega
      refine any_sound hcf hr (Nat.le_refl _) f ht (fun _ S ms J E a w I hall => ?_) (fun q => by omega) ops.size _ 0 0 E0 a0 _ (by simp) hu0 (start ops.size val effs d.allocs)
      have hJ : J = effs.length := by
        have h1 := I.Jle
        by_cases q : J < effs.length
        · have he : effs[J]? = some effs[J] := List.getElem?_eq_getElem q
          have := (I.effJ J _ he).1 (hall _ (f.effok J _ he).1)
          omega
        · omega
      have ec1 : d.cur.1 = (effAt s.h (s.n + ops.size) effs J).1 := by rw [hJ, f.cur]
      have ec2 : d.cur.2 = (effAt s.h (s.n + ops.size) effs J).2.1 := by rw [hJ, f.cur]
      have en : d.n = (effAt s.h (s.n + ops.size) effs J).2.2 := by rw [hJ, f.n]
      refine hq E a w .normal ?_ I.old ?_ ?_ ?_ I.size I.dfs rfl trivial
      · refine I.upd.ext fun k => ?_
        simp only [ec1, ec2]
        have hbits : ∀ i, i < ops.size → hasBit (2 ^ ops.size - 1) i = true := fun i hi => by
          unfold hasBit; rw [Nat.testBit_two_pow_sub_one]; simpa using hi
        rcases view_cases (n0 := s.n) (x := (effAt s.h (s.n + ops.size) effs J).2.1) (m := (effAt s.h (s.n + ops.size) effs J).1) (anc := 2 ^ ops.size - 1) ht f.one k with ⟨i, b, k1, k2, k3, k4, k5⟩ | ⟨k1, k2⟩
        · subst k4
          rw [k5, view_alloc ht f.one k1 (by rw [I.bits]; exact hall i (f.allocs _ k1)) k3]
        · rw [k2, view_other ht fun i b q1 q2 q3 => k1 i b q1 (hbits i (f.allocs _ q1)) q3]
      · show Dom E d.n
        rw [en]; exact I.domN (Nat.le_refl _)
      · show s.n ≤ d.n
        rw [en]; have := I.cnt; omega
      · intro t v hv
        by_cases q : ∃ j o, j < ops.size ∧ ops[j]? = some o ∧ o.dst = some t
        · obtain ⟨j, o, q1, q2, q3⟩ := q
          have := f.fr.new j o t q1 q2 q3
          simp only at hv
          rw [this] at hv; cases hv
          exact I.f1 j o t (hall j q1) q2 q3
        · have := f.fr.old t fun i o hi ho hdt => q ⟨i, o, hi, ho, hdt⟩
          simp only at hv
          rw [this] at hv
          exact I.f2 t v hv fun j o hj ho hdt => q ⟨j, o, I.inS j hj, ho, hdt⟩
    · rename_i fr v h n hdr
      simp only [Option.some.injEq, Prod.mk.injEq] at e; obtain ⟨rfl, rfl⟩ := e
      obtain ⟨lim, o, d, val, effs, ho, f, hop⟩ := hrun _ hdr
      have hlim : lim < ops.size := (Array.getElem?_eq_some_iff.1 ho).1
      have ht : ∀ y ∈ d.allocs, s.n + y.1 < top := fun y hy => by have := f.allocs y hy; omega
      -- the operation that panics
      have hanc : maskOf d.masks o.after.toList = msk ops lim := by rw [f.masks]; unfold msk; rw [ho]
      unfold drawOp at hop
      simp only [hanc] at hop
      split at hop
      · split at hop <;> cases hop
      · rename_i hw
        split at hop
        · rename_i heff
          split at hop
          · split at hop
            · split at hop <;> cases hop
            · rename_i gg args hs
              split at hop
              · split at hop <;> cases hop
              · rename_i v' h' n' hc
                split at hop
                · rename_i hb
                  simp only [Option.some.injEq, Sum.inr.injEq, Prod.mk.injEq] at hop
                  obtain ⟨rfl, rfl, rfl, rfl⟩ := hop
                  simp only [Bool.and_eq_true] at hb
                  have hb1 := Nat.eq_of_beq_eq_true hb.1
                  have hb2 := Nat.eq_of_beq_eq_true hb.2
                  have hbit : ∀ i, i < lim → hasBit (msk ops lim) i = true := fun i hi => by
                    have : msk ops lim = 2 ^ lim - 1 := by omega
                    rw [this]; unfold hasBit; rw [Nat.testBit_two_pow_sub_one]; simpa using hi
                  refine any_sound hcf hr (Nat.le_of_lt hlim) f ht (fun q => by omega) (fun _ => ⟨hb2, fun S ms J E a w o' I ho' hdeps K => ?_⟩) ops.size _ 0 0 E0 a0 _ (by simp) hu0 (start lim val effs d.allocs)
                  rw [ho] at ho'; cases ho'
                  have hSl : S lim = false := by
                    cases q : S lim with
                    | false => rfl
                    | true => have := I.inS lim q; omega
                  have hall : ∀ i, i < lim → S i = true := fun i hi => anc_ready hr I.closed ho hdeps (hbit i hi)
                  have hJ : J = effs.length := by
                    have h1 := I.Jle
                    by_cases q : J < effs.length
                    · have he : effs[J]? = some effs[J] := List.getElem?_eq_getElem q
                      have := (I.effJ J _ he).1 (hall _ (f.effok J _ he).1)
                      omega
                    · omega
                  have ec1 : d.cur.1 = (effAt s.h (s.n + ops.size) effs J).1 := by rw [hJ, f.cur]
                  have ec2 : d.cur.2 = (effAt s.h (s.n + ops.size) effs J).2.1 := by rw [hJ, f.cur]
                  have en : d.n = (effAt s.h (s.n + ops.size) effs J).2.2 := by rw [hJ, f.n]
                  rw [ec1, ec2, en] at hs hc
                  have hsub := I.sub hr (Nat.le_of_lt hlim) f ht (anc := msk ops lim) fun k hk => hall k (msk_lt hr.edges lim k hk)
                  have hdomN := I.domN (Nat.le_of_lt hlim)
                  unfold wpOp
                  simp only [ho]
                  rw [if_pos (I.wanted hr ho hSl hdeps f.fr hw)]
                  refine .inl (wp_call hcf (I.upd.good.sub hsub) hdomN (I.opds hr ho hSl hdeps f.fr) hs hc fun E' w' q2 q3 q4 q5 => ?_)
                  intro v2 hv2
                  have hcn := I.cnt
                  refine hq E' a w' _ ?_ (fun k hk => ?_) q4 ?_ ?_ I.size I.dfs rfl ⟨v2, hv2, rfl⟩
                  · refine I.upd.trans (Upd.frame I.upd.good hsub q2 fun k => ?_)
                    simp only
                    cases hk : h'.get k with
                    | some o' => rfl
                    | none =>
                      simp only
                      split
                      · rename_i hx
                        rcases view_cases (n0 := s.n) (x := (effAt s.h (s.n + ops.size) effs J).2.1) (m := (effAt s.h (s.n + ops.size) effs J).1) (anc := ms) ht f.one k with ⟨i, b, k1, k2, k3, k4, k5⟩ | ⟨k1, k2⟩
                        · subst k4
                          rw [view_alloc ht f.one k1 (hbit i (f.allocs _ k1)) k3] at hx; cases hx
                        · rw [k2]
                          rw [view_other ht fun i b q1 q2' q3' => k1 i b q1 (by rw [I.bits]; exact hall i (f.allocs _ q1)) q3'] at hx
                          exact hx.symm
                      · rfl
                  · rw [q3 k (by omega)]; exact I.old k hk
                  · show s.n ≤ n'
                    omega
                  · refine frel_mono q2.le ?_
                    intro t v hv
                    by_cases q : ∃ j o, j < lim ∧ ops[j]? = some o ∧ o.dst = some t
                    · obtain ⟨j, o2, q1, q2, q3⟩ := q
                      have := f.fr.new j o2 t q1 q2 q3
                      simp only at hv
                      rw [this] at hv; cases hv
                      exact I.f1 j o2 t (hall j q1) q2 q3
                    · have := f.fr.old t fun i o2 hi ho2 hdt => q ⟨i, o2, hi, ho2, hdt⟩
                      simp only at hv
                      rw [this] at hv
                      exact I.f2 t v hv fun j o2 hj ho2 hdt => q ⟨j, o2, I.inS j hj, ho2, hdt⟩
                · cases hop
              · cases hop
            · cases hop
          · cases hop
        · split at hop
          · split at hop
            · split at hop
              · split at hop
                · cases hop
                · split at hop <;> cases hop
              · split at hop <;> cases hop
            · cases hop
          · cases hop
      · cases hop
    · cases e
  · cases e
end Go.Eng
