/- Filter laws anew, part ZH: the contract of the image that is made from numbers. No conditions. -/
import Derived.Test.YtadejpmecljjpaaFlTen
import Derived.Test.YtadejpmecljjpaaEngEight
import Derived.Test.YtadejpmecljjpaaFlThree
set_option linter.unusedVariables false
set_option linter.unusedSimpArgs false
set_option linter.unusedSectionVars false
namespace Go.Proofs.Ytadejpmecljjpaa
open Go Go.Eng
noncomputable abbrev cdIm : Code := bodyOf Try.f23
noncomputable abbrev lpIm : Code := seqL (tailN 2 cdIm)
noncomputable abbrev loIm : Code := inner (seqR lpIm)
noncomputable abbrev bdIm : Code := inner loIm
noncomputable abbrev enIm : Code := seqR (tailN 2 cdIm)
def slI (f : Bool) (m : Nat) : V := match f with | true => .slc none 0 0 0 | false => .slc (some (4, 0)) m m 4
def owI (f : Bool) (ot : O) : List (Nat × O) := match f with | true => [] | false => [(4, ot)]
def nxI (f : Bool) : Nat := match f with | true => 4 | false => 5
abbrev imX (l : Nat) (ss : List Int) (i : Nat) : Int := w64 (ss.getD (0 + (Int.ofNat (i % l)).toNat * 1) 0 * Int.ofNat (1 + i / l % 3))
abbrev imY (i : Nat) : Int := w64 (7919 * Int.ofNat i)
def imgN (l : Nat) (ss : List Int) (i : Nat) : Int := if (l : Int) > 0 then imX l ss i else imY i
def imgQ (l : Nat) (ss : List Int) (i : Nat) : Q4 := clQ (madeQ (imgN l ss i))
def rwI (nS : Bool) (ss : List Int) : Option (IntKind × List Int) := match nS with | true => none | false => some (.i64, ss)
def px4 (q : Q4) : O := .cells [.int .u8 q.1, .int .u8 q.2.1, .int .u8 q.2.2.1, .int .u8 q.2.2.2]
abbrev RC4 (a b c e : Int) : V := .agg [.int .i64 a, .int .i64 b, .int .i64 c, .int .i64 e]
abbrev HI (i l : Nat) : List (Nat × Fix) := [(13, .split), (20, .split), (25, .give (.int .i64 (Int.ofNat (i % l)))), (31, .give (.int .i64 (Int.ofNat (i / l)))), (32, .give (.int .i64 (Int.ofNat (i / l % 3)))), (33, .give (.int .i64 (Int.ofNat (1 + i / l % 3)))), (6, .give (.int .i64 (Int.ofNat (i + 1))))]
abbrev HJ (i : Nat) : List (Nat × Fix) := [(13, .split), (6, .give (.int .i64 (Int.ofNat (i + 1))))]
def cnI (l : Nat) (ss : List Int) (i : Nat) : List Prop := [(l : Int) ≠ 0, V.int .i64 ((Int.ofNat i).tmod l) = V.int .i64 (Int.ofNat (i % l)), 0 ≤ Int.ofNat (i % l) ∧ Int.ofNat (i % l) < (l : Int), 0 + (Int.ofNat (i % l)).toNat * 1 < ss.length, (l : Int) ≠ 0,
  V.int .i64 (w64 ((Int.ofNat i).tdiv l)) = V.int .i64 (Int.ofNat (i / l)), V.int .i64 ((Int.ofNat (i / l)).tmod 3) = V.int .i64 (Int.ofNat (i / l % 3)), V.int .i64 (w64 (1 + Int.ofNat (i / l % 3))) = V.int .i64 (Int.ofNat (1 + i / l % 3))]
def cnA (m : Nat) (ot : List Int) : List Prop := [0 < m, 0 + m * 4 ≤ ot.length, 0 < 1, roomy (m + 1) 4 4 = true]
section
variable (a b c e : Int) (l cp z : Nat) (ss : List Int)
def sIm (nS f : Bool) (m : Nat) (ot : O) : St := stG [(1, slQ nS 0 l cp z), (2, .ptr (some (1, 0))), (4, .ptr (some (2,0))), (5, .ptr (some (3, 0))), (6, .int .i64 (Int.ofNat m))] (hL (opQ nS 0 ss ++ ([(1, bx4 a b c e), (2, bxZ), (3, .cells [.int .i64 a, .int .i64 b, .int .i64 c, .int .i64 e, slI f m])] ++ owI f ot))) (nxI f)
def sIm0 (nS : Bool) : St := stG [(1, slQ nS 0 l cp z), (2, .ptr (some (1, 0))), (4, .ptr (some (2,0))), (5, .ptr (some (3, 0)))] (hL (opQ nS 0 ss ++ ([(1, bx4 a b c e), (2, bxZ), (3, .cells [.int .i64 a, .int .i64 b, .int .i64 c, .int .i64 e, .slc none 0 0 0])]))) 4
theorem im_1 (nS : Bool) : RunIs Try.prog csH [] 1000 1 Try.f23 [1, 2, 4, 5] (headN 2 cdIm) (startSt [RC4 a b c e, slQ nS 0 l cp z] (rH [rwI nS ss]) 1) []
    [([], [], .to .normal (sIm0 a b c e l cp z ss nS))] := by
  unfold RunIs; cases nS <;> kernel_rfl
theorem im_2 (nS : Bool) : RunIs Try.prog csH [] 1000 1 Try.f23 [1, 2, 4, 5, 6] (seqL lpIm) (sIm0 a b c e l cp z ss nS) []
    [([], [], .to .normal (sIm a b c e l cp z ss nS true 0 .dfr))] := by
  unfold RunIs; cases nS <;> kernel_rfl
theorem im_t : RunIs Try.prog csH (HI 0 l) 1000 1 Try.f23 [1, 2, 4, 5, 6] bdIm (sIm a b c e l cp z ss false true 0 .dfr) [.slc none 0 0 0, .slc none 0 0 0, .slc none 0 0 0, .slc none 0 0 0]
    [([(decide (Int.ofNat 0 < areI a b c e), true), (decide ((l : Int) > 0), true)], cnI l ss 0 ++ [upP (Int.ofNat 0) (Int.ofNat 1)], .to .normal (sIm a b c e l cp z ss false false 1 (px4 (clQ (madeQ (imX l ss 0)))))),
     ([(decide (Int.ofNat 0 < areI a b c e), true), (decide ((l : Int) > 0), false)], [upP (Int.ofNat 0) (Int.ofNat 1)], .to .normal (sIm a b c e l cp z ss false false 1 (px4 (clQ (madeQ (imY 0)))))),
     ([(decide (Int.ofNat 0 < areI a b c e), false)], [], .to (.exit 0) (sIm a b c e l cp z ss false true 0 .dfr))] := by
  unfold RunIs; kernel_rfl
theorem im_f (m : Nat) (ot : List Int) : RunIs Try.prog csH (HI m l) 1000 1 Try.f23 [1, 2, 4, 5, 6] bdIm (sIm a b c e l cp z ss false false m (.own .u8 ot)) [.slc (some (4, 0)) m m 4, .slc (some (4, 0)) m m 4, .slc (some (4, 0)) m m 4, .slc (some (4, 0)) m m 4]
    [([(decide (Int.ofNat m < areI a b c e), true), (decide ((l : Int) > 0), true)], cnI l ss m ++ (cnA m ot ++ [upP (Int.ofNat m) (Int.ofNat (m + 1))]), .to .normal (sIm a b c e l cp z ss false false (m + 1) (.own .u8 (outA m ot (clQ (madeQ (imX l ss m))))))),
     ([(decide (Int.ofNat m < areI a b c e), true), (decide ((l : Int) > 0), false)], cnA m ot ++ [upP (Int.ofNat m) (Int.ofNat (m + 1))], .to .normal (sIm a b c e l cp z ss false false (m + 1) (.own .u8 (outA m ot (clQ (madeQ (imY m))))))),
     ([(decide (Int.ofNat m < areI a b c e), false)], [], .to (.exit 0) (sIm a b c e l cp z ss false false m (.own .u8 ot)))] := by
  unfold RunIs; kernel_rfl
theorem im_nt : RunIs Try.prog csH (HJ 0) 1000 1 Try.f23 [1, 2, 4, 5, 6] bdIm (sIm a b c e l cp z ss true true 0 .dfr) [.slc none 0 0 0, .slc none 0 0 0]
    [([(decide (Int.ofNat 0 < areI a b c e), true)], [upP (Int.ofNat 0) (Int.ofNat 1)], .to .normal (sIm a b c e l cp z ss true false 1 (px4 (clQ (madeQ (imY 0)))))),
     ([(decide (Int.ofNat 0 < areI a b c e), false)], [], .to (.exit 0) (sIm a b c e l cp z ss true true 0 .dfr))] := by
  unfold RunIs; kernel_rfl
theorem im_nf (m : Nat) (ot : List Int) : RunIs Try.prog csH (HJ m) 1000 1 Try.f23 [1, 2, 4, 5, 6] bdIm (sIm a b c e l cp z ss true false m (.own .u8 ot)) [.slc (some (4, 0)) m m 4, .slc (some (4, 0)) m m 4]
    [([(decide (Int.ofNat m < areI a b c e), true)], cnA m ot ++ [upP (Int.ofNat m) (Int.ofNat (m + 1))], .to .normal (sIm a b c e l cp z ss true false (m + 1) (.own .u8 (outA m ot (clQ (madeQ (imY m))))))),
     ([(decide (Int.ofNat m < areI a b c e), false)], [], .to (.exit 0) (sIm a b c e l cp z ss true false m (.own .u8 ot)))] := by
  unfold RunIs; kernel_rfl
theorem im_own (nS : Bool) (q : Q4) : ownS [(4, .u8)] (sIm a b c e l cp z ss nS false 1 (px4 q)) = some (sIm a b c e l cp z ss nS false 1 (.own .u8 (outA 0 [] q))) := by
  cases nS <;> kernel_rfl
theorem im_end (nS : Bool) (m : Nat) (ot : List Int) : RunIs Try.prog csH [] 1000 1 Try.f23 [] enIm (sIm a b c e l cp z ss nS false m (.own .u8 ot)) []
    [([], [], .ret (.agg [.int .i64 a, .int .i64 b, .int .i64 c, .int .i64 e, .slc (some (1, 0)) m m 4]) (hL (opQ nS 0 ss ++ [(1, .own .u8 ot)])) 2)] := by
  unfold RunIs; cases nS <;> kernel_rfl
theorem im_nrm (nS : Bool) : normG 1 [1, 2, 4, 5, 6] (sIm a b c e l cp z ss nS true 0 .dfr) = some (sIm a b c e l cp z ss nS true 0 .dfr) := by
  cases nS <;> kernel_rfl
variable (h1 : l ≤ ss.length) (h2 : l ≤ 1000000)
include h1 h2
theorem cnI_ok (i : Nat) (hl : 0 < l) (hi : i < 1000000) : ∀ p ∈ cnI l ss i, p := by
  have hlt : i % l < l := Nat.mod_lt _ hl
  have hq : i / l ≤ i := Nat.div_le_self _ _
  have h3 : i / l % 3 < 3 := Nat.mod_lt _ (by omega)
  simp only [cnI, List.mem_cons, List.not_mem_nil, or_false]
  rintro p (rfl | rfl | rfl | rfl | rfl | rfl | rfl | rfl)
  · omega
  · rfl
  · exact ⟨Int.natCast_nonneg _, Int.ofNat_lt.2 hlt⟩
  · show 0 + (i % l) * 1 < ss.length; omega
  · omega
  · have : (Int.ofNat i).tdiv (l : Int) = ((i / l : Nat) : Int) := rfl
    rw [this]
    generalize i / l = t at hq ⊢
    rw [w64_id (x := (t : Int)) (by omega) (by omega)]; rfl
  · rfl
  · generalize i / l % 3 = t at h3 ⊢
    have : Int.ofNat t = (t : Int) := rfl
    rw [this, w64_id (x := 1 + (t : Int)) (by omega) (by omega)]; rfl
end
theorem cnA_ok {m : Nat} {ot : List Int} (h0 : 0 < m) (h1 : m < 1000000) (h2 : ot.length = m * 4) : ∀ p ∈ cnA m ot, p := by
  simp only [cnA, List.mem_cons, List.not_mem_nil, or_false]
  rintro p (rfl | rfl | rfl | rfl)
  · exact h0
  · omega
  · omega
  · unfold roomy; rw [decide_eq_true_iff]; omega
section
variable (nS : Bool) (a b c e : Int) (l cp z : Nat) (ss : List Int)
abbrev imR (m : Nat) : List Int := outR (imgQ (ln nS l) ss) m
noncomputable abbrev sJ (m : Nat) : St := sIm a b c e l cp z ss nS (Nat.beq m 0) m (match m with | 0 => .dfr | m + 1 => .own .u8 (imR nS l ss (m + 1)))
variable (h1 : nS = false → l ≤ ss.length) (h2 : l ≤ 1000000) (h3 : 0 < areI a b c e) (h4 : areI a b c e ≤ 1000000)
include h1 h2 h3 h4
theorem im_loop : TG Try.prog 1 Try.f23.ntmps loIm (sJ nS a b c e l cp z ss 0)
    (fun y s' => y = .exit 0 ∧ ∃ L, normG 1 L s' = some (sJ nS a b c e l cp z ss (areI a b c e).toNat)) := by
  refine TG_loop_inv (fun k' s => ∃ m, k' = (areI a b c e).toNat - m ∧ m ≤ (areI a b c e).toNat ∧ ∃ L s1 o, normG 1 L s = some s1 ∧ ownS o s1 = some (sJ nS a b c e l cp z ss m)) (by kernel_rfl) ?_ (areI a b c e).toNat ⟨0, rfl, Nat.zero_le _, [1, 2, 4, 5, 6], _, [], im_nrm a b c e l cp z ss nS, rfl⟩
  rintro k' s ⟨m, hk, hm, L, s1, o, hs, ho⟩
  refine TG_norm hs (TG_own o ho ?_)
  have htest : (Int.ofNat m < areI a b c e) ↔ m < (areI a b c e).toNat := by
    have : Int.ofNat m = (m : Int) := rfl
    rw [this]; omega
  have hlo : ∀ B, decide (Int.ofNat m < areI a b c e) = B → (B = true ↔ m < (areI a b c e).toNat) := by
    rintro B rfl; rw [decide_eq_true_iff]; exact htest
  cases m with
  | zero =>
    have hend : ¬ 0 < (areI a b c e).toNat → False := by omega
    cases nS with
    | true =>
      refine TG_is XH mo anyR (by kernel_rfl) (im_nt a b c e l cp z ss) fun g hg hc => ?_
      simp only [List.mem_cons, List.not_mem_nil, or_false] at hg
      rcases hg with rfl | rfl
      · have hlt := (hlo _ (hc (decide (Int.ofNat 0 < areI a b c e), true) (by simp))).1 rfl
        refine ⟨fun p hp => ?_, fun s' hs' => ⟨(areI a b c e).toNat - 1, by omega, 1, rfl, by omega, _, _, [(4, .u8)], hs', ?_⟩⟩
        · rw [List.mem_singleton] at hp; subst hp; exact upN (by omega)
        · rw [im_own]; rfl
      · exact absurd (hc (decide (Int.ofNat 0 < areI a b c e), false) (by simp)) (fun q => hend (fun z => by have := (hlo _ q).2 z; cases this))
    | false =>
      have h1' := h1 rfl
      refine TG_is XH mo anyR (by kernel_rfl) (im_t a b c e l cp z ss) fun g hg hc => ?_
      simp only [List.mem_cons, List.not_mem_nil, or_false] at hg
      rcases hg with rfl | rfl | rfl
      · have hlt := (hlo _ (hc (decide (Int.ofNat 0 < areI a b c e), true) (by simp))).1 rfl
        have hl := of_decide_eq_true (hc (decide ((l : Int) > 0), true) (by simp))
        refine ⟨fun p hp => ?_, fun s' hs' => ⟨(areI a b c e).toNat - 1, by omega, 1, rfl, by omega, _, _, [(4, .u8)], hs', ?_⟩⟩
        · rcases List.mem_append.1 hp with hp | hp
          · exact cnI_ok l ss h1' h2 0 (by omega) (by omega) p hp
          · rw [List.mem_singleton] at hp; subst hp; exact upN (by omega)
        · rw [im_own]
          have : imgN l ss 0 = imX l ss 0 := if_pos hl
          show _ = some (sIm a b c e l cp z ss false false 1 (.own .u8 (outA 0 [] (clQ (madeQ (imgN l ss 0))))))
          rw [this]
      · have hlt := (hlo _ (hc (decide (Int.ofNat 0 < areI a b c e), true) (by simp))).1 rfl
        have hl := of_decide_eq_false (hc (decide ((l : Int) > 0), false) (by simp))
        refine ⟨fun p hp => ?_, fun s' hs' => ⟨(areI a b c e).toNat - 1, by omega, 1, rfl, by omega, _, _, [(4, .u8)], hs', ?_⟩⟩
        · rw [List.mem_singleton] at hp; subst hp; exact upN (by omega)
        · rw [im_own]
          have : imgN l ss 0 = imY 0 := if_neg hl
          show _ = some (sIm a b c e l cp z ss false false 1 (.own .u8 (outA 0 [] (clQ (madeQ (imgN l ss 0))))))
          rw [this]
      · exact absurd (hc (decide (Int.ofNat 0 < areI a b c e), false) (by simp)) (fun q => hend (fun z => by have := (hlo _ q).2 z; cases this))
  | succ m =>
    have hlen : (imR nS l ss (m + 1)).length = (m + 1) * 4 := outR_len _ _
    have hend : ∀ s', ¬ (m + 1 < (areI a b c e).toNat) → normG 1 [1, 2, 4, 5, 6] s' = some (sJ nS a b c e l cp z ss (m + 1)) → ∃ L, normG 1 L s' = some (sJ nS a b c e l cp z ss (areI a b c e).toNat) := by
      intro s' hge hs'
      have : (areI a b c e).toNat = m + 1 := by omega
      rw [this]; exact ⟨_, hs'⟩
    cases nS with
    | true =>
      refine TG_is XH mo anyR (by kernel_rfl) (im_nf a b c e l cp z ss (m + 1) (imR true l ss (m + 1))) fun g hg hc => ?_
      simp only [List.mem_cons, List.not_mem_nil, or_false] at hg
      rcases hg with rfl | rfl
      · have hlt := (hlo _ (hc (decide (Int.ofNat (m + 1) < areI a b c e), true) (by simp))).1 rfl
        refine ⟨fun p hp => ?_, fun s' hs' => ⟨(areI a b c e).toNat - (m + 1 + 1), by omega, m + 1 + 1, rfl, by omega, _, _, [], hs', ?_⟩⟩
        · rcases List.mem_append.1 hp with hp | hp
          · exact cnA_ok (by omega) (by omega) hlen p hp
          · rw [List.mem_singleton] at hp; subst hp; exact upN (by omega)
        · have : imgN 0 ss (m + 1) = imY (m + 1) := if_neg (by decide)
          show _ = some (sIm a b c e l cp z ss true false (m + 1 + 1) (.own .u8 (outA (m + 1) (imR true l ss (m + 1)) (clQ (madeQ (imgN 0 ss (m + 1)))))))
          rw [this]; rfl
      · have hge := (hc (decide (Int.ofNat (m + 1) < areI a b c e), false) (by simp))
        exact ⟨by simp, fun s' hs' => ⟨rfl, hend s' (fun z => by have := (hlo _ hge).2 z; cases this) hs'⟩⟩
    | false =>
      have h1' := h1 rfl
      refine TG_is XH mo anyR (by kernel_rfl) (im_f a b c e l cp z ss (m + 1) (imR false l ss (m + 1))) fun g hg hc => ?_
      simp only [List.mem_cons, List.not_mem_nil, or_false] at hg
      rcases hg with rfl | rfl | rfl
      · have hlt := (hlo _ (hc (decide (Int.ofNat (m + 1) < areI a b c e), true) (by simp))).1 rfl
        have hl := of_decide_eq_true (hc (decide ((l : Int) > 0), true) (by simp))
        refine ⟨fun p hp => ?_, fun s' hs' => ⟨(areI a b c e).toNat - (m + 1 + 1), by omega, m + 1 + 1, rfl, by omega, _, _, [], hs', ?_⟩⟩
        · rcases List.mem_append.1 hp with hp | hp
          · exact cnI_ok l ss h1' h2 (m + 1) (by omega) (by omega) p hp
          · rcases List.mem_append.1 hp with hp | hp
            · exact cnA_ok (by omega) (by omega) hlen p hp
            · rw [List.mem_singleton] at hp; subst hp; exact upN (by omega)
        · have : imgN l ss (m + 1) = imX l ss (m + 1) := if_pos hl
          show _ = some (sIm a b c e l cp z ss false false (m + 1 + 1) (.own .u8 (outA (m + 1) (imR false l ss (m + 1)) (clQ (madeQ (imgN l ss (m + 1)))))))
          rw [this]; rfl
      · have hlt := (hlo _ (hc (decide (Int.ofNat (m + 1) < areI a b c e), true) (by simp))).1 rfl
        have hl := of_decide_eq_false (hc (decide ((l : Int) > 0), false) (by simp))
        refine ⟨fun p hp => ?_, fun s' hs' => ⟨(areI a b c e).toNat - (m + 1 + 1), by omega, m + 1 + 1, rfl, by omega, _, _, [], hs', ?_⟩⟩
        · rcases List.mem_append.1 hp with hp | hp
          · exact cnA_ok (by omega) (by omega) hlen p hp
          · rw [List.mem_singleton] at hp; subst hp; exact upN (by omega)
        · have : imgN l ss (m + 1) = imY (m + 1) := if_neg hl
          show _ = some (sIm a b c e l cp z ss false false (m + 1 + 1) (.own .u8 (outA (m + 1) (imR false l ss (m + 1)) (clQ (madeQ (imgN l ss (m + 1)))))))
          rw [this]; rfl
      · have hge := (hc (decide (Int.ofNat (m + 1) < areI a b c e), false) (by simp))
        exact ⟨by simp, fun s' hs' => ⟨rfl, hend s' (fun z => by have := (hlo _ hge).2 z; cases this) hs'⟩⟩
theorem tgIm : TG Try.prog 1 Try.f23.ntmps cdIm (startSt [RC4 a b c e, slQ nS 0 l cp z] (rH [rwI nS ss]) 1)
    (RetG Try.prog 1 Try.f23 fun u h n => u = .agg [.int .i64 a, .int .i64 b, .int .i64 c, .int .i64 e, .slc (some (1, 0)) (areI a b c e).toNat (areI a b c e).toNat 4] ∧ h = hL (opQ nS 0 ss ++ [(1, .own .u8 (imR nS l ss (areI a b c e).toNat))]) ∧ n = 2) := by
  refine TG_isN1 2 XH mo (by kernel_rfl) (im_1 a b c e l cp z ss nS) (by simp) ?_
  refine TG_seq' (by kernel_rfl) ?_
  refine TG_isSeq XH mo anyR (by kernel_rfl) (by kernel_rfl) (im_2 a b c e l cp z ss nS) fun g hg _ => ?_
  rw [List.mem_singleton] at hg; subst hg
  refine ⟨by simp, fun s' hs' => TG_norm hs' ?_⟩
  refine TG_block (i := 0) (by kernel_rfl) (TG_mono (im_loop nS a b c e l cp z ss h1 h2 h3 h4) ?_)
  rintro y s' ⟨rfl, L, hs2⟩
  rw [outOf_exit]
  simp only [andThen]
  refine TG_norm hs2 ?_
  cases hm : (areI a b c e).toNat with
  | zero => omega
  | succ m =>
    refine TG_ret XH mo _ (by kernel_rfl) (im_end a b c e l cp z ss nS _ _) fun g hg hc => ?_
    rw [List.mem_singleton] at hg; subst hg
    exact ⟨by simp, _, _, _, rfl, rfl, rfl, rfl⟩
end
def specIm (args : List V) (h : Tr O) (n : Nat) : Option (List Prop × V × Tr O × Nat) := match args with
  | [.agg [.int .i64 a, .int .i64 b, .int .i64 c, .int .i64 e], s] => match rowK .i64 1 (softT h) s with
    | some (_, l, ss) => match emb [] 1 (.agg [.int .i64 a, .int .i64 b, .int .i64 c, .int .i64 e, .slc (some (1, 0)) (areI a b c e).toNat (areI a b c e).toNat 4], hL [(1, .own .u8 (outR (imgQ l ss) (areI a b c e).toNat))], 2) h n with
      | some r => some ([l ≤ ss.length, l ≤ 1000000, 0 < areI a b c e, areI a b c e ≤ 1000000], r)
      | none => none
    | none => none
  | _ => none
theorem one_Im : OneW Try.prog 23 specIm := by
  refine ⟨Nat.le_of_ble_eq_true (by kernel_rfl), fun args h n A v h' n' e0 hA E w args' ra g hd hc => ?_⟩
  unfold specIm at e0
  split at e0
  case h_2 => cases e0
  rename_i a b c e s
  split at e0
  case h_2 => cases e0
  rename_i aS l ss hS
  split at e0
  case h_2 => cases e0
  rename_i r he
  simp only [Option.some.injEq, Prod.mk.injEq] at e0
  obtain ⟨rfl, rfl⟩ := e0
  have h1 : l ≤ ss.length := hA _ (by simp)
  have h2 : l ≤ 1000000 := hA _ (by simp)
  have h3 : 0 < areI a b c e := hA _ (by simp)
  have h4 : areI a b c e ≤ 1000000 := hA _ (by simp)
  obtain ⟨y, ys, r0, ⟨y2, ys2, r1, rs, rfl⟩, rfl⟩ := ra
  have rs : ys2 = [] := rs
  subst rs
  have er : ∀ nS : Bool, emb [] 1 (.agg [.int .i64 a, .int .i64 b, .int .i64 c, .int .i64 e, .slc (some (1, 0)) (areI a b c e).toNat (areI a b c e).toNat 4], hL (opQ nS 0 ss ++ [(1, .own .u8 (outR (imgQ l ss) (areI a b c e).toNat))]), 2) h n = some (v, h', n') := by
    intro nS
    rw [emb_rows 1 n 2 (opQ nS 0 ss) [(1, .own .u8 (outR (imgQ l ss) (areI a b c e).toNat))] _ h (by kernel_rfl) (by cases nS <;> rfl) (by rfl)]
    exact he
  have f0 : vrels E [RC4 a b c e] [y] := ⟨y, [], r0, rfl, rfl⟩
  rcases rowK_cases hS with ⟨cp, z, rfl, rfl, rfl, rfl⟩ | ⟨mS, oS, cp, fS, rfl, rfl, hmS, hdS⟩
  · obtain ⟨g2, d2, n2⟩ := rows_ok (soft_good g) [none] [none] (Nat.le_of_ble_eq_true rfl) (by
      intro j k' ks' hj
      match j, hj with
      | 0, hj => cases hj
      | j + 1, hj => simp at hj)
    have f1 := frees_noE (E := E) (E' := E.rows [none]) (X := [RC4 a b c e]) (by rfl) f0
    obtain ⟨y', _, f1, _, q⟩ := f1
    cases q
    exact (calls_of_TG1 mo po Try.func23 (by kernel_rfl) (by kernel_rfl) _ _ _ (tgIm true a b c e 0 cp z [] (fun q => by cases q) (by omega) h3 h4) (E := E.rows [none]) ⟨y, _, f1, ⟨y2, [], nil_any r1, rfl, rfl⟩, rfl⟩ g2 d2).mono fun en w' c' => emb_ok (E1 := E.rows [none]) g hd rfl (fun m m' _ q => by cases q) n2 (er true) c'
  · obtain ⟨g2, d2, n2⟩ := rows_ok (soft_good g) [some (mS, oS)] [some (.i64, ss)] (Nat.le_of_ble_eq_true rfl) (by
      intro j k' ks' hj
      match j, hj with
      | 0, hj => cases hj; exact ⟨mS, oS, fS, rfl, hmS, hdS⟩
      | j + 1, hj => simp at hj)
    have f1 := frees_noE (E := E) (E' := E.rows [some (mS, oS)]) (X := [RC4 a b c e]) (by rfl) f0
    obtain ⟨y', _, f1, _, q⟩ := f1
    cases q
    exact (calls_of_TG1 mo po Try.func23 (by kernel_rfl) (by kernel_rfl) _ _ _ (tgIm false a b c e l cp 0 ss (fun _ => h1) h2 h3 h4) (E := E.rows [some (mS, oS)]) ⟨y, _, f1, ⟨y2, [], rows_slc rfl r1, rfl, rfl⟩, rfl⟩ g2 d2).mono fun en w' c' => emb_ok (E1 := E.rows [some (mS, oS)]) g hd rfl (fun m m' _ q => by cases q) n2 (er false) c'
end Go.Proofs.Ytadejpmecljjpaa
namespace Go.Proofs.Ytadejpmecljjpaa
open Go Go.Eng
structure Md where
  cl : Cl
  k : Int
  r : Int
  d : Int
  v : Int
  l : Nat
  gs : List Int
def mkK (cl : Cl) (pos l : Nat) : V := match cl with | .K => .slc (some (pos, 0)) l l 1 | _ => .slc none 0 0 0
def mkC (cl : Cl) (pos l : Nat) : V := match cl with | .C => .slc (some (pos, 0)) l l 1 | _ => .slc none 0 0 0
def mO (cl : Cl) (pos : Nat) (gs : List Int) : List (Nat × O) := match cl with | .o => [] | _ => [(pos, .own .i64 gs)]
def mN (cl : Cl) (pos : Nat) : Nat := match cl with | .o => pos | _ => pos + 1
def mdV (pos : Nat) (md : Md) : V := FV md.k md.r (mkK md.cl pos md.l) md.d md.v (mkC md.cl pos md.l)
def mdOf (ss : List Int) (l : Nat) (sh : Sh) : Md := ⟨clOf sh, shK sh, shR (madeX ss l) sh, shD (madeX ss l) sh, shV (madeX ss l) sh, shL l sh, shRow (madeX ss l) ss l sh⟩
def MadeIs (ss : List Int) (l : Nat) (md : Md) : Prop := ∃ sh, madeOk ss l sh ∧ md = mdOf ss l sh
theorem md_all {ss : List Int} {l : Nat} (h1 : l ≤ 60) (h2 : l ≤ ss.length) : ∃ md, MadeIs ss l md := by
  obtain ⟨sh, h⟩ := sh_all ss l
  exact ⟨_, sh, ⟨h1, h2, h⟩, rfl⟩
abbrev Md.vB (md : Md) : Bool := validB md.k md.r md.d md.v (glK md.cl md.l) (grK md.cl md.gs) (glC md.cl md.l) (grC md.cl md.gs)
theorem md_valid {ss : List Int} {l : Nat} {md : Md} (h : MadeIs ss l md) : md.vB = true := by
  obtain ⟨sh, h, rfl⟩ := h
  exact made_valid h
theorem x0_nil : (madeX [] 0).getD 0 0 = 0 ∧ (madeX [] 0).getD 1 0 = 0 := by
  constructor <;> (rw [List.getD_eq_getElem?_getD]; unfold madeX; rw [madeAt_get]; rfl)
theorem nil_conv0 {sh : Sh} (h : hasSh (madeX [] 0) sh) : sh = .conv0 := by
  obtain ⟨e0, e1⟩ := x0_nil
  have r0 : rem8 (madeX [] 0) = 0 := by unfold rem8; rw [e0]; rfl
  cases sh with
  | conv0 => rfl
  | conv1 => have := h.2; rw [e1] at this; cases this
  | conv2 => have := h.2; rw [e1] at this; cases this
  | rank k => have h1 := h.1; have h2 := h.2; rw [r0] at h1; omega
  | tone => have h : rem8 (madeX [] 0) = 4 := h; rw [r0] at h; cases h
  | inv => have h : rem8 (madeX [] 0) = 5 := h; rw [r0] at h; cases h
  | thr => have h : rem8 (madeX [] 0) = 6 := h; rw [r0] at h; cases h
  | off => have h : rem8 (madeX [] 0) = 7 := h; rw [r0] at h; cases h
def specMd (md : Md) (args : List V) (h : Tr O) (n : Nat) : Option (List Prop × V × Tr O × Nat) := match args with
  | [v] => match rowK .i64 1 (softT h) v with
    | some (_, l, ss) => match emb [] 2 (mdV 2 md, hL (mO md.cl 2 md.gs), mN md.cl 2) h n with
      | some r => some ([MadeIs ss l md], r)
      | none => none
    | none => none
  | _ => none
theorem shF_md (ss : List Int) (l : Nat) (sh : Sh) (h : Tr O) (n : Nat) : emb [] 2 (shF (madeX ss l) ss l sh) h n = emb [] 2 (mdV 2 (mdOf ss l sh), hL (mO (clOf sh) 2 (shRow (madeX ss l) ss l sh)), mN (clOf sh) 2) h n := by
  have e : shF (madeX ss l) ss l sh = (mdV 2 (mdOf ss l sh), hL ([(0, .ints .i64 ss)] ++ mO (clOf sh) 2 (shRow (madeX ss l) ss l sh)), mN (clOf sh) 2) := by cases sh <;> rfl
  rw [e]
  exact emb_rows 2 n _ [(0, .ints .i64 ss)] _ _ h (by kernel_rfl) (by rfl) (by cases sh <;> kernel_rfl)
theorem one_Md (md : Md) : OneW Try.prog 25 (specMd md) := by
  refine ⟨Nat.le_of_ble_eq_true (by kernel_rfl), fun args h n A v h' n' e hA E w args' ra g hd hc => ?_⟩
  unfold specMd at e
  split at e
  case h_2 => cases e
  rename_i sv
  split at e
  case h_2 => cases e
  rename_i a l ss hr
  split at e
  case h_2 => cases e
  rename_i r he
  simp only [Option.some.injEq, Prod.mk.injEq] at e
  obtain ⟨rfl, rfl⟩ := e
  obtain ⟨sh, hsh, hmd⟩ := hA (MadeIs ss l md) (by simp)
  subst hmd
  have he' : emb [] 2 (shF (madeX ss l) ss l sh) h n = some (v, h', n') := by rw [shF_md]; exact he
  rcases rowK_cases hr with ⟨c, z, rfl, rfl, rfl, rfl⟩ | ⟨m, o, c, full, rfl, rfl, hm, hdr⟩
  · obtain rfl := nil_conv0 hsh.2.2
    have hs : specM .conv0 [.slc none 0 c z] h n = some ([], v, h', n') := by
      unfold specM
      simp only [hr]
      rw [he']
    exact (one_M .conv0).2 _ _ _ _ _ _ _ hs (by simp) E w args' ra g hd hc
  · have hs : specM sh [.slc (some (m, o)) l c 1] h n = some ([madeOk ss l sh], v, h', n') := by
      unfold specM
      simp only [hr]
      rw [he']
    exact (one_M sh).2 _ _ _ _ _ _ _ hs (by intro a ha; rw [List.mem_singleton] at ha; subst ha; exact hsh) E w args' ra g hd hc
end Go.Proofs.Ytadejpmecljjpaa
namespace Go.Proofs.Ytadejpmecljjpaa
open Go Go.Eng
noncomputable abbrev WI (md : Md) : CtrW := addW 23 specIm (addW 25 (specMd md) WH)
theorem WI_ok (md : Md) : CtrWOk Try.prog (WI md) := addW_ok one_Im (addW_ok (one_Md md) WH_ok)
noncomputable abbrev csI (md : Md) : CallS := callX Try.prog (WI md) H0 1000 40
noncomputable abbrev XI (md : Md) : CX Try.prog := CX.of mo po (WI_ok md) H0 1000 40
noncomputable abbrev cdMa : Code := bodyOf Try.f14
def slA (b : Bool) (pos l c : Nat) : V := match b with | true => .slc none 0 0 0 | false => .slc (some (pos, 0)) l c 1
def askV (nF nM : Bool) (lF cF lM cM : Nat) (q0 q1 q2 q3 : Int) : V := .agg [slA nF 0 lF cF, slA nM 1 lM cM, .int .i64 q0, .int .i64 q1, .int .i64 q2, .int .i64 q3]
def minP (lim : Int) (l m : Nat) : Prop := V.int .i64 (if lim < Int.ofNat l then lim else Int.ofNat l) = V.int .i64 (Int.ofNat m)
def capP (m c : Nat) : Prop := 0 ≤ Int.ofNat m ∧ Int.ofNat m ≤ Int.ofNat c
def rqV (q0 q1 q2 q3 : Int) : V := RC4 (smX q0) (smX q1) (smW q0 q2) (smW q1 q3)
def ndM (vb : Bool) (md : Md) (q0 q1 q2 q3 : Int) : Q4 := areaQ vb md.k md.r md.v (smX q0) (smX q1) (smW q0 q2) (smW q1 q3) (-1)
def arQ (q : Q4) : Int := areI q.1 q.2.1 q.2.2.1 q.2.2.2
def imP (pos : Nat) (q : Q4) : V := .agg [.int .i64 q.1, .int .i64 q.2.1, .int .i64 q.2.2.1, .int .i64 q.2.2.2, .slc (some (pos, 0)) (arQ q).toNat (arQ q).toNat 4]
def rowsM (nF nM : Bool) (fs ms : List Int) : List (Nat × O) := opQ nF 0 fs ++ opQ nM 1 ms
def madV (pos : Nat) (md : Md) (q0 q1 q2 q3 : Int) (nd : Q4) : V := .tup [mdV pos md, rqV q0 q1 q2 q3, imP (mN md.cl pos) nd]
def madO (pos : Nat) (md : Md) (nd : Q4) (l : Nat) (ms : List Int) : List (Nat × O) := mO md.cl pos md.gs ++ [(mN md.cl pos, .own .u8 (outR (imgQ l ms) (arQ nd).toNat))]
def fa5 (md : Md) : List Prop := [glK md.cl md.l ≤ (grK md.cl md.gs).length, glK md.cl md.l ≤ 1000, glC md.cl md.l ≤ (grC md.cl md.gs).length, glC md.cl md.l ≤ 1000]
def cutI (l : Nat) : Int := if 200 < Int.ofNat l then 200 else Int.ofNat l
def cutN (l : Nat) : Nat := (cutI l).toNat
theorem cutN_eq (l : Nat) : cutN l = min 200 l ∧ cutI l = Int.ofNat (min 200 l) := by
  have h : Int.ofNat l = (l : Int) := rfl
  unfold cutN cutI
  rw [h]
  by_cases q : (200 : Int) < (l : Int)
  · rw [if_pos q]
    have : min 200 l = 200 := by omega
    rw [this]; exact ⟨rfl, rfl⟩
  · rw [if_neg q]
    have : min 200 l = l := by omega
    rw [this]; exact ⟨rfl, rfl⟩
def cutV (b : Bool) (pos l c : Nat) : V := match b with | true => .slc none 0 0 0 | false => .slc (some (pos, 0)) (cutN l) c 1
def capI (i : Int) (c : Nat) : Prop := 0 ≤ i ∧ i ≤ Int.ofNat c
section
variable (nF nM : Bool) (lF cF lM cM : Nat) (q0 q1 q2 q3 : Int) (fs ms : List Int) (mF : Nat) (md : Md)
def maL : List V := [rqV q0 q1 q2 q3, mdV 6 md, slA nM 1 lM cM, slA nM 1 lM cM, .int .i64 (Int.ofNat (ln nM lM)), .int .i64 (cutI (ln nM lM)), cutV nM 1 lM cM, rqV q0 q1 q2 q3, mdV 6 md, rqV q0 q1 q2 q3]
theorem ma_run : RunIs Try.prog (csI md) [(12, .give (.int .i64 (Int.ofNat (ln nF mF))))] 1000 2 Try.f14 [] cdMa (startSt [askV nF nM lF cF lM cM q0 q1 q2 q3] (rH [rwI nF fs, rwI nM ms]) 2) (maL nM lM cM q0 q1 q2 q3 md)
    [([], [minP 60 (ln nF lF) (ln nF mF), capP (ln nF mF) (ln nF cF), MadeIs (rw' nF fs) (ln nF mF) md] ++ (fa5 md ++ [capI (cutI (ln nM lM)) (ln nM cM), capI (cutI (ln nM lM)) (ln nM cM), cutN (ln nM lM) ≤ (rw' nM ms).length, cutN (ln nM lM) ≤ 1000000, 0 < arQ (ndM md.vB md q0 q1 q2 q3), arQ (ndM md.vB md q0 q1 q2 q3) ≤ 1000000]),
      .ret (madV 2 md q0 q1 q2 q3 (ndM md.vB md q0 q1 q2 q3)) (hL (rowsM nF nM fs ms ++ madO 2 md (ndM md.vB md q0 q1 q2 q3) (cutN (ln nM lM)) (rw' nM ms))) (mN md.cl 2 + 1))] := by
  unfold RunIs
  obtain ⟨cl, k, r, d, v, l, gs⟩ := md
  cases cl <;> cases nF <;> cases nM <;> kernel_rfl
end
end Go.Proofs.Ytadejpmecljjpaa
namespace Go.Proofs.Ytadejpmecljjpaa
open Go Go.Eng
structure NdOk (q : Q4) (a b c e : Int) : Prop where
  x : q.1 < q.2.2.1
  y : q.2.1 < q.2.2.2
  x0 : a - 3 ≤ q.1 ∧ q.1 ≤ a + 3
  y0 : b - 3 ≤ q.2.1 ∧ q.2.1 ≤ b + 3
  x1 : c - 3 ≤ q.2.2.1 ∧ q.2.2.1 ≤ c + 3
  y1 : e - 3 ≤ q.2.2.2 ∧ q.2.2.2 ≤ e + 3
theorem nd_ok {k r d v : Int} {lK : Nat} {ks : List Int} {lC : Nat} {cs : List Int} (hv : validB k r d v lK ks lC cs = true) {a b c e : Int} (h1 : a < c) (h2 : b < e) (ha : -1000000 ≤ a) (hb : -1000000 ≤ b) (hc : c ≤ 1000000) (he : e ≤ 1000000) : NdOk (areaQ true k r v a b c e (-1)) a b c e := by
  have hem : emptyB a b c e = false := emptyB_lt h1 h2
  have hq : ¬ (true = false ∨ emptyB a b c e = true) := by rw [hem]; simp
  have grow : within k 1 4 = true → 0 ≤ r → r ≤ 3 → areaQ true k r v a b c e (-1) = (a - r, b - r, c + r, e + r) := by
    intro hw g1 g2
    unfold areaQ
    rw [if_neg hq, if_pos hw]
    unfold growQ
    rw [hem, if_neg (by simp)]
    unfold normQ
    rw [w64_id (x := a - r) (by omega) (by omega), w64_id (x := b - r) (by omega) (by omega), w64_id (x := c + r) (by omega) (by omega), w64_id (x := e + r) (by omega) (by omega), emptyB_lt (by omega) (by omega), if_neg (by simp)]
  have gr : within k 1 4 = true → 0 ≤ r → r ≤ 3 → NdOk (areaQ true k r v a b c e (-1)) a b c e := by
    intro hw g1 g2
    rw [grow hw g1 g2]
    constructor <;> simp only <;> omega
  rcases validK hv with ⟨rfl, ⟨g1, g2⟩, g3⟩ | ⟨hk, ⟨g1, g2⟩⟩ | ⟨hk, g⟩ | ⟨rfl, ⟨g1, g2⟩, ⟨g3, g4⟩⟩
  · exact gr (by decide) g1 g2
  · exact gr (within_iff'.2 (by omega)) g1 g2
  · have hA : areaQ true k r v a b c e (-1) = (a, b, c, e) := by
      unfold areaQ
      rw [if_neg hq, if_neg (fun q => by have := within_iff'.1 q; omega), if_neg (by omega)]
    rw [hA]
    constructor <;> simp only <;> omega
  · have hA : areaQ true 8 r v a b c e (-1) = (a - r, b - v, c - r, e - v) := by
      unfold areaQ
      rw [if_neg hq, if_neg (by decide), if_pos rfl]
      unfold moveQ
      rw [hem, if_neg (by simp)]
      unfold normQ
      have h1 : w64 (-1 * r) = -r := by rw [w64_id (x := -1 * r) (by omega) (by omega)]; omega
      have h2 : w64 (-1 * v) = -v := by rw [w64_id (x := -1 * v) (by omega) (by omega)]; omega
      rw [h1, h2, w64_id (x := a + -r) (by omega) (by omega), w64_id (x := b + -v) (by omega) (by omega), w64_id (x := c + -r) (by omega) (by omega), w64_id (x := e + -v) (by omega) (by omega), emptyB_lt (by omega) (by omega), if_neg (by simp)]
      rfl
    rw [hA]
    constructor <;> simp only <;> omega
theorem NdOk.adm {q : Q4} {a b c e : Int} (h : NdOk q a b c e) (ha : -1000000 ≤ a) (hb : -1000000 ≤ b) (hc : c ≤ 1000000) (he : e ≤ 1000000) : admB q.1 q.2.1 q.2.2.1 q.2.2.2 = true := by
  obtain ⟨h1, h2, ⟨h3, h4⟩, ⟨h5, h6⟩, ⟨h7, h8⟩, ⟨h9, h10⟩⟩ := h
  unfold admB
  rw [within_iff'.2 ⟨by omega, by omega⟩, within_iff'.2 ⟨by omega, by omega⟩, within_iff'.2 ⟨by omega, by omega⟩, within_iff'.2 ⟨by omega, by omega⟩]; rfl
theorem smX_bd (q : Int) : -16 ≤ smX q ∧ smX q ≤ 15 := by
  have h := mask_le (k := 31) (by omega) q
  have e : mask ((31 : Nat) : Int) q = mask 31 q := rfl
  rw [e] at h
  unfold smX
  rw [w64_id (by omega) (by omega)]
  omega
theorem smW_bd (q w : Int) : smX q + 1 ≤ smW q w ∧ smW q w ≤ smX q + 8 := by
  have h := mask_le (k := 7) (by omega) w
  have e : mask ((7 : Nat) : Int) w = mask 7 w := rfl
  rw [e] at h
  have hx := smX_bd q
  unfold smW
  rw [w64_id (x := smX q + 1) (by omega) (by omega), w64_id (by omega) (by omega)]
  omega
theorem made_nd {fs : List Int} {l : Nat} {md : Md} (h : MadeIs fs l md) (q0 q1 q2 q3 : Int) : NdOk (ndM true md q0 q1 q2 q3) (smX q0) (smX q1) (smW q0 q2) (smW q1 q3) := by
  have h0 := smX_bd q0
  have h1 := smX_bd q1
  have h2 := smW_bd q0 q2
  have h3 := smW_bd q1 q3
  exact nd_ok (md_valid h) (by omega) (by omega) (by omega) (by omega) (by omega) (by omega)
theorem NdOk.area {q : Q4} {a b c e : Int} (h : NdOk q a b c e) (ha : -1000000 ≤ a) (hb : -1000000 ≤ b) (hc : c ≤ 1000000) (he : e ≤ 1000000) : arQ q = (q.2.2.1 - q.1) * (q.2.2.2 - q.2.1) := by
  obtain ⟨m0, m1, m2, m3⟩ := admB_iff (h.adm ha hb hc he)
  exact areI_eq m0 m1 m2 m3 h.x h.y
theorem mul_le14 {x y : Int} (h1 : 0 < x) (h2 : x ≤ 14) (h3 : 0 < y) (h4 : y ≤ 14) : 0 < x * y ∧ x * y ≤ 196 :=
  ⟨Int.mul_pos h1 h3, by
    have := Int.mul_le_mul h2 h4 (by omega) (show (0 : Int) ≤ 14 by omega)
    exact this⟩
theorem made_area {fs : List Int} {l : Nat} {md : Md} (h : MadeIs fs l md) (q0 q1 q2 q3 : Int) : 0 < arQ (ndM true md q0 q1 q2 q3) ∧ arQ (ndM true md q0 q1 q2 q3) ≤ 196 := by
  have h0 := smX_bd q0
  have h1 := smX_bd q1
  have h2 := smW_bd q0 q2
  have h3 := smW_bd q1 q3
  have hn := made_nd h q0 q1 q2 q3
  rw [hn.area (by omega) (by omega) (by omega) (by omega)]
  obtain ⟨g1, g2, g3, g4, g5, g6⟩ := hn
  exact mul_le14 (by omega) (by omega) (by omega) (by omega)
theorem shRow_len' {ss : List Int} {n : Nat} {sh : Sh} : (shRow (madeX ss n) ss n sh).length = shL n sh := by
  cases sh <;> simp [shRow, shL, kern, curveL_len]
theorem shL_le' {ss : List Int} {n : Nat} {sh : Sh} (h : madeOk ss n sh) : shL n sh ≤ 300 := by
  obtain ⟨h1, _, _⟩ := h
  cases sh <;> simp only [shL] <;> first | omega | (unfold cvk; split <;> omega)
theorem md_len {fs : List Int} {l : Nat} {md : Md} (h : MadeIs fs l md) : md.gs.length = md.l ∧ md.l ≤ 300 := by
  obtain ⟨sh, h, rfl⟩ := h
  exact ⟨shRow_len', shL_le' h⟩
theorem fa5_ok {fs : List Int} {l : Nat} {md : Md} (h : MadeIs fs l md) : ∀ p ∈ fa5 md, p := by
  obtain ⟨h1, h2⟩ := md_len h
  simp only [fa5, List.mem_cons, List.not_mem_nil, or_false]
  rintro p (rfl | rfl | rfl | rfl) <;> cases md.cl <;> simp only [glK, glC, grK, grC, List.length_nil] <;> omega
theorem minP_ok {lim : Nat} {l : Nat} : minP (Int.ofNat lim) l (min lim l) := by
  unfold minP
  have h : Int.ofNat l = (l : Int) := rfl
  have h' : Int.ofNat lim = (lim : Int) := rfl
  rw [h, h']
  by_cases q : (lim : Int) < (l : Int)
  · rw [if_pos q, show min lim l = lim by omega]; rfl
  · rw [if_neg q, show min lim l = l by omega]; rfl
theorem ma_tg (nF nM : Bool) (lF cF lM cM : Nat) (q0 q1 q2 q3 : Int) (fs ms : List Int) (md : Md) (hF : ln nF lF ≤ ln nF cF) (hM : ln nM lM ≤ ln nM cM) (h2 : ln nM lM ≤ (rw' nM ms).length) (h : MadeIs (rw' nF fs) (min 60 (ln nF lF)) md) :
    TG Try.prog 2 Try.f14.ntmps cdMa (startSt [askV nF nM lF cF lM cM q0 q1 q2 q3] (rH [rwI nF fs, rwI nM ms]) 2)
    (RetG Try.prog 2 Try.f14 fun u m n => u = madV 2 md q0 q1 q2 q3 (ndM true md q0 q1 q2 q3) ∧ m = hL (rowsM nF nM fs ms ++ madO 2 md (ndM true md q0 q1 q2 q3) (cutN (ln nM lM)) (rw' nM ms)) ∧ n = mN md.cl 2 + 1) := by
  have hmin : ln nF (min 60 (ln nF lF)) = min 60 (ln nF lF) := by cases nF <;> rfl
  obtain ⟨c1, c2⟩ := cutN_eq (ln nM lM)
  obtain ⟨a1, a2⟩ := made_area h q0 q1 q2 q3
  refine TG_ret (XI md) mo _ (by kernel_rfl) (ma_run nF nM lF cF lM cM q0 q1 q2 q3 fs ms (min 60 (ln nF lF)) md) fun g hg _ => ?_
  rw [List.mem_singleton] at hg; subst hg
  have hv : md.vB = true := md_valid h
  refine ⟨fun p hp => ?_, _, _, _, rfl, by rw [hv], by rw [hv], rfl⟩
  rw [hmin, hv] at hp
  rcases List.mem_append.1 hp with hp | hp
  · simp only [List.mem_cons, List.not_mem_nil, or_false] at hp
    rcases hp with rfl | rfl | rfl
    · exact minP_ok
    · exact ⟨Int.natCast_nonneg _, Int.ofNat_le.2 (by omega)⟩
    · exact h
  rcases List.mem_append.1 hp with hp | hp
  · exact fa5_ok h p hp
  · simp only [List.mem_cons, List.not_mem_nil, or_false] at hp
    have hcap : capI (cutI (ln nM lM)) (ln nM cM) := by rw [c2]; exact ⟨Int.natCast_nonneg _, Int.ofNat_le.2 (by omega)⟩
    rcases hp with rfl | rfl | rfl | rfl | rfl | rfl
    · exact hcap
    · exact hcap
    · rw [c1]; omega
    · rw [c1]; omega
    · exact a1
    · exact Int.le_trans a2 (by omega)
def specMade (md : Md) (args : List V) (h : Tr O) (n : Nat) : Option (List Prop × V × Tr O × Nat) := match args with
  | [.agg [sF, sM, .int .i64 q0, .int .i64 q1, .int .i64 q2, .int .i64 q3]] => match rowK .i64 1 (softT h) sF with
    | some (_, lF, fs) => match rowK .i64 1 (softT h) sM with
      | some (_, lM, ms) => match emb [] 2 (madV 2 md q0 q1 q2 q3 (ndM true md q0 q1 q2 q3), hL (madO 2 md (ndM true md q0 q1 q2 q3) (cutN lM) ms), mN md.cl 2 + 1) h n with
        | some r => some ([lM ≤ ms.length, MadeIs fs (min 60 lF) md], r)
        | none => none
      | none => none
    | none => none
  | _ => none
theorem ask_rel {E E' : Env} {q0 q1 q2 q3 : Int} {a b a' b' : V} {x : Value} (ha : ∀ y, vrel E a y → vrel E' a' y) (hb : ∀ y, vrel E b y → vrel E' b' y)
    (h : vrel E (.agg [a, b, .int .i64 q0, .int .i64 q1, .int .i64 q2, .int .i64 q3]) x) : vrel E' (.agg [a', b', .int .i64 q0, .int .i64 q1, .int .i64 q2, .int .i64 q3]) x := by
  obtain ⟨cs', h, rfl⟩ := h
  obtain ⟨y1, t1, r1, h, rfl⟩ := h
  obtain ⟨y2, t2, r2, h, rfl⟩ := h
  obtain ⟨y3, t3, r3, h, rfl⟩ := h
  obtain ⟨y4, t4, r4, h, rfl⟩ := h
  obtain ⟨y5, t5, r5, h, rfl⟩ := h
  obtain ⟨y6, t6, r6, h, rfl⟩ := h
  exact ⟨_, ⟨y1, _, ha _ r1, ⟨y2, _, hb _ r2, ⟨y3, _, r3, ⟨y4, _, r4, ⟨y5, _, r5, ⟨y6, _, r6, h, rfl⟩, rfl⟩, rfl⟩, rfl⟩, rfl⟩, rfl⟩, rfl⟩
theorem ask_caps {E : Env} {q0 q1 q2 q3 : Int} {a b : V} {x : Value} (h : vrel E (.agg [a, b, .int .i64 q0, .int .i64 q1, .int .i64 q2, .int .i64 q3]) x) : (∃ y, vrel E a y) ∧ ∃ y, vrel E b y := by
  obtain ⟨cs', h, rfl⟩ := h
  obtain ⟨y1, t1, r1, h, rfl⟩ := h
  obtain ⟨y2, t2, r2, h, rfl⟩ := h
  exact ⟨⟨_, r1⟩, _, r2⟩
theorem slc_cap {E : Env} {m o l c z : Nat} {x : Value} (h : vrel E (.slc (some (m, o)) l c z) x) : l ≤ c := by
  obtain ⟨b, s, o', cap', _, _, q, _⟩ := h
  exact q
theorem nil_to {E E' : Env} {l c z : Nat} {y : Value} (h : vrel E (.slc none l c z) y) : vrel E' (.slc none 0 0 0) y := by
  obtain ⟨_, _, h⟩ := h
  exact ⟨rfl, rfl, h⟩
theorem emb_mad (nF nM : Bool) (fs ms : List Int) (md : Md) (nd : Q4) (c : Nat) (u : V) (l2 : List Int) (h : Tr O) (n : Nat) :
    emb [] 2 (u, hL (rowsM nF nM fs ms ++ madO 2 md nd c l2), mN md.cl 2 + 1) h n = emb [] 2 (u, hL (madO 2 md nd c l2), mN md.cl 2 + 1) h n :=
  emb_rows 2 n _ _ _ _ h (by kernel_rfl) (by cases nF <;> cases nM <;> rfl) (by
    have h2 : Nat.blt 2 top = true := by kernel_rfl
    have h3 : Nat.blt 3 top = true := by kernel_rfl
    cases hc : md.cl <;> simp only [madO, mO, mN, hc, List.nil_append, List.cons_append, List.all_cons, List.all_nil, Bool.and_true, h2, h3])
theorem one_Made (md : Md) : OneW Try.prog 14 (specMade md) := by
  refine ⟨Nat.le_of_ble_eq_true (by kernel_rfl), fun args h n A v h' n' e hA E w args' ra g hd hc => ?_⟩
  unfold specMade at e
  split at e
  case h_2 => cases e
  rename_i sF sM q0 q1 q2 q3
  split at e
  case h_2 => cases e
  rename_i aF lF fs hF
  split at e
  case h_2 => cases e
  rename_i aM lM ms hM
  split at e
  case h_2 => cases e
  rename_i r he
  simp only [Option.some.injEq, Prod.mk.injEq] at e
  obtain ⟨rfl, rfl⟩ := e
  have h1 : lM ≤ ms.length := hA _ (by simp)
  have h2 : MadeIs fs (min 60 lF) md := hA (MadeIs fs (min 60 lF) md) (by simp)
  obtain ⟨y, ys, r0, rs, rfl⟩ := ra
  have rs : ys = [] := rs
  subst rs
  obtain ⟨⟨yF, rF⟩, yM, rM⟩ := ask_caps r0
  rcases rowK_cases hF with ⟨cF, zF, rfl, rfl, rfl, rfl⟩ | ⟨mF, oF, cF, fF, rfl, rfl, hmF, hdF⟩ <;> rcases rowK_cases hM with ⟨cM, zM, rfl, rfl, rfl, rfl⟩ | ⟨mM, oM, cM, fM, rfl, rfl, hmM, hdM⟩
  · obtain ⟨g2, d2, n2⟩ := rows_ok (soft_good g) [none, none] [none, none] (Nat.le_of_ble_eq_true rfl) (by
      intro j k' ks' hj
      match j, hj with
      | 0, hj => cases hj
      | 1, hj => cases hj
      | j + 2, hj => simp at hj)
    have ht := ma_tg true true 0 0 0 0 q0 q1 q2 q3 [] [] md (Nat.le_refl _) (Nat.le_refl _) h1 h2
    have he' : emb [] 2 (madV 2 md q0 q1 q2 q3 (ndM true md q0 q1 q2 q3), hL (rowsM true true [] [] ++ madO 2 md (ndM true md q0 q1 q2 q3) (cutN 0) []), mN md.cl 2 + 1) h n = some (v, h', n') := by rw [emb_mad]; exact he
    exact (calls_of_TG1 mo po Try.func14 (by kernel_rfl) (by kernel_rfl) _ _ _ ht (E := E.rows [none, none]) ⟨y, [], ask_rel (fun _ q => nil_to q) (fun _ q => nil_to q) r0, rfl, rfl⟩ g2 d2).mono fun en w' c' => emb_ok (E1 := E.rows [none, none]) g hd rfl (fun m m' _ q => by cases q) n2 he' c'
  · obtain ⟨g2, d2, n2⟩ := rows_ok (soft_good g) [none, some (mM, oM)] [none, some (.i64, ms)] (Nat.le_of_ble_eq_true rfl) (by
      intro j k' ks' hj
      match j, hj with
      | 0, hj => cases hj
      | 1, hj => cases hj; exact ⟨mM, oM, fM, rfl, hmM, hdM⟩
      | j + 2, hj => simp at hj)
    have ht := ma_tg true false 0 0 lM cM q0 q1 q2 q3 [] ms md (Nat.le_refl _) (slc_cap rM) h1 h2
    have he' : emb [] 2 (madV 2 md q0 q1 q2 q3 (ndM true md q0 q1 q2 q3), hL (rowsM true false [] ms ++ madO 2 md (ndM true md q0 q1 q2 q3) (cutN lM) ms), mN md.cl 2 + 1) h n = some (v, h', n') := by rw [emb_mad]; exact he
    exact (calls_of_TG1 mo po Try.func14 (by kernel_rfl) (by kernel_rfl) _ _ _ ht (E := E.rows [none, some (mM, oM)]) ⟨y, [], ask_rel (fun _ q => nil_to q) (fun _ q => rows_slc rfl q) r0, rfl, rfl⟩ g2 d2).mono fun en w' c' => emb_ok (E1 := E.rows [none, some (mM, oM)]) g hd rfl (fun m m' _ q => by cases q) n2 he' c'
  · obtain ⟨g2, d2, n2⟩ := rows_ok (soft_good g) [some (mF, oF), none] [some (.i64, fs), none] (Nat.le_of_ble_eq_true rfl) (by
      intro j k' ks' hj
      match j, hj with
      | 0, hj => cases hj; exact ⟨mF, oF, fF, rfl, hmF, hdF⟩
      | 1, hj => cases hj
      | j + 2, hj => simp at hj)
    have ht := ma_tg false true lF cF 0 0 q0 q1 q2 q3 fs [] md (slc_cap rF) (Nat.le_refl _) h1 h2
    have he' : emb [] 2 (madV 2 md q0 q1 q2 q3 (ndM true md q0 q1 q2 q3), hL (rowsM false true fs [] ++ madO 2 md (ndM true md q0 q1 q2 q3) (cutN 0) []), mN md.cl 2 + 1) h n = some (v, h', n') := by rw [emb_mad]; exact he
    exact (calls_of_TG1 mo po Try.func14 (by kernel_rfl) (by kernel_rfl) _ _ _ ht (E := E.rows [some (mF, oF), none]) ⟨y, [], ask_rel (fun _ q => rows_slc rfl q) (fun _ q => nil_to q) r0, rfl, rfl⟩ g2 d2).mono fun en w' c' => emb_ok (E1 := E.rows [some (mF, oF), none]) g hd rfl (fun m m' _ q => by cases q) n2 he' c'
  · obtain ⟨g2, d2, n2⟩ := rows_ok (soft_good g) [some (mF, oF), some (mM, oM)] [some (.i64, fs), some (.i64, ms)] (Nat.le_of_ble_eq_true rfl) (by
      intro j k' ks' hj
      match j, hj with
      | 0, hj => cases hj; exact ⟨mF, oF, fF, rfl, hmF, hdF⟩
      | 1, hj => cases hj; exact ⟨mM, oM, fM, rfl, hmM, hdM⟩
      | j + 2, hj => simp at hj)
    have ht := ma_tg false false lF cF lM cM q0 q1 q2 q3 fs ms md (slc_cap rF) (slc_cap rM) h1 h2
    have he' : emb [] 2 (madV 2 md q0 q1 q2 q3 (ndM true md q0 q1 q2 q3), hL (rowsM false false fs ms ++ madO 2 md (ndM true md q0 q1 q2 q3) (cutN lM) ms), mN md.cl 2 + 1) h n = some (v, h', n') := by rw [emb_mad]; exact he
    exact (calls_of_TG1 mo po Try.func14 (by kernel_rfl) (by kernel_rfl) _ _ _ ht (E := E.rows [some (mF, oF), some (mM, oM)]) ⟨y, [], ask_rel (fun _ q => rows_slc rfl q) (fun _ q => rows_slc rfl q) r0, rfl, rfl⟩ g2 d2).mono fun en w' c' => emb_ok (E1 := E.rows [some (mF, oF), some (mM, oM)]) g hd rfl (fun m m' _ q => by cases q) n2 he' c'
end Go.Proofs.Ytadejpmecljjpaa
