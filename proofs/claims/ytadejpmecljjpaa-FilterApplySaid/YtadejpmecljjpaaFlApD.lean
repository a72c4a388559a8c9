/- FilterApply: the reference's convolution of a window. No conditions. -/
import Derived.Test.YtadejpmecljjpaaFlApC
import Derived.Test.YtadejpmecljjpaaFlFifteen
set_option linter.unusedVariables false
set_option linter.unusedSimpArgs false
set_option linter.unusedSectionVars false
namespace Go.Proofs.Ytadejpmecljjpaa
open Go Go.Eng
noncomputable abbrev cdCo : Code := bodyOf Try.f75
noncomputable abbrev tlCo : Code := tailN 3 cdCo
noncomputable abbrev lpCo : Code := seqL tlCo
noncomputable abbrev loCo : Code := inner (seqR lpCo)
noncomputable abbrev enCo : Code := seqR tlCo
section
variable (nC : Bool) (k r d v : Int) (lK cK zK lC cC zC : Nat) (ks cs wx : List Int) (n cn zn : Nat) (S : Q4)
def frCo : List (Nat × V) := [(2, .ptr (some (3, 0))), (1, .slc (some (2, 0)) n cn 4), (4, .ptr (some (4, 0))), (5, .int .i64 S.2.2.2), (6, .ptr (some (5, 0)))]
def lsCo : List (Nat × O) := rwL false 0 .i64 ks ++ (rwL nC 1 .i64 cs ++ ([(2, .ints .u8 wx), (3, .cells (FV k r (slK false 0 lK cK zK 1) d v (slK nC 1 lC cC zC 1)).cells), (4, .cells [.int .u8 0, .int .u8 0, .int .u8 0, .int .u8 0]), (5, .cells [.int .i64 S.1, .int .i64 S.2.1, .int .i64 S.2.2.1])]))
def sCo (i : Nat) : St := stG (frCo n cn S ++ [(7, .int .i64 (Int.ofNat i))]) (hL (lsCo nC k r d v lK cK zK lC cC zC ks cs wx S)) 6
def sC0 : St := stG (frCo n cn (0, 0, 0, 0)) (hL (lsCo nC k r d v lK cK zK lC cC zC ks cs wx (0, 0, 0, 0))) 6
abbrev FVc : V := FV k r (slK false 0 lK cK zK 1) d v (slK nC 1 lC cC zC 1)
abbrev coA (i : Nat) : List Prop := [0 ≤ Int.ofNat i ∧ Int.ofNat i < Int.ofNat lK, 0 + (Int.ofNat i).toNat * 1 < ks.length, 0 ≤ Int.ofNat i ∧ Int.ofNat i < Int.ofNat n, 0 + (Int.ofNat i).toNat * 4 + 3 < wx.length, 0 ≤ Int.ofNat i ∧ Int.ofNat i < Int.ofNat n, 0 + (Int.ofNat i).toNat * 4 + 0 < wx.length, 0 ≤ Int.ofNat i ∧ Int.ofNat i < Int.ofNat n, 0 + (Int.ofNat i).toNat * 4 + 1 < wx.length, 0 ≤ Int.ofNat i ∧ Int.ofNat i < Int.ofNat n, 0 + (Int.ofNat i).toNat * 4 + 2 < wx.length, V.int .i64 (w64 (Int.ofNat i + 1)) = V.int .i64 (Int.ofNat (i + 1))]
def wgC (i : Nat) : Int := w64 (ks.getD (0 + (Int.ofNat i).toNat * 1) 0 * w64 (pixQ wx (Int.ofNat i)).2.2.2)
def coS (i : Nat) : Q4 := (w64 (S.1 + w64 (wgC ks wx i * w64 (pixQ wx (Int.ofNat i)).1)), w64 (S.2.1 + w64 (wgC ks wx i * w64 (pixQ wx (Int.ofNat i)).2.1)), w64 (S.2.2.1 + w64 (wgC ks wx i * w64 (pixQ wx (Int.ofNat i)).2.2.1)), w64 (S.2.2.2 + wgC ks wx i))
theorem co_1 : RunIs Try.prog csV3 [] 1000 3 Try.f75 [2, 1, 4, 5, 6] (headN 3 cdCo) (startSt [FVc nC k r d v lK cK zK lC cC zC, slK false 2 n cn zn 4] (rH [rwK false .i64 ks, rwK nC .i64 cs, rwK false .u8 wx]) 3) []
    [([], [], .to .normal (sC0 nC k r d v lK cK zK lC cC zC ks cs wx n cn))] := by
  unfold RunIs; cases nC <;> kernel_rfl
theorem co_2 : RunIs Try.prog csV3 [] 1000 3 Try.f75 [2, 1, 4, 5, 6, 7] (seqL lpCo) (sC0 nC k r d v lK cK zK lC cC zC ks cs wx n cn) []
    [([], [], .to .normal (sCo nC k r d v lK cK zK lC cC zC ks cs wx n cn (0, 0, 0, 0) 0))] := by
  unfold RunIs; cases nC <;> kernel_rfl
theorem co_3 (i : Nat) : RunIs Try.prog csV3 [(14, .split), (7, .give (.int .i64 (Int.ofNat (i + 1))))] 1000 3 Try.f75 [2, 1, 4, 5, 6, 7] (inner loCo) (sCo nC k r d v lK cK zK lC cC zC ks cs wx n cn S i) []
    [([(decide (Int.ofNat i < Int.ofNat n), true)], coA lK ks wx n i, .to .normal (sCo nC k r d v lK cK zK lC cC zC ks cs wx n cn (coS ks wx S i) (i + 1))),
     ([(decide (Int.ofNat i < Int.ofNat n), false)], [], .to (.exit 0) (sCo nC k r d v lK cK zK lC cC zC ks cs wx n cn S i))] := by
  unfold RunIs; cases nC <;> kernel_rfl
theorem co_4 (i : Nat) : ∃ L, RunIs Try.prog csV3 [(74, .split)] 1000 3 Try.f75 [] enCo (sCo nC k r d v lK cK zK lC cC zC ks cs wx n cn S i) L
    [([(roundI S.2.2.2 d == 0, true)], [], .ret (mkP 0 0 0 0) (hL (rwL false 0 .i64 ks ++ (rwL nC 1 .i64 cs ++ [(2, .ints .u8 wx)]))) 3), ([(roundI S.2.2.2 d == 0, false)], [], .ret (cvP d S) (hL (rwL false 0 .i64 ks ++ (rwL nC 1 .i64 cs ++ [(2, .ints .u8 wx)]))) 3)] := by
  cases nC
  · exact RunIs.of (by kernel_rfl) (by kernel_rfl) (by kernel_rfl)
  · exact RunIs.of (by kernel_rfl) (by kernel_rfl) (by kernel_rfl)
theorem w64_w64 (x : Int) : w64 (w64 x) = w64 x := by
  obtain ⟨a, ha⟩ := w64_mod x
  exact w64_congr (t := a) (by omega)
theorem coS_eq (i : Nat) : coS ks wx S i = stepF ks i (pixQ wx (Int.ofNat i)) S := by
  unfold coS stepF wgC
  rw [Int.mul_one, w64_w64]
def coOk : List Prop := [n ≤ lK, lK ≤ ks.length, n * 4 ≤ wx.length, n ≤ 1000]
abbrev coR : V := mkV (cvQ d (cvF ks (fun i => pixQ wx (Int.ofNat i)) n))
theorem tgCo (hA : ∀ q ∈ coOk lK ks wx n, q) : TG Try.prog 3 Try.f75.ntmps cdCo (startSt [FVc nC k r d v lK cK zK lC cC zC, slK false 2 n cn zn 4] (rH [rwK false .i64 ks, rwK nC .i64 cs, rwK false .u8 wx]) 3)
    (RetG Try.prog 3 Try.f75 fun u _ _ => u = coR d ks wx n) := by
  have a1 : n ≤ lK := hA _ (by simp [coOk])
  have a2 : lK ≤ ks.length := hA _ (by simp [coOk])
  have a3 : n * 4 ≤ wx.length := hA _ (by simp [coOk])
  have a4 : n ≤ 1000 := hA _ (by simp [coOk])
  refine TG_isN1 3 XV3 mo (by kernel_rfl) (co_1 nC k r d v lK cK zK lC cC zC ks cs wx n cn zn) (by simp) ?_
  show TG Try.prog 3 Try.f75.ntmps tlCo _ _
  refine TG_seq' (by kernel_rfl) ?_
  refine TG_isSeq XV3 mo anyR (by kernel_rfl) (by kernel_rfl) (co_2 nC k r d v lK cK zK lC cC zC ks cs wx n cn) fun g hg _ => ?_
  rw [List.mem_singleton] at hg; subst hg
  refine ⟨by simp, fun s' hs' => ?_⟩
  refine TG_block (i := 0) (by kernel_rfl) (TG_mono (Q1 := fun z s' => z = .exit 0 ∧ ∃ L, normG 3 L s' = some (sCo nC k r d v lK cK zK lC cC zC ks cs wx n cn (cvF ks (fun i => pixQ wx (Int.ofNat i)) n) n)) (TG_loop_inv (fun k' s => ∃ i, k' = n - i ∧ i ≤ n ∧ ∃ L, normG 3 L s = some (sCo nC k r d v lK cK zK lC cC zC ks cs wx n cn (cvF ks (fun i => pixQ wx (Int.ofNat i)) i) i)) (by kernel_rfl) ?_ n ⟨0, rfl, Nat.zero_le _, _, hs'⟩) ?_)
  · rintro k' s ⟨i, hk, hi, L, hs⟩
    have hI : Int.ofNat i = (i : Int) := rfl
    have hN : Int.ofNat n = (n : Int) := rfl
    have hK : Int.ofNat lK = (lK : Int) := rfl
    have e0 : (Int.ofNat i).toNat = i := rfl
    refine TG_norm hs ?_
    refine TG_is XV3 mo anyR (by kernel_rfl) (co_3 nC k r d v lK cK zK lC cC zC ks cs wx n cn _ i) fun g hg hc => ?_
    simp only [List.mem_cons, List.not_mem_nil, or_false] at hg
    rcases hg with rfl | rfl
    · have hlt : i < n := by
        have := of_decide_eq_true (hc _ (List.mem_singleton.2 rfl))
        rw [hI, hN] at this; omega
      refine ⟨fun p hp => ?_, fun s' hs' => ?_⟩
      · simp only [List.mem_cons, List.not_mem_nil, or_false] at hp
        rcases hp with rfl | rfl | rfl | rfl | rfl | rfl | rfl | rfl | rfl | rfl | rfl
        · rw [hI, hK]; omega
        · rw [e0]; omega
        · rw [hI, hN]; omega
        · rw [e0]; omega
        · rw [hI, hN]; omega
        · rw [e0]; omega
        · rw [hI, hN]; omega
        · rw [e0]; omega
        · rw [hI, hN]; omega
        · rw [e0]; omega
        · exact upN (by omega)
      · refine ⟨n - (i + 1), by omega, i + 1, rfl, by omega, [2, 1, 4, 5, 6, 7], ?_⟩
        rw [coS_eq] at hs'
        exact hs'
    · have hge : ¬ i < n := by
        have := of_decide_eq_false (hc _ (List.mem_singleton.2 rfl))
        rw [hI, hN] at this; omega
      obtain rfl : i = n := by omega
      exact ⟨by simp, fun s' hs' => ⟨rfl, _, hs'⟩⟩
  · rintro y s2 ⟨rfl, L, hs2⟩
    rw [outOf_exit]
    simp only [andThen]
    refine TG_norm hs2 ?_
    obtain ⟨L', hr⟩ := co_4 nC k r d v lK cK zK lC cC zC ks cs wx n cn (cvF ks (fun i => pixQ wx (Int.ofNat i)) n) n
    refine TG_ret XV3 mo _ (by kernel_rfl) hr fun g hg hc => ?_
    simp only [List.mem_cons, List.not_mem_nil, or_false] at hg
    rcases hg with rfl | rfl
    · have := hc _ (List.mem_singleton.2 rfl)
      have h0 : roundI (cvF ks (fun i => pixQ wx (Int.ofNat i)) n).2.2.2 d = 0 := by simpa using this
      refine ⟨by simp, _, _, _, rfl, ?_⟩
      unfold coR cvQ
      rw [if_pos h0]; rfl
    · have := hc _ (List.mem_singleton.2 rfl)
      have h0 : ¬ roundI (cvF ks (fun i => pixQ wx (Int.ofNat i)) n).2.2.2 d = 0 := by simpa using this
      refine ⟨by simp, _, _, _, rfl, ?_⟩
      unfold coR cvQ
      rw [if_neg h0]; rfl
end
def specCo : List V → Tr O → Option (List Prop × V)
  | [.agg [.int .i64 _, .int .i64 _, sK, .int .i64 d, .int .i64 _, sC], W], h => match rowK .i64 1 h sK, rowK .i64 1 h sC, rowK .u8 4 h W with
    | some (some _, lK, ks), some (_, _, _), some (some _, n, wx) => some (coOk lK ks wx n, coR d ks wx n)
    | _, _, _ => none
  | _, _ => none
theorem one_Co : PureA Try.prog 75 specCo := by
  refine ⟨Nat.le_of_ble_eq_true (by kernel_rfl), fun args h A u e => ?_⟩
  unfold specCo at e
  split at e
  case h_2 => cases e
  rename_i k r sK d v sC W
  split at e
  case h_2 => cases e
  rename_i aK lK ks aC lC cs aW n wx hK hC hW
  simp only [Option.some.injEq, Prod.mk.injEq] at e; obtain ⟨rfl, rfl⟩ := e
  refine ⟨rfl, fun hA E n' w args' ra g hd hc => ?_⟩
  obtain ⟨nK, cK, zK, RK⟩ := rowArg hK
  obtain ⟨nC, cC, zC, RC⟩ := rowArg hC
  obtain ⟨nW, cW, zW, RW⟩ := rowArg hW
  obtain rfl : nK = false := RK.nn
  obtain rfl : nW = false := RW.nn
  obtain ⟨y, ys, r0, ⟨y2, ys2, r1, rs, rfl⟩, rfl⟩ := ra
  have rs : ys2 = [] := rs
  subst rs
  obtain ⟨g2, d2, n2⟩ := rows_ok g [some aK, aC, some aW] [rwK false .i64 ks, rwK nC .i64 cs, rwK false .u8 wx] (Nat.le_of_ble_eq_true rfl) (by
    intro j k' ks' hj
    match j, hj with
    | 0, hj => obtain ⟨m, o, full, e, q⟩ := RK.row k' ks' (Option.some.inj hj); exact ⟨m, o, full, by rw [← e]; rfl, q⟩
    | 1, hj => obtain ⟨m, o, full, rfl, q⟩ := RC.row k' ks' (Option.some.inj hj); exact ⟨m, o, full, rfl, q⟩
    | 2, hj => obtain ⟨m, o, full, e, q⟩ := RW.row k' ks' (Option.some.inj hj); exact ⟨m, o, full, by rw [← e]; rfl, q⟩
    | j + 3, hj => simp at hj)
  exact read_calls mo po Try.func75 (code := cdCo) (by kernel_rfl) (by kernel_rfl) (tgCo nC k r d v lK cK zK lC cC zC ks cs wx n cW zW hA) (E := E.rows [some aK, aC, some aW]) g2 d2 n2
    ⟨y, _, fl_rel (fun z q => RK.rel E _ 0 z rfl q) (fun z q => RC.rel E _ 1 z rfl q) r0, ⟨y2, [], RW.rel E _ 2 y2 rfl r1, rfl, rfl⟩, rfl⟩
end Go.Proofs.Ytadejpmecljjpaa
namespace Go.Proofs.Ytadejpmecljjpaa
open Go Go.Eng
abbrev g1 (s : List Int) (k : Nat) : Int := s.getD (0 + k * 1) 0
abbrev swp (s : List Int) (k : Nat) : List Int := putI (putI s (0 + k * 1) [g1 s (k - 1)]) (0 + (k - 1) * 1) [g1 s k]
def SrtTo (t : List Int) (i : Nat) : Prop := ∀ a b, a < b → b < i → t.getD a 0 ≤ t.getD b 0
def InI (t : List Int) (i k : Nat) : Prop := ∀ a b, a < b → b ≤ i → b ≠ k → t.getD a 0 ≤ t.getD b 0
theorem ix1 (k : Nat) : 0 + k * 1 = k := by omega
theorem swp_get {t : List Int} {k : Nat} (hk : 0 < k) (hl : k < t.length) (j : Nat) : (swp t k).getD j 0 = if j = k - 1 then t.getD k 0 else if j = k then t.getD (k - 1) 0 else t.getD j 0 := by
  unfold swp g1
  rw [ix1, ix1, putI_get (by rw [putI_len (by simp only [List.length_cons, List.length_nil]; omega)]; omega), putI_get (by omega)]
theorem swp_perm {t : List Int} {k : Nat} (hk : 0 < k) (hl : k < t.length) : (swp t k).Perm t := by
  unfold swp g1
  rw [ix1, ix1, putI_set _ k _ hl, putI_set _ (k - 1) _ (by rw [List.length_set]; omega)]
  have e1 : t.getD (k - 1) 0 = t[k - 1]'(by omega) := by rw [List.getD_eq_getElem?_getD, List.getElem?_eq_getElem (by omega)]; rfl
  have e2 : t.getD k 0 = t[k] := by rw [List.getD_eq_getElem?_getD, List.getElem?_eq_getElem hl]; rfl
  rw [e1, e2]
  exact List.set_set_perm hl (by omega)
theorem inI_step {t : List Int} {i k : Nat} (h : InI t i k) (hk : 0 < k) (hl : k < t.length) (hki : k ≤ i) (hlt : t.getD k 0 < t.getD (k - 1) 0) : InI (swp t k) i (k - 1) := by
  intro a b hab hb hbk
  rw [swp_get hk hl, swp_get hk hl, if_neg hbk]
  by_cases hb2 : b = k
  · subst hb2
    rw [if_pos rfl]
    by_cases ha : a = b - 1
    · rw [if_pos ha]; omega
    · rw [if_neg ha, if_neg (by omega)]
      exact h a (b - 1) (by omega) (by omega) (by omega)
  · rw [if_neg hb2]
    by_cases ha : a = k - 1
    · rw [if_pos ha]
      exact h k b (by omega) hb hb2
    · rw [if_neg ha]
      by_cases ha2 : a = k
      · rw [if_pos ha2]
        exact h (k - 1) b (by omega) hb hb2
      · rw [if_neg ha2]
        exact h a b hab hb hb2
theorem inI_exit {t : List Int} {i k : Nat} (h : InI t i k) (hx : k = 0 ∨ ¬ t.getD k 0 < t.getD (k - 1) 0) : SrtTo t (i + 1) := by
  intro a b hab hb
  by_cases hbk : b = k
  · subst hbk
    rcases hx with hx | hx
    · omega
    by_cases ha : a = b - 1
    · subst ha; omega
    · have := h a (b - 1) (by omega) (by omega) (by omega)
      omega
  · exact h a b hab (by omega) hbk
theorem srt_fin {t w : List Int} (hp : t.Perm w) (h : SrtTo t t.length) : t = sortI w := by
  refine List.Perm.eq_of_pairwise (le := fun x y : Int => x ≤ y) (fun a b _ _ h1 h2 => Int.le_antisymm h1 h2) ?_ (sort_pair w) (hp.trans (List.mergeSort_perm w _).symm)
  rw [List.pairwise_iff_getElem]
  intro i j hi hj hij
  have := h i j hij hj
  rw [List.getD_eq_getElem?_getD, List.getD_eq_getElem?_getD, List.getElem?_eq_getElem hi, List.getElem?_eq_getElem hj] at this
  exact this
noncomputable abbrev cdRn : Code := bodyOf Try.f100
noncomputable abbrev tlRn : Code := tailN 2 cdRn
noncomputable abbrev lpRn : Code := seqL tlRn
noncomputable abbrev olRn : Code := inner (seqR lpRn)
noncomputable abbrev enRn : Code := seqR tlRn
noncomputable abbrev b1Rn : Code := inner (seqL (seqR (inner olRn)))
noncomputable abbrev ilRn : Code := inner (seqR b1Rn)
section
variable (w s : List Int) (n : Nat) (rk : Int)
def frRn : List (Nat × V) := [(1, .int .i64 rk), (4, .int .u8 0), (5, .slc (some (1, 0)) n n 1)]
def sR0 : St := stG (frRn n rk) (hL [(0, .ints .u8 w), (1, .own .u8 s)]) 2
def sRi (i : Nat) : St := stG (frRn n rk ++ [(6, .int .i64 (Int.ofNat i))]) (hL [(0, .ints .u8 w), (1, .own .u8 s)]) 2
def sRk (i k : Nat) : St := stG (frRn n rk ++ [(6, .int .i64 (Int.ofNat i)), (7, .int .i64 (Int.ofNat k))]) (hL [(0, .ints .u8 w), (1, .own .u8 s)]) 2
abbrev dnP (k : Nat) : Prop := V.int .i64 (w64 (Int.ofNat k - 1)) = V.int .i64 (Int.ofNat (k - 1))
abbrev rnA (k : Nat) : List Prop := [0 ≤ Int.ofNat k ∧ Int.ofNat k < Int.ofNat n, 0 + k * 1 < s.length, dnP k, 0 ≤ Int.ofNat (k - 1) ∧ Int.ofNat (k - 1) < Int.ofNat n, 0 + (k - 1) * 1 < s.length]
abbrev rnB (k : Nat) : List Prop := [0 ≤ Int.ofNat k ∧ Int.ofNat k < Int.ofNat n, 0 + k * 1 < s.length, dnP k, 0 ≤ Int.ofNat (k - 1) ∧ Int.ofNat (k - 1) < Int.ofNat n, 0 + (k - 1) * 1 < s.length,
  0 ≤ Int.ofNat k ∧ Int.ofNat k < Int.ofNat n, 0 + k * 1 + 1 ≤ s.length, dnP k, 0 ≤ Int.ofNat (k - 1) ∧ Int.ofNat (k - 1) < Int.ofNat n, 0 + (k - 1) * 1 + 1 ≤ (putI s (0 + k * 1) [g1 s (k - 1)]).length, dnP k]
theorem rn_1 (cn zn : Nat) : RunIs Try.prog csV3 [] 1000 1 Try.f100 [1, 4, 5] (headN 2 cdRn) (startSt [slK false 0 n cn zn 1, .int .i64 rk] (rH [rwK false .u8 w]) 1) []
    [([], [0 < n, 0 + n * 1 ≤ w.length, 0 < n, roomy (0 + n) 1 1 = true], .to .normal (sR0 w ([] ++ (w.drop 0).take (n * 1)) (0 + n) rk))] := by
  unfold RunIs; kernel_rfl
theorem rn_2 : RunIs Try.prog csV3 [(6, .give (.int .i64 (Int.ofNat 1)))] 1000 1 Try.f100 [1, 4, 5, 6] (seqL lpRn) (sR0 w s n rk) [] [([], [V.int .i64 1 = V.int .i64 1], .to .normal (sRi w s n rk 1))] := by
  unfold RunIs; kernel_rfl
theorem rn_3 (i : Nat) : RunIs Try.prog csV3 [(15, .split)] 1000 1 Try.f100 [1, 4, 5, 6] (seqL (inner olRn)) (sRi w s n rk i) []
    [([(decide (Int.ofNat i < Int.ofNat n), true)], [], .to .normal (sRi w s n rk i)), ([(decide (Int.ofNat i < Int.ofNat n), false)], [], .to (.exit 0) (sRi w s n rk i))] := by
  unfold RunIs; kernel_rfl
theorem rn_4 (i : Nat) : RunIs Try.prog csV3 [] 1000 1 Try.f100 [1, 4, 5, 6, 7] (seqL b1Rn) (sRi w s n rk i) [] [([], [], .to .normal (sRk w s n rk i i))] := by
  unfold RunIs; kernel_rfl
theorem rn_5 (i k : Nat) : RunIs Try.prog csV3 [(20, .split), (32, .split), (28, .give (.int .i64 (Int.ofNat (k - 1)))), (43, .give (.int .i64 (Int.ofNat (k - 1)))), (49, .give (.int .i64 (Int.ofNat (k - 1)))), (34, .give (.int .i64 (Int.ofNat (k - 1))))] 1000 1 Try.f100 [1, 4, 5, 6, 7] (inner ilRn) (sRk w s n rk i k) []
    [([(decide (Int.ofNat k > 0), true), (decide (g1 s k < g1 s (k - 1)), true)], rnA s n k ++ rnB s n k, .to .normal (sRk w (swp s k) n rk i (k - 1))),
     ([(decide (Int.ofNat k > 0), true), (decide (g1 s k < g1 s (k - 1)), false)], rnA s n k, .to (.exit 2) (sRk w s n rk i k)),
     ([(decide (Int.ofNat k > 0), false), (false, true)], rnB s n k, .to .normal (sRk w (swp s k) n rk i (k - 1))),
     ([(decide (Int.ofNat k > 0), false), (false, false)], [], .to (.exit 2) (sRk w s n rk i k))] := by
  unfold RunIs; kernel_rfl
theorem rn_6 (i k : Nat) : RunIs Try.prog csV3 [(17, .give (.int .i64 (Int.ofNat (i + 1))))] 1000 1 Try.f100 [1, 4, 5, 6] (seqR (seqR (inner olRn))) (sRk w s n rk i k) []
    [([], [upP (Int.ofNat i) (Int.ofNat (i + 1))], .to .normal (sRi w s n rk (i + 1)))] := by
  unfold RunIs; kernel_rfl
theorem rn_7 (i : Nat) : RunIs Try.prog csV3 [] 1000 1 Try.f100 [] enRn (sRi w s n rk i) []
    [([], [0 ≤ rk ∧ rk < Int.ofNat n, 0 + rk.toNat * 1 < s.length], .ret (.int .u8 (s.getD (0 + rk.toNat * 1) 0)) (hL [(0, .ints .u8 w)]) 1)] := by
  unfold RunIs; kernel_rfl
end
def SRn (nil : Bool) (l : Nat) (ks : List Int) (X : List V) : Option (List Prop × V) := match nil, X with
  | false, [.int .i64 rk] => some ([0 < l, l ≤ ks.length, l ≤ 1000, 0 ≤ rk ∧ rk < (l : Int)], .int .u8 ((sortI (ks.take l)).getD rk.toNat 0))
  | _, _ => none
section
variable (w : List Int) (n cn zn : Nat) (rk : Int)
theorem roomy_11 {n : Nat} (h : 0 < n) (h2 : n ≤ 1000) : roomy (0 + n) 1 1 = true := by
  unfold roomy; exact decide_eq_true ⟨by omega, by omega⟩
theorem tgRn (h1 : 0 < n) (h2 : n ≤ w.length) (h3 : n ≤ 1000) (h4 : 0 ≤ rk ∧ rk < (n : Int)) : TG Try.prog 1 Try.f100.ntmps cdRn (startSt [slK false 0 n cn zn 1, .int .i64 rk] (rH [rwK false .u8 w]) 1)
    (RetG Try.prog 1 Try.f100 fun u _ _ => u = .int .u8 ((sortI (w.take n)).getD rk.toNat 0)) := by
  refine TG_isN1 2 XV3 mo (by kernel_rfl) (rn_1 w n rk cn zn) (fun p hp => ?_) ?_
  · simp only [List.mem_cons, List.not_mem_nil, or_false] at hp
    rcases hp with rfl | rfl | rfl | rfl
    · exact h1
    · omega
    · exact h1
    · exact roomy_11 h1 h3
  rw [show ([] ++ (w.drop 0).take (n * 1)) = w.take n by rw [Nat.mul_one]; rfl, show 0 + n = n by omega]
  show TG Try.prog 1 Try.f100.ntmps tlRn _ _
  refine TG_seq' (by kernel_rfl) ?_
  refine TG_isSeq XV3 mo anyR (by kernel_rfl) (by kernel_rfl) (rn_2 w (w.take n) n rk) fun g hg _ => ?_
  rw [List.mem_singleton] at hg; subst hg
  refine ⟨fun p hp => by rw [List.mem_singleton] at hp; subst hp; rfl, fun s' hs' => ?_⟩
  refine TG_block (i := 0) (by kernel_rfl) (TG_mono (Q1 := fun z s' => z = .exit 0 ∧ ∃ L i, normG 1 L s' = some (sRi w (sortI (w.take n)) n rk i)) (TG_loop_inv (fun k' s => ∃ i t, k' = n - i ∧ 1 ≤ i ∧ i ≤ n ∧ t.Perm (w.take n) ∧ SrtTo t i ∧ ∃ L, normG 1 L s = some (sRi w t n rk i)) (by kernel_rfl) ?_ (n - 1) ⟨1, w.take n, rfl, by omega, h1, List.Perm.refl _, fun a b hab hb => by omega, _, hs'⟩) ?_)
  · rintro k' s ⟨i, t, hk, hi1, hi, hp, hst, L, hs⟩
    have hlen : t.length = n := by rw [hp.length_eq, List.length_take]; omega
    have hI : Int.ofNat i = (i : Int) := rfl
    have hN : Int.ofNat n = (n : Int) := rfl
    refine TG_norm hs ?_
    refine TG_isSeq XV3 mo anyR (by kernel_rfl) (by kernel_rfl) (rn_3 w t n rk i) fun g hg hc => ?_
    simp only [List.mem_cons, List.not_mem_nil, or_false] at hg
    rcases hg with rfl | rfl
    · have hlt : i < n := by
        have := of_decide_eq_true (hc _ (List.mem_singleton.2 rfl))
        rw [hI, hN] at this; omega
      refine ⟨by simp, fun s' hs' => TG_norm hs' ?_⟩
      refine TG_seq' (by kernel_rfl) ?_
      refine TG_block (i := 1) (by kernel_rfl) ?_
      refine TG_isSeq XV3 mo anyR (by kernel_rfl) (by kernel_rfl) (rn_4 w t n rk i) fun g hg _ => ?_
      rw [List.mem_singleton] at hg; subst hg
      refine ⟨by simp, fun s' hs' => ?_⟩
      refine TG_block (i := 2) (by kernel_rfl) ?_
      refine TG_mono (Q1 := fun z s' => z = .exit 2 ∧ ∃ L t' k, t'.Perm (w.take n) ∧ SrtTo t' (i + 1) ∧ normG 1 L s' = some (sRk w t' n rk i k)) (TG_loop_inv (fun k' s => ∃ t', t'.Perm (w.take n) ∧ InI t' i k' ∧ k' ≤ i ∧ ∃ L, normG 1 L s = some (sRk w t' n rk i k')) (by kernel_rfl) ?_ i ⟨t, hp, fun a b hab hb hbi => hst a b hab (by omega), Nat.le_refl _, _, hs'⟩) ?_
      · rintro k s ⟨t', hp', hin, hki, L, hs⟩
        have hlen' : t'.length = n := by rw [hp'.length_eq, List.length_take]; omega
        have hK : Int.ofNat k = (k : Int) := rfl
        have hK1 : Int.ofNat (k - 1) = ((k - 1 : Nat) : Int) := rfl
        have hgk : g1 t' k = t'.getD k 0 := by unfold g1; rw [ix1]
        have hgk1 : g1 t' (k - 1) = t'.getD (k - 1) 0 := by unfold g1; rw [ix1]
        have hdn : 0 < k → dnP k := fun h0 => by
          unfold dnP
          rw [hK, hK1, w64_id (by omega) (by omega)]
          congr 1; omega
        refine TG_norm hs ?_
        refine TG_is XV3 mo anyR (by kernel_rfl) (rn_5 w t' n rk i k) fun g hg hc => ?_
        simp only [List.mem_cons, List.not_mem_nil, or_false] at hg
        have hrA : 0 < k → ∀ p ∈ rnA t' n k, p := fun h0 p hp => by
          simp only [List.mem_cons, List.not_mem_nil, or_false] at hp
          rcases hp with rfl | rfl | rfl | rfl | rfl
          · rw [hK, hN]; omega
          · omega
          · exact hdn h0
          · rw [hK1, hN]; omega
          · omega
        have hrB : 0 < k → ∀ p ∈ rnB t' n k, p := fun h0 p hp => by
          have hl : (putI t' (0 + k * 1) [g1 t' (k - 1)]).length = n := by rw [putI_len (by simp only [List.length_cons, List.length_nil]; omega), hlen']
          simp only [List.mem_cons, List.not_mem_nil, or_false] at hp
          rcases hp with rfl | rfl | rfl | rfl | rfl | rfl | rfl | rfl | rfl | rfl | rfl
          · rw [hK, hN]; omega
          · omega
          · exact hdn h0
          · rw [hK1, hN]; omega
          · omega
          · rw [hK, hN]; omega
          · omega
          · exact hdn h0
          · rw [hK1, hN]; omega
          · rw [hl]; omega
          · exact hdn h0
        rcases hg with rfl | rfl | rfl | rfl
        · have c1 := of_decide_eq_true (hc _ (by simp : (decide (Int.ofNat k > 0), true) ∈ _))
          have c2 := of_decide_eq_true (hc _ (by simp : (decide (g1 t' k < g1 t' (k - 1)), true) ∈ _))
          have h0 : 0 < k := by rw [hK] at c1; omega
          rw [hgk, hgk1] at c2
          refine ⟨fun p hp => ?_, fun s' hs' => ?_⟩
          · rcases List.mem_append.1 hp with hp | hp
            · exact hrA h0 p hp
            · exact hrB h0 p hp
          · exact ⟨k - 1, by omega, swp t' k, (swp_perm h0 (by omega)).trans hp', inI_step hin h0 (by omega) hki c2, by omega, [1, 4, 5, 6, 7], hs'⟩
        · have c1 := of_decide_eq_true (hc _ (by simp : (decide (Int.ofNat k > 0), true) ∈ _))
          have c2 := of_decide_eq_false (hc _ (by simp : (decide (g1 t' k < g1 t' (k - 1)), false) ∈ _))
          have h0 : 0 < k := by rw [hK] at c1; omega
          rw [hgk, hgk1] at c2
          exact ⟨hrA h0, fun s' hs' => ⟨rfl, [1, 4, 5, 6, 7], t', k, hp', inI_exit hin (.inr c2), hs'⟩⟩
        · have c2 := hc (false, true) (by simp)
          cases c2
        · have c1 := of_decide_eq_false (hc _ (by simp : (decide (Int.ofNat k > 0), false) ∈ _))
          have h0 : k = 0 := by rw [hK] at c1; omega
          exact ⟨by simp, fun s' hs' => ⟨rfl, [1, 4, 5, 6, 7], t', k, hp', inI_exit hin (.inl h0), hs'⟩⟩
      · rintro z s' ⟨rfl, L, t', k, hp', hst', hs2⟩
        rw [outOf_exit]
        simp only [outOf, andThen]
        refine TG_norm hs2 ?_
        refine TG_is XV3 mo anyR (by kernel_rfl) (rn_6 w t' n rk i k) fun g hg _ => ?_
        rw [List.mem_singleton] at hg; subst hg
        refine ⟨fun p hp => by rw [List.mem_singleton] at hp; subst hp; exact upN (by omega), fun s' hs' => ?_⟩
        exact ⟨n - (i + 1), by omega, i + 1, t', rfl, by omega, by omega, hp', hst', [1, 4, 5, 6], hs'⟩
    · have hge : ¬ i < n := by
        have := of_decide_eq_false (hc _ (List.mem_singleton.2 rfl))
        rw [hI, hN] at this; omega
      obtain rfl : i = n := by omega
      refine ⟨by simp, fun s' hs' => ⟨rfl, [1, 4, 5, 6], i, ?_⟩⟩
      have := srt_fin hp (by rw [hlen]; exact hst)
      rw [this] at hs'
      exact hs'
  · rintro y s2 ⟨rfl, L, i, hs2⟩
    rw [outOf_exit]
    simp only [andThen]
    refine TG_norm hs2 ?_
    refine TG_ret XV3 mo _ (by kernel_rfl) (rn_7 w (sortI (w.take n)) n rk i) fun g hg _ => ?_
    rw [List.mem_singleton] at hg; subst hg
    have hl : (sortI (w.take n)).length = n := by rw [sortI_len, List.length_take]; omega
    have hN : Int.ofNat n = (n : Int) := rfl
    refine ⟨fun p hp => ?_, _, _, _, rfl, by rw [ix1]⟩
    simp only [List.mem_cons, List.not_mem_nil, or_false] at hp
    rcases hp with rfl | rfl
    · rw [hN]; exact h4
    · rw [hl]; omega
end
theorem pRn : PureA Try.prog 100 (rowSpec .u8 1 SRn) := by
  refine rowSpec_ok mo po (Nat.le_of_ble_eq_true (by kernel_rfl)) Try.func100 (code := bodyOf Try.f100) (by kernel_rfl) (fun nil l ks X A u e => ?_) (fun X A u c z e => ?_) (fun l ks X A u c e hA => ?_)
  · unfold SRn at e
    split at e
    · simp only [Option.some.injEq, Prod.mk.injEq] at e; obtain ⟨rfl, rfl⟩ := e
      exact ⟨rfl, rfl, by kernel_rfl⟩
    · cases e
  · unfold SRn at e; cases e
  · unfold SRn at e
    split at e
    · rename_i rk _
      simp only [Option.some.injEq, Prod.mk.injEq] at e; obtain ⟨rfl, rfl⟩ := e
      exact tgRn ks l c 0 rk (hA _ (by simp)) (hA _ (by simp)) (hA _ (by simp)) (hA (0 ≤ rk ∧ rk < (l : Int)) (by simp))
    · cases e
end Go.Proofs.Ytadejpmecljjpaa
namespace Go.Proofs.Ytadejpmecljjpaa
open Go Go.Eng
noncomputable abbrev WV4 : CtrW := addW 75 (readW specCo) (addW 100 (readW (rowSpec .u8 1 SRn)) (addW 74 specWi WV3))
theorem WV4_ok : CtrWOk Try.prog WV4 := addW_ok (readW_ok one_Co) (addW_ok (readW_ok pRn) (addW_ok one_Wi WV3_ok))
noncomputable abbrev csV4 : CallS := callX Try.prog WV4 H0 1000 40
noncomputable abbrev XV4 : CX Try.prog := CX.of mo po WV4_ok H0 1000 40
noncomputable abbrev cdOr : Code := bodyOf Try.f76
noncomputable abbrev tlOr : Code := tailN 5 cdOr
noncomputable abbrev lpOr : Code := seqL tlOr
noncomputable abbrev loOr : Code := inner (seqR lpOr)
noncomputable abbrev enOr : Code := seqR tlOr
def chn (f : Nat → Int) : Nat → List Int
  | 0 => []
  | m + 1 => ((chn f m).drop 0).take (m * 1) ++ [f m]
theorem chn_len (f : Nat → Int) : ∀ m, (chn f m).length = m
  | 0 => rfl
  | m + 1 => by
    have := chn_len f m
    simp only [chn, List.length_append, List.length_take, List.drop_zero, List.length_cons, List.length_nil]
    omega
theorem chn_eq (f : Nat → Int) : ∀ m, chn f m = (List.range m).map f
  | 0 => rfl
  | m + 1 => by
    simp only [chn, List.drop_zero, Nat.mul_one]
    rw [List.take_of_length_le (by rw [chn_len]; omega), chn_eq f m, List.range_succ, List.map_append]
    rfl
section
variable (w : List Int) (n cn : Nat) (rk : Int) (m : Nat) (o1 o2 o3 o4 : O)
def frOr : List (Nat × V) := [(0, .slc (some (0, 0)) n cn 4), (1, .int .i64 rk), (4, .ptr (some (1, 0))), (5, .slc (some (2, 0)) m m 1), (6, .slc (some (3, 0)) m m 1), (7, .slc (some (4, 0)) m m 1), (8, .slc (some (5, 0)) m m 1)]
def lsOr : List (Nat × O) := [(0, .ints .u8 w), (1, .cells [.int .u8 0, .int .u8 0, .int .u8 0, .int .u8 0]), (2, o1), (3, o2), (4, o3), (5, o4)]
def sOr0 : St := stG (frOr n cn rk m) (hL (lsOr w o1 o2 o3 o4)) 6
def sOr (i : Nat) : St := stG (frOr n cn rk m ++ [(9, .int .i64 (Int.ofNat i))]) (hL (lsOr w o1 o2 o3 o4)) 6
abbrev ciU (x : Int) : O := .cells [.int .u8 x]
theorem or_1 (zn : Nat) : RunIs Try.prog csV4 [] 1000 1 Try.f76 [0, 1, 4, 5, 6, 7, 8] (headN 5 cdOr) (startSt [slK false 0 n cn zn 4, .int .i64 rk] (rH [rwK false .u8 w]) 1) []
    [([], [], .to .normal (sOr0 w n cn rk 0 (plB true []) (plB true []) (plB true []) (plB true [])))] := by
  unfold RunIs; kernel_rfl
theorem or_2 : RunIs Try.prog csV4 [(9, .give (.int .i64 (Int.ofNat 0)))] 1000 1 Try.f76 [0, 1, 4, 5, 6, 7, 8, 9] (seqL lpOr) (sOr0 w n cn rk 0 (plB true []) (plB true []) (plB true []) (plB true [])) []
    [([], [V.int .i64 0 = V.int .i64 0], .to .normal (sOr w n cn rk 0 (plB true []) (plB true []) (plB true []) (plB true []) 0))] := by
  unfold RunIs; kernel_rfl
theorem or_30 : RunIs Try.prog csV4 [(17, .split), (19, .give (.int .i64 (Int.ofNat 1)))] 1000 1 Try.f76 [0, 1, 4, 5, 6, 7, 8, 9] (inner loOr) (sOr w n cn rk 0 (plB true []) (plB true []) (plB true []) (plB true []) 0) []
    [([(decide (Int.ofNat 0 < Int.ofNat n), true)], [0 ≤ Int.ofNat 0 ∧ Int.ofNat 0 < Int.ofNat n, 0 < w.length, 0 ≤ Int.ofNat 0 ∧ Int.ofNat 0 < Int.ofNat n, 1 < w.length, 0 ≤ Int.ofNat 0 ∧ Int.ofNat 0 < Int.ofNat n, 2 < w.length, 0 ≤ Int.ofNat 0 ∧ Int.ofNat 0 < Int.ofNat n, 3 < w.length, V.int .i64 1 = V.int .i64 1],
      .to .normal (sOr w n cn rk 1 (ciU (pq w (Int.ofNat 0) 0)) (ciU (pq w (Int.ofNat 0) 1)) (ciU (pq w (Int.ofNat 0) 2)) (ciU (pq w (Int.ofNat 0) 3)) 1)),
     ([(decide (Int.ofNat 0 < Int.ofNat n), false)], [], .to (.exit 0) (sOr w n cn rk 0 (plB true []) (plB true []) (plB true []) (plB true []) 0))] := by
  unfold RunIs; kernel_rfl
abbrev orA (a : List Int) (j : Nat) : List Prop := [0 ≤ Int.ofNat m ∧ Int.ofNat m < Int.ofNat n, 0 + (Int.ofNat m).toNat * 4 + j < w.length, 0 < m, 0 + m * 1 ≤ a.length, 0 < 1, roomy (m + 1) 1 1 = true]
abbrev nxC (a : List Int) (j : Nat) : O := .own .u8 ((a.drop 0).take (m * 1) ++ [pq w (Int.ofNat m) j])
theorem or_3 (a b c d : List Int) : RunIs Try.prog csV4 [(17, .split), (19, .give (.int .i64 (Int.ofNat (m + 1))))] 1000 1 Try.f76 [0, 1, 4, 5, 6, 7, 8, 9] (inner loOr) (sOr w n cn rk m (.own .u8 a) (.own .u8 b) (.own .u8 c) (.own .u8 d) m) []
    [([(decide (Int.ofNat m < Int.ofNat n), true)], orA w n m a 0 ++ (orA w n m b 1 ++ (orA w n m c 2 ++ (orA w n m d 3 ++ [upP (Int.ofNat m) (Int.ofNat (m + 1))]))),
      .to .normal (sOr w n cn rk (m + 1) (nxC w m a 0) (nxC w m b 1) (nxC w m c 2) (nxC w m d 3) (m + 1))),
     ([(decide (Int.ofNat m < Int.ofNat n), false)], [], .to (.exit 0) (sOr w n cn rk m (.own .u8 a) (.own .u8 b) (.own .u8 c) (.own .u8 d) m))] := by
  unfold RunIs; kernel_rfl
theorem or_own (x1 x2 x3 x4 : Int) (i : Nat) : ownS [(2, .u8), (3, .u8), (4, .u8), (5, .u8)] (sOr w n cn rk m (ciU x1) (ciU x2) (ciU x3) (ciU x4) i) = some (sOr w n cn rk m (.own .u8 [x1]) (.own .u8 [x2]) (.own .u8 [x3]) (.own .u8 [x4]) i) := by
  kernel_rfl
abbrev orE (a : List Int) : List Prop := [0 < m, m ≤ (a.drop 0).length, m ≤ 1000, 0 ≤ rk ∧ rk < (m : Int)]
abbrev orV (a : List Int) : V := .int .u8 ((sortI ((a.drop 0).take m)).getD rk.toNat 0)
theorem or_4 (a b c d : List Int) : RunIs Try.prog csV4 [] 1000 1 Try.f76 [] enOr (sOr w n cn rk m (.own .u8 a) (.own .u8 b) (.own .u8 c) (.own .u8 d) m) []
    [([], orE rk m a ++ (orE rk m b ++ (orE rk m c ++ orE rk m d)), .ret (.agg [orV rk m a, orV rk m b, orV rk m c, orV rk m d]) (hL [(0, .ints .u8 w)]) 1)] := by
  unfold RunIs; kernel_rfl
def rkO' (rk : Int) (g : Nat → Q4) (m : Nat) : Q4 := ((sortI (chL (·.1) g m)).getD rk.toNat 0, (sortI (chL (·.2.1) g m)).getD rk.toNat 0, (sortI (chL (·.2.2.1) g m)).getD rk.toNat 0, (sortI (chL (·.2.2.2) g m)).getD rk.toNat 0)
abbrev orR : V := mkV (rkO' rk (fun i => pixQ w (Int.ofNat i)) n)
theorem orV_eq (f : Nat → Int) : orV rk m (chn f m) = .int .u8 ((sortI ((List.range m).map f)).getD rk.toNat 0) := by
  unfold orV
  rw [List.drop_zero, List.take_of_length_le (by rw [chn_len]; omega), chn_eq]
def orOk : List Prop := [0 < n, n * 4 ≤ w.length, n ≤ 1000, 0 ≤ rk ∧ rk < (n : Int)]
theorem tgOr (zn : Nat) (hA : ∀ q ∈ orOk w n rk, q) : TG Try.prog 1 Try.f76.ntmps cdOr (startSt [slK false 0 n cn zn 4, .int .i64 rk] (rH [rwK false .u8 w]) 1)
    (RetG Try.prog 1 Try.f76 fun u _ _ => u = orR w n rk) := by
  have a1 : 0 < n := hA _ (by simp [orOk])
  have a2 : n * 4 ≤ w.length := hA _ (by simp [orOk])
  have a3 : n ≤ 1000 := hA _ (by simp [orOk])
  have a4 : 0 ≤ rk ∧ rk < (n : Int) := hA (0 ≤ rk ∧ rk < (n : Int)) (by simp [orOk])
  have hN : Int.ofNat n = (n : Int) := rfl
  refine TG_isN1 5 XV4 mo (by kernel_rfl) (or_1 w n cn rk zn) (by simp) ?_
  show TG Try.prog 1 Try.f76.ntmps tlOr _ _
  refine TG_seq' (by kernel_rfl) ?_
  refine TG_isSeq XV4 mo anyR (by kernel_rfl) (by kernel_rfl) (or_2 w n cn rk) fun g hg _ => ?_
  rw [List.mem_singleton] at hg; subst hg
  refine ⟨fun p hp => by rw [List.mem_singleton] at hp; subst hp; rfl, fun s' hs' => ?_⟩
  refine TG_block (i := 0) (by kernel_rfl) (TG_mono (Q1 := fun z s' => z = .exit 0 ∧ ∃ L, normG 1 L s' = some (sOr w n cn rk n (.own .u8 (chn (fun i => pq w (Int.ofNat i) 0) n)) (.own .u8 (chn (fun i => pq w (Int.ofNat i) 1) n)) (.own .u8 (chn (fun i => pq w (Int.ofNat i) 2) n)) (.own .u8 (chn (fun i => pq w (Int.ofNat i) 3) n)) n)) (TG_loop_inv (fun k' s => ∃ i, k' = n - i ∧ i ≤ n ∧ ∃ L s1 o, normG 1 L s = some s1 ∧ ownS o s1 = some (sOr w n cn rk i (plB (Nat.beq i 0) (chn (fun i => pq w (Int.ofNat i) 0) i)) (plB (Nat.beq i 0) (chn (fun i => pq w (Int.ofNat i) 1) i)) (plB (Nat.beq i 0) (chn (fun i => pq w (Int.ofNat i) 2) i)) (plB (Nat.beq i 0) (chn (fun i => pq w (Int.ofNat i) 3) i)) i)) (by kernel_rfl) ?_ n ⟨0, rfl, Nat.zero_le _, _, _, [], hs', rfl⟩) ?_)
  · rintro k' s ⟨i, hk, hi, L, s1, o, hs, ho⟩
    refine TG_norm hs (TG_own o ho ?_)
    cases i with
    | zero =>
      refine TG_is XV4 mo anyR (by kernel_rfl) (or_30 w n cn rk) fun g hg hc => ?_
      simp only [List.mem_cons, List.not_mem_nil, or_false] at hg
      have h0 : Int.ofNat 0 = (0 : Int) := rfl
      rcases hg with rfl | rfl
      · refine ⟨fun p hp => ?_, fun s' hs' => ?_⟩
        · simp only [List.mem_cons, List.not_mem_nil, or_false] at hp
          rcases hp with rfl | rfl | rfl | rfl | rfl | rfl | rfl | rfl | rfl
          · rw [h0, hN]; omega
          · omega
          · rw [h0, hN]; omega
          · omega
          · rw [h0, hN]; omega
          · omega
          · rw [h0, hN]; omega
          · omega
          · first | trivial | rfl
        · exact ⟨n - 1, by omega, 1, rfl, by omega, [0, 1, 4, 5, 6, 7, 8, 9], _, [(2, .u8), (3, .u8), (4, .u8), (5, .u8)], hs', or_own w n cn rk 1 _ _ _ _ 1⟩
      · exfalso
        have := of_decide_eq_false (hc _ (List.mem_singleton.2 rfl))
        rw [h0, hN] at this; omega
    | succ i =>
      refine TG_is XV4 mo anyR (by kernel_rfl) (or_3 w n cn rk (i + 1) _ _ _ _) fun g hg hc => ?_
      simp only [List.mem_cons, List.not_mem_nil, or_false] at hg
      have hI : Int.ofNat (i + 1) = ((i + 1 : Nat) : Int) := rfl
      rcases hg with rfl | rfl
      · have hlt : i + 1 < n := by
          have := of_decide_eq_true (hc _ (List.mem_singleton.2 rfl))
          rw [hI, hN] at this; omega
        have e0 : (Int.ofNat (i + 1)).toNat = i + 1 := rfl
        have key : ∀ (f : Nat → Int) (j : Nat), j ≤ 3 → ∀ p ∈ orA w n (i + 1) (chn f (i + 1)) j, p := fun f j hj p hp => by
          simp only [List.mem_cons, List.not_mem_nil, or_false] at hp
          rcases hp with rfl | rfl | rfl | rfl | rfl | rfl
          · rw [hI, hN]; omega
          · rw [e0]; omega
          · omega
          · rw [chn_len]; omega
          · omega
          · unfold roomy; exact decide_eq_true ⟨by omega, by omega⟩
        refine ⟨fun p hp => ?_, fun s' hs' => ?_⟩
        · rcases List.mem_append.1 hp with hp | hp
          · exact key _ 0 (by omega) p hp
          rcases List.mem_append.1 hp with hp | hp
          · exact key _ 1 (by omega) p hp
          rcases List.mem_append.1 hp with hp | hp
          · exact key _ 2 (by omega) p hp
          rcases List.mem_append.1 hp with hp | hp
          · exact key _ 3 (by omega) p hp
          · rw [List.mem_singleton] at hp; subst hp; exact upN (by omega)
        · exact ⟨n - (i + 2), by omega, i + 2, rfl, by omega, [0, 1, 4, 5, 6, 7, 8, 9], _, [], hs', ownS_nil _⟩
      · have hge : ¬ i + 1 < n := by
          have := of_decide_eq_false (hc _ (List.mem_singleton.2 rfl))
          rw [hI, hN] at this; omega
        obtain rfl : i + 1 = n := by omega
        exact ⟨by simp, fun s' hs' => ⟨rfl, _, hs'⟩⟩
  · rintro y s2 ⟨rfl, L, hs2⟩
    rw [outOf_exit]
    simp only [andThen]
    refine TG_norm hs2 ?_
    refine TG_ret XV4 mo _ (by kernel_rfl) (or_4 w n cn rk n _ _ _ _) fun g hg _ => ?_
    rw [List.mem_singleton] at hg; subst hg
    have key : ∀ (f : Nat → Int), ∀ p ∈ orE rk n (chn f n), p := fun f p hp => by
      simp only [List.mem_cons, List.not_mem_nil, or_false] at hp
      rcases hp with rfl | rfl | rfl | rfl
      · exact a1
      · rw [List.drop_zero, chn_len]; omega
      · exact a3
      · exact a4
    refine ⟨fun p hp => ?_, _, _, _, rfl, ?_⟩
    · rcases List.mem_append.1 hp with hp | hp
      · exact key _ p hp
      rcases List.mem_append.1 hp with hp | hp
      · exact key _ p hp
      rcases List.mem_append.1 hp with hp | hp
      · exact key _ p hp
      · exact key _ p hp
    · rw [orV_eq, orV_eq, orV_eq, orV_eq]; rfl
end
def specOr : List V → Tr O → Option (List Prop × V)
  | [W, .int .i64 rk], h => match rowK .u8 4 h W with
    | some (some _, n, w) => some (orOk w n rk, orR w n rk)
    | _ => none
  | _, _ => none
theorem one_Or : PureA Try.prog 76 specOr := by
  refine ⟨Nat.le_of_ble_eq_true (by kernel_rfl), fun args h A u e => ?_⟩
  unfold specOr at e
  split at e
  case h_2 => cases e
  rename_i W rk
  split at e
  case h_2 => cases e
  rename_i aW n w hW
  simp only [Option.some.injEq, Prod.mk.injEq] at e; obtain ⟨rfl, rfl⟩ := e
  refine ⟨rfl, fun hA E n' w' args' ra g hd hc => ?_⟩
  obtain ⟨nW, cW, zW, RW⟩ := rowArg hW
  obtain rfl : nW = false := RW.nn
  obtain ⟨y, ys, r0, ⟨y2, ys2, r1, rs, rfl⟩, rfl⟩ := ra
  have rs : ys2 = [] := rs
  subst rs
  obtain ⟨g2, d2, n2⟩ := rows_ok g [some aW] [rwK false .u8 w] (Nat.le_of_ble_eq_true rfl) (by
    intro j k' ks' hj
    match j, hj with
    | 0, hj => obtain ⟨m, o, full, e, q⟩ := RW.row k' ks' (Option.some.inj hj); exact ⟨m, o, full, by rw [← e]; rfl, q⟩
    | j + 1, hj => simp at hj)
  exact read_calls mo po Try.func76 (code := cdOr) (by kernel_rfl) (by kernel_rfl) (tgOr w n cW rk zW hA) (E := E.rows [some aW]) g2 d2 n2
    ⟨y, _, RW.rel E _ 0 y rfl r0, ⟨y2, [], r1, rfl, rfl⟩, rfl⟩
end Go.Proofs.Ytadejpmecljjpaa
