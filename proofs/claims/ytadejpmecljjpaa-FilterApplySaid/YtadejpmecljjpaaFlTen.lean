/- Filter laws anew, part ZS: the library's sort at this program, in plain words. No conditions. -/
import Derived.Shelf.Sort.Plain
import Derived.Test.YtadejpmecljjpaaFlEight
import Derived.Test.YtadejpmecljjpaaFlNine
set_option linter.unusedVariables false
set_option linter.unusedSimpArgs false
set_option linter.unusedSectionVars false
namespace Go.Proofs.Ytadejpmecljjpaa
open Go Go.Eng Go.Shelf Go.Sort Go.RowKit
def sortRen : Go.Shelf.Ren := ⟨fun | 189 => 97 | 125 => 109 | 257 => 108 | 128 => 121 | 129 => 122 | 294 => 113 | 295 => 114 | 296 => 115 | 297 => 116 | 298 => 117 | 299 => 118 | 216 => 103 | 300 => 119 | 301 => 120 | 328 => 123 | 329 => 124 | 330 => 125 | 331 => 126 | 332 => 127 | 215 => 112 | 343 => 128 | n => n, fun | 28 => 22 | 3 => 3 | 46 => 121 | 0 => 0 | 51 => 88 | 53 => 105 | 4 => 4 | 183 => 128 | 182 => 127 | 131 => 132 | 5 => 5 | 9 => 9 | 218 => 136 | 222 => 140 | 228 => 142 | 229 => 143 | n => n, fun n => n⟩
theorem sortLays : Lays.n189 Try.prog sortRen := {
  mixed := mo
  f125 := Try.func109.trans (congrArg some (by kernel_rfl))
  f128 := Try.func121.trans (congrArg some (by kernel_rfl))
  f129 := Try.func122.trans (congrArg some (by kernel_rfl))
  f189 := Try.func97.trans (congrArg some (by kernel_rfl))
  f215 := Try.func112.trans (congrArg some (by kernel_rfl))
  f216 := Try.func103.trans (congrArg some (by kernel_rfl))
  f257 := Try.func108.trans (congrArg some (by kernel_rfl))
  f294 := Try.func113.trans (congrArg some (by kernel_rfl))
  f295 := Try.func114.trans (congrArg some (by kernel_rfl))
  f296 := Try.func115.trans (congrArg some (by kernel_rfl))
  f297 := Try.func116.trans (congrArg some (by kernel_rfl))
  f298 := Try.func117.trans (congrArg some (by kernel_rfl))
  f299 := Try.func118.trans (congrArg some (by kernel_rfl))
  f300 := Try.func119.trans (congrArg some (by kernel_rfl))
  f301 := Try.func120.trans (congrArg some (by kernel_rfl))
  f328 := Try.func123.trans (congrArg some (by kernel_rfl))
  f329 := Try.func124.trans (congrArg some (by kernel_rfl))
  f330 := Try.func125.trans (congrArg some (by kernel_rfl))
  f331 := Try.func126.trans (congrArg some (by kernel_rfl))
  f332 := Try.func127.trans (congrArg some (by kernel_rfl))
  f343 := Try.func128.trans (congrArg some (by kernel_rfl))
  t0 := Try.underlying0
  a0 := Try.isAgg0
  z0 := Try.sizeOf0
  v0 := Try.zeroValue0
  t3 := Try.underlying3
  a3 := Try.isAgg3
  z3 := Try.sizeOf3
  v3 := Try.zeroValue3
  t4 := Try.underlying4
  a4 := Try.isAgg4
  z4 := Try.sizeOf4
  v4 := Try.zeroValue4
  t5 := Try.underlying5
  a5 := Try.isAgg5
  z5 := Try.sizeOf5
  v5 := Try.zeroValue5
  t9 := Try.underlying9
  a9 := Try.isAgg9
  z9 := Try.sizeOf9
  v9 := Try.zeroValue9
  t28 := Try.underlying22
  a28 := Try.isAgg22
  z28 := Try.sizeOf22
  v28 := Try.zeroValue22
  t46 := Try.underlying121
  a46 := Try.isAgg121
  z46 := Try.sizeOf121
  v46 := Try.zeroValue121
  t51 := Try.underlying88
  a51 := Try.isAgg88
  z51 := Try.sizeOf88
  v51 := Try.zeroValue88
  t53 := Try.underlying105
  a53 := Try.isAgg105
  z53 := Try.sizeOf105
  v53 := Try.zeroValue105
  t131 := Try.underlying132
  a131 := Try.isAgg132
  z131 := Try.sizeOf132
  v131 := Try.zeroValue132
  t182 := Try.underlying127
  a182 := Try.isAgg127
  z182 := Try.sizeOf127
  v182 := Try.zeroValue127
  t183 := Try.underlying128
  a183 := Try.isAgg128
  z183 := Try.sizeOf128
  v183 := Try.zeroValue128
  t218 := Try.underlying136
  a218 := Try.isAgg136
  z218 := Try.sizeOf136
  v218 := Try.zeroValue136
  t222 := Try.underlying140
  a222 := Try.isAgg140
  z222 := Try.sizeOf140
  v222 := Try.zeroValue140
  t228 := Try.underlying142
  a228 := Try.isAgg142
  z228 := Try.sizeOf142
  v228 := Try.zeroValue142
  t229 := Try.underlying143
  a229 := Try.isAgg143
  z229 := Try.sizeOf143
  v229 := Try.zeroValue143
}
theorem sorts97 : Sorts Try.prog 97 := fun blk off cap zs w hH hblk hsz => Any.slices_Sort_int sortLays blk off cap zs w hH hblk hsz
end Go.Proofs.Ytadejpmecljjpaa
namespace Go.Proofs.Ytadejpmecljjpaa
open Go Go.Eng
def rcN (a b c e : Int) : Nat := (e - b).toNat * (c - a).toNat
theorem rcN_0 {a b c e : Int} (h : emptyB a b c e = true) : rcN a b c e = 0 := by
  unfold rcN
  rcases emptyB_t h with q | q
  · rw [show (c - a).toNat = 0 by omega, Nat.mul_zero]
  · rw [show (e - b).toNat = 0 by omega, Nat.zero_mul]
theorem rcN_pos {a b c e : Int} (h : emptyB a b c e = false) : 0 < rcN a b c e := by
  obtain ⟨h1, h2⟩ := emptyB_f h
  exact Nat.mul_pos (by omega) (by omega)
theorem beq_pos {m : Nat} (h : 0 < m) : Nat.beq m 0 = false := by
  cases m with
  | zero => omega
  | succ m => rfl
theorem aE_0 {X0 Y0 X1 Y1 a b c e : Int} {lP : Nat} {k r d v : Int} {lK : Nat} {ks : List Int} {lC : Nat} {cs : List Int} (h : apErr X0 Y0 X1 Y1 a b c e lP k r d v lK ks lC cs = 0) :
    validB k r d v lK ks lC cs = true ∧ admB X0 Y0 X1 Y1 = true ∧ (lP : Int) = areI X0 Y0 X1 Y1 ∧ admB a b c e = true ∧ areI a b c e ≤ 262144 ∧ insB (areaQ true k r v a b c e (-1)).1 (areaQ true k r v a b c e (-1)).2.1 (areaQ true k r v a b c e (-1)).2.2.1 (areaQ true k r v a b c e (-1)).2.2.2 X0 Y0 X1 Y1 = true := by
  unfold apErr at h
  split at h
  · cases h
  rename_i h0
  split at h
  · cases h
  rename_i h1
  split at h
  · cases h
  rename_i h2
  split at h
  · cases h
  rename_i h3
  split at h
  · cases h
  rename_i h4
  split at h
  · cases h
  rename_i h5
  exact ⟨Bool.of_not_eq_false h0, Bool.of_not_eq_false h1, Classical.not_not.1 h2, Bool.of_not_eq_false h3, by omega, Bool.of_not_eq_false h5⟩
theorem aE_of {X0 Y0 X1 Y1 a b c e : Int} {lP : Nat} {k r d v : Int} {lK : Nat} {ks : List Int} {lC : Nat} {cs : List Int}
    (h0 : validB k r d v lK ks lC cs = true) (h1 : admB X0 Y0 X1 Y1 = true) (h2 : (lP : Int) = areI X0 Y0 X1 Y1) (h3 : admB a b c e = true) (h4 : areI a b c e ≤ 262144) (h5 : insB (areaQ true k r v a b c e (-1)).1 (areaQ true k r v a b c e (-1)).2.1 (areaQ true k r v a b c e (-1)).2.2.1 (areaQ true k r v a b c e (-1)).2.2.2 X0 Y0 X1 Y1 = true) :
    apErr X0 Y0 X1 Y1 a b c e lP k r d v lK ks lC cs = 0 := by
  unfold apErr
  rw [if_neg (by rw [h0]; simp), if_neg (by rw [h1]; simp), if_neg (fun q => q h2), if_neg (by rw [h3]; simp), if_neg (by omega), if_neg (by rw [h5]; simp)]
section
variable (nK nC : Bool) (X0 Y0 X1 Y1 a b c e : Int) (lP cP : Nat) (k r d v : Int) (lK cK zK lC cC zC : Nat) (ks cs px : List Int)
theorem ap_good (hf : ∀ p ∈ fa4 nK nC lK lC ks cs, p) (hp : lP * 4 ≤ px.length) (hE : aE nK nC X0 Y0 X1 Y1 a b c e lP k r d v lK lC ks cs = 0) : TG Try.prog 3 Try.f15.ntmps cdAp (stAp nK nC X0 Y0 X1 Y1 a b c e lP cP k r d v lK cK zK lC cC zC ks cs px)
    (RetG Try.prog 3 Try.f15 fun u h n => u = resV a b c e (Nat.beq (rcN a b c e) 0) (rcN a b c e) ∧ h = resH nK nC ks cs px (Nat.beq (rcN a b c e) 0) (oR (kdOf k) nK nC X0 Y0 X1 a b c k r d v lC ks cs px (rcN a b c e)) ∧ n = resN (Nat.beq (rcN a b c e) 0)) := by
  obtain ⟨h0, h1, h2, h3, h4, h5⟩ := aE_0 hE
  have hneg : ∀ {x : Bool}, x = true → (!x) = false := fun h => by rw [h]; rfl
  have hA := ap_valid h0 hf ⟨h1, h2, hp⟩ h3 h4 h5
  obtain ⟨L, hr⟩ := ap_u1 nK nC X0 Y0 X1 Y1 a b c e lP cP k r d v lK cK zK lC cC zC ks cs px
  have h5' : insB (ndQ nK nC a b c e k r d v lK lC ks cs).1 (ndQ nK nC a b c e k r d v lK lC ks cs).2.1 (ndQ nK nC a b c e k r d v lK lC ks cs).2.2.1 (ndQ nK nC a b c e k r d v lK lC ks cs).2.2.2 X0 Y0 X1 Y1 = true := by
    unfold ndQ vB; rw [h0]; exact h5
  refine TG_isN1 2 (XG sorts97) mo (by kernel_rfl) hr (fun p hp' => ?_) (ap_main sorts97 (kdOf k) nK nC X0 Y0 X1 Y1 a b c e lP cP k r d v lK cK zK lC cC zC ks cs px hA (metN_kd k))
  rcases List.mem_append.1 hp' with hp' | hp'
  · exact hf p hp'
  rcases List.mem_append.1 hp' with hp' | hp'
  · simp only [List.mem_cons, List.not_mem_nil, or_false] at hp'
    rcases hp' with rfl | rfl | rfl | rfl | rfl
    · exact pBq_f (hneg h0)
    · exact pBq_f (hneg h1)
    · exact pBq_f (bne_eq_false_iff_eq.2 h2)
    · exact pBq_f (hneg h3)
    · exact pBq_f (decide_eq_false (by omega))
  rcases List.mem_append.1 hp' with hp' | hp'
  · exact hf p hp'
  · rw [List.mem_singleton] at hp'; subst hp'
    exact pBq_f (hneg h5')
end
def apO (X0 Y0 X1 a b c e : Int) (px : List Int) (k r d v : Int) (ks : List Int) (lC : Nat) (cs : List Int) : List Int :=
  outR (apP (kdOf k) false false X0 Y0 X1 a b c k r d v lC ks cs px) (rcN a b c e)
def SOk : AF := fun X0 Y0 X1 Y1 a b c e lP px k r d v lK ks lC cs => (fa0 lK ks lC cs ++ [lP * 4 ≤ px.length, apErr X0 Y0 X1 Y1 a b c e lP k r d v lK ks lC cs = 0, emptyB a b c e = false],
  resV a b c e false (rcN a b c e), some (apO X0 Y0 X1 a b c e px k r d v ks lC cs))
def SEm : AF := fun X0 Y0 X1 Y1 a b c e lP px k r d v lK ks lC cs => (fa0 lK ks lC cs ++ [lP * 4 ≤ px.length, apErr X0 Y0 X1 Y1 a b c e lP k r d v lK ks lC cs = 0, emptyB a b c e = true], resV a b c e true 0, none)
def SEr (z : Int) : AF := fun X0 Y0 X1 Y1 a b c e lP _ k r d v lK ks lC cs => (fa0 lK ks lC cs ++ [apErr X0 Y0 X1 Y1 a b c e lP k r d v lK ks lC cs = z, z ≠ 0], errV z, none)
theorem one_ApOk : OneW Try.prog 15 (apSpec SOk) := by
  refine apSpec_ok fun X0 Y0 X1 Y1 a b c e lP cP px k r d v lK ks lC cs nK nC cK zK cC zC hA => ?_
  have h1 : ln nK lK ≤ (rw' nK ks).length := hA _ (by simp [SOk, fa0])
  have h2 : ln nK lK ≤ 1000 := hA _ (by simp [SOk, fa0])
  have h3 : ln nC lC ≤ (rw' nC cs).length := hA _ (by simp [SOk, fa0])
  have h4 : ln nC lC ≤ 1000 := hA _ (by simp [SOk, fa0])
  have h5 : lP * 4 ≤ px.length := hA _ (by simp [SOk])
  have h6 : aE nK nC X0 Y0 X1 Y1 a b c e lP k r d v lK lC ks cs = 0 := hA _ (by simp [SOk])
  have h7 : emptyB a b c e = false := hA _ (by simp [SOk])
  have hg := ap_good nK nC X0 Y0 X1 Y1 a b c e lP cP k r d v lK cK zK lC cC zC ks cs px (by
    simp only [fa4, List.mem_cons, List.not_mem_nil, or_false]
    rintro p (rfl | rfl | rfl | rfl) <;> assumption) h5 h6
  rw [beq_pos (rcN_pos h7)] at hg
  exact hg
theorem one_ApEm : OneW Try.prog 15 (apSpec SEm) := by
  refine apSpec_ok fun X0 Y0 X1 Y1 a b c e lP cP px k r d v lK ks lC cs nK nC cK zK cC zC hA => ?_
  have h1 : ln nK lK ≤ (rw' nK ks).length := hA _ (by simp [SEm, fa0])
  have h2 : ln nK lK ≤ 1000 := hA _ (by simp [SEm, fa0])
  have h3 : ln nC lC ≤ (rw' nC cs).length := hA _ (by simp [SEm, fa0])
  have h4 : ln nC lC ≤ 1000 := hA _ (by simp [SEm, fa0])
  have h5 : lP * 4 ≤ px.length := hA _ (by simp [SEm])
  have h6 : aE nK nC X0 Y0 X1 Y1 a b c e lP k r d v lK lC ks cs = 0 := hA _ (by simp [SEm])
  have h7 : emptyB a b c e = true := hA _ (by simp [SEm])
  have hg := ap_good nK nC X0 Y0 X1 Y1 a b c e lP cP k r d v lK cK zK lC cC zC ks cs px (by
    simp only [fa4, List.mem_cons, List.not_mem_nil, or_false]
    rintro p (rfl | rfl | rfl | rfl) <;> assumption) h5 h6
  rw [rcN_0 h7] at hg
  exact hg
theorem one_ApEr (z : Int) : OneW Try.prog 15 (apSpec (SEr z)) := by
  refine apSpec_ok fun X0 Y0 X1 Y1 a b c e lP cP px k r d v lK ks lC cs nK nC cK zK cC zC hA => ?_
  have h1 : ln nK lK ≤ (rw' nK ks).length := hA _ (by simp [SEr, fa0])
  have h2 : ln nK lK ≤ 1000 := hA _ (by simp [SEr, fa0])
  have h3 : ln nC lC ≤ (rw' nC cs).length := hA _ (by simp [SEr, fa0])
  have h4 : ln nC lC ≤ 1000 := hA _ (by simp [SEr, fa0])
  have h6 : aE nK nC X0 Y0 X1 Y1 a b c e lP k r d v lK lC ks cs = z := hA _ (by simp [SEr])
  have h7 : z ≠ 0 := hA (z ≠ 0) (by simp [SEr])
  have hg := ap_err sorts97 nK nC X0 Y0 X1 Y1 a b c e lP cP k r d v lK cK zK lC cC zC ks cs px (by
    simp only [fa4, List.mem_cons, List.not_mem_nil, or_false]
    rintro p (rfl | rfl | rfl | rfl) <;> assumption) (by rw [h6]; exact h7)
  rw [h6] at hg
  exact hg
end Go.Proofs.Ytadejpmecljjpaa
namespace Go.Proofs.Ytadejpmecljjpaa
open Go Go.Eng
abbrev u32w (x : Int) : Int := IntKind.u32.wrap x
def madeA (x : Int) : Int := if (u32w x).tmod 5 = 3 then 0 else if (u32w x).tmod 5 = 1 then 255 else u8w (u32w ((u32w x).tdiv 16777216))
def madeQ (x : Int) : Q4 := (u8w (u32w x), u8w (u32w ((u32w x).tdiv 256)), u8w (u32w ((u32w x).tdiv 65536)), madeA x)
def smX (q : Int) : Int := w64 (mask 31 q - 16)
def smW (q w : Int) : Int := w64 (w64 (smX q + 1) + mask 7 w)
theorem rCr (a b c d : Int) : RunIs Try.prog csG [(5,.split)] 1000 0 Try.f32 [] (bodyOf Try.f32) (startSt [.agg [.int .u8 a, .int .u8 b, .int .u8 c, .int .u8 d]] .nil 0)
    []
    [([((d == (0 : Int)), true)],
      [],
      .ret (.agg [.int .u8 0, .int .u8 0, .int .u8 0, .int .u8 0]) (hL []) 0),
    ([((d == (0 : Int)), false)],
      [],
      .ret (.agg [.int .u8 a, .int .u8 b, .int .u8 c, .int .u8 d]) (hL []) 0)]
  := by unfold RunIs; kernel_rfl
theorem tgZCr (a b c d : Int) : TG Try.prog 0 Try.f32.ntmps (bodyOf Try.f32) (startSt [.agg [.int .u8 a, .int .u8 b, .int .u8 c, .int .u8 d]] .nil 0) (RetG Try.prog 0 Try.f32 fun z _ _ => z = mkV (clQ (a, b, c, d))) := by
  refine TG_ret (XG sorts97) mo _ (by kernel_rfl) (rCr a b c d) fun g hg hc => ?_
  simp only [List.mem_cons, List.not_mem_nil, or_false] at hg
  rcases hg with rfl | rfl <;> (refine ⟨by simp, _, _, _, rfl, ?_⟩; simp only [List.mem_cons, List.not_mem_nil, or_false, forall_eq_or_imp, forall_eq] at hc; first | rfl | (simp_all [mkV, clQ, mkP]; done) | (simp_all [mkV, clQ, mkP]; first | rfl | (intros; omega)))
def specCr : List V → Option (List Prop × V)
  | [.agg [.int .u8 a, .int .u8 b, .int .u8 c, .int .u8 d]] => some ([], mkV (clQ (a, b, c, d)))
  | _ => none
theorem one_Cr : OneW Try.prog 32 (pureW specCr) := by
  refine pureW_ok (Nat.le_of_ble_eq_true (by kernel_rfl)) fun args A v e => ?_
  unfold specCr at e
  split at e
  · simp only [Option.some.injEq, Prod.mk.injEq] at e; obtain ⟨rfl, rfl⟩ := e
    exact ⟨rfl, by first | rfl | (simp only [mkV, clQ, mkP]; split <;> rfl), fun _ => pure_calls mo po Try.func32 (by kernel_rfl) (by kernel_rfl) rfl (tgZCr _ _ _ _)⟩
  · cases e
theorem rRr (a b c d : Int) : RunIs Try.prog csG [(6,.split)] 1000 0 Try.f50 [] (bodyOf Try.f50) (startSt [.agg [.int .i64 a, .int .i64 b, .int .i64 c, .int .i64 d]] .nil 0)
    []
    [([((emptyB a b c d), true)],
      [],
      .ret (.int .i64 0) (hL []) 0),
    ([((emptyB a b c d), false)],
      [],
      .ret (.int .i64 (IntKind.i64.wrap (IntKind.i64.wrap (c - a) * IntKind.i64.wrap (d - b)))) (hL []) 0)]
  := by unfold RunIs; kernel_rfl
theorem tgZRr (a b c d : Int) : TG Try.prog 0 Try.f50.ntmps (bodyOf Try.f50) (startSt [.agg [.int .i64 a, .int .i64 b, .int .i64 c, .int .i64 d]] .nil 0) (RetG Try.prog 0 Try.f50 fun z _ _ => z = .int .i64 (areI a b c d)) := by
  refine TG_ret (XG sorts97) mo _ (by kernel_rfl) (rRr a b c d) fun g hg hc => ?_
  simp only [List.mem_cons, List.not_mem_nil, or_false] at hg
  rcases hg with rfl | rfl <;> (refine ⟨by simp, _, _, _, rfl, ?_⟩; simp only [List.mem_cons, List.not_mem_nil, or_false, forall_eq_or_imp, forall_eq] at hc; first | rfl | (simp_all [areI]; done) | (simp_all [areI]; first | rfl | (intros; omega)))
def specRr : List V → Option (List Prop × V)
  | [.agg [.int .i64 a, .int .i64 b, .int .i64 c, .int .i64 d]] => some ([], .int .i64 (areI a b c d))
  | _ => none
theorem one_Rr : OneW Try.prog 50 (pureW specRr) := by
  refine pureW_ok (Nat.le_of_ble_eq_true (by kernel_rfl)) fun args A v e => ?_
  unfold specRr at e
  split at e
  · simp only [Option.some.injEq, Prod.mk.injEq] at e; obtain ⟨rfl, rfl⟩ := e
    exact ⟨rfl, by first | rfl | (simp only [areI]; split <;> rfl), fun _ => pure_calls mo po Try.func50 (by kernel_rfl) (by kernel_rfl) rfl (tgZRr _ _ _ _)⟩
  · cases e
theorem rMr (a : Int) : RunIs Try.prog csG [(21,.split),(25,.split)] 1000 0 Try.f33 [] (bodyOf Try.f33) (startSt [.int .i64 a] .nil 0)
    []
    [([(((IntKind.u32.wrap a).tmod (5 : Int) == (1 : Int)), true), (((IntKind.u32.wrap a).tmod (5 : Int) == (3 : Int)), true)],
      [((256 : Int) ≠ (0 : Int)), ((65536 : Int) ≠ (0 : Int)), ((16777216 : Int) ≠ (0 : Int))],
      .ret (.agg [.int .u8 (IntKind.u8.wrap (IntKind.u32.wrap a)), .int .u8 (IntKind.u8.wrap (IntKind.u32.wrap ((IntKind.u32.wrap a).tdiv (256 : Int)))), .int .u8 (IntKind.u8.wrap (IntKind.u32.wrap ((IntKind.u32.wrap a).tdiv (65536 : Int)))), .int .u8 0]) (hL []) 0),
    ([(((IntKind.u32.wrap a).tmod (5 : Int) == (1 : Int)), true), (((IntKind.u32.wrap a).tmod (5 : Int) == (3 : Int)), false)],
      [((256 : Int) ≠ (0 : Int)), ((65536 : Int) ≠ (0 : Int)), ((16777216 : Int) ≠ (0 : Int))],
      .ret (.agg [.int .u8 (IntKind.u8.wrap (IntKind.u32.wrap a)), .int .u8 (IntKind.u8.wrap (IntKind.u32.wrap ((IntKind.u32.wrap a).tdiv (256 : Int)))), .int .u8 (IntKind.u8.wrap (IntKind.u32.wrap ((IntKind.u32.wrap a).tdiv (65536 : Int)))), .int .u8 255]) (hL []) 0),
    ([(((IntKind.u32.wrap a).tmod (5 : Int) == (1 : Int)), false), (((IntKind.u32.wrap a).tmod (5 : Int) == (3 : Int)), true)],
      [((256 : Int) ≠ (0 : Int)), ((65536 : Int) ≠ (0 : Int)), ((16777216 : Int) ≠ (0 : Int))],
      .ret (.agg [.int .u8 (IntKind.u8.wrap (IntKind.u32.wrap a)), .int .u8 (IntKind.u8.wrap (IntKind.u32.wrap ((IntKind.u32.wrap a).tdiv (256 : Int)))), .int .u8 (IntKind.u8.wrap (IntKind.u32.wrap ((IntKind.u32.wrap a).tdiv (65536 : Int)))), .int .u8 0]) (hL []) 0),
    ([(((IntKind.u32.wrap a).tmod (5 : Int) == (1 : Int)), false), (((IntKind.u32.wrap a).tmod (5 : Int) == (3 : Int)), false)],
      [((256 : Int) ≠ (0 : Int)), ((65536 : Int) ≠ (0 : Int)), ((16777216 : Int) ≠ (0 : Int))],
      .ret (.agg [.int .u8 (IntKind.u8.wrap (IntKind.u32.wrap a)), .int .u8 (IntKind.u8.wrap (IntKind.u32.wrap ((IntKind.u32.wrap a).tdiv (256 : Int)))), .int .u8 (IntKind.u8.wrap (IntKind.u32.wrap ((IntKind.u32.wrap a).tdiv (65536 : Int)))), .int .u8 (IntKind.u8.wrap (IntKind.u32.wrap ((IntKind.u32.wrap a).tdiv (16777216 : Int))))]) (hL []) 0)]
  := by unfold RunIs; kernel_rfl
theorem tgZMr (a : Int) : TG Try.prog 0 Try.f33.ntmps (bodyOf Try.f33) (startSt [.int .i64 a] .nil 0) (RetG Try.prog 0 Try.f33 fun z _ _ => z = mkV (madeQ a)) := by
  refine TG_ret (XG sorts97) mo _ (by kernel_rfl) (rMr a) fun g hg hc => ?_
  simp only [List.mem_cons, List.not_mem_nil, or_false] at hg
  rcases hg with rfl | rfl | rfl | rfl <;> (refine ⟨by simp, _, _, _, rfl, ?_⟩; simp only [List.mem_cons, List.not_mem_nil, or_false, forall_eq_or_imp, forall_eq] at hc; first | rfl | (simp_all [mkV, madeQ, madeA, mkP]; done) | (simp_all [mkV, madeQ, madeA, mkP]; first | rfl | (intros; omega)))
def specMr : List V → Option (List Prop × V)
  | [.int .i64 a] => some ([], mkV (madeQ a))
  | _ => none
theorem one_Mr : OneW Try.prog 33 (pureW specMr) := by
  refine pureW_ok (Nat.le_of_ble_eq_true (by kernel_rfl)) fun args A v e => ?_
  unfold specMr at e
  split at e
  · simp only [Option.some.injEq, Prod.mk.injEq] at e; obtain ⟨rfl, rfl⟩ := e
    exact ⟨rfl, by first | rfl | (simp only [mkV, madeQ, madeA, mkP]; split <;> rfl), fun _ => pure_calls mo po Try.func33 (by kernel_rfl) (by kernel_rfl) rfl (tgZMr _)⟩
  · cases e
theorem rSm (a b c d : Int) : RunIs Try.prog csG [] 1000 0 Try.f21 [] (bodyOf Try.f21) (startSt [.agg [.int .i64 a, .int .i64 b, .int .i64 c, .int .i64 d]] .nil 0)
    []
    [([],
      [],
      .ret (.agg [.int .i64 (IntKind.i64.wrap (IntKind.i64.wrap ↑(BitVec.ofInt (64 : Nat) a &&& BitVec.ofInt (64 : Nat) (31 : Int)).toNat - (16 : Int))), .int .i64 (IntKind.i64.wrap (IntKind.i64.wrap ↑(BitVec.ofInt (64 : Nat) b &&& BitVec.ofInt (64 : Nat) (31 : Int)).toNat - (16 : Int))), .int .i64 (IntKind.i64.wrap (IntKind.i64.wrap (IntKind.i64.wrap (IntKind.i64.wrap ↑(BitVec.ofInt (64 : Nat) a &&& BitVec.ofInt (64 : Nat) (31 : Int)).toNat - (16 : Int)) + (1 : Int)) + IntKind.i64.wrap ↑(BitVec.ofInt (64 : Nat) c &&& BitVec.ofInt (64 : Nat) (7 : Int)).toNat)), .int .i64 (IntKind.i64.wrap (IntKind.i64.wrap (IntKind.i64.wrap (IntKind.i64.wrap ↑(BitVec.ofInt (64 : Nat) b &&& BitVec.ofInt (64 : Nat) (31 : Int)).toNat - (16 : Int)) + (1 : Int)) + IntKind.i64.wrap ↑(BitVec.ofInt (64 : Nat) d &&& BitVec.ofInt (64 : Nat) (7 : Int)).toNat))]) (hL []) 0)]
  := by unfold RunIs; kernel_rfl
theorem tgZSm (a b c d : Int) : TG Try.prog 0 Try.f21.ntmps (bodyOf Try.f21) (startSt [.agg [.int .i64 a, .int .i64 b, .int .i64 c, .int .i64 d]] .nil 0) (RetG Try.prog 0 Try.f21 fun z _ _ => z = .agg [.int .i64 (smX a), .int .i64 (smX b), .int .i64 (smW a c), .int .i64 (smW b d)]) := by
  refine TG_ret (XG sorts97) mo _ (by kernel_rfl) (rSm a b c d) fun g hg hc => ?_
  simp only [List.mem_cons, List.not_mem_nil, or_false] at hg
  rcases hg with rfl <;> (refine ⟨by simp, _, _, _, rfl, ?_⟩; simp only [List.mem_cons, List.not_mem_nil, or_false, forall_eq_or_imp, forall_eq] at hc; first | rfl | (simp_all [smX, smW]; done) | (simp_all [smX, smW]; first | rfl | (intros; omega)))
def specSm : List V → Option (List Prop × V)
  | [.agg [.int .i64 a, .int .i64 b, .int .i64 c, .int .i64 d]] => some ([], .agg [.int .i64 (smX a), .int .i64 (smX b), .int .i64 (smW a c), .int .i64 (smW b d)])
  | _ => none
theorem one_Sm : OneW Try.prog 21 (pureW specSm) := by
  refine pureW_ok (Nat.le_of_ble_eq_true (by kernel_rfl)) fun args A v e => ?_
  unfold specSm at e
  split at e
  · simp only [Option.some.injEq, Prod.mk.injEq] at e; obtain ⟨rfl, rfl⟩ := e
    exact ⟨rfl, by first | rfl | (simp only [smX, smW]; split <;> rfl), fun _ => pure_calls mo po Try.func21 (by kernel_rfl) (by kernel_rfl) rfl (tgZSm _ _ _ _)⟩
  · cases e
theorem rOn (a b : Int) : RunIs Try.prog csG [] 1000 0 Try.f20 [] (bodyOf Try.f20) (startSt [.int .i64 a, .int .i64 b] .nil 0)
    []
    [([],
      [],
      .ret (.agg [.int .i64 a, .int .i64 b, .int .i64 (IntKind.i64.wrap (a + (1 : Int))), .int .i64 (IntKind.i64.wrap (b + (1 : Int)))]) (hL []) 0)]
  := by unfold RunIs; kernel_rfl
theorem tgZOn (a b : Int) : TG Try.prog 0 Try.f20.ntmps (bodyOf Try.f20) (startSt [.int .i64 a, .int .i64 b] .nil 0) (RetG Try.prog 0 Try.f20 fun z _ _ => z = .agg [.int .i64 a, .int .i64 b, .int .i64 (w64 (a + 1)), .int .i64 (w64 (b + 1))]) := by
  refine TG_ret (XG sorts97) mo _ (by kernel_rfl) (rOn a b) fun g hg hc => ?_
  simp only [List.mem_cons, List.not_mem_nil, or_false] at hg
  rcases hg with rfl <;> (refine ⟨by simp, _, _, _, rfl, ?_⟩; simp only [List.mem_cons, List.not_mem_nil, or_false, forall_eq_or_imp, forall_eq] at hc; first | rfl | (simp_all [smX, smW]; done) | (simp_all [smX, smW]; first | rfl | (intros; omega)))
def specOn : List V → Option (List Prop × V)
  | [.int .i64 a, .int .i64 b] => some ([], .agg [.int .i64 a, .int .i64 b, .int .i64 (w64 (a + 1)), .int .i64 (w64 (b + 1))])
  | _ => none
theorem one_On : OneW Try.prog 20 (pureW specOn) := by
  refine pureW_ok (Nat.le_of_ble_eq_true (by kernel_rfl)) fun args A v e => ?_
  unfold specOn at e
  split at e
  · simp only [Option.some.injEq, Prod.mk.injEq] at e; obtain ⟨rfl, rfl⟩ := e
    exact ⟨rfl, by first | rfl | (simp only [smX, smW]; split <;> rfl), fun _ => pure_calls mo po Try.func20 (by kernel_rfl) (by kernel_rfl) rfl (tgZOn _ _)⟩
  · cases e
noncomputable abbrev WH : CtrW := addW 32 (pureW specCr) (addW 50 (pureW specRr) (addW 33 (pureW specMr) (addW 21 (pureW specSm) (addW 20 (pureW specOn) W5))))
theorem WH_ok : CtrWOk Try.prog WH := addW_ok one_Cr (addW_ok one_Rr (addW_ok one_Mr (addW_ok one_Sm (addW_ok one_On W5_ok))))
noncomputable abbrev csH : CallS := callX Try.prog WH H0 1000 40
noncomputable abbrev XH : CX Try.prog := CX.of mo po WH_ok H0 1000 40
end Go.Proofs.Ytadejpmecljjpaa
