/- The Doc laws: filter.Bytes: pieces. No conditions. -/
import Derived.Test.YtmjggdmekboefaaGreatJointEight
import Derived.Test.YtmjggdmekboefaaGreatJointNine
import Derived.Test.YtmjggdmekboefaaGreatJointFive
import Derived.Test.YtmjggdmekboefaaGreatJointFour
set_option linter.unusedVariables false
set_option linter.unusedSimpArgs false
set_option linter.unusedSectionVars false
namespace Go.Proofs.YtmjggdmekboefaaGreat
open Go Go.Eng
noncomputable abbrev cdNu : Code := bodyOf Tryz.f106
noncomputable abbrev tlNu : Code := tailN 2 cdNu
noncomputable abbrev cdBy : Code := bodyOf Tryz.f63
def sNu (n : Nat) (cs : List D) (s : List UInt8) (i : Nat) : St := stG [(3, .str s), (6, .lst false n cs), (7, iW n), (8, iW i)] .nil 0
def intL : List D → List Int
  | .int .i64 x :: r => x :: intL r
  | _ => []
theorem intL_isD : ∀ l : List Int, intL (isD l) = l
  | [] => rfl
  | x :: l => by
    show x :: intL (isD l) = _
    rw [intL_isD l]
def numsB (l : List Int) : List UInt8 := (l.map varB).flatten
def textB (s : List UInt8) : List UInt8 := varB (Int.ofNat s.length) ++ s
def specNu : List D → Option (List Prop × V)
  | [.lst n cs] => some ([cs = isD (intL cs), n = (intL cs).length, n ≤ 4000000], .str (numsB (intL cs)))
  | _ => none
theorem nu_1 (n : Nat) (cs : List D) : ∃ L, RunIs Tryz.prog (csH W4 []) [] 1000 0 Tryz.f106 [0, 3] (headN 2 cdNu) (startSt [.lst false n cs] .nil 0) L
    [([],
      [],
      .to .normal (stG [(0, .lst false n cs), (3, .str [])] (hL []) 0))]
  := RunIs.of (by kernel_rfl) (by kernel_rfl) (by kernel_rfl)
theorem nu_2 (n : Nat) (cs : List D) : ∃ L, RunIs Tryz.prog (csH W4 []) [] 1000 0 Tryz.f106 [3, 6, 7, 8] (seqL (seqL tlNu)) (stG [(0, .lst false n cs), (3, .str [])] .nil 0) L
    [([],
      [],
      .to .normal (sNu n cs [] 0))]
  := RunIs.of (by kernel_rfl) (by kernel_rfl) (by kernel_rfl)
theorem nu_3 (n : Nat) (cs : List D) (s : List UInt8) (i : Nat) (v : Int) : ∃ L, RunIs Tryz.prog (csH W4 []) [(9, .split), (10, .give (.fptr [.int .i64 v])), (16, .give (iW (i + 1)))] 1000 0 Tryz.f106 [3, 6, 7, 8] (inner (inner (seqR (seqL tlNu)))) (sNu n cs s i) L
    [([((decide (Int.ofNat i < Int.ofNat n)), true)],
      [((0 : Int) ≤ Int.ofNat i ∧ Int.ofNat i < (Int.ofNat n)), (cs.length = n * 1), (V.fptr (cellsAt cs (i * 1) 1) = V.fptr [D.int IntKind.i64 v]), (s.length + (varB v).length ≤ 9223372036854775807), (V.int IntKind.i64 (IntKind.i64.wrap (Int.ofNat i + (1 : Int))) = iW (i + 1))],
      .to .normal (sNu n cs (s ++ varB v) (i + 1))),
    ([((decide (Int.ofNat i < Int.ofNat n)), false)],
      [],
      .to (.exit 0) (sNu n cs s i))]
  := RunIs.of (by kernel_rfl) (by kernel_rfl) (by kernel_rfl)
theorem nu_4 (n : Nat) (cs : List D) (s : List UInt8) (i : Nat) : ∃ L, RunIs Tryz.prog (csH W4 []) [] 1000 0 Tryz.f106 [] (seqR tlNu) (sNu n cs s i) L
    [([],
      [],
      .ret (.str s) (hL []) 0)]
  := RunIs.of (by kernel_rfl) (by kernel_rfl) (by kernel_rfl)
theorem by_1 (f : FL) : ∃ L, RunIs Tryz.prog (csH (addW 106 (thawD specNu) W4) []) [] 1000 0 Tryz.f63 [] (cdBy) (startSt [f.v] .nil 0) L
    [([],
      [([D.int IntKind.i64 f.k, D.int IntKind.i64 f.r, D.int IntKind.i64 (Int.ofNat f.ker.length)].length = 3), ([D.int IntKind.i64 f.k, D.int IntKind.i64 f.r, D.int IntKind.i64 (Int.ofNat f.ker.length)] = isD (intL [D.int IntKind.i64 f.k, D.int IntKind.i64 f.r, D.int IntKind.i64 (Int.ofNat f.ker.length)])), (3 = (intL [D.int IntKind.i64 f.k, D.int IntKind.i64 f.r, D.int IntKind.i64 (Int.ofNat f.ker.length)]).length), (3 ≤ 4000000), (isD f.ker = isD (intL (isD f.ker))), (f.ker.length = (intL (isD f.ker)).length), (f.ker.length ≤ 4000000), ((numsB (intL [D.int IntKind.i64 f.k, D.int IntKind.i64 f.r, D.int IntKind.i64 (Int.ofNat f.ker.length)])).length + (numsB (intL (isD f.ker))).length ≤ 9223372036854775807), ([D.int IntKind.i64 f.dv, D.int IntKind.i64 f.vl, D.int IntKind.i64 (Int.ofNat f.cu.length)].length = 3), ([D.int IntKind.i64 f.dv, D.int IntKind.i64 f.vl, D.int IntKind.i64 (Int.ofNat f.cu.length)] = isD (intL [D.int IntKind.i64 f.dv, D.int IntKind.i64 f.vl, D.int IntKind.i64 (Int.ofNat f.cu.length)])), (3 = (intL [D.int IntKind.i64 f.dv, D.int IntKind.i64 f.vl, D.int IntKind.i64 (Int.ofNat f.cu.length)]).length), (3 ≤ 4000000), ((numsB (intL [D.int IntKind.i64 f.k, D.int IntKind.i64 f.r, D.int IntKind.i64 (Int.ofNat f.ker.length)]) ++ numsB (intL (isD f.ker))).length + (numsB (intL [D.int IntKind.i64 f.dv, D.int IntKind.i64 f.vl, D.int IntKind.i64 (Int.ofNat f.cu.length)])).length ≤ 9223372036854775807), (isD f.cu = isD (intL (isD f.cu))), (f.cu.length = (intL (isD f.cu)).length), (f.cu.length ≤ 4000000), ((numsB (intL [D.int IntKind.i64 f.k, D.int IntKind.i64 f.r, D.int IntKind.i64 (Int.ofNat f.ker.length)]) ++ numsB (intL (isD f.ker)) ++ numsB (intL [D.int IntKind.i64 f.dv, D.int IntKind.i64 f.vl, D.int IntKind.i64 (Int.ofNat f.cu.length)])).length + (numsB (intL (isD f.cu))).length ≤ 9223372036854775807)],
      .ret (.str (numsB [f.k, f.r, Int.ofNat f.ker.length] ++ numsB (intL (isD f.ker)) ++ numsB [f.dv, f.vl, Int.ofNat f.cu.length] ++ numsB (intL (isD f.cu)))) (hL []) 0)]
  := RunIs.of (by kernel_rfl) (by kernel_rfl) (by kernel_rfl)
end Go.Proofs.YtmjggdmekboefaaGreat
namespace Go.Proofs.YtmjggdmekboefaaGreat
open Go Go.Eng
theorem numsB_step {l : List Int} {i : Nat} {v : Int} (h : l[i]? = some v) : numsB (l.take (i + 1)) = numsB (l.take i) ++ varB v := by
  unfold numsB
  rw [List.take_add_one, h]; simp
theorem numsB_len : ∀ l : List Int, (numsB l).length ≤ 10 * l.length
  | [] => by simp [numsB]
  | x :: l => by
    have := numsB_len l
    have h := (varB_len x).2
    unfold numsB at this ⊢
    simp only [List.map_cons, List.flatten_cons, List.length_append, List.length_cons]; omega
theorem numsD (l : List Int) (hl : l.length ≤ 4000000) : DeepTo Tryz.prog 106 [isV l] (.str (numsB l)) := by
  refine deepT Tryz.func106 ?_
  refine isE1 2 W4_ok (nu_1 l.length (isD l)) all_nil ?_
  refine loopF W4_ok 0 _ [3, 6, 7, 8] (l.length - ·) (· ≤ l.length) (fun i => sNu l.length (isD l) (numsB (l.take i)) i) 0 (Nat.zero_le _) (nu_2 _ _) all_nil .refl fun i hi => ?_
  refine ⟨_, W4_ok, [], _, _, nu_3 _ _ _ i (l.getD i 0), gcons (g1 fun h => ?_) (gone (g1 fun h => ⟨all_nil, rfl, ?_⟩))⟩
  · have hlt := dlt h
    obtain ⟨v, hv⟩ : ∃ v, l[i]? = some v := ⟨_, List.getElem?_eq_getElem hlt⟩
    have ev : l.getD i 0 = v := by rw [List.getD_eq_getElem?_getD, hv]; rfl
    rw [ev]
    have h1 := numsB_len (l.take i)
    have h2 := (varB_len v).2
    rw [List.length_take] at h1
    refine ⟨fm (ibd hlt) (fm (isD_len l) (fm (isD_at hv) (fm (by omega) (fm1 (vsuc (by omega)))))), i + 1, lsub hlt, hlt, ?_⟩
    rw [← numsB_step hv]; exact .refl
  · obtain rfl : i = l.length := by have := dge h; omega
    rw [List.take_length]
    exact retE W4_ok (nu_4 _ _ _ _) (gone (g0 ⟨all_nil, _, _, _, rfl, rfl⟩))
theorem one_Nu : OneW Tryz.prog 106 (thawD specNu) := by
  refine thawD_ok (by kernel_rfl) fun ds A v e hA => ?_
  unfold specNu at e
  split at e
  case h_2 => cases e
  rename_i n cs
  obtain ⟨rfl, rfl⟩ := sm e
  have h1 : cs = isD (intL cs) := hA _ (by simp)
  have h2 : n = (intL cs).length := hA (n = (intL cs).length) (by simp)
  have h3 : n ≤ 4000000 := hA (n ≤ 4000000) (by simp)
  generalize intL cs = l at *
  subst h1 h2
  exact numsD l h3
def bytesF (f : FL) : List UInt8 := numsB [f.k, f.r, Int.ofNat f.ker.length] ++ numsB f.ker ++ numsB [f.dv, f.vl, Int.ofNat f.cu.length] ++ numsB f.cu
theorem bytesF_len (f : FL) : (bytesF f).length ≤ 60 + 10 * f.ker.length + 10 * f.cu.length := by
  have h1 := numsB_len [f.k, f.r, Int.ofNat f.ker.length]
  have h2 := numsB_len f.ker
  have h3 := numsB_len [f.dv, f.vl, Int.ofNat f.cu.length]
  have h4 := numsB_len f.cu
  simp only [List.length_cons, List.length_nil] at h1 h3
  unfold bytesF
  simp only [List.length_append]; omega
theorem bytesD (f : FL) (h1 : f.ker.length ≤ 2000000) (h2 : f.cu.length ≤ 2000000) : DeepTo Tryz.prog 63 [f.v] (.str (bytesF f)) := by
  refine deepT Tryz.func63 ?_
  have hr := by_1 f
  have e1 := numsB_len [f.k, f.r, Int.ofNat f.ker.length]
  have e2 := numsB_len f.ker
  have e3 := numsB_len [f.dv, f.vl, Int.ofNat f.cu.length]
  have e4 := numsB_len f.cu
  simp only [List.length_cons, List.length_nil] at e1 e3
  have i3 : ∀ a b c : Int, intL [D.int IntKind.i64 a, D.int IntKind.i64 b, D.int IntKind.i64 c] = [a, b, c] := fun _ _ _ => rfl
  simp only [intL_isD, i3] at hr
  refine retE (addW_ok one_Nu W4_ok) hr (gone (g0 ⟨?_, _, _, _, rfl, rfl⟩))
  repeat' (first | exact all_nil | refine fm ?_ ?_)
  all_goals first | rfl | omega | (simp only [List.length_append] <;> omega)
end Go.Proofs.YtmjggdmekboefaaGreat
namespace Go.Proofs.YtmjggdmekboefaaGreat
open Go Go.Eng
noncomputable abbrev cdHd : Code := bodyOf Tryz.f29
noncomputable abbrev cdPc : Code := bodyOf Tryz.f57
noncomputable abbrev W6 : CtrW := addW 104 specCk (addW 106 (thawD specNu) W4)
theorem W6_ok : CtrWOk Tryz.prog W6 := addW_ok one_Ck (addW_ok one_Nu W4_ok)
def sHq (l : Lay) (fl : Int) (n : Nat) (s : List UInt8) : St := stG [(1, .ptr (some (0, 0))), (3, iX fl), (6, .ptr (some (1, 0))), (7, .fn (.func 57) [] [.ptr (some (1, 0))])] (hL [(0, .cells l.cs), (1, .bld 116 true (.slc (some (2, 0)) n n 1)), (2, .buf 5 false s)]) 3
abbrev sHd (l : Lay) (fl : Int) (s : List UInt8) : St := sHq l fl s.length s
def ap (s t : List UInt8) : List UInt8 := s ++ strI (bytesI t)
theorem ap_eq (s t : List UInt8) : ap s t = s ++ t := by unfold ap; rw [strI_bytesI]
def flg (a b c : Bool) : Int := (if a then 1 else 0) + ((if b then 2 else 0) + (if c then 4 else 0))
theorem hd_1 (l : Lay) : ∃ L, RunIs Tryz.prog (csH W6 []) [] 1000 0 Tryz.f29 [1, 3] (headN 2 cdHd) (startSt [l.v] .nil 0) L
    [([],
      [],
      .to .normal (stG [(1, .ptr (some (0, 0))), (3, iX 0)] (hL [(0, .cells l.cs)]) 1))]
  := RunIs.of (by kernel_rfl) (by kernel_rfl) (by kernel_rfl)
theorem hd_2 (l : Lay) : RunE (csH W6 []) [] 0 Tryz.f29 [1, 3] (headN 1 (tailN 2 cdHd)) (stG [(1, .ptr (some (0, 0))), (3, iX 0)] (hL [(0, .cells l.cs)]) 1) [([], [], .to .normal (stG [(1, .ptr (some (0, 0))), (3, iX (flg l.hid l.clip l.hm))] (hL [(0, .cells l.cs)]) 1))] := by
  obtain ⟨_, _, _, a, _, _, b, _, _, _, _, _, _, _, _, c, _⟩ := l
  cases a <;> cases b <;> cases c <;> exact RunIs.of (by kernel_rfl) (by kernel_rfl) (by kernel_rfl)
theorem hd_3 (l : Lay) (fl : Int) : ∃ L, RunIs Tryz.prog (csH W6 []) [] 1000 0 Tryz.f29 [1, 3, 6, 7] (headN 3 (tailN 3 cdHd)) (stG [(1, .ptr (some (0, 0))), (3, iX fl)] (hL [(0, .cells l.cs)]) 1) L
    [([],
      [((0 : Int) ≤ (0 : Int) ∧ (0 : Int) < (2 : Int)), (0 < (varB l.id).length), (roomy (varB l.id).length 1 1 = true), ((0 : Int) ≤ (1 : Int) ∧ (1 : Int) < (2 : Int)), (0 < (varB l.id).length), ((varB l.id).length = (varB l.id).length), (roomy ((varB l.id).length + (varB l.kd).length) 1 1 = true)],
      .to .normal (sHq l fl ((varB l.id).length + (varB l.kd).length) (ap (varB l.id) (varB l.kd))))]
  := RunIs.of (by kernel_rfl) (by kernel_rfl) (by kernel_rfl)
theorem hd_4 (l : Lay) (fl : Int) (s : List UInt8) : ∃ L, RunIs Tryz.prog (csH W6 []) [] 1000 0 Tryz.f29 [1, 3, 6, 7] (headN 1 (tailN 6 cdHd)) (sHd l fl s) L
    [([],
      [((varB (Int.ofNat l.nm.length)).length + l.nm.length ≤ 9223372036854775807), ((varB (Int.ofNat l.nm.length) ++ l.nm).length + (put1 fl).length ≤ 9223372036854775807), (0 < s.length), (s.length = s.length), (roomy (s.length + (varB (Int.ofNat l.nm.length) ++ l.nm ++ put1 fl).length) 1 1 = true)],
      .to .normal (sHq l fl (s.length + (textB l.nm ++ put1 fl).length) (ap s (textB l.nm ++ put1 fl))))]
  := RunIs.of (by kernel_rfl) (by kernel_rfl) (by kernel_rfl)
theorem hd_5 (l : Lay) (fl : Int) (s : List UInt8) : ∃ L, RunIs Tryz.prog (csH W6 []) [] 1000 0 Tryz.f29 [1, 3, 6, 7] (headN 1 (tailN 7 cdHd)) (sHd l fl s) L
    [([],
      [((0 : Int) ≤ (0 : Int) ∧ (0 : Int) < (2 : Int)), (0 < s.length), (s.length = s.length), (roomy (s.length + (varB l.op).length) 1 1 = true), ((0 : Int) ≤ (1 : Int) ∧ (1 : Int) < (2 : Int)), (0 < s.length + (varB l.op).length), (s.length + (varB l.op).length = (s ++ strI (bytesI (varB l.op))).length), (roomy (s.length + (varB l.op).length + (varB l.md).length) 1 1 = true)],
      .to .normal (sHq l fl (s.length + (varB l.op).length + (varB l.md).length) (ap (ap s (varB l.op)) (varB l.md))))]
  := RunIs.of (by kernel_rfl) (by kernel_rfl) (by kernel_rfl)
theorem hd_6 (l : Lay) (fl : Int) (s : List UInt8) : ∃ L, RunIs Tryz.prog (csH W6 []) [] 1000 0 Tryz.f29 [1, 3, 6, 7] (headN 1 (tailN 8 cdHd)) (sHd l fl s) L
    [([],
      [((0 : Int) ≤ (0 : Int) ∧ (0 : Int) < (1 : Int)), (0 < s.length), (s.length = s.length), (roomy (s.length + (varB l.pl.a).length) 1 1 = true), ((0 : Int) ≤ (0 : Int) ∧ (0 : Int) < (1 : Int)), (0 < s.length + (varB l.pl.a).length), (s.length + (varB l.pl.a).length = (s ++ strI (bytesI (varB l.pl.a))).length), (roomy (s.length + (varB l.pl.a).length + (varB l.pl.b).length) 1 1 = true), ((0 : Int) ≤ (0 : Int) ∧ (0 : Int) < (1 : Int)), (0 < s.length + (varB l.pl.a).length + (varB l.pl.b).length), (s.length + (varB l.pl.a).length + (varB l.pl.b).length = (s ++ strI (bytesI (varB l.pl.a)) ++ strI (bytesI (varB l.pl.b))).length), (roomy (s.length + (varB l.pl.a).length + (varB l.pl.b).length + (varB l.pl.c).length) 1 1 = true), ((0 : Int) ≤ (0 : Int) ∧ (0 : Int) < (1 : Int)), (0 < s.length + (varB l.pl.a).length + (varB l.pl.b).length + (varB l.pl.c).length), (s.length + (varB l.pl.a).length + (varB l.pl.b).length + (varB l.pl.c).length = (s ++ strI (bytesI (varB l.pl.a)) ++ strI (bytesI (varB l.pl.b)) ++ strI (bytesI (varB l.pl.c))).length), (roomy (s.length + (varB l.pl.a).length + (varB l.pl.b).length + (varB l.pl.c).length + (varB l.pl.d).length) 1 1 = true), ((0 : Int) ≤ (0 : Int) ∧ (0 : Int) < (1 : Int)), (0 < s.length + (varB l.pl.a).length + (varB l.pl.b).length + (varB l.pl.c).length + (varB l.pl.d).length), (s.length + (varB l.pl.a).length + (varB l.pl.b).length + (varB l.pl.c).length + (varB l.pl.d).length = (s ++ strI (bytesI (varB l.pl.a)) ++ strI (bytesI (varB l.pl.b)) ++ strI (bytesI (varB l.pl.c)) ++ strI (bytesI (varB l.pl.d))).length), (roomy (s.length + (varB l.pl.a).length + (varB l.pl.b).length + (varB l.pl.c).length + (varB l.pl.d).length + (varB l.pl.e).length) 1 1 = true), ((0 : Int) ≤ (0 : Int) ∧ (0 : Int) < (1 : Int)), (0 < s.length + (varB l.pl.a).length + (varB l.pl.b).length + (varB l.pl.c).length + (varB l.pl.d).length + (varB l.pl.e).length), (s.length + (varB l.pl.a).length + (varB l.pl.b).length + (varB l.pl.c).length + (varB l.pl.d).length + (varB l.pl.e).length = (s ++ strI (bytesI (varB l.pl.a)) ++ strI (bytesI (varB l.pl.b)) ++ strI (bytesI (varB l.pl.c)) ++ strI (bytesI (varB l.pl.d)) ++ strI (bytesI (varB l.pl.e))).length), (roomy (s.length + (varB l.pl.a).length + (varB l.pl.b).length + (varB l.pl.c).length + (varB l.pl.d).length + (varB l.pl.e).length + (varB l.pl.f).length) 1 1 = true), ((0 : Int) ≤ (0 : Int) ∧ (0 : Int) < (1 : Int)), (0 < s.length + (varB l.pl.a).length + (varB l.pl.b).length + (varB l.pl.c).length + (varB l.pl.d).length + (varB l.pl.e).length + (varB l.pl.f).length), (s.length + (varB l.pl.a).length + (varB l.pl.b).length + (varB l.pl.c).length + (varB l.pl.d).length + (varB l.pl.e).length + (varB l.pl.f).length = (s ++ strI (bytesI (varB l.pl.a)) ++ strI (bytesI (varB l.pl.b)) ++ strI (bytesI (varB l.pl.c)) ++ strI (bytesI (varB l.pl.d)) ++ strI (bytesI (varB l.pl.e)) ++ strI (bytesI (varB l.pl.f))).length), (roomy (s.length + (varB l.pl.a).length + (varB l.pl.b).length + (varB l.pl.c).length + (varB l.pl.d).length + (varB l.pl.e).length + (varB l.pl.f).length + (varB l.pl.n).length) 1 1 = true)],
      .to .normal (sHq l fl (s.length + (varB l.pl.a).length + (varB l.pl.b).length + (varB l.pl.c).length + (varB l.pl.d).length + (varB l.pl.e).length + (varB l.pl.f).length + (varB l.pl.n).length) (ap (ap (ap (ap (ap (ap (ap s (varB l.pl.a)) (varB l.pl.b)) (varB l.pl.c)) (varB l.pl.d)) (varB l.pl.e)) (varB l.pl.f)) (varB l.pl.n))))]
  := RunIs.of (by kernel_rfl) (by kernel_rfl) (by kernel_rfl)
theorem hd_7 (l : Lay) (fl : Int) (s : List UInt8) : ∃ L, RunIs Tryz.prog (csH W6 []) [] 1000 0 Tryz.f29 [1, 3, 6, 7] (headN 1 (tailN 9 cdHd)) (sHd l fl s) L
    [([],
      [((0 : Int) ≤ (0 : Int) ∧ (0 : Int) < (2 : Int)), (0 < s.length), (s.length = s.length), (roomy (s.length + (varB l.sp).length) 1 1 = true), ((0 : Int) ≤ (1 : Int) ∧ (1 : Int) < (2 : Int)), (0 < s.length + (varB l.sp).length), (s.length + (varB l.sp).length = (s ++ strI (bytesI (varB l.sp))).length), (roomy (s.length + (varB l.sp).length + (varB (Int.ofNat l.kids.length)).length) 1 1 = true)],
      .to .normal (sHq l fl (s.length + (varB l.sp).length + (varB (Int.ofNat l.kids.length)).length) (ap (ap s (varB l.sp)) (varB (Int.ofNat l.kids.length)))))]
  := RunIs.of (by kernel_rfl) (by kernel_rfl) (by kernel_rfl)
def sHr (l : Lay) (n : Nat) (s : List UInt8) : St := stG [(1, .ptr (some (0, 0))), (6, .ptr (some (1, 0))), (7, .fn (.func 57) [] [.ptr (some (1, 0))])] (hL [(0, .cells l.cs), (1, .bld 116 true (.slc (some (2, 0)) n n 1)), (2, .buf 5 false s)]) 3
def fiB (c : C4) : List UInt8 := [UInt8.ofNat c.r.toNat, UInt8.ofNat c.g.toNat, UInt8.ofNat c.b.toNat, UInt8.ofNat c.a.toNat]
def sPt (n : Nat) (cs : List D) (i m : Nat) (s : List UInt8) : St := stG [(6, .ptr (some (0, 0))), (7, .fn (.func 57) [] [.ptr (some (0, 0))]), (105, .lst false n cs), (106, iW n), (107, iW i)] (hL [(0, .bld 116 true (.slc (some (1, 0)) m m 1)), (1, .buf 5 false s)]) 2
noncomputable abbrev tlHd : Code := tailN 15 cdHd
def hHd (l : Lay) (s : List UInt8) : Tr O := hL [(0, .cells l.cs), (1, .bld 116 true (.slc (some (2, 0)) s.length s.length 1)), (2, .buf 5 false s)]
def hHe (l : Lay) (n : Nat) (s : List UInt8) : Tr O := hL [(0, .cells l.cs), (1, .bld 116 true (.slc (some (3, 0)) n n 1)), (3, .buf 5 false s)]
def fPc (n : Nat) (cs : List D) (i : Nat) : List (Nat × V) := [(1, .ptr (some (1, 0))), (5, .lst false n cs), (6, iW n), (7, iW i)]
def sP2 (l : Lay) (n : Nat) (cs : List D) (i : Nat) (s : List UInt8) : St := stG (fPc n cs i) (hHd l s) 3
def sP3 (l : Lay) (n : Nat) (cs : List D) (i m : Nat) (s : List UInt8) : St := stG (fPc n cs i) (hHe l m s) 4
noncomputable abbrev lpPc : Code := seqR cdPc
theorem pc_1 (l : Lay) (n : Nat) (cs : List D) (s : List UInt8) : ∃ L, RunIs Tryz.prog (csH W6 []) [] 1000 3 Tryz.f57 [1, 5, 6, 7] (seqL cdPc) (startSt [.lst false n cs, .ptr (some (1, 0))] (hHd l s) 3) L
    [([],
      [],
      .to .normal (sP2 l n cs 0 s))]
  := RunIs.of (by kernel_rfl) (by kernel_rfl) (by kernel_rfl)
theorem pc_2 (l : Lay) (n : Nat) (cs : List D) (i : Nat) (s : List UInt8) (v : Int) : ∃ L, FinIs Tryz.prog (csH W6 []) [(8, .split), (9, .give (.fptr [.int .i64 v])), (14, .give (iW (i + 1)))] 1000 3 Tryz.f57 [1, 5, 6, 7] 0 (inner (inner lpPc)) (sP2 l n cs i s) L
    [([((decide (Int.ofNat i < Int.ofNat n)), true)],
      [((0 : Int) ≤ Int.ofNat i ∧ Int.ofNat i < (Int.ofNat n)), (cs.length = n * 1), (V.fptr (cellsAt cs (i * 1) 1) = V.fptr [D.int IntKind.i64 v]), (0 < s.length), (s.length = s.length), (roomy (s.length + (varB v).length) 1 1 = true), (V.int IntKind.i64 (IntKind.i64.wrap (Int.ofNat i + (1 : Int))) = iW (i + 1))],
      .to .normal (sP3 l n cs (i + 1) (s.length + (varB v).length) (ap s (varB v)))),
    ([((decide (Int.ofNat i < Int.ofNat n)), false)],
      [],
      .ret (.tup []) (hHd l s) 3)]
  := FinIs.of (by kernel_rfl) (by kernel_rfl) (by kernel_rfl)
theorem pc_3 (l : Lay) (n : Nat) (cs : List D) (i : Nat) (s : List UInt8) (v : Int) : ∃ L, FinIs Tryz.prog (csH W6 []) [(8, .split), (9, .give (.fptr [.int .i64 v])), (14, .give (iW (i + 1)))] 1000 3 Tryz.f57 [1, 5, 6, 7] 0 (inner (inner lpPc)) (sP3 l n cs i s.length s) L
    [([((decide (Int.ofNat i < Int.ofNat n)), true)],
      [((0 : Int) ≤ Int.ofNat i ∧ Int.ofNat i < (Int.ofNat n)), (cs.length = n * 1), (V.fptr (cellsAt cs (i * 1) 1) = V.fptr [D.int IntKind.i64 v]), (0 < s.length), (s.length = s.length), (roomy (s.length + (varB v).length) 1 1 = true), (V.int IntKind.i64 (IntKind.i64.wrap (Int.ofNat i + (1 : Int))) = iW (i + 1))],
      .to .normal (sP3 l n cs (i + 1) (s.length + (varB v).length) (ap s (varB v)))),
    ([((decide (Int.ofNat i < Int.ofNat n)), false)],
      [],
      .ret (.tup []) (hHe l s.length s) 4)]
  := FinIs.of (by kernel_rfl) (by kernel_rfl) (by kernel_rfl)
theorem hd_8 (l : Lay) (fl : Int) (s t : List UInt8) : ∃ L, RunIs Tryz.prog (csH (pinW 57 [isV l.kids, .ptr (some (1, 0))] (hHd l s) 3 (.tup []) (hHe l t.length t) 4 W6) []) [] 1000 0 Tryz.f29 [1, 3, 6, 7] (headN 1 (tailN 10 cdHd)) (sHd l fl s) L
    [([],
      [(pinT [isV l.kids, .ptr (some (1, 0))] (hHd l s) 3)],
      .to .normal (sHd l fl t))]
  := RunIs.of (by kernel_rfl) (by kernel_rfl) (by kernel_rfl)
theorem hd_9 (l : Lay) (fl : Int) (s b : List UInt8) : ∃ L, RunIs Tryz.prog (csH (pinN 63 [l.f.v] (.str b) W6) []) [] 1000 0 Tryz.f29 [1, 6, 7] (headN 4 (tailN 11 cdHd)) (sHd l fl s) L
    [([],
      [((0 : Int) ≤ (0 : Int) ∧ (0 : Int) < (1 : Int)), (0 < s.length), (s.length = s.length), (roomy (s.length + (varB l.of).length) 1 1 = true), (pinA [l.f.v]), (0 < s.length + (varB l.of).length), (s.length + (varB l.of).length = (s ++ strI (bytesI (varB l.of))).length), (roomy (s.length + (varB l.of).length + b.length) 1 1 = true), (0 < s.length + (varB l.of).length + b.length), (s.length + (varB l.of).length + b.length = (s ++ strI (bytesI (varB l.of)) ++ strI (bytesI b)).length), (roomy (s.length + (varB l.of).length + b.length + 4) 1 1 = true), ((0 : Int) ≤ (0 : Int) ∧ (0 : Int) < (1 : Int)), (0 < s.length + (varB l.of).length + b.length + 4), (s.length + (varB l.of).length + b.length + 4 = (s ++ strI (bytesI (varB l.of)) ++ strI (bytesI b) ++ [UInt8.ofNat l.fi.r.toNat, UInt8.ofNat l.fi.g.toNat, UInt8.ofNat l.fi.b.toNat, UInt8.ofNat l.fi.a.toNat]).length), (roomy (s.length + (varB l.of).length + b.length + 4 + (varB (Int.ofNat l.pth.length)).length) 1 1 = true)],
      .to .normal (sHr l (s.length + (varB l.of).length + b.length + 4 + (varB (Int.ofNat l.pth.length)).length) (ap (ap (ap s (varB l.of)) b ++ fiB l.fi) (varB (Int.ofNat l.pth.length)))))]
  := RunIs.of (by kernel_rfl) (by kernel_rfl) (by kernel_rfl)
theorem hd_a (l : Lay) (s : List UInt8) : ∃ L, RunIs Tryz.prog (csH W6 []) [] 1000 0 Tryz.f29 [6, 7, 105, 106, 107] (seqL (seqL tlHd)) (sHr l s.length s) L
    [([],
      [],
      .to .normal (sPt l.pth.length (ptD l.pth) 0 s.length s))]
  := RunIs.of (by kernel_rfl) (by kernel_rfl) (by kernel_rfl)
theorem hd_b (n : Nat) (cs : List D) (i : Nat) (s : List UInt8) (x y : Int) : ∃ L, RunIs Tryz.prog (csH W6 []) [(108, .split), (109, .give (.fptr [.int .i64 x, .int .i64 y])), (118, .give (iW (i + 1)))] 1000 0 Tryz.f29 [6, 7, 105, 106, 107] (inner (inner (seqR (seqL tlHd)))) (sPt n cs i s.length s) L
    [([((decide (Int.ofNat i < Int.ofNat n)), true)],
      [((0 : Int) ≤ Int.ofNat i ∧ Int.ofNat i < (Int.ofNat n)), (cs.length = n * 2), (V.fptr (cellsAt cs (i * 2) 2) = V.fptr [D.int IntKind.i64 x, D.int IntKind.i64 y]), ((0 : Int) ≤ (0 : Int) ∧ (0 : Int) < (2 : Int)), (0 < s.length), (s.length = s.length), (roomy (s.length + (varB x).length) 1 1 = true), ((0 : Int) ≤ (1 : Int) ∧ (1 : Int) < (2 : Int)), (0 < s.length + (varB x).length), (s.length + (varB x).length = (s ++ strI (bytesI (varB x))).length), (roomy (s.length + (varB x).length + (varB y).length) 1 1 = true), (V.int IntKind.i64 (IntKind.i64.wrap (Int.ofNat i + (1 : Int))) = iW (i + 1))],
      .to .normal (sPt n cs (i + 1) (s.length + (varB x).length + (varB y).length) (ap (ap s (varB x)) (varB y)))),
    ([((decide (Int.ofNat i < Int.ofNat n)), false)],
      [],
      .to (.exit 4) (sPt n cs i s.length s))]
  := RunIs.of (by kernel_rfl) (by kernel_rfl) (by kernel_rfl)
theorem hd_c (n : Nat) (cs : List D) (i : Nat) (s : List UInt8) : ∃ L, RunIs Tryz.prog (csH W6 []) [] 1000 0 Tryz.f29 [] (seqR tlHd) (sPt n cs i s.length s) L
    [([],
      [(0 < s.length), ((Int.ofNat s.length) = (Int.ofNat s.length) ∧ 0 < s.length), (s.length ≤ 9223372036854775807)],
      .ret (.str s) (hL []) 0)]
  := RunIs.of (by kernel_rfl) (by kernel_rfl) (by kernel_rfl)
end Go.Proofs.YtmjggdmekboefaaGreat
namespace Go.Proofs.YtmjggdmekboefaaGreat
open Go Go.Eng
def ptsB (l : List (Int × Int)) : List UInt8 := (l.map fun p => varB p.1 ++ varB p.2).flatten
def plcB (p : P7) : List UInt8 := varB p.a ++ varB p.b ++ varB p.c ++ varB p.d ++ varB p.e ++ varB p.f ++ varB p.n
def headF (l : Lay) : List UInt8 := varB l.id ++ varB l.kd ++ (textB l.nm ++ put1 (flg l.hid l.clip l.hm)) ++ varB l.op ++ varB l.md ++ plcB l.pl ++ varB l.sp ++ varB (Int.ofNat l.kids.length) ++ numsB l.kids ++ varB l.of ++ bytesF l.f ++ fiB l.fi ++ varB (Int.ofNat l.pth.length) ++ ptsB l.pth
structure okL (l : Lay) : Prop where
  nm : l.nm.length ≤ 2000000
  kids : l.kids.length ≤ 2000000
  ker : l.f.ker.length ≤ 2000000
  cu : l.f.cu.length ≤ 2000000
  pth : l.pth.length ≤ 2000000
theorem ptD_len (l : List (Int × Int)) : (ptD l).length = l.length * 2 := flatW_len (f := fun p : Int × Int => [D.int .i64 p.1, D.int .i64 p.2]) (fun _ => rfl) l
theorem ptD_at {l : List (Int × Int)} {i : Nat} {p : Int × Int} (h : l[i]? = some p) : V.fptr (cellsAt (ptD l) (i * 2) 2) = .fptr [.int .i64 p.1, .int .i64 p.2] := by
  have hlt : i < l.length := (List.getElem?_eq_some_iff.1 h).1
  have hv : l[i] = p := (List.getElem?_eq_some_iff.1 h).2
  rw [← hv]
  exact congrArg _ (flatW_at (f := fun p : Int × Int => [D.int .i64 p.1, D.int .i64 p.2]) (fun _ => rfl) l i hlt)
theorem ptsB_step {l : List (Int × Int)} {i : Nat} {p : Int × Int} (h : l[i]? = some p) : ptsB (l.take (i + 1)) = ptsB (l.take i) ++ (varB p.1 ++ varB p.2) := by
  unfold ptsB
  rw [List.take_add_one, h]; simp
theorem ptsB_len : ∀ l : List (Int × Int), (ptsB l).length ≤ 20 * l.length
  | [] => by simp [ptsB]
  | p :: l => by
    have := ptsB_len l
    have h := (varB_len p.1).2
    have h' := (varB_len p.2).2
    unfold ptsB at this ⊢
    simp only [List.map_cons, List.flatten_cons, List.length_append, List.length_cons]; omega
theorem pcIs (l : Lay) (s : List UInt8) (h0 : 0 < s.length) (h1 : s.length ≤ 100000000) (h2 : l.kids.length ≤ 2000000) : CallIs Tryz.prog 57 [isV l.kids, .ptr (some (1, 0))] (hHd l s) 3 (.tup []) (hHe l (s ++ numsB l.kids).length (s ++ numsB l.kids)) 4 := by
  have key : ∀ (R : V → Tr O → Nat → Prop), (l.kids = [] → R (.tup []) (hHd l s) 3) → (l.kids ≠ [] → R (.tup []) (hHe l (s ++ numsB l.kids).length (s ++ numsB l.kids)) 4) → TG Tryz.prog 3 Tryz.f57.ntmps cdPc (startSt [isV l.kids, .ptr (some (1, 0))] (hHd l s) 3) (RetG Tryz.prog 3 Tryz.f57 R) := by
    intro R r0 r1
    refine TG_seq' (by kernel_rfl) (isE W6_ok anyR (pc_1 l l.kids.length (isD l.kids) s) (gone (g0 ⟨all_nil, fun s' hs' => ?_⟩)))
    simp only [andThen]
    refine TG_whileN (α := Nat) 0 (l.kids.length - ·) (· ≤ l.kids.length) (fun i => match i with
      | 0 => sP2 l l.kids.length (isD l.kids) 0 s
      | j + 1 => sP3 l l.kids.length (isD l.kids) (j + 1) (s ++ numsB (l.kids.take (j + 1))).length (s ++ numsB (l.kids.take (j + 1)))) (by kernel_rfl) (by kernel_rfl) 0 (Nat.zero_le _) (.norm hs') fun i hi => ?_
    have hfin : ∀ s', RetG Tryz.prog 3 Tryz.f57 R .normal s' → outOf 0 (RetG Tryz.prog 3 Tryz.f57 R) (.exit 0) s' := fun s' h => by rw [outOf_exit]; exact h
    have hret : ∀ s', RetG Tryz.prog 3 Tryz.f57 R .ret s' → outOf 0 (RetG Tryz.prog 3 Tryz.f57 R) .ret s' := fun s' h => by simpa [outOf] using h
    have hnl := numsB_len (l.kids.take i)
    rw [List.length_take] at hnl
    cases i with
    | zero =>
      obtain ⟨L, hr⟩ := pc_2 l l.kids.length (isD l.kids) 0 s (l.kids.getD 0 0)
      refine TG_isF 0 (XH W6_ok []) mo R (by kernel_rfl) hr hfin (gcons (g1 fun h => ?_) (gone (g1 fun h => ⟨all_nil, r0 ?_, hret⟩)))
      · have hlt := dlt h
        obtain ⟨v, hv⟩ : ∃ v, l.kids[0]? = some v := ⟨_, List.getElem?_eq_getElem hlt⟩
        have ev : l.kids.getD 0 0 = v := by rw [List.getD_eq_getElem?_getD, hv]; rfl
        rw [ev]
        have hb := (varB_len v).2
        refine ⟨fm (ibd hlt) (fm (isD_len _) (fm (isD_at hv) (fm h0 (fm rfl (fm (roomy_ok (by omega)) (fm1 (vsuc (by omega)))))))), fun s2 hs2 => ⟨1, by show l.kids.length - 1 < l.kids.length - 0; omega, hlt, ?_⟩⟩
        have e : numsB (l.kids.take 1) = varB v := by rw [numsB_step hv]; rfl
        show Goes _ _ _ _ (sP3 l l.kids.length (isD l.kids) (0 + 1) (s ++ numsB (l.kids.take 1)).length (s ++ numsB (l.kids.take 1)))
        rw [e, List.length_append, ← ap_eq]
        exact .norm hs2
      · have := dge h
        exact List.length_eq_zero_iff.1 (by omega)
    | succ j =>
      generalize hu : s ++ numsB (l.kids.take (j + 1)) = u
      have hul : u.length = s.length + (numsB (l.kids.take (j + 1))).length := by rw [← hu, List.length_append]
      obtain ⟨L, hr⟩ := pc_3 l l.kids.length (isD l.kids) (j + 1) u (l.kids.getD (j + 1) 0)
      show TG _ _ _ _ (sP3 l l.kids.length (isD l.kids) (j + 1) (s ++ numsB (l.kids.take (j + 1))).length (s ++ numsB (l.kids.take (j + 1)))) _
      rw [hu]
      refine TG_isF 0 (XH W6_ok []) mo R (by kernel_rfl) hr hfin (gcons (g1 fun h => ?_) (gone (g1 fun h => ⟨all_nil, ?_, hret⟩)))
      · have hlt := dlt h
        obtain ⟨v, hv⟩ : ∃ v, l.kids[j + 1]? = some v := ⟨_, List.getElem?_eq_getElem hlt⟩
        have ev : l.kids.getD (j + 1) 0 = v := by rw [List.getD_eq_getElem?_getD, hv]; rfl
        rw [ev]
        have hb := (varB_len v).2
        refine ⟨fm (ibd hlt) (fm (isD_len _) (fm (isD_at hv) (fm (by omega) (fm rfl (fm (roomy_ok (by omega)) (fm1 (vsuc (by omega)))))))), fun s2 hs2 => ⟨j + 1 + 1, by show l.kids.length - (j + 1 + 1) < l.kids.length - (j + 1); omega, hlt, ?_⟩⟩
        show Goes _ _ _ _ (sP3 l l.kids.length (isD l.kids) (j + 1 + 1) (s ++ numsB (l.kids.take (j + 1 + 1))).length (s ++ numsB (l.kids.take (j + 1 + 1))))
        rw [numsB_step hv, ← List.append_assoc, hu, List.length_append, ← ap_eq]
        exact .norm hs2
      · have := dge h
        have e : j + 1 = l.kids.length := by omega
        rw [e, List.take_length] at hu
        rw [← hu]
        exact r1 fun q => by rw [q] at e; cases e
  by_cases hk : l.kids = []
  · have c : CallIs Tryz.prog 57 [isV l.kids, .ptr (some (1, 0))] (hHd l s) 3 (.tup []) (hHd l s) 3 := fun E w args' ra g hd =>
      calls_of_TG1 mo po Tryz.func57 (code := cdPc) (by kernel_rfl) (by kernel_rfl) _ _ _ (key _ (fun _ => ⟨rfl, rfl, rfl⟩) (fun h => absurd hk h)) ra g hd
    have e : s ++ numsB l.kids = s := by rw [hk]; simp [numsB]
    rw [e]
    exact c.mov 2 (by kernel_rfl)
  · exact fun E w args' ra g hd => calls_of_TG1 mo po Tryz.func57 (code := cdPc) (by kernel_rfl) (by kernel_rfl) _ _ _ (key _ (fun h => absurd h hk) (fun _ => ⟨rfl, rfl, rfl⟩)) ra g hd
end Go.Proofs.YtmjggdmekboefaaGreat
namespace Go.Proofs.YtmjggdmekboefaaGreat
open Go Go.Eng
theorem sHq_eq {l : Lay} {fl : Int} {n : Nat} {s t : List UInt8} (e : s = t) (h : n = t.length) : sHq l fl n s = sHd l fl t := by rw [e, h]
theorem headD (l : Lay) (h : okL l) : DeepTo Tryz.prog 29 [l.v] (.str (headF l)) := by
  refine deepT Tryz.func29 ?_
  have a1 := varB_len l.id
  have a2 := numsB_len l.kids
  have a3 := bytesF_len l.f
  have a5 := varB_len l.kd
  have a6 := varB_len (Int.ofNat l.nm.length)
  have a7 := varB_len l.op
  have a8 := varB_len l.md
  have a9 := varB_len l.sp
  have b1 := varB_len (Int.ofNat l.kids.length)
  have b2 := varB_len l.of
  have b3 := varB_len (Int.ofNat l.pth.length)
  have c1 := varB_len l.pl.a
  have c2 := varB_len l.pl.b
  have c3 := varB_len l.pl.c
  have c4 := varB_len l.pl.d
  have c5 := varB_len l.pl.e
  have c6 := varB_len l.pl.f
  have c7 := varB_len l.pl.n
  obtain ⟨d1, d2, d3, d4, d5⟩ := h
  generalize hfl : flg l.hid l.clip l.hm = fl
  have p1 : (put1 fl).length = 1 := rfl
  have p2 : (fiB l.fi).length = 4 := rfl
  have hT : (textB l.nm ++ put1 fl).length = (varB (Int.ofNat l.nm.length)).length + l.nm.length + 1 := by unfold textB; rw [List.length_append, List.length_append, p1]
  have hT' : (varB (Int.ofNat l.nm.length) ++ l.nm ++ put1 fl).length = (varB (Int.ofNat l.nm.length)).length + l.nm.length + 1 := hT
  have hT2 : (varB (Int.ofNat l.nm.length) ++ l.nm).length = (varB (Int.ofNat l.nm.length)).length + l.nm.length := List.length_append ..
  refine isE1 2 W6_ok (hd_1 l) all_nil (isE1 1 W6_ok (hd_2 l) all_nil ?_)
  rw [hfl, tailN_seq]
  refine isE1 3 W6_ok (hd_3 l fl) ?_ ?_
  · repeat' (first | exact all_nil | refine fm ?_ ?_)
    all_goals first | decide | exact roomy_ok (by omega) | omega
  rw [tailN_seq, sHq_eq (t := varB l.id ++ varB l.kd) (ap_eq _ _) (by rw [List.length_append])]
  generalize hs1 : varB l.id ++ varB l.kd = s1
  have l1 : s1.length = (varB l.id).length + (varB l.kd).length := by rw [← hs1, List.length_append]
  refine isE1 1 W6_ok (hd_4 l fl s1) ?_ ?_
  · repeat' (first | exact all_nil | refine fm ?_ ?_)
    all_goals first | exact roomy_ok (by omega) | omega
  rw [tailN_seq, sHq_eq (t := s1 ++ (textB l.nm ++ put1 fl)) (ap_eq _ _) (by simp only [List.length_append])]
  generalize hs2 : s1 ++ (textB l.nm ++ put1 fl) = s2
  have l2 : s2.length = s1.length + ((varB (Int.ofNat l.nm.length)).length + l.nm.length + 1) := by rw [← hs2, List.length_append, hT]
  refine isE1 1 W6_ok (hd_5 l fl s2) ?_ ?_
  · repeat' (first | exact all_nil | refine fm ?_ ?_)
    all_goals first | decide | exact roomy_ok (by omega) | omega | (simp only [strI_bytesI, List.length_append] <;> omega)
  rw [tailN_seq, sHq_eq (t := s2 ++ varB l.op ++ varB l.md) (by simp only [ap_eq]) (by simp only [List.length_append])]
  generalize hs3 : s2 ++ varB l.op ++ varB l.md = s3
  have l3 : s3.length = s2.length + (varB l.op).length + (varB l.md).length := by rw [← hs3]; simp only [List.length_append]
  refine isE1 1 W6_ok (hd_6 l fl s3) ?_ ?_
  · repeat' (first | exact all_nil | refine fm ?_ ?_)
    all_goals first | decide | exact roomy_ok (by omega) | omega | (simp only [strI_bytesI, List.length_append] <;> omega)
  rw [tailN_seq, sHq_eq (t := s3 ++ plcB l.pl) (by unfold plcB; simp only [ap_eq, List.append_assoc]) (by unfold plcB; simp only [List.length_append]; omega)]
  have lp : (plcB l.pl).length = (varB l.pl.a).length + (varB l.pl.b).length + (varB l.pl.c).length + (varB l.pl.d).length + (varB l.pl.e).length + (varB l.pl.f).length + (varB l.pl.n).length := by unfold plcB; simp only [List.length_append]
  generalize hs4 : s3 ++ plcB l.pl = s4
  have l4 : s4.length = s3.length + (plcB l.pl).length := by rw [← hs4, List.length_append]
  refine isE1 1 W6_ok (hd_7 l fl s4) ?_ ?_
  · repeat' (first | exact all_nil | refine fm ?_ ?_)
    all_goals first | decide | exact roomy_ok (by omega) | omega | (simp only [strI_bytesI, List.length_append] <;> omega)
  rw [tailN_seq, sHq_eq (t := s4 ++ varB l.sp ++ varB (Int.ofNat l.kids.length)) (by simp only [ap_eq]) (by simp only [List.length_append])]
  generalize hs5 : s4 ++ varB l.sp ++ varB (Int.ofNat l.kids.length) = s5
  have l5 : s5.length = s4.length + (varB l.sp).length + (varB (Int.ofNat l.kids.length)).length := by rw [← hs5]; simp only [List.length_append]
  refine isE1 1 (pinW_ok (Nat.le_of_ble_eq_true (by kernel_rfl)) (pcIs l s5 (by omega) (by omega) d2) W6_ok) (hd_8 l fl s5 (s5 ++ numsB l.kids)) (fm1 ⟨rfl, rfl, rfl⟩) ?_
  rw [tailN_seq]
  generalize hs6 : s5 ++ numsB l.kids = s6
  have l6 : s6.length = s5.length + (numsB l.kids).length := by rw [← hs6, List.length_append]
  refine isE1 4 (pinK (bytesD l.f d3 d4) W6_ok) (hd_9 l fl s6 (bytesF l.f)) ?_ ?_
  · repeat' (first | exact all_nil | refine fm ?_ ?_)
    all_goals first | decide | rfl | exact roomy_ok (by omega) | omega | (simp only [strI_bytesI, List.length_append, List.length_cons, List.length_nil] <;> omega)
  rw [tailN_seq]
  have e7 : ap (ap (ap s6 (varB l.of)) (bytesF l.f) ++ fiB l.fi) (varB (Int.ofNat l.pth.length)) = s6 ++ varB l.of ++ bytesF l.f ++ fiB l.fi ++ varB (Int.ofNat l.pth.length) := by simp only [ap_eq]
  rw [e7]
  generalize hs7 : s6 ++ varB l.of ++ bytesF l.f ++ fiB l.fi ++ varB (Int.ofNat l.pth.length) = s7
  have l7 : s7.length = s6.length + (varB l.of).length + (bytesF l.f).length + 4 + (varB (Int.ofNat l.pth.length)).length := by rw [← hs7]; simp only [List.length_append, p2]
  rw [← l7]
  have hfin : headF l = s7 ++ ptsB l.pth := by
    unfold headF
    rw [hfl, hs1, hs2, hs3, hs4, hs5, hs6, hs7]
  refine loopF W6_ok 4 _ [6, 7, 105, 106, 107] (l.pth.length - ·) (· ≤ l.pth.length) (fun i => sPt l.pth.length (ptD l.pth) i (s7 ++ ptsB (l.pth.take i)).length (s7 ++ ptsB (l.pth.take i))) 0 (Nat.zero_le _) (hd_a l s7) all_nil (by simp only [List.take_zero, ptsB, List.map_nil, List.flatten_nil, List.append_nil]; exact .refl) fun i hi => ?_
  have hpl := ptsB_len (l.pth.take i)
  rw [List.length_take] at hpl
  generalize hu : s7 ++ ptsB (l.pth.take i) = u
  have lu : u.length = s7.length + (ptsB (l.pth.take i)).length := by rw [← hu, List.length_append]
  refine ⟨_, W6_ok, [], _, _, hd_b l.pth.length (ptD l.pth) i u (l.pth.getD i (0, 0)).1 (l.pth.getD i (0, 0)).2, gcons (g1 fun h => ?_) (gone (g1 fun h => ⟨all_nil, rfl, ?_⟩))⟩
  · have hlt := dlt h
    obtain ⟨p, hp⟩ : ∃ p, l.pth[i]? = some p := ⟨_, List.getElem?_eq_getElem hlt⟩
    have ev : l.pth.getD i (0, 0) = p := by rw [List.getD_eq_getElem?_getD, hp]; rfl
    rw [ev]
    have q1 := varB_len p.1
    have q2 := varB_len p.2
    have hat := ptD_at hp
    refine ⟨?_, i + 1, lsub hlt, hlt, ?_⟩
    · repeat' (first | exact all_nil | refine fm ?_ ?_)
      all_goals first | decide | exact ibd hlt | exact ptD_len _ | exact hat | exact roomy_ok (by omega) | exact vsuc (by omega) | omega | (simp only [strI_bytesI, List.length_append] <;> omega)
    · show Goes _ _ _ _ (sPt l.pth.length (ptD l.pth) (i + 1) (s7 ++ ptsB (l.pth.take (i + 1))).length (s7 ++ ptsB (l.pth.take (i + 1))))
      rw [ptsB_step hp, ← List.append_assoc, hu]
      have e : ap (ap u (varB p.1)) (varB p.2) = u ++ (varB p.1 ++ varB p.2) := by simp only [ap_eq, List.append_assoc]
      have e2 : u.length + (varB p.1).length + (varB p.2).length = (u ++ (varB p.1 ++ varB p.2)).length := by simp only [List.length_append]; omega
      rw [e, e2]; exact .refl
  · obtain rfl : i = l.pth.length := by have := dge h; omega
    rw [List.take_length] at hu
    rw [hfin, hu]
    exact retE W6_ok (hd_c _ _ _ u) (gone (g0 ⟨fm (by omega) (fm ⟨rfl, by omega⟩ (fm1 (by omega))), _, _, _, rfl, rfl⟩))
end Go.Proofs.YtmjggdmekboefaaGreat
namespace Go.Proofs.YtmjggdmekboefaaGreat
open Go Go.Eng
noncomputable abbrev csQ (l : List (Nat × List (Nat × Fix))) : CallS := csH W1 l
noncomputable abbrev XQ (l : List (Nat × List (Nat × Fix))) : CX Tryz.prog := XH W1_ok l
noncomputable abbrev cdRV : Code := bodyOf Tryz.f73
noncomputable abbrev tlRV : Code := tailN 3 cdRV
noncomputable abbrev lpRV : Code := seqL tlRV
noncomputable abbrev bdRV : Code := inner (inner (seqR lpRV))
abbrev rdP : V := .ptr (some (0, 0))
abbrev rdC (s : List UInt8) (a : Nat) (f : Bool) : List V := [.str s, .int .i64 (Int.ofNat a), .bool f]
def uS (u : Int) (b : UInt8) (i : Nat) : Int := IntKind.u64.wrap (Int.ofNat (BitVec.ofInt 64 u ||| BitVec.ofInt 64 (IntKind.u64.wrap (IntKind.u64.wrap (IntKind.u8.wrap (Int.ofNat (BitVec.ofInt 8 (Int.ofNat b.toNat) &&& BitVec.ofInt 8 (127 : Int)).toNat)) * (2 : Int) ^ min (Int.ofNat (7 * i)).toNat 64))).toNat)
def sRV (s : List UInt8) (a : Nat) (u : Int) (m i : Nat) : St := stG [(0, rdP), (3, .int .u64 u), (16, .int .i64 (Int.ofNat m)), (17, .int .i64 (Int.ofNat i))] (hP (rdC s a false)) 1
theorem rv1_t (s : List UInt8) (a : Int) : ∃ L, RunIs Tryz.prog (csQ []) [] 1000 1 Tryz.f73 [] (cdRV) (startSt [rdP] (hP [.str s, .int .i64 a, .bool true]) 1) L
    [([],
      [],
      .ret (.int .i64 0) (hL [(0, .cells [.str s, .int .i64 a, .bool true])]) 1)]
  := RunIs.of (by kernel_rfl) (by kernel_rfl) (by kernel_rfl)
theorem rv1_h (s : List UInt8) (a : Nat) : ∃ L, RunIs Tryz.prog (csQ []) [] 1000 1 Tryz.f73 [0, 3] (headN 3 cdRV) (startSt [rdP] (hP (rdC s a false)) 1) L
    [([],
      [],
      .to .normal (stG [(0, .ptr (some (0, 0))), (3, .int .u64 0)] (hL [(0, .cells [.str s, .int .i64 (Int.ofNat a), .bool false])]) 1))]
  := RunIs.of (by kernel_rfl) (by kernel_rfl) (by kernel_rfl)
theorem rv1_i (s : List UInt8) (a m : Nat) : ∃ L, RunIs Tryz.prog (csQ []) [(16, .give (.int .i64 (Int.ofNat m))), (17, .give (.int .i64 (Int.ofNat 0)))] 1000 1 Tryz.f73 [0, 3, 16, 17] (seqL lpRV) (stG [(0, rdP), (3, .int .u64 0)] (hP (rdC s a false)) 1) L
    [([],
      [(V.int IntKind.i64 (if IntKind.i64.wrap ((Int.ofNat s.length) - Int.ofNat a) < (10 : Int) then IntKind.i64.wrap ((Int.ofNat s.length) - Int.ofNat a) else (10 : Int)) = V.int IntKind.i64 (Int.ofNat m)), (V.int IntKind.i64 (0 : Int) = V.int IntKind.i64 (0 : Int))],
      .to .normal (stG [(0, .ptr (some (0, 0))), (3, .int .u64 0), (16, .int .i64 (Int.ofNat m)), (17, .int .i64 0)] (hL [(0, .cells [.str s, .int .i64 (Int.ofNat a), .bool false])]) 1))]
  := RunIs.of (by kernel_rfl) (by kernel_rfl) (by kernel_rfl)
abbrev rv1_bA1 (i : Nat) (u : Int) (b : UInt8) : Prop := V.int IntKind.u64 (IntKind.u64.wrap (Int.ofNat (BitVec.ofInt 64 u ||| BitVec.ofInt 64 (IntKind.u64.wrap (IntKind.u64.wrap (IntKind.u8.wrap (Int.ofNat (BitVec.ofInt 8 (Int.ofNat b.toNat) &&& BitVec.ofInt 8 (127 : Int)).toNat)) * (2 : Int) ^ min (7 * i) 64))).toNat)) = V.int IntKind.u64 (uS u b i)
abbrev rv1_bA2 (s : List UInt8) (a i : Nat) (b : UInt8) : Prop := V.int IntKind.u8 (Int.ofNat (s.getD (a + i) (0 : UInt8)).toNat) = V.int IntKind.u8 (Int.ofNat b.toNat)
theorem rv1_b (s : List UInt8) (a m i : Nat) (u : Int) (b : UInt8) : ∃ L, RunIs Tryz.prog (csQ []) [(18, .split), (29, .give (.int .i64 (Int.ofNat (a + i)))), (30, .give (.int .u8 (Int.ofNat b.toNat))), (36, .give (.int .i64 (Int.ofNat (7 * i)))), (38, .give (.int .u64 (uS u b i))), (40, .split), (43, .split), (47, .split), (50, .split), (54, .split), (61, .give (.int .i64 (Int.ofNat (a + (i + 1))))), (66, .give (.int .i64 (Int.ofNat (i + 1))))] 1000 1 Tryz.f73 [0, 3, 16, 17] (bdRV) (sRV s a u m i) L
    [([((decide (Int.ofNat i < Int.ofNat m)), true), ((decide (Int.ofNat b.toNat ≥ (128 : Int))), true)],
      [ieq (Int.ofNat a + Int.ofNat i) (a + i), ((0 : Int) ≤ Int.ofNat (a + i) ∧ (a + i) < s.length), rv1_bA2 s a i b, ieq ((7 : Int) * Int.ofNat i) (7 * i), rv1_bA1 i u b, ieq (Int.ofNat i + (1 : Int)) (i + 1)],
      .to .normal (stG [(0, .ptr (some (0, 0))), (3, .int .u64 (uS u b i)), (16, .int .i64 (Int.ofNat m)), (17, .int .i64 (Int.ofNat (i + 1)))] (hL [(0, .cells [.str s, .int .i64 (Int.ofNat a), .bool false])]) 1)),
    ([((decide (Int.ofNat i < Int.ofNat m)), true), ((decide (Int.ofNat b.toNat ≥ (128 : Int))), false), ((decide (Int.ofNat i > (0 : Int))), true), ((Int.ofNat b.toNat == (0 : Int)), true), (true, true)],
      [ieq (Int.ofNat a + Int.ofNat i) (a + i), ((0 : Int) ≤ Int.ofNat (a + i) ∧ (a + i) < s.length), rv1_bA2 s a i b, ieq ((7 : Int) * Int.ofNat i) (7 * i), rv1_bA1 i u b],
      .to (.exit 0) (stG [(0, .ptr (some (0, 0))), (3, .int .u64 (uS u b i)), (16, .int .i64 (Int.ofNat m)), (17, .int .i64 (Int.ofNat i))] (hL [(0, .cells [.str s, .int .i64 (Int.ofNat a), .bool false])]) 1)),
    ([((decide (Int.ofNat i < Int.ofNat m)), true), ((decide (Int.ofNat b.toNat ≥ (128 : Int))), false), ((decide (Int.ofNat i > (0 : Int))), true), ((Int.ofNat b.toNat == (0 : Int)), true), (true, false)],
      [ieq (Int.ofNat a + Int.ofNat i) (a + i), ((0 : Int) ≤ Int.ofNat (a + i) ∧ (a + i) < s.length), rv1_bA2 s a i b, ieq ((7 : Int) * Int.ofNat i) (7 * i), rv1_bA1 i u b, ieq (Int.ofNat a + IntKind.i64.wrap (Int.ofNat i + (1 : Int))) (a + (i + 1))],
      .ret (.int .i64 (IntKind.i64.wrap (uS u b i))) (hL [(0, .cells [.str s, .int .i64 (Int.ofNat (a + (i + 1))), .bool false])]) 1),
    ([((decide (Int.ofNat i < Int.ofNat m)), true), ((decide (Int.ofNat b.toNat ≥ (128 : Int))), false), ((decide (Int.ofNat i > (0 : Int))), true), ((Int.ofNat b.toNat == (0 : Int)), false), ((Int.ofNat i == (9 : Int)), true), ((decide (Int.ofNat b.toNat > (1 : Int))), true)],
      [ieq (Int.ofNat a + Int.ofNat i) (a + i), ((0 : Int) ≤ Int.ofNat (a + i) ∧ (a + i) < s.length), rv1_bA2 s a i b, ieq ((7 : Int) * Int.ofNat i) (7 * i), rv1_bA1 i u b],
      .to (.exit 0) (stG [(0, .ptr (some (0, 0))), (3, .int .u64 (uS u b i)), (16, .int .i64 (Int.ofNat m)), (17, .int .i64 (Int.ofNat i))] (hL [(0, .cells [.str s, .int .i64 (Int.ofNat a), .bool false])]) 1)),
    ([((decide (Int.ofNat i < Int.ofNat m)), true), ((decide (Int.ofNat b.toNat ≥ (128 : Int))), false), ((decide (Int.ofNat i > (0 : Int))), true), ((Int.ofNat b.toNat == (0 : Int)), false), ((Int.ofNat i == (9 : Int)), true), ((decide (Int.ofNat b.toNat > (1 : Int))), false)],
      [ieq (Int.ofNat a + Int.ofNat i) (a + i), ((0 : Int) ≤ Int.ofNat (a + i) ∧ (a + i) < s.length), rv1_bA2 s a i b, ieq ((7 : Int) * Int.ofNat i) (7 * i), rv1_bA1 i u b, ieq (Int.ofNat a + IntKind.i64.wrap (Int.ofNat i + (1 : Int))) (a + (i + 1))],
      .ret (.int .i64 (IntKind.i64.wrap (uS u b i))) (hL [(0, .cells [.str s, .int .i64 (Int.ofNat (a + (i + 1))), .bool false])]) 1),
    ([((decide (Int.ofNat i < Int.ofNat m)), true), ((decide (Int.ofNat b.toNat ≥ (128 : Int))), false), ((decide (Int.ofNat i > (0 : Int))), true), ((Int.ofNat b.toNat == (0 : Int)), false), ((Int.ofNat i == (9 : Int)), false), (false, true)],
      [ieq (Int.ofNat a + Int.ofNat i) (a + i), ((0 : Int) ≤ Int.ofNat (a + i) ∧ (a + i) < s.length), rv1_bA2 s a i b, ieq ((7 : Int) * Int.ofNat i) (7 * i), rv1_bA1 i u b],
      .to (.exit 0) (stG [(0, .ptr (some (0, 0))), (3, .int .u64 (uS u b i)), (16, .int .i64 (Int.ofNat m)), (17, .int .i64 (Int.ofNat i))] (hL [(0, .cells [.str s, .int .i64 (Int.ofNat a), .bool false])]) 1)),
    ([((decide (Int.ofNat i < Int.ofNat m)), true), ((decide (Int.ofNat b.toNat ≥ (128 : Int))), false), ((decide (Int.ofNat i > (0 : Int))), true), ((Int.ofNat b.toNat == (0 : Int)), false), ((Int.ofNat i == (9 : Int)), false), (false, false)],
      [ieq (Int.ofNat a + Int.ofNat i) (a + i), ((0 : Int) ≤ Int.ofNat (a + i) ∧ (a + i) < s.length), rv1_bA2 s a i b, ieq ((7 : Int) * Int.ofNat i) (7 * i), rv1_bA1 i u b, ieq (Int.ofNat a + IntKind.i64.wrap (Int.ofNat i + (1 : Int))) (a + (i + 1))],
      .ret (.int .i64 (IntKind.i64.wrap (uS u b i))) (hL [(0, .cells [.str s, .int .i64 (Int.ofNat (a + (i + 1))), .bool false])]) 1),
    ([((decide (Int.ofNat i < Int.ofNat m)), true), ((decide (Int.ofNat b.toNat ≥ (128 : Int))), false), ((decide (Int.ofNat i > (0 : Int))), false), (false, true), (true, true)],
      [ieq (Int.ofNat a + Int.ofNat i) (a + i), ((0 : Int) ≤ Int.ofNat (a + i) ∧ (a + i) < s.length), rv1_bA2 s a i b, ieq ((7 : Int) * Int.ofNat i) (7 * i), rv1_bA1 i u b],
      .to (.exit 0) (stG [(0, .ptr (some (0, 0))), (3, .int .u64 (uS u b i)), (16, .int .i64 (Int.ofNat m)), (17, .int .i64 (Int.ofNat i))] (hL [(0, .cells [.str s, .int .i64 (Int.ofNat a), .bool false])]) 1)),
    ([((decide (Int.ofNat i < Int.ofNat m)), true), ((decide (Int.ofNat b.toNat ≥ (128 : Int))), false), ((decide (Int.ofNat i > (0 : Int))), false), (false, true), (true, false)],
      [ieq (Int.ofNat a + Int.ofNat i) (a + i), ((0 : Int) ≤ Int.ofNat (a + i) ∧ (a + i) < s.length), rv1_bA2 s a i b, ieq ((7 : Int) * Int.ofNat i) (7 * i), rv1_bA1 i u b, ieq (Int.ofNat a + IntKind.i64.wrap (Int.ofNat i + (1 : Int))) (a + (i + 1))],
      .ret (.int .i64 (IntKind.i64.wrap (uS u b i))) (hL [(0, .cells [.str s, .int .i64 (Int.ofNat (a + (i + 1))), .bool false])]) 1),
    ([((decide (Int.ofNat i < Int.ofNat m)), true), ((decide (Int.ofNat b.toNat ≥ (128 : Int))), false), ((decide (Int.ofNat i > (0 : Int))), false), (false, false), ((Int.ofNat i == (9 : Int)), true), ((decide (Int.ofNat b.toNat > (1 : Int))), true)],
      [ieq (Int.ofNat a + Int.ofNat i) (a + i), ((0 : Int) ≤ Int.ofNat (a + i) ∧ (a + i) < s.length), rv1_bA2 s a i b, ieq ((7 : Int) * Int.ofNat i) (7 * i), rv1_bA1 i u b],
      .to (.exit 0) (stG [(0, .ptr (some (0, 0))), (3, .int .u64 (uS u b i)), (16, .int .i64 (Int.ofNat m)), (17, .int .i64 (Int.ofNat i))] (hL [(0, .cells [.str s, .int .i64 (Int.ofNat a), .bool false])]) 1)),
    ([((decide (Int.ofNat i < Int.ofNat m)), true), ((decide (Int.ofNat b.toNat ≥ (128 : Int))), false), ((decide (Int.ofNat i > (0 : Int))), false), (false, false), ((Int.ofNat i == (9 : Int)), true), ((decide (Int.ofNat b.toNat > (1 : Int))), false)],
      [ieq (Int.ofNat a + Int.ofNat i) (a + i), ((0 : Int) ≤ Int.ofNat (a + i) ∧ (a + i) < s.length), rv1_bA2 s a i b, ieq ((7 : Int) * Int.ofNat i) (7 * i), rv1_bA1 i u b, ieq (Int.ofNat a + IntKind.i64.wrap (Int.ofNat i + (1 : Int))) (a + (i + 1))],
      .ret (.int .i64 (IntKind.i64.wrap (uS u b i))) (hL [(0, .cells [.str s, .int .i64 (Int.ofNat (a + (i + 1))), .bool false])]) 1),
    ([((decide (Int.ofNat i < Int.ofNat m)), true), ((decide (Int.ofNat b.toNat ≥ (128 : Int))), false), ((decide (Int.ofNat i > (0 : Int))), false), (false, false), ((Int.ofNat i == (9 : Int)), false), (false, true)],
      [ieq (Int.ofNat a + Int.ofNat i) (a + i), ((0 : Int) ≤ Int.ofNat (a + i) ∧ (a + i) < s.length), rv1_bA2 s a i b, ieq ((7 : Int) * Int.ofNat i) (7 * i), rv1_bA1 i u b],
      .to (.exit 0) (stG [(0, .ptr (some (0, 0))), (3, .int .u64 (uS u b i)), (16, .int .i64 (Int.ofNat m)), (17, .int .i64 (Int.ofNat i))] (hL [(0, .cells [.str s, .int .i64 (Int.ofNat a), .bool false])]) 1)),
    ([((decide (Int.ofNat i < Int.ofNat m)), true), ((decide (Int.ofNat b.toNat ≥ (128 : Int))), false), ((decide (Int.ofNat i > (0 : Int))), false), (false, false), ((Int.ofNat i == (9 : Int)), false), (false, false)],
      [ieq (Int.ofNat a + Int.ofNat i) (a + i), ((0 : Int) ≤ Int.ofNat (a + i) ∧ (a + i) < s.length), rv1_bA2 s a i b, ieq ((7 : Int) * Int.ofNat i) (7 * i), rv1_bA1 i u b, ieq (Int.ofNat a + IntKind.i64.wrap (Int.ofNat i + (1 : Int))) (a + (i + 1))],
      .ret (.int .i64 (IntKind.i64.wrap (uS u b i))) (hL [(0, .cells [.str s, .int .i64 (Int.ofNat (a + (i + 1))), .bool false])]) 1),
    ([((decide (Int.ofNat i < Int.ofNat m)), false)],
      [],
      .to (.exit 0) (stG [(0, .ptr (some (0, 0))), (3, .int .u64 u), (16, .int .i64 (Int.ofNat m)), (17, .int .i64 (Int.ofNat i))] (hL [(0, .cells [.str s, .int .i64 (Int.ofNat a), .bool false])]) 1))]
  := RunIs.of (by kernel_rfl) (by kernel_rfl) (by kernel_rfl)
theorem rv1_e (s : List UInt8) (a m i : Nat) (u : Int) : ∃ L, RunIs Tryz.prog (csQ []) [] 1000 1 Tryz.f73 [] (seqR tlRV) (sRV s a u m i) L
    [([],
      [],
      .ret (.int .i64 0) (hL [(0, .cells [.str s, .int .i64 (Int.ofNat a), .bool true])]) 1)]
  := RunIs.of (by kernel_rfl) (by kernel_rfl) (by kernel_rfl)
end Go.Proofs.YtmjggdmekboefaaGreat
namespace Go.Proofs.YtmjggdmekboefaaGreat
open Go Go.Eng
theorem gtok : GtOk := ⟨by decide, fun j hj => absurd hj (Nat.not_lt_zero j), Nat.le_of_ble_eq_true rfl⟩
def rvL (s : List UInt8) (a : Nat) : Nat → Nat → Int → Option (Int × Nat)
  | 0, _, _ => none
  | k + 1, i, u => if 128 ≤ (s.getD (a + i) 0).toNat then rvL s a k (i + 1) (uS u (s.getD (a + i) 0) i)
    else if (0 < i ∧ (s.getD (a + i) 0).toNat = 0) ∨ (i = 9 ∧ 1 < (s.getD (a + i) 0).toNat) then none else some (IntKind.i64.wrap (uS u (s.getD (a + i) 0) i), i + 1)
def rdM (s : List UInt8) (a : Nat) : Nat := min 10 (s.length - a)
def rdVar (s : List UInt8) (a : Nat) : Option (Int × Nat) := rvL s a (rdM s a) 0 0
def rdV (s : List UInt8) (a : Nat) : Int × Nat × Bool := match rdVar s a with
  | some (v, k) => (v, a + k, false)
  | none => (0, a, true)
theorem wrap_nat {n : Nat} (h : n ≤ 9000000000000000000) : IntKind.i64.wrap (n : Int) = (n : Int) := wrap_id (by omega) (by omega)
abbrev RRV (s : List UInt8) (a : Nat) (v : V) (h : Tr O) (n : Nat) : Prop := v = .int .i64 (rdV s a).1 ∧ h = hP (rdC s (rdV s a).2.1 (rdV s a).2.2) ∧ n = 1
theorem tgRV (s : List UInt8) (a : Nat) (ha : a ≤ s.length) (hs : s.length ≤ 1000000000) : TG Tryz.prog 1 Tryz.f73.ntmps cdRV (startSt [rdP] (hP (rdC s a false)) 1) (RetG Tryz.prog 1 Tryz.f73 (RRV s a)) := by
  obtain ⟨L1, hr1⟩ := rv1_h s a
  refine TG_isN1 3 (XQ []) mo (by kernel_rfl) hr1 all_nil ?_
  refine TG_seq' (by kernel_rfl) ?_
  refine TG_seq' (by kernel_rfl) ?_
  obtain ⟨L2, hr2⟩ := rv1_i s a (rdM s a)
  have hm : rdM s a ≤ 10 ∧ rdM s a ≤ s.length - a := ⟨Nat.min_le_left _ _, Nat.min_le_right _ _⟩
  have hmm : (if IntKind.i64.wrap ((Int.ofNat s.length) - Int.ofNat a) < (10 : Int) then IntKind.i64.wrap ((Int.ofNat s.length) - Int.ofNat a) else (10 : Int)) = Int.ofNat (rdM s a) := by
    have hw : IntKind.i64.wrap ((Int.ofNat s.length) - Int.ofNat a) = ((s.length - a : Nat) : Int) := by
      have : (Int.ofNat s.length) - Int.ofNat a = ((s.length - a : Nat) : Int) := by rw [hOn, hOn]; omega
      rw [this]
      exact wrap_nat (by omega)
    rw [hw, hOn]
    unfold rdM
    split <;> omega
  refine TG_is (XQ []) mo anyR (by kernel_rfl) hr2 fun g hg _ => ?_
  rw [List.mem_singleton] at hg; subst hg
  refine ⟨List.forall_mem_cons.2 ⟨by rw [hmm], List.forall_mem_cons.2 ⟨rfl, all_nil⟩⟩, fun s' hs' => ?_⟩
  have hend : ∀ u i, rdVar s a = none → TG Tryz.prog 1 Tryz.f73.ntmps (seqR tlRV) (sRV s a u (rdM s a) i) (RetG Tryz.prog 1 Tryz.f73 (RRV s a)) := by
    intro u i hn
    obtain ⟨L, hr⟩ := rv1_e s a (rdM s a) i u
    refine TG_ret (XQ []) mo _ (by kernel_rfl) hr fun g hg _ => ?_
    rw [List.mem_singleton] at hg; subst hg
    refine ⟨all_nil, _, _, _, rfl, ?_⟩
    unfold RRV rdV; rw [hn]
    exact ⟨rfl, rfl, rfl⟩
  refine TG_whileN (α := Nat × Int) 0 (fun x => rdM s a - x.1) (fun x => x.1 ≤ rdM s a ∧ rdVar s a = rvL s a (rdM s a - x.1) x.1 x.2) (fun x => sRV s a x.2 (rdM s a) x.1) (by kernel_rfl) (by kernel_rfl) (0, 0) ⟨Nat.zero_le _, rfl⟩ (.norm hs') ?_
  rintro ⟨i, u⟩ ⟨hi, hv⟩
  simp only at hi hv ⊢
  have hlt128 : ∀ b : UInt8, b.toNat < 256 := fun b => b.toNat_lt
  obtain ⟨L3, hr3⟩ := rv1_b s a (rdM s a) i u (s.getD (a + i) 0)
  refine TG_is (XQ []) mo (RRV s a) (by kernel_rfl) hr3 fun g hg hc => ?_
  have hA : ∀ k, i < rdM s a → k < 1000000000 → (0 : Int) ≤ Int.ofNat (a + i) ∧ (Int.ofNat (a + i)).toNat < s.length := fun k h _ => by rw [hOn]; constructor <;> omega
  by_cases hlt : i < rdM s a
  case neg =>
    have hn : rdVar s a = none := by rw [hv, show rdM s a - i = 0 by omega]; rfl
    simp only [List.mem_cons, List.not_mem_nil, or_false] at hg
    have hf : decide (Int.ofNat i < Int.ofNat (rdM s a)) = false := decide_eq_false (by rw [hOn, hOn]; omega)
    rcases hg with rfl | rfl | rfl | rfl | rfl | rfl | rfl | rfl | rfl | rfl | rfl | rfl | rfl | rfl
    all_goals first
      | (have := hc _ (List.mem_cons_self ..); simp only [hf] at this; cases this; done)
      | skip
    exact ⟨all_nil, fun s' hs' => by simp only [andThen, outOf_exit]; exact TG_norm hs' (hend u i hn)⟩
  case pos =>
  have e1 : ieq (Int.ofNat a + Int.ofNat i) (a + i) := ieq_ok (by rw [hOn, hOn]; omega) (by omega)
  have e2 := hA 0 hlt (by decide)
  have e3 : rv1_bA2 s a i (s.getD (a + i) 0) := rfl
  have e4 : ieq ((7 : Int) * Int.ofNat i) (7 * i) := ieq_ok (by rw [hOn]; omega) (by omega)
  have e5 : rv1_bA1 i u (s.getD (a + i) 0) := rfl
  have e6 : ieq (Int.ofNat i + (1 : Int)) (i + 1) := ieq_ok (by rw [hOn]; omega) (by omega)
  have e7 : ieq (Int.ofNat a + IntKind.i64.wrap (Int.ofNat i + (1 : Int))) (a + (i + 1)) := by
    have : IntKind.i64.wrap (Int.ofNat i + (1 : Int)) = ((i + 1 : Nat) : Int) := by
      have : Int.ofNat i + 1 = ((i + 1 : Nat) : Int) := by rw [hOn]; omega
      rw [this]; exact wrap_nat (by omega)
    exact ieq_ok (by rw [this, hOn]; omega) (by omega)
  have hstep : rdVar s a = if 128 ≤ (s.getD (a + i) 0).toNat then rvL s a (rdM s a - (i + 1)) (i + 1) (uS u (s.getD (a + i) 0) i)
    else if (0 < i ∧ (s.getD (a + i) 0).toNat = 0) ∨ (i = 9 ∧ 1 < (s.getD (a + i) 0).toNat) then none else some (IntKind.i64.wrap (uS u (s.getD (a + i) 0) i), i + 1) := by
    rw [hv, show rdM s a - i = (rdM s a - (i + 1)) + 1 by omega]; rfl
  generalize s.getD (a + i) 0 = b at *
  have hgo : 128 ≤ b.toNat → ∀ s', normG 1 [0, 3, 16, 17] s' = some (sRV s a (uS u b i) (rdM s a) (i + 1)) → ∃ x' : Nat × Int, rdM s a - x'.1 < rdM s a - i ∧ (x'.1 ≤ rdM s a ∧ rdVar s a = rvL s a (rdM s a - x'.1) x'.1 x'.2) ∧ Goes Tryz.prog 1 Tryz.f73.ntmps s' (sRV s a x'.2 (rdM s a) x'.1) := fun h s' hs' =>
    ⟨(i + 1, uS u b i), by simp only; omega, ⟨by simp only; omega, by rw [hstep, if_pos h]⟩, .norm hs'⟩
  have hbad : ¬ 128 ≤ b.toNat → ((0 < i ∧ b.toNat = 0) ∨ (i = 9 ∧ 1 < b.toNat)) → ∀ s', normG 1 [0, 3, 16, 17] s' = some (sRV s a (uS u b i) (rdM s a) i) → TG Tryz.prog 1 Tryz.f73.ntmps (seqR tlRV) s' (RetG Tryz.prog 1 Tryz.f73 (RRV s a)) := fun h1 h2 s' hs' =>
    TG_norm hs' (hend _ _ (by rw [hstep, if_neg h1, if_pos h2]))
  have hret : ¬ 128 ≤ b.toNat → ¬ ((0 < i ∧ b.toNat = 0) ∨ (i = 9 ∧ 1 < b.toNat)) → RRV s a (.int .i64 (IntKind.i64.wrap (uS u b i))) (hL [(0, .cells [.str s, .int .i64 (Int.ofNat (a + (i + 1))), .bool false])]) 1 := fun h1 h2 => by
    unfold RRV rdV; rw [hstep, if_neg h1, if_neg h2]
    exact ⟨rfl, rfl, rfl⟩
  have q1 : (decide (Int.ofNat b.toNat ≥ (128 : Int))) = decide (128 ≤ b.toNat) := by rw [hOn]; exact decide_eq_decide.2 (by omega)
  have q2 : (decide (Int.ofNat i > (0 : Int))) = decide (0 < i) := by rw [hOn]; exact decide_eq_decide.2 (by omega)
  have q3 : (Int.ofNat b.toNat == (0 : Int)) = decide (b.toNat = 0) := by
    rw [hOn]; by_cases h : b.toNat = 0
    · simp [h]
    · rw [decide_eq_false h]; simpa using h
  have q4 : (Int.ofNat i == (9 : Int)) = decide (i = 9) := by
    rw [hOn]; by_cases h : i = 9
    · simp [h]
    · rw [decide_eq_false h]
      exact beq_false_of_ne (by omega)
  have q5 : (decide (Int.ofNat b.toNat > (1 : Int))) = decide (1 < b.toNat) := by rw [hOn]; exact decide_eq_decide.2 (by omega)
  simp only [List.mem_cons, List.not_mem_nil, or_false] at hg
  rw [q1, q2, q3, q4, q5] at hg
  have A5 := fm e1 (fm e2 (fm e3 (fm e4 (fm1 e5))))
  have A6 := fm e1 (fm e2 (fm e3 (fm e4 (fm e5 (fm1 e6)))))
  have A7 := fm e1 (fm e2 (fm e3 (fm e4 (fm e5 (fm1 e7)))))
  have hbad : ¬ 128 ≤ b.toNat → ((0 < i ∧ b.toNat = 0) ∨ (i = 9 ∧ 1 < b.toNat)) → ∀ (Q1 : St → Prop) (s' : St), normG 1 [0, 3, 16, 17] s' = some (sRV s a (uS u b i) (rdM s a) i) → andThen Q1 (outOf 0 (andThen (fun s' => TG Tryz.prog 1 Tryz.f73.ntmps (seqR (tailN 3 cdRV)) s' (RetG Tryz.prog 1 Tryz.f73 (RRV s a))) (RetG Tryz.prog 1 Tryz.f73 (RRV s a)))) (.exit 0) s' := fun h1 h2 Q1 s' hs' => by
    simp only [andThen, outOf_exit]; exact hbad h1 h2 s' hs'
  rcases hg with rfl | rfl | rfl | rfl | rfl | rfl | rfl | rfl | rfl | rfl | rfl | rfl | rfl | rfl
  all_goals
    simp only [List.mem_cons, List.not_mem_nil, or_false, forall_eq_or_imp, forall_eq, decide_eq_true_eq, decide_eq_false_iff_not, reduceCtorEq, and_false, and_true] at hc
  all_goals first | exact hc.elim | skip
  · exact ⟨A6, fun s' hs' => hgo hc.2 s' hs'⟩
  · exact ⟨A5, fun s' hs' => hbad hc.2.1 (by omega) _ s' hs'⟩
  · exact ⟨A5, fun s' hs' => hbad hc.2.1 (by omega) _ s' hs'⟩
  all_goals first
    | exact ⟨A7, hret hc.2.1 (by omega), fun s' hs' => hs'⟩
    | exact ⟨A5, fun s' hs' => hbad hc.2.1 (by omega) _ s' hs'⟩
    | exact absurd hlt (by rw [hOn, hOn] at hc; omega)
end Go.Proofs.YtmjggdmekboefaaGreat
namespace Go.Proofs.YtmjggdmekboefaaGreat
open Go Go.Eng
def rdVf (s : List UInt8) (a : Nat) (f : Bool) : Int × Nat × Bool := if f then (0, a, true) else rdV s a
theorem rdV_at (s : List UInt8) (a : Nat) (h : a ≤ s.length) : (rdV s a).2.1 ≤ s.length ∧ a ≤ (rdV s a).2.1 := by
  have key : ∀ k i u v n, i + k ≤ s.length - a → rvL s a k i u = some (v, n) → n ≤ s.length - a := by
    intro k
    induction k with
    | zero => intro i u v n _ e; cases e
    | succ k ih =>
      intro i u v n hi e
      unfold rvL at e
      split at e
      · exact ih _ _ _ _ (by omega) e
      · split at e
        · cases e
        · simp only [Option.some.injEq, Prod.mk.injEq] at e; omega
  unfold rdV
  have hm : rdM s a ≤ s.length - a := Nat.min_le_right _ _
  cases e : rdVar s a with
  | none => exact ⟨h, Nat.le_refl _⟩
  | some p =>
    have := key _ _ _ _ _ (by omega) e
    exact ⟨by simp only; omega, by simp only; omega⟩
def spV : List V → List V → Option (List Prop × V × List V)
  | [.str s, .int .i64 x, .bool f], [] => some ([0 ≤ x ∧ x.toNat ≤ s.length, s.length ≤ 1000000000], .int .i64 (rdVf s x.toNat f).1, rdC s (rdVf s x.toNat f).2.1 (rdVf s x.toNat f).2.2)
  | _, _ => none
theorem one_RV : OneW Tryz.prog 73 (ptrW spV) := by
  refine ptrW_ok mo po gtok (Nat.le_of_ble_eq_true (by kernel_rfl)) Tryz.func73 (code := cdRV) (by kernel_rfl) fun cs args A v cs2 e hA => ⟨?_, ?_⟩
  all_goals
    unfold spV at e
    split at e
    case h_2 => cases e
    rename_i s x f
    simp only [Option.some.injEq, Prod.mk.injEq] at e; obtain ⟨rfl, rfl, rfl⟩ := e
  · kernel_rfl
  obtain ⟨a1, a2⟩ := hA _ (List.mem_cons_self ..)
  have a3 : s.length ≤ 1000000000 := hA (s.length ≤ 1000000000) (by simp)
  obtain ⟨a, rfl⟩ : ∃ a : Nat, x = Int.ofNat a := ⟨x.toNat, (Int.toNat_of_nonneg a1).symm⟩
  have a2 : a ≤ s.length := a2
  cases f with
  | false => exact tgRV s a a2 a3
  | true =>
    obtain ⟨L, hr⟩ := rv1_t s (Int.ofNat a)
    refine TG_ret (XQ []) mo _ (by kernel_rfl) hr fun g hg _ => ?_
    rw [List.mem_singleton] at hg; subst hg
    exact ⟨all_nil, _, _, _, rfl, rfl, rfl, rfl⟩
noncomputable abbrev W17 : CtrW := addW 73 (ptrW spV) W1
theorem W17_ok : CtrWOk Tryz.prog W17 := addW_ok one_RV W1_ok
noncomputable abbrev cs17 : CallS := callX Tryz.prog W17 H0 1000 40
noncomputable abbrev X17 : CX Tryz.prog := CX.of mo po W17_ok H0 1000 40
noncomputable abbrev cdRT : Code := bodyOf Tryz.f77
theorem rt_t (s : List UInt8) (a : Nat) (n : Int) : ∃ L, RunIs Tryz.prog cs17 [] 1000 1 Tryz.f77 [] (cdRT) (startSt [rdP, .int .i64 n] (hP (rdC s a true)) 1) L
    [([],
      [],
      .ret (.str []) (hL [(0, .cells [.str s, .int .i64 (Int.ofNat a), .bool true])]) 1)]
  := RunIs.of (by kernel_rfl) (by kernel_rfl) (by kernel_rfl)
abbrev rt_fA1 (s : List UInt8) (a : Nat) (n : Int) : Prop := (0 : Int) ≤ Int.ofNat (a + n.toNat) ∧ Int.ofNat (a + n.toNat) ≤ (Int.ofNat s.length)
theorem rt_f (s : List UInt8) (a l : Nat) (n : Int) : ∃ L, RunIs Tryz.prog (csQ [(110, [(14, .give (.int .i64 (Int.ofNat l)))])]) [(17, .split), (22, .split), (33, .give (.int .i64 (Int.ofNat (a + n.toNat)))), (45, .give (.int .i64 (Int.ofNat a)))] 1000 1 Tryz.f77 [] (cdRT) (startSt [rdP, .int .i64 n] (hP (rdC s a false)) 1) L
    [([((decide (n < (0 : Int))), true), (true, true)],
      [],
      .ret (.str []) (hL [(0, .cells [.str s, .int .i64 (Int.ofNat a), .bool true])]) 1),
    ([((decide (n < (0 : Int))), true), (true, false)],
      [ieq (Int.ofNat a + n) (a + n.toNat), ieq (Int.ofNat (a + n.toNat) - n) a, rt_fA1 s a n, ((0 : Int) ≤ Int.ofNat a ∧ Int.ofNat a ≤ (Int.ofNat (a + n.toNat)))],
      .ret (.str (List.drop a (List.take (a + n.toNat) s))) (hL [(0, .cells [.str s, .int .i64 (Int.ofNat (a + n.toNat)), .bool false])]) 1),
    ([((decide (n < (0 : Int))), false), ((decide (n > Int.ofNat l)), true)],
      [ieq ((Int.ofNat s.length) - Int.ofNat a) l],
      .ret (.str []) (hL [(0, .cells [.str s, .int .i64 (Int.ofNat a), .bool true])]) 1),
    ([((decide (n < (0 : Int))), false), ((decide (n > Int.ofNat l)), false)],
      [ieq ((Int.ofNat s.length) - Int.ofNat a) l, ieq (Int.ofNat a + n) (a + n.toNat), ieq (Int.ofNat (a + n.toNat) - n) a, rt_fA1 s a n, ((0 : Int) ≤ Int.ofNat a ∧ Int.ofNat a ≤ (Int.ofNat (a + n.toNat)))],
      .ret (.str (List.drop a (List.take (a + n.toNat) s))) (hL [(0, .cells [.str s, .int .i64 (Int.ofNat (a + n.toNat)), .bool false])]) 1)]
  := RunIs.of (by kernel_rfl) (by kernel_rfl) (by kernel_rfl)
end Go.Proofs.YtmjggdmekboefaaGreat
namespace Go.Proofs.YtmjggdmekboefaaGreat
open Go Go.Eng
def rdT (s : List UInt8) (a : Nat) (f : Bool) (n : Int) : List UInt8 × Nat × Bool := if f = true ∨ n < 0 ∨ ((s.length - a : Nat) : Int) < n then ([], a, true) else ((s.drop a).take n.toNat, a + n.toNat, false)
theorem rdT_at (s : List UInt8) (a : Nat) (f : Bool) (n : Int) (h : a ≤ s.length) : (rdT s a f n).2.1 ≤ s.length := by
  unfold rdT; split
  · exact h
  · rename_i hn
    simp only; omega
def spT : List V → List V → Option (List Prop × V × List V)
  | [.str s, .int .i64 x, .bool f], [.int .i64 n] => some ([0 ≤ x ∧ x.toNat ≤ s.length, s.length ≤ 1000000000], .str (rdT s x.toNat f n).1, rdC s (rdT s x.toNat f n).2.1 (rdT s x.toNat f n).2.2)
  | _, _ => none
theorem one_RT : OneW Tryz.prog 77 (ptrW spT) := by
  refine ptrW_ok mo po gtok (Nat.le_of_ble_eq_true (by kernel_rfl)) Tryz.func77 (code := cdRT) (by kernel_rfl) fun cs args A v cs2 e hA => ⟨?_, ?_⟩
  all_goals
    unfold spT at e
    split at e
    case h_2 => cases e
    rename_i s x f n
    simp only [Option.some.injEq, Prod.mk.injEq] at e; obtain ⟨rfl, rfl, rfl⟩ := e
  · kernel_rfl
  obtain ⟨a1, a2⟩ := hA _ (List.mem_cons_self ..)
  have a3 : s.length ≤ 1000000000 := hA (s.length ≤ 1000000000) (by simp)
  obtain ⟨a, rfl⟩ : ∃ a : Nat, x = Int.ofNat a := ⟨x.toNat, (Int.toNat_of_nonneg a1).symm⟩
  have a2 : a ≤ s.length := a2
  rw [show (Int.ofNat a).toNat = a from rfl]
  cases f with
  | true =>
    obtain ⟨L, hr⟩ := rt_t s a n
    refine TG_ret X17 mo _ (by kernel_rfl) hr fun g hg _ => ?_
    rw [List.mem_singleton] at hg; subst hg
    exact ⟨all_nil, _, _, _, rfl, rfl, rfl, rfl⟩
  | false =>
    obtain ⟨L, hr⟩ := rt_f s a (s.length - a) n
    have hl : ieq ((Int.ofNat s.length) - Int.ofNat a) (s.length - a) := ieq_ok (by rw [hOn, hOn]; omega) (by omega)
    refine TG_ret (XQ [(110, [(14, .give (.int .i64 (Int.ofNat (s.length - a))))])]) mo _ (by kernel_rfl) hr fun g hg hc => ?_
    simp only [List.mem_cons, List.not_mem_nil, or_false] at hg
    rcases hg with rfl | rfl | rfl | rfl
    all_goals
      simp only [List.mem_cons, List.not_mem_nil, or_false, forall_eq_or_imp, forall_eq, decide_eq_true_eq, decide_eq_false_iff_not, reduceCtorEq, and_false, and_true, hOn] at hc
    · refine ⟨all_nil, _, _, _, rfl, ?_⟩
      unfold rdT; rw [if_pos (.inr (.inl hc))]
      exact ⟨rfl, rfl, rfl⟩
    · refine ⟨fm1 hl, _, _, _, rfl, ?_⟩
      unfold rdT; rw [if_pos (.inr (.inr (by omega)))]
      exact ⟨rfl, rfl, rfl⟩
    · obtain ⟨h1, h2⟩ := hc
      have hn : ((n.toNat : Nat) : Int) = n := Int.toNat_of_nonneg (by omega)
      refine ⟨fm hl (fm (ieq_ok (by rw [hOn]; omega) (by omega)) (fm (ieq_ok (by rw [hOn]; omega) (by omega)) (fm ⟨Int.natCast_nonneg _, by rw [hOn, hOn]; omega⟩ (fm1 ⟨Int.natCast_nonneg _, by rw [hOn, hOn]; omega⟩)))), _, _, _, rfl, ?_⟩
      unfold rdT; rw [if_neg (by simp only [Bool.false_eq_true, false_or]; omega)]
      rw [List.drop_take, Nat.add_sub_cancel_left]
      exact ⟨rfl, rfl, rfl⟩
noncomputable abbrev W18 : CtrW := addW 77 (ptrW spT) W17
theorem W18_ok : CtrWOk Tryz.prog W18 := addW_ok one_RT W17_ok
noncomputable abbrev cs18 : CallS := callX Tryz.prog W18 H0 1000 40
noncomputable abbrev X18 : CX Tryz.prog := CX.of mo po W18_ok H0 1000 40
noncomputable abbrev cdRX : Code := bodyOf Tryz.f74
noncomputable abbrev cdRN : Code := bodyOf Tryz.f75
noncomputable abbrev tlRN : Code := tailN 2 cdRN
noncomputable abbrev lpRN : Code := seqL tlRN
def sRN (s : List UInt8) (a : Nat) (f : Bool) (n : Int) (t : List UInt8) (i : Nat) : St := stG [(0, rdP), (5, .int .i64 n), (12, .slc (some (1, 0)) t.length t.length 1), (13, .int .i64 (Int.ofNat t.length)), (14, .int .i64 (Int.ofNat i))] (hL [(0, .cells (rdC s a f)), (1, .own .u8 (bytesI t))]) 2
noncomputable abbrev cs18k (k : Nat) : CallS := callX Tryz.prog W18 (hints [(105, [(5, .give (.int .i64 (Int.ofNat k)))])]) 1000 40
noncomputable abbrev X18k (k : Nat) : CX Tryz.prog := CX.of mo po W18_ok (hints [(105, [(5, .give (.int .i64 (Int.ofNat k)))])]) 1000 40
def numS (n : Int) (b : UInt8) : Int := IntKind.i64.wrap (Int.ofNat (BitVec.ofInt 64 (IntKind.i64.wrap (n * (256 : Int))) ||| BitVec.ofInt 64 (IntKind.i64.wrap (Int.ofNat b.toNat))).toNat)
abbrev rx_1A1 (s : List UInt8) (a : Nat) (f : Bool) : Prop := (0 : Int) ≤ Int.ofNat (rdVf s a f).snd.fst ∧ (Int.ofNat (rdVf s a f).snd.fst).toNat ≤ s.length
theorem rx_1 (s : List UInt8) (a : Nat) (f : Bool) : ∃ L, RunIs Tryz.prog cs18 [(21, .split)] 1000 1 Tryz.f74 [] (cdRX) (startSt [rdP] (hP (rdC s a f)) 1) L
    [([(((rdT s (Int.ofNat (rdVf s a f).snd.fst).toNat (rdVf s a f).snd.snd (rdVf s a f).fst).snd.snd), true)],
      [((0 : Int) ≤ Int.ofNat a ∧ a ≤ s.length), (s.length ≤ 1000000000), rx_1A1 s a f, (s.length ≤ 1000000000)],
      .ret (.str ((rdT s (Int.ofNat (rdVf s a f).snd.fst).toNat (rdVf s a f).snd.snd (rdVf s a f).fst).fst)) (hL [(0, .cells [.str s, .int .i64 (Int.ofNat a), .bool ((rdT s (Int.ofNat (rdVf s a f).snd.fst).toNat (rdVf s a f).snd.snd (rdVf s a f).fst).snd.snd)])]) 1),
    ([(((rdT s (Int.ofNat (rdVf s a f).snd.fst).toNat (rdVf s a f).snd.snd (rdVf s a f).fst).snd.snd), false)],
      [((0 : Int) ≤ Int.ofNat a ∧ a ≤ s.length), (s.length ≤ 1000000000), rx_1A1 s a f, (s.length ≤ 1000000000)],
      .ret (.str ((rdT s (Int.ofNat (rdVf s a f).snd.fst).toNat (rdVf s a f).snd.snd (rdVf s a f).fst).fst)) (hL [(0, .cells [.str s, .int .i64 (Int.ofNat (rdT s (Int.ofNat (rdVf s a f).snd.fst).toNat (rdVf s a f).snd.snd (rdVf s a f).fst).snd.fst), .bool ((rdT s (Int.ofNat (rdVf s a f).snd.fst).toNat (rdVf s a f).snd.snd (rdVf s a f).fst).snd.snd)])]) 1)]
  := RunIs.of (by kernel_rfl) (by kernel_rfl) (by kernel_rfl)
theorem rn_1 (s : List UInt8) (a : Nat) (f : Bool) (k : Nat) : ∃ L, RunIs Tryz.prog cs18 [] 1000 1 Tryz.f75 [0, 1, 5] (headN 2 cdRN) (startSt [rdP, .int .i64 (Int.ofNat k)] (hP (rdC s a f)) 1) L
    [([],
      [],
      .to .normal (stG [(0, .ptr (some (0, 0))), (1, .int .i64 (Int.ofNat k)), (5, .int .i64 0)] (hL [(0, .cells [.str s, .int .i64 (Int.ofNat a), .bool f])]) 1))]
  := RunIs.of (by kernel_rfl) (by kernel_rfl) (by kernel_rfl)
theorem rn_2 (s : List UInt8) (a : Nat) (f : Bool) (k : Nat) : ∃ L, RunIs Tryz.prog (cs18k k) [(14, .give (.int .i64 (Int.ofNat 0)))] 1000 1 Tryz.f75 [0, 5, 12, 13, 14] (seqL lpRN) (stG [(0, rdP), (1, .int .i64 (Int.ofNat k)), (5, .int .i64 0)] (hP (rdC s a f)) 1) L
    [([],
      [(V.int IntKind.i64 (if (if (8 : Int) < Int.ofNat k then (8 : Int) else Int.ofNat k) > (0 : Int) then if (8 : Int) < Int.ofNat k then (8 : Int) else Int.ofNat k else (0 : Int)) = V.int IntKind.i64 (Int.ofNat k)), ((0 : Int) ≤ Int.ofNat a ∧ a ≤ s.length), (s.length ≤ 1000000000), (V.int IntKind.i64 (0 : Int) = V.int IntKind.i64 (0 : Int))],
      .to .normal (stG [(0, .ptr (some (0, 0))), (5, .int .i64 0), (12, .slc (some (1, 0)) ((rdT s a f (Int.ofNat k)).fst.length) ((rdT s a f (Int.ofNat k)).fst.length) 1), (13, .int .i64 ((Int.ofNat (rdT s a f (Int.ofNat k)).fst.length))), (14, .int .i64 0)] (hL [(0, .cells [.str s, .int .i64 (Int.ofNat (rdT s a f (Int.ofNat k)).snd.fst), .bool ((rdT s a f (Int.ofNat k)).snd.snd)]), (1, .own .u8 (bytesI (rdT s a f (Int.ofNat k)).fst))]) 2))]
  := RunIs.of (by kernel_rfl) (by kernel_rfl) (by kernel_rfl)
theorem rn_3 (s : List UInt8) (a : Nat) (f : Bool) (n : Int) (t : List UInt8) (i : Nat) (b : UInt8) : ∃ L, RunIs Tryz.prog cs18 [(15, .split), (17, .give (.int .u8 (Int.ofNat b.toNat))), (22, .give (.int .i64 (numS n b))), (23, .give (.int .i64 (Int.ofNat (i + 1))))] 1000 1 Tryz.f75 [0, 5, 12, 13, 14] (inner (inner (seqR lpRN))) (sRN s a f n t i) L
    [([((decide (Int.ofNat i < Int.ofNat t.length)), true)],
      [((0 : Int) ≤ Int.ofNat i ∧ Int.ofNat i < (Int.ofNat t.length)), (0 + i * 1 < (bytesI t).length), (V.int IntKind.u8 ((bytesI t).getD (0 + i * 1) (0 : Int)) = V.int IntKind.u8 (Int.ofNat b.toNat)), (V.int IntKind.i64 (IntKind.i64.wrap (Int.ofNat (BitVec.ofInt 64 (IntKind.i64.wrap (n * (256 : Int))) ||| BitVec.ofInt 64 (IntKind.i64.wrap (Int.ofNat b.toNat))).toNat)) = V.int IntKind.i64 (numS n b)), ieq (Int.ofNat i + (1 : Int)) (i + 1)],
      .to .normal (stG [(0, .ptr (some (0, 0))), (5, .int .i64 (numS n b)), (12, .slc (some (1, 0)) (t.length) (t.length) 1), (13, .int .i64 (Int.ofNat t.length)), (14, .int .i64 (Int.ofNat (i + 1)))] (hL [(0, .cells [.str s, .int .i64 (Int.ofNat a), .bool f]), (1, .own .u8 (bytesI t))]) 2)),
    ([((decide (Int.ofNat i < Int.ofNat t.length)), false)],
      [],
      .to (.exit 0) (stG [(0, .ptr (some (0, 0))), (5, .int .i64 n), (12, .slc (some (1, 0)) (t.length) (t.length) 1), (13, .int .i64 (Int.ofNat t.length)), (14, .int .i64 (Int.ofNat i))] (hL [(0, .cells [.str s, .int .i64 (Int.ofNat a), .bool f]), (1, .own .u8 (bytesI t))]) 2))]
  := RunIs.of (by kernel_rfl) (by kernel_rfl) (by kernel_rfl)
theorem rn_4 (s : List UInt8) (a : Nat) (f : Bool) (n : Int) (t : List UInt8) (i : Nat) : ∃ L, RunIs Tryz.prog cs18 [] 1000 1 Tryz.f75 [] (seqR tlRN) (sRN s a f n t i) L
    [([],
      [],
      .ret (.int .i64 n) (hL [(0, .cells [.str s, .int .i64 (Int.ofNat a), .bool f])]) 1)]
  := RunIs.of (by kernel_rfl) (by kernel_rfl) (by kernel_rfl)
end Go.Proofs.YtmjggdmekboefaaGreat
namespace Go.Proofs.YtmjggdmekboefaaGreat
open Go Go.Eng
theorem rdVf_at (s : List UInt8) (a : Nat) (f : Bool) (h : a ≤ s.length) : (rdVf s a f).2.1 ≤ s.length := by
  unfold rdVf; split
  · exact h
  · exact (rdV_at s a h).1
def rdTx (s : List UInt8) (a : Nat) (f : Bool) : List UInt8 × Nat × Bool :=
  ((rdT s (rdVf s a f).2.1 (rdVf s a f).2.2 (rdVf s a f).1).1, if (rdT s (rdVf s a f).2.1 (rdVf s a f).2.2 (rdVf s a f).1).2.2 then a else (rdT s (rdVf s a f).2.1 (rdVf s a f).2.2 (rdVf s a f).1).2.1, (rdT s (rdVf s a f).2.1 (rdVf s a f).2.2 (rdVf s a f).1).2.2)
theorem rdTx_at (s : List UInt8) (a : Nat) (f : Bool) (h : a ≤ s.length) : (rdTx s a f).2.1 ≤ s.length := by
  unfold rdTx; simp only; split
  · exact h
  · exact rdT_at _ _ _ _ (rdVf_at s a f h)
def spX : List V → List V → Option (List Prop × V × List V)
  | [.str s, .int .i64 x, .bool f], [] => some ([0 ≤ x ∧ x.toNat ≤ s.length, s.length ≤ 1000000000], .str (rdTx s x.toNat f).1, rdC s (rdTx s x.toNat f).2.1 (rdTx s x.toNat f).2.2)
  | _, _ => none
theorem one_RX : OneW Tryz.prog 74 (ptrW spX) := by
  refine ptrW_ok mo po gtok (Nat.le_of_ble_eq_true (by kernel_rfl)) Tryz.func74 (code := cdRX) (by kernel_rfl) fun cs args A v cs2 e hA => ⟨?_, ?_⟩
  all_goals
    unfold spX at e
    split at e
    case h_2 => cases e
    rename_i s x f
    simp only [Option.some.injEq, Prod.mk.injEq] at e; obtain ⟨rfl, rfl, rfl⟩ := e
  · kernel_rfl
  obtain ⟨a1, a2⟩ := hA _ (List.mem_cons_self ..)
  have a3 : s.length ≤ 1000000000 := hA (s.length ≤ 1000000000) (by simp)
  obtain ⟨a, rfl⟩ : ∃ a : Nat, x = Int.ofNat a := ⟨x.toNat, (Int.toNat_of_nonneg a1).symm⟩
  have a2 : a ≤ s.length := a2
  rw [show (Int.ofNat a).toNat = a from rfl]
  obtain ⟨L, hr⟩ := rx_1 s a f
  have h1 := rdVf_at s a f a2
  refine TG_ret X18 mo _ (by kernel_rfl) hr fun g hg hc => ?_
  simp only [List.mem_cons, List.not_mem_nil, or_false] at hg
  have A : ∀ p ∈ [((0 : Int) ≤ Int.ofNat a ∧ a ≤ s.length), (s.length ≤ 1000000000), ((0 : Int) ≤ Int.ofNat (rdVf s a f).snd.fst ∧ (Int.ofNat (rdVf s a f).snd.fst).toNat ≤ s.length), (s.length ≤ 1000000000)], p :=
    fm ⟨Int.natCast_nonneg _, a2⟩ (fm a3 (fm ⟨Int.natCast_nonneg _, h1⟩ (fm1 a3)))
  rcases hg with rfl | rfl
  all_goals
    have q := hc _ (List.mem_singleton.2 rfl)
    refine ⟨A, _, _, _, rfl, rfl, ?_, rfl⟩
    have q : (rdTx s a f).2.2 = _ := q
    have q' : (rdTx s a f).2.1 = if (rdTx s a f).2.2 then a else (rdT s (rdVf s a f).2.1 (rdVf s a f).2.2 (rdVf s a f).1).2.1 := rfl
    rw [q] at q'
    rw [q']
    rfl
def rdN (s : List UInt8) (a : Nat) (f : Bool) (k : Nat) : Int × Nat × Bool := ((rdT s a f (Int.ofNat k)).1.foldl numS 0, (rdT s a f (Int.ofNat k)).2.1, (rdT s a f (Int.ofNat k)).2.2)
theorem rdN_at (s : List UInt8) (a : Nat) (f : Bool) (k : Nat) (h : a ≤ s.length) : (rdN s a f k).2.1 ≤ s.length := rdT_at _ _ _ _ h
theorem bytesI_get {t : List UInt8} {i : Nat} {b : UInt8} (h : t[i]? = some b) : (bytesI t).getD (0 + i * 1) 0 = Int.ofNat b.toNat := by
  unfold bytesI
  rw [List.getD_eq_getElem?_getD, Nat.zero_add, Nat.mul_one, List.getElem?_map, h]; rfl
theorem tgRN (s : List UInt8) (a k : Nat) (f : Bool) (ha : a ≤ s.length) (hs : s.length ≤ 1000000000) (hk : k ≤ 8) : TG Tryz.prog 1 Tryz.f75.ntmps cdRN (startSt [rdP, .int .i64 (Int.ofNat k)] (hP (rdC s a f)) 1)
    (RetG Tryz.prog 1 Tryz.f75 fun v h n => v = .int .i64 (rdN s a f k).1 ∧ h = hP (rdC s (rdN s a f k).2.1 (rdN s a f k).2.2) ∧ n = 1) := by
  obtain ⟨L1, hr1⟩ := rn_1 s a f k
  refine TG_isN1 2 X18 mo (by kernel_rfl) hr1 all_nil ?_
  refine TG_seq' (by kernel_rfl) ?_
  refine TG_seq' (by kernel_rfl) ?_
  obtain ⟨L2, hr2⟩ := rn_2 s a f k
  refine TG_is (X18k k) mo anyR (by kernel_rfl) hr2 fun g hg _ => ?_
  rw [List.mem_singleton] at hg; subst hg
  refine ⟨fm (congrArg (V.int IntKind.i64) ?_) (fm ⟨Int.natCast_nonneg _, ha⟩ (fm hs (fm1 rfl))), fun s' hs' => ?_⟩
  · simp only [hOn]
    split <;> split <;> omega
  have hlen : (rdT s a f (Int.ofNat k)).1.length ≤ 8 := by
    unfold rdT; split
    · simp
    · simp only [List.length_take, hOn, Int.toNat_natCast]; omega
  unfold rdN
  generalize hT : rdT s a f (Int.ofNat k) = T at hs' hlen ⊢
  obtain ⟨t, a1, f1⟩ := T
  have hs' : normG 1 [0, 5, 12, 13, 14] s' = some (sRN s a1 f1 ((t.take 0).foldl numS 0) t 0) := hs'
  simp only at hlen ⊢
  refine TG_forN 0 t.length (fun i => sRN s a1 f1 ((t.take i).foldl numS 0) t i) (by kernel_rfl) (by kernel_rfl) (.norm hs') (fun i hi => ?_) ?_
  · obtain ⟨b, hb⟩ : ∃ b, t[i]? = some b := ⟨_, List.getElem?_eq_getElem hi⟩
    obtain ⟨L3, hr3⟩ := rn_3 s a1 f1 ((t.take i).foldl numS 0) t i b
    refine TG_is X18 mo anyR (by kernel_rfl) hr3 fun g hg hc => ?_
    simp only [List.mem_cons, List.not_mem_nil, or_false] at hg
    rcases hg with rfl | rfl
    · refine ⟨fm ⟨Int.natCast_nonneg _, by rw [hOn, hOn]; omega⟩ (fm (by simp only [bytesI, List.length_map]; omega) (fm (congrArg _ (bytesI_get hb)) (fm rfl (fm1 (ieq_ok (by rw [hOn]; omega) (by omega)))))), fun s' hs' => .norm (live := [0, 5, 12, 13, 14]) ?_⟩
      show _ = some (sRN s a1 f1 ((t.take (i + 1)).foldl numS 0) t (i + 1))
      rw [List.take_add_one, hb, Option.toList_some, List.foldl_append]
      exact hs'
    · exact absurd (of_decide_eq_false (hc _ (List.mem_singleton.2 rfl))) (by rw [hOn, hOn]; omega)
  · obtain ⟨L3, hr3⟩ := rn_3 s a1 f1 ((t.take t.length).foldl numS 0) t t.length 0
    refine TG_is X18 mo anyR (by kernel_rfl) hr3 fun g hg hc => ?_
    simp only [List.mem_cons, List.not_mem_nil, or_false] at hg
    rcases hg with rfl | rfl
    · exact absurd (of_decide_eq_true (hc _ (List.mem_singleton.2 rfl))) (by omega)
    · refine ⟨all_nil, fun s' hs' => ⟨by simp, ?_⟩⟩
      rw [outOf_exit]
      simp only [andThen]
      have hs' : normG 1 [0, 5, 12, 13, 14] s' = some (sRN s a1 f1 ((t.take t.length).foldl numS 0) t t.length) := hs'
      refine TG_norm hs' ?_
      obtain ⟨L5, hr5⟩ := rn_4 s a1 f1 ((t.take t.length).foldl numS 0) t t.length
      refine TG_ret X18 mo _ (by kernel_rfl) hr5 fun g hg _ => ?_
      rw [List.mem_singleton] at hg; subst hg
      exact ⟨all_nil, _, _, _, rfl, by rw [List.take_length], rfl, rfl⟩
def spN : List V → List V → Option (List Prop × V × List V)
  | [.str s, .int .i64 x, .bool f], [.int .i64 k] => some ([0 ≤ x ∧ x.toNat ≤ s.length, s.length ≤ 1000000000, 0 ≤ k ∧ k.toNat ≤ 8], .int .i64 (rdN s x.toNat f k.toNat).1, rdC s (rdN s x.toNat f k.toNat).2.1 (rdN s x.toNat f k.toNat).2.2)
  | _, _ => none
theorem one_RN : OneW Tryz.prog 75 (ptrW spN) := by
  refine ptrW_ok mo po gtok (Nat.le_of_ble_eq_true (by kernel_rfl)) Tryz.func75 (code := cdRN) (by kernel_rfl) fun cs args A v cs2 e hA => ⟨?_, ?_⟩
  all_goals
    unfold spN at e
    split at e
    case h_2 => cases e
    rename_i s x f k
    simp only [Option.some.injEq, Prod.mk.injEq] at e; obtain ⟨rfl, rfl, rfl⟩ := e
  · kernel_rfl
  obtain ⟨a1, a2⟩ := hA _ (List.mem_cons_self ..)
  have a3 : s.length ≤ 1000000000 := hA (s.length ≤ 1000000000) (by simp)
  obtain ⟨a4, a5⟩ : 0 ≤ k ∧ k.toNat ≤ 8 := hA (0 ≤ k ∧ k.toNat ≤ 8) (by simp)
  obtain ⟨a, rfl⟩ : ∃ a : Nat, x = Int.ofNat a := ⟨x.toNat, (Int.toNat_of_nonneg a1).symm⟩
  obtain ⟨k, rfl⟩ : ∃ a : Nat, k = Int.ofNat a := ⟨k.toNat, (Int.toNat_of_nonneg a4).symm⟩
  exact tgRN s a k f a2 a3 a5
noncomputable abbrev W19 : CtrW := addW 74 (ptrW spX) (addW 75 (ptrW spN) W18)
theorem W19_ok : CtrWOk Tryz.prog W19 := addW_ok one_RX (addW_ok one_RN W18_ok)
end Go.Proofs.YtmjggdmekboefaaGreat
namespace Go.Proofs.YtmjggdmekboefaaGreat
open Go Go.Eng
noncomputable abbrev cdLi : Code := bodyOf Tryz.f76
noncomputable abbrev tlLi : Code := tailN 2 cdLi
def zLay : Lay := ⟨0, 0, [], false, 0, 0, false, z7, 0, [], 0, zFL, z4, [], [], false, []⟩
def Lay.rc (y : Lay) : List V := y.cs.set 27 nilS
def hR (y : Lay) (s : List UInt8) (a : Nat) (f : Bool) : Tr O := hL [(0, .cells zLay.cs), (1, .cells (rdC s a f)), (2, .cells y.rc)]
def hRo (y : Lay) (s : List UInt8) (a : Nat) (f : Bool) (l : List Int) : Tr O := hL [(0, .cells zLay.cs), (1, .cells (rdC s a f)), (2, .cells y.rc), (3, .own .i64 l)]
abbrev rP : V := .ptr (some (1, 0))
def sL0 (y : Lay) (s : List UInt8) (a : Nat) (f : Bool) (n : Int) (i : Nat) : St := stG [(0, rP), (2, nilS), (3, iX n), (4, iW i)] (hR y s a f) 3
def sL1 (y : Lay) (s : List UInt8) (a : Nat) (f : Bool) (n : Int) (i m : Nat) (l : List Int) : St := stG [(0, rP), (2, .slc (some (3, 0)) m m 1), (3, iX n), (4, iW i)] (hRo y s a f l) 4
def sLd (y : Lay) (s : List UInt8) (a : Nat) (f : Bool) (n : Int) (i : Nat) (v : Int) : St := stG [(0, rP), (2, .slc (some (3, 0)) 1 1 1), (3, iX n), (4, iW i)] (hL [(0, .cells zLay.cs), (1, .cells (rdC s a f)), (2, .cells y.rc), (3, .cells [.int .i64 v])]) 4
theorem li_1 (y : Lay) (s : List UInt8) (a : Nat) (f : Bool) : ∃ L, RunIs Tryz.prog (csH W19 []) [] 1000 3 Tryz.f76 [0, 2, 3] (headN 2 cdLi) (startSt [rP] (hR y s a f) 3) L
    [([],
      [((0 : Int) ≤ Int.ofNat a ∧ a ≤ s.length), (s.length ≤ 1000000000)],
      .to .normal (stG [(0, rP), (2, nilS), (3, iX (rdVf s a f).1)] (hR y s (rdVf s a f).2.1 (rdVf s a f).2.2) 3))]
  := RunIs.of (by kernel_rfl) (by kernel_rfl) (by kernel_rfl)
theorem li_2 (y : Lay) (s : List UInt8) (a : Nat) (f : Bool) (n : Int) : ∃ L, RunIs Tryz.prog (csH W19 []) [] 1000 3 Tryz.f76 [0, 2, 3, 4] (seqL (seqL tlLi)) (stG [(0, rP), (2, nilS), (3, iX n)] (hR y s a f) 3) L
    [([],
      [],
      .to .normal (sL0 y s a f n 0))]
  := RunIs.of (by kernel_rfl) (by kernel_rfl) (by kernel_rfl)
abbrev li_3A1 (i : Nat) : Prop := V.int IntKind.i64 (IntKind.i64.wrap (Int.ofNat i + (1 : Int))) = iW (i + 1)
theorem li_3 (y : Lay) (s : List UInt8) (a : Nat) (f : Bool) (n : Int) (i : Nat) : ∃ L, RunIs Tryz.prog (csH W19 []) [(10, .split), (14, .split), (16, .give (iW (i + 1)))] 1000 3 Tryz.f76 [0, 2, 3, 4] (inner (inner (seqR (seqL tlLi)))) (sL0 y s a f n i) L
    [([((decide (Int.ofNat i < n)), true), ((!f), true)],
      [((0 : Int) ≤ Int.ofNat a ∧ a ≤ s.length), (s.length ≤ 1000000000), li_3A1 i],
      .to .normal (sLd y s (rdVf s a f).2.1 (rdVf s a f).2.2 n (i + 1) (rdVf s a f).1)),
    ([((decide (Int.ofNat i < n)), true), ((!f), false)],
      [],
      .to (.exit 0) (sL0 y s a f n i)),
    ([((decide (Int.ofNat i < n)), false), (false, true)],
      [((0 : Int) ≤ Int.ofNat a ∧ a ≤ s.length), (s.length ≤ 1000000000), li_3A1 i],
      .to .normal (sLd y s (rdVf s a f).2.1 (rdVf s a f).2.2 n (i + 1) (rdVf s a f).1)),
    ([((decide (Int.ofNat i < n)), false), (false, false)],
      [],
      .to (.exit 0) (sL0 y s a f n i))]
  := RunIs.of (by kernel_rfl) (by kernel_rfl) (by kernel_rfl)
abbrev li_4A1 (i : Nat) : Prop := V.int IntKind.i64 (IntKind.i64.wrap (Int.ofNat i + (1 : Int))) = iW (i + 1)
theorem li_4 (y : Lay) (s : List UInt8) (a : Nat) (f : Bool) (n : Int) (i : Nat) (l : List Int) : ∃ L, RunIs Tryz.prog (csH W19 []) [(10, .split), (14, .split), (16, .give (iW (i + 1)))] 1000 3 Tryz.f76 [0, 2, 3, 4] (inner (inner (seqR (seqL tlLi)))) (sL1 y s a f n i l.length l) L
    [([((decide (Int.ofNat i < n)), true), ((!f), true)],
      [((0 : Int) ≤ Int.ofNat a ∧ a ≤ s.length), (s.length ≤ 1000000000), (0 < l.length), (0 + l.length * 1 ≤ l.length), (0 < 1), (roomy (l.length + 1) 1 8 = true), li_4A1 i],
      .to .normal (sL1 y s (rdVf s a f).2.1 (rdVf s a f).2.2 n (i + 1) (l.length + 1) (List.take (l.length * 1) (List.drop 0 l) ++ [(rdVf s a f).1]))),
    ([((decide (Int.ofNat i < n)), true), ((!f), false)],
      [],
      .to (.exit 0) (sL1 y s a f n i l.length l)),
    ([((decide (Int.ofNat i < n)), false), (false, true)],
      [((0 : Int) ≤ Int.ofNat a ∧ a ≤ s.length), (s.length ≤ 1000000000), (0 < l.length), (0 + l.length * 1 ≤ l.length), (0 < 1), (roomy (l.length + 1) 1 8 = true), li_4A1 i],
      .to .normal (sL1 y s (rdVf s a f).2.1 (rdVf s a f).2.2 n (i + 1) (l.length + 1) (List.take (l.length * 1) (List.drop 0 l) ++ [(rdVf s a f).1]))),
    ([((decide (Int.ofNat i < n)), false), (false, false)],
      [],
      .to (.exit 0) (sL1 y s a f n i l.length l))]
  := RunIs.of (by kernel_rfl) (by kernel_rfl) (by kernel_rfl)
theorem li_5 (y : Lay) (s : List UInt8) (a : Nat) (f : Bool) (n : Int) (i : Nat) : ∃ L, RunIs Tryz.prog (csH W19 []) [] 1000 3 Tryz.f76 [] (seqR tlLi) (sL0 y s a f n i) L
    [([],
      [],
      .ret (nilS) (hR y s a f) 3)]
  := RunIs.of (by kernel_rfl) (by kernel_rfl) (by kernel_rfl)
theorem li_6 (y : Lay) (s : List UInt8) (a : Nat) (f : Bool) (n : Int) (i : Nat) (l : List Int) : ∃ L, RunIs Tryz.prog (csH W19 []) [] 1000 3 Tryz.f76 [] (seqR tlLi) (sL1 y s a f n i l.length l) L
    [([],
      [],
      .ret (.slc (some (3, 0)) l.length l.length 1) (hRo y s a f l) 4)]
  := RunIs.of (by kernel_rfl) (by kernel_rfl) (by kernel_rfl)
end Go.Proofs.YtmjggdmekboefaaGreat
namespace Go.Proofs.YtmjggdmekboefaaGreat
open Go Go.Eng
def liF (s : List UInt8) : Nat → Int → Nat → Bool → List Int × Nat × Bool
  | 0, _, a, f => ([], a, f)
  | k + 1, m, a, f => if 0 < m ∧ f = false then ((rdVf s a f).1 :: (liF s k (m - 1) (rdVf s a f).2.1 (rdVf s a f).2.2).1, (liF s k (m - 1) (rdVf s a f).2.1 (rdVf s a f).2.2).2) else ([], a, f)
def msr (s : List UInt8) (a : Nat) (f : Bool) : Nat := (s.length - a) + (if f then 0 else 1)
theorem rvL_pos (s : List UInt8) (a : Nat) : ∀ k i u v n, rvL s a k i u = some (v, n) → i < n := by
  intro k
  induction k with
  | zero => intro i u v n e; cases e
  | succ k ih =>
    intro i u v n e
    unfold rvL at e
    split at e
    · have := ih _ _ _ _ e; omega
    · split at e
      · cases e
      · simp only [Option.some.injEq, Prod.mk.injEq] at e; omega
theorem msr_lt {s : List UInt8} {a : Nat} (h : a ≤ s.length) : msr s (rdVf s a false).2.1 (rdVf s a false).2.2 < msr s a false := by
  have e : rdVf s a false = rdV s a := rfl
  rw [e]
  have h1 := (rdV_at s a h).1
  unfold rdV at h1 ⊢
  cases q : rdVar s a with
  | none => unfold msr; simp
  | some p =>
    rw [q] at h1
    have := rvL_pos _ _ _ _ _ _ _ q
    unfold msr
    simp only [Bool.false_eq_true, if_false] at h1 ⊢
    omega
theorem liF_at (s : List UInt8) : ∀ k m a f, a ≤ s.length → (liF s k m a f).2.1 ≤ s.length ∧ (liF s k m a f).1.length ≤ k
  | 0, _, _, _, h => ⟨h, Nat.le_refl _⟩
  | k + 1, m, a, f, h => by
    unfold liF
    split
    · have := liF_at s k (m - 1) _ (rdVf s a f).2.2 (rdVf_at s a f h)
      exact ⟨this.1, by simp only [List.length_cons]; omega⟩
    · exact ⟨h, by simp⟩
def rdLi (s : List UInt8) (a : Nat) (f : Bool) : List Int × Nat × Bool := liF s (s.length + 2) (rdVf s a f).1 (rdVf s a f).2.1 (rdVf s a f).2.2
theorem rdLi_at {s : List UInt8} {a : Nat} {f : Bool} (h : a ≤ s.length) : (rdLi s a f).2.1 ≤ s.length ∧ (rdLi s a f).1.length ≤ s.length + 2 := liF_at _ _ _ _ _ (rdVf_at s a f h)
theorem roomy_ok8 {k : Nat} (h : k ≤ 1000000000) : roomy k 1 8 = true := by
  unfold roomy
  exact decide_eq_true ⟨by omega, by omega⟩
def sL (y : Lay) (s : List UInt8) (n : Int) (x : Nat × List Int × Nat × Bool) : St := match x.2.1 with
  | [] => sL0 y s x.2.2.1 x.2.2.2 n 0
  | l => sL1 y s x.2.2.1 x.2.2.2 n l.length l.length l
theorem liG (y : Lay) (s : List UInt8) (a : Nat) (f : Bool) (ha : a ≤ s.length) (hs : s.length ≤ 10000000) (R : V → Tr O → Nat → Prop)
    (r0 : (rdLi s a f).1 = [] → R nilS (hR y s (rdLi s a f).2.1 (rdLi s a f).2.2) 3)
    (r1 : (rdLi s a f).1 ≠ [] → R (.slc (some (3, 0)) (rdLi s a f).1.length (rdLi s a f).1.length 1) (hRo y s (rdLi s a f).2.1 (rdLi s a f).2.2 (rdLi s a f).1) 4) :
    TG Tryz.prog 3 Tryz.f76.ntmps cdLi (startSt [rP] (hR y s a f) 3) (RetG Tryz.prog 3 Tryz.f76 R) := by
  have h9 : s.length ≤ 1000000000 := by omega
  refine isE1 2 W19_ok (li_1 y s a f) (fm ⟨Int.natCast_nonneg _, ha⟩ (fm1 h9)) ?_
  have h1 := rdVf_at s a f ha
  unfold rdLi at r0 r1
  generalize hv : rdVf s a f = v1 at h1 r0 r1 ⊢
  obtain ⟨n, b, g⟩ := v1
  simp only at h1 r0 r1 ⊢
  generalize hT : liF s (s.length + 2) n b g = T at r0 r1
  obtain ⟨l0, a0, f0⟩ := T
  simp only at r0 r1
  -- k rounds left, the numbers so far, place, failed
  refine loopF (α := Nat × List Int × Nat × Bool) W19_ok 0 _ [0, 2, 3, 4] (·.1) (fun x => x.2.2.1 ≤ s.length ∧ msr s x.2.2.1 x.2.2.2 < x.1 ∧ x.2.1.length + x.1 ≤ s.length + 2 ∧ (x.2.1 ++ (liF s x.1 (n - x.2.1.length) x.2.2.1 x.2.2.2).1, (liF s x.1 (n - x.2.1.length) x.2.2.1 x.2.2.2).2) = (l0, a0, f0)) (sL y s n) (s.length + 2, [], b, g)
    ⟨h1, by unfold msr; simp only; split <;> omega, by simp, by simp only [List.nil_append, List.length_nil, Int.natCast_zero, Int.sub_zero]; rw [hT]⟩ (li_2 y s b g n) all_nil .refl ?_
  rintro ⟨k, l, c, q⟩ ⟨i1, i2, i3, i4⟩
  simp only at i1 i2 i3 i4
  obtain ⟨j, rfl⟩ : ∃ j, k = j + 1 := ⟨k - 1, by omega⟩
  unfold liF at i4
  have hgo : Int.ofNat l.length < n → q = false → ∀ S, S = sL y s n (j, l ++ [(rdVf s c q).1], (rdVf s c q).2.1, (rdVf s c q).2.2) → ∀ s', Goes Tryz.prog 3 Tryz.f76.ntmps s' S → ∃ x' : Nat × List Int × Nat × Bool, x'.1 < j + 1 ∧ (x'.2.2.1 ≤ s.length ∧ msr s x'.2.2.1 x'.2.2.2 < x'.1 ∧ x'.2.1.length + x'.1 ≤ s.length + 2 ∧ (x'.2.1 ++ (liF s x'.1 (n - x'.2.1.length) x'.2.2.1 x'.2.2.2).1, (liF s x'.1 (n - x'.2.1.length) x'.2.2.1 x'.2.2.2).2) = (l0, a0, f0)) ∧ Goes Tryz.prog 3 Tryz.f76.ntmps s' (sL y s n x') := by
    rintro hlt rfl S rfl s' hS
    refine ⟨(j, l ++ [(rdVf s c false).1], (rdVf s c false).2.1, (rdVf s c false).2.2), Nat.lt_succ_self j, ⟨rdVf_at s c false i1, ?_, by simp only [List.length_append, List.length_cons, List.length_nil]; omega, ?_⟩, hS⟩
    · have := msr_lt i1; simp only; omega
    · rw [if_pos ⟨by rw [hOn] at hlt; omega, rfl⟩] at i4
      rw [← i4]
      have e : n - ((l ++ [(rdVf s c false).1]).length : Nat) = n - l.length - 1 := by simp only [List.length_append, List.length_cons, List.length_nil]; omega
      simp only [e, List.append_assoc, List.singleton_append]
  have hend : ¬ (Int.ofNat l.length < n ∧ q = false) → l = l0 ∧ c = a0 ∧ q = f0 := fun h => by
    rw [if_neg (fun x => h ⟨by have := x.1; rw [hOn]; omega, x.2⟩)] at i4
    simp only [List.append_nil, Prod.mk.injEq] at i4
    exact i4
  cases l with
  | nil =>
    refine ⟨_, W19_ok, [], _, _, li_3 y s c q n 0, gcons (g2 fun h h2 => ?_) (gcons (g2 fun h h2 => ⟨all_nil, rfl, ?_⟩) (gcons (g2 fun h h2 => Bool.noConfusion h2) (gone (g2 fun h h2 => ⟨all_nil, rfl, ?_⟩))))⟩
    · refine ⟨fm ⟨Int.natCast_nonneg _, i1⟩ (fm h9 (fm1 rfl)), hgo (of_decide_eq_true h) (by simpa using h2) _ rfl _ ?_⟩
      exact .own [(3, .i64)] (by kernel_rfl)
    · obtain ⟨rfl, rfl, rfl⟩ := hend (fun x => by rw [x.2] at h2; cases h2)
      exact retE W19_ok (li_5 y s c q n 0) (gone (g0 ⟨all_nil, _, _, _, rfl, r0 rfl⟩))
    · obtain ⟨rfl, rfl, rfl⟩ := hend (fun x => of_decide_eq_false h x.1)
      exact retE W19_ok (li_5 y s c q n 0) (gone (g0 ⟨all_nil, _, _, _, rfl, r0 rfl⟩))
  | cons x r =>
    have hpos : 0 < (x :: r).length := by simp
    have e0 : List.take ((x :: r).length * 1) (List.drop 0 (x :: r)) = x :: r := by rw [List.drop_zero, Nat.mul_one, List.take_length]
    have h4 := li_4 y s c q n (x :: r).length (x :: r)
    rw [e0] at h4
    have hfin : ¬ (Int.ofNat (x :: r).length < n ∧ q = false) → TG Tryz.prog 3 Tryz.f76.ntmps (seqR tlLi) (sL1 y s c q n (x :: r).length (x :: r).length (x :: r)) (RetG Tryz.prog 3 Tryz.f76 R) := fun h => by
      obtain ⟨rfl, rfl, rfl⟩ := hend h
      exact retE W19_ok (li_6 y s c q n (x :: r).length (x :: r)) (gone (g0 ⟨all_nil, _, _, _, rfl, r1 (by simp)⟩))
    refine ⟨_, W19_ok, [], _, _, h4, gcons (g2 fun h h2 => ?_) (gcons (g2 fun h h2 => ⟨all_nil, rfl, ?_⟩) (gcons (g2 fun h h2 => Bool.noConfusion h2) (gone (g2 fun h h2 => ⟨all_nil, rfl, ?_⟩))))⟩
    · refine ⟨fm ⟨Int.natCast_nonneg _, i1⟩ (fm h9 (fm hpos (fm (by omega) (fm (by decide) (fm (roomy_ok8 (by omega)) (fm1 (vsuc (by omega)))))))), hgo (of_decide_eq_true h) (by simpa using h2) _ ?_ _ .refl⟩
      have e1 : (x :: r ++ [(rdVf s c q).1]).length = (x :: r).length + 1 := by rw [List.length_append]; rfl
      show _ = sL1 y s _ _ n (x :: r ++ [(rdVf s c q).1]).length (x :: r ++ [(rdVf s c q).1]).length _
      rw [e1]
    · exact hfin fun x => by rw [x.2] at h2; cases h2
    · exact hfin fun x => of_decide_eq_false h x.1
theorem liIs0 (y : Lay) (s : List UInt8) (a : Nat) (f : Bool) (ha : a ≤ s.length) (hs : s.length ≤ 10000000) (h : (rdLi s a f).1 = []) : CallIs Tryz.prog 76 [rP] (hR y s a f) 3 nilS (hR y s (rdLi s a f).2.1 (rdLi s a f).2.2) 3 := fun E w args' ra g hd =>
  calls_of_TG1 mo po Tryz.func76 (code := cdLi) (by kernel_rfl) (by kernel_rfl) _ _ _ (liG y s a f ha hs _ (fun _ => ⟨rfl, rfl, rfl⟩) (fun n => absurd h n)) ra g hd
theorem liIs1 (y : Lay) (s : List UInt8) (a : Nat) (f : Bool) (ha : a ≤ s.length) (hs : s.length ≤ 10000000) (h : (rdLi s a f).1 ≠ []) : CallIs Tryz.prog 76 [rP] (hR y s a f) 3 (.slc (some (3, 0)) (rdLi s a f).1.length (rdLi s a f).1.length 1) (hRo y s (rdLi s a f).2.1 (rdLi s a f).2.2 (rdLi s a f).1) 4 := fun E w args' ra g hd =>
  calls_of_TG1 mo po Tryz.func76 (code := cdLi) (by kernel_rfl) (by kernel_rfl) _ _ _ (liG y s a f ha hs _ (fun n => absurd n h) (fun _ => ⟨rfl, rfl, rfl⟩)) ra g hd
end Go.Proofs.YtmjggdmekboefaaGreat
namespace Go.Proofs.YtmjggdmekboefaaGreat
open Go Go.Eng
noncomputable abbrev cdRd : Code := bodyOf Tryz.f31
def z31 (id kd : Int) (nm : List UInt8) : List V := [iX id, iX kd, .str nm, .bool false, iX 0, iX 0, .bool false] ++ (z7.cs ++ ([iX 0, nilS, iX 0] ++ ([iX 0, iX 0, nilS, iX 0, iX 0, nilS] ++ (z4.cs ++ [nilS, nilS, .bool false, nilS]))))
abbrev fR (s : List UInt8) (r : List (Nat × V)) : List (Nat × V) := (0, .str s) :: (2, .ptr (some (0, 0))) :: (4, .ptr (some (1, 0))) :: (5, .ptr (some (2, 0))) :: r
def sRd (y : Lay) (s : List UInt8) (a : Nat) (f : Bool) (r : List (Nat × V)) : St := stG (fR s r) (hR y s a f) 3
def mR (s : List UInt8) (a : Nat) (f : Bool) (cs : List V) : Tr O := hL [(0, .cells zLay.cs), (1, .cells (rdC s a f)), (2, .cells cs)]
def mRo (s : List UInt8) (a : Nat) (f : Bool) (cs : List V) (l : List Int) : Tr O := hL [(0, .cells zLay.cs), (1, .cells (rdC s a f)), (2, .cells cs), (3, .own .i64 l)]
def plP : V := .agg [.ptr (some (2, 7)), .ptr (some (2, 8)), .ptr (some (2, 9)), .ptr (some (2, 10)), .ptr (some (2, 11)), .ptr (some (2, 12)), .ptr (some (2, 13))]
def updP : Nat → P7 → Int → P7
  | 0, p, v => { p with a := v }
  | 1, p, v => { p with b := v }
  | 2, p, v => { p with c := v }
  | 3, p, v => { p with d := v }
  | 4, p, v => { p with e := v }
  | 5, p, v => { p with f := v }
  | _, p, v => { p with n := v }
def bitB (n k : Int) : Bool := !(IntKind.i64.wrap (Int.ofNat (BitVec.ofInt 64 n &&& BitVec.ofInt 64 k).toNat) == (0 : Int))
theorem rd_1 (s : List UInt8) : ∃ L, RunIs Tryz.prog (csH W19 []) [] 1000 0 Tryz.f31 [0, 2, 4] (headN 2 cdRd) (startSt [.str s] .nil 0) L
    [([],
      [],
      .to .normal (stG [(0, .str s), (2, .ptr (some (0, 0))), (4, .ptr (some (1, 0)))] (hL [(0, .cells (z31 0 0 [])), (1, .cells (rdC s 0 false))]) 2))]
  := RunIs.of (by kernel_rfl) (by kernel_rfl) (by kernel_rfl)
theorem rd_2 (s : List UInt8) (a : Nat) (f : Bool) : ∃ L, RunIs Tryz.prog (csH W19 []) [] 1000 0 Tryz.f31 [0, 2, 4, 5] (headN 1 (tailN 2 cdRd)) (stG [(0, .str s), (2, .ptr (some (0, 0))), (4, .ptr (some (1, 0)))] (hL [(0, .cells zLay.cs), (1, .cells (rdC s a f))]) 2) L
    [([],
      [((0 : Int) ≤ Int.ofNat a ∧ a ≤ s.length), (s.length ≤ 1000000000), ((0 : Int) ≤ Int.ofNat (rdVf s a f).snd.fst ∧ (Int.ofNat (rdVf s a f).snd.fst).toNat ≤ s.length), (s.length ≤ 1000000000), ((0 : Int) ≤ Int.ofNat (rdVf s (Int.ofNat (rdVf s a f).snd.fst).toNat (rdVf s a f).snd.snd).snd.fst ∧ (Int.ofNat (rdVf s (Int.ofNat (rdVf s a f).snd.fst).toNat (rdVf s a f).snd.snd).snd.fst).toNat ≤ s.length), (s.length ≤ 1000000000)],
      .to .normal (stG (fR s []) (mR s (rdTx s (rdVf s (rdVf s a f).2.1 (rdVf s a f).2.2).2.1 (rdVf s (rdVf s a f).2.1 (rdVf s a f).2.2).2.2).2.1 (rdTx s (rdVf s (rdVf s a f).2.1 (rdVf s a f).2.2).2.1 (rdVf s (rdVf s a f).2.1 (rdVf s a f).2.2).2.2).2.2 (z31 (rdVf s a f).1 (rdVf s (rdVf s a f).2.1 (rdVf s a f).2.2).1 (rdTx s (rdVf s (rdVf s a f).2.1 (rdVf s a f).2.2).2.1 (rdVf s (rdVf s a f).2.1 (rdVf s a f).2.2).2.2).1)) 3))]
  := RunIs.of (by kernel_rfl) (by kernel_rfl) (by kernel_rfl)
theorem rd_3 (y : Lay) (s : List UInt8) (a : Nat) (f : Bool) : ∃ L, RunIs Tryz.prog (csH W19 []) [] 1000 0 Tryz.f31 [0, 2, 4, 5, 6] (headN 1 (tailN 3 cdRd)) (sRd y s a f []) L
    [([],
      [((0 : Int) ≤ Int.ofNat a ∧ a ≤ s.length), (s.length ≤ 1000000000), ((0 : Int) ≤ (1 : Int) ∧ 1 ≤ 8)],
      .to .normal (sRd y s (rdN s a f 1).2.1 (rdN s a f 1).2.2 [(6, iX (rdN s a f 1).1)]))]
  := RunIs.of (by kernel_rfl) (by kernel_rfl) (by kernel_rfl)
theorem rd_4 (y : Lay) (s : List UInt8) (a : Nat) (f : Bool) (n : Int) : ∃ L, RunIs Tryz.prog (csH W19 []) [] 1000 0 Tryz.f31 [0, 2, 4, 5] (headN 1 (tailN 4 cdRd)) (sRd y s a f [(6, iX n)]) L
    [([],
      [],
      .to .normal (sRd { y with hid := bitB n 1, clip := bitB n 2, hm := bitB n 4 } s a f []))]
  := RunIs.of (by kernel_rfl) (by kernel_rfl) (by kernel_rfl)
theorem rd_5 (y : Lay) (s : List UInt8) (a : Nat) (f : Bool) : ∃ L, RunIs Tryz.prog (csH W19 []) [] 1000 0 Tryz.f31 [0, 2, 4, 5] (headN 1 (tailN 5 cdRd)) (sRd y s a f []) L
    [([],
      [((0 : Int) ≤ Int.ofNat a ∧ a ≤ s.length), (s.length ≤ 1000000000), ((0 : Int) ≤ Int.ofNat (rdVf s a f).snd.fst ∧ (Int.ofNat (rdVf s a f).snd.fst).toNat ≤ s.length), (s.length ≤ 1000000000)],
      .to .normal (sRd { y with op := (rdVf s a f).1, md := (rdVf s (rdVf s a f).2.1 (rdVf s a f).2.2).1 } s (rdVf s (rdVf s a f).2.1 (rdVf s a f).2.2).2.1 (rdVf s (rdVf s a f).2.1 (rdVf s a f).2.2).2.2 []))]
  := RunIs.of (by kernel_rfl) (by kernel_rfl) (by kernel_rfl)
noncomputable abbrev tlR6 : Code := tailN 6 cdRd
theorem rd_6 (y : Lay) (s : List UInt8) (a : Nat) (f : Bool) : ∃ L, RunIs Tryz.prog (csH W19 []) [] 1000 0 Tryz.f31 [0, 2, 4, 5, 42, 43] (seqL (seqL tlR6)) (sRd y s a f []) L
    [([],
      [],
      .to .normal (sRd y s a f [(42, plP), (43, iW 0)]))]
  := RunIs.of (by kernel_rfl) (by kernel_rfl) (by kernel_rfl)
theorem rd_70 (y : Lay) (s : List UInt8) (a : Nat) (f : Bool) : ∃ L, RunIs Tryz.prog (csH W19 []) [(50, .give (iW 1))] 1000 0 Tryz.f31 [0, 2, 4, 5, 42, 43] (inner (inner (seqR (seqL tlR6)))) (sRd y s a f [(42, plP), (43, iW 0)]) L
    [([],
      [((0 : Int) ≤ Int.ofNat a ∧ a ≤ s.length), (s.length ≤ 1000000000), (V.int IntKind.i64 (1 : Int) = iW 1)],
      .to .normal (sRd { y with pl := updP 0 y.pl (rdVf s a f).1 } s (rdVf s a f).2.1 (rdVf s a f).2.2 [(42, plP), (43, iW 1)]))]
  := RunIs.of (by kernel_rfl) (by kernel_rfl) (by kernel_rfl)
theorem rd_71 (y : Lay) (s : List UInt8) (a : Nat) (f : Bool) : ∃ L, RunIs Tryz.prog (csH W19 []) [(50, .give (iW 2))] 1000 0 Tryz.f31 [0, 2, 4, 5, 42, 43] (inner (inner (seqR (seqL tlR6)))) (sRd y s a f [(42, plP), (43, iW 1)]) L
    [([],
      [((0 : Int) ≤ Int.ofNat a ∧ a ≤ s.length), (s.length ≤ 1000000000), (V.int IntKind.i64 (2 : Int) = iW 2)],
      .to .normal (sRd { y with pl := updP 1 y.pl (rdVf s a f).1 } s (rdVf s a f).2.1 (rdVf s a f).2.2 [(42, plP), (43, iW 2)]))]
  := RunIs.of (by kernel_rfl) (by kernel_rfl) (by kernel_rfl)
theorem rd_72 (y : Lay) (s : List UInt8) (a : Nat) (f : Bool) : ∃ L, RunIs Tryz.prog (csH W19 []) [(50, .give (iW 3))] 1000 0 Tryz.f31 [0, 2, 4, 5, 42, 43] (inner (inner (seqR (seqL tlR6)))) (sRd y s a f [(42, plP), (43, iW 2)]) L
    [([],
      [((0 : Int) ≤ Int.ofNat a ∧ a ≤ s.length), (s.length ≤ 1000000000), (V.int IntKind.i64 (3 : Int) = iW 3)],
      .to .normal (sRd { y with pl := updP 2 y.pl (rdVf s a f).1 } s (rdVf s a f).2.1 (rdVf s a f).2.2 [(42, plP), (43, iW 3)]))]
  := RunIs.of (by kernel_rfl) (by kernel_rfl) (by kernel_rfl)
theorem rd_73 (y : Lay) (s : List UInt8) (a : Nat) (f : Bool) : ∃ L, RunIs Tryz.prog (csH W19 []) [(50, .give (iW 4))] 1000 0 Tryz.f31 [0, 2, 4, 5, 42, 43] (inner (inner (seqR (seqL tlR6)))) (sRd y s a f [(42, plP), (43, iW 3)]) L
    [([],
      [((0 : Int) ≤ Int.ofNat a ∧ a ≤ s.length), (s.length ≤ 1000000000), (V.int IntKind.i64 (4 : Int) = iW 4)],
      .to .normal (sRd { y with pl := updP 3 y.pl (rdVf s a f).1 } s (rdVf s a f).2.1 (rdVf s a f).2.2 [(42, plP), (43, iW 4)]))]
  := RunIs.of (by kernel_rfl) (by kernel_rfl) (by kernel_rfl)
theorem rd_74 (y : Lay) (s : List UInt8) (a : Nat) (f : Bool) : ∃ L, RunIs Tryz.prog (csH W19 []) [(50, .give (iW 5))] 1000 0 Tryz.f31 [0, 2, 4, 5, 42, 43] (inner (inner (seqR (seqL tlR6)))) (sRd y s a f [(42, plP), (43, iW 4)]) L
    [([],
      [((0 : Int) ≤ Int.ofNat a ∧ a ≤ s.length), (s.length ≤ 1000000000), (V.int IntKind.i64 (5 : Int) = iW 5)],
      .to .normal (sRd { y with pl := updP 4 y.pl (rdVf s a f).1 } s (rdVf s a f).2.1 (rdVf s a f).2.2 [(42, plP), (43, iW 5)]))]
  := RunIs.of (by kernel_rfl) (by kernel_rfl) (by kernel_rfl)
theorem rd_75 (y : Lay) (s : List UInt8) (a : Nat) (f : Bool) : ∃ L, RunIs Tryz.prog (csH W19 []) [(50, .give (iW 6))] 1000 0 Tryz.f31 [0, 2, 4, 5, 42, 43] (inner (inner (seqR (seqL tlR6)))) (sRd y s a f [(42, plP), (43, iW 5)]) L
    [([],
      [((0 : Int) ≤ Int.ofNat a ∧ a ≤ s.length), (s.length ≤ 1000000000), (V.int IntKind.i64 (6 : Int) = iW 6)],
      .to .normal (sRd { y with pl := updP 5 y.pl (rdVf s a f).1 } s (rdVf s a f).2.1 (rdVf s a f).2.2 [(42, plP), (43, iW 6)]))]
  := RunIs.of (by kernel_rfl) (by kernel_rfl) (by kernel_rfl)
theorem rd_76 (y : Lay) (s : List UInt8) (a : Nat) (f : Bool) : ∃ L, RunIs Tryz.prog (csH W19 []) [(50, .give (iW 7))] 1000 0 Tryz.f31 [0, 2, 4, 5, 42, 43] (inner (inner (seqR (seqL tlR6)))) (sRd y s a f [(42, plP), (43, iW 6)]) L
    [([],
      [((0 : Int) ≤ Int.ofNat a ∧ a ≤ s.length), (s.length ≤ 1000000000), (V.int IntKind.i64 (7 : Int) = iW 7)],
      .to .normal (sRd { y with pl := updP 6 y.pl (rdVf s a f).1 } s (rdVf s a f).2.1 (rdVf s a f).2.2 [(42, plP), (43, iW 7)]))]
  := RunIs.of (by kernel_rfl) (by kernel_rfl) (by kernel_rfl)
theorem rd_77 (y : Lay) (s : List UInt8) (a : Nat) (f : Bool) : ∃ L, RunIs Tryz.prog (csH W19 []) [] 1000 0 Tryz.f31 [0, 2, 4, 5, 42, 43] (inner (inner (seqR (seqL tlR6)))) (sRd y s a f [(42, plP), (43, iW 7)]) L
    [([],
      [],
      .to (.exit 0) (stG [(0, .str s), (2, .ptr (some (0, 0))), (4, .ptr (some (1, 0))), (5, .ptr (some (2, 0))), (42, .agg [.ptr (some (2, 7)), .ptr (some (2, 8)), .ptr (some (2, 9)), .ptr (some (2, 10)), .ptr (some (2, 11)), .ptr (some (2, 12)), .ptr (some (2, 13))]), (43, .int .i64 7)] (hL [(0, .cells [.int .i64 0, .int .i64 0, .str [], .bool false, .int .i64 0, .int .i64 0, .bool false, .int .i64 0, .int .i64 0, .int .i64 0, .int .i64 0, .int .i64 0, .int .i64 0, .int .i64 0, .int .i64 0, .lst false 0 [], .int .i64 0, .int .i64 0, .int .i64 0, .lst false 0 [], .int .i64 0, .int .i64 0, .lst false 0 [], .int .u8 0, .int .u8 0, .int .u8 0, .int .u8 0, .lst false 0 [], .lst false 0 [], .bool false, .lst false 0 []]), (1, .cells [.str s, .int .i64 (Int.ofNat a), .bool f]), (2, .cells [.int .i64 (y.id), .int .i64 (y.kd), .str (y.nm), .bool (y.hid), .int .i64 (y.op), .int .i64 (y.md), .bool (y.clip), .int .i64 (y.pl.a), .int .i64 (y.pl.b), .int .i64 (y.pl.c), .int .i64 (y.pl.d), .int .i64 (y.pl.e), .int .i64 (y.pl.f), .int .i64 (y.pl.n), .int .i64 (y.sp), .lst false (y.kids.length) (isD y.kids), .int .i64 (y.of), .int .i64 (y.f.k), .int .i64 (y.f.r), .lst false (y.f.ker.length) (isD y.f.ker), .int .i64 (y.f.dv), .int .i64 (y.f.vl), .lst false (y.f.cu.length) (isD y.f.cu), .int .u8 (y.fi.r), .int .u8 (y.fi.g), .int .u8 (y.fi.b), .int .u8 (y.fi.a), .slc none 0 0 0, .lst false (y.con.length) (tlD y.con), .bool (y.hm), .lst false (y.msk.length) (tlD y.msk)])]) 3))]
  := RunIs.of (by kernel_rfl) (by kernel_rfl) (by kernel_rfl)
theorem rd_8 (y : Lay) (s : List UInt8) (a : Nat) (f : Bool) : ∃ L, RunIs Tryz.prog (csH W19 []) [] 1000 0 Tryz.f31 [0, 2, 4, 5] (headN 1 (tailN 7 cdRd)) (sRd y s a f [(42, plP), (43, iW 7)]) L
    [([],
      [((0 : Int) ≤ Int.ofNat a ∧ a ≤ s.length), (s.length ≤ 1000000000)],
      .to .normal (sRd { y with sp := (rdVf s a f).1 } s (rdVf s a f).2.1 (rdVf s a f).2.2 []))]
  := RunIs.of (by kernel_rfl) (by kernel_rfl) (by kernel_rfl)
theorem rd_9n (y : Lay) (s : List UInt8) (a : Nat) (f : Bool) (b : Nat) (g : Bool) : ∃ L, RunIs Tryz.prog (csH (pinW 76 [rP] (hR y s a f) 3 nilS (hR y s b g) 3 W19) []) [] 1000 0 Tryz.f31 [0, 2, 4, 5] (headN 1 (tailN 8 cdRd)) (sRd y s a f []) L
    [([],
      [(pinT [rP] (hR y s a f) 3)],
      .to .normal (stG (fR s []) (mR s b g (y.rc.set 15 nilS)) 3))]
  := RunIs.of (by kernel_rfl) (by kernel_rfl) (by kernel_rfl)
theorem rd_9o (y : Lay) (s : List UInt8) (a : Nat) (f : Bool) (b : Nat) (g : Bool) (l : List Int) : ∃ L, RunIs Tryz.prog (csH (pinW 76 [rP] (hR y s a f) 3 (.slc (some (3, 0)) l.length l.length 1) (hRo y s b g l) 4 W19) []) [] 1000 0 Tryz.f31 [0, 2, 4, 5] (headN 1 (tailN 8 cdRd)) (sRd y s a f []) L
    [([],
      [(pinT [rP] (hR y s a f) 3)],
      .to .normal (stG (fR s []) (mRo s b g (y.rc.set 15 (.slc (some (3, 0)) l.length l.length 1)) l) 4))]
  := RunIs.of (by kernel_rfl) (by kernel_rfl) (by kernel_rfl)
theorem rd_a (y : Lay) (s : List UInt8) (a : Nat) (f : Bool) : ∃ L, RunIs Tryz.prog (csH W19 []) [] 1000 0 Tryz.f31 [0, 2, 4, 5] (headN 1 (tailN 9 cdRd)) (sRd y s a f []) L
    [([],
      [((0 : Int) ≤ Int.ofNat a ∧ a ≤ s.length), (s.length ≤ 1000000000)],
      .to .normal (sRd { y with of := (rdVf s a f).1 } s (rdVf s a f).2.1 (rdVf s a f).2.2 []))]
  := RunIs.of (by kernel_rfl) (by kernel_rfl) (by kernel_rfl)
theorem rd_b (y : Lay) (s : List UInt8) (a : Nat) (f : Bool) : ∃ L, RunIs Tryz.prog (csH W19 []) [] 1000 0 Tryz.f31 [0, 2, 4, 5] (headN 1 (tailN 10 cdRd)) (sRd y s a f []) L
    [([],
      [((0 : Int) ≤ Int.ofNat a ∧ a ≤ s.length), (s.length ≤ 1000000000), ((0 : Int) ≤ Int.ofNat (rdVf s a f).snd.fst ∧ (Int.ofNat (rdVf s a f).snd.fst).toNat ≤ s.length), (s.length ≤ 1000000000)],
      .to .normal (sRd { y with f := { y.f with k := (rdVf s a f).1, r := (rdVf s (rdVf s a f).2.1 (rdVf s a f).2.2).1 } } s (rdVf s (rdVf s a f).2.1 (rdVf s a f).2.2).2.1 (rdVf s (rdVf s a f).2.1 (rdVf s a f).2.2).2.2 []))]
  := RunIs.of (by kernel_rfl) (by kernel_rfl) (by kernel_rfl)
theorem rd_cn (y : Lay) (s : List UInt8) (a : Nat) (f : Bool) (b : Nat) (g : Bool) : ∃ L, RunIs Tryz.prog (csH (pinW 76 [rP] (hR y s a f) 3 nilS (hR y s b g) 3 W19) []) [] 1000 0 Tryz.f31 [0, 2, 4, 5] (headN 1 (tailN 11 cdRd)) (sRd y s a f []) L
    [([],
      [(pinT [rP] (hR y s a f) 3)],
      .to .normal (stG (fR s []) (mR s b g (y.rc.set 19 nilS)) 3))]
  := RunIs.of (by kernel_rfl) (by kernel_rfl) (by kernel_rfl)
theorem rd_co (y : Lay) (s : List UInt8) (a : Nat) (f : Bool) (b : Nat) (g : Bool) (l : List Int) : ∃ L, RunIs Tryz.prog (csH (pinW 76 [rP] (hR y s a f) 3 (.slc (some (3, 0)) l.length l.length 1) (hRo y s b g l) 4 W19) []) [] 1000 0 Tryz.f31 [0, 2, 4, 5] (headN 1 (tailN 11 cdRd)) (sRd y s a f []) L
    [([],
      [(pinT [rP] (hR y s a f) 3)],
      .to .normal (stG (fR s []) (mRo s b g (y.rc.set 19 (.slc (some (3, 0)) l.length l.length 1)) l) 4))]
  := RunIs.of (by kernel_rfl) (by kernel_rfl) (by kernel_rfl)
theorem rd_d (y : Lay) (s : List UInt8) (a : Nat) (f : Bool) : ∃ L, RunIs Tryz.prog (csH W19 []) [] 1000 0 Tryz.f31 [0, 2, 4, 5] (headN 1 (tailN 12 cdRd)) (sRd y s a f []) L
    [([],
      [((0 : Int) ≤ Int.ofNat a ∧ a ≤ s.length), (s.length ≤ 1000000000), ((0 : Int) ≤ Int.ofNat (rdVf s a f).snd.fst ∧ (Int.ofNat (rdVf s a f).snd.fst).toNat ≤ s.length), (s.length ≤ 1000000000)],
      .to .normal (sRd { y with f := { y.f with dv := (rdVf s a f).1, vl := (rdVf s (rdVf s a f).2.1 (rdVf s a f).2.2).1 } } s (rdVf s (rdVf s a f).2.1 (rdVf s a f).2.2).2.1 (rdVf s (rdVf s a f).2.1 (rdVf s a f).2.2).2.2 []))]
  := RunIs.of (by kernel_rfl) (by kernel_rfl) (by kernel_rfl)
theorem rd_en (y : Lay) (s : List UInt8) (a : Nat) (f : Bool) (b : Nat) (g : Bool) : ∃ L, RunIs Tryz.prog (csH (pinW 76 [rP] (hR y s a f) 3 nilS (hR y s b g) 3 W19) []) [] 1000 0 Tryz.f31 [0, 2, 4, 5] (headN 1 (tailN 13 cdRd)) (sRd y s a f []) L
    [([],
      [(pinT [rP] (hR y s a f) 3)],
      .to .normal (stG (fR s []) (mR s b g (y.rc.set 22 nilS)) 3))]
  := RunIs.of (by kernel_rfl) (by kernel_rfl) (by kernel_rfl)
theorem rd_eo (y : Lay) (s : List UInt8) (a : Nat) (f : Bool) (b : Nat) (g : Bool) (l : List Int) : ∃ L, RunIs Tryz.prog (csH (pinW 76 [rP] (hR y s a f) 3 (.slc (some (3, 0)) l.length l.length 1) (hRo y s b g l) 4 W19) []) [] 1000 0 Tryz.f31 [0, 2, 4, 5] (headN 1 (tailN 13 cdRd)) (sRd y s a f []) L
    [([],
      [(pinT [rP] (hR y s a f) 3)],
      .to .normal (stG (fR s []) (mRo s b g (y.rc.set 22 (.slc (some (3, 0)) l.length l.length 1)) l) 4))]
  := RunIs.of (by kernel_rfl) (by kernel_rfl) (by kernel_rfl)
def fi4 (b : List UInt8) : C4 := ⟨Int.ofNat (b.getD 0 0).toNat, Int.ofNat (b.getD 1 0).toNat, Int.ofNat (b.getD 2 0).toNat, Int.ofNat (b.getD 3 0).toNat⟩
theorem rd_f (y : Lay) (s : List UInt8) (a : Nat) (f : Bool) : ∃ L, RunIs Tryz.prog (csH W19 []) [(87, .split)] 1000 0 Tryz.f31 [0, 2, 4, 5] (headN 1 (tailN 14 cdRd)) (sRd y s a f []) L
    [([((!beqB (rdT s a f (4 : Int)).fst ([] : List UInt8)), true)],
      [((0 : Int) ≤ Int.ofNat a ∧ a ≤ s.length), (s.length ≤ 1000000000), ((0 : Int) ≤ (0 : Int) ∧ 0 < (rdT s a f (4 : Int)).fst.length), ((0 : Int) ≤ (1 : Int) ∧ 1 < (rdT s a f (4 : Int)).fst.length), ((0 : Int) ≤ (2 : Int) ∧ 2 < (rdT s a f (4 : Int)).fst.length), ((0 : Int) ≤ (3 : Int) ∧ 3 < (rdT s a f (4 : Int)).fst.length)],
      .to .normal (sRd { y with fi := fi4 (rdT s a f 4).1 } s (rdT s a f 4).2.1 (rdT s a f 4).2.2 [])),
    ([((!beqB (rdT s a f (4 : Int)).fst ([] : List UInt8)), false)],
      [((0 : Int) ≤ Int.ofNat a ∧ a ≤ s.length), (s.length ≤ 1000000000)],
      .to .normal (sRd y s (rdT s a f 4).2.1 (rdT s a f 4).2.2 []))]
  := RunIs.of (by kernel_rfl) (by kernel_rfl) (by kernel_rfl)
theorem rd_g (y : Lay) (s : List UInt8) (a : Nat) (f : Bool) : ∃ L, RunIs Tryz.prog (csH W19 []) [] 1000 0 Tryz.f31 [0, 2, 4, 5, 10] (headN 1 (tailN 15 cdRd)) (sRd y s a f []) L
    [([],
      [((0 : Int) ≤ Int.ofNat a ∧ a ≤ s.length), (s.length ≤ 1000000000)],
      .to .normal (sRd y s (rdVf s a f).2.1 (rdVf s a f).2.2 [(10, iX (rdVf s a f).1)]))]
  := RunIs.of (by kernel_rfl) (by kernel_rfl) (by kernel_rfl)
noncomputable abbrev tlR7 : Code := tailN 16 cdRd
def sRq (y : Lay) (s : List UInt8) (a : Nat) (f : Bool) (n : Int) (i : Nat) (m : Nat) (ds : List D) : St := stG (fR s [(10, iX n), (11, iW i)]) (hL [(0, .cells zLay.cs), (1, .cells (rdC s a f)), (2, .cells (y.cs.set 27 (.slc (some (3, 0)) m m 2))), (3, .deep ds)]) 4
theorem rd_h (y : Lay) (s : List UInt8) (a : Nat) (f : Bool) (n : Int) : ∃ L, RunIs Tryz.prog (csH W19 []) [] 1000 0 Tryz.f31 [0, 2, 4, 5, 10, 11] (seqL (seqL tlR7)) (sRd y s a f [(10, iX n)]) L
    [([],
      [],
      .to .normal (sRd y s a f [(10, iX n), (11, iW 0)]))]
  := RunIs.of (by kernel_rfl) (by kernel_rfl) (by kernel_rfl)
abbrev rd_iA1 (s : List UInt8) (a : Nat) (f : Bool) : Prop := (0 : Int) ≤ Int.ofNat (rdVf s a f).snd.fst ∧ (Int.ofNat (rdVf s a f).snd.fst).toNat ≤ s.length
abbrev rd_iA2 (i : Nat) : Prop := V.int IntKind.i64 (IntKind.i64.wrap (Int.ofNat i + (1 : Int))) = iW (i + 1)
theorem rd_i (y : Lay) (s : List UInt8) (a : Nat) (f : Bool) (n : Int) (i : Nat) : ∃ L, RunIs Tryz.prog (csH W19 []) [(103, .split), (107, .split), (109, .give (iW (i + 1)))] 1000 0 Tryz.f31 [0, 2, 4, 5, 10, 11] (inner (inner (seqR (seqL tlR7)))) (sRd y s a f [(10, iX n), (11, iW i)]) L
    [([((decide (Int.ofNat i < n)), true), ((!f), true)],
      [((0 : Int) ≤ Int.ofNat a ∧ a ≤ s.length), (s.length ≤ 1000000000), rd_iA1 s a f, (s.length ≤ 1000000000), rd_iA2 i],
      .to .normal (stG (fR s [(10, iX n), (11, iW (i + 1))]) (hL [(0, .cells zLay.cs), (1, .cells (rdC s (rdVf s (rdVf s a f).2.1 (rdVf s a f).2.2).2.1 (rdVf s (rdVf s a f).2.1 (rdVf s a f).2.2).2.2)), (2, .cells (y.rc.set 27 (.slc (some (3, 0)) 1 1 2))), (3, .cells [iX (rdVf s a f).1, iX (rdVf s (rdVf s a f).2.1 (rdVf s a f).2.2).1])]) 4)),
    ([((decide (Int.ofNat i < n)), true), ((!f), false)],
      [],
      .to (.exit 2) (sRd y s a f [(10, iX n), (11, iW i)])),
    ([((decide (Int.ofNat i < n)), false), (false, true)],
      [((0 : Int) ≤ Int.ofNat a ∧ a ≤ s.length), (s.length ≤ 1000000000), rd_iA1 s a f, (s.length ≤ 1000000000), rd_iA2 i],
      .to .normal (stG (fR s [(10, iX n), (11, iW (i + 1))]) (hL [(0, .cells zLay.cs), (1, .cells (rdC s (rdVf s (rdVf s a f).2.1 (rdVf s a f).2.2).2.1 (rdVf s (rdVf s a f).2.1 (rdVf s a f).2.2).2.2)), (2, .cells (y.rc.set 27 (.slc (some (3, 0)) 1 1 2))), (3, .cells [iX (rdVf s a f).1, iX (rdVf s (rdVf s a f).2.1 (rdVf s a f).2.2).1])]) 4)),
    ([((decide (Int.ofNat i < n)), false), (false, false)],
      [],
      .to (.exit 2) (sRd y s a f [(10, iX n), (11, iW i)]))]
  := RunIs.of (by kernel_rfl) (by kernel_rfl) (by kernel_rfl)
abbrev rd_jA1 (s : List UInt8) (a : Nat) (f : Bool) : Prop := (0 : Int) ≤ Int.ofNat (rdVf s a f).snd.fst ∧ (Int.ofNat (rdVf s a f).snd.fst).toNat ≤ s.length
abbrev rd_jA2 (i : Nat) : Prop := V.int IntKind.i64 (IntKind.i64.wrap (Int.ofNat i + (1 : Int))) = iW (i + 1)
theorem rd_j (y : Lay) (s : List UInt8) (a : Nat) (f : Bool) (n : Int) (i : Nat) (l : List (Int × Int)) : ∃ L, RunIs Tryz.prog (csH W19 []) [(103, .split), (107, .split), (109, .give (iW (i + 1)))] 1000 0 Tryz.f31 [0, 2, 4, 5, 10, 11] (inner (inner (seqR (seqL tlR7)))) (sRq y s a f n i l.length (ptD l)) L
    [([((decide (Int.ofNat i < n)), true), ((!f), true)],
      [((0 : Int) ≤ Int.ofNat a ∧ a ≤ s.length), (s.length ≤ 1000000000), rd_jA1 s a f, (s.length ≤ 1000000000), (0 + l.length * 2 ≤ (ptD l).length), (0 < 1), (roomy (l.length + 1) 2 16 = true), rd_jA2 i],
      .to .normal (sRq y s (rdVf s (rdVf s a f).2.1 (rdVf s a f).2.2).2.1 (rdVf s (rdVf s a f).2.1 (rdVf s a f).2.2).2.2 n (i + 1) (l.length + 1) (List.take (l.length * 2) (List.drop 0 (ptD l)) ++ [.int .i64 (rdVf s a f).1, .int .i64 (rdVf s (rdVf s a f).2.1 (rdVf s a f).2.2).1]))),
    ([((decide (Int.ofNat i < n)), true), ((!f), false)],
      [],
      .to (.exit 2) (sRq y s a f n i l.length (ptD l))),
    ([((decide (Int.ofNat i < n)), false), (false, true)],
      [((0 : Int) ≤ Int.ofNat a ∧ a ≤ s.length), (s.length ≤ 1000000000), rd_jA1 s a f, (s.length ≤ 1000000000), (0 + l.length * 2 ≤ (ptD l).length), (0 < 1), (roomy (l.length + 1) 2 16 = true), rd_jA2 i],
      .to .normal (sRq y s (rdVf s (rdVf s a f).2.1 (rdVf s a f).2.2).2.1 (rdVf s (rdVf s a f).2.1 (rdVf s a f).2.2).2.2 n (i + 1) (l.length + 1) (List.take (l.length * 2) (List.drop 0 (ptD l)) ++ [.int .i64 (rdVf s a f).1, .int .i64 (rdVf s (rdVf s a f).2.1 (rdVf s a f).2.2).1]))),
    ([((decide (Int.ofNat i < n)), false), (false, false)],
      [],
      .to (.exit 2) (sRq y s a f n i l.length (ptD l)))]
  := RunIs.of (by kernel_rfl) (by kernel_rfl) (by kernel_rfl)
theorem rd_k (y : Lay) (s b : List UInt8) (a m : Nat) (f : Bool) (n : Int) (i : Nat) : ∃ L, RunIs Tryz.prog (csH (pinN 29 [y.v] (.str b) W19) []) [(122, .split), (127, .split)] 1000 0 Tryz.f31 [] (seqR tlR7) (stG (fR s [(10, iX n), (11, iW i)]) (hL [(0, .cells zLay.cs), (1, .cells (rdC s a f)), (2, .cells y.cs)]) m) L
    [([(f, true), (true, true)],
      [],
      .ret (.tup [.agg (z31 0 0 []), iX 11]) (hL []) 0),
    ([(f, true), (true, false)],
      [],
      .ret (.tup [y.v, iX 0]) (hL []) 0),
    ([(f, false), ((!beqB b s), true)],
      [(pinA [y.v])],
      .ret (.tup [.agg (z31 0 0 []), iX 11]) (hL []) 0),
    ([(f, false), ((!beqB b s), false)],
      [(pinA [y.v])],
      .ret (.tup [y.v, iX 0]) (hL []) 0)]
  := RunIs.of (by kernel_rfl) (by kernel_rfl) (by kernel_rfl)
end Go.Proofs.YtmjggdmekboefaaGreat
namespace Go.Proofs.YtmjggdmekboefaaGreat
open Go Go.Eng
def GoodR (s : List UInt8) (v : V) : Prop := (∃ l, okL l ∧ headF l = s ∧ v = .tup [l.v, iX 0]) ∨ v = .tup [zLay.v, iX 11]
def TR (s : List UInt8) (c : Code) (S : St) : Prop := ∃ v, GoodR s v ∧ TG Tryz.prog 0 Tryz.f31.ntmps c S (RetG Tryz.prog 0 Tryz.f31 (FzN v))
section
variable {W : CtrW} {hh : List (Nat × List (Nat × Fix))} {H : List (Nat × Fix)} {live : List Nat} {A : List Prop} {S s1 : St} {c : Code} {s : List UInt8}
theorem TR.st (k : Nat) (X : CtrWOk Tryz.prog W) (hr : RunE (csH W hh) H 0 Tryz.f31 live (headN k c) S [([], A, .to .normal s1)]) (hA : ∀ a ∈ A, a) (h : TR s (tailN k c) s1) (hc : codeOk Tryz.f31.ntmps c = true := by kernel_rfl) : TR s c S :=
  h.elim fun v h => ⟨v, h.1, isE1 k X hr hA h.2 hc⟩
theorem TR.goes {S1 : St} (h : Goes Tryz.prog 0 Tryz.f31.ntmps S S1) (t : TR s c S1) : TR s c S := t.elim fun v t => ⟨v, t.1, h _ _ t.2⟩
theorem TR.code {d : Code} (e : c = d) (t : TR s d S) : TR s c S := e ▸ t
end
def fzG (n0 : Nat) (ms live : List Nat) (s : St) : Option (List Prop × St) := match fzS ms s with
  | some (A, s1) => match normG n0 live s1 with
    | some S => some (A, S)
    | none => none
  | none => none
theorem Goes.fzG {P : Program} {n0 N : Nat} {s S : St} (ms live : List Nat) {A : List Prop} (e : fzG n0 ms live s = some (A, S)) (hA : ∀ x ∈ A, x) : Goes P n0 N s S := by
  unfold YtmjggdmekboefaaGreat.fzG at e
  split at e
  case h_2 => cases e
  rename_i A1 s1 h1
  split at e
  case h_2 => cases e
  rename_i S1 h2
  simp only [Option.some.injEq, Prod.mk.injEq] at e
  obtain ⟨rfl, rfl⟩ := e
  exact (Goes.frz ms h1 hA).trans (.norm h2)
theorem beqE {a b : List UInt8} (h : beqB a b = true) : a = b := by rw [beqB_eq] at h; exact beq_iff_eq.1 h
theorem beqN {a b : List UInt8} (h : beqB a b = false) : a ≠ b := by rw [beqB_eq] at h; exact beq_eq_false_iff_ne.1 h
abbrev hEnd (y : Lay) (s : List UInt8) (a : Nat) (f : Bool) : Tr O := hL [(0, .cells zLay.cs), (1, .cells (rdC s a f)), (2, .cells y.cs)]
theorem rd_end (y : Lay) (s : List UInt8) (a : Nat) (f : Bool) (n : Int) (i : Nat) (hy : okL y) : ∃ v, GoodR s v ∧ ∀ m, TG Tryz.prog 0 Tryz.f31.ntmps (seqR tlR7) (stG (fR s [(10, iX n), (11, iW i)]) (hEnd y s a f) m) (RetG Tryz.prog 0 Tryz.f31 (FzN v)) := by
  have X := pinK (headD y hy) W19_ok
  have hr := fun m => rd_k y s (headF y) a m f n i
  by_cases h : f = false ∧ headF y = s
  · refine ⟨.tup [y.v, iX 0], .inl ⟨y, hy, h.2, rfl⟩, fun m => retE X (hr m) (gcons (g2 fun h1 _ => ?_) (gcons (g2 fun h1 h2 => Bool.noConfusion h2) (gcons (g2 fun h1 h2 => ?_) (gone (g2 fun h1 h2 => ⟨fm1 rfl, _, _, _, rfl, FzN.self (by kernel_rfl) (by kernel_rfl)⟩)))))⟩
    · rw [h.1] at h1; cases h1
    · exact absurd h.2 (beqN (by simpa using h2))
  · refine ⟨.tup [zLay.v, iX 11], .inr rfl, fun m => retE X (hr m) (gcons (g2 fun h1 _ => ⟨all_nil, _, _, _, rfl, FzN.self (by kernel_rfl) (by kernel_rfl)⟩) (gcons (g2 fun h1 h2 => Bool.noConfusion h2) (gcons (g2 fun h1 h2 => ⟨fm1 rfl, _, _, _, rfl, FzN.self (by kernel_rfl) (by kernel_rfl)⟩) (gone (g2 fun h1 h2 => ?_)))))⟩
    exact absurd ⟨h1, beqE (by simpa using h2)⟩ h
theorem msr_le {s : List UInt8} {a : Nat} {f : Bool} (h : a ≤ s.length) : msr s (rdVf s a f).2.1 (rdVf s a f).2.2 ≤ msr s a f := by
  cases f with
  | false => exact Nat.le_of_lt (msr_lt h)
  | true => exact Nat.le_refl _
def ppF (s : List UInt8) : Nat → Int → Nat → Bool → List (Int × Int) × Nat × Bool
  | 0, _, a, f => ([], a, f)
  | k + 1, m, a, f => if 0 < m ∧ f = false then
      (((rdVf s a f).1, (rdVf s (rdVf s a f).2.1 (rdVf s a f).2.2).1) :: (ppF s k (m - 1) (rdVf s (rdVf s a f).2.1 (rdVf s a f).2.2).2.1 (rdVf s (rdVf s a f).2.1 (rdVf s a f).2.2).2.2).1, (ppF s k (m - 1) (rdVf s (rdVf s a f).2.1 (rdVf s a f).2.2).2.1 (rdVf s (rdVf s a f).2.1 (rdVf s a f).2.2).2.2).2)
    else ([], a, f)
theorem ppF_at (s : List UInt8) : ∀ k m a f, a ≤ s.length → (ppF s k m a f).2.1 ≤ s.length ∧ (ppF s k m a f).1.length ≤ k
  | 0, _, _, _, h => ⟨h, Nat.le_refl _⟩
  | k + 1, m, a, f, h => by
    unfold ppF
    split
    · have := ppF_at s k (m - 1) _ (rdVf s (rdVf s a f).2.1 (rdVf s a f).2.2).2.2 (rdVf_at s _ (rdVf s a f).2.2 (rdVf_at s a f h))
      exact ⟨this.1, by simp only [List.length_cons]; omega⟩
    · exact ⟨h, by simp⟩
def sP (y : Lay) (s : List UInt8) (n : Int) (x : Nat × List (Int × Int) × Nat × Bool) : St := match x.2.1 with
  | [] => sRd y s x.2.2.1 x.2.2.2 [(10, iX n), (11, iW 0)]
  | l => sRq y s x.2.2.1 x.2.2.2 n l.length l.length (ptD l)
theorem roomy_ok16 {k : Nat} (h : k ≤ 1000000000) : roomy k 2 16 = true := by
  unfold roomy
  exact decide_eq_true ⟨by omega, by omega⟩
theorem ptD_app (l : List (Int × Int)) (p q : Int) : List.take (l.length * 2) (List.drop 0 (ptD l)) ++ [D.int .i64 p, D.int .i64 q] = ptD (l ++ [(p, q)]) := by
  rw [List.drop_zero, List.take_of_length_le (by rw [ptD_len]; exact Nat.le_refl _)]
  unfold ptD
  simp
theorem rd_pts (y : Lay) (s : List UInt8) (b : Nat) (g : Bool) (n : Int) (h1 : b ≤ s.length) (hs : s.length ≤ 1500000) (hy : okL y) : TR s tlR7 (sRd y s b g [(10, iX n)]) := by
  have h9 : s.length ≤ 1000000000 := by omega
  have hl := ppF_at s (s.length + 2) n b g h1
  generalize hT : ppF s (s.length + 2) n b g = T at hl
  obtain ⟨l0, a0, f0⟩ := T
  simp only at hl
  obtain ⟨v, gv, hend⟩ := rd_end { y with pth := l0 } s a0 f0 n l0.length ⟨hy.nm, hy.kids, hy.ker, hy.cu, by show l0.length ≤ _; omega⟩
  refine ⟨v, gv, ?_⟩
  have fin0 : l0 = [] → TG Tryz.prog 0 Tryz.f31.ntmps (seqR tlR7) (sRd y s a0 f0 [(10, iX n), (11, iW 0)]) (RetG Tryz.prog 0 Tryz.f31 (FzN v)) := fun e => by
    subst e
    refine Goes.step (Step.nlAt 2 [27] ?_) _ _ (hend 3)
    kernel_rfl
  have fin1 : l0 ≠ [] → TG Tryz.prog 0 Tryz.f31.ntmps (seqR tlR7) (sRq y s a0 f0 n l0.length l0.length (ptD l0)) (RetG Tryz.prog 0 Tryz.f31 (FzN v)) := fun _ => by
    refine Goes.fzG [3] [0, 2, 4, 5, 10, 11] (A := [(ptD l0).length = l0.length * 2]) ?_ (fm1 (ptD_len _)) _ _ (hend 3)
    kernel_rfl
  refine loopF (α := Nat × List (Int × Int) × Nat × Bool) W19_ok 2 _ [0, 2, 4, 5, 10, 11] (·.1) (fun x => x.2.2.1 ≤ s.length ∧ msr s x.2.2.1 x.2.2.2 < x.1 ∧ x.2.1.length + x.1 ≤ s.length + 2 ∧ (x.2.1 ++ (ppF s x.1 (n - x.2.1.length) x.2.2.1 x.2.2.2).1, (ppF s x.1 (n - x.2.1.length) x.2.2.1 x.2.2.2).2) = (l0, a0, f0)) (sP y s n) (s.length + 2, [], b, g)
    ⟨h1, by unfold msr; simp only; split <;> omega, by simp, by simp only [List.nil_append, List.length_nil, Int.natCast_zero, Int.sub_zero]; rw [hT]⟩ (rd_h y s b g n) all_nil .refl ?_
  rintro ⟨k, l, c, q⟩ ⟨i1, i2, i3, i4⟩
  simp only at i1 i2 i3 i4
  obtain ⟨j, rfl⟩ : ∃ j, k = j + 1 := ⟨k - 1, by omega⟩
  unfold ppF at i4
  have hgo : Int.ofNat l.length < n → q = false → ∀ S, S = sP y s n (j, l ++ [((rdVf s c q).1, (rdVf s (rdVf s c q).2.1 (rdVf s c q).2.2).1)], (rdVf s (rdVf s c q).2.1 (rdVf s c q).2.2).2.1, (rdVf s (rdVf s c q).2.1 (rdVf s c q).2.2).2.2) → ∀ s', Goes Tryz.prog 0 Tryz.f31.ntmps s' S → ∃ x' : Nat × List (Int × Int) × Nat × Bool, x'.1 < j + 1 ∧ (x'.2.2.1 ≤ s.length ∧ msr s x'.2.2.1 x'.2.2.2 < x'.1 ∧ x'.2.1.length + x'.1 ≤ s.length + 2 ∧ (x'.2.1 ++ (ppF s x'.1 (n - x'.2.1.length) x'.2.2.1 x'.2.2.2).1, (ppF s x'.1 (n - x'.2.1.length) x'.2.2.1 x'.2.2.2).2) = (l0, a0, f0)) ∧ Goes Tryz.prog 0 Tryz.f31.ntmps s' (sP y s n x') := by
    rintro hlt rfl S rfl s' hS
    have k1 := rdVf_at s c false i1
    refine ⟨(j, l ++ [((rdVf s c false).1, (rdVf s (rdVf s c false).2.1 (rdVf s c false).2.2).1)], (rdVf s (rdVf s c false).2.1 (rdVf s c false).2.2).2.1, (rdVf s (rdVf s c false).2.1 (rdVf s c false).2.2).2.2), Nat.lt_succ_self j, ⟨rdVf_at s _ _ k1, ?_, by simp only [List.length_append, List.length_cons, List.length_nil]; omega, ?_⟩, hS⟩
    · have := msr_lt i1
      have := msr_le (f := (rdVf s c false).2.2) k1
      simp only; omega
    · rw [if_pos ⟨by rw [hOn] at hlt; omega, rfl⟩] at i4
      rw [← i4]
      have e : n - ((l ++ [((rdVf s c false).1, (rdVf s (rdVf s c false).2.1 (rdVf s c false).2.2).1)]).length : Nat) = n - l.length - 1 := by simp only [List.length_append, List.length_cons, List.length_nil]; omega
      simp only [e, List.append_assoc, List.singleton_append]
  have hend : ¬ (Int.ofNat l.length < n ∧ q = false) → l = l0 ∧ c = a0 ∧ q = f0 := fun h => by
    rw [if_neg (fun x => h ⟨by have := x.1; rw [hOn]; omega, x.2⟩)] at i4
    simp only [List.append_nil, Prod.mk.injEq] at i4
    exact i4
  have B1 : (0 : Int) ≤ Int.ofNat c ∧ c ≤ s.length := ⟨Int.natCast_nonneg _, i1⟩
  have B2 : (0 : Int) ≤ Int.ofNat (rdVf s c q).snd.fst ∧ (Int.ofNat (rdVf s c q).snd.fst).toNat ≤ s.length := ⟨Int.natCast_nonneg _, rdVf_at s c q i1⟩
  cases l with
  | nil =>
    refine ⟨_, W19_ok, [], _, _, rd_i y s c q n 0, gcons (g2 fun h h2 => ?_) (gcons (g2 fun h h2 => ⟨all_nil, rfl, ?_⟩) (gcons (g2 fun h h2 => Bool.noConfusion h2) (gone (g2 fun h h2 => ⟨all_nil, rfl, ?_⟩))))⟩
    · refine ⟨fm B1 (fm h9 (fm B2 (fm h9 (fm1 rfl)))), hgo (of_decide_eq_true h) (by simpa using h2) _ rfl _ ?_⟩
      exact .deep [3] (by kernel_rfl)
    · obtain ⟨e1, rfl, rfl⟩ := hend (fun x => by rw [x.2] at h2; cases h2)
      exact fin0 e1.symm
    · obtain ⟨e1, rfl, rfl⟩ := hend (fun x => of_decide_eq_false h x.1)
      exact fin0 e1.symm
  | cons x r =>
    have h4 := rd_j y s c q n (x :: r).length (x :: r)
    rw [ptD_app] at h4
    have hfin : ¬ (Int.ofNat (x :: r).length < n ∧ q = false) → TG Tryz.prog 0 Tryz.f31.ntmps (seqR tlR7) (sRq y s c q n (x :: r).length (x :: r).length (ptD (x :: r))) (RetG Tryz.prog 0 Tryz.f31 (FzN v)) := fun h => by
      obtain ⟨rfl, rfl, rfl⟩ := hend h
      exact fin1 (by simp)
    refine ⟨_, W19_ok, [], _, _, h4, gcons (g2 fun h h2 => ?_) (gcons (g2 fun h h2 => ⟨all_nil, rfl, ?_⟩) (gcons (g2 fun h h2 => Bool.noConfusion h2) (gone (g2 fun h h2 => ⟨all_nil, rfl, ?_⟩))))⟩
    · refine ⟨fm B1 (fm h9 (fm B2 (fm h9 (fm (by rw [ptD_len]; omega) (fm (by decide) (fm (roomy_ok16 (by omega)) (fm1 (vsuc (by omega))))))))), hgo (of_decide_eq_true h) (by simpa using h2) _ ?_ _ .refl⟩
      have e1 : (x :: r ++ [((rdVf s c q).1, (rdVf s (rdVf s c q).2.1 (rdVf s c q).2.2).1)]).length = (x :: r).length + 1 := by rw [List.length_append]; rfl
      show _ = sRq y s _ _ n (x :: r ++ [((rdVf s c q).1, (rdVf s (rdVf s c q).2.1 (rdVf s c q).2.2).1)]).length (x :: r ++ [((rdVf s c q).1, (rdVf s (rdVf s c q).2.1 (rdVf s c q).2.2).1)]).length _
      rw [e1]
    · exact hfin fun x => by rw [x.2] at h2; cases h2
    · exact hfin fun x => of_decide_eq_false h x.1
end Go.Proofs.YtmjggdmekboefaaGreat
namespace Go.Proofs.YtmjggdmekboefaaGreat
open Go Go.Eng
theorem tailN_seqC (a b : Nat) (c : Code) : tailN a (tailN b c) = tailN (b + a) c := tailN_seq b a c
section
variable {s : List UInt8} (hs : s.length ≤ 1500000)
include hs
theorem h9' : s.length ≤ 1000000000 := by omega
theorem B0 {a : Nat} (ha : a ≤ s.length) : (0 : Int) ≤ Int.ofNat a ∧ a ≤ s.length := ⟨Int.natCast_nonneg _, ha⟩
theorem rd_G (y : Lay) (a : Nat) (f : Bool) (ha : a ≤ s.length) (hy : okL y) : TR s (tailN 15 cdRd) (sRd y s a f []) := by
  refine TR.st 1 W19_ok (rd_g y s a f) (fm (B0 hs ha) (fm1 (h9' hs))) ?_
  rw [tailN_seqC]
  exact rd_pts y s _ _ _ (rdVf_at s a f ha) hs hy
theorem rdT4 (a : Nat) (f : Bool) (h : (rdT s a f 4).1 ≠ []) : (rdT s a f 4).1.length = 4 := by
  unfold rdT at h ⊢
  split
  · rename_i q; rw [if_pos q] at h; exact absurd rfl h
  · rename_i q
    simp only [List.length_take, List.length_drop]
    have : ¬ ((s.length - a : Nat) : Int) < 4 := fun x => q (.inr (.inr x))
    show min 4 _ = 4
    omega
theorem rd_F (y : Lay) (a : Nat) (f : Bool) (ha : a ≤ s.length) (hy : okL y) : TR s (tailN 14 cdRd) (sRd y s a f []) := by
  have hr := rd_f y s a f
  have ht := rdT_at s a f 4 ha
  by_cases e : (rdT s a f 4).1 = []
  · obtain ⟨v, gv, hT⟩ := rd_G hs y _ (rdT s a f 4).2.2 ht hy
    refine ⟨v, gv, isEN 1 W19_ok hr (gcons (g1 fun h => ?_) (gone (g1 fun h => ⟨fm (B0 hs ha) (fm1 (h9' hs)), _, rfl, ?_⟩)))⟩
    · exact absurd e (beqN (by simpa using h))
    · rw [tailN_seqC]; exact hT
  · have e4 := rdT4 hs a f e
    obtain ⟨v, gv, hT⟩ := rd_G hs { y with fi := fi4 (rdT s a f 4).1 } _ (rdT s a f 4).2.2 ht ⟨hy.nm, hy.kids, hy.ker, hy.cu, hy.pth⟩
    refine ⟨v, gv, isEN 1 W19_ok hr (gcons (g1 fun h => ⟨?_, _, rfl, ?_⟩) (gone (g1 fun h => ?_)))⟩
    · refine fm (B0 hs ha) (fm (h9' hs) (fm ⟨by decide, ?_⟩ (fm ⟨by decide, ?_⟩ (fm ⟨by decide, ?_⟩ (fm1 ⟨by decide, ?_⟩)))))
      all_goals exact Nat.lt_of_lt_of_eq (by decide) e4.symm
    · rw [tailN_seqC]; exact hT
    · exact absurd (beqE (by simpa using h)) e
theorem rd_L (k ix : Nat) (y : Lay) (a : Nat) (f : Bool) (ha : a ≤ s.length)
    (rn : ∀ b g, RunE (csH (pinW 76 [rP] (hR y s a f) 3 nilS (hR y s b g) 3 W19) []) [] 0 Tryz.f31 [0, 2, 4, 5] (headN 1 (tailN k cdRd)) (sRd y s a f []) [([], [[rP] = [rP] ∧ hR y s a f = hR y s a f ∧ 3 = 3], .to .normal (stG (fR s []) (mR s b g (y.rc.set ix nilS)) 3))])
    (ro : ∀ b g (l : List Int), RunE (csH (pinW 76 [rP] (hR y s a f) 3 (.slc (some (3, 0)) l.length l.length 1) (hRo y s b g l) 4 W19) []) [] 0 Tryz.f31 [0, 2, 4, 5] (headN 1 (tailN k cdRd)) (sRd y s a f []) [([], [[rP] = [rP] ∧ hR y s a f = hR y s a f ∧ 3 = 3], .to .normal (stG (fR s []) (mRo s b g (y.rc.set ix (.slc (some (3, 0)) l.length l.length 1)) l) 4))])
    (y2 : List Int → Lay) (hn : ∀ b g, nlAt 2 [ix] (stG (fR s []) (mR s b g (y.rc.set ix nilS)) 3) = some (sRd (y2 []) s b g []))
    (ho : ∀ b g l, fzG 0 [3] [0, 2, 4, 5] (stG (fR s []) (mRo s b g (y.rc.set ix (.slc (some (3, 0)) l.length l.length 1)) l) 4) = some ([(isD l).length = l.length * 1], sRd (y2 l) s b g []))
    (nx : ∀ b g l, b ≤ s.length → l.length ≤ s.length + 2 → TR s (tailN (k + 1) cdRd) (sRd (y2 l) s b g [])) (hc : codeOk Tryz.f31.ntmps (tailN k cdRd) = true := by kernel_rfl) : TR s (tailN k cdRd) (sRd y s a f []) := by
  have hl := rdLi_at (f := f) ha
  have t := nx (rdLi s a f).2.1 (rdLi s a f).2.2 (rdLi s a f).1 hl.1 hl.2
  have hlt : 76 < Tryz.prog.funcs.size := Nat.le_of_ble_eq_true (by kernel_rfl)
  by_cases e : (rdLi s a f).1 = []
  · refine TR.st 1 (pinW_ok hlt (liIs0 y s a f ha (by omega) e) W19_ok) (rn _ _) (fm1 ⟨rfl, rfl, rfl⟩) ?_ hc
    rw [tailN_seqC]
    rw [e] at t
    exact TR.goes (.step (.nlAt 2 [ix] (hn _ _))) t
  · refine TR.st 1 (pinW_ok hlt (liIs1 y s a f ha (by omega) e) W19_ok) (ro _ _ _) (fm1 ⟨rfl, rfl, rfl⟩) ?_ hc
    rw [tailN_seqC]
    exact TR.goes (Goes.fzG [3] [0, 2, 4, 5] (ho _ _ _) (fm1 (isD_len _))) t
theorem rd_E (y : Lay) (a : Nat) (f : Bool) (ha : a ≤ s.length) (hy : okL y) : TR s (tailN 13 cdRd) (sRd y s a f []) :=
  rd_L hs 13 22 y a f ha (fun b g => rd_en y s a f b g) (fun b g l => rd_eo y s a f b g l) (fun l => { y with f := { y.f with cu := l } }) (fun _ _ => by kernel_rfl) (fun _ _ _ => by kernel_rfl)
    fun b g l hb hl => rd_F hs _ b g hb ⟨hy.nm, hy.kids, hy.ker, by show l.length ≤ _; omega, hy.pth⟩
theorem rd_D (y : Lay) (a : Nat) (f : Bool) (ha : a ≤ s.length) (hy : okL y) : TR s (tailN 12 cdRd) (sRd y s a f []) := by
  have h1 := rdVf_at s a f ha
  refine TR.st 1 W19_ok (rd_d y s a f) (fm (B0 hs ha) (fm (h9' hs) (fm (B0 hs h1) (fm1 (h9' hs))))) ?_
  rw [tailN_seqC]
  exact rd_E hs _ _ _ (rdVf_at s _ _ h1) ⟨hy.nm, hy.kids, hy.ker, hy.cu, hy.pth⟩
theorem rd_C (y : Lay) (a : Nat) (f : Bool) (ha : a ≤ s.length) (hy : okL y) : TR s (tailN 11 cdRd) (sRd y s a f []) :=
  rd_L hs 11 19 y a f ha (fun b g => rd_cn y s a f b g) (fun b g l => rd_co y s a f b g l) (fun l => { y with f := { y.f with ker := l } }) (fun _ _ => by kernel_rfl) (fun _ _ _ => by kernel_rfl)
    fun b g l hb hl => rd_D hs _ b g hb ⟨hy.nm, hy.kids, by show l.length ≤ _; omega, hy.cu, hy.pth⟩
theorem rd_B (y : Lay) (a : Nat) (f : Bool) (ha : a ≤ s.length) (hy : okL y) : TR s (tailN 10 cdRd) (sRd y s a f []) := by
  have h1 := rdVf_at s a f ha
  refine TR.st 1 W19_ok (rd_b y s a f) (fm (B0 hs ha) (fm (h9' hs) (fm (B0 hs h1) (fm1 (h9' hs))))) ?_
  rw [tailN_seqC]
  exact rd_C hs _ _ _ (rdVf_at s _ _ h1) ⟨hy.nm, hy.kids, hy.ker, hy.cu, hy.pth⟩
theorem rd_A (y : Lay) (a : Nat) (f : Bool) (ha : a ≤ s.length) (hy : okL y) : TR s (tailN 9 cdRd) (sRd y s a f []) := by
  refine TR.st 1 W19_ok (rd_a y s a f) (fm (B0 hs ha) (fm1 (h9' hs))) ?_
  rw [tailN_seqC]
  exact rd_B hs _ _ _ (rdVf_at s a f ha) ⟨hy.nm, hy.kids, hy.ker, hy.cu, hy.pth⟩
theorem rd_9 (y : Lay) (a : Nat) (f : Bool) (ha : a ≤ s.length) (hy : okL y) : TR s (tailN 8 cdRd) (sRd y s a f []) :=
  rd_L hs 8 15 y a f ha (fun b g => rd_9n y s a f b g) (fun b g l => rd_9o y s a f b g l) (fun l => { y with kids := l }) (fun _ _ => by kernel_rfl) (fun _ _ _ => by kernel_rfl)
    fun b g l hb hl => rd_A hs _ b g hb ⟨hy.nm, by show l.length ≤ _; omega, hy.ker, hy.cu, hy.pth⟩
theorem rd_8' (y : Lay) (a : Nat) (f : Bool) (ha : a ≤ s.length) (hy : okL y) : TR s (tailN 7 cdRd) (sRd y s a f [(42, plP), (43, iW 7)]) := by
  refine TR.st 1 W19_ok (rd_8 y s a f) (fm (B0 hs ha) (fm1 (h9' hs))) ?_
  rw [tailN_seqC]
  exact rd_9 hs _ _ _ (rdVf_at s a f ha) ⟨hy.nm, hy.kids, hy.ker, hy.cu, hy.pth⟩
def plT (s : List UInt8) (p : P7) (a : Nat) (f : Bool) : Nat → P7 × Nat × Bool
  | 0 => (p, a, f)
  | i + 1 => (updP i (plT s p a f i).1 (rdVf s (plT s p a f i).2.1 (plT s p a f i).2.2).1, (rdVf s (plT s p a f i).2.1 (plT s p a f i).2.2).2)
omit hs in
theorem plT_at (p : P7) (a : Nat) (f : Bool) (ha : a ≤ s.length) : ∀ i, (plT s p a f i).2.1 ≤ s.length
  | 0 => ha
  | i + 1 => rdVf_at s _ _ (plT_at p a f ha i)
theorem e7 : seqR tlR6 = tailN 7 cdRd := by kernel_rfl
theorem rd_6' (y : Lay) (a : Nat) (f : Bool) (ha : a ≤ s.length) (hy : okL y) : TR s (tailN 6 cdRd) (sRd y s a f []) := by
  have at' := plT_at y.pl a f ha
  obtain ⟨v, gv, hT⟩ := rd_8' hs { y with pl := (plT s y.pl a f 7).1 } _ (plT s y.pl a f 7).2.2 (at' 7) ⟨hy.nm, hy.kids, hy.ker, hy.cu, hy.pth⟩
  rw [← e7 hs] at hT
  refine ⟨v, gv, loopF (α := Nat) W19_ok 0 _ [0, 2, 4, 5, 42, 43] (7 - ·) (· ≤ 7) (fun i => sRd { y with pl := (plT s y.pl a f i).1 } s (plT s y.pl a f i).2.1 (plT s y.pl a f i).2.2 [(42, plP), (43, iW i)]) 0 (Nat.zero_le _) (rd_6 y s a f) all_nil .refl fun i hi => ?_⟩
  have A : ∀ i, ∀ q : V, ∀ p ∈ [((0 : Int) ≤ Int.ofNat (plT s y.pl a f i).2.1 ∧ (plT s y.pl a f i).2.1 ≤ s.length), (s.length ≤ 1000000000), q = q], p := fun i q => fm (B0 hs (at' i)) (fm (h9' hs) (fm1 rfl))
  rcases (by omega : i = 0 ∨ i = 1 ∨ i = 2 ∨ i = 3 ∨ i = 4 ∨ i = 5 ∨ i = 6 ∨ i = 7) with rfl | rfl | rfl | rfl | rfl | rfl | rfl | rfl
  · exact ⟨_, W19_ok, [], _, _, rd_70 { y with pl := (plT s y.pl a f 0).1 } s _ (plT s y.pl a f 0).2.2, gone (g0 ⟨A 0 _, 1, by decide, by decide, .refl⟩)⟩
  · exact ⟨_, W19_ok, [], _, _, rd_71 { y with pl := (plT s y.pl a f 1).1 } s _ (plT s y.pl a f 1).2.2, gone (g0 ⟨A 1 _, 2, by decide, by decide, .refl⟩)⟩
  · exact ⟨_, W19_ok, [], _, _, rd_72 { y with pl := (plT s y.pl a f 2).1 } s _ (plT s y.pl a f 2).2.2, gone (g0 ⟨A 2 _, 3, by decide, by decide, .refl⟩)⟩
  · exact ⟨_, W19_ok, [], _, _, rd_73 { y with pl := (plT s y.pl a f 3).1 } s _ (plT s y.pl a f 3).2.2, gone (g0 ⟨A 3 _, 4, by decide, by decide, .refl⟩)⟩
  · exact ⟨_, W19_ok, [], _, _, rd_74 { y with pl := (plT s y.pl a f 4).1 } s _ (plT s y.pl a f 4).2.2, gone (g0 ⟨A 4 _, 5, by decide, by decide, .refl⟩)⟩
  · exact ⟨_, W19_ok, [], _, _, rd_75 { y with pl := (plT s y.pl a f 5).1 } s _ (plT s y.pl a f 5).2.2, gone (g0 ⟨A 5 _, 6, by decide, by decide, .refl⟩)⟩
  · exact ⟨_, W19_ok, [], _, _, rd_76 { y with pl := (plT s y.pl a f 6).1 } s _ (plT s y.pl a f 6).2.2, gone (g0 ⟨A 6 _, 7, by decide, by decide, .refl⟩)⟩
  · exact ⟨_, W19_ok, [], _, _, rd_77 { y with pl := (plT s y.pl a f 7).1 } s _ (plT s y.pl a f 7).2.2, gone (g0 ⟨all_nil, rfl, hT⟩)⟩
theorem rd_5' (y : Lay) (a : Nat) (f : Bool) (ha : a ≤ s.length) (hy : okL y) : TR s (tailN 5 cdRd) (sRd y s a f []) := by
  have h1 := rdVf_at s a f ha
  refine TR.st 1 W19_ok (rd_5 y s a f) (fm (B0 hs ha) (fm (h9' hs) (fm (B0 hs h1) (fm1 (h9' hs))))) ?_
  rw [tailN_seqC]
  exact rd_6' hs _ _ _ (rdVf_at s _ _ h1) ⟨hy.nm, hy.kids, hy.ker, hy.cu, hy.pth⟩
theorem rd_3' (y : Lay) (a : Nat) (f : Bool) (ha : a ≤ s.length) (hy : okL y) : TR s (tailN 3 cdRd) (sRd y s a f []) := by
  refine TR.st 1 W19_ok (rd_3 y s a f) (fm (B0 hs ha) (fm (h9' hs) (fm1 (by decide)))) ?_
  rw [tailN_seqC]
  refine TR.st 1 W19_ok (rd_4 y s _ _ _) all_nil ?_
  rw [tailN_seqC]
  exact rd_5' hs _ _ _ (rdN_at s a f 1 ha) ⟨hy.nm, hy.kids, hy.ker, hy.cu, hy.pth⟩
omit hs in
theorem rdTx_len (a : Nat) (f : Bool) : (rdTx s a f).1.length ≤ s.length := by
  show (rdT s _ _ _).1.length ≤ _
  unfold rdT
  split
  · exact Nat.zero_le _
  · simp only [List.length_take, List.length_drop]; omega
theorem readD : ∃ v, GoodR s v ∧ DeepTo Tryz.prog 31 [.str s] v := by
  have key : TR s cdRd (startSt [.str s] .nil 0) := by
    refine TR.st 2 W19_ok (rd_1 s) all_nil ?_
    refine TR.goes (S1 := stG [(0, .str s), (2, .ptr (some (0, 0))), (4, .ptr (some (1, 0)))] (hL [(0, .cells zLay.cs), (1, .cells (rdC s 0 false))]) 2) (.step (.nlAt 0 [15, 19, 22, 27, 28, 30] (by kernel_rfl))) ?_
    have h1 := rdVf_at s 0 false (Nat.zero_le _)
    have h2 := rdVf_at s _ (rdVf s 0 false).2.2 h1
    refine TR.st 1 W19_ok (rd_2 s 0 false) (fm (B0 hs (Nat.zero_le _)) (fm (h9' hs) (fm (B0 hs h1) (fm (h9' hs) (fm (B0 hs h2) (fm1 (h9' hs))))))) ?_
    rw [tailN_seqC]
    generalize (rdVf s 0 false).1 = id, (rdVf s (rdVf s 0 false).2.1 (rdVf s 0 false).2.2).1 = kd
    generalize (rdVf s (rdVf s 0 false).2.1 (rdVf s 0 false).2.2).2.1 = c, (rdVf s (rdVf s 0 false).2.1 (rdVf s 0 false).2.2).2.2 = g at h2 ⊢
    have hn := rdTx_len (s := s) c g
    have ha := rdTx_at s c g h2
    generalize rdTx s c g = T at hn ha ⊢
    obtain ⟨nm, c, g⟩ := T
    refine TR.goes (S1 := sRd { zLay with id := id, kd := kd, nm := nm } s c g []) (.step (.nlAt 2 [15, 19, 22, 28, 30] (by kernel_rfl))) ?_
    exact rd_3' hs _ _ _ ha ⟨by show nm.length ≤ _; simp only at hn; omega, Nat.zero_le _, Nat.zero_le _, Nat.zero_le _, Nat.zero_le _⟩
  obtain ⟨v, gv, hT⟩ := key
  exact ⟨v, gv, deepN Tryz.func31 hT⟩
end
end Go.Proofs.YtmjggdmekboefaaGreat
namespace Go.Proofs.YtmjggdmekboefaaGreat
open Go Go.Eng
noncomputable def retIs (cf : CallF) (x : FuncId × List V × V) : Bool :=
  match cf x.1 x.2.1 .nil gN with
  | some (.ret u, _, _) => V.beq u x.2.2
  | _ => false
noncomputable def specGood (cf : CallF) (x : FuncId × List V × V) : Bool := (Nat.blt x.1 Tryz.prog.funcs.size && V.frees x.2.1) && (x.2.2.free && retIs cf x)
theorem spec_of {cf : CallF} (hc : CallOk Tryz.prog cf) {x : FuncId × List V × V} (h : specGood cf x = true) : SpecOk Tryz.prog x := by
  simp only [specGood, Bool.and_eq_true, retIs] at h
  obtain ⟨⟨h0, h1⟩, h2, h3⟩ := h
  split at h3
  · rename_i u h' n' e
    rw [beq_eq _ _ h3] at e
    exact ⟨Nat.le_of_ble_eq_true h0, h1, h2, cf, h', n', hc, e⟩
  · cases h3
theorem san : SpecOk Tryz.prog (8, [], .bool true) := spec_of (call_sound' (F := 1000) mo po 60) (by kernel_rfl)
theorem zer : SpecOk Tryz.prog (27, [zLay.v, .agg (z31 0 0 [])], .bool true) := spec_of (call_sound' (F := 1000) mo po 60) (by kernel_rfl)
end Go.Proofs.YtmjggdmekboefaaGreat
namespace Go.Proofs.YtmjggdmekboefaaGreat
open Go Go.Eng
structure smL (l : Lay) : Prop where
  nm : l.nm.length ≤ 1000
  kids : l.kids.length ≤ 1000
  ker : l.f.ker.length ≤ 1000
  cu : l.f.cu.length ≤ 1000
  pth : l.pth.length ≤ 1000
theorem smL.ok {l : Lay} (h : smL l) : okL l := by
  obtain ⟨h1, h2, h3, h4, h5⟩ := h
  exact ⟨by omega, by omega, by omega, by omega, by omega⟩
theorem headF_sm (l : Lay) (h : smL l) : 0 < (headF l).length ∧ (headF l).length ≤ 100000 := by
  have a1 := varB_len l.id
  have a2 := numsB_len l.kids
  have a3 := bytesF_len l.f
  have a4 := ptsB_len l.pth
  have a5 := (varB_len l.kd).2
  have a6 := (varB_len (Int.ofNat l.nm.length)).2
  have a7 := (varB_len l.op).2
  have a8 := (varB_len l.md).2
  have a9 := (varB_len l.sp).2
  have b1 := (varB_len (Int.ofNat l.kids.length)).2
  have b2 := (varB_len l.of).2
  have b3 := (varB_len (Int.ofNat l.pth.length)).2
  have c1 := (varB_len l.pl.a).2
  have c2 := (varB_len l.pl.b).2
  have c3 := (varB_len l.pl.c).2
  have c4 := (varB_len l.pl.d).2
  have c5 := (varB_len l.pl.e).2
  have c6 := (varB_len l.pl.f).2
  have c7 := (varB_len l.pl.n).2
  have d1 := h.nm
  have d2 := h.kids
  have d3 := h.ker
  have d4 := h.cu
  have d5 := h.pth
  have p1 : (put1 (flg l.hid l.clip l.hm)).length = 1 := rfl
  have p2 : (fiB l.fi).length = 4 := rfl
  unfold headF textB plcB
  simp only [List.length_append]
  omega
theorem mdF_len (s : List Int) : (mdF s).length = s.length + 1 := by
  unfold mdF
  split <;> simp [cum_len]
theorem mk13_sm (s : List Int) (hs : s.length ≤ 12) : (mk13 s).ker.length ≤ 1000 ∧ (mk13 s).cu.length ≤ 1000 := by
  have h1 := f12_in s 1
  have ht := tm_in h1.1 (d := 3) (by decide)
  unfold mk13
  repeat' split
  all_goals first
    | exact ⟨Nat.zero_le _, Nat.zero_le _⟩
    | (refine ⟨?_, Nat.zero_le _⟩
       rw [kerF_len]
       have : ((f12 s 1).tmod 3).toNat ≤ 2 := by omega
       have := Nat.mul_le_mul (show 2 * ((f12 s 1).tmod 3).toNat + 1 ≤ 5 by omega) (show 2 * ((f12 s 1).tmod 3).toNat + 1 ≤ 5 by omega)
       omega)
    | (refine ⟨Nat.zero_le _, ?_⟩
       show (mdF (s.drop 1)).length ≤ 1000
       rw [mdF_len, List.length_drop]; omega)
theorem layF_sm (s : S8) : smL (layF s) := by
  refine ⟨?_, Nat.zero_le _, ?_, ?_, ?_⟩
  · show (nmF s.s1).length ≤ 1000
    unfold nmF
    rw [List.length_drop, List.length_take]
    simp only [List.length_cons, List.length_nil]; omega
  · show (if kdF s = 3 then mk13 (l12 s) else zFL).ker.length ≤ 1000
    split
    · exact (mk13_sm (l12 s) (Nat.le_refl 12)).1
    · exact Nat.zero_le _
  · show (if kdF s = 3 then mk13 (l12 s) else zFL).cu.length ≤ 1000
    split
    · exact (mk13_sm (l12 s) (Nat.le_refl 12)).2
    · exact Nat.zero_le _
  · show (if kdF s = 5 then ptF s.s6 s.s7 (cn5 s) else []).length ≤ 1000
    split
    · unfold ptF cn5
      rw [List.length_map, List.length_range]
      have : (BitVec.ofInt 64 s.s5 &&& BitVec.ofInt 64 (3 : Int)).toNat ≤ 3 := by
        rw [BitVec.toNat_and]; exact Nat.and_le_right
      omega
    · exact Nat.zero_le _
end Go.Proofs.YtmjggdmekboefaaGreat
namespace Go.Proofs.YtmjggdmekboefaaGreat
open Go Go.Eng
noncomputable abbrev cdLr : Code := bodyOf Tryz.f7
def mT : List (FuncId × List V × V) := [(8, [], .bool true), (27, [zLay.v, .agg (z31 0 0 [])], .bool true)]
theorem mT_ok : CtrWOk Tryz.prog (memoW mT) := memoW_ok fun x hx => by
  simp only [mT, List.mem_cons, List.not_mem_nil, or_false] at hx
  rcases hx with rfl | rfl
  · exact san
  · exact zer
abbrev q2 (q0 q1 : Int) : List V := [iX q0, iX q1]
abbrev fL (t : List UInt8) (r : List (Nat × V)) : List (Nat × V) := (0, .str t) :: (5, .ptr (some (0, 0))) :: (7, .bool true) :: r
def sLb (t h : List UInt8) (q0 q1 : Int) (r : List (Nat × V)) (ks : List Int) : St := stG (fL t ((8, .slc (some (1, 0)) h.length h.length 1) :: r)) (hL [(0, .cells (q2 q0 q1)), (1, .own .u8 ks)]) 2
def sLl (t t2 : List UInt8) (i : Int) : St := stG [(7, .bool true), (10, .ptr (some (0, 0))), (11, iX i)] (hL [(0, .cells [.str t, .str t2])]) 1
noncomputable abbrev tlLr : Code := tailN 7 cdLr
theorem lw_1 (t : List UInt8) (s : S8) (q0 q1 : Int) : ∃ L, RunIs Tryz.prog (csH (memoW mT) []) [] 1000 0 Tryz.f7 [0, 4, 5, 7] (headN 2 cdLr) (startSt [.str t, .agg s.cs, .agg (q2 q0 q1)] .nil 0) L
    [([],
      [],
      .to .normal (stG [(0, .str t), (4, .ptr (some (0, 0))), (5, .ptr (some (1, 0))), (7, .bool true)] (hL [(0, .cells s.cs), (1, .cells (q2 q0 q1))]) 2))]
  := RunIs.of (by kernel_rfl) (by kernel_rfl) (by kernel_rfl)
theorem lw_2 (t h : List UInt8) (s : S8) (q0 q1 : Int) (l : Lay) : ∃ L, RunIs Tryz.prog (csH (pinN 30 [.agg s.cs] l.v (pinN 29 [l.v] (.str h) noW)) []) [] 1000 0 Tryz.f7 [0, 5, 7, 8] (headN 1 (tailN 2 cdLr)) (stG [(0, .str t), (4, .ptr (some (0, 0))), (5, .ptr (some (1, 0))), (7, .bool true)] (hL [(0, .cells s.cs), (1, .cells (q2 q0 q1))]) 2) L
    [([],
      [(pinA [.agg s.cs]), (pinA [l.v])],
      .to .normal (sLb t h q0 q1 [] (bytesI h)))]
  := RunIs.of (by kernel_rfl) (by kernel_rfl) (by kernel_rfl)
theorem lw_3 (t h : List UInt8) (q0 q1 : Int) : ∃ L, RunIs Tryz.prog (csH noW []) [(21, .give (.bool false))] 1000 0 Tryz.f7 [0, 5, 7, 8] (headN 1 (tailN 3 cdLr)) (sLb t h q0 q1 [] (bytesI h)) L
    [([],
      [(V.bool ((Int.ofNat h.length) == (0 : Int)) = V.bool false)],
      .to .normal (sLb t h q0 q1 [] (bytesI h)))]
  := RunIs.of (by kernel_rfl) (by kernel_rfl) (by kernel_rfl)
theorem lw_4 (t h : List UInt8) (q0 q1 : Int) (k : Nat) : RunE (csH noW []) [(26, .give (iW k))] 0 Tryz.f7 [0, 5, 7, 8, 9] (headN 1 (tailN 4 cdLr)) (sLb t h q0 q1 [] (bytesI h)) [([], [Int.ofNat h.length ≠ 0, Int.ofNat h.length ≠ 0, V.int .i64 ((IntKind.i64.wrap (q0.tmod (Int.ofNat h.length) + Int.ofNat h.length)).tmod (Int.ofNat h.length)) = iW k], .to .normal (sLb t h q0 q1 [(9, iW k)] (bytesI h)))]
  := RunIs.of (by kernel_rfl) (by kernel_rfl) (by kernel_rfl)
theorem lw_5 (t h : List UInt8) (q0 q1 : Int) (k : Nat) (w : Int) : ∃ L, RunIs Tryz.prog (csH noW []) [(36, .give (.int .u8 w))] 1000 0 Tryz.f7 [0, 7, 8] (headN 1 (tailN 5 cdLr)) (sLb t h q0 q1 [(9, iW k)] (bytesI h)) L
    [([],
      [((0 : Int) ≤ Int.ofNat k ∧ Int.ofNat k < (Int.ofNat h.length)), (0 + k * 1 < (bytesI h).length), (V.int IntKind.u8 (IntKind.u8.wrap ((bytesI h).getD (0 + k * 1) (0 : Int) + IntKind.u8.wrap q1)) = V.int IntKind.u8 w), ((0 : Int) ≤ Int.ofNat k ∧ Int.ofNat k < (Int.ofNat h.length)), (0 + k * 1 + 1 ≤ (bytesI h).length)],
      .to .normal (stG [(0, .str t), (7, .bool true), (8, .slc (some (0, 0)) (h.length) (h.length) 1)] (hL [(0, .own .u8 (putI (bytesI h) (0 + k * 1) [w]))]) 1))]
  := RunIs.of (by kernel_rfl) (by kernel_rfl) (by kernel_rfl)
theorem lw_6 (t h : List UInt8) (n : Nat) (ks : List Int) : ∃ L, RunIs Tryz.prog (csH noW []) [] 1000 0 Tryz.f7 [7, 10] (headN 1 (tailN 6 cdLr)) (stG [(0, .str t), (7, .bool true), (8, .slc (some (0, 0)) n n 1)] (hL [(0, .own .u8 ks)]) 1) L
    [([],
      [(0 + n ≤ ks.length)],
      .to .normal (stG [(7, .bool true), (10, .ptr (some (0, 0)))] (hL [(0, .cells [.str t, .str (strI (List.take n (List.drop 0 ks)))])]) 1))]
  := RunIs.of (by kernel_rfl) (by kernel_rfl) (by kernel_rfl)
theorem lw_7 (t t2 : List UInt8) : ∃ L, RunIs Tryz.prog (csH noW []) [] 1000 0 Tryz.f7 [7, 10, 11] (seqL (seqL tlLr)) (stG [(7, .bool true), (10, .ptr (some (0, 0)))] (hL [(0, .cells [.str t, .str t2])]) 1) L
    [([],
      [],
      .to .normal (sLl t t2 0))]
  := RunIs.of (by kernel_rfl) (by kernel_rfl) (by kernel_rfl)
theorem lw_8a (t t2 : List UInt8) (l : Lay) : ∃ L, RunIs Tryz.prog (csH (pinN 31 [.str t] (.tup [l.v, iX 0]) (pinN 29 [l.v] (.str t) noW)) []) [(61, .give (.bool false))] 1000 0 Tryz.f7 [7, 10, 11] (inner (inner (seqR (seqL tlLr)))) (sLl t t2 0) L
    [([],
      [((0 : Int) ≤ (0 : Int) ∧ (0 : Int) < (2 : Int)), (pinA [.str t]), (pinA [l.v]), ((0 : Int) ≤ (0 : Int) ∧ (0 : Int) < (2 : Int)), ((V.bool !beqB t t) = V.bool false)],
      .to .normal (sLl t t2 1))]
  := RunIs.of (by kernel_rfl) (by kernel_rfl) (by kernel_rfl)
theorem lw_8b (t t2 : List UInt8) (l : Lay) : ∃ L, RunIs Tryz.prog (csH (pinN 31 [.str t2] (.tup [l.v, iX 0]) (pinN 29 [l.v] (.str t2) noW)) []) [(61, .give (.bool false))] 1000 0 Tryz.f7 [7, 10, 11] (inner (inner (seqR (seqL tlLr)))) (sLl t t2 1) L
    [([],
      [((0 : Int) ≤ (1 : Int) ∧ (1 : Int) < (2 : Int)), (pinA [.str t2]), (pinA [l.v]), ((0 : Int) ≤ (1 : Int) ∧ (1 : Int) < (2 : Int)), ((V.bool !beqB t2 t2) = V.bool false)],
      .to .normal (sLl t t2 2))]
  := RunIs.of (by kernel_rfl) (by kernel_rfl) (by kernel_rfl)
theorem lw_9a (t t2 : List UInt8) : ∃ L, RunIs Tryz.prog (csH (pinN 31 [.str t] (.tup [zLay.v, iX 11]) (memoW mT)) []) [] 1000 0 Tryz.f7 [7, 10, 11] (inner (inner (seqR (seqL tlLr)))) (sLl t t2 0) L
    [([],
      [((0 : Int) ≤ (0 : Int) ∧ (0 : Int) < (2 : Int)), (pinA [.str t])],
      .to .normal (sLl t t2 1))]
  := RunIs.of (by kernel_rfl) (by kernel_rfl) (by kernel_rfl)
theorem lw_9b (t t2 : List UInt8) : ∃ L, RunIs Tryz.prog (csH (pinN 31 [.str t2] (.tup [zLay.v, iX 11]) (memoW mT)) []) [] 1000 0 Tryz.f7 [7, 10, 11] (inner (inner (seqR (seqL tlLr)))) (sLl t t2 1) L
    [([],
      [((0 : Int) ≤ (1 : Int) ∧ (1 : Int) < (2 : Int)), (pinA [.str t2])],
      .to .normal (sLl t t2 2))]
  := RunIs.of (by kernel_rfl) (by kernel_rfl) (by kernel_rfl)
theorem lw_a (t t2 : List UInt8) : ∃ L, RunIs Tryz.prog (csH noW []) [] 1000 0 Tryz.f7 [7, 10, 11] (inner (inner (seqR (seqL tlLr)))) (sLl t t2 2) L
    [([],
      [],
      .to (.exit 0) (sLl t t2 2))]
  := RunIs.of (by kernel_rfl) (by kernel_rfl) (by kernel_rfl)
theorem lw_b (t t2 : List UInt8) : ∃ L, RunIs Tryz.prog (csH noW []) [] 1000 0 Tryz.f7 [] (seqR tlLr) (sLl t t2 2) L
    [([],
      [],
      .ret (.bool true) (hL []) 0)]
  := RunIs.of (by kernel_rfl) (by kernel_rfl) (by kernel_rfl)
end Go.Proofs.YtmjggdmekboefaaGreat
namespace Go.Proofs.YtmjggdmekboefaaGreat
open Go Go.Eng
theorem restK (q : Int) (n : Nat) (h : 0 < n) (h2 : n ≤ 1000000) : ∃ k : Nat, k < n ∧ (IntKind.i64.wrap (q.tmod (Int.ofNat n) + Int.ofNat n)).tmod (Int.ofNat n) = Int.ofNat k := by
  simp only [hOn]
  have a1 : q.tmod (n : Int) < n := Int.tmod_lt_of_pos _ (by omega)
  have a2 : -(n : Int) < q.tmod n := by
    have := Int.natAbs_tmod q (n : Int)
    have h3 : (q.natAbs % n) < n := Nat.mod_lt _ h
    have h4 : (q.tmod (n : Int)).natAbs < n := by rw [this]; exact h3
    omega
  rw [wrap_id (by omega) (by omega)]
  have b1 := Int.tmod_nonneg (n : Int) (a := q.tmod (n : Int) + n) (by omega)
  have b2 := Int.tmod_lt_of_pos (q.tmod (n : Int) + n) (b := (n : Int)) (by omega)
  exact ⟨((q.tmod (n : Int) + n).tmod n).toNat, by omega, by omega⟩
theorem putI_len {px : List Int} {o : Nat} {l : List Int} (h : o + l.length ≤ px.length) : (putI px o l).length = px.length := by
  simp only [putI, List.length_append, List.length_take, List.length_drop]; omega
def sLx (t t2 : List UInt8) (i : Nat) : St := sLl t t2 (Int.ofNat i)
theorem lwRead (t t2 : List UInt8) (h1 : t.length ≤ 1500000) : (∃ l, okL l ∧ headF l = t ∧ DeepTo Tryz.prog 31 [.str t] (.tup [l.v, iX 0])) ∨ DeepTo Tryz.prog 31 [.str t] (.tup [zLay.v, iX 11]) := by
  obtain ⟨v, ⟨l, q1, q2, rfl⟩ | rfl, hd⟩ := readD (s := t) h1
  · exact .inl ⟨l, q1, q2, hd⟩
  · exact .inr hd
theorem lwT (t : List UInt8) (s : S8) (q0 q1 : Int) (ht : t.length ≤ 1500000) : TG Tryz.prog 0 Tryz.f7.ntmps cdLr (startSt [.str t, .agg s.cs, .agg (q2 q0 q1)] .nil 0) (RetG Tryz.prog 0 Tryz.f7 fun u _ _ => u = .bool true) := by
  have sm := layF_sm s
  have hh := headF_sm _ sm
  have hd := headD (layF s) sm.ok
  have hl := layD s
  generalize layF s = l at sm hh hd hl
  generalize headF l = h at hh hd
  obtain ⟨k, hk, ek⟩ := restK q0 h.length hh.1 (by omega)
  refine isE1 2 mT_ok (lw_1 t s q0 q1) all_nil ?_
  refine isE1 1 (pinK hl (pinK hd (noW_ok _))) (lw_2 t h s q0 q1 l) (fm rfl (fm1 rfl)) ?_
  rw [tailN_seq]
  refine isE1 1 (noW_ok _) (lw_3 t h q0 q1) (fm1 ?_) ?_
  · have : (Int.ofNat h.length == (0 : Int)) = false := beq_eq_false_iff_ne.2 (by simp only [hOn]; omega)
    rw [this]
  rw [tailN_seq]
  refine isE1 1 (noW_ok _) (lw_4 t h q0 q1 k) (fm (by simp only [hOn]; omega) (fm (by simp only [hOn]; omega) (fm1 (congrArg _ ek)))) ?_
  rw [tailN_seq]
  have hb : (bytesI h).length = h.length := by simp [bytesI]
  refine isE1 1 (noW_ok _) (lw_5 t h q0 q1 k _) (fm (ibd hk) (fm (by omega) (fm rfl (fm (ibd hk) (fm1 (by omega)))))) ?_
  rw [tailN_seq]
  generalize IntKind.u8.wrap ((bytesI h).getD (0 + k * 1) (0 : Int) + IntKind.u8.wrap q1) = w
  have hp : (putI (bytesI h) (0 + k * 1) [w]).length = h.length := by rw [putI_len (by simp only [List.length_cons, List.length_nil]; omega)]; exact hb
  generalize putI (bytesI h) (0 + k * 1) [w] = ks at hp
  refine isE1 1 (noW_ok _) (lw_6 t h h.length ks) (fm1 (by omega)) ?_
  rw [tailN_seq]
  have h2 : (strI (List.take h.length (List.drop 0 ks))).length ≤ 1500000 := by
    unfold strI
    rw [List.length_map, List.length_take, List.length_drop]; omega
  generalize strI (List.take h.length (List.drop 0 ks)) = t2 at h2
  have r0 := lwRead t t2 ht
  have r1 := lwRead t2 t h2
  refine loopF (noW_ok _) 0 _ [7, 10, 11] (2 - ·) (· ≤ 2) (sLx t t2) 0 (Nat.zero_le _) (lw_7 t t2) all_nil .refl fun i hi => ?_
  rcases (by omega : i = 0 ∨ i = 1 ∨ i = 2) with rfl | rfl | rfl
  · rcases r0 with ⟨l0, k1, rfl, k3⟩ | k3
    · exact ⟨_, pinK k3 (pinK (headD l0 k1) (noW_ok _)), _, _, _, lw_8a (headF l0) t2 l0, gone (g0 ⟨fm (by decide) (fm rfl (fm rfl (fm (by decide) (fm1 (by rw [beqB_eq, beq_self_eq_true]; rfl))))), 1, by decide, by decide, .refl⟩)⟩
    · exact ⟨_, pinK k3 mT_ok, _, _, _, lw_9a t t2, gone (g0 ⟨fm (by decide) (fm1 rfl), 1, by decide, by decide, .refl⟩)⟩
  · rcases r1 with ⟨l0, k1, rfl, k3⟩ | k3
    · exact ⟨_, pinK k3 (pinK (headD l0 k1) (noW_ok _)), _, _, _, lw_8b t (headF l0) l0, gone (g0 ⟨fm (by decide) (fm rfl (fm rfl (fm (by decide) (fm1 (by rw [beqB_eq, beq_self_eq_true]; rfl))))), 2, by decide, by decide, .refl⟩)⟩
    · exact ⟨_, pinK k3 mT_ok, _, _, _, lw_9b t t2, gone (g0 ⟨fm (by decide) (fm1 rfl), 2, by decide, by decide, .refl⟩)⟩
  · exact ⟨_, noW_ok _, _, _, _, lw_a t t2, gone (g0 ⟨all_nil, rfl, retE (noW_ok _) (lw_b t t2) (gone (g0 ⟨all_nil, _, _, _, rfl, rfl⟩))⟩)⟩
end Go.Proofs.YtmjggdmekboefaaGreat
