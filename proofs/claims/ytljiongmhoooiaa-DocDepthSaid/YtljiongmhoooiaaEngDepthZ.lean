/- DocDepth: what its code does at every input. No conditions. -/
import Derived.Test.YtljiongmhoooiaaEngDepthB
import Derived.Test.YtljiongmhoooiaaEngDepthC
import Derived.Test.YtljiongmhoooiaaEngDepthD
import Derived.Test.YtljiongmhoooiaaEngDepthE
import Derived.Test.YtljiongmhoooiaaEngDepthF
import Derived.Test.YtljiongmhoooiaaEngDepthG
namespace Go.Proofs.Ytljiongmhoooiaa
open Go Go.Eng Go.RowKit

theorem allA : ∀ (c : Bool) (i : Nat), i < 9 → A3 c i
  | true, 0, _ => A3_t0 | true, 1, _ => A3_t1 | true, 2, _ => A3_t2 | true, 3, _ => A3_t3 | true, 4, _ => A3_t4 | true, 5, _ => A3_t5 | true, 6, _ => A3_t6 | true, 7, _ => A3_t7 | true, 8, _ => A3_t8
  | false, 0, _ => A3_f0 | false, 1, _ => A3_f1 | false, 2, _ => A3_f2 | false, 3, _ => A3_f3 | false, 4, _ => A3_f4 | false, 5, _ => A3_f5 | false, 6, _ => A3_f6 | false, 7, _ => A3_f7 | false, 8, _ => A3_f8
  | _, i + 9, h => absurd h (by omega)

theorem allB : ∀ (c : Bool) (i : Nat), i < 8 → B3 c i
  | true, 0, _ => B3_t0 | true, 1, _ => B3_t1 | true, 2, _ => B3_t2 | true, 3, _ => B3_t3 | true, 4, _ => B3_t4 | true, 5, _ => B3_t5 | true, 6, _ => B3_t6 | true, 7, _ => B3_t7
  | false, 0, _ => B3_f0 | false, 1, _ => B3_f1 | false, 2, _ => B3_f2 | false, 3, _ => B3_f3 | false, 4, _ => B3_f4 | false, 5, _ => B3_f5 | false, 6, _ => B3_f6 | false, 7, _ => B3_f7
  | _, i + 8, h => absurd h (by omega)

theorem allC : ∀ (c : Bool) (i : Nat), i < 9 → C3 c i
  | true, 0, _ => C3_t0 | true, 1, _ => C3_t1 | true, 2, _ => C3_t2 | true, 3, _ => C3_t3 | true, 4, _ => C3_t4 | true, 5, _ => C3_t5 | true, 6, _ => C3_t6 | true, 7, _ => C3_t7 | true, 8, _ => C3_t8
  | false, 0, _ => C3_f0 | false, 1, _ => C3_f1 | false, 2, _ => C3_f2 | false, 3, _ => C3_f3 | false, 4, _ => C3_f4 | false, 5, _ => C3_f5 | false, 6, _ => C3_f6 | false, 7, _ => C3_f7 | false, 8, _ => C3_f8
  | _, i + 9, h => absurd h (by omega)

noncomputable abbrev N3 : Nat := Try.f3.ntmps
theorem hcode3 : Try.f3.body = some code3 := by kernel_rfl
theorem ok3 : codeOk N3 code3 = true := by kernel_rfl
theorem ok_tail4 : codeOk N3 (tailN 4 code3) = true := by kernel_rfl
theorem ok_init : codeOk N3 (seqL loop3) = true := by kernel_rfl
theorem ok_test : codeOk N3 test3 = true := by kernel_rfl
theorem ok_round : codeOk N3 round3 = true := by kernel_rfl
theorem ok_rest : codeOk N3 rest3 = true := by kernel_rfl
theorem seq_tail : isSeq tail9 = true := by kernel_rfl
theorem seq_loop : isSeq loop3 = true := by kernel_rfl
theorem seq_body : isSeq body3 = true := by kernel_rfl
theorem seq_test : isSeq (seqL body3) = true := by kernel_rfl
theorem block_loop : isBlock (seqR loop3) 0 = true := by kernel_rfl
theorem loop_loop : isLoop (inner (seqR loop3)) = true := by kernel_rfl
theorem cond_test : isCond (seqR (seqL body3)) (fun _ => true) = true := by kernel_rfl
theorem condO_test : condO (seqR (seqL body3)) = .tmp 48 := by kernel_rfl
theorem condT_test : condT (seqR (seqL body3)) = .skip := by kernel_rfl
theorem condF_test : condF (seqR (seqL body3)) = .exit 0 := by kernel_rfl

/-- how the call is to end -/
def Ends3 : Exit → St → Prop := fun y s' => (y = .normal ∨ y = .ret) ∧ ∃ h' n', leave Try.prog cf 1000 Try.f3 s'.fr s'.dfs .ret s'.h s'.n = some (.ret (.bool true), h', n')

theorem ends_of {w0 : World} {c : Code} {s : St} (hc : codeOk N3 c = true) (h : endsTrue Try.prog cf 1000 Try.f3 c s = true) : T Try.prog N3 w0 c s Ends3 := by
  unfold endsTrue at h
  split at h
  · rename_i s' e
    split at h
    · rename_i h' n' hl
      exact T_exec cf_ok mo hc e rfl ⟨.inr rfl, h', n', hl⟩
    · cases h
  · cases h

theorem l2_top {bits m : Int} : ∀ x ∈ l2 bits m, x.1 < top := by intro x hx; simp only [l2, List.mem_cons, List.not_mem_nil, or_false] at hx; rcases hx with rfl | rfl <;> (simp only [top]; omega)
theorem l3_top {bits m : Int} {b : Bool} : ∀ x ∈ l3 bits m b, x.1 < top := by intro x hx; simp only [l3, List.mem_cons, List.not_mem_nil, or_false] at hx; rcases hx with rfl | rfl | rfl <;> (simp only [top]; omega)
theorem l2_free {bits m : Int} : ∀ x ∈ l2 bits m, x.2.free = true := by intro x hx; simp only [l2, List.mem_cons, List.not_mem_nil, or_false] at hx; rcases hx with rfl | rfl <;> rfl
theorem l3_free {bits m : Int} {b : Bool} : ∀ x ∈ l3 bits m b, x.2.free = true := by intro x hx; simp only [l3, List.mem_cons, List.not_mem_nil, or_false] at hx; rcases hx with rfl | rfl | rfl <;> rfl

theorem at48 (t : Tr V) (bits m : Int) (b : Bool) : (ov (l3 bits m b) t).get 48 = some (.bool b) := by
  simp only [l3, ov]
  rw [Tr.get_set_ne _ _ (by simp only [top]; omega) (by omega), Tr.get_set_ne _ _ (by simp only [top]; omega) (by omega), Tr.get_set_same _ _ (by simp only [top]; omega)]

/-- the loop, from every head -/
theorem loop_all {w0 : World} (c : Bool) (bits : Int) : ∀ (n i : Nat), n + i = 9 → i < 9 → ∀ (m x : Int), (i : Int) + 1 ≤ m → m ≤ 9 →
    TR Try.prog N3 w0 body3 (outOf 0 (andThen (fun s' => T Try.prog N3 w0 rest3 s' Ends3) Ends3)) n (at3 c i x (l2 bits m))
  | 0, i, h, hi, _, _, _, _ => absurd hi (by omega)
  | n + 1, i, h, hi, m, x, h1, h2 => by
    refine T_seq' seq_body (T_seq' seq_test ?_)
    refine T_goC (C := fun v => v = .int .i64 x) cf_ok mo (l := l3 bits m (decide ((i : Int) + 1 < m))) l3_top l3_free ok_test (allA c i hi bits m x) ?_ ?_ ?_
    · intro y hy; simp only [List.mem_cons, List.not_mem_nil, or_false] at hy; subst hy; rfl
    · intro y hy; simp only [List.mem_cons, List.not_mem_nil, or_false] at hy; subst hy; exact ⟨_, rfl, rfl⟩
    · intro v hv
      subst hv
      refine T_cond (t := decide ((i : Int) + 1 < m)) cond_test (by rw [condO_test]; exact at48 _ _ _ _) ?_ ?_
      · intro ht
        have hlt : (i : Int) + 1 < m := of_decide_eq_true ht
        rw [condT_test]
        refine T_exec (cf := cf) (F := 1000) (x := .normal) (y := .normal) cf_ok mo rfl rfl rfl ?_
        refine T_goC (C := fun v => ∃ y, v = .int .i64 y) cf_ok mo (l := l2 bits m) l2_top l2_free ok_round (allB c i (by omega) bits m _ x) ?_ ?_ ?_
        · intro y hy; simp only [List.mem_cons, List.not_mem_nil, or_false] at hy; rcases hy with rfl | rfl <;> rfl
        · intro y hy; simp only [List.mem_cons, List.not_mem_nil, or_false] at hy; rcases hy with rfl | rfl <;> exact ⟨_, rfl, _, rfl⟩
        · rintro v ⟨y, rfl⟩
          exact loop_all c bits n (i + 1) (by omega) (by omega) m y (by omega) h2
      · intro hf
        have hge : m = (i : Int) + 1 := by have := of_decide_eq_false hf; omega
        subst hge
        rw [condF_test]
        refine T_exec (cf := cf) (F := 1000) (x := .exit 0) (y := .exit 0) cf_ok mo rfl rfl rfl ?_
        show outOf 0 (andThen (fun s' => T Try.prog N3 w0 rest3 s' Ends3) Ends3) (.exit 0) _
        simp only [outOf, if_true, andThen]
        exact ends_of ok_rest (allC c i hi bits _ x)

def mv (a : Int) : Int := IntKind.i64.wrap (1 + IntKind.i64.wrap (a.tmod 9))

theorem mv_eq {a : Int} (h0 : 0 ≤ a) : 1 ≤ mv a ∧ mv a ≤ 9 := by
  have h1 : 0 ≤ a.tmod 9 := Int.tmod_nonneg 9 h0
  have h2 : a.tmod 9 < 9 := Int.tmod_lt_of_pos a (by omega)
  have w1 : ∀ x : Int, 0 ≤ x → x < 100 → IntKind.i64.wrap x = x := by
    intro x hx hx'
    show (if (true && decide (x % (2 ^ 64 : Int) ≥ (2 ^ 63 : Int))) = true then x % (2 ^ 64 : Int) - (2 ^ 64 : Int) else x % (2 ^ 64 : Int)) = x
    rw [Int.emod_eq_of_lt hx (by omega), if_neg (by simp; omega)]
  unfold mv
  rw [w1 _ h1 (by omega), w1 _ (by omega) (by omega)]
  omega

def s03 (a0 a1 : Int) (c : Bool) : St := { fr := frameOf [.int .u8 a0, .int .u16 a1, .bool c] 0 .nil, h := .nil, n := 0, dfs := [] }

theorem preA_t (a0 a1 : Int) : goT Try.prog cf 1000 none3 [2, 7] [1, 8] (headN 4 code3) (s03 a0 a1 true) (sA true) = some [[some (.int .u16 a1), some (.int .i64 (mv a0))]] := by kernel_rfl
theorem preA_f (a0 a1 : Int) : goT Try.prog cf 1000 none3 [2, 7] [1, 8] (headN 4 code3) (s03 a0 a1 false) (sA false) = some [[some (.int .u16 a1), some (.int .i64 (mv a0))]] := by kernel_rfl
theorem preB_t (bits m : Int) : goT Try.prog cf 1000 none3 live3 [1, 8] (headN 9 (tailN 4 code3)) ((sA true).over (l2 bits m)) (sB true) = some [[some (.int .u16 bits), some (.int .i64 m)]] := by kernel_rfl
theorem preB_f (bits m : Int) : goT Try.prog cf 1000 none3 live3 [1, 8] (headN 9 (tailN 4 code3)) ((sA false).over (l2 bits m)) (sB false) = some [[some (.int .u16 bits), some (.int .i64 m)]] := by kernel_rfl
theorem preC_t (bits m : Int) : goC Try.prog cf 1000 none3 live3 [1, 8] 0 2 z3 (seqL loop3) ((sB true).over (l2 bits m)) (S3 true 0) = some ([[some (.int .u16 bits), some (.int .i64 m)]], [some (.int .i64 2)]) := by kernel_rfl
theorem preC_f (bits m : Int) : goC Try.prog cf 1000 none3 live3 [1, 8] 0 2 z3 (seqL loop3) ((sB false).over (l2 bits m)) (S3 false 0) = some ([[some (.int .u16 bits), some (.int .i64 m)]], [some (.int .i64 2)]) := by kernel_rfl

theorem walk3 {w0 : World} (a0 a1 : Int) (c : Bool) (h0 : 0 ≤ a0) : T Try.prog N3 w0 code3 (s03 a0 a1 c) Ends3 := by
  refine T_goHead 4 cf_ok mo (l := l2 a1 (mv a0)) (t := sA c) (live := [2, 7]) (unk := none3) (F := 1000) (r := [[some (.int .u16 a1), some (.int .i64 (mv a0))]]) l2_top l2_free ok3 (by cases c; exact preA_f a0 a1; exact preA_t a0 a1) ?_ ?_
  · intro y hy; simp only [List.mem_cons, List.not_mem_nil, or_false] at hy; subst hy; rfl
  refine T_goHead 9 cf_ok mo (l := l2 a1 (mv a0)) (t := sB c) (live := live3) (unk := none3) (F := 1000) (r := [[some (.int .u16 a1), some (.int .i64 (mv a0))]]) l2_top l2_free ok_tail4 (by cases c; exact preB_f a1 _; exact preB_t a1 _) ?_ ?_
  · intro y hy; simp only [List.mem_cons, List.not_mem_nil, or_false] at hy; subst hy; rfl
  show T Try.prog N3 w0 tail9 ((sB c).over (l2 a1 (mv a0))) Ends3
  refine T_seq' seq_tail (T_seq' seq_loop ?_)
  refine T_goC (C := fun v => v = .int .i64 2) cf_ok mo (l := l2 a1 (mv a0)) (m := 0) (i := 2) (z := z3) (t := S3 c 0) (live := live3) (unk := none3) (F := 1000) (r := [[some (.int .u16 a1), some (.int .i64 (mv a0))]]) (cells := [some (.int .i64 2)]) l2_top l2_free ok_init (by cases c; exact preC_f a1 _; exact preC_t a1 _) ?_ ?_ ?_
  · intro y hy; simp only [List.mem_cons, List.not_mem_nil, or_false] at hy; subst hy; rfl
  · intro y hy; simp only [List.mem_cons, List.not_mem_nil, or_false] at hy; subst hy; exact ⟨_, rfl, rfl⟩
  intro v hv
  subst hv
  have hm := mv_eq h0
  exact T_block block_loop (T_loop 9 loop_loop (loop_all c a1 9 0 rfl (by omega) (mv a0) 2 (by omega) hm.2))

theorem u8_low {a : Int} (h : (Lit.int .u8 a).wf = true) : 0 ≤ a := by
  have h : (decide (IntKind.u8.min ≤ a) && decide (a ≤ IntKind.u8.max)) = true := h
  rw [Bool.and_eq_true] at h
  exact of_decide_eq_true h.1

theorem depth_calls (a0 a1 : Int) (a2 : Bool) (h0 : 0 ≤ a0) (w : World) : Calls Try.prog 3 #[.int .u8 a0, .int .u16 a1, .bool a2] w fun e w' => e = .returned (.bool true) ∧ Below w.heap.size w w' := by
  refine (calls_of_T (F := 1000) (v := .bool true) mo po cf_ok Try.func3 hcode3 (args := [.int .u8 a0, .int .u16 a1, .bool a2]) (args' := [.int .u8 a0, .int .u16 a1, .bool a2]) (w := w) ⟨_, _, rfl, ⟨_, _, rfl, ⟨_, _, rfl, rfl, rfl⟩, rfl⟩, rfl⟩ ?_ ?_ (walk3 a0 a1 a2 h0)).mono fun e w' ⟨⟨E, ho⟩, hb⟩ => ⟨?_, hb⟩
  · rw [Try.ntmps3]; simp
  · rw [Try.ntmps3]; simp [top]
  · cases e <;> simp only [outrel] at ho
    simp only [vrel] at ho
    rw [ho]
end Go.Proofs.Ytljiongmhoooiaa
