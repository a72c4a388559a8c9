/- FilterIdentity: the identity curve of 257 points. No conditions. -/
import Derived.Test.YtadejpmecljjpaaFlMoB
set_option linter.unusedVariables false
set_option linter.unusedSimpArgs false
set_option linter.unusedSectionVars false
namespace Go.Proofs.Ytadejpmecljjpaa
open Go Go.Eng
def lineF (i : Nat) : Int := Int.ofNat ((131070 * i + 256) / 512)
def lineR : Nat → Nat → List Int
  | 0, _ => []
  | n + 1, i => lineF i :: lineR n (i + 1)
abbrev lineL : List Int := lineR 257 0
def repP (p : Prop) : Nat → List Prop
  | 0 => []
  | n + 1 => p :: repP p n
theorem li_1 : ∃ L, RunIs Try.prog csH [] 1000 0 Try.f43 [] (bodyOf Try.f43) (startSt [.int .i64 257] .nil 0) L
    [([], repP ((512 : Int) ≠ 0) 257, .ret (.slc (some (0, 0)) 257 257 1) (hL [(0, .cells (lineL.map (.int .i64)))]) 1)] := RunIs.of (by kernel_rfl) (by kernel_rfl) (by kernel_rfl)
theorem ton_all : ((List.range 256).all fun p => decide (tonC lineL 257 (Int.ofNat p) = Int.ofNat p)) = true := by kernel_rfl
theorem ton_valid : validB 5 0 0 0 0 [] 257 lineL = true := by kernel_rfl
def specLi (args : List V) (h : Tr O) (n : Nat) : Option (List Prop × V × Tr O × Nat) := match args with
  | [.int .i64 k] => match decide (k = 257) with
    | true => match emb [] 0 (.slc (some (0, 0)) 257 257 1, hL [(0, .own .i64 lineL)], 1) h n with
      | some r => some ([], r)
      | none => none
    | false => none
  | _ => none
theorem tgLi : TG Try.prog 0 Try.f43.ntmps (bodyOf Try.f43) (startSt [.int .i64 257] (rH []) 0) (RetG Try.prog 0 Try.f43 fun u h n => u = .slc (some (0, 0)) 257 257 1 ∧ h = hL [(0, .cells (lineL.map (.int .i64)))] ∧ n = 1) := by
  obtain ⟨L, hr⟩ := li_1
  refine TG_ret XH mo _ (by kernel_rfl) hr fun g hg _ => ?_
  rw [List.mem_singleton] at hg; subst hg
  refine ⟨fun p hp => ?_, _, _, _, rfl, rfl, rfl, rfl⟩
  have : ∀ n, ∀ q ∈ repP ((512 : Int) ≠ 0) n, q := by
    intro n
    induction n with
    | zero => intro q hq; cases hq
    | succ n ih =>
      intro q hq
      rcases List.mem_cons.1 hq with rfl | hq
      · omega
      · exact ih q hq
  exact this _ p hp
theorem li_own : ownO (hL [(0, .cells (lineL.map (.int .i64)))]) [(0, .i64)] = some (hL [(0, .own .i64 lineL)]) := by kernel_rfl
theorem one_Li : OneW Try.prog 43 specLi := by
  refine ⟨Nat.le_of_ble_eq_true (by kernel_rfl), fun args h n A v h' n' e0 hA E w args' ra g hd hc => ?_⟩
  unfold specLi at e0
  split at e0
  case h_2 => cases e0
  rename_i k
  split at e0
  case h_2 => cases e0
  rename_i hk
  have hk := of_decide_eq_true hk
  subst hk
  split at e0
  case h_2 => cases e0
  rename_i r he
  simp only [Option.some.injEq, Prod.mk.injEq] at e0
  obtain ⟨rfl, rfl⟩ := e0
  obtain ⟨g2, d2, n2⟩ := rows_ok (soft_good g) [] [] (Nat.le_of_ble_eq_true rfl) (by intro j k' ks' hj; simp at hj)
  have f1 := frees_noE (E := E) (E' := E.rows []) (X := [V.int .i64 257]) (by rfl) ra
  exact (calls_of_TG1 mo po Try.func43 (by kernel_rfl) (by kernel_rfl) _ _ _ tgLi (E := E.rows []) f1 g2 d2).mono fun en w' c' => emb_ok (E1 := E.rows []) g hd rfl (fun m m' _ q => by cases q) n2 he (cpost_own [(0, .i64)] li_own c')
end Go.Proofs.Ytadejpmecljjpaa
