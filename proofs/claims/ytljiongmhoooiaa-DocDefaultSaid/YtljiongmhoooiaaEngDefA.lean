/- DocDefault, part A: gouacheref01.Var at every integer: a string of one to ten bytes. No conditions. -/
import Derived.Test.YtljiongmhoooiaaEngDoc
import Derived.Test.YtljiongmhoooiaaEngV
namespace Go.Proofs.Ytljiongmhoooiaa
open Go Go.Eng Go.RowKit

def no1 : Nat → Bool := fun _ => false
noncomputable def isN (cf : CallF) (c : Code) (s : St) : Bool := match execT Try.prog cf 1000 no1 c s with | some [(.normal, _)] => true | _ => false
noncomputable def nx (cf : CallF) (c : Code) (s : St) : St := match execT Try.prog cf 1000 no1 c s with | some [(.normal, s')] => s' | _ => default

theorem nx_of {cf : CallF} {c : Code} {s : St} (h : isN cf c s = true) : execT Try.prog cf 1000 no1 c s = some [(.normal, nx cf c s)] := by
  unfold isN at h
  unfold nx
  split at h
  · rename_i s' e; rw [e]
  · cases h

theorem T_nx {cf : CallF} (hcf : CallOk Try.prog cf) {N : Nat} {w0 : World} {c : Code} {s : St} {Q : Exit → St → Prop} (hc : codeOk N c = true) (h : isN cf c s = true) (hq : Q .normal (nx cf c s)) : T Try.prog N w0 c s Q :=
  T_execT hcf mo c s _ Q hc (nx_of h) fun p hp => by
    simp only [List.mem_cons, List.not_mem_nil, or_false] at hp; subst hp; exact ⟨.normal, rfl, hq⟩

theorem T_headNx {cf : CallF} (hcf : CallOk Try.prog cf) (k : Nat) {N : Nat} {w0 : World} {c : Code} {s : St} {Q : Exit → St → Prop} (hc : codeOk N c = true) (h : isN cf (headN k c) s = true) (hq : T Try.prog N w0 (tailN k c) (nx cf (headN k c) s) Q) : T Try.prog N w0 c s Q :=
  T_head hcf mo k hc (nx_of h) fun p hp => by
    simp only [List.mem_cons, List.not_mem_nil, or_false] at hp; subst hp; exact ⟨.normal, rfl, hq⟩

theorem least (p : Nat → Bool) : ∀ n, p n = false → ∃ j, j ≤ n ∧ p j = false ∧ ∀ i, i < j → p i = true
  | 0, h => ⟨0, Nat.le_refl _, h, fun i hi => absurd hi (by omega)⟩
  | n + 1, h => by
    by_cases hall : ∀ i, i < n + 1 → p i = true
    · exact ⟨n + 1, Nat.le_refl _, h, hall⟩
    · have : ∃ i, i < n + 1 ∧ p i = false := by
        refine Classical.byContradiction fun hn => hall fun i hi => ?_
        cases hb : p i with
        | true => rfl
        | false => exact absurd ⟨i, hi, hb⟩ hn
      obtain ⟨i, hi, hb⟩ := this
      have key : ∀ m i, i ≤ m → p i = false → ∃ j, j ≤ m ∧ p j = false ∧ ∀ i, i < j → p i = true := by
        intro m
        induction m with
        | zero => intro i hi hb; have : i = 0 := by omega
                  subst this; exact ⟨0, Nat.le_refl _, hb, fun i hi => absurd hi (by omega)⟩
        | succ m ih =>
          intro i hi hb
          by_cases hsmall : ∃ i, i ≤ m ∧ p i = false
          · obtain ⟨i', h1, h2⟩ := hsmall
            obtain ⟨j, k1, k2, k3⟩ := ih i' h1 h2
            exact ⟨j, by omega, k2, k3⟩
          · refine ⟨i, hi, hb, fun i' hi' => ?_⟩
            cases hb' : p i' with
            | true => rfl
            | false => exact absurd ⟨i', by omega, hb'⟩ hsmall
      exact key (n + 1) i (by omega) hb

noncomputable def code37 : Code := match Try.f37.body with | some c => c | none => .skip
noncomputable def tail37 : Code := tailN 3 code37
noncomputable def body37 : Code := inner (inner (seqL tail37))
noncomputable def rest37 : Code := seqR tail37
noncomputable def test37 : Code := seqL (seqL body37)

def s37 (k : Int) : St := { fr := frameOf [.int .i64 k] 0 .nil, h := .nil, n := 0, dfs := [] }
/-- the head of the loop, at round j -/
noncomputable def sV (k : Int) : Nat → St
  | 0 => nx cf (headN 3 code37) (s37 k)
  | j + 1 => nx cf (seqR body37) (nx cf test37 (sV k j))
noncomputable def tV (k : Int) (j : Nat) : St := nx cf test37 (sV k j)
noncomputable def uV (k : Int) (j : Nat) : Int := match (sV k j).fr.get 4 with | some (.int _ u) => u | _ => 0
noncomputable def bV (k : Int) (j : Nat) : Bool := match (tV k j).fr.get 9 with | some (.bool b) => b | _ => false
def isBool : Option V → Bool | some (.bool _) => true | _ => false
noncomputable def outV (k : Int) (j : Nat) : Option (List UInt8) := match execT Try.prog cf 1000 no1 rest37 (tV k j) with
  | some [(.ret, s')] => match leave Try.prog cf 1000 Try.f37 s'.fr s'.dfs .ret s'.h s'.n with
    | some (.ret (.str l), _, _) => some l
    | _ => none
  | _ => none

def Round (k : Int) (j : Nat) : Prop := isN cf test37 (sV k j) = true ∧ isBool ((tV k j).fr.get 9) = true ∧ isN cf (seqR body37) (tV k j) = true ∧ (outV k j).map (·.length) = some (j + 1) ∧ bV k j = decide (uV k j ≥ 128) ∧ uV k (j + 1) = IntKind.u64.wrap ((uV k j).tdiv 128)

theorem start37 (k : Int) : isN cf (headN 3 code37) (s37 k) = true := by kernel_rfl
theorem u37 (k : Int) : uV k 0 = IntKind.u64.wrap k := by kernel_rfl
theorem round0 (k : Int) : Round k 0 := ⟨by kernel_rfl, by kernel_rfl, by kernel_rfl, by kernel_rfl, by kernel_rfl, by kernel_rfl⟩
theorem round1 (k : Int) : Round k 1 := ⟨by kernel_rfl, by kernel_rfl, by kernel_rfl, by kernel_rfl, by kernel_rfl, by kernel_rfl⟩
theorem round2 (k : Int) : Round k 2 := ⟨by kernel_rfl, by kernel_rfl, by kernel_rfl, by kernel_rfl, by kernel_rfl, by kernel_rfl⟩
theorem round3 (k : Int) : Round k 3 := ⟨by kernel_rfl, by kernel_rfl, by kernel_rfl, by kernel_rfl, by kernel_rfl, by kernel_rfl⟩
theorem round4 (k : Int) : Round k 4 := ⟨by kernel_rfl, by kernel_rfl, by kernel_rfl, by kernel_rfl, by kernel_rfl, by kernel_rfl⟩
theorem round5 (k : Int) : Round k 5 := ⟨by kernel_rfl, by kernel_rfl, by kernel_rfl, by kernel_rfl, by kernel_rfl, by kernel_rfl⟩
theorem round6 (k : Int) : Round k 6 := ⟨by kernel_rfl, by kernel_rfl, by kernel_rfl, by kernel_rfl, by kernel_rfl, by kernel_rfl⟩
theorem round7 (k : Int) : Round k 7 := ⟨by kernel_rfl, by kernel_rfl, by kernel_rfl, by kernel_rfl, by kernel_rfl, by kernel_rfl⟩
theorem round8 (k : Int) : Round k 8 := ⟨by kernel_rfl, by kernel_rfl, by kernel_rfl, by kernel_rfl, by kernel_rfl, by kernel_rfl⟩
theorem round9 (k : Int) : Round k 9 := ⟨by kernel_rfl, by kernel_rfl, by kernel_rfl, by kernel_rfl, by kernel_rfl, by kernel_rfl⟩

theorem rounds37 (k : Int) : ∀ j, j < 10 → Round k j
  | 0, _ => round0 k | 1, _ => round1 k | 2, _ => round2 k | 3, _ => round3 k | 4, _ => round4 k | 5, _ => round5 k | 6, _ => round6 k | 7, _ => round7 k | 8, _ => round8 k | 9, _ => round9 k
  | j + 10, h => absurd h (by omega)

theorem u_bound (k : Int) : 0 ≤ uV k 9 ∧ uV k 9 < 128 := by
  have h0 : 0 ≤ uV k 0 ∧ uV k 0 ≤ 18446744073709551615 := by
    rw [u37, IntKind.wrap_u64]
    omega
  have st : ∀ j, j < 9 → ∀ B : Int, 0 ≤ uV k j ∧ uV k j ≤ B → B ≤ 18446744073709551615 → 0 ≤ uV k (j + 1) ∧ uV k (j + 1) ≤ B / 128 := by
    intro j hj B h hB
    rw [(rounds37 k j (by omega)).2.2.2.2.2, IntWalk.u64_quo _ _ ⟨h.1, by omega, by omega⟩]
    omega
  have h1 := st 0 (by omega) _ h0 (by omega)
  have h2 := st 1 (by omega) _ h1 (by omega)
  have h3 := st 2 (by omega) _ h2 (by omega)
  have h4 := st 3 (by omega) _ h3 (by omega)
  have h5 := st 4 (by omega) _ h4 (by omega)
  have h6 := st 5 (by omega) _ h5 (by omega)
  have h7 := st 6 (by omega) _ h6 (by omega)
  have h8 := st 7 (by omega) _ h7 (by omega)
  have h9 : 0 ≤ uV k 9 ∧ uV k 9 ≤ _ := st 8 (by omega) _ h8 (by omega)
  omega

noncomputable abbrev N37 : Nat := Try.f37.ntmps
theorem hcode37 : Try.f37.body = some code37 := by kernel_rfl
theorem ok37 : codeOk N37 code37 = true := by kernel_rfl
theorem ok_test37 : codeOk N37 test37 = true := by kernel_rfl
theorem ok_round37 : codeOk N37 (seqR body37) = true := by kernel_rfl
theorem ok_rest37 : codeOk N37 rest37 = true := by kernel_rfl
theorem seq_tail37 : isSeq tail37 = true := by kernel_rfl
theorem seq_body37 : isSeq body37 = true := by kernel_rfl
theorem seq_test37 : isSeq (seqL body37) = true := by kernel_rfl
theorem block37 : isBlock (seqL tail37) 0 = true := by kernel_rfl
theorem loop37 : isLoop (inner (seqL tail37)) = true := by kernel_rfl
theorem cond37 : isCond (seqR (seqL body37)) (fun _ => true) = true := by kernel_rfl
theorem condO37 : condO (seqR (seqL body37)) = .tmp 9 := by kernel_rfl
theorem condT37 : condT (seqR (seqL body37)) = .skip := by kernel_rfl
theorem condF37 : condF (seqR (seqL body37)) = .exit 0 := by kernel_rfl

def Ends37 (l : List UInt8) : Exit → St → Prop := fun y s' => (y = .normal ∨ y = .ret) ∧ ∃ h' n', leave Try.prog cf 1000 Try.f37 s'.fr s'.dfs .ret s'.h s'.n = some (.ret (.str l), h', n')

theorem rest37_ends {w0 : World} {k : Int} {j : Nat} {l : List UInt8} (h : outV k j = some l) : T Try.prog N37 w0 rest37 (tV k j) (Ends37 l) := by
  unfold outV at h
  split at h
  · rename_i s' e
    split at h
    · rename_i l' h' n' hl
      simp only [Option.some.injEq] at h; subst h
      exact T_execT cf_ok mo rest37 _ _ _ ok_rest37 e fun p hp => by
        simp only [List.mem_cons, List.not_mem_nil, or_false] at hp; subst hp; exact ⟨.ret, rfl, .inr rfl, h', n', hl⟩
    · cases h
  · cases h

theorem loop37_all {w0 : World} {k : Int} {J : Nat} {l : List UInt8} (hJ : J < 10) (hf : bV k J = false) (ht : ∀ i, i < J → bV k i = true) (hl : outV k J = some l) : ∀ (n j : Nat), n + j = J + 1 → j ≤ J →
    TR Try.prog N37 w0 body37 (outOf 0 (andThen (fun s' => T Try.prog N37 w0 rest37 s' (Ends37 l)) (Ends37 l))) n (sV k j)
  | 0, j, h, hj => absurd hj (by omega)
  | n + 1, j, h, hj => by
    obtain ⟨r1, r2, r3, _, _, _⟩ := rounds37 k j (by omega)
    refine T_seq' seq_body37 (T_seq' seq_test37 (T_nx cf_ok ok_test37 r1 ?_))
    show T Try.prog N37 w0 (seqR (seqL body37)) (tV k j) _
    have hb : opd (tV k j).fr (.tmp 9) = some (.bool (bV k j)) := by
      show (tV k j).fr.get 9 = _
      unfold bV
      revert r2
      generalize (tV k j).fr.get 9 = x
      intro r2
      cases x with
      | none => cases r2
      | some v => cases v <;> first | rfl | cases r2
    refine T_cond (t := bV k j) cond37 (by rw [condO37]; exact hb) ?_ ?_
    · intro hbt
      have hlt : j < J := by
        rcases Nat.lt_or_ge j J with h | h
        · exact h
        · have : j = J := by omega
          subst this; rw [hf] at hbt; cases hbt
      rw [condT37]
      refine T_exec (cf := cf) (F := 1000) (x := .normal) (y := .normal) cf_ok mo rfl rfl rfl ?_
      refine T_nx cf_ok ok_round37 r3 ?_
      exact loop37_all hJ hf ht hl n (j + 1) (by omega) (by omega)
    · intro hbf
      have hje : j = J := by
        rcases Nat.lt_or_ge j J with h | h
        · rw [ht j h] at hbf; cases hbf
        · omega
      subst hje
      rw [condF37]
      refine T_exec (cf := cf) (F := 1000) (x := .exit 0) (y := .exit 0) cf_ok mo rfl rfl rfl ?_
      show outOf 0 (andThen (fun s' => T Try.prog N37 w0 rest37 s' (Ends37 l)) (Ends37 l)) (.exit 0) _
      simp only [outOf, if_true, andThen]
      exact rest37_ends hl

/-- Var at every integer -/
theorem var_spec (k : Int) : ∃ l : List UInt8, 1 ≤ l.length ∧ l.length ≤ 10 ∧ SpecC Try.prog (37, [.int .i64 k], .str l) := by
  have h9 : bV k 9 = false := by
    rw [(rounds37 k 9 (by omega)).2.2.2.2.1]
    have := u_bound k
    simp; omega
  obtain ⟨J, hJ, hf, ht⟩ := least (bV k) 9 h9
  have hlen := (rounds37 k J (by omega)).2.2.2.1
  cases hl : outV k J with
  | none => rw [hl] at hlen; cases hlen
  | some l =>
    rw [hl] at hlen
    simp only [Option.map_some, Option.some.injEq] at hlen
    refine ⟨l, by omega, by omega, rfl, rfl, fun w args' ra _ => ?_⟩
    refine calls_of_T (F := 1000) mo po cf_ok Try.func37 hcode37 ra (by rw [Try.ntmps37]; simp) (by rw [Try.ntmps37]; simp [top]) ?_
    refine T_headNx cf_ok 3 ok37 (start37 k) ?_
    refine T_seq' seq_tail37 (T_block block37 (T_loop (J + 1) loop37 ?_))
    exact loop37_all (by omega) hf ht hl (J + 1) 0 (by omega) (by omega)
end Go.Proofs.Ytljiongmhoooiaa
