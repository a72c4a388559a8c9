/- DocDefault, part B: gouacheref16.Head and Layers at the default layers of every kind. No conditions. -/
import Derived.Test.YtljiongmhoooiaaEngDefA
namespace Go.Proofs.Ytljiongmhoooiaa
open Go Go.Eng Go.RowKit

/-- a default layer of a kind that sets nothing of its own -/
def tmpl (k : Int) : V := .agg [.int .i64 0, .int .i64 k, .str [], .bool false, .int .i64 255, .int .i64 0, .bool false, .int .i64 0, .int .i64 0, .int .i64 0, .int .i64 0, .int .i64 0, .int .i64 0, .int .i64 0, .int .i64 0, .slc none 0 0 0, .int .i64 0, .int .i64 0, .int .i64 0, .slc none 0 0 0, .int .i64 0, .int .i64 0, .slc none 0 0 0, .int .u8 0, .int .u8 0, .int .u8 0, .int .u8 0, .slc none 0 0 0, .slc none 0 0 0, .bool false, .slc none 0 0 0]

/-- Var at the closed numbers that Head asks for beside the kind -/
def T37 : List (FuncId × List V × V) := [(37, [.int .i64 0], .str [0]), (37, [.int .i64 255], .str [255, 1])]
theorem T37_good : T37.all (specGood (call Try.prog 1000 60)) = true := by kernel_rfl
theorem T37_ok : ∀ x ∈ T37, SpecOk Try.prog x := spec_of (call_sound' mo po 60) T37_good

noncomputable def cfT : CallF := memo T37 (without 37 cf)
theorem cfT_ok : CallOk Try.prog cfT := memo_ok T37_ok (without_ok cf_ok)

theorem var_join (k : Int) : ∃ l : List UInt8, 1 ≤ l.length ∧ l.length ≤ 10 ∧ ∃ cj : CallF, CallOk Try.prog cj ∧ (∀ f args h n r, cfT f args h n = some r → cj f args h n = some r) ∧ ∀ h n, cj 37 [.int .i64 k] h n = some (.ret (.str l), h, n) := by
  cases hk : Go.Eng.look 37 [.int .i64 k] T37 with
  | some v =>
    have hm := look_mem hk
    have hl : ∃ l : List UInt8, v = .str l ∧ 1 ≤ l.length ∧ l.length ≤ 10 := by
      simp only [T37, List.mem_cons, Prod.mk.injEq, List.not_mem_nil, or_false] at hm
      rcases hm with ⟨_, _, h⟩ | ⟨_, _, h⟩
      · exact ⟨[0], h, by simp, by simp⟩
      · exact ⟨[255, 1], h, by simp, by simp⟩
    obtain ⟨l, rfl, h1, h2⟩ := hl
    exact ⟨l, h1, h2, cfT, cfT_ok, fun _ _ _ _ _ h => h, fun h n => by simp only [cfT, memo, hk]⟩
  | none =>
    obtain ⟨l, h1, h2, hs⟩ := var_spec k
    refine ⟨l, h1, h2, joinC 37 [.int .i64 k] (.str l) cfT, joinC_ok hs cfT_ok, joinC_le, fun h n => ?_⟩
    simp only [joinC, cfT, memo, hk]
    simp [without]

noncomputable def code21 : Code := match Try.f21.body with | some c => c | none => .skip
noncomputable def tail21 : Code := tailN 5 code21
def s21 (k : Int) : St := { fr := frameOf [tmpl k] 0 .nil, h := .nil, n := 0, dfs := [] }
def hint21 (l : List UInt8) : Nat → Option V | 5 => some (.str l) | _ => none
noncomputable def a21 (k : Int) : St := nx cf (headN 5 code21) (s21 k)
noncomputable def h21 (k : Int) (l : List UInt8) : Option (St × List Ob) := drawnH Try.prog cfT (hint21 l) (seqL tail21) (a21 k)
noncomputable def out21 (k : Int) (l : List UInt8) : Option (List UInt8) := match execT Try.prog cf 1000 no1 (seqR tail21) (hSt (h21 k l)) with
  | some [(.ret, s')] => match leave Try.prog cf 1000 Try.f21 s'.fr s'.dfs .ret s'.h s'.n with
    | some (.ret (.str l), _, _) => some l
    | _ => none
  | _ => none

def HeadFact (k : Int) (l : List UInt8) : Prop := (h21 k l).isSome = true ∧ firsts (hObs (h21 k l)) = seconds (hObs (h21 k l)) ∧ callsOf (hObs (h21 k l)) = [(37, [.int .i64 k], .str l)] ∧ (out21 k l).isSome = true

theorem start21 (k : Int) : isN cf (headN 5 code21) (s21 k) = true := by kernel_rfl
theorem head1 (k : Int) (a : UInt8) : HeadFact k [a] := ⟨by kernel_rfl, by kernel_rfl, by kernel_rfl, by kernel_rfl⟩
theorem head2 (k : Int) (a b : UInt8) : HeadFact k [a, b] := ⟨by kernel_rfl, by kernel_rfl, by kernel_rfl, by kernel_rfl⟩
theorem head3 (k : Int) (a b c : UInt8) : HeadFact k [a, b, c] := ⟨by kernel_rfl, by kernel_rfl, by kernel_rfl, by kernel_rfl⟩
theorem head4 (k : Int) (a b c d : UInt8) : HeadFact k [a, b, c, d] := ⟨by kernel_rfl, by kernel_rfl, by kernel_rfl, by kernel_rfl⟩
theorem head5 (k : Int) (a b c d e : UInt8) : HeadFact k [a, b, c, d, e] := ⟨by kernel_rfl, by kernel_rfl, by kernel_rfl, by kernel_rfl⟩
theorem head6 (k : Int) (a b c d e f : UInt8) : HeadFact k [a, b, c, d, e, f] := ⟨by kernel_rfl, by kernel_rfl, by kernel_rfl, by kernel_rfl⟩
theorem head7 (k : Int) (a b c d e f g : UInt8) : HeadFact k [a, b, c, d, e, f, g] := ⟨by kernel_rfl, by kernel_rfl, by kernel_rfl, by kernel_rfl⟩
theorem head8 (k : Int) (a b c d e f g h : UInt8) : HeadFact k [a, b, c, d, e, f, g, h] := ⟨by kernel_rfl, by kernel_rfl, by kernel_rfl, by kernel_rfl⟩
theorem head9 (k : Int) (a b c d e f g h i : UInt8) : HeadFact k [a, b, c, d, e, f, g, h, i] := ⟨by kernel_rfl, by kernel_rfl, by kernel_rfl, by kernel_rfl⟩
theorem head10 (k : Int) (a b c d e f g h i j : UInt8) : HeadFact k [a, b, c, d, e, f, g, h, i, j] := ⟨by kernel_rfl, by kernel_rfl, by kernel_rfl, by kernel_rfl⟩

theorem heads (k : Int) : ∀ l : List UInt8, 1 ≤ l.length → l.length ≤ 10 → HeadFact k l
  | [], h, _ => absurd h (by simp)
  | [a], _, _ => head1 k a
  | [a, b], _, _ => head2 k a b
  | [a, b, c], _, _ => head3 k a b c
  | [a, b, c, d], _, _ => head4 k a b c d
  | [a, b, c, d, e], _, _ => head5 k a b c d e
  | [a, b, c, d, e, f], _, _ => head6 k a b c d e f
  | [a, b, c, d, e, f, g], _, _ => head7 k a b c d e f g
  | [a, b, c, d, e, f, g, h], _, _ => head8 k a b c d e f g h
  | [a, b, c, d, e, f, g, h, i], _, _ => head9 k a b c d e f g h i
  | [a, b, c, d, e, f, g, h, i, j], _, _ => head10 k a b c d e f g h i j
  | _ :: _ :: _ :: _ :: _ :: _ :: _ :: _ :: _ :: _ :: _ :: _, _, h => absurd h (by simp)

noncomputable abbrev N21 : Nat := Try.f21.ntmps
theorem hcode21 : Try.f21.body = some code21 := by kernel_rfl
theorem ok21 : codeOk N21 code21 = true := by kernel_rfl
theorem ok_a21 : codeOk N21 (seqL tail21) = true := by kernel_rfl
theorem ok_b21 : codeOk N21 (seqR tail21) = true := by kernel_rfl
theorem seq21 : isSeq tail21 = true := by kernel_rfl

theorem head_spec (k : Int) : ∃ s : List UInt8, SpecC Try.prog (21, [tmpl k], .str s) := by
  obtain ⟨l, h1, h2, cj, hcj, hle, hat⟩ := var_join k
  obtain ⟨hsm, hfs, hcs, hout⟩ := heads k l h1 h2
  cases ho : out21 k l with
  | none => rw [ho] at hout; cases hout
  | some s =>
    refine ⟨s, rfl, rfl, fun w args' ra _ => ?_⟩
    refine calls_of_T (F := 1000) mo po cf_ok Try.func21 hcode21 ra (by rw [Try.ntmps21]; simp) (by rw [Try.ntmps21]; simp [top]) ?_
    refine T_headNx cf_ok 5 ok21 (start21 k) ?_
    refine T_seq' seq21 ?_
    refine T_exec (cf := cj) (F := 1000) (x := .normal) (y := .normal) hcj mo ok_a21 (drawnH_sound hle (h_of hsm) (obs_ok _ hfs ?_)) rfl ?_
    · show ∀ x ∈ callsOf (hObs (h21 k l)), _
      rw [hcs]
      intro x hx
      simp only [List.mem_cons, List.not_mem_nil, or_false] at hx
      subst hx
      exact hat
    · show T Try.prog N21 w (seqR tail21) (hSt (h21 k l)) _
      unfold out21 at ho
      split at ho
      · rename_i s' e
        split at ho
        · rename_i l' h' n' hl
          simp only [Option.some.injEq] at ho; subst ho
          exact T_execT cf_ok mo (seqR tail21) _ _ _ ok_b21 e fun p hp => by
            simp only [List.mem_cons, List.not_mem_nil, or_false] at hp; subst hp; exact ⟨.ret, rfl, .inr rfl, h', n', hl⟩
        · cases ho
      · cases ho

noncomputable def code12 : Code := match Try.f12.body with | some c => c | none => .skip
noncomputable def tail12 : Code := tailN 1 code12
def s12 (k : Int) : St := { fr := frameOf [tmpl k, tmpl k] 0 .nil, h := .nil, n := 0, dfs := [] }
def hint12 (s : List UInt8) : Nat → Option V | 1 => some (.str s) | 3 => some (.str s) | 4 => some (.bool true) | _ => none
noncomputable def cfL : CallF := without 21 cf
noncomputable def a12 (k : Int) : St := nx cf (headN 1 code12) (s12 k)
noncomputable def h12 (k : Int) (s : List UInt8) : Option (St × List Ob) := drawnH Try.prog cfL (hint12 s) (seqL tail12) (a12 k)
noncomputable def out12 (k : Int) (s : List UInt8) : Bool := match execT Try.prog cf 1000 no1 (seqR tail12) (hSt (h12 k s)) with
  | some [(.ret, s')] => match leave Try.prog cf 1000 Try.f12 s'.fr s'.dfs .ret s'.h s'.n with
    | some (.ret (.bool true), _, _) => true
    | _ => false
  | _ => false

theorem start12 (k : Int) : isN cf (headN 1 code12) (s12 k) = true := by kernel_rfl
theorem some12 (k : Int) (s : List UInt8) : (h12 k s).isSome = true := by kernel_rfl
theorem same12 (k : Int) (s : List UInt8) : firsts (hObs (h12 k s)) = seconds (hObs (h12 k s)) := by kernel_rfl
theorem calls12 (k : Int) (s : List UInt8) : callsOf (hObs (h12 k s)) = [(21, [tmpl k], .str s), (21, [tmpl k], .str s)] := by kernel_rfl
theorem end12 (k : Int) (s : List UInt8) : out12 k s = true := by kernel_rfl

noncomputable abbrev N12 : Nat := Try.f12.ntmps
theorem hcode12 : Try.f12.body = some code12 := by kernel_rfl
theorem ok12 : codeOk N12 code12 = true := by kernel_rfl
theorem ok_a12 : codeOk N12 (seqL tail12) = true := by kernel_rfl
theorem ok_b12 : codeOk N12 (seqR tail12) = true := by kernel_rfl
theorem seq12 : isSeq tail12 = true := by kernel_rfl

theorem layers_spec (k : Int) : SpecC Try.prog (12, [tmpl k, tmpl k], .bool true) := by
  obtain ⟨s, hs⟩ := head_spec k
  refine ⟨rfl, rfl, fun w args' ra _ => ?_⟩
  refine calls_of_T (F := 1000) mo po cf_ok Try.func12 hcode12 ra (by rw [Try.ntmps12]; simp) (by rw [Try.ntmps12]; simp [top]) ?_
  refine T_headNx cf_ok 1 ok12 (start12 k) ?_
  refine T_seq' seq12 ?_
  refine T_exec (cf := joinC 21 [tmpl k] (.str s) cfL) (F := 1000) (x := .normal) (y := .normal) (joinC_ok hs (without_ok cf_ok)) mo ok_a12 (drawnH_sound joinC_le (h_of (some12 k s)) (obs_ok _ (same12 k s) ?_)) rfl ?_
  · show ∀ x ∈ callsOf (hObs (h12 k s)), _
    rw [calls12]
    intro x hx
    simp only [List.mem_cons, List.not_mem_nil, or_false] at hx
    rcases hx with rfl | rfl
    · exact fun h n => joinC_at h n
    · exact fun h n => joinC_at h n
  · have he := end12 k s
    show T Try.prog N12 w (seqR tail12) (hSt (h12 k s)) _
    unfold out12 at he
    split at he
    · rename_i s' e
      split at he
      · rename_i h' n' hl
        exact T_execT cf_ok mo (seqR tail12) _ _ _ ok_b12 e fun p hp => by
          simp only [List.mem_cons, List.not_mem_nil, or_false] at hp; subst hp; exact ⟨.ret, rfl, .inr rfl, h', n', hl⟩
      · cases he
    · cases he
end Go.Proofs.Ytljiongmhoooiaa
