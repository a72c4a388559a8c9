/- DocDefault, part C: what its code does at every kind. No conditions. -/
import Derived.Test.YtljiongmhoooiaaEngDefB
namespace Go.Proofs.Ytljiongmhoooiaa
open Go Go.Eng Go.RowKit

def specs12 : List (FuncId × List V × V) := [
  (12, [.agg [.int .i64 0, .int .i64 0, .str [], .bool false, .int .i64 255, .int .i64 0, .bool false, .int .i64 0, .int .i64 0, .int .i64 0, .int .i64 0, .int .i64 0, .int .i64 0, .int .i64 0, .int .i64 0, .slc none 0 0 0, .int .i64 0, .int .i64 0, .int .i64 0, .slc none 0 0 0, .int .i64 0, .int .i64 0, .slc none 0 0 0, .int .u8 0, .int .u8 0, .int .u8 0, .int .u8 0, .slc none 0 0 0, .slc none 0 0 0, .bool false, .slc none 0 0 0], .agg [.int .i64 0, .int .i64 0, .str [], .bool false, .int .i64 255, .int .i64 0, .bool false, .int .i64 0, .int .i64 0, .int .i64 0, .int .i64 0, .int .i64 0, .int .i64 0, .int .i64 0, .int .i64 0, .slc none 0 0 0, .int .i64 0, .int .i64 0, .int .i64 0, .slc none 0 0 0, .int .i64 0, .int .i64 0, .slc none 0 0 0, .int .u8 0, .int .u8 0, .int .u8 0, .int .u8 0, .slc none 0 0 0, .slc none 0 0 0, .bool false, .slc none 0 0 0]], .bool true),
  (12, [.agg [.int .i64 0, .int .i64 1, .str [], .bool false, .int .i64 255, .int .i64 0, .bool false, .int .i64 1, .int .i64 0, .int .i64 0, .int .i64 0, .int .i64 1, .int .i64 0, .int .i64 1, .int .i64 0, .slc none 0 0 0, .int .i64 0, .int .i64 0, .int .i64 0, .slc none 0 0 0, .int .i64 0, .int .i64 0, .slc none 0 0 0, .int .u8 0, .int .u8 0, .int .u8 0, .int .u8 0, .slc none 0 0 0, .slc none 0 0 0, .bool false, .slc none 0 0 0], .agg [.int .i64 0, .int .i64 1, .str [], .bool false, .int .i64 255, .int .i64 0, .bool false, .int .i64 1, .int .i64 0, .int .i64 0, .int .i64 0, .int .i64 1, .int .i64 0, .int .i64 1, .int .i64 0, .slc none 0 0 0, .int .i64 0, .int .i64 0, .int .i64 0, .slc none 0 0 0, .int .i64 0, .int .i64 0, .slc none 0 0 0, .int .u8 0, .int .u8 0, .int .u8 0, .int .u8 0, .slc none 0 0 0, .slc none 0 0 0, .bool false, .slc none 0 0 0]], .bool true),
  (12, [.agg [.int .i64 0, .int .i64 2, .str [], .bool false, .int .i64 255, .int .i64 0, .bool false, .int .i64 0, .int .i64 0, .int .i64 0, .int .i64 0, .int .i64 0, .int .i64 0, .int .i64 0, .int .i64 0, .slc none 0 0 0, .int .i64 0, .int .i64 0, .int .i64 0, .slc none 0 0 0, .int .i64 0, .int .i64 0, .slc none 0 0 0, .int .u8 0, .int .u8 0, .int .u8 0, .int .u8 0, .slc none 0 0 0, .slc none 0 0 0, .bool false, .slc none 0 0 0], .agg [.int .i64 0, .int .i64 2, .str [], .bool false, .int .i64 255, .int .i64 0, .bool false, .int .i64 0, .int .i64 0, .int .i64 0, .int .i64 0, .int .i64 0, .int .i64 0, .int .i64 0, .int .i64 0, .slc none 0 0 0, .int .i64 0, .int .i64 0, .int .i64 0, .slc none 0 0 0, .int .i64 0, .int .i64 0, .slc none 0 0 0, .int .u8 0, .int .u8 0, .int .u8 0, .int .u8 0, .slc none 0 0 0, .slc none 0 0 0, .bool false, .slc none 0 0 0]], .bool true),
  (12, [.agg [.int .i64 0, .int .i64 3, .str [], .bool false, .int .i64 255, .int .i64 0, .bool false, .int .i64 0, .int .i64 0, .int .i64 0, .int .i64 0, .int .i64 0, .int .i64 0, .int .i64 0, .int .i64 0, .slc none 0 0 0, .int .i64 0, .int .i64 6, .int .i64 0, .slc none 0 0 0, .int .i64 0, .int .i64 0, .slc none 0 0 0, .int .u8 0, .int .u8 0, .int .u8 0, .int .u8 0, .slc none 0 0 0, .slc none 0 0 0, .bool false, .slc none 0 0 0], .agg [.int .i64 0, .int .i64 3, .str [], .bool false, .int .i64 255, .int .i64 0, .bool false, .int .i64 0, .int .i64 0, .int .i64 0, .int .i64 0, .int .i64 0, .int .i64 0, .int .i64 0, .int .i64 0, .slc none 0 0 0, .int .i64 0, .int .i64 6, .int .i64 0, .slc none 0 0 0, .int .i64 0, .int .i64 0, .slc none 0 0 0, .int .u8 0, .int .u8 0, .int .u8 0, .int .u8 0, .slc none 0 0 0, .slc none 0 0 0, .bool false, .slc none 0 0 0]], .bool true),
  (12, [.agg [.int .i64 0, .int .i64 4, .str [], .bool false, .int .i64 255, .int .i64 0, .bool false, .int .i64 1, .int .i64 0, .int .i64 0, .int .i64 0, .int .i64 1, .int .i64 0, .int .i64 1, .int .i64 0, .slc none 0 0 0, .int .i64 0, .int .i64 0, .int .i64 0, .slc none 0 0 0, .int .i64 0, .int .i64 0, .slc none 0 0 0, .int .u8 0, .int .u8 0, .int .u8 0, .int .u8 0, .slc none 0 0 0, .slc none 0 0 0, .bool false, .slc none 0 0 0], .agg [.int .i64 0, .int .i64 4, .str [], .bool false, .int .i64 255, .int .i64 0, .bool false, .int .i64 1, .int .i64 0, .int .i64 0, .int .i64 0, .int .i64 1, .int .i64 0, .int .i64 1, .int .i64 0, .slc none 0 0 0, .int .i64 0, .int .i64 0, .int .i64 0, .slc none 0 0 0, .int .i64 0, .int .i64 0, .slc none 0 0 0, .int .u8 0, .int .u8 0, .int .u8 0, .int .u8 0, .slc none 0 0 0, .slc none 0 0 0, .bool false, .slc none 0 0 0]], .bool true),
  (12, [.agg [.int .i64 0, .int .i64 5, .str [], .bool false, .int .i64 255, .int .i64 0, .bool false, .int .i64 0, .int .i64 0, .int .i64 0, .int .i64 0, .int .i64 0, .int .i64 0, .int .i64 0, .int .i64 0, .slc none 0 0 0, .int .i64 0, .int .i64 0, .int .i64 0, .slc none 0 0 0, .int .i64 0, .int .i64 0, .slc none 0 0 0, .int .u8 0, .int .u8 0, .int .u8 0, .int .u8 0, .slc none 0 0 0, .slc none 0 0 0, .bool false, .slc none 0 0 0], .agg [.int .i64 0, .int .i64 5, .str [], .bool false, .int .i64 255, .int .i64 0, .bool false, .int .i64 0, .int .i64 0, .int .i64 0, .int .i64 0, .int .i64 0, .int .i64 0, .int .i64 0, .int .i64 0, .slc none 0 0 0, .int .i64 0, .int .i64 0, .int .i64 0, .slc none 0 0 0, .int .i64 0, .int .i64 0, .slc none 0 0 0, .int .u8 0, .int .u8 0, .int .u8 0, .int .u8 0, .slc none 0 0 0, .slc none 0 0 0, .bool false, .slc none 0 0 0]], .bool true),
  (12, [.agg [.int .i64 0, .int .i64 6, .str [], .bool false, .int .i64 255, .int .i64 0, .bool false, .int .i64 0, .int .i64 0, .int .i64 0, .int .i64 0, .int .i64 0, .int .i64 0, .int .i64 0, .int .i64 0, .slc none 0 0 0, .int .i64 0, .int .i64 0, .int .i64 0, .slc none 0 0 0, .int .i64 0, .int .i64 0, .slc none 0 0 0, .int .u8 0, .int .u8 0, .int .u8 0, .int .u8 0, .slc none 0 0 0, .slc none 0 0 0, .bool false, .slc none 0 0 0], .agg [.int .i64 0, .int .i64 6, .str [], .bool false, .int .i64 255, .int .i64 0, .bool false, .int .i64 0, .int .i64 0, .int .i64 0, .int .i64 0, .int .i64 0, .int .i64 0, .int .i64 0, .int .i64 0, .slc none 0 0 0, .int .i64 0, .int .i64 0, .int .i64 0, .slc none 0 0 0, .int .i64 0, .int .i64 0, .slc none 0 0 0, .int .u8 0, .int .u8 0, .int .u8 0, .int .u8 0, .slc none 0 0 0, .slc none 0 0 0, .bool false, .slc none 0 0 0]], .bool true),
  (12, [.agg [.int .i64 1, .int .i64 2, .str [], .bool false, .int .i64 255, .int .i64 0, .bool false, .int .i64 0, .int .i64 0, .int .i64 0, .int .i64 0, .int .i64 0, .int .i64 0, .int .i64 0, .int .i64 0, .slc none 0 0 0, .int .i64 0, .int .i64 0, .int .i64 0, .slc none 0 0 0, .int .i64 0, .int .i64 0, .slc none 0 0 0, .int .u8 0, .int .u8 0, .int .u8 0, .int .u8 0, .slc none 0 0 0, .slc none 0 0 0, .bool false, .slc none 0 0 0], .agg [.int .i64 1, .int .i64 2, .str [], .bool false, .int .i64 255, .int .i64 0, .bool false, .int .i64 0, .int .i64 0, .int .i64 0, .int .i64 0, .int .i64 0, .int .i64 0, .int .i64 0, .int .i64 0, .slc none 0 0 0, .int .i64 0, .int .i64 0, .int .i64 0, .slc none 0 0 0, .int .i64 0, .int .i64 0, .slc none 0 0 0, .int .u8 0, .int .u8 0, .int .u8 0, .int .u8 0, .slc none 0 0 0, .slc none 0 0 0, .bool false, .slc none 0 0 0]], .bool true)]

theorem specs12_good : specs12.all (specGood cf) = true := by kernel_rfl
theorem specs12_ok : ∀ x ∈ specs12, SpecOk Try.prog x := spec_of cf_ok specs12_good

noncomputable def cf4 : CallF := callM Try.prog (specs12 ++ specs) 1000 60
theorem cf4_ok : CallOk Try.prog cf4 := callM_ok mo po (fun x hx => by
  rcases List.mem_append.1 hx with h | h
  · exact specs12_ok x h
  · exact specs_ok x h) 60

noncomputable def code4 : Code := match Try.f4.body with | some c => c | none => .skip
noncomputable def tail4 : Code := tailN 6 code4
noncomputable def rest4 : Code := seqR tail4
def live4 : List Nat := [3, 4]
def s4 (k : Int) : St := { fr := frameOf [.int .i64 k] 0 .nil, h := .nil, n := 0, dfs := [] }
noncomputable def a4 (k : Int) : St := nx cf4 (headN 6 code4) (s4 k)
/-- behind the first test: ok and the new document -/
noncomputable def tgt4 : St := match norm live4 (nx cf4 (seqL tail4) (a4 0)) with | some t => t | none => default

def endsTrue4 (P : Program) (cf : CallF) (fn : Func) (c : Code) (s : St) : Bool :=
  match exec P cf 1000 c s with
  | some (.ret, s') => match leave P cf 1000 fn s'.fr s'.dfs .ret s'.h s'.n with
    | some (.ret (.bool true), _, _) => true
    | _ => false
  | _ => false

theorem rest4_true : endsTrue4 Try.prog cf4 Try.f4 rest4 tgt4 = true := by kernel_rfl

def Closed4 (k : Int) : Prop := isN cf4 (headN 6 code4) (s4 k) = true ∧ goT Try.prog cf4 1000 no1 live4 [] (seqL tail4) (a4 k) tgt4 = some [[]]
theorem closed4_0 : Closed4 0 := ⟨by kernel_rfl, by kernel_rfl⟩
theorem closed4_1 : Closed4 1 := ⟨by kernel_rfl, by kernel_rfl⟩
theorem closed4_2 : Closed4 2 := ⟨by kernel_rfl, by kernel_rfl⟩
theorem closed4_3 : Closed4 3 := ⟨by kernel_rfl, by kernel_rfl⟩
theorem closed4_4 : Closed4 4 := ⟨by kernel_rfl, by kernel_rfl⟩
theorem closed4_5 : Closed4 5 := ⟨by kernel_rfl, by kernel_rfl⟩
theorem closed4_6 : Closed4 6 := ⟨by kernel_rfl, by kernel_rfl⟩

noncomputable def cfN : CallF := without 12 cf4
def hint4 : Nat → Option V | 12 => some (.bool true) | _ => none
noncomputable def h4 (k : Int) : Option (St × List Ob) := drawnH Try.prog cfN hint4 (seqL (seqL tail4)) (a4 k)
def Open4 (k : Int) : Prop := isN cf4 (headN 6 code4) (s4 k) = true ∧ (h4 k).isSome = true ∧ firsts (hObs (h4 k)) = seconds (hObs (h4 k)) ∧ callsOf (hObs (h4 k)) = [(12, [tmpl k, tmpl k], .bool true)] ∧
  goT Try.prog cf4 1000 no1 live4 [] (seqR (seqL tail4)) (hSt (h4 k)) tgt4 = some [[]]
theorem open4_pos (m : Nat) : Open4 (.ofNat (m + 7)) := ⟨by kernel_rfl, by kernel_rfl, by kernel_rfl, by kernel_rfl, by kernel_rfl⟩
theorem open4_neg (m : Nat) : Open4 (.negSucc m) := ⟨by kernel_rfl, by kernel_rfl, by kernel_rfl, by kernel_rfl, by kernel_rfl⟩

noncomputable abbrev N4 : Nat := Try.f4.ntmps
theorem hcode4 : Try.f4.body = some code4 := by kernel_rfl
theorem ok4 : codeOk N4 code4 = true := by kernel_rfl
theorem ok_first4 : codeOk N4 (seqL tail4) = true := by kernel_rfl
theorem ok_r7 : codeOk N4 (seqL (seqL tail4)) = true := by kernel_rfl
theorem ok_c47 : codeOk N4 (seqR (seqL tail4)) = true := by kernel_rfl
theorem ok_rest4 : codeOk N4 rest4 = true := by kernel_rfl
theorem seq4 : isSeq tail4 = true := by kernel_rfl
theorem seq4' : isSeq (seqL tail4) = true := by kernel_rfl

def Ends4 : Exit → St → Prop := fun y s' => (y = .normal ∨ y = .ret) ∧ ∃ h' n', leave Try.prog cf4 1000 Try.f4 s'.fr s'.dfs .ret s'.h s'.n = some (.ret (.bool true), h', n')

theorem rest4_ends {w0 : World} : T Try.prog N4 w0 rest4 tgt4 Ends4 := by
  have h := rest4_true
  unfold endsTrue4 at h
  split at h
  · rename_i s' e
    split at h
    · rename_i h' n' hl
      exact T_exec cf4_ok mo ok_rest4 e rfl ⟨.inr rfl, h', n', hl⟩
    · cases h
  · cases h

theorem over_nil (s : St) : s.over [] = s := rfl

theorem walk4_closed {w0 : World} {k : Int} (h : Closed4 k) : T Try.prog N4 w0 code4 (s4 k) Ends4 := by
  refine T_headNx cf4_ok 6 ok4 h.1 (T_seq' seq4 ?_)
  refine T_go cf4_ok mo (l := []) (fun x hx => by simp at hx) (fun x hx => by simp at hx) ok_first4 h.2 (fun x hx => by simp only [List.mem_cons, List.not_mem_nil, or_false] at hx; rw [hx]; rfl) ?_
  rw [over_nil]
  exact rest4_ends

theorem walk4_open {w0 : World} {k : Int} (h : Open4 k) : T Try.prog N4 w0 code4 (s4 k) Ends4 := by
  obtain ⟨h1, h2, h3, h4', h5⟩ := h
  refine T_headNx cf4_ok 6 ok4 h1 (T_seq' seq4 (T_seq' seq4' ?_))
  refine T_exec (cf := joinC 12 [tmpl k, tmpl k] (.bool true) cfN) (F := 1000) (x := .normal) (y := .normal) (joinC_ok (layers_spec k) (without_ok cf4_ok)) mo ok_r7 (drawnH_sound joinC_le (h_of h2) (obs_ok _ h3 ?_)) rfl ?_
  · show ∀ x ∈ callsOf (hObs (h4 k)), _
    rw [h4']
    intro x hx
    simp only [List.mem_cons, List.not_mem_nil, or_false] at hx
    subst hx
    exact fun h n => joinC_at h n
  · refine T_go cf4_ok mo (l := []) (fun x hx => by simp at hx) (fun x hx => by simp at hx) ok_c47 h5 (fun x hx => by simp only [List.mem_cons, List.not_mem_nil, or_false] at hx; rw [hx]; rfl) ?_
    rw [over_nil]
    exact rest4_ends

theorem walk4 {w0 : World} : ∀ k : Int, T Try.prog N4 w0 code4 (s4 k) Ends4
  | .ofNat 0 => walk4_closed closed4_0
  | .ofNat 1 => walk4_closed closed4_1
  | .ofNat 2 => walk4_closed closed4_2
  | .ofNat 3 => walk4_closed closed4_3
  | .ofNat 4 => walk4_closed closed4_4
  | .ofNat 5 => walk4_closed closed4_5
  | .ofNat 6 => walk4_closed closed4_6
  | .ofNat (m + 7) => walk4_open (open4_pos m)
  | .negSucc m => walk4_open (open4_neg m)

theorem default_calls (a0 : Int) (w : World) : Calls Try.prog 4 #[.int .i64 a0] w fun e w' => e = .returned (.bool true) ∧ Below w.heap.size w w' := by
  refine (calls_of_T (F := 1000) (v := .bool true) mo po cf4_ok Try.func4 hcode4 (args := [.int .i64 a0]) (args' := [.int .i64 a0]) (w := w) ⟨_, _, rfl, rfl, rfl⟩ ?_ ?_ (walk4 a0)).mono fun e w' ⟨⟨E, ho⟩, hb⟩ => ⟨?_, hb⟩
  · rw [Try.ntmps4]; simp
  · rw [Try.ntmps4]; simp [top]
  · cases e <;> simp only [outrel] at ho
    simp only [vrel] at ho
    rw [ho]
end Go.Proofs.Ytljiongmhoooiaa
