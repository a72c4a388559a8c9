/- DocDepth, part A: the pieces of its code, and the states at the head of its loop. No conditions. -/
import Derived.Test.YtljiongmhoooiaaEngDoc
namespace Go.Proofs.Ytljiongmhoooiaa
open Go Go.Eng

noncomputable def code3 : Code := match Try.f3.body with | some c => c | none => .skip
noncomputable def tail9 : Code := tailN 9 (tailN 4 code3)
noncomputable def loop3 : Code := seqL tail9
noncomputable def rest3 : Code := seqR tail9
noncomputable def body3 : Code := inner (inner (seqR loop3))
noncomputable def test3 : Code := seqL (seqL body3)
noncomputable def round3 : Code := seqR body3

def live3 : List Nat := [2, 7, 9, 11, 12, 13, 14]
def none3 : Nat → Bool := fun _ => false
def unk3 : Nat → Bool := fun t => Nat.beq t 68

/-- ok and closed alone -/
def sA (c : Bool) : St := { fr := (Tr.nil.set 2 (some (.bool c))).set 7 (some (.bool true)), h := .nil, n := 0, dfs := [] }

noncomputable def runOn (c : Code) (s : St) : St := match exec Try.prog cf 1000 c s with
  | some (.normal, s') => match norm live3 s' with
    | some t => t
    | none => default
  | _ => default

def z3 : V := .int .i64 0
noncomputable def sB (c : Bool) : St := runOn (headN 9 (tailN 4 code3)) (sA c)

/-- the head of the loop, before round i + 1 (the field Next blanked) -/
noncomputable def S3 (c : Bool) : Nat → St
  | 0 => (runOn (seqL loop3) (sB c)).cell 0 2 z3
  | i + 1 => (runOn round3 ((S3 c i).over [(1, .int .u16 0)])).cell 0 2 z3

/-- the same, with the open values in it -/
noncomputable def at3 (c : Bool) (i : Nat) (x : Int) (l : List (Nat × V)) : St := ((S3 c i).cell 0 2 (.int .i64 x)).over l

def l2 (bits m : Int) : List (Nat × V) := [(1, .int .u16 bits), (8, .int .i64 m)]
def l3 (bits m : Int) (b : Bool) : List (Nat × V) := [(1, .int .u16 bits), (8, .int .i64 m), (48, .bool b)]

def endsTrue (P : Program) (cf : CallF) (F : Nat) (fn : Func) (c : Code) (s : St) : Bool :=
  match exec P cf F c s with
  | some (.ret, s') => match leave P cf F fn s'.fr s'.dfs .ret s'.h s'.n with
    | some (.ret (.bool true), _, _) => true
    | _ => false
  | _ => false

def A3 (c : Bool) (i : Nat) : Prop := ∀ bits m x, goC Try.prog cf 1000 none3 live3 [1, 8, 48] 0 2 z3 test3 (at3 c i x (l2 bits m)) (S3 c i) = some ([[some (.int .u16 bits), some (.int .i64 m), some (.bool (decide ((i : Int) + 1 < m)))]], [some (.int .i64 x)])
def B3 (c : Bool) (i : Nat) : Prop := ∀ bits m b x, goC Try.prog cf 1000 unk3 live3 [1, 8] 0 2 z3 round3 (at3 c i x (l3 bits m b)) (S3 c (i + 1)) = some ([[some (.int .u16 bits), some (.int .i64 m)], [some (.int .u16 bits), some (.int .i64 m)]], [some (.int .i64 ((i : Int) + 5)), some (.int .i64 x)])
def C3 (c : Bool) (i : Nat) : Prop := ∀ bits b x, endsTrue Try.prog cf 1000 Try.f3 rest3 (at3 c i x (l3 bits ((i : Int) + 1) b)) = true
end Go.Proofs.Ytljiongmhoooiaa
