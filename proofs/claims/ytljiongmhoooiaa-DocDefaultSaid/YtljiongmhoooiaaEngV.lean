/- The engine, part V: draws in which some results are given by hand. No conditions: lemmas alone. -/
import Derived.Test.YtljiongmhoooiaaEngY
namespace Go.Eng
open Go Go.RowKit

/-! is the test of equality reflexive at it? (it is not at the functions that the evaluator does not take) -/
mutual
def V.plainFn : V → Bool
  | .fn (.func _) a c => V.plainFns a && V.plainFns c
  | .fn _ _ _ => false
  | .iface _ x => V.plainFn x
  | .agg cs => V.plainFns cs
  | .tup cs => V.plainFns cs
  | _ => true
def V.plainFns : List V → Bool
  | [] => true
  | x :: xs => V.plainFn x && V.plainFns xs
end

mutual
theorem V.beq_refl : ∀ v : V, v.plainFn = true → V.beq v v = true
  | .bool b, _ => by cases b <;> rfl
  | .int k n, _ => by simp [V.beq]
  | .str s, _ => by simp [V.beq, beqB_eq]
  | .ptr none, _ => rfl
  | .ptr (some (m, o)), _ => by simp [V.beq, beqAddr]
  | .slc none l c e, _ => by simp [V.beq, beqAddr]
  | .slc (some (m, o)) l c e, _ => by simp [V.beq, beqAddr]
  | .map none, _ => rfl
  | .map (some m), _ => by simp [V.beq, beqNat?]
  | .fn f a c, h => by
    cases f <;> simp only [V.plainFn, Bool.false_eq_true, Bool.and_eq_true] at h
    simp [V.beq, beqFn, V.beqs_refl a h.1, V.beqs_refl c h.2]
  | .nilFn, _ => rfl
  | .iface t x, h => by simp only [V.plainFn] at h; simp [V.beq, V.beq_refl x h]
  | .nilIface, _ => rfl
  | .agg cs, h => by simp only [V.plainFn] at h; simp [V.beq, V.beqs_refl cs h]
  | .tup cs, h => by simp only [V.plainFn] at h; simp [V.beq, V.beqs_refl cs h]
theorem V.beqs_refl : ∀ vs : List V, V.plainFns vs = true → V.beqs vs vs = true
  | [], _ => rfl
  | x :: xs, h => by simp only [V.plainFns, Bool.and_eq_true] at h; simp [V.beqs, V.beq_refl x h.1, V.beqs_refl xs h.2]
end

/-- what is to be shown beside a run: that two values are one, or what a call gives -/
inductive Ob where
  | same (a b : V)
  | call (f : FuncId) (args : List V) (v : V)

def Ob.ok (cf : CallF) : Ob → Prop
  | .same a b => a = b
  | .call f args v => ∀ h n, cf f args h n = some (.ret v, h, n)

def strEq (op : Op) (fr : Tr V) : Option (List UInt8 × List UInt8) :=
  match op with
  | .binOp .eql _ x y _ => match opd fr x, opd fr y with
    | some (.str a), some (.str b) => some (a, b)
    | _, _ => none
  | _ => none

def readPairs (P : Program) (n0 i : Nat) (o : Oper) (fr : Tr V) (v : V) (x : Tr O) : Option (List Ob) :=
  match stepOp P o fr x (n0 + i) with
  | some (.val u _ k) => match Nat.beq k (n0 + i) && v.plainFn with
    | true => some [.same u v]
    | false => none
  | _ => none

theorem readPairs_ok {P : Program} {cf : CallF} {n0 i : Nat} {o : Oper} {fr : Tr V} {v : V} {x : Tr O} {l : List Ob} (e : readPairs P n0 i o fr v x = some l) (h : ∀ p ∈ l, p.ok cf) : readsSame P n0 i o fr v x = true := by
  unfold readPairs at e
  unfold readsSame
  split at e
  · rename_i u h' k hs
    split at e
    · rename_i hb
      simp only [Option.some.injEq] at e; subst e
      simp only [Bool.and_eq_true] at hb
      have : u = v := h (.same u v) (by simp)
      subst this
      simp only [hs, hb.1, V.beq_refl u hb.2, Bool.and_self]
    · cases e
  · cases e

def histPairs (P : Program) (n0 i : Nat) (o : Oper) (fr : Tr V) (v : V) (allocs : List (Nat × O)) (anc : Nat) : List (Nat × Nat × Tr O) → Option (List Ob)
  | [] => some []
  | (e, m, x) :: r => match hasBit anc e with
    | true => some []
    | false => match readPairs P n0 i o fr v (view n0 allocs m x anc) with
      | some a => match histPairs P n0 i o fr v allocs anc r with
        | some b => some (a ++ b)
        | none => none
      | none => none

theorem histPairs_ok {P : Program} {cf : CallF} {n0 i : Nat} {o : Oper} {fr : Tr V} {v : V} {allocs : List (Nat × O)} {anc : Nat} : ∀ (hs : List (Nat × Nat × Tr O)) (l : List Ob), histPairs P n0 i o fr v allocs anc hs = some l → (∀ p ∈ l, p.ok cf) → histOk P n0 i o fr v allocs anc hs = true
  | [], _, _, _ => rfl
  | (e, m, x) :: r, l, h, hp => by
    simp only [histPairs] at h
    simp only [histOk]
    split at h
    · rename_i hb; rw [if_pos hb]
    · rename_i hb
      rw [if_neg (by simp [hb])]
      split at h
      · rename_i a ha
        split at h
        · rename_i b hb'
          simp only [Option.some.injEq] at h; subst h
          rw [readPairs_ok ha fun p hp' => hp p (by simp [hp']), histPairs_ok r b hb' fun p hp' => hp p (by simp [hp'])]
          rfl
        · cases h
      · cases h

def readsPairs (P : Program) (n0 : Nat) (allocs : List (Nat × O)) (m : Nat) (x : Tr O) : List (Nat × Nat × Oper × Tr V × V) → Option (List Ob)
  | [] => some []
  | (j, anc, o, fr, v) :: r => match readsPairs P n0 allocs m x r with
    | some b => match hasBit m j with
      | true => some b
      | false => match readPairs P n0 j o fr v (view n0 allocs m x anc) with
        | some a => some (a ++ b)
        | none => none
    | none => none

theorem readsPairs_ok {P : Program} {cf : CallF} {n0 : Nat} {allocs : List (Nat × O)} {m : Nat} {x : Tr O} : ∀ (rs : List (Nat × Nat × Oper × Tr V × V)) (l : List Ob), readsPairs P n0 allocs m x rs = some l → (∀ p ∈ l, p.ok cf) → readsOk P n0 allocs m x rs = true
  | [], _, _, _ => rfl
  | (j, anc, o, fr, v) :: r, l, h, hp => by
    simp only [readsPairs] at h
    simp only [readsOk]
    split at h
    · rename_i b hb
      split at h
      · rename_i hj
        simp only [Option.some.injEq] at h; subst h
        rw [hj, readsPairs_ok r b hb hp]; rfl
      · split at h
        · rename_i a ha
          simp only [Option.some.injEq] at h; subst h
          rw [readPairs_ok ha fun p hp' => hp p (by simp [hp']), readsPairs_ok r b hb fun p hp' => hp p (by simp [hp'])]
          simp
        · cases h
    · cases h

def afterH (P : Program) (n0 i anc : Nat) (o : Oper) (s : Dr) (v : V) (h : Tr O) (n : Nat) : Option (Dr × List Ob) :=
  match putD s.fr o.dst v with
  | some fr => match readsPairs P n0 s.allocs anc h s.reads with
    | some l => some ({ fr := fr, masks := s.masks ++ [anc], cur := (anc, h), hist := (i, s.cur.1, s.cur.2) :: s.hist, last := some i, allocs := s.allocs, reads := s.reads, n := n }, l)
    | none => none
  | none => none

theorem afterH_ok {P : Program} {cf : CallF} {n0 i anc : Nat} {o : Oper} {s s' : Dr} {v : V} {h : Tr O} {n : Nat} {l : List Ob} (e : afterH P n0 i anc o s v h n = some (s', l)) (hp : ∀ p ∈ l, p.ok cf) : afterEff P n0 i anc o s v h n = some s' := by
  unfold afterH at e
  unfold afterEff
  split at e
  · rename_i fr hfr
    split at e
    · rename_i l' hl
      simp only [Option.some.injEq, Prod.mk.injEq] at e
      obtain ⟨rfl, rfl⟩ := e
      simp only [hfr, readsPairs_ok _ _ hl hp, if_true]
    · cases e
  · cases e

def drawH (P : Program) (cf : CallF) (ops : Array Oper) (n0 i : Nat) (hint : Option V) (o : Oper) (s : Dr) : Option (Dr × List Ob) :=
  match wantedV ops o s.fr with
  | some false => match putD s.fr o.dst (.tup []) with
    | some fr => some ({ s with fr := fr, masks := s.masks ++ [maskOf s.masks o.after.toList] }, [])
    | none => none
  | some true =>
    match isEff o.op with
    | true => match lastOk (maskOf s.masks o.after.toList) s.last with
      | true => match stepOp P o s.fr (view n0 s.allocs s.cur.1 s.cur.2 (maskOf s.masks o.after.toList)) s.n with
        | some (.val v h n) => afterH P n0 i (maskOf s.masks o.after.toList) o s v h n
        | some (.call f args) => match hint with
          | some v => match afterH P n0 i (maskOf s.masks o.after.toList) o s v (view n0 s.allocs s.cur.1 s.cur.2 (maskOf s.masks o.after.toList)) s.n with
            | some (s', l) => some (s', .call f args v :: l)
            | none => none
          | none => match cf f args (view n0 s.allocs s.cur.1 s.cur.2 (maskOf s.masks o.after.toList)) s.n with
            | some (.ret v, h, n) => afterH P n0 i (maskOf s.masks o.after.toList) o s v h n
            | _ => none
        | _ => none
      | false => none
    | false => match hint with
      | some _ => match strEq o.op s.fr with
        | some (a, b) => match putD s.fr o.dst (.bool true) with
          | some fr => some ({ s with fr := fr, masks := s.masks ++ [maskOf s.masks o.after.toList] }, [.same (.str a) (.str b)])
          | none => none
        | none => none
      | none => match stepOp P o s.fr (view n0 s.allocs s.cur.1 s.cur.2 (maskOf s.masks o.after.toList)) (n0 + i) with
        | some (.val v h k) => match putD s.fr o.dst v with
          | some fr => match Nat.beq k (n0 + i) with
            | true => match isPure o.op with
              | true => some ({ s with fr := fr, masks := s.masks ++ [maskOf s.masks o.after.toList] }, [])
              | false => match histPairs P n0 i o s.fr v s.allocs (maskOf s.masks o.after.toList) s.hist with
                | some l => some ({ s with fr := fr, masks := s.masks ++ [maskOf s.masks o.after.toList], reads := (i, maskOf s.masks o.after.toList, o, s.fr, v) :: s.reads }, l)
                | none => none
            | false => match h.get (n0 + i) with
              | some b => some ({ s with fr := fr, masks := s.masks ++ [maskOf s.masks o.after.toList], allocs := (i, b) :: s.allocs }, [])
              | none => none
          | none => none
        | _ => none
  | none => none

theorem drawH_sound {P : Program} {cf cj : CallF} {ops : Array Oper} {n0 i : Nat} {hint : Option V} {o : Oper} {s s' : Dr} {obs : List Ob} (hle : ∀ f args h n r, cf f args h n = some r → cj f args h n = some r) (e : drawH P cf ops n0 i hint o s = some (s', obs)) (ho : ∀ x ∈ obs, x.ok cj) :
    drawOp P cj ops n0 i o s = some (.inl s') := by
  unfold drawH at e
  split at e
  · rename_i hw
    split at e
    · rename_i fr hfr
      simp only [Option.some.injEq, Prod.mk.injEq] at e
      obtain ⟨rfl, rfl⟩ := e
      unfold drawOp
      simp only [hw, hfr]
    · cases e
  · rename_i hw
    split at e
    · rename_i heff
      split at e
      · rename_i hl
        split at e
        · rename_i v h n hs
          unfold drawOp
          simp only [hw, heff, hl, if_true, hs, afterH_ok e ho]
        · rename_i f args hs
          split at e
          · rename_i v
            split at e
            · rename_i s1 l1 h1
              simp only [Option.some.injEq, Prod.mk.injEq] at e
              obtain ⟨rfl, rfl⟩ := e
              have hc : ∀ h n, cj f args h n = some (.ret v, h, n) := ho (.call f args v) (by simp)
              unfold drawOp
              simp only [hw, heff, hl, if_true, hs, hc, afterH_ok h1 fun p hp => ho p (by simp [hp])]
            · cases e
          · split at e
            · rename_i v h n hc
              unfold drawOp
              simp only [hw, heff, hl, if_true, hs, hle _ _ _ _ _ hc, afterH_ok e ho]
            · cases e
        · cases e
      · cases e
    · rename_i heff
      split at e
      · split at e
        · rename_i a b hs
          split at e
          · rename_i fr1 hp
            simp only [Option.some.injEq, Prod.mk.injEq] at e
            obtain ⟨rfl, rfl⟩ := e
            have hab : V.str a = V.str b := ho (.same (.str a) (.str b)) (by simp)
            simp only [V.str.injEq] at hab
            subst hab
            unfold strEq at hs
            split at hs
            · rename_i t x y g hop
              split at hs
              · rename_i a' b' hx hy
                simp only [Option.some.injEq, Prod.mk.injEq] at hs
                obtain ⟨rfl, rfl⟩ := hs
                have hst : ∀ (h : Tr O) (n : Nat), stepOp P o s.fr h n = some (.val (.bool true) h n) := by
                  intro h n
                  unfold stepOp
                  rw [hop]
                  simp only [hx, hy, binV, strOp, beqB_eq, beq_self_eq_true, okV]
                have hpure : isPure o.op = true := by rw [hop]; rfl
                unfold drawOp
                simp only [hw, heff, Bool.false_eq_true, if_false, hst, hp, hpure, if_true, Nat.beq_refl]
              · cases hs
            · cases hs
          · cases e
        · cases e
      · split at e
        · rename_i v h k hs
          split at e
          · rename_i fr hfr
            split at e
            · rename_i hk
              split at e
              · rename_i hpu
                simp only [Option.some.injEq, Prod.mk.injEq] at e
                obtain ⟨rfl, rfl⟩ := e
                unfold drawOp
                simp only [hw, heff, Bool.false_eq_true, if_false, hs, hfr, hk, hpu, if_true]
              · rename_i hpu
                split at e
                · rename_i l hl
                  simp only [Option.some.injEq, Prod.mk.injEq] at e
                  obtain ⟨rfl, rfl⟩ := e
                  unfold drawOp
                  simp only [hw, heff, Bool.false_eq_true, if_false, hs, hfr, hk, hpu, if_true, histPairs_ok _ _ hl ho]
                · cases e
            · rename_i hk
              split at e
              · rename_i b hb
                simp only [Option.some.injEq, Prod.mk.injEq] at e
                obtain ⟨rfl, rfl⟩ := e
                unfold drawOp
                simp only [hw, heff, Bool.false_eq_true, if_false, hs, hfr, hk, hb]
              · cases e
          · cases e
        · cases e
  · cases e

def drawsH (P : Program) (cf : CallF) (ops : Array Oper) (n0 : Nat) (hint : Nat → Option V) : List Oper → Nat → Dr → Option (Dr × List Ob)
  | [], _, s => some (s, [])
  | o :: r, i, s => match drawH P cf ops n0 i (hint i) o s with
    | some (s', obs) => match drawsH P cf ops n0 hint r (i + 1) s' with
      | some (s2, obs2) => some (s2, obs ++ obs2)
      | none => none
    | none => none

theorem drawsH_sound {P : Program} {cf cj : CallF} {ops : Array Oper} {n0 : Nat} {hint : Nat → Option V} (hle : ∀ f args h n r, cf f args h n = some r → cj f args h n = some r) : ∀ (l : List Oper) (i : Nat) (s s' : Dr) (obs : List Ob), drawsH P cf ops n0 hint l i s = some (s', obs) → (∀ x ∈ obs, x.ok cj) →
    drawOps P cj ops n0 l i s = some (.inl s')
  | [], i, s, s', obs, e, _ => by
    simp only [drawsH, Option.some.injEq, Prod.mk.injEq] at e
    obtain ⟨rfl, rfl⟩ := e
    rfl
  | o :: r, i, s, s', obs, e, ho => by
    simp only [drawsH] at e
    split at e
    · rename_i s1 obs1 h1
      split at e
      · rename_i s2 obs2 h2
        simp only [Option.some.injEq, Prod.mk.injEq] at e
        obtain ⟨rfl, rfl⟩ := e
        simp only [drawOps]
        rw [drawH_sound hle h1 fun x hx => ho x (by simp [hx])]
        exact drawsH_sound hle r (i + 1) s1 s2 obs2 h2 fun x hx => ho x (by simp [hx])
      · cases e
    · cases e

def drawnH (P : Program) (cf : CallF) (hint : Nat → Option V) (c : Code) (s : St) : Option (St × List Ob) :=
  match c with
  | .region _ ops true =>
    if s.n + ops.size < top then
      match drawsH P cf ops s.n hint ops.toList 0 { fr := s.fr, masks := [], cur := (0, s.h), hist := [], last := none, allocs := [], reads := [], n := s.n + ops.size } with
      | some (d, obs) => some ({ fr := d.fr, h := view s.n d.allocs d.cur.1 d.cur.2 (2 ^ ops.size - 1), n := d.n, dfs := s.dfs }, obs)
      | none => none
    else none
  | _ => none

theorem drawnH_sound {P : Program} {cf cj : CallF} {F : Nat} {hint : Nat → Option V} {c : Code} {s s' : St} {obs : List Ob} (hle : ∀ f args h n r, cf f args h n = some r → cj f args h n = some r) (e : drawnH P cf hint c s = some (s', obs)) (ho : ∀ x ∈ obs, x.ok cj) :
    exec P cj F c s = some (.normal, s') := by
  unfold drawnH at e
  split at e
  · rename_i id ops
    split at e
    · rename_i hlt
      split at e
      · rename_i d obs' h1
        simp only [Option.some.injEq, Prod.mk.injEq] at e
        obtain ⟨rfl, rfl⟩ := e
        simp only [exec, drawn, if_pos hlt]
        rw [drawsH_sound hle _ _ _ _ _ h1 ho]
      · cases e
    · cases e
  · cases e

/-- the state behind, and what is to be shown, of a run with hints: the pairs that are to be one, and the calls -/
def hSt : Option (St × List Ob) → St | some (s, _) => s | none => default
def hObs : Option (St × List Ob) → List Ob | some (_, l) => l | none => []
def firsts : List Ob → List V | [] => [] | .same a _ :: r => a :: firsts r | .call _ _ _ :: r => firsts r
def seconds : List Ob → List V | [] => [] | .same _ b :: r => b :: seconds r | .call _ _ _ :: r => seconds r
def callsOf : List Ob → List (FuncId × List V × V) | [] => [] | .same _ _ :: r => callsOf r | .call f a v :: r => (f, a, v) :: callsOf r

theorem h_of {r : Option (St × List Ob)} (h : r.isSome = true) : r = some (hSt r, hObs r) := by
  cases r with
  | none => cases h
  | some p => rfl

theorem obs_ok {cf : CallF} : ∀ (l : List Ob), firsts l = seconds l → (∀ x ∈ callsOf l, ∀ h n, cf x.1 x.2.1 h n = some (.ret x.2.2, h, n)) → ∀ x ∈ l, x.ok cf
  | [], _, _, x, hx => by simp at hx
  | .same a b :: r, h1, h2, x, hx => by
    simp only [firsts, seconds, List.cons.injEq] at h1
    simp only [List.mem_cons] at hx
    rcases hx with rfl | hx
    · exact h1.1
    · exact obs_ok r h1.2 h2 x hx
  | .call f a v :: r, h1, h2, x, hx => by
    simp only [firsts, seconds] at h1
    simp only [callsOf, List.mem_cons, forall_eq_or_imp] at h2
    simp only [List.mem_cons] at hx
    rcases hx with rfl | hx
    · exact h2.1
    · exact obs_ok r h1 h2.2 x hx

/-! ### a contract that holds in every world -/
def SpecC (P : Program) (x : FuncId × List V × V) : Prop := V.frees x.2.1 = true ∧ x.2.2.free = true ∧ ∀ (w : World) (args' : List Value), vrels E0 x.2.1 args' → callee P x.1 = true →
  Calls P x.1 args'.toArray w fun e w' => (∃ E, outrel E (.ret x.2.2) e) ∧ Below w.heap.size w w'

theorem specC_of {P : Program} {x : FuncId × List V × V} (h : SpecOk P x) : SpecC P x := by
  obtain ⟨h1, h2, cf, h', n', hc, e⟩ := h
  refine ⟨h1, h2, fun w args' ra hcal => ?_⟩
  refine (hc x.1 x.2.1 .nil 0 _ h' n' e E0 w args' ra (good0 w) (dom0 0) hcal).mono fun en w' ⟨E1, u, _, _, _, ho⟩ => ⟨⟨E1, ho⟩, u.os, u.tape, u.output, u.size, fun k hk => u.keep k hk fun m s hm => by simp [Tr.get] at hm⟩

theorem specC_calls {P : Program} {f : FuncId} {args : List V} {v : V} (hs : SpecC P (f, args, v)) {E : Env} {h : Tr O} {n : Nat} {w : World} {args' : List Value} (ra : vrels E args args') (g : Good E h w) (hd : Dom E n) (hc : callee P f = true) :
    Calls P f args'.toArray w fun e w' => ∃ E', Upd E h w E' h w' ∧ (∀ m, m < n → E'.ι m = E.ι m) ∧ Dom E' n ∧ n ≤ n ∧ outrel E' (.ret v) e := by
  obtain ⟨ha, hv, hcalls⟩ := hs
  refine (hcalls w args' (frees_rel _ _ ha ra) hc).mono fun en w' ⟨⟨E1, ho⟩, b⟩ => ?_
  refine ⟨E, ⟨E.le_refl, ⟨?_, g.inj, fun m b' s hm => Nat.lt_of_lt_of_le (g.bnd m b' s hm) b.size⟩, b.size, b.tape, b.os, b.output, fun k hk _ => b.block k hk, fun m b' s hm he _ => ⟨m, s, hm, he⟩⟩, fun _ _ => rfl, hd, Nat.le_refl _, ?_⟩
  · intro m o hm
    obtain ⟨b', s, h1, h2⟩ := g.rel m o hm
    exact ⟨b', s, h1, orel_mono E.le_refl rfl (b.block b' (g.bnd m b' s h1)) h2⟩
  · cases en with
    | returned v' => exact free_rel _ _ hv ho
    | _ => exact ho.elim

/-- calls of one function, known by contract at some arguments, joined to an evaluator of calls that leaves that function out -/
def without (f : FuncId) (cf : CallF) : CallF := fun g args h n => match Nat.beq g f with
  | true => none
  | false => cf g args h n

open Classical in
noncomputable def joinC (f : FuncId) (args : List V) (v : V) (cf : CallF) : CallF := fun g as h n =>
  match cf g as h n with
  | some r => some r
  | none => if g = f ∧ as = args then some (.ret v, h, n) else none

theorem joinC_le {f : FuncId} {args : List V} {v : V} {cf : CallF} : ∀ g as h n r, cf g as h n = some r → joinC f args v cf g as h n = some r := by
  intro g as h n r e
  simp only [joinC, e]

theorem without_ok {P : Program} {f : FuncId} {cf : CallF} (h : CallOk P cf) : CallOk P (without f cf) := by
  intro g args h' n out h2 n2 e
  unfold without at e
  split at e
  · cases e
  · exact h g args h' n out h2 n2 e

theorem joinC_ok {P : Program} {f : FuncId} {args : List V} {v : V} {cf : CallF} (hs : SpecC P (f, args, v)) (hc : CallOk P cf) : CallOk P (joinC f args v cf) := by
  intro g as h n out h' n' e E w args' ra gd hd hcal
  unfold joinC at e
  split at e
  · rename_i r hr
    simp only [Option.some.injEq] at e; subst e
    exact hc g as h n out h' n' hr E w args' ra gd hd hcal
  · split at e
    · rename_i hfa
      obtain ⟨rfl, rfl⟩ := hfa
      simp only [Option.some.injEq, Prod.mk.injEq] at e
      obtain ⟨rfl, rfl, rfl⟩ := e
      exact specC_calls hs ra gd hd hcal
    · cases e

theorem joinC_at {f : FuncId} {args : List V} {v : V} {cf : CallF} (h : Tr O) (n : Nat) : joinC f args v (without f cf) f args h n = some (.ret v, h, n) := by
  unfold joinC without
  simp
end Go.Eng
