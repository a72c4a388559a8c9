/- The engine, part ZB: contracts of functions at all their arguments of a form, joined to the evaluator's calls. No conditions: lemmas alone. -/
import Derived.Test.YtadejpmecljjpaaEngThree
import Derived.OpenShut
import Derived.Below
import Derived.ChangeSlices
import Derived.ChangeStays
set_option linter.unusedVariables false
set_option linter.unusedSimpArgs false
set_option linter.unusedSectionVars false
namespace Go.Eng
open Go Go.RowKit
theorem cpost_of {E : Env} {h : Tr O} {n : Nat} {w : World} {v : V} (g : Good E h w) (hd : Dom E n) (hv : v.free = true) {e : Ending} {w' : World} (ho : ∃ E', outrel E' (.ret v) e) (b : Below w.heap.size w w') : CPost E h n w (.ret v) h n e w' := by
  refine ⟨E, ⟨E.le_refl, ⟨?_, g.inj, fun m b' s hm => Nat.lt_of_lt_of_le (g.bnd m b' s hm) b.size⟩, b.size, b.tape, b.os, b.output, fun k hk _ => b.block k hk, fun m b' s hm he _ => ⟨m, s, hm, he, _root_.id⟩⟩, fun _ _ => rfl, hd, Nat.le_refl _, ?_⟩
  · intro m o hm
    obtain ⟨b', s, h1, h2⟩ := g.rel m o hm
    exact ⟨b', s, h1, orel_mono E.le_refl rfl (b.block b' (g.bnd m b' s h1)) h2⟩
  · obtain ⟨E1, ho⟩ := ho
    cases e with
    | returned v' => exact free_rel _ _ hv ho
    | _ => exact ho.elim
def CtrOk (P : Program) (S : Ctr) : Prop := ∀ f args h A v, S f args h = some (A, v) → f < P.funcs.size ∧ v.free = true ∧ ((∀ a ∈ A, a) →
  ∀ E n w args', vrels E args args' → Good E h w → Dom E n → callee P f = true → Calls P f args'.toArray w fun e w' => (∃ E', outrel E' (.ret v) e) ∧ Below w.heap.size w w')
def noCtr : Ctr := fun _ _ _ => none
theorem noCtr_ok (P : Program) : CtrOk P noCtr := fun f args h A v e => by cases e
def addS (f : FuncId) (spec : List V → Tr O → Option (List Prop × V)) (S : Ctr) : Ctr := fun g args h => match Nat.beq g f with
  | true => spec args h
  | false => S g args h
def PureA (P : Program) (f : FuncId) (spec : List V → Tr O → Option (List Prop × V)) : Prop := f < P.funcs.size ∧ ∀ args h A v, spec args h = some (A, v) → v.free = true ∧ ((∀ a ∈ A, a) →
  ∀ E n w args', vrels E args args' → Good E h w → Dom E n → callee P f = true → Calls P f args'.toArray w fun e w' => (∃ E', outrel E' (.ret v) e) ∧ Below w.heap.size w w')
theorem addS_ok {P : Program} {f : FuncId} {spec : List V → Tr O → Option (List Prop × V)} {S : Ctr} (hp : PureA P f spec) (hS : CtrOk P S) : CtrOk P (addS f spec S) := by
  intro g args h A v e
  unfold addS at e
  split at e
  · rename_i hg
    have hg := Nat.eq_of_beq_eq_true hg
    subst hg
    exact ⟨hp.1, hp.2 args h A v e⟩
  · exact hS g args h A v e
theorem joinA_ok {P : Program} {S : Ctr} {cf : CallF} (hs : CtrOk P S) (hc : CallOk P cf) : CallOk P (joinA S cf) := by
  intro g args h n out h' n' e E w args' ra gd hd
  unfold joinA at e
  split at e
  · rename_i A v hv
    split at e
    · rename_i hA
      simp only [Option.some.injEq, Prod.mk.injEq] at e
      obtain ⟨rfl, rfl, rfl⟩ := e
      obtain ⟨hlt, hf, hcalls⟩ := hs g args h A v hv
      exact ⟨fun hcal => (hcalls hA E n w args' ra gd hd hcal).mono fun en w' ⟨ho, b⟩ => cpost_of gd hd hf ho b, fun m l s hfm _ => absurd hlt (by rw [hfm]; exact Nat.not_lt.2 (Nat.le_add_right _ _))⟩
    · cases e
  · exact hc g args h n out h' n' e E w args' ra gd hd
def retOf (P : Program) (cf : CallF) (F : Nat) (fn : Func) (p : X × St) : Option V := match p.1 with
  | .normal => match leave P cf F fn p.2.fr p.2.dfs .ret p.2.h p.2.n with
    | some (.ret v, _, _) => some v
    | _ => none
  | .ret => match leave P cf F fn p.2.fr p.2.dfs .ret p.2.h p.2.n with
    | some (.ret v, _, _) => some v
    | _ => none
  | _ => none
theorem retOf_some {P : Program} {cf : CallF} {F : Nat} {fn : Func} {x : X} {s : St} {v : V} (h : retOf P cf F fn (x, s) = some v) : ∃ y, x.plain = some y ∧ (y = .normal ∨ y = .ret) ∧ ∃ h' n', leave P cf F fn s.fr s.dfs .ret s.h s.n = some (.ret v, h', n') := by
  unfold retOf at h
  cases x with
  | normal =>
    simp only at h
    split at h
    · rename_i u h' n' e
      simp only [Option.some.injEq] at h; subst h
      exact ⟨.normal, rfl, .inl rfl, h', n', e⟩
    · cases h
  | ret =>
    simp only at h
    split at h
    · rename_i u h' n' e
      simp only [Option.some.injEq] at h; subst h
      exact ⟨.ret, rfl, .inr rfl, h', n', e⟩
    · cases h
  | _ => cases h
def startSt (args : List V) (h : Tr O) (n : Nat) : St := { fr := frameOf args 0 .nil, h := h, n := n, dfs := [] }
section
variable {P : Program} {S : Ctr} {cf : CallF} {H : List (Nat × Fix)} {F : Nat} {f : FuncId} {fn : Func} {code : Code}
def funM (P : Program) (S : Ctr) (cf : CallF) (H : List (Nat × Fix)) (F : Nat) (code : Code) (args : List V) (h : Tr O) (n : Nat) : List (Pth × X × St) := orNil (codeM P S cf H F code (startSt args h n))
def funOk (P : Program) (S : Ctr) (cf : CallF) (H : List (Nat × Fix)) (F : Nat) (code : Code) (args : List V) (h : Tr O) (n : Nat) : Bool := (codeM P S cf H F code (startSt args h n)).isSome
theorem calls_tellsE (hm : P.follows .mixedOrders = true) (hpo : progOk P = true) (hS : CtrOk P S) (hcf : CallOk P cf) (hf : P.funcs[f]? = some fn) (hb : fn.body = some code) {args : List V} {args' : List Value} {w : World} {v : V} {E1 : Env} {h1 : Tr O} {n1 : Nat}
    (g : Good E1 h1 w) (hd : Dom E1 n1) (hro : ∀ m, ¬ wlive h1 m) (ra : vrels E1 args args') (l : (Nat.ble args.length fn.ntmps && Nat.blt fn.ntmps top) = true)
    (G : List (List (Bool × Bool) × List Prop × Option V)) (e1 : funOk P S cf H F code args h1 n1 = true) (e2 : samesL (funM P S cf H F code args h1 n1) = samesR (funM P S cf H F code args h1 n1))
    (e3 : tells (retOf P (joinA S cf) F fn) (funM P S cf H F code args h1 n1) = G) (h : ∀ g ∈ G, (∀ b ∈ g.1, b.1 = b.2) → (∀ a ∈ g.2.1, a) ∧ g.2.2 = some v) :
    Calls P f args'.toArray w fun e w' => (∃ E, outrel E (.ret v) e) ∧ Below w.heap.size w w' := by
  simp only [Bool.and_eq_true] at l
  refine calls_of_TE (F := F) hm hpo (joinA_ok hS hcf) hf hb g hd hro ra (Nat.le_of_ble_eq_true l.1) (Nat.le_of_ble_eq_true l.2) ?_
  refine T_tells (joinA_ok hS hcf) hm (retOf P (joinA S cf) F fn) G (progOk_spec hpo hf hb) e1 e2 e3 fun g hg hc => ?_
  obtain ⟨k1, k2⟩ := h g hg hc
  refine ⟨k1, fun x s' hx => ?_⟩
  rw [k2] at hx
  obtain ⟨y, q1, q2, q3⟩ := retOf_some hx
  exact ⟨y, q1, q2, q3⟩
theorem calls_tells (hm : P.follows .mixedOrders = true) (hpo : progOk P = true) (hS : CtrOk P S) (hcf : CallOk P cf) (hf : P.funcs[f]? = some fn) (hb : fn.body = some code) {args : List V} {args' : List Value} {w : World} {v : V} {E : Env}
    (hfr : V.frees args = true) (ra : vrels E args args') (l : (Nat.ble args.length fn.ntmps && Nat.blt fn.ntmps top) = true)
    (G : List (List (Bool × Bool) × List Prop × Option V)) (e1 : funOk P S cf H F code args .nil 0 = true) (e2 : samesL (funM P S cf H F code args .nil 0) = samesR (funM P S cf H F code args .nil 0))
    (e3 : tells (retOf P (joinA S cf) F fn) (funM P S cf H F code args .nil 0) = G) (h : ∀ g ∈ G, (∀ b ∈ g.1, b.1 = b.2) → (∀ a ∈ g.2.1, a) ∧ g.2.2 = some v) :
    Calls P f args'.toArray w fun e w' => (∃ E, outrel E (.ret v) e) ∧ Below w.heap.size w w' :=
  calls_tellsE hm hpo hS hcf hf hb (good0 w) (dom0 0) (fun m k => absurd rfl k.live) (frees_rel _ _ hfr ra) l G e1 e2 e3 h
end
end Go.Eng
namespace Go.Eng
open Go Go.RowKit
def Env.two (E : Env) (a b : Option Nat) : Env := ⟨fun j => match j with | 0 => a.bind E.ι | 1 => b.bind E.ι | _ => none, E.β⟩
def twoH (x y : Option O) : Tr O := (Tr.nil.set 0 x).set 1 y
theorem twoH_get (x y : Option O) (m : Nat) : (twoH x y).get m = match m with | 0 => x | 1 => y | _ => none := by
  unfold twoH
  rw [Tr.get_set _ _ _ (by decide)]
  split
  · rename_i h; subst h; rfl
  · rename_i h
    rw [Tr.get_set _ _ _ (by decide)]
    split
    · rename_i h; subst h; rfl
    · rename_i h0
      match m, h, h0 with
      | m + 2, _, _ => rfl
theorem orel_beta {E E' : Env} {w : World} {b s : Nat} {k : IntKind} {ks : List Int} (hb : E'.β = E.β) (r : orel E w b s (.ints k ks)) : orel E' w b s (.ints k ks) := by
  obtain ⟨c, el, fz, h1, h2, h3⟩ := r
  exact ⟨c, el, fz, h1, by rw [hb]; exact h2, h3⟩
def rowO (k : Option (List Int)) : Option O := k.map (.ints .i64)
theorem two_ok {E : Env} {h : Tr O} {w : World} {a b : Option Nat} {x y : Option (List Int)} (g : Good E h w) (hx : ∀ ks, x = some ks → ∃ m, a = some m ∧ h.get m = some (.ints .i64 ks)) (hy : ∀ ks, y = some ks → ∃ m, b = some m ∧ h.get m = some (.ints .i64 ks)) :
    Good (E.two a b) (twoH (rowO x) (rowO y)) w ∧ Dom (E.two a b) 2 ∧ ∀ m, ¬ wlive (twoH (rowO x) (rowO y)) m := by
  have hwl : ∀ m, ¬ wlive (twoH (rowO x) (rowO y)) m := by
    rintro m ⟨o, h1, h2⟩
    rw [twoH_get] at h1
    split at h1
    · cases x with
      | none => cases h1
      | some ks => simp only [rowO, Option.map_some, Option.some.injEq] at h1; subst h1; cases h2
    · cases y with
      | none => cases h1
      | some ks => simp only [rowO, Option.map_some, Option.some.injEq] at h1; subst h1; cases h2
    · cases h1
  refine ⟨⟨fun m o hm => ?_, fun m _ _ _ _ _ hm => absurd hm (hwl m), fun m b' s e => ?_⟩, fun m hm => ?_, hwl⟩
  · rw [twoH_get] at hm
    split at hm
    · cases x with
      | none => cases hm
      | some ks =>
        simp only [rowO, Option.map_some, Option.some.injEq] at hm; subst hm
        obtain ⟨m0, rfl, k2⟩ := hx ks rfl
        obtain ⟨b', s, q1, q2⟩ := g.rel m0 _ k2
        exact ⟨b', s, q1, orel_beta rfl q2⟩
    · cases y with
      | none => cases hm
      | some ks =>
        simp only [rowO, Option.map_some, Option.some.injEq] at hm; subst hm
        obtain ⟨m0, rfl, k2⟩ := hy ks rfl
        obtain ⟨b', s, q1, q2⟩ := g.rel m0 _ k2
        exact ⟨b', s, q1, orel_beta rfl q2⟩
    · cases hm
  · match m, e with
    | 0, e =>
      cases a with
      | none => cases e
      | some m0 => exact g.bnd m0 b' s e
    | 1, e =>
      cases b with
      | none => cases e
      | some m0 => exact g.bnd m0 b' s e
    | m + 2, e => cases e
  · match m, hm with
    | 0, hm => exact absurd hm (by show ¬ 2 ≤ 0; omega)
    | 1, hm => exact absurd hm (by show ¬ 2 ≤ 1; omega)
    | m + 2, _ => rfl
theorem two_slc0 {E : Env} {m : Nat} {b : Option Nat} {o l c e : Nat} {v : Value} (r : vrel E (.slc (some (m, o)) l c e) v) : vrel (E.two (some m) b) (.slc (some (0, o)) l c e) v := r
theorem two_slc1 {E : Env} {m : Nat} {a : Option Nat} {o l c e : Nat} {v : Value} (r : vrel E (.slc (some (m, o)) l c e) v) : vrel (E.two a (some m)) (.slc (some (1, o)) l c e) v := r
section
variable {P : Program} {S : Ctr} {cf : CallF} {H : List (Nat × Fix)} {F N : Nat} {w0 : World} {c : Code} {s : St} {Q : Exit → St → Prop}
def normF (live : List Nat) (p : X × St) : Option St := match p.1 with
  | .normal => norm live p.2
  | _ => none
theorem T_next (hcf : CallOk P (joinA S cf)) (hm : P.follows .mixedOrders = true) (H : List (Nat × Fix)) (F : Nat) (live : List Nat) (s1 : St) (A : List Prop) (hs : isSeq c = true) (hc : codeOk N (seqL c) = true) (e1 : (codeM P S cf H F (seqL c) s).isSome = true)
    (e2 : samesL (orNil (codeM P S cf H F (seqL c) s)) = samesR (orNil (codeM P S cf H F (seqL c) s))) (e3 : tells (normF live) (orNil (codeM P S cf H F (seqL c) s)) = [([], A, some s1)]) (hA : ∀ a ∈ A, a) (h : T P N w0 (seqR c) s1 Q) : T P N w0 c s Q := by
  refine T_seq' hs (T_tells hcf hm (normF live) _ hc e1 e2 e3 fun g hg _ => ?_)
  simp only [List.mem_singleton] at hg; subst hg
  refine ⟨hA, fun x s' hx => ?_⟩
  cases x with
  | normal => exact ⟨.normal, rfl, T_norm hx h⟩
  | _ => cases hx
theorem T_loop_inv (I : Nat → St → Prop) (hl : isLoop c = true) (h : ∀ k s, I k s → T P N w0 (inner c) s (andThen (fun s' => ∃ k', k' < k ∧ I k' s') Q)) (k : Nat) (h0 : I k s) : T P N w0 c s Q := by
  refine T_loop (k + 1) hl ?_
  have key : ∀ (k : Nat) (n : Nat) (s : St), k < n → I k s → TR P N w0 (inner c) Q n s := by
    intro k
    induction k using Nat.strongRecOn with
    | _ k ih =>
      intro n s hn hi
      cases n with
      | zero => omega
      | succ n =>
        simp only [TR]
        refine T_mono (h k s hi) fun y s' hq => ?_
        cases y with
        | normal =>
          obtain ⟨k', hk, hi'⟩ := hq
          exact ih k' hk n s' (by omega) hi'
        | _ => exact hq
  exact key k (k + 1) s (by omega) h0
def RetQ (P : Program) (cf : CallF) (F : Nat) (fn : Func) (v : V) (y : Exit) (s' : St) : Prop := (y = .normal ∨ y = .ret) ∧ ∃ h' n', leave P cf F fn s'.fr s'.dfs .ret s'.h s'.n = some (.ret v, h', n')
theorem T_ret (hcf : CallOk P (joinA S cf)) (hm : P.follows .mixedOrders = true) (H : List (Nat × Fix)) (F : Nat) (fn : Func) (v : V) (G : List (List (Bool × Bool) × List Prop × Option V)) (hc : codeOk N c = true) (e1 : (codeM P S cf H F c s).isSome = true)
    (e2 : samesL (orNil (codeM P S cf H F c s)) = samesR (orNil (codeM P S cf H F c s))) (e3 : tells (retOf P (joinA S cf) F fn) (orNil (codeM P S cf H F c s)) = G) (h : ∀ g ∈ G, (∀ b ∈ g.1, b.1 = b.2) → (∀ a ∈ g.2.1, a) ∧ g.2.2 = some v) :
    T P N w0 c s (RetQ P (joinA S cf) F fn v) :=
  T_tells hcf hm (retOf P (joinA S cf) F fn) G hc e1 e2 e3 fun g hg hc => by
    obtain ⟨k1, k2⟩ := h g hg hc
    refine ⟨k1, fun x s' hx => ?_⟩
    rw [k2] at hx
    exact retOf_some hx
inductive Res where
  | next (s : St)
  | exit (id : Nat) (s : St)
  | ret (v : V)
  | bad
def roundF (P : Program) (cf : CallF) (F : Nat) (fn : Func) (live : List Nat) (p : X × St) : Res := match p.1 with
  | .normal => match norm live p.2 with
    | some s => .next s
    | none => .bad
  | .exit id => match norm live p.2 with
    | some s => .exit id s
    | none => .bad
  | .ret => match retOf P cf F fn p with
    | some v => .ret v
    | none => .bad
  | .panic _ => .bad
def Res.post (P : Program) (cf : CallF) (F : Nat) (fn : Func) (live : List Nat) (I : Nat → St → Prop) (k : Nat) (Q : Exit → St → Prop) : Res → Prop
  | .next s => ∃ k', k' < k ∧ I k' s
  | .exit id s => ∀ s', norm live s' = some s → Q (.exit id) s'
  | .ret v => ∀ s', RetQ P cf F fn v .ret s' → Q .ret s'
  | .bad => False
theorem T_rounds (hcf : CallOk P (joinA S cf)) (hm : P.follows .mixedOrders = true) (H : Nat → List (Nat × Fix)) (F : Nat) (fn : Func) (live : List Nat) (I : Nat → St → Prop) (hl : isLoop c = true) (hc : codeOk N (inner c) = true)
    (h : ∀ k s, I k s → ∃ (j : Nat) (G : List (List (Bool × Bool) × List Prop × Res)), (codeM P S cf (H j) F (inner c) s).isSome = true ∧ samesL (orNil (codeM P S cf (H j) F (inner c) s)) = samesR (orNil (codeM P S cf (H j) F (inner c) s)) ∧
      tells (roundF P (joinA S cf) F fn live) (orNil (codeM P S cf (H j) F (inner c) s)) = G ∧ ∀ g ∈ G, (∀ b ∈ g.1, b.1 = b.2) → (∀ a ∈ g.2.1, a) ∧ g.2.2.post P (joinA S cf) F fn live I k Q)
    (k : Nat) (h0 : I k s) : T P N w0 c s Q := by
  refine T_loop_inv (fun k s => ∃ s1, norm live s = some s1 ∧ I k s1 ∨ I k s) hl ?_ k ⟨s, .inr h0⟩
  rintro k s ⟨s1, hi⟩
  have step : ∀ s, I k s → T P N w0 (inner c) s (andThen (fun s' => ∃ k', k' < k ∧ ∃ s1, norm live s' = some s1 ∧ I k' s1 ∨ I k' s') Q) := by
    intro s hi
    obtain ⟨j, G, e1, e2, e3, hG⟩ := h k s hi
    refine T_tells hcf hm _ G hc e1 e2 e3 fun g hg hcn => ?_
    obtain ⟨k1, k2⟩ := hG g hg hcn
    refine ⟨k1, fun x s' hx => ?_⟩
    rw [← hx] at k2
    cases x with
    | normal =>
      simp only [roundF] at k2
      split at k2
      · rename_i s2 hs2
        obtain ⟨k', q1, q2⟩ := k2
        exact ⟨.normal, rfl, k', q1, s2, .inl ⟨hs2, q2⟩⟩
      · exact k2.elim
    | exit id =>
      simp only [roundF] at k2
      split at k2
      · rename_i s2 hs2
        exact ⟨.exit id, rfl, k2 s' hs2⟩
      · exact k2.elim
    | ret =>
      simp only [roundF] at k2
      split at k2
      · rename_i v hv
        obtain ⟨y, q1, q2, q3⟩ := retOf_some hv
        exact ⟨.ret, rfl, k2 s' ⟨.inr rfl, q3⟩⟩
      · exact k2.elim
    | panic v => exact k2.elim
  rcases hi with ⟨hn, hi⟩ | hi
  · exact T_norm hn (step s1 hi)
  · exact step s hi
end
end Go.Eng
namespace Go.Eng
open Go Go.RowKit
section
variable {P : Program} {S : Ctr} {cf : CallF} {F N : Nat} {w0 : World} {c : Code} {s : St} {Q : Exit → St → Prop}
end
end Go.Eng
namespace Go.Eng
open Go Go.RowKit
theorem Upd0.fresh {w0 w : World} {E : Env} {h : Tr O} {q : Nat} {o : O} (u : Upd0 w0 E h w) (hq : h.get q = some o) (hw : o.wr = true) : ∀ b s, E.ι q = some (b, s) → w0.heap.size ≤ b := by
  intro b s e
  by_cases q' : b < w0.heap.size
  · exact (u.img q b s ⟨_, hq, hw⟩ e q').elim
  · omega
end Go.Eng
namespace Go.Eng
open Go Go.RowKit
section
variable {P : Program} {S : Ctr} {cf : CallF} {F N : Nat} {w0 : World}
end
def rowAt (w : World) (v : Value) (ks : List Int) : Prop := ∃ b s cap c el fz, v = .slice (some ⟨b, s, none⟩) ks.length cap ∧ ks.length ≤ cap ∧ s + cap ≤ c.size ∧ w.heap[b]? = some (.cells c el fz) ∧ ∀ (i : Nat) (x : Int), ks[i]? = some x → c[s + i]? = some (.int .i64 x)
def cellsSize (w : World) (b : Nat) : Nat := match w.heap[b]? with
  | some (.cells c _ _) => c.size
  | _ => 0
end Go.Eng
namespace Go.Eng
open Go Go.RowKit Go.ChangeShapes Go.WideShapes
theorem args_stay {H : Type} {enc : TypeId × Value → H} {P : Program} {W W' : World} (hl : laidOutB P = true) (hm : mapsRowed P = true) (hz : ((List.range P.types.size).all fun t => match P.underlying t with | some (.slice e) => decide (0 < P.cellsOf e) | _ => true) = true)
    (hb : Below W.heap.size W W') {sp : Nat → Bool} : ∀ {ts : List TypeId} {vs : List Value} {ds : List (DataW H)} {ps : List MemPlace}, (∀ t ∈ ts, t < P.types.size) → DataW.TrodAll enc P W 0 (fun _ => true) true ts vs ds ps → (∀ p ∈ ps, sp p.block = true) → DataW.TrodAll enc P W' 0 sp true ts vs ds ps
  | [], [], [], _, _, h, _ => h
  | t :: ts, _ :: _, _ :: _, _, hT, ⟨p, q, ⟨n, h1⟩, h2, e⟩, hs => by
    refine ⟨p, q, ⟨n, ?_⟩, args_stay hl hm hz hb (fun t ht => hT t (List.mem_cons_of_mem _ ht)) h2 (fun x hx => hs x (by rw [e]; exact List.mem_append_right _ hx)), e⟩
    have hz' : ∀ {t e : TypeId}, t < P.types.size → P.underlying t = some (.slice e) → 0 < P.cellsOf e := by
      intro t e hl ht
      have := List.all_eq_true.1 hz t (List.mem_range.2 hl)
      rw [ht] at this
      simpa using this
    refine DataW.trod_stays (T := (· < P.types.size)) (kids_rows hl hm) hz' (fun h => by cases h) (hT t (List.mem_cons_self ..)) h1 (fun x hx => ?_) (fun x hx => hs x (by rw [e]; exact List.mem_append_left _ hx))
    exact hb.same (DataW.trod_lt n _ _ _ h1 x hx)
def rowIn (w : World) (b s : Nat) (ks : List Int) : Prop := ∃ c el fz, w.heap[b]? = some (.cells c el fz) ∧ s + ks.length ≤ c.size ∧ ∀ (i : Nat) (x : Int), ks[i]? = some x → c[s + i]? = some (.int .i64 x)
theorem rowAt_off {P : Program} {fits : TypeId → Bool} {d : Nat} {e : TypeId} {cells off : Nat} (h : Go.rowAt P fits d e (cells / P.cellsOf e) off 0 = true) : off ≤ cells := by
  cases d with
  | zero => simp [Go.rowAt] at h
  | succ d =>
    unfold Go.rowAt at h
    simp only at h
    split at h
    · cases h
    · rename_i hs
      have hs : 0 < P.cellsOf e := Nat.pos_of_ne_zero hs
      have hle := Nat.div_mul_le_self cells (P.cellsOf e)
      have hdm := Nat.div_add_mod off (P.cellsOf e)
      have hlt := Nat.mod_lt off hs
      simp only [Nat.add_zero, Bool.or_eq_true, Bool.and_eq_true, beq_iff_eq, decide_eq_true_eq] at h
      rcases h with ⟨⟨h1, h2⟩, _⟩ | ⟨h1, _⟩
      · have := Nat.mul_le_mul_left (P.cellsOf e) h2
        rw [Nat.mul_comm (P.cellsOf e) (cells / P.cellsOf e)] at this
        omega
      · have := Nat.mul_le_mul_left (P.cellsOf e) (Nat.succ_le_of_lt h1)
        rw [Nat.mul_succ, Nat.mul_comm (P.cellsOf e) (cells / P.cellsOf e)] at this
        omega
theorem slice_in {H : Type} {enc : TypeId × Value → H} {P : Program} {W : World} {r : Reach} {base : Nat} {t e : TypeId} {fuel : Nat} {v : Value} {x : DataW H × List MemPlace} (ht : P.underlying t = some (.slice e)) (he : P.underlying e = some (.int .i64)) (hc : P.cellsOf e = 1)
    (hv : Cell.okWide P W r base t v) (h : DataW.trod enc P W 0 (fun _ => true) true fuel t [v] = some x) :
    v = .slice none 0 0 ∨ ∃ b s len cap ks, v = .slice (some ⟨b, s, none⟩) len cap ∧ len ≤ cap ∧ ks.length = cap ∧ rowIn W b s ks := by
  rcases open_ints ht he hc h with ⟨h1, _⟩ | ⟨a, len, cap, zs, h1, _, hl, _, hzl, _, hz, _⟩
  · left; simpa using h1
  · right
    simp only [List.cons.injEq, and_true] at h1
    subst h1
    simp only [if_true] at hzl
    obtain ⟨b, s, spot⟩ := a
    simp only [Cell.okWide, Cell.ok, ht] at hv
    obtain ⟨_, _, _, hspot, row, cells, hsh, hlies⟩ := hv
    simp only at hspot hsh hlies
    subst hspot
    unfold World.shape? at hsh
    split at hsh
    · rename_i c el fz hb
      simp only [Option.some.injEq, Prod.mk.injEq] at hsh
      obtain ⟨rfl, rfl⟩ := hsh
      have cell : ∀ i, i < cap → c[s + i]? = some (.int .i64 (zs.getD i 0)) := by
        intro i hi
        have := hz i (by omega)
        rw [Go.WideShapes.add_plain] at this
        simpa [World.cell?, hb] using this
      refine ⟨b, s, len, cap, zs, rfl, hl, hzl, c, el, fz, hb, ?_, ?_⟩
      · rw [hzl]
        by_cases h0 : cap = 0
        · subst h0
          cases hd : P.depth with
          | zero => rw [hd] at hlies; simp [liesAt] at hlies
          | succ d =>
            rw [hd] at hlies
            unfold liesAt at hlies
            rw [he] at hlies
            simp only [Bool.or_false] at hlies
            exact rowAt_off hlies
        · have := cell (cap - 1) (by omega)
          obtain ⟨hlt, _⟩ := Array.getElem?_eq_some_iff.1 this
          omega
      · intro i x hx
        have hi := (List.getElem?_eq_some_iff.1 hx).1
        rw [cell i (by omega)]
        simp [List.getD, hx]
    · cases hsh
def inH (x : Option (Nat × Nat × List Int)) : Option (Nat × Nat) := x.map fun y => (y.1, y.2.1)
def inK (x : Option (Nat × Nat × List Int)) : Option (List Int) := x.map fun y => y.2.2
def inOk (w : World) (x : Option (Nat × Nat × List Int)) : Prop := ∀ b s ks, x = some (b, s, ks) → rowIn w b s ks
theorem slc_rel {E : Env} {w : World} {m b s len : Nat} {ks : List Int} (hE : E.ι m = some (b, s)) (hβ : E.β = cellsSize w) (h : rowIn w b s ks) (hl : len ≤ ks.length) : vrel E (.slc (some (m, 0)) len ks.length 1) (.slice (some ⟨b, s, none⟩) len ks.length) := by
  obtain ⟨c, el, fz, h1, h2, _⟩ := h
  refine ⟨b, s, s, ks.length, hE, fun _ => rfl, hl, Nat.le_refl _, ?_, rfl⟩
  rw [hβ]
  simp only [cellsSize, h1]
  omega
theorem struct_in {H : Type} {enc : TypeId × Value → H} {P : Program} {W : World} {r : Reach} {base : Nat} {t : TypeId} {fs : Array Field} {v : Value} {d : DataW H} {p : List MemPlace} {us : List TypeId} (hs : P.underlying t = some (.struct fs)) (hC : P.cellsOf t = fs.size) (hU : P.cellTypes P.depth t = some us) (hul : us.length = fs.size)
    (hf : ∀ (j : Nat) f, fs[j]? = some f → f.offset = j ∧ P.cellsOf f.type = 1 ∧ us[j]? = some f.type)
    (hv : Value.okWide P W r base t v) (h : DataW.Trod enc P W 0 (fun _ => true) true t v d p) :
    ∃ cs : Array Value, v = .agg cs ∧ cs.size = fs.size ∧ ∃ n, ∀ (j : Nat) f, fs[j]? = some f → ∃ x y, cs[j]? = some x ∧ Cell.okWide P W r base f.type x ∧ DataW.trod enc P W 0 (fun _ => true) true n f.type [x] = some y := by
  simp only [Value.okWide, hs] at hv
  obtain ⟨cs, rfl, hsz, ts, hts, _, hrow⟩ := hv
  rw [hU] at hts
  simp only [Option.some.injEq] at hts
  subst hts
  obtain ⟨fuel, h⟩ := h
  obtain ⟨xs, n, _, _, _, hxl, hx⟩ := DataW.trod_struct hs h
  refine ⟨cs, rfl, by omega, n, fun j f hj => ?_⟩
  obtain ⟨ho, h1, hu⟩ := hf j f hj
  have hjl : j < fs.size := (Array.getElem?_eq_some_iff.1 hj).1
  have hcs : cs[j]? = some (cs[j]'(by omega)) := Array.getElem?_eq_getElem (by omega)
  have hg := hx j f hj
  rw [ho, h1] at hg
  have e1 : ((Value.agg cs).cells.toList.drop j).take 1 = [cs[j]'(by omega)] := by
    simp only [Value.cells]
    rw [List.drop_eq_getElem_cons (by simp; omega)]
    simp
  rw [e1] at hg
  have hxj : xs[j]? = some (xs[j]'(by omega)) := List.getElem?_eq_getElem (by omega)
  obtain ⟨u, hu1, hu2⟩ := hrow j _ hcs
  rw [hul, Nat.mod_eq_of_lt hjl, hu] at hu1
  simp only [Option.some.injEq] at hu1
  subst hu1
  exact ⟨_, _, hcs, hu2, hg.trans hxj⟩
def fieldsB (P : Program) (fs : Array Field) (us : List TypeId) : Bool := (List.range fs.size).all fun j => match fs[j]?, us[j]? with
  | some f, some u => decide (f.offset = j) && (decide (P.cellsOf f.type = 1) && decide (u = f.type))
  | _, _ => false
theorem fieldsB_ok {P : Program} {fs : Array Field} {us : List TypeId} (h : fieldsB P fs us = true) : ∀ (j : Nat) f, fs[j]? = some f → f.offset = j ∧ P.cellsOf f.type = 1 ∧ us[j]? = some f.type := by
  intro j f hj
  have hjl : j < fs.size := (Array.getElem?_eq_some_iff.1 hj).1
  have := List.all_eq_true.1 h j (List.mem_range.2 hjl)
  rw [hj] at this
  cases hu : us[j]? with
  | none => rw [hu] at this; cases this
  | some u =>
    rw [hu] at this
    simp only [Bool.and_eq_true, decide_eq_true_eq] at this
    obtain ⟨h1, h2, rfl⟩ := this
    exact ⟨h1, h2, rfl⟩
theorem vnil {E : Env} : vrels E [] [] := rfl
theorem vcons {E : Env} {x : V} {y : Value} {xs : List V} {ys : List Value} (h : vrel E x y) (t : vrels E xs ys) : vrels E (x :: xs) (y :: ys) := ⟨y, ys, h, t, rfl⟩
theorem vagg {E : Env} {xs : List V} {ys : List Value} (t : vrels E xs ys) : vrel E (.agg xs) (.agg ys.toArray) := ⟨ys, t, rfl⟩
theorem vint {E : Env} {k : IntKind} {n : Int} : vrel E (.int k n) (.int k n) := rfl
def slcV (o : Option (Nat × Nat × List Int)) (len : Nat) : Value := match o with
  | none => .slice none 0 0
  | some (b, s, ks) => .slice (some ⟨b, s, none⟩) len ks.length
theorem int_in {H : Type} {enc : TypeId × Value → H} {P : Program} {W : World} {t : TypeId} {k : IntKind} {n : Nat} {v : Value} {y : DataW H × List MemPlace} (ht : P.underlying t = some (.int k)) (h : DataW.trod enc P W 0 (fun _ => true) true n t [v] = some y) : ∃ i, v = .int k i := by
  obtain ⟨i, h1, _⟩ := DataW.trod_int ht h
  exact ⟨i, by simpa using h1⟩
end Go.Eng
namespace Go.Eng
open Go Go.RowKit
section
variable (ν : Nat → Option Nat)
mutual
def V.rn : V → Option V
  | .ptr (some (m, o)) => match ν m with
    | some k => some (.ptr (some (k, o)))
    | none => none
  | .slc (some (m, o)) l c e => match ν m with
    | some k => some (.slc (some (k, o)) l c e)
    | none => none
  | .map (some m) => match ν m with
    | some k => some (.map (some k))
    | none => none
  | .fn f a c => match V.rns a with
    | some a => match V.rns c with
      | some c => match f with
        | .yield m => match ν m with
          | some k => some (.fn (.yield k) a c)
          | none => none
        | f => some (.fn f a c)
      | none => none
    | none => none
  | .iface t x => match V.rn x with
    | some x => some (.iface t x)
    | none => none
  | .agg cs => match V.rns cs with
    | some cs => some (.agg cs)
    | none => none
  | .tup cs => match V.rns cs with
    | some cs => some (.tup cs)
    | none => none
  | .bool b => some (.bool b)
  | .int k n => some (.int k n)
  | .str s => some (.str s)
  | .ptr none => some (.ptr none)
  | .slc none l c e => some (.slc none l c e)
  | .map none => some (.map none)
  | .nilFn => some .nilFn
  | .nilIface => some .nilIface
def V.rns : List V → Option (List V)
  | [] => some []
  | x :: xs => match V.rn x with
    | some x => match V.rns xs with
      | some xs => some (x :: xs)
      | none => none
    | none => none
end
def rnEs : List (V × V × Nat) → Option (List (V × V × Nat))
  | [] => some []
  | x :: xs => match V.rn ν x.1 with
    | some k => match V.rn ν x.2.1 with
      | some v => match rnEs xs with
        | some xs => some ((k, v, x.2.2) :: xs)
        | none => none
      | none => none
    | none => none
def selfN (m : Nat) : Bool := match ν m with
  | some k => Nat.beq m k
  | none => false
mutual
def V.still : V → Bool
  | .ptr (some (m, _)) => selfN ν m
  | .slc (some (m, _)) _ _ _ => selfN ν m
  | .map (some m) => selfN ν m
  | .fn f a c => (match f with | .yield m => selfN ν m | _ => true) && (V.stills a && V.stills c)
  | .iface _ x => V.still x
  | .agg cs => V.stills cs
  | .tup cs => V.stills cs
  | _ => true
def V.stills : List V → Bool
  | [] => true
  | x :: xs => V.still x && V.stills xs
end
def frStill : Tr V → Bool
  | .nil => true
  | .node v l r => (match v with | some v => V.still ν v | none => true) && (frStill l && frStill r)
def O.rn : O → Option O
  | .cells cs => match V.rns ν cs with
    | some cs => some (.cells cs)
    | none => none
  | .map es c => match rnEs ν es with
    | some es => some (.map es c)
    | none => none
  | .siter s p => some (.siter s p)
  | .ints k ks => some (.ints k ks)
  | .own k ks => some (.own k ks)
  | .dfr => some .dfr
  | .loop st pe fr ps a b => match frStill ν fr with
    | true => some (.loop st pe fr ps a b)
    | false => none
end
mutual
theorem rn_rel {ν : Nat → Option Nat} {E E' : Env} (hι : ∀ m k, ν m = some k → E'.ι k = E.ι m) (hβ : ∀ m k b s, ν m = some k → E.ι m = some (b, s) → E'.β b = E.β b) : ∀ (v v2 : V) (v' : Value), v.rn ν = some v2 → vrel E v v' → vrel E' v2 v'
  | .bool _, v2, _, h, r => by simp only [V.rn, Option.some.injEq] at h; subst h; exact r
  | .int _ _, v2, _, h, r => by simp only [V.rn, Option.some.injEq] at h; subst h; exact r
  | .str _, v2, _, h, r => by simp only [V.rn, Option.some.injEq] at h; subst h; exact r
  | .ptr none, v2, _, h, r => by simp only [V.rn, Option.some.injEq] at h; subst h; exact r
  | .ptr (some (m, o)), v2, _, h, ⟨b, s, e, q⟩ => by
    simp only [V.rn] at h
    split at h
    · rename_i k hk; simp only [Option.some.injEq] at h; subst h; exact ⟨b, s, (hι m k hk).trans e, q⟩
    · cases h
  | .slc none _ _ _, v2, _, h, r => by simp only [V.rn, Option.some.injEq] at h; subst h; exact r
  | .slc (some (m, o)) _ _ _, v2, _, h, ⟨b, s, o', cap', e, q1, q2, q3, q4, q5⟩ => by
    simp only [V.rn] at h
    split at h
    · rename_i k hk; simp only [Option.some.injEq] at h; subst h; exact ⟨b, s, o', cap', (hι m k hk).trans e, q1, q2, q3, by rw [hβ m k b s hk e]; exact q4, q5⟩
    · cases h
  | .map none, v2, _, h, r => by simp only [V.rn, Option.some.injEq] at h; subst h; exact r
  | .map (some m), v2, _, h, ⟨b, e, q⟩ => by
    simp only [V.rn] at h
    split at h
    · rename_i k hk; simp only [Option.some.injEq] at h; subst h; exact ⟨b, (hι m k hk).trans e, q⟩
    · cases h
  | .fn f a c, v2, _, h, ⟨f', a', c', rf, ra, rc, q⟩ => by
    simp only [V.rn] at h
    split at h
    · rename_i a2 ha
      split at h
      · rename_i c2 hc
        have ra2 := rns_rel hι hβ a a2 a' ha ra
        have rc2 := rns_rel hι hβ c c2 c' hc rc
        split at h
        · rename_i m
          split at h
          · rename_i k hk
            simp only [Option.some.injEq] at h; subst h
            obtain ⟨l, s, e, q2⟩ := rf
            exact ⟨f', a', c', ⟨l, s, (hι m k hk).trans e, q2⟩, ra2, rc2, q⟩
          · cases h
        · simp only [Option.some.injEq] at h; subst h
          refine ⟨f', a', c', ?_, ra2, rc2, q⟩
          cases f <;> first | exact rf | (rename_i hne; exact (hne _ rfl).elim)
      · cases h
    · cases h
  | .nilFn, v2, _, h, r => by simp only [V.rn, Option.some.injEq] at h; subst h; exact r
  | .iface t x, v2, _, h, ⟨x', r, q⟩ => by
    simp only [V.rn] at h
    split at h
    · rename_i x2 hx; simp only [Option.some.injEq] at h; subst h; exact ⟨x', rn_rel hι hβ x x2 x' hx r, q⟩
    · cases h
  | .nilIface, v2, _, h, r => by simp only [V.rn, Option.some.injEq] at h; subst h; exact r
  | .agg cs, v2, _, h, ⟨cs', r, q⟩ => by
    simp only [V.rn] at h
    split at h
    · rename_i x2 hx; simp only [Option.some.injEq] at h; subst h; exact ⟨cs', rns_rel hι hβ cs x2 cs' hx r, q⟩
    · cases h
  | .tup cs, v2, _, h, ⟨cs', r, q⟩ => by
    simp only [V.rn] at h
    split at h
    · rename_i x2 hx; simp only [Option.some.injEq] at h; subst h; exact ⟨cs', rns_rel hι hβ cs x2 cs' hx r, q⟩
    · cases h
theorem rns_rel {ν : Nat → Option Nat} {E E' : Env} (hι : ∀ m k, ν m = some k → E'.ι k = E.ι m) (hβ : ∀ m k b s, ν m = some k → E.ι m = some (b, s) → E'.β b = E.β b) : ∀ (v v2 : List V) (v' : List Value), V.rns ν v = some v2 → vrels E v v' → vrels E' v2 v'
  | [], v2, _, h, r => by simp only [V.rns, Option.some.injEq] at h; subst h; exact r
  | x :: xs, v2, _, h, ⟨y, ys, r, rs, q⟩ => by
    simp only [V.rns] at h
    split at h
    · rename_i x2 hx
      split at h
      · rename_i xs2 hxs
        simp only [Option.some.injEq] at h; subst h
        exact ⟨y, ys, rn_rel hι hβ x x2 y hx r, rns_rel hι hβ xs xs2 ys hxs rs, q⟩
      · cases h
    · cases h
end
section
variable {ν : Nat → Option Nat} {E E' : Env} (hι : ∀ m k, ν m = some k → E'.ι k = E.ι m) (hβ : ∀ m k b s, ν m = some k → E.ι m = some (b, s) → E'.β b = E.β b)
include hι hβ
theorem rnEs_rel : ∀ (es es2 : List (V × V × Nat)) (l : List MapEntry), rnEs ν es = some es2 → erels E es l → erels E' es2 l
  | [], es2, _, h, r => by simp only [rnEs, Option.some.injEq] at h; subst h; exact r
  | x :: xs, es2, _, h, ⟨y, ys, r1, r2, r3, rs, q⟩ => by
    simp only [rnEs] at h
    split at h
    · rename_i k hk
      split at h
      · rename_i v hv
        split at h
        · rename_i xs2 hxs
          simp only [Option.some.injEq] at h; subst h
          exact ⟨y, ys, rn_rel hι hβ _ _ _ hk r1, rn_rel hι hβ _ _ _ hv r2, r3, rnEs_rel _ _ _ hxs rs, q⟩
        · cases h
      · cases h
    · cases h
end
theorem selfN_spec {ν : Nat → Option Nat} {m : Nat} (h : selfN ν m = true) : ν m = some m := by
  unfold selfN at h
  split at h
  · rename_i k hk; rw [hk, Nat.eq_of_beq_eq_true h]
  · cases h
theorem frStill_get {ν : Nat → Option Nat} : ∀ (t : Tr V), frStill ν t = true → ∀ k v, t.get k = some v → v.still ν = true
  | .nil, _, k, v, h => by simp [Tr.get] at h
  | .node x l r, hs, k, v, h => by
    simp only [frStill, Bool.and_eq_true] at hs
    simp only [Tr.get] at h
    split at h
    · subst h; exact hs.1
    · rename_i k
      split at h
      · exact frStill_get l hs.2.1 _ v h
      · exact frStill_get r hs.2.2 _ v h
mutual
theorem still_rel {ν : Nat → Option Nat} {E E' : Env} (hι : ∀ m k, ν m = some k → E'.ι k = E.ι m) (hβ : ∀ m k b s, ν m = some k → E.ι m = some (b, s) → E'.β b = E.β b) : ∀ (v : V) (v' : Value), v.still ν = true → vrel E v v' → vrel E' v v'
  | .bool _, _, _, r => r
  | .int _ _, _, _, r => r
  | .str _, _, _, r => r
  | .ptr none, _, _, r => r
  | .ptr (some (m, o)), _, h, ⟨b, s, e, q⟩ => ⟨b, s, (hι m m (selfN_spec h)).trans e, q⟩
  | .slc none _ _ _, _, _, r => r
  | .slc (some (m, o)) _ _ _, _, h, ⟨b, s, o', cap', e, q1, q2, q3, q4, q5⟩ => ⟨b, s, o', cap', (hι m m (selfN_spec h)).trans e, q1, q2, q3, by rw [hβ m m b s (selfN_spec h) e]; exact q4, q5⟩
  | .map none, _, _, r => r
  | .map (some m), _, h, ⟨b, e, q⟩ => ⟨b, (hι m m (selfN_spec h)).trans e, q⟩
  | .fn f a c, _, h, ⟨f', a', c', rf, ra, rc, q⟩ => by
    simp only [V.still, Bool.and_eq_true] at h
    refine ⟨f', a', c', ?_, stills_rel hι hβ a a' h.2.1 ra, stills_rel hι hβ c c' h.2.2 rc, q⟩
    cases f with
    | yield m => obtain ⟨l, s, e, q2⟩ := rf; exact ⟨l, s, (hι m m (selfN_spec h.1)).trans e, q2⟩
    | _ => exact rf
  | .nilFn, _, _, r => r
  | .iface _ x, _, h, ⟨x', r, q⟩ => ⟨x', still_rel hι hβ x x' (by simpa only [V.still] using h) r, q⟩
  | .nilIface, _, _, r => r
  | .agg cs, _, h, ⟨cs', r, q⟩ => ⟨cs', stills_rel hι hβ cs cs' (by simpa only [V.still] using h) r, q⟩
  | .tup cs, _, h, ⟨cs', r, q⟩ => ⟨cs', stills_rel hι hβ cs cs' (by simpa only [V.still] using h) r, q⟩
theorem stills_rel {ν : Nat → Option Nat} {E E' : Env} (hι : ∀ m k, ν m = some k → E'.ι k = E.ι m) (hβ : ∀ m k b s, ν m = some k → E.ι m = some (b, s) → E'.β b = E.β b) : ∀ (v : List V) (v' : List Value), V.stills ν v = true → vrels E v v' → vrels E' v v'
  | [], _, _, r => r
  | x :: xs, _, h, ⟨y, ys, r, rs, q⟩ => by
    simp only [V.stills, Bool.and_eq_true] at h
    exact ⟨y, ys, still_rel hι hβ x y h.1 r, stills_rel hι hβ xs ys h.2 rs, q⟩
end
section
variable {ν : Nat → Option Nat} {E E' : Env} (hι : ∀ m k, ν m = some k → E'.ι k = E.ι m) (hβ : ∀ m k b s, ν m = some k → E.ι m = some (b, s) → E'.β b = E.β b)
include hι hβ
theorem rnO_rel {w : World} {b s : Nat} (hb : E'.β b = E.β b) : ∀ (o o2 : O), o.rn ν = some o2 → orel E w b s o → orel E' w b s o2
  | .cells cs, o2, h, ⟨c, el, fz, h1, h2, h3, h4⟩ => by
    simp only [O.rn] at h
    split at h
    · rename_i cs2 hcs
      simp only [Option.some.injEq] at h; subst h
      refine ⟨c, el, fz, h1, by rw [hb]; exact h2, h3, ?_⟩
      have : ∀ (cs cs2 : List V), V.rns ν cs = some cs2 → ∀ (s : Nat), crel E s cs c → crel E' s cs2 c := by
        intro cs
        induction cs with
        | nil => intro cs2 h s r; simp only [V.rns, Option.some.injEq] at h; subst h; intro i v e; simp at e
        | cons x xs ih =>
          intro cs2 h s r
          simp only [V.rns] at h
          split at h
          · rename_i x2 hx
            split at h
            · rename_i xs2 hxs
              simp only [Option.some.injEq] at h; subst h
              intro i v e
              cases i with
              | zero =>
                simp only [List.getElem?_cons_zero, Option.some.injEq] at e; subst e
                obtain ⟨v', k1, k2⟩ := r 0 x (by simp)
                exact ⟨v', k1, rn_rel hι hβ _ _ _ hx k2⟩
              | succ i =>
                simp only [List.getElem?_cons_succ] at e
                obtain ⟨v', k1, k2⟩ := ih xs2 hxs (s + 1) (fun j v e => by
                  obtain ⟨v', k1, k2⟩ := r (j + 1) v (by simpa using e)
                  exact ⟨v', by rw [← k1]; congr 1; omega, k2⟩) i v e
                exact ⟨v', by rw [← k1]; congr 1; omega, k2⟩
            · cases h
          · cases h
      exact this cs cs2 hcs s h4
    · cases h
  | .map es cl, o2, h, ⟨hs, es', h1, h2⟩ => by
    simp only [O.rn] at h
    split at h
    · rename_i es2 hes
      simp only [Option.some.injEq] at h; subst h
      exact ⟨hs, es', h1, rnEs_rel hι hβ _ _ _ hes h2⟩
    · cases h
  | .siter st p, o2, h, r => by simp only [O.rn, Option.some.injEq] at h; subst h; exact r
  | .ints k ks, o2, h, ⟨c, el, fz, h1, h2, h3⟩ => by simp only [O.rn, Option.some.injEq] at h; subst h; exact ⟨c, el, fz, h1, by rw [hb]; exact h2, h3⟩
  | .own k ks, o2, h, ⟨c, el, fz, h1, h2, h3, h4⟩ => by simp only [O.rn, Option.some.injEq] at h; subst h; exact ⟨c, el, fz, h1, by rw [hb]; exact h2, h3, crel_ints_env h4⟩
  | .dfr, o2, h, r => by simp only [O.rn, Option.some.injEq] at h; subst h; exact r
  | .loop st pe fr ps a b', o2, h, ⟨r, h1, h2, h3, h4, h5, h6, h7, h8⟩ => by
    simp only [O.rn] at h
    split at h
    · rename_i hs
      simp only [Option.some.injEq] at h; subst h
      exact ⟨r, h1, h2, h3, h4, h5, h6, fun t v e => let ⟨v', k1, k2⟩ := h7 t v e; ⟨v', k1, still_rel hι hβ v v' (frStill_get fr hs t v e) k2⟩, h8⟩
    · cases h
end
theorem rn_wr {ν : Nat → Option Nat} {o o2 : O} (h : o.rn ν = some o2) : o2.wr = o.wr := by
  cases o <;> simp only [O.rn] at h <;> (try split at h) <;> first | (simp only [Option.some.injEq] at h; subst h; rfl) | cases h
def frNames : Tr V → List Nat → List Nat
  | .nil, l => l
  | .node v a b, l => (match v with | some v => V.names v | none => id) (frNames a (frNames b l))
def O.nms : O → List Nat
  | .loop _ _ fr _ _ _ => frNames fr []
  | o => o.names
def travG (h : Tr O) : Nat → List Nat → Tr Nat → List Nat → Nat → Option (Tr Nat × List Nat × Nat)
  | 0, _, _, _, _ => none
  | _ + 1, [], ρ, olds, k => some (ρ, olds, k)
  | f + 1, m :: q, ρ, olds, k => match ρ.get m with
    | some _ => travG h f q ρ olds k
    | none => travG h f ((match h.get m with | some o => o.nms | none => []) ++ q) (ρ.set m (some k)) (m :: olds) (k + 1)
def idTo : Nat → Tr Nat
  | 0 => .nil
  | k + 1 => (idTo k).set k (some k)
def oldsTo : Nat → List Nat
  | 0 => []
  | k + 1 => k :: oldsTo k
def lowNames (h : Tr O) : Nat → List Nat → List Nat
  | 0, l => l
  | k + 1, l => (match h.get k with | some o => o.nms | none => []) ++ lowNames h k l
def lowSame (ν : Nat → Option Nat) : Nat → Bool
  | 0 => true
  | k + 1 => selfN ν k && lowSame ν k
theorem lowSame_spec {ν : Nat → Option Nat} : ∀ {k : Nat}, lowSame ν k = true → ∀ m, m < k → ν m = some m
  | 0, _, m, hm => by omega
  | k + 1, h, m, hm => by
    simp only [lowSame, Bool.and_eq_true] at h
    by_cases e : m = k
    · subst e; exact selfN_spec h.1
    · exact lowSame_spec h.2 m (by omega)
def heapG (ν : Nat → Option Nat) (h : Tr O) : List Nat → Tr O → Option (Tr O)
  | [], t => some t
  | m :: r, t => match h.get m with
    | none => heapG ν h r t
    | some o => match ν m with
      | some k => match o.rn ν with
        | some o2 => match Nat.blt k top with
          | true => heapG ν h r (t.set k (some o2))
          | false => none
        | none => none
      | none => none
theorem heapG_spec {ν : Nat → Option Nat} {h : Tr O} : ∀ (l : List Nat) (t t2 : Tr O), heapG ν h l t = some t2 → (∀ k o2, t.get k = some o2 → ∃ m o, ν m = some k ∧ h.get m = some o ∧ o.rn ν = some o2) →
    ∀ k o2, t2.get k = some o2 → ∃ m o, ν m = some k ∧ h.get m = some o ∧ o.rn ν = some o2
  | [], t, t2, e, ht => by simp only [heapG, Option.some.injEq] at e; subst e; exact ht
  | m :: r, t, t2, e, ht => by
    simp only [heapG] at e
    split at e
    · exact heapG_spec r t t2 e ht
    · rename_i o ho
      split at e
      · rename_i k hk
        split at e
        · rename_i o2 ho2
          split at e
          · rename_i hlt
            refine heapG_spec r _ t2 e fun j o3 h3 => ?_
            rw [Tr.get_set _ _ _ (by simp [Nat.blt] at hlt; omega)] at h3
            split at h3
            · rename_i hj; simp only [Option.some.injEq] at h3; subst h3; subst hj; exact ⟨m, o, hk, ho, ho2⟩
            · exact ht j o3 h3
          · cases e
        · cases e
      · cases e
def frameG (ν : Nat → Option Nat) (fr : Tr V) : List Nat → Tr V → Option (Tr V)
  | [], t => some t
  | m :: r, t => match fr.get m with
    | none => frameG ν fr r t
    | some v => match v.rn ν with
      | some v2 => match Nat.blt m top with
        | true => frameG ν fr r (t.set m (some v2))
        | false => none
      | none => none
theorem frameG_spec {ν : Nat → Option Nat} {fr : Tr V} : ∀ (l : List Nat) (t t2 : Tr V), frameG ν fr l t = some t2 → (∀ k v2, t.get k = some v2 → ∃ v, fr.get k = some v ∧ v.rn ν = some v2) →
    ∀ k v2, t2.get k = some v2 → ∃ v, fr.get k = some v ∧ v.rn ν = some v2
  | [], t, t2, e, ht => by simp only [frameG, Option.some.injEq] at e; subst e; exact ht
  | m :: r, t, t2, e, ht => by
    simp only [frameG] at e
    split at e
    · exact frameG_spec r t t2 e ht
    · rename_i v hv
      split at e
      · rename_i v2 hv2
        split at e
        · rename_i hlt
          refine frameG_spec r _ t2 e fun j o3 h3 => ?_
          rw [Tr.get_set _ _ _ (by simp [Nat.blt] at hlt; omega)] at h3
          split at h3
          · rename_i hj; simp only [Option.some.injEq] at h3; subst h3; subst hj; exact ⟨v, hv, hv2⟩
          · exact ht j o3 h3
        · cases e
      · cases e
def dfsG (ν : Nat → Option Nat) : List (FuncId × List V × List V) → Option (List (FuncId × List V × List V))
  | [] => some []
  | (f, [], [.map (some m)]) :: r => match Nat.beq f top with
    | true => match ν m with
      | some k => match dfsG ν r with
        | some r => some ((top, [], [.map (some k)]) :: r)
        | none => none
      | none => none
    | false => none
  | _ :: _ => none
def dfsNames : List (FuncId × List V × List V) → List Nat → List Nat
  | (_, _, [.map (some m)]) :: r, l => m :: dfsNames r l
  | _, l => l
theorem dfsG_rel {ν : Nat → Option Nat} {E E' : Env} (hι : ∀ m k, ν m = some k → E'.ι k = E.ι m) : ∀ (l l2 : List (FuncId × List V × List V)) (ds : List Deferred), dfsG ν l = some l2 → drel E l ds → drel E' l2 ds
  | [], l2, ds, e, r => by simp only [dfsG, Option.some.injEq] at e; subst e; exact r
  | (f, c, args) :: r, l2, ds, e, h => by
    unfold dfsG at e
    split at e
    · rename_i heq; cases heq
    · rename_i f' m r' heq
      cases heq
      split at e
      · rename_i hf
        have hf := Nat.eq_of_beq_eq_true hf
        subst hf
        split at e
        · rename_i k hk
          split at e
          · rename_i r2 hr
            simp only [Option.some.injEq] at e; subst e
            obtain ⟨d, ys, r1, r2', q⟩ := h
            refine ⟨d, ys, ?_, dfsG_rel hι _ _ _ hr r2', q⟩
            rcases r1 with ⟨hlt, _⟩ | ⟨_, m', b, s, q1, q2, q3⟩
            · exact absurd hlt (Nat.lt_irrefl _)
            · simp only [List.cons.injEq, V.map.injEq, Option.some.injEq, and_true] at q1
              subst q1
              exact .inr ⟨rfl, k, b, s, rfl, (hι _ k hk).trans q2, q3⟩
          · cases e
        · cases e
      · cases e
    · cases e
def normG (n0 : Nat) (live : List Nat) (s : St) : Option St :=
  match Nat.ble n0 s.n with
  | false => none
  | true => match travG s.h 100000 (lowNames s.h n0 (rootNames s.fr live ++ dfsNames s.dfs [])) (idTo n0) (oldsTo n0) n0 with
    | some (ρ, olds, k) =>
      let ν := nameOf ρ (backOf olds k .nil) k
      match lowSame ν n0 && Nat.ble n0 k with
      | true => match heapG ν s.h olds .nil with
        | some h2 => match frameG ν s.fr live .nil with
          | some fr2 => match dfsG ν s.dfs with
            | some d2 => some { fr := fr2, h := h2, n := k, dfs := d2 }
            | none => none
          | none => none
        | none => none
      | false => none
    | none => none
structure UpdL (n0 : Nat) (E : Env) (h : Tr O) (w : World) (E' : Env) (h' : Tr O) (w' : World) : Prop where
  le : ∀ m b s, m < n0 → E.ι m = some (b, s) → E'.ι m = some (b, s) ∧ E'.β b = E.β b
  low : ∀ m, m < n0 → E'.ι m = E.ι m
  good : Good E' h' w'
  size : w.heap.size ≤ w'.heap.size
  tape : w'.tape = w.tape
  os : w'.os = w.os
  output : w'.output = w.output
  keep : ∀ b, b < w.heap.size → (∀ m s, wlive h m → E.ι m ≠ some (b, s)) → w'.heap[b]? = w.heap[b]?
  img : ∀ m b s, h'.get m ≠ none → E'.ι m = some (b, s) → b < w.heap.size → ∃ m0 s0, h.get m0 ≠ none ∧ E.ι m0 = some (b, s0) ∧ (wlive h' m → wlive h m0)
theorem UpdL.of {n0 n : Nat} {E E' : Env} {h h' : Tr O} {w w' : World} (u : Upd E h w E' h' w') (hlow : ∀ m, m < n → E'.ι m = E.ι m) (hn : n0 ≤ n) : UpdL n0 E h w E' h' w' :=
  ⟨fun m b s _ e => u.le m b s e, fun m hm => hlow m (by omega), u.good, u.size, u.tape, u.os, u.output, u.keep, u.img⟩
theorem UpdL.trans {n0 : Nat} {E E1 E2 : Env} {h h1 h2 : Tr O} {w w1 w2 : World} (a : UpdL n0 E h w E1 h1 w1) (b : UpdL n0 E1 h1 w1 E2 h2 w2) : UpdL n0 E h w E2 h2 w2 where
  le := fun m x s hm e => by
    obtain ⟨e1, b1⟩ := a.le m x s hm e
    obtain ⟨e2, b2⟩ := b.le m x s hm e1
    exact ⟨e2, b2.trans b1⟩
  low := fun m hm => (b.low m hm).trans (a.low m hm)
  good := b.good
  size := Nat.le_trans a.size b.size
  tape := b.tape.trans a.tape
  os := b.os.trans a.os
  output := b.output.trans a.output
  keep := fun x hx hn => by
    rw [b.keep x (Nat.lt_of_lt_of_le hx a.size) ?_, a.keep x hx hn]
    intro m s hm e
    obtain ⟨m0, s0, _, e0, k0⟩ := a.img m x s hm.live e hx
    exact hn m0 s0 (k0 hm) e0
  img := fun m x s hm e hx => by
    obtain ⟨m1, s1, k1, e1, l1⟩ := b.img m x s hm e (Nat.lt_of_lt_of_le hx a.size)
    obtain ⟨m0, s0, k0, e0, l0⟩ := a.img m1 x s1 k1 e1 hx
    exact ⟨m0, s0, k0, e0, fun q => l0 (l1 q)⟩
theorem UpdL.refl {n0 : Nat} {E : Env} {h : Tr O} {w : World} (g : Good E h w) : UpdL n0 E h w E h w :=
  .of (n := n0) (Upd.refl g) (fun _ _ => rfl) (Nat.le_refl _)
theorem UpdL.upd {n0 : Nat} {E E' : Env} {h h' : Tr O} {w w' : World} (u : UpdL n0 E h w E' h' w') (hd : Dom E n0) : Upd E h w E' h' w' :=
  ⟨fun m b s e => u.le m b s (by
    by_cases q : m < n0
    · exact q
    · rw [hd m (Nat.le_of_not_lt q)] at e; cases e) e, u.good, u.size, u.tape, u.os, u.output, u.keep, u.img⟩
theorem normG_sound {n0 N : Nat} {live : List Nat} {s s2 : St} {E : Env} {a : Act} {w : World} (e : normG n0 live s = some s2) (r : SRel E N s a w) : n0 ≤ s.n ∧ n0 ≤ s2.n ∧ ∃ E2, SRel E2 N s2 a w ∧ UpdL n0 E s.h w E2 s2.h w := by
  unfold normG at e
  split at e
  · cases e
  rename_i hn
  split at e
  case h_2 => cases e
  rename_i ρ olds k ht
  revert e
  generalize hback : backOf olds k .nil = back
  intro e
  simp only at e
  split at e
  case h_2 => cases e
  rename_i hlow
  simp only [Bool.and_eq_true] at hlow
  split at e
  case h_2 => cases e
  rename_i h2 hh
  split at e
  case h_2 => cases e
  rename_i fr2 hfr
  split at e
  case h_2 => cases e
  rename_i d2 hd2
  simp only [Option.some.injEq] at e
  subst e
  let E2 : Env := ⟨fun m => if m < k then (match back.get m with | some old => E.ι old | none => none) else none, E.β⟩
  have hι : ∀ m j, nameOf ρ back k m = some j → E2.ι j = E.ι m := by
    intro m j hj
    obtain ⟨_, h2, h3⟩ := nameOf_spec hj
    show (if j < k then (match back.get j with | some old => E.ι old | none => none) else none) = _
    rw [if_pos h3, h2]
  have hlo : ∀ m, m < n0 → E2.ι m = E.ι m := fun m hm => hι m m (lowSame_spec hlow.1 m hm)
  have hh2 := heapG_spec olds .nil h2 hh (fun j o hj => by simp [Tr.get] at hj)
  have good2 : Good E2 h2 w := by
    refine ⟨?_, ?_, ?_⟩
    · intro m o2 hm
      obtain ⟨old, o, k1, k2, k3⟩ := hh2 m o2 hm
      obtain ⟨b, s', e1, e2⟩ := r.good.rel old o k2
      exact ⟨b, s', (hι old m k1).trans e1, rnO_rel hι (fun _ _ _ _ _ _ => rfl) rfl o o2 k3 e2⟩
    · intro m m' b s1 s2 hne hm hm' e1 e2
      obtain ⟨o, ho, hwo⟩ := hm
      obtain ⟨o', ho'⟩ := Option.ne_none_iff_exists'.1 hm'
      obtain ⟨old, p, k1, k2, k3⟩ := hh2 m o ho
      obtain ⟨old', p', k1', k2', _⟩ := hh2 m' o' ho'
      rw [hι old m k1] at e1
      rw [hι old' m' k1'] at e2
      by_cases hold : old = old'
      · subst hold
        rw [k1] at k1'
        simp only [Option.some.injEq] at k1'
        exact hne k1'
      · exact r.good.inj old old' b s1 s2 hold ⟨p, k2, (rn_wr k3).symm.trans hwo⟩ (by rw [k2']; simp) e1 e2
    · intro m b s1 e1
      have e1 : (if m < k then (match back.get m with | some old => E.ι old | none => none) else none) = some (b, s1) := e1
      split at e1
      · split at e1
        · exact r.good.bnd _ b s1 e1
        · cases e1
      · cases e1
  refine ⟨Nat.le_of_ble_eq_true hn, Nat.le_of_ble_eq_true hlow.2, E2, ⟨good2, ?_, ?_, r.size, ?_⟩, ?_⟩
  · intro m hm
    show (if m < k then _ else none) = none
    rw [if_neg (by show ¬ m < k; have : k ≤ m := hm; omega)]
  · intro t v2 hv
    obtain ⟨v, k1, k2⟩ := frameG_spec live .nil fr2 hfr (fun j o hj => by simp [Tr.get] at hj) t v2 hv
    obtain ⟨v', h1, h2⟩ := r.fr t v k1
    exact ⟨v', h1, rn_rel hι (fun _ _ _ _ _ _ => rfl) v v2 v' k2 h2⟩
  · exact dfsG_rel hι _ _ _ hd2 r.dfs
  · refine ⟨fun m b s1 hm e1 => ⟨(hlo m hm).trans e1, rfl⟩, hlo, good2, Nat.le_refl _, rfl, rfl, rfl, fun _ _ _ => rfl, ?_⟩
    intro m b s1 hm e1 hb
    obtain ⟨o, ho⟩ := Option.ne_none_iff_exists'.1 hm
    obtain ⟨old, p, k1, k2, k3⟩ := hh2 m o ho
    rw [hι old m k1] at e1
    refine ⟨old, s1, by rw [k2]; simp, e1, fun ⟨o', q1, q2⟩ => ⟨p, k2, ?_⟩⟩
    rw [ho] at q1; cases q1
    exact (rn_wr k3).symm.trans q2
end Go.Eng
namespace Go.Eng
open Go Go.RowKit
abbrev CallS := FuncId → List V → Tr O → Nat → M (V × Tr O × Nat)
def SoundC (cs : CallS) (cf : CallF) : Prop := ∀ f args h n, Sound (cs f args h n) (retOnly (cf f args h n))
def symOpN (P : Program) (o : Oper) (fr : Tr V) (h : Tr O) (n : Nat) : Option (List Prop × R) :=
  match o.op with
  | .binOp .add t x y _ => match opd fr x, opd fr y with
    | some (.str a), some (.str b) => some ([a.length + b.length ≤ intMax], .val (.str (a ++ b)) h n)
    | _, _ => symOp P o fr h n
  | .binOp .rem t x (.tmp y) _ => match opd fr x, fr.get y with
    | some (.int k a), some (.int k' b) => match decide (k = k') with
      | true => some ([b ≠ 0], .val (.int k (a.tmod b)) h n)
      | false => none
    | _, _ => symOp P o fr h n
  | .indexAddr t x (.tmp i) => match opd fr x, fr.get i with
    | some (.ptr (some (m, off))), some (.int _ ix) => match P.underlying t with
      | some (.array len e) => match szof P e with
        | some s => some ([0 ≤ ix ∧ ix < len], .val (.ptr (some (m, off + ix.toNat * s))) h n)
        | none => none
      | _ => symOp P o fr h n
    | _, _ => symOp P o fr h n
  | .makeSlice t (.tmp l) (.tmp c) => match elemT P t, fr.get l, fr.get c with
    | some e, some (.int _ lv), some (.int _ cv) => match P.info? e, zeroOf P e with
      | some i, some z => match sizesB i z, newObj h n (zeroRow z.cells (IntKind.i64.wrap cv).toNat).toO with
        | true, some (h', n') => some ([0 ≤ IntKind.i64.wrap lv ∧ IntKind.i64.wrap lv ≤ IntKind.i64.wrap cv ∧ i.bytes * IntKind.i64.wrap cv ≤ 281474976710656], .val (.slc (some (n, 0)) (IntKind.i64.wrap lv).toNat (IntKind.i64.wrap cv).toNat i.size) h' n')
        | _, _ => none
      | _, _ => none
    | _, _, _ => symOp P o fr h n
  | _ => symOp P o fr h n
theorem symOpN_ok {P : Program} {o : Oper} {fr : Tr V} {h : Tr O} {n : Nat} {l : List Prop} {r : R} (e : symOpN P o fr h n = some (l, r)) (hl : ∀ p ∈ l, p) : stepOp P o fr h n = some r := by
  unfold symOpN at e
  split at e
  · rename_i t x y u ho
    split at e
    · rename_i a b ha hb
      simp only [Option.some.injEq, Prod.mk.injEq] at e; obtain ⟨rfl, rfl⟩ := e
      have hlen := hl _ (List.mem_singleton.2 rfl)
      unfold stepOp
      rw [ho]
      simp only [ha, hb]
      unfold binV strOp
      simp only [if_pos hlen, okV]
    · exact symOp_ok e hl
  · rename_i t x y yt ho
    split at e
    · rename_i k a k' b hx hy
      split at e
      · rename_i hk
        have hk := of_decide_eq_true hk
        subst hk
        simp only [Option.some.injEq, Prod.mk.injEq] at e; obtain ⟨rfl, rfl⟩ := e
        have hb : b ≠ 0 := hl _ (List.mem_singleton.2 rfl)
        have hy' : opd fr (.tmp y) = some (.int k b) := hy
        have : binV P .rem t x (.tmp y) (.int k a) (.int k b) = some (.int k (a.tmod b)) := by
          simp [binV, binOp, Op.intDiv, hb, pureSem, ofScalar]
          rfl
        simp only [stepOp, ho, hx, hy', this, okV]
      · cases e
    · exact symOp_ok e hl
  · rename_i t x i ho
    split at e
    · rename_i m off k ix hx hi
      split at e
      · rename_i len el hu
        split at e
        · rename_i sz hs
          simp only [Option.some.injEq, Prod.mk.injEq] at e; obtain ⟨rfl, rfl⟩ := e
          have hin := hl _ (List.mem_singleton.2 rfl)
          have hi' : opd fr (.tmp i) = some (.int k ix) := hi
          unfold stepOp
          rw [ho]
          simp only [hx, hi']
          unfold indexAddrV
          simp only [hu, hs, if_pos hin, okV]
        · cases e
      · exact symOp_ok e hl
    · exact symOp_ok e hl
  · rename_i t l1 c1 ho
    split at e
    · rename_i el k1 lv k2 cv he h1 h2
      split at e
      · rename_i i z hi hz
        split at e
        · rename_i h' n' hb hn
          simp only [Option.some.injEq, Prod.mk.injEq] at e; obtain ⟨rfl, rfl⟩ := e
          simp only [sizesB, Bool.and_eq_true, decide_eq_true_eq] at hb
          have hin := hl _ (List.mem_singleton.2 rfl)
          have h1' : opd fr (.tmp l1) = some (.int k1 lv) := h1
          have h2' : opd fr (.tmp c1) = some (.int k2 cv) := h2
          unfold stepOp
          rw [ho]
          simp only [h1', h2']
          unfold makeSliceV
          simp only [he, hi, hz]
          rw [if_pos ⟨hb.1, hb.2.2, hin.1, hin.2.1, hin.2.2⟩]
          simp only [hn]
        · cases e
      · cases e
    · exact symOp_ok e hl
  · exact symOp_ok e hl
def symN (P : Program) (o : Oper) (fr : Tr V) (h : Tr O) (n : Nat) : M R := match symOpN P o fr h n with
  | some (l, r) => some [(⟨[], [], l⟩, r)]
  | none => none
theorem symN_sound (P : Program) (o : Oper) (fr : Tr V) (h : Tr O) (n : Nat) : Sound (symN P o fr h n) (stepOp P o fr h n) := by
  intro l e
  unfold symN at e
  split at e
  · rename_i a r hs
    simp only [Option.some.injEq] at e; subst e
    refine ⟨⟨_, List.mem_singleton.2 rfl, fun c hc => by simp at hc⟩, fun e he _ hg => ?_⟩
    simp only [List.mem_singleton] at he; subst he
    exact symOpN_ok hs hg.2
  · cases e
section
variable (P : Program) (cs : CallS) (cf : CallF) (H : List (Nat × Fix))
def seqX (ops : Array Oper) : List Oper → St → M (X × St)
  | [], s => .ret (.normal, s)
  | o :: rest, s =>
    match wantedV ops o s.fr with
    | some false => match putD s.fr o.dst (.tup []) with
      | some fr => seqX ops rest { s with fr := fr }
      | none => none
    | some true => (symN P o s.fr s.h s.n).then fun r => match r with
      | .val v h n => (fixM H o.dst v).then fun v => match putD s.fr o.dst v with
        | some fr => seqX ops rest { s with fr := fr, h := h, n := n }
        | none => none
      | .call f args => (cs f args s.h s.n).then fun q => (fixM H o.dst q.1).then fun v => match putD s.fr o.dst v with
        | some fr => seqX ops rest { s with fr := fr, h := q.2.1, n := q.2.2 }
        | none => none
      | _ => none
    | none => none
theorem seqX_sound (hcs : SoundC cs cf) (ops : Array Oper) : ∀ (l : List Oper) (s : St), Sound (seqX P cs H ops l s) (seqOps P cf ops l s)
  | [], s => .ret _
  | o :: rest, s => by
    simp only [seqX, seqOps]
    rcases wantedV ops o s.fr with _ | (_ | _)
    · exact .none _
    · cases putD s.fr o.dst (.tup []) with
      | none => exact .none _
      | some fr => exact seqX_sound hcs ops rest _
    · refine sound_getL (Sound.then (symN_sound P o s.fr s.h s.n) (g := fun r => match r with
        | .val v h n => match putD s.fr o.dst v with
          | some fr => seqOps P cf ops rest { s with fr := fr, h := h, n := n }
          | none => none
        | .call f args => (retOnly (cf f args s.h s.n)).bind fun q => match putD s.fr o.dst q.1 with
          | some fr => seqOps P cf ops rest { s with fr := fr, h := q.2.1, n := q.2.2 }
          | none => none
        | _ => none) (fun r => ?_)) ?_
      · cases r with
        | val v h n =>
          refine (Sound.then (fixM_sound H o.dst v) (g := fun v => match putD s.fr o.dst v with
            | some fr => seqOps P cf ops rest { s with fr := fr, h := h, n := n }
            | none => none) (fun v => ?_)).of_eq rfl
          cases putD s.fr o.dst v with
          | none => exact .none _
          | some fr => exact seqX_sound hcs ops rest _
        | call f args =>
          refine Sound.then (hcs f args s.h s.n) (fun q => ?_)
          refine (Sound.then (fixM_sound H o.dst q.1) (g := fun v => match putD s.fr o.dst v with
            | some fr => seqOps P cf ops rest { s with fr := fr, h := q.2.1, n := q.2.2 }
            | none => none) (fun v => ?_)).of_eq rfl
          cases putD s.fr o.dst v with
          | none => exact .none _
          | some fr => exact seqX_sound hcs ops rest _
        | dfr f c args => exact .none _
        | recover => exact .none _
        | panic v => exact .none _
      · intro a ha
        cases hs : stepOp P o s.fr s.h s.n with
        | none => rw [hs] at ha; cases ha
        | some r =>
          rw [hs] at ha
          cases r with
          | call f args =>
            simp only [bind_some'] at ha ⊢
            cases hj : cf f args s.h s.n with
            | none => rw [hj] at ha; cases ha
            | some q =>
              rw [hj] at ha
              obtain ⟨out, h, n⟩ := q
              cases out with
              | ret v => exact ha
              | pan v => cases ha
          | val v h n => exact ha
          | _ => cases ha
def drawX (ops : Array Oper) (n0 i : Nat) (o : Oper) (s : Dr) : M Dr :=
  match wantedV ops o s.fr with
  | some false => match putD s.fr o.dst (.tup []) with
    | some fr => .ret { s with fr := fr, masks := s.masks ++ [maskOf s.masks o.after.toList] }
    | none => none
  | some true =>
    match isEff o.op with
    | true => match lastOk (maskOf s.masks o.after.toList) s.last with
      | true => (symN P o s.fr (view n0 s.allocs s.cur.1 s.cur.2 (maskOf s.masks o.after.toList)) s.n).then fun r => match r with
        | .val v h n => (fixM H o.dst v).then fun v => afterM P n0 i (maskOf s.masks o.after.toList) o s v h n
        | .call f args => (cs f args (view n0 s.allocs s.cur.1 s.cur.2 (maskOf s.masks o.after.toList)) s.n).then fun q => (fixM H o.dst q.1).then fun v => afterM P n0 i (maskOf s.masks o.after.toList) o s v q.2.1 q.2.2
        | _ => none
      | false => none
    | false => (symN P o s.fr (view n0 s.allocs s.cur.1 s.cur.2 (maskOf s.masks o.after.toList)) (n0 + i)).then fun r => match r with
      | .val v h k => (fixM H o.dst v).then fun v => match putD s.fr o.dst v with
        | some fr => match Nat.beq k (n0 + i) with
          | true => match isPure o.op with
            | true => .ret { s with fr := fr, masks := s.masks ++ [maskOf s.masks o.after.toList] }
            | false => (histM P n0 i o s.fr v s.allocs (maskOf s.masks o.after.toList) s.hist).then fun _ =>
                .ret { s with fr := fr, masks := s.masks ++ [maskOf s.masks o.after.toList], reads := (i, maskOf s.masks o.after.toList, o, s.fr, v) :: s.reads }
          | false => match h.get (n0 + i) with
            | some b => match b.wr with
              | true => .ret { s with fr := fr, masks := s.masks ++ [maskOf s.masks o.after.toList], allocs := (i, b) :: s.allocs }
              | false => none
            | none => none
        | none => none
      | _ => none
  | none => none
theorem drawX_sound (hcs : SoundC cs cf) (ops : Array Oper) (n0 i : Nat) (o : Oper) (s : Dr) : Sound (drawX P cs H ops n0 i o s) (getL (drawOp P cf ops n0 i o s)) := by
  unfold drawX drawOp
  rcases wantedV ops o s.fr with _ | (_ | _)
  · exact .none _
  · cases putD s.fr o.dst (.tup []) with
    | none => exact .none _
    | some fr => exact (Sound.ret _).of_eq rfl
  · cases isEff o.op with
    | true =>
      rcases Bool.eq_false_or_eq_true (lastOk (maskOf s.masks o.after.toList) s.last) with hb | hb
      rotate_left
      · simp only [hb]; exact .none _
      · simp only [hb, if_true]
        refine (Sound.then (symN_sound P o s.fr _ s.n) (g := fun r => match r with
          | .val v h n => afterEff P n0 i (maskOf s.masks o.after.toList) o s v h n
          | .call f args => (retOnly (cf f args (view n0 s.allocs s.cur.1 s.cur.2 (maskOf s.masks o.after.toList)) s.n)).bind fun q => afterEff P n0 i (maskOf s.masks o.after.toList) o s q.1 q.2.1 q.2.2
          | _ => none) (fun r => ?_)).of_eq ?_
        · cases r with
          | val v h n => exact (Sound.then (fixM_sound H o.dst v) (g := fun v => afterEff P n0 i (maskOf s.masks o.after.toList) o s v h n) (fun v => afterM_sound P n0 i _ o s v h n)).of_eq rfl
          | call f args =>
            refine Sound.then (hcs f args _ s.n) (fun q => ?_)
            exact (Sound.then (fixM_sound H o.dst q.1) (g := fun v => afterEff P n0 i (maskOf s.masks o.after.toList) o s v q.2.1 q.2.2) (fun v => afterM_sound P n0 i _ o s v q.2.1 q.2.2)).of_eq rfl
          | _ => exact .none _
        · cases stepOp P o s.fr (view n0 s.allocs s.cur.1 s.cur.2 (maskOf s.masks o.after.toList)) s.n with
          | none => rfl
          | some r =>
            cases r with
            | val v h n =>
              simp only [bind_some']
              cases afterEff P n0 i (maskOf s.masks o.after.toList) o s v h n <;> rfl
            | call f args =>
              simp only [bind_some']
              cases cf f args (view n0 s.allocs s.cur.1 s.cur.2 (maskOf s.masks o.after.toList)) s.n with
              | none => rfl
              | some q =>
                obtain ⟨out, h, n⟩ := q
                cases out with
                | ret v =>
                  simp only [retOnly, bind_some']
                  cases afterEff P n0 i (maskOf s.masks o.after.toList) o s v h n <;> rfl
                | pan v => simp only; split <;> rfl
            | _ => rfl
    | false =>
      simp only [Bool.false_eq_true, if_false]
      have body : ∀ (v : V) (h : Tr O) (k : Nat), Sound (match putD s.fr o.dst v with
          | some fr => match Nat.beq k (n0 + i) with
            | true => match isPure o.op with
              | true => M.ret { s with fr := fr, masks := s.masks ++ [maskOf s.masks o.after.toList] }
              | false => (histM P n0 i o s.fr v s.allocs (maskOf s.masks o.after.toList) s.hist).then fun _ =>
                  .ret { s with fr := fr, masks := s.masks ++ [maskOf s.masks o.after.toList], reads := (i, maskOf s.masks o.after.toList, o, s.fr, v) :: s.reads }
            | false => match h.get (n0 + i) with
              | some b => match b.wr with
                | true => M.ret { s with fr := fr, masks := s.masks ++ [maskOf s.masks o.after.toList], allocs := (i, b) :: s.allocs }
                | false => none
              | none => none
          | none => none) (getL (match putD s.fr o.dst v with
            | some fr =>
              if Nat.beq k (n0 + i) = true then
                if isPure o.op = true then (some (.inl { s with fr := fr, masks := s.masks ++ [maskOf s.masks o.after.toList] }) : Option (Dr ⊕ (Tr V × V × Tr O × Nat)))
                else if histOk P n0 i o s.fr v s.allocs (maskOf s.masks o.after.toList) s.hist = true then
                  some (.inl { s with fr := fr, masks := s.masks ++ [maskOf s.masks o.after.toList], reads := (i, maskOf s.masks o.after.toList, o, s.fr, v) :: s.reads })
                else miss o
              else match h.get (n0 + i) with
                | some b => if b.wr = true then some (.inl { s with fr := fr, masks := s.masks ++ [maskOf s.masks o.after.toList], allocs := (i, b) :: s.allocs }) else miss o
                | none => miss o
            | none => miss o)) := by
        intro v h k
        cases putD s.fr o.dst v with
        | none => exact .none _
        | some fr =>
          simp only
          cases Nat.beq k (n0 + i) with
          | true =>
            simp only [if_true]
            cases isPure o.op with
            | true => exact (Sound.ret _).of_eq rfl
            | false =>
              refine (Sound.then (histM_sound P n0 i o s.fr v s.allocs _ s.hist) (g := fun _ => some _) (fun _ => .ret _)).of_eq ?_
              simp only [Bool.false_eq_true, if_false]
              cases histOk P n0 i o s.fr v s.allocs (maskOf s.masks o.after.toList) s.hist <;> rfl
          | false =>
            simp only [Bool.false_eq_true, if_false]
            cases h.get (n0 + i) with
            | none => exact .none _
            | some b =>
              simp only
              cases b.wr with
              | true => exact (Sound.ret _).of_eq rfl
              | false => exact .none _
      refine (Sound.then (symN_sound P o s.fr _ (n0 + i)) (g := fun r => match r with
        | .val v h k => getL (match putD s.fr o.dst v with
            | some fr =>
              if Nat.beq k (n0 + i) = true then
                if isPure o.op = true then (some (.inl { s with fr := fr, masks := s.masks ++ [maskOf s.masks o.after.toList] }) : Option (Dr ⊕ (Tr V × V × Tr O × Nat)))
                else if histOk P n0 i o s.fr v s.allocs (maskOf s.masks o.after.toList) s.hist = true then
                  some (.inl { s with fr := fr, masks := s.masks ++ [maskOf s.masks o.after.toList], reads := (i, maskOf s.masks o.after.toList, o, s.fr, v) :: s.reads })
                else miss o
              else match h.get (n0 + i) with
                | some b => if b.wr = true then some (.inl { s with fr := fr, masks := s.masks ++ [maskOf s.masks o.after.toList], allocs := (i, b) :: s.allocs }) else miss o
                | none => miss o
            | none => miss o)
        | _ => none) (fun r => ?_)).of_eq ?_
      · cases r with
        | val v h k => exact (Sound.then (fixM_sound H o.dst v) (g := fun v => getL (match putD s.fr o.dst v with
            | some fr =>
              if Nat.beq k (n0 + i) = true then
                if isPure o.op = true then (some (.inl { s with fr := fr, masks := s.masks ++ [maskOf s.masks o.after.toList] }) : Option (Dr ⊕ (Tr V × V × Tr O × Nat)))
                else if histOk P n0 i o s.fr v s.allocs (maskOf s.masks o.after.toList) s.hist = true then
                  some (.inl { s with fr := fr, masks := s.masks ++ [maskOf s.masks o.after.toList], reads := (i, maskOf s.masks o.after.toList, o, s.fr, v) :: s.reads })
                else miss o
              else match h.get (n0 + i) with
                | some b => if b.wr = true then some (.inl { s with fr := fr, masks := s.masks ++ [maskOf s.masks o.after.toList], allocs := (i, b) :: s.allocs }) else miss o
                | none => miss o
            | none => miss o)) (fun v => body v h k)).of_eq rfl
        | _ => exact .none _
      · cases stepOp P o s.fr (view n0 s.allocs s.cur.1 s.cur.2 (maskOf s.masks o.after.toList)) (n0 + i) with
        | none => rfl
        | some r => cases r <;> rfl
def drawsX (ops : Array Oper) (n0 : Nat) : List Oper → Nat → Dr → M Dr
  | [], _, s => .ret s
  | o :: r, i, s => (drawX P cs H ops n0 i o s).then fun s' => drawsX ops n0 r (i + 1) s'
theorem drawsX_sound (hcs : SoundC cs cf) (ops : Array Oper) (n0 : Nat) : ∀ (l : List Oper) (i : Nat) (s : Dr), Sound (drawsX P cs H ops n0 l i s) (getL (drawOps P cf ops n0 l i s))
  | [], i, s => (Sound.ret s).of_eq rfl
  | o :: r, i, s => by
    simp only [drawsX, drawOps]
    refine (Sound.then (drawX_sound P cs cf H hcs ops n0 i o s) (fun s' => drawsX_sound hcs ops n0 r (i + 1) s')).of_eq ?_
    cases drawOp P cf ops n0 i o s with
    | none => rfl
    | some q => cases q <;> rfl
def codeX (F : Nat) : Code → St → M (X × St)
  | .region _ ops false, s => seqX P cs H ops ops.toList s
  | .region _ ops true, s => match decide (s.n + ops.size < top) with
    | true => (drawsX P cs H ops s.n ops.toList 0 { fr := s.fr, masks := [], cur := (0, s.h), hist := [], last := none, allocs := [], reads := [], n := s.n + ops.size }).then fun d =>
        .ret (.normal, { fr := d.fr, h := view s.n d.allocs d.cur.1 d.cur.2 (2 ^ ops.size - 1), n := d.n, dfs := s.dfs })
    | false => none
  | .seq a b, s => (codeX F a s).then fun p => match p.1 with
    | .normal => codeX F b p.2
    | _ => .ret p
  | .cond c a b, s => match opd s.fr c with
    | some (.bool true) => codeX F a s
    | some (.bool false) => codeX F b s
    | _ => none
  | .block id body, s => (codeX F body s).then fun p => match p.1 with
    | .exit id' => if id' = id then .ret (.normal, p.2) else .ret p
    | _ => .ret p
  | .loop body, s => roundsM (codeX F body) F s
  | .skip, s => .ret (.normal, s)
  | .exit id, s => .ret (.exit id, s)
  | .ret, s => .ret (.ret, s)
  | .rangeFunc g ps assign body, s => match opd s.fr g with
    | some (.fn (.func gf) [] lb) => match callee P gf && decide (s.n + 1 < top) with
      | true => (cs gf (.fn (.yield (s.n + 1)) [] [] :: lb) ((s.h.set s.n (some .dfr)).set (s.n + 1) (some (.loop true none s.fr ps.toList assign body))) (s.n + 2)).then fun q => match q.2.1.get s.n, q.2.1.get (s.n + 1) with
        | some .dfr, some (.loop true none _ _ _ _) => .ret (.normal, { s with h := q.2.1.set (s.n + 1) none, n := q.2.2, dfs := (top, [], [.map (some s.n)]) :: s.dfs })
        | some .dfr, some (.loop false (some .ret) _ _ _ _) => .ret (.ret, { s with h := q.2.1.set (s.n + 1) none, n := q.2.2, dfs := (top, [], [.map (some s.n)]) :: s.dfs })
        | some .dfr, some (.loop false (some (.exit id)) _ _ _ _) => .ret (.exit id, { s with h := q.2.1.set (s.n + 1) none, n := q.2.2, dfs := (top, [], [.map (some s.n)]) :: s.dfs })
        | _, _ => none
      | false => none
    | _ => none
  | _, _ => none
theorem codeX_sound (hcs : SoundC cs cf) (F : Nat) : ∀ (c : Code) (s : St), Sound (codeX P cs H F c s) (exec P cf F c s) := by
  intro c
  induction c with
  | region id ops draw =>
    intro s
    cases draw with
    | false => exact seqX_sound P cs cf H hcs ops ops.toList s
    | true =>
      simp only [codeX, exec, drawn]
      by_cases hlt : s.n + ops.size < top
      · simp only [decide_eq_true hlt, if_pos hlt]
        refine sound_getL (Sound.then (drawsX_sound P cs cf H hcs ops s.n ops.toList 0 _) (g := fun d => some (.normal, { fr := d.fr, h := view s.n d.allocs d.cur.1 d.cur.2 (2 ^ ops.size - 1), n := d.n, dfs := s.dfs })) (fun d => .ret _)) ?_
        intro d hd
        cases hq : drawOps P cf ops s.n ops.toList 0 { fr := s.fr, masks := [], cur := (0, s.h), hist := [], last := none, allocs := [], reads := [], n := s.n + ops.size } with
        | none => rw [hq] at hd; cases hd
        | some q =>
          rw [hq] at hd
          cases q with
          | inl d' => simp only [getL, Option.bind_some] at hd; simp only; exact hd
          | inr _ => cases hd
      · simp only [decide_eq_false hlt]; exact .none _
  | seq a b iha ihb =>
    intro s
    simp only [codeX, exec]
    refine (Sound.then (iha s) (g := fun p => match p.1 with | .normal => exec P cf F b p.2 | _ => some p) (fun p => ?_)).of_eq ?_
    · obtain ⟨x, s'⟩ := p
      cases x with
      | normal => exact ihb s'
      | _ => exact .ret _
    · cases exec P cf F a s with
      | none => rfl
      | some p => obtain ⟨x, s'⟩ := p; cases x <;> rfl
  | cond c a b iha ihb =>
    intro s
    simp only [codeX, exec]
    cases opd s.fr c with
    | none => exact .none _
    | some v =>
      cases v with
      | bool t =>
        cases t with
        | true => exact iha s
        | false => exact ihb s
      | _ => exact .none _
  | block id c ih =>
    intro s
    simp only [codeX, exec]
    refine (Sound.then (ih s) (g := fun p => match p.1 with | .exit id' => if id' = id then some (.normal, p.2) else some p | _ => some p) (fun p => ?_)).of_eq ?_
    · obtain ⟨x, s'⟩ := p
      cases x with
      | exit j =>
        simp only
        by_cases hj : j = id
        · simp only [if_pos hj]; exact .ret _
        · simp only [if_neg hj]; exact .ret _
      | _ => exact .ret _
    · cases exec P cf F c s with
      | none => rfl
      | some p => obtain ⟨x, s'⟩ := p; cases x <;> rfl
  | loop c ih =>
    intro s
    simp only [codeX, exec]
    exact roundsM_sound ih F s
  | skip => intro s; exact .ret _
  | exit id => intro s; exact .ret _
  | ret => intro s; exact .ret _
  | rangeFunc g ps assign body _ _ =>
    intro s
    simp only [codeX, exec]
    split
    · rename_i gf lb hg
      rw [hg]
      simp only
      split
      · rename_i hq
        simp only [Bool.and_eq_true, decide_eq_true_eq] at hq
        rw [if_pos hq]
        refine sound_getL (Sound.then (hcs gf _ _ (s.n + 2)) (g := fun q => match q.2.1.get s.n, q.2.1.get (s.n + 1) with
          | some .dfr, some (.loop true none _ _ _ _) => some (.normal, { s with h := q.2.1.set (s.n + 1) none, n := q.2.2, dfs := (top, [], [.map (some s.n)]) :: s.dfs })
          | some .dfr, some (.loop false (some .ret) _ _ _ _) => some (.ret, { s with h := q.2.1.set (s.n + 1) none, n := q.2.2, dfs := (top, [], [.map (some s.n)]) :: s.dfs })
          | some .dfr, some (.loop false (some (.exit id)) _ _ _ _) => some (.exit id, { s with h := q.2.1.set (s.n + 1) none, n := q.2.2, dfs := (top, [], [.map (some s.n)]) :: s.dfs })
          | _, _ => none) (fun q => ?_)) ?_
        · split <;> first | exact .ret _ | exact .none _
        · intro a ha
          cases hc : cf gf (.fn (.yield (s.n + 1)) [] [] :: lb) ((s.h.set s.n (some .dfr)).set (s.n + 1) (some (.loop true none s.fr ps.toList assign body))) (s.n + 2) with
          | none => rw [hc] at ha; cases ha
          | some q =>
            rw [hc] at ha
            obtain ⟨out, h, n⟩ := q
            cases out with
            | pan v => cases ha
            | ret v =>
              simp only [retOnly, Option.bind_some] at ha
              simp only
              split at ha <;> first | (rename_i h1 h2; simp only [h1, h2]; exact ha) | cases ha
      · exact .none _
    · exact .none _
  | _ => intro s; exact .none _
end
end Go.Eng
namespace Go.Eng
open Go Go.RowKit
def leaveP (P : Program) (fn : Func) (fr : Tr V) : List (FuncId × List V × List V) → Tr O → Nat → Option (V × Tr O × Nat)
  | [], h, n => match resultsV P fr h fn.results.toList with
    | some vs => some (oneOf vs, h, n)
    | none => none
  | (g, _, args) :: ds, h, n => match Nat.ble top g with
    | true => match args with
      | [.map (some b)] => match h.get b with
        | some .dfr => match Nat.blt b top with
          | true => leaveP P fn fr ds (h.set b none) n
          | false => none
        | _ => none
      | _ => none
    | false => none
theorem leaveP_ok {P : Program} {cf : CallF} {F : Nat} {fn : Func} {fr : Tr V} : ∀ {ds : List (FuncId × List V × List V)} {h : Tr O} {n : Nat} {r : V × Tr O × Nat}, leaveP P fn fr ds h n = some r → leave P cf F fn fr ds .ret h n = some (.ret r.1, r.2.1, r.2.2)
  | [], h, n, r, e => by
    unfold leaveP at e
    unfold leave
    split at e
    · rename_i vs hv
      simp only [Option.some.injEq] at e; subst e
      rw [hv]
    · cases e
  | (g, c, args) :: ds, h, n, r, e => by
    unfold leaveP at e
    unfold leave
    split at e
    case h_2 => cases e
    rename_i hg
    rw [if_pos (Nat.le_of_ble_eq_true hg)]
    split at e
    case h_2 => cases e
    rename_i b
    simp only
    split at e
    case h_2 => cases e
    rename_i hb
    rw [hb]
    simp only
    split at e
    case h_2 => cases e
    rename_i hlt
    rw [if_pos (show b < top from Nat.le_of_ble_eq_true hlt)]
    exact leaveP_ok e
abbrev CtrW := FuncId → List V → Tr O → Nat → Option (List Prop × V × Tr O × Nat)
def CtrWOk (P : Program) (S : CtrW) : Prop := ∀ f args h n A v h' n', S f args h n = some (A, v, h', n') → f < P.funcs.size ∧ ((∀ a ∈ A, a) →
  ∀ E w args', vrels E args args' → Good E h w → Dom E n → callee P f = true → Calls P f args'.toArray w (CPost E h n w (.ret v) h' n'))
def addW (f : FuncId) (spec : List V → Tr O → Nat → Option (List Prop × V × Tr O × Nat)) (S : CtrW) : CtrW := fun g args h n => match Nat.beq g f with
  | true => match spec args h n with
    | some r => some r
    | none => S g args h n
  | false => S g args h n
def OneW (P : Program) (f : FuncId) (spec : List V → Tr O → Nat → Option (List Prop × V × Tr O × Nat)) : Prop := f < P.funcs.size ∧ ∀ args h n A v h' n', spec args h n = some (A, v, h', n') → (∀ a ∈ A, a) →
  ∀ E w args', vrels E args args' → Good E h w → Dom E n → callee P f = true → Calls P f args'.toArray w (CPost E h n w (.ret v) h' n')
theorem addW_ok {P : Program} {f : FuncId} {spec : List V → Tr O → Nat → Option (List Prop × V × Tr O × Nat)} {S : CtrW} (hp : OneW P f spec) (hS : CtrWOk P S) : CtrWOk P (addW f spec S) := by
  intro g args h n A v h' n' e
  unfold addW at e
  split at e
  · rename_i hg
    have hg := Nat.eq_of_beq_eq_true hg
    subst hg
    split at e
    · rename_i r hr
      cases e
      exact ⟨hp.1, hp.2 args h n A v h' n' hr⟩
    · exact hS g args h n A v h' n' e
  · exact hS g args h n A v h' n' e
def joinW (S1 S2 : CtrW) : CtrW := fun f args h n => match S1 f args h n with
  | some r => some r
  | none => S2 f args h n
theorem joinW_ok {P : Program} {S1 S2 : CtrW} (h1 : CtrWOk P S1) (h2 : CtrWOk P S2) : CtrWOk P (joinW S1 S2) := by
  intro f args h n A v h' n' e
  unfold joinW at e
  split at e
  · rename_i r hr
    cases e
    exact h1 f args h n A v h' n' hr
  · exact h2 f args h n A v h' n' e
def endX (P : Program) (fn : Func) (p : X × St) : M (V × Tr O × Nat) := match p.1 with
  | .normal => match leaveP P fn p.2.fr p.2.dfs p.2.h p.2.n with
    | some r => .ret r
    | none => none
  | .ret => match leaveP P fn p.2.fr p.2.dfs p.2.h p.2.n with
    | some r => .ret r
    | none => none
  | _ => none
def enterX (P : Program) (cs : CallS) (H : List (Nat × Fix)) (F : Nat) (f : FuncId) (args : List V) (h : Tr O) (n : Nat) : M (V × Tr O × Nat) :=
  match P.funcs[f]? with
  | some fn => match fn.body with
    | some code => match Nat.ble args.length fn.ntmps && Nat.blt fn.ntmps top with
      | true => (codeX P cs H F code (startSt args h n)).then (endX P fn)
      | false => none
    | none => none
  | none => none
theorem enterX_sound {P : Program} {cs : CallS} {cf : CallF} (hcs : SoundC cs cf) (H : List (Nat × Fix)) (F : Nat) (f : FuncId) (args : List V) (h : Tr O) (n : Nat) : Sound (enterX P cs H F f args h n) (retOnly (enter P cf F f args h n)) := by
  unfold enterX enter
  split
  · rename_i fn hf
    rw [hf]
    simp only
    split
    · rename_i code hb
      rw [hb]
      simp only
      split
      · rename_i hq
        simp only [Bool.and_eq_true] at hq
        have hq' : args.length ≤ fn.ntmps ∧ fn.ntmps < top := ⟨Nat.le_of_ble_eq_true hq.1, Nat.le_of_ble_eq_true hq.2⟩
        rw [if_pos hq']
        refine sound_getL (Sound.then (codeX_sound P cs cf H hcs F code (startSt args h n)) (g := fun p => match p.1 with
          | .normal => retOnly (leave P cf F fn p.2.fr p.2.dfs .ret p.2.h p.2.n)
          | .ret => retOnly (leave P cf F fn p.2.fr p.2.dfs .ret p.2.h p.2.n)
          | _ => none) (fun p => ?_)) ?_
        · obtain ⟨x, s⟩ := p
          unfold endX
          cases x with
          | normal =>
            simp only
            split
            · rename_i r hr
              refine (Sound.ret r).of_eq ?_
              rw [leaveP_ok hr]; rfl
            · exact .none _
          | ret =>
            simp only
            split
            · rename_i r hr
              refine (Sound.ret r).of_eq ?_
              rw [leaveP_ok hr]; rfl
            · exact .none _
          | _ => exact .none _
        · intro a ha
          change ((exec P cf F code { fr := frameOf args 0 .nil, h := h, n := n, dfs := [] }).bind _) = some a at ha
          cases hx : exec P cf F code { fr := frameOf args 0 .nil, h := h, n := n, dfs := [] } with
          | none => rw [hx] at ha; cases ha
          | some p =>
            rw [hx] at ha
            obtain ⟨x, s⟩ := p
            cases x <;> first | exact ha | cases ha
      · exact .none _
    · exact .none _
  · exact .none _
def roundX (P : Program) (cs : CallS) (H : List (Nat × Fix)) (F m : Nat) (args : List V) (h : Tr O) (n : Nat) : M (V × Tr O × Nat) :=
  match h.get m with
  | some (.loop true none fr ps assign body) => match (Nat.blt m top && Nat.beq ps.length args.length) && (plainC assign && plainC body) with
    | true => match putAll (zipL ps args) fr with
      | some fr1 => (codeX P cs H F assign { fr := fr1, h := h.set m none, n := n, dfs := [] }).then fun p => match p.1 with
        | .normal => (codeX P cs H F body p.2).then fun q => match q.1 with
          | .normal => .ret (.bool true, q.2.h.set m (some (.loop true none fr ps assign body)), q.2.n)
          | .ret => .ret (.bool false, q.2.h.set m (some (.loop false (some .ret) fr ps assign body)), q.2.n)
          | .exit id => .ret (.bool false, q.2.h.set m (some (.loop false (some (.exit id)) fr ps assign body)), q.2.n)
          | _ => none
        | _ => none
      | none => none
    | false => none
  | _ => none
theorem roundX_sound {P : Program} {cs : CallS} {cf : CallF} (hcs : SoundC cs cf) (H : List (Nat × Fix)) (F m : Nat) (args : List V) (h : Tr O) (n : Nat) : Sound (roundX P cs H F m args h n) (retOnly (aRound P cf F m args h n)) := by
  unfold roundX aRound
  split
  · rename_i fr ps assign body hg
    rw [hg]
    simp only
    split
    · rename_i hq
      simp only [Bool.and_eq_true] at hq
      have hq' : m < top ∧ ps.length = args.length ∧ plainC assign = true ∧ plainC body = true := ⟨Nat.le_of_ble_eq_true hq.1.1, Nat.eq_of_beq_eq_true hq.1.2, hq.2.1, hq.2.2⟩
      rw [if_pos hq']
      split
      · rename_i fr1 hput
        rw [hput]
        simp only
        refine sound_getL (Sound.then (codeX_sound P cs cf H hcs F assign _) (g := fun p => match p.1 with
          | .normal => (exec P cf F body p.2).bind fun q => match q.1 with
            | .normal => some (.bool true, q.2.h.set m (some (.loop true none fr ps assign body)), q.2.n)
            | .ret => some (.bool false, q.2.h.set m (some (.loop false (some .ret) fr ps assign body)), q.2.n)
            | .exit id => some (.bool false, q.2.h.set m (some (.loop false (some (.exit id)) fr ps assign body)), q.2.n)
            | _ => none
          | _ => none) (fun p => ?_)) ?_
        · obtain ⟨x, s⟩ := p
          cases x with
          | normal =>
            refine Sound.then (codeX_sound P cs cf H hcs F body s) (fun q => ?_)
            obtain ⟨y, s2⟩ := q
            cases y <;> first | exact .ret _ | exact .none _
          | _ => exact .none _
        · intro a ha
          cases hx : exec P cf F assign { fr := fr1, h := h.set m none, n := n, dfs := [] } with
          | none => rw [hx] at ha; cases ha
          | some p =>
            rw [hx] at ha
            obtain ⟨x, s⟩ := p
            simp only [Option.bind_some] at ha
            cases x with
            | normal =>
              simp only at ha ⊢
              cases hy : exec P cf F body s with
              | none => rw [hy] at ha; cases ha
              | some q =>
                rw [hy] at ha
                obtain ⟨y, s2⟩ := q
                cases y <;> first | exact ha | cases ha
            | _ => cases ha
      · exact .none _
    · exact .none _
  · exact .none _
def callX (P : Program) (S : CtrW) (HH : FuncId → List (Nat × Fix)) (F : Nat) : Nat → CallS
  | 0 => fun _ _ _ _ => none
  | k + 1 => fun f args h n => match S f args h n with
    | some (A, r) => some [(⟨[], [], A⟩, r)]
    | none => match Nat.blt f P.funcs.size with
      | true => enterX P (callX P S HH F k) (HH f) F f args h n
      | false => roundX P (callX P S HH F k) (HH f) F (f - P.funcs.size) args h n
open Classical in
noncomputable def joinX (P : Program) (S : CtrW) (F : Nat) : Nat → CallF
  | 0 => fun _ _ _ _ => none
  | k + 1 => fun f args h n => match S f args h n with
    | some (A, r) => if ∀ a ∈ A, a then some (.ret r.1, r.2.1, r.2.2) else none
    | none => if f < P.funcs.size then enter P (joinX P S F k) F f args h n else aRound P (joinX P S F k) F (f - P.funcs.size) args h n
theorem callX_sound (P : Program) (S : CtrW) (HH : FuncId → List (Nat × Fix)) (F : Nat) : ∀ k, SoundC (callX P S HH F k) (joinX P S F k)
  | 0 => fun _ _ _ _ => .none _
  | k + 1 => by
    intro f args h n
    simp only [callX, joinX]
    cases hS : S f args h n with
    | some q =>
      obtain ⟨A, v, h', n'⟩ := q
      intro l e
      simp only [Option.some.injEq] at e; subst e
      refine ⟨⟨_, List.mem_singleton.2 rfl, fun c hc => by simp at hc⟩, fun e he _ hg => ?_⟩
      simp only [List.mem_singleton] at he; subst he
      simp only
      rw [if_pos hg.2]
      rfl
    | none =>
      simp only
      by_cases hf : f < P.funcs.size
      · have hb : Nat.blt f P.funcs.size = true := Nat.ble_eq_true_of_le hf
        rw [hb, if_pos hf]
        exact enterX_sound (callX_sound P S HH F k) (HH f) F f args h n
      · have hb : Nat.blt f P.funcs.size = false := by
          cases hq : Nat.blt f P.funcs.size with
          | false => rfl
          | true => exact absurd (Nat.le_of_ble_eq_true hq) hf
        rw [hb, if_neg hf]
        exact roundX_sound (callX_sound P S HH F k) (HH f) F _ args h n
theorem joinX_ok {P : Program} {S : CtrW} {F : Nat} (hm : P.follows .mixedOrders = true) (hpo : progOk P = true) (hS : CtrWOk P S) : ∀ k, CallOk P (joinX P S F k)
  | 0 => fun _ _ _ _ _ _ _ e => by cases e
  | k + 1 => by
    intro f args h n out h' n' e E w args' ra g hd
    simp only [joinX] at e
    split at e
    · rename_i A r hs
      obtain ⟨v, h1, n1⟩ := r
      split at e
      · rename_i hA
        simp only [Option.some.injEq, Prod.mk.injEq] at e
        obtain ⟨rfl, rfl, rfl⟩ := e
        obtain ⟨hlt, hcalls⟩ := hS f args h n A v h1 n1 hs
        exact ⟨fun hcal => hcalls hA E w args' ra g hd hcal, fun m l s hfm _ => absurd hlt (by rw [hfm]; exact Nat.not_lt.2 (Nat.le_add_right _ _))⟩
      · cases e
    · exact step_ok (F := F) (joinX_ok hm hpo hS k) hm hpo f args h n out h' n' e E w args' ra g hd
structure CX (P : Program) where
  cs : CallS
  cf : CallF
  snd : SoundC cs cf
  ok : CallOk P cf
noncomputable def CX.of {P : Program} (hm : P.follows .mixedOrders = true) (hpo : progOk P = true) {S : CtrW} (hS : CtrWOk P S) (HH : FuncId → List (Nat × Fix)) (F k : Nat) : CX P :=
  ⟨callX P S HH F k, joinX P S F k, callX_sound P S HH F k, joinX_ok hm hpo hS k⟩
end Go.Eng
