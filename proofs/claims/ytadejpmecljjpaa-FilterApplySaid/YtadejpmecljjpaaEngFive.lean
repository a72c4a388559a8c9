/- The engine, part SD: rules over states whose memory may be written; names below a line are kept. No conditions: lemmas alone. -/
import Derived.Test.YtadejpmecljjpaaEngFour
set_option linter.unusedVariables false
set_option linter.unusedSimpArgs false
set_option linter.unusedSectionVars false
namespace Go.Eng
open Go Go.RowKit
def TG (P : Program) (n0 N : Nat) (c : Code) (s : St) (Q : Exit → St → Prop) : Prop :=
  ∀ (E : Env) (a : Act) (w : World) (K : Exit → Act → World → Prop), SRel E N s a w → n0 ≤ s.n →
    (∀ y s' E' a' w', Q y s' → UpdL n0 E s.h w E' s'.h w' → n0 ≤ s'.n → SRel E' N s' a' w' → K y a' w') → c.wp P K a w
section
variable {P : Program} {cf : CallF} {F n0 N : Nat} {c : Code} {s s' : St} {Q Q1 : Exit → St → Prop}
theorem TG_mono (h : TG P n0 N c s Q1) (hq : ∀ y s', Q1 y s' → Q y s') : TG P n0 N c s Q := fun E a w K r hn k => h E a w K r hn fun y s' E' a' w' q => k y s' E' a' w' (hq y s' q)
theorem TG_exec (hcf : CallOk P cf) (hm : P.follows .mixedOrders = true) {x : X} {y : Exit} (hc : codeOk N c = true) (e : exec P cf F c s = some (x, s')) (hx : x.plain = some y) (hq : Q y s') : TG P n0 N c s Q := by
  intro E a w K r hn k
  refine wpIn_wide (n := 0) |>.1 ?_
  refine exec_sound (rnd := none) hcf hm c s x s' (.inl rfl) hc e E a w K r fun E' a' w' x' u hlow hn' r' hxx => ?_
  have : x' = y := by
    cases x <;> cases x' <;> simp only [xrel, X.plain, Option.some.injEq, reduceCtorEq] at hxx hx <;> first | exact hx | (subst hxx; exact hx)
  subst this
  exact k _ s' E' a' w' hq (.of u hlow hn) (Nat.le_trans hn hn') r'
theorem TG_norm {live : List Nat} {s2 : St} (e : normG n0 live s = some s2) (h : TG P n0 N c s2 Q) : TG P n0 N c s Q := by
  intro E a w K r hn k
  obtain ⟨_, hn2, E2, r2, u2⟩ := normG_sound e r
  exact h E2 a w K r2 hn2 fun y s' E' a' w' q u hn' r' => k y s' E' a' w' q (u2.trans u) hn' r'
theorem TG_seq {c1 c2 : Code} (h : TG P n0 N c1 s (andThen (fun s' => TG P n0 N c2 s' Q) Q)) : TG P n0 N (.seq c1 c2) s Q := by
  intro E a w K r hn k
  refine wp_seq (h E a w _ r hn fun y s' E' a' w' q u hn' r' => ?_)
  cases y <;> first | exact q E' a' w' K r' hn' (fun y2 s2 E2 a2 w2 q2 u2 hn2 r2 => k y2 s2 E2 a2 w2 q2 (u.trans u2) hn2 r2) | exact k _ s' E' a' w' q u hn' r'
theorem TG_seq' (hs : isSeq c = true) (h : TG P n0 N (seqL c) s (andThen (fun s' => TG P n0 N (seqR c) s' Q) Q)) : TG P n0 N c s Q := by
  cases c <;> simp only [isSeq, Bool.false_eq_true] at hs
  exact TG_seq h
theorem TG_block {i : Nat} (hc : isBlock c i = true) (h : TG P n0 N (inner c) s (outOf i Q)) : TG P n0 N c s Q := by
  cases c <;> simp only [isBlock, Bool.false_eq_true] at hc
  rename_i j b
  have := Nat.eq_of_beq_eq_true hc
  subst this
  intro E a w K r hn k
  refine wp_block (h E a w _ r hn fun y s' E' a' w' q u hn' r' => ?_)
  cases y <;> first | exact k _ s' E' a' w' q u hn' r' | skip
  simp only [Exit.inBlock, outOf] at q ⊢
  split
  · rename_i he; rw [if_pos he] at q; exact k _ s' E' a' w' q u hn' r'
  · rename_i he; rw [if_neg he] at q; exact k _ s' E' a' w' q u hn' r'
def TGR (P : Program) (n0 N : Nat) (c : Code) (Q : Exit → St → Prop) : Nat → St → Prop
  | 0, _ => False
  | n + 1, s => TG P n0 N c s (andThen (fun s' => TGR P n0 N c Q n s') Q)
theorem TG_loop (n : Nat) (hc : isLoop c = true) (h : TGR P n0 N (inner c) Q n s) : TG P n0 N c s Q := by
  cases c <;> simp only [isLoop, Bool.false_eq_true] at hc
  rename_i b
  intro E0 a w K r hn k
  refine wp_loop_rounds n ?_
  have key : ∀ (n : Nat) (s1 : St) (E : Env) (a : Act) (w1 : World), TGR P n0 N b Q n s1 → SRel E N s1 a w1 → n0 ≤ s1.n → UpdL n0 E0 s.h w E s1.h w1 → Code.rounds P b K n a w1 := by
    intro n
    induction n with
    | zero => intro s1 E a w1 h; exact h.elim
    | succ n ih =>
      intro s1 E a w1 h r hn u
      rw [rounds_succ]
      refine h E a w1 _ r hn fun y s' E' a' w' q u' hn' r' => ?_
      cases y <;> first | exact ih s' E' a' w' q r' hn' (u.trans u') | exact k _ s' E' a' w' q (u.trans u') hn' r'
  exact key n s E0 a w h r hn (.refl r.good)
theorem TG_loop_inv (I : Nat → St → Prop) (hl : isLoop c = true) (h : ∀ k s, I k s → TG P n0 N (inner c) s (andThen (fun s' => ∃ k', k' < k ∧ I k' s') Q)) (k : Nat) (h0 : I k s) : TG P n0 N c s Q := by
  refine TG_loop (k + 1) hl ?_
  have key : ∀ (k : Nat) (n : Nat) (s : St), k < n → I k s → TGR P n0 N (inner c) Q n s := by
    intro k
    induction k using Nat.strongRecOn with
    | _ k ih =>
      intro n s hn hi
      cases n with
      | zero => omega
      | succ n =>
        simp only [TGR]
        refine TG_mono (h k s hi) fun y s' hq => ?_
        cases y with
        | normal =>
          obtain ⟨k', hk, hi'⟩ := hq
          exact ih k' hk n s' (by omega) hi'
        | _ => exact hq
  exact key k (k + 1) s (by omega) h0
end
section
variable {P : Program} {X' : CX P} {H : List (Nat × Fix)} {F n0 N : Nat} {c : Code} {s : St} {Q : Exit → St → Prop}
inductive ResG where
  | to (y : Exit) (s : St)
  | ret (v : V) (h : Tr O) (n : Nat)
  | bad
def retG (P : Program) (n0 : Nat) (fn : Func) (s : St) : Option (V × Tr O × Nat) := match leaveP P fn s.fr s.dfs s.h s.n with
  | some (v, h, n) => match normG n0 [0] { fr := Tr.nil.set 0 (some v), h := h, n := n, dfs := [] } with
    | some s2 => match s2.fr.get 0 with
      | some v2 => some (v2, s2.h, s2.n)
      | none => none
    | none => none
  | none => none
def toldG (P : Program) (n0 : Nat) (fn : Func) (live : List Nat) (p : X × St) : ResG := match p.1 with
  | .normal => match normG n0 live p.2 with
    | some s => .to .normal s
    | none => .bad
  | .exit i => match normG n0 live p.2 with
    | some s => .to (.exit i) s
    | none => .bad
  | .ret => match retG P n0 fn p.2 with
    | some (v, h, n) => .ret v h n
    | none => .bad
  | .panic _ => .bad
def RetG (P : Program) (n0 : Nat) (fn : Func) (R : V → Tr O → Nat → Prop) (y : Exit) (s' : St) : Prop := (y = .normal ∨ y = .ret) ∧ ∃ v h n, retG P n0 fn s' = some (v, h, n) ∧ R v h n
def ResG.post (P : Program) (n0 : Nat) (fn : Func) (live : List Nat) (R : V → Tr O → Nat → Prop) (Q : Exit → St → Prop) : ResG → Prop
  | .to y s => ∀ s', normG n0 live s' = some s → Q y s'
  | .ret v h n => R v h n ∧ ∀ s', RetG P n0 fn R .ret s' → Q .ret s'
  | .bad => False
theorem TG_sym (hm : P.follows .mixedOrders = true) {l : List (Pth × X × St)} (hc : codeOk N c = true) (e : codeX P X'.cs H F c s = some l) (h : ∀ p ∈ l, p.1.ok → p.1.good ∧ ∃ y, p.2.1.plain = some y ∧ Q y p.2.2) : TG P n0 N c s Q := by
  obtain ⟨⟨p, hp, ho⟩, h2⟩ := codeX_sound P X'.cs X'.cf H X'.snd F c s l e
  obtain ⟨hg, y, hy, hq⟩ := h p hp ho
  exact TG_exec (F := F) X'.ok hm hc (h2 p hp ho hg) hy hq
def runG (P : Program) (cs : CallS) (H : List (Nat × Fix)) (F n0 : Nat) (fn : Func) (live : List Nat) (c : Code) (s : St) : List (List (Bool × Bool) × List Prop × ResG) := tells (toldG P n0 fn live) (orNil (codeX P cs H F c s))
def runOk (P : Program) (cs : CallS) (H : List (Nat × Fix)) (F : Nat) (c : Code) (s : St) : Bool := (codeX P cs H F c s).isSome
def runL (P : Program) (cs : CallS) (H : List (Nat × Fix)) (F : Nat) (c : Code) (s : St) : List V := samesL (orNil (codeX P cs H F c s))
def runR (P : Program) (cs : CallS) (H : List (Nat × Fix)) (F : Nat) (c : Code) (s : St) : List V := samesR (orNil (codeX P cs H F c s))
theorem TG_run (X' : CX P) (hm : P.follows .mixedOrders = true) (H : List (Nat × Fix)) (F : Nat) (fn : Func) (live : List Nat) (R : V → Tr O → Nat → Prop) (G : List (List (Bool × Bool) × List Prop × ResG)) (hc : codeOk N c = true)
    (e1 : runOk P X'.cs H F c s = true) (e2 : runL P X'.cs H F c s = runR P X'.cs H F c s) (e3 : runG P X'.cs H F n0 fn live c s = G)
    (h : ∀ g ∈ G, (∀ b ∈ g.1, b.1 = b.2) → (∀ a ∈ g.2.1, a) ∧ g.2.2.post P n0 fn live R Q) : TG P n0 N c s Q := by
  obtain ⟨l, hl⟩ := Option.isSome_iff_exists.1 e1
  unfold runL runR at e2
  unfold runG at e3
  rw [hl] at e2 e3
  simp only [orNil] at e2 e3
  refine TG_sym (X' := X') hm hc hl fun p hp ho => ?_
  have hg := h (p.1.conds, p.1.asr, toldG P n0 fn live p.2) (e3 ▸ tells_mem hp) ho
  refine ⟨⟨same_ok l e2 p hp, hg.1⟩, ?_⟩
  obtain ⟨pp, x, s'⟩ := p
  have hpost := hg.2
  simp only [toldG] at hpost
  cases x with
  | normal =>
    simp only at hpost
    split at hpost
    · rename_i s2 hs2; exact ⟨.normal, rfl, hpost s' hs2⟩
    · exact hpost.elim
  | exit i =>
    simp only at hpost
    split at hpost
    · rename_i s2 hs2; exact ⟨.exit i, rfl, hpost s' hs2⟩
    · exact hpost.elim
  | ret =>
    simp only at hpost
    split at hpost
    · rename_i v h n hr; exact ⟨.ret, rfl, hpost.2 s' ⟨.inr rfl, v, h, n, hr, hpost.1⟩⟩
    · exact hpost.elim
  | panic _ => exact hpost.elim
theorem TG_runSeq (X' : CX P) (hm : P.follows .mixedOrders = true) (H : List (Nat × Fix)) (F : Nat) (fn : Func) (live : List Nat) (R : V → Tr O → Nat → Prop) (G : List (List (Bool × Bool) × List Prop × ResG)) (hs : isSeq c = true) (hc : codeOk N (seqL c) = true)
    (e1 : runOk P X'.cs H F (seqL c) s = true) (e2 : runL P X'.cs H F (seqL c) s = runR P X'.cs H F (seqL c) s) (e3 : runG P X'.cs H F n0 fn live (seqL c) s = G)
    (h : ∀ g ∈ G, (∀ b ∈ g.1, b.1 = b.2) → (∀ a ∈ g.2.1, a) ∧ g.2.2.post P n0 fn live R (andThen (fun s' => TG P n0 N (seqR c) s' Q) Q)) : TG P n0 N c s Q :=
  TG_seq' hs (TG_run X' hm H F fn live R G hc e1 e2 e3 h)
theorem TG_headE {cf : CallF} (hcf : CallOk P cf) (hm : P.follows .mixedOrders = true) : ∀ (k : Nat) {c : Code} {s s1 : St} {Q : Exit → St → Prop}, codeOk N c = true → exec P cf F (headN k c) s = some (.normal, s1) → TG P n0 N (tailN k c) s1 Q → TG P n0 N c s Q := by
  intro k
  have skipCase : ∀ {c : Code} {s s1 : St} {Q : Exit → St → Prop}, exec P cf F .skip s = some (.normal, s1) → TG P n0 N c s1 Q → TG P n0 N c s Q := by
    intro c s s1 Q e h
    simp only [exec, Option.some.injEq, Prod.mk.injEq, true_and] at e
    subst e; exact h
  induction k with
  | zero => intro c s s1 Q _ e h; cases c <;> exact skipCase e h
  | succ k ih =>
    intro c s s1 Q hok e h
    cases c <;> first | exact skipCase e h | skip
    rename_i a b
    simp only [codeOk, Bool.and_eq_true] at hok
    simp only [headN, exec] at e
    split at e
    · rename_i s' h1
      exact TG_seq (TG_exec (F := F) hcf hm hok.1 h1 rfl (ih hok.2 e h))
    · rename_i hr
      first | exact (hr s1 rfl).elim | exact (hr s1 e).elim
theorem TG_runN (k : Nat) (X' : CX P) (hm : P.follows .mixedOrders = true) (H : List (Nat × Fix)) (F : Nat) (fn : Func) (live : List Nat) (G : List (List (Bool × Bool) × List Prop × ResG)) (hc : codeOk N c = true)
    (e1 : runOk P X'.cs H F (headN k c) s = true) (e2 : runL P X'.cs H F (headN k c) s = runR P X'.cs H F (headN k c) s) (e3 : runG P X'.cs H F n0 fn live (headN k c) s = G)
    (h : ∀ g ∈ G, (∀ b ∈ g.1, b.1 = b.2) → (∀ a ∈ g.2.1, a) ∧ ∃ s1, g.2.2 = .to .normal s1 ∧ TG P n0 N (tailN k c) s1 Q) : TG P n0 N c s Q := by
  obtain ⟨l, hl⟩ := Option.isSome_iff_exists.1 e1
  unfold runL runR at e2
  unfold runG at e3
  rw [hl] at e2 e3
  simp only [orNil] at e2 e3
  obtain ⟨⟨p, hp, ho⟩, h2⟩ := codeX_sound P X'.cs X'.cf H X'.snd F (headN k c) s l hl
  obtain ⟨hA, s1, hs1, hT⟩ := h (p.1.conds, p.1.asr, toldG P n0 fn live p.2) (e3 ▸ tells_mem hp) ho
  have hrun := h2 p hp ho ⟨same_ok l e2 p hp, hA⟩
  obtain ⟨pp, x, s'⟩ := p
  simp only [toldG] at hs1
  cases x with
  | normal =>
    simp only at hs1
    split at hs1
    · rename_i s2 hs2
      cases hs1
      exact TG_headE (F := F) X'.ok hm k hc hrun (TG_norm hs2 hT)
    · cases hs1
  | exit i =>
    simp only at hs1
    split at hs1 <;> cases hs1
  | ret =>
    simp only at hs1
    split at hs1 <;> cases hs1
  | panic _ => cases hs1
end
theorem retG_step {P : Program} {n0 : Nat} {fn : Func} {s : St} {v : V} {h : Tr O} {n : Nat} (e : retG P n0 fn s = some (v, h, n)) : ∃ v1 h1 n1 s2, leaveP P fn s.fr s.dfs s.h s.n = some (v1, h1, n1) ∧ normG n0 [0] { fr := Tr.nil.set 0 (some v1), h := h1, n := n1, dfs := [] } = some s2 ∧ s2.fr.get 0 = some v ∧ s2.h = h ∧ s2.n = n := by
  unfold retG at e
  split at e
  · rename_i v1 h1 n1 e1
    split at e
    · rename_i s2 e2
      split at e
      · rename_i v2 e3
        simp only [Option.some.injEq, Prod.mk.injEq] at e
        obtain ⟨rfl, rfl, rfl⟩ := e
        exact ⟨v1, h1, n1, s2, e1, e2, e3, rfl, rfl⟩
      · cases e
    · cases e
  · cases e
theorem calls_of_TG {P : Program} (hm : P.follows .mixedOrders = true) (hpo : progOk P = true) {f : FuncId} {fn : Func} {code : Code} (hf : P.funcs[f]? = some fn) (hb : fn.body = some code) {args : List V} {h : Tr O} {n0 : Nat}
    (l : (Nat.ble args.length fn.ntmps && Nat.blt fn.ntmps top) = true) (R : V → Tr O → Nat → Prop) (hT : TG P n0 fn.ntmps code (startSt args h n0) (RetG P n0 fn R))
    {E : Env} {w : World} {args' : List Value} (ra : vrels E args args') (g : Good E h w) (hd : Dom E n0) :
    Calls P f args'.toArray w fun e w' => ∃ v h' n', R v h' n' ∧ CPost E h n0 w (.ret v) h' n' e w' := by
  simp only [Bool.and_eq_true] at l
  obtain ⟨hfr, hsz⟩ := frel_enter (n := fn.ntmps) ra (Nat.le_of_ble_eq_true l.1) (Nat.le_of_ble_eq_true l.2)
  refine callsIn_wide.1 (callsIn_of_wp_marks (n := 0) hf hb trivial (wpIn_wide.2 ?_))
  refine hT E _ w _ ⟨g, hd, hfr, hsz, rfl⟩ (Nat.le_refl _) fun y s' E' a' w' ⟨hy, v, h', n', hr, hR⟩ u hn' r' => ?_
  obtain ⟨v1, h1, n1, s2, k1, k2, k3, k4, k5⟩ := retG_step hr
  have key : LeavesInM Fence.wide 0 P fn a'.tmps (fun e w' => ∃ v h' n', R v h' n' ∧ CPost E h n0 w (.ret v) h' n' e w') a'.defers .returning w' := by
    refine leave_sound (cf := fun _ _ _ _ => none) (F := 0) (fun _ _ _ _ _ _ _ e => by cases e) hm hpo s'.dfs .ret s'.h s'.n _ h1 n1 (leaveP_ok k1) E' w' a'.defers .returning _ r'.good r'.dom r'.fr r'.dfs trivial fun E2 w2 en u2 hlow2 hd2 hn2 ho => ?_
    have u3 := u.trans (UpdL.of u2 hlow2 hn')
    cases en with
    | returned v' =>
      have ho : vrel E2 v1 v' := ho
      have sr : SRel E2 1 { fr := Tr.nil.set 0 (some v1), h := h1, n := n1, dfs := [] } { tmps := #[v'], defers := [] } w2 := by
        refine ⟨u3.good, hd2, fun t v hv => ?_, rfl, rfl⟩
        rw [Tr.get_set _ _ _ (by decide)] at hv
        split at hv
        · rename_i q; subst q; cases hv; exact ⟨v', rfl, ho⟩
        · simp [Tr.get] at hv
      obtain ⟨_, hn3, E3, r3, u4⟩ := normG_sound k2 sr
      have u5 := (u3.trans u4).upd hd
      obtain ⟨v'', q1, q2⟩ := r3.fr 0 v k3
      simp only [List.getElem?_toArray, List.getElem?_cons_zero, Option.some.injEq] at q1
      subst q1
      refine ⟨v, h', n', hR, E3, k4 ▸ u5, (u3.trans u4).low, k5 ▸ r3.dom, by rw [← k5]; exact hn3, q2⟩
    | _ => exact ho.elim
  rcases hy with rfl | rfl <;> exact key
theorem calls_of_TG1 {P : Program} (hm : P.follows .mixedOrders = true) (hpo : progOk P = true) {f : FuncId} {fn : Func} {code : Code} (hf : P.funcs[f]? = some fn) (hb : fn.body = some code) {args : List V} {h : Tr O} {n0 : Nat}
    (l : (Nat.ble args.length fn.ntmps && Nat.blt fn.ntmps top) = true) (v : V) (h' : Tr O) (n' : Nat) (hT : TG P n0 fn.ntmps code (startSt args h n0) (RetG P n0 fn fun a b c => a = v ∧ b = h' ∧ c = n'))
    {E : Env} {w : World} {args' : List Value} (ra : vrels E args args') (g : Good E h w) (hd : Dom E n0) :
    Calls P f args'.toArray w (CPost E h n0 w (.ret v) h' n') :=
  (calls_of_TG hm hpo hf hb l _ hT ra g hd).mono fun e w' ⟨_, _, _, ⟨e1, e2, e3⟩, k⟩ => by subst e1 e2 e3; exact k
end Go.Eng
namespace Go.Eng
open Go
def frL : List (Nat × V) → Tr V := go .nil
where go (t : Tr V) : List (Nat × V) → Tr V
  | [] => t
  | (k, v) :: r => go (t.set k (some v)) r
def hL : List (Nat × O) → Tr O := go .nil
where go (t : Tr O) : List (Nat × O) → Tr O
  | [] => t
  | (k, v) :: r => go (t.set k (some v)) r
def stG (l : List (Nat × V)) (h : Tr O) (n : Nat) : St := { fr := frL l, h := h, n := n, dfs := [] }
def memoW (T : List (FuncId × List V × V)) : CtrW := fun f args h n => match look f args T with
  | some v => some ([], v, h, n)
  | none => none
theorem memoW_ok {P : Program} {T : List (FuncId × List V × V)} (hT : ∀ x ∈ T, SpecOk P x) : CtrWOk P (memoW T) := by
  intro f args h n A v h' n' e
  unfold memoW at e
  split at e
  · rename_i v' hl
    simp only [Option.some.injEq, Prod.mk.injEq] at e
    obtain ⟨rfl, rfl, rfl, rfl⟩ := e
    have hs := hT _ (look_mem hl)
    exact ⟨hs.1, fun _ E w args' ra g hd hcal => spec_calls hs ra g hd hcal⟩
  · cases e
def runA (P : Program) (cs : CallS) (H : List (Nat × Fix)) (F n0 : Nat) (fn : Func) (live : List Nat) (c : Code) (s : St) : Option (List V × List V × List (List (Bool × Bool) × List Prop × ResG)) :=
  match codeX P cs H F c s with
  | some l => some (samesL l, samesR l, tells (toldG P n0 fn live) l)
  | none => none
abbrev RunIs (P : Program) (cs : CallS) (H : List (Nat × Fix)) (F n0 : Nat) (fn : Func) (live : List Nat) (c : Code) (s : St) (L : List V) (G : List (List (Bool × Bool) × List Prop × ResG)) : Prop := runA P cs H F n0 fn live c s = some (L, L, G)
theorem RunIs.parts {P : Program} {cs : CallS} {H : List (Nat × Fix)} {F n0 : Nat} {fn : Func} {live : List Nat} {c : Code} {s : St} {L : List V} {G : List (List (Bool × Bool) × List Prop × ResG)} (h : RunIs P cs H F n0 fn live c s L G) :
    runOk P cs H F c s = true ∧ runL P cs H F c s = runR P cs H F c s ∧ runG P cs H F n0 fn live c s = G := by
  have h : runA P cs H F n0 fn live c s = some (L, L, G) := h
  unfold runA at h
  unfold runOk runL runR runG
  split at h
  · rename_i l hl
    simp only [Option.some.injEq, Prod.mk.injEq] at h
    rw [hl]
    exact ⟨rfl, h.1.trans h.2.1.symm, h.2.2⟩
  · cases h
section
variable {P : Program} {n0 N : Nat} {c : Code} {s : St} {Q : Exit → St → Prop} {H : List (Nat × Fix)} {F : Nat} {fn : Func} {live : List Nat} {L : List V} {G : List (List (Bool × Bool) × List Prop × ResG)}
theorem TG_is (X' : CX P) (hm : P.follows .mixedOrders = true) (R : V → Tr O → Nat → Prop) (hc : codeOk N c = true) (hr : RunIs P X'.cs H F n0 fn live c s L G)
    (h : ∀ g ∈ G, (∀ b ∈ g.1, b.1 = b.2) → (∀ a ∈ g.2.1, a) ∧ g.2.2.post P n0 fn live R Q) : TG P n0 N c s Q :=
  TG_run X' hm H F fn live R G hc hr.parts.1 hr.parts.2.1 hr.parts.2.2 h
theorem TG_isSeq (X' : CX P) (hm : P.follows .mixedOrders = true) (R : V → Tr O → Nat → Prop) (hs : isSeq c = true) (hc : codeOk N (seqL c) = true) (hr : RunIs P X'.cs H F n0 fn live (seqL c) s L G)
    (h : ∀ g ∈ G, (∀ b ∈ g.1, b.1 = b.2) → (∀ a ∈ g.2.1, a) ∧ g.2.2.post P n0 fn live R (andThen (fun s' => TG P n0 N (seqR c) s' Q) Q)) : TG P n0 N c s Q :=
  TG_runSeq X' hm H F fn live R G hs hc hr.parts.1 hr.parts.2.1 hr.parts.2.2 h
theorem TG_isN (k : Nat) (X' : CX P) (hm : P.follows .mixedOrders = true) (hc : codeOk N c = true) (hr : RunIs P X'.cs H F n0 fn live (headN k c) s L G)
    (h : ∀ g ∈ G, (∀ b ∈ g.1, b.1 = b.2) → (∀ a ∈ g.2.1, a) ∧ ∃ s1, g.2.2 = .to .normal s1 ∧ TG P n0 N (tailN k c) s1 Q) : TG P n0 N c s Q :=
  TG_runN k X' hm H F fn live G hc hr.parts.1 hr.parts.2.1 hr.parts.2.2 h
theorem TG_isN1 (k : Nat) (X' : CX P) (hm : P.follows .mixedOrders = true) {A : List Prop} {s1 : St} (hc : codeOk N c = true) (hr : RunIs P X'.cs H F n0 fn live (headN k c) s L [([], A, .to .normal s1)])
    (hA : ∀ a ∈ A, a) (h : TG P n0 N (tailN k c) s1 Q) : TG P n0 N c s Q :=
  TG_isN k X' hm hc hr fun g hg _ => by
    rw [List.mem_singleton] at hg; subst hg
    exact ⟨hA, s1, rfl, h⟩
theorem TG_ret (X' : CX P) (hm : P.follows .mixedOrders = true) (R : V → Tr O → Nat → Prop) (hc : codeOk N c = true) (hr : RunIs P X'.cs H F n0 fn live c s L G)
    (h : ∀ g ∈ G, (∀ b ∈ g.1, b.1 = b.2) → (∀ a ∈ g.2.1, a) ∧ ∃ v h n, g.2.2 = .ret v h n ∧ R v h n) : TG P n0 N c s (RetG P n0 fn R) :=
  TG_is X' hm R hc hr fun g hg hc => by
    obtain ⟨h1, v, h', n', e, hR⟩ := h g hg hc
    refine ⟨h1, ?_⟩
    rw [e]
    exact ⟨hR, fun s' q => q⟩
end
abbrev anyR : V → Tr O → Nat → Prop := fun _ _ _ => True
end Go.Eng
namespace Go.Eng
open Go Go.RowKit
section
variable {P : Program} {n0 N : Nat} {c : Code} {s : St} {Q : Exit → St → Prop} {F : Nat} {fn : Func}
def ResG.loop (P : Program) (n0 : Nat) (fn : Func) (live : List Nat) (R : V → Tr O → Nat → Prop) (I : Nat → St → Prop) (k : Nat) (Q : Exit → St → Prop) : ResG → Prop
  | .to .normal s => ∃ k', k' < k ∧ I k' s
  | .to y s => ∀ s', normG n0 live s' = some s → Q y s'
  | .ret v h n => R v h n ∧ ∀ s', RetG P n0 fn R .ret s' → Q .ret s'
  | .bad => False
theorem TG_loopI (X' : CX P) (hm : P.follows .mixedOrders = true) (live : List Nat) (R : V → Tr O → Nat → Prop) (I : Nat → St → Prop) (hl : isLoop c = true) (hc : codeOk N (inner c) = true)
    (h : ∀ k s, I k s → ∃ H L G, RunIs P X'.cs H F n0 fn live (inner c) s L G ∧ ∀ g ∈ G, (∀ b ∈ g.1, b.1 = b.2) → (∀ a ∈ g.2.1, a) ∧ g.2.2.loop P n0 fn live R I k Q) (k : Nat) (h0 : I k s) : TG P n0 N c s Q := by
  have main : ∀ k s, I k s → TG P n0 N (inner c) s (andThen (fun s' => ∃ k', k' < k ∧ (I k' s' ∨ ∃ s1, normG n0 live s' = some s1 ∧ I k' s1)) Q) := by
    intro k s hI
    obtain ⟨H, L, G, hr, hg⟩ := h k s hI
    refine TG_is X' hm R hc hr fun g hgm hcd => ?_
    obtain ⟨hA, hp⟩ := hg g hgm hcd
    refine ⟨hA, ?_⟩
    obtain ⟨_, _, r⟩ := g
    simp only at hp ⊢
    cases r with
    | to y s1 =>
      cases y with
      | normal =>
        obtain ⟨k', hk, hi⟩ := hp
        exact fun s' hs' => ⟨k', hk, .inr ⟨s1, hs', hi⟩⟩
      | _ => exact hp
    | ret v h n => exact hp
    | bad => exact hp.elim
  refine TG_loop_inv (fun k s => I k s ∨ ∃ s1, normG n0 live s = some s1 ∧ I k s1) hl ?_ k (.inl h0)
  rintro k s (hI | ⟨s1, hs1, hI⟩)
  · exact main k s hI
  · exact TG_norm hs1 (main k s1 hI)
end
theorem cpost_below {E : Env} {h : Tr O} {n : Nat} {w : World} {v : V} {h' : Tr O} {n' : Nat} {e : Ending} {w' : World} (hro : ∀ m, ¬ wlive h m) (c : CPost E h n w (.ret v) h' n' e w') : (∃ E, outrel E (.ret v) e) ∧ Below w.heap.size w w' := by
  obtain ⟨E', u, _, _, _, ho⟩ := c
  exact ⟨⟨E', ho⟩, u.os, u.tape, u.output, u.size, fun k hk => u.keep k hk fun m s hm => absurd hm (hro m)⟩
theorem calls_pure {P : Program} (hm : P.follows .mixedOrders = true) (hpo : progOk P = true) {f : FuncId} {fn : Func} {code : Code} (hf : P.funcs[f]? = some fn) (hb : fn.body = some code) {args : List V} {h : Tr O} {n0 : Nat}
    (l : (Nat.ble args.length fn.ntmps && Nat.blt fn.ntmps top) = true) {v : V} (hT : TG P n0 fn.ntmps code (startSt args h n0) (RetG P n0 fn fun a _ _ => a = v))
    {E : Env} {w : World} {args' : List Value} (ra : vrels E args args') (g : Good E h w) (hd : Dom E n0) (hro : ∀ m, ¬ wlive h m) :
    Calls P f args'.toArray w fun e w' => (∃ E, outrel E (.ret v) e) ∧ Below w.heap.size w w' :=
  (calls_of_TG hm hpo hf hb l _ hT ra g hd).mono fun e w' ⟨v', h', n', e1, k⟩ => by subst e1; exact cpost_below hro k
theorem nil_ro : ∀ m, ¬ wlive (.nil : Tr O) m := fun m k => absurd rfl k.live
def pureW (f : List V → Option (List Prop × V)) : List V → Tr O → Nat → Option (List Prop × V × Tr O × Nat) := fun args h n => match f args with
  | some (A, v) => some (A, v, h, n)
  | none => none
theorem pureW_ok {P : Program} {f : FuncId} {spec : List V → Option (List Prop × V)} (hlt : f < P.funcs.size) (h : ∀ args A v, spec args = some (A, v) → V.frees args = true ∧ v.free = true ∧ ((∀ a ∈ A, a) →
    ∀ E w args', vrels E args args' → Calls P f args'.toArray w fun e w' => (∃ E, outrel E (.ret v) e) ∧ Below w.heap.size w w')) : OneW P f (pureW spec) := by
  refine ⟨hlt, fun args h' n A v h2 n2 e hA E w args' ra g hd hc => ?_⟩
  unfold pureW at e
  split at e
  · rename_i A' v' hs
    simp only [Option.some.injEq, Prod.mk.injEq] at e
    obtain ⟨rfl, rfl, rfl, rfl⟩ := e
    obtain ⟨h1, h2, h3⟩ := h args _ _ hs
    exact (h3 hA E w args' ra).mono fun en w' ⟨ho, b⟩ => cpost_of g hd h2 ho b
  · cases e
theorem pure_calls {P : Program} (hm : P.follows .mixedOrders = true) (hpo : progOk P = true) {f : FuncId} {fn : Func} {code : Code} (hf : P.funcs[f]? = some fn) (hb : fn.body = some code) {args : List V}
    (l : (Nat.ble args.length fn.ntmps && Nat.blt fn.ntmps top) = true) {v : V} (hfr : V.frees args = true) (hT : TG P 0 fn.ntmps code (startSt args .nil 0) (RetG P 0 fn fun a _ _ => a = v)) :
    ∀ E w args', vrels E args args' → Calls P f args'.toArray w fun e w' => (∃ E, outrel E (.ret v) e) ∧ Below w.heap.size w w' :=
  fun _ w _ ra => calls_pure hm hpo hf hb l hT (frees_rel _ _ hfr ra) (good0 w) (dom0 0) nil_ro
end Go.Eng
namespace Go.Eng
open Go Go.RowKit
def softO : O → O
  | .own k ks => .ints k ks
  | .cells cs => match cs with
    | .int k x :: r => match intsOf k (.int k x :: r) with
      | some l => .ints k l
      | none => .cells (.int k x :: r)
    | cs => .cells cs
  | o => o
def softT : Tr O → Tr O
  | .nil => .nil
  | .node v l r => .node (match v with | some o => some (softO o) | none => none) (softT l) (softT r)
theorem softT_get : ∀ (t : Tr O) (m : Nat), (softT t).get m = (t.get m).map softO
  | .nil, m => rfl
  | .node v l r, m => by
    simp only [softT, Tr.get]
    split
    · cases v <;> rfl
    · rename_i k
      split
      · exact softT_get l _
      · exact softT_get r _
theorem softO_rel {E : Env} {w : World} {b s : Nat} {o : O} (r : orel E w b s o) : orel E w b s (softO o) := by
  have key : ∀ k ks, orel E w b s (.own k ks) → orel E w b s (.ints k ks) := fun k ks ⟨c, el, fz, h1, h2, _, h4⟩ => ⟨c, el, fz, h1, h2, crel_ints.1 h4⟩
  unfold softO
  split
  · exact key _ _ r
  · split
    · rename_i k x rest
      split
      · rename_i l hl
        have e := intsOf_eq hl
        refine key _ _ ?_
        rw [e] at r
        exact r
      · exact r
    · exact r
  · exact r
theorem softO_wr {o : O} (h : (softO o).wr = true) : o.wr = true := by
  unfold softO at h
  split at h
  · rfl
  · rfl
  · exact h
theorem soft_good {E : Env} {h : Tr O} {w : World} (g : Good E h w) : Good E (softT h) w := by
  refine ⟨?_, ?_, g.bnd⟩
  · intro m o hm
    rw [softT_get] at hm
    cases ho : h.get m with
    | none => rw [ho] at hm; cases hm
    | some o' =>
      rw [ho] at hm
      simp only [Option.map_some, Option.some.injEq] at hm
      subst hm
      obtain ⟨b, s, h1, h2⟩ := g.rel m o' ho
      exact ⟨b, s, h1, softO_rel h2⟩
  · rintro m m' b s s' hne ⟨o, ho, hw⟩ hm' e e'
    rw [softT_get] at ho hm'
    cases h1 : h.get m with
    | none => rw [h1] at ho; cases ho
    | some o1 =>
      rw [h1] at ho
      simp only [Option.map_some, Option.some.injEq] at ho
      subst ho
      refine g.inj m m' b s s' hne ⟨o1, h1, softO_wr hw⟩ (fun q => hm' (by rw [q]; rfl)) e e'
def ofCtrS (S : Ctr) : CtrW := fun f args h n => match S f args (softT h) with
  | some (A, v) => some (A, v, h, n)
  | none => none
theorem ofCtrS_ok {P : Program} {S : Ctr} (hS : CtrOk P S) : CtrWOk P (ofCtrS S) := by
  intro f args h n A v h' n' e
  unfold ofCtrS at e
  split at e
  · rename_i A' v' hs
    simp only [Option.some.injEq, Prod.mk.injEq] at e
    obtain ⟨rfl, rfl, rfl, rfl⟩ := e
    obtain ⟨h1, h2, h3⟩ := hS f args _ _ _ hs
    exact ⟨h1, fun hA E w args' ra g hd hc => (h3 hA E n w args' ra (soft_good g) hd hc).mono fun en w' ⟨ho, b⟩ => cpost_of g hd h2 ho b⟩
  · cases e
def readW (spec : List V → Tr O → Option (List Prop × V)) : List V → Tr O → Nat → Option (List Prop × V × Tr O × Nat) := fun args h n => match spec args (softT h) with
  | some (A, v) => some (A, v, h, n)
  | none => none
theorem readW_ok {P : Program} {f : FuncId} {spec : List V → Tr O → Option (List Prop × V)} (hp : PureA P f spec) : OneW P f (readW spec) := by
  refine ⟨hp.1, fun args h n A v h' n' e hA E w args' ra g hd hc => ?_⟩
  unfold readW at e
  split at e
  · rename_i A' v' hs
    simp only [Option.some.injEq, Prod.mk.injEq] at e
    obtain ⟨rfl, rfl, rfl, rfl⟩ := e
    obtain ⟨h2, h3⟩ := hp.2 args _ _ _ hs
    exact (h3 hA E n w args' ra (soft_good g) hd hc).mono fun en w' ⟨ho, b⟩ => cpost_of g hd h2 ho b
  · cases e
theorem read_calls {P : Program} (hm : P.follows .mixedOrders = true) (hpo : progOk P = true) {f : FuncId} {fn : Func} {code : Code} (hf : P.funcs[f]? = some fn) (hb : fn.body = some code) {args : List V} {h : Tr O} {n0 : Nat}
    (l : (Nat.ble args.length fn.ntmps && Nat.blt fn.ntmps top) = true) {v : V} (hT : TG P n0 fn.ntmps code (startSt args h n0) (RetG P n0 fn fun a _ _ => a = v))
    {E : Env} {w : World} {args' : List Value} (g : Good E h w) (hd : Dom E n0) (hro : ∀ m, ¬ wlive h m) (ra : vrels E args args') :
    Calls P f args'.toArray w fun e w' => (∃ E, outrel E (.ret v) e) ∧ Below w.heap.size w w' := calls_pure hm hpo hf hb l hT ra g hd hro
end Go.Eng
namespace Go.Eng
open Go Go.RowKit
def ownO (h : Tr O) : List (Nat × IntKind) → Option (Tr O)
  | [] => some h
  | (m, k) :: r => match h.get m with
    | some (.cells cs) => match intsOf k cs with
      | some ks => match Nat.blt m top with
        | true => ownO (h.set m (some (.own k ks))) r
        | false => none
      | none => none
    | _ => none
theorem ownO_good {E : Env} {w : World} : ∀ (l : List (Nat × IntKind)) (h h2 : Tr O), ownO h l = some h2 → Good E h w → Good E h2 w ∧ ∀ m, (h2.get m ≠ none ↔ h.get m ≠ none) ∧ (wlive h2 m → wlive h m)
  | [], h, h2, e, g => by simp only [ownO, Option.some.injEq] at e; subst e; exact ⟨g, fun m => ⟨Iff.rfl, id⟩⟩
  | (m, k) :: r, h, h2, e, g => by
    unfold ownO at e
    split at e
    case h_2 => cases e
    rename_i cs hm
    split at e
    case h_2 => cases e
    rename_i ks hk
    split at e
    case h_2 => cases e
    rename_i ht
    have ht : m < top := Nat.le_of_ble_eq_true ht
    have hcs := intsOf_eq hk
    have hget : ∀ j, (h.set m (some (.own k ks))).get j = if j = m then some (.own k ks) else h.get j := fun j => Tr.get_set _ _ _ ht
    have hlv : ∀ j, ((h.set m (some (.own k ks))).get j ≠ none ↔ h.get j ≠ none) ∧ (wlive (h.set m (some (.own k ks))) j → wlive h j) := by
      intro j
      rw [hget]
      by_cases q : j = m
      · subst q; rw [if_pos rfl, hm]; exact ⟨by simp, fun _ => ⟨_, hm, rfl⟩⟩
      · rw [if_neg q]; exact ⟨Iff.rfl, fun z => wlive_ne ht z q⟩
    have g1 : Good E (h.set m (some (.own k ks))) w := by
      refine ⟨fun j o hj => ?_, fun j j' b s s' hne hj hj' e1 e2 => g.inj j j' b s s' hne ((hlv j).2 hj) ((hlv j').1.1 hj') e1 e2, g.bnd⟩
      rw [hget] at hj
      split at hj
      · rename_i q; subst q
        simp only [Option.some.injEq] at hj; subst hj
        obtain ⟨b, s, h1, h2⟩ := g.rel j _ hm
        rw [hcs] at h2
        exact ⟨b, s, h1, h2⟩
      · exact g.rel j o hj
    obtain ⟨g2, k2⟩ := ownO_good r _ h2 e g1
    exact ⟨g2, fun j => ⟨(k2 j).1.trans (hlv j).1, fun z => (hlv j).2 ((k2 j).2 z)⟩⟩
def ownS (l : List (Nat × IntKind)) (s : St) : Option St := match ownO s.h l with
  | some h => some { s with h := h }
  | none => none
theorem TG_own {P : Program} {n0 N : Nat} {c : Code} {s s2 : St} {Q : Exit → St → Prop} (l : List (Nat × IntKind)) (e : ownS l s = some s2) (h : TG P n0 N c s2 Q) : TG P n0 N c s Q := by
  unfold ownS at e
  split at e
  case h_2 => cases e
  rename_i h2 hh
  simp only [Option.some.injEq] at e; subst e
  intro E a w K r hn k
  obtain ⟨g2, k2⟩ := ownO_good (E := E) (w := w) l s.h h2 hh r.good
  have u : UpdL n0 E s.h w E h2 w := ⟨fun _ _ _ _ e => ⟨e, rfl⟩, fun _ _ => rfl, g2, Nat.le_refl _, rfl, rfl, rfl, fun _ _ _ => rfl, fun m b s1 hm e1 _ => ⟨m, s1, (k2 m).1.1 hm, e1, (k2 m).2⟩⟩
  exact h E a w K ⟨g2, r.dom, r.fr, r.size, r.dfs⟩ hn fun y s' E' a' w' q u' hn' r' => k y s' E' a' w' q (u.trans u') hn' r'
theorem cpost_own {E : Env} {h : Tr O} {n : Nat} {w : World} {out : Out} {h' h2 : Tr O} {n' : Nat} {e : Ending} {w' : World} (l : List (Nat × IntKind)) (eo : ownO h' l = some h2) (c : CPost E h n w out h' n' e w') : CPost E h n w out h2 n' e w' := by
  obtain ⟨E', u, h1, h3, h4, h5⟩ := c
  obtain ⟨g2, k2⟩ := ownO_good (E := E') (w := w') l h' h2 eo u.good
  exact ⟨E', ⟨u.le, g2, u.size, u.tape, u.os, u.output, u.keep, fun m b s hm e hb => by
    obtain ⟨m0, s0, q1, q2, q3⟩ := u.img m b s ((k2 m).1.1 hm) e hb
    exact ⟨m0, s0, q1, q2, fun z => q3 ((k2 m).2 z)⟩⟩, h1, h3, h4, h5⟩
def nuOf (ns : List (Option Nat)) (h1 : Tr O) (n0 n m : Nat) : Option Nat := match Nat.blt m n0 with
  | true => ns.getD m none
  | false => match h1.get m with
    | some o => match o.wr with
      | true => some (n + (m - n0))
      | false => none
    | none => none
def embH (ν : Nat → Option Nat) (h1 : Tr O) (n0 n : Nat) : Nat → Nat → Tr O → Option (Tr O)
  | 0, _, h => some h
  | i + 1, j, h => match ν j with
    | none => embH ν h1 n0 n i (j + 1) h
    | some k => match h1.get j with
      | some o => match o.rn ν with
        | some o2 => match Nat.blt k top with
          | true => embH ν h1 n0 n i (j + 1) (h.set k (some o2))
          | false => none
        | none => none
      | none => none
def emb (ns : List (Option Nat)) (n0 : Nat) (r : V × Tr O × Nat) (h : Tr O) (n : Nat) : Option (V × Tr O × Nat) :=
  match r.1.rn (nuOf ns r.2.1 n0 n) with
  | some v => match embH (nuOf ns r.2.1 n0 n) r.2.1 n0 n (r.2.2 - n0) n0 h with
    | some h2 => some (v, h2, n + (r.2.2 - n0))
    | none => none
  | none => none
theorem embH_spec {ν : Nat → Option Nat} {h1 : Tr O} {n0 n : Nat} : ∀ (i j : Nat) (h h2 : Tr O), embH ν h1 n0 n i j h = some h2 → ∀ m o, h2.get m = some o → h.get m = some o ∨ ∃ q, j ≤ q ∧ q < j + i ∧ ν q = some m ∧ ∃ o1, h1.get q = some o1 ∧ o1.rn ν = some o
  | 0, j, h, h2, e, m, o, hm => by simp only [embH, Option.some.injEq] at e; subst e; exact .inl hm
  | i + 1, j, h, h2, e, m, o, hm => by
    simp only [embH] at e
    split at e
    · rcases embH_spec i (j + 1) h h2 e m o hm with q | ⟨q, q1, q2, q3⟩
      · exact .inl q
      · exact .inr ⟨q, by omega, by omega, q3⟩
    · rename_i k hk
      split at e
      case h_2 => cases e
      rename_i o1 ho
      split at e
      case h_2 => cases e
      rename_i o2 ho2
      split at e
      case h_2 => cases e
      rename_i ht
      rcases embH_spec i (j + 1) _ h2 e m o hm with q | ⟨q, q1, q2, q3⟩
      · rw [Tr.get_set _ _ _ (show k < top from Nat.le_of_ble_eq_true ht)] at q
        split at q
        · rename_i z; subst z
          simp only [Option.some.injEq] at q; subst q
          exact .inr ⟨j, Nat.le_refl _, by omega, hk, o1, ho, ho2⟩
        · exact .inl q
      · exact .inr ⟨q, by omega, by omega, q3⟩
theorem emb_ok {E E1 : Env} {h h1 : Tr O} {n n0 : Nat} {w : World} {ns : List (Option Nat)} {r : V × Tr O × Nat} {v : V} {h2 : Tr O} {n2 : Nat} (g : Good E h w) (hd : Dom E n) (hβ : E1.β = E.β) (hns : ∀ m m', m < n0 → ns.getD m none = some m' → E1.ι m = E.ι m' ∧ E.ι m' ≠ none)
    (hro : ∀ m, ¬ wlive h1 m) (he : emb ns n0 r h n = some (v, h2, n2)) {en : Ending} {w' : World} (c : CPost E1 h1 n0 w (.ret r.1) r.2.1 r.2.2 en w') : CPost E h n w (.ret v) h2 n2 en w' := by
  obtain ⟨v1, h1', n1'⟩ := r
  obtain ⟨E2, u, hlow, hdom, hn, ho⟩ := c
  simp only at u hdom hn ho
  unfold emb at he
  simp only at he
  split at he
  case h_2 => cases he
  rename_i v' hv
  split at he
  case h_2 => cases he
  rename_i h2' hh
  simp only [Option.some.injEq, Prod.mk.injEq] at he
  obtain ⟨rfl, rfl, rfl⟩ := he
  -- names of blocks that were made
  have fresh : ∀ j b s, wlive h1' j → E2.ι j = some (b, s) → w.heap.size ≤ b := by
    intro j b s hj e
    rcases Nat.lt_or_ge b w.heap.size with q | q
    · obtain ⟨m0, s0, _, _, k0⟩ := u.img j b s hj.live e q
      exact absurd (k0 hj) (hro m0)
    · exact q
  let ν := nuOf ns h1' n0 n
  have nu_low : ∀ m k, m < n0 → ν m = some k → ns.getD m none = some k := by
    intro m k hm hk
    have hb : Nat.blt m n0 = true := Nat.ble_eq_true_of_le hm
    simp only [ν, nuOf, hb] at hk
    exact hk
  have nu_high : ∀ m k, n0 ≤ m → ν m = some k → k = n + (m - n0) ∧ wlive h1' m := by
    intro m k hm hk
    have hb : Nat.blt m n0 = false := by
      cases q : Nat.blt m n0 with
      | false => rfl
      | true => exact absurd (Nat.le_of_ble_eq_true q) (Nat.not_lt.2 hm)
    simp only [ν, nuOf, hb] at hk
    split at hk
    · rename_i o ho1
      split at hk
      · rename_i hw
        simp only [Option.some.injEq] at hk
        exact ⟨hk.symm, o, ho1, hw⟩
      · cases hk
    · cases hk
  let E' : Env := ⟨fun m => if m < n then E.ι m else (match ν (n0 + (m - n)) with | some _ => E2.ι (n0 + (m - n)) | none => none), fun b => if b < w.heap.size then E.β b else E2.β b⟩
  have hE'lo : ∀ m, m < n → E'.ι m = E.ι m := fun m hm => if_pos hm
  have hE'hi : ∀ j k, n0 ≤ j → ν j = some k → E'.ι k = E2.ι j := by
    intro j k hj hk
    obtain ⟨rfl, _⟩ := nu_high j k hj hk
    show (if n + (j - n0) < n then _ else _) = _
    rw [if_neg (by omega)]
    have : n0 + (n + (j - n0) - n) = j := by omega
    rw [this, hk]
  have hι : ∀ m k, ν m = some k → E'.ι k = E2.ι m := by
    intro m k hk
    by_cases hm : m < n0
    · obtain ⟨e1, e2⟩ := hns m k hm (nu_low m k hm hk)
      have hkn : k < n := by
        rcases Nat.lt_or_ge k n with q | q
        · exact q
        · exact absurd (hd k q) e2
      rw [hE'lo k hkn, ← e1, hlow m hm]
    · exact hE'hi m k (Nat.le_of_not_lt hm) hk
  -- sizes of the blocks that are named
  have hβ2 : ∀ m b s, (m < n0 ∨ wlive h1' m) → E2.ι m = some (b, s) → E'.β b = E2.β b := by
    intro m b s hm e
    show (if b < w.heap.size then E.β b else E2.β b) = _
    split
    · rename_i hb
      rcases hm with hm | hm
      · rw [hlow m hm] at e
        rw [(u.le m b s e).2, hβ]
      · exact absurd (fresh m b s hm e) (by omega)
    · rfl
  let E3 : Env := ⟨E2.ι, E'.β⟩
  have hle : E.le E' := by
    intro m b s e
    have hm : m < n := by
      rcases Nat.lt_or_ge m n with q | q
      · exact q
      · rw [hd m q] at e; cases e
    exact ⟨(hE'lo m hm).trans e, if_pos (g.bnd m b s e)⟩
  have hdomE' : Dom E' (n + (n1' - n0)) := by
    intro m hm
    have hm : n + (n1' - n0) ≤ m := hm
    show (if m < n then _ else _) = none
    rw [if_neg (by omega)]
    split
    · exact hdom _ (by show n1' ≤ _; omega)
    · rfl
  have hβ3 : ∀ m k b s, ν m = some k → E2.ι m = some (b, s) → E'.β b = E2.β b := fun m k b s hk e => hβ2 m b s (by
    by_cases hm : m < n0
    · exact .inl hm
    · exact .inr (nu_high m k (Nat.le_of_not_lt hm) hk).2) e
  have hspec := embH_spec (n1' - n0) n0 h h2' hh
  -- what lies in the new memory
  have hcase : ∀ m o, h2'.get m = some o → (m < n ∧ h.get m = some o) ∨ (∃ q, n0 ≤ q ∧ ν q = some m ∧ m = n + (q - n0) ∧ ∃ o1, h1'.get q = some o1 ∧ o1.rn ν = some o) := by
    intro m o hm
    rcases hspec m o hm with q | ⟨q, q1, _, q3, q4⟩
    · refine .inl ⟨?_, q⟩
      obtain ⟨b, s, e, _⟩ := g.rel m o q
      rcases Nat.lt_or_ge m n with z | z
      · exact z
      · rw [hd m z] at e; cases e
    · exact .inr ⟨q, q1, q3, (nu_high q m q1 q3).1, q4⟩
  have hkeep : ∀ b, b < w.heap.size → w'.heap[b]? = w.heap[b]? := fun b hb => u.keep b hb fun m s hm => absurd hm (hro m)
  have good2 : Good E' h2' w' := by
    refine ⟨?_, ?_, ?_⟩
    · intro m o hm
      rcases hcase m o hm with ⟨hmn, ho1⟩ | ⟨q, q1, q2, q3, o1, q4, q5⟩
      · obtain ⟨b, s, e1, e2⟩ := g.rel m o ho1
        exact ⟨b, s, (hle m b s e1).1, orel_mono hle (hle m b s e1).2 (hkeep b (g.bnd m b s e1)) e2⟩
      · obtain ⟨b, s, e1, e2⟩ := u.good.rel q o1 q4
        exact ⟨b, s, (hι q m q2).trans e1, rnO_rel hι hβ3 (hβ3 q m b s q2 e1) o1 o q5 e2⟩
    · rintro m m' b s s' hne ⟨o, hm, hw⟩ hm' e1 e2
      obtain ⟨o', hm'⟩ := Option.ne_none_iff_exists'.1 hm'
      rcases hcase m o hm with ⟨hmn, ho1⟩ | ⟨q, q1, q2, q3, o1, q4, q5⟩ <;> rcases hcase m' o' hm' with ⟨hmn', ho1'⟩ | ⟨q', q1', q2', q3', o1', q4', q5'⟩
      · rw [hE'lo m hmn] at e1
        rw [hE'lo m' hmn'] at e2
        exact g.inj m m' b s s' hne ⟨o, ho1, hw⟩ (by rw [ho1']; simp) e1 e2
      · rw [hE'lo m hmn] at e1
        rw [hι q' m' q2'] at e2
        have h1 := g.bnd m b s e1
        have h2 := fresh q' b s' (nu_high q' m' q1' q2').2 e2
        omega
      · rw [hE'lo m' hmn'] at e2
        rw [hι q m q2] at e1
        have h1 := g.bnd m' b s' e2
        have h2 := fresh q b s (nu_high q m q1 q2).2 e1
        omega
      · rw [hι q m q2] at e1
        rw [hι q' m' q2'] at e2
        exact u.good.inj q q' b s s' (fun z => hne (by rw [q3, q3', z])) (nu_high q m q1 q2).2 (by rw [q4']; simp) e1 e2
    · intro m b s e
      by_cases hm : m < n
      · rw [hE'lo m hm] at e; exact Nat.lt_of_lt_of_le (g.bnd m b s e) u.size
      · have e : (if m < n then E.ι m else (match ν (n0 + (m - n)) with | some _ => E2.ι (n0 + (m - n)) | none => none)) = some (b, s) := e
        rw [if_neg hm] at e
        split at e
        · exact u.good.bnd _ b s e
        · cases e
  refine ⟨E', ⟨hle, good2, u.size, u.tape, u.os, u.output, fun b hb _ => hkeep b hb, ?_⟩, fun m hm => hE'lo m hm, hdomE', Nat.le_add_right _ _, ?_⟩
  · intro m b s hm e hb
    obtain ⟨o, hm⟩ := Option.ne_none_iff_exists'.1 hm
    rcases hcase m o hm with ⟨hmn, ho1⟩ | ⟨q, q1, q2, q3, o1, q4, q5⟩
    · rw [hE'lo m hmn] at e
      exact ⟨m, s, by rw [ho1]; simp, e, fun ⟨o', k1, k2⟩ => ⟨o, ho1, by rw [hm] at k1; cases k1; exact k2⟩⟩
    · rw [hι q m q2] at e
      have := fresh q b s (nu_high q m q1 q2).2 e
      omega
  · cases en with
    | returned v' => exact rn_rel hι hβ3 v1 _ v' hv ho
    | _ => exact ho.elim
end Go.Eng
namespace Go.Eng
open Go Go.RowKit
def Env.rows (E : Env) (ns : List (Option (Nat × Nat))) : Env := ⟨fun j => match ns.getD j none with
  | some (m, o) => match E.ι m with
    | some (b, s) => some (b, s + o)
    | none => none
  | none => none, E.β⟩
def rHi : List (Option (IntKind × List Int)) → Nat → Tr O → Tr O
  | [], _, t => t
  | some (k, ks) :: r, i, t => rHi r (i + 1) (t.set i (some (.ints k ks)))
  | none :: r, i, t => rHi r (i + 1) t
def rH (rs : List (Option (IntKind × List Int))) : Tr O := rHi rs 0 .nil
theorem rHi_get : ∀ (rs : List (Option (IntKind × List Int))) (i : Nat) (t : Tr O) (m : Nat) (o : O), i + rs.length < top → (rHi rs i t).get m = some o → t.get m = some o ∨ ∃ k ks, i ≤ m ∧ rs[m - i]? = some (some (k, ks)) ∧ o = .ints k ks
  | [], i, t, m, o, _, h => .inl h
  | some (k, ks) :: r, i, t, m, o, hl, h => by
    simp only [List.length_cons] at hl
    rcases rHi_get r (i + 1) _ m o (by omega) h with q | ⟨k', ks', h1, h2, h3⟩
    · rw [Tr.get_set _ _ _ (by omega)] at q
      split at q
      · rename_i z; subst z
        simp only [Option.some.injEq] at q; subst q
        exact .inr ⟨k, ks, Nat.le_refl _, by simp, rfl⟩
      · exact .inl q
    · refine .inr ⟨k', ks', by omega, ?_, h3⟩
      rw [show m - i = (m - (i + 1)) + 1 by omega, List.getElem?_cons_succ]; exact h2
  | none :: r, i, t, m, o, hl, h => by
    simp only [List.length_cons] at hl
    rcases rHi_get r (i + 1) _ m o (by omega) h with q | ⟨k', ks', h1, h2, h3⟩
    · exact .inl q
    · refine .inr ⟨k', ks', by omega, ?_, h3⟩
      rw [show m - i = (m - (i + 1)) + 1 by omega, List.getElem?_cons_succ]; exact h2
theorem rH_get {rs : List (Option (IntKind × List Int))} {m : Nat} {o : O} (hl : rs.length < top) (h : (rH rs).get m = some o) : ∃ k ks, rs[m]? = some (some (k, ks)) ∧ o = .ints k ks := by
  rcases rHi_get rs 0 .nil m o (by omega) h with q | ⟨k, ks, _, h2, h3⟩
  · simp [Tr.get] at q
  · exact ⟨k, ks, by simpa using h2, h3⟩
theorem rows_ok {E : Env} {h : Tr O} {w : World} (g : Good E h w) (ns : List (Option (Nat × Nat))) (rs : List (Option (IntKind × List Int))) (hl : rs.length < top)
    (hr : ∀ (j : Nat) (k : IntKind) (ks : List Int), rs[j]? = some (some (k, ks)) → ∃ m o full, ns[j]? = some (some (m, o)) ∧ h.get m = some (.ints k full) ∧ full.drop o = ks) :
    Good (E.rows ns) (rH rs) w ∧ Dom (E.rows ns) ns.length ∧ ∀ m, ¬ wlive (rH rs) m := by
  have hwl : ∀ m, ¬ wlive (rH rs) m := by
    rintro m ⟨o, h1, h2⟩
    obtain ⟨k, ks, _, rfl⟩ := rH_get hl h1
    cases h2
  refine ⟨⟨fun m o hm => ?_, fun m _ _ _ _ _ hm => absurd hm (hwl m), fun m b' s e => ?_⟩, fun m hm => ?_, hwl⟩
  · obtain ⟨k, ks, h1, rfl⟩ := rH_get hl hm
    obtain ⟨m0, o, full, h2, h3, h4⟩ := hr m k ks h1
    obtain ⟨b, s, e1, c, el, fz, k1, k2, k3⟩ := g.rel m0 _ h3
    refine ⟨b, s + o, ?_, c, el, fz, k1, k2, fun i x hx => ?_⟩
    · show (match ns.getD m none with | some (m, o) => _ | none => none) = _
      rw [List.getD_eq_getElem?_getD, h2]
      simp only [Option.getD_some, e1]
    · rw [← h4, List.getElem?_drop] at hx
      rw [← k3 (o + i) x hx]; congr 1; omega
  · have e : (match ns.getD m none with | some (m, o) => (match E.ι m with | some (b, s) => some (b, s + o) | none => none) | none => none) = some (b', s) := e
    split at e
    · rename_i m0 o hm
      split at e
      · rename_i b s0 e0
        simp only [Option.some.injEq, Prod.mk.injEq] at e
        obtain ⟨rfl, _⟩ := e
        exact g.bnd m0 b s0 e0
      · cases e
    · cases e
  · have hm : ns.length ≤ m := hm
    show (match ns.getD m none with | some (m, o) => (match E.ι m with | some (b, s) => some (b, s + o) | none => none) | none => none) = none
    rw [List.getD_eq_getElem?_getD, List.getElem?_eq_none hm]
    rfl
theorem rows_slc {E : Env} {ns : List (Option (Nat × Nat))} {j m o l c e : Nat} {v : Value} (hj : ns.getD j none = some (m, o)) (r : vrel E (.slc (some (m, o)) l c e) v) : vrel (E.rows ns) (.slc (some (j, 0)) l c e) v := by
  obtain ⟨b, s, o', cap', e1, q1, q2, q3, q4, q5⟩ := r
  refine ⟨b, s + o, o', cap', ?_, fun h => by rw [q1 h]; omega, q2, q3, q4, q5⟩
  show (match ns.getD j none with | some (m, o) => (match E.ι m with | some (b, s) => some (b, s + o) | none => none) | none => none) = _
  rw [hj]
  simp only [e1]
def rowK (k : IntKind) (esz : Nat) (h : Tr O) : V → Option (Option (Nat × Nat) × Nat × List Int)
  | .slc none 0 _ _ => some (none, 0, [])
  | .slc (some (m, o)) len _ e => match Nat.beq e esz with
    | true => match h.get m with
      | some (.ints k' ks) => match decide (k' = k) with
        | true => some (some (m, o), len, ks.drop o)
        | false => none
      | _ => none
    | false => none
  | _ => none
theorem rowK_cases {k : IntKind} {esz : Nat} {h : Tr O} {v : V} {a : Option (Nat × Nat)} {l : Nat} {ks : List Int} (e : rowK k esz h v = some (a, l, ks)) :
    (∃ c z, v = .slc none 0 c z ∧ a = none ∧ l = 0 ∧ ks = []) ∨ ∃ m o c full, v = .slc (some (m, o)) l c esz ∧ a = some (m, o) ∧ h.get m = some (.ints k full) ∧ full.drop o = ks := by
  unfold rowK at e
  split at e
  · rename_i c z
    simp only [Option.some.injEq, Prod.mk.injEq] at e
    exact .inl ⟨c, z, rfl, e.1.symm, e.2.1.symm, e.2.2.symm⟩
  · rename_i m o len c e'
    split at e
    case h_2 => cases e
    rename_i he
    have he := Nat.eq_of_beq_eq_true he
    subst he
    split at e
    case h_2 => cases e
    rename_i k' full hm
    split at e
    case h_2 => cases e
    rename_i hk
    have hk := of_decide_eq_true hk
    subst hk
    simp only [Option.some.injEq, Prod.mk.injEq] at e
    obtain ⟨rfl, rfl, rfl⟩ := e
    exact .inr ⟨m, o, c, full, rfl, rfl, hm, rfl⟩
  · cases e
end Go.Eng
namespace Go.Eng
open Go Go.RowKit
abbrev RowO := Option (Nat × Nat × List Int)
def envN (w : World) (l : List RowO) : Env := ⟨fun m => inH (l.getD m none), cellsSize w⟩
def rowsOf (l : List RowO) : List (Option (IntKind × List Int)) := l.map fun o => match o with
  | some (_, _, ks) => some (.i64, ks)
  | none => none
theorem envN_ok {w : World} (l : List RowO) (hl : l.length < top) (h : ∀ x ∈ l, inOk w x) : Good (envN w l) (rH (rowsOf l)) w ∧ Dom (envN w l) l.length ∧ ∀ m, ¬ wlive (rH (rowsOf l)) m := by
  have hl' : (rowsOf l).length < top := by simpa [rowsOf] using hl
  have hwl : ∀ m, ¬ wlive (rH (rowsOf l)) m := by
    rintro m ⟨o, h1, h2⟩
    obtain ⟨k, ks, _, rfl⟩ := rH_get hl' h1
    cases h2
  have some_mem : ∀ m b s ks, l[m]? = some (some (b, s, ks)) → rowIn w b s ks := fun m b s ks e => h _ (List.mem_of_getElem? e) b s ks rfl
  refine ⟨⟨fun m o hm => ?_, fun m _ _ _ _ _ hm => absurd hm (hwl m), fun m b s e => ?_⟩, fun m hm => ?_, hwl⟩
  · obtain ⟨k, ks, h1, rfl⟩ := rH_get hl' hm
    unfold rowsOf at h1
    rw [List.getElem?_map] at h1
    cases hx : l[m]? with
    | none => rw [hx] at h1; cases h1
    | some x =>
      rw [hx] at h1
      cases x with
      | none => cases h1
      | some y =>
        obtain ⟨b, s, ks'⟩ := y
        simp only [Option.map_some, Option.some.injEq, Prod.mk.injEq] at h1
        obtain ⟨rfl, rfl⟩ := h1
        obtain ⟨c, el, fz, q1, q2, q3⟩ := some_mem m b s ks' hx
        refine ⟨b, s, ?_, c, el, fz, q1, ?_, q3⟩
        · show inH (l.getD m none) = _
          rw [List.getD_eq_getElem?_getD, hx]; rfl
        · show c.size = cellsSize w b
          simp only [cellsSize, q1]
  · have e : inH (l.getD m none) = some (b, s) := e
    rw [List.getD_eq_getElem?_getD] at e
    cases hx : l[m]? with
    | none => rw [hx] at e; cases e
    | some x =>
      rw [hx] at e
      cases x with
      | none => cases e
      | some y =>
        obtain ⟨b', s', ks'⟩ := y
        simp only [Option.getD_some, inH, Option.map_some, Option.some.injEq, Prod.mk.injEq] at e
        obtain ⟨rfl, rfl⟩ := e
        obtain ⟨c, el, fz, q1, _, _⟩ := some_mem m _ _ ks' hx
        exact (Array.getElem?_eq_some_iff.1 q1).1
  · show inH (l.getD m none) = none
    rw [List.getD_eq_getElem?_getD, List.getElem?_eq_none (show l.length ≤ m from hm)]
    rfl
end Go.Eng
