/- The engine, part Y: rules over states that are runs from nothing, where some tests stand open. No conditions: lemmas alone. -/
import Derived.Test.YtljiongmhoooiaaEngX
namespace Go.Eng
open Go Go.RowKit

/-! ### pieces of code -/
def isSeq : Code → Bool | .seq _ _ => true | _ => false
def seqL : Code → Code | .seq a _ => a | c => c
def seqR : Code → Code | .seq _ b => b | c => c
def isCond (c : Code) (o : Operand → Bool) : Bool := match c with | .cond x _ _ => o x | _ => false
def condO : Code → Operand | .cond c _ _ => c | _ => .const (.bool true)
def condT : Code → Code | .cond _ a _ => a | c => c
def condF : Code → Code | .cond _ _ b => b | c => c
def isBlock : Code → Nat → Bool | .block i _, j => Nat.beq i j | _, _ => false
def isLoop : Code → Bool | .loop _ => true | _ => false
def inner : Code → Code | .block _ c => c | .loop c => c | c => c
def headN : Nat → Code → Code
  | k + 1, .seq a b => .seq a (headN k b)
  | _, _ => .skip
def tailN : Nat → Code → Code
  | k + 1, .seq _ b => tailN k b
  | _, c => c

def T (P : Program) (N : Nat) (w0 : World) (c : Code) (s : St) (Q : Exit → St → Prop) : Prop :=
  ∀ (K : Exit → Act → World → Prop) (a : Act) (w : World), Run0 N w0 s a w → (∀ y s' a' w', Q y s' → Run0 N w0 s' a' w' → K y a' w') → c.wp P K a w

section
variable {P : Program} {cf : CallF} {F N : Nat} {w0 : World} {c : Code} {s s' : St} {Q Q1 : Exit → St → Prop}

theorem T_mono (h : T P N w0 c s Q1) (hq : ∀ y s', Q1 y s' → Q y s') : T P N w0 c s Q := fun _ a w r k => h _ a w r fun y s' a' w' q => k y s' a' w' (hq y s' q)

theorem T_exec (hcf : CallOk P cf) (hm : P.follows .mixedOrders = true) {x : X} {y : Exit} (hc : codeOk N c = true) (e : exec P cf F c s = some (x, s')) (hx : x.plain = some y) (hq : Q y s') : T P N w0 c s Q :=
  fun _ _ _ r k => exec_inv hcf hm hc e hx r fun a' w' r' => k y s' a' w' hq r'

theorem T_norm {live : List Nat} {s2 : St} (e : norm live s = some s2) (h : T P N w0 c s2 Q) : T P N w0 c s Q :=
  fun K a w r k => h K a w (norm_sound e r) k

def andThen (R : St → Prop) (Q : Exit → St → Prop) : Exit → St → Prop
  | .normal, s => R s
  | y, s => Q y s

theorem T_seq {c1 c2 : Code} (h : T P N w0 c1 s (andThen (fun s' => T P N w0 c2 s' Q) Q)) : T P N w0 (.seq c1 c2) s Q := by
  intro K a w r k
  refine wp_seq (h _ a w r fun y s' a' w' q r' => ?_)
  cases y <;> first | exact q K a' w' r' k | exact k _ s' a' w' q r'

theorem T_seq' (hs : isSeq c = true) (h : T P N w0 (seqL c) s (andThen (fun s' => T P N w0 (seqR c) s' Q) Q)) : T P N w0 c s Q := by
  cases c <;> simp only [isSeq, Bool.false_eq_true] at hs
  exact T_seq h

theorem T_cond {t : Bool} (hc : isCond c (fun _ => true) = true) (ho : opd s.fr (condO c) = some (.bool t)) (h1 : t = true → T P N w0 (condT c) s Q) (h2 : t = false → T P N w0 (condF c) s Q) : T P N w0 c s Q := by
  cases c <;> simp only [isCond, Bool.false_eq_true] at hc
  intro K a w r k
  obtain ⟨E, r0, _⟩ := id r
  cases t
  · exact wp_cond_false (cond_rel r0.fr ho) (h2 rfl K a w r k)
  · exact wp_cond_true (cond_rel r0.fr ho) (h1 rfl K a w r k)

def outOf (i : Nat) (Q : Exit → St → Prop) : Exit → St → Prop
  | .exit j, s => if j = i then Q .normal s else Q (.exit j) s
  | y, s => Q y s

theorem T_block {i : Nat} (hc : isBlock c i = true) (h : T P N w0 (inner c) s (outOf i Q)) : T P N w0 c s Q := by
  cases c <;> simp only [isBlock, Bool.false_eq_true] at hc
  rename_i j b
  have := Nat.eq_of_beq_eq_true hc
  subst this
  intro K a w r k
  refine wp_block (h _ a w r fun y s' a' w' q r' => ?_)
  cases y <;> first | exact k _ s' a' w' q r' | skip
  simp only [Exit.inBlock, outOf] at q ⊢
  split
  · rename_i he; rw [if_pos he] at q; exact k _ s' a' w' q r'
  · rename_i he; rw [if_neg he] at q; exact k _ s' a' w' q r'

def TR (P : Program) (N : Nat) (w0 : World) (c : Code) (Q : Exit → St → Prop) : Nat → St → Prop
  | 0, _ => False
  | n + 1, s => T P N w0 c s (andThen (fun s' => TR P N w0 c Q n s') Q)

theorem T_loop (n : Nat) (hc : isLoop c = true) (h : TR P N w0 (inner c) Q n s) : T P N w0 c s Q := by
  cases c <;> simp only [isLoop, Bool.false_eq_true] at hc
  rename_i b
  intro K a w r k
  refine wp_loop_rounds n ?_
  have key : ∀ (n : Nat) (s : St) (a : Act) (w : World), TR P N w0 b Q n s → Run0 N w0 s a w → Code.rounds P b K n a w := by
    intro n
    induction n with
    | zero => intro s a w h; exact h.elim
    | succ n ih =>
      intro s a w h r
      rw [rounds_succ]
      refine h _ a w r fun y s' a' w' q r' => ?_
      cases y <;> first | exact ih s' a' w' q r' | exact k _ s' a' w' q r'
  exact key n s a w h r

/-! ### both sides of the tests that stand open -/
def bindL (f : St → Option (List (X × St))) : List (X × St) → Option (List (X × St))
  | [] => some []
  | (x, s) :: r => match bindL f r with
    | some tl => match x with
      | .normal => match f s with
        | some l => some (l ++ tl)
        | none => none
      | x => some ((x, s) :: tl)
    | none => none

def outL (i : Nat) : List (X × St) → List (X × St)
  | [] => []
  | (x, s) :: r => match x with
    | .exit j => match Nat.beq j i with
      | true => (.normal, s) :: outL i r
      | false => (.exit j, s) :: outL i r
    | x => (x, s) :: outL i r

def openT (unk : Nat → Bool) : Operand → Bool
  | .tmp t => unk t
  | _ => false

def execT (P : Program) (cf : CallF) (F : Nat) (unk : Nat → Bool) : Code → St → Option (List (X × St))
  | .seq a b, s => match execT P cf F unk a s with
    | some l => bindL (execT P cf F unk b) l
    | none => none
  | .cond c a b, s => match opd s.fr c with
    | some (.bool t) => match openT unk c with
      | true => match execT P cf F unk a s with
        | some l1 => match execT P cf F unk b s with
          | some l2 => some (l1 ++ l2)
          | none => none
        | none => none
      | false => match t with
        | true => execT P cf F unk a s
        | false => execT P cf F unk b s
    | _ => none
  | .block i c, s => match execT P cf F unk c s with
    | some l => some (outL i l)
    | none => none
  | c, s => match exec P cf F c s with
    | some r => some [r]
    | none => none

def AllQ (Q : Exit → St → Prop) (l : List (X × St)) : Prop := ∀ p ∈ l, ∃ y, p.1.plain = some y ∧ Q y p.2

theorem T_exec1 (hcf : CallOk P cf) (hm : P.follows .mixedOrders = true) (hc : codeOk N c = true) {l : List (X × St)} (e : (match exec P cf F c s with | some r => some [r] | none => none) = some l) (hq : AllQ Q l) : T P N w0 c s Q := by
  split at e
  · rename_i r hr
    simp only [Option.some.injEq] at e; subst e
    obtain ⟨y, h1, h2⟩ := hq r (by simp)
    exact T_exec (x := r.1) (s' := r.2) hcf hm hc hr h1 h2
  · cases e

theorem bindL_all {f : St → Option (List (X × St))} {Q : Exit → St → Prop} {R : St → Prop} (hf : ∀ s l, f s = some l → AllQ Q l → R s) : ∀ (l l2 : List (X × St)), bindL f l = some l2 → AllQ Q l2 → AllQ (andThen R Q) l
  | [], _, _, _ => fun p hp => by simp at hp
  | (x, s) :: r, l2, e, hq => by
    simp only [bindL] at e
    split at e
    · rename_i tl htl
      cases x with
      | normal =>
        simp only at e
        split at e
        · rename_i l hl
          simp only [Option.some.injEq] at e; subst e
          intro p hp
          simp only [List.mem_cons] at hp
          rcases hp with rfl | hp
          · exact ⟨.normal, rfl, hf s l hl fun q hq' => hq q (by simp [hq'])⟩
          · exact bindL_all hf r tl htl (fun q hq' => hq q (by simp [hq'])) p hp
        · cases e
      | exit i =>
        simp only [Option.some.injEq] at e; subst e
        intro p hp
        simp only [List.mem_cons] at hp
        rcases hp with rfl | hp
        · obtain ⟨y, h1, h2⟩ := hq (.exit i, s) (by simp)
          simp only [X.plain, Option.some.injEq] at h1; subst h1
          exact ⟨.exit i, rfl, h2⟩
        · exact bindL_all hf r tl htl (fun q hq' => hq q (by simp [hq'])) p hp
      | ret =>
        simp only [Option.some.injEq] at e; subst e
        intro p hp
        simp only [List.mem_cons] at hp
        rcases hp with rfl | hp
        · obtain ⟨y, h1, h2⟩ := hq (.ret, s) (by simp)
          simp only [X.plain, Option.some.injEq] at h1; subst h1
          exact ⟨.ret, rfl, h2⟩
        · exact bindL_all hf r tl htl (fun q hq' => hq q (by simp [hq'])) p hp
      | panic v =>
        simp only [Option.some.injEq] at e; subst e
        obtain ⟨y, h1, h2⟩ := hq (.panic v, s) (by simp)
        simp [X.plain] at h1
    · cases e

theorem outL_all {i : Nat} : ∀ (l : List (X × St)), AllQ Q (outL i l) → AllQ (outOf i Q) l
  | [], _ => fun p hp => by simp at hp
  | (x, s) :: r, hq => by
    intro p hp
    simp only [List.mem_cons] at hp
    cases x with
    | exit j =>
      simp only [outL] at hq
      split at hq
      · rename_i hb
        rcases hp with rfl | hp
        · obtain ⟨y, h1, h2⟩ := hq (.normal, s) (by simp)
          simp only [X.plain, Option.some.injEq] at h1; subst h1
          exact ⟨.exit j, rfl, by simp only [outOf, Nat.eq_of_beq_eq_true hb, if_true]; exact h2⟩
        · exact outL_all r (fun q hq' => hq q (by simp [hq'])) p hp
      · rename_i hb
        rcases hp with rfl | hp
        · obtain ⟨y, h1, h2⟩ := hq (.exit j, s) (by simp)
          simp only [X.plain, Option.some.injEq] at h1; subst h1
          refine ⟨.exit j, rfl, ?_⟩
          simp only [outOf]
          rw [if_neg (by intro h; subst h; simp at hb)]
          exact h2
        · exact outL_all r (fun q hq' => hq q (by simp [hq'])) p hp
    | normal =>
      simp only [outL] at hq
      rcases hp with rfl | hp
      · obtain ⟨y, h1, h2⟩ := hq (.normal, s) (by simp)
        simp only [X.plain, Option.some.injEq] at h1; subst h1
        exact ⟨.normal, rfl, h2⟩
      · exact outL_all r (fun q hq' => hq q (by simp [hq'])) p hp
    | ret =>
      simp only [outL] at hq
      rcases hp with rfl | hp
      · obtain ⟨y, h1, h2⟩ := hq (.ret, s) (by simp)
        simp only [X.plain, Option.some.injEq] at h1; subst h1
        exact ⟨.ret, rfl, h2⟩
      · exact outL_all r (fun q hq' => hq q (by simp [hq'])) p hp
    | panic v =>
      simp only [outL] at hq
      obtain ⟨y, h1, _⟩ := hq (.panic v, s) (by simp)
      simp [X.plain] at h1

theorem T_execT (hcf : CallOk P cf) (hm : P.follows .mixedOrders = true) {unk : Nat → Bool} : ∀ (c : Code) (s : St) (l : List (X × St)) (Q : Exit → St → Prop), codeOk N c = true → execT P cf F unk c s = some l → AllQ Q l → T P N w0 c s Q := by
  intro c
  induction c with
  | seq a b iha ihb =>
    intro s l Q hok e hq
    simp only [codeOk, Bool.and_eq_true] at hok
    simp only [execT] at e
    split at e
    · rename_i l1 h1
      exact T_seq (iha s l1 _ hok.1 h1 (bindL_all (fun s l hl hq => ihb s l Q hok.2 hl hq) l1 l e hq))
    · cases e
  | cond c a b iha ihb =>
    intro s l Q hok e hq
    simp only [codeOk, Bool.and_eq_true] at hok
    simp only [execT] at e
    split at e
    · rename_i t ho
      split at e
      · split at e
        · rename_i l1 h1
          split at e
          · rename_i l2 h2
            simp only [Option.some.injEq] at e; subst e
            exact T_cond rfl ho (fun _ => iha s l1 Q hok.1 h1 fun p hp => hq p (by simp [hp])) (fun _ => ihb s l2 Q hok.2 h2 fun p hp => hq p (by simp [hp]))
          · cases e
        · cases e
      · cases t with
        | true => exact T_cond rfl ho (fun _ => iha s l Q hok.1 e hq) (fun h => by cases h)
        | false => exact T_cond rfl ho (fun h => by cases h) (fun _ => ihb s l Q hok.2 e hq)
    · cases e
  | block i c ih =>
    intro s l Q hok e hq
    simp only [codeOk] at hok
    simp only [execT] at e
    split at e
    · rename_i l1 h1
      simp only [Option.some.injEq] at e; subst e
      exact T_block (i := i) (by simp [isBlock]) (ih s l1 _ hok h1 (outL_all l1 hq))
    · cases e
  | _ => intro s l Q hok e hq; exact T_exec1 (F := F) hcf hm hok e hq

theorem T_head (hcf : CallOk P cf) (hm : P.follows .mixedOrders = true) {unk : Nat → Bool} : ∀ (k : Nat) {c : Code} {s : St} {l : List (X × St)} {Q : Exit → St → Prop}, codeOk N c = true → execT P cf F unk (headN k c) s = some l →
    AllQ (andThen (fun s' => T P N w0 (tailN k c) s' Q) Q) l → T P N w0 c s Q := by
  have skipCase : ∀ {c : Code} {s : St} {l : List (X × St)} {Q : Exit → St → Prop}, execT P cf F unk .skip s = some l → AllQ (andThen (fun s' => T P N w0 c s' Q) Q) l → T P N w0 c s Q := by
    intro c s l Q e hq
    simp only [execT, exec, Option.some.injEq] at e; subst e
    obtain ⟨y, h1, h2⟩ := hq (.normal, s) (by simp)
    simp only [X.plain, Option.some.injEq] at h1; subst h1
    exact h2
  intro k
  induction k with
  | zero => intro c s l Q _ e hq; cases c <;> exact skipCase e hq
  | succ k ih =>
    intro c s l Q hok e hq
    cases c <;> first | exact skipCase e hq | skip
    rename_i c1 c2
    simp only [codeOk, Bool.and_eq_true] at hok
    simp only [headN, execT] at e
    split at e
    · rename_i l1 h1
      have hall := bindL_all (R := fun s' => T P N w0 c2 s' Q) (fun s l hl hq => ih hok.2 hl hq) l1 l e hq
      exact T_seq (T_execT hcf hm c1 s l1 _ hok.1 h1 fun p hp => let ⟨y, k1, k2⟩ := hall p hp; ⟨y, k1, by cases y <;> exact k2⟩)
    · cases e

/-! ### a state with open values laid over -/
def ov : List (Nat × V) → Tr V → Tr V
  | [], t => t
  | x :: r, t => (ov r t).set x.1 (some x.2)

def St.over (s : St) (l : List (Nat × V)) : St := { s with fr := ov l s.fr }

theorem ov_get {l : List (Nat × V)} {t : Tr V} (hl : ∀ x ∈ l, x.1 < top) : ∀ {k : Nat} {v : V}, (ov l t).get k = some v → (k, v) ∈ l ∨ t.get k = some v := by
  induction l with
  | nil => intro k v h; exact .inr h
  | cons x r ih =>
    intro k v h
    simp only [ov] at h
    rw [Tr.get_set _ _ _ (hl x (by simp))] at h
    split at h
    · rename_i hk
      simp only [Option.some.injEq] at h
      left; rw [hk, ← h]; simp
    · rcases ih (fun y hy => hl y (by simp [hy])) h with h | h
      · exact .inl (by simp [h])
      · exact .inr h

theorem run0_over {a : Act} {w : World} {live : List Nat} {s2 : St} {l : List (Nat × V)} (hl : ∀ x ∈ l, x.1 < top) (hf : ∀ x ∈ l, x.2.free = true) (hg : ∀ x ∈ l, s.fr.get x.1 = some x.2) (e : norm live s = some s2) (r : Run0 N w0 s a w) : Run0 N w0 (s2.over l) a w := by
  obtain ⟨E, r1, _⟩ := id r
  obtain ⟨E2, r2, u2⟩ := norm_sound e r
  refine ⟨E2, ⟨r2.good, r2.dom, ?_, r2.size, r2.dfs⟩, u2⟩
  intro k v hk
  rcases ov_get hl hk with h | h
  · obtain ⟨v', h1, h2⟩ := r1.fr k v (hg _ h)
    exact ⟨v', h1, free_rel v v' (hf _ h) h2⟩
  · exact r2.fr k v h

/-! ### equality of states, as a test -/
def Tr.beq {α : Type} (eq : α → α → Bool) : Tr α → Tr α → Bool
  | .nil, .nil => true
  | .node a l r, .node b l' r' => (match a, b with | none, none => true | some a, some b => eq a b | _, _ => false) && (Tr.beq eq l l' && Tr.beq eq r r')
  | _, _ => false

theorem Tr.beq_eq {α : Type} {eq : α → α → Bool} (h : ∀ a b, eq a b = true → a = b) : ∀ (t u : Tr α), Tr.beq eq t u = true → t = u
  | .nil, .nil, _ => rfl
  | .nil, .node _ _ _, e => by simp [Tr.beq] at e
  | .node _ _ _, .nil, e => by simp [Tr.beq] at e
  | .node a l r, .node b l' r', e => by
    simp only [Tr.beq, Bool.and_eq_true] at e
    rw [Tr.beq_eq h l l' e.2.1, Tr.beq_eq h r r' e.2.2]
    cases a <;> cases b <;> first | rfl | (simp at e; done) | skip
    rw [h _ _ e.1]

def entsBeq : List (V × V × Nat) → List (V × V × Nat) → Bool
  | [], [] => true
  | x :: xs, y :: ys => (V.beq x.1 y.1 && V.beq x.2.1 y.2.1) && (Nat.beq x.2.2 y.2.2 && entsBeq xs ys)
  | _, _ => false

theorem entsBeq_eq : ∀ (a b : List (V × V × Nat)), entsBeq a b = true → a = b
  | [], [], _ => rfl
  | [], _ :: _, h => by simp [entsBeq] at h
  | _ :: _, [], h => by simp [entsBeq] at h
  | (k, v, n) :: xs, (k', v', n') :: ys, h => by
    simp only [entsBeq, Bool.and_eq_true] at h
    rw [beq_eq _ _ h.1.1, beq_eq _ _ h.1.2, Nat.eq_of_beq_eq_true h.2.1, entsBeq_eq xs ys h.2.2]

def O.beq : O → O → Bool
  | .cells a, .cells b => V.beqs a b
  | .map a c, .map b d => entsBeq a b && Nat.beq c d
  | .siter a p, .siter b q => beqB a b && Nat.beq p q
  | _, _ => false

theorem O.beq_eq (a b : O) (h : O.beq a b = true) : a = b := by
  cases a <;> cases b <;> simp only [O.beq, Bool.false_eq_true, Bool.and_eq_true] at h
  · rw [beqs_eq _ _ h]
  · rw [entsBeq_eq _ _ h.1, Nat.eq_of_beq_eq_true h.2]
  · rw [beqB_eq] at h; rw [eq_of_beq h.1, Nat.eq_of_beq_eq_true h.2]

def St.beq (a b : St) : Bool := Tr.beq V.beq a.fr b.fr && (Tr.beq O.beq a.h b.h && (Nat.beq a.n b.n && (a.dfs.isEmpty && b.dfs.isEmpty)))

theorem St.beq_eq {a b : St} (h : St.beq a b = true) : a = b := by
  simp only [St.beq, Bool.and_eq_true, List.isEmpty_iff] at h
  obtain ⟨h1, h2, h3, h4, h5⟩ := h
  have e1 := Tr.beq_eq Go.Eng.beq_eq _ _ h1
  have e2 := Tr.beq_eq O.beq_eq _ _ h2
  have e3 := Nat.eq_of_beq_eq_true h3
  cases a; cases b
  simp_all

/-- do all ends come, afresh, to the one state? -/
def sameEnds (live : List Nat) (t : St) : List (X × St) → Bool
  | [] => true
  | (.normal, s) :: r => match norm live s with
    | some s2 => match St.beq s2 t with
      | true => sameEnds live t r
      | false => false
    | none => false
  | _ => false

def goT (P : Program) (cf : CallF) (F : Nat) (unk : Nat → Bool) (live ks : List Nat) (c : Code) (s t : St) : Option (List (List (Option V))) :=
  match execT P cf F unk c s with
  | some l => match sameEnds live t l with
    | true => some (l.map fun p => ks.map p.2.fr.get)
    | false => none
  | none => none

theorem sameEnds_spec {live : List Nat} {t : St} : ∀ {l : List (X × St)}, sameEnds live t l = true → ∀ p ∈ l, p.1 = .normal ∧ norm live p.2 = some t
  | [], _, p, hp => by simp at hp
  | (x, s) :: r, h, p, hp => by
    cases x <;> simp only [sameEnds, Bool.false_eq_true] at h
    split at h
    · rename_i s2 hs2
      split at h
      · rename_i hb
        simp only [List.mem_cons] at hp
        rcases hp with rfl | hp
        · exact ⟨rfl, by rw [hs2, St.beq_eq hb]⟩
        · exact sameEnds_spec h p hp
      · cases h
    · cases h

theorem T_over {live : List Nat} {l : List (Nat × V)} {t : St} (hl : ∀ x ∈ l, x.1 < top) (hf : ∀ x ∈ l, x.2.free = true) (hn : norm live s = some t) (hg : ∀ x ∈ l, s.fr.get x.1 = some x.2) (h : T P N w0 c (t.over l) Q) : T P N w0 c s Q :=
  fun K a w r k => h K a w (run0_over hl hf hg hn r) k

theorem goT_spec {unk : Nat → Bool} {live : List Nat} {l : List (Nat × V)} {r : List (List (Option V))} {t : St} (e : goT P cf F unk live (l.map (·.1)) c s t = some r) (hr : ∀ x ∈ r, x = l.map fun y => some y.2) :
    ∃ ends, execT P cf F unk c s = some ends ∧ ∀ p ∈ ends, p.1 = .normal ∧ norm live p.2 = some t ∧ ∀ x ∈ l, p.2.fr.get x.1 = some x.2 := by
  unfold goT at e
  split at e
  · rename_i ends he
    split at e
    · rename_i hs
      simp only [Option.some.injEq] at e
      refine ⟨ends, he, fun p hp => ?_⟩
      obtain ⟨h1, h2⟩ := sameEnds_spec hs p hp
      refine ⟨h1, h2, ?_⟩
      have := hr _ (by rw [← e]; exact List.mem_map_of_mem hp)
      rw [List.map_map] at this
      intro x hx
      exact List.map_inj_left.1 this x hx
    · cases e
  · cases e

/-- a piece whose ends all come to the one state -/
theorem T_go (hcf : CallOk P cf) (hm : P.follows .mixedOrders = true) {unk : Nat → Bool} {live : List Nat} {l : List (Nat × V)} {r : List (List (Option V))} {t : St} (hl : ∀ x ∈ l, x.1 < top) (hf : ∀ x ∈ l, x.2.free = true) (hc : codeOk N c = true)
    (e : goT P cf F unk live (l.map (·.1)) c s t = some r) (hr : ∀ x ∈ r, x = l.map fun y => some y.2) (hq : Q .normal (t.over l)) : T P N w0 c s Q := by
  obtain ⟨ends, he, ha⟩ := goT_spec e hr
  intro K a w r0 k
  refine T_execT hcf hm c s ends (fun y s' => y = .normal ∧ norm live s' = some t ∧ ∀ x ∈ l, s'.fr.get x.1 = some x.2) hc he ?_ K a w r0 ?_
  · intro p hp
    obtain ⟨h1, h2⟩ := ha p hp
    exact ⟨.normal, by rw [h1]; rfl, rfl, h2⟩
  · intro y s' a' w' ⟨hy, hn, hg⟩ r'
    subst hy
    exact k _ _ a' w' hq (run0_over hl hf hg hn r')

/-- the like for the first so many pieces -/
theorem T_goHead (k : Nat) (hcf : CallOk P cf) (hm : P.follows .mixedOrders = true) {unk : Nat → Bool} {live : List Nat} {l : List (Nat × V)} {r : List (List (Option V))} {t : St} (hl : ∀ x ∈ l, x.1 < top) (hf : ∀ x ∈ l, x.2.free = true) (hc : codeOk N c = true)
    (e : goT P cf F unk live (l.map (·.1)) (headN k c) s t = some r) (hr : ∀ x ∈ r, x = l.map fun y => some y.2) (hq : T P N w0 (tailN k c) (t.over l) Q) : T P N w0 c s Q := by
  obtain ⟨ends, he, ha⟩ := goT_spec e hr
  refine T_head hcf hm k hc he fun p hp => ?_
  obtain ⟨h1, h2, h3⟩ := ha p hp
  exact ⟨.normal, by rw [h1]; rfl, T_over hl hf h2 h3 hq⟩

/-! ### the like, where one cell stands open too -/
def St.cell (s : St) (m i : Nat) (v : V) : St := match s.h.get m with
  | some (.cells cs) => match Nat.blt m top with
    | true => { s with h := s.h.set m (some (.cells (cs.set i v))) }
    | false => s
  | _ => s

def St.cellAt (s : St) (m i : Nat) : Option V := match s.h.get m with
  | some (.cells cs) => match Nat.blt m top with
    | true => cs[i]?
    | false => none
  | _ => none

theorem run0_ext {a : Act} {w : World} (hfr : s'.fr = s.fr) (hh : ∀ k, s'.h.get k = s.h.get k) (hn : s'.n = s.n) (hd : s'.dfs = s.dfs) (r : Run0 N w0 s a w) : Run0 N w0 s' a w := by
  obtain ⟨E, r1, u⟩ := r
  have g : Good E s'.h w := ⟨fun m o h => r1.good.rel m o (by rw [← hh]; exact h), fun m m' b s1 s2 hne h1 h2 => r1.good.inj m m' b s1 s2 hne (by rw [← hh]; exact h1) (by rw [← hh]; exact h2), r1.good.bnd⟩
  exact ⟨E, ⟨g, by rw [hn]; exact r1.dom, by rw [hfr]; exact r1.fr, r1.size, by rw [hd]; exact r1.dfs⟩,
    ⟨u.le, g, u.size, u.tape, u.os, u.output, u.keep, fun m b s1 hm => u.img m b s1 (by rw [← hh]; exact hm)⟩⟩

theorem cell_self {s : St} {m i : Nat} {v z : V} (h : s.cellAt m i = some v) : (∀ k, ((s.cell m i z).cell m i v).h.get k = s.h.get k) ∧ ((s.cell m i z).cell m i v).fr = s.fr ∧ ((s.cell m i z).cell m i v).n = s.n ∧ ((s.cell m i z).cell m i v).dfs = s.dfs := by
  unfold St.cellAt at h
  split at h
  · rename_i cs hc
    split at h
    · rename_i hb
      have hlt : m < top := by simp [Nat.blt] at hb; omega
      have e1 : s.cell m i z = { s with h := s.h.set m (some (.cells (cs.set i z))) } := by simp only [St.cell, hc, hb]
      have e2 : (s.cell m i z).cell m i v = { s with h := (s.h.set m (some (.cells (cs.set i z)))).set m (some (.cells ((cs.set i z).set i v))) } := by
        rw [e1]; simp only [St.cell, Tr.get_set_same _ _ hlt, hb]
      rw [e2]
      refine ⟨fun k => ?_, rfl, rfl, rfl⟩
      show ((s.h.set m _).set m _).get k = _
      by_cases hk : k = m
      · subst hk
        rw [Tr.get_set_same _ _ hlt, hc, List.set_set]
        congr 2
        refine List.ext_getElem? fun j => ?_
        rw [List.getElem?_set]
        split
        · rename_i hj; subst hj
          split
          · exact h.symm
          · rename_i hj; rw [List.getElem?_eq_none (by omega)] at h; cases h
        · rfl
      · rw [Tr.get_set_ne _ _ hlt hk, Tr.get_set_ne _ _ hlt hk]
    · cases h
  · cases h

def sameEndsC (live : List Nat) (m i : Nat) (z : V) (t : St) : List (X × St) → Option (List (Option V))
  | [] => some []
  | (.normal, s) :: r => match norm live s with
    | some s2 => match St.beq (s2.cell m i z) t with
      | true => match sameEndsC live m i z t r with
        | some l => some (s2.cellAt m i :: l)
        | none => none
      | false => none
    | none => none
  | _ => none

def goC (P : Program) (cf : CallF) (F : Nat) (unk : Nat → Bool) (live ks : List Nat) (m i : Nat) (z : V) (c : Code) (s t : St) : Option (List (List (Option V)) × List (Option V)) :=
  match execT P cf F unk c s with
  | some l => match sameEndsC live m i z t l with
    | some cells => some (l.map fun p => ks.map p.2.fr.get, cells)
    | none => none
  | none => none

theorem sameEndsC_spec {live : List Nat} {m i : Nat} {z : V} {t : St} {C : V → Prop} : ∀ {l : List (X × St)} {cells : List (Option V)}, sameEndsC live m i z t l = some cells → (∀ x ∈ cells, ∃ v, x = some v ∧ C v) →
    ∀ p ∈ l, p.1 = .normal ∧ ∃ s2 v, norm live p.2 = some s2 ∧ s2.cell m i z = t ∧ s2.cellAt m i = some v ∧ C v
  | [], _, _, _, p, hp => by simp at hp
  | (x, s) :: r, cells, h, hc, p, hp => by
    cases x <;> simp only [sameEndsC, reduceCtorEq] at h
    split at h
    · rename_i s2 hs2
      split at h
      · rename_i hb
        split at h
        · rename_i l hl
          simp only [Option.some.injEq] at h; subst h
          simp only [List.mem_cons] at hp
          rcases hp with rfl | hp
          · obtain ⟨v, h1, h2⟩ := hc (s2.cellAt m i) (by simp)
            exact ⟨rfl, s2, v, hs2, St.beq_eq hb, h1, h2⟩
          · exact sameEndsC_spec hl (fun x hx => hc x (by simp [hx])) p hp
        · cases h
      · cases h
    · cases h

theorem goC_spec {unk : Nat → Bool} {live : List Nat} {l : List (Nat × V)} {m i : Nat} {z : V} {r : List (List (Option V))} {cells : List (Option V)} {t : St} {C : V → Prop} (e : goC P cf F unk live (l.map (·.1)) m i z c s t = some (r, cells)) (hr : ∀ x ∈ r, x = l.map fun y => some y.2) (hcs : ∀ x ∈ cells, ∃ v, x = some v ∧ C v) :
    ∃ ends, execT P cf F unk c s = some ends ∧ ∀ p ∈ ends, p.1 = .normal ∧ (∃ s2 v, norm live p.2 = some s2 ∧ s2.cell m i z = t ∧ s2.cellAt m i = some v ∧ C v) ∧ ∀ x ∈ l, p.2.fr.get x.1 = some x.2 := by
  unfold goC at e
  split at e
  · rename_i ends he
    split at e
    · rename_i cells' hs
      simp only [Option.some.injEq, Prod.mk.injEq] at e
      obtain ⟨e1, rfl⟩ := e
      refine ⟨ends, he, fun p hp => ?_⟩
      obtain ⟨h1, h2⟩ := sameEndsC_spec hs hcs p hp
      refine ⟨h1, h2, ?_⟩
      have := hr _ (by rw [← e1]; exact List.mem_map_of_mem hp)
      rw [List.map_map] at this
      intro x hx
      exact List.map_inj_left.1 this x hx
    · cases e
  · cases e

theorem run0_overC {a : Act} {w : World} {live : List Nat} {s2 t : St} {m i : Nat} {z v : V} {l : List (Nat × V)} (hl : ∀ x ∈ l, x.1 < top) (hf : ∀ x ∈ l, x.2.free = true) (hg : ∀ x ∈ l, s.fr.get x.1 = some x.2) (e : norm live s = some s2) (ht : s2.cell m i z = t) (hv : s2.cellAt m i = some v) (r : Run0 N w0 s a w) :
    Run0 N w0 ((t.cell m i v).over l) a w := by
  have h := run0_over hl hf hg e r
  subst ht
  obtain ⟨k1, k2, k3, k4⟩ := cell_self (z := z) hv
  exact run0_ext (s := s2.over l) (by simp only [St.over, k2]) k1 k3 k4 h

theorem T_goC (hcf : CallOk P cf) (hm : P.follows .mixedOrders = true) {unk : Nat → Bool} {live : List Nat} {l : List (Nat × V)} {m i : Nat} {z : V} {r : List (List (Option V))} {cells : List (Option V)} {t : St} {C : V → Prop} (hl : ∀ x ∈ l, x.1 < top) (hf : ∀ x ∈ l, x.2.free = true) (hc : codeOk N c = true)
    (e : goC P cf F unk live (l.map (·.1)) m i z c s t = some (r, cells)) (hr : ∀ x ∈ r, x = l.map fun y => some y.2) (hcs : ∀ x ∈ cells, ∃ v, x = some v ∧ C v) (hq : ∀ v, C v → Q .normal ((t.cell m i v).over l)) : T P N w0 c s Q := by
  obtain ⟨ends, he, ha⟩ := goC_spec e hr hcs
  intro K a w r0 k
  refine T_execT hcf hm c s ends (fun y s' => y = .normal ∧ (∃ s2 v, norm live s' = some s2 ∧ s2.cell m i z = t ∧ s2.cellAt m i = some v ∧ C v) ∧ ∀ x ∈ l, s'.fr.get x.1 = some x.2) hc he ?_ K a w r0 ?_
  · intro p hp
    obtain ⟨h1, h2⟩ := ha p hp
    exact ⟨.normal, by rw [h1]; rfl, rfl, h2⟩
  · intro y s' a' w' ⟨hy, ⟨s2, v, h1, h2, h3, h4⟩, hg⟩ r'
    subst hy
    exact k _ _ a' w' (hq v h4) (run0_overC hl hf hg h1 h2 h3 r')

theorem T_goHeadC (k : Nat) (hcf : CallOk P cf) (hm : P.follows .mixedOrders = true) {unk : Nat → Bool} {live : List Nat} {l : List (Nat × V)} {m i : Nat} {z : V} {r : List (List (Option V))} {cells : List (Option V)} {t : St} {C : V → Prop} (hl : ∀ x ∈ l, x.1 < top) (hf : ∀ x ∈ l, x.2.free = true) (hc : codeOk N c = true)
    (e : goC P cf F unk live (l.map (·.1)) m i z (headN k c) s t = some (r, cells)) (hr : ∀ x ∈ r, x = l.map fun y => some y.2) (hcs : ∀ x ∈ cells, ∃ v, x = some v ∧ C v) (hq : ∀ v, C v → T P N w0 (tailN k c) ((t.cell m i v).over l) Q) : T P N w0 c s Q := by
  obtain ⟨ends, he, ha⟩ := goC_spec e hr hcs
  refine T_head hcf hm k hc he fun p hp => ?_
  obtain ⟨h1, ⟨s2, v, k1, k2, k3, k4⟩, h3⟩ := ha p hp
  exact ⟨.normal, by rw [h1]; rfl, fun K a w r0 k' => hq v k4 K a w (run0_overC hl hf h3 k1 k2 k3 r0) k'⟩

/-- a call, from its code -/
theorem calls_of_T (hm : P.follows .mixedOrders = true) (hpo : progOk P = true) (hcf : CallOk P cf) {f : FuncId} {fn : Func} {code : Code} (hf : P.funcs[f]? = some fn) (hb : fn.body = some code) {args : List V} {args' : List Value} {w : World} {v : V} (ra : vrels E0 args args') (h1 : args.length ≤ fn.ntmps) (h2 : fn.ntmps < top)
    (h : T P fn.ntmps w code { fr := frameOf args 0 .nil, h := .nil, n := 0, dfs := [] } (fun y s' => (y = .normal ∨ y = .ret) ∧ ∃ h' n', leave P cf F fn s'.fr s'.dfs .ret s'.h s'.n = some (.ret v, h', n'))) :
    Calls P f args'.toArray w fun e w' => (∃ E, outrel E (.ret v) e) ∧ Below w.heap.size w w' := by
  obtain ⟨hfr, hsz⟩ := frel_enter (n := fn.ntmps) ra h1 h2
  refine calls_of_wp_defers hf hb ?_
  refine h _ _ w ⟨E0, ⟨good0 w, dom0 0, hfr, hsz, rfl⟩, Upd.refl (good0 w)⟩ fun y s' a' w' ⟨hy, h', n', hl⟩ r => ?_
  have key : Leaves P fn a'.tmps (fun e w' => (∃ E, outrel E (.ret v) e) ∧ Below w.heap.size w w') a'.defers .returning w' := by
    obtain ⟨E, sr, u⟩ := r
    refine leave_sound hcf hm hpo s'.dfs .ret s'.h s'.n _ h' n' hl E w' a'.defers .returning _ sr.good sr.dom sr.fr sr.dfs trivial fun E2 w2 en u2 hlow2 hd2 hn2 ho => ⟨⟨E2, ho⟩, ?_⟩
    have u3 := u.trans u2
    exact ⟨u3.os, u3.tape, u3.output, u3.size, fun k hk => u3.keep k hk fun m s hm => by simp [Tr.get] at hm⟩
  rcases hy with rfl | rfl <;> exact key
end
end Go.Eng
