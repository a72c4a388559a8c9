/- The engine, part Y: rules over states that are runs from nothing, where some tests stand open. No conditions: lemmas alone. -/
import Derived.Test.YtpkpcnohnlhjlaaEngThree
import Derived.OpenShut
import Derived.Below
import Derived.ChangeSlices
import Derived.ChangeStays
namespace Go.Eng
open Go Go.RowKit

/-! ### pieces of code -/
def isSeq : Code → Bool | .seq _ _ => true | _ => false
def seqL : Code → Code | .seq a _ => a | c => c
def seqR : Code → Code | .seq _ b => b | c => c
def isCond (c : Code) (o : Operand → Bool) : Bool := match c with | .cond x _ _ => o x | _ => false
def condO : Code → Operand | .cond c _ _ => c | _ => .const (.bool true)
def condT : Code → Code | .cond _ a _ => a | c => c
def condF : Code → Code | .cond _ _ b => b | c => c
def isBlock : Code → Nat → Bool | .block i _, j => Nat.beq i j | _, _ => false
def isLoop : Code → Bool | .loop _ => true | _ => false
def inner : Code → Code | .block _ c => c | .loop c => c | c => c
def headN : Nat → Code → Code
  | k + 1, .seq a b => .seq a (headN k b)
  | _, _ => .skip
def tailN : Nat → Code → Code
  | k + 1, .seq _ b => tailN k b
  | _, c => c

def T (P : Program) (N : Nat) (w0 : World) (c : Code) (s : St) (Q : Exit → St → Prop) : Prop :=
  ∀ (K : Exit → Act → World → Prop) (a : Act) (w : World), Run0 N w0 s a w → (∀ y s' a' w', Q y s' → Run0 N w0 s' a' w' → K y a' w') → c.wp P K a w

section
variable {P : Program} {cf : CallF} {F N : Nat} {w0 : World} {c : Code} {s s' : St} {Q Q1 : Exit → St → Prop}

theorem T_mono (h : T P N w0 c s Q1) (hq : ∀ y s', Q1 y s' → Q y s') : T P N w0 c s Q := fun _ a w r k => h _ a w r fun y s' a' w' q => k y s' a' w' (hq y s' q)

theorem T_exec (hcf : CallOk P cf) (hm : P.follows .mixedOrders = true) {x : X} {y : Exit} (hc : codeOk N c = true) (e : exec P cf F c s = some (x, s')) (hx : x.plain = some y) (hq : Q y s') : T P N w0 c s Q :=
  fun _ _ _ r k => exec_inv hcf hm hc e hx r fun a' w' r' => k y s' a' w' hq r'

theorem T_norm {live : List Nat} {s2 : St} (e : norm live s = some s2) (h : T P N w0 c s2 Q) : T P N w0 c s Q :=
  fun K a w r k => h K a w (norm_sound e r) k

def andThen (R : St → Prop) (Q : Exit → St → Prop) : Exit → St → Prop
  | .normal, s => R s
  | y, s => Q y s

theorem T_seq {c1 c2 : Code} (h : T P N w0 c1 s (andThen (fun s' => T P N w0 c2 s' Q) Q)) : T P N w0 (.seq c1 c2) s Q := by
  intro K a w r k
  refine wp_seq (h _ a w r fun y s' a' w' q r' => ?_)
  cases y <;> first | exact q K a' w' r' k | exact k _ s' a' w' q r'

theorem T_seq' (hs : isSeq c = true) (h : T P N w0 (seqL c) s (andThen (fun s' => T P N w0 (seqR c) s' Q) Q)) : T P N w0 c s Q := by
  cases c <;> simp only [isSeq, Bool.false_eq_true] at hs
  exact T_seq h

theorem T_cond {t : Bool} (hc : isCond c (fun _ => true) = true) (ho : opd s.fr (condO c) = some (.bool t)) (h1 : t = true → T P N w0 (condT c) s Q) (h2 : t = false → T P N w0 (condF c) s Q) : T P N w0 c s Q := by
  cases c <;> simp only [isCond, Bool.false_eq_true] at hc
  intro K a w r k
  obtain ⟨E, r0, _⟩ := id r
  cases t
  · exact wp_cond_false (cond_rel r0.fr ho) (h2 rfl K a w r k)
  · exact wp_cond_true (cond_rel r0.fr ho) (h1 rfl K a w r k)

def outOf (i : Nat) (Q : Exit → St → Prop) : Exit → St → Prop
  | .exit j, s => if j = i then Q .normal s else Q (.exit j) s
  | y, s => Q y s

theorem T_block {i : Nat} (hc : isBlock c i = true) (h : T P N w0 (inner c) s (outOf i Q)) : T P N w0 c s Q := by
  cases c <;> simp only [isBlock, Bool.false_eq_true] at hc
  rename_i j b
  have := Nat.eq_of_beq_eq_true hc
  subst this
  intro K a w r k
  refine wp_block (h _ a w r fun y s' a' w' q r' => ?_)
  cases y <;> first | exact k _ s' a' w' q r' | skip
  simp only [Exit.inBlock, outOf] at q ⊢
  split
  · rename_i he; rw [if_pos he] at q; exact k _ s' a' w' q r'
  · rename_i he; rw [if_neg he] at q; exact k _ s' a' w' q r'

def TR (P : Program) (N : Nat) (w0 : World) (c : Code) (Q : Exit → St → Prop) : Nat → St → Prop
  | 0, _ => False
  | n + 1, s => T P N w0 c s (andThen (fun s' => TR P N w0 c Q n s') Q)

theorem T_loop (n : Nat) (hc : isLoop c = true) (h : TR P N w0 (inner c) Q n s) : T P N w0 c s Q := by
  cases c <;> simp only [isLoop, Bool.false_eq_true] at hc
  rename_i b
  intro K a w r k
  refine wp_loop_rounds n ?_
  have key : ∀ (n : Nat) (s : St) (a : Act) (w : World), TR P N w0 b Q n s → Run0 N w0 s a w → Code.rounds P b K n a w := by
    intro n
    induction n with
    | zero => intro s a w h; exact h.elim
    | succ n ih =>
      intro s a w h r
      rw [rounds_succ]
      refine h _ a w r fun y s' a' w' q r' => ?_
      cases y <;> first | exact ih s' a' w' q r' | exact k _ s' a' w' q r'
  exact key n s a w h r

/-! ### both sides of the tests that stand open -/
def bindL (f : St → Option (List (X × St))) : List (X × St) → Option (List (X × St))
  | [] => some []
  | (x, s) :: r => match bindL f r with
    | some tl => match x with
      | .normal => match f s with
        | some l => some (l ++ tl)
        | none => none
      | x => some ((x, s) :: tl)
    | none => none

def outL (i : Nat) : List (X × St) → List (X × St)
  | [] => []
  | (x, s) :: r => match x with
    | .exit j => match Nat.beq j i with
      | true => (.normal, s) :: outL i r
      | false => (.exit j, s) :: outL i r
    | x => (x, s) :: outL i r

def openT (unk : Nat → Bool) : Operand → Bool
  | .tmp t => unk t
  | _ => false

def execT (P : Program) (cf : CallF) (F : Nat) (unk : Nat → Bool) : Code → St → Option (List (X × St))
  | .seq a b, s => match execT P cf F unk a s with
    | some l => bindL (execT P cf F unk b) l
    | none => none
  | .cond c a b, s => match opd s.fr c with
    | some (.bool t) => match openT unk c with
      | true => match execT P cf F unk a s with
        | some l1 => match execT P cf F unk b s with
          | some l2 => some (l1 ++ l2)
          | none => none
        | none => none
      | false => match t with
        | true => execT P cf F unk a s
        | false => execT P cf F unk b s
    | _ => none
  | .block i c, s => match execT P cf F unk c s with
    | some l => some (outL i l)
    | none => none
  | c, s => match exec P cf F c s with
    | some r => some [r]
    | none => none

def AllQ (Q : Exit → St → Prop) (l : List (X × St)) : Prop := ∀ p ∈ l, ∃ y, p.1.plain = some y ∧ Q y p.2

theorem T_exec1 (hcf : CallOk P cf) (hm : P.follows .mixedOrders = true) (hc : codeOk N c = true) {l : List (X × St)} (e : (match exec P cf F c s with | some r => some [r] | none => none) = some l) (hq : AllQ Q l) : T P N w0 c s Q := by
  split at e
  · rename_i r hr
    simp only [Option.some.injEq] at e; subst e
    obtain ⟨y, h1, h2⟩ := hq r (by simp)
    exact T_exec (x := r.1) (s' := r.2) hcf hm hc hr h1 h2
  · cases e

theorem bindL_all {f : St → Option (List (X × St))} {Q : Exit → St → Prop} {R : St → Prop} (hf : ∀ s l, f s = some l → AllQ Q l → R s) : ∀ (l l2 : List (X × St)), bindL f l = some l2 → AllQ Q l2 → AllQ (andThen R Q) l
  | [], _, _, _ => fun p hp => by simp at hp
  | (x, s) :: r, l2, e, hq => by
    simp only [bindL] at e
    split at e
    · rename_i tl htl
      cases x with
      | normal =>
        simp only at e
        split at e
        · rename_i l hl
          simp only [Option.some.injEq] at e; subst e
          intro p hp
          simp only [List.mem_cons] at hp
          rcases hp with rfl | hp
          · exact ⟨.normal, rfl, hf s l hl fun q hq' => hq q (by simp [hq'])⟩
          · exact bindL_all hf r tl htl (fun q hq' => hq q (by simp [hq'])) p hp
        · cases e
      | exit i =>
        simp only [Option.some.injEq] at e; subst e
        intro p hp
        simp only [List.mem_cons] at hp
        rcases hp with rfl | hp
        · obtain ⟨y, h1, h2⟩ := hq (.exit i, s) (by simp)
          simp only [X.plain, Option.some.injEq] at h1; subst h1
          exact ⟨.exit i, rfl, h2⟩
        · exact bindL_all hf r tl htl (fun q hq' => hq q (by simp [hq'])) p hp
      | ret =>
        simp only [Option.some.injEq] at e; subst e
        intro p hp
        simp only [List.mem_cons] at hp
        rcases hp with rfl | hp
        · obtain ⟨y, h1, h2⟩ := hq (.ret, s) (by simp)
          simp only [X.plain, Option.some.injEq] at h1; subst h1
          exact ⟨.ret, rfl, h2⟩
        · exact bindL_all hf r tl htl (fun q hq' => hq q (by simp [hq'])) p hp
      | panic v =>
        simp only [Option.some.injEq] at e; subst e
        obtain ⟨y, h1, h2⟩ := hq (.panic v, s) (by simp)
        simp [X.plain] at h1
    · cases e

theorem outL_all {i : Nat} : ∀ (l : List (X × St)), AllQ Q (outL i l) → AllQ (outOf i Q) l
  | [], _ => fun p hp => by simp at hp
  | (x, s) :: r, hq => by
    intro p hp
    simp only [List.mem_cons] at hp
    cases x with
    | exit j =>
      simp only [outL] at hq
      split at hq
      · rename_i hb
        rcases hp with rfl | hp
        · obtain ⟨y, h1, h2⟩ := hq (.normal, s) (by simp)
          simp only [X.plain, Option.some.injEq] at h1; subst h1
          exact ⟨.exit j, rfl, by simp only [outOf, Nat.eq_of_beq_eq_true hb, if_true]; exact h2⟩
        · exact outL_all r (fun q hq' => hq q (by simp [hq'])) p hp
      · rename_i hb
        rcases hp with rfl | hp
        · obtain ⟨y, h1, h2⟩ := hq (.exit j, s) (by simp)
          simp only [X.plain, Option.some.injEq] at h1; subst h1
          refine ⟨.exit j, rfl, ?_⟩
          simp only [outOf]
          rw [if_neg (by intro h; subst h; simp at hb)]
          exact h2
        · exact outL_all r (fun q hq' => hq q (by simp [hq'])) p hp
    | normal =>
      simp only [outL] at hq
      rcases hp with rfl | hp
      · obtain ⟨y, h1, h2⟩ := hq (.normal, s) (by simp)
        simp only [X.plain, Option.some.injEq] at h1; subst h1
        exact ⟨.normal, rfl, h2⟩
      · exact outL_all r (fun q hq' => hq q (by simp [hq'])) p hp
    | ret =>
      simp only [outL] at hq
      rcases hp with rfl | hp
      · obtain ⟨y, h1, h2⟩ := hq (.ret, s) (by simp)
        simp only [X.plain, Option.some.injEq] at h1; subst h1
        exact ⟨.ret, rfl, h2⟩
      · exact outL_all r (fun q hq' => hq q (by simp [hq'])) p hp
    | panic v =>
      simp only [outL] at hq
      obtain ⟨y, h1, _⟩ := hq (.panic v, s) (by simp)
      simp [X.plain] at h1

theorem T_execT (hcf : CallOk P cf) (hm : P.follows .mixedOrders = true) {unk : Nat → Bool} : ∀ (c : Code) (s : St) (l : List (X × St)) (Q : Exit → St → Prop), codeOk N c = true → execT P cf F unk c s = some l → AllQ Q l → T P N w0 c s Q := by
  intro c
  induction c with
  | seq a b iha ihb =>
    intro s l Q hok e hq
    simp only [codeOk, Bool.and_eq_true] at hok
    simp only [execT] at e
    split at e
    · rename_i l1 h1
      exact T_seq (iha s l1 _ hok.1 h1 (bindL_all (fun s l hl hq => ihb s l Q hok.2 hl hq) l1 l e hq))
    · cases e
  | cond c a b iha ihb =>
    intro s l Q hok e hq
    simp only [codeOk, Bool.and_eq_true] at hok
    simp only [execT] at e
    split at e
    · rename_i t ho
      split at e
      · split at e
        · rename_i l1 h1
          split at e
          · rename_i l2 h2
            simp only [Option.some.injEq] at e; subst e
            exact T_cond rfl ho (fun _ => iha s l1 Q hok.1 h1 fun p hp => hq p (by simp [hp])) (fun _ => ihb s l2 Q hok.2 h2 fun p hp => hq p (by simp [hp]))
          · cases e
        · cases e
      · cases t with
        | true => exact T_cond rfl ho (fun _ => iha s l Q hok.1 e hq) (fun h => by cases h)
        | false => exact T_cond rfl ho (fun h => by cases h) (fun _ => ihb s l Q hok.2 e hq)
    · cases e
  | block i c ih =>
    intro s l Q hok e hq
    simp only [codeOk] at hok
    simp only [execT] at e
    split at e
    · rename_i l1 h1
      simp only [Option.some.injEq] at e; subst e
      exact T_block (i := i) (by simp [isBlock]) (ih s l1 _ hok h1 (outL_all l1 hq))
    · cases e
  | _ => intro s l Q hok e hq; exact T_exec1 (F := F) hcf hm hok e hq

theorem T_head (hcf : CallOk P cf) (hm : P.follows .mixedOrders = true) {unk : Nat → Bool} : ∀ (k : Nat) {c : Code} {s : St} {l : List (X × St)} {Q : Exit → St → Prop}, codeOk N c = true → execT P cf F unk (headN k c) s = some l →
    AllQ (andThen (fun s' => T P N w0 (tailN k c) s' Q) Q) l → T P N w0 c s Q := by
  have skipCase : ∀ {c : Code} {s : St} {l : List (X × St)} {Q : Exit → St → Prop}, execT P cf F unk .skip s = some l → AllQ (andThen (fun s' => T P N w0 c s' Q) Q) l → T P N w0 c s Q := by
    intro c s l Q e hq
    simp only [execT, exec, Option.some.injEq] at e; subst e
    obtain ⟨y, h1, h2⟩ := hq (.normal, s) (by simp)
    simp only [X.plain, Option.some.injEq] at h1; subst h1
    exact h2
  intro k
  induction k with
  | zero => intro c s l Q _ e hq; cases c <;> exact skipCase e hq
  | succ k ih =>
    intro c s l Q hok e hq
    cases c <;> first | exact skipCase e hq | skip
    rename_i c1 c2
    simp only [codeOk, Bool.and_eq_true] at hok
    simp only [headN, execT] at e
    split at e
    · rename_i l1 h1
      have hall := bindL_all (R := fun s' => T P N w0 c2 s' Q) (fun s l hl hq => ih hok.2 hl hq) l1 l e hq
      exact T_seq (T_execT hcf hm c1 s l1 _ hok.1 h1 fun p hp => let ⟨y, k1, k2⟩ := hall p hp; ⟨y, k1, by cases y <;> exact k2⟩)
    · cases e

/-! ### a state with open values laid over -/
def ov : List (Nat × V) → Tr V → Tr V
  | [], t => t
  | x :: r, t => (ov r t).set x.1 (some x.2)

def St.over (s : St) (l : List (Nat × V)) : St := { s with fr := ov l s.fr }

theorem ov_get {l : List (Nat × V)} {t : Tr V} (hl : ∀ x ∈ l, x.1 < top) : ∀ {k : Nat} {v : V}, (ov l t).get k = some v → (k, v) ∈ l ∨ t.get k = some v := by
  induction l with
  | nil => intro k v h; exact .inr h
  | cons x r ih =>
    intro k v h
    simp only [ov] at h
    rw [Tr.get_set _ _ _ (hl x (by simp))] at h
    split at h
    · rename_i hk
      simp only [Option.some.injEq] at h
      left; rw [hk, ← h]; simp
    · rcases ih (fun y hy => hl y (by simp [hy])) h with h | h
      · exact .inl (by simp [h])
      · exact .inr h

theorem run0_over {a : Act} {w : World} {live : List Nat} {s2 : St} {l : List (Nat × V)} (hl : ∀ x ∈ l, x.1 < top) (hf : ∀ x ∈ l, x.2.free = true) (hg : ∀ x ∈ l, s.fr.get x.1 = some x.2) (e : norm live s = some s2) (r : Run0 N w0 s a w) : Run0 N w0 (s2.over l) a w := by
  obtain ⟨E, r1, _⟩ := id r
  obtain ⟨E2, r2, u2⟩ := norm_sound e r
  refine ⟨E2, ⟨r2.good, r2.dom, ?_, r2.size, r2.dfs⟩, u2⟩
  intro k v hk
  rcases ov_get hl hk with h | h
  · obtain ⟨v', h1, h2⟩ := r1.fr k v (hg _ h)
    exact ⟨v', h1, free_rel v v' (hf _ h) h2⟩
  · exact r2.fr k v h

/-! ### equality of states, as a test -/
def Tr.beq {α : Type} (eq : α → α → Bool) : Tr α → Tr α → Bool
  | .nil, .nil => true
  | .node a l r, .node b l' r' => (match a, b with | none, none => true | some a, some b => eq a b | _, _ => false) && (Tr.beq eq l l' && Tr.beq eq r r')
  | _, _ => false

theorem Tr.beq_eq {α : Type} {eq : α → α → Bool} (h : ∀ a b, eq a b = true → a = b) : ∀ (t u : Tr α), Tr.beq eq t u = true → t = u
  | .nil, .nil, _ => rfl
  | .nil, .node _ _ _, e => by simp [Tr.beq] at e
  | .node _ _ _, .nil, e => by simp [Tr.beq] at e
  | .node a l r, .node b l' r', e => by
    simp only [Tr.beq, Bool.and_eq_true] at e
    rw [Tr.beq_eq h l l' e.2.1, Tr.beq_eq h r r' e.2.2]
    cases a <;> cases b <;> first | rfl | (simp at e; done) | skip
    rw [h _ _ e.1]

def entsBeq : List (V × V × Nat) → List (V × V × Nat) → Bool
  | [], [] => true
  | x :: xs, y :: ys => (V.beq x.1 y.1 && V.beq x.2.1 y.2.1) && (Nat.beq x.2.2 y.2.2 && entsBeq xs ys)
  | _, _ => false

theorem entsBeq_eq : ∀ (a b : List (V × V × Nat)), entsBeq a b = true → a = b
  | [], [], _ => rfl
  | [], _ :: _, h => by simp [entsBeq] at h
  | _ :: _, [], h => by simp [entsBeq] at h
  | (k, v, n) :: xs, (k', v', n') :: ys, h => by
    simp only [entsBeq, Bool.and_eq_true] at h
    rw [beq_eq _ _ h.1.1, beq_eq _ _ h.1.2, Nat.eq_of_beq_eq_true h.2.1, entsBeq_eq xs ys h.2.2]

def O.beq : O → O → Bool
  | .cells a, .cells b => V.beqs a b
  | .map a c, .map b d => entsBeq a b && Nat.beq c d
  | .siter a p, .siter b q => beqB a b && Nat.beq p q
  | .ints k a, .ints j b => decide (k = j) && decide (a = b)
  | _, _ => false

theorem O.beq_eq (a b : O) (h : O.beq a b = true) : a = b := by
  cases a <;> cases b <;> simp only [O.beq, Bool.false_eq_true, Bool.and_eq_true] at h
  · rw [beqs_eq _ _ h]
  · rw [entsBeq_eq _ _ h.1, Nat.eq_of_beq_eq_true h.2]
  · rw [beqB_eq] at h; rw [eq_of_beq h.1, Nat.eq_of_beq_eq_true h.2]
  · rw [of_decide_eq_true h.1, of_decide_eq_true h.2]

def St.beq (a b : St) : Bool := Tr.beq V.beq a.fr b.fr && (Tr.beq O.beq a.h b.h && (Nat.beq a.n b.n && (a.dfs.isEmpty && b.dfs.isEmpty)))

theorem St.beq_eq {a b : St} (h : St.beq a b = true) : a = b := by
  simp only [St.beq, Bool.and_eq_true, List.isEmpty_iff] at h
  obtain ⟨h1, h2, h3, h4, h5⟩ := h
  have e1 := Tr.beq_eq Go.Eng.beq_eq _ _ h1
  have e2 := Tr.beq_eq O.beq_eq _ _ h2
  have e3 := Nat.eq_of_beq_eq_true h3
  cases a; cases b
  simp_all

/-- do all ends come, afresh, to the one state? -/
def sameEnds (live : List Nat) (t : St) : List (X × St) → Bool
  | [] => true
  | (.normal, s) :: r => match norm live s with
    | some s2 => match St.beq s2 t with
      | true => sameEnds live t r
      | false => false
    | none => false
  | _ => false

def goT (P : Program) (cf : CallF) (F : Nat) (unk : Nat → Bool) (live ks : List Nat) (c : Code) (s t : St) : Option (List (List (Option V))) :=
  match execT P cf F unk c s with
  | some l => match sameEnds live t l with
    | true => some (l.map fun p => ks.map p.2.fr.get)
    | false => none
  | none => none

theorem sameEnds_spec {live : List Nat} {t : St} : ∀ {l : List (X × St)}, sameEnds live t l = true → ∀ p ∈ l, p.1 = .normal ∧ norm live p.2 = some t
  | [], _, p, hp => by simp at hp
  | (x, s) :: r, h, p, hp => by
    cases x <;> simp only [sameEnds, Bool.false_eq_true] at h
    split at h
    · rename_i s2 hs2
      split at h
      · rename_i hb
        simp only [List.mem_cons] at hp
        rcases hp with rfl | hp
        · exact ⟨rfl, by rw [hs2, St.beq_eq hb]⟩
        · exact sameEnds_spec h p hp
      · cases h
    · cases h

theorem T_over {live : List Nat} {l : List (Nat × V)} {t : St} (hl : ∀ x ∈ l, x.1 < top) (hf : ∀ x ∈ l, x.2.free = true) (hn : norm live s = some t) (hg : ∀ x ∈ l, s.fr.get x.1 = some x.2) (h : T P N w0 c (t.over l) Q) : T P N w0 c s Q :=
  fun K a w r k => h K a w (run0_over hl hf hg hn r) k

theorem goT_spec {unk : Nat → Bool} {live : List Nat} {l : List (Nat × V)} {r : List (List (Option V))} {t : St} (e : goT P cf F unk live (l.map (·.1)) c s t = some r) (hr : ∀ x ∈ r, x = l.map fun y => some y.2) :
    ∃ ends, execT P cf F unk c s = some ends ∧ ∀ p ∈ ends, p.1 = .normal ∧ norm live p.2 = some t ∧ ∀ x ∈ l, p.2.fr.get x.1 = some x.2 := by
  unfold goT at e
  split at e
  · rename_i ends he
    split at e
    · rename_i hs
      simp only [Option.some.injEq] at e
      refine ⟨ends, he, fun p hp => ?_⟩
      obtain ⟨h1, h2⟩ := sameEnds_spec hs p hp
      refine ⟨h1, h2, ?_⟩
      have := hr _ (by rw [← e]; exact List.mem_map_of_mem hp)
      rw [List.map_map] at this
      intro x hx
      exact List.map_inj_left.1 this x hx
    · cases e
  · cases e

/-- a piece whose ends all come to the one state -/
theorem T_go (hcf : CallOk P cf) (hm : P.follows .mixedOrders = true) {unk : Nat → Bool} {live : List Nat} {l : List (Nat × V)} {r : List (List (Option V))} {t : St} (hl : ∀ x ∈ l, x.1 < top) (hf : ∀ x ∈ l, x.2.free = true) (hc : codeOk N c = true)
    (e : goT P cf F unk live (l.map (·.1)) c s t = some r) (hr : ∀ x ∈ r, x = l.map fun y => some y.2) (hq : Q .normal (t.over l)) : T P N w0 c s Q := by
  obtain ⟨ends, he, ha⟩ := goT_spec e hr
  intro K a w r0 k
  refine T_execT hcf hm c s ends (fun y s' => y = .normal ∧ norm live s' = some t ∧ ∀ x ∈ l, s'.fr.get x.1 = some x.2) hc he ?_ K a w r0 ?_
  · intro p hp
    obtain ⟨h1, h2⟩ := ha p hp
    exact ⟨.normal, by rw [h1]; rfl, rfl, h2⟩
  · intro y s' a' w' ⟨hy, hn, hg⟩ r'
    subst hy
    exact k _ _ a' w' hq (run0_over hl hf hg hn r')

/-- the like for the first so many pieces -/
theorem T_goHead (k : Nat) (hcf : CallOk P cf) (hm : P.follows .mixedOrders = true) {unk : Nat → Bool} {live : List Nat} {l : List (Nat × V)} {r : List (List (Option V))} {t : St} (hl : ∀ x ∈ l, x.1 < top) (hf : ∀ x ∈ l, x.2.free = true) (hc : codeOk N c = true)
    (e : goT P cf F unk live (l.map (·.1)) (headN k c) s t = some r) (hr : ∀ x ∈ r, x = l.map fun y => some y.2) (hq : T P N w0 (tailN k c) (t.over l) Q) : T P N w0 c s Q := by
  obtain ⟨ends, he, ha⟩ := goT_spec e hr
  refine T_head hcf hm k hc he fun p hp => ?_
  obtain ⟨h1, h2, h3⟩ := ha p hp
  exact ⟨.normal, by rw [h1]; rfl, T_over hl hf h2 h3 hq⟩

/-! ### the like, where one cell stands open too -/
def St.cell (s : St) (m i : Nat) (v : V) : St := match s.h.get m with
  | some (.cells cs) => match Nat.blt m top with
    | true => { s with h := s.h.set m (some (.cells (cs.set i v))) }
    | false => s
  | _ => s

def St.cellAt (s : St) (m i : Nat) : Option V := match s.h.get m with
  | some (.cells cs) => match Nat.blt m top with
    | true => cs[i]?
    | false => none
  | _ => none

theorem run0_ext {a : Act} {w : World} (hfr : s'.fr = s.fr) (hh : ∀ k, s'.h.get k = s.h.get k) (hn : s'.n = s.n) (hd : s'.dfs = s.dfs) (r : Run0 N w0 s a w) : Run0 N w0 s' a w := by
  obtain ⟨E, r1, u⟩ := r
  have g : Good E s'.h w := r1.good.sub fun m o h => by rw [← hh]; exact h
  exact ⟨E, ⟨g, by rw [hn]; exact r1.dom, by rw [hfr]; exact r1.fr, r1.size, by rw [hd]; exact r1.dfs⟩,
    ⟨g, u.size, u.tape, u.os, u.output, u.keep, fun m b s1 hm => u.img m b s1 (wlive_of (hh m) hm)⟩⟩

theorem cell_self {s : St} {m i : Nat} {v z : V} (h : s.cellAt m i = some v) : (∀ k, ((s.cell m i z).cell m i v).h.get k = s.h.get k) ∧ ((s.cell m i z).cell m i v).fr = s.fr ∧ ((s.cell m i z).cell m i v).n = s.n ∧ ((s.cell m i z).cell m i v).dfs = s.dfs := by
  unfold St.cellAt at h
  split at h
  · rename_i cs hc
    split at h
    · rename_i hb
      have hlt : m < top := by simp [Nat.blt] at hb; omega
      have e1 : s.cell m i z = { s with h := s.h.set m (some (.cells (cs.set i z))) } := by simp only [St.cell, hc, hb]
      have e2 : (s.cell m i z).cell m i v = { s with h := (s.h.set m (some (.cells (cs.set i z)))).set m (some (.cells ((cs.set i z).set i v))) } := by
        rw [e1]; simp only [St.cell, Tr.get_set_same _ _ hlt, hb]
      rw [e2]
      refine ⟨fun k => ?_, rfl, rfl, rfl⟩
      show ((s.h.set m _).set m _).get k = _
      by_cases hk : k = m
      · subst hk
        rw [Tr.get_set_same _ _ hlt, hc, List.set_set]
        congr 2
        refine List.ext_getElem? fun j => ?_
        rw [List.getElem?_set]
        split
        · rename_i hj; subst hj
          split
          · exact h.symm
          · rename_i hj; rw [List.getElem?_eq_none (by omega)] at h; cases h
        · rfl
      · rw [Tr.get_set_ne _ _ hlt hk, Tr.get_set_ne _ _ hlt hk]
    · cases h
  · cases h

def sameEndsC (live : List Nat) (m i : Nat) (z : V) (t : St) : List (X × St) → Option (List (Option V))
  | [] => some []
  | (.normal, s) :: r => match norm live s with
    | some s2 => match St.beq (s2.cell m i z) t with
      | true => match sameEndsC live m i z t r with
        | some l => some (s2.cellAt m i :: l)
        | none => none
      | false => none
    | none => none
  | _ => none

def goC (P : Program) (cf : CallF) (F : Nat) (unk : Nat → Bool) (live ks : List Nat) (m i : Nat) (z : V) (c : Code) (s t : St) : Option (List (List (Option V)) × List (Option V)) :=
  match execT P cf F unk c s with
  | some l => match sameEndsC live m i z t l with
    | some cells => some (l.map fun p => ks.map p.2.fr.get, cells)
    | none => none
  | none => none

theorem sameEndsC_spec {live : List Nat} {m i : Nat} {z : V} {t : St} {C : V → Prop} : ∀ {l : List (X × St)} {cells : List (Option V)}, sameEndsC live m i z t l = some cells → (∀ x ∈ cells, ∃ v, x = some v ∧ C v) →
    ∀ p ∈ l, p.1 = .normal ∧ ∃ s2 v, norm live p.2 = some s2 ∧ s2.cell m i z = t ∧ s2.cellAt m i = some v ∧ C v
  | [], _, _, _, p, hp => by simp at hp
  | (x, s) :: r, cells, h, hc, p, hp => by
    cases x <;> simp only [sameEndsC, reduceCtorEq] at h
    split at h
    · rename_i s2 hs2
      split at h
      · rename_i hb
        split at h
        · rename_i l hl
          simp only [Option.some.injEq] at h; subst h
          simp only [List.mem_cons] at hp
          rcases hp with rfl | hp
          · obtain ⟨v, h1, h2⟩ := hc (s2.cellAt m i) (by simp)
            exact ⟨rfl, s2, v, hs2, St.beq_eq hb, h1, h2⟩
          · exact sameEndsC_spec hl (fun x hx => hc x (by simp [hx])) p hp
        · cases h
      · cases h
    · cases h

theorem goC_spec {unk : Nat → Bool} {live : List Nat} {l : List (Nat × V)} {m i : Nat} {z : V} {r : List (List (Option V))} {cells : List (Option V)} {t : St} {C : V → Prop} (e : goC P cf F unk live (l.map (·.1)) m i z c s t = some (r, cells)) (hr : ∀ x ∈ r, x = l.map fun y => some y.2) (hcs : ∀ x ∈ cells, ∃ v, x = some v ∧ C v) :
    ∃ ends, execT P cf F unk c s = some ends ∧ ∀ p ∈ ends, p.1 = .normal ∧ (∃ s2 v, norm live p.2 = some s2 ∧ s2.cell m i z = t ∧ s2.cellAt m i = some v ∧ C v) ∧ ∀ x ∈ l, p.2.fr.get x.1 = some x.2 := by
  unfold goC at e
  split at e
  · rename_i ends he
    split at e
    · rename_i cells' hs
      simp only [Option.some.injEq, Prod.mk.injEq] at e
      obtain ⟨e1, rfl⟩ := e
      refine ⟨ends, he, fun p hp => ?_⟩
      obtain ⟨h1, h2⟩ := sameEndsC_spec hs hcs p hp
      refine ⟨h1, h2, ?_⟩
      have := hr _ (by rw [← e1]; exact List.mem_map_of_mem hp)
      rw [List.map_map] at this
      intro x hx
      exact List.map_inj_left.1 this x hx
    · cases e
  · cases e

theorem run0_overC {a : Act} {w : World} {live : List Nat} {s2 t : St} {m i : Nat} {z v : V} {l : List (Nat × V)} (hl : ∀ x ∈ l, x.1 < top) (hf : ∀ x ∈ l, x.2.free = true) (hg : ∀ x ∈ l, s.fr.get x.1 = some x.2) (e : norm live s = some s2) (ht : s2.cell m i z = t) (hv : s2.cellAt m i = some v) (r : Run0 N w0 s a w) :
    Run0 N w0 ((t.cell m i v).over l) a w := by
  have h := run0_over hl hf hg e r
  subst ht
  obtain ⟨k1, k2, k3, k4⟩ := cell_self (z := z) hv
  exact run0_ext (s := s2.over l) (by simp only [St.over, k2]) k1 k3 k4 h

theorem T_goC (hcf : CallOk P cf) (hm : P.follows .mixedOrders = true) {unk : Nat → Bool} {live : List Nat} {l : List (Nat × V)} {m i : Nat} {z : V} {r : List (List (Option V))} {cells : List (Option V)} {t : St} {C : V → Prop} (hl : ∀ x ∈ l, x.1 < top) (hf : ∀ x ∈ l, x.2.free = true) (hc : codeOk N c = true)
    (e : goC P cf F unk live (l.map (·.1)) m i z c s t = some (r, cells)) (hr : ∀ x ∈ r, x = l.map fun y => some y.2) (hcs : ∀ x ∈ cells, ∃ v, x = some v ∧ C v) (hq : ∀ v, C v → Q .normal ((t.cell m i v).over l)) : T P N w0 c s Q := by
  obtain ⟨ends, he, ha⟩ := goC_spec e hr hcs
  intro K a w r0 k
  refine T_execT hcf hm c s ends (fun y s' => y = .normal ∧ (∃ s2 v, norm live s' = some s2 ∧ s2.cell m i z = t ∧ s2.cellAt m i = some v ∧ C v) ∧ ∀ x ∈ l, s'.fr.get x.1 = some x.2) hc he ?_ K a w r0 ?_
  · intro p hp
    obtain ⟨h1, h2⟩ := ha p hp
    exact ⟨.normal, by rw [h1]; rfl, rfl, h2⟩
  · intro y s' a' w' ⟨hy, ⟨s2, v, h1, h2, h3, h4⟩, hg⟩ r'
    subst hy
    exact k _ _ a' w' (hq v h4) (run0_overC hl hf hg h1 h2 h3 r')

theorem T_goHeadC (k : Nat) (hcf : CallOk P cf) (hm : P.follows .mixedOrders = true) {unk : Nat → Bool} {live : List Nat} {l : List (Nat × V)} {m i : Nat} {z : V} {r : List (List (Option V))} {cells : List (Option V)} {t : St} {C : V → Prop} (hl : ∀ x ∈ l, x.1 < top) (hf : ∀ x ∈ l, x.2.free = true) (hc : codeOk N c = true)
    (e : goC P cf F unk live (l.map (·.1)) m i z (headN k c) s t = some (r, cells)) (hr : ∀ x ∈ r, x = l.map fun y => some y.2) (hcs : ∀ x ∈ cells, ∃ v, x = some v ∧ C v) (hq : ∀ v, C v → T P N w0 (tailN k c) ((t.cell m i v).over l) Q) : T P N w0 c s Q := by
  obtain ⟨ends, he, ha⟩ := goC_spec e hr hcs
  refine T_head hcf hm k hc he fun p hp => ?_
  obtain ⟨h1, ⟨s2, v, k1, k2, k3, k4⟩, h3⟩ := ha p hp
  exact ⟨.normal, by rw [h1]; rfl, fun K a w r0 k' => hq v k4 K a w (run0_overC hl hf h3 k1 k2 k3 r0) k'⟩

/-- a call, from its code, where some rows of memory are read -/
theorem calls_of_TE (hm : P.follows .mixedOrders = true) (hpo : progOk P = true) (hcf : CallOk P cf) {f : FuncId} {fn : Func} {code : Code} (hf : P.funcs[f]? = some fn) (hb : fn.body = some code) {args : List V} {args' : List Value} {w : World} {v : V} {E1 : Env} {h1 : Tr O} {n1 : Nat}
    (g : Good E1 h1 w) (hd : Dom E1 n1) (hro : ∀ m, ¬ wlive h1 m) (ra : vrels E1 args args') (l1 : args.length ≤ fn.ntmps) (l2 : fn.ntmps < top)
    (h : T P fn.ntmps w code { fr := frameOf args 0 .nil, h := h1, n := n1, dfs := [] } (fun y s' => (y = .normal ∨ y = .ret) ∧ ∃ h' n', leave P cf F fn s'.fr s'.dfs .ret s'.h s'.n = some (.ret v, h', n'))) :
    Calls P f args'.toArray w fun e w' => (∃ E, outrel E (.ret v) e) ∧ Below w.heap.size w w' := by
  obtain ⟨hfr, hsz⟩ := frel_enter (n := fn.ntmps) ra l1 l2
  refine callsIn_wide.1 (callsIn_of_wp_marks (n := 0) hf hb trivial (wpIn_wide.2 ?_))
  refine h _ _ w ⟨E1, ⟨g, hd, hfr, hsz, rfl⟩, Upd0.init g hro⟩ fun y s' a' w' ⟨hy, h', n', hl⟩ r => ?_
  have key : LeavesInM Fence.wide 0 P fn a'.tmps (fun e w' => (∃ E, outrel E (.ret v) e) ∧ Below w.heap.size w w') a'.defers .returning w' := by
    obtain ⟨E, sr, u⟩ := r
    exact leave_sound hcf hm hpo s'.dfs .ret s'.h s'.n _ h' n' hl E w' a'.defers .returning _ sr.good sr.dom sr.fr sr.dfs trivial fun E2 w2 en u2 hlow2 hd2 hn2 ho => ⟨⟨E2, ho⟩, (u.trans u2).below⟩
  rcases hy with rfl | rfl <;> exact key

/-- a call, from its code -/
theorem calls_of_T (hm : P.follows .mixedOrders = true) (hpo : progOk P = true) (hcf : CallOk P cf) {f : FuncId} {fn : Func} {code : Code} (hf : P.funcs[f]? = some fn) (hb : fn.body = some code) {args : List V} {args' : List Value} {w : World} {v : V} (ra : vrels E0 args args') (h1 : args.length ≤ fn.ntmps) (h2 : fn.ntmps < top)
    (h : T P fn.ntmps w code { fr := frameOf args 0 .nil, h := .nil, n := 0, dfs := [] } (fun y s' => (y = .normal ∨ y = .ret) ∧ ∃ h' n', leave P cf F fn s'.fr s'.dfs .ret s'.h s'.n = some (.ret v, h', n'))) :
    Calls P f args'.toArray w fun e w' => (∃ E, outrel E (.ret v) e) ∧ Below w.heap.size w w' :=
  calls_of_TE hm hpo hcf hf hb (good0 w) (dom0 0) (fun m k => absurd rfl k.live) ra h1 h2 h
end
end Go.Eng

/- The engine, part V: draws in which some results are given by hand. No conditions: lemmas alone. -/
namespace Go.Eng
open Go Go.RowKit

/-! is the test of equality reflexive at it? (it is not at the functions that the evaluator does not take) -/
mutual
def V.plainFn : V → Bool
  | .fn (.func _) a c => V.plainFns a && V.plainFns c
  | .fn _ _ _ => false
  | .iface _ x => V.plainFn x
  | .agg cs => V.plainFns cs
  | .tup cs => V.plainFns cs
  | _ => true
def V.plainFns : List V → Bool
  | [] => true
  | x :: xs => V.plainFn x && V.plainFns xs
end

mutual
theorem V.beq_refl : ∀ v : V, v.plainFn = true → V.beq v v = true
  | .bool b, _ => by cases b <;> rfl
  | .int k n, _ => by simp [V.beq]
  | .str s, _ => by simp [V.beq, beqB_eq]
  | .ptr none, _ => rfl
  | .ptr (some (m, o)), _ => by simp [V.beq, beqAddr]
  | .slc none l c e, _ => by simp [V.beq, beqAddr]
  | .slc (some (m, o)) l c e, _ => by simp [V.beq, beqAddr]
  | .map none, _ => rfl
  | .map (some m), _ => by simp [V.beq, beqNat?]
  | .fn f a c, h => by
    cases f <;> simp only [V.plainFn, Bool.false_eq_true, Bool.and_eq_true] at h
    simp [V.beq, beqFn, V.beqs_refl a h.1, V.beqs_refl c h.2]
  | .nilFn, _ => rfl
  | .iface t x, h => by simp only [V.plainFn] at h; simp [V.beq, V.beq_refl x h]
  | .nilIface, _ => rfl
  | .agg cs, h => by simp only [V.plainFn] at h; simp [V.beq, V.beqs_refl cs h]
  | .tup cs, h => by simp only [V.plainFn] at h; simp [V.beq, V.beqs_refl cs h]
theorem V.beqs_refl : ∀ vs : List V, V.plainFns vs = true → V.beqs vs vs = true
  | [], _ => rfl
  | x :: xs, h => by simp only [V.plainFns, Bool.and_eq_true] at h; simp [V.beqs, V.beq_refl x h.1, V.beqs_refl xs h.2]
end

/-- what is to be shown beside a run: that two values are one, or what a call gives -/
inductive Ob where
  | same (a b : V)
  | call (f : FuncId) (args : List V) (v : V)

def Ob.ok (cf : CallF) : Ob → Prop
  | .same a b => a = b
  | .call f args v => ∀ h n, cf f args h n = some (.ret v, h, n)

def strEq (op : Op) (fr : Tr V) : Option (List UInt8 × List UInt8) :=
  match op with
  | .binOp .eql _ x y _ => match opd fr x, opd fr y with
    | some (.str a), some (.str b) => some (a, b)
    | _, _ => none
  | _ => none

def readPairs (P : Program) (n0 i : Nat) (o : Oper) (fr : Tr V) (v : V) (x : Tr O) : Option (List Ob) :=
  match stepOp P o fr x (n0 + i) with
  | some (.val u _ k) => match Nat.beq k (n0 + i) && v.plainFn with
    | true => some [.same u v]
    | false => none
  | _ => none

theorem readPairs_ok {P : Program} {cf : CallF} {n0 i : Nat} {o : Oper} {fr : Tr V} {v : V} {x : Tr O} {l : List Ob} (e : readPairs P n0 i o fr v x = some l) (h : ∀ p ∈ l, p.ok cf) : readsSame P n0 i o fr v x = true := by
  unfold readPairs at e
  unfold readsSame
  split at e
  · rename_i u h' k hs
    split at e
    · rename_i hb
      simp only [Option.some.injEq] at e; subst e
      simp only [Bool.and_eq_true] at hb
      have : u = v := h (.same u v) (by simp)
      subst this
      simp only [hs, hb.1, V.beq_refl u hb.2, Bool.and_self]
    · cases e
  · cases e

def histPairs (P : Program) (n0 i : Nat) (o : Oper) (fr : Tr V) (v : V) (allocs : List (Nat × O)) (anc : Nat) : List (Nat × Nat × Tr O) → Option (List Ob)
  | [] => some []
  | (e, m, x) :: r => match hasBit anc e with
    | true => some []
    | false => match readPairs P n0 i o fr v (view n0 allocs m x anc) with
      | some a => match histPairs P n0 i o fr v allocs anc r with
        | some b => some (a ++ b)
        | none => none
      | none => none

theorem histPairs_ok {P : Program} {cf : CallF} {n0 i : Nat} {o : Oper} {fr : Tr V} {v : V} {allocs : List (Nat × O)} {anc : Nat} : ∀ (hs : List (Nat × Nat × Tr O)) (l : List Ob), histPairs P n0 i o fr v allocs anc hs = some l → (∀ p ∈ l, p.ok cf) → histOk P n0 i o fr v allocs anc hs = true
  | [], _, _, _ => rfl
  | (e, m, x) :: r, l, h, hp => by
    simp only [histPairs] at h
    simp only [histOk]
    split at h
    · rename_i hb; rw [if_pos hb]
    · rename_i hb
      rw [if_neg (by simp [hb])]
      split at h
      · rename_i a ha
        split at h
        · rename_i b hb'
          simp only [Option.some.injEq] at h; subst h
          rw [readPairs_ok ha fun p hp' => hp p (by simp [hp']), histPairs_ok r b hb' fun p hp' => hp p (by simp [hp'])]
          rfl
        · cases h
      · cases h

def readsPairs (P : Program) (n0 : Nat) (allocs : List (Nat × O)) (m : Nat) (x : Tr O) : List (Nat × Nat × Oper × Tr V × V) → Option (List Ob)
  | [] => some []
  | (j, anc, o, fr, v) :: r => match readsPairs P n0 allocs m x r with
    | some b => match hasBit m j with
      | true => some b
      | false => match readPairs P n0 j o fr v (view n0 allocs m x anc) with
        | some a => some (a ++ b)
        | none => none
    | none => none

theorem readsPairs_ok {P : Program} {cf : CallF} {n0 : Nat} {allocs : List (Nat × O)} {m : Nat} {x : Tr O} : ∀ (rs : List (Nat × Nat × Oper × Tr V × V)) (l : List Ob), readsPairs P n0 allocs m x rs = some l → (∀ p ∈ l, p.ok cf) → readsOk P n0 allocs m x rs = true
  | [], _, _, _ => rfl
  | (j, anc, o, fr, v) :: r, l, h, hp => by
    simp only [readsPairs] at h
    simp only [readsOk]
    split at h
    · rename_i b hb
      split at h
      · rename_i hj
        simp only [Option.some.injEq] at h; subst h
        rw [hj, readsPairs_ok r b hb hp]; rfl
      · split at h
        · rename_i a ha
          simp only [Option.some.injEq] at h; subst h
          rw [readPairs_ok ha fun p hp' => hp p (by simp [hp']), readsPairs_ok r b hb fun p hp' => hp p (by simp [hp'])]
          simp
        · cases h
    · cases h

def afterH (P : Program) (n0 i anc : Nat) (o : Oper) (s : Dr) (v : V) (h : Tr O) (n : Nat) : Option (Dr × List Ob) :=
  match putD s.fr o.dst v with
  | some fr => match readsPairs P n0 s.allocs anc h s.reads with
    | some l => some ({ fr := fr, masks := s.masks ++ [anc], cur := (anc, h), hist := (i, s.cur.1, s.cur.2) :: s.hist, last := some i, allocs := s.allocs, reads := s.reads, n := n }, l)
    | none => none
  | none => none

theorem afterH_ok {P : Program} {cf : CallF} {n0 i anc : Nat} {o : Oper} {s s' : Dr} {v : V} {h : Tr O} {n : Nat} {l : List Ob} (e : afterH P n0 i anc o s v h n = some (s', l)) (hp : ∀ p ∈ l, p.ok cf) : afterEff P n0 i anc o s v h n = some s' := by
  unfold afterH at e
  unfold afterEff
  split at e
  · rename_i fr hfr
    split at e
    · rename_i l' hl
      simp only [Option.some.injEq, Prod.mk.injEq] at e
      obtain ⟨rfl, rfl⟩ := e
      simp only [hfr, readsPairs_ok _ _ hl hp, if_true]
    · cases e
  · cases e

def drawH (P : Program) (cf : CallF) (ops : Array Oper) (n0 i : Nat) (hint : Option V) (o : Oper) (s : Dr) : Option (Dr × List Ob) :=
  match wantedV ops o s.fr with
  | some false => match putD s.fr o.dst (.tup []) with
    | some fr => some ({ s with fr := fr, masks := s.masks ++ [maskOf s.masks o.after.toList] }, [])
    | none => none
  | some true =>
    match isEff o.op with
    | true => match lastOk (maskOf s.masks o.after.toList) s.last with
      | true => match stepOp P o s.fr (view n0 s.allocs s.cur.1 s.cur.2 (maskOf s.masks o.after.toList)) s.n with
        | some (.val v h n) => afterH P n0 i (maskOf s.masks o.after.toList) o s v h n
        | some (.call f args) => match hint with
          | some v => match afterH P n0 i (maskOf s.masks o.after.toList) o s v (view n0 s.allocs s.cur.1 s.cur.2 (maskOf s.masks o.after.toList)) s.n with
            | some (s', l) => some (s', .call f args v :: l)
            | none => none
          | none => match cf f args (view n0 s.allocs s.cur.1 s.cur.2 (maskOf s.masks o.after.toList)) s.n with
            | some (.ret v, h, n) => afterH P n0 i (maskOf s.masks o.after.toList) o s v h n
            | _ => none
        | _ => none
      | false => none
    | false => match hint with
      | some _ => match strEq o.op s.fr with
        | some (a, b) => match putD s.fr o.dst (.bool true) with
          | some fr => some ({ s with fr := fr, masks := s.masks ++ [maskOf s.masks o.after.toList] }, [.same (.str a) (.str b)])
          | none => none
        | none => none
      | none => match stepOp P o s.fr (view n0 s.allocs s.cur.1 s.cur.2 (maskOf s.masks o.after.toList)) (n0 + i) with
        | some (.val v h k) => match putD s.fr o.dst v with
          | some fr => match Nat.beq k (n0 + i) with
            | true => match isPure o.op with
              | true => some ({ s with fr := fr, masks := s.masks ++ [maskOf s.masks o.after.toList] }, [])
              | false => match histPairs P n0 i o s.fr v s.allocs (maskOf s.masks o.after.toList) s.hist with
                | some l => some ({ s with fr := fr, masks := s.masks ++ [maskOf s.masks o.after.toList], reads := (i, maskOf s.masks o.after.toList, o, s.fr, v) :: s.reads }, l)
                | none => none
            | false => match h.get (n0 + i) with
              | some b => if b.wr = true then some ({ s with fr := fr, masks := s.masks ++ [maskOf s.masks o.after.toList], allocs := (i, b) :: s.allocs }, []) else none
              | none => none
          | none => none
        | _ => none
  | none => none

theorem drawH_sound {P : Program} {cf cj : CallF} {ops : Array Oper} {n0 i : Nat} {hint : Option V} {o : Oper} {s s' : Dr} {obs : List Ob} (hle : ∀ f args h n r, cf f args h n = some r → cj f args h n = some r) (e : drawH P cf ops n0 i hint o s = some (s', obs)) (ho : ∀ x ∈ obs, x.ok cj) :
    drawOp P cj ops n0 i o s = some (.inl s') := by
  unfold drawH at e
  split at e
  · rename_i hw
    split at e
    · rename_i fr hfr
      simp only [Option.some.injEq, Prod.mk.injEq] at e
      obtain ⟨rfl, rfl⟩ := e
      unfold drawOp
      simp only [hw, hfr]
    · cases e
  · rename_i hw
    split at e
    · rename_i heff
      split at e
      · rename_i hl
        split at e
        · rename_i v h n hs
          unfold drawOp
          simp only [hw, heff, hl, if_true, hs, afterH_ok e ho]
        · rename_i f args hs
          split at e
          · rename_i v
            split at e
            · rename_i s1 l1 h1
              simp only [Option.some.injEq, Prod.mk.injEq] at e
              obtain ⟨rfl, rfl⟩ := e
              have hc : ∀ h n, cj f args h n = some (.ret v, h, n) := ho (.call f args v) (by simp)
              unfold drawOp
              simp only [hw, heff, hl, if_true, hs, hc, afterH_ok h1 fun p hp => ho p (by simp [hp])]
            · cases e
          · split at e
            · rename_i v h n hc
              unfold drawOp
              simp only [hw, heff, hl, if_true, hs, hle _ _ _ _ _ hc, afterH_ok e ho]
            · cases e
        · cases e
      · cases e
    · rename_i heff
      split at e
      · split at e
        · rename_i a b hs
          split at e
          · rename_i fr1 hp
            simp only [Option.some.injEq, Prod.mk.injEq] at e
            obtain ⟨rfl, rfl⟩ := e
            have hab : V.str a = V.str b := ho (.same (.str a) (.str b)) (by simp)
            simp only [V.str.injEq] at hab
            subst hab
            unfold strEq at hs
            split at hs
            · rename_i t x y g hop
              split at hs
              · rename_i a' b' hx hy
                simp only [Option.some.injEq, Prod.mk.injEq] at hs
                obtain ⟨rfl, rfl⟩ := hs
                have hst : ∀ (h : Tr O) (n : Nat), stepOp P o s.fr h n = some (.val (.bool true) h n) := by
                  intro h n
                  unfold stepOp
                  rw [hop]
                  simp only [hx, hy, binV, strOp, beqB_eq, beq_self_eq_true, okV]
                have hpure : isPure o.op = true := by rw [hop]; rfl
                unfold drawOp
                simp only [hw, heff, Bool.false_eq_true, if_false, hst, hp, hpure, if_true, Nat.beq_refl]
              · cases hs
            · cases hs
          · cases e
        · cases e
      · split at e
        · rename_i v h k hs
          split at e
          · rename_i fr hfr
            split at e
            · rename_i hk
              split at e
              · rename_i hpu
                simp only [Option.some.injEq, Prod.mk.injEq] at e
                obtain ⟨rfl, rfl⟩ := e
                unfold drawOp
                simp only [hw, heff, Bool.false_eq_true, if_false, hs, hfr, hk, hpu, if_true]
              · rename_i hpu
                split at e
                · rename_i l hl
                  simp only [Option.some.injEq, Prod.mk.injEq] at e
                  obtain ⟨rfl, rfl⟩ := e
                  unfold drawOp
                  simp only [hw, heff, Bool.false_eq_true, if_false, hs, hfr, hk, hpu, if_true, histPairs_ok _ _ hl ho]
                · cases e
            · rename_i hk
              split at e
              · rename_i b hb
                split at e
                case isFalse => cases e
                rename_i hwr
                simp only [Option.some.injEq, Prod.mk.injEq] at e
                obtain ⟨rfl, rfl⟩ := e
                unfold drawOp
                simp only [hw, heff, Bool.false_eq_true, if_false, hs, hfr, hk, hb, hwr, if_true]
              · cases e
          · cases e
        · cases e
  · cases e

def drawsH (P : Program) (cf : CallF) (ops : Array Oper) (n0 : Nat) (hint : Nat → Option V) : List Oper → Nat → Dr → Option (Dr × List Ob)
  | [], _, s => some (s, [])
  | o :: r, i, s => match drawH P cf ops n0 i (hint i) o s with
    | some (s', obs) => match drawsH P cf ops n0 hint r (i + 1) s' with
      | some (s2, obs2) => some (s2, obs ++ obs2)
      | none => none
    | none => none

theorem drawsH_sound {P : Program} {cf cj : CallF} {ops : Array Oper} {n0 : Nat} {hint : Nat → Option V} (hle : ∀ f args h n r, cf f args h n = some r → cj f args h n = some r) : ∀ (l : List Oper) (i : Nat) (s s' : Dr) (obs : List Ob), drawsH P cf ops n0 hint l i s = some (s', obs) → (∀ x ∈ obs, x.ok cj) →
    drawOps P cj ops n0 l i s = some (.inl s')
  | [], i, s, s', obs, e, _ => by
    simp only [drawsH, Option.some.injEq, Prod.mk.injEq] at e
    obtain ⟨rfl, rfl⟩ := e
    rfl
  | o :: r, i, s, s', obs, e, ho => by
    simp only [drawsH] at e
    split at e
    · rename_i s1 obs1 h1
      split at e
      · rename_i s2 obs2 h2
        simp only [Option.some.injEq, Prod.mk.injEq] at e
        obtain ⟨rfl, rfl⟩ := e
        simp only [drawOps]
        rw [drawH_sound hle h1 fun x hx => ho x (by simp [hx])]
        exact drawsH_sound hle r (i + 1) s1 s2 obs2 h2 fun x hx => ho x (by simp [hx])
      · cases e
    · cases e

def drawnH (P : Program) (cf : CallF) (hint : Nat → Option V) (c : Code) (s : St) : Option (St × List Ob) :=
  match c with
  | .region _ ops true =>
    if s.n + ops.size < top then
      match drawsH P cf ops s.n hint ops.toList 0 { fr := s.fr, masks := [], cur := (0, s.h), hist := [], last := none, allocs := [], reads := [], n := s.n + ops.size } with
      | some (d, obs) => some ({ fr := d.fr, h := view s.n d.allocs d.cur.1 d.cur.2 (2 ^ ops.size - 1), n := d.n, dfs := s.dfs }, obs)
      | none => none
    else none
  | _ => none

theorem drawnH_sound {P : Program} {cf cj : CallF} {F : Nat} {hint : Nat → Option V} {c : Code} {s s' : St} {obs : List Ob} (hle : ∀ f args h n r, cf f args h n = some r → cj f args h n = some r) (e : drawnH P cf hint c s = some (s', obs)) (ho : ∀ x ∈ obs, x.ok cj) :
    exec P cj F c s = some (.normal, s') := by
  unfold drawnH at e
  split at e
  · rename_i id ops
    split at e
    · rename_i hlt
      split at e
      · rename_i d obs' h1
        simp only [Option.some.injEq, Prod.mk.injEq] at e
        obtain ⟨rfl, rfl⟩ := e
        simp only [exec, drawn, if_pos hlt]
        rw [drawsH_sound hle _ _ _ _ _ h1 ho]
      · cases e
    · cases e
  · cases e

/-- the state behind, and what is to be shown, of a run with hints: the pairs that are to be one, and the calls -/
def hSt : Option (St × List Ob) → St | some (s, _) => s | none => default
def hObs : Option (St × List Ob) → List Ob | some (_, l) => l | none => []
def firsts : List Ob → List V | [] => [] | .same a _ :: r => a :: firsts r | .call _ _ _ :: r => firsts r
def seconds : List Ob → List V | [] => [] | .same _ b :: r => b :: seconds r | .call _ _ _ :: r => seconds r
def callsOf : List Ob → List (FuncId × List V × V) | [] => [] | .same _ _ :: r => callsOf r | .call f a v :: r => (f, a, v) :: callsOf r

theorem h_of {r : Option (St × List Ob)} (h : r.isSome = true) : r = some (hSt r, hObs r) := by
  cases r with
  | none => cases h
  | some p => rfl

theorem obs_ok {cf : CallF} : ∀ (l : List Ob), firsts l = seconds l → (∀ x ∈ callsOf l, ∀ h n, cf x.1 x.2.1 h n = some (.ret x.2.2, h, n)) → ∀ x ∈ l, x.ok cf
  | [], _, _, x, hx => by simp at hx
  | .same a b :: r, h1, h2, x, hx => by
    simp only [firsts, seconds, List.cons.injEq] at h1
    simp only [List.mem_cons] at hx
    rcases hx with rfl | hx
    · exact h1.1
    · exact obs_ok r h1.2 h2 x hx
  | .call f a v :: r, h1, h2, x, hx => by
    simp only [firsts, seconds] at h1
    simp only [callsOf, List.mem_cons, forall_eq_or_imp] at h2
    simp only [List.mem_cons] at hx
    rcases hx with rfl | hx
    · exact h2.1
    · exact obs_ok r h1 h2.2 x hx

/-! ### a contract that holds in every world -/
def SpecC (P : Program) (x : FuncId × List V × V) : Prop := x.1 < P.funcs.size ∧ V.frees x.2.1 = true ∧ x.2.2.free = true ∧ ∀ (w : World) (args' : List Value), vrels E0 x.2.1 args' → callee P x.1 = true →
  Calls P x.1 args'.toArray w fun e w' => (∃ E, outrel E (.ret x.2.2) e) ∧ Below w.heap.size w w'

theorem specC_of {P : Program} {x : FuncId × List V × V} (h : SpecOk P x) : SpecC P x := by
  obtain ⟨h0, h1, h2, cf, h', n', hc, e⟩ := h
  refine ⟨h0, h1, h2, fun w args' ra hcal => ?_⟩
  refine (hc x.1 x.2.1 .nil 0 _ h' n' e E0 w args' ra (good0 w) (dom0 0)).1 hcal |>.mono fun en w' ⟨E1, u, _, _, _, ho⟩ => ⟨⟨E1, ho⟩, u.os, u.tape, u.output, u.size, fun k hk => u.keep k hk fun m s hm => absurd rfl hm.live⟩

theorem specC_calls {P : Program} {f : FuncId} {args : List V} {v : V} (hs : SpecC P (f, args, v)) {E : Env} {h : Tr O} {n : Nat} {w : World} {args' : List Value} (ra : vrels E args args') (g : Good E h w) (hd : Dom E n) (hc : callee P f = true) :
    Calls P f args'.toArray w (CPost E h n w (.ret v) h n) := by
  obtain ⟨_, ha, hv, hcalls⟩ := hs
  refine (hcalls w args' (frees_rel _ _ ha ra) hc).mono fun en w' ⟨⟨E1, ho⟩, b⟩ => ?_
  refine ⟨E, ⟨E.le_refl, ⟨?_, g.inj, fun m b' s hm => Nat.lt_of_lt_of_le (g.bnd m b' s hm) b.size⟩, b.size, b.tape, b.os, b.output, fun k hk _ => b.block k hk, fun m b' s hm he _ => ⟨m, s, hm, he, id⟩⟩, fun _ _ => rfl, hd, Nat.le_refl _, ?_⟩
  · intro m o hm
    obtain ⟨b', s, h1, h2⟩ := g.rel m o hm
    exact ⟨b', s, h1, orel_mono E.le_refl rfl (b.block b' (g.bnd m b' s h1)) h2⟩
  · cases en with
    | returned v' => exact free_rel _ _ hv ho
    | _ => exact ho.elim

/-- calls of one function, known by contract at some arguments, joined to an evaluator of calls that leaves that function out -/
def without (f : FuncId) (cf : CallF) : CallF := fun g args h n => match Nat.beq g f with
  | true => none
  | false => cf g args h n

open Classical in
noncomputable def joinC (f : FuncId) (args : List V) (v : V) (cf : CallF) : CallF := fun g as h n =>
  match cf g as h n with
  | some r => some r
  | none => if g = f ∧ as = args then some (.ret v, h, n) else none

theorem joinC_le {f : FuncId} {args : List V} {v : V} {cf : CallF} : ∀ g as h n r, cf g as h n = some r → joinC f args v cf g as h n = some r := by
  intro g as h n r e
  simp only [joinC, e]

theorem without_ok {P : Program} {f : FuncId} {cf : CallF} (h : CallOk P cf) : CallOk P (without f cf) := by
  intro g args h' n out h2 n2 e
  unfold without at e
  split at e
  · cases e
  · exact h g args h' n out h2 n2 e

theorem joinC_ok {P : Program} {f : FuncId} {args : List V} {v : V} {cf : CallF} (hs : SpecC P (f, args, v)) (hc : CallOk P cf) : CallOk P (joinC f args v cf) := by
  intro g as h n out h' n' e E w args' ra gd hd
  unfold joinC at e
  split at e
  · rename_i r hr
    simp only [Option.some.injEq] at e; subst e
    exact hc g as h n out h' n' hr E w args' ra gd hd
  · split at e
    · rename_i hfa
      obtain ⟨rfl, rfl⟩ := hfa
      simp only [Option.some.injEq, Prod.mk.injEq] at e
      obtain ⟨rfl, rfl, rfl⟩ := e
      exact ⟨fun hcal => specC_calls hs ra gd hd hcal, fun m l s hf _ => absurd hs.1 (by simp only [hf]; exact Nat.not_lt.2 (Nat.le_add_right _ _))⟩
    · cases e

theorem joinC_at {f : FuncId} {args : List V} {v : V} {cf : CallF} (h : Tr O) (n : Nat) : joinC f args v (without f cf) f args h n = some (.ret v, h, n) := by
  unfold joinC without
  simp
end Go.Eng

/- The engine, part Z: runs in which some values stand open: tests are split, bounds are left to be shown. No conditions: lemmas alone. -/
namespace Go.Eng
open Go Go.RowKit

/-- a path: the tests that it took, pairs that must be one, what is left to be shown -/
structure Pth where
  conds : List (Bool × Bool)
  same : List (V × V)
  asr : List Prop

def Pth.nil : Pth := ⟨[], [], []⟩
def Pth.app (a b : Pth) : Pth := ⟨a.conds ++ b.conds, a.same ++ b.same, a.asr ++ b.asr⟩
def Pth.ok (p : Pth) : Prop := ∀ c ∈ p.conds, c.1 = c.2
def Pth.good (p : Pth) : Prop := (∀ c ∈ p.same, c.1 = c.2) ∧ ∀ a ∈ p.asr, a

theorem Pth.ok_app {a b : Pth} : (a.app b).ok ↔ a.ok ∧ b.ok := by
  simp only [Pth.ok, Pth.app, List.mem_append]
  exact ⟨fun h => ⟨fun c hc => h c (.inl hc), fun c hc => h c (.inr hc)⟩, fun h c hc => hc.elim (h.1 c) (h.2 c)⟩
theorem Pth.good_app {a b : Pth} : (a.app b).good ↔ a.good ∧ b.good := by
  simp only [Pth.good, Pth.app, List.mem_append]
  exact ⟨fun h => ⟨⟨fun c hc => h.1 c (.inl hc), fun c hc => h.2 c (.inl hc)⟩, fun c hc => h.1 c (.inr hc), fun c hc => h.2 c (.inr hc)⟩,
    fun h => ⟨fun c hc => hc.elim (h.1.1 c) (h.2.1 c), fun c hc => hc.elim (h.1.2 c) (h.2.2 c)⟩⟩

abbrev M (α : Type) := Option (List (Pth × α))
def M.ret {α : Type} (a : α) : M α := some [(.nil, a)]
def pre {α : Type} (p : Pth) : List (Pth × α) → List (Pth × α)
  | [] => []
  | e :: r => (p.app e.1, e.2) :: pre p r
def M.bind {α β : Type} : List (Pth × α) → (α → M β) → M β
  | [], _ => some []
  | (p, a) :: r, f => match f a with
    | some l1 => match M.bind r f with
      | some l2 => some (pre p l1 ++ l2)
      | none => none
    | none => none
def M.then {α β : Type} (m : M α) (f : α → M β) : M β := match m with
  | some l => M.bind l f
  | none => none

/-- what the paths come to is what the plain evaluator comes to -/
def Sound {α : Type} (m : M α) (r : Option α) : Prop := ∀ l, m = some l → (∃ e ∈ l, e.1.ok) ∧ ∀ e ∈ l, e.1.ok → e.1.good → r = some e.2

theorem mem_pre {α : Type} {p : Pth} : ∀ {l : List (Pth × α)} {e : Pth × α}, e ∈ pre p l ↔ ∃ e' ∈ l, e = (p.app e'.1, e'.2)
  | [], e => by simp [pre]
  | x :: r, e => by
    simp only [pre, List.mem_cons, mem_pre]
    exact ⟨fun h => h.elim (fun q => ⟨x, .inl rfl, q⟩) fun ⟨e', h1, h2⟩ => ⟨e', .inr h1, h2⟩, fun ⟨e', h1, h2⟩ => h1.elim (fun q => .inl (by rw [h2, q])) fun q => .inr ⟨e', q, h2⟩⟩

theorem bind_mem {α β : Type} {f : α → M β} : ∀ {l : List (Pth × α)} {l2 : List (Pth × β)}, M.bind l f = some l2 → (∀ e ∈ l2, ∃ d ∈ l, ∃ l1, f d.2 = some l1 ∧ ∃ e' ∈ l1, e = (d.1.app e'.1, e'.2)) ∧ (∀ d ∈ l, ∃ l1, f d.2 = some l1 ∧ ∀ e' ∈ l1, (d.1.app e'.1, e'.2) ∈ l2)
  | [], l2, h => by
    simp only [M.bind, Option.some.injEq] at h; subst h
    exact ⟨fun e he => by simp at he, fun d hd => by simp at hd⟩
  | (p, a) :: r, l2, h => by
    simp only [M.bind] at h
    split at h
    · rename_i l1 h1
      split at h
      · rename_i l3 h3
        simp only [Option.some.injEq] at h; subst h
        obtain ⟨k1, k2⟩ := bind_mem h3
        refine ⟨fun e he => ?_, fun d hd => ?_⟩
        · rcases List.mem_append.1 he with q | q
          · obtain ⟨e', q1, q2⟩ := mem_pre.1 q
            exact ⟨(p, a), by simp, l1, h1, e', q1, q2⟩
          · obtain ⟨d, d1, d2⟩ := k1 e q
            exact ⟨d, by simp [d1], d2⟩
        · rcases List.mem_cons.1 hd with rfl | hd
          · exact ⟨l1, h1, fun e' he' => List.mem_append.2 (.inl (mem_pre.2 ⟨e', he', rfl⟩))⟩
          · obtain ⟨l1', q1, q2⟩ := k2 d hd
            exact ⟨l1', q1, fun e' he' => List.mem_append.2 (.inr (q2 e' he'))⟩
      · cases h
    · cases h

theorem Sound.ret {α : Type} (a : α) : Sound (M.ret a) (some a) := by
  intro l h
  simp only [M.ret, Option.some.injEq] at h; subst h
  exact ⟨⟨_, List.mem_singleton.2 rfl, fun c hc => by simp [Pth.nil] at hc⟩, fun e he _ _ => by simp only [List.mem_singleton] at he; subst he; rfl⟩

theorem Sound.none {α : Type} (r : Option α) : Sound (none : M α) r := fun l h => by cases h

theorem Sound.then {α β : Type} {m : M α} {f : α → M β} {r : Option α} {g : α → Option β} (h : Sound m r) (hf : ∀ a, Sound (f a) (g a)) : Sound (m.then f) (r.bind g) := by
  intro l2 e
  unfold M.then at e
  split at e
  · rename_i l
    obtain ⟨⟨d, hd, hok⟩, h2⟩ := h l rfl
    obtain ⟨k1, k2⟩ := bind_mem e
    refine ⟨?_, fun e he heok hegood => ?_⟩
    · obtain ⟨l1, q1, q2⟩ := k2 d hd
      obtain ⟨⟨e', he', hok'⟩, _⟩ := hf d.2 l1 q1
      exact ⟨_, q2 e' he', Pth.ok_app.2 ⟨hok, hok'⟩⟩
    · obtain ⟨d, hd, l1, q1, e', he', rfl⟩ := k1 e he
      obtain ⟨o1, o2⟩ := Pth.ok_app.1 heok
      obtain ⟨g1, g2⟩ := Pth.good_app.1 hegood
      rw [h2 d hd o1 g1]
      exact (hf d.2 l1 q1).2 e' he' o2 g2
  · cases e

theorem Sound.of_eq {α : Type} {m : M α} {r r' : Option α} (h : Sound m r) (e : r = r') : Sound m r' := e ▸ h

/-! ### one operation -/
def elemSz (P : Program) (t : TypeId) : Option Nat := match elemT P t with
  | some e => szof P e
  | none => none

/-- equality of structs of integers and booleans -/
def eqFieldsS (P : Program) : List Field → List V → List V → Option Bool
  | [], _, _ => some true
  | f :: fs, xs, ys => match decide (f.name = "_") with
    | true => none
    | false => match P.underlying f.type, partV P f.type xs f.offset, partV P f.type ys f.offset with
      | some (.int _), some (.int k a), some (.int k' b) => match decide (k = k') with
        | true => match eqFieldsS P fs xs ys with
          | some r => some ((a == b) && r)
          | none => none
        | false => none
      | _, _, _ => none

theorem eqFieldsS_ok {P : Program} {d : Nat} : ∀ {fs : List Field} {xs ys : List V} {r : Bool}, eqFieldsS P fs xs ys = some r → eqFields P (fun u a b => eqV P (d + 1) u a b) fs xs ys = some r
  | [], _, _, r, e => by simpa only [eqFieldsS, eqFields] using e
  | f :: fs, xs, ys, r, e => by
    simp only [eqFieldsS] at e
    split at e
    · cases e
    · rename_i hn
      have hn := of_decide_eq_false hn
      split at e
      · rename_i k0 k a k' b h1 h2 h3
        split at e
        · rename_i hk
          have hk := of_decide_eq_true hk
          subst hk
          split at e
          · rename_i r' hr
            simp only [Option.some.injEq] at e; subst e
            have ih := eqFieldsS_ok (d := d) hr
            simp only [eqFields, if_pos hn, h2, h3]
            have : eqV P (d + 1) f.type (.int k a) (.int k b) = some (a == b) := by simp only [eqV, h1, if_true]
            rw [this]
            cases hab : a == b with
            | true => simp only [Bool.true_and]; exact ih
            | false => simp only [Bool.false_and]
          · cases e
        · cases e
      · cases e

def eqAgg (P : Program) (t : TypeId) (xs ys : List V) : Option Bool :=
  match P.eqGuardType P.depth t with
  | true => none
  | false => match P.underlying t with
    | some (.struct fields) => match P.stoodInHeld t with
      | true => none
      | false => eqFieldsS P fields.toList xs ys
    | _ => none

theorem eqV_agg {P : Program} {d : Nat} {t : TypeId} {fields : Array Field} {xs ys : List V} {r : Bool} (hu : P.underlying t = some (.struct fields)) (hs : P.stoodInHeld t = false) (e : eqFieldsS P fields.toList xs ys = some r) : eqV P (d + 1 + 1) t (.agg xs) (.agg ys) = some r := by
  simp only [eqV, hu, hs, Bool.false_eq_true, if_false]
  exact eqFieldsS_ok (d := d) e

theorem eqAgg_ok {P : Program} {t : TypeId} {x y : Operand} {xs ys : List V} {r : Bool} (e : eqAgg P t xs ys = some r) : eqOp P t x y (.agg xs) (.agg ys) = some r := by
  unfold eqAgg at e
  split at e
  · cases e
  · rename_i hg
    split at e
    · rename_i fields hu
      split at e
      · cases e
      · rename_i hs
        simp only [eqOp, hg, Bool.false_eq_true, if_false]
        exact eqV_agg (d := 9998) hu hs e
    · cases e

def plainM (P : Program) (o : Oper) (fr : Tr V) (h : Tr O) (n : Nat) : Option (List Prop × R) := match stepOp P o fr h n with
  | some r => some ([], r)
  | none => none

def symOp (P : Program) (o : Oper) (fr : Tr V) (h : Tr O) (n : Nat) : Option (List Prop × R) :=
  match o.op with
  | .indexAddr t x i => match opd fr x, opd fr i with
    | some (.slc (some (m, off)) len _ esz), some (.int _ ix) => match elemSz P t with
      | some s => match Nat.beq s esz with
        | true => some ([0 ≤ ix ∧ ix < len], .val (.ptr (some (m, off + ix.toNat * s))) h n)
        | false => none
      | none => none
    | _, _ => plainM P o fr h n
  | .load t a => match opd fr a with
    | some (.ptr (some (m, off))) => match h.get m with
      | some (.ints k ks) => match aggT P t with
        | some false => some ([off < ks.length], .val (.int k (ks.getD off 0)) h n)
        | _ => none
      | _ => plainM P o fr h n
    | _ => plainM P o fr h n
  | .slice t x none (some hi) none => match opd fr x, opd fr hi with
    | some (.slc a len cap esz), some (.int _ hx) => match elemSz P t with
      | some s => match Nat.beq s esz || a.isNone with
        | true => some ([0 ≤ hx ∧ hx ≤ cap], .val (.slc (match a with | none => none | some (b, o) => some (b, o + 0 * esz)) (hx.toNat - 0) (cap - 0) esz) h n)
        | false => none
      | none => none
    | _, _ => plainM P o fr h n
  | .slice t x (some lo) none none => match opd fr x, opd fr lo with
    | some (.slc a len cap esz), some (.int _ lx) => match elemSz P t with
      | some s => match Nat.beq s esz || a.isNone with
        | true => some ([0 ≤ lx ∧ lx ≤ len], .val (.slc (match a with | none => none | some (b, o) => some (b, o + lx.toNat * esz)) (len - lx.toNat) (cap - lx.toNat) esz) h n)
        | false => none
      | none => none
    | _, _ => plainM P o fr h n
  | .binOp .eql t x y _ => match opd fr x, opd fr y with
    | some (.agg xs), some (.agg ys) => match eqAgg P t xs ys with
      | some r => some ([], .val (.bool r) h n)
      | none => none
    | _, _ => plainM P o fr h n
  | .binOp .neq t x y _ => match opd fr x, opd fr y with
    | some (.agg xs), some (.agg ys) => match eqAgg P t xs ys with
      | some r => some ([], .val (.bool (!r)) h n)
      | none => none
    | _, _ => plainM P o fr h n
  | .binOp .quo t x y _ => match opd fr x, opd fr y with
    | some (.int k a), some (.int k' b) => match decide (k = k') with
      | true => some ([b ≠ 0], .val (.int k (k.wrap (a.tdiv b))) h n)
      | false => none
    | _, _ => plainM P o fr h n
  | _ => plainM P o fr h n

theorem plainM_ok {P : Program} {o : Oper} {fr : Tr V} {h : Tr O} {n : Nat} {l : List Prop} {r : R} (e : plainM P o fr h n = some (l, r)) : stepOp P o fr h n = some r := by
  unfold plainM at e
  split at e
  · rename_i r' hr
    simp only [Option.some.injEq, Prod.mk.injEq] at e; obtain ⟨_, rfl⟩ := e; exact hr
  · cases e

theorem elemSz_ok {P : Program} {t : TypeId} {s : Nat} (e : elemSz P t = some s) : ∃ el, P.underlying t = some (.slice el) ∧ szof P el = some s := by
  unfold elemSz elemT at e
  cases hu : P.underlying t with
  | none => simp [hu] at e
  | some d => cases d <;> simp [hu] at e
              exact ⟨_, rfl, e⟩

theorem symOp_ok {P : Program} {o : Oper} {fr : Tr V} {h : Tr O} {n : Nat} {l : List Prop} {r : R} (e : symOp P o fr h n = some (l, r)) (hl : ∀ p ∈ l, p) : stepOp P o fr h n = some r := by
  unfold symOp at e
  split at e
  · rename_i t x i ho
    split at e
    · rename_i m off len cp esz k ix hx hi
      split at e
      · rename_i s hs
        split at e
        · rename_i hb
          simp only [Option.some.injEq, Prod.mk.injEq] at e; obtain ⟨rfl, rfl⟩ := e
          have hb := Nat.eq_of_beq_eq_true hb
          subst hb
          obtain ⟨el, h1, h2⟩ := elemSz_ok hs
          have hc := hl _ (List.mem_singleton.2 rfl)
          simp only [stepOp, ho, hx, hi, indexAddrV, h1, h2, okV]
          rw [if_pos (by exact ⟨hc.1, hc.2, trivial⟩)]
        · cases e
      · cases e
    · exact plainM_ok e
  · rename_i t a ho
    split at e
    · rename_i m off ha
      split at e
      · rename_i k ks hm
        split at e
        · rename_i hag
          simp only [Option.some.injEq, Prod.mk.injEq] at e; obtain ⟨rfl, rfl⟩ := e
          have hc : off < ks.length := hl _ (List.mem_singleton.2 rfl)
          simp only [stepOp, ho, ha, loadAt, hm, hag, List.getElem?_eq_getElem hc, Option.map_some, okV, List.getD_eq_getElem?_getD, Option.getD_some]
        · cases e
      · exact plainM_ok e
    · exact plainM_ok e
  · rename_i t x hi ho
    split at e
    · rename_i a len cp esz k hx hxx hhi
      split at e
      · rename_i s hs
        split at e
        · rename_i hb
          simp only [Option.some.injEq, Prod.mk.injEq] at e; obtain ⟨rfl, rfl⟩ := e
          obtain ⟨el, h1, h2⟩ := elemSz_ok hs
          have hc := hl _ (List.mem_singleton.2 rfl)
          have hb' : s = esz ∨ a = none := by
            simp only [Bool.or_eq_true, Option.isNone_iff_eq_none] at hb
            exact hb.imp Nat.eq_of_beq_eq_true _root_.id
          simp only [stepOp, ho, hxx, hhi, opdOpt, sliceV, h1, h2, okV, Option.isSome_none, Bool.false_eq_true, false_and, if_false]
          rw [if_pos hb']
          simp only [boundV, if_pos hc]
          cases a <;> rfl
        · cases e
      · cases e
    · exact plainM_ok e
  · rename_i t x lo ho
    split at e
    · rename_i a len cp esz k lx hxx hhi
      split at e
      · rename_i s hs
        split at e
        · rename_i hb
          simp only [Option.some.injEq, Prod.mk.injEq] at e; obtain ⟨rfl, rfl⟩ := e
          obtain ⟨el, h1, h2⟩ := elemSz_ok hs
          have hc := hl _ (List.mem_singleton.2 rfl)
          have hb' : s = esz ∨ a = none := by
            simp only [Bool.or_eq_true, Option.isNone_iff_eq_none] at hb
            exact hb.imp Nat.eq_of_beq_eq_true _root_.id
          simp only [stepOp, ho, hxx, hhi, opdOpt, sliceV, h1, h2, okV, Option.isSome_none, Bool.false_eq_true, false_and, if_false]
          rw [if_pos hb']
          simp only [boundV, if_pos hc]
          cases a <;> rfl
        · cases e
      · cases e
    · exact plainM_ok e
  · rename_i t x y yt ho
    split at e
    · rename_i xs ys hx hy
      split at e
      · rename_i r hr
        simp only [Option.some.injEq, Prod.mk.injEq] at e; obtain ⟨rfl, rfl⟩ := e
        simp only [stepOp, ho, hx, hy, binV, eqAgg_ok hr, Option.map_some, okV]
      · cases e
    · exact plainM_ok e
  · rename_i t x y yt ho
    split at e
    · rename_i xs ys hx hy
      split at e
      · rename_i r hr
        simp only [Option.some.injEq, Prod.mk.injEq] at e; obtain ⟨rfl, rfl⟩ := e
        simp only [stepOp, ho, hx, hy, binV, eqAgg_ok hr, Option.map_some, okV]
      · cases e
    · exact plainM_ok e
  · rename_i t x y yt ho
    split at e
    · rename_i k a k' b hx hy
      split at e
      · rename_i hk
        have hk := of_decide_eq_true hk
        subst hk
        simp only [Option.some.injEq, Prod.mk.injEq] at e; obtain ⟨rfl, rfl⟩ := e
        have hb : b ≠ 0 := hl _ (List.mem_singleton.2 rfl)
        have : binV P .quo t x y (.int k a) (.int k b) = some (.int k (k.wrap (a.tdiv b))) := by
          simp [binV, binOp, Op.intDiv, hb, pureSem, ofScalar]
          rfl
        simp only [stepOp, ho, hx, hy, this, okV]
      · cases e
    · exact plainM_ok e
  · exact plainM_ok e
end Go.Eng

/- The engine, part ZA: symbolic runs of statements and of code. No conditions: lemmas alone. -/
namespace Go.Eng
open Go Go.RowKit

/-- what is done with an operation's result: a boolean is split; a value is written in other words -/
inductive Fix where
  | split
  | give (v : V)

def fixOf : List (Nat × Fix) → Nat → Option Fix
  | [], _ => none
  | x :: r, d => match Nat.beq x.1 d with
    | true => some x.2
    | false => fixOf r d

def fixM (H : List (Nat × Fix)) (dst : Option Nat) (v : V) : M V :=
  match dst with
  | none => .ret v
  | some d => match fixOf H d with
    | none => .ret v
    | some (.give u) => some [(⟨[], [], [v = u]⟩, u)]
    | some .split => match v with
      | .bool c => some [(⟨[(c, true)], [], []⟩, .bool true), (⟨[(c, false)], [], []⟩, .bool false)]
      | v => .ret v

theorem fixM_sound (H : List (Nat × Fix)) (dst : Option Nat) (v : V) : Sound (fixM H dst v) (some v) := by
  unfold fixM
  split
  · exact .ret v
  · split
    · exact .ret v
    · rename_i u hu
      intro l h
      simp only [Option.some.injEq] at h; subst h
      refine ⟨⟨_, List.mem_singleton.2 rfl, fun c hc => by simp at hc⟩, fun e he _ hg => ?_⟩
      simp only [List.mem_singleton] at he; subst he
      have : v = u := hg.2 _ (List.mem_singleton.2 rfl)
      rw [this]
    · split
      · rename_i c
        intro l h
        simp only [Option.some.injEq] at h; subst h
        refine ⟨?_, fun e he ho _ => ?_⟩
        · cases hc : c with
          | true => exact ⟨(⟨[(true, true)], [], []⟩, .bool true), by simp, fun x hx => by simp only [List.mem_singleton] at hx; subst hx; rfl⟩
          | false => exact ⟨(⟨[(false, false)], [], []⟩, .bool false), by simp, fun x hx => by simp only [List.mem_singleton] at hx; subst hx; rfl⟩
        · simp only [List.mem_cons, List.not_mem_nil, or_false] at he
          rcases he with rfl | rfl
          · have : c = true := ho (c, true) (List.mem_singleton.2 rfl); rw [this]
          · have : c = false := ho (c, false) (List.mem_singleton.2 rfl); rw [this]
      · exact .ret _

def symM (P : Program) (o : Oper) (fr : Tr V) (h : Tr O) (n : Nat) : M R := match symOp P o fr h n with
  | some (l, r) => some [(⟨[], [], l⟩, r)]
  | none => none

theorem symM_sound (P : Program) (o : Oper) (fr : Tr V) (h : Tr O) (n : Nat) : Sound (symM P o fr h n) (stepOp P o fr h n) := by
  intro l e
  unfold symM at e
  split at e
  · rename_i a r hs
    simp only [Option.some.injEq] at e; subst e
    refine ⟨⟨_, List.mem_singleton.2 rfl, fun c hc => by simp at hc⟩, fun e he _ hg => ?_⟩
    simp only [List.mem_singleton] at he; subst he
    exact symOp_ok hs hg.2
  · cases e

/-! calls: contracts with something left to be shown, ahead of the evaluator's own -/
abbrev Ctr := FuncId → List V → Tr O → Option (List Prop × V)

open Classical in
noncomputable def joinA (S : Ctr) (cf : CallF) : CallF := fun f args h n => match S f args h with
  | some (A, v) => if ∀ a ∈ A, a then some (.ret v, h, n) else none
  | none => cf f args h n

def retOnly : Option (Out × Tr O × Nat) → Option (V × Tr O × Nat)
  | some (.ret v, h, n) => some (v, h, n)
  | _ => none

def callP (S : Ctr) (cf : CallF) (f : FuncId) (args : List V) (h : Tr O) (n : Nat) : M (V × Tr O × Nat) := match S f args h with
  | some (A, v) => some [(⟨[], [], A⟩, (v, h, n))]
  | none => match cf f args h n with
    | some (.ret v, h, n) => .ret (v, h, n)
    | _ => none

theorem callP_sound (S : Ctr) (cf : CallF) (f : FuncId) (args : List V) (h : Tr O) (n : Nat) : Sound (callP S cf f args h n) (retOnly (joinA S cf f args h n)) := by
  unfold callP joinA
  cases S f args h with
  | some q =>
    obtain ⟨A, v⟩ := q
    intro l e
    simp only [Option.some.injEq] at e; subst e
    refine ⟨⟨_, List.mem_singleton.2 rfl, fun c hc => by simp at hc⟩, fun e he _ hg => ?_⟩
    simp only [List.mem_singleton] at he; subst he
    simp only
    rw [if_pos hg.2]
    rfl
  | none =>
    simp only
    cases cf f args h n with
    | none => exact .none _
    | some q =>
      obtain ⟨out, h, n⟩ := q
      cases out with
      | ret v => exact .ret _
      | pan v => exact .none _

theorem sound_getL {α : Type} {m : M α} {r r' : Option α} (h : Sound m r) (e : ∀ a, r = some a → r' = some a) : Sound m r' := by
  intro l hl
  obtain ⟨h1, h2⟩ := h l hl
  exact ⟨h1, fun x hx ho hg => e _ (h2 x hx ho hg)⟩

section
variable (P : Program) (S : Ctr) (cf : CallF) (H : List (Nat × Fix))

def seqM (ops : Array Oper) : List Oper → St → M (X × St)
  | [], s => .ret (.normal, s)
  | o :: rest, s =>
    match wantedV ops o s.fr with
    | some false => match putD s.fr o.dst (.tup []) with
      | some fr => seqM ops rest { s with fr := fr }
      | none => none
    | some true => (symM P o s.fr s.h s.n).then fun r => match r with
      | .val v h n => (fixM H o.dst v).then fun v => match putD s.fr o.dst v with
        | some fr => seqM ops rest { s with fr := fr, h := h, n := n }
        | none => none
      | .call f args => (callP S cf f args s.h s.n).then fun q => (fixM H o.dst q.1).then fun v => match putD s.fr o.dst v with
        | some fr => seqM ops rest { s with fr := fr, h := q.2.1, n := q.2.2 }
        | none => none
      | _ => none
    | none => none

theorem bind_some' {α β : Type} (a : α) (g : α → Option β) : (some a).bind g = g a := rfl

theorem seqM_sound (ops : Array Oper) : ∀ (l : List Oper) (s : St), Sound (seqM P S cf H ops l s) (seqOps P (joinA S cf) ops l s)
  | [], s => .ret _
  | o :: rest, s => by
    simp only [seqM, seqOps]
    rcases wantedV ops o s.fr with _ | (_ | _)
    · exact .none _
    · cases putD s.fr o.dst (.tup []) with
      | none => exact .none _
      | some fr => exact seqM_sound ops rest _
    · refine sound_getL (Sound.then (symM_sound P o s.fr s.h s.n) (g := fun r => match r with
        | .val v h n => match putD s.fr o.dst v with
          | some fr => seqOps P (joinA S cf) ops rest { s with fr := fr, h := h, n := n }
          | none => none
        | .call f args => (retOnly (joinA S cf f args s.h s.n)).bind fun q => match putD s.fr o.dst q.1 with
          | some fr => seqOps P (joinA S cf) ops rest { s with fr := fr, h := q.2.1, n := q.2.2 }
          | none => none
        | _ => none) (fun r => ?_)) ?_
      · cases r with
        | val v h n =>
          refine (Sound.then (fixM_sound H o.dst v) (g := fun v => match putD s.fr o.dst v with
            | some fr => seqOps P (joinA S cf) ops rest { s with fr := fr, h := h, n := n }
            | none => none) (fun v => ?_)).of_eq rfl
          cases putD s.fr o.dst v with
          | none => exact .none _
          | some fr => exact seqM_sound ops rest _
        | call f args =>
          refine Sound.then (callP_sound S cf f args s.h s.n) (fun q => ?_)
          refine (Sound.then (fixM_sound H o.dst q.1) (g := fun v => match putD s.fr o.dst v with
            | some fr => seqOps P (joinA S cf) ops rest { s with fr := fr, h := q.2.1, n := q.2.2 }
            | none => none) (fun v => ?_)).of_eq rfl
          cases putD s.fr o.dst v with
          | none => exact .none _
          | some fr => exact seqM_sound ops rest _
        | dfr f c args => exact .none _
        | recover => exact .none _
        | panic v => exact .none _
      · intro a ha
        cases hs : stepOp P o s.fr s.h s.n with
        | none => rw [hs] at ha; cases ha
        | some r =>
          rw [hs] at ha
          cases r with
          | call f args =>
            simp only [bind_some'] at ha ⊢
            cases hj : joinA S cf f args s.h s.n with
            | none => rw [hj] at ha; cases ha
            | some q =>
              rw [hj] at ha
              obtain ⟨out, h, n⟩ := q
              cases out with
              | ret v => exact ha
              | pan v => cases ha
          | val v h n => exact ha
          | _ => cases ha

/-! statements that draw their order -/
def readM (n0 i : Nat) (o : Oper) (fr : Tr V) (v : V) (x : Tr O) : M Unit :=
  (symM P o fr x (n0 + i)).then fun r => match r with
    | .val u _ k => match Nat.beq k (n0 + i) && v.plainFn with
      | true => some [(⟨[], [(u, v)], []⟩, ())]
      | false => none
    | _ => none

theorem readM_sound (n0 i : Nat) (o : Oper) (fr : Tr V) (v : V) (x : Tr O) : Sound (readM P n0 i o fr v x) (if readsSame P n0 i o fr v x = true then some () else none) := by
  unfold readM
  refine (Sound.then (symM_sound P o fr x (n0 + i)) (g := fun r => if (match r with | .val u _ k => Nat.beq k (n0 + i) && V.beq u v | _ => false) = true then some () else none) (fun r => ?_)).of_eq ?_
  · cases r with
    | val u h k =>
      simp only
      split
      · rename_i hb
        simp only [Bool.and_eq_true] at hb
        intro l e
        simp only [Option.some.injEq] at e; subst e
        refine ⟨⟨_, List.mem_singleton.2 rfl, fun c hc => by simp at hc⟩, fun e he _ hg => ?_⟩
        simp only [List.mem_singleton] at he; subst he
        have : u = v := hg.1 (u, v) (List.mem_singleton.2 rfl)
        subst this
        rw [if_pos (by rw [hb.1, V.beq_refl u hb.2]; rfl)]
      · exact .none _
    | _ => exact .none _
  · unfold readsSame
    cases stepOp P o fr x (n0 + i) with
    | none => rfl
    | some r => cases r <;> rfl

def histM (n0 i : Nat) (o : Oper) (fr : Tr V) (v : V) (allocs : List (Nat × O)) (anc : Nat) : List (Nat × Nat × Tr O) → M Unit
  | [] => .ret ()
  | (e, m, x) :: r => match hasBit anc e with
    | true => .ret ()
    | false => (readM P n0 i o fr v (view n0 allocs m x anc)).then fun _ => histM n0 i o fr v allocs anc r

theorem histM_sound (n0 i : Nat) (o : Oper) (fr : Tr V) (v : V) (allocs : List (Nat × O)) (anc : Nat) : ∀ l : List (Nat × Nat × Tr O), Sound (histM P n0 i o fr v allocs anc l) (if histOk P n0 i o fr v allocs anc l = true then some () else none)
  | [] => (Sound.ret ()).of_eq rfl
  | (e, m, x) :: r => by
    simp only [histM, histOk]
    rcases Bool.eq_false_or_eq_true (hasBit anc e) with hb | hb
    · simp only [hb, if_true]; exact .ret ()
    · simp only [hb, Bool.false_eq_true, if_false]
      refine (Sound.then (readM_sound P n0 i o fr v _) (fun _ => histM_sound n0 i o fr v allocs anc r)).of_eq ?_
      cases readsSame P n0 i o fr v (view n0 allocs m x anc) <;> cases histOk P n0 i o fr v allocs anc r <;> rfl

def readsM (n0 : Nat) (allocs : List (Nat × O)) (m : Nat) (x : Tr O) : List (Nat × Nat × Oper × Tr V × V) → M Unit
  | [] => .ret ()
  | (j, anc, o, fr, v) :: r => match hasBit m j with
    | true => readsM n0 allocs m x r
    | false => (readM P n0 j o fr v (view n0 allocs m x anc)).then fun _ => readsM n0 allocs m x r

theorem readsM_sound (n0 : Nat) (allocs : List (Nat × O)) (m : Nat) (x : Tr O) : ∀ l : List (Nat × Nat × Oper × Tr V × V), Sound (readsM P n0 allocs m x l) (if readsOk P n0 allocs m x l = true then some () else none)
  | [] => (Sound.ret ()).of_eq rfl
  | (j, anc, o, fr, v) :: r => by
    simp only [readsM, readsOk]
    rcases Bool.eq_false_or_eq_true (hasBit m j) with hb | hb
    · simp only [hb, Bool.true_or, Bool.true_and]; exact readsM_sound n0 allocs m x r
    · simp only [hb, Bool.false_or]
      refine (Sound.then (readM_sound P n0 j o fr v _) (fun _ => readsM_sound n0 allocs m x r)).of_eq ?_
      cases readsSame P n0 j o fr v (view n0 allocs m x anc) <;> cases readsOk P n0 allocs m x r <;> rfl

def afterM (n0 i anc : Nat) (o : Oper) (s : Dr) (v : V) (h : Tr O) (n : Nat) : M Dr :=
  match putD s.fr o.dst v with
  | some fr => (readsM P n0 s.allocs anc h s.reads).then fun _ =>
      .ret { fr := fr, masks := s.masks ++ [anc], cur := (anc, h), hist := (i, s.cur.1, s.cur.2) :: s.hist, last := some i, allocs := s.allocs, reads := s.reads, n := n }
  | none => none

theorem afterM_sound (n0 i anc : Nat) (o : Oper) (s : Dr) (v : V) (h : Tr O) (n : Nat) : Sound (afterM P n0 i anc o s v h n) (afterEff P n0 i anc o s v h n) := by
  unfold afterM afterEff
  cases putD s.fr o.dst v with
  | none => exact .none _
  | some fr =>
    refine (Sound.then (readsM_sound P n0 s.allocs anc h s.reads) (g := fun _ => some _) (fun _ => .ret _)).of_eq ?_
    cases readsOk P n0 s.allocs anc h s.reads <;> rfl

def drawM (ops : Array Oper) (n0 i : Nat) (o : Oper) (s : Dr) : M Dr :=
  match wantedV ops o s.fr with
  | some false => match putD s.fr o.dst (.tup []) with
    | some fr => .ret { s with fr := fr, masks := s.masks ++ [maskOf s.masks o.after.toList] }
    | none => none
  | some true =>
    match isEff o.op with
    | true => match lastOk (maskOf s.masks o.after.toList) s.last with
      | true => (symM P o s.fr (view n0 s.allocs s.cur.1 s.cur.2 (maskOf s.masks o.after.toList)) s.n).then fun r => match r with
        | .val v h n => (fixM H o.dst v).then fun v => afterM P n0 i (maskOf s.masks o.after.toList) o s v h n
        | .call f args => (callP S cf f args (view n0 s.allocs s.cur.1 s.cur.2 (maskOf s.masks o.after.toList)) s.n).then fun q => (fixM H o.dst q.1).then fun v => afterM P n0 i (maskOf s.masks o.after.toList) o s v q.2.1 q.2.2
        | _ => none
      | false => none
    | false => (symM P o s.fr (view n0 s.allocs s.cur.1 s.cur.2 (maskOf s.masks o.after.toList)) (n0 + i)).then fun r => match r with
      | .val v h k => (fixM H o.dst v).then fun v => match putD s.fr o.dst v with
        | some fr => match Nat.beq k (n0 + i) with
          | true => match isPure o.op with
            | true => .ret { s with fr := fr, masks := s.masks ++ [maskOf s.masks o.after.toList] }
            | false => (histM P n0 i o s.fr v s.allocs (maskOf s.masks o.after.toList) s.hist).then fun _ =>
                .ret { s with fr := fr, masks := s.masks ++ [maskOf s.masks o.after.toList], reads := (i, maskOf s.masks o.after.toList, o, s.fr, v) :: s.reads }
          | false => match h.get (n0 + i) with
            | some b => match b.wr with
              | true => .ret { s with fr := fr, masks := s.masks ++ [maskOf s.masks o.after.toList], allocs := (i, b) :: s.allocs }
              | false => none
            | none => none
        | none => none
      | _ => none
  | none => none

def getL {α β : Type} : Option (α ⊕ β) → Option α
  | some (.inl a) => some a
  | _ => none

theorem drawM_sound (ops : Array Oper) (n0 i : Nat) (o : Oper) (s : Dr) : Sound (drawM P S cf H ops n0 i o s) (getL (drawOp P (joinA S cf) ops n0 i o s)) := by
  unfold drawM drawOp
  rcases wantedV ops o s.fr with _ | (_ | _)
  · exact .none _
  · cases putD s.fr o.dst (.tup []) with
    | none => exact .none _
    | some fr => exact (Sound.ret _).of_eq rfl
  · cases isEff o.op with
    | true =>
      rcases Bool.eq_false_or_eq_true (lastOk (maskOf s.masks o.after.toList) s.last) with hb | hb
      rotate_left
      · simp only [hb]; exact .none _
      · simp only [hb, if_true]
        refine (Sound.then (symM_sound P o s.fr _ s.n) (g := fun r => match r with
          | .val v h n => afterEff P n0 i (maskOf s.masks o.after.toList) o s v h n
          | .call f args => (retOnly (joinA S cf f args (view n0 s.allocs s.cur.1 s.cur.2 (maskOf s.masks o.after.toList)) s.n)).bind fun q => afterEff P n0 i (maskOf s.masks o.after.toList) o s q.1 q.2.1 q.2.2
          | _ => none) (fun r => ?_)).of_eq ?_
        · cases r with
          | val v h n => exact (Sound.then (fixM_sound H o.dst v) (g := fun v => afterEff P n0 i (maskOf s.masks o.after.toList) o s v h n) (fun v => afterM_sound P n0 i _ o s v h n)).of_eq rfl
          | call f args =>
            refine Sound.then (callP_sound S cf f args _ s.n) (fun q => ?_)
            exact (Sound.then (fixM_sound H o.dst q.1) (g := fun v => afterEff P n0 i (maskOf s.masks o.after.toList) o s v q.2.1 q.2.2) (fun v => afterM_sound P n0 i _ o s v q.2.1 q.2.2)).of_eq rfl
          | _ => exact .none _
        · cases stepOp P o s.fr (view n0 s.allocs s.cur.1 s.cur.2 (maskOf s.masks o.after.toList)) s.n with
          | none => rfl
          | some r =>
            cases r with
            | val v h n =>
              simp only [bind_some']
              cases afterEff P n0 i (maskOf s.masks o.after.toList) o s v h n <;> rfl
            | call f args =>
              simp only [bind_some']
              cases joinA S cf f args (view n0 s.allocs s.cur.1 s.cur.2 (maskOf s.masks o.after.toList)) s.n with
              | none => rfl
              | some q =>
                obtain ⟨out, h, n⟩ := q
                cases out with
                | ret v =>
                  simp only [retOnly, bind_some']
                  cases afterEff P n0 i (maskOf s.masks o.after.toList) o s v h n <;> rfl
                | pan v => simp only; split <;> rfl
            | _ => rfl
    | false =>
      simp only [Bool.false_eq_true, if_false]
      have body : ∀ (v : V) (h : Tr O) (k : Nat), Sound (match putD s.fr o.dst v with
          | some fr => match Nat.beq k (n0 + i) with
            | true => match isPure o.op with
              | true => M.ret { s with fr := fr, masks := s.masks ++ [maskOf s.masks o.after.toList] }
              | false => (histM P n0 i o s.fr v s.allocs (maskOf s.masks o.after.toList) s.hist).then fun _ =>
                  .ret { s with fr := fr, masks := s.masks ++ [maskOf s.masks o.after.toList], reads := (i, maskOf s.masks o.after.toList, o, s.fr, v) :: s.reads }
            | false => match h.get (n0 + i) with
              | some b => match b.wr with
                | true => M.ret { s with fr := fr, masks := s.masks ++ [maskOf s.masks o.after.toList], allocs := (i, b) :: s.allocs }
                | false => none
              | none => none
          | none => none) (getL (match putD s.fr o.dst v with
            | some fr =>
              if Nat.beq k (n0 + i) = true then
                if isPure o.op = true then (some (.inl { s with fr := fr, masks := s.masks ++ [maskOf s.masks o.after.toList] }) : Option (Dr ⊕ (Tr V × V × Tr O × Nat)))
                else if histOk P n0 i o s.fr v s.allocs (maskOf s.masks o.after.toList) s.hist = true then
                  some (.inl { s with fr := fr, masks := s.masks ++ [maskOf s.masks o.after.toList], reads := (i, maskOf s.masks o.after.toList, o, s.fr, v) :: s.reads })
                else miss o
              else match h.get (n0 + i) with
                | some b => if b.wr = true then some (.inl { s with fr := fr, masks := s.masks ++ [maskOf s.masks o.after.toList], allocs := (i, b) :: s.allocs }) else miss o
                | none => miss o
            | none => miss o)) := by
        intro v h k
        cases putD s.fr o.dst v with
        | none => exact .none _
        | some fr =>
          simp only
          cases Nat.beq k (n0 + i) with
          | true =>
            simp only [if_true]
            cases isPure o.op with
            | true => exact (Sound.ret _).of_eq rfl
            | false =>
              refine (Sound.then (histM_sound P n0 i o s.fr v s.allocs _ s.hist) (g := fun _ => some _) (fun _ => .ret _)).of_eq ?_
              simp only [Bool.false_eq_true, if_false]
              cases histOk P n0 i o s.fr v s.allocs (maskOf s.masks o.after.toList) s.hist <;> rfl
          | false =>
            simp only [Bool.false_eq_true, if_false]
            cases h.get (n0 + i) with
            | none => exact .none _
            | some b =>
              simp only
              cases b.wr with
              | true => exact (Sound.ret _).of_eq rfl
              | false => exact .none _
      refine (Sound.then (symM_sound P o s.fr _ (n0 + i)) (g := fun r => match r with
        | .val v h k => getL (match putD s.fr o.dst v with
            | some fr =>
              if Nat.beq k (n0 + i) = true then
                if isPure o.op = true then (some (.inl { s with fr := fr, masks := s.masks ++ [maskOf s.masks o.after.toList] }) : Option (Dr ⊕ (Tr V × V × Tr O × Nat)))
                else if histOk P n0 i o s.fr v s.allocs (maskOf s.masks o.after.toList) s.hist = true then
                  some (.inl { s with fr := fr, masks := s.masks ++ [maskOf s.masks o.after.toList], reads := (i, maskOf s.masks o.after.toList, o, s.fr, v) :: s.reads })
                else miss o
              else match h.get (n0 + i) with
                | some b => if b.wr = true then some (.inl { s with fr := fr, masks := s.masks ++ [maskOf s.masks o.after.toList], allocs := (i, b) :: s.allocs }) else miss o
                | none => miss o
            | none => miss o)
        | _ => none) (fun r => ?_)).of_eq ?_
      · cases r with
        | val v h k => exact (Sound.then (fixM_sound H o.dst v) (g := fun v => getL (match putD s.fr o.dst v with
            | some fr =>
              if Nat.beq k (n0 + i) = true then
                if isPure o.op = true then (some (.inl { s with fr := fr, masks := s.masks ++ [maskOf s.masks o.after.toList] }) : Option (Dr ⊕ (Tr V × V × Tr O × Nat)))
                else if histOk P n0 i o s.fr v s.allocs (maskOf s.masks o.after.toList) s.hist = true then
                  some (.inl { s with fr := fr, masks := s.masks ++ [maskOf s.masks o.after.toList], reads := (i, maskOf s.masks o.after.toList, o, s.fr, v) :: s.reads })
                else miss o
              else match h.get (n0 + i) with
                | some b => if b.wr = true then some (.inl { s with fr := fr, masks := s.masks ++ [maskOf s.masks o.after.toList], allocs := (i, b) :: s.allocs }) else miss o
                | none => miss o
            | none => miss o)) (fun v => body v h k)).of_eq rfl
        | _ => exact .none _
      · cases stepOp P o s.fr (view n0 s.allocs s.cur.1 s.cur.2 (maskOf s.masks o.after.toList)) (n0 + i) with
        | none => rfl
        | some r => cases r <;> rfl

def drawsM (ops : Array Oper) (n0 : Nat) : List Oper → Nat → Dr → M Dr
  | [], _, s => .ret s
  | o :: r, i, s => (drawM P S cf H ops n0 i o s).then fun s' => drawsM ops n0 r (i + 1) s'

theorem drawsM_sound (ops : Array Oper) (n0 : Nat) : ∀ (l : List Oper) (i : Nat) (s : Dr), Sound (drawsM P S cf H ops n0 l i s) (getL (drawOps P (joinA S cf) ops n0 l i s))
  | [], i, s => (Sound.ret s).of_eq rfl
  | o :: r, i, s => by
    simp only [drawsM, drawOps]
    refine (Sound.then (drawM_sound P S cf H ops n0 i o s) (fun s' => drawsM_sound ops n0 r (i + 1) s')).of_eq ?_
    cases drawOp P (joinA S cf) ops n0 i o s with
    | none => rfl
    | some q => cases q <;> rfl

/-! code -/
def roundsM (f : St → M (X × St)) : Nat → St → M (X × St)
  | 0, _ => none
  | k + 1, s => (f s).then fun p => match p.1 with
    | .normal => roundsM f k p.2
    | _ => .ret p

def codeM (F : Nat) : Code → St → M (X × St)
  | .region _ ops false, s => seqM P S cf H ops ops.toList s
  | .region _ ops true, s => match decide (s.n + ops.size < top) with
    | true => (drawsM P S cf H ops s.n ops.toList 0 { fr := s.fr, masks := [], cur := (0, s.h), hist := [], last := none, allocs := [], reads := [], n := s.n + ops.size }).then fun d =>
        .ret (.normal, { fr := d.fr, h := view s.n d.allocs d.cur.1 d.cur.2 (2 ^ ops.size - 1), n := d.n, dfs := s.dfs })
    | false => none
  | .seq a b, s => (codeM F a s).then fun p => match p.1 with
    | .normal => codeM F b p.2
    | _ => .ret p
  | .cond c a b, s => match opd s.fr c with
    | some (.bool true) => codeM F a s
    | some (.bool false) => codeM F b s
    | _ => none
  | .block id body, s => (codeM F body s).then fun p => match p.1 with
    | .exit id' => if id' = id then .ret (.normal, p.2) else .ret p
    | _ => .ret p
  | .loop body, s => roundsM (codeM F body) F s
  | .skip, s => .ret (.normal, s)
  | .exit id, s => .ret (.exit id, s)
  | .ret, s => .ret (.ret, s)
  | _, _ => none

theorem roundsM_sound {f : St → M (X × St)} {g : St → Option (X × St)} (h : ∀ s, Sound (f s) (g s)) : ∀ (k : Nat) (s : St), Sound (roundsM f k s) (rounds g k s)
  | 0, s => .none _
  | k + 1, s => by
    simp only [roundsM, rounds]
    refine (Sound.then (h s) (g := fun p => match p.1 with | .normal => rounds g k p.2 | _ => some p) (fun p => ?_)).of_eq ?_
    · obtain ⟨x, s'⟩ := p
      cases x with
      | normal => exact roundsM_sound h k s'
      | _ => exact .ret _
    · cases g s with
      | none => rfl
      | some p => obtain ⟨x, s'⟩ := p; cases x <;> rfl

theorem codeM_sound (F : Nat) : ∀ (c : Code) (s : St), Sound (codeM P S cf H F c s) (exec P (joinA S cf) F c s) := by
  intro c
  induction c with
  | region id ops draw =>
    intro s
    cases draw with
    | false => exact seqM_sound P S cf H ops ops.toList s
    | true =>
      simp only [codeM, exec, drawn]
      by_cases hlt : s.n + ops.size < top
      · simp only [decide_eq_true hlt, if_pos hlt]
        refine sound_getL (Sound.then (drawsM_sound P S cf H ops s.n ops.toList 0 _) (g := fun d => some (.normal, { fr := d.fr, h := view s.n d.allocs d.cur.1 d.cur.2 (2 ^ ops.size - 1), n := d.n, dfs := s.dfs })) (fun d => .ret _)) ?_
        intro d hd
        cases hq : drawOps P (joinA S cf) ops s.n ops.toList 0 { fr := s.fr, masks := [], cur := (0, s.h), hist := [], last := none, allocs := [], reads := [], n := s.n + ops.size } with
        | none => rw [hq] at hd; cases hd
        | some q =>
          rw [hq] at hd
          cases q with
          | inl d' => simp only [getL, Option.bind_some] at hd; simp only; exact hd
          | inr _ => cases hd
      · simp only [decide_eq_false hlt]; exact .none _
  | seq a b iha ihb =>
    intro s
    simp only [codeM, exec]
    refine (Sound.then (iha s) (g := fun p => match p.1 with | .normal => exec P (joinA S cf) F b p.2 | _ => some p) (fun p => ?_)).of_eq ?_
    · obtain ⟨x, s'⟩ := p
      cases x with
      | normal => exact ihb s'
      | _ => exact .ret _
    · cases exec P (joinA S cf) F a s with
      | none => rfl
      | some p => obtain ⟨x, s'⟩ := p; cases x <;> rfl
  | cond c a b iha ihb =>
    intro s
    simp only [codeM, exec]
    cases opd s.fr c with
    | none => exact .none _
    | some v =>
      cases v with
      | bool t =>
        cases t with
        | true => exact iha s
        | false => exact ihb s
      | _ => exact .none _
  | block id c ih =>
    intro s
    simp only [codeM, exec]
    refine (Sound.then (ih s) (g := fun p => match p.1 with | .exit id' => if id' = id then some (.normal, p.2) else some p | _ => some p) (fun p => ?_)).of_eq ?_
    · obtain ⟨x, s'⟩ := p
      cases x with
      | exit j =>
        simp only
        by_cases hj : j = id
        · simp only [if_pos hj]; exact .ret _
        · simp only [if_neg hj]; exact .ret _
      | _ => exact .ret _
    · cases exec P (joinA S cf) F c s with
      | none => rfl
      | some p => obtain ⟨x, s'⟩ := p; cases x <;> rfl
  | loop c ih =>
    intro s
    simp only [codeM, exec]
    exact roundsM_sound ih F s
  | skip => intro s; exact .ret _
  | exit id => intro s; exact .ret _
  | ret => intro s; exact .ret _
  | _ => intro s; exact .none _
end

/-! ### the rules -/
section
variable {P : Program} {S : Ctr} {cf : CallF} {H : List (Nat × Fix)} {F N : Nat} {w0 : World} {c : Code} {s : St} {Q : Exit → St → Prop}

/-- code, by its paths -/
theorem T_sym (hcf : CallOk P (joinA S cf)) (hm : P.follows .mixedOrders = true) {l : List (Pth × X × St)} (hc : codeOk N c = true) (e : codeM P S cf H F c s = some l) (h : ∀ p ∈ l, p.1.ok → p.1.good ∧ ∃ y, p.2.1.plain = some y ∧ Q y p.2.2) : T P N w0 c s Q := by
  obtain ⟨⟨p, hp, ho⟩, h2⟩ := codeM_sound P S cf H F c s l e
  obtain ⟨hg, y, hy, hq⟩ := h p hp ho
  exact T_exec (F := F) hcf hm hc (h2 p hp ho hg) hy hq

/-- what the paths come to, told by f -/
def tells {α : Type} (f : X × St → α) : List (Pth × X × St) → List (List (Bool × Bool) × List Prop × α)
  | [] => []
  | (p, x) :: r => (p.conds, p.asr, f x) :: tells f r

def samesL {α : Type} : List (Pth × α) → List V
  | [] => []
  | (p, _) :: r => p.same.map (·.1) ++ samesL r
def samesR {α : Type} : List (Pth × α) → List V
  | [] => []
  | (p, _) :: r => p.same.map (·.2) ++ samesR r
def sameLens {α : Type} : List (Pth × α) → List Nat
  | [] => []
  | (p, _) :: r => p.same.length :: sameLens r
def orNil {α : Type} : M α → List (Pth × α)
  | some l => l
  | none => []

theorem map_same : ∀ {l : List (V × V)}, l.map (·.1) = l.map (·.2) → ∀ c ∈ l, c.1 = c.2
  | [], _, c, hc => by simp at hc
  | x :: r, h, c, hc => by
    simp only [List.map_cons, List.cons.injEq] at h
    rcases List.mem_cons.1 hc with rfl | hc
    · exact h.1
    · exact map_same h.2 c hc

theorem same_ok {α : Type} : ∀ (l : List (Pth × α)), samesL l = samesR l → ∀ p ∈ l, ∀ c ∈ p.1.same, c.1 = c.2
  | [], _, p, hp => by simp at hp
  | (q, x) :: r, h, p, hp => by
    simp only [samesL, samesR] at h
    have hl : (q.same.map (·.1)).length = (q.same.map (·.2)).length := by simp
    obtain ⟨h1, h2⟩ := List.append_inj h hl
    rcases List.mem_cons.1 hp with rfl | hp
    · exact map_same h1
    · exact same_ok r h2 p hp

theorem tells_mem {α : Type} {f : X × St → α} : ∀ {l : List (Pth × X × St)} {p : Pth × X × St}, p ∈ l → (p.1.conds, p.1.asr, f p.2) ∈ tells f l
  | [], p, hp => by simp at hp
  | (q, x) :: r, p, hp => by
    rcases List.mem_cons.1 hp with rfl | hp
    · simp [tells]
    · simp only [tells, List.mem_cons]; exact .inr (tells_mem hp)

/-- code, by what its paths tell -/
theorem T_tells (hcf : CallOk P (joinA S cf)) (hm : P.follows .mixedOrders = true) {α : Type} (f : X × St → α) (G : List (List (Bool × Bool) × List Prop × α)) (hc : codeOk N c = true) (e1 : (codeM P S cf H F c s).isSome = true) (e2 : samesL (orNil (codeM P S cf H F c s)) = samesR (orNil (codeM P S cf H F c s)))
    (e3 : tells f (orNil (codeM P S cf H F c s)) = G) (h : ∀ g ∈ G, (∀ b ∈ g.1, b.1 = b.2) → (∀ a ∈ g.2.1, a) ∧ ∀ x s', f (x, s') = g.2.2 → ∃ y, x.plain = some y ∧ Q y s') : T P N w0 c s Q := by
  obtain ⟨l, hl⟩ := Option.isSome_iff_exists.1 e1
  rw [hl] at e2 e3
  simp only [orNil] at e2 e3
  refine T_sym hcf hm hc hl fun p hp ho => ?_
  have hg := h (p.1.conds, p.1.asr, f p.2) (e3 ▸ tells_mem hp) ho
  exact ⟨⟨same_ok l e2 p hp, hg.1⟩, hg.2 _ _ rfl⟩
end
end Go.Eng

/- The engine, part ZB: contracts of functions at all their arguments of a form, joined to the evaluator's calls. No conditions: lemmas alone. -/
namespace Go.Eng
open Go Go.RowKit

theorem cpost_of {E : Env} {h : Tr O} {n : Nat} {w : World} {v : V} (g : Good E h w) (hd : Dom E n) (hv : v.free = true) {e : Ending} {w' : World} (ho : ∃ E', outrel E' (.ret v) e) (b : Below w.heap.size w w') : CPost E h n w (.ret v) h n e w' := by
  refine ⟨E, ⟨E.le_refl, ⟨?_, g.inj, fun m b' s hm => Nat.lt_of_lt_of_le (g.bnd m b' s hm) b.size⟩, b.size, b.tape, b.os, b.output, fun k hk _ => b.block k hk, fun m b' s hm he _ => ⟨m, s, hm, he, _root_.id⟩⟩, fun _ _ => rfl, hd, Nat.le_refl _, ?_⟩
  · intro m o hm
    obtain ⟨b', s, h1, h2⟩ := g.rel m o hm
    exact ⟨b', s, h1, orel_mono E.le_refl rfl (b.block b' (g.bnd m b' s h1)) h2⟩
  · obtain ⟨E1, ho⟩ := ho
    cases e with
    | returned v' => exact free_rel _ _ hv ho
    | _ => exact ho.elim

/-- contracts: functions that write nothing that was there, and give what is told of their arguments and of what these reach -/
def CtrOk (P : Program) (S : Ctr) : Prop := ∀ f args h A v, S f args h = some (A, v) → f < P.funcs.size ∧ v.free = true ∧ ((∀ a ∈ A, a) →
  ∀ E n w args', vrels E args args' → Good E h w → Dom E n → callee P f = true → Calls P f args'.toArray w fun e w' => (∃ E', outrel E' (.ret v) e) ∧ Below w.heap.size w w')

def noCtr : Ctr := fun _ _ _ => none
theorem noCtr_ok (P : Program) : CtrOk P noCtr := fun f args h A v e => by cases e

def addS (f : FuncId) (spec : List V → Tr O → Option (List Prop × V)) (S : Ctr) : Ctr := fun g args h => match Nat.beq g f with
  | true => spec args h
  | false => S g args h

def PureA (P : Program) (f : FuncId) (spec : List V → Tr O → Option (List Prop × V)) : Prop := f < P.funcs.size ∧ ∀ args h A v, spec args h = some (A, v) → v.free = true ∧ ((∀ a ∈ A, a) →
  ∀ E n w args', vrels E args args' → Good E h w → Dom E n → callee P f = true → Calls P f args'.toArray w fun e w' => (∃ E', outrel E' (.ret v) e) ∧ Below w.heap.size w w')

theorem addS_ok {P : Program} {f : FuncId} {spec : List V → Tr O → Option (List Prop × V)} {S : Ctr} (hp : PureA P f spec) (hS : CtrOk P S) : CtrOk P (addS f spec S) := by
  intro g args h A v e
  unfold addS at e
  split at e
  · rename_i hg
    have hg := Nat.eq_of_beq_eq_true hg
    subst hg
    exact ⟨hp.1, hp.2 args h A v e⟩
  · exact hS g args h A v e

theorem joinA_ok {P : Program} {S : Ctr} {cf : CallF} (hs : CtrOk P S) (hc : CallOk P cf) : CallOk P (joinA S cf) := by
  intro g args h n out h' n' e E w args' ra gd hd
  unfold joinA at e
  split at e
  · rename_i A v hv
    split at e
    · rename_i hA
      simp only [Option.some.injEq, Prod.mk.injEq] at e
      obtain ⟨rfl, rfl, rfl⟩ := e
      obtain ⟨hlt, hf, hcalls⟩ := hs g args h A v hv
      exact ⟨fun hcal => (hcalls hA E n w args' ra gd hd hcal).mono fun en w' ⟨ho, b⟩ => cpost_of gd hd hf ho b, fun m l s hfm _ => absurd hlt (by rw [hfm]; exact Nat.not_lt.2 (Nat.le_add_right _ _))⟩
    · cases e
  · exact hc g args h n out h' n' e E w args' ra gd hd

/-- what the code returns -/
def retOf (P : Program) (cf : CallF) (F : Nat) (fn : Func) (p : X × St) : Option V := match p.1 with
  | .normal => match leave P cf F fn p.2.fr p.2.dfs .ret p.2.h p.2.n with
    | some (.ret v, _, _) => some v
    | _ => none
  | .ret => match leave P cf F fn p.2.fr p.2.dfs .ret p.2.h p.2.n with
    | some (.ret v, _, _) => some v
    | _ => none
  | _ => none

theorem retOf_some {P : Program} {cf : CallF} {F : Nat} {fn : Func} {x : X} {s : St} {v : V} (h : retOf P cf F fn (x, s) = some v) : ∃ y, x.plain = some y ∧ (y = .normal ∨ y = .ret) ∧ ∃ h' n', leave P cf F fn s.fr s.dfs .ret s.h s.n = some (.ret v, h', n') := by
  unfold retOf at h
  cases x with
  | normal =>
    simp only at h
    split at h
    · rename_i u h' n' e
      simp only [Option.some.injEq] at h; subst h
      exact ⟨.normal, rfl, .inl rfl, h', n', e⟩
    · cases h
  | ret =>
    simp only at h
    split at h
    · rename_i u h' n' e
      simp only [Option.some.injEq] at h; subst h
      exact ⟨.ret, rfl, .inr rfl, h', n', e⟩
    · cases h
  | _ => cases h

def startSt (args : List V) (h : Tr O) (n : Nat) : St := { fr := frameOf args 0 .nil, h := h, n := n, dfs := [] }

section
variable {P : Program} {S : Ctr} {cf : CallF} {H : List (Nat × Fix)} {F : Nat} {f : FuncId} {fn : Func} {code : Code}

/-- a run of a function's code by its paths -/
def funM (P : Program) (S : Ctr) (cf : CallF) (H : List (Nat × Fix)) (F : Nat) (code : Code) (args : List V) (h : Tr O) (n : Nat) : List (Pth × X × St) := orNil (codeM P S cf H F code (startSt args h n))
def funOk (P : Program) (S : Ctr) (cf : CallF) (H : List (Nat × Fix)) (F : Nat) (code : Code) (args : List V) (h : Tr O) (n : Nat) : Bool := (codeM P S cf H F code (startSt args h n)).isSome

/-- a call, by its paths, where some rows are read -/
theorem calls_tellsE (hm : P.follows .mixedOrders = true) (hpo : progOk P = true) (hS : CtrOk P S) (hcf : CallOk P cf) (hf : P.funcs[f]? = some fn) (hb : fn.body = some code) {args : List V} {args' : List Value} {w : World} {v : V} {E1 : Env} {h1 : Tr O} {n1 : Nat}
    (g : Good E1 h1 w) (hd : Dom E1 n1) (hro : ∀ m, ¬ wlive h1 m) (ra : vrels E1 args args') (l : (Nat.ble args.length fn.ntmps && Nat.blt fn.ntmps top) = true)
    (G : List (List (Bool × Bool) × List Prop × Option V)) (e1 : funOk P S cf H F code args h1 n1 = true) (e2 : samesL (funM P S cf H F code args h1 n1) = samesR (funM P S cf H F code args h1 n1))
    (e3 : tells (retOf P (joinA S cf) F fn) (funM P S cf H F code args h1 n1) = G) (h : ∀ g ∈ G, (∀ b ∈ g.1, b.1 = b.2) → (∀ a ∈ g.2.1, a) ∧ g.2.2 = some v) :
    Calls P f args'.toArray w fun e w' => (∃ E, outrel E (.ret v) e) ∧ Below w.heap.size w w' := by
  simp only [Bool.and_eq_true] at l
  refine calls_of_TE (F := F) hm hpo (joinA_ok hS hcf) hf hb g hd hro ra (Nat.le_of_ble_eq_true l.1) (Nat.le_of_ble_eq_true l.2) ?_
  refine T_tells (joinA_ok hS hcf) hm (retOf P (joinA S cf) F fn) G (progOk_spec hpo hf hb) e1 e2 e3 fun g hg hc => ?_
  obtain ⟨k1, k2⟩ := h g hg hc
  refine ⟨k1, fun x s' hx => ?_⟩
  rw [k2] at hx
  obtain ⟨y, q1, q2, q3⟩ := retOf_some hx
  exact ⟨y, q1, q2, q3⟩

/-- a call whose arguments name no memory -/
theorem calls_tells (hm : P.follows .mixedOrders = true) (hpo : progOk P = true) (hS : CtrOk P S) (hcf : CallOk P cf) (hf : P.funcs[f]? = some fn) (hb : fn.body = some code) {args : List V} {args' : List Value} {w : World} {v : V} {E : Env}
    (hfr : V.frees args = true) (ra : vrels E args args') (l : (Nat.ble args.length fn.ntmps && Nat.blt fn.ntmps top) = true)
    (G : List (List (Bool × Bool) × List Prop × Option V)) (e1 : funOk P S cf H F code args .nil 0 = true) (e2 : samesL (funM P S cf H F code args .nil 0) = samesR (funM P S cf H F code args .nil 0))
    (e3 : tells (retOf P (joinA S cf) F fn) (funM P S cf H F code args .nil 0) = G) (h : ∀ g ∈ G, (∀ b ∈ g.1, b.1 = b.2) → (∀ a ∈ g.2.1, a) ∧ g.2.2 = some v) :
    Calls P f args'.toArray w fun e w' => (∃ E, outrel E (.ret v) e) ∧ Below w.heap.size w w' :=
  calls_tellsE hm hpo hS hcf hf hb (good0 w) (dom0 0) (fun m k => absurd rfl k.live) (frees_rel _ _ hfr ra) l G e1 e2 e3 h
end
end Go.Eng

/- The engine, part ZC: rows that are read; loops by an invariant. No conditions: lemmas alone. -/
namespace Go.Eng
open Go Go.RowKit

/-! ### two rows by names of our own -/
def Env.two (E : Env) (a b : Option Nat) : Env := ⟨fun j => match j with | 0 => a.bind E.ι | 1 => b.bind E.ι | _ => none, E.β⟩
def twoH (x y : Option O) : Tr O := (Tr.nil.set 0 x).set 1 y

theorem twoH_get (x y : Option O) (m : Nat) : (twoH x y).get m = match m with | 0 => x | 1 => y | _ => none := by
  unfold twoH
  rw [Tr.get_set _ _ _ (by decide)]
  split
  · rename_i h; subst h; rfl
  · rename_i h
    rw [Tr.get_set _ _ _ (by decide)]
    split
    · rename_i h; subst h; rfl
    · rename_i h0
      match m, h, h0 with
      | m + 2, _, _ => rfl

theorem orel_beta {E E' : Env} {w : World} {b s : Nat} {k : IntKind} {ks : List Int} (hb : E'.β = E.β) (r : orel E w b s (.ints k ks)) : orel E' w b s (.ints k ks) := by
  obtain ⟨c, el, fz, h1, h2, h3⟩ := r
  exact ⟨c, el, fz, h1, by rw [hb]; exact h2, h3⟩

def rowO (k : Option (List Int)) : Option O := k.map (.ints .i64)

theorem two_ok {E : Env} {h : Tr O} {w : World} {a b : Option Nat} {x y : Option (List Int)} (g : Good E h w) (hx : ∀ ks, x = some ks → ∃ m, a = some m ∧ h.get m = some (.ints .i64 ks)) (hy : ∀ ks, y = some ks → ∃ m, b = some m ∧ h.get m = some (.ints .i64 ks)) :
    Good (E.two a b) (twoH (rowO x) (rowO y)) w ∧ Dom (E.two a b) 2 ∧ ∀ m, ¬ wlive (twoH (rowO x) (rowO y)) m := by
  have hwl : ∀ m, ¬ wlive (twoH (rowO x) (rowO y)) m := by
    rintro m ⟨o, h1, h2⟩
    rw [twoH_get] at h1
    split at h1
    · cases x with
      | none => cases h1
      | some ks => simp only [rowO, Option.map_some, Option.some.injEq] at h1; subst h1; cases h2
    · cases y with
      | none => cases h1
      | some ks => simp only [rowO, Option.map_some, Option.some.injEq] at h1; subst h1; cases h2
    · cases h1
  refine ⟨⟨fun m o hm => ?_, fun m _ _ _ _ _ hm => absurd hm (hwl m), fun m b' s e => ?_⟩, fun m hm => ?_, hwl⟩
  · rw [twoH_get] at hm
    split at hm
    · cases x with
      | none => cases hm
      | some ks =>
        simp only [rowO, Option.map_some, Option.some.injEq] at hm; subst hm
        obtain ⟨m0, rfl, k2⟩ := hx ks rfl
        obtain ⟨b', s, q1, q2⟩ := g.rel m0 _ k2
        exact ⟨b', s, q1, orel_beta rfl q2⟩
    · cases y with
      | none => cases hm
      | some ks =>
        simp only [rowO, Option.map_some, Option.some.injEq] at hm; subst hm
        obtain ⟨m0, rfl, k2⟩ := hy ks rfl
        obtain ⟨b', s, q1, q2⟩ := g.rel m0 _ k2
        exact ⟨b', s, q1, orel_beta rfl q2⟩
    · cases hm
  · match m, e with
    | 0, e =>
      cases a with
      | none => cases e
      | some m0 => exact g.bnd m0 b' s e
    | 1, e =>
      cases b with
      | none => cases e
      | some m0 => exact g.bnd m0 b' s e
    | m + 2, e => cases e
  · match m, hm with
    | 0, hm => exact absurd hm (by show ¬ 2 ≤ 0; omega)
    | 1, hm => exact absurd hm (by show ¬ 2 ≤ 1; omega)
    | m + 2, _ => rfl

theorem two_slc0 {E : Env} {m : Nat} {b : Option Nat} {o l c e : Nat} {v : Value} (r : vrel E (.slc (some (m, o)) l c e) v) : vrel (E.two (some m) b) (.slc (some (0, o)) l c e) v := r
theorem two_slc1 {E : Env} {m : Nat} {a : Option Nat} {o l c e : Nat} {v : Value} (r : vrel E (.slc (some (m, o)) l c e) v) : vrel (E.two a (some m)) (.slc (some (1, o)) l c e) v := r

/-! ### code by its paths, step by step -/
section
variable {P : Program} {S : Ctr} {cf : CallF} {H : List (Nat × Fix)} {F N : Nat} {w0 : World} {c : Code} {s : St} {Q : Exit → St → Prop}

def normF (live : List Nat) (p : X × St) : Option St := match p.1 with
  | .normal => norm live p.2
  | _ => none

/-- the first of two pieces comes to one state -/
theorem T_next (hcf : CallOk P (joinA S cf)) (hm : P.follows .mixedOrders = true) (H : List (Nat × Fix)) (F : Nat) (live : List Nat) (s1 : St) (A : List Prop) (hs : isSeq c = true) (hc : codeOk N (seqL c) = true) (e1 : (codeM P S cf H F (seqL c) s).isSome = true)
    (e2 : samesL (orNil (codeM P S cf H F (seqL c) s)) = samesR (orNil (codeM P S cf H F (seqL c) s))) (e3 : tells (normF live) (orNil (codeM P S cf H F (seqL c) s)) = [([], A, some s1)]) (hA : ∀ a ∈ A, a) (h : T P N w0 (seqR c) s1 Q) : T P N w0 c s Q := by
  refine T_seq' hs (T_tells hcf hm (normF live) _ hc e1 e2 e3 fun g hg _ => ?_)
  simp only [List.mem_singleton] at hg; subst hg
  refine ⟨hA, fun x s' hx => ?_⟩
  cases x with
  | normal => exact ⟨.normal, rfl, T_norm hx h⟩
  | _ => cases hx

/-- a loop, by an invariant with a measure -/
theorem T_loop_inv (I : Nat → St → Prop) (hl : isLoop c = true) (h : ∀ k s, I k s → T P N w0 (inner c) s (andThen (fun s' => ∃ k', k' < k ∧ I k' s') Q)) (k : Nat) (h0 : I k s) : T P N w0 c s Q := by
  refine T_loop (k + 1) hl ?_
  have key : ∀ (k : Nat) (n : Nat) (s : St), k < n → I k s → TR P N w0 (inner c) Q n s := by
    intro k
    induction k using Nat.strongRecOn with
    | _ k ih =>
      intro n s hn hi
      cases n with
      | zero => omega
      | succ n =>
        simp only [TR]
        refine T_mono (h k s hi) fun y s' hq => ?_
        cases y with
        | normal =>
          obtain ⟨k', hk, hi'⟩ := hq
          exact ih k' hk n s' (by omega) hi'
        | _ => exact hq
  exact key k (k + 1) s (by omega) h0

/-- the post of a function: it returns v -/
def RetQ (P : Program) (cf : CallF) (F : Nat) (fn : Func) (v : V) (y : Exit) (s' : St) : Prop := (y = .normal ∨ y = .ret) ∧ ∃ h' n', leave P cf F fn s'.fr s'.dfs .ret s'.h s'.n = some (.ret v, h', n')

theorem T_ret (hcf : CallOk P (joinA S cf)) (hm : P.follows .mixedOrders = true) (H : List (Nat × Fix)) (F : Nat) (fn : Func) (v : V) (G : List (List (Bool × Bool) × List Prop × Option V)) (hc : codeOk N c = true) (e1 : (codeM P S cf H F c s).isSome = true)
    (e2 : samesL (orNil (codeM P S cf H F c s)) = samesR (orNil (codeM P S cf H F c s))) (e3 : tells (retOf P (joinA S cf) F fn) (orNil (codeM P S cf H F c s)) = G) (h : ∀ g ∈ G, (∀ b ∈ g.1, b.1 = b.2) → (∀ a ∈ g.2.1, a) ∧ g.2.2 = some v) :
    T P N w0 c s (RetQ P (joinA S cf) F fn v) :=
  T_tells hcf hm (retOf P (joinA S cf) F fn) G hc e1 e2 e3 fun g hg hc => by
    obtain ⟨k1, k2⟩ := h g hg hc
    refine ⟨k1, fun x s' hx => ?_⟩
    rw [k2] at hx
    exact retOf_some hx

/-- what a round of a loop comes to: the state afresh, the result -/
inductive Res where
  | next (s : St)
  | exit (id : Nat) (s : St)
  | ret (v : V)
  | bad

def roundF (P : Program) (cf : CallF) (F : Nat) (fn : Func) (live : List Nat) (p : X × St) : Res := match p.1 with
  | .normal => match norm live p.2 with
    | some s => .next s
    | none => .bad
  | .exit id => match norm live p.2 with
    | some s => .exit id s
    | none => .bad
  | .ret => match retOf P cf F fn p with
    | some v => .ret v
    | none => .bad
  | .panic _ => .bad

def Res.post (P : Program) (cf : CallF) (F : Nat) (fn : Func) (live : List Nat) (I : Nat → St → Prop) (k : Nat) (Q : Exit → St → Prop) : Res → Prop
  | .next s => ∃ k', k' < k ∧ I k' s
  | .exit id s => ∀ s', norm live s' = some s → Q (.exit id) s'
  | .ret v => ∀ s', RetQ P cf F fn v .ret s' → Q .ret s'
  | .bad => False

/-- a loop whose rounds are told by paths -/
theorem T_rounds (hcf : CallOk P (joinA S cf)) (hm : P.follows .mixedOrders = true) (H : Nat → List (Nat × Fix)) (F : Nat) (fn : Func) (live : List Nat) (I : Nat → St → Prop) (hl : isLoop c = true) (hc : codeOk N (inner c) = true)
    (h : ∀ k s, I k s → ∃ (j : Nat) (G : List (List (Bool × Bool) × List Prop × Res)), (codeM P S cf (H j) F (inner c) s).isSome = true ∧ samesL (orNil (codeM P S cf (H j) F (inner c) s)) = samesR (orNil (codeM P S cf (H j) F (inner c) s)) ∧
      tells (roundF P (joinA S cf) F fn live) (orNil (codeM P S cf (H j) F (inner c) s)) = G ∧ ∀ g ∈ G, (∀ b ∈ g.1, b.1 = b.2) → (∀ a ∈ g.2.1, a) ∧ g.2.2.post P (joinA S cf) F fn live I k Q)
    (k : Nat) (h0 : I k s) : T P N w0 c s Q := by
  refine T_loop_inv (fun k s => ∃ s1, norm live s = some s1 ∧ I k s1 ∨ I k s) hl ?_ k ⟨s, .inr h0⟩
  rintro k s ⟨s1, hi⟩
  have step : ∀ s, I k s → T P N w0 (inner c) s (andThen (fun s' => ∃ k', k' < k ∧ ∃ s1, norm live s' = some s1 ∧ I k' s1 ∨ I k' s') Q) := by
    intro s hi
    obtain ⟨j, G, e1, e2, e3, hG⟩ := h k s hi
    refine T_tells hcf hm _ G hc e1 e2 e3 fun g hg hcn => ?_
    obtain ⟨k1, k2⟩ := hG g hg hcn
    refine ⟨k1, fun x s' hx => ?_⟩
    rw [← hx] at k2
    cases x with
    | normal =>
      simp only [roundF] at k2
      split at k2
      · rename_i s2 hs2
        obtain ⟨k', q1, q2⟩ := k2
        exact ⟨.normal, rfl, k', q1, s2, .inl ⟨hs2, q2⟩⟩
      · exact k2.elim
    | exit id =>
      simp only [roundF] at k2
      split at k2
      · rename_i s2 hs2
        exact ⟨.exit id, rfl, k2 s' hs2⟩
      · exact k2.elim
    | ret =>
      simp only [roundF] at k2
      split at k2
      · rename_i v hv
        obtain ⟨y, q1, q2, q3⟩ := retOf_some hv
        exact ⟨.ret, rfl, k2 s' ⟨.inr rfl, q3⟩⟩
      · exact k2.elim
    | panic v => exact k2.elim
  rcases hi with ⟨hn, hi⟩ | hi
  · exact T_norm hn (step s1 hi)
  · exact step s hi
end
end Go.Eng

/- The engine, part ZD: a statement's operations one behind the other; a call whose result is told by a word. No conditions: lemmas alone. -/
namespace Go.Eng
open Go Go.RowKit

def TL (P : Program) (N : Nat) (w0 : World) (ops : Array Oper) (l : List Oper) (s : St) (Q : Exit → St → Prop) : Prop :=
  ∀ (K : Exit → Act → World → Prop) (a : Act) (w : World), Run0 N w0 s a w → (∀ y s' a' w', Q y s' → Run0 N w0 s' a' w' → K y a' w') → wpListIn (fz none) 0 P ops K l a w

def opsOf : Code → Array Oper | .region _ ops _ => ops | _ => #[]
def isSeqR : Code → Bool | .region _ _ false => true | _ => false

section
variable {P : Program} {S : Ctr} {cf : CallF} {F N : Nat} {w0 : World} {c : Code} {s : St} {Q : Exit → St → Prop}

theorem T_ops (hc : isSeqR c = true) (h : TL P N w0 (opsOf c) (opsOf c).toList s Q) : T P N w0 c s Q := by
  unfold isSeqR at hc
  split at hc
  · intro K a w r k
    exact (wpIn_wide (n := 0)).1 (wpIn_region_list (F := fz none) (h K a w r k))
  · cases hc

theorem opIn_mono {F : Fence} {n : Nat} {o : Oper} {a : Act} {w : World} {K K' : Act → World → Prop} {Q Q' : Exit → Act → World → Prop} (hk : ∀ a w, K a w → K' a w) (hq : ∀ y a w, y ≠ .normal → Q y a w → Q' y a w) (h : o.wpIn F n P a w K Q) : o.wpIn F n P a w K' Q' := by
  have hlet : LetsOut Q → LetsOut Q' := fun ⟨a, w, q⟩ => ⟨a, w, hq _ a w (by simp) q⟩
  unfold Oper.wpIn at *
  refine ⟨h.1, ?_⟩
  have hh := h.2
  generalize (o.semAt F.round a.eval).run P w = r at *
  cases r with
  | ok x w' =>
    cases x <;> simp only [Oper.uponIn] at hh ⊢ <;>
      first
        | exact hk _ _ hh
        | exact ⟨hh.1, CallsIn.mono hh.2 (fun e w'' he => by cases e <;> first | exact hk _ _ he | exact hq _ _ _ (by simp) he | exact hlet he)⟩
        | exact ⟨hh.1, RowsIn.mono hh.2 (fun _ _ he => hk _ _ he)⟩
        | exact ⟨hh.1, RoundIn.mono hh.2 (fun e w'' he => by cases e <;> first | exact hk _ _ he | exact hq _ _ _ (by simp) he | exact hlet he)⟩
        | exact hh
  | halt x w' => cases x <;> simp only [Oper.uponIn] at hh ⊢ <;> first | exact hq _ _ _ (by simp) hh | exact hh

theorem wpListIn_append {F : Fence} {n : Nat} {ops : Array Oper} {K : Exit → Act → World → Prop} : ∀ (l1 l2 : List Oper) (a : Act) (w : World), wpListIn F n P ops (fun y a w => match y with | .normal => wpListIn F n P ops K l2 a w | y => K y a w) l1 a w → wpListIn F n P ops K (l1 ++ l2) a w
  | [], l2, a, w, h => h
  | o :: l1, l2, a, w, h => by
    simp only [List.cons_append]
    unfold wpListIn at h ⊢
    split at h
    · rename_i hw
      rw [if_pos hw]
      exact opIn_mono (fun a w q => wpListIn_append l1 l2 a w q) (fun y a w hy q => by cases y <;> first | exact absurd rfl hy | exact q) h
    · rename_i hw
      rw [if_neg hw]
      exact ⟨h.1, wpListIn_append l1 l2 _ w h.2⟩

/-- the first operations come to one state -/
theorem TL_next (hcf : CallOk P (joinA S cf)) (H : List (Nat × Fix)) {ops : Array Oper} {l l1 l2 : List Oper} (hl : l = l1 ++ l2) (hd : ∀ o ∈ l1, dstOk N o.dst) (s1 : St) (A : List Prop) (e1 : (seqM P S cf H ops l1 s).isSome = true)
    (e2 : samesL (orNil (seqM P S cf H ops l1 s)) = samesR (orNil (seqM P S cf H ops l1 s))) (live : List Nat) (e3 : tells (normF live) (orNil (seqM P S cf H ops l1 s)) = [([], A, some s1)]) (hA : ∀ a ∈ A, a) (h : TL P N w0 ops l2 s1 Q) : TL P N w0 ops l s Q := by
  subst hl
  intro K a w r k
  refine wpListIn_append l1 l2 a w ?_
  obtain ⟨pl, hpl⟩ := Option.isSome_iff_exists.1 e1
  rw [hpl] at e2 e3
  simp only [orNil] at e2 e3
  obtain ⟨⟨p, hp, ho⟩, h2⟩ := seqM_sound P S cf H ops l1 s pl hpl
  have hg := tells_mem (f := normF live) hp
  rw [e3, List.mem_singleton] at hg
  simp only [Prod.mk.injEq] at hg
  have hrun := h2 p hp ho ⟨same_ok pl e2 p hp, by rw [hg.2.1]; exact hA⟩
  obtain ⟨E, sr, u⟩ := id r
  obtain ⟨pp, x, s'⟩ := p
  have hn : normF live (x, s') = some s1 := hg.2.2
  cases x with
  | normal =>
    refine seq_sound (rnd := none) hcf l1 s .normal s' (.inl rfl) hd hrun E a w _ sr fun E' a' w' x' u' hlow hn' sr' hx => ?_
    cases x' <;> first | (exact hx.elim) | skip
    exact h K a' w' (norm_sound hn ⟨E', sr', u.trans u'⟩) k
  | _ => cases hn

/-- a call, and what its contract tells of the result and of the memory behind it -/
theorem TL_call {ops : Array Oper} {o : Oper} {l : List Oper} {f : FuncId} {args : List V} (hw : wantedV ops o s.fr = some true) (hs : stepOp P o s.fr s.h s.n = some (.call f args)) (hcal : callee P f = true) (hd : dstOk N o.dst) (R : V → Tr O → Nat → Prop)
    (hc : ∀ E w args', vrels E args args' → Good E s.h w → Dom E s.n → Calls P f args'.toArray w fun e w' => ∃ v h' n', R v h' n' ∧ CPost E s.h s.n w (.ret v) h' n' e w')
    (h : ∀ v h' n', R v h' n' → ∃ fr, putD s.fr o.dst v = some fr ∧ TL P N w0 ops l { s with fr := fr, h := h', n := n' } Q) : TL P N w0 ops (o :: l) s Q := by
  intro K a w r k
  obtain ⟨E, sr, u⟩ := id r
  have hopd : ∀ y ∈ o.op.operands, OpdRel E s.fr a.eval y := fun y _ => opdRel_of_frel sr.fr y
  obtain ⟨args', h1, hrun⟩ := step_sound sr.good (sr.dom s.n (Nat.le_refl _)) hopd hs
  unfold wpListIn
  rw [if_pos (wanted_rel (E := E) (fun _ _ _ d _ _ _ v hv => sr.fr d v hv) hw)]
  refine ⟨fun _ _ => trivial, ?_⟩
  show o.uponIn (fz none) 0 P a _ _ ((Oper.semAt none a.eval o).run P w)
  rw [Oper.semAt_none]
  rcases hrun with ⟨hrun, _⟩ | ⟨m, l', s', hf, _, _⟩
  · rw [hrun, Oper.uponIn_enter]
    refine ⟨fun hd => by simp [fz, Fence.wide] at hd, ?_⟩
    have hcc : CallsIn Fence.wide (0 - 1) P f args'.toArray w _ := callsIn_wide.2 ((hc E w args' h1 sr.good sr.dom).mono (R' := fun e w'' => match e, w'' with
      | .returned v, w'' => wpListIn (fz none) 0 P ops K l (a.put o.dst v) w''
      | .panicked chain, w'' => K (.panic chain) a w''
      | .outgrown, _ => LetsOut K) fun e w'' ⟨v, h', n', hR, E', u1, u2, u3, u4, u5⟩ => ?_)
    · exact hcc
    · cases e with
      | returned v' =>
        obtain ⟨fr, hput, hT⟩ := h v h' n' hR
        exact hT K _ w'' ⟨E', ⟨u1.good, u3, frel_put (frel_mono u1.le sr.fr) hput u5 (by rw [sr.size]; exact hd), by rw [put_size]; exact sr.size, by rw [put_defers]; exact drel_mono u1.le _ _ sr.dfs⟩, u.trans u1⟩ k
      | panicked _ => exact u5.elim
      | outgrown => exact u5.elim
  · exfalso
    unfold callee at hcal
    rw [hf, Array.getElem?_eq_none (Nat.le_add_right _ _)] at hcal
    cases hcal
end
end Go.Eng

/- The engine, part ZE: a call that gives a row of its own making. No conditions: lemmas alone. -/
namespace Go.Eng
open Go Go.RowKit

def allI : List V → Bool
  | [] => true
  | .int .i64 _ :: r => allI r
  | _ :: _ => false

theorem allI_ints : ∀ {l : List V}, allI l = true → ∃ ks : List Int, l = ks.map (.int .i64)
  | [], _ => ⟨[], rfl⟩
  | v :: r, h => by
    unfold allI at h
    split at h
    · rename_i heq; cases heq
    · rename_i x r' heq
      cases heq
      obtain ⟨ks, hk⟩ := allI_ints h
      exact ⟨x :: ks, by rw [hk]; rfl⟩
    · cases h

theorem orel_ints {E : Env} {w : World} {b s : Nat} {ks : List Int} (r : orel E w b s (.cells (ks.map (.int .i64)))) : orel E w b s (.ints .i64 ks) := by
  obtain ⟨c, el, fz, h1, h2, _, h4⟩ := r
  refine ⟨c, el, fz, h1, h2, fun i x e => ?_⟩
  obtain ⟨v', k1, k2⟩ := h4 i (.int .i64 x) (by rw [List.getElem?_map, e]; rfl)
  simp only [vrel] at k2
  rw [k1, k2]

/-- a row of one's own: to be read, or not looked at -/
def rowKind (o : Bool) (ks : List Int) : O := match o with
  | true => .own .i64 ks
  | false => .ints .i64 ks
def rowLike : O → List Int → Prop
  | .cells cs, ks => cs = ks.map (.int .i64)
  | .own .i64 ks', ks => ks' = ks
  | _, _ => False
theorem rowLike_rel {E : Env} {w : World} {b s : Nat} {o : O} {ks : List Int} (h : rowLike o ks) (r : orel E w b s o) : ∃ c el fz, w.heap[b]? = some (.cells c el fz) ∧ c.size = E.β b ∧ ∀ (i : Nat) (x : Int), ks[i]? = some x → c[s + i]? = some (.int .i64 x) := by
  unfold rowLike at h
  split at h
  · subst h; exact orel_ints r
  · subst h; exact r
  · exact h.elim

/-- a row that a call has made, under the caller's next name -/
theorem cpost_row {E E2 : Env} {h h2 : Tr O} {n q : Nat} {w w2 : World} {ks : List Int} (g : Good E h w) (hd : Dom E n) (hn : n < top) (bl : Below w.heap.size w w2) (g2 : Good E2 h2 w2) {o2 : O} (own : Bool) (hq : h2.get q = some o2) (ho2 : rowLike o2 ks) (hi : ∀ b s, E2.ι q = some (b, s) → w.heap.size ≤ b) :
    ∃ E', Upd E h w E' (h.set n (some (rowKind own ks))) w2 ∧ (∀ m, m < n → E'.ι m = E.ι m) ∧ Dom E' (n + 1) ∧ ∀ l c v', vrel E2 (.slc (some (q, 0)) l c 1) v' → vrel E' (.slc (some (n, 0)) l c 1) v' := by
  obtain ⟨b, s, e1, r1⟩ := g2.rel q _ hq
  have hb := hi b s e1
  have hnone : E.ι n = none := hd n (Nat.le_refl _)
  have hbw2 : b < w2.heap.size := g2.bnd q b s e1
  refine ⟨E.put n b s (E2.β b), ?_, fun m hm => Env.put_ne (by omega), ?_, ?_⟩
  · have hle : E.le (E.put n b s (E2.β b)) := Env.le_put hnone fun m x t e hx => by have := g.bnd m x t e; omega
    refine ⟨hle, ⟨?_, ?_, ?_⟩, bl.size, bl.tape, bl.os, bl.output, fun k hk _ => bl.block k hk, ?_⟩
    · intro m o hm
      rw [Tr.get_set _ _ _ hn] at hm
      by_cases e : m = n
      · subst e; rw [if_pos rfl] at hm; cases hm
        refine ⟨b, s, Env.put_same, ?_⟩
        obtain ⟨c, el, fz, k1, k2, k3⟩ := rowLike_rel ho2 r1
        cases own <;> exact ⟨c, el, fz, k1, by simp [Env.put, k2], k3⟩
      · rw [if_neg e] at hm
        obtain ⟨b', t, h1, h2'⟩ := g.rel m o hm
        exact ⟨b', t, by rw [Env.put_ne e]; exact h1, orel_mono hle (hle m b' t h1).2 (bl.block b' (g.bnd m b' t h1)) h2'⟩
    · intro m m' b' t t' hne hm hm' e e'
      by_cases hmn : m = n
      · subst hmn
        rw [Env.put_same] at e; cases e
        rw [Env.put_ne (fun q => hne q.symm)] at e'
        have := g.bnd m' _ _ e'; omega
      rw [Env.put_ne hmn] at e
      by_cases e2 : m' = n
      · subst e2
        rw [Env.put_same] at e'; cases e'
        have := g.bnd m _ _ e; omega
      · rw [Env.put_ne e2] at e'
        rw [Tr.get_set_ne _ _ hn e2] at hm'
        exact g.inj m m' b' t t' hne (wlive_ne hn hm hmn) hm' e e'
    · intro m b' t e
      by_cases q' : m = n
      · subst q'; rw [Env.put_same] at e; cases e; exact hbw2
      · rw [Env.put_ne q'] at e; exact Nat.lt_of_lt_of_le (g.bnd m b' t e) bl.size
    · intro m b' t hm e hlt
      by_cases q' : m = n
      · subst q'; rw [Env.put_same] at e; cases e; omega
      · rw [Env.put_ne q'] at e; rw [Tr.get_set_ne _ _ hn q'] at hm
        exact ⟨m, t, hm, e, fun k => wlive_ne hn k q'⟩
  · intro m hm
    have hm : n + 1 ≤ m := hm
    rw [Env.put_ne (by omega)]; exact hd m (by show n ≤ m; omega)
  · rintro l c v' ⟨b', s', o', cap', k1, k2, k3, k4, k5, k6⟩
    rw [e1] at k1; cases k1
    exact ⟨b, s, o', cap', Env.put_same, k2, k3, k4, by simp [Env.put]; omega, k6⟩

/-- a call, from its code: what its end tells, in memory and all -/
theorem calls_of_TQ {P : Program} {cf : CallF} {F : Nat} (hm : P.follows .mixedOrders = true) (hpo : progOk P = true) (hcf : CallOk P cf) {f : FuncId} {fn : Func} {code : Code} (hf : P.funcs[f]? = some fn) (hb : fn.body = some code) {args : List V} {args' : List Value} {w : World} {E1 : Env} {h1 : Tr O} {n1 : Nat}
    (g : Good E1 h1 w) (hd : Dom E1 n1) (hro : ∀ m, ¬ wlive h1 m) (ra : vrels E1 args args') (l : (Nat.ble args.length fn.ntmps && Nat.blt fn.ntmps top) = true) (R : V → Tr O → Prop)
    (h : T P fn.ntmps w code (startSt args h1 n1) (fun y s' => (y = .normal ∨ y = .ret) ∧ ∃ v h' n', leave P cf F fn s'.fr s'.dfs .ret s'.h s'.n = some (.ret v, h', n') ∧ R v h')) :
    Calls P f args'.toArray w fun e w' => ∃ v h' E, R v h' ∧ outrel E (.ret v) e ∧ Upd0 w E h' w' := by
  simp only [Bool.and_eq_true] at l
  obtain ⟨hfr, hsz⟩ := frel_enter (n := fn.ntmps) ra (Nat.le_of_ble_eq_true l.1) (Nat.le_of_ble_eq_true l.2)
  refine callsIn_wide.1 (callsIn_of_wp_marks (n := 0) hf hb trivial (wpIn_wide.2 ?_))
  refine h _ _ w ⟨E1, ⟨g, hd, hfr, hsz, rfl⟩, Upd0.init g hro⟩ fun y s' a' w' ⟨hy, v, h', n', hl, hR⟩ r => ?_
  have key : LeavesInM Fence.wide 0 P fn a'.tmps (fun e w' => ∃ v h' E, R v h' ∧ outrel E (.ret v) e ∧ Upd0 w E h' w') a'.defers .returning w' := by
    obtain ⟨E, sr, u⟩ := r
    exact leave_sound hcf hm hpo s'.dfs .ret s'.h s'.n _ h' n' hl E w' a'.defers .returning _ sr.good sr.dom sr.fr sr.dfs trivial fun E2 w2 en u2 hlow2 hd2 hn2 ho => ⟨v, h', E2, hR, ho, u.trans u2⟩
  rcases hy with rfl | rfl <;> exact key

theorem Upd0.fresh {w0 w : World} {E : Env} {h : Tr O} {q : Nat} {o : O} (u : Upd0 w0 E h w) (hq : h.get q = some o) (hw : o.wr = true) : ∀ b s, E.ι q = some (b, s) → w0.heap.size ≤ b := by
  intro b s e
  by_cases q' : b < w0.heap.size
  · exact (u.img q b s ⟨_, hq, hw⟩ e q').elim
  · omega
end Go.Eng

/- The engine, part ZF: several pieces at once; three rows. No conditions: lemmas alone. -/
namespace Go.Eng
open Go Go.RowKit

section
variable {P : Program} {S : Ctr} {cf : CallF} {F N : Nat} {w0 : World}

theorem T_headE (hcf : CallOk P cf) (hm : P.follows .mixedOrders = true) : ∀ (k : Nat) {c : Code} {s s1 : St} {Q : Exit → St → Prop}, codeOk N c = true → exec P cf F (headN k c) s = some (.normal, s1) → T P N w0 (tailN k c) s1 Q → T P N w0 c s Q := by
  intro k
  have skipCase : ∀ {c : Code} {s s1 : St} {Q : Exit → St → Prop}, exec P cf F .skip s = some (.normal, s1) → T P N w0 c s1 Q → T P N w0 c s Q := by
    intro c s s1 Q e h
    simp only [exec, Option.some.injEq, Prod.mk.injEq, true_and] at e
    subst e; exact h
  induction k with
  | zero => intro c s s1 Q _ e h; cases c <;> exact skipCase e h
  | succ k ih =>
    intro c s s1 Q hok e h
    cases c <;> first | exact skipCase e h | skip
    rename_i a b
    simp only [codeOk, Bool.and_eq_true] at hok
    simp only [headN, exec] at e
    split at e
    · rename_i s' h1
      exact T_seq (T_exec (F := F) hcf hm hok.1 h1 rfl (ih hok.2 e h))
    · rename_i hr
      first | exact (hr s1 rfl).elim | exact (hr s1 e).elim

/-- the first so many pieces come to one state -/
theorem T_nextN (k : Nat) (hcf : CallOk P (joinA S cf)) (hm : P.follows .mixedOrders = true) (H : List (Nat × Fix)) (F : Nat) (live : List Nat) {c : Code} {s s1 : St} {Q : Exit → St → Prop} {A : List Prop} (hc : codeOk N c = true)
    (e : (codeM P S cf H F (headN k c) s).isSome = true ∧ samesL (orNil (codeM P S cf H F (headN k c) s)) = samesR (orNil (codeM P S cf H F (headN k c) s)) ∧ tells (normF live) (orNil (codeM P S cf H F (headN k c) s)) = [([], A, some s1)]) (hA : ∀ a ∈ A, a) (h : T P N w0 (tailN k c) s1 Q) : T P N w0 c s Q := by
  obtain ⟨e1, e2, e3⟩ := e
  obtain ⟨pl, hpl⟩ := Option.isSome_iff_exists.1 e1
  rw [hpl] at e2 e3
  simp only [orNil] at e2 e3
  obtain ⟨⟨p, hp, ho⟩, h2⟩ := codeM_sound P S cf H F (headN k c) s pl hpl
  have hg := tells_mem (f := normF live) hp
  rw [e3, List.mem_singleton] at hg
  simp only [Prod.mk.injEq] at hg
  have hrun := h2 p hp ho ⟨same_ok pl e2 p hp, by rw [hg.2.1]; exact hA⟩
  obtain ⟨pp, x, s'⟩ := p
  have hn : normF live (x, s') = some s1 := hg.2.2
  cases x with
  | normal => exact T_headE (F := F) hcf hm k hc hrun (T_norm hn h)
  | _ => cases hn
end

/-! ### three rows by names of our own -/
def Env.three (E : Env) (a b c : Option Nat) : Env := ⟨fun j => match j with | 0 => a.bind E.ι | 1 => b.bind E.ι | 2 => c.bind E.ι | _ => none, E.β⟩
def threeH (x y z : Option O) : Tr O := ((Tr.nil.set 0 x).set 1 y).set 2 z
theorem threeH_get (x y z : Option O) (m : Nat) : (threeH x y z).get m = match m with | 0 => x | 1 => y | 2 => z | _ => none := by
  unfold threeH
  rw [Tr.get_set _ _ _ (by decide)]
  split
  · rename_i h; subst h; rfl
  · rename_i h2
    have := twoH_get x y m
    unfold twoH at this
    rw [this]
    match m, h2 with
    | 0, _ => rfl
    | 1, _ => rfl
    | m + 3, _ => rfl

theorem three_ok {E : Env} {h : Tr O} {w : World} {a b c : Option Nat} {x y z : Option (List Int)} (g : Good E h w) (hx : ∀ ks, x = some ks → ∃ m, a = some m ∧ h.get m = some (.ints .i64 ks)) (hy : ∀ ks, y = some ks → ∃ m, b = some m ∧ h.get m = some (.ints .i64 ks)) (hz : ∀ ks, z = some ks → ∃ m, c = some m ∧ h.get m = some (.ints .i64 ks)) :
    Good (E.three a b c) (threeH (rowO x) (rowO y) (rowO z)) w ∧ Dom (E.three a b c) 3 ∧ ∀ m, ¬ wlive (threeH (rowO x) (rowO y) (rowO z)) m := by
  have no : ∀ {x : Option (List Int)} {o : O}, rowO x = some o → ∃ ks, x = some ks ∧ o = .ints .i64 ks := by
    intro x o h
    cases x with
    | none => cases h
    | some ks => simp only [rowO, Option.map_some, Option.some.injEq] at h; exact ⟨ks, rfl, h.symm⟩
  have hwl : ∀ m, ¬ wlive (threeH (rowO x) (rowO y) (rowO z)) m := by
    rintro m ⟨o, h1, h2⟩
    rw [threeH_get] at h1
    split at h1
    · obtain ⟨_, _, rfl⟩ := no h1; cases h2
    · obtain ⟨_, _, rfl⟩ := no h1; cases h2
    · obtain ⟨_, _, rfl⟩ := no h1; cases h2
    · cases h1
  refine ⟨⟨fun m o hm => ?_, fun m _ _ _ _ _ hm => absurd hm (hwl m), fun m b' s e => ?_⟩, fun m hm => ?_, hwl⟩
  · rw [threeH_get] at hm
    split at hm
    · obtain ⟨ks, rfl, rfl⟩ := no hm
      obtain ⟨m0, rfl, k2⟩ := hx ks rfl
      obtain ⟨b', s, q1, q2⟩ := g.rel m0 _ k2
      exact ⟨b', s, q1, orel_beta rfl q2⟩
    · obtain ⟨ks, rfl, rfl⟩ := no hm
      obtain ⟨m0, rfl, k2⟩ := hy ks rfl
      obtain ⟨b', s, q1, q2⟩ := g.rel m0 _ k2
      exact ⟨b', s, q1, orel_beta rfl q2⟩
    · obtain ⟨ks, rfl, rfl⟩ := no hm
      obtain ⟨m0, rfl, k2⟩ := hz ks rfl
      obtain ⟨b', s, q1, q2⟩ := g.rel m0 _ k2
      exact ⟨b', s, q1, orel_beta rfl q2⟩
    · cases hm
  · have one : ∀ {a : Option Nat}, a.bind E.ι = some (b', s) → b' < w.heap.size := by
      intro a e
      cases a with
      | none => cases e
      | some m0 => exact g.bnd m0 b' s e
    match m, e with
    | 0, e => exact one e
    | 1, e => exact one e
    | 2, e => exact one e
    | m + 3, e => cases e
  · match m, hm with
    | 0, hm => exact absurd hm (by show ¬ 3 ≤ 0; omega)
    | 1, hm => exact absurd hm (by show ¬ 3 ≤ 1; omega)
    | 2, hm => exact absurd hm (by show ¬ 3 ≤ 2; omega)
    | m + 3, _ => rfl

/-- rows as they lie in a world -/
def rowAt (w : World) (v : Value) (ks : List Int) : Prop := ∃ b s cap c el fz, v = .slice (some ⟨b, s, none⟩) ks.length cap ∧ ks.length ≤ cap ∧ s + cap ≤ c.size ∧ w.heap[b]? = some (.cells c el fz) ∧ ∀ (i : Nat) (x : Int), ks[i]? = some x → c[s + i]? = some (.int .i64 x)

/-- a world's own rows, as a start: three slices, some of them nil -/
def cellsSize (w : World) (b : Nat) : Nat := match w.heap[b]? with
  | some (.cells c _ _) => c.size
  | _ => 0
end Go.Eng

/- The engine, part ZG: rows and structs as they come in; what came in reads as before. No conditions: lemmas alone. -/
namespace Go.Eng
open Go Go.RowKit Go.ChangeShapes Go.WideShapes

/-! ### what came in reads as before, behind a run that left it alone -/
theorem args_stay {H : Type} {enc : TypeId × Value → H} {P : Program} {W W' : World} (hl : laidOutB P = true) (hm : mapsRowed P = true) (hz : ((List.range P.types.size).all fun t => match P.underlying t with | some (.slice e) => decide (0 < P.cellsOf e) | _ => true) = true)
    (hb : Below W.heap.size W W') {sp : Nat → Bool} : ∀ {ts : List TypeId} {vs : List Value} {ds : List (DataW H)} {ps : List MemPlace}, (∀ t ∈ ts, t < P.types.size) → DataW.TrodAll enc P W 0 (fun _ => true) true ts vs ds ps → (∀ p ∈ ps, sp p.block = true) → DataW.TrodAll enc P W' 0 sp true ts vs ds ps
  | [], [], [], _, _, h, _ => h
  | t :: ts, _ :: _, _ :: _, _, hT, ⟨p, q, ⟨n, h1⟩, h2, e⟩, hs => by
    refine ⟨p, q, ⟨n, ?_⟩, args_stay hl hm hz hb (fun t ht => hT t (List.mem_cons_of_mem _ ht)) h2 (fun x hx => hs x (by rw [e]; exact List.mem_append_right _ hx)), e⟩
    have hz' : ∀ {t e : TypeId}, t < P.types.size → P.underlying t = some (.slice e) → 0 < P.cellsOf e := by
      intro t e hl ht
      have := List.all_eq_true.1 hz t (List.mem_range.2 hl)
      rw [ht] at this
      simpa using this
    refine DataW.trod_stays (T := (· < P.types.size)) (kids_rows hl hm) hz' (fun h => by cases h) (hT t (List.mem_cons_self ..)) h1 (fun x hx => ?_) (fun x hx => hs x (by rw [e]; exact List.mem_append_left _ hx))
    exact hb.same (DataW.trod_lt n _ _ _ h1 x hx)

/-! ### a row that came in -/
def rowIn (w : World) (b s : Nat) (ks : List Int) : Prop := ∃ c el fz, w.heap[b]? = some (.cells c el fz) ∧ s + ks.length ≤ c.size ∧ ∀ (i : Nat) (x : Int), ks[i]? = some x → c[s + i]? = some (.int .i64 x)

theorem rowAt_off {P : Program} {fits : TypeId → Bool} {d : Nat} {e : TypeId} {cells off : Nat} (h : Go.rowAt P fits d e (cells / P.cellsOf e) off 0 = true) : off ≤ cells := by
  cases d with
  | zero => simp [Go.rowAt] at h
  | succ d =>
    unfold Go.rowAt at h
    simp only at h
    split at h
    · cases h
    · rename_i hs
      have hs : 0 < P.cellsOf e := Nat.pos_of_ne_zero hs
      have hle := Nat.div_mul_le_self cells (P.cellsOf e)
      have hdm := Nat.div_add_mod off (P.cellsOf e)
      have hlt := Nat.mod_lt off hs
      simp only [Nat.add_zero, Bool.or_eq_true, Bool.and_eq_true, beq_iff_eq, decide_eq_true_eq] at h
      rcases h with ⟨⟨h1, h2⟩, _⟩ | ⟨h1, _⟩
      · have := Nat.mul_le_mul_left (P.cellsOf e) h2
        rw [Nat.mul_comm (P.cellsOf e) (cells / P.cellsOf e)] at this
        omega
      · have := Nat.mul_le_mul_left (P.cellsOf e) (Nat.succ_le_of_lt h1)
        rw [Nat.mul_succ, Nat.mul_comm (P.cellsOf e) (cells / P.cellsOf e)] at this
        omega

theorem slice_in {H : Type} {enc : TypeId × Value → H} {P : Program} {W : World} {r : Reach} {base : Nat} {t e : TypeId} {fuel : Nat} {v : Value} {x : DataW H × List MemPlace} (ht : P.underlying t = some (.slice e)) (he : P.underlying e = some (.int .i64)) (hc : P.cellsOf e = 1)
    (hv : Cell.okWide P W r base t v) (h : DataW.trod enc P W 0 (fun _ => true) true fuel t [v] = some x) :
    v = .slice none 0 0 ∨ ∃ b s len cap ks, v = .slice (some ⟨b, s, none⟩) len cap ∧ len ≤ cap ∧ ks.length = cap ∧ rowIn W b s ks := by
  rcases open_ints ht he hc h with ⟨h1, _⟩ | ⟨a, len, cap, zs, h1, _, hl, _, hzl, _, hz, _⟩
  · left; simpa using h1
  · right
    simp only [List.cons.injEq, and_true] at h1
    subst h1
    simp only [if_true] at hzl
    obtain ⟨b, s, spot⟩ := a
    simp only [Cell.okWide, Cell.ok, ht] at hv
    obtain ⟨_, _, _, hspot, row, cells, hsh, hlies⟩ := hv
    simp only at hspot hsh hlies
    subst hspot
    unfold World.shape? at hsh
    split at hsh
    · rename_i c el fz hb
      simp only [Option.some.injEq, Prod.mk.injEq] at hsh
      obtain ⟨rfl, rfl⟩ := hsh
      have cell : ∀ i, i < cap → c[s + i]? = some (.int .i64 (zs.getD i 0)) := by
        intro i hi
        have := hz i (by omega)
        rw [Go.WideShapes.add_plain] at this
        simpa [World.cell?, hb] using this
      refine ⟨b, s, len, cap, zs, rfl, hl, hzl, c, el, fz, hb, ?_, ?_⟩
      · rw [hzl]
        by_cases h0 : cap = 0
        · subst h0
          cases hd : P.depth with
          | zero => rw [hd] at hlies; simp [liesAt] at hlies
          | succ d =>
            rw [hd] at hlies
            unfold liesAt at hlies
            rw [he] at hlies
            simp only [Bool.or_false] at hlies
            exact rowAt_off hlies
        · have := cell (cap - 1) (by omega)
          obtain ⟨hlt, _⟩ := Array.getElem?_eq_some_iff.1 this
          omega
      · intro i x hx
        have hi := (List.getElem?_eq_some_iff.1 hx).1
        rw [cell i (by omega)]
        simp [List.getD, hx]
    · cases hsh

/-! ### three rows, as a start -/
def inH (x : Option (Nat × Nat × List Int)) : Option (Nat × Nat) := x.map fun y => (y.1, y.2.1)
def inK (x : Option (Nat × Nat × List Int)) : Option (List Int) := x.map fun y => y.2.2
def inOk (w : World) (x : Option (Nat × Nat × List Int)) : Prop := ∀ b s ks, x = some (b, s, ks) → rowIn w b s ks
def env3 (w : World) (x y z : Option (Nat × Nat × List Int)) : Env := ⟨fun m => match m with | 0 => inH x | 1 => inH y | 2 => inH z | _ => none, cellsSize w⟩

theorem env3_ok {w : World} {x y z : Option (Nat × Nat × List Int)} (hx : inOk w x) (hy : inOk w y) (hz : inOk w z) :
    Good (env3 w x y z) (threeH (rowO (inK x)) (rowO (inK y)) (rowO (inK z))) w ∧ Dom (env3 w x y z) 3 ∧ ∀ m, ¬ wlive (threeH (rowO (inK x)) (rowO (inK y)) (rowO (inK z))) m := by
  have one : ∀ {x : Option (Nat × Nat × List Int)} {o : O} (E : Env), E.β = cellsSize w → inOk w x → rowO (inK x) = some o → ∃ b s, inH x = some (b, s) ∧ orel E w b s o := by
    intro x o E hβ hx h
    cases x with
    | none => cases h
    | some y =>
      obtain ⟨b, s, ks⟩ := y
      simp only [rowO, inK, Option.map_some, Option.some.injEq] at h
      subst h
      obtain ⟨c, el, fz, h1, h2, h3⟩ := hx b s ks rfl
      exact ⟨b, s, rfl, c, el, fz, h1, by rw [hβ]; simp [cellsSize, h1], h3⟩
  have hwl : ∀ m, ¬ wlive (threeH (rowO (inK x)) (rowO (inK y)) (rowO (inK z))) m := by
    have no : ∀ {x : Option (Nat × Nat × List Int)} {o : O}, rowO (inK x) = some o → o.wr = true → False := by
      intro x o h q
      cases x with
      | none => cases h
      | some ks => simp only [rowO, inK, Option.map_some, Option.some.injEq] at h; subst h; cases q
    rintro m ⟨o, h1, h2⟩
    rw [threeH_get] at h1
    split at h1
    · exact no h1 h2
    · exact no h1 h2
    · exact no h1 h2
    · cases h1
  refine ⟨⟨fun m o hm => ?_, fun m _ _ _ _ _ hm => absurd hm (hwl m), fun m b s e => ?_⟩, fun m hm => ?_, hwl⟩
  · rw [threeH_get] at hm
    split at hm
    · exact one _ rfl hx hm
    · exact one _ rfl hy hm
    · exact one _ rfl hz hm
    · cases hm
  · have bnd : ∀ {x : Option (Nat × Nat × List Int)}, inOk w x → inH x = some (b, s) → b < w.heap.size := by
      intro x hx h
      cases x with
      | none => cases h
      | some y =>
        obtain ⟨b', s', ks⟩ := y
        simp only [inH, Option.map_some, Option.some.injEq, Prod.mk.injEq] at h
        obtain ⟨rfl, rfl⟩ := h
        obtain ⟨c, el, fz, h1, _, _⟩ := hx _ _ ks rfl
        exact (Array.getElem?_eq_some_iff.1 h1).1
    match m, e with
    | 0, e => exact bnd hx e
    | 1, e => exact bnd hy e
    | 2, e => exact bnd hz e
    | m + 3, e => cases e
  · match m, hm with
    | 0, hm => exact absurd hm (by show ¬ 3 ≤ 0; omega)
    | 1, hm => exact absurd hm (by show ¬ 3 ≤ 1; omega)
    | 2, hm => exact absurd hm (by show ¬ 3 ≤ 2; omega)
    | m + 3, _ => rfl

/-- a slice of such a row -/
theorem slc_rel {E : Env} {w : World} {m b s len : Nat} {ks : List Int} (hE : E.ι m = some (b, s)) (hβ : E.β = cellsSize w) (h : rowIn w b s ks) (hl : len ≤ ks.length) : vrel E (.slc (some (m, 0)) len ks.length 1) (.slice (some ⟨b, s, none⟩) len ks.length) := by
  obtain ⟨c, el, fz, h1, h2, _⟩ := h
  refine ⟨b, s, s, ks.length, hE, fun _ => rfl, hl, Nat.le_refl _, ?_, rfl⟩
  rw [hβ]
  simp only [cellsSize, h1]
  omega

/-- a struct of one-cell fields, opened -/
theorem struct_in {H : Type} {enc : TypeId × Value → H} {P : Program} {W : World} {r : Reach} {base : Nat} {t : TypeId} {fs : Array Field} {v : Value} {d : DataW H} {p : List MemPlace} {us : List TypeId} (hs : P.underlying t = some (.struct fs)) (hC : P.cellsOf t = fs.size) (hU : P.cellTypes P.depth t = some us) (hul : us.length = fs.size)
    (hf : ∀ (j : Nat) f, fs[j]? = some f → f.offset = j ∧ P.cellsOf f.type = 1 ∧ us[j]? = some f.type)
    (hv : Value.okWide P W r base t v) (h : DataW.Trod enc P W 0 (fun _ => true) true t v d p) :
    ∃ cs : Array Value, v = .agg cs ∧ cs.size = fs.size ∧ ∃ n, ∀ (j : Nat) f, fs[j]? = some f → ∃ x y, cs[j]? = some x ∧ Cell.okWide P W r base f.type x ∧ DataW.trod enc P W 0 (fun _ => true) true n f.type [x] = some y := by
  simp only [Value.okWide, hs] at hv
  obtain ⟨cs, rfl, hsz, ts, hts, _, hrow⟩ := hv
  rw [hU] at hts
  simp only [Option.some.injEq] at hts
  subst hts
  obtain ⟨fuel, h⟩ := h
  obtain ⟨xs, n, _, _, _, hxl, hx⟩ := DataW.trod_struct hs h
  refine ⟨cs, rfl, by omega, n, fun j f hj => ?_⟩
  obtain ⟨ho, h1, hu⟩ := hf j f hj
  have hjl : j < fs.size := (Array.getElem?_eq_some_iff.1 hj).1
  have hcs : cs[j]? = some (cs[j]'(by omega)) := Array.getElem?_eq_getElem (by omega)
  have hg := hx j f hj
  rw [ho, h1] at hg
  have e1 : ((Value.agg cs).cells.toList.drop j).take 1 = [cs[j]'(by omega)] := by
    simp only [Value.cells]
    rw [List.drop_eq_getElem_cons (by simp; omega)]
    simp
  rw [e1] at hg
  have hxj : xs[j]? = some (xs[j]'(by omega)) := List.getElem?_eq_getElem (by omega)
  obtain ⟨u, hu1, hu2⟩ := hrow j _ hcs
  rw [hul, Nat.mod_eq_of_lt hjl, hu] at hu1
  simp only [Option.some.injEq] at hu1
  subst hu1
  exact ⟨_, _, hcs, hu2, hg.trans hxj⟩

/-- the fields' look, by a check -/
def fieldsB (P : Program) (fs : Array Field) (us : List TypeId) : Bool := (List.range fs.size).all fun j => match fs[j]?, us[j]? with
  | some f, some u => decide (f.offset = j) && (decide (P.cellsOf f.type = 1) && decide (u = f.type))
  | _, _ => false
theorem fieldsB_ok {P : Program} {fs : Array Field} {us : List TypeId} (h : fieldsB P fs us = true) : ∀ (j : Nat) f, fs[j]? = some f → f.offset = j ∧ P.cellsOf f.type = 1 ∧ us[j]? = some f.type := by
  intro j f hj
  have hjl : j < fs.size := (Array.getElem?_eq_some_iff.1 hj).1
  have := List.all_eq_true.1 h j (List.mem_range.2 hjl)
  rw [hj] at this
  cases hu : us[j]? with
  | none => rw [hu] at this; cases this
  | some u =>
    rw [hu] at this
    simp only [Bool.and_eq_true, decide_eq_true_eq] at this
    obtain ⟨h1, h2, rfl⟩ := this
    exact ⟨h1, h2, rfl⟩

theorem slice_cells {P : Program} {W : World} {r : Reach} {base : Nat} {t e : TypeId} {v : Value} (ht : P.underlying t = some (.slice e)) (hv : Cell.okWide P W r base t v) : v.cells.toList = [v] := by
  cases v <;> first | rfl | (simp [Cell.okWide, Cell.ok, ht] at hv)

theorem vnil {E : Env} : vrels E [] [] := rfl
theorem vcons {E : Env} {x : V} {y : Value} {xs : List V} {ys : List Value} (h : vrel E x y) (t : vrels E xs ys) : vrels E (x :: xs) (y :: ys) := ⟨y, ys, h, t, rfl⟩
theorem vagg {E : Env} {xs : List V} {ys : List Value} (t : vrels E xs ys) : vrel E (.agg xs) (.agg ys.toArray) := ⟨ys, t, rfl⟩
theorem vint {E : Env} {k : IntKind} {n : Int} : vrel E (.int k n) (.int k n) := rfl

def slcV (o : Option (Nat × Nat × List Int)) (len : Nat) : Value := match o with
  | none => .slice none 0 0
  | some (b, s, ks) => .slice (some ⟨b, s, none⟩) len ks.length

theorem int_in {H : Type} {enc : TypeId × Value → H} {P : Program} {W : World} {t : TypeId} {k : IntKind} {n : Nat} {v : Value} {y : DataW H × List MemPlace} (ht : P.underlying t = some (.int k)) (h : DataW.trod enc P W 0 (fun _ => true) true n t [v] = some y) : ∃ i, v = .int k i := by
  obtain ⟨i, h1, _⟩ := DataW.trod_int ht h
  exact ⟨i, by simpa using h1⟩
end Go.Eng
