/- The engine, part X: runs from nothing, remembered calls, and the renaming of a state. No conditions: lemmas alone. -/
import Derived.Test.YtljiongmhoooiaaEngW
import Derived.Below
namespace Go.Eng
open Go Go.RowKit

def E0 : Env := ⟨fun _ => none, fun _ => 0⟩
theorem good0 (w : World) : Good E0 .nil w := ⟨fun m o h => by simp [Tr.get] at h, fun m _ _ _ _ _ h => by simp [Tr.get] at h, fun m b s h => by simp [E0] at h⟩
theorem dom0 (n : Nat) : Dom E0 n := fun _ _ => rfl

/-! ### values that name no memory -/
mutual
def V.free : V → Bool
  | .ptr (some _) => false
  | .slc (some _) _ _ _ => false
  | .map (some _) => false
  | .fn _ a c => V.frees a && V.frees c
  | .iface _ x => V.free x
  | .agg cs => V.frees cs
  | .tup cs => V.frees cs
  | _ => true
def V.frees : List V → Bool
  | [] => true
  | x :: xs => V.free x && V.frees xs
end

mutual
theorem free_rel {E E' : Env} : ∀ (v : V) (v' : Value), v.free = true → vrel E v v' → vrel E' v v'
  | .bool _, _, _, r => r
  | .int _ _, _, _, r => r
  | .str _, _, _, r => r
  | .ptr none, _, _, r => r
  | .ptr (some _), _, h, _ => by simp [V.free] at h
  | .slc none _ _ _, _, _, r => r
  | .slc (some _) _ _ _, _, h, _ => by simp [V.free] at h
  | .map none, _, _, r => r
  | .map (some _), _, h, _ => by simp [V.free] at h
  | .fn _ a c, _, h, ⟨a', c', ra, rc, q⟩ => by
    simp only [V.free, Bool.and_eq_true] at h
    exact ⟨a', c', frees_rel a a' h.1 ra, frees_rel c c' h.2 rc, q⟩
  | .nilFn, _, _, r => r
  | .iface _ x, _, h, ⟨x', r, q⟩ => ⟨x', free_rel x x' (by simpa only [V.free] using h) r, q⟩
  | .nilIface, _, _, r => r
  | .agg cs, _, h, ⟨cs', r, q⟩ => ⟨cs', frees_rel cs cs' (by simpa only [V.free] using h) r, q⟩
  | .tup cs, _, h, ⟨cs', r, q⟩ => ⟨cs', frees_rel cs cs' (by simpa only [V.free] using h) r, q⟩
theorem frees_rel {E E' : Env} : ∀ (v : List V) (v' : List Value), V.frees v = true → vrels E v v' → vrels E' v v'
  | [], _, _, r => r
  | x :: xs, _, h, ⟨y, ys, r, rs, q⟩ => by
    simp only [V.frees, Bool.and_eq_true] at h
    exact ⟨y, ys, free_rel x y h.1 r, frees_rel xs ys h.2 rs, q⟩
end

/-! ### remembered calls -/
def look (f : FuncId) (args : List V) : List (FuncId × List V × V) → Option V
  | [] => none
  | x :: r => match Nat.beq f x.1 && V.beqs args x.2.1 with
    | true => some x.2.2
    | false => look f args r

def memo (T : List (FuncId × List V × V)) (cf : CallF) : CallF := fun f args h n => match look f args T with
  | some v => some (.ret v, h, n)
  | none => cf f args h n

def SpecOk (P : Program) (x : FuncId × List V × V) : Prop := V.frees x.2.1 = true ∧ x.2.2.free = true ∧ ∃ cf h' n', CallOk P cf ∧ cf x.1 x.2.1 .nil 0 = some (.ret x.2.2, h', n')

theorem look_mem {f : FuncId} {args : List V} {v : V} : ∀ {T : List (FuncId × List V × V)}, look f args T = some v → (f, args, v) ∈ T
  | [], h => by simp [look] at h
  | x :: r, h => by
    simp only [look] at h
    split at h
    · rename_i hb
      simp only [Bool.and_eq_true] at hb
      simp only [Option.some.injEq] at h
      rw [Nat.eq_of_beq_eq_true hb.1, beqs_eq _ _ hb.2, ← h]
      simp
    · exact List.mem_cons_of_mem _ (look_mem h)

/-- a run from nothing serves in every memory -/
theorem spec_calls {P : Program} {f : FuncId} {args : List V} {v : V} (hs : SpecOk P (f, args, v)) {E : Env} {h : Tr O} {n : Nat} {w : World} {args' : List Value} (ra : vrels E args args') (g : Good E h w) (hd : Dom E n) (hc : callee P f = true) :
    Calls P f args'.toArray w fun e w' => ∃ E', Upd E h w E' h w' ∧ (∀ m, m < n → E'.ι m = E.ι m) ∧ Dom E' n ∧ n ≤ n ∧ outrel E' (.ret v) e := by
  obtain ⟨ha, hv, cf, h', n', hcf, e⟩ := hs
  refine (hcf f args .nil 0 _ h' n' e E0 w args' (frees_rel _ _ ha ra) (good0 w) (dom0 0) hc).mono fun en w' ⟨E1, u, _, _, _, ho⟩ => ?_
  have hk : ∀ b, b < w.heap.size → w'.heap[b]? = w.heap[b]? := fun b hb => u.keep b hb fun m s hm => by simp [Tr.get] at hm
  refine ⟨E, ⟨E.le_refl, ⟨?_, g.inj, fun m b s hm => Nat.lt_of_lt_of_le (g.bnd m b s hm) u.size⟩, u.size, u.tape, u.os, u.output, fun b hb _ => hk b hb, fun m b s hm he _ => ⟨m, s, hm, he⟩⟩, fun _ _ => rfl, hd, Nat.le_refl _, ?_⟩
  · intro m o hm
    obtain ⟨b, s, h1, h2⟩ := g.rel m o hm
    exact ⟨b, s, h1, orel_mono E.le_refl rfl (hk b (g.bnd m b s h1)) h2⟩
  · cases en with
    | returned v' => exact free_rel _ _ hv ho
    | _ => exact ho.elim

theorem memo_ok {P : Program} {T : List (FuncId × List V × V)} {cf : CallF} (hT : ∀ x ∈ T, SpecOk P x) (hc : CallOk P cf) : CallOk P (memo T cf) := by
  intro f args h n out h' n' e E w args' ra g hd hcal
  unfold memo at e
  split at e
  · rename_i v hl
    simp only [Option.some.injEq, Prod.mk.injEq] at e
    obtain ⟨rfl, rfl, rfl⟩ := e
    exact spec_calls (hT _ (look_mem hl)) ra g hd hcal
  · exact hc f args h n out h' n' e E w args' ra g hd hcal

def callM (P : Program) (T : List (FuncId × List V × V)) (F : Nat) : Nat → CallF
  | 0 => fun _ _ _ _ => none
  | k + 1 => memo T fun f args h n => enter P (callM P T F k) F f args h n

theorem callM_ok {P : Program} {T : List (FuncId × List V × V)} {F : Nat} (hm : P.follows .mixedOrders = true) (hpo : progOk P = true) (hT : ∀ x ∈ T, SpecOk P x) : ∀ k, CallOk P (callM P T F k)
  | 0 => fun _ _ _ _ _ _ _ e => by cases e
  | k + 1 => memo_ok hT (enter_sound (callM_ok hm hpo hT k) hm hpo)

/-! ### runs from nothing -/
def Run0 (N : Nat) (w0 : World) (s : St) (a : Act) (w : World) : Prop := ∃ E, SRel E N s a w ∧ Upd E0 .nil w0 E s.h w

theorem Run0.below {N : Nat} {w0 : World} {s : St} {a : Act} {w : World} (i : Run0 N w0 s a w) : Below w0.heap.size w0 w := by
  obtain ⟨E, _, u⟩ := i
  exact ⟨u.os, u.tape, u.output, u.size, fun k hk => u.keep k hk fun m s hm => by simp [Tr.get] at hm⟩

def X.plain : X → Option Exit
  | .normal => some .normal
  | .exit i => some (.exit i)
  | .ret => some .ret
  | .panic _ => none

theorem exec_inv {P : Program} {cf : CallF} {F N : Nat} (hcf : CallOk P cf) (hm : P.follows .mixedOrders = true) {c : Code} {s s' : St} {x : X} {y : Exit} (hc : codeOk N c = true) (e : exec P cf F c s = some (x, s')) (hx : x.plain = some y)
    {w0 : World} {a : Act} {w : World} {Q : Exit → Act → World → Prop} (i : Run0 N w0 s a w) (hq : ∀ a' w', Run0 N w0 s' a' w' → Q y a' w') : c.wp P Q a w := by
  obtain ⟨E, r, u⟩ := i
  refine exec_sound hcf hm c s x s' hc e E a w Q r fun E' a' w' x' u' _ _ r' hxx => ?_
  have : x' = y := by
    cases x <;> cases x' <;> simp only [xrel, X.plain, Option.some.injEq, reduceCtorEq] at hxx hx <;> first | exact hx | (subst hxx; exact hx)
  subst this
  exact hq a' w' ⟨E', r', u.trans u'⟩

/-! ### the renaming of a state: what is reached from the tmps that count, numbered afresh -/
mutual
def V.names : V → List Nat → List Nat
  | .ptr (some (m, _)), l => m :: l
  | .slc (some (m, _)) _ _ _, l => m :: l
  | .map (some m), l => m :: l
  | .fn _ a c, l => V.namess a (V.namess c l)
  | .iface _ x, l => V.names x l
  | .agg cs, l => V.namess cs l
  | .tup cs, l => V.namess cs l
  | _, l => l
def V.namess : List V → List Nat → List Nat
  | [], l => l
  | x :: xs, l => V.names x (V.namess xs l)
end

def entNames : List (V × V × Nat) → List Nat
  | [] => []
  | x :: xs => V.names x.1 (V.names x.2.1 (entNames xs))

def O.names : O → List Nat
  | .cells cs => V.namess cs []
  | .map es _ => entNames es
  | .siter _ _ => []

/-- numbers in the order of a first visit: old to new, and the olds (the last first) -/
def trav (h : Tr O) : Nat → List Nat → Tr Nat → List Nat → Nat → Option (Tr Nat × List Nat × Nat)
  | 0, _, _, _, _ => none
  | _ + 1, [], ρ, olds, k => some (ρ, olds, k)
  | f + 1, m :: q, ρ, olds, k => match ρ.get m with
    | some _ => trav h f q ρ olds k
    | none => trav h f ((match h.get m with | some o => o.names | none => []) ++ q) (ρ.set m (some k)) (m :: olds) (k + 1)

def backOf : List Nat → Nat → Tr Nat → Tr Nat
  | [], _, t => t
  | m :: r, k, t => backOf r (k - 1) (t.set (k - 1) (some m))

/-- the new name, looked up both ways -/
def nameOf (ρ back : Tr Nat) (n2 m : Nat) : Option Nat :=
  match ρ.get m with
  | some k => match back.get k with
    | some m' => match Nat.beq m m' && Nat.blt k n2 with
      | true => some k
      | false => none
    | none => none
  | none => none

theorem nameOf_spec {ρ back : Tr Nat} {n2 m k : Nat} (h : nameOf ρ back n2 m = some k) : ρ.get m = some k ∧ back.get k = some m ∧ k < n2 := by
  unfold nameOf at h
  split at h
  · rename_i k' h1
    split at h
    · rename_i m' h2
      split at h
      · rename_i hb
        simp only [Bool.and_eq_true] at hb
        simp only [Option.some.injEq] at h
        subst h
        have e := Nat.eq_of_beq_eq_true hb.1
        subst e
        exact ⟨h1, h2, by have := hb.2; simp [Nat.blt] at this; omega⟩
      · cases h
    · cases h
  · cases h

section
variable (ν : Nat → Option Nat)
mutual
def V.ren : V → Option V
  | .ptr (some (m, o)) => match ν m with
    | some k => some (.ptr (some (k, o)))
    | none => none
  | .slc (some (m, o)) l c e => match ν m with
    | some k => some (.slc (some (k, o)) l c e)
    | none => none
  | .map (some m) => match ν m with
    | some k => some (.map (some k))
    | none => none
  | .fn f a c => match V.rens a with
    | some a => match V.rens c with
      | some c => some (.fn f a c)
      | none => none
    | none => none
  | .iface t x => match V.ren x with
    | some x => some (.iface t x)
    | none => none
  | .agg cs => match V.rens cs with
    | some cs => some (.agg cs)
    | none => none
  | .tup cs => match V.rens cs with
    | some cs => some (.tup cs)
    | none => none
  | .bool b => some (.bool b)
  | .int k n => some (.int k n)
  | .str s => some (.str s)
  | .ptr none => some (.ptr none)
  | .slc none l c e => some (.slc none l c e)
  | .map none => some (.map none)
  | .nilFn => some .nilFn
  | .nilIface => some .nilIface
def V.rens : List V → Option (List V)
  | [] => some []
  | x :: xs => match V.ren x with
    | some x => match V.rens xs with
      | some xs => some (x :: xs)
      | none => none
    | none => none
end
def renEs : List (V × V × Nat) → Option (List (V × V × Nat))
  | [] => some []
  | x :: xs => match V.ren ν x.1, V.ren ν x.2.1, renEs xs with
    | some k, some v, some xs => some ((k, v, x.2.2) :: xs)
    | _, _, _ => none
def O.ren : O → Option O
  | .cells cs => match V.rens ν cs with
    | some cs => some (.cells cs)
    | none => none
  | .map es c => match renEs ν es with
    | some es => some (.map es c)
    | none => none
  | .siter s p => some (.siter s p)
end

mutual
theorem ren_rel {ν : Nat → Option Nat} {E E' : Env} (hι : ∀ m k, ν m = some k → E'.ι k = E.ι m) (hβ : E'.β = E.β) : ∀ (v v2 : V) (v' : Value), v.ren ν = some v2 → vrel E v v' → vrel E' v2 v'
  | .bool _, v2, _, h, r => by simp only [V.ren, Option.some.injEq] at h; subst h; exact r
  | .int _ _, v2, _, h, r => by simp only [V.ren, Option.some.injEq] at h; subst h; exact r
  | .str _, v2, _, h, r => by simp only [V.ren, Option.some.injEq] at h; subst h; exact r
  | .ptr none, v2, _, h, r => by simp only [V.ren, Option.some.injEq] at h; subst h; exact r
  | .ptr (some (m, o)), v2, _, h, ⟨b, s, e, q⟩ => by
    simp only [V.ren] at h
    split at h
    · rename_i k hk; simp only [Option.some.injEq] at h; subst h; exact ⟨b, s, (hι m k hk).trans e, q⟩
    · cases h
  | .slc none _ _ _, v2, _, h, r => by simp only [V.ren, Option.some.injEq] at h; subst h; exact r
  | .slc (some (m, o)) _ _ _, v2, _, h, ⟨b, s, o', cap', e, q1, q2, q3, q4, q5⟩ => by
    simp only [V.ren] at h
    split at h
    · rename_i k hk; simp only [Option.some.injEq] at h; subst h; exact ⟨b, s, o', cap', (hι m k hk).trans e, q1, q2, q3, by rw [hβ]; exact q4, q5⟩
    · cases h
  | .map none, v2, _, h, r => by simp only [V.ren, Option.some.injEq] at h; subst h; exact r
  | .map (some m), v2, _, h, ⟨b, e, q⟩ => by
    simp only [V.ren] at h
    split at h
    · rename_i k hk; simp only [Option.some.injEq] at h; subst h; exact ⟨b, (hι m k hk).trans e, q⟩
    · cases h
  | .fn f a c, v2, _, h, ⟨a', c', ra, rc, q⟩ => by
    simp only [V.ren] at h
    split at h
    · rename_i a2 ha
      split at h
      · rename_i c2 hc; simp only [Option.some.injEq] at h; subst h; exact ⟨a', c', rens_rel hι hβ a a2 a' ha ra, rens_rel hι hβ c c2 c' hc rc, q⟩
      · cases h
    · cases h
  | .nilFn, v2, _, h, r => by simp only [V.ren, Option.some.injEq] at h; subst h; exact r
  | .iface t x, v2, _, h, ⟨x', r, q⟩ => by
    simp only [V.ren] at h
    split at h
    · rename_i x2 hx; simp only [Option.some.injEq] at h; subst h; exact ⟨x', ren_rel hι hβ x x2 x' hx r, q⟩
    · cases h
  | .nilIface, v2, _, h, r => by simp only [V.ren, Option.some.injEq] at h; subst h; exact r
  | .agg cs, v2, _, h, ⟨cs', r, q⟩ => by
    simp only [V.ren] at h
    split at h
    · rename_i x2 hx; simp only [Option.some.injEq] at h; subst h; exact ⟨cs', rens_rel hι hβ cs x2 cs' hx r, q⟩
    · cases h
  | .tup cs, v2, _, h, ⟨cs', r, q⟩ => by
    simp only [V.ren] at h
    split at h
    · rename_i x2 hx; simp only [Option.some.injEq] at h; subst h; exact ⟨cs', rens_rel hι hβ cs x2 cs' hx r, q⟩
    · cases h
theorem rens_rel {ν : Nat → Option Nat} {E E' : Env} (hι : ∀ m k, ν m = some k → E'.ι k = E.ι m) (hβ : E'.β = E.β) : ∀ (v v2 : List V) (v' : List Value), V.rens ν v = some v2 → vrels E v v' → vrels E' v2 v'
  | [], v2, _, h, r => by simp only [V.rens, Option.some.injEq] at h; subst h; exact r
  | x :: xs, v2, _, h, ⟨y, ys, r, rs, q⟩ => by
    simp only [V.rens] at h
    split at h
    · rename_i x2 hx
      split at h
      · rename_i xs2 hxs; simp only [Option.some.injEq] at h; subst h; exact ⟨y, ys, ren_rel hι hβ x x2 y hx r, rens_rel hι hβ xs xs2 ys hxs rs, q⟩
      · cases h
    · cases h
end

section
variable {ν : Nat → Option Nat} {E E' : Env} (hι : ∀ m k, ν m = some k → E'.ι k = E.ι m) (hβ : E'.β = E.β)
include hι hβ
theorem renEs_rel : ∀ (es es2 : List (V × V × Nat)) (es' : List MapEntry), renEs ν es = some es2 → erels E es es' → erels E' es2 es'
  | [], _, _, h, r => by simp only [renEs, Option.some.injEq] at h; subst h; exact r
  | x :: xs, _, _, h, ⟨y, ys, a, b, c, r, q⟩ => by
    simp only [renEs] at h
    split at h
    · rename_i k v xs2 hk hv hxs
      simp only [Option.some.injEq] at h; subst h
      exact ⟨y, ys, ren_rel hι hβ _ _ _ hk a, ren_rel hι hβ _ _ _ hv b, c, renEs_rel xs xs2 ys hxs r, q⟩
    · cases h

theorem renO_rel {w : World} {b s : Nat} : ∀ (o o2 : O), o.ren ν = some o2 → orel E w b s o → orel E' w b s o2
  | .cells cs, o2, h, ⟨c, el, fz, h1, h2, h3, h4⟩ => by
    simp only [O.ren] at h
    split at h
    · rename_i cs2 hcs
      simp only [Option.some.injEq] at h; subst h
      refine ⟨c, el, fz, h1, by rw [hβ]; exact h2, h3, ?_⟩
      have : ∀ (cs cs2 : List V), V.rens ν cs = some cs2 → ∀ (s : Nat), crel E s cs c → crel E' s cs2 c := by
        intro cs
        induction cs with
        | nil => intro cs2 h s r; simp only [V.rens, Option.some.injEq] at h; subst h; intro i v e; simp at e
        | cons x xs ih =>
          intro cs2 h s r
          simp only [V.rens] at h
          split at h
          · rename_i x2 hx
            split at h
            · rename_i xs2 hxs
              simp only [Option.some.injEq] at h; subst h
              intro i v e
              cases i with
              | zero =>
                simp only [List.getElem?_cons_zero, Option.some.injEq] at e; subst e
                obtain ⟨v', k1, k2⟩ := r 0 x (by simp)
                exact ⟨v', k1, ren_rel hι hβ _ _ _ hx k2⟩
              | succ i =>
                simp only [List.getElem?_cons_succ] at e
                obtain ⟨v', k1, k2⟩ := ih xs2 hxs (s + 1) (fun j v e => by
                  obtain ⟨v', k1, k2⟩ := r (j + 1) v (by simpa using e)
                  exact ⟨v', by rw [← k1]; congr 1; omega, k2⟩) i v e
                exact ⟨v', by rw [← k1]; congr 1; omega, k2⟩
            · cases h
          · cases h
      exact this cs cs2 hcs s h4
    · cases h
  | .map es cl, o2, h, ⟨hs, es', h1, h2⟩ => by
    simp only [O.ren] at h
    split at h
    · rename_i es2 hes
      simp only [Option.some.injEq] at h; subst h
      exact ⟨hs, es', h1, renEs_rel hι hβ _ _ _ hes h2⟩
    · cases h
  | .siter st p, o2, h, r => by simp only [O.ren, Option.some.injEq] at h; subst h; exact r
end

/-- the blocks that were visited -/
def heapOf (ν : Nat → Option Nat) (h : Tr O) : List Nat → Tr O → Option (Tr O)
  | [], t => some t
  | m :: r, t => match h.get m with
    | none => heapOf ν h r t
    | some o => match ν m with
      | some k => match o.ren ν with
        | some o2 => match Nat.blt k top with
          | true => heapOf ν h r (t.set k (some o2))
          | false => none
        | none => none
      | none => none

theorem heapOf_spec {ν : Nat → Option Nat} {h : Tr O} : ∀ (l : List Nat) (t t2 : Tr O), heapOf ν h l t = some t2 → (∀ k o2, t.get k = some o2 → ∃ m o, ν m = some k ∧ h.get m = some o ∧ o.ren ν = some o2) →
    ∀ k o2, t2.get k = some o2 → ∃ m o, ν m = some k ∧ h.get m = some o ∧ o.ren ν = some o2
  | [], t, t2, e, ht => by simp only [heapOf, Option.some.injEq] at e; subst e; exact ht
  | m :: r, t, t2, e, ht => by
    simp only [heapOf] at e
    split at e
    · exact heapOf_spec r t t2 e ht
    · rename_i o ho
      split at e
      · rename_i k hk
        split at e
        · rename_i o2 ho2
          split at e
          · rename_i hlt
            refine heapOf_spec r _ t2 e fun j o3 h3 => ?_
            rw [Tr.get_set _ _ _ (by simp [Nat.blt] at hlt; omega)] at h3
            split at h3
            · rename_i hj; simp only [Option.some.injEq] at h3; subst h3; subst hj; exact ⟨m, o, hk, ho, ho2⟩
            · exact ht j o3 h3
          · cases e
        · cases e
      · cases e

def frameLive (ν : Nat → Option Nat) (fr : Tr V) : List Nat → Tr V → Option (Tr V)
  | [], t => some t
  | m :: r, t => match fr.get m with
    | none => frameLive ν fr r t
    | some v => match v.ren ν with
      | some v2 => match Nat.blt m top with
        | true => frameLive ν fr r (t.set m (some v2))
        | false => none
      | none => none

theorem frameLive_spec {ν : Nat → Option Nat} {fr : Tr V} : ∀ (l : List Nat) (t t2 : Tr V), frameLive ν fr l t = some t2 → (∀ k v2, t.get k = some v2 → ∃ v, fr.get k = some v ∧ v.ren ν = some v2) →
    ∀ k v2, t2.get k = some v2 → ∃ v, fr.get k = some v ∧ v.ren ν = some v2
  | [], t, t2, e, ht => by simp only [frameLive, Option.some.injEq] at e; subst e; exact ht
  | m :: r, t, t2, e, ht => by
    simp only [frameLive] at e
    split at e
    · exact frameLive_spec r t t2 e ht
    · rename_i v hv
      split at e
      · rename_i v2 hv2
        split at e
        · rename_i hlt
          refine frameLive_spec r _ t2 e fun j o3 h3 => ?_
          rw [Tr.get_set _ _ _ (by simp [Nat.blt] at hlt; omega)] at h3
          split at h3
          · rename_i hj; simp only [Option.some.injEq] at h3; subst h3; subst hj; exact ⟨v, hv, hv2⟩
          · exact ht j o3 h3
        · cases e
      · cases e

def rootNames (fr : Tr V) : List Nat → List Nat
  | [] => []
  | t :: r => match fr.get t with
    | some v => v.names (rootNames fr r)
    | none => rootNames fr r

/-- the state afresh: the tmps that count, and what they reach -/
def norm (live : List Nat) (s : St) : Option St :=
  match s.dfs with
  | [] => match trav s.h 100000 (rootNames s.fr live) .nil [] 0 with
    | some (ρ, olds, k) =>
      let ν := nameOf ρ (backOf olds k .nil) k
      match heapOf ν s.h olds .nil with
      | some h2 => match frameLive ν s.fr live .nil with
        | some fr2 => some { fr := fr2, h := h2, n := k, dfs := [] }
        | none => none
      | none => none
    | none => none
  | _ => none

theorem norm_sound {N : Nat} {w0 : World} {live : List Nat} {s s2 : St} {a : Act} {w : World} (e : norm live s = some s2) (i : Run0 N w0 s a w) : Run0 N w0 s2 a w := by
  obtain ⟨E, r, u⟩ := i
  unfold norm at e
  split at e
  · rename_i hdf
    split at e
    · rename_i ρ olds k ht
      revert e
      generalize hback : backOf olds k .nil = back
      intro e
      simp only at e
      split at e
      · rename_i h2 hh
        split at e
        · rename_i fr2 hfr
          simp only [Option.some.injEq] at e
          subst e
          let E2 : Env := ⟨fun m => if m < k then (match back.get m with | some old => E.ι old | none => none) else none, E.β⟩
          have hι : ∀ m j, nameOf ρ back k m = some j → E2.ι j = E.ι m := by
            intro m j hj
            obtain ⟨_, h2, h3⟩ := nameOf_spec hj
            show (if j < k then (match back.get j with | some old => E.ι old | none => none) else none) = _
            rw [if_pos h3, h2]
          have hh2 := heapOf_spec olds .nil h2 hh (fun j o hj => by simp [Tr.get] at hj)
          have good2 : Good E2 h2 w := by
            refine ⟨?_, ?_, ?_⟩
            · intro m o2 hm
              obtain ⟨old, o, k1, k2, k3⟩ := hh2 m o2 hm
              obtain ⟨b, s', e1, e2⟩ := r.good.rel old o k2
              exact ⟨b, s', (hι old m k1).trans e1, renO_rel hι rfl o o2 k3 e2⟩
            · intro m m' b s1 s2 hne hm hm' e1 e2
              obtain ⟨o, ho⟩ := Option.ne_none_iff_exists'.1 hm
              obtain ⟨o', ho'⟩ := Option.ne_none_iff_exists'.1 hm'
              obtain ⟨old, p, k1, k2, _⟩ := hh2 m o ho
              obtain ⟨old', p', k1', k2', _⟩ := hh2 m' o' ho'
              rw [hι old m k1] at e1
              rw [hι old' m' k1'] at e2
              by_cases hold : old = old'
              · subst hold
                rw [k1] at k1'
                simp only [Option.some.injEq] at k1'
                exact hne k1'
              · exact r.good.inj old old' b s1 s2 hold (by rw [k2]; simp) (by rw [k2']; simp) e1 e2
            · intro m b s1 e1
              have e1 : (if m < k then (match back.get m with | some old => E.ι old | none => none) else none) = some (b, s1) := e1
              split at e1
              · split at e1
                · exact r.good.bnd _ b s1 e1
                · cases e1
              · cases e1
          refine ⟨E2, ⟨good2, ?_, ?_, r.size, ?_⟩, ?_⟩
          · intro m hm
            show (if m < k then _ else none) = none
            rw [if_neg (by show ¬ m < k; have : k ≤ m := hm; omega)]
          · intro t v2 hv
            obtain ⟨v, k1, k2⟩ := frameLive_spec live .nil fr2 hfr (fun j o hj => by simp [Tr.get] at hj) t v2 hv
            obtain ⟨v', h1, h2⟩ := r.fr t v k1
            exact ⟨v', h1, ren_rel hι rfl v v2 v' k2 h2⟩
          · have := r.dfs; rw [hdf] at this; exact this
          · refine ⟨fun m b s h => by simp [E0] at h, good2, u.size, u.tape, u.os, u.output, u.keep, ?_⟩
            intro m b s1 hm e1 hb
            obtain ⟨o, ho⟩ := Option.ne_none_iff_exists'.1 hm
            obtain ⟨old, p, k1, k2, _⟩ := hh2 m o ho
            rw [hι old m k1] at e1
            exact u.img old b s1 (by rw [k2]; simp) e1 hb
        · cases e
      · cases e
    · cases e
  · cases e
end Go.Eng
