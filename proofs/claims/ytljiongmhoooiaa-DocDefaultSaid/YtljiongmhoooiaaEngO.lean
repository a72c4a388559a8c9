/- The engine, part O: statements whose operations may run in more orders than one: ancestors, and the facts of the evaluator's own run. No conditions: lemmas alone. -/
import Derived.Test.YtljiongmhoooiaaEngN
namespace Go.Eng
open Go

def mlist (l : List Oper) : List Nat := l.foldl (fun acc o => acc ++ [maskOf acc o.after.toList]) []

theorem mlist_snoc (l : List Oper) (o : Oper) : mlist (l ++ [o]) = mlist l ++ [maskOf (mlist l) o.after.toList] := by simp [mlist]
theorem mlist_length' : ∀ (l : List Oper) (acc : List Nat), (l.foldl (fun acc o => acc ++ [maskOf acc o.after.toList]) acc).length = acc.length + l.length
  | [], acc => by simp
  | o :: l, acc => by simp only [List.foldl_cons]; rw [mlist_length' l]; simp; omega
theorem mlist_length (l : List Oper) : (mlist l).length = l.length := by unfold mlist; rw [mlist_length']; simp

def msk (ops : Array Oper) (j : Nat) : Nat := match ops[j]? with
  | some o => maskOf (mlist (ops.toList.take j)) o.after.toList
  | none => 0

theorem take_snoc {α : Type} {l : List α} {i : Nat} {o : α} (h : l[i]? = some o) : l.take (i + 1) = l.take i ++ [o] := by
  rw [List.take_add_one, h]; rfl

theorem mlist_take_get (ops : Array Oper) : ∀ i, i ≤ ops.size → ∀ k, k < i → (mlist (ops.toList.take i)).getD k 0 = msk ops k
  | 0, _, k, hk => by omega
  | i + 1, hi, k, hk => by
    have ho : ops.toList[i]? = some ops[i] := by rw [Array.getElem?_toList]; exact Array.getElem?_eq_getElem (by omega)
    rw [take_snoc ho, mlist_snoc]
    have hl : (mlist (ops.toList.take i)).length = i := by rw [mlist_length]; simp; omega
    by_cases q : k < i
    · rw [List.getD_eq_getElem?_getD, List.getElem?_append_left (by omega), ← List.getD_eq_getElem?_getD]
      exact mlist_take_get ops i (by omega) k q
    · have : k = i := by omega
      subst this
      rw [List.getD_eq_getElem?_getD, List.getElem?_append_right (by omega), hl]
      simp only [Nat.sub_self, List.getElem?_cons_zero, Option.getD_some]
      unfold msk
      rw [← Array.getElem?_toList, ho]

theorem hasBit_or (a b i : Nat) : hasBit (a ||| b) i = (hasBit a i || hasBit b i) := Nat.testBit_or a b i
theorem hasBit_pow (k i : Nat) : hasBit (2 ^ k) i = decide (k = i) := Nat.testBit_two_pow
theorem hasBit_zero (i : Nat) : hasBit 0 i = false := Nat.zero_testBit i

theorem maskOf_bit (masks : List Nat) (k : Nat) : ∀ es : List Edge, hasBit (maskOf masks es) k = true ↔ ∃ e ∈ es, Region.binds .any e = true ∧ (e.on = k ∨ hasBit (masks.getD e.on 0) k = true)
  | [] => by simp [maskOf, hasBit_zero]
  | e :: es => by
    simp only [maskOf]
    by_cases hb : Region.binds .any e = true
    · rw [if_pos hb, hasBit_or, hasBit_or, hasBit_pow, Bool.or_eq_true, Bool.or_eq_true, maskOf_bit masks k es]
      simp only [decide_eq_true_eq, List.mem_cons]
      constructor
      · rintro (⟨x, h1, h2, h3⟩ | h | h)
        · exact ⟨x, .inr h1, h2, h3⟩
        · exact ⟨e, .inl rfl, hb, .inl h⟩
        · exact ⟨e, .inl rfl, hb, .inr h⟩
      · rintro ⟨x, rfl | h1, h2, h3⟩
        · exact .inr h3
        · exact .inl ⟨x, h1, h2, h3⟩
    · rw [if_neg hb, maskOf_bit masks k es]
      simp only [List.mem_cons]
      constructor
      · rintro ⟨x, h1, h2, h3⟩; exact ⟨x, .inr h1, h2, h3⟩
      · rintro ⟨x, rfl | h1, h2, h3⟩
        · exact absurd h2 hb
        · exact ⟨x, h1, h2, h3⟩

/-- every edge leads back -/
def EdgesOk (ops : Array Oper) : Prop := ∀ (j : Nat) (o : Oper), ops[j]? = some o → ∀ e ∈ o.after, Region.binds .any e = true → e.on < j

theorem msk_bit {ops : Array Oper} (he : EdgesOk ops) {j k : Nat} {o : Oper} (ho : ops[j]? = some o) :
    hasBit (msk ops j) k = true ↔ ∃ e ∈ o.after, Region.binds .any e = true ∧ (e.on = k ∨ hasBit (msk ops e.on) k = true) := by
  have hj : j < ops.size := (Array.getElem?_eq_some_iff.1 ho).1
  unfold msk
  simp only [ho]
  rw [maskOf_bit]
  constructor
  · rintro ⟨e, h1, h2, h3⟩
    have h1' : e ∈ o.after := by simpa using h1
    have hlt := he j o ho e h1' h2
    refine ⟨e, h1', h2, h3.imp id fun q => ?_⟩
    rw [mlist_take_get ops j (by omega) e.on hlt] at q
    exact q
  · rintro ⟨e, h1, h2, h3⟩
    have hlt := he j o ho e h1 h2
    refine ⟨e, by simpa using h1, h2, h3.imp id fun q => ?_⟩
    rw [mlist_take_get ops j (by omega) e.on hlt]
    exact q

theorem msk_lt {ops : Array Oper} (he : EdgesOk ops) : ∀ j k, hasBit (msk ops j) k = true → k < j := by
  intro j
  induction j using Nat.strongRecOn with
  | _ j ih =>
    intro k h
    cases ho : ops[j]? with
    | none => simp [msk, ho, hasBit_zero] at h
    | some o =>
      obtain ⟨e, h1, h2, h3⟩ := (msk_bit he ho).1 h
      have hlt := he j o ho e h1 h2
      rcases h3 with rfl | h3
      · exact hlt
      · exact Nat.lt_trans (ih e.on hlt k h3) hlt

theorem msk_trans {ops : Array Oper} (he : EdgesOk ops) : ∀ j i k, hasBit (msk ops j) i = true → hasBit (msk ops i) k = true → hasBit (msk ops j) k = true := by
  intro j
  induction j using Nat.strongRecOn with
  | _ j ih =>
    intro i k h h'
    cases ho : ops[j]? with
    | none => simp [msk, ho, hasBit_zero] at h
    | some o =>
      obtain ⟨e, h1, h2, h3⟩ := (msk_bit he ho).1 h
      have hlt := he j o ho e h1 h2
      refine (msk_bit he ho).2 ⟨e, h1, h2, .inr ?_⟩
      rcases h3 with rfl | h3
      · exact h'
      · exact ih e.on hlt i k h3 h'

/-- a set of operations that is closed under its edges is closed under ancestors -/
theorem msk_closed {ops : Array Oper} (he : EdgesOk ops) {S : Nat → Prop} (hS : ∀ j o, S j → ops[j]? = some o → ∀ e ∈ o.after, Region.binds .any e = true → S e.on) :
    ∀ j k, S j → hasBit (msk ops j) k = true → S k := by
  intro j
  induction j using Nat.strongRecOn with
  | _ j ih =>
    intro k hj h
    cases ho : ops[j]? with
    | none => simp [msk, ho, hasBit_zero] at h
    | some o =>
      obtain ⟨e, h1, h2, h3⟩ := (msk_bit he ho).1 h
      have hs := hS j o hj ho e h1 h2
      rcases h3 with rfl | h3
      · exact hs
      · exact ih e.on (he j o ho e h1 h2) k hs h3

def usesOf (ops : Array Oper) (o : Oper) : List Nat :=
  (o.op.operands.toList.filterMap fun x => match x with | .tmp t => some t | _ => none) ++
    (match o.guard with | some (j, _) => (match ops[j]? with | some q => q.dst.toList | none => []) | none => [])

structure RegOk (ops : Array Oper) (N : Nat) : Prop where
  edges : EdgesOk ops
  dst : ∀ (j : Nat) (o : Oper), ops[j]? = some o → dstOk N o.dst
  one : ∀ (i j : Nat) (o q : Oper) (t : Nat), ops[i]? = some o → ops[j]? = some q → o.dst = some t → q.dst = some t → i = j
  use : ∀ (i j : Nat) (o q : Oper) (t : Nat), ops[i]? = some o → ops[j]? = some q → i ≠ j → o.dst = some t → t ∈ usesOf ops q → if i < j then hasBit (msk ops j) i = true else hasBit (msk ops i) j = true

def pairOk (ops : Array Oper) (m : List Nat) (i j : Nat) : Bool :=
  match ops[i]?, ops[j]? with
  | some o, some q => match o.dst with
    | some t => (match q.dst with | some u => !Nat.beq t u | none => true) &&
        (if (usesOf ops q).contains t then (if i < j then hasBit (m.getD j 0) i else hasBit (m.getD i 0) j) else true)
    | none => true
  | _, _ => true

def regOk (ops : Array Oper) (N : Nat) : Bool :=
  let m := mlist ops.toList
  (List.range ops.size).all fun j => match ops[j]? with
    | some o => o.after.toList.all (fun e => !Region.binds .any e || decide (e.on < j)) && (match o.dst with | some d => decide (d < N) | none => true) &&
        (List.range ops.size).all fun i => Nat.beq i j || pairOk ops m i j
    | none => true

theorem regOk_spec {ops : Array Oper} {N : Nat} (h : regOk ops N = true) : RegOk ops N := by
  unfold regOk at h
  rw [List.all_eq_true] at h
  have at_ : ∀ j o, ops[j]? = some o → (o.after.toList.all (fun e => !Region.binds .any e || decide (e.on < j)) = true ∧ (match o.dst with | some d => decide (d < N) | none => true) = true ∧
      ∀ i, i < ops.size → i ≠ j → pairOk ops (mlist ops.toList) i j = true) := by
    intro j o ho
    have hj : j < ops.size := (Array.getElem?_eq_some_iff.1 ho).1
    have := h j (List.mem_range.2 hj)
    simp only [ho, Bool.and_eq_true, List.all_eq_true, List.mem_range] at this
    obtain ⟨⟨h1, h2⟩, h3⟩ := this
    refine ⟨by rw [List.all_eq_true]; exact h1, h2, fun i hi hne => ?_⟩
    have := h3 i hi
    simp only [Bool.or_eq_true] at this
    rcases this with q | q
    · exact absurd (Nat.eq_of_beq_eq_true q) hne
    · exact q
  have hm : ∀ j, j < ops.size → (mlist ops.toList).getD j 0 = msk ops j := fun j hj => by
    have := mlist_take_get ops ops.size (Nat.le_refl _) j hj
    rwa [show ops.toList.take ops.size = ops.toList from by rw [List.take_of_length_le]; simp] at this
  refine ⟨?_, ?_, ?_, ?_⟩
  · intro j o ho e he hb
    obtain ⟨h1, _, _⟩ := at_ j o ho
    rw [List.all_eq_true] at h1
    have := h1 e (by simpa using he)
    simp only [hb, Bool.not_true, Bool.false_or, decide_eq_true_eq] at this
    exact this
  · intro j o ho d hd
    obtain ⟨_, h2, _⟩ := at_ j o ho
    rw [hd] at h2
    simpa using h2
  · intro i j o q t hi hj ho hq
    by_cases e : i = j
    · exact e
    · obtain ⟨_, _, h3⟩ := at_ j q hj
      have := h3 i (Array.getElem?_eq_some_iff.1 hi).1 e
      simp only [pairOk, hi, hj, ho, hq, Bool.and_eq_true, Bool.not_eq_true'] at this
      have h1 := this.1
      rw [Nat.beq_refl] at h1; cases h1
  · intro i j o q t hi hj hne ho ht
    obtain ⟨_, _, h3⟩ := at_ j q hj
    have hil := (Array.getElem?_eq_some_iff.1 hi).1
    have hjl := (Array.getElem?_eq_some_iff.1 hj).1
    have := h3 i hil hne
    have hc : (usesOf ops q).contains t = true := by simpa using ht
    simp only [pairOk, hi, hj, ho, Bool.and_eq_true, hc, if_true, hm i hil, hm j hjl] at this
    have h2 := this.2
    split
    · rename_i q; rw [if_pos q] at h2; exact h2
    · rename_i q; rw [if_neg q] at h2; exact h2

/- what an effect has left: its number, its mask, the memory, the next name -/
abbrev Eff := Nat × Nat × Tr O × Nat

/-- mask, memory and next name behind c effects -/
def effAt (h0 : Tr O) (c0 : Nat) (effs : List Eff) : Nat → Nat × Tr O × Nat
  | 0 => (0, h0, c0)
  | c + 1 => match effs[c]? with
    | some e => e.2
    | none => (0, h0, c0)

theorem effAt_snoc {h0 : Tr O} {c0 : Nat} {effs : List Eff} {e : Eff} {c : Nat} (h : c ≤ effs.length) : effAt h0 c0 (effs ++ [e]) c = effAt h0 c0 effs c := by
  cases c with
  | zero => rfl
  | succ c => simp only [effAt]; rw [List.getElem?_append_left (by omega)]
theorem effAt_last {h0 : Tr O} {c0 : Nat} {effs : List Eff} {e : Eff} : effAt h0 c0 (effs ++ [e]) (effs.length + 1) = e.2 := by
  simp [effAt]

def histOf (h0 : Tr O) (c0 : Nat) (effs : List Eff) : Nat → List (Nat × Nat × Tr O)
  | 0 => []
  | c + 1 => match effs[c]? with
    | some e => (e.1, (effAt h0 c0 effs c).1, (effAt h0 c0 effs c).2.1) :: histOf h0 c0 effs c
    | none => histOf h0 c0 effs c

theorem histOf_snoc {h0 : Tr O} {c0 : Nat} {effs : List Eff} {e : Eff} : ∀ c, c ≤ effs.length → histOf h0 c0 (effs ++ [e]) c = histOf h0 c0 effs c
  | 0, _ => rfl
  | c + 1, h => by
    simp only [histOf]
    rw [List.getElem?_append_left (by omega), effAt_snoc (by omega), histOf_snoc c (by omega)]

/-- a frame as it is ahead of operation j -/
structure FrAt (ops : Array Oper) (fr0 : Tr V) (val : Nat → V) (j : Nat) (fr : Tr V) : Prop where
  new : ∀ (i : Nat) (o : Oper) (t : Nat), i < j → ops[i]? = some o → o.dst = some t → fr.get t = some (val i)
  old : ∀ (t : Nat), (∀ (i : Nat) (o : Oper), i < j → ops[i]? = some o → o.dst ≠ some t) → fr.get t = fr0.get t

section
variable (P : Program) (cf : CallF) (ops : Array Oper) (n0 : Nat) (h0 : Tr O) (fr0 : Tr V)

/-- what is known of operation j -/
def OpFact (val : Nat → V) (allocs : List (Nat × O)) (reads : List (Nat × Nat × Oper × Tr V × V)) (effs : List Eff) (j : Nat) (o : Oper) : Prop :=
  ∃ fr, FrAt ops fr0 val j fr ∧
    ((wantedV ops o fr = some false ∧ val j = .tup []) ∨
     (wantedV ops o fr = some true ∧ isEff o.op = false ∧ (∃ b, (j, b) ∈ allocs ∧ n0 + j < top ∧ ∀ y, stepOp P o fr y (n0 + j) = some (.val (val j) (y.set (n0 + j) (some b)) (n0 + j + 1)))) ∨
     (wantedV ops o fr = some true ∧ isEff o.op = false ∧ (∀ y, stepOp P o fr y (n0 + j) = some (.val (val j) y (n0 + j)))) ∨
     (wantedV ops o fr = some true ∧ isEff o.op = false ∧ (j, msk ops j, o, fr, val j) ∈ reads ∧
       ∀ c, c ≤ effs.length → (∀ (c' : Nat) (e : Eff), c ≤ c' → effs[c']? = some e → hasBit (msk ops j) e.1 = false) → (∀ (c' : Nat) (e : Eff), c' < c → effs[c']? = some e → hasBit e.2.1 j = false) →
         ∃ y, stepOp P o fr (view n0 allocs (effAt h0 (n0 + ops.size) effs c).1 (effAt h0 (n0 + ops.size) effs c).2.1 (msk ops j)) (n0 + j) = some (.val (val j) y (n0 + j))) ∨
     (wantedV ops o fr = some true ∧ isEff o.op = true ∧ ∃ c h n, effs[c]? = some (j, msk ops j, h, n) ∧
       (let x := effAt h0 (n0 + ops.size) effs c
        (stepOp P o fr (view n0 allocs x.1 x.2.1 (msk ops j)) x.2.2 = some (.val (val j) h n)) ∨
        ∃ f args, stepOp P o fr (view n0 allocs x.1 x.2.1 (msk ops j)) x.2.2 = some (.call f args) ∧ cf f args (view n0 allocs x.1 x.2.1 (msk ops j)) x.2.2 = some (.ret (val j), h, n))))

/-- what is known of a new block -/
def AllocFact (val : Nat → V) (j : Nat) (o : Oper) (b : O) : Prop :=
  ∃ fr, FrAt ops fr0 val j fr ∧ wantedV ops o fr = some true ∧ isEff o.op = false ∧ n0 + j < top ∧ ∀ y, stepOp P o fr y (n0 + j) = some (.val (val j) (y.set (n0 + j) (some b)) (n0 + j + 1))

/-- what is known ahead of operation i -/
structure Facts (val : Nat → V) (effs : List Eff) (i : Nat) (d : Dr) : Prop where
  masks : d.masks = mlist (ops.toList.take i)
  fr : FrAt ops fr0 val i d.fr
  cur : d.cur = ((effAt h0 (n0 + ops.size) effs effs.length).1, (effAt h0 (n0 + ops.size) effs effs.length).2.1)
  n : d.n = (effAt h0 (n0 + ops.size) effs effs.length).2.2
  hist : d.hist = histOf h0 (n0 + ops.size) effs effs.length
  last : d.last = (effs.getLast?).map (·.1)
  effok : ∀ (c : Nat) (e : Eff), effs[c]? = some e → e.1 < i ∧ ∃ o : Oper, ops[e.1]? = some o ∧ isEff o.op = true ∧ e.2.1 = msk ops e.1
  allocs : ∀ x ∈ d.allocs, x.1 < i
  one : ∀ (j : Nat) (b b' : O), (j, b) ∈ d.allocs → (j, b') ∈ d.allocs → b = b'
  wantedEff : ∀ (c : Nat) (e : Eff) (o : Oper), effs[c]? = some e → ops[e.1]? = some o → ∃ fr, FrAt ops fr0 val e.1 fr ∧ wantedV ops o fr = some true
  allocok : ∀ (j : Nat) (o : Oper) (b : O), (j, b) ∈ d.allocs → ops[j]? = some o → AllocFact P ops n0 fr0 val j o b
  chain : ∀ (c c' : Nat) (e e' : Eff), c' < c → effs[c]? = some e → effs[c']? = some e' → hasBit (msk ops e.1) e'.1 = true
  opok : ∀ (j : Nat) (o : Oper), j < i → ops[j]? = some o → OpFact P cf ops n0 h0 fr0 val d.allocs d.reads effs j o
end

mutual
theorem beq_eq : ∀ (a b : V), V.beq a b = true → a = b
  | .bool a, b, h => by cases b <;> simp [V.beq] at h; rw [h]
  | .int k a, b, h => by cases b <;> simp [V.beq] at h; rw [h.1, h.2]
  | .str a, b, h => by
    cases b <;> simp only [V.beq] at h <;> first | (cases h; done) | skip
    rw [beqB_eq] at h; rw [eq_of_beq h]
  | .ptr a, b, h => by
    cases b <;> simp only [V.beq] at h <;> first | (cases h; done) | skip
    rw [beqAddr_eq _ _ h]
  | .slc a l c e, b, h => by
    cases b <;> simp only [V.beq] at h <;> first | (cases h; done) | skip
    simp only [Bool.and_eq_true] at h
    obtain ⟨⟨⟨h1, h2⟩, h3⟩, h4⟩ := h
    rw [beqAddr_eq _ _ h1, Nat.eq_of_beq_eq_true h2, Nat.eq_of_beq_eq_true h3, Nat.eq_of_beq_eq_true h4]
  | .map a, b, h => by
    cases b <;> simp only [V.beq] at h <;> first | (cases h; done) | skip
    rename_i c
    cases a <;> cases c <;> simp only [beqNat?] at h <;> first | (cases h; done) | skip
    · rfl
    · rw [Nat.eq_of_beq_eq_true h]
  | .fn f a c, b, h => by
    cases b <;> simp only [V.beq] at h <;> first | (cases h; done) | skip
    rename_i g b d
    simp only [Bool.and_eq_true] at h
    obtain ⟨⟨h1, h2⟩, h3⟩ := h
    rw [beqs_eq a b h2, beqs_eq c d h3]
    cases f <;> cases g <;> simp only [beqFn] at h1 <;> first | (cases h1; done) | skip
    rw [Nat.eq_of_beq_eq_true h1]
  | .nilFn, b, h => by cases b <;> simp only [V.beq] at h <;> first | (cases h; done) | rfl
  | .iface t x, b, h => by
    cases b <;> simp only [V.beq] at h <;> first | (cases h; done) | skip
    rename_i u y
    simp only [Bool.and_eq_true] at h
    rw [Nat.eq_of_beq_eq_true h.1, beq_eq x y h.2]
  | .nilIface, b, h => by cases b <;> simp only [V.beq] at h <;> first | (cases h; done) | rfl
  | .agg a, b, h => by
    cases b <;> simp only [V.beq] at h <;> first | (cases h; done) | skip
    rw [beqs_eq _ _ h]
  | .tup a, b, h => by
    cases b <;> simp only [V.beq] at h <;> first | (cases h; done) | skip
    rw [beqs_eq _ _ h]
theorem beqs_eq : ∀ (a b : List V), V.beqs a b = true → a = b
  | [], b, h => by cases b <;> simp only [V.beqs] at h <;> first | (cases h; done) | rfl
  | x :: xs, b, h => by
    cases b <;> simp only [V.beqs] at h <;> first | (cases h; done) | skip
    simp only [Bool.and_eq_true] at h
    rw [beq_eq x _ h.1, beqs_eq xs _ h.2]
theorem beqAddr_eq : ∀ (a b : Option (Nat × Nat)), beqAddr a b = true → a = b
  | none, b, h => by cases b <;> simp only [beqAddr] at h <;> first | (cases h; done) | rfl
  | some (x, y), b, h => by
    cases b <;> simp only [beqAddr] at h <;> first | (cases h; done) | skip
    simp only [Bool.and_eq_true] at h
    rw [Nat.eq_of_beq_eq_true h.1, Nat.eq_of_beq_eq_true h.2]
end

theorem readsSame_eq {P : Program} {n0 i : Nat} {o : Oper} {fr : Tr V} {v : V} {x : Tr O} (h : readsSame P n0 i o fr v x = true) : ∃ y, stepOp P o fr x (n0 + i) = some (.val v y (n0 + i)) := by
  unfold readsSame at h
  split at h
  · rename_i u y k e
    simp only [Bool.and_eq_true] at h
    have h1 := Nat.eq_of_beq_eq_true h.1
    have h2 := beq_eq _ _ h.2
    subst h1; subst h2
    exact ⟨y, e⟩
  · cases h

theorem view_cons {n0 i : Nat} {b : O} {l : List (Nat × O)} {m : Nat} {x : Tr O} {anc : Nat} (h : hasBit anc i = false) : view n0 ((i, b) :: l) m x anc = view n0 l m x anc := by
  simp [view, h]

theorem histOk_eq {P : Program} {n0 i : Nat} {o : Oper} {fr : Tr V} {v : V} {allocs : List (Nat × O)} {anc : Nat} {h0 : Tr O} {c0 : Nat} {effs : List Eff} :
    ∀ k, k ≤ effs.length → histOk P n0 i o fr v allocs anc (histOf h0 c0 effs k) = true → ∀ c, c < k → (∀ (c' : Nat) (e : Eff), c ≤ c' → c' < k → effs[c']? = some e → hasBit anc e.1 = false) →
      ∃ y, stepOp P o fr (view n0 allocs (effAt h0 c0 effs c).1 (effAt h0 c0 effs c).2.1 anc) (n0 + i) = some (.val v y (n0 + i))
  | 0, _, _, c, hc, _ => by omega
  | k + 1, hk, h, c, hc, hn => by
    have he : effs[k]? = some effs[k] := List.getElem?_eq_getElem (by omega)
    simp only [histOf, he, histOk] at h
    have hb := hn k effs[k] (by omega) (by omega) he
    rw [hb] at h
    simp only [Bool.false_eq_true, if_false, Bool.and_eq_true] at h
    by_cases q : c = k
    · subst q; exact readsSame_eq h.1
    · exact histOk_eq k (by omega) h.2 c (by omega) fun c' e h1 h2 h3 => hn c' e h1 (by omega) h3

theorem readsOk_eq {P : Program} {n0 : Nat} {allocs : List (Nat × O)} {m : Nat} {x : Tr O} : ∀ (l : List (Nat × Nat × Oper × Tr V × V)), readsOk P n0 allocs m x l = true →
    ∀ j anc o fr v, (j, anc, o, fr, v) ∈ l → hasBit m j = false → ∃ y, stepOp P o fr (view n0 allocs m x anc) (n0 + j) = some (.val v y (n0 + j))
  | [], _, j, anc, o, fr, v, hm, _ => by simp at hm
  | (j', anc', o', fr', v') :: l, h, j, anc, o, fr, v, hm, hb => by
    simp only [readsOk, Bool.and_eq_true, Bool.or_eq_true] at h
    rcases List.mem_cons.1 hm with q | q
    · cases q
      rcases h.1 with h1 | h1
      · rw [hb] at h1; cases h1
      · exact readsSame_eq h1
    · exact readsOk_eq l h.2 j anc o fr v q hb
end Go.Eng
