/- Filter laws, part KZ: what the reference's maker of curves gives. No conditions. -/
import Derived.Test.YtpkpcnohnlhjlaaEngFilK1
import Derived.Test.YtpkpcnohnlhjlaaEngFilK2
import Derived.Test.YtpkpcnohnlhjlaaEngFilK3
import Derived.Test.YtpkpcnohnlhjlaaEngFilK4
import Derived.Test.YtpkpcnohnlhjlaaEngFilK5
namespace Go.Proofs.Ytpkpcnohnlhjlaa
open Go Go.Eng

theorem en26 (ss : List Int) (c : Nat) : ∀ n, n < 60 → En26 ss c n
  | 0, _ => en26_0 ss c
  | 1, _ => en26_1 ss c
  | 2, _ => en26_2 ss c
  | 3, _ => en26_3 ss c
  | 4, _ => en26_4 ss c
  | 5, _ => en26_5 ss c
  | 6, _ => en26_6 ss c
  | 7, _ => en26_7 ss c
  | 8, _ => en26_8 ss c
  | 9, _ => en26_9 ss c
  | 10, _ => en26_10 ss c
  | 11, _ => en26_11 ss c
  | 12, _ => en26_12 ss c
  | 13, _ => en26_13 ss c
  | 14, _ => en26_14 ss c
  | 15, _ => en26_15 ss c
  | 16, _ => en26_16 ss c
  | 17, _ => en26_17 ss c
  | 18, _ => en26_18 ss c
  | 19, _ => en26_19 ss c
  | 20, _ => en26_20 ss c
  | 21, _ => en26_21 ss c
  | 22, _ => en26_22 ss c
  | 23, _ => en26_23 ss c
  | 24, _ => en26_24 ss c
  | 25, _ => en26_25 ss c
  | 26, _ => en26_26 ss c
  | 27, _ => en26_27 ss c
  | 28, _ => en26_28 ss c
  | 29, _ => en26_29 ss c
  | 30, _ => en26_30 ss c
  | 31, _ => en26_31 ss c
  | 32, _ => en26_32 ss c
  | 33, _ => en26_33 ss c
  | 34, _ => en26_34 ss c
  | 35, _ => en26_35 ss c
  | 36, _ => en26_36 ss c
  | 37, _ => en26_37 ss c
  | 38, _ => en26_38 ss c
  | 39, _ => en26_39 ss c
  | 40, _ => en26_40 ss c
  | 41, _ => en26_41 ss c
  | 42, _ => en26_42 ss c
  | 43, _ => en26_43 ss c
  | 44, _ => en26_44 ss c
  | 45, _ => en26_45 ss c
  | 46, _ => en26_46 ss c
  | 47, _ => en26_47 ss c
  | 48, _ => en26_48 ss c
  | 49, _ => en26_49 ss c
  | 50, _ => en26_50 ss c
  | 51, _ => en26_51 ss c
  | 52, _ => en26_52 ss c
  | 53, _ => en26_53 ss c
  | 54, _ => en26_54 ss c
  | 55, _ => en26_55 ss c
  | 56, _ => en26_56 ss c
  | 57, _ => en26_57 ss c
  | 58, _ => en26_58 ss c
  | 59, _ => en26_59 ss c
  | _ + 60, h => absurd h (by omega)

def s26a (ss : List Int) (n c : Nat) : St := stL [(0, sl n c)] (oneH ss) 1
def s26b (ss : List Int) (n c : Nat) : St := stL [(0, sl n c), (3, .slc (some (1, 0)) 1 1 1)] (hc26 ss 1 (fun _ => 0)) 2
def s26c (ss : List Int) (n c : Nat) : St := stL [(0, sl n c), (3, .slc (some (1, 0)) 1 1 1), (4, .int .i64 0)] (hc26 ss 1 (fun _ => 0)) 2
noncomputable abbrev r26 (H : List (Nat × Fix)) (c : Code) (s : St) := codeM Try.prog S6 cf0 H 1000 c s
theorem a26 (ss : List Int) (n c : Nat) : tells (normF [0]) (orNil (r26 [] (seqL cd26) (startSt [sl n c] (rowA ss) 2))) = [([], [], some (s26a ss n c))] := by kernel_rfl
theorem b26 (ss : List Int) (n c : Nat) : tells (normF [0, 3]) (orNil (r26 [] (seqL (seqR cd26)) (s26a ss n c))) = [([], [], some (s26b ss n c))] := by kernel_rfl
theorem c26 (ss : List Int) (n c : Nat) : tells (normF [0, 3, 4]) (orNil (r26 [] (seqL (seqR (seqR cd26))) (s26b ss n c))) = [([], [], some (s26c ss n c))] := by kernel_rfl
theorem d26 (ss : List Int) (n c : Nat) : tells (normF [0, 3, 4, 5]) (orNil (r26 [] (seqL L26) (s26c ss n c))) = [([], [], some (S26 ss n c 0 (fun _ => 0) 0))] := by kernel_rfl

/-- a function's end: a row of integers -/
def RowQ (y : Exit) (s' : St) : Prop := (y = .normal ∨ y = .ret) ∧ ∃ v h' n', leave Try.prog (cfS S6) 1000 Try.f26 s'.fr s'.dfs .ret s'.h s'.n = some (.ret v, h', n') ∧ ∃ (q l c : Nat) (ks : List Int), v = .slc (some (q, 0)) l c 1 ∧ h'.get q = some (.cells (ks.map (.int .i64))) ∧ ks.length = l ∧ l ≤ 300
theorem rowQ_of {x : X} {s' : St} (h : shpR Try.prog (cfS S6) 1000 Try.f26 (x, s') = true) : ∃ y, x.plain = some y ∧ RowQ y s' := by
  obtain ⟨rfl, q, l, c, h', n', ks, k1, k2, k3, k4⟩ := shpR_some h
  exact ⟨.ret, rfl, .inr rfl, _, h', n', k1, q, l, c, ks, rfl, k2, k3, k4⟩

theorem lp26_ok {pos : Bool} {sm : Int} (hp : decide (sm > 0) = pos) (L : Nat) : ∀ a ∈ lp26 pos L sm, a := by
  intro a ha
  cases pos with
  | false =>
    simp only [lp26, List.mem_singleton] at ha; subst ha
    rw [hp]
  | true =>
    have hs : sm > 0 := of_decide_eq_true hp
    simp only [lp26, List.mem_flatMap, List.mem_range, List.mem_cons, List.not_mem_nil, or_false] at ha
    obtain ⟨i, hi, rfl | rfl | rfl | rfl⟩ := ha
    · rw [hp]
    · exact in_ofNat hi
    · omega
    · exact in_ofNat hi

theorem t26 (ss : List Int) (n c : Nat) (w0 : World) (hn : n < 60) (hl : n ≤ ss.length) : T Try.prog Try.f26.ntmps w0 cd26 (startSt [sl n c] (rowA ss) 2) RowQ := by
  refine T_next (cS S6_ok) mo [] 1000 [0] _ [] (by kernel_rfl) (by kernel_rfl) (by kernel_rfl) (by kernel_rfl) (a26 ss n c) (by simp) ?_
  refine T_next (cS S6_ok) mo [] 1000 [0, 3] _ [] (by kernel_rfl) (by kernel_rfl) (by kernel_rfl) (by kernel_rfl) (b26 ss n c) (by simp) ?_
  refine T_next (cS S6_ok) mo [] 1000 [0, 3, 4] _ [] (by kernel_rfl) (by kernel_rfl) (by kernel_rfl) (by kernel_rfl) (c26 ss n c) (by simp) ?_
  refine T_seq' (by kernel_rfl) ?_
  refine T_next (cS S6_ok) mo [] 1000 [0, 3, 4, 5] _ [] (by kernel_rfl) (by kernel_rfl) (by kernel_rfl) (by kernel_rfl) (d26 ss n c) (by simp) ?_
  refine T_block (i := 0) (by kernel_rfl) ?_
  refine T_rounds (cS S6_ok) mo (fun _ => [(12, .split)]) 1000 Try.f26 [0, 3, 4, 5] (fun k s => ∃ i x sm, k = n - i ∧ i ≤ n ∧ s = S26 ss n c i x sm) (by kernel_rfl) (by kernel_rfl) ?_ n ⟨0, _, 0, rfl, Nat.zero_le _, rfl⟩
  rintro k s ⟨i, x, sm, hk, hi, rfl⟩
  obtain ⟨e1, e2, e3⟩ := rd26 ss n c i (by omega) x sm
  refine ⟨0, _, e1, e2, e3, fun g hg hc => ?_⟩
  simp only [List.mem_cons, List.not_mem_nil, or_false] at hg
  rcases hg with rfl | rfl
  · have hil := lt_ofNat (hc _ (List.mem_cons_self ..))
    refine ⟨?_, n - (i + 1), by omega, i + 1, _, _, rfl, hil, rfl⟩
    simp only [List.mem_cons, List.not_mem_nil, or_false]
    rintro a (rfl | rfl)
    · exact in_ofNat hil
    · unfold ldI; omega
  · have hil := nlt_ofNat (hc _ (List.mem_cons_self ..))
    refine ⟨by simp, fun s' hs' => ?_⟩
    have hil : i = n := by omega
    subst hil
    simp only [outOf, if_true, andThen]
    obtain ⟨e1, e2, e3⟩ := en26 ss c i hn (decide (sm > 0)) x sm
    refine T_norm hs' (T_tells (cS S6_ok) mo _ _ (by kernel_rfl) e1 e2 e3 fun g hg hcn => ?_)
    have hlp : ∀ L, ∀ a ∈ lp26 (decide (sm > 0)) L sm, a := fun L => lp26_ok rfl L
    unfold G26 at hg
    split at hg
    · rename_i hb
      have h2 : 2 < i := Nat.le_of_ble_eq_true hb
      simp only [List.mem_cons, List.not_mem_nil, or_false] at hg
      rcases hg with rfl | rfl
      · refine ⟨fun a ha => ?_, fun x s' hx => rowQ_of hx⟩
        rcases List.mem_append.1 ha with ha | ha
        · simp only [List.mem_cons, List.not_mem_nil, or_false] at ha
          rcases ha with rfl | rfl | rfl | rfl
          · exact in_ofNat (by omega)
          · unfold ldI; omega
          · exact in_ofNat (by omega)
          · unfold ldI; omega
        · exact hlp _ a ha
      · refine ⟨fun a ha => ?_, fun x s' hx => rowQ_of hx⟩
        rcases List.mem_append.1 ha with ha | ha
        · simp only [List.mem_cons, List.not_mem_nil, or_false] at ha
          rcases ha with rfl | rfl
          · exact in_ofNat (by omega)
          · unfold ldI; omega
        · exact hlp _ a ha
    · rw [List.mem_singleton.1 hg]
      exact ⟨hlp _, fun x s' hx => rowQ_of hx⟩

theorem nil26i (c z : Nat) : (r26 [] cd26 (startSt [nilS c z] (twoH (rowO none) (rowO none)) 2)).isSome = true := by kernel_rfl
theorem nil26s (c z : Nat) : samesL (orNil (r26 [] cd26 (startSt [nilS c z] (twoH (rowO none) (rowO none)) 2))) = samesR (orNil (r26 [] cd26 (startSt [nilS c z] (twoH (rowO none) (rowO none)) 2))) := by kernel_rfl
theorem nil26 (c z : Nat) : tells (shpR Try.prog (cfS S6) 1000 Try.f26) (orNil (r26 [] cd26 (startSt [nilS c z] (twoH (rowO none) (rowO none)) 2))) = [([], [], true)] := by kernel_rfl

/-- the row that comes is the caller's next name -/
def RowR (n : Nat) (h : Tr O) (v : V) (h' : Tr O) (n' : Nat) : Prop := ∃ (l c : Nat) (ks : List Int), v = .slc (some (n, 0)) l c 1 ∧ h' = h.set n (some (.own .i64 ks)) ∧ n' = n + 1 ∧ ks.length = l ∧ l ≤ 300

/-- one row from a cell on, under a name of our own -/
def Env.from (E : Env) (m o : Nat) : Env := ⟨fun j => match j with | 0 => (E.ι m).map fun p => (p.1, p.2 + o) | _ => none, E.β⟩
theorem from_ok {E : Env} {h : Tr O} {w : World} {m o : Nat} {ks : List Int} (g : Eng.Good E h w) (hm : h.get m = some (.ints .i64 ks)) :
    Eng.Good (Env.from E m o) (rowA (ks.drop o)) w ∧ Dom (Env.from E m o) 2 ∧ (∀ j, ¬ wlive (rowA (ks.drop o)) j) := by
  have hwl : ∀ j, ¬ wlive (rowA (ks.drop o)) j := by
    rintro j ⟨x, h1, h2⟩
    rw [twoH_get] at h1
    split at h1
    · simp only [rowO, Option.map_some, Option.some.injEq] at h1; subst h1; cases h2
    · cases h1
    · cases h1
  refine ⟨⟨fun j x hj => ?_, fun j _ _ _ _ _ hj => absurd hj (hwl j), fun j b s e => ?_⟩, fun j hj => ?_, hwl⟩
  · rw [twoH_get] at hj
    split at hj
    · simp only [rowO, Option.map_some, Option.some.injEq] at hj; subst hj
      obtain ⟨b, s, q1, c, el, fz, q2, q3, q4⟩ := g.rel m _ hm
      refine ⟨b, s + o, by simp [Env.from, q1], c, el, fz, q2, q3, fun i x hx => ?_⟩
      rw [List.getElem?_drop] at hx
      have := q4 _ x hx
      rw [← this]; congr 1; omega
    · cases hj
    · cases hj
  · match j, e with
    | 0, e =>
      simp only [Env.from] at e
      cases q : E.ι m with
      | none => rw [q] at e; cases e
      | some p => rw [q] at e; simp only [Option.map_some, Option.some.injEq, Prod.mk.injEq] at e; exact g.bnd m b p.2 (by rw [q, ← e.1])
    | j + 1, e => cases e
  · match j, hj with
    | 0, hj => exact absurd hj (by show ¬ 2 ≤ 0; omega)
    | j + 1, _ => rfl
theorem from_slc {E : Env} {m o l c : Nat} {v : Value} (r : vrel E (.slc (some (m, o)) l c 1) v) : vrel (Env.from E m o) (.slc (some (0, 0)) l c 1) v := by
  obtain ⟨b, s, o', cap', k1, k2, k3, k4, k5, k6⟩ := r
  exact ⟨b, s + o, o', cap', by simp [Env.from, k1], fun h => by have := k2 h; omega, k3, k4, k5, k6⟩

theorem row_post {E : Env} {h : Tr O} {n : Nat} {w : World} (g : Eng.Good E h w) (hd : Dom E n) (hn : n < top) {e : Ending} {w' : World} (q : ∃ v h' E2, (∃ (q l c : Nat) (ks : List Int), v = V.slc (some (q, 0)) l c 1 ∧ h'.get q = some (.cells (ks.map (.int .i64))) ∧ ks.length = l ∧ l ≤ 300) ∧ outrel E2 (.ret v) e ∧ Upd0 w E2 h' w') :
    ∃ v h' n', RowR n h v h' n' ∧ CPost E h n w (.ret v) h' n' e w' := by
  obtain ⟨v, h', E2, ⟨q, l, c, ks, rfl, hq, hl, hl3⟩, ho, u⟩ := q
  obtain ⟨E', u1, u2, u3, u4⟩ := cpost_row g hd hn u.below u.good true hq rfl (u.fresh hq rfl)
  refine ⟨_, _, n + 1, ⟨l, c, ks, rfl, rfl, rfl, hl, hl3⟩, E', u1, u2, u3, by omega, ?_⟩
  cases e with
  | returned v' => exact u4 l c v' ho
  | _ => exact ho.elim

theorem call26 {E : Env} {h : Tr O} {n : Nat} {w : World} {m o l c : Nat} {ss : List Int} {args' : List Value} (g : Eng.Good E h w) (hd : Dom E n) (hn : n < top) (hm : h.get m = some (.ints .i64 ss)) (hl : o + l ≤ ss.length) (hl2 : l < 60) (ra : vrels E [.slc (some (m, o)) l c 1] args') :
    Calls Try.prog 26 args'.toArray w fun e w' => ∃ v h' n', RowR n h v h' n' ∧ CPost E h n w (.ret v) h' n' e w' := by
  obtain ⟨g2, d2, n2⟩ := from_ok (o := o) g hm
  obtain ⟨y, ys, r0, rs, rfl⟩ := ra
  exact (calls_of_TQ (F := 1000) mo po (cS S6_ok) Try.func26 (code := cd26) (by kernel_rfl) g2 d2 n2 (args := [sl l c]) ⟨y, ys, from_slc r0, rs, rfl⟩ (by kernel_rfl) _ (t26 (ss.drop o) l c w hl2 (by rw [List.length_drop]; omega))).mono fun e w' q => row_post g hd hn q
theorem call26n {E : Env} {h : Tr O} {n : Nat} {w : World} {c z : Nat} {args' : List Value} (g : Eng.Good E h w) (hd : Dom E n) (hn : n < top) (ra : vrels E [nilS c z] args') :
    Calls Try.prog 26 args'.toArray w fun e w' => ∃ v h' n', RowR n h v h' n' ∧ CPost E h n w (.ret v) h' n' e w' := by
  obtain ⟨g2, d2, n2⟩ := two_ok (a := none) (b := none) (x := none) (y := none) g (fun k e => by cases e) (fun k e => by cases e)
  exact (calls_of_TQ (F := 1000) mo po (cS S6_ok) Try.func26 (code := cd26) (by kernel_rfl) g2 d2 n2 (args := [nilS c z]) (frees_rel _ _ (by kernel_rfl) ra) (by kernel_rfl) _
    (T_tells (cS S6_ok) mo _ _ (by kernel_rfl) (nil26i c z) (nil26s c z) (nil26 c z) fun g hg _ => by rw [List.mem_singleton.1 hg]; exact ⟨by simp, fun x s' hx => rowQ_of hx⟩)).mono fun e w' q => row_post g hd hn q
end Go.Proofs.Ytpkpcnohnlhjlaa
