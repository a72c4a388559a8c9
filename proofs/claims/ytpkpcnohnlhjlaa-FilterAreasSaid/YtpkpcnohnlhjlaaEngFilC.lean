/- Filter laws, part C: the functions that read one row of integers. No conditions. -/
import Derived.Test.YtpkpcnohnlhjlaaEngFilB
import Derived.IntWalk
namespace Go.Proofs.Ytpkpcnohnlhjlaa
open Go Go.Eng

/-- a slice that names no memory, or a row of integers from its first cell on -/
def rowOf (h : Tr O) : V → Option (Nat × List Int)
  | .slc none 0 _ _ => some (0, [])
  | .slc (some (m, 0)) len _ 1 => match h.get m with
    | some (.ints .i64 ks) => some (len, ks)
    | _ => none
  | _ => none

theorem rowOf_cases {h : Tr O} {v : V} {l : Nat} {ks : List Int} (e : rowOf h v = some (l, ks)) : (∃ c z, v = .slc none 0 c z ∧ l = 0 ∧ ks = []) ∨ ∃ m c, v = .slc (some (m, 0)) l c 1 ∧ h.get m = some (.ints .i64 ks) := by
  unfold rowOf at e
  split at e
  · rename_i c z
    simp only [Option.some.injEq, Prod.mk.injEq] at e
    exact .inl ⟨c, z, rfl, e.1.symm, e.2.symm⟩
  · rename_i m len c
    split at e
    · rename_i ks' hm
      simp only [Option.some.injEq, Prod.mk.injEq] at e; obtain ⟨rfl, rfl⟩ := e
      exact .inr ⟨m, c, rfl, hm⟩
    · cases e
  · cases e

def frL : List (Nat × V) → Tr V → Tr V
  | [], t => t
  | x :: r, t => frL r (t.set x.1 (some x.2))
def stL (l : List (Nat × V)) (h : Tr O) (n : Nat) : St := { fr := frL l .nil, h := h, n := n, dfs := [] }
def oneH (ks : List Int) : Tr O := Tr.nil.set 0 (some (.ints .i64 ks))
abbrev rowA (ks : List Int) : Tr O := twoH (rowO (some ks)) (rowO none)
abbrev sl (l c : Nat) : V := .slc (some (0, 0)) l c 1
abbrev fn39 : V := .fn (.func 39) [] []
def at0 (ks : List Int) (i : Nat) : Int := ks.getD i 0

theorem wrap64 {x : Int} (h1 : -9223372036854775808 ≤ x) (h2 : x < 9223372036854775808) : IntKind.i64.wrap x = x := by
  rw [IntWalk.i64_left]
  exact IntWalk.wrap64_in x ⟨h1, by omega⟩

/-! ### slices.IndexFunc, at the test of kernels -/
noncomputable abbrev cd62 : Code := bodyOf Try.f62
noncomputable abbrev cfS (S : Ctr) : CallF := joinA S cf0
def sI62 (ks : List Int) (l c i : Nat) : St := stL [(0, sl l c), (1, fn39), (7, .int .i64 (Int.ofNat l)), (8, .int .i64 (Int.ofNat i))] (oneH ks) 1
def s162 (ks : List Int) (l c : Nat) : St := stL [(0, sl l c), (1, fn39)] (oneH ks) 1
noncomputable abbrev X62 : Code := seqL (seqR cd62)
noncomputable abbrev B62 : Code := inner (inner (seqR X62))
abbrev H62 (i : Nat) : List (Nat × Fix) := [(9, .split), (16, .split), (18, .give (.int .i64 (Int.ofNat (i + 1))))]
noncomputable abbrev M62 (ks : List Int) (l c i : Nat) := codeM Try.prog S5 cf0 (H62 i) 1000 B62 (sI62 ks l c i)

theorem a62 (ks : List Int) (l c : Nat) : tells (normF [0, 1]) (orNil (codeM Try.prog S5 cf0 [] 1000 (seqL cd62) (startSt [sl l c, fn39] (rowA ks) 2))) = [([], [], some (s162 ks l c))] := by kernel_rfl
theorem b62 (ks : List Int) (l c : Nat) : tells (normF [0, 1, 7, 8]) (orNil (codeM Try.prog S5 cf0 [] 1000 (seqL X62) (s162 ks l c))) = [([], [], some (sI62 ks l c 0))] := by kernel_rfl
theorem c62 (ks : List Int) (l c i : Nat) : tells (roundF Try.prog (cfS S5) 1000 Try.f62 [0, 1, 7, 8]) (orNil (M62 ks l c i)) =
    [([(decide (Int.ofNat i < Int.ofNat l), true), (outB (at0 ks (0 + i * 1)), true)], [0 ≤ Int.ofNat i ∧ Int.ofNat i < Int.ofNat l, 0 + i * 1 < ks.length], .ret (.int .i64 (Int.ofNat i))),
     ([(decide (Int.ofNat i < Int.ofNat l), true), (outB (at0 ks (0 + i * 1)), false)], [0 ≤ Int.ofNat i ∧ Int.ofNat i < Int.ofNat l, 0 + i * 1 < ks.length, V.int .i64 (IntKind.i64.wrap (Int.ofNat i + 1)) = V.int .i64 (Int.ofNat (i + 1))], .next (sI62 ks l c (i + 1))),
     ([(decide (Int.ofNat i < Int.ofNat l), false)], [], .exit 0 (sI62 ks l c i))] := by kernel_rfl
theorem d62 (ks : List Int) (l c i : Nat) : tells (retOf Try.prog (cfS S5) 1000 Try.f62) (orNil (codeM Try.prog S5 cf0 [] 1000 (seqR (seqR cd62)) (sI62 ks l c i))) = [([], [], some (.int .i64 (-1)))] := by kernel_rfl

theorem up_ok {i : Nat} (h : i < 1000000) : V.int .i64 (IntKind.i64.wrap (Int.ofNat i + 1)) = V.int .i64 (Int.ofNat (i + 1)) := by
  rw [wrap64 (by show -9223372036854775808 ≤ (i : Int) + 1; omega) (by show (i : Int) + 1 < 9223372036854775808; omega)]; rfl
theorem lt_ofNat {i l : Nat} (h : decide (Int.ofNat i < Int.ofNat l) = true) : i < l := by
  have : (i : Int) < (l : Int) := of_decide_eq_true h
  omega
theorem nlt_ofNat {i l : Nat} (h : decide (Int.ofNat i < Int.ofNat l) = false) : l ≤ i := by
  have : ¬ (i : Int) < (l : Int) := of_decide_eq_false h
  omega
theorem in_ofNat {i l : Nat} (h : i < l) : 0 ≤ Int.ofNat i ∧ Int.ofNat i < Int.ofNat l := ⟨Int.natCast_nonneg i, by show (i : Int) < (l : Int); omega⟩
theorem at00 (ks : List Int) (i : Nat) : at0 ks (0 + i * 1) = at0 ks i := by rw [Nat.zero_add, Nat.mul_one]

def idxOut (ks : List Int) (l : Nat) : Int := match (List.range l).find? (fun i => outB (at0 ks i)) with
  | some i => Int.ofNat i
  | none => -1

theorem idxOut_at {ks : List Int} {l i : Nat} (hi : i < l) (h : outB (at0 ks i) = true) (hall : ∀ j, j < i → outB (at0 ks j) = false) : idxOut ks l = Int.ofNat i := by
  unfold idxOut
  have : (List.range l).find? (fun i => outB (at0 ks i)) = some i := by
    rw [List.find?_range_eq_some]
    exact ⟨h, by simpa using hi, fun j hj => by rw [hall j hj]; rfl⟩
  rw [this]

theorem idxOut_none {ks : List Int} {l : Nat} (hall : ∀ j, j < l → outB (at0 ks j) = false) : idxOut ks l = -1 := by
  unfold idxOut
  have : (List.range l).find? (fun i => outB (at0 ks i)) = none := by
    rw [List.find?_eq_none]
    intro x hx
    rw [List.mem_range] at hx
    rw [hall x hx]; simp
  rw [this]

theorem cS {S : Ctr} (h : CtrOk Try.prog S) : CallOk Try.prog (joinA S cf0) := joinA_ok h cf0_ok

theorem t62 (ks : List Int) (l c : Nat) (w0 : World) (hl : l ≤ ks.length) (hl2 : l ≤ 1000) : T Try.prog Try.f62.ntmps w0 cd62 (startSt [sl l c, fn39] (rowA ks) 2) (RetQ Try.prog (cfS S5) 1000 Try.f62 (.int .i64 (idxOut ks l))) := by
  refine T_next (cS S5_ok) mo [] 1000 [0, 1] (s162 ks l c) [] (by kernel_rfl) (by kernel_rfl) (by kernel_rfl) (by kernel_rfl) (a62 ks l c) (by simp) ?_
  refine T_seq' (by kernel_rfl) ?_
  refine T_next (cS S5_ok) mo [] 1000 [0, 1, 7, 8] (sI62 ks l c 0) [] (by kernel_rfl) (by kernel_rfl) (by kernel_rfl) (by kernel_rfl) (b62 ks l c) (by simp) ?_
  refine T_block (i := 0) (by kernel_rfl) ?_
  refine T_rounds (cS S5_ok) mo H62 1000 Try.f62 [0, 1, 7, 8] (fun k s => ∃ i, k = l - i ∧ i ≤ l ∧ s = sI62 ks l c i ∧ ∀ j, j < i → outB (at0 ks j) = false) (by kernel_rfl) (by kernel_rfl) ?_ l ⟨0, rfl, Nat.zero_le _, rfl, fun j hj => absurd hj (by omega)⟩
  rintro k s ⟨i, hk, hi, rfl, hall⟩
  refine ⟨i, _, by kernel_rfl, by kernel_rfl, c62 ks l c i, fun g hg hc => ?_⟩
  simp only [List.mem_cons, List.not_mem_nil, or_false] at hg
  rcases hg with rfl | rfl | rfl
  · have hil := lt_ofNat (hc _ (List.mem_cons_self ..))
    have h2 : outB (at0 ks i) = true := by rw [← at00 ks i]; exact hc _ (List.mem_cons_of_mem _ (List.mem_cons_self ..))
    refine ⟨?_, fun s' hq => ?_⟩
    · simp only [List.mem_cons, List.not_mem_nil, or_false]
      rintro a (rfl | rfl)
      · exact in_ofNat hil
      · omega
    · rw [← idxOut_at hil h2 hall] at hq
      exact hq
  · have hil := lt_ofNat (hc _ (List.mem_cons_self ..))
    have h2 : outB (at0 ks i) = false := by rw [← at00 ks i]; exact hc _ (List.mem_cons_of_mem _ (List.mem_cons_self ..))
    refine ⟨?_, l - (i + 1), by omega, i + 1, rfl, hil, rfl, fun j hj => ?_⟩
    · simp only [List.mem_cons, List.not_mem_nil, or_false]
      rintro a (rfl | rfl | rfl)
      · exact in_ofNat hil
      · omega
      · exact up_ok (by omega)
    · by_cases hji : j = i
      · subst hji; exact h2
      · exact hall j (by omega)
  · have hil := nlt_ofNat (hc _ (List.mem_cons_self ..))
    refine ⟨by simp, fun s' hs' => ?_⟩
    have hil : i = l := by omega
    subst hil
    simp only [outOf, if_true, andThen]
    refine T_norm hs' (T_ret (cS S5_ok) mo [] 1000 Try.f62 _ _ (by kernel_rfl) (by kernel_rfl) (by kernel_rfl) (d62 ks i c i) ?_)
    rw [idxOut_none hall]
    simp

/-- a call of a function that reads one row, from its code -/
theorem oneCall {S : Ctr} (hS : CtrOk Try.prog S) {f : FuncId} {fn : Func} {code : Code} (hf : Try.prog.funcs[f]? = some fn) (hb : fn.body = some code) {ks : List Int} {E : Env} {h : Tr O} {w : World} {m : Nat} (g : Eng.Good E h w) (hm : h.get m = some (.ints .i64 ks)) {args : List V} {args' : List Value} {v : V}
    (ra : vrels (E.two (some m) none) args args') (l : (Nat.ble args.length fn.ntmps && Nat.blt fn.ntmps top) = true) (ht : ∀ w0, T Try.prog fn.ntmps w0 code (startSt args (rowA ks) 2) (RetQ Try.prog (cfS S) 1000 fn v)) :
    Calls Try.prog f args'.toArray w fun e w' => (∃ E, outrel E (.ret v) e) ∧ RowKit.Below w.heap.size w w' := by
  simp only [Bool.and_eq_true] at l
  obtain ⟨g2, d2, n2⟩ := two_ok (a := some m) (b := none) (x := some ks) (y := none) g (fun k e => by cases e; exact ⟨m, rfl, hm⟩) (fun k e => by cases e)
  exact calls_of_TE (F := 1000) mo po (cS hS) hf hb g2 d2 n2 ra (Nat.le_of_ble_eq_true l.1) (Nat.le_of_ble_eq_true l.2) (ht w)

def spec62 : List V → Tr O → Option (List Prop × V)
  | [v, .fn (.func 39) [] []], h => match rowOf h v with
    | some (l, ks) => some ([l ≤ ks.length, l ≤ 1000], .int .i64 (idxOut ks l))
    | none => none
  | _, _ => none

abbrev nilS (c z : Nat) : V := .slc none 0 c z
theorem ok62n (c z : Nat) : funOk Try.prog S5 cf0 [] 1000 (bodyOf Try.f62) [nilS c z, fn39] .nil 0 = true := by kernel_rfl
theorem sm62n (c z : Nat) : samesL (funM Try.prog S5 cf0 [] 1000 (bodyOf Try.f62) [nilS c z, fn39] .nil 0) = samesR (funM Try.prog S5 cf0 [] 1000 (bodyOf Try.f62) [nilS c z, fn39] .nil 0) := by kernel_rfl
theorem hr62n (c z : Nat) : tells (retOf Try.prog (cfS S5) 1000 Try.f62) (funM Try.prog S5 cf0 [] 1000 (bodyOf Try.f62) [nilS c z, fn39] .nil 0) = [([], [], some (.int .i64 (-1)))] := by kernel_rfl

theorem p62 : PureA Try.prog 62 spec62 := by
  refine ⟨Nat.le_of_ble_eq_true (by kernel_rfl), fun args h A v e => ?_⟩
  unfold spec62 at e
  split at e
  · rename_i sv
    split at e
    · rename_i l ks hr
      simp only [Option.some.injEq, Prod.mk.injEq] at e; obtain ⟨rfl, rfl⟩ := e
      refine ⟨by kernel_rfl, fun hA E_ n_ w_ args_ ra_ g_ hd_ hc_ => ?_⟩
      rcases rowOf_cases hr with ⟨c, z, rfl, rfl, rfl⟩ | ⟨m, c, rfl, hm⟩
      · exact calls_tells mo po S5_ok cf0_ok Try.func62 (by kernel_rfl) (by kernel_rfl) ra_ (by kernel_rfl) _ (ok62n c z) (sm62n c z) (hr62n c z) (by simp [idxOut])
      · have h1 : l ≤ ks.length := hA _ (by simp)
        have h2 : l ≤ 1000 := hA (l ≤ 1000) (by simp)
        obtain ⟨y, ys, r0, rs, rfl⟩ := ra_
        exact oneCall S5_ok Try.func62 (by kernel_rfl) g_ hm (args := [sl l c, fn39]) ⟨y, ys, two_slc0 r0, frees_rel _ _ (by kernel_rfl) rs, rfl⟩ (by kernel_rfl) fun w0 => t62 ks l c w0 h1 h2
    · cases e
  · cases e

abbrev S6 : Ctr := addS 62 spec62 S5
theorem S6_ok : CtrOk Try.prog S6 := addS_ok p62 S5_ok
end Go.Proofs.Ytpkpcnohnlhjlaa
