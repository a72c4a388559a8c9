/- Filter laws, part F: functions of a filter: the forms, chains of tests; plain, window. No conditions. -/
import Derived.Test.YtadejpmecljjpaaEngSix
set_option linter.unusedVariables false
set_option linter.unusedSimpArgs false
set_option linter.unusedSectionVars false
namespace Go.Proofs.Ytadejpmecljjpaa
open Go Go.Eng
def chG : List (Bool × Bool) → List Prop → List (List Prop × Bool) → List (List (Bool × Bool) × List Prop × Option V)
  | acc, az, [] => [(acc, az, some (.bool true))]
  | acc, az, x :: r => chG (acc ++ [(x.2, true)]) (az ++ x.1) r ++ [(acc ++ [(x.2, false)], az ++ x.1, some (.bool false))]
def chB : List (List Prop × Bool) → Bool
  | [] => true
  | x :: r => x.2 && chB r
theorem chG_ok : ∀ (l : List (List Prop × Bool)) (acc : List (Bool × Bool)) (az : List Prop), (∀ a ∈ az, a) → (∀ x ∈ l, ∀ a ∈ x.1, a) → ∀ g ∈ chG acc az l, (∀ b ∈ g.1, b.1 = b.2) → (∀ a ∈ g.2.1, a) ∧ g.2.2 = some (.bool (chB l))
  | [], acc, az, ha, _, g, hg, hc => by
    simp only [chG, List.mem_singleton] at hg; subst hg
    exact ⟨ha, rfl⟩
  | x :: r, acc, az, ha, hl, g, hg, hc => by
    have has : ∀ a ∈ az ++ x.1, a := fun a h => (List.mem_append.1 h).elim (ha a) (hl x (by simp) a)
    simp only [chG, List.mem_append, List.mem_singleton] at hg
    rcases hg with hg | rfl
    · obtain ⟨k1, k2⟩ := chG_ok r _ _ has (fun y hy => hl y (by simp [hy])) g hg hc
      refine ⟨k1, ?_⟩
      have hx : x.2 = true := by
        have mem : ∀ (l : List (List Prop × Bool)) (acc : List (Bool × Bool)) (az : List Prop) (g), g ∈ chG acc az l → ∀ b ∈ acc, b ∈ g.1 := by
          intro l
          induction l with
          | nil => intro acc az g hg b hb; simp only [chG, List.mem_singleton] at hg; subst hg; exact hb
          | cons y l ih =>
            intro acc az g hg b hb
            simp only [chG, List.mem_append, List.mem_singleton] at hg
            rcases hg with hg | rfl
            · exact ih _ _ g hg b (by simp [hb])
            · simp [hb]
        exact hc (x.2, true) (mem r _ _ g hg _ (by simp))
      rw [k2]; simp only [chB, hx, Bool.true_and]
    · have hx : x.2 = false := hc (x.2, false) (by simp)
      exact ⟨has, by simp only [chB, hx, Bool.false_and]⟩
abbrev FV (k r : Int) (sK : V) (d v : Int) (sC : V) : V := .agg [.int .i64 k, .int .i64 r, sK, .int .i64 d, .int .i64 v, sC]
abbrev RF := Int → Int → Int → Int → Nat → List Int → Nat → List Int → List V → Option V
def specF (R : RF) : List V → Tr O → Option (List Prop × V)
  | .agg [.int .i64 k, .int .i64 r, sK, .int .i64 d, .int .i64 v, sC] :: X, h => match rowOf h sK with
    | some (lK, ks) => match rowOf h sC with
      | some (lC, cs) => match R k r d v lK ks lC cs X with
        | some u => some ([lK ≤ ks.length, lK ≤ 1000, lC ≤ cs.length, lC ≤ 1000], u)
        | none => none
      | none => none
    | none => none
  | _, _ => none
abbrev sK (nil : Bool) (l c z : Nat) : V := match nil with | true => .slc none 0 c z | false => .slc (some (0, 0)) l c 1
abbrev sC (nil : Bool) (l c z : Nat) : V := match nil with | true => .slc none 0 c z | false => .slc (some (1, 0)) l c 1
abbrev rO (nil : Bool) (ks : List Int) : Option (List Int) := match nil with | true => none | false => some ks
abbrev hF (nK nC : Bool) (ks cs : List Int) : Tr O := twoH (rowO (rO nK ks)) (rowO (rO nC cs))
abbrev ln (nil : Bool) (l : Nat) : Nat := match nil with | true => 0 | false => l
abbrev rw' (nil : Bool) (ks : List Int) : List Int := match nil with | true => [] | false => ks
theorem frees_noE {E E' : Env} {X : List V} {ys : List Value} (h : V.frees X = true) (r : vrels E X ys) : vrels E' X ys := frees_rel _ _ h r
theorem filter_rel {E E' : Env} {k r d v : Int} {a b a' b' : V} {x : Value} (ha : ∀ y, vrel E a y → vrel E' a' y) (hb : ∀ y, vrel E b y → vrel E' b' y) (h : vrel E (FV k r a d v b) x) : vrel E' (FV k r a' d v b') x := by
  obtain ⟨cs', h, rfl⟩ := h
  obtain ⟨y1, t1, r1, h, rfl⟩ := h
  obtain ⟨y2, t2, r2, h, rfl⟩ := h
  obtain ⟨y3, t3, r3, h, rfl⟩ := h
  obtain ⟨y4, t4, r4, h, rfl⟩ := h
  obtain ⟨y5, t5, r5, h, rfl⟩ := h
  obtain ⟨y6, t6, r6, h, rfl⟩ := h
  exact ⟨_, ⟨y1, _, r1, ⟨y2, _, r2, ⟨y3, _, ha _ r3, ⟨y4, _, r4, ⟨y5, _, r5, ⟨y6, _, hb _ r6, h, rfl⟩, rfl⟩, rfl⟩, rfl⟩, rfl⟩, rfl⟩, rfl⟩
theorem pureF {S : Ctr} (hS : CtrOk Try.prog S) {f : FuncId} {fn : Func} {code : Code} (hlt : f < Try.prog.funcs.size) (hf : Try.prog.funcs[f]? = some fn) (hb : fn.body = some code) {R : RF}
    (hX : ∀ k r d v lK ks lC cs X u, R k r d v lK ks lC cs X = some u → u.free = true ∧ V.frees X = true ∧ (Nat.ble (X.length + 1) fn.ntmps && Nat.blt fn.ntmps top) = true)
    (run : ∀ k r d v lK ks lC cs X u (nK nC : Bool) cK zK cC zC, R k r d v (ln nK lK) (rw' nK ks) (ln nC lC) (rw' nC cs) X = some u → ln nK lK ≤ (rw' nK ks).length → ln nK lK ≤ 1000 → ln nC lC ≤ (rw' nC cs).length → ln nC lC ≤ 1000 →
      ∀ w0, T Try.prog fn.ntmps w0 code (startSt (FV k r (sK nK lK cK zK) d v (sC nC lC cC zC) :: X) (hF nK nC ks cs) 2) (RetQ Try.prog (cfS S) 1000 fn u)) : PureA Try.prog f (specF R) := by
  refine ⟨hlt, fun args h A u e => ?_⟩
  unfold specF at e
  split at e
  · rename_i k r vK d v vC X
    split at e
    · rename_i lK ks hrK
      split at e
      · rename_i lC cs hrC
        split at e
        · rename_i u' hR
          simp only [Option.some.injEq, Prod.mk.injEq] at e; obtain ⟨rfl, rfl⟩ := e
          obtain ⟨hu, hfX, hlen⟩ := hX _ _ _ _ _ _ _ _ _ _ hR
          refine ⟨hu, fun hA E n w args' ra g hd _ => ?_⟩
          have h1 : lK ≤ ks.length := hA _ (by simp)
          have h2 : lK ≤ 1000 := hA (lK ≤ 1000) (by simp)
          have h3 : lC ≤ cs.length := hA _ (by simp)
          have h4 : lC ≤ 1000 := hA (lC ≤ 1000) (by simp)
          obtain ⟨y, ys, r0, rs, rfl⟩ := ra
          simp only [Bool.and_eq_true] at hlen
          have fin : ∀ (nK nC : Bool) (cK zK cC zC : Nat) (E1 : Env), ln nK lK = lK → rw' nK ks = ks → ln nC lC = lC → rw' nC cs = cs → Eng.Good E1 (hF nK nC ks cs) w → Dom E1 2 → (∀ m, ¬ wlive (hF nK nC ks cs) m) → vrel E1 (FV k r (sK nK lK cK zK) d v (sC nC lC cC zC)) y →
              Calls Try.prog f (y :: ys).toArray w fun e w' => (∃ E', outrel E' (.ret u') e) ∧ RowKit.Below w.heap.size w w' := by
            intro nK nC cK zK cC zC E1 e1 e2 e3 e4 g2 d2 n2 r2
            exact calls_of_TE (F := 1000) mo po (cS hS) hf hb g2 d2 n2 (args := FV k r (sK nK lK cK zK) d v (sC nC lC cC zC) :: X) ⟨y, ys, r2, frees_rel _ _ hfX rs, rfl⟩ (by simpa using Nat.le_of_ble_eq_true hlen.1) (Nat.le_of_ble_eq_true hlen.2)
              (run k r d v lK ks lC cs X u' nK nC cK zK cC zC (by rw [e1, e2, e3, e4]; exact hR) (by rw [e1, e2]; exact h1) (by rw [e1]; exact h2) (by rw [e3, e4]; exact h3) (by rw [e3]; exact h4) w)
          rcases rowOf_cases hrK with ⟨c, z, rfl, rfl, rfl⟩ | ⟨m, c, rfl, hm⟩ <;> rcases rowOf_cases hrC with ⟨c', z', rfl, rfl, rfl⟩ | ⟨m', c', rfl, hm'⟩
          · obtain ⟨g2, d2, n2⟩ := two_ok (a := none) (b := none) (x := none) (y := none) g (fun k e => by cases e) (fun k e => by cases e)
            exact fin true true c z c' z' _ rfl rfl rfl rfl g2 d2 n2 (filter_rel (E := E) (E' := E.two none none) (a := .slc none 0 c z) (a' := .slc none 0 c z) (b := .slc none 0 c' z') (b' := .slc none 0 c' z') (fun _ q => q) (fun _ q => q) r0)
          · obtain ⟨g2, d2, n2⟩ := two_ok (a := none) (b := some m') (x := none) (y := some cs) g (fun k e => by cases e) (fun k e => by cases e; exact ⟨m', rfl, hm'⟩)
            exact fin true false c z c' 0 _ rfl rfl rfl rfl g2 d2 n2 (filter_rel (E := E) (E' := E.two none (some m')) (a := .slc none 0 c z) (a' := .slc none 0 c z) (b := .slc (some (m', 0)) lC c' 1) (b' := .slc (some (1, 0)) lC c' 1) (fun _ q => q) (fun _ q => two_slc1 q) r0)
          · obtain ⟨g2, d2, n2⟩ := two_ok (a := some m) (b := none) (x := some ks) (y := none) g (fun k e => by cases e; exact ⟨m, rfl, hm⟩) (fun k e => by cases e)
            exact fin false true c 0 c' z' _ rfl rfl rfl rfl g2 d2 n2 (filter_rel (E := E) (E' := E.two (some m) none) (a := .slc (some (m, 0)) lK c 1) (a' := .slc (some (0, 0)) lK c 1) (b := .slc none 0 c' z') (b' := .slc none 0 c' z') (fun _ q => two_slc0 q) (fun _ q => q) r0)
          · obtain ⟨g2, d2, n2⟩ := two_ok (a := some m) (b := some m') (x := some ks) (y := some cs) g (fun k e => by cases e; exact ⟨m, rfl, hm⟩) (fun k e => by cases e; exact ⟨m', rfl, hm'⟩)
            exact fin false false c 0 c' 0 _ rfl rfl rfl rfl g2 d2 n2 (filter_rel (E := E) (E' := E.two (some m) (some m')) (a := .slc (some (m, 0)) lK c 1) (a' := .slc (some (0, 0)) lK c 1) (b := .slc (some (m', 0)) lC c' 1) (b' := .slc (some (1, 0)) lC c' 1) (fun _ q => two_slc0 q) (fun _ q => two_slc1 q) r0)
        · cases e
      · cases e
    · cases e
  · cases e
def tst (b : Bool) (l : List (List Prop × Bool)) : List (List Prop × Bool) := match b with | true => [] | false => l
def ch37 (b1 b2 b3 b4 : Bool) (r d v : Int) (lK lC : Nat) : List (List Prop × Bool) :=
  tst b1 [([], decide (Int.ofNat lK = 0)), ([], decide (d = 0))] ++ (tst b2 [([], decide (v = 0))] ++ (tst b3 [([], decide (Int.ofNat lC = 0))] ++ tst b4 [([], decide (r = 0))]))
def plainB (b1 b2 b3 b4 : Bool) (r d v : Int) (lK lC : Nat) : Bool := chB (ch37 b1 b2 b3 b4 r d v lK lC)
def R37 : RF := fun _ r d v lK _ lC _ X => match X with
  | [.bool b1, .bool b2, .bool b3, .bool b4] => some (.bool (plainB b1 b2 b3 b4 r d v lK lC))
  | _ => none
abbrev H37 : List (Nat × Fix) := [(16, .split), (20, .split), (28, .split), (37, .split), (45, .split)]
noncomputable abbrev M37 (k r d v : Int) (lK : Nat) (ks : List Int) (lC : Nat) (cs : List Int) (nK nC : Bool) (cK zK cC zC : Nat) (b1 b2 b3 b4 : Bool) := codeM Try.prog S8 cf0 H37 1000 (bodyOf Try.f57) (startSt [FV k r (sK nK lK cK zK) d v (sC nC lC cC zC), .bool b1, .bool b2, .bool b3, .bool b4] (hF nK nC ks cs) 2)
theorem ok37 (k r d v : Int) (lK : Nat) (ks : List Int) (lC : Nat) (cs : List Int) (nK nC : Bool) (cK zK cC zC : Nat) (b1 b2 b3 b4 : Bool) : (M37 k r d v lK ks lC cs nK nC cK zK cC zC b1 b2 b3 b4).isSome = true := by
  cases b1 <;> cases b2 <;> cases b3 <;> cases b4 <;> cases nK <;> cases nC <;> kernel_rfl
theorem sm37 (k r d v : Int) (lK : Nat) (ks : List Int) (lC : Nat) (cs : List Int) (nK nC : Bool) (cK zK cC zC : Nat) (b1 b2 b3 b4 : Bool) : samesL (orNil (M37 k r d v lK ks lC cs nK nC cK zK cC zC b1 b2 b3 b4)) = samesR (orNil (M37 k r d v lK ks lC cs nK nC cK zK cC zC b1 b2 b3 b4)) := by
  cases b1 <;> cases b2 <;> cases b3 <;> cases b4 <;> cases nK <;> cases nC <;> kernel_rfl
theorem hr37 (k r d v : Int) (lK : Nat) (ks : List Int) (lC : Nat) (cs : List Int) (nK nC : Bool) (cK zK cC zC : Nat) (b1 b2 b3 b4 : Bool) : tells (retOf Try.prog (cfS S8) 1000 Try.f57) (orNil (M37 k r d v lK ks lC cs nK nC cK zK cC zC b1 b2 b3 b4)) = chG [] [] (ch37 b1 b2 b3 b4 r d v (ln nK lK) (ln nC lC)) := by
  cases b1 <;> cases b2 <;> cases b3 <;> cases b4 <;> cases nK <;> cases nC <;> kernel_rfl
theorem ch37_free (b1 b2 b3 b4 : Bool) (r d v : Int) (lK lC : Nat) : ∀ x ∈ ch37 b1 b2 b3 b4 r d v lK lC, ∀ a ∈ x.1, a := by
  intro x hx
  have : x.1 = [] := by
    unfold ch37 at hx
    cases b1 <;> cases b2 <;> cases b3 <;> cases b4 <;> simp only [tst, List.append_nil, List.nil_append, List.cons_append, List.mem_cons, List.not_mem_nil, or_false] at hx <;> (first | exact hx.elim | (rcases hx with rfl | rfl | rfl | rfl | rfl <;> rfl) | (rcases hx with rfl | rfl | rfl | rfl <;> rfl) | (rcases hx with rfl | rfl | rfl <;> rfl) | (rcases hx with rfl | rfl <;> rfl) | (subst hx; rfl))
  rw [this]; intro a ha; simp at ha
theorem p37 : PureA Try.prog 57 (specF R37) := by
  refine pureF S8_ok (Nat.le_of_ble_eq_true (by kernel_rfl)) Try.func57 (code := bodyOf Try.f57) (by kernel_rfl) (fun k r d v lK ks lC cs X u e => ?_) (fun k r d v lK ks lC cs X u nK nC cK zK cC zC e h1 h2 h3 h4 w0 => ?_)
  · unfold R37 at e
    split at e
    · simp only [Option.some.injEq] at e; subst e
      exact ⟨rfl, rfl, by kernel_rfl⟩
    · cases e
  · unfold R37 at e
    split at e
    · rename_i b1 b2 b3 b4
      simp only [Option.some.injEq] at e; subst e
      exact T_ret (cS S8_ok) mo H37 1000 Try.f57 _ _ (by kernel_rfl) (ok37 k r d v lK ks lC cs nK nC cK zK cC zC b1 b2 b3 b4) (sm37 k r d v lK ks lC cs nK nC cK zK cC zC b1 b2 b3 b4) (hr37 k r d v lK ks lC cs nK nC cK zK cC zC b1 b2 b3 b4) (chG_ok _ [] [] (by simp) (ch37_free b1 b2 b3 b4 r d v (ln nK lK) (ln nC lC)))
    · cases e
def R48 : RF := fun k _ _ _ _ _ _ _ X => match X with
  | [] => some (.bool (within k 1 4))
  | _ => none
noncomputable abbrev M48 (k r d v : Int) (lK : Nat) (ks : List Int) (lC : Nat) (cs : List Int) (nK nC : Bool) (cK zK cC zC : Nat) := codeM Try.prog S8 cf0 [(5, .split), (9, .split)] 1000 (bodyOf Try.f81) (startSt [FV k r (sK nK lK cK zK) d v (sC nC lC cC zC)] (hF nK nC ks cs) 2)
theorem ok48 (k r d v : Int) (lK : Nat) (ks : List Int) (lC : Nat) (cs : List Int) (nK nC : Bool) (cK zK cC zC : Nat) : (M48 k r d v lK ks lC cs nK nC cK zK cC zC).isSome = true := by cases nK <;> cases nC <;> kernel_rfl
theorem sm48 (k r d v : Int) (lK : Nat) (ks : List Int) (lC : Nat) (cs : List Int) (nK nC : Bool) (cK zK cC zC : Nat) : samesL (orNil (M48 k r d v lK ks lC cs nK nC cK zK cC zC)) = samesR (orNil (M48 k r d v lK ks lC cs nK nC cK zK cC zC)) := by cases nK <;> cases nC <;> kernel_rfl
theorem hr48 (k r d v : Int) (lK : Nat) (ks : List Int) (lC : Nat) (cs : List Int) (nK nC : Bool) (cK zK cC zC : Nat) : tells (retOf Try.prog (cfS S8) 1000 Try.f81) (orNil (M48 k r d v lK ks lC cs nK nC cK zK cC zC)) = chG [] [] [([], decide (k ≥ 1)), ([], decide (k ≤ 4))] := by cases nK <;> cases nC <;> kernel_rfl
theorem p48 : PureA Try.prog 81 (specF R48) := by
  refine pureF S8_ok (Nat.le_of_ble_eq_true (by kernel_rfl)) Try.func81 (code := bodyOf Try.f81) (by kernel_rfl) (fun k r d v lK ks lC cs X u e => ?_) (fun k r d v lK ks lC cs X u nK nC cK zK cC zC e h1 h2 h3 h4 w0 => ?_)
  · unfold R48 at e
    split at e
    · simp only [Option.some.injEq] at e; subst e
      exact ⟨rfl, rfl, by kernel_rfl⟩
    · cases e
  · unfold R48 at e
    split at e
    · simp only [Option.some.injEq] at e; subst e
      have : within k 1 4 = chB [([], decide (k ≥ 1)), ([], decide (k ≤ 4))] := by simp [within, chB]
      rw [this]
      exact T_ret (cS S8_ok) mo _ 1000 Try.f81 _ _ (by kernel_rfl) (ok48 k r d v lK ks lC cs nK nC cK zK cC zC) (sm48 k r d v lK ks lC cs nK nC cK zK cC zC) (hr48 k r d v lK ks lC cs nK nC cK zK cC zC) (chG_ok _ [] [] (by simp) (by simp))
    · cases e
abbrev S9 : Ctr := addS 81 (specF R48) (addS 57 (specF R37) S8)
theorem S9_ok : CtrOk Try.prog S9 := addS_ok p48 (addS_ok p37 S8_ok)
end Go.Proofs.Ytadejpmecljjpaa
namespace Go.Proofs.Ytadejpmecljjpaa
open Go Go.Eng
def side (r : Int) : Int := w64 (w64 (2 * r) + 1)
abbrev nat0 (l : Nat) : Bool := decide (Int.ofNat l = 0)
def chV (k : Nat) (r d v : Int) (lK : Nat) (ks : List Int) (lC : Nat) (cs : List Int) : List (List Prop × Bool) := match k with
  | 1 => [([], within r 0 3), ([], decide (Int.ofNat lK = w64 (side r * side r))), ([], within d 1 1048576), ([lK ≤ ks.length, lK ≤ 1000], !(badB lK ks)), ([], decide (r = r)), ([], decide (d = d)), ([], decide (v = 0)), ([], decide (Int.ofNat lK = Int.ofNat lK)), ([], nat0 lC)]
  | 2 => [([], within r 0 3), ([], decide (r = r)), ([], decide (d = 0)), ([], decide (v = 0)), ([], nat0 lK), ([], nat0 lC)]
  | 3 => [([], within r 0 3), ([], decide (r = r)), ([], decide (d = 0)), ([], decide (v = 0)), ([], nat0 lK), ([], nat0 lC)]
  | 4 => [([], within r 0 3), ([], decide (r = r)), ([], decide (d = 0)), ([], decide (v = 0)), ([], nat0 lK), ([], nat0 lC)]
  | 5 => [([lC ≤ cs.length, lC ≤ 1000], curveB lC cs), ([], decide (r = 0)), ([], decide (d = 0)), ([], decide (v = 0)), ([], nat0 lK), ([], decide (Int.ofNat lC = Int.ofNat lC))]
  | 6 => [([], decide (r = 0)), ([], decide (d = 0)), ([], decide (v = 0)), ([], nat0 lK), ([], nat0 lC)]
  | 7 => [([], within v 0 256), ([], decide (r = 0)), ([], decide (d = 0)), ([], decide (v = v)), ([], nat0 lK), ([], nat0 lC)]
  | 8 => [([], within r (-3) 3), ([], within v (-3) 3), ([], decide (r = r)), ([], decide (d = 0)), ([], decide (v = v)), ([], nat0 lK), ([], nat0 lC)]
  | _ => []
def validB (k r d v : Int) (lK : Nat) (ks : List Int) (lC : Nat) (cs : List Int) : Bool :=
  if k = 1 then chB (chV 1 r d v lK ks lC cs) else if k = 2 then chB (chV 2 r d v lK ks lC cs) else if k = 3 then chB (chV 3 r d v lK ks lC cs) else if k = 4 then chB (chV 4 r d v lK ks lC cs)
  else if k = 5 then chB (chV 5 r d v lK ks lC cs) else if k = 6 then chB (chV 6 r d v lK ks lC cs) else if k = 7 then chB (chV 7 r d v lK ks lC cs) else if k = 8 then chB (chV 8 r d v lK ks lC cs) else false
def R21 : RF := fun k r d v lK ks lC cs X => match X with
  | [] => some (.bool (validB k r d v lK ks lC cs))
  | _ => none
abbrev H21 : List (Nat × Fix) := [(29, .split), (37, .split), (42, .split), (49, .split), (60, .split), (68, .split), (78, .split), (89, .split), (93, .split), (101, .split), (108, .split), (115, .split), (124, .split), (133, .split)]
abbrev H21o : List (Nat × Fix) := [(13, .give (.bool false)), (52, .give (.bool false)), (53, .give (.bool false)), (54, .give (.bool false)), (62, .give (.bool false)), (70, .give (.bool false)), (72, .give (.bool false)), (80, .give (.bool false))]
noncomputable abbrev M21 (H : List (Nat × Fix)) (k r d v : Int) (lK : Nat) (ks : List Int) (lC : Nat) (cs : List Int) (nK nC : Bool) (cK zK cC zC : Nat) := codeM Try.prog S9 cf0 H 1000 (bodyOf Try.f39) (startSt [FV k r (sK nK lK cK zK) d v (sC nC lC cC zC)] (hF nK nC ks cs) 2)
theorem ok21_1 (r d v : Int) (lK : Nat) (ks : List Int) (lC : Nat) (cs : List Int) (nK nC : Bool) (cK zK cC zC : Nat) : (M21 H21 1 r d v lK ks lC cs nK nC cK zK cC zC).isSome = true := by cases nK <;> cases nC <;> kernel_rfl
theorem sm21_1 (r d v : Int) (lK : Nat) (ks : List Int) (lC : Nat) (cs : List Int) (nK nC : Bool) (cK zK cC zC : Nat) : samesL (orNil (M21 H21 1 r d v lK ks lC cs nK nC cK zK cC zC)) = samesR (orNil (M21 H21 1 r d v lK ks lC cs nK nC cK zK cC zC)) := by cases nK <;> cases nC <;> kernel_rfl
theorem hr21_1 (r d v : Int) (lK : Nat) (ks : List Int) (lC : Nat) (cs : List Int) (nK nC : Bool) (cK zK cC zC : Nat) : tells (retOf Try.prog (cfS S9) 1000 Try.f39) (orNil (M21 H21 1 r d v lK ks lC cs nK nC cK zK cC zC)) = chG [] [] (chV 1 r d v (ln nK lK) (rw' nK ks) (ln nC lC) (rw' nC cs)) := by cases nK <;> cases nC <;> kernel_rfl
theorem ok21_2 (r d v : Int) (lK : Nat) (ks : List Int) (lC : Nat) (cs : List Int) (nK nC : Bool) (cK zK cC zC : Nat) : (M21 H21 2 r d v lK ks lC cs nK nC cK zK cC zC).isSome = true := by cases nK <;> cases nC <;> kernel_rfl
theorem sm21_2 (r d v : Int) (lK : Nat) (ks : List Int) (lC : Nat) (cs : List Int) (nK nC : Bool) (cK zK cC zC : Nat) : samesL (orNil (M21 H21 2 r d v lK ks lC cs nK nC cK zK cC zC)) = samesR (orNil (M21 H21 2 r d v lK ks lC cs nK nC cK zK cC zC)) := by cases nK <;> cases nC <;> kernel_rfl
theorem hr21_2 (r d v : Int) (lK : Nat) (ks : List Int) (lC : Nat) (cs : List Int) (nK nC : Bool) (cK zK cC zC : Nat) : tells (retOf Try.prog (cfS S9) 1000 Try.f39) (orNil (M21 H21 2 r d v lK ks lC cs nK nC cK zK cC zC)) = chG [] [] (chV 2 r d v (ln nK lK) (rw' nK ks) (ln nC lC) (rw' nC cs)) := by cases nK <;> cases nC <;> kernel_rfl
theorem ok21_3 (r d v : Int) (lK : Nat) (ks : List Int) (lC : Nat) (cs : List Int) (nK nC : Bool) (cK zK cC zC : Nat) : (M21 H21 3 r d v lK ks lC cs nK nC cK zK cC zC).isSome = true := by cases nK <;> cases nC <;> kernel_rfl
theorem sm21_3 (r d v : Int) (lK : Nat) (ks : List Int) (lC : Nat) (cs : List Int) (nK nC : Bool) (cK zK cC zC : Nat) : samesL (orNil (M21 H21 3 r d v lK ks lC cs nK nC cK zK cC zC)) = samesR (orNil (M21 H21 3 r d v lK ks lC cs nK nC cK zK cC zC)) := by cases nK <;> cases nC <;> kernel_rfl
theorem hr21_3 (r d v : Int) (lK : Nat) (ks : List Int) (lC : Nat) (cs : List Int) (nK nC : Bool) (cK zK cC zC : Nat) : tells (retOf Try.prog (cfS S9) 1000 Try.f39) (orNil (M21 H21 3 r d v lK ks lC cs nK nC cK zK cC zC)) = chG [] [] (chV 3 r d v (ln nK lK) (rw' nK ks) (ln nC lC) (rw' nC cs)) := by cases nK <;> cases nC <;> kernel_rfl
theorem ok21_4 (r d v : Int) (lK : Nat) (ks : List Int) (lC : Nat) (cs : List Int) (nK nC : Bool) (cK zK cC zC : Nat) : (M21 H21 4 r d v lK ks lC cs nK nC cK zK cC zC).isSome = true := by cases nK <;> cases nC <;> kernel_rfl
theorem sm21_4 (r d v : Int) (lK : Nat) (ks : List Int) (lC : Nat) (cs : List Int) (nK nC : Bool) (cK zK cC zC : Nat) : samesL (orNil (M21 H21 4 r d v lK ks lC cs nK nC cK zK cC zC)) = samesR (orNil (M21 H21 4 r d v lK ks lC cs nK nC cK zK cC zC)) := by cases nK <;> cases nC <;> kernel_rfl
theorem hr21_4 (r d v : Int) (lK : Nat) (ks : List Int) (lC : Nat) (cs : List Int) (nK nC : Bool) (cK zK cC zC : Nat) : tells (retOf Try.prog (cfS S9) 1000 Try.f39) (orNil (M21 H21 4 r d v lK ks lC cs nK nC cK zK cC zC)) = chG [] [] (chV 4 r d v (ln nK lK) (rw' nK ks) (ln nC lC) (rw' nC cs)) := by cases nK <;> cases nC <;> kernel_rfl
theorem ok21_5 (r d v : Int) (lK : Nat) (ks : List Int) (lC : Nat) (cs : List Int) (nK nC : Bool) (cK zK cC zC : Nat) : (M21 H21 5 r d v lK ks lC cs nK nC cK zK cC zC).isSome = true := by cases nK <;> cases nC <;> kernel_rfl
theorem sm21_5 (r d v : Int) (lK : Nat) (ks : List Int) (lC : Nat) (cs : List Int) (nK nC : Bool) (cK zK cC zC : Nat) : samesL (orNil (M21 H21 5 r d v lK ks lC cs nK nC cK zK cC zC)) = samesR (orNil (M21 H21 5 r d v lK ks lC cs nK nC cK zK cC zC)) := by cases nK <;> cases nC <;> kernel_rfl
theorem hr21_5 (r d v : Int) (lK : Nat) (ks : List Int) (lC : Nat) (cs : List Int) (nK nC : Bool) (cK zK cC zC : Nat) : tells (retOf Try.prog (cfS S9) 1000 Try.f39) (orNil (M21 H21 5 r d v lK ks lC cs nK nC cK zK cC zC)) = chG [] [] (chV 5 r d v (ln nK lK) (rw' nK ks) (ln nC lC) (rw' nC cs)) := by cases nK <;> cases nC <;> kernel_rfl
theorem ok21_6 (r d v : Int) (lK : Nat) (ks : List Int) (lC : Nat) (cs : List Int) (nK nC : Bool) (cK zK cC zC : Nat) : (M21 H21 6 r d v lK ks lC cs nK nC cK zK cC zC).isSome = true := by cases nK <;> cases nC <;> kernel_rfl
theorem sm21_6 (r d v : Int) (lK : Nat) (ks : List Int) (lC : Nat) (cs : List Int) (nK nC : Bool) (cK zK cC zC : Nat) : samesL (orNil (M21 H21 6 r d v lK ks lC cs nK nC cK zK cC zC)) = samesR (orNil (M21 H21 6 r d v lK ks lC cs nK nC cK zK cC zC)) := by cases nK <;> cases nC <;> kernel_rfl
theorem hr21_6 (r d v : Int) (lK : Nat) (ks : List Int) (lC : Nat) (cs : List Int) (nK nC : Bool) (cK zK cC zC : Nat) : tells (retOf Try.prog (cfS S9) 1000 Try.f39) (orNil (M21 H21 6 r d v lK ks lC cs nK nC cK zK cC zC)) = chG [] [] (chV 6 r d v (ln nK lK) (rw' nK ks) (ln nC lC) (rw' nC cs)) := by cases nK <;> cases nC <;> kernel_rfl
theorem ok21_7 (r d v : Int) (lK : Nat) (ks : List Int) (lC : Nat) (cs : List Int) (nK nC : Bool) (cK zK cC zC : Nat) : (M21 H21 7 r d v lK ks lC cs nK nC cK zK cC zC).isSome = true := by cases nK <;> cases nC <;> kernel_rfl
theorem sm21_7 (r d v : Int) (lK : Nat) (ks : List Int) (lC : Nat) (cs : List Int) (nK nC : Bool) (cK zK cC zC : Nat) : samesL (orNil (M21 H21 7 r d v lK ks lC cs nK nC cK zK cC zC)) = samesR (orNil (M21 H21 7 r d v lK ks lC cs nK nC cK zK cC zC)) := by cases nK <;> cases nC <;> kernel_rfl
theorem hr21_7 (r d v : Int) (lK : Nat) (ks : List Int) (lC : Nat) (cs : List Int) (nK nC : Bool) (cK zK cC zC : Nat) : tells (retOf Try.prog (cfS S9) 1000 Try.f39) (orNil (M21 H21 7 r d v lK ks lC cs nK nC cK zK cC zC)) = chG [] [] (chV 7 r d v (ln nK lK) (rw' nK ks) (ln nC lC) (rw' nC cs)) := by cases nK <;> cases nC <;> kernel_rfl
theorem ok21_8 (r d v : Int) (lK : Nat) (ks : List Int) (lC : Nat) (cs : List Int) (nK nC : Bool) (cK zK cC zC : Nat) : (M21 H21 8 r d v lK ks lC cs nK nC cK zK cC zC).isSome = true := by cases nK <;> cases nC <;> kernel_rfl
theorem sm21_8 (r d v : Int) (lK : Nat) (ks : List Int) (lC : Nat) (cs : List Int) (nK nC : Bool) (cK zK cC zC : Nat) : samesL (orNil (M21 H21 8 r d v lK ks lC cs nK nC cK zK cC zC)) = samesR (orNil (M21 H21 8 r d v lK ks lC cs nK nC cK zK cC zC)) := by cases nK <;> cases nC <;> kernel_rfl
theorem hr21_8 (r d v : Int) (lK : Nat) (ks : List Int) (lC : Nat) (cs : List Int) (nK nC : Bool) (cK zK cC zC : Nat) : tells (retOf Try.prog (cfS S9) 1000 Try.f39) (orNil (M21 H21 8 r d v lK ks lC cs nK nC cK zK cC zC)) = chG [] [] (chV 8 r d v (ln nK lK) (rw' nK ks) (ln nC lC) (rw' nC cs)) := by cases nK <;> cases nC <;> kernel_rfl
theorem ok21_o (k : Int) (r d v : Int) (lK : Nat) (ks : List Int) (lC : Nat) (cs : List Int) (nK nC : Bool) (cK zK cC zC : Nat) : (M21 H21o k r d v lK ks lC cs nK nC cK zK cC zC).isSome = true := by cases nK <;> cases nC <;> kernel_rfl
theorem sm21_o (k : Int) (r d v : Int) (lK : Nat) (ks : List Int) (lC : Nat) (cs : List Int) (nK nC : Bool) (cK zK cC zC : Nat) : samesL (orNil (M21 H21o k r d v lK ks lC cs nK nC cK zK cC zC)) = samesR (orNil (M21 H21o k r d v lK ks lC cs nK nC cK zK cC zC)) := by cases nK <;> cases nC <;> kernel_rfl
def notK (k j : Int) : Prop := V.bool (decide (k = j)) = V.bool false
theorem hr21_o (k : Int) (r d v : Int) (lK : Nat) (ks : List Int) (lC : Nat) (cs : List Int) (nK nC : Bool) (cK zK cC zC : Nat) : tells (retOf Try.prog (cfS S9) 1000 Try.f39) (orNil (M21 H21o k r d v lK ks lC cs nK nC cK zK cC zC)) = [([], [notK k 1, notK k 2, notK k 3, notK k 4, notK k 5, notK k 6, notK k 7, notK k 8], some (.bool false))] := by cases nK <;> cases nC <;> kernel_rfl
theorem chV_ok (k : Nat) (r d v : Int) {lK : Nat} {ks : List Int} {lC : Nat} {cs : List Int} (h1 : lK ≤ ks.length) (h2 : lK ≤ 1000) (h3 : lC ≤ cs.length) (h4 : lC ≤ 1000) : ∀ x ∈ chV k r d v lK ks lC cs, ∀ a ∈ x.1, a := by
  intro x hx a ha
  unfold chV at hx
  split at hx <;> simp only [List.mem_cons, List.not_mem_nil, or_false] at hx
  · rcases hx with rfl | rfl | rfl | rfl | rfl | rfl | rfl | rfl | rfl <;> simp only [List.mem_cons, List.not_mem_nil, or_false] at ha
    rcases ha with rfl | rfl <;> assumption
  · rcases hx with rfl | rfl | rfl | rfl | rfl | rfl <;> simp at ha
  · rcases hx with rfl | rfl | rfl | rfl | rfl | rfl <;> simp at ha
  · rcases hx with rfl | rfl | rfl | rfl | rfl | rfl <;> simp at ha
  · rcases hx with rfl | rfl | rfl | rfl | rfl | rfl <;> simp only [List.mem_cons, List.not_mem_nil, or_false] at ha
    rcases ha with rfl | rfl <;> assumption
  · rcases hx with rfl | rfl | rfl | rfl | rfl <;> simp at ha
  · rcases hx with rfl | rfl | rfl | rfl | rfl | rfl <;> simp at ha
  · rcases hx with rfl | rfl | rfl | rfl | rfl | rfl | rfl <;> simp at ha
theorem validB_o {k : Int} (r d v : Int) (lK : Nat) (ks : List Int) (lC : Nat) (cs : List Int) (h : k < 1 ∨ 8 < k) : validB k r d v lK ks lC cs = false := by
  unfold validB
  rw [if_neg (by omega), if_neg (by omega), if_neg (by omega), if_neg (by omega), if_neg (by omega), if_neg (by omega), if_neg (by omega), if_neg (by omega)]
theorem kinds (k : Int) : k = 1 ∨ k = 2 ∨ k = 3 ∨ k = 4 ∨ k = 5 ∨ k = 6 ∨ k = 7 ∨ k = 8 ∨ (k < 1 ∨ 8 < k) := by omega
theorem notK_of {k j : Int} (h : k ≠ j) : notK k j := by unfold notK; rw [decide_eq_false h]
theorem p21 : PureA Try.prog 39 (specF R21) := by
  refine pureF S9_ok (Nat.le_of_ble_eq_true (by kernel_rfl)) Try.func39 (code := bodyOf Try.f39) (by kernel_rfl) (fun k r d v lK ks lC cs X u e => ?_) (fun k r d v lK ks lC cs X u nK nC cK zK cC zC e h1 h2 h3 h4 w0 => ?_)
  · unfold R21 at e
    split at e
    · simp only [Option.some.injEq] at e; subst e
      exact ⟨rfl, rfl, by kernel_rfl⟩
    · cases e
  · unfold R21 at e
    split at e
    · simp only [Option.some.injEq] at e; subst e
      have hcode : codeOk Try.f39.ntmps (bodyOf Try.f39) = true := by kernel_rfl
      rcases kinds k with rfl | rfl | rfl | rfl | rfl | rfl | rfl | rfl | ho
      · exact T_ret (cS S9_ok) mo H21 1000 Try.f39 _ _ hcode (ok21_1 r d v lK ks lC cs nK nC cK zK cC zC) (sm21_1 r d v lK ks lC cs nK nC cK zK cC zC) (hr21_1 r d v lK ks lC cs nK nC cK zK cC zC) (chG_ok _ [] [] (by simp) (chV_ok 1 r d v h1 h2 h3 h4))
      · exact T_ret (cS S9_ok) mo H21 1000 Try.f39 _ _ hcode (ok21_2 r d v lK ks lC cs nK nC cK zK cC zC) (sm21_2 r d v lK ks lC cs nK nC cK zK cC zC) (hr21_2 r d v lK ks lC cs nK nC cK zK cC zC) (chG_ok _ [] [] (by simp) (chV_ok 2 r d v h1 h2 h3 h4))
      · exact T_ret (cS S9_ok) mo H21 1000 Try.f39 _ _ hcode (ok21_3 r d v lK ks lC cs nK nC cK zK cC zC) (sm21_3 r d v lK ks lC cs nK nC cK zK cC zC) (hr21_3 r d v lK ks lC cs nK nC cK zK cC zC) (chG_ok _ [] [] (by simp) (chV_ok 3 r d v h1 h2 h3 h4))
      · exact T_ret (cS S9_ok) mo H21 1000 Try.f39 _ _ hcode (ok21_4 r d v lK ks lC cs nK nC cK zK cC zC) (sm21_4 r d v lK ks lC cs nK nC cK zK cC zC) (hr21_4 r d v lK ks lC cs nK nC cK zK cC zC) (chG_ok _ [] [] (by simp) (chV_ok 4 r d v h1 h2 h3 h4))
      · exact T_ret (cS S9_ok) mo H21 1000 Try.f39 _ _ hcode (ok21_5 r d v lK ks lC cs nK nC cK zK cC zC) (sm21_5 r d v lK ks lC cs nK nC cK zK cC zC) (hr21_5 r d v lK ks lC cs nK nC cK zK cC zC) (chG_ok _ [] [] (by simp) (chV_ok 5 r d v h1 h2 h3 h4))
      · exact T_ret (cS S9_ok) mo H21 1000 Try.f39 _ _ hcode (ok21_6 r d v lK ks lC cs nK nC cK zK cC zC) (sm21_6 r d v lK ks lC cs nK nC cK zK cC zC) (hr21_6 r d v lK ks lC cs nK nC cK zK cC zC) (chG_ok _ [] [] (by simp) (chV_ok 6 r d v h1 h2 h3 h4))
      · exact T_ret (cS S9_ok) mo H21 1000 Try.f39 _ _ hcode (ok21_7 r d v lK ks lC cs nK nC cK zK cC zC) (sm21_7 r d v lK ks lC cs nK nC cK zK cC zC) (hr21_7 r d v lK ks lC cs nK nC cK zK cC zC) (chG_ok _ [] [] (by simp) (chV_ok 7 r d v h1 h2 h3 h4))
      · exact T_ret (cS S9_ok) mo H21 1000 Try.f39 _ _ hcode (ok21_8 r d v lK ks lC cs nK nC cK zK cC zC) (sm21_8 r d v lK ks lC cs nK nC cK zK cC zC) (hr21_8 r d v lK ks lC cs nK nC cK zK cC zC) (chG_ok _ [] [] (by simp) (chV_ok 8 r d v h1 h2 h3 h4))
      · rw [validB_o r d v _ _ _ _ ho]
        refine T_ret (cS S9_ok) mo H21o 1000 Try.f39 _ _ hcode (ok21_o k r d v lK ks lC cs nK nC cK zK cC zC) (sm21_o k r d v lK ks lC cs nK nC cK zK cC zC) (hr21_o k r d v lK ks lC cs nK nC cK zK cC zC) ?_
        intro g hg _
        rw [List.mem_singleton.1 hg]
        refine ⟨?_, rfl⟩
        simp only [List.mem_cons, List.not_mem_nil, or_false]
        rintro a (rfl | rfl | rfl | rfl | rfl | rfl | rfl | rfl) <;> exact notK_of (by omega)
    · cases e
end Go.Proofs.Ytadejpmecljjpaa
namespace Go.Proofs.Ytadejpmecljjpaa
open Go Go.Eng
def chP : List (Bool × Bool) → List Prop → List (List Prop × Bool) → List Prop → Bool → List (List (Bool × Bool) × List Prop × Option V)
  | acc, az, [], fa, p => [(acc, az ++ fa, some (.bool p))]
  | acc, az, x :: r, fa, p => chP (acc ++ [(x.2, true)]) (az ++ x.1) r fa p ++ [(acc ++ [(x.2, false)], az ++ x.1, some (.bool false))]
theorem chP_ok (fa : List Prop) (p : Bool) (hfa : ∀ a ∈ fa, a) : ∀ (l : List (List Prop × Bool)) (acc : List (Bool × Bool)) (az : List Prop), (∀ a ∈ az, a) → (∀ x ∈ l, ∀ a ∈ x.1, a) → ∀ g ∈ chP acc az l fa p, (∀ b ∈ g.1, b.1 = b.2) → (∀ a ∈ g.2.1, a) ∧ g.2.2 = some (.bool (chB l && p))
  | [], acc, az, ha, _, g, hg, hc => by
    simp only [chP, List.mem_singleton] at hg; subst hg
    exact ⟨fun a h => (List.mem_append.1 h).elim (ha a) (hfa a), by simp [chB]⟩
  | x :: r, acc, az, ha, hl, g, hg, hc => by
    have has : ∀ a ∈ az ++ x.1, a := fun a h => (List.mem_append.1 h).elim (ha a) (hl x (by simp) a)
    simp only [chP, List.mem_append, List.mem_singleton] at hg
    rcases hg with hg | rfl
    · obtain ⟨k1, k2⟩ := chP_ok fa p hfa r _ _ has (fun y hy => hl y (by simp [hy])) g hg hc
      refine ⟨k1, ?_⟩
      have mem : ∀ (l : List (List Prop × Bool)) (acc : List (Bool × Bool)) (az : List Prop) (g), g ∈ chP acc az l fa p → ∀ b ∈ acc, b ∈ g.1 := by
        intro l
        induction l with
        | nil => intro acc az g hg b hb; simp only [chP, List.mem_singleton] at hg; subst hg; exact hb
        | cons y l ih =>
          intro acc az g hg b hb
          simp only [chP, List.mem_append, List.mem_singleton] at hg
          rcases hg with hg | rfl
          · exact ih _ _ g hg b (by simp [hb])
          · simp [hb]
      have hx : x.2 = true := hc (x.2, true) (mem r _ _ g hg _ (by simp))
      rw [k2]; simp only [chB, hx, Bool.true_and]
    · have hx : x.2 = false := hc (x.2, false) (by simp)
      exact ⟨has, by simp only [chB, hx, Bool.false_and]⟩
inductive RC where
  | ok
  | hi
  | lo
abbrev isB (b c : Bool) : Prop := V.bool b = V.bool c
def Hr : RC → List (Nat × Fix)
  | .ok => [(7, .give (.bool true)), (11, .give (.bool true))]
  | .hi => [(7, .give (.bool true)), (11, .give (.bool false))]
  | .lo => [(7, .give (.bool false))]
def az20 (r : Int) : RC → List Prop
  | .ok => [isB (decide (r ≥ 0)) true, isB (decide (r ≤ 3)) true]
  | .hi => [isB (decide (r ≥ 0)) true, isB (decide (r ≤ 3)) false]
  | .lo => [isB (decide (r ≥ 0)) false]
def rcIs (r : Int) : RC → Prop
  | .ok => 0 ≤ r ∧ r ≤ 3
  | .hi => 3 < r
  | .lo => r < 0
theorem rc_of (r : Int) : ∃ rc, rcIs r rc := by
  by_cases h0 : 0 ≤ r
  · by_cases h3 : r ≤ 3
    · exact ⟨.ok, h0, h3⟩
    · exact ⟨.hi, by show 3 < r; omega⟩
  · exact ⟨.lo, by show r < 0; omega⟩
theorem isB_true {p : Prop} [Decidable p] (h : p) : isB (decide p) true := by unfold isB; rw [decide_eq_true h]
theorem isB_false {p : Prop} [Decidable p] (h : ¬ p) : isB (decide p) false := by unfold isB; rw [decide_eq_false h]
theorem az20_ok {r : Int} : ∀ {rc : RC}, rcIs r rc → ∀ a ∈ az20 r rc, a
  | .ok, h, a, ha => by
    simp only [az20, List.mem_cons, List.not_mem_nil, or_false] at ha
    rcases ha with rfl | rfl
    · exact isB_true h.1
    · exact isB_true h.2
  | .hi, h, a, ha => by
    have h : 3 < r := h
    simp only [az20, List.mem_cons, List.not_mem_nil, or_false] at ha
    rcases ha with rfl | rfl
    · exact isB_true (by omega)
    · exact isB_false (by omega)
  | .lo, h, a, ha => by
    have h : r < 0 := h
    simp only [az20, List.mem_cons, List.not_mem_nil, or_false] at ha
    subst ha
    exact isB_false (by omega)
def fa20 (lK : Nat) (ks : List Int) (lC : Nat) (cs : List Int) : List Prop := [lK ≤ ks.length, lK ≤ 1000, lC ≤ cs.length, lC ≤ 1000]
def okB : RC → Bool
  | .ok => true
  | _ => false
def G20 (k : Nat) (rc : RC) (r d v : Int) (lK : Nat) (ks : List Int) (lC : Nat) (cs : List Int) : List (List (Bool × Bool) × List Prop × Option V) := match k with
  | 5 => chP [] (az20 r rc) [([lC ≤ cs.length, lC ≤ 1000], curveB lC cs)] (fa20 lK ks lC cs) (plainB false false true false r d v lK lC)
  | 6 => chP [] (az20 r rc) [] (fa20 lK ks lC cs) (plainB false false false false r d v lK lC)
  | 7 => chP [] (az20 r rc) [([], decide (v ≥ 0)), ([], decide (v ≤ 256))] (fa20 lK ks lC cs) (plainB false true false false r d v lK lC)
  | 8 => chP [] (az20 r rc) [([], decide (r ≥ -3)), ([], decide (r ≤ 3)), ([], decide (v ≥ -3)), ([], decide (v ≤ 3))] (fa20 lK ks lC cs) (plainB false true false true r d v lK lC)
  | _ => match rc with
    | .ok => [([], az20 r .ok ++ fa20 lK ks lC cs, some (.bool (plainB false false false true r d v lK lC)))]
    | rc => [([], az20 r rc, some (.bool false))]
abbrev S20 : List (Nat × Fix) := [(80, .split), (93, .split), (97, .split), (107, .split), (111, .split), (116, .split), (121, .split)]
abbrev H20o : List (Nat × Fix) := [(16, .give (.bool false)), (68, .give (.bool false)), (69, .give (.bool false)), (70, .give (.bool false)), (77, .give (.bool false)), (86, .give (.bool false)), (90, .give (.bool false)), (104, .give (.bool false))]
noncomputable abbrev M20 (H : List (Nat × Fix)) (k r d v : Int) (lK : Nat) (ks : List Int) (lC : Nat) (cs : List Int) (nK nC : Bool) (cK zK cC zC : Nat) := codeM Try.prog S9 cf0 H 1000 (bodyOf Try.f38) (startSt [FV k r (sK nK lK cK zK) d v (sC nC lC cC zC)] (hF nK nC ks cs) 2)
theorem ok20_2 (rc : RC) (r d v : Int) (lK : Nat) (ks : List Int) (lC : Nat) (cs : List Int) (nK nC : Bool) (cK zK cC zC : Nat) : (M20 (Hr rc ++ S20) 2 r d v lK ks lC cs nK nC cK zK cC zC).isSome = true := by cases rc <;> cases nK <;> cases nC <;> kernel_rfl
theorem sm20_2 (rc : RC) (r d v : Int) (lK : Nat) (ks : List Int) (lC : Nat) (cs : List Int) (nK nC : Bool) (cK zK cC zC : Nat) : samesL (orNil (M20 (Hr rc ++ S20) 2 r d v lK ks lC cs nK nC cK zK cC zC)) = samesR (orNil (M20 (Hr rc ++ S20) 2 r d v lK ks lC cs nK nC cK zK cC zC)) := by cases rc <;> cases nK <;> cases nC <;> kernel_rfl
theorem hr20_2 (rc : RC) (r d v : Int) (lK : Nat) (ks : List Int) (lC : Nat) (cs : List Int) (nK nC : Bool) (cK zK cC zC : Nat) : tells (retOf Try.prog (cfS S9) 1000 Try.f38) (orNil (M20 (Hr rc ++ S20) 2 r d v lK ks lC cs nK nC cK zK cC zC)) = G20 2 rc r d v (ln nK lK) (rw' nK ks) (ln nC lC) (rw' nC cs) := by cases rc <;> cases nK <;> cases nC <;> kernel_rfl
theorem ok20_3 (rc : RC) (r d v : Int) (lK : Nat) (ks : List Int) (lC : Nat) (cs : List Int) (nK nC : Bool) (cK zK cC zC : Nat) : (M20 (Hr rc ++ S20) 3 r d v lK ks lC cs nK nC cK zK cC zC).isSome = true := by cases rc <;> cases nK <;> cases nC <;> kernel_rfl
theorem sm20_3 (rc : RC) (r d v : Int) (lK : Nat) (ks : List Int) (lC : Nat) (cs : List Int) (nK nC : Bool) (cK zK cC zC : Nat) : samesL (orNil (M20 (Hr rc ++ S20) 3 r d v lK ks lC cs nK nC cK zK cC zC)) = samesR (orNil (M20 (Hr rc ++ S20) 3 r d v lK ks lC cs nK nC cK zK cC zC)) := by cases rc <;> cases nK <;> cases nC <;> kernel_rfl
theorem hr20_3 (rc : RC) (r d v : Int) (lK : Nat) (ks : List Int) (lC : Nat) (cs : List Int) (nK nC : Bool) (cK zK cC zC : Nat) : tells (retOf Try.prog (cfS S9) 1000 Try.f38) (orNil (M20 (Hr rc ++ S20) 3 r d v lK ks lC cs nK nC cK zK cC zC)) = G20 3 rc r d v (ln nK lK) (rw' nK ks) (ln nC lC) (rw' nC cs) := by cases rc <;> cases nK <;> cases nC <;> kernel_rfl
theorem ok20_4 (rc : RC) (r d v : Int) (lK : Nat) (ks : List Int) (lC : Nat) (cs : List Int) (nK nC : Bool) (cK zK cC zC : Nat) : (M20 (Hr rc ++ S20) 4 r d v lK ks lC cs nK nC cK zK cC zC).isSome = true := by cases rc <;> cases nK <;> cases nC <;> kernel_rfl
theorem sm20_4 (rc : RC) (r d v : Int) (lK : Nat) (ks : List Int) (lC : Nat) (cs : List Int) (nK nC : Bool) (cK zK cC zC : Nat) : samesL (orNil (M20 (Hr rc ++ S20) 4 r d v lK ks lC cs nK nC cK zK cC zC)) = samesR (orNil (M20 (Hr rc ++ S20) 4 r d v lK ks lC cs nK nC cK zK cC zC)) := by cases rc <;> cases nK <;> cases nC <;> kernel_rfl
theorem hr20_4 (rc : RC) (r d v : Int) (lK : Nat) (ks : List Int) (lC : Nat) (cs : List Int) (nK nC : Bool) (cK zK cC zC : Nat) : tells (retOf Try.prog (cfS S9) 1000 Try.f38) (orNil (M20 (Hr rc ++ S20) 4 r d v lK ks lC cs nK nC cK zK cC zC)) = G20 4 rc r d v (ln nK lK) (rw' nK ks) (ln nC lC) (rw' nC cs) := by cases rc <;> cases nK <;> cases nC <;> kernel_rfl
theorem ok20_5 (rc : RC) (r d v : Int) (lK : Nat) (ks : List Int) (lC : Nat) (cs : List Int) (nK nC : Bool) (cK zK cC zC : Nat) : (M20 (Hr rc ++ S20) 5 r d v lK ks lC cs nK nC cK zK cC zC).isSome = true := by cases rc <;> cases nK <;> cases nC <;> kernel_rfl
theorem sm20_5 (rc : RC) (r d v : Int) (lK : Nat) (ks : List Int) (lC : Nat) (cs : List Int) (nK nC : Bool) (cK zK cC zC : Nat) : samesL (orNil (M20 (Hr rc ++ S20) 5 r d v lK ks lC cs nK nC cK zK cC zC)) = samesR (orNil (M20 (Hr rc ++ S20) 5 r d v lK ks lC cs nK nC cK zK cC zC)) := by cases rc <;> cases nK <;> cases nC <;> kernel_rfl
theorem hr20_5 (rc : RC) (r d v : Int) (lK : Nat) (ks : List Int) (lC : Nat) (cs : List Int) (nK nC : Bool) (cK zK cC zC : Nat) : tells (retOf Try.prog (cfS S9) 1000 Try.f38) (orNil (M20 (Hr rc ++ S20) 5 r d v lK ks lC cs nK nC cK zK cC zC)) = G20 5 rc r d v (ln nK lK) (rw' nK ks) (ln nC lC) (rw' nC cs) := by cases rc <;> cases nK <;> cases nC <;> kernel_rfl
theorem ok20_6 (rc : RC) (r d v : Int) (lK : Nat) (ks : List Int) (lC : Nat) (cs : List Int) (nK nC : Bool) (cK zK cC zC : Nat) : (M20 (Hr rc ++ S20) 6 r d v lK ks lC cs nK nC cK zK cC zC).isSome = true := by cases rc <;> cases nK <;> cases nC <;> kernel_rfl
theorem sm20_6 (rc : RC) (r d v : Int) (lK : Nat) (ks : List Int) (lC : Nat) (cs : List Int) (nK nC : Bool) (cK zK cC zC : Nat) : samesL (orNil (M20 (Hr rc ++ S20) 6 r d v lK ks lC cs nK nC cK zK cC zC)) = samesR (orNil (M20 (Hr rc ++ S20) 6 r d v lK ks lC cs nK nC cK zK cC zC)) := by cases rc <;> cases nK <;> cases nC <;> kernel_rfl
theorem hr20_6 (rc : RC) (r d v : Int) (lK : Nat) (ks : List Int) (lC : Nat) (cs : List Int) (nK nC : Bool) (cK zK cC zC : Nat) : tells (retOf Try.prog (cfS S9) 1000 Try.f38) (orNil (M20 (Hr rc ++ S20) 6 r d v lK ks lC cs nK nC cK zK cC zC)) = G20 6 rc r d v (ln nK lK) (rw' nK ks) (ln nC lC) (rw' nC cs) := by cases rc <;> cases nK <;> cases nC <;> kernel_rfl
theorem ok20_7 (rc : RC) (r d v : Int) (lK : Nat) (ks : List Int) (lC : Nat) (cs : List Int) (nK nC : Bool) (cK zK cC zC : Nat) : (M20 (Hr rc ++ S20) 7 r d v lK ks lC cs nK nC cK zK cC zC).isSome = true := by cases rc <;> cases nK <;> cases nC <;> kernel_rfl
theorem sm20_7 (rc : RC) (r d v : Int) (lK : Nat) (ks : List Int) (lC : Nat) (cs : List Int) (nK nC : Bool) (cK zK cC zC : Nat) : samesL (orNil (M20 (Hr rc ++ S20) 7 r d v lK ks lC cs nK nC cK zK cC zC)) = samesR (orNil (M20 (Hr rc ++ S20) 7 r d v lK ks lC cs nK nC cK zK cC zC)) := by cases rc <;> cases nK <;> cases nC <;> kernel_rfl
theorem hr20_7 (rc : RC) (r d v : Int) (lK : Nat) (ks : List Int) (lC : Nat) (cs : List Int) (nK nC : Bool) (cK zK cC zC : Nat) : tells (retOf Try.prog (cfS S9) 1000 Try.f38) (orNil (M20 (Hr rc ++ S20) 7 r d v lK ks lC cs nK nC cK zK cC zC)) = G20 7 rc r d v (ln nK lK) (rw' nK ks) (ln nC lC) (rw' nC cs) := by cases rc <;> cases nK <;> cases nC <;> kernel_rfl
theorem ok20_8 (rc : RC) (r d v : Int) (lK : Nat) (ks : List Int) (lC : Nat) (cs : List Int) (nK nC : Bool) (cK zK cC zC : Nat) : (M20 (Hr rc ++ S20) 8 r d v lK ks lC cs nK nC cK zK cC zC).isSome = true := by cases rc <;> cases nK <;> cases nC <;> kernel_rfl
theorem sm20_8 (rc : RC) (r d v : Int) (lK : Nat) (ks : List Int) (lC : Nat) (cs : List Int) (nK nC : Bool) (cK zK cC zC : Nat) : samesL (orNil (M20 (Hr rc ++ S20) 8 r d v lK ks lC cs nK nC cK zK cC zC)) = samesR (orNil (M20 (Hr rc ++ S20) 8 r d v lK ks lC cs nK nC cK zK cC zC)) := by cases rc <;> cases nK <;> cases nC <;> kernel_rfl
theorem hr20_8 (rc : RC) (r d v : Int) (lK : Nat) (ks : List Int) (lC : Nat) (cs : List Int) (nK nC : Bool) (cK zK cC zC : Nat) : tells (retOf Try.prog (cfS S9) 1000 Try.f38) (orNil (M20 (Hr rc ++ S20) 8 r d v lK ks lC cs nK nC cK zK cC zC)) = G20 8 rc r d v (ln nK lK) (rw' nK ks) (ln nC lC) (rw' nC cs) := by cases rc <;> cases nK <;> cases nC <;> kernel_rfl
theorem ok20_o (rc : RC) (k : Int) (r d v : Int) (lK : Nat) (ks : List Int) (lC : Nat) (cs : List Int) (nK nC : Bool) (cK zK cC zC : Nat) : (M20 (Hr rc ++ H20o) k r d v lK ks lC cs nK nC cK zK cC zC).isSome = true := by cases rc <;> cases nK <;> cases nC <;> kernel_rfl
theorem sm20_o (rc : RC) (k : Int) (r d v : Int) (lK : Nat) (ks : List Int) (lC : Nat) (cs : List Int) (nK nC : Bool) (cK zK cC zC : Nat) : samesL (orNil (M20 (Hr rc ++ H20o) k r d v lK ks lC cs nK nC cK zK cC zC)) = samesR (orNil (M20 (Hr rc ++ H20o) k r d v lK ks lC cs nK nC cK zK cC zC)) := by cases rc <;> cases nK <;> cases nC <;> kernel_rfl
theorem hr20_o (rc : RC) (k : Int) (r d v : Int) (lK : Nat) (ks : List Int) (lC : Nat) (cs : List Int) (nK nC : Bool) (cK zK cC zC : Nat) : tells (retOf Try.prog (cfS S9) 1000 Try.f38) (orNil (M20 (Hr rc ++ H20o) k r d v lK ks lC cs nK nC cK zK cC zC)) = [([], az20 r rc ++ [notK k 1, notK k 2, notK k 3, notK k 4, notK k 5, notK k 6, notK k 7, notK k 8], some (.bool false))] := by cases rc <;> cases nK <;> cases nC <;> kernel_rfl
theorem ok20_1a (r d v : Int) (lK : Nat) (ks : List Int) (lC : Nat) (cs : List Int) (nK nC : Bool) (cK zK cC zC : Nat) : (M20 (Hr .ok ++ [(32, .give (.bool true))]) 1 r d v lK ks lC cs nK nC cK zK cC zC).isSome = true := by cases nK <;> cases nC <;> kernel_rfl
theorem sm20_1a (r d v : Int) (lK : Nat) (ks : List Int) (lC : Nat) (cs : List Int) (nK nC : Bool) (cK zK cC zC : Nat) : samesL (orNil (M20 (Hr .ok ++ [(32, .give (.bool true))]) 1 r d v lK ks lC cs nK nC cK zK cC zC)) = samesR (orNil (M20 (Hr .ok ++ [(32, .give (.bool true))]) 1 r d v lK ks lC cs nK nC cK zK cC zC)) := by cases nK <;> cases nC <;> kernel_rfl
theorem hr20_1a (r d v : Int) (lK : Nat) (ks : List Int) (lC : Nat) (cs : List Int) (nK nC : Bool) (cK zK cC zC : Nat) : tells (retOf Try.prog (cfS S9) 1000 Try.f38) (orNil (M20 (Hr .ok ++ [(32, .give (.bool true))]) 1 r d v lK ks lC cs nK nC cK zK cC zC)) = [([], az20 r .ok ++ [isB (!decide (Int.ofNat (ln nK lK) = w64 (side r * side r))) true], some (.bool false))] := by cases nK <;> cases nC <;> kernel_rfl
theorem ok20_1b (r d v : Int) (lK : Nat) (ks : List Int) (lC : Nat) (cs : List Int) (nK nC : Bool) (cK zK cC zC : Nat) : (M20 (Hr .ok ++ [(32, .give (.bool false)), (37, .give (.bool true))]) 1 r d v lK ks lC cs nK nC cK zK cC zC).isSome = true := by cases nK <;> cases nC <;> kernel_rfl
theorem sm20_1b (r d v : Int) (lK : Nat) (ks : List Int) (lC : Nat) (cs : List Int) (nK nC : Bool) (cK zK cC zC : Nat) : samesL (orNil (M20 (Hr .ok ++ [(32, .give (.bool false)), (37, .give (.bool true))]) 1 r d v lK ks lC cs nK nC cK zK cC zC)) = samesR (orNil (M20 (Hr .ok ++ [(32, .give (.bool false)), (37, .give (.bool true))]) 1 r d v lK ks lC cs nK nC cK zK cC zC)) := by cases nK <;> cases nC <;> kernel_rfl
theorem hr20_1b (r d v : Int) (lK : Nat) (ks : List Int) (lC : Nat) (cs : List Int) (nK nC : Bool) (cK zK cC zC : Nat) : tells (retOf Try.prog (cfS S9) 1000 Try.f38) (orNil (M20 (Hr .ok ++ [(32, .give (.bool false)), (37, .give (.bool true))]) 1 r d v lK ks lC cs nK nC cK zK cC zC)) = [([], az20 r .ok ++ [isB (!decide (Int.ofNat (ln nK lK) = w64 (side r * side r))) false, isB (decide (d < 1)) true], some (.bool false))] := by cases nK <;> cases nC <;> kernel_rfl
theorem ok20_1c (r d v : Int) (lK : Nat) (ks : List Int) (lC : Nat) (cs : List Int) (nK nC : Bool) (cK zK cC zC : Nat) : (M20 (Hr .ok ++ [(32, .give (.bool false)), (37, .give (.bool false)), (42, .give (.bool true))]) 1 r d v lK ks lC cs nK nC cK zK cC zC).isSome = true := by cases nK <;> cases nC <;> kernel_rfl
theorem sm20_1c (r d v : Int) (lK : Nat) (ks : List Int) (lC : Nat) (cs : List Int) (nK nC : Bool) (cK zK cC zC : Nat) : samesL (orNil (M20 (Hr .ok ++ [(32, .give (.bool false)), (37, .give (.bool false)), (42, .give (.bool true))]) 1 r d v lK ks lC cs nK nC cK zK cC zC)) = samesR (orNil (M20 (Hr .ok ++ [(32, .give (.bool false)), (37, .give (.bool false)), (42, .give (.bool true))]) 1 r d v lK ks lC cs nK nC cK zK cC zC)) := by cases nK <;> cases nC <;> kernel_rfl
theorem hr20_1c (r d v : Int) (lK : Nat) (ks : List Int) (lC : Nat) (cs : List Int) (nK nC : Bool) (cK zK cC zC : Nat) : tells (retOf Try.prog (cfS S9) 1000 Try.f38) (orNil (M20 (Hr .ok ++ [(32, .give (.bool false)), (37, .give (.bool false)), (42, .give (.bool true))]) 1 r d v lK ks lC cs nK nC cK zK cC zC)) = [([], az20 r .ok ++ [isB (!decide (Int.ofNat (ln nK lK) = w64 (side r * side r))) false, isB (decide (d < 1)) false, isB (decide (d > 1048576)) true], some (.bool false))] := by cases nK <;> cases nC <;> kernel_rfl
theorem ok20_1hi (r d v : Int) (lK : Nat) (ks : List Int) (lC : Nat) (cs : List Int) (nK nC : Bool) (cK zK cC zC : Nat) : (M20 (Hr .hi) 1 r d v lK ks lC cs nK nC cK zK cC zC).isSome = true := by cases nK <;> cases nC <;> kernel_rfl
theorem sm20_1hi (r d v : Int) (lK : Nat) (ks : List Int) (lC : Nat) (cs : List Int) (nK nC : Bool) (cK zK cC zC : Nat) : samesL (orNil (M20 (Hr .hi) 1 r d v lK ks lC cs nK nC cK zK cC zC)) = samesR (orNil (M20 (Hr .hi) 1 r d v lK ks lC cs nK nC cK zK cC zC)) := by cases nK <;> cases nC <;> kernel_rfl
theorem hr20_1hi (r d v : Int) (lK : Nat) (ks : List Int) (lC : Nat) (cs : List Int) (nK nC : Bool) (cK zK cC zC : Nat) : tells (retOf Try.prog (cfS S9) 1000 Try.f38) (orNil (M20 (Hr .hi) 1 r d v lK ks lC cs nK nC cK zK cC zC)) = [([], az20 r .hi, some (.bool false))] := by cases nK <;> cases nC <;> kernel_rfl
theorem ok20_1lo (r d v : Int) (lK : Nat) (ks : List Int) (lC : Nat) (cs : List Int) (nK nC : Bool) (cK zK cC zC : Nat) : (M20 (Hr .lo) 1 r d v lK ks lC cs nK nC cK zK cC zC).isSome = true := by cases nK <;> cases nC <;> kernel_rfl
theorem sm20_1lo (r d v : Int) (lK : Nat) (ks : List Int) (lC : Nat) (cs : List Int) (nK nC : Bool) (cK zK cC zC : Nat) : samesL (orNil (M20 (Hr .lo) 1 r d v lK ks lC cs nK nC cK zK cC zC)) = samesR (orNil (M20 (Hr .lo) 1 r d v lK ks lC cs nK nC cK zK cC zC)) := by cases nK <;> cases nC <;> kernel_rfl
theorem hr20_1lo (r d v : Int) (lK : Nat) (ks : List Int) (lC : Nat) (cs : List Int) (nK nC : Bool) (cK zK cC zC : Nat) : tells (retOf Try.prog (cfS S9) 1000 Try.f38) (orNil (M20 (Hr .lo) 1 r d v lK ks lC cs nK nC cK zK cC zC)) = [([], az20 r .lo, some (.bool false))] := by cases nK <;> cases nC <;> kernel_rfl
end Go.Proofs.Ytadejpmecljjpaa
namespace Go.Proofs.Ytadejpmecljjpaa
open Go Go.Eng
def retX (P : Program) (cf : CallF) (F : Nat) (fn : Func) (p : X × St) : Option V := match p.1 with
  | .ret => retOf P cf F fn p
  | _ => none
theorem T_retX {S : Ctr} (hS : CtrOk Try.prog S) (H : List (Nat × Fix)) (fn : Func) (v : V) (G : List (List (Bool × Bool) × List Prop × Option V)) {N : Nat} {w0 : World} {c : Code} {s : St} {Q : Exit → St → Prop} (hc : codeOk N c = true) (e1 : (codeM Try.prog S cf0 H 1000 c s).isSome = true)
    (e2 : samesL (orNil (codeM Try.prog S cf0 H 1000 c s)) = samesR (orNil (codeM Try.prog S cf0 H 1000 c s))) (e3 : tells (retX Try.prog (cfS S) 1000 fn) (orNil (codeM Try.prog S cf0 H 1000 c s)) = G) (h : ∀ g ∈ G, (∀ b ∈ g.1, b.1 = b.2) → (∀ a ∈ g.2.1, a) ∧ g.2.2 = some v)
    (hQ : ∀ s', RetQ Try.prog (cfS S) 1000 fn v .ret s' → Q .ret s') : T Try.prog N w0 c s Q :=
  T_tells (cS hS) mo (retX Try.prog (cfS S) 1000 fn) G hc e1 e2 e3 fun g hg hc => by
    obtain ⟨k1, k2⟩ := h g hg hc
    refine ⟨k1, fun x s' hx => ?_⟩
    rw [k2] at hx
    cases x with
    | ret =>
      have hx : retOf Try.prog (cfS S) 1000 fn (.ret, s') = some v := hx
      obtain ⟨y, q1, q2, q3⟩ := retOf_some hx
      exact ⟨.ret, rfl, hQ s' ⟨.inr rfl, q3⟩⟩
    | _ => cases hx
noncomputable abbrev cd20 : Code := bodyOf Try.f38
noncomputable abbrev A20 : Code := seqL (seqR (seqR cd20))
noncomputable abbrev Y20 : Code := inner (seqR A20)
noncomputable abbrev K20 : Code := condT (seqR Y20)
noncomputable abbrev X20 : Code := seqL (seqR K20)
noncomputable abbrev B20 : Code := inner (inner (seqR X20))
def h20 (r d v : Int) (lK : Nat) (ks : List Int) (lC : Nat) (cs : List Int) (nC : Bool) (cK cC zC : Nat) : Tr O := match nC with
  | true => (Tr.nil.set 0 (some (.cells [.int .i64 1, .int .i64 r, .slc (some (1, 0)) lK cK 1, .int .i64 d, .int .i64 v, .slc none 0 cC zC]))).set 1 (some (.ints .i64 ks))
  | false => ((Tr.nil.set 0 (some (.cells [.int .i64 1, .int .i64 r, .slc (some (1, 0)) lK cK 1, .int .i64 d, .int .i64 v, .slc (some (2, 0)) lC cC 1]))).set 1 (some (.ints .i64 ks))).set 2 (some (.ints .i64 cs))
def s20 (r d v : Int) (lK : Nat) (ks : List Int) (lC : Nat) (cs : List Int) (nC : Bool) (cK cC zC : Nat) (l : List (Nat × V)) : St := stL ((1, .ptr (some (0, 0))) :: l) (h20 r d v lK ks lC cs nC cK cC zC) (match nC with | true => 2 | false => 3)
section
variable (r d v : Int) (lK : Nat) (ks : List Int) (lC : Nat) (cs : List Int) (nC : Bool) (cK zK cC zC : Nat)
abbrev e20 : List (Nat × V) → St := s20 r d v lK ks lC cs nC cK cC zC
noncomputable abbrev run20 (H : List (Nat × Fix)) (c : Code) (s : St) := codeM Try.prog S9 cf0 H 1000 c s
abbrev st20 : St := startSt [FV 1 r (sK false lK cK zK) d v (sC nC lC cC zC)] (hF false nC ks cs) 2
abbrev H20k : List (Nat × Fix) := [(32, .give (.bool false)), (37, .give (.bool false)), (42, .give (.bool false))]
abbrev H20l (i : Nat) : List (Nat × Fix) := [(48, .split), (56, .split), (63, .split), (50, .give (.int .i64 (Int.ofNat (i + 1))))]
def ak20 : List Prop := [isB (!decide (Int.ofNat lK = w64 (side r * side r))) false, isB (decide (d < 1)) false, isB (decide (d > 1048576)) false]
theorem q1i : (run20 [] (seqL cd20) (st20 r d v lK ks lC cs nC cK zK cC zC)).isSome = true := by cases nC <;> kernel_rfl
theorem q1s : samesL (orNil (run20 [] (seqL cd20) (st20 r d v lK ks lC cs nC cK zK cC zC))) = samesR (orNil (run20 [] (seqL cd20) (st20 r d v lK ks lC cs nC cK zK cC zC))) := by cases nC <;> kernel_rfl
theorem q1 : tells (normF [1]) (orNil (run20 [] (seqL cd20) (st20 r d v lK ks lC cs nC cK zK cC zC))) = [([], [], some (e20 r d v lK ks lC cs nC cK cC zC []))] := by cases nC <;> kernel_rfl
theorem q2i : (run20 (Hr .ok) (seqL (seqR cd20)) (e20 r d v lK ks lC cs nC cK cC zC [])).isSome = true := by cases nC <;> kernel_rfl
theorem q2s : samesL (orNil (run20 (Hr .ok) (seqL (seqR cd20)) (e20 r d v lK ks lC cs nC cK cC zC []))) = samesR (orNil (run20 (Hr .ok) (seqL (seqR cd20)) (e20 r d v lK ks lC cs nC cK cC zC []))) := by cases nC <;> kernel_rfl
theorem q2 : tells (normF [1, 3]) (orNil (run20 (Hr .ok) (seqL (seqR cd20)) (e20 r d v lK ks lC cs nC cK cC zC []))) = [([], az20 r .ok, some (e20 r d v lK ks lC cs nC cK cC zC [(3, .bool true)]))] := by cases nC <;> kernel_rfl
theorem q3i : (run20 [] (seqL A20) (e20 r d v lK ks lC cs nC cK cC zC [(3, .bool true)])).isSome = true := by cases nC <;> kernel_rfl
theorem q3s : samesL (orNil (run20 [] (seqL A20) (e20 r d v lK ks lC cs nC cK cC zC [(3, .bool true)]))) = samesR (orNil (run20 [] (seqL A20) (e20 r d v lK ks lC cs nC cK cC zC [(3, .bool true)]))) := by cases nC <;> kernel_rfl
theorem q3 : tells (normF [1, 3, 14]) (orNil (run20 [] (seqL A20) (e20 r d v lK ks lC cs nC cK cC zC [(3, .bool true)]))) = [([], [], some (e20 r d v lK ks lC cs nC cK cC zC [(3, .bool true), (14, .int .i64 1)]))] := by cases nC <;> kernel_rfl
theorem q4i : (run20 [] (seqL Y20) (e20 r d v lK ks lC cs nC cK cC zC [(3, .bool true), (14, .int .i64 1)])).isSome = true := by cases nC <;> kernel_rfl
theorem q4s : samesL (orNil (run20 [] (seqL Y20) (e20 r d v lK ks lC cs nC cK cC zC [(3, .bool true), (14, .int .i64 1)]))) = samesR (orNil (run20 [] (seqL Y20) (e20 r d v lK ks lC cs nC cK cC zC [(3, .bool true), (14, .int .i64 1)]))) := by cases nC <;> kernel_rfl
theorem q4 : tells (normF [1, 3, 15]) (orNil (run20 [] (seqL Y20) (e20 r d v lK ks lC cs nC cK cC zC [(3, .bool true), (14, .int .i64 1)]))) = [([], [], some (e20 r d v lK ks lC cs nC cK cC zC [(3, .bool true), (15, .bool true)]))] := by cases nC <;> kernel_rfl
theorem q5i : (run20 H20k (seqL K20) (e20 r d v lK ks lC cs nC cK cC zC [(3, .bool true), (15, .bool true)])).isSome = true := by cases nC <;> kernel_rfl
theorem q5s : samesL (orNil (run20 H20k (seqL K20) (e20 r d v lK ks lC cs nC cK cC zC [(3, .bool true), (15, .bool true)]))) = samesR (orNil (run20 H20k (seqL K20) (e20 r d v lK ks lC cs nC cK cC zC [(3, .bool true), (15, .bool true)]))) := by cases nC <;> kernel_rfl
theorem q5 : tells (normF [1]) (orNil (run20 H20k (seqL K20) (e20 r d v lK ks lC cs nC cK cC zC [(3, .bool true), (15, .bool true)]))) = [([], ak20 r d lK, some (e20 r d v lK ks lC cs nC cK cC zC []))] := by cases nC <;> kernel_rfl
theorem q6i : (run20 [] (seqL X20) (e20 r d v lK ks lC cs nC cK cC zC [])).isSome = true := by cases nC <;> kernel_rfl
theorem q6s : samesL (orNil (run20 [] (seqL X20) (e20 r d v lK ks lC cs nC cK cC zC []))) = samesR (orNil (run20 [] (seqL X20) (e20 r d v lK ks lC cs nC cK cC zC []))) := by cases nC <;> kernel_rfl
theorem q6 : tells (normF [1, 4]) (orNil (run20 [] (seqL X20) (e20 r d v lK ks lC cs nC cK cC zC []))) = [([], [], some (e20 r d v lK ks lC cs nC cK cC zC [(4, .int .i64 (Int.ofNat 0))]))] := by cases nC <;> kernel_rfl
noncomputable abbrev M20l (i : Nat) := run20 (H20l i) B20 (e20 r d v lK ks lC cs nC cK cC zC [(4, .int .i64 (Int.ofNat i))])
theorem l20i (i : Nat) : (M20l r d v lK ks lC cs nC cK cC zC i).isSome = true := by cases nC <;> kernel_rfl
theorem l20s (i : Nat) : samesL (orNil (M20l r d v lK ks lC cs nC cK cC zC i)) = samesR (orNil (M20l r d v lK ks lC cs nC cK cC zC i)) := by cases nC <;> kernel_rfl
theorem l20 (i : Nat) : tells (roundF Try.prog (cfS S9) 1000 Try.f38 [1, 4]) (orNil (M20l r d v lK ks lC cs nC cK cC zC i)) =
    [([(decide (Int.ofNat i < Int.ofNat lK), true), (decide (atx ks i < -4096), true)], [ix lK i, ld ks i], .ret (.bool false)),
     ([(decide (Int.ofNat i < Int.ofNat lK), true), (decide (atx ks i < -4096), false), (decide (atx ks i > 4096), true)], [ix lK i, ld ks i, ix lK i, ld ks i], .ret (.bool false)),
     ([(decide (Int.ofNat i < Int.ofNat lK), true), (decide (atx ks i < -4096), false), (decide (atx ks i > 4096), false)], [ix lK i, ld ks i, ix lK i, ld ks i, V.int .i64 (IntKind.i64.wrap (Int.ofNat i + 1)) = V.int .i64 (Int.ofNat (i + 1))], .next (e20 r d v lK ks lC cs nC cK cC zC [(4, .int .i64 (Int.ofNat (i + 1)))])),
     ([(decide (Int.ofNat i < Int.ofNat lK), false)], [], .exit 1 (e20 r d v lK ks lC cs nC cK cC zC [(4, .int .i64 (Int.ofNat i))]))] := by cases nC <;> kernel_rfl
noncomputable abbrev Z20 (i : Nat) := run20 [] (seqR (seqR K20)) (e20 r d v lK ks lC cs nC cK cC zC [(4, .int .i64 (Int.ofNat i))])
theorem z20i (i : Nat) : (Z20 r d v lK ks lC cs nC cK cC zC i).isSome = true := by cases nC <;> kernel_rfl
theorem z20s (i : Nat) : samesL (orNil (Z20 r d v lK ks lC cs nC cK cC zC i)) = samesR (orNil (Z20 r d v lK ks lC cs nC cK cC zC i)) := by cases nC <;> kernel_rfl
theorem z20 (i : Nat) : tells (retX Try.prog (cfS S9) 1000 Try.f38) (orNil (Z20 r d v lK ks lC cs nC cK cC zC i)) = [([], fa20 lK ks (ln nC lC) (rw' nC cs), some (.bool (plainB true false false true r d v lK (ln nC lC))))] := by cases nC <;> kernel_rfl
end
theorem badB_at {ks : List Int} {l i : Nat} (hi : i < l) (h : outB (at0 ks i) = true) : badB l ks = true := by
  have : ∃ j, j ≤ i ∧ outB (at0 ks j) = true ∧ ∀ t, t < j → outB (at0 ks t) = false := by
    have key : ∀ n, ∀ i, i ≤ n → outB (at0 ks i) = true → ∃ j, j ≤ i ∧ outB (at0 ks j) = true ∧ ∀ t, t < j → outB (at0 ks t) = false := by
      intro n
      induction n with
      | zero => intro i hi h; exact ⟨i, Nat.le_refl _, h, fun t ht => by omega⟩
      | succ n ih =>
        intro i hi h
        by_cases q : ∃ t, t < i ∧ outB (at0 ks t) = true
        · obtain ⟨t, h1, h2⟩ := q
          obtain ⟨j, k1, k2, k3⟩ := ih t (by omega) h2
          exact ⟨j, by omega, k2, k3⟩
        · refine ⟨i, Nat.le_refl _, h, fun t ht => ?_⟩
          cases hb : outB (at0 ks t) with
          | false => rfl
          | true => exact absurd ⟨t, ht, hb⟩ q
    exact key i i (Nat.le_refl _) h
  obtain ⟨j, h1, h2, h3⟩ := this
  unfold badB
  rw [idxOut_at (by omega) h2 h3]
  exact decide_eq_true (Int.natCast_nonneg j)
theorem badB_none {ks : List Int} {l : Nat} (h : ∀ i, i < l → outB (at0 ks i) = false) : badB l ks = false := by
  unfold badB
  rw [idxOut_none h]
  rfl
theorem side_sq {r : Int} (h : 0 ≤ r ∧ r ≤ 3) : w64 (side r * side r) = (2 * r + 1) * (2 * r + 1) := by
  have : r = 0 ∨ r = 1 ∨ r = 2 ∨ r = 3 := by omega
  rcases this with rfl | rfl | rfl | rfl <;> rfl
theorem valid1 {r d v : Int} {lK : Nat} {ks : List Int} {lC : Nat} {cs : List Int} : validB 1 r d v lK ks lC cs = (within r 0 3 && (decide (Int.ofNat lK = w64 (side r * side r)) && (within d 1 1048576 && (!(badB lK ks) && (decide (v = 0) && nat0 lC))))) := by
  simp [validB, chV, chB]
theorem plain1 {r d v : Int} {lK lC : Nat} : plainB true false false true r d v lK lC = (decide (v = 0) && nat0 lC) := by
  simp [plainB, ch37, tst, chB, nat0]
theorem t20ok (r d v : Int) (lK : Nat) (ks : List Int) (lC : Nat) (cs : List Int) (nC : Bool) (cK zK cC zC : Nat) (w0 : World) (hr : rcIs r .ok) (hs : Int.ofNat lK = w64 (side r * side r)) (hd : 1 ≤ d ∧ d ≤ 1048576) (h1 : lK ≤ ks.length) (h2 : lK ≤ 1000) (h3 : ln nC lC ≤ (rw' nC cs).length) (h4 : ln nC lC ≤ 1000) :
    T Try.prog Try.f38.ntmps w0 cd20 (st20 r d v lK ks lC cs nC cK zK cC zC) (RetQ Try.prog (cfS S9) 1000 Try.f38 (.bool (validB 1 r d v lK ks (ln nC lC) (rw' nC cs)))) := by
  have hw : within r 0 3 = true := by simp [within, hr.1, hr.2]
  have hwd : within d 1 1048576 = true := by simp [within, hd.1, hd.2]
  have hsd : decide (Int.ofNat lK = w64 (side r * side r)) = true := decide_eq_true hs
  refine T_next (cS S9_ok) mo _ 1000 [1] _ _ (by kernel_rfl) (by kernel_rfl) (q1i r d v lK ks lC cs nC cK zK cC zC) (q1s r d v lK ks lC cs nC cK zK cC zC) (q1 r d v lK ks lC cs nC cK zK cC zC) (by simp) ?_
  refine T_next (cS S9_ok) mo _ 1000 [1, 3] _ _ (by kernel_rfl) (by kernel_rfl) (q2i r d v lK ks lC cs nC cK cC zC) (q2s r d v lK ks lC cs nC cK cC zC) (q2 r d v lK ks lC cs nC cK cC zC) (az20_ok hr) ?_
  refine T_seq' (by kernel_rfl) ?_
  refine T_next (cS S9_ok) mo _ 1000 [1, 3, 14] _ _ (by kernel_rfl) (by kernel_rfl) (q3i r d v lK ks lC cs nC cK cC zC) (q3s r d v lK ks lC cs nC cK cC zC) (q3 r d v lK ks lC cs nC cK cC zC) (by simp) ?_
  refine T_block (i := 0) (by kernel_rfl) ?_
  refine T_next (cS S9_ok) mo _ 1000 [1, 3, 15] _ _ (by kernel_rfl) (by kernel_rfl) (q4i r d v lK ks lC cs nC cK cC zC) (q4s r d v lK ks lC cs nC cK cC zC) (q4 r d v lK ks lC cs nC cK cC zC) (by simp) ?_
  refine T_cond (t := true) (by kernel_rfl) (by cases nC <;> kernel_rfl) (fun _ => ?_) (fun h => by cases h)
  refine T_next (cS S9_ok) mo _ 1000 [1] _ _ (by kernel_rfl) (by kernel_rfl) (q5i r d v lK ks lC cs nC cK cC zC) (q5s r d v lK ks lC cs nC cK cC zC) (q5 r d v lK ks lC cs nC cK cC zC) ?_ ?_
  · unfold ak20
    simp only [List.mem_cons, List.not_mem_nil, or_false]
    rintro a (rfl | rfl | rfl)
    · unfold isB; rw [hsd]; rfl
    · exact isB_false (by omega)
    · exact isB_false (by omega)
  refine T_seq' (by kernel_rfl) ?_
  refine T_next (cS S9_ok) mo _ 1000 [1, 4] _ _ (by kernel_rfl) (by kernel_rfl) (q6i r d v lK ks lC cs nC cK cC zC) (q6s r d v lK ks lC cs nC cK cC zC) (q6 r d v lK ks lC cs nC cK cC zC) (by simp) ?_
  refine T_block (i := 1) (by kernel_rfl) ?_
  refine T_rounds (cS S9_ok) mo H20l 1000 Try.f38 [1, 4] (fun k s => ∃ i, k = lK - i ∧ i ≤ lK ∧ s = e20 r d v lK ks lC cs nC cK cC zC [(4, .int .i64 (Int.ofNat i))] ∧ ∀ j, j < i → outB (at0 ks j) = false) (by kernel_rfl) (by kernel_rfl) ?_ lK ⟨0, rfl, Nat.zero_le _, rfl, fun j hj => absurd hj (by omega)⟩
  rintro k s ⟨i, hk, hi, rfl, hall⟩
  refine ⟨i, _, l20i r d v lK ks lC cs nC cK cC zC i, l20s r d v lK ks lC cs nC cK cC zC i, l20 r d v lK ks lC cs nC cK cC zC i, fun g hg hc => ?_⟩
  simp only [List.mem_cons, List.not_mem_nil, or_false] at hg
  have hx : ∀ j, atx ks j = at0 ks j := fun j => at00 ks j
  have hix : ∀ j, j < lK → ix lK j := fun j hj => in_ofNat hj
  have hld : ∀ j, j < lK → ld ks j := fun j hj => by unfold ld; omega
  have bad : ∀ {i}, i < lK → (at0 ks i < -4096 ∨ at0 ks i > 4096) → validB 1 r d v lK ks (ln nC lC) (rw' nC cs) = false := by
    intro i hil ho
    have : outB (at0 ks i) = true := by
      rcases ho with ho | ho
      · have h1 : ¬ (-4096 ≤ at0 ks i) := by omega
        simp [outB, within, h1]
      · have h1 : ¬ (at0 ks i ≤ 4096) := by omega
        simp [outB, within, h1]
    rw [valid1, badB_at hil this]; simp
  rcases hg with rfl | rfl | rfl | rfl
  · have hil := lt_ofNat (hc _ (List.mem_cons_self ..))
    have h5 : decide (atx ks i < -4096) = true := hc (decide (atx ks i < -4096), true) (List.mem_cons_of_mem _ (List.mem_cons_self ..))
    rw [hx, decide_eq_true_eq] at h5
    refine ⟨?_, fun s' hq => ?_⟩
    · simp only [List.mem_cons, List.not_mem_nil, or_false]
      rintro a (rfl | rfl) <;> first | exact hix i hil | exact hld i hil
    · rw [← bad hil (.inl h5)] at hq; exact hq
  · have hil := lt_ofNat (hc _ (List.mem_cons_self ..))
    have h5 : decide (atx ks i > 4096) = true := hc (decide (atx ks i > 4096), true) (List.mem_cons_of_mem _ (List.mem_cons_of_mem _ (List.mem_cons_self ..)))
    rw [hx, decide_eq_true_eq] at h5
    refine ⟨?_, fun s' hq => ?_⟩
    · simp only [List.mem_cons, List.not_mem_nil, or_false]
      rintro a (rfl | rfl | rfl | rfl) <;> first | exact hix i hil | exact hld i hil
    · rw [← bad hil (.inr h5)] at hq; exact hq
  · have hil := lt_ofNat (hc _ (List.mem_cons_self ..))
    have h5 : decide (atx ks i < -4096) = false := hc (decide (atx ks i < -4096), false) (List.mem_cons_of_mem _ (List.mem_cons_self ..))
    have h6 : decide (atx ks i > 4096) = false := hc (decide (atx ks i > 4096), false) (List.mem_cons_of_mem _ (List.mem_cons_of_mem _ (List.mem_cons_self ..)))
    rw [hx, decide_eq_false_iff_not] at h5 h6
    refine ⟨?_, lK - (i + 1), by omega, i + 1, rfl, hil, rfl, fun j hj => ?_⟩
    · simp only [List.mem_cons, List.not_mem_nil, or_false]
      rintro a (rfl | rfl | rfl | rfl | rfl) <;> first | exact hix i hil | exact hld i hil | exact up_ok (by omega)
    · by_cases hji : j = i
      · subst hji
        have k1 : -4096 ≤ at0 ks j := by omega
        have k2 : at0 ks j ≤ 4096 := by omega
        simp [outB, within, k1, k2]
      · exact hall j (by omega)
  · have hil := nlt_ofNat (hc _ (List.mem_cons_self ..))
    refine ⟨by simp, fun s' hs' => ?_⟩
    have hil : i = lK := by omega
    subst hil
    simp only [outOf, if_true, andThen]
    refine T_norm hs' (T_retX S9_ok [] Try.f38 (.bool (validB 1 r d v i ks (ln nC lC) (rw' nC cs))) _ (by kernel_rfl) (z20i r d v i ks lC cs nC cK cC zC i) (z20s r d v i ks lC cs nC cK cC zC i) (z20 r d v i ks lC cs nC cK cC zC i) ?_ ?_)
    · intro g hg _
      rw [List.mem_singleton.1 hg]
      refine ⟨?_, ?_⟩
      · unfold fa20
        simp only [List.mem_cons, List.not_mem_nil, or_false]
        rintro a (rfl | rfl | rfl | rfl) <;> assumption
      · simp only
        rw [valid1, plain1, hw, hsd, hwd, badB_none hall]; rfl
    · exact fun s' hq => hq
theorem valid_rc {k r d v : Int} {lK : Nat} {ks : List Int} {lC : Nat} {cs : List Int} (hk : k = 1 ∨ k = 2 ∨ k = 3 ∨ k = 4) {rc : RC} (h : rcIs r rc) (hn : okB rc = false) : validB k r d v lK ks lC cs = false := by
  have hw : within r 0 3 = false := by
    cases rc with
    | ok => cases hn
    | hi => have h : 3 < r := h
            have : ¬ r ≤ 3 := by omega
            simp [within, this]
    | lo => have h : r < 0 := h
            have : ¬ 0 ≤ r := by omega
            simp [within, this]
  rcases hk with rfl | rfl | rfl | rfl <;> simp [validB, chV, chB, hw]
theorem fa20_ok {lK : Nat} {ks : List Int} {lC : Nat} {cs : List Int} (h1 : lK ≤ ks.length) (h2 : lK ≤ 1000) (h3 : lC ≤ cs.length) (h4 : lC ≤ 1000) : ∀ a ∈ fa20 lK ks lC cs, a := by
  unfold fa20
  simp only [List.mem_cons, List.not_mem_nil, or_false]
  rintro a (rfl | rfl | rfl | rfl) <;> assumption
theorem bool_ext {a b : Bool} (h : a = true ↔ b = true) : a = b := by cases a <;> cases b <;> simp_all
theorem G20_ok (k : Nat) (hk : k = 2 ∨ k = 3 ∨ k = 4 ∨ k = 5 ∨ k = 6 ∨ k = 7 ∨ k = 8) {rc : RC} {r d v : Int} {lK : Nat} {ks : List Int} {lC : Nat} {cs : List Int} (hr : rcIs r rc) (h1 : lK ≤ ks.length) (h2 : lK ≤ 1000) (h3 : lC ≤ cs.length) (h4 : lC ≤ 1000) :
    ∀ g ∈ G20 k rc r d v lK ks lC cs, (∀ b ∈ g.1, b.1 = b.2) → (∀ a ∈ g.2.1, a) ∧ g.2.2 = some (.bool (validB k r d v lK ks lC cs)) := by
  have hfa := fa20_ok h1 h2 h3 h4
  have haz := az20_ok hr
  have low : ∀ g, g ∈ (match rc with
    | .ok => [([], az20 r .ok ++ fa20 lK ks lC cs, some (V.bool (plainB false false false true r d v lK lC)))]
    | rc => [(([] : List (Bool × Bool)), az20 r rc, some (V.bool false))]) → (k = 2 ∨ k = 3 ∨ k = 4) → (∀ a ∈ g.2.1, a) ∧ g.2.2 = some (.bool (validB k r d v lK ks lC cs)) := by
    intro g hg hk
    cases rc with
    | ok =>
      simp only [List.mem_singleton] at hg; subst hg
      refine ⟨fun a ha => (List.mem_append.1 ha).elim (haz a) (hfa a), ?_⟩
      have hw : within r 0 3 = true := by simp [within, hr.1, hr.2]
      congr 2
      rcases hk with rfl | rfl | rfl <;> simp [validB, chV, chB, hw, plainB, ch37, tst, nat0] <;> apply bool_ext <;> simp <;> omega
    | hi =>
      simp only [List.mem_singleton] at hg; subst hg
      exact ⟨haz, by rw [valid_rc (by omega) hr rfl]⟩
    | lo =>
      simp only [List.mem_singleton] at hg; subst hg
      exact ⟨haz, by rw [valid_rc (by omega) hr rfl]⟩
  intro g hg hc
  rcases hk with rfl | rfl | rfl | rfl | rfl | rfl | rfl
  · exact low g hg (by omega)
  · exact low g hg (by omega)
  · exact low g hg (by omega)
  · have := chP_ok _ _ hfa _ [] _ haz (by intro x hx a ha; simp only [List.mem_singleton] at hx; subst hx; simp only [List.mem_cons, List.not_mem_nil, or_false] at ha; rcases ha with rfl | rfl <;> assumption) g hg hc
    refine ⟨this.1, this.2.trans ?_⟩
    congr 2
    simp [validB, chV, chB, plainB, ch37, tst, nat0]
    apply bool_ext; simp; omega
  · have := chP_ok _ _ hfa _ [] _ haz (by simp) g hg hc
    refine ⟨this.1, this.2.trans ?_⟩
    congr 2
    simp [validB, chV, chB, plainB, ch37, tst, nat0]
    apply bool_ext; simp; omega
  · have := chP_ok _ _ hfa _ [] _ haz (by simp) g hg hc
    refine ⟨this.1, this.2.trans ?_⟩
    congr 2
    simp [validB, chV, chB, plainB, ch37, tst, nat0, within]
    apply bool_ext; simp; omega
  · have := chP_ok _ _ hfa _ [] _ haz (by simp) g hg hc
    refine ⟨this.1, this.2.trans ?_⟩
    congr 2
    simp [validB, chV, chB, plainB, ch37, tst, nat0, within]
    apply bool_ext; simp; omega
theorem p20 : PureA Try.prog 38 (specF R21) := by
  refine pureF S9_ok (Nat.le_of_ble_eq_true (by kernel_rfl)) Try.func38 (code := bodyOf Try.f38) (by kernel_rfl) (fun k r d v lK ks lC cs X u e => ?_) (fun k r d v lK ks lC cs X u nK nC cK zK cC zC e h1 h2 h3 h4 w0 => ?_)
  · unfold R21 at e
    split at e
    · simp only [Option.some.injEq] at e; subst e
      exact ⟨rfl, rfl, by kernel_rfl⟩
    · cases e
  · unfold R21 at e
    split at e
    · simp only [Option.some.injEq] at e; subst e
      have hcode : codeOk Try.f38.ntmps (bodyOf Try.f38) = true := by kernel_rfl
      obtain ⟨rc, hr⟩ := rc_of r
      have fail : ∀ (A : List Prop) (g : List (Bool × Bool) × List Prop × Option V), g ∈ [(([] : List (Bool × Bool)), A, some (V.bool false))] → (∀ a ∈ A, a) → validB 1 r d v (ln nK lK) (rw' nK ks) (ln nC lC) (rw' nC cs) = false → (∀ a ∈ g.2.1, a) ∧ g.2.2 = some (.bool (validB 1 r d v (ln nK lK) (rw' nK ks) (ln nC lC) (rw' nC cs))) := by
        intro A g hg hA hf
        rw [List.mem_singleton.1 hg, hf]
        exact ⟨hA, rfl⟩
      rcases kinds k with rfl | rfl | rfl | rfl | rfl | rfl | rfl | rfl | ho
      · cases rc with
        | hi => exact T_ret (cS S9_ok) mo _ 1000 Try.f38 _ _ hcode (ok20_1hi r d v lK ks lC cs nK nC cK zK cC zC) (sm20_1hi r d v lK ks lC cs nK nC cK zK cC zC) (hr20_1hi r d v lK ks lC cs nK nC cK zK cC zC) (fun g hg _ => fail _ g hg (az20_ok hr) (valid_rc (.inl rfl) hr rfl))
        | lo => exact T_ret (cS S9_ok) mo _ 1000 Try.f38 _ _ hcode (ok20_1lo r d v lK ks lC cs nK nC cK zK cC zC) (sm20_1lo r d v lK ks lC cs nK nC cK zK cC zC) (hr20_1lo r d v lK ks lC cs nK nC cK zK cC zC) (fun g hg _ => fail _ g hg (az20_ok hr) (valid_rc (.inl rfl) hr rfl))
        | ok =>
          have haz := az20_ok hr
          by_cases hs : Int.ofNat (ln nK lK) = w64 (side r * side r)
          · have hsd : decide (Int.ofNat (ln nK lK) = w64 (side r * side r)) = true := decide_eq_true hs
            by_cases hd1 : d < 1
            · have hn : ¬ 1 ≤ d := by omega
              refine T_ret (cS S9_ok) mo _ 1000 Try.f38 _ _ hcode (ok20_1b r d v lK ks lC cs nK nC cK zK cC zC) (sm20_1b r d v lK ks lC cs nK nC cK zK cC zC) (hr20_1b r d v lK ks lC cs nK nC cK zK cC zC) (fun g hg _ => fail _ g hg ?_ (by rw [valid1]; simp [within, hn]))
              intro a ha
              rcases List.mem_append.1 ha with ha | ha
              · exact haz a ha
              · simp only [List.mem_cons, List.not_mem_nil, or_false] at ha
                rcases ha with rfl | rfl
                · unfold isB; rw [hsd]; rfl
                · exact isB_true hd1
            · by_cases hd2 : d > 1048576
              · have hn : ¬ d ≤ 1048576 := by omega
                refine T_ret (cS S9_ok) mo _ 1000 Try.f38 _ _ hcode (ok20_1c r d v lK ks lC cs nK nC cK zK cC zC) (sm20_1c r d v lK ks lC cs nK nC cK zK cC zC) (hr20_1c r d v lK ks lC cs nK nC cK zK cC zC) (fun g hg _ => fail _ g hg ?_ (by rw [valid1]; simp [within, hn]))
                intro a ha
                rcases List.mem_append.1 ha with ha | ha
                · exact haz a ha
                · simp only [List.mem_cons, List.not_mem_nil, or_false] at ha
                  rcases ha with rfl | rfl | rfl
                  · unfold isB; rw [hsd]; rfl
                  · exact isB_false hd1
                  · exact isB_true hd2
              · cases nK with
                | true =>
                  exfalso
                  rw [side_sq hr] at hs
                  have hs : (0 : Int) = (2 * r + 1) * (2 * r + 1) := hs
                  have h0 : 0 ≤ r := hr.1
                  have : (2 * r + 1) * (2 * r + 1) ≥ 1 * 1 := Int.mul_le_mul (by omega) (by omega) (by omega) (by omega)
                  omega
                | false => exact t20ok r d v lK ks lC cs nC cK zK cC zC w0 hr hs ⟨by omega, by omega⟩ h1 h2 h3 h4
          · have hsd : decide (Int.ofNat (ln nK lK) = w64 (side r * side r)) = false := decide_eq_false hs
            refine T_ret (cS S9_ok) mo _ 1000 Try.f38 _ _ hcode (ok20_1a r d v lK ks lC cs nK nC cK zK cC zC) (sm20_1a r d v lK ks lC cs nK nC cK zK cC zC) (hr20_1a r d v lK ks lC cs nK nC cK zK cC zC) (fun g hg _ => fail _ g hg ?_ (by rw [valid1, hsd]; simp))
            intro a ha
            rcases List.mem_append.1 ha with ha | ha
            · exact haz a ha
            · simp only [List.mem_cons, List.not_mem_nil, or_false] at ha
              subst ha
              unfold isB; rw [hsd]; rfl
      · exact T_ret (cS S9_ok) mo _ 1000 Try.f38 _ _ hcode (ok20_2 rc r d v lK ks lC cs nK nC cK zK cC zC) (sm20_2 rc r d v lK ks lC cs nK nC cK zK cC zC) (hr20_2 rc r d v lK ks lC cs nK nC cK zK cC zC) (G20_ok 2 (by omega) hr h1 h2 h3 h4)
      · exact T_ret (cS S9_ok) mo _ 1000 Try.f38 _ _ hcode (ok20_3 rc r d v lK ks lC cs nK nC cK zK cC zC) (sm20_3 rc r d v lK ks lC cs nK nC cK zK cC zC) (hr20_3 rc r d v lK ks lC cs nK nC cK zK cC zC) (G20_ok 3 (by omega) hr h1 h2 h3 h4)
      · exact T_ret (cS S9_ok) mo _ 1000 Try.f38 _ _ hcode (ok20_4 rc r d v lK ks lC cs nK nC cK zK cC zC) (sm20_4 rc r d v lK ks lC cs nK nC cK zK cC zC) (hr20_4 rc r d v lK ks lC cs nK nC cK zK cC zC) (G20_ok 4 (by omega) hr h1 h2 h3 h4)
      · exact T_ret (cS S9_ok) mo _ 1000 Try.f38 _ _ hcode (ok20_5 rc r d v lK ks lC cs nK nC cK zK cC zC) (sm20_5 rc r d v lK ks lC cs nK nC cK zK cC zC) (hr20_5 rc r d v lK ks lC cs nK nC cK zK cC zC) (G20_ok 5 (by omega) hr h1 h2 h3 h4)
      · exact T_ret (cS S9_ok) mo _ 1000 Try.f38 _ _ hcode (ok20_6 rc r d v lK ks lC cs nK nC cK zK cC zC) (sm20_6 rc r d v lK ks lC cs nK nC cK zK cC zC) (hr20_6 rc r d v lK ks lC cs nK nC cK zK cC zC) (G20_ok 6 (by omega) hr h1 h2 h3 h4)
      · exact T_ret (cS S9_ok) mo _ 1000 Try.f38 _ _ hcode (ok20_7 rc r d v lK ks lC cs nK nC cK zK cC zC) (sm20_7 rc r d v lK ks lC cs nK nC cK zK cC zC) (hr20_7 rc r d v lK ks lC cs nK nC cK zK cC zC) (G20_ok 7 (by omega) hr h1 h2 h3 h4)
      · exact T_ret (cS S9_ok) mo _ 1000 Try.f38 _ _ hcode (ok20_8 rc r d v lK ks lC cs nK nC cK zK cC zC) (sm20_8 rc r d v lK ks lC cs nK nC cK zK cC zC) (hr20_8 rc r d v lK ks lC cs nK nC cK zK cC zC) (G20_ok 8 (by omega) hr h1 h2 h3 h4)
      · rw [validB_o r d v _ _ _ _ ho]
        refine T_ret (cS S9_ok) mo _ 1000 Try.f38 _ _ hcode (ok20_o rc k r d v lK ks lC cs nK nC cK zK cC zC) (sm20_o rc k r d v lK ks lC cs nK nC cK zK cC zC) (hr20_o rc k r d v lK ks lC cs nK nC cK zK cC zC) ?_
        intro g hg _
        rw [List.mem_singleton.1 hg]
        refine ⟨?_, rfl⟩
        intro a ha
        rcases List.mem_append.1 ha with ha | ha
        · exact az20_ok hr a ha
        · simp only [List.mem_cons, List.not_mem_nil, or_false] at ha
          rcases ha with rfl | rfl | rfl | rfl | rfl | rfl | rfl | rfl <;> exact notK_of (by omega)
    · cases e
abbrev S10 : Ctr := addS 38 (specF R21) (addS 39 (specF R21) S9)
theorem S10_ok : CtrOk Try.prog S10 := addS_ok p20 (addS_ok p21 S9_ok)
end Go.Proofs.Ytadejpmecljjpaa
namespace Go.Proofs.Ytadejpmecljjpaa
open Go Go.Eng
def areaQ (vb : Bool) (k r v x0 y0 x1 y1 sg : Int) : Q4 :=
  if vb = false ∨ emptyB x0 y0 x1 y1 = true then zeroQ
  else if within k 1 4 = true then growQ x0 y0 x1 y1 r
  else if k = 8 then moveQ x0 y0 x1 y1 (w64 (sg * r)) (w64 (sg * v))
  else (x0, y0, x1, y1)
def R27 : RF := fun k r d v lK ks lC cs X => match X with
  | [.agg [.int .i64 x0, .int .i64 y0, .int .i64 x1, .int .i64 y1], .int .i64 sg] => some (rectV (areaQ (validB k r d v lK ks lC cs) k r v x0 y0 x1 y1 sg))
  | _ => none
def RN (sg : Int) : RF := fun k r d v lK ks lC cs X => match X with
  | [.agg [.int .i64 x0, .int .i64 y0, .int .i64 x1, .int .i64 y1]] => some (rectV (areaQ (validB k r d v lK ks lC cs) k r v x0 y0 x1 y1 sg))
  | _ => none
abbrev rc4 (x0 y0 x1 y1 : Int) : V := .agg [.int .i64 x0, .int .i64 y0, .int .i64 x1, .int .i64 y1]
section
variable (k r d v : Int) (lK : Nat) (ks : List Int) (lC : Nat) (cs : List Int) (x0 y0 x1 y1 sg : Int)
def G27 : List (List (Bool × Bool) × List Prop × Option V) :=
  let vb := validB k r d v lK ks lC cs
  let em := emptyB x0 y0 x1 y1
  let wi := within k 1 4
  let k8 := decide (k = 8)
  let fa := fa20 lK ks lC cs
  [([(vb, true), (em, true)], fa, some (rectV zeroQ)), ([(vb, true), (em, false), (wi, true)], fa, some (rectV (growQ x0 y0 x1 y1 r))),
   ([(vb, true), (em, false), (wi, false), (k8, true)], fa, some (rectV (moveQ x0 y0 x1 y1 (w64 (sg * r)) (w64 (sg * v))))), ([(vb, true), (em, false), (wi, false), (k8, false)], fa, some (rectV (x0, y0, x1, y1))),
   ([(vb, false)], fa, some (rectV zeroQ))]
def G28 : List (List (Bool × Bool) × List Prop × Option V) :=
  let vb := validB k r d v lK ks lC cs
  let em := emptyB x0 y0 x1 y1
  let wi := within k 1 4
  let k8 := decide (k = 8)
  let fa := fa20 lK ks lC cs
  [([(vb, true), (em, true)], fa, some (rectV zeroQ)), ([(vb, true), (em, false), (wi, true)], fa ++ fa, some (rectV (growQ x0 y0 x1 y1 r))),
   ([(vb, true), (em, false), (wi, false), (k8, true)], fa ++ fa, some (rectV (moveQ x0 y0 x1 y1 (w64 (sg * r)) (w64 (sg * v))))), ([(vb, true), (em, false), (wi, false), (k8, false)], fa ++ fa, some (rectV (x0, y0, x1, y1))),
   ([(vb, false), (em, true)], fa, some (rectV zeroQ)), ([(vb, false), (em, false)], fa, some (rectV zeroQ))]
theorem G27_ok (hfa : ∀ a ∈ fa20 lK ks lC cs, a) : ∀ g ∈ G27 k r d v lK ks lC cs x0 y0 x1 y1 sg, (∀ b ∈ g.1, b.1 = b.2) → (∀ a ∈ g.2.1, a) ∧ g.2.2 = some (rectV (areaQ (validB k r d v lK ks lC cs) k r v x0 y0 x1 y1 sg)) := by
  intro g hg hc
  simp only [G27, List.mem_cons, List.not_mem_nil, or_false] at hg
  rcases hg with rfl | rfl | rfl | rfl | rfl <;> refine ⟨hfa, ?_⟩ <;> simp only [List.mem_cons, List.not_mem_nil, or_false, forall_eq_or_imp, forall_eq, decide_eq_true_eq, decide_eq_false_iff_not] at hc <;> simp only [areaQ] <;> first | (simp [hc]; done) | (obtain ⟨q1, q2, q3, rfl⟩ := hc; simp [q1, q2, q3])
theorem G28_ok (hfa : ∀ a ∈ fa20 lK ks lC cs, a) : ∀ g ∈ G28 k r d v lK ks lC cs x0 y0 x1 y1 sg, (∀ b ∈ g.1, b.1 = b.2) → (∀ a ∈ g.2.1, a) ∧ g.2.2 = some (rectV (areaQ (validB k r d v lK ks lC cs) k r v x0 y0 x1 y1 sg)) := by
  intro g hg hc
  have hf2 : ∀ a ∈ fa20 lK ks lC cs ++ fa20 lK ks lC cs, a := fun a ha => (List.mem_append.1 ha).elim (hfa a) (hfa a)
  simp only [G28, List.mem_cons, List.not_mem_nil, or_false] at hg
  rcases hg with rfl | rfl | rfl | rfl | rfl | rfl <;> refine ⟨by first | exact hfa | exact hf2, ?_⟩ <;> simp only [List.mem_cons, List.not_mem_nil, or_false, forall_eq_or_imp, forall_eq, decide_eq_true_eq, decide_eq_false_iff_not] at hc <;> simp only [areaQ] <;> first | (simp [hc]; done) | (obtain ⟨q1, q2, q3, rfl⟩ := hc; simp [q1, q2, q3])
end
noncomputable abbrev M27 (k r d v : Int) (lK : Nat) (ks : List Int) (lC : Nat) (cs : List Int) (nK nC : Bool) (cK zK cC zC : Nat) (x0 y0 x1 y1 sg : Int) := codeM Try.prog S10 cf0 [(9, .split), (13, .split), (19, .split), (27, .split)] 1000 (bodyOf Try.f54) (startSt (FV k r (sK nK lK cK zK) d v (sC nC lC cC zC) :: [rc4 x0 y0 x1 y1, .int .i64 sg]) (hF nK nC ks cs) 2)
theorem ok27 (k r d v : Int) (lK : Nat) (ks : List Int) (lC : Nat) (cs : List Int) (nK nC : Bool) (cK zK cC zC : Nat) (x0 y0 x1 y1 sg : Int) : (M27 k r d v lK ks lC cs nK nC cK zK cC zC x0 y0 x1 y1 sg).isSome = true := by cases nK <;> cases nC <;> kernel_rfl
theorem sm27 (k r d v : Int) (lK : Nat) (ks : List Int) (lC : Nat) (cs : List Int) (nK nC : Bool) (cK zK cC zC : Nat) (x0 y0 x1 y1 sg : Int) : samesL (orNil (M27 k r d v lK ks lC cs nK nC cK zK cC zC x0 y0 x1 y1 sg)) = samesR (orNil (M27 k r d v lK ks lC cs nK nC cK zK cC zC x0 y0 x1 y1 sg)) := by cases nK <;> cases nC <;> kernel_rfl
theorem hr27 (k r d v : Int) (lK : Nat) (ks : List Int) (lC : Nat) (cs : List Int) (nK nC : Bool) (cK zK cC zC : Nat) (x0 y0 x1 y1 sg : Int) : tells (retOf Try.prog (cfS S10) 1000 Try.f54) (orNil (M27 k r d v lK ks lC cs nK nC cK zK cC zC x0 y0 x1 y1 sg)) = G27 k r d v (ln nK lK) (rw' nK ks) (ln nC lC) (rw' nC cs) x0 y0 x1 y1 sg := by cases nK <;> cases nC <;> kernel_rfl
theorem p27 : PureA Try.prog 54 (specF R27) := by
  refine pureF S10_ok (Nat.le_of_ble_eq_true (by kernel_rfl)) Try.func54 (code := bodyOf Try.f54) (by kernel_rfl) (fun k r d v lK ks lC cs X u e => ?_) (fun k r d v lK ks lC cs X u nK nC cK zK cC zC e h1 h2 h3 h4 w0 => ?_)
  · unfold R27 at e
    split at e
    · simp only [Option.some.injEq] at e; subst e
      exact ⟨rfl, rfl, by kernel_rfl⟩
    · cases e
  · unfold R27 at e
    split at e
    · rename_i x0 y0 x1 y1 sg
      simp only [Option.some.injEq] at e; subst e
      exact T_ret (cS S10_ok) mo _ 1000 Try.f54 _ _ (by kernel_rfl) (ok27 k r d v lK ks lC cs nK nC cK zK cC zC x0 y0 x1 y1 sg) (sm27 k r d v lK ks lC cs nK nC cK zK cC zC x0 y0 x1 y1 sg) (hr27 k r d v lK ks lC cs nK nC cK zK cC zC x0 y0 x1 y1 sg) (G27_ok k r d v (ln nK lK) (rw' nK ks) (ln nC lC) (rw' nC cs) x0 y0 x1 y1 sg (fa20_ok h1 h2 h3 h4))
    · cases e
noncomputable abbrev M28 (k r d v : Int) (lK : Nat) (ks : List Int) (lC : Nat) (cs : List Int) (nK nC : Bool) (cK zK cC zC : Nat) (x0 y0 x1 y1 sg : Int) := codeM Try.prog S10 cf0 [(10, .split), (12, .split), (20, .split), (27, .split)] 1000 (bodyOf Try.f55) (startSt (FV k r (sK nK lK cK zK) d v (sC nC lC cC zC) :: [rc4 x0 y0 x1 y1, .int .i64 sg]) (hF nK nC ks cs) 2)
theorem ok28 (k r d v : Int) (lK : Nat) (ks : List Int) (lC : Nat) (cs : List Int) (nK nC : Bool) (cK zK cC zC : Nat) (x0 y0 x1 y1 sg : Int) : (M28 k r d v lK ks lC cs nK nC cK zK cC zC x0 y0 x1 y1 sg).isSome = true := by cases nK <;> cases nC <;> kernel_rfl
theorem sm28 (k r d v : Int) (lK : Nat) (ks : List Int) (lC : Nat) (cs : List Int) (nK nC : Bool) (cK zK cC zC : Nat) (x0 y0 x1 y1 sg : Int) : samesL (orNil (M28 k r d v lK ks lC cs nK nC cK zK cC zC x0 y0 x1 y1 sg)) = samesR (orNil (M28 k r d v lK ks lC cs nK nC cK zK cC zC x0 y0 x1 y1 sg)) := by cases nK <;> cases nC <;> kernel_rfl
theorem hr28 (k r d v : Int) (lK : Nat) (ks : List Int) (lC : Nat) (cs : List Int) (nK nC : Bool) (cK zK cC zC : Nat) (x0 y0 x1 y1 sg : Int) : tells (retOf Try.prog (cfS S10) 1000 Try.f55) (orNil (M28 k r d v lK ks lC cs nK nC cK zK cC zC x0 y0 x1 y1 sg)) = G28 k r d v (ln nK lK) (rw' nK ks) (ln nC lC) (rw' nC cs) x0 y0 x1 y1 sg := by cases nK <;> cases nC <;> kernel_rfl
theorem p28 : PureA Try.prog 55 (specF R27) := by
  refine pureF S10_ok (Nat.le_of_ble_eq_true (by kernel_rfl)) Try.func55 (code := bodyOf Try.f55) (by kernel_rfl) (fun k r d v lK ks lC cs X u e => ?_) (fun k r d v lK ks lC cs X u nK nC cK zK cC zC e h1 h2 h3 h4 w0 => ?_)
  · unfold R27 at e
    split at e
    · simp only [Option.some.injEq] at e; subst e
      exact ⟨rfl, rfl, by kernel_rfl⟩
    · cases e
  · unfold R27 at e
    split at e
    · rename_i x0 y0 x1 y1 sg
      simp only [Option.some.injEq] at e; subst e
      exact T_ret (cS S10_ok) mo _ 1000 Try.f55 _ _ (by kernel_rfl) (ok28 k r d v lK ks lC cs nK nC cK zK cC zC x0 y0 x1 y1 sg) (sm28 k r d v lK ks lC cs nK nC cK zK cC zC x0 y0 x1 y1 sg) (hr28 k r d v lK ks lC cs nK nC cK zK cC zC x0 y0 x1 y1 sg) (G28_ok k r d v (ln nK lK) (rw' nK ks) (ln nC lC) (rw' nC cs) x0 y0 x1 y1 sg (fa20_ok h1 h2 h3 h4))
    · cases e
abbrev S11 : Ctr := addS 55 (specF R27) (addS 54 (specF R27) S10)
theorem S11_ok : CtrOk Try.prog S11 := addS_ok p28 (addS_ok p27 S10_ok)
theorem oneG {v : V} {A : List Prop} (hA : ∀ a ∈ A, a) : ∀ g ∈ [(([] : List (Bool × Bool)), A, some v)], (∀ b ∈ g.1, b.1 = b.2) → (∀ a ∈ g.2.1, a) ∧ g.2.2 = some v := by
  intro g hg _
  rw [List.mem_singleton.1 hg]
  exact ⟨hA, rfl⟩
noncomputable abbrev M9 (k r d v : Int) (lK : Nat) (ks : List Int) (lC : Nat) (cs : List Int) (nK nC : Bool) (cK zK cC zC : Nat) (x0 y0 x1 y1 : Int) := codeM Try.prog S11 cf0 [] 1000 (bodyOf Try.f26) (startSt (FV k r (sK nK lK cK zK) d v (sC nC lC cC zC) :: [rc4 x0 y0 x1 y1]) (hF nK nC ks cs) 2)
theorem ok9 (k r d v : Int) (lK : Nat) (ks : List Int) (lC : Nat) (cs : List Int) (nK nC : Bool) (cK zK cC zC : Nat) (x0 y0 x1 y1 : Int) : (M9 k r d v lK ks lC cs nK nC cK zK cC zC x0 y0 x1 y1).isSome = true := by cases nK <;> cases nC <;> kernel_rfl
theorem sm9 (k r d v : Int) (lK : Nat) (ks : List Int) (lC : Nat) (cs : List Int) (nK nC : Bool) (cK zK cC zC : Nat) (x0 y0 x1 y1 : Int) : samesL (orNil (M9 k r d v lK ks lC cs nK nC cK zK cC zC x0 y0 x1 y1)) = samesR (orNil (M9 k r d v lK ks lC cs nK nC cK zK cC zC x0 y0 x1 y1)) := by cases nK <;> cases nC <;> kernel_rfl
theorem hr9 (k r d v : Int) (lK : Nat) (ks : List Int) (lC : Nat) (cs : List Int) (nK nC : Bool) (cK zK cC zC : Nat) (x0 y0 x1 y1 : Int) : tells (retOf Try.prog (cfS S11) 1000 Try.f26) (orNil (M9 k r d v lK ks lC cs nK nC cK zK cC zC x0 y0 x1 y1)) = [([], fa20 (ln nK lK) (rw' nK ks) (ln nC lC) (rw' nC cs), some (rectV (areaQ (validB k r d v (ln nK lK) (rw' nK ks) (ln nC lC) (rw' nC cs)) k r v x0 y0 x1 y1 (-1))))] := by cases nK <;> cases nC <;> kernel_rfl
theorem p9 : PureA Try.prog 26 (specF (RN (-1))) := by
  refine pureF S11_ok (Nat.le_of_ble_eq_true (by kernel_rfl)) Try.func26 (code := bodyOf Try.f26) (by kernel_rfl) (fun k r d v lK ks lC cs X u e => ?_) (fun k r d v lK ks lC cs X u nK nC cK zK cC zC e h1 h2 h3 h4 w0 => ?_)
  · unfold RN at e
    split at e
    · simp only [Option.some.injEq] at e; subst e
      exact ⟨rfl, rfl, by kernel_rfl⟩
    · cases e
  · unfold RN at e
    split at e
    · rename_i x0 y0 x1 y1
      simp only [Option.some.injEq] at e; subst e
      exact T_ret (cS S11_ok) mo _ 1000 Try.f26 _ _ (by kernel_rfl) (ok9 k r d v lK ks lC cs nK nC cK zK cC zC x0 y0 x1 y1) (sm9 k r d v lK ks lC cs nK nC cK zK cC zC x0 y0 x1 y1) (hr9 k r d v lK ks lC cs nK nC cK zK cC zC x0 y0 x1 y1) (oneG (fa20_ok h1 h2 h3 h4))
    · cases e
noncomputable abbrev M10 (k r d v : Int) (lK : Nat) (ks : List Int) (lC : Nat) (cs : List Int) (nK nC : Bool) (cK zK cC zC : Nat) (x0 y0 x1 y1 : Int) := codeM Try.prog S11 cf0 [] 1000 (bodyOf Try.f27) (startSt (FV k r (sK nK lK cK zK) d v (sC nC lC cC zC) :: [rc4 x0 y0 x1 y1]) (hF nK nC ks cs) 2)
theorem ok10 (k r d v : Int) (lK : Nat) (ks : List Int) (lC : Nat) (cs : List Int) (nK nC : Bool) (cK zK cC zC : Nat) (x0 y0 x1 y1 : Int) : (M10 k r d v lK ks lC cs nK nC cK zK cC zC x0 y0 x1 y1).isSome = true := by cases nK <;> cases nC <;> kernel_rfl
theorem sm10 (k r d v : Int) (lK : Nat) (ks : List Int) (lC : Nat) (cs : List Int) (nK nC : Bool) (cK zK cC zC : Nat) (x0 y0 x1 y1 : Int) : samesL (orNil (M10 k r d v lK ks lC cs nK nC cK zK cC zC x0 y0 x1 y1)) = samesR (orNil (M10 k r d v lK ks lC cs nK nC cK zK cC zC x0 y0 x1 y1)) := by cases nK <;> cases nC <;> kernel_rfl
theorem hr10 (k r d v : Int) (lK : Nat) (ks : List Int) (lC : Nat) (cs : List Int) (nK nC : Bool) (cK zK cC zC : Nat) (x0 y0 x1 y1 : Int) : tells (retOf Try.prog (cfS S11) 1000 Try.f27) (orNil (M10 k r d v lK ks lC cs nK nC cK zK cC zC x0 y0 x1 y1)) = [([], fa20 (ln nK lK) (rw' nK ks) (ln nC lC) (rw' nC cs), some (rectV (areaQ (validB k r d v (ln nK lK) (rw' nK ks) (ln nC lC) (rw' nC cs)) k r v x0 y0 x1 y1 (-1))))] := by cases nK <;> cases nC <;> kernel_rfl
theorem p10 : PureA Try.prog 27 (specF (RN (-1))) := by
  refine pureF S11_ok (Nat.le_of_ble_eq_true (by kernel_rfl)) Try.func27 (code := bodyOf Try.f27) (by kernel_rfl) (fun k r d v lK ks lC cs X u e => ?_) (fun k r d v lK ks lC cs X u nK nC cK zK cC zC e h1 h2 h3 h4 w0 => ?_)
  · unfold RN at e
    split at e
    · simp only [Option.some.injEq] at e; subst e
      exact ⟨rfl, rfl, by kernel_rfl⟩
    · cases e
  · unfold RN at e
    split at e
    · rename_i x0 y0 x1 y1
      simp only [Option.some.injEq] at e; subst e
      exact T_ret (cS S11_ok) mo _ 1000 Try.f27 _ _ (by kernel_rfl) (ok10 k r d v lK ks lC cs nK nC cK zK cC zC x0 y0 x1 y1) (sm10 k r d v lK ks lC cs nK nC cK zK cC zC x0 y0 x1 y1) (hr10 k r d v lK ks lC cs nK nC cK zK cC zC x0 y0 x1 y1) (oneG (fa20_ok h1 h2 h3 h4))
    · cases e
noncomputable abbrev M11 (k r d v : Int) (lK : Nat) (ks : List Int) (lC : Nat) (cs : List Int) (nK nC : Bool) (cK zK cC zC : Nat) (x0 y0 x1 y1 : Int) := codeM Try.prog S11 cf0 [] 1000 (bodyOf Try.f28) (startSt (FV k r (sK nK lK cK zK) d v (sC nC lC cC zC) :: [rc4 x0 y0 x1 y1]) (hF nK nC ks cs) 2)
theorem ok11 (k r d v : Int) (lK : Nat) (ks : List Int) (lC : Nat) (cs : List Int) (nK nC : Bool) (cK zK cC zC : Nat) (x0 y0 x1 y1 : Int) : (M11 k r d v lK ks lC cs nK nC cK zK cC zC x0 y0 x1 y1).isSome = true := by cases nK <;> cases nC <;> kernel_rfl
theorem sm11 (k r d v : Int) (lK : Nat) (ks : List Int) (lC : Nat) (cs : List Int) (nK nC : Bool) (cK zK cC zC : Nat) (x0 y0 x1 y1 : Int) : samesL (orNil (M11 k r d v lK ks lC cs nK nC cK zK cC zC x0 y0 x1 y1)) = samesR (orNil (M11 k r d v lK ks lC cs nK nC cK zK cC zC x0 y0 x1 y1)) := by cases nK <;> cases nC <;> kernel_rfl
theorem hr11 (k r d v : Int) (lK : Nat) (ks : List Int) (lC : Nat) (cs : List Int) (nK nC : Bool) (cK zK cC zC : Nat) (x0 y0 x1 y1 : Int) : tells (retOf Try.prog (cfS S11) 1000 Try.f28) (orNil (M11 k r d v lK ks lC cs nK nC cK zK cC zC x0 y0 x1 y1)) = [([], fa20 (ln nK lK) (rw' nK ks) (ln nC lC) (rw' nC cs), some (rectV (areaQ (validB k r d v (ln nK lK) (rw' nK ks) (ln nC lC) (rw' nC cs)) k r v x0 y0 x1 y1 1)))] := by cases nK <;> cases nC <;> kernel_rfl
theorem p11 : PureA Try.prog 28 (specF (RN 1)) := by
  refine pureF S11_ok (Nat.le_of_ble_eq_true (by kernel_rfl)) Try.func28 (code := bodyOf Try.f28) (by kernel_rfl) (fun k r d v lK ks lC cs X u e => ?_) (fun k r d v lK ks lC cs X u nK nC cK zK cC zC e h1 h2 h3 h4 w0 => ?_)
  · unfold RN at e
    split at e
    · simp only [Option.some.injEq] at e; subst e
      exact ⟨rfl, rfl, by kernel_rfl⟩
    · cases e
  · unfold RN at e
    split at e
    · rename_i x0 y0 x1 y1
      simp only [Option.some.injEq] at e; subst e
      exact T_ret (cS S11_ok) mo _ 1000 Try.f28 _ _ (by kernel_rfl) (ok11 k r d v lK ks lC cs nK nC cK zK cC zC x0 y0 x1 y1) (sm11 k r d v lK ks lC cs nK nC cK zK cC zC x0 y0 x1 y1) (hr11 k r d v lK ks lC cs nK nC cK zK cC zC x0 y0 x1 y1) (oneG (fa20_ok h1 h2 h3 h4))
    · cases e
noncomputable abbrev M12 (k r d v : Int) (lK : Nat) (ks : List Int) (lC : Nat) (cs : List Int) (nK nC : Bool) (cK zK cC zC : Nat) (x0 y0 x1 y1 : Int) := codeM Try.prog S11 cf0 [] 1000 (bodyOf Try.f29) (startSt (FV k r (sK nK lK cK zK) d v (sC nC lC cC zC) :: [rc4 x0 y0 x1 y1]) (hF nK nC ks cs) 2)
theorem ok12 (k r d v : Int) (lK : Nat) (ks : List Int) (lC : Nat) (cs : List Int) (nK nC : Bool) (cK zK cC zC : Nat) (x0 y0 x1 y1 : Int) : (M12 k r d v lK ks lC cs nK nC cK zK cC zC x0 y0 x1 y1).isSome = true := by cases nK <;> cases nC <;> kernel_rfl
theorem sm12 (k r d v : Int) (lK : Nat) (ks : List Int) (lC : Nat) (cs : List Int) (nK nC : Bool) (cK zK cC zC : Nat) (x0 y0 x1 y1 : Int) : samesL (orNil (M12 k r d v lK ks lC cs nK nC cK zK cC zC x0 y0 x1 y1)) = samesR (orNil (M12 k r d v lK ks lC cs nK nC cK zK cC zC x0 y0 x1 y1)) := by cases nK <;> cases nC <;> kernel_rfl
theorem hr12 (k r d v : Int) (lK : Nat) (ks : List Int) (lC : Nat) (cs : List Int) (nK nC : Bool) (cK zK cC zC : Nat) (x0 y0 x1 y1 : Int) : tells (retOf Try.prog (cfS S11) 1000 Try.f29) (orNil (M12 k r d v lK ks lC cs nK nC cK zK cC zC x0 y0 x1 y1)) = [([], fa20 (ln nK lK) (rw' nK ks) (ln nC lC) (rw' nC cs), some (rectV (areaQ (validB k r d v (ln nK lK) (rw' nK ks) (ln nC lC) (rw' nC cs)) k r v x0 y0 x1 y1 1)))] := by cases nK <;> cases nC <;> kernel_rfl
theorem p12 : PureA Try.prog 29 (specF (RN 1)) := by
  refine pureF S11_ok (Nat.le_of_ble_eq_true (by kernel_rfl)) Try.func29 (code := bodyOf Try.f29) (by kernel_rfl) (fun k r d v lK ks lC cs X u e => ?_) (fun k r d v lK ks lC cs X u nK nC cK zK cC zC e h1 h2 h3 h4 w0 => ?_)
  · unfold RN at e
    split at e
    · simp only [Option.some.injEq] at e; subst e
      exact ⟨rfl, rfl, by kernel_rfl⟩
    · cases e
  · unfold RN at e
    split at e
    · rename_i x0 y0 x1 y1
      simp only [Option.some.injEq] at e; subst e
      exact T_ret (cS S11_ok) mo _ 1000 Try.f29 _ _ (by kernel_rfl) (ok12 k r d v lK ks lC cs nK nC cK zK cC zC x0 y0 x1 y1) (sm12 k r d v lK ks lC cs nK nC cK zK cC zC x0 y0 x1 y1) (hr12 k r d v lK ks lC cs nK nC cK zK cC zC x0 y0 x1 y1) (oneG (fa20_ok h1 h2 h3 h4))
    · cases e
abbrev S12 : Ctr := addS 29 (specF (RN 1)) (addS 28 (specF (RN 1)) (addS 27 (specF (RN (-1))) (addS 26 (specF (RN (-1))) S11)))
theorem S12_ok : CtrOk Try.prog S12 := addS_ok p12 (addS_ok p11 (addS_ok p10 (addS_ok p9 S11_ok)))
def insideB (a0 b0 a1 b1 c0 d0 c1 d1 : Int) : Bool := emptyB a0 b0 a1 b1 || (decide (c0 ≤ a0) && (decide (a1 ≤ c1) && (decide (d0 ≤ b0) && decide (b1 ≤ d1))))
def spec13 : List V → Tr O → Option (List Prop × V)
  | [.agg [.int .i64 a0, .int .i64 b0, .int .i64 a1, .int .i64 b1], .agg [.int .i64 c0, .int .i64 d0, .int .i64 c1, .int .i64 d1]], _ => some ([], .bool (insideB a0 b0 a1 b1 c0 d0 c1 d1))
  | _, _ => none
theorem ok13 (a0 : Int) (b0 : Int) (a1 : Int) (b1 : Int) (c0 : Int) (d0 : Int) (c1 : Int) (d1 : Int) : funOk Try.prog S12 cf0 [(7, .split), (14, .split), (20, .split), (27, .split)] 1000 (bodyOf Try.f30) [.agg [.int .i64 a0, .int .i64 b0, .int .i64 a1, .int .i64 b1], .agg [.int .i64 c0, .int .i64 d0, .int .i64 c1, .int .i64 d1]] .nil 0 = true := by kernel_rfl
theorem sm13 (a0 : Int) (b0 : Int) (a1 : Int) (b1 : Int) (c0 : Int) (d0 : Int) (c1 : Int) (d1 : Int) : samesL (funM Try.prog S12 cf0 [(7, .split), (14, .split), (20, .split), (27, .split)] 1000 (bodyOf Try.f30) [.agg [.int .i64 a0, .int .i64 b0, .int .i64 a1, .int .i64 b1], .agg [.int .i64 c0, .int .i64 d0, .int .i64 c1, .int .i64 d1]] .nil 0) = samesR (funM Try.prog S12 cf0 [(7, .split), (14, .split), (20, .split), (27, .split)] 1000 (bodyOf Try.f30) [.agg [.int .i64 a0, .int .i64 b0, .int .i64 a1, .int .i64 b1], .agg [.int .i64 c0, .int .i64 d0, .int .i64 c1, .int .i64 d1]] .nil 0) := by kernel_rfl
theorem hr13 (a0 : Int) (b0 : Int) (a1 : Int) (b1 : Int) (c0 : Int) (d0 : Int) (c1 : Int) (d1 : Int) : tells (retOf Try.prog (joinA S12 cf0) 1000 Try.f30) (funM Try.prog S12 cf0 [(7, .split), (14, .split), (20, .split), (27, .split)] 1000 (bodyOf Try.f30) [.agg [.int .i64 a0, .int .i64 b0, .int .i64 a1, .int .i64 b1], .agg [.int .i64 c0, .int .i64 d0, .int .i64 c1, .int .i64 d1]] .nil 0) =
    [([(emptyB a0 b0 a1 b1, true)], [], some (.bool true)), ([(emptyB a0 b0 a1 b1, false), (decide (c0 ≤ a0), true), (decide (a1 ≤ c1), true), (decide (d0 ≤ b0), true)], [], some (.bool (decide (b1 ≤ d1)))), ([(emptyB a0 b0 a1 b1, false), (decide (c0 ≤ a0), true), (decide (a1 ≤ c1), true), (decide (d0 ≤ b0), false)], [], some (.bool false)), ([(emptyB a0 b0 a1 b1, false), (decide (c0 ≤ a0), true), (decide (a1 ≤ c1), false)], [], some (.bool false)), ([(emptyB a0 b0 a1 b1, false), (decide (c0 ≤ a0), false)], [], some (.bool false))] := by kernel_rfl
theorem p13 : PureA Try.prog 30 spec13 := by
  refine ⟨Nat.le_of_ble_eq_true (by kernel_rfl), fun args h A v e => ?_⟩
  unfold spec13 at e
  split at e
  · rename_i a0 b0 a1 b1 c0 d0 c1 d1
    simp only [Option.some.injEq, Prod.mk.injEq] at e; obtain ⟨rfl, rfl⟩ := e
    refine ⟨by kernel_rfl, fun _ E_ n_ w_ args_ ra_ g_ hd_ hc_ => calls_tells mo po S12_ok cf0_ok Try.func30 (by kernel_rfl) (by kernel_rfl) ra_ (by kernel_rfl) _ (ok13 a0 b0 a1 b1 c0 d0 c1 d1) (sm13 a0 b0 a1 b1 c0 d0 c1 d1) (hr13 a0 b0 a1 b1 c0 d0 c1 d1) ?_⟩
    intro g hg hc; simp only [List.mem_cons, List.not_mem_nil, or_false] at hg; rcases hg with rfl | rfl | rfl | rfl | rfl <;> simp only [List.mem_cons, List.not_mem_nil, or_false, forall_eq_or_imp, forall_eq] at hc <;> refine ⟨by simp, ?_⟩ <;> simp only [insideB, hc, Bool.true_or, Bool.false_or, Bool.true_and, Bool.false_and]
  · cases e
abbrev S13 : Ctr := addS 30 spec13 S12
theorem S13_ok : CtrOk Try.prog S13 := addS_ok p13 S12_ok
end Go.Proofs.Ytadejpmecljjpaa
