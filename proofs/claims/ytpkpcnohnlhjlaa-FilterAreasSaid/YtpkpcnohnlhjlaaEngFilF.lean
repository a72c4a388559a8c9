/- Filter laws, part F: functions of a filter: the forms, chains of tests; plain, window. No conditions. -/
import Derived.Test.YtpkpcnohnlhjlaaEngFilE
namespace Go.Proofs.Ytpkpcnohnlhjlaa
open Go Go.Eng

/-! ### chains of tests -/
def chG : List (Bool × Bool) → List Prop → List (List Prop × Bool) → List (List (Bool × Bool) × List Prop × Option V)
  | acc, az, [] => [(acc, az, some (.bool true))]
  | acc, az, x :: r => chG (acc ++ [(x.2, true)]) (az ++ x.1) r ++ [(acc ++ [(x.2, false)], az ++ x.1, some (.bool false))]
def chB : List (List Prop × Bool) → Bool
  | [] => true
  | x :: r => x.2 && chB r

theorem chG_ok : ∀ (l : List (List Prop × Bool)) (acc : List (Bool × Bool)) (az : List Prop), (∀ a ∈ az, a) → (∀ x ∈ l, ∀ a ∈ x.1, a) → ∀ g ∈ chG acc az l, (∀ b ∈ g.1, b.1 = b.2) → (∀ a ∈ g.2.1, a) ∧ g.2.2 = some (.bool (chB l))
  | [], acc, az, ha, _, g, hg, hc => by
    simp only [chG, List.mem_singleton] at hg; subst hg
    exact ⟨ha, rfl⟩
  | x :: r, acc, az, ha, hl, g, hg, hc => by
    have has : ∀ a ∈ az ++ x.1, a := fun a h => (List.mem_append.1 h).elim (ha a) (hl x (by simp) a)
    simp only [chG, List.mem_append, List.mem_singleton] at hg
    rcases hg with hg | rfl
    · obtain ⟨k1, k2⟩ := chG_ok r _ _ has (fun y hy => hl y (by simp [hy])) g hg hc
      refine ⟨k1, ?_⟩
      have hx : x.2 = true := by
        have mem : ∀ (l : List (List Prop × Bool)) (acc : List (Bool × Bool)) (az : List Prop) (g), g ∈ chG acc az l → ∀ b ∈ acc, b ∈ g.1 := by
          intro l
          induction l with
          | nil => intro acc az g hg b hb; simp only [chG, List.mem_singleton] at hg; subst hg; exact hb
          | cons y l ih =>
            intro acc az g hg b hb
            simp only [chG, List.mem_append, List.mem_singleton] at hg
            rcases hg with hg | rfl
            · exact ih _ _ g hg b (by simp [hb])
            · simp [hb]
        exact hc (x.2, true) (mem r _ _ g hg _ (by simp))
      rw [k2]; simp only [chB, hx, Bool.true_and]
    · have hx : x.2 = false := hc (x.2, false) (by simp)
      exact ⟨has, by simp only [chB, hx, Bool.false_and]⟩

/-! ### a filter as an argument -/
abbrev FV (k r : Int) (sK : V) (d v : Int) (sC : V) : V := .agg [.int .i64 k, .int .i64 r, sK, .int .i64 d, .int .i64 v, sC]
abbrev RF := Int → Int → Int → Int → Nat → List Int → Nat → List Int → List V → Option V
def specF (R : RF) : List V → Tr O → Option (List Prop × V)
  | .agg [.int .i64 k, .int .i64 r, sK, .int .i64 d, .int .i64 v, sC] :: X, h => match rowOf h sK with
    | some (lK, ks) => match rowOf h sC with
      | some (lC, cs) => match R k r d v lK ks lC cs X with
        | some u => some ([lK ≤ ks.length, lK ≤ 1000, lC ≤ cs.length, lC ≤ 1000], u)
        | none => none
      | none => none
    | none => none
  | _, _ => none

abbrev sK (nil : Bool) (l c z : Nat) : V := match nil with | true => .slc none 0 c z | false => .slc (some (0, 0)) l c 1
abbrev sC (nil : Bool) (l c z : Nat) : V := match nil with | true => .slc none 0 c z | false => .slc (some (1, 0)) l c 1
abbrev rO (nil : Bool) (ks : List Int) : Option (List Int) := match nil with | true => none | false => some ks
abbrev hF (nK nC : Bool) (ks cs : List Int) : Tr O := twoH (rowO (rO nK ks)) (rowO (rO nC cs))
abbrev ln (nil : Bool) (l : Nat) : Nat := match nil with | true => 0 | false => l
abbrev rw' (nil : Bool) (ks : List Int) : List Int := match nil with | true => [] | false => ks

theorem frees_noE {E E' : Env} {X : List V} {ys : List Value} (h : V.frees X = true) (r : vrels E X ys) : vrels E' X ys := frees_rel _ _ h r

theorem filter_rel {E E' : Env} {k r d v : Int} {a b a' b' : V} {x : Value} (ha : ∀ y, vrel E a y → vrel E' a' y) (hb : ∀ y, vrel E b y → vrel E' b' y) (h : vrel E (FV k r a d v b) x) : vrel E' (FV k r a' d v b') x := by
  obtain ⟨cs', h, rfl⟩ := h
  obtain ⟨y1, t1, r1, h, rfl⟩ := h
  obtain ⟨y2, t2, r2, h, rfl⟩ := h
  obtain ⟨y3, t3, r3, h, rfl⟩ := h
  obtain ⟨y4, t4, r4, h, rfl⟩ := h
  obtain ⟨y5, t5, r5, h, rfl⟩ := h
  obtain ⟨y6, t6, r6, h, rfl⟩ := h
  exact ⟨_, ⟨y1, _, r1, ⟨y2, _, r2, ⟨y3, _, ha _ r3, ⟨y4, _, r4, ⟨y5, _, r5, ⟨y6, _, hb _ r6, h, rfl⟩, rfl⟩, rfl⟩, rfl⟩, rfl⟩, rfl⟩, rfl⟩

/-- a contract of a function of a filter, from its code at filters by our own names -/
theorem pureF {S : Ctr} (hS : CtrOk Try.prog S) {f : FuncId} {fn : Func} {code : Code} (hlt : f < Try.prog.funcs.size) (hf : Try.prog.funcs[f]? = some fn) (hb : fn.body = some code) {R : RF}
    (hX : ∀ k r d v lK ks lC cs X u, R k r d v lK ks lC cs X = some u → u.free = true ∧ V.frees X = true ∧ (Nat.ble (X.length + 1) fn.ntmps && Nat.blt fn.ntmps top) = true)
    (run : ∀ k r d v lK ks lC cs X u (nK nC : Bool) cK zK cC zC, R k r d v (ln nK lK) (rw' nK ks) (ln nC lC) (rw' nC cs) X = some u → ln nK lK ≤ (rw' nK ks).length → ln nK lK ≤ 1000 → ln nC lC ≤ (rw' nC cs).length → ln nC lC ≤ 1000 →
      ∀ w0, T Try.prog fn.ntmps w0 code (startSt (FV k r (sK nK lK cK zK) d v (sC nC lC cC zC) :: X) (hF nK nC ks cs) 2) (RetQ Try.prog (cfS S) 1000 fn u)) : PureA Try.prog f (specF R) := by
  refine ⟨hlt, fun args h A u e => ?_⟩
  unfold specF at e
  split at e
  · rename_i k r vK d v vC X
    split at e
    · rename_i lK ks hrK
      split at e
      · rename_i lC cs hrC
        split at e
        · rename_i u' hR
          simp only [Option.some.injEq, Prod.mk.injEq] at e; obtain ⟨rfl, rfl⟩ := e
          obtain ⟨hu, hfX, hlen⟩ := hX _ _ _ _ _ _ _ _ _ _ hR
          refine ⟨hu, fun hA E n w args' ra g hd _ => ?_⟩
          have h1 : lK ≤ ks.length := hA _ (by simp)
          have h2 : lK ≤ 1000 := hA (lK ≤ 1000) (by simp)
          have h3 : lC ≤ cs.length := hA _ (by simp)
          have h4 : lC ≤ 1000 := hA (lC ≤ 1000) (by simp)
          obtain ⟨y, ys, r0, rs, rfl⟩ := ra
          simp only [Bool.and_eq_true] at hlen
          have fin : ∀ (nK nC : Bool) (cK zK cC zC : Nat) (E1 : Env), ln nK lK = lK → rw' nK ks = ks → ln nC lC = lC → rw' nC cs = cs → Eng.Good E1 (hF nK nC ks cs) w → Dom E1 2 → (∀ m, ¬ wlive (hF nK nC ks cs) m) → vrel E1 (FV k r (sK nK lK cK zK) d v (sC nC lC cC zC)) y →
              Calls Try.prog f (y :: ys).toArray w fun e w' => (∃ E', outrel E' (.ret u') e) ∧ RowKit.Below w.heap.size w w' := by
            intro nK nC cK zK cC zC E1 e1 e2 e3 e4 g2 d2 n2 r2
            exact calls_of_TE (F := 1000) mo po (cS hS) hf hb g2 d2 n2 (args := FV k r (sK nK lK cK zK) d v (sC nC lC cC zC) :: X) ⟨y, ys, r2, frees_rel _ _ hfX rs, rfl⟩ (by simpa using Nat.le_of_ble_eq_true hlen.1) (Nat.le_of_ble_eq_true hlen.2)
              (run k r d v lK ks lC cs X u' nK nC cK zK cC zC (by rw [e1, e2, e3, e4]; exact hR) (by rw [e1, e2]; exact h1) (by rw [e1]; exact h2) (by rw [e3, e4]; exact h3) (by rw [e3]; exact h4) w)
          rcases rowOf_cases hrK with ⟨c, z, rfl, rfl, rfl⟩ | ⟨m, c, rfl, hm⟩ <;> rcases rowOf_cases hrC with ⟨c', z', rfl, rfl, rfl⟩ | ⟨m', c', rfl, hm'⟩
          · obtain ⟨g2, d2, n2⟩ := two_ok (a := none) (b := none) (x := none) (y := none) g (fun k e => by cases e) (fun k e => by cases e)
            exact fin true true c z c' z' _ rfl rfl rfl rfl g2 d2 n2 (filter_rel (E := E) (E' := E.two none none) (a := .slc none 0 c z) (a' := .slc none 0 c z) (b := .slc none 0 c' z') (b' := .slc none 0 c' z') (fun _ q => q) (fun _ q => q) r0)
          · obtain ⟨g2, d2, n2⟩ := two_ok (a := none) (b := some m') (x := none) (y := some cs) g (fun k e => by cases e) (fun k e => by cases e; exact ⟨m', rfl, hm'⟩)
            exact fin true false c z c' 0 _ rfl rfl rfl rfl g2 d2 n2 (filter_rel (E := E) (E' := E.two none (some m')) (a := .slc none 0 c z) (a' := .slc none 0 c z) (b := .slc (some (m', 0)) lC c' 1) (b' := .slc (some (1, 0)) lC c' 1) (fun _ q => q) (fun _ q => two_slc1 q) r0)
          · obtain ⟨g2, d2, n2⟩ := two_ok (a := some m) (b := none) (x := some ks) (y := none) g (fun k e => by cases e; exact ⟨m, rfl, hm⟩) (fun k e => by cases e)
            exact fin false true c 0 c' z' _ rfl rfl rfl rfl g2 d2 n2 (filter_rel (E := E) (E' := E.two (some m) none) (a := .slc (some (m, 0)) lK c 1) (a' := .slc (some (0, 0)) lK c 1) (b := .slc none 0 c' z') (b' := .slc none 0 c' z') (fun _ q => two_slc0 q) (fun _ q => q) r0)
          · obtain ⟨g2, d2, n2⟩ := two_ok (a := some m) (b := some m') (x := some ks) (y := some cs) g (fun k e => by cases e; exact ⟨m, rfl, hm⟩) (fun k e => by cases e; exact ⟨m', rfl, hm'⟩)
            exact fin false false c 0 c' 0 _ rfl rfl rfl rfl g2 d2 n2 (filter_rel (E := E) (E' := E.two (some m) (some m')) (a := .slc (some (m, 0)) lK c 1) (a' := .slc (some (0, 0)) lK c 1) (b := .slc (some (m', 0)) lC c' 1) (b' := .slc (some (1, 0)) lC c' 1) (fun _ q => two_slc0 q) (fun _ q => two_slc1 q) r0)
        · cases e
      · cases e
    · cases e
  · cases e

/-! ### plain -/
def tst (b : Bool) (l : List (List Prop × Bool)) : List (List Prop × Bool) := match b with | true => [] | false => l
def ch37 (b1 b2 b3 b4 : Bool) (r d v : Int) (lK lC : Nat) : List (List Prop × Bool) :=
  tst b1 [([], decide (Int.ofNat lK = 0)), ([], decide (d = 0))] ++ (tst b2 [([], decide (v = 0))] ++ (tst b3 [([], decide (Int.ofNat lC = 0))] ++ tst b4 [([], decide (r = 0))]))
def plainB (b1 b2 b3 b4 : Bool) (r d v : Int) (lK lC : Nat) : Bool := chB (ch37 b1 b2 b3 b4 r d v lK lC)
def R37 : RF := fun _ r d v lK _ lC _ X => match X with
  | [.bool b1, .bool b2, .bool b3, .bool b4] => some (.bool (plainB b1 b2 b3 b4 r d v lK lC))
  | _ => none
abbrev H37 : List (Nat × Fix) := [(16, .split), (20, .split), (28, .split), (37, .split), (45, .split)]
noncomputable abbrev M37 (k r d v : Int) (lK : Nat) (ks : List Int) (lC : Nat) (cs : List Int) (nK nC : Bool) (cK zK cC zC : Nat) (b1 b2 b3 b4 : Bool) := codeM Try.prog S8 cf0 H37 1000 (bodyOf Try.f37) (startSt [FV k r (sK nK lK cK zK) d v (sC nC lC cC zC), .bool b1, .bool b2, .bool b3, .bool b4] (hF nK nC ks cs) 2)
theorem ok37 (k r d v : Int) (lK : Nat) (ks : List Int) (lC : Nat) (cs : List Int) (nK nC : Bool) (cK zK cC zC : Nat) (b1 b2 b3 b4 : Bool) : (M37 k r d v lK ks lC cs nK nC cK zK cC zC b1 b2 b3 b4).isSome = true := by
  cases b1 <;> cases b2 <;> cases b3 <;> cases b4 <;> cases nK <;> cases nC <;> kernel_rfl
theorem sm37 (k r d v : Int) (lK : Nat) (ks : List Int) (lC : Nat) (cs : List Int) (nK nC : Bool) (cK zK cC zC : Nat) (b1 b2 b3 b4 : Bool) : samesL (orNil (M37 k r d v lK ks lC cs nK nC cK zK cC zC b1 b2 b3 b4)) = samesR (orNil (M37 k r d v lK ks lC cs nK nC cK zK cC zC b1 b2 b3 b4)) := by
  cases b1 <;> cases b2 <;> cases b3 <;> cases b4 <;> cases nK <;> cases nC <;> kernel_rfl
theorem hr37 (k r d v : Int) (lK : Nat) (ks : List Int) (lC : Nat) (cs : List Int) (nK nC : Bool) (cK zK cC zC : Nat) (b1 b2 b3 b4 : Bool) : tells (retOf Try.prog (cfS S8) 1000 Try.f37) (orNil (M37 k r d v lK ks lC cs nK nC cK zK cC zC b1 b2 b3 b4)) = chG [] [] (ch37 b1 b2 b3 b4 r d v (ln nK lK) (ln nC lC)) := by
  cases b1 <;> cases b2 <;> cases b3 <;> cases b4 <;> cases nK <;> cases nC <;> kernel_rfl

theorem ch37_free (b1 b2 b3 b4 : Bool) (r d v : Int) (lK lC : Nat) : ∀ x ∈ ch37 b1 b2 b3 b4 r d v lK lC, ∀ a ∈ x.1, a := by
  intro x hx
  have : x.1 = [] := by
    unfold ch37 at hx
    cases b1 <;> cases b2 <;> cases b3 <;> cases b4 <;> simp only [tst, List.append_nil, List.nil_append, List.cons_append, List.mem_cons, List.not_mem_nil, or_false] at hx <;> (first | exact hx.elim | (rcases hx with rfl | rfl | rfl | rfl | rfl <;> rfl) | (rcases hx with rfl | rfl | rfl | rfl <;> rfl) | (rcases hx with rfl | rfl | rfl <;> rfl) | (rcases hx with rfl | rfl <;> rfl) | (subst hx; rfl))
  rw [this]; intro a ha; simp at ha

theorem p37 : PureA Try.prog 37 (specF R37) := by
  refine pureF S8_ok (Nat.le_of_ble_eq_true (by kernel_rfl)) Try.func37 (code := bodyOf Try.f37) (by kernel_rfl) (fun k r d v lK ks lC cs X u e => ?_) (fun k r d v lK ks lC cs X u nK nC cK zK cC zC e h1 h2 h3 h4 w0 => ?_)
  · unfold R37 at e
    split at e
    · simp only [Option.some.injEq] at e; subst e
      exact ⟨rfl, rfl, by kernel_rfl⟩
    · cases e
  · unfold R37 at e
    split at e
    · rename_i b1 b2 b3 b4
      simp only [Option.some.injEq] at e; subst e
      exact T_ret (cS S8_ok) mo H37 1000 Try.f37 _ _ (by kernel_rfl) (ok37 k r d v lK ks lC cs nK nC cK zK cC zC b1 b2 b3 b4) (sm37 k r d v lK ks lC cs nK nC cK zK cC zC b1 b2 b3 b4) (hr37 k r d v lK ks lC cs nK nC cK zK cC zC b1 b2 b3 b4) (chG_ok _ [] [] (by simp) (ch37_free b1 b2 b3 b4 r d v (ln nK lK) (ln nC lC)))
    · cases e

/-! ### window -/
def R48 : RF := fun k _ _ _ _ _ _ _ X => match X with
  | [] => some (.bool (within k 1 4))
  | _ => none
noncomputable abbrev M48 (k r d v : Int) (lK : Nat) (ks : List Int) (lC : Nat) (cs : List Int) (nK nC : Bool) (cK zK cC zC : Nat) := codeM Try.prog S8 cf0 [(5, .split), (9, .split)] 1000 (bodyOf Try.f48) (startSt [FV k r (sK nK lK cK zK) d v (sC nC lC cC zC)] (hF nK nC ks cs) 2)
theorem ok48 (k r d v : Int) (lK : Nat) (ks : List Int) (lC : Nat) (cs : List Int) (nK nC : Bool) (cK zK cC zC : Nat) : (M48 k r d v lK ks lC cs nK nC cK zK cC zC).isSome = true := by cases nK <;> cases nC <;> kernel_rfl
theorem sm48 (k r d v : Int) (lK : Nat) (ks : List Int) (lC : Nat) (cs : List Int) (nK nC : Bool) (cK zK cC zC : Nat) : samesL (orNil (M48 k r d v lK ks lC cs nK nC cK zK cC zC)) = samesR (orNil (M48 k r d v lK ks lC cs nK nC cK zK cC zC)) := by cases nK <;> cases nC <;> kernel_rfl
theorem hr48 (k r d v : Int) (lK : Nat) (ks : List Int) (lC : Nat) (cs : List Int) (nK nC : Bool) (cK zK cC zC : Nat) : tells (retOf Try.prog (cfS S8) 1000 Try.f48) (orNil (M48 k r d v lK ks lC cs nK nC cK zK cC zC)) = chG [] [] [([], decide (k ≥ 1)), ([], decide (k ≤ 4))] := by cases nK <;> cases nC <;> kernel_rfl
theorem p48 : PureA Try.prog 48 (specF R48) := by
  refine pureF S8_ok (Nat.le_of_ble_eq_true (by kernel_rfl)) Try.func48 (code := bodyOf Try.f48) (by kernel_rfl) (fun k r d v lK ks lC cs X u e => ?_) (fun k r d v lK ks lC cs X u nK nC cK zK cC zC e h1 h2 h3 h4 w0 => ?_)
  · unfold R48 at e
    split at e
    · simp only [Option.some.injEq] at e; subst e
      exact ⟨rfl, rfl, by kernel_rfl⟩
    · cases e
  · unfold R48 at e
    split at e
    · simp only [Option.some.injEq] at e; subst e
      have : within k 1 4 = chB [([], decide (k ≥ 1)), ([], decide (k ≤ 4))] := by simp [within, chB]
      rw [this]
      exact T_ret (cS S8_ok) mo _ 1000 Try.f48 _ _ (by kernel_rfl) (ok48 k r d v lK ks lC cs nK nC cK zK cC zC) (sm48 k r d v lK ks lC cs nK nC cK zK cC zC) (hr48 k r d v lK ks lC cs nK nC cK zK cC zC) (chG_ok _ [] [] (by simp) (by simp))
    · cases e

abbrev S9 : Ctr := addS 48 (specF R48) (addS 37 (specF R37) S8)
theorem S9_ok : CtrOk Try.prog S9 := addS_ok p48 (addS_ok p37 S8_ok)
end Go.Proofs.Ytpkpcnohnlhjlaa
