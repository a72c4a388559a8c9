/- The engine, part F: comparisons, arithmetic, conversions, parts of values. No conditions: lemmas alone. -/
import Derived.Test.YtljiongmhoooiaaEngE
namespace Go.Eng
open Go

section
variable {P : Program} {E : Env} {h : Tr O} {n : Nat} {w : World}

theorem part_rel {t : TypeId} {cs : List V} {cs' : Array Value} {off : Nat} {v : V} (r : vrels E cs cs'.toList) (e : partV P t cs off = some v) :
    ∃ v', (part t cs' off).run P w = .ok v' w ∧ vrel E v v' := by
  unfold partV readAt at e
  have hl := vrels_length r
  simp only [Array.length_toList] at hl
  split at e
  · rename_i ha
    cases hs : szof P t with
    | none => simp [hs] at e
    | some k =>
      simp only [hs] at e
      cases hc : cut cs off k with
      | none => simp [hc] at e
      | some x =>
        simp only [hc, Option.map_some, Option.some.injEq] at e; subst e
        obtain ⟨h1, rfl⟩ := cut_eq hc
        refine ⟨.agg (cs'.extract off (off + k)), by simp [part, run_isAgg ha, run_sizeOf' hs], (cs'.toList.drop off).take k, vrels_take (vrels_drop r), ?_⟩
        congr 1
        apply Array.ext'
        simp [List.extract_eq_take_drop]
  · rename_i ha
    obtain ⟨v', h1, h2⟩ := vrels_get r off v e
    refine ⟨v', ?_, h2⟩
    rw [Array.getElem?_toList] at h1
    simp [part, run_isAgg ha, h1]
  · cases e

end

def V.tag : V → Nat
  | .bool _ => 0 | .int _ _ => 1 | .str _ => 2 | .ptr _ => 3 | .slc _ _ _ _ => 4 | .map _ => 5 | .fn _ _ _ => 6 | .nilFn => 7 | .iface _ _ => 8 | .nilIface => 9 | .agg _ => 10 | .tup _ => 11
def tagOf : Value → Nat
  | .bool _ => 0 | .int _ _ => 1 | .string _ => 2 | .pointer _ => 3 | .slice _ _ _ => 4 | .map _ => 5 | .func _ _ _ => 6 | .nilFunc => 7 | .iface _ _ => 8 | .nilIface => 9 | .agg _ => 10 | .tuple _ => 11
  | .float _ _ => 12 | .complex _ _ _ => 13 | .chan _ => 14

theorem vrel_tag {E : Env} : ∀ {x : V} {v : Value}, vrel E x v → x.tag = tagOf v := by
  intro x v r
  cases x with
  | agg cs => obtain ⟨cs', _, rfl⟩ := r; rfl
  | tup cs => obtain ⟨cs', _, rfl⟩ := r; rfl
  | bool b => simp only [vrel] at r; subst r; rfl
  | int k n => simp only [vrel] at r; subst r; rfl
  | str s => simp only [vrel] at r; subst r; rfl
  | ptr a => cases a <;> simp only [vrel] at r; · subst r; rfl
             · obtain ⟨b, s, _, rfl⟩ := r; rfl
  | slc a l c e => cases a <;> simp only [vrel] at r; · obtain ⟨_, _, rfl⟩ := r; rfl
                   · obtain ⟨b, s, _, _, _, _, _, _, _, rfl⟩ := r; rfl
  | map a => cases a <;> simp only [vrel] at r; · subst r; rfl
             · obtain ⟨b, _, rfl⟩ := r; rfl
  | fn f a c => obtain ⟨_, _, _, _, rfl⟩ := r; rfl
  | nilFn => simp only [vrel] at r; subst r; rfl
  | iface t x => obtain ⟨_, _, rfl⟩ := r; rfl
  | nilIface => simp only [vrel] at r; subst r; rfl

theorem vrel_int_inv {E : Env} {x : V} {k : IntKind} {m : Int} (r : vrel E x (.int k m)) : x = .int k m := by
  have t := vrel_tag r
  cases x <;> simp [V.tag, tagOf] at t
  simp only [vrel] at r; cases r; rfl
theorem vrel_str_inv {E : Env} {x : V} {s : ByteArray} (r : vrel E x (.string s)) : ∃ l, x = .str l := by
  have t := vrel_tag r
  cases x <;> simp [V.tag, tagOf] at t
  exact ⟨_, rfl⟩
theorem vrel_no_float {E : Env} {x : V} {k : FloatKind} {m : Nat} (r : vrel E x (.float k m)) : False := by
  have t := vrel_tag r
  cases x <;> simp [V.tag, tagOf] at t
theorem vrel_no_complex {E : Env} {x : V} {k : FloatKind} {m m' : Nat} (r : vrel E x (.complex k m m')) : False := by
  have t := vrel_tag r
  cases x <;> simp [V.tag, tagOf] at t

theorem binOp_eq {E : Env} {x y : V} {x' y' : Value} {t : TypeId} (rx : vrel E x x') (ry : vrel E y y') (hi : ∀ k m k' m', ¬ (x = .int k m ∧ y = .int k' m')) (hs : ∀ s u, ¬ (x = .str s ∧ y = .str u)) :
    binOp .eql t x' y' = (do pure (.bool (← Op.equal t x' y'))) ∧ binOp .neq t x' y' = (do pure (.bool (!(← Op.equal t x' y')))) := by
  cases x' <;> cases y' <;> first
    | exact ⟨rfl, rfl⟩
    | exact absurd ⟨vrel_int_inv rx, vrel_int_inv ry⟩ (hi _ _ _ _)
    | exact (vrel_no_float rx).elim
    | exact (vrel_no_complex rx).elim
    | (obtain ⟨l, e1⟩ := vrel_str_inv rx; obtain ⟨l', e2⟩ := vrel_str_inv ry; exact absurd ⟨e1, e2⟩ (hs _ _))

section
variable {P : Program} {E : Env} {h : Tr O} {n : Nat} {w : World}

theorem eqFields_rel {d : Nat} {eq : TypeId → V → V → Option Bool} (ih : ∀ t x y x' y' r, eq t x y = some r → vrel E x x' → vrel E y y' → (Op.equalIn d t x' y').run P w = .ok r w)
    {xs ys : List V} {xs' ys' : Array Value} (rx : vrels E xs xs'.toList) (ry : vrels E ys ys'.toList) : ∀ (fs : List Field) (r : Bool), eqFields P eq fs xs ys = some r → (Op.eqFields d xs' ys' fs).run P w = .ok r w
  | [], r, e => by simp only [eqFields, Option.some.injEq] at e; subst e; rfl
  | f :: fs, r, e => by
    simp only [eqFields] at e
    simp only [Op.eqFields]
    split at e
    · rename_i hne
      rw [if_pos hne]
      cases h1 : partV P f.type xs f.offset with
      | none => simp [h1] at e
      | some a => cases h2 : partV P f.type ys f.offset with
        | none => simp [h1, h2] at e
        | some b =>
          simp only [h1, h2] at e
          obtain ⟨a', p1, p2⟩ := part_rel (P := P) (w := w) rx h1
          obtain ⟨b', q1, q2⟩ := part_rel (P := P) (w := w) ry h2
          cases h3 : eq f.type a b with
          | none => simp [h3] at e
          | some c =>
            have hr := ih _ _ _ _ _ _ h3 p2 q2
            simp only [Sem.run_bind, p1, q1, Result.andThen_ok, hr]
            cases c with
            | false => simp only [h3, Option.some.injEq] at e; subst e; simp
            | true => simp only [h3] at e; simp only [Bool.not_true, Bool.false_eq_true, if_false]; exact eqFields_rel ih rx ry fs r e
    · rename_i hne
      rw [if_neg hne]
      exact eqFields_rel ih rx ry fs r e

theorem eqV_rel : ∀ (d : Nat) (t : TypeId) (x y : V) (x' y' : Value) (r : Bool), eqV P d t x y = some r → vrel E x x' → vrel E y y' → (Op.equalIn d t x' y').run P w = .ok r w := by
  intro d
  induction d with
  | zero => intro t x y x' y' r e; simp [eqV] at e
  | succ d ih =>
    intro t x y x' y' r e rx ry
    simp only [eqV] at e
    split at e
    · rename_i hu
      split at e
      · simp only [vrel] at rx ry; subst rx; subst ry
        simp only [Option.some.injEq] at e; subst e
        simp [Op.equalIn, run_und hu]
      · cases e
    · rename_i hu
      split at e
      · simp only [vrel] at rx ry; subst rx; subst ry
        split at e
        · rename_i hk; subst hk; simp only [Option.some.injEq] at e; subst e
          simp [Op.equalIn, run_und hu]
        · cases e
      · cases e
    · rename_i hu
      split at e
      · simp only [vrel] at rx ry; subst rx; subst ry
        simp only [Option.some.injEq] at e; subst e
        simp only [Op.equalIn, Sem.run_bind, run_und hu, Result.andThen_ok, Sem.run_pure]
        rw [bytes_beq]
      · cases e
    · rename_i hu
      split at e
      · rename_i b
        simp only [vrel] at rx; subst rx
        simp only [Option.some.injEq] at e; subst e
        cases b with
        | none => simp only [vrel] at ry; subst ry; simp [Op.equalIn, run_und hu]
        | some p => obtain ⟨_, _, _, rfl⟩ := ry; simp [Op.equalIn, run_und hu]
      · rename_i p
        simp only [Option.some.injEq] at e; subst e
        obtain ⟨_, _, _, rfl⟩ := rx
        simp only [vrel] at ry; subst ry
        simp [Op.equalIn, run_und hu]
      · cases e
    · rename_i hu
      split at e
      · simp only [vrel] at rx ry; subst rx; subst ry
        simp only [Option.some.injEq] at e; subst e
        simp [Op.equalIn, run_und hu]
      · simp only [vrel] at rx; subst rx; obtain ⟨_, _, rfl⟩ := ry
        simp only [Option.some.injEq] at e; subst e
        simp [Op.equalIn, run_und hu]
      · simp only [vrel] at ry; subst ry; obtain ⟨_, _, rfl⟩ := rx
        simp only [Option.some.injEq] at e; subst e
        simp [Op.equalIn, run_und hu]
      · cases e
    · rename_i fields hu
      split at e
      · split at e
        · cases e
        · rename_i hst
          obtain ⟨xs', rxs, rfl⟩ := rx
          obtain ⟨ys', rys, rfl⟩ := ry
          have hf : P.fieldsOf t = fields := by simp [Program.fieldsOf, hu]
          rw [run_equalIn_struct w d t _ _ (by rw [hf]; exact hu) (by simpa using hst), hf]
          exact eqFields_rel (fun u a b a' b' r e ra rb => ih u a b a' b' r e ra rb) (by simpa using rxs) (by simpa using rys) _ _ e
      · cases e
    · rename_i hu
      split at e
      · rename_i b _ _ _
        obtain ⟨_, _, rfl⟩ := rx
        simp only [Option.some.injEq] at e; subst e
        cases b with
        | none => obtain ⟨_, _, rfl⟩ := ry; simp [Op.equalIn, run_und hu]
        | some p => obtain ⟨_, _, _, _, _, _, _, _, _, rfl⟩ := ry; simp [Op.equalIn, run_und hu]
      · simp only [Option.some.injEq] at e; subst e
        obtain ⟨_, _, _, _, _, _, _, _, _, rfl⟩ := rx
        obtain ⟨_, _, rfl⟩ := ry
        simp [Op.equalIn, run_und hu]
      · cases e
    · rename_i hu
      split at e
      · rename_i b
        simp only [vrel] at rx; subst rx
        simp only [Option.some.injEq] at e; subst e
        cases b with
        | none => simp only [vrel] at ry; subst ry; simp [Op.equalIn, run_und hu]
        | some p => obtain ⟨_, _, rfl⟩ := ry; simp [Op.equalIn, run_und hu]
      · simp only [Option.some.injEq] at e; subst e
        obtain ⟨_, _, rfl⟩ := rx
        simp only [vrel] at ry; subst ry
        simp [Op.equalIn, run_und hu]
      · cases e
    · cases e
end
end Go.Eng
