/- The engine, part G: binary and unary operations, conversions, addresses, indexes, slices. No conditions: lemmas alone. -/
import Derived.Test.YtljiongmhoooiaaEngF
namespace Go.Eng
open Go

section
variable {P : Program} {E : Env} {h : Tr O} {n : Nat} {w : World}

theorem op_binOp {op : BinOp} {t : TypeId} {x y : Operand} {a b v : V} {a' b' : Value} (g : Good E h w) (ra : vrel E a a') (rb : vrel E b b') (e : binV P op t x y a b = some v) :
    OpOk P E h n w (do pure (.value (← (do eqGuard op t x y a' b'; binOp op t a' b')))) (.val v h n) := by
  unfold binV at e
  split at e
  · rename_i k m k' m'
    simp only [vrel] at ra rb; subst ra; subst rb
    obtain ⟨v', q1, q2⟩ := pureSem_eq e
    refine ok_same g (v' := v') ?_ (q2 E)
    have hg : (eqGuard op t x y (.int k m) (.int k' m')).run P w = .ok () w := by cases op <;> rfl
    simp only [Sem.run_bind, hg, Result.andThen_ok, q1]
    rfl
  · rename_i s u
    simp only [vrel] at ra rb; subst ra; subst rb
    have hg : (eqGuard op t x y (.string ⟨s.toArray⟩) (.string ⟨u.toArray⟩)).run P w = .ok () w := by cases op <;> rfl
    cases op <;> simp only [strOp] at e <;> first
      | (cases e; done)
      | skip
    · split at e
      · rename_i hl
        simp only [Option.some.injEq] at e; subst e
        refine ok_same g (v' := .string (⟨s.toArray⟩ ++ ⟨u.toArray⟩)) ?_ ?_
        · have hsz : ¬ (((ByteArray.size ⟨s.toArray⟩ + ByteArray.size ⟨u.toArray⟩ : Nat) : Int) > IntKind.i64.max) := by
            have : (IntKind.i64.max : Int) = 9223372036854775807 := by decide
            rw [this]
            show ¬ (((s.toArray.size + u.toArray.size : Nat) : Int) > 9223372036854775807)
            unfold intMax at hl
            simp only [List.size_toArray]
            omega
          simp only [Sem.run_bind, hg, Result.andThen_ok, binOp, Op.stringOp]
          rw [if_neg hsz]; rfl
        · show Value.string _ = .string ⟨(s ++ u).toArray⟩
          congr 1
      · cases e
    · simp only [Option.some.injEq] at e; subst e
      refine ok_same g (v' := .bool (beqB s u)) ?_ rfl
      simp only [Sem.run_bind, hg, Result.andThen_ok, binOp, Op.stringOp, bytes_beqL]
      rfl
    · simp only [Option.some.injEq] at e; subst e
      refine ok_same g (v' := .bool (!beqB s u)) ?_ rfl
      simp only [Sem.run_bind, hg, Result.andThen_ok, binOp, Op.stringOp, bytes_beqL]
      rfl
  · rename_i hni hns
    have hb := binOp_eq (t := t) ra rb (fun k m k' m' q => hni k m k' m' q.1 q.2) (fun s u q => hns s u q.1 q.2)
    have main : ∀ r, eqOp P t x y a b = some r → ∀ op, (op = .eql ∨ op = .neq) → (eqGuard op t x y a' b').run P w = .ok () w ∧ (Op.equal t a' b').run P w = .ok r w := by
      intro r er op hop
      unfold eqOp at er
      split at er
      · simp only [vrel] at ra rb; subst ra; subst rb
        split at er
        · rename_i hlit
          refine ⟨?_, eqV_rel (E := E) 10000 t _ _ _ _ r er rfl rfl⟩
          clear hb e
          rcases hop with rfl | rfl <;> cases x <;> cases y <;> first
            | rfl
            | (simp only [isLit, Bool.or_self, Bool.false_eq_true] at hlit)
        · cases er
      · split at er
        · cases er
        · rename_i hg
          obtain ⟨xs', rx, rfl⟩ := ra
          obtain ⟨ys', ry, rfl⟩ := rb
          refine ⟨run_eqGuard_agg w op t x y _ _ (by simpa using hg), eqV_rel 10000 t _ _ _ _ r er ⟨xs', rx, rfl⟩ ⟨ys', ry, rfl⟩⟩
      · rename_i hn1 hn2
        refine ⟨?_, eqV_rel 10000 t _ _ _ _ r er ra rb⟩
        have t1 := vrel_tag ra
        have t2 := vrel_tag rb
        rcases hop with rfl | rfl <;> cases a' <;> first
          | rfl
          | (cases b' <;> first
            | rfl
            | (exfalso; cases a <;> simp [V.tag, tagOf] at t1; cases b <;> simp [V.tag, tagOf] at t2; exact hn1 rfl rfl)
            | (exfalso; cases a <;> simp [V.tag, tagOf] at t1; cases b <;> simp [V.tag, tagOf] at t2; exact hn2 _ _ rfl rfl))
    split at e
    · cases hq : eqOp P t x y a b with
      | none => simp [hq] at e
      | some r =>
        simp only [hq, Option.map_some, Option.some.injEq] at e; subst e
        obtain ⟨m1, m2⟩ := main r hq .eql (.inl rfl)
        refine ok_same g (v' := .bool r) ?_ rfl
        simp only [Sem.run_bind, m1, Result.andThen_ok, hb.1, m2, Sem.run_pure]
    · cases hq : eqOp P t x y a b with
      | none => simp [hq] at e
      | some r =>
        simp only [hq, Option.map_some, Option.some.injEq] at e; subst e
        obtain ⟨m1, m2⟩ := main r hq .neq (.inr rfl)
        refine ok_same g (v' := .bool (!r)) ?_ rfl
        simp only [Sem.run_bind, m1, Result.andThen_ok, hb.2, m2, Sem.run_pure]
    · cases e

theorem op_unOp {op : UnOp} {x v : V} {x' : Value} (g : Good E h w) (r : vrel E x x') (e : unV op x = some v) : OpOk P E h n w (do pure (.value (← Op.unary op x'))) (.val v h n) := by
  unfold unV at e
  split at e
  · simp only [vrel] at r; subst r
    obtain ⟨v', q1, q2⟩ := pureSem_eq e
    exact ok_same g (v' := v') (by rw [q1]; rfl) (q2 E)
  · simp only [vrel] at r; subst r
    obtain ⟨v', q1, q2⟩ := pureSem_eq e
    exact ok_same g (v' := v') (by rw [q1]; rfl) (q2 E)
  · cases e

theorem elemT_eq {t e : TypeId} (q : elemT P t = some e) : P.underlying t = some (.slice e) := by
  unfold elemT at q; split at q
  · rename_i hu; simp at q; subst q; exact hu
  · cases q

theorem op_fieldAddr {t : TypeId} {f : Nat} {x v : V} {x' : Value} (g : Good E h w) (r : vrel E x x') (e : fieldAddrV P t f x = some v) :
    OpOk P E h n w (do pure (.value (← Instr.fieldAt t x' f))) (.val v h n) := by
  unfold fieldAddrV at e
  split at e
  · rename_i m o
    split at e
    · rename_i fs hu
      split at e
      · rename_i fd hf
        split at e
        · rename_i k hk
          simp only [Option.some.injEq] at e; subst e
          obtain ⟨b, s, hi, rfl⟩ := r
          refine ok_same g (v' := .pointer (some ⟨b, s + (o + fd.offset), none⟩)) ?_ ⟨b, s, hi, rfl⟩
          simp [Instr.fieldAt, run_und hu, hf, Instr.sureAddr, fieldPlace, run_sizeOf' hk, Addr.add_none, Nat.add_assoc]
        · cases e
      · cases e
    · cases e
  · cases e

theorem op_field {t : TypeId} {f : Nat} {x v : V} {x' : Value} (g : Good E h w) (r : vrel E x x') (e : fieldV P t f x = some v) :
    OpOk P E h n w (do pure (.value (← Instr.field t x' f))) (.val v h n) := by
  unfold fieldV at e
  split at e
  · split at e
    · rename_i fs hu
      split at e
      · rename_i fd hf
        obtain ⟨cs', rc, rfl⟩ := r
        obtain ⟨v', h1, h2⟩ := part_rel (P := P) (w := w) (cs' := cs'.toArray) (by simpa using rc) e
        refine ok_same g (v' := v') ?_ h2
        simp [Instr.field, run_und hu, hf, asAgg, h1]
      · cases e
    · cases e
  · cases e

theorem op_indexAddr {t : TypeId} {x i v : V} {x' i' : Value} (g : Good E h w) (r : vrel E x x') (ri : vrel E i i') (e : indexAddrV P t x i = some v) :
    OpOk P E h n w (do pure (.value (← Instr.indexAt t x' i'))) (.val v h n) := by
  unfold indexAddrV at e
  split at e
  · rename_i k i
    simp only [vrel] at ri; subst ri
    split at e
    · rename_i len el m o hu
      split at e
      · rename_i s hs
        split at e
        · rename_i hb
          simp only [Option.some.injEq] at e; subst e
          obtain ⟨b, sh, hi, rfl⟩ := r
          refine ok_same g (v' := .pointer (some ⟨b, sh + (o + i.toNat * s), none⟩)) ?_ ⟨b, sh, hi, rfl⟩
          simp [Instr.indexAt, asIntOf, run_und hu, Instr.sureAddr, hb.1, hb.2, run_sizeOf' hs, Addr.add_none, Nat.add_assoc]
        · cases e
      · cases e
    · rename_i el m o len cap esz hu
      split at e
      · rename_i s hs
        split at e
        · rename_i hb
          obtain ⟨h1, h2, h3⟩ := hb
          simp only [Option.some.injEq] at e; subst e
          obtain ⟨b, sh, o', cap', hi, q1, q2, q3, q4, rfl⟩ := r
          have ho : o' = sh + o := q1 (by omega)
          subst ho
          refine ok_same g (v' := .pointer (some ⟨b, sh + (o + i.toNat * s), none⟩)) ?_ ⟨b, sh, hi, rfl⟩
          simp [Instr.indexAt, asIntOf, run_und hu, h1, h2, run_sizeOf' hs, Addr.add_none, Nat.add_assoc]
        · cases e
      · cases e
    · cases e
  · cases e

theorem op_index {t : TypeId} {x i v : V} {x' i' : Value} (g : Good E h w) (r : vrel E x x') (ri : vrel E i i') (e : indexV P t x i = some v) :
    OpOk P E h n w (do pure (.value (← Instr.index t x' i'))) (.val v h n) := by
  unfold indexV at e
  split at e
  · rename_i k i
    simp only [vrel] at ri; subst ri
    split at e
    · rename_i len el cs hu
      split at e
      · rename_i s hs
        split at e
        · rename_i hb
          obtain ⟨cs', rc, rfl⟩ := r
          obtain ⟨v', h1, h2⟩ := part_rel (P := P) (w := w) (cs' := cs'.toArray) (by simpa using rc) e
          refine ok_same g (v' := v') ?_ h2
          simp [Instr.index, asIntOf, run_und hu, hb.1, hb.2, run_sizeOf' hs, h1]
        · cases e
      · cases e
    · rename_i s hu
      split at e
      · rename_i hb
        split at e
        · rename_i b hsb
          simp only [Option.some.injEq] at e; subst e
          simp only [vrel] at r; subst r
          refine ok_same g (v' := .int .u8 b.toNat) ?_ rfl
          have hg : (⟨s.toArray⟩ : ByteArray)[i.toNat]? = some b := by
            obtain ⟨hlt, hv⟩ := List.getElem?_eq_some_iff.1 hsb
            have hsz : i.toNat < (⟨s.toArray⟩ : ByteArray).size := by show i.toNat < s.toArray.size; simpa using hlt
            rw [getElem?_pos (⟨s.toArray⟩ : ByteArray) i.toNat hsz]
            congr 1
          simp [Instr.index, asIntOf, run_und hu, hb, hg]
        · cases e
      · cases e
    · cases e
  · cases e

theorem op_extract {vs : List V} {i : Nat} {v : V} {x' : Value} (g : Good E h w) (r : vrel E (.tup vs) x') (e : vs[i]? = some v) :
    OpOk P E h n w (do pure (.value (← Instr.extract x' i))) (.val v h n) := by
  obtain ⟨vs', rs, rfl⟩ := r
  obtain ⟨v', h1, h2⟩ := vrels_get rs i v e
  refine ok_same g (v' := v') ?_ h2
  simp [Instr.extract, h1]

theorem op_typeAssert {x v : V} {xt t : TypeId} {ok : Bool} {x' : Value} (g : Good E h w) (r : vrel E x x') (e : typeAssertV P x t ok = some v) :
    OpOk P E h n w (do pure (.value (← Instr.typeAssert x' xt t ok))) (.val v h n) := by
  unfold typeAssertV at e
  split at e
  · cases e
  · rename_i d hu hd
    simp only [vrel] at r; subst r
    split at e
    · rename_i hok
      cases hz : zeroOf P t with
      | none => simp [hz] at e
      | some z =>
        simp only [hz, Option.some.injEq] at e; subst e
        obtain ⟨z', hr, hv, _⟩ := run_zero (w := w) E hz
        refine ok_same g (v' := .tuple #[z', .bool false]) ?_ ⟨[z', .bool false], ⟨z', _, hv, ⟨.bool false, [], rfl, rfl, rfl⟩, rfl⟩, rfl⟩
        cases d <;> first | (exact absurd rfl (hu _)) | simp [Instr.typeAssert, run_und hd, hok, hr]
    · cases e
  · rename_i d t2 x2 hu hd
    obtain ⟨y, ry, rfl⟩ := r
    split at e
    · rename_i ht
      subst ht
      simp only [Option.some.injEq] at e; subst e
      cases ok with
      | true =>
        refine ok_same g (v' := .tuple #[y, .bool true]) ?_ ⟨[y, .bool true], ⟨y, _, ry, ⟨.bool true, [], rfl, rfl, rfl⟩, rfl⟩, rfl⟩
        cases d <;> first | (exact absurd rfl (hu _)) | simp [Instr.typeAssert, run_und hd]
      | false =>
        refine ok_same g (v' := y) ?_ ry
        cases d <;> first | (exact absurd rfl (hu _)) | simp [Instr.typeAssert, run_und hd]
    · rename_i ht
      split at e
      · rename_i hok
        cases hz : zeroOf P t with
        | none => simp [hz] at e
        | some z =>
          simp only [hz, Option.some.injEq] at e; subst e
          obtain ⟨z', hr, hv, _⟩ := run_zero (w := w) E hz
          refine ok_same g (v' := .tuple #[z', .bool false]) ?_ ⟨[z', .bool false], ⟨z', _, hv, ⟨.bool false, [], rfl, rfl, rfl⟩, rfl⟩, rfl⟩
          cases d <;> first | (exact absurd rfl (hu _)) | simp [Instr.typeAssert, run_und hd, hok, hr, ht]
      · cases e
  · cases e
end
end Go.Eng
