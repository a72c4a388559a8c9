/- The engine, part P: the evaluator's own run of a statement that draws keeps its facts. No conditions: lemmas alone. -/
import Derived.Test.YtljiongmhoooiaaEngO
namespace Go.Eng
open Go

section
variable {P : Program} {cf : CallF} {ops : Array Oper} {n0 N : Nat} {h0 : Tr O} {fr0 : Tr V}

theorem FrAt.mono {val val' : Nat → V} {j : Nat} {fr : Tr V} (h : FrAt ops fr0 val j fr) (hv : ∀ k, k < j → val' k = val k) : FrAt ops fr0 val' j fr :=
  ⟨fun i o t hi ho hd => by rw [hv i hi]; exact h.new i o t hi ho hd, h.old⟩

theorem FrAt.step {val val' : Nat → V} {i : Nat} {fr fr' : Tr V} {o : Oper} {v : V} (hr : RegOk ops N) (ho : ops[i]? = some o) (h : FrAt ops fr0 val i fr) (hv : ∀ k, k < i → val' k = val k) (hi : val' i = v)
    (e : putD fr o.dst v = some fr') : FrAt ops fr0 val' (i + 1) fr' := by
  have h' := h.mono hv
  cases hd : o.dst with
  | none =>
    rw [hd] at e
    simp only [putD, Option.some.injEq] at e; subst e
    refine ⟨fun k q t hk hq ht => ?_, fun t ht => h'.old t fun k q hk hq => ht k q (by omega) hq⟩
    by_cases c : k = i
    · subst c; rw [ho] at hq; cases hq; rw [hd] at ht; cases ht
    · exact h'.new k q t (by omega) hq ht
  | some d =>
    rw [hd] at e
    simp only [putD] at e
    split at e
    · rename_i htop
      simp only [Option.some.injEq] at e; subst e
      refine ⟨fun k q t hk hq ht => ?_, fun t ht => ?_⟩
      · by_cases c : k = i
        · subst c; rw [ho] at hq; cases hq; rw [hd] at ht; cases ht
          rw [Tr.get_set_same _ _ htop, hi]
        · have hne : t ≠ d := by
            intro q'; subst q'
            exact c (hr.one k i q o t hq ho ht hd)
          rw [Tr.get_set_ne _ _ htop hne]
          exact h'.new k q t (by omega) hq ht
      · have hne : t ≠ d := by intro q; subst q; exact ht i o (by omega) ho hd
        rw [Tr.get_set_ne _ _ htop hne]
        exact h'.old t fun k q hk hq => ht k q (by omega) hq
    · cases e

theorem bit_ge {he : EdgesOk ops} {j i : Nat} (h : j ≤ i) : hasBit (msk ops j) i = false := by
  cases q : hasBit (msk ops j) i with
  | false => rfl
  | true => have := msk_lt he j i q; omega

theorem AllocFact.mono {val val' : Nat → V} {j : Nat} {o : Oper} {b : O} (h : AllocFact P ops n0 fr0 val j o b) (hv : ∀ k, k ≤ j → val' k = val k) : AllocFact P ops n0 fr0 val' j o b := by
  obtain ⟨fr, f1, f2, f3, f4, f5⟩ := h
  exact ⟨fr, f1.mono fun k hk => hv k (by omega), f2, f3, f4, fun y => by rw [hv j (Nat.le_refl _)]; exact f5 y⟩

/-- a step that is no effect keeps what is known of elder operations -/
theorem OpFact.quiet {val val' : Nat → V} {allocs allocs' : List (Nat × O)} {reads reads' : List (Nat × Nat × Oper × Tr V × V)} {effs : List Eff} {j : Nat} {o : Oper}
    (h : OpFact P cf ops n0 h0 fr0 val allocs reads effs j o) (hv : ∀ k, k ≤ j → val' k = val k) (ha : ∀ x ∈ allocs, x ∈ allocs') (hr : ∀ x ∈ reads, x ∈ reads')
    (hview : ∀ m x, view n0 allocs' m x (msk ops j) = view n0 allocs m x (msk ops j)) : OpFact P cf ops n0 h0 fr0 val' allocs' reads' effs j o := by
  obtain ⟨fr, f1, f2⟩ := h
  refine ⟨fr, f1.mono fun k hk => hv k (by omega), ?_⟩
  have hj := hv j (Nat.le_refl _)
  rw [hj]
  rcases f2 with q | ⟨q1, q2, b, q3, q4, q5⟩ | q | ⟨q1, q2, q3, q4⟩ | ⟨q1, q2, c, h, n, q3, q4⟩
  · exact .inl q
  · exact .inr (.inl ⟨q1, q2, b, ha _ q3, q4, q5⟩)
  · exact .inr (.inr (.inl q))
  · refine .inr (.inr (.inr (.inl ⟨q1, q2, hr _ q3, fun c hc h1 h2 => ?_⟩)))
    rw [hview]; exact q4 c hc h1 h2
  · refine .inr (.inr (.inr (.inr ⟨q1, q2, c, h, n, q3, ?_⟩)))
    simp only [hview]; exact q4

/-- an effect keeps what is known of elder operations -/
theorem OpFact.effect {val val' : Nat → V} {allocs : List (Nat × O)} {reads : List (Nat × Nat × Oper × Tr V × V)} {effs : List Eff} {e : Eff} {j : Nat} {o : Oper}
    (h : OpFact P cf ops n0 h0 fr0 val allocs reads effs j o) (hv : ∀ k, k ≤ j → val' k = val k) (hok : readsOk P n0 allocs e.2.1 e.2.2.1 reads = true) :
    OpFact P cf ops n0 h0 fr0 val' allocs reads (effs ++ [e]) j o := by
  obtain ⟨fr, f1, f2⟩ := h
  refine ⟨fr, f1.mono fun k hk => hv k (by omega), ?_⟩
  have hj := hv j (Nat.le_refl _)
  rw [hj]
  rcases f2 with q | q | q | ⟨q1, q2, q3, q4⟩ | ⟨q1, q2, c, h, n, q3, q4⟩
  · exact .inl q
  · exact .inr (.inl q)
  · exact .inr (.inr (.inl q))
  · refine .inr (.inr (.inr (.inl ⟨q1, q2, q3, fun c hc h1 h2 => ?_⟩)))
    simp only [List.length_append, List.length_cons, List.length_nil] at hc
    by_cases cl : c ≤ effs.length
    · rw [effAt_snoc cl]
      refine q4 c cl (fun c' e' hc' he' => h1 c' e' hc' ?_) (fun c' e' hc' he' => h2 c' e' hc' ?_)
      · rw [List.getElem?_append_left (List.getElem?_eq_some_iff.1 he').1]; exact he'
      · rw [List.getElem?_append_left (List.getElem?_eq_some_iff.1 he').1]; exact he'
    · have hcl : c = effs.length + 1 := by omega
      subst hcl
      rw [effAt_last]
      exact readsOk_eq reads hok j _ o fr _ q3 (h2 effs.length e (by omega) (by simp))
  · have hc := (List.getElem?_eq_some_iff.1 q3).1
    refine .inr (.inr (.inr (.inr ⟨q1, q2, c, h, n, by rw [List.getElem?_append_left hc]; exact q3, ?_⟩)))
    rw [effAt_snoc (by omega)]; exact q4

theorem chain_new {val : Nat → V} {effs : List Eff} {i : Nat} {d : Dr} (hr : RegOk ops N) (f : Facts P cf ops n0 h0 fr0 val effs i d) (hl : lastOk (msk ops i) d.last = true) :
    ∀ (c : Nat) (e : Eff), effs[c]? = some e → hasBit (msk ops i) e.1 = true := by
  intro c e he
  have hc := (List.getElem?_eq_some_iff.1 he).1
  rw [f.last] at hl
  have hg : effs.getLast? = some (effs[effs.length - 1]'(by omega)) := by
    rw [List.getLast?_eq_getElem?, List.getElem?_eq_getElem]
  rw [hg] at hl
  simp only [Option.map_some, lastOk] at hl
  by_cases q : c = effs.length - 1
  · subst q
    rw [List.getElem?_eq_getElem (by omega)] at he
    cases he; exact hl
  · exact msk_trans hr.edges i _ _ hl (f.chain (effs.length - 1) c _ e (by omega) (List.getElem?_eq_getElem (by omega)) he)

/-- the facts behind an effect -/
theorem facts_eff {val : Nat → V} {effs : List Eff} {i : Nat} {d d' : Dr} {o : Oper} {v : V} {h : Tr O} {n : Nat} (hr : RegOk ops N) (ho : ops[i]? = some o) (f : Facts P cf ops n0 h0 fr0 val effs i d)
    (hw : wantedV ops o d.fr = some true) (heff : isEff o.op = true) (hl : lastOk (msk ops i) d.last = true) (ha : afterEff P n0 i (msk ops i) o d v h n = some d')
    (hm : mlist (ops.toList.take (i + 1)) = d.masks ++ [msk ops i])
    (run : (stepOp P o d.fr (view n0 d.allocs d.cur.1 d.cur.2 (msk ops i)) d.n = some (.val v h n)) ∨
      ∃ g args, stepOp P o d.fr (view n0 d.allocs d.cur.1 d.cur.2 (msk ops i)) d.n = some (.call g args) ∧ cf g args (view n0 d.allocs d.cur.1 d.cur.2 (msk ops i)) d.n = some (.ret v, h, n)) :
    ∃ val' effs', Facts P cf ops n0 h0 fr0 val' effs' (i + 1) d' := by
  unfold afterEff at ha
  split at ha
  · rename_i fr hp
    split at ha
    · rename_i hok
      simp only [Option.some.injEq] at ha; subst ha
      let val' : Nat → V := fun k => if k = i then v else val k
      have hvi : val' i = v := by simp [val']
      have hv : ∀ k, k < i → val' k = val k := fun k hk => by simp [val', show k ≠ i by omega]
      refine ⟨val', effs ++ [(i, msk ops i, h, n)], ?_⟩
      have hlen : (effs ++ [(i, msk ops i, h, n)]).length = effs.length + 1 := by simp
      refine ⟨hm.symm, f.fr.step hr ho hv hvi hp, ?_, ?_, ?_, by simp, ?_, fun x hx => by have := f.allocs x hx; omega, f.one, fun c e q he hq => ?_, fun j q b hb hq => (f.allocok j q b hb hq).mono fun k hk => hv k (by have := f.allocs _ hb; simp at this; omega), ?_, ?_⟩
      · rw [hlen, effAt_last]
      · rw [hlen, effAt_last]
      · rw [hlen]
        simp only [histOf]
        rw [List.getElem?_append_right (by omega)]
        simp only [Nat.sub_self, List.getElem?_cons_zero]
        rw [effAt_snoc (Nat.le_refl _), histOf_snoc _ (Nat.le_refl _), ← f.hist, f.cur]
      · intro c e he
        by_cases q : c < effs.length
        · rw [List.getElem?_append_left q] at he
          obtain ⟨h1, h2⟩ := f.effok c e he
          exact ⟨by omega, h2⟩
        · have hc := (List.getElem?_eq_some_iff.1 he).1
          simp at hc
          have : c = effs.length := by omega
          subst this
          simp at he; subst he
          exact ⟨by simp, o, ho, heff, rfl⟩
      · by_cases q2 : c < effs.length
        · rw [List.getElem?_append_left q2] at he
          obtain ⟨h1, _⟩ := f.effok c e he
          obtain ⟨fr2, g1, g2⟩ := f.wantedEff c e q he hq
          exact ⟨fr2, g1.mono fun k hk => hv k (by omega), g2⟩
        · have hc := (List.getElem?_eq_some_iff.1 he).1
          simp at hc
          have : c = effs.length := by omega
          subst this
          simp at he; subst he
          simp only at hq; rw [ho] at hq; cases hq
          exact ⟨d.fr, f.fr.mono hv, hw⟩
      · intro c c' e e' hcc he he'
        have hc := (List.getElem?_eq_some_iff.1 he).1
        simp at hc
        have hc' : c' < effs.length := by omega
        rw [List.getElem?_append_left hc'] at he'
        by_cases q : c < effs.length
        · rw [List.getElem?_append_left q] at he
          exact f.chain c c' e e' hcc he he'
        · have : c = effs.length := by omega
          subst this
          simp at he; subst he
          exact chain_new hr f hl c' e' he'
      · intro j q hj hq
        by_cases c : j = i
        · subst c; rw [ho] at hq; cases hq
          refine ⟨d.fr, f.fr.mono hv, .inr (.inr (.inr (.inr ⟨hw, heff, effs.length, h, n, by simp, ?_⟩)))⟩
          rw [effAt_snoc (Nat.le_refl _), hvi]
          have hcur := f.cur
          have hn := f.n
          have e1 : d.cur.1 = (effAt h0 (n0 + ops.size) effs effs.length).1 := by rw [hcur]
          have e2 : d.cur.2 = (effAt h0 (n0 + ops.size) effs effs.length).2.1 := by rw [hcur]
          rw [e1, e2, hn] at run
          exact run
        · exact (f.opok j q (by omega) hq).effect (fun k hk => hv k (by omega)) hok
    · cases ha
  · cases ha

theorem facts_step {val : Nat → V} {effs : List Eff} {i : Nat} {d d' : Dr} {o : Oper} (hr : RegOk ops N) (ho : ops[i]? = some o) (f : Facts P cf ops n0 h0 fr0 val effs i d)
    (e : drawOp P cf ops n0 i o d = some (.inl d')) : ∃ val' effs', Facts P cf ops n0 h0 fr0 val' effs' (i + 1) d' := by
  have hi : i < ops.size := (Array.getElem?_eq_some_iff.1 ho).1
  have hanc : maskOf d.masks o.after.toList = msk ops i := by rw [f.masks]; unfold msk; rw [ho]
  have hm : mlist (ops.toList.take (i + 1)) = d.masks ++ [msk ops i] := by
    rw [take_snoc (by rw [Array.getElem?_toList]; exact ho), mlist_snoc, ← f.masks, hanc]
  unfold drawOp at e
  simp only [hanc] at e
  -- a step that is no effect
  have quietStep : ∀ (v : V) (fr : Tr V) (allocs' : List (Nat × O)) (reads' : List (Nat × Nat × Oper × Tr V × V)), putD d.fr o.dst v = some fr → (∀ x ∈ d.allocs, x ∈ allocs') → (∀ x ∈ d.reads, x ∈ reads') →
      (∀ j m x, j ≤ i → view n0 allocs' m x (msk ops j) = view n0 d.allocs m x (msk ops j)) → (∀ x ∈ allocs', x.1 < i + 1) → (∀ j b b', (j, b) ∈ allocs' → (j, b') ∈ allocs' → b = b') →
      (∀ val', (∀ k, k < i → val' k = val k) → val' i = v → ∀ b, (i, b) ∈ allocs' → AllocFact P ops n0 fr0 val' i o b) → (∀ x ∈ allocs', x.1 ≠ i → x ∈ d.allocs) →
      (∀ val', (∀ k, k < i → val' k = val k) → val' i = v → OpFact P cf ops n0 h0 fr0 val' allocs' reads' effs i o) →
      ∃ val' effs', Facts P cf ops n0 h0 fr0 val' effs' (i + 1) { d with fr := fr, masks := d.masks ++ [msk ops i], allocs := allocs', reads := reads' } := by
    intro v fr allocs' reads' hp ha hrd hview hai hone hal hal2 hop
    let val' : Nat → V := fun k => if k = i then v else val k
    have hvi : val' i = v := by simp [val']
    have hv : ∀ k, k < i → val' k = val k := fun k hk => by simp [val', show k ≠ i by omega]
    refine ⟨val', effs, ⟨hm.symm, f.fr.step hr ho hv hvi hp, f.cur, f.n, f.hist, f.last, fun c e he => ?_, hai, hone, fun c e q he hq => ?_, fun j q b hb hq => ?_, f.chain, fun j q hj hq => ?_⟩⟩
    · obtain ⟨h1, h2⟩ := f.effok c e he
      exact ⟨by omega, h2⟩
    · obtain ⟨h1, _⟩ := f.effok c e he
      obtain ⟨fr2, g1, g2⟩ := f.wantedEff c e q he hq
      exact ⟨fr2, g1.mono fun k hk => hv k (by omega), g2⟩
    · by_cases c : j = i
      · subst c; rw [ho] at hq; cases hq; exact hal val' hv hvi b hb
      · have hb' := hal2 _ hb c
        exact (f.allocok j q b hb' hq).mono fun k hk => hv k (by have := f.allocs _ hb'; simp at this; omega)
    · by_cases c : j = i
      · subst c; rw [ho] at hq; cases hq; exact hop val' hv hvi
      · exact (f.opok j q (by omega) hq).quiet (fun k hk => hv k (by omega)) ha hrd fun m x => hview j m x (by omega)
  have e1 : d.cur.1 = (effAt h0 (n0 + ops.size) effs effs.length).1 := by rw [f.cur]
  have e2 : d.cur.2 = (effAt h0 (n0 + ops.size) effs effs.length).2.1 := by rw [f.cur]
  split at e
  · rename_i hw
    split at e
    · rename_i fr hp
      simp only [Option.some.injEq, Sum.inl.injEq] at e; subst e
      exact quietStep (.tup []) fr d.allocs d.reads hp (fun _ h => h) (fun _ h => h) (fun _ _ _ _ => rfl) (fun x hx => by have := f.allocs x hx; omega) f.one (fun _ _ _ b hb => by have := f.allocs _ hb; simp at this) (fun _ hx _ => hx)
        fun val' hv hvi => ⟨d.fr, f.fr.mono hv, .inl ⟨hw, hvi⟩⟩
    · cases e
  · rename_i hw
    split at e
    · rename_i heff
      split at e
      · rename_i hl
        split at e
        · rename_i v h n hs
          split at e
          · rename_i s' ha
            simp only [Option.some.injEq, Sum.inl.injEq] at e; subst e
            exact facts_eff hr ho f hw heff hl ha hm (.inl hs)
          · cases e
        · rename_i g args hs
          split at e
          · rename_i v h n hc
            split at e
            · rename_i s' ha
              simp only [Option.some.injEq, Sum.inl.injEq] at e; subst e
              exact facts_eff hr ho f hw heff hl ha hm (.inr ⟨g, args, hs, hc⟩)
            · cases e
          · split at e
            · cases e
            · cases e
          · cases e
        · cases e
      · cases e
    · rename_i heff
      have heff' : isEff o.op = false := by simpa using heff
      split at e
      · rename_i v h k hs
        split at e
        · rename_i fr hp
          have hq := quiet heff' hs
          split at e
          · rename_i hk
            have hk' := Nat.eq_of_beq_eq_true hk
            subst hk'
            split at e
            · rename_i hpure
              simp only [Option.some.injEq, Sum.inl.injEq] at e; subst e
              obtain ⟨u, h1, h2⟩ := pure_any hpure hs
              cases h1
              exact quietStep v fr d.allocs d.reads hp (fun _ h => h) (fun _ h => h) (fun _ _ _ _ => rfl) (fun x hx => by have := f.allocs x hx; omega) f.one (fun _ _ _ b hb => by have := f.allocs _ hb; simp at this) (fun _ hx _ => hx)
                fun val' hv hvi => ⟨d.fr, f.fr.mono hv, .inr (.inr (.inl ⟨hw, heff', fun y => by rw [hvi]; exact h2 y _⟩))⟩
            · split at e
              · rename_i hist
                simp only [Option.some.injEq, Sum.inl.injEq] at e; subst e
                refine quietStep v fr d.allocs ((i, msk ops i, o, d.fr, v) :: d.reads) hp (fun _ h => h) (fun x hx => by simp [hx]) (fun _ _ _ _ => rfl) (fun x hx => by have := f.allocs x hx; omega) f.one (fun _ _ _ b hb => by have := f.allocs _ hb; simp at this) (fun _ hx _ => hx)
                  fun val' hv hvi => ⟨d.fr, f.fr.mono hv, .inr (.inr (.inr (.inl ⟨hw, heff', by simp [hvi], fun c hc h1 _ => ?_⟩)))⟩
                rw [hvi]
                by_cases q : c = effs.length
                · subst q
                  rw [← e1, ← e2]
                  exact ⟨h, hs⟩
                · rw [f.hist] at hist
                  exact histOk_eq effs.length (Nat.le_refl _) hist c (by omega) fun c' e' q1 _ q3 => h1 c' e' q1 q3
              · cases e
          · rename_i hk
            split at e
            · rename_i b hb
              simp only [Option.some.injEq, Sum.inl.injEq] at e; subst e
              rcases hq with ⟨u, h1, _⟩ | ⟨u, b', h1, h2, h3⟩
              · cases h1; exact absurd (Nat.beq_refl _) hk
              · cases h2
                rw [Tr.get_set_same _ _ h1] at hb
                cases hb
                refine quietStep v fr ((i, b) :: d.allocs) d.reads hp (fun x hx => by simp [hx]) (fun _ h => h) (fun j m x hj => view_cons (bit_ge (he := hr.edges) hj)) (fun x hx => ?_) (fun j c c' hc hc' => ?_) (fun val' hv hvi c hc => ?_) (fun x hx hne => ?_)
                  fun val' hv hvi => ⟨d.fr, f.fr.mono hv, .inr (.inl ⟨hw, heff', b, by simp, h1, fun y => by rw [hvi]; exact h3 y⟩)⟩
                · rcases List.mem_cons.1 hx with rfl | hx
                  · simp
                  · have := f.allocs x hx; omega
                · rcases List.mem_cons.1 hc with q | q <;> rcases List.mem_cons.1 hc' with q' | q'
                  · cases q; cases q'; rfl
                  · cases q; have := f.allocs _ q'; simp at this
                  · cases q'; have := f.allocs _ q; simp at this
                  · exact f.one j c c' q q'
                · rcases List.mem_cons.1 hc with q | q
                  · cases q; exact ⟨d.fr, f.fr.mono hv, hw, heff', h1, fun y => by rw [hvi]; exact h3 y⟩
                  · have := f.allocs _ q; simp at this
                · rcases List.mem_cons.1 hx with q | q
                  · cases q; exact absurd rfl hne
                  · exact q
            · cases e
        · cases e
      · cases e
  · cases e

theorem facts_init (fr : Tr V) (h : Tr O) : Facts P cf ops n0 h fr (fun _ => .nilFn) [] 0 { fr := fr, masks := [], cur := (0, h), hist := [], last := none, allocs := [], reads := [], n := n0 + ops.size } := by
  refine ⟨by simp [mlist], ⟨fun i o t hi => by omega, fun t _ => rfl⟩, rfl, rfl, rfl, rfl, fun c e he => by simp at he, fun x hx => by simp at hx, fun j b b' hb => by simp at hb, fun c e o he => by simp at he, fun j o b hb => by simp at hb, fun c c' e e' _ he => by simp at he, fun j o hj => by omega⟩

/-- the run of a statement that draws: its facts at the end, or at the call that panics -/
theorem facts_run (hr : RegOk ops N) : ∀ (l : List Oper) (i : Nat) (d : Dr) (val : Nat → V) (effs : List Eff) (r : Dr ⊕ (Tr V × V × Tr O × Nat)), l = ops.toList.drop i → Facts P cf ops n0 h0 fr0 val effs i d →
    drawOps P cf ops n0 l i d = some r →
    match r with
    | .inl d' => ∃ val' effs', Facts P cf ops n0 h0 fr0 val' effs' (max i ops.size) d'
    | .inr x => ∃ j o d' val' effs', ops[j]? = some o ∧ Facts P cf ops n0 h0 fr0 val' effs' j d' ∧ drawOp P cf ops n0 j o d' = some (.inr x)
  | [], i, d, val, effs, r, hl, f, e => by
    simp only [drawOps, Option.some.injEq] at e; subst e
    have hi : ops.size ≤ i := by
      have := congrArg List.length hl
      simp at this; omega
    rw [Nat.max_eq_left hi]
    exact ⟨val, effs, f⟩
  | o :: l, i, d, val, effs, r, hl, f, e => by
    have hi : i < ops.size := by
      have := congrArg List.length hl
      simp at this; omega
    have ho : ops[i]? = some o := by
      have := congrArg (fun x => x[0]?) hl
      simp at this
      exact this.symm
    have hl' : l = ops.toList.drop (i + 1) := by
      have := congrArg List.tail hl
      simpa using this
    simp only [drawOps] at e
    split at e
    · rename_i s' hs
      obtain ⟨val', effs', f'⟩ := facts_step hr ho f hs
      have := facts_run hr l (i + 1) s' val' effs' r hl' f' e
      cases r with
      | inl d' => rw [show max (i + 1) ops.size = max i ops.size by omega] at this; exact this
      | inr x => exact this
    · rename_i x hx
      cases r with
      | inl d' => exact absurd e (hx d')
      | inr y => exact ⟨i, o, d, val, effs, ho, f, e⟩
end
end Go.Eng
