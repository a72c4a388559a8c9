/- The Doc laws: what comes in; the program's tables as the row lists them. No conditions. -/
import Derived.Test.YtmjggdmekboefaaGreatDoorRows
import Derived.Test.YtmjggdmekboefaaGreatDoorJointTen
import Derived.Test.YtmjggdmekboefaaGreatDoorJointFive
import Derived.Test.YtmjggdmekboefaaGreatDoorJointEleven
import Derived.LaidMore
import Derived.MakeChecks
set_option linter.unusedVariables false
set_option linter.unusedSimpArgs false
set_option linter.unusedSectionVars false
namespace Go.Proofs.YtmjggdmekboefaaGreatDoor.Sha
open Go Go.Eng Go.ChangeShapes Go.WideShapes Go.RowKit
theorem gRound : Tryz.prog.globalNamed "gouache/digest.round" = some 1 := by kernel_rfl
theorem gStart : Tryz.prog.globalNamed "gouache/digest.start" = some 0 := by kernel_rfl
abbrev laidL : List (String × DataW Unit) := [("gouache/digest.round", Rows.laid_gouache_digest_round), ("gouache/digest.start", Rows.laid_gouache_digest_start)]
def litsOf : List Int → List (DataW Unit) := fun l => l.map fun n => .lit (.int .u32 n)
theorem roundIs : (Rows.laid_gouache_digest_round : DataW Unit) = .agg (litsOf gR) := by kernel_rfl
theorem startIs : (Rows.laid_gouache_digest_start : DataW Unit) = .agg (litsOf gS) := by kernel_rfl
theorem words_in {w : World} {g t e n : Nat} {cs : Array Value} {fuel : Nat} {p : List MemPlace} {ks : List Int} {name : String} (hg : Tryz.prog.globalNamed name = some g) (hv : w.var? Tryz.prog name = some cs)
    (ht : Tryz.prog.underlying t = some (.array n e)) (he : Tryz.prog.underlying e = some (.int .u32)) (hc : Tryz.prog.cellsOf e = 1)
    (h : DataW.trod (fun _ => ()) Tryz.prog w 0 (fun _ => true) false fuel t cs.toList = some (.agg (litsOf ks), p)) : ∃ c el fz, w.heap[g]? = some (.cells c el fz) ∧ ∀ (i : Nat) (x : Int), ks[i]? = some x → c[i]? = some (.int .u32 x) := by
  obtain ⟨xs, m, rfl, hx, hcl, hn, hel⟩ := DataW.trod_array ht h
  simp only [Prod.mk.injEq, DataW.agg.injEq] at hx
  have hlen : ks.length = n := by
    have := congrArg List.length hx.1
    simp only [litsOf, List.length_map] at this
    omega
  have key : ∀ (i : Nat) (x : Int), ks[i]? = some x → cs[i]? = some (.int .u32 x) := by
    intro i x hi
    have hlt : i < ks.length := (List.getElem?_eq_some_iff.1 hi).1
    have h1 := hel i (by omega)
    rw [List.getElem?_eq_getElem (by omega)] at h1
    obtain ⟨k, e1, e2, _⟩ := DataW.trod_int he h1
    have h2 := congrArg (fun l => l[i]?) hx.1
    simp only [litsOf, List.getElem?_map, hi, Option.map_some] at h2
    rw [List.getElem?_eq_getElem (by omega), e2] at h2
    simp only [Option.map_some, Option.some.injEq, DataW.lit.injEq, Lit.int.injEq, true_and] at h2
    subst h2
    rw [hc, Nat.mul_one] at e1
    have h3 := congrArg (fun l => l[0]?) e1
    simp only [List.getElem?_take, Nat.lt_add_one, if_true, List.getElem?_drop, Nat.add_zero, List.getElem?_cons_zero] at h3
    simpa using h3
  have hcell := World.var?_cell hg hv 0
  have h00 : 0 < ks.length ∨ ks = [] := by cases ks <;> simp
  unfold World.var? at hv
  rw [hg] at hv
  simp only [Option.bind_some] at hv
  split at hv
  · rename_i c el fz hb
    simp only [Option.some.injEq] at hv
    subst hv
    exact ⟨_, el, fz, hb, key⟩
  · cases hv
theorem tabs_in {w : World} (h : laidMetH Tryz.prog laidL w) : (∃ c el fz, w.heap[0]? = some (.cells c el fz) ∧ ∀ (i : Nat) (x : Int), gS[i]? = some x → c[i]? = some (.int .u32 x)) ∧
    ∃ c el fz, w.heap[1]? = some (.cells c el fz) ∧ ∀ (i : Nat) (x : Int), gR[i]? = some x → c[i]? = some (.int .u32 x) := by
  rw [MakeChecks.laidMetH_plain _ _ _ (by kernel_rfl)] at h
  obtain ⟨ps, ⟨g0, t0, cs0, f0, p0, q0, hg0, ht0, hv0, hd0, ⟨g1, t1, cs1, f1, p1, q1, hg1, ht1, hv1, hd1, _, _⟩, _⟩, _, _⟩ := h
  obtain rfl := Option.some.inj (gRound.symm.trans hg0)
  obtain rfl := Option.some.inj (gStart.symm.trans hg1)
  rw [roundIs] at hd0
  rw [startIs] at hd1
  obtain rfl := Option.some.inj ((show (Tryz.prog.globals[1]?).map (·.type) = some 158 by kernel_rfl).symm.trans ht0)
  obtain rfl := Option.some.inj ((show (Tryz.prog.globals[0]?).map (·.type) = some 121 by kernel_rfl).symm.trans ht1)
  exact ⟨words_in gStart hv1 Tryz.underlying121 Tryz.underlying118 (by kernel_rfl) hd1, words_in gRound hv0 Tryz.underlying158 Tryz.underlying118 (by kernel_rfl) hd0⟩
def sizeW (w : World) (b : Nat) : Nat := match w.heap[b]? with
  | some (.cells c _ _) => c.size
  | _ => 0
def EW (w : World) : Env := ⟨fun m => gfind gtab m, sizeW w, phiW w⟩
theorem EW_ok {w : World} (hw : WG w) (h : laidMetH Tryz.prog laidL w) : Eng.Good (EW w) (hSR gS gR) w ∧ Dom (EW w) 3 ∧ ∀ m, ¬ wlive (hSR gS gR) m := by
  obtain ⟨⟨c0, el0, fz0, k0, m0⟩, ⟨c1, el1, fz1, k1, m1⟩⟩ := tabs_in h
  have hget : ∀ m o, (hSR gS gR).get m = some o → (m = 0 ∧ o = .ints .u32 gS) ∨ (m = 1 ∧ o = .ints .u32 gR) := by
    intro m o hm
    rcases hLi_get [(0, .ints .u32 gS), (1, .ints .u32 gR)] .nil m o (fun q hq => by
      simp only [List.mem_cons, List.not_mem_nil, or_false] at hq
      rcases hq with rfl | rfl <;> exact Nat.le_of_ble_eq_true rfl) hm with h1 | h1
    · simp [Tr.get] at h1
    · simp only [List.mem_cons, Prod.mk.injEq, List.not_mem_nil, or_false] at h1
      exact h1
  have hro : ∀ m, ¬ wlive (hSR gS gR) m := by
    rintro m ⟨o, h1, h2⟩
    rcases hget m o h1 with ⟨_, rfl⟩ | ⟨_, rfl⟩ <;> cases h2
  refine ⟨⟨fun m o hm => ?_, fun m _ _ _ _ _ hl => absurd hl (hro m), fun m b s hb => ?_, fun p hp => gfind_of hp gtab_nd, fun b c q => ⟨phiW_ok w b c q, fun m s hl => absurd hl (hro m)⟩⟩, fun m hm => ?_, hro⟩
  · rcases hget m o hm with ⟨rfl, rfl⟩ | ⟨rfl, rfl⟩
    · refine ⟨0, 0, rfl, c0, el0, fz0, k0, ?_, fun i x hx => by rw [Nat.zero_add]; exact m0 i x hx⟩
      show c0.size = sizeW w 0
      unfold sizeW; rw [k0]
    · refine ⟨1, 0, rfl, c1, el1, fz1, k1, ?_, fun i x hx => by rw [Nat.zero_add]; exact m1 i x hx⟩
      show c1.size = sizeW w 1
      unfold sizeW; rw [k1]
  · obtain ⟨p, h1, _, h2⟩ := gfind_mem hb
    cases h2; exact hw p h1
  · cases q : (EW w).ι m with
    | none => rfl
    | some _ => obtain ⟨p', h1, h2, _⟩ := gfind_mem q; have := gtab_lt h1; simp only [gN, gtab, List.length_cons, List.length_nil] at this; omega
theorem law_calls {f : FuncId} {fn : Func} {code : Code} (hf : Tryz.prog.funcs[f]? = some fn) (hb : fn.body = some code) {ds : List D} {vs : List Value} {w : World}
    (l : (Nat.ble (ds.map D.toV).length fn.ntmps && Nat.blt fn.ntmps top) = true) (hT : TG Tryz.prog 3 fn.ntmps code (startSt (ds.map D.toV) (hSR gS gR) 3) (RetG Tryz.prog 3 fn fun u _ _ => u = .bool true))
    (hw : WG w) (hl : laidMetH Tryz.prog laidL w) (ra : vrels (EW w) (ds.map D.toV) vs) : Calls Tryz.prog f vs.toArray w fun e w' => e = .returned (.bool true) ∧ Below w.heap.size w w' := by
  obtain ⟨g, hd, hro⟩ := EW_ok hw hl
  refine (calls_pure mo po hf hb l hT ra g hd hro).mono fun e w' ⟨⟨E2, ho⟩, hbl⟩ => ⟨?_, hbl⟩
  cases e with
  | returned v' =>
    have ho : vrel E2 (.bool true) v' := ho
    simp only [vrel] at ho
    rw [ho]
  | _ => exact ho.elim
set_option linter.constructorNameAsVariable false
section
variable {H : Type} {enc : TypeId × Value → H} {w : World} {r : Reach} {base : Nat} {t : TypeId} {v : Value} {d : DataW H} {ps : List MemPlace} {spare : Nat → Bool} {held : Bool}
end
end Go.Proofs.YtmjggdmekboefaaGreatDoor.Sha
