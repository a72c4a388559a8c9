/- The engine, part SK: ranges over functions, entered. No conditions: lemmas alone. -/
import Derived.Test.YtadejpmecljjpaaEngFive
import Derived.Sort.Row
import Derived.Sort.Grow
import Derived.Test.YtadejpmecljjpaaEngFour
set_option linter.unusedVariables false
set_option linter.unusedSimpArgs false
set_option linter.unusedSectionVars false
namespace Go.Eng
open Go Go.RowKit
def isRange : Code → Bool | .rangeFunc .. => true | _ => false
def rG : Code → Operand | .rangeFunc g _ _ _ => g | _ => .const (.bool true)
def rPs : Code → List Nat | .rangeFunc _ ps _ _ => ps.toList | _ => []
def rA : Code → Code | .rangeFunc _ _ a _ => a | c => c
def rB : Code → Code | .rangeFunc _ _ _ b => b | c => c
def rHeap (c : Code) (s : St) : Tr O := (s.h.set s.n (some .dfr)).set (s.n + 1) (some (.loop true none s.fr (rPs c) (rA c) (rB c)))
def rEnd (s : St) (h : Tr O) (n : Nat) : St := { s with h := h.set (s.n + 1) none, n := n, dfs := (top, [], [.map (some s.n)]) :: s.dfs }
def rGood (s : St) (h : Tr O) : Bool := match h.get s.n, h.get (s.n + 1) with
  | some .dfr, some (.loop true none _ _ _ _) => true
  | _, _ => false
open Classical in
noncomputable def pinC (f : FuncId) (args : List V) (h : Tr O) (n : Nat) (r : Out × Tr O × Nat) : CallF := fun f' a' h' n' => if f' = f ∧ a' = args ∧ h' = h ∧ n' = n then some r else none
theorem pinC_ok {P : Program} {f : FuncId} {args : List V} {h : Tr O} {n : Nat} {out : Out} {h1 : Tr O} {n1 : Nat} (hlt : f < P.funcs.size) (hc : ∀ E w args', vrels E args args' → Good E h w → Dom E n → Calls P f args'.toArray w (CPost E h n w out h1 n1)) : CallOk P (pinC f args h n (out, h1, n1)) := by
  intro f' a' h' n' out' h2 n2 e E w args' ra g hd
  unfold pinC at e
  split at e
  · rename_i hq
    obtain ⟨rfl, rfl, rfl, rfl⟩ := hq
    simp only [Option.some.injEq, Prod.mk.injEq] at e
    obtain ⟨rfl, rfl, rfl⟩ := e
    exact ⟨fun _ => hc E w args' ra g hd, fun m l s hf _ => absurd hlt (by rw [hf]; exact Nat.not_lt.2 (Nat.le_add_right _ _))⟩
  · cases e
theorem TG_range {P : Program} {n0 N : Nat} {c : Code} {s : St} {Q : Exit → St → Prop} {gf : FuncId} {lb : List V} {v : V} {h' : Tr O} {n' : Nat} (hm : P.follows .mixedOrders = true) (hr : isRange c = true) (hok : codeOk N c = true)
    (hg : opd s.fr (rG c) = some (.fn (.func gf) [] lb)) (hcal : (callee P gf && Nat.blt gf P.funcs.size) = true) (ht : Nat.blt (s.n + 1) top = true)
    (hc : ∀ E w args', vrels E (.fn (.yield (s.n + 1)) [] [] :: lb) args' → Good E (rHeap c s) w → Dom E (s.n + 2) → Calls P gf args'.toArray w (CPost E (rHeap c s) (s.n + 2) w (.ret v) h' n'))
    (hgood : rGood s h' = true) (hQ : Q .normal (rEnd s h' n')) : TG P n0 N c s Q := by
  cases c <;> simp only [isRange, Bool.false_eq_true] at hr
  rename_i g ps assign body
  simp only [Bool.and_eq_true] at hcal
  have hlt : gf < P.funcs.size := Nat.le_of_ble_eq_true hcal.2
  have ht' : s.n + 1 < top := Nat.le_of_ble_eq_true ht
  refine TG_exec (cf := pinC gf (.fn (.yield (s.n + 1)) [] [] :: lb) (rHeap (.rangeFunc g ps assign body) s) (s.n + 2) (.ret v, h', n')) (F := 0) (pinC_ok hlt hc) hm hok (x := .normal) (s' := rEnd s h' n') ?_ rfl hQ
  have hg' : opd s.fr g = some (.fn (.func gf) [] lb) := hg
  simp only [exec, hg']
  rw [if_pos ⟨hcal.1, ht'⟩]
  have hp : pinC gf (.fn (.yield (s.n + 1)) [] [] :: lb) (rHeap (.rangeFunc g ps assign body) s) (s.n + 2) (.ret v, h', n') gf (.fn (.yield (s.n + 1)) [] [] :: lb) ((s.h.set s.n (some .dfr)).set (s.n + 1) (some (.loop true none s.fr ps.toList assign body))) (s.n + 2) = some (.ret v, h', n') := by
    unfold pinC
    exact if_pos ⟨rfl, rfl, rfl, rfl⟩
  rw [hp]
  simp only
  unfold rGood at hgood
  split at hgood
  · rename_i h1 h2
    simp only [h1, h2]
    rfl
  · cases hgood
theorem TG_monoN {P : Program} {n0 N : Nat} {c : Code} {s : St} {Q Q1 : Exit → St → Prop} (h : TG P n0 N c s Q1) (hq : ∀ y s', Q1 y s' → ∃ L S, normG n0 L s' = some S ∧ Q y S) : TG P n0 N c s Q := by
  intro E a w K r hn k
  refine h E a w K r hn fun y s' E' a' w' q u hn' r' => ?_
  obtain ⟨L, S, hS, hQ⟩ := hq y s' q
  obtain ⟨_, hn2, E2, r2, u2⟩ := normG_sound hS r'
  exact k y S E2 a' w' hQ (u.trans u2) hn2 r2
end Go.Eng
namespace Go.Eng
open Go Go.RowKit
theorem slc_nil_any {E E' : Env} {l c z : Nat} {y : Value} (q : vrel E (.slc none l c z) y) : vrel E' (.slc none l c z) y := q
def rowSpec (k : IntKind) (esz : Nat) (S : Bool → Nat → List Int → List V → Option (List Prop × V)) : List V → Tr O → Option (List Prop × V)
  | v :: X, h => match rowK k esz h v with
    | some (a, l, ks) => S a.isNone l ks X
    | none => none
  | [], _ => none
theorem rowSpec_ok {P : Program} (hm : P.follows .mixedOrders = true) (hpo : progOk P = true) {f : FuncId} {fn : Func} {code : Code} (hlt : f < P.funcs.size) (hf : P.funcs[f]? = some fn) (hb : fn.body = some code) {k : IntKind} {esz : Nat} {S : Bool → Nat → List Int → List V → Option (List Prop × V)}
    (hX : ∀ nil l ks X A u, S nil l ks X = some (A, u) → u.free = true ∧ V.frees X = true ∧ (Nat.ble (X.length + 1) fn.ntmps && Nat.blt fn.ntmps top) = true)
    (run0 : ∀ X A u c z, S true 0 [] X = some (A, u) → (∀ a ∈ A, a) → TG P 1 fn.ntmps code (startSt (.slc none 0 c z :: X) (rH [none]) 1) (RetG P 1 fn fun a _ _ => a = u))
    (run : ∀ l ks X A u c, S false l ks X = some (A, u) → (∀ a ∈ A, a) → TG P 1 fn.ntmps code (startSt (.slc (some (0, 0)) l c esz :: X) (rH [some (k, ks)]) 1) (RetG P 1 fn fun a _ _ => a = u)) : PureA P f (rowSpec k esz S) := by
  refine ⟨hlt, fun args h A u e => ?_⟩
  unfold rowSpec at e
  split at e
  case h_2 => cases e
  rename_i v X
  split at e
  case h_2 => cases e
  rename_i a l ks hr
  obtain ⟨hu, hXf, hlen⟩ := hX _ _ _ _ _ _ e
  refine ⟨hu, fun hA E n w args' ra g hd hc => ?_⟩
  obtain ⟨y, ys, r0, rs, rfl⟩ := ra
  rcases rowK_cases hr with ⟨c, z, rfl, rfl, rfl, rfl⟩ | ⟨m, o, c, full, rfl, rfl, hmm, hdr⟩
  · obtain ⟨g2, d2, n2⟩ := rows_ok g [none] [none] (Nat.le_of_ble_eq_true rfl) (by
      intro j k ks' hj
      match j, hj with
      | 0, hj => cases hj
      | j + 1, hj => simp at hj)
    exact read_calls hm hpo hf hb (by exact hlen) (run0 X A u c z e hA) (E := E.rows [none]) g2 d2 n2 ⟨y, ys, slc_nil_any r0, frees_rel _ _ hXf rs, rfl⟩
  · obtain ⟨g2, d2, n2⟩ := rows_ok g [some (m, o)] [some (k, ks)] (Nat.le_of_ble_eq_true rfl) (by
      intro j k ks' hj
      match j, hj with
      | 0, hj => cases hj; exact ⟨m, o, full, rfl, hmm, hdr⟩
      | j + 1, hj => simp at hj)
    exact read_calls hm hpo hf hb (by exact hlen) (run l ks X A u c e hA) (E := E.rows [some (m, o)]) g2 d2 n2 ⟨y, ys, rows_slc rfl r0, frees_rel _ _ hXf rs, rfl⟩
end Go.Eng
namespace Go.Eng
open Go Go.RowKit
def sortI (ks : List Int) : List Int := ks.mergeSort fun x y => decide (x ≤ y)
theorem sortI_len (ks : List Int) : (sortI ks).length = ks.length := List.length_mergeSort ..
def Sorts (P : Program) (f : FuncId) : Prop := ∀ (blk off cap : Nat) (zs : List Int) (w : World), Sort.Holds (Value.int .i64) w blk off zs.toArray → blk < w.heap.size → zs.length < 4611686018427387904 →
  Calls P f #[.slice (some ⟨blk, off, none⟩) zs.length cap] w fun e w' => e = .returned (.tuple #[]) ∧ ∃ n os, w' = Sort.grow (Sort.putRow (Value.int .i64) (Sort.ahead w n) blk off (zs.mergeSort fun x y => decide (x ≤ y)).toArray) os
def sortSpec : List V → Tr O → Nat → Option (List Prop × V × Tr O × Nat)
  | [.slc (some (m, 0)) l _ 1], h, n => match h.get m with
    | some (.own .i64 ks) => match Nat.blt m top with
      | true => some ([0 < l, l = ks.length, l < 1000000], .tup [], h.set m (some (.own .i64 (sortI ks))), n)
      | false => none
    | _ => none
  | _, _, _ => none
theorem sorted_heap (w : World) (n b s : Nat) (zs : List Int) (os : Array Obj) {c : Array Value} {el : TypeId} {fz : Nat × Nat} (hb : w.heap[b]? = some (.cells c el fz)) (k : Nat) (hk : k < w.heap.size) :
    (Sort.grow (Sort.putRow (Value.int .i64) (Sort.ahead w n) b s zs.toArray) os).heap[k]? = if k = b then some (.cells (Sort.putCells (Value.int .i64) s zs.toArray c) el fz) else w.heap[k]? := by
  have h1 : (Sort.grow (Sort.putRow (Value.int .i64) (Sort.ahead w n) b s zs.toArray) os).heap[k]? = (Sort.putRow (Value.int .i64) (Sort.ahead w n) b s zs.toArray).heap[k]? := by
    show ((Sort.putRow (Value.int .i64) (Sort.ahead w n) b s zs.toArray).heap ++ os)[k]? = _
    rw [Array.getElem?_append_left]
    rw [Sort.size_putRow]; exact hk
  rw [h1]
  show (w.heap.modify b (Sort.onCells _))[k]? = _
  rw [Array.getElem?_modify]
  by_cases q : k = b
  · subst q; rw [if_pos rfl, if_pos rfl, hb]; rfl
  · rw [if_neg (fun z => q z.symm), if_neg q]
theorem sortSpec_ok {P : Program} {f : FuncId} (hlt : f < P.funcs.size) (hs : Sorts P f) : OneW P f sortSpec := by
  refine ⟨hlt, fun args h n A v h' n' e hA E w args' ra g hd hc => ?_⟩
  unfold sortSpec at e
  split at e
  case h_2 => cases e
  rename_i m l cp
  split at e
  case h_2 => cases e
  rename_i ks hm
  split at e
  case h_2 => cases e
  rename_i hmt
  have hmt : m < top := Nat.le_of_ble_eq_true hmt
  simp only [Option.some.injEq, Prod.mk.injEq] at e
  obtain ⟨rfl, rfl, rfl, rfl⟩ := e
  have h0 : 0 < l := hA _ (by simp)
  have hl : l = ks.length := hA _ (by simp)
  have hbig : l < 1000000 := hA _ (by simp)
  obtain ⟨y, ys, r0, rs, rfl⟩ := ra
  have rs : ys = [] := rs
  subst rs
  obtain ⟨b, s, o', cap', e1, q1, q2, q3, q4, rfl⟩ := r0
  have ho : o' = s := by have := q1 (by omega); omega
  subst ho
  obtain ⟨b', s', e2, c, el, fz, k1, k2, k3, k4⟩ := g.rel m _ hm
  rw [e1] at e2
  simp only [Option.some.injEq, Prod.mk.injEq] at e2
  obtain ⟨rfl, rfl⟩ := e2
  have hbb : b < w.heap.size := g.bnd m b o' e1
  have hin := crel_ints.1 k4
  have hcell : ∀ j, j < ks.length → c[o' + j]? = some (.int .i64 (ks.toArray[j]!)) := by
    intro j hj
    rw [hin j (ks[j]) (List.getElem?_eq_getElem hj)]
    rw [getElem!_pos ks.toArray j (by simpa using hj)]
    simp
  have hH : Sort.Holds (Value.int .i64) w b o' ks.toArray := by
    intro j hj
    have hj : j < ks.length := by simpa using hj
    have hcj := hcell j hj
    refine ⟨by unfold World.cell?; simp only [k1]; exact hcj, ?_⟩
    unfold World.frozen?
    simp only [k1]
    have hlt' : o' + j < c.size := by
      rcases Nat.lt_or_ge (o' + j) c.size with q | q
      · exact q
      · rw [Array.getElem?_eq_none q] at hcj; cases hcj
    have := k3 (o' + j) hlt'
    obtain ⟨lo, hi⟩ := fz
    simp only at this ⊢
    cases hq : (decide (lo ≤ o' + j) && decide (o' + j < hi)) with
    | false => rfl
    | true =>
      simp only [Bool.and_eq_true, decide_eq_true_eq] at hq
      exact absurd hq this
  subst hl
  refine (hs b o' cap' ks w hH hbb (by omega)).mono fun en w' ⟨he, nn, os, hw⟩ => ?_
  have hheap : ∀ k, k < w.heap.size → w'.heap[k]? = if k = b then some (.cells (Sort.putCells (Value.int .i64) o' (sortI ks).toArray c) el fz) else w.heap[k]? := by
    intro k hk
    rw [hw]
    exact sorted_heap w nn b o' (sortI ks) os k1 k hk
  have hsz : w.heap.size ≤ w'.heap.size := by
    rw [hw]
    show w.heap.size ≤ ((Sort.putRow (Value.int .i64) (Sort.ahead w nn) b o' (ks.mergeSort fun x y => decide (x ≤ y)).toArray).heap ++ os).size
    rw [Array.size_append, Sort.size_putRow]
    exact Nat.le_add_right _ _
  have hwl : wlive h m := ⟨_, hm, rfl⟩
  have hget : ∀ j, (h.set m (some (O.own .i64 (sortI ks)))).get j = if j = m then some (O.own .i64 (sortI ks)) else h.get j := fun j => Tr.get_set _ _ _ hmt
  have hlive : ∀ j, ((h.set m (some (O.own .i64 (sortI ks)))).get j ≠ none ↔ h.get j ≠ none) ∧ (wlive (h.set m (some (O.own .i64 (sortI ks)))) j → wlive h j) := by
    intro j
    rw [hget]
    by_cases q : j = m
    · subst q; rw [if_pos rfl, hm]; exact ⟨by simp, fun _ => hwl⟩
    · rw [if_neg q]; exact ⟨Iff.rfl, fun z => wlive_ne hmt z q⟩
  have g' : Good E (h.set m (some (O.own .i64 (sortI ks)))) w' := by
    refine ⟨fun j o hj => ?_, fun j j' x t t' hne hj hj' e1 e2 => g.inj j j' x t t' hne ((hlive j).2 hj) ((hlive j').1.1 hj') e1 e2, fun j x t e => Nat.lt_of_lt_of_le (g.bnd j x t e) hsz⟩
    rw [hget] at hj
    split at hj
    · rename_i q; subst q
      simp only [Option.some.injEq] at hj; subst hj
      refine ⟨b, o', e1, Sort.putCells (Value.int .i64) o' (sortI ks).toArray c, el, fz, by rw [hheap b hbb, if_pos rfl], by simp [Sort.putCells, k2], by simpa [Sort.putCells] using k3, crel_ints.2 fun i x hi => ?_⟩
      have hil : i < (sortI ks).length := by
        rcases Nat.lt_or_ge i (sortI ks).length with q | q
        · exact q
        · rw [List.getElem?_eq_none q] at hi; cases hi
      have hc := hcell i (by rw [← sortI_len]; exact hil)
      simp only [Sort.putCells, Array.getElem?_mapIdx, hc, Option.map_some]
      rw [if_pos ⟨by omega, by simp; exact hil⟩, show o' + i - o' = i by omega, getElem!_pos (sortI ks).toArray i (by simpa using hil)]
      rw [List.getElem?_eq_getElem hil] at hi
      simp only [Option.some.injEq] at hi
      simp [hi]
    · rename_i q
      obtain ⟨x, t, h1, h2⟩ := g.rel j o hj
      refine ⟨x, t, h1, orel_mono (Env.le_refl E) rfl ?_ h2⟩
      have hx := g.bnd j x t h1
      rw [hheap x hx, if_neg]
      rintro rfl
      exact g.inj m j x o' t (fun z => q z.symm) hwl (by rw [hj]; simp) e1 h1
  refine ⟨E, ⟨Env.le_refl E, g', hsz, by rw [hw]; rfl, by rw [hw]; rfl, by rw [hw]; rfl, fun x hx hno => ?_, fun j x t hj e hx => ⟨j, t, (hlive j).1.1 hj, e, (hlive j).2⟩⟩, fun _ _ => rfl, hd, Nat.le_refl _, ?_⟩
  · rw [hheap x hx, if_neg]
    rintro rfl
    exact hno m o' hwl e1
  · rw [he]
    exact ⟨[], rfl, rfl⟩
end Go.Eng
namespace Go.Eng
open Go Go.RowKit
theorem nuOf_congr {n0 n : Nat} {h1 h2 : Tr O} (h : ∀ m, n0 ≤ m → h1.get m = h2.get m) : nuOf [] h1 n0 n = nuOf [] h2 n0 n := by
  funext m
  unfold nuOf
  cases hb : Nat.blt m n0 with
  | true => rfl
  | false =>
    have hm : n0 ≤ m := by
      rcases Nat.lt_or_ge m n0 with q | q
      · have := Nat.ble_eq_true_of_le q
        have hb' : Nat.ble (m + 1) n0 = false := hb
        rw [hb'] at this; cases this
      · exact q
    simp only
    rw [h m hm]
theorem embH_congr {ν : Nat → Option Nat} {n0 n : Nat} {h1 h2 : Tr O} (h : ∀ m, n0 ≤ m → h1.get m = h2.get m) : ∀ (i j : Nat) (t : Tr O), n0 ≤ j → embH ν h1 n0 n i j t = embH ν h2 n0 n i j t
  | 0, _, _, _ => rfl
  | i + 1, j, t, hj => by
    unfold embH
    rw [h j hj]
    split
    · exact embH_congr h i (j + 1) t (by omega)
    · split
      · split
        · split
          · exact embH_congr h i (j + 1) _ (by omega)
          · rfl
        · rfl
      · rfl
theorem emb_congr {n0 n n1 : Nat} {h1 h2 t : Tr O} {u : V} (h : ∀ m, n0 ≤ m → h1.get m = h2.get m) : emb [] n0 (u, h1, n1) t n = emb [] n0 (u, h2, n1) t n := by
  unfold emb
  simp only
  rw [nuOf_congr h, embH_congr h _ _ _ (Nat.le_refl _)]
theorem hL_lo (b : Nat) (hb : b < top) : ∀ (l : List (Nat × O)) (t : Tr O) (m : Nat), (∀ p ∈ l, p.1 < b) → b ≤ m → (hL.go t l).get m = t.get m
  | [], t, m, _, _ => rfl
  | (j, v) :: r, t, m, hl, hm => by
    have hj : j < b := hl (j, v) (by simp)
    show (hL.go (t.set j (some v)) r).get m = _
    rw [hL_lo b hb r _ m (fun p hp => hl p (by simp [hp])) hm, Tr.get_set_ne _ _ (by omega) (by omega)]
theorem hL_app : ∀ (l l2 : List (Nat × O)) (t : Tr O), hL.go t (l ++ l2) = hL.go (hL.go t l) l2
  | [], _, _ => rfl
  | (_, _) :: r, l2, _ => hL_app r l2 _
theorem hL_get : ∀ (l : List (Nat × O)) (t t2 : Tr O) (m : Nat), (∀ p ∈ l, p.1 < top) → t.get m = t2.get m → (hL.go t l).get m = (hL.go t2 l).get m
  | [], _, _, _, _, h => h
  | (j, v) :: r, t, t2, m, hl, h => by
    show (hL.go (t.set j (some v)) r).get m = (hL.go (t2.set j (some v)) r).get m
    refine hL_get r _ _ m (fun p hp => hl p (by simp [hp])) ?_
    have hj : j < top := hl (j, v) (by simp)
    rw [Tr.get_set _ _ _ hj, Tr.get_set _ _ _ hj, h]
theorem hL_over (b : Nat) (hb : b < top) (rows ex : List (Nat × O)) (hr : ∀ p ∈ rows, p.1 < b) (he : ∀ p ∈ ex, p.1 < top) (m : Nat) (hm : b ≤ m) : (hL (rows ++ ex)).get m = (hL ex).get m := by
  show (hL.go .nil (rows ++ ex)).get m = (hL.go .nil ex).get m
  rw [hL_app]
  exact hL_get ex _ _ m he (hL_lo b hb rows .nil m hr hm)
theorem emb_rows (b n n1 : Nat) (rows ex : List (Nat × O)) (u : V) (t : Tr O) (hb : Nat.blt b top = true) (hr : rows.all (fun p => Nat.blt p.1 b) = true) (he : ex.all (fun p => Nat.blt p.1 top) = true) :
    emb [] b (u, hL (rows ++ ex), n1) t n = emb [] b (u, hL ex, n1) t n := by
  have hb' : b < top := Nat.le_of_ble_eq_true hb
  refine emb_congr fun m hm => hL_over b hb' rows ex (fun p hp => ?_) (fun p hp => ?_) m hm
  · exact Nat.le_of_ble_eq_true (List.all_eq_true.1 hr p hp)
  · exact Nat.le_of_ble_eq_true (List.all_eq_true.1 he p hp)
theorem RunIs.of {P : Program} {cs : CallS} {H : List (Nat × Fix)} {F n0 : Nat} {fn : Func} {live : List Nat} {c : Code} {s : St} {G : List (List (Bool × Bool) × List Prop × ResG)} (h1 : runOk P cs H F c s = true) (h2 : runL P cs H F c s = runR P cs H F c s) (h3 : runG P cs H F n0 fn live c s = G) :
    ∃ L, RunIs P cs H F n0 fn live c s L G := by
  refine ⟨runL P cs H F c s, ?_⟩
  unfold RunIs runA
  unfold runOk at h1
  unfold runL runR at h2
  unfold runG at h3
  unfold runL
  cases hl : codeX P cs H F c s with
  | none => rw [hl] at h1; cases h1
  | some l =>
    rw [hl] at h2 h3
    have h2 : samesL l = samesR l := h2
    have h3 : tells (toldG P n0 fn live) l = G := h3
    show some (samesL l, samesR l, tells (toldG P n0 fn live) l) = some (samesL l, samesL l, G)
    rw [h3, ← h2]
end Go.Eng
namespace Go.Eng
open Go Go.RowKit
theorem struct_inW {H : Type} {enc : TypeId × Value → H} {P : Program} {W : World} {r : Reach} {base : Nat} {t : TypeId} {fs : Array Field} {m : Nat} {v : Value} {d : DataW H} {p : List MemPlace} {us : List TypeId} (hs : P.underlying t = some (.struct fs)) (hC : P.cellsOf t = m) (hU : P.cellTypes P.depth t = some us) (hul : us.length = m)
    (hv : Value.okWide P W r base t v) (h : DataW.Trod enc P W 0 (fun _ => true) true t v d p) :
    ∃ cs : Array Value, v = .agg cs ∧ cs.size = m ∧ (∀ (j : Nat) u x, us[j]? = some u → cs[j]? = some x → Cell.okWide P W r base u x) ∧ ∃ n, ∀ (j : Nat) f, fs[j]? = some f → ∃ y, DataW.trod enc P W 0 (fun _ => true) true n f.type ((cs.toList.drop f.offset).take (P.cellsOf f.type)) = some y := by
  simp only [Value.okWide, hs] at hv
  obtain ⟨cs, rfl, hsz, ts, hts, _, hrow⟩ := hv
  rw [hU] at hts
  simp only [Option.some.injEq] at hts
  subst hts
  obtain ⟨fuel, h⟩ := h
  obtain ⟨xs, n, _, _, _, hxl, hx⟩ := DataW.trod_struct hs h
  refine ⟨cs, rfl, by omega, fun j u x hu hc => ?_, n, fun j f hj => ?_⟩
  · obtain ⟨u', hu1, hu2⟩ := hrow j x hc
    have hj : j < us.length := by
      rcases Nat.lt_or_ge j us.length with q | q
      · exact q
      · rw [List.getElem?_eq_none q] at hu; cases hu
    rw [Nat.mod_eq_of_lt hj, hu] at hu1
    simp only [Option.some.injEq] at hu1
    subst hu1
    exact hu2
  · have hg := hx j f hj
    have hjl : j < fs.size := (Array.getElem?_eq_some_iff.1 hj).1
    have hxj : xs[j]? = some (xs[j]'(by omega)) := List.getElem?_eq_getElem (by omega)
    exact ⟨_, hg.trans hxj⟩
theorem array_ints {H : Type} {enc : TypeId × Value → H} {P : Program} {W : World} {t e : TypeId} {len n : Nat} {k : IntKind} {l : List Value} {y : DataW H × List MemPlace} (hs : P.underlying t = some (.array len e)) (he : P.underlying e = some (.int k)) (h1 : P.cellsOf e = 1)
    (h : DataW.trod enc P W 0 (fun _ => true) true n t l = some y) (j : Nat) (hj : j < len) (hl : j < l.length) : ∃ i, l[j]? = some (.int k i) := by
  obtain ⟨xs, n, _, _, _, hxl, hx⟩ := DataW.trod_array hs h
  have hg := hx j hj
  rw [h1] at hg
  have e1 : (l.drop (j * 1)).take 1 = [l[j]] := by
    rw [Nat.mul_one, List.drop_eq_getElem_cons hl, List.take_succ_cons, List.take_zero]
  rw [e1] at hg
  have hxj : xs[j]? = some (xs[j]'(by omega)) := List.getElem?_eq_getElem (by omega)
  obtain ⟨i, hi⟩ := int_in he (hg.trans hxj)
  exact ⟨i, by rw [List.getElem?_eq_getElem hl, hi]⟩
end Go.Eng
