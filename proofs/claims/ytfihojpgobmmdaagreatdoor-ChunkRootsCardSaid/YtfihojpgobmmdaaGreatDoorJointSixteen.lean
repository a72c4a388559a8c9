/- The Chunk laws: ChunkOnce, its pieces. No conditions. -/
import Derived.Test.YtfihojpgobmmdaaGreatDoorJointFourteen
import Derived.Test.YtfihojpgobmmdaaGreatDoorJointFifteen
import Derived.Shelf.SlicesG.Clone
set_option linter.unusedVariables false
set_option linter.unusedSimpArgs false
set_option linter.unusedSectionVars false
namespace Go.Proofs.YtfihojpgobmmdaaGreatDoor
open Go Go.Eng
abbrev P3 : V := .ptr (some (3, 0))
abbrev nilS : V := .slc none 0 0 0
noncomputable abbrev pn15 (a : List V) (h : Tr O) (n : Nat) (r : V × Tr O × Nat) : CallS := pinS csL 15 a h n r
def hJ (d : List UInt8) (p : Sto) : Tr O := (memS p).set 7 (some (.cells [.str d]))
end Go.Proofs.YtfihojpgobmmdaaGreatDoor
namespace Go.Proofs.YtfihojpgobmmdaaGreatDoor
open Go Go.Eng
noncomputable abbrev cdRt : Code := bodyOf Tryz.f16
noncomputable abbrev csU (l : List (Nat × List (Nat × Fix))) : CallS := callX Tryz.prog W16 (hints l) 1000 40
noncomputable abbrev XU (l : List (Nat × List (Nat × Fix))) : CX Tryz.prog := CX.of mo po W16_ok (hints l) 1000 40
def hRn (d0 : List UInt8) (rs0 : List (List UInt8)) (k : Int) : List (Nat × List (Nat × Fix)) := [(18, [(15, .give (.tup [entV d0 rs0 k, .bool true]))]), (46, [(13, .give (.bool false))]), (50, [(7, .give (.bool false))])]
def hRt (was : List UInt8) (ex b1 b2 b3 b4 b5 b6 : Bool) : List (Nat × Fix) := [(18, .give (.tup [.str was, .bool ex])), (23, .give (.bool b1)), (27, .give (.bool b2)), (31, .give (.bool b3)), (36, .give (.bool b4)), (40, .give (.bool b3)), (51, .give (.bool b5)), (56, .give (.bool b6))]
theorem rt_arg1 (n d was : List UInt8) (ex : Bool) (len cap : Nat) (b : List UInt8) (fl nx lf : Int) (es rt : List (D × D)) : ∃ L, RunIs Tryz.prog (csU []) (hRt was ex true false false false false false) 1000 7 Tryz.f16 [] (cdRt) (startSt [P3, .str n, .str d] (memS (pS len cap b fl nx lf es rt)) 7) L
    [([],
      [((if true = true then V.tup [D.valV (V.str ([] : List UInt8)) (lookD (D.str n) rt), V.bool (lookD (D.str n) rt).isSome] else D.valV (V.str ([] : List UInt8)) (lookD (D.str n) rt)) = V.tup [V.str was, V.bool ex]), (V.bool (beqB n ([] : List UInt8)) = V.bool true)],
      .ret (.int .i64 1) (memS (pS len cap b fl nx lf es rt)) 7)]
  := RunIs.of (by kernel_rfl) (by kernel_rfl) (by kernel_rfl)
theorem rt_arg2 (n d was : List UInt8) (ex : Bool) (len cap : Nat) (b : List UInt8) (fl nx lf : Int) (es rt : List (D × D)) : ∃ L, RunIs Tryz.prog (csU []) (hRt was ex false true false false false false) 1000 7 Tryz.f16 [] (cdRt) (startSt [P3, .str n, .str d] (memS (pS len cap b fl nx lf es rt)) 7) L
    [([],
      [((if true = true then V.tup [D.valV (V.str ([] : List UInt8)) (lookD (D.str n) rt), V.bool (lookD (D.str n) rt).isSome] else D.valV (V.str ([] : List UInt8)) (lookD (D.str n) rt)) = V.tup [V.str was, V.bool ex]), (V.bool (beqB n ([] : List UInt8)) = V.bool false), (V.bool (decide ((Int.ofNat n.length) > (64 : Int))) = V.bool true)],
      .ret (.int .i64 1) (memS (pS len cap b fl nx lf es rt)) 7)]
  := RunIs.of (by kernel_rfl) (by kernel_rfl) (by kernel_rfl)
theorem rt_many (n d d0 : List UInt8) (rs0 : List (List UInt8)) (k : Int) (len cap : Nat) (b : List UInt8) (fl nx lf : Int) (es rt : List (D × D)) : ∃ L, RunIs Tryz.prog (csU (hHas d0 rs0 k)) (hRt [] false false false true false true false) 1000 7 Tryz.f16 [] (cdRt) (startSt [P3, .str n, .str d] (memS (pS len cap b fl nx lf es rt)) 7) L
    [([],
      [((if true = true then V.tup [D.valV (V.str ([] : List UInt8)) (lookD (D.str n) rt), V.bool (lookD (D.str n) rt).isSome] else D.valV (V.str ([] : List UInt8)) (lookD (D.str n) rt)) = V.tup [V.str [], V.bool false]), (V.bool (beqB n ([] : List UInt8)) = V.bool false), (V.bool (decide ((Int.ofNat n.length) > (64 : Int))) = V.bool false), ((V.bool !beqB d ([] : List UInt8)) = V.bool true), ((if true = true then V.tup [D.valV (V.agg [V.str ([] : List UInt8), V.slc none 0 0 0, V.int IntKind.i64 (0 : Int)]) (lookD (D.str d) es), V.bool (lookD (D.str d) es).isSome] else D.valV (V.agg [V.str ([] : List UInt8), V.slc none 0 0 0, V.int IntKind.i64 (0 : Int)]) (lookD (D.str d) es)) = V.tup [entV d0 rs0 k, V.bool true]), ((V.bool !true) = V.bool false), ((V.bool !beqB d ([] : List UInt8)) = V.bool true), (V.bool (decide ((Int.ofNat rt.length) ≥ (64 : Int))) = V.bool true)],
      .ret (.int .i64 2) (memS (pS len cap b fl nx lf es rt)) 7)]
  := RunIs.of (by kernel_rfl) (by kernel_rfl) (by kernel_rfl)
theorem rt_same (n d d0 : List UInt8) (rs0 : List (List UInt8)) (k : Int) (len cap : Nat) (b : List UInt8) (fl nx lf : Int) (es rt : List (D × D)) : ∃ L, RunIs Tryz.prog (csU (hHas d0 rs0 k)) (hRt d true false false true false false true) 1000 7 Tryz.f16 [] (cdRt) (startSt [P3, .str n, .str d] (memS (pS len cap b fl nx lf es rt)) 7) L
    [([],
      [((if true = true then V.tup [D.valV (V.str ([] : List UInt8)) (lookD (D.str n) rt), V.bool (lookD (D.str n) rt).isSome] else D.valV (V.str ([] : List UInt8)) (lookD (D.str n) rt)) = V.tup [V.str d, V.bool true]), (V.bool (beqB n ([] : List UInt8)) = V.bool false), (V.bool (decide ((Int.ofNat n.length) > (64 : Int))) = V.bool false), ((V.bool !beqB d ([] : List UInt8)) = V.bool true), ((if true = true then V.tup [D.valV (V.agg [V.str ([] : List UInt8), V.slc none 0 0 0, V.int IntKind.i64 (0 : Int)]) (lookD (D.str d) es), V.bool (lookD (D.str d) es).isSome] else D.valV (V.agg [V.str ([] : List UInt8), V.slc none 0 0 0, V.int IntKind.i64 (0 : Int)]) (lookD (D.str d) es)) = V.tup [entV d0 rs0 k, V.bool true]), ((V.bool !true) = V.bool false), ((V.bool !beqB d ([] : List UInt8)) = V.bool true), (V.bool (beqB d d) = V.bool true)],
      .ret (.int .i64 0) (memS (pS len cap b fl nx lf es rt)) 7)]
  := RunIs.of (by kernel_rfl) (by kernel_rfl) (by kernel_rfl)
theorem rt_new (n d d0 : List UInt8) (rs0 : List (List UInt8)) (k : Int) (len cap : Nat) (b : List UInt8) (fl nx lf : Int) (es rt : List (D × D)) : ∃ L, RunIs Tryz.prog (csU (hRn d0 rs0 k)) (hRt [] false false false true false false false) 1000 7 Tryz.f16 [] (cdRt) (startSt [P3, .str n, .str d] (memS (pS len cap b fl nx lf es rt)) 7) L
    [([],
      [((if true = true then V.tup [D.valV (V.str ([] : List UInt8)) (lookD (D.str n) rt), V.bool (lookD (D.str n) rt).isSome] else D.valV (V.str ([] : List UInt8)) (lookD (D.str n) rt)) = V.tup [V.str [], V.bool false]), (V.bool (beqB n ([] : List UInt8)) = V.bool false), (V.bool (decide ((Int.ofNat n.length) > (64 : Int))) = V.bool false), ((V.bool !beqB d ([] : List UInt8)) = V.bool true), ((if true = true then V.tup [D.valV (V.agg [V.str ([] : List UInt8), V.slc none 0 0 0, V.int IntKind.i64 (0 : Int)]) (lookD (D.str d) es), V.bool (lookD (D.str d) es).isSome] else D.valV (V.agg [V.str ([] : List UInt8), V.slc none 0 0 0, V.int IntKind.i64 (0 : Int)]) (lookD (D.str d) es)) = V.tup [entV d0 rs0 k, V.bool true]), ((V.bool !true) = V.bool false), ((V.bool !beqB d ([] : List UInt8)) = V.bool true), (V.bool (decide ((Int.ofNat rt.length) ≥ (64 : Int))) = V.bool false), (V.bool (beqB d []) = V.bool false), (n.length < 100000000), (d.length < 100000000), (V.bool (decide (IntKind.i64.wrap ((Int.ofNat len) + (Int.ofNat (namB n d).length)) > (1048576 : Int))) = V.bool false), (0 < cap), (len = b.length), (roomy (len + (namB n d).length) 1 1 = true), (V.bool (beqB d ([] : List UInt8)) = V.bool false)],
      .ret (.int .i64 0) (hL [(0, .ints .u32 gS), (1, .ints .u32 gR), (3, .cells [.slc (some (7, 0)) (len + (namB n d).length) (len + (namB n d).length) 1, .int .i64 fl, .map (some 5), .map (some 6), .int .i64 nx, .bool false, .bool false, .int .i64 lf]), (5, .mapD none es), (6, .mapD none (updD (D.str n) (D.str d) rt)), (7, .buf 5 false (b ++ strI (bytesI (namB n d))))]) 8)]
  := RunIs.of (by kernel_rfl) (by kernel_rfl) (by kernel_rfl)
theorem rt_upd (n d was d0 : List UInt8) (rs0 : List (List UInt8)) (k : Int) (len cap : Nat) (b : List UInt8) (fl nx lf : Int) (es rt : List (D × D)) : ∃ L, RunIs Tryz.prog (csU (hRn d0 rs0 k)) (hRt was true false false true false false false) 1000 7 Tryz.f16 [] (cdRt) (startSt [P3, .str n, .str d] (memS (pS len cap b fl nx lf es rt)) 7) L
    [([],
      [((if true = true then V.tup [D.valV (V.str ([] : List UInt8)) (lookD (D.str n) rt), V.bool (lookD (D.str n) rt).isSome] else D.valV (V.str ([] : List UInt8)) (lookD (D.str n) rt)) = V.tup [V.str was, V.bool true]), (V.bool (beqB n ([] : List UInt8)) = V.bool false), (V.bool (decide ((Int.ofNat n.length) > (64 : Int))) = V.bool false), ((V.bool !beqB d ([] : List UInt8)) = V.bool true), ((if true = true then V.tup [D.valV (V.agg [V.str ([] : List UInt8), V.slc none 0 0 0, V.int IntKind.i64 (0 : Int)]) (lookD (D.str d) es), V.bool (lookD (D.str d) es).isSome] else D.valV (V.agg [V.str ([] : List UInt8), V.slc none 0 0 0, V.int IntKind.i64 (0 : Int)]) (lookD (D.str d) es)) = V.tup [entV d0 rs0 k, V.bool true]), ((V.bool !true) = V.bool false), ((V.bool !beqB d ([] : List UInt8)) = V.bool true), (V.bool (beqB d was) = V.bool false), (n.length < 100000000), (d.length < 100000000), (V.bool (decide (IntKind.i64.wrap ((Int.ofNat len) + (Int.ofNat (namB n d).length)) > (1048576 : Int))) = V.bool false), (0 < cap), (len = b.length), (roomy (len + (namB n d).length) 1 1 = true), (V.bool (beqB d ([] : List UInt8)) = V.bool false)],
      .ret (.int .i64 0) (hL [(0, .ints .u32 gS), (1, .ints .u32 gR), (3, .cells [.slc (some (7, 0)) (len + (namB n d).length) (len + (namB n d).length) 1, .int .i64 fl, .map (some 5), .map (some 6), .int .i64 nx, .bool false, .bool false, .int .i64 lf]), (5, .mapD none es), (6, .mapD none (updD (D.str n) (D.str d) rt)), (7, .buf 5 false (b ++ strI (bytesI (namB n d))))]) 8)]
  := RunIs.of (by kernel_rfl) (by kernel_rfl) (by kernel_rfl)
end Go.Proofs.YtfihojpgobmmdaaGreatDoor
namespace Go.Proofs.YtfihojpgobmmdaaGreatDoor
open Go Go.Eng
theorem keyStr (x : List UInt8) (d : D) : keyEqD (.str x) d = true ↔ d = .str x := by
  cases d <;> simp [keyEqD, beqB_eq]
  exact eq_comm
theorem keyStrF {x : List UInt8} {d : D} (h : d ≠ .str x) : keyEqD (.str x) d = false := by
  cases q : keyEqD (.str x) d with
  | false => rfl
  | true => exact absurd ((keyStr x d).1 q) h
open Classical in
theorem lookD_cons (x : List UInt8) (e : D × D) (es : List (D × D)) : lookD (.str x) (e :: es) = if e.1 = .str x then some e.2 else lookD (.str x) es := by
  simp only [lookD]
  by_cases h : e.1 = .str x
  · rw [if_pos h, (keyStr x e.1).2 h]
  · rw [if_neg h, keyStrF h]
open Classical in
theorem updD_cons (x : List UInt8) (v : D) (e : D × D) (es : List (D × D)) : updD (.str x) v (e :: es) = if e.1 = .str x then (.str x, v) :: es else e :: updD (.str x) v es := by
  simp only [updD]
  by_cases h : e.1 = .str x
  · rw [if_pos h, (keyStr x e.1).2 h]
  · rw [if_neg h, keyStrF h]
theorem look_upd (x y : List UInt8) (v : D) : ∀ es : List (D × D), lookD (.str x) (updD (.str y) v es) = if x = y then some v else lookD (.str x) es
  | [] => by
    show lookD (.str x) [(.str y, v)] = _
    rw [lookD_cons]
    by_cases h : x = y
    · rw [if_pos h, if_pos (by rw [h])]
    · rw [if_neg h, if_neg (by intro q; simp only [D.str.injEq] at q; exact h q.symm)]
  | e :: es => by
    rw [updD_cons]
    by_cases he : e.1 = .str y
    · rw [if_pos he, lookD_cons, lookD_cons]
      by_cases h : x = y
      · rw [if_pos h, if_pos (by rw [h])]
      · rw [if_neg h, if_neg (by intro q; simp only [D.str.injEq] at q; exact h q.symm), if_neg (by rw [he]; intro q; simp only [D.str.injEq] at q; exact h q.symm)]
    · rw [if_neg he, lookD_cons, lookD_cons, look_upd x y v es]
      by_cases h : x = y
      · subst h
        rw [if_neg he, if_pos rfl, if_pos rfl]
      · rw [if_neg h, if_neg h]
theorem upd_len (y : List UInt8) (v : D) : ∀ es : List (D × D), (updD (.str y) v es).length ≤ es.length + 1
  | [] => Nat.le_refl _
  | e :: es => by
    rw [updD_cons]
    split
    · simp
    · have := upd_len y v es
      simp only [List.length_cons]; omega
def Ent (es : List (D × D)) : Prop := ∀ x, lookD (.str x) es = none ∨ Has es x
theorem ent_nil : Ent [] := fun _ => .inl rfl
theorem has_upd {es : List (D × D)} {x y : List UInt8} {d : List UInt8} {rs : List (List UInt8)} {k : Int} (h : Has es x) : Has (updD (.str y) (entD d rs k) es) x := by
  unfold Has at h ⊢
  rw [look_upd]
  by_cases q : x = y
  · rw [if_pos q]; exact ⟨_, _, _, rfl⟩
  · rw [if_neg q]; exact h
theorem has_upd_self {es : List (D × D)} {y : List UInt8} {d : List UInt8} {rs : List (List UInt8)} {k : Int} : Has (updD (.str y) (entD d rs k) es) y := by
  unfold Has
  rw [look_upd, if_pos rfl]; exact ⟨_, _, _, rfl⟩
theorem ent_upd {es : List (D × D)} {y : List UInt8} {d : List UInt8} {rs : List (List UInt8)} {k : Int} (h : Ent es) : Ent (updD (.str y) (entD d rs k) es) := by
  intro x
  rw [look_upd]
  by_cases q : x = y
  · subst q; exact .inr has_upd_self
  · rw [if_neg q]
    rcases h x with h | h
    · exact .inl h
    · exact .inr (has_upd h)
end Go.Proofs.YtfihojpgobmmdaaGreatDoor
namespace Go.Proofs.YtfihojpgobmmdaaGreatDoor
open Go Go.Eng
theorem rt_some {rt : List (D × D)} {n was : List UInt8} (h : lookD (.str n) rt = some (.str was)) : (if true = true then V.tup [D.valV (V.str ([] : List UInt8)) (lookD (D.str n) rt), V.bool (lookD (D.str n) rt).isSome] else D.valV (V.str ([] : List UInt8)) (lookD (D.str n) rt)) = V.tup [V.str was, V.bool true] := by
  rw [h]; rfl
theorem rt_non {rt : List (D × D)} {n : List UInt8} (h : lookD (.str n) rt = none) : (if true = true then V.tup [D.valV (V.str ([] : List UInt8)) (lookD (D.str n) rt), V.bool (lookD (D.str n) rt).isSome] else D.valV (V.str ([] : List UInt8)) (lookD (D.str n) rt)) = V.tup [V.str [], V.bool false] := by
  rw [h]; rfl
theorem vb_t {p : Prop} [Decidable p] (h : p) : V.bool (decide p) = V.bool true := by rw [decide_eq_true h]
theorem vb_f {p : Prop} [Decidable p] (h : ¬ p) : V.bool (decide p) = V.bool false := by rw [decide_eq_false h]
theorem vq_t {a b : List UInt8} (h : a = b) : V.bool (beqB a b) = V.bool true := by rw [beqB_eq, beq_iff_eq.2 h]
theorem vq_f {a b : List UInt8} (h : a ≠ b) : V.bool (beqB a b) = V.bool false := by rw [beqB_eq, beq_eq_false_iff_ne.2 h]
theorem vn_t {a b : List UInt8} (h : a ≠ b) : (V.bool !beqB a b) = V.bool true := by rw [beqB_eq, beq_eq_false_iff_ne.2 h]; rfl
theorem ng64 {n : List UInt8} (h : n.length ≤ 64) : V.bool (decide ((Int.ofNat n.length) > (64 : Int))) = V.bool false := vb_f (by rw [show Int.ofNat n.length = (n.length : Int) from rfl]; omega)
def RtE (rt : List (D × D)) : Prop := ∀ n, lookD (.str n) rt = none ∨ ∃ d, lookD (.str n) rt = some (.str d)
section
variable (n d : List UInt8) (len cap : Nat) (b : List UInt8) (fl nx lf : Int) (es rt : List (D × D))
abbrev nOk : Prop := n ≠ [] ∧ n.length ≤ 64
abbrev memRw (m : Nat) (b' : List UInt8) (rt' : List (D × D)) : Tr O := memNw m b' fl nx lf es rt'
theorem root_arg (hrt : RtE rt) (h : ¬ nOk n) : CallIs Tryz.prog 16 [P3, .str n, .str d] (memS (pS len cap b fl nx lf es rt)) 7 (.int .i64 1) (memS (pS len cap b fl nx lf es rt)) 7 := by
  have hO : ∀ n : Nat, Int.ofNat n = (n : Int) := fun _ => rfl
  have hw : ∃ was ex, (if true = true then V.tup [D.valV (V.str ([] : List UInt8)) (lookD (D.str n) rt), V.bool (lookD (D.str n) rt).isSome] else D.valV (V.str ([] : List UInt8)) (lookD (D.str n) rt)) = V.tup [V.str was, V.bool ex] := by
    rcases hrt n with h | ⟨w, h⟩
    · exact ⟨_, _, rt_non h⟩
    · exact ⟨_, _, rt_some h⟩
  obtain ⟨was, ex, hw⟩ := hw
  refine callIs_of_TG Tryz.func16 (code := cdRt) (by kernel_rfl) (by kernel_rfl) ?_
  by_cases h0 : n = []
  · obtain ⟨L, hr⟩ := rt_arg1 n d was ex len cap b fl nx lf es rt
    refine TG_ret (XU []) mo _ (by kernel_rfl) hr fun g hg _ => ?_
    rw [List.mem_singleton] at hg; subst hg
    refine ⟨?_, _, _, _, rfl, rfl, rfl, rfl⟩
    repeat' (first | exact all_nil | refine List.forall_mem_cons.2 ⟨?_, ?_⟩)
    · exact hw
    · exact vq_t h0
  · have h1 : 64 < n.length := by
      rcases Nat.lt_or_ge 64 n.length with q | q
      · exact q
      · exact absurd ⟨h0, q⟩ h
    obtain ⟨L, hr⟩ := rt_arg2 n d was ex len cap b fl nx lf es rt
    refine TG_ret (XU []) mo _ (by kernel_rfl) hr fun g hg _ => ?_
    rw [List.mem_singleton] at hg; subst hg
    refine ⟨?_, _, _, _, rfl, rfl, rfl, rfl⟩
    repeat' (first | exact all_nil | refine List.forall_mem_cons.2 ⟨?_, ?_⟩)
    · exact hw
    · exact vq_f h0
    · exact vb_t (by rw [hO]; omega)
theorem root_many (hn : nOk n) (hd : d ≠ []) (hk : Has es d) (hno : lookD (.str n) rt = none) (h64 : 64 ≤ rt.length) : CallIs Tryz.prog 16 [P3, .str n, .str d] (memS (pS len cap b fl nx lf es rt)) 7 (.int .i64 2) (memS (pS len cap b fl nx lf es rt)) 7 := by
  have hO : ∀ n : Nat, Int.ofNat n = (n : Int) := fun _ => rfl
  obtain ⟨d0, rs0, k, hk⟩ := hk
  refine callIs_of_TG Tryz.func16 (code := cdRt) (by kernel_rfl) (by kernel_rfl) ?_
  obtain ⟨L, hr⟩ := rt_many n d d0 rs0 k len cap b fl nx lf es rt
  refine TG_ret (XU (hHas d0 rs0 k)) mo _ (by kernel_rfl) hr fun g hg _ => ?_
  rw [List.mem_singleton] at hg; subst hg
  refine ⟨?_, _, _, _, rfl, rfl, rfl, rfl⟩
  repeat' (first | exact all_nil | refine List.forall_mem_cons.2 ⟨?_, ?_⟩)
  · exact rt_non hno
  · exact vq_f hn.1
  · exact ng64 hn.2
  · exact vn_t hd
  · exact has_hint hk
  · rfl
  · exact vn_t hd
  · exact vb_t (by rw [hO]; omega)
theorem root_same (hn : nOk n) (hd : d ≠ []) (hk : Has es d) (hno : lookD (.str n) rt = some (.str d)) : CallIs Tryz.prog 16 [P3, .str n, .str d] (memS (pS len cap b fl nx lf es rt)) 7 (.int .i64 0) (memS (pS len cap b fl nx lf es rt)) 7 := by
  have hO : ∀ n : Nat, Int.ofNat n = (n : Int) := fun _ => rfl
  obtain ⟨d0, rs0, k, hk⟩ := hk
  refine callIs_of_TG Tryz.func16 (code := cdRt) (by kernel_rfl) (by kernel_rfl) ?_
  obtain ⟨L, hr⟩ := rt_same n d d0 rs0 k len cap b fl nx lf es rt
  refine TG_ret (XU (hHas d0 rs0 k)) mo _ (by kernel_rfl) hr fun g hg _ => ?_
  rw [List.mem_singleton] at hg; subst hg
  refine ⟨?_, _, _, _, rfl, rfl, rfl, rfl⟩
  repeat' (first | exact all_nil | refine List.forall_mem_cons.2 ⟨?_, ?_⟩)
  · exact rt_some hno
  · exact vq_f hn.1
  · exact ng64 hn.2
  · exact vn_t hd
  · exact has_hint hk
  · rfl
  · exact vn_t hd
  · exact vq_t rfl
theorem root_new (hn : nOk n) (hd : d ≠ []) (hdl : d.length ≤ 100) (hk : Has es d) (hno : lookD (.str n) rt = none) (h64 : rt.length < 64) (hc : 0 < cap) (hl : len = b.length) (hfit : len + (namB n d).length ≤ 1048576) :
    CallIs Tryz.prog 16 [P3, .str n, .str d] (memS (pS len cap b fl nx lf es rt)) 7 (.int .i64 0) (memRw fl nx lf es (len + (namB n d).length) (b ++ namB n d) (updD (.str n) (.str d) rt)) 8 := by
  have hO : ∀ n : Nat, Int.ofNat n = (n : Int) := fun _ => rfl
  obtain ⟨d0, rs0, k, hk⟩ := hk
  refine callIs_of_TG Tryz.func16 (code := cdRt) (by kernel_rfl) (by kernel_rfl) ?_
  obtain ⟨L, hr⟩ := rt_new n d d0 rs0 k len cap b fl nx lf es rt
  simp only [strI_bytesI] at hr
  refine TG_ret (XU (hRn d0 rs0 k)) mo _ (by kernel_rfl) hr fun g hg _ => ?_
  rw [List.mem_singleton] at hg; subst hg
  refine ⟨?_, _, _, _, rfl, rfl, rfl, rfl⟩
  repeat' (first | exact all_nil | refine List.forall_mem_cons.2 ⟨?_, ?_⟩)
  · exact rt_non hno
  · exact vq_f hn.1
  · exact ng64 hn.2
  · exact vn_t hd
  · exact has_hint hk
  · rfl
  · exact vn_t hd
  · exact vb_f (by rw [hO]; omega)
  · exact vq_f hd
  · exact Nat.lt_of_le_of_lt hn.2 (by decide)
  · omega
  · rw [wrap_id (by rw [hO, hO]; omega) (by rw [hO, hO]; omega)]
    exact gt_false (by rw [hO, hO]; omega)
  · exact hc
  · exact hl
  · exact roomy_ok (by omega)
  · exact vq_f hd
theorem root_upd (was : List UInt8) (hn : nOk n) (hd : d ≠ []) (hdl : d.length ≤ 100) (hk : Has es d) (hno : lookD (.str n) rt = some (.str was)) (hne : d ≠ was) (hc : 0 < cap) (hl : len = b.length) (hfit : len + (namB n d).length ≤ 1048576) :
    CallIs Tryz.prog 16 [P3, .str n, .str d] (memS (pS len cap b fl nx lf es rt)) 7 (.int .i64 0) (memRw fl nx lf es (len + (namB n d).length) (b ++ namB n d) (updD (.str n) (.str d) rt)) 8 := by
  have hO : ∀ n : Nat, Int.ofNat n = (n : Int) := fun _ => rfl
  obtain ⟨d0, rs0, k, hk⟩ := hk
  refine callIs_of_TG Tryz.func16 (code := cdRt) (by kernel_rfl) (by kernel_rfl) ?_
  obtain ⟨L, hr⟩ := rt_upd n d was d0 rs0 k len cap b fl nx lf es rt
  simp only [strI_bytesI] at hr
  refine TG_ret (XU (hRn d0 rs0 k)) mo _ (by kernel_rfl) hr fun g hg _ => ?_
  rw [List.mem_singleton] at hg; subst hg
  refine ⟨?_, _, _, _, rfl, rfl, rfl, rfl⟩
  repeat' (first | exact all_nil | refine List.forall_mem_cons.2 ⟨?_, ?_⟩)
  · exact rt_some hno
  · exact vq_f hn.1
  · exact ng64 hn.2
  · exact vn_t hd
  · exact has_hint hk
  · rfl
  · exact vn_t hd
  · exact vq_f hne
  · exact Nat.lt_of_le_of_lt hn.2 (by decide)
  · omega
  · rw [wrap_id (by rw [hO, hO]; omega) (by rw [hO, hO]; omega)]
    exact gt_false (by rw [hO, hO]; omega)
  · exact hc
  · exact hl
  · exact roomy_ok (by omega)
  · exact vq_f hd
end
end Go.Proofs.YtfihojpgobmmdaaGreatDoor
namespace Go.Proofs.YtfihojpgobmmdaaGreatDoor
open Go Go.Eng Go.Shelf Go.RowKit
end Go.Proofs.YtfihojpgobmmdaaGreatDoor
namespace Go.Proofs.YtfihojpgobmmdaaGreatDoor
open Go Go.Eng
theorem ro_no (n : List UInt8) (len cap : Nat) (b : List UInt8) (fl nx lf : Int) (es rt : List (D × D)) : ∃ L, RunIs Tryz.prog (csQ []) [(16, .give (.tup [.str [], .bool false]))] 1000 7 Tryz.f24 [] (bodyOf Tryz.f24) (startSt [P3, .str n] (memS (pS len cap b fl nx lf es rt)) 7) L
    [([],
      [((if true = true then V.tup [D.valV (V.str ([] : List UInt8)) (lookD (D.str n) rt), V.bool (lookD (D.str n) rt).isSome] else D.valV (V.str ([] : List UInt8)) (lookD (D.str n) rt)) = V.tup [V.str [], V.bool false])],
      .ret (.tup [.str [], .bool false]) (memS (pS len cap b fl nx lf es rt)) 7)]
  := RunIs.of (by kernel_rfl) (by kernel_rfl) (by kernel_rfl)
theorem ro_has (n d : List UInt8) (len cap : Nat) (b : List UInt8) (fl nx lf : Int) (es rt : List (D × D)) : ∃ L, RunIs Tryz.prog (csQ []) [(16, .give (.tup [.str d, .bool true]))] 1000 7 Tryz.f24 [] (bodyOf Tryz.f24) (startSt [P3, .str n] (memS (pS len cap b fl nx lf es rt)) 7) L
    [([],
      [((if true = true then V.tup [D.valV (V.str ([] : List UInt8)) (lookD (D.str n) rt), V.bool (lookD (D.str n) rt).isSome] else D.valV (V.str ([] : List UInt8)) (lookD (D.str n) rt)) = V.tup [V.str d, V.bool true])],
      .ret (.tup [.str d, .bool true]) (memS (pS len cap b fl nx lf es rt)) 7)]
  := RunIs.of (by kernel_rfl) (by kernel_rfl) (by kernel_rfl)
end Go.Proofs.YtfihojpgobmmdaaGreatDoor
namespace Go.Proofs.YtfihojpgobmmdaaGreatDoor
open Go Go.Eng
section
variable (f : Bool) (rs : List (List UInt8)) (len cap : Nat) (b : List UInt8) (fl nx lf : Int) (es rt : List (D × D))
theorem rootof_no (n : List UInt8) (hx : lookD (.str n) rt = none) : CallIs Tryz.prog 24 [P3, .str n] (memS (pS len cap b fl nx lf es rt)) 7 (.tup [.str [], .bool false]) (memS (pS len cap b fl nx lf es rt)) 7 := by
  refine callIs_of_TG Tryz.func24 (code := bodyOf Tryz.f24) (by kernel_rfl) (by kernel_rfl) ?_
  obtain ⟨L, hr⟩ := ro_no n len cap b fl nx lf es rt
  refine TG_ret (XQ []) mo _ (by kernel_rfl) hr fun g hg _ => ?_
  rw [List.mem_singleton] at hg; subst hg
  refine ⟨fun a ha => ?_, _, _, _, rfl, rfl, rfl, rfl⟩
  rw [List.mem_singleton] at ha; subst ha
  exact rt_non hx
theorem rootof_yes (n d : List UInt8) (hx : lookD (.str n) rt = some (.str d)) : CallIs Tryz.prog 24 [P3, .str n] (memS (pS len cap b fl nx lf es rt)) 7 (.tup [.str d, .bool true]) (memS (pS len cap b fl nx lf es rt)) 7 := by
  refine callIs_of_TG Tryz.func24 (code := bodyOf Tryz.f24) (by kernel_rfl) (by kernel_rfl) ?_
  obtain ⟨L, hr⟩ := ro_has n d len cap b fl nx lf es rt
  refine TG_ret (XQ []) mo _ (by kernel_rfl) hr fun g hg _ => ?_
  rw [List.mem_singleton] at hg; subst hg
  refine ⟨fun a ha => ?_, _, _, _, rfl, rfl, rfl, rfl⟩
  rw [List.mem_singleton] at ha; subst ha
  exact rt_some hx
end
end Go.Proofs.YtfihojpgobmmdaaGreatDoor
namespace Go.Proofs.YtfihojpgobmmdaaGreatDoor
open Go Go.Eng
def w88 : V := .fn (.func 88) [] [.ptr (some (7, 0))]
section
variable (len cap : Nat) (b : List UInt8) (fl nx lf : Int) (es rt : List (D × D))
def lK : List (Nat × O) := memL (pS len cap b fl nx lf es rt) ++ [(7, .cells [.map (some 6)])]
def lKg : List (Nat × O) := [(0, .ints .u32 gS), (1, .ints .u32 gR), (3, .cells (stoC 4 5 6 (pS len cap b fl nx lf es rt))), (4, .buf 5 false b), (5, .mapD none es), (7, .cells [.map (some 6)])]
def sKa : St := stG [(2, .ptr (some (8, 0))), (6, w88)] (hL (lK len cap b fl nx lf es rt ++ [(8, .cells [.slc none 0 0 0])])) 9
noncomputable def oKa : O := .loop true none (sKa len cap b fl nx lf es rt).fr [7] asA2 boA2
noncomputable def hK (sl : V) (row : List (Nat × O)) : Tr O := hL (lK len cap b fl nx lf es rt ++ [(8, .cells [sl]), (9, .dfr), (10, oKa len cap b fl nx lf es rt)] ++ row)
noncomputable def SK (sl : V) (row : List (Nat × O)) (n : Nat) : St := stG [(0, .fn (.yield 10) [] []), (5, .ptr (some (11, 0)))] (hL (lKg len cap b fl nx lf es rt ++ [(8, .cells [sl]), (9, .dfr), (10, oKa len cap b fl nx lf es rt)] ++ row)) n
end
abbrev P (m : Nat) : V := .ptr (some (m, 0))
theorem ka_0 (len cap : Nat) (b : List UInt8) (fl nx lf : Int) (es rt : List (D × D)) (k : List UInt8) (v : V) : ∃ L, RunIs Tryz.prog (csQ []) [] 1000 12 Tryz.f88 [0, 5] ((mlOf cdK2).rest) (kSt (SK len cap b fl nx lf es rt nilS [] 12) k v) L
    [([],
      [],
      .to .normal (stG [(0, .fn (.yield 10) [] []), (5, .ptr (some (11, 0)))] (hL [(0, .ints .u32 gS), (1, .ints .u32 gR), (3, .cells [.slc (some (4, 0)) len cap 1, .int .i64 fl, .map (some 5), .map (some 6), .int .i64 nx, .bool false, .bool false, .int .i64 lf]), (4, .buf 5 false b), (5, .mapD none es), (7, .cells [.map (some 6)]), (8, .cells [.slc (some (12, 0)) 1 1 1]), (9, .dfr), (10, .loop true none (Eng.frL [(2, .ptr (some (8, 0))), (6, .fn (.func 88) [] [.ptr (some (7, 0))])]) [7] asA2 boA2), (12, .cells [.str k])]) 13))]
  := RunIs.of (by kernel_rfl) (by kernel_rfl) (by kernel_rfl)
theorem ka_1 (len cap : Nat) (b : List UInt8) (fl nx lf : Int) (es rt : List (D × D)) (k : List UInt8) (v : V) (n : Nat) (cs : List D) : ∃ L, RunIs Tryz.prog (csQ []) [] 1000 12 Tryz.f88 [0, 5] ((mlOf cdK2).rest) (kSt (SK len cap b fl nx lf es rt (.slc (some (12, 0)) n n 1) [(12, .deep cs)] 13) k v) L
    [([],
      [(0 + n * 1 ≤ cs.length), (0 < 1), (roomy (n + 1) 1 16 = true)],
      .to .normal (stG [(0, .fn (.yield 10) [] []), (5, .ptr (some (11, 0)))] (hL [(0, .ints .u32 gS), (1, .ints .u32 gR), (3, .cells [.slc (some (4, 0)) len cap 1, .int .i64 fl, .map (some 5), .map (some 6), .int .i64 nx, .bool false, .bool false, .int .i64 lf]), (4, .buf 5 false b), (5, .mapD none es), (7, .cells [.map (some 6)]), (8, .cells [.slc (some (12, 0)) (n + 1) (n + 1) 1]), (9, .dfr), (10, .loop true none (Eng.frL [(2, .ptr (some (8, 0))), (6, .fn (.func 88) [] [.ptr (some (7, 0))])]) [7] asA2 boA2), (12, .deep (List.take (n * 1) (List.drop 0 cs) ++ [D.str k]))]) 13))]
  := RunIs.of (by kernel_rfl) (by kernel_rfl) (by kernel_rfl)
theorem ka_2 (len cap : Nat) (b : List UInt8) (fl nx lf : Int) (es rt : List (D × D)) : ∃ L, RunIs Tryz.prog (csQ []) [] 1000 8 Tryz.f113 [1, 2] (headN 1 cdA2) (startSt [nilS, w88] (hL (lK len cap b fl nx lf es rt)) 8) L
    [([],
      [],
      .to .normal (stG [(1, .fn (.func 88) [] [.ptr (some (7, 0))]), (2, .ptr (some (8, 0)))] (hL (memL (pS len cap b fl nx lf es rt) ++ [(7, .cells [.map (some 6)]), (8, .cells [.slc none 0 0 0])])) 9))]
  := RunIs.of (by kernel_rfl) (by kernel_rfl) (by kernel_rfl)
theorem ka_3 (len cap : Nat) (b : List UInt8) (fl nx lf : Int) (es rt : List (D × D)) : ∃ L, RunIs Tryz.prog (csQ []) [] 1000 8 Tryz.f113 [2, 6] (seqL (seqL tlA2)) (stG [(1, w88), (2, P 8)] (hL (lK len cap b fl nx lf es rt ++ [(8, .cells [nilS])])) 9) L
    [([],
      [],
      .to .normal (stG [(2, .ptr (some (8, 0))), (6, .fn (.func 88) [] [.ptr (some (7, 0))])] (hL (memL (pS len cap b fl nx lf es rt) ++ [(7, .cells [.map (some 6)]), (8, .cells [.slc none 0 0 0])])) 9))]
  := RunIs.of (by kernel_rfl) (by kernel_rfl) (by kernel_rfl)
theorem ka_4 (len cap : Nat) (b : List UInt8) (fl nx lf : Int) (es rt : List (D × D)) (n : Nat) (cs : List D) : ∃ L, RunIs Tryz.prog (csQ []) [] 1000 8 Tryz.f113 [] (seqR tlA2) (rEnd (sKa len cap b fl nx lf es rt) (hK len cap b fl nx lf es rt (.slc (some (11, 0)) n n 1) [(11, .deep cs)]) 12) L
    [([],
      [],
      .ret (.slc (some (8, 0)) n n 1) (hL (memL (pS len cap b fl nx lf es rt) ++ [(7, .cells [.map (some 6)]), (8, .deep cs)])) 9)]
  := RunIs.of (by kernel_rfl) (by kernel_rfl) (by kernel_rfl)
theorem ka_5 (len cap : Nat) (b : List UInt8) (fl nx lf : Int) (es rt : List (D × D)) : ∃ L, RunIs Tryz.prog (csQ []) [] 1000 8 Tryz.f113 [] (seqR tlA2) (rEnd (sKa len cap b fl nx lf es rt) (hK len cap b fl nx lf es rt nilS []) 11) L
    [([],
      [],
      .ret (.slc none 0 0 0) (hL (memL (pS len cap b fl nx lf es rt) ++ [(7, .cells [.map (some 6)])])) 8)]
  := RunIs.of (by kernel_rfl) (by kernel_rfl) (by kernel_rfl)
end Go.Proofs.YtfihojpgobmmdaaGreatDoor
