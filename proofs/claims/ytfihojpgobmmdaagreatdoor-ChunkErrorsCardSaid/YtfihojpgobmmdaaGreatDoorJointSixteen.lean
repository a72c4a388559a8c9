/- The Chunk laws: ChunkOnce, its pieces. No conditions. -/
import Derived.Test.YtfihojpgobmmdaaGreatDoorJointFourteen
import Derived.Test.YtfihojpgobmmdaaGreatDoorJointFifteen
import Derived.Shelf.SlicesG.Clone
set_option linter.unusedVariables false
set_option linter.unusedSimpArgs false
set_option linter.unusedSectionVars false
namespace Go.Proofs.YtfihojpgobmmdaaGreatDoor
open Go Go.Eng
abbrev P3 : V := .ptr (some (3, 0))
abbrev nilS : V := .slc none 0 0 0
noncomputable abbrev pn15 (a : List V) (h : Tr O) (n : Nat) (r : V × Tr O × Nat) : CallS := pinS csL 15 a h n r
def hJ (d : List UInt8) (p : Sto) : Tr O := (memS p).set 7 (some (.cells [.str d]))
end Go.Proofs.YtfihojpgobmmdaaGreatDoor
namespace Go.Proofs.YtfihojpgobmmdaaGreatDoor
open Go Go.Eng
noncomputable abbrev cdRt : Code := bodyOf Tryz.f16
noncomputable abbrev csU (l : List (Nat × List (Nat × Fix))) : CallS := callX Tryz.prog W16 (hints l) 1000 40
noncomputable abbrev XU (l : List (Nat × List (Nat × Fix))) : CX Tryz.prog := CX.of mo po W16_ok (hints l) 1000 40
def hRn (d0 : List UInt8) (rs0 : List (List UInt8)) (k : Int) : List (Nat × List (Nat × Fix)) := [(18, [(15, .give (.tup [entV d0 rs0 k, .bool true]))]), (46, [(13, .give (.bool false))]), (50, [(7, .give (.bool false))])]
def hRt (was : List UInt8) (ex b1 b2 b3 b4 b5 b6 : Bool) : List (Nat × Fix) := [(18, .give (.tup [.str was, .bool ex])), (23, .give (.bool b1)), (27, .give (.bool b2)), (31, .give (.bool b3)), (36, .give (.bool b4)), (40, .give (.bool b3)), (51, .give (.bool b5)), (56, .give (.bool b6))]
theorem rt_arg1 (n d was : List UInt8) (ex : Bool) (len cap : Nat) (b : List UInt8) (fl nx lf : Int) (es rt : List (D × D)) : ∃ L, RunIs Tryz.prog (csU []) (hRt was ex true false false false false false) 1000 7 Tryz.f16 [] (cdRt) (startSt [P3, .str n, .str d] (memS (pS len cap b fl nx lf es rt)) 7) L
    [([],
      [((if true = true then V.tup [D.valV (V.str ([] : List UInt8)) (lookD (D.str n) rt), V.bool (lookD (D.str n) rt).isSome] else D.valV (V.str ([] : List UInt8)) (lookD (D.str n) rt)) = V.tup [V.str was, V.bool ex]), (V.bool (beqB n ([] : List UInt8)) = V.bool true)],
      .ret (.int .i64 1) (memS (pS len cap b fl nx lf es rt)) 7)]
  := RunIs.of (by kernel_rfl) (by kernel_rfl) (by kernel_rfl)
theorem rt_arg2 (n d was : List UInt8) (ex : Bool) (len cap : Nat) (b : List UInt8) (fl nx lf : Int) (es rt : List (D × D)) : ∃ L, RunIs Tryz.prog (csU []) (hRt was ex false true false false false false) 1000 7 Tryz.f16 [] (cdRt) (startSt [P3, .str n, .str d] (memS (pS len cap b fl nx lf es rt)) 7) L
    [([],
      [((if true = true then V.tup [D.valV (V.str ([] : List UInt8)) (lookD (D.str n) rt), V.bool (lookD (D.str n) rt).isSome] else D.valV (V.str ([] : List UInt8)) (lookD (D.str n) rt)) = V.tup [V.str was, V.bool ex]), (V.bool (beqB n ([] : List UInt8)) = V.bool false), (V.bool (decide ((Int.ofNat n.length) > (64 : Int))) = V.bool true)],
      .ret (.int .i64 1) (memS (pS len cap b fl nx lf es rt)) 7)]
  := RunIs.of (by kernel_rfl) (by kernel_rfl) (by kernel_rfl)
theorem rt_chunk (n d was : List UInt8) (ex : Bool) (len cap : Nat) (b : List UInt8) (fl nx lf : Int) (es rt : List (D × D)) : ∃ L, RunIs Tryz.prog (csU [(18, [(15, .give (.tup [entZ, .bool false]))])]) (hRt was ex false false true true false false) 1000 7 Tryz.f16 [] (cdRt) (startSt [P3, .str n, .str d] (memS (pS len cap b fl nx lf es rt)) 7) L
    [([],
      [((if true = true then V.tup [D.valV (V.str ([] : List UInt8)) (lookD (D.str n) rt), V.bool (lookD (D.str n) rt).isSome] else D.valV (V.str ([] : List UInt8)) (lookD (D.str n) rt)) = V.tup [V.str was, V.bool ex]), (V.bool (beqB n ([] : List UInt8)) = V.bool false), (V.bool (decide ((Int.ofNat n.length) > (64 : Int))) = V.bool false), ((V.bool !beqB d ([] : List UInt8)) = V.bool true), ((if true = true then V.tup [D.valV (V.agg [V.str ([] : List UInt8), V.slc none 0 0 0, V.int IntKind.i64 (0 : Int)]) (lookD (D.str d) es), V.bool (lookD (D.str d) es).isSome] else D.valV (V.agg [V.str ([] : List UInt8), V.slc none 0 0 0, V.int IntKind.i64 (0 : Int)]) (lookD (D.str d) es)) = V.tup [entZ, V.bool false]), ((V.bool !false) = V.bool true)],
      .ret (.int .i64 62) (memS (pS len cap b fl nx lf es rt)) 7)]
  := RunIs.of (by kernel_rfl) (by kernel_rfl) (by kernel_rfl)
theorem rt_same (n d d0 : List UInt8) (rs0 : List (List UInt8)) (k : Int) (len cap : Nat) (b : List UInt8) (fl nx lf : Int) (es rt : List (D × D)) : ∃ L, RunIs Tryz.prog (csU (hHas d0 rs0 k)) (hRt d true false false true false false true) 1000 7 Tryz.f16 [] (cdRt) (startSt [P3, .str n, .str d] (memS (pS len cap b fl nx lf es rt)) 7) L
    [([],
      [((if true = true then V.tup [D.valV (V.str ([] : List UInt8)) (lookD (D.str n) rt), V.bool (lookD (D.str n) rt).isSome] else D.valV (V.str ([] : List UInt8)) (lookD (D.str n) rt)) = V.tup [V.str d, V.bool true]), (V.bool (beqB n ([] : List UInt8)) = V.bool false), (V.bool (decide ((Int.ofNat n.length) > (64 : Int))) = V.bool false), ((V.bool !beqB d ([] : List UInt8)) = V.bool true), ((if true = true then V.tup [D.valV (V.agg [V.str ([] : List UInt8), V.slc none 0 0 0, V.int IntKind.i64 (0 : Int)]) (lookD (D.str d) es), V.bool (lookD (D.str d) es).isSome] else D.valV (V.agg [V.str ([] : List UInt8), V.slc none 0 0 0, V.int IntKind.i64 (0 : Int)]) (lookD (D.str d) es)) = V.tup [entV d0 rs0 k, V.bool true]), ((V.bool !true) = V.bool false), ((V.bool !beqB d ([] : List UInt8)) = V.bool true), (V.bool (beqB d d) = V.bool true)],
      .ret (.int .i64 0) (memS (pS len cap b fl nx lf es rt)) 7)]
  := RunIs.of (by kernel_rfl) (by kernel_rfl) (by kernel_rfl)
theorem rt_none (n : List UInt8) (len cap : Nat) (b : List UInt8) (fl nx lf : Int) (es rt : List (D × D)) : ∃ L, RunIs Tryz.prog (csU []) (hRt [] false false false false false false true) 1000 7 Tryz.f16 [] (cdRt) (startSt [P3, .str n, .str []] (memS (pS len cap b fl nx lf es rt)) 7) L
    [([],
      [((if true = true then V.tup [D.valV (V.str ([] : List UInt8)) (lookD (D.str n) rt), V.bool (lookD (D.str n) rt).isSome] else D.valV (V.str ([] : List UInt8)) (lookD (D.str n) rt)) = V.tup [V.str [], V.bool false]), (V.bool (beqB n ([] : List UInt8)) = V.bool false), (V.bool (decide ((Int.ofNat n.length) > (64 : Int))) = V.bool false), ((V.bool !beqB [] ([] : List UInt8)) = V.bool false), ((V.bool !beqB [] ([] : List UInt8)) = V.bool false), (V.bool (beqB [] []) = V.bool true)],
      .ret (.int .i64 0) (memS (pS len cap b fl nx lf es rt)) 7)]
  := RunIs.of (by kernel_rfl) (by kernel_rfl) (by kernel_rfl)
theorem rt_new (n d d0 : List UInt8) (rs0 : List (List UInt8)) (k : Int) (len cap : Nat) (b : List UInt8) (fl nx lf : Int) (es rt : List (D × D)) : ∃ L, RunIs Tryz.prog (csU (hRn d0 rs0 k)) (hRt [] false false false true false false false) 1000 7 Tryz.f16 [] (cdRt) (startSt [P3, .str n, .str d] (memS (pS len cap b fl nx lf es rt)) 7) L
    [([],
      [((if true = true then V.tup [D.valV (V.str ([] : List UInt8)) (lookD (D.str n) rt), V.bool (lookD (D.str n) rt).isSome] else D.valV (V.str ([] : List UInt8)) (lookD (D.str n) rt)) = V.tup [V.str [], V.bool false]), (V.bool (beqB n ([] : List UInt8)) = V.bool false), (V.bool (decide ((Int.ofNat n.length) > (64 : Int))) = V.bool false), ((V.bool !beqB d ([] : List UInt8)) = V.bool true), ((if true = true then V.tup [D.valV (V.agg [V.str ([] : List UInt8), V.slc none 0 0 0, V.int IntKind.i64 (0 : Int)]) (lookD (D.str d) es), V.bool (lookD (D.str d) es).isSome] else D.valV (V.agg [V.str ([] : List UInt8), V.slc none 0 0 0, V.int IntKind.i64 (0 : Int)]) (lookD (D.str d) es)) = V.tup [entV d0 rs0 k, V.bool true]), ((V.bool !true) = V.bool false), ((V.bool !beqB d ([] : List UInt8)) = V.bool true), (V.bool (decide ((Int.ofNat rt.length) ≥ (64 : Int))) = V.bool false), (V.bool (beqB d []) = V.bool false), (n.length < 100000000), (d.length < 100000000), (V.bool (decide (IntKind.i64.wrap ((Int.ofNat len) + (Int.ofNat (namB n d).length)) > (1048576 : Int))) = V.bool false), (0 < cap), (len = b.length), (roomy (len + (namB n d).length) 1 1 = true), (V.bool (beqB d ([] : List UInt8)) = V.bool false)],
      .ret (.int .i64 0) (hL [(0, .ints .u32 gS), (1, .ints .u32 gR), (3, .cells [.slc (some (7, 0)) (len + (namB n d).length) (len + (namB n d).length) 1, .int .i64 fl, .map (some 5), .map (some 6), .int .i64 nx, .bool false, .bool false, .int .i64 lf]), (5, .mapD none es), (6, .mapD none (updD (D.str n) (D.str d) rt)), (7, .buf 5 false (b ++ strI (bytesI (namB n d))))]) 8)]
  := RunIs.of (by kernel_rfl) (by kernel_rfl) (by kernel_rfl)
theorem rt_upd (n d was d0 : List UInt8) (rs0 : List (List UInt8)) (k : Int) (len cap : Nat) (b : List UInt8) (fl nx lf : Int) (es rt : List (D × D)) : ∃ L, RunIs Tryz.prog (csU (hRn d0 rs0 k)) (hRt was true false false true false false false) 1000 7 Tryz.f16 [] (cdRt) (startSt [P3, .str n, .str d] (memS (pS len cap b fl nx lf es rt)) 7) L
    [([],
      [((if true = true then V.tup [D.valV (V.str ([] : List UInt8)) (lookD (D.str n) rt), V.bool (lookD (D.str n) rt).isSome] else D.valV (V.str ([] : List UInt8)) (lookD (D.str n) rt)) = V.tup [V.str was, V.bool true]), (V.bool (beqB n ([] : List UInt8)) = V.bool false), (V.bool (decide ((Int.ofNat n.length) > (64 : Int))) = V.bool false), ((V.bool !beqB d ([] : List UInt8)) = V.bool true), ((if true = true then V.tup [D.valV (V.agg [V.str ([] : List UInt8), V.slc none 0 0 0, V.int IntKind.i64 (0 : Int)]) (lookD (D.str d) es), V.bool (lookD (D.str d) es).isSome] else D.valV (V.agg [V.str ([] : List UInt8), V.slc none 0 0 0, V.int IntKind.i64 (0 : Int)]) (lookD (D.str d) es)) = V.tup [entV d0 rs0 k, V.bool true]), ((V.bool !true) = V.bool false), ((V.bool !beqB d ([] : List UInt8)) = V.bool true), (V.bool (beqB d was) = V.bool false), (n.length < 100000000), (d.length < 100000000), (V.bool (decide (IntKind.i64.wrap ((Int.ofNat len) + (Int.ofNat (namB n d).length)) > (1048576 : Int))) = V.bool false), (0 < cap), (len = b.length), (roomy (len + (namB n d).length) 1 1 = true), (V.bool (beqB d ([] : List UInt8)) = V.bool false)],
      .ret (.int .i64 0) (hL [(0, .ints .u32 gS), (1, .ints .u32 gR), (3, .cells [.slc (some (7, 0)) (len + (namB n d).length) (len + (namB n d).length) 1, .int .i64 fl, .map (some 5), .map (some 6), .int .i64 nx, .bool false, .bool false, .int .i64 lf]), (5, .mapD none es), (6, .mapD none (updD (D.str n) (D.str d) rt)), (7, .buf 5 false (b ++ strI (bytesI (namB n d))))]) 8)]
  := RunIs.of (by kernel_rfl) (by kernel_rfl) (by kernel_rfl)
theorem rt_del (n was : List UInt8) (len cap : Nat) (b : List UInt8) (fl nx lf : Int) (es rt : List (D × D)) : ∃ L, RunIs Tryz.prog (csU [(46, [(13, .give (.bool false))]), (50, [(7, .give (.bool true))])]) (hRt was true false false false false false false) 1000 7 Tryz.f16 [] (cdRt) (startSt [P3, .str n, .str []] (memS (pS len cap b fl nx lf es rt)) 7) L
    [([],
      [((if true = true then V.tup [D.valV (V.str ([] : List UInt8)) (lookD (D.str n) rt), V.bool (lookD (D.str n) rt).isSome] else D.valV (V.str ([] : List UInt8)) (lookD (D.str n) rt)) = V.tup [V.str was, V.bool true]), (V.bool (beqB n ([] : List UInt8)) = V.bool false), (V.bool (decide ((Int.ofNat n.length) > (64 : Int))) = V.bool false), ((V.bool !beqB [] ([] : List UInt8)) = V.bool false), ((V.bool !beqB [] ([] : List UInt8)) = V.bool false), (V.bool (beqB [] was) = V.bool false), (n.length < 100000000), (0 < 100000000), (V.bool (decide (IntKind.i64.wrap ((Int.ofNat len) + (Int.ofNat (namB n []).length)) > (1048576 : Int))) = V.bool false), (0 < cap), (len = b.length), (roomy (len + (namB n []).length) 1 1 = true), (V.bool (beqB [] ([] : List UInt8)) = V.bool true)],
      .ret (.int .i64 0) (hL [(0, .ints .u32 gS), (1, .ints .u32 gR), (3, .cells [.slc (some (7, 0)) (len + (namB n []).length) (len + (namB n []).length) 1, .int .i64 fl, .map (some 5), .map (some 6), .int .i64 nx, .bool false, .bool false, .int .i64 lf]), (5, .mapD none es), (6, .mapD none (delD (D.str n) rt)), (7, .buf 5 false (b ++ strI (bytesI (namB n []))))]) 8)]
  := RunIs.of (by kernel_rfl) (by kernel_rfl) (by kernel_rfl)
end Go.Proofs.YtfihojpgobmmdaaGreatDoor
namespace Go.Proofs.YtfihojpgobmmdaaGreatDoor
open Go Go.Eng
theorem keyStr (x : List UInt8) (d : D) : keyEqD (.str x) d = true ↔ d = .str x := by
  cases d <;> simp [keyEqD, beqB_eq]
  exact eq_comm
theorem keyStrF {x : List UInt8} {d : D} (h : d ≠ .str x) : keyEqD (.str x) d = false := by
  cases q : keyEqD (.str x) d with
  | false => rfl
  | true => exact absurd ((keyStr x d).1 q) h
open Classical in
theorem lookD_cons (x : List UInt8) (e : D × D) (es : List (D × D)) : lookD (.str x) (e :: es) = if e.1 = .str x then some e.2 else lookD (.str x) es := by
  simp only [lookD]
  by_cases h : e.1 = .str x
  · rw [if_pos h, (keyStr x e.1).2 h]
  · rw [if_neg h, keyStrF h]
open Classical in
theorem updD_cons (x : List UInt8) (v : D) (e : D × D) (es : List (D × D)) : updD (.str x) v (e :: es) = if e.1 = .str x then (.str x, v) :: es else e :: updD (.str x) v es := by
  simp only [updD]
  by_cases h : e.1 = .str x
  · rw [if_pos h, (keyStr x e.1).2 h]
  · rw [if_neg h, keyStrF h]
theorem look_upd (x y : List UInt8) (v : D) : ∀ es : List (D × D), lookD (.str x) (updD (.str y) v es) = if x = y then some v else lookD (.str x) es
  | [] => by
    show lookD (.str x) [(.str y, v)] = _
    rw [lookD_cons]
    by_cases h : x = y
    · rw [if_pos h, if_pos (by rw [h])]
    · rw [if_neg h, if_neg (by intro q; simp only [D.str.injEq] at q; exact h q.symm)]
  | e :: es => by
    rw [updD_cons]
    by_cases he : e.1 = .str y
    · rw [if_pos he, lookD_cons, lookD_cons]
      by_cases h : x = y
      · rw [if_pos h, if_pos (by rw [h])]
      · rw [if_neg h, if_neg (by intro q; simp only [D.str.injEq] at q; exact h q.symm), if_neg (by rw [he]; intro q; simp only [D.str.injEq] at q; exact h q.symm)]
    · rw [if_neg he, lookD_cons, lookD_cons, look_upd x y v es]
      by_cases h : x = y
      · subst h
        rw [if_neg he, if_pos rfl, if_pos rfl]
      · rw [if_neg h, if_neg h]
theorem upd_len (y : List UInt8) (v : D) : ∀ es : List (D × D), (updD (.str y) v es).length ≤ es.length + 1
  | [] => Nat.le_refl _
  | e :: es => by
    rw [updD_cons]
    split
    · simp
    · have := upd_len y v es
      simp only [List.length_cons]; omega
def Ent (es : List (D × D)) : Prop := ∀ x, lookD (.str x) es = none ∨ Has es x
theorem ent_nil : Ent [] := fun _ => .inl rfl
theorem has_upd {es : List (D × D)} {x y : List UInt8} {d : List UInt8} {rs : List (List UInt8)} {k : Int} (h : Has es x) : Has (updD (.str y) (entD d rs k) es) x := by
  unfold Has at h ⊢
  rw [look_upd]
  by_cases q : x = y
  · rw [if_pos q]; exact ⟨_, _, _, rfl⟩
  · rw [if_neg q]; exact h
theorem has_upd_self {es : List (D × D)} {y : List UInt8} {d : List UInt8} {rs : List (List UInt8)} {k : Int} : Has (updD (.str y) (entD d rs k) es) y := by
  unfold Has
  rw [look_upd, if_pos rfl]; exact ⟨_, _, _, rfl⟩
theorem ent_upd {es : List (D × D)} {y : List UInt8} {d : List UInt8} {rs : List (List UInt8)} {k : Int} (h : Ent es) : Ent (updD (.str y) (entD d rs k) es) := by
  intro x
  rw [look_upd]
  by_cases q : x = y
  · subst q; exact .inr has_upd_self
  · rw [if_neg q]
    rcases h x with h | h
    · exact .inl h
    · exact .inr (has_upd h)
end Go.Proofs.YtfihojpgobmmdaaGreatDoor
namespace Go.Proofs.YtfihojpgobmmdaaGreatDoor
open Go Go.Eng
theorem rt_some {rt : List (D × D)} {n was : List UInt8} (h : lookD (.str n) rt = some (.str was)) : (if true = true then V.tup [D.valV (V.str ([] : List UInt8)) (lookD (D.str n) rt), V.bool (lookD (D.str n) rt).isSome] else D.valV (V.str ([] : List UInt8)) (lookD (D.str n) rt)) = V.tup [V.str was, V.bool true] := by
  rw [h]; rfl
theorem rt_non {rt : List (D × D)} {n : List UInt8} (h : lookD (.str n) rt = none) : (if true = true then V.tup [D.valV (V.str ([] : List UInt8)) (lookD (D.str n) rt), V.bool (lookD (D.str n) rt).isSome] else D.valV (V.str ([] : List UInt8)) (lookD (D.str n) rt)) = V.tup [V.str [], V.bool false] := by
  rw [h]; rfl
theorem vb_t {p : Prop} [Decidable p] (h : p) : V.bool (decide p) = V.bool true := by rw [decide_eq_true h]
theorem vb_f {p : Prop} [Decidable p] (h : ¬ p) : V.bool (decide p) = V.bool false := by rw [decide_eq_false h]
theorem vq_t {a b : List UInt8} (h : a = b) : V.bool (beqB a b) = V.bool true := by rw [beqB_eq, beq_iff_eq.2 h]
theorem vq_f {a b : List UInt8} (h : a ≠ b) : V.bool (beqB a b) = V.bool false := by rw [beqB_eq, beq_eq_false_iff_ne.2 h]
theorem vn_t {a b : List UInt8} (h : a ≠ b) : (V.bool !beqB a b) = V.bool true := by rw [beqB_eq, beq_eq_false_iff_ne.2 h]; rfl
theorem vn_f {a b : List UInt8} (h : a = b) : (V.bool !beqB a b) = V.bool false := by rw [beqB_eq, beq_iff_eq.2 h]; rfl
theorem ng64 {n : List UInt8} (h : n.length ≤ 64) : V.bool (decide ((Int.ofNat n.length) > (64 : Int))) = V.bool false := vb_f (by rw [show Int.ofNat n.length = (n.length : Int) from rfl]; omega)
def RtE (rt : List (D × D)) : Prop := ∀ n, lookD (.str n) rt = none ∨ ∃ d, lookD (.str n) rt = some (.str d)
section
variable (n d : List UInt8) (len cap : Nat) (b : List UInt8) (fl nx lf : Int) (es rt : List (D × D))
abbrev nOk : Prop := n ≠ [] ∧ n.length ≤ 64
abbrev memRw (m : Nat) (b' : List UInt8) (rt' : List (D × D)) : Tr O := memNw m b' fl nx lf es rt'
theorem root_arg (hrt : RtE rt) (h : ¬ nOk n) : CallIs Tryz.prog 16 [P3, .str n, .str d] (memS (pS len cap b fl nx lf es rt)) 7 (.int .i64 1) (memS (pS len cap b fl nx lf es rt)) 7 := by
  have hO : ∀ n : Nat, Int.ofNat n = (n : Int) := fun _ => rfl
  have hw : ∃ was ex, (if true = true then V.tup [D.valV (V.str ([] : List UInt8)) (lookD (D.str n) rt), V.bool (lookD (D.str n) rt).isSome] else D.valV (V.str ([] : List UInt8)) (lookD (D.str n) rt)) = V.tup [V.str was, V.bool ex] := by
    rcases hrt n with h | ⟨w, h⟩
    · exact ⟨_, _, rt_non h⟩
    · exact ⟨_, _, rt_some h⟩
  obtain ⟨was, ex, hw⟩ := hw
  refine callIs_of_TG Tryz.func16 (code := cdRt) (by kernel_rfl) (by kernel_rfl) ?_
  by_cases h0 : n = []
  · obtain ⟨L, hr⟩ := rt_arg1 n d was ex len cap b fl nx lf es rt
    refine TG_ret (XU []) mo _ (by kernel_rfl) hr fun g hg _ => ?_
    rw [List.mem_singleton] at hg; subst hg
    refine ⟨?_, _, _, _, rfl, rfl, rfl, rfl⟩
    repeat' (first | exact all_nil | refine List.forall_mem_cons.2 ⟨?_, ?_⟩)
    · exact hw
    · exact vq_t h0
  · have h1 : 64 < n.length := by
      rcases Nat.lt_or_ge 64 n.length with q | q
      · exact q
      · exact absurd ⟨h0, q⟩ h
    obtain ⟨L, hr⟩ := rt_arg2 n d was ex len cap b fl nx lf es rt
    refine TG_ret (XU []) mo _ (by kernel_rfl) hr fun g hg _ => ?_
    rw [List.mem_singleton] at hg; subst hg
    refine ⟨?_, _, _, _, rfl, rfl, rfl, rfl⟩
    repeat' (first | exact all_nil | refine List.forall_mem_cons.2 ⟨?_, ?_⟩)
    · exact hw
    · exact vq_f h0
    · exact vb_t (by rw [hO]; omega)
theorem root_chunk (hrt : RtE rt) (hn : nOk n) (hd : d ≠ []) (hk : lookD (.str d) es = none) : CallIs Tryz.prog 16 [P3, .str n, .str d] (memS (pS len cap b fl nx lf es rt)) 7 (.int .i64 62) (memS (pS len cap b fl nx lf es rt)) 7 := by
  have hO : ∀ n : Nat, Int.ofNat n = (n : Int) := fun _ => rfl
  have hw : ∃ was ex, (if true = true then V.tup [D.valV (V.str ([] : List UInt8)) (lookD (D.str n) rt), V.bool (lookD (D.str n) rt).isSome] else D.valV (V.str ([] : List UInt8)) (lookD (D.str n) rt)) = V.tup [V.str was, V.bool ex] := by
    rcases hrt n with h | ⟨w, h⟩
    · exact ⟨_, _, rt_non h⟩
    · exact ⟨_, _, rt_some h⟩
  obtain ⟨was, ex, hw⟩ := hw
  refine callIs_of_TG Tryz.func16 (code := cdRt) (by kernel_rfl) (by kernel_rfl) ?_
  obtain ⟨L, hr⟩ := rt_chunk n d was ex len cap b fl nx lf es rt
  refine TG_ret (XU [(18, [(15, .give (.tup [entZ, .bool false]))])]) mo _ (by kernel_rfl) hr fun g hg _ => ?_
  rw [List.mem_singleton] at hg; subst hg
  refine ⟨?_, _, _, _, rfl, rfl, rfl, rfl⟩
  repeat' (first | exact all_nil | refine List.forall_mem_cons.2 ⟨?_, ?_⟩)
  · exact hw
  · exact vq_f hn.1
  · exact ng64 hn.2
  · exact vn_t hd
  · exact hasnt_hint hk
  · rfl
theorem root_same (hn : nOk n) (hd : d ≠ []) (hk : Has es d) (hno : lookD (.str n) rt = some (.str d)) : CallIs Tryz.prog 16 [P3, .str n, .str d] (memS (pS len cap b fl nx lf es rt)) 7 (.int .i64 0) (memS (pS len cap b fl nx lf es rt)) 7 := by
  have hO : ∀ n : Nat, Int.ofNat n = (n : Int) := fun _ => rfl
  obtain ⟨d0, rs0, k, hk⟩ := hk
  refine callIs_of_TG Tryz.func16 (code := cdRt) (by kernel_rfl) (by kernel_rfl) ?_
  obtain ⟨L, hr⟩ := rt_same n d d0 rs0 k len cap b fl nx lf es rt
  refine TG_ret (XU (hHas d0 rs0 k)) mo _ (by kernel_rfl) hr fun g hg _ => ?_
  rw [List.mem_singleton] at hg; subst hg
  refine ⟨?_, _, _, _, rfl, rfl, rfl, rfl⟩
  repeat' (first | exact all_nil | refine List.forall_mem_cons.2 ⟨?_, ?_⟩)
  · exact rt_some hno
  · exact vq_f hn.1
  · exact ng64 hn.2
  · exact vn_t hd
  · exact has_hint hk
  · rfl
  · exact vn_t hd
  · exact vq_t rfl
theorem root_none (hn : nOk n) (hno : lookD (.str n) rt = none) : CallIs Tryz.prog 16 [P3, .str n, .str []] (memS (pS len cap b fl nx lf es rt)) 7 (.int .i64 0) (memS (pS len cap b fl nx lf es rt)) 7 := by
  have hO : ∀ n : Nat, Int.ofNat n = (n : Int) := fun _ => rfl
  refine callIs_of_TG Tryz.func16 (code := cdRt) (by kernel_rfl) (by kernel_rfl) ?_
  obtain ⟨L, hr⟩ := rt_none n len cap b fl nx lf es rt
  refine TG_ret (XU []) mo _ (by kernel_rfl) hr fun g hg _ => ?_
  rw [List.mem_singleton] at hg; subst hg
  refine ⟨?_, _, _, _, rfl, rfl, rfl, rfl⟩
  repeat' (first | exact all_nil | refine List.forall_mem_cons.2 ⟨?_, ?_⟩)
  · exact rt_non hno
  · exact vq_f hn.1
  · exact ng64 hn.2
  all_goals first | rfl | trivial
theorem root_new (hn : nOk n) (hd : d ≠ []) (hdl : d.length ≤ 100) (hk : Has es d) (hno : lookD (.str n) rt = none) (h64 : rt.length < 64) (hc : 0 < cap) (hl : len = b.length) (hfit : len + (namB n d).length ≤ 1048576) :
    CallIs Tryz.prog 16 [P3, .str n, .str d] (memS (pS len cap b fl nx lf es rt)) 7 (.int .i64 0) (memRw fl nx lf es (len + (namB n d).length) (b ++ namB n d) (updD (.str n) (.str d) rt)) 8 := by
  have hO : ∀ n : Nat, Int.ofNat n = (n : Int) := fun _ => rfl
  obtain ⟨d0, rs0, k, hk⟩ := hk
  refine callIs_of_TG Tryz.func16 (code := cdRt) (by kernel_rfl) (by kernel_rfl) ?_
  obtain ⟨L, hr⟩ := rt_new n d d0 rs0 k len cap b fl nx lf es rt
  simp only [strI_bytesI] at hr
  refine TG_ret (XU (hRn d0 rs0 k)) mo _ (by kernel_rfl) hr fun g hg _ => ?_
  rw [List.mem_singleton] at hg; subst hg
  refine ⟨?_, _, _, _, rfl, rfl, rfl, rfl⟩
  repeat' (first | exact all_nil | refine List.forall_mem_cons.2 ⟨?_, ?_⟩)
  · exact rt_non hno
  · exact vq_f hn.1
  · exact ng64 hn.2
  · exact vn_t hd
  · exact has_hint hk
  · rfl
  · exact vn_t hd
  · exact vb_f (by rw [hO]; omega)
  · exact vq_f hd
  · exact Nat.lt_of_le_of_lt hn.2 (by decide)
  · omega
  · rw [wrap_id (by rw [hO, hO]; omega) (by rw [hO, hO]; omega)]
    exact gt_false (by rw [hO, hO]; omega)
  · exact hc
  · exact hl
  · exact roomy_ok (by omega)
  · exact vq_f hd
theorem root_upd (was : List UInt8) (hn : nOk n) (hd : d ≠ []) (hdl : d.length ≤ 100) (hk : Has es d) (hno : lookD (.str n) rt = some (.str was)) (hne : d ≠ was) (hc : 0 < cap) (hl : len = b.length) (hfit : len + (namB n d).length ≤ 1048576) :
    CallIs Tryz.prog 16 [P3, .str n, .str d] (memS (pS len cap b fl nx lf es rt)) 7 (.int .i64 0) (memRw fl nx lf es (len + (namB n d).length) (b ++ namB n d) (updD (.str n) (.str d) rt)) 8 := by
  have hO : ∀ n : Nat, Int.ofNat n = (n : Int) := fun _ => rfl
  obtain ⟨d0, rs0, k, hk⟩ := hk
  refine callIs_of_TG Tryz.func16 (code := cdRt) (by kernel_rfl) (by kernel_rfl) ?_
  obtain ⟨L, hr⟩ := rt_upd n d was d0 rs0 k len cap b fl nx lf es rt
  simp only [strI_bytesI] at hr
  refine TG_ret (XU (hRn d0 rs0 k)) mo _ (by kernel_rfl) hr fun g hg _ => ?_
  rw [List.mem_singleton] at hg; subst hg
  refine ⟨?_, _, _, _, rfl, rfl, rfl, rfl⟩
  repeat' (first | exact all_nil | refine List.forall_mem_cons.2 ⟨?_, ?_⟩)
  · exact rt_some hno
  · exact vq_f hn.1
  · exact ng64 hn.2
  · exact vn_t hd
  · exact has_hint hk
  · rfl
  · exact vn_t hd
  · exact vq_f hne
  · exact Nat.lt_of_le_of_lt hn.2 (by decide)
  · omega
  · rw [wrap_id (by rw [hO, hO]; omega) (by rw [hO, hO]; omega)]
    exact gt_false (by rw [hO, hO]; omega)
  · exact hc
  · exact hl
  · exact roomy_ok (by omega)
  · exact vq_f hd
theorem root_del (was : List UInt8) (hn : nOk n) (hno : lookD (.str n) rt = some (.str was)) (hne : was ≠ []) (hc : 0 < cap) (hl : len = b.length) (hfit : len + (namB n []).length ≤ 1048576) :
    CallIs Tryz.prog 16 [P3, .str n, .str []] (memS (pS len cap b fl nx lf es rt)) 7 (.int .i64 0) (memRw fl nx lf es (len + (namB n []).length) (b ++ namB n []) (delD (.str n) rt)) 8 := by
  have hO : ∀ n : Nat, Int.ofNat n = (n : Int) := fun _ => rfl
  refine callIs_of_TG Tryz.func16 (code := cdRt) (by kernel_rfl) (by kernel_rfl) ?_
  obtain ⟨L, hr⟩ := rt_del n was len cap b fl nx lf es rt
  simp only [strI_bytesI] at hr
  refine TG_ret (XU [(46, [(13, .give (.bool false))]), (50, [(7, .give (.bool true))])]) mo _ (by kernel_rfl) hr fun g hg _ => ?_
  rw [List.mem_singleton] at hg; subst hg
  refine ⟨?_, _, _, _, rfl, rfl, rfl, rfl⟩
  repeat' (first | exact all_nil | refine List.forall_mem_cons.2 ⟨?_, ?_⟩)
  · exact rt_some hno
  · exact vq_f hn.1
  · exact ng64 hn.2
  · rfl
  · rfl
  · exact vq_f hne.symm
  · exact Nat.lt_of_le_of_lt hn.2 (by decide)
  · decide
  · rw [wrap_id (by rw [hO, hO]; omega) (by rw [hO, hO]; omega)]
    exact gt_false (by rw [hO, hO]; omega)
  · exact hc
  · exact hl
  · exact roomy_ok (by omega)
  · rfl
end
end Go.Proofs.YtfihojpgobmmdaaGreatDoor
namespace Go.Proofs.YtfihojpgobmmdaaGreatDoor
open Go Go.Eng Go.Shelf Go.RowKit
def clRen : Go.Shelf.Ren := ⟨fun | 42 => 63 | n => n, fun n => n, fun n => n⟩
theorem clLays : SlLaysN.n42 Tryz.prog clRen := {
  mixed := mo
  f42 := ⟨"slices.Clone[[]gouache/api.Digest,gouache/api.Digest]", by decide, Tryz.func63.trans (congrArg some (by kernel_rfl))⟩
  t4 := Tryz.underlying4
  a4 := Tryz.isAgg4
  z4 := Tryz.sizeOf4
  v4 := Tryz.zeroValue4
  t25 := Tryz.underlying25
  a25 := Tryz.isAgg25
  z25 := Tryz.sizeOf25
  v25 := Tryz.zeroValue25
  t26 := Tryz.underlying26
  a26 := Tryz.isAgg26
  z26 := Tryz.sizeOf26
  v26 := Tryz.zeroValue26
  i26 := by kernel_rfl }
def specC0 : List V → Option (List Prop × V)
  | [.lst _ 0 []] => some ([], .lst false 0 [])
  | _ => none
theorem one_C0 : OneW Tryz.prog 63 (pureW specC0) := by
  refine pureW_ok (Nat.le_of_ble_eq_true (by kernel_rfl)) fun args A v e => ?_
  unfold specC0 at e
  split at e
  · simp only [Option.some.injEq, Prod.mk.injEq] at e; obtain ⟨rfl, rfl⟩ := e
    refine ⟨rfl, rfl, fun _ E w args' _ ra => ?_⟩
    obtain ⟨y, ys, r0, rs, rfl⟩ := ra
    have rs : ys = [] := rs
    subst rs
    obtain ⟨⟨a, cap, vs, rfl, _, hv, _, _⟩, _⟩ := r0
    cases a with
    | none =>
      refine (AnyG.slices_Clone_string_nil clLays 0 cap w).mono fun en w' ⟨he, hw⟩ => ?_
      subst he; subst hw
      exact ⟨⟨E, ⟨none, 0, [], rfl, Nat.le_refl _, rfl, fun _ => rfl, fun h => absurd h (Nat.lt_irrefl _)⟩, fun h => by cases h⟩, Below.refl _ _⟩
    | some a =>
      refine (AnyG.slices_Clone_string_zero clLays a cap w).mono fun en w' ⟨v', he, hown, _, hw⟩ => ?_
      subst he
      have hv' : ∃ a c, v' = .slice a 0 c := by
        obtain ⟨_, h⟩ := hown
        rcases h with ⟨h, _⟩ | ⟨g, cap, cur, h, _⟩
        · exact ⟨none, 0, h⟩
        · exact ⟨_, _, h⟩
      obtain ⟨a2, c2, rfl⟩ := hv'
      exact ⟨⟨E, ⟨a2, c2, [], rfl, Nat.zero_le _, rfl, fun _ => rfl, fun h => absurd h (Nat.lt_irrefl _)⟩, fun h => by cases h⟩, hw⟩
  · cases e
theorem call63 (f : Bool) (h : Tr O) (n : Nat) : CallIs Tryz.prog 63 [.lst f 0 []] h n (.lst false 0 []) h n := fun E w args' ra g hd =>
  one_C0.2 _ _ _ [] _ _ _ rfl all_nil E w args' ra g hd (by kernel_rfl)
end Go.Proofs.YtfihojpgobmmdaaGreatDoor
namespace Go.Proofs.YtfihojpgobmmdaaGreatDoor
open Go Go.Eng
def is41 : List V → Bool
  | [_, .fn (.func 41) _ _] => true
  | _ => false
noncomputable abbrev csV (q : List V → Bool) (g : V) (l : List (Nat × List (Nat × Fix))) (h : Tr O) (f : Bool) (rs : List (List UInt8)) : CallS := pinQS (csQ l) 43 q [.lst f rs.length (strs rs), g] h 8 (.bool true, h, 8)
theorem pe_long (d : List UInt8) (len cap : Nat) (b : List UInt8) (fl nx lf : Int) (es rt : List (D × D)) : ∃ L, RunIs Tryz.prog (csQ []) [(16, .give (.bool true))] 1000 7 Tryz.f15 [] (cdPt) (startSt [P3, .str d, nilS] (memS (pS len cap b fl nx lf es rt)) 7) L
    [([],
      [(V.bool (decide ((Int.ofNat d.length) > (65536 : Int))) = V.bool true)],
      .ret (.tup [.str [], .int .i64 1]) (memS (pS len cap b fl nx lf es rt)) 7)]
  := RunIs.of (by kernel_rfl) (by kernel_rfl) (by kernel_rfl)
theorem pe_many (d : List UInt8) (f : Bool) (n : Nat) (cs : List D) (len cap : Nat) (b : List UInt8) (fl nx lf : Int) (es rt : List (D × D)) : ∃ L, RunIs Tryz.prog (csQ []) [(16, .give (.bool false)), (20, .give (.bool true))] 1000 7 Tryz.f15 [] (cdPt) (startSt [P3, .str d, .lst f n cs] (memS (pS len cap b fl nx lf es rt)) 7) L
    [([],
      [(V.bool (decide ((Int.ofNat d.length) > (65536 : Int))) = V.bool false), (V.bool (decide ((Int.ofNat n) > (1024 : Int))) = V.bool true)],
      .ret (.tup [.str [], .int .i64 1]) (memS (pS len cap b fl nx lf es rt)) 7)]
  := RunIs.of (by kernel_rfl) (by kernel_rfl) (by kernel_rfl)
theorem pe_bad (d : List UInt8) (f : Bool) (rs : List (List UInt8)) (len cap : Nat) (b : List UInt8) (fl nx lf : Int) (es rt : List (D × D)) : ∃ L, RunIs Tryz.prog (csV is41 f41 [] (hB len cap b fl nx lf es rt) f rs) [(16, .give (.bool false)), (20, .give (.bool false))] 1000 7 Tryz.f15 [] (cdPt) (startSt [P3, .str d, .lst f rs.length (strs rs)] (memS (pS len cap b fl nx lf es rt)) 7) L
    [([],
      [(V.bool (decide ((Int.ofNat d.length) > (65536 : Int))) = V.bool false), (V.bool (decide ((Int.ofNat rs.length) > (1024 : Int))) = V.bool false), (([.lst f (rs.length) (strs rs), .fn (.func 41) [] []] : List V) = [.lst f (rs.length) (strs rs), .fn (.func 41) [] []] ∧ (hL (memL (pS len cap b fl nx lf es rt) ++ [(7, .cells [.ptr (some (3, 0))])])) = (hL (memL (pS len cap b fl nx lf es rt) ++ [(7, .cells [.ptr (some (3, 0))])])) ∧ 8 = 8)],
      .ret (.tup [.str [], .int .i64 1]) (memS (pS len cap b fl nx lf es rt)) 7)]
  := RunIs.of (by kernel_rfl) (by kernel_rfl) (by kernel_rfl)
theorem pe_mis (d : List UInt8) (f : Bool) (rs : List (List UInt8)) (len cap : Nat) (b : List UInt8) (fl nx lf : Int) (es rt : List (D × D)) : ∃ L, RunIs Tryz.prog (csV is44 f44 [] (hB len cap b fl nx lf es rt) f rs) [(16, .give (.bool false)), (20, .give (.bool false))] 1000 7 Tryz.f15 [] (cdPt) (startSt [P3, .str d, .lst f rs.length (strs rs)] (memS (pS len cap b fl nx lf es rt)) 7) L
    [([],
      [(V.bool (decide ((Int.ofNat d.length) > (65536 : Int))) = V.bool false), (V.bool (decide ((Int.ofNat rs.length) > (1024 : Int))) = V.bool false), (strs rs = strs (strL (strs rs))), (rs.length = (strL (strs rs)).length), (rs.length ≤ 1000000), (∀ (x : List UInt8), x ∈ strL (strs rs) → x.length = 32), (([.lst f (rs.length) (strs rs), .fn (.func 44) [] [.ptr (some (7, 0))]] : List V) = [.lst f (rs.length) (strs rs), .fn (.func 44) [] [.ptr (some (7, 0))]] ∧ (hL (memL (pS len cap b fl nx lf es rt) ++ [(7, .cells [.ptr (some (3, 0))])])) = (hL (memL (pS len cap b fl nx lf es rt) ++ [(7, .cells [.ptr (some (3, 0))])])) ∧ 8 = 8)],
      .ret (.tup [.str [], .int .i64 63]) (memS (pS len cap b fl nx lf es rt)) 7)]
  := RunIs.of (by kernel_rfl) (by kernel_rfl) (by kernel_rfl)
theorem ge_no (d : List UInt8) (len cap : Nat) (b : List UInt8) (fl nx lf : Int) (es rt : List (D × D)) : ∃ L, RunIs Tryz.prog (csQ []) [(17, .give (.tup [entZ, .bool false]))] 1000 7 Tryz.f25 [] (bodyOf Tryz.f25) (startSt [P3, .str d] (memS (pS len cap b fl nx lf es rt)) 7) L
    [([],
      [((if true = true then V.tup [D.valV (V.agg [V.str ([] : List UInt8), V.slc none 0 0 0, V.int IntKind.i64 (0 : Int)]) (lookD (D.str d) es), V.bool (lookD (D.str d) es).isSome] else D.valV (V.agg [V.str ([] : List UInt8), V.slc none 0 0 0, V.int IntKind.i64 (0 : Int)]) (lookD (D.str d) es)) = V.tup [entZ, V.bool false])],
      .ret (.tup [.str [], .slc none 0 0 0, .int .i64 62]) (memS (pS len cap b fl nx lf es rt)) 7)]
  := RunIs.of (by kernel_rfl) (by kernel_rfl) (by kernel_rfl)
theorem ge_has (d d0 : List UInt8) (rs0 : List (List UInt8)) (k : Int) (len cap : Nat) (b : List UInt8) (fl nx lf : Int) (es rt : List (D × D)) : ∃ L, RunIs Tryz.prog (csQ []) [(17, .give (.tup [entV d0 rs0 k, .bool true]))] 1000 7 Tryz.f25 [] (bodyOf Tryz.f25) (startSt [P3, .str d] (memS (pS len cap b fl nx lf es rt)) 7) L
    [([],
      [((if true = true then V.tup [D.valV (V.agg [V.str ([] : List UInt8), V.slc none 0 0 0, V.int IntKind.i64 (0 : Int)]) (lookD (D.str d) es), V.bool (lookD (D.str d) es).isSome] else D.valV (V.agg [V.str ([] : List UInt8), V.slc none 0 0 0, V.int IntKind.i64 (0 : Int)]) (lookD (D.str d) es)) = V.tup [entV d0 rs0 k, V.bool true]), (0 < rs0.length), ((strs rs0).length = rs0.length), (rs0.length ≤ 1000000)],
      .ret (.tup [.str d0, .lst false (rs0.length) (strs rs0), .int .i64 0]) (memS (pS len cap b fl nx lf es rt)) 7)]
  := RunIs.of (by kernel_rfl) (by kernel_rfl) (by kernel_rfl)
def hG (d0 : List UInt8) (k : Int) (p : Sto) : Tr O := (memS p).set 7 (some (.cells [.str d0, .lst false 0 [], .int .i64 k]))
theorem ge_has0 (d d0 : List UInt8) (k : Int) (len cap : Nat) (b : List UInt8) (fl nx lf : Int) (es rt : List (D × D)) : ∃ L, RunIs Tryz.prog (pinS (csQ []) 63 [.lst false 0 []] (hG d0 k (pS len cap b fl nx lf es rt)) 16 (.lst false 0 [], hG d0 k (pS len cap b fl nx lf es rt), 16)) [(17, .give (.tup [entV d0 [] k, .bool true]))] 1000 7 Tryz.f25 [] (bodyOf Tryz.f25) (startSt [P3, .str d] (memS (pS len cap b fl nx lf es rt)) 7) L
    [([],
      [((if true = true then V.tup [D.valV (V.agg [V.str ([] : List UInt8), V.slc none 0 0 0, V.int IntKind.i64 (0 : Int)]) (lookD (D.str d) es), V.bool (lookD (D.str d) es).isSome] else D.valV (V.agg [V.str ([] : List UInt8), V.slc none 0 0 0, V.int IntKind.i64 (0 : Int)]) (lookD (D.str d) es)) = V.tup [entV d0 [] k, V.bool true]), (([.lst false 0 []] : List V) = [.lst false 0 []] ∧ (hL (memL (pS len cap b fl nx lf es rt) ++ [(7, .cells [.str d0, .lst false 0 [], .int .i64 k])])) = (hL (memL (pS len cap b fl nx lf es rt) ++ [(7, .cells [.str d0, .lst false 0 [], .int .i64 k])])) ∧ 16 = 16)],
      .ret (.tup [.str d0, .lst false 0 [], .int .i64 0]) (memS (pS len cap b fl nx lf es rt)) 7)]
  := RunIs.of (by kernel_rfl) (by kernel_rfl) (by kernel_rfl)
theorem hs_no (d : List UInt8) (len cap : Nat) (b : List UInt8) (fl nx lf : Int) (es rt : List (D × D)) : ∃ L, RunIs Tryz.prog (csQ []) [(15, .give (.tup [entZ, .bool false]))] 1000 7 Tryz.f18 [] (bodyOf Tryz.f18) (startSt [P3, .str d] (memS (pS len cap b fl nx lf es rt)) 7) L
    [([],
      [((if true = true then V.tup [D.valV (V.agg [V.str ([] : List UInt8), V.slc none 0 0 0, V.int IntKind.i64 (0 : Int)]) (lookD (D.str d) es), V.bool (lookD (D.str d) es).isSome] else D.valV (V.agg [V.str ([] : List UInt8), V.slc none 0 0 0, V.int IntKind.i64 (0 : Int)]) (lookD (D.str d) es)) = V.tup [entZ, V.bool false])],
      .ret (.bool false) (memS (pS len cap b fl nx lf es rt)) 7)]
  := RunIs.of (by kernel_rfl) (by kernel_rfl) (by kernel_rfl)
theorem hs_has (d d0 : List UInt8) (rs0 : List (List UInt8)) (k : Int) (len cap : Nat) (b : List UInt8) (fl nx lf : Int) (es rt : List (D × D)) : ∃ L, RunIs Tryz.prog (csQ []) [(15, .give (.tup [entV d0 rs0 k, .bool true]))] 1000 7 Tryz.f18 [] (bodyOf Tryz.f18) (startSt [P3, .str d] (memS (pS len cap b fl nx lf es rt)) 7) L
    [([],
      [((if true = true then V.tup [D.valV (V.agg [V.str ([] : List UInt8), V.slc none 0 0 0, V.int IntKind.i64 (0 : Int)]) (lookD (D.str d) es), V.bool (lookD (D.str d) es).isSome] else D.valV (V.agg [V.str ([] : List UInt8), V.slc none 0 0 0, V.int IntKind.i64 (0 : Int)]) (lookD (D.str d) es)) = V.tup [entV d0 rs0 k, V.bool true])],
      .ret (.bool true) (memS (pS len cap b fl nx lf es rt)) 7)]
  := RunIs.of (by kernel_rfl) (by kernel_rfl) (by kernel_rfl)
theorem cf_bad (f : Bool) (rs : List (List UInt8)) (i : Nat) (len cap : Nat) (b : List UInt8) (fl nx lf : Int) (es rt : List (D × D)) : ∃ L, RunIs Tryz.prog (pinQS (csQ []) 73 is41 [.lst f rs.length (strs rs), f41] (hB len cap b fl nx lf es rt) 8 (.int .i64 (Int.ofNat i), hB len cap b fl nx lf es rt, 8)) [(8, .give (.bool true))] 1000 8 Tryz.f43 [] (cdCF) (startSt [.lst f rs.length (strs rs), f41] (hB len cap b fl nx lf es rt) 8) L
    [([],
      [(([.lst f (rs.length) (strs rs), .fn (.func 41) [] []] : List V) = [.lst f (rs.length) (strs rs), .fn (.func 41) [] []] ∧ (hL (memL (pS len cap b fl nx lf es rt) ++ [(7, .cells [.ptr (some (3, 0))])])) = (hL (memL (pS len cap b fl nx lf es rt) ++ [(7, .cells [.ptr (some (3, 0))])])) ∧ 8 = 8), (V.bool (decide (Int.ofNat i ≥ (0 : Int))) = V.bool true)],
      .ret (.bool true) (hL (memL (pS len cap b fl nx lf es rt) ++ [(7, .cells [.ptr (some (3, 0))])])) 8)]
  := RunIs.of (by kernel_rfl) (by kernel_rfl) (by kernel_rfl)
theorem cf_mis (f : Bool) (rs : List (List UInt8)) (i : Nat) (len cap : Nat) (b : List UInt8) (fl nx lf : Int) (es rt : List (D × D)) : ∃ L, RunIs Tryz.prog (pinQS (csQ []) 73 is44 [.lst f rs.length (strs rs), f44] (hB len cap b fl nx lf es rt) 8 (.int .i64 (Int.ofNat i), hB len cap b fl nx lf es rt, 8)) [(8, .give (.bool true))] 1000 8 Tryz.f43 [] (cdCF) (startSt [.lst f rs.length (strs rs), f44] (hB len cap b fl nx lf es rt) 8) L
    [([],
      [(([.lst f (rs.length) (strs rs), .fn (.func 44) [] [.ptr (some (7, 0))]] : List V) = [.lst f (rs.length) (strs rs), .fn (.func 44) [] [.ptr (some (7, 0))]] ∧ (hL (memL (pS len cap b fl nx lf es rt) ++ [(7, .cells [.ptr (some (3, 0))])])) = (hL (memL (pS len cap b fl nx lf es rt) ++ [(7, .cells [.ptr (some (3, 0))])])) ∧ 8 = 8), (V.bool (decide (Int.ofNat i ≥ (0 : Int))) = V.bool true)],
      .ret (.bool true) (hL (memL (pS len cap b fl nx lf es rt) ++ [(7, .cells [.ptr (some (3, 0))])])) 8)]
  := RunIs.of (by kernel_rfl) (by kernel_rfl) (by kernel_rfl)
-- ix_5: rounds over f41 at the memory of Put
theorem ix_5 (f : Bool) (rs : List (List UInt8)) (x : List UInt8) (i : Nat) (len cap : Nat) (b : List UInt8) (fl nx lf : Int) (es rt : List (D × D)) : ∃ L, RunIs Tryz.prog cs13 [(9, .split), (14, .give (.fptr [.str x])), (16, .split), (18, .give (.int .i64 (Int.ofNat (i + 1))))] 1000 8 Tryz.f73 [0, 1, 7, 8] (inner (inner (seqR lpIx))) (sIx (hB len cap b fl nx lf es rt) 8 f41 f rs i) L
    [([((decide (Int.ofNat i < Int.ofNat rs.length)), true), ((!(Int.ofNat x.length) == (32 : Int)), true)],
      [((0 : Int) ≤ Int.ofNat i ∧ Int.ofNat i < (Int.ofNat rs.length)), ((strs rs).length = rs.length * 1), (V.fptr (cellsAt (strs rs) ((Int.ofNat i).toNat * 1) 1) = V.fptr [D.str x])],
      .ret (.int .i64 (Int.ofNat i)) (hL (memL (pS len cap b fl nx lf es rt) ++ [(7, .cells [.ptr (some (3, 0))])])) 8),
    ([((decide (Int.ofNat i < Int.ofNat rs.length)), true), ((!(Int.ofNat x.length) == (32 : Int)), false)],
      [((0 : Int) ≤ Int.ofNat i ∧ Int.ofNat i < (Int.ofNat rs.length)), ((strs rs).length = rs.length * 1), (V.fptr (cellsAt (strs rs) ((Int.ofNat i).toNat * 1) 1) = V.fptr [D.str x]), (V.int IntKind.i64 (IntKind.i64.wrap (Int.ofNat i + (1 : Int))) = V.int IntKind.i64 (Int.ofNat (i + 1)))],
      .to .normal (stG [(0, .lst f (rs.length) (strs rs)), (1, .fn (.func 41) [] []), (7, .int .i64 (Int.ofNat rs.length)), (8, .int .i64 (Int.ofNat (i + 1)))] (hL (memL (pS len cap b fl nx lf es rt) ++ [(7, .cells [.ptr (some (3, 0))])])) 8)),
    ([((decide (Int.ofNat i < Int.ofNat rs.length)), false)],
      [],
      .to (.exit 0) (stG [(0, .lst f (rs.length) (strs rs)), (1, .fn (.func 41) [] []), (7, .int .i64 (Int.ofNat rs.length)), (8, .int .i64 (Int.ofNat i))] (hL (memL (pS len cap b fl nx lf es rt) ++ [(7, .cells [.ptr (some (3, 0))])])) 8))]
  := RunIs.of (by kernel_rfl) (by kernel_rfl) (by kernel_rfl)
theorem ix_6 (f : Bool) (rs : List (List UInt8)) (len cap : Nat) (b : List UInt8) (fl nx lf : Int) (es rt : List (D × D)) : ∃ L, RunIs Tryz.prog cs13 [] 1000 8 Tryz.f73 [0, 1] (headN 1 cdIx) (startSt [.lst f rs.length (strs rs), f41] (hB len cap b fl nx lf es rt) 8) L
    [([],
      [],
      .to .normal (stG [(0, .lst f (rs.length) (strs rs)), (1, .fn (.func 41) [] [])] (hL (memL (pS len cap b fl nx lf es rt) ++ [(7, .cells [.ptr (some (3, 0))])])) 8))]
  := RunIs.of (by kernel_rfl) (by kernel_rfl) (by kernel_rfl)
theorem ix_7 (f : Bool) (rs : List (List UInt8)) (len cap : Nat) (b : List UInt8) (fl nx lf : Int) (es rt : List (D × D)) : ∃ L, RunIs Tryz.prog cs13 [(8, .give (.int .i64 (Int.ofNat 0)))] 1000 8 Tryz.f73 [0, 1, 7, 8] (seqL lpIx) (sIa (hB len cap b fl nx lf es rt) 8 f41 f rs) L
    [([],
      [(V.int IntKind.i64 (0 : Int) = V.int IntKind.i64 (0 : Int))],
      .to .normal (stG [(0, .lst f (rs.length) (strs rs)), (1, .fn (.func 41) [] []), (7, .int .i64 ((Int.ofNat rs.length))), (8, .int .i64 0)] (hL (memL (pS len cap b fl nx lf es rt) ++ [(7, .cells [.ptr (some (3, 0))])])) 8))]
  := RunIs.of (by kernel_rfl) (by kernel_rfl) (by kernel_rfl)
end Go.Proofs.YtfihojpgobmmdaaGreatDoor
namespace Go.Proofs.YtfihojpgobmmdaaGreatDoor
open Go Go.Eng
theorem tgIxJ {n0 : Nat} {h : Tr O} {gv : V} {f : Bool} {rs : List (List UInt8)} {R : V → Tr O → Nat → Prop} (j : Nat)
    (h0 : TG Tryz.prog n0 Tryz.f73.ntmps (seqL lpIx) (sIa h n0 gv f rs) (andThen (fun s' => normG n0 [0, 1, 7, 8] s' = some (sIx h n0 gv f rs 0)) fun _ _ => False))
    (hr : ∀ i, i < j → TG Tryz.prog n0 Tryz.f73.ntmps rdIx (sIx h n0 gv f rs i) (andThen (fun s' => normG n0 [0, 1, 7, 8] s' = some (sIx h n0 gv f rs (i + 1))) fun _ _ => False))
    (he : TG Tryz.prog n0 Tryz.f73.ntmps rdIx (sIx h n0 gv f rs j) fun y s' => y = .ret ∧ RetG Tryz.prog n0 Tryz.f73 R .ret s') : TG Tryz.prog n0 Tryz.f73.ntmps tlIx (sIa h n0 gv f rs) (RetG Tryz.prog n0 Tryz.f73 R) := by
  refine TG_seq' (by kernel_rfl) ?_
  refine TG_seq' (by kernel_rfl) ?_
  refine TG_mono h0 fun y s' hs' => ?_
  cases y <;> first | exact hs'.elim | skip
  have hs' : normG n0 [0, 1, 7, 8] s' = some (sIx h n0 gv f rs 0) := hs'
  refine TG_block (i := 0) (by kernel_rfl) (TG_mono (Q1 := fun z s' => z = .ret ∧ RetG Tryz.prog n0 Tryz.f73 R .ret s') (TG_loop_inv (fun k' s => ∃ i, k' = j - i ∧ i ≤ j ∧ normG n0 [0, 1, 7, 8] s = some (sIx h n0 gv f rs i)) (by kernel_rfl) ?_ j ⟨0, rfl, Nat.zero_le _, hs'⟩) ?_)
  · rintro k' s1 ⟨i, hk, hi, hs1⟩
    refine TG_norm hs1 ?_
    rcases Nat.lt_or_ge i j with hlt | hge
    · refine TG_mono (hr i hlt) fun y s2 hs2 => ?_
      cases y <;> first | exact hs2.elim | skip
      exact ⟨j - (i + 1), by omega, i + 1, rfl, by omega, hs2⟩
    · obtain rfl : i = j := by omega
      refine TG_mono he fun y s2 hs2 => ?_
      obtain ⟨rfl, hs2⟩ := hs2
      exact ⟨rfl, hs2⟩
  rintro y s2 ⟨rfl, hs2⟩
  exact hs2
section
variable (f : Bool) (rs : List (List UInt8)) (len cap : Nat) (b : List UInt8) (fl nx lf : Int) (es rt : List (D × D))
theorem tgIxBad (hl : rs.length ≤ 1000000) (j : Nat) (x : List UInt8) (hj : rs[j]? = some x) (hx : x.length ≠ 32) (hg : ∀ i y, i < j → rs[i]? = some y → y.length = 32) :
    TG Tryz.prog 8 Tryz.f73.ntmps cdIx (startSt [.lst f rs.length (strs rs), f41] (hB len cap b fl nx lf es rt) 8) (RetG Tryz.prog 8 Tryz.f73 fun a b' c => a = .int .i64 (Int.ofNat j) ∧ b' = hB len cap b fl nx lf es rt ∧ c = 8) := by
  have hO : ∀ n : Nat, Int.ofNat n = (n : Int) := fun _ => rfl
  have hjl : j < rs.length := (List.getElem?_eq_some_iff.1 hj).1
  obtain ⟨L0, hr0⟩ := ix_6 f rs len cap b fl nx lf es rt
  refine TG_isN1 1 X13 mo (by kernel_rfl) hr0 all_nil ?_
  show TG Tryz.prog 8 Tryz.f73.ntmps tlIx (sIa (hB len cap b fl nx lf es rt) 8 f41 f rs) _
  refine tgIxJ j ?_ (fun i hij => ?_) ?_
  · obtain ⟨L2, hr2⟩ := ix_7 f rs len cap b fl nx lf es rt
    refine TG_is X13 mo anyR (by kernel_rfl) hr2 fun g hg _ => ?_
    rw [List.mem_singleton] at hg; subst hg
    exact ⟨fun p hp => by rw [List.mem_singleton] at hp; subst hp; rfl, fun s' hs' => hs'⟩
  · obtain ⟨y, hy⟩ : ∃ y, rs[i]? = some y := ⟨_, List.getElem?_eq_getElem (by omega)⟩
    have h32 := hg i y hij hy
    obtain ⟨L3, hr3⟩ := ix_5 f rs y i len cap b fl nx lf es rt
    refine TG_is X13 mo anyR (by kernel_rfl) hr3 fun g hg hc => ?_
    simp only [List.mem_cons, List.not_mem_nil, or_false] at hg
    rcases hg with rfl | rfl | rfl
    · have := hc _ (List.mem_cons_of_mem _ (List.mem_singleton.2 rfl))
      simp [h32] at this
    · refine ⟨?_, fun s' hs' => hs'⟩
      repeat' (first | exact all_nil | refine List.forall_mem_cons.2 ⟨?_, ?_⟩)
      · exact ⟨Int.natCast_nonneg _, by rw [hO, hO]; omega⟩
      · rw [strs_len, Nat.mul_one]
      · exact congrArg V.fptr (cellsAt_strs hy)
      · exact ieq_ok (by rw [hO]; omega) (by omega)
    · exact absurd (of_decide_eq_false (hc _ (List.mem_singleton.2 rfl))) (by rw [hO, hO]; omega)
  · obtain ⟨L3, hr3⟩ := ix_5 f rs x j len cap b fl nx lf es rt
    refine TG_is X13 mo (fun a b' c => a = .int .i64 (Int.ofNat j) ∧ b' = hB len cap b fl nx lf es rt ∧ c = 8) (by kernel_rfl) hr3 fun g hg hc => ?_
    simp only [List.mem_cons, List.not_mem_nil, or_false] at hg
    rcases hg with rfl | rfl | rfl
    · refine ⟨?_, ⟨rfl, rfl, rfl⟩, fun s' hs' => ⟨rfl, hs'⟩⟩
      repeat' (first | exact all_nil | refine List.forall_mem_cons.2 ⟨?_, ?_⟩)
      · exact ⟨Int.natCast_nonneg _, by rw [hO, hO]; omega⟩
      · rw [strs_len, Nat.mul_one]
      · exact congrArg V.fptr (cellsAt_strs hj)
    · have := hc _ (List.mem_cons_of_mem _ (List.mem_singleton.2 rfl))
      simp at this
      exact absurd (by omega) hx
    · exact absurd (of_decide_eq_false (hc _ (List.mem_singleton.2 rfl))) (by rw [hO, hO]; omega)
theorem tgIxMis (hl : rs.length ≤ 1000000) (j : Nat) (x : List UInt8) (hj : rs[j]? = some x) (hx : lookD (.str x) es = none) (hg : ∀ i y, i < j → rs[i]? = some y → Has es y) :
    TG Tryz.prog 8 Tryz.f73.ntmps cdIx (startSt [.lst f rs.length (strs rs), f44] (hB len cap b fl nx lf es rt) 8) (RetG Tryz.prog 8 Tryz.f73 fun a b' c => a = .int .i64 (Int.ofNat j) ∧ b' = hB len cap b fl nx lf es rt ∧ c = 8) := by
  have hO : ∀ n : Nat, Int.ofNat n = (n : Int) := fun _ => rfl
  have hjl : j < rs.length := (List.getElem?_eq_some_iff.1 hj).1
  obtain ⟨L0, hr0⟩ := ix_hd44 len cap b fl nx lf es rt f rs
  refine TG_isN1 1 X13 mo (by kernel_rfl) hr0 all_nil ?_
  show TG Tryz.prog 8 Tryz.f73.ntmps tlIx (sIa (hB len cap b fl nx lf es rt) 8 f44 f rs) _
  refine tgIxJ j ?_ (fun i hij => ?_) ?_
  · obtain ⟨L2, hr2⟩ := ix_144 len cap b fl nx lf es rt f rs
    refine TG_is X13 mo anyR (by kernel_rfl) hr2 fun g hg _ => ?_
    rw [List.mem_singleton] at hg; subst hg
    exact ⟨fun p hp => by rw [List.mem_singleton] at hp; subst hp; rfl, fun s' hs' => hs'⟩
  · obtain ⟨y, hy⟩ : ∃ y, rs[i]? = some y := ⟨_, List.getElem?_eq_getElem (by omega)⟩
    obtain ⟨d0, rs0, k, hk⟩ := hg i y hij hy
    obtain ⟨L3, hr3⟩ := ix_3 f rs y i len cap b d0 rs0 k fl nx lf es rt
    refine TG_is (XP [(18, [(15, .give (.tup [entV d0 rs0 k, .bool true]))])]) mo anyR (by kernel_rfl) hr3 fun g hg hc => ?_
    simp only [List.mem_cons, List.not_mem_nil, or_false] at hg
    rcases hg with rfl | rfl
    · refine ⟨?_, fun s' hs' => hs'⟩
      repeat' (first | exact all_nil | refine List.forall_mem_cons.2 ⟨?_, ?_⟩)
      · exact ⟨Int.natCast_nonneg _, by rw [hO, hO]; omega⟩
      · rw [strs_len, Nat.mul_one]
      · exact congrArg V.fptr (cellsAt_strs hy)
      · exact has_hint hk
      · exact ieq_ok (by rw [hO]; omega) (by omega)
    · exact absurd (of_decide_eq_false (hc _ (List.mem_singleton.2 rfl))) (by rw [hO, hO]; omega)
  · obtain ⟨L3, hr3⟩ := ix_4 f rs x j len cap b fl nx lf es rt
    refine TG_is (XP [(18, [(15, .give (.tup [entZ, .bool false]))])]) mo (fun a b' c => a = .int .i64 (Int.ofNat j) ∧ b' = hB len cap b fl nx lf es rt ∧ c = 8) (by kernel_rfl) hr3 fun g hg hc => ?_
    simp only [List.mem_cons, List.not_mem_nil, or_false] at hg
    rcases hg with rfl | rfl
    · refine ⟨?_, ⟨rfl, rfl, rfl⟩, fun s' hs' => ⟨rfl, hs'⟩⟩
      repeat' (first | exact all_nil | refine List.forall_mem_cons.2 ⟨?_, ?_⟩)
      · exact ⟨Int.natCast_nonneg _, by rw [hO, hO]; omega⟩
      · rw [strs_len, Nat.mul_one]
      · exact congrArg V.fptr (cellsAt_strs hj)
      · exact hasnt_hint hx
    · exact absurd (of_decide_eq_false (hc _ (List.mem_singleton.2 rfl))) (by rw [hO, hO]; omega)
theorem call43b (hl : rs.length ≤ 1000000) (j : Nat) (x : List UInt8) (hj : rs[j]? = some x) (hx : x.length ≠ 32) (hg : ∀ i y, i < j → rs[i]? = some y → y.length = 32) :
    CallIs Tryz.prog 43 [.lst f rs.length (strs rs), f41] (hB len cap b fl nx lf es rt) 8 (.bool true) (hB len cap b fl nx lf es rt) 8 := by
  have h73 : CallIs Tryz.prog 73 [.lst f rs.length (strs rs), f41] (hB len cap b fl nx lf es rt) 8 (.int .i64 (Int.ofNat j)) (hB len cap b fl nx lf es rt) 8 :=
    callIs_of_TG Tryz.func73 (by kernel_rfl) (by kernel_rfl) (tgIxBad f rs len cap b fl nx lf es rt hl j x hj hx hg)
  refine callIs_of_TG Tryz.func43 (code := cdCF) (by kernel_rfl) (by kernel_rfl) ?_
  obtain ⟨L, hr⟩ := cf_bad f rs j len cap b fl nx lf es rt
  refine TG_ret ((XQ []).pinQ is41 (Nat.le_of_ble_eq_true (by kernel_rfl)) h73) mo _ (by kernel_rfl) hr fun g hg _ => ?_
  rw [List.mem_singleton] at hg; subst hg
  refine ⟨?_, _, _, _, rfl, rfl, rfl, rfl⟩
  repeat' (first | exact all_nil | refine List.forall_mem_cons.2 ⟨?_, ?_⟩)
  · exact ⟨rfl, rfl, rfl⟩
  · exact vb_t (Int.natCast_nonneg _)
theorem call43m (hl : rs.length ≤ 1000000) (j : Nat) (x : List UInt8) (hj : rs[j]? = some x) (hx : lookD (.str x) es = none) (hg : ∀ i y, i < j → rs[i]? = some y → Has es y) :
    CallIs Tryz.prog 43 [.lst f rs.length (strs rs), f44] (hB len cap b fl nx lf es rt) 8 (.bool true) (hB len cap b fl nx lf es rt) 8 := by
  have h73 : CallIs Tryz.prog 73 [.lst f rs.length (strs rs), f44] (hB len cap b fl nx lf es rt) 8 (.int .i64 (Int.ofNat j)) (hB len cap b fl nx lf es rt) 8 :=
    callIs_of_TG Tryz.func73 (by kernel_rfl) (by kernel_rfl) (tgIxMis f rs len cap b fl nx lf es rt hl j x hj hx hg)
  refine callIs_of_TG Tryz.func43 (code := cdCF) (by kernel_rfl) (by kernel_rfl) ?_
  obtain ⟨L, hr⟩ := cf_mis f rs j len cap b fl nx lf es rt
  refine TG_ret ((XQ []).pinQ is44 (Nat.le_of_ble_eq_true (by kernel_rfl)) h73) mo _ (by kernel_rfl) hr fun g hg _ => ?_
  rw [List.mem_singleton] at hg; subst hg
  refine ⟨?_, _, _, _, rfl, rfl, rfl, rfl⟩
  repeat' (first | exact all_nil | refine List.forall_mem_cons.2 ⟨?_, ?_⟩)
  · exact ⟨rfl, rfl, rfl⟩
  · exact vb_t (Int.natCast_nonneg _)
abbrev refused (e : Int) : V := .tup [.str [], .int .i64 e]
theorem put_long (d : List UInt8) (hd : 65536 < d.length) : CallIs Tryz.prog 15 [P3, .str d, nilS] (memS (pS len cap b fl nx lf es rt)) 7 (refused 1) (memS (pS len cap b fl nx lf es rt)) 7 := by
  have hO : ∀ n : Nat, Int.ofNat n = (n : Int) := fun _ => rfl
  refine callIs_of_TG Tryz.func15 (code := cdPt) (by kernel_rfl) (by kernel_rfl) ?_
  obtain ⟨L, hr⟩ := pe_long d len cap b fl nx lf es rt
  refine TG_ret (XQ []) mo _ (by kernel_rfl) hr fun g hg _ => ?_
  rw [List.mem_singleton] at hg; subst hg
  refine ⟨fun a ha => ?_, _, _, _, rfl, rfl, rfl, rfl⟩
  rw [List.mem_singleton] at ha; subst ha
  exact vb_t (by rw [hO]; omega)
theorem put_many (d : List UInt8) (n : Nat) (cs : List D) (hd : d.length ≤ 65536) (hn : 1024 < n) : CallIs Tryz.prog 15 [P3, .str d, .lst f n cs] (memS (pS len cap b fl nx lf es rt)) 7 (refused 1) (memS (pS len cap b fl nx lf es rt)) 7 := by
  have hO : ∀ n : Nat, Int.ofNat n = (n : Int) := fun _ => rfl
  refine callIs_of_TG Tryz.func15 (code := cdPt) (by kernel_rfl) (by kernel_rfl) ?_
  obtain ⟨L, hr⟩ := pe_many d f n cs len cap b fl nx lf es rt
  refine TG_ret (XQ []) mo _ (by kernel_rfl) hr fun g hg _ => ?_
  rw [List.mem_singleton] at hg; subst hg
  refine ⟨?_, _, _, _, rfl, rfl, rfl, rfl⟩
  repeat' (first | exact all_nil | refine List.forall_mem_cons.2 ⟨?_, ?_⟩)
  · exact gt_false (by rw [hO]; omega)
  · exact vb_t (by rw [hO]; omega)
theorem put_bad (d : List UInt8) (hd : d.length ≤ 65536) (hn : rs.length ≤ 1024) (j : Nat) (x : List UInt8) (hj : rs[j]? = some x) (hx : x.length ≠ 32) (hg : ∀ i y, i < j → rs[i]? = some y → y.length = 32) :
    CallIs Tryz.prog 15 [P3, .str d, .lst f rs.length (strs rs)] (memS (pS len cap b fl nx lf es rt)) 7 (refused 1) (memS (pS len cap b fl nx lf es rt)) 7 := by
  have hO : ∀ n : Nat, Int.ofNat n = (n : Int) := fun _ => rfl
  refine callIs_of_TG Tryz.func15 (code := cdPt) (by kernel_rfl) (by kernel_rfl) ?_
  obtain ⟨L, hr⟩ := pe_bad d f rs len cap b fl nx lf es rt
  refine TG_ret ((XQ []).pinQ is41 (Nat.le_of_ble_eq_true (by kernel_rfl)) (call43b f rs len cap b fl nx lf es rt (by omega) j x hj hx hg)) mo _ (by kernel_rfl) hr fun g hg _ => ?_
  rw [List.mem_singleton] at hg; subst hg
  refine ⟨?_, _, _, _, rfl, rfl, rfl, rfl⟩
  repeat' (first | exact all_nil | refine List.forall_mem_cons.2 ⟨?_, ?_⟩)
  · exact gt_false (by rw [hO]; omega)
  · exact gt_false (by rw [hO]; omega)
  · exact ⟨rfl, rfl, rfl⟩
theorem put_mis (d : List UInt8) (hd : d.length ≤ 65536) (hn : rs.length ≤ 1024) (h32 : ∀ x ∈ rs, x.length = 32) (j : Nat) (x : List UInt8) (hj : rs[j]? = some x) (hx : lookD (.str x) es = none) (hg : ∀ i y, i < j → rs[i]? = some y → Has es y) :
    CallIs Tryz.prog 15 [P3, .str d, .lst f rs.length (strs rs)] (memS (pS len cap b fl nx lf es rt)) 7 (refused 63) (memS (pS len cap b fl nx lf es rt)) 7 := by
  have hO : ∀ n : Nat, Int.ofNat n = (n : Int) := fun _ => rfl
  refine callIs_of_TG Tryz.func15 (code := cdPt) (by kernel_rfl) (by kernel_rfl) ?_
  obtain ⟨L, hr⟩ := pe_mis d f rs len cap b fl nx lf es rt
  simp only [strL_strs] at hr
  refine TG_ret ((XQ []).pinQ is44 (Nat.le_of_ble_eq_true (by kernel_rfl)) (call43m f rs len cap b fl nx lf es rt (by omega) j x hj hx hg)) mo _ (by kernel_rfl) hr fun g hg _ => ?_
  rw [List.mem_singleton] at hg; subst hg
  refine ⟨?_, _, _, _, rfl, rfl, rfl, rfl⟩
  repeat' (first | exact all_nil | refine List.forall_mem_cons.2 ⟨?_, ?_⟩)
  · exact gt_false (by rw [hO]; omega)
  · exact gt_false (by rw [hO]; omega)
  · first | rfl | trivial
  · first | rfl | trivial
  · omega
  · exact h32
  · first | exact ⟨rfl, rfl, rfl⟩ | exact ⟨trivial, trivial, rfl⟩ | exact ⟨trivial, trivial, trivial⟩ | trivial
theorem get_no (d : List UInt8) (hx : lookD (.str d) es = none) : CallIs Tryz.prog 25 [P3, .str d] (memS (pS len cap b fl nx lf es rt)) 7 (.tup [.str [], nilS, .int .i64 62]) (memS (pS len cap b fl nx lf es rt)) 7 := by
  refine callIs_of_TG Tryz.func25 (code := bodyOf Tryz.f25) (by kernel_rfl) (by kernel_rfl) ?_
  obtain ⟨L, hr⟩ := ge_no d len cap b fl nx lf es rt
  refine TG_ret (XQ []) mo _ (by kernel_rfl) hr fun g hg _ => ?_
  rw [List.mem_singleton] at hg; subst hg
  refine ⟨fun a ha => ?_, _, _, _, rfl, rfl, rfl, rfl⟩
  rw [List.mem_singleton] at ha; subst ha
  exact hasnt_hint hx
theorem get_has (d d0 : List UInt8) (rs0 : List (List UInt8)) (k : Int) (hx : lookD (.str d) es = some (entD d0 rs0 k)) (hn : rs0.length ≤ 1000000) :
    CallIs Tryz.prog 25 [P3, .str d] (memS (pS len cap b fl nx lf es rt)) 7 (.tup [.str d0, .lst false rs0.length (strs rs0), .int .i64 0]) (memS (pS len cap b fl nx lf es rt)) 7 := by
  refine callIs_of_TG Tryz.func25 (code := bodyOf Tryz.f25) (by kernel_rfl) (by kernel_rfl) ?_
  rcases rs0 with _ | ⟨r, rs0⟩
  · obtain ⟨L, hr⟩ := ge_has0 d d0 k len cap b fl nx lf es rt
    refine TG_ret ((XQ []).pin (Nat.le_of_ble_eq_true (by kernel_rfl)) (call63 false _ _)) mo _ (by kernel_rfl) hr fun g hg _ => ?_
    rw [List.mem_singleton] at hg; subst hg
    refine ⟨?_, _, _, _, rfl, rfl, rfl, rfl⟩
    repeat' (first | exact all_nil | refine List.forall_mem_cons.2 ⟨?_, ?_⟩)
    · exact has_hint hx
    · exact ⟨rfl, rfl, rfl⟩
  · obtain ⟨L, hr⟩ := ge_has d d0 (r :: rs0) k len cap b fl nx lf es rt
    refine TG_ret (XQ []) mo _ (by kernel_rfl) hr fun g hg _ => ?_
    rw [List.mem_singleton] at hg; subst hg
    refine ⟨?_, _, _, _, rfl, rfl, rfl, rfl⟩
    repeat' (first | exact all_nil | refine List.forall_mem_cons.2 ⟨?_, ?_⟩)
    · exact has_hint hx
    · exact Nat.succ_pos _
    · exact strs_len _
    · exact hn
theorem has_no (d : List UInt8) (hx : lookD (.str d) es = none) : CallIs Tryz.prog 18 [P3, .str d] (memS (pS len cap b fl nx lf es rt)) 7 (.bool false) (memS (pS len cap b fl nx lf es rt)) 7 := by
  refine callIs_of_TG Tryz.func18 (code := bodyOf Tryz.f18) (by kernel_rfl) (by kernel_rfl) ?_
  obtain ⟨L, hr⟩ := hs_no d len cap b fl nx lf es rt
  refine TG_ret (XQ []) mo _ (by kernel_rfl) hr fun g hg _ => ?_
  rw [List.mem_singleton] at hg; subst hg
  refine ⟨fun a ha => ?_, _, _, _, rfl, rfl, rfl, rfl⟩
  rw [List.mem_singleton] at ha; subst ha
  exact hasnt_hint hx
theorem has_yes (d : List UInt8) (hx : Has es d) : CallIs Tryz.prog 18 [P3, .str d] (memS (pS len cap b fl nx lf es rt)) 7 (.bool true) (memS (pS len cap b fl nx lf es rt)) 7 := by
  obtain ⟨d0, rs0, k, hx⟩ := hx
  refine callIs_of_TG Tryz.func18 (code := bodyOf Tryz.f18) (by kernel_rfl) (by kernel_rfl) ?_
  obtain ⟨L, hr⟩ := hs_has d d0 rs0 k len cap b fl nx lf es rt
  refine TG_ret (XQ []) mo _ (by kernel_rfl) hr fun g hg _ => ?_
  rw [List.mem_singleton] at hg; subst hg
  refine ⟨fun a ha => ?_, _, _, _, rfl, rfl, rfl, rfl⟩
  rw [List.mem_singleton] at ha; subst ha
  exact has_hint hx
end
end Go.Proofs.YtfihojpgobmmdaaGreatDoor
namespace Go.Proofs.YtfihojpgobmmdaaGreatDoor
open Go Go.Eng
noncomputable abbrev cdEr : Code := bodyOf Tryz.f7
noncomputable abbrev lpEr : Code := seqL (tailN 7 cdEr)
noncomputable abbrev rdEr : Code := inner (inner (seqR lpEr))
def hX (p : Sto) (o : O) : Tr O := (memS p).set 7 (some o)
def hY (p : Sto) (o : O) : Tr O := (hX p o).set 7 none
def emT (p : Sto) (r : V × Tr O × Nat) (h : Tr O) (n : Nat) : Tr O := match embW ns7 (memS p) r h n with
  | some x => x.2.1
  | none => .nil
abbrev mQ (len cap : Nat) (lg : List UInt8) (nx : Int) (es rt : List (D × D)) : Sto := pS len cap lg 0 nx 0 es rt
def stE1 (r tx : List UInt8) (l : List (Nat × V)) (h : Tr O) (n : Nat) : St := stG ((0, .str r) :: (1, .str tx) :: (7, .bool true) :: (8, P3) :: l) h n
abbrev nV (k : Nat) : V := .int .i64 (Int.ofNat k)
abbrev eV (e : Int) : V := .int .i64 e
theorem ea_1 (r tx : List UInt8) (nn : Int) : ∃ L, RunIs Tryz.prog csL [] 1000 3 Tryz.f7 [0, 1, 2, 7, 8] (headN 3 cdEr) (startSt [.str r, .str tx, .int .u8 nn] (hSR gS gR) 3) L
    [([],
      [(gS = gS), (gR = gR)],
      .to .normal (stG [(0, .str r), (1, .str tx), (2, .int .u8 nn), (7, .bool true), (8, .ptr (some (3, 0)))] (hL [(0, .ints .u32 gS), (1, .ints .u32 gR), (3, .cells [.slc none 0 0 0, .int .i64 0, .map (some 4), .map (some 5), .int .i64 0, .bool false, .bool false, .int .i64 0]), (4, .map [] 0), (5, .map [] 0)]) 6))]
  := RunIs.of (by kernel_rfl) (by kernel_rfl) (by kernel_rfl)
theorem ea_3 (r tx : List UInt8) (nn : Int) (k : Nat) : ∃ L, RunIs Tryz.prog csL [(36, .give (nV k))] 1000 3 Tryz.f7 [0, 1, 7, 8, 9] (seqL (tailN 3 cdEr)) (stE1 r tx [(2, .int .u8 nn)] (mem0 0 0 0 [] []) 6) L
    [([],
      [(V.int IntKind.i64 (IntKind.i64.wrap (nn.tmod (8 : Int))) = nV k)],
      .to .normal (stG [(0, .str r), (1, .str tx), (7, .bool true), (8, .ptr (some (3, 0))), (9, .int .i64 (Int.ofNat k))] (hL [(0, .ints .u32 gS), (1, .ints .u32 gR), (3, .cells [.slc none 0 0 0, .int .i64 0, .map (some 4), .map (some 5), .int .i64 0, .bool false, .bool false, .int .i64 0]), (4, .mapD none []), (5, .mapD none [])]) 6))]
  := RunIs.of (by kernel_rfl) (by kernel_rfl) (by kernel_rfl)
theorem ea_4 (r tx : List UInt8) (k : Nat) (a : List UInt8) (len2 : Nat) (lg2 : List UInt8) (nx2 : Int) (es2 rt2 : List (D × D)) : ∃ L, RunIs Tryz.prog (pn15 [P3, .str [], nilS] (mem0 0 0 0 [] []) 6 (.tup [.str a, okE], mem0w len2 lg2 0 nx2 0 es2 rt2, 7)) [] 1000 3 Tryz.f7 [0, 1, 7, 8, 9, 10, 11] (seqL (tailN 4 cdEr)) (stE1 r tx [(9, nV k)] (mem0 0 0 0 [] []) 6) L
    [([],
      [(([.ptr (some (3, 0)), .str [], .slc none 0 0 0] : List V) = [.ptr (some (3, 0)), .str [], .slc none 0 0 0] ∧ (hL [(0, .ints .u32 gS), (1, .ints .u32 gR), (3, .cells [.slc none 0 0 0, .int .i64 0, .map (some 4), .map (some 5), .int .i64 0, .bool false, .bool false, .int .i64 0]), (4, .mapD none []), (5, .mapD none [])]) = (hL [(0, .ints .u32 gS), (1, .ints .u32 gR), (3, .cells [.slc none 0 0 0, .int .i64 0, .map (some 4), .map (some 5), .int .i64 0, .bool false, .bool false, .int .i64 0]), (4, .mapD none []), (5, .mapD none [])]) ∧ 6 = 6)],
      .to .normal (stG [(0, .str r), (1, .str tx), (7, .bool true), (8, .ptr (some (3, 0))), (9, .int .i64 (Int.ofNat k)), (10, .str a), (11, .int .i64 0)] (memS (pS len2 len2 lg2 0 nx2 0 es2 rt2)) 7))]
  := RunIs.of (by kernel_rfl) (by kernel_rfl) (by kernel_rfl)
theorem ea_5o (r tx : List UInt8) (k : Nat) (a z g : List UInt8) (e : Int) (row : List Int) (len cap : Nat) (lg : List UInt8) (nx : Int) (es rt : List (D × D)) : ∃ L, RunIs Tryz.prog (pn15 [P3, .str z, nilS] (hX (mQ len cap lg nx es rt) (.own .u8 row)) 8 (.tup [.str g, eV e], emT (mQ len cap lg nx es rt) (.tup [.str g, eV e], memS (mQ len cap lg nx es rt), 7) (hX (mQ len cap lg nx es rt) (.own .u8 row)) 8, 8)) [(45, .give (nV (65536 + k))), (47, .give (.str z))] 1000 3 Tryz.f7 [0, 1, 7, 8, 9, 10, 11, 12, 13] (seqL (tailN 5 cdEr)) (stE1 r tx [(9, nV k), (10, .str a), (11, okE)] (memS (mQ len cap lg nx es rt)) 7) L
    [([],
      [(V.int IntKind.i64 (IntKind.i64.wrap ((65536 : Int) + Int.ofNat k)) = nV (65536 + k)), ((0 : Int) ≤ IntKind.i64.wrap (Int.ofNat (65536 + k)) ∧ IntKind.i64.wrap (Int.ofNat (65536 + k)) ≤ IntKind.i64.wrap (Int.ofNat (65536 + k)) ∧ (1 : Int) * IntKind.i64.wrap (Int.ofNat (65536 + k)) ≤ (281474976710656 : Int)), (0 + (IntKind.i64.wrap (Int.ofNat (65536 + k))).toNat ≤ (repI [(0 : Int)] (IntKind.i64.wrap (Int.ofNat (65536 + k))).toNat).length), (V.str (strI (List.take (IntKind.i64.wrap (Int.ofNat (65536 + k))).toNat (List.drop 0 (repI [(0 : Int)] (IntKind.i64.wrap (Int.ofNat (65536 + k))).toNat)))) = V.str z), (([.ptr (some (3, 0)), .str z, .slc none 0 0 0] : List V) = [.ptr (some (3, 0)), .str z, .slc none 0 0 0] ∧ (hL (memL (pS len cap lg (0) nx (0) es rt) ++ [(7, .own .u8 (repI [(0 : Int)] (IntKind.i64.wrap (Int.ofNat (65536 + k))).toNat))])) = (hL (memL (pS len cap lg (0) nx (0) es rt) ++ [(7, .own .u8 row)])) ∧ 8 = 8)],
      .to .normal (stG [(0, .str r), (1, .str tx), (7, .bool true), (8, .ptr (some (3, 0))), (9, .int .i64 (Int.ofNat k)), (10, .str a), (11, .int .i64 0), (12, .str g), (13, .int .i64 e)] (memS (pS len cap lg (0) nx (0) es rt)) 7))]
  := RunIs.of (by kernel_rfl) (by kernel_rfl) (by kernel_rfl)
theorem ea_5w (r tx : List UInt8) (k : Nat) (a z g : List UInt8) (e : Int) (row : List Int) (len cap : Nat) (lg : List UInt8) (nx : Int) (es rt : List (D × D)) (len2 : Nat) (lg2 : List UInt8) (nx2 : Int) (es2 rt2 : List (D × D)) : ∃ L, RunIs Tryz.prog (pn15 [P3, .str z, nilS] (hX (mQ len cap lg nx es rt) (.own .u8 row)) 8 (.tup [.str g, eV e], emT (mQ len cap lg nx es rt) (.tup [.str g, eV e], memNw len2 lg2 0 nx2 0 es2 rt2, 8) (hX (mQ len cap lg nx es rt) (.own .u8 row)) 8, 9)) [(45, .give (nV (65536 + k))), (47, .give (.str z))] 1000 3 Tryz.f7 [0, 1, 7, 8, 9, 10, 11, 12, 13] (seqL (tailN 5 cdEr)) (stE1 r tx [(9, nV k), (10, .str a), (11, okE)] (memS (mQ len cap lg nx es rt)) 7) L
    [([],
      [(V.int IntKind.i64 (IntKind.i64.wrap ((65536 : Int) + Int.ofNat k)) = nV (65536 + k)), ((0 : Int) ≤ IntKind.i64.wrap (Int.ofNat (65536 + k)) ∧ IntKind.i64.wrap (Int.ofNat (65536 + k)) ≤ IntKind.i64.wrap (Int.ofNat (65536 + k)) ∧ (1 : Int) * IntKind.i64.wrap (Int.ofNat (65536 + k)) ≤ (281474976710656 : Int)), (0 + (IntKind.i64.wrap (Int.ofNat (65536 + k))).toNat ≤ (repI [(0 : Int)] (IntKind.i64.wrap (Int.ofNat (65536 + k))).toNat).length), (V.str (strI (List.take (IntKind.i64.wrap (Int.ofNat (65536 + k))).toNat (List.drop 0 (repI [(0 : Int)] (IntKind.i64.wrap (Int.ofNat (65536 + k))).toNat)))) = V.str z), (([.ptr (some (3, 0)), .str z, .slc none 0 0 0] : List V) = [.ptr (some (3, 0)), .str z, .slc none 0 0 0] ∧ (hL (memL (pS len cap lg (0) nx (0) es rt) ++ [(7, .own .u8 (repI [(0 : Int)] (IntKind.i64.wrap (Int.ofNat (65536 + k))).toNat))])) = (hL (memL (pS len cap lg (0) nx (0) es rt) ++ [(7, .own .u8 row)])) ∧ 8 = 8)],
      .to .normal (stG [(0, .str r), (1, .str tx), (7, .bool true), (8, .ptr (some (3, 0))), (9, .int .i64 (Int.ofNat k)), (10, .str a), (11, .int .i64 0), (12, .str g), (13, .int .i64 e)] (memS (pS len2 len2 lg2 0 nx2 0 es2 rt2)) 7))]
  := RunIs.of (by kernel_rfl) (by kernel_rfl) (by kernel_rfl)
theorem ea_6 (r tx : List UInt8) (k : Nat) (a g : List UInt8) (e : Int) (len cap : Nat) (lg : List UInt8) (nx : Int) (es rt : List (D × D)) : ∃ L, RunIs Tryz.prog csL [(52, .give (nV (1024 + k)))] 1000 3 Tryz.f7 [0, 1, 7, 8, 9, 10, 11, 12, 13, 14] (seqL (tailN 6 cdEr)) (stE1 r tx [(9, nV k), (10, .str a), (11, okE), (12, .str g), (13, eV e)] (memS (mQ len cap lg nx es rt)) 7) L
    [([],
      [(V.int IntKind.i64 (IntKind.i64.wrap ((1024 : Int) + Int.ofNat k)) = nV (1024 + k)), ((0 : Int) ≤ IntKind.i64.wrap (Int.ofNat (1024 + k)) ∧ IntKind.i64.wrap (Int.ofNat (1024 + k)) ≤ IntKind.i64.wrap (Int.ofNat (1024 + k)) ∧ (16 : Int) * IntKind.i64.wrap (Int.ofNat (1024 + k)) ≤ (281474976710656 : Int))],
      .to .normal (stG [(0, .str r), (1, .str tx), (7, .bool true), (8, .ptr (some (3, 0))), (9, .int .i64 (Int.ofNat k)), (10, .str a), (11, .int .i64 0), (12, .str g), (13, .int .i64 e), (14, .slc (some (7, 0)) ((IntKind.i64.wrap (Int.ofNat (1024 + k))).toNat) ((IntKind.i64.wrap (Int.ofNat (1024 + k))).toNat) 1)] (hL (memL (pS len cap lg (0) nx (0) es rt) ++ [(7, .deep (repD [D.str ([] : List UInt8)] (IntKind.i64.wrap (Int.ofNat (1024 + k))).toNat))])) 8))]
  := RunIs.of (by kernel_rfl) (by kernel_rfl) (by kernel_rfl)
theorem ea_7 (r tx : List UInt8) (k : Nat) (a g : List UInt8) (e : Int) (m : Nat) (cs : List D) (len cap : Nat) (lg : List UInt8) (nx : Int) (es rt : List (D × D)) : ∃ L, RunIs Tryz.prog csL [(15, .give (nV 0))] 1000 3 Tryz.f7 [0, 1, 7, 8, 9, 10, 11, 12, 13, 14, 15] (seqL lpEr) (stE1 r tx [(9, nV k), (10, .str a), (11, okE), (12, .str g), (13, eV e), (14, .slc (some (7, 0)) m m 1)] (hX (mQ len cap lg nx es rt) (.deep cs)) 8) L
    [([],
      [(V.int IntKind.i64 (0 : Int) = nV 0)],
      .to .normal (stG [(0, .str r), (1, .str tx), (7, .bool true), (8, .ptr (some (3, 0))), (9, .int .i64 (Int.ofNat k)), (10, .str a), (11, .int .i64 0), (12, .str g), (13, .int .i64 e), (14, .slc (some (7, 0)) m m 1), (15, .int .i64 0)] (hL (memL (pS len cap lg (0) nx (0) es rt) ++ [(7, .deep cs)])) 8))]
  := RunIs.of (by kernel_rfl) (by kernel_rfl) (by kernel_rfl)
theorem ea_8 (r tx : List UInt8) (k : Nat) (a g : List UInt8) (e : Int) (m i : Nat) (cs : List D) (len cap : Nat) (lg : List UInt8) (nx : Int) (es rt : List (D × D)) : ∃ L, RunIs Tryz.prog csL [(57, .split), (59, .give (nV (i + 1)))] 1000 3 Tryz.f7 [0, 1, 7, 8, 9, 10, 11, 12, 13, 14, 15] (rdEr) (stE1 r tx [(9, nV k), (10, .str a), (11, okE), (12, .str g), (13, eV e), (14, .slc (some (7, 0)) m m 1), (15, nV i)] (hX (mQ len cap lg nx es rt) (.deep cs)) 8) L
    [([((decide (Int.ofNat i < (Int.ofNat m))), true)],
      [((0 : Int) ≤ Int.ofNat i ∧ Int.ofNat i < (Int.ofNat m)), (0 + (Int.ofNat i).toNat * 1 + 1 ≤ cs.length), (V.int IntKind.i64 (IntKind.i64.wrap (Int.ofNat i + (1 : Int))) = nV (i + 1))],
      .to .normal (stG [(0, .str r), (1, .str tx), (7, .bool true), (8, .ptr (some (3, 0))), (9, .int .i64 (Int.ofNat k)), (10, .str a), (11, .int .i64 0), (12, .str g), (13, .int .i64 e), (14, .slc (some (7, 0)) m m 1), (15, .int .i64 (Int.ofNat (i + 1)))] (hL (memL (pS len cap lg (0) nx (0) es rt) ++ [(7, .deep (putDs cs (0 + (Int.ofNat i).toNat * 1) [D.str a]))])) 8)),
    ([((decide (Int.ofNat i < (Int.ofNat m))), false)],
      [],
      .to (.exit 0) (stG [(0, .str r), (1, .str tx), (7, .bool true), (8, .ptr (some (3, 0))), (9, .int .i64 (Int.ofNat k)), (10, .str a), (11, .int .i64 0), (12, .str g), (13, .int .i64 e), (14, .slc (some (7, 0)) m m 1), (15, .int .i64 (Int.ofNat i))] (hL (memL (pS len cap lg (0) nx (0) es rt) ++ [(7, .deep cs)])) 8))]
  := RunIs.of (by kernel_rfl) (by kernel_rfl) (by kernel_rfl)
theorem ea_11o (r tx : List UInt8) (k : Nat) (a g : List UInt8) (e : Int) (g2 : List UInt8) (e2 : Int) (m i : Nat) (cs : List D) (len cap : Nat) (lg : List UInt8) (nx : Int) (es rt : List (D × D)) : ∃ L, RunIs Tryz.prog (pn15 [P3, .str [109, 97, 110, 121], .slc (some (7, 0)) m m 1] (hX (mQ len cap lg nx es rt) (.deep cs)) 8 (.tup [.str g2, eV e2], emT (mQ len cap lg nx es rt) (.tup [.str g2, eV e2], memS (mQ len cap lg nx es rt), 7) (hY (mQ len cap lg nx es rt) (.deep cs)) 8, 8)) [] 1000 3 Tryz.f7 [0, 1, 7, 8, 9, 10, 11, 12, 13, 16, 17] (seqL (tailN 8 cdEr)) (stE1 r tx [(9, nV k), (10, .str a), (11, okE), (12, .str g), (13, eV e), (14, .slc (some (7, 0)) m m 1), (15, nV i)] (hX (mQ len cap lg nx es rt) (.deep cs)) 8) L
    [([],
      [(([.ptr (some (3, 0)), .str [109, 97, 110, 121], .slc (some (7, 0)) m m 1] : List V) = [.ptr (some (3, 0)), .str [109, 97, 110, 121], .slc (some (7, 0)) m m 1] ∧ (hL (memL (pS len cap lg (0) nx (0) es rt) ++ [(7, .deep cs)])) = (hL (memL (pS len cap lg (0) nx (0) es rt) ++ [(7, .deep cs)])) ∧ 8 = 8)],
      .to .normal (stG [(0, .str r), (1, .str tx), (7, .bool true), (8, .ptr (some (3, 0))), (9, .int .i64 (Int.ofNat k)), (10, .str a), (11, .int .i64 0), (12, .str g), (13, .int .i64 e), (16, .str g2), (17, .int .i64 e2)] (memS (pS len cap lg (0) nx (0) es rt)) 7))]
  := RunIs.of (by kernel_rfl) (by kernel_rfl) (by kernel_rfl)
theorem ea_11w (r tx : List UInt8) (k : Nat) (a g : List UInt8) (e : Int) (g2 : List UInt8) (e2 : Int) (m i : Nat) (cs : List D) (len cap : Nat) (lg : List UInt8) (nx : Int) (es rt : List (D × D)) (len2 : Nat) (lg2 : List UInt8) (nx2 : Int) (es2 rt2 : List (D × D)) : ∃ L, RunIs Tryz.prog (pn15 [P3, .str [109, 97, 110, 121], .slc (some (7, 0)) m m 1] (hX (mQ len cap lg nx es rt) (.deep cs)) 8 (.tup [.str g2, eV e2], emT (mQ len cap lg nx es rt) (.tup [.str g2, eV e2], memNw len2 lg2 0 nx2 0 es2 rt2, 8) (hY (mQ len cap lg nx es rt) (.deep cs)) 8, 9)) [] 1000 3 Tryz.f7 [0, 1, 7, 8, 9, 10, 11, 12, 13, 16, 17] (seqL (tailN 8 cdEr)) (stE1 r tx [(9, nV k), (10, .str a), (11, okE), (12, .str g), (13, eV e), (14, .slc (some (7, 0)) m m 1), (15, nV i)] (hX (mQ len cap lg nx es rt) (.deep cs)) 8) L
    [([],
      [(([.ptr (some (3, 0)), .str [109, 97, 110, 121], .slc (some (7, 0)) m m 1] : List V) = [.ptr (some (3, 0)), .str [109, 97, 110, 121], .slc (some (7, 0)) m m 1] ∧ (hL (memL (pS len cap lg (0) nx (0) es rt) ++ [(7, .deep cs)])) = (hL (memL (pS len cap lg (0) nx (0) es rt) ++ [(7, .deep cs)])) ∧ 8 = 8)],
      .to .normal (stG [(0, .str r), (1, .str tx), (7, .bool true), (8, .ptr (some (3, 0))), (9, .int .i64 (Int.ofNat k)), (10, .str a), (11, .int .i64 0), (12, .str g), (13, .int .i64 e), (16, .str g2), (17, .int .i64 e2)] (memS (pS len2 len2 lg2 0 nx2 0 es2 rt2)) 7))]
  := RunIs.of (by kernel_rfl) (by kernel_rfl) (by kernel_rfl)
theorem ea_12A (r tx : List UInt8) (k : Nat) (a g g2 : List UInt8) (e e2 : Int) (len cap : Nat) (lg : List UInt8) (nx : Int) (es rt : List (D × D)) : ∃ L, RunIs Tryz.prog csL [(71, .give (.bool false))] 1000 3 Tryz.f7 [0, 1, 7, 8, 9, 10, 11, 12, 13, 16, 17, 18] (seqL (tailN 9 cdEr)) (stE1 r tx [(9, nV k), (10, .str a), (11, okE), (12, .str g), (13, eV e), (16, .str g2), (17, eV e2)] (memS (mQ len cap lg nx es rt)) 7) L
    [([],
      [((V.bool !beqB r ([] : List UInt8)) = V.bool false)],
      .to .normal (stG [(0, .str r), (1, .str tx), (7, .bool true), (8, .ptr (some (3, 0))), (9, .int .i64 (Int.ofNat k)), (10, .str a), (11, .int .i64 0), (12, .str g), (13, .int .i64 e), (16, .str g2), (17, .int .i64 e2), (18, .bool false)] (memS (pS len cap lg (0) nx (0) es rt)) 7))]
  := RunIs.of (by kernel_rfl) (by kernel_rfl) (by kernel_rfl)
theorem ea_12B (r tx : List UInt8) (k : Nat) (a g g2 : List UInt8) (e e2 : Int) (len cap : Nat) (lg : List UInt8) (nx : Int) (es rt : List (D × D)) : ∃ L, RunIs Tryz.prog csL [(71, .give (.bool true)), (75, .give (.bool true))] 1000 3 Tryz.f7 [0, 1, 7, 8, 9, 10, 11, 12, 13, 16, 17, 18] (seqL (tailN 9 cdEr)) (stE1 r tx [(9, nV k), (10, .str a), (11, okE), (12, .str g), (13, eV e), (16, .str g2), (17, eV e2)] (memS (mQ len cap lg nx es rt)) 7) L
    [([],
      [((V.bool !beqB r ([] : List UInt8)) = V.bool true), (V.bool (beqB r a) = V.bool true)],
      .to .normal (stG [(0, .str r), (1, .str tx), (7, .bool true), (8, .ptr (some (3, 0))), (9, .int .i64 (Int.ofNat k)), (10, .str a), (11, .int .i64 0), (12, .str g), (13, .int .i64 e), (16, .str g2), (17, .int .i64 e2), (18, .bool true)] (memS (pS len cap lg (0) nx (0) es rt)) 7))]
  := RunIs.of (by kernel_rfl) (by kernel_rfl) (by kernel_rfl)
theorem ea_12C (r tx : List UInt8) (k : Nat) (a g g2 : List UInt8) (e e2 : Int) (len cap : Nat) (lg : List UInt8) (nx : Int) (es rt : List (D × D)) : ∃ L, RunIs Tryz.prog csL [(71, .give (.bool true)), (75, .give (.bool false)), (79, .give (.bool true))] 1000 3 Tryz.f7 [0, 1, 7, 8, 9, 10, 11, 12, 13, 16, 17, 18] (seqL (tailN 9 cdEr)) (stE1 r tx [(9, nV k), (10, .str a), (11, okE), (12, .str g), (13, eV e), (16, .str g2), (17, eV e2)] (memS (mQ len cap lg nx es rt)) 7) L
    [([],
      [((V.bool !beqB r ([] : List UInt8)) = V.bool true), (V.bool (beqB r a) = V.bool false), (V.bool (beqB r g) = V.bool true)],
      .to .normal (stG [(0, .str r), (1, .str tx), (7, .bool true), (8, .ptr (some (3, 0))), (9, .int .i64 (Int.ofNat k)), (10, .str a), (11, .int .i64 0), (12, .str g), (13, .int .i64 e), (16, .str g2), (17, .int .i64 e2), (18, .bool true)] (memS (pS len cap lg (0) nx (0) es rt)) 7))]
  := RunIs.of (by kernel_rfl) (by kernel_rfl) (by kernel_rfl)
theorem ea_12D (r tx : List UInt8) (k : Nat) (a g g2 : List UInt8) (e e2 : Int) (len cap : Nat) (lg : List UInt8) (nx : Int) (es rt : List (D × D)) : ∃ L, RunIs Tryz.prog csL [(71, .give (.bool true)), (75, .give (.bool false)), (79, .give (.bool false)), (84, .give (.bool true))] 1000 3 Tryz.f7 [0, 1, 7, 8, 9, 10, 11, 12, 13, 16, 17, 18] (seqL (tailN 9 cdEr)) (stE1 r tx [(9, nV k), (10, .str a), (11, okE), (12, .str g), (13, eV e), (16, .str g2), (17, eV e2)] (memS (mQ len cap lg nx es rt)) 7) L
    [([],
      [((V.bool !beqB r ([] : List UInt8)) = V.bool true), (V.bool (beqB r a) = V.bool false), (V.bool (beqB r g) = V.bool false), (V.bool (beqB r g2) = V.bool true)],
      .to .normal (stG [(0, .str r), (1, .str tx), (7, .bool true), (8, .ptr (some (3, 0))), (9, .int .i64 (Int.ofNat k)), (10, .str a), (11, .int .i64 0), (12, .str g), (13, .int .i64 e), (16, .str g2), (17, .int .i64 e2), (18, .bool true)] (memS (pS len cap lg (0) nx (0) es rt)) 7))]
  := RunIs.of (by kernel_rfl) (by kernel_rfl) (by kernel_rfl)
theorem ea_12E (r tx : List UInt8) (k : Nat) (a g g2 : List UInt8) (e e2 : Int) (len cap : Nat) (lg : List UInt8) (nx : Int) (es rt : List (D × D)) : ∃ L, RunIs Tryz.prog csL [(71, .give (.bool true)), (75, .give (.bool false)), (79, .give (.bool false)), (84, .give (.bool false))] 1000 3 Tryz.f7 [0, 1, 7, 8, 9, 10, 11, 12, 13, 16, 17, 18] (seqL (tailN 9 cdEr)) (stE1 r tx [(9, nV k), (10, .str a), (11, okE), (12, .str g), (13, eV e), (16, .str g2), (17, eV e2)] (memS (mQ len cap lg nx es rt)) 7) L
    [([],
      [((V.bool !beqB r ([] : List UInt8)) = V.bool true), (V.bool (beqB r a) = V.bool false), (V.bool (beqB r g) = V.bool false), (V.bool (beqB r g2) = V.bool false)],
      .to .normal (stG [(0, .str r), (1, .str tx), (7, .bool true), (8, .ptr (some (3, 0))), (9, .int .i64 (Int.ofNat k)), (10, .str a), (11, .int .i64 0), (12, .str g), (13, .int .i64 e), (16, .str g2), (17, .int .i64 e2), (18, .bool false)] (memS (pS len cap lg (0) nx (0) es rt)) 7))]
  := RunIs.of (by kernel_rfl) (by kernel_rfl) (by kernel_rfl)
theorem ea_13k (r tx : List UInt8) (k : Nat) (a g g2 : List UInt8) (e e2 : Int) (len cap : Nat) (lg : List UInt8) (nx : Int) (es rt : List (D × D)) : ∃ L, RunIs Tryz.prog csL [] 1000 3 Tryz.f7 [0, 1, 7, 8, 9, 10, 11, 12, 13, 16, 17, 18, 19] (headN 2 (tailN 10 cdEr)) (stE1 r tx [(9, nV k), (10, .str a), (11, okE), (12, .str g), (13, eV e), (16, .str g2), (17, eV e2), (18, .bool true)] (memS (mQ len cap lg nx es rt)) 7) L
    [([],
      [],
      .to .normal (stG [(0, .str r), (1, .str tx), (7, .bool true), (8, .ptr (some (3, 0))), (9, .int .i64 (Int.ofNat k)), (10, .str a), (11, .int .i64 0), (12, .str g), (13, .int .i64 e), (16, .str g2), (17, .int .i64 e2), (18, .bool true), (19, .int .i64 0)] (memS (pS len cap lg (0) nx (0) es rt)) 7))]
  := RunIs.of (by kernel_rfl) (by kernel_rfl) (by kernel_rfl)
theorem ea_13y (r tx : List UInt8) (k : Nat) (a g g2 : List UInt8) (e e2 : Int) (len cap : Nat) (lg : List UInt8) (nx : Int) (es rt : List (D × D)) : ∃ L, RunIs Tryz.prog csL [(90, .give (.bool true))] 1000 3 Tryz.f7 [0, 1, 7, 8, 9, 10, 11, 12, 13, 16, 17, 18, 19] (headN 2 (tailN 10 cdEr)) (stE1 r tx [(9, nV k), (10, .str a), (11, okE), (12, .str g), (13, eV e), (16, .str g2), (17, eV e2), (18, .bool false)] (memS (mQ len cap lg nx es rt)) 7) L
    [([],
      [(V.bool ((Int.ofNat r.length) == (32 : Int)) = V.bool true)],
      .to .normal (stG [(0, .str r), (1, .str tx), (7, .bool true), (8, .ptr (some (3, 0))), (9, .int .i64 (Int.ofNat k)), (10, .str a), (11, .int .i64 0), (12, .str g), (13, .int .i64 e), (16, .str g2), (17, .int .i64 e2), (18, .bool false), (19, .int .i64 63)] (memS (pS len cap lg (0) nx (0) es rt)) 7))]
  := RunIs.of (by kernel_rfl) (by kernel_rfl) (by kernel_rfl)
theorem ea_13n (r tx : List UInt8) (k : Nat) (a g g2 : List UInt8) (e e2 : Int) (len cap : Nat) (lg : List UInt8) (nx : Int) (es rt : List (D × D)) : ∃ L, RunIs Tryz.prog csL [(90, .give (.bool false))] 1000 3 Tryz.f7 [0, 1, 7, 8, 9, 10, 11, 12, 13, 16, 17, 18, 19] (headN 2 (tailN 10 cdEr)) (stE1 r tx [(9, nV k), (10, .str a), (11, okE), (12, .str g), (13, eV e), (16, .str g2), (17, eV e2), (18, .bool false)] (memS (mQ len cap lg nx es rt)) 7) L
    [([],
      [(V.bool ((Int.ofNat r.length) == (32 : Int)) = V.bool false)],
      .to .normal (stG [(0, .str r), (1, .str tx), (7, .bool true), (8, .ptr (some (3, 0))), (9, .int .i64 (Int.ofNat k)), (10, .str a), (11, .int .i64 0), (12, .str g), (13, .int .i64 e), (16, .str g2), (17, .int .i64 e2), (18, .bool false), (19, .int .i64 1)] (memS (pS len cap lg (0) nx (0) es rt)) 7))]
  := RunIs.of (by kernel_rfl) (by kernel_rfl) (by kernel_rfl)
theorem ea_18o (r tx : List UInt8) (k : Nat) (a g g2 : List UInt8) (e e2 : Int) (kn : Bool) (bad : Int) (g3 : List UInt8) (len cap : Nat) (lg : List UInt8) (nx : Int) (es rt : List (D × D)) : ∃ L, RunIs Tryz.prog (pn15 [P3, .str [114, 101, 102], .slc (some (7, 0)) 2 2 1] (hX (mQ len cap lg nx es rt) (.cells [.str a, .str r])) 8 (.tup [.str g3, eV bad], emT (mQ len cap lg nx es rt) (.tup [.str g3, eV bad], memS (mQ len cap lg nx es rt), 7) (hY (mQ len cap lg nx es rt) (.cells [.str a, .str r])) 8, 8)) [] 1000 3 Tryz.f7 [0, 1, 7, 8, 9, 10, 11, 12, 13, 16, 17, 18, 19, 21] (seqL (tailN 12 cdEr)) (stE1 r tx [(9, nV k), (10, .str a), (11, okE), (12, .str g), (13, eV e), (16, .str g2), (17, eV e2), (18, .bool kn), (19, eV bad)] (memS (mQ len cap lg nx es rt)) 7) L
    [([],
      [(([.ptr (some (3, 0)), .str [114, 101, 102], .slc (some (7, 0)) 2 2 1] : List V) = [.ptr (some (3, 0)), .str [114, 101, 102], .slc (some (7, 0)) 2 2 1] ∧ (hL (memL (pS len cap lg (0) nx (0) es rt) ++ [(7, .cells [.str a, .str r])])) = (hL (memL (pS len cap lg (0) nx (0) es rt) ++ [(7, .cells [.str a, .str r])])) ∧ 8 = 8)],
      .to .normal (stG [(0, .str r), (1, .str tx), (7, .bool true), (8, .ptr (some (3, 0))), (9, .int .i64 (Int.ofNat k)), (10, .str a), (11, .int .i64 0), (12, .str g), (13, .int .i64 e), (16, .str g2), (17, .int .i64 e2), (18, .bool kn), (19, .int .i64 bad), (21, .int .i64 bad)] (memS (pS len cap lg (0) nx (0) es rt)) 7))]
  := RunIs.of (by kernel_rfl) (by kernel_rfl) (by kernel_rfl)
theorem ea_18w (r tx : List UInt8) (k : Nat) (a g g2 : List UInt8) (e e2 : Int) (kn : Bool) (bad : Int) (g3 : List UInt8) (len cap : Nat) (lg : List UInt8) (nx : Int) (es rt : List (D × D)) (len2 : Nat) (lg2 : List UInt8) (nx2 : Int) (es2 rt2 : List (D × D)) : ∃ L, RunIs Tryz.prog (pn15 [P3, .str [114, 101, 102], .slc (some (7, 0)) 2 2 1] (hX (mQ len cap lg nx es rt) (.cells [.str a, .str r])) 8 (.tup [.str g3, eV bad], emT (mQ len cap lg nx es rt) (.tup [.str g3, eV bad], memNw len2 lg2 0 nx2 0 es2 rt2, 8) (hY (mQ len cap lg nx es rt) (.cells [.str a, .str r])) 8, 9)) [] 1000 3 Tryz.f7 [0, 1, 7, 8, 9, 10, 11, 12, 13, 16, 17, 18, 19, 21] (seqL (tailN 12 cdEr)) (stE1 r tx [(9, nV k), (10, .str a), (11, okE), (12, .str g), (13, eV e), (16, .str g2), (17, eV e2), (18, .bool kn), (19, eV bad)] (memS (mQ len cap lg nx es rt)) 7) L
    [([],
      [(([.ptr (some (3, 0)), .str [114, 101, 102], .slc (some (7, 0)) 2 2 1] : List V) = [.ptr (some (3, 0)), .str [114, 101, 102], .slc (some (7, 0)) 2 2 1] ∧ (hL (memL (pS len cap lg (0) nx (0) es rt) ++ [(7, .cells [.str a, .str r])])) = (hL (memL (pS len cap lg (0) nx (0) es rt) ++ [(7, .cells [.str a, .str r])])) ∧ 8 = 8)],
      .to .normal (stG [(0, .str r), (1, .str tx), (7, .bool true), (8, .ptr (some (3, 0))), (9, .int .i64 (Int.ofNat k)), (10, .str a), (11, .int .i64 0), (12, .str g), (13, .int .i64 e), (16, .str g2), (17, .int .i64 e2), (18, .bool kn), (19, .int .i64 bad), (21, .int .i64 bad)] (memS (pS len2 len2 lg2 0 nx2 0 es2 rt2)) 7))]
  := RunIs.of (by kernel_rfl) (by kernel_rfl) (by kernel_rfl)
theorem ea_19 (r tx : List UInt8) (k : Nat) (a g g2 : List UInt8) (e e2 : Int) (kn : Bool) (bad : Int) (d0 : List UInt8) (lv : List (List UInt8)) (gi : Int) (len cap : Nat) (lg : List UInt8) (nx : Int) (es rt : List (D × D)) : ∃ L, RunIs Tryz.prog (pinS csL 25 [P3, .str r] (memS (mQ len cap lg nx es rt)) 7 (.tup [.str d0, .lst false lv.length (strs lv), eV gi], memS (mQ len cap lg nx es rt), 7)) [] 1000 3 Tryz.f7 [0, 1, 7, 8, 9, 10, 11, 12, 13, 16, 17, 18, 19, 21, 24] (seqL (tailN 13 cdEr)) (stE1 r tx [(9, nV k), (10, .str a), (11, okE), (12, .str g), (13, eV e), (16, .str g2), (17, eV e2), (18, .bool kn), (19, eV bad), (21, eV bad)] (memS (mQ len cap lg nx es rt)) 7) L
    [([],
      [(([.ptr (some (3, 0)), .str r] : List V) = [.ptr (some (3, 0)), .str r] ∧ (memS (pS len cap lg (0) nx (0) es rt)) = (memS (pS len cap lg (0) nx (0) es rt)) ∧ 7 = 7)],
      .to .normal (stG [(0, .str r), (1, .str tx), (7, .bool true), (8, .ptr (some (3, 0))), (9, .int .i64 (Int.ofNat k)), (10, .str a), (11, .int .i64 0), (12, .str g), (13, .int .i64 e), (16, .str g2), (17, .int .i64 e2), (18, .bool kn), (19, .int .i64 bad), (21, .int .i64 bad), (24, .int .i64 gi)] (memS (pS len cap lg (0) nx (0) es rt)) 7))]
  := RunIs.of (by kernel_rfl) (by kernel_rfl) (by kernel_rfl)
theorem ea_19n (r tx : List UInt8) (k : Nat) (a g g2 : List UInt8) (e e2 : Int) (kn : Bool) (bad : Int) (len cap : Nat) (lg : List UInt8) (nx : Int) (es rt : List (D × D)) : ∃ L, RunIs Tryz.prog (pinS csL 25 [P3, .str r] (memS (mQ len cap lg nx es rt)) 7 (.tup [.str [], nilS, eV 62], memS (mQ len cap lg nx es rt), 7)) [] 1000 3 Tryz.f7 [0, 1, 7, 8, 9, 10, 11, 12, 13, 16, 17, 18, 19, 21, 24] (seqL (tailN 13 cdEr)) (stE1 r tx [(9, nV k), (10, .str a), (11, okE), (12, .str g), (13, eV e), (16, .str g2), (17, eV e2), (18, .bool kn), (19, eV bad), (21, eV bad)] (memS (mQ len cap lg nx es rt)) 7) L
    [([],
      [(([.ptr (some (3, 0)), .str r] : List V) = [.ptr (some (3, 0)), .str r] ∧ (memS (pS len cap lg (0) nx (0) es rt)) = (memS (pS len cap lg (0) nx (0) es rt)) ∧ 7 = 7)],
      .to .normal (stG [(0, .str r), (1, .str tx), (7, .bool true), (8, .ptr (some (3, 0))), (9, .int .i64 (Int.ofNat k)), (10, .str a), (11, .int .i64 0), (12, .str g), (13, .int .i64 e), (16, .str g2), (17, .int .i64 e2), (18, .bool kn), (19, .int .i64 bad), (21, .int .i64 bad), (24, .int .i64 62)] (memS (pS len cap lg (0) nx (0) es rt)) 7))]
  := RunIs.of (by kernel_rfl) (by kernel_rfl) (by kernel_rfl)
theorem ea_20o (r tx : List UInt8) (k : Nat) (a g g2 : List UInt8) (e e2 : Int) (kn : Bool) (bad : Int) (gi : Int) (ej : Int) (len cap : Nat) (lg : List UInt8) (nx : Int) (es rt : List (D × D)) : ∃ L, RunIs Tryz.prog (pinS csL 16 [P3, .str tx, .str a] (memS (mQ len cap lg nx es rt)) 7 (eV ej, memS (mQ len cap lg nx es rt), 7)) [] 1000 3 Tryz.f7 [0, 1, 7, 8, 9, 10, 11, 12, 13, 16, 17, 18, 19, 21, 24, 25] (seqL (tailN 14 cdEr)) (stE1 r tx [(9, nV k), (10, .str a), (11, okE), (12, .str g), (13, eV e), (16, .str g2), (17, eV e2), (18, .bool kn), (19, eV bad), (21, eV bad), (24, eV gi)] (memS (mQ len cap lg nx es rt)) 7) L
    [([],
      [(([.ptr (some (3, 0)), .str tx, .str a] : List V) = [.ptr (some (3, 0)), .str tx, .str a] ∧ (memS (pS len cap lg (0) nx (0) es rt)) = (memS (pS len cap lg (0) nx (0) es rt)) ∧ 7 = 7)],
      .to .normal (stG [(0, .str r), (1, .str tx), (7, .bool true), (8, .ptr (some (3, 0))), (9, .int .i64 (Int.ofNat k)), (10, .str a), (11, .int .i64 0), (12, .str g), (13, .int .i64 e), (16, .str g2), (17, .int .i64 e2), (18, .bool kn), (19, .int .i64 bad), (21, .int .i64 bad), (24, .int .i64 gi), (25, .int .i64 ej)] (memS (pS len cap lg (0) nx (0) es rt)) 7))]
  := RunIs.of (by kernel_rfl) (by kernel_rfl) (by kernel_rfl)
theorem ea_20w (r tx : List UInt8) (k : Nat) (a g g2 : List UInt8) (e e2 : Int) (kn : Bool) (bad : Int) (gi : Int) (ej : Int) (len cap : Nat) (lg : List UInt8) (nx : Int) (es rt : List (D × D)) (len2 : Nat) (lg2 : List UInt8) (nx2 : Int) (es2 rt2 : List (D × D)) : ∃ L, RunIs Tryz.prog (pinS csL 16 [P3, .str tx, .str a] (memS (mQ len cap lg nx es rt)) 7 (eV ej, memNw len2 lg2 0 nx2 0 es2 rt2, 8)) [] 1000 3 Tryz.f7 [0, 1, 7, 8, 9, 10, 11, 12, 13, 16, 17, 18, 19, 21, 24, 25] (seqL (tailN 14 cdEr)) (stE1 r tx [(9, nV k), (10, .str a), (11, okE), (12, .str g), (13, eV e), (16, .str g2), (17, eV e2), (18, .bool kn), (19, eV bad), (21, eV bad), (24, eV gi)] (memS (mQ len cap lg nx es rt)) 7) L
    [([],
      [(([.ptr (some (3, 0)), .str tx, .str a] : List V) = [.ptr (some (3, 0)), .str tx, .str a] ∧ (memS (pS len cap lg (0) nx (0) es rt)) = (memS (pS len cap lg (0) nx (0) es rt)) ∧ 7 = 7)],
      .to .normal (stG [(0, .str r), (1, .str tx), (7, .bool true), (8, .ptr (some (3, 0))), (9, .int .i64 (Int.ofNat k)), (10, .str a), (11, .int .i64 0), (12, .str g), (13, .int .i64 e), (16, .str g2), (17, .int .i64 e2), (18, .bool kn), (19, .int .i64 bad), (21, .int .i64 bad), (24, .int .i64 gi), (25, .int .i64 ej)] (memS (pS len2 len2 lg2 0 nx2 0 es2 rt2)) 7))]
  := RunIs.of (by kernel_rfl) (by kernel_rfl) (by kernel_rfl)
theorem ea_21o (r tx : List UInt8) (k : Nat) (a g g2 : List UInt8) (e e2 : Int) (kn : Bool) (bad : Int) (gi : Int) (ej : Int) (ex : Int) (z : List UInt8) (row : List Int) (len cap : Nat) (lg : List UInt8) (nx : Int) (es rt : List (D × D)) : ∃ L, RunIs Tryz.prog (pinS csL 16 [P3, .str z, .str a] (hX (mQ len cap lg nx es rt) (.own .u8 row)) 8 (eV ex, emT (mQ len cap lg nx es rt) (eV ex, memS (mQ len cap lg nx es rt), 7) (hX (mQ len cap lg nx es rt) (.own .u8 row)) 8, 8)) [(112, .give (nV (64 + k))), (114, .give (.str z))] 1000 3 Tryz.f7 [0, 1, 7, 8, 9, 10, 11, 12, 13, 16, 17, 18, 19, 21, 24, 25, 26] (seqL (tailN 15 cdEr)) (stE1 r tx [(9, nV k), (10, .str a), (11, okE), (12, .str g), (13, eV e), (16, .str g2), (17, eV e2), (18, .bool kn), (19, eV bad), (21, eV bad), (24, eV gi), (25, eV ej)] (memS (mQ len cap lg nx es rt)) 7) L
    [([],
      [(V.int IntKind.i64 (IntKind.i64.wrap ((64 : Int) + Int.ofNat k)) = nV (64 + k)), ((0 : Int) ≤ IntKind.i64.wrap (Int.ofNat (64 + k)) ∧ IntKind.i64.wrap (Int.ofNat (64 + k)) ≤ IntKind.i64.wrap (Int.ofNat (64 + k)) ∧ (1 : Int) * IntKind.i64.wrap (Int.ofNat (64 + k)) ≤ (281474976710656 : Int)), (0 + (IntKind.i64.wrap (Int.ofNat (64 + k))).toNat ≤ (repI [(0 : Int)] (IntKind.i64.wrap (Int.ofNat (64 + k))).toNat).length), (V.str (strI (List.take (IntKind.i64.wrap (Int.ofNat (64 + k))).toNat (List.drop 0 (repI [(0 : Int)] (IntKind.i64.wrap (Int.ofNat (64 + k))).toNat)))) = V.str z), (([.ptr (some (3, 0)), .str z, .str a] : List V) = [.ptr (some (3, 0)), .str z, .str a] ∧ (hL (memL (pS len cap lg (0) nx (0) es rt) ++ [(7, .own .u8 (repI [(0 : Int)] (IntKind.i64.wrap (Int.ofNat (64 + k))).toNat))])) = (hL (memL (pS len cap lg (0) nx (0) es rt) ++ [(7, .own .u8 row)])) ∧ 8 = 8)],
      .to .normal (stG [(0, .str r), (1, .str tx), (7, .bool true), (8, .ptr (some (3, 0))), (9, .int .i64 (Int.ofNat k)), (10, .str a), (11, .int .i64 0), (12, .str g), (13, .int .i64 e), (16, .str g2), (17, .int .i64 e2), (18, .bool kn), (19, .int .i64 bad), (21, .int .i64 bad), (24, .int .i64 gi), (25, .int .i64 ej), (26, .int .i64 ex)] (memS (pS len cap lg (0) nx (0) es rt)) 7))]
  := RunIs.of (by kernel_rfl) (by kernel_rfl) (by kernel_rfl)
theorem ea_21w (r tx : List UInt8) (k : Nat) (a g g2 : List UInt8) (e e2 : Int) (kn : Bool) (bad : Int) (gi : Int) (ej : Int) (ex : Int) (z : List UInt8) (row : List Int) (len cap : Nat) (lg : List UInt8) (nx : Int) (es rt : List (D × D)) (len2 : Nat) (lg2 : List UInt8) (nx2 : Int) (es2 rt2 : List (D × D)) : ∃ L, RunIs Tryz.prog (pinS csL 16 [P3, .str z, .str a] (hX (mQ len cap lg nx es rt) (.own .u8 row)) 8 (eV ex, emT (mQ len cap lg nx es rt) (eV ex, memNw len2 lg2 0 nx2 0 es2 rt2, 8) (hX (mQ len cap lg nx es rt) (.own .u8 row)) 8, 9)) [(112, .give (nV (64 + k))), (114, .give (.str z))] 1000 3 Tryz.f7 [0, 1, 7, 8, 9, 10, 11, 12, 13, 16, 17, 18, 19, 21, 24, 25, 26] (seqL (tailN 15 cdEr)) (stE1 r tx [(9, nV k), (10, .str a), (11, okE), (12, .str g), (13, eV e), (16, .str g2), (17, eV e2), (18, .bool kn), (19, eV bad), (21, eV bad), (24, eV gi), (25, eV ej)] (memS (mQ len cap lg nx es rt)) 7) L
    [([],
      [(V.int IntKind.i64 (IntKind.i64.wrap ((64 : Int) + Int.ofNat k)) = nV (64 + k)), ((0 : Int) ≤ IntKind.i64.wrap (Int.ofNat (64 + k)) ∧ IntKind.i64.wrap (Int.ofNat (64 + k)) ≤ IntKind.i64.wrap (Int.ofNat (64 + k)) ∧ (1 : Int) * IntKind.i64.wrap (Int.ofNat (64 + k)) ≤ (281474976710656 : Int)), (0 + (IntKind.i64.wrap (Int.ofNat (64 + k))).toNat ≤ (repI [(0 : Int)] (IntKind.i64.wrap (Int.ofNat (64 + k))).toNat).length), (V.str (strI (List.take (IntKind.i64.wrap (Int.ofNat (64 + k))).toNat (List.drop 0 (repI [(0 : Int)] (IntKind.i64.wrap (Int.ofNat (64 + k))).toNat)))) = V.str z), (([.ptr (some (3, 0)), .str z, .str a] : List V) = [.ptr (some (3, 0)), .str z, .str a] ∧ (hL (memL (pS len cap lg (0) nx (0) es rt) ++ [(7, .own .u8 (repI [(0 : Int)] (IntKind.i64.wrap (Int.ofNat (64 + k))).toNat))])) = (hL (memL (pS len cap lg (0) nx (0) es rt) ++ [(7, .own .u8 row)])) ∧ 8 = 8)],
      .to .normal (stG [(0, .str r), (1, .str tx), (7, .bool true), (8, .ptr (some (3, 0))), (9, .int .i64 (Int.ofNat k)), (10, .str a), (11, .int .i64 0), (12, .str g), (13, .int .i64 e), (16, .str g2), (17, .int .i64 e2), (18, .bool kn), (19, .int .i64 bad), (21, .int .i64 bad), (24, .int .i64 gi), (25, .int .i64 ej), (26, .int .i64 ex)] (memS (pS len2 len2 lg2 0 nx2 0 es2 rt2)) 7))]
  := RunIs.of (by kernel_rfl) (by kernel_rfl) (by kernel_rfl)
theorem ea_22o (r tx : List UInt8) (k : Nat) (a g g2 : List UInt8) (e e2 : Int) (kn : Bool) (bad : Int) (gi : Int) (ej : Int) (ex : Int) (ey : Int) (len cap : Nat) (lg : List UInt8) (nx : Int) (es rt : List (D × D)) : ∃ L, RunIs Tryz.prog (pinS csL 16 [P3, .str [116], .str r] (memS (mQ len cap lg nx es rt)) 7 (eV ey, memS (mQ len cap lg nx es rt), 7)) [] 1000 3 Tryz.f7 [0, 1, 7, 8, 9, 10, 11, 12, 13, 16, 17, 18, 19, 21, 24, 25, 26, 27] (seqL (tailN 16 cdEr)) (stE1 r tx [(9, nV k), (10, .str a), (11, okE), (12, .str g), (13, eV e), (16, .str g2), (17, eV e2), (18, .bool kn), (19, eV bad), (21, eV bad), (24, eV gi), (25, eV ej), (26, eV ex)] (memS (mQ len cap lg nx es rt)) 7) L
    [([],
      [(([.ptr (some (3, 0)), .str [116], .str r] : List V) = [.ptr (some (3, 0)), .str [116], .str r] ∧ (memS (pS len cap lg (0) nx (0) es rt)) = (memS (pS len cap lg (0) nx (0) es rt)) ∧ 7 = 7)],
      .to .normal (stG [(0, .str r), (1, .str tx), (7, .bool true), (8, .ptr (some (3, 0))), (9, .int .i64 (Int.ofNat k)), (10, .str a), (11, .int .i64 0), (12, .str g), (13, .int .i64 e), (16, .str g2), (17, .int .i64 e2), (18, .bool kn), (19, .int .i64 bad), (21, .int .i64 bad), (24, .int .i64 gi), (25, .int .i64 ej), (26, .int .i64 ex), (27, .int .i64 ey)] (memS (pS len cap lg (0) nx (0) es rt)) 7))]
  := RunIs.of (by kernel_rfl) (by kernel_rfl) (by kernel_rfl)
theorem ea_22w (r tx : List UInt8) (k : Nat) (a g g2 : List UInt8) (e e2 : Int) (kn : Bool) (bad : Int) (gi : Int) (ej : Int) (ex : Int) (ey : Int) (len cap : Nat) (lg : List UInt8) (nx : Int) (es rt : List (D × D)) (len2 : Nat) (lg2 : List UInt8) (nx2 : Int) (es2 rt2 : List (D × D)) : ∃ L, RunIs Tryz.prog (pinS csL 16 [P3, .str [116], .str r] (memS (mQ len cap lg nx es rt)) 7 (eV ey, memNw len2 lg2 0 nx2 0 es2 rt2, 8)) [] 1000 3 Tryz.f7 [0, 1, 7, 8, 9, 10, 11, 12, 13, 16, 17, 18, 19, 21, 24, 25, 26, 27] (seqL (tailN 16 cdEr)) (stE1 r tx [(9, nV k), (10, .str a), (11, okE), (12, .str g), (13, eV e), (16, .str g2), (17, eV e2), (18, .bool kn), (19, eV bad), (21, eV bad), (24, eV gi), (25, eV ej), (26, eV ex)] (memS (mQ len cap lg nx es rt)) 7) L
    [([],
      [(([.ptr (some (3, 0)), .str [116], .str r] : List V) = [.ptr (some (3, 0)), .str [116], .str r] ∧ (memS (pS len cap lg (0) nx (0) es rt)) = (memS (pS len cap lg (0) nx (0) es rt)) ∧ 7 = 7)],
      .to .normal (stG [(0, .str r), (1, .str tx), (7, .bool true), (8, .ptr (some (3, 0))), (9, .int .i64 (Int.ofNat k)), (10, .str a), (11, .int .i64 0), (12, .str g), (13, .int .i64 e), (16, .str g2), (17, .int .i64 e2), (18, .bool kn), (19, .int .i64 bad), (21, .int .i64 bad), (24, .int .i64 gi), (25, .int .i64 ej), (26, .int .i64 ex), (27, .int .i64 ey)] (memS (pS len2 len2 lg2 0 nx2 0 es2 rt2)) 7))]
  := RunIs.of (by kernel_rfl) (by kernel_rfl) (by kernel_rfl)
theorem ea_23t (r tx : List UInt8) (k : Nat) (a g g2 : List UInt8) (e e2 : Int) (kn : Bool) (bad : Int) (gi : Int) (ej : Int) (ex : Int) (ey : Int) (len cap : Nat) (lg : List UInt8) (nx : Int) (es rt : List (D × D)) : ∃ L, RunIs Tryz.prog csL [(122, .give (.bool true)), (126, .give (.bool true))] 1000 3 Tryz.f7 [0, 1, 7, 8, 9, 10, 11, 12, 13, 16, 17, 18, 19, 21, 24, 25, 26, 27, 28] (seqL (tailN 17 cdEr)) (stE1 r tx [(9, nV k), (10, .str a), (11, okE), (12, .str g), (13, eV e), (16, .str g2), (17, eV e2), (18, .bool kn), (19, eV bad), (21, eV bad), (24, eV gi), (25, eV ej), (26, eV ex), (27, eV ey)] (memS (mQ len cap lg nx es rt)) 7) L
    [([],
      [(V.bool (decide ((Int.ofNat tx.length) ≥ (1 : Int))) = V.bool true), (V.bool (decide ((Int.ofNat tx.length) ≤ (64 : Int))) = V.bool true)],
      .to .normal (stG [(0, .str r), (1, .str tx), (7, .bool true), (8, .ptr (some (3, 0))), (9, .int .i64 (Int.ofNat k)), (10, .str a), (11, .int .i64 0), (12, .str g), (13, .int .i64 e), (16, .str g2), (17, .int .i64 e2), (18, .bool kn), (19, .int .i64 bad), (21, .int .i64 bad), (24, .int .i64 gi), (25, .int .i64 ej), (26, .int .i64 ex), (27, .int .i64 ey), (28, .bool true)] (memS (pS len cap lg (0) nx (0) es rt)) 7))]
  := RunIs.of (by kernel_rfl) (by kernel_rfl) (by kernel_rfl)
theorem ea_23a (r tx : List UInt8) (k : Nat) (a g g2 : List UInt8) (e e2 : Int) (kn : Bool) (bad : Int) (gi : Int) (ej : Int) (ex : Int) (ey : Int) (len cap : Nat) (lg : List UInt8) (nx : Int) (es rt : List (D × D)) : ∃ L, RunIs Tryz.prog csL [(122, .give (.bool false))] 1000 3 Tryz.f7 [0, 1, 7, 8, 9, 10, 11, 12, 13, 16, 17, 18, 19, 21, 24, 25, 26, 27, 28] (seqL (tailN 17 cdEr)) (stE1 r tx [(9, nV k), (10, .str a), (11, okE), (12, .str g), (13, eV e), (16, .str g2), (17, eV e2), (18, .bool kn), (19, eV bad), (21, eV bad), (24, eV gi), (25, eV ej), (26, eV ex), (27, eV ey)] (memS (mQ len cap lg nx es rt)) 7) L
    [([],
      [(V.bool (decide ((Int.ofNat tx.length) ≥ (1 : Int))) = V.bool false)],
      .to .normal (stG [(0, .str r), (1, .str tx), (7, .bool true), (8, .ptr (some (3, 0))), (9, .int .i64 (Int.ofNat k)), (10, .str a), (11, .int .i64 0), (12, .str g), (13, .int .i64 e), (16, .str g2), (17, .int .i64 e2), (18, .bool kn), (19, .int .i64 bad), (21, .int .i64 bad), (24, .int .i64 gi), (25, .int .i64 ej), (26, .int .i64 ex), (27, .int .i64 ey), (28, .bool false)] (memS (pS len cap lg (0) nx (0) es rt)) 7))]
  := RunIs.of (by kernel_rfl) (by kernel_rfl) (by kernel_rfl)
theorem ea_23b (r tx : List UInt8) (k : Nat) (a g g2 : List UInt8) (e e2 : Int) (kn : Bool) (bad : Int) (gi : Int) (ej : Int) (ex : Int) (ey : Int) (len cap : Nat) (lg : List UInt8) (nx : Int) (es rt : List (D × D)) : ∃ L, RunIs Tryz.prog csL [(122, .give (.bool true)), (126, .give (.bool false))] 1000 3 Tryz.f7 [0, 1, 7, 8, 9, 10, 11, 12, 13, 16, 17, 18, 19, 21, 24, 25, 26, 27, 28] (seqL (tailN 17 cdEr)) (stE1 r tx [(9, nV k), (10, .str a), (11, okE), (12, .str g), (13, eV e), (16, .str g2), (17, eV e2), (18, .bool kn), (19, eV bad), (21, eV bad), (24, eV gi), (25, eV ej), (26, eV ex), (27, eV ey)] (memS (mQ len cap lg nx es rt)) 7) L
    [([],
      [(V.bool (decide ((Int.ofNat tx.length) ≥ (1 : Int))) = V.bool true), (V.bool (decide ((Int.ofNat tx.length) ≤ (64 : Int))) = V.bool false)],
      .to .normal (stG [(0, .str r), (1, .str tx), (7, .bool true), (8, .ptr (some (3, 0))), (9, .int .i64 (Int.ofNat k)), (10, .str a), (11, .int .i64 0), (12, .str g), (13, .int .i64 e), (16, .str g2), (17, .int .i64 e2), (18, .bool kn), (19, .int .i64 bad), (21, .int .i64 bad), (24, .int .i64 gi), (25, .int .i64 ej), (26, .int .i64 ex), (27, .int .i64 ey), (28, .bool false)] (memS (pS len cap lg (0) nx (0) es rt)) 7))]
  := RunIs.of (by kernel_rfl) (by kernel_rfl) (by kernel_rfl)
theorem ea_24k (r tx : List UInt8) (k : Nat) (a g g2 : List UInt8) (e e2 : Int) (bad : Int) (ej : Int) (ex : Int) (ey : Int) (nm : Bool) (len cap : Nat) (lg : List UInt8) (nx : Int) (es rt : List (D × D)) : ∃ L, RunIs Tryz.prog csL [] 1000 3 Tryz.f7 [0, 1, 7, 8, 9, 10, 11, 12, 13, 16, 17, 18, 19, 21, 24, 25, 26, 27, 28, 29] (seqL (tailN 18 cdEr)) (stE1 r tx [(9, nV k), (10, .str a), (11, okE), (12, .str g), (13, eV e), (16, .str g2), (17, eV e2), (18, .bool true), (19, eV bad), (21, eV bad), (24, okE), (25, eV ej), (26, eV ex), (27, eV ey), (28, .bool nm)] (memS (mQ len cap lg nx es rt)) 7) L
    [([],
      [],
      .to .normal (stG [(0, .str r), (1, .str tx), (7, .bool true), (8, .ptr (some (3, 0))), (9, .int .i64 (Int.ofNat k)), (10, .str a), (11, .int .i64 0), (12, .str g), (13, .int .i64 e), (16, .str g2), (17, .int .i64 e2), (18, .bool true), (19, .int .i64 bad), (21, .int .i64 bad), (24, .int .i64 0), (25, .int .i64 ej), (26, .int .i64 ex), (27, .int .i64 ey), (28, .bool nm), (29, .bool true)] (memS (pS len cap lg (0) nx (0) es rt)) 7))]
  := RunIs.of (by kernel_rfl) (by kernel_rfl) (by kernel_rfl)
theorem ea_24n (r tx : List UInt8) (k : Nat) (a g g2 : List UInt8) (e e2 : Int) (bad : Int) (ej : Int) (ex : Int) (ey : Int) (nm : Bool) (len cap : Nat) (lg : List UInt8) (nx : Int) (es rt : List (D × D)) : ∃ L, RunIs Tryz.prog csL [] 1000 3 Tryz.f7 [0, 1, 7, 8, 9, 10, 11, 12, 13, 16, 17, 18, 19, 21, 24, 25, 26, 27, 28, 29] (seqL (tailN 18 cdEr)) (stE1 r tx [(9, nV k), (10, .str a), (11, okE), (12, .str g), (13, eV e), (16, .str g2), (17, eV e2), (18, .bool false), (19, eV bad), (21, eV bad), (24, eV 62), (25, eV ej), (26, eV ex), (27, eV ey), (28, .bool nm)] (memS (mQ len cap lg nx es rt)) 7) L
    [([],
      [],
      .to .normal (stG [(0, .str r), (1, .str tx), (7, .bool true), (8, .ptr (some (3, 0))), (9, .int .i64 (Int.ofNat k)), (10, .str a), (11, .int .i64 0), (12, .str g), (13, .int .i64 e), (16, .str g2), (17, .int .i64 e2), (18, .bool false), (19, .int .i64 bad), (21, .int .i64 bad), (24, .int .i64 62), (25, .int .i64 ej), (26, .int .i64 ex), (27, .int .i64 ey), (28, .bool nm), (29, .bool true)] (memS (pS len cap lg (0) nx (0) es rt)) 7))]
  := RunIs.of (by kernel_rfl) (by kernel_rfl) (by kernel_rfl)
theorem ea_25z (r tx : List UInt8) (k : Nat) (a g g2 : List UInt8) (e e2 : Int) (kn : Bool) (bad : Int) (gi : Int) (ej : Int) (ex : Int) (ey : Int) (nm : Bool) (len cap : Nat) (lg : List UInt8) (nx : Int) (es rt : List (D × D)) : ∃ L, RunIs Tryz.prog (pinS csL 18 [P3, .str g] (memS (mQ len cap lg nx es rt)) 7 (.bool true, memS (mQ len cap lg nx es rt), 7)) [(142, .give (.bool true)), (145, .give (.bool true)), (154, .give (.bool false))] 1000 3 Tryz.f7 [0, 1, 7, 8, 9, 10, 11, 12, 13, 16, 17, 18, 19, 21, 24, 25, 26, 27, 28, 29, 30] (seqL (tailN 19 cdEr)) (stE1 r tx [(9, nV k), (10, .str a), (11, okE), (12, .str g), (13, eV e), (16, .str g2), (17, eV e2), (18, .bool kn), (19, eV bad), (21, eV bad), (24, eV gi), (25, eV ej), (26, eV ex), (27, eV ey), (28, .bool nm), (29, .bool true)] (memS (mQ len cap lg nx es rt)) 7) L
    [([],
      [(V.bool (Int.ofNat k == (0 : Int)) = V.bool true), (V.bool (e == (0 : Int)) = V.bool true), (([.ptr (some (3, 0)), .str g] : List V) = [.ptr (some (3, 0)), .str g] ∧ (memS (pS len cap lg (0) nx (0) es rt)) = (memS (pS len cap lg (0) nx (0) es rt)) ∧ 7 = 7)],
      .to .normal (stG [(0, .str r), (1, .str tx), (7, .bool true), (8, .ptr (some (3, 0))), (9, .int .i64 (Int.ofNat k)), (10, .str a), (11, .int .i64 0), (12, .str g), (13, .int .i64 e), (16, .str g2), (17, .int .i64 e2), (18, .bool kn), (19, .int .i64 bad), (21, .int .i64 bad), (24, .int .i64 gi), (25, .int .i64 ej), (26, .int .i64 ex), (27, .int .i64 ey), (28, .bool nm), (29, .bool true), (30, .bool true)] (memS (pS len cap lg (0) nx (0) es rt)) 7))]
  := RunIs.of (by kernel_rfl) (by kernel_rfl) (by kernel_rfl)
theorem ea_25p (r tx : List UInt8) (k : Nat) (a g g2 : List UInt8) (e e2 : Int) (kn : Bool) (bad : Int) (gi : Int) (ej : Int) (ex : Int) (ey : Int) (nm : Bool) (len cap : Nat) (lg : List UInt8) (nx : Int) (es rt : List (D × D)) : ∃ L, RunIs Tryz.prog csL [(142, .give (.bool false)), (154, .give (.bool true)), (157, .give (.bool true)), (161, .give (.bool true))] 1000 3 Tryz.f7 [0, 1, 7, 8, 9, 10, 11, 12, 13, 16, 17, 18, 19, 21, 24, 25, 26, 27, 28, 29, 30] (seqL (tailN 19 cdEr)) (stE1 r tx [(9, nV k), (10, .str a), (11, okE), (12, .str g), (13, eV e), (16, .str g2), (17, eV e2), (18, .bool kn), (19, eV bad), (21, eV bad), (24, eV gi), (25, eV ej), (26, eV ex), (27, eV ey), (28, .bool nm), (29, .bool true)] (memS (mQ len cap lg nx es rt)) 7) L
    [([],
      [(V.bool (Int.ofNat k == (0 : Int)) = V.bool false), (V.bool (decide (Int.ofNat k > (0 : Int))) = V.bool true), (V.bool (e == (1 : Int)) = V.bool true), (V.bool (beqB g ([] : List UInt8)) = V.bool true)],
      .to .normal (stG [(0, .str r), (1, .str tx), (7, .bool true), (8, .ptr (some (3, 0))), (9, .int .i64 (Int.ofNat k)), (10, .str a), (11, .int .i64 0), (12, .str g), (13, .int .i64 e), (16, .str g2), (17, .int .i64 e2), (18, .bool kn), (19, .int .i64 bad), (21, .int .i64 bad), (24, .int .i64 gi), (25, .int .i64 ej), (26, .int .i64 ex), (27, .int .i64 ey), (28, .bool nm), (29, .bool true), (30, .bool true)] (memS (pS len cap lg (0) nx (0) es rt)) 7))]
  := RunIs.of (by kernel_rfl) (by kernel_rfl) (by kernel_rfl)
theorem ea_26z (r tx : List UInt8) (k : Nat) (a g g2 : List UInt8) (e e2 : Int) (kn : Bool) (bad : Int) (gi : Int) (ej : Int) (ex : Int) (ey : Int) (nm : Bool) (len cap : Nat) (lg : List UInt8) (nx : Int) (es rt : List (D × D)) : ∃ L, RunIs Tryz.prog (pinS csL 18 [P3, .str g2] (memS (mQ len cap lg nx es rt)) 7 (.bool true, memS (mQ len cap lg nx es rt), 7)) [(165, .give (.bool true)), (168, .give (.bool true)), (177, .give (.bool false))] 1000 3 Tryz.f7 [0, 1, 7, 8, 9, 10, 11, 12, 13, 16, 17, 18, 19, 21, 24, 25, 26, 27, 28, 29, 30, 31] (seqL (tailN 20 cdEr)) (stE1 r tx [(9, nV k), (10, .str a), (11, okE), (12, .str g), (13, eV e), (16, .str g2), (17, eV e2), (18, .bool kn), (19, eV bad), (21, eV bad), (24, eV gi), (25, eV ej), (26, eV ex), (27, eV ey), (28, .bool nm), (29, .bool true), (30, .bool true)] (memS (mQ len cap lg nx es rt)) 7) L
    [([],
      [(V.bool (Int.ofNat k == (0 : Int)) = V.bool true), (V.bool (e2 == (0 : Int)) = V.bool true), (([.ptr (some (3, 0)), .str g2] : List V) = [.ptr (some (3, 0)), .str g2] ∧ (memS (pS len cap lg (0) nx (0) es rt)) = (memS (pS len cap lg (0) nx (0) es rt)) ∧ 7 = 7)],
      .to .normal (stG [(0, .str r), (1, .str tx), (7, .bool true), (8, .ptr (some (3, 0))), (9, .int .i64 (Int.ofNat k)), (10, .str a), (11, .int .i64 0), (12, .str g), (13, .int .i64 e), (16, .str g2), (17, .int .i64 e2), (18, .bool kn), (19, .int .i64 bad), (21, .int .i64 bad), (24, .int .i64 gi), (25, .int .i64 ej), (26, .int .i64 ex), (27, .int .i64 ey), (28, .bool nm), (29, .bool true), (30, .bool true), (31, .bool true)] (memS (pS len cap lg (0) nx (0) es rt)) 7))]
  := RunIs.of (by kernel_rfl) (by kernel_rfl) (by kernel_rfl)
theorem ea_26p (r tx : List UInt8) (k : Nat) (a g g2 : List UInt8) (e e2 : Int) (kn : Bool) (bad : Int) (gi : Int) (ej : Int) (ex : Int) (ey : Int) (nm : Bool) (len cap : Nat) (lg : List UInt8) (nx : Int) (es rt : List (D × D)) : ∃ L, RunIs Tryz.prog csL [(165, .give (.bool false)), (177, .give (.bool true)), (180, .give (.bool true)), (184, .give (.bool true))] 1000 3 Tryz.f7 [0, 1, 7, 8, 9, 10, 11, 12, 13, 16, 17, 18, 19, 21, 24, 25, 26, 27, 28, 29, 30, 31] (seqL (tailN 20 cdEr)) (stE1 r tx [(9, nV k), (10, .str a), (11, okE), (12, .str g), (13, eV e), (16, .str g2), (17, eV e2), (18, .bool kn), (19, eV bad), (21, eV bad), (24, eV gi), (25, eV ej), (26, eV ex), (27, eV ey), (28, .bool nm), (29, .bool true), (30, .bool true)] (memS (mQ len cap lg nx es rt)) 7) L
    [([],
      [(V.bool (Int.ofNat k == (0 : Int)) = V.bool false), (V.bool (decide (Int.ofNat k > (0 : Int))) = V.bool true), (V.bool (e2 == (1 : Int)) = V.bool true), (V.bool (beqB g2 ([] : List UInt8)) = V.bool true)],
      .to .normal (stG [(0, .str r), (1, .str tx), (7, .bool true), (8, .ptr (some (3, 0))), (9, .int .i64 (Int.ofNat k)), (10, .str a), (11, .int .i64 0), (12, .str g), (13, .int .i64 e), (16, .str g2), (17, .int .i64 e2), (18, .bool kn), (19, .int .i64 bad), (21, .int .i64 bad), (24, .int .i64 gi), (25, .int .i64 ej), (26, .int .i64 ex), (27, .int .i64 ey), (28, .bool nm), (29, .bool true), (30, .bool true), (31, .bool true)] (memS (pS len cap lg (0) nx (0) es rt)) 7))]
  := RunIs.of (by kernel_rfl) (by kernel_rfl) (by kernel_rfl)
theorem ea_27_0000 (r tx : List UInt8) (k : Nat) (a g g2 : List UInt8) (e e2 : Int) (bad : Int) (gi : Int) (ej : Int) (ex : Int) (ey : Int) (len cap : Nat) (lg : List UInt8) (nx : Int) (es rt : List (D × D)) : ∃ L, RunIs Tryz.prog (pinS csL 18 [P3, .str []] (memS (mQ len cap lg nx es rt)) 7 (.bool false, memS (mQ len cap lg nx es rt), 7)) [(190, .give (.bool true)), (201, .give (.bool true)), (208, .give (.bool false)), (216, .give (.bool true)), (221, .give (.bool false)), (223, .give (.bool false)), (228, .give (.bool false)), (230, .give (.bool false))] 1000 3 Tryz.f7 [] (tailN 21 cdEr) (stE1 r tx [(9, nV k), (10, .str a), (11, okE), (12, .str g), (13, eV e), (16, .str g2), (17, eV e2), (18, .bool false), (19, eV bad), (21, eV bad), (24, eV gi), (25, eV ej), (26, eV ex), (27, eV ey), (28, .bool false), (29, .bool true), (30, .bool true), (31, .bool true)] (memS (mQ len cap lg nx es rt)) 7) L
    [([],
      [(V.bool ((0 : Int) == (0 : Int)) = V.bool true), (V.bool (bad == bad) = V.bool true), (V.bool (ej == (0 : Int)) = V.bool false), (V.bool (ej == (1 : Int)) = V.bool true), (V.bool (ex == (0 : Int)) = V.bool false), (V.bool (Int.ofNat k == (0 : Int)) = V.bool false), (V.bool (ey == (0 : Int)) = V.bool false), (V.bool (beqB r ([] : List UInt8)) = V.bool false), (([.ptr (some (3, 0)), .str []] : List V) = [.ptr (some (3, 0)), .str []] ∧ (memS (pS len cap lg (0) nx (0) es rt)) = (memS (pS len cap lg (0) nx (0) es rt)) ∧ 7 = 7)],
      .ret (.bool true) (hL [(0, .ints .u32 gS), (1, .ints .u32 gR)]) 3)]
  := RunIs.of (by kernel_rfl) (by kernel_rfl) (by kernel_rfl)
theorem ea_27_0001 (r tx : List UInt8) (k : Nat) (a g g2 : List UInt8) (e e2 : Int) (bad : Int) (gi : Int) (ej : Int) (ex : Int) (ey : Int) (len cap : Nat) (lg : List UInt8) (nx : Int) (es rt : List (D × D)) : ∃ L, RunIs Tryz.prog (pinS csL 18 [P3, .str []] (memS (mQ len cap lg nx es rt)) 7 (.bool false, memS (mQ len cap lg nx es rt), 7)) [(190, .give (.bool true)), (201, .give (.bool true)), (208, .give (.bool false)), (216, .give (.bool true)), (221, .give (.bool false)), (223, .give (.bool false)), (228, .give (.bool true)), (230, .give (.bool true))] 1000 3 Tryz.f7 [] (tailN 21 cdEr) (stE1 r tx [(9, nV k), (10, .str a), (11, okE), (12, .str g), (13, eV e), (16, .str g2), (17, eV e2), (18, .bool false), (19, eV bad), (21, eV bad), (24, eV gi), (25, eV ej), (26, eV ex), (27, eV ey), (28, .bool false), (29, .bool true), (30, .bool true), (31, .bool true)] (memS (mQ len cap lg nx es rt)) 7) L
    [([],
      [(V.bool ((0 : Int) == (0 : Int)) = V.bool true), (V.bool (bad == bad) = V.bool true), (V.bool (ej == (0 : Int)) = V.bool false), (V.bool (ej == (1 : Int)) = V.bool true), (V.bool (ex == (0 : Int)) = V.bool false), (V.bool (Int.ofNat k == (0 : Int)) = V.bool false), (V.bool (ey == (0 : Int)) = V.bool true), (V.bool (beqB r ([] : List UInt8)) = V.bool true), (([.ptr (some (3, 0)), .str []] : List V) = [.ptr (some (3, 0)), .str []] ∧ (memS (pS len cap lg (0) nx (0) es rt)) = (memS (pS len cap lg (0) nx (0) es rt)) ∧ 7 = 7)],
      .ret (.bool true) (hL [(0, .ints .u32 gS), (1, .ints .u32 gR)]) 3)]
  := RunIs.of (by kernel_rfl) (by kernel_rfl) (by kernel_rfl)
theorem ea_27_0010 (r tx : List UInt8) (k : Nat) (a g g2 : List UInt8) (e e2 : Int) (bad : Int) (gi : Int) (ej : Int) (ex : Int) (ey : Int) (len cap : Nat) (lg : List UInt8) (nx : Int) (es rt : List (D × D)) : ∃ L, RunIs Tryz.prog (pinS csL 18 [P3, .str []] (memS (mQ len cap lg nx es rt)) 7 (.bool false, memS (mQ len cap lg nx es rt), 7)) [(190, .give (.bool true)), (201, .give (.bool true)), (208, .give (.bool false)), (216, .give (.bool true)), (221, .give (.bool false)), (223, .give (.bool false)), (228, .give (.bool true)), (230, .give (.bool false))] 1000 3 Tryz.f7 [] (tailN 21 cdEr) (stE1 r tx [(9, nV k), (10, .str a), (11, okE), (12, .str g), (13, eV e), (16, .str g2), (17, eV e2), (18, .bool true), (19, eV bad), (21, eV bad), (24, eV gi), (25, eV ej), (26, eV ex), (27, eV ey), (28, .bool false), (29, .bool true), (30, .bool true), (31, .bool true)] (memS (mQ len cap lg nx es rt)) 7) L
    [([],
      [(V.bool ((0 : Int) == (0 : Int)) = V.bool true), (V.bool (bad == bad) = V.bool true), (V.bool (ej == (0 : Int)) = V.bool false), (V.bool (ej == (1 : Int)) = V.bool true), (V.bool (ex == (0 : Int)) = V.bool false), (V.bool (Int.ofNat k == (0 : Int)) = V.bool false), (V.bool (ey == (0 : Int)) = V.bool true), (V.bool (beqB r ([] : List UInt8)) = V.bool false), (([.ptr (some (3, 0)), .str []] : List V) = [.ptr (some (3, 0)), .str []] ∧ (memS (pS len cap lg (0) nx (0) es rt)) = (memS (pS len cap lg (0) nx (0) es rt)) ∧ 7 = 7)],
      .ret (.bool true) (hL [(0, .ints .u32 gS), (1, .ints .u32 gR)]) 3)]
  := RunIs.of (by kernel_rfl) (by kernel_rfl) (by kernel_rfl)
theorem ea_27_0011 (r tx : List UInt8) (k : Nat) (a g g2 : List UInt8) (e e2 : Int) (bad : Int) (gi : Int) (ej : Int) (ex : Int) (ey : Int) (len cap : Nat) (lg : List UInt8) (nx : Int) (es rt : List (D × D)) : ∃ L, RunIs Tryz.prog (pinS csL 18 [P3, .str []] (memS (mQ len cap lg nx es rt)) 7 (.bool false, memS (mQ len cap lg nx es rt), 7)) [(190, .give (.bool true)), (201, .give (.bool true)), (208, .give (.bool false)), (216, .give (.bool true)), (221, .give (.bool false)), (223, .give (.bool false)), (228, .give (.bool true)), (230, .give (.bool true))] 1000 3 Tryz.f7 [] (tailN 21 cdEr) (stE1 r tx [(9, nV k), (10, .str a), (11, okE), (12, .str g), (13, eV e), (16, .str g2), (17, eV e2), (18, .bool true), (19, eV bad), (21, eV bad), (24, eV gi), (25, eV ej), (26, eV ex), (27, eV ey), (28, .bool false), (29, .bool true), (30, .bool true), (31, .bool true)] (memS (mQ len cap lg nx es rt)) 7) L
    [([],
      [(V.bool ((0 : Int) == (0 : Int)) = V.bool true), (V.bool (bad == bad) = V.bool true), (V.bool (ej == (0 : Int)) = V.bool false), (V.bool (ej == (1 : Int)) = V.bool true), (V.bool (ex == (0 : Int)) = V.bool false), (V.bool (Int.ofNat k == (0 : Int)) = V.bool false), (V.bool (ey == (0 : Int)) = V.bool true), (V.bool (beqB r ([] : List UInt8)) = V.bool true), (([.ptr (some (3, 0)), .str []] : List V) = [.ptr (some (3, 0)), .str []] ∧ (memS (pS len cap lg (0) nx (0) es rt)) = (memS (pS len cap lg (0) nx (0) es rt)) ∧ 7 = 7)],
      .ret (.bool true) (hL [(0, .ints .u32 gS), (1, .ints .u32 gR)]) 3)]
  := RunIs.of (by kernel_rfl) (by kernel_rfl) (by kernel_rfl)
theorem ea_27_0100 (r tx : List UInt8) (k : Nat) (a g g2 : List UInt8) (e e2 : Int) (bad : Int) (gi : Int) (ej : Int) (ex : Int) (ey : Int) (len cap : Nat) (lg : List UInt8) (nx : Int) (es rt : List (D × D)) : ∃ L, RunIs Tryz.prog (pinS csL 18 [P3, .str []] (memS (mQ len cap lg nx es rt)) 7 (.bool false, memS (mQ len cap lg nx es rt), 7)) [(190, .give (.bool true)), (201, .give (.bool true)), (208, .give (.bool false)), (216, .give (.bool true)), (221, .give (.bool true)), (223, .give (.bool true)), (228, .give (.bool false)), (230, .give (.bool false))] 1000 3 Tryz.f7 [] (tailN 21 cdEr) (stE1 r tx [(9, nV k), (10, .str a), (11, okE), (12, .str g), (13, eV e), (16, .str g2), (17, eV e2), (18, .bool false), (19, eV bad), (21, eV bad), (24, eV gi), (25, eV ej), (26, eV ex), (27, eV ey), (28, .bool false), (29, .bool true), (30, .bool true), (31, .bool true)] (memS (mQ len cap lg nx es rt)) 7) L
    [([],
      [(V.bool ((0 : Int) == (0 : Int)) = V.bool true), (V.bool (bad == bad) = V.bool true), (V.bool (ej == (0 : Int)) = V.bool false), (V.bool (ej == (1 : Int)) = V.bool true), (V.bool (ex == (0 : Int)) = V.bool true), (V.bool (Int.ofNat k == (0 : Int)) = V.bool true), (V.bool (ey == (0 : Int)) = V.bool false), (V.bool (beqB r ([] : List UInt8)) = V.bool false), (([.ptr (some (3, 0)), .str []] : List V) = [.ptr (some (3, 0)), .str []] ∧ (memS (pS len cap lg (0) nx (0) es rt)) = (memS (pS len cap lg (0) nx (0) es rt)) ∧ 7 = 7)],
      .ret (.bool true) (hL [(0, .ints .u32 gS), (1, .ints .u32 gR)]) 3)]
  := RunIs.of (by kernel_rfl) (by kernel_rfl) (by kernel_rfl)
theorem ea_27_0101 (r tx : List UInt8) (k : Nat) (a g g2 : List UInt8) (e e2 : Int) (bad : Int) (gi : Int) (ej : Int) (ex : Int) (ey : Int) (len cap : Nat) (lg : List UInt8) (nx : Int) (es rt : List (D × D)) : ∃ L, RunIs Tryz.prog (pinS csL 18 [P3, .str []] (memS (mQ len cap lg nx es rt)) 7 (.bool false, memS (mQ len cap lg nx es rt), 7)) [(190, .give (.bool true)), (201, .give (.bool true)), (208, .give (.bool false)), (216, .give (.bool true)), (221, .give (.bool true)), (223, .give (.bool true)), (228, .give (.bool true)), (230, .give (.bool true))] 1000 3 Tryz.f7 [] (tailN 21 cdEr) (stE1 r tx [(9, nV k), (10, .str a), (11, okE), (12, .str g), (13, eV e), (16, .str g2), (17, eV e2), (18, .bool false), (19, eV bad), (21, eV bad), (24, eV gi), (25, eV ej), (26, eV ex), (27, eV ey), (28, .bool false), (29, .bool true), (30, .bool true), (31, .bool true)] (memS (mQ len cap lg nx es rt)) 7) L
    [([],
      [(V.bool ((0 : Int) == (0 : Int)) = V.bool true), (V.bool (bad == bad) = V.bool true), (V.bool (ej == (0 : Int)) = V.bool false), (V.bool (ej == (1 : Int)) = V.bool true), (V.bool (ex == (0 : Int)) = V.bool true), (V.bool (Int.ofNat k == (0 : Int)) = V.bool true), (V.bool (ey == (0 : Int)) = V.bool true), (V.bool (beqB r ([] : List UInt8)) = V.bool true), (([.ptr (some (3, 0)), .str []] : List V) = [.ptr (some (3, 0)), .str []] ∧ (memS (pS len cap lg (0) nx (0) es rt)) = (memS (pS len cap lg (0) nx (0) es rt)) ∧ 7 = 7)],
      .ret (.bool true) (hL [(0, .ints .u32 gS), (1, .ints .u32 gR)]) 3)]
  := RunIs.of (by kernel_rfl) (by kernel_rfl) (by kernel_rfl)
theorem ea_27_0110 (r tx : List UInt8) (k : Nat) (a g g2 : List UInt8) (e e2 : Int) (bad : Int) (gi : Int) (ej : Int) (ex : Int) (ey : Int) (len cap : Nat) (lg : List UInt8) (nx : Int) (es rt : List (D × D)) : ∃ L, RunIs Tryz.prog (pinS csL 18 [P3, .str []] (memS (mQ len cap lg nx es rt)) 7 (.bool false, memS (mQ len cap lg nx es rt), 7)) [(190, .give (.bool true)), (201, .give (.bool true)), (208, .give (.bool false)), (216, .give (.bool true)), (221, .give (.bool true)), (223, .give (.bool true)), (228, .give (.bool true)), (230, .give (.bool false))] 1000 3 Tryz.f7 [] (tailN 21 cdEr) (stE1 r tx [(9, nV k), (10, .str a), (11, okE), (12, .str g), (13, eV e), (16, .str g2), (17, eV e2), (18, .bool true), (19, eV bad), (21, eV bad), (24, eV gi), (25, eV ej), (26, eV ex), (27, eV ey), (28, .bool false), (29, .bool true), (30, .bool true), (31, .bool true)] (memS (mQ len cap lg nx es rt)) 7) L
    [([],
      [(V.bool ((0 : Int) == (0 : Int)) = V.bool true), (V.bool (bad == bad) = V.bool true), (V.bool (ej == (0 : Int)) = V.bool false), (V.bool (ej == (1 : Int)) = V.bool true), (V.bool (ex == (0 : Int)) = V.bool true), (V.bool (Int.ofNat k == (0 : Int)) = V.bool true), (V.bool (ey == (0 : Int)) = V.bool true), (V.bool (beqB r ([] : List UInt8)) = V.bool false), (([.ptr (some (3, 0)), .str []] : List V) = [.ptr (some (3, 0)), .str []] ∧ (memS (pS len cap lg (0) nx (0) es rt)) = (memS (pS len cap lg (0) nx (0) es rt)) ∧ 7 = 7)],
      .ret (.bool true) (hL [(0, .ints .u32 gS), (1, .ints .u32 gR)]) 3)]
  := RunIs.of (by kernel_rfl) (by kernel_rfl) (by kernel_rfl)
theorem ea_27_0111 (r tx : List UInt8) (k : Nat) (a g g2 : List UInt8) (e e2 : Int) (bad : Int) (gi : Int) (ej : Int) (ex : Int) (ey : Int) (len cap : Nat) (lg : List UInt8) (nx : Int) (es rt : List (D × D)) : ∃ L, RunIs Tryz.prog (pinS csL 18 [P3, .str []] (memS (mQ len cap lg nx es rt)) 7 (.bool false, memS (mQ len cap lg nx es rt), 7)) [(190, .give (.bool true)), (201, .give (.bool true)), (208, .give (.bool false)), (216, .give (.bool true)), (221, .give (.bool true)), (223, .give (.bool true)), (228, .give (.bool true)), (230, .give (.bool true))] 1000 3 Tryz.f7 [] (tailN 21 cdEr) (stE1 r tx [(9, nV k), (10, .str a), (11, okE), (12, .str g), (13, eV e), (16, .str g2), (17, eV e2), (18, .bool true), (19, eV bad), (21, eV bad), (24, eV gi), (25, eV ej), (26, eV ex), (27, eV ey), (28, .bool false), (29, .bool true), (30, .bool true), (31, .bool true)] (memS (mQ len cap lg nx es rt)) 7) L
    [([],
      [(V.bool ((0 : Int) == (0 : Int)) = V.bool true), (V.bool (bad == bad) = V.bool true), (V.bool (ej == (0 : Int)) = V.bool false), (V.bool (ej == (1 : Int)) = V.bool true), (V.bool (ex == (0 : Int)) = V.bool true), (V.bool (Int.ofNat k == (0 : Int)) = V.bool true), (V.bool (ey == (0 : Int)) = V.bool true), (V.bool (beqB r ([] : List UInt8)) = V.bool true), (([.ptr (some (3, 0)), .str []] : List V) = [.ptr (some (3, 0)), .str []] ∧ (memS (pS len cap lg (0) nx (0) es rt)) = (memS (pS len cap lg (0) nx (0) es rt)) ∧ 7 = 7)],
      .ret (.bool true) (hL [(0, .ints .u32 gS), (1, .ints .u32 gR)]) 3)]
  := RunIs.of (by kernel_rfl) (by kernel_rfl) (by kernel_rfl)
theorem ea_27_1000 (r tx : List UInt8) (k : Nat) (a g g2 : List UInt8) (e e2 : Int) (bad : Int) (gi : Int) (ej : Int) (ex : Int) (ey : Int) (len cap : Nat) (lg : List UInt8) (nx : Int) (es rt : List (D × D)) : ∃ L, RunIs Tryz.prog (pinS csL 18 [P3, .str []] (memS (mQ len cap lg nx es rt)) 7 (.bool false, memS (mQ len cap lg nx es rt), 7)) [(190, .give (.bool true)), (201, .give (.bool true)), (208, .give (.bool true)), (216, .give (.bool true)), (221, .give (.bool false)), (223, .give (.bool false)), (228, .give (.bool false)), (230, .give (.bool false))] 1000 3 Tryz.f7 [] (tailN 21 cdEr) (stE1 r tx [(9, nV k), (10, .str a), (11, okE), (12, .str g), (13, eV e), (16, .str g2), (17, eV e2), (18, .bool false), (19, eV bad), (21, eV bad), (24, eV gi), (25, eV ej), (26, eV ex), (27, eV ey), (28, .bool true), (29, .bool true), (30, .bool true), (31, .bool true)] (memS (mQ len cap lg nx es rt)) 7) L
    [([],
      [(V.bool ((0 : Int) == (0 : Int)) = V.bool true), (V.bool (bad == bad) = V.bool true), (V.bool (ej == (0 : Int)) = V.bool true), (V.bool (ex == (0 : Int)) = V.bool false), (V.bool (Int.ofNat k == (0 : Int)) = V.bool false), (V.bool (ey == (0 : Int)) = V.bool false), (V.bool (beqB r ([] : List UInt8)) = V.bool false), (([.ptr (some (3, 0)), .str []] : List V) = [.ptr (some (3, 0)), .str []] ∧ (memS (pS len cap lg (0) nx (0) es rt)) = (memS (pS len cap lg (0) nx (0) es rt)) ∧ 7 = 7)],
      .ret (.bool true) (hL [(0, .ints .u32 gS), (1, .ints .u32 gR)]) 3)]
  := RunIs.of (by kernel_rfl) (by kernel_rfl) (by kernel_rfl)
theorem ea_27_1001 (r tx : List UInt8) (k : Nat) (a g g2 : List UInt8) (e e2 : Int) (bad : Int) (gi : Int) (ej : Int) (ex : Int) (ey : Int) (len cap : Nat) (lg : List UInt8) (nx : Int) (es rt : List (D × D)) : ∃ L, RunIs Tryz.prog (pinS csL 18 [P3, .str []] (memS (mQ len cap lg nx es rt)) 7 (.bool false, memS (mQ len cap lg nx es rt), 7)) [(190, .give (.bool true)), (201, .give (.bool true)), (208, .give (.bool true)), (216, .give (.bool true)), (221, .give (.bool false)), (223, .give (.bool false)), (228, .give (.bool true)), (230, .give (.bool true))] 1000 3 Tryz.f7 [] (tailN 21 cdEr) (stE1 r tx [(9, nV k), (10, .str a), (11, okE), (12, .str g), (13, eV e), (16, .str g2), (17, eV e2), (18, .bool false), (19, eV bad), (21, eV bad), (24, eV gi), (25, eV ej), (26, eV ex), (27, eV ey), (28, .bool true), (29, .bool true), (30, .bool true), (31, .bool true)] (memS (mQ len cap lg nx es rt)) 7) L
    [([],
      [(V.bool ((0 : Int) == (0 : Int)) = V.bool true), (V.bool (bad == bad) = V.bool true), (V.bool (ej == (0 : Int)) = V.bool true), (V.bool (ex == (0 : Int)) = V.bool false), (V.bool (Int.ofNat k == (0 : Int)) = V.bool false), (V.bool (ey == (0 : Int)) = V.bool true), (V.bool (beqB r ([] : List UInt8)) = V.bool true), (([.ptr (some (3, 0)), .str []] : List V) = [.ptr (some (3, 0)), .str []] ∧ (memS (pS len cap lg (0) nx (0) es rt)) = (memS (pS len cap lg (0) nx (0) es rt)) ∧ 7 = 7)],
      .ret (.bool true) (hL [(0, .ints .u32 gS), (1, .ints .u32 gR)]) 3)]
  := RunIs.of (by kernel_rfl) (by kernel_rfl) (by kernel_rfl)
theorem ea_27_1010 (r tx : List UInt8) (k : Nat) (a g g2 : List UInt8) (e e2 : Int) (bad : Int) (gi : Int) (ej : Int) (ex : Int) (ey : Int) (len cap : Nat) (lg : List UInt8) (nx : Int) (es rt : List (D × D)) : ∃ L, RunIs Tryz.prog (pinS csL 18 [P3, .str []] (memS (mQ len cap lg nx es rt)) 7 (.bool false, memS (mQ len cap lg nx es rt), 7)) [(190, .give (.bool true)), (201, .give (.bool true)), (208, .give (.bool true)), (216, .give (.bool true)), (221, .give (.bool false)), (223, .give (.bool false)), (228, .give (.bool true)), (230, .give (.bool false))] 1000 3 Tryz.f7 [] (tailN 21 cdEr) (stE1 r tx [(9, nV k), (10, .str a), (11, okE), (12, .str g), (13, eV e), (16, .str g2), (17, eV e2), (18, .bool true), (19, eV bad), (21, eV bad), (24, eV gi), (25, eV ej), (26, eV ex), (27, eV ey), (28, .bool true), (29, .bool true), (30, .bool true), (31, .bool true)] (memS (mQ len cap lg nx es rt)) 7) L
    [([],
      [(V.bool ((0 : Int) == (0 : Int)) = V.bool true), (V.bool (bad == bad) = V.bool true), (V.bool (ej == (0 : Int)) = V.bool true), (V.bool (ex == (0 : Int)) = V.bool false), (V.bool (Int.ofNat k == (0 : Int)) = V.bool false), (V.bool (ey == (0 : Int)) = V.bool true), (V.bool (beqB r ([] : List UInt8)) = V.bool false), (([.ptr (some (3, 0)), .str []] : List V) = [.ptr (some (3, 0)), .str []] ∧ (memS (pS len cap lg (0) nx (0) es rt)) = (memS (pS len cap lg (0) nx (0) es rt)) ∧ 7 = 7)],
      .ret (.bool true) (hL [(0, .ints .u32 gS), (1, .ints .u32 gR)]) 3)]
  := RunIs.of (by kernel_rfl) (by kernel_rfl) (by kernel_rfl)
theorem ea_27_1011 (r tx : List UInt8) (k : Nat) (a g g2 : List UInt8) (e e2 : Int) (bad : Int) (gi : Int) (ej : Int) (ex : Int) (ey : Int) (len cap : Nat) (lg : List UInt8) (nx : Int) (es rt : List (D × D)) : ∃ L, RunIs Tryz.prog (pinS csL 18 [P3, .str []] (memS (mQ len cap lg nx es rt)) 7 (.bool false, memS (mQ len cap lg nx es rt), 7)) [(190, .give (.bool true)), (201, .give (.bool true)), (208, .give (.bool true)), (216, .give (.bool true)), (221, .give (.bool false)), (223, .give (.bool false)), (228, .give (.bool true)), (230, .give (.bool true))] 1000 3 Tryz.f7 [] (tailN 21 cdEr) (stE1 r tx [(9, nV k), (10, .str a), (11, okE), (12, .str g), (13, eV e), (16, .str g2), (17, eV e2), (18, .bool true), (19, eV bad), (21, eV bad), (24, eV gi), (25, eV ej), (26, eV ex), (27, eV ey), (28, .bool true), (29, .bool true), (30, .bool true), (31, .bool true)] (memS (mQ len cap lg nx es rt)) 7) L
    [([],
      [(V.bool ((0 : Int) == (0 : Int)) = V.bool true), (V.bool (bad == bad) = V.bool true), (V.bool (ej == (0 : Int)) = V.bool true), (V.bool (ex == (0 : Int)) = V.bool false), (V.bool (Int.ofNat k == (0 : Int)) = V.bool false), (V.bool (ey == (0 : Int)) = V.bool true), (V.bool (beqB r ([] : List UInt8)) = V.bool true), (([.ptr (some (3, 0)), .str []] : List V) = [.ptr (some (3, 0)), .str []] ∧ (memS (pS len cap lg (0) nx (0) es rt)) = (memS (pS len cap lg (0) nx (0) es rt)) ∧ 7 = 7)],
      .ret (.bool true) (hL [(0, .ints .u32 gS), (1, .ints .u32 gR)]) 3)]
  := RunIs.of (by kernel_rfl) (by kernel_rfl) (by kernel_rfl)
theorem ea_27_1100 (r tx : List UInt8) (k : Nat) (a g g2 : List UInt8) (e e2 : Int) (bad : Int) (gi : Int) (ej : Int) (ex : Int) (ey : Int) (len cap : Nat) (lg : List UInt8) (nx : Int) (es rt : List (D × D)) : ∃ L, RunIs Tryz.prog (pinS csL 18 [P3, .str []] (memS (mQ len cap lg nx es rt)) 7 (.bool false, memS (mQ len cap lg nx es rt), 7)) [(190, .give (.bool true)), (201, .give (.bool true)), (208, .give (.bool true)), (216, .give (.bool true)), (221, .give (.bool true)), (223, .give (.bool true)), (228, .give (.bool false)), (230, .give (.bool false))] 1000 3 Tryz.f7 [] (tailN 21 cdEr) (stE1 r tx [(9, nV k), (10, .str a), (11, okE), (12, .str g), (13, eV e), (16, .str g2), (17, eV e2), (18, .bool false), (19, eV bad), (21, eV bad), (24, eV gi), (25, eV ej), (26, eV ex), (27, eV ey), (28, .bool true), (29, .bool true), (30, .bool true), (31, .bool true)] (memS (mQ len cap lg nx es rt)) 7) L
    [([],
      [(V.bool ((0 : Int) == (0 : Int)) = V.bool true), (V.bool (bad == bad) = V.bool true), (V.bool (ej == (0 : Int)) = V.bool true), (V.bool (ex == (0 : Int)) = V.bool true), (V.bool (Int.ofNat k == (0 : Int)) = V.bool true), (V.bool (ey == (0 : Int)) = V.bool false), (V.bool (beqB r ([] : List UInt8)) = V.bool false), (([.ptr (some (3, 0)), .str []] : List V) = [.ptr (some (3, 0)), .str []] ∧ (memS (pS len cap lg (0) nx (0) es rt)) = (memS (pS len cap lg (0) nx (0) es rt)) ∧ 7 = 7)],
      .ret (.bool true) (hL [(0, .ints .u32 gS), (1, .ints .u32 gR)]) 3)]
  := RunIs.of (by kernel_rfl) (by kernel_rfl) (by kernel_rfl)
theorem ea_27_1101 (r tx : List UInt8) (k : Nat) (a g g2 : List UInt8) (e e2 : Int) (bad : Int) (gi : Int) (ej : Int) (ex : Int) (ey : Int) (len cap : Nat) (lg : List UInt8) (nx : Int) (es rt : List (D × D)) : ∃ L, RunIs Tryz.prog (pinS csL 18 [P3, .str []] (memS (mQ len cap lg nx es rt)) 7 (.bool false, memS (mQ len cap lg nx es rt), 7)) [(190, .give (.bool true)), (201, .give (.bool true)), (208, .give (.bool true)), (216, .give (.bool true)), (221, .give (.bool true)), (223, .give (.bool true)), (228, .give (.bool true)), (230, .give (.bool true))] 1000 3 Tryz.f7 [] (tailN 21 cdEr) (stE1 r tx [(9, nV k), (10, .str a), (11, okE), (12, .str g), (13, eV e), (16, .str g2), (17, eV e2), (18, .bool false), (19, eV bad), (21, eV bad), (24, eV gi), (25, eV ej), (26, eV ex), (27, eV ey), (28, .bool true), (29, .bool true), (30, .bool true), (31, .bool true)] (memS (mQ len cap lg nx es rt)) 7) L
    [([],
      [(V.bool ((0 : Int) == (0 : Int)) = V.bool true), (V.bool (bad == bad) = V.bool true), (V.bool (ej == (0 : Int)) = V.bool true), (V.bool (ex == (0 : Int)) = V.bool true), (V.bool (Int.ofNat k == (0 : Int)) = V.bool true), (V.bool (ey == (0 : Int)) = V.bool true), (V.bool (beqB r ([] : List UInt8)) = V.bool true), (([.ptr (some (3, 0)), .str []] : List V) = [.ptr (some (3, 0)), .str []] ∧ (memS (pS len cap lg (0) nx (0) es rt)) = (memS (pS len cap lg (0) nx (0) es rt)) ∧ 7 = 7)],
      .ret (.bool true) (hL [(0, .ints .u32 gS), (1, .ints .u32 gR)]) 3)]
  := RunIs.of (by kernel_rfl) (by kernel_rfl) (by kernel_rfl)
theorem ea_27_1110 (r tx : List UInt8) (k : Nat) (a g g2 : List UInt8) (e e2 : Int) (bad : Int) (gi : Int) (ej : Int) (ex : Int) (ey : Int) (len cap : Nat) (lg : List UInt8) (nx : Int) (es rt : List (D × D)) : ∃ L, RunIs Tryz.prog (pinS csL 18 [P3, .str []] (memS (mQ len cap lg nx es rt)) 7 (.bool false, memS (mQ len cap lg nx es rt), 7)) [(190, .give (.bool true)), (201, .give (.bool true)), (208, .give (.bool true)), (216, .give (.bool true)), (221, .give (.bool true)), (223, .give (.bool true)), (228, .give (.bool true)), (230, .give (.bool false))] 1000 3 Tryz.f7 [] (tailN 21 cdEr) (stE1 r tx [(9, nV k), (10, .str a), (11, okE), (12, .str g), (13, eV e), (16, .str g2), (17, eV e2), (18, .bool true), (19, eV bad), (21, eV bad), (24, eV gi), (25, eV ej), (26, eV ex), (27, eV ey), (28, .bool true), (29, .bool true), (30, .bool true), (31, .bool true)] (memS (mQ len cap lg nx es rt)) 7) L
    [([],
      [(V.bool ((0 : Int) == (0 : Int)) = V.bool true), (V.bool (bad == bad) = V.bool true), (V.bool (ej == (0 : Int)) = V.bool true), (V.bool (ex == (0 : Int)) = V.bool true), (V.bool (Int.ofNat k == (0 : Int)) = V.bool true), (V.bool (ey == (0 : Int)) = V.bool true), (V.bool (beqB r ([] : List UInt8)) = V.bool false), (([.ptr (some (3, 0)), .str []] : List V) = [.ptr (some (3, 0)), .str []] ∧ (memS (pS len cap lg (0) nx (0) es rt)) = (memS (pS len cap lg (0) nx (0) es rt)) ∧ 7 = 7)],
      .ret (.bool true) (hL [(0, .ints .u32 gS), (1, .ints .u32 gR)]) 3)]
  := RunIs.of (by kernel_rfl) (by kernel_rfl) (by kernel_rfl)
theorem ea_27_1111 (r tx : List UInt8) (k : Nat) (a g g2 : List UInt8) (e e2 : Int) (bad : Int) (gi : Int) (ej : Int) (ex : Int) (ey : Int) (len cap : Nat) (lg : List UInt8) (nx : Int) (es rt : List (D × D)) : ∃ L, RunIs Tryz.prog (pinS csL 18 [P3, .str []] (memS (mQ len cap lg nx es rt)) 7 (.bool false, memS (mQ len cap lg nx es rt), 7)) [(190, .give (.bool true)), (201, .give (.bool true)), (208, .give (.bool true)), (216, .give (.bool true)), (221, .give (.bool true)), (223, .give (.bool true)), (228, .give (.bool true)), (230, .give (.bool true))] 1000 3 Tryz.f7 [] (tailN 21 cdEr) (stE1 r tx [(9, nV k), (10, .str a), (11, okE), (12, .str g), (13, eV e), (16, .str g2), (17, eV e2), (18, .bool true), (19, eV bad), (21, eV bad), (24, eV gi), (25, eV ej), (26, eV ex), (27, eV ey), (28, .bool true), (29, .bool true), (30, .bool true), (31, .bool true)] (memS (mQ len cap lg nx es rt)) 7) L
    [([],
      [(V.bool ((0 : Int) == (0 : Int)) = V.bool true), (V.bool (bad == bad) = V.bool true), (V.bool (ej == (0 : Int)) = V.bool true), (V.bool (ex == (0 : Int)) = V.bool true), (V.bool (Int.ofNat k == (0 : Int)) = V.bool true), (V.bool (ey == (0 : Int)) = V.bool true), (V.bool (beqB r ([] : List UInt8)) = V.bool true), (([.ptr (some (3, 0)), .str []] : List V) = [.ptr (some (3, 0)), .str []] ∧ (memS (pS len cap lg (0) nx (0) es rt)) = (memS (pS len cap lg (0) nx (0) es rt)) ∧ 7 = 7)],
      .ret (.bool true) (hL [(0, .ints .u32 gS), (1, .ints .u32 gR)]) 3)]
  := RunIs.of (by kernel_rfl) (by kernel_rfl) (by kernel_rfl)
end Go.Proofs.YtfihojpgobmmdaaGreatDoor
namespace Go.Proofs.YtfihojpgobmmdaaGreatDoor
open Go Go.Eng
structure InvS (B len cap : Nat) (lg : List UInt8) (es : List (D × D)) : Prop where
  hln : len = lg.length
  hcp : 0 < cap
  hle : len ≤ B
  hen : Ent es
section
variable (f : Bool) (l : List (List UInt8)) (i : Nat) (d : List UInt8) (hd : d.length ≤ 200)
theorem lt15 : 15 < Tryz.prog.funcs.size := Nat.le_of_ble_eq_true (by kernel_rfl)
variable {len cap : Nat} {lg : List UInt8} {nx : Int} {es : List (D × D)}
end
section
variable (f : Bool) (l : List (List UInt8))
end
end Go.Proofs.YtfihojpgobmmdaaGreatDoor
