/- The Chunk laws: the roots in order, pieces. No conditions. -/
import Derived.Test.YtfihojpgobmmdaaGreatDoorJointEighteen
import Derived.Test.YtfihojpgobmmdaaGreatDoorJointSixteen
set_option linter.unusedVariables false
set_option linter.unusedSimpArgs false
set_option linter.unusedSectionVars false
namespace Go.Proofs.YtfihojpgobmmdaaGreatDoor
open Go Go.Eng
def w88 : V := .fn (.func 88) [] [.ptr (some (7, 0))]
section
variable (len cap : Nat) (b : List UInt8) (fl nx lf : Int) (es rt : List (D × D))
def lK : List (Nat × O) := memL (pS len cap b fl nx lf es rt) ++ [(7, .cells [.map (some 6)])]
def lKg : List (Nat × O) := [(0, .ints .u32 gS), (1, .ints .u32 gR), (3, .cells (stoC 4 5 6 (pS len cap b fl nx lf es rt))), (4, .buf 5 false b), (5, .mapD none es), (7, .cells [.map (some 6)])]
def sKa : St := stG [(2, .ptr (some (8, 0))), (6, w88)] (hL (lK len cap b fl nx lf es rt ++ [(8, .cells [.slc none 0 0 0])])) 9
noncomputable def oKa : O := .loop true none (sKa len cap b fl nx lf es rt).fr [7] asA2 boA2
noncomputable def hK (sl : V) (row : List (Nat × O)) : Tr O := hL (lK len cap b fl nx lf es rt ++ [(8, .cells [sl]), (9, .dfr), (10, oKa len cap b fl nx lf es rt)] ++ row)
noncomputable def SK (sl : V) (row : List (Nat × O)) (n : Nat) : St := stG [(0, .fn (.yield 10) [] []), (5, .ptr (some (11, 0)))] (hL (lKg len cap b fl nx lf es rt ++ [(8, .cells [sl]), (9, .dfr), (10, oKa len cap b fl nx lf es rt)] ++ row)) n
end
abbrev P (m : Nat) : V := .ptr (some (m, 0))
theorem ka_0 (len cap : Nat) (b : List UInt8) (fl nx lf : Int) (es rt : List (D × D)) (k : List UInt8) (v : V) : ∃ L, RunIs Tryz.prog (csQ []) [] 1000 12 Tryz.f88 [0, 5] ((mlOf cdK2).rest) (kSt (SK len cap b fl nx lf es rt nilS [] 12) k v) L
    [([],
      [],
      .to .normal (stG [(0, .fn (.yield 10) [] []), (5, .ptr (some (11, 0)))] (hL [(0, .ints .u32 gS), (1, .ints .u32 gR), (3, .cells [.slc (some (4, 0)) len cap 1, .int .i64 fl, .map (some 5), .map (some 6), .int .i64 nx, .bool false, .bool false, .int .i64 lf]), (4, .buf 5 false b), (5, .mapD none es), (7, .cells [.map (some 6)]), (8, .cells [.slc (some (12, 0)) 1 1 1]), (9, .dfr), (10, .loop true none (Eng.frL [(2, .ptr (some (8, 0))), (6, .fn (.func 88) [] [.ptr (some (7, 0))])]) [7] asA2 boA2), (12, .cells [.str k])]) 13))]
  := RunIs.of (by kernel_rfl) (by kernel_rfl) (by kernel_rfl)
theorem ka_1 (len cap : Nat) (b : List UInt8) (fl nx lf : Int) (es rt : List (D × D)) (k : List UInt8) (v : V) (n : Nat) (cs : List D) : ∃ L, RunIs Tryz.prog (csQ []) [] 1000 12 Tryz.f88 [0, 5] ((mlOf cdK2).rest) (kSt (SK len cap b fl nx lf es rt (.slc (some (12, 0)) n n 1) [(12, .deep cs)] 13) k v) L
    [([],
      [(0 + n * 1 ≤ cs.length), (0 < 1), (roomy (n + 1) 1 16 = true)],
      .to .normal (stG [(0, .fn (.yield 10) [] []), (5, .ptr (some (11, 0)))] (hL [(0, .ints .u32 gS), (1, .ints .u32 gR), (3, .cells [.slc (some (4, 0)) len cap 1, .int .i64 fl, .map (some 5), .map (some 6), .int .i64 nx, .bool false, .bool false, .int .i64 lf]), (4, .buf 5 false b), (5, .mapD none es), (7, .cells [.map (some 6)]), (8, .cells [.slc (some (12, 0)) (n + 1) (n + 1) 1]), (9, .dfr), (10, .loop true none (Eng.frL [(2, .ptr (some (8, 0))), (6, .fn (.func 88) [] [.ptr (some (7, 0))])]) [7] asA2 boA2), (12, .deep (List.take (n * 1) (List.drop 0 cs) ++ [D.str k]))]) 13))]
  := RunIs.of (by kernel_rfl) (by kernel_rfl) (by kernel_rfl)
theorem ka_2 (len cap : Nat) (b : List UInt8) (fl nx lf : Int) (es rt : List (D × D)) : ∃ L, RunIs Tryz.prog (csQ []) [] 1000 8 Tryz.f113 [1, 2] (headN 1 cdA2) (startSt [nilS, w88] (hL (lK len cap b fl nx lf es rt)) 8) L
    [([],
      [],
      .to .normal (stG [(1, .fn (.func 88) [] [.ptr (some (7, 0))]), (2, .ptr (some (8, 0)))] (hL (memL (pS len cap b fl nx lf es rt) ++ [(7, .cells [.map (some 6)]), (8, .cells [.slc none 0 0 0])])) 9))]
  := RunIs.of (by kernel_rfl) (by kernel_rfl) (by kernel_rfl)
theorem ka_3 (len cap : Nat) (b : List UInt8) (fl nx lf : Int) (es rt : List (D × D)) : ∃ L, RunIs Tryz.prog (csQ []) [] 1000 8 Tryz.f113 [2, 6] (seqL (seqL tlA2)) (stG [(1, w88), (2, P 8)] (hL (lK len cap b fl nx lf es rt ++ [(8, .cells [nilS])])) 9) L
    [([],
      [],
      .to .normal (stG [(2, .ptr (some (8, 0))), (6, .fn (.func 88) [] [.ptr (some (7, 0))])] (hL (memL (pS len cap b fl nx lf es rt) ++ [(7, .cells [.map (some 6)]), (8, .cells [.slc none 0 0 0])])) 9))]
  := RunIs.of (by kernel_rfl) (by kernel_rfl) (by kernel_rfl)
theorem ka_4 (len cap : Nat) (b : List UInt8) (fl nx lf : Int) (es rt : List (D × D)) (n : Nat) (cs : List D) : ∃ L, RunIs Tryz.prog (csQ []) [] 1000 8 Tryz.f113 [] (seqR tlA2) (rEnd (sKa len cap b fl nx lf es rt) (hK len cap b fl nx lf es rt (.slc (some (11, 0)) n n 1) [(11, .deep cs)]) 12) L
    [([],
      [],
      .ret (.slc (some (8, 0)) n n 1) (hL (memL (pS len cap b fl nx lf es rt) ++ [(7, .cells [.map (some 6)]), (8, .deep cs)])) 9)]
  := RunIs.of (by kernel_rfl) (by kernel_rfl) (by kernel_rfl)
theorem ka_5 (len cap : Nat) (b : List UInt8) (fl nx lf : Int) (es rt : List (D × D)) : ∃ L, RunIs Tryz.prog (csQ []) [] 1000 8 Tryz.f113 [] (seqR tlA2) (rEnd (sKa len cap b fl nx lf es rt) (hK len cap b fl nx lf es rt nilS []) 11) L
    [([],
      [],
      .ret (.slc none 0 0 0) (hL (memL (pS len cap b fl nx lf es rt) ++ [(7, .cells [.map (some 6)])])) 8)]
  := RunIs.of (by kernel_rfl) (by kernel_rfl) (by kernel_rfl)
end Go.Proofs.YtfihojpgobmmdaaGreatDoor
namespace Go.Proofs.YtfihojpgobmmdaaGreatDoor
open Go Go.Eng
def KeyS (rt : List (D × D)) : Prop := ∀ e ∈ rt, ∃ k, e.1 = .str k
def keysOf (rt : List (D × D)) : List (List UInt8) := rt.map fun e => D.strB e.1
theorem strs_app (a b : List (List UInt8)) : strs (a ++ b) = strs a ++ strs b := by unfold strs; rw [List.map_append]
section
variable (len cap : Nat) (b : List UInt8) (fl nx lf : Int) (es rt : List (D × D))
def rowK3 (m : Nat) : List (List UInt8) → List (Nat × O)
  | [] => []
  | [x] => [(m, .cells [.str x])]
  | ks => [(m, .deep (strs ks))]
def slK (m : Nat) : List (List UInt8) → V
  | [] => nilS
  | ks => .slc (some (m, 0)) ks.length ks.length 1
def nK (m : Nat) : List (List UInt8) → Nat
  | [] => m
  | _ => m + 1
def JKa (vis : List (D × D)) (s1 : St) : Prop := KeyS vis ∧ normG 12 [0, 5] s1 = some (SK len cap b fl nx lf es rt (slK 12 (keysOf vis)) (rowK3 12 (keysOf vis)) (nK 12 (keysOf vis)))
theorem call88g (hk : KeyS rt) (hl : rt.length ≤ 1000000) : CallsOne Tryz.prog 88 [.fn (.yield 10) [] [], .ptr (some (7, 0))] (hK len cap b fl nx lf es rt nilS []) 11 fun v h n => ∃ vis, List.Perm vis rt ∧ v = .tup [] ∧ h = hK len cap b fl nx lf es rt (slK 11 (keysOf vis)) (rowK3 11 (keysOf vis)) ∧ n = nK 11 (keysOf vis) := by
  refine callsOne_of_TG mo po Tryz.func88 (code := cdK2) (by kernel_rfl) (by kernel_rfl) ?_
  rw [ml88]
  refine TG_maps (v0 := .map (some 6)) (fr0 := (startSt [.fn (.yield 10) [] [], .ptr (some (7, 0))] (hK len cap b fl nx lf es rt nilS []) 11).fr.set 4 (some (.map (some 6)))) (fr1 := ((startSt [.fn (.yield 10) [] [], .ptr (some (7, 0))] (hK len cap b fl nx lf es rt nilS []) 11).fr.set 4 (some (.map (some 6)))).set 5 (some (.ptr (some (11, 0))))) (m := 6) (kd := none) (es := rt) mo ml88_ok
    (by kernel_rfl) (by kernel_rfl) (by kernel_rfl) (by kernel_rfl) (Nat.le_of_ble_eq_true rfl) (by kernel_rfl) (JKa len cap b fl nx lf es rt) ⟨(fun _ h => by cases h), by kernel_rfl⟩ ?_
  rintro vis left s1 ⟨hv, hs⟩ hp
  have hlen : vis.length ≤ 1000000 := by
    have := hp.length_eq
    rw [List.length_append] at this; omega
  match vis, hv, hs, hp, hlen with
  | [], hv, hs, hp, _ =>
    refine ⟨[0, 5], SK len cap b fl nx lf es rt nilS [] 12, hs, by kernel_rfl, fun hl0 => ?_, fun e left' he => ?_⟩
    · subst hl0
      rw [List.append_nil] at hp
      refine ⟨(SK len cap b fl nx lf es rt nilS [] 12).fr.set 6 (some (.tup [.bool false])), { SK len cap b fl nx lf es rt nilS [] 12 with fr := ((SK len cap b fl nx lf es rt nilS [] 12).fr.set 6 (some (.tup [.bool false]))).set 7 (some (.bool false)) }, by kernel_rfl, by kernel_rfl, by kernel_rfl, .inl rfl, .tup [], hK len cap b fl nx lf es rt nilS [], 11, by kernel_rfl, [], hp, rfl, rfl, rfl⟩
    · obtain ⟨k, hek⟩ := hk e (hp.mem_iff.1 (he.mem_iff.2 (by simp)))
      obtain ⟨e1, e2⟩ := e
      have hek : e1 = .str k := hek
      subst hek
      refine ⟨(SK len cap b fl nx lf es rt nilS [] 12).fr.set 6 (some (.tup [.bool true, .str k, e2.toV])), { SK len cap b fl nx lf es rt nilS [] 12 with fr := ((SK len cap b fl nx lf es rt nilS [] 12).fr.set 6 (some (.tup [.bool true, .str k, e2.toV]))).set 7 (some (.bool true)) },
        (((SK len cap b fl nx lf es rt nilS [] 12).fr.set 6 (some (.tup [.bool true, .str k, e2.toV]))).set 7 (some (.bool true))).set 8 (some (.tup [.str k, e2.toV])), kSt (SK len cap b fl nx lf es rt nilS [] 12) k e2.toV, by kernel_rfl, by kernel_rfl, by kernel_rfl, by kernel_rfl, by kernel_rfl, by kernel_rfl, by kernel_rfl, by kernel_rfl, ?_⟩
      obtain ⟨L, hr⟩ := ka_0 len cap b fl nx lf es rt k e2.toV
      refine TG_is (XQ []) mo anyR (by kernel_rfl) hr fun g hg _ => ?_
      rw [List.mem_singleton] at hg; subst hg
      exact ⟨all_nil, fun s' hs' => ⟨fun x hx => by rw [List.nil_append, List.mem_singleton] at hx; exact ⟨k, by rw [hx]⟩, hs'⟩⟩
  | [x], hv, hs, hp, _ =>
    obtain ⟨x1, x2⟩ := x
    obtain ⟨kx, hkx⟩ := hv _ (List.mem_singleton.2 rfl)
    have hkx : x1 = .str kx := hkx
    subst hkx
    refine ⟨[0, 5], SK len cap b fl nx lf es rt (.slc (some (12, 0)) 1 1 1) [(12, .cells [.str kx])] 13, hs, by kernel_rfl, fun hl0 => ?_, fun e left' he => ?_⟩
    · subst hl0
      rw [List.append_nil] at hp
      refine ⟨(SK len cap b fl nx lf es rt (.slc (some (12, 0)) 1 1 1) [(12, .cells [.str kx])] 13).fr.set 6 (some (.tup [.bool false])), { SK len cap b fl nx lf es rt (.slc (some (12, 0)) 1 1 1) [(12, .cells [.str kx])] 13 with fr := ((SK len cap b fl nx lf es rt (.slc (some (12, 0)) 1 1 1) [(12, .cells [.str kx])] 13).fr.set 6 (some (.tup [.bool false]))).set 7 (some (.bool false)) }, by kernel_rfl, by kernel_rfl, by kernel_rfl, .inl rfl, .tup [], hK len cap b fl nx lf es rt (.slc (some (11, 0)) 1 1 1) [(11, .cells [.str kx])], 12, by kernel_rfl, _, hp, rfl, rfl, rfl⟩
    · obtain ⟨k, hek⟩ := hk e (hp.mem_iff.1 (List.mem_append_right _ (he.mem_iff.2 (by simp))))
      obtain ⟨e1, e2⟩ := e
      have hek : e1 = .str k := hek
      subst hek
      let S := SK len cap b fl nx lf es rt (.slc (some (12, 0)) 1 1 1) [(12, .cells [.str kx])] 13
      refine ⟨S.fr.set 6 (some (.tup [.bool true, .str k, e2.toV])), { S with fr := (S.fr.set 6 (some (.tup [.bool true, .str k, e2.toV]))).set 7 (some (.bool true)) },
        ((S.fr.set 6 (some (.tup [.bool true, .str k, e2.toV]))).set 7 (some (.bool true))).set 8 (some (.tup [.str k, e2.toV])), kSt S k e2.toV, by kernel_rfl, by kernel_rfl, by kernel_rfl, by kernel_rfl, by kernel_rfl, by kernel_rfl, by kernel_rfl, by kernel_rfl, ?_⟩
      refine TG_deep [12] (s2 := kSt (SK len cap b fl nx lf es rt (.slc (some (12, 0)) 1 1 1) [(12, .deep [.str kx])] 13) k e2.toV) (by kernel_rfl) ?_
      obtain ⟨L, hr⟩ := ka_1 len cap b fl nx lf es rt k e2.toV 1 [.str kx]
      refine TG_is (XQ []) mo anyR (by kernel_rfl) hr fun g hg _ => ?_
      rw [List.mem_singleton] at hg; subst hg
      refine ⟨?_, fun s' hs' => ⟨fun x hx => ?_, hs'⟩⟩
      · exact List.forall_mem_cons.2 ⟨Nat.le_refl _, List.forall_mem_cons.2 ⟨by decide, List.forall_mem_cons.2 ⟨by decide, all_nil⟩⟩⟩
      · simp only [List.cons_append, List.nil_append, List.mem_cons, List.not_mem_nil, or_false] at hx
        rcases hx with rfl | rfl
        · exact ⟨kx, rfl⟩
        · exact ⟨k, rfl⟩
  | x :: y :: vis, hv, hs, hp, hlen =>
    have hrow : ∀ m, rowK3 m (keysOf (x :: y :: vis)) = [(m, .deep (strs (keysOf (x :: y :: vis))))] := fun m => rfl
    have hsl : ∀ m, slK m (keysOf (x :: y :: vis)) = .slc (some (m, 0)) (keysOf (x :: y :: vis)).length (keysOf (x :: y :: vis)).length 1 := fun m => rfl
    have hnk : ∀ m, nK m (keysOf (x :: y :: vis)) = m + 1 := fun m => rfl
    have hkl : (keysOf (x :: y :: vis)).length = (x :: y :: vis).length := by unfold keysOf; rw [List.length_map]
    rw [hrow, hsl, hnk] at hs
    have hL2 : ∀ l2, slK 11 (keysOf (x :: y :: vis)) = l2 → l2 = .slc (some (11, 0)) (keysOf (x :: y :: vis)).length (keysOf (x :: y :: vis)).length 1 := fun l2 h => h ▸ rfl
    refine ⟨[0, 5], _, hs, by kernel_rfl, fun hl0 => ?_, fun e left' he => ?_⟩
    · subst hl0
      rw [List.append_nil] at hp
      refine ⟨(SK len cap b fl nx lf es rt (.slc (some (12, 0)) (keysOf (x :: y :: vis)).length (keysOf (x :: y :: vis)).length 1) [(12, .deep (strs (keysOf (x :: y :: vis))))] 13).fr.set 6 (some (.tup [.bool false])), { SK len cap b fl nx lf es rt (.slc (some (12, 0)) (keysOf (x :: y :: vis)).length (keysOf (x :: y :: vis)).length 1) [(12, .deep (strs (keysOf (x :: y :: vis))))] 13 with fr := ((SK len cap b fl nx lf es rt (.slc (some (12, 0)) (keysOf (x :: y :: vis)).length (keysOf (x :: y :: vis)).length 1) [(12, .deep (strs (keysOf (x :: y :: vis))))] 13).fr.set 6 (some (.tup [.bool false]))).set 7 (some (.bool false)) }, by kernel_rfl, by kernel_rfl, by kernel_rfl, .inl rfl, .tup [], hK len cap b fl nx lf es rt (.slc (some (11, 0)) (keysOf (x :: y :: vis)).length (keysOf (x :: y :: vis)).length 1) [(11, .deep (strs (keysOf (x :: y :: vis))))], 12, ?_, _, hp, rfl, rfl, rfl⟩
      generalize keysOf (x :: y :: vis) = ks
      kernel_rfl
    · obtain ⟨k, hek⟩ := hk e (hp.mem_iff.1 (List.mem_append_right _ (he.mem_iff.2 (by simp))))
      obtain ⟨e1, e2⟩ := e
      have hek : e1 = .str k := hek
      subst hek
      have hnext : keysOf ((x :: y :: vis) ++ [(.str k, e2)]) = keysOf (x :: y :: vis) ++ [k] := by unfold keysOf; rw [List.map_append]; rfl
      have hks : KeyS ((x :: y :: vis) ++ [(.str k, e2)]) := fun z hz => by
        rcases List.mem_append.1 hz with hz | hz
        · exact hv z hz
        · rw [List.mem_singleton] at hz; subst hz; exact ⟨k, rfl⟩
      have h2 : 2 ≤ (keysOf (x :: y :: vis)).length := by rw [hkl]; simp
      have hJ : ∀ s', normG 12 [0, 5] s' = some (SK len cap b fl nx lf es rt (.slc (some (12, 0)) (keysOf (x :: y :: vis) ++ [k]).length (keysOf (x :: y :: vis) ++ [k]).length 1) [(12, .deep (strs (keysOf (x :: y :: vis) ++ [k])))] 13) → JKa len cap b fl nx lf es rt ((x :: y :: vis) ++ [(.str k, e2)]) s' := by
        intro s' hs'
        refine ⟨hks, ?_⟩
        rw [hnext, hs']
        unfold keysOf
        rfl
      generalize hK0 : keysOf (x :: y :: vis) = ks at *
      let S := SK len cap b fl nx lf es rt (.slc (some (12, 0)) ks.length ks.length 1) [(12, .deep (strs ks))] 13
      refine ⟨S.fr.set 6 (some (.tup [.bool true, .str k, e2.toV])), { S with fr := (S.fr.set 6 (some (.tup [.bool true, .str k, e2.toV]))).set 7 (some (.bool true)) },
        ((S.fr.set 6 (some (.tup [.bool true, .str k, e2.toV]))).set 7 (some (.bool true))).set 8 (some (.tup [.str k, e2.toV])), kSt S k e2.toV, by kernel_rfl, by kernel_rfl, by kernel_rfl, by kernel_rfl, by kernel_rfl, by kernel_rfl, by kernel_rfl, by kernel_rfl, ?_⟩
      obtain ⟨L, hr⟩ := ka_1 len cap b fl nx lf es rt k e2.toV ks.length (strs ks)
      refine TG_is (XQ []) mo anyR (by kernel_rfl) hr fun g hg _ => ?_
      rw [List.mem_singleton] at hg; subst hg
      refine ⟨?_, fun s' hs' => hJ s' ?_⟩
      · exact List.forall_mem_cons.2 ⟨by rw [strs_len]; omega, List.forall_mem_cons.2 ⟨by decide, List.forall_mem_cons.2 ⟨roomy16 (by omega), all_nil⟩⟩⟩
      · refine Eq.trans hs' ?_
        have e3 : List.take (ks.length * 1) (List.drop 0 (strs ks)) ++ [D.str k] = strs (ks ++ [k]) := by
          rw [List.drop_zero, Nat.mul_one, List.take_of_length_le (by rw [strs_len]; exact Nat.le_refl _), strs_app]; rfl
        rw [e3, List.length_append]
        rfl
end
end Go.Proofs.YtfihojpgobmmdaaGreatDoor
namespace Go.Proofs.YtfihojpgobmmdaaGreatDoor
open Go Go.Eng
section
variable (len cap : Nat) (b : List UInt8) (fl nx lf : Int) (es rt : List (D × D))
def hKe (row : List (Nat × O)) : Tr O := hL (lK len cap b fl nx lf es rt ++ row)
end
def sC2 (h : Tr O) (n : Nat) (v : V) : St := { fr := ((((frL [(0, w88)]).set 3 (some w88)).set 4 (some v)).set 2 (some v)), h := h, n := n, dfs := [] }
theorem kc_1 (len cap : Nat) (b : List UInt8) (fl nx lf : Int) (es rt : List (D × D)) (x : List UInt8) : ∃ L, RunIs Tryz.prog (csQ []) [] 1000 8 Tryz.f113 [] (seqR tlA2) (rEnd (sKa len cap b fl nx lf es rt) (hK len cap b fl nx lf es rt (.slc (some (11, 0)) 1 1 1) [(11, .cells [.str x])]) 12) L
    [([],
      [],
      .ret (.slc (some (8, 0)) 1 1 1) (hL (memL (pS len cap b fl nx lf es rt) ++ [(7, .cells [.map (some 6)]), (8, .cells [.str x])])) 9)]
  := RunIs.of (by kernel_rfl) (by kernel_rfl) (by kernel_rfl)
theorem kc_2 (len cap : Nat) (b : List UInt8) (fl nx lf : Int) (es rt : List (D × D)) : ∃ L, RunIs Tryz.prog (csQ []) [] 1000 8 Tryz.f86 [0] (headN 1 cdC2) (startSt [w88] (hKe len cap b fl nx lf es rt []) 8) L
    [([],
      [],
      .to .normal (stG [(0, .fn (.func 88) [] [.ptr (some (7, 0))])] (hL (memL (pS len cap b fl nx lf es rt) ++ [(7, .cells [.map (some 6)])])) 8))]
  := RunIs.of (by kernel_rfl) (by kernel_rfl) (by kernel_rfl)
theorem kc_3 (len cap : Nat) (b : List UInt8) (fl nx lf : Int) (es rt : List (D × D)) (n : Nat) (cs : List D) : ∃ L, RunIs Tryz.prog (csQ []) [] 1000 8 Tryz.f86 [] (seqR (tailN 1 cdC2)) (sC2 (hKe len cap b fl nx lf es rt [(8, .deep cs)]) 9 (.slc (some (8, 0)) n n 1)) L
    [([],
      [],
      .ret (.slc (some (8, 0)) n n 1) (hL (memL (pS len cap b fl nx lf es rt) ++ [(7, .cells [.map (some 6)]), (8, .deep cs)])) 9)]
  := RunIs.of (by kernel_rfl) (by kernel_rfl) (by kernel_rfl)
theorem kc_4 (len cap : Nat) (b : List UInt8) (fl nx lf : Int) (es rt : List (D × D)) : ∃ L, RunIs Tryz.prog (csQ []) [] 1000 8 Tryz.f86 [] (seqR (tailN 1 cdC2)) (sC2 (hKe len cap b fl nx lf es rt []) 8 nilS) L
    [([],
      [],
      .ret (.slc none 0 0 0) (hL (memL (pS len cap b fl nx lf es rt) ++ [(7, .cells [.map (some 6)])])) 8)]
  := RunIs.of (by kernel_rfl) (by kernel_rfl) (by kernel_rfl)
theorem kc_5 (len cap : Nat) (b : List UInt8) (fl nx lf : Int) (es rt : List (D × D)) (x : List UInt8) : ∃ L, RunIs Tryz.prog (csQ []) [] 1000 8 Tryz.f86 [] (seqR (tailN 1 cdC2)) (sC2 (hKe len cap b fl nx lf es rt [(8, .cells [.str x])]) 9 (.slc (some (8, 0)) 1 1 1)) L
    [([],
      [],
      .ret (.slc (some (8, 0)) 1 1 1) (hL (memL (pS len cap b fl nx lf es rt) ++ [(7, .cells [.map (some 6)]), (8, .cells [.str x])])) 9)]
  := RunIs.of (by kernel_rfl) (by kernel_rfl) (by kernel_rfl)
theorem kc_6 (len cap : Nat) (b : List UInt8) (fl nx lf : Int) (es rt : List (D × D)) : ∃ L, RunIs Tryz.prog (csQ []) [] 1000 8 Tryz.f61 [0] (headN 1 cdS2) (startSt [w88] (hKe len cap b fl nx lf es rt []) 8) L
    [([],
      [],
      .to .normal (stG [(0, .fn (.func 88) [] [.ptr (some (7, 0))])] (hL (memL (pS len cap b fl nx lf es rt) ++ [(7, .cells [.map (some 6)])])) 8))]
  := RunIs.of (by kernel_rfl) (by kernel_rfl) (by kernel_rfl)
def sS2 (h : Tr O) (n : Nat) (v : V) : St := { fr := ((((frL [(0, w88)]).set 4 (some w88)).set 5 (some v)).set 3 (some v)), h := h, n := n, dfs := [] }
theorem kc_7 (len cap : Nat) (b : List UInt8) (fl nx lf : Int) (es rt : List (D × D)) (n : Nat) (cs cs2 : List D) : ∃ L, RunIs Tryz.prog (pinS (csQ []) 87 [.slc (some (8, 0)) n n 1] (hKe len cap b fl nx lf es rt [(8, .deep cs)]) 9 (.tup [], (hKe len cap b fl nx lf es rt [(8, .deep cs)]).set 8 (some (.deep cs2)), 9)) [] 1000 8 Tryz.f61 [] (tailN 2 cdS2) (sS2 (hKe len cap b fl nx lf es rt [(8, .deep cs)]) 9 (.slc (some (8, 0)) n n 1)) L
    [([],
      [(([.slc (some (8, 0)) n n 1] : List V) = [.slc (some (8, 0)) n n 1] ∧ (hL (memL (pS len cap b fl nx lf es rt) ++ [(7, .cells [.map (some 6)]), (8, .deep cs)])) = (hL (memL (pS len cap b fl nx lf es rt) ++ [(7, .cells [.map (some 6)]), (8, .deep cs)])) ∧ 9 = 9)],
      .ret (.slc (some (8, 0)) n n 1) (hL (memL (pS len cap b fl nx lf es rt) ++ [(7, .cells [.map (some 6)]), (8, .deep cs2)])) 9)]
  := RunIs.of (by kernel_rfl) (by kernel_rfl) (by kernel_rfl)
theorem kc_8 (len cap : Nat) (b : List UInt8) (fl nx lf : Int) (es rt : List (D × D)) : ∃ L, RunIs Tryz.prog (csQ []) [] 1000 8 Tryz.f61 [] (tailN 2 cdS2) (sS2 (hKe len cap b fl nx lf es rt []) 8 nilS) L
    [([],
      [((0 : Int) ≤ (0 : Int) ∧ 0 < 256)],
      .ret (.slc none 0 0 0) (hL (memL (pS len cap b fl nx lf es rt) ++ [(7, .cells [.map (some 6)])])) 8)]
  := RunIs.of (by kernel_rfl) (by kernel_rfl) (by kernel_rfl)
theorem kc_9 (len cap : Nat) (b : List UInt8) (fl nx lf : Int) (es rt : List (D × D)) (x : List UInt8) : ∃ L, RunIs Tryz.prog (csQ []) [] 1000 8 Tryz.f61 [] (tailN 2 cdS2) (sS2 (hKe len cap b fl nx lf es rt [(8, .cells [.str x])]) 9 (.slc (some (8, 0)) 1 1 1)) L
    [([],
      [((0 : Int) ≤ (1 : Int) ∧ 1 < 256)],
      .ret (.slc (some (8, 0)) 1 1 1) (hL (memL (pS len cap b fl nx lf es rt) ++ [(7, .cells [.map (some 6)]), (8, .cells [.str x])])) 9)]
  := RunIs.of (by kernel_rfl) (by kernel_rfl) (by kernel_rfl)
def hKf (len cap : Nat) (b : List UInt8) (fl nx lf : Int) (es rt : List (D × D)) (row : List (Nat × O)) : Tr O := hL (memL (pS len cap b fl nx lf es rt) ++ row)
theorem kc_10 (len cap : Nat) (b : List UInt8) (fl nx lf : Int) (es rt : List (D × D)) (n : Nat) (cs : List D) : ∃ L, RunIs Tryz.prog (pinS (csQ []) 61 [w88] (hKe len cap b fl nx lf es rt []) 8 (.slc (some (8, 0)) n n 1, hKe len cap b fl nx lf es rt [(8, .deep cs)], 9)) [] 1000 7 Tryz.f23 [] (cdRo) (startSt [P3] (memS (pS len cap b fl nx lf es rt)) 7) L
    [([],
      [(([.fn (.func 88) [] [.ptr (some (7, 0))]] : List V) = [.fn (.func 88) [] [.ptr (some (7, 0))]] ∧ (hL (memL (pS len cap b fl nx lf es rt) ++ [(7, .cells [.map (some 6)])])) = (hL (memL (pS len cap b fl nx lf es rt) ++ [(7, .cells [.map (some 6)])])) ∧ 8 = 8)],
      .ret (.slc (some (7, 0)) n n 1) (hL (memL (pS len cap b fl nx lf es rt) ++ [(7, .deep cs)])) 8)]
  := RunIs.of (by kernel_rfl) (by kernel_rfl) (by kernel_rfl)
theorem kc_11 (len cap : Nat) (b : List UInt8) (fl nx lf : Int) (es rt : List (D × D)) : ∃ L, RunIs Tryz.prog (pinS (csQ []) 61 [w88] (hKe len cap b fl nx lf es rt []) 8 (nilS, hKe len cap b fl nx lf es rt [], 8)) [] 1000 7 Tryz.f23 [] (cdRo) (startSt [P3] (memS (pS len cap b fl nx lf es rt)) 7) L
    [([],
      [(([.fn (.func 88) [] [.ptr (some (7, 0))]] : List V) = [.fn (.func 88) [] [.ptr (some (7, 0))]] ∧ (hL (memL (pS len cap b fl nx lf es rt) ++ [(7, .cells [.map (some 6)])])) = (hL (memL (pS len cap b fl nx lf es rt) ++ [(7, .cells [.map (some 6)])])) ∧ 8 = 8)],
      .ret (.slc none 0 0 0) (memS (pS len cap b fl nx lf es rt)) 7)]
  := RunIs.of (by kernel_rfl) (by kernel_rfl) (by kernel_rfl)
theorem kc_12 (len cap : Nat) (b : List UInt8) (fl nx lf : Int) (es rt : List (D × D)) (x : List UInt8) : ∃ L, RunIs Tryz.prog (pinS (csQ []) 61 [w88] (hKe len cap b fl nx lf es rt []) 8 (.slc (some (8, 0)) 1 1 1, hKe len cap b fl nx lf es rt [(8, .cells [.str x])], 9)) [] 1000 7 Tryz.f23 [] (cdRo) (startSt [P3] (memS (pS len cap b fl nx lf es rt)) 7) L
    [([],
      [(([.fn (.func 88) [] [.ptr (some (7, 0))]] : List V) = [.fn (.func 88) [] [.ptr (some (7, 0))]] ∧ (hL (memL (pS len cap b fl nx lf es rt) ++ [(7, .cells [.map (some 6)])])) = (hL (memL (pS len cap b fl nx lf es rt) ++ [(7, .cells [.map (some 6)])])) ∧ 8 = 8)],
      .ret (.slc (some (7, 0)) 1 1 1) (hL (memL (pS len cap b fl nx lf es rt) ++ [(7, .cells [.str x])])) 8)]
  := RunIs.of (by kernel_rfl) (by kernel_rfl) (by kernel_rfl)
end Go.Proofs.YtfihojpgobmmdaaGreatDoor
namespace Go.Proofs.YtfihojpgobmmdaaGreatDoor
open Go Go.Eng
theorem leB_trans {a b c : List UInt8} (h : a ≤ b) (k : b ≤ c) : a ≤ c := List.le_trans h k
theorem leB_total (a b : List UInt8) : a ≤ b ∨ b ≤ a := List.le_total a b
theorem leB_anti {a b : List UInt8} (h : a ≤ b) (k : b ≤ a) : a = b := List.le_antisymm h k
theorem sortS_perm (l : List (List UInt8)) : List.Perm (sortS l) l := List.mergeSort_perm ..
theorem sortS_pair (l : List (List UInt8)) : (sortS l).Pairwise (· ≤ ·) := by
  have := List.pairwise_mergeSort (le := fun x y : List UInt8 => decide (x ≤ y)) (fun a b c h k => by simp only [decide_eq_true_eq] at *; exact leB_trans h k) (fun a b => by simp only [Bool.or_eq_true, decide_eq_true_eq]; exact leB_total a b) l
  exact this.imp fun h => of_decide_eq_true h
theorem sortS_eq {a b : List (List UInt8)} (h : List.Perm a b) : sortS a = sortS b :=
  List.Perm.eq_of_pairwise (le := (· ≤ ·)) (fun _ _ _ _ h k => leB_anti h k) (sortS_pair a) (sortS_pair b) (((sortS_perm a).trans h).trans (sortS_perm b).symm)
theorem sortS_nil : sortS [] = [] := List.length_eq_zero_iff.1 (by rw [sortS_len]; rfl)
theorem sortS_one (x : List UInt8) : sortS [x] = [x] := by
  have h := sortS_perm [x]
  exact List.perm_singleton.1 h
theorem keysOf_perm {a b : List (D × D)} (h : List.Perm a b) : List.Perm (keysOf a) (keysOf b) := h.map _
theorem keysOf_len (a : List (D × D)) : (keysOf a).length = a.length := by unfold keysOf; rw [List.length_map]
section
variable (len cap : Nat) (b : List UInt8) (fl nx lf : Int) (es rt : List (D × D))
abbrev RKy (v : V) (h : Tr O) (n : Nat) : Prop := ∃ ks, List.Perm ks (keysOf rt) ∧ v = slK 8 ks ∧ h = hKe len cap b fl nx lf es rt (rowK3 8 ks) ∧ n = nK 8 ks
theorem call113g (hk : KeyS rt) (hl : rt.length ≤ 1000000) : CallsOne Tryz.prog 113 [nilS, w88] (hKe len cap b fl nx lf es rt []) 8 (RKy len cap b fl nx lf es rt) := by
  refine callsOne_of_TG mo po Tryz.func113 (code := cdA2) (by kernel_rfl) (by kernel_rfl) ?_
  obtain ⟨L1, hr1⟩ := ka_2 len cap b fl nx lf es rt
  refine TG_isN1 1 (XQ []) mo (by kernel_rfl) hr1 all_nil ?_
  show TG Tryz.prog 8 Tryz.f113.ntmps tlA2 (stG [(1, w88), (2, P 8)] (hL (lK len cap b fl nx lf es rt ++ [(8, .cells [nilS])])) 9) _
  refine TG_seq' (by kernel_rfl) ?_
  refine TG_seq' (by kernel_rfl) ?_
  obtain ⟨L2, hr2⟩ := ka_3 len cap b fl nx lf es rt
  refine TG_is (XQ []) mo anyR (by kernel_rfl) hr2 fun g hg _ => ?_
  rw [List.mem_singleton] at hg; subst hg
  refine ⟨all_nil, fun s' hs' => ?_⟩
  have hs' : normG 8 [2, 6] s' = some (sKa len cap b fl nx lf es rt) := hs'
  refine TG_norm hs' ?_
  refine TG_block (i := 0) (by kernel_rfl) ?_
  refine TG_rangeN (gf := 88) (lb := [.ptr (some (7, 0))]) (by kernel_rfl) (by kernel_rfl) (by kernel_rfl) (by kernel_rfl) (by kernel_rfl) (call88g len cap b fl nx lf es rt hk hl) ?_
  rintro v h n ⟨vis, hp, rfl, rfl, rfl⟩
  have hpk := keysOf_perm hp
  match hks : keysOf vis, hpk with
  | [], hpk =>
    refine ⟨by kernel_rfl, ?_⟩
    show TG Tryz.prog 8 Tryz.f113.ntmps (seqR tlA2) _ _
    obtain ⟨L5, hr5⟩ := ka_5 len cap b fl nx lf es rt
    refine TG_ret (XQ []) mo _ (by kernel_rfl) hr5 fun g hg _ => ?_
    rw [List.mem_singleton] at hg; subst hg
    exact ⟨all_nil, _, _, _, rfl, [], hpk, rfl, rfl, rfl⟩
  | [x], hpk =>
    refine ⟨by kernel_rfl, ?_⟩
    show TG Tryz.prog 8 Tryz.f113.ntmps (seqR tlA2) _ _
    obtain ⟨L5, hr5⟩ := kc_1 len cap b fl nx lf es rt x
    refine TG_ret (XQ []) mo _ (by kernel_rfl) hr5 fun g hg _ => ?_
    rw [List.mem_singleton] at hg; subst hg
    exact ⟨all_nil, _, _, _, rfl, [x], hpk, rfl, rfl, rfl⟩
  | x :: y :: ks, hpk =>
    refine ⟨by kernel_rfl, ?_⟩
    show TG Tryz.prog 8 Tryz.f113.ntmps (seqR tlA2) _ _
    obtain ⟨L5, hr5⟩ := ka_4 len cap b fl nx lf es rt (x :: y :: ks).length (strs (x :: y :: ks))
    refine TG_ret (XQ []) mo _ (by kernel_rfl) hr5 fun g hg _ => ?_
    rw [List.mem_singleton] at hg; subst hg
    exact ⟨all_nil, _, _, _, rfl, x :: y :: ks, hpk, rfl, rfl, rfl⟩
theorem call86g (hk : KeyS rt) (hl : rt.length ≤ 1000000) : CallsOne Tryz.prog 86 [w88] (hKe len cap b fl nx lf es rt []) 8 (RKy len cap b fl nx lf es rt) := by
  refine callsOne_of_TG mo po Tryz.func86 (code := cdC2) (by kernel_rfl) (by kernel_rfl) ?_
  obtain ⟨L1, hr1⟩ := kc_2 len cap b fl nx lf es rt
  refine TG_isN1 1 (XQ []) mo (by kernel_rfl) hr1 all_nil ?_
  refine TG_seq' (by kernel_rfl) ?_
  refine TG_callAt 1 (s1 := { fr := (frL [(0, w88)]).set 3 (some w88), h := hKe len cap b fl nx lf es rt [], n := 8, dfs := [] }) (f := 113) (args := [nilS, w88]) (by kernel_rfl) (by kernel_rfl) (by kernel_rfl) (by kernel_rfl) (by kernel_rfl) (by kernel_rfl) (call113g len cap b fl nx lf es rt hk hl) ?_
  rintro v h n ⟨ks, hp, rfl, rfl, rfl⟩
  match ks, hp with
  | [], hp =>
    refine ⟨(((frL [(0, w88)]).set 3 (some w88)).set 4 (some nilS)), sC2 (hKe len cap b fl nx lf es rt []) 8 nilS, by kernel_rfl, by kernel_rfl, ?_⟩
    obtain ⟨L5, hr5⟩ := kc_4 len cap b fl nx lf es rt
    show TG Tryz.prog 8 Tryz.f86.ntmps (seqR (tailN 1 cdC2)) _ _
    refine TG_ret (XQ []) mo _ (by kernel_rfl) hr5 fun g hg _ => ?_
    rw [List.mem_singleton] at hg; subst hg
    exact ⟨all_nil, _, _, _, rfl, [], hp, rfl, rfl, rfl⟩
  | [x], hp =>
    refine ⟨(((frL [(0, w88)]).set 3 (some w88)).set 4 (some (.slc (some (8, 0)) 1 1 1))), sC2 (hKe len cap b fl nx lf es rt [(8, .cells [.str x])]) 9 (.slc (some (8, 0)) 1 1 1), by kernel_rfl, by kernel_rfl, ?_⟩
    obtain ⟨L5, hr5⟩ := kc_5 len cap b fl nx lf es rt x
    show TG Tryz.prog 8 Tryz.f86.ntmps (seqR (tailN 1 cdC2)) _ _
    refine TG_ret (XQ []) mo _ (by kernel_rfl) hr5 fun g hg _ => ?_
    rw [List.mem_singleton] at hg; subst hg
    exact ⟨all_nil, _, _, _, rfl, [x], hp, rfl, rfl, rfl⟩
  | x :: y :: ks, hp =>
    refine ⟨(((frL [(0, w88)]).set 3 (some w88)).set 4 (some (.slc (some (8, 0)) (x :: y :: ks).length (x :: y :: ks).length 1))), sC2 (hKe len cap b fl nx lf es rt [(8, .deep (strs (x :: y :: ks)))]) 9 (.slc (some (8, 0)) (x :: y :: ks).length (x :: y :: ks).length 1), by kernel_rfl, by kernel_rfl, ?_⟩
    obtain ⟨L5, hr5⟩ := kc_3 len cap b fl nx lf es rt (x :: y :: ks).length (strs (x :: y :: ks))
    show TG Tryz.prog 8 Tryz.f86.ntmps (seqR (tailN 1 cdC2)) _ _
    refine TG_ret (XQ []) mo _ (by kernel_rfl) hr5 fun g hg _ => ?_
    rw [List.mem_singleton] at hg; subst hg
    exact ⟨all_nil, _, _, _, rfl, x :: y :: ks, hp, rfl, rfl, rfl⟩
theorem slK_big {m : Nat} {ks : List (List UInt8)} (h : 2 ≤ ks.length) : slK m ks = .slc (some (m, 0)) ks.length ks.length 1 ∧ rowK3 m ks = [(m, .deep (strs ks))] ∧ nK m ks = m + 1 := by
  match ks, h with
  | x :: y :: ks, _ => exact ⟨rfl, rfl, rfl⟩
theorem call61g (hk : KeyS rt) (hl : rt.length < 1000000) : CallIs Tryz.prog 61 [w88] (hKe len cap b fl nx lf es rt []) 8 (slK 8 (sortS (keysOf rt))) (hKe len cap b fl nx lf es rt (rowK3 8 (sortS (keysOf rt)))) (nK 8 (sortS (keysOf rt))) := by
  refine callIs_of_TG Tryz.func61 (code := cdS2) (by kernel_rfl) (by kernel_rfl) ?_
  obtain ⟨L1, hr1⟩ := kc_6 len cap b fl nx lf es rt
  refine TG_isN1 1 (XQ []) mo (by kernel_rfl) hr1 all_nil ?_
  refine TG_seq' (by kernel_rfl) ?_
  refine TG_callAt 1 (s1 := { fr := (frL [(0, w88)]).set 4 (some w88), h := hKe len cap b fl nx lf es rt [], n := 8, dfs := [] }) (f := 86) (args := [w88]) (by kernel_rfl) (by kernel_rfl) (by kernel_rfl) (by kernel_rfl) (by kernel_rfl) (by kernel_rfl) (call86g len cap b fl nx lf es rt hk (Nat.le_of_lt hl)) ?_
  rintro v h n ⟨ks, hp, rfl, rfl, rfl⟩
  rw [← sortS_eq hp]
  have hlen : ks.length < 1000000 := by rw [hp.length_eq, keysOf_len]; exact hl
  match ks, hlen with
  | [], _ =>
    rw [sortS_nil]
    refine ⟨(((frL [(0, w88)]).set 4 (some w88)).set 5 (some nilS)), sS2 (hKe len cap b fl nx lf es rt []) 8 nilS, by kernel_rfl, by kernel_rfl, ?_⟩
    show TG Tryz.prog 8 Tryz.f61.ntmps (tailN 2 cdS2) _ _
    obtain ⟨L5, hr5⟩ := kc_8 len cap b fl nx lf es rt
    refine TG_ret (XQ []) mo _ (by kernel_rfl) hr5 fun g hg _ => ?_
    rw [List.mem_singleton] at hg; subst hg
    exact ⟨fun p hp => by rw [List.mem_singleton] at hp; subst hp; decide, _, _, _, rfl, rfl, rfl, rfl⟩
  | [x], _ =>
    rw [sortS_one]
    refine ⟨(((frL [(0, w88)]).set 4 (some w88)).set 5 (some (.slc (some (8, 0)) 1 1 1))), sS2 (hKe len cap b fl nx lf es rt [(8, .cells [.str x])]) 9 (.slc (some (8, 0)) 1 1 1), by kernel_rfl, by kernel_rfl, ?_⟩
    show TG Tryz.prog 8 Tryz.f61.ntmps (tailN 2 cdS2) _ _
    obtain ⟨L5, hr5⟩ := kc_9 len cap b fl nx lf es rt x
    refine TG_ret (XQ []) mo _ (by kernel_rfl) hr5 fun g hg _ => ?_
    rw [List.mem_singleton] at hg; subst hg
    exact ⟨fun p hp => by rw [List.mem_singleton] at hp; subst hp; decide, _, _, _, rfl, rfl, rfl, rfl⟩
  | x :: y :: ks, hlen =>
    obtain ⟨z1, z2, z3⟩ := slK_big (m := 8) (ks := sortS (x :: y :: ks)) (by rw [sortS_len]; simp)
    rw [z1, z2, z3, sortS_len]
    refine ⟨(((frL [(0, w88)]).set 4 (some w88)).set 5 (some (.slc (some (8, 0)) (x :: y :: ks).length (x :: y :: ks).length 1))), sS2 (hKe len cap b fl nx lf es rt [(8, .deep (strs (x :: y :: ks)))]) 9 (.slc (some (8, 0)) (x :: y :: ks).length (x :: y :: ks).length 1), by kernel_rfl, by kernel_rfl, ?_⟩
    show TG Tryz.prog 8 Tryz.f61.ntmps (tailN 2 cdS2) _ _
    obtain ⟨L5, hr5⟩ := kc_7 len cap b fl nx lf es rt (x :: y :: ks).length (strs (x :: y :: ks)) (strs (sortS (x :: y :: ks)))
    have hc : CallIs Tryz.prog 87 [.slc (some (8, 0)) (x :: y :: ks).length (x :: y :: ks).length 1] (hKe len cap b fl nx lf es rt [(8, .deep (strs (x :: y :: ks)))]) 9 (.tup []) ((hKe len cap b fl nx lf es rt [(8, .deep (strs (x :: y :: ks)))]).set 8 (some (.deep (strs (sortS (x :: y :: ks)))))) 9 :=
      sort_callIs sorts87 (ss := x :: y :: ks) (by kernel_rfl) (Nat.le_of_ble_eq_true rfl) (Nat.succ_pos _) rfl hlen
    refine TG_ret ((XQ []).pin (Nat.le_of_ble_eq_true (by kernel_rfl)) hc) mo _ (by kernel_rfl) hr5 fun g hg _ => ?_
    rw [List.mem_singleton] at hg; subst hg
    exact ⟨fun p hp => by rw [List.mem_singleton] at hp; subst hp; exact pinEq, _, _, _, rfl, rfl, rfl, rfl⟩
theorem call23g (hk : KeyS rt) (hl : rt.length < 1000000) : CallIs Tryz.prog 23 [P3] (memS (pS len cap b fl nx lf es rt)) 7 (slK 7 (sortS (keysOf rt))) (hKf len cap b fl nx lf es rt (rowK3 7 (sortS (keysOf rt)))) (nK 7 (sortS (keysOf rt))) := by
  have h61 := call61g len cap b fl nx lf es rt hk hl
  refine callIs_of_TG Tryz.func23 (code := cdRo) (by kernel_rfl) (by kernel_rfl) ?_
  match hks : sortS (keysOf rt), h61 with
  | [], h61 =>
    obtain ⟨L5, hr5⟩ := kc_11 len cap b fl nx lf es rt
    refine TG_ret ((XQ []).pin (Nat.le_of_ble_eq_true (by kernel_rfl)) h61) mo _ (by kernel_rfl) hr5 fun g hg _ => ?_
    rw [List.mem_singleton] at hg; subst hg
    exact ⟨fun p hp => by rw [List.mem_singleton] at hp; subst hp; exact pinEq, _, _, _, rfl, rfl, rfl, rfl⟩
  | [x], h61 =>
    obtain ⟨L5, hr5⟩ := kc_12 len cap b fl nx lf es rt x
    refine TG_ret ((XQ []).pin (Nat.le_of_ble_eq_true (by kernel_rfl)) h61) mo _ (by kernel_rfl) hr5 fun g hg _ => ?_
    rw [List.mem_singleton] at hg; subst hg
    exact ⟨fun p hp => by rw [List.mem_singleton] at hp; subst hp; exact pinEq, _, _, _, rfl, rfl, rfl, rfl⟩
  | x :: y :: ks, h61 =>
    obtain ⟨L5, hr5⟩ := kc_10 len cap b fl nx lf es rt (x :: y :: ks).length (strs (x :: y :: ks))
    refine TG_ret ((XQ []).pin (Nat.le_of_ble_eq_true (by kernel_rfl)) h61) mo _ (by kernel_rfl) hr5 fun g hg _ => ?_
    rw [List.mem_singleton] at hg; subst hg
    exact ⟨fun p hp => by rw [List.mem_singleton] at hp; subst hp; exact pinEq, _, _, _, rfl, rfl, rfl, rfl⟩
end
end Go.Proofs.YtfihojpgobmmdaaGreatDoor
namespace Go.Proofs.YtfihojpgobmmdaaGreatDoor
open Go Go.Eng
def g81 : V := .fn (.func 81) [] [.ptr (some (9, 0))]
def g56 : V := .fn (.func 56) [] [.ptr (some (7, 0))]
section
variable (len cap : Nat) (b : List UInt8) (fl nx lf : Int) (es rt : List (D × D)) (ks : List (List UInt8))
def lS : List (Nat × O) := memL (pS len cap b fl nx lf es rt) ++ [(7, .cells [P3]), (8, .mapD none (snL ks)), (9, .cells [.map (some 8)])]
def lSx : List (Nat × O) := memL (pS len cap b fl nx lf es rt) ++ [(7, .cells [P3]), (9, .cells [.map (some 8)])]
def sSa : St := stG [(2, P 10), (6, g81)] (hL (lS len cap b fl nx lf es rt ks ++ [(10, .cells [nilS])])) 11
noncomputable def oSa : O := .loop true none (sSa len cap b fl nx lf es rt ks).fr [7] asAp boAp
noncomputable def hSk (sl : V) (row : List (Nat × O)) : Tr O := hL (lS len cap b fl nx lf es rt ks ++ [(10, .cells [sl]), (11, .dfr), (12, oSa len cap b fl nx lf es rt ks)] ++ row)
noncomputable def SSk (sl : V) (row : List (Nat × O)) (n : Nat) : St := stG [(0, .fn (.yield 12) [] []), (5, P 13)] (hL (lSx len cap b fl nx lf es rt ++ [(10, .cells [sl]), (11, .dfr), (12, oSa len cap b fl nx lf es rt ks)] ++ row)) n
def hSe (row : List (Nat × O)) : Tr O := hL (lS len cap b fl nx lf es rt ks ++ row)
end
theorem gs_0 (len cap : Nat) (b : List UInt8) (fl nx lf : Int) (es rt : List (D × D)) (ks : List (List UInt8)) (k : List UInt8) (v : V) : ∃ L, RunIs Tryz.prog (csQ []) [] 1000 14 Tryz.f81 [0, 5] ((mlOf cdKy).rest) (kSt (SSk len cap b fl nx lf es rt ks nilS [] 14) k v) L
    [([],
      [],
      .to .normal (SSk len cap b fl nx lf es rt ks (.slc (some (14, 0)) 1 1 1) [(14, .cells [.str k])] 15))]
  := RunIs.of (by kernel_rfl) (by kernel_rfl) (by kernel_rfl)
theorem gs_1 (len cap : Nat) (b : List UInt8) (fl nx lf : Int) (es rt : List (D × D)) (ks : List (List UInt8)) (k : List UInt8) (v : V) (n : Nat) (cs : List D) : ∃ L, RunIs Tryz.prog (csQ []) [] 1000 14 Tryz.f81 [0, 5] ((mlOf cdKy).rest) (kSt (SSk len cap b fl nx lf es rt ks (.slc (some (14, 0)) n n 1) [(14, .deep cs)] 15) k v) L
    [([],
      [(0 + n * 1 ≤ cs.length), (0 < 1), (roomy (n + 1) 1 16 = true)],
      .to .normal (stG [(0, .fn (.yield 12) [] []), (5, .ptr (some (13, 0)))] (hL (memL (pS len cap b fl nx lf es rt) ++ [(7, .cells [.ptr (some (3, 0))]), (9, .cells [.map (some 8)]), (10, .cells [.slc (some (14, 0)) (n + 1) (n + 1) 1]), (11, .dfr), (12, .loop true none (Eng.frL [(2, .ptr (some (10, 0))), (6, .fn (.func 81) [] [.ptr (some (9, 0))])]) [7] asAp boAp), (14, .deep (List.take (n * 1) (List.drop 0 cs) ++ [D.str k]))])) 15))]
  := RunIs.of (by kernel_rfl) (by kernel_rfl) (by kernel_rfl)
theorem gs_2 (len cap : Nat) (b : List UInt8) (fl nx lf : Int) (es rt : List (D × D)) (ks : List (List UInt8)) : ∃ L, RunIs Tryz.prog (csQ []) [] 1000 10 Tryz.f100 [1, 2] (headN 1 cdAp) (startSt [nilS, g81] (hSe len cap b fl nx lf es rt ks []) 10) L
    [([],
      [],
      .to .normal (stG [(1, g81), (2, P 10)] (hL (lS len cap b fl nx lf es rt ks ++ [(10, .cells [nilS])])) 11))]
  := RunIs.of (by kernel_rfl) (by kernel_rfl) (by kernel_rfl)
theorem gs_3 (len cap : Nat) (b : List UInt8) (fl nx lf : Int) (es rt : List (D × D)) (ks : List (List UInt8)) : ∃ L, RunIs Tryz.prog (csQ []) [] 1000 10 Tryz.f100 [2, 6] (seqL (seqL tlAp)) (stG [(1, g81), (2, P 10)] (hL (lS len cap b fl nx lf es rt ks ++ [(10, .cells [nilS])])) 11) L
    [([],
      [],
      .to .normal (sSa len cap b fl nx lf es rt ks))]
  := RunIs.of (by kernel_rfl) (by kernel_rfl) (by kernel_rfl)
theorem gs_4 (len cap : Nat) (b : List UInt8) (fl nx lf : Int) (es rt : List (D × D)) (ks : List (List UInt8)) (n : Nat) (cs : List D) : ∃ L, RunIs Tryz.prog (csQ []) [] 1000 10 Tryz.f100 [] (seqR tlAp) (rEnd (sSa len cap b fl nx lf es rt ks) (hSk len cap b fl nx lf es rt ks (.slc (some (13, 0)) n n 1) [(13, .deep cs)]) 14) L
    [([],
      [],
      .ret (.slc (some (10, 0)) n n 1) (hSe len cap b fl nx lf es rt ks [(10, .deep cs)]) 11)]
  := RunIs.of (by kernel_rfl) (by kernel_rfl) (by kernel_rfl)
theorem gs_5 (len cap : Nat) (b : List UInt8) (fl nx lf : Int) (es rt : List (D × D)) (ks : List (List UInt8)) : ∃ L, RunIs Tryz.prog (csQ []) [] 1000 10 Tryz.f100 [] (seqR tlAp) (rEnd (sSa len cap b fl nx lf es rt ks) (hSk len cap b fl nx lf es rt ks nilS []) 13) L
    [([],
      [],
      .ret (.slc none 0 0 0) (hSe len cap b fl nx lf es rt ks []) 10)]
  := RunIs.of (by kernel_rfl) (by kernel_rfl) (by kernel_rfl)
def sC8 (h : Tr O) (n : Nat) (v : V) : St := { fr := ((((frL [(0, g81)]).set 3 (some g81)).set 4 (some v)).set 2 (some v)), h := h, n := n, dfs := [] }
def sS8 (h : Tr O) (n : Nat) (v : V) : St := { fr := ((((frL [(0, g81), (1, g56)]).set 6 (some g81)).set 7 (some v)).set 5 (some v)), h := h, n := n, dfs := [] }
theorem gs_6 (len cap : Nat) (b : List UInt8) (fl nx lf : Int) (es rt : List (D × D)) (ks : List (List UInt8)) : ∃ L, RunIs Tryz.prog (csQ []) [] 1000 10 Tryz.f79 [0] (headN 1 cdCl) (startSt [g81] (hSe len cap b fl nx lf es rt ks []) 10) L
    [([],
      [],
      .to .normal (stG [(0, g81)] (hSe len cap b fl nx lf es rt ks []) 10))]
  := RunIs.of (by kernel_rfl) (by kernel_rfl) (by kernel_rfl)
theorem gs_7 (len cap : Nat) (b : List UInt8) (fl nx lf : Int) (es rt : List (D × D)) (ks : List (List UInt8)) (n : Nat) (cs : List D) : ∃ L, RunIs Tryz.prog (csQ []) [] 1000 10 Tryz.f79 [] (seqR (tailN 1 cdCl)) (sC8 (hSe len cap b fl nx lf es rt ks [(10, .deep cs)]) 11 (.slc (some (10, 0)) n n 1)) L
    [([],
      [],
      .ret (.slc (some (10, 0)) n n 1) (hSe len cap b fl nx lf es rt ks [(10, .deep cs)]) 11)]
  := RunIs.of (by kernel_rfl) (by kernel_rfl) (by kernel_rfl)
theorem gs_8 (len cap : Nat) (b : List UInt8) (fl nx lf : Int) (es rt : List (D × D)) (ks : List (List UInt8)) : ∃ L, RunIs Tryz.prog (csQ []) [] 1000 10 Tryz.f79 [] (seqR (tailN 1 cdCl)) (sC8 (hSe len cap b fl nx lf es rt ks []) 10 nilS) L
    [([],
      [],
      .ret (.slc none 0 0 0) (hSe len cap b fl nx lf es rt ks []) 10)]
  := RunIs.of (by kernel_rfl) (by kernel_rfl) (by kernel_rfl)
theorem gs_9 (len cap : Nat) (b : List UInt8) (fl nx lf : Int) (es rt : List (D × D)) (ks : List (List UInt8)) : ∃ L, RunIs Tryz.prog (csQ []) [] 1000 10 Tryz.f54 [0, 1] (headN 1 cdSo) (startSt [g81, g56] (hSe len cap b fl nx lf es rt ks []) 10) L
    [([],
      [],
      .to .normal (stG [(0, g81), (1, g56)] (hSe len cap b fl nx lf es rt ks []) 10))]
  := RunIs.of (by kernel_rfl) (by kernel_rfl) (by kernel_rfl)
theorem gs_10 (len cap : Nat) (b : List UInt8) (fl nx lf : Int) (es rt : List (D × D)) (ks : List (List UInt8)) (n : Nat) (cs cs2 : List D) : ∃ L, RunIs Tryz.prog (pinS (csQ []) 80 [.slc (some (10, 0)) n n 1, g56] (hSe len cap b fl nx lf es rt ks [(10, .deep cs)]) 11 (.tup [], (hSe len cap b fl nx lf es rt ks [(10, .deep cs)]).set 10 (some (.deep cs2)), 11)) [] 1000 10 Tryz.f54 [] (tailN 2 cdSo) (sS8 (hSe len cap b fl nx lf es rt ks [(10, .deep cs)]) 11 (.slc (some (10, 0)) n n 1)) L
    [([],
      [([V.slc (some (10, 0)) n n 1, g56] = [V.slc (some (10, 0)) n n 1, g56] ∧ hSe len cap b fl nx lf es rt ks [(10, .deep cs)] = hSe len cap b fl nx lf es rt ks [(10, .deep cs)] ∧ 11 = 11)],
      .ret (.slc (some (10, 0)) n n 1) (hSe len cap b fl nx lf es rt ks [(10, .deep cs2)]) 11)]
  := RunIs.of (by kernel_rfl) (by kernel_rfl) (by kernel_rfl)
theorem gs_11 (len cap : Nat) (b : List UInt8) (fl nx lf : Int) (es rt : List (D × D)) (ks : List (List UInt8)) : ∃ L, RunIs Tryz.prog (csQ []) [] 1000 10 Tryz.f54 [] (tailN 2 cdSo) (sS8 (hSe len cap b fl nx lf es rt ks []) 10 nilS) L
    [([],
      [((0 : Int) ≤ (0 : Int) ∧ 0 < 256)],
      .ret (.slc none 0 0 0) (hSe len cap b fl nx lf es rt ks []) 10)]
  := RunIs.of (by kernel_rfl) (by kernel_rfl) (by kernel_rfl)
end Go.Proofs.YtfihojpgobmmdaaGreatDoor
namespace Go.Proofs.YtfihojpgobmmdaaGreatDoor
open Go Go.Eng
def rowD (m : Nat) : List (List UInt8) → List (Nat × O)
  | [] => []
  | ks => [(m, .deep (strs ks))]
theorem snL_keys (ks : List (List UInt8)) : keysOf (snL ks) = ks := by
  unfold keysOf snL
  rw [List.map_map]
  exact List.map_id'' (fun _ => rfl) ks
section
variable (len cap : Nat) (b : List UInt8) (fl nx lf : Int) (es rt : List (D × D)) (ks : List (List UInt8))
def JSk (vis : List (D × D)) (s1 : St) : Prop := KeyS vis ∧ Ref 14 Tryz.f81.ntmps s1 (SSk len cap b fl nx lf es rt ks (slK 14 (keysOf vis)) (rowD 14 (keysOf vis)) (nK 14 (keysOf vis)))
abbrev RSk (v : V) (h : Tr O) (n : Nat) : Prop := ∃ ls, List.Perm ls ks ∧ v = .tup [] ∧ h = hSk len cap b fl nx lf es rt ks (slK 13 ls) (rowD 13 ls) ∧ n = nK 13 ls
set_option maxRecDepth 20000 in
theorem call81g (hl : ks.length ≤ 1000000) : CallsOne Tryz.prog 81 [.fn (.yield 12) [] [], P 9] (hSk len cap b fl nx lf es rt ks nilS []) 13 (RSk len cap b fl nx lf es rt ks) := by
  refine callsOne_of_TG mo po Tryz.func81 (code := cdKy) (by kernel_rfl) (by kernel_rfl) ?_
  rw [ml81]
  have hl2 : (snL ks).length = ks.length := by unfold snL; rw [List.length_map]
  refine TG_mapsR (v0 := .map (some 8)) (fr0 := (startSt [.fn (.yield 12) [] [], P 9] (hSk len cap b fl nx lf es rt ks nilS []) 13).fr.set 4 (some (.map (some 8)))) (fr1 := ((startSt [.fn (.yield 12) [] [], P 9] (hSk len cap b fl nx lf es rt ks nilS []) 13).fr.set 4 (some (.map (some 8)))).set 5 (some (P 13))) (m := 8) (kd := none) (es := snL ks) mo ml81_ok
    (by kernel_rfl) (by kernel_rfl) (by kernel_rfl) (by kernel_rfl) (Nat.le_of_ble_eq_true rfl) (by kernel_rfl) (JSk len cap b fl nx lf es rt ks) ⟨(fun _ h => by cases h), .norm (L := [0, 5]) (by kernel_rfl)⟩ ?_
  rintro vis left s1 ⟨hv, hs⟩ hp
  have hlen : vis.length ≤ 1000000 := by
    have := hp.length_eq
    rw [List.length_append] at this; omega
  have hmem : ∀ e left', List.Perm left (e :: left') → ∃ k, e = (.str k, .bool true) := fun e left' he => by
    obtain ⟨k, _, h⟩ := List.mem_map.1 (hp.mem_iff.1 (List.mem_append_right _ (he.mem_iff.2 (List.mem_cons_self ..))))
    exact ⟨k, h.symm⟩
  have hfin : left = [] → List.Perm (keysOf vis) ks := fun h => by
    subst h
    rw [List.append_nil] at hp
    have := keysOf_perm hp
    rwa [snL_keys] at this
  have hnext : ∀ k, keysOf (vis ++ [(.str k, .bool true)]) = keysOf vis ++ [k] := fun k => by unfold keysOf; rw [List.map_append]; rfl
  have hkv : ∀ k, KeyS (vis ++ [(.str k, .bool true)]) := fun k z hz => by
    rcases List.mem_append.1 hz with hz | hz
    · exact hv z hz
    · rw [List.mem_singleton] at hz; subst hz; exact ⟨k, rfl⟩
  have hkl : (keysOf vis).length ≤ 1000000 := by rw [keysOf_len]; exact hlen
  have hJ : ∀ k s', Ref 14 Tryz.f81.ntmps s' (SSk len cap b fl nx lf es rt ks (slK 14 (keysOf vis ++ [k])) (rowD 14 (keysOf vis ++ [k])) (nK 14 (keysOf vis ++ [k]))) → JSk len cap b fl nx lf es rt ks (vis ++ [(.str k, .bool true)]) s' := fun k s' h => ⟨hkv k, by rw [hnext]; exact h⟩
  generalize keysOf vis = ls at *
  cases ls with
  | nil =>
    refine ⟨_, hs, by kernel_rfl, fun h0 => ?_, fun e left' he => ?_⟩
    · refine ⟨(SSk len cap b fl nx lf es rt ks nilS [] 14).fr.set 6 (some (.tup [.bool false])), { SSk len cap b fl nx lf es rt ks nilS [] 14 with fr := ((SSk len cap b fl nx lf es rt ks nilS [] 14).fr.set 6 (some (.tup [.bool false]))).set 7 (some (.bool false)) }, by kernel_rfl, by kernel_rfl, by kernel_rfl, .inl rfl, .tup [], hSk len cap b fl nx lf es rt ks nilS [], 13, by kernel_rfl, [], hfin h0, rfl, rfl, rfl⟩
    · obtain ⟨k, rfl⟩ := hmem e left' he
      refine ⟨(SSk len cap b fl nx lf es rt ks nilS [] 14).fr.set 6 (some (.tup [.bool true, .str k, .bool true])), { SSk len cap b fl nx lf es rt ks nilS [] 14 with fr := ((SSk len cap b fl nx lf es rt ks nilS [] 14).fr.set 6 (some (.tup [.bool true, .str k, .bool true]))).set 7 (some (.bool true)) },
        (((SSk len cap b fl nx lf es rt ks nilS [] 14).fr.set 6 (some (.tup [.bool true, .str k, .bool true]))).set 7 (some (.bool true))).set 8 (some (.tup [.str k, .bool true])), kSt (SSk len cap b fl nx lf es rt ks nilS [] 14) k (.bool true), by kernel_rfl, by kernel_rfl, by kernel_rfl, by kernel_rfl, by kernel_rfl, by kernel_rfl, by kernel_rfl, by kernel_rfl, ?_⟩
      obtain ⟨L, hr⟩ := gs_0 len cap b fl nx lf es rt ks k (.bool true)
      refine TG_is (XQ []) mo anyR (by kernel_rfl) hr fun g hg _ => ?_
      rw [List.mem_singleton] at hg; subst hg
      exact ⟨all_nil, fun s' hs' => hJ k s' ((Ref.norm hs').trans (.deep [14] (by kernel_rfl)))⟩
  | cons y ys =>
    have h1 : ∀ m, rowD m (y :: ys) = [(m, .deep (strs (y :: ys)))] ∧ slK m (y :: ys) = .slc (some (m, 0)) (y :: ys).length (y :: ys).length 1 ∧ nK m (y :: ys) = m + 1 := fun m => ⟨rfl, rfl, rfl⟩
    have h2 : ∀ m k, rowD m (y :: ys ++ [k]) = [(m, .deep (strs (y :: ys ++ [k])))] ∧ slK m (y :: ys ++ [k]) = .slc (some (m, 0)) (y :: ys ++ [k]).length (y :: ys ++ [k]).length 1 ∧ nK m (y :: ys ++ [k]) = m + 1 := fun m k => ⟨rfl, rfl, rfl⟩
    have h3 : 0 < (y :: ys).length := Nat.succ_pos _
    generalize y :: ys = ls at *
    rw [(h1 14).1, (h1 14).2.1, (h1 14).2.2] at hs
    refine ⟨_, hs, by kernel_rfl, fun h0 => ?_, fun e left' he => ?_⟩
    · refine ⟨(SSk len cap b fl nx lf es rt ks (.slc (some (14, 0)) ls.length ls.length 1) [(14, .deep (strs ls))] 15).fr.set 6 (some (.tup [.bool false])), { SSk len cap b fl nx lf es rt ks (.slc (some (14, 0)) ls.length ls.length 1) [(14, .deep (strs ls))] 15 with fr := ((SSk len cap b fl nx lf es rt ks (.slc (some (14, 0)) ls.length ls.length 1) [(14, .deep (strs ls))] 15).fr.set 6 (some (.tup [.bool false]))).set 7 (some (.bool false)) }, by kernel_rfl, by kernel_rfl, by kernel_rfl, .inl rfl, .tup [], hSk len cap b fl nx lf es rt ks (.slc (some (13, 0)) ls.length ls.length 1) [(13, .deep (strs ls))], 14, by kernel_rfl, ls, hfin h0, rfl, ?_, ?_⟩
      · rw [(h1 13).1, (h1 13).2.1]
      · rw [(h1 13).2.2]
    · obtain ⟨k, rfl⟩ := hmem e left' he
      refine ⟨(SSk len cap b fl nx lf es rt ks (.slc (some (14, 0)) ls.length ls.length 1) [(14, .deep (strs ls))] 15).fr.set 6 (some (.tup [.bool true, .str k, .bool true])), { SSk len cap b fl nx lf es rt ks (.slc (some (14, 0)) ls.length ls.length 1) [(14, .deep (strs ls))] 15 with fr := ((SSk len cap b fl nx lf es rt ks (.slc (some (14, 0)) ls.length ls.length 1) [(14, .deep (strs ls))] 15).fr.set 6 (some (.tup [.bool true, .str k, .bool true]))).set 7 (some (.bool true)) },
        (((SSk len cap b fl nx lf es rt ks (.slc (some (14, 0)) ls.length ls.length 1) [(14, .deep (strs ls))] 15).fr.set 6 (some (.tup [.bool true, .str k, .bool true]))).set 7 (some (.bool true))).set 8 (some (.tup [.str k, .bool true])), kSt (SSk len cap b fl nx lf es rt ks (.slc (some (14, 0)) ls.length ls.length 1) [(14, .deep (strs ls))] 15) k (.bool true), by kernel_rfl, by kernel_rfl, by kernel_rfl, by kernel_rfl, by kernel_rfl, by kernel_rfl, by kernel_rfl, by kernel_rfl, ?_⟩
      obtain ⟨L, hr⟩ := gs_1 len cap b fl nx lf es rt ks k (.bool true) ls.length (strs ls)
      refine TG_is (XQ []) mo anyR (by kernel_rfl) hr fun g hg _ => ?_
      rw [List.mem_singleton] at hg; subst hg
      refine ⟨fm (by rw [strs_len]; omega) (fm (by decide) (fm1 (roomy16 (by omega)))), fun s' hs' => hJ k s' ?_⟩
      have e : List.take (ls.length * 1) (List.drop 0 (strs ls)) ++ [D.str k] = strs (ls ++ [k]) := by
        rw [List.drop_zero, Nat.mul_one, List.take_of_length_le (by rw [strs_len]; omega)]
        unfold strs; rw [List.map_append]; rfl
      rw [e] at hs'
      rw [(h2 14 k).1, (h2 14 k).2.1, (h2 14 k).2.2, List.length_append]
      exact .norm hs'
abbrev RSe (v : V) (h : Tr O) (n : Nat) : Prop := ∃ ls, List.Perm ls ks ∧ v = slK 10 ls ∧ h = hSe len cap b fl nx lf es rt ks (rowD 10 ls) ∧ n = nK 10 ls
theorem call100g (hl : ks.length ≤ 1000000) : CallsOne Tryz.prog 100 [nilS, g81] (hSe len cap b fl nx lf es rt ks []) 10 (RSe len cap b fl nx lf es rt ks) := by
  refine callsOne_of_TG mo po Tryz.func100 (code := cdAp) (by kernel_rfl) (by kernel_rfl) ?_
  obtain ⟨L1, hr1⟩ := gs_2 len cap b fl nx lf es rt ks
  refine TG_isN1 1 (XQ []) mo (by kernel_rfl) hr1 all_nil ?_
  refine TG_seq' (by kernel_rfl) ?_
  refine TG_seq' (by kernel_rfl) ?_
  obtain ⟨L2, hr2⟩ := gs_3 len cap b fl nx lf es rt ks
  refine TG_is (XQ []) mo anyR (by kernel_rfl) hr2 fun g hg _ => ?_
  rw [List.mem_singleton] at hg; subst hg
  refine ⟨all_nil, fun s' hs' => TG_norm hs' ?_⟩
  refine TG_block (i := 0) (by kernel_rfl) ?_
  refine TG_rangeN (gf := 81) (lb := [P 9]) (by kernel_rfl) (by kernel_rfl) (by kernel_rfl) (by kernel_rfl) (by kernel_rfl) (call81g len cap b fl nx lf es rt ks hl) ?_
  rintro v h n ⟨ls, hp, rfl, rfl, rfl⟩
  cases ls with
  | nil =>
    refine ⟨by kernel_rfl, ?_⟩
    obtain ⟨L5, hr5⟩ := gs_5 len cap b fl nx lf es rt ks
    refine TG_ret (XQ []) mo _ (by kernel_rfl) hr5 fun g hg _ => ?_
    rw [List.mem_singleton] at hg; subst hg
    exact ⟨all_nil, _, _, _, rfl, [], hp, rfl, rfl, rfl⟩
  | cons x xs =>
    refine ⟨by kernel_rfl, ?_⟩
    obtain ⟨L5, hr5⟩ := gs_4 len cap b fl nx lf es rt ks (x :: xs).length (strs (x :: xs))
    refine TG_ret (XQ []) mo _ (by kernel_rfl) hr5 fun g hg _ => ?_
    rw [List.mem_singleton] at hg; subst hg
    exact ⟨all_nil, _, _, _, rfl, x :: xs, hp, rfl, rfl, rfl⟩
theorem call79g (hl : ks.length ≤ 1000000) : CallsOne Tryz.prog 79 [g81] (hSe len cap b fl nx lf es rt ks []) 10 (RSe len cap b fl nx lf es rt ks) := by
  refine callsOne_of_TG mo po Tryz.func79 (code := cdCl) (by kernel_rfl) (by kernel_rfl) ?_
  obtain ⟨L1, hr1⟩ := gs_6 len cap b fl nx lf es rt ks
  refine TG_isN1 1 (XQ []) mo (by kernel_rfl) hr1 all_nil ?_
  refine TG_seq' (by kernel_rfl) ?_
  refine TG_callAt 1 (s1 := { fr := (frL [(0, g81)]).set 3 (some g81), h := hSe len cap b fl nx lf es rt ks [], n := 10, dfs := [] }) (f := 100) (args := [nilS, g81]) (by kernel_rfl) (by kernel_rfl) (by kernel_rfl) (by kernel_rfl) (by kernel_rfl) (by kernel_rfl) (call100g len cap b fl nx lf es rt ks hl) ?_
  rintro v h n ⟨ls, hp, rfl, rfl, rfl⟩
  cases ls with
  | nil =>
    refine ⟨(((frL [(0, g81)]).set 3 (some g81)).set 4 (some nilS)), sC8 (hSe len cap b fl nx lf es rt ks []) 10 nilS, by kernel_rfl, by kernel_rfl, ?_⟩
    obtain ⟨L5, hr5⟩ := gs_8 len cap b fl nx lf es rt ks
    refine TG_ret (XQ []) mo _ (by kernel_rfl) hr5 fun g hg _ => ?_
    rw [List.mem_singleton] at hg; subst hg
    exact ⟨all_nil, _, _, _, rfl, [], hp, rfl, rfl, rfl⟩
  | cons x xs =>
    refine ⟨(((frL [(0, g81)]).set 3 (some g81)).set 4 (some (.slc (some (10, 0)) (x :: xs).length (x :: xs).length 1))), sC8 (hSe len cap b fl nx lf es rt ks [(10, .deep (strs (x :: xs)))]) 11 (.slc (some (10, 0)) (x :: xs).length (x :: xs).length 1), by kernel_rfl, by kernel_rfl, ?_⟩
    obtain ⟨L5, hr5⟩ := gs_7 len cap b fl nx lf es rt ks (x :: xs).length (strs (x :: xs))
    refine TG_ret (XQ []) mo _ (by kernel_rfl) hr5 fun g hg _ => ?_
    rw [List.mem_singleton] at hg; subst hg
    exact ⟨all_nil, _, _, _, rfl, x :: xs, hp, rfl, rfl, rfl⟩
theorem call54g (zs : List (List UInt8)) (hl : ks.length < 1000000) (hent : Ent es) (hn : ∀ x, 0 ≤ numD es x ∧ numD es x < 1000000000) (hz : List.Perm zs ks) (hs : zs.Pairwise fun a b => numD es a < numD es b) :
    CallIs Tryz.prog 54 [g81, g56] (hSe len cap b fl nx lf es rt ks []) 10 (slK 10 zs) (hSe len cap b fl nx lf es rt ks (rowD 10 zs)) (nK 10 zs) := by
  refine callIs_of_TG Tryz.func54 (code := cdSo) (by kernel_rfl) (by kernel_rfl) ?_
  obtain ⟨L1, hr1⟩ := gs_9 len cap b fl nx lf es rt ks
  refine TG_isN1 1 (XQ []) mo (by kernel_rfl) hr1 all_nil ?_
  refine TG_seq' (by kernel_rfl) ?_
  refine TG_callAt 1 (s1 := { fr := (frL [(0, g81), (1, g56)]).set 6 (some g81), h := hSe len cap b fl nx lf es rt ks [], n := 10, dfs := [] }) (f := 79) (args := [g81]) (by kernel_rfl) (by kernel_rfl) (by kernel_rfl) (by kernel_rfl) (by kernel_rfl) (by kernel_rfl) (call79g len cap b fl nx lf es rt ks (Nat.le_of_lt hl)) ?_
  rintro v h n ⟨ls, hp, rfl, rfl, rfl⟩
  have hzl : List.Perm zs ls := hz.trans hp.symm
  have hlen : ls.length < 1000000 := by rw [hp.length_eq]; exact hl
  cases ls with
  | nil =>
    have : zs = [] := hzl.eq_nil
    subst this
    refine ⟨(((frL [(0, g81), (1, g56)]).set 6 (some g81)).set 7 (some nilS)), sS8 (hSe len cap b fl nx lf es rt ks []) 10 nilS, by kernel_rfl, by kernel_rfl, ?_⟩
    obtain ⟨L5, hr5⟩ := gs_11 len cap b fl nx lf es rt ks
    refine TG_ret (XQ []) mo _ (by kernel_rfl) hr5 fun g hg _ => ?_
    rw [List.mem_singleton] at hg; subst hg
    exact ⟨fm1 ⟨by decide, by decide⟩, _, _, _, rfl, rfl, rfl, rfl⟩
  | cons x xs =>
    have hzn : zs.length = (x :: xs).length := hzl.length_eq
    have h1 : slK 10 zs = .slc (some (10, 0)) zs.length zs.length 1 ∧ rowD 10 zs = [(10, .deep (strs zs))] ∧ nK 10 zs = 11 := by
      cases zs with
      | nil => cases hzn
      | cons z zs => exact ⟨rfl, rfl, rfl⟩
    rw [h1.1, h1.2.1, h1.2.2, hzn]
    refine ⟨(((frL [(0, g81), (1, g56)]).set 6 (some g81)).set 7 (some (.slc (some (10, 0)) (x :: xs).length (x :: xs).length 1))), sS8 (hSe len cap b fl nx lf es rt ks [(10, .deep (strs (x :: xs)))]) 11 (.slc (some (10, 0)) (x :: xs).length (x :: xs).length 1), by kernel_rfl, by kernel_rfl, ?_⟩
    obtain ⟨L5, hr5⟩ := gs_10 len cap b fl nx lf es rt ks (x :: xs).length (strs (x :: xs)) (strs zs)
    have hc : CallIs Tryz.prog 80 [.slc (some (10, 0)) (x :: xs).length (x :: xs).length 1, g56] (hSe len cap b fl nx lf es rt ks [(10, .deep (strs (x :: xs)))]) 11 (.tup []) ((hSe len cap b fl nx lf es rt ks [(10, .deep (strs (x :: xs)))]).set 10 (some (.deep (strs zs)))) 11 :=
      call80 (bx := 7) (st := 3) (c := 5) (cs := stoC 4 5 6 (pS len cap b fl nx lf es rt)) (x :: xs) zs (by kernel_rfl) (by decide) (by kernel_rfl) (by kernel_rfl) rfl (by kernel_rfl) hent hn (Nat.succ_pos _) hlen hzl hs (by decide) (by decide) (by decide)
    refine TG_ret ((XQ []).pin (Nat.le_of_ble_eq_true (by kernel_rfl)) hc) mo _ (by kernel_rfl) hr5 fun g hg _ => ?_
    rw [List.mem_singleton] at hg; subst hg
    exact ⟨fm1 ⟨rfl, rfl, rfl⟩, _, _, _, rfl, rfl, rfl, rfl⟩
end
end Go.Proofs.YtfihojpgobmmdaaGreatDoor
namespace Go.Proofs.YtfihojpgobmmdaaGreatDoor
open Go Go.Eng
noncomputable abbrev hd4 : Code := headN 4 cdCo
noncomputable abbrev tl4 : Code := tailN 4 cdCo
noncomputable abbrev tl5 : Code := tailN 5 cdCo
section
variable (len cap : Nat) (b : List UInt8) (fl nx lf : Int) (es rt : List (D × D)) (ks : List (List UInt8))
def lH1 : List (Nat × O) := lC len cap b fl nx lf es rt
def lH2 : List (Nat × O) := lC len cap b fl nx lf es rt ++ [(20, .mapD none (snL ks))]
def lH3 (row : List (Nat × O)) : List (Nat × O) := lC len cap b fl nx lf es rt ++ [(20, .mapD none (snL ks)), (21, .cells [.map (some 20)])] ++ row
end
theorem ha_2 (len cap : Nat) (b : List UInt8) (fl nx lf : Int) (es rt : List (D × D)) (ks : List (List UInt8)) : ∃ L, RunIs Tryz.prog (pinS (pinS (csQ []) 51 [P3, v78] (hL (lH1 len cap b fl nx lf es rt)) 20 (.map (some 20), hL (lH2 len cap b fl nx lf es rt ks), 21)) 54 [v81, v56] (hL (lH3 len cap b fl nx lf es rt ks [])) 22 (nilS, hL (lH3 len cap b fl nx lf es rt ks []), 22)) [] 1000 7 Tryz.f19 [1, 3, 4] (hd4) (startSt [P3] (memS (pS len cap b fl nx lf es rt)) 7) L
    [([],
      [(([.ptr (some (3, 0)), .fn (.func 78) [] [.ptr (some (19, 0))]] : List V) = [.ptr (some (3, 0)), .fn (.func 78) [] [.ptr (some (19, 0))]] ∧ (hL (memL (pS len cap b fl nx lf es rt) ++ [(7, .cells [.ptr (some (3, 0))]), (19, .cells [.map (some 6)])])) = (hL (memL (pS len cap b fl nx lf es rt) ++ [(7, .cells [.ptr (some (3, 0))]), (19, .cells [.map (some 6)])])) ∧ 20 = 20), (([.fn (.func 81) [] [.ptr (some (21, 0))], .fn (.func 56) [] [.ptr (some (7, 0))]] : List V) = [.fn (.func 81) [] [.ptr (some (21, 0))], .fn (.func 56) [] [.ptr (some (7, 0))]] ∧ (hL (memL (pS len cap b fl nx lf es rt) ++ [(7, .cells [.ptr (some (3, 0))]), (19, .cells [.map (some 6)]), (20, .mapD none (snL ks)), (21, .cells [.map (some 20)])])) = (hL (memL (pS len cap b fl nx lf es rt) ++ [(7, .cells [.ptr (some (3, 0))]), (19, .cells [.map (some 6)]), (20, .mapD none (snL ks)), (21, .cells [.map (some 20)])])) ∧ 22 = 22)],
      .to .normal (stG [(1, .ptr (some (7, 0))), (3, .slc none 0 0 0), (4, .slc none 0 0 0)] (hL (memL (pS len cap b fl nx lf es rt) ++ [(7, .cells [.ptr (some (3, 0))])])) 8))]
  := RunIs.of (by kernel_rfl) (by kernel_rfl) (by kernel_rfl)
section
variable (len cap : Nat) (b : List UInt8) (fl nx lf : Int) (es rt : List (D × D)) (zs : List (List UInt8)) (i : Nat) (bs : List UInt8)
def sHn : St := stG [(1, P 7), (4, nilS)] (hL (memL (pS len cap b fl nx lf es rt) ++ [(7, .cells [P3])])) 8
end
theorem ha_7 (len cap : Nat) (b : List UInt8) (fl nx lf : Int) (es rt : List (D × D)) : ∃ L, RunIs Tryz.prog (csQ []) [] 1000 7 Tryz.f19 [1, 4] (seqL tl4) (stG [(1, P 7), (3, nilS), (4, nilS)] (hL (memL (pS len cap b fl nx lf es rt) ++ [(7, .cells [P3])])) 8) L
    [([],
      [],
      .to .normal (sHn len cap b fl nx lf es rt))]
  := RunIs.of (by kernel_rfl) (by kernel_rfl) (by kernel_rfl)
section
variable (len cap : Nat) (b : List UInt8) (fl nx lf : Int) (es rt : List (D × D)) (zs : List (List UInt8)) (i : Nat) (bs : List UInt8)
end
section
variable (b : List UInt8) (nx lf : Int) (es rt : List (D × D)) (bs : List UInt8)
def l3e : List (Nat × O) := [(0, .ints .u32 gS), (1, .ints .u32 gR), (3, .cells [nilS, .int .i64 0, .map (some 5), .map (some 6), .int .i64 nx, .bool false, .bool false, .int .i64 lf]), (4, .buf 5 false b), (5, .mapD none es), (6, .mapD none []), (7, .cells [P3])]
def l3f (m : Nat) (c : List (Nat × O)) : List (Nat × O) := [(0, .ints .u32 gS), (1, .ints .u32 gR), (3, .cells [nilS, .int .i64 0, .map (some m), .map (some (m + 1)), .int .i64 0, .bool false, .bool false, .int .i64 lf]), (4, .buf 5 false b), (5, .mapD none es), (6, .mapD none [])] ++ c ++ [(m, .mapD none []), (m + 1, .mapD none [])]
end
theorem ha_12 (len cap : Nat) (b : List UInt8) (fl nx lf : Int) (es : List (D × D)) : ∃ L, RunIs Tryz.prog (pinS csT 23 [P3] (hL (memL (pS len cap b fl nx lf es []) ++ [(7, .cells [P3])])) 8 (nilS, hL (memL (pS len cap b fl nx lf es []) ++ [(7, .cells [P3])]), 8)) [] 1000 7 Tryz.f19 [1, 4] (seqL tl5) (sHn len cap b fl nx lf es []) L
    [([],
      [(([.ptr (some (3, 0))] : List V) = [.ptr (some (3, 0))] ∧ (hL (memL (pS len cap b fl nx lf es []) ++ [(7, .cells [.ptr (some (3, 0))])])) = (hL (memL (pS len cap b fl nx lf es []) ++ [(7, .cells [.ptr (some (3, 0))])])) ∧ 8 = 8)],
      .to .normal (stG [(1, .ptr (some (7, 0))), (4, .slc none 0 0 0)] (hL (memL (pS len cap b fl nx lf es []) ++ [(7, .cells [.ptr (some (3, 0))])])) 8))]
  := RunIs.of (by kernel_rfl) (by kernel_rfl) (by kernel_rfl)
theorem ha_13 (len cap : Nat) (b : List UInt8) (fl nx lf : Int) (es : List (D × D)) : ∃ L, RunIs Tryz.prog csT [] 1000 7 Tryz.f19 [1] (headN 3 (seqR tl5)) (sHn len cap b fl nx lf es []) L
    [([],
      [],
      .to .normal (stG [(1, .ptr (some (7, 0)))] (hL (l3e b nx lf es)) 8))]
  := RunIs.of (by kernel_rfl) (by kernel_rfl) (by kernel_rfl)
theorem ha_15 (b : List UInt8) (nx lf : Int) (es : List (D × D)) : ∃ L, RunIs Tryz.prog (pinS csT 57 [P3] (hL (l3e b nx lf es)) 8 (.tup [], hL (l3f b lf es 8 [(7, .cells [P3])]), 10)) [] 1000 7 Tryz.f19 [] (tailN 3 (seqR tl5)) (stG [(1, .ptr (some (7, 0)))] (hL (l3e b nx lf es)) 8) L
    [([],
      [(([.ptr (some (3, 0))] : List V) = [.ptr (some (3, 0))] ∧ (hL [(0, .ints .u32 gS), (1, .ints .u32 gR), (3, .cells [.slc none 0 0 0, .int .i64 0, .map (some 5), .map (some 6), .int .i64 nx, .bool false, .bool false, .int .i64 lf]), (4, .buf 5 false b), (5, .mapD none es), (6, .mapD none []), (7, .cells [.ptr (some (3, 0))])]) = (hL [(0, .ints .u32 gS), (1, .ints .u32 gR), (3, .cells [.slc none 0 0 0, .int .i64 0, .map (some 5), .map (some 6), .int .i64 nx, .bool false, .bool false, .int .i64 lf]), (4, .buf 5 false b), (5, .mapD none es), (6, .mapD none []), (7, .cells [.ptr (some (3, 0))])]) ∧ 8 = 8)],
      .ret (.int .i64 0) (hL (l3f b lf es 7 [])) 9)]
  := RunIs.of (by kernel_rfl) (by kernel_rfl) (by kernel_rfl)
end Go.Proofs.YtfihojpgobmmdaaGreatDoor
namespace Go.Proofs.YtfihojpgobmmdaaGreatDoor
open Go Go.Eng
def pickL (ns : List (Option Nat)) (l : List (Nat × O)) : List (Nat × O) → List (Option O) := List.map fun q => match ns.getD q.1 none with
  | some m => match (hL l).get m with
    | some o => o.rn (mu ns)
    | none => none
  | none => none
theorem pick_hL {ns : List (Option Nat)} {l l1 : List (Nat × O)} (ht : (l1.all fun q => Nat.blt q.1 top) = true) (hg : (gtab.all fun p => decide (ns.getD p.2 none = some p.2)) = true) (hn : nodupN ns = true)
    (hv : (ns.all fun x => match x with | none => true | some m => (gtab.any fun p => decide (p.2 = m)) || ((hL l).get m).isSome) = true) (he : pickL ns l l1 = l1.map fun q => some q.2) : PickOk ns (hL l) (hL l1) := by
  refine pick_list (fun p hp => Nat.le_of_ble_eq_true (List.all_eq_true.1 ht p hp)) (fun p hp => of_decide_eq_true (List.all_eq_true.1 hg p hp)) hn (fun j m hj => ?_) fun p hp => ?_
  · have hm : some m ∈ ns := by
      rw [List.getD_eq_getElem?_getD] at hj
      cases hx : ns[j]? with
      | none => rw [hx] at hj; cases hj
      | some x => rw [hx] at hj; simp only [Option.getD_some] at hj; subst hj; exact List.mem_of_getElem? hx
    have := List.all_eq_true.1 hv _ hm
    simp only [Bool.or_eq_true, List.any_eq_true] at this
    rcases this with ⟨p, hp, hpm⟩ | h
    · exact .inl ⟨p, hp, of_decide_eq_true hpm⟩
    · exact .inr (Option.isSome_iff_ne_none.1 h)
  · have : (match ns.getD p.1 none with
      | some m => match (hL l).get m with
        | some o => o.rn (mu ns)
        | none => none
      | none => none) = some p.2 := List.map_inj_left.1 he p hp
    split at this
    · rename_i m hm
      split at this
      · rename_i o ho
        exact ⟨m, o, hm, ho, this⟩
      · cases this
    · cases this
section
variable (len cap : Nat) (b : List UInt8) (fl nx lf : Int) (es rt : List (D × D))
def ns51 : List (Option Nat) := [some 0, some 1, some 2, some 3, some 4, some 5, some 6, some 19]
def ns54 : List (Option Nat) := [some 0, some 1, some 2, some 3, some 4, some 5, some 6, some 7, some 20, some 21]
theorem c51 (k : Nat) (hrt : RtS rt) (he : ∀ d ∈ valsOf rt, Ends es k d) : CallIs Tryz.prog 51 [P3, v78] (hL (lH1 len cap b fl nx lf es rt)) 20 (.map (some 20)) (hL (lH2 len cap b fl nx lf es rt (canK es rt k))) 21 := by
  have hc := call51x len cap b fl nx lf es rt k hrt he
  generalize canK es rt k = ks at hc ⊢
  refine own_callIs (ns := ns51) (pick_hL (by kernel_rfl) (by kernel_rfl) (by kernel_rfl) (by kernel_rfl) (by kernel_rfl)) (by kernel_rfl) (by kernel_rfl) hc
theorem c54 (ks zs : List (List UInt8)) (hl : ks.length < 1000000) (hent : Ent es) (hn : ∀ x, 0 ≤ numD es x ∧ numD es x < 1000000000) (hz : List.Perm zs ks) (hs : zs.Pairwise fun a b => numD es a < numD es b) :
    CallIs Tryz.prog 54 [v81, v56] (hL (lH3 len cap b fl nx lf es rt ks [])) 22 (slK 22 zs) (hL (lH3 len cap b fl nx lf es rt ks (rowD 22 zs))) (nK 22 zs) := by
  have hc := call54g len cap b fl nx lf es rt ks zs hl hent hn hz hs
  cases zs with
  | nil => exact own_callIs (ns := ns54) (pick_hL (by kernel_rfl) (by kernel_rfl) (by kernel_rfl) (by kernel_rfl) (by kernel_rfl)) (by kernel_rfl) (by kernel_rfl) hc
  | cons z zs => exact own_callIs (ns := ns54) (pick_hL (by kernel_rfl) (by kernel_rfl) (by kernel_rfl) (by kernel_rfl) (by kernel_rfl)) (by kernel_rfl) (by kernel_rfl) hc
theorem c23e : CallIs Tryz.prog 23 [P3] (hL (memL (pS len cap b fl nx lf es []) ++ [(7, .cells [P3])])) 8 nilS (hL (memL (pS len cap b fl nx lf es []) ++ [(7, .cells [P3])])) 8 := by
  have hc := call23g len cap b fl nx lf es [] (fun _ h => by cases h) (by decide)
  rw [show sortS (keysOf []) = [] from sortS_nil] at hc
  exact own_callIs (ns := ns7) (pick_hL (by kernel_rfl) (by kernel_rfl) (by kernel_rfl) (by kernel_rfl) (by kernel_rfl)) (by kernel_rfl) (by kernel_rfl) hc
end
section
variable (b : List UInt8) (nx lf : Int) (es rt : List (D × D))
def ns57n : List (Option Nat) := [some 0, some 1, some 2, some 3, none, some 5, some 6]
theorem c57n : CallIs Tryz.prog 57 [P3] (hL (l3e b nx lf es)) 8 (.tup []) (hL (l3f b lf es 8 [(7, .cells [P3])])) 10 := by
  have hc := call57n 0 nx lf es []
  exact own_callIs (ns := ns57n) (pick_hL (by kernel_rfl) (by kernel_rfl) (by kernel_rfl) (by kernel_rfl) (by kernel_rfl)) (by kernel_rfl) (by kernel_rfl) hc
end
end Go.Proofs.YtfihojpgobmmdaaGreatDoor
namespace Go.Proofs.YtfihojpgobmmdaaGreatDoor
open Go Go.Eng
section
variable (len cap : Nat) (b : List UInt8) (fl nx lf : Int) (es rt : List (D × D))
set_option maxRecDepth 20000 in
theorem call19e (hent : Ent es) (hn : ∀ x, 0 ≤ numD es x ∧ numD es x < 1000000000) : CallIs Tryz.prog 19 [P3] (memS (pS len cap b fl nx lf es [])) 7 (.int .i64 0) (hL (l3f b lf es 7 [])) 9 := by
  refine callIs_of_TG Tryz.func19 (code := cdCo) (by kernel_rfl) (by kernel_rfl) ?_
  have hc51 := c51 len cap b fl nx lf es [] 0 (fun _ h => by cases h) (fun _ h => by cases h)
  have hc54 := c54 len cap b fl nx lf es [] (canK es [] 0) [] (Nat.le_of_ble_eq_true rfl) hent hn .nil .nil
  rw [show canK es [] 0 = [] from rfl] at hc51 hc54
  obtain ⟨L1, hr1⟩ := ha_2 len cap b fl nx lf es [] []
  refine TG_isN1 4 (((XQ []).pin (Nat.le_of_ble_eq_true (by kernel_rfl)) hc51).pin (Nat.le_of_ble_eq_true (by kernel_rfl)) hc54) mo (by kernel_rfl) hr1 (fm ⟨rfl, rfl, rfl⟩ (fm1 ⟨rfl, rfl, rfl⟩)) ?_
  show TG Tryz.prog 7 Tryz.f19.ntmps tl4 _ _
  refine TG_seq' (by kernel_rfl) ?_
  obtain ⟨L5, hr5⟩ := ha_7 len cap b fl nx lf es []
  refine TG_is (XQ []) mo anyR (by kernel_rfl) hr5 fun g hg _ => ?_
  rw [List.mem_singleton] at hg; subst hg
  refine ⟨all_nil, fun s' hs' => TG_norm hs' ?_⟩
  show TG Tryz.prog 7 Tryz.f19.ntmps tl5 _ _
  refine TG_seq' (by kernel_rfl) ?_
  obtain ⟨L6, hr6⟩ := ha_12 len cap b fl nx lf es
  refine TG_is (XT.pin (Nat.le_of_ble_eq_true (by kernel_rfl)) (c23e len cap b fl nx lf es)) mo anyR (by kernel_rfl) hr6 fun g hg _ => ?_
  rw [List.mem_singleton] at hg; subst hg
  refine ⟨fm1 ⟨rfl, rfl, rfl⟩, fun s' hs' => TG_norm hs' ?_⟩
  obtain ⟨L3, hr3⟩ := ha_13 len cap b fl nx lf es
  refine TG_isN1 3 XT mo (by kernel_rfl) hr3 all_nil ?_
  obtain ⟨L4, hr4⟩ := ha_15 b nx lf es
  refine TG_ret (XT.pin (Nat.le_of_ble_eq_true (by kernel_rfl)) (c57n b nx lf es)) mo _ (by kernel_rfl) hr4 fun g hg _ => ?_
  rw [List.mem_singleton] at hg; subst hg
  exact ⟨fm1 ⟨rfl, rfl, rfl⟩, _, _, _, rfl, rfl, rfl, rfl⟩
end
end Go.Proofs.YtfihojpgobmmdaaGreatDoor
namespace Go.Proofs.YtfihojpgobmmdaaGreatDoor
open Go Go.Eng
noncomputable abbrev cdCp : Code := bodyOf Tryz.f5
noncomputable abbrev tlCp : Code := tailN 6 cdCp
noncomputable abbrev rdCp : Code := inner (inner (seqR (seqL tlCp)))
noncomputable abbrev bdCp : Code := inner (seqL (seqR rdCp))
noncomputable abbrev lpCp : Code := seqL (tailN 1 bdCp)
noncomputable abbrev rdC2p : Code := inner (inner (seqR lpCp))
noncomputable abbrev bdC2p : Code := inner (seqL (seqR rdC2p))
def stN (sz : Nat) (us : List Int) (r : List (Nat × V)) : St := stG ((5, .bool true) :: (6, P3) :: (7, .int .i64 (Int.ofNat sz)) :: (8, .slc (some (6, 0)) sz sz 1) :: r) (hL [(0, .ints .u32 gS), (1, .ints .u32 gR), (3, .cells (stoC 0 4 5 (pN 0 0 0 [] []))), (4, .mapD none []), (5, .mapD none []), (6, .own .u8 us)]) 7
def lCp (len cap : Nat) (lg : List UInt8) (nx : Int) (es : List (D × D)) (us : List Int) : List (Nat × O) := memL (pS len cap lg 0 nx 0 es []) ++ [(7, .own .u8 us)]
def stL (len cap : Nat) (lg : List UInt8) (nx : Int) (es : List (D × D)) (sz : Nat) (us : List Int) (r : List (Nat × V)) : St := stG ((5, .bool true) :: (6, P3) :: (7, .int .i64 (Int.ofNat sz)) :: (8, .slc (some (7, 0)) sz sz 1) :: r) (hL (lCp len cap lg nx es us)) 8
def iW (i : Nat) : V := .int .i64 (Int.ofNat i)
theorem cp_1 (x y : Int) (sz : Nat) : ∃ L, RunIs Tryz.prog csL [(19, .give (.int .i64 (Int.ofNat sz)))] 1000 3 Tryz.f5 [5, 6, 7, 8] (headN 6 cdCp) (startSt [.int .u16 x, .int .u8 y] (hSR gS gR) 3) L
    [([],
      [(gS = gS), (gR = gR), ieq ((4096 : Int) + (IntKind.i64.wrap x).tmod (61441 : Int)) sz, ((0 : Int) ≤ IntKind.i64.wrap (Int.ofNat sz) ∧ IntKind.i64.wrap (Int.ofNat sz) ≤ IntKind.i64.wrap (Int.ofNat sz) ∧ (1 : Int) * IntKind.i64.wrap (Int.ofNat sz) ≤ (281474976710656 : Int)), ((0 : Int) ≤ (0 : Int) ∧ (0 : Int) < (Int.ofNat (IntKind.i64.wrap (Int.ofNat sz)).toNat)), (1 ≤ (repI [(0 : Int)] (IntKind.i64.wrap (Int.ofNat sz)).toNat).length)],
      .to .normal (stG [(5, .bool true), (6, .ptr (some (3, 0))), (7, .int .i64 (Int.ofNat sz)), (8, .slc (some (6, 0)) ((IntKind.i64.wrap (Int.ofNat sz)).toNat) ((IntKind.i64.wrap (Int.ofNat sz)).toNat) 1)] (hL [(0, .ints .u32 gS), (1, .ints .u32 gR), (3, .cells [.slc none 0 0 0, .int .i64 0, .map (some 4), .map (some 5), .int .i64 0, .bool false, .bool false, .int .i64 0]), (4, .map [] 0), (5, .map [] 0), (6, .own .u8 (y :: (List.append._f [] PUnit.unit (List.drop (0 + [y].length) (repI [(0 : Int)] (IntKind.i64.wrap (Int.ofNat sz)).toNat)))))]) 7))]
  := RunIs.of (by kernel_rfl) (by kernel_rfl) (by kernel_rfl)
theorem cp_2 (sz : Nat) (us : List Int) : ∃ L, RunIs Tryz.prog csL [] 1000 3 Tryz.f5 [5, 6, 7, 8, 9] (seqL (seqL tlCp)) (stN sz us []) L
    [([],
      [],
      .to .normal (stN sz us [(9, iW 0)]))]
  := RunIs.of (by kernel_rfl) (by kernel_rfl) (by kernel_rfl)
theorem cp_3 (sz : Nat) (us : List Int) (j : Nat) : ∃ L, RunIs Tryz.prog csL [(26, .split)] 1000 3 Tryz.f5 [5, 6, 7, 8, 9] (seqL rdCp) (stN sz us [(9, iW j)]) L
    [([((decide (Int.ofNat j < (2 : Int))), true)],
      [],
      .to .normal (stN sz us [(9, iW j)])),
    ([((decide (Int.ofNat j < (2 : Int))), false)],
      [],
      .to (.exit 0) (stN sz us [(9, iW j)]))]
  := RunIs.of (by kernel_rfl) (by kernel_rfl) (by kernel_rfl)
theorem cp_4 (sz : Nat) (us : List Int) (j : Nat) : ∃ L, RunIs Tryz.prog csL [] 1000 3 Tryz.f5 [5, 6, 7, 8, 9, 10] (headN 1 bdCp) (stN sz us [(9, iW j)]) L
    [([],
      [],
      .to .normal (stN sz us [(9, iW j), (10, iW 0)]))]
  := RunIs.of (by kernel_rfl) (by kernel_rfl) (by kernel_rfl)
theorem cp_5 (sz : Nat) (us : List Int) (j : Nat) : ∃ L, RunIs Tryz.prog csL [] 1000 3 Tryz.f5 [5, 6, 7, 8, 9, 10, 11] (seqL lpCp) (stN sz us [(9, iW j), (10, iW 0)]) L
    [([],
      [],
      .to .normal (stN sz us [(9, iW j), (10, iW 0), (11, iW 0)]))]
  := RunIs.of (by kernel_rfl) (by kernel_rfl) (by kernel_rfl)
abbrev cp_6nA1 (sz : Nat) : Prop := V.int IntKind.i64 (IntKind.i64.wrap (Int.ofNat sz + (64 : Int))) = iW (sz + 64)
abbrev cp_6nA2 (sz : Nat) : Prop := V.int IntKind.i64 (IntKind.i64.wrap ((0 : Int) + Int.ofNat sz)) = iW sz
theorem cp_6n (sz : Nat) (us : List Int) (j : Nat) : ∃ L, RunIs Tryz.prog csL [(31, .give (iW sz)), (32, .give (iW (sz + 64))), (33, .split)] 1000 3 Tryz.f5 [5, 6, 7, 8, 9, 10, 11] (seqL rdC2p) (stN sz us [(9, iW j), (10, iW 0), (11, iW 0)]) L
    [([((decide (Int.ofNat (sz + 64) ≤ (1048576 : Int))), true)],
      [cp_6nA2 sz, cp_6nA1 sz],
      .to .normal (stN sz us [(9, iW j), (10, iW 0), (11, iW 0)])),
    ([((decide (Int.ofNat (sz + 64) ≤ (1048576 : Int))), false)],
      [cp_6nA2 sz, cp_6nA1 sz],
      .to (.exit 2) (stN sz us [(9, iW j), (10, iW 0), (11, iW 0)]))]
  := RunIs.of (by kernel_rfl) (by kernel_rfl) (by kernel_rfl)
abbrev cp_6lA1 (sz : Nat) (u : Nat) : Prop := V.int IntKind.i64 (IntKind.i64.wrap (Int.ofNat (u + sz) + (64 : Int))) = iW (u + sz + 64)
abbrev cp_6lA2 (sz : Nat) (u : Nat) : Prop := V.int IntKind.i64 (IntKind.i64.wrap (Int.ofNat u + Int.ofNat sz)) = iW (u + sz)
theorem cp_6l (len cap : Nat) (lg : List UInt8) (nx : Int) (es : List (D × D)) (sz : Nat) (us : List Int) (j u i : Nat) : ∃ L, RunIs Tryz.prog csL [(31, .give (iW (u + sz))), (32, .give (iW (u + sz + 64))), (33, .split)] 1000 3 Tryz.f5 [5, 6, 7, 8, 9, 10, 11] (seqL rdC2p) (stL len cap lg nx es sz us [(9, iW j), (10, iW u), (11, iW i)]) L
    [([((decide (Int.ofNat (u + sz + 64) ≤ (1048576 : Int))), true)],
      [cp_6lA2 sz u, cp_6lA1 sz u],
      .to .normal (stL len cap lg nx es sz us [(9, iW j), (10, iW u), (11, iW i)])),
    ([((decide (Int.ofNat (u + sz + 64) ≤ (1048576 : Int))), false)],
      [cp_6lA2 sz u, cp_6lA1 sz u],
      .to (.exit 2) (stL len cap lg nx es sz us [(9, iW j), (10, iW u), (11, iW i)]))]
  := RunIs.of (by kernel_rfl) (by kernel_rfl) (by kernel_rfl)
abbrev us2 (us : List Int) (i : Nat) : List Int := putI (putI us 1 [IntKind.u8.wrap (Int.ofNat i)]) 2 [IntKind.u8.wrap (IntKind.i64.wrap ((Int.ofNat i).tdiv (256 : Int)))]
def lCn (us : List Int) : List (Nat × O) := [(0, .ints .u32 gS), (1, .ints .u32 gR), (3, .cells (stoC 0 4 5 (pN 0 0 0 [] []))), (4, .mapD none []), (5, .mapD none []), (6, .own .u8 us)]
def lCw (us : List Int) (n : Nat) (lg : List UInt8) (nx : Int) (es : List (D × D)) : List (Nat × O) := [(0, .ints .u32 gS), (1, .ints .u32 gR), (3, .cells [.slc (some (7, 0)) n n 1, .int .i64 0, .map (some 4), .map (some 5), .int .i64 nx, .bool false, .bool false, .int .i64 0]), (4, .mapD none es), (5, .mapD none []), (6, .own .u8 us), (7, .buf 5 false lg)]
def lCx (us : List Int) (n : Nat) (lg : List UInt8) (nx : Int) (es : List (D × D)) : List (Nat × O) := [(0, .ints .u32 gS), (1, .ints .u32 gR), (3, .cells [.slc (some (8, 0)) n n 1, .int .i64 0, .map (some 5), .map (some 6), .int .i64 nx, .bool false, .bool false, .int .i64 0]), (5, .mapD none es), (6, .mapD none []), (7, .own .u8 us), (8, .buf 5 false lg)]
def lCf (lg : List UInt8) (es : List (D × D)) (us : List Int) : List (Nat × O) := [(0, .ints .u32 gS), (1, .ints .u32 gR), (3, .cells [nilS, .int .i64 0, .map (some 8), .map (some 9), .int .i64 0, .bool false, .bool false, .int .i64 0]), (4, .buf 5 false lg), (5, .mapD none es), (6, .mapD none []), (7, .own .u8 us), (8, .mapD none []), (9, .mapD none [])]
theorem cp_7n (sz : Nat) (us : List Int) (j : Nat) : ∃ L, RunIs Tryz.prog csL [] 1000 3 Tryz.f5 [5, 6, 7, 8, 9, 10, 11] (headN 2 bdC2p) (stN sz us [(9, iW j), (10, iW 0), (11, iW 0)]) L
    [([],
      [((0 : Int) ≤ (1 : Int) ∧ (1 : Int) < (Int.ofNat sz)), (2 ≤ us.length), ((256 : Int) ≠ (0 : Int)), ((0 : Int) ≤ (2 : Int) ∧ (2 : Int) < (Int.ofNat sz)), (3 ≤ (putI us 1 [(0 : Int)]).length)],
      .to .normal (stN sz (us2 us 0) [(9, iW j), (10, iW 0), (11, iW 0)]))]
  := RunIs.of (by kernel_rfl) (by kernel_rfl) (by kernel_rfl)
theorem cp_7l (len cap : Nat) (lg : List UInt8) (nx : Int) (es : List (D × D)) (sz : Nat) (us : List Int) (j u i : Nat) : ∃ L, RunIs Tryz.prog csL [] 1000 3 Tryz.f5 [5, 6, 7, 8, 9, 10, 11] (headN 2 bdC2p) (stL len cap lg nx es sz us [(9, iW j), (10, iW u), (11, iW i)]) L
    [([],
      [((0 : Int) ≤ (1 : Int) ∧ (1 : Int) < (Int.ofNat sz)), (2 ≤ us.length), ((256 : Int) ≠ (0 : Int)), ((0 : Int) ≤ (2 : Int) ∧ (2 : Int) < (Int.ofNat sz)), (3 ≤ (putI us 1 [IntKind.u8.wrap (Int.ofNat i)]).length)],
      .to .normal (stL len cap lg nx es sz (us2 us i) [(9, iW j), (10, iW u), (11, iW i)]))]
  := RunIs.of (by kernel_rfl) (by kernel_rfl) (by kernel_rfl)
theorem cp_8n (sz : Nat) (us : List Int) (j : Nat) (d a : List UInt8) (n : Nat) (lg : List UInt8) (nx : Int) (es : List (D × D)) : ∃ L, RunIs Tryz.prog (pinS csL 15 [P3, .str d, nilS] (hL (lCn us)) 7 (.tup [.str a, okE], hL (lCw us n lg nx es), 8)) [(48, .give (.str d))] 1000 3 Tryz.f5 [5, 6, 7, 8, 9, 10, 11, 13] (seqL (tailN 2 bdC2p)) (stN sz us [(9, iW j), (10, iW 0), (11, iW 0)]) L
    [([],
      [(0 + sz ≤ us.length), (V.str (strI (List.take sz (List.drop 0 us))) = V.str d), (([.ptr (some (3, 0)), .str d, .slc none 0 0 0] : List V) = [.ptr (some (3, 0)), .str d, .slc none 0 0 0] ∧ (hL [(0, .ints .u32 gS), (1, .ints .u32 gR), (3, .cells [.slc none 0 0 0, .int .i64 0, .map (some 4), .map (some 5), .int .i64 0, .bool false, .bool false, .int .i64 0]), (4, .mapD none []), (5, .mapD none []), (6, .own .u8 us)]) = (hL [(0, .ints .u32 gS), (1, .ints .u32 gR), (3, .cells [.slc none 0 0 0, .int .i64 0, .map (some 4), .map (some 5), .int .i64 0, .bool false, .bool false, .int .i64 0]), (4, .mapD none []), (5, .mapD none []), (6, .own .u8 us)]) ∧ 7 = 7)],
      .to .normal (stL n n lg nx es sz us [(9, iW j), (10, iW 0), (11, iW 0), (13, okE)]))]
  := RunIs.of (by kernel_rfl) (by kernel_rfl) (by kernel_rfl)
theorem cp_8l (len cap : Nat) (lg : List UInt8) (nx : Int) (es : List (D × D)) (sz : Nat) (us : List Int) (j u i : Nat) (d a : List UInt8) (n : Nat) (lg2 : List UInt8) (nx2 : Int) (es2 : List (D × D)) : ∃ L, RunIs Tryz.prog (pinS csL 15 [P3, .str d, nilS] (hL (lCp len cap lg nx es us)) 8 (.tup [.str a, okE], hL (lCx us n lg2 nx2 es2), 9)) [(48, .give (.str d))] 1000 3 Tryz.f5 [5, 6, 7, 8, 9, 10, 11, 13] (seqL (tailN 2 bdC2p)) (stL len cap lg nx es sz us [(9, iW j), (10, iW u), (11, iW i)]) L
    [([],
      [(0 + sz ≤ us.length), (V.str (strI (List.take sz (List.drop 0 us))) = V.str d), (([.ptr (some (3, 0)), .str d, .slc none 0 0 0] : List V) = [.ptr (some (3, 0)), .str d, .slc none 0 0 0] ∧ (hL (memL (pS len cap lg ((0 : Int)) nx ((0 : Int)) es []) ++ [(7, .own .u8 us)])) = (hL (memL (pS len cap lg ((0 : Int)) nx ((0 : Int)) es []) ++ [(7, .own .u8 us)])) ∧ 8 = 8)],
      .to .normal (stL n n lg2 nx2 es2 sz us [(9, iW j), (10, iW u), (11, iW i), (13, okE)]))]
  := RunIs.of (by kernel_rfl) (by kernel_rfl) (by kernel_rfl)
theorem cp_8o (len cap : Nat) (lg : List UInt8) (nx : Int) (es : List (D × D)) (sz : Nat) (us : List Int) (j u i : Nat) (d a : List UInt8) : ∃ L, RunIs Tryz.prog (pinS csL 15 [P3, .str d, nilS] (hL (lCp len cap lg nx es us)) 8 (.tup [.str a, okE], hL (lCp len cap lg nx es us), 8)) [(48, .give (.str d))] 1000 3 Tryz.f5 [5, 6, 7, 8, 9, 10, 11, 13] (seqL (tailN 2 bdC2p)) (stL len cap lg nx es sz us [(9, iW j), (10, iW u), (11, iW i)]) L
    [([],
      [(0 + sz ≤ us.length), (V.str (strI (List.take sz (List.drop 0 us))) = V.str d), (([.ptr (some (3, 0)), .str d, .slc none 0 0 0] : List V) = [.ptr (some (3, 0)), .str d, .slc none 0 0 0] ∧ (hL (memL (pS len cap lg ((0 : Int)) nx ((0 : Int)) es []) ++ [(7, .own .u8 us)])) = (hL (memL (pS len cap lg ((0 : Int)) nx ((0 : Int)) es []) ++ [(7, .own .u8 us)])) ∧ 8 = 8)],
      .to .normal (stL len cap lg nx es sz us [(9, iW j), (10, iW u), (11, iW i), (13, okE)]))]
  := RunIs.of (by kernel_rfl) (by kernel_rfl) (by kernel_rfl)
theorem cp_9 (len cap : Nat) (lg : List UInt8) (nx : Int) (es : List (D × D)) (sz : Nat) (us : List Int) (j u i : Nat) : ∃ L, RunIs Tryz.prog csL [(54, .give (iW (u + sz))), (55, .give (iW (u + sz + 64))), (62, .give (.bool false))] 1000 3 Tryz.f5 [5, 6, 7, 8, 9, 10, 11] (tailN 3 bdC2p) (stL len cap lg nx es sz us [(9, iW j), (10, iW u), (11, iW i), (13, okE)]) L
    [([],
      [(V.int IntKind.i64 (IntKind.i64.wrap (Int.ofNat u + Int.ofNat sz)) = iW (u + sz)), (V.int IntKind.i64 (IntKind.i64.wrap (Int.ofNat (u + sz) + (64 : Int))) = iW (u + sz + 64)), (V.bool (decide ((Int.ofNat len) > Int.ofNat (u + sz + 64))) = V.bool false)],
      .to .normal (stL len cap lg nx es sz us [(9, iW j), (10, iW (u + sz + 64)), (11, iW i)]))]
  := RunIs.of (by kernel_rfl) (by kernel_rfl) (by kernel_rfl)
theorem cp_10 (len cap : Nat) (lg : List UInt8) (nx : Int) (es : List (D × D)) (sz : Nat) (us : List Int) (j u i : Nat) : ∃ L, RunIs Tryz.prog csL [(35, .give (iW (i + 1)))] 1000 3 Tryz.f5 [5, 6, 7, 8, 9, 10, 11] (seqR (seqR rdC2p)) (stL len cap lg nx es sz us [(9, iW j), (10, iW u), (11, iW i)]) L
    [([],
      [(V.int IntKind.i64 (IntKind.i64.wrap (Int.ofNat i + (1 : Int))) = iW (i + 1))],
      .to .normal (stL len cap lg nx es sz us [(9, iW j), (10, iW u), (11, iW (i + 1))]))]
  := RunIs.of (by kernel_rfl) (by kernel_rfl) (by kernel_rfl)
theorem cp_11 (len cap : Nat) (lg : List UInt8) (nx : Int) (es : List (D × D)) (sz : Nat) (us : List Int) (j u i : Nat) : ∃ L, RunIs Tryz.prog (pinS csL 19 [P3] (hL (lCp len cap lg nx es us)) 8 (.int .i64 0, hL (lCf lg es us), 10)) [] 1000 3 Tryz.f5 [5, 6, 7, 8, 9] (tailN 2 bdCp) (stL len cap lg nx es sz us [(9, iW j), (10, iW u), (11, iW i)]) L
    [([],
      [(([.ptr (some (3, 0))] : List V) = [.ptr (some (3, 0))] ∧ (hL (memL (pS len cap lg ((0 : Int)) nx ((0 : Int)) es []) ++ [(7, .own .u8 us)])) = (hL (memL (pS len cap lg ((0 : Int)) nx ((0 : Int)) es []) ++ [(7, .own .u8 us)])) ∧ 8 = 8)],
      .to .normal (stN sz us [(9, iW j)]))]
  := RunIs.of (by kernel_rfl) (by kernel_rfl) (by kernel_rfl)
theorem cp_12 (sz : Nat) (us : List Int) (j : Nat) : ∃ L, RunIs Tryz.prog csL [(28, .give (iW (j + 1)))] 1000 3 Tryz.f5 [5, 6, 7, 8, 9] (seqR (seqR rdCp)) (stN sz us [(9, iW j)]) L
    [([],
      [(V.int IntKind.i64 (IntKind.i64.wrap (Int.ofNat j + (1 : Int))) = iW (j + 1))],
      .to .normal (stN sz us [(9, iW (j + 1))]))]
  := RunIs.of (by kernel_rfl) (by kernel_rfl) (by kernel_rfl)
theorem cp_13 (sz : Nat) (us : List Int) (j : Nat) : ∃ L, RunIs Tryz.prog csL [] 1000 3 Tryz.f5 [] (seqR tlCp) (stN sz us [(9, iW j)]) L
    [([],
      [],
      .ret (.bool true) (hL [(0, .ints .u32 gS), (1, .ints .u32 gR)]) 3)]
  := RunIs.of (by kernel_rfl) (by kernel_rfl) (by kernel_rfl)
end Go.Proofs.YtfihojpgobmmdaaGreatDoor
namespace Go.Proofs.YtfihojpgobmmdaaGreatDoor
open Go Go.Eng
structure InvS (B len cap : Nat) (lg : List UInt8) (es : List (D × D)) : Prop where
  hln : len = lg.length
  hcp : 0 < cap
  hle : len ≤ B
  hen : Ent es
section
variable (f : Bool) (l : List (List UInt8)) (i : Nat) (d : List UInt8) (hd : d.length ≤ 200)
theorem lt15 : 15 < Tryz.prog.funcs.size := Nat.le_of_ble_eq_true (by kernel_rfl)
variable {len cap : Nat} {lg : List UInt8} {nx : Int} {es : List (D × D)}
end
section
variable (f : Bool) (l : List (List UInt8))
end
end Go.Proofs.YtfihojpgobmmdaaGreatDoor
namespace Go.Proofs.YtfihojpgobmmdaaGreatDoor
open Go Go.Eng
def NumB (es : List (D × D)) (nx : Int) : Prop := 0 ≤ nx ∧ ∀ x, 0 ≤ numD es x ∧ numD es x ≤ nx
theorem numB_nil : NumB [] 0 := ⟨Int.le_refl _, fun _ => ⟨Int.le_refl _, Int.le_refl _⟩⟩
theorem numD_upd (es : List (D × D)) (x y d : List UInt8) (rs : List (List UInt8)) (k : Int) : numD (updD (.str y) (entD d rs k) es) x = if x = y then k else numD es x := by
  by_cases h : x = y
  · simp only [numD, look_upd, if_pos h]; rfl
  · simp only [numD, look_upd, if_neg h]
theorem numB_upd {es : List (D × D)} {nx : Int} {y d : List UInt8} {rs : List (List UInt8)} (h : NumB es nx) (hn : nx < 1000000000) : NumB (updD (.str y) (entD d rs nx) es) (IntKind.i64.wrap (nx + 1)) ∧ IntKind.i64.wrap (nx + 1) = nx + 1 := by
  have e : IntKind.i64.wrap (nx + 1) = nx + 1 := wrap_id (by have := h.1; omega) (by omega)
  rw [e]
  refine ⟨⟨by have := h.1; omega, fun x => ?_⟩, rfl⟩
  rw [numD_upd]
  have := h.2 x
  have := h.1
  split <;> omega
structure Cst where
  (len cap : Nat)
  lg : List UInt8
  nx : Int
  es : List (D × D)
  (u i : Nat)
structure InvC (c : Cst) : Prop where
  hln : c.len = c.lg.length
  hcp : 0 < c.cap
  hle : c.len ≤ c.u
  hen : Ent c.es
  hnm : NumB c.es c.nx
  hnx : c.nx ≤ c.i
  hi : c.i ≤ c.u
  hu : c.u ≤ 1048576
theorem us2_len {us : List Int} {i sz : Nat} (h : us.length = sz) (h3 : 3 ≤ sz) : (us2 us i).length = sz := by
  unfold us2
  have h1 : (putI us 1 [IntKind.u8.wrap (Int.ofNat i)]).length = us.length := putI_len (by simp; omega)
  rw [putI_len (by rw [h1]; simp; omega), h1, h]
theorem strI_take {us : List Int} {sz : Nat} (h : us.length = sz) : (strI (List.take sz (List.drop 0 us))).length = sz := by
  unfold strI
  rw [List.length_map, List.drop_zero, List.take_of_length_le (by omega), h]
def ns6n : List (Option Nat) := [some 0, some 1, some 2, some 3, some 4, some 5]
section
variable (us : List Int) (d : List UInt8) (hd : d.length ≤ 65536)
include hd in
theorem p15n : CallIs Tryz.prog 15 [P3, .str d, nilS] (hL (lCn us)) 7 (.tup [.str (nameOf d []), okE]) (hL (lCw us (recB d []).length (recB d []) (IntKind.i64.wrap (0 + 1)) (updD (.str (nameOf d [])) (entD d [] 0) []))) 8 := by
  have hc := put_first d 0 0 0 [] [] hd rfl
  generalize recB d [] = lg at hc ⊢
  generalize updD (.str (nameOf d [])) (entD d [] 0) [] = es at hc ⊢
  generalize nameOf d [] = a at hc ⊢
  exact own_callIs (ns := ns6n) (pick_hL (by kernel_rfl) (by kernel_rfl) (by kernel_rfl) (by kernel_rfl) (by kernel_rfl)) (by kernel_rfl) (by kernel_rfl) hc
variable (len cap : Nat) (lg : List UInt8) (nx : Int) (es : List (D × D))
include hd in
theorem p15o (hk : Has es (nameOf d [])) : CallIs Tryz.prog 15 [P3, .str d, nilS] (hL (lCp len cap lg nx es us)) 8 (.tup [.str (nameOf d []), okE]) (hL (lCp len cap lg nx es us)) 8 := by
  have hc := put_old0 d len cap lg 0 nx 0 es [] hd hk
  generalize nameOf d [] = a at hc ⊢
  exact own_callIs (ns := ns7) (pick_hL (by kernel_rfl) (by kernel_rfl) (by kernel_rfl) (by kernel_rfl) (by kernel_rfl)) (by kernel_rfl) (by kernel_rfl) hc
include hd in
theorem p15w (hk : lookD (.str (nameOf d [])) es = none) (hc : 0 < cap) (hl : len = lg.length) (hfit : len + (recB d []).length ≤ 1048576) :
    CallIs Tryz.prog 15 [P3, .str d, nilS] (hL (lCp len cap lg nx es us)) 8 (.tup [.str (nameOf d []), okE]) (hL (lCx us (len + (recB d []).length) (lg ++ recB d []) (IntKind.i64.wrap (nx + 1)) (updD (.str (nameOf d [])) (entD d [] nx) es))) 9 := by
  have hc := put_new0 d len cap lg 0 nx 0 es [] hd hk hc hl hfit
  generalize lg ++ recB d [] = lg2 at hc ⊢
  generalize len + (recB d []).length = n at hc ⊢
  generalize updD (.str (nameOf d [])) (entD d [] nx) es = es at hc ⊢
  generalize nameOf d [] = a at hc ⊢
  exact own_callIs (ns := ns7) (pick_hL (by kernel_rfl) (by kernel_rfl) (by kernel_rfl) (by kernel_rfl) (by kernel_rfl)) (by kernel_rfl) (by kernel_rfl) hc
omit d in
theorem p19 (hent : Ent es) (hn : ∀ x, 0 ≤ numD es x ∧ numD es x < 1000000000) : CallIs Tryz.prog 19 [P3] (hL (lCp len cap lg nx es us)) 8 (.int .i64 0) (hL (lCf lg es us)) 10 :=
  own_callIs (ns := ns7) (pick_hL (by kernel_rfl) (by kernel_rfl) (by kernel_rfl) (by kernel_rfl) (by kernel_rfl)) (by kernel_rfl) (by kernel_rfl) (call19e len cap lg 0 nx 0 es hent hn)
end
theorem lt19 : 19 < Tryz.prog.funcs.size := Nat.le_of_ble_eq_true (by kernel_rfl)
theorem vadd {x : Int} {n : Nat} (h : x = (n : Int)) (hb : n < 1000000000000) : V.int IntKind.i64 (IntKind.i64.wrap x) = iW n := ieq_ok h hb
section
variable (sz j : Nat) (hsz : 4096 ≤ sz) (hsz2 : sz ≤ 65536)
abbrev stC (us : List Int) (c : Cst) (r : List (Nat × V)) : St := stL c.len c.cap c.lg c.nx c.es sz us ((9, iW j) :: (10, iW c.u) :: (11, iW c.i) :: r)
abbrev stX : List Int × Option Cst → St
  | (us, none) => stN sz us [(9, iW j), (10, iW 0), (11, iW 0)]
  | (us, some c) => stC sz j us c []
def muX : List Int × Option Cst → Nat
  | (_, none) => 1048577
  | (_, some c) => 1048576 - c.u
def IX : List Int × Option Cst → Prop
  | (us, none) => us.length = sz
  | (us, some c) => us.length = sz ∧ InvC c
theorem tgC9 (us : List Int) (c : Cst) (hus : us.length = sz) (h1 : c.len ≤ c.u + sz + 64) (h2 : c.u + sz + 64 ≤ 1048576) (h3 : InvC ⟨c.len, c.cap, c.lg, c.nx, c.es, c.u + sz + 64, c.i + 1⟩) {m : Nat} (hm : 1048576 - (c.u + sz + 64) < m) {Q : Exit → St → Prop} :
    TG Tryz.prog 3 Tryz.f5.ntmps (tailN 3 bdC2p) (stC sz j us c [(13, okE)]) (outOf 3 (andThen (fun s' => TG Tryz.prog 3 Tryz.f5.ntmps (seqR (seqR rdC2p)) s' (andThen (fun s' => ∃ x', muX x' < m ∧ IX sz x' ∧ Goes Tryz.prog 3 Tryz.f5.ntmps s' (stX sz j x')) Q)) (andThen (fun s' => ∃ x', muX x' < m ∧ IX sz x' ∧ Goes Tryz.prog 3 Tryz.f5.ntmps s' (stX sz j x')) Q))) := by
  obtain ⟨len, cap, lg, nx, es, u, i⟩ := c
  simp only at h1 h2 hm
  obtain ⟨L, hr⟩ := cp_9 len cap lg nx es sz us j u i
  refine TG_is XL mo anyR (by kernel_rfl) hr fun g hg _ => ?_
  rw [List.mem_singleton] at hg; subst hg
  refine ⟨fm (vadd (by rw [hOn, hOn]; omega) (by omega)) (fm (vadd (by rw [hOn]; omega) (by omega)) (fm1 (congrArg V.bool (decide_eq_false (by rw [hOn, hOn]; omega))))), fun s' hs' => TG_norm hs' ?_⟩
  obtain ⟨L2, hr2⟩ := cp_10 len cap lg nx es sz us j (u + sz + 64) i
  refine TG_is XL mo anyR (by kernel_rfl) hr2 fun g hg _ => ?_
  rw [List.mem_singleton] at hg; subst hg
  have hi := h3.hi
  simp only at hi
  exact ⟨fm1 (vadd (by rw [hOn]; omega) (by omega)), fun s' hs' => ⟨(us, some ⟨len, cap, lg, nx, es, u + sz + 64, i + 1⟩), hm, ⟨hus, h3⟩, .norm hs'⟩⟩
set_option maxRecDepth 20000 in
include hsz hsz2 in
theorem tgC6 (x : List Int × Option Cst) (hx : IX sz x) {Q : Exit → St → Prop} (hQ : ∀ us c r, InvC c → us.length = sz → ∀ s', normG 3 r s' = some (stC sz j us c []) → outOf 2 Q (.exit 2) s') :
    TG Tryz.prog 3 Tryz.f5.ntmps rdC2p (stX sz j x) (andThen (fun s' => ∃ x', muX x' < muX x ∧ IX sz x' ∧ Goes Tryz.prog 3 Tryz.f5.ntmps s' (stX sz j x')) (outOf 2 Q)) := by
  obtain ⟨us, x⟩ := x
  cases x with
  | none =>
    have hx : us.length = sz := hx
    refine TG_seq' (by kernel_rfl) ?_
    obtain ⟨L, hr⟩ := cp_6n sz us j
    refine TG_is XL mo anyR (by kernel_rfl) hr fun g hg hc => ?_
    rcases mem2 hg with rfl | rfl
    · refine ⟨fm (vadd (by rw [hOn]; omega) (by omega)) (fm1 (vadd (by rw [hOn]; omega) (by omega))), fun s' hs' => TG_norm hs' ?_⟩
      refine TG_seq' (by kernel_rfl) ?_
      refine TG_block (i := 3) (by kernel_rfl) ?_
      obtain ⟨L2, hr2⟩ := cp_7n sz us j
      have h1 : (putI us 1 [(0 : Int)]).length = us.length := putI_len (by simp; omega)
      refine TG_isN1 2 XL mo (by kernel_rfl) hr2 (fm (⟨by decide, by rw [hOn]; omega⟩) (fm (by omega) (fm (by decide) (fm (⟨by decide, by rw [hOn]; omega⟩) (fm1 (by omega)))))) ?_
      refine TG_seq' (by kernel_rfl) ?_
      have hl := us2_len (i := 0) hx (by omega)
      generalize us2 us 0 = us at hl
      have hdl := strI_take hl
      generalize hd : strI (List.take sz (List.drop 0 us)) = d at hdl
      have hrl := recB_lenr d (rs := []) (by simp)
      have hr0 := (recB_len d []).1
      simp only [List.length_nil] at hrl
      obtain ⟨L3, hr3⟩ := cp_8n sz us j d (nameOf d []) (recB d []).length (recB d []) (IntKind.i64.wrap (0 + 1)) (updD (.str (nameOf d [])) (entD d [] 0) [])
      refine TG_is (XL.pin lt15 (p15n us d (by omega))) mo anyR (by kernel_rfl) hr3 fun g hg _ => ?_
      rw [List.mem_singleton] at hg; subst hg
      refine ⟨fm (by omega) (fm (congrArg V.str hd) (fm1 (⟨rfl, rfl, rfl⟩))), fun s' hs' => TG_norm hs' ?_⟩
      have hN := numB_upd (y := nameOf d []) (d := d) (rs := []) numB_nil (by decide)
      exact tgC9 sz j us ⟨_, _, _, _, _, 0, 0⟩ hl (by simp only; omega) (by simp only; omega) ⟨rfl, hr0, by simp only; omega, ent_upd ent_nil, hN.1, by show IntKind.i64.wrap (0 + 1) ≤ ((0 + 1 : Nat) : Int); rw [hN.2]; decide, by simp only; omega, by simp only; omega⟩ (by show _ < 1048577; omega)
    · have h1 := hc _ (List.mem_singleton.2 rfl)
      dsimp only at h1
      rw [decide_eq_false_iff_not, hOn] at h1
      exact absurd (show ((sz + 64 : Nat) : Int) ≤ 1048576 by omega) h1
  | some c =>
    obtain ⟨hx, inv⟩ := hx
    obtain ⟨len, cap, lg, nx, es, u, i⟩ := c
    have hu := inv.hu
    simp only at hu
    refine TG_seq' (by kernel_rfl) ?_
    obtain ⟨L, hr⟩ := cp_6l len cap lg nx es sz us j u i
    have ha : ∀ a ∈ [(V.int IntKind.i64 (IntKind.i64.wrap (Int.ofNat u + Int.ofNat sz)) = iW (u + sz)), (V.int IntKind.i64 (IntKind.i64.wrap (Int.ofNat (u + sz) + (64 : Int))) = iW (u + sz + 64))], a := fm (vadd (by rw [hOn, hOn]; omega) (by omega)) (fm1 (vadd (by rw [hOn]; omega) (by omega)))
    refine TG_is XL mo anyR (by kernel_rfl) hr fun g hg hc => ?_
    rcases mem2 hg with rfl | rfl
    · have hfit := hc _ (List.mem_singleton.2 rfl)
      dsimp only at hfit
      rw [decide_eq_true_iff, hOn] at hfit
      refine ⟨ha, fun s' hs' => TG_norm hs' ?_⟩
      refine TG_seq' (by kernel_rfl) ?_
      refine TG_block (i := 3) (by kernel_rfl) ?_
      obtain ⟨L2, hr2⟩ := cp_7l len cap lg nx es sz us j u i
      have h1 : (putI us 1 [IntKind.u8.wrap (Int.ofNat i)]).length = us.length := putI_len (by simp; omega)
      refine TG_isN1 2 XL mo (by kernel_rfl) hr2 (fm (⟨by decide, by rw [hOn]; omega⟩) (fm (by omega) (fm (by decide) (fm (⟨by decide, by rw [hOn]; omega⟩) (fm1 (by omega)))))) ?_
      refine TG_seq' (by kernel_rfl) ?_
      have hl := us2_len (i := i) hx (by omega)
      generalize us2 us i = us at hl
      have hdl := strI_take hl
      generalize hd : strI (List.take sz (List.drop 0 us)) = d at hdl
      have hrl := recB_lenr d (rs := []) (by simp)
      have hr0 := (recB_len d []).1
      simp only [List.length_nil] at hrl
      have hle := inv.hle
      have hln := inv.hln
      have hi := inv.hi
      have hnx := inv.hnx
      have hcp := inv.hcp
      simp only at hle hi hnx hln hcp
      rcases inv.hen (nameOf d []) with hnew | hold
      · obtain ⟨L3, hr3⟩ := cp_8l len cap lg nx es sz us j u i d (nameOf d []) (len + (recB d []).length) (lg ++ recB d []) (IntKind.i64.wrap (nx + 1)) (updD (.str (nameOf d [])) (entD d [] nx) es)
        refine TG_is (XL.pin lt15 (p15w us d (by omega) len cap lg nx es hnew hcp hln (by omega))) mo anyR (by kernel_rfl) hr3 fun g hg _ => ?_
        rw [List.mem_singleton] at hg; subst hg
        refine ⟨fm (by omega) (fm (congrArg V.str hd) (fm1 (⟨rfl, rfl, rfl⟩))), fun s' hs' => TG_norm hs' ?_⟩
        have hN := numB_upd (es := es) (nx := nx) (y := nameOf d []) (d := d) (rs := []) inv.hnm (by omega)
        exact tgC9 sz j us ⟨_, _, _, _, _, u, i⟩ hl (by simp only; omega) (by simp only; omega) ⟨by simp only; rw [List.length_append, hln], by simp only; omega, by simp only; omega, ent_upd inv.hen, hN.1, by show IntKind.i64.wrap (nx + 1) ≤ ((i + 1 : Nat) : Int); rw [hN.2]; omega, by simp only; omega, by simp only; omega⟩ (by show 1048576 - (u + sz + 64) < 1048576 - u; omega)
      · obtain ⟨L3, hr3⟩ := cp_8o len cap lg nx es sz us j u i d (nameOf d [])
        refine TG_is (XL.pin lt15 (p15o us d (by omega) len cap lg nx es hold)) mo anyR (by kernel_rfl) hr3 fun g hg _ => ?_
        rw [List.mem_singleton] at hg; subst hg
        refine ⟨fm (by omega) (fm (congrArg V.str hd) (fm1 (⟨rfl, rfl, rfl⟩))), fun s' hs' => TG_norm hs' ?_⟩
        exact tgC9 sz j us ⟨_, _, _, _, _, u, i⟩ hl (by simp only; omega) (by simp only; omega) ⟨hln, hcp, by simp only; omega, inv.hen, inv.hnm, by simp only; omega, by simp only; omega, by simp only; omega⟩ (by show 1048576 - (u + sz + 64) < 1048576 - u; omega)
    · exact ⟨ha, fun s' hs' => hQ us ⟨len, cap, lg, nx, es, u, i⟩ _ inv hx s' hs'⟩
set_option maxRecDepth 20000 in
include hsz hsz2 in
theorem tgCj (us : List Int) (hus : us.length = sz) (hj : j ≤ 2) {s : St} (hs : Goes Tryz.prog 3 Tryz.f5.ntmps s (stN sz us [(9, iW j)])) {Q : Exit → St → Prop} {X : St → Prop}
    (hn : j < 2 → ∀ us2, us2.length = sz → ∀ s', Goes Tryz.prog 3 Tryz.f5.ntmps s' (stN sz us2 [(9, iW (j + 1))]) → X s') (hQ : j = 2 → ∀ s', Goes Tryz.prog 3 Tryz.f5.ntmps s' (stN sz us [(9, iW j)]) → outOf 0 Q (.exit 0) s') :
    TG Tryz.prog 3 Tryz.f5.ntmps rdCp s (andThen X (outOf 0 Q)) := by
  refine hs _ _ ?_
  refine TG_seq' (by kernel_rfl) ?_
  obtain ⟨L, hr⟩ := cp_3 sz us j
  refine TG_is XL mo anyR (by kernel_rfl) hr fun g hg hc => ?_
  rcases mem2 hg with rfl | rfl
  · have hj2 := of_decide_eq_true (hc _ (List.mem_singleton.2 rfl))
    rw [hOn] at hj2
    refine ⟨all_nil, fun s' hs' => TG_norm hs' ?_⟩
    refine TG_seq' (by kernel_rfl) ?_
    refine TG_block (i := 1) (by kernel_rfl) ?_
    obtain ⟨L2, hr2⟩ := cp_4 sz us j
    refine TG_isN1 1 XL mo (by kernel_rfl) hr2 all_nil ?_
    refine TG_seq' (by kernel_rfl) ?_
    refine TG_seq' (by kernel_rfl) ?_
    obtain ⟨L3, hr3⟩ := cp_5 sz us j
    refine TG_is XL mo anyR (by kernel_rfl) hr3 fun g hg _ => ?_
    rw [List.mem_singleton] at hg; subst hg
    refine ⟨all_nil, fun s' hs' => ?_⟩
    refine TG_whileN 2 muX (IX sz) (stX sz j) (by kernel_rfl) (by kernel_rfl) (us, none) hus (.norm hs') fun x hx => ?_
    refine tgC6 sz j hsz hsz2 x hx fun us1 c r inv hu1 s1 hs1 => ?_
    rw [outOf_exit]
    refine TG_norm hs1 ?_
    obtain ⟨len, cap, lg, nx, es, u, i⟩ := c
    have hnm := inv.hnm
    have hnx := inv.hnx
    have hi := inv.hi
    have hu := inv.hu
    simp only at hnm hnx hi hu
    obtain ⟨L4, hr4⟩ := cp_11 len cap lg nx es sz us1 j u i
    refine TG_is (XL.pin lt19 (p19 us1 len cap lg nx es inv.hen fun x => ⟨(hnm.2 x).1, by have := (hnm.2 x).2; omega⟩)) mo anyR (by kernel_rfl) hr4 fun g hg _ => ?_
    rw [List.mem_singleton] at hg; subst hg
    refine ⟨fm1 ⟨rfl, rfl, rfl⟩, fun s2 hs2 => TG_norm hs2 ?_⟩
    obtain ⟨L5, hr5⟩ := cp_12 sz us1 j
    refine TG_is XL mo anyR (by kernel_rfl) hr5 fun g hg _ => ?_
    rw [List.mem_singleton] at hg; subst hg
    exact ⟨fm1 (vadd (by rw [hOn]; omega) (by omega)), fun s3 hs3 => hn (by omega) us1 hu1 s3 (.norm hs3)⟩
  · have hj2 := of_decide_eq_false (hc _ (List.mem_singleton.2 rfl))
    rw [hOn] at hj2
    exact ⟨all_nil, fun s' hs' => hQ (by omega) s' (.norm hs')⟩
end
set_option maxRecDepth 20000 in
theorem tgCp (x y : Int) (hx : 0 ≤ x ∧ x ≤ 65535) : TG Tryz.prog 3 Tryz.f5.ntmps cdCp (startSt [.int .u16 x, .int .u8 y] (hSR gS gR) 3) (RetG Tryz.prog 3 Tryz.f5 fun u _ _ => u = .bool true) := by
  obtain ⟨n, rfl⟩ := Int.eq_ofNat_of_zero_le hx.1
  obtain ⟨sz, hsz⟩ : ∃ sz : Nat, sz = 4096 + n % 61441 := ⟨_, rfl⟩
  have hb : 4096 ≤ sz ∧ sz ≤ 65536 := by have := Nat.mod_lt n (show 0 < 61441 by decide); omega
  have hw : IntKind.i64.wrap (n : Int) = (n : Int) := wrap_id (by omega) (by omega)
  have hw2 : IntKind.i64.wrap (Int.ofNat sz) = Int.ofNat sz := wrap_id (by rw [hOn]; omega) (by rw [hOn]; omega)
  have htm : (IntKind.i64.wrap (n : Int)).tmod (61441 : Int) = ((n % 61441 : Nat) : Int) := by
    rw [hw, Int.tmod_eq_emod_of_nonneg (by omega)]; rfl
  obtain ⟨L1, hr1⟩ := cp_1 n y sz
  have hrp : ∀ m : Nat, (repI [(0 : Int)] m).length = m := fun m => by
    induction m with
    | zero => rfl
    | succ m ih => show ([(0 : Int)] ++ repI [0] m).length = _; rw [List.length_append, ih]; simp; omega
  refine TG_isN1 6 XL mo (by kernel_rfl) hr1 (fm (rfl) (fm (rfl) (fm (ieq_ok (by rw [htm]; omega) (by omega)) (fm (⟨by rw [hw2, hOn]; omega, by omega, by rw [hw2, hOn]; omega⟩) (fm (⟨by decide, by rw [hw2, hOn, hOn]; omega⟩) (fm1 (by rw [hrp, hw2, hOn]; omega))))))) ?_
  rw [hw2]
  refine TG_map [(4, none), (5, none)] (s2 := stN sz (y :: List.drop 1 (repI [(0 : Int)] sz)) []) (by kernel_rfl) ?_
  have hus : (y :: List.drop 1 (repI [(0 : Int)] sz)).length = sz := by rw [List.length_cons, List.length_drop, hrp]; omega
  generalize y :: List.drop 1 (repI [(0 : Int)] sz) = us at hus ⊢
  refine TG_seq' (by kernel_rfl) ?_
  refine TG_seq' (by kernel_rfl) ?_
  obtain ⟨L2, hr2⟩ := cp_2 sz us
  refine TG_is XL mo anyR (by kernel_rfl) hr2 fun g hg _ => ?_
  rw [List.mem_singleton] at hg; subst hg
  refine ⟨all_nil, fun s' hs' => ?_⟩
  refine TG_whileN (α := List Int × Nat) 0 (fun a => 2 - a.2) (fun a => a.1.length = sz ∧ a.2 ≤ 2) (fun a => stN sz a.1 [(9, iW a.2)]) (by kernel_rfl) (by kernel_rfl) (us, 0) ⟨hus, Nat.zero_le _⟩ (.norm hs') fun a ⟨h1, h2⟩ => ?_
  obtain ⟨us1, j⟩ := a
  refine tgCj sz j hb.1 hb.2 us1 h1 h2 .refl (fun hj us2 hu2 s2 hs2 => ⟨(us2, j + 1), by show 2 - (j + 1) < 2 - j; omega, ⟨hu2, by show j + 1 ≤ 2; omega⟩, hs2⟩) fun hj s2 hs2 => ?_
  rw [outOf_exit]
  refine hs2 _ _ ?_
  obtain ⟨L5, hr5⟩ := cp_13 sz us1 j
  refine TG_ret XL mo _ (by kernel_rfl) hr5 fun g hg _ => ?_
  rw [List.mem_singleton] at hg; subst hg
  exact ⟨all_nil, _, _, _, rfl, rfl⟩
theorem tgCpL (x : Int) (h0 : 0 ≤ x) (h1 : x ≤ 65535) (y : Int) (_ : 0 ≤ y) (_ : y ≤ 255) : TG Tryz.prog 3 Tryz.f5.ntmps cdCp (startSt [.int .u16 x, .int .u8 y] (hSR gS gR) 3) (RetG Tryz.prog 3 Tryz.f5 fun u _ _ => u = .bool true) := tgCp x y ⟨h0, h1⟩
end Go.Proofs.YtfihojpgobmmdaaGreatDoor
