/- The Chunk laws: the library's sort of strings at this program, in plain words. No conditions. -/
import Derived.Shelf.Sort.Plain
import Derived.Test.YtfihojpgobmmdaaGreatDoorJointFourteen
import Derived.Test.YtfihojpgobmmdaaGreatDoorJointSeventeen
import Derived.Test.YtfihojpgobmmdaaGreatDoorJointSixteen
set_option linter.unusedVariables false
set_option linter.unusedSimpArgs false
set_option linter.unusedSectionVars false
namespace Go.Proofs.YtfihojpgobmmdaaGreatDoor
open Go Go.Eng Go.Shelf Go.Sort Go.RowKit
def sortRen : Go.Shelf.Ren := ⟨fun | 190 => 87 | 125 => 102 | 258 => 114 | 128 => 132 | 129 => 133 | 302 => 134 | 303 => 135 | 304 => 136 | 305 => 137 | 306 => 138 | 307 => 139 | 308 => 140 | 309 => 141 | 310 => 142 | 333 => 152 | 329 => 148 | 330 => 149 | 334 => 153 | 335 => 154 | 336 => 155 | 344 => 158 | n => n, fun | 31 => 36 | 9 => 9 | 3 => 3 | 46 => 144 | 0 => 0 | 51 => 120 | 53 => 135 | 4 => 4 | 183 => 173 | 182 => 172 | 131 => 177 | 5 => 5 | 218 => 192 | 222 => 196 | 228 => 200 | 229 => 201 | n => n, fun n => n⟩
theorem sortLays : Lays.n190 Tryz.prog sortRen := {
  mixed := mo
  f125 := Tryz.func102.trans (congrArg some (by kernel_rfl))
  f128 := Tryz.func132.trans (congrArg some (by kernel_rfl))
  f129 := Tryz.func133.trans (congrArg some (by kernel_rfl))
  f190 := Tryz.func87.trans (congrArg some (by kernel_rfl))
  f258 := Tryz.func114.trans (congrArg some (by kernel_rfl))
  f302 := Tryz.func134.trans (congrArg some (by kernel_rfl))
  f303 := Tryz.func135.trans (congrArg some (by kernel_rfl))
  f304 := Tryz.func136.trans (congrArg some (by kernel_rfl))
  f305 := Tryz.func137.trans (congrArg some (by kernel_rfl))
  f306 := Tryz.func138.trans (congrArg some (by kernel_rfl))
  f307 := Tryz.func139.trans (congrArg some (by kernel_rfl))
  f308 := Tryz.func140.trans (congrArg some (by kernel_rfl))
  f309 := Tryz.func141.trans (congrArg some (by kernel_rfl))
  f310 := Tryz.func142.trans (congrArg some (by kernel_rfl))
  f329 := Tryz.func148.trans (congrArg some (by kernel_rfl))
  f330 := Tryz.func149.trans (congrArg some (by kernel_rfl))
  f333 := Tryz.func152.trans (congrArg some (by kernel_rfl))
  f334 := Tryz.func153.trans (congrArg some (by kernel_rfl))
  f335 := Tryz.func154.trans (congrArg some (by kernel_rfl))
  f336 := Tryz.func155.trans (congrArg some (by kernel_rfl))
  f344 := Tryz.func158.trans (congrArg some (by kernel_rfl))
  t0 := Tryz.underlying0
  a0 := Tryz.isAgg0
  z0 := Tryz.sizeOf0
  v0 := Tryz.zeroValue0
  t3 := Tryz.underlying3
  a3 := Tryz.isAgg3
  z3 := Tryz.sizeOf3
  v3 := Tryz.zeroValue3
  t4 := Tryz.underlying4
  a4 := Tryz.isAgg4
  z4 := Tryz.sizeOf4
  v4 := Tryz.zeroValue4
  t5 := Tryz.underlying5
  a5 := Tryz.isAgg5
  z5 := Tryz.sizeOf5
  v5 := Tryz.zeroValue5
  t9 := Tryz.underlying9
  a9 := Tryz.isAgg9
  z9 := Tryz.sizeOf9
  v9 := Tryz.zeroValue9
  t31 := Tryz.underlying36
  a31 := Tryz.isAgg36
  z31 := Tryz.sizeOf36
  v31 := Tryz.zeroValue36
  t46 := Tryz.underlying144
  a46 := Tryz.isAgg144
  z46 := Tryz.sizeOf144
  v46 := Tryz.zeroValue144
  t51 := Tryz.underlying120
  a51 := Tryz.isAgg120
  z51 := Tryz.sizeOf120
  v51 := Tryz.zeroValue120
  t53 := Tryz.underlying135
  a53 := Tryz.isAgg135
  z53 := Tryz.sizeOf135
  v53 := Tryz.zeroValue135
  t131 := Tryz.underlying177
  a131 := Tryz.isAgg177
  z131 := Tryz.sizeOf177
  v131 := Tryz.zeroValue177
  t182 := Tryz.underlying172
  a182 := Tryz.isAgg172
  z182 := Tryz.sizeOf172
  v182 := Tryz.zeroValue172
  t183 := Tryz.underlying173
  a183 := Tryz.isAgg173
  z183 := Tryz.sizeOf173
  v183 := Tryz.zeroValue173
  t218 := Tryz.underlying192
  a218 := Tryz.isAgg192
  z218 := Tryz.sizeOf192
  v218 := Tryz.zeroValue192
  t222 := Tryz.underlying196
  a222 := Tryz.isAgg196
  z222 := Tryz.sizeOf196
  v222 := Tryz.zeroValue196
  t228 := Tryz.underlying200
  a228 := Tryz.isAgg200
  z228 := Tryz.sizeOf200
  v228 := Tryz.zeroValue200
  t229 := Tryz.underlying201
  a229 := Tryz.isAgg201
  z229 := Tryz.sizeOf201
  v229 := Tryz.zeroValue201
}
theorem sorts87 : SortsS Tryz.prog 87 := fun blk off cap ss w hH hblk hsz => Any.slices_Sort_string sortLays blk off cap ss w hH hblk hsz
end Go.Proofs.YtfihojpgobmmdaaGreatDoor
namespace Go.Proofs.YtfihojpgobmmdaaGreatDoor
open Go Go.Eng
def KeyS (rt : List (D × D)) : Prop := ∀ e ∈ rt, ∃ k, e.1 = .str k
def keysOf (rt : List (D × D)) : List (List UInt8) := rt.map fun e => D.strB e.1
theorem keysOf_str {rt : List (D × D)} (h : KeyS rt) : rt.map (·.1) = strs (keysOf rt) := by
  unfold keysOf strs
  rw [List.map_map]
  refine List.map_congr_left fun e he => ?_
  obtain ⟨k, hk⟩ := h e he
  simp [hk, D.strB]
theorem strs_app (a b : List (List UInt8)) : strs (a ++ b) = strs a ++ strs b := by unfold strs; rw [List.map_append]
section
variable (len cap : Nat) (b : List UInt8) (fl nx lf : Int) (es rt : List (D × D))
def rowK3 (m : Nat) : List (List UInt8) → List (Nat × O)
  | [] => []
  | [x] => [(m, .cells [.str x])]
  | ks => [(m, .deep (strs ks))]
def slK (m : Nat) : List (List UInt8) → V
  | [] => nilS
  | ks => .slc (some (m, 0)) ks.length ks.length 1
def nK (m : Nat) : List (List UInt8) → Nat
  | [] => m
  | _ => m + 1
def JKa (vis : List (D × D)) (s1 : St) : Prop := KeyS vis ∧ normG 12 [0, 5] s1 = some (SK len cap b fl nx lf es rt (slK 12 (keysOf vis)) (rowK3 12 (keysOf vis)) (nK 12 (keysOf vis)))
theorem call88g (hk : KeyS rt) (hl : rt.length ≤ 1000000) : CallsOne Tryz.prog 88 [.fn (.yield 10) [] [], .ptr (some (7, 0))] (hK len cap b fl nx lf es rt nilS []) 11 fun v h n => ∃ vis, List.Perm vis rt ∧ v = .tup [] ∧ h = hK len cap b fl nx lf es rt (slK 11 (keysOf vis)) (rowK3 11 (keysOf vis)) ∧ n = nK 11 (keysOf vis) := by
  refine callsOne_of_TG mo po Tryz.func88 (code := cdK2) (by kernel_rfl) (by kernel_rfl) ?_
  rw [ml88]
  refine TG_maps (v0 := .map (some 6)) (fr0 := (startSt [.fn (.yield 10) [] [], .ptr (some (7, 0))] (hK len cap b fl nx lf es rt nilS []) 11).fr.set 4 (some (.map (some 6)))) (fr1 := ((startSt [.fn (.yield 10) [] [], .ptr (some (7, 0))] (hK len cap b fl nx lf es rt nilS []) 11).fr.set 4 (some (.map (some 6)))).set 5 (some (.ptr (some (11, 0))))) (m := 6) (kd := none) (es := rt) mo ml88_ok
    (by kernel_rfl) (by kernel_rfl) (by kernel_rfl) (by kernel_rfl) (Nat.le_of_ble_eq_true rfl) (by kernel_rfl) (JKa len cap b fl nx lf es rt) ⟨(fun _ h => by cases h), by kernel_rfl⟩ ?_
  rintro vis left s1 ⟨hv, hs⟩ hp
  have hlen : vis.length ≤ 1000000 := by
    have := hp.length_eq
    rw [List.length_append] at this; omega
  match vis, hv, hs, hp, hlen with
  | [], hv, hs, hp, _ =>
    refine ⟨[0, 5], SK len cap b fl nx lf es rt nilS [] 12, hs, by kernel_rfl, fun hl0 => ?_, fun e left' he => ?_⟩
    · subst hl0
      rw [List.append_nil] at hp
      refine ⟨(SK len cap b fl nx lf es rt nilS [] 12).fr.set 6 (some (.tup [.bool false])), { SK len cap b fl nx lf es rt nilS [] 12 with fr := ((SK len cap b fl nx lf es rt nilS [] 12).fr.set 6 (some (.tup [.bool false]))).set 7 (some (.bool false)) }, by kernel_rfl, by kernel_rfl, by kernel_rfl, .inl rfl, .tup [], hK len cap b fl nx lf es rt nilS [], 11, by kernel_rfl, [], hp, rfl, rfl, rfl⟩
    · obtain ⟨k, hek⟩ := hk e (hp.mem_iff.1 (he.mem_iff.2 (by simp)))
      obtain ⟨e1, e2⟩ := e
      have hek : e1 = .str k := hek
      subst hek
      refine ⟨(SK len cap b fl nx lf es rt nilS [] 12).fr.set 6 (some (.tup [.bool true, .str k, e2.toV])), { SK len cap b fl nx lf es rt nilS [] 12 with fr := ((SK len cap b fl nx lf es rt nilS [] 12).fr.set 6 (some (.tup [.bool true, .str k, e2.toV]))).set 7 (some (.bool true)) },
        (((SK len cap b fl nx lf es rt nilS [] 12).fr.set 6 (some (.tup [.bool true, .str k, e2.toV]))).set 7 (some (.bool true))).set 8 (some (.tup [.str k, e2.toV])), kSt (SK len cap b fl nx lf es rt nilS [] 12) k e2.toV, by kernel_rfl, by kernel_rfl, by kernel_rfl, by kernel_rfl, by kernel_rfl, by kernel_rfl, by kernel_rfl, by kernel_rfl, ?_⟩
      obtain ⟨L, hr⟩ := ka_0 len cap b fl nx lf es rt k e2.toV
      refine TG_is (XQ []) mo anyR (by kernel_rfl) hr fun g hg _ => ?_
      rw [List.mem_singleton] at hg; subst hg
      exact ⟨all_nil, fun s' hs' => ⟨fun x hx => by rw [List.nil_append, List.mem_singleton] at hx; exact ⟨k, by rw [hx]⟩, hs'⟩⟩
  | [x], hv, hs, hp, _ =>
    obtain ⟨x1, x2⟩ := x
    obtain ⟨kx, hkx⟩ := hv _ (List.mem_singleton.2 rfl)
    have hkx : x1 = .str kx := hkx
    subst hkx
    refine ⟨[0, 5], SK len cap b fl nx lf es rt (.slc (some (12, 0)) 1 1 1) [(12, .cells [.str kx])] 13, hs, by kernel_rfl, fun hl0 => ?_, fun e left' he => ?_⟩
    · subst hl0
      rw [List.append_nil] at hp
      refine ⟨(SK len cap b fl nx lf es rt (.slc (some (12, 0)) 1 1 1) [(12, .cells [.str kx])] 13).fr.set 6 (some (.tup [.bool false])), { SK len cap b fl nx lf es rt (.slc (some (12, 0)) 1 1 1) [(12, .cells [.str kx])] 13 with fr := ((SK len cap b fl nx lf es rt (.slc (some (12, 0)) 1 1 1) [(12, .cells [.str kx])] 13).fr.set 6 (some (.tup [.bool false]))).set 7 (some (.bool false)) }, by kernel_rfl, by kernel_rfl, by kernel_rfl, .inl rfl, .tup [], hK len cap b fl nx lf es rt (.slc (some (11, 0)) 1 1 1) [(11, .cells [.str kx])], 12, by kernel_rfl, _, hp, rfl, rfl, rfl⟩
    · obtain ⟨k, hek⟩ := hk e (hp.mem_iff.1 (List.mem_append_right _ (he.mem_iff.2 (by simp))))
      obtain ⟨e1, e2⟩ := e
      have hek : e1 = .str k := hek
      subst hek
      let S := SK len cap b fl nx lf es rt (.slc (some (12, 0)) 1 1 1) [(12, .cells [.str kx])] 13
      refine ⟨S.fr.set 6 (some (.tup [.bool true, .str k, e2.toV])), { S with fr := (S.fr.set 6 (some (.tup [.bool true, .str k, e2.toV]))).set 7 (some (.bool true)) },
        ((S.fr.set 6 (some (.tup [.bool true, .str k, e2.toV]))).set 7 (some (.bool true))).set 8 (some (.tup [.str k, e2.toV])), kSt S k e2.toV, by kernel_rfl, by kernel_rfl, by kernel_rfl, by kernel_rfl, by kernel_rfl, by kernel_rfl, by kernel_rfl, by kernel_rfl, ?_⟩
      refine TG_deep [12] (s2 := kSt (SK len cap b fl nx lf es rt (.slc (some (12, 0)) 1 1 1) [(12, .deep [.str kx])] 13) k e2.toV) (by kernel_rfl) ?_
      obtain ⟨L, hr⟩ := ka_1 len cap b fl nx lf es rt k e2.toV 1 [.str kx]
      refine TG_is (XQ []) mo anyR (by kernel_rfl) hr fun g hg _ => ?_
      rw [List.mem_singleton] at hg; subst hg
      refine ⟨?_, fun s' hs' => ⟨fun x hx => ?_, hs'⟩⟩
      · exact List.forall_mem_cons.2 ⟨Nat.le_refl _, List.forall_mem_cons.2 ⟨by decide, List.forall_mem_cons.2 ⟨by decide, all_nil⟩⟩⟩
      · simp only [List.cons_append, List.nil_append, List.mem_cons, List.not_mem_nil, or_false] at hx
        rcases hx with rfl | rfl
        · exact ⟨kx, rfl⟩
        · exact ⟨k, rfl⟩
  | x :: y :: vis, hv, hs, hp, hlen =>
    have hrow : ∀ m, rowK3 m (keysOf (x :: y :: vis)) = [(m, .deep (strs (keysOf (x :: y :: vis))))] := fun m => rfl
    have hsl : ∀ m, slK m (keysOf (x :: y :: vis)) = .slc (some (m, 0)) (keysOf (x :: y :: vis)).length (keysOf (x :: y :: vis)).length 1 := fun m => rfl
    have hnk : ∀ m, nK m (keysOf (x :: y :: vis)) = m + 1 := fun m => rfl
    have hkl : (keysOf (x :: y :: vis)).length = (x :: y :: vis).length := by unfold keysOf; rw [List.length_map]
    rw [hrow, hsl, hnk] at hs
    have hL2 : ∀ l2, slK 11 (keysOf (x :: y :: vis)) = l2 → l2 = .slc (some (11, 0)) (keysOf (x :: y :: vis)).length (keysOf (x :: y :: vis)).length 1 := fun l2 h => h ▸ rfl
    refine ⟨[0, 5], _, hs, by kernel_rfl, fun hl0 => ?_, fun e left' he => ?_⟩
    · subst hl0
      rw [List.append_nil] at hp
      refine ⟨(SK len cap b fl nx lf es rt (.slc (some (12, 0)) (keysOf (x :: y :: vis)).length (keysOf (x :: y :: vis)).length 1) [(12, .deep (strs (keysOf (x :: y :: vis))))] 13).fr.set 6 (some (.tup [.bool false])), { SK len cap b fl nx lf es rt (.slc (some (12, 0)) (keysOf (x :: y :: vis)).length (keysOf (x :: y :: vis)).length 1) [(12, .deep (strs (keysOf (x :: y :: vis))))] 13 with fr := ((SK len cap b fl nx lf es rt (.slc (some (12, 0)) (keysOf (x :: y :: vis)).length (keysOf (x :: y :: vis)).length 1) [(12, .deep (strs (keysOf (x :: y :: vis))))] 13).fr.set 6 (some (.tup [.bool false]))).set 7 (some (.bool false)) }, by kernel_rfl, by kernel_rfl, by kernel_rfl, .inl rfl, .tup [], hK len cap b fl nx lf es rt (.slc (some (11, 0)) (keysOf (x :: y :: vis)).length (keysOf (x :: y :: vis)).length 1) [(11, .deep (strs (keysOf (x :: y :: vis))))], 12, ?_, _, hp, rfl, rfl, rfl⟩
      generalize keysOf (x :: y :: vis) = ks
      kernel_rfl
    · obtain ⟨k, hek⟩ := hk e (hp.mem_iff.1 (List.mem_append_right _ (he.mem_iff.2 (by simp))))
      obtain ⟨e1, e2⟩ := e
      have hek : e1 = .str k := hek
      subst hek
      have hnext : keysOf ((x :: y :: vis) ++ [(.str k, e2)]) = keysOf (x :: y :: vis) ++ [k] := by unfold keysOf; rw [List.map_append]; rfl
      have hks : KeyS ((x :: y :: vis) ++ [(.str k, e2)]) := fun z hz => by
        rcases List.mem_append.1 hz with hz | hz
        · exact hv z hz
        · rw [List.mem_singleton] at hz; subst hz; exact ⟨k, rfl⟩
      have h2 : 2 ≤ (keysOf (x :: y :: vis)).length := by rw [hkl]; simp
      have hJ : ∀ s', normG 12 [0, 5] s' = some (SK len cap b fl nx lf es rt (.slc (some (12, 0)) (keysOf (x :: y :: vis) ++ [k]).length (keysOf (x :: y :: vis) ++ [k]).length 1) [(12, .deep (strs (keysOf (x :: y :: vis) ++ [k])))] 13) → JKa len cap b fl nx lf es rt ((x :: y :: vis) ++ [(.str k, e2)]) s' := by
        intro s' hs'
        refine ⟨hks, ?_⟩
        rw [hnext, hs']
        unfold keysOf
        rfl
      generalize hK0 : keysOf (x :: y :: vis) = ks at *
      let S := SK len cap b fl nx lf es rt (.slc (some (12, 0)) ks.length ks.length 1) [(12, .deep (strs ks))] 13
      refine ⟨S.fr.set 6 (some (.tup [.bool true, .str k, e2.toV])), { S with fr := (S.fr.set 6 (some (.tup [.bool true, .str k, e2.toV]))).set 7 (some (.bool true)) },
        ((S.fr.set 6 (some (.tup [.bool true, .str k, e2.toV]))).set 7 (some (.bool true))).set 8 (some (.tup [.str k, e2.toV])), kSt S k e2.toV, by kernel_rfl, by kernel_rfl, by kernel_rfl, by kernel_rfl, by kernel_rfl, by kernel_rfl, by kernel_rfl, by kernel_rfl, ?_⟩
      obtain ⟨L, hr⟩ := ka_1 len cap b fl nx lf es rt k e2.toV ks.length (strs ks)
      refine TG_is (XQ []) mo anyR (by kernel_rfl) hr fun g hg _ => ?_
      rw [List.mem_singleton] at hg; subst hg
      refine ⟨?_, fun s' hs' => hJ s' ?_⟩
      · exact List.forall_mem_cons.2 ⟨by rw [strs_len]; omega, List.forall_mem_cons.2 ⟨by decide, List.forall_mem_cons.2 ⟨roomy16 (by omega), all_nil⟩⟩⟩
      · refine Eq.trans hs' ?_
        have e3 : List.take (ks.length * 1) (List.drop 0 (strs ks)) ++ [D.str k] = strs (ks ++ [k]) := by
          rw [List.drop_zero, Nat.mul_one, List.take_of_length_le (by rw [strs_len]; exact Nat.le_refl _), strs_app]; rfl
        rw [e3, List.length_append]
        rfl
end
end Go.Proofs.YtfihojpgobmmdaaGreatDoor
namespace Go.Proofs.YtfihojpgobmmdaaGreatDoor
open Go Go.Eng
section
variable (len cap : Nat) (b : List UInt8) (fl nx lf : Int) (es rt : List (D × D))
def hKe (row : List (Nat × O)) : Tr O := hL (lK len cap b fl nx lf es rt ++ row)
end
def sC2 (h : Tr O) (n : Nat) (v : V) : St := { fr := ((((frL [(0, w88)]).set 3 (some w88)).set 4 (some v)).set 2 (some v)), h := h, n := n, dfs := [] }
theorem kc_1 (len cap : Nat) (b : List UInt8) (fl nx lf : Int) (es rt : List (D × D)) (x : List UInt8) : ∃ L, RunIs Tryz.prog (csQ []) [] 1000 8 Tryz.f113 [] (seqR tlA2) (rEnd (sKa len cap b fl nx lf es rt) (hK len cap b fl nx lf es rt (.slc (some (11, 0)) 1 1 1) [(11, .cells [.str x])]) 12) L
    [([],
      [],
      .ret (.slc (some (8, 0)) 1 1 1) (hL (memL (pS len cap b fl nx lf es rt) ++ [(7, .cells [.map (some 6)]), (8, .cells [.str x])])) 9)]
  := RunIs.of (by kernel_rfl) (by kernel_rfl) (by kernel_rfl)
theorem kc_2 (len cap : Nat) (b : List UInt8) (fl nx lf : Int) (es rt : List (D × D)) : ∃ L, RunIs Tryz.prog (csQ []) [] 1000 8 Tryz.f86 [0] (headN 1 cdC2) (startSt [w88] (hKe len cap b fl nx lf es rt []) 8) L
    [([],
      [],
      .to .normal (stG [(0, .fn (.func 88) [] [.ptr (some (7, 0))])] (hL (memL (pS len cap b fl nx lf es rt) ++ [(7, .cells [.map (some 6)])])) 8))]
  := RunIs.of (by kernel_rfl) (by kernel_rfl) (by kernel_rfl)
theorem kc_3 (len cap : Nat) (b : List UInt8) (fl nx lf : Int) (es rt : List (D × D)) (n : Nat) (cs : List D) : ∃ L, RunIs Tryz.prog (csQ []) [] 1000 8 Tryz.f86 [] (seqR (tailN 1 cdC2)) (sC2 (hKe len cap b fl nx lf es rt [(8, .deep cs)]) 9 (.slc (some (8, 0)) n n 1)) L
    [([],
      [],
      .ret (.slc (some (8, 0)) n n 1) (hL (memL (pS len cap b fl nx lf es rt) ++ [(7, .cells [.map (some 6)]), (8, .deep cs)])) 9)]
  := RunIs.of (by kernel_rfl) (by kernel_rfl) (by kernel_rfl)
theorem kc_4 (len cap : Nat) (b : List UInt8) (fl nx lf : Int) (es rt : List (D × D)) : ∃ L, RunIs Tryz.prog (csQ []) [] 1000 8 Tryz.f86 [] (seqR (tailN 1 cdC2)) (sC2 (hKe len cap b fl nx lf es rt []) 8 nilS) L
    [([],
      [],
      .ret (.slc none 0 0 0) (hL (memL (pS len cap b fl nx lf es rt) ++ [(7, .cells [.map (some 6)])])) 8)]
  := RunIs.of (by kernel_rfl) (by kernel_rfl) (by kernel_rfl)
theorem kc_5 (len cap : Nat) (b : List UInt8) (fl nx lf : Int) (es rt : List (D × D)) (x : List UInt8) : ∃ L, RunIs Tryz.prog (csQ []) [] 1000 8 Tryz.f86 [] (seqR (tailN 1 cdC2)) (sC2 (hKe len cap b fl nx lf es rt [(8, .cells [.str x])]) 9 (.slc (some (8, 0)) 1 1 1)) L
    [([],
      [],
      .ret (.slc (some (8, 0)) 1 1 1) (hL (memL (pS len cap b fl nx lf es rt) ++ [(7, .cells [.map (some 6)]), (8, .cells [.str x])])) 9)]
  := RunIs.of (by kernel_rfl) (by kernel_rfl) (by kernel_rfl)
theorem kc_6 (len cap : Nat) (b : List UInt8) (fl nx lf : Int) (es rt : List (D × D)) : ∃ L, RunIs Tryz.prog (csQ []) [] 1000 8 Tryz.f61 [0] (headN 1 cdS2) (startSt [w88] (hKe len cap b fl nx lf es rt []) 8) L
    [([],
      [],
      .to .normal (stG [(0, .fn (.func 88) [] [.ptr (some (7, 0))])] (hL (memL (pS len cap b fl nx lf es rt) ++ [(7, .cells [.map (some 6)])])) 8))]
  := RunIs.of (by kernel_rfl) (by kernel_rfl) (by kernel_rfl)
def sS2 (h : Tr O) (n : Nat) (v : V) : St := { fr := ((((frL [(0, w88)]).set 4 (some w88)).set 5 (some v)).set 3 (some v)), h := h, n := n, dfs := [] }
theorem kc_7 (len cap : Nat) (b : List UInt8) (fl nx lf : Int) (es rt : List (D × D)) (n : Nat) (cs cs2 : List D) : ∃ L, RunIs Tryz.prog (pinS (csQ []) 87 [.slc (some (8, 0)) n n 1] (hKe len cap b fl nx lf es rt [(8, .deep cs)]) 9 (.tup [], (hKe len cap b fl nx lf es rt [(8, .deep cs)]).set 8 (some (.deep cs2)), 9)) [] 1000 8 Tryz.f61 [] (tailN 2 cdS2) (sS2 (hKe len cap b fl nx lf es rt [(8, .deep cs)]) 9 (.slc (some (8, 0)) n n 1)) L
    [([],
      [(([.slc (some (8, 0)) n n 1] : List V) = [.slc (some (8, 0)) n n 1] ∧ (hL (memL (pS len cap b fl nx lf es rt) ++ [(7, .cells [.map (some 6)]), (8, .deep cs)])) = (hL (memL (pS len cap b fl nx lf es rt) ++ [(7, .cells [.map (some 6)]), (8, .deep cs)])) ∧ 9 = 9)],
      .ret (.slc (some (8, 0)) n n 1) (hL (memL (pS len cap b fl nx lf es rt) ++ [(7, .cells [.map (some 6)]), (8, .deep cs2)])) 9)]
  := RunIs.of (by kernel_rfl) (by kernel_rfl) (by kernel_rfl)
theorem kc_8 (len cap : Nat) (b : List UInt8) (fl nx lf : Int) (es rt : List (D × D)) : ∃ L, RunIs Tryz.prog (csQ []) [] 1000 8 Tryz.f61 [] (tailN 2 cdS2) (sS2 (hKe len cap b fl nx lf es rt []) 8 nilS) L
    [([],
      [((0 : Int) ≤ (0 : Int) ∧ 0 < 256)],
      .ret (.slc none 0 0 0) (hL (memL (pS len cap b fl nx lf es rt) ++ [(7, .cells [.map (some 6)])])) 8)]
  := RunIs.of (by kernel_rfl) (by kernel_rfl) (by kernel_rfl)
theorem kc_9 (len cap : Nat) (b : List UInt8) (fl nx lf : Int) (es rt : List (D × D)) (x : List UInt8) : ∃ L, RunIs Tryz.prog (csQ []) [] 1000 8 Tryz.f61 [] (tailN 2 cdS2) (sS2 (hKe len cap b fl nx lf es rt [(8, .cells [.str x])]) 9 (.slc (some (8, 0)) 1 1 1)) L
    [([],
      [((0 : Int) ≤ (1 : Int) ∧ 1 < 256)],
      .ret (.slc (some (8, 0)) 1 1 1) (hL (memL (pS len cap b fl nx lf es rt) ++ [(7, .cells [.map (some 6)]), (8, .cells [.str x])])) 9)]
  := RunIs.of (by kernel_rfl) (by kernel_rfl) (by kernel_rfl)
def hKf (len cap : Nat) (b : List UInt8) (fl nx lf : Int) (es rt : List (D × D)) (row : List (Nat × O)) : Tr O := hL (memL (pS len cap b fl nx lf es rt) ++ row)
theorem kc_10 (len cap : Nat) (b : List UInt8) (fl nx lf : Int) (es rt : List (D × D)) (n : Nat) (cs : List D) : ∃ L, RunIs Tryz.prog (pinS (csQ []) 61 [w88] (hKe len cap b fl nx lf es rt []) 8 (.slc (some (8, 0)) n n 1, hKe len cap b fl nx lf es rt [(8, .deep cs)], 9)) [] 1000 7 Tryz.f23 [] (cdRo) (startSt [P3] (memS (pS len cap b fl nx lf es rt)) 7) L
    [([],
      [(([.fn (.func 88) [] [.ptr (some (7, 0))]] : List V) = [.fn (.func 88) [] [.ptr (some (7, 0))]] ∧ (hL (memL (pS len cap b fl nx lf es rt) ++ [(7, .cells [.map (some 6)])])) = (hL (memL (pS len cap b fl nx lf es rt) ++ [(7, .cells [.map (some 6)])])) ∧ 8 = 8)],
      .ret (.slc (some (7, 0)) n n 1) (hL (memL (pS len cap b fl nx lf es rt) ++ [(7, .deep cs)])) 8)]
  := RunIs.of (by kernel_rfl) (by kernel_rfl) (by kernel_rfl)
theorem kc_11 (len cap : Nat) (b : List UInt8) (fl nx lf : Int) (es rt : List (D × D)) : ∃ L, RunIs Tryz.prog (pinS (csQ []) 61 [w88] (hKe len cap b fl nx lf es rt []) 8 (nilS, hKe len cap b fl nx lf es rt [], 8)) [] 1000 7 Tryz.f23 [] (cdRo) (startSt [P3] (memS (pS len cap b fl nx lf es rt)) 7) L
    [([],
      [(([.fn (.func 88) [] [.ptr (some (7, 0))]] : List V) = [.fn (.func 88) [] [.ptr (some (7, 0))]] ∧ (hL (memL (pS len cap b fl nx lf es rt) ++ [(7, .cells [.map (some 6)])])) = (hL (memL (pS len cap b fl nx lf es rt) ++ [(7, .cells [.map (some 6)])])) ∧ 8 = 8)],
      .ret (.slc none 0 0 0) (memS (pS len cap b fl nx lf es rt)) 7)]
  := RunIs.of (by kernel_rfl) (by kernel_rfl) (by kernel_rfl)
theorem kc_12 (len cap : Nat) (b : List UInt8) (fl nx lf : Int) (es rt : List (D × D)) (x : List UInt8) : ∃ L, RunIs Tryz.prog (pinS (csQ []) 61 [w88] (hKe len cap b fl nx lf es rt []) 8 (.slc (some (8, 0)) 1 1 1, hKe len cap b fl nx lf es rt [(8, .cells [.str x])], 9)) [] 1000 7 Tryz.f23 [] (cdRo) (startSt [P3] (memS (pS len cap b fl nx lf es rt)) 7) L
    [([],
      [(([.fn (.func 88) [] [.ptr (some (7, 0))]] : List V) = [.fn (.func 88) [] [.ptr (some (7, 0))]] ∧ (hL (memL (pS len cap b fl nx lf es rt) ++ [(7, .cells [.map (some 6)])])) = (hL (memL (pS len cap b fl nx lf es rt) ++ [(7, .cells [.map (some 6)])])) ∧ 8 = 8)],
      .ret (.slc (some (7, 0)) 1 1 1) (hL (memL (pS len cap b fl nx lf es rt) ++ [(7, .cells [.str x])])) 8)]
  := RunIs.of (by kernel_rfl) (by kernel_rfl) (by kernel_rfl)
end Go.Proofs.YtfihojpgobmmdaaGreatDoor
namespace Go.Proofs.YtfihojpgobmmdaaGreatDoor
open Go Go.Eng
theorem leB_trans {a b c : List UInt8} (h : a ≤ b) (k : b ≤ c) : a ≤ c := List.le_trans h k
theorem leB_total (a b : List UInt8) : a ≤ b ∨ b ≤ a := List.le_total a b
theorem leB_anti {a b : List UInt8} (h : a ≤ b) (k : b ≤ a) : a = b := List.le_antisymm h k
theorem sortS_perm (l : List (List UInt8)) : List.Perm (sortS l) l := List.mergeSort_perm ..
theorem sortS_pair (l : List (List UInt8)) : (sortS l).Pairwise (· ≤ ·) := by
  have := List.pairwise_mergeSort (le := fun x y : List UInt8 => decide (x ≤ y)) (fun a b c h k => by simp only [decide_eq_true_eq] at *; exact leB_trans h k) (fun a b => by simp only [Bool.or_eq_true, decide_eq_true_eq]; exact leB_total a b) l
  exact this.imp fun h => of_decide_eq_true h
theorem sortS_eq {a b : List (List UInt8)} (h : List.Perm a b) : sortS a = sortS b :=
  List.Perm.eq_of_pairwise (le := (· ≤ ·)) (fun _ _ _ _ h k => leB_anti h k) (sortS_pair a) (sortS_pair b) (((sortS_perm a).trans h).trans (sortS_perm b).symm)
theorem sortS_nil : sortS [] = [] := List.length_eq_zero_iff.1 (by rw [sortS_len]; rfl)
theorem sortS_one (x : List UInt8) : sortS [x] = [x] := by
  have h := sortS_perm [x]
  exact List.perm_singleton.1 h
theorem keysOf_perm {a b : List (D × D)} (h : List.Perm a b) : List.Perm (keysOf a) (keysOf b) := h.map _
theorem keysOf_len (a : List (D × D)) : (keysOf a).length = a.length := by unfold keysOf; rw [List.length_map]
section
variable (len cap : Nat) (b : List UInt8) (fl nx lf : Int) (es rt : List (D × D))
abbrev RKy (v : V) (h : Tr O) (n : Nat) : Prop := ∃ ks, List.Perm ks (keysOf rt) ∧ v = slK 8 ks ∧ h = hKe len cap b fl nx lf es rt (rowK3 8 ks) ∧ n = nK 8 ks
theorem call113g (hk : KeyS rt) (hl : rt.length ≤ 1000000) : CallsOne Tryz.prog 113 [nilS, w88] (hKe len cap b fl nx lf es rt []) 8 (RKy len cap b fl nx lf es rt) := by
  refine callsOne_of_TG mo po Tryz.func113 (code := cdA2) (by kernel_rfl) (by kernel_rfl) ?_
  obtain ⟨L1, hr1⟩ := ka_2 len cap b fl nx lf es rt
  refine TG_isN1 1 (XQ []) mo (by kernel_rfl) hr1 all_nil ?_
  show TG Tryz.prog 8 Tryz.f113.ntmps tlA2 (stG [(1, w88), (2, P 8)] (hL (lK len cap b fl nx lf es rt ++ [(8, .cells [nilS])])) 9) _
  refine TG_seq' (by kernel_rfl) ?_
  refine TG_seq' (by kernel_rfl) ?_
  obtain ⟨L2, hr2⟩ := ka_3 len cap b fl nx lf es rt
  refine TG_is (XQ []) mo anyR (by kernel_rfl) hr2 fun g hg _ => ?_
  rw [List.mem_singleton] at hg; subst hg
  refine ⟨all_nil, fun s' hs' => ?_⟩
  have hs' : normG 8 [2, 6] s' = some (sKa len cap b fl nx lf es rt) := hs'
  refine TG_norm hs' ?_
  refine TG_block (i := 0) (by kernel_rfl) ?_
  refine TG_rangeN (gf := 88) (lb := [.ptr (some (7, 0))]) (by kernel_rfl) (by kernel_rfl) (by kernel_rfl) (by kernel_rfl) (by kernel_rfl) (call88g len cap b fl nx lf es rt hk hl) ?_
  rintro v h n ⟨vis, hp, rfl, rfl, rfl⟩
  have hpk := keysOf_perm hp
  match hks : keysOf vis, hpk with
  | [], hpk =>
    refine ⟨by kernel_rfl, ?_⟩
    show TG Tryz.prog 8 Tryz.f113.ntmps (seqR tlA2) _ _
    obtain ⟨L5, hr5⟩ := ka_5 len cap b fl nx lf es rt
    refine TG_ret (XQ []) mo _ (by kernel_rfl) hr5 fun g hg _ => ?_
    rw [List.mem_singleton] at hg; subst hg
    exact ⟨all_nil, _, _, _, rfl, [], hpk, rfl, rfl, rfl⟩
  | [x], hpk =>
    refine ⟨by kernel_rfl, ?_⟩
    show TG Tryz.prog 8 Tryz.f113.ntmps (seqR tlA2) _ _
    obtain ⟨L5, hr5⟩ := kc_1 len cap b fl nx lf es rt x
    refine TG_ret (XQ []) mo _ (by kernel_rfl) hr5 fun g hg _ => ?_
    rw [List.mem_singleton] at hg; subst hg
    exact ⟨all_nil, _, _, _, rfl, [x], hpk, rfl, rfl, rfl⟩
  | x :: y :: ks, hpk =>
    refine ⟨by kernel_rfl, ?_⟩
    show TG Tryz.prog 8 Tryz.f113.ntmps (seqR tlA2) _ _
    obtain ⟨L5, hr5⟩ := ka_4 len cap b fl nx lf es rt (x :: y :: ks).length (strs (x :: y :: ks))
    refine TG_ret (XQ []) mo _ (by kernel_rfl) hr5 fun g hg _ => ?_
    rw [List.mem_singleton] at hg; subst hg
    exact ⟨all_nil, _, _, _, rfl, x :: y :: ks, hpk, rfl, rfl, rfl⟩
theorem call86g (hk : KeyS rt) (hl : rt.length ≤ 1000000) : CallsOne Tryz.prog 86 [w88] (hKe len cap b fl nx lf es rt []) 8 (RKy len cap b fl nx lf es rt) := by
  refine callsOne_of_TG mo po Tryz.func86 (code := cdC2) (by kernel_rfl) (by kernel_rfl) ?_
  obtain ⟨L1, hr1⟩ := kc_2 len cap b fl nx lf es rt
  refine TG_isN1 1 (XQ []) mo (by kernel_rfl) hr1 all_nil ?_
  refine TG_seq' (by kernel_rfl) ?_
  refine TG_callAt 1 (s1 := { fr := (frL [(0, w88)]).set 3 (some w88), h := hKe len cap b fl nx lf es rt [], n := 8, dfs := [] }) (f := 113) (args := [nilS, w88]) (by kernel_rfl) (by kernel_rfl) (by kernel_rfl) (by kernel_rfl) (by kernel_rfl) (by kernel_rfl) (call113g len cap b fl nx lf es rt hk hl) ?_
  rintro v h n ⟨ks, hp, rfl, rfl, rfl⟩
  match ks, hp with
  | [], hp =>
    refine ⟨(((frL [(0, w88)]).set 3 (some w88)).set 4 (some nilS)), sC2 (hKe len cap b fl nx lf es rt []) 8 nilS, by kernel_rfl, by kernel_rfl, ?_⟩
    obtain ⟨L5, hr5⟩ := kc_4 len cap b fl nx lf es rt
    show TG Tryz.prog 8 Tryz.f86.ntmps (seqR (tailN 1 cdC2)) _ _
    refine TG_ret (XQ []) mo _ (by kernel_rfl) hr5 fun g hg _ => ?_
    rw [List.mem_singleton] at hg; subst hg
    exact ⟨all_nil, _, _, _, rfl, [], hp, rfl, rfl, rfl⟩
  | [x], hp =>
    refine ⟨(((frL [(0, w88)]).set 3 (some w88)).set 4 (some (.slc (some (8, 0)) 1 1 1))), sC2 (hKe len cap b fl nx lf es rt [(8, .cells [.str x])]) 9 (.slc (some (8, 0)) 1 1 1), by kernel_rfl, by kernel_rfl, ?_⟩
    obtain ⟨L5, hr5⟩ := kc_5 len cap b fl nx lf es rt x
    show TG Tryz.prog 8 Tryz.f86.ntmps (seqR (tailN 1 cdC2)) _ _
    refine TG_ret (XQ []) mo _ (by kernel_rfl) hr5 fun g hg _ => ?_
    rw [List.mem_singleton] at hg; subst hg
    exact ⟨all_nil, _, _, _, rfl, [x], hp, rfl, rfl, rfl⟩
  | x :: y :: ks, hp =>
    refine ⟨(((frL [(0, w88)]).set 3 (some w88)).set 4 (some (.slc (some (8, 0)) (x :: y :: ks).length (x :: y :: ks).length 1))), sC2 (hKe len cap b fl nx lf es rt [(8, .deep (strs (x :: y :: ks)))]) 9 (.slc (some (8, 0)) (x :: y :: ks).length (x :: y :: ks).length 1), by kernel_rfl, by kernel_rfl, ?_⟩
    obtain ⟨L5, hr5⟩ := kc_3 len cap b fl nx lf es rt (x :: y :: ks).length (strs (x :: y :: ks))
    show TG Tryz.prog 8 Tryz.f86.ntmps (seqR (tailN 1 cdC2)) _ _
    refine TG_ret (XQ []) mo _ (by kernel_rfl) hr5 fun g hg _ => ?_
    rw [List.mem_singleton] at hg; subst hg
    exact ⟨all_nil, _, _, _, rfl, x :: y :: ks, hp, rfl, rfl, rfl⟩
theorem slK_big {m : Nat} {ks : List (List UInt8)} (h : 2 ≤ ks.length) : slK m ks = .slc (some (m, 0)) ks.length ks.length 1 ∧ rowK3 m ks = [(m, .deep (strs ks))] ∧ nK m ks = m + 1 := by
  match ks, h with
  | x :: y :: ks, _ => exact ⟨rfl, rfl, rfl⟩
theorem call61g (hk : KeyS rt) (hl : rt.length < 1000000) : CallIs Tryz.prog 61 [w88] (hKe len cap b fl nx lf es rt []) 8 (slK 8 (sortS (keysOf rt))) (hKe len cap b fl nx lf es rt (rowK3 8 (sortS (keysOf rt)))) (nK 8 (sortS (keysOf rt))) := by
  refine callIs_of_TG Tryz.func61 (code := cdS2) (by kernel_rfl) (by kernel_rfl) ?_
  obtain ⟨L1, hr1⟩ := kc_6 len cap b fl nx lf es rt
  refine TG_isN1 1 (XQ []) mo (by kernel_rfl) hr1 all_nil ?_
  refine TG_seq' (by kernel_rfl) ?_
  refine TG_callAt 1 (s1 := { fr := (frL [(0, w88)]).set 4 (some w88), h := hKe len cap b fl nx lf es rt [], n := 8, dfs := [] }) (f := 86) (args := [w88]) (by kernel_rfl) (by kernel_rfl) (by kernel_rfl) (by kernel_rfl) (by kernel_rfl) (by kernel_rfl) (call86g len cap b fl nx lf es rt hk (Nat.le_of_lt hl)) ?_
  rintro v h n ⟨ks, hp, rfl, rfl, rfl⟩
  rw [← sortS_eq hp]
  have hlen : ks.length < 1000000 := by rw [hp.length_eq, keysOf_len]; exact hl
  match ks, hlen with
  | [], _ =>
    rw [sortS_nil]
    refine ⟨(((frL [(0, w88)]).set 4 (some w88)).set 5 (some nilS)), sS2 (hKe len cap b fl nx lf es rt []) 8 nilS, by kernel_rfl, by kernel_rfl, ?_⟩
    show TG Tryz.prog 8 Tryz.f61.ntmps (tailN 2 cdS2) _ _
    obtain ⟨L5, hr5⟩ := kc_8 len cap b fl nx lf es rt
    refine TG_ret (XQ []) mo _ (by kernel_rfl) hr5 fun g hg _ => ?_
    rw [List.mem_singleton] at hg; subst hg
    exact ⟨fun p hp => by rw [List.mem_singleton] at hp; subst hp; decide, _, _, _, rfl, rfl, rfl, rfl⟩
  | [x], _ =>
    rw [sortS_one]
    refine ⟨(((frL [(0, w88)]).set 4 (some w88)).set 5 (some (.slc (some (8, 0)) 1 1 1))), sS2 (hKe len cap b fl nx lf es rt [(8, .cells [.str x])]) 9 (.slc (some (8, 0)) 1 1 1), by kernel_rfl, by kernel_rfl, ?_⟩
    show TG Tryz.prog 8 Tryz.f61.ntmps (tailN 2 cdS2) _ _
    obtain ⟨L5, hr5⟩ := kc_9 len cap b fl nx lf es rt x
    refine TG_ret (XQ []) mo _ (by kernel_rfl) hr5 fun g hg _ => ?_
    rw [List.mem_singleton] at hg; subst hg
    exact ⟨fun p hp => by rw [List.mem_singleton] at hp; subst hp; decide, _, _, _, rfl, rfl, rfl, rfl⟩
  | x :: y :: ks, hlen =>
    obtain ⟨z1, z2, z3⟩ := slK_big (m := 8) (ks := sortS (x :: y :: ks)) (by rw [sortS_len]; simp)
    rw [z1, z2, z3, sortS_len]
    refine ⟨(((frL [(0, w88)]).set 4 (some w88)).set 5 (some (.slc (some (8, 0)) (x :: y :: ks).length (x :: y :: ks).length 1))), sS2 (hKe len cap b fl nx lf es rt [(8, .deep (strs (x :: y :: ks)))]) 9 (.slc (some (8, 0)) (x :: y :: ks).length (x :: y :: ks).length 1), by kernel_rfl, by kernel_rfl, ?_⟩
    show TG Tryz.prog 8 Tryz.f61.ntmps (tailN 2 cdS2) _ _
    obtain ⟨L5, hr5⟩ := kc_7 len cap b fl nx lf es rt (x :: y :: ks).length (strs (x :: y :: ks)) (strs (sortS (x :: y :: ks)))
    have hc : CallIs Tryz.prog 87 [.slc (some (8, 0)) (x :: y :: ks).length (x :: y :: ks).length 1] (hKe len cap b fl nx lf es rt [(8, .deep (strs (x :: y :: ks)))]) 9 (.tup []) ((hKe len cap b fl nx lf es rt [(8, .deep (strs (x :: y :: ks)))]).set 8 (some (.deep (strs (sortS (x :: y :: ks)))))) 9 :=
      sort_callIs sorts87 (ss := x :: y :: ks) (by kernel_rfl) (Nat.le_of_ble_eq_true rfl) (Nat.succ_pos _) rfl hlen
    refine TG_ret ((XQ []).pin (Nat.le_of_ble_eq_true (by kernel_rfl)) hc) mo _ (by kernel_rfl) hr5 fun g hg _ => ?_
    rw [List.mem_singleton] at hg; subst hg
    exact ⟨fun p hp => by rw [List.mem_singleton] at hp; subst hp; exact pinEq, _, _, _, rfl, rfl, rfl, rfl⟩
theorem call23g (hk : KeyS rt) (hl : rt.length < 1000000) : CallIs Tryz.prog 23 [P3] (memS (pS len cap b fl nx lf es rt)) 7 (slK 7 (sortS (keysOf rt))) (hKf len cap b fl nx lf es rt (rowK3 7 (sortS (keysOf rt)))) (nK 7 (sortS (keysOf rt))) := by
  have h61 := call61g len cap b fl nx lf es rt hk hl
  refine callIs_of_TG Tryz.func23 (code := cdRo) (by kernel_rfl) (by kernel_rfl) ?_
  match hks : sortS (keysOf rt), h61 with
  | [], h61 =>
    obtain ⟨L5, hr5⟩ := kc_11 len cap b fl nx lf es rt
    refine TG_ret ((XQ []).pin (Nat.le_of_ble_eq_true (by kernel_rfl)) h61) mo _ (by kernel_rfl) hr5 fun g hg _ => ?_
    rw [List.mem_singleton] at hg; subst hg
    exact ⟨fun p hp => by rw [List.mem_singleton] at hp; subst hp; exact pinEq, _, _, _, rfl, rfl, rfl, rfl⟩
  | [x], h61 =>
    obtain ⟨L5, hr5⟩ := kc_12 len cap b fl nx lf es rt x
    refine TG_ret ((XQ []).pin (Nat.le_of_ble_eq_true (by kernel_rfl)) h61) mo _ (by kernel_rfl) hr5 fun g hg _ => ?_
    rw [List.mem_singleton] at hg; subst hg
    exact ⟨fun p hp => by rw [List.mem_singleton] at hp; subst hp; exact pinEq, _, _, _, rfl, rfl, rfl, rfl⟩
  | x :: y :: ks, h61 =>
    obtain ⟨L5, hr5⟩ := kc_10 len cap b fl nx lf es rt (x :: y :: ks).length (strs (x :: y :: ks))
    refine TG_ret ((XQ []).pin (Nat.le_of_ble_eq_true (by kernel_rfl)) h61) mo _ (by kernel_rfl) hr5 fun g hg _ => ?_
    rw [List.mem_singleton] at hg; subst hg
    exact ⟨fun p hp => by rw [List.mem_singleton] at hp; subst hp; exact pinEq, _, _, _, rfl, rfl, rfl, rfl⟩
end
end Go.Proofs.YtfihojpgobmmdaaGreatDoor
namespace Go.Proofs.YtfihojpgobmmdaaGreatDoor
open Go Go.Eng
section
variable (fl nx lf : Int) (es : List (D × D))
def lKN : List (Nat × O) := memL (pN fl nx lf es []) ++ [(7, .cells [.map (some 6)])]
def lKgN : List (Nat × O) := [(0, .ints .u32 gS), (1, .ints .u32 gR), (3, .cells (stoC 4 5 6 (pN fl nx lf es []))), (5, .mapD none es), (7, .cells [.map (some 6)])]
def sKaN : St := stG [(2, .ptr (some (8, 0))), (6, w88)] (hL (lKN fl nx lf es ++ [(8, .cells [.slc none 0 0 0])])) 9
noncomputable def oKaN : O := .loop true none (sKaN fl nx lf es).fr [7] asA2 boA2
noncomputable def hKN : Tr O := hL (lKN fl nx lf es ++ [(8, .cells [nilS]), (9, .dfr), (10, oKaN fl nx lf es)])
noncomputable def SKN : St := stG [(0, .fn (.yield 10) [] []), (5, .ptr (some (11, 0)))] (hL (lKgN fl nx lf es ++ [(8, .cells [nilS]), (9, .dfr), (10, oKaN fl nx lf es)])) 12
def hKeN : Tr O := hL (lKN fl nx lf es)
end
theorem kn_2 (fl nx lf : Int) (es : List (D × D)) : ∃ L, RunIs Tryz.prog (csQ []) [] 1000 8 Tryz.f113 [1, 2] (headN 1 cdA2) (startSt [nilS, w88] (hKeN fl nx lf es) 8) L
    [([],
      [],
      .to .normal (stG [(1, .fn (.func 88) [] [.ptr (some (7, 0))]), (2, .ptr (some (8, 0)))] (hL [(0, .ints .u32 gS), (1, .ints .u32 gR), (3, .cells [.slc none 0 0 0, .int .i64 ((pN fl nx lf es []).fl), .map (some 5), .map (some 6), .int .i64 ((pN fl nx lf es []).nx), .bool false, .bool false, .int .i64 ((pN fl nx lf es []).lf)]), (5, .mapD none ((pN fl nx lf es []).es)), (6, .mapD none []), (7, .cells [.map (some 6)]), (8, .cells [.slc none 0 0 0])]) 9))]
  := RunIs.of (by kernel_rfl) (by kernel_rfl) (by kernel_rfl)
theorem kn_3 (fl nx lf : Int) (es : List (D × D)) : ∃ L, RunIs Tryz.prog (csQ []) [] 1000 8 Tryz.f113 [2, 6] (seqL (seqL tlA2)) (stG [(1, w88), (2, P 8)] (hL (lKN fl nx lf es ++ [(8, .cells [nilS])])) 9) L
    [([],
      [],
      .to .normal (stG [(2, .ptr (some (8, 0))), (6, .fn (.func 88) [] [.ptr (some (7, 0))])] (hL [(0, .ints .u32 gS), (1, .ints .u32 gR), (3, .cells [.slc none 0 0 0, .int .i64 ((pN fl nx lf es []).fl), .map (some 5), .map (some 6), .int .i64 ((pN fl nx lf es []).nx), .bool false, .bool false, .int .i64 ((pN fl nx lf es []).lf)]), (5, .mapD none ((pN fl nx lf es []).es)), (6, .mapD none []), (7, .cells [.map (some 6)]), (8, .cells [.slc none 0 0 0])]) 9))]
  := RunIs.of (by kernel_rfl) (by kernel_rfl) (by kernel_rfl)
theorem kn_5 (fl nx lf : Int) (es : List (D × D)) : ∃ L, RunIs Tryz.prog (csQ []) [] 1000 8 Tryz.f113 [] (seqR tlA2) (rEnd (sKaN fl nx lf es) (hKN fl nx lf es) 11) L
    [([],
      [],
      .ret (.slc none 0 0 0) (hL [(0, .ints .u32 gS), (1, .ints .u32 gR), (3, .cells [.slc none 0 0 0, .int .i64 ((pN fl nx lf es []).fl), .map (some 5), .map (some 6), .int .i64 ((pN fl nx lf es []).nx), .bool false, .bool false, .int .i64 ((pN fl nx lf es []).lf)]), (5, .mapD none ((pN fl nx lf es []).es)), (6, .mapD none []), (7, .cells [.map (some 6)])]) 8)]
  := RunIs.of (by kernel_rfl) (by kernel_rfl) (by kernel_rfl)
theorem kn_6 (fl nx lf : Int) (es : List (D × D)) : ∃ L, RunIs Tryz.prog (pinS (csQ []) 113 [nilS, w88] (hKeN fl nx lf es) 8 (nilS, hKeN fl nx lf es, 8)) [] 1000 8 Tryz.f86 [] (cdC2) (startSt [w88] (hKeN fl nx lf es) 8) L
    [([],
      [(([.slc none 0 0 0, .fn (.func 88) [] [.ptr (some (7, 0))]] : List V) = [.slc none 0 0 0, .fn (.func 88) [] [.ptr (some (7, 0))]] ∧ (hL [(0, .ints .u32 gS), (1, .ints .u32 gR), (3, .cells [.slc none 0 0 0, .int .i64 ((pN fl nx lf es []).fl), .map (some 5), .map (some 6), .int .i64 ((pN fl nx lf es []).nx), .bool false, .bool false, .int .i64 ((pN fl nx lf es []).lf)]), (5, .mapD none ((pN fl nx lf es []).es)), (6, .mapD none []), (7, .cells [.map (some 6)])]) = (hL [(0, .ints .u32 gS), (1, .ints .u32 gR), (3, .cells [.slc none 0 0 0, .int .i64 ((pN fl nx lf es []).fl), .map (some 5), .map (some 6), .int .i64 ((pN fl nx lf es []).nx), .bool false, .bool false, .int .i64 ((pN fl nx lf es []).lf)]), (5, .mapD none ((pN fl nx lf es []).es)), (6, .mapD none []), (7, .cells [.map (some 6)])]) ∧ 8 = 8)],
      .ret (.slc none 0 0 0) (hL [(0, .ints .u32 gS), (1, .ints .u32 gR), (3, .cells [.slc none 0 0 0, .int .i64 ((pN fl nx lf es []).fl), .map (some 5), .map (some 6), .int .i64 ((pN fl nx lf es []).nx), .bool false, .bool false, .int .i64 ((pN fl nx lf es []).lf)]), (5, .mapD none ((pN fl nx lf es []).es)), (6, .mapD none []), (7, .cells [.map (some 6)])]) 8)]
  := RunIs.of (by kernel_rfl) (by kernel_rfl) (by kernel_rfl)
theorem kn_8 (fl nx lf : Int) (es : List (D × D)) : ∃ L, RunIs Tryz.prog (pinS (csQ []) 86 [w88] (hKeN fl nx lf es) 8 (nilS, hKeN fl nx lf es, 8)) [] 1000 8 Tryz.f61 [] (cdS2) (startSt [w88] (hKeN fl nx lf es) 8) L
    [([],
      [(([.fn (.func 88) [] [.ptr (some (7, 0))]] : List V) = [.fn (.func 88) [] [.ptr (some (7, 0))]] ∧ (hL [(0, .ints .u32 gS), (1, .ints .u32 gR), (3, .cells [.slc none 0 0 0, .int .i64 ((pN fl nx lf es []).fl), .map (some 5), .map (some 6), .int .i64 ((pN fl nx lf es []).nx), .bool false, .bool false, .int .i64 ((pN fl nx lf es []).lf)]), (5, .mapD none ((pN fl nx lf es []).es)), (6, .mapD none []), (7, .cells [.map (some 6)])]) = (hL [(0, .ints .u32 gS), (1, .ints .u32 gR), (3, .cells [.slc none 0 0 0, .int .i64 ((pN fl nx lf es []).fl), .map (some 5), .map (some 6), .int .i64 ((pN fl nx lf es []).nx), .bool false, .bool false, .int .i64 ((pN fl nx lf es []).lf)]), (5, .mapD none ((pN fl nx lf es []).es)), (6, .mapD none []), (7, .cells [.map (some 6)])]) ∧ 8 = 8), ((0 : Int) ≤ (0 : Int) ∧ 0 < 256)],
      .ret (.slc none 0 0 0) (hL [(0, .ints .u32 gS), (1, .ints .u32 gR), (3, .cells [.slc none 0 0 0, .int .i64 ((pN fl nx lf es []).fl), .map (some 5), .map (some 6), .int .i64 ((pN fl nx lf es []).nx), .bool false, .bool false, .int .i64 ((pN fl nx lf es []).lf)]), (5, .mapD none ((pN fl nx lf es []).es)), (6, .mapD none []), (7, .cells [.map (some 6)])]) 8)]
  := RunIs.of (by kernel_rfl) (by kernel_rfl) (by kernel_rfl)
theorem kn_7 (fl nx lf : Int) (es : List (D × D)) : ∃ L, RunIs Tryz.prog (pinS (csQ []) 61 [w88] (hKeN fl nx lf es) 8 (nilS, hKeN fl nx lf es, 8)) [] 1000 7 Tryz.f23 [] (cdRo) (startSt [P3] (memS (pN fl nx lf es [])) 7) L
    [([],
      [(([.fn (.func 88) [] [.ptr (some (7, 0))]] : List V) = [.fn (.func 88) [] [.ptr (some (7, 0))]] ∧ (hL [(0, .ints .u32 gS), (1, .ints .u32 gR), (3, .cells [.slc none 0 0 0, .int .i64 ((pN fl nx lf es []).fl), .map (some 5), .map (some 6), .int .i64 ((pN fl nx lf es []).nx), .bool false, .bool false, .int .i64 ((pN fl nx lf es []).lf)]), (5, .mapD none ((pN fl nx lf es []).es)), (6, .mapD none []), (7, .cells [.map (some 6)])]) = (hL [(0, .ints .u32 gS), (1, .ints .u32 gR), (3, .cells [.slc none 0 0 0, .int .i64 ((pN fl nx lf es []).fl), .map (some 5), .map (some 6), .int .i64 ((pN fl nx lf es []).nx), .bool false, .bool false, .int .i64 ((pN fl nx lf es []).lf)]), (5, .mapD none ((pN fl nx lf es []).es)), (6, .mapD none []), (7, .cells [.map (some 6)])]) ∧ 8 = 8)],
      .ret (.slc none 0 0 0) (hL [(0, .ints .u32 gS), (1, .ints .u32 gR), (3, .cells [.slc none 0 0 0, .int .i64 ((pN fl nx lf es []).fl), .map (some 5), .map (some 6), .int .i64 ((pN fl nx lf es []).nx), .bool false, .bool false, .int .i64 ((pN fl nx lf es []).lf)]), (5, .mapD none ((pN fl nx lf es []).es)), (6, .mapD none [])]) 7)]
  := RunIs.of (by kernel_rfl) (by kernel_rfl) (by kernel_rfl)
end Go.Proofs.YtfihojpgobmmdaaGreatDoor
namespace Go.Proofs.YtfihojpgobmmdaaGreatDoor
open Go Go.Eng
section
variable (fl nx lf : Int) (es : List (D × D))
theorem call88n : CallIs Tryz.prog 88 [.fn (.yield 10) [] [], .ptr (some (7, 0))] (hKN fl nx lf es) 11 (.tup []) (hKN fl nx lf es) 11 := by
  refine CallsOne.is (callsOne_of_TG mo po Tryz.func88 (code := cdK2) (by kernel_rfl) (by kernel_rfl) ?_)
  rw [ml88]
  refine TG_maps (v0 := .map (some 6)) (fr0 := (startSt [.fn (.yield 10) [] [], .ptr (some (7, 0))] (hKN fl nx lf es) 11).fr.set 4 (some (.map (some 6)))) (fr1 := ((startSt [.fn (.yield 10) [] [], .ptr (some (7, 0))] (hKN fl nx lf es) 11).fr.set 4 (some (.map (some 6)))).set 5 (some (.ptr (some (11, 0))))) (m := 6) (kd := none) (es := []) mo ml88_ok
    (by kernel_rfl) (by kernel_rfl) (by kernel_rfl) (by kernel_rfl) (Nat.le_of_ble_eq_true rfl) (by kernel_rfl) (fun vis s1 => vis = [] ∧ normG 12 [0, 5] s1 = some (SKN fl nx lf es)) ⟨rfl, by kernel_rfl⟩ ?_
  rintro vis left s1 ⟨rfl, hs⟩ hp
  refine ⟨[0, 5], SKN fl nx lf es, hs, by kernel_rfl, fun hl0 => ?_, fun e left' he => ?_⟩
  · exact ⟨(SKN fl nx lf es).fr.set 6 (some (.tup [.bool false])), { SKN fl nx lf es with fr := ((SKN fl nx lf es).fr.set 6 (some (.tup [.bool false]))).set 7 (some (.bool false)) }, by kernel_rfl, by kernel_rfl, by kernel_rfl, .inl rfl, .tup [], hKN fl nx lf es, 11, by kernel_rfl, rfl, rfl, rfl⟩
  · have h1 := hp.length_eq
    have h2 := he.length_eq
    simp only [List.nil_append, List.length_nil, List.length_cons] at h1 h2
    omega
theorem call113n : CallIs Tryz.prog 113 [nilS, w88] (hKeN fl nx lf es) 8 nilS (hKeN fl nx lf es) 8 := by
  refine callIs_of_TG Tryz.func113 (code := cdA2) (by kernel_rfl) (by kernel_rfl) ?_
  obtain ⟨L1, hr1⟩ := kn_2 fl nx lf es
  refine TG_isN1 1 (XQ []) mo (by kernel_rfl) hr1 all_nil ?_
  show TG Tryz.prog 8 Tryz.f113.ntmps tlA2 (stG [(1, w88), (2, P 8)] (hL (lKN fl nx lf es ++ [(8, .cells [nilS])])) 9) _
  refine TG_seq' (by kernel_rfl) ?_
  refine TG_seq' (by kernel_rfl) ?_
  obtain ⟨L2, hr2⟩ := kn_3 fl nx lf es
  refine TG_is (XQ []) mo anyR (by kernel_rfl) hr2 fun g hg _ => ?_
  rw [List.mem_singleton] at hg; subst hg
  refine ⟨all_nil, fun s' hs' => ?_⟩
  have hs' : normG 8 [2, 6] s' = some (sKaN fl nx lf es) := hs'
  refine TG_norm hs' ?_
  refine TG_block (i := 0) (by kernel_rfl) ?_
  refine TG_rangeN (gf := 88) (lb := [.ptr (some (7, 0))]) (by kernel_rfl) (by kernel_rfl) (by kernel_rfl) (by kernel_rfl) (by kernel_rfl) (call88n fl nx lf es).one ?_
  rintro v h n ⟨rfl, rfl, rfl⟩
  refine ⟨by kernel_rfl, ?_⟩
  show TG Tryz.prog 8 Tryz.f113.ntmps (seqR tlA2) _ _
  obtain ⟨L5, hr5⟩ := kn_5 fl nx lf es
  refine TG_ret (XQ []) mo _ (by kernel_rfl) hr5 fun g hg _ => ?_
  rw [List.mem_singleton] at hg; subst hg
  exact ⟨all_nil, _, _, _, rfl, rfl, rfl, rfl⟩
theorem call23n : CallIs Tryz.prog 23 [P3] (memS (pN fl nx lf es [])) 7 nilS (memS (pN fl nx lf es [])) 7 := by
  have h86 : CallIs Tryz.prog 86 [w88] (hKeN fl nx lf es) 8 nilS (hKeN fl nx lf es) 8 := by
    refine callIs_of_TG Tryz.func86 (code := cdC2) (by kernel_rfl) (by kernel_rfl) ?_
    obtain ⟨L5, hr5⟩ := kn_6 fl nx lf es
    refine TG_ret ((XQ []).pin (Nat.le_of_ble_eq_true (by kernel_rfl)) (call113n fl nx lf es)) mo _ (by kernel_rfl) hr5 fun g hg _ => ?_
    rw [List.mem_singleton] at hg; subst hg
    exact ⟨fun p hp => by rw [List.mem_singleton] at hp; subst hp; exact pinEq, _, _, _, rfl, rfl, rfl, rfl⟩
  have h61 : CallIs Tryz.prog 61 [w88] (hKeN fl nx lf es) 8 nilS (hKeN fl nx lf es) 8 := by
    refine callIs_of_TG Tryz.func61 (code := cdS2) (by kernel_rfl) (by kernel_rfl) ?_
    obtain ⟨L5, hr5⟩ := kn_8 fl nx lf es
    refine TG_ret ((XQ []).pin (Nat.le_of_ble_eq_true (by kernel_rfl)) h86) mo _ (by kernel_rfl) hr5 fun g hg _ => ?_
    rw [List.mem_singleton] at hg; subst hg
    refine ⟨?_, _, _, _, rfl, rfl, rfl, rfl⟩
    repeat' (first | exact all_nil | refine List.forall_mem_cons.2 ⟨?_, ?_⟩)
    · exact pinEq
    · decide
  refine callIs_of_TG Tryz.func23 (code := cdRo) (by kernel_rfl) (by kernel_rfl) ?_
  obtain ⟨L5, hr5⟩ := kn_7 fl nx lf es
  refine TG_ret ((XQ []).pin (Nat.le_of_ble_eq_true (by kernel_rfl)) h61) mo _ (by kernel_rfl) hr5 fun g hg _ => ?_
  rw [List.mem_singleton] at hg; subst hg
  exact ⟨fun p hp => by rw [List.mem_singleton] at hp; subst hp; exact pinEq, _, _, _, rfl, rfl, rfl, rfl⟩
end
end Go.Proofs.YtfihojpgobmmdaaGreatDoor
namespace Go.Proofs.YtfihojpgobmmdaaGreatDoor
open Go Go.Eng
def hX (p : Sto) (o : O) : Tr O := (memS p).set 7 (some o)
abbrev mQ (len cap : Nat) (lg : List UInt8) (nx : Int) (es rt : List (D × D)) : Sto := pS len cap lg 0 nx 0 es rt
abbrev nV (k : Nat) : V := .int .i64 (Int.ofNat k)
abbrev eV (e : Int) : V := .int .i64 e
end Go.Proofs.YtfihojpgobmmdaaGreatDoor
namespace Go.Proofs.YtfihojpgobmmdaaGreatDoor
open Go Go.Eng
theorem beqB_self (a : List UInt8) : V.bool (!beqB a a) = V.bool false := by rw [beqB_eq]; simp
theorem bne_self' {α : Type} [BEq α] [LawfulBEq α] (a : α) : V.bool (a != a) = V.bool false := by simp
structure InvS (B len cap : Nat) (lg : List UInt8) (es : List (D × D)) : Prop where
  hln : len = lg.length
  hcp : 0 < cap
  hle : len ≤ B
  hen : Ent es
section
variable (f : Bool) (l : List (List UInt8)) (i : Nat) (d : List UInt8) (hd : d.length ≤ 200)
theorem lt15 : 15 < Tryz.prog.funcs.size := Nat.le_of_ble_eq_true (by kernel_rfl)
variable {len cap : Nat} {lg : List UInt8} {nx : Int} {es : List (D × D)}
end
section
variable (f : Bool) (l : List (List UInt8))
end
end Go.Proofs.YtfihojpgobmmdaaGreatDoor
namespace Go.Proofs.YtfihojpgobmmdaaGreatDoor
open Go Go.Eng
theorem lt16 : 16 < Tryz.prog.funcs.size := Nat.le_of_ble_eq_true (by kernel_rfl)
theorem veq_t {a b : Int} (h : a = b) : V.bool (a == b) = V.bool true := by rw [h]; simp
theorem veq_f {a b : Int} (h : a ≠ b) : V.bool (a == b) = V.bool false := by rw [beq_eq_false_iff_ne.2 h]
def RtA (a : List UInt8) (rt : List (D × D)) : Prop := ∀ n, lookD (.str n) rt = none ∨ lookD (.str n) rt = some (.str a)
theorem RtA.rte {a : List UInt8} {rt : List (D × D)} (h : RtA a rt) : RtE rt := fun n => (h n).imp id fun h => ⟨_, h⟩
theorem RtA.upd {a n : List UInt8} {rt : List (D × D)} (h : RtA a rt) : RtA a (updD (.str n) (.str a) rt) := by
  intro x
  rw [look_upd]
  by_cases q : x = n
  · rw [if_pos q]; exact .inr rfl
  · rw [if_neg q]; exact h x
theorem namB32 {n d : List UInt8} (hn : n.length ≤ 64) (hd : d.length ≤ 32) : (namB n d).length ≤ 116 ∧ 0 < (namB n d).length := by
  have := namB_len n d
  omega
theorem ne32 {a : List UInt8} (h : a.length = 32) : a ≠ [] := by rintro rfl; cases h
section
variable (r tx : List UInt8)
structure KF (a g g2 : List UInt8) (k : Nat) (e e2 : Int) (es : List (D × D)) : Prop where
  k8 : k < 8
  ha : Has es a
  hal : a.length = 32
  hg : (k = 0 ∧ e = 0 ∧ Has es g ∧ g.length = 32) ∨ (0 < k ∧ e = 1 ∧ g = [])
  hg2 : (k = 0 ∧ e2 = 0 ∧ Has es g2 ∧ g2.length = 32) ∨ (0 < k ∧ e2 = 1 ∧ g2 = [])
  hemp : lookD (.str []) es = none
theorem KF.upd {a g g2 : List UInt8} {k : Nat} {e e2 : Int} {es : List (D × D)} {y d : List UInt8} {rs : List (List UInt8)} {q : Int} (h : KF a g g2 k e e2 es) (hy : y.length = 32) : KF a g g2 k e e2 (updD (.str y) (entD d rs q) es) :=
  ⟨h.k8, has_upd h.ha, h.hal, h.hg.imp (fun ⟨x, y, z, w⟩ => ⟨x, y, has_upd z, w⟩) id, h.hg2.imp (fun ⟨x, y, z, w⟩ => ⟨x, y, has_upd z, w⟩) id, by rw [look_upd, if_neg (by intro q; rw [← q] at hy; cases hy)]; exact h.hemp⟩
variable {a g g2 : List UInt8} {k : Nat} {e e2 : Int} {len cap : Nat} {lg : List UInt8} {nx : Int} {es rt : List (D × D)}
theorem invS_app {B len cap m : Nat} {lg l2 : List UInt8} {es es2 : List (D × D)} (inv : InvS B len cap lg es) (h0 : 0 < l2.length) (hm : l2.length ≤ m) (he : Ent es2) : InvS (B + m) (len + l2.length) (len + l2.length) (lg ++ l2) es2 :=
  ⟨by rw [List.length_append, inv.hln], by omega, by have := inv.hle; omega, he⟩
theorem invS_mono {B B2 len cap : Nat} {lg : List UInt8} {es : List (D × D)} (inv : InvS B len cap lg es) (h : B ≤ B2) : InvS B2 len cap lg es := ⟨inv.hln, inv.hcp, Nat.le_trans inv.hle h, inv.hen⟩
def RefsOk (es : List (D × D)) : Prop := ∀ x d rs q, lookD (.str x) es = some (entD d rs q) → rs.length ≤ 1024
theorem RefsOk.upd {y d : List UInt8} {rs : List (List UInt8)} {q : Int} (h : RefsOk es) (hr : rs.length ≤ 1024) : RefsOk (updD (.str y) (entD d rs q) es) := by
  intro x d2 rs2 q2 hx
  rw [look_upd] at hx
  by_cases hxy : x = y
  · rw [if_pos hxy] at hx
    simp only [Option.some.injEq, entD, D.agg.injEq, List.cons.injEq, D.lst.injEq] at hx
    have := hx.2.1.1
    omega
  · rw [if_neg hxy] at hx; exact h _ _ _ _ hx
structure KE (a g : List UInt8) (k : Nat) (e : Int) (es : List (D × D)) : Prop where
  k8 : k < 8
  ha : Has es a
  hal : a.length = 32
  hg : (k = 0 ∧ e = 0 ∧ Has es g ∧ g.length = 32) ∨ (0 < k ∧ e = 1 ∧ g = [])
  hemp : lookD (.str []) es = none
  hro : RefsOk es
  hkeys : ∀ x, lookD (.str x) es = none ∨ x = a ∨ x = g
end
end Go.Proofs.YtfihojpgobmmdaaGreatDoor
