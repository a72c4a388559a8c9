/- The Chunk laws: the library's sort of strings at this program, in plain words. No conditions. -/
import Derived.Shelf.Sort.Plain
import Derived.Test.YtfihojpgobmmdaaGreatDoorJointFourteen
import Derived.Test.YtfihojpgobmmdaaGreatDoorJointFifteen
import Derived.Shelf.SlSortCmp.Whole1
import Derived.Deep.QuietTactic
set_option linter.unusedVariables false
set_option linter.unusedSimpArgs false
set_option linter.unusedSectionVars false
namespace Go.Proofs.YtfihojpgobmmdaaGreatDoor
open Go Go.Eng Go.Shelf Go.Sort Go.RowKit
def sortRen:Go.Shelf.Ren:=⟨fun | 190=>87 | 125=>102 | 258=>114 | 128=>132 | 129=>133 | 302=>134 | 303=>135 | 304=>136 | 305=>137 | 306=>138 | 307=>139 | 308=>140 | 309=>141 | 310=>142 | 333=>152 | 329=>148 | 330=>149 | 334=>153 | 335=>154 | 336=>155 | 344=>158 | n=>n,fun | 31=>36 | 9=>9 | 3=>3 | 46=>144 | 0=>0 | 51=>120 | 53=>135 | 4=>4 | 183=>173 | 182=>172 | 131=>177 | 5=>5 | 218=>192 | 222=>196 | 228=>200 | 229=>201 | n=>n,fun n=>n⟩
theorem sortLays:Lays.n190 Tryz.prog sortRen:={
 mixed:=mo
 f125:=Tryz.func102.trans (congrArg some (by kernel_rfl))
 f128:=Tryz.func132.trans (congrArg some (by kernel_rfl))
 f129:=Tryz.func133.trans (congrArg some (by kernel_rfl))
 f190:=Tryz.func87.trans (congrArg some (by kernel_rfl))
 f258:=Tryz.func114.trans (congrArg some (by kernel_rfl))
 f302:=Tryz.func134.trans (congrArg some (by kernel_rfl))
 f303:=Tryz.func135.trans (congrArg some (by kernel_rfl))
 f304:=Tryz.func136.trans (congrArg some (by kernel_rfl))
 f305:=Tryz.func137.trans (congrArg some (by kernel_rfl))
 f306:=Tryz.func138.trans (congrArg some (by kernel_rfl))
 f307:=Tryz.func139.trans (congrArg some (by kernel_rfl))
 f308:=Tryz.func140.trans (congrArg some (by kernel_rfl))
 f309:=Tryz.func141.trans (congrArg some (by kernel_rfl))
 f310:=Tryz.func142.trans (congrArg some (by kernel_rfl))
 f329:=Tryz.func148.trans (congrArg some (by kernel_rfl))
 f330:=Tryz.func149.trans (congrArg some (by kernel_rfl))
 f333:=Tryz.func152.trans (congrArg some (by kernel_rfl))
 f334:=Tryz.func153.trans (congrArg some (by kernel_rfl))
 f335:=Tryz.func154.trans (congrArg some (by kernel_rfl))
 f336:=Tryz.func155.trans (congrArg some (by kernel_rfl))
 f344:=Tryz.func158.trans (congrArg some (by kernel_rfl))
 t0:=Tryz.underlying0
 a0:=Tryz.isAgg0
 z0:=Tryz.sizeOf0
 v0:=Tryz.zeroValue0
 t3:=Tryz.underlying3
 a3:=Tryz.isAgg3
 z3:=Tryz.sizeOf3
 v3:=Tryz.zeroValue3
 t4:=Tryz.underlying4
 a4:=Tryz.isAgg4
 z4:=Tryz.sizeOf4
 v4:=Tryz.zeroValue4
 t5:=Tryz.underlying5
 a5:=Tryz.isAgg5
 z5:=Tryz.sizeOf5
 v5:=Tryz.zeroValue5
 t9:=Tryz.underlying9
 a9:=Tryz.isAgg9
 z9:=Tryz.sizeOf9
 v9:=Tryz.zeroValue9
 t31:=Tryz.underlying36
 a31:=Tryz.isAgg36
 z31:=Tryz.sizeOf36
 v31:=Tryz.zeroValue36
 t46:=Tryz.underlying144
 a46:=Tryz.isAgg144
 z46:=Tryz.sizeOf144
 v46:=Tryz.zeroValue144
 t51:=Tryz.underlying120
 a51:=Tryz.isAgg120
 z51:=Tryz.sizeOf120
 v51:=Tryz.zeroValue120
 t53:=Tryz.underlying135
 a53:=Tryz.isAgg135
 z53:=Tryz.sizeOf135
 v53:=Tryz.zeroValue135
 t131:=Tryz.underlying177
 a131:=Tryz.isAgg177
 z131:=Tryz.sizeOf177
 v131:=Tryz.zeroValue177
 t182:=Tryz.underlying172
 a182:=Tryz.isAgg172
 z182:=Tryz.sizeOf172
 v182:=Tryz.zeroValue172
 t183:=Tryz.underlying173
 a183:=Tryz.isAgg173
 z183:=Tryz.sizeOf173
 v183:=Tryz.zeroValue173
 t218:=Tryz.underlying192
 a218:=Tryz.isAgg192
 z218:=Tryz.sizeOf192
 v218:=Tryz.zeroValue192
 t222:=Tryz.underlying196
 a222:=Tryz.isAgg196
 z222:=Tryz.sizeOf196
 v222:=Tryz.zeroValue196
 t228:=Tryz.underlying200
 a228:=Tryz.isAgg200
 z228:=Tryz.sizeOf200
 v228:=Tryz.zeroValue200
 t229:=Tryz.underlying201
 a229:=Tryz.isAgg201
 z229:=Tryz.sizeOf201
 v229:=Tryz.zeroValue201
}
theorem sorts87:SortsS Tryz.prog 87:=fun blk off cap ss w hH hblk hsz=>Any.slices_Sort_string sortLays blk off cap ss w hH hblk hsz
end Go.Proofs.YtfihojpgobmmdaaGreatDoor
namespace Go.Proofs.YtfihojpgobmmdaaGreatDoor
open Go Go.Eng Go.Shelf Go.Sort Go.RowKit
def sfRen:Go.Shelf.Ren:=⟨fun | 6=>80 | 15=>102 | 14=>101 | 28=>132 | 29=>133 | 20=>124 | 21=>125 | 22=>126 | 23=>127 | 24=>128 | 25=>129 | 26=>130 | 27=>131 | 46=>147 | 47=>148 | 48=>149 | 49=>150 | 50=>151 | 57=>157 | n=>n,fun | 22=>25 | 24=>26 | 25=>99 | 3=>3 | 39=>144 | 0=>0 | 53=>120 | 55=>135 | 4=>4 | 46=>173 | 45=>172 | 50=>177 | 5=>5 | 9=>9 | 66=>192 | 70=>196 | 76=>200 | 77=>201 | n=>n,fun n=>n⟩
theorem sfLays:SlLaysF.n6 Tryz.prog sfRen:={
 mixed:=mo
 f6:=⟨"slices.SortFunc[[]gouache/api.Digest,gouache/api.Digest]",by decide,Tryz.func80.trans (congrArg some (by kernel_rfl))⟩
 f14:=⟨"slices.pdqsortCmpFunc[gouache/api.Digest]",by decide,Tryz.func101.trans (congrArg some (by kernel_rfl))⟩
 f15:=Tryz.func102.trans (congrArg some (by kernel_rfl))
 f20:=⟨"slices.insertionSortCmpFunc[gouache/api.Digest]",by decide,Tryz.func124.trans (congrArg some (by kernel_rfl))⟩
 f21:=⟨"slices.heapSortCmpFunc[gouache/api.Digest]",by decide,Tryz.func125.trans (congrArg some (by kernel_rfl))⟩
 f22:=⟨"slices.breakPatternsCmpFunc[gouache/api.Digest]",by decide,Tryz.func126.trans (congrArg some (by kernel_rfl))⟩
 f23:=⟨"slices.choosePivotCmpFunc[gouache/api.Digest]",by decide,Tryz.func127.trans (congrArg some (by kernel_rfl))⟩
 f24:=⟨"slices.reverseRangeCmpFunc[gouache/api.Digest]",by decide,Tryz.func128.trans (congrArg some (by kernel_rfl))⟩
 f25:=⟨"slices.partialInsertionSortCmpFunc[gouache/api.Digest]",by decide,Tryz.func129.trans (congrArg some (by kernel_rfl))⟩
 f26:=⟨"slices.partitionEqualCmpFunc[gouache/api.Digest]",by decide,Tryz.func130.trans (congrArg some (by kernel_rfl))⟩
 f27:=⟨"slices.partitionCmpFunc[gouache/api.Digest]",by decide,Tryz.func131.trans (congrArg some (by kernel_rfl))⟩
 f28:=Tryz.func132.trans (congrArg some (by kernel_rfl))
 f29:=Tryz.func133.trans (congrArg some (by kernel_rfl))
 f46:=⟨"slices.siftDownCmpFunc[gouache/api.Digest]",by decide,Tryz.func147.trans (congrArg some (by kernel_rfl))⟩
 f47:=Tryz.func148.trans (congrArg some (by kernel_rfl))
 f48:=Tryz.func149.trans (congrArg some (by kernel_rfl))
 f49:=⟨"slices.medianAdjacentCmpFunc[gouache/api.Digest]",by decide,Tryz.func150.trans (congrArg some (by kernel_rfl))⟩
 f50:=⟨"slices.medianCmpFunc[gouache/api.Digest]",by decide,Tryz.func151.trans (congrArg some (by kernel_rfl))⟩
 f57:=⟨"slices.order2CmpFunc[gouache/api.Digest]",by decide,Tryz.func157.trans (congrArg some (by kernel_rfl))⟩
 t0:=Tryz.underlying0
 a3:=Tryz.isAgg3
 z4:=Tryz.sizeOf4
 v5:=Tryz.zeroValue5
 t22:=Tryz.underlying25
 z24:=Tryz.sizeOf26
 t39:=Tryz.underlying144
 t45:=Tryz.underlying172
 t46:=Tryz.underlying173
 t50:=Tryz.underlying177
 t53:=Tryz.underlying120
 t55:=Tryz.underlying135
 t66:=Tryz.underlying192
 t70:=Tryz.underlying196
 t76:=Tryz.underlying200
 t77:=Tryz.underlying201
 a0:=Tryz.isAgg0
 z0:=Tryz.sizeOf0
 v0:=Tryz.zeroValue0
 t3:=Tryz.underlying3
 z3:=Tryz.sizeOf3
 v3:=Tryz.zeroValue3
 t4:=Tryz.underlying4
 a4:=Tryz.isAgg4
 v4:=Tryz.zeroValue4
 t5:=Tryz.underlying5
 a5:=Tryz.isAgg5
 z5:=Tryz.sizeOf5
 t9:=Tryz.underlying9
 a9:=Tryz.isAgg9
 z9:=Tryz.sizeOf9
 v9:=Tryz.zeroValue9
 a22:=Tryz.isAgg25
 z22:=Tryz.sizeOf25
 v22:=Tryz.zeroValue25
 a24:=Tryz.isAgg26
 t25:=Tryz.underlying99
 a25:=Tryz.isAgg99
 z25:=Tryz.sizeOf99
 v25:=Tryz.zeroValue99
 a39:=Tryz.isAgg144
 z39:=Tryz.sizeOf144
 v39:=Tryz.zeroValue144
 a45:=Tryz.isAgg172
 z45:=Tryz.sizeOf172
 v45:=Tryz.zeroValue172
 a46:=Tryz.isAgg173
 z46:=Tryz.sizeOf173
 v46:=Tryz.zeroValue173
 a50:=Tryz.isAgg177
 z50:=Tryz.sizeOf177
 v50:=Tryz.zeroValue177
 a53:=Tryz.isAgg120
 z53:=Tryz.sizeOf120
 v53:=Tryz.zeroValue120
 a55:=Tryz.isAgg135
 z55:=Tryz.sizeOf135
 v55:=Tryz.zeroValue135
 a66:=Tryz.isAgg192
 z66:=Tryz.sizeOf192
 v66:=Tryz.zeroValue192
 a70:=Tryz.isAgg196
 z70:=Tryz.sizeOf196
 v70:=Tryz.zeroValue196
 a76:=Tryz.isAgg200
 z76:=Tryz.sizeOf200
 v76:=Tryz.zeroValue200
 a77:=Tryz.isAgg201
 z77:=Tryz.sizeOf201
 v77:=Tryz.zeroValue201
}
end Go.Proofs.YtfihojpgobmmdaaGreatDoor
namespace Go.Proofs.YtfihojpgobmmdaaGreatDoor
open Go Go.Eng Go.Shelf Go.Sort Go.RowKit
theorem fld95 (a1 a2:Value) (i:Int) (W:World):(Instr.field 95 (.agg #[a1,a2,.int .i64 i]) 2).run Tryz.prog W= .ok (.int .i64 i) W:=by
 have u95:=Tryz.underlying95
 have w3:=Tryz.isAgg3
 simp [Instr.field,run_und u95,asAgg]
 simp [part,w3,Sem.run_bind]
theorem i64_w (n:Int):IntKind.i64.wrap n=wrap64 n:=IntWalk.i64_left n
set_option maxHeartbeats 1000000 in
theorem closure56 (W:World) (bb so b3 s3 mb:Nat) (sx sy a1 a2 b1 b2:Value) (i j:Int) (h1:W.cell? ⟨bb,so,none⟩=some (.pointer (some ⟨b3,s3,none⟩))) (h2:W.cell? ⟨b3,s3+2,none⟩=some (.map (some mb)))
  (l1:∀ n,(Instr.lookup 79 (.map (some mb)) sx false).run Tryz.prog (W.drewN n)= .ok (.agg #[a1,a2,.int .i64 i]) (W.drewN n)) (l2:∀ n,(Instr.lookup 79 (.map (some mb)) sy false).run Tryz.prog (W.drewN n)= .ok (.agg #[b1,b2,.int .i64 j]) (W.drewN n)):
  Calls Tryz.prog 56 #[sx,sy,.pointer (some ⟨bb,so,none⟩)] W fun e w'=>e= .returned (.int .i64 (IntKind.i64.wrap (i - j)))∧∃ q,w'=W.drewN q:=by
 have f1:=fld95 a1 a2 i
 have f2:=fld95 b1 b2 j
 go_enter Tryz.func56,Tryz.ntmps56
 go_wp2
 go_quiet (fail)
 go_wp2
 go_ret
 refine ⟨?_,nq,rfl⟩
 show Ending.returned (.int .i64 (wrap64 (i - j)))=_
 rw [i64_w]
end Go.Proofs.YtfihojpgobmmdaaGreatDoor
namespace Go.Proofs.YtfihojpgobmmdaaGreatDoor
open Go Go.Eng
theorem keyStr (x:List UInt8) (d:D):keyEqD (.str x) d=true ↔ d= .str x:=by
 cases d <;> simp [keyEqD,beqB_eq]
 exact eq_comm
theorem keyStrF {x:List UInt8} {d:D} (h:d ≠ .str x):keyEqD (.str x) d=false:=by
 cases q:keyEqD (.str x) d with
 | false=>rfl
 | true=>exact absurd ((keyStr x d).1 q) h
open Classical in
theorem lookD_cons (x:List UInt8) (e:D × D) (es:List (D × D)):lookD (.str x) (e :: es)=if e.1= .str x then some e.2 else lookD (.str x) es:=by
 simp only [lookD]
 by_cases h:e.1= .str x
 · rw [if_pos h,(keyStr x e.1).2 h]
 · rw [if_neg h,keyStrF h]
open Classical in
theorem updD_cons (x:List UInt8) (v:D) (e:D × D) (es:List (D × D)):updD (.str x) v (e :: es)=if e.1= .str x then (.str x,v) :: es else e :: updD (.str x) v es:=by
 simp only [updD]
 by_cases h:e.1= .str x
 · rw [if_pos h,(keyStr x e.1).2 h]
 · rw [if_neg h,keyStrF h]
theorem look_upd (x y:List UInt8) (v:D):∀ es:List (D × D),lookD (.str x) (updD (.str y) v es)=if x=y then some v else lookD (.str x) es
 | []=>by
   show lookD (.str x) [(.str y,v)]=_
   rw [lookD_cons]
   by_cases h:x=y
   · rw [if_pos h,if_pos (by rw [h])]
   · rw [if_neg h,if_neg (by intro q; simp only [D.str.injEq] at q; exact h q.symm)]
 | e :: es=>by
   rw [updD_cons]
   by_cases he:e.1= .str y
   · rw [if_pos he,lookD_cons,lookD_cons]
     by_cases h:x=y
     · rw [if_pos h,if_pos (by rw [h])]
     · rw [if_neg h,if_neg (by intro q; simp only [D.str.injEq] at q; exact h q.symm),if_neg (by rw [he]; intro q; simp only [D.str.injEq] at q; exact h q.symm)]
   · rw [if_neg he,lookD_cons,lookD_cons,look_upd x y v es]
     by_cases h:x=y
     · subst h
       rw [if_neg he,if_pos rfl,if_pos rfl]
     · rw [if_neg h,if_neg h]
theorem upd_len_new {y:List UInt8} (v:D):∀ {es:List (D × D)},lookD (.str y) es=none→updD (.str y) v es=es ++ [(.str y,v)]
 | [],_=>rfl
 | e :: es,h=>by
   rw [lookD_cons] at h
   split at h
   · cases h
   · rename_i he
     rw [updD_cons,if_neg he,upd_len_new v h]; rfl
def Ent (es:List (D × D)):Prop:=∀ x,lookD (.str x) es=none ∨ Has es x
theorem ent_nil:Ent []:=fun _=>.inl rfl
theorem has_upd {es:List (D × D)} {x y:List UInt8} {d:List UInt8} {rs:List (List UInt8)} {k:Int} (h:Has es x):Has (updD (.str y) (entD d rs k) es) x:=by
 unfold Has at h ⊢
 rw [look_upd]
 by_cases q:x=y
 · rw [if_pos q]; exact ⟨_,_,_,rfl⟩
 · rw [if_neg q]; exact h
theorem has_upd_self {es:List (D × D)} {y:List UInt8} {d:List UInt8} {rs:List (List UInt8)} {k:Int}:Has (updD (.str y) (entD d rs k) es) y:=by
 unfold Has
 rw [look_upd,if_pos rfl]; exact ⟨_,_,_,rfl⟩
theorem ent_upd {es:List (D × D)} {y:List UInt8} {d:List UInt8} {rs:List (List UInt8)} {k:Int} (h:Ent es):Ent (updD (.str y) (entD d rs k) es):=by
 intro x
 rw [look_upd]
 by_cases q:x=y
 · subst q; exact .inr has_upd_self
 · rw [if_neg q]
   rcases h x with h | h
   · exact .inl h
   · exact .inr (has_upd h)
theorem has_some {es:List (D × D)} {x:List UInt8} (h:Has es x):lookD (.str x) es ≠ none:=by
 obtain ⟨d,rs,k,h⟩:=h; rw [h]; simp
end Go.Proofs.YtfihojpgobmmdaaGreatDoor
namespace Go.Proofs.YtfihojpgobmmdaaGreatDoor
open Go Go.Eng Go.Shelf Go.Sort Go.RowKit
def numD (es:List (D × D)) (x:List UInt8):Int:=match lookD (.str x) es with
 | some (.agg [_,_,.int _ k])=>k
 | _=>0
theorem look79 {b:Nat} {es':Array MapEntry} {clock:Nat} {φ:Nat→Option (Array Value)} {es:List (D × D)} (hr:MapRel φ none es es'.toList clock) (hent:Ent es) (x:List UInt8):
  ∃ a1 a2,∀ W:World,W.heap[b]? =some (.map es' clock)→(Instr.lookup 79 (.map (some b)) (Value.string ⟨x.toArray⟩) false).run Tryz.prog W= .ok (.agg #[a1,a2,.int .i64 (numD es x)]) W:=by
 have hu:Tryz.prog.underlying 79=some (.map 26 95):=by kernel_rfl
 have hk:Tryz.prog.underlying 26=some .string:=by kernel_rfl
 have hlk:=hr.look (kd:=.string) (k:=.str x) (k':=Value.string ⟨x.toArray⟩) rfl rfl rfl
 have hck:∀ W:World,(Instr.checkKey es'.isEmpty 10000 26 (Value.string ⟨x.toArray⟩)).run Tryz.prog W= .ok () W:=fun W=>run_checkKey' (E:=⟨fun _=>none,fun _=>0,φ⟩) 9999 hk (k:=.str x) rfl rfl
 rcases hent x with hL | ⟨d,rs,k,hL⟩
 · rw [hL] at hlk
   have hz:zeroOf Tryz.prog 95=some (.agg [.str [],.slc none 0 0 0,.int .i64 0]):=by kernel_rfl
   have hz2:∀ W:World,(zeroValue 95).run Tryz.prog W= .ok (.agg #[.string ⟨#[]⟩,.slice none 0 0,.int .i64 0]) W:=by
    intro W
    exact Tryz.zeroValue95 W
   refine ⟨.string ⟨#[]⟩,.slice none 0 0,fun W hb=>?_⟩
   have hgo:=heap_cells_getObj (P:=Tryz.prog) hb (by intro _ _ _ q; cases q)
   have hn:numD es x=0:=by unfold numD; rw [hL]
   rw [hn]
   simp only [Instr.lookup,Sem.run_bind,run_und hu,Result.andThen_ok,Sem.run_pure,hgo,hck,run_findKey hk hlk,hz2]
   rfl
 · rw [hL] at hlk
   obtain ⟨j,v',q1,q2⟩:=hlk
   have hn:numD es x=k:=by unfold numD; rw [hL]; rfl
   obtain ⟨vs,hv,rfl⟩:=q2
   obtain ⟨y1,ys1,_,r1,hv,rfl⟩:=hv
   obtain ⟨y2,ys2,_,r2,hv,rfl⟩:=hv
   obtain ⟨y3,ys3,_,r3,hv,rfl⟩:=hv
   have hv:ys3=[]:=hv
   subst hv
   have r3:y3= .int .i64 k:=r3
   subst r3
   refine ⟨y1,y2,fun W hb=>?_⟩
   have hgo:=heap_cells_getObj (P:=Tryz.prog) hb (by intro _ _ _ q; cases q)
   rw [hn]
   simp only [Instr.lookup,Sem.run_bind,run_und hu,Result.andThen_ok,Sem.run_pure,hgo,hck,run_findKey hk q1]
   rfl
def cfN (es:List (D × D)) (x y:List UInt8):Int:=IntKind.i64.wrap (numD es x - numD es y)
theorem cfN_lt {es:List (D × D)} (hn:∀ x,0 ≤ numD es x∧numD es x < 1000000000) (x y:List UInt8):ltOf (cfN es) x y=decide (numD es x < numD es y):=by
 unfold ltOf cfN
 have h1:=hn x
 have h2:=hn y
 rw [wrap_id (by omega) (by omega)]
 exact decide_eq_decide.2 (by omega)
theorem cfN_swo {es:List (D × D)} (hn:∀ x,0 ≤ numD es x∧numD es x < 1000000000):SWO (ltOf (cfN es)) where
 irrefl x:=by rw [cfN_lt hn]; simp
 trans x y z h1 h2:=by rw [cfN_lt hn] at *; simp at *; omega
 ntrans x y z h1 h2:=by rw [cfN_lt hn] at *; simp at *; omega
theorem sorted_one {α:Type} {f:α→Int}:∀ {a b:List α},List.Perm a b→a.Pairwise (fun x y=>¬ f y < f x)→b.Pairwise (fun x y=>f x < f y)→a=b
 | [],b,hp,_,_=>(hp.symm.eq_nil).symm
 | x :: a,[],hp,_,_=>absurd hp.length_eq (by simp)
 | x :: a,y :: b,hp,h1,h2=>by
   have hx:x ∈ y :: b:=hp.mem_iff.1 (by simp)
   have hy:y ∈ x :: a:=hp.mem_iff.2 (by simp)
   have e:x=y:=by
    rcases List.mem_cons.1 hx with h | h
    · exact h
    · have q1:=(List.pairwise_cons.1 h2).1 x h
      rcases List.mem_cons.1 hy with h' | h'
      · exact h'.symm
      · exact absurd q1 ((List.pairwise_cons.1 h1).1 y h')
   subst e
   rw [sorted_one (List.perm_cons x |>.1 hp) (List.pairwise_cons.1 h1).2 (List.pairwise_cons.1 h2).2]
theorem sortW_heap {w:World} {b o m:Nat} {dk:Array (List UInt8)} {os:Array Obj} {k:Nat} (hk:k ≠ b) {ob:Obj} (h:w.heap[k]? =some ob):(sortWorld encStr w b o m dk os).heap[k]? =some ob:=by
 have hlt:k < w.heap.size:=(Array.getElem?_eq_some_iff.1 h).1
 show ((putRow encStr (Sort.ahead w m) b o dk).heap ++ os)[k]? =_
 rw [Array.getElem?_append_left (by rw [size_putRow]; exact hlt)]
 show (w.heap.modify b (Sort.onCells _))[k]? =_
 rw [Array.getElem?_modify,if_neg (fun z=>hk z.symm)]
 exact h
theorem cell_at {W:World} {b o:Nat} {c:Array Value} {el:TypeId} {fz:Nat × Nat} {v:Value} (h:W.heap[b]? =some (.cells c el fz)) (hc:c[o]? =some v):W.cell? ⟨b,o,none⟩=some v:=by
 unfold World.cell?; simp only [h]; exact hc
theorem call80 {h:Tr O} {n m bx st c cp:Nat} {cs:List V} {es:List (D × D)} (ks zs:List (List UInt8)) (hm:h.get m=some (.deep (strs ks))) (hmt:m < top) (hbx:h.get bx=some (.cells [.ptr (some (st,0))])) (hst:h.get st=some (.cells cs)) (hcs:cs[2]? =some (.map (some c))) (hes:h.get c=some (.mapD none es))
  (hent:Ent es) (hn:∀ x,0 ≤ numD es x∧numD es x < 1000000000) (h0:0 < ks.length) (hbig:ks.length < 1000000) (hp:List.Perm zs ks) (hz:zs.Pairwise fun a b=>numD es a < numD es b) (n1:m ≠ bx) (n2:m ≠ st) (n3:m ≠ c):
  CallIs Tryz.prog 80 [.slc (some (m,0)) ks.length cp 1,.fn (.func 56) [] [.ptr (some (bx,0))]] h n (.tup []) (h.set m (some (.deep (strs zs)))) n:=by
 refine put_callIs (ss:=ks) (zs:=zs) hp.length_eq hm hmt h0 rfl hbig fun E w b o cap rest' g rs e1 hH hb=>?_
 obtain ⟨y,ys,⟨f',a',c',rf,ra,rc,rfl⟩,rs,rfl⟩:=rs
 have rs:ys=[]:=rs
 subst rs
 have rf:f'= .func 56:=rf
 subst rf
 have ra:a'=[]:=ra
 subst ra
 obtain ⟨z,zs',⟨bb,so,hbi,rfl⟩,rc,rfl⟩:=rc
 have rc:zs'=[]:=rc
 subst rc
 have hwl:wlive h m:=⟨_,hm,rfl⟩
 have apart:∀ j x t,m ≠ j→h.get j ≠ none→E.ι j=some (x,t)→x ≠ b:=fun j x t hne hj he q=>by
  subst q; exact g.inj m j x o t hne hwl hj e1 he
 obtain ⟨bb',so',q1,cb,elb,fzb,hb1,_,_,hb2⟩:=g.rel bx _ hbx
 rw [hbi] at q1
 simp only [Option.some.injEq,Prod.mk.injEq] at q1
 obtain ⟨rfl,rfl⟩:=q1
 obtain ⟨vb,hb3,b3,s3,hsi,rfl⟩:=hb2 0 _ rfl
 obtain ⟨b3',s3',q1,c3,el3,fz3,hs1,_,_,hs2⟩:=g.rel st _ hst
 rw [hsi] at q1
 simp only [Option.some.injEq,Prod.mk.injEq] at q1
 obtain ⟨rfl,rfl⟩:=q1
 obtain ⟨vm,hs3,mb,hci,rfl⟩:=hs2 2 _ hcs
 obtain ⟨mb',es',clock,q1,hmb,hmr⟩:=mapD_get g hes
 rw [hci] at q1
 simp only [Option.some.injEq,Prod.mk.injEq,and_true] at q1
 subst q1
 have nb:bb ≠ b:=apart bx _ _ n1 (by rw [hbx]; simp) hbi
 have nst:b3 ≠ b:=apart st _ _ n2 (by rw [hst]; simp) hsi
 have nmb:mb ≠ b:=apart c _ _ n3 (by rw [hes]; simp) hci
 have hcmp:CmpLays1 Tryz.prog 56 #[.pointer (some ⟨bb,so+0,none⟩)] encStr (cfN es) b o ks.toArray.size w:=by
  intro mm os dk hdk x y
  obtain ⟨a1,a2,l1⟩:=look79 hmr hent x
  obtain ⟨b1,b2,l2⟩:=look79 hmr hent y
  have hW:=sortW_heap (m:=mm) (dk:=dk) (os:=os) (o:=o) nmb hmb
  have h1:=cell_at (sortW_heap (m:=mm) (dk:=dk) (os:=os) (o:=o) nb hb1) hb3
  have h2:=cell_at (sortW_heap (m:=mm) (dk:=dk) (os:=os) (o:=o) nst hs1) hs3
  refine (closure56 _ bb (so+0) b3 (s3+0) mb (encStr x) (encStr y) a1 a2 b1 b2 (numD es x) (numD es y) h1 (by simpa using h2) (fun n=>l1 _ hW) (fun n=>l2 _ hW)).mono fun e w' ⟨he,q,hq⟩=>⟨he,q,#[],?_⟩
  rw [hq,grow_empty]
 have eg:∀ args w,(callFunc 56 args).run Tryz.prog w= .ok (.enter 56 args) w:=enters_of Tryz.func56 (by kernel_rfl) rfl
 have hS:=Any.slices_SortFunc sfLays encStr (fun _=>rfl) (cfN es) (cfN_swo hn) 56 #[.pointer (some ⟨bb,so+0,none⟩)] b o cap ks.toArray w eg hcmp hH hb (by simp; omega)
 refine hS.mono fun e w' ⟨he,d',nn,os,hp',hs',hw⟩=>⟨he,nn,os,?_⟩
 have hd:d'.toList=zs:=by
  obtain ⟨p1,p2,p3⟩:=hp'
  have e1:(d'.extract 0 ks.toArray.size).toList=d'.toList:=by rw [← p1]; simp
  have e2:(ks.toArray.extract 0 ks.toArray.size).toList=ks:=by simp
  rw [e1,e2] at p3
  refine sorted_one (f:=numD es) (p3.trans hp.symm) ?_ hz
  rw [List.pairwise_iff_getElem]
  intro i j hi hj hij
  have:=hs' i j (Nat.zero_le _) hij (by simp at hj p1 ⊢; omega)
  rw [cfN_lt hn] at this
  have:=of_decide_eq_false this
  rw [getElem!_pos d' j (by simpa using hj),getElem!_pos d' i (by simpa using hi)] at this
  simpa using this
 have:d'=zs.toArray:=by rw [← hd]
 rw [hw,this]; rfl
end Go.Proofs.YtfihojpgobmmdaaGreatDoor
