/- The Chunk laws: the roots in order, pieces. No conditions. -/
import Derived.Test.YtfihojpgobmmdaaGreatDoorJointEighteen
import Derived.Test.YtfihojpgobmmdaaGreatDoorJointSixteen
set_option linter.unusedVariables false
set_option linter.unusedSimpArgs false
set_option linter.unusedSectionVars false
namespace Go.Proofs.YtfihojpgobmmdaaGreatDoor
open Go Go.Eng
def w88:V:=.fn (.func 88) [] [.ptr (some (7,0))]
section
variable (len cap:Nat) (b:List UInt8) (fl nx lf:Int) (es rt:List (D × D))
def lK:List (Nat × O):=memL (pS len cap b fl nx lf es rt) ++ [(7,.cells [.map (some 6)])]
def lKg:List (Nat × O):=[(0,.ints .u32 gS),(1,.ints .u32 gR),(3,.cells (stoC 4 5 6 (pS len cap b fl nx lf es rt))),(4,.buf 5 false b),(5,.mapD none es),(7,.cells [.map (some 6)])]
def sKa:St:=stG [(2,.ptr (some (8,0))),(6,w88)] (hL (lK len cap b fl nx lf es rt ++ [(8,.cells [.slc none 0 0 0])])) 9
noncomputable def oKa:O:=.loop true none (sKa len cap b fl nx lf es rt).fr [7] asA2 boA2
noncomputable def hK (sl:V) (row:List (Nat × O)):Tr O:=hL (lK len cap b fl nx lf es rt ++ [(8,.cells [sl]),(9,.dfr),(10,oKa len cap b fl nx lf es rt)] ++ row)
noncomputable def SK (sl:V) (row:List (Nat × O)) (n:Nat):St:=stG [(0,.fn (.yield 10) [] []),(5,.ptr (some (11,0)))] (hL (lKg len cap b fl nx lf es rt ++ [(8,.cells [sl]),(9,.dfr),(10,oKa len cap b fl nx lf es rt)] ++ row)) n
end
abbrev P (m:Nat):V:=.ptr (some (m,0))
theorem ka_0 (len cap:Nat) (b:List UInt8) (fl nx lf:Int) (es rt:List (D × D)) (k:List UInt8) (v:V):∃ L,RunIs Tryz.prog (csQ []) [] 1000 12 Tryz.f88 [0,5] ((mlOf cdK2).rest) (kSt (SK len cap b fl nx lf es rt nilS [] 12) k v) L
  [([],
   [],
   .to .normal (stG [(0,.fn (.yield 10) [] []),(5,.ptr (some (11,0)))] (hL [(0,.ints .u32 gS),(1,.ints .u32 gR),(3,.cells [.slc (some (4,0)) len cap 1,.int .i64 fl,.map (some 5),.map (some 6),.int .i64 nx,.bool false,.bool false,.int .i64 lf]),(4,.buf 5 false b),(5,.mapD none es),(7,.cells [.map (some 6)]),(8,.cells [.slc (some (12,0)) 1 1 1]),(9,.dfr),(10,.loop true none (Eng.frL [(2,.ptr (some (8,0))),(6,.fn (.func 88) [] [.ptr (some (7,0))])]) [7] asA2 boA2),(12,.cells [.str k])]) 13))]
 :=RunIs.of (by kernel_rfl) (by kernel_rfl) (by kernel_rfl)
theorem ka_1 (len cap:Nat) (b:List UInt8) (fl nx lf:Int) (es rt:List (D × D)) (k:List UInt8) (v:V) (n:Nat) (cs:List D):∃ L,RunIs Tryz.prog (csQ []) [] 1000 12 Tryz.f88 [0,5] ((mlOf cdK2).rest) (kSt (SK len cap b fl nx lf es rt (.slc (some (12,0)) n n 1) [(12,.deep cs)] 13) k v) L
  [([],
   [(0+n * 1 ≤ cs.length),(0 < 1),(roomy (n+1) 1 16=true)],
   .to .normal (stG [(0,.fn (.yield 10) [] []),(5,.ptr (some (11,0)))] (hL [(0,.ints .u32 gS),(1,.ints .u32 gR),(3,.cells [.slc (some (4,0)) len cap 1,.int .i64 fl,.map (some 5),.map (some 6),.int .i64 nx,.bool false,.bool false,.int .i64 lf]),(4,.buf 5 false b),(5,.mapD none es),(7,.cells [.map (some 6)]),(8,.cells [.slc (some (12,0)) (n+1) (n+1) 1]),(9,.dfr),(10,.loop true none (Eng.frL [(2,.ptr (some (8,0))),(6,.fn (.func 88) [] [.ptr (some (7,0))])]) [7] asA2 boA2),(12,.deep (List.take (n * 1) (List.drop 0 cs) ++ [D.str k]))]) 13))]
 :=RunIs.of (by kernel_rfl) (by kernel_rfl) (by kernel_rfl)
theorem ka_2 (len cap:Nat) (b:List UInt8) (fl nx lf:Int) (es rt:List (D × D)):∃ L,RunIs Tryz.prog (csQ []) [] 1000 8 Tryz.f113 [1,2] (headN 1 cdA2) (startSt [nilS,w88] (hL (lK len cap b fl nx lf es rt)) 8) L
  [([],
   [],
   .to .normal (stG [(1,.fn (.func 88) [] [.ptr (some (7,0))]),(2,.ptr (some (8,0)))] (hL (memL (pS len cap b fl nx lf es rt) ++ [(7,.cells [.map (some 6)]),(8,.cells [.slc none 0 0 0])])) 9))]
 :=RunIs.of (by kernel_rfl) (by kernel_rfl) (by kernel_rfl)
theorem ka_3 (len cap:Nat) (b:List UInt8) (fl nx lf:Int) (es rt:List (D × D)):∃ L,RunIs Tryz.prog (csQ []) [] 1000 8 Tryz.f113 [2,6] (seqL (seqL tlA2)) (stG [(1,w88),(2,P 8)] (hL (lK len cap b fl nx lf es rt ++ [(8,.cells [nilS])])) 9) L
  [([],
   [],
   .to .normal (stG [(2,.ptr (some (8,0))),(6,.fn (.func 88) [] [.ptr (some (7,0))])] (hL (memL (pS len cap b fl nx lf es rt) ++ [(7,.cells [.map (some 6)]),(8,.cells [.slc none 0 0 0])])) 9))]
 :=RunIs.of (by kernel_rfl) (by kernel_rfl) (by kernel_rfl)
theorem ka_4 (len cap:Nat) (b:List UInt8) (fl nx lf:Int) (es rt:List (D × D)) (n:Nat) (cs:List D):∃ L,RunIs Tryz.prog (csQ []) [] 1000 8 Tryz.f113 [] (seqR tlA2) (rEnd (sKa len cap b fl nx lf es rt) (hK len cap b fl nx lf es rt (.slc (some (11,0)) n n 1) [(11,.deep cs)]) 12) L
  [([],
   [],
   .ret (.slc (some (8,0)) n n 1) (hL (memL (pS len cap b fl nx lf es rt) ++ [(7,.cells [.map (some 6)]),(8,.deep cs)])) 9)]
 :=RunIs.of (by kernel_rfl) (by kernel_rfl) (by kernel_rfl)
theorem ka_5 (len cap:Nat) (b:List UInt8) (fl nx lf:Int) (es rt:List (D × D)):∃ L,RunIs Tryz.prog (csQ []) [] 1000 8 Tryz.f113 [] (seqR tlA2) (rEnd (sKa len cap b fl nx lf es rt) (hK len cap b fl nx lf es rt nilS []) 11) L
  [([],
   [],
   .ret (.slc none 0 0 0) (hL (memL (pS len cap b fl nx lf es rt) ++ [(7,.cells [.map (some 6)])])) 8)]
 :=RunIs.of (by kernel_rfl) (by kernel_rfl) (by kernel_rfl)
end Go.Proofs.YtfihojpgobmmdaaGreatDoor
namespace Go.Proofs.YtfihojpgobmmdaaGreatDoor
open Go Go.Eng
def KeyS (rt:List (D × D)):Prop:=∀ e ∈ rt,∃ k,e.1= .str k
def keysOf (rt:List (D × D)):List (List UInt8):=rt.map fun e=>D.strB e.1
theorem strs_app (a b:List (List UInt8)):strs (a ++ b)=strs a ++ strs b:=by unfold strs; rw [List.map_append]
section
variable (len cap:Nat) (b:List UInt8) (fl nx lf:Int) (es rt:List (D × D))
def rowK3 (m:Nat):List (List UInt8)→List (Nat × O)
 | []=>[]
 | [x]=>[(m,.cells [.str x])]
 | ks=>[(m,.deep (strs ks))]
def slK (m:Nat):List (List UInt8)→V
 | []=>nilS
 | ks=>.slc (some (m,0)) ks.length ks.length 1
def nK (m:Nat):List (List UInt8)→Nat
 | []=>m
 | _=>m+1
def JKa (vis:List (D × D)) (s1:St):Prop:=KeyS vis∧normG 12 [0,5] s1=some (SK len cap b fl nx lf es rt (slK 12 (keysOf vis)) (rowK3 12 (keysOf vis)) (nK 12 (keysOf vis)))
theorem call88g (hk:KeyS rt) (hl:rt.length ≤ 1000000):CallsOne Tryz.prog 88 [.fn (.yield 10) [] [],.ptr (some (7,0))] (hK len cap b fl nx lf es rt nilS []) 11 fun v h n=>∃ vis,List.Perm vis rt∧v= .tup []∧h=hK len cap b fl nx lf es rt (slK 11 (keysOf vis)) (rowK3 11 (keysOf vis))∧n=nK 11 (keysOf vis):=by
 refine callsOne_of_TG mo po Tryz.func88 (code:=cdK2) (by kernel_rfl) (by kernel_rfl) ?_
 rw [ml88]
 refine TG_maps (v0:=.map (some 6)) (fr0:=(startSt [.fn (.yield 10) [] [],.ptr (some (7,0))] (hK len cap b fl nx lf es rt nilS []) 11).fr.set 4 (some (.map (some 6)))) (fr1:=((startSt [.fn (.yield 10) [] [],.ptr (some (7,0))] (hK len cap b fl nx lf es rt nilS []) 11).fr.set 4 (some (.map (some 6)))).set 5 (some (.ptr (some (11,0))))) (m:=6) (kd:=none) (es:=rt) mo ml88_ok
  (by kernel_rfl) (by kernel_rfl) (by kernel_rfl) (by kernel_rfl) (Nat.le_of_ble_eq_true rfl) (by kernel_rfl) (JKa len cap b fl nx lf es rt) ⟨(fun _ h=>by cases h),by kernel_rfl⟩ ?_
 rintro vis left s1 ⟨hv,hs⟩ hp
 have hlen:vis.length ≤ 1000000:=by
  have:=hp.length_eq
  rw [List.length_append] at this; omega
 match vis,hv,hs,hp,hlen with
 | [],hv,hs,hp,_=>
   refine ⟨[0,5],SK len cap b fl nx lf es rt nilS [] 12,hs,by kernel_rfl,fun hl0=>?_,fun e left' he=>?_⟩
   · subst hl0
     rw [List.append_nil] at hp
     refine ⟨(SK len cap b fl nx lf es rt nilS [] 12).fr.set 6 (some (.tup [.bool false])),{ SK len cap b fl nx lf es rt nilS [] 12 with fr:=((SK len cap b fl nx lf es rt nilS [] 12).fr.set 6 (some (.tup [.bool false]))).set 7 (some (.bool false)) },by kernel_rfl,by kernel_rfl,by kernel_rfl,.inl rfl,.tup [],hK len cap b fl nx lf es rt nilS [],11,by kernel_rfl,[],hp,rfl,rfl,rfl⟩
   · obtain ⟨k,hek⟩:=hk e (hp.mem_iff.1 (he.mem_iff.2 (by simp)))
     obtain ⟨e1,e2⟩:=e
     have hek:e1= .str k:=hek
     subst hek
     refine ⟨(SK len cap b fl nx lf es rt nilS [] 12).fr.set 6 (some (.tup [.bool true,.str k,e2.toV])),{ SK len cap b fl nx lf es rt nilS [] 12 with fr:=((SK len cap b fl nx lf es rt nilS [] 12).fr.set 6 (some (.tup [.bool true,.str k,e2.toV]))).set 7 (some (.bool true)) },
      (((SK len cap b fl nx lf es rt nilS [] 12).fr.set 6 (some (.tup [.bool true,.str k,e2.toV]))).set 7 (some (.bool true))).set 8 (some (.tup [.str k,e2.toV])),kSt (SK len cap b fl nx lf es rt nilS [] 12) k e2.toV,by kernel_rfl,by kernel_rfl,by kernel_rfl,by kernel_rfl,by kernel_rfl,by kernel_rfl,by kernel_rfl,by kernel_rfl,?_⟩
     obtain ⟨L,hr⟩:=ka_0 len cap b fl nx lf es rt k e2.toV
     refine TG_is (XQ []) mo anyR (by kernel_rfl) hr fun g hg _=>?_
     rw [List.mem_singleton] at hg; subst hg
     exact ⟨all_nil,fun s' hs'=>⟨fun x hx=>by rw [List.nil_append,List.mem_singleton] at hx; exact ⟨k,by rw [hx]⟩,hs'⟩⟩
 | [x],hv,hs,hp,_=>
   obtain ⟨x1,x2⟩:=x
   obtain ⟨kx,hkx⟩:=hv _ (List.mem_singleton.2 rfl)
   have hkx:x1= .str kx:=hkx
   subst hkx
   refine ⟨[0,5],SK len cap b fl nx lf es rt (.slc (some (12,0)) 1 1 1) [(12,.cells [.str kx])] 13,hs,by kernel_rfl,fun hl0=>?_,fun e left' he=>?_⟩
   · subst hl0
     rw [List.append_nil] at hp
     refine ⟨(SK len cap b fl nx lf es rt (.slc (some (12,0)) 1 1 1) [(12,.cells [.str kx])] 13).fr.set 6 (some (.tup [.bool false])),{ SK len cap b fl nx lf es rt (.slc (some (12,0)) 1 1 1) [(12,.cells [.str kx])] 13 with fr:=((SK len cap b fl nx lf es rt (.slc (some (12,0)) 1 1 1) [(12,.cells [.str kx])] 13).fr.set 6 (some (.tup [.bool false]))).set 7 (some (.bool false)) },by kernel_rfl,by kernel_rfl,by kernel_rfl,.inl rfl,.tup [],hK len cap b fl nx lf es rt (.slc (some (11,0)) 1 1 1) [(11,.cells [.str kx])],12,by kernel_rfl,_,hp,rfl,rfl,rfl⟩
   · obtain ⟨k,hek⟩:=hk e (hp.mem_iff.1 (List.mem_append_right _ (he.mem_iff.2 (by simp))))
     obtain ⟨e1,e2⟩:=e
     have hek:e1= .str k:=hek
     subst hek
     let S:=SK len cap b fl nx lf es rt (.slc (some (12,0)) 1 1 1) [(12,.cells [.str kx])] 13
     refine ⟨S.fr.set 6 (some (.tup [.bool true,.str k,e2.toV])),{ S with fr:=(S.fr.set 6 (some (.tup [.bool true,.str k,e2.toV]))).set 7 (some (.bool true)) },
      ((S.fr.set 6 (some (.tup [.bool true,.str k,e2.toV]))).set 7 (some (.bool true))).set 8 (some (.tup [.str k,e2.toV])),kSt S k e2.toV,by kernel_rfl,by kernel_rfl,by kernel_rfl,by kernel_rfl,by kernel_rfl,by kernel_rfl,by kernel_rfl,by kernel_rfl,?_⟩
     refine TG_deep [12] (s2:=kSt (SK len cap b fl nx lf es rt (.slc (some (12,0)) 1 1 1) [(12,.deep [.str kx])] 13) k e2.toV) (by kernel_rfl) ?_
     obtain ⟨L,hr⟩:=ka_1 len cap b fl nx lf es rt k e2.toV 1 [.str kx]
     refine TG_is (XQ []) mo anyR (by kernel_rfl) hr fun g hg _=>?_
     rw [List.mem_singleton] at hg; subst hg
     refine ⟨?_,fun s' hs'=>⟨fun x hx=>?_,hs'⟩⟩
     · exact List.forall_mem_cons.2 ⟨Nat.le_refl _,List.forall_mem_cons.2 ⟨by decide,List.forall_mem_cons.2 ⟨by decide,all_nil⟩⟩⟩
     · simp only [List.cons_append,List.nil_append,List.mem_cons,List.not_mem_nil,or_false] at hx
       rcases hx with rfl | rfl
       · exact ⟨kx,rfl⟩
       · exact ⟨k,rfl⟩
 | x :: y :: vis,hv,hs,hp,hlen=>
   have hrow:∀ m,rowK3 m (keysOf (x :: y :: vis))=[(m,.deep (strs (keysOf (x :: y :: vis))))]:=fun m=>rfl
   have hsl:∀ m,slK m (keysOf (x :: y :: vis))= .slc (some (m,0)) (keysOf (x :: y :: vis)).length (keysOf (x :: y :: vis)).length 1:=fun m=>rfl
   have hnk:∀ m,nK m (keysOf (x :: y :: vis))=m+1:=fun m=>rfl
   have hkl:(keysOf (x :: y :: vis)).length=(x :: y :: vis).length:=by unfold keysOf; rw [List.length_map]
   rw [hrow,hsl,hnk] at hs
   have hL2:∀ l2,slK 11 (keysOf (x :: y :: vis))=l2→l2= .slc (some (11,0)) (keysOf (x :: y :: vis)).length (keysOf (x :: y :: vis)).length 1:=fun l2 h=>h ▸ rfl
   refine ⟨[0,5],_,hs,by kernel_rfl,fun hl0=>?_,fun e left' he=>?_⟩
   · subst hl0
     rw [List.append_nil] at hp
     refine ⟨(SK len cap b fl nx lf es rt (.slc (some (12,0)) (keysOf (x :: y :: vis)).length (keysOf (x :: y :: vis)).length 1) [(12,.deep (strs (keysOf (x :: y :: vis))))] 13).fr.set 6 (some (.tup [.bool false])),{ SK len cap b fl nx lf es rt (.slc (some (12,0)) (keysOf (x :: y :: vis)).length (keysOf (x :: y :: vis)).length 1) [(12,.deep (strs (keysOf (x :: y :: vis))))] 13 with fr:=((SK len cap b fl nx lf es rt (.slc (some (12,0)) (keysOf (x :: y :: vis)).length (keysOf (x :: y :: vis)).length 1) [(12,.deep (strs (keysOf (x :: y :: vis))))] 13).fr.set 6 (some (.tup [.bool false]))).set 7 (some (.bool false)) },by kernel_rfl,by kernel_rfl,by kernel_rfl,.inl rfl,.tup [],hK len cap b fl nx lf es rt (.slc (some (11,0)) (keysOf (x :: y :: vis)).length (keysOf (x :: y :: vis)).length 1) [(11,.deep (strs (keysOf (x :: y :: vis))))],12,?_,_,hp,rfl,rfl,rfl⟩
     generalize keysOf (x :: y :: vis)=ks
     kernel_rfl
   · obtain ⟨k,hek⟩:=hk e (hp.mem_iff.1 (List.mem_append_right _ (he.mem_iff.2 (by simp))))
     obtain ⟨e1,e2⟩:=e
     have hek:e1= .str k:=hek
     subst hek
     have hnext:keysOf ((x :: y :: vis) ++ [(.str k,e2)])=keysOf (x :: y :: vis) ++ [k]:=by unfold keysOf; rw [List.map_append]; rfl
     have hks:KeyS ((x :: y :: vis) ++ [(.str k,e2)]):=fun z hz=>by
      rcases List.mem_append.1 hz with hz | hz
      · exact hv z hz
      · rw [List.mem_singleton] at hz; subst hz; exact ⟨k,rfl⟩
     have h2:2 ≤ (keysOf (x :: y :: vis)).length:=by rw [hkl]; simp
     have hJ:∀ s',normG 12 [0,5] s'=some (SK len cap b fl nx lf es rt (.slc (some (12,0)) (keysOf (x :: y :: vis) ++ [k]).length (keysOf (x :: y :: vis) ++ [k]).length 1) [(12,.deep (strs (keysOf (x :: y :: vis) ++ [k])))] 13)→JKa len cap b fl nx lf es rt ((x :: y :: vis) ++ [(.str k,e2)]) s':=by
      intro s' hs'
      refine ⟨hks,?_⟩
      rw [hnext,hs']
      unfold keysOf
      rfl
     generalize hK0:keysOf (x :: y :: vis)=ks at *
     let S:=SK len cap b fl nx lf es rt (.slc (some (12,0)) ks.length ks.length 1) [(12,.deep (strs ks))] 13
     refine ⟨S.fr.set 6 (some (.tup [.bool true,.str k,e2.toV])),{ S with fr:=(S.fr.set 6 (some (.tup [.bool true,.str k,e2.toV]))).set 7 (some (.bool true)) },
      ((S.fr.set 6 (some (.tup [.bool true,.str k,e2.toV]))).set 7 (some (.bool true))).set 8 (some (.tup [.str k,e2.toV])),kSt S k e2.toV,by kernel_rfl,by kernel_rfl,by kernel_rfl,by kernel_rfl,by kernel_rfl,by kernel_rfl,by kernel_rfl,by kernel_rfl,?_⟩
     obtain ⟨L,hr⟩:=ka_1 len cap b fl nx lf es rt k e2.toV ks.length (strs ks)
     refine TG_is (XQ []) mo anyR (by kernel_rfl) hr fun g hg _=>?_
     rw [List.mem_singleton] at hg; subst hg
     refine ⟨?_,fun s' hs'=>hJ s' ?_⟩
     · exact List.forall_mem_cons.2 ⟨by rw [strs_len]; omega,List.forall_mem_cons.2 ⟨by decide,List.forall_mem_cons.2 ⟨roomy16 (by omega),all_nil⟩⟩⟩
     · refine Eq.trans hs' ?_
       have e3:List.take (ks.length * 1) (List.drop 0 (strs ks)) ++ [D.str k]=strs (ks ++ [k]):=by
        rw [List.drop_zero,Nat.mul_one,List.take_of_length_le (by rw [strs_len]; exact Nat.le_refl _),strs_app]; rfl
       rw [e3,List.length_append]
       rfl
end
end Go.Proofs.YtfihojpgobmmdaaGreatDoor
namespace Go.Proofs.YtfihojpgobmmdaaGreatDoor
open Go Go.Eng
section
variable (len cap:Nat) (b:List UInt8) (fl nx lf:Int) (es rt:List (D × D))
def hKe (row:List (Nat × O)):Tr O:=hL (lK len cap b fl nx lf es rt ++ row)
end
def sC2 (h:Tr O) (n:Nat) (v:V):St:={ fr:=((((frL [(0,w88)]).set 3 (some w88)).set 4 (some v)).set 2 (some v)),h:=h,n:=n,dfs:=[] }
theorem kc_1 (len cap:Nat) (b:List UInt8) (fl nx lf:Int) (es rt:List (D × D)) (x:List UInt8):∃ L,RunIs Tryz.prog (csQ []) [] 1000 8 Tryz.f113 [] (seqR tlA2) (rEnd (sKa len cap b fl nx lf es rt) (hK len cap b fl nx lf es rt (.slc (some (11,0)) 1 1 1) [(11,.cells [.str x])]) 12) L
  [([],
   [],
   .ret (.slc (some (8,0)) 1 1 1) (hL (memL (pS len cap b fl nx lf es rt) ++ [(7,.cells [.map (some 6)]),(8,.cells [.str x])])) 9)]
 :=RunIs.of (by kernel_rfl) (by kernel_rfl) (by kernel_rfl)
theorem kc_2 (len cap:Nat) (b:List UInt8) (fl nx lf:Int) (es rt:List (D × D)):∃ L,RunIs Tryz.prog (csQ []) [] 1000 8 Tryz.f86 [0] (headN 1 cdC2) (startSt [w88] (hKe len cap b fl nx lf es rt []) 8) L
  [([],
   [],
   .to .normal (stG [(0,.fn (.func 88) [] [.ptr (some (7,0))])] (hL (memL (pS len cap b fl nx lf es rt) ++ [(7,.cells [.map (some 6)])])) 8))]
 :=RunIs.of (by kernel_rfl) (by kernel_rfl) (by kernel_rfl)
theorem kc_3 (len cap:Nat) (b:List UInt8) (fl nx lf:Int) (es rt:List (D × D)) (n:Nat) (cs:List D):∃ L,RunIs Tryz.prog (csQ []) [] 1000 8 Tryz.f86 [] (seqR (tailN 1 cdC2)) (sC2 (hKe len cap b fl nx lf es rt [(8,.deep cs)]) 9 (.slc (some (8,0)) n n 1)) L
  [([],
   [],
   .ret (.slc (some (8,0)) n n 1) (hL (memL (pS len cap b fl nx lf es rt) ++ [(7,.cells [.map (some 6)]),(8,.deep cs)])) 9)]
 :=RunIs.of (by kernel_rfl) (by kernel_rfl) (by kernel_rfl)
theorem kc_4 (len cap:Nat) (b:List UInt8) (fl nx lf:Int) (es rt:List (D × D)):∃ L,RunIs Tryz.prog (csQ []) [] 1000 8 Tryz.f86 [] (seqR (tailN 1 cdC2)) (sC2 (hKe len cap b fl nx lf es rt []) 8 nilS) L
  [([],
   [],
   .ret (.slc none 0 0 0) (hL (memL (pS len cap b fl nx lf es rt) ++ [(7,.cells [.map (some 6)])])) 8)]
 :=RunIs.of (by kernel_rfl) (by kernel_rfl) (by kernel_rfl)
theorem kc_5 (len cap:Nat) (b:List UInt8) (fl nx lf:Int) (es rt:List (D × D)) (x:List UInt8):∃ L,RunIs Tryz.prog (csQ []) [] 1000 8 Tryz.f86 [] (seqR (tailN 1 cdC2)) (sC2 (hKe len cap b fl nx lf es rt [(8,.cells [.str x])]) 9 (.slc (some (8,0)) 1 1 1)) L
  [([],
   [],
   .ret (.slc (some (8,0)) 1 1 1) (hL (memL (pS len cap b fl nx lf es rt) ++ [(7,.cells [.map (some 6)]),(8,.cells [.str x])])) 9)]
 :=RunIs.of (by kernel_rfl) (by kernel_rfl) (by kernel_rfl)
theorem kc_6 (len cap:Nat) (b:List UInt8) (fl nx lf:Int) (es rt:List (D × D)):∃ L,RunIs Tryz.prog (csQ []) [] 1000 8 Tryz.f61 [0] (headN 1 cdS2) (startSt [w88] (hKe len cap b fl nx lf es rt []) 8) L
  [([],
   [],
   .to .normal (stG [(0,.fn (.func 88) [] [.ptr (some (7,0))])] (hL (memL (pS len cap b fl nx lf es rt) ++ [(7,.cells [.map (some 6)])])) 8))]
 :=RunIs.of (by kernel_rfl) (by kernel_rfl) (by kernel_rfl)
def sS2 (h:Tr O) (n:Nat) (v:V):St:={ fr:=((((frL [(0,w88)]).set 4 (some w88)).set 5 (some v)).set 3 (some v)),h:=h,n:=n,dfs:=[] }
theorem kc_7 (len cap:Nat) (b:List UInt8) (fl nx lf:Int) (es rt:List (D × D)) (n:Nat) (cs cs2:List D):∃ L,RunIs Tryz.prog (pinS (csQ []) 87 [.slc (some (8,0)) n n 1] (hKe len cap b fl nx lf es rt [(8,.deep cs)]) 9 (.tup [],(hKe len cap b fl nx lf es rt [(8,.deep cs)]).set 8 (some (.deep cs2)),9)) [] 1000 8 Tryz.f61 [] (tailN 2 cdS2) (sS2 (hKe len cap b fl nx lf es rt [(8,.deep cs)]) 9 (.slc (some (8,0)) n n 1)) L
  [([],
   [(([.slc (some (8,0)) n n 1]:List V)=[.slc (some (8,0)) n n 1]∧(hL (memL (pS len cap b fl nx lf es rt) ++ [(7,.cells [.map (some 6)]),(8,.deep cs)]))=(hL (memL (pS len cap b fl nx lf es rt) ++ [(7,.cells [.map (some 6)]),(8,.deep cs)]))∧9=9)],
   .ret (.slc (some (8,0)) n n 1) (hL (memL (pS len cap b fl nx lf es rt) ++ [(7,.cells [.map (some 6)]),(8,.deep cs2)])) 9)]
 :=RunIs.of (by kernel_rfl) (by kernel_rfl) (by kernel_rfl)
theorem kc_8 (len cap:Nat) (b:List UInt8) (fl nx lf:Int) (es rt:List (D × D)):∃ L,RunIs Tryz.prog (csQ []) [] 1000 8 Tryz.f61 [] (tailN 2 cdS2) (sS2 (hKe len cap b fl nx lf es rt []) 8 nilS) L
  [([],
   [((0:Int) ≤ (0:Int)∧0 < 256)],
   .ret (.slc none 0 0 0) (hL (memL (pS len cap b fl nx lf es rt) ++ [(7,.cells [.map (some 6)])])) 8)]
 :=RunIs.of (by kernel_rfl) (by kernel_rfl) (by kernel_rfl)
theorem kc_9 (len cap:Nat) (b:List UInt8) (fl nx lf:Int) (es rt:List (D × D)) (x:List UInt8):∃ L,RunIs Tryz.prog (csQ []) [] 1000 8 Tryz.f61 [] (tailN 2 cdS2) (sS2 (hKe len cap b fl nx lf es rt [(8,.cells [.str x])]) 9 (.slc (some (8,0)) 1 1 1)) L
  [([],
   [((0:Int) ≤ (1:Int)∧1 < 256)],
   .ret (.slc (some (8,0)) 1 1 1) (hL (memL (pS len cap b fl nx lf es rt) ++ [(7,.cells [.map (some 6)]),(8,.cells [.str x])])) 9)]
 :=RunIs.of (by kernel_rfl) (by kernel_rfl) (by kernel_rfl)
def hKf (len cap:Nat) (b:List UInt8) (fl nx lf:Int) (es rt:List (D × D)) (row:List (Nat × O)):Tr O:=hL (memL (pS len cap b fl nx lf es rt) ++ row)
theorem kc_10 (len cap:Nat) (b:List UInt8) (fl nx lf:Int) (es rt:List (D × D)) (n:Nat) (cs:List D):∃ L,RunIs Tryz.prog (pinS (csQ []) 61 [w88] (hKe len cap b fl nx lf es rt []) 8 (.slc (some (8,0)) n n 1,hKe len cap b fl nx lf es rt [(8,.deep cs)],9)) [] 1000 7 Tryz.f23 [] (cdRo) (startSt [P3] (memS (pS len cap b fl nx lf es rt)) 7) L
  [([],
   [(([.fn (.func 88) [] [.ptr (some (7,0))]]:List V)=[.fn (.func 88) [] [.ptr (some (7,0))]]∧(hL (memL (pS len cap b fl nx lf es rt) ++ [(7,.cells [.map (some 6)])]))=(hL (memL (pS len cap b fl nx lf es rt) ++ [(7,.cells [.map (some 6)])]))∧8=8)],
   .ret (.slc (some (7,0)) n n 1) (hL (memL (pS len cap b fl nx lf es rt) ++ [(7,.deep cs)])) 8)]
 :=RunIs.of (by kernel_rfl) (by kernel_rfl) (by kernel_rfl)
theorem kc_11 (len cap:Nat) (b:List UInt8) (fl nx lf:Int) (es rt:List (D × D)):∃ L,RunIs Tryz.prog (pinS (csQ []) 61 [w88] (hKe len cap b fl nx lf es rt []) 8 (nilS,hKe len cap b fl nx lf es rt [],8)) [] 1000 7 Tryz.f23 [] (cdRo) (startSt [P3] (memS (pS len cap b fl nx lf es rt)) 7) L
  [([],
   [(([.fn (.func 88) [] [.ptr (some (7,0))]]:List V)=[.fn (.func 88) [] [.ptr (some (7,0))]]∧(hL (memL (pS len cap b fl nx lf es rt) ++ [(7,.cells [.map (some 6)])]))=(hL (memL (pS len cap b fl nx lf es rt) ++ [(7,.cells [.map (some 6)])]))∧8=8)],
   .ret (.slc none 0 0 0) (memS (pS len cap b fl nx lf es rt)) 7)]
 :=RunIs.of (by kernel_rfl) (by kernel_rfl) (by kernel_rfl)
theorem kc_12 (len cap:Nat) (b:List UInt8) (fl nx lf:Int) (es rt:List (D × D)) (x:List UInt8):∃ L,RunIs Tryz.prog (pinS (csQ []) 61 [w88] (hKe len cap b fl nx lf es rt []) 8 (.slc (some (8,0)) 1 1 1,hKe len cap b fl nx lf es rt [(8,.cells [.str x])],9)) [] 1000 7 Tryz.f23 [] (cdRo) (startSt [P3] (memS (pS len cap b fl nx lf es rt)) 7) L
  [([],
   [(([.fn (.func 88) [] [.ptr (some (7,0))]]:List V)=[.fn (.func 88) [] [.ptr (some (7,0))]]∧(hL (memL (pS len cap b fl nx lf es rt) ++ [(7,.cells [.map (some 6)])]))=(hL (memL (pS len cap b fl nx lf es rt) ++ [(7,.cells [.map (some 6)])]))∧8=8)],
   .ret (.slc (some (7,0)) 1 1 1) (hL (memL (pS len cap b fl nx lf es rt) ++ [(7,.cells [.str x])])) 8)]
 :=RunIs.of (by kernel_rfl) (by kernel_rfl) (by kernel_rfl)
end Go.Proofs.YtfihojpgobmmdaaGreatDoor
namespace Go.Proofs.YtfihojpgobmmdaaGreatDoor
open Go Go.Eng
theorem leB_trans {a b c:List UInt8} (h:a ≤ b) (k:b ≤ c):a ≤ c:=List.le_trans h k
theorem leB_total (a b:List UInt8):a ≤ b ∨ b ≤ a:=List.le_total a b
theorem leB_anti {a b:List UInt8} (h:a ≤ b) (k:b ≤ a):a=b:=List.le_antisymm h k
theorem sortS_perm (l:List (List UInt8)):List.Perm (sortS l) l:=List.mergeSort_perm ..
theorem sortS_pair (l:List (List UInt8)):(sortS l).Pairwise (· ≤ ·):=by
 have:=List.pairwise_mergeSort (le:=fun x y:List UInt8=>decide (x ≤ y)) (fun a b c h k=>by simp only [decide_eq_true_eq] at *; exact leB_trans h k) (fun a b=>by simp only [Bool.or_eq_true,decide_eq_true_eq]; exact leB_total a b) l
 exact this.imp fun h=>of_decide_eq_true h
theorem sortS_eq {a b:List (List UInt8)} (h:List.Perm a b):sortS a=sortS b:=
 List.Perm.eq_of_pairwise (le:=(· ≤ ·)) (fun _ _ _ _ h k=>leB_anti h k) (sortS_pair a) (sortS_pair b) (((sortS_perm a).trans h).trans (sortS_perm b).symm)
theorem sortS_nil:sortS []=[]:=List.length_eq_zero_iff.1 (by rw [sortS_len]; rfl)
theorem sortS_one (x:List UInt8):sortS [x]=[x]:=by
 have h:=sortS_perm [x]
 exact List.perm_singleton.1 h
theorem keysOf_perm {a b:List (D × D)} (h:List.Perm a b):List.Perm (keysOf a) (keysOf b):=h.map _
theorem keysOf_len (a:List (D × D)):(keysOf a).length=a.length:=by unfold keysOf; rw [List.length_map]
section
variable (len cap:Nat) (b:List UInt8) (fl nx lf:Int) (es rt:List (D × D))
abbrev RKy (v:V) (h:Tr O) (n:Nat):Prop:=∃ ks,List.Perm ks (keysOf rt)∧v=slK 8 ks∧h=hKe len cap b fl nx lf es rt (rowK3 8 ks)∧n=nK 8 ks
theorem call113g (hk:KeyS rt) (hl:rt.length ≤ 1000000):CallsOne Tryz.prog 113 [nilS,w88] (hKe len cap b fl nx lf es rt []) 8 (RKy len cap b fl nx lf es rt):=by
 refine callsOne_of_TG mo po Tryz.func113 (code:=cdA2) (by kernel_rfl) (by kernel_rfl) ?_
 obtain ⟨L1,hr1⟩:=ka_2 len cap b fl nx lf es rt
 refine TG_isN1 1 (XQ []) mo (by kernel_rfl) hr1 all_nil ?_
 show TG Tryz.prog 8 Tryz.f113.ntmps tlA2 (stG [(1,w88),(2,P 8)] (hL (lK len cap b fl nx lf es rt ++ [(8,.cells [nilS])])) 9) _
 refine TG_seq' (by kernel_rfl) ?_
 refine TG_seq' (by kernel_rfl) ?_
 obtain ⟨L2,hr2⟩:=ka_3 len cap b fl nx lf es rt
 refine TG_is (XQ []) mo anyR (by kernel_rfl) hr2 fun g hg _=>?_
 rw [List.mem_singleton] at hg; subst hg
 refine ⟨all_nil,fun s' hs'=>?_⟩
 have hs':normG 8 [2,6] s'=some (sKa len cap b fl nx lf es rt):=hs'
 refine TG_norm hs' ?_
 refine TG_block (i:=0) (by kernel_rfl) ?_
 refine TG_rangeN (gf:=88) (lb:=[.ptr (some (7,0))]) (by kernel_rfl) (by kernel_rfl) (by kernel_rfl) (by kernel_rfl) (by kernel_rfl) (call88g len cap b fl nx lf es rt hk hl) ?_
 rintro v h n ⟨vis,hp,rfl,rfl,rfl⟩
 have hpk:=keysOf_perm hp
 match hks:keysOf vis,hpk with
 | [],hpk=>
   refine ⟨by kernel_rfl,?_⟩
   show TG Tryz.prog 8 Tryz.f113.ntmps (seqR tlA2) _ _
   obtain ⟨L5,hr5⟩:=ka_5 len cap b fl nx lf es rt
   refine TG_ret (XQ []) mo _ (by kernel_rfl) hr5 fun g hg _=>?_
   rw [List.mem_singleton] at hg; subst hg
   exact ⟨all_nil,_,_,_,rfl,[],hpk,rfl,rfl,rfl⟩
 | [x],hpk=>
   refine ⟨by kernel_rfl,?_⟩
   show TG Tryz.prog 8 Tryz.f113.ntmps (seqR tlA2) _ _
   obtain ⟨L5,hr5⟩:=kc_1 len cap b fl nx lf es rt x
   refine TG_ret (XQ []) mo _ (by kernel_rfl) hr5 fun g hg _=>?_
   rw [List.mem_singleton] at hg; subst hg
   exact ⟨all_nil,_,_,_,rfl,[x],hpk,rfl,rfl,rfl⟩
 | x :: y :: ks,hpk=>
   refine ⟨by kernel_rfl,?_⟩
   show TG Tryz.prog 8 Tryz.f113.ntmps (seqR tlA2) _ _
   obtain ⟨L5,hr5⟩:=ka_4 len cap b fl nx lf es rt (x :: y :: ks).length (strs (x :: y :: ks))
   refine TG_ret (XQ []) mo _ (by kernel_rfl) hr5 fun g hg _=>?_
   rw [List.mem_singleton] at hg; subst hg
   exact ⟨all_nil,_,_,_,rfl,x :: y :: ks,hpk,rfl,rfl,rfl⟩
theorem call86g (hk:KeyS rt) (hl:rt.length ≤ 1000000):CallsOne Tryz.prog 86 [w88] (hKe len cap b fl nx lf es rt []) 8 (RKy len cap b fl nx lf es rt):=by
 refine callsOne_of_TG mo po Tryz.func86 (code:=cdC2) (by kernel_rfl) (by kernel_rfl) ?_
 obtain ⟨L1,hr1⟩:=kc_2 len cap b fl nx lf es rt
 refine TG_isN1 1 (XQ []) mo (by kernel_rfl) hr1 all_nil ?_
 refine TG_seq' (by kernel_rfl) ?_
 refine TG_callAt 1 (s1:={ fr:=(frL [(0,w88)]).set 3 (some w88),h:=hKe len cap b fl nx lf es rt [],n:=8,dfs:=[] }) (f:=113) (args:=[nilS,w88]) (by kernel_rfl) (by kernel_rfl) (by kernel_rfl) (by kernel_rfl) (by kernel_rfl) (by kernel_rfl) (call113g len cap b fl nx lf es rt hk hl) ?_
 rintro v h n ⟨ks,hp,rfl,rfl,rfl⟩
 match ks,hp with
 | [],hp=>
   refine ⟨(((frL [(0,w88)]).set 3 (some w88)).set 4 (some nilS)),sC2 (hKe len cap b fl nx lf es rt []) 8 nilS,by kernel_rfl,by kernel_rfl,?_⟩
   obtain ⟨L5,hr5⟩:=kc_4 len cap b fl nx lf es rt
   show TG Tryz.prog 8 Tryz.f86.ntmps (seqR (tailN 1 cdC2)) _ _
   refine TG_ret (XQ []) mo _ (by kernel_rfl) hr5 fun g hg _=>?_
   rw [List.mem_singleton] at hg; subst hg
   exact ⟨all_nil,_,_,_,rfl,[],hp,rfl,rfl,rfl⟩
 | [x],hp=>
   refine ⟨(((frL [(0,w88)]).set 3 (some w88)).set 4 (some (.slc (some (8,0)) 1 1 1))),sC2 (hKe len cap b fl nx lf es rt [(8,.cells [.str x])]) 9 (.slc (some (8,0)) 1 1 1),by kernel_rfl,by kernel_rfl,?_⟩
   obtain ⟨L5,hr5⟩:=kc_5 len cap b fl nx lf es rt x
   show TG Tryz.prog 8 Tryz.f86.ntmps (seqR (tailN 1 cdC2)) _ _
   refine TG_ret (XQ []) mo _ (by kernel_rfl) hr5 fun g hg _=>?_
   rw [List.mem_singleton] at hg; subst hg
   exact ⟨all_nil,_,_,_,rfl,[x],hp,rfl,rfl,rfl⟩
 | x :: y :: ks,hp=>
   refine ⟨(((frL [(0,w88)]).set 3 (some w88)).set 4 (some (.slc (some (8,0)) (x :: y :: ks).length (x :: y :: ks).length 1))),sC2 (hKe len cap b fl nx lf es rt [(8,.deep (strs (x :: y :: ks)))]) 9 (.slc (some (8,0)) (x :: y :: ks).length (x :: y :: ks).length 1),by kernel_rfl,by kernel_rfl,?_⟩
   obtain ⟨L5,hr5⟩:=kc_3 len cap b fl nx lf es rt (x :: y :: ks).length (strs (x :: y :: ks))
   show TG Tryz.prog 8 Tryz.f86.ntmps (seqR (tailN 1 cdC2)) _ _
   refine TG_ret (XQ []) mo _ (by kernel_rfl) hr5 fun g hg _=>?_
   rw [List.mem_singleton] at hg; subst hg
   exact ⟨all_nil,_,_,_,rfl,x :: y :: ks,hp,rfl,rfl,rfl⟩
theorem slK_big {m:Nat} {ks:List (List UInt8)} (h:2 ≤ ks.length):slK m ks= .slc (some (m,0)) ks.length ks.length 1∧rowK3 m ks=[(m,.deep (strs ks))]∧nK m ks=m+1:=by
 match ks,h with
 | x :: y :: ks,_=>exact ⟨rfl,rfl,rfl⟩
theorem call61g (hk:KeyS rt) (hl:rt.length < 1000000):CallIs Tryz.prog 61 [w88] (hKe len cap b fl nx lf es rt []) 8 (slK 8 (sortS (keysOf rt))) (hKe len cap b fl nx lf es rt (rowK3 8 (sortS (keysOf rt)))) (nK 8 (sortS (keysOf rt))):=by
 refine callIs_of_TG Tryz.func61 (code:=cdS2) (by kernel_rfl) (by kernel_rfl) ?_
 obtain ⟨L1,hr1⟩:=kc_6 len cap b fl nx lf es rt
 refine TG_isN1 1 (XQ []) mo (by kernel_rfl) hr1 all_nil ?_
 refine TG_seq' (by kernel_rfl) ?_
 refine TG_callAt 1 (s1:={ fr:=(frL [(0,w88)]).set 4 (some w88),h:=hKe len cap b fl nx lf es rt [],n:=8,dfs:=[] }) (f:=86) (args:=[w88]) (by kernel_rfl) (by kernel_rfl) (by kernel_rfl) (by kernel_rfl) (by kernel_rfl) (by kernel_rfl) (call86g len cap b fl nx lf es rt hk (Nat.le_of_lt hl)) ?_
 rintro v h n ⟨ks,hp,rfl,rfl,rfl⟩
 rw [← sortS_eq hp]
 have hlen:ks.length < 1000000:=by rw [hp.length_eq,keysOf_len]; exact hl
 match ks,hlen with
 | [],_=>
   rw [sortS_nil]
   refine ⟨(((frL [(0,w88)]).set 4 (some w88)).set 5 (some nilS)),sS2 (hKe len cap b fl nx lf es rt []) 8 nilS,by kernel_rfl,by kernel_rfl,?_⟩
   show TG Tryz.prog 8 Tryz.f61.ntmps (tailN 2 cdS2) _ _
   obtain ⟨L5,hr5⟩:=kc_8 len cap b fl nx lf es rt
   refine TG_ret (XQ []) mo _ (by kernel_rfl) hr5 fun g hg _=>?_
   rw [List.mem_singleton] at hg; subst hg
   exact ⟨fun p hp=>by rw [List.mem_singleton] at hp; subst hp; decide,_,_,_,rfl,rfl,rfl,rfl⟩
 | [x],_=>
   rw [sortS_one]
   refine ⟨(((frL [(0,w88)]).set 4 (some w88)).set 5 (some (.slc (some (8,0)) 1 1 1))),sS2 (hKe len cap b fl nx lf es rt [(8,.cells [.str x])]) 9 (.slc (some (8,0)) 1 1 1),by kernel_rfl,by kernel_rfl,?_⟩
   show TG Tryz.prog 8 Tryz.f61.ntmps (tailN 2 cdS2) _ _
   obtain ⟨L5,hr5⟩:=kc_9 len cap b fl nx lf es rt x
   refine TG_ret (XQ []) mo _ (by kernel_rfl) hr5 fun g hg _=>?_
   rw [List.mem_singleton] at hg; subst hg
   exact ⟨fun p hp=>by rw [List.mem_singleton] at hp; subst hp; decide,_,_,_,rfl,rfl,rfl,rfl⟩
 | x :: y :: ks,hlen=>
   obtain ⟨z1,z2,z3⟩:=slK_big (m:=8) (ks:=sortS (x :: y :: ks)) (by rw [sortS_len]; simp)
   rw [z1,z2,z3,sortS_len]
   refine ⟨(((frL [(0,w88)]).set 4 (some w88)).set 5 (some (.slc (some (8,0)) (x :: y :: ks).length (x :: y :: ks).length 1))),sS2 (hKe len cap b fl nx lf es rt [(8,.deep (strs (x :: y :: ks)))]) 9 (.slc (some (8,0)) (x :: y :: ks).length (x :: y :: ks).length 1),by kernel_rfl,by kernel_rfl,?_⟩
   show TG Tryz.prog 8 Tryz.f61.ntmps (tailN 2 cdS2) _ _
   obtain ⟨L5,hr5⟩:=kc_7 len cap b fl nx lf es rt (x :: y :: ks).length (strs (x :: y :: ks)) (strs (sortS (x :: y :: ks)))
   have hc:CallIs Tryz.prog 87 [.slc (some (8,0)) (x :: y :: ks).length (x :: y :: ks).length 1] (hKe len cap b fl nx lf es rt [(8,.deep (strs (x :: y :: ks)))]) 9 (.tup []) ((hKe len cap b fl nx lf es rt [(8,.deep (strs (x :: y :: ks)))]).set 8 (some (.deep (strs (sortS (x :: y :: ks)))))) 9:=
    sort_callIs sorts87 (ss:=x :: y :: ks) (by kernel_rfl) (Nat.le_of_ble_eq_true rfl) (Nat.succ_pos _) rfl hlen
   refine TG_ret ((XQ []).pin (Nat.le_of_ble_eq_true (by kernel_rfl)) hc) mo _ (by kernel_rfl) hr5 fun g hg _=>?_
   rw [List.mem_singleton] at hg; subst hg
   exact ⟨fun p hp=>by rw [List.mem_singleton] at hp; subst hp; exact pinEq,_,_,_,rfl,rfl,rfl,rfl⟩
theorem call23g (hk:KeyS rt) (hl:rt.length < 1000000):CallIs Tryz.prog 23 [P3] (memS (pS len cap b fl nx lf es rt)) 7 (slK 7 (sortS (keysOf rt))) (hKf len cap b fl nx lf es rt (rowK3 7 (sortS (keysOf rt)))) (nK 7 (sortS (keysOf rt))):=by
 have h61:=call61g len cap b fl nx lf es rt hk hl
 refine callIs_of_TG Tryz.func23 (code:=cdRo) (by kernel_rfl) (by kernel_rfl) ?_
 match hks:sortS (keysOf rt),h61 with
 | [],h61=>
   obtain ⟨L5,hr5⟩:=kc_11 len cap b fl nx lf es rt
   refine TG_ret ((XQ []).pin (Nat.le_of_ble_eq_true (by kernel_rfl)) h61) mo _ (by kernel_rfl) hr5 fun g hg _=>?_
   rw [List.mem_singleton] at hg; subst hg
   exact ⟨fun p hp=>by rw [List.mem_singleton] at hp; subst hp; exact pinEq,_,_,_,rfl,rfl,rfl,rfl⟩
 | [x],h61=>
   obtain ⟨L5,hr5⟩:=kc_12 len cap b fl nx lf es rt x
   refine TG_ret ((XQ []).pin (Nat.le_of_ble_eq_true (by kernel_rfl)) h61) mo _ (by kernel_rfl) hr5 fun g hg _=>?_
   rw [List.mem_singleton] at hg; subst hg
   exact ⟨fun p hp=>by rw [List.mem_singleton] at hp; subst hp; exact pinEq,_,_,_,rfl,rfl,rfl,rfl⟩
 | x :: y :: ks,h61=>
   obtain ⟨L5,hr5⟩:=kc_10 len cap b fl nx lf es rt (x :: y :: ks).length (strs (x :: y :: ks))
   refine TG_ret ((XQ []).pin (Nat.le_of_ble_eq_true (by kernel_rfl)) h61) mo _ (by kernel_rfl) hr5 fun g hg _=>?_
   rw [List.mem_singleton] at hg; subst hg
   exact ⟨fun p hp=>by rw [List.mem_singleton] at hp; subst hp; exact pinEq,_,_,_,rfl,rfl,rfl,rfl⟩
end
end Go.Proofs.YtfihojpgobmmdaaGreatDoor
namespace Go.Proofs.YtfihojpgobmmdaaGreatDoor
open Go Go.Eng
def g81:V:=.fn (.func 81) [] [.ptr (some (9,0))]
def g56:V:=.fn (.func 56) [] [.ptr (some (7,0))]
section
variable (len cap:Nat) (b:List UInt8) (fl nx lf:Int) (es rt:List (D × D)) (ks:List (List UInt8))
def lS:List (Nat × O):=memL (pS len cap b fl nx lf es rt) ++ [(7,.cells [P3]),(8,.mapD none (snL ks)),(9,.cells [.map (some 8)])]
def lSx:List (Nat × O):=memL (pS len cap b fl nx lf es rt) ++ [(7,.cells [P3]),(9,.cells [.map (some 8)])]
def sSa:St:=stG [(2,P 10),(6,g81)] (hL (lS len cap b fl nx lf es rt ks ++ [(10,.cells [nilS])])) 11
noncomputable def oSa:O:=.loop true none (sSa len cap b fl nx lf es rt ks).fr [7] asAp boAp
noncomputable def hSk (sl:V) (row:List (Nat × O)):Tr O:=hL (lS len cap b fl nx lf es rt ks ++ [(10,.cells [sl]),(11,.dfr),(12,oSa len cap b fl nx lf es rt ks)] ++ row)
noncomputable def SSk (sl:V) (row:List (Nat × O)) (n:Nat):St:=stG [(0,.fn (.yield 12) [] []),(5,P 13)] (hL (lSx len cap b fl nx lf es rt ++ [(10,.cells [sl]),(11,.dfr),(12,oSa len cap b fl nx lf es rt ks)] ++ row)) n
def hSe (row:List (Nat × O)):Tr O:=hL (lS len cap b fl nx lf es rt ks ++ row)
end
theorem gs_0 (len cap:Nat) (b:List UInt8) (fl nx lf:Int) (es rt:List (D × D)) (ks:List (List UInt8)) (k:List UInt8) (v:V):∃ L,RunIs Tryz.prog (csQ []) [] 1000 14 Tryz.f81 [0,5] ((mlOf cdKy).rest) (kSt (SSk len cap b fl nx lf es rt ks nilS [] 14) k v) L
  [([],
   [],
   .to .normal (SSk len cap b fl nx lf es rt ks (.slc (some (14,0)) 1 1 1) [(14,.cells [.str k])] 15))]
 :=RunIs.of (by kernel_rfl) (by kernel_rfl) (by kernel_rfl)
theorem gs_1 (len cap:Nat) (b:List UInt8) (fl nx lf:Int) (es rt:List (D × D)) (ks:List (List UInt8)) (k:List UInt8) (v:V) (n:Nat) (cs:List D):∃ L,RunIs Tryz.prog (csQ []) [] 1000 14 Tryz.f81 [0,5] ((mlOf cdKy).rest) (kSt (SSk len cap b fl nx lf es rt ks (.slc (some (14,0)) n n 1) [(14,.deep cs)] 15) k v) L
  [([],
   [(0+n * 1 ≤ cs.length),(0 < 1),(roomy (n+1) 1 16=true)],
   .to .normal (stG [(0,.fn (.yield 12) [] []),(5,.ptr (some (13,0)))] (hL (memL (pS len cap b fl nx lf es rt) ++ [(7,.cells [.ptr (some (3,0))]),(9,.cells [.map (some 8)]),(10,.cells [.slc (some (14,0)) (n+1) (n+1) 1]),(11,.dfr),(12,.loop true none (Eng.frL [(2,.ptr (some (10,0))),(6,.fn (.func 81) [] [.ptr (some (9,0))])]) [7] asAp boAp),(14,.deep (List.take (n * 1) (List.drop 0 cs) ++ [D.str k]))])) 15))]
 :=RunIs.of (by kernel_rfl) (by kernel_rfl) (by kernel_rfl)
theorem gs_2 (len cap:Nat) (b:List UInt8) (fl nx lf:Int) (es rt:List (D × D)) (ks:List (List UInt8)):∃ L,RunIs Tryz.prog (csQ []) [] 1000 10 Tryz.f100 [1,2] (headN 1 cdAp) (startSt [nilS,g81] (hSe len cap b fl nx lf es rt ks []) 10) L
  [([],
   [],
   .to .normal (stG [(1,g81),(2,P 10)] (hL (lS len cap b fl nx lf es rt ks ++ [(10,.cells [nilS])])) 11))]
 :=RunIs.of (by kernel_rfl) (by kernel_rfl) (by kernel_rfl)
theorem gs_3 (len cap:Nat) (b:List UInt8) (fl nx lf:Int) (es rt:List (D × D)) (ks:List (List UInt8)):∃ L,RunIs Tryz.prog (csQ []) [] 1000 10 Tryz.f100 [2,6] (seqL (seqL tlAp)) (stG [(1,g81),(2,P 10)] (hL (lS len cap b fl nx lf es rt ks ++ [(10,.cells [nilS])])) 11) L
  [([],
   [],
   .to .normal (sSa len cap b fl nx lf es rt ks))]
 :=RunIs.of (by kernel_rfl) (by kernel_rfl) (by kernel_rfl)
theorem gs_4 (len cap:Nat) (b:List UInt8) (fl nx lf:Int) (es rt:List (D × D)) (ks:List (List UInt8)) (n:Nat) (cs:List D):∃ L,RunIs Tryz.prog (csQ []) [] 1000 10 Tryz.f100 [] (seqR tlAp) (rEnd (sSa len cap b fl nx lf es rt ks) (hSk len cap b fl nx lf es rt ks (.slc (some (13,0)) n n 1) [(13,.deep cs)]) 14) L
  [([],
   [],
   .ret (.slc (some (10,0)) n n 1) (hSe len cap b fl nx lf es rt ks [(10,.deep cs)]) 11)]
 :=RunIs.of (by kernel_rfl) (by kernel_rfl) (by kernel_rfl)
theorem gs_5 (len cap:Nat) (b:List UInt8) (fl nx lf:Int) (es rt:List (D × D)) (ks:List (List UInt8)):∃ L,RunIs Tryz.prog (csQ []) [] 1000 10 Tryz.f100 [] (seqR tlAp) (rEnd (sSa len cap b fl nx lf es rt ks) (hSk len cap b fl nx lf es rt ks nilS []) 13) L
  [([],
   [],
   .ret (.slc none 0 0 0) (hSe len cap b fl nx lf es rt ks []) 10)]
 :=RunIs.of (by kernel_rfl) (by kernel_rfl) (by kernel_rfl)
def sC8 (h:Tr O) (n:Nat) (v:V):St:={ fr:=((((frL [(0,g81)]).set 3 (some g81)).set 4 (some v)).set 2 (some v)),h:=h,n:=n,dfs:=[] }
def sS8 (h:Tr O) (n:Nat) (v:V):St:={ fr:=((((frL [(0,g81),(1,g56)]).set 6 (some g81)).set 7 (some v)).set 5 (some v)),h:=h,n:=n,dfs:=[] }
theorem gs_6 (len cap:Nat) (b:List UInt8) (fl nx lf:Int) (es rt:List (D × D)) (ks:List (List UInt8)):∃ L,RunIs Tryz.prog (csQ []) [] 1000 10 Tryz.f79 [0] (headN 1 cdCl) (startSt [g81] (hSe len cap b fl nx lf es rt ks []) 10) L
  [([],
   [],
   .to .normal (stG [(0,g81)] (hSe len cap b fl nx lf es rt ks []) 10))]
 :=RunIs.of (by kernel_rfl) (by kernel_rfl) (by kernel_rfl)
theorem gs_7 (len cap:Nat) (b:List UInt8) (fl nx lf:Int) (es rt:List (D × D)) (ks:List (List UInt8)) (n:Nat) (cs:List D):∃ L,RunIs Tryz.prog (csQ []) [] 1000 10 Tryz.f79 [] (seqR (tailN 1 cdCl)) (sC8 (hSe len cap b fl nx lf es rt ks [(10,.deep cs)]) 11 (.slc (some (10,0)) n n 1)) L
  [([],
   [],
   .ret (.slc (some (10,0)) n n 1) (hSe len cap b fl nx lf es rt ks [(10,.deep cs)]) 11)]
 :=RunIs.of (by kernel_rfl) (by kernel_rfl) (by kernel_rfl)
theorem gs_8 (len cap:Nat) (b:List UInt8) (fl nx lf:Int) (es rt:List (D × D)) (ks:List (List UInt8)):∃ L,RunIs Tryz.prog (csQ []) [] 1000 10 Tryz.f79 [] (seqR (tailN 1 cdCl)) (sC8 (hSe len cap b fl nx lf es rt ks []) 10 nilS) L
  [([],
   [],
   .ret (.slc none 0 0 0) (hSe len cap b fl nx lf es rt ks []) 10)]
 :=RunIs.of (by kernel_rfl) (by kernel_rfl) (by kernel_rfl)
theorem gs_9 (len cap:Nat) (b:List UInt8) (fl nx lf:Int) (es rt:List (D × D)) (ks:List (List UInt8)):∃ L,RunIs Tryz.prog (csQ []) [] 1000 10 Tryz.f54 [0,1] (headN 1 cdSo) (startSt [g81,g56] (hSe len cap b fl nx lf es rt ks []) 10) L
  [([],
   [],
   .to .normal (stG [(0,g81),(1,g56)] (hSe len cap b fl nx lf es rt ks []) 10))]
 :=RunIs.of (by kernel_rfl) (by kernel_rfl) (by kernel_rfl)
theorem gs_10 (len cap:Nat) (b:List UInt8) (fl nx lf:Int) (es rt:List (D × D)) (ks:List (List UInt8)) (n:Nat) (cs cs2:List D):∃ L,RunIs Tryz.prog (pinS (csQ []) 80 [.slc (some (10,0)) n n 1,g56] (hSe len cap b fl nx lf es rt ks [(10,.deep cs)]) 11 (.tup [],(hSe len cap b fl nx lf es rt ks [(10,.deep cs)]).set 10 (some (.deep cs2)),11)) [] 1000 10 Tryz.f54 [] (tailN 2 cdSo) (sS8 (hSe len cap b fl nx lf es rt ks [(10,.deep cs)]) 11 (.slc (some (10,0)) n n 1)) L
  [([],
   [([V.slc (some (10,0)) n n 1,g56]=[V.slc (some (10,0)) n n 1,g56]∧hSe len cap b fl nx lf es rt ks [(10,.deep cs)]=hSe len cap b fl nx lf es rt ks [(10,.deep cs)]∧11=11)],
   .ret (.slc (some (10,0)) n n 1) (hSe len cap b fl nx lf es rt ks [(10,.deep cs2)]) 11)]
 :=RunIs.of (by kernel_rfl) (by kernel_rfl) (by kernel_rfl)
theorem gs_11 (len cap:Nat) (b:List UInt8) (fl nx lf:Int) (es rt:List (D × D)) (ks:List (List UInt8)):∃ L,RunIs Tryz.prog (csQ []) [] 1000 10 Tryz.f54 [] (tailN 2 cdSo) (sS8 (hSe len cap b fl nx lf es rt ks []) 10 nilS) L
  [([],
   [((0:Int) ≤ (0:Int)∧0 < 256)],
   .ret (.slc none 0 0 0) (hSe len cap b fl nx lf es rt ks []) 10)]
 :=RunIs.of (by kernel_rfl) (by kernel_rfl) (by kernel_rfl)
end Go.Proofs.YtfihojpgobmmdaaGreatDoor
namespace Go.Proofs.YtfihojpgobmmdaaGreatDoor
open Go Go.Eng
def rowD (m:Nat):List (List UInt8)→List (Nat × O)
 | []=>[]
 | ks=>[(m,.deep (strs ks))]
theorem snL_keys (ks:List (List UInt8)):keysOf (snL ks)=ks:=by
 unfold keysOf snL
 rw [List.map_map]
 exact List.map_id'' (fun _=>rfl) ks
section
variable (len cap:Nat) (b:List UInt8) (fl nx lf:Int) (es rt:List (D × D)) (ks:List (List UInt8))
def JSk (vis:List (D × D)) (s1:St):Prop:=KeyS vis∧Ref 14 Tryz.f81.ntmps s1 (SSk len cap b fl nx lf es rt ks (slK 14 (keysOf vis)) (rowD 14 (keysOf vis)) (nK 14 (keysOf vis)))
abbrev RSk (v:V) (h:Tr O) (n:Nat):Prop:=∃ ls,List.Perm ls ks∧v= .tup []∧h=hSk len cap b fl nx lf es rt ks (slK 13 ls) (rowD 13 ls)∧n=nK 13 ls
set_option maxRecDepth 20000 in
theorem call81g (hl:ks.length ≤ 1000000):CallsOne Tryz.prog 81 [.fn (.yield 12) [] [],P 9] (hSk len cap b fl nx lf es rt ks nilS []) 13 (RSk len cap b fl nx lf es rt ks):=by
 refine callsOne_of_TG mo po Tryz.func81 (code:=cdKy) (by kernel_rfl) (by kernel_rfl) ?_
 rw [ml81]
 have hl2:(snL ks).length=ks.length:=by unfold snL; rw [List.length_map]
 refine TG_mapsR (v0:=.map (some 8)) (fr0:=(startSt [.fn (.yield 12) [] [],P 9] (hSk len cap b fl nx lf es rt ks nilS []) 13).fr.set 4 (some (.map (some 8)))) (fr1:=((startSt [.fn (.yield 12) [] [],P 9] (hSk len cap b fl nx lf es rt ks nilS []) 13).fr.set 4 (some (.map (some 8)))).set 5 (some (P 13))) (m:=8) (kd:=none) (es:=snL ks) mo ml81_ok
  (by kernel_rfl) (by kernel_rfl) (by kernel_rfl) (by kernel_rfl) (Nat.le_of_ble_eq_true rfl) (by kernel_rfl) (JSk len cap b fl nx lf es rt ks) ⟨(fun _ h=>by cases h),.norm (L:=[0,5]) (by kernel_rfl)⟩ ?_
 rintro vis left s1 ⟨hv,hs⟩ hp
 have hlen:vis.length ≤ 1000000:=by
  have:=hp.length_eq
  rw [List.length_append] at this; omega
 have hmem:∀ e left',List.Perm left (e :: left')→∃ k,e=(.str k,.bool true):=fun e left' he=>by
  obtain ⟨k,_,h⟩:=List.mem_map.1 (hp.mem_iff.1 (List.mem_append_right _ (he.mem_iff.2 (List.mem_cons_self ..))))
  exact ⟨k,h.symm⟩
 have hfin:left=[]→List.Perm (keysOf vis) ks:=fun h=>by
  subst h
  rw [List.append_nil] at hp
  have:=keysOf_perm hp
  rwa [snL_keys] at this
 have hnext:∀ k,keysOf (vis ++ [(.str k,.bool true)])=keysOf vis ++ [k]:=fun k=>by unfold keysOf; rw [List.map_append]; rfl
 have hkv:∀ k,KeyS (vis ++ [(.str k,.bool true)]):=fun k z hz=>by
  rcases List.mem_append.1 hz with hz | hz
  · exact hv z hz
  · rw [List.mem_singleton] at hz; subst hz; exact ⟨k,rfl⟩
 have hkl:(keysOf vis).length ≤ 1000000:=by rw [keysOf_len]; exact hlen
 have hJ:∀ k s',Ref 14 Tryz.f81.ntmps s' (SSk len cap b fl nx lf es rt ks (slK 14 (keysOf vis ++ [k])) (rowD 14 (keysOf vis ++ [k])) (nK 14 (keysOf vis ++ [k])))→JSk len cap b fl nx lf es rt ks (vis ++ [(.str k,.bool true)]) s':=fun k s' h=>⟨hkv k,by rw [hnext]; exact h⟩
 generalize keysOf vis=ls at *
 cases ls with
 | nil=>
   refine ⟨_,hs,by kernel_rfl,fun h0=>?_,fun e left' he=>?_⟩
   · refine ⟨(SSk len cap b fl nx lf es rt ks nilS [] 14).fr.set 6 (some (.tup [.bool false])),{ SSk len cap b fl nx lf es rt ks nilS [] 14 with fr:=((SSk len cap b fl nx lf es rt ks nilS [] 14).fr.set 6 (some (.tup [.bool false]))).set 7 (some (.bool false)) },by kernel_rfl,by kernel_rfl,by kernel_rfl,.inl rfl,.tup [],hSk len cap b fl nx lf es rt ks nilS [],13,by kernel_rfl,[],hfin h0,rfl,rfl,rfl⟩
   · obtain ⟨k,rfl⟩:=hmem e left' he
     refine ⟨(SSk len cap b fl nx lf es rt ks nilS [] 14).fr.set 6 (some (.tup [.bool true,.str k,.bool true])),{ SSk len cap b fl nx lf es rt ks nilS [] 14 with fr:=((SSk len cap b fl nx lf es rt ks nilS [] 14).fr.set 6 (some (.tup [.bool true,.str k,.bool true]))).set 7 (some (.bool true)) },
      (((SSk len cap b fl nx lf es rt ks nilS [] 14).fr.set 6 (some (.tup [.bool true,.str k,.bool true]))).set 7 (some (.bool true))).set 8 (some (.tup [.str k,.bool true])),kSt (SSk len cap b fl nx lf es rt ks nilS [] 14) k (.bool true),by kernel_rfl,by kernel_rfl,by kernel_rfl,by kernel_rfl,by kernel_rfl,by kernel_rfl,by kernel_rfl,by kernel_rfl,?_⟩
     obtain ⟨L,hr⟩:=gs_0 len cap b fl nx lf es rt ks k (.bool true)
     refine TG_is (XQ []) mo anyR (by kernel_rfl) hr fun g hg _=>?_
     rw [List.mem_singleton] at hg; subst hg
     exact ⟨all_nil,fun s' hs'=>hJ k s' ((Ref.norm hs').trans (.deep [14] (by kernel_rfl)))⟩
 | cons y ys=>
   have h1:∀ m,rowD m (y :: ys)=[(m,.deep (strs (y :: ys)))]∧slK m (y :: ys)= .slc (some (m,0)) (y :: ys).length (y :: ys).length 1∧nK m (y :: ys)=m+1:=fun m=>⟨rfl,rfl,rfl⟩
   have h2:∀ m k,rowD m (y :: ys ++ [k])=[(m,.deep (strs (y :: ys ++ [k])))]∧slK m (y :: ys ++ [k])= .slc (some (m,0)) (y :: ys ++ [k]).length (y :: ys ++ [k]).length 1∧nK m (y :: ys ++ [k])=m+1:=fun m k=>⟨rfl,rfl,rfl⟩
   have h3:0 < (y :: ys).length:=Nat.succ_pos _
   generalize y :: ys=ls at *
   rw [(h1 14).1,(h1 14).2.1,(h1 14).2.2] at hs
   refine ⟨_,hs,by kernel_rfl,fun h0=>?_,fun e left' he=>?_⟩
   · refine ⟨(SSk len cap b fl nx lf es rt ks (.slc (some (14,0)) ls.length ls.length 1) [(14,.deep (strs ls))] 15).fr.set 6 (some (.tup [.bool false])),{ SSk len cap b fl nx lf es rt ks (.slc (some (14,0)) ls.length ls.length 1) [(14,.deep (strs ls))] 15 with fr:=((SSk len cap b fl nx lf es rt ks (.slc (some (14,0)) ls.length ls.length 1) [(14,.deep (strs ls))] 15).fr.set 6 (some (.tup [.bool false]))).set 7 (some (.bool false)) },by kernel_rfl,by kernel_rfl,by kernel_rfl,.inl rfl,.tup [],hSk len cap b fl nx lf es rt ks (.slc (some (13,0)) ls.length ls.length 1) [(13,.deep (strs ls))],14,by kernel_rfl,ls,hfin h0,rfl,?_,?_⟩
     · rw [(h1 13).1,(h1 13).2.1]
     · rw [(h1 13).2.2]
   · obtain ⟨k,rfl⟩:=hmem e left' he
     refine ⟨(SSk len cap b fl nx lf es rt ks (.slc (some (14,0)) ls.length ls.length 1) [(14,.deep (strs ls))] 15).fr.set 6 (some (.tup [.bool true,.str k,.bool true])),{ SSk len cap b fl nx lf es rt ks (.slc (some (14,0)) ls.length ls.length 1) [(14,.deep (strs ls))] 15 with fr:=((SSk len cap b fl nx lf es rt ks (.slc (some (14,0)) ls.length ls.length 1) [(14,.deep (strs ls))] 15).fr.set 6 (some (.tup [.bool true,.str k,.bool true]))).set 7 (some (.bool true)) },
      (((SSk len cap b fl nx lf es rt ks (.slc (some (14,0)) ls.length ls.length 1) [(14,.deep (strs ls))] 15).fr.set 6 (some (.tup [.bool true,.str k,.bool true]))).set 7 (some (.bool true))).set 8 (some (.tup [.str k,.bool true])),kSt (SSk len cap b fl nx lf es rt ks (.slc (some (14,0)) ls.length ls.length 1) [(14,.deep (strs ls))] 15) k (.bool true),by kernel_rfl,by kernel_rfl,by kernel_rfl,by kernel_rfl,by kernel_rfl,by kernel_rfl,by kernel_rfl,by kernel_rfl,?_⟩
     obtain ⟨L,hr⟩:=gs_1 len cap b fl nx lf es rt ks k (.bool true) ls.length (strs ls)
     refine TG_is (XQ []) mo anyR (by kernel_rfl) hr fun g hg _=>?_
     rw [List.mem_singleton] at hg; subst hg
     refine ⟨fm (by rw [strs_len]; omega) (fm (by decide) (fm1 (roomy16 (by omega)))),fun s' hs'=>hJ k s' ?_⟩
     have e:List.take (ls.length * 1) (List.drop 0 (strs ls)) ++ [D.str k]=strs (ls ++ [k]):=by
      rw [List.drop_zero,Nat.mul_one,List.take_of_length_le (by rw [strs_len]; omega)]
      unfold strs; rw [List.map_append]; rfl
     rw [e] at hs'
     rw [(h2 14 k).1,(h2 14 k).2.1,(h2 14 k).2.2,List.length_append]
     exact .norm hs'
abbrev RSe (v:V) (h:Tr O) (n:Nat):Prop:=∃ ls,List.Perm ls ks∧v=slK 10 ls∧h=hSe len cap b fl nx lf es rt ks (rowD 10 ls)∧n=nK 10 ls
theorem call100g (hl:ks.length ≤ 1000000):CallsOne Tryz.prog 100 [nilS,g81] (hSe len cap b fl nx lf es rt ks []) 10 (RSe len cap b fl nx lf es rt ks):=by
 refine callsOne_of_TG mo po Tryz.func100 (code:=cdAp) (by kernel_rfl) (by kernel_rfl) ?_
 obtain ⟨L1,hr1⟩:=gs_2 len cap b fl nx lf es rt ks
 refine TG_isN1 1 (XQ []) mo (by kernel_rfl) hr1 all_nil ?_
 refine TG_seq' (by kernel_rfl) ?_
 refine TG_seq' (by kernel_rfl) ?_
 obtain ⟨L2,hr2⟩:=gs_3 len cap b fl nx lf es rt ks
 refine TG_is (XQ []) mo anyR (by kernel_rfl) hr2 fun g hg _=>?_
 rw [List.mem_singleton] at hg; subst hg
 refine ⟨all_nil,fun s' hs'=>TG_norm hs' ?_⟩
 refine TG_block (i:=0) (by kernel_rfl) ?_
 refine TG_rangeN (gf:=81) (lb:=[P 9]) (by kernel_rfl) (by kernel_rfl) (by kernel_rfl) (by kernel_rfl) (by kernel_rfl) (call81g len cap b fl nx lf es rt ks hl) ?_
 rintro v h n ⟨ls,hp,rfl,rfl,rfl⟩
 cases ls with
 | nil=>
   refine ⟨by kernel_rfl,?_⟩
   obtain ⟨L5,hr5⟩:=gs_5 len cap b fl nx lf es rt ks
   refine TG_ret (XQ []) mo _ (by kernel_rfl) hr5 fun g hg _=>?_
   rw [List.mem_singleton] at hg; subst hg
   exact ⟨all_nil,_,_,_,rfl,[],hp,rfl,rfl,rfl⟩
 | cons x xs=>
   refine ⟨by kernel_rfl,?_⟩
   obtain ⟨L5,hr5⟩:=gs_4 len cap b fl nx lf es rt ks (x :: xs).length (strs (x :: xs))
   refine TG_ret (XQ []) mo _ (by kernel_rfl) hr5 fun g hg _=>?_
   rw [List.mem_singleton] at hg; subst hg
   exact ⟨all_nil,_,_,_,rfl,x :: xs,hp,rfl,rfl,rfl⟩
theorem call79g (hl:ks.length ≤ 1000000):CallsOne Tryz.prog 79 [g81] (hSe len cap b fl nx lf es rt ks []) 10 (RSe len cap b fl nx lf es rt ks):=by
 refine callsOne_of_TG mo po Tryz.func79 (code:=cdCl) (by kernel_rfl) (by kernel_rfl) ?_
 obtain ⟨L1,hr1⟩:=gs_6 len cap b fl nx lf es rt ks
 refine TG_isN1 1 (XQ []) mo (by kernel_rfl) hr1 all_nil ?_
 refine TG_seq' (by kernel_rfl) ?_
 refine TG_callAt 1 (s1:={ fr:=(frL [(0,g81)]).set 3 (some g81),h:=hSe len cap b fl nx lf es rt ks [],n:=10,dfs:=[] }) (f:=100) (args:=[nilS,g81]) (by kernel_rfl) (by kernel_rfl) (by kernel_rfl) (by kernel_rfl) (by kernel_rfl) (by kernel_rfl) (call100g len cap b fl nx lf es rt ks hl) ?_
 rintro v h n ⟨ls,hp,rfl,rfl,rfl⟩
 cases ls with
 | nil=>
   refine ⟨(((frL [(0,g81)]).set 3 (some g81)).set 4 (some nilS)),sC8 (hSe len cap b fl nx lf es rt ks []) 10 nilS,by kernel_rfl,by kernel_rfl,?_⟩
   obtain ⟨L5,hr5⟩:=gs_8 len cap b fl nx lf es rt ks
   refine TG_ret (XQ []) mo _ (by kernel_rfl) hr5 fun g hg _=>?_
   rw [List.mem_singleton] at hg; subst hg
   exact ⟨all_nil,_,_,_,rfl,[],hp,rfl,rfl,rfl⟩
 | cons x xs=>
   refine ⟨(((frL [(0,g81)]).set 3 (some g81)).set 4 (some (.slc (some (10,0)) (x :: xs).length (x :: xs).length 1))),sC8 (hSe len cap b fl nx lf es rt ks [(10,.deep (strs (x :: xs)))]) 11 (.slc (some (10,0)) (x :: xs).length (x :: xs).length 1),by kernel_rfl,by kernel_rfl,?_⟩
   obtain ⟨L5,hr5⟩:=gs_7 len cap b fl nx lf es rt ks (x :: xs).length (strs (x :: xs))
   refine TG_ret (XQ []) mo _ (by kernel_rfl) hr5 fun g hg _=>?_
   rw [List.mem_singleton] at hg; subst hg
   exact ⟨all_nil,_,_,_,rfl,x :: xs,hp,rfl,rfl,rfl⟩
theorem call54g (zs:List (List UInt8)) (hl:ks.length < 1000000) (hent:Ent es) (hn:∀ x,0 ≤ numD es x∧numD es x < 1000000000) (hz:List.Perm zs ks) (hs:zs.Pairwise fun a b=>numD es a < numD es b):
  CallIs Tryz.prog 54 [g81,g56] (hSe len cap b fl nx lf es rt ks []) 10 (slK 10 zs) (hSe len cap b fl nx lf es rt ks (rowD 10 zs)) (nK 10 zs):=by
 refine callIs_of_TG Tryz.func54 (code:=cdSo) (by kernel_rfl) (by kernel_rfl) ?_
 obtain ⟨L1,hr1⟩:=gs_9 len cap b fl nx lf es rt ks
 refine TG_isN1 1 (XQ []) mo (by kernel_rfl) hr1 all_nil ?_
 refine TG_seq' (by kernel_rfl) ?_
 refine TG_callAt 1 (s1:={ fr:=(frL [(0,g81),(1,g56)]).set 6 (some g81),h:=hSe len cap b fl nx lf es rt ks [],n:=10,dfs:=[] }) (f:=79) (args:=[g81]) (by kernel_rfl) (by kernel_rfl) (by kernel_rfl) (by kernel_rfl) (by kernel_rfl) (by kernel_rfl) (call79g len cap b fl nx lf es rt ks (Nat.le_of_lt hl)) ?_
 rintro v h n ⟨ls,hp,rfl,rfl,rfl⟩
 have hzl:List.Perm zs ls:=hz.trans hp.symm
 have hlen:ls.length < 1000000:=by rw [hp.length_eq]; exact hl
 cases ls with
 | nil=>
   have:zs=[]:=hzl.eq_nil
   subst this
   refine ⟨(((frL [(0,g81),(1,g56)]).set 6 (some g81)).set 7 (some nilS)),sS8 (hSe len cap b fl nx lf es rt ks []) 10 nilS,by kernel_rfl,by kernel_rfl,?_⟩
   obtain ⟨L5,hr5⟩:=gs_11 len cap b fl nx lf es rt ks
   refine TG_ret (XQ []) mo _ (by kernel_rfl) hr5 fun g hg _=>?_
   rw [List.mem_singleton] at hg; subst hg
   exact ⟨fm1 ⟨by decide,by decide⟩,_,_,_,rfl,rfl,rfl,rfl⟩
 | cons x xs=>
   have hzn:zs.length=(x :: xs).length:=hzl.length_eq
   have h1:slK 10 zs= .slc (some (10,0)) zs.length zs.length 1∧rowD 10 zs=[(10,.deep (strs zs))]∧nK 10 zs=11:=by
    cases zs with
    | nil=>cases hzn
    | cons z zs=>exact ⟨rfl,rfl,rfl⟩
   rw [h1.1,h1.2.1,h1.2.2,hzn]
   refine ⟨(((frL [(0,g81),(1,g56)]).set 6 (some g81)).set 7 (some (.slc (some (10,0)) (x :: xs).length (x :: xs).length 1))),sS8 (hSe len cap b fl nx lf es rt ks [(10,.deep (strs (x :: xs)))]) 11 (.slc (some (10,0)) (x :: xs).length (x :: xs).length 1),by kernel_rfl,by kernel_rfl,?_⟩
   obtain ⟨L5,hr5⟩:=gs_10 len cap b fl nx lf es rt ks (x :: xs).length (strs (x :: xs)) (strs zs)
   have hc:CallIs Tryz.prog 80 [.slc (some (10,0)) (x :: xs).length (x :: xs).length 1,g56] (hSe len cap b fl nx lf es rt ks [(10,.deep (strs (x :: xs)))]) 11 (.tup []) ((hSe len cap b fl nx lf es rt ks [(10,.deep (strs (x :: xs)))]).set 10 (some (.deep (strs zs)))) 11:=
    call80 (bx:=7) (st:=3) (c:=5) (cs:=stoC 4 5 6 (pS len cap b fl nx lf es rt)) (x :: xs) zs (by kernel_rfl) (by decide) (by kernel_rfl) (by kernel_rfl) rfl (by kernel_rfl) hent hn (Nat.succ_pos _) hlen hzl hs (by decide) (by decide) (by decide)
   refine TG_ret ((XQ []).pin (Nat.le_of_ble_eq_true (by kernel_rfl)) hc) mo _ (by kernel_rfl) hr5 fun g hg _=>?_
   rw [List.mem_singleton] at hg; subst hg
   exact ⟨fm1 ⟨rfl,rfl,rfl⟩,_,_,_,rfl,rfl,rfl,rfl⟩
end
end Go.Proofs.YtfihojpgobmmdaaGreatDoor
namespace Go.Proofs.YtfihojpgobmmdaaGreatDoor
open Go Go.Eng
noncomputable abbrev hd4:Code:=headN 4 cdCo
noncomputable abbrev tl4:Code:=tailN 4 cdCo
noncomputable abbrev tl5:Code:=tailN 5 cdCo
section
variable (len cap:Nat) (b:List UInt8) (fl nx lf:Int) (es rt:List (D × D)) (ks:List (List UInt8))
def lH1:List (Nat × O):=lC len cap b fl nx lf es rt
def lH2:List (Nat × O):=lC len cap b fl nx lf es rt ++ [(20,.mapD none (snL ks))]
def lH3 (row:List (Nat × O)):List (Nat × O):=lC len cap b fl nx lf es rt ++ [(20,.mapD none (snL ks)),(21,.cells [.map (some 20)])] ++ row
end
theorem ha_1 (len cap:Nat) (b:List UInt8) (fl nx lf:Int) (es rt:List (D × D)) (ks:List (List UInt8)) (n:Nat) (cs:List D):∃ L,RunIs Tryz.prog (pinS (pinS (csQ []) 51 [P3,v78] (hL (lH1 len cap b fl nx lf es rt)) 20 (.map (some 20),hL (lH2 len cap b fl nx lf es rt ks),21)) 54 [v81,v56] (hL (lH3 len cap b fl nx lf es rt ks [])) 22 (.slc (some (22,0)) n n 1,hL (lH3 len cap b fl nx lf es rt ks [(22,.deep cs)]),23)) [] 1000 7 Tryz.f19 [1,3,4] (hd4) (startSt [P3] (memS (pS len cap b fl nx lf es rt)) 7) L
  [([],
   [(([.ptr (some (3,0)),.fn (.func 78) [] [.ptr (some (19,0))]]:List V)=[.ptr (some (3,0)),.fn (.func 78) [] [.ptr (some (19,0))]]∧(hL (memL (pS len cap b fl nx lf es rt) ++ [(7,.cells [.ptr (some (3,0))]),(19,.cells [.map (some 6)])]))=(hL (memL (pS len cap b fl nx lf es rt) ++ [(7,.cells [.ptr (some (3,0))]),(19,.cells [.map (some 6)])]))∧20=20),(([.fn (.func 81) [] [.ptr (some (21,0))],.fn (.func 56) [] [.ptr (some (7,0))]]:List V)=[.fn (.func 81) [] [.ptr (some (21,0))],.fn (.func 56) [] [.ptr (some (7,0))]]∧(hL (memL (pS len cap b fl nx lf es rt) ++ [(7,.cells [.ptr (some (3,0))]),(19,.cells [.map (some 6)]),(20,.mapD none (snL ks)),(21,.cells [.map (some 20)])]))=(hL (memL (pS len cap b fl nx lf es rt) ++ [(7,.cells [.ptr (some (3,0))]),(19,.cells [.map (some 6)]),(20,.mapD none (snL ks)),(21,.cells [.map (some 20)])]))∧22=22)],
   .to .normal (stG [(1,.ptr (some (7,0))),(3,.slc (some (8,0)) n n 1),(4,.slc none 0 0 0)] (hL (memL (pS len cap b fl nx lf es rt) ++ [(7,.cells [.ptr (some (3,0))]),(8,.deep cs)])) 9))]
 :=RunIs.of (by kernel_rfl) (by kernel_rfl) (by kernel_rfl)
theorem ha_2 (len cap:Nat) (b:List UInt8) (fl nx lf:Int) (es rt:List (D × D)) (ks:List (List UInt8)):∃ L,RunIs Tryz.prog (pinS (pinS (csQ []) 51 [P3,v78] (hL (lH1 len cap b fl nx lf es rt)) 20 (.map (some 20),hL (lH2 len cap b fl nx lf es rt ks),21)) 54 [v81,v56] (hL (lH3 len cap b fl nx lf es rt ks [])) 22 (nilS,hL (lH3 len cap b fl nx lf es rt ks []),22)) [] 1000 7 Tryz.f19 [1,3,4] (hd4) (startSt [P3] (memS (pS len cap b fl nx lf es rt)) 7) L
  [([],
   [(([.ptr (some (3,0)),.fn (.func 78) [] [.ptr (some (19,0))]]:List V)=[.ptr (some (3,0)),.fn (.func 78) [] [.ptr (some (19,0))]]∧(hL (memL (pS len cap b fl nx lf es rt) ++ [(7,.cells [.ptr (some (3,0))]),(19,.cells [.map (some 6)])]))=(hL (memL (pS len cap b fl nx lf es rt) ++ [(7,.cells [.ptr (some (3,0))]),(19,.cells [.map (some 6)])]))∧20=20),(([.fn (.func 81) [] [.ptr (some (21,0))],.fn (.func 56) [] [.ptr (some (7,0))]]:List V)=[.fn (.func 81) [] [.ptr (some (21,0))],.fn (.func 56) [] [.ptr (some (7,0))]]∧(hL (memL (pS len cap b fl nx lf es rt) ++ [(7,.cells [.ptr (some (3,0))]),(19,.cells [.map (some 6)]),(20,.mapD none (snL ks)),(21,.cells [.map (some 20)])]))=(hL (memL (pS len cap b fl nx lf es rt) ++ [(7,.cells [.ptr (some (3,0))]),(19,.cells [.map (some 6)]),(20,.mapD none (snL ks)),(21,.cells [.map (some 20)])]))∧22=22)],
   .to .normal (stG [(1,.ptr (some (7,0))),(3,.slc none 0 0 0),(4,.slc none 0 0 0)] (hL (memL (pS len cap b fl nx lf es rt) ++ [(7,.cells [.ptr (some (3,0))])])) 8))]
 :=RunIs.of (by kernel_rfl) (by kernel_rfl) (by kernel_rfl)
section
variable (len cap:Nat) (b:List UInt8) (fl nx lf:Int) (es rt:List (D × D)) (zs:List (List UInt8)) (i:Nat) (bs:List UInt8)
def sHk0:St:=stG [(1,P 7),(4,nilS),(26,.slc (some (8,0)) zs.length zs.length 1),(27,.int .i64 (Int.ofNat zs.length)),(28,.int .i64 0)] (hL (memL (pS len cap b fl nx lf es rt) ++ [(7,.cells [P3]),(8,.deep (strs zs))])) 9
def sHk:St:=stG [(1,P 7),(4,.slc (some (8,0)) bs.length bs.length 1),(26,.slc (some (9,0)) zs.length zs.length 1),(27,.int .i64 (Int.ofNat zs.length)),(28,.int .i64 (Int.ofNat i))] (hL (memL (pS len cap b fl nx lf es rt) ++ [(7,.cells [P3]),(8,.buf 5 false bs),(9,.deep (strs zs))])) 10
def sHe:St:=stG [(1,P 7),(4,.slc (some (8,0)) bs.length bs.length 1)] (hL (memL (pS len cap b fl nx lf es rt) ++ [(7,.cells [P3]),(8,.buf 5 false bs)])) 9
def sHn:St:=stG [(1,P 7),(4,nilS)] (hL (memL (pS len cap b fl nx lf es rt) ++ [(7,.cells [P3])])) 8
end
theorem ha_3 (len cap:Nat) (b:List UInt8) (fl nx lf:Int) (es rt:List (D × D)) (zs:List (List UInt8)):∃ L,RunIs Tryz.prog (csQ []) [(28,.give (.int .i64 (Int.ofNat 0)))] 1000 7 Tryz.f19 [1,4,26,27,28] (seqL (seqL tl4)) (stG [(1,P 7),(3,.slc (some (8,0)) zs.length zs.length 1),(4,nilS)] (hL (memL (pS len cap b fl nx lf es rt) ++ [(7,.cells [P3]),(8,.deep (strs zs))])) 9) L
  [([],
   [(V.int IntKind.i64 (0:Int)=V.int IntKind.i64 (0:Int))],
   .to .normal (sHk0 len cap b fl nx lf es rt zs))]
 :=RunIs.of (by kernel_rfl) (by kernel_rfl) (by kernel_rfl)
abbrev ha_4A1 (es:List (D × D)) (x d:List UInt8) (rs:List (List UInt8)) (k:Int):Prop:=(if false=true then V.tup [D.valV (V.agg [V.str ([]:List UInt8),V.slc none 0 0 0,V.int IntKind.i64 (0:Int)]) (lookD (D.str x) es),V.bool (lookD (D.str x) es).isSome] else D.valV (V.agg [V.str ([]:List UInt8),V.slc none 0 0 0,V.int IntKind.i64 (0:Int)]) (lookD (D.str x) es))=entV d rs k
theorem ha_4 (len cap:Nat) (b:List UInt8) (fl nx lf:Int) (es rt:List (D × D)) (zs:List (List UInt8)) (x d:List UInt8) (rs:List (List UInt8)) (k:Int):∃ L,RunIs Tryz.prog csT [(29,.split),(31,.give (.str x)),(38,.give (entV d rs k)),(45,.give (entV d rs k))] 1000 7 Tryz.f19 [1,4,26,27,28] (inner (inner (seqR (seqL tl4)))) (sHk0 len cap b fl nx lf es rt zs) L
  [([((decide ((0:Int) < Int.ofNat zs.length)),true)],
   [((0:Int) ≤ (0:Int)∧(0:Int) < (Int.ofNat zs.length)),(0 < (strs zs).length),(((strs zs).getD 0 D.dflt).toV=V.str x),ha_4A1 es x d rs k,ha_4A1 es x d rs k,(strs rs=strs (strL (strs rs))),(rs.length=(strL (strs rs)).length),(d.length ≤ 100000000),(rs.length ≤ 1000000),((strL (strs rs)).flatten.length ≤ 100000000),(0 < (recB d (strL (strs rs))).length),(roomy (recB d (strL (strs rs))).length 1 1=true)],
   .to .normal (stG [(1,.ptr (some (7,0))),(4,.slc (some (8,0)) ((recB d (strL (strs rs))).length) ((recB d (strL (strs rs))).length) 1),(26,.slc (some (9,0)) (zs.length) (zs.length) 1),(27,.int .i64 (Int.ofNat zs.length)),(28,.int .i64 1)] (hL (memL (pS len cap b fl nx lf es rt) ++ [(7,.cells [.ptr (some (3,0))]),(8,.buf 5 false (recB d (strL (strs rs)))),(9,.deep (strs zs))])) 10)),
  ([((decide ((0:Int) < Int.ofNat zs.length)),false)],
   [],
   .to (.exit 0) (stG [(1,.ptr (some (7,0))),(4,.slc none 0 0 0),(26,.slc (some (8,0)) (zs.length) (zs.length) 1),(27,.int .i64 (Int.ofNat zs.length)),(28,.int .i64 0)] (hL (memL (pS len cap b fl nx lf es rt) ++ [(7,.cells [.ptr (some (3,0))]),(8,.deep (strs zs))])) 9))]
 :=RunIs.of (by kernel_rfl) (by kernel_rfl) (by kernel_rfl)
abbrev ha_5A1 (es:List (D × D)) (x d:List UInt8) (rs:List (List UInt8)) (k:Int):Prop:=(if false=true then V.tup [D.valV (V.agg [V.str ([]:List UInt8),V.slc none 0 0 0,V.int IntKind.i64 (0:Int)]) (lookD (D.str x) es),V.bool (lookD (D.str x) es).isSome] else D.valV (V.agg [V.str ([]:List UInt8),V.slc none 0 0 0,V.int IntKind.i64 (0:Int)]) (lookD (D.str x) es))=entV d rs k
theorem ha_5 (len cap:Nat) (b:List UInt8) (fl nx lf:Int) (es rt:List (D × D)) (zs:List (List UInt8)) (i:Nat) (x d:List UInt8) (rs:List (List UInt8)) (k:Int) (bs:List UInt8):∃ L,RunIs Tryz.prog csT [(29,.split),(31,.give (.str x)),(38,.give (entV d rs k)),(45,.give (entV d rs k)),(49,.give (.int .i64 (Int.ofNat (i+1))))] 1000 7 Tryz.f19 [1,4,26,27,28] (inner (inner (seqR (seqL tl4)))) (sHk len cap b fl nx lf es rt zs i bs) L
  [([((decide (Int.ofNat i < Int.ofNat zs.length)),true)],
   [((0:Int) ≤ Int.ofNat i∧Int.ofNat i < (Int.ofNat zs.length)),(0+i * 1 < (strs zs).length),(((strs zs).getD (0+i * 1) D.dflt).toV=V.str x),ha_5A1 es x d rs k,ha_5A1 es x d rs k,(strs rs=strs (strL (strs rs))),(rs.length=(strL (strs rs)).length),(d.length ≤ 100000000),(rs.length ≤ 1000000),((strL (strs rs)).flatten.length ≤ 100000000),(0 < bs.length),(bs.length=bs.length),(roomy (bs.length+(recB d (strL (strs rs))).length) 1 1=true),ieq (Int.ofNat i+(1:Int)) (i+1)],
   .to .normal (stG [(1,.ptr (some (7,0))),(4,.slc (some (8,0)) (bs.length+(recB d (strL (strs rs))).length) (bs.length+(recB d (strL (strs rs))).length) 1),(26,.slc (some (9,0)) (zs.length) (zs.length) 1),(27,.int .i64 (Int.ofNat zs.length)),(28,.int .i64 (Int.ofNat (i+1)))] (hL (memL (pS len cap b fl nx lf es rt) ++ [(7,.cells [.ptr (some (3,0))]),(8,.buf 5 false (bs ++ strI (bytesI (recB d (strL (strs rs)))))),(9,.deep (strs zs))])) 10)),
  ([((decide (Int.ofNat i < Int.ofNat zs.length)),false)],
   [],
   .to (.exit 0) (stG [(1,.ptr (some (7,0))),(4,.slc (some (8,0)) (bs.length) (bs.length) 1),(26,.slc (some (9,0)) (zs.length) (zs.length) 1),(27,.int .i64 (Int.ofNat zs.length)),(28,.int .i64 (Int.ofNat i))] (hL (memL (pS len cap b fl nx lf es rt) ++ [(7,.cells [.ptr (some (3,0))]),(8,.buf 5 false bs),(9,.deep (strs zs))])) 10))]
 :=RunIs.of (by kernel_rfl) (by kernel_rfl) (by kernel_rfl)
theorem ha_6 (len cap:Nat) (b:List UInt8) (fl nx lf:Int) (es rt:List (D × D)) (zs:List (List UInt8)) (i:Nat) (bs:List UInt8):∃ L,RunIs Tryz.prog csT [(29,.give (.bool false))] 1000 7 Tryz.f19 [1,4] (inner (inner (seqR (seqL tl4)))) (sHk len cap b fl nx lf es rt zs i bs) L
  [([],
   [(V.bool (decide (Int.ofNat i < Int.ofNat zs.length))=V.bool false)],
   .to (.exit 0) (stG [(1,.ptr (some (7,0))),(4,.slc (some (8,0)) (bs.length) (bs.length) 1)] (hL (memL (pS len cap b fl nx lf es rt) ++ [(7,.cells [.ptr (some (3,0))]),(8,.buf 5 false bs)])) 9))]
 :=RunIs.of (by kernel_rfl) (by kernel_rfl) (by kernel_rfl)
theorem ha_7 (len cap:Nat) (b:List UInt8) (fl nx lf:Int) (es rt:List (D × D)):∃ L,RunIs Tryz.prog (csQ []) [] 1000 7 Tryz.f19 [1,4] (seqL tl4) (stG [(1,P 7),(3,nilS),(4,nilS)] (hL (memL (pS len cap b fl nx lf es rt) ++ [(7,.cells [P3])])) 8) L
  [([],
   [],
   .to .normal (sHn len cap b fl nx lf es rt))]
 :=RunIs.of (by kernel_rfl) (by kernel_rfl) (by kernel_rfl)
section
variable (len cap:Nat) (b:List UInt8) (fl nx lf:Int) (es rt:List (D × D)) (zs:List (List UInt8)) (i:Nat) (bs:List UInt8)
def lHe:List (Nat × O):=memL (pS len cap b fl nx lf es rt) ++ [(7,.cells [P3]),(8,.buf 5 false bs)]
def sHr:St:=stG [(1,P 7),(4,.slc (some (8,0)) bs.length bs.length 1),(51,.slc (some (9,0)) zs.length zs.length 1),(52,.int .i64 (Int.ofNat zs.length)),(53,.int .i64 (Int.ofNat i))] (hL (memL (pS len cap b fl nx lf es rt) ++ [(7,.cells [P3]),(8,.buf 5 false bs),(9,.deep (strs zs))])) 10
end
section
variable (b:List UInt8) (nx lf:Int) (es rt:List (D × D)) (bs:List UInt8)
def l3b (fl:Int):List (Nat × O):=[(0,.ints .u32 gS),(1,.ints .u32 gR),(3,.cells [.slc (some (7,0)) bs.length bs.length 1,.int .i64 fl,.map (some 5),.map (some 6),.int .i64 nx,.bool false,.bool false,.int .i64 lf]),(4,.buf 5 false b),(5,.mapD none es),(6,.mapD none rt),(7,.buf 5 false bs),(8,.cells [P3])]
def l3r (m:Nat) (c:List (Nat × O)) (nx1:Int) (es1 rt1:List (D × D)):List (Nat × O):=[(0,.ints .u32 gS),(1,.ints .u32 gR),(3,.cells [.slc (some (7,0)) bs.length bs.length 1,.int .i64 (Int.ofNat bs.length),.map (some m),.map (some (m+1)),.int .i64 nx1,.bool false,.bool false,.int .i64 lf]),(4,.buf 5 false b),(5,.mapD none es),(6,.mapD none rt),(7,.buf 5 false bs)] ++ c ++ [(m,.mapD none es1),(m+1,.mapD none rt1)]
def l3e:List (Nat × O):=[(0,.ints .u32 gS),(1,.ints .u32 gR),(3,.cells [nilS,.int .i64 0,.map (some 5),.map (some 6),.int .i64 nx,.bool false,.bool false,.int .i64 lf]),(4,.buf 5 false b),(5,.mapD none es),(6,.mapD none []),(7,.cells [P3])]
def l3f (m:Nat) (c:List (Nat × O)):List (Nat × O):=[(0,.ints .u32 gS),(1,.ints .u32 gR),(3,.cells [nilS,.int .i64 0,.map (some m),.map (some (m+1)),.int .i64 0,.bool false,.bool false,.int .i64 lf]),(4,.buf 5 false b),(5,.mapD none es),(6,.mapD none [])] ++ c ++ [(m,.mapD none []),(m+1,.mapD none [])]
end
theorem ha_8 (len cap:Nat) (b:List UInt8) (fl nx lf:Int) (es rt:List (D × D)) (zs:List (List UInt8)) (bs:List UInt8):∃ L,RunIs Tryz.prog (pinS csT 23 [P3] (hL (lHe len cap b fl nx lf es rt bs)) 9 (.slc (some (9,0)) zs.length zs.length 1,hL (lHe len cap b fl nx lf es rt bs ++ [(9,.deep (strs zs))]),10)) [(53,.give (.int .i64 (Int.ofNat 0)))] 1000 7 Tryz.f19 [1,4,51,52,53] (seqL (seqL tl5)) (sHe len cap b fl nx lf es rt bs) L
  [([],
   [(([.ptr (some (3,0))]:List V)=[.ptr (some (3,0))]∧(hL (memL (pS len cap b fl nx lf es rt) ++ [(7,.cells [.ptr (some (3,0))]),(8,.buf 5 false bs)]))=(hL (memL (pS len cap b fl nx lf es rt) ++ [(7,.cells [.ptr (some (3,0))]),(8,.buf 5 false bs)]))∧9=9),(V.int IntKind.i64 (0:Int)=V.int IntKind.i64 (0:Int))],
   .to .normal (stG [(1,.ptr (some (7,0))),(4,.slc (some (8,0)) (bs.length) (bs.length) 1),(51,.slc (some (9,0)) (zs.length) (zs.length) 1),(52,.int .i64 ((Int.ofNat zs.length))),(53,.int .i64 0)] (hL (memL (pS len cap b fl nx lf es rt) ++ [(7,.cells [.ptr (some (3,0))]),(8,.buf 5 false bs),(9,.deep (strs zs))])) 10))]
 :=RunIs.of (by kernel_rfl) (by kernel_rfl) (by kernel_rfl)
theorem ha_8c (len cap:Nat) (b:List UInt8) (fl nx lf:Int) (es rt:List (D × D)) (x:List UInt8) (bs:List UInt8):∃ L,RunIs Tryz.prog (pinS csT 23 [P3] (hL (lHe len cap b fl nx lf es rt bs)) 9 (.slc (some (9,0)) 1 1 1,hL (lHe len cap b fl nx lf es rt bs ++ [(9,.cells [.str x])]),10)) [(53,.give (.int .i64 (Int.ofNat 0)))] 1000 7 Tryz.f19 [1,4,51,52,53] (seqL (seqL tl5)) (sHe len cap b fl nx lf es rt bs) L
  [([],
   [(([.ptr (some (3,0))]:List V)=[.ptr (some (3,0))]∧(hL (memL (pS len cap b fl nx lf es rt) ++ [(7,.cells [.ptr (some (3,0))]),(8,.buf 5 false bs)]))=(hL (memL (pS len cap b fl nx lf es rt) ++ [(7,.cells [.ptr (some (3,0))]),(8,.buf 5 false bs)]))∧9=9),(V.int IntKind.i64 (0:Int)=V.int IntKind.i64 (0:Int))],
   .to .normal (stG [(1,.ptr (some (7,0))),(4,.slc (some (8,0)) (bs.length) (bs.length) 1),(51,.slc (some (9,0)) 1 1 1),(52,.int .i64 1),(53,.int .i64 0)] (hL (memL (pS len cap b fl nx lf es rt) ++ [(7,.cells [.ptr (some (3,0))]),(8,.buf 5 false bs),(9,.cells [.str x])])) 10))]
 :=RunIs.of (by kernel_rfl) (by kernel_rfl) (by kernel_rfl)
theorem ha_9 (len cap:Nat) (b:List UInt8) (fl nx lf:Int) (es rt:List (D × D)) (zs:List (List UInt8)) (i:Nat) (x d:List UInt8) (bs:List UInt8):∃ L,RunIs Tryz.prog csT [(54,.split),(56,.give (.str x)),(64,.give (.str d)),(67,.give (.int .i64 (Int.ofNat (i+1))))] 1000 7 Tryz.f19 [1,4,51,52,53] (inner (inner (seqR (seqL tl5)))) (sHr len cap b fl nx lf es rt zs i bs) L
  [([((decide (Int.ofNat i < Int.ofNat zs.length)),true)],
   [((0:Int) ≤ Int.ofNat i∧Int.ofNat i < (Int.ofNat zs.length)),(0+i * 1 < (strs zs).length),(((strs zs).getD (0+i * 1) D.dflt).toV=V.str x),((if false=true then V.tup [D.valV (V.str ([]:List UInt8)) (lookD (D.str x) rt),V.bool (lookD (D.str x) rt).isSome] else D.valV (V.str ([]:List UInt8)) (lookD (D.str x) rt))=V.str d),(x.length < 100000000),(d.length < 100000000),(0 < bs.length),(bs.length=bs.length),(roomy (bs.length+(namB x d).length) 1 1=true),ieq (Int.ofNat i+(1:Int)) (i+1)],
   .to .normal (stG [(1,.ptr (some (7,0))),(4,.slc (some (8,0)) (bs.length+(namB x d).length) (bs.length+(namB x d).length) 1),(51,.slc (some (9,0)) (zs.length) (zs.length) 1),(52,.int .i64 (Int.ofNat zs.length)),(53,.int .i64 (Int.ofNat (i+1)))] (hL (memL (pS len cap b fl nx lf es rt) ++ [(7,.cells [.ptr (some (3,0))]),(8,.buf 5 false (bs ++ strI (bytesI (namB x d)))),(9,.deep (strs zs))])) 10)),
  ([((decide (Int.ofNat i < Int.ofNat zs.length)),false)],
   [],
   .to (.exit 2) (stG [(1,.ptr (some (7,0))),(4,.slc (some (8,0)) (bs.length) (bs.length) 1),(51,.slc (some (9,0)) (zs.length) (zs.length) 1),(52,.int .i64 (Int.ofNat zs.length)),(53,.int .i64 (Int.ofNat i))] (hL (memL (pS len cap b fl nx lf es rt) ++ [(7,.cells [.ptr (some (3,0))]),(8,.buf 5 false bs),(9,.deep (strs zs))])) 10))]
 :=RunIs.of (by kernel_rfl) (by kernel_rfl) (by kernel_rfl)
theorem ha_10 (len cap:Nat) (b:List UInt8) (fl nx lf:Int) (es rt:List (D × D)) (zs:List (List UInt8)) (i:Nat) (bs:List UInt8):∃ L,RunIs Tryz.prog csT [(54,.give (.bool false))] 1000 7 Tryz.f19 [1,4] (inner (inner (seqR (seqL tl5)))) (sHr len cap b fl nx lf es rt zs i bs) L
  [([],
   [(V.bool (decide (Int.ofNat i < Int.ofNat zs.length))=V.bool false)],
   .to (.exit 2) (stG [(1,.ptr (some (7,0))),(4,.slc (some (8,0)) (bs.length) (bs.length) 1)] (hL (memL (pS len cap b fl nx lf es rt) ++ [(7,.cells [.ptr (some (3,0))]),(8,.buf 5 false bs)])) 9))]
 :=RunIs.of (by kernel_rfl) (by kernel_rfl) (by kernel_rfl)
theorem ha_11 (len cap:Nat) (b:List UInt8) (fl nx lf:Int) (es rt:List (D × D)) (bs:List UInt8):∃ L,RunIs Tryz.prog csT [] 1000 7 Tryz.f19 [1] (headN 3 (seqR tl5)) (sHe len cap b fl nx lf es rt bs) L
  [([],
   [],
   .to .normal (stG [(1,.ptr (some (8,0)))] (hL (l3b b nx lf es rt bs (Int.ofNat bs.length))) 9))]
 :=RunIs.of (by kernel_rfl) (by kernel_rfl) (by kernel_rfl)
theorem ha_12 (len cap:Nat) (b:List UInt8) (fl nx lf:Int) (es:List (D × D)):∃ L,RunIs Tryz.prog (pinS csT 23 [P3] (hL (memL (pS len cap b fl nx lf es []) ++ [(7,.cells [P3])])) 8 (nilS,hL (memL (pS len cap b fl nx lf es []) ++ [(7,.cells [P3])]),8)) [] 1000 7 Tryz.f19 [1,4] (seqL tl5) (sHn len cap b fl nx lf es []) L
  [([],
   [(([.ptr (some (3,0))]:List V)=[.ptr (some (3,0))]∧(hL (memL (pS len cap b fl nx lf es []) ++ [(7,.cells [.ptr (some (3,0))])]))=(hL (memL (pS len cap b fl nx lf es []) ++ [(7,.cells [.ptr (some (3,0))])]))∧8=8)],
   .to .normal (stG [(1,.ptr (some (7,0))),(4,.slc none 0 0 0)] (hL (memL (pS len cap b fl nx lf es []) ++ [(7,.cells [.ptr (some (3,0))])])) 8))]
 :=RunIs.of (by kernel_rfl) (by kernel_rfl) (by kernel_rfl)
theorem ha_13 (len cap:Nat) (b:List UInt8) (fl nx lf:Int) (es:List (D × D)):∃ L,RunIs Tryz.prog csT [] 1000 7 Tryz.f19 [1] (headN 3 (seqR tl5)) (sHn len cap b fl nx lf es []) L
  [([],
   [],
   .to .normal (stG [(1,.ptr (some (7,0)))] (hL (l3e b nx lf es)) 8))]
 :=RunIs.of (by kernel_rfl) (by kernel_rfl) (by kernel_rfl)
theorem ha_14 (b:List UInt8) (nx lf:Int) (es rt:List (D × D)) (bs:List UInt8) (nx1:Int) (es1 rt1:List (D × D)):∃ L,RunIs Tryz.prog (pinS csT 57 [P3] (hL (l3b b nx lf es rt bs (Int.ofNat bs.length))) 9 (.tup [],hL (l3r b lf es rt bs 9 [(8,.cells [P3])] nx1 es1 rt1),11)) [] 1000 7 Tryz.f19 [] (tailN 3 (seqR tl5)) (stG [(1,.ptr (some (8,0)))] (hL (l3b b nx lf es rt bs (Int.ofNat bs.length))) 9) L
  [([],
   [(([.ptr (some (3,0))]:List V)=[.ptr (some (3,0))]∧(hL [(0,.ints .u32 gS),(1,.ints .u32 gR),(3,.cells [.slc (some (7,0)) (bs.length) (bs.length) 1,.int .i64 (Int.ofNat bs.length),.map (some 5),.map (some 6),.int .i64 nx,.bool false,.bool false,.int .i64 lf]),(4,.buf 5 false b),(5,.mapD none es),(6,.mapD none rt),(7,.buf 5 false bs),(8,.cells [.ptr (some (3,0))])])=(hL [(0,.ints .u32 gS),(1,.ints .u32 gR),(3,.cells [.slc (some (7,0)) (bs.length) (bs.length) 1,.int .i64 (Int.ofNat bs.length),.map (some 5),.map (some 6),.int .i64 nx,.bool false,.bool false,.int .i64 lf]),(4,.buf 5 false b),(5,.mapD none es),(6,.mapD none rt),(7,.buf 5 false bs),(8,.cells [.ptr (some (3,0))])])∧9=9)],
   .ret (.int .i64 0) (hL (l3r b lf es rt bs 8 [] nx1 es1 rt1)) 10)]
 :=RunIs.of (by kernel_rfl) (by kernel_rfl) (by kernel_rfl)
theorem ha_15 (b:List UInt8) (nx lf:Int) (es:List (D × D)):∃ L,RunIs Tryz.prog (pinS csT 57 [P3] (hL (l3e b nx lf es)) 8 (.tup [],hL (l3f b lf es 8 [(7,.cells [P3])]),10)) [] 1000 7 Tryz.f19 [] (tailN 3 (seqR tl5)) (stG [(1,.ptr (some (7,0)))] (hL (l3e b nx lf es)) 8) L
  [([],
   [(([.ptr (some (3,0))]:List V)=[.ptr (some (3,0))]∧(hL [(0,.ints .u32 gS),(1,.ints .u32 gR),(3,.cells [.slc none 0 0 0,.int .i64 0,.map (some 5),.map (some 6),.int .i64 nx,.bool false,.bool false,.int .i64 lf]),(4,.buf 5 false b),(5,.mapD none es),(6,.mapD none []),(7,.cells [.ptr (some (3,0))])])=(hL [(0,.ints .u32 gS),(1,.ints .u32 gR),(3,.cells [.slc none 0 0 0,.int .i64 0,.map (some 5),.map (some 6),.int .i64 nx,.bool false,.bool false,.int .i64 lf]),(4,.buf 5 false b),(5,.mapD none es),(6,.mapD none []),(7,.cells [.ptr (some (3,0))])])∧8=8)],
   .ret (.int .i64 0) (hL (l3f b lf es 7 [])) 9)]
 :=RunIs.of (by kernel_rfl) (by kernel_rfl) (by kernel_rfl)
end Go.Proofs.YtfihojpgobmmdaaGreatDoor
namespace Go.Proofs.YtfihojpgobmmdaaGreatDoor
open Go Go.Eng
def pickL (ns:List (Option Nat)) (l:List (Nat × O)):List (Nat × O)→List (Option O):=List.map fun q=>match ns.getD q.1 none with
 | some m=>match (hL l).get m with
   | some o=>o.rn (mu ns)
   | none=>none
 | none=>none
theorem pick_hL {ns:List (Option Nat)} {l l1:List (Nat × O)} (ht:(l1.all fun q=>Nat.blt q.1 top)=true) (hg:(gtab.all fun p=>decide (ns.getD p.2 none=some p.2))=true) (hn:nodupN ns=true)
  (hv:(ns.all fun x=>match x with | none=>true | some m=>(gtab.any fun p=>decide (p.2=m)) || ((hL l).get m).isSome)=true) (he:pickL ns l l1=l1.map fun q=>some q.2):PickOk ns (hL l) (hL l1):=by
 refine pick_list (fun p hp=>Nat.le_of_ble_eq_true (List.all_eq_true.1 ht p hp)) (fun p hp=>of_decide_eq_true (List.all_eq_true.1 hg p hp)) hn (fun j m hj=>?_) fun p hp=>?_
 · have hm:some m ∈ ns:=by
    rw [List.getD_eq_getElem?_getD] at hj
    cases hx:ns[j]? with
    | none=>rw [hx] at hj; cases hj
    | some x=>rw [hx] at hj; simp only [Option.getD_some] at hj; subst hj; exact List.mem_of_getElem? hx
   have:=List.all_eq_true.1 hv _ hm
   simp only [Bool.or_eq_true,List.any_eq_true] at this
   rcases this with ⟨p,hp,hpm⟩ | h
   · exact .inl ⟨p,hp,of_decide_eq_true hpm⟩
   · exact .inr (Option.isSome_iff_ne_none.1 h)
 · have:(match ns.getD p.1 none with
    | some m=>match (hL l).get m with
      | some o=>o.rn (mu ns)
      | none=>none
    | none=>none)=some p.2:=List.map_inj_left.1 he p hp
   split at this
   · rename_i m hm
     split at this
     · rename_i o ho
       exact ⟨m,o,hm,ho,this⟩
     · cases this
   · cases this
section
variable (len cap:Nat) (b:List UInt8) (fl nx lf:Int) (es rt:List (D × D))
def ns51:List (Option Nat):=[some 0,some 1,some 2,some 3,some 4,some 5,some 6,some 19]
def ns54:List (Option Nat):=[some 0,some 1,some 2,some 3,some 4,some 5,some 6,some 7,some 20,some 21]
theorem c51 (k:Nat) (hrt:RtS rt) (he:∀ d ∈ valsOf rt,Ends es k d):CallIs Tryz.prog 51 [P3,v78] (hL (lH1 len cap b fl nx lf es rt)) 20 (.map (some 20)) (hL (lH2 len cap b fl nx lf es rt (canK es rt k))) 21:=by
 have hc:=call51x len cap b fl nx lf es rt k hrt he
 generalize canK es rt k=ks at hc ⊢
 refine own_callIs (ns:=ns51) (pick_hL (by kernel_rfl) (by kernel_rfl) (by kernel_rfl) (by kernel_rfl) (by kernel_rfl)) (by kernel_rfl) (by kernel_rfl) hc
theorem c54 (ks zs:List (List UInt8)) (hl:ks.length < 1000000) (hent:Ent es) (hn:∀ x,0 ≤ numD es x∧numD es x < 1000000000) (hz:List.Perm zs ks) (hs:zs.Pairwise fun a b=>numD es a < numD es b):
  CallIs Tryz.prog 54 [v81,v56] (hL (lH3 len cap b fl nx lf es rt ks [])) 22 (slK 22 zs) (hL (lH3 len cap b fl nx lf es rt ks (rowD 22 zs))) (nK 22 zs):=by
 have hc:=call54g len cap b fl nx lf es rt ks zs hl hent hn hz hs
 cases zs with
 | nil=>exact own_callIs (ns:=ns54) (pick_hL (by kernel_rfl) (by kernel_rfl) (by kernel_rfl) (by kernel_rfl) (by kernel_rfl)) (by kernel_rfl) (by kernel_rfl) hc
 | cons z zs=>exact own_callIs (ns:=ns54) (pick_hL (by kernel_rfl) (by kernel_rfl) (by kernel_rfl) (by kernel_rfl) (by kernel_rfl)) (by kernel_rfl) (by kernel_rfl) hc
theorem c23 (bs:List UInt8) (hk:KeyS rt) (hl:rt.length < 1000000):CallIs Tryz.prog 23 [P3] (hL (lHe len cap b fl nx lf es rt bs)) 9 (slK 9 (sortS (keysOf rt))) (hL (lHe len cap b fl nx lf es rt bs ++ rowK3 9 (sortS (keysOf rt)))) (nK 9 (sortS (keysOf rt))):=by
 have hc:=call23g len cap b fl nx lf es rt hk hl
 generalize sortS (keysOf rt)=zs at hc ⊢
 match zs,hc with
 | [],hc=>exact own_callIs (ns:=ns7) (pick_hL (by kernel_rfl) (by kernel_rfl) (by kernel_rfl) (by kernel_rfl) (by kernel_rfl)) (by kernel_rfl) (by kernel_rfl) hc
 | [x],hc=>exact own_callIs (ns:=ns7) (pick_hL (by kernel_rfl) (by kernel_rfl) (by kernel_rfl) (by kernel_rfl) (by kernel_rfl)) (by kernel_rfl) (by kernel_rfl) hc
 | x :: y :: zs,hc=>exact own_callIs (ns:=ns7) (pick_hL (by kernel_rfl) (by kernel_rfl) (by kernel_rfl) (by kernel_rfl) (by kernel_rfl)) (by kernel_rfl) (by kernel_rfl) hc
theorem c23e:CallIs Tryz.prog 23 [P3] (hL (memL (pS len cap b fl nx lf es []) ++ [(7,.cells [P3])])) 8 nilS (hL (memL (pS len cap b fl nx lf es []) ++ [(7,.cells [P3])])) 8:=by
 have hc:=call23g len cap b fl nx lf es [] (fun _ h=>by cases h) (by decide)
 rw [show sortS (keysOf [])=[] from sortS_nil] at hc
 exact own_callIs (ns:=ns7) (pick_hL (by kernel_rfl) (by kernel_rfl) (by kernel_rfl) (by kernel_rfl) (by kernel_rfl)) (by kernel_rfl) (by kernel_rfl) hc
end
section
variable (b:List UInt8) (nx lf:Int) (es rt:List (D × D))
theorem c57 (l:List Rcd) (hok:∀ r ∈ l,r.ok) (hsz:(bytesA l).length < 1000000000):
  CallIs Tryz.prog 57 [P3] (hL (l3b b nx lf es rt (bytesA l) (Int.ofNat (bytesA l).length))) 9 (.tup []) (hL (l3r b lf es rt (bytesA l) 9 [(8,.cells [P3])] (apA l).nx (apA l).es (apA l).rt)) 11:=by
 have hc:=call57g (bytesA l).length (bytesA l).length (bytesA l) (Int.ofNat (bytesA l).length) nx lf es rt l [] (Nat.le_refl _) hok (by rw [List.take_length,List.append_nil]) (by rw [List.take_length]; exact .inl rfl) (Nat.le_refl _) hsz
 generalize bytesA l=bs at hc ⊢
 generalize apA l=q at hc ⊢
 obtain ⟨nx1,es1,rt1⟩:=q
 exact own_callIs (ns:=ns57) (pick_hL (by kernel_rfl) (by kernel_rfl) (by kernel_rfl) (by kernel_rfl) (by kernel_rfl)) (by kernel_rfl) (by kernel_rfl) hc
def ns57n:List (Option Nat):=[some 0,some 1,some 2,some 3,none,some 5,some 6]
theorem c57n:CallIs Tryz.prog 57 [P3] (hL (l3e b nx lf es)) 8 (.tup []) (hL (l3f b lf es 8 [(7,.cells [P3])])) 10:=by
 have hc:=call57n 0 nx lf es []
 exact own_callIs (ns:=ns57n) (pick_hL (by kernel_rfl) (by kernel_rfl) (by kernel_rfl) (by kernel_rfl) (by kernel_rfl)) (by kernel_rfl) (by kernel_rfl) hc
end
end Go.Proofs.YtfihojpgobmmdaaGreatDoor
namespace Go.Proofs.YtfihojpgobmmdaaGreatDoor
open Go Go.Eng
def rcC (es:List (D × D)) (x:List UInt8):Rcd:=match lookD (.str x) es with
 | some (.agg [.str d,.lst _ cs,_])=>.chunk d (strL cs)
 | _=>.chunk [] []
def rcV (rt:List (D × D)) (n:List UInt8):List UInt8:=match lookD (.str n) rt with
 | some (.str d)=>d
 | _=>[]
def rcR (rt:List (D × D)) (n:List UInt8):Rcd:=.root n (rcV rt n)
def recsC (es rt:List (D × D)) (zs:List (List UInt8)):List Rcd:=zs.map (rcC es) ++ (sortS (keysOf rt)).map (rcR rt)
theorem rcC_has {es:List (D × D)} {x d:List UInt8} {rs:List (List UInt8)} {k:Int} (h:lookD (.str x) es=some (entD d rs k)):rcC es x= .chunk d rs:=by
 unfold rcC; rw [h]
 show Rcd.chunk d (strL (strs rs))=_
 rw [strL_strs]
theorem strs_getD {zs:List (List UInt8)} {i:Nat} (h:i < zs.length):0+i * 1 < (strs zs).length∧((strs zs).getD (0+i * 1) D.dflt).toV=V.str zs[i]:=by
 refine ⟨by rw [strs_len]; omega,?_⟩
 unfold strs
 rw [Nat.zero_add,Nat.mul_one,List.getD_eq_getElem?_getD,List.getElem?_map,List.getElem?_eq_getElem h]
 rfl
theorem bytesA_snoc (l:List Rcd) (r:Rcd):bytesA (l ++ [r])=bytesA l ++ r.bytes:=by
 unfold bytesA
 rw [List.map_append,List.flatten_append,List.map_singleton,List.flatten_singleton]
theorem bytesA_app (l m:List Rcd):bytesA (l ++ m)=bytesA l ++ bytesA m:=by
 unfold bytesA; rw [List.map_append,List.flatten_append]
theorem bytesA_le {l:List Rcd} (i:Nat):(bytesA (l.take i)).length ≤ (bytesA l).length:=by
 conv=>rhs; rw [bytesA_split l i]
 rw [List.length_append]; omega
section
variable (len cap:Nat) (b:List UInt8) (fl nx lf:Int) (es rt:List (D × D))
set_option maxRecDepth 20000 in
theorem loop19a (zs:List (List UInt8)) (hz:zs ≠ []) (hzl:zs.length < 1000000) (hh:∀ x ∈ zs,Has es x∧(rcC es x).ok) (hsz:(bytesA (zs.map (rcC es))).length < 1000000000) {Q:Exit→St→Prop}
  (h:TG Tryz.prog 7 Tryz.f19.ntmps (seqR tl4) (sHe len cap b fl nx lf es rt (bytesA (zs.map (rcC es)))) Q):TG Tryz.prog 7 Tryz.f19.ntmps tl4 (stG [(1,P 7),(3,.slc (some (8,0)) zs.length zs.length 1),(4,nilS)] (hL (memL (pS len cap b fl nx lf es rt) ++ [(7,.cells [P3]),(8,.deep (strs zs))])) 9) Q:=by
 refine TG_seq' (by kernel_rfl) ?_
 refine TG_seq' (by kernel_rfl) ?_
 obtain ⟨L,hr⟩:=ha_3 len cap b fl nx lf es rt zs
 refine TG_is (XQ []) mo anyR (by kernel_rfl) hr fun g hg _=>?_
 rw [List.mem_singleton] at hg; subst hg
 refine ⟨fm1 rfl,fun s' hs'=>?_⟩
 have hb:∀ i,(hi:i < zs.length)→bytesA ((zs.take (i+1)).map (rcC es))=bytesA ((zs.take i).map (rcC es)) ++ (rcC es zs[i]).bytes:=fun i hi=>by
  rw [List.take_add_one,List.getElem?_eq_getElem hi,Option.toList_some,List.map_append,List.map_singleton,bytesA_snoc]
 have hle:∀ i,(bytesA ((zs.take i).map (rcC es))).length < 1000000000:=fun i=>by
  have:=bytesA_le (l:=zs.map (rcC es)) i
  rw [List.map_take]; omega
 refine TG_forN 0 zs.length (fun i=>if i=0 then sHk0 len cap b fl nx lf es rt zs else sHk len cap b fl nx lf es rt zs i (bytesA ((zs.take i).map (rcC es)))) (by kernel_rfl) (by kernel_rfl) (.norm hs') (fun i hi=>?_) ?_
 · obtain ⟨⟨d,rs,k,he⟩,hok⟩:=hh zs[i] (List.getElem_mem hi)
   have hrc:=rcC_has he
   have hg:=strs_getD hi
   have hb1:=hb i hi
   have hl1:=hle (i+1)
   rw [hrc] at hok hb1
   have hd1:d.length ≤ 66000∧rs.length ≤ 2000∧rs.flatten.length ≤ 66000:=by
    obtain ⟨h1,h2,h3⟩:=hok
    have:=flat_len h3
    omega
   have hbl:0 < (recB d rs).length:=bytes_len (r:=.chunk d rs)
   rw [if_neg (Nat.succ_ne_zero i)]
   by_cases h0:i=0
   · subst h0
     rw [if_pos rfl]
     obtain ⟨L,hr⟩:=ha_4 len cap b fl nx lf es rt zs zs[0] d rs k
     refine TG_is XT mo anyR (by kernel_rfl) hr fun g hg' hc=>?_
     simp only [strL_strs] at hg'
     rcases mem2 hg' with rfl | rfl
     · refine ⟨fm (⟨by decide,by rw [hOn]; omega⟩) (fm (by have:=hg.1; omega) (fm (by have:=hg.2; rwa [Nat.zero_mul,Nat.zero_add] at this) (fm (look_ent es he) (fm (look_ent es he) (fm (trivial) (fm (trivial) (fm (by omega) (fm (by omega) (fm (by omega) (fm (hbl) (fm1 (roomy_ok (by rw [hb1,List.length_append] at hl1; have:(Rcd.chunk d rs).bytes.length=(recB d rs).length:=rfl; omega))))))))))))),fun s' hs'=>?_⟩
       rw [hb1]
       exact .norm hs'
     · exact absurd (of_decide_eq_false (hc _ (List.mem_singleton.2 rfl))) (by rw [hOn]; omega)
   · rw [if_neg h0]
     have hbi:0 < (bytesA ((zs.take i).map (rcC es))).length:=by
      obtain ⟨j,rfl⟩:∃ j,i=j+1:=⟨i - 1,by omega⟩
      rw [hb j (by omega),List.length_append]
      have:=bytes_len (r:=rcC es zs[j]); omega
     rw [hb1,List.length_append] at hl1
     rw [hb1]
     generalize bytesA ((zs.take i).map (rcC es))=bs at hl1 hbi ⊢
     obtain ⟨L,hr⟩:=ha_5 len cap b fl nx lf es rt zs i zs[i] d rs k bs
     refine TG_is XT mo anyR (by kernel_rfl) hr fun g hg' hc=>?_
     simp only [strL_strs,strI_bytesI] at hg'
     rcases mem2 hg' with rfl | rfl
     · refine ⟨fm (⟨Int.natCast_nonneg _,by rw [hOn,hOn]; omega⟩) (fm (hg.1) (fm (hg.2) (fm (look_ent es he) (fm (look_ent es he) (fm (trivial) (fm (trivial) (fm (by omega) (fm (by omega) (fm (by omega) (fm (hbi) (fm (trivial) (fm (roomy_ok (by have:(Rcd.chunk d rs).bytes.length=(recB d rs).length:=rfl; omega)) (fm1 (ieq_ok (by rw [hOn]; omega) (by omega))))))))))))))),fun s' hs'=>?_⟩
       unfold sHk
       rw [List.length_append]
       exact .norm hs'
     · exact absurd (of_decide_eq_false (hc _ (List.mem_singleton.2 rfl))) (by rw [hOn,hOn]; omega)
 · have hz0:zs.length ≠ 0:=fun e=>hz (List.length_eq_zero_iff.1 e)
   simp only [if_neg hz0,List.take_length]
   obtain ⟨L,hr⟩:=ha_6 len cap b fl nx lf es rt zs zs.length (bytesA (zs.map (rcC es)))
   refine TG_is XT mo anyR (by kernel_rfl) hr fun g hg' hc=>?_
   rw [List.mem_singleton] at hg'; subst hg'
   refine ⟨fm1 (congrArg V.bool (decide_eq_false (by omega))),fun s' hs'=>⟨by simp,?_⟩⟩
   exact TG_norm hs' h
set_option maxRecDepth 20000 in
theorem loop19b (ws:List (List UInt8)) (bs:List UInt8) (hzl:ws.length < 1000000) (hh:∀ x ∈ ws,(∃ d,lookD (.str x) rt=some (.str d))∧(rcR rt x).ok) (hb0:0 < bs.length) (hsz:bs.length+(bytesA (ws.map (rcR rt))).length < 1000000000) {s:St} {Q:Exit→St→Prop}
  (hs:Goes Tryz.prog 7 Tryz.f19.ntmps s (sHr len cap b fl nx lf es rt ws 0 bs)) (h:TG Tryz.prog 7 Tryz.f19.ntmps (seqR tl5) (sHe len cap b fl nx lf es rt (bs ++ bytesA (ws.map (rcR rt)))) Q):TG Tryz.prog 7 Tryz.f19.ntmps (seqR (seqL tl5)) s (andThen (fun s'=>TG Tryz.prog 7 Tryz.f19.ntmps (seqR tl5) s' Q) Q):=by
 have hb:∀ i,(hi:i < ws.length)→bytesA ((ws.take (i+1)).map (rcR rt))=bytesA ((ws.take i).map (rcR rt)) ++ (rcR rt ws[i]).bytes:=fun i hi=>by
  rw [List.take_add_one,List.getElem?_eq_getElem hi,Option.toList_some,List.map_append,List.map_singleton,bytesA_snoc]
 have hle:∀ i,(bytesA ((ws.take i).map (rcR rt))).length ≤ (bytesA (ws.map (rcR rt))).length:=fun i=>by
  have:=bytesA_le (l:=ws.map (rcR rt)) i
  rw [List.map_take]; omega
 refine TG_forN 2 ws.length (fun i=>sHr len cap b fl nx lf es rt ws i (bs ++ bytesA ((ws.take i).map (rcR rt)))) (by kernel_rfl) (by kernel_rfl) (by
  show Goes Tryz.prog 7 Tryz.f19.ntmps s (sHr len cap b fl nx lf es rt ws 0 (bs ++ []))
  rw [List.append_nil]; exact hs) (fun i hi=>?_) ?_
 · obtain ⟨⟨d,hd⟩,hok⟩:=hh ws[i] (List.getElem_mem hi)
   have hg:=strs_getD hi
   have hb1:=hb i hi
   have hl1:=hle (i+1)
   have hrc:rcR rt ws[i]= .root ws[i] d:=by unfold rcR rcV; rw [hd]
   rw [hrc] at hok hb1
   have hd1:ws[i].length ≤ 1000∧d.length ≤ 1000:=hok
   rw [hb1,List.length_append] at hl1
   show TG _ _ _ _ _ (andThen (fun s'=>Goes Tryz.prog 7 Tryz.f19.ntmps s' (sHr len cap b fl nx lf es rt ws (i+1) (bs ++ bytesA ((ws.take (i+1)).map (rcR rt))))) _)
   rw [hb1,← List.append_assoc]
   have hbi:0 < (bs ++ bytesA ((ws.take i).map (rcR rt))).length:=by rw [List.length_append]; omega
   have hbj:(bs ++ bytesA ((ws.take i).map (rcR rt))).length+(Rcd.root ws[i] d).bytes.length < 1000000000:=by rw [List.length_append]; omega
   generalize bs ++ bytesA ((ws.take i).map (rcR rt))=ys at hbi hbj ⊢
   obtain ⟨L,hr⟩:=ha_9 len cap b fl nx lf es rt ws i ws[i] d ys
   refine TG_is XT mo anyR (by kernel_rfl) hr fun g hg' hc=>?_
   simp only [strI_bytesI] at hg'
   rcases mem2 hg' with rfl | rfl
   · refine ⟨fm (⟨Int.natCast_nonneg _,by rw [hOn,hOn]; omega⟩) (fm (hg.1) (fm (hg.2) (fm (by rw [hd]; rfl) (fm (by omega) (fm (by omega) (fm (hbi) (fm (trivial) (fm (roomy_ok (by have:(Rcd.root ws[i] d).bytes.length=(namB ws[i] d).length:=rfl; omega)) (fm1 (ieq_ok (by rw [hOn]; omega) (by omega))))))))))),fun s' hs'=>?_⟩
     unfold sHr
     rw [List.length_append]
     exact .norm hs'
   · exact absurd (of_decide_eq_false (hc _ (List.mem_singleton.2 rfl))) (by rw [hOn,hOn]; omega)
 · simp only [List.take_length]
   obtain ⟨L,hr⟩:=ha_10 len cap b fl nx lf es rt ws ws.length (bs ++ bytesA (ws.map (rcR rt)))
   refine TG_is XT mo anyR (by kernel_rfl) hr fun g hg' hc=>?_
   rw [List.mem_singleton] at hg'; subst hg'
   refine ⟨fm1 (congrArg V.bool (decide_eq_false (by omega))),fun s' hs'=>⟨by simp,?_⟩⟩
   exact TG_norm hs' h
set_option maxRecDepth 20000 in
theorem call19g (k:Nat) (zs:List (List UInt8)) (hrt:RtS rt) (he:∀ d ∈ valsOf rt,Ends es k d) (hl:(canK es rt k).length < 1000000) (hent:Ent es) (hn:∀ x,0 ≤ numD es x∧numD es x < 1000000000) (hz:List.Perm zs (canK es rt k)) (hs:zs.Pairwise fun a b=>numD es a < numD es b)
  (hzo:∀ x ∈ zs,Has es x∧(rcC es x).ok) (hro:∀ n ∈ sortS (keysOf rt),(∃ d,lookD (.str n) rt=some (.str d))∧(rcR rt n).ok) (hrl:rt.length < 1000000) (hsz:(bytesA (recsC es rt zs)).length < 1000000000) (h0:zs ≠ []) (h1:rt ≠ []):
  CallIs Tryz.prog 19 [P3] (memS (pS len cap b fl nx lf es rt)) 7 (.int .i64 0) (hL (l3r b lf es rt (bytesA (recsC es rt zs)) 8 [] (apA (recsC es rt zs)).nx (apA (recsC es rt zs)).es (apA (recsC es rt zs)).rt)) 10:=by
 refine callIs_of_TG Tryz.func19 (code:=cdCo) (by kernel_rfl) (by kernel_rfl) ?_
 have hzl:zs.length < 1000000:=by rw [hz.length_eq]; exact hl
 have hc51:=c51 len cap b fl nx lf es rt k hrt he
 have hc54:=c54 len cap b fl nx lf es rt (canK es rt k) zs hl hent hn hz hs
 have hzs:slK 22 zs= .slc (some (22,0)) zs.length zs.length 1∧rowD 22 zs=[(22,.deep (strs zs))]∧nK 22 zs=23:=by
  cases zs with
  | nil=>exact absurd rfl h0
  | cons z zs=>exact ⟨rfl,rfl,rfl⟩
 rw [hzs.1,hzs.2.1,hzs.2.2] at hc54
 generalize canK es rt k=ks at hc51 hc54
 obtain ⟨L1,hr1⟩:=ha_1 len cap b fl nx lf es rt ks zs.length (strs zs)
 refine TG_isN1 4 (((XQ []).pin (Nat.le_of_ble_eq_true (by kernel_rfl)) hc51).pin (Nat.le_of_ble_eq_true (by kernel_rfl)) hc54) mo (by kernel_rfl) hr1 (fm ⟨rfl,rfl,rfl⟩ (fm1 ⟨rfl,rfl,rfl⟩)) ?_
 have e2:bytesA (recsC es rt zs)=bytesA (zs.map (rcC es)) ++ bytesA ((sortS (keysOf rt)).map (rcR rt)):=bytesA_app _ _
 have hsz2:=hsz
 rw [e2,List.length_append] at hsz2
 refine loop19a len cap b fl nx lf es rt zs h0 hzl hzo (by omega) ?_
 show TG Tryz.prog 7 Tryz.f19.ntmps tl5 _ _
 refine TG_seq' (by kernel_rfl) ?_
 refine TG_seq' (by kernel_rfl) ?_
 have hb0:0 < (bytesA (zs.map (rcC es))).length:=by
  cases zs with
  | nil=>exact absurd rfl h0
  | cons z zs=>
    rw [List.map_cons,show bytesA (rcC es z :: zs.map (rcC es))=(rcC es z).bytes ++ bytesA (zs.map (rcC es)) from rfl,List.length_append]
    have:=bytes_len (r:=rcC es z); omega
 have hkey:KeyS rt:=fun e h=>by obtain ⟨n,d,rfl⟩:=hrt e h; exact ⟨n,rfl⟩
 have hc23:=c23 len cap b fl nx lf es rt (bytesA (zs.map (rcC es))) hkey hrl
 have hwl:(sortS (keysOf rt)).length=rt.length:=by rw [sortS_len,keysOf_len]
 have hfin:TG Tryz.prog 7 Tryz.f19.ntmps (seqR tl5) (sHe len cap b fl nx lf es rt (bytesA (zs.map (rcC es)) ++ bytesA ((sortS (keysOf rt)).map (rcR rt)))) (RetG Tryz.prog 7 Tryz.f19 fun v h n=>v= .int .i64 0∧h=hL (l3r b lf es rt (bytesA (recsC es rt zs)) 8 [] (apA (recsC es rt zs)).nx (apA (recsC es rt zs)).es (apA (recsC es rt zs)).rt)∧n=10):=by
  rw [← e2]
  obtain ⟨L3,hr3⟩:=ha_11 len cap b fl nx lf es rt (bytesA (recsC es rt zs))
  refine TG_isN1 3 XT mo (by kernel_rfl) hr3 all_nil ?_
  obtain ⟨L4,hr4⟩:=ha_14 b nx lf es rt (bytesA (recsC es rt zs)) (apA (recsC es rt zs)).nx (apA (recsC es rt zs)).es (apA (recsC es rt zs)).rt
  refine TG_ret (XT.pin (Nat.le_of_ble_eq_true (by kernel_rfl)) (c57 b nx lf es rt (recsC es rt zs) (fun r hr=>?_) hsz)) mo _ (by kernel_rfl) hr4 fun g hg _=>?_
  · rcases List.mem_append.1 hr with h | h
    · obtain ⟨x,hx,rfl⟩:=List.mem_map.1 h
      exact (hzo x hx).2
    · obtain ⟨x,hx,rfl⟩:=List.mem_map.1 h
      exact (hro x hx).2
  · rw [List.mem_singleton] at hg; subst hg
    exact ⟨fm1 ⟨rfl,rfl,rfl⟩,_,_,_,rfl,rfl,rfl,rfl⟩
 generalize sortS (keysOf rt)=ws at *
 match ws,hwl with
 | [],hwl=>exact absurd (List.length_eq_zero_iff.1 hwl.symm) h1
 | [x],hwl=>
   obtain ⟨L2,hr2⟩:=ha_8c len cap b fl nx lf es rt x (bytesA (zs.map (rcC es)))
   refine TG_is (XT.pin (Nat.le_of_ble_eq_true (by kernel_rfl)) hc23) mo anyR (by kernel_rfl) hr2 fun g hg _=>?_
   rw [List.mem_singleton] at hg; subst hg
   refine ⟨fm ⟨rfl,rfl,rfl⟩ (fm1 rfl),fun s' hs'=>?_⟩
   exact loop19b len cap b fl nx lf es rt [x] _ (by rw [hwl]; exact hrl) hro hb0 (by omega) ((Goes.norm hs').trans (.deep [9] (by kernel_rfl))) hfin
 | x :: y :: ws,hwl=>
   obtain ⟨L2,hr2⟩:=ha_8 len cap b fl nx lf es rt (x :: y :: ws) (bytesA (zs.map (rcC es)))
   refine TG_is (XT.pin (Nat.le_of_ble_eq_true (by kernel_rfl)) hc23) mo anyR (by kernel_rfl) hr2 fun g hg _=>?_
   rw [List.mem_singleton] at hg; subst hg
   refine ⟨fm ⟨rfl,rfl,rfl⟩ (fm1 rfl),fun s' hs'=>?_⟩
   exact loop19b len cap b fl nx lf es rt (x :: y :: ws) _ (by rw [hwl]; exact hrl) hro hb0 (by omega) (.norm hs') hfin
set_option maxRecDepth 20000 in
theorem call19e (hent:Ent es) (hn:∀ x,0 ≤ numD es x∧numD es x < 1000000000):CallIs Tryz.prog 19 [P3] (memS (pS len cap b fl nx lf es [])) 7 (.int .i64 0) (hL (l3f b lf es 7 [])) 9:=by
 refine callIs_of_TG Tryz.func19 (code:=cdCo) (by kernel_rfl) (by kernel_rfl) ?_
 have hc51:=c51 len cap b fl nx lf es [] 0 (fun _ h=>by cases h) (fun _ h=>by cases h)
 have hc54:=c54 len cap b fl nx lf es [] (canK es [] 0) [] (Nat.le_of_ble_eq_true rfl) hent hn .nil .nil
 rw [show canK es [] 0=[] from rfl] at hc51 hc54
 obtain ⟨L1,hr1⟩:=ha_2 len cap b fl nx lf es [] []
 refine TG_isN1 4 (((XQ []).pin (Nat.le_of_ble_eq_true (by kernel_rfl)) hc51).pin (Nat.le_of_ble_eq_true (by kernel_rfl)) hc54) mo (by kernel_rfl) hr1 (fm ⟨rfl,rfl,rfl⟩ (fm1 ⟨rfl,rfl,rfl⟩)) ?_
 show TG Tryz.prog 7 Tryz.f19.ntmps tl4 _ _
 refine TG_seq' (by kernel_rfl) ?_
 obtain ⟨L5,hr5⟩:=ha_7 len cap b fl nx lf es []
 refine TG_is (XQ []) mo anyR (by kernel_rfl) hr5 fun g hg _=>?_
 rw [List.mem_singleton] at hg; subst hg
 refine ⟨all_nil,fun s' hs'=>TG_norm hs' ?_⟩
 show TG Tryz.prog 7 Tryz.f19.ntmps tl5 _ _
 refine TG_seq' (by kernel_rfl) ?_
 obtain ⟨L6,hr6⟩:=ha_12 len cap b fl nx lf es
 refine TG_is (XT.pin (Nat.le_of_ble_eq_true (by kernel_rfl)) (c23e len cap b fl nx lf es)) mo anyR (by kernel_rfl) hr6 fun g hg _=>?_
 rw [List.mem_singleton] at hg; subst hg
 refine ⟨fm1 ⟨rfl,rfl,rfl⟩,fun s' hs'=>TG_norm hs' ?_⟩
 obtain ⟨L3,hr3⟩:=ha_13 len cap b fl nx lf es
 refine TG_isN1 3 XT mo (by kernel_rfl) hr3 all_nil ?_
 obtain ⟨L4,hr4⟩:=ha_15 b nx lf es
 refine TG_ret (XT.pin (Nat.le_of_ble_eq_true (by kernel_rfl)) (c57n b nx lf es)) mo _ (by kernel_rfl) hr4 fun g hg _=>?_
 rw [List.mem_singleton] at hg; subst hg
 exact ⟨fm1 ⟨rfl,rfl,rfl⟩,_,_,_,rfl,rfl,rfl,rfl⟩
end
end Go.Proofs.YtfihojpgobmmdaaGreatDoor
namespace Go.Proofs.YtfihojpgobmmdaaGreatDoor
open Go Go.Eng
def iW (i:Nat):V:=.int .i64 (Int.ofNat i)
end Go.Proofs.YtfihojpgobmmdaaGreatDoor
namespace Go.Proofs.YtfihojpgobmmdaaGreatDoor
open Go Go.Eng
structure InvS (B len cap:Nat) (lg:List UInt8) (es:List (D × D)):Prop where
 hln:len=lg.length
 hcp:0 < cap
 hle:len ≤ B
 hen:Ent es
section
variable (f:Bool) (l:List (List UInt8)) (i:Nat) (d:List UInt8) (hd:d.length ≤ 200)
theorem lt15:15 < Tryz.prog.funcs.size:=Nat.le_of_ble_eq_true (by kernel_rfl)
variable {len cap:Nat} {lg:List UInt8} {nx:Int} {es:List (D × D)}
end
section
variable (f:Bool) (l:List (List UInt8))
end
end Go.Proofs.YtfihojpgobmmdaaGreatDoor
namespace Go.Proofs.YtfihojpgobmmdaaGreatDoor
open Go Go.Eng
def NumB (es:List (D × D)) (nx:Int):Prop:=0 ≤ nx∧∀ x,0 ≤ numD es x∧numD es x ≤ nx
theorem numB_nil:NumB [] 0:=⟨Int.le_refl _,fun _=>⟨Int.le_refl _,Int.le_refl _⟩⟩
theorem numD_upd (es:List (D × D)) (x y d:List UInt8) (rs:List (List UInt8)) (k:Int):numD (updD (.str y) (entD d rs k) es) x=if x=y then k else numD es x:=by
 by_cases h:x=y
 · simp only [numD,look_upd,if_pos h]; rfl
 · simp only [numD,look_upd,if_neg h]
theorem numB_upd {es:List (D × D)} {nx:Int} {y d:List UInt8} {rs:List (List UInt8)} (h:NumB es nx) (hn:nx < 1000000000):NumB (updD (.str y) (entD d rs nx) es) (IntKind.i64.wrap (nx+1))∧IntKind.i64.wrap (nx+1)=nx+1:=by
 have e:IntKind.i64.wrap (nx+1)=nx+1:=wrap_id (by have:=h.1; omega) (by omega)
 rw [e]
 refine ⟨⟨by have:=h.1; omega,fun x=>?_⟩,rfl⟩
 rw [numD_upd]
 have:=h.2 x
 have:=h.1
 split <;> omega
structure Cst where
 (len cap:Nat)
 lg:List UInt8
 nx:Int
 es:List (D × D)
 (u i:Nat)
structure InvC (c:Cst):Prop where
 hln:c.len=c.lg.length
 hcp:0 < c.cap
 hle:c.len ≤ c.u
 hen:Ent c.es
 hnm:NumB c.es c.nx
 hnx:c.nx ≤ c.i
 hi:c.i ≤ c.u
 hu:c.u ≤ 1048576
def ns6n:List (Option Nat):=[some 0,some 1,some 2,some 3,some 4,some 5]
section
variable (us:List Int) (d:List UInt8) (hd:d.length ≤ 65536)
variable (len cap:Nat) (lg:List UInt8) (nx:Int) (es:List (D × D))
end
theorem lt19:19 < Tryz.prog.funcs.size:=Nat.le_of_ble_eq_true (by kernel_rfl)
theorem vadd {x:Int} {n:Nat} (h:x=(n:Int)) (hb:n < 1000000000000):V.int IntKind.i64 (IntKind.i64.wrap x)=iW n:=ieq_ok h hb
section
variable (sz j:Nat) (hsz:4096 ≤ sz) (hsz2:sz ≤ 65536)
end
end Go.Proofs.YtfihojpgobmmdaaGreatDoor
namespace Go.Proofs.YtfihojpgobmmdaaGreatDoor
open Go Go.Eng
noncomputable abbrev cdUa:Code:=bodyOf Tryz.f3
noncomputable abbrev tl7:Code:=tailN 7 cdUa
noncomputable abbrev rdUa:Code:=inner (inner (seqR (seqL tl7)))
noncomputable abbrev bdUa:Code:=inner (seqL (seqR rdUa))
theorem ua_1 (x y:Int) (gn:Bool) (m n a:Nat):∃ L,RunIs Tryz.prog csL [(25,.give (iW m)),(26,.give (iW n)),(30,.give (iW a))] 1000 3 Tryz.f3 [2,7,8,9,10,11,12] (headN 7 cdUa) (startSt [.int .u8 x,.int .u8 y,.bool gn] (hSR gS gR) 3) L
  [([],
   [(gS=gS),(gR=gR),(V.int IntKind.i64 (IntKind.i64.wrap (x.tmod (20:Int)))=iW m),(V.int IntKind.i64 (IntKind.i64.wrap ((1:Int)+Int.ofNat m))=iW n),(Int.ofNat n ≠ (0:Int)),(V.int IntKind.i64 ((IntKind.i64.wrap y).tmod (Int.ofNat n))=iW a)],
   .to .normal (stG [(2,.bool gn),(7,.bool true),(8,.ptr (some (3,0))),(9,.int .i64 (Int.ofNat n)),(10,.int .i64 (Int.ofNat a)),(11,.slc (some (6,0)) 0 0 1),(12,.slc none 0 0 0)] (hL [(0,.ints .u32 gS),(1,.ints .u32 gR),(3,.cells [.slc none 0 0 0,.int .i64 0,.map (some 4),.map (some 5),.int .i64 0,.bool false,.bool false,.int .i64 0]),(4,.map [] 0),(5,.map [] 0),(6,.cells [])]) 7))]
 :=RunIs.of (by kernel_rfl) (by kernel_rfl) (by kernel_rfl)
section
variable (gn:Bool) (n a:Nat)
def frU (r:List (Nat × V)):List (Nat × V):=(2,.bool gn) :: (7,.bool true) :: (8,P3) :: (9,iW n) :: (10,iW a) :: r
def lUn (row:O):List (Nat × O):=[(0,.ints .u32 gS),(1,.ints .u32 gR),(3,.cells (stoC 0 4 5 (pN 0 0 0 [] []))),(4,.mapD none []),(5,.mapD none []),(6,row)]
def sUz (r:List (Nat × V)):St:=stG (frU gn n a ((11,.slc (some (6,0)) 0 0 1) :: (12,nilS) :: r)) (hL (lUn (.cells []))) 7
abbrev bt (z:Int):O:=.cells [.int .u8 z]
def lUp (z:Int):List (Nat × O):=lUn (.cells []) ++ [(7,bt z)]
def lUw (z:Int) (len:Nat) (lg:List UInt8) (nx:Int) (es:List (D × D)):List (Nat × O):=[(0,.ints .u32 gS),(1,.ints .u32 gR),(3,.cells [.slc (some (8,0)) len len 1,.int .i64 0,.map (some 4),.map (some 5),.int .i64 nx,.bool false,.bool false,.int .i64 0]),(4,.mapD none es),(5,.mapD none []),(6,.cells []),(7,bt z),(8,.buf 5 false lg)]
def lUx (z:Int) (len:Nat) (lg:List UInt8) (nx:Int) (es:List (D × D)) (ds:List (List UInt8)):List (Nat × O):=[(0,.ints .u32 gS),(1,.ints .u32 gR),(3,.cells [.slc (some (9,0)) len len 1,.int .i64 0,.map (some 5),.map (some 6),.int .i64 nx,.bool false,.bool false,.int .i64 0]),(5,.mapD none es),(6,.mapD none []),(7,.deep (strs ds)),(8,bt z),(9,.buf 5 false lg)]
variable (len cap:Nat) (lg:List UInt8) (nx:Int) (es rt:List (D × D)) (ds:List (List UInt8))
def mU:List (Nat × O):=memL (pS len cap lg 0 nx 0 es rt)
def sU (ab:V) (r:List (Nat × V)):St:=stG (frU gn n a ((11,.slc (some (7,0)) ds.length ds.length 1) :: (12,ab) :: r)) (hL (mU len cap lg nx es rt ++ [(7,.deep (strs ds))])) 8
end
theorem ua_2 (gn:Bool) (n a:Nat):∃ L,RunIs Tryz.prog csL [] 1000 3 Tryz.f3 [2,7,8,9,10,11,12,13] (seqL (seqL tl7)) (sUz gn n a []) L
  [([],
   [],
   .to .normal (sUz gn n a [(13,iW 0)]))]
 :=RunIs.of (by kernel_rfl) (by kernel_rfl) (by kernel_rfl)
theorem ua_3n (gn:Bool) (n a:Nat):∃ L,RunIs Tryz.prog csL [(34,.split)] 1000 3 Tryz.f3 [2,7,8,9,10,11,12,13] (seqL rdUa) (sUz gn n a [(13,iW 0)]) L
  [([((decide ((0:Int) < Int.ofNat n)),true)],
   [],
   .to .normal (sUz gn n a [(13,iW 0)])),
  ([((decide ((0:Int) < Int.ofNat n)),false)],
   [],
   .to (.exit 0) (sUz gn n a [(13,iW 0)]))]
 :=RunIs.of (by kernel_rfl) (by kernel_rfl) (by kernel_rfl)
theorem ua_3s (gn:Bool) (n a:Nat) (len cap:Nat) (lg:List UInt8) (nx:Int) (es:List (D × D)) (ds:List (List UInt8)) (b:List UInt8) (i:Nat):∃ L,RunIs Tryz.prog csL [(34,.split)] 1000 3 Tryz.f3 [2,7,8,9,10,11,12,13] (seqL rdUa) (sU gn n a len cap lg nx es [] ds (one1 b) [(13,iW i)]) L
  [([((decide (Int.ofNat i < Int.ofNat n)),true)],
   [],
   .to .normal (sU gn n a len cap lg nx es [] ds (one1 b) [(13,iW i)])),
  ([((decide (Int.ofNat i < Int.ofNat n)),false)],
   [],
   .to (.exit 0) (sU gn n a len cap lg nx es [] ds (one1 b) [(13,iW i)]))]
 :=RunIs.of (by kernel_rfl) (by kernel_rfl) (by kernel_rfl)
theorem ua_4n (gn:Bool) (n a:Nat) (d:List UInt8) (len:Nat) (lg:List UInt8) (nx:Int) (es:List (D × D)):∃ L,RunIs Tryz.prog (pinS csL 15 [P3,.str [0],nilS] (hL (lUp 0)) 8 (.tup [.str d,okE],hL (lUw 0 len lg nx es),9)) [(42,.give (.str [0]))] 1000 3 Tryz.f3 [2,7,8,9,10,11,13,14] (headN 2 bdUa) (sUz gn n a [(13,iW 0)]) L
  [([],
   [(V.str [UInt8.ofNat 0]=V.str [(0:UInt8)]),(([.ptr (some (3,0)),.str [0],.slc none 0 0 0]:List V)=[.ptr (some (3,0)),.str [0],.slc none 0 0 0]∧(hL [(0,.ints .u32 gS),(1,.ints .u32 gR),(3,.cells [.slc none 0 0 0,.int .i64 0,.map (some 4),.map (some 5),.int .i64 0,.bool false,.bool false,.int .i64 0]),(4,.mapD none []),(5,.mapD none []),(6,.cells []),(7,.cells [.int .u8 0])])=(hL [(0,.ints .u32 gS),(1,.ints .u32 gR),(3,.cells [.slc none 0 0 0,.int .i64 0,.map (some 4),.map (some 5),.int .i64 0,.bool false,.bool false,.int .i64 0]),(4,.mapD none []),(5,.mapD none []),(6,.cells []),(7,.cells [.int .u8 0])])∧8=8)],
   .to .normal (stG [(2,.bool gn),(7,.bool true),(8,.ptr (some (3,0))),(9,.int .i64 (Int.ofNat n)),(10,.int .i64 (Int.ofNat a)),(11,.slc (some (7,0)) 0 0 1),(13,.int .i64 0),(14,.str d)] (hL (memL (pS len len lg 0 nx 0 es []) ++ [(7,.cells [])])) 8))]
 :=RunIs.of (by kernel_rfl) (by kernel_rfl) (by kernel_rfl)
theorem ua_5n (gn:Bool) (n a:Nat) (d:List UInt8) (len cap:Nat) (lg:List UInt8) (nx:Int) (es:List (D × D)):∃ L,RunIs Tryz.prog csL [] 1000 3 Tryz.f3 [2,7,8,9,10,11,12,13] (tailN 2 bdUa) (stG (frU gn n a [(11,.slc (some (7,0)) 0 0 1),(13,iW 0),(14,.str d)]) (hL (mU len cap lg nx es [] ++ [(7,.cells [])])) 8) L
  [([],
   [],
   .to .normal (stG [(2,.bool gn),(7,.bool true),(8,.ptr (some (3,0))),(9,.int .i64 (Int.ofNat n)),(10,.int .i64 (Int.ofNat a)),(11,.slc (some (7,0)) 1 1 1),(12,.slc (some (8,0)) 1 1 1),(13,.int .i64 0)] (hL (memL (pS len cap lg ((0:Int)) nx ((0:Int)) es []) ++ [(7,.cells [.str d]),(8,.cells [.str d])])) 9))]
 :=RunIs.of (by kernel_rfl) (by kernel_rfl) (by kernel_rfl)
theorem ua_4s (gn:Bool) (n a:Nat) (len cap:Nat) (lg:List UInt8) (nx:Int) (es:List (D × D)) (ds:List (List UInt8)) (b c d:List UInt8) (i:Nat) (len2:Nat) (lg2:List UInt8) (nx2:Int) (es2:List (D × D)):∃ L,RunIs Tryz.prog (pinS csL 15 [P3,.str c,one1 b] (hL (mU len cap lg nx es [] ++ [(7,.deep (strs ds)),(8,bt (IntKind.u8.wrap (Int.ofNat i)))])) 9 (.tup [.str d,okE],hL (lUx (IntKind.u8.wrap (Int.ofNat i)) len2 lg2 nx2 es2 ds),10)) [(42,.give (.str c))] 1000 3 Tryz.f3 [2,7,8,9,10,11,13,14] (headN 2 bdUa) (sU gn n a len cap lg nx es [] ds (one1 b) [(13,iW i)]) L
  [([],
   [(V.str [UInt8.ofNat (IntKind.u8.wrap (Int.ofNat i)).toNat]=V.str c),(([.ptr (some (3,0)),.str c,.lst false 1 [.str b]]:List V)=[.ptr (some (3,0)),.str c,.lst false 1 [.str b]]∧(hL (memL (pS len cap lg ((0:Int)) nx ((0:Int)) es []) ++ [(7,.deep (strs ds)),(8,.cells [.int .u8 (IntKind.u8.wrap (Int.ofNat i))])]))=(hL (memL (pS len cap lg ((0:Int)) nx ((0:Int)) es []) ++ [(7,.deep (strs ds)),(8,.cells [.int .u8 (IntKind.u8.wrap (Int.ofNat i))])]))∧9=9)],
   .to .normal (stG [(2,.bool gn),(7,.bool true),(8,.ptr (some (3,0))),(9,.int .i64 (Int.ofNat n)),(10,.int .i64 (Int.ofNat a)),(11,.slc (some (7,0)) (ds.length) (ds.length) 1),(13,.int .i64 (Int.ofNat i)),(14,.str d)] (hL (memL (pS len2 len2 lg2 0 nx2 0 es2 []) ++ [(7,.deep (strs ds))])) 8))]
 :=RunIs.of (by kernel_rfl) (by kernel_rfl) (by kernel_rfl)
theorem ua_5s (gn:Bool) (n a:Nat) (d:List UInt8) (len cap:Nat) (lg:List UInt8) (nx:Int) (es:List (D × D)) (ds:List (List UInt8)) (i:Nat):∃ L,RunIs Tryz.prog csL [] 1000 3 Tryz.f3 [2,7,8,9,10,11,12,13] (tailN 2 bdUa) (stG (frU gn n a [(11,.slc (some (7,0)) ds.length ds.length 1),(13,iW i),(14,.str d)]) (hL (mU len cap lg nx es [] ++ [(7,.deep (strs ds))])) 8) L
  [([],
   [(0+ds.length * 1 ≤ (strs ds).length),(0 < 1),(roomy (ds.length+1) 1 16=true)],
   .to .normal (stG [(2,.bool gn),(7,.bool true),(8,.ptr (some (3,0))),(9,.int .i64 (Int.ofNat n)),(10,.int .i64 (Int.ofNat a)),(11,.slc (some (7,0)) (ds.length+1) (ds.length+1) 1),(12,.slc (some (8,0)) 1 1 1),(13,.int .i64 (Int.ofNat i))] (hL (memL (pS len cap lg ((0:Int)) nx ((0:Int)) es []) ++ [(7,.deep (List.take (ds.length * 1) (List.drop 0 (strs ds)) ++ [D.str d])),(8,.cells [.str d])])) 9))]
 :=RunIs.of (by kernel_rfl) (by kernel_rfl) (by kernel_rfl)
theorem ua_6 (gn:Bool) (n a:Nat) (len cap:Nat) (lg:List UInt8) (nx:Int) (es:List (D × D)) (ds:List (List UInt8)) (b:List UInt8) (i:Nat):∃ L,RunIs Tryz.prog csL [(36,.give (iW (i+1)))] 1000 3 Tryz.f3 [2,7,8,9,10,11,12,13] (seqR (seqR rdUa)) (sU gn n a len cap lg nx es [] ds (one1 b) [(13,iW i)]) L
  [([],
   [(V.int IntKind.i64 (IntKind.i64.wrap (Int.ofNat i+(1:Int)))=iW (i+1))],
   .to .normal (sU gn n a len cap lg nx es [] ds (one1 b) [(13,iW (i+1))]))]
 :=RunIs.of (by kernel_rfl) (by kernel_rfl) (by kernel_rfl)
noncomputable abbrev tl8:Code:=tailN 8 cdUa
noncomputable abbrev tl9:Code:=tailN 9 cdUa
noncomputable abbrev rdUb:Code:=inner (inner (seqR (seqL tl9)))
noncomputable abbrev bdUb:Code:=inner (seqL (seqR rdUb))
section
variable (gn:Bool) (n a:Nat) (len cap:Nat) (lg:List UInt8) (nx:Int) (es rt:List (D × D)) (ds:List (List UInt8))
def mV8:List (Nat × O):=mU len cap lg nx es rt ++ [(7,.deep (strs ds))]
def sV (r:List (Nat × V)):St:=stG (frU gn n a ((11,.slc (some (7,0)) ds.length ds.length 1) :: (16,okE) :: r)) (hL (mV8 len cap lg nx es rt ds)) 8
def lVw (len:Nat) (lg:List UInt8) (nx:Int) (es rt:List (D × D)) (ds:List (List UInt8)):List (Nat × O):=[(0,.ints .u32 gS),(1,.ints .u32 gR),(3,.cells [.slc (some (8,0)) len len 1,.int .i64 0,.map (some 5),.map (some 6),.int .i64 nx,.bool false,.bool false,.int .i64 0]),(5,.mapD none es),(6,.mapD none rt),(7,.deep (strs ds)),(8,.buf 5 false lg)]
end
theorem ub_1 (gn:Bool) (n a:Nat) (len cap:Nat) (lg:List UInt8) (nx:Int) (es:List (D × D)) (ds:List (List UInt8)) (b d:List UInt8) (i:Nat) (len2:Nat) (lg2:List UInt8) (rt2:List (D × D)):∃ L,RunIs Tryz.prog (pinS csL 16 [P3,.str [114],.str d] (hL (mV8 len cap lg nx es [] ds)) 8 (okE,hL (lVw len2 lg2 nx es rt2 ds),9)) [(59,.give (.str d))] 1000 3 Tryz.f3 [2,7,8,9,10,11,16] (seqL tl8) (sU gn n a len cap lg nx es [] ds (one1 b) [(13,iW i)]) L
  [([],
   [((0:Int) ≤ Int.ofNat a∧Int.ofNat a < (Int.ofNat ds.length)),(0+a * 1 < (strs ds).length),(((strs ds).getD (0+a * 1) D.dflt).toV=V.str d),(([.ptr (some (3,0)),.str [114],.str d]:List V)=[.ptr (some (3,0)),.str [114],.str d]∧(hL (memL (pS len cap lg ((0:Int)) nx ((0:Int)) es []) ++ [(7,.deep (strs ds))]))=(hL (memL (pS len cap lg ((0:Int)) nx ((0:Int)) es []) ++ [(7,.deep (strs ds))]))∧8=8)],
   .to .normal (sV gn n a len2 len2 lg2 nx es rt2 ds []))]
 :=RunIs.of (by kernel_rfl) (by kernel_rfl) (by kernel_rfl)
theorem ub_2 (gn:Bool) (n a:Nat) (len cap:Nat) (lg:List UInt8) (nx:Int) (es rt:List (D × D)) (ds:List (List UInt8)):∃ L,RunIs Tryz.prog csL [] 1000 3 Tryz.f3 [2,7,8,9,10,11,16,17] (seqL (seqL tl9)) (sV gn n a len cap lg nx es rt ds []) L
  [([],
   [],
   .to .normal (sV gn n a len cap lg nx es rt ds [(17,iW 0)]))]
 :=RunIs.of (by kernel_rfl) (by kernel_rfl) (by kernel_rfl)
theorem ub_3 (gn:Bool) (n a:Nat) (len cap:Nat) (lg:List UInt8) (nx:Int) (es rt:List (D × D)) (ds:List (List UInt8)) (i:Nat):∃ L,RunIs Tryz.prog csL [(63,.split)] 1000 3 Tryz.f3 [2,7,8,9,10,11,16,17] (seqL rdUb) (sV gn n a len cap lg nx es rt ds [(17,iW i)]) L
  [([((decide (Int.ofNat i < Int.ofNat n)),true)],
   [],
   .to .normal (sV gn n a len cap lg nx es rt ds [(17,iW i)])),
  ([((decide (Int.ofNat i < Int.ofNat n)),false)],
   [],
   .to (.exit 2) (sV gn n a len cap lg nx es rt ds [(17,iW i)]))]
 :=RunIs.of (by kernel_rfl) (by kernel_rfl) (by kernel_rfl)
abbrev ub_4A1 (len cap:Nat) (lg:List UInt8) (nx:Int) (es rt:List (D × D)) (ds:List (List UInt8)) (d:List UInt8):Prop:=([.ptr (some (3,0)),.str d]:List V)=[.ptr (some (3,0)),.str d]∧(hL (memL (pS len cap lg ((0:Int)) nx ((0:Int)) es rt) ++ [(7,.deep (strs ds))]))=(hL (memL (pS len cap lg ((0:Int)) nx ((0:Int)) es rt) ++ [(7,.deep (strs ds))]))∧8=8
theorem ub_4 (gn:Bool) (n a:Nat) (len cap:Nat) (lg:List UInt8) (nx:Int) (es rt:List (D × D)) (ds:List (List UInt8)) (i:Nat) (d:List UInt8) (c:Bool):∃ L,RunIs Tryz.prog (pinS (pinS csL 17 [P3,.str d] (hL (mV8 len cap lg nx es rt ds)) 8 (.bool c,hL (mV8 len cap lg nx es rt ds),8)) 18 [P3,.str d] (hL (mV8 len cap lg nx es rt ds)) 8 (.bool true,hL (mV8 len cap lg nx es rt ds),8)) [(70,.give (.str d)),(74,.give (.bool c)),(75,.give (.bool false)),(81,.give (.str d))] 1000 3 Tryz.f3 [2,7,8,9,10,11,16,17] (bdUb) (sV gn n a len cap lg nx es rt ds [(17,iW i)]) L
  [([],
   [((0:Int) ≤ Int.ofNat i∧Int.ofNat i < (Int.ofNat ds.length)),(0+i * 1 < (strs ds).length),(((strs ds).getD (0+i * 1) D.dflt).toV=V.str d),ub_4A1 len cap lg nx es rt ds d,(V.bool (decide (Int.ofNat i ≤ Int.ofNat a))=V.bool c),((V.bool !c == c)=V.bool false),((0:Int) ≤ Int.ofNat i∧Int.ofNat i < (Int.ofNat ds.length)),(0+i * 1 < (strs ds).length),(((strs ds).getD (0+i * 1) D.dflt).toV=V.str d),ub_4A1 len cap lg nx es rt ds d],
   .to .normal (stG [(2,.bool gn),(7,.bool true),(8,.ptr (some (3,0))),(9,.int .i64 (Int.ofNat n)),(10,.int .i64 (Int.ofNat a)),(11,.slc (some (7,0)) (ds.length) (ds.length) 1),(16,.int .i64 0),(17,.int .i64 (Int.ofNat i))] (hL (memL (pS len cap lg ((0:Int)) nx ((0:Int)) es rt) ++ [(7,.deep (strs ds))])) 8))]
 :=RunIs.of (by kernel_rfl) (by kernel_rfl) (by kernel_rfl)
theorem ub_5 (gn:Bool) (n a:Nat) (len cap:Nat) (lg:List UInt8) (nx:Int) (es rt:List (D × D)) (ds:List (List UInt8)) (i:Nat):∃ L,RunIs Tryz.prog csL [(65,.give (iW (i+1)))] 1000 3 Tryz.f3 [2,7,8,9,10,11,16,17] (seqR (seqR rdUb)) (sV gn n a len cap lg nx es rt ds [(17,iW i)]) L
  [([],
   [(V.int IntKind.i64 (IntKind.i64.wrap (Int.ofNat i+(1:Int)))=iW (i+1))],
   .to .normal (sV gn n a len cap lg nx es rt ds [(17,iW (i+1))]))]
 :=RunIs.of (by kernel_rfl) (by kernel_rfl) (by kernel_rfl)
end Go.Proofs.YtfihojpgobmmdaaGreatDoor
namespace Go.Proofs.YtfihojpgobmmdaaGreatDoor
open Go Go.Eng
section
variable (fl nx lf:Int)
def lR7N:List (Nat × O):=memL (pN fl nx lf [] []) ++ [(7,.cells [.map (some 6)])]
def lVN:List (Nat × O):=lR7N fl nx lf ++ [(8,.cells [.map (some 9)]),(9,.mapD none []),(10,.cells [.fn (.func 77) [] [P8,P11,P10]]),(11,.cells [P3])]
def sRxN:St:=stG [(5,P8),(6,P10),(10,f78)] (hL (lVN fl nx lf)) 12
noncomputable def lVxN:List (Nat × O):=lVN fl nx lf ++ [(12,.dfr),(13,.loop true none (sRxN fl nx lf).fr [11] asRd boRd)]
noncomputable def hVxN:Tr O:=hL (lVxN fl nx lf)
noncomputable def SVxN:St:=stG [(0,.fn (.yield 13) [] []),(6,.ptr (some (14,0)))] ((hVxN fl nx lf).set 6 none) 15
def hRxN:Tr O:=hL (lR7N fl nx lf ++ [(8,.mapD none [])])
end
theorem nx1_ (fl nx lf:Int):∃ L,RunIs Tryz.prog cs19 [] 1000 8 Tryz.f51 [1,5,6] (headN 4 cdRd) (startSt [P3,f78] (hL (lR7N fl nx lf)) 8) L
  [([],
   [],
   .to .normal (stG [(1,.fn (.func 78) [] [.ptr (some (7,0))]),(5,.ptr (some (8,0))),(6,.ptr (some (10,0)))] (hL [(0,.ints .u32 gS),(1,.ints .u32 gR),(3,.cells [.slc none 0 0 0,.int .i64 ((pN fl nx lf [] []).fl),.map (some 5),.map (some 6),.int .i64 ((pN fl nx lf [] []).nx),.bool false,.bool false,.int .i64 ((pN fl nx lf [] []).lf)]),(5,.mapD none []),(6,.mapD none []),(7,.cells [.map (some 6)]),(8,.cells [.map (some 9)]),(9,.map [] 0),(10,.cells [.fn (.func 77) [] [.ptr (some (8,0)),.ptr (some (11,0)),.ptr (some (10,0))]]),(11,.cells [.ptr (some (3,0))])]) 12))]
 :=RunIs.of (by kernel_rfl) (by kernel_rfl) (by kernel_rfl)
theorem nx2_ (fl nx lf:Int):∃ L,RunIs Tryz.prog cs19 [] 1000 8 Tryz.f51 [5,6,10] (seqL (seqL tlRd)) (stG [(1,f78),(5,P8),(6,P10)] (hL (lVN fl nx lf)) 12) L
  [([],
   [],
   .to .normal (sRxN fl nx lf))]
 :=RunIs.of (by kernel_rfl) (by kernel_rfl) (by kernel_rfl)
theorem nx3_ (fl nx lf:Int):EndIs Tryz.prog cs19 [] 1000 8 Tryz.f51 (seqR tlRd) (rEnd (sRxN fl nx lf) (hVxN fl nx lf) 14)
  [([],
   [],
   .ret (.map (some 8)) (hRxN fl nx lf) 9)]
 :=⟨by kernel_rfl,by kernel_rfl,by kernel_rfl⟩
theorem nx4_ (d:List UInt8) (fl nx lf:Int):∃ L,RunIs Tryz.prog (pinS cs19 51 [P3,f78] (hL (lR7N fl nx lf)) 8 (.map (some 8),hRxN fl nx lf,9)) [] 1000 7 Tryz.f17 [] (cdLi) (startSt [P3,.str d] (memS (pN fl nx lf [] [])) 7) L
  [([],
   [(([.ptr (some (3,0)),.fn (.func 78) [] [.ptr (some (7,0))]]:List V)=[.ptr (some (3,0)),.fn (.func 78) [] [.ptr (some (7,0))]]∧(hL [(0,.ints .u32 gS),(1,.ints .u32 gR),(3,.cells [.slc none 0 0 0,.int .i64 ((pN fl nx lf [] []).fl),.map (some 5),.map (some 6),.int .i64 ((pN fl nx lf [] []).nx),.bool false,.bool false,.int .i64 ((pN fl nx lf [] []).lf)]),(5,.mapD none []),(6,.mapD none []),(7,.cells [.map (some 6)])])=(hL [(0,.ints .u32 gS),(1,.ints .u32 gR),(3,.cells [.slc none 0 0 0,.int .i64 ((pN fl nx lf [] []).fl),.map (some 5),.map (some 6),.int .i64 ((pN fl nx lf [] []).nx),.bool false,.bool false,.int .i64 ((pN fl nx lf [] []).lf)]),(5,.mapD none []),(6,.mapD none []),(7,.cells [.map (some 6)])])∧8=8)],
   .ret (.bool false) (memS (pN fl nx lf [] [])) 7)]
 :=RunIs.of (by kernel_rfl) (by kernel_rfl) (by kernel_rfl)
end Go.Proofs.YtfihojpgobmmdaaGreatDoor
namespace Go.Proofs.YtfihojpgobmmdaaGreatDoor
open Go Go.Eng
section
variable (len cap:Nat) (b:List UInt8) (fl nx lf:Int) (es rt:List (D × D))
theorem lt51:51 < Tryz.prog.funcs.size:=Nat.le_of_ble_eq_true (by kernel_rfl)
theorem call17g (k:Nat) (d:List UInt8) (hrt:RtS rt) (he:∀ x ∈ valsOf rt,Ends es k x):CallIs Tryz.prog 17 [P3,.str d] (memS (pS len cap b fl nx lf es rt)) 7 (.bool (decide (d ∈ canK es rt k))) (memS (pS len cap b fl nx lf es rt)) 7:=by
 refine callIs_of_TG Tryz.func17 (code:=cdLi) (by kernel_rfl) (by kernel_rfl) ?_
 have hc:=call51x len cap b fl nx lf es rt k hrt he
 obtain ⟨L,hr⟩:=li_1 len cap b fl nx lf es rt (snL (canK es rt k)) d (decide (d ∈ canK es rt k))
 refine TG_ret (X19.pin lt51 hc) mo _ (by kernel_rfl) hr fun g hg _=>?_
 rw [List.mem_singleton] at hg; subst hg
 refine ⟨fm ⟨rfl,rfl,rfl⟩ (fm1 ?_),_,_,_,rfl,rfl,rfl,rfl⟩
 by_cases h:d ∈ canK es rt k
 · rw [decide_eq_true h]; exact look_true h
 · rw [decide_eq_false h]; exact look_false h
end
section
variable (fl nx lf:Int)
set_option maxRecDepth 20000 in
theorem call78n:CallIs Tryz.prog 78 [.fn (.yield 13) [] [],.ptr (some (7,0))] (hVxN fl nx lf) 14 (.tup []) (hVxN fl nx lf) 14:=by
 refine CallsOne.is (callsOne_of_TG mo po Tryz.func78 (code:=cdVl) (by kernel_rfl) (by kernel_rfl) ?_)
 rw [ml78]
 refine TG_maps (v0:=.map (some 6)) (fr0:=(startSt [.fn (.yield 13) [] [],.ptr (some (7,0))] (hVxN fl nx lf) 14).fr.set 5 (some (.map (some 6)))) (fr1:=((startSt [.fn (.yield 13) [] [],.ptr (some (7,0))] (hVxN fl nx lf) 14).fr.set 5 (some (.map (some 6)))).set 6 (some (.ptr (some (14,0))))) (m:=6) (kd:=none) (es:=[]) mo ml78_ok
  (by kernel_rfl) (by kernel_rfl) (by kernel_rfl) (by kernel_rfl) (Nat.le_of_ble_eq_true rfl) (by kernel_rfl) (fun _ s1=>normG 15 [0,6] s1=some (SVxN fl nx lf)) (by kernel_rfl) ?_
 rintro vis left s1 hs hp
 have hz:vis=[]∧left=[]:=List.append_eq_nil_iff.1 hp.eq_nil
 obtain ⟨rfl,rfl⟩:=hz
 refine ⟨[0,6],_,hs,by kernel_rfl,fun _=>?_,fun e left' he2=>?_⟩
 · exact ⟨(SVxN fl nx lf).fr.set 7 (some (.tup [.bool false])),{ SVxN fl nx lf with fr:=((SVxN fl nx lf).fr.set 7 (some (.tup [.bool false]))).set 8 (some (.bool false)) },by kernel_rfl,by kernel_rfl,by kernel_rfl,.inl rfl,.tup [],hVxN fl nx lf,14,by kernel_rfl,rfl,rfl,rfl⟩
 · have:=he2.length_eq; simp at this
set_option maxRecDepth 20000 in
theorem call51n:CallIs Tryz.prog 51 [P3,f78] (hL (lR7N fl nx lf)) 8 (.map (some 8)) (hRxN fl nx lf) 9:=by
 refine callIs_of_TG Tryz.func51 (code:=cdRd) (by kernel_rfl) (by kernel_rfl) ?_
 obtain ⟨L1,hr1⟩:=nx1_ fl nx lf
 refine TG_isN1 4 X19 mo (by kernel_rfl) hr1 all_nil ?_
 refine TG_map [(9,none)] (s2:=stG [(1,f78),(5,P8),(6,P10)] (hL (lVN fl nx lf)) 12) (by kernel_rfl) ?_
 show TG Tryz.prog 8 Tryz.f51.ntmps tlRd _ _
 refine TG_seq' (by kernel_rfl) ?_
 refine TG_seq' (by kernel_rfl) ?_
 obtain ⟨L2,hr2⟩:=nx2_ fl nx lf
 refine TG_is X19 mo anyR (by kernel_rfl) hr2 fun g hg _=>?_
 rw [List.mem_singleton] at hg; subst hg
 refine ⟨all_nil,fun s' hs'=>TG_norm hs' ?_⟩
 refine TG_block (i:=0) (by kernel_rfl) ?_
 refine TG_rangeN (gf:=78) (lb:=[.ptr (some (7,0))]) (by kernel_rfl) (by kernel_rfl) (by kernel_rfl) (by kernel_rfl) (by kernel_rfl) (call78n fl nx lf).one ?_
 rintro v h n ⟨rfl,rfl,rfl⟩
 refine ⟨by kernel_rfl,?_⟩
 show TG Tryz.prog 8 Tryz.f51.ntmps (seqR tlRd) (rEnd (sRxN fl nx lf) (hVxN fl nx lf) 14) _
 refine TG_end X19 mo _ (by kernel_rfl) (nx3_ fl nx lf) fun g hg _=>?_
 rw [List.mem_singleton] at hg; subst hg
 exact ⟨all_nil,_,_,_,rfl,rfl,rfl,rfl⟩
theorem call17n (d:List UInt8):CallIs Tryz.prog 17 [P3,.str d] (memS (pN fl nx lf [] [])) 7 (.bool false) (memS (pN fl nx lf [] [])) 7:=by
 refine callIs_of_TG Tryz.func17 (code:=cdLi) (by kernel_rfl) (by kernel_rfl) ?_
 obtain ⟨L,hr⟩:=nx4_ d fl nx lf
 refine TG_ret (X19.pin lt51 (call51n fl nx lf)) mo _ (by kernel_rfl) hr fun g hg _=>?_
 rw [List.mem_singleton] at hg; subst hg
 exact ⟨fm1 ⟨rfl,rfl,rfl⟩,_,_,_,rfl,rfl,rfl,rfl⟩
end
end Go.Proofs.YtfihojpgobmmdaaGreatDoor
namespace Go.Proofs.YtfihojpgobmmdaaGreatDoor
open Go Go.Eng
def bR (i:Nat):List UInt8:=[UInt8.ofNat i]
def dr0:List UInt8:=[230,76,245,155,251,207,60,87,67,204,217,237,163,168,17,167,150,102,137,113,122,132,153,229,177,239,12,177,243,59,244,182]
def dr1:List UInt8:=[12,193,18,82,194,70,113,98,88,127,248,167,125,234,239,150,70,54,76,198,95,89,98,88,117,4,187,33,234,254,111,195]
def dr2:List UInt8:=[158,232,12,149,21,35,48,55,128,10,8,7,118,240,0,22,130,162,45,28,170,8,79,241,22,67,209,115,18,251,185,165]
def dr3:List UInt8:=[146,82,59,246,93,255,183,226,137,159,188,22,89,158,254,78,174,234,160,79,10,45,152,103,108,4,234,46,35,45,248,134]
def dr4:List UInt8:=[245,94,7,166,200,110,134,210,164,164,122,19,188,148,90,5,157,158,165,18,47,97,50,174,204,71,143,235,140,44,24,114]
def dr5:List UInt8:=[199,172,114,100,21,94,117,71,0,252,80,34,176,147,182,149,220,142,169,127,121,158,77,236,44,178,175,72,138,239,19,116]
def dr6:List UInt8:=[93,190,61,33,80,98,152,104,93,65,244,48,147,189,245,158,244,93,55,86,216,7,191,182,52,172,46,10,151,24,227,11]
def dr7:List UInt8:=[190,188,12,182,132,1,56,88,90,230,244,217,152,230,224,159,24,86,92,220,72,0,67,46,198,18,186,19,242,171,150,204]
def dr8:List UInt8:=[112,182,124,132,215,129,139,164,208,216,49,220,100,232,153,188,227,143,228,110,224,208,113,237,241,116,158,155,145,110,139,188]
def dr9:List UInt8:=[202,210,236,229,37,98,72,195,107,166,93,226,190,66,72,112,138,1,1,197,233,230,173,81,14,57,192,127,116,179,79,180]
def dr10:List UInt8:=[106,206,242,53,170,177,162,83,169,238,185,194,194,247,16,214,225,242,215,149,171,161,127,44,167,92,242,191,209,32,115,41]
def dr11:List UInt8:=[12,122,161,31,125,68,11,168,247,237,155,14,110,31,181,74,75,69,47,230,181,246,190,21,175,147,87,120,171,180,94,95]
def dr12:List UInt8:=[252,248,70,190,226,6,169,233,199,22,182,181,152,235,196,238,46,194,137,86,247,213,246,45,109,27,244,224,238,34,73,57]
def dr13:List UInt8:=[180,185,31,247,95,243,82,223,188,36,226,1,227,255,71,254,135,143,155,149,207,14,186,192,108,145,106,45,160,54,106,160]
def dr14:List UInt8:=[117,201,120,221,255,206,22,110,177,32,38,248,152,222,117,56,34,211,70,8,228,109,35,182,255,78,216,182,16,13,234,36]
def dr15:List UInt8:=[246,97,210,21,99,186,212,31,47,45,96,5,61,173,79,199,127,227,250,120,35,119,125,18,174,138,189,33,84,195,62,36]
def dr16:List UInt8:=[62,219,251,70,210,1,203,217,8,205,246,183,219,159,78,28,52,240,33,145,239,107,146,25,184,174,239,89,214,178,234,88]
def dr17:List UInt8:=[160,233,149,120,198,74,25,187,227,68,44,119,154,23,97,204,77,110,108,136,156,111,220,61,37,21,17,53,241,172,202,55]
def dr18:List UInt8:=[70,241,252,164,122,198,199,4,147,243,45,127,232,78,185,19,125,249,64,95,244,126,236,4,193,26,58,198,86,61,108,106]
def dr19:List UInt8:=[133,198,65,60,82,48,143,156,187,29,183,147,45,101,59,142,16,244,73,15,14,21,199,219,219,98,52,131,2,192,225,11]
theorem drs_0:nameOf (bR 0) []=dr0:=by kernel_rfl
theorem drs_1:nameOf (bR 1) [dr0]=dr1:=by kernel_rfl
theorem drs_2:nameOf (bR 2) [dr1]=dr2:=by kernel_rfl
theorem drs_3:nameOf (bR 3) [dr2]=dr3:=by kernel_rfl
theorem drs_4:nameOf (bR 4) [dr3]=dr4:=by kernel_rfl
theorem drs_5:nameOf (bR 5) [dr4]=dr5:=by kernel_rfl
theorem drs_6:nameOf (bR 6) [dr5]=dr6:=by kernel_rfl
theorem drs_7:nameOf (bR 7) [dr6]=dr7:=by kernel_rfl
theorem drs_8:nameOf (bR 8) [dr7]=dr8:=by kernel_rfl
theorem drs_9:nameOf (bR 9) [dr8]=dr9:=by kernel_rfl
theorem drs_10:nameOf (bR 10) [dr9]=dr10:=by kernel_rfl
theorem drs_11:nameOf (bR 11) [dr10]=dr11:=by kernel_rfl
theorem drs_12:nameOf (bR 12) [dr11]=dr12:=by kernel_rfl
theorem drs_13:nameOf (bR 13) [dr12]=dr13:=by kernel_rfl
theorem drs_14:nameOf (bR 14) [dr13]=dr14:=by kernel_rfl
theorem drs_15:nameOf (bR 15) [dr14]=dr15:=by kernel_rfl
theorem drs_16:nameOf (bR 16) [dr15]=dr16:=by kernel_rfl
theorem drs_17:nameOf (bR 17) [dr16]=dr17:=by kernel_rfl
theorem drs_18:nameOf (bR 18) [dr17]=dr18:=by kernel_rfl
theorem drs_19:nameOf (bR 19) [dr18]=dr19:=by kernel_rfl
def dR:Nat→List UInt8
 | 0=>nameOf (bR 0) []
 | i+1=>nameOf (bR (i+1)) [dR i]
def rR:Nat→List (List UInt8)
 | 0=>[]
 | i+1=>[dR i]
theorem dR_is:∀ i,dR i=nameOf (bR i) (rR i)
 | 0=>rfl
 | _+1=>rfl
def litR:List (List UInt8):=[dr0,dr1,dr2,dr3,dr4,dr5,dr6,dr7,dr8,dr9,dr10,dr11,dr12,dr13,dr14,dr15,dr16,dr17,dr18,dr19]
theorem dR_0:dR 0=dr0:=drs_0
theorem dR_1:dR 1=dr1:=by show nameOf (bR 1) [dR 0]=_; rw [dR_0]; exact drs_1
theorem dR_2:dR 2=dr2:=by show nameOf (bR 2) [dR 1]=_; rw [dR_1]; exact drs_2
theorem dR_3:dR 3=dr3:=by show nameOf (bR 3) [dR 2]=_; rw [dR_2]; exact drs_3
theorem dR_4:dR 4=dr4:=by show nameOf (bR 4) [dR 3]=_; rw [dR_3]; exact drs_4
theorem dR_5:dR 5=dr5:=by show nameOf (bR 5) [dR 4]=_; rw [dR_4]; exact drs_5
theorem dR_6:dR 6=dr6:=by show nameOf (bR 6) [dR 5]=_; rw [dR_5]; exact drs_6
theorem dR_7:dR 7=dr7:=by show nameOf (bR 7) [dR 6]=_; rw [dR_6]; exact drs_7
theorem dR_8:dR 8=dr8:=by show nameOf (bR 8) [dR 7]=_; rw [dR_7]; exact drs_8
theorem dR_9:dR 9=dr9:=by show nameOf (bR 9) [dR 8]=_; rw [dR_8]; exact drs_9
theorem dR_10:dR 10=dr10:=by show nameOf (bR 10) [dR 9]=_; rw [dR_9]; exact drs_10
theorem dR_11:dR 11=dr11:=by show nameOf (bR 11) [dR 10]=_; rw [dR_10]; exact drs_11
theorem dR_12:dR 12=dr12:=by show nameOf (bR 12) [dR 11]=_; rw [dR_11]; exact drs_12
theorem dR_13:dR 13=dr13:=by show nameOf (bR 13) [dR 12]=_; rw [dR_12]; exact drs_13
theorem dR_14:dR 14=dr14:=by show nameOf (bR 14) [dR 13]=_; rw [dR_13]; exact drs_14
theorem dR_15:dR 15=dr15:=by show nameOf (bR 15) [dR 14]=_; rw [dR_14]; exact drs_15
theorem dR_16:dR 16=dr16:=by show nameOf (bR 16) [dR 15]=_; rw [dR_15]; exact drs_16
theorem dR_17:dR 17=dr17:=by show nameOf (bR 17) [dR 16]=_; rw [dR_16]; exact drs_17
theorem dR_18:dR 18=dr18:=by show nameOf (bR 18) [dR 17]=_; rw [dR_17]; exact drs_18
theorem dR_19:dR 19=dr19:=by show nameOf (bR 19) [dR 18]=_; rw [dR_18]; exact drs_19
theorem dR_lit:(List.range 20).map dR=litR:=by
 show [dR 0,dR 1,dR 2,dR 3,dR 4,dR 5,dR 6,dR 7,dR 8,dR 9,dR 10,dR 11,dR 12,dR 13,dR 14,dR 15,dR 16,dR 17,dR 18,dR 19]=_
 rw [dR_0,dR_1,dR_2,dR_3,dR_4,dR_5,dR_6,dR_7,dR_8,dR_9,dR_10,dR_11,dR_12,dR_13,dR_14,dR_15,dR_16,dR_17,dR_18,dR_19]; rfl
theorem litR_nodup:litR.Nodup:=of_decide_eq_true (by kernel_rfl)
theorem dR_inj {i j:Nat} (hi:i < 20) (hj:j < 20) (h:dR i=dR j):i=j:=by
 have hn:((List.range 20).map dR).Nodup:=by rw [dR_lit]; exact litR_nodup
 have hi':i < ((List.range 20).map dR).length:=by rw [List.length_map,List.length_range]; exact hi
 have hj':j < ((List.range 20).map dR).length:=by rw [List.length_map,List.length_range]; exact hj
 have e:((List.range 20).map dR)[i]=((List.range 20).map dR)[j]:=by simp only [List.getElem_map,List.getElem_range]; exact h
 rcases Nat.lt_trichotomy i j with q | q | q
 · exact absurd e (List.pairwise_iff_getElem.1 hn i j hi' hj' q)
 · exact q
 · exact absurd e.symm (List.pairwise_iff_getElem.1 hn j i hj' hi' q)
theorem dR_len (i:Nat):(dR i).length=32:=by rw [dR_is]; exact nameOf_len _ _
theorem rR_32 (i:Nat):∀ x ∈ rR i,x.length=32:=by
 cases i with
 | zero=>exact fun _ h=>by cases h
 | succ i=>exact fun x hx=>by rw [List.mem_singleton.1 hx]; exact dR_len i
theorem rR_le (i:Nat):(rR i).length ≤ 1:=by
 cases i <;> simp [rR]
def esR:Nat→List (D × D)
 | 0=>[]
 | i+1=>updD (.str (dR i)) (entD (bR i) (rR i) i) (esR i)
theorem esR_has:∀ (n j:Nat),n ≤ 20→j < n→lookD (.str (dR j)) (esR n)=some (entD (bR j) (rR j) j)
 | n+1,j,hn,hj=>by
   show lookD (.str (dR j)) (updD (.str (dR n)) _ (esR n))=_
   rw [look_upd]
   by_cases h:dR j=dR n
   · obtain rfl:=dR_inj (by omega) (by omega) h
     rw [if_pos rfl]
   · rw [if_neg h]
     exact esR_has n j (by omega) (by rcases Nat.lt_or_ge j n with q | q; · exact q
                                      · exact absurd (by rw [show j=n by omega]) h)
theorem esR_none:∀ (n:Nat) (x:List UInt8),(∀ j < n,x ≠ dR j)→lookD (.str x) (esR n)=none
 | 0,_,_=>rfl
 | n+1,x,h=>by
   show lookD (.str x) (updD (.str (dR n)) _ (esR n))=_
   rw [look_upd,if_neg (h n (by omega))]
   exact esR_none n x fun j hj=>h j (by omega)
theorem esR_new {n:Nat} (hn:n < 20):lookD (.str (dR n)) (esR n)=none:=esR_none n _ fun j hj h=>by have:=dR_inj (by omega) (by omega) h; omega
theorem esR_ent:∀ n,Ent (esR n)
 | 0=>ent_nil
 | n+1=>ent_upd (esR_ent n)
theorem esR_num:∀ n,n ≤ 20→NumB (esR n) n
 | 0,_=>numB_nil
 | n+1,h=>by
   have:=numB_upd (y:=dR n) (d:=bR n) (rs:=rR n) (esR_num n (by omega)) (by omega)
   rw [this.2] at this
   exact this.1
theorem esR_numD {n j:Nat} (hn:n ≤ 20) (hj:j < n):numD (esR n) (dR j)=j:=by
 unfold numD; rw [esR_has n j hn hj]; rfl
theorem esR_refs {n j:Nat} (hn:n ≤ 20) (hj:j < n):refsD (esR n) (dR j)=rR j:=refsD_has (esR_has n j hn hj)
theorem esR_ends {n:Nat} (hn:n ≤ 20):∀ j,j < n→Ends (esR n) (j+1) (dR j)
 | j,hj=>by
   refine ⟨⟨_,_,_,esR_has n j hn hj⟩,?_,?_⟩
   · rw [esR_refs hn hj]; have:=rR_le j; omega
   · rw [esR_refs hn hj]
     cases j with
     | zero=>exact fun _ h=>by cases h
     | succ j=>exact fun r hr=>by rw [List.mem_singleton.1 hr]; exact esR_ends hn j (by omega)
theorem esR_rch {n:Nat} (hn:n ≤ 20) {x y:List UInt8} (h:Rch (esR n) x y):∀ j,j < n→x=dR j→∃ i ≤ j,y=dR i:=by
 induction h with
 | self x=>exact fun j _ e=>⟨j,Nat.le_refl _,e⟩
 | step x y z hy _ ih=>
   rintro j hj rfl
   rw [esR_refs hn hj] at hy
   cases j with
   | zero=>cases hy
   | succ j=>
     obtain ⟨i,hi,e⟩:=ih j (by omega) (List.mem_singleton.1 hy)
     exact ⟨i,by omega,e⟩
theorem rch_esR {n:Nat} (hn:n ≤ 20):∀ j,j < n→∀ i ≤ j,Rch (esR n) (dR j) (dR i)
 | 0,_,i,hi=>by obtain rfl:i=0:=by omega
                exact .self _
 | j+1,hj,i,hi=>by
   rcases Nat.lt_or_ge j i with q | q
   · obtain rfl:i=j+1:=by omega
     exact .self _
   · exact .step _ (dR j) _ (by rw [esR_refs hn hj]; exact List.mem_singleton.2 rfl) (rch_esR hn j (by omega) i q)
def rtR (a:Nat):List (D × D):=[(.str [114],.str (dR a))]
theorem rtR_vals (a:Nat):valsOf (rtR a)=[dR a]:=rfl
theorem canR {n a:Nat} (hn:n ≤ 20) (ha:a < n) (y:List UInt8):y ∈ canK (esR n) (rtR a) (a+1) ↔ ∃ i ≤ a,y=dR i:=by
 unfold canK
 rw [rtR_vals,reachK_mem (fun d hd=>by rw [List.mem_singleton.1 hd]; exact esR_ends hn a ha)]
 constructor
 · rintro ⟨d,hd,h⟩
   exact esR_rch hn h a ha (List.mem_singleton.1 hd)
 · rintro ⟨i,hi,rfl⟩
   exact ⟨dR a,List.mem_singleton.2 rfl,rch_esR hn a ha i hi⟩
theorem canR_dec {n a i:Nat} (hn:n ≤ 20) (ha:a < n) (hi:i < n):decide (dR i ∈ canK (esR n) (rtR a) (a+1))=decide (i ≤ a):=by
 refine decide_eq_decide.2 ?_
 rw [canR hn ha]
 constructor
 · rintro ⟨j,hj,e⟩
   have:=dR_inj (by omega) (by omega) e; omega
 · exact fun h=>⟨i,h,rfl⟩
theorem canR_perm {n a:Nat} (hn:n ≤ 20) (ha:a < n):List.Perm ((List.range (a+1)).map dR) (canK (esR n) (rtR a) (a+1)):=by
 have hd:((List.range (a+1)).map dR).Nodup:=by
  refine List.pairwise_map.2 (List.nodup_range.imp_of_mem fun h1 h2 hne e=>hne ?_)
  rw [List.mem_range] at h1 h2
  exact dR_inj (by omega) (by omega) e
 have hc:(canK (esR n) (rtR a) (a+1)).Nodup:=reachK_nodup fun d hd=>by rw [rtR_vals] at hd; rw [List.mem_singleton.1 hd]; exact esR_ends hn a ha
 refine (List.perm_ext_iff_of_nodup hd hc).2 fun y=>?_
 rw [canR hn ha,List.mem_map]
 constructor
 · rintro ⟨i,hi,rfl⟩
   exact ⟨i,by have:=List.mem_range.1 hi; omega,rfl⟩
 · rintro ⟨i,hi,rfl⟩
   exact ⟨i,List.mem_range.2 (by omega),rfl⟩
theorem zsR_pair {n a:Nat} (hn:n ≤ 20) (ha:a < n):((List.range (a+1)).map dR).Pairwise fun x y=>numD (esR n) x < numD (esR n) y:=by
 refine List.pairwise_map.2 (List.pairwise_lt_range.imp_of_mem fun {x y} h1 h2 hlt=>?_)
 rw [List.mem_range] at h1 h2
 rw [esR_numD hn (by omega),esR_numD hn (by omega)]; omega
theorem rcR_is {n j:Nat} (hn:n ≤ 20) (hj:j < n):rcC (esR n) (dR j)= .chunk (bR j) (rR j):=rcC_has (esR_has n j hn hj)
def rsR (a:Nat):List Rcd:=(List.range a).map (fun j=>Rcd.chunk (bR j) (rR j))
theorem rsR_succ (a:Nat):rsR (a+1)=rsR a ++ [Rcd.chunk (bR a) (rR a)]:=by
 unfold rsR; rw [List.range_succ,List.map_append]; rfl
theorem apR:∀ a,a ≤ 20→apA (rsR a)=⟨a,esR a,[]⟩
 | 0,_=>rfl
 | a+1,h=>by
   rw [rsR_succ]
   show List.foldl apL ls0 (rsR a ++ [_])=_
   rw [List.foldl_append,show List.foldl apL ls0 (rsR a)=_ from apR a (by omega)]
   show LS.mk (IntKind.i64.wrap ((a:Int)+1)) (updD (.str (nameOf (bR a) (rR a))) (entD (bR a) (rR a) a) (esR a)) []=_
   rw [← dR_is,wrap_id (by omega) (by omega)]
   rfl
theorem recs_R {n a:Nat} (hn:n ≤ 20) (ha:a < n):recsC (esR n) (rtR a) ((List.range (a+1)).map dR)=rsR (a+1) ++ [Rcd.root [114] (dR a)]:=by
 unfold recsC
 have h1:((List.range (a+1)).map dR).map (rcC (esR n))=rsR (a+1):=by
  unfold rsR
  rw [List.map_map]
  refine List.map_congr_left fun j hj=>?_
  rw [List.mem_range] at hj
  exact rcR_is hn (by omega)
 rw [h1,show keysOf (rtR a)=[[114]] from rfl,sortS_one]
 rfl
theorem ap_R {n a:Nat} (hn:n ≤ 20) (ha:a < n):apA (recsC (esR n) (rtR a) ((List.range (a+1)).map dR))=⟨(a+1:Nat),esR (a+1),rtR a⟩:=by
 rw [recs_R hn ha]
 show List.foldl apL ls0 (rsR (a+1) ++ [_])=_
 rw [List.foldl_append,show List.foldl apL ls0 (rsR (a+1))=_ from apR (a+1) (by omega)]
 have hne:dR a ≠ []:=fun e=>by have:=dR_len a; rw [e] at this; cases this
 show LS.mk _ _ (if dR a=[] then _ else updD (.str [114]) (.str (dR a)) [])=_
 rw [if_neg hne]; rfl
theorem esR_len:∀ n,n ≤ 20→(esR n).length=n
 | 0,_=>rfl
 | n+1,h=>by
   show (updD (.str (dR n)) _ (esR n)).length=_
   rw [upd_len_new _ (esR_new (by omega)),List.length_append,esR_len n (by omega)]; rfl
end Go.Proofs.YtfihojpgobmmdaaGreatDoor
namespace Go.Proofs.YtfihojpgobmmdaaGreatDoor
open Go Go.Eng
noncomputable abbrev tl13:Code:=tailN 13 cdUa
noncomputable abbrev rdUc:Code:=inner (inner (seqR (seqL tl13)))
noncomputable abbrev bdUc:Code:=inner (seqL (seqR rdUc))
section
variable (n:Nat) (len cap:Nat) (lg:List UInt8) (fl nx:Int) (es rt:List (D × D)) (ds:List (List UInt8))
def frW (m:Nat) (r:List (Nat × V)):List (Nat × V):=(7,.bool true) :: (8,P3) :: (9,iW n) :: (11,.slc (some (m,0)) ds.length ds.length 1) :: (16,okE) :: r
def mW (fl:Int):List (Nat × O):=memL (pS len cap lg fl nx 0 es rt) ++ [(7,.deep (strs ds))]
def sWA (fl:Int) (r:List (Nat × V)):St:=stG (frW n ds 7 r) (hL (mW len cap lg nx es rt ds fl)) 8
def mB:List (Nat × O):=[(0,.ints .u32 gS),(1,.ints .u32 gR),(3,.cells (stoC 0 4 5 (pN 0 0 0 [] []))),(4,.mapD none []),(5,.mapD none []),(6,.deep (strs ds))]
def sWB (r:List (Nat × V)):St:=stG (frW n ds 6 r) (hL (mB ds)) 7
def lWA (bs:List UInt8) (nx1:Int) (es1 rt1:List (D × D)):List (Nat × O):=[(0,.ints .u32 gS),(1,.ints .u32 gR),(3,.cells [.slc (some (8,0)) bs.length bs.length 1,.int .i64 (Int.ofNat bs.length),.map (some 9),.map (some 10),.int .i64 nx1,.bool false,.bool false,.int .i64 0]),(4,.buf 5 false lg),(5,.mapD none es),(6,.mapD none rt),(7,.deep (strs ds)),(8,.buf 5 false bs),(9,.mapD none es1),(10,.mapD none rt1)]
def lWB:List (Nat × O):=[(0,.ints .u32 gS),(1,.ints .u32 gR),(3,.cells [nilS,.int .i64 0,.map (some 8),.map (some 9),.int .i64 0,.bool false,.bool false,.int .i64 0]),(4,.buf 5 false lg),(5,.mapD none es),(6,.mapD none []),(7,.deep (strs ds)),(8,.mapD none []),(9,.mapD none [])]
end
theorem nx5_ (d:List UInt8) (fl nx lf:Int):∃ L,RunIs Tryz.prog cs19 [] 1000 7 Tryz.f18 [] (bodyOf Tryz.f18) (startSt [P3,.str d] (memS (pN fl nx lf [] [])) 7) L
  [([],
   [],
   .ret (.bool false) (memS (pN fl nx lf [] [])) 7)]
 :=RunIs.of (by kernel_rfl) (by kernel_rfl) (by kernel_rfl)
theorem uc_1 (gn:Bool) (n a:Nat) (len cap:Nat) (lg:List UInt8) (nx:Int) (es rt:List (D × D)) (ds:List (List UInt8)) (i:Nat):∃ L,RunIs Tryz.prog csL [(86,.give (iW (a+1)))] 1000 3 Tryz.f3 [2,7,8,9,11,16,18] (seqL (tailN 10 cdUa)) (sV gn n a len cap lg nx es rt ds [(17,iW i)]) L
  [([],
   [(V.int IntKind.i64 (IntKind.i64.wrap (Int.ofNat a+(1:Int)))=iW (a+1))],
   .to .normal (stG ((2,.bool gn) :: frW n ds 7 [(18,iW (a+1))]) (hL (mW len cap lg nx es rt ds 0)) 8))]
 :=RunIs.of (by kernel_rfl) (by kernel_rfl) (by kernel_rfl)
theorem uc_2f (n a:Nat) (len cap:Nat) (lg:List UInt8) (nx:Int) (es rt:List (D × D)) (ds:List (List UInt8)):∃ L,RunIs Tryz.prog csL [] 1000 3 Tryz.f3 [7,8,9,11,16,18] (seqL (tailN 11 cdUa)) (stG ((2,.bool false) :: frW n ds 7 [(18,iW (a+1))]) (hL (mW len cap lg nx es rt ds 0)) 8) L
  [([],
   [],
   .to .normal (sWA n len cap lg nx es rt ds 0 [(18,iW (a+1))]))]
 :=RunIs.of (by kernel_rfl) (by kernel_rfl) (by kernel_rfl)
theorem uc_2t (n a:Nat) (len cap:Nat) (lg:List UInt8) (nx:Int) (es rt:List (D × D)) (ds:List (List UInt8)) (len2:Nat) (lg2:List UInt8) (rt2:List (D × D)):∃ L,RunIs Tryz.prog (pinS csL 16 [P3,.str [114],.str []] (hL (mW len cap lg nx es rt ds 0)) 8 (okE,hL (lVw len2 lg2 nx es rt2 ds),9)) [] 1000 3 Tryz.f3 [7,8,9,11,16,18] (seqL (tailN 11 cdUa)) (stG ((2,.bool true) :: frW n ds 7 [(18,iW (a+1))]) (hL (mW len cap lg nx es rt ds 0)) 8) L
  [([],
   [(([.ptr (some (3,0)),.str [114],.str []]:List V)=[.ptr (some (3,0)),.str [114],.str []]∧(hL (memL (pS len cap lg ((0:Int)) nx ((0:Int)) es rt) ++ [(7,.deep (strs ds))]))=(hL (memL (pS len cap lg ((0:Int)) nx ((0:Int)) es rt) ++ [(7,.deep (strs ds))]))∧8=8)],
   .to .normal (sWA n len2 len2 lg2 nx es rt2 ds 0 [(18,iW 0)]))]
 :=RunIs.of (by kernel_rfl) (by kernel_rfl) (by kernel_rfl)
theorem uc_3A (n m:Nat) (len cap:Nat) (lg:List UInt8) (nx:Int) (es rt:List (D × D)) (ds:List (List UInt8)) (bs:List UInt8) (nx1:Int) (es1 rt1:List (D × D)):∃ L,RunIs Tryz.prog (pinS csL 19 [P3] (hL (mW len cap lg nx es rt ds 0)) 8 (okE,hL (lWA lg es rt ds bs nx1 es1 rt1),11)) [] 1000 3 Tryz.f3 [7,8,9,11,16,18,19] (seqL (tailN 12 cdUa)) (sWA n len cap lg nx es rt ds 0 [(18,iW m)]) L
  [([],
   [(([.ptr (some (3,0))]:List V)=[.ptr (some (3,0))]∧(hL (memL (pS len cap lg ((0:Int)) nx ((0:Int)) es rt) ++ [(7,.deep (strs ds))]))=(hL (memL (pS len cap lg ((0:Int)) nx ((0:Int)) es rt) ++ [(7,.deep (strs ds))]))∧8=8)],
   .to .normal (sWA n bs.length bs.length bs nx1 es1 rt1 ds (Int.ofNat bs.length) [(18,iW m),(19,okE)]))]
 :=RunIs.of (by kernel_rfl) (by kernel_rfl) (by kernel_rfl)
theorem uc_3B (n m:Nat) (len cap:Nat) (lg:List UInt8) (nx:Int) (es:List (D × D)) (ds:List (List UInt8)):∃ L,RunIs Tryz.prog (pinS csL 19 [P3] (hL (mW len cap lg nx es [] ds 0)) 8 (okE,hL (lWB lg es ds),10)) [] 1000 3 Tryz.f3 [7,8,9,11,16,18,19] (seqL (tailN 12 cdUa)) (sWA n len cap lg nx es [] ds 0 [(18,iW m)]) L
  [([],
   [(([.ptr (some (3,0))]:List V)=[.ptr (some (3,0))]∧(hL (memL (pS len cap lg ((0:Int)) nx ((0:Int)) es []) ++ [(7,.deep (strs ds))]))=(hL (memL (pS len cap lg ((0:Int)) nx ((0:Int)) es []) ++ [(7,.deep (strs ds))]))∧8=8)],
   .to .normal (sWB n ds [(18,iW m),(19,okE)]))]
 :=RunIs.of (by kernel_rfl) (by kernel_rfl) (by kernel_rfl)
theorem uc_4A (n m:Nat) (len cap:Nat) (lg:List UInt8) (nx:Int) (es rt:List (D × D)) (ds:List (List UInt8)) (fl:Int):∃ L,RunIs Tryz.prog csL [] 1000 3 Tryz.f3 [7,8,9,11,16,18,19,20] (seqL (seqL tl13)) (sWA n len cap lg nx es rt ds fl [(18,iW m),(19,okE)]) L
  [([],
   [],
   .to .normal (sWA n len cap lg nx es rt ds fl [(18,iW m),(19,okE),(20,iW 0)]))]
 :=RunIs.of (by kernel_rfl) (by kernel_rfl) (by kernel_rfl)
theorem uc_5A (n m:Nat) (len cap:Nat) (lg:List UInt8) (nx:Int) (es rt:List (D × D)) (ds:List (List UInt8)) (fl:Int) (i:Nat):∃ L,RunIs Tryz.prog csL [(94,.split)] 1000 3 Tryz.f3 [7,8,9,11,16,18,19,20] (seqL rdUc) (sWA n len cap lg nx es rt ds fl [(18,iW m),(19,okE),(20,iW i)]) L
  [([((decide (Int.ofNat i < Int.ofNat n)),true)],
   [],
   .to .normal (sWA n len cap lg nx es rt ds fl [(18,iW m),(19,okE),(20,iW i)])),
  ([((decide (Int.ofNat i < Int.ofNat n)),false)],
   [],
   .to (.exit 4) (sWA n len cap lg nx es rt ds fl [(18,iW m),(19,okE),(20,iW i)]))]
 :=RunIs.of (by kernel_rfl) (by kernel_rfl) (by kernel_rfl)
abbrev uc_6AA1 (len cap:Nat) (lg:List UInt8) (nx:Int) (es rt:List (D × D)) (ds:List (List UInt8)) (fl:Int) (d:List UInt8):Prop:=([.ptr (some (3,0)),.str d]:List V)=[.ptr (some (3,0)),.str d]∧(hL (memL (pS len cap lg fl nx ((0:Int)) es rt) ++ [(7,.deep (strs ds))]))=(hL (memL (pS len cap lg fl nx ((0:Int)) es rt) ++ [(7,.deep (strs ds))]))∧8=8
theorem uc_6A (n m:Nat) (len cap:Nat) (lg:List UInt8) (nx:Int) (es rt:List (D × D)) (ds:List (List UInt8)) (fl:Int) (i:Nat) (d:List UInt8) (c:Bool):∃ L,RunIs Tryz.prog (pinS (pinS csL 17 [P3,.str d] (hL (mW len cap lg nx es rt ds fl)) 8 (.bool c,hL (mW len cap lg nx es rt ds fl),8)) 18 [P3,.str d] (hL (mW len cap lg nx es rt ds fl)) 8 (.bool c,hL (mW len cap lg nx es rt ds fl),8)) [(101,.give (.str d)),(105,.give (.bool c)),(106,.give (.bool false)),(112,.give (.str d)),(116,.give (.bool c)),(117,.give (.bool false))] 1000 3 Tryz.f3 [7,8,9,11,16,18,19,20] (bdUc) (sWA n len cap lg nx es rt ds fl [(18,iW m),(19,okE),(20,iW i)]) L
  [([],
   [((0:Int) ≤ Int.ofNat i∧Int.ofNat i < (Int.ofNat ds.length)),(0+i * 1 < (strs ds).length),(((strs ds).getD (0+i * 1) D.dflt).toV=V.str d),uc_6AA1 len cap lg nx es rt ds fl d,(V.bool (decide (Int.ofNat i < Int.ofNat m))=V.bool c),((V.bool !c == c)=V.bool false),((0:Int) ≤ Int.ofNat i∧Int.ofNat i < (Int.ofNat ds.length)),(0+i * 1 < (strs ds).length),(((strs ds).getD (0+i * 1) D.dflt).toV=V.str d),uc_6AA1 len cap lg nx es rt ds fl d,(V.bool (decide (Int.ofNat i < Int.ofNat m))=V.bool c),((V.bool !c == c)=V.bool false)],
   .to .normal (sWA n len cap lg nx es rt ds fl [(18,iW m),(19,okE),(20,iW i)]))]
 :=RunIs.of (by kernel_rfl) (by kernel_rfl) (by kernel_rfl)
theorem uc_7A (n m:Nat) (len cap:Nat) (lg:List UInt8) (nx:Int) (es rt:List (D × D)) (ds:List (List UInt8)) (fl:Int) (i:Nat):∃ L,RunIs Tryz.prog csL [(96,.give (iW (i+1)))] 1000 3 Tryz.f3 [7,8,9,11,16,18,19,20] (seqR (seqR rdUc)) (sWA n len cap lg nx es rt ds fl [(18,iW m),(19,okE),(20,iW i)]) L
  [([],
   [(V.int IntKind.i64 (IntKind.i64.wrap (Int.ofNat i+(1:Int)))=iW (i+1))],
   .to .normal (sWA n len cap lg nx es rt ds fl [(18,iW m),(19,okE),(20,iW (i+1))]))]
 :=RunIs.of (by kernel_rfl) (by kernel_rfl) (by kernel_rfl)
theorem uc_8A (n m:Nat) (len cap:Nat) (lg:List UInt8) (nx:Int) (es rt:List (D × D)) (ds:List (List UInt8)) (fl:Int) (i:Nat):∃ L,RunIs Tryz.prog csL [(132,.give (.bool true))] 1000 3 Tryz.f3 [] (seqR tl13) (sWA n len cap lg nx es rt ds fl [(18,iW m),(19,okE),(20,iW i)]) L
  [([],
   [(V.bool ((Int.ofNat es.length) == Int.ofNat m)=V.bool true)],
   .ret (.bool true) (hL [(0,.ints .u32 gS),(1,.ints .u32 gR)]) 3)]
 :=RunIs.of (by kernel_rfl) (by kernel_rfl) (by kernel_rfl)
theorem uc_4B (n m:Nat) (ds:List (List UInt8)):∃ L,RunIs Tryz.prog csL [] 1000 3 Tryz.f3 [7,8,9,11,16,18,19,20] (seqL (seqL tl13)) (sWB n ds [(18,iW m),(19,okE)]) L
  [([],
   [],
   .to .normal (sWB n ds [(18,iW m),(19,okE),(20,iW 0)]))]
 :=RunIs.of (by kernel_rfl) (by kernel_rfl) (by kernel_rfl)
theorem uc_5B (n m:Nat) (ds:List (List UInt8)) (i:Nat):∃ L,RunIs Tryz.prog csL [(94,.split)] 1000 3 Tryz.f3 [7,8,9,11,16,18,19,20] (seqL rdUc) (sWB n ds [(18,iW m),(19,okE),(20,iW i)]) L
  [([((decide (Int.ofNat i < Int.ofNat n)),true)],
   [],
   .to .normal (sWB n ds [(18,iW m),(19,okE),(20,iW i)])),
  ([((decide (Int.ofNat i < Int.ofNat n)),false)],
   [],
   .to (.exit 4) (sWB n ds [(18,iW m),(19,okE),(20,iW i)]))]
 :=RunIs.of (by kernel_rfl) (by kernel_rfl) (by kernel_rfl)
abbrev uc_6BA1 (ds:List (List UInt8)) (d:List UInt8):Prop:=([.ptr (some (3,0)),.str d]:List V)=[.ptr (some (3,0)),.str d]∧(hL [(0,.ints .u32 gS),(1,.ints .u32 gR),(3,.cells [.slc none 0 0 0,.int .i64 0,.map (some 4),.map (some 5),.int .i64 0,.bool false,.bool false,.int .i64 0]),(4,.mapD none []),(5,.mapD none []),(6,.deep (strs ds))])=(hL [(0,.ints .u32 gS),(1,.ints .u32 gR),(3,.cells [.slc none 0 0 0,.int .i64 0,.map (some 4),.map (some 5),.int .i64 0,.bool false,.bool false,.int .i64 0]),(4,.mapD none []),(5,.mapD none []),(6,.deep (strs ds))])∧7=7
theorem uc_6B (n:Nat) (ds:List (List UInt8)) (i:Nat) (d:List UInt8):∃ L,RunIs Tryz.prog (pinS (pinS csL 17 [P3,.str d] (hL (mB ds)) 7 (.bool false,hL (mB ds),7)) 18 [P3,.str d] (hL (mB ds)) 7 (.bool false,hL (mB ds),7)) [(101,.give (.str d)),(105,.give (.bool false)),(106,.give (.bool false)),(112,.give (.str d)),(116,.give (.bool false)),(117,.give (.bool false))] 1000 3 Tryz.f3 [7,8,9,11,16,18,19,20] (bdUc) (sWB n ds [(18,iW 0),(19,okE),(20,iW i)]) L
  [([],
   [((0:Int) ≤ Int.ofNat i∧Int.ofNat i < (Int.ofNat ds.length)),(0+i * 1 < (strs ds).length),(((strs ds).getD (0+i * 1) D.dflt).toV=V.str d),uc_6BA1 ds d,(V.bool (decide (Int.ofNat i < (0:Int)))=V.bool false),((V.bool !false == false)=V.bool false),((0:Int) ≤ Int.ofNat i∧Int.ofNat i < (Int.ofNat ds.length)),(0+i * 1 < (strs ds).length),(((strs ds).getD (0+i * 1) D.dflt).toV=V.str d),uc_6BA1 ds d,(V.bool (decide (Int.ofNat i < (0:Int)))=V.bool false),((V.bool !false == false)=V.bool false)],
   .to .normal (sWB n ds [(18,iW 0),(19,okE),(20,iW i)]))]
 :=RunIs.of (by kernel_rfl) (by kernel_rfl) (by kernel_rfl)
theorem uc_7B (n m:Nat) (ds:List (List UInt8)) (i:Nat):∃ L,RunIs Tryz.prog csL [(96,.give (iW (i+1)))] 1000 3 Tryz.f3 [7,8,9,11,16,18,19,20] (seqR (seqR rdUc)) (sWB n ds [(18,iW m),(19,okE),(20,iW i)]) L
  [([],
   [(V.int IntKind.i64 (IntKind.i64.wrap (Int.ofNat i+(1:Int)))=iW (i+1))],
   .to .normal (sWB n ds [(18,iW m),(19,okE),(20,iW (i+1))]))]
 :=RunIs.of (by kernel_rfl) (by kernel_rfl) (by kernel_rfl)
theorem uc_8B (n:Nat) (ds:List (List UInt8)) (i:Nat):∃ L,RunIs Tryz.prog csL [] 1000 3 Tryz.f3 [] (seqR tl13) (sWB n ds [(18,iW 0),(19,okE),(20,iW i)]) L
  [([],
   [],
   .ret (.bool true) (hL [(0,.ints .u32 gS),(1,.ints .u32 gR)]) 3)]
 :=RunIs.of (by kernel_rfl) (by kernel_rfl) (by kernel_rfl)
end Go.Proofs.YtfihojpgobmmdaaGreatDoor
namespace Go.Proofs.YtfihojpgobmmdaaGreatDoor
open Go Go.Eng
theorem u15n (d:List UInt8) (hd:d.length ≤ 65536):CallIs Tryz.prog 15 [P3,.str d,nilS] (hL (lUp 0)) 8 (.tup [.str (nameOf d []),okE]) (hL (lUw 0 (recB d []).length (recB d []) (IntKind.i64.wrap (0+1)) (updD (.str (nameOf d [])) (entD d [] 0) []))) 9:=by
 have hc:=put_first d 0 0 0 [] [] hd rfl
 generalize recB d []=lg at hc ⊢
 generalize updD (.str (nameOf d [])) (entD d [] 0) []=es at hc ⊢
 generalize nameOf d []=a at hc ⊢
 exact own_callIs (ns:=ns6n) (pick_hL (by kernel_rfl) (by kernel_rfl) (by kernel_rfl) (by kernel_rfl) (by kernel_rfl)) (by kernel_rfl) (by kernel_rfl) hc
section
variable (len cap:Nat) (lg:List UInt8) (nx:Int) (es rt:List (D × D)) (ds:List (List UInt8))
theorem u15w (z:Int) (d b:List UInt8) (hd:d.length ≤ 65536) (h32:b.length=32) (hb:Has es b) (hk:lookD (.str (nameOf d [b])) es=none) (hc:0 < cap) (hl:len=lg.length) (hfit:len+(recB d [b]).length ≤ 1048576):
  CallIs Tryz.prog 15 [P3,.str d,one1 b] (hL (mU len cap lg nx es [] ++ [(7,.deep (strs ds)),(8,bt z)])) 9 (.tup [.str (nameOf d [b]),okE]) (hL (lUx z (len+(recB d [b]).length) (lg ++ recB d [b]) (IntKind.i64.wrap (nx+1)) (updD (.str (nameOf d [b])) (entD d [b] nx) es) ds)) 10:=by
 have hc:=put_newL d len cap lg 0 nx 0 es [] false [b] hd (by simp) (by simp) (fun x hx=>by rw [List.mem_singleton.1 hx]; exact h32) (fun x hx=>by rw [List.mem_singleton.1 hx]; exact hb) hk hc hl hfit
 generalize lg ++ recB d [b]=lg2 at hc ⊢
 generalize len+(recB d [b]).length=n at hc ⊢
 generalize updD (.str (nameOf d [b])) (entD d [b] nx) es=es at hc ⊢
 generalize nameOf d [b]=a at hc ⊢
 exact own_callIs (ns:=ns7) (pick_hL (by kernel_rfl) (by kernel_rfl) (by kernel_rfl) (by kernel_rfl) (by kernel_rfl)) (by kernel_rfl) (by kernel_rfl) hc
theorem u16 (d:List UInt8) (hd:d.length=32) (hk:Has es d) (hc:0 < cap) (hl:len=lg.length) (hfit:len+(namB [114] d).length ≤ 1048576):
  CallIs Tryz.prog 16 [P3,.str [114],.str d] (hL (mV8 len cap lg nx es [] ds)) 8 okE (hL (lVw (len+(namB [114] d).length) (lg ++ namB [114] d) nx es (updD (.str [114]) (.str d) []) ds)) 9:=by
 have hc:=root_new [114] d len cap lg 0 nx 0 es [] ⟨by decide,by decide⟩ (fun e=>by rw [e] at hd; cases hd) (by omega) hk rfl (by decide) hc hl hfit
 generalize lg ++ namB [114] d=lg2 at hc ⊢
 generalize len+(namB [114] d).length=n at hc ⊢
 exact own_callIs (ns:=ns7) (pick_hL (by kernel_rfl) (by kernel_rfl) (by kernel_rfl) (by kernel_rfl) (by kernel_rfl)) (by kernel_rfl) (by kernel_rfl) hc
theorem u16d (d:List UInt8) (hd:d.length=32) (hc:0 < cap) (hl:len=lg.length) (hfit:len+(namB [114] []).length ≤ 1048576):
  CallIs Tryz.prog 16 [P3,.str [114],.str []] (hL (mW len cap lg nx es [(.str [114],.str d)] ds 0)) 8 okE (hL (lVw (len+(namB [114] []).length) (lg ++ namB [114] []) nx es [] ds)) 9:=by
 have hc:=root_del [114] len cap lg 0 nx 0 es [(.str [114],.str d)] d ⟨by decide,by decide⟩ rfl (fun e=>by rw [e] at hd; cases hd) hc hl hfit
 generalize lg ++ namB [114] []=lg2 at hc ⊢
 generalize len+(namB [114] []).length=n at hc ⊢
 exact own_callIs (ns:=ns7) (pick_hL (by kernel_rfl) (by kernel_rfl) (by kernel_rfl) (by kernel_rfl) (by kernel_rfl)) (by kernel_rfl) (by kernel_rfl) hc
theorem u17 (fl:Int) (k:Nat) (d:List UInt8) (hrt:RtS rt) (he:∀ x ∈ valsOf rt,Ends es k x):CallIs Tryz.prog 17 [P3,.str d] (hL (mW len cap lg nx es rt ds fl)) 8 (.bool (decide (d ∈ canK es rt k))) (hL (mW len cap lg nx es rt ds fl)) 8:=by
 have hc:=call17g len cap lg fl nx 0 es rt k d hrt he
 generalize decide (d ∈ canK es rt k)=c at hc ⊢
 exact own_callIs (ns:=ns7) (pick_hL (by kernel_rfl) (by kernel_rfl) (by kernel_rfl) (by kernel_rfl) (by kernel_rfl)) (by kernel_rfl) (by kernel_rfl) hc
theorem u18 (fl:Int) (d:List UInt8) (hent:Ent es):CallIs Tryz.prog 18 [P3,.str d] (hL (mW len cap lg nx es rt ds fl)) 8 (.bool (lookD (.str d) es).isSome) (hL (mW len cap lg nx es rt ds fl)) 8:=by
 rcases hent d with h | h
 · rw [h]
   exact own_callIs (ns:=ns7) (pick_hL (by kernel_rfl) (by kernel_rfl) (by kernel_rfl) (by kernel_rfl) (by kernel_rfl)) (by kernel_rfl) (by kernel_rfl) (has_no len cap lg fl nx 0 es rt d h)
 · have hs:(lookD (.str d) es).isSome=true:=Option.isSome_iff_ne_none.2 (has_some h)
   rw [hs]
   exact own_callIs (ns:=ns7) (pick_hL (by kernel_rfl) (by kernel_rfl) (by kernel_rfl) (by kernel_rfl) (by kernel_rfl)) (by kernel_rfl) (by kernel_rfl) (has_yes len cap lg fl nx 0 es rt d h)
theorem u19e (hent:Ent es) (hn:∀ x,0 ≤ numD es x∧numD es x < 1000000000):CallIs Tryz.prog 19 [P3] (hL (mW len cap lg nx es [] ds 0)) 8 okE (hL (lWB lg es ds)) 10:=
 own_callIs (ns:=ns7) (pick_hL (by kernel_rfl) (by kernel_rfl) (by kernel_rfl) (by kernel_rfl) (by kernel_rfl)) (by kernel_rfl) (by kernel_rfl) (call19e len cap lg 0 nx 0 es hent hn)
theorem u19 {bs:List UInt8} {q:LS} (hc:CallIs Tryz.prog 19 [P3] (memS (pS len cap lg 0 nx 0 es rt)) 7 okE (hL (l3r lg 0 es rt bs 8 [] q.nx q.es q.rt)) 10):CallIs Tryz.prog 19 [P3] (hL (mW len cap lg nx es rt ds 0)) 8 okE (hL (lWA lg es rt ds bs q.nx q.es q.rt)) 11:=by
 obtain ⟨nx1,es1,rt1⟩:=q
 exact own_callIs (ns:=ns7) (pick_hL (by kernel_rfl) (by kernel_rfl) (by kernel_rfl) (by kernel_rfl) (by kernel_rfl)) (by kernel_rfl) (by kernel_rfl) hc
end
def nsB:List (Option Nat):=[some 0,some 1,some 2,some 3,none,some 4,some 5]
section
variable (ds:List (List UInt8)) (d:List UInt8)
theorem u17n:CallIs Tryz.prog 17 [P3,.str d] (hL (mB ds)) 7 (.bool false) (hL (mB ds)) 7:=
 own_callIs (ns:=nsB) (pick_hL (by kernel_rfl) (by kernel_rfl) (by kernel_rfl) (by kernel_rfl) (by kernel_rfl)) (by kernel_rfl) (by kernel_rfl) (call17n 0 0 0 d)
theorem u18n:CallIs Tryz.prog 18 [P3,.str d] (hL (mB ds)) 7 (.bool false) (hL (mB ds)) 7:=by
 have hc:CallIs Tryz.prog 18 [P3,.str d] (memS (pN 0 0 0 [] [])) 7 (.bool false) (memS (pN 0 0 0 [] [])) 7:=by
  refine callIs_of_TG Tryz.func18 (code:=bodyOf Tryz.f18) (by kernel_rfl) (by kernel_rfl) ?_
  obtain ⟨L,hr⟩:=nx5_ d 0 0 0
  refine TG_ret X19 mo _ (by kernel_rfl) hr fun g hg _=>?_
  rw [List.mem_singleton] at hg; subst hg
  exact ⟨all_nil,_,_,_,rfl,rfl,rfl,rfl⟩
 exact own_callIs (ns:=nsB) (pick_hL (by kernel_rfl) (by kernel_rfl) (by kernel_rfl) (by kernel_rfl) (by kernel_rfl)) (by kernel_rfl) (by kernel_rfl) hc
end
end Go.Proofs.YtfihojpgobmmdaaGreatDoor
