/- The engine, part MI: a call whose arguments may be frozen ahead of it. No conditions: lemmas alone. -/
import Derived.Test.YtfihojpgobmmdaaGreatDoorJointThirteen
import Derived.Sort.Row
import Derived.Sort.Grow
import Derived.Sort.EncStr
set_option linter.unusedVariables false
set_option linter.unusedSimpArgs false
set_option linter.unusedSectionVars false
namespace Go.Eng
open Go Go.RowKit
theorem CallsOne.frz {P:Program} {f:FuncId} {args args2:List V} {h h2:Tr O} {n:Nat} {ms:List Nat} {A:List Prop} {R:V→Tr O→Nat→Prop}
  (hl:(Nat.beq args.length args2.length && Nat.blt args.length top)=true) (e:fzS ms (startSt args h n)=some (A,startSt args2 h2 n)) (hA:∀ a ∈ A,a) (c:CallsOne P f args2 h2 n R):CallsOne P f args h n R:=by
 intro E w args' ra g hd
 simp only [Bool.and_eq_true] at hl
 have hlen:args.length=args2.length:=Nat.eq_of_beq_eq_true hl.1
 have hlt:args.length < top:=Nat.le_of_ble_eq_true hl.2
 obtain ⟨hfr,hsz⟩:=frel_enter (n:=args.length) ra (Nat.le_refl _) hlt
 have r:SRel E args.length (startSt args h n) { tmps:=args'.toArray ++ Array.replicate (args.length - args'.toArray.size) undef,defers:=[] } w:=⟨g,hd,hfr,hsz,rfl⟩
 obtain ⟨E2,r2,u,_,hι⟩:=fzS_sound (n0:=n) e hA r (Nat.le_refl _)
 have hsz':args'.length=args.length:=vrels_length ra
 have ra2:vrels E2 args2 args':=by
  refine vrels_of_get (by omega) fun i v hv=>?_
  have hi:i < args2.length:=(List.getElem?_eq_some_iff.1 hv).1
  have hg:(startSt args2 h2 n).fr.get i=some v:=by
   show (frameOf args2 0 .nil).get i=some v
   rw [frameOf_get args2 0 .nil i (by omega)]
   rw [if_pos (by omega)]
   simpa using hv
  obtain ⟨v',k1,k2⟩:=r2.fr i v hg
  refine ⟨v',?_,k2⟩
  rw [Array.getElem?_append_left (by simp; omega)] at k1
  simpa using k1
 refine (c E2 w args' ra2 r2.good r2.dom).mono fun en w' ⟨v,h',n',hR,E3,u3,hlow,hd3,hn3,ho⟩=>⟨v,h',n',hR,E3,?_,fun m hm=>(hlow m hm).trans (hι m),hd3,hn3,ho⟩
 exact (u.trans (UpdL.of u3 hlow (Nat.le_refl _))).upd hd
theorem CallIs.frz {P:Program} {f:FuncId} {args args2:List V} {h h2:Tr O} {n:Nat} {ms:List Nat} {A:List Prop} {v:V} {h1:Tr O} {n1:Nat}
  (hl:(Nat.beq args.length args2.length && Nat.blt args.length top)=true) (e:fzS ms (startSt args h n)=some (A,startSt args2 h2 n)) (hA:∀ a ∈ A,a) (c:CallIs P f args2 h2 n v h1 n1):CallIs P f args h n v h1 n1:=
 CallsOne.is (c.one.frz hl e hA)
end Go.Eng
namespace Go.Eng
open Go Go.RowKit Go.Proofs
def sortS (ss:List (List UInt8)):List (List UInt8):=ss.mergeSort fun x y=>decide (x ≤ y)
theorem sortS_len (ss:List (List UInt8)):(sortS ss).length=ss.length:=List.length_mergeSort ..
def SortsS (P:Program) (f:FuncId):Prop:=∀ (blk off cap:Nat) (ss:List (List UInt8)) (w:World),Sort.Holds encStr w blk off ss.toArray→blk < w.heap.size→ss.length < 4611686018427387904→
 Calls P f #[.slice (some ⟨blk,off,none⟩) ss.length cap] w fun e w'=>e= .returned (.tuple #[])∧∃ n os,w'=Sort.grow (Sort.putRow encStr (Sort.ahead w n) blk off (ss.mergeSort fun x y=>decide (x ≤ y)).toArray) os
theorem sorted_heapS (w:World) (n b s:Nat) (zs:List (List UInt8)) (os:Array Obj) {c:Array Value} {el:TypeId} {fz:Nat × Nat} (hb:w.heap[b]? =some (.cells c el fz)) (k:Nat) (hk:k < w.heap.size):
  (Sort.grow (Sort.putRow encStr (Sort.ahead w n) b s zs.toArray) os).heap[k]? =if k=b then some (.cells (Sort.putCells encStr s zs.toArray c) el fz) else w.heap[k]?:=by
 have h1:(Sort.grow (Sort.putRow encStr (Sort.ahead w n) b s zs.toArray) os).heap[k]? =(Sort.putRow encStr (Sort.ahead w n) b s zs.toArray).heap[k]?:=by
  show ((Sort.putRow encStr (Sort.ahead w n) b s zs.toArray).heap ++ os)[k]? =_
  rw [Array.getElem?_append_left]
  rw [Sort.size_putRow]; exact hk
 rw [h1]
 show (w.heap.modify b (Sort.onCells _))[k]? =_
 rw [Array.getElem?_modify]
 by_cases q:k=b
 · subst q; rw [if_pos rfl,if_pos rfl,hb]; rfl
 · rw [if_neg (fun z=>q z.symm),if_neg q]
theorem strs_vals {φ:Nat→Option (Array Value)}:∀ {ss:List (List UInt8)} {vs:List Value},drels φ (ss.map D.str) vs→vs=ss.map encStr
 | [],_,r=>r
 | s :: ss,_,⟨y,ys,_,r,rs,e⟩=>by subst e; rw [strs_vals rs]; exact congrArg (· :: _) r
theorem vals_strs {φ:Nat→Option (Array Value)}:∀ (ss:List (List UInt8)),drels φ (ss.map D.str) (ss.map encStr)
 | []=>rfl
 | _ :: ss=>⟨_,_,rfl,rfl,vals_strs ss,rfl⟩
theorem put_callIs {P:Program} {f:FuncId} {m l cp:Nat} {h:Tr O} {n:Nat} {ss zs:List (List UInt8)} {rest:List V} (hz:zs.length=ss.length) (hm:h.get m=some (.deep (ss.map D.str))) (hmt:m < top) (h0:0 < l) (hl:l=ss.length) (hbig:l < 1000000)
  (hs:∀ E w (b o cap:Nat) (rest':List Value),Good E h w→vrels E rest rest'→E.ι m=some (b,o)→Sort.Holds encStr w b o ss.toArray→b < w.heap.size→Calls P f (.slice (some ⟨b,o,none⟩) ss.length cap :: rest').toArray w fun e w'=>e= .returned (.tuple #[])∧∃ n os,w'=Sort.grow (Sort.putRow encStr (Sort.ahead w n) b o zs.toArray) os):
  CallIs P f (.slc (some (m,0)) l cp 1 :: rest) h n (.tup []) (h.set m (some (.deep (zs.map D.str)))) n:=by
 intro E w args' ra g hd
 obtain ⟨y,ys,r0,rs,rfl⟩:=ra
 obtain ⟨b,s,o',cap',e1,q1,q2,q3,q4,rfl⟩:=r0
 have ho:o'=s:=by have:=q1 (by omega); omega
 subst ho
 obtain ⟨b',s',e2,c,el,fz,vs,k1,k2,k3,k4,k5⟩:=g.rel m _ hm
 rw [e1] at e2
 simp only [Option.some.injEq,Prod.mk.injEq] at e2
 obtain ⟨rfl,rfl⟩:=e2
 have hbb:b < w.heap.size:=g.bnd m b o' e1
 have hvs:=strs_vals k4
 subst hvs
 have hcell:∀ j,j < ss.length→c[o'+j]? =some (encStr (ss.toArray[j]!)):=by
  intro j hj
  rw [k5 j (encStr ss[j]) (by rw [List.getElem?_map,List.getElem?_eq_getElem hj]; rfl)]
  rw [getElem!_pos ss.toArray j (by simpa using hj)]
  simp
 have hH:Sort.Holds encStr w b o' ss.toArray:=by
  intro j hj
  have hj:j < ss.length:=by simpa using hj
  have hcj:=hcell j hj
  refine ⟨by unfold World.cell?; simp only [k1]; exact hcj,?_⟩
  unfold World.frozen?
  simp only [k1]
  have hlt':o'+j < c.size:=by
   rcases Nat.lt_or_ge (o'+j) c.size with q | q
   · exact q
   · rw [Array.getElem?_eq_none q] at hcj; cases hcj
  have:=k3 (o'+j) hlt'
  obtain ⟨lo,hi⟩:=fz
  simp only at this ⊢
  cases hq:(decide (lo ≤ o'+j) && decide (o'+j < hi)) with
  | false=>rfl
  | true=>
    simp only [Bool.and_eq_true,decide_eq_true_eq] at hq
    exact absurd hq this
 subst hl
 refine (hs E w b o' cap' ys g rs e1 hH hbb).mono fun en w' ⟨he,nn,os,hw⟩=>?_
 have hheap:∀ k,k < w.heap.size→w'.heap[k]? =if k=b then some (.cells (Sort.putCells encStr o' zs.toArray c) el fz) else w.heap[k]?:=by
  intro k hk
  rw [hw]
  exact sorted_heapS w nn b o' zs os k1 k hk
 have hsz:w.heap.size ≤ w'.heap.size:=by
  rw [hw]
  show w.heap.size ≤ ((Sort.putRow encStr (Sort.ahead w nn) b o' zs.toArray).heap ++ os).size
  rw [Array.size_append,Sort.size_putRow]
  exact Nat.le_add_right _ _
 have hwl:wlive h m:=⟨_,hm,rfl⟩
 have hget:∀ j,(h.set m (some (O.deep (zs.map D.str)))).get j=if j=m then some (O.deep (zs.map D.str)) else h.get j:=fun j=>Tr.get_set _ _ _ hmt
 have hlive:∀ j,((h.set m (some (O.deep (zs.map D.str)))).get j ≠ none ↔ h.get j ≠ none)∧(wlive (h.set m (some (O.deep (zs.map D.str)))) j→wlive h j):=by
  intro j
  rw [hget]
  by_cases q:j=m
  · subst q; rw [if_pos rfl,hm]; exact ⟨by simp,fun _=>hwl⟩
  · rw [if_neg q]; exact ⟨Iff.rfl,fun z=>wlive_ne hmt z q⟩
 have g':Good E (h.set m (some (O.deep (zs.map D.str)))) w':=by
  refine ⟨fun j o hj=>?_,fun j j' x t t' hne hj hj' e1 e2=>g.inj j j' x t t' hne ((hlive j).2 hj) ((hlive j').1.1 hj') e1 e2,fun j x t e=>Nat.lt_of_lt_of_le (g.bnd j x t e) hsz,g.glob,fun x cc hx=>?_⟩
  · rw [hget] at hj
    split at hj
    · rename_i q; subst q
      simp only [Option.some.injEq] at hj; subst hj
      refine ⟨b,o',e1,Sort.putCells encStr o' zs.toArray c,el,fz,zs.map encStr,by rw [hheap b hbb,if_pos rfl],by simp [Sort.putCells,k2],by simpa [Sort.putCells] using k3,vals_strs _,fun i x hi=>?_⟩
      have hil:i < zs.length:=by
       rcases Nat.lt_or_ge i zs.length with q | q
       · exact q
       · rw [List.getElem?_eq_none (by simpa using q)] at hi; cases hi
      have hc:=hcell i (by rw [← hz]; exact hil)
      simp only [Sort.putCells,Array.getElem?_mapIdx,hc,Option.map_some]
      rw [if_pos ⟨by omega,by simp; exact hil⟩,show o'+i - o'=i by omega,getElem!_pos zs.toArray i (by simpa using hil)]
      rw [List.getElem?_map,List.getElem?_eq_getElem hil] at hi
      simp only [Option.map_some,Option.some.injEq] at hi
      simp [← hi]
    · rename_i q
      obtain ⟨x,t,h1,h2⟩:=g.rel j o hj
      refine ⟨x,t,h1,orel_mono (Env.le_refl E) rfl ?_ h2⟩
      have hx:=g.bnd j x t h1
      rw [hheap x hx,if_neg]
      rintro rfl
      exact g.inj m j x o' t (fun z=>q z.symm) hwl (by rw [hj]; simp) e1 h1
  · obtain ⟨⟨el',fz',hx1⟩,hx2⟩:=g.froz x cc hx
    have hxb:x ≠ b:=by rintro rfl; exact hx2 m o' hwl e1
    have hxs:x < w.heap.size:=(Array.getElem?_eq_some_iff.1 hx1).1
    exact ⟨⟨el',fz',by rw [hheap x hxs,if_neg hxb]; exact hx1⟩,fun j t hj=>hx2 j t ((hlive j).2 hj)⟩
 refine ⟨E,⟨Env.le_refl E,g',hsz,by rw [hw]; rfl,by rw [hw]; rfl,by rw [hw]; rfl,fun x hx hno=>?_,fun j x t hj e hx=>⟨j,t,(hlive j).1.1 hj,e,(hlive j).2⟩,fun x c h=>.inl h⟩,fun _ _=>rfl,hd,Nat.le_refl _,?_⟩
 · rw [hheap x hx,if_neg]
   rintro rfl
   exact hno m o' hwl e1
 · rw [he]
   exact ⟨[],rfl,rfl⟩
theorem sort_callIs {P:Program} {f:FuncId} (hs:SortsS P f) {m l cp:Nat} {h:Tr O} {n:Nat} {ss:List (List UInt8)} (hm:h.get m=some (.deep (ss.map D.str))) (hmt:m < top) (h0:0 < l) (hl:l=ss.length) (hbig:l < 1000000):
  CallIs P f [.slc (some (m,0)) l cp 1] h n (.tup []) (h.set m (some (.deep ((sortS ss).map D.str)))) n:=
 put_callIs (sortS_len ss) hm hmt h0 hl hbig fun E w b o cap rest' _ rs _ hH hb=>by
  have rs:rest'=[]:=rs
  subst rs
  exact hs b o cap ss w hH hb (by omega)
end Go.Eng
