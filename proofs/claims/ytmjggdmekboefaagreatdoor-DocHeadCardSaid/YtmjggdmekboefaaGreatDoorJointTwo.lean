/- The engine, part I: conversions, make, append. No conditions: lemmas alone. -/
import Derived.Test.YtmjggdmekboefaaGreatDoorJointOne
import Derived.Lib.UnsafeStr
import Derived.RangeFuncSeq
import Derived.TacticsIn
set_option linter.unusedVariables false
set_option linter.unusedSimpArgs false
set_option linter.unusedSectionVars false
namespace Go.Eng
open Go
section
variable {P:Program} {E:Env} {h:Tr O} {n:Nat} {w:World}
theorem bytesV_rel (s:List UInt8):vrels E (bytesV s) (s.map fun b=>Value.int .u8 b.toNat):=by
 refine vrels_of_get (by simp [bytesV]) fun i v q=>?_
 simp only [bytesV,List.getElem?_map,Option.map_eq_some_iff] at q ⊢
 obtain ⟨b,q1,rfl⟩:=q
 exact ⟨_,⟨b,q1,rfl⟩,rfl⟩
theorem bytesI_map (s:List UInt8):(bytesI s).map (V.int .u8)=bytesV s:=by simp [bytesI,bytesV]
theorem bytes_ints {ks:List Int} {o len:Nat} {vs:List Value} (r:vrels E (((ks.map (V.int .u8)).drop o).take len) vs):vs=((ks.drop o).take len).map (Value.int .u8):=by
 rw [← List.map_drop,← List.map_take] at r
 revert r
 generalize (ks.drop o).take len=l
 intro r
 induction l generalizing vs with
 | nil=>exact r
 | cons x l ih=>
   obtain ⟨y,ys,r0,rs,rfl⟩:=r
   simp only [vrel] at r0; subst r0
   rw [ih rs]; rfl
theorem bufRow_rel {m b s:Nat} {t:List UInt8} (g:Good E h w) (hi:E.ι m=some (b,s)) (e:bufRow (h.get m)=some t):∃ c el fz xs,w.heap[b]? =some (.cells c el fz)∧s=0∧strI xs=t∧∀ (j:Nat) (x:Int),xs[j]? =some x→c[j]? =some (.int .u8 x):=by
 unfold bufRow at e
 split at e
 · rename_i el fro t' hm
   cases e
   obtain ⟨b',s',hi2,c,fz,xs,h1,h2,_,_,h3,h4⟩:=g.rel m _ hm
   rw [hi] at hi2; cases hi2
   exact ⟨c,el,fz,xs,h1,h2,h3,h4⟩
 · cases e
theorem u8Row_rel {m b s:Nat} {ks:List Int} (g:Good E h w) (hi:E.ι m=some (b,s)) (e:u8Row (h.get m)=some ks):∃ c el fz,w.heap[b]? =some (.cells c el fz)∧crel E s (ks.map (.int .u8)) c:=by
 unfold u8Row at e
 split at e
 · rename_i ks' hm
   cases e
   obtain ⟨b',s',hi2,c,el,fz,h1,_,_,h2⟩:=g.rel m _ hm
   rw [hi] at hi2; cases hi2
   exact ⟨c,el,fz,h1,h2⟩
 · rename_i ks' hm
   cases e
   obtain ⟨b',s',hi2,c,el,fz,h1,_,h2⟩:=g.rel m _ hm
   rw [hi] at hi2; cases hi2
   exact ⟨c,el,fz,h1,crel_ints.2 h2⟩
 · cases e
theorem toBytes_ns:∀ (bs:List V) (s:List UInt8) (bs':List Value),toBytes bs=some s→vrels E bs bs'→
  ∃ ns:List Int,bs'=ns.map (Value.int .u8)∧s=ns.map fun n=>UInt8.ofNat n.toNat
 | [],s,bs',e,r=>by
   simp only [toBytes,Option.some.injEq] at e; subst e
   simp only [vrels] at r; subst r
   exact ⟨[],rfl,rfl⟩
 | x :: xs,s,bs',e,r=>by
   obtain ⟨y,ys,rx,rs,rfl⟩:=r
   cases x with
   | int k m=>
     cases k <;> simp only [toBytes] at e <;> first | (cases e; done) | skip
     cases hx:toBytes xs with
     | none=>simp [hx] at e
     | some t=>
       simp only [hx,Option.some.injEq] at e; subst e
       simp only [vrel] at rx; subst rx
       obtain ⟨ns,h1,h2⟩:=toBytes_ns xs t ys hx rs
       exact ⟨m :: ns,by simp [h1],by simp [h2]⟩
   | _=>simp [toBytes] at e
theorem foldl_push:∀ (ns:List Int) (r:ByteArray),ns.foldl (fun r n=>r.push (UInt8.ofNat n.toNat)) r=⟨r.data ++ (ns.map fun n=>UInt8.ofNat n.toNat).toArray⟩
 | [],r=>by simp
 | n :: ns,r=>by
   simp only [List.foldl_cons]
   rw [foldl_push ns]
   simp [ByteArray.push]
theorem op_convert {src dst:TypeId} {x:V} {x':Value} {r:R} (g:Good E h w) (hn:E.ι n=none) (rx:vrel E x x') (e:convV P src dst x h n=some r):
  OpOk P E h n w (do pure (.value (← convert src dst x'))) r:=by
 unfold convV at e
 split at e
 · rename_i d k k' m h1 h2
   simp only [Option.some.injEq] at e; subst e
   simp only [vrel] at rx; subst rx
   refine ok_same g (v':=.int k (k.wrap m)) ?_ rfl
   simp [convert,run_und h1,run_und h2,Conv.intToInt]
 · rename_i d s h1 h2
   simp only [Option.some.injEq] at e; subst e
   simp only [vrel] at rx; subst rx
   refine ok_same g (v':=.string ⟨s.toArray⟩) ?_ rfl
   simp [convert,run_und h1,run_und h2]
 · rename_i el s h1 h2
   simp only [vrel] at rx; subst rx
   split at e
   · rename_i hu
     cases ho:newObj h n (.own .u8 (bytesI s)) with
     | none=>simp [ho] at e
     | some p=>
       obtain ⟨h',n'⟩:=p
       simp only [ho,Option.some.injEq] at e; subst e
       have hsz:(⟨s.toArray⟩:ByteArray).size=s.length:=by show s.toArray.size=_; simp
       have hrun:=run_bytes_of_string w src dst el ⟨s.toArray⟩ h1 h2 hu
       rw [hsz] at hrun
       have hcap:s.length ≤ grownCap w s.length 0 el:=by simp only [grownCap,Question.cut]; omega
       have hc:(bytesRow ⟨s.toArray⟩ (grownCap w s.length 0 el)).size=grownCap w s.length 0 el:=by simp [bytesRow,hsz]; omega
       refine ok_newRowZR (r:=.is .u8 (bytesI s)) (w1:=w.drew) (c:=bytesRow ⟨s.toArray⟩ (grownCap w s.length 0 el)) (el:=el) (fz:=((bytesRow ⟨s.toArray⟩ (grownCap w s.length 0 el)).size,(bytesRow ⟨s.toArray⟩ (grownCap w s.length 0 el)).size+1)) (v':=.slice (some ⟨w.heap.size,0,none⟩) s.length (grownCap w s.length 0 el)) g hn trivial ho rfl rfl rfl rfl ?_ ?_ ?_ ?_
       · intro i hi q; simp at q; omega
       · simp only [Sem.run_bind,hrun,Result.andThen_ok,Sem.run_pure]
       · intro i v q
         obtain ⟨v',q1,q2⟩:=vrels_get (bytesV_rel (E:=E) s) i v (by rw [← bytesI_map]; exact q)
         refine ⟨v',?_,q2⟩
         simp only [bytesRow,Nat.zero_add]
         rw [Array.getElem?_append_left (by simpa using (List.getElem?_eq_some_iff.1 q1).1)]
         simpa using q1
       · refine ⟨w.heap.size,0,0,grownCap w s.length 0 el,Env.put_same,fun _=>rfl,Nat.le_refl _,hcap,?_,rfl⟩
         simp [Env.put,hc]
   · cases e
 · rename_i el f cs h1 h2
   have hx:∃ a cap,x'= .slice a 0 cap:=by obtain ⟨a,cap,_,hx,_⟩:=rx.1; exact ⟨a,cap,hx⟩
   obtain ⟨a,cap,rfl⟩:=hx
   split at e
   · rename_i hu
     simp only [Option.some.injEq] at e; subst e
     refine ok_same g (v':=.string .empty) ?_ rfl
     cases a <;> simp [convert,run_und h1,run_und h2,run_und hu,Conv.bytesToString,loadCells,loadCellsFrom]
   · cases e
 · rename_i el _ _ _ h1 h2
   obtain ⟨_,_,rfl⟩:=rx
   split at e
   · rename_i hu
     simp only [Option.some.injEq] at e; subst e
     refine ok_same g (v':=.string .empty) ?_ rfl
     simp [convert,run_und h1,run_und h2,run_und hu,Conv.bytesToString]
   · cases e
 · rename_i el m o len cap esz h1 h2
   split at e
   · rename_i hu
     split at e
     · rename_i hes
       subst hes
       obtain ⟨b,sh,o',cap',hi,c1,c2,c3,c4,rfl⟩:=rx
       split at e
       · rename_i s0 hm
         split at e
         · rename_i hle
           simp only [Option.some.injEq] at e; subst e
           obtain ⟨c,el',fz,xs,hbk,hsh,hxs,hcr⟩:=bufRow_rel g hi hm
           subst hsh
           refine ok_same g (v':=.string ⟨((s0.drop o).take len).toArray⟩) ?_ rfl
           rcases Nat.eq_zero_or_pos len with hl0 | hl0'
           · subst hl0
             simp [convert,run_und h1,run_und h2,run_und hu,Conv.bytesToString,loadCells,loadCellsFrom]
             rfl
           · have hle:o+len ≤ s0.length:=hle.resolve_left (by omega)
             have hxl:xs.length=s0.length:=by rw [← hxs]; simp [strI]
             have ho':o'=0+o:=c1 (by omega)
             subst ho'
             have hcr':crel E 0 (xs.map (.int .u8)) c:=crel_ints.2 (by simpa using hcr)
             have hb:=crel_bound hcr' (k:=o+len) (by omega) (by simp; omega)
             have hld:=run_loadCells (P:=P) (o:=0+o) (n:=len) hbk (by omega)
             rw [bytes_ints (crel_slice hcr' (by simp; omega) (by omega))] at hld
             rw [Sem.run_bind,run_convert_bytes_string w src dst el _ len cap' h1 hu h2,run_bytesToString w _ len cap' _ hld,foldl_push]
             simp [← hxs,strI,List.map_take,List.map_drop]
         · cases e
       · split at e
         · rename_i ks hm
           split at e
           · rename_i hle
             simp only [Option.some.injEq] at e; subst e
             obtain ⟨c,el',fz,hbk,hcr⟩:=u8Row_rel g hi hm
             refine ok_same g (v':=.string ⟨(strI ((ks.drop o).take len)).toArray⟩) ?_ rfl
             rcases Nat.eq_zero_or_pos len with hl0 | hl0'
             · subst hl0
               simp [convert,run_und h1,run_und h2,run_und hu,Conv.bytesToString,loadCells,loadCellsFrom,strI]
               rfl
             · have hle:o+len ≤ ks.length:=hle.resolve_left (by omega)
               have ho':o'=sh+o:=c1 (by omega)
               subst ho'
               have hb:=crel_bound hcr (k:=o+len) (by omega) (by simpa using hle)
               have hld:=run_loadCells (P:=P) (o:=sh+o) (n:=len) hbk (by omega)
               rw [bytes_ints (crel_slice hcr (by simpa using hle) (by omega))] at hld
               rw [Sem.run_bind,run_convert_bytes_string w src dst el _ len cap' h1 hu h2,run_bytesToString w _ len cap' _ hld,foldl_push]
               simp [strI]
           · cases e
         · split at e
           · simp only [Option.some.injEq] at e; subst e
             refine ok_same g (v':=.string .empty) ?_ rfl
             simp [convert,run_und h1,run_und h2,run_und hu,Conv.bytesToString,loadCells,loadCellsFrom]
           · rename_i hl0
             split at e
             · rename_i cs hm
               cases hc:cut cs o len with
               | none=>simp [hc] at e
               | some bs=>
                 simp only [hc] at e
                 cases ht:toBytes bs with
                 | none=>simp [ht] at e
                 | some s=>
                   simp only [ht,Option.some.injEq] at e; subst e
                   obtain ⟨hle,rfl⟩:=cut_eq hc
                   have hl0':0 < len:=by
                    cases len with
                    | zero=>exact absurd rfl hl0
                    | succ _=>omega
                   have ho':o'=sh+o:=c1 (by omega)
                   subst ho'
                   obtain ⟨b',sh',hi2,c,el',fz,hbk,_,_,hcr⟩:=g.rel m _ hm
                   rw [hi] at hi2; cases hi2
                   have hb:=crel_bound hcr (k:=o+len) (by omega) hle
                   have hld:=run_loadCells (P:=P) (o:=sh+o) (n:=len) hbk (by omega)
                   obtain ⟨ns,n1,n2⟩:=toBytes_ns _ s _ ht (crel_slice hcr hle (by omega))
                   rw [n1] at hld
                   refine ok_same g (v':=.string ⟨s.toArray⟩) ?_ rfl
                   rw [Sem.run_bind,run_convert_bytes_string w src dst el _ len cap' h1 hu h2,run_bytesToString w _ len cap' ns hld,foldl_push,← n2]
                   simp
             · cases e
     · cases e
   · cases e
 · cases e
theorem info_zero {t:TypeId} {i:TypeInfo} {z:V} (hi:P.info? t=some i) (hz:zeroOf P t=some z):∃ z',i.zero=some z'∧(zeroValue t).run P w= .ok z' w∧vrel E z z':=by
 obtain ⟨z',h1,h2,i',h3,h4⟩:=run_zero (P:=P) (w:=w) E hz
 rw [hi] at h3; cases h3
 exact ⟨z',h4,h1,h2⟩
theorem repI_map (k:IntKind) (ks:List Int):∀ n,(repI ks n).map (V.int k)=repeatV (ks.map (V.int k)) n
 | 0=>rfl
 | n+1=>by rw [repI,repeatV,List.map_append,repI_map k ks n]
theorem wk_rep {z z':List V} (h:wk z z'):∀ n,wk (repeatV z n) (repeatV z' n)
 | 0=>wk_refl _
 | n+1=>wk_append h (wk_rep h n)
theorem repD_map (ds:List D):∀ n,D.toVs (repD ds n)=repeatV (D.toVs ds) n
 | 0=>rfl
 | n+1=>by rw [repD,repeatV,← repD_map ds n,D.toVs_map,D.toVs_map,D.toVs_map,List.map_append]
theorem repD_sc {ds:List D} (h:∀ x ∈ ds,x.scalar=true):∀ n,∀ x ∈ repD ds n,x.scalar=true
 | 0,x,hx=>by simp [repD] at hx
 | n+1,x,hx=>(List.mem_append.1 hx).elim (h x) (repD_sc h n x)
theorem zeroRow_wk (z:List V) (n:Nat):wk (repeatV z n) (zeroRow z n).toV∧(zeroRow z n).sc:=by
 have key:∀ z:List V,wk (repeatV z n) (match deepsOf z with | some ds=>Row.ds (repD ds n) | none=>Row.vs (repeatV z n)).toV∧(match deepsOf z with | some ds=>Row.ds (repD ds n) | none=>Row.vs (repeatV z n)).sc:=by
  intro z
  split
  · rename_i ds h
    refine ⟨?_,repD_sc (deepsOf_sc h) n⟩
    simp only [Row.toV,repD_map]
    exact wk_rep (wk_deeps h) n
  · exact ⟨wk_refl _,trivial⟩
 unfold zeroRow
 split
 · rename_i k x r
   split
   · rename_i ks h
     refine ⟨?_,trivial⟩
     rw [intsOf_eq h]
     simp only [Row.toV,repI_map]
     exact wk_refl _
   · exact key _
 · exact key _
theorem op_makeSlice {t:TypeId} {l c:V} {l' c':Value} {r:R} (g:Good E h w) (hn:E.ι n=none) (rl:vrel E l l') (rc:vrel E c c') (e:makeSliceV P t l c h n=some r):
  OpOk P E h n w (do pure (.value (← Instr.makeSlice t l' c'))) r:=by
 unfold makeSliceV at e
 split at e
 · rename_i el k l k' c he
   simp only [vrel] at rl rc; subst rl; subst rc
   split at e
   · rename_i i z hi hz
     simp only at e
     split at e
     · rename_i hq
       obtain ⟨q1,q2,q3,q4,q5⟩:=hq
       cases ho:newObj h n (zeroRow z.cells (IntKind.i64.wrap c).toNat).toO with
       | none=>simp [ho] at e
       | some p=>
         obtain ⟨h',n'⟩:=p
         simp only [ho,Option.some.injEq] at e; subst e
         obtain ⟨z',hz1,hz2,hz3⟩:=info_zero (P:=P) (E:=E) (w:=w) hi hz
         have hzc:=vrel_cells hz3
         have hrep:=repeat_rel hzc (by omega) (IntKind.i64.wrap c).toNat
         rw [q2] at hrep
         generalize hC:(IntKind.i64.wrap c)=C at *
         generalize hL:(IntKind.i64.wrap l)=L at *
         have hu:=elemT_eq he
         have hsz:(sizeOf el).run P w= .ok i.size w:=by simp [sizeOf,typeInfo,hi]
         refine ok_newRowR (w1:=w) (c:=(Array.range (C.toNat * i.size)).map (z'.cells[· % z'.cells.size]!)) (el:=el) (v':=.slice (some ⟨w.heap.size,0,none⟩) L.toNat C.toNat) g hn (zeroRow_wk _ _).2 ho rfl rfl rfl rfl ?_ (by refine crel_wk (zeroRow_wk _ _).1 ?_; exact crel_of_vrels hrep) ?_
         · have hbig:¬ ((i.bytes:Int) * C > 2 ^ 48):=by omega
           simp only [Instr.makeSlice,Sem.run_bind,run_und hu,Result.andThen_ok,asInt,asIntOf,Sem.run_pure,typeInfo,run_program,hi,hC,hL]
           rw [if_neg (by simp; omega)]
           simp only [Sem.run_bind,run_askRoom,Result.andThen_ok,hsz,Sem.run_ite,Sem.run_pure,hz2]
           by_cases h0:C.toNat * i.size=0
           · rw [if_pos h0]
             have e0:∀ f:Nat→Value,Array.map f (Array.range 0)=#[]:=fun f=>by apply Array.ext' ; simp
             simp [h0,newRow,e0]
           · rw [if_neg h0]
             simp [newRow]
         · refine ⟨w.heap.size,0,0,C.toNat,Env.put_same,fun _=>rfl,by omega,Nat.le_refl _,?_,rfl⟩
           simp [Env.put]
     · cases e
   · cases e
 · cases e
theorem tail_rel {size k:Nat} {x:V} {new:Row} {x':Value} (g:Good E h w) (r:vrel E x x') (e:tailCells h size x=some (k,new)):
  (∀ w1:World,(Builtin.lenOf x').run P w1= .ok k w1)∧new.toV.length=k * size∧new.sc∧
   ∃ new':Array Value,(∀ w1:World,w1.heap=w.heap→(Builtin.firstCells size k x').run P w1= .ok new' w1)∧vrels E new.toV new'.toList:=by
 unfold tailCells at e
 split at e
 · rename_i len _ _
   split at e
   · rename_i hl
     simp only [Option.some.injEq,Prod.mk.injEq] at e; obtain ⟨rfl,rfl⟩:=e
     obtain ⟨_,_,rfl⟩:=r
     exact ⟨fun _=>rfl,by simp [Row.toV],trivial,#[],fun _ _=>rfl,by simp [vrels,Row.toV]⟩
   · cases e
 · rename_i m o len cap esz
   split at e
   · rename_i hes
     subst hes
     obtain ⟨b,sh,o',cap',hi,c1,c2,c3,c4,rfl⟩:=r
     split at e
     · simp only [Option.some.injEq,Prod.mk.injEq] at e; obtain ⟨rfl,rfl⟩:=e
       refine ⟨fun _=>rfl,by simp [Row.toV],trivial,#[],fun _ _=>?_,by simp [vrels,Row.toV]⟩
       simp [Builtin.firstCells,loadCells,loadCellsFrom]
     · rename_i hl0
       split at e
       · rename_i ob hm
         split at e
         · rename_i rw0 hrow
           cases hc0:rw0.cut o (len * esz) with
           | none=>simp [hc0] at e
           | some x=>
             simp only [hc0,Option.some.injEq,Prod.mk.injEq] at e; obtain ⟨rfl,rfl⟩:=e
             obtain ⟨hle,hx⟩:=cut_eq (Row.cut_toV hc0)
             have hl0':0 < len:=by
              cases len with
              | zero=>exact absurd rfl hl0
              | succ _=>omega
             have ho':o'=sh+o:=c1 (by omega)
             subst ho'
             obtain ⟨b',sh',hi2,q0⟩:=g.rel m _ hm
             obtain ⟨⟨c,el',fz,hbk,hsz,hcr⟩,hsc⟩:=orel_rowR hrow q0
             rw [hi] at hi2; cases hi2
             have hbound:sh+o+len * esz ≤ c.size:=by
              have:len * esz ≤ cap' * esz:=Nat.mul_le_mul_right _ (by omega)
              omega
             refine ⟨fun _=>rfl,by rw [hx]; simp; omega,Row.cut_sc hc0 hsc,((c.toList.drop (sh+o)).take (len * esz)).toArray,fun w1 hw1=>?_,by rw [hx]; simpa using crel_slice hcr hle hbound⟩
             simp only [Builtin.firstCells]
             exact run_loadCells (by rw [hw1]; exact hbk) hbound
         · cases e
       · cases e
   · cases e
 · rename_i s
   split at e
   · rename_i hs1
     simp only [Option.some.injEq,Prod.mk.injEq] at e; obtain ⟨rfl,rfl⟩:=e
     simp only [vrel] at r; subst r
     have hsz:(⟨s.toArray⟩:ByteArray).size=s.length:=by show s.toArray.size=_; simp
     refine ⟨fun _=>?_,by simp [bytesI,hs1,Row.toV],trivial,(s.map fun b=>Value.int .u8 b.toNat).toArray,fun w1 _=>?_,by simp only [Row.toV,bytesI_map]; exact bytesV_rel s⟩
     · simp [Builtin.lenOf,hsz]
     · simp only [Builtin.firstCells,Sem.run_pure]
       congr 1
       apply Array.ext'
       simp
   · cases e
 · rename_i f len cs
   split at e
   · rename_i hl
     simp only [Option.some.injEq,Prod.mk.injEq] at e; obtain ⟨rfl,rfl⟩:=e
     obtain ⟨⟨a,cap,vs,rfl,hcap,hd,h0,hpos⟩,_⟩:=r
     have hvl:=drels_length hd
     refine ⟨fun _=>rfl,by simp only [Row.toV,D.toVs_map,List.length_map]; exact hl,drels_scalar hd,vs.toArray,fun w1 hw1=>?_,by simpa [Row.toV] using drels_toV _ _ hd⟩
     rcases Nat.eq_zero_or_pos len with hz | hp
     · have:=h0 hz
       subst this
       have hv:vs=[]:=by simpa using hvl
       subst hv; subst hz
       cases a <;> simp [Builtin.firstCells,loadCells,loadCellsFrom]
     · obtain ⟨b,o,c,rfl,hfz,hc⟩:=hpos hp
       obtain ⟨⟨el,fz,hbk⟩,_⟩:=g.froz b c hfz
       have hext:(c.toList.drop o).take (len * size)=vs:=by
        apply List.ext_getElem?
        intro j
        rw [List.getElem?_take,List.getElem?_drop]
        by_cases hj:j < len * size
        · rw [if_pos hj]
          have hj2:j < vs.length:=by omega
          have:=hc j _ (List.getElem?_eq_getElem hj2)
          rw [List.getElem?_eq_getElem hj2,← this]; simp
        · rw [if_neg hj,List.getElem?_eq_none (by omega)]
       simp only [Builtin.firstCells]
       rcases Nat.eq_zero_or_pos (len * size) with q | q
       · have hn:vs=[]:=by simpa [hl,q] using hvl
         subst hn
         rw [q]; rfl
       · have hbound:o+len * size ≤ c.size:=by
          have:((c.toList.drop o).take (len * size)).length=len * size:=by rw [hext]; omega
          simp at this
          omega
         rw [run_loadCells (by rw [hw1]; exact hbk) hbound,hext]
   · cases e
 · cases e
end
end Go.Eng
namespace Go.Eng
open Go
section
variable {P:Program} {E:Env} {h:Tr O} {n:Nat} {w:World}
theorem zeroCells_size (z:Array Value) (k:Nat):(Builtin.zeroCells z k).size=k * z.size:=by simp [Builtin.zeroCells]
theorem roomy_eq {need size bytes:Nat} (q:roomy need size bytes=true):need * bytes ≤ 281474976710∧need * size ≤ 281474976710:=by
 simpa [roomy] using q
theorem run_storeCellsB {b o:Nat} {el:TypeId} {fz:Nat × Nat}:∀ (vs:List Value) (i:Nat) (w:World) (c:Array Value),w.heap[b]? =some (.cells c el fz)→
  (∀ j,o+i ≤ j→j < o+i+vs.length→¬ (fz.1 ≤ j∧j < fz.2))→(∀ v ∈ vs,v.oneCell'=true)→o+i+vs.length ≤ c.size→
  ∃ w',(storeCells ⟨b,o,none⟩ vs i).run P w= .ok () w'∧w'.heap[b]? =some (.cells (putCells c (o+i) vs) el fz)∧w'.heap.size=w.heap.size∧w'.tape=w.tape∧w'.os=w.os∧w'.output=w.output∧
    ∀ x,x ≠ b→w'.heap[x]? =w.heap[x]?
 | [],i,w,c,h,_,_,hn=>by
   refine ⟨w,rfl,?_,rfl,rfl,rfl,rfl,fun _ _=>rfl⟩
   rw [h]
   have:putCells c (o+i) []=c:=by simp [putCells]
   rw [this]
 | v :: vs,i,w,c,h,hf,hv,hn=>by
   simp only [List.length_cons] at hn hf
   have hlt:o+i < c.size:=by omega
   have hnf:w.frozen? ⟨b,o+i,none⟩=false:=by
    have:=hf (o+i) (Nat.le_refl _) (by omega)
    simp only [World.frozen?,h]
    simpa using this
   let w1:=w.setCell ⟨b,o+i,none⟩ v
   have hw1:w1.heap[b]? =some (.cells (c.setIfInBounds (o+i) v) el fz):=by
    simp [w1,World.setCell,Array.getElem?_modify,h]
   obtain ⟨w',e1,e2,e3,e4,e5,e6,e7⟩:=run_storeCellsB (o:=o) vs (i+1) w1 (c.setIfInBounds (o+i) v) hw1 (fun j h1 h2=>hf j (by omega) (by omega)) (fun v hv'=>hv v (by simp [hv'])) (by simp only [Array.size_setIfInBounds]; omega)
   refine ⟨w',?_,?_,by rw [e3]; simp [w1],by rw [e4]; rfl,by rw [e5]; rfl,by rw [e6]; rfl,?_⟩
   · simp only [storeCells,Sem.run_bind]
     rw [run_store P w _ v .plain (hv v (by simp)),Addr.add_none,cell_of_heap h,Array.getElem?_eq_getElem hlt]
     simp only [hnf,Bool.false_eq_true,if_false,Result.andThen_ok]
     exact e1
   · rw [e2]
     have:o+(i+1)=o+i+1:=by omega
     rw [this,putCells_cons (by omega)]
   · intro x hx
     rw [e7 x hx]
     simp [w1,World.setCell,Array.getElem?_modify,Ne.symm hx]
theorem bytesOfV_rel:∀ {l:List V} {t:List UInt8},bytesOfV l=some t→∃ xs:List Int,l=xs.map (.int .u8)∧strI xs=t
 | [],t,h=>by simp only [bytesOfV,Option.some.injEq] at h; subst h; exact ⟨[],rfl,rfl⟩
 | v :: r,t,h=>by
   unfold bytesOfV at h
   split at h
   · rename_i q; cases q
   · rename_i x r' q
     cases q
     split at h
     · rename_i l hl
       simp only [Option.some.injEq] at h; subst h
       obtain ⟨xs,h1,h2⟩:=bytesOfV_rel hl
       exact ⟨x :: xs,by rw [h1]; rfl,by rw [← h2]; rfl⟩
     · cases h
   · cases h
theorem rowBytes_rel {r:Row} {t:List UInt8} (h:rowBytes r=some t):∃ xs:List Int,r.toV=xs.map (.int .u8)∧strI xs=t:=by
 unfold rowBytes at h
 split at h
 · rename_i ks; cases h; exact ⟨ks,rfl,rfl⟩
 · exact bytesOfV_rel h
 · cases h
theorem ints_vals {xs:List Int} {l:List Value} (r:vrels E (xs.map (.int .u8)) l):l=xs.map (.int .u8):=by
 induction xs generalizing l with
 | nil=>exact r
 | cons x xs ih=>
   obtain ⟨y,ys,r0,rs,rfl⟩:=r
   simp only [vrel] at r0; subst r0
   rw [ih rs]; rfl
theorem strI_bytesI:∀ t:List UInt8,strI (bytesI t)=t
 | []=>rfl
 | b :: r=>by
   have ih:=strI_bytesI r
   simp only [strI,bytesI,List.map_cons,List.map_map] at ih ⊢
   rw [ih]; simp
theorem strI_len (xs:List Int):(strI xs).length=xs.length:=by simp [strI]
theorem run_append_grow' {st xt el:TypeId} {ty:TypeId} {xd:TypeDesc} {i:TypeInfo} {z':Value} (hu:P.underlying st=some (.slice el)) (hx:P.underlying xt=some xd) (hxd:(∃ y,xd= .slice y) ∨ xd= .string)
  (hi:P.info? el=some i) (hz:i.zero=some z') {base:Option Addr} {sLen sCap k:Nat} {x':Value} {old new:Array Value}
  (hlen:∀ w1:World,(Builtin.lenOf x').run P w1= .ok k w1) (hold:∀ w1:World,w1.heap=w.heap→(Builtin.firstCells i.size sLen (.slice base sLen sCap)).run P w1= .ok old w1)
  (hnew:∀ w1:World,w1.heap=w.heap→(Builtin.firstCells i.size k x').run P w1= .ok new w1)
  (hcap:sCap < sLen+k) (hb:0 < i.bytes) (hroom:(sLen+k) * i.bytes ≤ 281474976710):
  (Builtin.append_ #[st,xt] ty #[.slice base sLen sCap,x']).run P w=
   .ok (.slice (some ⟨w.heap.size,0,none⟩) (sLen+k) (grownCap w (sLen+k) sCap el))
    (w.drew.alloc (.cells (old ++ new ++ Builtin.zeroCells z'.cells (grownCap w (sLen+k) sCap el - (sLen+k))) el)):=by
 have hfit:Builtin.nextslicecap (sLen+k) sCap * i.bytes ≤ 281474976710656:=growslice_fits hcap (by omega)
 have hno:¬ (sLen+k ≤ sCap):=by omega
 have hfit':¬ (281474976710656 < Builtin.nextslicecap (sLen+k) sCap * i.bytes):=by omega
 have hb0:¬ (i.bytes=0):=by omega
 have ho:=hold w.drew rfl
 have hn:=hnew w.drew rfl
 rcases hxd with ⟨y,rfl⟩ | rfl
 · simp [Builtin.append_,run_und hu,run_und hx,sizeOf,typeInfo,zeroValue,hi,hz,hlen,hno,hfit',hb0,Question.forced,newRow,grownCap,ho,hn]
 · simp [Builtin.append_,run_und hu,run_und hx,sizeOf,typeInfo,zeroValue,hi,hz,hlen,hno,hfit',hb0,Question.forced,newRow,grownCap,ho,hn]
theorem run_append_room {st xt el:TypeId} {ty:TypeId} {xd:TypeDesc} {i:TypeInfo} (hu:P.underlying st=some (.slice el)) (hx:P.underlying xt=some xd) (hxd:(∃ y,xd= .slice y) ∨ xd= .string)
  (hi:P.info? el=some i) {base:Option Addr} {sLen sCap k:Nat} {x':Value} {new:Array Value}
  (hlen:∀ w1:World,(Builtin.lenOf x').run P w1= .ok k w1) (hnew:(Builtin.firstCells i.size k x').run P w= .ok new w) (hcap:sLen+k ≤ sCap):
  (Builtin.append_ #[st,xt] ty #[.slice base sLen sCap,x']).run P w=
   ((match base with | some a=>storeCells (a.add (sLen * i.size)) new.toList | none=>pure ()).run P w).andThen fun _ w'=>.ok (.slice base (sLen+k) sCap) w':=by
 rcases hxd with ⟨y,rfl⟩ | rfl
 · cases base <;> simp [Builtin.append_,run_und hu,run_und hx,sizeOf,typeInfo,hi,hlen,hcap,hnew]
 · cases base <;> simp [Builtin.append_,run_und hu,run_und hx,sizeOf,typeInfo,hi,hlen,hcap,hnew]
theorem op_append {argTypes:Array TypeId} {ty:TypeId} {args:List V} {args':List Value} {r:R} (g:Good E h w) (hn:E.ι n=none) (ra:vrels E args args')
  (e:appendV P argTypes args h n=some r) (ha:argTypes.size=2):OpOk P E h n w (do pure (.value (← Builtin.append_ argTypes ty args'.toArray))) r:=by
 unfold appendV at e
 split at e
 · rename_i st xt s x h1 h2
   obtain ⟨s',_,rs,⟨x',_,rx,hnil,rfl⟩,rfl⟩:=ra
   simp only [vrels] at hnil; subst hnil
   have hat:argTypes=#[st,xt]:=by
    apply Array.ext
    · simpa using ha
    · intro i q1 q2
      have:i=0 ∨ i=1:=by simp at q2; omega
      rcases this with rfl | rfl
      · rw [Array.getElem?_eq_getElem q1] at h1; simpa using h1
      · rw [Array.getElem?_eq_getElem q1] at h2; simpa using h2
   subst hat
   split at e
   · rename_i el xd he hx
     split at e
     · rename_i i z hxd0 hi hz
       have hxd:(∃ y,xd= .slice y) ∨ xd= .string:=by
        unfold isSeqT at hxd0
        split at hxd0
        · exact .inl ⟨_,rfl⟩
        · exact .inr rfl
        · cases hxd0
       have hu:=elemT_eq he
       split at e
       · rename_i hq
         obtain ⟨q1,q2,q3⟩:=hq
         obtain ⟨z',hz1,hz2,hz3⟩:=info_zero (P:=P) (E:=E) (w:=w) hi hz
         have hzs:z'.cells.size=i.size:=by have:=vrels_length (vrel_cells hz3); simp at this; omega
         split at e
         · rename_i k new ht
           obtain ⟨t1,t2,tsc,new',t3,t4⟩:=tail_rel g rx ht
           have hnl:new'.size=k * i.size:=by have:=vrels_length t4; simp at this; omega
           split at e
           · rename_i hsc0
             have hsc:=Row.flat_toV hsc0 tsc
             split at e
             ·
              obtain ⟨_,hc0,rfl⟩:=rs
              split at e
              · simp only [Option.some.injEq] at e; subst e
                refine ok_same g (v':=.slice none 0 0) ?_ ⟨rfl,rfl,rfl⟩
                rw [Sem.run_bind,run_append_room hu hx hxd hi t1 (t3 w rfl) (by omega)]
                rfl
              · rename_i hk0
                have hk:0 < k:=by
                 cases k with
                 | zero=>exact absurd rfl hk0
                 | succ _=>omega
                split at e
                · rename_i hroom
                  cases ho:newObj h n (nilRow el x new) with
                  | none=>simp [ho] at e
                  | some p=>
                    obtain ⟨h',n'⟩:=p
                    simp only [ho,Option.some.injEq] at e; subst e
                    obtain ⟨r1,r2⟩:=roomy_eq hroom
                    have hrun:=run_append_grow' (w:=w) (ty:=ty) hu hx hxd hi hz1 (base:=none) (sLen:=0) (sCap:=0) (x':=x') (old:=#[]) t1 (fun _ _=>rfl) t3 (by omega) q2 (by simpa using r1)
                    simp only [Nat.zero_add] at hrun
                    have hcap:k ≤ grownCap w k 0 el:=by simp only [grownCap,Question.cut]; omega
                    have hsz:(#[] ++ new' ++ Builtin.zeroCells z'.cells (grownCap w k 0 el - k)).size=grownCap w k 0 el * i.size:=by
                     simp only [Array.size_append,zeroCells_size,hzs,hnl,Array.size_empty]
                     rw [Nat.zero_add,← Nat.add_mul]; congr 1; omega
                    have hcr:crel E 0 new.toV (#[] ++ new' ++ Builtin.zeroCells z'.cells (grownCap w k 0 el - k)):=by
                     intro j v q
                     obtain ⟨v',p1,p2⟩:=vrels_get t4 j v q
                     refine ⟨v',?_,p2⟩
                     have hj:j < new'.size:=by have:=(List.getElem?_eq_some_iff.1 p1).1; simpa using this
                     rw [Array.getElem?_append_left (by simp; omega)]
                     simpa using p1
                    have hvs:vrel (E.put n w.heap.size 0 (#[] ++ new' ++ Builtin.zeroCells z'.cells (grownCap w k 0 el - k)).size) (.slc (some (n,0)) k k i.size) (.slice (some ⟨w.heap.size,0,none⟩) k (grownCap w k 0 el)):=by
                     refine ⟨w.heap.size,0,0,grownCap w k 0 el,Env.put_same,fun _=>rfl,Nat.le_refl _,hcap,?_,rfl⟩
                     rw [hsz]; simp [Env.put]
                    have hr1:(do pure (.value (← Builtin.append_ #[st,xt] ty #[.slice none 0 0,x'])):Sem Next).run P w= .ok (.value (.slice (some ⟨w.heap.size,0,none⟩) k (grownCap w k 0 el))) (w.drew.alloc (.cells (#[] ++ new' ++ Builtin.zeroCells z'.cells (grownCap w k 0 el - k)) el)):=by
                     simp only [Sem.run_bind,hrun,Result.andThen_ok,Sem.run_pure]
                    unfold nilRow at ho
                    split at ho
                    · rename_i t
                      obtain ⟨htop,rfl,rfl⟩:=newObj_eq ho
                      simp only [tailCells] at ht
                      split at ht
                      case isFalse=>cases ht
                      rename_i hs1
                      simp only [Option.some.injEq,Prod.mk.injEq] at ht; obtain ⟨rfl,rfl⟩:=ht
                      have hcells:=crel_ints.1 hcr
                      have ua:=Upd.alloc (n:=n) (ob:=.cells (#[] ++ new' ++ Builtin.zeroCells z'.cells (grownCap w t.length 0 el - t.length)) el) (o:=.buf el false t) (w:=w.drew) (g.same rfl) hn htop (by
                       refine ⟨_,_,bytesI t,heap_alloc_new,rfl,by simp [Env.put,sizeOfObj],⟨.inl rfl,fun _=>rfl⟩,strI_bytesI t,fun j x hx=>?_⟩
                       have:=hcells j x hx
                       simpa using this)
                      exact ⟨_,_,_,.inl hr1,hvs,(Upd.drew g).trans ua,fun m' hm'=>Env.put_ne hm',.inr rfl⟩
                    · exact ok_newRowR (r:=new) (w1:=w.drew) (c:=#[] ++ new' ++ Builtin.zeroCells z'.cells (grownCap w k 0 el - k)) (el:=el) g hn tsc ho rfl rfl rfl rfl hr1 hcr hvs
                · cases e
             ·
              rename_i len cs _
              obtain ⟨⟨a,cap,vs,rfl,hcap,hd,hn0,hpos⟩,hfull⟩:=rs
              obtain ⟨_,hfull⟩:=hfull rfl
              simp only [Value.slice.injEq] at hfull
              obtain ⟨_,_,hq⟩:=hfull
              have hq:=hq.symm
              subst hq
              split at e
              · simp only [Option.some.injEq] at e; subst e
                refine ok_same g (v':=.slice a len len) ?_ ⟨⟨a,len,vs,rfl,hcap,hd,hn0,hpos⟩,fun _=>⟨a,rfl⟩⟩
                rw [Sem.run_bind,run_append_room hu hx hxd hi t1 (t3 w rfl) (by omega)]
                have hn0:new'.toList=[]:=by simp at t2; simpa [t2] using vrels_length t4
                rw [hn0]
                cases a <;> rfl
              · rename_i hk0
                have hk:0 < k:=by
                 cases k with
                 | zero=>exact absurd rfl hk0
                 | succ _=>omega
                split at e
                · rename_i hroom
                  obtain ⟨hroom,hl⟩:=hroom
                  cases ho:newObj h n ((Row.ds cs).app new).toO with
                  | none=>simp [ho] at e
                  | some p=>
                    obtain ⟨h',n'⟩:=p
                    simp only [ho,Option.some.injEq] at e; subst e
                    obtain ⟨r1,r2⟩:=roomy_eq hroom
                    obtain ⟨t1',_,_,old',t3',t4'⟩:=tail_rel (P:=P) (size:=i.size) (x:=.lst true len cs) (x':=.slice a len len) g ⟨⟨a,len,vs,rfl,hcap,hd,hn0,hpos⟩,fun _=>⟨a,rfl⟩⟩ (k:=len) (new:=.ds cs) (by simp only [tailCells,if_pos hl])
                    have hrun:=run_append_grow' (w:=w) (ty:=ty) hu hx hxd hi hz1 (base:=a) (sLen:=len) (sCap:=len) (x':=x') (old:=old') t1 t3' t3 (by omega) q2 r1
                    have hcap:len+k ≤ grownCap w (len+k) len el:=by simp only [grownCap,Question.cut]; omega
                    have hol:old'.size=len * i.size:=by have:=vrels_length t4'; simp [Row.toV,D.toVs_map,hl] at this; omega
                    have hsz:(old' ++ new' ++ Builtin.zeroCells z'.cells (grownCap w (len+k) len el - (len+k))).size=grownCap w (len+k) len el * i.size:=by
                     simp only [Array.size_append,zeroCells_size,hzs,hnl,hol]
                     rw [← Nat.add_mul,← Nat.add_mul]; congr 1; omega
                    refine ok_newRowR (r:=(Row.ds cs).app new) (w1:=w.drew) (c:=old' ++ new' ++ Builtin.zeroCells z'.cells (grownCap w (len+k) len el - (len+k))) (el:=el) (v':=.slice (some ⟨w.heap.size,0,none⟩) (len+k) (grownCap w (len+k) len el)) g hn (Row.app_sc (drels_scalar hd) tsc) ho rfl rfl rfl rfl ?_ ?_ ?_
                    · simp only [Sem.run_bind,hrun,Result.andThen_ok,Sem.run_pure]
                    · refine crel_wk (Row.app_wk _ _) ?_
                      intro j v q
                      have q':=vrels_append t4' t4
                      obtain ⟨v',p1,p2⟩:=vrels_get q' j v q
                      refine ⟨v',?_,p2⟩
                      have hj:=(List.getElem?_eq_some_iff.1 p1).1
                      rw [Array.getElem?_append_left (by simp at hj ⊢; omega)]
                      rw [← Array.getElem?_toList]; simpa using p1
                    · refine ⟨w.heap.size,0,0,grownCap w (len+k) len el,Env.put_same,fun _=>rfl,Nat.le_refl _,hcap,?_,rfl⟩
                      rw [hsz]; simp [Env.put]
                · cases e
             ·
              rename_i m o len cap esz _
              split at e
              · rename_i hq2
                obtain ⟨u1,u2,u3⟩:=hq2
                subst u1
                obtain ⟨b,sh,o',cap',hi',c1,c2,c3,c4,rfl⟩:=rs
                obtain ⟨r1,r2⟩:=roomy_eq u2
                split at e
                ·
                 rename_i bel fro s0 hm
                 split at e
                 case h_2=>cases e
                 rename_i t ht
                 split at e
                 case isFalse=>cases e
                 rename_i hcond
                 obtain ⟨⟨ho0,hcap0⟩,⟨hlen,hfull⟩,hsz1,hbel⟩:=hcond
                 obtain ⟨b',sh',hi2,c,fz,xs,hbk,hsh,hsz,⟨hfz,hunf⟩,hxs,hcell⟩:=g.rel m _ hm
                 rw [hi'] at hi2; cases hi2
                 subst hsh
                 have ho':o'=0:=by have:=c1 hcap0; omega
                 subst ho'
                 obtain ⟨ys,hy1,hy2⟩:=rowBytes_rel ht
                 rw [hy1] at t4
                 have hnv:=ints_vals t4
                 have hxl0:xs.length=s0.length:=by rw [← hxs,strI_len]
                 generalize hX:xs.take len=xs1
                 have hxl:xs1.length=len:=by rw [← hX,List.length_take]; omega
                 have hx1:∀ (j:Nat) (x:Int),xs1[j]? =some x→c[j]? =some (.int .u8 x):=fun j x hx=>by
                  rw [← hX,List.getElem?_take] at hx
                  split at hx
                  · exact hcell j x hx
                  · cases hx
                 have hyl:ys.length=k:=by have:=congrArg List.length hy1; simp at this; rw [← this,t2,hsz1]; omega
                 cases ho:newObj (h.set m none) n (.buf bel fro (s0.take len ++ t)) with
                 | none=>simp [ho] at e
                 | some p=>
                   obtain ⟨h',n'⟩:=p
                   simp only [ho,Option.some.injEq] at e; subst e
                   subst hbel
                   obtain ⟨htop,rfl,rfl⟩:=newObj_eq ho
                   have hstr:strI (xs1 ++ ys)=s0.take len ++ t:=by rw [← hX,← hxs,← hy2]; simp [strI,List.map_take]
                   have htl:(s0.take len ++ t).length=len+k:=by rw [← hstr,strI_len,List.length_append,hxl,hyl]
                   by_cases hroom:len+k ≤ cap'
                   ·
                    have hlast:0+(len+k) * i.size ≤ c.size:=by
                     have:(len+k) * i.size ≤ cap' * i.size:=Nat.mul_le_mul_right _ hroom
                     omega
                    rw [hsz1] at hlast c4
                    have hone:∀ v ∈ new'.toList,v.oneCell'=true:=by
                     intro v hv
                     rw [hnv] at hv
                     obtain ⟨x,_,rfl⟩:=List.mem_map.1 hv
                     rfl
                    have hnl2:new'.toList.length=k:=by rw [hnv,List.length_map,hyl]
                    obtain ⟨w',e1,e2,e3,e4,e5,e6,e7⟩:=run_storeCellsB (P:=P) (o:=len) new'.toList 0 w c hbk (fun j h1 h2 h3=>by
                     have hj:j < c.size:=by omega
                     cases fro with
                     | true=>
                       have:=hfull rfl
                       omega
                     | false=>have:=hunf rfl; omega) hone (by omega)
                    have hpl:len+new'.toList.length ≤ c.size:=by omega
                    have hu':=Upd.move (n:=n) (s':=0) (o:=.buf bel fro (s0.take len ++ t)) g u3 htop hn ⟨_,hm,rfl⟩ hi' e3 e4 e5 e6 e7 (by
                     refine ⟨_,fz,xs1 ++ ys,e2,rfl,by rw [Nat.add_zero,putCells_size hpl]; simp [Env.put,hsz],⟨?_,hunf⟩,hstr,fun j x hx=>?_⟩
                     · rw [htl]
                       cases fro with
                       | true=>have:=hfull rfl; omega
                       | false=>exact .inl (hunf rfl)
                     · rw [Nat.add_zero,putCells_get hpl]
                       by_cases hj:j < len
                       · rw [List.getElem?_append_left (by omega)] at hx
                         rw [if_neg (by omega)]
                         exact hx1 j x hx
                       · rw [List.getElem?_append_right (by omega),hxl] at hx
                         have hj2:j - len < ys.length:=(List.getElem?_eq_some_iff.1 hx).1
                         rw [if_pos (by omega),hnv,List.getElem?_map,hx]
                         rfl)
                    refine ⟨_,w',.slice (some ⟨b,0,none⟩) (len+k) cap',.inl ?_,?_,hu',fun m' hm'=>Env.put_ne hm',.inr rfl⟩
                    · rw [Sem.run_bind,run_append_room hu hx hxd hi t1 (t3 w rfl) hroom]
                      simp only [Addr.add_none,hsz1,Nat.mul_one,Nat.zero_add,e1,Result.andThen_ok,Sem.run_pure]
                    · refine ⟨b,0,0,cap',Env.put_same,fun _=>rfl,Nat.le_refl _,hroom,?_,rfl⟩
                      simpa [Env.put,hsz1] using c4
                   ·
                    have v1:0+len * i.size ≤ c.size:=by
                     have:len * i.size ≤ cap' * i.size:=Nat.mul_le_mul_right _ (by omega)
                     omega
                    have hold:(c.toList.drop 0).take (len * i.size)=xs1.map (Value.int .u8):=by
                     rw [hsz1,Nat.mul_one] at *
                     apply List.ext_getElem?
                     intro j
                     rw [List.getElem?_take,List.getElem?_map]
                     by_cases hj:j < len
                     · rw [if_pos hj,List.drop_zero]
                       have hj2:j < xs1.length:=by omega
                       rw [List.getElem?_eq_getElem hj2]
                       have:=hx1 j _ (List.getElem?_eq_getElem hj2)
                       simpa using this
                     · rw [if_neg hj,List.getElem?_eq_none (by omega)]; rfl
                    have hf:∀ w1:World,w1.heap=w.heap→(Builtin.firstCells i.size len (.slice (some ⟨b,0,none⟩) len cap')).run P w1= .ok ((c.toList.drop 0).take (len * i.size)).toArray w1:=fun w1 hw1=>by
                     simp only [Builtin.firstCells]
                     exact run_loadCells (by rw [hw1]; exact hbk) v1
                    have hrun:=run_append_grow' (w:=w) (ty:=ty) hu hx hxd hi hz1 t1 hf t3 (by omega) q2 r1
                    have hcap:len+k ≤ grownCap w (len+k) cap' bel:=by simp only [grownCap,Question.cut]; omega
                    have uf:=Upd.forget g u3
                    rw [hold] at hrun
                    have hlo:((xs1.map (Value.int .u8)).toArray).size=len:=by simp [hxl]
                    have hnl2:new'.size=k:=by rw [hnl,hsz1,Nat.mul_one]
                    generalize hC:((xs1.map (Value.int .u8)).toArray ++ new' ++ Builtin.zeroCells z'.cells (grownCap w (len+k) cap' bel - (len+k)))=C at hrun
                    have hCs:C.size=grownCap w (len+k) cap' bel * i.size:=by
                     rw [← hC,Array.size_append,Array.size_append,zeroCells_size,hzs,hnl2,hlo,hsz1,Nat.mul_one,Nat.mul_one]
                     omega
                    have ua:=Upd.alloc (n:=n) (ob:=.cells C bel) (o:=.buf bel fro (s0.take len ++ t)) (w:=w.drew) (uf.good.same rfl) hn htop (by
                     refine ⟨C,_,xs1 ++ ys,heap_alloc_new,rfl,by simp [Env.put,sizeOfObj],⟨.inl rfl,fun _=>rfl⟩,hstr,fun j x hx=>?_⟩
                     rw [← hC]
                     have hjl:j < (xs1 ++ ys).length:=(List.getElem?_eq_some_iff.1 hx).1
                     rw [List.length_append] at hjl
                     rw [Array.getElem?_append_left (by rw [Array.size_append,hlo,hnl2]; omega)]
                     by_cases hj:j < len
                     · rw [List.getElem?_append_left (by omega)] at hx
                       rw [Array.getElem?_append_left (by omega)]
                       simp [hx]
                     · rw [List.getElem?_append_right (by omega)] at hx
                       rw [Array.getElem?_append_right (by omega),hlo,← Array.getElem?_toList,hnv,List.getElem?_map,← hxl,hx]
                       rfl)
                    refine ⟨_,_,.slice (some ⟨w.heap.size,0,none⟩) (len+k) (grownCap w (len+k) cap' bel),.inl (by simp only [Sem.run_bind,hrun,Result.andThen_ok,Sem.run_pure]),?_,(uf.trans (Upd.drew uf.good)).trans ua,fun m' hm'=>Env.put_ne hm',.inr rfl⟩
                    refine ⟨w.heap.size,0,0,grownCap w (len+k) cap' bel,Env.put_same,fun _=>rfl,Nat.le_refl _,hcap,?_,rfl⟩
                    simp [Env.put,sizeOfObj,hCs]
                · rename_i ob _ hm
                  split at e
                  · rename_i rw0 hrow
                    obtain ⟨b',sh',hi2,q0⟩:=g.rel m _ hm
                    obtain ⟨⟨c,el',fz,hbk,hsz,hunf,hcr⟩,hrsc⟩:=orel_row hrow q0
                    rw [hi'] at hi2; cases hi2
                    split at e
                    · rename_i old hold
                      have holdr:old.sc∧o'+len * i.size ≤ c.size∧vrels E old.toV ((c.toList.drop o').take (len * i.size)):=by
                       have hb0:len * i.size ≤ cap' * i.size:=Nat.mul_le_mul_right _ (by omega)
                       refine ⟨?_,by omega,?_⟩
                       · split at hold
                         · simp only [Option.some.injEq] at hold; subst hold; trivial
                         · exact Row.cut_sc hold hrsc
                       split at hold
                       · rename_i hl0
                         obtain ⟨_,rfl⟩:=hl0
                         simp only [Option.some.injEq] at hold; subst hold; simp [vrels,Row.toV]
                       · rename_i hl0
                         rcases Nat.eq_zero_or_pos len with hlz | hl
                         · obtain ⟨_,hold2⟩:=cut_eq (Row.cut_toV hold)
                           rw [hold2,hlz]; simp [vrels]
                         obtain ⟨hle,hold2⟩:=cut_eq (Row.cut_toV hold)
                         rw [hold2]
                         have ho':o'=sh+o:=c1 (by omega)
                         subst ho'
                         exact crel_slice hcr hle (by omega)
                      obtain ⟨hosc,v1,v2⟩:=holdr
                      have hol:old.toV.length=len * i.size:=by have:=vrels_length v2; simp at this; omega
                      split at e
                      · rename_i hk0
                        obtain ⟨_,hk1⟩:=hk0
                        simp only [Option.some.injEq] at e; subst e
                        subst hk1
                        refine ok_same g (v':=.slice (some ⟨b,o',none⟩) len cap') ?_ ⟨b,sh,o',cap',hi',c1,c2,c3,c4,rfl⟩
                        have hn0:new'.toList=[]:=by simp at hnl; simp [hnl]
                        rw [Sem.run_bind,run_append_room hu hx hxd hi t1 (t3 w rfl) (by omega),hn0]
                        rfl
                      · rename_i hk0
                        cases ho:newObj (h.set m none) n (old.app new).toO with
                        | none=>simp [ho] at e
                        | some p=>
                          obtain ⟨h',n'⟩:=p
                          simp only [ho,Option.some.injEq] at e; subst e
                          obtain ⟨htop,rfl,rfl⟩:=newObj_eq ho
                          by_cases hroom:len+k ≤ cap'
                          ·
                           have hlast:o'+(len+k) * i.size ≤ c.size:=by
                            have:(len+k) * i.size ≤ cap' * i.size:=Nat.mul_le_mul_right _ hroom
                            omega
                           have hsum:(len+k) * i.size=len * i.size+k * i.size:=Nat.add_mul _ _ _
                           have hone:∀ v ∈ new'.toList,v.oneCell'=true:=by
                            intro v hv
                            obtain ⟨j,hj⟩:=List.getElem?_of_mem hv
                            have hlt:j < new.toV.length:=by rw [← vrels_length t4]; exact (List.getElem?_eq_some_iff.1 hj).1
                            obtain ⟨v',p1,p2⟩:=vrels_get t4 j new.toV[j] (List.getElem?_eq_getElem hlt)
                            rw [hj] at p1; cases p1
                            exact vrel_scalar p2 (by rw [List.all_eq_true] at hsc; exact hsc _ (List.getElem_mem hlt))
                           obtain ⟨w',e1,e2,e3,e4,e5,e6,e7⟩:=run_storeCells (P:=P) (o:=o'+len * i.size) new'.toList 0 w c hbk hunf hone (by simp; omega)
                           have hpl:o'+len * i.size+new'.toList.length ≤ c.size:=by simp; omega
                           have hu':=Upd.move (n:=n) (s':=o') (o:=(old.app new).toO) g u3 htop hn ⟨_,hm,row_wr hrow⟩ hi' e3 e4 e5 e6 e7 (by
                            have hle:E.le (E.put n b o' (E.β b)):=Env.le_put hn fun _ _ _ _ _=>rfl
                            refine orel_toO ⟨_,el',fz,e2,by rw [putCells_size (by simpa using hpl)]; simp [Env.put,hsz],by rw [putCells_size (by simpa using hpl)]; exact hunf,?_⟩ (Row.app_sc hosc tsc)
                            refine crel_wk (Row.app_wk _ _) ?_
                            refine crel_mono hle ?_
                            intro j v q
                            rw [putCells_get (by simpa using hpl)]
                            by_cases hj:j < len * i.size
                            · rw [List.getElem?_append_left (by omega)] at q
                              rw [if_neg (by omega)]
                              obtain ⟨v',p1,p2⟩:=vrels_get v2 j v q
                              refine ⟨v',?_,p2⟩
                              rw [List.getElem?_take,if_pos hj,List.getElem?_drop] at p1
                              simpa using p1
                            · rw [List.getElem?_append_right (by omega),hol] at q
                              have hj2:j - len * i.size < new.toV.length:=(List.getElem?_eq_some_iff.1 q).1
                              rw [if_pos (by simp; omega)]
                              obtain ⟨v',p1,p2⟩:=vrels_get t4 _ v q
                              refine ⟨v',?_,p2⟩
                              rw [← p1]; congr 1; omega)
                           refine ⟨_,w',.slice (some ⟨b,o',none⟩) (len+k) cap',.inl ?_,?_,hu',fun m' hm'=>Env.put_ne hm',.inr rfl⟩
                           · rw [Sem.run_bind,run_append_room hu hx hxd hi t1 (t3 w rfl) hroom]
                             simp only [Addr.add_none,e1,Result.andThen_ok,Sem.run_pure]
                           · refine ⟨b,o',o',cap',Env.put_same,fun _=>rfl,Nat.le_refl _,hroom,?_,rfl⟩
                             simpa [Env.put] using c4
                          ·
                           have hf:∀ w1:World,w1.heap=w.heap→(Builtin.firstCells i.size len (.slice (some ⟨b,o',none⟩) len cap')).run P w1= .ok ((c.toList.drop o').take (len * i.size)).toArray w1:=fun w1 hw1=>by
                            simp only [Builtin.firstCells]
                            exact run_loadCells (by rw [hw1]; exact hbk) v1
                           have hrun:=run_append_grow' (w:=w) (ty:=ty) hu hx hxd hi hz1 t1 hf t3 (by omega) q2 r1
                           have hcap:len+k ≤ grownCap w (len+k) cap' el:=by simp only [grownCap,Question.cut]; omega
                           have uf:=Upd.forget g u3
                           have hlo:((c.toList.drop o').take (len * i.size)).toArray.size=len * i.size:=by simp; omega
                           have hsz2:(((c.toList.drop o').take (len * i.size)).toArray ++ new' ++ Builtin.zeroCells z'.cells (grownCap w (len+k) cap' el - (len+k))).size=grownCap w (len+k) cap' el * i.size:=by
                            rw [Array.size_append,Array.size_append,zeroCells_size,hzs,hnl,hlo]
                            rw [← Nat.add_mul,← Nat.add_mul]; congr 1; omega
                           obtain ⟨E',w',v',p1,p2,p3,p4,p5⟩:=ok_newRowR (P:=P) (r:=old.app new) (s:=(do pure (.value (← Builtin.append_ #[st,xt] ty #[.slice (some ⟨b,o',none⟩) len cap',x'])):Sem Next))
                            (v:=.slc (some (n,0)) (len+k) (len+k) i.size) (w1:=w.drew) (c:=((c.toList.drop o').take (len * i.size)).toArray ++ new' ++ Builtin.zeroCells z'.cells (grownCap w (len+k) cap' el - (len+k))) (el:=el)
                            (v':=.slice (some ⟨w.heap.size,0,none⟩) (len+k) (grownCap w (len+k) cap' el)) uf.good hn (Row.app_sc hosc tsc) ho rfl rfl rfl rfl
                            (by simp only [Sem.run_bind,hrun,Result.andThen_ok,Sem.run_pure])
                            (by
                             refine crel_wk (Row.app_wk _ _) ?_
                             intro j v q
                             have q':=vrels_append v2 t4
                             obtain ⟨v',p1,p2⟩:=vrels_get q' j v q
                             refine ⟨v',?_,p2⟩
                             have hj:=(List.getElem?_eq_some_iff.1 p1).1
                             rw [Array.getElem?_append_left (by simp at hj ⊢; omega)]
                             rw [← Array.getElem?_toList]; simpa using p1)
                            (by
                             refine ⟨w.heap.size,0,0,grownCap w (len+k) cap' el,Env.put_same,fun _=>rfl,Nat.le_refl _,hcap,?_,rfl⟩
                             rw [hsz2]; simp [Env.put])
                           exact ⟨E',w',v',p1,p2,uf.trans p3,p4,p5⟩
                    · cases e
                  · cases e
                · cases e
              · cases e
             · cases e
           · cases e
         · cases e
       · cases e
     · cases e
   · cases e
 · cases e
end
end Go.Eng
namespace Go.Eng
open Go
theorem keyEqD_iff {kk:Option IntKind} {a b:D} (ha:keyKd kk a=true) (hb:keyKd kk b=true):keyEqD a b=true ↔ a=b:=by
 cases kk with
 | none=>
   cases a <;> simp only [keyKd,Bool.false_eq_true] at ha
   cases b <;> simp only [keyKd,Bool.false_eq_true] at hb
   rename_i s t
   simp only [keyEqD,beqB_eq,beq_iff_eq,D.str.injEq]
 | some k=>
   cases a <;> simp only [keyKd,Bool.false_eq_true,decide_eq_true_eq] at ha
   cases b <;> simp only [keyKd,Bool.false_eq_true,decide_eq_true_eq] at hb
   subst ha
   subst hb
   simp [keyEqD]
theorem sameNow_rel {φ:Nat→Option (Array Value)} {kd:TypeDesc} {kk:Option IntKind} {a b:D} {a' b':Value} (hd:descKd kd kk=true) (ha:keyKd kk a=true) (hb:keyKd kk b=true) (ra:drel φ a a') (rb:drel φ b b'):
  Instr.sameNow kd a' b'=some (keyEqD a b):=by
 cases kk with
 | none=>
   cases a <;> simp only [keyKd,Bool.false_eq_true] at ha
   cases b <;> simp only [keyKd,Bool.false_eq_true] at hb
   simp only [drel] at ra rb; subst ra; subst rb
   cases kd <;> simp only [descKd,Bool.false_eq_true] at hd
   simp only [Instr.sameNow,keyEqD]
   rw [bytes_beq]
 | some k=>
   cases a <;> simp only [keyKd,Bool.false_eq_true,decide_eq_true_eq] at ha
   cases b <;> simp only [keyKd,Bool.false_eq_true,decide_eq_true_eq] at hb
   subst ha
   subst hb
   simp only [drel] at ra rb; subst ra; subst rb
   cases kd <;> simp only [descKd,Bool.false_eq_true] at hd
   simp [Instr.sameNow,keyEqD]
   rfl
theorem findD_rel {φ:Nat→Option (Array Value)} {kd:TypeDesc} {kk:Option IntKind} {k:D} {k':Value} (hd:descKd kd kk=true) (hk:keyKd kk k=true) (rk:drel φ k k'):
  ∀ (l:List (D × D)) (es':List MapEntry) (i:Nat),mrels φ l es'→(∀ e ∈ l,keyKd kk e.1=true)→
  match lookD k l with
  | none=>Instr.findNow kd k' es' i=some none∧(∀ v,updD k v l=l ++ [(k,v)])∧delD k l=l∧k ∉ l.map (·.1)
  | some d=>∃ j e',i ≤ j∧es'[j - i]? =some e'∧drel φ d e'.val∧drel φ k e'.key∧Instr.findNow kd k' es' i=some (some (j,e'.val))∧l[j - i]? =some (k,d)∧(∀ v,updD k v l=l.set (j - i) (k,v))∧delD k l=l.eraseIdx (j - i)
 | [],es',i,r,_=>by
   simp only [mrels] at r; subst r
   simp only [lookD]
   exact ⟨rfl,fun _=>rfl,rfl,by simp⟩
 | x :: l,_,i,r,hl=>by
   obtain ⟨y,ys,r1,r2,rs,rfl⟩:=r
   have hx:=hl x (by simp)
   have hs:=sameNow_rel hd hk hx rk r1
   simp only [lookD]
   cases hq:keyEqD k x.1 with
   | true=>
     have e:=(keyEqD_iff hk hx).1 hq
     refine ⟨i,y,Nat.le_refl _,by simp,r2,by rw [e]; exact r1,?_,?_,fun v=>?_,?_⟩
     · simp only [Instr.findNow,hs,hq]
     · simp [e]
     · simp [updD,hq]
     · simp [delD,hq]
   | false=>
     have ih:=findD_rel hd hk rk l ys (i+1) rs fun e he=>hl e (by simp [he])
     simp only
     cases hL:lookD k l with
     | none=>
       rw [hL] at ih
       obtain ⟨i1,i2,i3,i4⟩:=ih
       refine ⟨?_,fun v=>?_,?_,?_⟩
       · simp only [Instr.findNow,hs,hq,i1]
       · simp [updD,hq,i2]
       · simp [delD,hq,i3]
       · intro h
         simp only [List.map_cons,List.mem_cons] at h
         rcases h with q | q
         · rw [(keyEqD_iff hk hx).2 q] at hq; cases hq
         · exact i4 q
     | some d=>
       rw [hL] at ih
       obtain ⟨j,e',j1,j2,j3,j4,j5,j6,j7,j8⟩:=ih
       have hj:j - i=(j - (i+1))+1:=by omega
       refine ⟨j,e',by omega,by rw [hj]; simpa using j2,j3,j4,?_,by rw [hj]; simpa using j6,fun v=>?_,?_⟩
       · simp only [Instr.findNow,hs,hq,j5]
       · rw [hj]; simp [updD,hq,j7]
       · rw [hj]; simp [delD,hq,j8]
theorem lookD_iff {kk:Option IntKind} {k d:D} (hk:keyKd kk k=true):∀ {l:List (D × D)},(∀ e ∈ l,keyKd kk e.1=true)→(l.map (·.1)).Nodup→(lookD k l=some d ↔ (k,d) ∈ l)
 | [],_,_=>by simp [lookD]
 | x :: l,hl,hn=>by
   have hx:=hl x (by simp)
   simp only [List.map_cons,List.nodup_cons] at hn
   simp only [lookD]
   cases hq:keyEqD k x.1 with
   | true=>
     have e:=(keyEqD_iff hk hx).1 hq
     simp only [Option.some.injEq,List.mem_cons]
     constructor
     · intro h; left; rw [e,← h]
     · rintro (h | h)
       · rw [← h]
       · exact absurd (List.mem_map.2 ⟨(k,d),h,e⟩) hn.1
   | false=>
     have e:k ≠ x.1:=fun h=>by rw [(keyEqD_iff hk hx).2 h] at hq; cases hq
     simp only [List.mem_cons]
     rw [lookD_iff hk (fun e he=>hl e (by simp [he])) hn.2]
     constructor
     · exact .inr
     · rintro (h | h)
       · exact absurd (by rw [← h]) e
       · exact h
theorem lookD_perm {kk:Option IntKind} {k:D} (hk:keyKd kk k=true) {l es:List (D × D)} (h:List.Perm l es) (hl:∀ e ∈ es,keyKd kk e.1=true) (hn:(es.map (·.1)).Nodup):lookD k l=lookD k es:=by
 have hl':∀ e ∈ l,keyKd kk e.1=true:=fun e he=>hl e (h.mem_iff.1 he)
 have hn':(l.map (·.1)).Nodup:=(h.map _).nodup_iff.2 hn
 apply Option.ext
 intro d
 rw [lookD_iff hk hl' hn',lookD_iff hk hl hn,h.mem_iff]
theorem updD_perm {kk:Option IntKind} {k v:D} (hk:keyKd kk k=true) {l es:List (D × D)} (h:List.Perm l es):(∀ e ∈ es,keyKd kk e.1=true)→(es.map (·.1)).Nodup→List.Perm (updD k v l) (updD k v es):=by
 induction h with
 | nil=>intro _ _; exact .refl _
 | cons x p ih=>
   intro hl hn
   simp only [updD]
   cases keyEqD k x.1 with
   | true=>exact .cons _ p
   | false=>exact .cons _ (ih (fun e he=>hl e (by simp [he])) (by simp at hn; exact hn.2))
 | swap x y l=>
   intro hl hn
   simp only [updD]
   have hx:=hl x (by simp)
   have hy:=hl y (by simp)
   cases hqx:keyEqD k x.1 with
   | true=>
     have ex:=(keyEqD_iff hk hx).1 hqx
     cases hqy:keyEqD k y.1 with
     | true=>
       have ey:=(keyEqD_iff hk hy).1 hqy
       simp [← ex,← ey] at hn
     | false=>exact .swap _ _ _
   | false=>
     cases hqy:keyEqD k y.1 with
     | true=>exact .swap _ _ _
     | false=>exact .swap _ _ _
 | trans p q ih1 ih2=>
   intro hl hn
   exact (ih1 (fun e he=>hl e (q.mem_iff.1 he)) ((q.map _).nodup_iff.2 hn)).trans (ih2 hl hn)
theorem delD_perm {kk:Option IntKind} {k:D} (hk:keyKd kk k=true) {l es:List (D × D)} (h:List.Perm l es):(∀ e ∈ es,keyKd kk e.1=true)→(es.map (·.1)).Nodup→List.Perm (delD k l) (delD k es):=by
 induction h with
 | nil=>intro _ _; exact .refl _
 | cons x p ih=>
   intro hl hn
   simp only [delD]
   cases keyEqD k x.1 with
   | true=>exact p
   | false=>exact .cons _ (ih (fun e he=>hl e (by simp [he])) (by simp at hn; exact hn.2))
 | swap x y l=>
   intro hl hn
   simp only [delD]
   have hx:=hl x (by simp)
   have hy:=hl y (by simp)
   cases hqx:keyEqD k x.1 with
   | true=>
     have ex:=(keyEqD_iff hk hx).1 hqx
     cases hqy:keyEqD k y.1 with
     | true=>
       have ey:=(keyEqD_iff hk hy).1 hqy
       simp [← ex,← ey] at hn
     | false=>exact .refl _
   | false=>
     cases hqy:keyEqD k y.1 with
     | true=>exact .refl _
     | false=>exact .swap _ _ _
 | trans p q ih1 ih2=>
   intro hl hn
   exact (ih1 (fun e he=>hl e (q.mem_iff.1 he)) ((q.map _).nodup_iff.2 hn)).trans (ih2 hl hn)
theorem mrels_set {φ:Nat→Option (Array Value)} {f:MapEntry→MapEntry} {x:D × D} (hf:∀ y,drel φ x.1 (f y).key∧drel φ x.2 (f y).val):∀ (l:List (D × D)) (es:List MapEntry) (i:Nat),mrels φ l es→mrels φ (l.set i x) (es.modify i f)
 | [],_,i,r=>by simp only [mrels] at r; subst r; simp [mrels]
 | a :: l,_,i,r=>by
   obtain ⟨y,ys,r1,r2,rs,rfl⟩:=r
   cases i with
   | zero=>exact ⟨f y,ys,(hf y).1,(hf y).2,rs,by simp⟩
   | succ i=>exact ⟨y,_,r1,r2,mrels_set hf l ys i rs,by simp⟩
theorem mrels_push {φ:Nat→Option (Array Value)}:∀ (l:List (D × D)) (es:List MapEntry) (x:D × D) (y:MapEntry),mrels φ l es→drel φ x.1 y.key→drel φ x.2 y.val→mrels φ (l ++ [x]) (es ++ [y])
 | [],_,x,y,r,a,b=>by simp only [mrels] at r; subst r; exact ⟨y,[],a,b,rfl,rfl⟩
 | z :: l,_,x,y,r,a,b=>by
   obtain ⟨y0,ys,r1,r2,rs,rfl⟩:=r
   exact ⟨y0,_,r1,r2,mrels_push l ys x y rs a b,rfl⟩
theorem mrels_erase {φ:Nat→Option (Array Value)}:∀ (l:List (D × D)) (es:List MapEntry) (i:Nat),mrels φ l es→mrels φ (l.eraseIdx i) (es.eraseIdx i)
 | [],_,i,r=>by simp only [mrels] at r; subst r; simp [mrels]
 | a :: l,_,i,r=>by
   obtain ⟨y,ys,r1,r2,rs,rfl⟩:=r
   cases i with
   | zero=>exact rs
   | succ i=>exact ⟨y,_,r1,r2,mrels_erase l ys i rs,rfl⟩
theorem mrels_length {φ:Nat→Option (Array Value)}:∀ {l:List (D × D)} {es:List MapEntry},mrels φ l es→es.length=l.length
 | [],_,r=>by simp only [mrels] at r; subst r; rfl
 | _ :: _,_,r=>by obtain ⟨y,ys,_,_,rs,rfl⟩:=r; simp [mrels_length rs]
open Classical in
theorem updD_keys {kk:Option IntKind} {k v:D} (hk:keyKd kk k=true):∀ (l:List (D × D)),(∀ e ∈ l,keyKd kk e.1=true)→(updD k v l).map (·.1)=if k ∈ l.map (·.1) then l.map (·.1) else l.map (·.1) ++ [k]
 | [],_=>by simp [updD]
 | x :: l,hl=>by
   have hx:=hl x (by simp)
   simp only [updD]
   cases hq:keyEqD k x.1 with
   | true=>
     have e:=(keyEqD_iff hk hx).1 hq
     simp [e]
   | false=>
     have e:k ≠ x.1:=fun h=>by rw [(keyEqD_iff hk hx).2 h] at hq; cases hq
     simp only [List.map_cons,updD_keys hk l fun e he=>hl e (by simp [he]),List.mem_cons,e,false_or]
     split <;> simp
theorem delD_sub {k:D}:∀ (l:List (D × D)),List.Sublist (delD k l) l
 | []=>.slnil
 | x :: l=>by
   simp only [delD]
   cases keyEqD k x.1 with
   | true=>exact List.sublist_cons_self _ _
   | false=>exact .cons_cons _ (delD_sub l)
open Classical in
theorem MapRel.upd {φ:Nat→Option (Array Value)} {kd:TypeDesc} {kk:Option IntKind} {es:List (D × D)} {es':Array MapEntry} {clock:Nat} {k v:D} {k' v':Value} (r:MapRel φ kk es es'.toList clock) (hd:descKd kd kk=true) (hk:keyKd kk k=true) (rk:drel φ k k') (rv:drel φ v v'):
  (Instr.findNow kd k' es'.toList 0=some none∧MapRel φ kk (updD k v es) (es'.push { key:=k',val:=v',born:=clock }).toList (clock+1)) ∨
  ∃ (j:Nat) (e':MapEntry),Instr.findNow kd k' es'.toList 0=some (some (j,e'.val))∧es'[j]? =some e'∧drel φ k e'.key∧MapRel φ kk (updD k v es) (es'.modify j fun e=>{ e with key:=k',val:=v' }).toList clock:=by
 obtain ⟨l,hp,hr⟩:=r.row
 have hl:∀ e ∈ l,keyKd kk e.1=true:=fun e he=>r.kind e (hp.mem_iff.1 he)
 have hup:=updD_perm (v:=v) hk hp r.kind r.keys
 have hkeys:((updD k v es).map (·.1)).Nodup:=by
  rw [updD_keys hk es r.kind]
  split
  · exact r.keys
  · rename_i h
    exact List.nodup_append.2 ⟨r.keys,by simp,fun a ha b hb=>by simp at hb; subst hb; intro q; subst q; exact h ha⟩
 have hkind:∀ e ∈ updD k v es,keyKd kk e.1=true:=by
  intro e he
  have:e.1 ∈ (updD k v es).map (·.1):=List.mem_map.2 ⟨e,he,rfl⟩
  rw [updD_keys hk es r.kind] at this
  have base:e.1 ∈ es.map (·.1)→keyKd kk e.1=true:=fun h=>by obtain ⟨x,hx,q⟩:=List.mem_map.1 h; rw [← q]; exact r.kind x hx
  split at this
  · exact base this
  · rcases List.mem_append.1 this with h | h
    · exact base h
    · simp at h; rw [h]; exact hk
 have hf:=findD_rel hd hk rk l es'.toList 0 hr hl
 cases hL:lookD k l with
 | none=>
   rw [hL] at hf
   obtain ⟨h1,h2,_,_⟩:=hf
   refine .inl ⟨h1,⟨⟨_,hup,?_⟩,hkeys,hkind,?_,?_⟩⟩
   · rw [h2,Array.toList_push]; exact mrels_push l es'.toList (k,v) _ hr rk rv
   · intro e he
     rw [Array.toList_push] at he
     rcases List.mem_append.1 he with q | q
     · have:=r.old e q; omega
     · simp at q; subst q; simp
   · rw [Array.toList_push,List.map_append]
     refine List.nodup_append.2 ⟨r.born,by simp,fun a ha b hb=>?_⟩
     simp at hb; subst hb
     obtain ⟨e,he,q⟩:=List.mem_map.1 ha
     have:=r.old e he
     omega
 | some d=>
   rw [hL] at hf
   obtain ⟨j,e',_,h2,h3,h4,h5,h6,h7,_⟩:=hf
   simp only [Nat.sub_zero] at h2 h6 h7
   have hborn:(es'.modify j fun e=>{ e with key:=k',val:=v' }).toList.map (·.born)=es'.toList.map (·.born):=by
    rw [Array.toList_modify]
    apply List.ext_getElem?
    intro i
    simp only [List.getElem?_map,List.getElem?_modify]
    by_cases hij:j=i
    · simp [hij]; cases es'.toList[i]? <;> rfl
    · simp [hij]
   refine .inr ⟨j,e',h5,by rw [← Array.getElem?_toList]; exact h2,h4,⟨⟨_,hup,?_⟩,hkeys,hkind,?_,?_⟩⟩
   · rw [h7,Array.toList_modify]
     exact mrels_set (f:=fun e=>{ e with key:=k',val:=v' }) (fun y=>⟨rk,rv⟩) l es'.toList j hr
   · intro e he
     have:e.born ∈ (es'.modify j fun e=>{ e with key:=k',val:=v' }).toList.map (·.born):=List.mem_map.2 ⟨e,he,rfl⟩
     rw [hborn] at this
     obtain ⟨e0,he0,q⟩:=List.mem_map.1 this
     rw [← q]; exact r.old e0 he0
   · rw [hborn]; exact r.born
theorem MapRel.del {φ:Nat→Option (Array Value)} {kd:TypeDesc} {kk:Option IntKind} {es:List (D × D)} {es':Array MapEntry} {clock:Nat} {k:D} {k':Value} (r:MapRel φ kk es es'.toList clock) (hd:descKd kd kk=true) (hk:keyKd kk k=true) (rk:drel φ k k'):
  (Instr.findNow kd k' es'.toList 0=some none∧MapRel φ kk (delD k es) es'.toList clock) ∨
  ∃ (j:Nat) (e':MapEntry),Instr.findNow kd k' es'.toList 0=some (some (j,e'.val))∧MapRel φ kk (delD k es) (es'.eraseIdxIfInBounds j).toList clock:=by
 obtain ⟨l,hp,hr⟩:=r.row
 have hl:∀ e ∈ l,keyKd kk e.1=true:=fun e he=>r.kind e (hp.mem_iff.1 he)
 have hup:=delD_perm hk hp r.kind r.keys
 have hsub:List.Sublist (delD k es) es:=delD_sub es
 have hkeys:((delD k es).map (·.1)).Nodup:=r.keys.sublist (hsub.map _)
 have hkind:∀ e ∈ delD k es,keyKd kk e.1=true:=fun e he=>r.kind e (hsub.mem he)
 have hf:=findD_rel hd hk rk l es'.toList 0 hr hl
 cases hL:lookD k l with
 | none=>
   rw [hL] at hf
   obtain ⟨h1,_,h3,_⟩:=hf
   exact .inl ⟨h1,⟨⟨l,by rw [h3] at hup; exact hup,hr⟩,hkeys,hkind,r.old,r.born⟩⟩
 | some d=>
   rw [hL] at hf
   obtain ⟨j,e',_,h2,_,_,h5,_,_,h8⟩:=hf
   simp only [Nat.sub_zero] at h2 h8
   have ht:(es'.eraseIdxIfInBounds j).toList=es'.toList.eraseIdx j:=Array.toList_eraseIdxIfInBounds
   refine .inr ⟨j,e',h5,⟨⟨_,hup,?_⟩,hkeys,hkind,?_,?_⟩⟩
   · rw [h8,ht]; exact mrels_erase l es'.toList j hr
   · intro e he; rw [ht] at he; exact r.old e ((List.eraseIdx_sublist _ _).mem he)
   · rw [ht]; exact r.born.sublist ((List.eraseIdx_sublist _ _).map _)
theorem MapRel.look {φ:Nat→Option (Array Value)} {kd:TypeDesc} {kk:Option IntKind} {es:List (D × D)} {es':Array MapEntry} {clock:Nat} {k:D} {k':Value} (r:MapRel φ kk es es'.toList clock) (hd:descKd kd kk=true) (hk:keyKd kk k=true) (rk:drel φ k k'):
  match lookD k es with
  | none=>Instr.findNow kd k' es'.toList 0=some none
  | some d=>∃ j v',Instr.findNow kd k' es'.toList 0=some (some (j,v'))∧drel φ d v':=by
 obtain ⟨l,hp,hr⟩:=r.row
 have hl:∀ e ∈ l,keyKd kk e.1=true:=fun e he=>r.kind e (hp.mem_iff.1 he)
 have hf:=findD_rel hd hk rk l es'.toList 0 hr hl
 rw [← lookD_perm hk hp r.kind r.keys]
 cases hL:lookD k l with
 | none=>rw [hL] at hf; exact hf.1
 | some d=>
   rw [hL] at hf
   obtain ⟨j,e',_,_,h3,_,h5,_⟩:=hf
   exact ⟨j,e'.val,h5,h3⟩
theorem MapRel.length {φ:Nat→Option (Array Value)} {kk:Option IntKind} {es:List (D × D)} {es':List MapEntry} {clock:Nat} (r:MapRel φ kk es es' clock):es'.length=es.length:=by
 obtain ⟨l,hp,hr⟩:=r.row
 rw [mrels_length hr,hp.length_eq]
theorem keyOf_rel {E:Env} {x:V} {d:D} {x':Value} (e:keyOf x=some d) (r:vrel E x x'):drel E.φ d x':=by
 unfold keyOf at e
 split at e <;> first | (cases e; exact r) | cases e
theorem keyOf_ok {x:V} {d:D} {kd:TypeDesc} {kk:Option IntKind} (e:keyOf x=some d) (hd:descKd kd kk=true) (hk:keyKd kk d=true):keyOk kd x=true:=by
 unfold keyOf at e
 split at e
 · cases e
   cases kk <;> simp only [keyKd,Bool.false_eq_true] at hk
   cases kd <;> simp only [descKd,Bool.false_eq_true] at hd
   rfl
 · cases e
   cases kk <;> simp only [keyKd,Bool.false_eq_true] at hk
   cases kd <;> simp only [descKd,Bool.false_eq_true] at hd
   rfl
 · cases e
end Go.Eng
namespace Go.Eng
open Go
section
variable {P:Program} {E:Env} {h:Tr O} {n:Nat} {w:World}
theorem heap_cells_getObj {b:Nat} {o:Obj} (hb:w.heap[b]? =some o) (hn:∀ c el fz,o ≠ .cells c el fz):(getObj b).run P w= .ok o w:=by
 simp only [getObj,Sem.run,hb]
theorem heap_setObj {b:Nat} {o o':Obj} (hb:w.heap[b]? =some o) (hn:∀ c el fz,o ≠ .cells c el fz):(setObj b o').run P w= .ok () { w with heap:=w.heap.setIfInBounds b o' }:=by
 simp only [setObj,Sem.run,hb]
theorem erels_length:∀ {xs:List (V × V × Nat)} {ys:List MapEntry},erels E xs ys→ys.length=xs.length
 | [],_,r=>by simp only [erels] at r; subst r; rfl
 | _ :: _,_,r=>by obtain ⟨y,ys,_,_,_,rs,rfl⟩:=r; simp [erels_length rs]
theorem map_get {m:Nat} {es:List (V × V × Nat)} {clock:Nat} (g:Good E h w) (hm:h.get m=some (.map es clock)):
  ∃ b es',E.ι m=some (b,0)∧w.heap[b]? =some (.map es' clock)∧erels E es es'.toList:=by
 obtain ⟨b,s,hi,hs,es',h1,h2⟩:=g.rel m _ hm
 subst hs
 exact ⟨b,es',hi,h1,h2⟩
theorem mapD_get {m:Nat} {kk:Option IntKind} {es:List (D × D)} (g:Good E h w) (hm:h.get m=some (.mapD kk es)):
  ∃ b es' clock,E.ι m=some (b,0)∧w.heap[b]? =some (.map es' clock)∧MapRel E.φ kk es es'.toList clock:=by
 obtain ⟨b,s,hi,hs,es',clock,h1,h2⟩:=g.rel m _ hm
 subst hs
 exact ⟨b,es',clock,hi,h1,h2⟩
theorem op_len {argTypes:Array TypeId} {ty:TypeId} {args:List V} {args':List Value} {v:V} (g:Good E h w) (ra:vrels E args args') (e:lenV P argTypes args h=some v):
  OpOk P E h n w (do pure (.value (← Builtin.len_ argTypes ty args'.toArray))) (.val v h n):=by
 unfold lenV at e
 split at e
 · rename_i t x h1
   obtain ⟨x',_,rx,hnil,rfl⟩:=ra
   simp only [vrels] at hnil; subst hnil
   split at e
   · rename_i s hu
     simp only [Option.some.injEq] at e; subst e
     simp only [vrel] at rx; subst rx
     refine ok_same g (v':=.int .i64 s.length) ?_ rfl
     have hsz:(⟨s.toArray⟩:ByteArray).size=s.length:=by show s.toArray.size=_; simp
     simp [Builtin.len_,h1,run_und hu,goInt,hsz]
   · rename_i _ k _ hu
     simp only [Option.some.injEq] at e; subst e
     refine ok_same g (v':=.int .i64 k) ?_ rfl
     simp [Builtin.len_,h1,run_und hu,goInt]
   · rename_i a len cap esz hu
     simp only [Option.some.injEq] at e; subst e
     refine ok_same g (v':=.int .i64 len) ?_ rfl
     cases a with
     | none=>obtain ⟨rfl,rfl,rfl⟩:=rx; simp [Builtin.len_,h1,run_und hu,goInt]
     | some a=>obtain ⟨_,_,_,_,_,_,_,_,_,rfl⟩:=rx; simp [Builtin.len_,h1,run_und hu,goInt]
   · rename_i f len cs hu
     simp only [Option.some.injEq] at e; subst e
     refine ok_same g (v':=.int .i64 len) ?_ rfl
     obtain ⟨⟨_,_,_,rfl,_⟩,_⟩:=rx
     simp [Builtin.len_,h1,run_und hu,goInt]
   · rename_i hu
     simp only [Option.some.injEq] at e; subst e
     simp only [vrel] at rx; subst rx
     refine ok_same g (v':=.int .i64 0) ?_ rfl
     simp [Builtin.len_,h1,run_und hu,goInt]
   · rename_i m hu
     split at e
     · rename_i es clock hm
       simp only [Option.some.injEq] at e; subst e
       obtain ⟨b,es',hi,hb,her⟩:=map_get g hm
       obtain ⟨b',hi',rfl⟩:=rx
       rw [hi] at hi'; cases hi'
       refine ok_same g (v':=.int .i64 es.length) ?_ rfl
       have hl:=erels_length her
       simp only [Array.length_toList] at hl
       simp [Builtin.len_,h1,run_und hu,goInt,heap_cells_getObj (P:=P) hb (by intro _ _ _ q; cases q),hl]
     · rename_i kk es hm
       simp only [Option.some.injEq] at e; subst e
       obtain ⟨b,es',clock,hi,hb,her⟩:=mapD_get g hm
       obtain ⟨b',hi',rfl⟩:=rx
       rw [hi] at hi'; cases hi'
       refine ok_same g (v':=.int .i64 es.length) ?_ rfl
       have hl:=her.length
       simp only [Array.length_toList] at hl
       simp [Builtin.len_,h1,run_und hu,goInt,heap_cells_getObj (P:=P) hb (by intro _ _ _ q; cases q),hl]
     · cases e
   · cases e
 · cases e
theorem maxV_rel:∀ (xs:List V) (x v:V) (x':Value) (xs':List Value),vrel E x x'→vrels E xs xs'→maxV x xs=some v→
  ∃ v',(xs'.foldlM Builtin.max2 x').run P w= .ok v' w∧vrel E v v'
 | [],x,v,x',xs',rx,rs,e=>by
   simp only [vrels] at rs; subst rs
   have:v=x:=by cases x <;> simp [maxV] at e <;> exact e.symm
   subst this
   exact ⟨x',rfl,rx⟩
 | y :: ys,x,v,x',_,rx,rs,e=>by
   obtain ⟨y',ys',ry,rys,rfl⟩:=rs
   cases x with
   | int k a=>cases y with
     | int j b=>
       simp only [maxV] at e
       simp only [vrel] at rx ry; subst rx; subst ry
       obtain ⟨v',h1,h2⟩:=maxV_rel ys (.int k (if b > a then b else a)) v (.int k (if b > a then b else a)) ys' rfl rys e
       refine ⟨v',?_,h2⟩
       simp only [List.foldlM_cons,Sem.run_bind,Builtin.max2,Sem.run_pure,Result.andThen_ok]
       exact h1
     | _=>simp [maxV] at e
   | _=>simp [maxV] at e
theorem minV_rel:∀ (xs:List V) (x v:V) (x':Value) (xs':List Value),vrel E x x'→vrels E xs xs'→minV x xs=some v→
  ∃ v',(xs'.foldlM Builtin.min2 x').run P w= .ok v' w∧vrel E v v'
 | [],x,v,x',xs',rx,rs,e=>by
   simp only [vrels] at rs; subst rs
   have:v=x:=by cases x <;> simp [minV] at e <;> exact e.symm
   subst this
   exact ⟨x',rfl,rx⟩
 | y :: ys,x,v,x',_,rx,rs,e=>by
   obtain ⟨y',ys',ry,rys,rfl⟩:=rs
   cases x with
   | int k a=>cases y with
     | int j b=>
       simp only [minV] at e
       simp only [vrel] at rx ry; subst rx; subst ry
       obtain ⟨v',h1,h2⟩:=minV_rel ys (.int k (if b < a then b else a)) v (.int k (if b < a then b else a)) ys' rfl rys e
       refine ⟨v',?_,h2⟩
       simp only [List.foldlM_cons,Sem.run_bind,Builtin.min2,Sem.run_pure,Result.andThen_ok]
       exact h1
     | _=>simp [minV] at e
   | _=>simp [minV] at e
theorem op_max {argTypes:Array TypeId} {ty:TypeId} {x v:V} {xs:List V} {args':List Value} (g:Good E h w) (ra:vrels E (x :: xs) args') (e:maxV x xs=some v):
  OpOk P E h n w (do pure (.value (← Builtin.max_ argTypes ty args'.toArray))) (.val v h n):=by
 obtain ⟨x',xs',rx,rxs,rfl⟩:=ra
 obtain ⟨v',h1,h2⟩:=maxV_rel (P:=P) (w:=w) xs x v x' xs' rx rxs e
 refine ok_same g (v':=v') ?_ h2
 simp only [Builtin.max_,Sem.run_bind,h1,Result.andThen_ok,Sem.run_pure]
theorem op_min {argTypes:Array TypeId} {ty:TypeId} {x v:V} {xs:List V} {args':List Value} (g:Good E h w) (ra:vrels E (x :: xs) args') (e:minV x xs=some v):
  OpOk P E h n w (do pure (.value (← Builtin.min_ argTypes ty args'.toArray))) (.val v h n):=by
 obtain ⟨x',xs',rx,rxs,rfl⟩:=ra
 obtain ⟨v',h1,h2⟩:=minV_rel (P:=P) (w:=w) xs x v x' xs' rx rxs e
 refine ok_same g (v':=v') ?_ h2
 simp only [Builtin.min_,Sem.run_bind,h1,Result.andThen_ok,Sem.run_pure]
theorem keyEq_rel {kd:TypeDesc} {a b:V} {a' b':Value} {r:Bool} (ra:vrel E a a') (rb:vrel E b b') (e:keyEq kd a b=some r):Instr.sameNow kd a' b'=some r:=by
 unfold keyEq at e
 split at e
 · simp only [vrel] at ra rb; subst ra; subst rb
   split at e
   · rename_i hk; simp only [Option.some.injEq] at e; subst e
     simp [Instr.sameNow,hk]
   · cases e
 · simp only [vrel] at ra rb; subst ra; subst rb
   simp only [Option.some.injEq] at e; subst e
   simp only [Instr.sameNow]
   rw [bytes_beq]
 · cases e
theorem findV_rel {kd:TypeDesc} {k:V} {k':Value} (rk:vrel E k k'):∀ (es:List (V × V × Nat)) (es':List MapEntry) (i:Nat) (r:Option (Nat × V × V × Nat)),erels E es es'→findV kd k es i=some r→
  match r with
  | none=>Instr.findNow kd k' es' i=some none
  | some (j,e)=>∃ e',i ≤ j∧es[j - i]? =some e∧es'[j - i]? =some e'∧keyEq kd k e.1=some true∧vrel E e.1 e'.key∧vrel E e.2.1 e'.val∧e'.born=e.2.2∧Instr.findNow kd k' es' i=some (some (j,e'.val))
 | [],es',i,r,rs,e=>by
   simp only [erels] at rs; subst rs
   simp only [findV,Option.some.injEq] at e; subst e
   simp [Instr.findNow]
 | x :: xs,_,i,r,rs,e=>by
   obtain ⟨y,ys,r1,r2,r3,rs,rfl⟩:=rs
   simp only [findV] at e
   cases hk:keyEq kd k x.1 with
   | none=>simp [hk] at e
   | some b=>
     have hs:=keyEq_rel rk r1 hk
     cases b with
     | true=>
       simp only [hk,Option.some.injEq] at e; subst e
       exact ⟨y,Nat.le_refl _,by simp,by simp,hk,r1,r2,r3,by simp [Instr.findNow,hs]⟩
     | false=>
       simp only [hk] at e
       have ih:=findV_rel rk xs ys (i+1) r rs e
       cases r with
       | none=>simp only at ih ⊢; simp [Instr.findNow,hs,ih]
       | some q=>
         obtain ⟨j,e0⟩:=q
         obtain ⟨e',a1,a2,a3,a4,a5,a6,a7,a8⟩:=ih
         have hj:j - i=(j - (i+1))+1:=by omega
         exact ⟨e',by omega,by rw [hj]; simpa using a2,by rw [hj]; simpa using a3,a4,a5,a6,a7,by simp [Instr.findNow,hs,a8]⟩
theorem run_findKey {kt:TypeId} {kd:TypeDesc} {k':Value} {es':List MapEntry} {r:Option (Nat × Value)} (hu:P.underlying kt=some kd) (e:Instr.findNow kd k' es' 0=some r):
  (Instr.findKey kt k' es').run P w= .ok r w:=by
 simp [Instr.findKey,run_und hu,e]
theorem run_checkKey' {kt:TypeId} {kd:TypeDesc} {k:V} {k':Value} {b:Bool} (d:Nat) (hu:P.underlying kt=some kd) (rk:vrel E k k') (e:keyOk kd k=true):(Instr.checkKey b (d+1) kt k').run P w= .ok () w:=by
 unfold keyOk at e
 split at e
 · simp only [vrel] at rk; subst rk
   simp only [Instr.checkKey,Sem.run_bind,run_und hu,Result.andThen_ok]; rfl
 · simp only [vrel] at rk; subst rk
   simp only [Instr.checkKey,Sem.run_bind,run_und hu,Result.andThen_ok]; rfl
 · cases e
theorem run_checkKey {kt:TypeId} {kd:TypeDesc} {k:V} {k':Value} {b:Bool} (hu:P.underlying kt=some kd) (rk:vrel E k k') (e:keyOk kd k=true):(Instr.checkKey b 10000 kt k').run P w= .ok () w:=
 run_checkKey' 9999 hu rk e
theorem op_lookup {t:TypeId} {x k v:V} {ok:Bool} {x' k':Value} (g:Good E h w) (rx:vrel E x x') (rk:vrel E k k') (e:lookupV P t h x k ok=some v):
  OpOk P E h n w (do pure (.value (← Instr.lookup t x' k' ok))) (.val v h n):=by
 unfold lookupV at e
 split at e
 · rename_i kt et hu
   split at e
   · rename_i kd z hk hz
     split at e
     · rename_i r kk es hm
       split at e
       · rename_i kq hkq
         split at e
         · rename_i hb
           simp only [Bool.and_eq_true] at hb
           simp only [Option.some.injEq] at e
           obtain ⟨z',hz1,hz2,_⟩:=run_zero (w:=w) E hz
           obtain ⟨b,es',clock,hi,hbk,hr⟩:=mapD_get g hm
           obtain ⟨b',hi',rfl⟩:=rx
           rw [hi] at hi'; cases hi'
           have hgo:=heap_cells_getObj (P:=P) hbk (by intro _ _ _ q; cases q)
           have hko:=keyOf_ok hkq hb.1 hb.2
           have hck:=run_checkKey (P:=P) (w:=w) (b:=es'.isEmpty) hk rk hko
           have hlk:=hr.look hb.1 hb.2 (keyOf_rel hkq rk)
           cases hL:lookD kq es with
           | none=>
             rw [hL] at hlk e
             have hrun:(Instr.lookup t (.map (some b)) k' ok).run P w= .ok (if ok then .tuple #[z',.bool false] else z') w:=by
              simp only [Instr.lookup,Sem.run_bind,run_und hu,Result.andThen_ok,Sem.run_pure,hgo,hck,run_findKey hk hlk,hz1]
             subst e
             refine ok_same g (v':=if ok then .tuple #[z',.bool false] else z') (by rw [Sem.run_bind,hrun]; rfl) ?_
             cases ok with
             | true=>exact ⟨[z',.bool false],⟨z',_,hz2,⟨.bool false,[],rfl,rfl,rfl⟩,rfl⟩,rfl⟩
             | false=>exact hz2
           | some d=>
             rw [hL] at hlk e
             obtain ⟨j,v',q1,q2⟩:=hlk
             have hrun:(Instr.lookup t (.map (some b)) k' ok).run P w= .ok (if ok then .tuple #[v',.bool true] else v') w:=by
              simp only [Instr.lookup,Sem.run_bind,run_und hu,Result.andThen_ok,Sem.run_pure,hgo,hck,run_findKey hk q1]
             subst e
             refine ok_same g (v':=if ok then .tuple #[v',.bool true] else v') (by rw [Sem.run_bind,hrun]; rfl) ?_
             cases ok with
             | true=>exact ⟨[v',.bool true],⟨v',_,drel_toV d v' q2,⟨.bool true,[],rfl,rfl,rfl⟩,rfl⟩,rfl⟩
             | false=>exact drel_toV d v' q2
         · cases e
       · cases e
     rename_i x _ _ hnd
     split at e
     · rename_i hko
       obtain ⟨z',hz1,hz2,_⟩:=run_zero (w:=w) E hz
       have main:∀ (es:List (V × V × Nat)) (es':Array MapEntry),erels E es es'.toList→(match findV kd k es 0 with
         | some (some (_,_,v,_))=>some (if ok then V.tup [v,.bool true] else v)
         | some none=>some (if ok then V.tup [z,.bool false] else z)
         | none=>none)=some v→
         ((Instr.findKey kt k' es'.toList).run P w= .ok none w∧vrel E v (if ok then .tuple #[z',.bool false] else z')) ∨
         ∃ j v',(Instr.findKey kt k' es'.toList).run P w= .ok (some (j,v')) w∧vrel E v (if ok then .tuple #[v',.bool true] else v'):=by
        intro es es' her e
        cases hf:findV kd k es 0 with
        | none=>simp [hf] at e
        | some r=>
          have hr:=findV_rel rk es es'.toList 0 r her hf
          cases r with
          | none=>
            simp only [hf,Option.some.injEq] at e; subst e
            refine .inl ⟨run_findKey hk hr,?_⟩
            cases ok with
            | true=>exact ⟨[z',.bool false],⟨z',_,hz2,⟨.bool false,[],rfl,rfl,rfl⟩,rfl⟩,rfl⟩
            | false=>exact hz2
          | some q=>
            obtain ⟨j,k0,v0,n0⟩:=q
            simp only [hf,Option.some.injEq] at e; subst e
            obtain ⟨e',_,_,_,_,_,a6,_,a8⟩:=hr
            refine .inr ⟨j,e'.val,run_findKey hk a8,?_⟩
            cases ok with
            | true=>exact ⟨[e'.val,.bool true],⟨e'.val,_,a6,⟨.bool true,[],rfl,rfl,rfl⟩,rfl⟩,rfl⟩
            | false=>exact a6
       cases x with
       | map m=>
         cases m with
         | none=>
           simp only at e
           simp only [vrel] at rx; subst rx
           rcases main [] #[] (by simp [erels]) e with ⟨m1,m3⟩ | ⟨j,v',m1,m3⟩
           · refine ok_same g ?_ m3
             simp only [Instr.lookup,Sem.run_bind,run_und hu,Result.andThen_ok,Sem.run_pure,run_checkKey (b:=(#[]:Array MapEntry).isEmpty) hk rk hko,m1,hz1]
           · refine ok_same g ?_ m3
             simp only [Instr.lookup,Sem.run_bind,run_und hu,Result.andThen_ok,Sem.run_pure,run_checkKey (b:=(#[]:Array MapEntry).isEmpty) hk rk hko,m1]
         | some m=>
           simp only at e
           cases hm:h.get m with
           | none=>simp [hm] at e
           | some o=>
             cases o with
             | map es clock=>
               simp only [hm] at e
               obtain ⟨b,es',hi,hb,her⟩:=map_get g hm
               obtain ⟨b',hi',rfl⟩:=rx
               rw [hi] at hi'; cases hi'
               have hgo:=heap_cells_getObj (P:=P) hb (by intro _ _ _ q; cases q)
               rcases main es es' her e with ⟨m1,m3⟩ | ⟨j,v',m1,m3⟩
               · refine ok_same g ?_ m3
                 simp only [Instr.lookup,Sem.run_bind,run_und hu,Result.andThen_ok,Sem.run_pure,hgo,run_checkKey (b:=es'.isEmpty) hk rk hko,m1,hz1]
               · refine ok_same g ?_ m3
                 simp only [Instr.lookup,Sem.run_bind,run_und hu,Result.andThen_ok,Sem.run_pure,hgo,run_checkKey (b:=es'.isEmpty) hk rk hko,m1]
             | _=>simp [hm] at e
       | _=>simp at e
     · cases e
   · cases e
 · cases e
theorem erels_setNth {f:V × V × Nat→V × V × Nat} {f':MapEntry→MapEntry} (hf:∀ x y,vrel E x.1 y.key→vrel E x.2.1 y.val→y.born=x.2.2→vrel E (f x).1 (f' y).key∧vrel E (f x).2.1 (f' y).val∧(f' y).born=(f x).2.2):
  ∀ (xs:List (V × V × Nat)) (ys:List MapEntry) (i:Nat),erels E xs ys→erels E (setNth xs i f) (ys.modify i f')
 | [],_,i,r=>by simp only [erels] at r; subst r; simp [setNth,erels]
 | x :: xs,_,i,r=>by
   obtain ⟨y,ys,a,b,c,rs,rfl⟩:=r
   cases i with
   | zero=>obtain ⟨p,q,s⟩:=hf x y a b c; exact ⟨f' y,ys,p,q,s,rs,by simp⟩
   | succ i=>exact ⟨y,_,a,b,c,erels_setNth hf xs ys i rs,by simp⟩
theorem erels_push:∀ (xs:List (V × V × Nat)) (ys:List MapEntry) (x:V × V × Nat) (y:MapEntry),erels E xs ys→vrel E x.1 y.key→vrel E x.2.1 y.val→y.born=x.2.2→erels E (xs ++ [x]) (ys ++ [y])
 | [],_,x,y,r,a,b,c=>by simp only [erels] at r; subst r; exact ⟨y,[],a,b,c,rfl,rfl⟩
 | z :: zs,_,x,y,r,a,b,c=>by
   obtain ⟨y0,ys,a0,b0,c0,rs,rfl⟩:=r
   exact ⟨y0,_,a0,b0,c0,erels_push zs ys x y rs a b c,rfl⟩
theorem map_upd {m b clock clock':Nat} {es es2:List (V × V × Nat)} {es' es2':Array MapEntry} (g:Good E h w) (htop:m < top) (hm:h.get m=some (.map es clock)) (hi:E.ι m=some (b,0)) (hb:w.heap[b]? =some (.map es' clock))
  (her:erels E es2 es2'.toList):Upd E h w E (h.set m (some (.map es2 clock'))) { w with heap:=w.heap.setIfInBounds b (.map es2' clock') }:=by
 have hlt:b < w.heap.size:=(Array.getElem?_eq_some_iff.1 hb).1
 refine Upd.write g htop ⟨_,hm,rfl⟩ hi (by simp) rfl rfl rfl (fun x hx=>?_) ⟨rfl,es2',?_,her⟩
 · simp [Ne.symm hx]
 · simp [hlt]
theorem mapD_upd {m b clock clock':Nat} {kk:Option IntKind} {es es2:List (D × D)} {es' es2':Array MapEntry} (g:Good E h w) (htop:m < top) (hm:h.get m=some (.mapD kk es)) (hi:E.ι m=some (b,0)) (hb:w.heap[b]? =some (.map es' clock))
  (her:MapRel E.φ kk es2 es2'.toList clock'):Upd E h w E (h.set m (some (.mapD kk es2))) { w with heap:=w.heap.setIfInBounds b (.map es2' clock') }:=by
 have hlt:b < w.heap.size:=(Array.getElem?_eq_some_iff.1 hb).1
 refine Upd.write g htop ⟨_,hm,rfl⟩ hi (by simp) rfl rfl rfl (fun x hx=>?_) ⟨rfl,es2',clock',?_,her⟩
 · simp [Ne.symm hx]
 · simp [hlt]
theorem keyStays {kd:TypeDesc} {a b:V} {a' b':Value} (ra:vrel E a a') (rb:vrel E b b') (e:keyEq kd a b=some true):(Instr.keyThatStays b' a').run P w= .ok a' w:=by
 have:Instr.sameBits 10000 b' a'=true:=by
  unfold keyEq at e
  split at e
  · simp only [vrel] at ra rb; subst ra; subst rb
    split at e
    · rename_i hk; simp only [Option.some.injEq,beq_iff_eq] at e
      simp [Instr.sameBits,hk,e]
    · cases e
  · simp only [vrel] at ra rb; subst ra; subst rb
    simp only [Option.some.injEq] at e
    simp only [Instr.sameBits]
    rw [beqB_eq] at e
    have hab:_=_:=eq_of_beq e
    subst hab
    rw [bytes_beq,beqB_eq]; simp
  · cases e
 simp [Instr.keyThatStays,this]
theorem op_mapUpdate {t:TypeId} {m k v:V} {m' k' v':Value} {r:R} (g:Good E h w) (rm:vrel E m m') (rk:vrel E k k') (rv:vrel E v v') (e:mapUpdateV P t h n m k v=some r):
  OpOk P E h n w (do Instr.mapUpdate t m' k' v'; pure .skip) r:=by
 unfold mapUpdateV at e
 split at e
 · rename_i kt et m hu
   split at e
   · rename_i kd es clock hk hm
     obtain ⟨b,es',hi,hb,her⟩:=map_get g hm
     obtain ⟨b',hi',rfl⟩:=rm
     rw [hi] at hi'; cases hi'
     have hgo:=heap_cells_getObj (P:=P) hb (by intro _ _ _ q; cases q)
     have hset:∀ o',(setObj b o').run P w= .ok () { w with heap:=w.heap.setIfInBounds b o' }:=fun o'=>heap_setObj (P:=P) hb (by intro _ _ _ q; cases q)
     split at e
     · rename_i hq
       obtain ⟨hko,htop⟩:=hq
       have hck:=run_checkKey (P:=P) (w:=w) (b:=false) hk rk hko
       cases hf:findV kd k es 0 with
       | none=>simp [hf] at e
       | some q=>
         have hr:=findV_rel rk es es'.toList 0 q her hf
         cases q with
         | none=>
           simp only [hf,Option.some.injEq] at e; subst e
           have hu':=map_upd (clock':=clock+1) (es2:=es ++ [(k,v,clock)]) (es2':=es'.push { key:=k',val:=v',born:=clock }) g htop hm hi hb (by
            rw [Array.toList_push]; exact erels_push es es'.toList (k,v,clock) { key:=k',val:=v',born:=clock } her rk rv rfl)
           refine ⟨E,_,undef,.inr ⟨?_,rfl⟩,⟨[],rfl,rfl⟩,hu',fun _ _=>rfl,.inl ⟨rfl,rfl⟩⟩
           simp only [Instr.mapUpdate,Sem.run_bind,run_und hu,Result.andThen_ok,hgo,hck,run_findKey hk hr,hset,Sem.run_pure]
         | some q=>
           obtain ⟨j,e0⟩:=q
           simp only [hf,Option.some.injEq] at e; subst e
           obtain ⟨e',a1,a2,a3,a4,a5,a6,a7,a8⟩:=hr
           simp only [Nat.sub_zero] at a2 a3
           have hkey:((es'[j]?).map (·.key)).getD k'=e'.key:=by rw [← Array.getElem?_toList,a3]; rfl
           have hst:=keyStays (P:=P) (w:=w) rk a5 a4
           have hu':=map_upd (clock':=clock) (es2:=setNth es j fun e=>(k,v,e.2.2)) (es2':=es'.modify j fun e=>{ e with key:=k',val:=v' }) g htop hm hi hb (by
            rw [Array.toList_modify]
            exact erels_setNth (f:=fun e=>(k,v,e.2.2)) (f':=fun e=>{ e with key:=k',val:=v' }) (fun x y p q s=>⟨rk,rv,s⟩) es es'.toList j her)
           refine ⟨E,_,undef,.inr ⟨?_,rfl⟩,⟨[],rfl,rfl⟩,hu',fun _ _=>rfl,.inl ⟨rfl,rfl⟩⟩
           simp only [Instr.mapUpdate,Sem.run_bind,run_und hu,Result.andThen_ok,hgo,hck,run_findKey hk a8,hkey,hst,hset,Sem.run_pure]
     · cases e
   · rename_i kd kk es hk hm
     split at e
     · rename_i kq vq hkq hvq
       split at e
       · rename_i hb
         simp only [Bool.and_eq_true,decide_eq_true_eq] at hb
         obtain ⟨hd,hkk,htop⟩:=hb
         simp only [Option.some.injEq] at e; subst e
         obtain ⟨b,es',clock,hi,hbk,hr⟩:=mapD_get g hm
         obtain ⟨b',hi',rfl⟩:=rm
         rw [hi] at hi'; cases hi'
         have hgo:=heap_cells_getObj (P:=P) hbk (by intro _ _ _ q; cases q)
         have hset:∀ o',(setObj b o').run P w= .ok () { w with heap:=w.heap.setIfInBounds b o' }:=fun o'=>heap_setObj (P:=P) hbk (by intro _ _ _ q; cases q)
         have hko:=keyOf_ok hkq hd hkk
         have hck:=run_checkKey (P:=P) (w:=w) (b:=false) hk rk hko
         rcases hr.upd hd hkk (keyOf_rel hkq rk) (toD_rel hvq rv).1 with ⟨q1,q2⟩ | ⟨j,e',q1,q2,q3,q4⟩
         · refine ⟨E,_,undef,.inr ⟨?_,rfl⟩,⟨[],rfl,rfl⟩,mapD_upd g htop hm hi hbk q2,fun _ _=>rfl,.inl ⟨rfl,rfl⟩⟩
           simp only [Instr.mapUpdate,Sem.run_bind,run_und hu,Result.andThen_ok,hgo,hck,run_findKey hk q1,hset,Sem.run_pure]
         · have hkey:((es'[j]?).map (·.key)).getD k'=e'.key:=by rw [q2]; rfl
           have hst:(Instr.keyThatStays e'.key k').run P w= .ok k' w:=by
            have r1:=keyOf_rel hkq rk
            have:e'.key=k':=by
             cases kq <;> first | (simp only [drel] at q3 r1; rw [q3,r1]) | (unfold keyOf at hkq; split at hkq <;> cases hkq)
            rw [this]
            refine keyStays rk rk (kd:=kd) ?_
            have hself:=(keyEqD_iff hkk hkk).2 rfl
            unfold keyOf at hkq
            split at hkq <;> first | cases hkq | skip
            · cases kd <;> cases kk <;> simp only [descKd,keyKd,Bool.false_eq_true] at hd hkk
              simp [keyEq]
            · cases kd <;> cases kk <;> simp only [descKd,keyKd,Bool.false_eq_true] at hd hkk
              simp only [keyEq,beqB_eq]; simp
           refine ⟨E,_,undef,.inr ⟨?_,rfl⟩,⟨[],rfl,rfl⟩,mapD_upd g htop hm hi hbk q4,fun _ _=>rfl,.inl ⟨rfl,rfl⟩⟩
           simp only [Instr.mapUpdate,Sem.run_bind,run_und hu,Result.andThen_ok,hgo,hck,run_findKey hk q1,hkey,hst,hset,Sem.run_pure]
       · cases e
     · cases e
   · cases e
 · cases e
theorem op_delete {argTypes:Array TypeId} {ty:TypeId} {args:List V} {args':List Value} {r:R} (g:Good E h w) (ra:vrels E args args') (ha:argTypes.size=2) (e:deleteV P argTypes args h n=some r):
  OpOk P E h n w (do pure (.value (← Builtin.delete_ argTypes ty args'.toArray))) r:=by
 unfold deleteV at e
 split at e
 · rename_i t m k h1
   obtain ⟨m',_,rm,⟨k',_,rk,hnil,rfl⟩,rfl⟩:=ra
   simp only [vrels] at hnil; subst hnil
   split at e
   · rename_i kt et hu
     split at e
     · rename_i kd kk es kq hk hm hkq
       split at e
       · rename_i hb
         simp only [Bool.and_eq_true,decide_eq_true_eq] at hb
         obtain ⟨hd,hkk,htop⟩:=hb
         simp only [Option.some.injEq] at e; subst e
         obtain ⟨b,es',clock,hi,hbk,hr⟩:=mapD_get g hm
         obtain ⟨b',hi',rfl⟩:=rm
         rw [hi] at hi'; cases hi'
         have hgo:=heap_cells_getObj (P:=P) hbk (by intro _ _ _ q; cases q)
         have hset:∀ o',(setObj b o').run P w= .ok () { w with heap:=w.heap.setIfInBounds b o' }:=fun o'=>heap_setObj (P:=P) hbk (by intro _ _ _ q; cases q)
         have hko:=keyOf_ok hkq hd hkk
         have hck:=run_checkKey (P:=P) (w:=w) (b:=es'.isEmpty) hk rk hko
         rcases hr.del hd hkk (keyOf_rel hkq rk) with ⟨q1,q2⟩ | ⟨j,e',q1,q2⟩
         · refine ⟨E,_,.tuple #[],.inl ?_,⟨[],rfl,rfl⟩,mapD_upd g htop hm hi hbk q2,fun _ _=>rfl,.inl ⟨rfl,rfl⟩⟩
           simp [Builtin.delete_,h1,run_und hu,hgo,hck,run_findKey hk q1,hset]
         · refine ⟨E,_,.tuple #[],.inl ?_,⟨[],rfl,rfl⟩,mapD_upd g htop hm hi hbk q2,fun _ _=>rfl,.inl ⟨rfl,rfl⟩⟩
           simp [Builtin.delete_,h1,run_und hu,hgo,hck,run_findKey hk q1,hset]
       · cases e
     · cases e
   · cases e
 · cases e
theorem op_mapEntry {t:TypeId} {m k:V} {m' k':Value} {r:R} (g:Good E h w) (rm:vrel E m m') (rk:vrel E k k') (e:mapEntryV P t h n m k=some r):
  OpOk P E h n w (do pure (.value (← Instr.mapEntry t m' k'))) r:=by
 unfold mapEntryV at e
 split at e
 · rename_i kt et m hu
   split at e
   · rename_i kd es clock z hk hm hz
     obtain ⟨b,es',hi,hb,her⟩:=map_get g hm
     obtain ⟨b',hi',rfl⟩:=rm
     rw [hi] at hi'; cases hi'
     have hgo:=heap_cells_getObj (P:=P) hb (by intro _ _ _ q; cases q)
     have hset:∀ o',(setObj b o').run P w= .ok () { w with heap:=w.heap.setIfInBounds b o' }:=fun o'=>heap_setObj (P:=P) hb (by intro _ _ _ q; cases q)
     obtain ⟨z',hz1,hz2,_⟩:=run_zero (w:=w) E hz
     split at e
     · rename_i hq
       obtain ⟨hko,htop⟩:=hq
       have hck:=run_checkKey (P:=P) (w:=w) (b:=false) hk rk hko
       cases hf:findV kd k es 0 with
       | none=>simp [hf] at e
       | some q=>
         have hr:=findV_rel rk es es'.toList 0 q her hf
         cases q with
         | none=>
           simp only [hf,Option.some.injEq] at e; subst e
           have hu':=map_upd (clock':=clock+1) (es2:=es ++ [(k,z,clock)]) (es2':=es'.push { key:=k',val:=z',born:=clock }) g htop hm hi hb (by
            rw [Array.toList_push]; exact erels_push es es'.toList (k,z,clock) { key:=k',val:=z',born:=clock } her rk hz2 rfl)
           refine ⟨E,_,.tuple #[z',.int .i64 clock],.inl ?_,⟨[z',.int .i64 clock],⟨z',_,hz2,⟨.int .i64 clock,[],rfl,rfl,rfl⟩,rfl⟩,rfl⟩,hu',fun _ _=>rfl,.inl ⟨rfl,rfl⟩⟩
           simp only [Instr.mapEntry,Sem.run_bind,run_und hu,Result.andThen_ok,hgo,hck,run_findKey hk hr,hz1,hset,Sem.run_pure,goInt]
         | some q=>
           obtain ⟨j,e0⟩:=q
           simp only [hf,Option.some.injEq] at e; subst e
           obtain ⟨e',a1,a2,a3,a4,a5,a6,a7,a8⟩:=hr
           simp only [Nat.sub_zero] at a2 a3
           have hkey:((es'[j]?).map (·.key)).getD k'=e'.key:=by rw [← Array.getElem?_toList,a3]; rfl
           have hborn:(Option.map (fun x=>(x.born:Int)) es'[j]?).getD 0=(e0.2.2:Int):=by rw [← Array.getElem?_toList,a3]; exact congrArg _ a7
           have hst:=keyStays (P:=P) (w:=w) rk a5 a4
           have hu':=map_upd (clock':=clock) (es2:=setNth es j fun e=>(k,e.2.1,e.2.2)) (es2':=es'.modify j fun e=>{ e with key:=k' }) g htop hm hi hb (by
            rw [Array.toList_modify]
            exact erels_setNth (f:=fun e=>(k,e.2.1,e.2.2)) (f':=fun e=>{ e with key:=k' }) (fun x y p q s=>⟨rk,q,s⟩) es es'.toList j her)
           refine ⟨E,_,.tuple #[e'.val,.int .i64 e0.2.2],.inl ?_,⟨[e'.val,.int .i64 e0.2.2],⟨e'.val,_,a6,⟨.int .i64 e0.2.2,[],rfl,rfl,rfl⟩,rfl⟩,rfl⟩,hu',fun _ _=>rfl,.inl ⟨rfl,rfl⟩⟩
           simp only [Instr.mapEntry,Sem.run_bind,run_und hu,Result.andThen_ok,hgo,hck,run_findKey hk a8,hkey,hborn,hst,hset,Sem.run_pure,goInt]
     · cases e
   · cases e
 · cases e
theorem op_sliceData {argTypes:Array TypeId} {ty:TypeId} {m o l cap z:Nat} {args':List Value} (g:Good E h w) (ra:vrels E [.slc (some (m,o)) l cap z] args') (hc:0 < cap):
  OpOk P E h n w (do pure (.value (← Builtin.unsafeSliceData_ argTypes ty args'.toArray))) (.val (.ptr (some (m,o))) h n):=by
 obtain ⟨x',_,⟨b,s,o',cap',h1,h2,h3,h4,h5,rfl⟩,hnil,rfl⟩:=ra
 simp only [vrels] at hnil; subst hnil
 have:=h2 hc
 subst this
 refine ok_same g (v':=.pointer (some ⟨b,s+o,none⟩)) ?_ ⟨b,s,h1,rfl⟩
 rw [Sem.run_bind,Lib.run_unsafeSliceData_row w argTypes ty ⟨b,s+o,none⟩ l cap' (by omega)]
 rfl
theorem op_unsafeString {argTypes:Array TypeId} {ty pt e:TypeId} {m:Nat} {l:Int} {fro:Bool} {t:List UInt8} {args':List Value} (g:Good E h w) (ra:vrels E [.ptr (some (m,0)),.int .i64 l] args') (ha0:argTypes[0]? =some pt) (ha:argTypes.size=2) (hp:P.underlying pt=some (.pointer e))
  (hm:h.get m=some (.buf e fro t)) (hl:l=t.length) (h0:0 < t.length) (hce:P.cellsOf e=1) (htop:m < top) (h63:t.length ≤ intMax):
  OpOk P E h n w (do pure (.value (← Builtin.unsafeString_ argTypes ty args'.toArray))) (.val (.str t) (h.set m (some (.buf e true t))) n):=by
 obtain ⟨x',_,⟨b,s,h1,rfl⟩,⟨y',_,r2,hnil,rfl⟩,rfl⟩:=ra
 simp only [vrels] at hnil; subst hnil
 simp only [vrel] at r2; subst r2
 obtain ⟨b',s',h1',c,fz,xs,hbk,hs,hsz,⟨hfz,hunf⟩,hxs,hcell⟩:=g.rel m _ hm
 rw [h1] at h1'; cases h1'
 subst hs
 have hxl:xs.length=t.length:=by rw [← hxs]; simp [strI]
 have hcs:t.length ≤ c.size:=by
  have h2:=hcell (t.length - 1) (xs[t.length - 1]'(by omega)) (List.getElem?_eq_getElem (by omega))
  have:=(Array.getElem?_eq_some_iff.1 h2).1
  omega
 have hat:argTypes=#[pt,argTypes[1]'(by omega)]:=by
  apply Array.ext
  · simpa using ha
  · intro i q1 q2
    have:i=0 ∨ i=1:=by simp at q2; omega
    rcases this with rfl | rfl
    · rw [Array.getElem?_eq_getElem q1] at ha0; simpa using ha0
    · rfl
 have hlb:∀ (l:List Int) (k:Nat) (acc:ByteArray),(∀ (j:Nat) (x:Int),l[j]? =some x→c[k+j]? =some (.int .u8 x))→(loadBytes ⟨b,k,none⟩ acc l.length).run P w= .ok ⟨acc.data ++ (strI l).toArray⟩ w:=by
  intro l
  induction l with
  | nil=>intro k acc _; simp [loadBytes,strI]
  | cons x l ih=>
    intro k acc hh
    have e0:=hh 0 x rfl
    simp only [List.length_cons,loadBytes,Sem.run_bind,run_load,Addr.add_none]
    rw [show (⟨b,k,none⟩:Addr)=⟨b,k+0,none⟩ from rfl,cell_of_heap hbk,e0]
    simp only [Result.andThen_ok]
    rw [ih (k+0+1) _ (fun j y hy=>by have:=hh (j+1) y (by simpa using hy); rw [← this]; congr 1; omega)]
    congr 1
    simp [strI,ByteArray.push]
 have hlb':=hlb xs 0 .empty (fun j x hx=>by rw [Nat.zero_add]; exact hcell j x hx)
 rw [hxl,hxs] at hlb'
 have hsh:w.shape? b=some (e,c.size):=by simp [World.shape?,hbk]
 have hlies:=Lib.liesAt_bytes (P:=P) hce (c.size / P.cellsOf e) t.length (by rw [hce]; simpa using hcs)
 have hl0:t.length ≠ 0:=by omega
 have h63':¬ (9223372036854775807:Int) < (t.length:Int):=by unfold intMax at h63; omega
 have hmax:IntKind.i64.max=9223372036854775807:=rfl
 have hneg:¬ (t.length:Int) < 0:=by omega
 have hun:=hp
 have hrun:(Builtin.unsafeString_ argTypes ty #[.pointer (some ⟨b,0,none⟩),.int .i64 t.length]).run P w= .ok (.string ⟨t.toArray⟩) (w.freeze ⟨b,0,none⟩ t.length):=by
  rw [hat]
  have hdef:Builtin.unsafeString_ #[pt,argTypes[1]'(by omega)] ty #[.pointer (some ⟨b,0,none⟩),.int .i64 t.length]=
   (do
    let n ← asInt (.int .i64 t.length)
    if n < 0 then runtimePanic (.error "unsafe.String: len out of range")
    if n > IntKind.i64.max then unsupported (.unsafePointer "String: a length above the largest int")
    if n=0 then pure (.string .empty)
    else if ← variablesAt ⟨b,0,none⟩ (← elemOf pt) n.toNat then do
     let s ← loadBytes ⟨b,0,none⟩ .empty n.toNat
     freeze ⟨b,0,none⟩ n.toNat
     pure (.string s)
    else unsupported (.unsafePointer "String: not so many bytes at ptr")):=rfl
  rw [hdef]
  simp [asInt,asIntOf,hmax,h63',hneg,hl0,variablesAt,hsh,elemOf,run_und hp,hlies,hlb']
  done
 have h00:(0:Nat)+0=0:=rfl
 refine ⟨E,w.freeze ⟨b,0,none⟩ t.length,.string ⟨t.toArray⟩,.inl ?_,rfl,?_,fun _ _=>rfl,.inl ⟨rfl,rfl⟩⟩
 · rw [Sem.run_bind,h00,hl]
   rw [hrun]; rfl
 · have hlv:wlive h m:=⟨_,hm,rfl⟩
   have hbs:b < w.heap.size:=(Array.getElem?_eq_some_iff.1 hbk).1
   refine Upd.write g htop hlv h1 (by unfold World.freeze; rw [if_neg hl0]; simp) (by unfold World.freeze; rw [if_neg hl0]) (by unfold World.freeze; rw [if_neg hl0]) (by unfold World.freeze; rw [if_neg hl0]) (fun x hx=>by unfold World.freeze; rw [if_neg hl0]; simp only [Array.getElem?_modify]; rw [if_neg (Ne.symm hx)]) ?_
   refine ⟨c,(if fz.1 == fz.2 then (0,0+t.length) else (min fz.1 0,max fz.2 (0+t.length))),xs,by unfold World.freeze; rw [if_neg hl0]; simp [Array.getElem?_modify,hbk],rfl,hsz,⟨.inr ?_,fun q=>by simp at q⟩,hxs,hcell⟩
   split
   · simp
   · rename_i q
     have:¬ fz.1=fz.2:=by simpa using q
     simp only [Nat.zero_add]
     omega
theorem bornAt_rel {b:Int}:∀ (xs:List (V × V × Nat)) (ys:List MapEntry) (i j:Nat),erels E xs ys→bornAt b xs i=some j→i ≤ j∧ys.findIdx? (fun e=>(e.born:Int) == b)=some (j - i)
 | [],_,i,j,r,e=>by simp [bornAt] at e
 | x :: xs,_,i,j,r,e=>by
   obtain ⟨y,ys,_,_,c,rs,rfl⟩:=r
   simp only [bornAt] at e
   split at e
   · rename_i hb
     simp only [Option.some.injEq] at e; subst e
     refine ⟨Nat.le_refl _,?_⟩
     rw [List.findIdx?_cons,if_pos (by rw [c]; exact hb)]
     simp
   · rename_i hb
     obtain ⟨h1,h2⟩:=bornAt_rel xs ys (i+1) j rs e
     refine ⟨by omega,?_⟩
     rw [List.findIdx?_cons,if_neg (by rw [c]; exact hb),h2]
     simp; omega
theorem op_entryStore {t:TypeId} {m s v:V} {m' s' v':Value} {r:R} (g:Good E h w) (rm:vrel E m m') (rs:vrel E s s') (rv:vrel E v v') (e:entryStoreV h n m s v=some r):
  OpOk P E h n w (do Instr.entryStore t m' s' v'; pure .skip) r:=by
 unfold entryStoreV at e
 split at e
 · rename_i m k b0
   simp only [vrel] at rs; subst rs
   split at e
   · rename_i es clock hm
     obtain ⟨b,es',hi,hb,her⟩:=map_get g hm
     obtain ⟨b',hi',rfl⟩:=rm
     rw [hi] at hi'; cases hi'
     have hgo:=heap_cells_getObj (P:=P) hb (by intro _ _ _ q; cases q)
     have hset:∀ o',(setObj b o').run P w= .ok () { w with heap:=w.heap.setIfInBounds b o' }:=fun o'=>heap_setObj (P:=P) hb (by intro _ _ _ q; cases q)
     split at e
     · rename_i htop
       cases hf:bornAt b0 es 0 with
       | none=>simp [hf] at e
       | some j=>
         simp only [hf,Option.some.injEq] at e; subst e
         obtain ⟨_,h2⟩:=bornAt_rel es es'.toList 0 j her hf
         have h3:es'.findIdx? (fun e=>(e.born:Int) == b0)=some j:=by
          have q:=List.findIdx?_toArray (fun (e:MapEntry)=>(e.born:Int) == b0) es'.toList
          rw [Array.toArray_toList] at q
          rw [q]; simpa using h2
         have hu':=map_upd (clock':=clock) (es2:=setNth es j fun e=>(e.1,v,e.2.2)) (es2':=es'.modify j fun e=>{ e with val:=v' }) g htop hm hi hb (by
          rw [Array.toList_modify]
          exact erels_setNth (f:=fun e=>(e.1,v,e.2.2)) (f':=fun e=>{ e with val:=v' }) (fun x y p q s=>⟨p,rv,s⟩) es es'.toList j her)
         refine ⟨E,_,undef,.inr ⟨?_,rfl⟩,⟨[],rfl,rfl⟩,hu',fun _ _=>rfl,.inl ⟨rfl,rfl⟩⟩
         simp only [Instr.entryStore,Sem.run_bind,hgo,Result.andThen_ok,asInt,asIntOf,Sem.run_pure,h3,hset]
     · cases e
   · cases e
 · cases e
theorem ok_newOther {h':Tr O} {n':Nat} {s:Sem Next} {o:O} {ob:Obj} {v:V} {v':Value} (g:Good E h w) (hn:E.ι n=none) (e:newObj h n o=some (h',n'))
  (ho:∀ E1 w1,w1.heap[w.heap.size]? =some ob→orel E1 w1 w.heap.size 0 o) (hr:s.run P w= .ok (.value v') (w.alloc ob)) (hv:vrel (E.put n w.heap.size 0 (sizeOfObj ob)) v v'):OpOk P E h n w s (.val v h' n'):=by
 obtain ⟨htop,rfl,rfl⟩:=newObj_eq e
 exact ⟨_,_,v',.inl hr,hv,Upd.alloc g hn htop (ho _ _ heap_alloc_new),fun m hm=>Env.put_ne hm,.inr rfl⟩
theorem op_makeMap {t:TypeId} {h':Tr O} {n':Nat} (g:Good E h w) (hn:E.ι n=none) (e:newObj h n (.map [] 0)=some (h',n')):
  OpOk P E h n w (do pure (.value (← Instr.makeMap t none))) (.val (.map (some n)) h' n'):=by
 refine ok_newOther (ob:=.map #[] 0) (v':=.map (some w.heap.size)) g hn e (fun E1 w1 q=>⟨rfl,#[],q,by simp [erels]⟩) ?_ ⟨w.heap.size,Env.put_same,rfl⟩
 simp [Instr.makeMap]
theorem op_range {t:TypeId} {x:V} {x':Value} {r:R} (g:Good E h w) (hn:E.ι n=none) (rx:vrel E x x') (e:rangeV P t x h n=some r):
  OpOk P E h n w (do pure (.value (← Instr.range t x'))) r:=by
 unfold rangeV at e
 split at e
 · rename_i s hu
   simp only [vrel] at rx; subst rx
   cases ho:newObj h n (.siter s 0) with
   | none=>simp [ho] at e
   | some p=>
     obtain ⟨h',n'⟩:=p
     simp only [ho,Option.some.injEq] at e; subst e
     refine ok_newOther (ob:=.stringIter ⟨s.toArray⟩ 0) (v':=.pointer (some ⟨w.heap.size,0,none⟩)) g hn ho (fun E1 w1 q=>⟨rfl,q⟩) ?_ ⟨w.heap.size,0,Env.put_same,by simp⟩
     simp [Instr.range,run_und hu]
 · cases e
theorem op_next {x:V} {b:Bool} {t:TypeId} {x':Value} {r:R} (g:Good E h w) (rx:vrel E x x') (e:nextV x b h n=some r):
  OpOk P E h n w (do pure (.value (← Instr.next x' b t))) r:=by
 unfold nextV at e
 split at e
 · rename_i m
   obtain ⟨b0,s0,hi,rfl⟩:=rx
   split at e
   · rename_i s pos hm
     obtain ⟨b1,s1,hi1,hs1,hb⟩:=g.rel m _ hm
     rw [hi] at hi1; cases hi1
     subst hs1
     have hgo:=heap_cells_getObj (P:=P) hb (by intro _ _ _ q; cases q)
     have hset:∀ o',(setObj b0 o').run P w= .ok () { w with heap:=w.heap.setIfInBounds b0 o' }:=fun o'=>heap_setObj (P:=P) hb (by intro _ _ _ q; cases q)
     have hlt:b0 < w.heap.size:=(Array.getElem?_eq_some_iff.1 hb).1
     have hsz:(⟨s.toArray⟩:ByteArray).size=s.length:=by show s.toArray.size=_; simp
     split at e
     · rename_i hp
       simp only at e
       split at e
       · rename_i htop
         simp only [Option.some.injEq] at e; subst e
         have hu':Upd E h w E (h.set m (some (.siter s (pos+(Utf8.decode ⟨s.toArray⟩ pos).2)))) { w with heap:=w.heap.setIfInBounds b0 (.stringIter ⟨s.toArray⟩ (pos+(Utf8.decode ⟨s.toArray⟩ pos).2)) }:=by
          refine Upd.write g htop ⟨_,hm,rfl⟩ hi (by simp) rfl rfl rfl (fun x hx=>?_) ⟨rfl,?_⟩
          · simp [Ne.symm hx]
          · simp [hlt]
         refine ⟨E,_,.tuple #[.bool true,.int .i64 pos,.int .i32 (Utf8.decode ⟨s.toArray⟩ pos).1],.inl ?_,⟨[.bool true,.int .i64 pos,.int .i32 (Utf8.decode ⟨s.toArray⟩ pos).1],⟨_,_,rfl,⟨_,_,rfl,⟨_,_,rfl,rfl,rfl⟩,rfl⟩,rfl⟩,rfl⟩,hu',fun _ _=>rfl,.inl ⟨rfl,rfl⟩⟩
         simp [Instr.next,hgo,hsz,hp,hset,goInt]
       · cases e
     · rename_i hp
       simp only [Option.some.injEq] at e; subst e
       refine ok_same g (v':=.tuple #[.bool false]) ?_ ⟨[.bool false],⟨_,_,rfl,rfl,rfl⟩,rfl⟩
       simp [Instr.next,hgo,hsz,hp]
   · cases e
 · cases e
end
end Go.Eng
namespace Go.Eng
open Go
section
variable {P:Program} {E:Env} {h:Tr O} {n:Nat} {w:World} {fr:Tr V} {ρ:Operand→Value}
theorem op_sliceNil {argTypes:Array TypeId} {ty:TypeId} {l cap z:Nat} {args':List Value} (g:Good E h w) (ra:vrels E [.slc none l cap z] args'):
  OpOk P E h n w (do pure (.value (← Builtin.unsafeSliceData_ argTypes ty args'.toArray))) (.val (.ptr none) h n):=by
 obtain ⟨x',_,⟨_,_,rfl⟩,hnil,rfl⟩:=ra
 simp only [vrels] at hnil; subst hnil
 refine ok_same g (v':=.pointer none) ?_ rfl
 rw [Sem.run_bind,Lib.run_unsafeSliceData_nil]
 rfl
theorem op_unsafeStringNil {argTypes:Array TypeId} {ty pt:TypeId} {args':List Value} (g:Good E h w) (ra:vrels E [.ptr none,.int .i64 0] args') (ha0:argTypes[0]? =some pt) (ha:argTypes.size=2):
  OpOk P E h n w (do pure (.value (← Builtin.unsafeString_ argTypes ty args'.toArray))) (.val (.str []) h n):=by
 obtain ⟨x',_,r1,⟨y',_,r2,hnil,rfl⟩,rfl⟩:=ra
 simp only [vrels] at hnil; subst hnil
 simp only [vrel] at r1 r2; subst r1; subst r2
 have hat:argTypes=#[pt,argTypes[1]'(by omega)]:=by
  apply Array.ext
  · simp [ha]
  · intro i h1 h2
    have:i=0 ∨ i=1:=by omega
    rcases this with rfl | rfl
    · have:=(Array.getElem?_eq_some_iff.1 ha0).2
      simpa using this
    · rfl
 refine ok_same g (v':=.string ⟨#[]⟩) ?_ rfl
 rw [Sem.run_bind,hat]
 have:=Lib.run_unsafeString_none (P:=P) w pt (argTypes[1]'(by omega)) ty none
 simp only [List.toArray] at this ⊢
 rw [this]
 rfl
def OpdRel (E:Env) (fr:Tr V) (ρ:Operand→Value) (x:Operand):Prop:=∀ v,opd fr x=some v→vrel E v (ρ x)
theorem opds_rel:∀ (xs:List Operand) (vs:List V),(∀ x ∈ xs,OpdRel E fr ρ x)→opds fr xs=some vs→vrels E vs (xs.map ρ)
 | [],vs,_,e=>by simp only [opds,Option.some.injEq] at e; subst e; rfl
 | x :: xs,vs,hr,e=>by
   simp only [opds] at e
   cases h1:opd fr x with
   | none=>simp [h1] at e
   | some v=>cases h2:opds fr xs with
     | none=>simp [h1,h2] at e
     | some r=>
       simp only [h1,h2,Option.some.injEq] at e; subst e
       exact ⟨ρ x,xs.map ρ,hr x (by simp) v h1,opds_rel xs r (fun y hy=>hr y (by simp [hy])) h2,rfl⟩
theorem opdParts_rel:∀ (xs:List (Nat × Operand)) (vs:List (Nat × V)),(∀ x ∈ xs.map (·.2),OpdRel E fr ρ x)→opdParts fr xs=some vs→prels E vs (xs.map fun x=>(x.1,ρ x.2))
 | [],vs,_,e=>by simp only [opdParts,Option.some.injEq] at e; subst e; rfl
 | (i,x) :: xs,vs,hr,e=>by
   simp only [opdParts] at e
   cases h1:opd fr x with
   | none=>simp [h1] at e
   | some v=>cases h2:opdParts fr xs with
     | none=>simp [h1,h2] at e
     | some r=>
       simp only [h1,h2,Option.some.injEq] at e; subst e
       exact ⟨(i,ρ x),_,rfl,hr x (by simp) v h1,opdParts_rel xs r (fun y hy=>hr y (by simp at hy ⊢; exact .inr hy)) h2,rfl⟩
theorem opdOpt_rel {x:Option Operand} {v:Option V} (hr:∀ y,x=some y→OpdRel E fr ρ y) (e:opdOpt fr x=some v):optrel E v (x.map ρ):=by
 cases x with
 | none=>simp only [opdOpt,Option.some.injEq] at e; subst e; rfl
 | some x=>
   simp only [opdOpt] at e
   cases h1:opd fr x with
   | none=>simp [h1] at e
   | some y=>simp only [h1,Option.some.injEq] at e; subst e; exact ⟨ρ x,hr x rfl y h1,rfl⟩
theorem okV_eq {v:Option V} {r:R} (e:okV h n v=some r):∃ x,v=some x∧r= .val x h n:=by
 cases v with
 | none=>simp [okV] at e
 | some x=>simp only [okV,Option.some.injEq] at e; exact ⟨x,rfl,e.symm⟩
theorem run_callFunc {f:FuncId} {args:Array Value} (hc:callee P f=true):(callFunc f args).run P w= .ok (.enter f args) w:=by
 unfold callee at hc
 split at hc
 · rename_i fn hf
   simp only [Bool.and_eq_true,bne_iff_ne,ne_eq] at hc
   obtain ⟨h1,h2⟩:=hc
   have h3:fn.body.isNone=false:=by cases hb:fn.body <;> simp_all
   have h4:(fn.name == "runtime.NumGoroutine")=false:=by simpa using h2
   simp only [callFunc,Sem.run_bind,run_program,Result.andThen_ok,hf,h4,h3,Bool.false_eq_true,if_false]
   rfl
 · cases hc
theorem call_sound {c:Call} {ty:TypeId} {r:R} (g:Good E h w) (hn:E.ι n=none) (hr:∀ x ∈ c.operands,OpdRel E fr ρ x) (e:callV P fr c h n=some r):
  OpOk P E h n w (do let d ← resolve ρ c ty; invoke d.target d.args) r:=by
 unfold callV at e
 split at e
 · rename_i args ha
   have hargs:=opds_rel (E:=E) (ρ:=ρ) c.args.toList args (fun x hx=>hr x (by simp [Call.operands]; exact .inr (by simpa using hx))) ha
   have hmap:c.args.map ρ=(c.args.toList.map ρ).toArray:=by apply Array.ext'; simp
   split at e
   · rename_i b hc
     unfold builtinV at e
     split at e
     · split at e
       · rename_i h2
         have:=op_append (P:=P) (ty:=ty) g hn hargs e h2
         simpa [resolve,hc,invoke,builtin,hmap] using this
       · cases e
     · obtain ⟨v,h1,rfl⟩:=okV_eq e
       have:=op_len (P:=P) (n:=n) (ty:=ty) g hargs h1
       simpa [resolve,hc,invoke,builtin,hmap] using this
     · split at e
       · obtain ⟨v,h1,rfl⟩:=okV_eq e
         have:=op_max (P:=P) (n:=n) (argTypes:=c.argTypes) (ty:=ty) g hargs h1
         simpa [resolve,hc,invoke,builtin,hmap] using this
       · cases e
     · split at e
       · obtain ⟨v,h1,rfl⟩:=okV_eq e
         have:=op_min (P:=P) (n:=n) (argTypes:=c.argTypes) (ty:=ty) g hargs h1
         simpa [resolve,hc,invoke,builtin,hmap] using this
       · cases e
     · split at e
       · rename_i t v
         simp only [Option.some.injEq] at e; subst e
         obtain ⟨x',_,⟨y,ry,rfl⟩,hnil,hl⟩:=hargs
         simp only [vrels] at hnil; subst hnil
         have h0:(c.args.map ρ).getD 0 .nilIface= .iface t y:=by rw [hmap,hl]; rfl
         refine ⟨.iface t y,?_,y,ry,rfl⟩
         simp only [resolve,hc,pure_bind,invoke,builtin]
         rw [h0]
         rfl
       · cases e
     · simp only [Option.some.injEq] at e; subst e
       show _=_
       simp [resolve,hc,invoke,builtin]
     · split at e
       · split at e
         · rename_i hc0
           simp only [Option.some.injEq] at e; subst e
           have:=op_sliceData (P:=P) (n:=n) (argTypes:=c.argTypes) (ty:=ty) g hargs hc0
           simpa [resolve,hc,invoke,builtin,hmap] using this
         · cases e
       · simp only [Option.some.injEq] at e; subst e
         have:=op_sliceNil (P:=P) (n:=n) (argTypes:=c.argTypes) (ty:=ty) g hargs
         simpa [resolve,hc,invoke,builtin,hmap] using this
       · cases e
     · split at e
       · rename_i pt m l ha0
         split at e
         · rename_i e0 el fro s hp hm
           split at e
           · rename_i hq
             obtain ⟨⟨q1,q2⟩,⟨rfl,q3⟩,q4,q5,q6⟩:=hq
             simp only [Option.some.injEq] at e; subst e
             have:=op_unsafeString (P:=P) (n:=n) (argTypes:=c.argTypes) (ty:=ty) g hargs ha0 q5 hp hm q1 q2 q3 q4 q6
             simpa [resolve,hc,invoke,builtin,hmap] using this
           · cases e
         · cases e
       · rename_i pt l ha0
         split at e
         · rename_i hq
           obtain ⟨q1,q5⟩:=hq
           subst q1
           simp only [Option.some.injEq] at e; subst e
           have:=op_unsafeStringNil (P:=P) (n:=n) (argTypes:=c.argTypes) (ty:=ty) g hargs ha0 q5
           simpa [resolve,hc,invoke,builtin,hmap] using this
         · cases e
       · cases e
     · split at e
       · rename_i h2
         have:=op_delete (P:=P) (ty:=ty) g hargs h2 e
         simpa [resolve,hc,invoke,builtin,hmap] using this
       · cases e
     · cases e
   · cases e
   · rename_i f hc
     split at e
     · rename_i gf first captured hf
       split at e
       · rename_i hcal
         simp only [Option.some.injEq] at e; subst e
         obtain ⟨f',fi,ca,hff,r1,r2,hfe⟩:=hr f (by simp [Call.operands,hc]) _ hf
         simp only [fnrel] at hff; subst hff
         refine ⟨fi ++ c.args.toList.map ρ ++ ca,vrels_append (vrels_append r1 hargs) r2,.inl ⟨?_,hcal⟩⟩
         have hcf:=run_callFunc (w:=w) (args:=(fi ++ c.args.toList.map ρ ++ ca).toArray) hcal
         simp only [resolve,hc,hfe,Deferred.ofValue,pure_bind,invoke]
         rw [← hcf]
         congr 2
         apply Array.ext'; simp
       · cases e
     · rename_i m hf
       obtain ⟨f',fi,ca,⟨l,s,hι,hff⟩,r1,r2,hfe⟩:=hr f (by simp [Call.operands,hc]) _ hf
       subst hff
       simp only [vrels] at r1 r2; subst r1; subst r2
       split at e
       · split at e
         · simp only [Option.some.injEq] at e; subst e
           refine ⟨c.args.toList.map ρ,hargs,.inr ⟨m,l,s,rfl,hι,?_⟩⟩
           simp only [resolve,hc,hfe,Deferred.ofValue,pure_bind,invoke,hmap]
           simp
         · cases e
       · cases e
     · cases e
 · cases e
theorem defer_sound {c:Call} {ty:TypeId} {r:R} (hr:∀ x ∈ c.operands,OpdRel E fr ρ x) (e:deferV fr c=some r):
  OpOk P E h n w (do pure (.defer (← resolve ρ c ty))) r:=by
 unfold deferV at e
 split at e
 · rename_i args ha
   have hargs:=opds_rel (E:=E) (ρ:=ρ) c.args.toList args (fun x hx=>hr x (by simp [Call.operands]; exact .inr (by simpa using hx))) ha
   split at e
   · rename_i f hc
     split at e
     · rename_i gf first captured hf
       simp only [Option.some.injEq] at e; subst e
       obtain ⟨f',fi,ca,hff,r1,r2,hfe⟩:=hr f (by simp [Call.operands,hc]) _ hf
       simp only [fnrel] at hff; subst hff
       refine ⟨ca,fi ++ c.args.toList.map ρ,?_,r2,vrels_append r1 hargs⟩
       simp only [resolve,hc,hfe,Deferred.ofValue,pure_bind]
       show Result.ok _ w=_
       congr 3
       apply Array.ext'; simp
     · cases e
   · cases e
 · cases e
set_option maxHeartbeats 1000000 in
theorem step_sound {o:Oper} {r:R} (g:Good E h w) (hn:E.ι n=none) (hr:∀ x ∈ o.op.operands,OpdRel E fr ρ x) (e:stepOp P o fr h n=some r):OpOk P E h n w (execOp ρ o) r:=by
 obtain ⟨dst,op,ty,pos,after,guard⟩:=o
 simp only at hr
 cases op <;> simp only [stepOp] at e <;> simp only [Op.operands] at hr <;> simp only [execOp]
 case move x=>
  obtain ⟨v,h1,rfl⟩:=okV_eq e
  exact ok_same g rfl (hr x (by simp) v h1)
 case assign x=>
  obtain ⟨v,h1,rfl⟩:=okV_eq e
  exact ok_same g rfl (hr x (by simp) v h1)
 case pick c x y=>
  split at e
  · rename_i hc
    obtain ⟨v,h1,rfl⟩:=okV_eq e
    have rc:=hr c (by simp) _ hc
    simp only [vrel] at rc
    exact ok_same g (by simp [rc,asBool]) (hr x (by simp) v h1)
  · rename_i hc
    obtain ⟨v,h1,rfl⟩:=okV_eq e
    have rc:=hr c (by simp) _ hc
    simp only [vrel] at rc
    exact ok_same g (by simp [rc,asBool]) (hr y (by simp) v h1)
  · cases e
 case alloc t=>
  split at e
  · rename_i z hz
    split at e
    · rename_i h' n' ho
      simp only [Option.some.injEq] at e; subst e
      exact op_alloc g hn hz ho
    · cases e
  · cases e
 case box t x=>
  split at e
  · rename_i v hv
    split at e
    · rename_i h' n' ho
      simp only [Option.some.injEq] at e; subst e
      exact op_box g hn (hr x (by simp) v hv) ho
    · cases e
  · cases e
 case build t parts=>
  split at e
  · rename_i ps hps
    obtain ⟨v,h1,rfl⟩:=okV_eq e
    have hp:=opdParts_rel (E:=E) (ρ:=ρ) parts.toList ps (fun x hx=>hr x (by simpa using hx)) hps
    have hq:prels E ps (parts.map fun (i,x)=>(i,ρ x)).toList:=by simpa using hp
    obtain ⟨v',q1,q2⟩:=build_rel (P:=P) (w:=w) hq h1
    refine ok_same g (v':=v') ?_ q2
    simp only [Sem.run_bind,q1,Result.andThen_ok,Sem.run_pure]
  · cases e
 case buildSlice t len parts=>
  split at e
  · rename_i ps hps
    have hp:=opdParts_rel (E:=E) (ρ:=ρ) parts.toList ps (fun x hx=>hr x (by simpa using hx)) hps
    have hq:prels E ps (parts.map fun (i,x)=>(i,ρ x)).toList:=by simpa using hp
    have:=op_buildSlice (P:=P) (w:=w) (t:=t) (len:=len) g hn hq e
    exact this
  · cases e
 case load t x=>
  split at e
  · rename_i v hv
    obtain ⟨u,h1,rfl⟩:=okV_eq e
    exact op_load g (hr x (by simp) v hv) h1
  · cases e
 case store t x y=>
  split at e
  · rename_i a v ha hv
    split at e
    · rename_i h' hs
      simp only [Option.some.injEq] at e; subst e
      exact op_store g (hr x (by simp) a ha) (hr y (by simp) v hv) hs
    · cases e
  · cases e
 case nilCheck x=>
  split at e
  · rename_i p hv
    simp only [Option.some.injEq] at e; subst e
    have hx:=hr x (by simp) _ hv
    obtain ⟨b,s,q1,q2⟩:=hx
    rw [q2]
    exact ok_same g (v':=.pointer (some ⟨b,s+p.2,none⟩)) rfl ⟨b,s,q1,rfl⟩
  · rename_i cs hv
    simp only [Option.some.injEq] at e; subst e
    have hx:=hr x (by simp) _ hv
    obtain ⟨b,o,c,vs,q1,q2⟩:=hx
    rw [q1]
    exact ok_same g (v':=.pointer (some ⟨b,o,none⟩)) rfl ⟨b,o,c,vs,rfl,q2⟩
  · rename_i f a c hv
    simp only [Option.some.injEq] at e; subst e
    have hx:=hr x (by simp) _ hv
    obtain ⟨f',a',c',q0,q1,q2,q3⟩:=hx
    simp only [fnrel] at q0; subst q0
    rw [q3]
    exact ok_same g (v':=.func (.func f) a'.toArray c'.toArray) rfl ⟨_,a',c',rfl,q1,q2,rfl⟩
  · rename_i t v hv
    simp only [Option.some.injEq] at e; subst e
    have hx:=hr x (by simp) _ hv
    obtain ⟨y,q1,q2⟩:=hx
    rw [q2]
    exact ok_same g (v':=.iface t y) rfl ⟨y,q1,rfl⟩
  · cases e
 case binOp op t x y yt=>
  split at e
  · rename_i a b ha hb
    obtain ⟨u,h1,rfl⟩:=okV_eq e
    exact op_binOp g (hr x (by simp) a ha) (hr y (by simp) b hb) h1
  · cases e
 case unOp op t x=>
  split at e
  · rename_i v hv
    obtain ⟨u,h1,rfl⟩:=okV_eq e
    exact op_unOp g (hr x (by simp) v hv) h1
  · cases e
 case convert s d x=>
  split at e
  · rename_i v hv
    exact op_convert g hn (hr x (by simp) v hv) e
  · cases e
 case makeInterface t x=>
  split at e
  · rename_i v d hv hu
    split at e
    · cases e
    · rename_i hd
      simp only [Option.some.injEq] at e; subst e
      have hx:=hr x (by simp) v hv
      refine ok_same g (v':=.iface t (ρ x)) ?_ ⟨ρ x,hx,rfl⟩
      simp only [Instr.makeInterface,Sem.run_bind,run_und hu,Result.andThen_ok]
      cases d <;> first | (exact absurd rfl (hd _)) | rfl
  · cases e
 case makeFunc f first captured=>
  split at e
  · rename_i a c ha hc
    split at e
    case isFalse=>cases e
    rename_i hny
    simp only [Option.some.injEq] at e; subst e
    have hfn:fnrel E f f:=by cases f <;> first | rfl | cases hny
    have r1:=opds_rel (E:=E) (ρ:=ρ) first.toList a (fun x hx=>hr x (by simp at hx ⊢; exact .inl hx)) ha
    have r2:=opds_rel (E:=E) (ρ:=ρ) captured.toList c (fun x hx=>hr x (by simp at hx ⊢; exact .inr hx)) hc
    refine ok_same g (v':=.func f (first.map ρ) (captured.map ρ)) rfl ⟨f,first.toList.map ρ,captured.toList.map ρ,hfn,r1,r2,?_⟩
    congr 1 <;> (apply Array.ext'; simp)
  · cases e
 case makeMap t res=>
  cases res with
  | some _=>simp at e
  | none=>
    simp only at e
    split at e
    · rename_i h' n' ho
      simp only [Option.some.injEq] at e; subst e
      exact op_makeMap g hn ho
    · cases e
 case makeSlice t l c=>
  split at e
  · rename_i lv cv hl hc
    exact op_makeSlice g hn (hr l (by simp) lv hl) (hr c (by simp) cv hc) e
  · cases e
 case slice t x lo hi mx=>
  split at e
  · rename_i v lov hiv mxv hv hlo hhi hmx
    obtain ⟨u,h1,rfl⟩:=okV_eq e
    refine op_slice g (hr x (by simp) v hv) (opdOpt_rel (fun y hy=>hr y ?_) hlo) (opdOpt_rel (fun y hy=>hr y ?_) hhi) (opdOpt_rel (fun y hy=>hr y ?_) hmx) h1
    · subst hy; simp
    · subst hy; simp
    · subst hy; simp
  · cases e
 case fieldAddr t x f=>
  split at e
  · rename_i v hv
    obtain ⟨u,h1,rfl⟩:=okV_eq e
    exact op_fieldAddr g (hr x (by simp) v hv) h1
  · cases e
 case field t x f=>
  split at e
  · rename_i v hv
    obtain ⟨u,h1,rfl⟩:=okV_eq e
    exact op_field g (hr x (by simp) v hv) h1
  · cases e
 case indexAddr t x i=>
  split at e
  · rename_i v iv hv hi
    obtain ⟨u,h1,rfl⟩:=okV_eq e
    exact op_indexAddr g (hr x (by simp) v hv) (hr i (by simp) iv hi) h1
  · cases e
 case index t x i=>
  split at e
  · rename_i v iv hv hi
    obtain ⟨u,h1,rfl⟩:=okV_eq e
    exact op_index g (hr x (by simp) v hv) (hr i (by simp) iv hi) h1
  · cases e
 case lookup t x k ok=>
  split at e
  · rename_i v kv hv hk
    obtain ⟨u,h1,rfl⟩:=okV_eq e
    exact op_lookup g (hr x (by simp) v hv) (hr k (by simp) kv hk) h1
  · cases e
 case mapUpdate t m k v=>
  split at e
  · rename_i mv kv vv hm hk hv
    exact op_mapUpdate g (hr m (by simp) mv hm) (hr k (by simp) kv hk) (hr v (by simp) vv hv) e
  · cases e
 case insert t m k v=>
  split at e
  · rename_i mv kv vv hm hk hv
    exact op_mapUpdate g (hr m (by simp) mv hm) (hr k (by simp) kv hk) (hr v (by simp) vv hv) e
  · cases e
 case mapEntry t m k=>
  split at e
  · rename_i mv kv hm hk
    exact op_mapEntry g (hr m (by simp) mv hm) (hr k (by simp) kv hk) e
  · cases e
 case entryStore t m s v=>
  split at e
  · rename_i mv sv vv hm hs hv
    exact op_entryStore g (hr m (by simp) mv hm) (hr s (by simp) sv hs) (hr v (by simp) vv hv) e
  · cases e
 case range t x=>
  split at e
  · rename_i v hv
    exact op_range g hn (hr x (by simp) v hv) e
  · cases e
 case next it b=>
  split at e
  · rename_i v hv
    exact op_next g (hr it (by simp) v hv) e
  · cases e
 case typeAssert x xt t ok=>
  split at e
  · rename_i v hv
    obtain ⟨u,h1,rfl⟩:=okV_eq e
    exact op_typeAssert g (hr x (by simp) v hv) h1
  · cases e
 case extract x i=>
  split at e
  · rename_i vs hv
    obtain ⟨u,h1,rfl⟩:=okV_eq e
    exact op_extract g (hr x (by simp) _ hv) h1
  · cases e
 case panic x=>
  split at e
  · rename_i t v hv
    simp only [Option.some.injEq] at e; subst e
    obtain ⟨y,q1,q2⟩:=hr x (by simp) _ hv
    refine ⟨.iface t y,?_,y,q1,rfl⟩
    rw [q2]; simp [Instr.panic]
  · cases e
 case call c=>exact call_sound g hn hr e
 case defer c=>exact defer_sound hr e
 all_goals (cases e)
end
end Go.Eng
namespace Go.Eng
open Go
def frel (E:Env) (fr:Tr V) (a:Act):Prop:=∀ t v,fr.get t=some v→∃ v',a.tmps[t]? =some v'∧vrel E v v'
theorem frel_mono {E E':Env} (h:E.le E') {fr:Tr V} {a:Act} (r:frel E fr a):frel E' fr a:=fun t v e=>let ⟨v',h1,h2⟩:=r t v e; ⟨v',h1,vrel_mono h v v' h2⟩
theorem put_size (a:Act) (dst:Option Tmp) (v:Value):(a.put dst v).tmps.size=a.tmps.size:=by cases dst <;> simp [Act.put]
theorem put_defers (a:Act) (dst:Option Tmp) (v:Value):(a.put dst v).defers=a.defers:=by cases dst <;> rfl
def dstOk (N:Nat) (dst:Option Tmp):Prop:=∀ d,dst=some d→d < N
theorem frel_put {E:Env} {fr fr':Tr V} {a:Act} {dst:Option Tmp} {v:V} {v':Value} (r:frel E fr a) (e:putD fr dst v=some fr') (hv:vrel E v v') (hd:dstOk a.tmps.size dst):frel E fr' (a.put dst v'):=by
 cases dst with
 | none=>simp only [putD,Option.some.injEq] at e; subst e; exact r
 | some d=>
   simp only [putD] at e
   split at e
   · rename_i ht
     simp only [Option.some.injEq] at e; subst e
     intro t x hx
     rw [Tr.get_set _ _ _ ht] at hx
     have hlt:=hd d rfl
     by_cases q:t=d
     · subst q; rw [if_pos rfl] at hx; cases hx
       exact ⟨v',by simp [Act.put,hlt],hv⟩
     · rw [if_neg q] at hx
       obtain ⟨y,h1,h2⟩:=r t x hx
       exact ⟨y,by simp [Act.put,Ne.symm q,h1],h2⟩
   · cases e
theorem opdRel_of_frel {E:Env} {fr:Tr V} {a:Act} (ge:GE E) (r:frel E fr a) (x:Operand):OpdRel E fr a.eval x:=by
 intro v e
 cases x with
 | tmp t=>obtain ⟨v',h1,h2⟩:=r t v e; simp only [Act.eval,Array.getD_eq_getD_getElem?,h1]; exact h2
 | const c=>exact ofVal_rel e
 | func f=>simp only [opd,Option.some.injEq] at e; subst e; exact ⟨_,[],[],rfl,rfl,rfl,rfl⟩
 | global g=>exact gptr_rel ge e
theorem wanted_rel {E:Env} {ops:Array Oper} {o:Oper} {fr:Tr V} {a:Act} {b:Bool} (r:∀ j want q d,o.guard=some (j,want)→ops[j]? =some q→q.dst=some d→∀ v,fr.get d=some v→∃ v',a.tmps[d]? =some v'∧vrel E v v') (e:wantedV ops o fr=some b):
  Region.wanted o (yielded ops a.tmps)=b:=by
 unfold wantedV at e
 unfold Region.wanted
 cases hg:o.guard with
 | none=>simp only [hg,Option.some.injEq] at e ⊢; exact e
 | some p=>
   obtain ⟨j,want⟩:=p
   simp only [hg] at e ⊢
   cases hj:ops[j]? with
   | none=>simp [hj] at e
   | some q=>
     simp only [hj] at e
     cases hd:q.dst with
     | none=>simp [hd] at e
     | some d=>
       simp only [hd] at e
       cases hf:fr.get d with
       | none=>simp [hf] at e
       | some v=>
         obtain ⟨v',h1,h2⟩:=r j want q d hg hj hd v hf
         have hy:yielded ops a.tmps j=(match (some v':Option Value) with | some (.bool b)=>some b | _=>none):=by
          unfold yielded; rw [hj]; simp only [Option.bind_some,hd,h1]; cases v' <;> rfl
         cases v with
         | bool b0=>
           simp only [hf,Option.some.injEq] at e
           simp only [vrel] at h2; subst h2
           rw [hy,← e]
           cases b0 <;> cases want <;> rfl
         | tup vs=>
           cases vs with
           | nil=>
             simp only [hf,Option.some.injEq] at e
             obtain ⟨l,hl,rfl⟩:=h2
             rw [hy,← e]; rfl
           | cons _ _=>simp [hf] at e
         | _=>simp [hf] at e
def Dom (E:Env) (n:Nat):Prop:=∀ m,n ≤ m→E.ι m=none
def outrel (E:Env):Out→Ending→Prop
 | .ret v,.returned v'=>vrel E v v'
 | .pan v,.panicked chain=>∃ v',vrel E v v'∧chain=[{ v:=v',recovered:=false }]
 | _,_=>False
def fz (R:Option Nat):Fence:={ Fence.wide with round:=R }
def CPost (E:Env) (h:Tr O) (n:Nat) (w:World) (out:Out) (h':Tr O) (n':Nat) (e:Ending) (w':World):Prop:=
 ∃ E',Upd E h w E' h' w'∧(∀ m,m < n→E'.ι m=E.ι m)∧Dom E' n'∧n ≤ n'∧outrel E' out e
def CallOk (P:Program) (cf:CallF):Prop:=∀ f args h n out h' n',cf f args h n=some (out,h',n')→∀ E w args',vrels E args args'→Good E h w→Dom E n→
 (callee P f=true→Calls P f args'.toArray w (CPost E h n w out h' n'))∧
 (∀ m l s,f=P.funcs.size+m→E.ι m=some (l,s)→YieldAt Fence.wide 0 P l args'.toArray w (CPost E h n w out h' n'))
theorem semAt_plain {R:Option Nat} {ρ:Operand→Value} {o:Oper} (h:∀ c,o.op ≠ .defer c):Oper.semAt R ρ o=execOp ρ o:=by
 cases R with
 | none=>exact Oper.semAt_none ..
 | some l=>exact Oper.semAt_some l ρ o h
theorem deferV_dfr {fr:Tr V} {c:Call} {r:R} (e:deferV fr c=some r):∃ f a b,r= .dfr f a b:=by
 unfold deferV at e
 split at e
 · split at e
   · split at e
     · simp only [Option.some.injEq] at e; exact ⟨_,_,_,e.symm⟩
     · cases e
   · cases e
 · cases e
section
variable {P:Program} {E:Env} {h h':Tr O} {n n':Nat} {w:World} {fr:Tr V} {a:Act} {o:Oper} {K:Act→World→Prop} {Q:Exit→Act→World→Prop} {rnd:Option Nat}
theorem not_defer {r:R} (e:stepOp P o fr h n=some r) (hr:∀ f a b,r ≠ .dfr f a b):∀ c,o.op ≠ .defer c:=by
 intro c hc
 simp only [stepOp,hc] at e
 obtain ⟨f,x,y,q⟩:=deferV_dfr e
 exact hr f x y q
theorem wp_val {v:V} (g:Good E h w) (hn:E.ι n=none) (hr:∀ x ∈ o.op.operands,OpdRel E fr a.eval x) (e:stepOp P o fr h n=some (.val v h' n'))
  (hk:∀ E' w' v',vrel E' v v'→Upd E h w E' h' w'→(∀ m,m ≠ n→E'.ι m=E.ι m)→((n'=n∧E'=E) ∨ n'=n+1)→K (a.put o.dst v') w'):o.wpIn (fz rnd) 0 P a w K Q:=by
 obtain ⟨E',w',v',hrun,h1,h2,h3,h4⟩:=step_sound g hn hr e
 refine ⟨fun _ _=>trivial,?_⟩
 rw [semAt_plain (not_defer e fun _ _ _=>by simp)]
 rcases hrun with hrun | ⟨hrun,rfl⟩
 · rw [hrun,Oper.uponIn_value]; exact hk E' w' v' h1 h2 h3 h4
 · rw [hrun,Oper.uponIn_skip]; exact hk E' w' undef h1 h2 h3 h4
theorem wp_call {cf:CallF} {f:FuncId} {args:List V} {out:Out} (hcf:CallOk P cf) (g:Good E h w) (hn:Dom E n) (hr:∀ x ∈ o.op.operands,OpdRel E fr a.eval x)
  (e:stepOp P o fr h n=some (.call f args)) (ec:cf f args h n=some (out,h',n'))
  (hk:∀ E' w',Upd E h w E' h' w'→(∀ m,m < n→E'.ι m=E.ι m)→Dom E' n'→n ≤ n'→
   match out with
   | .ret v=>∀ v',vrel E' v v'→K (a.put o.dst v') w'
   | .pan v=>∀ v',vrel E' v v'→Q (.panic [{ v:=v',recovered:=false }]) a w'):o.wpIn (fz rnd) 0 P a w K Q:=by
 obtain ⟨args',h1,hrun⟩:=step_sound g (hn n (Nat.le_refl _)) hr e
 refine ⟨fun _ _=>trivial,?_⟩
 rw [semAt_plain (not_defer e fun _ _ _=>by simp)]
 have fin:∀ en w',CPost E h n w out h' n' en w'→(match en,w' with
   | .returned v,w''=>K (a.put o.dst v) w''
   | .panicked chain,w''=>Q (.panic chain) a w''
   | .outgrown,_=>LetsOut Q):=fun en w' ⟨E',u1,u2,u3,u4,u5⟩=>by
  have:=hk E' w' u1 u2 u3 u4
  cases out with
  | ret v=>cases en with
    | returned v'=>exact this v' u5
    | panicked _=>exact u5.elim
    | outgrown=>exact u5.elim
  | pan v=>cases en with
    | returned v'=>exact u5.elim
    | panicked chain=>obtain ⟨v',q1,rfl⟩:=u5; exact this v' q1
    | outgrown=>exact u5.elim
 rcases hrun with ⟨hrun,h2⟩ | ⟨m,l,s,h2,h3,hrun⟩
 · rw [hrun,Oper.uponIn_enter]
   have hc:CallsIn Fence.wide (0 - 1) P f args'.toArray w _:=callsIn_wide.2 (((hcf f args h n out h' n' ec E w args' h1 g hn).1 h2).mono fin)
   exact ⟨fun hd=>by simp [fz,Fence.wide] at hd,hc⟩
 · obtain ⟨fn,tmps,assign,body,q1,q2⟩:=(hcf f args h n out h' n' ec E w args' h1 g hn).2 m l s h2 h3
   rw [hrun,q1,Oper.uponIn_round]
   have hc:RoundIn Fence.wide (0 - 1) P l fn tmps assign body w _:=q2.mono fin
   exact ⟨fun hd=>by simp [fz,Fence.wide] at hd,hc⟩
theorem wp_panic {v:V} (g:Good E h w) (hn:E.ι n=none) (hr:∀ x ∈ o.op.operands,OpdRel E fr a.eval x) (e:stepOp P o fr h n=some (.panic v))
  (hk:∀ v',vrel E v v'→Q (.panic [{ v:=v',recovered:=false }]) a w):o.wpIn (fz rnd) 0 P a w K Q:=by
 obtain ⟨v',hrun,h1⟩:=step_sound g hn hr e
 refine ⟨fun _ _=>trivial,?_⟩
 rw [semAt_plain (not_defer e fun _ _ _=>by simp)]
 rw [hrun,Oper.uponIn_panic]; exact hk v' h1
theorem wp_dfr {f:FuncId} {c args:List V} (hrn:rnd=none) (g:Good E h w) (hn:E.ι n=none) (hr:∀ x ∈ o.op.operands,OpdRel E fr a.eval x) (e:stepOp P o fr h n=some (.dfr f c args))
  (hk:∀ c' args',vrels E c c'→vrels E args args'→K ({ a with defers:={ target:=.fn (.func f) c'.toArray,args:=args'.toArray } :: a.defers }.put o.dst undef) w):o.wpIn (fz rnd) 0 P a w K Q:=by
 subst hrn
 obtain ⟨c',args',hrun,h1,h2⟩:=step_sound g hn hr e
 refine ⟨fun _ _=>trivial,?_⟩
 show o.uponIn (fz none) 0 P a K Q ((Oper.semAt none a.eval o).run P w)
 rw [Oper.semAt_none,hrun,Oper.uponIn_defer]; exact hk c' args' h1 h2
end
end Go.Eng
namespace Go.Eng
open Go
def Sub (x y:Tr O):Prop:=∀ k b,x.get k=some b→y.get k=some b
section
variable {P:Program} {fr:Tr V} {x:Tr O} {n:Nat}
theorem pure_any {o:Oper} {r:R} (hp:isPure o.op=true) (e:stepOp P o fr x n=some r):∃ v,r= .val v x n∧∀ (y:Tr O) (k:Nat),stepOp P o fr y k=some (.val v y k):=by
 obtain ⟨dst,op,ty,pos,after,guard⟩:=o
 simp only at hp
 cases op <;> simp only [isPure] at hp <;> first | (cases hp; done) | skip
 all_goals simp only [stepOp] at e
 case move a=>obtain ⟨v,h1,rfl⟩:=okV_eq e; exact ⟨v,rfl,fun y k=>by simp only [stepOp,h1,okV]⟩
 case assign a=>obtain ⟨v,h1,rfl⟩:=okV_eq e; exact ⟨v,rfl,fun y k=>by simp only [stepOp,h1,okV]⟩
 case pick c a b=>
  split at e
  · rename_i hc; obtain ⟨v,h1,rfl⟩:=okV_eq e; exact ⟨v,rfl,fun y k=>by simp only [stepOp,hc,h1,okV]⟩
  · rename_i hc; obtain ⟨v,h1,rfl⟩:=okV_eq e; exact ⟨v,rfl,fun y k=>by simp only [stepOp,hc,h1,okV]⟩
  · cases e
 case build t parts=>
  split at e
  · rename_i ps hc; obtain ⟨v,h1,rfl⟩:=okV_eq e; exact ⟨v,rfl,fun y k=>by simp only [stepOp,hc,h1,okV]⟩
  · cases e
 case nilCheck a=>
  split at e
  · rename_i p hc; simp only [Option.some.injEq] at e; subst e; exact ⟨_,rfl,fun y k=>by simp only [stepOp,hc]⟩
  · rename_i hc; simp only [Option.some.injEq] at e; subst e; exact ⟨_,rfl,fun y k=>by simp only [stepOp,hc]⟩
  · rename_i hc; simp only [Option.some.injEq] at e; subst e; exact ⟨_,rfl,fun y k=>by simp only [stepOp,hc]⟩
  · rename_i t v hc; simp only [Option.some.injEq] at e; subst e; exact ⟨_,rfl,fun y k=>by simp only [stepOp,hc]⟩
  · cases e
 case binOp op t a b yt=>
  split at e
  · rename_i u w h1 h2; obtain ⟨v,h3,rfl⟩:=okV_eq e; exact ⟨v,rfl,fun y k=>by simp only [stepOp,h1,h2,h3,okV]⟩
  · cases e
 case unOp op t a=>
  split at e
  · rename_i u h1; obtain ⟨v,h3,rfl⟩:=okV_eq e; exact ⟨v,rfl,fun y k=>by simp only [stepOp,h1,h3,okV]⟩
  · cases e
 case makeInterface t a=>
  split at e
  · rename_i v d h1 h2
    split at e
    · cases e
    · rename_i hd
      simp only [Option.some.injEq] at e; subst e
      refine ⟨_,rfl,fun y k=>?_⟩
      simp only [stepOp,h1,h2]
  · cases e
 case makeFunc f a c=>
  split at e
  · rename_i u w h1 h2
    split at e
    case isFalse=>cases e
    rename_i hny
    simp only [Option.some.injEq] at e; subst e; exact ⟨_,rfl,fun y k=>by simp only [stepOp,h1,h2,hny,if_true]⟩
  · cases e
 case fieldAddr t a f=>
  split at e
  · rename_i u h1; obtain ⟨v,h3,rfl⟩:=okV_eq e; exact ⟨v,rfl,fun y k=>by simp only [stepOp,h1,h3,okV]⟩
  · cases e
 case field t a f=>
  split at e
  · rename_i u h1; obtain ⟨v,h3,rfl⟩:=okV_eq e; exact ⟨v,rfl,fun y k=>by simp only [stepOp,h1,h3,okV]⟩
  · cases e
 case indexAddr t a i=>
  split at e
  · rename_i u w h1 h2; obtain ⟨v,h3,rfl⟩:=okV_eq e; exact ⟨v,rfl,fun y k=>by simp only [stepOp,h1,h2,h3,okV]⟩
  · cases e
 case index t a i=>
  split at e
  · rename_i u w h1 h2; obtain ⟨v,h3,rfl⟩:=okV_eq e; exact ⟨v,rfl,fun y k=>by simp only [stepOp,h1,h2,h3,okV]⟩
  · cases e
 case typeAssert a s t ok=>
  split at e
  · rename_i u h1; obtain ⟨v,h3,rfl⟩:=okV_eq e; exact ⟨v,rfl,fun y k=>by simp only [stepOp,h1,h3,okV]⟩
  · cases e
 case extract a i=>
  split at e
  · rename_i vs h1; obtain ⟨v,h3,rfl⟩:=okV_eq e; exact ⟨v,rfl,fun y k=>by simp only [stepOp,h1,h3,okV]⟩
  · cases e
theorem loadAt_mono {t:TypeId} {a v:V} {y:Tr O} (hs:Sub x y) (e:loadAt P t x a=some v):loadAt P t y a=some v:=by
 unfold loadAt at e ⊢
 split at e
 · rename_i m o
   split at e
   · rename_i cs hm
     simp only [hs m _ hm]; exact e
   · rename_i k ks hm
     simp only [hs m _ hm]; exact e
   · rename_i k ks hm
     simp only [hs m _ hm]; exact e
   · rename_i cs hm
     simp only [hs m _ hm]; exact e
   · rename_i T self x0 hm
     simp only [hs m _ hm]; exact e
   · cases e
 · exact e
 · cases e
theorem liveRow_mono {m k:Nat} {y:Tr O} (hs:Sub x y) (e:liveRow x m k=true):liveRow y m k=true:=by
 unfold liveRow at e ⊢
 split at e
 · rename_i cs hm; simp only [hs m _ hm]; exact e
 · cases e
theorem sliceV_mono {t:TypeId} {a v:V} {lo hi mx:Option V} {y:Tr O} (hs:Sub x y) (e:sliceV P t x a lo hi mx=some v):sliceV P t y a lo hi mx=some v:=by
 unfold sliceV at e ⊢
 split at e
 · cases e
 · rename_i h0
   rw [if_neg h0]
   split at e
   · exact e
   · exact e
   · exact e
   · rename_i nn el b o hu
     cases h1:szof P el with
     | none=>simp [h1] at e
     | some s=>cases h2:boundV nn nn mx with
       | none=>simp [h1,h2] at e
       | some m=>cases h3:boundV nn m hi with
         | none=>simp [h1,h2,h3] at e
         | some hh=>cases h4:boundV 0 hh lo with
           | none=>simp [h1,h2,h3,h4] at e
           | some l=>
             simp only [h1,h2,h3,h4] at e ⊢
             split at e
             · rename_i hq
               rw [if_pos ⟨hq.1,hq.2.1,liveRow_mono hs hq.2.2⟩]; exact e
             · cases e
   · cases e
theorem lookupV_mono {t:TypeId} {a k v:V} {ok:Bool} {y:Tr O} (hs:Sub x y) (e:lookupV P t x a k ok=some v):lookupV P t y a k ok=some v:=by
 unfold lookupV at e ⊢
 split at e
 · split at e
   · cases a with
     | map m=>
       cases m with
       | none=>exact e
       | some m=>
         simp only [V.mapIn] at e ⊢
         cases hm:x.get m with
         | none=>simp [hm] at e
         | some o=>
           have hy:=hs m o hm
           rw [hy]
           rw [hm] at e
           cases o with
           | mapD kk es=>exact e
           | _=>simp only [hy]; simp only [hm] at e; exact e
     | _=>exact e
   · cases e
 · cases e
theorem lenV_mono {ts:Array TypeId} {as:List V} {v:V} {y:Tr O} (hs:Sub x y) (e:lenV P ts as x=some v):lenV P ts as y=some v:=by
 unfold lenV at e ⊢
 split at e
 · split at e
   · exact e
   · exact e
   · exact e
   · exact e
   · exact e
   · rename_i m hu
     cases hm:x.get m with
     | none=>simp [hm] at e
     | some o=>
       simp only [hs m o hm]
       simp only [hm] at e
       exact e
   · cases e
 · cases e
theorem newObj_any {o:O} {p:Tr O × Nat} (e:newObj x n o=some p) (y:Tr O):n < top∧p=(x.set n (some o),n+1)∧newObj y n o=some (y.set n (some o),n+1):=by
 obtain ⟨h',n'⟩:=p
 obtain ⟨h1,rfl,rfl⟩:=newObj_eq e
 exact ⟨h1,rfl,by simp [newObj,h1]⟩
def Quiet (P:Program) (o:Oper) (fr:Tr V) (x:Tr O) (n:Nat) (r:R):Prop:=
 (∃ v,r= .val v x n∧∀ y,Sub x y→stepOp P o fr y n=some (.val v y n)) ∨
 (∃ v b,n < top∧r= .val v (x.set n (some b)) (n+1)∧∀ y,stepOp P o fr y n=some (.val v (y.set n (some b)) (n+1)))
theorem Quiet.alloc {o:Oper} {ob:O} {v:V} {h':Tr O} {n':Nat} (e:newObj x n ob=some (h',n')) (k:∀ (y h2:Tr O) (m:Nat),newObj y n ob=some (h2,m)→stepOp P o fr y n=some (.val v h2 m)):Quiet P o fr x n (.val v h' n'):=by
 obtain ⟨h1,rfl,rfl⟩:=newObj_eq e
 exact .inr ⟨v,ob,h1,rfl,fun y=>k y _ _ (newObj_any e y).2.2⟩
theorem quiet_of_pure {o:Oper} {r:R} (hp:isPure o.op=true) (e:stepOp P o fr x n=some r):Quiet P o fr x n r:=by
 obtain ⟨v,h1,h2⟩:=pure_any hp e
 exact .inl ⟨v,h1,fun y _=>h2 y n⟩
theorem quiet {o:Oper} {r:R} (hq:isEff o.op=false) (e:stepOp P o fr x n=some r):Quiet P o fr x n r:=by
 by_cases hp:isPure o.op=true
 · exact quiet_of_pure hp e
 have e0:=e
 obtain ⟨dst,op,ty,pos,after,guard⟩:=o
 simp only at hq hp
 cases op <;> simp only [isEff] at hq <;> first | (cases hq; done) | skip
 all_goals first | (exact absurd rfl hp) | skip
 all_goals simp only [stepOp] at e
 case alloc t=>
  split at e
  · rename_i z hz
    split at e
    · rename_i h' n' ho
      simp only [Option.some.injEq] at e; subst e
      exact Quiet.alloc ho fun y h2 m q=>by simp only [stepOp,hz,q]
    · cases e
  · cases e
 case box t a=>
  split at e
  · rename_i v hv
    split at e
    · rename_i h' n' ho
      simp only [Option.some.injEq] at e; subst e
      exact Quiet.alloc ho fun y h2 m q=>by simp only [stepOp,hv,q]
    · cases e
  · cases e
 case buildSlice t len parts=>
  split at e
  · rename_i ps hps
    unfold buildSliceV at e
    split at e
    · rename_i el he
      split at e
      · rename_i s z hs hz
        split at e
        · rename_i hc
          split at e
          · rename_i cs hf
            split at e
            · rename_i h' n' ho
              simp only [Option.some.injEq] at e; subst e
              exact Quiet.alloc ho fun y h2 m q=>by
               simp only [stepOp,hps,buildSliceV,he,hs,hz]
               rw [if_pos hc]; simp only [hf,q]
            · cases e
          · cases e
        · cases e
      · cases e
    · cases e
  · cases e
 case load t a=>
  split at e
  · rename_i v hv
    obtain ⟨u,h1,rfl⟩:=okV_eq e
    exact .inl ⟨u,rfl,fun y hs=>by simp only [stepOp,hv,loadAt_mono hs h1,okV]⟩
  · cases e
 case convert s d a=>
  split at e
  · rename_i v hv
    unfold convV at e
    split at e
    · rename_i h1 h2
      simp only [Option.some.injEq] at e; subst e
      exact .inl ⟨_,rfl,fun y hs=>by simp only [stepOp,hv,convV,h1,h2]⟩
    · rename_i h1 h2
      simp only [Option.some.injEq] at e; subst e
      exact .inl ⟨_,rfl,fun y hs=>by simp only [stepOp,hv,convV,h1,h2]⟩
    · rename_i h1 h2
      split at e
      · rename_i h3
        split at e
        · rename_i h' n' ho
          simp only [Option.some.injEq] at e; subst e
          exact Quiet.alloc ho fun y h2' m q=>by simp only [stepOp,hv,convV,h1,h2,h3,q]
        · cases e
      · cases e
    · rename_i h1 h2
      split at e
      · rename_i h3
        simp only [Option.some.injEq] at e; subst e
        exact .inl ⟨_,rfl,fun y hs=>by simp only [stepOp,hv,convV,h1,h2,h3]⟩
      · cases e
    · rename_i h1 h2
      split at e
      · rename_i h3
        simp only [Option.some.injEq] at e; subst e
        exact .inl ⟨_,rfl,fun y hs=>by simp only [stepOp,hv,convV,h1,h2,h3]⟩
      · cases e
    · rename_i h1 h2
      split at e
      · rename_i h3
        split at e
        · rename_i h4
          have key:∀ y:Tr O,Sub x y→∀ m,u8Row (x.get m)=u8Row (y.get m) ∨ x.get m=none:=fun y hs m=>by
           cases hm:x.get m with
           | none=>exact .inr rfl
           | some o=>rw [hs m o hm]; exact .inl rfl
          have keyB:∀ y:Tr O,Sub x y→∀ m,bufRow (x.get m)=bufRow (y.get m) ∨ x.get m=none:=fun y hs m=>by
           cases hm:x.get m with
           | none=>exact .inr rfl
           | some o=>rw [hs m o hm]; exact .inl rfl
          rename_i m0 o0 len0 _ _ _
          split at e
          · rename_i s0 hs0
            split at e
            · rename_i hl
              simp only [Option.some.injEq] at e; subst e
              refine .inl ⟨_,rfl,fun y hs=>?_⟩
              simp only [stepOp,hv,convV,h1,h2,h3]; rw [if_pos h4]
              rcases keyB y hs m0 with q | q
              · rw [← q,hs0]; simp only [if_pos hl]
              · rw [q] at hs0; cases hs0
            · cases e
          · rename_i hks0
            split at e
            · rename_i ks hks
              split at e
              · rename_i hl
                simp only [Option.some.injEq] at e; subst e
                refine .inl ⟨_,rfl,fun y hs=>?_⟩
                simp only [stepOp,hv,convV,h1,h2,h3]; rw [if_pos h4]
                rcases keyB y hs m0 with q | q
                · rw [← q,hks0]
                  rcases key y hs m0 with q | q
                  · rw [← q,hks]; simp only [if_pos hl]
                  · rw [q] at hks; cases hks
                · rw [q] at hks; cases hks
              · cases e
            · rename_i hks
              split at e
              · simp only [Option.some.injEq] at e; subst e
                refine .inl ⟨_,rfl,fun y hs=>?_⟩
                simp only [stepOp,hv,convV,h1,h2,h3]; rw [if_pos h4]
                cases bufRow (y.get m0) with
                | some s0=>simp
                | none=>
                  cases u8Row (y.get m0) with
                  | none=>rfl
                  | some ks=>simp [strI]
              · split at e
                · rename_i cs hm
                  split at e
                  · rename_i bs hc
                    split at e
                    · rename_i s' ht
                      simp only [Option.some.injEq] at e; subst e
                      refine .inl ⟨_,rfl,fun y hs=>?_⟩
                      simp only [stepOp,hv,convV,h1,h2,h3]; rw [if_pos h4]
                      simp only [hs _ _ hm,bufRow,u8Row,hc,ht]
                    · cases e
                  · cases e
                · cases e
        · cases e
      · cases e
    · cases e
  · cases e
 case makeMap t res=>
  cases res with
  | some _=>simp at e
  | none=>
    simp only at e
    split at e
    · rename_i h' n' ho
      simp only [Option.some.injEq] at e; subst e
      exact Quiet.alloc ho fun y h2 m q=>by simp only [stepOp,q]
    · cases e
 case makeSlice t l c=>
  split at e
  · rename_i lv cv h1 h2
    unfold makeSliceV at e
    split at e
    · rename_i el k l0 k' c0 he
      split at e
      · rename_i i z h3 h4
        simp only at e
        split at e
        · rename_i hc
          split at e
          · rename_i h' n' ho
            simp only [Option.some.injEq] at e; subst e
            exact Quiet.alloc ho fun y h2' m q=>by
             simp only [stepOp,h1,h2,makeSliceV,he,h3,h4]
             rw [if_pos hc]; simp only [q]
          · cases e
        · cases e
      · cases e
    · cases e
  · cases e
 case slice t a lo hi mx=>
  split at e
  · rename_i v lov hiv mxv h1 h2 h3 h4
    obtain ⟨u,h5,rfl⟩:=okV_eq e
    exact .inl ⟨u,rfl,fun y hs=>by simp only [stepOp,h1,h2,h3,h4,sliceV_mono hs h5,okV]⟩
  · cases e
 case lookup t a k ok=>
  split at e
  · rename_i v kv h1 h2
    obtain ⟨u,h5,rfl⟩:=okV_eq e
    exact .inl ⟨u,rfl,fun y hs=>by simp only [stepOp,h1,h2,lookupV_mono hs h5,okV]⟩
  · cases e
 case range t a=>
  split at e
  · rename_i v hv
    unfold rangeV at e
    split at e
    · rename_i s hu
      split at e
      · rename_i h' n' ho
        simp only [Option.some.injEq] at e; subst e
        exact Quiet.alloc ho fun y h2' m q=>by simp only [stepOp,hv,rangeV,hu,q]
      · cases e
    · cases e
  · cases e
 case call c=>
  obtain ⟨cal,args,ats⟩:=c
  cases cal with
  | value f=>simp at hq
  | invoke f m=>simp at hq
  | builtin b=>
    simp only [callV] at e
    split at e
    · rename_i as ha
      cases b <;> simp only [] at hq <;> first | (cases hq; done) | skip
      · simp only [builtinV] at e
        obtain ⟨u,h5,rfl⟩:=okV_eq e
        exact .inl ⟨u,rfl,fun y hs=>by simp only [stepOp,callV,ha,builtinV,lenV_mono hs h5,okV]⟩
      · simp only [builtinV] at e
        split at e
        · obtain ⟨u,h5,rfl⟩:=okV_eq e
          exact .inl ⟨u,rfl,fun y hs=>by simp only [stepOp,callV,ha,builtinV,h5,okV]⟩
        · cases e
      · simp only [builtinV] at e
        split at e
        · obtain ⟨u,h5,rfl⟩:=okV_eq e
          exact .inl ⟨u,rfl,fun y hs=>by simp only [stepOp,callV,ha,builtinV,h5,okV]⟩
        · cases e
    · cases e
 all_goals (cases e)
end
end Go.Eng
namespace Go.Eng
open Go
theorem mlist_snoc (l:List Oper) (o:Oper):mlist (l ++ [o])=mlist l ++ [maskOf (mlist l) o.after.toList]:=by simp [mlist]
theorem mlist_length':∀ (l:List Oper) (acc:List Nat),(l.foldl (fun acc o=>acc ++ [maskOf acc o.after.toList]) acc).length=acc.length+l.length
 | [],acc=>by simp
 | o :: l,acc=>by simp only [List.foldl_cons]; rw [mlist_length' l]; simp; omega
theorem mlist_length (l:List Oper):(mlist l).length=l.length:=by unfold mlist; rw [mlist_length']; simp
def msk (ops:Array Oper) (j:Nat):Nat:=match ops[j]? with
 | some o=>maskOf (mlist (ops.toList.take j)) o.after.toList
 | none=>0
theorem take_snoc {α:Type} {l:List α} {i:Nat} {o:α} (h:l[i]? =some o):l.take (i+1)=l.take i ++ [o]:=by
 rw [List.take_add_one,h]; rfl
theorem mlist_take_get (ops:Array Oper):∀ i,i ≤ ops.size→∀ k,k < i→(mlist (ops.toList.take i)).getD k 0=msk ops k
 | 0,_,k,hk=>by omega
 | i+1,hi,k,hk=>by
   have ho:ops.toList[i]? =some ops[i]:=by rw [Array.getElem?_toList]; exact Array.getElem?_eq_getElem (by omega)
   rw [take_snoc ho,mlist_snoc]
   have hl:(mlist (ops.toList.take i)).length=i:=by rw [mlist_length]; simp; omega
   by_cases q:k < i
   · rw [List.getD_eq_getElem?_getD,List.getElem?_append_left (by omega),← List.getD_eq_getElem?_getD]
     exact mlist_take_get ops i (by omega) k q
   · have:k=i:=by omega
     subst this
     rw [List.getD_eq_getElem?_getD,List.getElem?_append_right (by omega),hl]
     simp only [Nat.sub_self,List.getElem?_cons_zero,Option.getD_some]
     unfold msk
     rw [← Array.getElem?_toList,ho]
theorem hasBit_or (a b i:Nat):hasBit (a ||| b) i=(hasBit a i || hasBit b i):=Nat.testBit_or a b i
theorem hasBit_pow (k i:Nat):hasBit (2 ^ k) i=decide (k=i):=Nat.testBit_two_pow
theorem hasBit_zero (i:Nat):hasBit 0 i=false:=Nat.zero_testBit i
theorem maskOf_bit (masks:List Nat) (k:Nat):∀ es:List Edge,hasBit (maskOf masks es) k=true ↔ ∃ e ∈ es,Region.binds .any e=true∧(e.on=k ∨ hasBit (masks.getD e.on 0) k=true)
 | []=>by simp [maskOf,hasBit_zero]
 | e :: es=>by
   simp only [maskOf]
   by_cases hb:Region.binds .any e=true
   · rw [if_pos hb,hasBit_or,hasBit_or,hasBit_pow,Bool.or_eq_true,Bool.or_eq_true,maskOf_bit masks k es]
     simp only [decide_eq_true_eq,List.mem_cons]
     constructor
     · rintro (⟨x,h1,h2,h3⟩ | h | h)
       · exact ⟨x,.inr h1,h2,h3⟩
       · exact ⟨e,.inl rfl,hb,.inl h⟩
       · exact ⟨e,.inl rfl,hb,.inr h⟩
     · rintro ⟨x,rfl | h1,h2,h3⟩
       · exact .inr h3
       · exact .inl ⟨x,h1,h2,h3⟩
   · rw [if_neg hb,maskOf_bit masks k es]
     simp only [List.mem_cons]
     constructor
     · rintro ⟨x,h1,h2,h3⟩; exact ⟨x,.inr h1,h2,h3⟩
     · rintro ⟨x,rfl | h1,h2,h3⟩
       · exact absurd h2 hb
       · exact ⟨x,h1,h2,h3⟩
def EdgesOk (ops:Array Oper):Prop:=∀ (j:Nat) (o:Oper),ops[j]? =some o→∀ e ∈ o.after,Region.binds .any e=true→e.on < j
theorem msk_bit {ops:Array Oper} (he:EdgesOk ops) {j k:Nat} {o:Oper} (ho:ops[j]? =some o):
  hasBit (msk ops j) k=true ↔ ∃ e ∈ o.after,Region.binds .any e=true∧(e.on=k ∨ hasBit (msk ops e.on) k=true):=by
 have hj:j < ops.size:=(Array.getElem?_eq_some_iff.1 ho).1
 unfold msk
 simp only [ho]
 rw [maskOf_bit]
 constructor
 · rintro ⟨e,h1,h2,h3⟩
   have h1':e ∈ o.after:=by simpa using h1
   have hlt:=he j o ho e h1' h2
   refine ⟨e,h1',h2,h3.imp id fun q=>?_⟩
   rw [mlist_take_get ops j (by omega) e.on hlt] at q
   exact q
 · rintro ⟨e,h1,h2,h3⟩
   have hlt:=he j o ho e h1 h2
   refine ⟨e,by simpa using h1,h2,h3.imp id fun q=>?_⟩
   rw [mlist_take_get ops j (by omega) e.on hlt]
   exact q
theorem msk_lt {ops:Array Oper} (he:EdgesOk ops):∀ j k,hasBit (msk ops j) k=true→k < j:=by
 intro j
 induction j using Nat.strongRecOn with
 | _ j ih=>
   intro k h
   cases ho:ops[j]? with
   | none=>simp [msk,ho,hasBit_zero] at h
   | some o=>
     obtain ⟨e,h1,h2,h3⟩:=(msk_bit he ho).1 h
     have hlt:=he j o ho e h1 h2
     rcases h3 with rfl | h3
     · exact hlt
     · exact Nat.lt_trans (ih e.on hlt k h3) hlt
theorem msk_trans {ops:Array Oper} (he:EdgesOk ops):∀ j i k,hasBit (msk ops j) i=true→hasBit (msk ops i) k=true→hasBit (msk ops j) k=true:=by
 intro j
 induction j using Nat.strongRecOn with
 | _ j ih=>
   intro i k h h'
   cases ho:ops[j]? with
   | none=>simp [msk,ho,hasBit_zero] at h
   | some o=>
     obtain ⟨e,h1,h2,h3⟩:=(msk_bit he ho).1 h
     have hlt:=he j o ho e h1 h2
     refine (msk_bit he ho).2 ⟨e,h1,h2,.inr ?_⟩
     rcases h3 with rfl | h3
     · exact h'
     · exact ih e.on hlt i k h3 h'
theorem msk_closed {ops:Array Oper} (he:EdgesOk ops) {S:Nat→Prop} (hS:∀ j o,S j→ops[j]? =some o→∀ e ∈ o.after,Region.binds .any e=true→S e.on):
  ∀ j k,S j→hasBit (msk ops j) k=true→S k:=by
 intro j
 induction j using Nat.strongRecOn with
 | _ j ih=>
   intro k hj h
   cases ho:ops[j]? with
   | none=>simp [msk,ho,hasBit_zero] at h
   | some o=>
     obtain ⟨e,h1,h2,h3⟩:=(msk_bit he ho).1 h
     have hs:=hS j o hj ho e h1 h2
     rcases h3 with rfl | h3
     · exact hs
     · exact ih e.on (he j o ho e h1 h2) k hs h3
structure RegOk (ops:Array Oper) (N:Nat):Prop where
 edges:EdgesOk ops
 dst:∀ (j:Nat) (o:Oper),ops[j]? =some o→dstOk N o.dst
 one:∀ (i j:Nat) (o q:Oper) (t:Nat),ops[i]? =some o→ops[j]? =some q→o.dst=some t→q.dst=some t→i=j
 use:∀ (i j:Nat) (o q:Oper) (t:Nat),ops[i]? =some o→ops[j]? =some q→i ≠ j→o.dst=some t→t ∈ usesOf ops q→if i < j then hasBit (msk ops j) i=true else hasBit (msk ops i) j=true
theorem regOk_spec {ops:Array Oper} {N:Nat} (h:regOk ops N=true):RegOk ops N:=by
 unfold regOk at h
 rw [List.all_eq_true] at h
 have at_:∀ j o,ops[j]? =some o→(o.after.toList.all (fun e=>!Region.binds .any e || decide (e.on < j))=true∧(match o.dst with | some d=>decide (d < N) | none=>true)=true∧
   ∀ i,i < ops.size→i ≠ j→pairOk ops (mlist ops.toList) i j=true):=by
  intro j o ho
  have hj:j < ops.size:=(Array.getElem?_eq_some_iff.1 ho).1
  have:=h j (List.mem_range.2 hj)
  simp only [ho,Bool.and_eq_true,List.all_eq_true,List.mem_range] at this
  obtain ⟨⟨h1,h2⟩,h3⟩:=this
  refine ⟨by rw [List.all_eq_true]; exact h1,h2,fun i hi hne=>?_⟩
  have:=h3 i hi
  simp only [Bool.or_eq_true] at this
  rcases this with q | q
  · exact absurd (Nat.eq_of_beq_eq_true q) hne
  · exact q
 have hm:∀ j,j < ops.size→(mlist ops.toList).getD j 0=msk ops j:=fun j hj=>by
  have:=mlist_take_get ops ops.size (Nat.le_refl _) j hj
  rwa [show ops.toList.take ops.size=ops.toList from by rw [List.take_of_length_le]; simp] at this
 refine ⟨?_,?_,?_,?_⟩
 · intro j o ho e he hb
   obtain ⟨h1,_,_⟩:=at_ j o ho
   rw [List.all_eq_true] at h1
   have:=h1 e (by simpa using he)
   simp only [hb,Bool.not_true,Bool.false_or,decide_eq_true_eq] at this
   exact this
 · intro j o ho d hd
   obtain ⟨_,h2,_⟩:=at_ j o ho
   rw [hd] at h2
   simpa using h2
 · intro i j o q t hi hj ho hq
   by_cases e:i=j
   · exact e
   · obtain ⟨_,_,h3⟩:=at_ j q hj
     have:=h3 i (Array.getElem?_eq_some_iff.1 hi).1 e
     simp only [pairOk,hi,hj,ho,hq,Bool.and_eq_true,Bool.not_eq_true'] at this
     have h1:=this.1
     rw [Nat.beq_refl] at h1; cases h1
 · intro i j o q t hi hj hne ho ht
   obtain ⟨_,_,h3⟩:=at_ j q hj
   have hil:=(Array.getElem?_eq_some_iff.1 hi).1
   have hjl:=(Array.getElem?_eq_some_iff.1 hj).1
   have:=h3 i hil hne
   have hc:(usesOf ops q).contains t=true:=by simpa using ht
   simp only [pairOk,hi,hj,ho,Bool.and_eq_true,hc,if_true,hm i hil,hm j hjl] at this
   have h2:=this.2
   split
   · rename_i q; rw [if_pos q] at h2; exact h2
   · rename_i q; rw [if_neg q] at h2; exact h2
abbrev Eff:=Nat × Nat × Tr O × Nat
def effAt (h0:Tr O) (c0:Nat) (effs:List Eff):Nat→Nat × Tr O × Nat
 | 0=>(0,h0,c0)
 | c+1=>match effs[c]? with
   | some e=>e.2
   | none=>(0,h0,c0)
theorem effAt_snoc {h0:Tr O} {c0:Nat} {effs:List Eff} {e:Eff} {c:Nat} (h:c ≤ effs.length):effAt h0 c0 (effs ++ [e]) c=effAt h0 c0 effs c:=by
 cases c with
 | zero=>rfl
 | succ c=>simp only [effAt]; rw [List.getElem?_append_left (by omega)]
theorem effAt_last {h0:Tr O} {c0:Nat} {effs:List Eff} {e:Eff}:effAt h0 c0 (effs ++ [e]) (effs.length+1)=e.2:=by
 simp [effAt]
def histOf (h0:Tr O) (c0:Nat) (effs:List Eff):Nat→List (Nat × Nat × Tr O)
 | 0=>[]
 | c+1=>match effs[c]? with
   | some e=>(e.1,(effAt h0 c0 effs c).1,(effAt h0 c0 effs c).2.1) :: histOf h0 c0 effs c
   | none=>histOf h0 c0 effs c
theorem histOf_snoc {h0:Tr O} {c0:Nat} {effs:List Eff} {e:Eff}:∀ c,c ≤ effs.length→histOf h0 c0 (effs ++ [e]) c=histOf h0 c0 effs c
 | 0,_=>rfl
 | c+1,h=>by
   simp only [histOf]
   rw [List.getElem?_append_left (by omega),effAt_snoc (by omega),histOf_snoc c (by omega)]
structure FrAt (ops:Array Oper) (fr0:Tr V) (val:Nat→V) (j:Nat) (fr:Tr V):Prop where
 new:∀ (i:Nat) (o:Oper) (t:Nat),i < j→ops[i]? =some o→o.dst=some t→fr.get t=some (val i)
 old:∀ (t:Nat),(∀ (i:Nat) (o:Oper),i < j→ops[i]? =some o→o.dst ≠ some t)→fr.get t=fr0.get t
section
variable (P:Program) (cf:CallF) (ops:Array Oper) (n0:Nat) (h0:Tr O) (fr0:Tr V)
def OpFact (val:Nat→V) (allocs:List (Nat × O)) (reads:List (Nat × Nat × Oper × Tr V × V)) (effs:List Eff) (j:Nat) (o:Oper):Prop:=
 ∃ fr,FrAt ops fr0 val j fr∧
   ((wantedV ops o fr=some false∧val j= .tup []) ∨
    (wantedV ops o fr=some true∧isEff o.op=false∧(∃ b,(j,b) ∈ allocs∧n0+j < top∧∀ y,stepOp P o fr y (n0+j)=some (.val (val j) (y.set (n0+j) (some b)) (n0+j+1)))) ∨
    (wantedV ops o fr=some true∧isEff o.op=false∧(∀ y,stepOp P o fr y (n0+j)=some (.val (val j) y (n0+j)))) ∨
    (wantedV ops o fr=some true∧isEff o.op=false∧(j,msk ops j,o,fr,val j) ∈ reads∧
     ∀ c,c ≤ effs.length→(∀ (c':Nat) (e:Eff),c ≤ c'→effs[c']? =some e→hasBit (msk ops j) e.1=false)→(∀ (c':Nat) (e:Eff),c' < c→effs[c']? =some e→hasBit e.2.1 j=false)→
       ∃ y,stepOp P o fr (view n0 allocs (effAt h0 (n0+ops.size) effs c).1 (effAt h0 (n0+ops.size) effs c).2.1 (msk ops j)) (n0+j)=some (.val (val j) y (n0+j))) ∨
    (wantedV ops o fr=some true∧isEff o.op=true∧∃ c h n,effs[c]? =some (j,msk ops j,h,n)∧
     (let x:=effAt h0 (n0+ops.size) effs c
      (stepOp P o fr (view n0 allocs x.1 x.2.1 (msk ops j)) x.2.2=some (.val (val j) h n)) ∨
      ∃ f args,stepOp P o fr (view n0 allocs x.1 x.2.1 (msk ops j)) x.2.2=some (.call f args)∧cf f args (view n0 allocs x.1 x.2.1 (msk ops j)) x.2.2=some (.ret (val j),h,n))))
def AllocFact (val:Nat→V) (j:Nat) (o:Oper) (b:O):Prop:=
 ∃ fr,FrAt ops fr0 val j fr∧wantedV ops o fr=some true∧isEff o.op=false∧n0+j < top∧b.wr=true∧∀ y,stepOp P o fr y (n0+j)=some (.val (val j) (y.set (n0+j) (some b)) (n0+j+1))
structure Facts (val:Nat→V) (effs:List Eff) (i:Nat) (d:Dr):Prop where
 masks:d.masks=mlist (ops.toList.take i)
 fr:FrAt ops fr0 val i d.fr
 cur:d.cur=((effAt h0 (n0+ops.size) effs effs.length).1,(effAt h0 (n0+ops.size) effs effs.length).2.1)
 n:d.n=(effAt h0 (n0+ops.size) effs effs.length).2.2
 hist:d.hist=histOf h0 (n0+ops.size) effs effs.length
 last:d.last=(effs.getLast?).map (·.1)
 effok:∀ (c:Nat) (e:Eff),effs[c]? =some e→e.1 < i∧∃ o:Oper,ops[e.1]? =some o∧isEff o.op=true∧e.2.1=msk ops e.1
 allocs:∀ x ∈ d.allocs,x.1 < i
 one:∀ (j:Nat) (b b':O),(j,b) ∈ d.allocs→(j,b') ∈ d.allocs→b=b'
 wantedEff:∀ (c:Nat) (e:Eff) (o:Oper),effs[c]? =some e→ops[e.1]? =some o→∃ fr,FrAt ops fr0 val e.1 fr∧wantedV ops o fr=some true
 allocok:∀ (j:Nat) (o:Oper) (b:O),(j,b) ∈ d.allocs→ops[j]? =some o→AllocFact P ops n0 fr0 val j o b
 chain:∀ (c c':Nat) (e e':Eff),c' < c→effs[c]? =some e→effs[c']? =some e'→hasBit (msk ops e.1) e'.1=true
 opok:∀ (j:Nat) (o:Oper),j < i→ops[j]? =some o→OpFact P cf ops n0 h0 fr0 val d.allocs d.reads effs j o
end
mutual
theorem dbeq_eq:∀ (a b:D),D.beq a b=true→a=b
 | .bool a,b,h=>by cases b <;> simp [D.beq] at h; rw [h]
 | .int k a,b,h=>by cases b <;> simp [D.beq] at h; rw [h.1,h.2]
 | .str a,b,h=>by
   cases b <;> simp only [D.beq] at h <;> first | (cases h; done) | skip
   rw [beqB_eq] at h; rw [eq_of_beq h]
 | .lst n a,b,h=>by
   cases b <;> simp only [D.beq] at h <;> first | (cases h; done) | skip
   simp only [Bool.and_eq_true] at h
   rw [Nat.eq_of_beq_eq_true h.1,dbeqs_eq _ _ h.2]
 | .agg a,b,h=>by
   cases b <;> simp only [D.beq] at h <;> first | (cases h; done) | skip
   rw [dbeqs_eq _ _ h]
theorem dbeqs_eq:∀ (a b:List D),D.beqs a b=true→a=b
 | [],b,h=>by cases b <;> simp [D.beqs] at h; rfl
 | x :: xs,b,h=>by
   cases b with
   | nil=>simp [D.beqs] at h
   | cons y ys=>
     simp only [D.beqs,Bool.and_eq_true] at h
     rw [dbeq_eq x y h.1,dbeqs_eq xs ys h.2]
end
mutual
theorem dbeq_refl:∀ (a:D),D.beq a a=true
 | .bool a=>by simp [D.beq]
 | .int k a=>by simp [D.beq]
 | .str a=>by simp only [D.beq]; rw [beqB_eq]; simp
 | .lst n a=>by simp only [D.beq,Nat.beq_refl,dbeqs_refl a,Bool.and_self]
 | .agg a=>by simp only [D.beq,dbeqs_refl a]
theorem dbeqs_refl:∀ (a:List D),D.beqs a a=true
 | []=>rfl
 | x :: xs=>by simp only [D.beqs,dbeq_refl x,dbeqs_refl xs,Bool.and_self]
end
mutual
theorem beq_eq:∀ (a b:V),V.beq a b=true→a=b
 | .bool a,b,h=>by cases b <;> simp [V.beq] at h; rw [h]
 | .int k a,b,h=>by cases b <;> simp [V.beq] at h; rw [h.1,h.2]
 | .str a,b,h=>by
   cases b <;> simp only [V.beq] at h <;> first | (cases h; done) | skip
   rw [beqB_eq] at h; rw [eq_of_beq h]
 | .ptr a,b,h=>by
   cases b <;> simp only [V.beq] at h <;> first | (cases h; done) | skip
   rw [beqAddr_eq _ _ h]
 | .slc a l c e,b,h=>by
   cases b <;> simp only [V.beq] at h <;> first | (cases h; done) | skip
   simp only [Bool.and_eq_true] at h
   obtain ⟨⟨⟨h1,h2⟩,h3⟩,h4⟩:=h
   rw [beqAddr_eq _ _ h1,Nat.eq_of_beq_eq_true h2,Nat.eq_of_beq_eq_true h3,Nat.eq_of_beq_eq_true h4]
 | .map a,b,h=>by
   cases b <;> simp only [V.beq] at h <;> first | (cases h; done) | skip
   rename_i c
   cases a <;> cases c <;> simp only [beqNat?] at h <;> first | (cases h; done) | skip
   · rfl
   · rw [Nat.eq_of_beq_eq_true h]
 | .fn f a c,b,h=>by
   cases b <;> simp only [V.beq] at h <;> first | (cases h; done) | skip
   rename_i g b d
   simp only [Bool.and_eq_true] at h
   obtain ⟨⟨h1,h2⟩,h3⟩:=h
   rw [beqs_eq a b h2,beqs_eq c d h3]
   cases f <;> cases g <;> simp only [beqFn] at h1 <;> first | (cases h1; done) | skip
   all_goals rw [Nat.eq_of_beq_eq_true h1]
 | .nilFn,b,h=>by cases b <;> simp only [V.beq] at h <;> first | (cases h; done) | rfl
 | .iface t x,b,h=>by
   cases b <;> simp only [V.beq] at h <;> first | (cases h; done) | skip
   rename_i u y
   simp only [Bool.and_eq_true] at h
   rw [Nat.eq_of_beq_eq_true h.1,beq_eq x y h.2]
 | .nilIface,b,h=>by cases b <;> simp only [V.beq] at h <;> first | (cases h; done) | rfl
 | .agg a,b,h=>by
   cases b <;> simp only [V.beq] at h <;> first | (cases h; done) | skip
   rw [beqs_eq _ _ h]
 | .tup a,b,h=>by
   cases b <;> simp only [V.beq] at h <;> first | (cases h; done) | skip
   rw [beqs_eq _ _ h]
 | .lst f n a,b,h=>by
   cases b <;> simp only [V.beq] at h <;> first | (cases h; done) | skip
   simp only [Bool.and_eq_true,beq_iff_eq] at h
   rw [h.1,Nat.eq_of_beq_eq_true h.2.1,dbeqs_eq _ _ h.2.2]
 | .fptr a,b,h=>by
   cases b <;> simp only [V.beq] at h <;> first | (cases h; done) | skip
   rw [dbeqs_eq _ _ h]
theorem beqs_eq:∀ (a b:List V),V.beqs a b=true→a=b
 | [],b,h=>by cases b <;> simp only [V.beqs] at h <;> first | (cases h; done) | rfl
 | x :: xs,b,h=>by
   cases b <;> simp only [V.beqs] at h <;> first | (cases h; done) | skip
   simp only [Bool.and_eq_true] at h
   rw [beq_eq x _ h.1,beqs_eq xs _ h.2]
theorem beqAddr_eq:∀ (a b:Option (Nat × Nat)),beqAddr a b=true→a=b
 | none,b,h=>by cases b <;> simp only [beqAddr] at h <;> first | (cases h; done) | rfl
 | some (x,y),b,h=>by
   cases b <;> simp only [beqAddr] at h <;> first | (cases h; done) | skip
   simp only [Bool.and_eq_true] at h
   rw [Nat.eq_of_beq_eq_true h.1,Nat.eq_of_beq_eq_true h.2]
end
theorem readsSame_eq {P:Program} {n0 i:Nat} {o:Oper} {fr:Tr V} {v:V} {x:Tr O} (h:readsSame P n0 i o fr v x=true):∃ y,stepOp P o fr x (n0+i)=some (.val v y (n0+i)):=by
 unfold readsSame at h
 split at h
 · rename_i u y k e
   simp only [Bool.and_eq_true] at h
   have h1:=Nat.eq_of_beq_eq_true h.1
   have h2:=beq_eq _ _ h.2
   subst h1; subst h2
   exact ⟨y,e⟩
 · cases h
theorem view_cons {n0 i:Nat} {b:O} {l:List (Nat × O)} {m:Nat} {x:Tr O} {anc:Nat} (h:hasBit anc i=false):view n0 ((i,b) :: l) m x anc=view n0 l m x anc:=by
 simp [view,h]
theorem histOk_eq {P:Program} {n0 i:Nat} {o:Oper} {fr:Tr V} {v:V} {allocs:List (Nat × O)} {anc:Nat} {h0:Tr O} {c0:Nat} {effs:List Eff}:
  ∀ k,k ≤ effs.length→histOk P n0 i o fr v allocs anc (histOf h0 c0 effs k)=true→∀ c,c < k→(∀ (c':Nat) (e:Eff),c ≤ c'→c' < k→effs[c']? =some e→hasBit anc e.1=false)→
    ∃ y,stepOp P o fr (view n0 allocs (effAt h0 c0 effs c).1 (effAt h0 c0 effs c).2.1 anc) (n0+i)=some (.val v y (n0+i))
 | 0,_,_,c,hc,_=>by omega
 | k+1,hk,h,c,hc,hn=>by
   have he:effs[k]? =some effs[k]:=List.getElem?_eq_getElem (by omega)
   simp only [histOf,he,histOk] at h
   have hb:=hn k effs[k] (by omega) (by omega) he
   rw [hb] at h
   simp only [Bool.false_eq_true,if_false,Bool.and_eq_true] at h
   by_cases q:c=k
   · subst q; exact readsSame_eq h.1
   · exact histOk_eq k (by omega) h.2 c (by omega) fun c' e h1 h2 h3=>hn c' e h1 (by omega) h3
theorem readsOk_eq {P:Program} {n0:Nat} {allocs:List (Nat × O)} {m:Nat} {x:Tr O}:∀ (l:List (Nat × Nat × Oper × Tr V × V)),readsOk P n0 allocs m x l=true→
  ∀ j anc o fr v,(j,anc,o,fr,v) ∈ l→hasBit m j=false→∃ y,stepOp P o fr (view n0 allocs m x anc) (n0+j)=some (.val v y (n0+j))
 | [],_,j,anc,o,fr,v,hm,_=>by simp at hm
 | (j',anc',o',fr',v') :: l,h,j,anc,o,fr,v,hm,hb=>by
   simp only [readsOk,Bool.and_eq_true,Bool.or_eq_true] at h
   rcases List.mem_cons.1 hm with q | q
   · cases q
     rcases h.1 with h1 | h1
     · rw [hb] at h1; cases h1
     · exact readsSame_eq h1
   · exact readsOk_eq l h.2 j anc o fr v q hb
end Go.Eng
namespace Go.Eng
open Go
section
variable {P:Program} {cf:CallF} {ops:Array Oper} {n0 N:Nat} {h0:Tr O} {fr0:Tr V}
theorem FrAt.mono {val val':Nat→V} {j:Nat} {fr:Tr V} (h:FrAt ops fr0 val j fr) (hv:∀ k,k < j→val' k=val k):FrAt ops fr0 val' j fr:=
 ⟨fun i o t hi ho hd=>by rw [hv i hi]; exact h.new i o t hi ho hd,h.old⟩
theorem FrAt.step {val val':Nat→V} {i:Nat} {fr fr':Tr V} {o:Oper} {v:V} (hr:RegOk ops N) (ho:ops[i]? =some o) (h:FrAt ops fr0 val i fr) (hv:∀ k,k < i→val' k=val k) (hi:val' i=v)
  (e:putD fr o.dst v=some fr'):FrAt ops fr0 val' (i+1) fr':=by
 have h':=h.mono hv
 cases hd:o.dst with
 | none=>
   rw [hd] at e
   simp only [putD,Option.some.injEq] at e; subst e
   refine ⟨fun k q t hk hq ht=>?_,fun t ht=>h'.old t fun k q hk hq=>ht k q (by omega) hq⟩
   by_cases c:k=i
   · subst c; rw [ho] at hq; cases hq; rw [hd] at ht; cases ht
   · exact h'.new k q t (by omega) hq ht
 | some d=>
   rw [hd] at e
   simp only [putD] at e
   split at e
   · rename_i htop
     simp only [Option.some.injEq] at e; subst e
     refine ⟨fun k q t hk hq ht=>?_,fun t ht=>?_⟩
     · by_cases c:k=i
       · subst c; rw [ho] at hq; cases hq; rw [hd] at ht; cases ht
         rw [Tr.get_set_same _ _ htop,hi]
       · have hne:t ≠ d:=by
          intro q'; subst q'
          exact c (hr.one k i q o t hq ho ht hd)
         rw [Tr.get_set_ne _ _ htop hne]
         exact h'.new k q t (by omega) hq ht
     · have hne:t ≠ d:=by intro q; subst q; exact ht i o (by omega) ho hd
       rw [Tr.get_set_ne _ _ htop hne]
       exact h'.old t fun k q hk hq=>ht k q (by omega) hq
   · cases e
theorem bit_ge {he:EdgesOk ops} {j i:Nat} (h:j ≤ i):hasBit (msk ops j) i=false:=by
 cases q:hasBit (msk ops j) i with
 | false=>rfl
 | true=>have:=msk_lt he j i q; omega
theorem AllocFact.mono {val val':Nat→V} {j:Nat} {o:Oper} {b:O} (h:AllocFact P ops n0 fr0 val j o b) (hv:∀ k,k ≤ j→val' k=val k):AllocFact P ops n0 fr0 val' j o b:=by
 obtain ⟨fr,f1,f2,f3,f4,f6,f5⟩:=h
 exact ⟨fr,f1.mono fun k hk=>hv k (by omega),f2,f3,f4,f6,fun y=>by rw [hv j (Nat.le_refl _)]; exact f5 y⟩
theorem OpFact.quiet {val val':Nat→V} {allocs allocs':List (Nat × O)} {reads reads':List (Nat × Nat × Oper × Tr V × V)} {effs:List Eff} {j:Nat} {o:Oper}
  (h:OpFact P cf ops n0 h0 fr0 val allocs reads effs j o) (hv:∀ k,k ≤ j→val' k=val k) (ha:∀ x ∈ allocs,x ∈ allocs') (hr:∀ x ∈ reads,x ∈ reads')
  (hview:∀ m x,view n0 allocs' m x (msk ops j)=view n0 allocs m x (msk ops j)):OpFact P cf ops n0 h0 fr0 val' allocs' reads' effs j o:=by
 obtain ⟨fr,f1,f2⟩:=h
 refine ⟨fr,f1.mono fun k hk=>hv k (by omega),?_⟩
 have hj:=hv j (Nat.le_refl _)
 rw [hj]
 rcases f2 with q | ⟨q1,q2,b,q3,q4,q5⟩ | q | ⟨q1,q2,q3,q4⟩ | ⟨q1,q2,c,h,n,q3,q4⟩
 · exact .inl q
 · exact .inr (.inl ⟨q1,q2,b,ha _ q3,q4,q5⟩)
 · exact .inr (.inr (.inl q))
 · refine .inr (.inr (.inr (.inl ⟨q1,q2,hr _ q3,fun c hc h1 h2=>?_⟩)))
   rw [hview]; exact q4 c hc h1 h2
 · refine .inr (.inr (.inr (.inr ⟨q1,q2,c,h,n,q3,?_⟩)))
   simp only [hview]; exact q4
theorem OpFact.effect {val val':Nat→V} {allocs:List (Nat × O)} {reads:List (Nat × Nat × Oper × Tr V × V)} {effs:List Eff} {e:Eff} {j:Nat} {o:Oper}
  (h:OpFact P cf ops n0 h0 fr0 val allocs reads effs j o) (hv:∀ k,k ≤ j→val' k=val k) (hok:readsOk P n0 allocs e.2.1 e.2.2.1 reads=true):
  OpFact P cf ops n0 h0 fr0 val' allocs reads (effs ++ [e]) j o:=by
 obtain ⟨fr,f1,f2⟩:=h
 refine ⟨fr,f1.mono fun k hk=>hv k (by omega),?_⟩
 have hj:=hv j (Nat.le_refl _)
 rw [hj]
 rcases f2 with q | q | q | ⟨q1,q2,q3,q4⟩ | ⟨q1,q2,c,h,n,q3,q4⟩
 · exact .inl q
 · exact .inr (.inl q)
 · exact .inr (.inr (.inl q))
 · refine .inr (.inr (.inr (.inl ⟨q1,q2,q3,fun c hc h1 h2=>?_⟩)))
   simp only [List.length_append,List.length_cons,List.length_nil] at hc
   by_cases cl:c ≤ effs.length
   · rw [effAt_snoc cl]
     refine q4 c cl (fun c' e' hc' he'=>h1 c' e' hc' ?_) (fun c' e' hc' he'=>h2 c' e' hc' ?_)
     · rw [List.getElem?_append_left (List.getElem?_eq_some_iff.1 he').1]; exact he'
     · rw [List.getElem?_append_left (List.getElem?_eq_some_iff.1 he').1]; exact he'
   · have hcl:c=effs.length+1:=by omega
     subst hcl
     rw [effAt_last]
     exact readsOk_eq reads hok j _ o fr _ q3 (h2 effs.length e (by omega) (by simp))
 · have hc:=(List.getElem?_eq_some_iff.1 q3).1
   refine .inr (.inr (.inr (.inr ⟨q1,q2,c,h,n,by rw [List.getElem?_append_left hc]; exact q3,?_⟩)))
   rw [effAt_snoc (by omega)]; exact q4
theorem chain_new {val:Nat→V} {effs:List Eff} {i:Nat} {d:Dr} (hr:RegOk ops N) (f:Facts P cf ops n0 h0 fr0 val effs i d) (hl:lastOk (msk ops i) d.last=true):
  ∀ (c:Nat) (e:Eff),effs[c]? =some e→hasBit (msk ops i) e.1=true:=by
 intro c e he
 have hc:=(List.getElem?_eq_some_iff.1 he).1
 rw [f.last] at hl
 have hg:effs.getLast? =some (effs[effs.length - 1]'(by omega)):=by
  rw [List.getLast?_eq_getElem?,List.getElem?_eq_getElem]
 rw [hg] at hl
 simp only [Option.map_some,lastOk] at hl
 by_cases q:c=effs.length - 1
 · subst q
   rw [List.getElem?_eq_getElem (by omega)] at he
   cases he; exact hl
 · exact msk_trans hr.edges i _ _ hl (f.chain (effs.length - 1) c _ e (by omega) (List.getElem?_eq_getElem (by omega)) he)
theorem facts_eff {val:Nat→V} {effs:List Eff} {i:Nat} {d d':Dr} {o:Oper} {v:V} {h:Tr O} {n:Nat} (hr:RegOk ops N) (ho:ops[i]? =some o) (f:Facts P cf ops n0 h0 fr0 val effs i d)
  (hw:wantedV ops o d.fr=some true) (heff:isEff o.op=true) (hl:lastOk (msk ops i) d.last=true) (ha:afterEff P n0 i (msk ops i) o d v h n=some d')
  (hm:mlist (ops.toList.take (i+1))=d.masks ++ [msk ops i])
  (run:(stepOp P o d.fr (view n0 d.allocs d.cur.1 d.cur.2 (msk ops i)) d.n=some (.val v h n)) ∨
   ∃ g args,stepOp P o d.fr (view n0 d.allocs d.cur.1 d.cur.2 (msk ops i)) d.n=some (.call g args)∧cf g args (view n0 d.allocs d.cur.1 d.cur.2 (msk ops i)) d.n=some (.ret v,h,n)):
  ∃ val' effs',Facts P cf ops n0 h0 fr0 val' effs' (i+1) d':=by
 unfold afterEff at ha
 split at ha
 · rename_i fr hp
   split at ha
   · rename_i hok
     simp only [Option.some.injEq] at ha; subst ha
     let val':Nat→V:=fun k=>if k=i then v else val k
     have hvi:val' i=v:=by simp [val']
     have hv:∀ k,k < i→val' k=val k:=fun k hk=>by simp [val',show k ≠ i by omega]
     refine ⟨val',effs ++ [(i,msk ops i,h,n)],?_⟩
     have hlen:(effs ++ [(i,msk ops i,h,n)]).length=effs.length+1:=by simp
     refine ⟨hm.symm,f.fr.step hr ho hv hvi hp,?_,?_,?_,by simp,?_,fun x hx=>by have:=f.allocs x hx; omega,f.one,fun c e q he hq=>?_,fun j q b hb hq=>(f.allocok j q b hb hq).mono fun k hk=>hv k (by have:=f.allocs _ hb; simp at this; omega),?_,?_⟩
     · rw [hlen,effAt_last]
     · rw [hlen,effAt_last]
     · rw [hlen]
       simp only [histOf]
       rw [List.getElem?_append_right (by omega)]
       simp only [Nat.sub_self,List.getElem?_cons_zero]
       rw [effAt_snoc (Nat.le_refl _),histOf_snoc _ (Nat.le_refl _),← f.hist,f.cur]
     · intro c e he
       by_cases q:c < effs.length
       · rw [List.getElem?_append_left q] at he
         obtain ⟨h1,h2⟩:=f.effok c e he
         exact ⟨by omega,h2⟩
       · have hc:=(List.getElem?_eq_some_iff.1 he).1
         simp at hc
         have:c=effs.length:=by omega
         subst this
         simp at he; subst he
         exact ⟨by simp,o,ho,heff,rfl⟩
     · by_cases q2:c < effs.length
       · rw [List.getElem?_append_left q2] at he
         obtain ⟨h1,_⟩:=f.effok c e he
         obtain ⟨fr2,g1,g2⟩:=f.wantedEff c e q he hq
         exact ⟨fr2,g1.mono fun k hk=>hv k (by omega),g2⟩
       · have hc:=(List.getElem?_eq_some_iff.1 he).1
         simp at hc
         have:c=effs.length:=by omega
         subst this
         simp at he; subst he
         simp only at hq; rw [ho] at hq; cases hq
         exact ⟨d.fr,f.fr.mono hv,hw⟩
     · intro c c' e e' hcc he he'
       have hc:=(List.getElem?_eq_some_iff.1 he).1
       simp at hc
       have hc':c' < effs.length:=by omega
       rw [List.getElem?_append_left hc'] at he'
       by_cases q:c < effs.length
       · rw [List.getElem?_append_left q] at he
         exact f.chain c c' e e' hcc he he'
       · have:c=effs.length:=by omega
         subst this
         simp at he; subst he
         exact chain_new hr f hl c' e' he'
     · intro j q hj hq
       by_cases c:j=i
       · subst c; rw [ho] at hq; cases hq
         refine ⟨d.fr,f.fr.mono hv,.inr (.inr (.inr (.inr ⟨hw,heff,effs.length,h,n,by simp,?_⟩)))⟩
         rw [effAt_snoc (Nat.le_refl _),hvi]
         have hcur:=f.cur
         have hn:=f.n
         have e1:d.cur.1=(effAt h0 (n0+ops.size) effs effs.length).1:=by rw [hcur]
         have e2:d.cur.2=(effAt h0 (n0+ops.size) effs effs.length).2.1:=by rw [hcur]
         rw [e1,e2,hn] at run
         exact run
       · exact (f.opok j q (by omega) hq).effect (fun k hk=>hv k (by omega)) hok
   · cases ha
 · cases ha
theorem facts_step {val:Nat→V} {effs:List Eff} {i:Nat} {d d':Dr} {o:Oper} (hr:RegOk ops N) (ho:ops[i]? =some o) (f:Facts P cf ops n0 h0 fr0 val effs i d)
  (e:drawOp P cf ops n0 i o d=some (.inl d')):∃ val' effs',Facts P cf ops n0 h0 fr0 val' effs' (i+1) d':=by
 have hi:i < ops.size:=(Array.getElem?_eq_some_iff.1 ho).1
 have hanc:maskOf d.masks o.after.toList=msk ops i:=by rw [f.masks]; unfold msk; rw [ho]
 have hm:mlist (ops.toList.take (i+1))=d.masks ++ [msk ops i]:=by
  rw [take_snoc (by rw [Array.getElem?_toList]; exact ho),mlist_snoc,← f.masks,hanc]
 unfold drawOp at e
 simp only [hanc] at e
 have quietStep:∀ (v:V) (fr:Tr V) (allocs':List (Nat × O)) (reads':List (Nat × Nat × Oper × Tr V × V)),putD d.fr o.dst v=some fr→(∀ x ∈ d.allocs,x ∈ allocs')→(∀ x ∈ d.reads,x ∈ reads')→
   (∀ j m x,j ≤ i→view n0 allocs' m x (msk ops j)=view n0 d.allocs m x (msk ops j))→(∀ x ∈ allocs',x.1 < i+1)→(∀ j b b',(j,b) ∈ allocs'→(j,b') ∈ allocs'→b=b')→
   (∀ val',(∀ k,k < i→val' k=val k)→val' i=v→∀ b,(i,b) ∈ allocs'→AllocFact P ops n0 fr0 val' i o b)→(∀ x ∈ allocs',x.1 ≠ i→x ∈ d.allocs)→
   (∀ val',(∀ k,k < i→val' k=val k)→val' i=v→OpFact P cf ops n0 h0 fr0 val' allocs' reads' effs i o)→
   ∃ val' effs',Facts P cf ops n0 h0 fr0 val' effs' (i+1) { d with fr:=fr,masks:=d.masks ++ [msk ops i],allocs:=allocs',reads:=reads' }:=by
  intro v fr allocs' reads' hp ha hrd hview hai hone hal hal2 hop
  let val':Nat→V:=fun k=>if k=i then v else val k
  have hvi:val' i=v:=by simp [val']
  have hv:∀ k,k < i→val' k=val k:=fun k hk=>by simp [val',show k ≠ i by omega]
  refine ⟨val',effs,⟨hm.symm,f.fr.step hr ho hv hvi hp,f.cur,f.n,f.hist,f.last,fun c e he=>?_,hai,hone,fun c e q he hq=>?_,fun j q b hb hq=>?_,f.chain,fun j q hj hq=>?_⟩⟩
  · obtain ⟨h1,h2⟩:=f.effok c e he
    exact ⟨by omega,h2⟩
  · obtain ⟨h1,_⟩:=f.effok c e he
    obtain ⟨fr2,g1,g2⟩:=f.wantedEff c e q he hq
    exact ⟨fr2,g1.mono fun k hk=>hv k (by omega),g2⟩
  · by_cases c:j=i
    · subst c; rw [ho] at hq; cases hq; exact hal val' hv hvi b hb
    · have hb':=hal2 _ hb c
      exact (f.allocok j q b hb' hq).mono fun k hk=>hv k (by have:=f.allocs _ hb'; simp at this; omega)
  · by_cases c:j=i
    · subst c; rw [ho] at hq; cases hq; exact hop val' hv hvi
    · exact (f.opok j q (by omega) hq).quiet (fun k hk=>hv k (by omega)) ha hrd fun m x=>hview j m x (by omega)
 have e1:d.cur.1=(effAt h0 (n0+ops.size) effs effs.length).1:=by rw [f.cur]
 have e2:d.cur.2=(effAt h0 (n0+ops.size) effs effs.length).2.1:=by rw [f.cur]
 split at e
 · rename_i hw
   split at e
   · rename_i fr hp
     simp only [Option.some.injEq,Sum.inl.injEq] at e; subst e
     exact quietStep (.tup []) fr d.allocs d.reads hp (fun _ h=>h) (fun _ h=>h) (fun _ _ _ _=>rfl) (fun x hx=>by have:=f.allocs x hx; omega) f.one (fun _ _ _ b hb=>by have:=f.allocs _ hb; simp at this) (fun _ hx _=>hx)
      fun val' hv hvi=>⟨d.fr,f.fr.mono hv,.inl ⟨hw,hvi⟩⟩
   · cases e
 · rename_i hw
   split at e
   · rename_i heff
     split at e
     · rename_i hl
       split at e
       · rename_i v h n hs
         split at e
         · rename_i s' ha
           simp only [Option.some.injEq,Sum.inl.injEq] at e; subst e
           exact facts_eff hr ho f hw heff hl ha hm (.inl hs)
         · cases e
       · rename_i g args hs
         split at e
         · rename_i v h n hc
           split at e
           · rename_i s' ha
             simp only [Option.some.injEq,Sum.inl.injEq] at e; subst e
             exact facts_eff hr ho f hw heff hl ha hm (.inr ⟨g,args,hs,hc⟩)
           · cases e
         · split at e
           · cases e
           · cases e
         · cases e
       · cases e
     · cases e
   · rename_i heff
     have heff':isEff o.op=false:=by simpa using heff
     split at e
     · rename_i v h k hs
       split at e
       · rename_i fr hp
         have hq:=quiet heff' hs
         split at e
         · rename_i hk
           have hk':=Nat.eq_of_beq_eq_true hk
           subst hk'
           split at e
           · rename_i hpure
             simp only [Option.some.injEq,Sum.inl.injEq] at e; subst e
             obtain ⟨u,h1,h2⟩:=pure_any hpure hs
             cases h1
             exact quietStep v fr d.allocs d.reads hp (fun _ h=>h) (fun _ h=>h) (fun _ _ _ _=>rfl) (fun x hx=>by have:=f.allocs x hx; omega) f.one (fun _ _ _ b hb=>by have:=f.allocs _ hb; simp at this) (fun _ hx _=>hx)
              fun val' hv hvi=>⟨d.fr,f.fr.mono hv,.inr (.inr (.inl ⟨hw,heff',fun y=>by rw [hvi]; exact h2 y _⟩))⟩
           · split at e
             · rename_i hist
               simp only [Option.some.injEq,Sum.inl.injEq] at e; subst e
               refine quietStep v fr d.allocs ((i,msk ops i,o,d.fr,v) :: d.reads) hp (fun _ h=>h) (fun x hx=>by simp [hx]) (fun _ _ _ _=>rfl) (fun x hx=>by have:=f.allocs x hx; omega) f.one (fun _ _ _ b hb=>by have:=f.allocs _ hb; simp at this) (fun _ hx _=>hx)
                fun val' hv hvi=>⟨d.fr,f.fr.mono hv,.inr (.inr (.inr (.inl ⟨hw,heff',by simp [hvi],fun c hc h1 _=>?_⟩)))⟩
               rw [hvi]
               by_cases q:c=effs.length
               · subst q
                 rw [← e1,← e2]
                 exact ⟨h,hs⟩
               · rw [f.hist] at hist
                 exact histOk_eq effs.length (Nat.le_refl _) hist c (by omega) fun c' e' q1 _ q3=>h1 c' e' q1 q3
             · cases e
         · rename_i hk
           split at e
           · rename_i b hb
             split at e
             case isFalse=>cases e
             rename_i hwr
             simp only [Option.some.injEq,Sum.inl.injEq] at e; subst e
             rcases hq with ⟨u,h1,_⟩ | ⟨u,b',h1,h2,h3⟩
             · cases h1; exact absurd (Nat.beq_refl _) hk
             · cases h2
               rw [Tr.get_set_same _ _ h1] at hb
               cases hb
               refine quietStep v fr ((i,b) :: d.allocs) d.reads hp (fun x hx=>by simp [hx]) (fun _ h=>h) (fun j m x hj=>view_cons (bit_ge (he:=hr.edges) hj)) (fun x hx=>?_) (fun j c c' hc hc'=>?_) (fun val' hv hvi c hc=>?_) (fun x hx hne=>?_)
                fun val' hv hvi=>⟨d.fr,f.fr.mono hv,.inr (.inl ⟨hw,heff',b,by simp,h1,fun y=>by rw [hvi]; exact h3 y⟩)⟩
               · rcases List.mem_cons.1 hx with rfl | hx
                 · simp
                 · have:=f.allocs x hx; omega
               · rcases List.mem_cons.1 hc with q | q <;> rcases List.mem_cons.1 hc' with q' | q'
                 · cases q; cases q'; rfl
                 · cases q; have:=f.allocs _ q'; simp at this
                 · cases q'; have:=f.allocs _ q; simp at this
                 · exact f.one j c c' q q'
               · rcases List.mem_cons.1 hc with q | q
                 · cases q; exact ⟨d.fr,f.fr.mono hv,hw,heff',h1,hwr,fun y=>by rw [hvi]; exact h3 y⟩
                 · have:=f.allocs _ q; simp at this
               · rcases List.mem_cons.1 hx with q | q
                 · cases q; exact absurd rfl hne
                 · exact q
           · cases e
       · cases e
     · cases e
 · cases e
theorem facts_init (fr:Tr V) (h:Tr O):Facts P cf ops n0 h fr (fun _=>.nilFn) [] 0 { fr:=fr,masks:=[],cur:=(0,h),hist:=[],last:=none,allocs:=[],reads:=[],n:=n0+ops.size }:=by
 refine ⟨by simp [mlist],⟨fun i o t hi=>by omega,fun t _=>rfl⟩,rfl,rfl,rfl,rfl,fun c e he=>by simp at he,fun x hx=>by simp at hx,fun j b b' hb=>by simp at hb,fun c e o he=>by simp at he,fun j o b hb=>by simp at hb,fun c c' e e' _ he=>by simp at he,fun j o hj=>by omega⟩
theorem facts_run (hr:RegOk ops N):∀ (l:List Oper) (i:Nat) (d:Dr) (val:Nat→V) (effs:List Eff) (r:Dr ⊕ (Tr V × V × Tr O × Nat)),l=ops.toList.drop i→Facts P cf ops n0 h0 fr0 val effs i d→
  drawOps P cf ops n0 l i d=some r→
  match r with
  | .inl d'=>∃ val' effs',Facts P cf ops n0 h0 fr0 val' effs' (max i ops.size) d'
  | .inr x=>∃ j o d' val' effs',ops[j]? =some o∧Facts P cf ops n0 h0 fr0 val' effs' j d'∧drawOp P cf ops n0 j o d'=some (.inr x)
 | [],i,d,val,effs,r,hl,f,e=>by
   simp only [drawOps,Option.some.injEq] at e; subst e
   have hi:ops.size ≤ i:=by
    have:=congrArg List.length hl
    simp at this; omega
   rw [Nat.max_eq_left hi]
   exact ⟨val,effs,f⟩
 | o :: l,i,d,val,effs,r,hl,f,e=>by
   have hi:i < ops.size:=by
    have:=congrArg List.length hl
    simp at this; omega
   have ho:ops[i]? =some o:=by
    have:=congrArg (fun x=>x[0]?) hl
    simp at this
    exact this.symm
   have hl':l=ops.toList.drop (i+1):=by
    have:=congrArg List.tail hl
    simpa using this
   simp only [drawOps] at e
   split at e
   · rename_i s' hs
     obtain ⟨val',effs',f'⟩:=facts_step hr ho f hs
     have:=facts_run hr l (i+1) s' val' effs' r hl' f' e
     cases r with
     | inl d'=>rw [show max (i+1) ops.size=max i ops.size by omega] at this; exact this
     | inr x=>exact this
   · rename_i x hx
     cases r with
     | inl d'=>exact absurd e (hx d')
     | inr y=>exact ⟨i,o,d,val,effs,ho,f,e⟩
end
end Go.Eng
namespace Go.Eng
open Go
theorem Good.ext {E:Env} {h h':Tr O} {w:World} (g:Good E h w) (e:∀ k,h'.get k=h.get k):Good E h' w:=g.sub fun m o q=>by rw [← e]; exact q
theorem Upd.ext {E E':Env} {h h' h2:Tr O} {w w':World} (u:Upd E h w E' h' w') (e:∀ k,h2.get k=h'.get k):Upd E h w E' h2 w':=
 ⟨u.le,u.good.ext e,u.size,u.tape,u.os,u.output,u.keep,fun m b s hm q hb=>let ⟨m0,s0,a1,a2,a3⟩:=u.img m b s (by rw [← e]; exact hm) q hb; ⟨m0,s0,a1,a2,fun c=>a3 (wlive_of (e m) c)⟩,u.fzn⟩
theorem Upd.frame {E E':Env} {h x y z:Tr O} {w w':World} (g:Good E h w) (hx:Sub x h) (u:Upd E x w E' y w')
  (hz:∀ k,z.get k=match y.get k with | some o=>some o | none=>if x.get k=none then h.get k else none):Upd E h w E' z w':=by
 have rest:∀ k o,h.get k=some o→x.get k=none→∃ b s,E.ι k=some (b,s)∧E'.ι k=some (b,s)∧E'.β b=E.β b∧b < w.heap.size∧w'.heap[b]? =w.heap[b]?∧(∀ m s',wlive y m→E'.ι m ≠ some (b,s'))∧(o.wr=true→∀ m s',y.get m ≠ none→E'.ι m ≠ some (b,s'))∧orel E w b s o:=by
  intro k o hk hxk
  obtain ⟨b,s,h1,h2⟩:=g.rel k o hk
  have hb:=g.bnd k b s h1
  have hne:∀ m,x.get m ≠ none→m ≠ k:=by intro m hm e; subst e; exact hm hxk
  have hno:∀ m s',wlive x m→E.ι m ≠ some (b,s'):=by
   intro m s' hm q
   exact g.inj m k b s' s (hne m hm.live) (wlive_sub hx hm) (by rw [hk]; simp) q h1
  have hno2:o.wr=true→∀ m s',x.get m ≠ none→E.ι m ≠ some (b,s'):=by
   intro ho m s' hm q
   exact g.inj k m b s s' (fun e=>hne m hm e.symm) ⟨o,hk,ho⟩ (live_sub hx hm) h1 q
  refine ⟨b,s,h1,(u.le.nm k b s h1).1,(u.le.nm k b s h1).2,hb,u.keep b hb hno,?_,?_,h2⟩
  · intro m s' hm q
    obtain ⟨m0,s0,a1,a2,a3⟩:=u.img m b s' hm.live q hb
    exact hno m0 s0 (a3 hm) a2
  · intro ho m s' hm q
    obtain ⟨m0,s0,a1,a2,a3⟩:=u.img m b s' hm q hb
    exact hno2 ho m0 s0 a1 a2
 have zc:∀ k o,z.get k=some o→y.get k=some o ∨ (y.get k=none∧x.get k=none∧h.get k=some o):=by
  intro k o q
  rw [hz] at q
  split at q
  · rename_i o' hy; cases q; exact .inl hy
  · rename_i hy
    split at q
    · rename_i hxm; exact .inr ⟨hy,hxm,q⟩
    · cases q
 have old:∀ k o b s,h.get k=some o→o.wr=true→x.get k=none→E.ι k=some (b,s)→∀ c,E'.φ b ≠ some c:=by
  intro k o b s hk ho hxk e c hc
  rcases u.fzn b c hc with q | q | ⟨m,s',q1,q2⟩
  · exact (g.froz b c q).2 k s ⟨o,hk,ho⟩ e
  · have:=g.bnd k b s e; omega
  · exact g.inj m k b s' s (fun q=>by subst q; exact q1.live hxk) (wlive_sub hx q1) (by rw [hk]; simp) q2 e
 refine ⟨u.le,⟨?_,?_,u.good.bnd,u.good.glob,fun b c hc=>⟨(u.good.froz b c hc).1,fun m s hm e=>?_⟩⟩,u.size,u.tape,u.os,u.output,?_,?_,?_⟩
 case refine_3=>
  obtain ⟨o,hm,ho⟩:=hm
  rcases zc m o hm with ym | ⟨ym,hxm,hh⟩
  · exact (u.good.froz b c hc).2 m s ⟨o,ym,ho⟩ e
  · obtain ⟨b',t,h1,h2,_⟩:=rest m o hh hxm
    rw [h2] at e; cases e
    exact old m o b s hh ho hxm h1 c hc
 case refine_6=>
  intro b c hc
  rcases u.fzn b c hc with q | q | ⟨m,s,q1,q2⟩
  · exact .inl q
  · exact .inr (.inl q)
  · exact .inr (.inr ⟨m,s,wlive_sub hx q1,q2⟩)
 · intro m o hm
   rcases zc m o hm with hy | ⟨hy,hxm,hm⟩
   · exact u.good.rel m o hy
   · obtain ⟨b,s,h1,h2,h3,h4,h5,h6,h6',h7⟩:=rest m o hm hxm
     exact ⟨b,s,h2,orel_mono u.le h3 h5 h7⟩
 · intro m m' b s s' hne hm hm' e e'
   obtain ⟨o,hm,ho⟩:=hm
   obtain ⟨o',hm'⟩:=Option.ne_none_iff_exists'.1 hm'
   rcases zc m o hm with ym | ⟨ym,hxm,hh⟩
   · rcases zc m' o' hm' with ym' | ⟨ym',hxm',hh'⟩
     · exact u.good.inj m m' b s s' hne ⟨o,ym,ho⟩ (by rw [ym']; simp) e e'
     · obtain ⟨b',t,h1,h2,h3,h4,h5,h6,h6',h7⟩:=rest m' o' hh' hxm'
       rw [h2] at e'; cases e'
       exact h6 m s ⟨o,ym,ho⟩ e
   · obtain ⟨b',t,h1,h2,h3,h4,h5,h6,h6',h7⟩:=rest m o hh hxm
     rw [h2] at e; cases e
     rcases zc m' o' hm' with ym' | ⟨ym',hxm',hh'⟩
     · exact h6' ho m' s' (by rw [ym']; simp) e'
     · obtain ⟨b2,t2,k1,k2,_⟩:=rest m' o' hh' hxm'
       rw [k2] at e'; cases e'
       exact g.inj m m' _ _ _ hne ⟨o,hh,ho⟩ (by rw [hh']; simp) h1 k1
 · intro b hb hn
   exact u.keep b hb fun m s hm=>hn m s (wlive_sub hx hm)
 · intro m b s hm e hb
   obtain ⟨o,hm⟩:=Option.ne_none_iff_exists'.1 hm
   have hw:wlive z m→o.wr=true:=by rintro ⟨o2,q1,q2⟩; rw [hm] at q1; cases q1; exact q2
   rcases zc m o hm with ym | ⟨ym,hxm,hh⟩
   · obtain ⟨m0,s0,a1,a2,a3⟩:=u.img m b s (by rw [ym]; simp) e hb
     exact ⟨m0,s0,live_sub hx a1,a2,fun q=>wlive_sub hx (a3 ⟨o,ym,hw q⟩)⟩
   · obtain ⟨b',t,h1,h2,_⟩:=rest m o hh hxm
     rw [h2] at e; cases e
     exact ⟨m,_,by rw [hh]; simp,h1,fun q=>⟨o,hh,hw q⟩⟩
theorem view_get {n0:Nat} {m:Nat} {x:Tr O} {anc k:Nat}:∀ (l:List (Nat × O)),(∀ y ∈ l,n0+y.1 < top)→
  (view n0 l m x anc).get k=match l.find? (fun y=>Nat.beq (n0+y.1) k && hasBit anc y.1 && !hasBit m y.1) with | some y=>some y.2 | none=>x.get k
 | [],_=>rfl
 | (i,o) :: l,ht=>by
   have ih:=view_get (k:=k) (m:=m) (x:=x) (anc:=anc) l fun y hy=>ht y (by simp [hy])
   simp only [view]
   by_cases hb:(hasBit anc i && !hasBit m i)=true
   · rw [if_pos hb,Tr.get_set _ _ _ (ht (i,o) (by simp))]
     by_cases q:k=n0+i
     · subst q
       rw [if_pos rfl,List.find?_cons_of_pos (by simp only [Nat.beq_refl,Bool.true_and]; exact hb)]
     · rw [if_neg q,ih,List.find?_cons_of_neg]
       have:Nat.beq (n0+i) k=false:=by
        cases hh:Nat.beq (n0+i) k with
        | false=>rfl
        | true=>exact absurd (Nat.eq_of_beq_eq_true hh).symm q
       simp [this]
   · rw [if_neg hb,ih,List.find?_cons_of_neg]
     intro q
     simp only [Bool.and_assoc] at q
     rw [Bool.and_eq_true] at q
     exact hb q.2
theorem view_alloc {n0:Nat} {m:Nat} {x:Tr O} {anc i:Nat} {b:O} {l:List (Nat × O)} (ht:∀ y ∈ l,n0+y.1 < top) (one:∀ (j:Nat) (b b':O),(j,b) ∈ l→(j,b') ∈ l→b=b') (hi:(i,b) ∈ l)
  (ha:hasBit anc i=true) (hm:hasBit m i=false):(view n0 l m x anc).get (n0+i)=some b:=by
 rw [view_get l ht]
 cases hf:l.find? (fun y=>Nat.beq (n0+y.1) (n0+i) && hasBit anc y.1 && !hasBit m y.1) with
 | none=>
   have:=List.find?_eq_none.1 hf (i,b) hi
   simp [Nat.beq_refl,ha,hm] at this
 | some y=>
   have h1:=List.mem_of_find?_eq_some hf
   have h2:=List.find?_some hf
   simp only [Bool.and_eq_true] at h2
   have h3:=Nat.eq_of_beq_eq_true h2.1.1
   have h4:y.1=i:=by omega
   obtain ⟨y1,y2⟩:=y
   simp only at h4; subst h4
   simp only [one y1 y2 b h1 hi]
theorem view_other {n0:Nat} {m:Nat} {x:Tr O} {anc k:Nat} {l:List (Nat × O)} (ht:∀ y ∈ l,n0+y.1 < top) (h:∀ i b,(i,b) ∈ l→hasBit anc i=true→hasBit m i=false→k ≠ n0+i):(view n0 l m x anc).get k=x.get k:=by
 rw [view_get l ht]
 cases hf:l.find? (fun y=>Nat.beq (n0+y.1) k && hasBit anc y.1 && !hasBit m y.1) with
 | none=>rfl
 | some y=>
   have h1:=List.mem_of_find?_eq_some hf
   have h2:=List.find?_some hf
   simp only [Bool.and_eq_true,Bool.not_eq_true'] at h2
   exact absurd (Nat.eq_of_beq_eq_true h2.1.1).symm (h y.1 y.2 h1 h2.1.2 h2.2)
theorem view_cases {n0:Nat} {m:Nat} {x:Tr O} {anc:Nat} {l:List (Nat × O)} (ht:∀ y ∈ l,n0+y.1 < top) (one:∀ (j:Nat) (b b':O),(j,b) ∈ l→(j,b') ∈ l→b=b') (k:Nat):
  (∃ i b,(i,b) ∈ l∧hasBit anc i=true∧hasBit m i=false∧k=n0+i∧(view n0 l m x anc).get k=some b) ∨
  ((∀ i b,(i,b) ∈ l→hasBit anc i=true→hasBit m i=false→k ≠ n0+i)∧(view n0 l m x anc).get k=x.get k):=by
 by_cases h:∃ i b,(i,b) ∈ l∧hasBit anc i=true∧hasBit m i=false∧k=n0+i
 · obtain ⟨i,b,h1,h2,h3,rfl⟩:=h
   exact .inl ⟨i,b,h1,h2,h3,rfl,view_alloc ht one h1 h2 h3⟩
 · have h':∀ i b,(i,b) ∈ l→hasBit anc i=true→hasBit m i=false→k ≠ n0+i:=fun i b h1 h2 h3 q=>h ⟨i,b,h1,h2,h3,q⟩
   exact .inr ⟨h',view_other ht h'⟩
def xrel (E:Env):X→Exit→Prop
 | .normal,.normal=>True
 | .exit i,.exit j=>i=j
 | .ret,.ret=>True
 | .panic v,.panic chain=>∃ v',vrel E v v'∧chain=[{ v:=v',recovered:=false }]
 | _,_=>False
section
variable {P:Program} {cf:CallF} {ops:Array Oper} {n0 N lim:Nat} {h0:Tr O} {fr0:Tr V} {val:Nat→V} {effs:List Eff} {d:Dr} {E0:Env} {w0:World} {ds0:List Deferred}
structure Inv (ops:Array Oper) (n0 N lim:Nat) (h0:Tr O) (fr0:Tr V) (val:Nat→V) (effs:List Eff) (allocs:List (Nat × O)) (E0:Env) (w0:World) (ds0:List Deferred)
  (S:Nat→Bool) (ms J:Nat) (E:Env) (a:Act) (w:World):Prop where
 bits:∀ i,hasBit ms i=S i
 inS:∀ i,S i=true→i < lim
 closed:∀ (j:Nat) (o:Oper),S j=true→ops[j]? =some o→∀ e ∈ o.after,Region.binds .any e=true→S e.on=true
 effJ:∀ (c:Nat) (e:Eff),effs[c]? =some e→(S e.1=true ↔ c < J)
 Jle:J ≤ effs.length
 f1:∀ (j:Nat) (o:Oper) (t:Nat),S j=true→ops[j]? =some o→o.dst=some t→∃ v',a.tmps[t]? =some v'∧vrel E (val j) v'
 f2:∀ (t:Nat) (v:V),fr0.get t=some v→(∀ (j:Nat) (o:Oper),S j=true→ops[j]? =some o→o.dst ≠ some t)→∃ v',a.tmps[t]? =some v'∧vrel E v v'
 upd:Upd E0 h0 w0 E (view n0 allocs (effAt h0 (n0+ops.size) effs J).1 (effAt h0 (n0+ops.size) effs J).2.1 ms) w
 old:∀ k,k < n0→E.ι k=E0.ι k
 dom:∀ k p,E.ι k=some p→k < n0 ∨ (∃ i b,(i,b) ∈ allocs∧S i=true∧k=n0+i) ∨ (n0+ops.size ≤ k∧k < (effAt h0 (n0+ops.size) effs J).2.2)
 free:∀ i,i < ops.size→hasBit (effAt h0 (n0+ops.size) effs J).1 i=false→(effAt h0 (n0+ops.size) effs J).2.1.get (n0+i)=none
 cnt:n0+ops.size ≤ (effAt h0 (n0+ops.size) effs J).2.2
 size:a.tmps.size=N
 dfs:a.defers=ds0
theorem Inv.anc (hr:RegOk ops N) {allocs:List (Nat × O)} {S:Nat→Bool} {ms J:Nat} {E:Env} {a:Act} {w:World} (I:Inv ops n0 N lim h0 fr0 val effs allocs E0 w0 ds0 S ms J E a w) {j k:Nat} (hj:S j=true) (h:hasBit (msk ops j) k=true):S k=true:=
 msk_closed hr.edges (S:=fun i=>S i=true) (fun j o hs ho e he hb=>I.closed j o hs ho e he hb) j k hj h
theorem anc_ready (hr:RegOk ops N) {S:Nat→Bool} (hS:∀ (j:Nat) (o:Oper),S j=true→ops[j]? =some o→∀ e ∈ o.after,Region.binds .any e=true→S e.on=true) {j k:Nat} {o:Oper} (ho:ops[j]? =some o)
  (hd:∀ e ∈ o.after,Region.binds .any e=true→S e.on=true) (h:hasBit (msk ops j) k=true):S k=true:=by
 obtain ⟨e,h1,h2,h3⟩:=(msk_bit hr.edges ho).1 h
 rcases h3 with rfl | h3
 · exact hd e h1 h2
 · exact msk_closed hr.edges (S:=fun i=>S i=true) hS e.on k (hd e h1 h2) h3
theorem Inv.maskS (hr:RegOk ops N) (f:Facts P cf ops n0 h0 fr0 val effs lim d) {S:Nat→Bool} {ms J:Nat} {E:Env} {a:Act} {w:World}
  (I:Inv ops n0 N lim h0 fr0 val effs d.allocs E0 w0 ds0 S ms J E a w) {i:Nat} (h:hasBit (effAt h0 (n0+ops.size) effs J).1 i=true):S i=true:=by
 cases J with
 | zero=>simp [effAt,hasBit_zero] at h
 | succ c=>
   have hc:c < effs.length:=by have:=I.Jle; omega
   have he:effs[c]? =some effs[c]:=List.getElem?_eq_getElem hc
   simp only [effAt,he] at h
   obtain ⟨_,o,_,_,h3⟩:=f.effok c _ he
   rw [h3] at h
   exact I.anc hr ((I.effJ c _ he).2 (by omega)) h
theorem Inv.use (hr:RegOk ops N) {allocs:List (Nat × O)} {S:Nat→Bool} {ms J:Nat} {E:Env} {a:Act} {w:World} (I:Inv ops n0 N lim h0 fr0 val effs allocs E0 w0 ds0 S ms J E a w)
  {j:Nat} {o:Oper} (ho:ops[j]? =some o) (hj:S j=false) (hd:∀ e ∈ o.after,Region.binds .any e=true→S e.on=true) {fr:Tr V} (hf:FrAt ops fr0 val j fr) {t:Nat} (ht:t ∈ usesOf ops o) {v:V} (hv:fr.get t=some v):
  ∃ v',a.tmps[t]? =some v'∧vrel E v v':=by
 by_cases h:∃ i q,i < j∧ops[i]? =some q∧q.dst=some t
 · obtain ⟨i,q,h1,h2,h3⟩:=h
   have hu:=hr.use i j q o t h2 ho (by omega) h3 ht
   rw [if_pos h1] at hu
   have hi:=anc_ready hr I.closed ho hd hu
   have:=hf.new i q t h1 h2 h3
   rw [this] at hv; cases hv
   exact I.f1 i q t hi h2 h3
 · have hold:=hf.old t fun i q hi hq hd=>h ⟨i,q,hi,hq,hd⟩
   rw [hold] at hv
   refine I.f2 t v hv fun i q hi hq hdt=>?_
   have hne:i ≠ j:=by intro e; subst e; rw [hj] at hi; cases hi
   have hu:=hr.use i j q o t hq ho hne hdt ht
   split at hu
   · rename_i hlt; exact h ⟨i,q,hlt,hq,hdt⟩
   · have:=I.anc hr hi hu
     rw [hj] at this; cases this
theorem Inv.opds (hr:RegOk ops N) {allocs:List (Nat × O)} {S:Nat→Bool} {ms J:Nat} {E:Env} {a:Act} {w:World} (I:Inv ops n0 N lim h0 fr0 val effs allocs E0 w0 ds0 S ms J E a w)
  {j:Nat} {o:Oper} (ho:ops[j]? =some o) (hj:S j=false) (hd:∀ e ∈ o.after,Region.binds .any e=true→S e.on=true) {fr:Tr V} (hf:FrAt ops fr0 val j fr):∀ x ∈ o.op.operands,OpdRel E fr a.eval x:=by
 intro x hx v hv
 cases x with
 | tmp t=>
   have ht:t ∈ usesOf ops o:=by
    unfold usesOf
    refine List.mem_append_left _ (List.mem_filterMap.2 ⟨.tmp t,by simpa using hx,rfl⟩)
   obtain ⟨v',h1,h2⟩:=I.use hr ho hj hd hf ht hv
   simp only [Act.eval,Array.getD_eq_getD_getElem?,h1]; exact h2
 | const c=>exact ofVal_rel hv
 | func f=>simp only [opd,Option.some.injEq] at hv; subst hv; exact ⟨_,[],[],rfl,rfl,rfl,rfl⟩
 | global g=>exact gptr_rel I.upd.good.glob hv
theorem Inv.wanted (hr:RegOk ops N) {allocs:List (Nat × O)} {S:Nat→Bool} {ms J:Nat} {E:Env} {a:Act} {w:World} (I:Inv ops n0 N lim h0 fr0 val effs allocs E0 w0 ds0 S ms J E a w)
  {j:Nat} {o:Oper} (ho:ops[j]? =some o) (hj:S j=false) (hd:∀ e ∈ o.after,Region.binds .any e=true→S e.on=true) {fr:Tr V} (hf:FrAt ops fr0 val j fr) {b:Bool} (e:wantedV ops o fr=some b):
  Region.wanted o (yielded ops a.tmps)=b:=by
 refine wanted_rel (E:=E) (fun g want q t hg hq hdq v hv=>?_) e
 have ht:t ∈ usesOf ops o:=by
  unfold usesOf
  refine List.mem_append_right _ ?_
  simp only [hg,hq,hdq]; simp
 exact I.use hr ho hj hd hf ht hv
theorem Inv.frame (hr:RegOk ops N) {allocs:List (Nat × O)} {S:Nat→Bool} {ms J:Nat} {E E':Env} {a:Act} {w:World} (I:Inv ops n0 N lim h0 fr0 val effs allocs E0 w0 ds0 S ms J E a w)
  {j:Nat} {o:Oper} (ho:ops[j]? =some o) (hle:E.le E') {v':Value} (hv:vrel E' (val j) v'):
  (∀ (k:Nat) (q:Oper) (t:Nat),(S k || decide (k=j))=true→ops[k]? =some q→q.dst=some t→∃ v2,(a.put o.dst v').tmps[t]? =some v2∧vrel E' (val k) v2)∧
  (∀ (t:Nat) (v:V),fr0.get t=some v→(∀ (k:Nat) (q:Oper),(S k || decide (k=j))=true→ops[k]? =some q→q.dst ≠ some t)→∃ v2,(a.put o.dst v').tmps[t]? =some v2∧vrel E' v v2):=by
 have hdst:dstOk a.tmps.size o.dst:=by rw [I.size]; exact hr.dst j o ho
 refine ⟨fun k q t hk hq ht=>?_,fun t v hv0 ht=>?_⟩
 · by_cases c:k=j
   · subst c
     rw [ho] at hq; cases hq
     have:=hdst t ht
     exact ⟨v',by simp [Act.put,ht,this],hv⟩
   · have hk':S k=true:=by simpa [c] using hk
     obtain ⟨v2,h1,h2⟩:=I.f1 k q t hk' hq ht
     refine ⟨v2,?_,vrel_mono hle _ _ h2⟩
     cases hd:o.dst with
     | none=>exact h1
     | some u=>
       have hne:u ≠ t:=by intro e; subst e; exact c (hr.one k j q o u hq ho ht hd)
       simp [Act.put,hne,h1]
 · obtain ⟨v2,h1,h2⟩:=I.f2 t v hv0 fun k q hk hq=>ht k q (by simp [hk]) hq
   refine ⟨v2,?_,vrel_mono hle _ _ h2⟩
   cases hd:o.dst with
   | none=>exact h1
   | some u=>
     have hne:u ≠ t:=by intro e; subst e; exact ht j o (by simp) ho hd
     simp [Act.put,hne,h1]
end
end Go.Eng
