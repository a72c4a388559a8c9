/- The engine, part IN: data that come in, as deep values. No conditions: lemmas alone. -/
import Derived.Test.YtmjggdmekboefaaGreatDoorJointFive
import Derived.ProofKit
import Derived.OpenShut
set_option linter.unusedVariables false
set_option linter.unusedSimpArgs false
set_option linter.unusedSectionVars false
namespace Go.Eng
open Go Go.ChangeShapes Go.WideShapes
inductive Ty where
 | bool
 | int (k:IntKind)
 | str
 | slc (e:Ty)
 | agg (fs:List Ty)
 deriving Inhabited
mutual
def Ty.ok:Ty→List D→Prop
 | .bool,ds=>∃ b,ds=[.bool b]
 | .int k,ds=>∃ n,ds=[.int k n]∧(Lit.int k n).wf=true
 | .str,ds=>∃ s,ds=[.str s]∧s.length ≤ maxLen
 | .slc e,ds=>∃ rows:List (List D),ds=[.lst rows.length rows.flatten]∧rows.length ≤ maxLen∧∀ r ∈ rows,Ty.ok e r
 | .agg fs,ds=>Ty.oks fs ds
def Ty.oks:List Ty→List D→Prop
 | [],ds=>ds=[]
 | f :: fs,ds=>∃ a b,ds=a ++ b∧Ty.ok f a∧Ty.oks fs b
end
def fieldsTy (P:Program) (ty:TypeId→Option Ty):Nat→List Field→Option (List Ty × Nat)
 | off,[]=>some ([],off)
 | off,f :: fs=>if f.offset=off then (match ty f.type,fieldsTy P ty (off+P.cellsOf f.type) fs with
   | some a,some (l,n)=>some (a :: l,n)
   | _,_=>none) else none
def tyOf (P:Program):Nat→TypeId→Option Ty
 | 0,_=>none
 | d+1,t=>match P.underlying t with
   | some .bool=>some .bool
   | some (.int k)=>some (.int k)
   | some .string=>some .str
   | some (.slice e)=>match tyOf P d e,Nat.blt 0 (P.cellsOf e) with
     | some x,true=>some (.slc x)
     | _,_=>none
   | some (.array n e)=>match tyOf P d e,Nat.beq (n * P.cellsOf e) (P.cellsOf t) with
     | some x,true=>some (.agg (List.replicate n x))
     | _,_=>none
   | some (.struct fs)=>match fieldsTy P (tyOf P d) 0 fs.toList with
     | some (l,n)=>if n=P.cellsOf t then some (.agg l) else none
     | none=>none
   | _=>none
def phiW (w:World) (b:Nat):Option (Array Value):=match w.heap[b]? with
 | some (.cells c _ _)=>some c
 | _=>none
theorem phiW_ok (w:World):FzOk (phiW w) w:=by
 intro b c q
 unfold phiW at q
 split at q
 · rename_i c' el fz h; cases q; exact ⟨el,fz,h⟩
 · cases q
theorem cells?_spec {w:World} {a:Addr} {n:Nat} {cs:List Value} (h:w.cells? 0 a n=some cs):cs.length=n∧∀ i,i < n→w.cell? (a.add i)=cs[i]?:=by
 unfold World.cells? at h
 rw [if_pos (Nat.zero_le _)] at h
 have hl:cs.length=n:=by simpa using mapM_some_length h
 exact ⟨hl,fun i hi=>mapM_some_get h i i (by simp [hi])⟩
theorem cell?_spec {w:World} {b o:Nat} {v:Value} (h:w.cell? ⟨b,o,none⟩=some v):∃ c,phiW w b=some c∧c[o]? =some v:=by
 unfold World.cell? at h
 unfold phiW
 simp only at h
 split at h
 · rename_i c el fz hb
   simp only [Option.isSome_none,Bool.false_eq_true,if_false] at h
   exact ⟨c,by rw [hb],h⟩
 · cases h
section
variable {H:Type} {enc:TypeId × Value→H} {P:Program} {w:World} {spare:Nat→Bool} {held:Bool}
theorem rows_in {e:Ty} {b o k n:Nat} (f:List Value→Prop)
  (hf:∀ cs,f cs→∃ ds,e.ok ds∧drels (phiW w) ds cs) (hx:∀ i,i < n→∃ cs,w.cells? 0 ⟨b,o+i * k,none⟩ k=some cs∧f cs) (c:Array Value) (hc:0 < n→phiW w b=some c):
  ∀ m,m ≤ n→∃ (rows:List (List D)) (vs:List Value),rows.length=m∧(∀ r ∈ rows,e.ok r)∧drels (phiW w) rows.flatten vs∧vs.length=m * k∧∀ (j:Nat) (v:Value),vs[j]? =some v→c[o+j]? =some v
 | 0,_=>⟨[],[],rfl,by simp,rfl,by simp,by simp⟩
 | m+1,hm=>by
   obtain ⟨rows,vs,h1,h2,h3,h4,h5⟩:=rows_in f hf hx c hc m (by omega)
   obtain ⟨cs,k1,k2⟩:=hx m (by omega)
   obtain ⟨ds,g1,g2⟩:=hf cs k2
   obtain ⟨hl,hcell⟩:=cells?_spec k1
   refine ⟨rows ++ [ds],vs ++ cs,by simp [h1],fun r hr=>?_,?_,?_,fun j v hj=>?_⟩
   · rcases List.mem_append.1 hr with hr | hr
     · exact h2 r hr
     · rw [List.mem_singleton] at hr; subst hr; exact g1
   · rw [List.flatten_append]
     exact drels_append h3 (by simpa using g2)
   · rw [List.length_append,h4,hl,Nat.succ_mul]
   · by_cases q:j < vs.length
     · rw [List.getElem?_append_left q] at hj
       exact h5 j v hj
     · rw [List.getElem?_append_right (by omega)] at hj
       have hlt:=(List.getElem?_eq_some_iff.1 hj).1
       have:=hcell (j - vs.length) (by omega)
       rw [hj,Go.WideShapes.add_plain] at this
       obtain ⟨c',e1,e2⟩:=cell?_spec this
       rw [hc (by omega)] at e1
       cases e1
       rw [← e2]
       congr 1
       rw [h4]
       have:m * k ≤ j:=by omega
       omega
theorem deep_in:∀ (d:Nat) {t:TypeId} {T:Ty} {fuel:Nat} {cs:List Value} {x:DataW H × List MemPlace},tyOf P d t=some T→DataW.trod enc P w 0 spare held fuel t cs=some x→∃ ds,T.ok ds∧drels (phiW w) ds cs
 | 0,t,T,fuel,cs,x,h,_=>by simp [tyOf] at h
 | d+1,t,T,fuel,cs,x,h,hx=>by
   unfold tyOf at h
   split at h
   · rename_i ht
     cases h
     obtain ⟨b,rfl,_⟩:=DataW.trod_bool ht hx
     exact ⟨[.bool b],⟨b,rfl⟩,_,_,rfl,rfl,rfl,rfl⟩
   · rename_i k ht
     cases h
     obtain ⟨n,rfl,_,hw⟩:=DataW.trod_int ht hx
     exact ⟨[.int k n],⟨n,rfl,hw⟩,_,_,rfl,rfl,rfl,rfl⟩
   · rename_i ht
     cases h
     obtain ⟨s,rfl,_,hs⟩:=DataW.trod_string ht hx
     refine ⟨[.str s.data.toList],⟨_,rfl,?_⟩,_,_,rfl,?_,rfl,rfl⟩
     · exact hs
     · show Value.string s=Value.string ⟨s.data.toList.toArray⟩
       simp
   · rename_i e ht
     split at h
     case h_2=>cases h
     rename_i X hX hk
     cases h
     have hk:0 < P.cellsOf e:=Nat.le_of_ble_eq_true hk
     rcases DataW.trod_slice ht hx with ⟨rfl,_⟩ | ⟨a,len,cap,elems,rest,n,rfl,rfl,_,_,hlen,hcap,hel,hi,_,_⟩
     · exact ⟨[.lst 0 []],⟨[],rfl,by simp,by simp⟩,_,_,rfl,⟨none,0,[],rfl,Nat.le_refl _,rfl,fun _=>rfl,fun h=>absurd h (Nat.lt_irrefl _)⟩,rfl,rfl⟩
     · rcases Nat.eq_zero_or_pos len with h0 | hpos
       · subst h0
         exact ⟨[.lst 0 []],⟨[],rfl,by simp,by simp⟩,_,_,rfl,⟨some a,cap,[],rfl,Nat.zero_le _,rfl,fun _=>rfl,fun h=>absurd h (Nat.lt_irrefl _)⟩,rfl,rfl⟩
       · have hex:∀ i,i < len→∃ ci,w.cells? 0 (a.add (i * P.cellsOf e)) (P.cellsOf e)=some ci∧∃ y,DataW.trod enc P w 0 spare held n e ci=some y:=by
          intro i hlt
          have:=hi i hlt
          rw [List.getElem?_eq_getElem (by omega)] at this
          obtain ⟨ci,e1,e2⟩:=Option.bind_eq_some_iff.1 this
          exact ⟨ci,e1,_,e2⟩
         obtain ⟨c0,k1,_⟩:=hex 0 hpos
         obtain ⟨hl0,hc0⟩:=cells?_spec k1
         have h00:=hc0 0 hk
         obtain ⟨b,o,spot⟩:=a
         have hz:(⟨b,o,spot⟩:Addr).add (0 * P.cellsOf e)=⟨b,o,spot⟩:=by rw [Nat.zero_mul]; rfl
         rw [hz] at h00
         have hadd0:(⟨b,o,spot⟩:Addr).add 0=⟨b,o,spot⟩:=rfl
         rw [hadd0,List.getElem?_eq_getElem (by omega)] at h00
         have hspot:spot=none:=by
          unfold World.cell? at h00
          simp only at h00
          split at h00
          · split at h00
            · cases h00
            · rename_i q; cases spot with
              | none=>rfl
              | some _=>exact absurd rfl q
          · cases h00
         subst hspot
         obtain ⟨c,hc,_⟩:=cell?_spec h00
         obtain ⟨rows,vs,h1,h2,h3,h4,h5⟩:=rows_in (e:=X) (b:=b) (o:=o) (k:=P.cellsOf e) (n:=len) (fun ci=>∃ y,DataW.trod enc P w 0 spare held n e ci=some y)
          (fun ci ⟨y,hy⟩=>deep_in d hX hy) (fun i hlt=>by
           obtain ⟨ci,e1,e2⟩:=hex i hlt
           rw [Go.WideShapes.add_plain] at e1
           exact ⟨ci,e1,e2⟩) c (fun _=>hc) len (Nat.le_refl _)
         refine ⟨[.lst rows.length rows.flatten],⟨rows,rfl,by omega,h2⟩,_,_,rfl,?_,rfl,rfl⟩
         rw [h1]
         exact ⟨_,cap,vs,rfl,hlen,h3,fun h=>by omega,fun _=>⟨b,o,c,rfl,hc,h5⟩⟩
   · rename_i n e ht
     split at h
     case h_2=>cases h
     rename_i X hX hk
     cases h
     have hk:n * P.cellsOf e=P.cellsOf t:=Nat.eq_of_beq_eq_true hk
     obtain ⟨xs,m,rfl,_,hcl,hxl,hi⟩:=DataW.trod_array ht hx
     have key:∀ (q:Nat),q ≤ n→∃ ds,Ty.oks (List.replicate q X) ds∧drels (phiW w) ds (cs.drop ((n - q) * P.cellsOf e)):=by
      intro q
      induction q with
      | zero=>intro _; exact ⟨[],rfl,by rw [Nat.sub_zero,hk,← hcl,List.drop_length]; rfl⟩
      | succ q ih=>
        intro hq
        obtain ⟨ds,g1,g2⟩:=ih (by omega)
        have h1:=hi (n - (q+1)) (by omega)
        rw [List.getElem?_eq_getElem (by omega)] at h1
        obtain ⟨da,f1,f2⟩:=deep_in d hX h1
        refine ⟨da ++ ds,⟨da,ds,rfl,f1,g1⟩,?_⟩
        have e1:cs.drop ((n - (q+1)) * P.cellsOf e)=(cs.drop ((n - (q+1)) * P.cellsOf e)).take (P.cellsOf e) ++ cs.drop ((n - q) * P.cellsOf e):=by
         have e2:(n - q) * P.cellsOf e=P.cellsOf e+(n - (q+1)) * P.cellsOf e:=by
          rw [show n - q=(n - (q+1))+1 by omega,Nat.succ_mul]; omega
         rw [e2,Nat.add_comm (P.cellsOf e),← List.drop_drop,List.take_append_drop]
        rw [e1]
        exact drels_append f2 g2
     obtain ⟨ds,g1,g2⟩:=key n (Nat.le_refl _)
     refine ⟨ds,g1,?_⟩
     simpa using g2
   · rename_i fs ht
     split at h
     case h_2=>cases h
     rename_i l n hF
     split at h
     case isFalse=>cases h
     rename_i hn
     cases h
     obtain ⟨xs,m,rfl,_,hcl,hxl,hi⟩:=DataW.trod_struct ht hx
     have key:∀ (fl:List Field) (off:Nat) (l:List Ty),fieldsTy P (tyOf P d) off fl=some (l,n)→(∀ f ∈ fl,∃ y,DataW.trod enc P w 0 spare held m f.type ((cs.drop f.offset).take (P.cellsOf f.type))=some y)→∃ ds,Ty.oks l ds∧drels (phiW w) ds (cs.drop off):=by
      intro fl
      induction fl with
      | nil=>
        intro off l h _
        simp only [fieldsTy,Option.some.injEq,Prod.mk.injEq] at h
        obtain ⟨rfl,rfl⟩:=h
        exact ⟨[],rfl,by rw [hn,← hcl,List.drop_length]; rfl⟩
      | cons f fl ih=>
        intro off l h hy
        simp only [fieldsTy] at h
        split at h
        case isFalse=>cases h
        rename_i hoff
        split at h
        case h_2=>cases h
        rename_i a l2 n2 ha hl2
        simp only [Option.some.injEq,Prod.mk.injEq] at h
        obtain ⟨rfl,rfl⟩:=h
        obtain ⟨ds,g1,g2⟩:=ih _ _ hl2 fun f' hf'=>hy f' (by simp [hf'])
        obtain ⟨y,hy1⟩:=hy f (by simp)
        obtain ⟨da,f1,f2⟩:=deep_in d ha hy1
        refine ⟨da ++ ds,⟨da,ds,rfl,f1,g1⟩,?_⟩
        rw [hoff] at f2
        have e1:cs.drop off=(cs.drop off).take (P.cellsOf f.type) ++ cs.drop (off+P.cellsOf f.type):=by
         rw [← List.drop_drop,List.take_append_drop]
        rw [e1]
        exact drels_append f2 g2
     obtain ⟨ds,g1,g2⟩:=key fs.toList 0 l hF fun f hf=>by
      obtain ⟨i,hi1,hi2⟩:=List.getElem_of_mem hf
      have hi3:fs[i]? =some f:=by rw [← hi2]; simp at hi1; simp [hi1]
      have:=hi i f hi3
      rw [List.getElem?_eq_getElem (by have:=(Array.getElem?_eq_some_iff.1 hi3).1; omega)] at this
      exact ⟨_,this⟩
     exact ⟨ds,g1,by simpa using g2⟩
   · cases h
end
end Go.Eng
