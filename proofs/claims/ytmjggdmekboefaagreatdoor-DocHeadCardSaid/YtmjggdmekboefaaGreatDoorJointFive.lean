/- The engine, part RA: rows are frozen; contracts of functions on deep values. No conditions: lemmas alone. -/
import Derived.Test.YtmjggdmekboefaaGreatDoorJointFour
set_option linter.unusedVariables false
set_option linter.unusedSimpArgs false
set_option linter.unusedSectionVars false
namespace Go.Eng
open Go Go.RowKit
mutual
def V.deep:V→Bool
 | .ptr (some _)=>false
 | .slc (some _) _ _ _=>false
 | .map (some _)=>false
 | .fn f a c=>noYield f && (V.deeps a && V.deeps c)
 | .iface _ x=>V.deep x
 | .agg cs=>V.deeps cs
 | .tup cs=>V.deeps cs
 | _=>true
def V.deeps:List V→Bool
 | []=>true
 | x :: xs=>V.deep x && V.deeps xs
end
mutual
theorem deep_rel {E E':Env} (hφ:∀ b c,E.φ b=some c→E'.φ b=some c):∀ (v:V) (v':Value),v.deep=true→vrel E v v'→vrel E' v v'
 | .bool _,_,_,r=>r
 | .int _ _,_,_,r=>r
 | .str _,_,_,r=>r
 | .ptr none,_,_,r=>r
 | .ptr (some _),_,h,_=>by simp [V.deep] at h
 | .slc none _ _ _,_,_,r=>r
 | .slc (some _) _ _ _,_,h,_=>by simp [V.deep] at h
 | .map none,_,_,r=>r
 | .map (some _),_,h,_=>by simp [V.deep] at h
 | .fn f a c,_,h,⟨f',a',c',rf,ra,rc,q⟩=>by
   simp only [V.deep,Bool.and_eq_true] at h
   refine ⟨f',a',c',?_,deeps_rel hφ a a' h.2.1 ra,deeps_rel hφ c c' h.2.2 rc,q⟩
   cases f <;> first | exact rf | (simp [noYield] at h; done)
 | .nilFn,_,_,r=>r
 | .iface _ x,_,h,⟨x',r,q⟩=>⟨x',deep_rel hφ x x' (by simpa only [V.deep] using h) r,q⟩
 | .nilIface,_,_,r=>r
 | .agg cs,_,h,⟨cs',r,q⟩=>⟨cs',deeps_rel hφ cs cs' (by simpa only [V.deep] using h) r,q⟩
 | .tup cs,_,h,⟨cs',r,q⟩=>⟨cs',deeps_rel hφ cs cs' (by simpa only [V.deep] using h) r,q⟩
 | .lst _ _ _,_,_,r=>⟨drel_mono hφ _ _ r.1,r.2⟩
 | .fptr cs,_,_,⟨b,o,c,vs,e,e1,r,q⟩=>⟨b,o,c,vs,e,hφ _ _ e1,drels_mono hφ cs vs r,q⟩
theorem deeps_rel {E E':Env} (hφ:∀ b c,E.φ b=some c→E'.φ b=some c):∀ (v:List V) (v':List Value),V.deeps v=true→vrels E v v'→vrels E' v v'
 | [],_,_,r=>r
 | x :: xs,_,h,⟨y,ys,r,rs,q⟩=>by
   simp only [V.deeps,Bool.and_eq_true] at h
   exact ⟨y,ys,deep_rel hφ x y h.1 r,deeps_rel hφ xs ys h.2 rs,q⟩
end
section
variable (F:Nat→Option (List D))
mutual
def fzV:V→Option (List Prop × V)
 | .slc (some (m,o)) len cap esz=>match F m with
   | some cs=>match o with
     | 0=>some ([cs.length=len * esz],.lst false len cs)
     | o+1=>some ([],.lst false len ((cs.drop (o+1)).take (len * esz)))
   | none=>some ([],.slc (some (m,o)) len cap esz)
 | .ptr (some (m,o))=>match F m with
   | some _=>none
   | none=>some ([],.ptr (some (m,o)))
 | .map (some m)=>match F m with
   | some _=>none
   | none=>some ([],.map (some m))
 | .fn f a c=>match f with
   | .yield m=>match F m with
     | some _=>none
     | none=>match fzVs a with
       | some (A,a)=>match fzVs c with
         | some (B,c)=>some (A ++ B,.fn (.yield m) a c)
         | none=>none
       | none=>none
   | f=>match fzVs a with
     | some (A,a)=>match fzVs c with
       | some (B,c)=>some (A ++ B,.fn f a c)
       | none=>none
     | none=>none
 | .iface t x=>match fzV x with
   | some (A,x)=>some (A,.iface t x)
   | none=>none
 | .agg cs=>match fzVs cs with
   | some (A,cs)=>some (A,.agg cs)
   | none=>none
 | .tup cs=>match fzVs cs with
   | some (A,cs)=>some (A,.tup cs)
   | none=>none
 | .bool b=>some ([],.bool b)
 | .int k n=>some ([],.int k n)
 | .str s=>some ([],.str s)
 | .ptr none=>some ([],.ptr none)
 | .slc none l c e=>some ([],.slc none l c e)
 | .map none=>some ([],.map none)
 | .nilFn=>some ([],.nilFn)
 | .nilIface=>some ([],.nilIface)
 | .lst f n cs=>some ([],.lst f n cs)
 | .fptr cs=>some ([],.fptr cs)
def fzVs:List V→Option (List Prop × List V)
 | []=>some ([],[])
 | x :: xs=>match fzV x with
   | some (A,x)=>match fzVs xs with
     | some (B,xs)=>some (A ++ B,x :: xs)
     | none=>none
   | none=>none
end
end
def FzIn (F:Nat→Option (List D)) (E:Env) (φ:Nat→Option (Array Value)):Prop:=
 ∀ m cs,F m=some cs→∀ b s,E.ι m=some (b,s)→∃ c vs,φ b=some c∧drels φ cs vs∧∀ (j:Nat) (x:Value),vs[j]? =some x→c[s+j]? =some x
section
variable {F:Nat→Option (List D)} {E E':Env} (hF:FzIn F E E'.φ) (hι:∀ m,E'.ι m=E.ι m) (hβ:E'.β=E.β) (hφ:∀ b c,E.φ b=some c→E'.φ b=some c)
include hF hι hβ hφ
mutual
theorem fzV_rel:∀ (v v2:V) (A:List Prop) (v':Value),fzV F v=some (A,v2)→(∀ a ∈ A,a)→vrel E v v'→vrel E' v2 v'
 | .bool _,v2,A,_,h,_,r=>by simp only [fzV,Option.some.injEq,Prod.mk.injEq] at h; obtain ⟨rfl,rfl⟩:=h; exact r
 | .int _ _,v2,A,_,h,_,r=>by simp only [fzV,Option.some.injEq,Prod.mk.injEq] at h; obtain ⟨rfl,rfl⟩:=h; exact r
 | .str _,v2,A,_,h,_,r=>by simp only [fzV,Option.some.injEq,Prod.mk.injEq] at h; obtain ⟨rfl,rfl⟩:=h; exact r
 | .ptr none,v2,A,_,h,_,r=>by simp only [fzV,Option.some.injEq,Prod.mk.injEq] at h; obtain ⟨rfl,rfl⟩:=h; exact r
 | .slc none _ _ _,v2,A,_,h,_,r=>by simp only [fzV,Option.some.injEq,Prod.mk.injEq] at h; obtain ⟨rfl,rfl⟩:=h; exact r
 | .map none,v2,A,_,h,_,r=>by simp only [fzV,Option.some.injEq,Prod.mk.injEq] at h; obtain ⟨rfl,rfl⟩:=h; exact r
 | .nilFn,v2,A,_,h,_,r=>by simp only [fzV,Option.some.injEq,Prod.mk.injEq] at h; obtain ⟨rfl,rfl⟩:=h; exact r
 | .nilIface,v2,A,_,h,_,r=>by simp only [fzV,Option.some.injEq,Prod.mk.injEq] at h; obtain ⟨rfl,rfl⟩:=h; exact r
 | .lst f n cs,v2,A,_,h,_,r=>by
   simp only [fzV,Option.some.injEq,Prod.mk.injEq] at h; obtain ⟨rfl,rfl⟩:=h; exact ⟨drel_mono hφ _ _ r.1,r.2⟩
 | .fptr cs,v2,A,_,h,_,⟨b,o,c,vs,e,e1,r,q⟩=>by
   simp only [fzV,Option.some.injEq,Prod.mk.injEq] at h; obtain ⟨rfl,rfl⟩:=h; exact ⟨b,o,c,vs,e,hφ _ _ e1,drels_mono hφ cs vs r,q⟩
 | .ptr (some (m,o)),v2,A,_,h,_,⟨b,s,e,q⟩=>by
   simp only [fzV] at h
   split at h
   · cases h
   · simp only [Option.some.injEq,Prod.mk.injEq] at h; obtain ⟨rfl,rfl⟩:=h; exact ⟨b,s,(hι m).trans e,q⟩
 | .map (some m),v2,A,_,h,_,⟨b,e,q⟩=>by
   simp only [fzV] at h
   split at h
   · cases h
   · simp only [Option.some.injEq,Prod.mk.injEq] at h; obtain ⟨rfl,rfl⟩:=h; exact ⟨b,(hι m).trans e,q⟩
 | .slc (some (m,o)) len cap esz,v2,A,_,h,hA,⟨b,s,o',cap',e,q1,q2,q3,q4,q5⟩=>by
   simp only [fzV] at h
   split at h
   · rename_i cs hcs
     obtain ⟨c,vs,k1,k2,k3⟩:=hF m cs hcs b s e
     have key:∀ (ds:List D) (us:List Value),drels E'.φ ds us→(len=0→ds=[])→(0 < len→∀ (j:Nat) (x:Value),us[j]? =some x→c[s+o+j]? =some x)→vrel E' (.lst false len ds) (.slice (some ⟨b,o',none⟩) len cap'):=by
      intro ds us h1 h2 h3
      refine ⟨⟨_,cap',us,rfl,by omega,h1,h2,fun hp=>⟨b,o',c,rfl,k1,?_⟩⟩,fun q=>by cases q⟩
      rw [q1 (by omega)]
      exact h3 hp
     split at h
     · simp only [Option.some.injEq,Prod.mk.injEq] at h; obtain ⟨rfl,rfl⟩:=h
       rw [q5]
       have hl:cs.length=len * esz:=hA _ (List.mem_singleton.2 rfl)
       refine key cs vs k2 (fun z=>?_) (fun _ j x hx=>by rw [Nat.add_zero]; exact k3 j x hx)
       rw [z,Nat.zero_mul] at hl; exact List.length_eq_zero_iff.1 hl
     · rename_i o
       simp only [Option.some.injEq,Prod.mk.injEq] at h; obtain ⟨rfl,rfl⟩:=h
       rw [q5]
       refine key _ _ (drels_take (drels_drop k2)) (fun z=>by rw [z]; simp) (fun _ j x hx=>?_)
       rw [List.getElem?_take] at hx
       split at hx
       · rw [List.getElem?_drop] at hx; rw [← k3 _ x hx,Nat.add_assoc]
       · cases hx
   · simp only [Option.some.injEq,Prod.mk.injEq] at h; obtain ⟨rfl,rfl⟩:=h
     exact ⟨b,s,o',cap',(hι m).trans e,q1,q2,q3,by rw [hβ]; exact q4,q5⟩
 | .fn f a c,v2,A,_,h,hA,⟨f',a',c',rf,ra,rc,q⟩=>by
   simp only [fzV] at h
   split at h
   · rename_i m
     split at h
     · cases h
     · split at h
       case h_2=>cases h
       rename_i A1 a2 ha
       split at h
       case h_2=>cases h
       rename_i B1 c2 hc
       simp only [Option.some.injEq,Prod.mk.injEq] at h; obtain ⟨rfl,rfl⟩:=h
       obtain ⟨l,s,e,q2⟩:=rf
       exact ⟨f',a',c',⟨l,s,(hι m).trans e,q2⟩,fzVs_rel a a2 A1 a' ha (fun x hx=>hA x (List.mem_append.2 (.inl hx))) ra,fzVs_rel c c2 B1 c' hc (fun x hx=>hA x (List.mem_append.2 (.inr hx))) rc,q⟩
   · rename_i hne
     split at h
     case h_2=>cases h
     rename_i A1 a2 ha
     split at h
     case h_2=>cases h
     rename_i B1 c2 hc
     simp only [Option.some.injEq,Prod.mk.injEq] at h; obtain ⟨rfl,rfl⟩:=h
     refine ⟨f',a',c',?_,fzVs_rel a a2 A1 a' ha (fun x hx=>hA x (List.mem_append.2 (.inl hx))) ra,fzVs_rel c c2 B1 c' hc (fun x hx=>hA x (List.mem_append.2 (.inr hx))) rc,q⟩
     cases f <;> first | exact rf | exact (hne _ rfl).elim
 | .iface t x,v2,A,_,h,hA,⟨x',r,q⟩=>by
   simp only [fzV] at h
   split at h
   · rename_i A1 x2 hx
     simp only [Option.some.injEq,Prod.mk.injEq] at h; obtain ⟨rfl,rfl⟩:=h
     exact ⟨x',fzV_rel x x2 _ x' hx hA r,q⟩
   · cases h
 | .agg cs,v2,A,_,h,hA,⟨cs',r,q⟩=>by
   simp only [fzV] at h
   split at h
   · rename_i A1 x2 hx
     simp only [Option.some.injEq,Prod.mk.injEq] at h; obtain ⟨rfl,rfl⟩:=h
     exact ⟨cs',fzVs_rel cs x2 _ cs' hx hA r,q⟩
   · cases h
 | .tup cs,v2,A,_,h,hA,⟨cs',r,q⟩=>by
   simp only [fzV] at h
   split at h
   · rename_i A1 x2 hx
     simp only [Option.some.injEq,Prod.mk.injEq] at h; obtain ⟨rfl,rfl⟩:=h
     exact ⟨cs',fzVs_rel cs x2 _ cs' hx hA r,q⟩
   · cases h
theorem fzVs_rel:∀ (v v2:List V) (A:List Prop) (v':List Value),fzVs F v=some (A,v2)→(∀ a ∈ A,a)→vrels E v v'→vrels E' v2 v'
 | [],v2,A,_,h,_,r=>by simp only [fzVs,Option.some.injEq,Prod.mk.injEq] at h; obtain ⟨rfl,rfl⟩:=h; exact r
 | x :: xs,v2,A,_,h,hA,⟨y,ys,r,rs,q⟩=>by
   simp only [fzVs] at h
   split at h
   case h_2=>cases h
   rename_i A1 x2 hx
   split at h
   case h_2=>cases h
   rename_i B1 xs2 hxs
   simp only [Option.some.injEq,Prod.mk.injEq] at h; obtain ⟨rfl,rfl⟩:=h
   exact ⟨y,ys,fzV_rel x x2 A1 y hx (fun a ha=>hA a (List.mem_append.2 (.inl ha))) r,fzVs_rel xs xs2 B1 ys hxs (fun a ha=>hA a (List.mem_append.2 (.inr ha))) rs,q⟩
end
end
def rowD:O→Option (List D)
 | .deep cs=>some cs
 | .own k ks=>some (ks.map (.int k))
 | .cells cs=>deepsOf cs
 | _=>none
section
variable (F:Nat→Option (List D))
def fzTrV:Tr V→Option (List Prop × Tr V)
 | .nil=>some ([],.nil)
 | .node v l r=>match (match v with
    | none=>some ([],none)
    | some v=>match fzV F v with
      | some (A,v)=>some (A,some v)
      | none=>none:Option (List Prop × Option V)) with
   | some (A,v)=>match fzTrV l with
     | some (B,l)=>match fzTrV r with
       | some (C,r)=>some (A ++ (B ++ C),.node v l r)
       | none=>none
     | none=>none
   | none=>none
def fzEs:List (V × V × Nat)→Option (List Prop × List (V × V × Nat))
 | []=>some ([],[])
 | x :: xs=>match fzV F x.1 with
   | some (A,k)=>match fzV F x.2.1 with
     | some (B,v)=>match fzEs xs with
       | some (C,xs)=>some (A ++ (B ++ C),(k,v,x.2.2) :: xs)
       | none=>none
     | none=>none
   | none=>none
def fzO:O→Option (List Prop × O)
 | .cells cs=>match fzVs F cs with
   | some (A,cs)=>some (A,.cells cs)
   | none=>none
 | .map es c=>match fzEs F es with
   | some (A,es)=>some (A,.map es c)
   | none=>none
 | .siter s p=>some ([],.siter s p)
 | .ints k ks=>some ([],.ints k ks)
 | .own k ks=>some ([],.own k ks)
 | .deep cs=>some ([],.deep cs)
 | .buf e f s=>some ([],.buf e f s)
 | .bld t s x=>match fzV F x with
   | some (A,x)=>some (A,.bld t s x)
   | none=>none
 | .mapD k es=>some ([],.mapD k es)
 | .dfr=>some ([],.dfr)
 | .loop st pe fr ps a b=>match fzTrV F fr with
   | some (A,fr)=>some (A,.loop st pe fr ps a b)
   | none=>none
def fzTrO:Tr O→Option (List Prop × Tr O)
 | .nil=>some ([],.nil)
 | .node v l r=>match (match v with
    | none=>some ([],none)
    | some v=>match fzO F v with
      | some (A,v)=>some (A,some v)
      | none=>none:Option (List Prop × Option O)) with
   | some (A,v)=>match fzTrO l with
     | some (B,l)=>match fzTrO r with
       | some (C,r)=>some (A ++ (B ++ C),.node v l r)
       | none=>none
     | none=>none
   | none=>none
def fzDf:List (FuncId × List V × List V)→Option (List Prop × List (FuncId × List V × List V))
 | []=>some ([],[])
 | x :: xs=>match fzVs F x.2.1 with
   | some (A,c)=>match fzVs F x.2.2 with
     | some (B,a)=>match fzDf xs with
       | some (C,xs)=>some (A ++ (B ++ C),(x.1,c,a) :: xs)
       | none=>none
     | none=>none
   | none=>none
end
def fzN (h:Tr O) (ms:List Nat) (m:Nat):Option (List D):=match ms.any (Nat.beq m) with
 | true=>match h.get m with
   | some o=>rowD o
   | none=>none
 | false=>none
def fzCan (h:Tr O):List Nat→Bool
 | []=>true
 | m :: ms=>Nat.blt m top && ((match h.get m with | some o=>(match rowD o with | some _=>true | none=>false) | none=>false) && fzCan h ms)
def dropN:List Nat→Tr O→Tr O
 | [],h=>h
 | m :: ms,h=>dropN ms (h.set m none)
def fzS (ms:List Nat) (s:St):Option (List Prop × St):=match fzCan s.h ms with
 | true=>match fzTrV (fzN s.h ms) s.fr with
   | some (A,fr)=>match fzTrO (fzN s.h ms) s.h with
     | some (B,h)=>match fzDf (fzN s.h ms) s.dfs with
       | some (C,d)=>some (A ++ (B ++ C),{ fr:=fr,h:=dropN ms h,n:=s.n,dfs:=d })
       | none=>none
     | none=>none
   | none=>none
 | false=>none
theorem fzTrV_get {F:Nat→Option (List D)}:∀ (t t2:Tr V) (A:List Prop),fzTrV F t=some (A,t2)→∀ k v2,t2.get k=some v2→∃ v B,t.get k=some v∧fzV F v=some (B,v2)∧∀ b ∈ B,b ∈ A
 | .nil,t2,A,h,k,v2,hk=>by simp only [fzTrV,Option.some.injEq,Prod.mk.injEq] at h; obtain ⟨_,rfl⟩:=h; simp [Tr.get] at hk
 | .node v l r,t2,A,h,k,v2,hk=>by
   simp only [fzTrV] at h
   split at h
   case h_2=>cases h
   rename_i A1 v1 h1
   split at h
   case h_2=>cases h
   rename_i B1 l1 hl
   split at h
   case h_2=>cases h
   rename_i C1 r1 hr
   simp only [Option.some.injEq,Prod.mk.injEq] at h; obtain ⟨rfl,rfl⟩:=h
   simp only [Tr.get] at hk ⊢
   split at hk
   · subst hk
     cases v with
     | none=>simp at h1
     | some v=>
       simp only at h1
       split at h1
       · rename_i A0 v0 h0
         simp only [Prod.mk.injEq,Option.some.injEq] at h1; obtain ⟨rfl,rfl⟩:=h1
         exact ⟨v,A0,rfl,h0,fun b hb=>List.mem_append.2 (.inl hb)⟩
       · cases h1
   · rename_i k
     split at hk
     · rename_i hpar
       obtain ⟨v,B,q1,q2,q3⟩:=fzTrV_get l l1 B1 hl _ v2 hk
       exact ⟨v,B,q1,q2,fun b hb=>List.mem_append.2 (.inr (List.mem_append.2 (.inl (q3 b hb))))⟩
     · rename_i hpar
       obtain ⟨v,B,q1,q2,q3⟩:=fzTrV_get r r1 C1 hr _ v2 hk
       exact ⟨v,B,q1,q2,fun b hb=>List.mem_append.2 (.inr (List.mem_append.2 (.inr (q3 b hb))))⟩
theorem fzTrO_get {F:Nat→Option (List D)}:∀ (t t2:Tr O) (A:List Prop),fzTrO F t=some (A,t2)→∀ k v2,t2.get k=some v2→∃ v B,t.get k=some v∧fzO F v=some (B,v2)∧∀ b ∈ B,b ∈ A
 | .nil,t2,A,h,k,v2,hk=>by simp only [fzTrO,Option.some.injEq,Prod.mk.injEq] at h; obtain ⟨_,rfl⟩:=h; simp [Tr.get] at hk
 | .node v l r,t2,A,h,k,v2,hk=>by
   simp only [fzTrO] at h
   split at h
   case h_2=>cases h
   rename_i A1 v1 h1
   split at h
   case h_2=>cases h
   rename_i B1 l1 hl
   split at h
   case h_2=>cases h
   rename_i C1 r1 hr
   simp only [Option.some.injEq,Prod.mk.injEq] at h; obtain ⟨rfl,rfl⟩:=h
   simp only [Tr.get] at hk ⊢
   split at hk
   · subst hk
     cases v with
     | none=>simp at h1
     | some v=>
       simp only at h1
       split at h1
       · rename_i A0 v0 h0
         simp only [Prod.mk.injEq,Option.some.injEq] at h1; obtain ⟨rfl,rfl⟩:=h1
         exact ⟨v,A0,rfl,h0,fun b hb=>List.mem_append.2 (.inl hb)⟩
       · cases h1
   · rename_i k
     split at hk
     · obtain ⟨v,B,q1,q2,q3⟩:=fzTrO_get l l1 B1 hl _ v2 hk
       exact ⟨v,B,q1,q2,fun b hb=>List.mem_append.2 (.inr (List.mem_append.2 (.inl (q3 b hb))))⟩
     · obtain ⟨v,B,q1,q2,q3⟩:=fzTrO_get r r1 C1 hr _ v2 hk
       exact ⟨v,B,q1,q2,fun b hb=>List.mem_append.2 (.inr (List.mem_append.2 (.inr (q3 b hb))))⟩
section
variable {F:Nat→Option (List D)} {E E':Env} (hF:FzIn F E E'.φ) (hι:∀ m,E'.ι m=E.ι m) (hβ:E'.β=E.β) (hφ:∀ b c,E.φ b=some c→E'.φ b=some c)
include hF hι hβ hφ
theorem fzEs_rel:∀ (es es2:List (V × V × Nat)) (A:List Prop) (l:List MapEntry),fzEs F es=some (A,es2)→(∀ a ∈ A,a)→erels E es l→erels E' es2 l
 | [],es2,A,_,h,_,r=>by simp only [fzEs,Option.some.injEq,Prod.mk.injEq] at h; obtain ⟨rfl,rfl⟩:=h; exact r
 | x :: xs,es2,A,_,h,hA,⟨y,ys,r1,r2,r3,rs,q⟩=>by
   simp only [fzEs] at h
   split at h
   case h_2=>cases h
   rename_i A1 k hk
   split at h
   case h_2=>cases h
   rename_i B1 v hv
   split at h
   case h_2=>cases h
   rename_i C1 xs2 hxs
   simp only [Option.some.injEq,Prod.mk.injEq] at h; obtain ⟨rfl,rfl⟩:=h
   exact ⟨y,ys,fzV_rel hF hι hβ hφ _ _ _ _ hk (fun a ha=>hA a (by simp [ha])) r1,fzV_rel hF hι hβ hφ _ _ _ _ hv (fun a ha=>hA a (by simp [ha])) r2,r3,fzEs_rel xs xs2 C1 ys hxs (fun a ha=>hA a (by simp [ha])) rs,q⟩
theorem fzO_rel {w:World} {b s:Nat}:∀ (o o2:O) (A:List Prop),fzO F o=some (A,o2)→(∀ a ∈ A,a)→orel E w b s o→orel E' w b s o2
 | .cells cs,o2,A,h,hA,⟨c,el,fz,h1,h2,h3,h4⟩=>by
   simp only [fzO] at h
   split at h
   case h_2=>cases h
   rename_i A1 cs2 hcs
   simp only [Option.some.injEq,Prod.mk.injEq] at h; obtain ⟨rfl,rfl⟩:=h
   obtain ⟨vs,k1,k2⟩:=crel_iff.1 h4
   exact ⟨c,el,fz,h1,by rw [hβ]; exact h2,h3,crel_iff.2 ⟨vs,fzVs_rel hF hι hβ hφ _ _ _ _ hcs hA k1,k2⟩⟩
 | .map es cl,o2,A,h,hA,⟨hs,es',h1,h2⟩=>by
   simp only [fzO] at h
   split at h
   case h_2=>cases h
   rename_i A1 es2 hes
   simp only [Option.some.injEq,Prod.mk.injEq] at h; obtain ⟨rfl,rfl⟩:=h
   exact ⟨hs,es',h1,fzEs_rel hF hι hβ hφ _ _ _ _ hes hA h2⟩
 | .siter st p,o2,A,h,_,r=>by simp only [fzO,Option.some.injEq,Prod.mk.injEq] at h; obtain ⟨rfl,rfl⟩:=h; exact r
 | .ints k ks,o2,A,h,_,⟨c,el,fz,h1,h2,h3⟩=>by simp only [fzO,Option.some.injEq,Prod.mk.injEq] at h; obtain ⟨rfl,rfl⟩:=h; exact ⟨c,el,fz,h1,by rw [hβ]; exact h2,h3⟩
 | .own k ks,o2,A,h,_,⟨c,el,fz,h1,h2,h3,h4⟩=>by simp only [fzO,Option.some.injEq,Prod.mk.injEq] at h; obtain ⟨rfl,rfl⟩:=h; exact ⟨c,el,fz,h1,by rw [hβ]; exact h2,h3,crel_ints_env h4⟩
 | .deep cs,o2,A,h,_,⟨c,el,fz,vs,h1,h2,h3,h4,h5⟩=>by simp only [fzO,Option.some.injEq,Prod.mk.injEq] at h; obtain ⟨rfl,rfl⟩:=h; exact ⟨c,el,fz,vs,h1,by rw [hβ]; exact h2,h3,drels_mono hφ _ _ h4,h5⟩
 | .buf el fro t,o2,A,h,_,⟨c,fz,xs,h1,h0,h2,h3⟩=>by simp only [fzO,Option.some.injEq,Prod.mk.injEq] at h; obtain ⟨rfl,rfl⟩:=h; exact ⟨c,fz,xs,h1,h0,by rw [hβ]; exact h2,h3⟩
 | .bld t self x,o2,A,h,hA,⟨hs,x',fz,h1,h2,h3,h4⟩=>by
   simp only [fzO] at h
   split at h
   case h_2=>cases h
   rename_i A1 x2 hx
   simp only [Option.some.injEq,Prod.mk.injEq] at h; obtain ⟨rfl,rfl⟩:=h
   exact ⟨hs,x',fz,h1,by rw [hβ]; exact h2,h3,fzV_rel hF hι hβ hφ _ _ _ _ hx hA h4⟩
 | .mapD kk es,o2,A,h,_,⟨hs,es',cl,h1,h2⟩=>by simp only [fzO,Option.some.injEq,Prod.mk.injEq] at h; obtain ⟨rfl,rfl⟩:=h; exact ⟨hs,es',cl,h1,h2.mono hφ⟩
 | .dfr,o2,A,h,_,r=>by simp only [fzO,Option.some.injEq,Prod.mk.injEq] at h; obtain ⟨rfl,rfl⟩:=h; exact r
 | .loop st pe fr ps a b',o2,A,h,hA,⟨r,h1,h2,h3,h4,h5,h6,h7,h8⟩=>by
   simp only [fzO] at h
   split at h
   case h_2=>cases h
   rename_i A1 fr2 hfr
   simp only [Option.some.injEq,Prod.mk.injEq] at h; obtain ⟨rfl,rfl⟩:=h
   refine ⟨r,h1,h2,h3,h4,h5,h6,fun t v e=>?_,h8⟩
   obtain ⟨v0,B,q1,q2,q3⟩:=fzTrV_get _ _ _ hfr t v e
   obtain ⟨v',k1,k2⟩:=h7 t v0 q1
   exact ⟨v',k1,fzV_rel hF hι hβ hφ _ _ _ _ q2 (fun x hx=>hA x (q3 x hx)) k2⟩
theorem fzDf_rel:∀ (xs xs2:List (FuncId × List V × List V)) (A:List Prop) (ys:List Deferred),fzDf F xs=some (A,xs2)→(∀ a ∈ A,a)→dfrel E xs ys→dfrel E' xs2 ys
 | [],xs2,A,_,h,_,r=>by simp only [fzDf,Option.some.injEq,Prod.mk.injEq] at h; obtain ⟨rfl,rfl⟩:=h; exact r
 | x :: xs,xs2,A,_,h,hA,⟨d,ys,r1,rs,q⟩=>by
   simp only [fzDf] at h
   split at h
   case h_2=>cases h
   rename_i A1 c hc
   split at h
   case h_2=>cases h
   rename_i B1 a ha
   split at h
   case h_2=>cases h
   rename_i C1 xs3 hxs
   simp only [Option.some.injEq,Prod.mk.injEq] at h; obtain ⟨rfl,rfl⟩:=h
   refine ⟨d,ys,?_,fzDf_rel xs xs3 C1 ys hxs (fun a ha=>hA a (by simp [ha])) rs,q⟩
   rcases r1 with ⟨hx,c',a',q1,q2,q3⟩ | ⟨hx,m,b,s,q1,q2,q3⟩
   · exact .inl ⟨hx,c',a',fzVs_rel hF hι hβ hφ _ _ _ _ hc (fun a ha=>hA a (by simp [ha])) q1,fzVs_rel hF hι hβ hφ _ _ _ _ ha (fun a ha=>hA a (by simp [ha])) q2,q3⟩
   · refine .inr ⟨hx,m,b,s,?_,(hι m).trans q2,q3⟩
     have q1:x.2.2=[V.map (some m)]:=q1
     rw [q1] at ha
     simp only [fzVs,fzV] at ha
     cases hm:F m with
     | some _=>rw [hm] at ha; cases ha
     | none=>rw [hm] at ha; simp only [Option.some.injEq,Prod.mk.injEq] at ha; exact ha.2.symm
end
theorem fzO_wr {F:Nat→Option (List D)} {o o2:O} {A:List Prop} (h:fzO F o=some (A,o2)):o2.wr=o.wr:=by
 cases o <;> simp only [fzO] at h <;> (try split at h) <;> first | (simp only [Option.some.injEq,Prod.mk.injEq] at h; obtain ⟨_,rfl⟩:=h; rfl) | cases h
theorem dropN_get:∀ (ms:List Nat) (h:Tr O) (k:Nat),(∀ m ∈ ms,m < top)→(dropN ms h).get k=if k ∈ ms then none else h.get k
 | [],h,k,_=>by simp [dropN]
 | m :: ms,h,k,ht=>by
   rw [dropN,dropN_get ms _ k fun m hm=>ht m (by simp [hm]),Tr.get_set _ _ _ (ht m (by simp))]
   by_cases h1:k ∈ ms
   · simp [h1]
   · by_cases h2:k=m
     · simp [h2]
     · simp [h1,h2]
theorem fzCan_spec {h:Tr O}:∀ {ms:List Nat},fzCan h ms=true→∀ m ∈ ms,m < top∧∃ o cs,h.get m=some o∧rowD o=some cs
 | [],_,m,hm=>by simp at hm
 | x :: ms,h,m,hm=>by
   simp only [fzCan,Bool.and_eq_true] at h
   rcases List.mem_cons.1 hm with rfl | hm
   · refine ⟨Nat.le_of_ble_eq_true h.1,?_⟩
     have:=h.2.1
     split at this
     · rename_i o ho
       split at this
       · rename_i cs hc; exact ⟨o,cs,ho,hc⟩
       · cases this
     · cases this
   · exact fzCan_spec h.2.2 m hm
theorem fzN_spec {h:Tr O} {ms:List Nat} {m:Nat} {cs:List D} (e:fzN h ms m=some cs):m ∈ ms∧∃ o,h.get m=some o∧rowD o=some cs:=by
 unfold fzN at e
 split at e
 · rename_i ha
   split at e
   · rename_i o ho
     obtain ⟨x,hx,q⟩:=List.any_eq_true.1 ha
     have:=Nat.eq_of_beq_eq_true q
     subst this
     exact ⟨hx,o,ho,e⟩
   · cases e
 · cases e
theorem rowD_wr {o:O} {cs:List D} (h:rowD o=some cs):o.wr=true:=by cases o <;> simp [rowD] at h <;> rfl
theorem rowD_rel {E:Env} {w:World} {b s:Nat} {o:O} {cs:List D} (h:rowD o=some cs) (r:orel E w b s o):∃ c el fz vs,w.heap[b]? =some (.cells c el fz)∧drels E.φ cs vs∧∀ (j:Nat) (x:Value),vs[j]? =some x→c[s+j]? =some x:=by
 cases o <;> simp only [rowD,Option.some.injEq,reduceCtorEq] at h
 · obtain ⟨c,el,fz,h1,_,_,h4⟩:=r
   obtain ⟨vs,k1,k2⟩:=crel_iff.1 h4
   exact ⟨c,el,fz,vs,h1,deepsOf_eq h k1,k2⟩
 · rename_i k ks
   subst h
   obtain ⟨c,el,fz,h1,_,_,h4⟩:=r
   have e:D.toVs (ks.map (.int k))=ks.map (.int k):=by rw [D.toVs_map,List.map_map]; rfl
   obtain ⟨vs,k1,k2⟩:=(crel_deep (fun x hx=>by obtain ⟨_,_,rfl⟩:=List.mem_map.1 hx; rfl)).1 (by rw [e]; exact h4:crel E s (D.toVs (ks.map (.int k))) c)
   exact ⟨c,el,fz,vs,h1,k1,k2⟩
 · subst h
   obtain ⟨c,el,fz,vs,h1,_,_,h4,h5⟩:=r
   exact ⟨c,el,fz,vs,h1,h4,h5⟩
open Classical in
noncomputable def phiF (E:Env) (F:Nat→Option (List D)) (w:World) (b:Nat):Option (Array Value):=if ∃ m s,(F m).isSome=true∧E.ι m=some (b,s) then (match w.heap[b]? with | some (.cells c _ _)=>some c | _=>none) else E.φ b
theorem fzS_sound {n0 N:Nat} {ms:List Nat} {s s2:St} {A:List Prop} {E:Env} {a:Act} {w:World} (e:fzS ms s=some (A,s2)) (hA:∀ x ∈ A,x) (r:SRel E N s a w) (hn:n0 ≤ s.n):
  ∃ E2,SRel E2 N s2 a w∧UpdL n0 E s.h w E2 s2.h w∧n0 ≤ s2.n∧(∀ m,E2.ι m=E.ι m):=by
 unfold fzS at e
 split at e
 case h_2=>cases e
 rename_i hcan
 split at e
 case h_2=>cases e
 rename_i A1 fr2 hfr
 split at e
 case h_2=>cases e
 rename_i B1 h2 hh
 split at e
 case h_2=>cases e
 rename_i C1 d2 hd2
 simp only [Option.some.injEq,Prod.mk.injEq] at e
 obtain ⟨rfl,rfl⟩:=e
 have hcan:=fzCan_spec hcan
 generalize hFd:fzN s.h ms=F at *
 have g:=r.good
 have hFm:∀ m cs,F m=some cs→m ∈ ms∧∃ o,s.h.get m=some o∧rowD o=some cs:=fun m cs q=>fzN_spec (h:=s.h) (ms:=ms) (by rw [hFd]; exact q)
 have hmF:∀ m,m ∈ ms→(F m).isSome=true:=by
  intro m hm
  obtain ⟨_,o,cs,h1,h3⟩:=hcan m hm
  rw [← hFd]
  unfold fzN
  rw [show ms.any (Nat.beq m)=true from List.any_eq_true.2 ⟨m,hm,Nat.beq_refl m⟩,h1]
  simp only [h3]; rfl
 have hsub:∀ b c,E.φ b=some c→phiF E F w b=some c:=by
  intro b c q
  unfold phiF
  rw [if_neg]; · exact q
  rintro ⟨m,s',h1,h3⟩
  obtain ⟨cs,hcs⟩:=Option.isSome_iff_exists.1 h1
  obtain ⟨_,o,k1,k2⟩:=hFm m cs hcs
  exact (g.froz b c q).2 m s' ⟨o,k1,rowD_wr k2⟩ h3
 let E2:Env:=⟨E.ι,E.β,phiF E F w⟩
 have hFz:FzIn F E E2.φ:=by
  intro m cs hcs b s' hb
  obtain ⟨_,o,k1,k2⟩:=hFm m cs hcs
  obtain ⟨b',t,q1,q2⟩:=g.rel m o k1
  rw [hb] at q1; cases q1
  obtain ⟨c,el,fz,vs,p1,p2,p3⟩:=rowD_rel k2 q2
  refine ⟨c,vs,?_,drels_mono hsub _ _ p2,p3⟩
  show phiF E F w b=some c
  unfold phiF
  rw [if_pos ⟨m,s',by rw [hcs]; rfl,hb⟩,p1]
 have hA1:∀ x ∈ A1,x:=fun x hx=>hA x (by simp [hx])
 have hB1:∀ x ∈ B1,x:=fun x hx=>hA x (by simp [hx])
 have hC1:∀ x ∈ C1,x:=fun x hx=>hA x (by simp [hx])
 have hget:∀ k o2,(dropN ms h2).get k=some o2→k ∉ ms∧∃ o B,s.h.get k=some o∧fzO F o=some (B,o2)∧∀ b ∈ B,b:=by
  intro k o2 q
  rw [dropN_get ms h2 k fun m hm=>(hcan m hm).1] at q
  split at q
  · cases q
  · rename_i hk
    obtain ⟨o,B,q1,q2,q3⟩:=fzTrO_get _ _ _ hh k o2 q
    exact ⟨hk,o,B,q1,q2,fun b hb=>hB1 b (q3 b hb)⟩
 have hwl:∀ k,wlive (dropN ms h2) k→k ∉ ms∧wlive s.h k:=by
  rintro k ⟨o2,q1,q2⟩
  obtain ⟨hk,o,B,p1,p2,_⟩:=hget k o2 q1
  exact ⟨hk,o,p1,(fzO_wr p2).symm.trans q2⟩
 have hlv:∀ k,(dropN ms h2).get k ≠ none→s.h.get k ≠ none:=by
  intro k q
  obtain ⟨o2,q⟩:=Option.ne_none_iff_exists'.1 q
  obtain ⟨_,o,_,p1,_⟩:=hget k o2 q
  rw [p1]; simp
 have good2:Good E2 (dropN ms h2) w:=by
  refine ⟨fun m o2 hm=>?_,fun m m' b t t' hne hm hm' e1 e2=>g.inj m m' b t t' hne (hwl m hm).2 (hlv m' hm') e1 e2,g.bnd,g.glob,fun b c q=>?_⟩
  · obtain ⟨_,o,B,p1,p2,p3⟩:=hget m o2 hm
    obtain ⟨b,t,q1,q2⟩:=g.rel m o p1
    exact ⟨b,t,q1,fzO_rel (E':=E2) hFz (fun _=>rfl) rfl hsub o o2 B p2 p3 q2⟩
  · have q:phiF E F w b=some c:=q
    unfold phiF at q
    split at q
    · rename_i hex
      obtain ⟨m,t,h1,h3⟩:=hex
      obtain ⟨cs,hcs⟩:=Option.isSome_iff_exists.1 h1
      obtain ⟨hms,o,k1,k2⟩:=hFm m cs hcs
      refine ⟨?_,fun m' t' hm' e1=>?_⟩
      · split at q
        · rename_i c' el fz hc; cases q; exact ⟨el,fz,hc⟩
        · cases q
      · obtain ⟨hnm,hw'⟩:=hwl m' hm'
        exact g.inj m m' b t t' (fun z=>hnm (z ▸ hms)) ⟨o,k1,rowD_wr k2⟩ hw'.live h3 e1
    · exact ⟨(g.froz b c q).1,fun m' t' hm'=>(g.froz b c q).2 m' t' (hwl m' hm').2⟩
 refine ⟨E2,⟨good2,r.dom,fun t v2 hv=>?_,r.size,fzDf_rel (E':=E2) hFz (fun _=>rfl) rfl hsub _ _ _ _ hd2 hC1 r.dfs⟩,⟨fun m b t _ q=>⟨q,rfl⟩,fun _ _=>rfl,hsub,good2,Nat.le_refl _,rfl,rfl,rfl,fun _ _ _=>rfl,fun m b t hm q _=>⟨m,t,hlv m hm,q,fun z=>(hwl m z).2⟩,fun b c q=>?_⟩,hn,fun _=>rfl⟩
 · obtain ⟨v,B,q1,q2,q3⟩:=fzTrV_get _ _ _ hfr t v2 hv
   obtain ⟨v',k1,k2⟩:=r.fr t v q1
   exact ⟨v',k1,fzV_rel (E':=E2) hFz (fun _=>rfl) rfl hsub _ _ _ _ q2 (fun x hx=>hA1 x (q3 x hx)) k2⟩
 · have q:phiF E F w b=some c:=q
   unfold phiF at q
   split at q
   · rename_i hex
     obtain ⟨m,t,h1,h3⟩:=hex
     obtain ⟨cs,hcs⟩:=Option.isSome_iff_exists.1 h1
     obtain ⟨_,o,k1,k2⟩:=hFm m cs hcs
     exact .inr (.inr ⟨m,t,⟨o,k1,rowD_wr k2⟩,h3⟩)
   · exact .inl q
theorem TG_frz {P:Program} {n0 N:Nat} {c:Code} {s s2:St} {A:List Prop} {Q:Exit→St→Prop} (ms:List Nat) (e:fzS ms s=some (A,s2)) (hA:∀ x ∈ A,x) (h:TG P n0 N c s2 Q):TG P n0 N c s Q:=by
 intro E a w K r hn k
 obtain ⟨E2,r2,u2,hn2,_⟩:=fzS_sound e hA r hn
 exact h E2 a w K r2 hn2 fun y s' E' a' w' q u hn' r'=>k y s' E' a' w' q (u2.trans u) hn' r'
end Go.Eng
namespace Go.Eng
open Go Go.RowKit
def deepO (h:Tr O):List Nat→Option (Tr O)
 | []=>some h
 | m :: r=>match h.get m with
   | some (.cells cs)=>match deepsOf cs with
     | some ds=>match Nat.blt m top with
       | true=>deepO (h.set m (some (.deep ds))) r
       | false=>none
     | none=>none
   | some (.own k ks)=>match Nat.blt m top with
     | true=>deepO (h.set m (some (.deep (ks.map (.int k))))) r
     | false=>none
   | _=>none
theorem swap_good {E:Env} {h:Tr O} {w:World} {m:Nat} {o o2:O} (ht:m < top) (hm:h.get m=some o) (hw:o.wr=true) (ho:∀ b s,E.ι m=some (b,s)→orel E w b s o→orel E w b s o2) (g:Good E h w):
  Good E (h.set m (some o2)) w∧∀ j,((h.set m (some o2)).get j ≠ none ↔ h.get j ≠ none)∧(wlive (h.set m (some o2)) j→wlive h j):=by
 have hget:∀ j,(h.set m (some o2)).get j=if j=m then some o2 else h.get j:=fun j=>Tr.get_set _ _ _ ht
 have hlv:∀ j,((h.set m (some o2)).get j ≠ none ↔ h.get j ≠ none)∧(wlive (h.set m (some o2)) j→wlive h j):=by
  intro j
  rw [hget]
  by_cases q:j=m
  · subst q; rw [if_pos rfl,hm]; exact ⟨by simp,fun _=>⟨_,hm,hw⟩⟩
  · rw [if_neg q]; exact ⟨Iff.rfl,fun z=>wlive_ne ht z q⟩
 refine ⟨⟨fun j o' hj=>?_,fun j j' b s s' hne hj hj' e1 e2=>g.inj j j' b s s' hne ((hlv j).2 hj) ((hlv j').1.1 hj') e1 e2,g.bnd,g.glob,fun b c q=>⟨g.fz b c q,fun m' s hm'=>(g.froz b c q).2 m' s ((hlv m').2 hm')⟩⟩,hlv⟩
 rw [hget] at hj
 split at hj
 · rename_i q; subst q
   simp only [Option.some.injEq] at hj; subst hj
   obtain ⟨b,s,h1,h2⟩:=g.rel j _ hm
   exact ⟨b,s,h1,ho b s h1 h2⟩
 · exact g.rel j o' hj
theorem cells_deep {E:Env} {w:World} {b s:Nat} {cs:List V} {ds:List D} (hd:deepsOf cs=some ds) (r:orel E w b s (.cells cs)):orel E w b s (.deep ds):=by
 obtain ⟨c,el,fz,h1,h2,h3,h4⟩:=r
 obtain ⟨vs,k1,k2⟩:=crel_iff.1 h4
 exact ⟨c,el,fz,vs,h1,h2,h3,deepsOf_eq hd k1,k2⟩
theorem own_deep {E:Env} {w:World} {b s:Nat} {k:IntKind} {ks:List Int} (r:orel E w b s (.own k ks)):orel E w b s (.deep (ks.map (.int k))):=by
 obtain ⟨c,el,fz,h1,h2,h3,h4⟩:=r
 have e:D.toVs (ks.map (.int k))=ks.map (.int k):=by rw [D.toVs_map,List.map_map]; rfl
 obtain ⟨vs,k1,k2⟩:=(crel_deep (fun x hx=>by obtain ⟨_,_,rfl⟩:=List.mem_map.1 hx; rfl)).1 (by rw [e]; exact h4:crel E s (D.toVs (ks.map (.int k))) c)
 exact ⟨c,el,fz,vs,h1,h2,h3,k1,k2⟩
theorem deepO_good {E:Env} {w:World}:∀ (l:List Nat) (h h2:Tr O),deepO h l=some h2→Good E h w→Good E h2 w∧∀ m,(h2.get m ≠ none ↔ h.get m ≠ none)∧(wlive h2 m→wlive h m)
 | [],h,h2,e,g=>by simp only [deepO,Option.some.injEq] at e; subst e; exact ⟨g,fun m=>⟨Iff.rfl,id⟩⟩
 | m :: r,h,h2,e,g=>by
   unfold deepO at e
   split at e
   · rename_i cs hm
     split at e
     case h_2=>cases e
     rename_i ds hd
     split at e
     case h_2=>cases e
     rename_i ht
     obtain ⟨g1,k1⟩:=swap_good (Nat.le_of_ble_eq_true ht) hm rfl (fun b s _ q=>cells_deep hd q) g
     obtain ⟨g2,k2⟩:=deepO_good r _ h2 e g1
     exact ⟨g2,fun j=>⟨(k2 j).1.trans (k1 j).1,fun z=>(k1 j).2 ((k2 j).2 z)⟩⟩
   · rename_i k ks hm
     split at e
     case h_2=>cases e
     rename_i ht
     obtain ⟨g1,k1⟩:=swap_good (Nat.le_of_ble_eq_true ht) hm rfl (fun b s _ q=>own_deep q) g
     obtain ⟨g2,k2⟩:=deepO_good r _ h2 e g1
     exact ⟨g2,fun j=>⟨(k2 j).1.trans (k1 j).1,fun z=>(k1 j).2 ((k2 j).2 z)⟩⟩
   · cases e
def deepS (l:List Nat) (s:St):Option St:=match deepO s.h l with
 | some h=>some { s with h:=h }
 | none=>none
theorem TG_mem {P:Program} {n0 N:Nat} {c:Code} {s:St} {h2:Tr O} {Q:Exit→St→Prop} (hg:∀ E w,Good E s.h w→Good E h2 w∧∀ m,(h2.get m ≠ none ↔ s.h.get m ≠ none)∧(wlive h2 m→wlive s.h m)) (h:TG P n0 N c { s with h:=h2 } Q):TG P n0 N c s Q:=by
 intro E a w K r hn k
 obtain ⟨g2,k2⟩:=hg E w r.good
 have u:UpdL n0 E s.h w E h2 w:=⟨fun _ _ _ _ e=>⟨e,rfl⟩,fun _ _=>rfl,fun _ _ q=>q,g2,Nat.le_refl _,rfl,rfl,rfl,fun _ _ _=>rfl,fun m b s1 hm e1 _=>⟨m,s1,(k2 m).1.1 hm,e1,(k2 m).2⟩,fun _ _ q=>.inl q⟩
 exact h E a w K ⟨g2,r.dom,r.fr,r.size,r.dfs⟩ hn fun y s' E' a' w' q u' hn' r'=>k y s' E' a' w' q (u.trans u') hn' r'
theorem TG_deep {P:Program} {n0 N:Nat} {c:Code} {s s2:St} {Q:Exit→St→Prop} (l:List Nat) (e:deepS l s=some s2) (h:TG P n0 N c s2 Q):TG P n0 N c s Q:=by
 unfold deepS at e
 split at e
 case h_2=>cases e
 rename_i h2 hh
 simp only [Option.some.injEq] at e; subst e
 exact TG_mem (fun E w g=>deepO_good l s.h h2 hh g) h
theorem map0_deep {E:Env} {w:World} {b s:Nat} {c:Nat} (kd:Option IntKind) (r:orel E w b s (.map [] c)):orel E w b s (.mapD kd []):=by
 obtain ⟨hs,es',h1,h2⟩:=r
 have:es'.toList=[]:=h2
 refine ⟨hs,es',c,h1,⟨⟨[],.refl _,by rw [this]; rfl⟩,by simp,by simp,by rw [this]; simp,by rw [this]; simp⟩⟩
def mapO (h:Tr O):List (Nat × Option IntKind)→Option (Tr O)
 | []=>some h
 | (m,kd) :: r=>match h.get m with
   | some (.map [] _)=>match Nat.blt m top with
     | true=>mapO (h.set m (some (.mapD kd []))) r
     | false=>none
   | _=>none
theorem mapO_good {E:Env} {w:World}:∀ (l:List (Nat × Option IntKind)) (h h2:Tr O),mapO h l=some h2→Good E h w→Good E h2 w∧∀ m,(h2.get m ≠ none ↔ h.get m ≠ none)∧(wlive h2 m→wlive h m)
 | [],h,h2,e,g=>by simp only [mapO,Option.some.injEq] at e; subst e; exact ⟨g,fun m=>⟨Iff.rfl,id⟩⟩
 | (m,kd) :: r,h,h2,e,g=>by
   unfold mapO at e
   split at e
   case h_2=>cases e
   rename_i c hm
   split at e
   case h_2=>cases e
   rename_i ht
   obtain ⟨g1,k1⟩:=swap_good (Nat.le_of_ble_eq_true ht) hm rfl (fun b s _ q=>map0_deep kd q) g
   obtain ⟨g2,k2⟩:=mapO_good r _ h2 e g1
   exact ⟨g2,fun j=>⟨(k2 j).1.trans (k1 j).1,fun z=>(k1 j).2 ((k2 j).2 z)⟩⟩
def mapS (l:List (Nat × Option IntKind)) (s:St):Option St:=match mapO s.h l with
 | some h=>some { s with h:=h }
 | none=>none
theorem TG_map {P:Program} {n0 N:Nat} {c:Code} {s s2:St} {Q:Exit→St→Prop} (l:List (Nat × Option IntKind)) (e:mapS l s=some s2) (h:TG P n0 N c s2 Q):TG P n0 N c s Q:=by
 unfold mapS at e
 split at e
 case h_2=>cases e
 rename_i h2 hh
 simp only [Option.some.injEq] at e; subst e
 exact TG_mem (fun E w g=>mapO_good l s.h h2 hh g) h
def fzSs:List (List Nat)→St→Option (List Prop × St)
 | [],s=>some ([],s)
 | ms :: r,s=>match fzS ms s with
   | some (A,s)=>match fzSs r s with
     | some (B,s)=>some (A ++ B,s)
     | none=>none
   | none=>none
theorem fzSs_sound {n0 N:Nat} {w:World} {a:Act}:∀ (l:List (List Nat)) {s s2:St} {A:List Prop} {E:Env},fzSs l s=some (A,s2)→(∀ x ∈ A,x)→SRel E N s a w→n0 ≤ s.n→
  ∃ E2,SRel E2 N s2 a w∧UpdL n0 E s.h w E2 s2.h w∧n0 ≤ s2.n∧(∀ m,E2.ι m=E.ι m)
 | [],s,s2,A,E,e,_,r,hn=>by
   simp only [fzSs,Option.some.injEq,Prod.mk.injEq] at e; obtain ⟨rfl,rfl⟩:=e
   exact ⟨E,r,.refl r.good,hn,fun _=>rfl⟩
 | ms :: l,s,s2,A,E,e,hA,r,hn=>by
   simp only [fzSs] at e
   split at e
   case h_2=>cases e
   rename_i A1 s1 h1
   split at e
   case h_2=>cases e
   rename_i B1 s3 h3
   simp only [Option.some.injEq,Prod.mk.injEq] at e; obtain ⟨rfl,rfl⟩:=e
   obtain ⟨E1,r1,u1,n1,i1⟩:=fzS_sound h1 (fun x hx=>hA x (by simp [hx])) r hn
   obtain ⟨E2,r2,u2,n2,i2⟩:=fzSs_sound l h3 (fun x hx=>hA x (by simp [hx])) r1 n1
   exact ⟨E2,r2,u1.trans u2,n2,fun m=>(i2 m).trans (i1 m)⟩
def FzTo (v:V) (u:V) (h:Tr O) (n:Nat):Prop:=∃ l A s2,fzSs l { fr:=Tr.nil.set 0 (some u),h:=h,n:=n,dfs:=[] }=some (A,s2)∧(∀ a ∈ A,a)∧s2.fr.get 0=some v
theorem FzTo.self {v:V} {h:Tr O} {n:Nat}:FzTo v v h n:=⟨[],[],_,rfl,by simp,Tr.get_set_same _ _ (by decide)⟩
theorem cpost_deep {E E1:Env} {h h0 h':Tr O} {n n':Nat} {w w':World} {u v:V} {en:Ending} (g:Good E h w) (hd:Dom E n) (hφ:E1.φ=E.φ) (hro:∀ m,¬ wlive h0 m) (hv:v.deep=true) (hz:FzTo v u h' n')
  (c:CPost E1 h0 gN w (.ret u) h' n' en w'):CPost E h n w (.ret v) h n en w':=by
 obtain ⟨E2,u2,_,hdom,hn,ho⟩:=c
 cases en with
 | returned x=>
   have ho:vrel E2 u x:=ho
   obtain ⟨l,A,s2,e1,hA,e2⟩:=hz
   have sr:SRel E2 1 { fr:=Tr.nil.set 0 (some u),h:=h',n:=n',dfs:=[] } { tmps:=#[x],defers:=[] } w':=by
    refine ⟨u2.good,hdom,fun t y hy=>?_,rfl,rfl⟩
    rw [Tr.get_set _ _ _ (by decide)] at hy
    split at hy
    · rename_i q; subst q; cases hy; exact ⟨x,rfl,ho⟩
    · simp [Tr.get] at hy
   obtain ⟨E3,r3,u3,_,_⟩:=fzSs_sound (n0:=0) l e1 hA sr (Nat.zero_le _)
   obtain ⟨x',q1,q2⟩:=r3.fr 0 v e2
   simp only [List.getElem?_toArray,List.getElem?_cons_zero,Option.some.injEq] at q1
   subst q1
   have hkeep:∀ b,b < w.heap.size→w'.heap[b]? =w.heap[b]?:=fun b hb=>u2.keep b hb fun m s hm=>absurd hm (hro m)
   have bl:Below w.heap.size w w':=⟨u2.os,u2.tape,u2.output,u2.size,hkeep⟩
   have gb:=g.below bl
   have hfz3:∀ b c,E3.φ b=some c→E.φ b=some c ∨ w.heap.size ≤ b:=by
    intro b c q
    have k3:∀ m s,wlive h' m→E2.ι m=some (b,s)→w.heap.size ≤ b:=by
     intro m s hm e
     rcases Nat.lt_or_ge b w.heap.size with z | z
     · obtain ⟨m0,s0,_,_,k0⟩:=u2.img m b s hm.live e z
       exact absurd (k0 hm) (hro m0)
     · exact z
    rcases u3.fzn b c q with q | q | ⟨m,s,p1,p2⟩
    · rcases u2.fzn b c q with q | q | ⟨m,s,p1,p2⟩
      · exact .inl (hφ ▸ q)
      · exact .inr q
      · exact absurd p1 (hro m)
    · exact .inr (Nat.le_trans u2.size q)
    · exact .inr (k3 m s p1 p2)
   have hup:∀ b c,E.φ b=some c→E3.φ b=some c:=fun b c q=>u3.fz b c (u2.le.fz b c (hφ ▸ q))
   let E':Env:=⟨E.ι,E.β,E3.φ⟩
   have hle:E.le E':=⟨fun m b s q=>⟨q,rfl⟩,hup⟩
   have good':Good E' h w':=by
    refine ⟨fun m o hm=>?_,gb.inj,gb.bnd,gb.glob,fun b c q=>⟨r3.good.fz b c q,fun m s hm e=>?_⟩⟩
    · obtain ⟨b,s,k1,k2⟩:=gb.rel m o hm
      exact ⟨b,s,k1,orel_mono hle rfl rfl k2⟩
    · rcases hfz3 b c q with z | z
      · exact (g.froz b c z).2 m s hm e
      · have:=g.bnd m b s e; omega
   refine ⟨E',⟨hle,good',u2.size,u2.tape,u2.os,u2.output,fun b hb _=>hkeep b hb,fun m b s hm e _=>⟨m,s,hm,e,id⟩,fun b c q=>?_⟩,fun _ _=>rfl,hd,Nat.le_refl _,(deep_rel (E:=E3) (E':=E') (fun _ _ q=>q) v x hv q2:vrel E' v x)⟩
   rcases hfz3 b c q with z | z
   · exact .inl z
   · exact .inr (.inl z)
 | _=>exact ho.elim
def DeepTo (P:Program) (f:FuncId) (args:List V) (v:V):Prop:=∀ E h n w args',vrels E args args'→Good E h w→Dom E n→Calls P f args'.toArray w (CPost E h n w (.ret v) h n)
theorem deep_calls {P:Program} (hm:P.follows .mixedOrders=true) (hpo:progOk P=true) {f:FuncId} {fn:Func} {code:Code} (hf:P.funcs[f]? =some fn) (hb:fn.body=some code) {args:List V}
  (l:(Nat.ble args.length fn.ntmps && Nat.blt fn.ntmps top)=true) {v:V} (hdp:V.deeps args=true) (hv:v.deep=true) (hT:TG P gN fn.ntmps code (startSt args .nil gN) (RetG P gN fn (FzTo v))):DeepTo P f args v:=by
 intro E h n w args' ra g hd
 have g0:Good (E0F E.φ) .nil w:=good0F g.wg g.fz
 have ra0:vrels (E0F E.φ) args args':=deeps_rel (E:=E) (E':=E0F E.φ) (fun _ _ q=>q) _ _ hdp ra
 exact (calls_of_TG hm hpo hf hb l _ hT ra0 g0 (dom0F (Nat.le_refl _))).mono fun e w' ⟨u,h',n',hz,k⟩=>cpost_deep (E1:=E0F E.φ) g hd rfl nil_ro hv hz k
def dargs:List V→Option (List D)
 | []=>some []
 | x :: xs=>match V.toD x with
   | some d=>match dargs xs with
     | some l=>some (d :: l)
     | none=>none
   | none=>none
theorem dargs_rel {E:Env}:∀ {xs:List V} {ds:List D},dargs xs=some ds→∀ {l:List Value},vrels E xs l→vrels E (ds.map D.toV) l
 | [],ds,h,l,r=>by simp only [dargs,Option.some.injEq] at h; subst h; exact r
 | x :: xs,ds,h,l,r=>by
   simp only [dargs] at h
   split at h
   case h_2=>cases h
   rename_i d hd
   split at h
   case h_2=>cases h
   rename_i l' hl
   simp only [Option.some.injEq] at h; subst h
   obtain ⟨y,ys,r0,rs,rfl⟩:=r
   exact ⟨y,ys,drel_toV _ _ (toD_rel hd r0).1,dargs_rel hl rs,rfl⟩
mutual
theorem toV_deep:∀ d:D,d.toV.deep=true
 | .bool _=>rfl
 | .int _ _=>rfl
 | .str _=>rfl
 | .lst _ _=>rfl
 | .agg cs=>by simp only [D.toV,V.deep]; exact toVs_deep cs
theorem toVs_deep:∀ l:List D,V.deeps (D.toVs l)=true
 | []=>rfl
 | x :: xs=>by simp only [D.toVs,V.deeps,toV_deep x,toVs_deep xs,Bool.and_self]
end
theorem map_deep (l:List D):V.deeps (l.map D.toV)=true:=by rw [← D.toVs_map]; exact toVs_deep l
def dW (f:List D→Option (List Prop × V)):List V→Tr O→Nat→Option (List Prop × V × Tr O × Nat):=fun args h n=>match dargs args with
 | some ds=>match f ds with
   | some (A,v)=>some (A,v,h,n)
   | none=>none
 | none=>none
theorem dW_ok {P:Program} {f:FuncId} {spec:List D→Option (List Prop × V)} (hlt:f < P.funcs.size) (h:∀ args A v,spec args=some (A,v)→(∀ a ∈ A,a)→DeepTo P f (args.map D.toV) v):OneW P f (dW spec):=by
 refine ⟨hlt,fun args h' n A v h2 n2 e hA E w args' ra g hd hc=>?_⟩
 unfold dW at e
 split at e
 · rename_i ds hds
   split at e
   · rename_i A' v' hs
     simp only [Option.some.injEq,Prod.mk.injEq] at e
     obtain ⟨rfl,rfl,rfl,rfl⟩:=e
     exact h ds _ _ hs hA E h' n w args' (dargs_rel hds ra) g hd
   · cases e
 · cases e
end Go.Eng
namespace Go.Eng
open Go Go.RowKit
def Env.pick (E:Env) (ns:List (Option Nat)):Env:=⟨fun j=>match ns.getD j none with
 | some m=>E.ι m
 | none=>none,E.β,E.φ⟩
theorem pick_ι {E:Env} {ns:List (Option Nat)} {j m:Nat} (h:ns.getD j none=some m):(E.pick ns).ι j=E.ι m:=by
 show (match ns.getD j none with | some m=>E.ι m | none=>none)=_
 rw [h]
def muOf:List (Option Nat)→Nat→Nat→Option Nat
 | [],_,_=>none
 | none :: r,j,m=>muOf r (j+1) m
 | some k :: r,j,m=>match Nat.beq k m with
   | true=>some j
   | false=>muOf r (j+1) m
theorem muOf_spec:∀ (l:List (Option Nat)) (j m k:Nat),muOf l j m=some k→j ≤ k∧l.getD (k - j) none=some m
 | [],_,_,_,h=>by cases h
 | none :: r,j,m,k,h=>by
   obtain ⟨h1,h2⟩:=muOf_spec r (j+1) m k h
   refine ⟨by omega,?_⟩
   rw [show k - j=(k - (j+1))+1 by omega]; simpa using h2
 | some x :: r,j,m,k,h=>by
   simp only [muOf] at h
   split at h
   · rename_i hb
     simp only [Option.some.injEq] at h; subst h
     refine ⟨Nat.le_refl _,?_⟩
     simp [Nat.eq_of_beq_eq_true hb]
   · obtain ⟨h1,h2⟩:=muOf_spec r (j+1) m k h
     refine ⟨by omega,?_⟩
     rw [show k - j=(k - (j+1))+1 by omega]; simpa using h2
abbrev mu (ns:List (Option Nat)):Nat→Option Nat:=muOf ns 0
theorem mu_spec {ns:List (Option Nat)} {m k:Nat} (h:mu ns m=some k):ns.getD k none=some m:=by
 have:=(muOf_spec ns 0 m k h).2; simpa using this
theorem mu_ι {E:Env} {ns:List (Option Nat)}:∀ m k,mu ns m=some k→(E.pick ns).ι k=E.ι m:=fun _ _ h=>pick_ι (mu_spec h)
def nodupN:List (Option Nat)→Bool
 | []=>true
 | none :: r=>nodupN r
 | some k :: r=>!(r.any fun x=>match x with | some j=>Nat.beq k j | none=>false) && nodupN r
theorem nodupN_spec:∀ {l:List (Option Nat)},nodupN l=true→∀ i j m,l.getD i none=some m→l.getD j none=some m→i=j
 | [],_,i,_,_,h,_=>by simp at h
 | none :: r,h,i,j,m,h1,h2=>by
   cases i with
   | zero=>simp at h1
   | succ i=>cases j with
     | zero=>simp at h2
     | succ j=>rw [nodupN_spec (l:=r) h i j m (by simpa using h1) (by simpa using h2)]
 | some k :: r,h,i,j,m,h1,h2=>by
   simp only [nodupN,Bool.and_eq_true,Bool.not_eq_true'] at h
   have no:∀ q,r.getD q none ≠ some k:=by
    intro q hq
    have hm:some k ∈ r:=by
     rw [List.getD_eq_getElem?_getD] at hq
     cases hx:r[q]? with
     | none=>rw [hx] at hq; cases hq
     | some x=>rw [hx] at hq; simp only [Option.getD_some] at hq; subst hq; exact List.mem_of_getElem? hx
    have:(r.any fun x=>match x with | some j=>Nat.beq k j | none=>false)=true:=List.any_eq_true.2 ⟨_,hm,Nat.beq_refl k⟩
    rw [this] at h; cases h.1
   cases i with
   | zero=>
     simp at h1; subst h1
     cases j with
     | zero=>rfl
     | succ j=>exact absurd (by simpa using h2) (no j)
   | succ i=>cases j with
     | zero=>simp at h2; subst h2; exact absurd (by simpa using h1) (no i)
     | succ j=>rw [nodupN_spec h.2 i j m (by simpa using h1) (by simpa using h2)]
structure PickOk (ns:List (Option Nat)) (h h1:Tr O):Prop where
 glob:∀ p ∈ gtab,ns.getD p.2 none=some p.2
 one:nodupN ns=true
 live:∀ j m,ns.getD j none=some m→(∃ p ∈ gtab,p.2=m) ∨ h.get m ≠ none
 get:∀ j o1,h1.get j=some o1→∃ m o,ns.getD j none=some m∧h.get m=some o∧o.rn (mu ns)=some o1
theorem pick_ok {E:Env} {h h1:Tr O} {w:World} {ns:List (Option Nat)} (g:Good E h w) (k:PickOk ns h h1):Good (E.pick ns) h1 w∧Dom (E.pick ns) ns.length:=by
 have hw:∀ j,wlive h1 j→∃ m,ns.getD j none=some m∧wlive h m:=by
  rintro j ⟨o1,h2,h3⟩
  obtain ⟨m,o,q1,q2,q3⟩:=k.get j o1 h2
  exact ⟨m,q1,o,q2,(rn_wr q3).symm.trans h3⟩
 refine ⟨⟨fun j o1 hj=>?_,fun j j' b s s' hne hj hj' e1 e2=>?_,fun j b s e=>?_,fun p hp=>?_,fun b c q=>⟨g.fz b c q,fun j s hj e=>?_⟩⟩,fun j hj=>?_⟩
 · obtain ⟨m,o,q1,q2,q3⟩:=k.get j o1 hj
   obtain ⟨b,s,e1,e2⟩:=g.rel m o q2
   exact ⟨b,s,(pick_ι q1).trans e1,rnO_rel (E':=E.pick ns) mu_ι (fun _ _ _ _ _ _=>rfl) (fun _ _ q=>q) rfl o o1 q3 e2⟩
 · obtain ⟨m,q1,q2⟩:=hw j hj
   obtain ⟨o',hj'⟩:=Option.ne_none_iff_exists'.1 hj'
   obtain ⟨m',o,p1,p2,_⟩:=k.get j' o' hj'
   rw [pick_ι q1] at e1
   rw [pick_ι p1] at e2
   by_cases hm:m=m'
   · subst hm; exact hne (nodupN_spec k.one j j' m q1 p1)
   · exact g.inj m m' b s s' hm q2 (by rw [p2]; simp) e1 e2
 · have e:(match ns.getD j none with | some m=>E.ι m | none=>none)=some (b,s):=e
   split at e
   · exact g.bnd _ b s e
   · cases e
 · rw [pick_ι (k.glob p hp)]; exact g.glob p hp
 · obtain ⟨m,q1,q2⟩:=hw j hj
   rw [pick_ι q1] at e
   exact (g.froz b c q).2 m s q2 e
 · show (match ns.getD j none with | some m=>E.ι m | none=>none)=none
   rw [List.getD_eq_getElem?_getD,List.getElem?_eq_none (show ns.length ≤ j from hj)]
   rfl
def nuW (ns:List (Option Nat)) (h1':Tr O) (n0 n m:Nat):Option Nat:=match Nat.blt m n0 with
 | true=>ns.getD m none
 | false=>match h1'.get m with
   | some o=>match o.wr with
     | true=>some (n+(m - n0))
     | false=>none
   | none=>none
def embL (ν:Nat→Option Nat) (ns:List (Option Nat)) (h1 h1':Tr O):Nat→Nat→Tr O→Option (Tr O)
 | 0,_,h=>some h
 | i+1,q,h=>match h1.get q with
   | some o0=>match o0.wr with
     | true=>match ns.getD q none with
       | some m=>match Nat.blt m top with
         | true=>match h1'.get q with
           | some o=>match o.wr with
             | true=>match o.rn ν with
               | some o2=>embL ν ns h1 h1' i (q+1) (h.set m (some o2))
               | none=>none
             | false=>none
           | none=>embL ν ns h1 h1' i (q+1) (h.set m none)
         | false=>none
       | none=>none
     | false=>embL ν ns h1 h1' i (q+1) h
   | none=>embL ν ns h1 h1' i (q+1) h
def embH (ν:Nat→Option Nat) (h1:Tr O):Nat→Nat→Tr O→Option (Tr O)
 | 0,_,h=>some h
 | i+1,j,h=>match ν j with
   | none=>embH ν h1 i (j+1) h
   | some k=>match h1.get j with
     | some o=>match o.rn ν with
       | some o2=>match Nat.blt k top with
         | true=>embH ν h1 i (j+1) (h.set k (some o2))
         | false=>none
       | none=>none
     | none=>none
def embW (ns:List (Option Nat)) (h1:Tr O) (r:V × Tr O × Nat) (h:Tr O) (n:Nat):Option (V × Tr O × Nat):=
 match r.1.rn (nuW ns r.2.1 ns.length n) with
 | some v=>match embL (nuW ns r.2.1 ns.length n) ns h1 r.2.1 ns.length 0 h with
   | some h2=>match embH (nuW ns r.2.1 ns.length n) r.2.1 (r.2.2 - ns.length) ns.length h2 with
     | some h3=>some (v,h3,n+(r.2.2 - ns.length))
     | none=>none
   | none=>none
 | none=>none
theorem embL_spec {ν:Nat→Option Nat} {ns:List (Option Nat)} {h1 h1':Tr O}:∀ (i q:Nat) (h h2:Tr O),embL ν ns h1 h1' i q h=some h2→∀ m o,h2.get m=some o→
  (h.get m=some o∧∀ p,q ≤ p→p < q+i→wlive h1 p→ns.getD p none ≠ some m) ∨ ∃ p,q ≤ p∧p < q+i∧wlive h1 p∧ns.getD p none=some m∧∃ o1,h1'.get p=some o1∧o1.wr=true∧o1.rn ν=some o
 | 0,q,h,h2,e,m,o,hm=>by simp only [embL,Option.some.injEq] at e; subst e; exact .inl ⟨hm,fun p h1 h2=>by omega⟩
 | i+1,q,h,h2,e,m,o,hm=>by
   simp only [embL] at e
   have skip:(¬ wlive h1 q)→embL ν ns h1 h1' i (q+1) h=some h2→_:=fun hq e=>embL_spec i (q+1) h h2 e m o hm
   have fin:∀ (h':Tr O) (x:Option O) (m0:Nat),m0 < top→h'=h.set m0 x→wlive h1 q→ns.getD q none=some m0→(∀ y,x=some y→∃ o1,h1'.get q=some o1∧o1.wr=true∧o1.rn ν=some y)→embL ν ns h1 h1' i (q+1) h'=some h2→
     (h.get m=some o∧∀ p,q ≤ p→p < q+(i+1)→wlive h1 p→ns.getD p none ≠ some m) ∨ ∃ p,q ≤ p∧p < q+(i+1)∧wlive h1 p∧ns.getD p none=some m∧∃ o1,h1'.get p=some o1∧o1.wr=true∧o1.rn ν=some o:=by
    intro h' x m0 ht hh hw hns hx e
    rcases embL_spec i (q+1) h' h2 e m o hm with ⟨k1,k2⟩ | ⟨p,k1,k2,k3⟩
    · rw [hh,Tr.get_set _ _ _ ht] at k1
      split at k1
      · rename_i z; subst z
        exact .inr ⟨q,Nat.le_refl _,by omega,hw,hns,hx o k1⟩
      · rename_i z
        refine .inl ⟨k1,fun p p1 p2 p3=>?_⟩
        rcases Nat.eq_or_lt_of_le p1 with rfl | p1
        · rw [hns]; intro c; cases c; exact z rfl
        · exact k2 p p1 (by omega) p3
    · exact .inr ⟨p,by omega,by omega,k3⟩
   have fin0:(¬ wlive h1 q)→embL ν ns h1 h1' i (q+1) h=some h2→
     (h.get m=some o∧∀ p,q ≤ p→p < q+(i+1)→wlive h1 p→ns.getD p none ≠ some m) ∨ ∃ p,q ≤ p∧p < q+(i+1)∧wlive h1 p∧ns.getD p none=some m∧∃ o1,h1'.get p=some o1∧o1.wr=true∧o1.rn ν=some o:=by
    intro hq e
    rcases embL_spec i (q+1) h h2 e m o hm with ⟨k1,k2⟩ | ⟨p,k1,k2,k3⟩
    · refine .inl ⟨k1,fun p p1 p2 p3=>?_⟩
      rcases Nat.eq_or_lt_of_le p1 with rfl | p1
      · exact absurd p3 hq
      · exact k2 p p1 (by omega) p3
    · exact .inr ⟨p,by omega,by omega,k3⟩
   split at e
   · rename_i o0 ho0
     split at e
     · rename_i hw0
       split at e
       case h_2=>cases e
       rename_i m0 hns
       split at e
       case h_2=>cases e
       rename_i ht
       have ht:=Nat.le_of_ble_eq_true ht
       split at e
       · rename_i o1 ho1
         split at e
         case h_2=>cases e
         rename_i hw1
         split at e
         case h_2=>cases e
         rename_i o2 ho2
         exact fin _ (some o2) m0 ht rfl ⟨o0,ho0,hw0⟩ hns (fun y hy=>by cases hy; exact ⟨o1,ho1,hw1,ho2⟩) e
       · exact fin _ none m0 ht rfl ⟨o0,ho0,hw0⟩ hns (fun y hy=>by cases hy) e
     · rename_i hw0
       exact fin0 (fun ⟨o,q1,q2⟩=>by rw [ho0] at q1; cases q1; rw [hw0] at q2; cases q2) e
   · rename_i ho0
     exact fin0 (fun ⟨o,q1,q2⟩=>by rw [ho0] at q1; cases q1) e
theorem embH_spec {ν:Nat→Option Nat} {h1:Tr O}:∀ (i j:Nat) (h h2:Tr O),embH ν h1 i j h=some h2→∀ m o,h2.get m=some o→h.get m=some o ∨ ∃ q,j ≤ q∧q < j+i∧ν q=some m∧∃ o1,h1.get q=some o1∧o1.rn ν=some o
 | 0,j,h,h2,e,m,o,hm=>by simp only [embH,Option.some.injEq] at e; subst e; exact .inl hm
 | i+1,j,h,h2,e,m,o,hm=>by
   simp only [embH] at e
   split at e
   · rcases embH_spec i (j+1) h h2 e m o hm with q | ⟨q,q1,q2,q3⟩
     · exact .inl q
     · exact .inr ⟨q,by omega,by omega,q3⟩
   · rename_i k hk
     split at e
     case h_2=>cases e
     rename_i o1 ho
     split at e
     case h_2=>cases e
     rename_i o2 ho2
     split at e
     case h_2=>cases e
     rename_i ht
     rcases embH_spec i (j+1) _ h2 e m o hm with q | ⟨q,q1,q2,q3⟩
     · rw [Tr.get_set _ _ _ (show k < top from Nat.le_of_ble_eq_true ht)] at q
       split at q
       · rename_i z; subst z
         simp only [Option.some.injEq] at q; subst q
         exact .inr ⟨j,Nat.le_refl _,by omega,hk,o1,ho,ho2⟩
       · exact .inl q
     · exact .inr ⟨q,by omega,by omega,q3⟩
theorem embW_ok {E:Env} {h h1:Tr O} {n:Nat} {w:World} {ns:List (Option Nat)} {r:V × Tr O × Nat} {v:V} {h2:Tr O} {n2:Nat} (g:Good E h w) (hd:Dom E n) (k0:PickOk ns h h1)
  (he:embW ns h1 r h n=some (v,h2,n2)) {en:Ending} {w':World} (c:CPost (E.pick ns) h1 ns.length w (.ret r.1) r.2.1 r.2.2 en w'):CPost E h n w (.ret v) h2 n2 en w':=by
 obtain ⟨v1,h1',n1'⟩:=r
 obtain ⟨E2,u,hlow,hdom,hn,ho⟩:=c
 simp only at u hdom hn ho
 unfold embW at he
 simp only at he
 split at he
 case h_2=>cases he
 rename_i v' hv
 split at he
 case h_2=>cases he
 rename_i hL' hhL
 split at he
 case h_2=>cases he
 rename_i hH' hhH
 simp only [Option.some.injEq,Prod.mk.injEq] at he
 obtain ⟨rfl,rfl,rfl⟩:=he
 generalize hn0:ns.length=n0 at *
 let ν:=nuW ns h1' n0 n
 have nu_low:∀ m k,m < n0→ν m=some k→ns.getD m none=some k:=by
  intro m k hm hk
  have hb:Nat.blt m n0=true:=Nat.ble_eq_true_of_le hm
  simp only [ν,nuW,hb] at hk
  exact hk
 have nu_high:∀ m k,n0 ≤ m→ν m=some k→k=n+(m - n0)∧wlive h1' m:=by
  intro m k hm hk
  have hb:Nat.blt m n0=false:=by
   cases q:Nat.blt m n0 with
   | false=>rfl
   | true=>exact absurd (Nat.le_of_ble_eq_true q) (Nat.not_lt.2 hm)
  simp only [ν,nuW,hb] at hk
  split at hk
  · rename_i o ho1
    split at hk
    · rename_i hw
      simp only [Option.some.injEq] at hk
      exact ⟨hk.symm,o,ho1,hw⟩
    · cases hk
  · cases hk
 have pre:∀ j,wlive h1 j→∃ m,ns.getD j none=some m∧wlive h m:=by
  rintro j ⟨o1,q2,q3⟩
  obtain ⟨m,o,p1,p2,p3⟩:=k0.get j o1 q2
  exact ⟨m,p1,o,p2,(rn_wr p3).symm.trans q3⟩
 have preL:∀ j,h1.get j ≠ none→∃ m,ns.getD j none=some m∧h.get m ≠ none:=by
  intro j hj
  obtain ⟨o1,q2⟩:=Option.ne_none_iff_exists'.1 hj
  obtain ⟨m,o,p1,p2,_⟩:=k0.get j o1 q2
  exact ⟨m,p1,by rw [p2]; simp⟩
 have old:∀ j b s,h1'.get j ≠ none→E2.ι j=some (b,s)→b < w.heap.size→∃ m s0,h.get m ≠ none∧E.ι m=some (b,s0)∧(∃ j0,ns.getD j0 none=some m∧j0 < n0∧(wlive h1' j→wlive h1 j0))∧(wlive h1' j→wlive h m):=by
  intro j b s hj e hb
  obtain ⟨j0,s0,q1,q2,q3⟩:=u.img j b s hj e hb
  obtain ⟨m,p1,p2⟩:=preL j0 q1
  have hj0:j0 < n0:=by
   rcases Nat.lt_or_ge j0 n0 with z | z
   · exact z
   · rw [List.getD_eq_getElem?_getD,List.getElem?_eq_none (by omega)] at p1; cases p1
  refine ⟨m,s0,p2,by rw [← pick_ι p1]; exact q2,⟨j0,p1,hj0,q3⟩,fun z=>?_⟩
  obtain ⟨m',p3,p4⟩:=pre j0 (q3 z)
  rw [p1] at p3; cases p3; exact p4
 let E':Env:=⟨fun m=>if m < n then E.ι m else (match ν (n0+(m - n)) with | some _=>E2.ι (n0+(m - n)) | none=>none),fun b=>if b < w.heap.size then E.β b else E2.β b,E2.φ⟩
 have hE'lo:∀ m,m < n→E'.ι m=E.ι m:=fun m hm=>if_pos hm
 have hE'hi:∀ j k,n0 ≤ j→ν j=some k→E'.ι k=E2.ι j:=by
  intro j k hj hk
  obtain ⟨rfl,_⟩:=nu_high j k hj hk
  show (if n+(j - n0) < n then _ else _)=_
  rw [if_neg (by omega)]
  have:n0+(n+(j - n0) - n)=j:=by omega
  rw [this,hk]
 have hloι:∀ m k,m < n0→ns.getD m none=some k→E2.ι m=E.ι k:=fun m k hm hk=>(hlow m hm).trans (pick_ι hk)
 have hkn:∀ k,E.ι k ≠ none→k < n:=fun k e=>by
  rcases Nat.lt_or_ge k n with q | q
  · exact q
  · exact absurd (hd k q) e
 have hι:∀ m k,ν m=some k→E'.ι k=E2.ι m:=by
  intro m k hk
  by_cases hm:m < n0
  · have hns:=nu_low m k hm hk
    rw [hloι m k hm hns]
    by_cases hkk:k < n
    · exact hE'lo k hkk
    · exact absurd (hkn k (by
       rcases k0.live m k hns with ⟨p,hp,rfl⟩ | q
       · rw [g.glob p hp]; simp
       · obtain ⟨o,q⟩:=Option.ne_none_iff_exists'.1 q
         obtain ⟨b,s,e,_⟩:=g.rel k o q
         rw [e]; simp)) hkk
  · exact hE'hi m k (Nat.le_of_not_lt hm) hk
 have hle:E.le E':=by
  refine ⟨fun m b s e=>?_,fun b c q=>u.le.fz b c q⟩
  exact ⟨(hE'lo m (hkn m (by rw [e]; simp))).trans e,if_pos (g.bnd m b s e)⟩
 have hdomE':Dom E' (n+(n1' - n0)):=by
  intro m hm
  have hm:n+(n1' - n0) ≤ m:=hm
  show (if m < n then _ else _)=none
  rw [if_neg (by omega)]
  split
  · exact hdom _ (by show n1' ≤ _; omega)
  · rfl
 have hβ3:∀ m k b s,ν m=some k→E2.ι m=some (b,s)→E'.β b=E2.β b:=by
  intro m k b s hk e
  show (if b < w.heap.size then E.β b else E2.β b)=_
  split
  · rename_i hb
    by_cases hm:m < n0
    · have e1:(E.pick ns).ι m=some (b,s):=by rw [← hlow m hm]; exact e
      exact (u.le.nm m b s e1).2.symm
    · obtain ⟨_,hw⟩:=nu_high m k (Nat.le_of_not_lt hm) hk
      obtain ⟨j0,s0,q1,q2,_⟩:=u.img m b s hw.live e hb
      exact (u.le.nm j0 b s0 q2).2.symm
  · rfl
 have hcase:∀ m o,hH'.get m=some o→(h.get m=some o∧m < n∧∀ p,wlive h1 p→ns.getD p none ≠ some m) ∨ (∃ q,ν q=some m∧wlive h1' q∧(q < n0→wlive h1 q)∧∃ o1,h1'.get q=some o1∧o1.rn ν=some o):=by
  intro m o hm
  rcases embH_spec _ _ _ _ hhH m o hm with q | ⟨q,q1,q2,q3,q4⟩
  · rcases embL_spec _ _ _ _ hhL m o q with ⟨k1,k2⟩ | ⟨p,k1,k2,k3,k4,o1,k5,k6,k7⟩
    · refine .inl ⟨k1,?_,fun p hp hns=>?_⟩
      · obtain ⟨b,s,e,_⟩:=g.rel m o k1
        exact hkn m (by rw [e]; simp)
      · have hp0:p < n0:=by
         rcases Nat.lt_or_ge p n0 with z | z
         · exact z
         · rw [List.getD_eq_getElem?_getD,List.getElem?_eq_none (by omega)] at hns; cases hns
        exact k2 p (Nat.zero_le _) (by omega) hp hns
    · have hp0:p < n0:=by omega
      refine .inr ⟨p,?_,⟨o1,k5,k6⟩,fun _=>k3,o1,k5,k7⟩
      have hb:Nat.blt p n0=true:=Nat.ble_eq_true_of_le hp0
      show nuW ns h1' n0 n p=some m
      simp only [nuW,hb]; exact k4
  · obtain ⟨o1,p1,p2⟩:=q4
    exact .inr ⟨q,q3,(nu_high q m q1 q3).2,fun z=>absurd z (Nat.not_lt.2 q1),o1,p1,p2⟩
 have keep:∀ m o,h.get m=some o→(∀ p,wlive h1 p→ns.getD p none ≠ some m)→∀ b s,E.ι m=some (b,s)→w'.heap[b]? =w.heap[b]?:=by
  intro m o hm hp b s e
  refine u.keep b (g.bnd m b s e) fun j t hj e2=>?_
  obtain ⟨m',p1,p2⟩:=pre j hj
  rw [pick_ι p1] at e2
  exact g.inj m' m b t s (fun z=>hp j hj (z ▸ p1)) p2 (by rw [hm]; simp) e2 e
 have good2:Good E' hH' w':=by
  refine ⟨?_,?_,?_,g.glob.mono hle,fun b c q=>⟨u.good.fz b c q,?_⟩⟩
  · intro m o hm
    rcases hcase m o hm with ⟨h0,hmn,hp⟩ | ⟨q,q1,_,_,o1,q3,q4⟩
    · obtain ⟨b,s,e1,e2⟩:=g.rel m o h0
      exact ⟨b,s,(hle.nm m b s e1).1,orel_mono hle (hle.nm m b s e1).2 (keep m o h0 hp b s e1) e2⟩
    · obtain ⟨b,s,e1,e2⟩:=u.good.rel q o1 q3
      exact ⟨b,s,(hι q m q1).trans e1,rnO_rel (E':=E') hι hβ3 (fun _ _ q=>q) (hβ3 q m b s q1 e1) o1 o q4 e2⟩
  · rintro m m' b s s' hne ⟨o,hm,hw⟩ hm' e1 e2
    obtain ⟨o',hm'⟩:=Option.ne_none_iff_exists'.1 hm'
    rcases hcase m o hm with ⟨h0,hmn,hp⟩ | ⟨q,q1,q2,q5,o1,q3,q4⟩ <;> rcases hcase m' o' hm' with ⟨h0',hmn',hp'⟩ | ⟨q',q1',q2',q5',o1',q3',q4'⟩
    · rw [hE'lo m hmn] at e1
      rw [hE'lo m' hmn'] at e2
      exact g.inj m m' b s s' hne ⟨o,h0,hw⟩ (by rw [h0']; simp) e1 e2
    · rw [hE'lo m hmn] at e1
      rw [hι q' m' q1'] at e2
      obtain ⟨mm,s0,k1,k2,⟨j0,k3,_,k5⟩,k4⟩:=old q' b s' q2'.live e2 (g.bnd m b s e1)
      exact g.inj m mm b s s0 (fun z=>hp j0 (k5 q2') (z ▸ k3)) ⟨o,h0,hw⟩ k1 e1 k2
    · rw [hE'lo m' hmn'] at e2
      rw [hι q m q1] at e1
      obtain ⟨mm,s0,k1,k2,⟨j0,k3,_,k5⟩,k4⟩:=old q b s q2.live e1 (g.bnd m' b s' e2)
      exact g.inj mm m' b s0 s' (fun z=>hp' j0 (k5 q2) (z ▸ k3)) (k4 q2) (by rw [h0']; simp) k2 e2
    · rw [hι q m q1] at e1
      rw [hι q' m' q1'] at e2
      exact u.good.inj q q' b s s' (fun z=>hne (by subst z; rw [q1] at q1'; exact Option.some.inj q1')) q2 q2'.live e1 e2
  · intro m b s e
    by_cases hm:m < n
    · rw [hE'lo m hm] at e; exact Nat.lt_of_lt_of_le (g.bnd m b s e) u.size
    · have e:(if m < n then E.ι m else (match ν (n0+(m - n)) with | some _=>E2.ι (n0+(m - n)) | none=>none))=some (b,s):=e
      rw [if_neg hm] at e
      split at e
      · exact u.good.bnd _ b s e
      · cases e
  · rintro m s ⟨o,hm,hw⟩ e
    rcases hcase m o hm with ⟨h0,hmn,hp⟩ | ⟨q',q1,q2,_⟩
    · rw [hE'lo m hmn] at e
      rcases u.fzn b c q with z | z | ⟨j,t,z1,z2⟩
      · exact (g.froz b c z).2 m s ⟨o,h0,hw⟩ e
      · have:=g.bnd m b s e; omega
      · obtain ⟨m',p1,p2⟩:=pre j z1
        rw [pick_ι p1] at z2
        exact g.inj m m' b s t (fun z=>hp j z1 (z ▸ p1)) ⟨o,h0,hw⟩ p2.live e z2
    · rw [hι q' m q1] at e
      exact (u.good.froz b c q).2 q' s q2 e
 refine ⟨E',⟨hle,good2,u.size,u.tape,u.os,u.output,fun b hb hno=>?_,?_,fun b c q=>?_⟩,fun m hm=>hE'lo m hm,hdomE',Nat.le_add_right _ _,?_⟩
 · refine u.keep b hb fun j t hj e=>?_
   obtain ⟨m',p1,p2⟩:=pre j hj
   rw [pick_ι p1] at e
   exact hno m' t p2 e
 · intro m b s hm e hb
   obtain ⟨o,hm⟩:=Option.ne_none_iff_exists'.1 hm
   rcases hcase m o hm with ⟨h0,hmn,hp⟩ | ⟨q,q1,q2,_⟩
   · rw [hE'lo m hmn] at e
     exact ⟨m,s,by rw [h0]; simp,e,fun ⟨o',k1,k2⟩=>⟨o,h0,by rw [hm] at k1; cases k1; exact k2⟩⟩
   · rw [hι q m q1] at e
     obtain ⟨mm,s0,k1,k2,_,k4⟩:=old q b s q2.live e hb
     exact ⟨mm,s0,k1,k2,fun _=>k4 q2⟩
 · rcases u.fzn b c q with z | z | ⟨j,t,z1,z2⟩
   · exact .inl z
   · exact .inr (.inl z)
   · obtain ⟨m',p1,p2⟩:=pre j z1
     rw [pick_ι p1] at z2
     exact .inr (.inr ⟨m',t,p2,z2⟩)
 · cases en with
   | returned x=>exact rn_rel (E':=E') hι hβ3 (fun _ _ q=>q) v1 _ x hv ho
   | _=>exact ho.elim
theorem own_calls {P:Program} (hm:P.follows .mixedOrders=true) (hpo:progOk P=true) {f:FuncId} {fn:Func} {code:Code} (hf:P.funcs[f]? =some fn) (hb:fn.body=some code) {args args1:List V} {ns:List (Option Nat)} {h h1 h2 h1':Tr O} {n n2 n1':Nat} {v v1:V}
  (l:(Nat.ble args1.length fn.ntmps && Nat.blt fn.ntmps top)=true) (k:PickOk ns h h1) (ka:V.rns (mu ns) args=some args1) (he:embW ns h1 (v1,h1',n1') h n=some (v,h2,n2))
  (hT:TG P ns.length fn.ntmps code (startSt args1 h1 ns.length) (RetG P ns.length fn fun a b c=>a=v1∧b=h1'∧c=n1'))
  {E:Env} {w:World} {args':List Value} (ra:vrels E args args') (g:Good E h w) (hd:Dom E n):Calls P f args'.toArray w (CPost E h n w (.ret v) h2 n2):=by
 obtain ⟨g1,d1⟩:=pick_ok g k
 have ra1:vrels (E.pick ns) args1 args':=rns_rel (E':=E.pick ns) mu_ι (fun _ _ _ _ _ _=>rfl) (fun _ _ q=>q) _ _ _ ka ra
 exact (calls_of_TG1 hm hpo hf hb l v1 h1' n1' hT ra1 g1 d1).mono fun en w' c=>embW_ok g hd k he c
end Go.Eng
