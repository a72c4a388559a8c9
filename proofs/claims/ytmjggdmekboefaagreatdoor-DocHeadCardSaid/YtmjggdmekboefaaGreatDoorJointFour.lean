/- The engine, part Z: runs in which some values stand open: tests are split, bounds are left to be shown. No conditions: lemmas alone. -/
import Derived.Test.YtmjggdmekboefaaGreatDoorJointThree
set_option linter.unusedVariables false
set_option linter.unusedSimpArgs false
set_option linter.unusedSectionVars false
namespace Go.Eng
open Go Go.RowKit
structure Pth where
 conds:List (Bool × Bool)
 same:List (V × V)
 asr:List Prop
def Pth.nil:Pth:=⟨[],[],[]⟩
def Pth.app (a b:Pth):Pth:=⟨a.conds ++ b.conds,a.same ++ b.same,a.asr ++ b.asr⟩
def Pth.ok (p:Pth):Prop:=∀ c ∈ p.conds,c.1=c.2
def Pth.good (p:Pth):Prop:=(∀ c ∈ p.same,c.1=c.2)∧∀ a ∈ p.asr,a
theorem Pth.ok_app {a b:Pth}:(a.app b).ok ↔ a.ok∧b.ok:=by
 simp only [Pth.ok,Pth.app,List.mem_append]
 exact ⟨fun h=>⟨fun c hc=>h c (.inl hc),fun c hc=>h c (.inr hc)⟩,fun h c hc=>hc.elim (h.1 c) (h.2 c)⟩
theorem Pth.good_app {a b:Pth}:(a.app b).good ↔ a.good∧b.good:=by
 simp only [Pth.good,Pth.app,List.mem_append]
 exact ⟨fun h=>⟨⟨fun c hc=>h.1 c (.inl hc),fun c hc=>h.2 c (.inl hc)⟩,fun c hc=>h.1 c (.inr hc),fun c hc=>h.2 c (.inr hc)⟩,
  fun h=>⟨fun c hc=>hc.elim (h.1.1 c) (h.2.1 c),fun c hc=>hc.elim (h.1.2 c) (h.2.2 c)⟩⟩
abbrev M (α:Type):=Option (List (Pth × α))
def M.ret {α:Type} (a:α):M α:=some [(.nil,a)]
def pre {α:Type} (p:Pth):List (Pth × α)→List (Pth × α)
 | []=>[]
 | e :: r=>(p.app e.1,e.2) :: pre p r
def M.bind {α β:Type}:List (Pth × α)→(α→M β)→M β
 | [],_=>some []
 | (p,a) :: r,f=>match f a with
   | some l1=>match M.bind r f with
     | some l2=>some (pre p l1 ++ l2)
     | none=>none
   | none=>none
def M.then {α β:Type} (m:M α) (f:α→M β):M β:=match m with
 | some l=>M.bind l f
 | none=>none
def Sound {α:Type} (m:M α) (r:Option α):Prop:=∀ l,m=some l→(∃ e ∈ l,e.1.ok)∧∀ e ∈ l,e.1.ok→e.1.good→r=some e.2
theorem mem_pre {α:Type} {p:Pth}:∀ {l:List (Pth × α)} {e:Pth × α},e ∈ pre p l ↔ ∃ e' ∈ l,e=(p.app e'.1,e'.2)
 | [],e=>by simp [pre]
 | x :: r,e=>by
   simp only [pre,List.mem_cons,mem_pre]
   exact ⟨fun h=>h.elim (fun q=>⟨x,.inl rfl,q⟩) fun ⟨e',h1,h2⟩=>⟨e',.inr h1,h2⟩,fun ⟨e',h1,h2⟩=>h1.elim (fun q=>.inl (by rw [h2,q])) fun q=>.inr ⟨e',q,h2⟩⟩
theorem bind_mem {α β:Type} {f:α→M β}:∀ {l:List (Pth × α)} {l2:List (Pth × β)},M.bind l f=some l2→(∀ e ∈ l2,∃ d ∈ l,∃ l1,f d.2=some l1∧∃ e' ∈ l1,e=(d.1.app e'.1,e'.2))∧(∀ d ∈ l,∃ l1,f d.2=some l1∧∀ e' ∈ l1,(d.1.app e'.1,e'.2) ∈ l2)
 | [],l2,h=>by
   simp only [M.bind,Option.some.injEq] at h; subst h
   exact ⟨fun e he=>by simp at he,fun d hd=>by simp at hd⟩
 | (p,a) :: r,l2,h=>by
   simp only [M.bind] at h
   split at h
   · rename_i l1 h1
     split at h
     · rename_i l3 h3
       simp only [Option.some.injEq] at h; subst h
       obtain ⟨k1,k2⟩:=bind_mem h3
       refine ⟨fun e he=>?_,fun d hd=>?_⟩
       · rcases List.mem_append.1 he with q | q
         · obtain ⟨e',q1,q2⟩:=mem_pre.1 q
           exact ⟨(p,a),by simp,l1,h1,e',q1,q2⟩
         · obtain ⟨d,d1,d2⟩:=k1 e q
           exact ⟨d,by simp [d1],d2⟩
       · rcases List.mem_cons.1 hd with rfl | hd
         · exact ⟨l1,h1,fun e' he'=>List.mem_append.2 (.inl (mem_pre.2 ⟨e',he',rfl⟩))⟩
         · obtain ⟨l1',q1,q2⟩:=k2 d hd
           exact ⟨l1',q1,fun e' he'=>List.mem_append.2 (.inr (q2 e' he'))⟩
     · cases h
   · cases h
theorem Sound.ret {α:Type} (a:α):Sound (M.ret a) (some a):=by
 intro l h
 simp only [M.ret,Option.some.injEq] at h; subst h
 exact ⟨⟨_,List.mem_singleton.2 rfl,fun c hc=>by simp [Pth.nil] at hc⟩,fun e he _ _=>by simp only [List.mem_singleton] at he; subst he; rfl⟩
theorem Sound.none {α:Type} (r:Option α):Sound (none:M α) r:=fun l h=>by cases h
theorem Sound.then {α β:Type} {m:M α} {f:α→M β} {r:Option α} {g:α→Option β} (h:Sound m r) (hf:∀ a,Sound (f a) (g a)):Sound (m.then f) (r.bind g):=by
 intro l2 e
 unfold M.then at e
 split at e
 · rename_i l
   obtain ⟨⟨d,hd,hok⟩,h2⟩:=h l rfl
   obtain ⟨k1,k2⟩:=bind_mem e
   refine ⟨?_,fun e he heok hegood=>?_⟩
   · obtain ⟨l1,q1,q2⟩:=k2 d hd
     obtain ⟨⟨e',he',hok'⟩,_⟩:=hf d.2 l1 q1
     exact ⟨_,q2 e' he',Pth.ok_app.2 ⟨hok,hok'⟩⟩
   · obtain ⟨d,hd,l1,q1,e',he',rfl⟩:=k1 e he
     obtain ⟨o1,o2⟩:=Pth.ok_app.1 heok
     obtain ⟨g1,g2⟩:=Pth.good_app.1 hegood
     rw [h2 d hd o1 g1]
     exact (hf d.2 l1 q1).2 e' he' o2 g2
 · cases e
theorem Sound.of_eq {α:Type} {m:M α} {r r':Option α} (h:Sound m r) (e:r=r'):Sound m r':=e ▸ h
def elemSz (P:Program) (t:TypeId):Option Nat:=match elemT P t with
 | some e=>szof P e
 | none=>none
def eqFieldsS (P:Program):List Field→List V→List V→Option Bool
 | [],_,_=>some true
 | f :: fs,xs,ys=>match decide (f.name= "_") with
   | true=>none
   | false=>match P.underlying f.type,partV P f.type xs f.offset,partV P f.type ys f.offset with
     | some (.int _),some (.int k a),some (.int k' b)=>match decide (k=k') with
       | true=>match eqFieldsS P fs xs ys with
         | some r=>some ((a == b) && r)
         | none=>none
       | false=>none
     | _,_,_=>none
theorem eqFieldsS_ok {P:Program} {d:Nat}:∀ {fs:List Field} {xs ys:List V} {r:Bool},eqFieldsS P fs xs ys=some r→eqFields P (fun u a b=>eqV P (d+1) u a b) fs xs ys=some r
 | [],_,_,r,e=>by simpa only [eqFieldsS,eqFields] using e
 | f :: fs,xs,ys,r,e=>by
   simp only [eqFieldsS] at e
   split at e
   · cases e
   · rename_i hn
     have hn:=of_decide_eq_false hn
     split at e
     · rename_i k0 k a k' b h1 h2 h3
       split at e
       · rename_i hk
         have hk:=of_decide_eq_true hk
         subst hk
         split at e
         · rename_i r' hr
           simp only [Option.some.injEq] at e; subst e
           have ih:=eqFieldsS_ok (d:=d) hr
           simp only [eqFields,if_pos hn,h2,h3]
           have:eqV P (d+1) f.type (.int k a) (.int k b)=some (a == b):=by simp only [eqV,h1,if_true]
           rw [this]
           cases hab:a == b with
           | true=>simp only [Bool.true_and]; exact ih
           | false=>simp only [Bool.false_and]
         · cases e
       · cases e
     · cases e
def eqElS (P:Program) (e:TypeId):V→V→Option Bool
 | .agg xs,.agg ys=>match P.underlying e with
   | some (.struct fields)=>match P.stoodInHeld e with
     | true=>none
     | false=>eqFieldsS P fields.toList xs ys
   | _=>none
 | _,_=>none
def eqItemsS (P:Program) (e:TypeId) (c:Nat) (xs ys:List V):List Nat→Option Bool
 | []=>some true
 | i :: is=>match partV P e xs (i * c),partV P e ys (i * c) with
   | some a,some b=>match eqElS P e a b,eqItemsS P e c xs ys is with
     | some q,some r=>some (q && r)
     | _,_=>none
   | _,_=>none
theorem eqElS_ok {P:Program} {d:Nat} {e:TypeId} {x y:V} {r:Bool} (h:eqElS P e x y=some r):eqV P (d+1+1) e x y=some r:=by
 unfold eqElS at h
 split at h
 · split at h
   · rename_i fields hu
     split at h
     · cases h
     · rename_i hs
       simp only [eqV,hu,hs,Bool.false_eq_true,if_false]
       exact eqFieldsS_ok (d:=d) h
   · cases h
 · cases h
theorem eqItemsS_ok {P:Program} {d c:Nat} {e:TypeId} {xs ys:List V}:∀ {is:List Nat} {r:Bool},eqItemsS P e c xs ys is=some r→eqItemsV P (eqV P (d+1+1) e) e c xs ys is=some r
 | [],r,h=>by simpa only [eqItemsS,eqItemsV] using h
 | i :: is,r,h=>by
   simp only [eqItemsS] at h
   split at h
   · rename_i a b h1 h2
     split at h
     · rename_i q r' h3 h4
       simp only [Option.some.injEq] at h; subst h
       simp only [eqItemsV,h1,h2,eqElS_ok (d:=d) h3]
       cases q with
       | true=>simp only [Bool.true_and]; exact eqItemsS_ok h4
       | false=>simp only [Bool.false_and]
     · cases h
   · cases h
def eqAgg (P:Program) (t:TypeId) (xs ys:List V):Option Bool:=
 match P.eqGuardType P.depth t with
 | true=>none
 | false=>match P.underlying t with
   | some (.struct fields)=>match P.stoodInHeld t with
     | true=>none
     | false=>eqFieldsS P fields.toList xs ys
   | some (.array n e)=>match (P.info? e).isSome with
     | true=>eqItemsS P e (P.cellsOf e) xs ys (List.range n)
     | false=>none
   | _=>none
theorem eqV_agg {P:Program} {d:Nat} {t:TypeId} {fields:Array Field} {xs ys:List V} {r:Bool} (hu:P.underlying t=some (.struct fields)) (hs:P.stoodInHeld t=false) (e:eqFieldsS P fields.toList xs ys=some r):eqV P (d+1+1) t (.agg xs) (.agg ys)=some r:=by
 simp only [eqV,hu,hs,Bool.false_eq_true,if_false]
 exact eqFieldsS_ok (d:=d) e
theorem eqV_arr {P:Program} {d m:Nat} {t el:TypeId} {xs ys:List V} {r:Bool} (hu:P.underlying t=some (.array m el)) (hi:(P.info? el).isSome=true) (e:eqItemsS P el (P.cellsOf el) xs ys (List.range m)=some r):eqV P (d+1+1+1) t (.agg xs) (.agg ys)=some r:=by
 simp only [eqV,hu,hi]
 exact eqItemsS_ok (d:=d) e
theorem eqAgg_ok {P:Program} {t:TypeId} {x y:Operand} {xs ys:List V} {r:Bool} (e:eqAgg P t xs ys=some r):eqOp P t x y (.agg xs) (.agg ys)=some r:=by
 unfold eqAgg at e
 split at e
 · cases e
 · rename_i hg
   split at e
   · rename_i fields hu
     split at e
     · cases e
     · rename_i hs
       simp only [eqOp,hg,Bool.false_eq_true,if_false]
       exact eqV_agg (d:=9998) hu hs e
   · rename_i n el hu
     split at e
     · rename_i hi
       simp only [eqOp,hg,Bool.false_eq_true,if_false]
       exact eqV_arr (d:=9997) hu hi e
     · cases e
   · cases e
def pxT (P:Program) (t:TypeId):Option (Nat × TypeId × Nat):=match P.underlying t with
 | some (.array len e)=>match aggT P e,szof P e with
   | some true,some s=>some (len,e,s)
   | _,_=>none
 | _=>none
theorem pxT_ok {P:Program} {t e:TypeId} {len s:Nat} (h:pxT P t=some (len,e,s)):P.underlying t=some (.array len e)∧aggT P e=some true∧szof P e=some s:=by
 unfold pxT at h
 split at h
 · rename_i hu
   split at h
   · rename_i h1 h2
     simp only [Option.some.injEq,Prod.mk.injEq] at h
     obtain ⟨rfl,rfl,rfl⟩:=h
     exact ⟨hu,h1,h2⟩
   · cases h
 · cases h
def plainM (P:Program) (o:Oper) (fr:Tr V) (h:Tr O) (n:Nat):Option (List Prop × R):=match stepOp P o fr h n with
 | some r=>some ([],r)
 | none=>none
def isRow (h:Tr O):V→Bool
 | .slc (some (m,_)) _ _ _=>match h.get m with
   | some (.ints _ _)=>true
   | some (.own _ _)=>true
   | some (.deep _)=>true
   | some (.buf _ _ _)=>true
   | _=>false
 | .lst _ _ _=>true
 | .str _=>true
 | _=>false
def symTail (h:Tr O) (size:Nat) (x:V):Option (List Prop × Nat × Row):=
 match x with
 | .lst _ len cs=>some ([cs.length=len * size],len,.ds cs)
 | x=>match isRow h x with
 | true=>match x with
   | .slc (some (m,o)) len _ esz=>match Nat.beq esz size,(h.get m).bind O.rowR with
     | true,some (.is k ks)=>some ([0 < len,o+len * size ≤ ks.length],len,.is k ((ks.drop o).take (len * size)))
     | true,some (.ds cs)=>some ([0 < len,o+len * size ≤ cs.length],len,.ds ((cs.drop o).take (len * size)))
     | _,_=>none
   | .str s=>match Nat.beq size 1 with
     | true=>some ([],s.length,.is .u8 (bytesI s))
     | false=>none
   | _=>none
 | false=>match tailCells h size x with
   | some (k,r)=>some ([],k,r)
   | none=>none
theorem symTail_ok {h:Tr O} {size k:Nat} {x:V} {A:List Prop} {r:Row} (e:symTail h size x=some (A,k,r)) (hA:∀ a ∈ A,a):tailCells h size x=some (k,r):=by
 unfold symTail at e
 split at e
 · simp only [Option.some.injEq,Prod.mk.injEq] at e; obtain ⟨rfl,rfl,rfl⟩:=e
   have h1:=hA _ (List.mem_singleton.2 rfl)
   simp only [tailCells,if_pos h1]
 split at e
 · split at e
   · rename_i m o len cp esz _ _
     split at e
     · rename_i k' ks hb hr
       simp only [Option.some.injEq,Prod.mk.injEq] at e; obtain ⟨rfl,rfl,rfl⟩:=e
       have h1:0 < len:=hA _ (by simp)
       have h2:o+len * size ≤ ks.length:=hA _ (by simp)
       have hb:=Nat.eq_of_beq_eq_true hb
       cases hm:h.get m with
       | none=>rw [hm] at hr; cases hr
       | some ob=>
         rw [hm] at hr
         have hr:ob.rowR=some (.is k' ks):=hr
         cases len with
         | zero=>omega
         | succ len=>simp only [tailCells,hb,if_true,hm,hr,Row.cut,if_pos h2]
     · rename_i cs hb hr
       simp only [Option.some.injEq,Prod.mk.injEq] at e; obtain ⟨rfl,rfl,rfl⟩:=e
       have h1:0 < len:=hA _ (by simp)
       have h2:o+len * size ≤ cs.length:=hA _ (by simp)
       have hb:=Nat.eq_of_beq_eq_true hb
       cases hm:h.get m with
       | none=>rw [hm] at hr; cases hr
       | some ob=>
         rw [hm] at hr
         have hr:ob.rowR=some (.ds cs):=hr
         cases len with
         | zero=>omega
         | succ len=>simp only [tailCells,hb,if_true,hm,hr,Row.cut,if_pos h2]
     · cases e
   · split at e
     · rename_i hb
       simp only [Option.some.injEq,Prod.mk.injEq] at e; obtain ⟨rfl,rfl,rfl⟩:=e
       simp only [tailCells,if_pos (Nat.eq_of_beq_eq_true hb)]
     · cases e
   · cases e
 · split at e
   · rename_i k' r' h1
     simp only [Option.some.injEq,Prod.mk.injEq] at e; obtain ⟨rfl,rfl,rfl⟩:=e
     exact h1
   · cases e
def oldRow (len size o:Nat):Row→Option (List Prop × Row)
 | .is k ks=>some ([0 < len,o+len * size ≤ ks.length],.is k ((ks.drop o).take (len * size)))
 | .ds cs=>some ([o+len * size ≤ cs.length],.ds ((cs.drop o).take (len * size)))
 | .vs cs=>match len with
   | 0=>some ([],.vs [])
   | _=>match (Row.vs cs).cut o (len * size) with
     | some r=>some ([],r)
     | none=>none
theorem oldRow_ok {len size o:Nat} {r old:Row} {A:List Prop} (e:oldRow len size o r=some (A,old)) (hA:∀ a ∈ A,a):(if r.soft=false∧len=0 then some (.vs []) else r.cut o (len * size):Option Row)=some old:=by
 cases r with
 | is k ks=>
   simp only [oldRow,Option.some.injEq,Prod.mk.injEq] at e; obtain ⟨rfl,rfl⟩:=e
   have h1:0 < len:=hA _ (by simp)
   have h2:o+len * size ≤ ks.length:=hA _ (by simp)
   rw [if_neg (by omega)]
   simp only [Row.cut,if_pos h2]
 | ds cs=>
   simp only [oldRow,Option.some.injEq,Prod.mk.injEq] at e; obtain ⟨rfl,rfl⟩:=e
   have h2:o+len * size ≤ cs.length:=hA _ (by simp)
   rw [if_neg (fun q=>by have:=q.1; cases this)]
   simp only [Row.cut,if_pos h2]
 | vs cs=>
   cases len with
   | zero=>
     simp only [oldRow,Option.some.injEq,Prod.mk.injEq] at e; obtain ⟨rfl,rfl⟩:=e
     rfl
   | succ len=>
     simp only [oldRow] at e
     split at e
     · rename_i r' h1
       simp only [Option.some.injEq,Prod.mk.injEq] at e; obtain ⟨rfl,rfl⟩:=e
       rw [if_neg (by omega)]
       exact h1
     · cases e
def sizesB (i:TypeInfo) (z:V):Bool:=decide (0 < i.size) && (decide (0 < i.bytes) && decide (z.cells.length=i.size))
def bufAt (h:Tr O) (m:Nat):Option (TypeId × Bool × List UInt8):=match h.get m with
 | some (.buf e f s)=>some (e,f,s)
 | _=>none
def symAppend (P:Program) (argTypes:Array TypeId) (args:List V) (h:Tr O) (n:Nat):Option (List Prop × R):=
 match argTypes[0]?,argTypes[1]?,args with
 | some st,some xt,[s,x]=>match elemT P st,P.underlying xt with
   | some e,some xd=>match isSeqT xd,P.info? e,zeroOf P e with
     | true,some i,some z=>match sizesB i z,symTail h i.size x with
       | true,some (A,k,new)=>match new.flat with
         | true=>match s with
           | .slc none 0 _ _=>match newObj h n (nilRow e x new) with
             | some (h',n')=>some (A ++ [0 < k,roomy k i.size i.bytes=true],.val (.slc (some (n,0)) k k i.size) h' n')
             | none=>none
           | .lst true len cs=>match newObj h n ((Row.ds cs).app new).toO with
             | some (h',n')=>some (A ++ [0 < k,roomy (len+k) i.size i.bytes=true,cs.length=len * i.size],.val (.slc (some (n,0)) (len+k) (len+k) i.size) h' n')
             | none=>none
           | .slc (some (m,o)) len cp esz=>match bufAt h m with
             | some (el,fro,s0)=>match Nat.beq esz i.size && (Nat.blt m top && (Nat.beq o 0 && (Nat.beq i.size 1 && decide (el=e)))),rowBytes new with
               | true,some t=>match newObj (h.set m none) n (.buf el fro (s0 ++ t)) with
                 | some (h',n')=>some (A ++ [0 < cp,len=s0.length,roomy (len+k) i.size i.bytes=true],.val (.slc (some (n,0)) (len+k) (len+k) esz) h' n')
                 | none=>none
               | _,_=>none
             | none=>match Nat.beq esz i.size && Nat.blt m top,(h.get m).bind O.row with
             | true,some r=>match oldRow len i.size o r with
               | some (B,old)=>match newObj (h.set m none) n (old.app new).toO with
                 | some (h',n')=>match new.soft with
                   | true=>some (A ++ (B ++ [roomy (len+k) i.size i.bytes=true]),.val (.slc (some (n,0)) (len+k) (len+k) esz) h' n')
                   | false=>some (A ++ (B ++ [0 < k,roomy (len+k) i.size i.bytes=true]),.val (.slc (some (n,0)) (len+k) (len+k) esz) h' n')
                 | none=>none
               | none=>none
             | _,_=>none
           | _=>none
         | false=>none
       | _,_=>none
     | _,_,_=>none
   | _,_=>none
 | _,_,_=>none
theorem symAppend_ok {P:Program} {argTypes:Array TypeId} {args:List V} {h:Tr O} {n:Nat} {A:List Prop} {r:R} (e:symAppend P argTypes args h n=some (A,r)) (hA:∀ a ∈ A,a):appendV P argTypes args h n=some r:=by
 unfold symAppend at e
 split at e
 · rename_i st xt s x h1 h2
   split at e
   · rename_i el xd h3 h4
     split at e
     · rename_i i z h5 h6 h7
       split at e
       · rename_i A1 k new h8 h9
         simp only [sizesB,Bool.and_eq_true,decide_eq_true_eq] at h8
         split at e
         · rename_i hfl
           unfold appendV
           simp only [h1,h2,h3,h4,h5,h6,h7]
           rw [if_pos h8]
           split at e
           · cases ho:newObj h n (nilRow el x new) with
             | none=>rw [ho] at e; cases e
             | some p=>
               rw [ho] at e
               simp only [Option.some.injEq,Prod.mk.injEq] at e; obtain ⟨rfl,rfl⟩:=e
               have ht:=symTail_ok h9 fun a ha=>hA a (by simp [ha])
               have hk:0 < k:=hA _ (by simp)
               have hr:roomy k i.size i.bytes=true:=hA _ (by simp)
               rw [ht]
               simp only [hfl,if_true]
               cases k with
               | zero=>omega
               | succ k=>simp only [if_pos hr,ho]
           · rename_i len cs
             cases ho:newObj h n ((Row.ds cs).app new).toO with
             | none=>rw [ho] at e; cases e
             | some p=>
               rw [ho] at e
               simp only [Option.some.injEq,Prod.mk.injEq] at e; obtain ⟨rfl,rfl⟩:=e
               have ht:=symTail_ok h9 fun a ha=>hA a (by simp [ha])
               have hk:0 < k:=hA _ (by simp)
               have hr:roomy (len+k) i.size i.bytes=true:=hA _ (by simp)
               have hc:cs.length=len * i.size:=hA _ (by simp)
               rw [ht]
               simp only [hfl,if_true]
               cases k with
               | zero=>omega
               | succ k=>simp only [if_pos (And.intro hr hc),ho]
           · rename_i m o len cp esz
             split at e
             · rename_i el0 fro s0 hs0
               have hm:h.get m=some (.buf el0 fro s0):=by
                unfold bufAt at hs0
                split at hs0
                · rename_i hq; cases hs0; exact hq
                · cases hs0
               split at e
               case h_2=>cases e
               rename_i t hb ht
               simp only [Bool.and_eq_true] at hb
               cases ho:newObj (h.set m none) n (.buf el0 fro (s0 ++ t)) with
               | none=>rw [ho] at e; cases e
               | some p=>
                 rw [ho] at e
                 simp only [Option.some.injEq,Prod.mk.injEq] at e; obtain ⟨rfl,rfl⟩:=e
                 have htl:=symTail_ok h9 fun a ha=>hA a (by simp [ha])
                 have q1:0 < cp:=hA _ (by simp)
                 have q2:len=s0.length:=hA _ (by simp)
                 have q3:roomy (len+k) i.size i.bytes=true:=hA _ (by simp)
                 rw [htl]
                 simp only [hfl,if_true]
                 rw [if_pos ⟨Nat.eq_of_beq_eq_true hb.1,q3,Nat.le_of_ble_eq_true hb.2.1⟩]
                 simp only [hm,ht]
                 rw [if_pos ⟨⟨Nat.eq_of_beq_eq_true hb.2.2.1,q1⟩,⟨Nat.le_of_eq q2,fun _=>q2⟩,Nat.eq_of_beq_eq_true hb.2.2.2.1,of_decide_eq_true hb.2.2.2.2⟩]
                 simp only [q2,List.take_length]
                 rw [← q2]
                 simp only [ho]
             rename_i hnb
             split at e
             · rename_i r0 hb hrow
               split at e
               · rename_i B old hold
                 cases ho:newObj (h.set m none) n (old.app new).toO with
                 | none=>rw [ho] at e; cases e
                 | some p=>
                   rw [ho] at e
                   simp only at e
                   have hmain:(∀ a ∈ A1,a)→(∀ a ∈ B,a)→(new.soft=false→0 < k)→roomy (len+k) i.size i.bytes=true→R.val (.slc (some (n,0)) (len+k) (len+k) esz) p.1 p.2=r→
                     (match tailCells h i.size x with
                      | some (k,new)=>
                        if new.flat=true then
                         if esz=i.size∧roomy (len+k) i.size i.bytes=true∧m < top then
                          match h.get m with
                          | some (.buf el0 fro s0)=>match rowBytes new with
                            | some t=>if (o=0∧0 < cp)∧(len ≤ s0.length∧(fro=true→len=s0.length))∧(i.size=1∧el0=el) then (match newObj (h.set m none) n (.buf el0 fro (s0.take len ++ t)) with
                              | some (h',n')=>some (.val (.slc (some (n,0)) (len+k) (len+k) esz) h' n')
                              | none=>none) else none
                            | none=>none
                          | some ob=>match ob.row with
                            | some r=>
                              match (if r.soft=false∧len=0 then some (.vs []) else r.cut o (len * i.size):Option Row) with
                              | some old=>
                                if new.soft=false∧k=0 then some (.val (.slc (some (m,o)) len cp esz) h n)
                                else match newObj (h.set m none) n (old.app new).toO with
                                 | some (h',n')=>some (.val (.slc (some (n,0)) (len+k) (len+k) esz) h' n')
                                 | none=>none
                              | none=>none
                            | none=>none
                          | _=>none
                         else none
                        else none
                      | none=>none:Option R)=some r:=by
                    intro hA1 hB hk hr hres
                    subst hres
                    have ht:=symTail_ok h9 hA1
                    have hold':=oldRow_ok hold hB
                    simp only [Bool.and_eq_true] at hb
                    have hb1:=Nat.eq_of_beq_eq_true hb.1
                    have hb2:m < top:=Nat.le_of_ble_eq_true hb.2
                    cases hm:h.get m with
                    | none=>rw [hm] at hrow; cases hrow
                    | some ob=>
                      rw [hm] at hrow
                      have hrow:ob.row=some r0:=hrow
                      rw [ht]
                      simp only [hfl,if_true]
                      rw [if_pos ⟨hb1,hr,hb2⟩]
                      have hnbuf:∀ e f s,ob ≠ .buf e f s:=fun e f s q=>by subst q; unfold bufAt at hnb; rw [hm] at hnb; cases hnb
                      cases ob <;> first | exact absurd rfl (hnbuf _ _ _) | skip
                      all_goals
                      simp only [hrow,hold']
                      rw [if_neg (fun q=>by have:=hk q.1; omega)]
                      simp only [ho]
                   split at e
                   · simp only [Option.some.injEq,Prod.mk.injEq] at e; obtain ⟨rfl,hres⟩:=e
                     rename_i hsoft
                     exact hmain (fun a ha=>hA a (by simp [ha])) (fun a ha=>hA a (by simp [ha])) (fun q=>by rw [q] at hsoft; cases hsoft) (hA _ (by simp)) hres
                   · simp only [Option.some.injEq,Prod.mk.injEq] at e; obtain ⟨rfl,hres⟩:=e
                     exact hmain (fun a ha=>hA a (by simp [ha])) (fun a ha=>hA a (by simp [ha])) (fun _=>hA _ (by simp)) (hA _ (by simp)) hres
               · cases e
             · cases e
           · cases e
         · cases e
       · cases e
     · cases e
   · cases e
 · cases e
def symStore (P:Program) (t:TypeId) (h:Tr O) (v:V) (m o:Nat) (k:IntKind) (ks:List Int):Option (List Prop × Tr O):=
 match szof P t,intsOf k v.cells with
 | some s,some new=>match Nat.beq v.cells.length s && (Nat.blt 0 s && Nat.blt m top) with
   | true=>some ([o+s ≤ ks.length],h.set m (some (.own k (putI ks o new))))
   | false=>none
 | _,_=>none
theorem symStore_ok {P:Program} {t:TypeId} {h h':Tr O} {v:V} {m o:Nat} {k:IntKind} {ks:List Int} {A:List Prop} (hm:h.get m=some (.own k ks)) (e:symStore P t h v m o k ks=some (A,h')) (hA:∀ a ∈ A,a):storeAt P t h v (.ptr (some (m,o)))=some h':=by
 unfold symStore at e
 split at e
 · rename_i s new h1 h2
   split at e
   · rename_i hb
     simp only [Option.some.injEq,Prod.mk.injEq] at e; obtain ⟨rfl,rfl⟩:=e
     simp only [Bool.and_eq_true] at hb
     have h3:=Nat.eq_of_beq_eq_true hb.1
     have h4:0 < s:=Nat.le_of_ble_eq_true hb.2.1
     have h5:m < top:=Nat.le_of_ble_eq_true hb.2.2
     have h6:o+s ≤ ks.length:=hA _ (by simp)
     simp only [storeAt,hm,h1,h2]
     rw [if_pos ⟨h3,h4,h5⟩,if_pos h6]
   · cases e
 · cases e
def aggInts (k:IntKind) (ks:List Int) (off sz:Nat):V:=.agg ((List.range sz).map fun j=>V.int k (ks.getD (off+j) 0))
theorem aggInts_ok {P:Program} {t:TypeId} {k:IntKind} {ks:List Int} {off sz:Nat} (ha:aggT P t=some true) (hs:szof P t=some sz) (hl:off+sz ≤ ks.length):readAt P t (ks.map (.int k)) off=some (aggInts k ks off sz):=by
 simp only [readAt,ha,hs,cut,List.length_map,if_pos hl,Option.map_some,aggInts,Option.some.injEq,V.agg.injEq]
 apply List.ext_getElem
 · simp; omega
 · intro i h1 h2
   simp at h1 h2
   have:off+i < ks.length:=by omega
   simp [List.getD,this]
def symLoad (P:Program) (t:TypeId) (k:IntKind) (ks:List Int) (off:Nat):Option (Prop × V):=match aggT P t with
 | some false=>some (off < ks.length,.int k (ks.getD off 0))
 | some true=>match szof P t with
   | some sz=>some (off+sz ≤ ks.length,aggInts k ks off sz)
   | none=>none
 | none=>none
theorem symLoad_ok {P:Program} {t:TypeId} {k:IntKind} {ks:List Int} {off:Nat} {p:Prop} {v:V} (e:symLoad P t k ks off=some (p,v)) (hp:p):readAt P t (ks.map (.int k)) off=some v:=by
 unfold symLoad at e
 split at e
 · rename_i hag
   simp only [Option.some.injEq,Prod.mk.injEq] at e; obtain ⟨rfl,rfl⟩:=e
   simp only [readAt,hag,List.getElem?_map,List.getElem?_eq_getElem hp,Option.map_some,List.getD_eq_getElem?_getD,Option.getD_some]
 · rename_i hag
   split at e
   · rename_i sz hs
     simp only [Option.some.injEq,Prod.mk.injEq] at e; obtain ⟨rfl,rfl⟩:=e
     exact aggInts_ok hag hs hp
   · cases e
 · cases e
def isStrT (P:Program) (t:TypeId):Bool:=match P.underlying t with
 | some .string=>true
 | _=>false
theorem isStrT_ok {P:Program} {t:TypeId} (h:isStrT P t=true):P.underlying t=some .string:=by
 unfold isStrT at h
 split at h
 · assumption
 · cases h
def symOp (P:Program) (o:Oper) (fr:Tr V) (h:Tr O) (n:Nat):Option (List Prop × R):=
 match o.op with
 | .indexAddr t x i=>match opd fr x,opd fr i with
   | some (.slc (some (m,off)) len _ esz),some (.int _ ix)=>match elemSz P t with
     | some s=>match Nat.beq s esz with
       | true=>some ([0 ≤ ix∧ix < len],.val (.ptr (some (m,off+ix.toNat * s))) h n)
       | false=>none
     | none=>none
   | _,_=>plainM P o fr h n
 | .load t a=>match opd fr a with
   | some (.ptr (some (m,off)))=>match h.get m with
     | some (.ints k ks)=>match symLoad P t k ks off with
       | some (p,v)=>some ([p],.val v h n)
       | none=>none
     | some (.own k ks)=>match symLoad P t k ks off with
       | some (p,v)=>some ([p],.val v h n)
       | none=>none
     | _=>plainM P o fr h n
   | _=>plainM P o fr h n
 | .store t a x=>match opd fr a,opd fr x with
   | some (.ptr (some (m,off))),some v=>match h.get m with
     | some (.own k ks)=>match symStore P t h v m off k ks with
       | some (A,h')=>some (A,.val (.tup []) h' n)
       | none=>none
     | _=>plainM P o fr h n
   | _,_=>plainM P o fr h n
 | .call c=>match c.callee with
   | .builtin .append=>match opds fr c.args.toList with
     | some [s,x]=>match isRow h s || isRow h x with
       | true=>match Nat.beq c.argTypes.size 2 with
         | true=>symAppend P c.argTypes [s,x] h n
         | false=>none
       | false=>plainM P o fr h n
     | _=>plainM P o fr h n
   | _=>plainM P o fr h n
 | .slice t x (some lo) (some hi) none=>match opd fr x,opd fr lo,opd fr hi with
   | some (.slc a len cap esz),some (.int _ lx),some (.int _ hx)=>match elemSz P t with
     | some s=>match Nat.beq s esz || a.isNone with
       | true=>some ([0 ≤ hx∧hx ≤ cap,0 ≤ lx∧lx ≤ hx.toNat],.val (.slc (match a with | none=>none | some (b,o)=>some (b,o+lx.toNat * esz)) (hx.toNat - lx.toNat) (cap - lx.toNat) esz) h n)
       | false=>none
     | none=>none
   | some (.str s),some (.int _ lx),some (.int _ hx)=>match isStrT P t with
     | true=>some ([0 ≤ hx∧hx ≤ s.length,0 ≤ lx∧lx ≤ hx.toNat],.val (.str ((s.take hx.toNat).drop lx.toNat)) h n)
     | false=>none
   | _,_,_=>plainM P o fr h n
 | .slice t x none (some hi) none=>match opd fr x,opd fr hi with
   | some (.slc a len cap esz),some (.int _ hx)=>match elemSz P t with
     | some s=>match Nat.beq s esz || a.isNone with
       | true=>some ([0 ≤ hx∧hx ≤ cap],.val (.slc (match a with | none=>none | some (b,o)=>some (b,o+0 * esz)) (hx.toNat - 0) (cap - 0) esz) h n)
       | false=>none
     | none=>none
   | some (.str s),some (.int _ hx)=>match isStrT P t with
     | true=>some ([0 ≤ hx∧hx ≤ s.length],.val (.str ((s.take hx.toNat).drop 0)) h n)
     | false=>none
   | _,_=>plainM P o fr h n
 | .slice t x (some lo) none none=>match opd fr x,opd fr lo with
   | some (.slc a len cap esz),some (.int _ lx)=>match elemSz P t with
     | some s=>match Nat.beq s esz || a.isNone with
       | true=>some ([0 ≤ lx∧lx ≤ len],.val (.slc (match a with | none=>none | some (b,o)=>some (b,o+lx.toNat * esz)) (len - lx.toNat) (cap - lx.toNat) esz) h n)
       | false=>none
     | none=>none
   | some (.str s),some (.int _ lx)=>match isStrT P t with
     | true=>some ([0 ≤ lx∧lx ≤ s.length],.val (.str ((s.take s.length).drop lx.toNat)) h n)
     | false=>none
   | _,_=>plainM P o fr h n
 | .binOp .eql t x y _=>match opd fr x,opd fr y with
   | some (.agg xs),some (.agg ys)=>match eqAgg P t xs ys with
     | some r=>some ([],.val (.bool r) h n)
     | none=>none
   | _,_=>plainM P o fr h n
 | .binOp .neq t x y _=>match opd fr x,opd fr y with
   | some (.agg xs),some (.agg ys)=>match eqAgg P t xs ys with
     | some r=>some ([],.val (.bool (!r)) h n)
     | none=>none
   | _,_=>plainM P o fr h n
 | .binOp .quo t x y _=>match opd fr x,opd fr y with
   | some (.int k a),some (.int k' b)=>match decide (k=k') with
     | true=>some ([b ≠ 0],.val (.int k (k.wrap (a.tdiv b))) h n)
     | false=>none
   | _,_=>plainM P o fr h n
 | .index t x i=>match opd fr x,opd fr i with
   | some (.str s),some (.int _ ix)=>match isStrT P t with
     | true=>some ([0 ≤ ix∧ix.toNat < s.length],.val (.int .u8 (s.getD ix.toNat 0).toNat) h n)
     | false=>none
   | some (.agg (.int k0 n0 :: cs)),some (.int _ ix)=>match pxT P t with
     | some (len,_,sz)=>some ([0 ≤ ix∧ix < len,ix.toNat * sz+sz ≤ (V.int k0 n0 :: cs).length],.val (.agg (List.take sz (List.drop (ix.toNat * sz) (V.int k0 n0 :: cs)))) h n)
     | none=>plainM P o fr h n
   | _,_=>plainM P o fr h n
 | _=>plainM P o fr h n
theorem plainM_ok {P:Program} {o:Oper} {fr:Tr V} {h:Tr O} {n:Nat} {l:List Prop} {r:R} (e:plainM P o fr h n=some (l,r)):stepOp P o fr h n=some r:=by
 unfold plainM at e
 split at e
 · rename_i r' hr
   simp only [Option.some.injEq,Prod.mk.injEq] at e; obtain ⟨_,rfl⟩:=e; exact hr
 · cases e
theorem elemSz_ok {P:Program} {t:TypeId} {s:Nat} (e:elemSz P t=some s):∃ el,P.underlying t=some (.slice el)∧szof P el=some s:=by
 unfold elemSz elemT at e
 cases hu:P.underlying t with
 | none=>simp [hu] at e
 | some d=>cases d <;> simp [hu] at e
           exact ⟨_,rfl,e⟩
theorem symOp_ok {P:Program} {o:Oper} {fr:Tr V} {h:Tr O} {n:Nat} {l:List Prop} {r:R} (e:symOp P o fr h n=some (l,r)) (hl:∀ p ∈ l,p):stepOp P o fr h n=some r:=by
 unfold symOp at e
 split at e
 · rename_i t x i ho
   split at e
   · rename_i m off len cp esz k ix hx hi
     split at e
     · rename_i s hs
       split at e
       · rename_i hb
         simp only [Option.some.injEq,Prod.mk.injEq] at e; obtain ⟨rfl,rfl⟩:=e
         have hb:=Nat.eq_of_beq_eq_true hb
         subst hb
         obtain ⟨el,h1,h2⟩:=elemSz_ok hs
         have hc:=hl _ (List.mem_singleton.2 rfl)
         simp only [stepOp,ho,hx,hi,indexAddrV,h1,h2,okV]
         rw [if_pos (by exact ⟨hc.1,hc.2,trivial⟩)]
       · cases e
     · cases e
   · exact plainM_ok e
 · rename_i t a ho
   split at e
   · rename_i m off ha
     split at e
     · rename_i k ks hm
       split at e
       · rename_i p v hs
         simp only [Option.some.injEq,Prod.mk.injEq] at e; obtain ⟨rfl,rfl⟩:=e
         have hp:p:=hl _ (List.mem_singleton.2 rfl)
         simp only [stepOp,ho,ha,loadAt,hm,symLoad_ok hs hp,okV]
       · cases e
     · rename_i k ks hm
       split at e
       · rename_i p v hs
         simp only [Option.some.injEq,Prod.mk.injEq] at e; obtain ⟨rfl,rfl⟩:=e
         have hp:p:=hl _ (List.mem_singleton.2 rfl)
         simp only [stepOp,ho,ha,loadAt,hm,symLoad_ok hs hp,okV]
       · cases e
     · exact plainM_ok e
   · exact plainM_ok e
 · rename_i t a x ho
   split at e
   · rename_i m off v ha hx
     split at e
     · rename_i k ks hm
       split at e
       · rename_i A h' hs
         simp only [Option.some.injEq,Prod.mk.injEq] at e; obtain ⟨rfl,rfl⟩:=e
         simp only [stepOp,ho,ha,hx,symStore_ok hm hs hl]
       · cases e
     · exact plainM_ok e
   · exact plainM_ok e
 · rename_i c ho
   split at e
   · rename_i hc
     split at e
     · rename_i s x hargs
       split at e
       · split at e
         · rename_i hb
           have hb:=Nat.eq_of_beq_eq_true hb
           simp only [stepOp,ho,callV,hargs,hc,builtinV,hb,if_true]
           exact symAppend_ok e hl
         · cases e
       · exact plainM_ok e
     · exact plainM_ok e
   · exact plainM_ok e
 · rename_i t x lo hi ho
   split at e
   · rename_i a len cp esz k lx k2 hx hxx hlo hhi
     split at e
     · rename_i s hs
       split at e
       · rename_i hb
         simp only [Option.some.injEq,Prod.mk.injEq] at e; obtain ⟨rfl,rfl⟩:=e
         obtain ⟨el,h1,h2⟩:=elemSz_ok hs
         have hc:=hl _ (List.mem_cons_self ..)
         have hc2:=hl _ (List.mem_cons_of_mem _ (List.mem_singleton.2 rfl))
         have hb':s=esz ∨ a=none:=by
          simp only [Bool.or_eq_true,Option.isNone_iff_eq_none] at hb
          exact hb.imp Nat.eq_of_beq_eq_true _root_.id
         simp only [stepOp,ho,hxx,hlo,hhi,opdOpt,sliceV,h1,h2,okV,Option.isSome_none,Bool.false_eq_true,false_and,if_false]
         rw [if_pos hb']
         simp only [boundV,if_pos hc,if_pos hc2]
         cases a <;> rfl
       · cases e
     · cases e
   · rename_i s k lx k2 hx hxx hlo hhi
     split at e
     · rename_i hs
       simp only [Option.some.injEq,Prod.mk.injEq] at e; obtain ⟨rfl,rfl⟩:=e
       have hc:=hl _ (List.mem_cons_self ..)
       have hc2:=hl _ (List.mem_cons_of_mem _ (List.mem_singleton.2 rfl))
       simp only [stepOp,ho,hxx,hlo,hhi,opdOpt,sliceV,isStrT_ok hs,okV,Option.isSome_none,Bool.false_eq_true,false_and,if_false,boundV,if_pos hc,if_pos hc2]
     · cases e
   · exact plainM_ok e
 · rename_i t x hi ho
   split at e
   · rename_i a len cp esz k hx hxx hhi
     split at e
     · rename_i s hs
       split at e
       · rename_i hb
         simp only [Option.some.injEq,Prod.mk.injEq] at e; obtain ⟨rfl,rfl⟩:=e
         obtain ⟨el,h1,h2⟩:=elemSz_ok hs
         have hc:=hl _ (List.mem_singleton.2 rfl)
         have hb':s=esz ∨ a=none:=by
          simp only [Bool.or_eq_true,Option.isNone_iff_eq_none] at hb
          exact hb.imp Nat.eq_of_beq_eq_true _root_.id
         simp only [stepOp,ho,hxx,hhi,opdOpt,sliceV,h1,h2,okV,Option.isSome_none,Bool.false_eq_true,false_and,if_false]
         rw [if_pos hb']
         simp only [boundV,if_pos hc]
         cases a <;> rfl
       · cases e
     · cases e
   · rename_i s k hx hxx hhi
     split at e
     · rename_i hs
       simp only [Option.some.injEq,Prod.mk.injEq] at e; obtain ⟨rfl,rfl⟩:=e
       have hc:=hl _ (List.mem_singleton.2 rfl)
       simp only [stepOp,ho,hxx,hhi,opdOpt,sliceV,isStrT_ok hs,okV,Option.isSome_none,Bool.false_eq_true,false_and,if_false,boundV,if_pos hc]
     · cases e
   · exact plainM_ok e
 · rename_i t x lo ho
   split at e
   · rename_i a len cp esz k lx hxx hhi
     split at e
     · rename_i s hs
       split at e
       · rename_i hb
         simp only [Option.some.injEq,Prod.mk.injEq] at e; obtain ⟨rfl,rfl⟩:=e
         obtain ⟨el,h1,h2⟩:=elemSz_ok hs
         have hc:=hl _ (List.mem_singleton.2 rfl)
         have hb':s=esz ∨ a=none:=by
          simp only [Bool.or_eq_true,Option.isNone_iff_eq_none] at hb
          exact hb.imp Nat.eq_of_beq_eq_true _root_.id
         simp only [stepOp,ho,hxx,hhi,opdOpt,sliceV,h1,h2,okV,Option.isSome_none,Bool.false_eq_true,false_and,if_false]
         rw [if_pos hb']
         simp only [boundV,if_pos hc]
         cases a <;> rfl
       · cases e
     · cases e
   · rename_i s k lx hxx hhi
     split at e
     · rename_i hs
       simp only [Option.some.injEq,Prod.mk.injEq] at e; obtain ⟨rfl,rfl⟩:=e
       have hc:=hl _ (List.mem_singleton.2 rfl)
       simp only [stepOp,ho,hxx,hhi,opdOpt,sliceV,isStrT_ok hs,okV,Option.isSome_none,Bool.false_eq_true,false_and,if_false,boundV,if_pos hc]
     · cases e
   · exact plainM_ok e
 · rename_i t x y yt ho
   split at e
   · rename_i xs ys hx hy
     split at e
     · rename_i r hr
       simp only [Option.some.injEq,Prod.mk.injEq] at e; obtain ⟨rfl,rfl⟩:=e
       simp only [stepOp,ho,hx,hy,binV,eqAgg_ok hr,Option.map_some,okV]
     · cases e
   · exact plainM_ok e
 · rename_i t x y yt ho
   split at e
   · rename_i xs ys hx hy
     split at e
     · rename_i r hr
       simp only [Option.some.injEq,Prod.mk.injEq] at e; obtain ⟨rfl,rfl⟩:=e
       simp only [stepOp,ho,hx,hy,binV,eqAgg_ok hr,Option.map_some,okV]
     · cases e
   · exact plainM_ok e
 · rename_i t x y yt ho
   split at e
   · rename_i k a k' b hx hy
     split at e
     · rename_i hk
       have hk:=of_decide_eq_true hk
       subst hk
       simp only [Option.some.injEq,Prod.mk.injEq] at e; obtain ⟨rfl,rfl⟩:=e
       have hb:b ≠ 0:=hl _ (List.mem_singleton.2 rfl)
       have:binV P .quo t x y (.int k a) (.int k b)=some (.int k (k.wrap (a.tdiv b))):=by
        simp [binV,binOp,Op.intDiv,hb,pureSem,ofScalar]
        rfl
       simp only [stepOp,ho,hx,hy,this,okV]
     · cases e
   · exact plainM_ok e
 · rename_i t x i ho
   split at e
   · rename_i s k ix hx hi
     split at e
     · rename_i hs
       simp only [Option.some.injEq,Prod.mk.injEq] at e; obtain ⟨rfl,rfl⟩:=e
       have hc:0 ≤ ix∧ix.toNat < s.length:=hl _ (List.mem_singleton.2 rfl)
       have hg:s[ix.toNat]? =some s[ix.toNat]:=List.getElem?_eq_getElem hc.2
       have hd:s.getD ix.toNat 0=s[ix.toNat]:=by rw [List.getD_eq_getElem?_getD,hg]; rfl
       simp only [stepOp,ho,hx,hi,indexV,isStrT_ok hs,if_pos hc.1,hg,hd,okV]
     · cases e
   · rename_i k0 m0 cs k ix hx hi
     split at e
     · rename_i len el sz hs
       simp only [Option.some.injEq,Prod.mk.injEq] at e; obtain ⟨rfl,rfl⟩:=e
       have hc:0 ≤ ix∧ix < len:=hl _ (by simp)
       have hd:ix.toNat * sz+sz ≤ (V.int k0 m0 :: cs).length:=hl (ix.toNat * sz+sz ≤ (V.int k0 m0 :: cs).length) (by simp)
       obtain ⟨q1,q2,q3⟩:=pxT_ok hs
       simp only [stepOp,ho,hx,hi,indexV,q1,q3,if_pos hc,partV,readAt,q2,cut,if_pos hd,Option.map_some,okV]
     · exact plainM_ok e
   · exact plainM_ok e
 · exact plainM_ok e
end Go.Eng
namespace Go.Eng
open Go Go.RowKit
inductive Fix where
 | split
 | give (v:V)
def fixOf:List (Nat × Fix)→Nat→Option Fix
 | [],_=>none
 | x :: r,d=>match Nat.beq x.1 d with
   | true=>some x.2
   | false=>fixOf r d
def fixM (H:List (Nat × Fix)) (dst:Option Nat) (v:V):M V:=
 match dst with
 | none=>.ret v
 | some d=>match fixOf H d with
   | none=>.ret v
   | some (.give u)=>some [(⟨[],[],[v=u]⟩,u)]
   | some .split=>match v with
     | .bool c=>some [(⟨[(c,true)],[],[]⟩,.bool true),(⟨[(c,false)],[],[]⟩,.bool false)]
     | v=>.ret v
theorem fixM_sound (H:List (Nat × Fix)) (dst:Option Nat) (v:V):Sound (fixM H dst v) (some v):=by
 unfold fixM
 split
 · exact .ret v
 · split
   · exact .ret v
   · rename_i u hu
     intro l h
     simp only [Option.some.injEq] at h; subst h
     refine ⟨⟨_,List.mem_singleton.2 rfl,fun c hc=>by simp at hc⟩,fun e he _ hg=>?_⟩
     simp only [List.mem_singleton] at he; subst he
     have:v=u:=hg.2 _ (List.mem_singleton.2 rfl)
     rw [this]
   · split
     · rename_i c
       intro l h
       simp only [Option.some.injEq] at h; subst h
       refine ⟨?_,fun e he ho _=>?_⟩
       · cases hc:c with
         | true=>exact ⟨(⟨[(true,true)],[],[]⟩,.bool true),by simp,fun x hx=>by simp only [List.mem_singleton] at hx; subst hx; rfl⟩
         | false=>exact ⟨(⟨[(false,false)],[],[]⟩,.bool false),by simp,fun x hx=>by simp only [List.mem_singleton] at hx; subst hx; rfl⟩
       · simp only [List.mem_cons,List.not_mem_nil,or_false] at he
         rcases he with rfl | rfl
         · have:c=true:=ho (c,true) (List.mem_singleton.2 rfl); rw [this]
         · have:c=false:=ho (c,false) (List.mem_singleton.2 rfl); rw [this]
     · exact .ret _
abbrev Ctr:=FuncId→List V→Tr O→Option (List Prop × V)
def retOnly:Option (Out × Tr O × Nat)→Option (V × Tr O × Nat)
 | some (.ret v,h,n)=>some (v,h,n)
 | _=>none
theorem sound_getL {α:Type} {m:M α} {r r':Option α} (h:Sound m r) (e:∀ a,r=some a→r'=some a):Sound m r':=by
 intro l hl
 obtain ⟨h1,h2⟩:=h l hl
 exact ⟨h1,fun x hx ho hg=>e _ (h2 x hx ho hg)⟩
section
variable (P:Program) (S:Ctr) (cf:CallF) (H:List (Nat × Fix))
theorem bind_some' {α β:Type} (a:α) (g:α→Option β):(some a).bind g=g a:=rfl
def getL {α β:Type}:Option (α ⊕ β)→Option α
 | some (.inl a)=>some a
 | _=>none
def roundsM (f:St→M (X × St)):Nat→St→M (X × St)
 | 0,_=>none
 | k+1,s=>(f s).then fun p=>match p.1 with
   | .normal=>roundsM f k p.2
   | _=>.ret p
theorem roundsM_sound {f:St→M (X × St)} {g:St→Option (X × St)} (h:∀ s,Sound (f s) (g s)):∀ (k:Nat) (s:St),Sound (roundsM f k s) (rounds g k s)
 | 0,s=>.none _
 | k+1,s=>by
   simp only [roundsM,rounds]
   refine (Sound.then (h s) (g:=fun p=>match p.1 with | .normal=>rounds g k p.2 | _=>some p) (fun p=>?_)).of_eq ?_
   · obtain ⟨x,s'⟩:=p
     cases x with
     | normal=>exact roundsM_sound h k s'
     | _=>exact .ret _
   · cases g s with
     | none=>rfl
     | some p=>obtain ⟨x,s'⟩:=p; cases x <;> rfl
end
section
variable {P:Program} {S:Ctr} {cf:CallF} {H:List (Nat × Fix)} {F N:Nat} {w0:World} {c:Code} {s:St} {Q:Exit→St→Prop}
def tells {α:Type} (f:X × St→α):List (Pth × X × St)→List (List (Bool × Bool) × List Prop × α)
 | []=>[]
 | (p,x) :: r=>(p.conds,p.asr,f x) :: tells f r
def samesL {α:Type}:List (Pth × α)→List V
 | []=>[]
 | (p,_) :: r=>p.same.map (·.1) ++ samesL r
def samesR {α:Type}:List (Pth × α)→List V
 | []=>[]
 | (p,_) :: r=>p.same.map (·.2) ++ samesR r
def orNil {α:Type}:M α→List (Pth × α)
 | some l=>l
 | none=>[]
theorem map_same:∀ {l:List (V × V)},l.map (·.1)=l.map (·.2)→∀ c ∈ l,c.1=c.2
 | [],_,c,hc=>by simp at hc
 | x :: r,h,c,hc=>by
   simp only [List.map_cons,List.cons.injEq] at h
   rcases List.mem_cons.1 hc with rfl | hc
   · exact h.1
   · exact map_same h.2 c hc
theorem same_ok {α:Type}:∀ (l:List (Pth × α)),samesL l=samesR l→∀ p ∈ l,∀ c ∈ p.1.same,c.1=c.2
 | [],_,p,hp=>by simp at hp
 | (q,x) :: r,h,p,hp=>by
   simp only [samesL,samesR] at h
   have hl:(q.same.map (·.1)).length=(q.same.map (·.2)).length:=by simp
   obtain ⟨h1,h2⟩:=List.append_inj h hl
   rcases List.mem_cons.1 hp with rfl | hp
   · exact map_same h1
   · exact same_ok r h2 p hp
theorem tells_mem {α:Type} {f:X × St→α}:∀ {l:List (Pth × X × St)} {p:Pth × X × St},p ∈ l→(p.1.conds,p.1.asr,f p.2) ∈ tells f l
 | [],p,hp=>by simp at hp
 | (q,x) :: r,p,hp=>by
   rcases List.mem_cons.1 hp with rfl | hp
   · simp [tells]
   · simp only [tells,List.mem_cons]; exact .inr (tells_mem hp)
end
end Go.Eng
namespace Go.Eng
open Go Go.RowKit
theorem cpost_of {E:Env} {h:Tr O} {n:Nat} {w:World} {v:V} (g:Good E h w) (hd:Dom E n) (hv:v.free=true) {e:Ending} {w':World} (ho:∃ E',outrel E' (.ret v) e) (b:Below w.heap.size w w'):CPost E h n w (.ret v) h n e w':=by
 refine ⟨E,.below g b,fun _ _=>rfl,hd,Nat.le_refl _,?_⟩
 · obtain ⟨E1,ho⟩:=ho
   cases e with
   | returned v'=>exact free_rel _ _ hv ho
   | _=>exact ho.elim
def PureA (P:Program) (f:FuncId) (spec:List V→Tr O→Option (List Prop × V)):Prop:=f < P.funcs.size∧∀ args h A v,spec args h=some (A,v)→v.free=true∧((∀ a ∈ A,a)→
 ∀ E n w args',vrels E args args'→Good E h w→Dom E n→callee P f=true→Calls P f args'.toArray w fun e w'=>(∃ E',outrel E' (.ret v) e)∧Below w.heap.size w w')
def startSt (args:List V) (h:Tr O) (n:Nat):St:={ fr:=frameOf args 0 .nil,h:=h,n:=n,dfs:=[] }
section
variable {P:Program} {S:Ctr} {cf:CallF} {H:List (Nat × Fix)} {F:Nat} {f:FuncId} {fn:Func} {code:Code}
end
end Go.Eng
namespace Go.Eng
open Go Go.RowKit
def Env.two (E:Env) (a b:Option Nat):Env:=⟨fun j=>match j with | 0=>a.bind E.ι | 1=>b.bind E.ι | _=>none,E.β,E.φ⟩
section
variable {P:Program} {S:Ctr} {cf:CallF} {H:List (Nat × Fix)} {F N:Nat} {w0:World} {c:Code} {s:St} {Q:Exit→St→Prop}
def RetQ (P:Program) (cf:CallF) (F:Nat) (fn:Func) (v:V) (y:Exit) (s':St):Prop:=(y= .normal ∨ y= .ret)∧∃ h' n',leave P cf F fn s'.fr s'.dfs .ret s'.h s'.n=some (.ret v,h',n')
inductive Res where
 | next (s:St)
 | exit (id:Nat) (s:St)
 | ret (v:V)
 | bad
def Res.post (P:Program) (cf:CallF) (F:Nat) (fn:Func) (live:List Nat) (I:Nat→St→Prop) (k:Nat) (Q:Exit→St→Prop):Res→Prop
 | .next s=>∃ k',k' < k∧I k' s
 | .exit id s=>∀ s',norm live s'=some s→Q (.exit id) s'
 | .ret v=>∀ s',RetQ P cf F fn v .ret s'→Q .ret s'
 | .bad=>False
end
end Go.Eng
namespace Go.Eng
open Go Go.RowKit
section
variable {P:Program} {S:Ctr} {cf:CallF} {F N:Nat} {w0:World} {c:Code} {s:St} {Q:Exit→St→Prop}
end
end Go.Eng
namespace Go.Eng
open Go Go.RowKit
theorem Upd0.fresh {w0 w:World} {E:Env} {h:Tr O} {q:Nat} {o:O} (u:Upd0 w0 E h w) (hq:h.get q=some o) (hw:o.wr=true):∀ b s,E.ι q=some (b,s)→w0.heap.size ≤ b:=by
 intro b s e
 by_cases q':b < w0.heap.size
 · exact (u.img q b s ⟨_,hq,hw⟩ e q').elim
 · omega
end Go.Eng
namespace Go.Eng
open Go Go.RowKit
abbrev CallS:=FuncId→List V→Tr O→Nat→M (V × Tr O × Nat)
def SoundC (cs:CallS) (cf:CallF):Prop:=∀ f args h n,Sound (cs f args h n) (retOnly (cf f args h n))
def symOpN (P:Program) (o:Oper) (fr:Tr V) (h:Tr O) (n:Nat):Option (List Prop × R):=
 match o.op with
 | .binOp .add t x y _=>match opd fr x,opd fr y with
   | some (.str a),some (.str b)=>some ([a.length+b.length ≤ intMax],.val (.str (a ++ b)) h n)
   | _,_=>symOp P o fr h n
 | .binOp .rem t x (.tmp y) _=>match opd fr x,fr.get y with
   | some (.int k a),some (.int k' b)=>match decide (k=k') with
     | true=>some ([b ≠ 0],.val (.int k (a.tmod b)) h n)
     | false=>none
   | _,_=>symOp P o fr h n
 | .indexAddr t x (.tmp i)=>match opd fr x,fr.get i with
   | some (.ptr (some (m,off))),some (.int _ ix)=>match P.underlying t with
     | some (.array len e)=>match szof P e with
       | some s=>some ([0 ≤ ix∧ix < len],.val (.ptr (some (m,off+ix.toNat * s))) h n)
       | none=>none
     | _=>symOp P o fr h n
   | _,_=>symOp P o fr h n
 | .makeSlice t (.tmp l) (.tmp c)=>match elemT P t,fr.get l,fr.get c with
   | some e,some (.int _ lv),some (.int _ cv)=>match P.info? e,zeroOf P e with
     | some i,some z=>match sizesB i z,newObj h n (zeroRow z.cells (IntKind.i64.wrap cv).toNat).toO with
       | true,some (h',n')=>some ([0 ≤ IntKind.i64.wrap lv∧IntKind.i64.wrap lv ≤ IntKind.i64.wrap cv∧i.bytes * IntKind.i64.wrap cv ≤ 281474976710656],.val (.slc (some (n,0)) (IntKind.i64.wrap lv).toNat (IntKind.i64.wrap cv).toNat i.size) h' n')
       | _,_=>none
     | _,_=>none
   | _,_,_=>symOp P o fr h n
 | _=>symOp P o fr h n
theorem symOpN_ok {P:Program} {o:Oper} {fr:Tr V} {h:Tr O} {n:Nat} {l:List Prop} {r:R} (e:symOpN P o fr h n=some (l,r)) (hl:∀ p ∈ l,p):stepOp P o fr h n=some r:=by
 unfold symOpN at e
 split at e
 · rename_i t x y u ho
   split at e
   · rename_i a b ha hb
     simp only [Option.some.injEq,Prod.mk.injEq] at e; obtain ⟨rfl,rfl⟩:=e
     have hlen:=hl _ (List.mem_singleton.2 rfl)
     unfold stepOp
     rw [ho]
     simp only [ha,hb]
     unfold binV strOp
     simp only [if_pos hlen,okV]
   · exact symOp_ok e hl
 · rename_i t x y yt ho
   split at e
   · rename_i k a k' b hx hy
     split at e
     · rename_i hk
       have hk:=of_decide_eq_true hk
       subst hk
       simp only [Option.some.injEq,Prod.mk.injEq] at e; obtain ⟨rfl,rfl⟩:=e
       have hb:b ≠ 0:=hl _ (List.mem_singleton.2 rfl)
       have hy':opd fr (.tmp y)=some (.int k b):=hy
       have:binV P .rem t x (.tmp y) (.int k a) (.int k b)=some (.int k (a.tmod b)):=by
        simp [binV,binOp,Op.intDiv,hb,pureSem,ofScalar]
        rfl
       simp only [stepOp,ho,hx,hy',this,okV]
     · cases e
   · exact symOp_ok e hl
 · rename_i t x i ho
   split at e
   · rename_i m off k ix hx hi
     split at e
     · rename_i len el hu
       split at e
       · rename_i sz hs
         simp only [Option.some.injEq,Prod.mk.injEq] at e; obtain ⟨rfl,rfl⟩:=e
         have hin:=hl _ (List.mem_singleton.2 rfl)
         have hi':opd fr (.tmp i)=some (.int k ix):=hi
         unfold stepOp
         rw [ho]
         simp only [hx,hi']
         unfold indexAddrV
         simp only [hu,hs,if_pos hin,okV]
       · cases e
     · exact symOp_ok e hl
   · exact symOp_ok e hl
 · rename_i t l1 c1 ho
   split at e
   · rename_i el k1 lv k2 cv he h1 h2
     split at e
     · rename_i i z hi hz
       split at e
       · rename_i h' n' hb hn
         simp only [Option.some.injEq,Prod.mk.injEq] at e; obtain ⟨rfl,rfl⟩:=e
         simp only [sizesB,Bool.and_eq_true,decide_eq_true_eq] at hb
         have hin:=hl _ (List.mem_singleton.2 rfl)
         have h1':opd fr (.tmp l1)=some (.int k1 lv):=h1
         have h2':opd fr (.tmp c1)=some (.int k2 cv):=h2
         unfold stepOp
         rw [ho]
         simp only [h1',h2']
         unfold makeSliceV
         simp only [he,hi,hz]
         rw [if_pos ⟨hb.1,hb.2.2,hin.1,hin.2.1,hin.2.2⟩]
         simp only [hn]
       · cases e
     · cases e
   · exact symOp_ok e hl
 · exact symOp_ok e hl
def cellsAt (cs:List D) (o size:Nat):List D:=(cs.drop o).take size
def D.dflt:D:=.bool false
def deepLoad (P:Program) (t:TypeId) (cs:List D) (off:Nat):Option (Prop × V):=match aggT P t with
 | some false=>some (off < cs.length,(cs.getD off D.dflt).toV)
 | some true=>match szof P t with
   | some sz=>some (off+sz ≤ cs.length,.agg (D.toVs (cellsAt cs off sz)))
   | none=>none
 | none=>none
theorem deepLoad_ok {P:Program} {t:TypeId} {cs:List D} {off:Nat} {p:Prop} {v:V} (e:deepLoad P t cs off=some (p,v)) (hp:p):readAt P t (D.toVs cs) off=some v:=by
 unfold deepLoad at e
 split at e
 · rename_i hag
   simp only [Option.some.injEq,Prod.mk.injEq] at e; obtain ⟨rfl,rfl⟩:=e
   simp only [readAt,hag,D.toVs_map,List.getElem?_map,List.getElem?_eq_getElem hp,Option.map_some,List.getD_eq_getElem?_getD,Option.getD_some]
 · rename_i hag
   split at e
   · rename_i sz hs
     simp only [Option.some.injEq,Prod.mk.injEq] at e; obtain ⟨rfl,rfl⟩:=e
     simp only [readAt,hag,hs,cut,D.toVs_map,List.length_map,if_pos hp,Option.map_some,cellsAt,List.map_take,List.map_drop]
   · cases e
 · cases e
def deepStore (P:Program) (t:TypeId) (h:Tr O) (v:V) (m o:Nat) (cs:List D):Option (List Prop × Tr O):=
 match szof P t,deepsOf v.cells with
 | some s,some new=>match Nat.beq v.cells.length s && (Nat.blt 0 s && Nat.blt m top) with
   | true=>some ([o+s ≤ cs.length],h.set m (some (.deep (putDs cs o new))))
   | false=>none
 | _,_=>none
theorem deepStore_ok {P:Program} {t:TypeId} {h h':Tr O} {v:V} {m o:Nat} {cs:List D} {A:List Prop} (hm:h.get m=some (.deep cs)) (e:deepStore P t h v m o cs=some (A,h')) (hA:∀ a ∈ A,a):storeAt P t h v (.ptr (some (m,o)))=some h':=by
 unfold deepStore at e
 split at e
 · rename_i s new h1 h2
   split at e
   · rename_i hb
     simp only [Option.some.injEq,Prod.mk.injEq] at e; obtain ⟨rfl,rfl⟩:=e
     simp only [Bool.and_eq_true] at hb
     have h3:=Nat.eq_of_beq_eq_true hb.1
     have h4:0 < s:=Nat.le_of_ble_eq_true hb.2.1
     have h5:m < top:=Nat.le_of_ble_eq_true hb.2.2
     have h6:o+s ≤ cs.length:=hA _ (by simp)
     simp only [storeAt,hm,h1,h2]
     rw [if_pos ⟨h3,h4,h5⟩,if_pos h6]
   · cases e
 · cases e
def symBound (dflt:Nat) (y:Nat):Option V→Option (List Prop × Nat)
 | none=>some ([],dflt)
 | some (.int _ i)=>some ([0 ≤ i∧i ≤ y],i.toNat)
 | some _=>none
theorem symBound_ok {dflt y r:Nat} {o:Option V} {A:List Prop} (e:symBound dflt y o=some (A,r)) (hA:∀ a ∈ A,a):boundV dflt y o=some r:=by
 unfold symBound at e
 split at e
 · simp only [Option.some.injEq,Prod.mk.injEq] at e; obtain ⟨_,rfl⟩:=e; rfl
 · simp only [Option.some.injEq,Prod.mk.injEq] at e; obtain ⟨rfl,rfl⟩:=e
   simp only [boundV,if_pos (hA _ (List.mem_singleton.2 rfl))]
 · cases e
def deepSlice (s:Nat) (f:Bool) (len:Nat) (cs:List D) (lo hi mx:Option V):Option (List Prop × V):=
 match mx with
 | none=>match symBound len len hi with
   | some (A,h)=>match symBound 0 h lo with
     | some (B,l)=>some ((cs.length=len * s) :: (A ++ B),.lst (f && !hi.isSome) (h - l) (cellsAt cs (l * s) ((h - l) * s)))
     | none=>none
   | none=>none
 | some mv=>match symBound len len (some mv),hi with
   | some (C,m),some hv=>match symBound len m (some hv) with
     | some (A,h)=>match symBound 0 h lo with
       | some (B,l)=>some ((cs.length=len * s) :: (h=m) :: (C ++ (A ++ B)),.lst true (h - l) (cellsAt cs (l * s) ((h - l) * s)))
       | none=>none
     | none=>none
   | _,_=>none
theorem deepSlice_ok {P:Program} {t el:TypeId} {s len:Nat} {f:Bool} {cs:List D} {lo hi mx:Option V} {h:Tr O} {A:List Prop} {v:V} (hu:P.underlying t=some (.slice el)) (hs:szof P el=some s)
  (e:deepSlice s f len cs lo hi mx=some (A,v)) (hA:∀ a ∈ A,a):sliceV P t h (.lst f len cs) lo hi mx=some v:=by
 unfold deepSlice at e
 split at e
 · split at e
   case h_2=>cases e
   rename_i A1 hh h1
   split at e
   case h_2=>cases e
   rename_i B1 l h2
   simp only [Option.some.injEq,Prod.mk.injEq] at e; obtain ⟨rfl,rfl⟩:=e
   have k1:=symBound_ok h1 fun a ha=>hA a (by simp [ha])
   have k2:=symBound_ok h2 fun a ha=>hA a (by simp [ha])
   have k3:cs.length=len * s:=hA _ (by simp)
   unfold sliceV
   rw [if_neg (by simp)]
   simp only [hu,hs,if_pos k3,k1,k2,cellsAt]
 · split at e
   case h_2=>cases e
   rename_i C m hv h0
   split at e
   case h_2=>cases e
   rename_i A1 hh h1
   split at e
   case h_2=>cases e
   rename_i B1 l h2
   simp only [Option.some.injEq,Prod.mk.injEq] at e; obtain ⟨rfl,rfl⟩:=e
   have k0:=symBound_ok h0 fun a ha=>hA a (by simp [ha])
   have k1:=symBound_ok h1 fun a ha=>hA a (by simp [ha])
   have k2:=symBound_ok h2 fun a ha=>hA a (by simp [ha])
   have k3:cs.length=len * s:=hA _ (by simp)
   have k4:hh=m:=hA _ (by simp)
   unfold sliceV
   rw [if_neg (by simp)]
   simp only [hu,hs,if_pos k3,k0,k1,k2,if_pos k4,cellsAt]
def isSlcT (P:Program) (t:TypeId):Bool:=match P.underlying t with
 | some (.slice _)=>true
 | _=>false
def symOpD (P:Program) (o:Oper) (fr:Tr V) (h:Tr O) (n:Nat):Option (List Prop × R):=
 match o.op with
 | .load t a=>match opd fr a with
   | some (.ptr (some (m,off)))=>match h.get m with
     | some (.deep cs)=>match deepLoad P t cs off with
       | some (p,v)=>some ([p],.val v h n)
       | none=>none
     | _=>symOpN P o fr h n
   | _=>symOpN P o fr h n
 | .store t a x=>match opd fr a,opd fr x with
   | some (.ptr (some (m,off))),some v=>match h.get m with
     | some (.deep cs)=>match deepStore P t h v m off cs with
       | some (A,h')=>some (A,.val (.tup []) h' n)
       | none=>none
     | _=>symOpN P o fr h n
   | _,_=>symOpN P o fr h n
 | .indexAddr t x i=>match opd fr x,opd fr i with
   | some (.lst _ len cs),some (.int _ ix)=>match elemSz P t with
     | some s=>some ([0 ≤ ix∧ix < len,cs.length=len * s],.val (.fptr (cellsAt cs (ix.toNat * s) s)) h n)
     | none=>none
   | _,_=>symOpN P o fr h n
 | .slice t x lo hi mx=>match opd fr x with
   | some (.lst f len cs)=>match elemSz P t,opdOpt fr lo,opdOpt fr hi,opdOpt fr mx with
     | some s,some lo,some hi,some mx=>match deepSlice s f len cs lo hi mx with
       | some (A,v)=>some (A,.val v h n)
       | none=>none
     | _,_,_,_=>none
   | _=>symOpN P o fr h n
 | .convert src dst x=>match opd fr x with
   | some (.slc (some (m,off)) len _ esz)=>match bufRow (h.get m) with
     | some s0=>match P.underlying src,P.underlying dst,Nat.beq esz 1 with
       | some (.slice e),some .string,true=>match P.underlying e with
         | some (.int .u8)=>some ([off+len ≤ s0.length],.val (.str ((s0.drop off).take len)) h n)
         | _=>none
       | _,_,_=>none
     | none=>match u8Row (h.get m) with
     | some ks=>match P.underlying src,P.underlying dst,Nat.beq esz 1 with
       | some (.slice e),some .string,true=>match P.underlying e with
         | some (.int .u8)=>some ([off+len ≤ ks.length],.val (.str (strI ((ks.drop off).take len))) h n)
         | _=>none
       | _,_,_=>none
     | none=>symOpN P o fr h n
   | _=>symOpN P o fr h n
 | .call c=>match c.callee,opds fr c.args.toList with
   | .builtin .unsafeSliceData,some [.slc (some (m,off)) _ cap _]=>some ([0 < cap],.val (.ptr (some (m,off))) h n)
   | .builtin .unsafeString,some [.ptr (some (m,0)),.int .i64 l]=>match c.argTypes[0]? with
     | some pt=>match P.underlying pt,h.get m with
       | some (.pointer e),some (.buf el _ s)=>match decide (el=e) && (Nat.beq (P.cellsOf e) 1 && (Nat.blt m top && Nat.beq c.argTypes.size 2)) with
         | true=>some ([l=s.length∧0 < s.length,s.length ≤ intMax],.val (.str s) (h.set m (some (.buf el true s))) n)
         | false=>none
       | _,_=>none
     | none=>none
   | _,_=>symOpN P o fr h n
 | .binOp .eql t x y _=>match opd fr x,opd fr y with
   | some (.lst _ k _),some (.slc none _ _ _)=>match isSlcT P t with
     | true=>some ([0 < k],.val (.bool false) h n)
     | false=>none
   | _,_=>symOpN P o fr h n
 | _=>symOpN P o fr h n
theorem eqV_lst {P:Program} {d:Nat} {t el:TypeId} {f:Bool} {k l c e:Nat} {cs:List D} (hu:P.underlying t=some (.slice el)):eqV P (d+1) t (.lst f (k+1) cs) (.slc none l c e)=some false:=by
 simp only [eqV,hu]
theorem symOpD_ok {P:Program} {o:Oper} {fr:Tr V} {h:Tr O} {n:Nat} {l:List Prop} {r:R} (e:symOpD P o fr h n=some (l,r)) (hl:∀ p ∈ l,p):stepOp P o fr h n=some r:=by
 unfold symOpD at e
 split at e
 · rename_i t a ho
   split at e
   · rename_i m off ha
     split at e
     · rename_i cs hm
       split at e
       · rename_i p v hs
         simp only [Option.some.injEq,Prod.mk.injEq] at e; obtain ⟨rfl,rfl⟩:=e
         have hp:p:=hl _ (List.mem_singleton.2 rfl)
         simp only [stepOp,ho,ha,loadAt,hm,deepLoad_ok hs hp,okV]
       · cases e
     · exact symOpN_ok e hl
   · exact symOpN_ok e hl
 · rename_i t a x ho
   split at e
   · rename_i m off v ha hx
     split at e
     · rename_i cs hm
       split at e
       · rename_i A h' hs
         simp only [Option.some.injEq,Prod.mk.injEq] at e; obtain ⟨rfl,rfl⟩:=e
         simp only [stepOp,ho,ha,hx,deepStore_ok hm hs hl]
       · cases e
     · exact symOpN_ok e hl
   · exact symOpN_ok e hl
 · rename_i t x i ho
   split at e
   · rename_i f len cs k ix hx hi
     split at e
     · rename_i s hs
       simp only [Option.some.injEq,Prod.mk.injEq] at e; obtain ⟨rfl,rfl⟩:=e
       obtain ⟨el,h1,h2⟩:=elemSz_ok hs
       have k1:=hl _ (List.mem_cons_self ..)
       have k2:=hl _ (List.mem_cons_of_mem _ (List.mem_singleton.2 rfl))
       simp only [stepOp,ho,hx,hi,indexAddrV,h1,h2,okV]
       rw [if_pos ⟨k1,k2⟩]
       rfl
     · cases e
   · exact symOpN_ok e hl
 · rename_i t x lo hi mx ho
   split at e
   · rename_i f len cs hx
     split at e
     · rename_i s lov hiv mxv hs h1 h2 h3
       split at e
       · rename_i A v hv
         simp only [Option.some.injEq,Prod.mk.injEq] at e; obtain ⟨rfl,rfl⟩:=e
         obtain ⟨el,k1,k2⟩:=elemSz_ok hs
         simp only [stepOp,ho,hx,h1,h2,h3,deepSlice_ok k1 k2 hv hl,okV]
       · cases e
     · cases e
   · exact symOpN_ok e hl
 · rename_i src dst x ho
   split at e
   · rename_i m off len cp esz hx
     split at e
     · rename_i s0 hs0
       split at e
       · rename_i el h1 h2 h3
         split at e
         · rename_i h4
           simp only [Option.some.injEq,Prod.mk.injEq] at e; obtain ⟨rfl,rfl⟩:=e
           have k1:=hl _ (List.mem_singleton.2 rfl)
           simp only [stepOp,ho,hx,convV,h1,h2,h4,if_pos (Nat.eq_of_beq_eq_true h3),hs0]
           rw [if_pos (Or.inr k1)]
         · cases e
       · cases e
     · rename_i hs0
       split at e
       · rename_i ks hks
         split at e
         · rename_i el h1 h2 h3
           split at e
           · rename_i h4
             simp only [Option.some.injEq,Prod.mk.injEq] at e; obtain ⟨rfl,rfl⟩:=e
             have k1:=hl _ (List.mem_singleton.2 rfl)
             simp only [stepOp,ho,hx,convV,h1,h2,h4,if_pos (Nat.eq_of_beq_eq_true h3),hs0,hks]
             rw [if_pos (Or.inr k1)]
           · cases e
         · cases e
       · exact symOpN_ok e hl
   · exact symOpN_ok e hl
 · rename_i c ho
   split at e
   · rename_i m off x1 cap x2 hc ha
     simp only [Option.some.injEq,Prod.mk.injEq] at e; obtain ⟨rfl,rfl⟩:=e
     have k1:=hl _ (List.mem_singleton.2 rfl)
     simp only [stepOp,ho,callV,ha,hc,builtinV,if_pos k1]
   · rename_i m l hc ha
     split at e
     · rename_i pt hpt
       split at e
       · rename_i e0 el x1 s hp hm
         split at e
         · rename_i hb
           simp only [Option.some.injEq,Prod.mk.injEq] at e; obtain ⟨rfl,rfl⟩:=e
           simp only [Bool.and_eq_true,decide_eq_true_eq] at hb
           have k1:=hl _ (List.mem_cons_self ..)
           have k2:=hl _ (List.mem_cons_of_mem _ (List.mem_singleton.2 rfl))
           simp only [stepOp,ho,callV,ha,hc,builtinV,hpt,hp,hm]
           rw [if_pos ⟨k1,⟨hb.1,Nat.eq_of_beq_eq_true hb.2.1⟩,Nat.le_of_ble_eq_true hb.2.2.1,Nat.eq_of_beq_eq_true hb.2.2.2,k2⟩]
         · cases e
       · cases e
     · cases e
   · exact symOpN_ok e hl
 · rename_i t x y _ ho
   split at e
   · rename_i f k cs z1 z2 z3 hx hy
     split at e
     · rename_i hq
       simp only [Option.some.injEq,Prod.mk.injEq] at e; obtain ⟨rfl,rfl⟩:=e
       have k1:0 < k:=hl _ (List.mem_singleton.2 rfl)
       obtain ⟨k',rfl⟩:∃ k',k=k'+1:=⟨k - 1,by omega⟩
       unfold isSlcT at hq
       split at hq
       · rename_i el hu
         simp only [stepOp,ho,hx,hy,binV,eqOp,eqV_lst (d:=9999) hu,Option.map_some,okV]
       · cases hq
     · cases e
   · exact symOpN_ok e hl
 · exact symOpN_ok e hl
def symN (P:Program) (o:Oper) (fr:Tr V) (h:Tr O) (n:Nat):M R:=match symOpD P o fr h n with
 | some (l,r)=>some [(⟨[],[],l⟩,r)]
 | none=>none
theorem symN_sound (P:Program) (o:Oper) (fr:Tr V) (h:Tr O) (n:Nat):Sound (symN P o fr h n) (stepOp P o fr h n):=by
 intro l e
 unfold symN at e
 split at e
 · rename_i a r hs
   simp only [Option.some.injEq] at e; subst e
   refine ⟨⟨_,List.mem_singleton.2 rfl,fun c hc=>by simp at hc⟩,fun e he _ hg=>?_⟩
   simp only [List.mem_singleton] at he; subst he
   exact symOpD_ok hs hg.2
 · cases e
section
variable (P:Program) (cs:CallS) (cf:CallF) (H:List (Nat × Fix))
def seqX (ops:Array Oper):List Oper→St→M (X × St)
 | [],s=>.ret (.normal,s)
 | o :: rest,s=>
   match wantedV ops o s.fr with
   | some false=>match putD s.fr o.dst (.tup []) with
     | some fr=>seqX ops rest { s with fr:=fr }
     | none=>none
   | some true=>(symN P o s.fr s.h s.n).then fun r=>match r with
     | .val v h n=>(fixM H o.dst v).then fun v=>match putD s.fr o.dst v with
       | some fr=>seqX ops rest { s with fr:=fr,h:=h,n:=n }
       | none=>none
     | .call f args=>(cs f args s.h s.n).then fun q=>(fixM H o.dst q.1).then fun v=>match putD s.fr o.dst v with
       | some fr=>seqX ops rest { s with fr:=fr,h:=q.2.1,n:=q.2.2 }
       | none=>none
     | _=>none
   | none=>none
theorem seqX_sound (hcs:SoundC cs cf) (ops:Array Oper):∀ (l:List Oper) (s:St),Sound (seqX P cs H ops l s) (seqOps P cf ops l s)
 | [],s=>.ret _
 | o :: rest,s=>by
   simp only [seqX,seqOps]
   rcases wantedV ops o s.fr with _ | (_ | _)
   · exact .none _
   · cases putD s.fr o.dst (.tup []) with
     | none=>exact .none _
     | some fr=>exact seqX_sound hcs ops rest _
   · refine sound_getL (Sound.then (symN_sound P o s.fr s.h s.n) (g:=fun r=>match r with
      | .val v h n=>match putD s.fr o.dst v with
        | some fr=>seqOps P cf ops rest { s with fr:=fr,h:=h,n:=n }
        | none=>none
      | .call f args=>(retOnly (cf f args s.h s.n)).bind fun q=>match putD s.fr o.dst q.1 with
        | some fr=>seqOps P cf ops rest { s with fr:=fr,h:=q.2.1,n:=q.2.2 }
        | none=>none
      | _=>none) (fun r=>?_)) ?_
     · cases r with
       | val v h n=>
         refine (Sound.then (fixM_sound H o.dst v) (g:=fun v=>match putD s.fr o.dst v with
          | some fr=>seqOps P cf ops rest { s with fr:=fr,h:=h,n:=n }
          | none=>none) (fun v=>?_)).of_eq rfl
         cases putD s.fr o.dst v with
         | none=>exact .none _
         | some fr=>exact seqX_sound hcs ops rest _
       | call f args=>
         refine Sound.then (hcs f args s.h s.n) (fun q=>?_)
         refine (Sound.then (fixM_sound H o.dst q.1) (g:=fun v=>match putD s.fr o.dst v with
          | some fr=>seqOps P cf ops rest { s with fr:=fr,h:=q.2.1,n:=q.2.2 }
          | none=>none) (fun v=>?_)).of_eq rfl
         cases putD s.fr o.dst v with
         | none=>exact .none _
         | some fr=>exact seqX_sound hcs ops rest _
       | dfr f c args=>exact .none _
       | recover=>exact .none _
       | panic v=>exact .none _
     · intro a ha
       cases hs:stepOp P o s.fr s.h s.n with
       | none=>rw [hs] at ha; cases ha
       | some r=>
         rw [hs] at ha
         cases r with
         | call f args=>
           simp only [bind_some'] at ha ⊢
           cases hj:cf f args s.h s.n with
           | none=>rw [hj] at ha; cases ha
           | some q=>
             rw [hj] at ha
             obtain ⟨out,h,n⟩:=q
             cases out with
             | ret v=>exact ha
             | pan v=>cases ha
         | val v h n=>exact ha
         | _=>cases ha
def readN (n0 i:Nat) (o:Oper) (fr:Tr V) (v:V) (x:Tr O):M Unit:=
 (symN P o fr x (n0+i)).then fun r=>match r with
  | .val u _ k=>match Nat.beq k (n0+i) && v.plainFn with
    | true=>some [(⟨[],[(u,v)],[]⟩,())]
    | false=>none
  | _=>none
theorem readN_sound (n0 i:Nat) (o:Oper) (fr:Tr V) (v:V) (x:Tr O):Sound (readN P n0 i o fr v x) (if readsSame P n0 i o fr v x=true then some () else none):=by
 unfold readN
 refine (Sound.then (symN_sound P o fr x (n0+i)) (g:=fun r=>if (match r with | .val u _ k=>Nat.beq k (n0+i) && V.beq u v | _=>false)=true then some () else none) (fun r=>?_)).of_eq ?_
 · cases r with
   | val u h k=>
     simp only
     split
     · rename_i hb
       simp only [Bool.and_eq_true] at hb
       intro l e
       simp only [Option.some.injEq] at e; subst e
       refine ⟨⟨_,List.mem_singleton.2 rfl,fun c hc=>by simp at hc⟩,fun e he _ hg=>?_⟩
       simp only [List.mem_singleton] at he; subst he
       have:u=v:=hg.1 (u,v) (List.mem_singleton.2 rfl)
       subst this
       rw [if_pos (by rw [hb.1,V.beq_refl u hb.2]; rfl)]
     · exact .none _
   | _=>exact .none _
 · unfold readsSame
   cases stepOp P o fr x (n0+i) with
   | none=>rfl
   | some r=>cases r <;> rfl
def histN (n0 i:Nat) (o:Oper) (fr:Tr V) (v:V) (allocs:List (Nat × O)) (anc:Nat):List (Nat × Nat × Tr O)→M Unit
 | []=>.ret ()
 | (e,m,x) :: r=>match hasBit anc e with
   | true=>.ret ()
   | false=>(readN P n0 i o fr v (view n0 allocs m x anc)).then fun _=>histN n0 i o fr v allocs anc r
theorem histN_sound (n0 i:Nat) (o:Oper) (fr:Tr V) (v:V) (allocs:List (Nat × O)) (anc:Nat):∀ l:List (Nat × Nat × Tr O),Sound (histN P n0 i o fr v allocs anc l) (if histOk P n0 i o fr v allocs anc l=true then some () else none)
 | []=>(Sound.ret ()).of_eq rfl
 | (e,m,x) :: r=>by
   simp only [histN,histOk]
   rcases Bool.eq_false_or_eq_true (hasBit anc e) with hb | hb
   · simp only [hb,if_true]; exact .ret ()
   · simp only [hb,Bool.false_eq_true,if_false]
     refine (Sound.then (readN_sound P n0 i o fr v _) (fun _=>histN_sound n0 i o fr v allocs anc r)).of_eq ?_
     cases readsSame P n0 i o fr v (view n0 allocs m x anc) <;> cases histOk P n0 i o fr v allocs anc r <;> rfl
def readsN (n0:Nat) (allocs:List (Nat × O)) (m:Nat) (x:Tr O):List (Nat × Nat × Oper × Tr V × V)→M Unit
 | []=>.ret ()
 | (j,anc,o,fr,v) :: r=>match hasBit m j with
   | true=>readsN n0 allocs m x r
   | false=>(readN P n0 j o fr v (view n0 allocs m x anc)).then fun _=>readsN n0 allocs m x r
theorem readsN_sound (n0:Nat) (allocs:List (Nat × O)) (m:Nat) (x:Tr O):∀ l:List (Nat × Nat × Oper × Tr V × V),Sound (readsN P n0 allocs m x l) (if readsOk P n0 allocs m x l=true then some () else none)
 | []=>(Sound.ret ()).of_eq rfl
 | (j,anc,o,fr,v) :: r=>by
   simp only [readsN,readsOk]
   rcases Bool.eq_false_or_eq_true (hasBit m j) with hb | hb
   · simp only [hb,Bool.true_or,Bool.true_and]; exact readsN_sound n0 allocs m x r
   · simp only [hb,Bool.false_or]
     refine (Sound.then (readN_sound P n0 j o fr v _) (fun _=>readsN_sound n0 allocs m x r)).of_eq ?_
     cases readsSame P n0 j o fr v (view n0 allocs m x anc) <;> cases readsOk P n0 allocs m x r <;> rfl
def afterN (n0 i anc:Nat) (o:Oper) (s:Dr) (v:V) (h:Tr O) (n:Nat):M Dr:=
 match putD s.fr o.dst v with
 | some fr=>(readsN P n0 s.allocs anc h s.reads).then fun _=>
    .ret { fr:=fr,masks:=s.masks ++ [anc],cur:=(anc,h),hist:=(i,s.cur.1,s.cur.2) :: s.hist,last:=some i,allocs:=s.allocs,reads:=s.reads,n:=n }
 | none=>none
theorem afterN_sound (n0 i anc:Nat) (o:Oper) (s:Dr) (v:V) (h:Tr O) (n:Nat):Sound (afterN P n0 i anc o s v h n) (afterEff P n0 i anc o s v h n):=by
 unfold afterN afterEff
 cases putD s.fr o.dst v with
 | none=>exact .none _
 | some fr=>
   refine (Sound.then (readsN_sound P n0 s.allocs anc h s.reads) (g:=fun _=>some _) (fun _=>.ret _)).of_eq ?_
   cases readsOk P n0 s.allocs anc h s.reads <;> rfl
def drawX (ops:Array Oper) (n0 i:Nat) (o:Oper) (s:Dr):M Dr:=
 match wantedV ops o s.fr with
 | some false=>match putD s.fr o.dst (.tup []) with
   | some fr=>.ret { s with fr:=fr,masks:=s.masks ++ [maskOf s.masks o.after.toList] }
   | none=>none
 | some true=>
   match isEff o.op with
   | true=>match lastOk (maskOf s.masks o.after.toList) s.last with
     | true=>(symN P o s.fr (view n0 s.allocs s.cur.1 s.cur.2 (maskOf s.masks o.after.toList)) s.n).then fun r=>match r with
       | .val v h n=>(fixM H o.dst v).then fun v=>afterN P n0 i (maskOf s.masks o.after.toList) o s v h n
       | .call f args=>(cs f args (view n0 s.allocs s.cur.1 s.cur.2 (maskOf s.masks o.after.toList)) s.n).then fun q=>(fixM H o.dst q.1).then fun v=>afterN P n0 i (maskOf s.masks o.after.toList) o s v q.2.1 q.2.2
       | _=>none
     | false=>none
   | false=>(symN P o s.fr (view n0 s.allocs s.cur.1 s.cur.2 (maskOf s.masks o.after.toList)) (n0+i)).then fun r=>match r with
     | .val v h k=>(fixM H o.dst v).then fun v=>match putD s.fr o.dst v with
       | some fr=>match Nat.beq k (n0+i) with
         | true=>match isPure o.op with
           | true=>.ret { s with fr:=fr,masks:=s.masks ++ [maskOf s.masks o.after.toList] }
           | false=>(histN P n0 i o s.fr v s.allocs (maskOf s.masks o.after.toList) s.hist).then fun _=>
              .ret { s with fr:=fr,masks:=s.masks ++ [maskOf s.masks o.after.toList],reads:=(i,maskOf s.masks o.after.toList,o,s.fr,v) :: s.reads }
         | false=>match h.get (n0+i) with
           | some b=>match b.wr with
             | true=>.ret { s with fr:=fr,masks:=s.masks ++ [maskOf s.masks o.after.toList],allocs:=(i,b) :: s.allocs }
             | false=>none
           | none=>none
       | none=>none
     | _=>none
 | none=>none
theorem drawX_sound (hcs:SoundC cs cf) (ops:Array Oper) (n0 i:Nat) (o:Oper) (s:Dr):Sound (drawX P cs H ops n0 i o s) (getL (drawOp P cf ops n0 i o s)):=by
 unfold drawX drawOp
 rcases wantedV ops o s.fr with _ | (_ | _)
 · exact .none _
 · cases putD s.fr o.dst (.tup []) with
   | none=>exact .none _
   | some fr=>exact (Sound.ret _).of_eq rfl
 · cases isEff o.op with
   | true=>
     rcases Bool.eq_false_or_eq_true (lastOk (maskOf s.masks o.after.toList) s.last) with hb | hb
     rotate_left
     · simp only [hb]; exact .none _
     · simp only [hb,if_true]
       refine (Sound.then (symN_sound P o s.fr _ s.n) (g:=fun r=>match r with
        | .val v h n=>afterEff P n0 i (maskOf s.masks o.after.toList) o s v h n
        | .call f args=>(retOnly (cf f args (view n0 s.allocs s.cur.1 s.cur.2 (maskOf s.masks o.after.toList)) s.n)).bind fun q=>afterEff P n0 i (maskOf s.masks o.after.toList) o s q.1 q.2.1 q.2.2
        | _=>none) (fun r=>?_)).of_eq ?_
       · cases r with
         | val v h n=>exact (Sound.then (fixM_sound H o.dst v) (g:=fun v=>afterEff P n0 i (maskOf s.masks o.after.toList) o s v h n) (fun v=>afterN_sound P n0 i _ o s v h n)).of_eq rfl
         | call f args=>
           refine Sound.then (hcs f args _ s.n) (fun q=>?_)
           exact (Sound.then (fixM_sound H o.dst q.1) (g:=fun v=>afterEff P n0 i (maskOf s.masks o.after.toList) o s v q.2.1 q.2.2) (fun v=>afterN_sound P n0 i _ o s v q.2.1 q.2.2)).of_eq rfl
         | _=>exact .none _
       · cases stepOp P o s.fr (view n0 s.allocs s.cur.1 s.cur.2 (maskOf s.masks o.after.toList)) s.n with
         | none=>rfl
         | some r=>
           cases r with
           | val v h n=>
             simp only [bind_some']
             cases afterEff P n0 i (maskOf s.masks o.after.toList) o s v h n <;> rfl
           | call f args=>
             simp only [bind_some']
             cases cf f args (view n0 s.allocs s.cur.1 s.cur.2 (maskOf s.masks o.after.toList)) s.n with
             | none=>rfl
             | some q=>
               obtain ⟨out,h,n⟩:=q
               cases out with
               | ret v=>
                 simp only [retOnly,bind_some']
                 cases afterEff P n0 i (maskOf s.masks o.after.toList) o s v h n <;> rfl
               | pan v=>simp only; split <;> rfl
           | _=>rfl
   | false=>
     simp only [Bool.false_eq_true,if_false]
     have body:∀ (v:V) (h:Tr O) (k:Nat),Sound (match putD s.fr o.dst v with
       | some fr=>match Nat.beq k (n0+i) with
         | true=>match isPure o.op with
           | true=>M.ret { s with fr:=fr,masks:=s.masks ++ [maskOf s.masks o.after.toList] }
           | false=>(histN P n0 i o s.fr v s.allocs (maskOf s.masks o.after.toList) s.hist).then fun _=>
              .ret { s with fr:=fr,masks:=s.masks ++ [maskOf s.masks o.after.toList],reads:=(i,maskOf s.masks o.after.toList,o,s.fr,v) :: s.reads }
         | false=>match h.get (n0+i) with
           | some b=>match b.wr with
             | true=>M.ret { s with fr:=fr,masks:=s.masks ++ [maskOf s.masks o.after.toList],allocs:=(i,b) :: s.allocs }
             | false=>none
           | none=>none
       | none=>none) (getL (match putD s.fr o.dst v with
         | some fr=>
           if Nat.beq k (n0+i)=true then
            if isPure o.op=true then (some (.inl { s with fr:=fr,masks:=s.masks ++ [maskOf s.masks o.after.toList] }):Option (Dr ⊕ (Tr V × V × Tr O × Nat)))
            else if histOk P n0 i o s.fr v s.allocs (maskOf s.masks o.after.toList) s.hist=true then
             some (.inl { s with fr:=fr,masks:=s.masks ++ [maskOf s.masks o.after.toList],reads:=(i,maskOf s.masks o.after.toList,o,s.fr,v) :: s.reads })
            else miss o
           else match h.get (n0+i) with
            | some b=>if b.wr=true then some (.inl { s with fr:=fr,masks:=s.masks ++ [maskOf s.masks o.after.toList],allocs:=(i,b) :: s.allocs }) else miss o
            | none=>miss o
         | none=>miss o)):=by
      intro v h k
      cases putD s.fr o.dst v with
      | none=>exact .none _
      | some fr=>
        simp only
        cases Nat.beq k (n0+i) with
        | true=>
          simp only [if_true]
          cases isPure o.op with
          | true=>exact (Sound.ret _).of_eq rfl
          | false=>
            refine (Sound.then (histN_sound P n0 i o s.fr v s.allocs _ s.hist) (g:=fun _=>some _) (fun _=>.ret _)).of_eq ?_
            simp only [Bool.false_eq_true,if_false]
            cases histOk P n0 i o s.fr v s.allocs (maskOf s.masks o.after.toList) s.hist <;> rfl
        | false=>
          simp only [Bool.false_eq_true,if_false]
          cases h.get (n0+i) with
          | none=>exact .none _
          | some b=>
            simp only
            cases b.wr with
            | true=>exact (Sound.ret _).of_eq rfl
            | false=>exact .none _
     refine (Sound.then (symN_sound P o s.fr _ (n0+i)) (g:=fun r=>match r with
      | .val v h k=>getL (match putD s.fr o.dst v with
         | some fr=>
           if Nat.beq k (n0+i)=true then
            if isPure o.op=true then (some (.inl { s with fr:=fr,masks:=s.masks ++ [maskOf s.masks o.after.toList] }):Option (Dr ⊕ (Tr V × V × Tr O × Nat)))
            else if histOk P n0 i o s.fr v s.allocs (maskOf s.masks o.after.toList) s.hist=true then
             some (.inl { s with fr:=fr,masks:=s.masks ++ [maskOf s.masks o.after.toList],reads:=(i,maskOf s.masks o.after.toList,o,s.fr,v) :: s.reads })
            else miss o
           else match h.get (n0+i) with
            | some b=>if b.wr=true then some (.inl { s with fr:=fr,masks:=s.masks ++ [maskOf s.masks o.after.toList],allocs:=(i,b) :: s.allocs }) else miss o
            | none=>miss o
         | none=>miss o)
      | _=>none) (fun r=>?_)).of_eq ?_
     · cases r with
       | val v h k=>exact (Sound.then (fixM_sound H o.dst v) (g:=fun v=>getL (match putD s.fr o.dst v with
          | some fr=>
            if Nat.beq k (n0+i)=true then
             if isPure o.op=true then (some (.inl { s with fr:=fr,masks:=s.masks ++ [maskOf s.masks o.after.toList] }):Option (Dr ⊕ (Tr V × V × Tr O × Nat)))
             else if histOk P n0 i o s.fr v s.allocs (maskOf s.masks o.after.toList) s.hist=true then
              some (.inl { s with fr:=fr,masks:=s.masks ++ [maskOf s.masks o.after.toList],reads:=(i,maskOf s.masks o.after.toList,o,s.fr,v) :: s.reads })
             else miss o
            else match h.get (n0+i) with
             | some b=>if b.wr=true then some (.inl { s with fr:=fr,masks:=s.masks ++ [maskOf s.masks o.after.toList],allocs:=(i,b) :: s.allocs }) else miss o
             | none=>miss o
          | none=>miss o)) (fun v=>body v h k)).of_eq rfl
       | _=>exact .none _
     · cases stepOp P o s.fr (view n0 s.allocs s.cur.1 s.cur.2 (maskOf s.masks o.after.toList)) (n0+i) with
       | none=>rfl
       | some r=>cases r <;> rfl
def drawsX (ops:Array Oper) (n0:Nat):List Oper→Nat→Dr→M Dr
 | [],_,s=>.ret s
 | o :: r,i,s=>(drawX P cs H ops n0 i o s).then fun s'=>drawsX ops n0 r (i+1) s'
theorem drawsX_sound (hcs:SoundC cs cf) (ops:Array Oper) (n0:Nat):∀ (l:List Oper) (i:Nat) (s:Dr),Sound (drawsX P cs H ops n0 l i s) (getL (drawOps P cf ops n0 l i s))
 | [],i,s=>(Sound.ret s).of_eq rfl
 | o :: r,i,s=>by
   simp only [drawsX,drawOps]
   refine (Sound.then (drawX_sound P cs cf H hcs ops n0 i o s) (fun s'=>drawsX_sound hcs ops n0 r (i+1) s')).of_eq ?_
   cases drawOp P cf ops n0 i o s with
   | none=>rfl
   | some q=>cases q <;> rfl
def codeX (F:Nat):Code→St→M (X × St)
 | .region _ ops false,s=>seqX P cs H ops ops.toList s
 | .region _ ops true,s=>match decide (s.n+ops.size < top) with
   | true=>(drawsX P cs H ops s.n ops.toList 0 { fr:=s.fr,masks:=[],cur:=(0,s.h),hist:=[],last:=none,allocs:=[],reads:=[],n:=s.n+ops.size }).then fun d=>
      .ret (.normal,{ fr:=d.fr,h:=view s.n d.allocs d.cur.1 d.cur.2 (2 ^ ops.size - 1),n:=d.n,dfs:=s.dfs })
   | false=>none
 | .seq a b,s=>(codeX F a s).then fun p=>match p.1 with
   | .normal=>codeX F b p.2
   | _=>.ret p
 | .cond c a b,s=>match opd s.fr c with
   | some (.bool true)=>codeX F a s
   | some (.bool false)=>codeX F b s
   | _=>none
 | .block id body,s=>(codeX F body s).then fun p=>match p.1 with
   | .exit id'=>if id'=id then .ret (.normal,p.2) else .ret p
   | _=>.ret p
 | .loop body,s=>roundsM (codeX F body) F s
 | .skip,s=>.ret (.normal,s)
 | .exit id,s=>.ret (.exit id,s)
 | .ret,s=>.ret (.ret,s)
 | .rangeFunc g ps assign body,s=>match opd s.fr g with
   | some (.fn (.func gf) [] lb)=>match callee P gf && decide (s.n+1 < top) with
     | true=>(cs gf (.fn (.yield (s.n+1)) [] [] :: lb) ((s.h.set s.n (some .dfr)).set (s.n+1) (some (.loop true none s.fr ps.toList assign body))) (s.n+2)).then fun q=>match q.2.1.get s.n,q.2.1.get (s.n+1) with
       | some .dfr,some (.loop true none _ _ _ _)=>.ret (.normal,{ s with h:=q.2.1.set (s.n+1) none,n:=q.2.2,dfs:=(top,[],[.map (some s.n)]) :: s.dfs })
       | some .dfr,some (.loop false (some .ret) _ _ _ _)=>.ret (.ret,{ s with h:=q.2.1.set (s.n+1) none,n:=q.2.2,dfs:=(top,[],[.map (some s.n)]) :: s.dfs })
       | some .dfr,some (.loop false (some (.exit id)) _ _ _ _)=>.ret (.exit id,{ s with h:=q.2.1.set (s.n+1) none,n:=q.2.2,dfs:=(top,[],[.map (some s.n)]) :: s.dfs })
       | _,_=>none
     | false=>none
   | _=>none
 | _,_=>none
theorem codeX_sound (hcs:SoundC cs cf) (F:Nat):∀ (c:Code) (s:St),Sound (codeX P cs H F c s) (exec P cf F c s):=by
 intro c
 induction c with
 | region id ops draw=>
   intro s
   cases draw with
   | false=>exact seqX_sound P cs cf H hcs ops ops.toList s
   | true=>
     simp only [codeX,exec,drawn]
     by_cases hlt:s.n+ops.size < top
     · simp only [decide_eq_true hlt,if_pos hlt]
       refine sound_getL (Sound.then (drawsX_sound P cs cf H hcs ops s.n ops.toList 0 _) (g:=fun d=>some (.normal,{ fr:=d.fr,h:=view s.n d.allocs d.cur.1 d.cur.2 (2 ^ ops.size - 1),n:=d.n,dfs:=s.dfs })) (fun d=>.ret _)) ?_
       intro d hd
       cases hq:drawOps P cf ops s.n ops.toList 0 { fr:=s.fr,masks:=[],cur:=(0,s.h),hist:=[],last:=none,allocs:=[],reads:=[],n:=s.n+ops.size } with
       | none=>rw [hq] at hd; cases hd
       | some q=>
         rw [hq] at hd
         cases q with
         | inl d'=>simp only [getL,Option.bind_some] at hd; simp only; exact hd
         | inr _=>cases hd
     · simp only [decide_eq_false hlt]; exact .none _
 | seq a b iha ihb=>
   intro s
   simp only [codeX,exec]
   refine (Sound.then (iha s) (g:=fun p=>match p.1 with | .normal=>exec P cf F b p.2 | _=>some p) (fun p=>?_)).of_eq ?_
   · obtain ⟨x,s'⟩:=p
     cases x with
     | normal=>exact ihb s'
     | _=>exact .ret _
   · cases exec P cf F a s with
     | none=>rfl
     | some p=>obtain ⟨x,s'⟩:=p; cases x <;> rfl
 | cond c a b iha ihb=>
   intro s
   simp only [codeX,exec]
   cases opd s.fr c with
   | none=>exact .none _
   | some v=>
     cases v with
     | bool t=>
       cases t with
       | true=>exact iha s
       | false=>exact ihb s
     | _=>exact .none _
 | block id c ih=>
   intro s
   simp only [codeX,exec]
   refine (Sound.then (ih s) (g:=fun p=>match p.1 with | .exit id'=>if id'=id then some (.normal,p.2) else some p | _=>some p) (fun p=>?_)).of_eq ?_
   · obtain ⟨x,s'⟩:=p
     cases x with
     | exit j=>
       simp only
       by_cases hj:j=id
       · simp only [if_pos hj]; exact .ret _
       · simp only [if_neg hj]; exact .ret _
     | _=>exact .ret _
   · cases exec P cf F c s with
     | none=>rfl
     | some p=>obtain ⟨x,s'⟩:=p; cases x <;> rfl
 | loop c ih=>
   intro s
   simp only [codeX,exec]
   exact roundsM_sound ih F s
 | skip=>intro s; exact .ret _
 | exit id=>intro s; exact .ret _
 | ret=>intro s; exact .ret _
 | rangeFunc g ps assign body _ _=>
   intro s
   simp only [codeX,exec]
   split
   · rename_i gf lb hg
     rw [hg]
     simp only
     split
     · rename_i hq
       simp only [Bool.and_eq_true,decide_eq_true_eq] at hq
       rw [if_pos hq]
       refine sound_getL (Sound.then (hcs gf _ _ (s.n+2)) (g:=fun q=>match q.2.1.get s.n,q.2.1.get (s.n+1) with
        | some .dfr,some (.loop true none _ _ _ _)=>some (.normal,{ s with h:=q.2.1.set (s.n+1) none,n:=q.2.2,dfs:=(top,[],[.map (some s.n)]) :: s.dfs })
        | some .dfr,some (.loop false (some .ret) _ _ _ _)=>some (.ret,{ s with h:=q.2.1.set (s.n+1) none,n:=q.2.2,dfs:=(top,[],[.map (some s.n)]) :: s.dfs })
        | some .dfr,some (.loop false (some (.exit id)) _ _ _ _)=>some (.exit id,{ s with h:=q.2.1.set (s.n+1) none,n:=q.2.2,dfs:=(top,[],[.map (some s.n)]) :: s.dfs })
        | _,_=>none) (fun q=>?_)) ?_
       · split <;> first | exact .ret _ | exact .none _
       · intro a ha
         cases hc:cf gf (.fn (.yield (s.n+1)) [] [] :: lb) ((s.h.set s.n (some .dfr)).set (s.n+1) (some (.loop true none s.fr ps.toList assign body))) (s.n+2) with
         | none=>rw [hc] at ha; cases ha
         | some q=>
           rw [hc] at ha
           obtain ⟨out,h,n⟩:=q
           cases out with
           | pan v=>cases ha
           | ret v=>
             simp only [retOnly,Option.bind_some] at ha
             simp only
             split at ha <;> first | (rename_i h1 h2; simp only [h1,h2]; exact ha) | cases ha
     · exact .none _
   · exact .none _
 | _=>intro s; exact .none _
end
end Go.Eng
namespace Go.Eng
open Go Go.RowKit
def leaveP (P:Program) (fn:Func) (fr:Tr V):List (FuncId × List V × List V)→Tr O→Nat→Option (V × Tr O × Nat)
 | [],h,n=>match resultsV P fr h fn.results.toList with
   | some vs=>some (oneOf vs,h,n)
   | none=>none
 | (g,_,args) :: ds,h,n=>match Nat.ble top g with
   | true=>match args with
     | [.map (some b)]=>match h.get b with
       | some .dfr=>match Nat.blt b top with
         | true=>leaveP P fn fr ds (h.set b none) n
         | false=>none
       | _=>none
     | _=>none
   | false=>none
theorem leaveP_ok {P:Program} {cf:CallF} {F:Nat} {fn:Func} {fr:Tr V}:∀ {ds:List (FuncId × List V × List V)} {h:Tr O} {n:Nat} {r:V × Tr O × Nat},leaveP P fn fr ds h n=some r→leave P cf F fn fr ds .ret h n=some (.ret r.1,r.2.1,r.2.2)
 | [],h,n,r,e=>by
   unfold leaveP at e
   unfold leave
   split at e
   · rename_i vs hv
     simp only [Option.some.injEq] at e; subst e
     rw [hv]
   · cases e
 | (g,c,args) :: ds,h,n,r,e=>by
   unfold leaveP at e
   unfold leave
   split at e
   case h_2=>cases e
   rename_i hg
   rw [if_pos (Nat.le_of_ble_eq_true hg)]
   split at e
   case h_2=>cases e
   rename_i b
   simp only
   split at e
   case h_2=>cases e
   rename_i hb
   rw [hb]
   simp only
   split at e
   case h_2=>cases e
   rename_i hlt
   rw [if_pos (show b < top from Nat.le_of_ble_eq_true hlt)]
   exact leaveP_ok e
abbrev CtrW:=FuncId→List V→Tr O→Nat→Option (List Prop × V × Tr O × Nat)
def CtrWOk (P:Program) (S:CtrW):Prop:=∀ f args h n A v h' n',S f args h n=some (A,v,h',n')→f < P.funcs.size∧((∀ a ∈ A,a)→
 ∀ E w args',vrels E args args'→Good E h w→Dom E n→callee P f=true→Calls P f args'.toArray w (CPost E h n w (.ret v) h' n'))
def noW:CtrW:=fun _ _ _ _=>none
theorem noW_ok (P:Program):CtrWOk P noW:=fun _ _ _ _ _ _ _ _ e=>by cases e
def addW (f:FuncId) (spec:List V→Tr O→Nat→Option (List Prop × V × Tr O × Nat)) (S:CtrW):CtrW:=fun g args h n=>match Nat.beq g f with
 | true=>match spec args h n with
   | some r=>some r
   | none=>S g args h n
 | false=>S g args h n
def OneW (P:Program) (f:FuncId) (spec:List V→Tr O→Nat→Option (List Prop × V × Tr O × Nat)):Prop:=f < P.funcs.size∧∀ args h n A v h' n',spec args h n=some (A,v,h',n')→(∀ a ∈ A,a)→
 ∀ E w args',vrels E args args'→Good E h w→Dom E n→callee P f=true→Calls P f args'.toArray w (CPost E h n w (.ret v) h' n')
theorem addW_ok {P:Program} {f:FuncId} {spec:List V→Tr O→Nat→Option (List Prop × V × Tr O × Nat)} {S:CtrW} (hp:OneW P f spec) (hS:CtrWOk P S):CtrWOk P (addW f spec S):=by
 intro g args h n A v h' n' e
 unfold addW at e
 split at e
 · rename_i hg
   have hg:=Nat.eq_of_beq_eq_true hg
   subst hg
   split at e
   · rename_i r hr
     cases e
     exact ⟨hp.1,hp.2 args h n A v h' n' hr⟩
   · exact hS g args h n A v h' n' e
 · exact hS g args h n A v h' n' e
def endX (P:Program) (fn:Func) (p:X × St):M (V × Tr O × Nat):=match p.1 with
 | .normal=>match leaveP P fn p.2.fr p.2.dfs p.2.h p.2.n with
   | some r=>.ret r
   | none=>none
 | .ret=>match leaveP P fn p.2.fr p.2.dfs p.2.h p.2.n with
   | some r=>.ret r
   | none=>none
 | _=>none
def enterX (P:Program) (cs:CallS) (H:List (Nat × Fix)) (F:Nat) (f:FuncId) (args:List V) (h:Tr O) (n:Nat):M (V × Tr O × Nat):=
 match P.funcs[f]? with
 | some fn=>match fn.body with
   | some code=>match Nat.ble args.length fn.ntmps && Nat.blt fn.ntmps top with
     | true=>(codeX P cs H F code (startSt args h n)).then (endX P fn)
     | false=>none
   | none=>none
 | none=>none
theorem enterX_sound {P:Program} {cs:CallS} {cf:CallF} (hcs:SoundC cs cf) (H:List (Nat × Fix)) (F:Nat) (f:FuncId) (args:List V) (h:Tr O) (n:Nat):Sound (enterX P cs H F f args h n) (retOnly (enter P cf F f args h n)):=by
 unfold enterX enter
 split
 · rename_i fn hf
   rw [hf]
   simp only
   split
   · rename_i code hb
     rw [hb]
     simp only
     split
     · rename_i hq
       simp only [Bool.and_eq_true] at hq
       have hq':args.length ≤ fn.ntmps∧fn.ntmps < top:=⟨Nat.le_of_ble_eq_true hq.1,Nat.le_of_ble_eq_true hq.2⟩
       rw [if_pos hq']
       refine sound_getL (Sound.then (codeX_sound P cs cf H hcs F code (startSt args h n)) (g:=fun p=>match p.1 with
        | .normal=>retOnly (leave P cf F fn p.2.fr p.2.dfs .ret p.2.h p.2.n)
        | .ret=>retOnly (leave P cf F fn p.2.fr p.2.dfs .ret p.2.h p.2.n)
        | _=>none) (fun p=>?_)) ?_
       · obtain ⟨x,s⟩:=p
         unfold endX
         cases x with
         | normal=>
           simp only
           split
           · rename_i r hr
             refine (Sound.ret r).of_eq ?_
             rw [leaveP_ok hr]; rfl
           · exact .none _
         | ret=>
           simp only
           split
           · rename_i r hr
             refine (Sound.ret r).of_eq ?_
             rw [leaveP_ok hr]; rfl
           · exact .none _
         | _=>exact .none _
       · intro a ha
         change ((exec P cf F code { fr:=frameOf args 0 .nil,h:=h,n:=n,dfs:=[] }).bind _)=some a at ha
         cases hx:exec P cf F code { fr:=frameOf args 0 .nil,h:=h,n:=n,dfs:=[] } with
         | none=>rw [hx] at ha; cases ha
         | some p=>
           rw [hx] at ha
           obtain ⟨x,s⟩:=p
           cases x <;> first | exact ha | cases ha
     · exact .none _
   · exact .none _
 · exact .none _
def roundX (P:Program) (cs:CallS) (H:List (Nat × Fix)) (F m:Nat) (args:List V) (h:Tr O) (n:Nat):M (V × Tr O × Nat):=
 match h.get m with
 | some (.loop true none fr ps assign body)=>match (Nat.blt m top && Nat.beq ps.length args.length) && (plainC assign && plainC body) with
   | true=>match putAll (zipL ps args) fr with
     | some fr1=>(codeX P cs H F assign { fr:=fr1,h:=h.set m none,n:=n,dfs:=[] }).then fun p=>match p.1 with
       | .normal=>(codeX P cs H F body p.2).then fun q=>match q.1 with
         | .normal=>.ret (.bool true,q.2.h.set m (some (.loop true none fr ps assign body)),q.2.n)
         | .ret=>.ret (.bool false,q.2.h.set m (some (.loop false (some .ret) fr ps assign body)),q.2.n)
         | .exit id=>.ret (.bool false,q.2.h.set m (some (.loop false (some (.exit id)) fr ps assign body)),q.2.n)
         | _=>none
       | _=>none
     | none=>none
   | false=>none
 | _=>none
theorem roundX_sound {P:Program} {cs:CallS} {cf:CallF} (hcs:SoundC cs cf) (H:List (Nat × Fix)) (F m:Nat) (args:List V) (h:Tr O) (n:Nat):Sound (roundX P cs H F m args h n) (retOnly (aRound P cf F m args h n)):=by
 unfold roundX aRound
 split
 · rename_i fr ps assign body hg
   rw [hg]
   simp only
   split
   · rename_i hq
     simp only [Bool.and_eq_true] at hq
     have hq':m < top∧ps.length=args.length∧plainC assign=true∧plainC body=true:=⟨Nat.le_of_ble_eq_true hq.1.1,Nat.eq_of_beq_eq_true hq.1.2,hq.2.1,hq.2.2⟩
     rw [if_pos hq']
     split
     · rename_i fr1 hput
       rw [hput]
       simp only
       refine sound_getL (Sound.then (codeX_sound P cs cf H hcs F assign _) (g:=fun p=>match p.1 with
        | .normal=>(exec P cf F body p.2).bind fun q=>match q.1 with
          | .normal=>some (.bool true,q.2.h.set m (some (.loop true none fr ps assign body)),q.2.n)
          | .ret=>some (.bool false,q.2.h.set m (some (.loop false (some .ret) fr ps assign body)),q.2.n)
          | .exit id=>some (.bool false,q.2.h.set m (some (.loop false (some (.exit id)) fr ps assign body)),q.2.n)
          | _=>none
        | _=>none) (fun p=>?_)) ?_
       · obtain ⟨x,s⟩:=p
         cases x with
         | normal=>
           refine Sound.then (codeX_sound P cs cf H hcs F body s) (fun q=>?_)
           obtain ⟨y,s2⟩:=q
           cases y <;> first | exact .ret _ | exact .none _
         | _=>exact .none _
       · intro a ha
         cases hx:exec P cf F assign { fr:=fr1,h:=h.set m none,n:=n,dfs:=[] } with
         | none=>rw [hx] at ha; cases ha
         | some p=>
           rw [hx] at ha
           obtain ⟨x,s⟩:=p
           simp only [Option.bind_some] at ha
           cases x with
           | normal=>
             simp only at ha ⊢
             cases hy:exec P cf F body s with
             | none=>rw [hy] at ha; cases ha
             | some q=>
               rw [hy] at ha
               obtain ⟨y,s2⟩:=q
               cases y <;> first | exact ha | cases ha
           | _=>cases ha
     · exact .none _
   · exact .none _
 · exact .none _
def callX (P:Program) (S:CtrW) (HH:FuncId→List (Nat × Fix)) (F:Nat):Nat→CallS
 | 0=>fun _ _ _ _=>none
 | k+1=>fun f args h n=>match S f args h n with
   | some (A,r)=>some [(⟨[],[],A⟩,r)]
   | none=>match Nat.blt f P.funcs.size with
     | true=>enterX P (callX P S HH F k) (HH f) F f args h n
     | false=>roundX P (callX P S HH F k) (HH f) F (f - P.funcs.size) args h n
open Classical in
noncomputable def joinX (P:Program) (S:CtrW) (F:Nat):Nat→CallF
 | 0=>fun _ _ _ _=>none
 | k+1=>fun f args h n=>match S f args h n with
   | some (A,r)=>if ∀ a ∈ A,a then some (.ret r.1,r.2.1,r.2.2) else none
   | none=>if f < P.funcs.size then enter P (joinX P S F k) F f args h n else aRound P (joinX P S F k) F (f - P.funcs.size) args h n
theorem callX_sound (P:Program) (S:CtrW) (HH:FuncId→List (Nat × Fix)) (F:Nat):∀ k,SoundC (callX P S HH F k) (joinX P S F k)
 | 0=>fun _ _ _ _=>.none _
 | k+1=>by
   intro f args h n
   simp only [callX,joinX]
   cases hS:S f args h n with
   | some q=>
     obtain ⟨A,v,h',n'⟩:=q
     intro l e
     simp only [Option.some.injEq] at e; subst e
     refine ⟨⟨_,List.mem_singleton.2 rfl,fun c hc=>by simp at hc⟩,fun e he _ hg=>?_⟩
     simp only [List.mem_singleton] at he; subst he
     simp only
     rw [if_pos hg.2]
     rfl
   | none=>
     simp only
     by_cases hf:f < P.funcs.size
     · have hb:Nat.blt f P.funcs.size=true:=Nat.ble_eq_true_of_le hf
       rw [hb,if_pos hf]
       exact enterX_sound (callX_sound P S HH F k) (HH f) F f args h n
     · have hb:Nat.blt f P.funcs.size=false:=by
        cases hq:Nat.blt f P.funcs.size with
        | false=>rfl
        | true=>exact absurd (Nat.le_of_ble_eq_true hq) hf
       rw [hb,if_neg hf]
       exact roundX_sound (callX_sound P S HH F k) (HH f) F _ args h n
theorem joinX_ok {P:Program} {S:CtrW} {F:Nat} (hm:P.follows .mixedOrders=true) (hpo:progOk P=true) (hS:CtrWOk P S):∀ k,CallOk P (joinX P S F k)
 | 0=>fun _ _ _ _ _ _ _ e=>by cases e
 | k+1=>by
   intro f args h n out h' n' e E w args' ra g hd
   simp only [joinX] at e
   split at e
   · rename_i A r hs
     obtain ⟨v,h1,n1⟩:=r
     split at e
     · rename_i hA
       simp only [Option.some.injEq,Prod.mk.injEq] at e
       obtain ⟨rfl,rfl,rfl⟩:=e
       obtain ⟨hlt,hcalls⟩:=hS f args h n A v h1 n1 hs
       exact ⟨fun hcal=>hcalls hA E w args' ra g hd hcal,fun m l s hfm _=>absurd hlt (by rw [hfm]; exact Nat.not_lt.2 (Nat.le_add_right _ _))⟩
     · cases e
   · exact step_ok (F:=F) (joinX_ok hm hpo hS k) hm hpo f args h n out h' n' e E w args' ra g hd
structure CX (P:Program) where
 cs:CallS
 cf:CallF
 snd:SoundC cs cf
 ok:CallOk P cf
noncomputable def CX.of {P:Program} (hm:P.follows .mixedOrders=true) (hpo:progOk P=true) {S:CtrW} (hS:CtrWOk P S) (HH:FuncId→List (Nat × Fix)) (F k:Nat):CX P:=
 ⟨callX P S HH F k,joinX P S F k,callX_sound P S HH F k,joinX_ok hm hpo hS k⟩
end Go.Eng
namespace Go.Eng
open Go Go.RowKit
def TG (P:Program) (n0 N:Nat) (c:Code) (s:St) (Q:Exit→St→Prop):Prop:=
 ∀ (E:Env) (a:Act) (w:World) (K:Exit→Act→World→Prop),SRel E N s a w→n0 ≤ s.n→
   (∀ y s' E' a' w',Q y s'→UpdL n0 E s.h w E' s'.h w'→n0 ≤ s'.n→SRel E' N s' a' w'→K y a' w')→c.wp P K a w
section
variable {P:Program} {cf:CallF} {F n0 N:Nat} {c:Code} {s s':St} {Q Q1:Exit→St→Prop}
theorem TG_mono (h:TG P n0 N c s Q1) (hq:∀ y s',Q1 y s'→Q y s'):TG P n0 N c s Q:=fun E a w K r hn k=>h E a w K r hn fun y s' E' a' w' q=>k y s' E' a' w' (hq y s' q)
theorem TG_exec (hcf:CallOk P cf) (hm:P.follows .mixedOrders=true) {x:X} {y:Exit} (hc:codeOk N c=true) (e:exec P cf F c s=some (x,s')) (hx:x.plain=some y) (hq:Q y s'):TG P n0 N c s Q:=by
 intro E a w K r hn k
 refine wpIn_wide (n:=0) |>.1 ?_
 refine exec_sound (rnd:=none) hcf hm c s x s' (.inl rfl) hc e E a w K r fun E' a' w' x' u hlow hn' r' hxx=>?_
 have:x'=y:=by
  cases x <;> cases x' <;> simp only [xrel,X.plain,Option.some.injEq,reduceCtorEq] at hxx hx <;> first | exact hx | (subst hxx; exact hx)
 subst this
 exact k _ s' E' a' w' hq (.of u hlow hn) (Nat.le_trans hn hn') r'
theorem TG_norm {live:List Nat} {s2:St} (e:normG n0 live s=some s2) (h:TG P n0 N c s2 Q):TG P n0 N c s Q:=by
 intro E a w K r hn k
 obtain ⟨_,hn2,E2,r2,u2⟩:=normG_sound e r
 exact h E2 a w K r2 hn2 fun y s' E' a' w' q u hn' r'=>k y s' E' a' w' q (u2.trans u) hn' r'
theorem TG_seq {c1 c2:Code} (h:TG P n0 N c1 s (andThen (fun s'=>TG P n0 N c2 s' Q) Q)):TG P n0 N (.seq c1 c2) s Q:=by
 intro E a w K r hn k
 refine wp_seq (h E a w _ r hn fun y s' E' a' w' q u hn' r'=>?_)
 cases y <;> first | exact q E' a' w' K r' hn' (fun y2 s2 E2 a2 w2 q2 u2 hn2 r2=>k y2 s2 E2 a2 w2 q2 (u.trans u2) hn2 r2) | exact k _ s' E' a' w' q u hn' r'
theorem TG_seq' (hs:isSeq c=true) (h:TG P n0 N (seqL c) s (andThen (fun s'=>TG P n0 N (seqR c) s' Q) Q)):TG P n0 N c s Q:=by
 cases c <;> simp only [isSeq,Bool.false_eq_true] at hs
 exact TG_seq h
theorem TG_block {i:Nat} (hc:isBlock c i=true) (h:TG P n0 N (inner c) s (outOf i Q)):TG P n0 N c s Q:=by
 cases c <;> simp only [isBlock,Bool.false_eq_true] at hc
 rename_i j b
 have:=Nat.eq_of_beq_eq_true hc
 subst this
 intro E a w K r hn k
 refine wp_block (h E a w _ r hn fun y s' E' a' w' q u hn' r'=>?_)
 cases y <;> first | exact k _ s' E' a' w' q u hn' r' | skip
 simp only [Exit.inBlock,outOf] at q ⊢
 split
 · rename_i he; rw [if_pos he] at q; exact k _ s' E' a' w' q u hn' r'
 · rename_i he; rw [if_neg he] at q; exact k _ s' E' a' w' q u hn' r'
def TGR (P:Program) (n0 N:Nat) (c:Code) (Q:Exit→St→Prop):Nat→St→Prop
 | 0,_=>False
 | n+1,s=>TG P n0 N c s (andThen (fun s'=>TGR P n0 N c Q n s') Q)
theorem TG_loop (n:Nat) (hc:isLoop c=true) (h:TGR P n0 N (inner c) Q n s):TG P n0 N c s Q:=by
 cases c <;> simp only [isLoop,Bool.false_eq_true] at hc
 rename_i b
 intro E0 a w K r hn k
 refine wp_loop_rounds n ?_
 have key:∀ (n:Nat) (s1:St) (E:Env) (a:Act) (w1:World),TGR P n0 N b Q n s1→SRel E N s1 a w1→n0 ≤ s1.n→UpdL n0 E0 s.h w E s1.h w1→Code.rounds P b K n a w1:=by
  intro n
  induction n with
  | zero=>intro s1 E a w1 h; exact h.elim
  | succ n ih=>
    intro s1 E a w1 h r hn u
    rw [rounds_succ]
    refine h E a w1 _ r hn fun y s' E' a' w' q u' hn' r'=>?_
    cases y <;> first | exact ih s' E' a' w' q r' hn' (u.trans u') | exact k _ s' E' a' w' q (u.trans u') hn' r'
 exact key n s E0 a w h r hn (.refl r.good)
theorem TG_loop_inv (I:Nat→St→Prop) (hl:isLoop c=true) (h:∀ k s,I k s→TG P n0 N (inner c) s (andThen (fun s'=>∃ k',k' < k∧I k' s') Q)) (k:Nat) (h0:I k s):TG P n0 N c s Q:=by
 refine TG_loop (k+1) hl ?_
 have key:∀ (k:Nat) (n:Nat) (s:St),k < n→I k s→TGR P n0 N (inner c) Q n s:=by
  intro k
  induction k using Nat.strongRecOn with
  | _ k ih=>
    intro n s hn hi
    cases n with
    | zero=>omega
    | succ n=>
      simp only [TGR]
      refine TG_mono (h k s hi) fun y s' hq=>?_
      cases y with
      | normal=>
        obtain ⟨k',hk,hi'⟩:=hq
        exact ih k' hk n s' (by omega) hi'
      | _=>exact hq
 exact key k (k+1) s (by omega) h0
end
section
variable {P:Program} {X':CX P} {H:List (Nat × Fix)} {F n0 N:Nat} {c:Code} {s:St} {Q:Exit→St→Prop}
inductive ResG where
 | to (y:Exit) (s:St)
 | ret (v:V) (h:Tr O) (n:Nat)
 | bad
def retG (P:Program) (n0:Nat) (fn:Func) (s:St):Option (V × Tr O × Nat):=match leaveP P fn s.fr s.dfs s.h s.n with
 | some (v,h,n)=>match normG n0 [0] { fr:=Tr.nil.set 0 (some v),h:=h,n:=n,dfs:=[] } with
   | some s2=>match s2.fr.get 0 with
     | some v2=>some (v2,s2.h,s2.n)
     | none=>none
   | none=>none
 | none=>none
def toldG (P:Program) (n0:Nat) (fn:Func) (live:List Nat) (p:X × St):ResG:=match p.1 with
 | .normal=>match normG n0 live p.2 with
   | some s=>.to .normal s
   | none=>.bad
 | .exit i=>match normG n0 live p.2 with
   | some s=>.to (.exit i) s
   | none=>.bad
 | .ret=>match retG P n0 fn p.2 with
   | some (v,h,n)=>.ret v h n
   | none=>.bad
 | .panic _=>.bad
def RetG (P:Program) (n0:Nat) (fn:Func) (R:V→Tr O→Nat→Prop) (y:Exit) (s':St):Prop:=(y= .normal ∨ y= .ret)∧∃ v h n,retG P n0 fn s'=some (v,h,n)∧R v h n
def ResG.post (P:Program) (n0:Nat) (fn:Func) (live:List Nat) (R:V→Tr O→Nat→Prop) (Q:Exit→St→Prop):ResG→Prop
 | .to y s=>∀ s',normG n0 live s'=some s→Q y s'
 | .ret v h n=>R v h n∧∀ s',RetG P n0 fn R .ret s'→Q .ret s'
 | .bad=>False
theorem TG_sym (hm:P.follows .mixedOrders=true) {l:List (Pth × X × St)} (hc:codeOk N c=true) (e:codeX P X'.cs H F c s=some l) (h:∀ p ∈ l,p.1.ok→p.1.good∧∃ y,p.2.1.plain=some y∧Q y p.2.2):TG P n0 N c s Q:=by
 obtain ⟨⟨p,hp,ho⟩,h2⟩:=codeX_sound P X'.cs X'.cf H X'.snd F c s l e
 obtain ⟨hg,y,hy,hq⟩:=h p hp ho
 exact TG_exec (F:=F) X'.ok hm hc (h2 p hp ho hg) hy hq
def runG (P:Program) (cs:CallS) (H:List (Nat × Fix)) (F n0:Nat) (fn:Func) (live:List Nat) (c:Code) (s:St):List (List (Bool × Bool) × List Prop × ResG):=tells (toldG P n0 fn live) (orNil (codeX P cs H F c s))
def runOk (P:Program) (cs:CallS) (H:List (Nat × Fix)) (F:Nat) (c:Code) (s:St):Bool:=(codeX P cs H F c s).isSome
def runL (P:Program) (cs:CallS) (H:List (Nat × Fix)) (F:Nat) (c:Code) (s:St):List V:=samesL (orNil (codeX P cs H F c s))
def runR (P:Program) (cs:CallS) (H:List (Nat × Fix)) (F:Nat) (c:Code) (s:St):List V:=samesR (orNil (codeX P cs H F c s))
theorem TG_run (X':CX P) (hm:P.follows .mixedOrders=true) (H:List (Nat × Fix)) (F:Nat) (fn:Func) (live:List Nat) (R:V→Tr O→Nat→Prop) (G:List (List (Bool × Bool) × List Prop × ResG)) (hc:codeOk N c=true)
  (e1:runOk P X'.cs H F c s=true) (e2:runL P X'.cs H F c s=runR P X'.cs H F c s) (e3:runG P X'.cs H F n0 fn live c s=G)
  (h:∀ g ∈ G,(∀ b ∈ g.1,b.1=b.2)→(∀ a ∈ g.2.1,a)∧g.2.2.post P n0 fn live R Q):TG P n0 N c s Q:=by
 obtain ⟨l,hl⟩:=Option.isSome_iff_exists.1 e1
 unfold runL runR at e2
 unfold runG at e3
 rw [hl] at e2 e3
 simp only [orNil] at e2 e3
 refine TG_sym (X':=X') hm hc hl fun p hp ho=>?_
 have hg:=h (p.1.conds,p.1.asr,toldG P n0 fn live p.2) (e3 ▸ tells_mem hp) ho
 refine ⟨⟨same_ok l e2 p hp,hg.1⟩,?_⟩
 obtain ⟨pp,x,s'⟩:=p
 have hpost:=hg.2
 simp only [toldG] at hpost
 cases x with
 | normal=>
   simp only at hpost
   split at hpost
   · rename_i s2 hs2; exact ⟨.normal,rfl,hpost s' hs2⟩
   · exact hpost.elim
 | exit i=>
   simp only at hpost
   split at hpost
   · rename_i s2 hs2; exact ⟨.exit i,rfl,hpost s' hs2⟩
   · exact hpost.elim
 | ret=>
   simp only at hpost
   split at hpost
   · rename_i v h n hr; exact ⟨.ret,rfl,hpost.2 s' ⟨.inr rfl,v,h,n,hr,hpost.1⟩⟩
   · exact hpost.elim
 | panic _=>exact hpost.elim
theorem TG_runSeq (X':CX P) (hm:P.follows .mixedOrders=true) (H:List (Nat × Fix)) (F:Nat) (fn:Func) (live:List Nat) (R:V→Tr O→Nat→Prop) (G:List (List (Bool × Bool) × List Prop × ResG)) (hs:isSeq c=true) (hc:codeOk N (seqL c)=true)
  (e1:runOk P X'.cs H F (seqL c) s=true) (e2:runL P X'.cs H F (seqL c) s=runR P X'.cs H F (seqL c) s) (e3:runG P X'.cs H F n0 fn live (seqL c) s=G)
  (h:∀ g ∈ G,(∀ b ∈ g.1,b.1=b.2)→(∀ a ∈ g.2.1,a)∧g.2.2.post P n0 fn live R (andThen (fun s'=>TG P n0 N (seqR c) s' Q) Q)):TG P n0 N c s Q:=
 TG_seq' hs (TG_run X' hm H F fn live R G hc e1 e2 e3 h)
theorem TG_headE {cf:CallF} (hcf:CallOk P cf) (hm:P.follows .mixedOrders=true):∀ (k:Nat) {c:Code} {s s1:St} {Q:Exit→St→Prop},codeOk N c=true→exec P cf F (headN k c) s=some (.normal,s1)→TG P n0 N (tailN k c) s1 Q→TG P n0 N c s Q:=by
 intro k
 have skipCase:∀ {c:Code} {s s1:St} {Q:Exit→St→Prop},exec P cf F .skip s=some (.normal,s1)→TG P n0 N c s1 Q→TG P n0 N c s Q:=by
  intro c s s1 Q e h
  simp only [exec,Option.some.injEq,Prod.mk.injEq,true_and] at e
  subst e; exact h
 induction k with
 | zero=>intro c s s1 Q _ e h; cases c <;> exact skipCase e h
 | succ k ih=>
   intro c s s1 Q hok e h
   cases c <;> first | exact skipCase e h | skip
   rename_i a b
   simp only [codeOk,Bool.and_eq_true] at hok
   simp only [headN,exec] at e
   split at e
   · rename_i s' h1
     exact TG_seq (TG_exec (F:=F) hcf hm hok.1 h1 rfl (ih hok.2 e h))
   · rename_i hr
     first | exact (hr s1 rfl).elim | exact (hr s1 e).elim
theorem TG_runN (k:Nat) (X':CX P) (hm:P.follows .mixedOrders=true) (H:List (Nat × Fix)) (F:Nat) (fn:Func) (live:List Nat) (G:List (List (Bool × Bool) × List Prop × ResG)) (hc:codeOk N c=true)
  (e1:runOk P X'.cs H F (headN k c) s=true) (e2:runL P X'.cs H F (headN k c) s=runR P X'.cs H F (headN k c) s) (e3:runG P X'.cs H F n0 fn live (headN k c) s=G)
  (h:∀ g ∈ G,(∀ b ∈ g.1,b.1=b.2)→(∀ a ∈ g.2.1,a)∧∃ s1,g.2.2= .to .normal s1∧TG P n0 N (tailN k c) s1 Q):TG P n0 N c s Q:=by
 obtain ⟨l,hl⟩:=Option.isSome_iff_exists.1 e1
 unfold runL runR at e2
 unfold runG at e3
 rw [hl] at e2 e3
 simp only [orNil] at e2 e3
 obtain ⟨⟨p,hp,ho⟩,h2⟩:=codeX_sound P X'.cs X'.cf H X'.snd F (headN k c) s l hl
 obtain ⟨hA,s1,hs1,hT⟩:=h (p.1.conds,p.1.asr,toldG P n0 fn live p.2) (e3 ▸ tells_mem hp) ho
 have hrun:=h2 p hp ho ⟨same_ok l e2 p hp,hA⟩
 obtain ⟨pp,x,s'⟩:=p
 simp only [toldG] at hs1
 cases x with
 | normal=>
   simp only at hs1
   split at hs1
   · rename_i s2 hs2
     cases hs1
     exact TG_headE (F:=F) X'.ok hm k hc hrun (TG_norm hs2 hT)
   · cases hs1
 | exit i=>
   simp only at hs1
   split at hs1 <;> cases hs1
 | ret=>
   simp only at hs1
   split at hs1 <;> cases hs1
 | panic _=>cases hs1
end
theorem retG_step {P:Program} {n0:Nat} {fn:Func} {s:St} {v:V} {h:Tr O} {n:Nat} (e:retG P n0 fn s=some (v,h,n)):∃ v1 h1 n1 s2,leaveP P fn s.fr s.dfs s.h s.n=some (v1,h1,n1)∧normG n0 [0] { fr:=Tr.nil.set 0 (some v1),h:=h1,n:=n1,dfs:=[] }=some s2∧s2.fr.get 0=some v∧s2.h=h∧s2.n=n:=by
 unfold retG at e
 split at e
 · rename_i v1 h1 n1 e1
   split at e
   · rename_i s2 e2
     split at e
     · rename_i v2 e3
       simp only [Option.some.injEq,Prod.mk.injEq] at e
       obtain ⟨rfl,rfl,rfl⟩:=e
       exact ⟨v1,h1,n1,s2,e1,e2,e3,rfl,rfl⟩
     · cases e
   · cases e
 · cases e
theorem calls_of_TG {P:Program} (hm:P.follows .mixedOrders=true) (hpo:progOk P=true) {f:FuncId} {fn:Func} {code:Code} (hf:P.funcs[f]? =some fn) (hb:fn.body=some code) {args:List V} {h:Tr O} {n0:Nat}
  (l:(Nat.ble args.length fn.ntmps && Nat.blt fn.ntmps top)=true) (R:V→Tr O→Nat→Prop) (hT:TG P n0 fn.ntmps code (startSt args h n0) (RetG P n0 fn R))
  {E:Env} {w:World} {args':List Value} (ra:vrels E args args') (g:Good E h w) (hd:Dom E n0):
  Calls P f args'.toArray w fun e w'=>∃ v h' n',R v h' n'∧CPost E h n0 w (.ret v) h' n' e w':=by
 simp only [Bool.and_eq_true] at l
 obtain ⟨hfr,hsz⟩:=frel_enter (n:=fn.ntmps) ra (Nat.le_of_ble_eq_true l.1) (Nat.le_of_ble_eq_true l.2)
 refine callsIn_wide.1 (callsIn_of_wp_marks (n:=0) hf hb trivial (wpIn_wide.2 ?_))
 refine hT E _ w _ ⟨g,hd,hfr,hsz,rfl⟩ (Nat.le_refl _) fun y s' E' a' w' ⟨hy,v,h',n',hr,hR⟩ u hn' r'=>?_
 obtain ⟨v1,h1,n1,s2,k1,k2,k3,k4,k5⟩:=retG_step hr
 have key:LeavesInM Fence.wide 0 P fn a'.tmps (fun e w'=>∃ v h' n',R v h' n'∧CPost E h n0 w (.ret v) h' n' e w') a'.defers .returning w':=by
  refine leave_sound (cf:=fun _ _ _ _=>none) (F:=0) (fun _ _ _ _ _ _ _ e=>by cases e) hm hpo s'.dfs .ret s'.h s'.n _ h1 n1 (leaveP_ok k1) E' w' a'.defers .returning _ r'.good r'.dom r'.fr r'.dfs trivial fun E2 w2 en u2 hlow2 hd2 hn2 ho=>?_
  have u3:=u.trans (UpdL.of u2 hlow2 hn')
  cases en with
  | returned v'=>
    have ho:vrel E2 v1 v':=ho
    have sr:SRel E2 1 { fr:=Tr.nil.set 0 (some v1),h:=h1,n:=n1,dfs:=[] } { tmps:=#[v'],defers:=[] } w2:=by
     refine ⟨u3.good,hd2,fun t v hv=>?_,rfl,rfl⟩
     rw [Tr.get_set _ _ _ (by decide)] at hv
     split at hv
     · rename_i q; subst q; cases hv; exact ⟨v',rfl,ho⟩
     · simp [Tr.get] at hv
    obtain ⟨_,hn3,E3,r3,u4⟩:=normG_sound k2 sr
    have u5:=(u3.trans u4).upd hd
    obtain ⟨v'',q1,q2⟩:=r3.fr 0 v k3
    simp only [List.getElem?_toArray,List.getElem?_cons_zero,Option.some.injEq] at q1
    subst q1
    refine ⟨v,h',n',hR,E3,k4 ▸ u5,(u3.trans u4).low,k5 ▸ r3.dom,by rw [← k5]; exact hn3,q2⟩
  | _=>exact ho.elim
 rcases hy with rfl | rfl <;> exact key
theorem calls_of_TG1 {P:Program} (hm:P.follows .mixedOrders=true) (hpo:progOk P=true) {f:FuncId} {fn:Func} {code:Code} (hf:P.funcs[f]? =some fn) (hb:fn.body=some code) {args:List V} {h:Tr O} {n0:Nat}
  (l:(Nat.ble args.length fn.ntmps && Nat.blt fn.ntmps top)=true) (v:V) (h':Tr O) (n':Nat) (hT:TG P n0 fn.ntmps code (startSt args h n0) (RetG P n0 fn fun a b c=>a=v∧b=h'∧c=n'))
  {E:Env} {w:World} {args':List Value} (ra:vrels E args args') (g:Good E h w) (hd:Dom E n0):
  Calls P f args'.toArray w (CPost E h n0 w (.ret v) h' n'):=
 (calls_of_TG hm hpo hf hb l _ hT ra g hd).mono fun e w' ⟨_,_,_,⟨e1,e2,e3⟩,k⟩=>by subst e1 e2 e3; exact k
end Go.Eng
namespace Go.Eng
open Go
def frL:List (Nat × V)→Tr V:=go .nil
where go (t:Tr V):List (Nat × V)→Tr V
 | []=>t
 | (k,v) :: r=>go (t.set k (some v)) r
def hL:List (Nat × O)→Tr O:=go .nil
where go (t:Tr O):List (Nat × O)→Tr O
 | []=>t
 | (k,v) :: r=>go (t.set k (some v)) r
def stG (l:List (Nat × V)) (h:Tr O) (n:Nat):St:={ fr:=frL l,h:=h,n:=n,dfs:=[] }
def memoW (T:List (FuncId × List V × V)):CtrW:=fun f args h n=>match look f args T with
 | some v=>some ([],v,h,n)
 | none=>none
theorem memoW_ok {P:Program} {T:List (FuncId × List V × V)} (hT:∀ x ∈ T,SpecOk P x):CtrWOk P (memoW T):=by
 intro f args h n A v h' n' e
 unfold memoW at e
 split at e
 · rename_i v' hl
   simp only [Option.some.injEq,Prod.mk.injEq] at e
   obtain ⟨rfl,rfl,rfl,rfl⟩:=e
   have hs:=hT _ (look_mem hl)
   exact ⟨hs.1,fun _ E w args' ra g hd hcal=>spec_calls hs ra g hd hcal⟩
 · cases e
def runA (P:Program) (cs:CallS) (H:List (Nat × Fix)) (F n0:Nat) (fn:Func) (live:List Nat) (c:Code) (s:St):Option (List V × List V × List (List (Bool × Bool) × List Prop × ResG)):=
 match codeX P cs H F c s with
 | some l=>some (samesL l,samesR l,tells (toldG P n0 fn live) l)
 | none=>none
abbrev RunIs (P:Program) (cs:CallS) (H:List (Nat × Fix)) (F n0:Nat) (fn:Func) (live:List Nat) (c:Code) (s:St) (L:List V) (G:List (List (Bool × Bool) × List Prop × ResG)):Prop:=runA P cs H F n0 fn live c s=some (L,L,G)
theorem RunIs.parts {P:Program} {cs:CallS} {H:List (Nat × Fix)} {F n0:Nat} {fn:Func} {live:List Nat} {c:Code} {s:St} {L:List V} {G:List (List (Bool × Bool) × List Prop × ResG)} (h:RunIs P cs H F n0 fn live c s L G):
  runOk P cs H F c s=true∧runL P cs H F c s=runR P cs H F c s∧runG P cs H F n0 fn live c s=G:=by
 have h:runA P cs H F n0 fn live c s=some (L,L,G):=h
 unfold runA at h
 unfold runOk runL runR runG
 split at h
 · rename_i l hl
   simp only [Option.some.injEq,Prod.mk.injEq] at h
   rw [hl]
   exact ⟨rfl,h.1.trans h.2.1.symm,h.2.2⟩
 · cases h
section
variable {P:Program} {n0 N:Nat} {c:Code} {s:St} {Q:Exit→St→Prop} {H:List (Nat × Fix)} {F:Nat} {fn:Func} {live:List Nat} {L:List V} {G:List (List (Bool × Bool) × List Prop × ResG)}
theorem TG_is (X':CX P) (hm:P.follows .mixedOrders=true) (R:V→Tr O→Nat→Prop) (hc:codeOk N c=true) (hr:RunIs P X'.cs H F n0 fn live c s L G)
  (h:∀ g ∈ G,(∀ b ∈ g.1,b.1=b.2)→(∀ a ∈ g.2.1,a)∧g.2.2.post P n0 fn live R Q):TG P n0 N c s Q:=
 TG_run X' hm H F fn live R G hc hr.parts.1 hr.parts.2.1 hr.parts.2.2 h
theorem TG_isSeq (X':CX P) (hm:P.follows .mixedOrders=true) (R:V→Tr O→Nat→Prop) (hs:isSeq c=true) (hc:codeOk N (seqL c)=true) (hr:RunIs P X'.cs H F n0 fn live (seqL c) s L G)
  (h:∀ g ∈ G,(∀ b ∈ g.1,b.1=b.2)→(∀ a ∈ g.2.1,a)∧g.2.2.post P n0 fn live R (andThen (fun s'=>TG P n0 N (seqR c) s' Q) Q)):TG P n0 N c s Q:=
 TG_runSeq X' hm H F fn live R G hs hc hr.parts.1 hr.parts.2.1 hr.parts.2.2 h
theorem TG_isN (k:Nat) (X':CX P) (hm:P.follows .mixedOrders=true) (hc:codeOk N c=true) (hr:RunIs P X'.cs H F n0 fn live (headN k c) s L G)
  (h:∀ g ∈ G,(∀ b ∈ g.1,b.1=b.2)→(∀ a ∈ g.2.1,a)∧∃ s1,g.2.2= .to .normal s1∧TG P n0 N (tailN k c) s1 Q):TG P n0 N c s Q:=
 TG_runN k X' hm H F fn live G hc hr.parts.1 hr.parts.2.1 hr.parts.2.2 h
theorem TG_isN1 (k:Nat) (X':CX P) (hm:P.follows .mixedOrders=true) {A:List Prop} {s1:St} (hc:codeOk N c=true) (hr:RunIs P X'.cs H F n0 fn live (headN k c) s L [([],A,.to .normal s1)])
  (hA:∀ a ∈ A,a) (h:TG P n0 N (tailN k c) s1 Q):TG P n0 N c s Q:=
 TG_isN k X' hm hc hr fun g hg _=>by
  rw [List.mem_singleton] at hg; subst hg
  exact ⟨hA,s1,rfl,h⟩
theorem TG_ret (X':CX P) (hm:P.follows .mixedOrders=true) (R:V→Tr O→Nat→Prop) (hc:codeOk N c=true) (hr:RunIs P X'.cs H F n0 fn live c s L G)
  (h:∀ g ∈ G,(∀ b ∈ g.1,b.1=b.2)→(∀ a ∈ g.2.1,a)∧∃ v h n,g.2.2= .ret v h n∧R v h n):TG P n0 N c s (RetG P n0 fn R):=
 TG_is X' hm R hc hr fun g hg hc=>by
  obtain ⟨h1,v,h',n',e,hR⟩:=h g hg hc
  refine ⟨h1,?_⟩
  rw [e]
  exact ⟨hR,fun s' q=>q⟩
end
abbrev anyR:V→Tr O→Nat→Prop:=fun _ _ _=>True
end Go.Eng
namespace Go.Eng
open Go Go.RowKit
section
variable {P:Program} {n0 N:Nat} {c:Code} {s:St} {Q:Exit→St→Prop} {F:Nat} {fn:Func}
def ResG.loop (P:Program) (n0:Nat) (fn:Func) (live:List Nat) (R:V→Tr O→Nat→Prop) (I:Nat→St→Prop) (k:Nat) (Q:Exit→St→Prop):ResG→Prop
 | .to .normal s=>∃ k',k' < k∧I k' s
 | .to y s=>∀ s',normG n0 live s'=some s→Q y s'
 | .ret v h n=>R v h n∧∀ s',RetG P n0 fn R .ret s'→Q .ret s'
 | .bad=>False
end
theorem cpost_below {E:Env} {h:Tr O} {n:Nat} {w:World} {v:V} {h':Tr O} {n':Nat} {e:Ending} {w':World} (hro:∀ m,¬ wlive h m) (c:CPost E h n w (.ret v) h' n' e w'):(∃ E,outrel E (.ret v) e)∧Below w.heap.size w w':=by
 obtain ⟨E',u,_,_,_,ho⟩:=c
 exact ⟨⟨E',ho⟩,u.os,u.tape,u.output,u.size,fun k hk=>u.keep k hk fun m s hm=>absurd hm (hro m)⟩
theorem calls_pure {P:Program} (hm:P.follows .mixedOrders=true) (hpo:progOk P=true) {f:FuncId} {fn:Func} {code:Code} (hf:P.funcs[f]? =some fn) (hb:fn.body=some code) {args:List V} {h:Tr O} {n0:Nat}
  (l:(Nat.ble args.length fn.ntmps && Nat.blt fn.ntmps top)=true) {v:V} (hT:TG P n0 fn.ntmps code (startSt args h n0) (RetG P n0 fn fun a _ _=>a=v))
  {E:Env} {w:World} {args':List Value} (ra:vrels E args args') (g:Good E h w) (hd:Dom E n0) (hro:∀ m,¬ wlive h m):
  Calls P f args'.toArray w fun e w'=>(∃ E,outrel E (.ret v) e)∧Below w.heap.size w w':=
 (calls_of_TG hm hpo hf hb l _ hT ra g hd).mono fun e w' ⟨v',h',n',e1,k⟩=>by subst e1; exact cpost_below hro k
theorem nil_ro:∀ m,¬ wlive (.nil:Tr O) m:=fun m k=>absurd rfl k.live
def pureW (f:List V→Option (List Prop × V)):List V→Tr O→Nat→Option (List Prop × V × Tr O × Nat):=fun args h n=>match f args with
 | some (A,v)=>some (A,v,h,n)
 | none=>none
theorem pureW_ok {P:Program} {f:FuncId} {spec:List V→Option (List Prop × V)} (hlt:f < P.funcs.size) (h:∀ args A v,spec args=some (A,v)→V.frees args=true∧v.free=true∧((∀ a ∈ A,a)→
  ∀ E w args',WG w→vrels E args args'→Calls P f args'.toArray w fun e w'=>(∃ E,outrel E (.ret v) e)∧Below w.heap.size w w')):OneW P f (pureW spec):=by
 refine ⟨hlt,fun args h' n A v h2 n2 e hA E w args' ra g hd hc=>?_⟩
 unfold pureW at e
 split at e
 · rename_i A' v' hs
   simp only [Option.some.injEq,Prod.mk.injEq] at e
   obtain ⟨rfl,rfl,rfl,rfl⟩:=e
   obtain ⟨h1,h2,h3⟩:=h args _ _ hs
   exact (h3 hA E w args' g.wg ra).mono fun en w' ⟨ho,b⟩=>cpost_of g hd h2 ho b
 · cases e
theorem pure_calls {P:Program} (hm:P.follows .mixedOrders=true) (hpo:progOk P=true) {f:FuncId} {fn:Func} {code:Code} (hf:P.funcs[f]? =some fn) (hb:fn.body=some code) {args:List V}
  (l:(Nat.ble args.length fn.ntmps && Nat.blt fn.ntmps top)=true) {v:V} (hfr:V.frees args=true) (hT:TG P gN fn.ntmps code (startSt args .nil gN) (RetG P gN fn fun a _ _=>a=v)):
  ∀ E w args',WG w→vrels E args args'→Calls P f args'.toArray w fun e w'=>(∃ E,outrel E (.ret v) e)∧Below w.heap.size w w':=
 fun _ w _ hw ra=>calls_pure hm hpo hf hb l hT (frees_rel _ _ hfr ra) (good0 hw) (dom0 (Nat.le_refl _)) nil_ro
end Go.Eng
namespace Go.Eng
open Go Go.RowKit
def softO:O→O
 | .own k ks=>.ints k ks
 | .cells cs=>match cs with
   | .int k x :: r=>match intsOf k (.int k x :: r) with
     | some l=>.ints k l
     | none=>.cells (.int k x :: r)
   | cs=>.cells cs
 | o=>o
def softT:Tr O→Tr O
 | .nil=>.nil
 | .node v l r=>.node (match v with | some o=>some (softO o) | none=>none) (softT l) (softT r)
theorem softT_get:∀ (t:Tr O) (m:Nat),(softT t).get m=(t.get m).map softO
 | .nil,m=>rfl
 | .node v l r,m=>by
   simp only [softT,Tr.get]
   split
   · cases v <;> rfl
   · rename_i k
     split
     · exact softT_get l _
     · exact softT_get r _
theorem softO_rel {E:Env} {w:World} {b s:Nat} {o:O} (r:orel E w b s o):orel E w b s (softO o):=by
 have key:∀ k ks,orel E w b s (.own k ks)→orel E w b s (.ints k ks):=fun k ks ⟨c,el,fz,h1,h2,_,h4⟩=>⟨c,el,fz,h1,h2,crel_ints.1 h4⟩
 unfold softO
 split
 · exact key _ _ r
 · split
   · rename_i k x rest
     split
     · rename_i l hl
       have e:=intsOf_eq hl
       refine key _ _ ?_
       rw [e] at r
       exact r
     · exact r
   · exact r
 · exact r
theorem softO_wr {o:O} (h:(softO o).wr=true):o.wr=true:=by
 unfold softO at h
 split at h
 · rfl
 · rfl
 · exact h
theorem soft_good {E:Env} {h:Tr O} {w:World} (g:Good E h w):Good E (softT h) w:=by
 refine ⟨?_,?_,g.bnd,g.glob,fun b c q=>⟨g.fz b c q,fun m s hm e=>?_⟩⟩
 case refine_3=>
  obtain ⟨o,ho,hw⟩:=hm
  rw [softT_get] at ho
  cases h1:h.get m with
  | none=>rw [h1] at ho; cases ho
  | some o1=>
    rw [h1] at ho
    simp only [Option.map_some,Option.some.injEq] at ho
    subst ho
    exact (g.froz b c q).2 m s ⟨o1,h1,softO_wr hw⟩ e
 · intro m o hm
   rw [softT_get] at hm
   cases ho:h.get m with
   | none=>rw [ho] at hm; cases hm
   | some o'=>
     rw [ho] at hm
     simp only [Option.map_some,Option.some.injEq] at hm
     subst hm
     obtain ⟨b,s,h1,h2⟩:=g.rel m o' ho
     exact ⟨b,s,h1,softO_rel h2⟩
 · rintro m m' b s s' hne ⟨o,ho,hw⟩ hm' e e'
   rw [softT_get] at ho hm'
   cases h1:h.get m with
   | none=>rw [h1] at ho; cases ho
   | some o1=>
     rw [h1] at ho
     simp only [Option.map_some,Option.some.injEq] at ho
     subst ho
     refine g.inj m m' b s s' hne ⟨o1,h1,softO_wr hw⟩ (fun q=>hm' (by rw [q]; rfl)) e e'
def readW (spec:List V→Tr O→Option (List Prop × V)):List V→Tr O→Nat→Option (List Prop × V × Tr O × Nat):=fun args h n=>match spec args (softT h) with
 | some (A,v)=>some (A,v,h,n)
 | none=>none
theorem readW_ok {P:Program} {f:FuncId} {spec:List V→Tr O→Option (List Prop × V)} (hp:PureA P f spec):OneW P f (readW spec):=by
 refine ⟨hp.1,fun args h n A v h' n' e hA E w args' ra g hd hc=>?_⟩
 unfold readW at e
 split at e
 · rename_i A' v' hs
   simp only [Option.some.injEq,Prod.mk.injEq] at e
   obtain ⟨rfl,rfl,rfl,rfl⟩:=e
   obtain ⟨h2,h3⟩:=hp.2 args _ _ _ hs
   exact (h3 hA E n w args' ra (soft_good g) hd hc).mono fun en w' ⟨ho,b⟩=>cpost_of g hd h2 ho b
 · cases e
theorem read_calls {P:Program} (hm:P.follows .mixedOrders=true) (hpo:progOk P=true) {f:FuncId} {fn:Func} {code:Code} (hf:P.funcs[f]? =some fn) (hb:fn.body=some code) {args:List V} {h:Tr O} {n0:Nat}
  (l:(Nat.ble args.length fn.ntmps && Nat.blt fn.ntmps top)=true) {v:V} (hT:TG P n0 fn.ntmps code (startSt args h n0) (RetG P n0 fn fun a _ _=>a=v))
  {E:Env} {w:World} {args':List Value} (g:Good E h w) (hd:Dom E n0) (hro:∀ m,¬ wlive h m) (ra:vrels E args args'):
  Calls P f args'.toArray w fun e w'=>(∃ E,outrel E (.ret v) e)∧Below w.heap.size w w':=calls_pure hm hpo hf hb l hT ra g hd hro
end Go.Eng
namespace Go.Eng
open Go Go.RowKit
def ownO (h:Tr O):List (Nat × IntKind)→Option (Tr O)
 | []=>some h
 | (m,k) :: r=>match h.get m with
   | some (.cells cs)=>match intsOf k cs with
     | some ks=>match Nat.blt m top with
       | true=>ownO (h.set m (some (.own k ks))) r
       | false=>none
     | none=>none
   | _=>none
theorem ownO_good {E:Env} {w:World}:∀ (l:List (Nat × IntKind)) (h h2:Tr O),ownO h l=some h2→Good E h w→Good E h2 w∧∀ m,(h2.get m ≠ none ↔ h.get m ≠ none)∧(wlive h2 m→wlive h m)
 | [],h,h2,e,g=>by simp only [ownO,Option.some.injEq] at e; subst e; exact ⟨g,fun m=>⟨Iff.rfl,id⟩⟩
 | (m,k) :: r,h,h2,e,g=>by
   unfold ownO at e
   split at e
   case h_2=>cases e
   rename_i cs hm
   split at e
   case h_2=>cases e
   rename_i ks hk
   split at e
   case h_2=>cases e
   rename_i ht
   have ht:m < top:=Nat.le_of_ble_eq_true ht
   have hcs:=intsOf_eq hk
   have hget:∀ j,(h.set m (some (.own k ks))).get j=if j=m then some (.own k ks) else h.get j:=fun j=>Tr.get_set _ _ _ ht
   have hlv:∀ j,((h.set m (some (.own k ks))).get j ≠ none ↔ h.get j ≠ none)∧(wlive (h.set m (some (.own k ks))) j→wlive h j):=by
    intro j
    rw [hget]
    by_cases q:j=m
    · subst q; rw [if_pos rfl,hm]; exact ⟨by simp,fun _=>⟨_,hm,rfl⟩⟩
    · rw [if_neg q]; exact ⟨Iff.rfl,fun z=>wlive_ne ht z q⟩
   have g1:Good E (h.set m (some (.own k ks))) w:=by
    refine ⟨fun j o hj=>?_,fun j j' b s s' hne hj hj' e1 e2=>g.inj j j' b s s' hne ((hlv j).2 hj) ((hlv j').1.1 hj') e1 e2,g.bnd,g.glob,fun b c q=>⟨g.fz b c q,fun m' s hm'=>(g.froz b c q).2 m' s ((hlv m').2 hm')⟩⟩
    rw [hget] at hj
    split at hj
    · rename_i q; subst q
      simp only [Option.some.injEq] at hj; subst hj
      obtain ⟨b,s,h1,h2⟩:=g.rel j _ hm
      rw [hcs] at h2
      exact ⟨b,s,h1,h2⟩
    · exact g.rel j o hj
   obtain ⟨g2,k2⟩:=ownO_good r _ h2 e g1
   exact ⟨g2,fun j=>⟨(k2 j).1.trans (hlv j).1,fun z=>(hlv j).2 ((k2 j).2 z)⟩⟩
def ownS (l:List (Nat × IntKind)) (s:St):Option St:=match ownO s.h l with
 | some h=>some { s with h:=h }
 | none=>none
theorem TG_own {P:Program} {n0 N:Nat} {c:Code} {s s2:St} {Q:Exit→St→Prop} (l:List (Nat × IntKind)) (e:ownS l s=some s2) (h:TG P n0 N c s2 Q):TG P n0 N c s Q:=by
 unfold ownS at e
 split at e
 case h_2=>cases e
 rename_i h2 hh
 simp only [Option.some.injEq] at e; subst e
 intro E a w K r hn k
 obtain ⟨g2,k2⟩:=ownO_good (E:=E) (w:=w) l s.h h2 hh r.good
 have u:UpdL n0 E s.h w E h2 w:=⟨fun _ _ _ _ e=>⟨e,rfl⟩,fun _ _=>rfl,fun _ _ q=>q,g2,Nat.le_refl _,rfl,rfl,rfl,fun _ _ _=>rfl,fun m b s1 hm e1 _=>⟨m,s1,(k2 m).1.1 hm,e1,(k2 m).2⟩,fun _ _ q=>.inl q⟩
 exact h E a w K ⟨g2,r.dom,r.fr,r.size,r.dfs⟩ hn fun y s' E' a' w' q u' hn' r'=>k y s' E' a' w' q (u.trans u') hn' r'
end Go.Eng
namespace Go.Eng
open Go Go.RowKit
def Env.rows (E:Env) (ns:List (Option (Nat × Nat))):Env:=⟨fun j=>match ns.getD j none with
 | some (m,o)=>match E.ι m with
   | some (b,s)=>some (b,s+o)
   | none=>none
 | none=>none,E.β,E.φ⟩
def rHi:List (Option (IntKind × List Int))→Nat→Tr O→Tr O
 | [],_,t=>t
 | some (k,ks) :: r,i,t=>rHi r (i+1) (t.set i (some (.ints k ks)))
 | none :: r,i,t=>rHi r (i+1) t
def rH (rs:List (Option (IntKind × List Int))):Tr O:=rHi rs 0 .nil
theorem rHi_get:∀ (rs:List (Option (IntKind × List Int))) (i:Nat) (t:Tr O) (m:Nat) (o:O),i+rs.length < top→(rHi rs i t).get m=some o→t.get m=some o ∨ ∃ k ks,i ≤ m∧rs[m - i]? =some (some (k,ks))∧o= .ints k ks
 | [],i,t,m,o,_,h=>.inl h
 | some (k,ks) :: r,i,t,m,o,hl,h=>by
   simp only [List.length_cons] at hl
   rcases rHi_get r (i+1) _ m o (by omega) h with q | ⟨k',ks',h1,h2,h3⟩
   · rw [Tr.get_set _ _ _ (by omega)] at q
     split at q
     · rename_i z; subst z
       simp only [Option.some.injEq] at q; subst q
       exact .inr ⟨k,ks,Nat.le_refl _,by simp,rfl⟩
     · exact .inl q
   · refine .inr ⟨k',ks',by omega,?_,h3⟩
     rw [show m - i=(m - (i+1))+1 by omega,List.getElem?_cons_succ]; exact h2
 | none :: r,i,t,m,o,hl,h=>by
   simp only [List.length_cons] at hl
   rcases rHi_get r (i+1) _ m o (by omega) h with q | ⟨k',ks',h1,h2,h3⟩
   · exact .inl q
   · refine .inr ⟨k',ks',by omega,?_,h3⟩
     rw [show m - i=(m - (i+1))+1 by omega,List.getElem?_cons_succ]; exact h2
theorem rH_get {rs:List (Option (IntKind × List Int))} {m:Nat} {o:O} (hl:rs.length < top) (h:(rH rs).get m=some o):∃ k ks,rs[m]? =some (some (k,ks))∧o= .ints k ks:=by
 rcases rHi_get rs 0 .nil m o (by omega) h with q | ⟨k,ks,_,h2,h3⟩
 · simp [Tr.get] at q
 · exact ⟨k,ks,by simpa using h2,h3⟩
theorem rows_ge {E:Env} {ns:List (Option (Nat × Nat))} (g:GE E) (hg:∀ p ∈ gtab,ns[p.2]? =some (some (p.2,0))):GE (E.rows ns):=by
 intro p hp
 show (match ns.getD p.2 none with
  | some (m,o)=>match E.ι m with
    | some (b,s)=>some (b,s+o)
    | none=>none
  | none=>none)=_
 rw [List.getD_eq_getElem?_getD,hg p hp]
 simp only [Option.getD_some,g p hp]
theorem rows_ok {E:Env} {h:Tr O} {w:World} (g:Good E h w) (ns:List (Option (Nat × Nat))) (rs:List (Option (IntKind × List Int))) (hl:rs.length < top)
  (hg:∀ p ∈ gtab,ns[p.2]? =some (some (p.2,0))) (hr:∀ (j:Nat) (k:IntKind) (ks:List Int),rs[j]? =some (some (k,ks))→∃ m o full,ns[j]? =some (some (m,o))∧h.get m=some (.ints k full)∧full.drop o=ks):
  Good (E.rows ns) (rH rs) w∧Dom (E.rows ns) ns.length∧∀ m,¬ wlive (rH rs) m:=by
 have hwl:∀ m,¬ wlive (rH rs) m:=by
  rintro m ⟨o,h1,h2⟩
  obtain ⟨k,ks,_,rfl⟩:=rH_get hl h1
  cases h2
 refine ⟨⟨fun m o hm=>?_,fun m _ _ _ _ _ hm=>absurd hm (hwl m),fun m b' s e=>?_,rows_ge g.glob hg,fun b c q=>⟨g.fz b c q,fun m s hm=>absurd hm (hwl m)⟩⟩,fun m hm=>?_,hwl⟩
 · obtain ⟨k,ks,h1,rfl⟩:=rH_get hl hm
   obtain ⟨m0,o,full,h2,h3,h4⟩:=hr m k ks h1
   obtain ⟨b,s,e1,c,el,fz,k1,k2,k3⟩:=g.rel m0 _ h3
   refine ⟨b,s+o,?_,c,el,fz,k1,k2,fun i x hx=>?_⟩
   · show (match ns.getD m none with | some (m,o)=>_ | none=>none)=_
     rw [List.getD_eq_getElem?_getD,h2]
     simp only [Option.getD_some,e1]
   · rw [← h4,List.getElem?_drop] at hx
     rw [← k3 (o+i) x hx]; congr 1; omega
 · have e:(match ns.getD m none with | some (m,o)=>(match E.ι m with | some (b,s)=>some (b,s+o) | none=>none) | none=>none)=some (b',s):=e
   split at e
   · rename_i m0 o hm
     split at e
     · rename_i b s0 e0
       simp only [Option.some.injEq,Prod.mk.injEq] at e
       obtain ⟨rfl,_⟩:=e
       exact g.bnd m0 b s0 e0
     · cases e
   · cases e
 · have hm:ns.length ≤ m:=hm
   show (match ns.getD m none with | some (m,o)=>(match E.ι m with | some (b,s)=>some (b,s+o) | none=>none) | none=>none)=none
   rw [List.getD_eq_getElem?_getD,List.getElem?_eq_none hm]
   rfl
end Go.Eng
namespace Go.Eng
open Go Go.RowKit
end Go.Eng
namespace Go.Eng
open Go Go.RowKit
theorem RunIs.of {P:Program} {cs:CallS} {H:List (Nat × Fix)} {F n0:Nat} {fn:Func} {live:List Nat} {c:Code} {s:St} {G:List (List (Bool × Bool) × List Prop × ResG)} (h1:runOk P cs H F c s=true) (h2:runL P cs H F c s=runR P cs H F c s) (h3:runG P cs H F n0 fn live c s=G):
  ∃ L,RunIs P cs H F n0 fn live c s L G:=by
 refine ⟨runL P cs H F c s,?_⟩
 unfold RunIs runA
 unfold runOk at h1
 unfold runL runR at h2
 unfold runG at h3
 unfold runL
 cases hl:codeX P cs H F c s with
 | none=>rw [hl] at h1; cases h1
 | some l=>
   rw [hl] at h2 h3
   have h2:samesL l=samesR l:=h2
   have h3:tells (toldG P n0 fn live) l=G:=h3
   show some (samesL l,samesR l,tells (toldG P n0 fn live) l)=some (samesL l,samesL l,G)
   rw [h3,← h2]
end Go.Eng
namespace Go.Eng
open Go Go.RowKit
end Go.Eng
