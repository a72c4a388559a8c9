/- The engine, part MB: calls, one of which is known at its arguments and memory. No conditions: lemmas alone. -/
import Derived.Test.YtfihojpgobmmdaaGreatDoorJointFive
import Derived.Maps.RangeRun
set_option linter.unusedVariables false
set_option linter.unusedSimpArgs false
set_option linter.unusedSectionVars false
namespace Go.Eng
open Go Go.RowKit
def pinS (cs:CallS) (f:FuncId) (args:List V) (h:Tr O) (n:Nat) (r:V × Tr O × Nat):CallS:=fun f' a' h' n'=>match Nat.beq f' f with
 | true=>some [(⟨[],[],[a'=args∧h'=h∧n'=n]⟩,r)]
 | false=>cs f' a' h' n'
open Classical in
noncomputable def pinF (cf:CallF) (f:FuncId) (args:List V) (h:Tr O) (n:Nat) (r:V × Tr O × Nat):CallF:=fun f' a' h' n'=>
 if f'=f then (if a'=args∧h'=h∧n'=n then some (.ret r.1,r.2.1,r.2.2) else none) else cf f' a' h' n'
theorem pinS_sound {cs:CallS} {cf:CallF} (hs:SoundC cs cf) (f:FuncId) (args:List V) (h:Tr O) (n:Nat) (r:V × Tr O × Nat):SoundC (pinS cs f args h n r) (pinF cf f args h n r):=by
 intro f' a' h' n'
 unfold pinS pinF
 by_cases hf:f'=f
 · subst hf
   rw [Nat.beq_refl,if_pos rfl]
   intro l e
   simp only [Option.some.injEq] at e; subst e
   refine ⟨⟨_,List.mem_singleton.2 rfl,fun c hc=>by simp at hc⟩,fun e he _ hg=>?_⟩
   simp only [List.mem_singleton] at he; subst he
   have:a'=args∧h'=h∧n'=n:=hg.2 _ (List.mem_singleton.2 rfl)
   simp only
   rw [if_pos this]
   rfl
 · have:Nat.beq f' f=false:=by
    cases q:Nat.beq f' f with
    | false=>rfl
    | true=>exact absurd (Nat.eq_of_beq_eq_true q) hf
   rw [this,if_neg hf]
   exact hs f' a' h' n'
theorem pinF_ok {P:Program} {cf:CallF} (hk:CallOk P cf) {f:FuncId} {args:List V} {h:Tr O} {n:Nat} {v:V} {h1:Tr O} {n1:Nat} (hlt:f < P.funcs.size)
  (hc:∀ E w args',vrels E args args'→Good E h w→Dom E n→Calls P f args'.toArray w (CPost E h n w (.ret v) h1 n1)):CallOk P (pinF cf f args h n (v,h1,n1)):=by
 intro f' a' h' n' out' h2 n2 e E w args' ra g hd
 unfold pinF at e
 split at e
 · rename_i hf
   subst hf
   split at e
   · rename_i hq
     obtain ⟨rfl,rfl,rfl⟩:=hq
     simp only [Option.some.injEq,Prod.mk.injEq] at e
     obtain ⟨rfl,rfl,rfl⟩:=e
     exact ⟨fun _=>hc E w args' ra g hd,fun m l s hf _=>absurd hlt (by rw [hf]; exact Nat.not_lt.2 (Nat.le_add_right _ _))⟩
   · cases e
 · exact hk f' a' h' n' out' h2 n2 e E w args' ra g hd
noncomputable def CX.pin {P:Program} (X:CX P) {f:FuncId} {args:List V} {h:Tr O} {n:Nat} {v:V} {h1:Tr O} {n1:Nat} (hlt:f < P.funcs.size)
  (hc:∀ E w args',vrels E args args'→Good E h w→Dom E n→Calls P f args'.toArray w (CPost E h n w (.ret v) h1 n1)):CX P:=
 ⟨pinS X.cs f args h n (v,h1,n1),pinF X.cf f args h n (v,h1,n1),pinS_sound X.snd f args h n (v,h1,n1),pinF_ok X.ok hlt hc⟩
def pinQS (cs:CallS) (f:FuncId) (q:List V→Bool) (args:List V) (h:Tr O) (n:Nat) (r:V × Tr O × Nat):CallS:=fun f' a' h' n'=>match Nat.beq f' f && q a' with
 | true=>some [(⟨[],[],[a'=args∧h'=h∧n'=n]⟩,r)]
 | false=>cs f' a' h' n'
open Classical in
noncomputable def pinQF (cf:CallF) (f:FuncId) (q:List V→Bool) (args:List V) (h:Tr O) (n:Nat) (r:V × Tr O × Nat):CallF:=fun f' a' h' n'=>
 if (Nat.beq f' f && q a')=true then (if a'=args∧h'=h∧n'=n then some (.ret r.1,r.2.1,r.2.2) else none) else cf f' a' h' n'
theorem pinQS_sound {cs:CallS} {cf:CallF} (hs:SoundC cs cf) (f:FuncId) (q:List V→Bool) (args:List V) (h:Tr O) (n:Nat) (r:V × Tr O × Nat):SoundC (pinQS cs f q args h n r) (pinQF cf f q args h n r):=by
 intro f' a' h' n'
 unfold pinQS pinQF
 cases hb:(Nat.beq f' f && q a') with
 | true=>
   rw [if_pos rfl]
   intro l e
   simp only [Option.some.injEq] at e; subst e
   refine ⟨⟨_,List.mem_singleton.2 rfl,fun c hc=>by simp at hc⟩,fun e he _ hg=>?_⟩
   simp only [List.mem_singleton] at he; subst he
   have:a'=args∧h'=h∧n'=n:=hg.2 _ (List.mem_singleton.2 rfl)
   simp only
   rw [if_pos this]
   rfl
 | false=>
   rw [if_neg (by simp)]
   exact hs f' a' h' n'
theorem pinQF_ok {P:Program} {cf:CallF} (hk:CallOk P cf) {f:FuncId} {q:List V→Bool} {args:List V} {h:Tr O} {n:Nat} {v:V} {h1:Tr O} {n1:Nat} (hlt:f < P.funcs.size)
  (hc:∀ E w args',vrels E args args'→Good E h w→Dom E n→Calls P f args'.toArray w (CPost E h n w (.ret v) h1 n1)):CallOk P (pinQF cf f q args h n (v,h1,n1)):=by
 intro f' a' h' n' out' h2 n2 e E w args' ra g hd
 unfold pinQF at e
 split at e
 · rename_i hf
   simp only [Bool.and_eq_true] at hf
   have hf:=Nat.eq_of_beq_eq_true hf.1
   subst hf
   split at e
   · rename_i hq
     obtain ⟨rfl,rfl,rfl⟩:=hq
     simp only [Option.some.injEq,Prod.mk.injEq] at e
     obtain ⟨rfl,rfl,rfl⟩:=e
     exact ⟨fun _=>hc E w args' ra g hd,fun m l s hf _=>absurd hlt (by rw [hf]; exact Nat.not_lt.2 (Nat.le_add_right _ _))⟩
   · cases e
 · exact hk f' a' h' n' out' h2 n2 e E w args' ra g hd
noncomputable def CX.pinQ {P:Program} (X:CX P) (q:List V→Bool) {f:FuncId} {args:List V} {h:Tr O} {n:Nat} {v:V} {h1:Tr O} {n1:Nat} (hlt:f < P.funcs.size)
  (hc:∀ E w args',vrels E args args'→Good E h w→Dom E n→Calls P f args'.toArray w (CPost E h n w (.ret v) h1 n1)):CX P:=
 ⟨pinQS X.cs f q args h n (v,h1,n1),pinQF X.cf f q args h n (v,h1,n1),pinQS_sound X.snd f q args h n (v,h1,n1),pinQF_ok X.ok hlt hc⟩
def CallIs (P:Program) (f:FuncId) (args:List V) (h:Tr O) (n:Nat) (v:V) (h1:Tr O) (n1:Nat):Prop:=∀ E w args',vrels E args args'→Good E h w→Dom E n→Calls P f args'.toArray w (CPost E h n w (.ret v) h1 n1)
theorem hLi_get:∀ (l:List (Nat × O)) (t:Tr O) (j:Nat) (o:O),(∀ p ∈ l,p.1 < top)→(hL.go t l).get j=some o→t.get j=some o ∨ (j,o) ∈ l
 | [],t,j,o,_,h=>.inl h
 | (k,v) :: l,t,j,o,hl,h=>by
   rcases hLi_get l _ j o (fun q hq=>hl q (by simp [hq])) h with q | q
   · rw [Tr.get_set _ _ _ (hl (k,v) (by simp))] at q
     split at q
     · rename_i z
       simp only [Option.some.injEq] at q
       subst z; subst q
       exact .inr (by simp)
     · exact .inl q
   · exact .inr (by simp [q])
theorem pick_list {ns:List (Option Nat)} {h:Tr O} {l:List (Nat × O)} (hl:∀ p ∈ l,p.1 < top) (h1:∀ p ∈ gtab,ns.getD p.2 none=some p.2) (h2:nodupN ns=true)
  (h3:∀ j m,ns.getD j none=some m→(∃ p ∈ gtab,p.2=m) ∨ h.get m ≠ none) (h4:∀ p ∈ l,∃ m o,ns.getD p.1 none=some m∧h.get m=some o∧o.rn (mu ns)=some p.2):PickOk ns h (hL l):=by
 refine ⟨h1,h2,h3,fun j o1 hj=>?_⟩
 rcases hLi_get l .nil j o1 hl hj with q | q
 · simp [Tr.get] at q
 · exact h4 _ q
end Go.Eng
namespace Go.Eng
open Go Go.RowKit
open Go.ChangeMaps (setBlock)
structure ItAt (φ:Nat→Option (Array Value)) (kd:Option IntKind) (es:List (D × D)) (w:World) (r b:Nat) (left:List (D × D)):Prop where
 ex:∃ seen es' clock,w.heap[r]? =some (.mapIter (some b) clock seen clock)∧w.heap[b]? =some (.map es' clock)∧MapRel φ kd es es'.toList clock∧∃ l,List.Perm l left∧mrels φ l (leftOf es' seen).toList
theorem ItAt.mono {φ φ':Nat→Option (Array Value)} {kd:Option IntKind} {es left:List (D × D)} {w w':World} {r b:Nat} (hφ:∀ b c,φ b=some c→φ' b=some c) (hr:w'.heap[r]? =w.heap[r]?) (hb:w'.heap[b]? =w.heap[b]?) (i:ItAt φ kd es w r b left):ItAt φ' kd es w' r b left:=by
 obtain ⟨seen,es',clock,h1,h2,h3,l,h4,h5⟩:=i.ex
 exact ⟨seen,es',clock,hr.trans h1,hb.trans h2,h3.mono hφ,l,h4,mrels_mono hφ _ _ h5⟩
theorem mrels_mid {φ:Nat→Option (Array Value)}:∀ (a1:List MapEntry) {e:MapEntry} {a2:List MapEntry} {l:List (D × D)},mrels φ l (a1 ++ e :: a2)→∃ l1 c l2,l=l1 ++ c :: l2∧mrels φ l1 a1∧drel φ c.1 e.key∧drel φ c.2 e.val∧mrels φ l2 a2
 | [],e,a2,l,h=>by
   cases l with
   | nil=>have h:([] ++ e :: a2:List MapEntry)=[]:=h; cases h
   | cons c l2=>
     obtain ⟨y,ys,h1,h2,h3,h4⟩:=h
     simp only [List.nil_append,List.cons.injEq] at h4
     obtain ⟨rfl,rfl⟩:=h4
     exact ⟨[],c,l2,rfl,rfl,h1,h2,h3⟩
 | x :: a1,e,a2,l,h=>by
   cases l with
   | nil=>have h:(x :: a1 ++ e :: a2:List MapEntry)=[]:=h; cases h
   | cons c0 l0=>
     obtain ⟨y,ys,h1,h2,h3,h4⟩:=h
     simp only [List.cons_append,List.cons.injEq] at h4
     obtain ⟨rfl,rfl⟩:=h4
     obtain ⟨l1,c,l2,rfl,k1,k2,k3,k4⟩:=mrels_mid a1 h3
     exact ⟨c0 :: l1,c,l2,rfl,⟨_,_,h1,h2,k1,rfl⟩,k2,k3,k4⟩
theorem mrels_app {φ:Nat→Option (Array Value)}:∀ {l1:List (D × D)} {a1:List MapEntry} {l2:List (D × D)} {a2:List MapEntry},mrels φ l1 a1→mrels φ l2 a2→mrels φ (l1 ++ l2) (a1 ++ a2)
 | [],a1,l2,a2,h1,h2=>by have h1:a1=[]:=h1; subst h1; exact h2
 | c :: l1,a1,l2,a2,h1,h2=>by
   obtain ⟨y,ys,k1,k2,k3,rfl⟩:=h1
   exact ⟨y,ys ++ a2,k1,k2,mrels_app k3 h2,rfl⟩
theorem mrels_nil {φ:Nat→Option (Array Value)} {l:List (D × D)} (h:mrels φ l []):l=[]:=by
 cases l with
 | nil=>rfl
 | cons c l=>obtain ⟨_,_,_,_,_,h⟩:=h; cases h
theorem leftOf_list (es:Array MapEntry) (seen:Array Nat):(leftOf es seen).toList=es.toList.filter fun e=>!seen.contains e.born:=by
 simp [leftOf]
theorem leftOf_push (es:Array MapEntry) (seen:Array Nat) (b:Nat):(leftOf es (seen.push b)).toList=(leftOf es seen).toList.filter fun e=>!(e.born == b):=by
 rw [leftOf_list,leftOf_list,List.filter_filter]
 congr 1
 funext e
 have:(e.born == b)=decide (e.born=b):=rfl
 rw [this]
 simp [Bool.and_comm]
theorem it_next {P:Program} {φ:Nat→Option (Array Value)} {kd:Option IntKind} {es left:List (D × D)} {w:World} {r b:Nat} (hrb:r ≠ b) (i:ItAt φ kd es w r b left) (ty:TypeId):
  (left=[]∧(Instr.next (.pointer (some ⟨r,0,none⟩)) false ty).run P w= .ok (.tuple #[.bool false]) w) ∨
  ∃ c left' k v w',List.Perm left (c :: left')∧drel φ c.1 k∧drel φ c.2 v∧(Instr.next (.pointer (some ⟨r,0,none⟩)) false ty).run P w= .ok (.tuple #[.bool true,k,v]) w'∧
    (∀ w2:World,w2.heap[r]? =w'.heap[r]?→w2.heap[b]? =w'.heap[b]?→(Instr.entry (.pointer (some ⟨r,0,none⟩))).run P w2= .ok (.tuple #[k,v]) w2)∧ItAt φ kd es w' r b left'∧w'.heap.size=w.heap.size∧w'.tape=w.tape∧w'.os=w.os∧w'.output=w.output∧∀ x,x ≠ r→w'.heap[x]? =w.heap[x]?:=by
 obtain ⟨seen,es',clock,hr,hb,hM,l,hl,hm⟩:=i.ex
 rcases run_next_at (P:=P) w ty r b clock clock seen es' clock hr hb (fun x hx=>hM.old x hx) (Nat.le_refl _) with ⟨h0,hrun⟩ | ⟨e,he,w1,hw1,hrun⟩
 · left
   have:(leftOf es' seen).toList=[]:=by rw [← Array.length_toList] at h0; exact List.eq_nil_of_length_eq_zero h0
   rw [this] at hm
   have:=mrels_nil hm
   subst this
   exact ⟨hl.symm.eq_nil,hrun⟩
 · right
   obtain ⟨a1,a2,ha⟩:=List.append_of_mem he
   have hnd:((leftOf es' seen).toList.map (·.born)).Nodup:=by
    rw [leftOf_list]
    exact hM.born.sublist (List.filter_sublist.map _)
   rw [ha] at hm
   obtain ⟨l1,c,l2,rfl,k1,k2,k3,k4⟩:=mrels_mid a1 hm
   have hw1r:w1.heap=w.heap:=by rcases hw1 with rfl | rfl <;> rfl
   have hw1o:w1.tape=w.tape∧w1.os=w.os∧w1.output=w.output:=by rcases hw1 with rfl | rfl <;> exact ⟨rfl,rfl,rfl⟩
   have hrlt:r < w.heap.size:=(Array.getElem?_eq_some_iff.1 hr).1
   have hnew:(setBlock w1 r (.mapIter (some b) clock (seen.push e.born) clock)).heap[r]? =some (.mapIter (some b) clock (seen.push e.born) clock):=by
    simp [setBlock,hw1r,hrlt]
   have hoth:∀ x,x ≠ r→(setBlock w1 r (.mapIter (some b) clock (seen.push e.born) clock)).heap[x]? =w.heap[x]?:=by
    intro x hx
    simp only [setBlock,hw1r]
    rw [Array.getElem?_setIfInBounds_ne (Ne.symm hx)]
   have hbb:=(hoth b (Ne.symm hrb)).trans hb
   refine ⟨c,l1 ++ l2,e.key,e.val,_,?_,k2,k3,hrun,?_,⟨seen.push e.born,es',clock,hnew,hbb,hM,l1 ++ l2,.refl _,?_⟩,by simp [setBlock,hw1r],hw1o.1,hw1o.2.1,hw1o.2.2,hoth⟩
   · exact hl.symm.trans List.perm_middle
   · have hein:e ∈ es'.toList:=by
      rw [leftOf_list] at he
      exact (List.mem_filter.1 he).1
     exact fun w2 g1 g2=>run_entry_at w2 r b clock seen es' clock e (g1.trans hnew) (g2.trans hbb) hein hM.born
   · rw [leftOf_push,ha]
     rw [ha,List.map_append,List.map_cons] at hnd
     have hnd2:=List.nodup_append.1 hnd
     have f1:a1.filter (fun x=>!(x.born == e.born))=a1:=by
      rw [List.filter_eq_self]
      intro x hx
      have:x.born ≠ e.born:=fun q=>hnd2.2.2 x.born (List.mem_map.2 ⟨x,hx,rfl⟩) e.born (by simp) q
      simp [this]
     have f2:a2.filter (fun x=>!(x.born == e.born))=a2:=by
      rw [List.filter_eq_self]
      intro x hx
      have h3:=(List.nodup_cons.1 hnd2.2.1).1
      have:x.born ≠ e.born:=fun q=>h3 (by rw [← q]; exact List.mem_map.2 ⟨x,hx,rfl⟩)
      simp [this]
     rw [List.filter_append,f1,List.filter_cons]
     simp only [beq_self_eq_true,Bool.not_true,Bool.false_eq_true,if_false,f2]
     exact mrels_app k1 k4
end Go.Eng
namespace Go.Eng
open Go Go.RowKit
open Go.ChangeMaps (setBlock)
section
variable {P:Program} {F:Fence} {n:Nat} {ops:Array Oper} {Q:Exit→Act→World→Prop} {a:Act} {w:World} {rest:List Oper} {o:Oper}
theorem wpl_range {t k e:TypeId} {x:Operand} {b:Nat} {es:Array MapEntry} {clock:Nat} (hg:o.guard=none) (hop:o.op= .range t x) (hu:P.underlying t=some (.map k e)) (hx:a.eval x= .map (some b)) (hb:w.heap[b]? =some (.map es clock))
  (hK:wpListIn F n P ops Q rest (a.put o.dst (.pointer (some ⟨w.heap.size,0,none⟩))) (w.alloc (.mapIter (some b) clock #[] clock))):wpListIn F n P ops Q (o :: rest) a w:=by
 refine wpListIn_plain hg fun K' hK'=>?_
 have hrun:=run_range_map (P:=P) w t k e b es clock hu hb
 unfold Oper.wpIn
 refine ⟨by simp [Oper.about,hop],?_⟩
 rw [semAt_plain (by rw [hop]; intro c hc'; cases hc')]
 simp [execOp,hop,hx,hrun,Result.andThen]
 exact hK' _ _ hK
theorem wpl_next {x:Operand} {r:Nat} {v:Value} {w':World} (hg:o.guard=none) (hop:o.op= .next x false) (hx:a.eval x= .pointer (some ⟨r,0,none⟩)) (hrun:(Instr.next (.pointer (some ⟨r,0,none⟩)) false o.type).run P w= .ok v w')
  (hK:wpListIn F n P ops Q rest (a.put o.dst v) w'):wpListIn F n P ops Q (o :: rest) a w:=by
 refine wpListIn_plain hg fun K' hK'=>?_
 unfold Oper.wpIn
 refine ⟨by simp [Oper.about,hop],?_⟩
 rw [semAt_plain (by rw [hop]; intro c hc'; cases hc')]
 simp [execOp,hop,hx,hrun,Result.andThen]
 exact hK' _ _ hK
theorem wpl_entry {x:Operand} {r:Nat} {v:Value} (hg:o.guard=none) (hop:o.op= .entry x) (hx:a.eval x= .pointer (some ⟨r,0,none⟩)) (hrun:(Instr.entry (.pointer (some ⟨r,0,none⟩))).run P w= .ok v w)
  (hK:wpListIn F n P ops Q rest (a.put o.dst v) w):wpListIn F n P ops Q (o :: rest) a w:=by
 refine wpListIn_plain hg fun K' hK'=>?_
 unfold Oper.wpIn
 refine ⟨by simp [Oper.about,hop],?_⟩
 rw [semAt_plain (by rw [hop]; intro c hc'; cases hc')]
 simp [execOp,hop,hx,hrun,Result.andThen]
 exact hK' _ _ hK
end
theorem Upd.iter {E:Env} {h:Tr O} {w:World} {n m:Nat} {ob:Obj} (g:Good E h w) (hn:E.ι n=none) (hmt:m < top):Upd E h w (E.put n w.heap.size 0 0) (h.set m none) (w.alloc ob):=by
 have hfresh:∀ m b s,E.ι m=some (b,s)→b ≠ w.heap.size:=fun m b s e hb=>by have:=g.bnd m b s e; omega
 have hle:E.le (E.put n w.heap.size 0 0):=Env.le_put hn fun m x t e hx=>absurd hx (hfresh m x t e)
 have hfz:∀ b c,E.φ b=some c→b < w.heap.size:=fun b c q=>by
  obtain ⟨⟨el,fz,e⟩,_⟩:=g.froz b c q
  exact (Array.getElem?_eq_some_iff.1 e).1
 have hs:∀ k o,(h.set m none).get k=some o→h.get k=some o:=by
  intro k o hk; rw [Tr.get_set _ _ _ hmt] at hk; split at hk
  · cases hk
  · exact hk
 have hne:∀ k,(h.set m none).get k ≠ none→k ≠ n:=by
  rintro k hk rfl
  obtain ⟨o,ho⟩:=Option.ne_none_iff_exists'.1 hk
  obtain ⟨b,s,e,_⟩:=g.rel k o (hs k o ho)
  rw [hn] at e; cases e
 refine ⟨hle,⟨fun k o hk=>?_,fun k k' b s s' hkk hk hk' e e'=>?_,fun k b s e=>?_,g.glob.mono hle,fun b c q=>⟨by rw [heap_alloc_lt (hfz b c q)]; exact (g.froz b c q).1,fun k s hk e=>?_⟩⟩,by simp,rfl,rfl,rfl,fun b hb _=>heap_alloc_lt hb,fun k b s hk e hb=>?_,fun _ _ q=>.inl q⟩
 · obtain ⟨b,s,h1,h2⟩:=g.rel k o (hs k o hk)
   exact ⟨b,s,by rw [Env.put_ne (hne k (by rw [hk]; simp))]; exact h1,orel_mono hle (hle.nm k b s h1).2 (heap_alloc_lt (g.bnd k b s h1)) h2⟩
 · rw [Env.put_ne (hne k hk.live)] at e
   rw [Env.put_ne (hne k' hk')] at e'
   exact g.inj k k' b s s' hkk (wlive_sub hs hk) (live_sub hs hk') e e'
 · by_cases a:k=n
   · subst a; rw [Env.put_same] at e; cases e; simp
   · rw [Env.put_ne a] at e; have:=g.bnd k b s e; simp; omega
 · rw [Env.put_ne (hne k hk.live)] at e
   exact (g.froz b c q).2 k s (wlive_sub hs hk) e
 · rw [Env.put_ne (hne k hk)] at e
   exact ⟨k,s,live_sub hs hk,e,wlive_sub hs⟩
theorem UpdL.weaken {n0 n1:Nat} (hn:n0 ≤ n1) {E E':Env} {h h':Tr O} {w w':World} (u:UpdL n1 E h w E' h' w'):UpdL n0 E h w E' h' w':=
 ⟨fun m b s hm=>u.le m b s (by omega),fun m hm=>u.low m (by omega),u.fz,u.good,u.size,u.tape,u.os,u.output,u.keep,u.img,u.fzn⟩
structure ItCtx (n0:Nat) (E0:Env) (h0:Tr O) (w0:World) (m mi:Nat) (kd:Option IntKind) (es left:List (D × D)) (r b:Nat) (E:Env) (h:Tr O) (w:World):Prop where
 upd:UpdL n0 E0 h0 w0 E h w
 it:ItAt E.φ kd es w r b left
 em:E.ι m=some (b,0)
 ei:E.ι mi=some (r,0)
 hr:∀ k z,h.get k ≠ none→E.ι k ≠ some (r,z)
 hb:∀ k z,h.get k ≠ none→E.ι k ≠ some (b,z)
 rlt:r < w.heap.size
 blt:b < w.heap.size
 r0:w0.heap.size ≤ r
 ne:r ≠ b
theorem ItCtx.step {n0 n1:Nat} {E0:Env} {h0:Tr O} {w0:World} {m mi:Nat} {kd:Option IntKind} {es left:List (D × D)} {r b:Nat} {E E':Env} {h h':Tr O} {w w':World} (hn:n0 ≤ n1) (hm:m < n1) (hi:mi < n1) (c:ItCtx n0 E0 h0 w0 m mi kd es left r b E h w)
  (u:UpdL n1 E h w E' h' w'):ItCtx n0 E0 h0 w0 m mi kd es left r b E' h' w' where
 upd:=c.upd.trans (u.weaken hn)
 it:=c.it.mono u.fz (u.keep r c.rlt fun k z hk=>c.hr k z hk.live) (u.keep b c.blt fun k z hk=>c.hb k z hk.live)
 em:=(u.low m hm).trans c.em
 ei:=(u.low mi hi).trans c.ei
 hr:=fun k z hk e=>by
  obtain ⟨m0,s0,q1,q2,_⟩:=u.img k r z hk e c.rlt
  exact c.hr m0 s0 q1 q2
 hb:=fun k z hk e=>by
  obtain ⟨m0,s0,q1,q2,_⟩:=u.img k b z hk e c.blt
  exact c.hb m0 s0 q1 q2
 rlt:=Nat.lt_of_lt_of_le c.rlt u.size
 blt:=Nat.lt_of_lt_of_le c.blt u.size
 r0:=c.r0
 ne:=c.ne
theorem ItCtx.touch {n0:Nat} {E0:Env} {h0:Tr O} {w0:World} {m mi:Nat} {kd:Option IntKind} {es left left':List (D × D)} {r b:Nat} {E:Env} {h:Tr O} {w w':World} (c:ItCtx n0 E0 h0 w0 m mi kd es left r b E h w) (i:ItAt E.φ kd es w' r b left')
  (h1:w'.heap.size=w.heap.size) (h2:w'.tape=w.tape) (h3:w'.os=w.os) (h4:w'.output=w.output) (h5:∀ x,x ≠ r→w'.heap[x]? =w.heap[x]?):ItCtx n0 E0 h0 w0 m mi kd es left' r b E h w':=by
 have hne:∀ k b' z,h.get k ≠ none→E.ι k=some (b',z)→b' ≠ r:=fun k b' z hk e q=>c.hr k z hk (q ▸ e)
 have g:=c.upd.good
 have hfr:∀ b' cc,E.φ b'=some cc→b' ≠ r:=by
  rintro b' cc q rfl
  obtain ⟨⟨el,fz,e⟩,_⟩:=g.froz _ cc q
  obtain ⟨seen,es',clock,k1,_⟩:=c.it.ex
  rw [k1] at e; cases e
 refine ⟨⟨c.upd.le,c.upd.low,c.upd.fz,⟨fun k o hk=>?_,g.inj,fun k b' z e=>by rw [h1]; exact g.bnd k b' z e,g.glob,fun b' cc q=>⟨by rw [h5 b' (hfr b' cc q)]; exact (g.froz b' cc q).1,(g.froz b' cc q).2⟩⟩,by rw [h1]; exact c.upd.size,h2.trans c.upd.tape,h3.trans c.upd.os,h4.trans c.upd.output,fun x hx hno=>?_,c.upd.img,c.upd.fzn⟩,i,c.em,c.ei,c.hr,c.hb,by rw [h1]; exact c.rlt,by rw [h1]; exact c.blt,c.r0,c.ne⟩
 · obtain ⟨b',z,e,q⟩:=g.rel k o hk
   exact ⟨b',z,e,orel_mono E.le_refl rfl (h5 b' (hne k b' z (by rw [hk]; simp) e)) q⟩
 · rw [h5 x (by have:=c.r0; omega)]
   exact c.upd.keep x hx hno
def putM (m:Nat) (kd:Option IntKind) (es:List (D × D)) (s:St):St:={ s with h:=s.h.set m (some (.mapD kd es)) }
theorem ItCtx.back {n0:Nat} {E0:Env} {h0:Tr O} {w0:World} {m mi:Nat} {kd:Option IntKind} {es left:List (D × D)} {r b:Nat} {E:Env} {h:Tr O} {w:World} (c:ItCtx n0 E0 h0 w0 m mi kd es left r b E h w) (hm0:wlive h0 m) (he0:E0.ι m=some (b,0)) (hmt:m < top):
  UpdL n0 E0 h0 w0 E (h.set m (some (.mapD kd es))) w:=by
 have g:=c.upd.good
 obtain ⟨seen,es',clock,k1,k2,k3,_⟩:=c.it.ex
 have hget:∀ k,(h.set m (some (O.mapD kd es))).get k=if k=m then some (.mapD kd es) else h.get k:=fun k=>Tr.get_set _ _ _ hmt
 have hwl:∀ k,k ≠ m→wlive (h.set m (some (O.mapD kd es))) k→wlive h k:=fun k hk ⟨o,q1,q2⟩=>⟨o,by rw [hget,if_neg hk] at q1; exact q1,q2⟩
 have hfr:∀ b' cc,E.φ b'=some cc→b' ≠ b:=by
  rintro b' cc q rfl
  obtain ⟨⟨el,fz,e⟩,_⟩:=g.froz _ cc q
  rw [k2] at e; cases e
 refine ⟨c.upd.le,c.upd.low,c.upd.fz,⟨fun k o hk=>?_,fun k k' b' z z' hkk hk hk' e e'=>?_,g.bnd,g.glob,fun b' cc q=>⟨(g.froz b' cc q).1,fun k z hk e=>?_⟩⟩,c.upd.size,c.upd.tape,c.upd.os,c.upd.output,c.upd.keep,fun k b' z hk e hb'=>?_,c.upd.fzn⟩
 · rw [hget] at hk
   split at hk
   · rename_i q; subst q; cases hk
     exact ⟨b,0,c.em,rfl,es',clock,k2,k3⟩
   · exact g.rel k o hk
 · by_cases q:k=m
   · subst q
     rw [c.em] at e; cases e
     have hk':h.get k' ≠ none:=by rw [hget,if_neg (Ne.symm hkk)] at hk'; exact hk'
     exact c.hb k' z' hk' e'
   · by_cases q':k'=m
     · subst q'
       rw [c.em] at e'; cases e'
       exact c.hb k z (hwl k q hk).live e
     · exact g.inj k k' b' z z' hkk (hwl k q hk) (by rw [hget,if_neg q'] at hk'; exact hk') e e'
 · by_cases q':k=m
   · subst q'
     rw [c.em] at e; cases e
     exact hfr _ cc q rfl
   · exact (g.froz b' cc q).2 k z (hwl k q' hk) e
 · by_cases q':k=m
   · subst q'
     rw [c.em] at e; cases e
     exact ⟨k,0,hm0.live,he0,fun _=>hm0⟩
   · obtain ⟨m0,s0,p1,p2,p3⟩:=c.upd.img k b' z (by rw [hget,if_neg q'] at hk; exact hk) e hb'
     exact ⟨m0,s0,p1,p2,fun x=>p3 (hwl k q' x)⟩
end Go.Eng
namespace Go.Eng
open Go Go.RowKit
def noC:CallF:=fun _ _ _ _=>none
theorem noC_ok (P:Program):CallOk P noC:=fun _ _ _ _ _ _ _ e=>by cases e
structure MapLoop where
 g0:Nat
 g1:Nat
 g2:Nat
 o0:Oper
 oR:Oper
 oN:Oper
 oX:Oper
 oE:Oper
 post:List Oper
 bl:Nat
 b1:Nat
 tok:Operand
 rest:Code
def MapLoop.code (m:MapLoop):Code:=.seq (.region m.g0 #[m.o0,m.oR] false) (.block m.bl (.loop (.seq (.region m.g1 #[m.oN,m.oX] false) (.seq (.cond m.tok .skip (.exit m.bl)) (.block m.b1 (.seq (.region m.g2 (m.oE :: m.post).toArray false) m.rest))))))
structure MapLoopOk (P:Program) (N:Nat) (c:MapLoop) (xR:Operand) (tI:Nat):Prop where
 g0:c.o0.guard=none
 gR:c.oR.guard=none
 gN:c.oN.guard=none
 gE:c.oE.guard=none
 opR:∃ ty k e,c.oR.op= .range ty xR∧P.underlying ty=some (.map k e)
 dR:c.oR.dst=some tI
 opN:c.oN.op= .next (.tmp tI) false
 opE:c.oE.op= .entry (.tmp tI)
 ok:codeOk N c.code=true
 tI:tI < top
set_option maxRecDepth 10000 in
def Ref (n0 N:Nat) (s S:St):Prop:=∀ E a w,SRel E N s a w→n0 ≤ s.n→n0 ≤ S.n∧∃ E2,SRel E2 N S a w∧UpdL n0 E s.h w E2 S.h w
theorem Ref.norm {n0 N:Nat} {L:List Nat} {s S:St} (e:normG n0 L s=some S):Ref n0 N s S:=fun _ _ _ r _=>(normG_sound e r).2
theorem Ref.trans {n0 N:Nat} {a b c:St} (h1:Ref n0 N a b) (h2:Ref n0 N b c):Ref n0 N a c:=fun E x w r hn=>by
 obtain ⟨hn2,E2,r2,u2⟩:=h1 E x w r hn
 obtain ⟨hn3,E3,r3,u3⟩:=h2 E2 x w r2 hn2
 exact ⟨hn3,E3,r3,u2.trans u3⟩
theorem Ref.mem {n0 N:Nat} {s:St} {h2:Tr O} (hg:∀ E w,Good E s.h w→Good E h2 w∧∀ m,(h2.get m ≠ none ↔ s.h.get m ≠ none)∧(wlive h2 m→wlive s.h m)):Ref n0 N s { s with h:=h2 }:=fun E a w r hn=>by
 obtain ⟨g2,k2⟩:=hg E w r.good
 exact ⟨hn,E,⟨g2,r.dom,r.fr,r.size,r.dfs⟩,⟨fun _ _ _ _ e=>⟨e,rfl⟩,fun _ _=>rfl,fun _ _ q=>q,g2,Nat.le_refl _,rfl,rfl,rfl,fun _ _ _=>rfl,fun m b s1 hm e1 _=>⟨m,s1,(k2 m).1.1 hm,e1,(k2 m).2⟩,fun _ _ q=>.inl q⟩⟩
theorem Ref.deep {n0 N:Nat} {s S:St} (l:List Nat) (e:deepS l s=some S):Ref n0 N s S:=by
 unfold deepS at e
 split at e
 case h_2=>cases e
 rename_i h2 hh
 simp only [Option.some.injEq] at e; subst e
 exact Ref.mem fun E w g=>deepO_good l s.h h2 hh g
theorem TG_mapsR {P:Program} {n0 N:Nat} {c:MapLoop} {s:St} {Q:Exit→St→Prop} {xR:Operand} {tI m:Nat} {kd:Option IntKind} {es:List (D × D)} {v0:V} {fr0 fr1:Tr V} (hm:P.follows .mixedOrders=true) (hc:MapLoopOk P N c xR tI)
  (h0:stepOp P c.o0 s.fr s.h s.n=some (.val v0 s.h s.n)) (hp0:putD s.fr c.o0.dst v0=some fr0) (hx:opd fr0 xR=some (.map (some m))) (hmm:s.h.get m=some (.mapD kd es)) (hmt:m < top) (hp1:putD fr0 c.oR.dst (.ptr (some (s.n,0)))=some fr1)
  (J:List (D × D)→St→Prop) (h1:J [] { fr:=fr1,h:=s.h.set m none,n:=s.n+1,dfs:=s.dfs })
  (hround:∀ vis left s1,J vis s1→List.Perm (vis ++ left) es→∃ S,Ref (s.n+1) N s1 S∧S.fr.get tI=some (.ptr (some (s.n,0)))∧
   (left=[]→∃ fr2 sD,putD S.fr c.oN.dst (.tup [.bool false])=some fr2∧seqOps P noC #[c.oN,c.oX] [c.oX] { S with fr:=fr2 }=some (.normal,sD)∧opd sD.fr c.tok=some (.bool false)∧Q .normal (putM m kd es sD))∧
   (∀ e left',List.Perm left (e :: left')→∃ fr2 s2 fr3 s4,putD S.fr c.oN.dst (.tup [.bool true,e.1.toV,e.2.toV])=some fr2∧seqOps P noC #[c.oN,c.oX] [c.oX] { S with fr:=fr2 }=some (.normal,s2)∧opd s2.fr c.tok=some (.bool true)∧s2.fr.get tI=some (.ptr (some (s.n,0)))∧s2.h=S.h∧s2.n=S.n∧
    putD s2.fr c.oE.dst (.tup [e.1.toV,e.2.toV])=some fr3∧seqOps P noC (c.oE :: c.post).toArray c.post { s2 with fr:=fr3 }=some (.normal,s4)∧
    TG P (s.n+1) N c.rest s4 (outOf c.b1 (andThen (J (vis ++ [e])) (outOf c.bl fun y s'=>Q y (putM m kd es s')))))):TG P n0 N c.code s Q:=by
 intro E a w K r hn k
 have hok:=hc.ok
 unfold MapLoop.code at hok
 simp only [codeOk,Bool.and_eq_true] at hok
 obtain ⟨⟨hA,_⟩,⟨hB,_⟩,_,⟨hC,_⟩,hokr⟩:=hok
 have hdst:∀ {o:Oper},(match o.dst with | some d=>decide (d < N) | none=>true)=true→dstOk N o.dst:=by
  intro o h d hd
  rw [hd] at h
  exact of_decide_eq_true h
 have hd0:dstOk N c.o0.dst:=hdst (List.all_eq_true.1 hA c.o0 (by simp))
 have hdR:dstOk N c.oR.dst:=hdst (List.all_eq_true.1 hA c.oR (by simp))
 have hdN:dstOk N c.oN.dst:=hdst (List.all_eq_true.1 hB c.oN (by simp))
 have hdX:dstOk N c.oX.dst:=hdst (List.all_eq_true.1 hB c.oX (by simp))
 have hdE0:dstOk N c.oE.dst:=hdst (List.all_eq_true.1 hC c.oE (by simp))
 have hdP:∀ o ∈ c.post,dstOk N o.dst:=fun o ho=>hdst (List.all_eq_true.1 hC o (by simp [ho]))
 have sz:∀ {E:Env} {s:St} {a:Act} {w:World} {o:Oper},SRel E N s a w→dstOk N o.dst→dstOk a.tmps.size o.dst:=by
  intro E s a w o r h; rw [r.size]; exact h
 obtain ⟨ty,kt,et,hopR,hu⟩:=hc.opR
 unfold MapLoop.code
 refine wp_seq ((wpIn_wide (n:=0)).1 (wpIn_region_list (F:=fz none) ?_))
 show wpListIn (fz none) 0 P _ _ [c.o0,c.oR] a w
 refine wpListIn_plain hc.g0 fun K' hK'=>?_
 refine wp_val r.good (r.dom _ (Nat.le_refl _)) (fun y _=>opdRel_of_frel r.good.glob r.fr y) h0 fun E1 w1 v1 q1 q2 q3 q4=>hK' _ _ ?_
 obtain rfl:E1=E:=by rcases q4 with ⟨_,h⟩ | h
                     · exact h
                     · omega
 have rf:frel E1 fr0 (a.put c.o0.dst v1):=frel_put r.fr hp0 q1 (sz r hd0)
 obtain ⟨b,e1,hxv⟩:∃ b,E1.ι m=some (b,0)∧(a.put c.o0.dst v1).eval xR= .map (some b):=by
  have:=opdRel_of_frel q2.good.glob rf xR _ hx
  obtain ⟨b,h1,h2⟩:=this
  exact ⟨b,h1,h2⟩
 obtain ⟨b',z',e2,hz,es',clock,hb,hM⟩:=q2.good.rel m _ hmm
 rw [e1] at e2
 simp only [Option.some.injEq,Prod.mk.injEq] at e2
 obtain ⟨rfl,_⟩:=e2
 refine wpl_range hc.gR hopR hu hxv hb ?_
 have u0:Upd E1 s.h w E1 s.h w1:=q2
 have hE1n:E1.ι s.n=none:=r.dom _ (Nat.le_refl _)
 have uI:=Upd.iter (ob:=.mapIter (some b) clock #[] clock) q2.good hE1n hmt
 have u1:=u0.trans uI
 have hmn:m < s.n:=by
  rcases Nat.lt_or_ge m s.n with q | q
  · exact q
  · have:=r.dom m q; rw [e1] at this; cases this
 have hblt:b < w1.heap.size:=q2.good.bnd m b 0 e1
 have hlow1:∀ k,k < s.n→(E1.put s.n w1.heap.size 0 0).ι k=E1.ι k:=fun k hk=>Env.put_ne (by omega)
 have ctx0:ItCtx n0 E1 s.h w m s.n kd es es w1.heap.size b (E1.put s.n w1.heap.size 0 0) (s.h.set m none) (w1.alloc (.mapIter (some b) clock #[] clock)):=by
  have hkn:∀ k,(s.h.set m none).get k ≠ none→s.h.get k ≠ none∧k ≠ m:=by
   intro k hk
   rw [Tr.get_set _ _ _ hmt] at hk
   split at hk
   · exact absurd rfl hk
   · rename_i z; exact ⟨hk,z⟩
  have hkι:∀ k z b',s.h.get k ≠ none→(E1.put s.n w1.heap.size 0 0).ι k=some (b',z)→E1.ι k=some (b',z):=by
   intro k z b' hk e
   by_cases q:k=s.n
   · subst q
     obtain ⟨o,ho⟩:=Option.ne_none_iff_exists'.1 hk
     obtain ⟨b2,z2,e2,_⟩:=r.good.rel _ o ho
     rw [hE1n] at e2; cases e2
   · rwa [Env.put_ne q] at e
  refine ⟨.of u1 hlow1 hn,⟨⟨#[],es',clock,heap_alloc_new,by rw [heap_alloc_lt hblt]; exact hb,hM,?_⟩⟩,by rw [hlow1 m hmn]; exact e1,Env.put_same,fun k z hk e=>?_,fun k z hk e=>?_,by simp,by simp; omega,u0.size,by omega⟩
  · obtain ⟨l,p1,p2⟩:=hM.row
    refine ⟨l,p1,?_⟩
    have:(leftOf es' #[]).toList=es'.toList:=by rw [leftOf_list]; simp
    rw [this]; exact p2
  · have:=q2.good.bnd k _ _ (hkι k z _ (hkn k hk).1 e); omega
  · obtain ⟨k1,k2⟩:=hkn k hk
    exact q2.good.inj m k b 0 z (Ne.symm k2) ⟨_,hmm,rfl⟩ k1 e1 (hkι k z _ k1 e)
 have hw0:wlive s.h m:=⟨_,hmm,rfl⟩
 have r1:SRel (E1.put s.n w1.heap.size 0 0) N { fr:=fr1,h:=s.h.set m none,n:=s.n+1,dfs:=s.dfs } ((a.put c.o0.dst v1).put c.oR.dst (.pointer (some ⟨w1.heap.size,0,none⟩))) (w1.alloc (.mapIter (some b) clock #[] clock)):=by
  refine ⟨uI.good,fun k hk=>?_,frel_put (frel_mono uI.le rf) hp1 ⟨w1.heap.size,0,Env.put_same,rfl⟩ (by rw [put_size,r.size]; exact hdR),by rw [put_size,put_size]; exact r.size,by rw [put_defers,put_defers]; exact dfrel_mono uI.le _ _ r.dfs⟩
  have hk:s.n+1 ≤ k:=hk
  rw [Env.put_ne (by omega)]
  exact r.dom k (by show s.n ≤ k; omega)
 show (Code.block _ _).wp P K _ _
 refine wp_block (wp_loop_rounds (es.length+1) ?_)
 have key:∀ (nn:Nat) (vis left:List (D × D)) (s1:St) (E:Env) (a:Act) (w2:World),left.length < nn→List.Perm (vis ++ left) es→J vis s1→s.n+1 ≤ s1.n→SRel E N s1 a w2→ItCtx n0 E1 s.h w m s.n kd es left w1.heap.size b E s1.h w2→
   Code.rounds P (.seq (.region c.g1 #[c.oN,c.oX] false) (.seq (.cond c.tok .skip (.exit c.bl)) (.block c.b1 (.seq (.region c.g2 (c.oE :: c.post).toArray false) c.rest)))) (Exit.inBlock c.bl K) nn a w2:=by
  intro nn
  induction nn with
  | zero=>intro vis left s1 E a w2 hl; omega
  | succ nn ih=>
    intro vis left s1 E a w2 hl hperm hJ hn1 r1 cx
    rw [rounds_succ]
    obtain ⟨S,hS,hfr,hdone,hstep⟩:=hround vis left s1 hJ hperm
    obtain ⟨hn2,E2,r2,u2⟩:=hS _ _ _ r1 hn1
    have cx:=cx.step (n1:=s.n+1) (by omega) (by omega) (by omega) u2
    have hev:∀ {E:Env} {S:St} {a:Act} {w:World},SRel E N S a w→E.ι s.n=some (w1.heap.size,0)→S.fr.get tI=some (.ptr (some (s.n,0)))→a.eval (.tmp tI)= .pointer (some ⟨w1.heap.size,0,none⟩):=by
     intro E S a w r e hf
     obtain ⟨x',g1,b',z',g2,g3⟩:=r.fr tI _ hf
     rw [e] at g2
     simp only [Option.some.injEq,Prod.mk.injEq] at g2
     obtain ⟨rfl,rfl⟩:=g2
     simp only [Act.eval,Array.getD_eq_getD_getElem?,g1,Option.getD_some]
     exact g3
    refine wp_seq ((wpIn_wide (n:=0)).1 (wpIn_region_list (F:=fz none) ?_))
    show wpListIn (fz none) 0 P _ _ [c.oN,c.oX] a w2
    rcases it_next (P:=P) cx.ne cx.it c.oN.type with ⟨hl0,hrun⟩ | ⟨e,left',kk,vv,w3,hp,hk,hv,hrun,hent,it',z1,z2,z3,z4,z5⟩
    · obtain ⟨fr2,sD,p1,p2,p3,p4⟩:=hdone hl0
      refine wpl_next hc.gN hc.opN (hev r2 cx.ei hfr) hrun ?_
      have r3:SRel E2 N { S with fr:=fr2 } (a.put c.oN.dst (.tuple #[.bool false])) w2:=⟨r2.good,r2.dom,frel_put r2.fr p1 ⟨[.bool false],⟨_,[],rfl,rfl,rfl⟩,rfl⟩ (sz r2 hdN),by rw [put_size]; exact r2.size,by rw [put_defers]; exact r2.dfs⟩
      refine seq_sound (rnd:=none) (noC_ok P) [c.oX] _ .normal sD (.inl rfl) (fun o ho=>by rw [List.mem_singleton] at ho; subst ho; exact hdX) p2 E2 _ w2 _ r3 ?_
      intro E' a' w' x' u hlow hn' r' hxx
      cases x' <;> first | exact hxx.elim | skip
      have hn3:s.n+1 ≤ sD.n:=Nat.le_trans hn2 hn'
      have cx2:=cx.step (n1:=s.n+1) (by omega) (by omega) (by omega) (UpdL.of u hlow hn2)
      show (Code.seq (.cond c.tok .skip (.exit c.bl)) _).wp P _ a' w'
      refine wp_seq (wp_cond_false (cond_rel r'.good.glob r'.fr p3) (wp_exit ?_))
      show Exit.inBlock c.bl K (.exit c.bl) a' w'
      simp only [Exit.inBlock,if_true]
      have ub:=cx2.back hw0 e1 hmt
      exact k .normal _ E' a' w' p4 ub (by show n0 ≤ sD.n; omega) ⟨ub.good,r'.dom,r'.fr,r'.size,r'.dfs⟩
    · obtain ⟨fr2,s2,fr3,s4,p1,p2,p3,p4,p5,p6,p7,p8,hT⟩:=hstep e left' hp
      refine wpl_next hc.gN hc.opN (hev r2 cx.ei hfr) hrun ?_
      have cx1:=cx.touch it' z1 z2 z3 z4 z5
      have r3:SRel E2 N { S with fr:=fr2 } (a.put c.oN.dst (.tuple #[.bool true,kk,vv])) w3:=
       ⟨cx1.upd.good,r2.dom,frel_put r2.fr p1 ⟨[.bool true,kk,vv],⟨_,_,rfl,⟨_,_,drel_toV _ _ hk,⟨_,[],drel_toV _ _ hv,rfl,rfl⟩,rfl⟩,rfl⟩,rfl⟩ (sz r2 hdN),by rw [put_size]; exact r2.size,by rw [put_defers]; exact r2.dfs⟩
      refine seq_sound (rnd:=none) (noC_ok P) [c.oX] _ .normal s2 (.inl rfl) (fun o ho=>by rw [List.mem_singleton] at ho; subst ho; exact hdX) p2 E2 _ w3 _ r3 ?_
      intro E3 a3 w4 x' u hlow hn' r4 hxx
      cases x' <;> first | exact hxx.elim | skip
      have cx3:=cx1.step (n1:=s.n+1) (by omega) (by omega) (by omega) (UpdL.of u hlow hn2)
      show (Code.seq (.cond c.tok .skip (.exit c.bl)) _).wp P _ a3 w4
      refine wp_seq (wp_cond_true (cond_rel r4.good.glob r4.fr p3) (wp_skip ?_))
      show (Code.block c.b1 _).wp P _ a3 w4
      refine wp_block (wp_seq ((wpIn_wide (n:=0)).1 (wpIn_region_list (F:=fz none) ?_)))
      have hh:w4.heap[w1.heap.size]? =w3.heap[w1.heap.size]?∧w4.heap[b]? =w3.heap[b]?:=
       ⟨u.keep _ cx1.rlt fun k z hk=>cx1.hr k z hk.live,u.keep _ cx1.blt fun k z hk=>cx1.hb k z hk.live⟩
      show wpListIn (fz none) 0 P _ _ (c.oE :: c.post) a3 w4
      refine wpl_entry hc.gE hc.opE (hev r4 cx3.ei p4) (hent w4 hh.1 hh.2) ?_
      have r5:SRel E3 N { s2 with fr:=fr3 } (a3.put c.oE.dst (.tuple #[kk,vv])) w4:=
       ⟨r4.good,r4.dom,frel_put r4.fr p7 ⟨[kk,vv],⟨_,_,drel_toV _ _ (drel_mono u.le.fz _ _ hk),⟨_,[],drel_toV _ _ (drel_mono u.le.fz _ _ hv),rfl,rfl⟩,rfl⟩,rfl⟩ (sz r4 hdE0),by rw [put_size]; exact r4.size,by rw [put_defers]; exact r4.dfs⟩
      refine seq_sound (rnd:=none) (noC_ok P) c.post _ .normal s4 (.inl rfl) hdP p8 E3 _ w4 _ r5 ?_
      intro E4 a4 w5 x' u4 hlow4 hn4 r6 hxx
      cases x' <;> first | exact hxx.elim | skip
      have hn3:s.n+1 ≤ s2.n:=by rw [p6]; exact hn2
      have cx4:=cx3.step (n1:=s.n+1) (by omega) (by omega) (by omega) (UpdL.of u4 hlow4 hn3)
      have hn5:s.n+1 ≤ s4.n:=Nat.le_trans hn3 hn4
      show c.rest.wp P _ a4 w5
      refine hT E4 a4 w5 _ r6 hn5 fun y s' E' a' w' q u' hn' r'=>?_
      have cx5:=cx4.step (n1:=s.n+1) (by omega) (by omega) (by omega) u'
      have ub:=cx5.back hw0 e1 hmt
      have hgo:J (vis ++ [e]) s'→Code.rounds P (.seq (.region c.g1 #[c.oN,c.oX] false) (.seq (.cond c.tok .skip (.exit c.bl)) (.block c.b1 (.seq (.region c.g2 (c.oE :: c.post).toArray false) c.rest)))) (Exit.inBlock c.bl K) nn a' w':=by
       intro hJ'
       refine ih (vis ++ [e]) left' s' E' a' w' ?_ ?_ hJ' hn' r' cx5
       · have:=hp.length_eq
         simp only [List.length_cons] at this; omega
       · refine List.Perm.trans ?_ hperm
         rw [List.append_assoc]
         exact List.Perm.append_left vis hp.symm
      have hout:∀ y,y ≠ .normal→outOf c.bl (fun y s'=>Q y (putM m kd es s')) y s'→Exit.inBlock c.bl K y a' w':=by
       intro y hy q
       have fin:∀ y,Q y (putM m kd es s')→K y a' w':=fun y q=>k y _ E' a' w' q ub (by show n0 ≤ s'.n; omega) ⟨ub.good,r'.dom,r'.fr,r'.size,r'.dfs⟩
       cases y <;> first | exact absurd rfl hy | exact fin _ q | skip
       rename_i j
       simp only [Exit.inBlock,outOf] at q ⊢
       split
       · rename_i he; rw [if_pos he] at q; exact fin _ q
       · rename_i he; rw [if_neg he] at q; exact fin _ q
      cases y with
      | normal=>exact hgo q
      | exit j=>
        simp only [outOf] at q
        by_cases he:j=c.b1
        · rw [if_pos he] at q
          have e2:Exit.inBlock c.b1 (Exit.then (Code.rounds P (.seq (.region c.g1 #[c.oN,c.oX] false) (.seq (.cond c.tok .skip (.exit c.bl)) (.block c.b1 (.seq (.region c.g2 (c.oE :: c.post).toArray false) c.rest)))) (Exit.inBlock c.bl K) nn) (Exit.inBlock c.bl K)) (.exit j) a' w':=by
           simp only [Exit.inBlock]
           rw [if_pos he]
           exact hgo q
          exact e2
        · rw [if_neg he] at q
          have e2:Exit.inBlock c.b1 (Exit.then (Code.rounds P (.seq (.region c.g1 #[c.oN,c.oX] false) (.seq (.cond c.tok .skip (.exit c.bl)) (.block c.b1 (.seq (.region c.g2 (c.oE :: c.post).toArray false) c.rest)))) (Exit.inBlock c.bl K) nn) (Exit.inBlock c.bl K)) (.exit j) a' w':=by
           simp only [Exit.inBlock]
           rw [if_neg he]
           exact hout (.exit j) (by simp) q
          exact e2
      | goto l=>exact hout (.goto l) (by simp) q
      | ret=>exact hout .ret (by simp) q
      | panic ch=>exact hout (.panic ch) (by simp) q
      | outgrown=>exact hout .outgrown (by simp) q
 exact key (es.length+1) [] es _ _ _ _ (Nat.lt_succ_self _) (.refl _) h1 (Nat.le_refl _) r1 ctx0
theorem TG_maps {P:Program} {n0 N:Nat} {c:MapLoop} {s:St} {Q:Exit→St→Prop} {xR:Operand} {tI m:Nat} {kd:Option IntKind} {es:List (D × D)} {v0:V} {fr0 fr1:Tr V} (hm:P.follows .mixedOrders=true) (hc:MapLoopOk P N c xR tI)
  (h0:stepOp P c.o0 s.fr s.h s.n=some (.val v0 s.h s.n)) (hp0:putD s.fr c.o0.dst v0=some fr0) (hx:opd fr0 xR=some (.map (some m))) (hmm:s.h.get m=some (.mapD kd es)) (hmt:m < top) (hp1:putD fr0 c.oR.dst (.ptr (some (s.n,0)))=some fr1)
  (J:List (D × D)→St→Prop) (h1:J [] { fr:=fr1,h:=s.h.set m none,n:=s.n+1,dfs:=s.dfs })
  (hround:∀ vis left s1,J vis s1→List.Perm (vis ++ left) es→∃ L S,normG (s.n+1) L s1=some S∧S.fr.get tI=some (.ptr (some (s.n,0)))∧
   (left=[]→∃ fr2 sD,putD S.fr c.oN.dst (.tup [.bool false])=some fr2∧seqOps P noC #[c.oN,c.oX] [c.oX] { S with fr:=fr2 }=some (.normal,sD)∧opd sD.fr c.tok=some (.bool false)∧Q .normal (putM m kd es sD))∧
   (∀ e left',List.Perm left (e :: left')→∃ fr2 s2 fr3 s4,putD S.fr c.oN.dst (.tup [.bool true,e.1.toV,e.2.toV])=some fr2∧seqOps P noC #[c.oN,c.oX] [c.oX] { S with fr:=fr2 }=some (.normal,s2)∧opd s2.fr c.tok=some (.bool true)∧s2.fr.get tI=some (.ptr (some (s.n,0)))∧s2.h=S.h∧s2.n=S.n∧
    putD s2.fr c.oE.dst (.tup [e.1.toV,e.2.toV])=some fr3∧seqOps P noC (c.oE :: c.post).toArray c.post { s2 with fr:=fr3 }=some (.normal,s4)∧
    TG P (s.n+1) N c.rest s4 (outOf c.b1 (andThen (J (vis ++ [e])) (outOf c.bl fun y s'=>Q y (putM m kd es s')))))):TG P n0 N c.code s Q:=
 TG_mapsR hm hc h0 hp0 hx hmm hmt hp1 J h1 fun vis left s1 hj hp=>by
  obtain ⟨L,S,hS,r⟩:=hround vis left s1 hj hp
  exact ⟨S,.norm hS,r⟩
end Go.Eng
