/- The engine, part PT: methods on a pointer to cells, at names of our own; counted loops. No conditions: lemmas alone. -/
import Derived.Test.YtfihojpgobmmdaaGreatDoorJointFifteen
set_option linter.unusedVariables false
set_option linter.unusedSimpArgs false
set_option linter.unusedSectionVars false
namespace Go.Eng
open Go Go.RowKit
mutual
theorem deep_rn {ν:Nat→Option Nat}:∀ (v:V),v.deep=true→v.rn ν=some v
 | .bool _,_=>rfl
 | .int _ _,_=>rfl
 | .str _,_=>rfl
 | .ptr none,_=>rfl
 | .ptr (some _),h=>by cases h
 | .slc none _ _ _,_=>rfl
 | .slc (some _) _ _ _,h=>by cases h
 | .map none,_=>rfl
 | .map (some _),h=>by cases h
 | .nilFn,_=>rfl
 | .nilIface,_=>rfl
 | .lst _ _ _,_=>rfl
 | .fptr _,_=>rfl
 | .fn f a c,h=>by
   simp only [V.deep,Bool.and_eq_true] at h
   obtain ⟨h1,h2,h3⟩:=h
   simp only [V.rn,deeps_rn a h2,deeps_rn c h3]
   cases f <;> first | rfl | cases h1
 | .iface t x,h=>by simp only [V.deep] at h; simp only [V.rn,deep_rn x h]
 | .agg cs,h=>by simp only [V.deep] at h; simp only [V.rn,deeps_rn cs h]
 | .tup cs,h=>by simp only [V.deep] at h; simp only [V.rn,deeps_rn cs h]
theorem deeps_rn {ν:Nat→Option Nat}:∀ (v:List V),V.deeps v=true→V.rns ν v=some v
 | [],_=>rfl
 | x :: xs,h=>by
   simp only [V.deeps,Bool.and_eq_true] at h
   simp only [V.rns,deep_rn x h.1,deeps_rn xs h.2]
end
def ptrW (sp:List V→List V→Option (List Prop × V × List V)):List V→Tr O→Nat→Option (List Prop × V × Tr O × Nat):=fun args h n=>match args with
 | .ptr (some (m,0)) :: rest=>match h.get m with
   | some (.cells cs)=>match (Nat.ble gN m && Nat.blt m top) && (V.deeps cs && V.deeps rest) with
     | true=>match sp cs rest with
       | some (A,v,cs2)=>match V.deep v && V.deeps cs2 with
         | true=>some (A,v,h.set m (some (.cells cs2)),n)
         | false=>none
       | none=>none
     | false=>none
   | _=>none
 | _=>none
def nsP (m:Nat):List (Option Nat):=(List.range gN).map some ++ [some m]
theorem nsP_get (m j:Nat):(nsP m).getD j none=if j < gN then some j else if j=gN then some m else none:=by
 unfold nsP
 rw [List.getD_eq_getElem?_getD,List.getElem?_append]
 simp only [List.length_map,List.length_range,List.getElem?_map]
 split
 · rename_i h
   simp [List.getElem?_range h]
 · rename_i h
   split
   · rename_i e; subst e; simp
   · rename_i e
     have:([some m]:List (Option Nat))[j - gN]? =none:=List.getElem?_eq_none (by simp; omega)
     rw [this]; rfl
theorem nsP_len (m:Nat):(nsP m).length=gN+1:=by simp [nsP]
theorem muOf_nodup:∀ (l:List (Option Nat)),(∀ i j k,l.getD i none=some k→l.getD j none=some k→i=j)→nodupN l=true
 | [],_=>rfl
 | none :: r,h=>by
   simp only [nodupN]
   exact muOf_nodup r fun i j k hi hj=>by have:=h (i+1) (j+1) k (by simpa using hi) (by simpa using hj); omega
 | some x :: r,h=>by
   simp only [nodupN,Bool.and_eq_true]
   refine ⟨?_,muOf_nodup r fun i j k hi hj=>by have:=h (i+1) (j+1) k (by simpa using hi) (by simpa using hj); omega⟩
   rw [Bool.not_eq_true']
   rw [List.any_eq_false]
   intro y hy
   cases y with
   | none=>simp
   | some z=>
     simp only
     intro q
     have hz:=Nat.eq_of_beq_eq_true q
     subst hz
     obtain ⟨i,hi,he⟩:=List.getElem_of_mem hy
     have:=h 0 (i+1) x (by simp) (by simp [List.getElem?_eq_getElem hi,he])
     omega
def GtOk:Prop:=(∀ p ∈ gtab,p.2 < gN)∧(∀ j,j < gN→∃ p ∈ gtab,p.2=j)∧gN < top
def hP (cs:List V):Tr O:=Tr.nil.set gN (some (.cells cs))
theorem hP_get (ht:gN < top) (cs:List V) (j:Nat):(hP cs).get j=if j=gN then some (.cells cs) else none:=by
 unfold hP
 rw [Tr.get_set _ _ _ ht]
 split <;> rfl
theorem ptr_pick (hg:GtOk) {h:Tr O} {m:Nat} {cs:List V} (hm:gN ≤ m) (hc:h.get m=some (.cells cs)) (hd:V.deeps cs=true):PickOk (nsP m) h (hP cs):=by
 obtain ⟨g1,g2,g3⟩:=hg
 refine ⟨fun p hp=>?_,?_,fun j k hj=>?_,fun j o hj=>?_⟩
 · rw [nsP_get,if_pos (g1 p hp)]
 · refine muOf_nodup _ fun i j k hi hj=>?_
   rw [nsP_get] at hi hj
   split at hi <;> split at hj
   · simp only [Option.some.injEq] at hi hj; omega
   · split at hj
     · simp only [Option.some.injEq] at hi hj; omega
     · cases hj
   · split at hi
     · simp only [Option.some.injEq] at hi hj; omega
     · cases hi
   · split at hi
     · split at hj
       · omega
       · cases hj
     · cases hi
 · rw [nsP_get] at hj
   split at hj
   · rename_i hlt
     simp only [Option.some.injEq] at hj; subst hj
     exact .inl (g2 j hlt)
   · split at hj
     · simp only [Option.some.injEq] at hj; subst hj
       exact .inr (by rw [hc]; simp)
     · cases hj
 · rw [hP_get g3] at hj
   split at hj
   · rename_i e
     simp only [Option.some.injEq] at hj; subst hj
     refine ⟨m,.cells cs,?_,hc,?_⟩
     · rw [nsP_get,if_neg (by omega),if_pos e]
     · simp only [O.rn,deeps_rn cs hd]
   · cases hj
theorem embL_skip {ν:Nat→Option Nat} {ns:List (Option Nat)} {h1 h1':Tr O}:∀ (i q:Nat) (h:Tr O),(∀ j,q ≤ j→j < q+i→h1.get j=none)→embL ν ns h1 h1' i q h=some h
 | 0,_,_,_=>rfl
 | i+1,q,h,hn=>by
   unfold embL
   rw [hn q (Nat.le_refl _) (by omega)]
   exact embL_skip i (q+1) h fun j h1 h2=>hn j (by omega) (by omega)
theorem embL_app {ν:Nat→Option Nat} {ns:List (Option Nat)} {h1 h1':Tr O}:∀ (i k q:Nat) (h h2:Tr O),embL ν ns h1 h1' i q h=some h2→embL ν ns h1 h1' (i+k) q h=embL ν ns h1 h1' k (q+i) h2
 | 0,k,q,h,h2,e=>by simp only [embL,Option.some.injEq] at e; subst e; simp
 | i+1,k,q,h,h2,e=>by
   have nxt:∀ h',embL ν ns h1 h1' i (q+1) h'=some h2→embL ν ns h1 h1' (i+k) (q+1) h'=embL ν ns h1 h1' k (q+(i+1)) h2:=fun h' e'=>by
    have:=embL_app i k (q+1) h' h2 e'
    rw [this]; congr 1; omega
   generalize embL ν ns h1 h1' k (q+(i+1)) h2=R at nxt ⊢
   rw [show i+1+k=(i+k)+1 by omega]
   unfold embL at e ⊢
   split at e
   · split at e
     · split at e
       · split at e
         · split at e
           · split at e
             · split at e
               · exact nxt _ e
               · cases e
             · cases e
           · exact nxt _ e
         · cases e
       · cases e
     · exact nxt _ e
   · exact nxt _ e
theorem ptrW_ok {P:Program} (hm:P.follows .mixedOrders=true) (hpo:progOk P=true) (hg:GtOk) {f:FuncId} {fn:Func} {code:Code} {sp:List V→List V→Option (List Prop × V × List V)} (hlt:f < P.funcs.size) (hf:P.funcs[f]? =some fn) (hb:fn.body=some code)
  (hT:∀ cs args A v cs2,sp cs args=some (A,v,cs2)→(∀ a ∈ A,a)→(Nat.ble (args.length+1) fn.ntmps && Nat.blt fn.ntmps top)=true∧TG P (gN+1) fn.ntmps code (startSt (.ptr (some (gN,0)) :: args) (hP cs) (gN+1)) (RetG P (gN+1) fn fun a b c=>a=v∧b=hP cs2∧c=gN+1)):OneW P f (ptrW sp):=by
 refine ⟨hlt,fun args h n A v h2 n2 e hA E w args' ra g hd hc=>?_⟩
 unfold ptrW at e
 split at e
 case h_2=>cases e
 rename_i m rest
 split at e
 case h_2=>cases e
 rename_i cs hcs
 split at e
 case h_2=>cases e
 rename_i hbs
 split at e
 case h_2=>cases e
 rename_i A1 v1 cs2 hsp
 split at e
 case h_2=>cases e
 rename_i hv
 simp only [Option.some.injEq,Prod.mk.injEq] at e
 obtain ⟨rfl,rfl,rfl,rfl⟩:=e
 simp only [Bool.and_eq_true] at hbs hv
 obtain ⟨⟨b1,b2⟩,b3,b4⟩:=hbs
 have b1:gN ≤ m:=Nat.le_of_ble_eq_true b1
 have b2:m < top:=Nat.le_of_ble_eq_true b2
 obtain ⟨l,hTG⟩:=hT cs rest A1 v1 cs2 hsp hA
 have hg3:=hg.2.2
 have hk:=ptr_pick hg b1 hcs b3
 have hmu:mu (nsP m) m=some gN:=by
  have hn:=nodupN_spec hk.one
  have:∀ (l:List (Option Nat)) (j0 i k:Nat),l.getD i none=some k→(∀ i',i' < i→l.getD i' none ≠ some k)→muOf l j0 k=some (j0+i):=by
   intro l
   induction l with
   | nil=>intro j0 i k h; simp at h
   | cons x l ih=>
     intro j0 i k h hne
     cases i with
     | zero=>
       have h:x=some k:=by simpa using h
       subst h
       simp only [muOf,Nat.beq_refl]; rfl
     | succ i=>
       have ih:=ih (j0+1) i k (by simpa using h) (fun i' hi=>by have:=hne (i'+1) (by omega); simpa using this)
       have h0:=hne 0 (by omega)
       have e:j0+1+i=j0+(i+1):=by omega
       cases x with
       | none=>simp only [muOf,ih,e]
       | some q=>
         have:Nat.beq q k=false:=by
          cases z:Nat.beq q k with
          | false=>rfl
          | true=>exact absurd (by simp [Nat.eq_of_beq_eq_true z]) h0
         simp only [muOf,this,ih,e]
  have h0:(nsP m).getD gN none=some m:=by rw [nsP_get,if_neg (by omega),if_pos rfl]
  have:=this (nsP m) 0 gN m h0 fun i hi q=>by have:=hn i gN m q h0; omega
  simpa using this
 have hgN:=hP_get hg3 cs
 have hgN2:=hP_get hg3 cs2
 have he:embW (nsP m) (hP cs) (v1,hP cs2,gN+1) h n=some (v1,h.set m (some (.cells cs2)),n):=by
  unfold embW
  simp only [deep_rn v1 hv.1,nsP_len,Nat.sub_self,embH,Nat.add_zero]
  have e1:embL (nuW (nsP m) (hP cs2) (gN+1) n) (nsP m) (hP cs) (hP cs2) gN 0 h=some h:=embL_skip _ _ _ fun j _ hj=>by rw [hgN,if_neg (by omega)]
  rw [embL_app gN 1 0 h h e1]
  unfold embL
  rw [Nat.zero_add,hgN gN,if_pos rfl]
  simp only [O.wr,nsP_get,if_neg (Nat.lt_irrefl gN),if_true,hgN2 gN,Nat.blt]
  rw [Nat.ble_eq_true_of_le b2]
  simp only [O.rn,deeps_rn cs2 hv.2,embL]
 refine own_calls hm hpo hf hb l hk (args1:=.ptr (some (gN,0)) :: rest) ?_ he (by rw [nsP_len]; exact hTG) ra g hd
 simp only [V.rns,V.rn,hmu,deeps_rn rest b4]
def Goes (P:Program) (n0 N:Nat) (s S:St):Prop:=∀ c Q,TG P n0 N c S Q→TG P n0 N c s Q
section
variable {P:Program} {n0 N:Nat} {s s1 S:St}
theorem Goes.refl:Goes P n0 N s s:=fun _ _ h=>h
theorem Goes.trans (h1:Goes P n0 N s s1) (h2:Goes P n0 N s1 S):Goes P n0 N s S:=fun c Q h=>h1 c Q (h2 c Q h)
theorem Goes.norm {live:List Nat} (e:normG n0 live s=some S):Goes P n0 N s S:=fun _ _ h=>TG_norm e h
theorem Goes.deep (l:List Nat) (e:deepS l s=some S):Goes P n0 N s S:=fun _ _ h=>TG_deep l e h
theorem Goes.own (l:List (Nat × IntKind)) (e:ownS l s=some S):Goes P n0 N s S:=fun _ _ h=>TG_own l e h
theorem Goes.map (l:List (Nat × Option IntKind)) (e:mapS l s=some S):Goes P n0 N s S:=fun _ _ h=>TG_map l e h
theorem Goes.frz (ms:List Nat) {A:List Prop} (e:fzS ms s=some (A,S)) (hA:∀ x ∈ A,x):Goes P n0 N s S:=fun _ _ h=>TG_frz ms e hA h
end
theorem TG_forN {P:Program} {n0 N:Nat} {c:Code} {s:St} {Q:Exit→St→Prop} (b m:Nat) (S:Nat→St) (hc:isBlock c b=true) (hl:isLoop (inner c)=true) (h0:Goes P n0 N s (S 0))
  (hb:∀ i,i < m→TG P n0 N (inner (inner c)) (S i) (andThen (fun s'=>Goes P n0 N s' (S (i+1))) (outOf b Q)))
  (he:TG P n0 N (inner (inner c)) (S m) (fun y s'=>y ≠ .normal∧outOf b Q y s')):TG P n0 N c s Q:=by
 refine TG_block hc (TG_loop_inv (fun k s=>∃ i,k=m - i∧i ≤ m∧Goes P n0 N s (S i)) hl ?_ m ⟨0,rfl,Nat.zero_le _,h0⟩)
 rintro k s1 ⟨i,hk,hi,hs1⟩
 refine hs1 _ _ ?_
 rcases Nat.lt_or_ge i m with hlt | hge
 · refine TG_mono (hb i hlt) fun y s' h=>?_
   cases y with
   | normal=>exact ⟨m - (i+1),by omega,i+1,rfl,by omega,h⟩
   | _=>exact h
 · obtain rfl:i=m:=by omega
   refine TG_mono he fun y s' h=>?_
   cases y with
   | normal=>exact absurd rfl h.1
   | _=>exact h.2
theorem TG_whileN {α:Type} {P:Program} {n0 N:Nat} {c:Code} {s:St} {Q:Exit→St→Prop} (b:Nat) (μ:α→Nat) (I:α→Prop) (S:α→St) (hc:isBlock c b=true) (hl:isLoop (inner c)=true) (x0:α) (i0:I x0) (h0:Goes P n0 N s (S x0))
  (hb:∀ x,I x→TG P n0 N (inner (inner c)) (S x) (andThen (fun s'=>∃ x',μ x' < μ x∧I x'∧Goes P n0 N s' (S x')) (outOf b Q))):TG P n0 N c s Q:=by
 refine TG_block hc (TG_loop_inv (fun k s=>∃ x,k=μ x∧I x∧Goes P n0 N s (S x)) hl ?_ (μ x0) ⟨x0,rfl,i0,h0⟩)
 rintro k s1 ⟨x,hk,hi,hs1⟩
 refine hs1 _ _ ?_
 refine TG_mono (hb x hi) fun y s' h=>?_
 cases y with
 | normal=>
   obtain ⟨x',h1,h2,h3⟩:=h
   exact ⟨μ x',by omega,x',rfl,h2,h3⟩
 | _=>exact h
theorem mem1 {α:Type} {g a:α} (h:g ∈ [a]):g=a:=List.mem_singleton.1 h
theorem mem2 {α:Type} {g a b:α} (h:g ∈ [a,b]):g=a ∨ g=b:=(List.mem_cons.1 h).imp id mem1
theorem fm {p:Prop} {l:List Prop} (h:p) (t:∀ a ∈ l,a):∀ a ∈ p :: l,a:=List.forall_mem_cons.2 ⟨h,t⟩
theorem fm1 {p:Prop} (h:p):∀ a ∈ [p],a:=fm h fun _ h=>absurd h List.not_mem_nil
def pinW (f0:FuncId) (args0:List V) (h0:Tr O) (n0:Nat) (v:V) (h1:Tr O) (n1:Nat) (S:CtrW):CtrW:=fun f args h n=>match Nat.beq f f0 with
 | true=>some ([args=args0∧h=h0∧n=n0],v,h1,n1)
 | false=>S f args h n
theorem pinW_ok {P:Program} {f0:FuncId} {args0:List V} {h0:Tr O} {n0:Nat} {v:V} {h1:Tr O} {n1:Nat} {S:CtrW} (hlt:f0 < P.funcs.size) (hc:CallIs P f0 args0 h0 n0 v h1 n1) (hS:CtrWOk P S):CtrWOk P (pinW f0 args0 h0 n0 v h1 n1 S):=by
 intro f args h n A v' h' n' e
 unfold pinW at e
 split at e
 · rename_i hb
   have hb:=Nat.eq_of_beq_eq_true hb
   subst hb
   simp only [Option.some.injEq,Prod.mk.injEq] at e
   obtain ⟨rfl,rfl,rfl,rfl⟩:=e
   refine ⟨hlt,fun hA E w args' ra g hd _=>?_⟩
   obtain ⟨rfl,rfl,rfl⟩:=hA _ (List.mem_singleton.2 rfl)
   exact hc E w args' ra g hd
 · exact hS f args h n A v' h' n' e
def toldF (P:Program) (n0:Nat) (fn:Func) (live:List Nat) (b:Nat) (p:X × St):ResG:=match p.1 with
 | .exit i=>match Nat.beq i b with
   | true=>match retG P n0 fn p.2 with
     | some (v,h,n)=>.ret v h n
     | none=>.bad
   | false=>.bad
 | _=>toldG P n0 fn live p
def runB (P:Program) (cs:CallS) (H:List (Nat × Fix)) (F n0:Nat) (fn:Func) (live:List Nat) (b:Nat) (c:Code) (s:St):Option (List V × List V × List (List (Bool × Bool) × List Prop × ResG)):=
 match codeX P cs H F c s with
 | some l=>some (samesL l,samesR l,tells (toldF P n0 fn live b) l)
 | none=>none
abbrev FinIs (P:Program) (cs:CallS) (H:List (Nat × Fix)) (F n0:Nat) (fn:Func) (live:List Nat) (b:Nat) (c:Code) (s:St) (L:List V) (G:List (List (Bool × Bool) × List Prop × ResG)):Prop:=runB P cs H F n0 fn live b c s=some (L,L,G)
theorem FinIs.of {P:Program} {cs:CallS} {H:List (Nat × Fix)} {F n0:Nat} {fn:Func} {live:List Nat} {b:Nat} {c:Code} {s:St} {G:List (List (Bool × Bool) × List Prop × ResG)} (h1:runOk P cs H F c s=true) (h2:runL P cs H F c s=runR P cs H F c s)
  (h3:tells (toldF P n0 fn live b) (orNil (codeX P cs H F c s))=G):∃ L,FinIs P cs H F n0 fn live b c s L G:=by
 obtain ⟨l,hl⟩:=Option.isSome_iff_exists.1 h1
 unfold runL runR at h2
 rw [hl] at h2 h3
 simp only [orNil] at h2 h3
 exact ⟨samesL l,by simp only [FinIs,runB,hl,h3,← h2]⟩
theorem TG_isF {P:Program} {n0 N:Nat} {c:Code} {s:St} {Q:Exit→St→Prop} {H:List (Nat × Fix)} {F:Nat} {fn:Func} {live:List Nat} {L:List V} {G:List (List (Bool × Bool) × List Prop × ResG)} (b:Nat) (X':CX P) (hm:P.follows .mixedOrders=true) (R:V→Tr O→Nat→Prop) (hc:codeOk N c=true) (hr:FinIs P X'.cs H F n0 fn live b c s L G)
  (hQ:∀ s',RetG P n0 fn R .normal s'→Q (.exit b) s') (h:∀ g ∈ G,(∀ b ∈ g.1,b.1=b.2)→(∀ a ∈ g.2.1,a)∧g.2.2.post P n0 fn live R Q):TG P n0 N c s Q:=by
 unfold FinIs runB at hr
 cases hl:codeX P X'.cs H F c s with
 | none=>rw [hl] at hr; cases hr
 | some l=>
   rw [hl] at hr
   simp only [Option.some.injEq,Prod.mk.injEq] at hr
   obtain ⟨e1,e2,e3⟩:=hr
   refine TG_sym (X':=X') hm hc hl fun p hp ho=>?_
   have hg:=h (p.1.conds,p.1.asr,toldF P n0 fn live b p.2) (e3 ▸ tells_mem hp) ho
   refine ⟨⟨same_ok l (e1.trans e2.symm) p hp,hg.1⟩,?_⟩
   obtain ⟨pp,x,s'⟩:=p
   have hpost:=hg.2
   simp only [toldF] at hpost
   cases x with
   | normal=>
     simp only [toldG] at hpost
     split at hpost
     · rename_i s2 hs2; exact ⟨.normal,rfl,hpost s' hs2⟩
     · exact hpost.elim
   | exit i=>
     simp only at hpost
     split at hpost
     · rename_i hb
       have hb:=Nat.eq_of_beq_eq_true hb
       subst hb
       split at hpost
       · rename_i v h n hr; exact ⟨.exit i,rfl,hQ s' ⟨.inl rfl,v,h,n,hr,hpost.1⟩⟩
       · exact hpost.elim
     · exact hpost.elim
   | ret=>
     simp only [toldG] at hpost
     split at hpost
     · rename_i v h n hr; exact ⟨.ret,rfl,hpost.2 s' ⟨.inr rfl,v,h,n,hr,hpost.1⟩⟩
     · exact hpost.elim
   | panic _=>exact hpost.elim
theorem wlive_ext {h h0:Tr O} (hh:∀ k,h.get k=h0.get k) (m:Nat):wlive h m ↔ wlive h0 m:=by unfold wlive; rw [hh m]
theorem CallIs.ext {P:Program} {f:FuncId} {args:List V} {h h0 h1 h2:Tr O} {n n1:Nat} {v:V} (hh:∀ k,h.get k=h0.get k) (hk:∀ k,h1.get k=h2.get k) (c:CallIs P f args h0 n v h2 n1):CallIs P f args h n v h1 n1:=by
 intro E w args' ra g hd
 refine (c E w args' ra (g.ext fun k=>(hh k).symm) hd).mono fun e w' ⟨E',u,q1,q2,q3,q4⟩=>⟨E',?_,q1,q2,q3,q4⟩
 have u:=u.ext hk
 have hw:=wlive_ext hh
 exact ⟨u.le,u.good,u.size,u.tape,u.os,u.output,fun b hb hm=>u.keep b hb fun m s h=>hm m s ((hw m).2 h),fun m b s h1 h2 h3=>by
  obtain ⟨m0,s0,a1,a2,a3⟩:=u.img m b s h1 h2 h3
  exact ⟨m0,s0,by rw [hh]; exact a1,a2,fun h=>(hw m0).2 (a3 h)⟩,fun b c h=>by
  rcases u.fzn b c h with h | h | ⟨m,s,h1,h2⟩
  · exact .inl h
  · exact .inr (.inl h)
  · exact .inr (.inr ⟨m,s,(hw m).2 h1,h2⟩)⟩
theorem hL_none {l:List (Nat × O)} {N k:Nat} (hl:∀ p ∈ l,p.1 < N) (hN:N ≤ top) (hk:N ≤ k):(hL l).get k=none:=by
 cases e:(hL l).get k with
 | none=>rfl
 | some o=>
   rcases hLi_get l .nil k o (fun p hp=>Nat.lt_of_lt_of_le (hl p hp) hN) e with h | h
   · cases h
   · have:=hl _ h
     simp only at this; omega
theorem get_two {l l0:List (Nat × O)} {a b N:Nat} (hl:(l.all fun p=>Nat.blt p.1 N)=true) (hl0:(l0.all fun p=>Nat.blt p.1 N)=true) (hN:N ≤ top) (ha:a < N) (hb:b < N) (hk:∀ k,k < N→(((hL l).set a none).set b none).get k=(hL l0).get k):∀ k,(((hL l).set a none).set b none).get k=(hL l0).get k:=by
 have e:∀ {l:List (Nat × O)},(l.all fun p=>Nat.blt p.1 N)=true→∀ p ∈ l,p.1 < N:=fun h p hp=>Nat.le_of_ble_eq_true (List.all_eq_true.1 h p hp)
 intro k
 rcases Nat.lt_or_ge k N with h | h
 · exact hk k h
 · rw [hL_none (e hl0) hN h,Tr.get_set _ _ _ (by omega),if_neg (by omega),Tr.get_set _ _ _ (by omega),if_neg (by omega),hL_none (e hl) hN h]
end Go.Eng
