/- The engine, part MB: calls, one of which is known at its arguments and memory. No conditions: lemmas alone. -/
import Derived.Test.YtmjggdmekboefaaGreatDoorJointFive
import Derived.Maps.RangeRun
set_option linter.unusedVariables false
set_option linter.unusedSimpArgs false
set_option linter.unusedSectionVars false
namespace Go.Eng
open Go Go.RowKit
abbrev pinT (a:List V) (h:Tr O) (n:Nat):Prop:=a=a∧h=h∧n=n
def CallIs (P:Program) (f:FuncId) (args:List V) (h:Tr O) (n:Nat) (v:V) (h1:Tr O) (n1:Nat):Prop:=∀ E w args',vrels E args args'→Good E h w→Dom E n→Calls P f args'.toArray w (CPost E h n w (.ret v) h1 n1)
theorem hLi_get:∀ (l:List (Nat × O)) (t:Tr O) (j:Nat) (o:O),(∀ p ∈ l,p.1 < top)→(hL.go t l).get j=some o→t.get j=some o ∨ (j,o) ∈ l
 | [],t,j,o,_,h=>.inl h
 | (k,v) :: l,t,j,o,hl,h=>by
   rcases hLi_get l _ j o (fun q hq=>hl q (by simp [hq])) h with q | q
   · rw [Tr.get_set _ _ _ (hl (k,v) (by simp))] at q
     split at q
     · rename_i z
       simp only [Option.some.injEq] at q
       subst z; subst q
       exact .inr (by simp)
     · exact .inl q
   · exact .inr (by simp [q])
end Go.Eng
namespace Go.Eng
open Go Go.RowKit
open Go.ChangeMaps (setBlock)
structure ItAt (φ:Nat→Option (Array Value)) (kd:Option IntKind) (es:List (D × D)) (w:World) (r b:Nat) (left:List (D × D)):Prop where
 ex:∃ seen es' clock,w.heap[r]? =some (.mapIter (some b) clock seen clock)∧w.heap[b]? =some (.map es' clock)∧MapRel φ kd es es'.toList clock∧∃ l,List.Perm l left∧mrels φ l (leftOf es' seen).toList
theorem ItAt.mono {φ φ':Nat→Option (Array Value)} {kd:Option IntKind} {es left:List (D × D)} {w w':World} {r b:Nat} (hφ:∀ b c,φ b=some c→φ' b=some c) (hr:w'.heap[r]? =w.heap[r]?) (hb:w'.heap[b]? =w.heap[b]?) (i:ItAt φ kd es w r b left):ItAt φ' kd es w' r b left:=by
 obtain ⟨seen,es',clock,h1,h2,h3,l,h4,h5⟩:=i.ex
 exact ⟨seen,es',clock,hr.trans h1,hb.trans h2,h3.mono hφ,l,h4,mrels_mono hφ _ _ h5⟩
end Go.Eng
namespace Go.Eng
open Go Go.RowKit
open Go.ChangeMaps (setBlock)
section
variable {P:Program} {F:Fence} {n:Nat} {ops:Array Oper} {Q:Exit→Act→World→Prop} {a:Act} {w:World} {rest:List Oper} {o:Oper}
end
theorem UpdL.weaken {n0 n1:Nat} (hn:n0 ≤ n1) {E E':Env} {h h':Tr O} {w w':World} (u:UpdL n1 E h w E' h' w'):UpdL n0 E h w E' h' w':=
 ⟨fun m b s hm=>u.le m b s (by omega),fun m hm=>u.low m (by omega),u.fz,u.good,u.size,u.tape,u.os,u.output,u.keep,u.img,u.fzn⟩
structure ItCtx (n0:Nat) (E0:Env) (h0:Tr O) (w0:World) (m mi:Nat) (kd:Option IntKind) (es left:List (D × D)) (r b:Nat) (E:Env) (h:Tr O) (w:World):Prop where
 upd:UpdL n0 E0 h0 w0 E h w
 it:ItAt E.φ kd es w r b left
 em:E.ι m=some (b,0)
 ei:E.ι mi=some (r,0)
 hr:∀ k z,h.get k ≠ none→E.ι k ≠ some (r,z)
 hb:∀ k z,h.get k ≠ none→E.ι k ≠ some (b,z)
 rlt:r < w.heap.size
 blt:b < w.heap.size
 r0:w0.heap.size ≤ r
 ne:r ≠ b
theorem ItCtx.step {n0 n1:Nat} {E0:Env} {h0:Tr O} {w0:World} {m mi:Nat} {kd:Option IntKind} {es left:List (D × D)} {r b:Nat} {E E':Env} {h h':Tr O} {w w':World} (hn:n0 ≤ n1) (hm:m < n1) (hi:mi < n1) (c:ItCtx n0 E0 h0 w0 m mi kd es left r b E h w)
  (u:UpdL n1 E h w E' h' w'):ItCtx n0 E0 h0 w0 m mi kd es left r b E' h' w' where
 upd:=c.upd.trans (u.weaken hn)
 it:=c.it.mono u.fz (u.keep r c.rlt fun k z hk=>c.hr k z hk.live) (u.keep b c.blt fun k z hk=>c.hb k z hk.live)
 em:=(u.low m hm).trans c.em
 ei:=(u.low mi hi).trans c.ei
 hr:=fun k z hk e=>by
  obtain ⟨m0,s0,q1,q2,_⟩:=u.img k r z hk e c.rlt
  exact c.hr m0 s0 q1 q2
 hb:=fun k z hk e=>by
  obtain ⟨m0,s0,q1,q2,_⟩:=u.img k b z hk e c.blt
  exact c.hb m0 s0 q1 q2
 rlt:=Nat.lt_of_lt_of_le c.rlt u.size
 blt:=Nat.lt_of_lt_of_le c.blt u.size
 r0:=c.r0
 ne:=c.ne
theorem ItCtx.back {n0:Nat} {E0:Env} {h0:Tr O} {w0:World} {m mi:Nat} {kd:Option IntKind} {es left:List (D × D)} {r b:Nat} {E:Env} {h:Tr O} {w:World} (c:ItCtx n0 E0 h0 w0 m mi kd es left r b E h w) (hm0:wlive h0 m) (he0:E0.ι m=some (b,0)) (hmt:m < top):
  UpdL n0 E0 h0 w0 E (h.set m (some (.mapD kd es))) w:=by
 have g:=c.upd.good
 obtain ⟨seen,es',clock,k1,k2,k3,_⟩:=c.it.ex
 have hget:∀ k,(h.set m (some (O.mapD kd es))).get k=if k=m then some (.mapD kd es) else h.get k:=fun k=>Tr.get_set _ _ _ hmt
 have hwl:∀ k,k ≠ m→wlive (h.set m (some (O.mapD kd es))) k→wlive h k:=fun k hk ⟨o,q1,q2⟩=>⟨o,by rw [hget,if_neg hk] at q1; exact q1,q2⟩
 have hfr:∀ b' cc,E.φ b'=some cc→b' ≠ b:=by
  rintro b' cc q rfl
  obtain ⟨⟨el,fz,e⟩,_⟩:=g.froz _ cc q
  rw [k2] at e; cases e
 refine ⟨c.upd.le,c.upd.low,c.upd.fz,⟨fun k o hk=>?_,fun k k' b' z z' hkk hk hk' e e'=>?_,g.bnd,g.glob,fun b' cc q=>⟨(g.froz b' cc q).1,fun k z hk e=>?_⟩⟩,c.upd.size,c.upd.tape,c.upd.os,c.upd.output,c.upd.keep,fun k b' z hk e hb'=>?_,c.upd.fzn⟩
 · rw [hget] at hk
   split at hk
   · rename_i q; subst q; cases hk
     exact ⟨b,0,c.em,rfl,es',clock,k2,k3⟩
   · exact g.rel k o hk
 · by_cases q:k=m
   · subst q
     rw [c.em] at e; cases e
     have hk':h.get k' ≠ none:=by rw [hget,if_neg (Ne.symm hkk)] at hk'; exact hk'
     exact c.hb k' z' hk' e'
   · by_cases q':k'=m
     · subst q'
       rw [c.em] at e'; cases e'
       exact c.hb k z (hwl k q hk).live e
     · exact g.inj k k' b' z z' hkk (hwl k q hk) (by rw [hget,if_neg q'] at hk'; exact hk') e e'
 · by_cases q':k=m
   · subst q'
     rw [c.em] at e; cases e
     exact hfr _ cc q rfl
   · exact (g.froz b' cc q).2 k z (hwl k q' hk) e
 · by_cases q':k=m
   · subst q'
     rw [c.em] at e; cases e
     exact ⟨k,0,hm0.live,he0,fun _=>hm0⟩
   · obtain ⟨m0,s0,p1,p2,p3⟩:=c.upd.img k b' z (by rw [hget,if_neg q'] at hk; exact hk) e hb'
     exact ⟨m0,s0,p1,p2,fun x=>p3 (hwl k q' x)⟩
end Go.Eng
namespace Go.Eng
open Go Go.RowKit
structure MapLoop where
 g0:Nat
 g1:Nat
 g2:Nat
 o0:Oper
 oR:Oper
 oN:Oper
 oX:Oper
 oE:Oper
 post:List Oper
 bl:Nat
 b1:Nat
 tok:Operand
 rest:Code
def MapLoop.code (m:MapLoop):Code:=.seq (.region m.g0 #[m.o0,m.oR] false) (.block m.bl (.loop (.seq (.region m.g1 #[m.oN,m.oX] false) (.seq (.cond m.tok .skip (.exit m.bl)) (.block m.b1 (.seq (.region m.g2 (m.oE :: m.post).toArray false) m.rest))))))
structure MapLoopOk (P:Program) (N:Nat) (c:MapLoop) (xR:Operand) (tI:Nat):Prop where
 g0:c.o0.guard=none
 gR:c.oR.guard=none
 gN:c.oN.guard=none
 gE:c.oE.guard=none
 opR:∃ ty k e,c.oR.op= .range ty xR∧P.underlying ty=some (.map k e)
 dR:c.oR.dst=some tI
 opN:c.oN.op= .next (.tmp tI) false
 opE:c.oE.op= .entry (.tmp tI)
 ok:codeOk N c.code=true
 tI:tI < top
set_option maxRecDepth 10000 in
def Ref (n0 N:Nat) (s S:St):Prop:=∀ E a w,SRel E N s a w→n0 ≤ s.n→n0 ≤ S.n∧∃ E2,SRel E2 N S a w∧UpdL n0 E s.h w E2 S.h w
theorem Ref.norm {n0 N:Nat} {L:List Nat} {s S:St} (e:normG n0 L s=some S):Ref n0 N s S:=fun _ _ _ r _=>(normG_sound e r).2
theorem Ref.trans {n0 N:Nat} {a b c:St} (h1:Ref n0 N a b) (h2:Ref n0 N b c):Ref n0 N a c:=fun E x w r hn=>by
 obtain ⟨hn2,E2,r2,u2⟩:=h1 E x w r hn
 obtain ⟨hn3,E3,r3,u3⟩:=h2 E2 x w r2 hn2
 exact ⟨hn3,E3,r3,u2.trans u3⟩
theorem Ref.mem {n0 N:Nat} {s:St} {h2:Tr O} (hg:∀ E w,Good E s.h w→Good E h2 w∧∀ m,(h2.get m ≠ none ↔ s.h.get m ≠ none)∧(wlive h2 m→wlive s.h m)):Ref n0 N s { s with h:=h2 }:=fun E a w r hn=>by
 obtain ⟨g2,k2⟩:=hg E w r.good
 exact ⟨hn,E,⟨g2,r.dom,r.fr,r.size,r.dfs⟩,⟨fun _ _ _ _ e=>⟨e,rfl⟩,fun _ _=>rfl,fun _ _ q=>q,g2,Nat.le_refl _,rfl,rfl,rfl,fun _ _ _=>rfl,fun m b s1 hm e1 _=>⟨m,s1,(k2 m).1.1 hm,e1,(k2 m).2⟩,fun _ _ q=>.inl q⟩⟩
theorem Ref.deep {n0 N:Nat} {s S:St} (l:List Nat) (e:deepS l s=some S):Ref n0 N s S:=by
 unfold deepS at e
 split at e
 case h_2=>cases e
 rename_i h2 hh
 simp only [Option.some.injEq] at e; subst e
 exact Ref.mem fun E w g=>deepO_good l s.h h2 hh g
end Go.Eng
namespace Go.Eng
open Go Go.RowKit
def CallsOne (P:Program) (f:FuncId) (args:List V) (h:Tr O) (n:Nat) (R:V→Tr O→Nat→Prop):Prop:=
 ∀ E w args',vrels E args args'→Good E h w→Dom E n→Calls P f args'.toArray w fun e w'=>∃ v h' n',R v h' n'∧CPost E h n w (.ret v) h' n' e w'
theorem CallIs.one {P:Program} {f:FuncId} {args:List V} {h:Tr O} {n:Nat} {v:V} {h1:Tr O} {n1:Nat} (c:CallIs P f args h n v h1 n1):CallsOne P f args h n fun a b d=>a=v∧b=h1∧d=n1:=
 fun E w args' ra g hd=>(c E w args' ra g hd).mono fun _ _ q=>⟨_,_,_,⟨rfl,rfl,rfl⟩,q⟩
theorem CallsOne.mono {P:Program} {f:FuncId} {args:List V} {h:Tr O} {n:Nat} {R R':V→Tr O→Nat→Prop} (c:CallsOne P f args h n R) (hr:∀ v h n,R v h n→R' v h n):CallsOne P f args h n R':=
 fun E w args' ra g hd=>(c E w args' ra g hd).mono fun _ _ ⟨v,h',n',r,q⟩=>⟨v,h',n',hr _ _ _ r,q⟩
theorem CallsOne.is {P:Program} {f:FuncId} {args:List V} {h:Tr O} {n:Nat} {v:V} {h1:Tr O} {n1:Nat} (c:CallsOne P f args h n fun a b d=>a=v∧b=h1∧d=n1):CallIs P f args h n v h1 n1:=
 fun E w args' ra g hd=>(c E w args' ra g hd).mono fun _ _ ⟨_,_,_,⟨e1,e2,e3⟩,q⟩=>by subst e1 e2 e3; exact q
end Go.Eng
namespace Go.Eng
open Go Go.RowKit
end Go.Eng
namespace Go.Eng
open Go Go.RowKit
end Go.Eng
namespace Go.Eng
open Go Go.RowKit
theorem CallsOne.frz {P:Program} {f:FuncId} {args args2:List V} {h h2:Tr O} {n:Nat} {ms:List Nat} {A:List Prop} {R:V→Tr O→Nat→Prop}
  (hl:(Nat.beq args.length args2.length && Nat.blt args.length top)=true) (e:fzS ms (startSt args h n)=some (A,startSt args2 h2 n)) (hA:∀ a ∈ A,a) (c:CallsOne P f args2 h2 n R):CallsOne P f args h n R:=by
 intro E w args' ra g hd
 simp only [Bool.and_eq_true] at hl
 have hlen:args.length=args2.length:=Nat.eq_of_beq_eq_true hl.1
 have hlt:args.length < top:=Nat.le_of_ble_eq_true hl.2
 obtain ⟨hfr,hsz⟩:=frel_enter (n:=args.length) ra (Nat.le_refl _) hlt
 have r:SRel E args.length (startSt args h n) { tmps:=args'.toArray ++ Array.replicate (args.length - args'.toArray.size) undef,defers:=[] } w:=⟨g,hd,hfr,hsz,rfl⟩
 obtain ⟨E2,r2,u,_,hι⟩:=fzS_sound (n0:=n) e hA r (Nat.le_refl _)
 have hsz':args'.length=args.length:=vrels_length ra
 have ra2:vrels E2 args2 args':=by
  refine vrels_of_get (by omega) fun i v hv=>?_
  have hi:i < args2.length:=(List.getElem?_eq_some_iff.1 hv).1
  have hg:(startSt args2 h2 n).fr.get i=some v:=by
   show (frameOf args2 0 .nil).get i=some v
   rw [frameOf_get args2 0 .nil i (by omega)]
   rw [if_pos (by omega)]
   simpa using hv
  obtain ⟨v',k1,k2⟩:=r2.fr i v hg
  refine ⟨v',?_,k2⟩
  rw [Array.getElem?_append_left (by simp; omega)] at k1
  simpa using k1
 refine (c E2 w args' ra2 r2.good r2.dom).mono fun en w' ⟨v,h',n',hR,E3,u3,hlow,hd3,hn3,ho⟩=>⟨v,h',n',hR,E3,?_,fun m hm=>(hlow m hm).trans (hι m),hd3,hn3,ho⟩
 exact (u.trans (UpdL.of u3 hlow (Nat.le_refl _))).upd hd
theorem CallIs.frz {P:Program} {f:FuncId} {args args2:List V} {h h2:Tr O} {n:Nat} {ms:List Nat} {A:List Prop} {v:V} {h1:Tr O} {n1:Nat}
  (hl:(Nat.beq args.length args2.length && Nat.blt args.length top)=true) (e:fzS ms (startSt args h n)=some (A,startSt args2 h2 n)) (hA:∀ a ∈ A,a) (c:CallIs P f args2 h2 n v h1 n1):CallIs P f args h n v h1 n1:=
 CallsOne.is (c.one.frz hl e hA)
end Go.Eng
namespace Go.Eng
open Go Go.RowKit
mutual
theorem deep_rn {ν:Nat→Option Nat}:∀ (v:V),v.deep=true→v.rn ν=some v
 | .bool _,_=>rfl
 | .int _ _,_=>rfl
 | .str _,_=>rfl
 | .ptr none,_=>rfl
 | .ptr (some _),h=>by cases h
 | .slc none _ _ _,_=>rfl
 | .slc (some _) _ _ _,h=>by cases h
 | .map none,_=>rfl
 | .map (some _),h=>by cases h
 | .nilFn,_=>rfl
 | .nilIface,_=>rfl
 | .lst _ _ _,_=>rfl
 | .fptr _,_=>rfl
 | .fn f a c,h=>by
   simp only [V.deep,Bool.and_eq_true] at h
   obtain ⟨h1,h2,h3⟩:=h
   simp only [V.rn,deeps_rn a h2,deeps_rn c h3]
   cases f <;> first | rfl | cases h1
 | .iface t x,h=>by simp only [V.deep] at h; simp only [V.rn,deep_rn x h]
 | .agg cs,h=>by simp only [V.deep] at h; simp only [V.rn,deeps_rn cs h]
 | .tup cs,h=>by simp only [V.deep] at h; simp only [V.rn,deeps_rn cs h]
theorem deeps_rn {ν:Nat→Option Nat}:∀ (v:List V),V.deeps v=true→V.rns ν v=some v
 | [],_=>rfl
 | x :: xs,h=>by
   simp only [V.deeps,Bool.and_eq_true] at h
   simp only [V.rns,deep_rn x h.1,deeps_rn xs h.2]
end
def ptrW (sp:List V→List V→Option (List Prop × V × List V)):List V→Tr O→Nat→Option (List Prop × V × Tr O × Nat):=fun args h n=>match args with
 | .ptr (some (m,0)) :: rest=>match h.get m with
   | some (.cells cs)=>match (Nat.ble gN m && Nat.blt m top) && (V.deeps cs && V.deeps rest) with
     | true=>match sp cs rest with
       | some (A,v,cs2)=>match V.deep v && V.deeps cs2 with
         | true=>some (A,v,h.set m (some (.cells cs2)),n)
         | false=>none
       | none=>none
     | false=>none
   | _=>none
 | _=>none
def nsP (m:Nat):List (Option Nat):=(List.range gN).map some ++ [some m]
theorem nsP_get (m j:Nat):(nsP m).getD j none=if j < gN then some j else if j=gN then some m else none:=by
 unfold nsP
 rw [List.getD_eq_getElem?_getD,List.getElem?_append]
 simp only [List.length_map,List.length_range,List.getElem?_map]
 split
 · rename_i h
   simp [List.getElem?_range h]
 · rename_i h
   split
   · rename_i e; subst e; simp
   · rename_i e
     have:([some m]:List (Option Nat))[j - gN]? =none:=List.getElem?_eq_none (by simp; omega)
     rw [this]; rfl
theorem nsP_len (m:Nat):(nsP m).length=gN+1:=by simp [nsP]
theorem muOf_nodup:∀ (l:List (Option Nat)),(∀ i j k,l.getD i none=some k→l.getD j none=some k→i=j)→nodupN l=true
 | [],_=>rfl
 | none :: r,h=>by
   simp only [nodupN]
   exact muOf_nodup r fun i j k hi hj=>by have:=h (i+1) (j+1) k (by simpa using hi) (by simpa using hj); omega
 | some x :: r,h=>by
   simp only [nodupN,Bool.and_eq_true]
   refine ⟨?_,muOf_nodup r fun i j k hi hj=>by have:=h (i+1) (j+1) k (by simpa using hi) (by simpa using hj); omega⟩
   rw [Bool.not_eq_true']
   rw [List.any_eq_false]
   intro y hy
   cases y with
   | none=>simp
   | some z=>
     simp only
     intro q
     have hz:=Nat.eq_of_beq_eq_true q
     subst hz
     obtain ⟨i,hi,he⟩:=List.getElem_of_mem hy
     have:=h 0 (i+1) x (by simp) (by simp [List.getElem?_eq_getElem hi,he])
     omega
def GtOk:Prop:=(∀ p ∈ gtab,p.2 < gN)∧(∀ j,j < gN→∃ p ∈ gtab,p.2=j)∧gN < top
def hP (cs:List V):Tr O:=Tr.nil.set gN (some (.cells cs))
theorem hP_get (ht:gN < top) (cs:List V) (j:Nat):(hP cs).get j=if j=gN then some (.cells cs) else none:=by
 unfold hP
 rw [Tr.get_set _ _ _ ht]
 split <;> rfl
theorem ptr_pick (hg:GtOk) {h:Tr O} {m:Nat} {cs:List V} (hm:gN ≤ m) (hc:h.get m=some (.cells cs)) (hd:V.deeps cs=true):PickOk (nsP m) h (hP cs):=by
 obtain ⟨g1,g2,g3⟩:=hg
 refine ⟨fun p hp=>?_,?_,fun j k hj=>?_,fun j o hj=>?_⟩
 · rw [nsP_get,if_pos (g1 p hp)]
 · refine muOf_nodup _ fun i j k hi hj=>?_
   rw [nsP_get] at hi hj
   split at hi <;> split at hj
   · simp only [Option.some.injEq] at hi hj; omega
   · split at hj
     · simp only [Option.some.injEq] at hi hj; omega
     · cases hj
   · split at hi
     · simp only [Option.some.injEq] at hi hj; omega
     · cases hi
   · split at hi
     · split at hj
       · omega
       · cases hj
     · cases hi
 · rw [nsP_get] at hj
   split at hj
   · rename_i hlt
     simp only [Option.some.injEq] at hj; subst hj
     exact .inl (g2 j hlt)
   · split at hj
     · simp only [Option.some.injEq] at hj; subst hj
       exact .inr (by rw [hc]; simp)
     · cases hj
 · rw [hP_get g3] at hj
   split at hj
   · rename_i e
     simp only [Option.some.injEq] at hj; subst hj
     refine ⟨m,.cells cs,?_,hc,?_⟩
     · rw [nsP_get,if_neg (by omega),if_pos e]
     · simp only [O.rn,deeps_rn cs hd]
   · cases hj
theorem embL_skip {ν:Nat→Option Nat} {ns:List (Option Nat)} {h1 h1':Tr O}:∀ (i q:Nat) (h:Tr O),(∀ j,q ≤ j→j < q+i→h1.get j=none)→embL ν ns h1 h1' i q h=some h
 | 0,_,_,_=>rfl
 | i+1,q,h,hn=>by
   unfold embL
   rw [hn q (Nat.le_refl _) (by omega)]
   exact embL_skip i (q+1) h fun j h1 h2=>hn j (by omega) (by omega)
theorem embL_app {ν:Nat→Option Nat} {ns:List (Option Nat)} {h1 h1':Tr O}:∀ (i k q:Nat) (h h2:Tr O),embL ν ns h1 h1' i q h=some h2→embL ν ns h1 h1' (i+k) q h=embL ν ns h1 h1' k (q+i) h2
 | 0,k,q,h,h2,e=>by simp only [embL,Option.some.injEq] at e; subst e; simp
 | i+1,k,q,h,h2,e=>by
   have nxt:∀ h',embL ν ns h1 h1' i (q+1) h'=some h2→embL ν ns h1 h1' (i+k) (q+1) h'=embL ν ns h1 h1' k (q+(i+1)) h2:=fun h' e'=>by
    have:=embL_app i k (q+1) h' h2 e'
    rw [this]; congr 1; omega
   generalize embL ν ns h1 h1' k (q+(i+1)) h2=R at nxt ⊢
   rw [show i+1+k=(i+k)+1 by omega]
   unfold embL at e ⊢
   split at e
   · split at e
     · split at e
       · split at e
         · split at e
           · split at e
             · split at e
               · exact nxt _ e
               · cases e
             · cases e
           · exact nxt _ e
         · cases e
       · cases e
     · exact nxt _ e
   · exact nxt _ e
theorem ptrW_ok {P:Program} (hm:P.follows .mixedOrders=true) (hpo:progOk P=true) (hg:GtOk) {f:FuncId} {fn:Func} {code:Code} {sp:List V→List V→Option (List Prop × V × List V)} (hlt:f < P.funcs.size) (hf:P.funcs[f]? =some fn) (hb:fn.body=some code)
  (hT:∀ cs args A v cs2,sp cs args=some (A,v,cs2)→(∀ a ∈ A,a)→(Nat.ble (args.length+1) fn.ntmps && Nat.blt fn.ntmps top)=true∧TG P (gN+1) fn.ntmps code (startSt (.ptr (some (gN,0)) :: args) (hP cs) (gN+1)) (RetG P (gN+1) fn fun a b c=>a=v∧b=hP cs2∧c=gN+1)):OneW P f (ptrW sp):=by
 refine ⟨hlt,fun args h n A v h2 n2 e hA E w args' ra g hd hc=>?_⟩
 unfold ptrW at e
 split at e
 case h_2=>cases e
 rename_i m rest
 split at e
 case h_2=>cases e
 rename_i cs hcs
 split at e
 case h_2=>cases e
 rename_i hbs
 split at e
 case h_2=>cases e
 rename_i A1 v1 cs2 hsp
 split at e
 case h_2=>cases e
 rename_i hv
 simp only [Option.some.injEq,Prod.mk.injEq] at e
 obtain ⟨rfl,rfl,rfl,rfl⟩:=e
 simp only [Bool.and_eq_true] at hbs hv
 obtain ⟨⟨b1,b2⟩,b3,b4⟩:=hbs
 have b1:gN ≤ m:=Nat.le_of_ble_eq_true b1
 have b2:m < top:=Nat.le_of_ble_eq_true b2
 obtain ⟨l,hTG⟩:=hT cs rest A1 v1 cs2 hsp hA
 have hg3:=hg.2.2
 have hk:=ptr_pick hg b1 hcs b3
 have hmu:mu (nsP m) m=some gN:=by
  have hn:=nodupN_spec hk.one
  have:∀ (l:List (Option Nat)) (j0 i k:Nat),l.getD i none=some k→(∀ i',i' < i→l.getD i' none ≠ some k)→muOf l j0 k=some (j0+i):=by
   intro l
   induction l with
   | nil=>intro j0 i k h; simp at h
   | cons x l ih=>
     intro j0 i k h hne
     cases i with
     | zero=>
       have h:x=some k:=by simpa using h
       subst h
       simp only [muOf,Nat.beq_refl]; rfl
     | succ i=>
       have ih:=ih (j0+1) i k (by simpa using h) (fun i' hi=>by have:=hne (i'+1) (by omega); simpa using this)
       have h0:=hne 0 (by omega)
       have e:j0+1+i=j0+(i+1):=by omega
       cases x with
       | none=>simp only [muOf,ih,e]
       | some q=>
         have:Nat.beq q k=false:=by
          cases z:Nat.beq q k with
          | false=>rfl
          | true=>exact absurd (by simp [Nat.eq_of_beq_eq_true z]) h0
         simp only [muOf,this,ih,e]
  have h0:(nsP m).getD gN none=some m:=by rw [nsP_get,if_neg (by omega),if_pos rfl]
  have:=this (nsP m) 0 gN m h0 fun i hi q=>by have:=hn i gN m q h0; omega
  simpa using this
 have hgN:=hP_get hg3 cs
 have hgN2:=hP_get hg3 cs2
 have he:embW (nsP m) (hP cs) (v1,hP cs2,gN+1) h n=some (v1,h.set m (some (.cells cs2)),n):=by
  unfold embW
  simp only [deep_rn v1 hv.1,nsP_len,Nat.sub_self,embH,Nat.add_zero]
  have e1:embL (nuW (nsP m) (hP cs2) (gN+1) n) (nsP m) (hP cs) (hP cs2) gN 0 h=some h:=embL_skip _ _ _ fun j _ hj=>by rw [hgN,if_neg (by omega)]
  rw [embL_app gN 1 0 h h e1]
  unfold embL
  rw [Nat.zero_add,hgN gN,if_pos rfl]
  simp only [O.wr,nsP_get,if_neg (Nat.lt_irrefl gN),if_true,hgN2 gN,Nat.blt]
  rw [Nat.ble_eq_true_of_le b2]
  simp only [O.rn,deeps_rn cs2 hv.2,embL]
 refine own_calls hm hpo hf hb l hk (args1:=.ptr (some (gN,0)) :: rest) ?_ he (by rw [nsP_len]; exact hTG) ra g hd
 simp only [V.rns,V.rn,hmu,deeps_rn rest b4]
def Goes (P:Program) (n0 N:Nat) (s S:St):Prop:=∀ c Q,TG P n0 N c S Q→TG P n0 N c s Q
section
variable {P:Program} {n0 N:Nat} {s s1 S:St}
theorem Goes.refl:Goes P n0 N s s:=fun _ _ h=>h
theorem Goes.trans (h1:Goes P n0 N s s1) (h2:Goes P n0 N s1 S):Goes P n0 N s S:=fun c Q h=>h1 c Q (h2 c Q h)
theorem Goes.norm {live:List Nat} (e:normG n0 live s=some S):Goes P n0 N s S:=fun _ _ h=>TG_norm e h
theorem Goes.deep (l:List Nat) (e:deepS l s=some S):Goes P n0 N s S:=fun _ _ h=>TG_deep l e h
theorem Goes.own (l:List (Nat × IntKind)) (e:ownS l s=some S):Goes P n0 N s S:=fun _ _ h=>TG_own l e h
theorem Goes.map (l:List (Nat × Option IntKind)) (e:mapS l s=some S):Goes P n0 N s S:=fun _ _ h=>TG_map l e h
theorem Goes.frz (ms:List Nat) {A:List Prop} (e:fzS ms s=some (A,S)) (hA:∀ x ∈ A,x):Goes P n0 N s S:=fun _ _ h=>TG_frz ms e hA h
end
theorem Ref.goes {P:Program} {n0 N:Nat} {s S:St} (h:Ref n0 N s S):Goes P n0 N s S:=fun _ _ hT E a w K r hn k=>by
 obtain ⟨hn2,E2,r2,u2⟩:=h E a w r hn
 exact hT E2 a w K r2 hn2 fun y s' E' a' w' q u hn' r'=>k y s' E' a' w' q (u2.trans u) hn' r'
theorem TG_forN {P:Program} {n0 N:Nat} {c:Code} {s:St} {Q:Exit→St→Prop} (b m:Nat) (S:Nat→St) (hc:isBlock c b=true) (hl:isLoop (inner c)=true) (h0:Goes P n0 N s (S 0))
  (hb:∀ i,i < m→TG P n0 N (inner (inner c)) (S i) (andThen (fun s'=>Goes P n0 N s' (S (i+1))) (outOf b Q)))
  (he:TG P n0 N (inner (inner c)) (S m) (fun y s'=>y ≠ .normal∧outOf b Q y s')):TG P n0 N c s Q:=by
 refine TG_block hc (TG_loop_inv (fun k s=>∃ i,k=m - i∧i ≤ m∧Goes P n0 N s (S i)) hl ?_ m ⟨0,rfl,Nat.zero_le _,h0⟩)
 rintro k s1 ⟨i,hk,hi,hs1⟩
 refine hs1 _ _ ?_
 rcases Nat.lt_or_ge i m with hlt | hge
 · refine TG_mono (hb i hlt) fun y s' h=>?_
   cases y with
   | normal=>exact ⟨m - (i+1),by omega,i+1,rfl,by omega,h⟩
   | _=>exact h
 · obtain rfl:i=m:=by omega
   refine TG_mono he fun y s' h=>?_
   cases y with
   | normal=>exact absurd rfl h.1
   | _=>exact h.2
theorem TG_whileN {α:Type} {P:Program} {n0 N:Nat} {c:Code} {s:St} {Q:Exit→St→Prop} (b:Nat) (μ:α→Nat) (I:α→Prop) (S:α→St) (hc:isBlock c b=true) (hl:isLoop (inner c)=true) (x0:α) (i0:I x0) (h0:Goes P n0 N s (S x0))
  (hb:∀ x,I x→TG P n0 N (inner (inner c)) (S x) (andThen (fun s'=>∃ x',μ x' < μ x∧I x'∧Goes P n0 N s' (S x')) (outOf b Q))):TG P n0 N c s Q:=by
 refine TG_block hc (TG_loop_inv (fun k s=>∃ x,k=μ x∧I x∧Goes P n0 N s (S x)) hl ?_ (μ x0) ⟨x0,rfl,i0,h0⟩)
 rintro k s1 ⟨x,hk,hi,hs1⟩
 refine hs1 _ _ ?_
 refine TG_mono (hb x hi) fun y s' h=>?_
 cases y with
 | normal=>
   obtain ⟨x',h1,h2,h3⟩:=h
   exact ⟨μ x',by omega,x',rfl,h2,h3⟩
 | _=>exact h
theorem mem1 {α:Type} {g a:α} (h:g ∈ [a]):g=a:=List.mem_singleton.1 h
theorem mem2 {α:Type} {g a b:α} (h:g ∈ [a,b]):g=a ∨ g=b:=(List.mem_cons.1 h).imp id mem1
theorem fm {p:Prop} {l:List Prop} (h:p) (t:∀ a ∈ l,a):∀ a ∈ p :: l,a:=List.forall_mem_cons.2 ⟨h,t⟩
theorem fm1 {p:Prop} (h:p):∀ a ∈ [p],a:=fm h fun _ h=>absurd h List.not_mem_nil
def pinW (f0:FuncId) (args0:List V) (h0:Tr O) (n0:Nat) (v:V) (h1:Tr O) (n1:Nat) (S:CtrW):CtrW:=fun f args h n=>match Nat.beq f f0 with
 | true=>some ([args=args0∧h=h0∧n=n0],v,h1,n1)
 | false=>S f args h n
theorem pinW_ok {P:Program} {f0:FuncId} {args0:List V} {h0:Tr O} {n0:Nat} {v:V} {h1:Tr O} {n1:Nat} {S:CtrW} (hlt:f0 < P.funcs.size) (hc:CallIs P f0 args0 h0 n0 v h1 n1) (hS:CtrWOk P S):CtrWOk P (pinW f0 args0 h0 n0 v h1 n1 S):=by
 intro f args h n A v' h' n' e
 unfold pinW at e
 split at e
 · rename_i hb
   have hb:=Nat.eq_of_beq_eq_true hb
   subst hb
   simp only [Option.some.injEq,Prod.mk.injEq] at e
   obtain ⟨rfl,rfl,rfl,rfl⟩:=e
   refine ⟨hlt,fun hA E w args' ra g hd _=>?_⟩
   obtain ⟨rfl,rfl,rfl⟩:=hA _ (List.mem_singleton.2 rfl)
   exact hc E w args' ra g hd
 · exact hS f args h n A v' h' n' e
def toldF (P:Program) (n0:Nat) (fn:Func) (live:List Nat) (b:Nat) (p:X × St):ResG:=match p.1 with
 | .exit i=>match Nat.beq i b with
   | true=>match retG P n0 fn p.2 with
     | some (v,h,n)=>.ret v h n
     | none=>.bad
   | false=>.bad
 | _=>toldG P n0 fn live p
def runB (P:Program) (cs:CallS) (H:List (Nat × Fix)) (F n0:Nat) (fn:Func) (live:List Nat) (b:Nat) (c:Code) (s:St):Option (List V × List V × List (List (Bool × Bool) × List Prop × ResG)):=
 match codeX P cs H F c s with
 | some l=>some (samesL l,samesR l,tells (toldF P n0 fn live b) l)
 | none=>none
abbrev FinIs (P:Program) (cs:CallS) (H:List (Nat × Fix)) (F n0:Nat) (fn:Func) (live:List Nat) (b:Nat) (c:Code) (s:St) (L:List V) (G:List (List (Bool × Bool) × List Prop × ResG)):Prop:=runB P cs H F n0 fn live b c s=some (L,L,G)
theorem FinIs.of {P:Program} {cs:CallS} {H:List (Nat × Fix)} {F n0:Nat} {fn:Func} {live:List Nat} {b:Nat} {c:Code} {s:St} {G:List (List (Bool × Bool) × List Prop × ResG)} (h1:runOk P cs H F c s=true) (h2:runL P cs H F c s=runR P cs H F c s)
  (h3:tells (toldF P n0 fn live b) (orNil (codeX P cs H F c s))=G):∃ L,FinIs P cs H F n0 fn live b c s L G:=by
 obtain ⟨l,hl⟩:=Option.isSome_iff_exists.1 h1
 unfold runL runR at h2
 rw [hl] at h2 h3
 simp only [orNil] at h2 h3
 exact ⟨samesL l,by simp only [FinIs,runB,hl,h3,← h2]⟩
theorem TG_isF {P:Program} {n0 N:Nat} {c:Code} {s:St} {Q:Exit→St→Prop} {H:List (Nat × Fix)} {F:Nat} {fn:Func} {live:List Nat} {L:List V} {G:List (List (Bool × Bool) × List Prop × ResG)} (b:Nat) (X':CX P) (hm:P.follows .mixedOrders=true) (R:V→Tr O→Nat→Prop) (hc:codeOk N c=true) (hr:FinIs P X'.cs H F n0 fn live b c s L G)
  (hQ:∀ s',RetG P n0 fn R .normal s'→Q (.exit b) s') (h:∀ g ∈ G,(∀ b ∈ g.1,b.1=b.2)→(∀ a ∈ g.2.1,a)∧g.2.2.post P n0 fn live R Q):TG P n0 N c s Q:=by
 unfold FinIs runB at hr
 cases hl:codeX P X'.cs H F c s with
 | none=>rw [hl] at hr; cases hr
 | some l=>
   rw [hl] at hr
   simp only [Option.some.injEq,Prod.mk.injEq] at hr
   obtain ⟨e1,e2,e3⟩:=hr
   refine TG_sym (X':=X') hm hc hl fun p hp ho=>?_
   have hg:=h (p.1.conds,p.1.asr,toldF P n0 fn live b p.2) (e3 ▸ tells_mem hp) ho
   refine ⟨⟨same_ok l (e1.trans e2.symm) p hp,hg.1⟩,?_⟩
   obtain ⟨pp,x,s'⟩:=p
   have hpost:=hg.2
   simp only [toldF] at hpost
   cases x with
   | normal=>
     simp only [toldG] at hpost
     split at hpost
     · rename_i s2 hs2; exact ⟨.normal,rfl,hpost s' hs2⟩
     · exact hpost.elim
   | exit i=>
     simp only at hpost
     split at hpost
     · rename_i hb
       have hb:=Nat.eq_of_beq_eq_true hb
       subst hb
       split at hpost
       · rename_i v h n hr; exact ⟨.exit i,rfl,hQ s' ⟨.inl rfl,v,h,n,hr,hpost.1⟩⟩
       · exact hpost.elim
     · exact hpost.elim
   | ret=>
     simp only [toldG] at hpost
     split at hpost
     · rename_i v h n hr; exact ⟨.ret,rfl,hpost.2 s' ⟨.inr rfl,v,h,n,hr,hpost.1⟩⟩
     · exact hpost.elim
   | panic _=>exact hpost.elim
theorem wlive_ext {h h0:Tr O} (hh:∀ k,h.get k=h0.get k) (m:Nat):wlive h m ↔ wlive h0 m:=by unfold wlive; rw [hh m]
theorem CallIs.ext {P:Program} {f:FuncId} {args:List V} {h h0 h1 h2:Tr O} {n n1:Nat} {v:V} (hh:∀ k,h.get k=h0.get k) (hk:∀ k,h1.get k=h2.get k) (c:CallIs P f args h0 n v h2 n1):CallIs P f args h n v h1 n1:=by
 intro E w args' ra g hd
 refine (c E w args' ra (g.ext fun k=>(hh k).symm) hd).mono fun e w' ⟨E',u,q1,q2,q3,q4⟩=>⟨E',?_,q1,q2,q3,q4⟩
 have u:=u.ext hk
 have hw:=wlive_ext hh
 exact ⟨u.le,u.good,u.size,u.tape,u.os,u.output,fun b hb hm=>u.keep b hb fun m s h=>hm m s ((hw m).2 h),fun m b s h1 h2 h3=>by
  obtain ⟨m0,s0,a1,a2,a3⟩:=u.img m b s h1 h2 h3
  exact ⟨m0,s0,by rw [hh]; exact a1,a2,fun h=>(hw m0).2 (a3 h)⟩,fun b c h=>by
  rcases u.fzn b c h with h | h | ⟨m,s,h1,h2⟩
  · exact .inl h
  · exact .inr (.inl h)
  · exact .inr (.inr ⟨m,s,(hw m).2 h1,h2⟩)⟩
end Go.Eng
namespace Go.Eng
open Go Go.RowKit
def backSame (back:Tr Nat):Nat→Bool
 | 0=>true
 | k+1=>(match back.get k with | some m=>Nat.beq m k | none=>false) && backSame back k
theorem backSame_spec {back:Tr Nat}:∀ {k:Nat},backSame back k=true→∀ m,m < k→back.get m=some m
 | 0,_,m,hm=>by omega
 | k+1,h,m,hm=>by
   simp only [backSame,Bool.and_eq_true] at h
   by_cases e:m=k
   · subst e
     cases q:back.get m with
     | none=>rw [q] at h; cases h.1
     | some j=>rw [q] at h; rw [Nat.eq_of_beq_eq_true h.1]
   · exact backSame_spec h.2 m (by omega)
def normM (n0 lo:Nat) (live:List Nat) (s:St):Option St:=
 match Nat.ble n0 s.n && Nat.ble lo n0 with
 | false=>none
 | true=>match travG s.h 100000 (lowNames s.h lo (rootNames s.fr live ++ dfsNames s.dfs [])) (idTo lo) (oldsTo n0) n0 with
   | some (ρ,olds,k)=>
     let back:=backOf olds k .nil
     let ν:=nameOf ρ back k
     match (backSame back n0 && Nat.ble n0 k) && Nat.ble gN n0 with
     | true=>match heapG ν s.h (olds.filter fun m=>(ρ.get m).isSome) .nil with
       | some h2=>match frameG ν s.fr live .nil with
         | some fr2=>match dfsG ν s.dfs with
           | some d2=>some { fr:=fr2,h:=h2,n:=k,dfs:=d2 }
           | none=>none
         | none=>none
       | none=>none
     | false=>none
   | none=>none
theorem normM_sound {n0 lo N:Nat} {live:List Nat} {s s2:St} {E:Env} {a:Act} {w:World} (e:normM n0 lo live s=some s2) (r:SRel E N s a w):n0 ≤ s.n∧n0 ≤ s2.n∧∃ E2,SRel E2 N s2 a w∧UpdL n0 E s.h w E2 s2.h w:=by
 unfold normM at e
 split at e
 · cases e
 rename_i hn
 simp only [Bool.and_eq_true] at hn
 split at e
 case h_2=>cases e
 rename_i ρ olds k ht
 revert e
 generalize hback:backOf olds k .nil=back
 intro e
 simp only at e
 split at e
 case h_2=>cases e
 rename_i hlow
 simp only [Bool.and_eq_true] at hlow
 split at e
 case h_2=>cases e
 rename_i h2 hh
 split at e
 case h_2=>cases e
 rename_i fr2 hfr
 split at e
 case h_2=>cases e
 rename_i d2 hd2
 simp only [Option.some.injEq] at e
 subst e
 let E2:Env:=⟨fun m=>if m < k then (match back.get m with | some old=>E.ι old | none=>none) else none,E.β,E.φ⟩
 have hι:∀ m j,nameOf ρ back k m=some j→E2.ι j=E.ι m:=by
  intro m j hj
  obtain ⟨_,h2,h3⟩:=nameOf_spec hj
  show (if j < k then (match back.get j with | some old=>E.ι old | none=>none) else none)=_
  rw [if_pos h3,h2]
 have hk:n0 ≤ k:=Nat.le_of_ble_eq_true hlow.1.2
 have hlo:∀ m,m < n0→E2.ι m=E.ι m:=fun m hm=>by
  show (if m < k then (match back.get m with | some old=>E.ι old | none=>none) else none)=_
  rw [if_pos (Nat.lt_of_lt_of_le hm hk),backSame_spec hlow.1.1 m hm]
 have hh2:=heapG_spec _ .nil h2 hh (fun j o hj=>by simp [Tr.get] at hj)
 have good2:Good E2 h2 w:=by
  refine ⟨?_,?_,?_,fun p hp=>(hlo _ (Nat.lt_of_lt_of_le (gtab_lt hp) (Nat.le_of_ble_eq_true hlow.2))).trans (r.good.glob p hp),fun b c q=>⟨(r.good.froz b c q).1,fun m s1 hm e1=>?_⟩⟩
  case refine_4=>
   obtain ⟨o,ho,hwo⟩:=hm
   obtain ⟨old,p,k1,k2,k3⟩:=hh2 m o ho
   rw [hι old m k1] at e1
   exact (r.good.froz b c q).2 old s1 ⟨p,k2,(rn_wr k3).symm.trans hwo⟩ e1
  · intro m o2 hm
    obtain ⟨old,o,k1,k2,k3⟩:=hh2 m o2 hm
    obtain ⟨b,s',e1,e2⟩:=r.good.rel old o k2
    exact ⟨b,s',(hι old m k1).trans e1,rnO_rel hι (fun _ _ _ _ _ _=>rfl) (fun _ _ q=>q) rfl o o2 k3 e2⟩
  · intro m m' b s1 s2 hne hm hm' e1 e2
    obtain ⟨o,ho,hwo⟩:=hm
    obtain ⟨o',ho'⟩:=Option.ne_none_iff_exists'.1 hm'
    obtain ⟨old,p,k1,k2,k3⟩:=hh2 m o ho
    obtain ⟨old',p',k1',k2',_⟩:=hh2 m' o' ho'
    rw [hι old m k1] at e1
    rw [hι old' m' k1'] at e2
    by_cases hold:old=old'
    · subst hold
      rw [k1] at k1'
      simp only [Option.some.injEq] at k1'
      exact hne k1'
    · exact r.good.inj old old' b s1 s2 hold ⟨p,k2,(rn_wr k3).symm.trans hwo⟩ (by rw [k2']; simp) e1 e2
  · intro m b s1 e1
    have e1:(if m < k then (match back.get m with | some old=>E.ι old | none=>none) else none)=some (b,s1):=e1
    split at e1
    · split at e1
      · exact r.good.bnd _ b s1 e1
      · cases e1
    · cases e1
 refine ⟨Nat.le_of_ble_eq_true hn.1,hk,E2,⟨good2,?_,?_,r.size,?_⟩,?_⟩
 · intro m hm
   show (if m < k then _ else none)=none
   rw [if_neg (by show ¬ m < k; have:k ≤ m:=hm; omega)]
 · intro t v2 hv
   obtain ⟨v,k1,k2⟩:=frameG_spec live .nil fr2 hfr (fun j o hj=>by simp [Tr.get] at hj) t v2 hv
   obtain ⟨v',h1,h2⟩:=r.fr t v k1
   exact ⟨v',h1,rn_rel hι (fun _ _ _ _ _ _=>rfl) (fun _ _ q=>q) v v2 v' k2 h2⟩
 · exact dfsG_rel hι _ _ _ hd2 r.dfs
 · refine ⟨fun m b s1 hm e1=>⟨(hlo m hm).trans e1,rfl⟩,hlo,fun _ _ q=>q,good2,Nat.le_refl _,rfl,rfl,rfl,fun _ _ _=>rfl,?_,fun _ _ q=>.inl q⟩
   intro m b s1 hm e1 hb
   obtain ⟨o,ho⟩:=Option.ne_none_iff_exists'.1 hm
   obtain ⟨old,p,k1,k2,k3⟩:=hh2 m o ho
   rw [hι old m k1] at e1
   refine ⟨old,s1,by rw [k2]; simp,e1,fun ⟨o',q1,q2⟩=>⟨p,k2,?_⟩⟩
   rw [ho] at q1; cases q1
   exact (rn_wr k3).symm.trans q2
def Step (n0:Nat) (s s2:St):Prop:=∀ N E a w,SRel E N s a w→n0 ≤ s.n→n0 ≤ s2.n∧∃ E2,SRel E2 N s2 a w∧UpdL n0 E s.h w E2 s2.h w
theorem Step.refl {n0:Nat} {s:St}:Step n0 s s:=fun _ E _ _ r hn=>⟨hn,E,r,.refl r.good⟩
theorem Step.trans {n0:Nat} {s s1 s2:St} (a:Step n0 s s1) (b:Step n0 s1 s2):Step n0 s s2:=fun N E c w r hn=>by
 obtain ⟨h1,E1,r1,u1⟩:=a N E c w r hn
 obtain ⟨h2,E2,r2,u2⟩:=b N E1 c w r1 h1
 exact ⟨h2,E2,r2,u1.trans u2⟩
theorem Step.mov {n0:Nat} {s s2:St} (lo:Nat) {live:List Nat} (e:normM n0 lo live s=some s2):Step n0 s s2:=fun _ _ _ _ r _=>(normM_sound e r).2
theorem Step.norm {n0:Nat} {s s2:St} {live:List Nat} (e:normG n0 live s=some s2):Step n0 s s2:=fun _ _ _ _ r _=>(normG_sound e r).2
theorem Step.mem {n0:Nat} {s:St} {h2:Tr O} (hg:∀ E w,Good E s.h w→Good E h2 w∧∀ m,(h2.get m ≠ none ↔ s.h.get m ≠ none)∧(wlive h2 m→wlive s.h m)):Step n0 s { s with h:=h2 }:=fun N E a w r hn=>by
 obtain ⟨g2,k2⟩:=hg E w r.good
 exact ⟨hn,E,⟨g2,r.dom,r.fr,r.size,r.dfs⟩,⟨fun _ _ _ _ e=>⟨e,rfl⟩,fun _ _=>rfl,fun _ _ q=>q,g2,Nat.le_refl _,rfl,rfl,rfl,fun _ _ _=>rfl,fun m b s1 hm e1 _=>⟨m,s1,(k2 m).1.1 hm,e1,(k2 m).2⟩,fun _ _ q=>.inl q⟩⟩
theorem Step.deep {n0:Nat} {s s2:St} (l:List Nat) (e:deepS l s=some s2):Step n0 s s2:=by
 unfold deepS at e
 split at e
 case h_2=>cases e
 rename_i h2 hh
 simp only [Option.some.injEq] at e; subst e
 exact Step.mem fun E w g=>deepO_good l s.h h2 hh g
theorem Step.frz {n0:Nat} {s s2:St} (ms:List Nat) {A:List Prop} (e:fzS ms s=some (A,s2)) (hA:∀ x ∈ A,x):Step n0 s s2:=fun N E a w r hn=>by
 obtain ⟨E2,r2,u,hn2,_⟩:=fzS_sound (n0:=n0) e hA r hn
 exact ⟨hn2,E2,r2,u⟩
theorem TG_step {P:Program} {n0 N:Nat} {c:Code} {s s2:St} {Q:Exit→St→Prop} (e:Step n0 s s2) (h:TG P n0 N c s2 Q):TG P n0 N c s Q:=by
 intro E a w K r hn k
 obtain ⟨hn2,E2,r2,u2⟩:=e N E a w r hn
 exact h E2 a w K r2 hn2 fun y s' E' a' w' q u hn' r'=>k y s' E' a' w' q (u2.trans u) hn' r'
theorem Goes.step {P:Program} {n0 N:Nat} {s S:St} (e:Step n0 s S):Goes P n0 N s S:=fun _ _ h=>TG_step e h
def rst (v:V) (h:Tr O) (n:Nat):St:={ fr:=Tr.nil.set 0 (some v),h:=h,n:=n,dfs:=[] }
theorem CallIs.step {P:Program} {f:FuncId} {args:List V} {h h1 h2:Tr O} {n n1 n2:Nat} {v v2:V} (c:CallIs P f args h n v h1 n1) (st:Step n (rst v h1 n1) (rst v2 h2 n2)):CallIs P f args h n v2 h2 n2:=by
 intro E w args' ra g hd
 refine (c E w args' ra g hd).mono fun en w' ⟨E1,u,hlow,hd1,hn1,ho⟩=>?_
 cases en with
 | panicked ch=>exact ho.elim
 | outgrown=>exact ho.elim
 | returned v'=>
   have hv:vrel E1 v v':=ho
   have r:SRel E1 1 (rst v h1 n1) { tmps:=#[v'],defers:=[] } w':=by
    refine ⟨u.good,hd1,fun t x hx=>?_,rfl,rfl⟩
    have hx:(Tr.nil.set 0 (some v)).get t=some x:=hx
    rw [Tr.get_set _ _ _ (Nat.le_of_ble_eq_true (by decide))] at hx
    split at hx
    · rename_i e0
      subst e0
      cases hx
      exact ⟨v',rfl,hv⟩
    · exact absurd hx (by simp [Tr.get])
   obtain ⟨hn2,E2,r2,u2⟩:=st 1 E1 _ w' r hn1
   obtain ⟨x,hx,hv2⟩:=r2.fr 0 v2 (by show (Tr.nil.set 0 (some v2)).get 0=some v2; rw [Tr.get_set _ _ _ (Nat.le_of_ble_eq_true (by decide)),if_pos rfl])
   have hx:some v'=some x:=hx
   simp only [Option.some.injEq] at hx; subst hx
   exact ⟨E2,((UpdL.of (n0:=n) u hlow (Nat.le_refl _)).trans u2).upd hd,fun m hm=>(u2.low m hm).trans (hlow m hm),r2.dom,hn2,hv2⟩
theorem CallIs.mov {P:Program} {f:FuncId} {args:List V} {h h1 h2:Tr O} {n n1 n2:Nat} {v v2:V} (lo:Nat) (c:CallIs P f args h n v h1 n1) (e:normM n lo [0] (rst v h1 n1)=some (rst v2 h2 n2)):CallIs P f args h n v2 h2 n2:=c.step (.mov lo e)
theorem CallIs.nil {P:Program} {f:FuncId} {args:List V} {h h1:Tr O} {n n1 z:Nat} (b:Bool) (c:CallIs P f args h n (.slc none 0 0 z) h1 n1):CallIs P f args h n (.lst b 0 []) h1 n1:=by
 intro E w args' ra g hd
 refine (c E w args' ra g hd).mono fun en w' ⟨E1,u,hlow,hd1,hn1,ho⟩=>⟨E1,u,hlow,hd1,hn1,?_⟩
 cases en with
 | panicked ch=>exact ho.elim
 | outgrown=>exact ho.elim
 | returned v'=>
   obtain ⟨_,_,rfl⟩:0=0∧0=0∧v'= .slice none 0 0:=ho
   exact ⟨⟨none,0,[],rfl,Nat.le_refl _,rfl,fun _=>rfl,fun h=>absurd h (Nat.lt_irrefl _)⟩,fun _=>⟨none,rfl⟩⟩
def rbS (p i:Nat) (s:St):Option St:=match s.h.get p with
 | some (.cells cs)=>match cs[i]? with
   | some (.slc (some (m,o)) len cap esz)=>match s.h.get m with
     | some (.deep R)=>match (Nat.blt m top && Nat.blt p top) && (Nat.blt s.n top && Bool.not (Nat.beq p m)) with
       | true=>some { s with h:=((s.h.set m none).set p (some (.cells (cs.set i (.slc (some (s.n,0)) len len esz))))).set s.n (some (.deep ((R.drop o).take (len * esz)))),n:=s.n+1 }
       | false=>none
     | _=>none
   | _=>none
 | _=>none
theorem Step.rb {n0:Nat} {s s2:St} (p i:Nat) (e:rbS p i s=some s2):Step n0 s s2:=by
 unfold rbS at e
 split at e
 case h_2=>cases e
 rename_i cs hp
 split at e
 case h_2=>cases e
 rename_i m o len _ esz hi
 split at e
 case h_2=>cases e
 rename_i R hm
 split at e
 case h_2=>cases e
 rename_i hb
 simp only [Bool.and_eq_true,Bool.not_eq_true'] at hb
 obtain ⟨⟨hmt,hpt⟩,hnt,hpm⟩:=hb
 have hmt:m < top:=Nat.le_of_ble_eq_true hmt
 have hpt:p < top:=Nat.le_of_ble_eq_true hpt
 have hnt:s.n < top:=Nat.le_of_ble_eq_true hnt
 have hpm:p ≠ m:=fun q=>by rw [q,Nat.beq_refl] at hpm; cases hpm
 simp only [Option.some.injEq] at e; subst e
 intro N E a w r hn
 have g:=r.good
 obtain ⟨bm,sm,em,om⟩:=g.rel m _ hm
 obtain ⟨bp,sp,ep,op⟩:=g.rel p _ hp
 have hnone:E.ι s.n=none:=r.dom _ (Nat.le_refl _)
 have hmn:m ≠ s.n:=fun q=>by rw [q,hnone] at em; cases em
 have hpn:p ≠ s.n:=fun q=>by rw [q,hnone] at ep; cases ep
 let E2:Env:=⟨fun j=>if j=s.n then some (bm,sm+o) else E.ι j,E.β,E.φ⟩
 have e2n:E2.ι s.n=some (bm,sm+o):=if_pos rfl
 have e2:∀ j,j ≠ s.n→E2.ι j=E.ι j:=fun j hj=>if_neg hj
 have hle:E.le E2:=⟨fun j b x hj=>⟨by
  rw [e2 j fun q=>by rw [q,hnone] at hj; cases hj]; exact hj,rfl⟩,fun _ _ q=>q⟩
 have hget:∀ j,(((s.h.set m none).set p (some (.cells (cs.set i (.slc (some (s.n,0)) len len esz))))).set s.n (some (.deep ((R.drop o).take (len * esz))))).get j=
   if j=s.n then some (.deep ((R.drop o).take (len * esz))) else if j=p then some (.cells (cs.set i (.slc (some (s.n,0)) len len esz))) else if j=m then none else s.h.get j:=fun j=>by
  rw [Tr.get_set _ _ _ hnt,Tr.get_set _ _ _ hpt,Tr.get_set _ _ _ hmt]
 have hor:∀ j b x,(((s.h.set m none).set p (some (.cells (cs.set i (.slc (some (s.n,0)) len len esz))))).set s.n (some (.deep ((R.drop o).take (len * esz))))).get j ≠ none→E2.ι j=some (b,x)→∃ j0 x0,s.h.get j0 ≠ none∧E.ι j0=some (b,x0)∧(j=s.n→j0=m)∧(j ≠ s.n→j0=j∧j ≠ m):=by
  intro j b x hj ej
  rw [hget] at hj
  by_cases q:j=s.n
  · subst q
    rw [e2n] at ej
    simp only [Option.some.injEq,Prod.mk.injEq] at ej
    obtain ⟨rfl,_⟩:=ej
    exact ⟨m,sm,by rw [hm]; simp,em,fun _=>rfl,fun q=>absurd rfl q⟩
  · rw [e2 j q] at ej
    rw [if_neg q] at hj
    refine ⟨j,x,?_,ej,fun q'=>absurd q' q,fun _=>⟨rfl,?_⟩⟩
    · by_cases q1:j=p
      · subst q1; rw [hp]; simp
      · rw [if_neg q1] at hj
        by_cases q2:j=m
        · rw [if_pos q2] at hj; exact absurd rfl hj
        · rw [if_neg q2] at hj; exact hj
    · intro q2
      subst q2
      rw [if_neg (fun q=>hpm q.symm),if_pos rfl] at hj
      exact absurd rfl hj
 have hw:∀ j,wlive (((s.h.set m none).set p (some (.cells (cs.set i (.slc (some (s.n,0)) len len esz))))).set s.n (some (.deep ((R.drop o).take (len * esz))))) j→j ≠ s.n→wlive s.h j:=by
  rintro j ⟨x,hx,hxw⟩ q
  rw [hget,if_neg q] at hx
  by_cases q1:j=p
  · subst q1; exact ⟨_,hp,rfl⟩
  · rw [if_neg q1] at hx
    by_cases q2:j=m
    · rw [if_pos q2] at hx; cases hx
    · rw [if_neg q2] at hx; exact ⟨x,hx,hxw⟩
 have hwm:wlive s.h m:=⟨_,hm,rfl⟩
 have good2:Good E2 (((s.h.set m none).set p (some (.cells (cs.set i (.slc (some (s.n,0)) len len esz))))).set s.n (some (.deep ((R.drop o).take (len * esz))))) w:=by
  refine ⟨fun j x hj=>?_,fun j j' b x x' hne hj hj' e1 e1'=>?_,fun j b x ej=>?_,fun q hq=>hle.nm _ _ _ (g.glob q hq) |>.1,fun b c q=>⟨(g.froz b c q).1,fun j x hj ej=>?_⟩⟩
  · rw [hget] at hj
    by_cases q:j=s.n
    · subst q
      rw [if_pos rfl] at hj
      simp only [Option.some.injEq] at hj; subst hj
      refine ⟨bm,sm+o,e2n,?_⟩
      obtain ⟨c,el,fz,vs,h1,h2,h3,h4,h5⟩:=om
      refine ⟨c,el,fz,(vs.drop o).take (len * esz),h1,h2,h3,drels_take (drels_drop h4),fun k x hx=>?_⟩
      rw [List.getElem?_take] at hx
      split at hx
      · rw [List.getElem?_drop] at hx
        have:=h5 (o+k) x hx
        rw [← this]; congr 1; omega
      · cases hx
    · rw [if_neg q] at hj
      by_cases q1:j=p
      · subst q1
        rw [if_pos rfl] at hj
        simp only [Option.some.injEq] at hj; subst hj
        refine ⟨bp,sp,by rw [e2 _ q]; exact ep,?_⟩
        obtain ⟨c,el,fz,h1,h2,h3,h4⟩:=op
        refine ⟨c,el,fz,h1,h2,h3,fun k v hv=>?_⟩
        rw [List.getElem?_set] at hv
        split at hv
        · rename_i hik
          subst hik
          split at hv
          · simp only [Option.some.injEq] at hv; subst hv
            obtain ⟨v',k1,b,s0,o',cap',q1,q2,q3,q4,q5,q6⟩:=h4 i _ hi
            rw [em] at q1
            simp only [Option.some.injEq,Prod.mk.injEq] at q1
            obtain ⟨rfl,rfl⟩:=q1
            exact ⟨v',k1,bm,sm+o,o',cap',e2n,fun h0=>q2 (Nat.lt_of_lt_of_le h0 q3),Nat.le_refl _,Nat.le_trans q3 q4,q5,q6⟩
          · cases hv
        · obtain ⟨v',k1,k2⟩:=h4 k v hv
          exact ⟨v',k1,vrel_mono hle v v' k2⟩
      · rw [if_neg q1] at hj
        split at hj
        · cases hj
        · obtain ⟨b,x0,k1,k2⟩:=g.rel j x hj
          exact ⟨b,x0,by rw [e2 _ q]; exact k1,orel_mono hle rfl rfl k2⟩
  · have hj0:(((s.h.set m none).set p (some (.cells (cs.set i (.slc (some (s.n,0)) len len esz))))).set s.n (some (.deep ((R.drop o).take (len * esz))))).get j ≠ none:=by obtain ⟨y,hy,_⟩:=hj; rw [hy]; simp
    obtain ⟨k,x1,a1,a2,a3,a4⟩:=hor j b x hj0 e1
    obtain ⟨k',x2,b1,b2,b3,b4⟩:=hor j' b x' hj' e1'
    have hkw:wlive s.h k:=by
     by_cases q:j=s.n
     · rw [a3 q]; exact hwm
     · rw [(a4 q).1]; exact hw j hj q
    refine g.inj k k' b x1 x2 ?_ hkw b1 a2 b2
    by_cases q:j=s.n
    · have q':j' ≠ s.n:=fun z=>hne (q.trans z.symm)
      rw [a3 q,(b4 q').1]
      exact fun z=>(b4 q').2 z.symm
    · by_cases q':j'=s.n
      · rw [(a4 q).1,b3 q']
        exact (a4 q).2
      · rw [(a4 q).1,(b4 q').1]; exact hne
  · by_cases q:j=s.n
    · rw [q,e2n] at ej
      simp only [Option.some.injEq,Prod.mk.injEq] at ej
      obtain ⟨rfl,_⟩:=ej
      exact g.bnd _ _ _ em
    · rw [e2 j q] at ej
      exact g.bnd _ _ _ ej
  · by_cases q2:j=s.n
    · rw [q2,e2n] at ej
      simp only [Option.some.injEq,Prod.mk.injEq] at ej
      obtain ⟨rfl,_⟩:=ej
      exact (g.froz _ c q).2 m sm hwm em
    · rw [e2 j q2] at ej
      exact (g.froz b c q).2 j x (hw j hj q2) ej
 refine ⟨Nat.le_succ_of_le hn,E2,⟨good2,fun j hj=>?_,frel_mono hle r.fr,r.size,dfrel_mono hle _ _ r.dfs⟩,?_⟩
 · have hj:s.n+1 ≤ j:=hj
   rw [e2 j (by omega)]
   exact r.dom j (Nat.le_of_succ_le hj)
 · refine ⟨fun j b x _ ej=>hle.nm j b x ej,fun j hj=>e2 j (by omega),fun _ _ q=>q,good2,Nat.le_refl _,rfl,rfl,rfl,fun _ _ _=>rfl,fun j b x hj ej _=>?_,fun _ _ q=>.inl q⟩
   obtain ⟨k,x1,a1,a2,a3,a4⟩:=hor j b x hj ej
   refine ⟨k,x1,a1,a2,fun z=>?_⟩
   by_cases q:j=s.n
   · rw [a3 q]; exact hwm
   · rw [(a4 q).1]; exact hw j z q
end Go.Eng
namespace Go.Eng
open Go Go.RowKit
mutual
def V.nl:V→V
 | .slc none len c e=>match len with
   | 0=>.lst false 0 []
   | _=>.slc none len c e
 | .lst _ n cs=>.lst false n cs
 | .agg cs=>.agg (V.nls cs)
 | .tup cs=>.tup (V.nls cs)
 | v=>v
def V.nls:List V→List V
 | []=>[]
 | x :: xs=>x.nl :: V.nls xs
end
mutual
theorem nl_rel {E:Env}:∀ (v:V) (v':Value),vrel E v v'→vrel E v.nl v'
 | .slc none 0 _ _,_,⟨_,_,e⟩=>by
   rw [e]
   exact ⟨⟨none,0,[],rfl,Nat.le_refl _,rfl,fun _=>rfl,fun h=>absurd h (Nat.lt_irrefl _)⟩,fun h=>by cases h⟩
 | .slc none (_+1) _ _,_,r=>r
 | .lst _ _ _,_,r=>⟨r.1,fun h=>by cases h⟩
 | .agg cs,_,⟨cs',r,q⟩=>⟨cs',nls_rel cs cs' r,q⟩
 | .tup cs,_,⟨cs',r,q⟩=>⟨cs',nls_rel cs cs' r,q⟩
 | .bool _,_,r=>r
 | .int _ _,_,r=>r
 | .str _,_,r=>r
 | .ptr _,_,r=>r
 | .slc (some _) _ _ _,_,r=>r
 | .map _,_,r=>r
 | .fn _ _ _,_,r=>r
 | .nilFn,_,r=>r
 | .iface _ _,_,r=>r
 | .nilIface,_,r=>r
 | .fptr _,_,r=>r
theorem nls_rel {E:Env}:∀ (v:List V) (v':List Value),vrels E v v'→vrels E (V.nls v) v'
 | [],_,r=>r
 | x :: xs,_,⟨y,ys,r,rs,q⟩=>⟨y,ys,nl_rel x y r,nls_rel xs ys rs,q⟩
end
theorem DeepTo.nl {P:Program} {f:FuncId} {args:List V} {v:V} (h:DeepTo P f args v):DeepTo P f args v.nl:=fun E h' n w args' ra g hd=>
 (h E h' n w args' ra g hd).mono fun en w' ⟨E1,u,hlow,hd1,hn1,ho⟩=>⟨E1,u,hlow,hd1,hn1,by
  cases en with
  | returned v'=>exact nl_rel v v' ho
  | panicked _=>exact ho.elim
  | outgrown=>exact ho.elim⟩
def pinN (f0:FuncId) (args0:List V) (v:V) (S:CtrW):CtrW:=fun f args h n=>match Nat.beq f f0 with
 | true=>some ([V.nls args=args0],v,h,n)
 | false=>S f args h n
theorem pinN_ok {P:Program} {f0:FuncId} {args0:List V} {v:V} {S:CtrW} (hlt:Nat.blt f0 P.funcs.size=true) (hc:DeepTo P f0 args0 v) (hS:CtrWOk P S):CtrWOk P (pinN f0 args0 v S):=by
 intro f args h n A v' h' n' e
 unfold pinN at e
 split at e
 · rename_i hb
   have hb:=Nat.eq_of_beq_eq_true hb
   subst hb
   simp only [Option.some.injEq,Prod.mk.injEq] at e
   obtain ⟨rfl,rfl,rfl,rfl⟩:=e
   refine ⟨Nat.le_of_ble_eq_true hlt,fun hA E w args' ra g hd _=>?_⟩
   obtain rfl:=hA _ (List.mem_singleton.2 rfl)
   exact hc E h n w args' (nls_rel _ _ ra) g hd
 · exact hS f args h n A v' h' n' e
def FzN (v:V) (u:V) (h:Tr O) (n:Nat):Prop:=∃ v0,FzTo v0 u h n∧v0.deep=true∧v0.nl=v
theorem FzN.self {v u:V} {h:Tr O} {n:Nat} (hd:u.deep=true) (e:u.nl=v):FzN v u h n:=⟨u,.self,hd,e⟩
def fzOf (ms:List Nat) (u:V) (h:Tr O) (n:Nat):Option (List Prop × V):=match fzS ms { fr:=Tr.nil.set 0 (some u),h:=h,n:=n,dfs:=[] } with
 | some (A,s2)=>match s2.fr.get 0 with
   | some v=>some (A,v)
   | none=>none
 | none=>none
theorem FzN.frz {v u v0:V} {h:Tr O} {n:Nat} (ms:List Nat) {A:List Prop} (e:fzOf ms u h n=some (A,v0)) (hA:∀ a ∈ A,a) (hd:v0.deep=true) (en:v0.nl=v):FzN v u h n:=by
 unfold fzOf at e
 split at e
 case h_2=>cases e
 rename_i A1 s2 h1
 split at e
 case h_2=>cases e
 rename_i v1 h2
 simp only [Option.some.injEq,Prod.mk.injEq] at e
 obtain ⟨rfl,rfl⟩:=e
 exact ⟨v1,⟨[ms],A1 ++ [],s2,by simp only [fzSs,h1],fun a ha=>hA a (by simpa using ha),h2⟩,hd,en⟩
theorem DeepTo.ofFz {P:Program} (hm:P.follows .mixedOrders=true) (hpo:progOk P=true) {f:FuncId} {fn:Func} {code:Code} (hf:P.funcs[f]? =some fn) (hb:fn.body=some code) {args:List V}
  (l:(Nat.ble args.length fn.ntmps && Nat.blt fn.ntmps top)=true) {v:V} (hdp:V.deeps args=true) (hT:TG P gN fn.ntmps code (startSt args .nil gN) (RetG P gN fn (FzN v))):DeepTo P f args v:=by
 intro E h n w args' ra g hd
 have g0:Good (E0F E.φ) .nil w:=good0F g.wg g.fz
 have ra0:vrels (E0F E.φ) args args':=deeps_rel (E:=E) (E':=E0F E.φ) (fun _ _ q=>q) _ _ hdp ra
 refine (calls_of_TG hm hpo hf hb l _ hT ra0 g0 (dom0F (Nat.le_refl _))).mono fun e w' ⟨u,h',n',⟨v0,hz,hv,hn⟩,k⟩=>?_
 obtain ⟨E1,u,hlow,hd1,hn1,ho⟩:=cpost_deep (E1:=E0F E.φ) g hd rfl nil_ro hv hz k
 refine ⟨E1,u,hlow,hd1,hn1,?_⟩
 subst hn
 cases e with
 | returned v'=>exact nl_rel v0 v' ho
 | panicked _=>exact ho.elim
 | outgrown=>exact ho.elim
def O.nl:O→O
 | .cells cs=>.cells (V.nls cs)
 | o=>o
def nlV:Tr V→Tr V
 | .nil=>.nil
 | .node v l r=>.node (v.map V.nl) (nlV l) (nlV r)
def nlT:Tr O→Tr O
 | .nil=>.nil
 | .node v l r=>.node (v.map O.nl) (nlT l) (nlT r)
theorem nlV_get:∀ (t:Tr V) (k:Nat),(nlV t).get k=(t.get k).map V.nl
 | .nil,_=>rfl
 | .node v l r,k=>by
   simp only [nlV,Tr.get]
   split
   · rfl
   · split
     · exact nlV_get l _
     · exact nlV_get r _
theorem nlT_get:∀ (t:Tr O) (k:Nat),(nlT t).get k=(t.get k).map O.nl
 | .nil,_=>rfl
 | .node v l r,k=>by
   simp only [nlT,Tr.get]
   split
   · rfl
   · split
     · exact nlT_get l _
     · exact nlT_get r _
theorem nls_get:∀ (l:List V) (i:Nat),(V.nls l)[i]? =(l[i]?).map V.nl
 | [],_=>by simp [V.nls]
 | x :: l,0=>by simp [V.nls]
 | x :: l,i+1=>by simpa [V.nls] using nls_get l i
theorem Onl_rel {E:Env} {w:World} {b s:Nat} {o:O} (r:orel E w b s o):orel E w b s o.nl:=by
 cases o with
 | cells cs=>
   obtain ⟨c,el,fz,h1,h2,h3,h4⟩:=r
   refine ⟨c,el,fz,h1,h2,h3,fun i v hv=>?_⟩
   rw [nls_get] at hv
   cases hc:cs[i]? with
   | none=>rw [hc] at hv; cases hv
   | some u=>
     rw [hc] at hv
     simp only [Option.map_some,Option.some.injEq] at hv
     subst hv
     obtain ⟨v',k1,k2⟩:=h4 i u hc
     exact ⟨v',k1,nl_rel u v' k2⟩
 | _=>exact r
theorem Onl_wr (o:O):o.nl.wr=o.wr:=by cases o <;> rfl
def nlS (s:St):St:={ s with fr:=nlV s.fr,h:=nlT s.h }
theorem Step.nl {n0:Nat} {s:St}:Step n0 s (nlS s):=fun N E a w r hn=>by
 have hlive:∀ m,wlive (nlT s.h) m ↔ wlive s.h m:=fun m=>by
  constructor
  · rintro ⟨o,h1,h2⟩
    rw [nlT_get] at h1
    cases h0:s.h.get m with
    | none=>rw [h0] at h1; cases h1
    | some o0=>
      rw [h0] at h1
      simp only [Option.map_some,Option.some.injEq] at h1
      subst h1
      exact ⟨o0,h0,by rw [Onl_wr] at h2; exact h2⟩
  · rintro ⟨o,h1,h2⟩
    exact ⟨o.nl,by rw [nlT_get,h1]; rfl,by rw [Onl_wr]; exact h2⟩
 have hne:∀ m,(nlT s.h).get m ≠ none ↔ s.h.get m ≠ none:=fun m=>by
  rw [nlT_get]; cases s.h.get m <;> simp
 have g:Good E (nlT s.h) w:=by
  refine ⟨fun m o hm=>?_,fun m m' b s1 s2 hne' hm hm'=>r.good.inj m m' b s1 s2 hne' ((hlive m).1 hm) ((hne m').1 hm'),r.good.bnd,r.good.glob,fun b c q=>⟨(r.good.froz b c q).1,fun m s1 hm=>(r.good.froz b c q).2 m s1 ((hlive m).1 hm)⟩⟩
  rw [nlT_get] at hm
  cases h0:s.h.get m with
  | none=>rw [h0] at hm; cases hm
  | some o0=>
    rw [h0] at hm
    simp only [Option.map_some,Option.some.injEq] at hm
    subst hm
    obtain ⟨b,s1,k1,k2⟩:=r.good.rel m o0 h0
    exact ⟨b,s1,k1,Onl_rel k2⟩
 refine ⟨hn,E,⟨g,r.dom,fun t v hv=>?_,r.size,r.dfs⟩,⟨fun _ _ _ _ e=>⟨e,rfl⟩,fun _ _=>rfl,fun _ _ q=>q,g,Nat.le_refl _,rfl,rfl,rfl,fun _ _ _=>rfl,fun m b s1 hm e1 _=>⟨m,s1,(hne m).1 hm,e1,(hlive m).1⟩,fun _ _ q=>.inl q⟩⟩
 have hv:(nlV s.fr).get t=some v:=hv
 rw [nlV_get] at hv
 cases h0:s.fr.get t with
 | none=>rw [h0] at hv; cases hv
 | some u=>
   rw [h0] at hv
   simp only [Option.map_some,Option.some.injEq] at hv
   subst hv
   obtain ⟨v',k1,k2⟩:=r.fr t u h0
   exact ⟨v',k1,nl_rel u v' k2⟩
theorem Goes.nl {P:Program} {n0 N:Nat} {s S:St} (e:nlS s=S):Goes P n0 N s S:=e ▸ .step .nl
def nlI (is:List Nat):Nat→List V→List V
 | _,[]=>[]
 | i,x :: r=>(match is.any (Nat.beq i) with | true=>x.nl | false=>x) :: nlI is (i+1) r
theorem nlI_get (is:List Nat):∀ (l:List V) (i j:Nat) (v:V),(nlI is i l)[j]? =some v→∃ u,l[j]? =some u∧(v=u ∨ v=u.nl)
 | [],_,_,_,h=>by simp [nlI] at h
 | x :: l,i,0,v,h=>by
   simp only [nlI,List.getElem?_cons_zero,Option.some.injEq] at h
   subst h
   refine ⟨x,rfl,?_⟩
   split <;> simp
 | x :: l,i,j+1,v,h=>by
   simp only [nlI,List.getElem?_cons_succ] at h ⊢
   exact nlI_get is l (i+1) j v h
def nlAt (m:Nat) (is:List Nat) (s:St):Option St:=match Nat.blt m top,s.h.get m with
 | true,some (.cells cs)=>some { s with h:=s.h.set m (some (.cells (nlI is 0 cs))) }
 | _,_=>none
theorem Step.nlAt {n0:Nat} {s S:St} (m:Nat) (is:List Nat) (e:Go.Eng.nlAt m is s=some S):Step n0 s S:=by
 unfold Go.Eng.nlAt at e
 split at e
 case h_2=>cases e
 rename_i cs ht hm
 simp only [Option.some.injEq] at e; subst e
 refine Step.mem fun E w g=>swap_good (Nat.le_of_ble_eq_true ht) hm rfl (fun b s1 _ q=>?_) g
 obtain ⟨c,el,fz,h1,h2,h3,h4⟩:=q
 refine ⟨c,el,fz,h1,h2,h3,fun j v hv=>?_⟩
 obtain ⟨u,k1,k2⟩:=nlI_get is cs 0 j v hv
 obtain ⟨v',q1,q2⟩:=h4 j u k1
 rcases k2 with rfl | rfl
 · exact ⟨v',q1,q2⟩
 · exact ⟨v',q1,nl_rel u v' q2⟩
def rowsA:List V→List Nat
 | []=>[]
 | .slc (some (m,_)) _ _ _ :: r=>m :: rowsA r
 | _ :: r=>rowsA r
def rbA (fr:Tr V):Nat→Nat→Option (List V)
 | _,0=>some []
 | i,k+1=>match fr.get i with
   | some v=>match rbA fr (i+1) k with
     | some l=>some (v :: l)
     | none=>none
   | none=>none
theorem rbA_spec {fr:Tr V}:∀ (k i:Nat) (l:List V),rbA fr i k=some l→l.length=k∧∀ (j:Nat) (v:V),l[j]? =some v→fr.get (i+j)=some v
 | 0,i,l,e=>by simp only [rbA,Option.some.injEq] at e; subst e; simp
 | k+1,i,l,e=>by
   simp only [rbA] at e
   split at e
   case h_2=>cases e
   rename_i v hv
   split at e
   case h_2=>cases e
   rename_i l' hl
   simp only [Option.some.injEq] at e; subst e
   obtain ⟨h1,h2⟩:=rbA_spec k (i+1) l' hl
   refine ⟨by simp [h1],fun j u hj=>?_⟩
   cases j with
   | zero=>simp at hj; subst hj; exact hv
   | succ j=>
     have:=h2 j u (by simpa using hj)
     rw [← this]; congr 1; omega
def pinZ (f0:FuncId) (args0:List V) (v:V) (S:CtrW):CtrW:=fun f args h n=>match Nat.beq f f0 with
 | true=>match Nat.blt args.length top with
   | true=>match fzS (rowsA args) (startSt args h n) with
     | some (A,s2)=>match rbA s2.fr 0 args.length,Nat.beq s2.n n with
       | some args2,true=>some (A ++ [V.nls args2=args0],v,s2.h,n)
       | _,_=>none
     | none=>none
   | false=>none
 | false=>S f args h n
theorem pinZ_ok {P:Program} {f0:FuncId} {args0:List V} {v:V} {S:CtrW} (hlt:Nat.blt f0 P.funcs.size=true) (hc:DeepTo P f0 args0 v) (hS:CtrWOk P S):CtrWOk P (pinZ f0 args0 v S):=by
 intro f args h n A v' h' n' e
 unfold pinZ at e
 split at e
 case h_2=>exact hS f args h n A v' h' n' e
 rename_i hb
 have hb:=Nat.eq_of_beq_eq_true hb
 subst hb
 split at e
 case h_2=>cases e
 rename_i hlt2
 have hlt2:args.length < top:=Nat.le_of_ble_eq_true hlt2
 split at e
 case h_2=>cases e
 rename_i A1 s2 hfz
 split at e
 case h_2=>cases e
 rename_i args2 hrb hn
 simp only [Option.some.injEq,Prod.mk.injEq] at e
 obtain ⟨rfl,rfl,rfl,rfl⟩:=e
 have hn:=Nat.eq_of_beq_eq_true hn
 refine ⟨Nat.le_of_ble_eq_true hlt,fun hA E w args' ra g hd _=>?_⟩
 obtain ⟨hfr,hsz⟩:=frel_enter (n:=args.length) ra (Nat.le_refl _) hlt2
 have r:SRel E args.length (startSt args h n) { tmps:=args'.toArray ++ Array.replicate (args.length - args'.toArray.size) undef,defers:=[] } w:=⟨g,hd,hfr,hsz,rfl⟩
 obtain ⟨E2,r2,u,_,hι⟩:=fzS_sound (n0:=n) hfz (fun a ha=>hA a (by simp [ha])) r (Nat.le_refl _)
 obtain ⟨k1,k2⟩:=rbA_spec _ _ _ hrb
 have hsz':args'.length=args.length:=vrels_length ra
 have ra2:vrels E2 args2 args':=by
  refine vrels_of_get (by omega) fun i v hv=>?_
  have hi:i < args2.length:=(List.getElem?_eq_some_iff.1 hv).1
  obtain ⟨v',q1,q2⟩:=r2.fr i v (by have:=k2 i v hv; rwa [Nat.zero_add] at this)
  refine ⟨v',?_,q2⟩
  rw [Array.getElem?_append_left (by simp; omega)] at q1
  simpa using q1
 have he:V.nls args2=args0:=hA _ (by simp)
 subst he
 refine (hc E2 s2.h n w args' (nls_rel _ _ ra2) r2.good (hn ▸ r2.dom)).mono fun en w' ⟨E3,u3,hlow,hd3,hn3,ho⟩=>⟨E3,?_,fun m hm=>(hlow m hm).trans (hι m),hd3,hn3,ho⟩
 exact (u.trans (UpdL.of u3 hlow (Nat.le_refl _))).upd hd
end Go.Eng
