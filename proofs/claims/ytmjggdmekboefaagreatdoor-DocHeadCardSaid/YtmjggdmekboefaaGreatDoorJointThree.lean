/- The engine, part R: one operation of a statement that draws, in whatever order; the statement whole. No conditions: lemmas alone. -/
import Derived.Test.YtmjggdmekboefaaGreatDoorJointTwo
import Derived.OrdersIn
import Derived.Recover
import Derived.LoopN
import Derived.LoopNIn
import Derived.RangeFuncRecord
import Derived.RangeFuncIn
import Derived.RangeFuncLeaves
import Derived.Below
set_option linter.unusedVariables false
set_option linter.unusedSimpArgs false
set_option linter.unusedSectionVars false
namespace Go.Eng
open Go
section
variable {P:Program} {cf:CallF} {ops:Array Oper} {n0 N lim:Nat} {h0:Tr O} {fr0:Tr V} {val:Nat→V} {effs:List Eff} {d:Dr} {E0:Env} {w0:World} {ds0:List Deferred}
variable {S:Nat→Bool} {ms J:Nat} {E:Env} {a:Act} {w:World} {Q:Exit→Act→World→Prop} {K:Act→World→Prop}
theorem Inv.domN {allocs:List (Nat × O)} (I:Inv ops n0 N lim h0 fr0 val effs allocs E0 w0 ds0 S ms J E a w) (hl:lim ≤ ops.size):Dom E (effAt h0 (n0+ops.size) effs J).2.2:=by
 intro k hk
 cases q:E.ι k with
 | none=>rfl
 | some p=>
   have hc:=I.cnt
   rcases I.dom k p q with h | ⟨i,b,_,h2,h3⟩ | h
   · omega
   · have:=I.inS i h2; omega
   · omega
theorem Inv.sub (_hr:RegOk ops N) (hl:lim ≤ ops.size) (f:Facts P cf ops n0 h0 fr0 val effs lim d) (ht:∀ y ∈ d.allocs,n0+y.1 < top) (I:Inv ops n0 N lim h0 fr0 val effs d.allocs E0 w0 ds0 S ms J E a w)
  {anc:Nat} (ha:∀ k,hasBit anc k=true→S k=true):
  Sub (view n0 d.allocs (effAt h0 (n0+ops.size) effs J).1 (effAt h0 (n0+ops.size) effs J).2.1 anc) (view n0 d.allocs (effAt h0 (n0+ops.size) effs J).1 (effAt h0 (n0+ops.size) effs J).2.1 ms):=by
 intro k o hk
 rcases view_cases (x:=(effAt h0 (n0+ops.size) effs J).2.1) (m:=(effAt h0 (n0+ops.size) effs J).1) (anc:=anc) ht f.one k with ⟨i,b,h1,h2,h3,h4,h5⟩ | ⟨h1,h2⟩
 · rw [h5] at hk; cases hk; subst h4
   exact view_alloc ht f.one h1 (by rw [I.bits]; exact ha i h2) h3
 · rw [h2] at hk
   rcases view_cases (x:=(effAt h0 (n0+ops.size) effs J).2.1) (m:=(effAt h0 (n0+ops.size) effs J).1) (anc:=ms) ht f.one k with ⟨i,b,g1,g2,g3,g4,g5⟩ | ⟨g1,g2⟩
   · subst g4
     have hi:=I.inS i (by rw [← I.bits]; exact g2)
     rw [I.free i (by omega) g3] at hk; cases hk
   · rw [g2]; exact hk
theorem bits_set (hb:∀ i,hasBit ms i=S i) (j:Nat):∀ i,hasBit (ms ||| 2 ^ j) i=(S i || decide (i=j)):=by
 intro i; rw [hasBit_or,hasBit_pow,hb]
 by_cases q:i=j
 · subst q; simp
 · have:¬ j=i:=fun e=>q e.symm
   simp [q,this]
theorem Inv.quiet (hr:RegOk ops N) (_hl:lim ≤ ops.size) (_f:Facts P cf ops n0 h0 fr0 val effs lim d) (I:Inv ops n0 N lim h0 fr0 val effs d.allocs E0 w0 ds0 S ms J E a w)
  {j:Nat} {o:Oper} (ho:ops[j]? =some o) (hj:j < lim) (hSj:S j=false) (hd:∀ e ∈ o.after,Region.binds .any e=true→S e.on=true) (heff:∀ (c:Nat) (e:Eff),effs[c]? =some e→e.1 ≠ j)
  {E':Env} {w':World} {v':Value} (hv:vrel E' (val j) v') (hu:Upd E0 h0 w0 E' (view n0 d.allocs (effAt h0 (n0+ops.size) effs J).1 (effAt h0 (n0+ops.size) effs J).2.1 (ms ||| 2 ^ j)) w') (hle:E.le E')
  (hold:∀ k,k < n0→E'.ι k=E.ι k) (hdom:∀ k p,E'.ι k=some p→E.ι k=some p ∨ (∃ b,(j,b) ∈ d.allocs∧k=n0+j)):
  Inv ops n0 N lim h0 fr0 val effs d.allocs E0 w0 ds0 (fun i=>S i || decide (i=j)) (ms ||| 2 ^ j) J E' (a.put o.dst v') w':=by
 obtain ⟨g1,g2⟩:=I.frame hr ho hle hv
 refine ⟨bits_set I.bits j,fun i hi=>?_,fun i q hi hq e he hb=>?_,fun c e he=>?_,I.Jle,g1,g2,hu,fun k hk=>by rw [hold k hk]; exact I.old k hk,fun k p hp=>?_,I.free,I.cnt,by rw [put_size]; exact I.size,by rw [put_defers]; exact I.dfs⟩
 · rcases Bool.or_eq_true _ _ |>.mp hi with h | h
   · exact I.inS i h
   · simp at h; omega
 · rcases Bool.or_eq_true _ _ |>.mp hi with h | h
   · rw [I.closed i q h hq e he hb]; rfl
   · simp at h; subst h; rw [ho] at hq; cases hq; rw [hd e he hb]; rfl
 · rw [← I.effJ c e he]
   simp [heff c e he]
 · rcases hdom k p hp with h | ⟨b,h1,h2⟩
   · rcases I.dom k p h with h | ⟨i,b,h1,h2,h3⟩ | h
     · exact .inl h
     · exact .inr (.inl ⟨i,b,h1,by rw [h2]; rfl,h3⟩)
     · exact .inr (.inr h)
   · exact .inr (.inl ⟨j,b,h1,by simp,h2⟩)
theorem Inv.free' (hr:RegOk ops N) (hl:lim ≤ ops.size) (f:Facts P cf ops n0 h0 fr0 val effs lim d) (ht:∀ y ∈ d.allocs,n0+y.1 < top) (I:Inv ops n0 N lim h0 fr0 val effs d.allocs E0 w0 ds0 S ms J E a w)
  {anc:Nat} (ha:∀ k,hasBit anc k=true→S k=true) (hm:∀ k,hasBit (effAt h0 (n0+ops.size) effs J).1 k=true→hasBit anc k=true) {E':Env} {h:Tr O} {w':World}
  (hu:Upd E (view n0 d.allocs (effAt h0 (n0+ops.size) effs J).1 (effAt h0 (n0+ops.size) effs J).2.1 anc) w E' h w') (hlow:∀ k,k < (effAt h0 (n0+ops.size) effs J).2.2→E'.ι k=E.ι k):
  ∀ i,i < ops.size→hasBit anc i=false→h.get (n0+i)=none:=by
 intro i hi hbit
 cases q:h.get (n0+i) with
 | none=>rfl
 | some o=>
   exfalso
   obtain ⟨b,s,h1,_⟩:=hu.good.rel _ o q
   have hlt:n0+i < (effAt h0 (n0+ops.size) effs J).2.2:=by have:=I.cnt; omega
   have hE:=h1
   rw [hlow _ hlt] at hE
   have hmi:hasBit (effAt h0 (n0+ops.size) effs J).1 i=false:=by
    cases c:hasBit (effAt h0 (n0+ops.size) effs J).1 i with
    | false=>rfl
    | true=>rw [hm i c] at hbit; cases hbit
   rcases I.dom _ _ hE with c | ⟨i',b',k1,k2,k3⟩ | c
   · omega
   · have:i'=i:=by omega
     subst this
     have hlive:(view n0 d.allocs (effAt h0 (n0+ops.size) effs J).1 (effAt h0 (n0+ops.size) effs J).2.1 ms).get (n0+i')=some b':=view_alloc ht f.one k1 (by rw [I.bits]; exact k2) hmi
     obtain ⟨m0,s0,a1,a2,_⟩:=hu.img (n0+i') b s (by rw [q]; simp) h1 (I.upd.good.bnd _ _ _ hE)
     have hx:(view n0 d.allocs (effAt h0 (n0+ops.size) effs J).1 (effAt h0 (n0+ops.size) effs J).2.1 anc).get (n0+i')=none:=by
      rcases view_cases (x:=(effAt h0 (n0+ops.size) effs J).2.1) (m:=(effAt h0 (n0+ops.size) effs J).1) (anc:=anc) ht f.one (n0+i') with ⟨i2,b2,g1,g2,g3,g4,g5⟩ | ⟨g1,g2⟩
      · have:i2=i':=by omega
        subst this; rw [hbit] at g2; cases g2
      · rw [g2]; exact I.free i' hi hmi
     have hne:m0 ≠ n0+i':=by intro e; subst e; exact a1 hx
     have hwr:b'.wr=true:=by
      obtain ⟨fr,_,_,_,_,q,_⟩:=f.allocok i' _ b' k1 (Array.getElem?_eq_getElem hi)
      exact q
     refine I.upd.good.inj (n0+i') m0 b s s0 (fun q=>hne q.symm) ⟨b',hlive,hwr⟩ ?_ hE a2
     cases c:(view n0 d.allocs (effAt h0 (n0+ops.size) effs J).1 (effAt h0 (n0+ops.size) effs J).2.1 anc).get m0 with
     | none=>exact absurd c a1
     | some o'=>rw [I.sub hr hl f ht ha m0 o' c]; simp
   · omega
theorem Inv.effect (hr:RegOk ops N) (hl:lim ≤ ops.size) (f:Facts P cf ops n0 h0 fr0 val effs lim d) (ht:∀ y ∈ d.allocs,n0+y.1 < top) (I:Inv ops n0 N lim h0 fr0 val effs d.allocs E0 w0 ds0 S ms J E a w)
  {j:Nat} {o:Oper} (ho:ops[j]? =some o) (hj:j < lim) (hSj:S j=false) (hd:∀ e ∈ o.after,Region.binds .any e=true→S e.on=true) (hno:∀ b,(j,b) ∉ d.allocs)
  {h:Tr O} {n:Nat} (he:effs[J]? =some (j,msk ops j,h,n)) {E':Env} {w':World} {v':Value} (hv:vrel E' (val j) v')
  (hu:Upd E (view n0 d.allocs (effAt h0 (n0+ops.size) effs J).1 (effAt h0 (n0+ops.size) effs J).2.1 (msk ops j)) w E' h w')
  (hlow:∀ k,k < (effAt h0 (n0+ops.size) effs J).2.2→E'.ι k=E.ι k) (hdom:Dom E' n) (hn:(effAt h0 (n0+ops.size) effs J).2.2 ≤ n):
  Inv ops n0 N lim h0 fr0 val effs d.allocs E0 w0 ds0 (fun i=>S i || decide (i=j)) (ms ||| 2 ^ j) (J+1) E' (a.put o.dst v') w':=by
 have hJ:J < effs.length:=(List.getElem?_eq_some_iff.1 he).1
 have hat:effAt h0 (n0+ops.size) effs (J+1)=(msk ops j,h,n):=by simp only [effAt,he]
 have hanc:∀ k,hasBit (msk ops j) k=true→S k=true:=fun k hk=>anc_ready hr I.closed ho hd hk
 have hm:∀ k,hasBit (effAt h0 (n0+ops.size) effs J).1 k=true→hasBit (msk ops j) k=true:=by
  intro k hk
  cases J with
  | zero=>simp [effAt,hasBit_zero] at hk
  | succ c=>
    have hc:effs[c]? =some (effs[c]'(by omega)):=List.getElem?_eq_getElem (by omega)
    simp only [effAt,hc] at hk
    obtain ⟨_,o',_,_,h3⟩:=f.effok c _ hc
    rw [h3] at hk
    exact msk_trans hr.edges j _ k (f.chain (c+1) c _ _ (by omega) he hc) hk
 have hfree:=I.free' hr hl f ht hanc hm hu hlow
 obtain ⟨g1,g2⟩:=I.frame hr ho hu.le hv
 have hc:=I.cnt
 refine ⟨bits_set I.bits j,fun i hi=>?_,fun i q hi hq e he' hb=>?_,fun c e he'=>?_,hJ,g1,g2,?_,fun k hk=>?_,fun k p hp=>?_,?_,?_,by rw [put_size]; exact I.size,by rw [put_defers]; exact I.dfs⟩
 · rcases Bool.or_eq_true _ _ |>.mp hi with h | h
   · exact I.inS i h
   · simp at h; omega
 · rcases Bool.or_eq_true _ _ |>.mp hi with h | h
   · rw [I.closed i q h hq e he' hb]; rfl
   · simp at h; subst h; rw [ho] at hq; cases hq; rw [hd e he' hb]; rfl
 · have h1:=I.effJ c e he'
   constructor
   · intro hs
     rcases Bool.or_eq_true _ _ |>.mp hs with q | q
     · have:=h1.1 q; omega
     · simp at q
       by_cases hcJ:c < J+1
       · exact hcJ
       · have:=f.chain c J e _ (by omega) he' he
         simp only at this
         rw [q] at this
         have:=msk_lt hr.edges j j this
         omega
   · intro hc'
     by_cases q:c < J
     · rw [h1.2 q]; rfl
     · have:c=J:=by omega
       subst this
       rw [he] at he'; cases he'; simp
 · rw [hat]
   refine I.upd.trans (Upd.frame I.upd.good (I.sub hr hl f ht hanc) hu fun k=>?_)
   rcases view_cases (x:=h) (m:=msk ops j) (anc:=ms ||| 2 ^ j) ht f.one k with ⟨i,b,k1,k2,k3,k4,k5⟩ | ⟨k1,k2⟩
   · simp only [k5]
     subst k4
     have hi:S i=true:=by
      rw [bits_set I.bits] at k2
      rcases Bool.or_eq_true _ _ |>.mp k2 with q | q
      · exact q
      · simp at q; subst q; exact absurd k1 (hno b)
     have hmi:hasBit (effAt h0 (n0+ops.size) effs J).1 i=false:=by
      cases c:hasBit (effAt h0 (n0+ops.size) effs J).1 i with
      | false=>rfl
      | true=>rw [hm i c] at k3; cases k3
     have hi':i < ops.size:=by have:=I.inS i hi; omega
     rw [hfree i hi' k3]
     have hx:(view n0 d.allocs (effAt h0 (n0+ops.size) effs J).1 (effAt h0 (n0+ops.size) effs J).2.1 (msk ops j)).get (n0+i)=none:=by
      rcases view_cases (x:=(effAt h0 (n0+ops.size) effs J).2.1) (m:=(effAt h0 (n0+ops.size) effs J).1) (anc:=msk ops j) ht f.one (n0+i) with ⟨i2,b2,q1,q2,q3,q4,q5⟩ | ⟨q1,q2⟩
      · have:i2=i:=by omega
        subst this; rw [k3] at q2; cases q2
      · rw [q2]; exact I.free i hi' hmi
     simp only [hx,if_true]
     rw [view_alloc ht f.one k1 (by rw [I.bits]; exact hi) hmi]
   · rw [k2]
     cases hk:h.get k with
     | some o'=>rfl
     | none=>
       simp only
       split
       · rename_i hx
         rcases view_cases (x:=(effAt h0 (n0+ops.size) effs J).2.1) (m:=(effAt h0 (n0+ops.size) effs J).1) (anc:=ms) ht f.one k with ⟨i,b,q1,q2,q3,q4,q5⟩ | ⟨q1,q2⟩
         · exfalso
           subst q4
           cases c:hasBit (msk ops j) i with
           | false=>exact k1 i b q1 (by rw [bits_set I.bits]; rw [I.bits] at q2; rw [q2]; rfl) c rfl
           | true=>
             rw [view_alloc ht f.one q1 c q3] at hx; cases hx
         · rw [q2]
           rcases view_cases (x:=(effAt h0 (n0+ops.size) effs J).2.1) (m:=(effAt h0 (n0+ops.size) effs J).1) (anc:=msk ops j) ht f.one k with ⟨i,b,r1,r2,r3,r4,r5⟩ | ⟨r1,r2⟩
           · rw [r5] at hx; cases hx
           · rw [r2] at hx; exact hx.symm
       · rfl
 · rw [hlow k (by omega)]; exact I.old k hk
 · by_cases q:k < (effAt h0 (n0+ops.size) effs J).2.2
   · rw [hlow k q] at hp
     rcases I.dom k p hp with h | ⟨i,b,h1,h2,h3⟩ | h
     · exact .inl h
     · exact .inr (.inl ⟨i,b,h1,by rw [h2]; rfl,h3⟩)
     · rw [hat]; exact .inr (.inr ⟨h.1,by show k < n; omega⟩)
   · rw [hat]
     refine .inr (.inr ⟨by omega,?_⟩)
     by_cases q2:k < n
     · exact q2
     · rw [hdom k (by omega)] at hp; cases hp
 · rw [hat]; exact fun i hi hb=>hfree i hi hb
 · rw [hat]; simp only; omega
end
end Go.Eng
namespace Go.Eng
open Go
section
variable {P:Program} {cf:CallF} {ops:Array Oper} {n0 N lim:Nat} {h0:Tr O} {fr0:Tr V} {val:Nat→V} {effs:List Eff} {d:Dr} {E0:Env} {w0:World} {ds0:List Deferred}
variable {S:Nat→Bool} {ms J:Nat} {E:Env} {a:Act} {w:World} {Q:Exit→Act→World→Prop} {K:Act→World→Prop} {rnd:Option Nat}
theorem Inv.step (hcf:CallOk P cf) (hr:RegOk ops N) (hl:lim ≤ ops.size) (f:Facts P cf ops n0 h0 fr0 val effs lim d) (ht:∀ y ∈ d.allocs,n0+y.1 < top) (I:Inv ops n0 N lim h0 fr0 val effs d.allocs E0 w0 ds0 S ms J E a w)
  {j:Nat} {o:Oper} (ho:ops[j]? =some o) (hj:j < lim) (hSj:S j=false) (hd:∀ e ∈ o.after,Region.binds .any e=true→S e.on=true)
  (hk:∀ J' E' a' w',Inv ops n0 N lim h0 fr0 val effs d.allocs E0 w0 ds0 (fun i=>S i || decide (i=j)) (ms ||| 2 ^ j) J' E' a' w'→K a' w'):wpOpIn (fz rnd) 0 P ops Q j K a w:=by
 have hjs:j < ops.size:=by omega
 have hanc:∀ k,hasBit (msk ops j) k=true→S k=true:=fun k hk=>anc_ready hr I.closed ho hd hk
 have hmj:hasBit (effAt h0 (n0+ops.size) effs J).1 j=false:=by
  cases c:hasBit (effAt h0 (n0+ops.size) effs J).1 j with
  | false=>rfl
  | true=>rw [I.maskS hr f c] at hSj; cases hSj
 have hfresh:E.ι (n0+j)=none:=by
  cases q:E.ι (n0+j) with
  | none=>rfl
  | some p=>
    rcases I.dom _ p q with h | ⟨i,b,_,h2,h3⟩ | h
    · omega
    · have:i=j:=by omega
      subst this; rw [hSj] at h2; cases h2
    · omega
 have hsame:(∀ b,(j,b) ∉ d.allocs)→∀ k,(view n0 d.allocs (effAt h0 (n0+ops.size) effs J).1 (effAt h0 (n0+ops.size) effs J).2.1 (ms ||| 2 ^ j)).get k=
   (view n0 d.allocs (effAt h0 (n0+ops.size) effs J).1 (effAt h0 (n0+ops.size) effs J).2.1 ms).get k:=by
  intro hno k
  rcases view_cases (x:=(effAt h0 (n0+ops.size) effs J).2.1) (m:=(effAt h0 (n0+ops.size) effs J).1) (anc:=ms ||| 2 ^ j) ht f.one k with ⟨i,b,k1,k2,k3,k4,k5⟩ | ⟨k1,k2⟩
  · subst k4
    rw [k5,view_alloc ht f.one k1 ?_ k3]
    rw [bits_set I.bits] at k2
    rcases Bool.or_eq_true _ _ |>.mp k2 with q | q
    · rw [I.bits]; exact q
    · simp at q; subst q; exact absurd k1 (hno b)
  · rw [k2,view_other ht fun i b q1 q2 q3=>k1 i b q1 (by rw [bits_set I.bits]; rw [I.bits] at q2; rw [q2]; rfl) q3]
 unfold wpOpIn
 simp only [ho]
 by_cases hal:∃ b,(j,b) ∈ d.allocs
 ·
  obtain ⟨b,hb⟩:=hal
  obtain ⟨fr,f1,f2,f3,f4,f6,f5⟩:=f.allocok j o b hb ho
  rw [if_pos (I.wanted hr ho hSj hd f1 f2)]
  refine (wp_val I.upd.good hfresh (I.opds hr ho hSj hd f1) (f5 _) fun E' w' v' q1 q2 q3 _=>hk J E' _ w' ?_)
  refine I.quiet hr hl f ho hj hSj hd (fun c e he hne=>?_) q1 ?_ q2.le (fun k hk=>q3 k (by omega)) (fun k p hp=>?_)
  · obtain ⟨_,o',h1,h2,_⟩:=f.effok c e he
    rw [hne,ho] at h1; cases h1; rw [f3] at h2; cases h2
  · refine I.upd.trans (q2.ext fun k=>?_)
    by_cases hkj:k=n0+j
    · subst hkj
      rw [Tr.get_set_same _ _ f4,view_alloc ht f.one hb (by rw [bits_set I.bits]; simp) hmj]
    · rw [Tr.get_set_ne _ _ f4 hkj]
      rcases view_cases (x:=(effAt h0 (n0+ops.size) effs J).2.1) (m:=(effAt h0 (n0+ops.size) effs J).1) (anc:=ms ||| 2 ^ j) ht f.one k with ⟨i,b',k1,k2,k3,k4,k5⟩ | ⟨k1,k2⟩
      · subst k4
        rw [k5,view_alloc ht f.one k1 ?_ k3]
        rw [bits_set I.bits] at k2
        rcases Bool.or_eq_true _ _ |>.mp k2 with q | q
        · rw [I.bits]; exact q
        · simp at q; subst q; exact absurd rfl hkj
      · rw [k2,view_other ht fun i b q1 q2 q3=>k1 i b q1 (by rw [bits_set I.bits]; rw [I.bits] at q2; rw [q2]; rfl) q3]
  · by_cases hkj:k=n0+j
    · exact .inr ⟨b,hb,hkj⟩
    · rw [q3 k hkj] at hp; exact .inl hp
 · have hno:∀ b,(j,b) ∉ d.allocs:=fun b q=>hal ⟨b,q⟩
   obtain ⟨fr,f1,f2⟩:=f.opok j o hj ho
   have look:wantedV ops o fr=some true→isEff o.op=false→stepOp P o fr (view n0 d.allocs (effAt h0 (n0+ops.size) effs J).1 (effAt h0 (n0+ops.size) effs J).2.1 ms) (n0+j)=
     some (.val (val j) (view n0 d.allocs (effAt h0 (n0+ops.size) effs J).1 (effAt h0 (n0+ops.size) effs J).2.1 ms) (n0+j))→
     (if Region.wanted o (yielded ops a.tmps)=true then o.wpIn (fz rnd) 0 P a w K Q else (∀ f,o.about P w a.eval=some f→(fz rnd).fn f)∧K (a.put o.dst undef) w):=by
    intro hw hne hs
    rw [if_pos (I.wanted hr ho hSj hd f1 hw)]
    refine (wp_val I.upd.good hfresh (I.opds hr ho hSj hd f1) hs fun E' w' v' q1 q2 q3 q4=>hk J E' _ w' ?_)
    rcases q4 with ⟨_,rfl⟩ | q4
    · refine I.quiet hr hl f ho hj hSj hd (fun c e he hne'=>?_) q1 (I.upd.trans (q2.ext (hsame hno))) q2.le (fun _ _=>rfl) (fun _ _ hp=>.inl hp)
      obtain ⟨_,o',h1,h2,_⟩:=f.effok c e he
      rw [hne',ho] at h1; cases h1; rw [hne] at h2; cases h2
    · omega
   rcases f2 with ⟨hw,hv⟩ | ⟨_,_,b,q3,_⟩ | ⟨hw,hne,hall⟩ | ⟨hw,hne,hmem,hread⟩ | ⟨hw,heff,c,h,n,hc,hrun⟩
   ·
    rw [if_neg (by rw [I.wanted hr ho hSj hd f1 hw]; simp)]
    refine ⟨fun _ _=>trivial,?_⟩
    refine hk J E _ w (I.quiet (v':=undef) hr hl f ho hj hSj hd (fun c e he hne'=>?_) (by rw [hv]; exact ⟨[],rfl,rfl⟩) (I.upd.ext (hsame hno)) E.le_refl (fun _ _=>rfl) (fun _ _ hp=>.inl hp))
    have hw1:=I.wanted hr ho hSj hd f1 hw
    have hcc:=f.wantedEff c e o he (by rw [hne']; exact ho)
    obtain ⟨fr3,g3,g4⟩:=hcc
    rw [hne'] at g3
    have hw2:=I.wanted hr ho hSj hd g3 g4
    rw [hw1] at hw2; cases hw2
   · exact absurd q3 (hno b)
   · exact look hw hne (hall _)
   · have c1:∀ (c':Nat) (e:Eff),J ≤ c'→effs[c']? =some e→hasBit (msk ops j) e.1=false:=by
      intro c' e hc' he
      cases q:hasBit (msk ops j) e.1 with
      | false=>rfl
      | true=>have:=(I.effJ c' e he).1 (hanc _ q); omega
     have c2:∀ (c':Nat) (e:Eff),c' < J→effs[c']? =some e→hasBit e.2.1 j=false:=by
      intro c' e hc' he
      obtain ⟨_,o',_,_,h3⟩:=f.effok c' e he
      cases q:hasBit e.2.1 j with
      | false=>rfl
      | true=>
        rw [h3] at q
        rw [I.anc hr ((I.effJ c' e he).2 hc') q] at hSj; cases hSj
     obtain ⟨y,hy⟩:=hread J I.Jle c1 c2
     rcases _root_.Go.Eng.quiet hne hy with ⟨u,h1,h2⟩ | ⟨u,b,h1,h2,h3⟩
     · cases h1
       exact look hw hne (h2 _ (I.sub hr hl f ht hanc))
     · simp only [R.val.injEq] at h2; omega
   ·
    have hcJ:c=J:=by
     have h1:¬ c < J:=by
      intro q
      have:=(I.effJ c _ hc).2 q
      simp only at this; rw [hSj] at this; cases this
     by_cases q:J < c
     · have hJl:J < effs.length:=by have:=(List.getElem?_eq_some_iff.1 hc).1; omega
       have he:effs[J]? =some effs[J]:=List.getElem?_eq_getElem hJl
       have:=f.chain c J _ _ q hc he
       have:=(I.effJ J _ he).1 (hanc _ this)
       omega
     · omega
    subst hcJ
    rw [if_pos (I.wanted hr ho hSj hd f1 hw)]
    have hgood:=I.upd.good.sub (I.sub hr hl f ht hanc)
    have hdomN:=I.domN hl
    simp only at hrun
    rcases hrun with hs | ⟨g,args,hs,hcall⟩
    · refine wp_val hgood (hdomN _ (Nat.le_refl _)) (I.opds hr ho hSj hd f1) hs fun E' w' v' q1 q2 q3 q4=>hk (c+1) E' _ w' ?_
      refine I.effect hr hl f ht ho hj hSj hd hno hc q1 q2 (fun k hk=>q3 k (by omega)) ?_ ?_
      · rcases q4 with ⟨rfl,rfl⟩ | rfl
        · exact hdomN
        · intro k hk; rw [q3 k (by omega)]; exact hdomN k (by omega)
      · rcases q4 with ⟨rfl,_⟩ | rfl <;> omega
    · refine wp_call hcf hgood hdomN (I.opds hr ho hSj hd f1) hs hcall fun E' w' q2 q3 q4 q5=>?_
      intro v' q1
      exact hk (c+1) E' _ w' (I.effect hr hl f ht ho hj hSj hd hno hc q1 q2 q3 q4 q5)
end
end Go.Eng
namespace Go.Eng
open Go
theorem filter_lt {α:Type} {p q:α→Bool} {x:α}:∀ {l:List α},x ∈ l→p x=true→q x=false→(∀ y,q y=true→p y=true)→(l.filter q).length < (l.filter p).length
 | [],h,_,_,_=>by simp at h
 | y :: l,h,hp,hq,hm=>by
   have hle:(l.filter q).length ≤ (l.filter p).length:=by
    clear h
    induction l with
    | nil=>simp
    | cons z l ih=>
      simp only [List.filter_cons]
      by_cases c:q z=true
      · rw [if_pos c,if_pos (hm z c)]; simp; exact ih
      · rw [if_neg c]
        by_cases c2:p z=true
        · rw [if_pos c2]; simp; omega
        · rw [if_neg c2]; exact ih
   simp only [List.filter_cons]
   rcases List.mem_cons.1 h with rfl | h
   · rw [if_pos hp,if_neg (by rw [hq]; simp)]; simp; omega
   · have ih:=filter_lt h hp hq hm
     by_cases c:q y=true
     · rw [if_pos c,if_pos (hm y c)]; simp; exact ih
     · rw [if_neg c]
       by_cases c2:p y=true
       · rw [if_pos c2]; simp; omega
       · rw [if_neg c2]; exact ih
def unl (n:Nat) (listed:Array Bool):Nat:=((List.range n).filter fun i=>!listed.getD i false).length
theorem getD_set' {listed:Array Bool} {j:Nat} (hj:j < listed.size) (i:Nat):(listed.setIfInBounds j true).getD i false=(listed.getD i false || decide (i=j)):=by
 simp only [Array.getD_eq_getD_getElem?,Array.getElem?_setIfInBounds]
 by_cases q:i=j
 · subst q; simp [hj]
 · have:¬ j=i:=fun e=>q e.symm
   simp [q,this]
section
variable {P:Program} {cf:CallF} {ops:Array Oper} {n0 N lim:Nat} {h0:Tr O} {fr0:Tr V} {val:Nat→V} {effs:List Eff} {d:Dr} {E0:Env} {w0:World} {ds0:List Deferred}
variable {Q:Exit→Act→World→Prop} {rnd:Option Nat}
theorem any_sound (hcf:CallOk P cf) (hr:RegOk ops N) (hl:lim ≤ ops.size) (f:Facts P cf ops n0 h0 fr0 val effs lim d) (ht:∀ y ∈ d.allocs,n0+y.1 < top)
  (hQ:lim=ops.size→∀ S ms J E a w,Inv ops n0 N lim h0 fr0 val effs d.allocs E0 w0 ds0 S ms J E a w→(∀ i,i < ops.size→S i=true)→Q .normal a w)
  (hP:lim < ops.size→lim+1=ops.size∧∀ S ms J E a w o,Inv ops n0 N lim h0 fr0 val effs d.allocs E0 w0 ds0 S ms J E a w→ops[lim]? =some o→
   (∀ e ∈ o.after,Region.binds .any e=true→S e.on=true)→∀ K,wpOpIn (fz rnd) 0 P ops Q lim K a w):
  ∀ (fuel:Nat) (listed:Array Bool) (ms J:Nat) (E:Env) (a:Act) (w:World),listed.size=ops.size→unl ops.size listed ≤ fuel→
    Inv ops n0 N lim h0 fr0 val effs d.allocs E0 w0 ds0 (fun i=>listed.getD i false) ms J E a w→wpAnyIn (fz rnd) 0 P .any ops Q fuel listed a w:=by
 have done:∀ (listed:Array Bool) (ms J:Nat) (E:Env) (a:Act) (w:World),listed.size=ops.size→Inv ops n0 N lim h0 fr0 val effs d.allocs E0 w0 ds0 (fun i=>listed.getD i false) ms J E a w→
   Region.ready .any ops listed=[]→Q .normal a w:=by
  intro listed ms J E a w hs I hready
  have all:∀ i,i < ops.size→listed.getD i false=true:=by
   intro i
   induction i using Nat.strongRecOn with
   | _ i ih=>
     intro hi
     cases q:listed.getD i false with
     | true=>rfl
     | false=>
       exfalso
       have ho:ops[i]? =some ops[i]:=Array.getElem?_eq_getElem hi
       have:i ∈ Region.ready .any ops listed:=mem_ready.2 ⟨by
        rw [Array.getD_eq_getD_getElem?,Array.getElem?_eq_getElem (by omega)] at q ⊢; exact q,ops[i],ho,fun e he hb=>by
        have:=hr.edges i _ ho e he hb
        exact ih e.on this (by omega)⟩
       rw [hready] at this; simp at this
  have hlim:lim=ops.size:=by
   by_cases q:lim < ops.size
   · have:=I.inS lim (all lim q); omega
   · omega
  exact hQ hlim _ ms J E a w I all
 intro fuel
 induction fuel with
 | zero=>
   intro listed ms J E a w hs hu I
   have hready:Region.ready .any ops listed=[]:=by
    rw [List.eq_nil_iff_forall_not_mem]
    intro j hj
    obtain ⟨h1,o,ho,_⟩:=mem_ready.1 hj
    have hjs:=(Array.getElem?_eq_some_iff.1 ho).1
    have hz:unl ops.size listed=0:=by omega
    unfold unl at hz
    have:=List.eq_nil_iff_length_eq_zero.2 hz
    have hm:j ∈ (List.range ops.size).filter fun i=>!listed.getD i false:=List.mem_filter.2 ⟨List.mem_range.2 hjs,by
     rw [Array.getD_eq_getD_getElem?,Array.getElem?_eq_getElem (by omega)] at h1 ⊢
     simp at h1; simp [h1]⟩
    rw [this] at hm; simp at hm
   exact ⟨hready,done listed ms J E a w hs I hready⟩
 | succ fuel ih=>
   intro listed ms J E a w hs hu I
   refine ⟨done listed ms J E a w hs I,fun j hj=>?_⟩
   obtain ⟨h1,o,ho,hd⟩:=mem_ready.1 hj
   have hjs:=(Array.getElem?_eq_some_iff.1 ho).1
   have hSj:listed.getD j false=false:=by
    rw [Array.getD_eq_getD_getElem?,Array.getElem?_eq_getElem (by omega)] at h1 ⊢; exact h1
   by_cases hjl:j < lim
   · refine I.step hcf hr hl f ht ho hjl hSj hd fun J' E' a' w' I'=>?_
     refine ih _ (ms ||| 2 ^ j) J' E' a' w' (by simp; exact hs) ?_ ?_
     · have:unl ops.size (listed.setIfInBounds j true) < unl ops.size listed:=by
        refine filter_lt (x:=j) (List.mem_range.2 hjs) (by rw [hSj]; rfl) (by rw [getD_set' (by omega)]; simp) fun y hy=>?_
        rw [getD_set' (by omega)] at hy
        simp at hy ⊢; exact hy.1
       omega
     · have:(fun i=>(listed.setIfInBounds j true).getD i false)=fun i=>(listed.getD i false || decide (i=j)):=funext fun i=>getD_set' (by omega) i
       rw [this]; exact I'
   · have hlt:lim < ops.size:=by omega
     obtain ⟨p1,p2⟩:=hP hlt
     have:j=lim:=by omega
     subst this
     exact p2 _ ms J E a w o I ho hd _
end
theorem wp_drawn {rnd:Option Nat} {P:Program} {cf:CallF} {ops:Array Oper} {N id:Nat} {s s':St} {x:X} {E0:Env} {a0:Act} {w0:World} {Q:Exit→Act→World→Prop} (hcf:CallOk P cf) (hr:RegOk ops N) (hm:P.follows .mixedOrders=true)
  (e:drawn P cf ops s=some (x,s')) (g:Good E0 s.h w0) (hd:Dom E0 s.n) (hf:frel E0 s.fr a0) (hN:a0.tmps.size=N)
  (hq:∀ E' a' w' x',Upd E0 s.h w0 E' s'.h w'→(∀ k,k < s.n→E'.ι k=E0.ι k)→Dom E' s'.n→s.n ≤ s'.n→frel E' s'.fr a'→a'.tmps.size=N→a'.defers=a0.defers→s'.dfs=s.dfs→xrel E' x x'→Q x' a' w'):
  (Code.region id ops true).wpIn (fz rnd) 0 P Q a0 w0:=by
 refine wpIn_region_any hm ?_
 unfold drawn at e
 split at e
 · rename_i htop
   have init:=facts_init (P:=P) (cf:=cf) (ops:=ops) (n0:=s.n) s.fr s.h
   have start:∀ (lim:Nat) (val:Nat→V) (effs:List Eff) (allocs:List (Nat × O)),Inv ops s.n N lim s.h s.fr val effs allocs E0 w0 a0.defers (fun i=>(Array.replicate ops.size false).getD i false) 0 0 E0 a0 { w0 with drawn:=w0.drawn+1 }:=by
    intro lim val effs allocs
    have hS:∀ i,(Array.replicate ops.size false).getD i false=false:=by
     intro i; rw [Array.getD_eq_getD_getElem?]
     by_cases q:i < ops.size
     · rw [Array.getElem?_eq_getElem (by simpa using q)]; simp
     · rw [Array.getElem?_eq_none (by simpa using q)]; rfl
    have hv0:∀ k,(view s.n allocs (effAt s.h (s.n+ops.size) effs 0).1 (effAt s.h (s.n+ops.size) effs 0).2.1 0).get k=s.h.get k:=by
     intro k
     have:∀ l:List (Nat × O),view s.n l (effAt s.h (s.n+ops.size) effs 0).1 (effAt s.h (s.n+ops.size) effs 0).2.1 0=s.h:=by
      intro l
      induction l with
      | nil=>rfl
      | cons y l ih=>obtain ⟨i,b⟩:=y; simp only [view,hasBit_zero,Bool.false_and,Bool.false_eq_true,if_false]; exact ih
     rw [this]
    refine ⟨fun i=>by rw [hasBit_zero,hS],fun i hi=>?_,fun j o hj=>?_,fun c e' _=>?_,Nat.zero_le _,fun j o t hj=>?_,fun t v hv _=>hf t v hv,(Upd.drew g).ext hv0,fun _ _=>rfl,fun k p hp=>?_,fun i _ _=>?_,Nat.le_refl _,hN,rfl⟩
    · rw [hS] at hi; cases hi
    · rw [hS] at hj; cases hj
    · rw [hS]; constructor
      · intro q; cases q
      · intro q; omega
    · rw [hS] at hj; cases hj
    · by_cases q:k < s.n
      · exact .inl q
      · rw [hd k (by omega)] at hp; cases hp
    · show s.h.get (s.n+i)=none
      cases q:s.h.get (s.n+i) with
      | none=>rfl
      | some o=>
        obtain ⟨b,t,h1,_⟩:=g.rel _ _ q
        rw [hd _ (by omega)] at h1; cases h1
   have hu0:unl ops.size (Array.replicate ops.size false) ≤ ops.size:=by
    unfold unl
    exact Nat.le_trans (List.length_filter_le _ _) (by simp)
   have hrun:=fun (r:Dr ⊕ (Tr V × V × Tr O × Nat)) q=>facts_run (N:=N) hr ops.toList 0 _ _ _ r (by simp) init q
   split at e
   · rename_i d hdr
     simp only [Option.some.injEq,Prod.mk.injEq] at e; obtain ⟨rfl,rfl⟩:=e
     obtain ⟨val,effs,f⟩:=hrun _ hdr
     rw [show max 0 ops.size=ops.size by omega] at f
     have ht:∀ y ∈ d.allocs,s.n+y.1 < top:=fun y hy=>by have:=f.allocs y hy; omega
     refine any_sound hcf hr (Nat.le_refl _) f ht (fun _ S ms J E a w I hall=>?_) (fun q=>by omega) ops.size _ 0 0 E0 a0 _ (by simp) hu0 (start ops.size val effs d.allocs)
     have hJ:J=effs.length:=by
      have h1:=I.Jle
      by_cases q:J < effs.length
      · have he:effs[J]? =some effs[J]:=List.getElem?_eq_getElem q
        have:=(I.effJ J _ he).1 (hall _ (f.effok J _ he).1)
        omega
      · omega
     have ec1:d.cur.1=(effAt s.h (s.n+ops.size) effs J).1:=by rw [hJ,f.cur]
     have ec2:d.cur.2=(effAt s.h (s.n+ops.size) effs J).2.1:=by rw [hJ,f.cur]
     have en:d.n=(effAt s.h (s.n+ops.size) effs J).2.2:=by rw [hJ,f.n]
     refine hq E a w .normal ?_ I.old ?_ ?_ ?_ I.size I.dfs rfl trivial
     · refine I.upd.ext fun k=>?_
       simp only [ec1,ec2]
       have hbits:∀ i,i < ops.size→hasBit (2 ^ ops.size - 1) i=true:=fun i hi=>by
        unfold hasBit; rw [Nat.testBit_two_pow_sub_one]; simpa using hi
       rcases view_cases (n0:=s.n) (x:=(effAt s.h (s.n+ops.size) effs J).2.1) (m:=(effAt s.h (s.n+ops.size) effs J).1) (anc:=2 ^ ops.size - 1) ht f.one k with ⟨i,b,k1,k2,k3,k4,k5⟩ | ⟨k1,k2⟩
       · subst k4
         rw [k5,view_alloc ht f.one k1 (by rw [I.bits]; exact hall i (f.allocs _ k1)) k3]
       · rw [k2,view_other ht fun i b q1 q2 q3=>k1 i b q1 (hbits i (f.allocs _ q1)) q3]
     · show Dom E d.n
       rw [en]; exact I.domN (Nat.le_refl _)
     · show s.n ≤ d.n
       rw [en]; have:=I.cnt; omega
     · intro t v hv
       by_cases q:∃ j o,j < ops.size∧ops[j]? =some o∧o.dst=some t
       · obtain ⟨j,o,q1,q2,q3⟩:=q
         have:=f.fr.new j o t q1 q2 q3
         simp only at hv
         rw [this] at hv; cases hv
         exact I.f1 j o t (hall j q1) q2 q3
       · have:=f.fr.old t fun i o hi ho hdt=>q ⟨i,o,hi,ho,hdt⟩
         simp only at hv
         rw [this] at hv
         exact I.f2 t v hv fun j o hj ho hdt=>q ⟨j,o,I.inS j hj,ho,hdt⟩
   · rename_i fr v h n hdr
     simp only [Option.some.injEq,Prod.mk.injEq] at e; obtain ⟨rfl,rfl⟩:=e
     obtain ⟨lim,o,d,val,effs,ho,f,hop⟩:=hrun _ hdr
     have hlim:lim < ops.size:=(Array.getElem?_eq_some_iff.1 ho).1
     have ht:∀ y ∈ d.allocs,s.n+y.1 < top:=fun y hy=>by have:=f.allocs y hy; omega
     have hanc:maskOf d.masks o.after.toList=msk ops lim:=by rw [f.masks]; unfold msk; rw [ho]
     unfold drawOp at hop
     simp only [hanc] at hop
     split at hop
     · split at hop <;> cases hop
     · rename_i hw
       split at hop
       · rename_i heff
         split at hop
         · split at hop
           · split at hop <;> cases hop
           · rename_i gg args hs
             split at hop
             · split at hop <;> cases hop
             · rename_i v' h' n' hc
               split at hop
               · rename_i hb
                 simp only [Option.some.injEq,Sum.inr.injEq,Prod.mk.injEq] at hop
                 obtain ⟨rfl,rfl,rfl,rfl⟩:=hop
                 simp only [Bool.and_eq_true] at hb
                 have hb1:=Nat.eq_of_beq_eq_true hb.1
                 have hb2:=Nat.eq_of_beq_eq_true hb.2
                 have hbit:∀ i,i < lim→hasBit (msk ops lim) i=true:=fun i hi=>by
                  have:msk ops lim=2 ^ lim - 1:=by omega
                  rw [this]; unfold hasBit; rw [Nat.testBit_two_pow_sub_one]; simpa using hi
                 refine any_sound hcf hr (Nat.le_of_lt hlim) f ht (fun q=>by omega) (fun _=>⟨hb2,fun S ms J E a w o' I ho' hdeps K=>?_⟩) ops.size _ 0 0 E0 a0 _ (by simp) hu0 (start lim val effs d.allocs)
                 rw [ho] at ho'; cases ho'
                 have hSl:S lim=false:=by
                  cases q:S lim with
                  | false=>rfl
                  | true=>have:=I.inS lim q; omega
                 have hall:∀ i,i < lim→S i=true:=fun i hi=>anc_ready hr I.closed ho hdeps (hbit i hi)
                 have hJ:J=effs.length:=by
                  have h1:=I.Jle
                  by_cases q:J < effs.length
                  · have he:effs[J]? =some effs[J]:=List.getElem?_eq_getElem q
                    have:=(I.effJ J _ he).1 (hall _ (f.effok J _ he).1)
                    omega
                  · omega
                 have ec1:d.cur.1=(effAt s.h (s.n+ops.size) effs J).1:=by rw [hJ,f.cur]
                 have ec2:d.cur.2=(effAt s.h (s.n+ops.size) effs J).2.1:=by rw [hJ,f.cur]
                 have en:d.n=(effAt s.h (s.n+ops.size) effs J).2.2:=by rw [hJ,f.n]
                 rw [ec1,ec2,en] at hs hc
                 have hsub:=I.sub hr (Nat.le_of_lt hlim) f ht (anc:=msk ops lim) fun k hk=>hall k (msk_lt hr.edges lim k hk)
                 have hdomN:=I.domN (Nat.le_of_lt hlim)
                 unfold wpOpIn
                 simp only [ho]
                 rw [if_pos (I.wanted hr ho hSl hdeps f.fr hw)]
                 refine (wp_call hcf (I.upd.good.sub hsub) hdomN (I.opds hr ho hSl hdeps f.fr) hs hc fun E' w' q2 q3 q4 q5=>?_)
                 intro v2 hv2
                 have hcn:=I.cnt
                 refine hq E' a w' _ ?_ (fun k hk=>?_) q4 ?_ ?_ I.size I.dfs rfl ⟨v2,hv2,rfl⟩
                 · refine I.upd.trans (Upd.frame I.upd.good hsub q2 fun k=>?_)
                   simp only
                   cases hk:h'.get k with
                   | some o'=>rfl
                   | none=>
                     simp only
                     split
                     · rename_i hx
                       rcases view_cases (n0:=s.n) (x:=(effAt s.h (s.n+ops.size) effs J).2.1) (m:=(effAt s.h (s.n+ops.size) effs J).1) (anc:=ms) ht f.one k with ⟨i,b,k1,k2,k3,k4,k5⟩ | ⟨k1,k2⟩
                       · subst k4
                         rw [view_alloc ht f.one k1 (hbit i (f.allocs _ k1)) k3] at hx; cases hx
                       · rw [k2]
                         rw [view_other ht fun i b q1 q2' q3'=>k1 i b q1 (by rw [I.bits]; exact hall i (f.allocs _ q1)) q3'] at hx
                         exact hx.symm
                     · rfl
                 · rw [q3 k (by omega)]; exact I.old k hk
                 · show s.n ≤ n'
                   omega
                 · refine frel_mono q2.le ?_
                   intro t v hv
                   by_cases q:∃ j o,j < lim∧ops[j]? =some o∧o.dst=some t
                   · obtain ⟨j,o2,q1,q2,q3⟩:=q
                     have:=f.fr.new j o2 t q1 q2 q3
                     simp only at hv
                     rw [this] at hv; cases hv
                     exact I.f1 j o2 t (hall j q1) q2 q3
                   · have:=f.fr.old t fun i o2 hi ho2 hdt=>q ⟨i,o2,hi,ho2,hdt⟩
                     simp only at hv
                     rw [this] at hv
                     exact I.f2 t v hv fun j o2 hj ho2 hdt=>q ⟨j,o2,I.inS j hj,ho2,hdt⟩
               · cases hop
             · cases hop
           · cases hop
         · cases hop
       · split at hop
         · split at hop
           · split at hop
             · split at hop
               · cases hop
               · split at hop <;> cases hop
             · split at hop
               · split at hop <;> cases hop
               · cases hop
           · cases hop
         · cases hop
     · cases hop
   · cases e
 · cases e
end Go.Eng
namespace Go.Eng
open Go
def drel1 (E:Env) (x:FuncId × List V × List V) (d:Deferred):Prop:=
 (x.1 < top∧∃ c' args',vrels E x.2.1 c'∧vrels E x.2.2 args'∧d={ target:=.fn (.func x.1) c'.toArray,args:=args'.toArray }) ∨
 (x.1=top∧∃ m b s,x.2.2=[.map (some m)]∧E.ι m=some (b,s)∧d={ target:=.collected b,args:=#[] })
def dfrel (E:Env):List (FuncId × List V × List V)→List Deferred→Prop
 | [],l=>l=[]
 | x :: xs,l=>∃ d ys,drel1 E x d∧dfrel E xs ys∧l=d :: ys
theorem drel1_mono {E E':Env} (h:E.le E') {x:FuncId × List V × List V} {d:Deferred}:drel1 E x d→drel1 E' x d:=by
 rintro (⟨hx,c',a',r1,r2,q⟩ | ⟨hx,m,b,s,q1,q2,q3⟩)
 · exact .inl ⟨hx,c',a',vrels_mono h _ _ r1,vrels_mono h _ _ r2,q⟩
 · exact .inr ⟨hx,m,b,s,q1,(h.nm _ _ _ q2).1,q3⟩
theorem dfrel_mono {E E':Env} (h:E.le E'):∀ (xs:List (FuncId × List V × List V)) (ys:List Deferred),dfrel E xs ys→dfrel E' xs ys
 | [],_,r=>r
 | _ :: xs,_,⟨d,ys,r1,r3,q⟩=>⟨d,ys,drel1_mono h r1,dfrel_mono h xs ys r3,q⟩
theorem Upd.kill {E:Env} {h:Tr O} {w w':World} {m b s:Nat} (g:Good E h w) (ht:m < top) (hlive:wlive h m) (hm:E.ι m=some (b,s))
  (hsize:w'.heap.size=w.heap.size) (htape:w'.tape=w.tape) (hos:w'.os=w.os) (hout:w'.output=w.output)
  (hother:∀ x,x ≠ b→w'.heap[x]? =w.heap[x]?):Upd E h w E (h.set m none) w':=by
 have hs:∀ k o,(h.set m none).get k=some o→k ≠ m∧h.get k=some o:=by
  intro k o hk; rw [Tr.get_set _ _ _ ht] at hk; split at hk
  · cases hk
  · rename_i q; exact ⟨q,hk⟩
 have hs':∀ k o,(h.set m none).get k=some o→h.get k=some o:=fun k o q=>(hs k o q).2
 refine ⟨E.le_refl,⟨?_,?_,?_,g.glob,fun b' c q=>⟨by rw [hother b' fun e=>(g.froz b' c q).2 m s hlive (e ▸ hm)]; exact (g.froz b' c q).1,fun k t hk=>(g.froz b' c q).2 k t (wlive_sub hs' hk)⟩⟩,by omega,htape,hos,hout,?_,fun k x t hk e _=>⟨k,t,live_sub hs' hk,e,wlive_sub hs'⟩,fun _ _ q=>.inl q⟩
 · intro k o hk
   obtain ⟨hne,hk⟩:=hs k o hk
   obtain ⟨b',s',h1,h2⟩:=g.rel k o hk
   have hb:b' ≠ b:=by
    intro hb; subst hb
    exact g.inj m k b' s s' (fun q=>hne q.symm) hlive (by rw [hk]; simp) hm h1
   exact ⟨b',s',h1,orel_mono E.le_refl rfl (hother b' hb) h2⟩
 · intro k k' x t t' hne hk hk' e e'
   exact g.inj k k' x t t' hne (wlive_sub hs' hk) (live_sub hs' hk') e e'
 · intro k x t e; rw [hsize]; exact g.bnd k x t e
 · intro x _ hn
   refine hother x ?_
   intro hx; subst hx; exact hn m s hlive hm
structure SRel (E:Env) (N:Nat) (s:St) (a:Act) (w:World):Prop where
 good:Good E s.h w
 dom:Dom E s.n
 fr:frel E s.fr a
 size:a.tmps.size=N
 dfs:dfrel E s.dfs a.defers
def Post (E:Env) (N:Nat) (s:St) (w:World) (x:X) (s':St) (Q:Exit→Act→World→Prop):Prop:=
 ∀ E' a' w' x',Upd E s.h w E' s'.h w'→(∀ k,k < s.n→E'.ι k=E.ι k)→s.n ≤ s'.n→SRel E' N s' a' w'→xrel E' x x'→Q x' a' w'
theorem Post.after {E E1:Env} {N:Nat} {s s1 s':St} {w w1:World} {x:X} {Q:Exit→Act→World→Prop} (p:Post E N s w x s' Q) (u:Upd E s.h w E1 s1.h w1) (hlow:∀ k,k < s.n→E1.ι k=E.ι k) (hn:s.n ≤ s1.n):Post E1 N s1 w1 x s' Q:=
 fun E' a' w' x' u' hlow' hn' r rx=>p E' a' w' x' (u.trans u') (fun k hk=>by rw [hlow' k (by omega)]; exact hlow k hk) (by omega) r rx
section
variable {P:Program} {cf:CallF} {F N:Nat} {rnd:Option Nat}
theorem seq_sound (hcf:CallOk P cf) {ops:Array Oper}:∀ (l:List Oper) (s:St) (x:X) (s':St),(rnd=none ∨ ∀ o ∈ l,opPlain o.op=true)→(∀ o ∈ l,dstOk N o.dst)→seqOps P cf ops l s=some (x,s')→
  ∀ (E:Env) (a:Act) (w:World) (Q:Exit→Act→World→Prop),SRel E N s a w→Post E N s w x s' Q→wpListIn (fz rnd) 0 P ops Q l a w
 | [],s,x,s',_,_,e,E,a,w,Q,r,hp=>by
   simp only [seqOps,Option.some.injEq,Prod.mk.injEq] at e; obtain ⟨rfl,rfl⟩:=e
   exact hp E a w .normal (Upd.refl r.good) (fun _ _=>rfl) (Nat.le_refl _) r trivial
 | o :: rest,s,x,s',hpl,hdst,e,E,a,w,Q,r,hp=>by
   have hplr:rnd=none ∨ ∀ o ∈ rest,opPlain o.op=true:=hpl.imp _root_.id fun h o ho=>h o (by simp [ho])
   have ho:=hdst o (by simp)
   have hrest:∀ o ∈ rest,dstOk N o.dst:=fun o h=>hdst o (by simp [h])
   have hd':dstOk a.tmps.size o.dst:=by rw [r.size]; exact ho
   simp only [seqOps] at e
   unfold wpListIn
   have hwant:∀ b,wantedV ops o s.fr=some b→Region.wanted o (yielded ops a.tmps)=b:=fun b hb=>wanted_rel (E:=E) (fun _ _ _ d _ _ _ v hv=>r.fr d v hv) hb
   have hopd:∀ y ∈ o.op.operands,OpdRel E s.fr a.eval y:=fun y _=>opdRel_of_frel r.good.glob r.fr y
   split at e
   · rename_i hw
     rw [if_neg (by rw [hwant _ hw]; simp)]
     split at e
     · rename_i fr hput
       refine ⟨fun _ _=>trivial,?_⟩
       refine seq_sound hcf rest _ x s' hplr hrest e E _ w Q ⟨r.good,r.dom,frel_put r.fr hput ⟨[],rfl,rfl⟩ hd',by rw [put_size]; exact r.size,by rw [put_defers]; exact r.dfs⟩ ?_
       exact hp.after (Upd.refl r.good) (fun _ _=>rfl) (Nat.le_refl _)
     · cases e
   · rename_i hw
     rw [if_pos (hwant _ hw)]
     split at e
     · rename_i v h n hs
       split at e
       · rename_i fr hput
         refine wp_val r.good (r.dom _ (Nat.le_refl _)) hopd hs fun E' w' v' q1 q2 q3 q4=>?_
         have hn:s.n ≤ n:=by rcases q4 with ⟨rfl,_⟩ | rfl <;> omega
         have hdom:Dom E' n:=by
          rcases q4 with ⟨rfl,rfl⟩ | rfl
          · exact r.dom
          · intro k hk; rw [q3 k (by omega)]; exact r.dom k (by omega)
         refine seq_sound hcf rest _ x s' hplr hrest e E' _ w' Q ⟨q2.good,hdom,frel_put (frel_mono q2.le r.fr) hput q1 hd',by rw [put_size]; exact r.size,by rw [put_defers]; exact dfrel_mono q2.le _ _ r.dfs⟩ ?_
         exact hp.after q2 (fun k hk=>q3 k (by omega)) hn
       · cases e
     · rename_i g args hs
       split at e
       · rename_i v h n hc
         split at e
         · rename_i fr hput
           refine wp_call hcf r.good r.dom hopd hs hc fun E' w' q2 q3 q4 q5=>?_
           intro v' q1
           refine seq_sound hcf rest _ x s' hplr hrest e E' _ w' Q ⟨q2.good,q4,frel_put (frel_mono q2.le r.fr) hput q1 hd',by rw [put_size]; exact r.size,by rw [put_defers]; exact dfrel_mono q2.le _ _ r.dfs⟩ ?_
           exact hp.after q2 q3 q5
         · cases e
       · rename_i v h n hc
         simp only [Option.some.injEq,Prod.mk.injEq] at e; obtain ⟨rfl,rfl⟩:=e
         refine wp_call hcf r.good r.dom hopd hs hc fun E' w' q2 q3 q4 q5=>?_
         intro v' q1
         exact hp E' a w' _ q2 q3 q5 ⟨q2.good,q4,frel_mono q2.le r.fr,r.size,dfrel_mono q2.le _ _ r.dfs⟩ ⟨v',q1,rfl⟩
       · cases e
     · rename_i g c args hs
       split at e
       case isFalse=>cases e
       rename_i hgt
       split at e
       · rename_i fr hput
         have hrn:rnd=none:=by
          rcases hpl with q | q
          · exact q
          · exfalso
            have:=q o (by simp); rw [hgt.2] at this; cases this
         refine wp_dfr hrn r.good (r.dom _ (Nat.le_refl _)) hopd hs fun c' args' q1 q2=>?_
         refine seq_sound hcf rest _ x s' hplr hrest e E _ w Q ⟨r.good,r.dom,frel_put (a:={ a with defers:={ target:=.fn (.func g) c'.toArray,args:=args'.toArray } :: a.defers }) r.fr hput ⟨[],rfl,rfl⟩ hd',by rw [put_size]; exact r.size,by rw [put_defers]; exact ⟨_,a.defers,.inl ⟨hgt.1,c',args',q1,q2,rfl⟩,r.dfs,rfl⟩⟩ ?_
         exact hp.after (Upd.refl r.good) (fun _ _=>rfl) (Nat.le_refl _)
       · cases e
     · rename_i v hs
       simp only [Option.some.injEq,Prod.mk.injEq] at e; obtain ⟨rfl,rfl⟩:=e
       refine wp_panic r.good (r.dom _ (Nat.le_refl _)) hopd hs fun v' q1=>?_
       exact hp E a w _ (Upd.refl r.good) (fun _ _=>rfl) (Nat.le_refl _) r ⟨v',q1,rfl⟩
     · cases e
     · cases e
   · cases e
theorem cond_rel {E:Env} {fr:Tr V} {a:Act} {c:Operand} {b:Bool} (ge:GE E) (r:frel E fr a) (e:opd fr c=some (.bool b)):a.eval c= .bool b:=by
 have:=opdRel_of_frel ge r c _ e
 simpa only [vrel] using this
theorem range_sound (hcf:CallOk P cf) {g:Operand} {ps:Array Tmp} {assign body:Code} {s s':St} {x:X} (hok:codeOk N (.rangeFunc g ps assign body)=true) (e:exec P cf F (.rangeFunc g ps assign body) s=some (x,s'))
  {E:Env} {a:Act} {w:World} {Q:Exit→Act→World→Prop} (r:SRel E N s a w) (hp:Post E N s w x s' Q):(Code.rangeFunc g ps assign body).wpIn (fz none) 0 P Q a w:=by
 simp only [codeOk,Bool.and_eq_true] at hok
 simp only [exec] at e
 split at e
 · rename_i gf lb hg
   split at e
   case isFalse=>cases e
   rename_i hq
   obtain ⟨hcal,htop⟩:=hq
   obtain ⟨f',fi,lb',hff,hfi,hlb,hge⟩:=opdRel_of_frel r.good.glob r.fr g _ hg
   simp only [fnrel] at hff; subst hff
   simp only [vrels] at hfi; subst hfi
   refine wpIn_rangeFunc fun fn _=>?_
   let rec0:Loop:={ state:=.ready,pending:=none,fn,tmps:=a.tmps,params:=ps,assign,body,defers:=w.heap.size }
   have u1:Upd E s.h w (E.put s.n w.heap.size 0 0) (s.h.set s.n (some .dfr)) (w.alloc (.deferred (some []))):=Upd.alloc (ob:=.deferred (some [])) (o:=.dfr) r.good (r.dom _ (Nat.le_refl _)) (by omega) heap_alloc_new
   have hn1:(E.put s.n w.heap.size 0 0).ι (s.n+1)=none:=by rw [Env.put_ne (by omega)]; exact r.dom _ (by omega)
   have u2:Upd (E.put s.n w.heap.size 0 0) (s.h.set s.n (some .dfr)) (w.alloc (.deferred (some []))) ((E.put s.n w.heap.size 0 0).put (s.n+1) (w.alloc (.deferred (some []))).heap.size 0 0) ((s.h.set s.n (some .dfr)).set (s.n+1) (some (.loop true none s.fr ps.toList assign body))) ((w.alloc (.deferred (some []))).alloc (.loop rec0)):=
    Upd.alloc (ob:=.loop rec0) (o:=.loop true none s.fr ps.toList assign body) u1.good hn1 htop
     ⟨rec0,heap_alloc_new,rfl,rfl,rfl,rfl,rfl,trel_mono (Env.le_trans u1.le (Env.le_put hn1 fun m x t e hx=>by have:=u1.good.bnd m x t e; omega)) r.fr,by rw [show rec0.tmps.size=N from r.size]; exact ⟨hok.2.1,hok.2.2,fun p hp=>by simpa using List.all_eq_true.1 hok.1 p hp⟩⟩
   rw [World.size_alloc] at u2
   revert e
   generalize hE2:(E.put s.n w.heap.size 0 0).put (s.n+1) (w.heap.size+1) 0 0=E2 at u2
   generalize hh2:(s.h.set s.n (some .dfr)).set (s.n+1) (some (.loop true none s.fr ps.toList assign body))=h2 at u2
   generalize hW1:(w.alloc (.deferred (some []))).alloc (.loop rec0)=W1 at u2
   intro e
   have hl2:E2.ι (s.n+1)=some (w.heap.size+1,0):=by rw [← hE2]; exact Env.put_same
   have hd2:E2.ι s.n=some (w.heap.size,0):=by rw [← hE2,Env.put_ne (by omega)]; exact Env.put_same
   have hlow2:∀ k,k < s.n→E2.ι k=E.ι k:=fun k hk=>by rw [← hE2,Env.put_ne (by omega),Env.put_ne (by omega)]
   have hdom2:Dom E2 (s.n+2):=fun k hk=>by
    have hk:s.n+2 ≤ k:=hk
    rw [← hE2,Env.put_ne (by omega),Env.put_ne (by omega)]; exact r.dom k (by show s.n ≤ k; omega)
   have u12:=u1.trans u2
   have hlb2:vrels E2 lb lb':=vrels_mono u12.le _ _ hlb
   have hinv:(invoke (.fn (.func gf) lb'.toArray) #[.func (.yield (w.heap.size+1)) #[] #[]]).run P W1= .ok (.enter gf (Value.func (.yield (w.heap.size+1)) #[] #[] :: lb').toArray) W1:=by
    have hcf':=run_callFunc (w:=W1) (args:=(Value.func (.yield (w.heap.size+1)) #[] #[] :: lb').toArray) hcal
    rw [← hcf']
    simp [invoke]
   refine ⟨w.heap.size+1,[{ target:=.collected w.heap.size,args:=#[] }],W1,{ target:=.fn (.func gf) lb'.toArray,args:=#[.func (.yield (w.heap.size+1)) #[] #[]] },W1,gf,
    (Value.func (.yield (w.heap.size+1)) #[] #[] :: lb').toArray,W1,?_,?_,fun _ _=>trivial,hinv,fun hd=>by simp [fz,Fence.wide] at hd,?_⟩
   · rw [← hW1]; exact run_enterLoop_outer _ _ _ _ _
   · simp only [resolve,hge]
     simp [go_sem]
   · split at e
     case h_2=>cases e
     rename_i v h n hc
     have hcalls:=(hcf gf _ h2 (s.n+2) _ h n hc E2 W1 (Value.func (.yield (w.heap.size+1)) #[] #[] :: lb') ⟨_,_,⟨_,[],[],⟨_,_,hl2,rfl⟩,rfl,rfl,rfl⟩,hlb2,rfl⟩ u2.good hdom2).1 hcal
     have hcalls':CallsIn Fence.wide (0 - 1) P gf (Value.func (.yield (w.heap.size+1)) #[] #[] :: lb').toArray W1 (rangePost (fz none) 0 P (w.heap.size+1) Q { a with defers:=[{ target:=.collected w.heap.size,args:=#[] }] ++ a.defers }):=by
      refine callsIn_wide.2 (hcalls.mono ?_)
      rintro en w3 ⟨E3,u3,hlow3,hdom3,hn3,ho⟩
      cases en with
      | panicked _=>exact ho.elim
      | outgrown=>exact ho.elim
      | returned v'=>
        have hl3:E3.ι (s.n+1)=some (w.heap.size+1,0):=by rw [hlow3 _ (by omega)]; exact hl2
        have hd3:E3.ι s.n=some (w.heap.size,0):=by rw [hlow3 _ (by omega)]; exact hd2
        have fin:∀ (st:Bool) (pe:Option Code) (fr:Tr V) (pl:List Nat) (c1 c2:Code),h.get (s.n+1)=some (.loop st pe fr pl c1 c2)→
          ∃ w4,(Instr.endLoop (w.heap.size+1)).run P w3= .ok pe w4∧
            ∀ (y:X) (s1:St),s1={ s with h:=h.set (s.n+1) none,n:=n,dfs:=(top,[],[.map (some s.n)]) :: s.dfs }→Post E N s w y s1 Q→∀ y',xrel E3 y y'→Q y' { a with defers:=[{ target:=.collected w.heap.size,args:=#[] }] ++ a.defers } w4:=by
         intro st pe fr pl c1 c2 hget
         obtain ⟨b,s0,q1,rc,q2,q3,q4,_⟩:=u3.good.rel _ _ hget
         rw [hl3] at q1; cases q1
         have hend:=run_endLoop (P:=P) q2 (by rw [q3]; cases st <;> simp)
         refine ⟨_,hend.trans (congrArg (fun p=>Result.ok p _) q4),fun y s1 hs1 hpost y' hy=>?_⟩
         have uk:Upd E3 h w3 E3 (h.set (s.n+1) none) (w3.putObj (w.heap.size+1) (.loop { rc with state:=.exhausted })):=
          Upd.kill u3.good htop ⟨_,hget,rfl⟩ hl3 (by simp) rfl rfl rfl fun x hx=>World.putObj_heap_other hx
         have uall:=(u12.trans u3).trans uk
         subst hs1
         have hsn:s.n ≤ n:=by omega
         exact hpost E3 _ _ y' uall (fun k hk=>by rw [hlow3 k (by omega)]; exact hlow2 k hk) hsn
          ⟨uall.good,hdom3,frel_mono uall.le r.fr,r.size,⟨_,a.defers,.inr ⟨rfl,s.n,w.heap.size,0,rfl,hd3,rfl⟩,dfrel_mono uall.le _ _ r.dfs,rfl⟩⟩ hy
        split at e
        · rename_i hdg hlg
          simp only [Option.some.injEq,Prod.mk.injEq] at e; obtain ⟨rfl,rfl⟩:=e
          obtain ⟨w4,k1,k2⟩:=fin _ _ _ _ _ _ hlg
          exact ⟨_,w4,k1,k2 .normal _ rfl hp .normal trivial⟩
        · rename_i hdg hlg
          simp only [Option.some.injEq,Prod.mk.injEq] at e; obtain ⟨rfl,rfl⟩:=e
          obtain ⟨w4,k1,k2⟩:=fin _ _ _ _ _ _ hlg
          exact ⟨_,w4,k1,wpIn_ret (k2 .ret _ rfl hp .ret trivial)⟩
        · rename_i id _ _ _ _ hdg hlg
          simp only [Option.some.injEq,Prod.mk.injEq] at e; obtain ⟨rfl,rfl⟩:=e
          obtain ⟨w4,k1,k2⟩:=fin _ _ _ _ _ _ hlg
          exact ⟨_,w4,k1,wpIn_exit (k2 (.exit id) _ rfl hp (.exit id) rfl)⟩
        · cases e
     exact hcalls'
 · cases e
theorem exec_sound (hcf:CallOk P cf) (hm:P.follows .mixedOrders=true):∀ (c:Code) (s:St) (x:X) (s':St),(rnd=none ∨ plainC c=true)→codeOk N c=true→exec P cf F c s=some (x,s')→
  ∀ (E:Env) (a:Act) (w:World) (Q:Exit→Act→World→Prop),SRel E N s a w→Post E N s w x s' Q→c.wpIn (fz rnd) 0 P Q a w:=by
 intro c
 induction c with
 | skip=>
   intro s x s' _ _ e E a w Q r hp
   simp only [exec,Option.some.injEq,Prod.mk.injEq] at e; obtain ⟨rfl,rfl⟩:=e
   exact wpIn_skip (hp E a w .normal (Upd.refl r.good) (fun _ _=>rfl) (Nat.le_refl _) r trivial)
 | region id ops draw=>
   intro s x s' hpl hok e E a w Q r hp
   simp only [codeOk,Bool.and_eq_true] at hok
   cases draw with
   | false=>
     simp only [exec] at e
     refine wpIn_region_list (seq_sound hcf ops.toList s x s' (hpl.imp _root_.id fun q=>by simp only [plainC,List.all_eq_true] at q; exact q) (fun o ho d hd=>?_) e E a w Q r hp)
     have:=List.all_eq_true.1 hok.1 o ho
     rw [hd] at this; simpa using this
   | true=>
     simp only [exec] at e
     have hreg:=regOk_spec (by simpa using hok.2)
     refine wp_drawn hcf hreg hm e r.good r.dom r.fr r.size fun E' a' w' x' u hlow hdom hn hfr hsz hdf hdfs hx=>?_
     exact hp E' a' w' x' u hlow hn ⟨u.good,hdom,hfr,hsz,by rw [hdfs,hdf]; exact dfrel_mono u.le _ _ r.dfs⟩ hx
 | seq c1 c2 ih1 ih2=>
   intro s x s' hpl hok e E a w Q r hp
   simp only [codeOk,Bool.and_eq_true] at hok
   simp only [exec] at e
   refine wpIn_seq ?_
   cases h1:exec P cf F c1 s with
   | none=>simp [h1] at e
   | some p=>
     obtain ⟨x1,s1⟩:=p
     refine ih1 s x1 s1 (hpl.imp _root_.id fun q=>by simp only [plainC,Bool.and_eq_true] at q; exact q.1) hok.1 h1 E a w _ r fun E' a' w' x' u hlow hn r' hx=>?_
     cases x1 with
     | normal=>
       simp only [h1] at e
       cases x' <;> first | (exact hx.elim) | skip
       exact ih2 s1 x s' (hpl.imp _root_.id fun q=>by simp only [plainC,Bool.and_eq_true] at q; exact q.2) hok.2 e E' a' w' Q r' (hp.after u hlow hn)
     | exit i=>
       simp only [h1,Option.some.injEq,Prod.mk.injEq] at e; obtain ⟨rfl,rfl⟩:=e
       cases x' <;> first | (exact hx.elim) | skip
       exact hp E' a' w' _ u hlow hn r' hx
     | ret=>
       simp only [h1,Option.some.injEq,Prod.mk.injEq] at e; obtain ⟨rfl,rfl⟩:=e
       cases x' <;> first | (exact hx.elim) | skip
       exact hp E' a' w' _ u hlow hn r' hx
     | panic v=>
       simp only [h1,Option.some.injEq,Prod.mk.injEq] at e; obtain ⟨rfl,rfl⟩:=e
       cases x' <;> first | (exact hx.elim) | skip
       exact hp E' a' w' _ u hlow hn r' hx
 | cond c c1 c2 ih1 ih2=>
   intro s x s' hpl hok e E a w Q r hp
   simp only [codeOk,Bool.and_eq_true] at hok
   simp only [exec] at e
   split at e
   · rename_i hc
     exact wpIn_cond_true (cond_rel r.good.glob r.fr hc) (ih1 s x s' (hpl.imp _root_.id fun q=>by simp only [plainC,Bool.and_eq_true] at q; exact q.1) hok.1 e E a w Q r hp)
   · rename_i hc
     exact wpIn_cond_false (cond_rel r.good.glob r.fr hc) (ih2 s x s' (hpl.imp _root_.id fun q=>by simp only [plainC,Bool.and_eq_true] at q; exact q.2) hok.2 e E a w Q r hp)
   · cases e
 | block id c ih=>
   intro s x s' hpl hok e E a w Q r hp
   simp only [codeOk] at hok
   simp only [exec] at e
   refine wpIn_block ?_
   cases h1:exec P cf F c s with
   | none=>simp [h1] at e
   | some p=>
     obtain ⟨x1,s1⟩:=p
     refine ih s x1 s1 (hpl.imp _root_.id fun q=>by simpa only [plainC] using q) hok h1 E a w _ r fun E' a' w' x' u hlow hn r' hx=>?_
     cases x1 with
     | normal=>
       simp only [h1,Option.some.injEq,Prod.mk.injEq] at e; obtain ⟨rfl,rfl⟩:=e
       cases x' <;> first | (exact hx.elim) | skip
       exact hp E' a' w' .normal u hlow hn r' trivial
     | exit i=>
       simp only [h1] at e
       cases x' <;> first | (exact hx.elim) | skip
       rename_i j
       have hij:i=j:=hx
       subst hij
       simp only [Exit.inBlock]
       split at e
       · rename_i q
         simp only [Option.some.injEq,Prod.mk.injEq] at e; obtain ⟨rfl,rfl⟩:=e
         rw [if_pos q]; exact hp E' a' w' .normal u hlow hn r' trivial
       · rename_i q
         simp only [Option.some.injEq,Prod.mk.injEq] at e; obtain ⟨rfl,rfl⟩:=e
         rw [if_neg q]; exact hp E' a' w' (.exit i) u hlow hn r' rfl
     | ret=>
       simp only [h1,Option.some.injEq,Prod.mk.injEq] at e; obtain ⟨rfl,rfl⟩:=e
       cases x' <;> first | (exact hx.elim) | skip
       exact hp E' a' w' .ret u hlow hn r' trivial
     | panic v=>
       simp only [h1,Option.some.injEq,Prod.mk.injEq] at e; obtain ⟨rfl,rfl⟩:=e
       cases x' <;> first | (exact hx.elim) | skip
       exact hp E' a' w' (.panic _) u hlow hn r' hx
 | loop c ih=>
   intro s x s' hpl hok e E a w Q r hp
   simp only [codeOk] at hok
   simp only [exec] at e
   refine wpIn_loop_rounds F ?_
   have key:∀ (k:Nat) (s:St),rounds (exec P cf F c) k s=some (x,s')→∀ (E:Env) (a:Act) (w:World),SRel E N s a w→Post E N s w x s' Q→Code.roundsIn (fz rnd) 0 P c Q k a w:=by
    intro k
    induction k with
    | zero=>intro s e; cases e
    | succ k ihk=>
      intro s e E a w r hp
      simp only [rounds] at e
      rw [roundsIn_succ]
      cases h1:exec P cf F c s with
      | none=>simp [h1] at e
      | some p=>
        obtain ⟨x1,s1⟩:=p
        refine ih s x1 s1 (hpl.imp _root_.id fun q=>by simpa only [plainC] using q) hok h1 E a w _ r fun E' a' w' x' u hlow hn r' hx=>?_
        cases x1 with
        | normal=>
          simp only [h1] at e
          cases x' <;> first | (exact hx.elim) | skip
          exact ihk s1 e E' a' w' r' (hp.after u hlow hn)
        | exit i=>
          simp only [h1,Option.some.injEq,Prod.mk.injEq] at e; obtain ⟨rfl,rfl⟩:=e
          cases x' <;> first | (exact hx.elim) | skip
          exact hp E' a' w' _ u hlow hn r' hx
        | ret=>
          simp only [h1,Option.some.injEq,Prod.mk.injEq] at e; obtain ⟨rfl,rfl⟩:=e
          cases x' <;> first | (exact hx.elim) | skip
          exact hp E' a' w' _ u hlow hn r' hx
        | panic v=>
          simp only [h1,Option.some.injEq,Prod.mk.injEq] at e; obtain ⟨rfl,rfl⟩:=e
          cases x' <;> first | (exact hx.elim) | skip
          exact hp E' a' w' _ u hlow hn r' hx
   exact key F s e E a w r hp
 | exit id=>
   intro s x s' _ _ e E a w Q r hp
   simp only [exec,Option.some.injEq,Prod.mk.injEq] at e; obtain ⟨rfl,rfl⟩:=e
   exact wpIn_exit (hp E a w (.exit id) (Upd.refl r.good) (fun _ _=>rfl) (Nat.le_refl _) r rfl)
 | ret=>
   intro s x s' _ _ e E a w Q r hp
   simp only [exec,Option.some.injEq,Prod.mk.injEq] at e; obtain ⟨rfl,rfl⟩:=e
   exact wpIn_ret (hp E a w .ret (Upd.refl r.good) (fun _ _=>rfl) (Nat.le_refl _) r trivial)
 | rangeFunc g ps assign body _ _=>
   intro s x s' hpl hok e E a w Q r hp
   have hrn:rnd=none:=by
    rcases hpl with q | q
    · exact q
    · cases q
   subst hrn
   exact range_sound hcf hok e r hp
 | scope c _=>intro s x s' _ _ e; cases e
 | label l=>intro s x s' _ _ e; cases e
 | goto l=>intro s x s' _ _ e; cases e
 | refuse w=>intro s x s' _ _ e; cases e
def resSem (tmps:Array Value):ResultVar→Sem Value
 | .tmp t=>pure (tmps.getD t undef)
 | .cell c t=>do loadVar t (← asAddr (tmps.getD c undef))
theorem results_eq (fn:Func) (tmps:Array Value):results fn tmps=(do
  let vs ← fn.results.mapM (resSem tmps)
  pure (if h:vs.size=1 then vs[0] else .tuple vs)):=by
 unfold results
 congr 1
theorem results_rel {E:Env} {h:Tr O} {w:World} {fr:Tr V} {a:Act} (g:Good E h w) (r:frel E fr a):∀ (rs:List ResultVar) (vs:List V),resultsV P fr h rs=some vs→
  ∃ vs',(rs.mapM (resSem a.tmps)).run P w= .ok vs' w∧vrels E vs vs'
 | [],vs,e=>by simp only [resultsV,Option.some.injEq] at e; subst e; exact ⟨[],rfl,rfl⟩
 | x :: rs,vs,e=>by
   simp only [resultsV] at e
   cases h1:resultV P fr h x with
   | none=>simp [h1] at e
   | some v=>cases h2:resultsV P fr h rs with
     | none=>simp [h1,h2] at e
     | some us=>
       simp only [h1,h2,Option.some.injEq] at e; subst e
       obtain ⟨us',q1,q2⟩:=results_rel g r rs us h2
       have hv:∃ v',(resSem a.tmps x).run P w= .ok v' w∧vrel E v v':=by
        cases x with
        | tmp t=>
          obtain ⟨v',p1,p2⟩:=r t v h1
          exact ⟨v',by simp [resSem,p1],p2⟩
        | cell c t=>
          simp only [resultV] at h1
          split at h1
          · rename_i u hu
            obtain ⟨u',p1,p2⟩:=r c u hu
            obtain ⟨b,sh,rfl,v',p3,p4⟩:=loadAt_rel (P:=P) g p2 h1
            refine ⟨v',?_,p4⟩
            simp [resSem,p1,asAddr,p3]
          · cases h1
       obtain ⟨v',p1,p2⟩:=hv
       refine ⟨v' :: us',?_,v',us',p2,q2,rfl⟩
       rw [List.mapM_cons]
       simp only [Sem.run_bind,p1,q1,Result.andThen_ok,Sem.run_pure]
theorem run_results {E:Env} {h:Tr O} {w:World} {fr:Tr V} {a:Act} {fn:Func} {vs:List V} (g:Good E h w) (r:frel E fr a) (e:resultsV P fr h fn.results.toList=some vs):
  ∃ v',(results fn a.tmps).run P w= .ok v' w∧vrel E (oneOf vs) v':=by
 obtain ⟨vs',q1,q2⟩:=results_rel (P:=P) g r fn.results.toList vs e
 have hrun:(results fn a.tmps).run P w= .ok (if h:vs'.toArray.size=1 then vs'.toArray[0] else .tuple vs'.toArray) w:=by
  rw [results_eq,Array.mapM_eq_mapM_toList]
  simp only [Sem.run_bind,Sem.run_map,q1,Result.andThen_ok,Sem.run_pure]
 refine ⟨_,hrun,?_⟩
 match vs,q2 with
 | [],q2=>simp only [vrels] at q2; subst q2; exact ⟨[],rfl,rfl⟩
 | [v],q2=>
   obtain ⟨y,ys,p1,p2,rfl⟩:=q2
   simp only [vrels] at p2; subst p2
   exact p1
 | u :: v :: us,q2=>
   have hl2:=vrels_length q2
   rw [dif_neg (by simp only [List.size_toArray,hl2,List.length_cons]; omega)]
   exact ⟨vs',q2,rfl⟩
end
end Go.Eng
namespace Go.Eng
open Go
def mrel (E:Env):Mode→FrameMode→Prop
 | .ret,.returning=>True
 | .pan v b,.panicking chain=>∃ v',vrel E v v'∧chain=[{ v:=v',recovered:=b }]
 | _,_=>False
theorem mrel_mono {E E':Env} (h:E.le E'):∀ {m:Mode} {u:FrameMode},mrel E m u→mrel E' m u
 | .ret,.returning,_=>trivial
 | .pan _ _,.panicking _,⟨v',r,q⟩=>⟨v',vrel_mono h _ _ r,q⟩
 | .ret,.run,r=>r.elim
 | .ret,.panicking _,r=>r.elim
 | .pan _ _,.run,r=>r.elim
 | .pan _ _,.returning,r=>r.elim
def PostD (E:Env) (N:Nat) (s:St) (w:World) (x:X) (s':St) (m':Mode) (c₀:Frame) (cs:List Frame) (Q:Exit→Act→List Frame→World→Prop):Prop:=
 ∀ E' a' w' x' u',Upd E s.h w E' s'.h w'→(∀ k,k < s.n→E'.ι k=E.ι k)→s.n ≤ s'.n→SRel E' N s' a' w'→xrel E' x x'→mrel E' m' u'→Q x' a' ({ c₀ with mode:=u' } :: cs) w'
theorem PostD.after {E E1:Env} {N:Nat} {s s1 s':St} {w w1:World} {x:X} {m':Mode} {c₀:Frame} {cs:List Frame} {Q:Exit→Act→List Frame→World→Prop} (p:PostD E N s w x s' m' c₀ cs Q) (u:Upd E s.h w E1 s1.h w1)
  (hlow:∀ k,k < s.n→E1.ι k=E.ι k) (hn:s.n ≤ s1.n):PostD E1 N s1 w1 x s' m' c₀ cs Q:=
 fun E' a' w' x' u2 u' hlow' hn' r rx rm=>p E' a' w' x' u2 (u.trans u') (fun k hk=>by rw [hlow' k (by omega)]; exact hlow k hk) (by omega) r rx rm
section
variable {P:Program} {cf:CallF} {F N:Nat}
theorem range'_succ' (k n:Nat):List.range' k (n+1)=k :: List.range' (k+1) n:=by simp [List.range'_succ]
theorem seqD_sound {ops:Array Oper} (c₀:Frame) (cs:List Frame):∀ (l:List Oper) (k:Nat) (s:St) (m:Mode) (x:X) (s':St) (m':Mode),(∀ j,l[j]? =ops[k+j]?)→(∀ o ∈ l,dstOk N o.dst)→seqOpsD P cf ops l s m=some (x,s',m')→
  ∀ (E:Env) (a:Act) (w:World) (u:FrameMode) (Q:Exit→Act→List Frame→World→Prop),SRel E N s a w→mrel E m u→PostD E N s w x s' m' c₀ cs Q→
    wpOpsS P ops Q (List.range' k l.length) a ({ c₀ with mode:=u } :: cs) w
 | [],k,s,m,x,s',m',_,_,e,E,a,w,u,Q,r,rm,hp=>by
   simp only [seqOpsD,Option.some.injEq,Prod.mk.injEq] at e; obtain ⟨rfl,rfl,rfl⟩:=e
   exact hp E a w .normal u (Upd.refl r.good) (fun _ _=>rfl) (Nat.le_refl _) r trivial rm
 | o :: rest,k,s,m,x,s',m',hget,hdst,e,E,a,w,u,Q,r,rm,hp=>by
   have ho:=hdst o (by simp)
   have hrest:∀ o ∈ rest,dstOk N o.dst:=fun o h=>hdst o (by simp [h])
   have hd':dstOk a.tmps.size o.dst:=by rw [r.size]; exact ho
   have hgr:∀ j,rest[j]? =ops[k+1+j]?:=fun j=>by have:=hget (j+1); simpa [Nat.add_assoc,Nat.add_comm 1 j] using this
   have hok:ops[k]? =some o:=by have:=hget 0; simpa using this.symm
   simp only [seqOpsD] at e
   simp only [List.length_cons,range'_succ',wpOpsS,hok]
   have hwant:∀ b,wantedV ops o s.fr=some b→Region.wanted o (yielded ops a.tmps)=b:=fun b hb=>wanted_rel (E:=E) (fun _ _ _ d _ _ _ v hv=>r.fr d v hv) hb
   have hopd:∀ y ∈ o.op.operands,OpdRel E s.fr a.eval y:=fun y _=>opdRel_of_frel r.good.glob r.fr y
   split at e
   · rename_i hw
     rw [if_neg (by rw [hwant _ hw]; simp)]
     split at e
     · rename_i fr hput
       exact seqD_sound c₀ cs rest (k+1) _ m x s' m' hgr hrest e E _ w u Q ⟨r.good,r.dom,frel_put r.fr hput ⟨[],rfl,rfl⟩ hd',by rw [put_size]; exact r.size,by rw [put_defers]; exact r.dfs⟩ rm (hp.after (Upd.refl r.good) (fun _ _=>rfl) (Nat.le_refl _))
     · cases e
   · rename_i hw
     rw [if_pos (hwant _ hw)]
     split at e
     · rename_i v h n hs
       split at e
       · rename_i fr hput
         obtain ⟨E',w',v',hrun,q1,q2,q3,q4⟩:=step_sound r.good (r.dom _ (Nat.le_refl _)) hopd hs
         have hn:s.n ≤ n:=by rcases q4 with ⟨rfl,_⟩ | rfl <;> omega
         have hdom:Dom E' n:=by
          rcases q4 with ⟨rfl,rfl⟩ | rfl
          · exact r.dom
          · intro k hk; rw [q3 k (by omega)]; exact r.dom k (by omega)
         have hgo:=seqD_sound c₀ cs rest (k+1) _ m x s' m' hgr hrest e E' (a.put o.dst v') w' u Q ⟨q2.good,hdom,frel_put (frel_mono q2.le r.fr) hput q1 hd',by rw [put_size]; exact r.size,by rw [put_defers]; exact dfrel_mono q2.le _ _ r.dfs⟩ (mrel_mono q2.le rm)
          (hp.after q2 (fun k hk=>q3 k (by omega)) hn)
         rcases hrun with hrun | ⟨hrun,rfl⟩
         · rw [hrun]; simp only [Oper.upon_value]; exact hgo
         · rw [hrun]; simp only [Oper.upon_skip]; exact hgo
       · cases e
     · rename_i hs
       have hrun:=step_sound r.good (r.dom _ (Nat.le_refl _)) hopd hs
       simp only [OpOk] at hrun
       rw [hrun]
       simp only
       split at e
       · rename_i v
         split at e
         · rename_i fr hput
           cases u with
           | panicking chain=>
             obtain ⟨v',q1,rfl⟩:=rm
             simp only [recoverD]
             exact seqD_sound c₀ cs rest (k+1) _ (.pan v true) x s' m' hgr hrest e E (a.put o.dst v') w (.panicking [{ v:=v',recovered:=true }]) Q ⟨r.good,r.dom,frel_put r.fr hput q1 hd',by rw [put_size]; exact r.size,by rw [put_defers]; exact r.dfs⟩ ⟨v',q1,rfl⟩
              (hp.after (Upd.refl r.good) (fun _ _=>rfl) (Nat.le_refl _))
           | run=>exact rm.elim
           | returning=>exact rm.elim
         · cases e
       · rename_i hnp
         split at e
         · rename_i fr hput
           have hnone:recoverD ({ c₀ with mode:=u } :: cs)=none:=by
            cases m with
            | ret=>cases u <;> first | (exact rm.elim) | rfl
            | pan v b=>
              cases b with
              | false=>exact absurd rfl (hnp v)
              | true=>
                cases u with
                | panicking chain=>obtain ⟨v',q1,rfl⟩:=rm; rfl
                | run=>exact rm.elim
                | returning=>exact rm.elim
           rw [hnone]
           exact seqD_sound c₀ cs rest (k+1) _ m x s' m' hgr hrest e E (a.put o.dst .nilIface) w u Q ⟨r.good,r.dom,frel_put r.fr hput rfl hd',by rw [put_size]; exact r.size,by rw [put_defers]; exact r.dfs⟩ rm (hp.after (Upd.refl r.good) (fun _ _=>rfl) (Nat.le_refl _))
         · cases e
     · cases e
   · cases e
theorem wpS_cond_true {c:Operand} {x y:Code} {a:Act} {cs:List Frame} {w:World} {Q:Exit→Act→List Frame→World→Prop} (hc:a.eval c= .bool true) (h:x.wpS P Q a cs w):(Code.cond c x y).wpS P Q a cs w:=wpS_cond hc h
theorem wpS_cond_false {c:Operand} {x y:Code} {a:Act} {cs:List Frame} {w:World} {Q:Exit→Act→List Frame→World→Prop} (hc:a.eval c= .bool false) (h:y.wpS P Q a cs w):(Code.cond c x y).wpS P Q a cs w:=wpS_cond hc h
theorem execD_plain (hcf:CallOk P cf) (hm:P.follows .mixedOrders=true) {c:Code} {s s':St} {x:X} {m m':Mode} (hok:codeOk N c=true) (e:(match exec P cf F c s with | some (x,s')=>some (x,s',m) | none=>none)=some (x,s',m'))
  {c₀:Frame} {cs:List Frame} {E:Env} {a:Act} {w:World} {u:FrameMode} {Q:Exit→Act→List Frame→World→Prop} (r:SRel E N s a w) (rm:mrel E m u) (hp:PostD E N s w x s' m' c₀ cs Q):c.wpS P Q a ({ c₀ with mode:=u } :: cs) w:=by
 cases h1:exec P cf F c s with
 | none=>simp [h1] at e
 | some p=>
   obtain ⟨x1,s1⟩:=p
   simp only [h1,Option.some.injEq,Prod.mk.injEq] at e; obtain ⟨rfl,rfl,rfl⟩:=e
   exact wpS_of_wp (wpIn_wide.1 (exec_sound (rnd:=none) hcf hm c s x1 s1 (.inl rfl) hok h1 E a w _ r fun E' a' w' x' u' hlow hn r' hx=>hp E' a' w' x' u u' hlow hn r' hx (mrel_mono u'.le rm)))
theorem execD_sound (hcf:CallOk P cf) (hm:P.follows .mixedOrders=true) (c₀:Frame) (cs:List Frame):∀ (c:Code) (s:St) (m:Mode) (x:X) (s':St) (m':Mode),codeOk N c=true→execD P cf F c s m=some (x,s',m')→
  ∀ (E:Env) (a:Act) (w:World) (u:FrameMode) (Q:Exit→Act→List Frame→World→Prop),SRel E N s a w→mrel E m u→PostD E N s w x s' m' c₀ cs Q→c.wpS P Q a ({ c₀ with mode:=u } :: cs) w:=by
 intro c
 induction c with
 | region id ops draw=>
   intro s m x s' m' hok e E a w u Q r rm hp
   cases draw with
   | false=>
     simp only [execD] at e
     have hok':=hok
     simp only [codeOk,Bool.and_eq_true] at hok'
     have:=seqD_sound (P:=P) (cf:=cf) (ops:=ops) c₀ cs ops.toList 0 s m x s' m' (fun j=>by simp) (fun o ho d hd=>by
      have:=List.all_eq_true.1 hok'.1 o ho
      rw [hd] at this; simpa using this) e E a w u Q r rm hp
     exact wpS_region (by rw [List.range_eq_range',← Array.length_toList]; exact this)
   | true=>
     simp only [execD] at e
     exact execD_plain (F:=F) hcf hm hok e r rm hp
 | seq c1 c2 ih1 ih2=>
   intro s m x s' m' hok e E a w u Q r rm hp
   simp only [codeOk,Bool.and_eq_true] at hok
   simp only [execD] at e
   refine wpS_seq ?_
   cases h1:execD P cf F c1 s m with
   | none=>simp [h1] at e
   | some p=>
     obtain ⟨x1,s1,m1⟩:=p
     refine ih1 s m x1 s1 m1 hok.1 h1 E a w u _ r rm fun E' a' w' x' u1 uu hlow hn r' hx rm'=>?_
     cases x1 with
     | normal=>
       simp only [h1] at e
       cases x' <;> first | (exact hx.elim) | skip
       exact ih2 s1 m1 x s' m' hok.2 e E' a' w' u1 Q r' rm' (hp.after uu hlow hn)
     | exit i=>
       simp only [h1,Option.some.injEq,Prod.mk.injEq] at e; obtain ⟨rfl,rfl,rfl⟩:=e
       cases x' <;> first | (exact hx.elim) | skip
       exact hp E' a' w' _ u1 uu hlow hn r' hx rm'
     | ret=>
       simp only [h1,Option.some.injEq,Prod.mk.injEq] at e; obtain ⟨rfl,rfl,rfl⟩:=e
       cases x' <;> first | (exact hx.elim) | skip
       exact hp E' a' w' _ u1 uu hlow hn r' hx rm'
     | panic v=>
       simp only [h1,Option.some.injEq,Prod.mk.injEq] at e; obtain ⟨rfl,rfl,rfl⟩:=e
       cases x' <;> first | (exact hx.elim) | skip
       exact hp E' a' w' _ u1 uu hlow hn r' hx rm'
 | cond c c1 c2 ih1 ih2=>
   intro s m x s' m' hok e E a w u Q r rm hp
   simp only [codeOk,Bool.and_eq_true] at hok
   simp only [execD] at e
   split at e
   · rename_i hc
     exact wpS_cond_true (cond_rel r.good.glob r.fr hc) (ih1 s m x s' m' hok.1 e E a w u Q r rm hp)
   · rename_i hc
     exact wpS_cond_false (cond_rel r.good.glob r.fr hc) (ih2 s m x s' m' hok.2 e E a w u Q r rm hp)
   · cases e
 | _=>
   intro s m x s' m' hok e E a w u Q r rm hp
   simp only [execD] at e
   exact execD_plain (F:=F) hcf hm hok e r rm hp
theorem frameOf_get:∀ (vs:List V) (i:Nat) (t:Tr V) (k:Nat),i+vs.length < top→(frameOf vs i t).get k=if i ≤ k∧k < i+vs.length then vs[k - i]? else t.get k
 | [],i,t,k,_=>by simp only [frameOf,List.length_nil]; rw [if_neg (by omega)]
 | v :: vs,i,t,k,h=>by
   simp only [List.length_cons] at h
   simp only [frameOf,List.length_cons]
   rw [frameOf_get vs (i+1) _ k (by omega),Tr.get_set _ _ _ (by omega)]
   by_cases q:k=i
   · subst q
     rw [if_neg (by omega),if_pos rfl,if_pos (by omega)]; simp
   · rw [if_neg q]
     by_cases q2:i+1 ≤ k∧k < i+1+vs.length
     · rw [if_pos q2,if_pos (by omega)]
       have:k - i=(k - (i+1))+1:=by omega
       rw [this]; simp
     · rw [if_neg q2,if_neg (by omega)]
theorem frel_enter {E:Env} {args:List V} {args':List Value} {n:Nat} (r:vrels E args args') (hn:args.length ≤ n) (ht:n < top):
  frel E (frameOf args 0 .nil) { tmps:=args'.toArray ++ Array.replicate (n - args'.toArray.size) undef,defers:=[] }∧(args'.toArray ++ Array.replicate (n - args'.toArray.size) undef).size=n:=by
 have hl:=vrels_length r
 refine ⟨fun t v hv=>?_,by simp; omega⟩
 rw [frameOf_get args 0 .nil t (by omega)] at hv
 split at hv
 · rename_i hi
   obtain ⟨v',h1,h2⟩:=vrels_get r _ v hv
   refine ⟨v',?_,h2⟩
   simp only [Nat.sub_zero] at h1
   rw [Array.getElem?_append_left (by simp; omega)]
   simpa using h1
 · cases hv
def progOk (P:Program):Bool:=P.funcs.toList.all fun fn=>match fn.body with | some c=>codeOk fn.ntmps c | none=>true
theorem progOk_spec (h:progOk P=true) {f:FuncId} {fn:Func} {c:Code} (hf:P.funcs[f]? =some fn) (hb:fn.body=some c):codeOk fn.ntmps c=true:=by
 unfold progOk at h
 have:=List.all_eq_true.1 h fn (by rw [← Array.getElem?_toList] at hf; exact List.mem_of_getElem? hf)
 rw [hb] at this; exact this
theorem callsDIn_of_wpS {f:FuncId} {fn:Func} {c:Code} {args:Array Value} {u:FrameMode} {w:World} {R:Ending→FrameMode→World→Prop}
  (hf:P.funcs[f]? =some fn) (hb:fn.body=some c)
  (h:∀ (c₀:Frame) (cs:List Frame),c₀.mode=u→
   c.wpS P (bodyPostS P fn c₀ cs R) { tmps:=args ++ Array.replicate (fn.ntmps - args.size) undef,defers:=[] } (c₀ :: cs) w):
  CallsDIn Fence.wide (0 - 1) P f args u w R:=by
 refine ⟨trivial,fun c₀ cs hu _=>?_⟩
 let b:Frame:={ (default:Frame) with fn:=f,kind:=.deferred }
 have henter:Frame.enter P f args .deferred=
   b.at { tmps:=args ++ Array.replicate (fn.ntmps - args.size) undef,defers:=[] } [.code c]:=by
  simp [Frame.enter,Frame.at,hf,hb,b]
 obtain ⟨e,a',cs',w',hq,harr⟩:=h c₀ cs hu b [] rfl rfl
 rw [← henter] at harr
 cases e with
 | normal=>
   obtain ⟨hd,u',rfl,v,hr,hR⟩:=hq
   exact ⟨.returned v,u',w',_,hR,comesIn_wide.2 (Steps.trans harr (.one step_end)),rfl,rfl,rfl,hd,fn,hf,hr⟩
 | ret=>
   obtain ⟨hd,u',rfl,v,hr,hR⟩:=hq
   obtain ⟨todo,hs⟩:=harr
   exact ⟨.returned v,u',w',_,hR,comesIn_wide.2 hs,rfl,rfl,rfl,hd,fn,hf,hr⟩
 | panic chain=>
   obtain ⟨hd,u',rfl,hR⟩:=hq
   obtain ⟨todo,hs⟩:=harr
   exact ⟨.panicked chain,u',w',_,hR,comesIn_wide.2 hs,rfl,rfl,rfl,hd,fn,hf⟩
 | exit id=>exact hq.elim
 | goto l=>exact hq.elim
 | outgrown=>
   obtain ⟨u',hR⟩:=hq
   exact ⟨.outgrown,u',w',b,hR,comesIn_wide.2 (harr.resolve_left (by simp [b])),rfl,rfl,trivial⟩
theorem leave_sound (hcf:CallOk P cf) (hm:P.follows .mixedOrders=true) (hpo:progOk P=true) {fn:Func} {fr:Tr V} {a:Act}:∀ (ds:List (FuncId × List V × List V)) (m:Mode) (h:Tr O) (n:Nat) (out:Out) (h':Tr O) (n':Nat),
  leave P cf F fn fr ds m h n=some (out,h',n')→∀ (E:Env) (w:World) (ds':List Deferred) (u:FrameMode) (R:Ending→World→Prop),Good E h w→Dom E n→frel E fr a→dfrel E ds ds'→mrel E m u→
   (∀ E' w' en,Upd E h w E' h' w'→(∀ k,k < n→E'.ι k=E.ι k)→Dom E' n'→n ≤ n'→outrel E' out en→R en w')→LeavesInM Fence.wide 0 P fn a.tmps R ds' u w
 | [],m,h,n,out,h',n',e,E,w,ds',u,R,g,hd,hf,hdr,rm,hR=>by
   simp only [dfrel] at hdr; subst hdr
   cases m with
   | ret=>
     cases u <;> first | (exact rm.elim) | skip
     simp only [leave] at e
     split at e
     · rename_i vs hr
       simp only [Option.some.injEq,Prod.mk.injEq] at e; obtain ⟨rfl,rfl,rfl⟩:=e
       obtain ⟨v',h1,h2⟩:=run_results (P:=P) g hf hr
       exact ⟨v',h1,hR E w _ (Upd.refl g) (fun _ _=>rfl) hd (Nat.le_refl _) h2⟩
     · cases e
   | pan v b=>
     cases u with
     | panicking chain=>
       obtain ⟨v',q1,rfl⟩:=rm
       cases b with
       | false=>
         simp only [leave,Option.some.injEq,Prod.mk.injEq] at e; obtain ⟨rfl,rfl,rfl⟩:=e
         exact hR E w _ (Upd.refl g) (fun _ _=>rfl) hd (Nat.le_refl _) ⟨v',q1,rfl⟩
       | true=>cases e
     | run=>exact rm.elim
     | returning=>exact rm.elim
 | (gf,c,args) :: ds,m,h,n,out,h',n',e,E,w,ds',u,R,g,hd,hf,hdr,rm,hR=>by
   obtain ⟨d,ys,hd1,r3,rfl⟩:=hdr
   simp only [leave] at e
   have hune:u ≠ .run:=by intro q; subst q; cases m <;> exact rm.elim
   split at e
   ·
    rename_i htop
    rcases hd1 with ⟨q,_⟩ | ⟨_,m0,b,s0,ha,hι,rfl⟩
    · exact absurd q (Nat.not_lt.2 htop)
    simp only at ha; subst ha
    simp only at e
    split at e
    · rename_i hdf
      split at e
      · rename_i hlt
        obtain ⟨b',s',q1,q2⟩:=g.rel _ _ hdf
        rw [hι] at q1; cases q1
        have uk:Upd E h w E (h.set m0 none) (w.putObj b (.deferred none)):=Upd.kill g hlt ⟨_,hdf,rfl⟩ hι (by simp) rfl rfl rfl fun x hx=>World.putObj_heap_other hx
        exact ⟨hune,.inl ⟨b,_,rfl,run_takeDeferred q2,leave_sound hcf hm hpo ds m _ n out h' n' e E _ ys u R uk.good hd hf r3 rm fun E2 w2 en u2 hlow2 hd2 hn2 ho=>hR E2 w2 en (uk.trans u2) hlow2 hd2 hn2 ho⟩⟩
      · cases e
    · cases e
   rename_i htop
   obtain ⟨c',args',r1,r2,rfl⟩:∃ c' args',vrels E c c'∧vrels E args args'∧d={ target:=.fn (.func gf) c'.toArray,args:=args'.toArray }:=by
    rcases hd1 with ⟨_,q⟩ | ⟨q,_⟩
    · exact q
    · exact absurd (Nat.le_of_eq q.symm) htop
   split at e
   · rename_i gn hgn
     split at e
     · rename_i code hb
       split at e
       · rename_i hq
         obtain ⟨hcal,hlen,htop⟩:=hq
         have hvr:=vrels_append r2 r1
         obtain ⟨hfr,hsz⟩:=frel_enter (n:=gn.ntmps) hvr hlen htop
         have hcode:=progOk_spec hpo hgn hb
         have next:∀ (s':St) (m':Mode) (vs:List V),s'.dfs=[]→resultsV P s'.fr s'.h gn.results.toList=some vs→leave P cf F fn fr ds (match m' with | .pan _ true=>.ret | m=>m) s'.h s'.n=some (out,h',n')→
           ∀ E' (a':Act) w' u',Upd E h w E' s'.h w'→(∀ k,k < n→E'.ι k=E.ι k)→n ≤ s'.n→SRel E' gn.ntmps s' a' w'→mrel E' m' u'→
           a'.defers=[]∧∃ v,(results gn a'.tmps).run P w'= .ok v w'∧LeavesInM Fence.wide 0 P fn a.tmps R ys (settle u') w':=by
          intro s' m' vs hdf hrs hlv E' a' w' u' uu hlow hn r' rm'
          have hdf':a'.defers=[]:=by have:=r'.dfs; rw [hdf] at this; exact this
          obtain ⟨v',p1,p2⟩:=run_results (P:=P) r'.good r'.fr hrs
          refine ⟨hdf',v',p1,?_⟩
          refine leave_sound hcf hm hpo ds _ s'.h s'.n out h' n' hlv E' w' ys (settle u') R r'.good r'.dom (frel_mono uu.le hf) (dfrel_mono uu.le _ _ r3) ?_ fun E2 w2 en u2 hlow2 hd2 hn2 ho=>hR E2 w2 en (uu.trans u2) (fun k hk=>by rw [hlow2 k (by omega)]; exact hlow k hk) hd2 (by omega) ho
          cases m' with
          | ret=>cases u' <;> first | (exact rm'.elim) | trivial
          | pan v b=>
            cases u' with
            | panicking chain=>
              obtain ⟨v2,q1,rfl⟩:=rm'
              cases b with
              | false=>exact ⟨v2,q1,rfl⟩
              | true=>trivial
            | run=>exact rm'.elim
            | returning=>exact rm'.elim
         have hinv:(invoke (.fn (.func gf) c'.toArray) args'.toArray).run P w= .ok (.enter gf (args' ++ c').toArray) w:=by
          simp only [invoke]
          have:args'.toArray ++ c'.toArray=(args' ++ c').toArray:=by simp
          rw [this]; exact run_callFunc hcal
         refine ⟨hune,.inr ⟨fun hd=>by simp [Fence.wide] at hd,_,_,gf,_,rfl,hinv,fun _ _=>trivial,callsDIn_of_wpS hgn hb fun c₀ cs hmode=>?_⟩⟩
         have hc0:c₀={ c₀ with mode:=u }:=by subst hmode; rfl
         rw [hc0]
         have srel:SRel E gn.ntmps { fr:=frameOf (args ++ c) 0 .nil,h:=h,n:=n,dfs:=[] } { tmps:=(args' ++ c').toArray ++ Array.replicate (gn.ntmps - (args' ++ c').toArray.size) undef,defers:=[] } w:=⟨g,hd,hfr,hsz,rfl⟩
         split at e
         · rename_i s' m' hx
           split at e
           · rename_i hdf
             split at e
             · rename_i vs hrs
               refine execD_sound hcf hm c₀ cs code _ m .normal s' m' hcode hx E _ w u _ srel rm fun E' a' w' x' u' uu hlow hn r' hxx rm'=>?_
               cases x' <;> first | (exact hxx.elim) | skip
               obtain ⟨k1,v,k2,k3⟩:=next s' m' vs hdf hrs e E' a' w' u' uu hlow hn r' rm'
               exact ⟨k1,u',rfl,v,k2,k3⟩
             · cases e
           · cases e
         · rename_i s' m' hx
           split at e
           · rename_i hdf
             split at e
             · rename_i vs hrs
               refine execD_sound hcf hm c₀ cs code _ m .ret s' m' hcode hx E _ w u _ srel rm fun E' a' w' x' u' uu hlow hn r' hxx rm'=>?_
               cases x' <;> first | (exact hxx.elim) | skip
               obtain ⟨k1,v,k2,k3⟩:=next s' m' vs hdf hrs e E' a' w' u' uu hlow hn r' rm'
               exact ⟨k1,u',rfl,v,k2,k3⟩
             · cases e
           · cases e
         · cases e
       · cases e
     · cases e
   · cases e
theorem enter_sound (hcf:CallOk P cf) (hm:P.follows .mixedOrders=true) (hpo:progOk P=true) {f:FuncId} {args:List V} {h:Tr O} {n:Nat} {out:Out} {h':Tr O} {n':Nat} (e:enter P cf F f args h n=some (out,h',n'))
  {E:Env} {w:World} {args':List Value} (ra:vrels E args args') (g:Good E h w) (hd:Dom E n):Calls P f args'.toArray w (CPost E h n w out h' n'):=by
 unfold enter at e
 split at e
 · rename_i fn hf
   split at e
   · rename_i code hb
     split at e
     · rename_i hq
       obtain ⟨hfr,hsz⟩:=frel_enter (n:=fn.ntmps) ra hq.1 hq.2
       have hcode:=progOk_spec hpo hf hb
       have srel:SRel E fn.ntmps { fr:=frameOf args 0 .nil,h:=h,n:=n,dfs:=[] } { tmps:=args'.toArray ++ Array.replicate (fn.ntmps - args'.toArray.size) undef,defers:=[] } w:=⟨g,hd,hfr,hsz,rfl⟩
       refine callsIn_wide.1 (callsIn_of_wp_marks (n:=0) hf hb trivial ?_)
       have fin:∀ (s:St) (m:Mode) (u:FrameMode) (E':Env) (a':Act) (w':World),leave P cf F fn s.fr s.dfs m s.h s.n=some (out,h',n')→Upd E h w E' s.h w'→(∀ k,k < n→E'.ι k=E.ι k)→n ≤ s.n→SRel E' fn.ntmps s a' w'→mrel E' m u→
         LeavesInM Fence.wide 0 P fn a'.tmps (CPost E h n w out h' n') a'.defers u w':=by
        intro s m u E' a' w' hl uu hlow hn r' rm
        exact leave_sound hcf hm hpo s.dfs m s.h s.n out h' n' hl E' w' a'.defers u _ r'.good r'.dom r'.fr r'.dfs rm fun E2 w2 en u2 hlow2 hd2 hn2 ho=>⟨E2,uu.trans u2,fun k hk=>by rw [hlow2 k (by omega)]; exact hlow k hk,hd2,by omega,ho⟩
       split at e
       · rename_i s hx
         refine exec_sound (rnd:=none) hcf hm code _ _ s (.inl rfl) hcode hx E _ w _ srel fun E' a' w' x' uu hlow hn r' hxx=>?_
         cases x' <;> first | (exact hxx.elim) | skip
         exact fin s .ret .returning E' a' w' e uu hlow hn r' trivial
       · rename_i s hx
         refine exec_sound (rnd:=none) hcf hm code _ _ s (.inl rfl) hcode hx E _ w _ srel fun E' a' w' x' uu hlow hn r' hxx=>?_
         cases x' <;> first | (exact hxx.elim) | skip
         exact fin s .ret .returning E' a' w' e uu hlow hn r' trivial
       · rename_i v s hx
         refine exec_sound (rnd:=none) hcf hm code _ _ s (.inl rfl) hcode hx E _ w _ srel fun E' a' w' x' uu hlow hn r' hxx=>?_
         cases x' <;> first | (exact hxx.elim) | skip
         exact fin s (.pan v false) _ E' a' w' e uu hlow hn r' hxx
       · cases e
     · cases e
   · cases e
 · cases e
theorem putAll_rel {E:Env}:∀ (ps:List Nat) (args:List V) (args':List Value) (fr fr1:Tr V) (t:Array Value),putAll (zipL ps args) fr=some fr1→vrels E args args'→(∀ p ∈ ps,p < t.size)→trel E fr t→
  trel E fr1 ((ps.zip args').foldl (fun t (p,v)=>t.setIfInBounds p v) t)∧((ps.zip args').foldl (fun t (p,v)=>t.setIfInBounds p v) t).size=t.size
 | [],args,args',fr,fr1,t,e,_,_,r=>by simp only [zipL,putAll,Option.some.injEq] at e; subst e; exact ⟨by simpa using r,by simp⟩
 | p :: ps,[],args',fr,fr1,t,e,ra,_,r=>by
   simp only [zipL,putAll,Option.some.injEq] at e; subst e
   simp only [vrels] at ra; subst ra
   exact ⟨by simpa using r,by simp⟩
 | p :: ps,v :: vs,args',fr,fr1,t,e,ra,hp,r=>by
   obtain ⟨y,ys,r0,rs,rfl⟩:=ra
   simp only [zipL,putAll] at e
   split at e
   · rename_i hlt
     have hpt:=hp p (by simp)
     have h2:=putAll_rel ps vs ys _ fr1 (t.setIfInBounds p y) e rs (fun q hq=>by simpa using hp q (by simp [hq])) (fun k x hx=>by
      rw [Tr.get_set _ _ _ hlt] at hx
      by_cases q:k=p
      · subst q; rw [if_pos rfl] at hx; cases hx; exact ⟨y,by simp [hpt],r0⟩
      · rw [if_neg q] at hx
        obtain ⟨x',k1,k2⟩:=r k x hx
        exact ⟨x',by rw [Array.getElem?_setIfInBounds_ne (Ne.symm q)]; exact k1,k2⟩)
     simp only [List.zip_cons_cons,List.foldl_cons]
     exact ⟨h2.1,by rw [h2.2]; simp⟩
   · cases e
theorem zip_foldl (ps:Array Nat) (args:List Value) (t:Array Value):(ps.zip args.toArray).foldl (fun t (p,v)=>t.setIfInBounds p v) t=(ps.toList.zip args).foldl (fun t (p,v)=>t.setIfInBounds p v) t:=by
 rw [← Array.foldl_toList]
 congr 1
 simp
theorem round_sound (hcf:CallOk P cf) (hm:P.follows .mixedOrders=true) {m:Nat} {args:List V} {h:Tr O} {n:Nat} {out:Out} {h':Tr O} {n':Nat} (e:aRound P cf F m args h n=some (out,h',n'))
  {E:Env} {w:World} {args':List Value} (ra:vrels E args args') (g:Good E h w) (hd:Dom E n) {l s0:Nat} (hι:E.ι m=some (l,s0)):YieldAt Fence.wide 0 P l args'.toArray w (CPost E h n w out h' n'):=by
 unfold aRound at e
 split at e
 case h_2=>cases e
 rename_i fr ps assign body hget
 split at e
 case isFalse=>cases e
 rename_i hq
 obtain ⟨hmt,hpl,hpa,hpb⟩:=hq
 split at e
 case h_2=>cases e
 rename_i fr1 hput
 obtain ⟨b,s',q1,r,hb,hst,hpe,hps,hasg,hbod,htr,hok1,hok2,hpb2⟩:=g.rel _ _ hget
 rw [hι] at q1; cases q1
 simp only [if_true] at hst
 subst hps; subst hasg; subst hbod
 have hlw:l < w.heap.size:=(Array.getElem?_eq_some_iff.1 hb).1
 have hwm:wlive h m:=⟨_,hget,rfl⟩
 have hrun:=run_yield (P:=P) (args:=args'.toArray) hb (by simp [vrels_length ra,← hpl])
 refine ⟨_,_,_,_,hrun,roundIn_of_wpIn trivial ?_⟩
 rw [zip_foldl]
 obtain ⟨htr1,hsz1⟩:=putAll_rel r.params.toList args args' fr fr1 r.tmps hput ra hpb2 htr
 have hsub:∀ k o,(h.set m none).get k=some o→k ≠ m∧h.get k=some o:=by
  intro k o hk; rw [Tr.get_set _ _ _ hmt] at hk; split at hk
  · cases hk
  · rename_i q; exact ⟨q,hk⟩
 have hsub':∀ k o,(h.set m none).get k=some o→h.get k=some o:=fun k o q=>(hsub k o q).2
 split at e
 case h_2=>cases e
 rename_i s1 hx1
 refine exec_sound (rnd:=some l) hcf hm r.assign _ _ s1 (.inr hpa) (by rw [← hsz1] at hok1; exact hok1) hx1 E _ w _ ⟨g.sub hsub',hd,htr1,rfl,rfl⟩ fun E1 a1 w1 x1 u1 hlow1 hn1 r1 hxx1=>?_
 cases x1 <;> first | (exact hxx1.elim) | skip
 have nl0:∀ k t,(h.set m none).get k ≠ none→E.ι k ≠ some (l,t):=by
  intro k t hk q
  obtain ⟨o,ho⟩:=Option.ne_none_iff_exists'.1 hk
  obtain ⟨c1,c2⟩:=hsub k o ho
  exact g.inj m k l s0 t (fun q=>c1 q.symm) hwm (by rw [c2]; simp) hι q
 have nl1:∀ k t,s1.h.get k ≠ none→E1.ι k ≠ some (l,t):=by
  intro k t hk q
  obtain ⟨m0,t0,c1,c2,_⟩:=u1.img k l t hk q hlw
  exact nl0 m0 t0 c1 c2
 have hb1:w1.heap[l]? =some (.loop r):=(u1.keep l hlw fun k t hk=>nl0 k t hk.live).trans hb
 have hl1:l < w1.heap.size:=(Array.getElem?_eq_some_iff.1 hb1).1
 refine ⟨_,run_beginRound hb1 hst,?_⟩
 generalize hw2:w1.putObj l (.loop { r with state:=.busy })=w2
 have hb2:w2.heap[l]? =some (.loop { r with state:=.busy }):=by rw [← hw2]; exact World.putObj_heap_same hl1
 have hsz2:w2.heap.size=w1.heap.size:=by rw [← hw2]; simp
 have hoth2:∀ k,k ≠ l→w2.heap[k]? =w1.heap[k]?:=fun k hk=>by rw [← hw2]; exact World.putObj_heap_other hk
 have good2:Good E1 s1.h w2:=by
  refine ⟨fun k o hk=>?_,u1.good.inj,fun k b s hk=>by rw [hsz2]; exact u1.good.bnd k b s hk,u1.good.glob,fun b c hc=>⟨?_,(u1.good.froz b c hc).2⟩⟩
  case refine_2=>
   obtain ⟨⟨el,fz,hcell⟩,_⟩:=u1.good.froz b c hc
   rw [hoth2 b fun q=>by rw [q,hb1] at hcell; cases hcell]
   exact ⟨el,fz,hcell⟩
  obtain ⟨b,s,k1,k2⟩:=u1.good.rel k o hk
  have hne:b ≠ l:=by intro q; subst q; exact nl1 k s (by rw [hk]; simp) k1
  exact ⟨b,s,k1,orel_mono E1.le_refl rfl (hoth2 b hne) k2⟩
 have hN1:a1.tmps.size=r.tmps.size:=by
  exact r1.size.trans hsz1
 have rest:∀ (x:X) (s2:St),exec P cf F r.body s1=some (x,s2)→∀ (st:Bool) (pe:Option Code) (Q:Exit→Act→World→Prop),
   (∀ x' E2 a2 w3,xrel E2 x x'→((Instr.endRound l pe).run P w3= .ok (.bool pe.isNone) (w3.putObj l (.loop { r with state:=if pe.isNone then .ready else .done,pending:=pe }))→
    (pe.isNone=st→Upd E h w E2 (s2.h.set m (some (.loop st pe fr r.params.toList r.assign r.body))) (w3.putObj l (.loop { r with state:=if pe.isNone then .ready else .done,pending:=pe })))→Dom E2 s2.n→n ≤ s2.n→(∀ k,k < n→E2.ι k=E.ι k)→Q x' a2 w3))→
   r.body.wpIn (fz (some l)) 0 P Q a1 w2:=by
  intro x s2 hx2 st pe Q hQ
  refine exec_sound (rnd:=some l) hcf hm r.body s1 x s2 (.inr hpb) hok2 hx2 E1 a1 w2 Q ⟨good2,r1.dom,r1.fr,hN1,r1.dfs⟩ fun E2 a2 w3 x' u2 hlow2 hn2 r2 hxx=>?_
  refine hQ x' E2 a2 w3 hxx ?_ ?_ r2.dom (Nat.le_trans hn1 hn2) (fun k hk=>by rw [hlow2 k (Nat.lt_of_lt_of_le hk hn1)]; exact hlow1 k hk)
  · have hb3:w3.heap[l]? =some (.loop { r with state:=.busy }):=(u2.keep l (by rw [hsz2]; exact hl1) fun k t hk=>nl1 k t hk.live).trans hb2
    exact run_endRound (P:=P) (r:={ r with state:=.busy }) pe hb3
  · intro hst'
    have nl2:∀ k t,s2.h.get k ≠ none→E2.ι k ≠ some (l,t):=by
     intro k t hk q
     obtain ⟨m0,t0,c1,c2,_⟩:=u2.img k l t hk q (by rw [hsz2]; exact hl1)
     exact nl1 m0 t0 c1 c2
    have hb3:w3.heap[l]? =some (.loop { r with state:=.busy }):=(u2.keep l (by rw [hsz2]; exact hl1) fun k t hk=>nl1 k t hk.live).trans hb2
    have hl3:l < w3.heap.size:=(Array.getElem?_eq_some_iff.1 hb3).1
    have hle:E.le E2:=Env.le_trans u1.le u2.le
    have hι2:E2.ι m=some (l,s0):=(hle.nm m l s0 hι).1
    generalize hr4:({ r with state:=if pe.isNone then .ready else .done,pending:=pe }:Loop)=r4
    have hsz4:(w3.putObj l (.loop r4)).heap.size=w3.heap.size:=by simp
    have hoth4:∀ k,k ≠ l→(w3.putObj l (.loop r4)).heap[k]? =w3.heap[k]?:=fun k hk=>World.putObj_heap_other hk
    have hnew:orel E2 (w3.putObj l (.loop r4)) l s0 (.loop st pe fr r.params.toList r.assign r.body):=by
     refine ⟨r4,World.putObj_heap_same hl3,?_,?_,?_,?_,?_,?_,?_⟩
     · rw [← hr4,← hst']
     · rw [← hr4]
     · rw [← hr4]
     · rw [← hr4]
     · rw [← hr4]
     · rw [← hr4]; exact trel_mono hle htr
     · rw [← hr4]; exact ⟨hok1,hok2,hpb2⟩
    have hcase:∀ k o,(s2.h.set m (some (.loop st pe fr r.params.toList r.assign r.body))).get k=some o→(k=m∧o= .loop st pe fr r.params.toList r.assign r.body) ∨ (k ≠ m∧s2.h.get k=some o):=by
     intro k o q
     rw [Tr.get_set _ _ _ hmt] at q
     split at q
     · rename_i c; cases q; exact .inl ⟨c,rfl⟩
     · rename_i c; exact .inr ⟨c,q⟩
    have hfz3:∀ b c,E2.φ b=some c→b ≠ l:=fun b c hc q=>by
     obtain ⟨⟨el,fz,hcell⟩,_⟩:=u2.good.froz b c hc
     rw [q,hb3] at hcell; cases hcell
    refine ⟨hle,⟨?_,?_,?_,u2.good.glob,fun b c hc=>⟨by rw [hoth4 b (hfz3 b c hc)]; exact (u2.good.froz b c hc).1,fun k t hk q0=>?_⟩⟩,?_,?_,?_,?_,?_,?_,?_⟩
    case refine_4=>
     obtain ⟨o,hk,ho⟩:=hk
     rcases hcase k o hk with ⟨rfl,rfl⟩ | ⟨c',q⟩
     · rw [hι2] at q0; cases q0; exact hfz3 _ c hc rfl
     · exact (u2.good.froz b c hc).2 k t ⟨o,q,ho⟩ q0
    case refine_11=>
     intro b c hc
     rcases u2.fzn b c hc with q | q | ⟨m1,t1,q1,q2⟩
     · rcases u1.fzn b c q with q | q | ⟨m0,t0,q1,q2⟩
       · exact .inl q
       · exact .inr (.inl q)
       · exact .inr (.inr ⟨m0,t0,wlive_sub hsub' q1,q2⟩)
     · have c1:=u1.size; exact .inr (.inl (by omega))
     · rcases Nat.lt_or_ge b w.heap.size with hb' | hb'
       · obtain ⟨m0,t0,_,f2,f3⟩:=u1.img m1 b t1 q1.live q2 hb'
         exact .inr (.inr ⟨m0,t0,wlive_sub hsub' (f3 q1),f2⟩)
       · exact .inr (.inl hb')
    · intro k o q
      rcases hcase k o q with ⟨rfl,rfl⟩ | ⟨c,q⟩
      · exact ⟨l,s0,hι2,hnew⟩
      · obtain ⟨b,t,k1,k2⟩:=u2.good.rel k o q
        have hne:b ≠ l:=by intro c; subst c; exact nl2 k t (by rw [q]; simp) k1
        exact ⟨b,t,k1,orel_mono E2.le_refl rfl (hoth4 b hne) k2⟩
    · intro k k' b t t' hne hk hk' e1 e2
      obtain ⟨o,hk,ho⟩:=hk
      obtain ⟨o',hk'⟩:=Option.ne_none_iff_exists'.1 hk'
      rcases hcase k o hk with ⟨rfl,rfl⟩ | ⟨c,q⟩
      · rcases hcase k' o' hk' with ⟨rfl,rfl⟩ | ⟨c',q'⟩
        · exact hne rfl
        · rw [hι2] at e1; cases e1
          exact nl2 k' t' (by rw [q']; simp) e2
      · rcases hcase k' o' hk' with ⟨rfl,rfl⟩ | ⟨c',q'⟩
        · rw [hι2] at e2; cases e2
          exact nl2 k t (by rw [q]; simp) e1
        · exact u2.good.inj k k' b t t' hne ⟨o,q,ho⟩ (by rw [q']; simp) e1 e2
    · intro k b t q; rw [hsz4]; exact u2.good.bnd k b t q
    · rw [hsz4]; have c1:=u1.size; have c2:=u2.size; omega
    · exact u2.tape.trans (by rw [← hw2]; exact u1.tape)
    · exact u2.os.trans (by rw [← hw2]; exact u1.os)
    · exact u2.output.trans (by rw [← hw2]; exact u1.output)
    · intro b hb' hno
      have hne:b ≠ l:=by intro c; subst c; exact hno m s0 hwm hι
      have c1:=u1.size
      rw [hoth4 b hne,u2.keep b (by omega) ?_,hoth2 b hne,u1.keep b hb' ?_]
      · intro k t hk q
        exact hno k t (wlive_sub hsub' hk) q
      · intro k t hk q
        obtain ⟨m0,t0,d1,d2,d3⟩:=u1.img k b t hk.live q hb'
        exact hno m0 t0 (wlive_sub hsub' (d3 hk)) d2
    · intro k b t hk q hb'
      obtain ⟨o,hk⟩:=Option.ne_none_iff_exists'.1 hk
      have c1:=u1.size
      rcases hcase k o hk with ⟨rfl,rfl⟩ | ⟨c,qk⟩
      · rw [hι2] at q; cases q
        exact ⟨k,s0,hwm.live,hι,fun _=>hwm⟩
      · obtain ⟨m1,t1,d1,d2,d3⟩:=u2.img k b t (by rw [qk]; simp) q (by omega)
        obtain ⟨m0,t0,f1,f2,f3⟩:=u1.img m1 b t1 d1 d2 hb'
        exact ⟨m0,t0,live_sub hsub' f1,f2,fun z=>wlive_sub hsub' (f3 (d3 (wlive_ne hmt z c)))⟩
 split at e
 · rename_i s2 hx2
   simp only [Option.some.injEq,Prod.mk.injEq] at e; obtain ⟨rfl,rfl,rfl⟩:=e
   refine rest _ s2 hx2 true none _ fun x' E2 a2 w3 hxx hrun hu hdom hn hlow=>?_
   cases x' <;> first | (exact hxx.elim) | skip
   exact ⟨_,_,hrun,E2,hu rfl,hlow,hdom,hn,rfl⟩
 · rename_i s2 hx2
   simp only [Option.some.injEq,Prod.mk.injEq] at e; obtain ⟨rfl,rfl,rfl⟩:=e
   refine rest _ s2 hx2 false (some .ret) _ fun x' E2 a2 w3 hxx hrun hu hdom hn hlow=>?_
   cases x' <;> first | (exact hxx.elim) | skip
   exact ⟨_,_,hrun,E2,hu rfl,hlow,hdom,hn,rfl⟩
 · rename_i j s2 hx2
   simp only [Option.some.injEq,Prod.mk.injEq] at e; obtain ⟨rfl,rfl,rfl⟩:=e
   refine rest _ s2 hx2 false (some (.exit j)) _ fun x' E2 a2 w3 hxx hrun hu hdom hn hlow=>?_
   cases x' <;> first | (exact hxx.elim) | skip
   have:_=j:=hxx.symm
   subst this
   exact ⟨_,_,hrun,E2,hu rfl,hlow,hdom,hn,rfl⟩
 · cases e
theorem step_ok (hcf:CallOk P cf) (hm:P.follows .mixedOrders=true) (hpo:progOk P=true):CallOk P (fun f args h n=>if f < P.funcs.size then enter P cf F f args h n else aRound P cf F (f - P.funcs.size) args h n):=by
 intro f args h n out h' n' e E w args' ra g hd
 simp only at e
 split at e
 · rename_i hlt
   exact ⟨fun _=>enter_sound hcf hm hpo e ra g hd,fun m l s hf _=>absurd hlt (by rw [hf]; exact Nat.not_lt.2 (Nat.le_add_right _ _))⟩
 · rename_i hge
   refine ⟨fun hc=>?_,fun m l s hf hι=>?_⟩
   · exfalso
     unfold callee at hc
     rw [Array.getElem?_eq_none (Nat.not_lt.1 hge)] at hc
     cases hc
   · subst hf
     rw [Nat.add_sub_cancel_left] at e
     exact round_sound hcf hm e ra g hd hι
theorem call_sound' (hm:P.follows .mixedOrders=true) (hpo:progOk P=true):∀ k,CallOk P (call P F k)
 | 0=>fun _ _ _ _ _ _ _ e=>by cases e
 | k+1=>step_ok (call_sound' hm hpo k) hm hpo
end
end Go.Eng
namespace Go.Eng
open Go Go.RowKit
def gfind:List (Nat × Nat)→Nat→Option (Nat × Nat)
 | [],_=>none
 | p :: r,m=>if p.2=m then some (p.1,0) else gfind r m
def gN:Nat:=gtab.length
theorem gfind_mem:∀ {l:List (Nat × Nat)} {m:Nat} {q:Nat × Nat},gfind l m=some q→∃ p ∈ l,p.2=m∧q=(p.1,0)
 | [],_,_,h=>by cases h
 | p :: r,m,q,h=>by
   unfold gfind at h
   split at h
   · rename_i hb; cases h; exact ⟨p,by simp,hb,rfl⟩
   · obtain ⟨p',h1,h2⟩:=gfind_mem h; exact ⟨p',List.mem_cons_of_mem _ h1,h2⟩
theorem gfind_of:∀ {l:List (Nat × Nat)} {p:Nat × Nat},p ∈ l→(l.map (·.2)).Nodup→gfind l p.2=some (p.1,0)
 | q :: r,p,h,hn=>by
   unfold gfind
   rcases List.mem_cons.1 h with rfl | h
   · rw [if_pos rfl]
   · simp only [List.map_cons,List.nodup_cons] at hn
     rw [if_neg (fun e=>hn.1 (by rw [e]; exact List.mem_map_of_mem h))]
     exact gfind_of h hn.2
theorem gtab_nd:(gtab.map (·.2)).Nodup:=by
 have h:gtab.map (·.2)=List.range gtab.length:=by decide
 rw [h]; exact List.nodup_range
theorem gtab_lt {p:Nat × Nat} (h:p ∈ gtab):p.2 < gN:=by
 have e:gtab.map (·.2)=List.range gtab.length:=by decide
 have:=List.mem_map_of_mem (f:=(·.2)) h
 rw [e] at this
 exact List.mem_range.1 this
def E0F (φ:Nat→Option (Array Value)):Env:=⟨fun m=>gfind gtab m,fun _=>0,φ⟩
def E0:Env:=E0F fun _=>none
def FzOk (φ:Nat→Option (Array Value)) (w:World):Prop:=∀ b c,φ b=some c→∃ el fz,w.heap[b]? =some (.cells c el fz)
theorem Good.fz {E:Env} {h:Tr O} {w:World} (g:Good E h w):FzOk E.φ w:=fun b c q=>(g.froz b c q).1
theorem GE0F (φ:Nat→Option (Array Value)):GE (E0F φ):=fun p hp=>gfind_of hp gtab_nd
def WG (w:World):Prop:=∀ p ∈ gtab,p.1 < w.heap.size
theorem Good.wg {E:Env} {h:Tr O} {w:World} (g:Good E h w):WG w:=fun p hp=>g.bnd _ _ _ (g.glob p hp)
theorem good0F {φ:Nat→Option (Array Value)} {w:World} (hw:WG w) (hφ:FzOk φ w):Good (E0F φ) .nil w:=⟨fun m o h=>by simp [Tr.get] at h,fun m _ _ _ _ _ h=>absurd rfl h.live,fun m b s h=>by obtain ⟨p,h1,_,h2⟩:=gfind_mem h; cases h2; exact hw p h1,GE0F φ,fun b c q=>⟨hφ b c q,fun m s h=>absurd rfl h.live⟩⟩
theorem good0 {w:World} (hw:WG w):Good E0 .nil w:=good0F hw fun _ _ q=>by cases q
theorem dom0F {φ:Nat→Option (Array Value)} {n:Nat} (hn:gN ≤ n):Dom (E0F φ) n:=fun m hm=>by
 cases q:(E0F φ).ι m with
 | none=>rfl
 | some _=>obtain ⟨p',h1,h2,_⟩:=gfind_mem q; have:=gtab_lt h1; omega
theorem dom0 {n:Nat} (hn:gN ≤ n):Dom E0 n:=dom0F hn
mutual
def V.free:V→Bool
 | .ptr (some _)=>false
 | .slc (some _) _ _ _=>false
 | .map (some _)=>false
 | .fn f a c=>noYield f && (V.frees a && V.frees c)
 | .iface _ x=>V.free x
 | .agg cs=>V.frees cs
 | .tup cs=>V.frees cs
 | .lst _ 0 []=>true
 | .lst _ _ _=>false
 | .fptr _=>false
 | _=>true
def V.frees:List V→Bool
 | []=>true
 | x :: xs=>V.free x && V.frees xs
end
mutual
theorem free_rel {E E':Env}:∀ (v:V) (v':Value),v.free=true→vrel E v v'→vrel E' v v'
 | .bool _,_,_,r=>r
 | .int _ _,_,_,r=>r
 | .str _,_,_,r=>r
 | .ptr none,_,_,r=>r
 | .ptr (some _),_,h,_=>by simp [V.free] at h
 | .slc none _ _ _,_,_,r=>r
 | .slc (some _) _ _ _,_,h,_=>by simp [V.free] at h
 | .map none,_,_,r=>r
 | .map (some _),_,h,_=>by simp [V.free] at h
 | .fn f a c,_,h,⟨f',a',c',rf,ra,rc,q⟩=>by
   simp only [V.free,Bool.and_eq_true] at h
   refine ⟨f',a',c',?_,frees_rel a a' h.2.1 ra,frees_rel c c' h.2.2 rc,q⟩
   cases f <;> first | exact rf | (simp [noYield] at h; done)
 | .nilFn,_,_,r=>r
 | .iface _ x,_,h,⟨x',r,q⟩=>⟨x',free_rel x x' (by simpa only [V.free] using h) r,q⟩
 | .nilIface,_,_,r=>r
 | .agg cs,_,h,⟨cs',r,q⟩=>⟨cs',frees_rel cs cs' (by simpa only [V.free] using h) r,q⟩
 | .tup cs,_,h,⟨cs',r,q⟩=>⟨cs',frees_rel cs cs' (by simpa only [V.free] using h) r,q⟩
 | .lst f 0 [],_,_,r=>by
   obtain ⟨⟨a,cap,vs,h1,h2,h3,h4,h5⟩,h6⟩:=r
   exact ⟨⟨a,cap,vs,h1,h2,h3,h4,fun q=>absurd q (Nat.lt_irrefl _)⟩,h6⟩
 | .lst f 0 (_ :: _),_,h,_=>by simp [V.free] at h
 | .lst f (_+1) _,_,h,_=>by simp [V.free] at h
 | .fptr _,_,h,_=>by simp [V.free] at h
theorem frees_rel {E E':Env}:∀ (v:List V) (v':List Value),V.frees v=true→vrels E v v'→vrels E' v v'
 | [],_,_,r=>r
 | x :: xs,_,h,⟨y,ys,r,rs,q⟩=>by
   simp only [V.frees,Bool.and_eq_true] at h
   exact ⟨y,ys,free_rel x y h.1 r,frees_rel xs ys h.2 rs,q⟩
end
theorem Good.below {E:Env} {h:Tr O} {w w':World} (g:Good E h w) (b:Below w.heap.size w w'):Good E h w' where
 rel:=fun m o hm=>let ⟨b',s,h1,h2⟩:=g.rel m o hm; ⟨b',s,h1,orel_mono E.le_refl rfl (b.block b' (g.bnd m b' s h1)) h2⟩
 inj:=g.inj
 bnd:=fun m b' s hm=>Nat.lt_of_lt_of_le (g.bnd m b' s hm) b.size
 glob:=g.glob
 froz:=fun k c q=>⟨by rw [b.block k (by obtain ⟨el,fz,e⟩:=g.fz k c q; exact (Array.getElem?_eq_some_iff.1 e).1)]; exact g.fz k c q,(g.froz k c q).2⟩
theorem Upd.below {E:Env} {h:Tr O} {w w':World} (g:Good E h w) (b:Below w.heap.size w w'):Upd E h w E h w':=
 ⟨E.le_refl,g.below b,b.size,b.tape,b.os,b.output,fun k hk _=>b.block k hk,fun m _ s hm he _=>⟨m,s,hm,he,id⟩,fun _ _ q=>.inl q⟩
def look (f:FuncId) (args:List V):List (FuncId × List V × V)→Option V
 | []=>none
 | x :: r=>match Nat.beq f x.1 && V.beqs args x.2.1 with
   | true=>some x.2.2
   | false=>look f args r
def SpecOk (P:Program) (x:FuncId × List V × V):Prop:=x.1 < P.funcs.size∧V.frees x.2.1=true∧x.2.2.free=true∧∃ cf h' n',CallOk P cf∧cf x.1 x.2.1 .nil gN=some (.ret x.2.2,h',n')
theorem look_mem {f:FuncId} {args:List V} {v:V}:∀ {T:List (FuncId × List V × V)},look f args T=some v→(f,args,v) ∈ T
 | [],h=>by simp [look] at h
 | x :: r,h=>by
   simp only [look] at h
   split at h
   · rename_i hb
     simp only [Bool.and_eq_true] at hb
     simp only [Option.some.injEq] at h
     rw [Nat.eq_of_beq_eq_true hb.1,beqs_eq _ _ hb.2,← h]
     simp
   · exact List.mem_cons_of_mem _ (look_mem h)
theorem spec_calls {P:Program} {f:FuncId} {args:List V} {v:V} (hs:SpecOk P (f,args,v)) {E:Env} {h:Tr O} {n:Nat} {w:World} {args':List Value} (ra:vrels E args args') (g:Good E h w) (hd:Dom E n) (hc:callee P f=true):
  Calls P f args'.toArray w (CPost E h n w (.ret v) h n):=by
 obtain ⟨_,ha,hv,cf,h',n',hcf,e⟩:=hs
 refine (hcf f args .nil gN _ h' n' e E0 w args' (frees_rel _ _ ha ra) (good0 g.wg) (dom0 (Nat.le_refl _))).1 hc |>.mono fun en w' ⟨E1,u,_,_,_,ho⟩=>?_
 have hk:∀ b,b < w.heap.size→w'.heap[b]? =w.heap[b]?:=fun b hb=>u.keep b hb fun m s hm=>absurd rfl hm.live
 have hfb:∀ b c,E.φ b=some c→b < w.heap.size:=fun b c q=>by obtain ⟨el,fz,e⟩:=g.fz b c q; exact (Array.getElem?_eq_some_iff.1 e).1
 refine ⟨E,⟨E.le_refl,⟨?_,g.inj,fun m b s hm=>Nat.lt_of_lt_of_le (g.bnd m b s hm) u.size,g.glob,fun b c q=>⟨by rw [hk b (hfb b c q)]; exact g.fz b c q,(g.froz b c q).2⟩⟩,u.size,u.tape,u.os,u.output,fun b hb _=>hk b hb,fun m b s hm he _=>⟨m,s,hm,he,id⟩,fun _ _ q=>.inl q⟩,fun _ _=>rfl,hd,Nat.le_refl _,?_⟩
 · intro m o hm
   obtain ⟨b,s,h1,h2⟩:=g.rel m o hm
   exact ⟨b,s,h1,orel_mono E.le_refl rfl (hk b (g.bnd m b s h1)) h2⟩
 · cases en with
   | returned v'=>exact free_rel _ _ hv ho
   | _=>exact ho.elim
structure Upd0 (w0:World) (E:Env) (h:Tr O) (w:World):Prop where
 good:Good E h w
 size:w0.heap.size ≤ w.heap.size
 tape:w.tape=w0.tape
 os:w.os=w0.os
 output:w.output=w0.output
 keep:∀ b,b < w0.heap.size→w.heap[b]? =w0.heap[b]?
 img:∀ m b s,wlive h m→E.ι m=some (b,s)→b < w0.heap.size→False
theorem Upd0.trans {w0:World} {E E':Env} {h h':Tr O} {w w':World} (a:Upd0 w0 E h w) (b:Upd E h w E' h' w'):Upd0 w0 E' h' w' where
 good:=b.good
 size:=Nat.le_trans a.size b.size
 tape:=b.tape.trans a.tape
 os:=b.os.trans a.os
 output:=b.output.trans a.output
 keep:=fun x hx=>by
  rw [b.keep x (Nat.lt_of_lt_of_le hx a.size) fun m s hm e=>a.img m x s hm e hx,a.keep x hx]
 img:=fun m x s hm e hx=>by
  obtain ⟨m1,s1,_,e1,k1⟩:=b.img m x s hm.live e (Nat.lt_of_lt_of_le hx a.size)
  exact a.img m1 x s1 (k1 hm) e1 hx
theorem Upd0.init {E:Env} {h:Tr O} {w:World} (g:Good E h w) (hr:∀ m,¬ wlive h m):Upd0 w E h w:=
 ⟨g,Nat.le_refl _,rfl,rfl,rfl,fun _ _=>rfl,fun m _ _ hm _ _=>hr m hm⟩
theorem Upd0.below {w0:World} {E:Env} {h:Tr O} {w:World} (u:Upd0 w0 E h w):Below w0.heap.size w0 w:=
 ⟨u.os,u.tape,u.output,u.size,fun k hk=>u.keep k hk⟩
def Run0 (N:Nat) (w0:World) (s:St) (a:Act) (w:World):Prop:=∃ E,SRel E N s a w∧Upd0 w0 E s.h w
theorem Run0.below {N:Nat} {w0:World} {s:St} {a:Act} {w:World} (i:Run0 N w0 s a w):Below w0.heap.size w0 w:=by
 obtain ⟨E,_,u⟩:=i
 exact u.below
def X.plain:X→Option Exit
 | .normal=>some .normal
 | .exit i=>some (.exit i)
 | .ret=>some .ret
 | .panic _=>none
mutual
def V.names:V→List Nat→List Nat
 | .ptr (some (m,_)),l=>m :: l
 | .slc (some (m,_)) _ _ _,l=>m :: l
 | .map (some m),l=>m :: l
 | .fn f a c,l=>match f with
   | .yield m=>m :: V.namess a (V.namess c l)
   | _=>V.namess a (V.namess c l)
 | .iface _ x,l=>V.names x l
 | .agg cs,l=>V.namess cs l
 | .tup cs,l=>V.namess cs l
 | _,l=>l
def V.namess:List V→List Nat→List Nat
 | [],l=>l
 | x :: xs,l=>V.names x (V.namess xs l)
end
def entNames:List (V × V × Nat)→List Nat
 | []=>[]
 | x :: xs=>V.names x.1 (V.names x.2.1 (entNames xs))
def O.names:O→List Nat
 | .cells cs=>V.namess cs []
 | .map es _=>entNames es
 | .siter _ _=>[]
 | .ints _ _=>[]
 | .own _ _=>[]
 | .deep _=>[]
 | .buf _ _ _=>[]
 | .bld _ _ x=>V.names x []
 | .mapD _ _=>[]
 | .dfr=>[]
 | .loop ..=>[]
def trav (h:Tr O):Nat→List Nat→Tr Nat→List Nat→Nat→Option (Tr Nat × List Nat × Nat)
 | 0,_,_,_,_=>none
 | _+1,[],ρ,olds,k=>some (ρ,olds,k)
 | f+1,m :: q,ρ,olds,k=>match ρ.get m with
   | some _=>trav h f q ρ olds k
   | none=>trav h f ((match h.get m with | some o=>o.names | none=>[]) ++ q) (ρ.set m (some k)) (m :: olds) (k+1)
def backOf:List Nat→Nat→Tr Nat→Tr Nat
 | [],_,t=>t
 | m :: r,k,t=>backOf r (k - 1) (t.set (k - 1) (some m))
def nameOf (ρ back:Tr Nat) (n2 m:Nat):Option Nat:=
 match ρ.get m with
 | some k=>match back.get k with
   | some m'=>match Nat.beq m m' && Nat.blt k n2 with
     | true=>some k
     | false=>none
   | none=>none
 | none=>none
theorem nameOf_spec {ρ back:Tr Nat} {n2 m k:Nat} (h:nameOf ρ back n2 m=some k):ρ.get m=some k∧back.get k=some m∧k < n2:=by
 unfold nameOf at h
 split at h
 · rename_i k' h1
   split at h
   · rename_i m' h2
     split at h
     · rename_i hb
       simp only [Bool.and_eq_true] at hb
       simp only [Option.some.injEq] at h
       subst h
       have e:=Nat.eq_of_beq_eq_true hb.1
       subst e
       exact ⟨h1,h2,by have:=hb.2; simp [Nat.blt] at this; omega⟩
     · cases h
   · cases h
 · cases h
section
variable (ν:Nat→Option Nat)
mutual
def V.ren:V→Option V
 | .ptr (some (m,o))=>match ν m with
   | some k=>some (.ptr (some (k,o)))
   | none=>none
 | .slc (some (m,o)) l c e=>match ν m with
   | some k=>some (.slc (some (k,o)) l c e)
   | none=>none
 | .map (some m)=>match ν m with
   | some k=>some (.map (some k))
   | none=>none
 | .fn f a c=>match noYield f with
   | true=>match V.rens a with
     | some a=>match V.rens c with
       | some c=>some (.fn f a c)
       | none=>none
     | none=>none
   | false=>none
 | .iface t x=>match V.ren x with
   | some x=>some (.iface t x)
   | none=>none
 | .agg cs=>match V.rens cs with
   | some cs=>some (.agg cs)
   | none=>none
 | .tup cs=>match V.rens cs with
   | some cs=>some (.tup cs)
   | none=>none
 | .bool b=>some (.bool b)
 | .int k n=>some (.int k n)
 | .str s=>some (.str s)
 | .ptr none=>some (.ptr none)
 | .slc none l c e=>some (.slc none l c e)
 | .map none=>some (.map none)
 | .nilFn=>some .nilFn
 | .nilIface=>some .nilIface
 | .lst f n cs=>some (.lst f n cs)
 | .fptr cs=>some (.fptr cs)
def V.rens:List V→Option (List V)
 | []=>some []
 | x :: xs=>match V.ren x with
   | some x=>match V.rens xs with
     | some xs=>some (x :: xs)
     | none=>none
   | none=>none
end
def renEs:List (V × V × Nat)→Option (List (V × V × Nat))
 | []=>some []
 | x :: xs=>match V.ren ν x.1,V.ren ν x.2.1,renEs xs with
   | some k,some v,some xs=>some ((k,v,x.2.2) :: xs)
   | _,_,_=>none
def O.ren:O→Option O
 | .cells cs=>match V.rens ν cs with
   | some cs=>some (.cells cs)
   | none=>none
 | .map es c=>match renEs ν es with
   | some es=>some (.map es c)
   | none=>none
 | .siter s p=>some (.siter s p)
 | .ints k ks=>some (.ints k ks)
 | .own k ks=>some (.own k ks)
 | .deep cs=>some (.deep cs)
 | .buf e f s=>some (.buf e f s)
 | .bld t s x=>match V.ren ν x with
   | some x=>some (.bld t s x)
   | none=>none
 | .mapD k es=>some (.mapD k es)
 | .dfr=>none
 | .loop ..=>none
end
section
variable {ν:Nat→Option Nat} {E E':Env} (hι:∀ m k,ν m=some k→E'.ι k=E.ι m) (hβ:E'.β=E.β) (hφ:∀ b c,E.φ b=some c→E'.φ b=some c)
include hι hβ hφ
end
def heapOf (ν:Nat→Option Nat) (h:Tr O):List Nat→Tr O→Option (Tr O)
 | [],t=>some t
 | m :: r,t=>match h.get m with
   | none=>heapOf ν h r t
   | some o=>match ν m with
     | some k=>match o.ren ν with
       | some o2=>match Nat.blt k top with
         | true=>heapOf ν h r (t.set k (some o2))
         | false=>none
       | none=>none
     | none=>none
def frameLive (ν:Nat→Option Nat) (fr:Tr V):List Nat→Tr V→Option (Tr V)
 | [],t=>some t
 | m :: r,t=>match fr.get m with
   | none=>frameLive ν fr r t
   | some v=>match v.ren ν with
     | some v2=>match Nat.blt m top with
       | true=>frameLive ν fr r (t.set m (some v2))
       | false=>none
     | none=>none
def rootNames (fr:Tr V):List Nat→List Nat
 | []=>[]
 | t :: r=>match fr.get t with
   | some v=>v.names (rootNames fr r)
   | none=>rootNames fr r
def gKeep (back:Tr Nat) (k:Nat):Bool:=gtab.all fun p=>Nat.blt p.2 k && match back.get p.2 with
 | some o=>Nat.beq o p.2
 | none=>false
def norm (live:List Nat) (s:St):Option St:=
 match s.dfs with
 | []=>match trav s.h 100000 (rootNames s.fr live) .nil [] 0 with
   | some (ρ,olds,k)=>
     let ν:=nameOf ρ (backOf olds k .nil) k
     match gKeep (backOf olds k .nil) k with
     | false=>none
     | true=>match heapOf ν s.h olds .nil with
     | some h2=>match frameLive ν s.fr live .nil with
       | some fr2=>some { fr:=fr2,h:=h2,n:=k,dfs:=[] }
       | none=>none
     | none=>none
   | none=>none
 | _=>none
end Go.Eng
namespace Go.Eng
open Go Go.RowKit
section
variable (ν:Nat→Option Nat)
mutual
def V.rn:V→Option V
 | .ptr (some (m,o))=>match ν m with
   | some k=>some (.ptr (some (k,o)))
   | none=>none
 | .slc (some (m,o)) l c e=>match ν m with
   | some k=>some (.slc (some (k,o)) l c e)
   | none=>none
 | .map (some m)=>match ν m with
   | some k=>some (.map (some k))
   | none=>none
 | .fn f a c=>match V.rns a with
   | some a=>match V.rns c with
     | some c=>match f with
       | .yield m=>match ν m with
         | some k=>some (.fn (.yield k) a c)
         | none=>none
       | f=>some (.fn f a c)
     | none=>none
   | none=>none
 | .iface t x=>match V.rn x with
   | some x=>some (.iface t x)
   | none=>none
 | .agg cs=>match V.rns cs with
   | some cs=>some (.agg cs)
   | none=>none
 | .tup cs=>match V.rns cs with
   | some cs=>some (.tup cs)
   | none=>none
 | .bool b=>some (.bool b)
 | .int k n=>some (.int k n)
 | .str s=>some (.str s)
 | .ptr none=>some (.ptr none)
 | .slc none l c e=>some (.slc none l c e)
 | .map none=>some (.map none)
 | .nilFn=>some .nilFn
 | .nilIface=>some .nilIface
 | .lst f n cs=>some (.lst f n cs)
 | .fptr cs=>some (.fptr cs)
def V.rns:List V→Option (List V)
 | []=>some []
 | x :: xs=>match V.rn x with
   | some x=>match V.rns xs with
     | some xs=>some (x :: xs)
     | none=>none
   | none=>none
end
def rnEs:List (V × V × Nat)→Option (List (V × V × Nat))
 | []=>some []
 | x :: xs=>match V.rn ν x.1 with
   | some k=>match V.rn ν x.2.1 with
     | some v=>match rnEs xs with
       | some xs=>some ((k,v,x.2.2) :: xs)
       | none=>none
     | none=>none
   | none=>none
def selfN (m:Nat):Bool:=match ν m with
 | some k=>Nat.beq m k
 | none=>false
mutual
def V.still:V→Bool
 | .ptr (some (m,_))=>selfN ν m
 | .slc (some (m,_)) _ _ _=>selfN ν m
 | .map (some m)=>selfN ν m
 | .fn f a c=>(match f with | .yield m=>selfN ν m | _=>true) && (V.stills a && V.stills c)
 | .iface _ x=>V.still x
 | .agg cs=>V.stills cs
 | .tup cs=>V.stills cs
 | _=>true
def V.stills:List V→Bool
 | []=>true
 | x :: xs=>V.still x && V.stills xs
end
def frStill:Tr V→Bool
 | .nil=>true
 | .node v l r=>(match v with | some v=>V.still ν v | none=>true) && (frStill l && frStill r)
def O.rn:O→Option O
 | .cells cs=>match V.rns ν cs with
   | some cs=>some (.cells cs)
   | none=>none
 | .map es c=>match rnEs ν es with
   | some es=>some (.map es c)
   | none=>none
 | .siter s p=>some (.siter s p)
 | .ints k ks=>some (.ints k ks)
 | .own k ks=>some (.own k ks)
 | .deep cs=>some (.deep cs)
 | .buf e f s=>some (.buf e f s)
 | .bld t s x=>match V.rn ν x with
   | some x=>some (.bld t s x)
   | none=>none
 | .mapD k es=>some (.mapD k es)
 | .dfr=>some .dfr
 | .loop st pe fr ps a b=>match frStill ν fr with
   | true=>some (.loop st pe fr ps a b)
   | false=>none
end
mutual
theorem rn_rel {ν:Nat→Option Nat} {E E':Env} (hι:∀ m k,ν m=some k→E'.ι k=E.ι m) (hβ:∀ m k b s,ν m=some k→E.ι m=some (b,s)→E'.β b=E.β b) (hφ:∀ b c,E.φ b=some c→E'.φ b=some c):∀ (v v2:V) (v':Value),v.rn ν=some v2→vrel E v v'→vrel E' v2 v'
 | .bool _,v2,_,h,r=>by simp only [V.rn,Option.some.injEq] at h; subst h; exact r
 | .int _ _,v2,_,h,r=>by simp only [V.rn,Option.some.injEq] at h; subst h; exact r
 | .str _,v2,_,h,r=>by simp only [V.rn,Option.some.injEq] at h; subst h; exact r
 | .ptr none,v2,_,h,r=>by simp only [V.rn,Option.some.injEq] at h; subst h; exact r
 | .ptr (some (m,o)),v2,_,h,⟨b,s,e,q⟩=>by
   simp only [V.rn] at h
   split at h
   · rename_i k hk; simp only [Option.some.injEq] at h; subst h; exact ⟨b,s,(hι m k hk).trans e,q⟩
   · cases h
 | .slc none _ _ _,v2,_,h,r=>by simp only [V.rn,Option.some.injEq] at h; subst h; exact r
 | .slc (some (m,o)) _ _ _,v2,_,h,⟨b,s,o',cap',e,q1,q2,q3,q4,q5⟩=>by
   simp only [V.rn] at h
   split at h
   · rename_i k hk; simp only [Option.some.injEq] at h; subst h; exact ⟨b,s,o',cap',(hι m k hk).trans e,q1,q2,q3,by rw [hβ m k b s hk e]; exact q4,q5⟩
   · cases h
 | .map none,v2,_,h,r=>by simp only [V.rn,Option.some.injEq] at h; subst h; exact r
 | .map (some m),v2,_,h,⟨b,e,q⟩=>by
   simp only [V.rn] at h
   split at h
   · rename_i k hk; simp only [Option.some.injEq] at h; subst h; exact ⟨b,(hι m k hk).trans e,q⟩
   · cases h
 | .fn f a c,v2,_,h,⟨f',a',c',rf,ra,rc,q⟩=>by
   simp only [V.rn] at h
   split at h
   · rename_i a2 ha
     split at h
     · rename_i c2 hc
       have ra2:=rns_rel hι hβ hφ a a2 a' ha ra
       have rc2:=rns_rel hι hβ hφ c c2 c' hc rc
       split at h
       · rename_i m
         split at h
         · rename_i k hk
           simp only [Option.some.injEq] at h; subst h
           obtain ⟨l,s,e,q2⟩:=rf
           exact ⟨f',a',c',⟨l,s,(hι m k hk).trans e,q2⟩,ra2,rc2,q⟩
         · cases h
       · simp only [Option.some.injEq] at h; subst h
         refine ⟨f',a',c',?_,ra2,rc2,q⟩
         cases f <;> first | exact rf | (rename_i hne; exact (hne _ rfl).elim)
     · cases h
   · cases h
 | .nilFn,v2,_,h,r=>by simp only [V.rn,Option.some.injEq] at h; subst h; exact r
 | .iface t x,v2,_,h,⟨x',r,q⟩=>by
   simp only [V.rn] at h
   split at h
   · rename_i x2 hx; simp only [Option.some.injEq] at h; subst h; exact ⟨x',rn_rel hι hβ hφ x x2 x' hx r,q⟩
   · cases h
 | .nilIface,v2,_,h,r=>by simp only [V.rn,Option.some.injEq] at h; subst h; exact r
 | .agg cs,v2,_,h,⟨cs',r,q⟩=>by
   simp only [V.rn] at h
   split at h
   · rename_i x2 hx; simp only [Option.some.injEq] at h; subst h; exact ⟨cs',rns_rel hι hβ hφ cs x2 cs' hx r,q⟩
   · cases h
 | .tup cs,v2,_,h,⟨cs',r,q⟩=>by
   simp only [V.rn] at h
   split at h
   · rename_i x2 hx; simp only [Option.some.injEq] at h; subst h; exact ⟨cs',rns_rel hι hβ hφ cs x2 cs' hx r,q⟩
   · cases h
 | .lst f n cs,v2,_,h,r=>by
   simp only [V.rn,Option.some.injEq] at h; subst h
   exact ⟨drel_mono hφ _ _ r.1,r.2⟩
 | .fptr cs,v2,_,h,⟨b,o,c,vs,e,e1,r,q⟩=>by
   simp only [V.rn,Option.some.injEq] at h; subst h
   exact ⟨b,o,c,vs,e,hφ _ _ e1,drels_mono hφ _ _ r,q⟩
theorem rns_rel {ν:Nat→Option Nat} {E E':Env} (hι:∀ m k,ν m=some k→E'.ι k=E.ι m) (hβ:∀ m k b s,ν m=some k→E.ι m=some (b,s)→E'.β b=E.β b) (hφ:∀ b c,E.φ b=some c→E'.φ b=some c):∀ (v v2:List V) (v':List Value),V.rns ν v=some v2→vrels E v v'→vrels E' v2 v'
 | [],v2,_,h,r=>by simp only [V.rns,Option.some.injEq] at h; subst h; exact r
 | x :: xs,v2,_,h,⟨y,ys,r,rs,q⟩=>by
   simp only [V.rns] at h
   split at h
   · rename_i x2 hx
     split at h
     · rename_i xs2 hxs
       simp only [Option.some.injEq] at h; subst h
       exact ⟨y,ys,rn_rel hι hβ hφ x x2 y hx r,rns_rel hι hβ hφ xs xs2 ys hxs rs,q⟩
     · cases h
   · cases h
end
section
variable {ν:Nat→Option Nat} {E E':Env} (hι:∀ m k,ν m=some k→E'.ι k=E.ι m) (hβ:∀ m k b s,ν m=some k→E.ι m=some (b,s)→E'.β b=E.β b) (hφ:∀ b c,E.φ b=some c→E'.φ b=some c)
include hι hβ hφ
theorem rnEs_rel:∀ (es es2:List (V × V × Nat)) (l:List MapEntry),rnEs ν es=some es2→erels E es l→erels E' es2 l
 | [],es2,_,h,r=>by simp only [rnEs,Option.some.injEq] at h; subst h; exact r
 | x :: xs,es2,_,h,⟨y,ys,r1,r2,r3,rs,q⟩=>by
   simp only [rnEs] at h
   split at h
   · rename_i k hk
     split at h
     · rename_i v hv
       split at h
       · rename_i xs2 hxs
         simp only [Option.some.injEq] at h; subst h
         exact ⟨y,ys,rn_rel hι hβ hφ _ _ _ hk r1,rn_rel hι hβ hφ _ _ _ hv r2,r3,rnEs_rel _ _ _ hxs rs,q⟩
       · cases h
     · cases h
   · cases h
end
theorem selfN_spec {ν:Nat→Option Nat} {m:Nat} (h:selfN ν m=true):ν m=some m:=by
 unfold selfN at h
 split at h
 · rename_i k hk; rw [hk,Nat.eq_of_beq_eq_true h]
 · cases h
theorem frStill_get {ν:Nat→Option Nat}:∀ (t:Tr V),frStill ν t=true→∀ k v,t.get k=some v→v.still ν=true
 | .nil,_,k,v,h=>by simp [Tr.get] at h
 | .node x l r,hs,k,v,h=>by
   simp only [frStill,Bool.and_eq_true] at hs
   simp only [Tr.get] at h
   split at h
   · subst h; exact hs.1
   · rename_i k
     split at h
     · exact frStill_get l hs.2.1 _ v h
     · exact frStill_get r hs.2.2 _ v h
mutual
theorem still_rel {ν:Nat→Option Nat} {E E':Env} (hι:∀ m k,ν m=some k→E'.ι k=E.ι m) (hβ:∀ m k b s,ν m=some k→E.ι m=some (b,s)→E'.β b=E.β b) (hφ:∀ b c,E.φ b=some c→E'.φ b=some c):∀ (v:V) (v':Value),v.still ν=true→vrel E v v'→vrel E' v v'
 | .bool _,_,_,r=>r
 | .int _ _,_,_,r=>r
 | .str _,_,_,r=>r
 | .ptr none,_,_,r=>r
 | .ptr (some (m,o)),_,h,⟨b,s,e,q⟩=>⟨b,s,(hι m m (selfN_spec h)).trans e,q⟩
 | .slc none _ _ _,_,_,r=>r
 | .slc (some (m,o)) _ _ _,_,h,⟨b,s,o',cap',e,q1,q2,q3,q4,q5⟩=>⟨b,s,o',cap',(hι m m (selfN_spec h)).trans e,q1,q2,q3,by rw [hβ m m b s (selfN_spec h) e]; exact q4,q5⟩
 | .map none,_,_,r=>r
 | .map (some m),_,h,⟨b,e,q⟩=>⟨b,(hι m m (selfN_spec h)).trans e,q⟩
 | .fn f a c,_,h,⟨f',a',c',rf,ra,rc,q⟩=>by
   simp only [V.still,Bool.and_eq_true] at h
   refine ⟨f',a',c',?_,stills_rel hι hβ hφ a a' h.2.1 ra,stills_rel hι hβ hφ c c' h.2.2 rc,q⟩
   cases f with
   | yield m=>obtain ⟨l,s,e,q2⟩:=rf; exact ⟨l,s,(hι m m (selfN_spec h.1)).trans e,q2⟩
   | _=>exact rf
 | .nilFn,_,_,r=>r
 | .iface _ x,_,h,⟨x',r,q⟩=>⟨x',still_rel hι hβ hφ x x' (by simpa only [V.still] using h) r,q⟩
 | .nilIface,_,_,r=>r
 | .agg cs,_,h,⟨cs',r,q⟩=>⟨cs',stills_rel hι hβ hφ cs cs' (by simpa only [V.still] using h) r,q⟩
 | .tup cs,_,h,⟨cs',r,q⟩=>⟨cs',stills_rel hι hβ hφ cs cs' (by simpa only [V.still] using h) r,q⟩
 | .lst _ _ _,_,_,r=>⟨drel_mono hφ _ _ r.1,r.2⟩
 | .fptr cs,_,_,⟨b,o,c,vs,e,e1,r,q⟩=>⟨b,o,c,vs,e,hφ _ _ e1,drels_mono hφ _ _ r,q⟩
theorem stills_rel {ν:Nat→Option Nat} {E E':Env} (hι:∀ m k,ν m=some k→E'.ι k=E.ι m) (hβ:∀ m k b s,ν m=some k→E.ι m=some (b,s)→E'.β b=E.β b) (hφ:∀ b c,E.φ b=some c→E'.φ b=some c):∀ (v:List V) (v':List Value),V.stills ν v=true→vrels E v v'→vrels E' v v'
 | [],_,_,r=>r
 | x :: xs,_,h,⟨y,ys,r,rs,q⟩=>by
   simp only [V.stills,Bool.and_eq_true] at h
   exact ⟨y,ys,still_rel hι hβ hφ x y h.1 r,stills_rel hι hβ hφ xs ys h.2 rs,q⟩
end
section
variable {ν:Nat→Option Nat} {E E':Env} (hι:∀ m k,ν m=some k→E'.ι k=E.ι m) (hβ:∀ m k b s,ν m=some k→E.ι m=some (b,s)→E'.β b=E.β b) (hφ:∀ b c,E.φ b=some c→E'.φ b=some c)
include hι hβ hφ
theorem rnO_rel {w:World} {b s:Nat} (hb:E'.β b=E.β b):∀ (o o2:O),o.rn ν=some o2→orel E w b s o→orel E' w b s o2
 | .cells cs,o2,h,⟨c,el,fz,h1,h2,h3,h4⟩=>by
   simp only [O.rn] at h
   split at h
   · rename_i cs2 hcs
     simp only [Option.some.injEq] at h; subst h
     refine ⟨c,el,fz,h1,by rw [hb]; exact h2,h3,?_⟩
     have:∀ (cs cs2:List V),V.rns ν cs=some cs2→∀ (s:Nat),crel E s cs c→crel E' s cs2 c:=by
      intro cs
      induction cs with
      | nil=>intro cs2 h s r; simp only [V.rns,Option.some.injEq] at h; subst h; intro i v e; simp at e
      | cons x xs ih=>
        intro cs2 h s r
        simp only [V.rns] at h
        split at h
        · rename_i x2 hx
          split at h
          · rename_i xs2 hxs
            simp only [Option.some.injEq] at h; subst h
            intro i v e
            cases i with
            | zero=>
              simp only [List.getElem?_cons_zero,Option.some.injEq] at e; subst e
              obtain ⟨v',k1,k2⟩:=r 0 x (by simp)
              exact ⟨v',k1,rn_rel hι hβ hφ _ _ _ hx k2⟩
            | succ i=>
              simp only [List.getElem?_cons_succ] at e
              obtain ⟨v',k1,k2⟩:=ih xs2 hxs (s+1) (fun j v e=>by
               obtain ⟨v',k1,k2⟩:=r (j+1) v (by simpa using e)
               exact ⟨v',by rw [← k1]; congr 1; omega,k2⟩) i v e
              exact ⟨v',by rw [← k1]; congr 1; omega,k2⟩
          · cases h
        · cases h
     exact this cs cs2 hcs s h4
   · cases h
 | .map es cl,o2,h,⟨hs,es',h1,h2⟩=>by
   simp only [O.rn] at h
   split at h
   · rename_i es2 hes
     simp only [Option.some.injEq] at h; subst h
     exact ⟨hs,es',h1,rnEs_rel hι hβ hφ _ _ _ hes h2⟩
   · cases h
 | .siter st p,o2,h,r=>by simp only [O.rn,Option.some.injEq] at h; subst h; exact r
 | .ints k ks,o2,h,⟨c,el,fz,h1,h2,h3⟩=>by simp only [O.rn,Option.some.injEq] at h; subst h; exact ⟨c,el,fz,h1,by rw [hb]; exact h2,h3⟩
 | .own k ks,o2,h,⟨c,el,fz,h1,h2,h3,h4⟩=>by simp only [O.rn,Option.some.injEq] at h; subst h; exact ⟨c,el,fz,h1,by rw [hb]; exact h2,h3,crel_ints_env h4⟩
 | .deep cs,o2,h,⟨c,el,fz,vs,h1,h2,h3,h4,h5⟩=>by simp only [O.rn,Option.some.injEq] at h; subst h; exact ⟨c,el,fz,vs,h1,by rw [hb]; exact h2,h3,drels_mono hφ _ _ h4,h5⟩
 | .buf el fro t,o2,h,⟨c,fz,xs,h1,h0,h2,h3⟩=>by simp only [O.rn,Option.some.injEq] at h; subst h; exact ⟨c,fz,xs,h1,h0,by rw [hb]; exact h2,h3⟩
 | .bld t self x,o2,h,⟨hs,x',fz,h1,h2,h3,h4⟩=>by
   simp only [O.rn] at h
   split at h
   · rename_i x2 hx
     simp only [Option.some.injEq] at h; subst h
     exact ⟨hs,x',fz,h1,by rw [hb]; exact h2,h3,rn_rel hι hβ hφ _ _ _ hx h4⟩
   · cases h
 | .mapD kk es,o2,h,⟨hs,es',cl,h1,h2⟩=>by simp only [O.rn,Option.some.injEq] at h; subst h; exact ⟨hs,es',cl,h1,h2.mono hφ⟩
 | .dfr,o2,h,r=>by simp only [O.rn,Option.some.injEq] at h; subst h; exact r
 | .loop st pe fr ps a b',o2,h,⟨r,h1,h2,h3,h4,h5,h6,h7,h8⟩=>by
   simp only [O.rn] at h
   split at h
   · rename_i hs
     simp only [Option.some.injEq] at h; subst h
     exact ⟨r,h1,h2,h3,h4,h5,h6,fun t v e=>let ⟨v',k1,k2⟩:=h7 t v e; ⟨v',k1,still_rel hι hβ hφ v v' (frStill_get fr hs t v e) k2⟩,h8⟩
   · cases h
end
theorem rn_wr {ν:Nat→Option Nat} {o o2:O} (h:o.rn ν=some o2):o2.wr=o.wr:=by
 cases o <;> simp only [O.rn] at h <;> (try split at h) <;> first | (simp only [Option.some.injEq] at h; subst h; rfl) | cases h
def frNames:Tr V→List Nat→List Nat
 | .nil,l=>l
 | .node v a b,l=>(match v with | some v=>V.names v | none=>id) (frNames a (frNames b l))
def O.nms:O→List Nat
 | .loop _ _ fr _ _ _=>frNames fr []
 | o=>o.names
def travG (h:Tr O):Nat→List Nat→Tr Nat→List Nat→Nat→Option (Tr Nat × List Nat × Nat)
 | 0,_,_,_,_=>none
 | _+1,[],ρ,olds,k=>some (ρ,olds,k)
 | f+1,m :: q,ρ,olds,k=>match ρ.get m with
   | some _=>travG h f q ρ olds k
   | none=>travG h f ((match h.get m with | some o=>o.nms | none=>[]) ++ q) (ρ.set m (some k)) (m :: olds) (k+1)
def idTo:Nat→Tr Nat
 | 0=>.nil
 | k+1=>(idTo k).set k (some k)
def oldsTo:Nat→List Nat
 | 0=>[]
 | k+1=>k :: oldsTo k
def lowNames (h:Tr O):Nat→List Nat→List Nat
 | 0,l=>l
 | k+1,l=>(match h.get k with | some o=>o.nms | none=>[]) ++ lowNames h k l
def lowSame (ν:Nat→Option Nat):Nat→Bool
 | 0=>true
 | k+1=>selfN ν k && lowSame ν k
theorem lowSame_spec {ν:Nat→Option Nat}:∀ {k:Nat},lowSame ν k=true→∀ m,m < k→ν m=some m
 | 0,_,m,hm=>by omega
 | k+1,h,m,hm=>by
   simp only [lowSame,Bool.and_eq_true] at h
   by_cases e:m=k
   · subst e; exact selfN_spec h.1
   · exact lowSame_spec h.2 m (by omega)
def heapG (ν:Nat→Option Nat) (h:Tr O):List Nat→Tr O→Option (Tr O)
 | [],t=>some t
 | m :: r,t=>match h.get m with
   | none=>heapG ν h r t
   | some o=>match ν m with
     | some k=>match o.rn ν with
       | some o2=>match Nat.blt k top with
         | true=>heapG ν h r (t.set k (some o2))
         | false=>none
       | none=>none
     | none=>none
theorem heapG_spec {ν:Nat→Option Nat} {h:Tr O}:∀ (l:List Nat) (t t2:Tr O),heapG ν h l t=some t2→(∀ k o2,t.get k=some o2→∃ m o,ν m=some k∧h.get m=some o∧o.rn ν=some o2)→
  ∀ k o2,t2.get k=some o2→∃ m o,ν m=some k∧h.get m=some o∧o.rn ν=some o2
 | [],t,t2,e,ht=>by simp only [heapG,Option.some.injEq] at e; subst e; exact ht
 | m :: r,t,t2,e,ht=>by
   simp only [heapG] at e
   split at e
   · exact heapG_spec r t t2 e ht
   · rename_i o ho
     split at e
     · rename_i k hk
       split at e
       · rename_i o2 ho2
         split at e
         · rename_i hlt
           refine heapG_spec r _ t2 e fun j o3 h3=>?_
           rw [Tr.get_set _ _ _ (by simp [Nat.blt] at hlt; omega)] at h3
           split at h3
           · rename_i hj; simp only [Option.some.injEq] at h3; subst h3; subst hj; exact ⟨m,o,hk,ho,ho2⟩
           · exact ht j o3 h3
         · cases e
       · cases e
     · cases e
def frameG (ν:Nat→Option Nat) (fr:Tr V):List Nat→Tr V→Option (Tr V)
 | [],t=>some t
 | m :: r,t=>match fr.get m with
   | none=>frameG ν fr r t
   | some v=>match v.rn ν with
     | some v2=>match Nat.blt m top with
       | true=>frameG ν fr r (t.set m (some v2))
       | false=>none
     | none=>none
theorem frameG_spec {ν:Nat→Option Nat} {fr:Tr V}:∀ (l:List Nat) (t t2:Tr V),frameG ν fr l t=some t2→(∀ k v2,t.get k=some v2→∃ v,fr.get k=some v∧v.rn ν=some v2)→
  ∀ k v2,t2.get k=some v2→∃ v,fr.get k=some v∧v.rn ν=some v2
 | [],t,t2,e,ht=>by simp only [frameG,Option.some.injEq] at e; subst e; exact ht
 | m :: r,t,t2,e,ht=>by
   simp only [frameG] at e
   split at e
   · exact frameG_spec r t t2 e ht
   · rename_i v hv
     split at e
     · rename_i v2 hv2
       split at e
       · rename_i hlt
         refine frameG_spec r _ t2 e fun j o3 h3=>?_
         rw [Tr.get_set _ _ _ (by simp [Nat.blt] at hlt; omega)] at h3
         split at h3
         · rename_i hj; simp only [Option.some.injEq] at h3; subst h3; subst hj; exact ⟨v,hv,hv2⟩
         · exact ht j o3 h3
       · cases e
     · cases e
def dfsG (ν:Nat→Option Nat):List (FuncId × List V × List V)→Option (List (FuncId × List V × List V))
 | []=>some []
 | (f,[],[.map (some m)]) :: r=>match Nat.beq f top with
   | true=>match ν m with
     | some k=>match dfsG ν r with
       | some r=>some ((top,[],[.map (some k)]) :: r)
       | none=>none
     | none=>none
   | false=>none
 | _ :: _=>none
def dfsNames:List (FuncId × List V × List V)→List Nat→List Nat
 | (_,_,[.map (some m)]) :: r,l=>m :: dfsNames r l
 | _,l=>l
theorem dfsG_rel {ν:Nat→Option Nat} {E E':Env} (hι:∀ m k,ν m=some k→E'.ι k=E.ι m):∀ (l l2:List (FuncId × List V × List V)) (ds:List Deferred),dfsG ν l=some l2→dfrel E l ds→dfrel E' l2 ds
 | [],l2,ds,e,r=>by simp only [dfsG,Option.some.injEq] at e; subst e; exact r
 | (f,c,args) :: r,l2,ds,e,h=>by
   unfold dfsG at e
   split at e
   · rename_i heq; cases heq
   · rename_i f' m r' heq
     cases heq
     split at e
     · rename_i hf
       have hf:=Nat.eq_of_beq_eq_true hf
       subst hf
       split at e
       · rename_i k hk
         split at e
         · rename_i r2 hr
           simp only [Option.some.injEq] at e; subst e
           obtain ⟨d,ys,r1,r2',q⟩:=h
           refine ⟨d,ys,?_,dfsG_rel hι _ _ _ hr r2',q⟩
           rcases r1 with ⟨hlt,_⟩ | ⟨_,m',b,s,q1,q2,q3⟩
           · exact absurd hlt (Nat.lt_irrefl _)
           · simp only [List.cons.injEq,V.map.injEq,Option.some.injEq,and_true] at q1
             subst q1
             exact .inr ⟨rfl,k,b,s,rfl,(hι _ k hk).trans q2,q3⟩
         · cases e
       · cases e
     · cases e
   · cases e
def normG (n0:Nat) (live:List Nat) (s:St):Option St:=
 match Nat.ble n0 s.n with
 | false=>none
 | true=>match travG s.h 100000 (lowNames s.h n0 (rootNames s.fr live ++ dfsNames s.dfs [])) (idTo n0) (oldsTo n0) n0 with
   | some (ρ,olds,k)=>
     let ν:=nameOf ρ (backOf olds k .nil) k
     match (lowSame ν n0 && Nat.ble n0 k) && Nat.ble gN n0 with
     | true=>match heapG ν s.h olds .nil with
       | some h2=>match frameG ν s.fr live .nil with
         | some fr2=>match dfsG ν s.dfs with
           | some d2=>some { fr:=fr2,h:=h2,n:=k,dfs:=d2 }
           | none=>none
         | none=>none
       | none=>none
     | false=>none
   | none=>none
structure UpdL (n0:Nat) (E:Env) (h:Tr O) (w:World) (E':Env) (h':Tr O) (w':World):Prop where
 le:∀ m b s,m < n0→E.ι m=some (b,s)→E'.ι m=some (b,s)∧E'.β b=E.β b
 low:∀ m,m < n0→E'.ι m=E.ι m
 fz:∀ b c,E.φ b=some c→E'.φ b=some c
 good:Good E' h' w'
 size:w.heap.size ≤ w'.heap.size
 tape:w'.tape=w.tape
 os:w'.os=w.os
 output:w'.output=w.output
 keep:∀ b,b < w.heap.size→(∀ m s,wlive h m→E.ι m ≠ some (b,s))→w'.heap[b]? =w.heap[b]?
 img:∀ m b s,h'.get m ≠ none→E'.ι m=some (b,s)→b < w.heap.size→∃ m0 s0,h.get m0 ≠ none∧E.ι m0=some (b,s0)∧(wlive h' m→wlive h m0)
 fzn:∀ b c,E'.φ b=some c→E.φ b=some c ∨ w.heap.size ≤ b ∨ ∃ m s,wlive h m∧E.ι m=some (b,s)
theorem UpdL.of {n0 n:Nat} {E E':Env} {h h':Tr O} {w w':World} (u:Upd E h w E' h' w') (hlow:∀ m,m < n→E'.ι m=E.ι m) (hn:n0 ≤ n):UpdL n0 E h w E' h' w':=
 ⟨fun m b s _ e=>u.le.nm m b s e,fun m hm=>hlow m (by omega),u.le.fz,u.good,u.size,u.tape,u.os,u.output,u.keep,u.img,u.fzn⟩
theorem UpdL.trans {n0:Nat} {E E1 E2:Env} {h h1 h2:Tr O} {w w1 w2:World} (a:UpdL n0 E h w E1 h1 w1) (b:UpdL n0 E1 h1 w1 E2 h2 w2):UpdL n0 E h w E2 h2 w2 where
 le:=fun m x s hm e=>by
  obtain ⟨e1,b1⟩:=a.le m x s hm e
  obtain ⟨e2,b2⟩:=b.le m x s hm e1
  exact ⟨e2,b2.trans b1⟩
 low:=fun m hm=>(b.low m hm).trans (a.low m hm)
 fz:=fun x c e=>b.fz x c (a.fz x c e)
 good:=b.good
 size:=Nat.le_trans a.size b.size
 tape:=b.tape.trans a.tape
 os:=b.os.trans a.os
 output:=b.output.trans a.output
 keep:=fun x hx hn=>by
  rw [b.keep x (Nat.lt_of_lt_of_le hx a.size) ?_,a.keep x hx hn]
  intro m s hm e
  obtain ⟨m0,s0,_,e0,k0⟩:=a.img m x s hm.live e hx
  exact hn m0 s0 (k0 hm) e0
 img:=fun m x s hm e hx=>by
  obtain ⟨m1,s1,k1,e1,l1⟩:=b.img m x s hm e (Nat.lt_of_lt_of_le hx a.size)
  obtain ⟨m0,s0,k0,e0,l0⟩:=a.img m1 x s1 k1 e1 hx
  exact ⟨m0,s0,k0,e0,fun q=>l0 (l1 q)⟩
 fzn:=fun x c hc=>by
  rcases b.fzn x c hc with q | q | ⟨m,s,q1,q2⟩
  · exact a.fzn x c q
  · exact .inr (.inl (Nat.le_trans a.size q))
  · rcases Nat.lt_or_ge x w.heap.size with hx | hx
    · obtain ⟨m0,s0,_,e0,k0⟩:=a.img m x s q1.live q2 hx
      exact .inr (.inr ⟨m0,s0,k0 q1,e0⟩)
    · exact .inr (.inl hx)
theorem UpdL.refl {n0:Nat} {E:Env} {h:Tr O} {w:World} (g:Good E h w):UpdL n0 E h w E h w:=
 .of (n:=n0) (Upd.refl g) (fun _ _=>rfl) (Nat.le_refl _)
theorem UpdL.upd {n0:Nat} {E E':Env} {h h':Tr O} {w w':World} (u:UpdL n0 E h w E' h' w') (hd:Dom E n0):Upd E h w E' h' w':=
 ⟨⟨fun m b s e=>u.le m b s (by
  by_cases q:m < n0
  · exact q
  · rw [hd m (Nat.le_of_not_lt q)] at e; cases e) e,u.fz⟩,u.good,u.size,u.tape,u.os,u.output,u.keep,u.img,u.fzn⟩
theorem normG_sound {n0 N:Nat} {live:List Nat} {s s2:St} {E:Env} {a:Act} {w:World} (e:normG n0 live s=some s2) (r:SRel E N s a w):n0 ≤ s.n∧n0 ≤ s2.n∧∃ E2,SRel E2 N s2 a w∧UpdL n0 E s.h w E2 s2.h w:=by
 unfold normG at e
 split at e
 · cases e
 rename_i hn
 split at e
 case h_2=>cases e
 rename_i ρ olds k ht
 revert e
 generalize hback:backOf olds k .nil=back
 intro e
 simp only at e
 split at e
 case h_2=>cases e
 rename_i hlow
 simp only [Bool.and_eq_true] at hlow
 split at e
 case h_2=>cases e
 rename_i h2 hh
 split at e
 case h_2=>cases e
 rename_i fr2 hfr
 split at e
 case h_2=>cases e
 rename_i d2 hd2
 simp only [Option.some.injEq] at e
 subst e
 let E2:Env:=⟨fun m=>if m < k then (match back.get m with | some old=>E.ι old | none=>none) else none,E.β,E.φ⟩
 have hι:∀ m j,nameOf ρ back k m=some j→E2.ι j=E.ι m:=by
  intro m j hj
  obtain ⟨_,h2,h3⟩:=nameOf_spec hj
  show (if j < k then (match back.get j with | some old=>E.ι old | none=>none) else none)=_
  rw [if_pos h3,h2]
 have hlo:∀ m,m < n0→E2.ι m=E.ι m:=fun m hm=>hι m m (lowSame_spec hlow.1.1 m hm)
 have hh2:=heapG_spec olds .nil h2 hh (fun j o hj=>by simp [Tr.get] at hj)
 have good2:Good E2 h2 w:=by
  refine ⟨?_,?_,?_,fun p hp=>(hlo _ (Nat.lt_of_lt_of_le (gtab_lt hp) (Nat.le_of_ble_eq_true hlow.2))).trans (r.good.glob p hp),fun b c q=>⟨(r.good.froz b c q).1,fun m s1 hm e1=>?_⟩⟩
  case refine_4=>
   obtain ⟨o,ho,hwo⟩:=hm
   obtain ⟨old,p,k1,k2,k3⟩:=hh2 m o ho
   rw [hι old m k1] at e1
   exact (r.good.froz b c q).2 old s1 ⟨p,k2,(rn_wr k3).symm.trans hwo⟩ e1
  · intro m o2 hm
    obtain ⟨old,o,k1,k2,k3⟩:=hh2 m o2 hm
    obtain ⟨b,s',e1,e2⟩:=r.good.rel old o k2
    exact ⟨b,s',(hι old m k1).trans e1,rnO_rel hι (fun _ _ _ _ _ _=>rfl) (fun _ _ q=>q) rfl o o2 k3 e2⟩
  · intro m m' b s1 s2 hne hm hm' e1 e2
    obtain ⟨o,ho,hwo⟩:=hm
    obtain ⟨o',ho'⟩:=Option.ne_none_iff_exists'.1 hm'
    obtain ⟨old,p,k1,k2,k3⟩:=hh2 m o ho
    obtain ⟨old',p',k1',k2',_⟩:=hh2 m' o' ho'
    rw [hι old m k1] at e1
    rw [hι old' m' k1'] at e2
    by_cases hold:old=old'
    · subst hold
      rw [k1] at k1'
      simp only [Option.some.injEq] at k1'
      exact hne k1'
    · exact r.good.inj old old' b s1 s2 hold ⟨p,k2,(rn_wr k3).symm.trans hwo⟩ (by rw [k2']; simp) e1 e2
  · intro m b s1 e1
    have e1:(if m < k then (match back.get m with | some old=>E.ι old | none=>none) else none)=some (b,s1):=e1
    split at e1
    · split at e1
      · exact r.good.bnd _ b s1 e1
      · cases e1
    · cases e1
 refine ⟨Nat.le_of_ble_eq_true hn,Nat.le_of_ble_eq_true hlow.1.2,E2,⟨good2,?_,?_,r.size,?_⟩,?_⟩
 · intro m hm
   show (if m < k then _ else none)=none
   rw [if_neg (by show ¬ m < k; have:k ≤ m:=hm; omega)]
 · intro t v2 hv
   obtain ⟨v,k1,k2⟩:=frameG_spec live .nil fr2 hfr (fun j o hj=>by simp [Tr.get] at hj) t v2 hv
   obtain ⟨v',h1,h2⟩:=r.fr t v k1
   exact ⟨v',h1,rn_rel hι (fun _ _ _ _ _ _=>rfl) (fun _ _ q=>q) v v2 v' k2 h2⟩
 · exact dfsG_rel hι _ _ _ hd2 r.dfs
 · refine ⟨fun m b s1 hm e1=>⟨(hlo m hm).trans e1,rfl⟩,hlo,fun _ _ q=>q,good2,Nat.le_refl _,rfl,rfl,rfl,fun _ _ _=>rfl,?_,fun _ _ q=>.inl q⟩
   intro m b s1 hm e1 hb
   obtain ⟨o,ho⟩:=Option.ne_none_iff_exists'.1 hm
   obtain ⟨old,p,k1,k2,k3⟩:=hh2 m o ho
   rw [hι old m k1] at e1
   refine ⟨old,s1,by rw [k2]; simp,e1,fun ⟨o',q1,q2⟩=>⟨p,k2,?_⟩⟩
   rw [ho] at q1; cases q1
   exact (rn_wr k3).symm.trans q2
end Go.Eng
namespace Go.Eng
open Go Go.RowKit
def isSeq:Code→Bool | .seq _ _=>true | _=>false
def seqL:Code→Code | .seq a _=>a | c=>c
def seqR:Code→Code | .seq _ b=>b | c=>c
def isBlock:Code→Nat→Bool | .block i _,j=>Nat.beq i j | _,_=>false
def isLoop:Code→Bool | .loop _=>true | _=>false
def inner:Code→Code | .block _ c=>c | .loop c=>c | c=>c
def headN:Nat→Code→Code
 | k+1,.seq a b=>.seq a (headN k b)
 | _,_=>.skip
def tailN:Nat→Code→Code
 | k+1,.seq _ b=>tailN k b
 | _,c=>c
def T (P:Program) (N:Nat) (w0:World) (c:Code) (s:St) (Q:Exit→St→Prop):Prop:=
 ∀ (K:Exit→Act→World→Prop) (a:Act) (w:World),Run0 N w0 s a w→(∀ y s' a' w',Q y s'→Run0 N w0 s' a' w'→K y a' w')→c.wp P K a w
section
variable {P:Program} {cf:CallF} {F N:Nat} {w0:World} {c:Code} {s s':St} {Q Q1:Exit→St→Prop}
def andThen (R:St→Prop) (Q:Exit→St→Prop):Exit→St→Prop
 | .normal,s=>R s
 | y,s=>Q y s
def outOf (i:Nat) (Q:Exit→St→Prop):Exit→St→Prop
 | .exit j,s=>if j=i then Q .normal s else Q (.exit j) s
 | y,s=>Q y s
def TR (P:Program) (N:Nat) (w0:World) (c:Code) (Q:Exit→St→Prop):Nat→St→Prop
 | 0,_=>False
 | n+1,s=>T P N w0 c s (andThen (fun s'=>TR P N w0 c Q n s') Q)
def bindL (f:St→Option (List (X × St))):List (X × St)→Option (List (X × St))
 | []=>some []
 | (x,s) :: r=>match bindL f r with
   | some tl=>match x with
     | .normal=>match f s with
       | some l=>some (l ++ tl)
       | none=>none
     | x=>some ((x,s) :: tl)
   | none=>none
def outL (i:Nat):List (X × St)→List (X × St)
 | []=>[]
 | (x,s) :: r=>match x with
   | .exit j=>match Nat.beq j i with
     | true=>(.normal,s) :: outL i r
     | false=>(.exit j,s) :: outL i r
   | x=>(x,s) :: outL i r
def openT (unk:Nat→Bool):Operand→Bool
 | .tmp t=>unk t
 | _=>false
def execT (P:Program) (cf:CallF) (F:Nat) (unk:Nat→Bool):Code→St→Option (List (X × St))
 | .seq a b,s=>match execT P cf F unk a s with
   | some l=>bindL (execT P cf F unk b) l
   | none=>none
 | .cond c a b,s=>match opd s.fr c with
   | some (.bool t)=>match openT unk c with
     | true=>match execT P cf F unk a s with
       | some l1=>match execT P cf F unk b s with
         | some l2=>some (l1 ++ l2)
         | none=>none
       | none=>none
     | false=>match t with
       | true=>execT P cf F unk a s
       | false=>execT P cf F unk b s
   | _=>none
 | .block i c,s=>match execT P cf F unk c s with
   | some l=>some (outL i l)
   | none=>none
 | c,s=>match exec P cf F c s with
   | some r=>some [r]
   | none=>none
def ov:List (Nat × V)→Tr V→Tr V
 | [],t=>t
 | x :: r,t=>(ov r t).set x.1 (some x.2)
def St.over (s:St) (l:List (Nat × V)):St:={ s with fr:=ov l s.fr }
def Tr.beq {α:Type} (eq:α→α→Bool):Tr α→Tr α→Bool
 | .nil,.nil=>true
 | .node a l r,.node b l' r'=>(match a,b with | none,none=>true | some a,some b=>eq a b | _,_=>false) && (Tr.beq eq l l' && Tr.beq eq r r')
 | _,_=>false
theorem Tr.beq_eq {α:Type} {eq:α→α→Bool} (h:∀ a b,eq a b=true→a=b):∀ (t u:Tr α),Tr.beq eq t u=true→t=u
 | .nil,.nil,_=>rfl
 | .nil,.node _ _ _,e=>by simp [Tr.beq] at e
 | .node _ _ _,.nil,e=>by simp [Tr.beq] at e
 | .node a l r,.node b l' r',e=>by
   simp only [Tr.beq,Bool.and_eq_true] at e
   rw [Tr.beq_eq h l l' e.2.1,Tr.beq_eq h r r' e.2.2]
   cases a <;> cases b <;> first | rfl | (simp at e; done) | skip
   rw [h _ _ e.1]
def entsBeq:List (V × V × Nat)→List (V × V × Nat)→Bool
 | [],[]=>true
 | x :: xs,y :: ys=>(V.beq x.1 y.1 && V.beq x.2.1 y.2.1) && (Nat.beq x.2.2 y.2.2 && entsBeq xs ys)
 | _,_=>false
theorem entsBeq_eq:∀ (a b:List (V × V × Nat)),entsBeq a b=true→a=b
 | [],[],_=>rfl
 | [],_ :: _,h=>by simp [entsBeq] at h
 | _ :: _,[],h=>by simp [entsBeq] at h
 | (k,v,n) :: xs,(k',v',n') :: ys,h=>by
   simp only [entsBeq,Bool.and_eq_true] at h
   rw [beq_eq _ _ h.1.1,beq_eq _ _ h.1.2,Nat.eq_of_beq_eq_true h.2.1,entsBeq_eq xs ys h.2.2]
def O.beq:O→O→Bool
 | .cells a,.cells b=>V.beqs a b
 | .map a c,.map b d=>entsBeq a b && Nat.beq c d
 | .siter a p,.siter b q=>beqB a b && Nat.beq p q
 | .ints k a,.ints j b=>decide (k=j) && decide (a=b)
 | _,_=>false
theorem O.beq_eq (a b:O) (h:O.beq a b=true):a=b:=by
 cases a <;> cases b <;> simp only [O.beq,Bool.false_eq_true,Bool.and_eq_true] at h
 · rw [beqs_eq _ _ h]
 · rw [entsBeq_eq _ _ h.1,Nat.eq_of_beq_eq_true h.2]
 · rw [beqB_eq] at h; rw [eq_of_beq h.1,Nat.eq_of_beq_eq_true h.2]
 · rw [of_decide_eq_true h.1,of_decide_eq_true h.2]
def St.beq (a b:St):Bool:=Tr.beq V.beq a.fr b.fr && (Tr.beq O.beq a.h b.h && (Nat.beq a.n b.n && (a.dfs.isEmpty && b.dfs.isEmpty)))
theorem St.beq_eq {a b:St} (h:St.beq a b=true):a=b:=by
 simp only [St.beq,Bool.and_eq_true,List.isEmpty_iff] at h
 obtain ⟨h1,h2,h3,h4,h5⟩:=h
 have e1:=Tr.beq_eq Go.Eng.beq_eq _ _ h1
 have e2:=Tr.beq_eq O.beq_eq _ _ h2
 have e3:=Nat.eq_of_beq_eq_true h3
 cases a; cases b
 simp_all
def St.cell (s:St) (m i:Nat) (v:V):St:=match s.h.get m with
 | some (.cells cs)=>match Nat.blt m top with
   | true=>{ s with h:=s.h.set m (some (.cells (cs.set i v))) }
   | false=>s
 | _=>s
def St.cellAt (s:St) (m i:Nat):Option V:=match s.h.get m with
 | some (.cells cs)=>match Nat.blt m top with
   | true=>cs[i]?
   | false=>none
 | _=>none
def sameEndsC (live:List Nat) (m i:Nat) (z:V) (t:St):List (X × St)→Option (List (Option V))
 | []=>some []
 | (.normal,s) :: r=>match norm live s with
   | some s2=>match St.beq (s2.cell m i z) t with
     | true=>match sameEndsC live m i z t r with
       | some l=>some (s2.cellAt m i :: l)
       | none=>none
     | false=>none
   | none=>none
 | _=>none
def goC (P:Program) (cf:CallF) (F:Nat) (unk:Nat→Bool) (live ks:List Nat) (m i:Nat) (z:V) (c:Code) (s t:St):Option (List (List (Option V)) × List (Option V)):=
 match execT P cf F unk c s with
 | some l=>match sameEndsC live m i z t l with
   | some cells=>some (l.map fun p=>ks.map p.2.fr.get,cells)
   | none=>none
 | none=>none
end
end Go.Eng
namespace Go.Eng
open Go Go.RowKit
mutual
def V.plainFn:V→Bool
 | .fn (.func _) a c=>V.plainFns a && V.plainFns c
 | .fn _ _ _=>false
 | .iface _ x=>V.plainFn x
 | .agg cs=>V.plainFns cs
 | .tup cs=>V.plainFns cs
 | _=>true
def V.plainFns:List V→Bool
 | []=>true
 | x :: xs=>V.plainFn x && V.plainFns xs
end
mutual
theorem V.beq_refl:∀ v:V,v.plainFn=true→V.beq v v=true
 | .bool b,_=>by cases b <;> rfl
 | .int k n,_=>by simp [V.beq]
 | .str s,_=>by simp [V.beq,beqB_eq]
 | .ptr none,_=>rfl
 | .ptr (some (m,o)),_=>by simp [V.beq,beqAddr]
 | .slc none l c e,_=>by simp [V.beq,beqAddr]
 | .slc (some (m,o)) l c e,_=>by simp [V.beq,beqAddr]
 | .map none,_=>rfl
 | .map (some m),_=>by simp [V.beq,beqNat?]
 | .fn f a c,h=>by
   cases f <;> simp only [V.plainFn,Bool.false_eq_true,Bool.and_eq_true] at h
   simp [V.beq,beqFn,V.beqs_refl a h.1,V.beqs_refl c h.2]
 | .nilFn,_=>rfl
 | .iface t x,h=>by simp only [V.plainFn] at h; simp [V.beq,V.beq_refl x h]
 | .nilIface,_=>rfl
 | .agg cs,h=>by simp only [V.plainFn] at h; simp [V.beq,V.beqs_refl cs h]
 | .tup cs,h=>by simp only [V.plainFn] at h; simp [V.beq,V.beqs_refl cs h]
 | .lst f n cs,_=>by simp [V.beq,dbeqs_refl cs]
 | .fptr cs,_=>by simp [V.beq,dbeqs_refl cs]
theorem V.beqs_refl:∀ vs:List V,V.plainFns vs=true→V.beqs vs vs=true
 | [],_=>rfl
 | x :: xs,h=>by simp only [V.plainFns,Bool.and_eq_true] at h; simp [V.beqs,V.beq_refl x h.1,V.beqs_refl xs h.2]
end
inductive Ob where
 | same (a b:V)
 | call (f:FuncId) (args:List V) (v:V)
def Ob.ok (cf:CallF):Ob→Prop
 | .same a b=>a=b
 | .call f args v=>∀ h n,cf f args h n=some (.ret v,h,n)
end Go.Eng
