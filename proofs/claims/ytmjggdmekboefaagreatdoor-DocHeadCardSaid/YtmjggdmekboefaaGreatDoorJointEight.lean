/- The Doc laws: the program is one that the engine runs. No conditions. -/
import Derived.Test.YtmjggdmekboefaaGreatDoorProg
import Derived.Test.YtmjggdmekboefaaGreatDoorJointSeven
import Derived.Shelf.Strings.Builder1
set_option linter.unusedVariables false
set_option linter.unusedSimpArgs false
set_option linter.unusedSectionVars false
namespace Go.Proofs.YtmjggdmekboefaaGreatDoor
open Go Go.Eng
theorem po:progOk Tryz.prog=true:=by kernel_rfl
theorem mo:Tryz.prog.follows .mixedOrders=true:=by kernel_rfl
end Go.Proofs.YtmjggdmekboefaaGreatDoor
namespace Go.Proofs.YtmjggdmekboefaaGreatDoor
open Go Go.Eng
noncomputable def bodyOf (f:Func):Code:=match f.body with | some c=>c | none=>.skip
def hints (l:List (Nat × List (Nat × Fix))) (f:FuncId):List (Nat × Fix):=match l with
 | []=>[]
 | x :: r=>match Nat.beq x.1 f with
   | true=>x.2
   | false=>hints r f
abbrev H0:FuncId→List (Nat × Fix):=fun _=>[]
noncomputable abbrev csH (W:CtrW) (l:List (Nat × List (Nat × Fix))):CallS:=callX Tryz.prog W (hints l) 1000 40
noncomputable abbrev XH {W:CtrW} (h:CtrWOk Tryz.prog W) (l:List (Nat × List (Nat × Fix))):CX Tryz.prog:=CX.of mo po h (hints l) 1000 40
theorem hOn:∀ n:Nat,Int.ofNat n=(n:Int):=fun _=>rfl
abbrev iW (n:Nat):V:=.int .i64 (Int.ofNat n)
abbrev iX (n:Int):V:=.int .i64 n
section
variable {n0 N:Nat} {c:Code} {s:St} {Q:Exit→St→Prop} {W:CtrW} {hh:List (Nat × List (Nat × Fix))} {H:List (Nat × Fix)} {fn:Func} {live:List Nat} {G:List (List (Bool × Bool) × List Prop × ResG)}
abbrev RunE (cs:CallS) (H:List (Nat × Fix)) (n0:Nat) (fn:Func) (live:List Nat) (c:Code) (s:St) (G:List (List (Bool × Bool) × List Prop × ResG)):Prop:=∃ L,RunIs Tryz.prog cs H 1000 n0 fn live c s L G
theorem isE (X:CtrWOk Tryz.prog W) (R:V→Tr O→Nat→Prop) (hr:RunE (csH W hh) H n0 fn live c s G) (h:∀ g ∈ G,(∀ b ∈ g.1,b.1=b.2)→(∀ a ∈ g.2.1,a)∧g.2.2.post Tryz.prog n0 fn live R Q) (hc:codeOk N c=true:=by kernel_rfl):TG Tryz.prog n0 N c s Q:=
 hr.elim fun _ hr=>TG_is (XH X hh) mo R hc hr h
theorem isE1 (k:Nat) (X:CtrWOk Tryz.prog W) {A:List Prop} {s1:St} (hr:RunE (csH W hh) H n0 fn live (headN k c) s [([],A,.to .normal s1)]) (hA:∀ a ∈ A,a) (h:TG Tryz.prog n0 N (tailN k c) s1 Q) (hc:codeOk N c=true:=by kernel_rfl):TG Tryz.prog n0 N c s Q:=
 hr.elim fun _ hr=>TG_isN1 k (XH X hh) mo hc hr hA h
theorem isEN (k:Nat) (X:CtrWOk Tryz.prog W) (hr:RunE (csH W hh) H n0 fn live (headN k c) s G) (h:∀ g ∈ G,(∀ b ∈ g.1,b.1=b.2)→(∀ a ∈ g.2.1,a)∧∃ s1,g.2.2= .to .normal s1∧TG Tryz.prog n0 N (tailN k c) s1 Q) (hc:codeOk N c=true:=by kernel_rfl):TG Tryz.prog n0 N c s Q:=
 hr.elim fun _ hr=>TG_isN k (XH X hh) mo hc hr h
def HdF (P:Program) (n0 N:Nat) (fn:Func) (R:V→Tr O→Nat→Prop) (rest:Code):ResG→Prop
 | .to .normal s=>TG P n0 N rest s (RetG P n0 fn R)
 | .ret v h n=>R v h n
 | _=>False
theorem exec_head {P:Program} {cf:CallF} {F:Nat}:∀ (k:Nat) (c:Code) (s:St) (x:X) (s1:St),exec P cf F (headN k c) s=some (x,s1)→x ≠ .normal→exec P cf F c s=some (x,s1):=by
 intro k
 have skip:∀ {s:St} {x:X} {s1:St} {r:Prop},exec P cf F .skip s=some (x,s1)→x ≠ .normal→r:=by
  intro s x s1 r e hx
  simp only [exec,Option.some.injEq,Prod.mk.injEq] at e
  exact absurd e.1.symm hx
 induction k with
 | zero=>intro c s x s1 e hx; cases c <;> exact skip e hx
 | succ k ih=>
   intro c s x s1 e hx
   cases c <;> first | exact skip e hx | skip
   rename_i a b
   simp only [headN,exec] at e ⊢
   cases h1:exec P cf F a s with
   | none=>rw [h1] at e; cases e
   | some p=>
     rw [h1] at e
     obtain ⟨y,s'⟩:=p
     cases y with
     | normal=>exact ih b s' x s1 e hx
     | _=>exact e
theorem isH (k:Nat) {R:V→Tr O→Nat→Prop} (X:CtrWOk Tryz.prog W) (hr:RunE (csH W hh) H n0 fn live (headN k c) s G) (h:∀ g ∈ G,(∀ b ∈ g.1,b.1=b.2)→(∀ a ∈ g.2.1,a)∧HdF Tryz.prog n0 N fn R (tailN k c) g.2.2) (hc:codeOk N c=true:=by kernel_rfl):TG Tryz.prog n0 N c s (RetG Tryz.prog n0 fn R):=by
 obtain ⟨L,hr⟩:=hr
 obtain ⟨e1,e2,e3⟩:=hr.parts
 obtain ⟨l,hl⟩:=Option.isSome_iff_exists.1 e1
 unfold runL runR at e2
 unfold runG at e3
 rw [hl] at e2 e3
 simp only [orNil] at e2 e3
 obtain ⟨⟨p,hp,ho⟩,h2⟩:=codeX_sound Tryz.prog (XH X hh).cs (XH X hh).cf H (XH X hh).snd 1000 (headN k c) s l hl
 obtain ⟨hA,hT⟩:=h (p.1.conds,p.1.asr,toldG Tryz.prog n0 fn live p.2) (e3 ▸ tells_mem hp) ho
 have hrun:=h2 p hp ho ⟨same_ok l e2 p hp,hA⟩
 obtain ⟨pp,x,s'⟩:=p
 simp only [toldG] at hT
 cases x with
 | normal=>
   simp only at hT
   split at hT
   · rename_i s2 hs2; exact TG_headE (F:=1000) (XH X hh).ok mo k hc hrun (TG_norm hs2 hT)
   · exact hT.elim
 | ret=>
   simp only at hT
   split at hT
   · rename_i v h' n' hr'
     exact TG_exec (F:=1000) (XH X hh).ok mo hc (exec_head k c s _ s' hrun (by intro q; cases q)) rfl ⟨.inr rfl,v,h',n',hr',hT⟩
   · exact hT.elim
 | exit i=>
   simp only at hT
   split at hT <;> exact hT.elim
 | panic _=>exact hT.elim
theorem retE {R:V→Tr O→Nat→Prop} (X:CtrWOk Tryz.prog W) (hr:RunE (csH W hh) H n0 fn live c s G) (h:∀ g ∈ G,(∀ b ∈ g.1,b.1=b.2)→(∀ a ∈ g.2.1,a)∧∃ v h n,g.2.2= .ret v h n∧R v h n) (hc:codeOk N c=true:=by kernel_rfl):TG Tryz.prog n0 N c s (RetG Tryz.prog n0 fn R):=
 hr.elim fun _ hr=>TG_ret (XH X hh) mo R hc hr h
end
theorem all_nil:∀ a ∈ ([]:List Prop),a:=fun _ h=>absurd h List.not_mem_nil
theorem outOf_exit {i:Nat} {Q:Exit→St→Prop} {s:St}:outOf i Q (.exit i) s=Q .normal s:=by simp [outOf]
theorem wrap_id {x:Int} (h1:-9000000000000000000 ≤ x) (h2:x ≤ 9000000000000000000):IntKind.i64.wrap x=x:=by
 unfold IntKind.wrap
 have e1:(2 ^ IntKind.i64.bits:Int)=18446744073709551616:=by decide
 have e2:(2 ^ (IntKind.i64.bits - 1):Int)=9223372036854775808:=by decide
 have e3:IntKind.i64.signed=true:=rfl
 simp only [e1,e2,e3,Bool.true_and,decide_eq_true_eq]
 split <;> omega
abbrev ieq (x:Int) (n:Nat):Prop:=V.int .i64 (IntKind.i64.wrap x)=V.int .i64 (Int.ofNat n)
theorem ieq_ok {x:Int} {n:Nat} (h:x=(n:Int)) (hb:n < 1000000000000):ieq x n:=by
 unfold ieq
 rw [wrap_id (by omega) (by omega),h]; rfl
theorem vsuc {i:Nat} (h:i < 100000000000):ieq (Int.ofNat i+1) (i+1):=ieq_ok rfl (by omega)
theorem dlt {i n:Nat} (h:decide (Int.ofNat i < Int.ofNat n)=true):i < n:=Int.ofNat_lt.1 (of_decide_eq_true h)
theorem dge {i n:Nat} (h:decide (Int.ofNat i < Int.ofNat n)=false):n ≤ i:=by have:=of_decide_eq_false h; simp only [hOn] at this; omega
theorem ibd {i n:Nat} (h:i < n):(0:Int) ≤ Int.ofNat i∧Int.ofNat i < Int.ofNat n:=⟨Int.natCast_nonneg _,Int.ofNat_lt.2 h⟩
abbrev pinA (a:List V):Prop:=a=a
section
abbrev GP:=List (Bool × Bool) × List Prop × ResG
variable {P:GP→Prop} {p:GP} {l:List GP} {q:Prop} {a b c d e f:Bool}
theorem gnil:∀ g ∈ ([]:List GP),(∀ b ∈ g.1,b.1=b.2)→P g:=fun _ h=>absurd h List.not_mem_nil
theorem gcons (h:(∀ b ∈ p.1,b.1=b.2)→P p) (t:∀ g ∈ l,(∀ b ∈ g.1,b.1=b.2)→P g):∀ g ∈ p :: l,(∀ b ∈ g.1,b.1=b.2)→P g:=List.forall_mem_cons.2 ⟨h,t⟩
theorem gone (h:(∀ b ∈ p.1,b.1=b.2)→P p):∀ g ∈ [p],(∀ b ∈ g.1,b.1=b.2)→P g:=gcons h gnil
theorem g0 (h:q):(∀ b ∈ ([]:List (Bool × Bool)),b.1=b.2)→q:=fun _=>h
theorem gc {l:List (Bool × Bool)} (h:a=b→(∀ z ∈ l,z.1=z.2)→q):(∀ z ∈ (a,b) :: l,z.1=z.2)→q:=fun t=>h (t _ (List.mem_cons_self ..)) fun z hz=>t z (List.mem_cons_of_mem _ hz)
theorem g1 (h:a=b→q):(∀ z ∈ [(a,b)],z.1=z.2)→q:=fun t=>h (t _ (List.mem_singleton.2 rfl))
theorem g2 (h:a=b→c=d→q):(∀ z ∈ [(a,b),(c,d)],z.1=z.2)→q:=fun t=>h (t _ (List.mem_cons_self ..)) (t (c,d) (by simp))
theorem g3 (h:a=b→c=d→e=f→q):(∀ z ∈ [(a,b),(c,d),(e,f)],z.1=z.2)→q:=fun t=>h (t _ (List.mem_cons_self ..)) (t (c,d) (by simp)) (t (e,f) (by simp))
end
section
variable {P:Program} {n0 N:Nat} {c:Code} {s:St} {Q:Exit→St→Prop} {fn:Func} {α:Type}
def LpQ (P:Program) (n0 N:Nat) (fn:Func) (live:List Nat) (R:V→Tr O→Nat→Prop) (b:Nat) (Q:Exit→St→Prop) (μ:α→Nat) (I:α→Prop) (S:α→St) (x:α):ResG→Prop
 | .to .normal s=>∃ x',μ x' < μ x∧I x'∧Goes P n0 N s (S x')
 | .to (.exit j) s=>∀ s',normG n0 live s'=some s→outOf b Q (.exit j) s'
 | .to y s=>∀ s',normG n0 live s'=some s→Q y s'
 | .ret v h n=>R v h n∧∀ s',RetG P n0 fn R .ret s'→Q .ret s'
 | .bad=>False
theorem loopB (b:Nat) (R:V→Tr O→Nat→Prop) (live:List Nat) (μ:α→Nat) (I:α→Prop) (S:α→St) (x0:α) (i0:I x0) (h0:Goes Tryz.prog n0 N s (S x0))
  (hb:∀ x,I x→∃ (W:CtrW) (_:CtrWOk Tryz.prog W) (hh:_) (H:_) (G:_),RunE (csH W hh) H n0 fn live (inner (inner c)) (S x) G∧∀ g ∈ G,(∀ b ∈ g.1,b.1=b.2)→(∀ a ∈ g.2.1,a)∧LpQ Tryz.prog n0 N fn live R b Q μ I S x g.2.2)
  (hs:(isBlock c b && (isLoop (inner c) && codeOk N (inner (inner c))))=true:=by kernel_rfl):TG Tryz.prog n0 N c s Q:=by
 simp only [Bool.and_eq_true] at hs
 refine TG_whileN b μ I S hs.1 hs.2.1 x0 i0 h0 fun x hx=>?_
 obtain ⟨W,X,hh,H,G,hr,hg⟩:=hb x hx
 refine isE X R hr (fun g hgm hcd=>?_) hs.2.2
 obtain ⟨hA,hp⟩:=hg g hgm hcd
 refine ⟨hA,?_⟩
 obtain ⟨_,_,r⟩:=g
 simp only at hp ⊢
 cases r with
 | to y s1=>
   cases y with
   | normal=>
     obtain ⟨x',h1,h2,h3⟩:=hp
     exact fun s' hs'=>⟨x',h1,h2,(Goes.norm hs').trans h3⟩
   | exit j=>exact hp
   | _=>exact hp
 | ret v h n=>exact hp
 | bad=>exact hp.elim
def LpF (P:Program) (n0 N:Nat) (fn:Func) (R:V→Tr O→Nat→Prop) (b:Nat) (rest:Code) (μ:α→Nat) (I:α→Prop) (S:α→St) (x:α):ResG→Prop
 | .to .normal s=>∃ x',μ x' < μ x∧I x'∧Goes P n0 N s (S x')
 | .to (.exit j) s=>j=b∧TG P n0 N rest s (RetG P n0 fn R)
 | .ret v h n=>R v h n
 | _=>False
theorem loopP (b:Nat) (R:V→Tr O→Nat→Prop) (live:List Nat) (μ:α→Nat) (I:α→Prop) (S:α→St) (x0:α) (i0:I x0) (h0:Goes Tryz.prog n0 N s (S x0))
  (hb:∀ x,I x→∃ (W:CtrW) (_:CtrWOk Tryz.prog W) (hh:_) (H:_) (G:_),RunE (csH W hh) H n0 fn live (inner (inner (seqL c))) (S x) G∧∀ g ∈ G,(∀ b ∈ g.1,b.1=b.2)→(∀ a ∈ g.2.1,a)∧LpF Tryz.prog n0 N fn R b (seqR c) μ I S x g.2.2)
  (hs:(isSeq c && (isBlock (seqL c) b && (isLoop (inner (seqL c)) && codeOk N (inner (inner (seqL c))))))=true:=by kernel_rfl):TG Tryz.prog n0 N c s (RetG Tryz.prog n0 fn R):=by
 simp only [Bool.and_eq_true] at hs
 refine TG_seq' hs.1 (loopB (fn:=fn) b R live μ I S x0 i0 h0 (fun x hx=>?_) (by simp only [Bool.and_eq_true]; exact hs.2))
 obtain ⟨W,X,hh,H,G,hr,hg⟩:=hb x hx
 refine ⟨W,X,hh,H,G,hr,fun g hgm hcd=>?_⟩
 obtain ⟨hA,hp⟩:=hg g hgm hcd
 refine ⟨hA,?_⟩
 obtain ⟨_,_,r⟩:=g
 simp only at hp ⊢
 cases r with
 | to y s1=>
   cases y with
   | normal=>exact hp
   | exit j=>
     obtain ⟨rfl,h⟩:=hp
     exact fun s' hs'=>by rw [outOf_exit]; exact TG_norm hs' h
   | _=>exact hp.elim
 | ret v h n=>exact ⟨hp,fun s' h=>h⟩
 | bad=>exact hp.elim
theorem loopF {W:CtrW} (X:CtrWOk Tryz.prog W) (b:Nat) (R:V→Tr O→Nat→Prop) (live:List Nat) (μ:α→Nat) (I:α→Prop) (S:α→St) (x0:α) (i0:I x0)
  {h0h:List (Nat × List (Nat × Fix))} {H0:List (Nat × Fix)} {A:List Prop} {s0:St} (hr0:RunE (csH W h0h) H0 n0 fn live (seqL (seqL c)) s [([],A,.to .normal s0)]) (hA:∀ a ∈ A,a) (h0:Goes Tryz.prog n0 N s0 (S x0))
  (hb:∀ x,I x→∃ (W:CtrW) (_:CtrWOk Tryz.prog W) (hh:_) (H:_) (G:_),RunE (csH W hh) H n0 fn live (inner (inner (seqR (seqL c)))) (S x) G∧∀ g ∈ G,(∀ b ∈ g.1,b.1=b.2)→(∀ a ∈ g.2.1,a)∧LpF Tryz.prog n0 N fn R b (seqR c) μ I S x g.2.2)
  (hs:((isSeq c && isSeq (seqL c)) && (codeOk N (seqL (seqL c)) && (isBlock (seqR (seqL c)) b && (isLoop (inner (seqR (seqL c))) && codeOk N (inner (inner (seqR (seqL c))))))))=true:=by kernel_rfl):TG Tryz.prog n0 N c s (RetG Tryz.prog n0 fn R):=by
 simp only [Bool.and_eq_true] at hs
 refine TG_seq' hs.1.1 (TG_seq' hs.1.2 (isE X anyR hr0 (gone (g0 ⟨hA,fun s' hs'=>?_⟩)) hs.2.1))
 simp only [andThen]
 refine loopB (fn:=fn) b R live μ I S x0 i0 ((Goes.norm hs').trans h0) (fun x hx=>?_) (by simp only [Bool.and_eq_true]; exact hs.2.2)
 obtain ⟨W,X,hh,H,G,hr,hg⟩:=hb x hx
 refine ⟨W,X,hh,H,G,hr,fun g hgm hcd=>?_⟩
 obtain ⟨hA,hp⟩:=hg g hgm hcd
 refine ⟨hA,?_⟩
 obtain ⟨_,_,r⟩:=g
 simp only at hp ⊢
 cases r with
 | to y s1=>
   cases y with
   | normal=>exact hp
   | exit j=>
     obtain ⟨rfl,h⟩:=hp
     exact fun s' hs'=>by rw [outOf_exit]; exact TG_norm hs' h
   | _=>exact hp.elim
 | ret v h n=>exact ⟨hp,fun s' h=>h⟩
 | bad=>exact hp.elim
end
end Go.Proofs.YtmjggdmekboefaaGreatDoor
namespace Go.Proofs.YtmjggdmekboefaaGreatDoor
open Go Go.Eng
noncomputable abbrev cdPu:Code:=bodyOf Tryz.f27
noncomputable abbrev cdVa:Code:=bodyOf Tryz.f31
noncomputable abbrev tlVa:Code:=tailN 3 cdVa
def sV0 (u:Int):St:=stG [(3,.slc none 0 0 0),(4,.int .u64 u)] (hL []) 3
def sV1 (ks:List Int) (u:Int):St:=stG [(3,.slc (some (3,0)) ks.length ks.length 1),(4,.int .u64 u)] (hL [(3,.own .u8 ks)]) 4
theorem pu_1 (x:Int):∃ L,RunIs Tryz.prog (csH noW []) [] 1000 3 Tryz.f27 [] (cdPu) (startSt [.int .i64 x,.int .i64 1] .nil 3) L
  [([],
   [((0:Int) ≤ (0:Int)∧(0:Int) < (8:Int)),((0:Int) ≤ (1:Int)∧(1:Int) < (8:Int)),((0:Int) ≤ (2:Int)∧(2:Int) < (8:Int)),((0:Int) ≤ (3:Int)∧(3:Int) < (8:Int)),((0:Int) ≤ (4:Int)∧(4:Int) < (8:Int)),((0:Int) ≤ (5:Int)∧(5:Int) < (8:Int)),((0:Int) ≤ (6:Int)∧(6:Int) < (8:Int)),((0:Int) ≤ (7:Int)∧(7:Int) < (8:Int))],
   .ret (.str ([UInt8.ofNat (IntKind.u8.wrap ((IntKind.u64.wrap x).fdiv (1:Int))).toNat])) (hL []) 3)]
 :=RunIs.of (by kernel_rfl) (by kernel_rfl) (by kernel_rfl)
theorem pu_4 (x:Int):∃ L,RunIs Tryz.prog (csH noW []) [] 1000 3 Tryz.f27 [] (cdPu) (startSt [.int .i64 x,.int .i64 4] .nil 3) L
  [([],
   [((0:Int) ≤ (0:Int)∧(0:Int) < (8:Int)),((0:Int) ≤ (1:Int)∧(1:Int) < (8:Int)),((0:Int) ≤ (2:Int)∧(2:Int) < (8:Int)),((0:Int) ≤ (3:Int)∧(3:Int) < (8:Int)),((0:Int) ≤ (4:Int)∧(4:Int) < (8:Int)),((0:Int) ≤ (5:Int)∧(5:Int) < (8:Int)),((0:Int) ≤ (6:Int)∧(6:Int) < (8:Int)),((0:Int) ≤ (7:Int)∧(7:Int) < (8:Int))],
   .ret (.str ([UInt8.ofNat (IntKind.u8.wrap ((IntKind.u64.wrap x).fdiv (16777216:Int))).toNat,UInt8.ofNat (IntKind.u8.wrap ((IntKind.u64.wrap x).fdiv (65536:Int))).toNat,UInt8.ofNat (IntKind.u8.wrap ((IntKind.u64.wrap x).fdiv (256:Int))).toNat,UInt8.ofNat (IntKind.u8.wrap ((IntKind.u64.wrap x).fdiv (1:Int))).toNat])) (hL []) 3)]
 :=RunIs.of (by kernel_rfl) (by kernel_rfl) (by kernel_rfl)
theorem va_1 (n:Int):∃ L,RunIs Tryz.prog (csH noW []) [] 1000 3 Tryz.f31 [3,4] (headN 3 cdVa) (startSt [.int .i64 n] .nil 3) L
  [([],
   [],
   .to .normal (sV0 (IntKind.u64.wrap n)))]
 :=RunIs.of (by kernel_rfl) (by kernel_rfl) (by kernel_rfl)
theorem va_2 (u:Int):∃ L,RunIs Tryz.prog (csH noW []) [(8,.split)] 1000 3 Tryz.f31 [3,4] (inner (inner (seqL tlVa))) (sV0 u) L
  [([((decide (u ≥ (128:Int))),true)],
   [],
   .to .normal (stG [(3,.slc (some (3,0)) 1 1 1),(4,.int .u64 (u.fdiv (128:Int)))] (hL [(3,.cells [.int .u8 (IntKind.u8.wrap (Int.ofNat (BitVec.ofInt 8 (IntKind.u8.wrap u) ||| BitVec.ofInt 8 (128:Int)).toNat))])]) 4)),
  ([((decide (u ≥ (128:Int))),false)],
   [],
   .to (.exit 0) (stG [(3,.slc none 0 0 0),(4,.int .u64 u)] (hL []) 3))]
 :=RunIs.of (by kernel_rfl) (by kernel_rfl) (by kernel_rfl)
theorem va_3 (u:Int) (ks:List Int):∃ L,RunIs Tryz.prog (csH noW []) [(8,.split)] 1000 3 Tryz.f31 [3,4] (inner (inner (seqL tlVa))) (sV1 ks u) L
  [([((decide (u ≥ (128:Int))),true)],
   [(0 < ks.length),(0+ks.length * 1 ≤ ks.length),(0 < 1),(roomy (ks.length+1) 1 1=true)],
   .to .normal (stG [(3,.slc (some (3,0)) (ks.length+1) (ks.length+1) 1),(4,.int .u64 (u.fdiv (128:Int)))] (hL [(3,.own .u8 (List.take (ks.length * 1) (List.drop 0 ks) ++ [IntKind.u8.wrap (Int.ofNat (BitVec.ofInt 8 (IntKind.u8.wrap u) ||| BitVec.ofInt 8 (128:Int)).toNat)]))]) 4)),
  ([((decide (u ≥ (128:Int))),false)],
   [],
   .to (.exit 0) (stG [(3,.slc (some (3,0)) (ks.length) (ks.length) 1),(4,.int .u64 u)] (hL [(3,.own .u8 ks)]) 4))]
 :=RunIs.of (by kernel_rfl) (by kernel_rfl) (by kernel_rfl)
theorem va_4 (u:Int):∃ L,RunIs Tryz.prog (csH noW []) [] 1000 3 Tryz.f31 [] (seqR tlVa) (sV0 u) L
  [([],
   [],
   .ret (.str ([UInt8.ofNat (IntKind.u8.wrap u).toNat])) (hL []) 3)]
 :=RunIs.of (by kernel_rfl) (by kernel_rfl) (by kernel_rfl)
theorem va_5 (u:Int) (ks:List Int):∃ L,RunIs Tryz.prog (csH noW []) [] 1000 3 Tryz.f31 [] (seqR tlVa) (sV1 ks u) L
  [([],
   [(0 < ks.length),(0+ks.length * 1 ≤ ks.length),(0 < 1),(roomy (ks.length+1) 1 1=true),(0+(ks.length+1) ≤ (List.take (ks.length * 1) (List.drop 0 ks) ++ [IntKind.u8.wrap u]).length)],
   .ret (.str (strI (List.take (ks.length+1) (List.drop 0 (List.take (ks.length * 1) (List.drop 0 ks) ++ [IntKind.u8.wrap u]))))) (hL []) 3)]
 :=RunIs.of (by kernel_rfl) (by kernel_rfl) (by kernel_rfl)
end Go.Proofs.YtmjggdmekboefaaGreatDoor
namespace Go.Proofs.YtmjggdmekboefaaGreatDoor
open Go Go.Eng
def pB (x d:Int):UInt8:=UInt8.ofNat (IntKind.u8.wrap ((IntKind.u64.wrap x).fdiv d)).toNat
def put4 (x:Int):List UInt8:=[pB x 16777216,pB x 65536,pB x 256,pB x 1]
def put1 (x:Int):List UInt8:=[pB x 1]
def specPu:List V→Option (List Prop × V)
 | [.int .i64 x,.int .i64 k]=>match k with
   | .ofNat 4=>some ([],.str (put4 x))
   | .ofNat 1=>some ([],.str (put1 x))
   | _=>none
 | _=>none
theorem pureT {f:FuncId} {fn:Func} {spec:List V→Option (List Prop × V)} (hf:Tryz.prog.funcs[f]? =some fn)
  (h:∀ args A v,spec args=some (A,v)→V.frees args=true∧v.free=true∧(Nat.ble args.length fn.ntmps && Nat.blt fn.ntmps top)=true∧((∀ a ∈ A,a)→TG Tryz.prog gN fn.ntmps (bodyOf fn) (startSt args .nil gN) (RetG Tryz.prog gN fn fun u _ _=>u=v)))
  (hb:fn.body=some (bodyOf fn):=by kernel_rfl) (hlt:Nat.blt f Tryz.prog.funcs.size=true:=by kernel_rfl):OneW Tryz.prog f (pureW spec):=
 pureW_ok (Nat.le_of_ble_eq_true hlt) fun args A v e=>by
  obtain ⟨h1,h2,h3,h4⟩:=h args A v e
  exact ⟨h1,h2,fun hA=>pure_calls mo po hf hb h3 h1 (h4 hA)⟩
theorem sm {α β:Type} {a c:α} {b d:β} (h:some (a,b)=some (c,d)):a=c∧b=d:=Prod.mk.inj (Option.some.inj h)
abbrev b8:List Prop:=[(0:Int) ≤ 0∧(0:Int) < 8,(0:Int) ≤ 1∧(1:Int) < 8,(0:Int) ≤ 2∧(2:Int) < 8,(0:Int) ≤ 3∧(3:Int) < 8,(0:Int) ≤ 4∧(4:Int) < 8,(0:Int) ≤ 5∧(5:Int) < 8,(0:Int) ≤ 6∧(6:Int) < 8,(0:Int) ≤ 7∧(7:Int) < 8]
theorem b8_ok:∀ p ∈ b8,p:=by
 intro p hp
 simp only [List.mem_cons,List.not_mem_nil,or_false] at hp
 rcases hp with rfl | rfl | rfl | rfl | rfl | rfl | rfl | rfl <;> decide
theorem p128:(128:Int) ^ (9+1)=1180591620717411303424:=by rfl
theorem one_Pu:OneW Tryz.prog 27 (pureW specPu):=by
 refine pureT Tryz.func27 fun args A v e=>?_
 unfold specPu at e
 split at e
 case h_2=>cases e
 split at e
 case h_3=>cases e
 all_goals
  obtain ⟨rfl,rfl⟩:=sm e
  refine ⟨rfl,rfl,rfl,fun _=>?_⟩
 · exact retE (noW_ok _) (pu_4 _) (gone (g0 ⟨b8_ok,_,_,_,rfl,rfl⟩))
 · exact retE (noW_ok _) (pu_1 _) (gone (g0 ⟨b8_ok,_,_,_,rfl,rfl⟩))
def hiB (u:Int):Int:=IntKind.u8.wrap (Int.ofNat (BitVec.ofInt 8 (IntKind.u8.wrap u) ||| BitVec.ofInt 8 (128:Int)).toNat)
def loB (u:Int):Int:=IntKind.u8.wrap u
def varL:Nat→Int→List Int
 | 0,u=>[loB u]
 | k+1,u=>if 128 ≤ u then hiB u :: varL k (u.fdiv 128) else [loB u]
def varB (n:Int):List UInt8:=strI (varL 9 (IntKind.u64.wrap n))
theorem varL_low {k:Nat} {u:Int} (h:¬ 128 ≤ u):varL k u=[loB u]:=by
 cases k with
 | zero=>rfl
 | succ k=>show (if 128 ≤ u then _ else _)=_; rw [if_neg h]
theorem varL_len:∀ (k:Nat) (u:Int),0 < (varL k u).length∧(varL k u).length ≤ k+1
 | 0,u=>by simp [varL]
 | k+1,u=>by
   have:=varL_len k (u.fdiv 128)
   show 0 < (if 128 ≤ u then _ else _:List Int).length∧(if 128 ≤ u then _ else _:List Int).length ≤ _
   split
   · simp only [List.length_cons]; omega
   · simp only [List.length_cons,List.length_nil]; omega
theorem varB_len (n:Int):0 < (varB n).length∧(varB n).length ≤ 10:=by
 have:=varL_len 9 (IntKind.u64.wrap n)
 unfold varB strI
 rw [List.length_map]; exact this
theorem u64_wrap (n:Int):0 ≤ IntKind.u64.wrap n∧IntKind.u64.wrap n < 18446744073709551616:=by
 unfold IntKind.wrap
 have e1:(2 ^ IntKind.u64.bits:Int)=18446744073709551616:=by decide
 have e3:IntKind.u64.signed=false:=rfl
 simp only [e1,e3,Bool.false_and,Bool.false_eq_true,if_false]
 omega
theorem roomy_ok {k:Nat} (h:k ≤ 100000000000):roomy k 1 1=true:=by
 unfold roomy
 exact decide_eq_true ⟨by omega,by omega⟩
def SVa (x:Nat × List Int × Int):St:=match x.2.1 with
 | []=>sV0 x.2.2
 | k :: r=>sV1 (k :: r) x.2.2
theorem tgVa (n:Int):TG Tryz.prog 3 Tryz.f31.ntmps cdVa (startSt [.int .i64 n] .nil 3) (RetG Tryz.prog 3 Tryz.f31 fun u _ _=>u= .str (varB n)):=by
 have hu:=u64_wrap n
 refine isE1 3 (noW_ok _) (va_1 n) all_nil ?_
 refine loopP (α:=Nat × List Int × Int) 0 _ [3,4] (·.1) (fun x=>0 ≤ x.2.2∧x.2.2 < 128 ^ (x.1+1)∧x.2.1.length+x.1 ≤ 10∧x.2.1 ++ varL x.1 x.2.2=varL 9 (IntKind.u64.wrap n)) SVa (9,[],IntKind.u64.wrap n) ⟨hu.1,by show IntKind.u64.wrap n < (128:Int) ^ (9+1); rw [p128]; omega,show 0+9 ≤ 10 by decide,rfl⟩ .refl ?_
 rintro ⟨k,ks,u⟩ ⟨h0,hk,hl,hv⟩
 simp only at h0 hk hl hv
 have hstep:128 ≤ u→∃ j,k=j+1∧0 ≤ u.fdiv 128∧u.fdiv 128 < 128 ^ (j+1)∧(ks ++ [hiB u]) ++ varL j (u.fdiv 128)=varL 9 (IntKind.u64.wrap n):=fun h=>by
  cases k with
  | zero=>simp at hk; omega
  | succ j=>
    have ed:u.fdiv 128=u / 128:=Int.fdiv_eq_ediv_of_nonneg _ (by decide)
    refine ⟨j,rfl,by rw [ed]; omega,?_,?_⟩
    · rw [ed]
      have:(128:Int) ^ (j+1+1)=128 ^ (j+1) * 128:=Int.pow_succ ..
      rw [this] at hk
      exact Int.ediv_lt_of_lt_mul (by decide) hk
    · rw [← hv]
      show _=ks ++ (if 128 ≤ u then _ else _)
      rw [if_pos h]; simp
 have hend:¬ 128 ≤ u→ks ++ [loB u]=varL 9 (IntKind.u64.wrap n):=fun h=>by rw [← hv,varL_low h]
 cases ks with
 | nil=>
   refine ⟨_,(noW_ok _),[],_,_,va_2 u,gcons (g1 fun h=>⟨all_nil,?_⟩) (gone (g1 fun h=>⟨all_nil,rfl,?_⟩))⟩
   · obtain ⟨j,rfl,a1,a2,a3⟩:=hstep (of_decide_eq_true h)
     exact ⟨(j,[hiB u],u.fdiv 128),Nat.lt_succ_self j,⟨a1,a2,by simp at hl ⊢; omega,a3⟩,.own [(3,.u8)] (by kernel_rfl)⟩
   · refine retE (noW_ok _) (va_4 u) (gone (g0 ⟨all_nil,_,_,_,rfl,?_⟩))
     unfold varB; rw [← hend (of_decide_eq_false h)]; rfl
 | cons x r=>
   have hpos:0 < (x :: r).length:=by simp
   have hl2:(x :: r).length ≤ 10:=by omega
   have e0:List.take ((x :: r).length * 1) (List.drop 0 (x :: r))=x :: r:=by rw [List.drop_zero,Nat.mul_one,List.take_length]
   have A:=fm hpos (fm (show 0+(x :: r).length * 1 ≤ (x :: r).length by omega) (fm (show 0 < 1 by decide) (fm1 (roomy_ok (k:=(x :: r).length+1) (by omega)))))
   have h3:=va_3 u (x :: r)
   have h5:=va_5 u (x :: r)
   rw [e0] at h3 h5
   refine ⟨_,(noW_ok _),[],_,_,h3,gcons (g1 fun h=>⟨A,?_⟩) (gone (g1 fun h=>⟨all_nil,rfl,?_⟩))⟩
   · obtain ⟨j,rfl,a1,a2,a3⟩:=hstep (of_decide_eq_true h)
     refine ⟨(j,(x :: r) ++ [hiB u],u.fdiv 128),Nat.lt_succ_self j,⟨a1,a2,by rw [List.length_append]; simp at hl ⊢; omega,a3⟩,?_⟩
     have:SVa (j,(x :: r) ++ [hiB u],u.fdiv 128)=stG [(3,.slc (some (3,0)) ((x :: r).length+1) ((x :: r).length+1) 1),(4,.int .u64 (u.fdiv (128:Int)))] (hL [(3,.own .u8 ((x :: r) ++ [hiB u]))]) 4:=by
      show sV1 ((x :: r) ++ [hiB u]) _=_
      unfold sV1; rw [List.length_append]; rfl
     rw [this]; exact .refl
   · have he:=hend (of_decide_eq_false h)
     have e1:(x :: r ++ [IntKind.u8.wrap u]).length=(x :: r).length+1:=by rw [List.length_append]; rfl
     refine retE (noW_ok _) h5 (gone (g0 ⟨fm hpos (fm (show 0+(x :: r).length * 1 ≤ (x :: r).length by omega) (fm (by decide) (fm (roomy_ok (by omega)) (fm1 (by rw [e1]; omega))))),_,_,_,rfl,?_⟩))
     unfold varB; rw [← he,List.drop_zero,← e1,List.take_length]; rfl
def specVa:List V→Option (List Prop × V)
 | [.int .i64 n]=>some ([],.str (varB n))
 | _=>none
theorem one_Va:OneW Tryz.prog 31 (pureW specVa):=by
 refine pureT Tryz.func31 fun args A v e=>?_
 unfold specVa at e
 split at e
 case h_2=>cases e
 obtain ⟨rfl,rfl⟩:=sm e
 exact ⟨rfl,rfl,rfl,fun _=>tgVa _⟩
noncomputable abbrev W1:CtrW:=addW 31 (pureW specVa) (addW 27 (pureW specPu) noW)
theorem W1_ok:CtrWOk Tryz.prog W1:=addW_ok one_Va (addW_ok one_Pu (noW_ok _))
end Go.Proofs.YtmjggdmekboefaaGreatDoor
namespace Go.Proofs.YtmjggdmekboefaaGreatDoor
open Go Go.Eng
def tcs (p:Nat→Int):List D:=(List.range 256).map fun j=>.int .u8 (p j)
def tl (p:Nat→Int):List Int:=(List.range 256).map p
def tlV (p:Nat→Int):V:=.agg (D.toVs (tcs p))
noncomputable abbrev cdCn:Code:=bodyOf Tryz.f24
noncomputable abbrev cdZe:Code:=bodyOf Tryz.f124
noncomputable abbrev tlZe:Code:=tailN 1 cdZe
noncomputable abbrev cdSm:Code:=bodyOf Tryz.f125
noncomputable abbrev tlSm:Code:=tailN 1 cdSm
noncomputable abbrev cdAt:Code:=bodyOf Tryz.f83
noncomputable abbrev cdWi:Code:=bodyOf Tryz.f112
noncomputable abbrev cdLe:Code:=bodyOf Tryz.f127
def sZe (ks:List Int) (i:Nat):St:=stG [(1,.ptr (some (3,0))),(3,iW i)] (hL [(3,.own .u8 ks)]) 4
def sSm (ks js:List Int) (i:Nat):St:=stG [(2,.ptr (some (3,0))),(3,.ptr (some (4,0))),(5,iW i)] (hL [(3,.own .u8 ks),(4,.own .u8 js)]) 5
theorem cn_1 (r g b a:Int):∃ L,RunIs Tryz.prog (csH W1 []) [(5,.split)] 1000 3 Tryz.f24 [] (cdCn) (startSt [.agg [.int .u8 r,.int .u8 g,.int .u8 b,.int .u8 a]] .nil 3) L
  [([((a == (0:Int)),true)],
   [],
   .ret (.agg [.int .u8 0,.int .u8 0,.int .u8 0,.int .u8 0]) (hL []) 3),
  ([((a == (0:Int)),false)],
   [],
   .ret (.agg [.int .u8 r,.int .u8 g,.int .u8 b,.int .u8 a]) (hL []) 3)]
 :=RunIs.of (by kernel_rfl) (by kernel_rfl) (by kernel_rfl)
theorem ze_1 (p:Nat→Int):∃ L,RunIs Tryz.prog (csH W1 []) [] 1000 3 Tryz.f124 [1] (headN 1 cdZe) (startSt [tlV p] .nil 3) L
  [([],
   [],
   .to .normal (stG [(1,.ptr (some (3,0)))] (hL [(3,.cells (D.toVs (tcs p)))]) 4))]
 :=RunIs.of (by kernel_rfl) (by kernel_rfl) (by kernel_rfl)
theorem ze_2 (ks:List Int):∃ L,RunIs Tryz.prog (csH W1 []) [] 1000 3 Tryz.f124 [1,3] (seqL (seqL tlZe)) (stG [(1,.ptr (some (3,0)))] (hL [(3,.own .u8 ks)]) 4) L
  [([],
   [],
   .to .normal (sZe ks 0))]
 :=RunIs.of (by kernel_rfl) (by kernel_rfl) (by kernel_rfl)
abbrev ze_3A1 (ks:List Int) (i:Nat) (a:Int):Prop:=V.int IntKind.u8 (ks.getD (0+i * 4+3) (0:Int))=V.int IntKind.u8 a
theorem ze_3 (ks:List Int) (i:Nat) (a:Int):∃ L,RunIs Tryz.prog (csH W1 []) [(5,.split),(11,.give (.int .u8 a)),(12,.split),(7,.give (iW (i+1)))] 1000 3 Tryz.f124 [1,3] (inner (inner (seqR (seqL tlZe)))) (sZe ks i) L
  [([((decide (Int.ofNat i < (64:Int))),true),((a != (0:Int)),true)],
   [((0:Int) ≤ Int.ofNat i∧Int.ofNat i < (64:Int)),(0+i * 4+3 < ks.length),ze_3A1 ks i a],
   .ret (.bool false) (hL []) 3),
  ([((decide (Int.ofNat i < (64:Int))),true),((a != (0:Int)),false)],
   [((0:Int) ≤ Int.ofNat i∧Int.ofNat i < (64:Int)),(0+i * 4+3 < ks.length),ze_3A1 ks i a,(V.int IntKind.i64 (IntKind.i64.wrap (Int.ofNat i+(1:Int)))=iW (i+1))],
   .to .normal (sZe ks (i+1))),
  ([((decide (Int.ofNat i < (64:Int))),false)],
   [],
   .to (.exit 0) (sZe ks i))]
 :=RunIs.of (by kernel_rfl) (by kernel_rfl) (by kernel_rfl)
theorem ze_4 (ks:List Int):∃ L,RunIs Tryz.prog (csH W1 []) [] 1000 3 Tryz.f124 [] (seqR tlZe) (sZe ks 64) L
  [([],
   [],
   .ret (.bool true) (hL []) 3)]
 :=RunIs.of (by kernel_rfl) (by kernel_rfl) (by kernel_rfl)
theorem sm_1 (p q:Nat→Int):∃ L,RunIs Tryz.prog (csH W1 []) [] 1000 3 Tryz.f125 [2,3] (headN 1 cdSm) (startSt [tlV p,tlV q] .nil 3) L
  [([],
   [],
   .to .normal (stG [(2,.ptr (some (3,0))),(3,.ptr (some (4,0)))] (hL [(3,.cells (D.toVs (tcs p))),(4,.cells (D.toVs (tcs q)))]) 5))]
 :=RunIs.of (by kernel_rfl) (by kernel_rfl) (by kernel_rfl)
theorem sm_2 (ks js:List Int):∃ L,RunIs Tryz.prog (csH W1 []) [] 1000 3 Tryz.f125 [2,3,5] (seqL (seqL tlSm)) (stG [(2,.ptr (some (3,0))),(3,.ptr (some (4,0)))] (hL [(3,.own .u8 ks),(4,.own .u8 js)]) 5) L
  [([],
   [],
   .to .normal (sSm ks js 0))]
 :=RunIs.of (by kernel_rfl) (by kernel_rfl) (by kernel_rfl)
abbrev sm_3A1 (js:List Int) (i:Nat) (r' g' b' a':Int):Prop:=aggInts IntKind.u8 js (0+i * 4) 4=V.agg [V.int IntKind.u8 r',V.int IntKind.u8 g',V.int IntKind.u8 b',V.int IntKind.u8 a']
abbrev sm_3A2 (ks:List Int) (i:Nat) (r g b a:Int):Prop:=aggInts IntKind.u8 ks (0+i * 4) 4=V.agg [V.int IntKind.u8 r,V.int IntKind.u8 g,V.int IntKind.u8 b,V.int IntKind.u8 a]
theorem sm_3 (ks js:List Int) (i:Nat) (r g b a r' g' b' a':Int):∃ L,RunIs Tryz.prog (csH W1 []) [(7,.split),(12,.give (.agg [.int .u8 r,.int .u8 g,.int .u8 b,.int .u8 a])),(15,.give (.agg [.int .u8 r',.int .u8 g',.int .u8 b',.int .u8 a'])),(16,.split),(9,.give (iW (i+1)))] 1000 3 Tryz.f125 [2,3,5] (inner (inner (seqR (seqL tlSm)))) (sSm ks js i) L
  [([((decide (Int.ofNat i < (64:Int))),true),((!(r == r' && (g == g' && (b == b' && (a == a' && true))))),true)],
   [((0:Int) ≤ Int.ofNat i∧Int.ofNat i < (64:Int)),(0+i * 4+4 ≤ ks.length),sm_3A2 ks i r g b a,((0:Int) ≤ Int.ofNat i∧Int.ofNat i < (64:Int)),(0+i * 4+4 ≤ js.length),sm_3A1 js i r' g' b' a'],
   .ret (.bool false) (hL []) 3),
  ([((decide (Int.ofNat i < (64:Int))),true),((!(r == r' && (g == g' && (b == b' && (a == a' && true))))),false)],
   [((0:Int) ≤ Int.ofNat i∧Int.ofNat i < (64:Int)),(0+i * 4+4 ≤ ks.length),sm_3A2 ks i r g b a,((0:Int) ≤ Int.ofNat i∧Int.ofNat i < (64:Int)),(0+i * 4+4 ≤ js.length),sm_3A1 js i r' g' b' a',(V.int IntKind.i64 (IntKind.i64.wrap (Int.ofNat i+(1:Int)))=iW (i+1))],
   .to .normal (sSm ks js (i+1))),
  ([((decide (Int.ofNat i < (64:Int))),false)],
   [],
   .to (.exit 0) (sSm ks js i))]
 :=RunIs.of (by kernel_rfl) (by kernel_rfl) (by kernel_rfl)
theorem sm_4 (ks js:List Int):∃ L,RunIs Tryz.prog (csH W1 []) [] 1000 3 Tryz.f125 [] (seqR tlSm) (sSm ks js 64) L
  [([],
   [],
   .ret (.bool true) (hL []) 3)]
 :=RunIs.of (by kernel_rfl) (by kernel_rfl) (by kernel_rfl)
theorem at_1 (x y:Int):∃ L,RunIs Tryz.prog (csH W1 [(111,[(14,.split),(17,.split)])]) [] 1000 3 Tryz.f83 [] (cdAt) (startSt [iX x,iX y] .nil 3) L
  [([((x.tmod (8:Int) != (0:Int)),true),((decide (x < (0:Int))),true),((y.tmod (8:Int) != (0:Int)),true),((decide (y < (0:Int))),true)],
   [((8:Int) ≠ (0:Int)),((8:Int) ≠ (0:Int)),((8:Int) ≠ (0:Int)),((8:Int) ≠ (0:Int))],
   .ret (.agg [.int .i64 (IntKind.i64.wrap (IntKind.i64.wrap (x.tdiv (8:Int)) - (1:Int))),.int .i64 (IntKind.i64.wrap (IntKind.i64.wrap (y.tdiv (8:Int)) - (1:Int)))]) (hL []) 3),
  ([((x.tmod (8:Int) != (0:Int)),true),((decide (x < (0:Int))),true),((y.tmod (8:Int) != (0:Int)),true),((decide (y < (0:Int))),false)],
   [((8:Int) ≠ (0:Int)),((8:Int) ≠ (0:Int)),((8:Int) ≠ (0:Int)),((8:Int) ≠ (0:Int))],
   .ret (.agg [.int .i64 (IntKind.i64.wrap (IntKind.i64.wrap (x.tdiv (8:Int)) - (1:Int))),.int .i64 (IntKind.i64.wrap (y.tdiv (8:Int)))]) (hL []) 3),
  ([((x.tmod (8:Int) != (0:Int)),true),((decide (x < (0:Int))),true),((y.tmod (8:Int) != (0:Int)),false)],
   [((8:Int) ≠ (0:Int)),((8:Int) ≠ (0:Int)),((8:Int) ≠ (0:Int)),((8:Int) ≠ (0:Int))],
   .ret (.agg [.int .i64 (IntKind.i64.wrap (IntKind.i64.wrap (x.tdiv (8:Int)) - (1:Int))),.int .i64 (IntKind.i64.wrap (y.tdiv (8:Int)))]) (hL []) 3),
  ([((x.tmod (8:Int) != (0:Int)),true),((decide (x < (0:Int))),false),((y.tmod (8:Int) != (0:Int)),true),((decide (y < (0:Int))),true)],
   [((8:Int) ≠ (0:Int)),((8:Int) ≠ (0:Int)),((8:Int) ≠ (0:Int)),((8:Int) ≠ (0:Int))],
   .ret (.agg [.int .i64 (IntKind.i64.wrap (x.tdiv (8:Int))),.int .i64 (IntKind.i64.wrap (IntKind.i64.wrap (y.tdiv (8:Int)) - (1:Int)))]) (hL []) 3),
  ([((x.tmod (8:Int) != (0:Int)),true),((decide (x < (0:Int))),false),((y.tmod (8:Int) != (0:Int)),true),((decide (y < (0:Int))),false)],
   [((8:Int) ≠ (0:Int)),((8:Int) ≠ (0:Int)),((8:Int) ≠ (0:Int)),((8:Int) ≠ (0:Int))],
   .ret (.agg [.int .i64 (IntKind.i64.wrap (x.tdiv (8:Int))),.int .i64 (IntKind.i64.wrap (y.tdiv (8:Int)))]) (hL []) 3),
  ([((x.tmod (8:Int) != (0:Int)),true),((decide (x < (0:Int))),false),((y.tmod (8:Int) != (0:Int)),false)],
   [((8:Int) ≠ (0:Int)),((8:Int) ≠ (0:Int)),((8:Int) ≠ (0:Int)),((8:Int) ≠ (0:Int))],
   .ret (.agg [.int .i64 (IntKind.i64.wrap (x.tdiv (8:Int))),.int .i64 (IntKind.i64.wrap (y.tdiv (8:Int)))]) (hL []) 3),
  ([((x.tmod (8:Int) != (0:Int)),false),((y.tmod (8:Int) != (0:Int)),true),((decide (y < (0:Int))),true)],
   [((8:Int) ≠ (0:Int)),((8:Int) ≠ (0:Int)),((8:Int) ≠ (0:Int)),((8:Int) ≠ (0:Int))],
   .ret (.agg [.int .i64 (IntKind.i64.wrap (x.tdiv (8:Int))),.int .i64 (IntKind.i64.wrap (IntKind.i64.wrap (y.tdiv (8:Int)) - (1:Int)))]) (hL []) 3),
  ([((x.tmod (8:Int) != (0:Int)),false),((y.tmod (8:Int) != (0:Int)),true),((decide (y < (0:Int))),false)],
   [((8:Int) ≠ (0:Int)),((8:Int) ≠ (0:Int)),((8:Int) ≠ (0:Int)),((8:Int) ≠ (0:Int))],
   .ret (.agg [.int .i64 (IntKind.i64.wrap (x.tdiv (8:Int))),.int .i64 (IntKind.i64.wrap (y.tdiv (8:Int)))]) (hL []) 3),
  ([((x.tmod (8:Int) != (0:Int)),false),((y.tmod (8:Int) != (0:Int)),false)],
   [((8:Int) ≠ (0:Int)),((8:Int) ≠ (0:Int)),((8:Int) ≠ (0:Int)),((8:Int) ≠ (0:Int))],
   .ret (.agg [.int .i64 (IntKind.i64.wrap (x.tdiv (8:Int))),.int .i64 (IntKind.i64.wrap (y.tdiv (8:Int)))]) (hL []) 3)]
 :=RunIs.of (by kernel_rfl) (by kernel_rfl) (by kernel_rfl)
theorem wi_1 (x y:Int):∃ L,RunIs Tryz.prog (csH W1 []) [(5,.split),(9,.split),(14,.split)] 1000 3 Tryz.f112 [] (cdWi) (startSt [.agg [iX x,iX y]] .nil 3) L
  [([((decide (x ≥ (-8192:Int))),true),((decide (x ≤ (8191:Int))),true),((decide (y ≥ (-8192:Int))),true)],
   [],
   .ret (.bool (decide (y ≤ (8191:Int)))) (hL []) 3),
  ([((decide (x ≥ (-8192:Int))),true),((decide (x ≤ (8191:Int))),true),((decide (y ≥ (-8192:Int))),false)],
   [],
   .ret (.bool false) (hL []) 3),
  ([((decide (x ≥ (-8192:Int))),true),((decide (x ≤ (8191:Int))),false)],
   [],
   .ret (.bool false) (hL []) 3),
  ([((decide (x ≥ (-8192:Int))),false)],
   [],
   .ret (.bool false) (hL []) 3)]
 :=RunIs.of (by kernel_rfl) (by kernel_rfl) (by kernel_rfl)
theorem le_1 (x y z w:Int):∃ L,RunIs Tryz.prog (csH W1 []) [(9,.split),(15,.split)] 1000 3 Tryz.f127 [] (cdLe) (startSt [.agg [iX x,iX y],.agg [iX z,iX w]] .nil 3) L
  [([((decide (y < w)),true)],
   [],
   .ret (.bool true) (hL []) 3),
  ([((decide (y < w)),false),((y == w),true)],
   [],
   .ret (.bool (decide (x < z))) (hL []) 3),
  ([((decide (y < w)),false),((y == w),false)],
   [],
   .ret (.bool false) (hL []) 3)]
 :=RunIs.of (by kernel_rfl) (by kernel_rfl) (by kernel_rfl)
end Go.Proofs.YtmjggdmekboefaaGreatDoor
namespace Go.Proofs.YtmjggdmekboefaaGreatDoor
open Go Go.Eng
theorem deepT {f:FuncId} {fn:Func} {args:List V} {v:V} (hf:Tryz.prog.funcs[f]? =some fn) (hT:TG Tryz.prog gN fn.ntmps (bodyOf fn) (startSt args .nil gN) (RetG Tryz.prog gN fn fun u _ _=>u=v))
  (hdp:V.deeps args=true:=by kernel_rfl) (hv:v.deep=true:=by kernel_rfl) (hb:fn.body=some (bodyOf fn):=by kernel_rfl) (l:(Nat.ble args.length fn.ntmps && Nat.blt fn.ntmps top)=true:=by kernel_rfl):DeepTo Tryz.prog f args v:=
 deep_calls mo po hf hb l hdp hv (TG_mono hT fun _ _ ⟨hy,u,h,n,e,q⟩=>⟨hy,u,h,n,e,q ▸ .self⟩)
theorem deepN {f:FuncId} {fn:Func} {args:List V} {v:V} (hf:Tryz.prog.funcs[f]? =some fn) (hT:TG Tryz.prog gN fn.ntmps (bodyOf fn) (startSt args .nil gN) (RetG Tryz.prog gN fn (FzN v)))
  (hdp:V.deeps args=true:=by kernel_rfl) (hb:fn.body=some (bodyOf fn):=by kernel_rfl) (l:(Nat.ble args.length fn.ntmps && Nat.blt fn.ntmps top)=true:=by kernel_rfl):DeepTo Tryz.prog f args v:=
 .ofFz mo po hf hb l hdp hT
theorem pinK {f0:FuncId} {args0:List V} {v:V} {S:CtrW} (hc:DeepTo Tryz.prog f0 args0 v) (hS:CtrWOk Tryz.prog S) (hlt:Nat.blt f0 Tryz.prog.funcs.size=true:=by kernel_rfl):CtrWOk Tryz.prog (pinN f0 args0 v S):=pinN_ok hlt hc hS
theorem tl_len (p:Nat→Int):(tl p).length=256:=by simp [tl]
theorem tl_get (p:Nat→Int) {j:Nat} (h:j < 256):(tl p).getD j 0=p j:=by
 simp [tl,List.getD_eq_getElem?_getD,List.getElem?_map,List.getElem?_range h]
theorem tl_px (p:Nat→Int) {i:Nat} (h:i < 64):aggInts .u8 (tl p) (0+i * 4) 4= .agg [.int .u8 (p (4 * i)),.int .u8 (p (4 * i+1)),.int .u8 (p (4 * i+2)),.int .u8 (p (4 * i+3))]:=by
 show V.agg [.int .u8 ((tl p).getD (0+i * 4+0) 0),.int .u8 ((tl p).getD (0+i * 4+1) 0),.int .u8 ((tl p).getD (0+i * 4+2) 0),.int .u8 ((tl p).getD (0+i * 4+3) 0)]=_
 rw [show 0+i * 4+0=4 * i by omega,show 0+i * 4+1=4 * i+1 by omega,show 0+i * 4+2=4 * i+2 by omega,show 0+i * 4+3=4 * i+3 by omega,tl_get p (by omega),tl_get p (by omega),tl_get p (by omega),tl_get p (by omega)]
noncomputable def cD (p:Prop):Bool:=@decide p (Classical.propDecidable p)
theorem cD_t {p:Prop} (h:p):cD p=true:=@decide_eq_true p (Classical.propDecidable p) h
theorem cD_f {p:Prop} (h:¬ p):cD p=false:=@decide_eq_false p (Classical.propDecidable p) h
theorem vT {p:Prop} (h:p):V.bool true= .bool (cD p):=by rw [cD_t h]
theorem vF {p:Prop} (h:¬ p):V.bool false= .bool (cD p):=by rw [cD_f h]
noncomputable def zeroT (p:Nat→Int):Bool:=cD (∀ i,i < 64→p (4 * i+3)=0)
noncomputable def sameT (p q:Nat→Int):Bool:=cD (∀ j,j < 256→p j=q j)
theorem d64 {i:Nat} (h:decide (Int.ofNat i < (64:Int))=true):i < 64:=by have:=of_decide_eq_true h; simp only [hOn] at this; omega
theorem n64 {i:Nat} (h:decide (Int.ofNat i < (64:Int))=false):64 ≤ i:=by have:=of_decide_eq_false h; simp only [hOn] at this; omega
theorem b64 {i:Nat} (h:i < 64):(0:Int) ≤ Int.ofNat i∧Int.ofNat i < (64:Int):=⟨Int.natCast_nonneg _,by rw [hOn]; omega⟩
theorem lsub {n i:Nat} (h:i < n):n - (i+1) < n - i:=by omega
theorem zeroD (p:Nat→Int):DeepTo Tryz.prog 124 [tlV p] (.bool (zeroT p)):=by
 refine deepT Tryz.func124 ?_
 refine isE1 1 W1_ok (ze_1 p) all_nil (TG_own [(3,.u8)] (s2:=stG [(1,.ptr (some (3,0)))] (hL [(3,.own .u8 (tl p))]) 4) (by kernel_rfl) ?_)
 refine loopF W1_ok 0 _ [1,3] (64 - ·) (fun i=>i ≤ 64∧∀ k,k < i→p (4 * k+3)=0) (sZe (tl p)) 0 ⟨by decide,fun _ h=>absurd h (Nat.not_lt_zero _)⟩ (ze_2 (tl p)) all_nil .refl fun i ⟨hi,hz⟩=>?_
 refine ⟨_,W1_ok,[],_,_,ze_3 (tl p) i (p (4 * i+3)),gcons (g2 fun h1 h2=>?_) (gcons (g2 fun h1 h2=>?_) (gone (g1 fun h=>?_)))⟩
 · have hlt:=d64 h1
   refine ⟨fm (b64 hlt) (fm (by rw [tl_len]; omega) (fm1 (congrArg _ (by rw [show 0+i * 4+3=4 * i+3 by omega]; exact tl_get p (by omega))))),?_⟩
   exact vF fun h=>absurd (h i hlt) (by simpa using h2)
 · have hlt:=d64 h1
   exact ⟨fm (b64 hlt) (fm (by rw [tl_len]; omega) (fm (congrArg _ (by rw [show 0+i * 4+3=4 * i+3 by omega]; exact tl_get p (by omega))) (fm1 (vsuc (by omega))))),i+1,lsub hlt,⟨by omega,fun k hk=>by
    rcases Nat.lt_or_ge k i with q | q
    · exact hz k q
    · obtain rfl:k=i:=by omega
      simpa using h2⟩,.refl⟩
 · have:=n64 h
   obtain rfl:i=64:=by omega
   refine ⟨all_nil,rfl,retE W1_ok (ze_4 _) (gone (g0 ⟨all_nil,_,_,_,rfl,vT hz⟩))⟩
theorem sameD (p q:Nat→Int):DeepTo Tryz.prog 125 [tlV p,tlV q] (.bool (sameT p q)):=by
 refine deepT Tryz.func125 ?_
 refine isE1 1 W1_ok (sm_1 p q) all_nil (TG_own [(3,.u8),(4,.u8)] (s2:=stG [(2,.ptr (some (3,0))),(3,.ptr (some (4,0)))] (hL [(3,.own .u8 (tl p)),(4,.own .u8 (tl q))]) 5) (by kernel_rfl) ?_)
 refine loopF W1_ok 0 _ [2,3,5] (64 - ·) (fun i=>i ≤ 64∧∀ k,k < 4 * i→p k=q k) (sSm (tl p) (tl q)) 0 ⟨by decide,fun _ h=>absurd h (Nat.not_lt_zero _)⟩ (sm_2 (tl p) (tl q)) all_nil .refl fun i ⟨hi,hz⟩=>?_
 have A (hlt:i < 64):=fun {l} (t:∀ a ∈ l,a)=>fm (b64 hlt) (fm (show 0+i * 4+4 ≤ (tl p).length by rw [tl_len]; omega) (fm (tl_px p hlt) (fm (b64 hlt) (fm (show 0+i * 4+4 ≤ (tl q).length by rw [tl_len]; omega) (fm (tl_px q hlt) t)))))
 refine ⟨_,W1_ok,[],_,_,sm_3 (tl p) (tl q) i (p (4 * i)) (p (4 * i+1)) (p (4 * i+2)) (p (4 * i+3)) (q (4 * i)) (q (4 * i+1)) (q (4 * i+2)) (q (4 * i+3)),gcons (g2 fun h1 h2=>?_) (gcons (g2 fun h1 h2=>?_) (gone (g1 fun h=>?_)))⟩
 · have hlt:=d64 h1
   refine ⟨A hlt all_nil,?_⟩
   refine vF fun h=>?_
   rw [h (4 * i) (by omega),h (4 * i+1) (by omega),h (4 * i+2) (by omega),h (4 * i+3) (by omega)] at h2
   simp at h2
 · have hlt:=d64 h1
   refine ⟨A hlt (fm1 (vsuc (by omega))),i+1,lsub hlt,⟨by omega,fun k hk=>?_⟩,.refl⟩
   simp only [Bool.not_eq_false',Bool.and_eq_true,beq_iff_eq,and_true] at h2
   rcases Nat.lt_or_ge k (4 * i) with z | z
   · exact hz k z
   · rcases (by omega:k=4 * i ∨ k=4 * i+1 ∨ k=4 * i+2 ∨ k=4 * i+3) with rfl | rfl | rfl | rfl
     · exact h2.1
     · exact h2.2.1
     · exact h2.2.2.1
     · exact h2.2.2.2
 · have:=n64 h
   obtain rfl:i=64:=by omega
   refine ⟨all_nil,rfl,retE W1_ok (sm_4 _ _) (gone (g0 ⟨all_nil,_,_,_,rfl,vT hz⟩))⟩
end Go.Proofs.YtmjggdmekboefaaGreatDoor
namespace Go.Proofs.YtmjggdmekboefaaGreatDoor
open Go Go.Eng
def cl (a r:Int):Int:=if a=0 then 0 else r
def fl8 (x:Int):Int:=if x.tmod 8 ≠ 0∧x < 0 then IntKind.i64.wrap (IntKind.i64.wrap (x.tdiv 8) - 1) else IntKind.i64.wrap (x.tdiv 8)
def in8 (x y:Int):Bool:=decide (x ≥ (-8192:Int)) && (decide (x ≤ (8191:Int)) && (decide (y ≥ (-8192:Int)) && decide (y ≤ (8191:Int))))
def le8 (x y z w:Int):Bool:=decide (y < w) || ((y == w) && decide (x < z))
def specCn:List V→Option (List Prop × V)
 | [.agg [.int .u8 r,.int .u8 g,.int .u8 b,.int .u8 a]]=>some ([],.agg [.int .u8 (cl a r),.int .u8 (cl a g),.int .u8 (cl a b),.int .u8 (cl a a)])
 | _=>none
def specAt:List V→Option (List Prop × V)
 | [.int .i64 x,.int .i64 y]=>some ([],.agg [iX (fl8 x),iX (fl8 y)])
 | _=>none
def specWi:List V→Option (List Prop × V)
 | [.agg [.int .i64 x,.int .i64 y]]=>some ([],.bool (in8 x y))
 | _=>none
def specLe:List V→Option (List Prop × V)
 | [.agg [.int .i64 x,.int .i64 y],.agg [.int .i64 z,.int .i64 w]]=>some ([],.bool (le8 x y z w))
 | _=>none
theorem one_Cn:OneW Tryz.prog 24 (pureW specCn):=by
 refine pureT Tryz.func24 fun args A v e=>?_
 unfold specCn at e
 split at e
 case h_2=>cases e
 rename_i r g b a
 obtain ⟨rfl,rfl⟩:=sm e
 refine ⟨rfl,rfl,rfl,fun _=>retE W1_ok (cn_1 r g b a) (gcons (g1 fun h=>⟨all_nil,_,_,_,rfl,?_⟩) (gone (g1 fun h=>⟨all_nil,_,_,_,rfl,?_⟩)))⟩
 · have h:a=0:=by simpa using h
   simp only [cl,if_pos h]
 · have h:¬ a=0:=by simpa using h
   simp only [cl,if_neg h]
theorem one_At:OneW Tryz.prog 83 (pureW specAt):=by
 refine pureT Tryz.func83 fun args A v e=>?_
 unfold specAt at e
 split at e
 case h_2=>cases e
 rename_i x y
 obtain ⟨rfl,rfl⟩:=sm e
 refine ⟨rfl,rfl,rfl,fun _=>retE W1_ok (at_1 x y) fun g hg hc=>?_⟩
 simp only [List.mem_cons,List.not_mem_nil,or_false] at hg
 rcases hg with rfl | rfl | rfl | rfl | rfl | rfl | rfl | rfl | rfl
 all_goals
  simp only [List.mem_cons,List.not_mem_nil,or_false,forall_eq_or_imp,forall_eq,decide_eq_true_eq,decide_eq_false_iff_not,bne_iff_ne,ne_eq,Bool.not_eq_true,bne_eq_false_iff_eq] at hc
  refine ⟨fun a ha=>by simp only [List.mem_cons,List.not_mem_nil,or_false,or_self] at ha; subst ha; decide,_,_,_,rfl,?_⟩
  simp [fl8,hc]
theorem one_Wi:OneW Tryz.prog 112 (pureW specWi):=by
 refine pureT Tryz.func112 fun args A v e=>?_
 unfold specWi at e
 split at e
 case h_2=>cases e
 rename_i x y
 obtain ⟨rfl,rfl⟩:=sm e
 refine ⟨rfl,rfl,rfl,fun _=>retE W1_ok (wi_1 x y) (gcons (g3 fun h h2 h3=>⟨all_nil,_,_,_,rfl,?_⟩) (gcons (g3 fun h h2 h3=>⟨all_nil,_,_,_,rfl,?_⟩) (gcons (g2 fun h h2=>⟨all_nil,_,_,_,rfl,?_⟩) (gone (g1 fun h=>⟨all_nil,_,_,_,rfl,?_⟩)))))⟩ <;> simp only [in8, *,Bool.true_and,Bool.false_and]
theorem one_Le:OneW Tryz.prog 127 (pureW specLe):=by
 refine pureT Tryz.func127 fun args A v e=>?_
 unfold specLe at e
 split at e
 case h_2=>cases e
 rename_i x y z w
 obtain ⟨rfl,rfl⟩:=sm e
 refine ⟨rfl,rfl,rfl,fun _=>retE W1_ok (le_1 x y z w) (gcons (g1 fun h=>⟨all_nil,_,_,_,rfl,?_⟩) (gcons (g2 fun h h2=>⟨all_nil,_,_,_,rfl,?_⟩) (gone (g2 fun h h2=>⟨all_nil,_,_,_,rfl,?_⟩))))⟩ <;> simp only [le8, *,Bool.true_and,Bool.false_and,Bool.true_or,Bool.false_or]
noncomputable abbrev W2:CtrW:=addW 24 (pureW specCn) (addW 83 (pureW specAt) (addW 112 (pureW specWi) (addW 127 (pureW specLe) W1)))
theorem W2_ok:CtrWOk Tryz.prog W2:=addW_ok one_Cn (addW_ok one_At (addW_ok one_Wi (addW_ok one_Le W1_ok)))
def in0 (x y:Int):Bool:=decide (x ≥ (0:Int)) && (decide (x < (8:Int)) && (decide (y ≥ (0:Int)) && decide (y < (8:Int))))
def specIn:List V→Option (List Prop × V)
 | [.int .i64 x,.int .i64 y]=>some ([],.bool (in0 x y))
 | _=>none
noncomputable abbrev cdIn:Code:=bodyOf Tryz.f115
theorem in_1 (x y:Int):∃ L,RunIs Tryz.prog (csH W1 []) [(6,.split),(9,.split),(13,.split)] 1000 3 Tryz.f115 [] (cdIn) (startSt [iX x,iX y] .nil 3) L
  [([((decide (x ≥ (0:Int))),true),((decide (x < (8:Int))),true),((decide (y ≥ (0:Int))),true)],
   [],
   .ret (.bool (decide (y < (8:Int)))) (hL []) 3),
  ([((decide (x ≥ (0:Int))),true),((decide (x < (8:Int))),true),((decide (y ≥ (0:Int))),false)],
   [],
   .ret (.bool false) (hL []) 3),
  ([((decide (x ≥ (0:Int))),true),((decide (x < (8:Int))),false)],
   [],
   .ret (.bool false) (hL []) 3),
  ([((decide (x ≥ (0:Int))),false)],
   [],
   .ret (.bool false) (hL []) 3)]
 :=RunIs.of (by kernel_rfl) (by kernel_rfl) (by kernel_rfl)
theorem one_In:OneW Tryz.prog 115 (pureW specIn):=by
 refine pureT Tryz.func115 fun args A v e=>?_
 unfold specIn at e
 split at e
 case h_2=>cases e
 rename_i x y
 obtain ⟨rfl,rfl⟩:=sm e
 refine ⟨rfl,rfl,rfl,fun _=>retE W1_ok (in_1 x y) (gcons (g3 fun h h2 h3=>⟨all_nil,_,_,_,rfl,?_⟩) (gcons (g3 fun h h2 h3=>⟨all_nil,_,_,_,rfl,?_⟩) (gcons (g2 fun h h2=>⟨all_nil,_,_,_,rfl,?_⟩) (gone (g1 fun h=>⟨all_nil,_,_,_,rfl,?_⟩)))))⟩ <;> simp only [in0, *,Bool.true_and,Bool.false_and]
noncomputable abbrev W3:CtrW:=addW 115 (pureW specIn) W2
theorem W3_ok:CtrWOk Tryz.prog W3:=addW_ok one_In W2_ok
noncomputable abbrev cdCl:Code:=bodyOf Tryz.f126
noncomputable abbrev tlCl:Code:=tailN 1 cdCl
noncomputable abbrev cdSt:Code:=bodyOf Tryz.f86
def sCl (ks:List Int) (i:Nat):St:=stG [(1,.ptr (some (3,0))),(2,.ptr (some (4,0))),(3,iW i)] (hL [(3,.own .u8 ks),(4,.own .u8 (List.replicate 256 0))]) 5
theorem cl_1 (p:Nat→Int):∃ L,RunIs Tryz.prog (csH W2 []) [] 1000 3 Tryz.f126 [1,2] (headN 1 cdCl) (startSt [tlV p] .nil 3) L
  [([],
   [],
   .to .normal (stG [(1,.ptr (some (3,0))),(2,.ptr (some (4,0)))] (hL [(3,.cells (D.toVs (tcs p))),(4,.cells (List.replicate 256 (.int .u8 0)))]) 5))]
 :=RunIs.of (by kernel_rfl) (by kernel_rfl) (by kernel_rfl)
theorem cl_2 (ks:List Int):∃ L,RunIs Tryz.prog (csH W2 []) [] 1000 3 Tryz.f126 [1,2,3] (seqL (seqL tlCl)) (stG [(1,.ptr (some (3,0))),(2,.ptr (some (4,0)))] (hL [(3,.own .u8 ks),(4,.own .u8 (List.replicate 256 0))]) 5) L
  [([],
   [],
   .to .normal (sCl ks 0))]
 :=RunIs.of (by kernel_rfl) (by kernel_rfl) (by kernel_rfl)
theorem cl_3 (ks:List Int) (i:Nat) (r g b a:Int):∃ L,RunIs Tryz.prog (csH W2 []) [(5,.split),(11,.give (.agg [.int .u8 r,.int .u8 g,.int .u8 b,.int .u8 a])),(7,.give (iW (i+1)))] 1000 3 Tryz.f126 [1,2,3] (inner (inner (seqR (seqL tlCl)))) (sCl ks i) L
  [([((decide (Int.ofNat i < (64:Int))),true)],
   [((0:Int) ≤ Int.ofNat i∧Int.ofNat i < (64:Int)),(0+i * 4+4 ≤ ks.length),(aggInts IntKind.u8 ks (0+i * 4) 4=V.agg [V.int IntKind.u8 r,V.int IntKind.u8 g,V.int IntKind.u8 b,V.int IntKind.u8 a]),((0:Int) ≤ Int.ofNat i∧Int.ofNat i < (64:Int)),(0+i * 4+4 ≤ ks.length),(V.int IntKind.i64 (IntKind.i64.wrap (Int.ofNat i+(1:Int)))=iW (i+1))],
   .to .normal (sCl (putI ks (0+i * 4) [cl a r,cl a g,cl a b,cl a a]) (i+1))),
  ([((decide (Int.ofNat i < (64:Int))),false)],
   [],
   .to (.exit 0) (sCl ks i))]
 :=RunIs.of (by kernel_rfl) (by kernel_rfl) (by kernel_rfl)
theorem cl_4 (ks:List Int):RunE (csH W2 []) [] 3 Tryz.f126 [] (seqR tlCl) (sCl ks 64) [([],[256 ≤ ks.length,256 ≤ 256],.ret (aggInts .u8 ks 0 256) (hL []) 3)]:=RunIs.of (by kernel_rfl) (by kernel_rfl) (by kernel_rfl)
theorem st_1 (p:Nat→Int) (x y r g b a:Int):∃ L,RunIs Tryz.prog (csH W2 []) [] 1000 3 Tryz.f86 [1,2,4,7,8] (headN 1 cdSt) (startSt [tlV p,iX x,iX y,.agg [.int .u8 r,.int .u8 g,.int .u8 b,.int .u8 a]] .nil 3) L
  [([],
   [],
   .to .normal (stG [(1,iX x),(2,iX y),(4,.ptr (some (3,0))),(7,.ptr (some (4,0))),(8,.ptr (some (5,0)))] (hL [(3,.cells (D.toVs (tcs p))),(4,.cells [.int .u8 r,.int .u8 g,.int .u8 b,.int .u8 a]),(5,.cells (List.replicate 256 (.int .u8 0)))]) 6))]
 :=RunIs.of (by kernel_rfl) (by kernel_rfl) (by kernel_rfl)
def sSt (ks:List Int):St:=stG [(4,.ptr (some (3,0))),(8,.ptr (some (4,0)))] (hL [(3,.own .u8 ks),(4,.own .u8 (List.replicate 256 0))]) 5
theorem st_2 (ks:List Int) (x y r g b a:Int) (o:Nat):∃ L,RunIs Tryz.prog (csH W3 []) [(11,.split),(15,.give (iW o))] 1000 3 Tryz.f86 [4,8] (headN 1 (tailN 1 cdSt)) (stG [(1,iX x),(2,iX y),(4,.ptr (some (3,0))),(7,.ptr (some (4,0))),(8,.ptr (some (5,0)))] (hL [(3,.own .u8 ks),(4,.cells [.int .u8 r,.int .u8 g,.int .u8 b,.int .u8 a]),(5,.own .u8 (List.replicate 256 0))]) 6) L
  [([((in0 x y),true)],
   [(V.int IntKind.i64 (IntKind.i64.wrap (IntKind.i64.wrap ((8:Int) * y)+x))=iW o),((0:Int) ≤ Int.ofNat o∧Int.ofNat o < (64:Int)),(0+o * 4+4 ≤ ks.length)],
   .to .normal (sSt (putI ks (0+o * 4) [r,g,b,a]))),
  ([((in0 x y),false)],
   [],
   .to .normal (sSt ks))]
 :=RunIs.of (by kernel_rfl) (by kernel_rfl) (by kernel_rfl)
theorem st_3 (ks:List Int):RunE (csH W3 []) [] 3 Tryz.f86 [] (tailN 1 (tailN 1 cdSt)) (sSt ks) [([],[256 ≤ ks.length,256 ≤ 256],.ret (aggInts .u8 ks 0 256) (hL []) 3)]:=RunIs.of (by kernel_rfl) (by kernel_rfl) (by kernel_rfl)
end Go.Proofs.YtmjggdmekboefaaGreatDoor
namespace Go.Proofs.YtmjggdmekboefaaGreatDoor
open Go Go.Eng
def clnT (p:Nat→Int) (j:Nat):Int:=cl (p (4 * (j / 4)+3)) (p j)
theorem tlV_agg (p:Nat→Int):aggInts .u8 (tl p) 0 256=tlV p:=by
 unfold aggInts tlV tcs
 rw [D.toVs_map,List.map_map]
 refine congrArg V.agg (List.map_congr_left fun j hj=>?_)
 rw [Nat.zero_add,tl_get p (List.mem_range.1 hj)]; rfl
theorem tl_congr {p q:Nat→Int} (h:∀ j,j < 256→p j=q j):tl p=tl q:=List.map_congr_left fun j hj=>h j (List.mem_range.1 hj)
theorem tlV_congr {p q:Nat→Int} (h:∀ j,j < 256→p j=q j):tlV p=tlV q:=by rw [← tlV_agg,← tlV_agg,tl_congr h]
theorem tl_at (f:Nat→Int) (j:Nat):(tl f)[j]? =if j < 256 then some (f j) else none:=by
 unfold tl
 rw [List.getElem?_map]
 by_cases c:j < 256
 · rw [if_pos c,List.getElem?_range c]; rfl
 · rw [if_neg c,List.getElem?_eq_none (by rw [List.length_range]; omega)]; rfl
theorem tl_put {f k:Nat→Int} {i:Nat} (hi:i < 64) {r g b a:Int} (h0:k (4 * i)=r) (h1:k (4 * i+1)=g) (h2:k (4 * i+2)=b) (h3:k (4 * i+3)=a) (hn:∀ j,j < 256→j / 4 ≠ i→k j=f j):putI (tl f) (0+i * 4) [r,g,b,a]=tl k:=by
 have e:0+i * 4=4 * i:=by omega
 rw [e]
 refine List.ext_getElem? fun j=>?_
 unfold putI
 rw [List.getElem?_append,List.getElem?_append,List.length_take,tl_len,Nat.min_eq_left (show 4 * i ≤ 256 by omega),tl_at]
 by_cases c1:j < 4 * i
 · rw [if_pos c1,List.getElem?_take,if_pos c1,tl_at,if_pos (by omega),if_pos (by omega),hn j (by omega) (by omega)]
 · rw [if_neg c1]
   by_cases c2:j < 4 * i+4
   · rw [if_pos (by simp only [List.length_cons,List.length_nil]; omega),if_pos (by omega)]
     rcases (by omega:j=4 * i ∨ j=4 * i+1 ∨ j=4 * i+2 ∨ j=4 * i+3) with rfl | rfl | rfl | rfl
     · rw [h0,Nat.sub_self]; rfl
     · rw [h1,Nat.add_sub_cancel_left]; rfl
     · rw [h2,Nat.add_sub_cancel_left]; rfl
     · rw [h3,Nat.add_sub_cancel_left]; rfl
   · rw [if_neg (by simp only [List.length_cons,List.length_nil]; omega),List.getElem?_drop,tl_at]
     simp only [List.length_cons,List.length_nil]
     rw [show 4 * i+(0+1+1+1+1)+(j - 4 * i - (0+1+1+1+1))=j by omega]
     by_cases c3:j < 256
     · rw [if_pos c3,if_pos c3,hn j c3 (by omega)]
     · rw [if_neg c3,if_neg c3]
theorem cleanD (p:Nat→Int):DeepTo Tryz.prog 126 [tlV p] (tlV (clnT p)):=by
 refine deepT Tryz.func126 ?_
 refine isE1 1 W2_ok (cl_1 p) all_nil (TG_own [(3,.u8),(4,.u8)] (s2:=stG [(1,.ptr (some (3,0))),(2,.ptr (some (4,0)))] (hL [(3,.own .u8 (tl p)),(4,.own .u8 (List.replicate 256 0))]) 5) (by kernel_rfl) ?_)
 refine loopF W2_ok 0 _ [1,2,3] (64 - ·) (· ≤ 64) (fun i=>sCl (tl fun j=>if j < 4 * i then clnT p j else p j) i) 0 (by decide) (cl_2 (tl p)) all_nil (by
  rw [tl_congr (q:=p) fun j _=>if_neg (by omega)]; exact .refl) fun i hi=>?_
 refine ⟨_,W2_ok,[],_,_,cl_3 _ i (p (4 * i)) (p (4 * i+1)) (p (4 * i+2)) (p (4 * i+3)),gcons (g1 fun h1=>?_) (gone (g1 fun h=>?_))⟩
 · have hlt:=d64 h1
   refine ⟨fm (b64 hlt) (fm (by rw [tl_len]; omega) (fm ?_ (fm (b64 hlt) (fm (by rw [tl_len]; omega) (fm1 (vsuc (by omega))))))),i+1,lsub hlt,by show i+1 ≤ 64; omega,?_⟩
   · rw [tl_px _ hlt,if_neg (by omega),if_neg (by omega),if_neg (by omega),if_neg (by omega)]
   · rw [tl_put (k:=fun j=>if j < 4 * (i+1) then clnT p j else p j) hlt]
     · exact .refl
     all_goals first
      | (rw [if_pos (by omega)]; unfold clnT; congr 2; omega)
      | skip
     intro j _ hj
     by_cases c:j < 4 * i
     · rw [if_pos c,if_pos (by omega)]
     · rw [if_neg c,if_neg (by omega)]
 · have:=n64 h
   obtain rfl:i=64:=by omega
   refine ⟨all_nil,rfl,retE W2_ok (cl_4 _) (gone (g0 ⟨fm (by rw [tl_len]; omega) (fm1 (by decide)),_,_,_,rfl,?_⟩))⟩
   rw [tlV_agg]
   exact tlV_congr fun j hj=>if_pos (by omega)
def setT (p:Nat→Int) (x y r g b a:Int) (j:Nat):Int:=if in0 x y=true∧j / 4=(8 * y+x).toNat then (if j % 4=0 then r else if j % 4=1 then g else if j % 4=2 then b else a) else p j
theorem setD (p:Nat→Int) (x y r g b a:Int):DeepTo Tryz.prog 86 [tlV p,iX x,iX y,.agg [.int .u8 r,.int .u8 g,.int .u8 b,.int .u8 a]] (tlV (setT p x y r g b a)):=by
 refine deepT Tryz.func86 ?_
 refine isE1 1 W2_ok (st_1 p x y r g b a) all_nil (TG_own [(3,.u8),(5,.u8)] (s2:=stG [(1,iX x),(2,iX y),(4,.ptr (some (3,0))),(7,.ptr (some (4,0))),(8,.ptr (some (5,0)))] (hL [(3,.own .u8 (tl p)),(4,.cells [.int .u8 r,.int .u8 g,.int .u8 b,.int .u8 a]),(5,.own .u8 (List.replicate 256 0))]) 6) (by kernel_rfl) ?_)
 have fin (q:Nat→Int) (hq:∀ j,j < 256→q j=setT p x y r g b a j):TG Tryz.prog 3 Tryz.f86.ntmps (tailN 1 (tailN 1 cdSt)) (sSt (tl q)) (RetG Tryz.prog 3 Tryz.f86 fun u _ _=>u=tlV (setT p x y r g b a)):=
  retE W3_ok (st_3 _) (gone (g0 ⟨fm (by rw [tl_len]; omega) (fm1 (by decide)),_,_,_,rfl,by rw [tlV_agg]; exact tlV_congr hq⟩))
 by_cases h:in0 x y=true
 · have hb:0 ≤ x∧x < 8∧0 ≤ y∧y < 8:=by simpa [in0] using h
   have hlt:(8 * y+x).toNat < 64:=by omega
   refine isEN 1 W3_ok (st_2 (tl p) x y r g b a (8 * y+x).toNat) (gcons (g1 fun _=>⟨fm ?_ (fm (b64 hlt) (fm1 (by rw [tl_len]; omega))),_,rfl,?_⟩) (gone (g1 fun h2=>by rw [h] at h2; cases h2)))
   · rw [wrap_id (x:=8 * y) (by omega) (by omega)]
     exact ieq_ok (by omega) (by omega)
   · rw [tl_put (k:=setT p x y r g b a) hlt]
     · exact fin _ fun _ _=>rfl
     all_goals first
      | (unfold setT; rw [if_pos ⟨h,by omega⟩]; simp [Nat.mul_add_mod]; done)
      | skip
     intro j _ hj
     exact if_neg fun q=>hj q.2
 · have h:in0 x y=false:=by simpa using h
   exact isEN 1 W3_ok (st_2 (tl p) x y r g b a 0) (gcons (g1 fun h2=>by rw [h] at h2; cases h2) (gone (g1 fun _=>⟨all_nil,_,rfl,fin _ fun j _=>(if_neg fun q=>by rw [h] at q; cases q.1).symm⟩)))
end Go.Proofs.YtmjggdmekboefaaGreatDoor
namespace Go.Proofs.YtmjggdmekboefaaGreatDoor
open Go Go.Eng
structure Tl where
 x:Int
 y:Int
 p:Nat→Int
def Tl.d (t:Tl):List D:=.int .i64 t.x :: .int .i64 t.y :: tcs t.p
def tlD (l:List Tl):List D:=(l.map Tl.d).flatten
def rasV (l:List Tl):V:=.agg [.lst false l.length (tlD l)]
def tz:Nat→Int:=fun _=>0
noncomputable abbrev cdTi:Code:=bodyOf Tryz.f84
noncomputable abbrev tlTi:Code:=tailN 1 cdTi
noncomputable abbrev cdVa8:Code:=bodyOf Tryz.f100
noncomputable abbrev tlVa8:Code:=tailN 2 cdVa8
def pxC (p:Nat→Int):O:=.cells (D.toVs (tcs p))
def sTi (n:Nat) (cs:List D) (x y:Int) (i:Nat):St:=stG [(2,.ptr (some (3,0))),(3,.ptr (some (4,0))),(4,.ptr (some (5,0))),(5,iW i)] (hL [(3,.cells [.lst false n cs]),(4,.cells [iX x,iX y]),(5,pxC tz)]) 6
theorem ti_1 (n:Nat) (cs:List D) (x y:Int):∃ L,RunIs Tryz.prog (csH W3 []) [] 1000 3 Tryz.f84 [2,3,4] (headN 1 cdTi) (startSt [.agg [.lst false n cs],.agg [iX x,iX y]] .nil 3) L
  [([],
   [],
   .to .normal (stG [(2,.ptr (some (3,0))),(3,.ptr (some (4,0))),(4,.ptr (some (5,0)))] (hL [(3,.cells [.lst false n cs]),(4,.cells [iX x,iX y]),(5,pxC tz)]) 6))]
 :=RunIs.of (by kernel_rfl) (by kernel_rfl) (by kernel_rfl)
theorem ti_2 (n:Nat) (cs:List D) (x y:Int):∃ L,RunIs Tryz.prog (csH W3 []) [] 1000 3 Tryz.f84 [2,3,4,5] (seqL (seqL tlTi)) (stG [(2,.ptr (some (3,0))),(3,.ptr (some (4,0))),(4,.ptr (some (5,0)))] (hL [(3,.cells [.lst false n cs]),(4,.cells [iX x,iX y]),(5,pxC tz)]) 6) L
  [([],
   [],
   .to .normal (sTi n cs x y 0))]
 :=RunIs.of (by kernel_rfl) (by kernel_rfl) (by kernel_rfl)
theorem ti_3 (n:Nat) (cs:List D) (x y:Int) (i:Nat) (t:Tl):∃ L,RunIs Tryz.prog (csH W3 []) [(10,.split),(16,.give (.fptr t.d)),(20,.split),(24,.give (.fptr t.d)),(12,.give (iW (i+1)))] 1000 3 Tryz.f84 [2,3,4,5] (inner (inner (seqR (seqL tlTi)))) (sTi n cs x y i) L
  [([((decide (Int.ofNat i < (Int.ofNat n))),true),((t.x == x && (t.y == y && true)),true)],
   [((0:Int) ≤ Int.ofNat i∧Int.ofNat i < (Int.ofNat n)),(cs.length=n * 258),(V.fptr (cellsAt cs (i * 258) 258)=V.fptr t.d),((0:Int) ≤ Int.ofNat i∧Int.ofNat i < (Int.ofNat n)),(cs.length=n * 258),(V.fptr (cellsAt cs (i * 258) 258)=V.fptr t.d)],
   .ret (tlV t.p) (hL []) 3),
  ([((decide (Int.ofNat i < (Int.ofNat n))),true),((t.x == x && (t.y == y && true)),false)],
   [((0:Int) ≤ Int.ofNat i∧Int.ofNat i < (Int.ofNat n)),(cs.length=n * 258),(V.fptr (cellsAt cs (i * 258) 258)=V.fptr t.d),(V.int IntKind.i64 (IntKind.i64.wrap (Int.ofNat i+(1:Int)))=iW (i+1))],
   .to .normal (sTi n cs x y (i+1))),
  ([((decide (Int.ofNat i < (Int.ofNat n))),false)],
   [],
   .to (.exit 0) (sTi n cs x y i))]
 :=RunIs.of (by kernel_rfl) (by kernel_rfl) (by kernel_rfl)
theorem ti_4 (n:Nat) (cs:List D) (x y:Int) (i:Nat):∃ L,RunIs Tryz.prog (csH W3 []) [] 1000 3 Tryz.f84 [] (seqR tlTi) (sTi n cs x y i) L
  [([],
   [],
   .ret (tlV tz) (hL []) 3)]
 :=RunIs.of (by kernel_rfl) (by kernel_rfl) (by kernel_rfl)
def sV8 (n:Nat) (cs:List D) (i:Nat):St:=stG [(1,.ptr (some (3,0))),(3,iW i)] (hL [(3,.cells [.lst false n cs])]) 4
theorem v8_1 (n:Nat) (cs:List D):∃ L,RunIs Tryz.prog (csH W3 []) [(10,.split)] 1000 3 Tryz.f100 [1] (headN 2 cdVa8) (startSt [.agg [.lst false n cs]] .nil 3) L
  [([((decide ((Int.ofNat n) > (1024:Int))),true)],
   [],
   .ret (.bool false) (hL []) 3),
  ([((decide ((Int.ofNat n) > (1024:Int))),false)],
   [],
   .to .normal (stG [(1,.ptr (some (3,0)))] (hL [(3,.cells [.lst false n cs])]) 4))]
 :=RunIs.of (by kernel_rfl) (by kernel_rfl) (by kernel_rfl)
theorem v8_2 (n:Nat) (cs:List D):∃ L,RunIs Tryz.prog (csH W3 []) [] 1000 3 Tryz.f100 [1,3] (seqL (seqL tlVa8)) (stG [(1,.ptr (some (3,0)))] (hL [(3,.cells [.lst false n cs])]) 4) L
  [([],
   [],
   .to .normal (sV8 n cs 0))]
 :=RunIs.of (by kernel_rfl) (by kernel_rfl) (by kernel_rfl)
noncomputable abbrev WV8 (p:Nat→Int):CtrW:=pinN 124 [tlV p] (.bool (zeroT p)) (pinN 126 [tlV p] (tlV (clnT p)) (pinN 125 [tlV (clnT p),tlV p] (.bool (sameT (clnT p) p)) W3))
theorem WV8_ok (p:Nat→Int):CtrWOk Tryz.prog (WV8 p):=pinK (zeroD p) (pinK (cleanD p) (pinK (sameD (clnT p) p) W3_ok))
abbrev v8_3A1 (i:Nat):Prop:=V.int IntKind.i64 (IntKind.i64.wrap (Int.ofNat i - (1:Int)))=iW (i - 1)
abbrev v8_3A2 (i:Nat):Prop:=V.int IntKind.i64 (IntKind.i64.wrap (Int.ofNat i+(1:Int)))=iW (i+1)
theorem v8_3 (n:Nat) (cs:List D) (i:Nat) (t u:Tl):∃ L,RunIs Tryz.prog (csH (WV8 t.p) []) [(15,.split),(21,.give (.fptr t.d)),(35,.split),(37,.split),(41,.split),(45,.split),(50,.give (iW (i - 1))),(51,.give (.fptr u.d)),(57,.split),(17,.give (iW (i+1)))] 1000 3 Tryz.f100 [1,3] (inner (inner (seqR (seqL tlVa8)))) (sV8 n cs i) L
  [([((decide (Int.ofNat i < (Int.ofNat n))),true),((!in8 t.x t.y),true)],
   [((0:Int) ≤ Int.ofNat i∧Int.ofNat i < (Int.ofNat n)),(cs.length=n * 258),(V.fptr (cellsAt cs (i * 258) 258)=V.fptr t.d),(pinA [tlV t.p]),(pinA [tlV t.p]),(pinA [tlV (clnT t.p),tlV t.p])],
   .ret (.bool false) (hL []) 3),
  ([((decide (Int.ofNat i < (Int.ofNat n))),true),((!in8 t.x t.y),false),((zeroT t.p),true)],
   [((0:Int) ≤ Int.ofNat i∧Int.ofNat i < (Int.ofNat n)),(cs.length=n * 258),(V.fptr (cellsAt cs (i * 258) 258)=V.fptr t.d),(pinA [tlV t.p]),(pinA [tlV t.p]),(pinA [tlV (clnT t.p),tlV t.p])],
   .ret (.bool false) (hL []) 3),
  ([((decide (Int.ofNat i < (Int.ofNat n))),true),((!in8 t.x t.y),false),((zeroT t.p),false),((!sameT (clnT t.p) t.p),true)],
   [((0:Int) ≤ Int.ofNat i∧Int.ofNat i < (Int.ofNat n)),(cs.length=n * 258),(V.fptr (cellsAt cs (i * 258) 258)=V.fptr t.d),(pinA [tlV t.p]),(pinA [tlV t.p]),(pinA [tlV (clnT t.p),tlV t.p])],
   .ret (.bool false) (hL []) 3),
  ([((decide (Int.ofNat i < (Int.ofNat n))),true),((!in8 t.x t.y),false),((zeroT t.p),false),((!sameT (clnT t.p) t.p),false),((decide (Int.ofNat i > (0:Int))),true),((!le8 u.x u.y t.x t.y),true)],
   [((0:Int) ≤ Int.ofNat i∧Int.ofNat i < (Int.ofNat n)),(cs.length=n * 258),(V.fptr (cellsAt cs (i * 258) 258)=V.fptr t.d),(pinA [tlV t.p]),(pinA [tlV t.p]),(pinA [tlV (clnT t.p),tlV t.p]),v8_3A1 i,((0:Int) ≤ Int.ofNat (i - 1)∧Int.ofNat (i - 1) < (Int.ofNat n)),(cs.length=n * 258),(V.fptr (cellsAt cs ((i - 1) * 258) 258)=V.fptr u.d)],
   .ret (.bool false) (hL []) 3),
  ([((decide (Int.ofNat i < (Int.ofNat n))),true),((!in8 t.x t.y),false),((zeroT t.p),false),((!sameT (clnT t.p) t.p),false),((decide (Int.ofNat i > (0:Int))),true),((!le8 u.x u.y t.x t.y),false)],
   [((0:Int) ≤ Int.ofNat i∧Int.ofNat i < (Int.ofNat n)),(cs.length=n * 258),(V.fptr (cellsAt cs (i * 258) 258)=V.fptr t.d),(pinA [tlV t.p]),(pinA [tlV t.p]),(pinA [tlV (clnT t.p),tlV t.p]),v8_3A1 i,((0:Int) ≤ Int.ofNat (i - 1)∧Int.ofNat (i - 1) < (Int.ofNat n)),(cs.length=n * 258),(V.fptr (cellsAt cs ((i - 1) * 258) 258)=V.fptr u.d),v8_3A2 i],
   .to .normal (sV8 n cs (i+1))),
  ([((decide (Int.ofNat i < (Int.ofNat n))),true),((!in8 t.x t.y),false),((zeroT t.p),false),((!sameT (clnT t.p) t.p),false),((decide (Int.ofNat i > (0:Int))),false)],
   [((0:Int) ≤ Int.ofNat i∧Int.ofNat i < (Int.ofNat n)),(cs.length=n * 258),(V.fptr (cellsAt cs (i * 258) 258)=V.fptr t.d),(pinA [tlV t.p]),(pinA [tlV t.p]),(pinA [tlV (clnT t.p),tlV t.p]),v8_3A2 i],
   .to .normal (sV8 n cs (i+1))),
  ([((decide (Int.ofNat i < (Int.ofNat n))),false)],
   [],
   .to (.exit 0) (sV8 n cs i))]
 :=RunIs.of (by kernel_rfl) (by kernel_rfl) (by kernel_rfl)
theorem v8_4 (n:Nat) (cs:List D) (i:Nat):∃ L,RunIs Tryz.prog (csH W3 []) [] 1000 3 Tryz.f100 [] (seqR tlVa8) (sV8 n cs i) L
  [([],
   [],
   .ret (.bool true) (hL []) 3)]
 :=RunIs.of (by kernel_rfl) (by kernel_rfl) (by kernel_rfl)
end Go.Proofs.YtmjggdmekboefaaGreatDoor
namespace Go.Proofs.YtmjggdmekboefaaGreatDoor
open Go Go.Eng
theorem flatW_len {α β:Type} {f:α→List β} {w:Nat} (hf:∀ x,(f x).length=w):∀ l:List α,(l.map f).flatten.length=l.length * w
 | []=>by simp
 | x :: l=>by
   rw [List.map_cons,List.flatten_cons,List.length_append,hf,flatW_len hf l,List.length_cons,Nat.add_mul]; omega
theorem flatW_at {α:Type} {f:α→List D} {w:Nat} (hf:∀ x,(f x).length=w):∀ (l:List α) (i:Nat) (h:i < l.length),cellsAt ((l.map f).flatten) (i * w) w=f l[i]
 | x :: l,0,_=>by
   unfold cellsAt
   rw [Nat.zero_mul,List.drop_zero,List.map_cons,List.flatten_cons,List.take_left' (hf x)]; rfl
 | x :: l,i+1,h=>by
   have ih:=flatW_at hf l i (by simpa using h)
   unfold cellsAt at ih ⊢
   rw [List.map_cons,List.flatten_cons,show (i+1) * w=w+i * w by rw [Nat.add_mul]; omega,← List.drop_drop,List.drop_left' (hf x),ih]; rfl
theorem Tl.d_len (t:Tl):t.d.length=258:=by simp [Tl.d,tcs]
theorem tlD_len (l:List Tl):(tlD l).length=l.length * 258:=flatW_len Tl.d_len l
theorem tlD_at {l:List Tl} {i:Nat} (h:i < l.length):V.fptr (cellsAt (tlD l) (i * 258) 258)= .fptr l[i].d:=congrArg _ (flatW_at Tl.d_len l i h)
def tileF (x y:Int):List Tl→Nat→Int
 | []=>tz
 | t :: l=>if t.x=x∧t.y=y then t.p else tileF x y l
theorem tileF_step {x y:Int} {l:List Tl} {i:Nat} (h:i < l.length):tileF x y (l.drop i)=if l[i].x=x∧l[i].y=y then l[i].p else tileF x y (l.drop (i+1)):=by
 rw [List.drop_eq_getElem_cons h]; rfl
theorem tileD (l:List Tl) (x y:Int) (hl:l.length ≤ 1000000):DeepTo Tryz.prog 84 [rasV l,.agg [iX x,iX y]] (tlV (tileF x y l)):=by
 refine deepT Tryz.func84 ?_
 refine isE1 1 W3_ok (ti_1 l.length (tlD l) x y) all_nil ?_
 refine loopF W3_ok 0 _ [2,3,4,5] (l.length - ·) (fun i=>i ≤ l.length∧tileF x y l=tileF x y (l.drop i)) (sTi l.length (tlD l) x y) 0 ⟨Nat.zero_le _,rfl⟩ (ti_2 _ _ x y) all_nil .refl fun i ⟨hi,hz⟩=>?_
 rcases Nat.lt_or_ge i l.length with hlt | hge
 · rw [tileF_step hlt] at hz
   have hat:=tlD_at hlt
   generalize l[i]=t at hz hat
   refine ⟨_,W3_ok,[],_,_,ti_3 l.length (tlD l) x y i t,gcons (g2 fun h1 h2=>⟨fm (ibd hlt) (fm (tlD_len l) (fm hat (fm (ibd hlt) (fm (tlD_len l) (fm1 hat))))),?_⟩) (gcons (g2 fun h1 h2=>⟨fm (ibd hlt) (fm (tlD_len l) (fm hat (fm1 (vsuc (by omega))))),i+1,lsub hlt,⟨hlt,?_⟩,.refl⟩) (gone (g1 fun h=>absurd (dge h) (by omega))))⟩
   · rw [if_pos (by simpa using h2)] at hz; rw [hz]; rfl
   · rw [if_neg (by simpa using h2)] at hz; exact hz
 · obtain rfl:i=l.length:=by omega
   rw [List.drop_length] at hz
   refine ⟨_,W3_ok,[],_,_,ti_3 l.length (tlD l) x y l.length ⟨0,0,tz⟩,gcons (g2 fun h1 _=>absurd (dlt h1) (by omega)) (gcons (g2 fun h1 _=>absurd (dlt h1) (by omega)) (gone (g1 fun h=>⟨all_nil,rfl,retE W3_ok (ti_4 _ _ x y _) (gone (g0 ⟨all_nil,_,_,_,rfl,by rw [hz]; rfl⟩))⟩)))⟩
def okT (t:Tl):Prop:=in8 t.x t.y=true∧zeroT t.p=false∧sameT (clnT t.p) t.p=true
def okP (l:List Tl) (i:Nat):Prop:=∀ t,l[i]? =some t→okT t∧(0 < i→∀ u,l[i - 1]? =some u→le8 u.x u.y t.x t.y=true)
def validR (l:List Tl):Prop:=l.length ≤ 1024∧∀ i,i < l.length→okP l i
theorem validD (l:List Tl) (hl:l.length ≤ 1000000):DeepTo Tryz.prog 100 [rasV l] (.bool (cD (validR l))):=by
 refine deepT Tryz.func100 ?_
 have bad (h:¬ validR l):V.bool false= .bool (cD (validR l)):=vF h
 refine isH 2 W3_ok (v8_1 l.length (tlD l)) (gcons (g1 fun h=>⟨all_nil,bad fun q=>?_⟩) (gone (g1 fun h0=>⟨all_nil,?_⟩)))
 · have:=of_decide_eq_true h
   have:=q.1
   simp only [hOn] at *; omega
 have hn:l.length ≤ 1024:=by have:=of_decide_eq_false h0; simp only [hOn] at this; omega
 refine loopF W3_ok 0 _ [1,3] (l.length - ·) (fun i=>i ≤ l.length∧∀ k,k < i→okP l k) (sV8 l.length (tlD l)) 0 ⟨Nat.zero_le _,fun _ h=>absurd h (Nat.not_lt_zero _)⟩ (v8_2 _ _) all_nil .refl fun i ⟨hi,hz⟩=>?_
 rcases Nat.lt_or_ge i l.length with hlt | hge
 · have hat:=tlD_at hlt
   have hau:=tlD_at (l:=l) (i:=i - 1) (by omega)
   have ht:l[i]? =some l[i]:=List.getElem?_eq_getElem hlt
   have hu:l[i - 1]? =some (l[i - 1]'(by omega)):=List.getElem?_eq_getElem (by omega)
   generalize l[i]=t at ht hat
   generalize l[i - 1]'(by omega)=u at hu hau
   have A {r:List Prop} (q:∀ a ∈ r,a):=fm (ibd hlt) (fm (tlD_len l) (fm hat (fm (show pinA [tlV t.p] from rfl) (fm (show pinA [tlV t.p] from rfl) (fm (show pinA [tlV (clnT t.p),tlV t.p] from rfl) q)))))
   have B {r:List Prop} (h0:0 < i) (q:∀ a ∈ r,a):=A (fm (ieq_ok (x:=Int.ofNat i - 1) (n:=i - 1) (by rw [hOn]; omega) (by omega)) (fm (ibd (n:=l.length) (show i - 1 < l.length by omega)) (fm (tlD_len l) (fm hau q))))
   have bad (h:¬ okP l i):V.bool false= .bool (cD (validR l)):=bad fun q=>h (q.2 i hlt)
   have go (h:okP l i):∃ x',l.length - x' < l.length - i∧(x' ≤ l.length∧∀ k,k < x'→okP l k)∧Goes Tryz.prog 3 Tryz.f100.ntmps (sV8 l.length (tlD l) (i+1)) (sV8 l.length (tlD l) x'):=⟨i+1,lsub hlt,⟨hlt,fun k hk=>by
    rcases Nat.lt_or_ge k i with q | q
    · exact hz k q
    · obtain rfl:k=i:=by omega
      exact h⟩,.refl⟩
   refine ⟨_,WV8_ok t.p,[],_,_,v8_3 l.length (tlD l) i t u,gcons (g2 fun _ h=>⟨A all_nil,bad fun q=>?_⟩) (gcons (gc fun _=>gc fun _=>g1 fun h=>⟨A all_nil,bad fun q=>?_⟩) (gcons (gc fun _=>gc fun _=>gc fun _=>g1 fun h=>⟨A all_nil,bad fun q=>?_⟩)
    (gcons (gc fun _=>gc fun _=>gc fun _=>gc fun _=>gc fun h0=>g1 fun h=>⟨B (by have:=of_decide_eq_true h0; simp only [hOn] at this; omega) all_nil,bad fun q=>?_⟩) (gcons (gc fun _=>gc fun h1=>gc fun h2=>gc fun h3=>gc fun h0=>g1 fun h=>⟨B (by have:=of_decide_eq_true h0; simp only [hOn] at this; omega) (fm1 (vsuc (by omega))),go fun t' ht'=>?_⟩)
    (gcons (gc fun _=>gc fun h1=>gc fun h2=>gc fun h3=>g1 fun h0=>⟨A (fm1 (vsuc (by omega))),go fun t' ht'=>?_⟩) (gone (g1 fun h=>absurd (dge h) (by omega))))))))⟩
   · rw [(q t ht).1.1] at h; cases h
   · rw [(q t ht).1.2.1] at h; cases h
   · rw [(q t ht).1.2.2] at h; cases h
   · have h0:0 < i:=by have:=of_decide_eq_true h0; simp only [hOn] at this; omega
     rw [(q t ht).2 h0 u hu] at h; cases h
   · obtain rfl:t=t':=by rw [ht] at ht'; exact Option.some.inj ht'
     refine ⟨⟨by simpa using h1,h2,by simpa using h3⟩,fun _ u' hu'=>?_⟩
     obtain rfl:u=u':=by rw [hu] at hu'; exact Option.some.inj hu'
     simpa using h
   · obtain rfl:t=t':=by rw [ht] at ht'; exact Option.some.inj ht'
     refine ⟨⟨by simpa using h1,h2,by simpa using h3⟩,fun h=>?_⟩
     have:=of_decide_eq_false h0
     simp only [hOn] at this; omega
 · obtain rfl:i=l.length:=by omega
   have no (h:decide (Int.ofNat l.length < Int.ofNat l.length)=true) {q:Prop}:q:=absurd (dlt h) (by omega)
   refine ⟨_,WV8_ok tz,[],_,_,v8_3 l.length (tlD l) l.length ⟨0,0,tz⟩ ⟨0,0,tz⟩,gcons (gc fun h _=>no h) (gcons (gc fun h _=>no h) (gcons (gc fun h _=>no h) (gcons (gc fun h _=>no h) (gcons (gc fun h _=>no h) (gcons (gc fun h _=>no h) (gone (g1 fun h=>⟨all_nil,rfl,retE W3_ok (v8_4 _ _ _) (gone (g0 ⟨all_nil,_,_,_,rfl,vT ⟨hn,hz⟩⟩))⟩)))))))⟩
end Go.Proofs.YtmjggdmekboefaaGreatDoor
namespace Go.Proofs.YtmjggdmekboefaaGreatDoor
open Go Go.Eng
noncomputable abbrev cdPt:Code:=bodyOf Tryz.f114
noncomputable abbrev tlPt:Code:=tailN 5 cdPt
noncomputable abbrev WPt (p:Nat→Int):CtrW:=pinN 126 [tlV p] (tlV (clnT p)) (pinN 124 [tlV (clnT p)] (.bool (zeroT (clnT p))) W3)
theorem WPt_ok (p:Nat→Int):CtrWOk Tryz.prog (WPt p):=pinK (cleanD p) (pinK (zeroD (clnT p)) W3_ok)
def fPt (d:Bool):List (Nat × V):=[(3,.ptr (some (3,0))),(4,.ptr (some (4,0))),(5,.ptr (some (5,0))),(6,.ptr (some (6,0))),(7,.ptr (some (7,0))),(9,.bool d)]
def hPt (n:Nat) (cs:List D) (x y:Int) (q:Nat→Int) (o:V):List (Nat × O):=[(3,.cells [.lst false n cs]),(4,.cells [iX x,iX y]),(5,pxC q),(6,.cells [.slc none 0 0 0]),(7,.cells [o])]
def sP0 (n:Nat) (cs:List D) (x y:Int) (q:Nat→Int) (d:Bool):St:=stG (fPt d) (hL (hPt n cs x y q (.slc none 0 0 0))) 8
def sPN (n:Nat) (cs:List D) (x y:Int) (q:Nat→Int) (d:Bool) (i:Nat):St:=stG (fPt d ++ [(10,iW i)]) (hL (hPt n cs x y q (.slc none 0 0 0))) 8
def sPC (n:Nat) (cs:List D) (x y:Int) (q:Nat→Int) (d:Bool) (m:Nat) (os:List D) (i:Nat):St:=stG (fPt d ++ [(10,iW i)]) (hL (hPt n cs x y q (.slc (some (8,0)) m m 258) ++ [(8,.deep os)])) 9
def sPX (n:Nat) (cs:List D) (x y:Int) (q:Nat→Int) (d:Bool) (m:Nat) (os:List V) (i:Nat):St:=stG (fPt d ++ [(10,iW i)]) (hL (hPt n cs x y q (.slc (some (8,0)) m m 258) ++ [(8,.cells os)])) 9
theorem pt_1 (n:Nat) (cs:List D) (x y:Int) (p:Nat→Int):∃ L,RunIs Tryz.prog (csH (WPt p) []) [] 1000 3 Tryz.f114 [3,4,5,6,7,9] (headN 5 cdPt) (startSt [.agg [.lst false n cs],.agg [iX x,iX y],tlV p] .nil 3) L
  [([],
   [(pinA [tlV p]),(pinA [tlV (clnT p)])],
   .to .normal (sP0 n cs x y (clnT p) (zeroT (clnT p))))]
 :=RunIs.of (by kernel_rfl) (by kernel_rfl) (by kernel_rfl)
theorem pt_2 (n:Nat) (cs:List D) (x y:Int) (q:Nat→Int) (d:Bool):∃ L,RunIs Tryz.prog (csH W3 []) [] 1000 3 Tryz.f114 [3,4,5,6,7,9,10] (seqL (seqL tlPt)) (sP0 n cs x y q d) L
  [([],
   [],
   .to .normal (sPN n cs x y q d 0))]
 :=RunIs.of (by kernel_rfl) (by kernel_rfl) (by kernel_rfl)
def apD (os:List D) (m:Nat) (ts:List D):List D:=List.take (m * 258) (List.drop 0 os) ++ ts
abbrev pt_nA1 (i:Nat):Prop:=V.int IntKind.i64 (IntKind.i64.wrap (Int.ofNat i+(1:Int)))=iW (i+1)
theorem pt_n (n:Nat) (cs:List D) (x y:Int) (q:Nat→Int) (d:Bool) (i:Nat) (t:Tl):∃ L,RunIs Tryz.prog (csH W3 []) [(21,.split),(26,.split),(31,.give (.fptr t.d)),(34,.split),(47,.give (.fptr t.d)),(51,.split),(57,.give (.fptr t.d)),(23,.give (iW (i+1)))] 1000 3 Tryz.f114 [3,4,5,6,7,9,10] (inner (inner (seqR (seqL tlPt)))) (sPN n cs x y q d i) L
  [([((decide (Int.ofNat i < (Int.ofNat n))),true),((!d),true),((le8 x y t.x t.y),true),((!(t.x == x && (t.y == y && true))),true)],
   [((0:Int) ≤ Int.ofNat i∧Int.ofNat i < (Int.ofNat n)),(cs.length=n * 258),(V.fptr (cellsAt cs (i * 258) 258)=V.fptr t.d),((0:Int) ≤ Int.ofNat i∧Int.ofNat i < (Int.ofNat n)),(cs.length=n * 258),(V.fptr (cellsAt cs (i * 258) 258)=V.fptr t.d),((0:Int) ≤ Int.ofNat i∧Int.ofNat i < (Int.ofNat n)),(cs.length=n * 258),(V.fptr (cellsAt cs (i * 258) 258)=V.fptr t.d),pt_nA1 i],
   .to .normal (sPX n cs x y q true 2 (D.toVs ((Tl.mk x y q).d ++ t.d)) (i+1))),
  ([((decide (Int.ofNat i < (Int.ofNat n))),true),((!d),true),((le8 x y t.x t.y),true),((!(t.x == x && (t.y == y && true))),false)],
   [((0:Int) ≤ Int.ofNat i∧Int.ofNat i < (Int.ofNat n)),(cs.length=n * 258),(V.fptr (cellsAt cs (i * 258) 258)=V.fptr t.d),((0:Int) ≤ Int.ofNat i∧Int.ofNat i < (Int.ofNat n)),(cs.length=n * 258),(V.fptr (cellsAt cs (i * 258) 258)=V.fptr t.d),pt_nA1 i],
   .to .normal (sPX n cs x y q true 1 (D.toVs (Tl.mk x y q).d) (i+1))),
  ([((decide (Int.ofNat i < (Int.ofNat n))),true),((!d),true),((le8 x y t.x t.y),false),((!(t.x == x && (t.y == y && true))),true)],
   [((0:Int) ≤ Int.ofNat i∧Int.ofNat i < (Int.ofNat n)),(cs.length=n * 258),(V.fptr (cellsAt cs (i * 258) 258)=V.fptr t.d),((0:Int) ≤ Int.ofNat i∧Int.ofNat i < (Int.ofNat n)),(cs.length=n * 258),(V.fptr (cellsAt cs (i * 258) 258)=V.fptr t.d),((0:Int) ≤ Int.ofNat i∧Int.ofNat i < (Int.ofNat n)),(cs.length=n * 258),(V.fptr (cellsAt cs (i * 258) 258)=V.fptr t.d),pt_nA1 i],
   .to .normal (sPX n cs x y q d 1 (D.toVs t.d) (i+1))),
  ([((decide (Int.ofNat i < (Int.ofNat n))),true),((!d),true),((le8 x y t.x t.y),false),((!(t.x == x && (t.y == y && true))),false)],
   [((0:Int) ≤ Int.ofNat i∧Int.ofNat i < (Int.ofNat n)),(cs.length=n * 258),(V.fptr (cellsAt cs (i * 258) 258)=V.fptr t.d),((0:Int) ≤ Int.ofNat i∧Int.ofNat i < (Int.ofNat n)),(cs.length=n * 258),(V.fptr (cellsAt cs (i * 258) 258)=V.fptr t.d),pt_nA1 i],
   .to .normal (sPN n cs x y q d (i+1))),
  ([((decide (Int.ofNat i < (Int.ofNat n))),true),((!d),false),((!(t.x == x && (t.y == y && true))),true)],
   [((0:Int) ≤ Int.ofNat i∧Int.ofNat i < (Int.ofNat n)),(cs.length=n * 258),(V.fptr (cellsAt cs (i * 258) 258)=V.fptr t.d),((0:Int) ≤ Int.ofNat i∧Int.ofNat i < (Int.ofNat n)),(cs.length=n * 258),(V.fptr (cellsAt cs (i * 258) 258)=V.fptr t.d),pt_nA1 i],
   .to .normal (sPX n cs x y q d 1 (D.toVs t.d) (i+1))),
  ([((decide (Int.ofNat i < (Int.ofNat n))),true),((!d),false),((!(t.x == x && (t.y == y && true))),false)],
   [((0:Int) ≤ Int.ofNat i∧Int.ofNat i < (Int.ofNat n)),(cs.length=n * 258),(V.fptr (cellsAt cs (i * 258) 258)=V.fptr t.d),pt_nA1 i],
   .to .normal (sPN n cs x y q d (i+1))),
  ([((decide (Int.ofNat i < (Int.ofNat n))),false)],
   [],
   .to (.exit 0) (sPN n cs x y q d i))]
 :=RunIs.of (by kernel_rfl) (by kernel_rfl) (by kernel_rfl)
abbrev pt_cA1 (i:Nat):Prop:=V.int IntKind.i64 (IntKind.i64.wrap (Int.ofNat i+(1:Int)))=iW (i+1)
theorem pt_c (n:Nat) (cs:List D) (x y:Int) (q:Nat→Int) (d:Bool) (m:Nat) (os:List D) (i:Nat) (t:Tl):∃ L,RunIs Tryz.prog (csH W3 []) [(21,.split),(26,.split),(31,.give (.fptr t.d)),(34,.split),(47,.give (.fptr t.d)),(51,.split),(57,.give (.fptr t.d)),(23,.give (iW (i+1)))] 1000 3 Tryz.f114 [3,4,5,6,7,9,10] (inner (inner (seqR (seqL tlPt)))) (sPC n cs x y q d m os i) L
  [([((decide (Int.ofNat i < (Int.ofNat n))),true),((!d),true),((le8 x y t.x t.y),true),((!(t.x == x && (t.y == y && true))),true)],
   [((0:Int) ≤ Int.ofNat i∧Int.ofNat i < (Int.ofNat n)),(cs.length=n * 258),(V.fptr (cellsAt cs (i * 258) 258)=V.fptr t.d),(0+m * 258 ≤ os.length),(0 < 1),(roomy (m+1) 258 272=true),((0:Int) ≤ Int.ofNat i∧Int.ofNat i < (Int.ofNat n)),(cs.length=n * 258),(V.fptr (cellsAt cs (i * 258) 258)=V.fptr t.d),((0:Int) ≤ Int.ofNat i∧Int.ofNat i < (Int.ofNat n)),(cs.length=n * 258),(V.fptr (cellsAt cs (i * 258) 258)=V.fptr t.d),(0+(m+1) * 258 ≤ (List.take (m * 258) (List.drop 0 os) ++ (Tl.mk x y q).d).length),(0 < 1),(roomy (m+1+1) 258 272=true),pt_cA1 i],
   .to .normal (sPC n cs x y q true (m+1+1) (apD (apD os m (Tl.mk x y q).d) (m+1) t.d) (i+1))),
  ([((decide (Int.ofNat i < (Int.ofNat n))),true),((!d),true),((le8 x y t.x t.y),true),((!(t.x == x && (t.y == y && true))),false)],
   [((0:Int) ≤ Int.ofNat i∧Int.ofNat i < (Int.ofNat n)),(cs.length=n * 258),(V.fptr (cellsAt cs (i * 258) 258)=V.fptr t.d),(0+m * 258 ≤ os.length),(0 < 1),(roomy (m+1) 258 272=true),((0:Int) ≤ Int.ofNat i∧Int.ofNat i < (Int.ofNat n)),(cs.length=n * 258),(V.fptr (cellsAt cs (i * 258) 258)=V.fptr t.d),pt_cA1 i],
   .to .normal (sPC n cs x y q true (m+1) (apD os m (Tl.mk x y q).d) (i+1))),
  ([((decide (Int.ofNat i < (Int.ofNat n))),true),((!d),true),((le8 x y t.x t.y),false),((!(t.x == x && (t.y == y && true))),true)],
   [((0:Int) ≤ Int.ofNat i∧Int.ofNat i < (Int.ofNat n)),(cs.length=n * 258),(V.fptr (cellsAt cs (i * 258) 258)=V.fptr t.d),((0:Int) ≤ Int.ofNat i∧Int.ofNat i < (Int.ofNat n)),(cs.length=n * 258),(V.fptr (cellsAt cs (i * 258) 258)=V.fptr t.d),((0:Int) ≤ Int.ofNat i∧Int.ofNat i < (Int.ofNat n)),(cs.length=n * 258),(V.fptr (cellsAt cs (i * 258) 258)=V.fptr t.d),(0+m * 258 ≤ os.length),(0 < 1),(roomy (m+1) 258 272=true),pt_cA1 i],
   .to .normal (sPC n cs x y q d (m+1) (apD os m t.d) (i+1))),
  ([((decide (Int.ofNat i < (Int.ofNat n))),true),((!d),true),((le8 x y t.x t.y),false),((!(t.x == x && (t.y == y && true))),false)],
   [((0:Int) ≤ Int.ofNat i∧Int.ofNat i < (Int.ofNat n)),(cs.length=n * 258),(V.fptr (cellsAt cs (i * 258) 258)=V.fptr t.d),((0:Int) ≤ Int.ofNat i∧Int.ofNat i < (Int.ofNat n)),(cs.length=n * 258),(V.fptr (cellsAt cs (i * 258) 258)=V.fptr t.d),pt_cA1 i],
   .to .normal (sPC n cs x y q d m os (i+1))),
  ([((decide (Int.ofNat i < (Int.ofNat n))),true),((!d),false),((!(t.x == x && (t.y == y && true))),true)],
   [((0:Int) ≤ Int.ofNat i∧Int.ofNat i < (Int.ofNat n)),(cs.length=n * 258),(V.fptr (cellsAt cs (i * 258) 258)=V.fptr t.d),((0:Int) ≤ Int.ofNat i∧Int.ofNat i < (Int.ofNat n)),(cs.length=n * 258),(V.fptr (cellsAt cs (i * 258) 258)=V.fptr t.d),(0+m * 258 ≤ os.length),(0 < 1),(roomy (m+1) 258 272=true),pt_cA1 i],
   .to .normal (sPC n cs x y q d (m+1) (apD os m t.d) (i+1))),
  ([((decide (Int.ofNat i < (Int.ofNat n))),true),((!d),false),((!(t.x == x && (t.y == y && true))),false)],
   [((0:Int) ≤ Int.ofNat i∧Int.ofNat i < (Int.ofNat n)),(cs.length=n * 258),(V.fptr (cellsAt cs (i * 258) 258)=V.fptr t.d),pt_cA1 i],
   .to .normal (sPC n cs x y q d m os (i+1))),
  ([((decide (Int.ofNat i < (Int.ofNat n))),false)],
   [],
   .to (.exit 0) (sPC n cs x y q d m os i))]
 :=RunIs.of (by kernel_rfl) (by kernel_rfl) (by kernel_rfl)
theorem pt_e (n:Nat) (cs:List D) (x y:Int) (q:Nat→Int) (d:Bool) (i:Nat):∃ L,RunIs Tryz.prog (csH W3 []) [(63,.split)] 1000 3 Tryz.f114 [] (seqR tlPt) (sPN n cs x y q d i) L
  [([((!d),true)],
   [],
   .ret (.agg [.slc (some (3,0)) 1 1 258]) (hL [(3,.cells (D.toVs (Tl.mk x y q).d))]) 4),
  ([((!d),false)],
   [],
   .ret (.agg [.slc none 0 0 0]) (hL []) 3)]
 :=RunIs.of (by kernel_rfl) (by kernel_rfl) (by kernel_rfl)
theorem pt_f (n:Nat) (cs:List D) (x y:Int) (q:Nat→Int) (d:Bool) (m:Nat) (os:List D) (i:Nat):∃ L,RunIs Tryz.prog (csH W3 []) [(63,.split)] 1000 3 Tryz.f114 [] (seqR tlPt) (sPC n cs x y q d m os i) L
  [([((!d),true)],
   [(0+m * 258 ≤ os.length),(0 < 1),(roomy (m+1) 258 272=true)],
   .ret (.agg [.slc (some (3,0)) (m+1) (m+1) 258]) (hL [(3,.deep (apD os m (Tl.mk x y q).d))]) 4),
  ([((!d),false)],
   [],
   .ret (.agg [.slc (some (3,0)) m m 258]) (hL [(3,.deep os)]) 4)]
 :=RunIs.of (by kernel_rfl) (by kernel_rfl) (by kernel_rfl)
end Go.Proofs.YtmjggdmekboefaaGreatDoor
namespace Go.Proofs.YtmjggdmekboefaaGreatDoor
open Go Go.Eng
def insP (x y:Int) (q:Nat→Int) (s:List Tl × Bool) (t:Tl):List Tl × Bool:=
 (if t.x=x∧t.y=y then (if s.2=false∧le8 x y t.x t.y=true then s.1 ++ [⟨x,y,q⟩] else s.1) else (if s.2=false∧le8 x y t.x t.y=true then s.1 ++ [⟨x,y,q⟩] else s.1) ++ [t],if s.2=false∧le8 x y t.x t.y=true then true else s.2)
noncomputable def insA (x y:Int) (p:Nat→Int) (l:List Tl):List Tl × Bool:=l.foldl (insP x y (clnT p)) ([],zeroT (clnT p))
noncomputable def putF (x y:Int) (p:Nat→Int) (l:List Tl):List Tl:=if (insA x y p l).2=true then (insA x y p l).1 else (insA x y p l).1 ++ [⟨x,y,clnT p⟩]
theorem insA_step {x y:Int} {p:Nat→Int} {l:List Tl} {i:Nat} {t:Tl} (h:l[i]? =some t):insA x y p (l.take (i+1))=insP x y (clnT p) (insA x y p (l.take i)) t:=by
 unfold insA
 rw [List.take_add_one,h,List.foldl_append]; rfl
theorem insP_len {x y:Int} {q:Nat→Int} {s:List Tl × Bool} {t:Tl}:(insP x y q s t).1.length ≤ s.1.length+2:=by
 unfold insP
 simp only
 split <;> split <;> (repeat rw [List.length_append]) <;> (try simp only [List.length_cons,List.length_nil]) <;> omega
theorem insA_len (x y:Int) (p:Nat→Int) (l:List Tl):(insA x y p l).1.length ≤ 2 * l.length:=by
 have key:∀ (l:List Tl) (s:List Tl × Bool),(l.foldl (insP x y (clnT p)) s).1.length ≤ s.1.length+2 * l.length:=by
  intro l
  induction l with
  | nil=>intro s; simp
  | cons t l ih=>
    intro s
    have:=ih (insP x y (clnT p) s t)
    have:=insP_len (x:=x) (y:=y) (q:=clnT p) (s:=s) (t:=t)
    simp only [List.foldl_cons,List.length_cons]; omega
 have:=key l ([],zeroT (clnT p))
 unfold insA
 simpa using this
theorem apD_tl (l:List Tl) (t:Tl):apD (tlD l) l.length t.d=tlD (l ++ [t]):=by
 unfold apD
 rw [List.drop_zero,← tlD_len l,List.take_length]
 simp [tlD]
def SPt (l:List Tl) (x y:Int) (q:Nat→Int) (s:List Tl × Bool) (i:Nat):St:=match s.1 with
 | []=>sPN l.length (tlD l) x y q s.2 i
 | o :: r=>sPC l.length (tlD l) x y q s.2 (o :: r).length (tlD (o :: r)) i
theorem SPt_ne {l:List Tl} {x y:Int} {q:Nat→Int} {s:List Tl × Bool} {i:Nat} (h:s.1 ≠ []):SPt l x y q s i=sPC l.length (tlD l) x y q s.2 s.1.length (tlD s.1) i:=by
 obtain ⟨s1,s2⟩:=s
 cases s1 with
 | nil=>exact absurd rfl h
 | cons o r=>rfl
theorem roomyT {k:Nat} (h:k ≤ 100000):roomy k 258 272=true:=decide_eq_true ⟨by omega,by omega⟩
theorem putD (l:List Tl) (x y:Int) (p:Nat→Int) (hl:l.length ≤ 1024):DeepTo Tryz.prog 114 [rasV l,.agg [iX x,iX y],tlV p] (rasV (putF x y p l)):=by
 refine deepN Tryz.func114 ?_
 refine isE1 5 (WPt_ok p) (pt_1 l.length (tlD l) x y p) (fm rfl (fm1 rfl)) ?_
 generalize hq:clnT p=q
 have hins:∀ k,insA x y p k=k.foldl (insP x y q) ([],zeroT q):=fun k=>by rw [← hq]; rfl
 refine loopF W3_ok 0 _ [3,4,5,6,7,9,10] (l.length - ·.1) (fun z:Nat × List Tl × Bool=>z.1 ≤ l.length∧z.2=insA x y p (l.take z.1)) (fun z=>SPt l x y q z.2 z.1) (0,[],zeroT q) ⟨Nat.zero_le _,by rw [hins]; rfl⟩ (pt_2 _ _ x y q (zeroT q)) all_nil .refl ?_
 rintro ⟨i,s⟩ ⟨hi,hs⟩
 simp only at hi hs
 have hlen:=insA_len x y p (l.take i)
 rw [← hs,List.length_take] at hlen
 have hfin:i=l.length→putF x y p l=if s.2=true then s.1 else s.1 ++ [⟨x,y,q⟩]:=fun h=>by unfold putF; rw [hs,h,List.take_length,hq]
 have hnext:∀ t,l[i]? =some t→∀ s',s'=insP x y q s t→∀ S,(i < l.length→Goes Tryz.prog 3 Tryz.f114.ntmps S (SPt l x y q s' (i+1)))→i < l.length→∃ z':Nat × List Tl × Bool,l.length - z'.1 < l.length - i∧(z'.1 ≤ l.length∧z'.2=insA x y p (l.take z'.1))∧Goes Tryz.prog 3 Tryz.f114.ntmps S (SPt l x y q z'.2 z'.1):=fun t ht s' hs' S hS hlt=>
  ⟨(i+1,s'),lsub hlt,⟨hlt,by rw [insA_step ht,← hs,hq]; exact hs'⟩,hS hlt⟩
 obtain ⟨s,d⟩:=s
 rcases Nat.lt_or_ge i l.length with hlt | hge
 · have hat:=tlD_at hlt
   have ht:l[i]? =some l[i]:=List.getElem?_eq_getElem hlt
   generalize l[i]=t at ht hat
   cases s with
   | nil=>
     refine ⟨_,W3_ok,[],_,_,pt_n l.length (tlD l) x y q d i t,gcons (gc fun _=>gc fun h1=>gc fun h2=>g1 fun h3=>⟨?_,hnext t ht _ (show (([⟨x,y,q⟩,t],true):List Tl × Bool)=_ from ?_) _ (fun _=>.deep [8] (by kernel_rfl)) hlt⟩)
      (gcons (gc fun _=>gc fun h1=>gc fun h2=>g1 fun h3=>⟨?_,hnext t ht _ (show (([⟨x,y,q⟩],true):List Tl × Bool)=_ from ?_) _ (fun _=>.deep [8] (by kernel_rfl)) hlt⟩)
      (gcons (gc fun _=>gc fun h1=>gc fun h2=>g1 fun h3=>⟨?_,hnext t ht _ (show (([t],d):List Tl × Bool)=_ from ?_) _ (fun _=>.deep [8] (by kernel_rfl)) hlt⟩)
      (gcons (gc fun _=>gc fun h1=>gc fun h2=>g1 fun h3=>⟨?_,hnext t ht _ (show (([],d):List Tl × Bool)=_ from ?_) _ (fun _=>.refl) hlt⟩)
      (gcons (gc fun _=>gc fun h1=>g1 fun h3=>⟨?_,hnext t ht _ (show (([t],d):List Tl × Bool)=_ from ?_) _ (fun _=>.deep [8] (by kernel_rfl)) hlt⟩)
      (gcons (gc fun _=>gc fun h1=>g1 fun h3=>⟨?_,hnext t ht _ (show (([],d):List Tl × Bool)=_ from ?_) _ (fun _=>.refl) hlt⟩)
      (gone (g1 fun h=>absurd (dge h) (by omega))))))))⟩
     all_goals first
      | (repeat' (first | exact all_nil | refine fm ?_ ?_)
         all_goals first | exact ibd hlt | exact tlD_len l | exact hat | exact vsuc (by omega))
      | (simp only [Bool.not_eq_eq_eq_not,Bool.not_true,Bool.not_false,Bool.and_true,Bool.and_eq_false_imp,Bool.and_eq_true,beq_iff_eq,beq_eq_false_iff_ne] at h1 h3
         unfold insP
         simp_all)
   | cons o r=>
     have hne:((o :: r,d):List Tl × Bool).1 ≠ []:=by simp
     rw [show SPt l x y q (i,o :: r,d).2 (i,o :: r,d).1=sPC l.length (tlD l) x y q d (o :: r).length (tlD (o :: r)) i from rfl]
     generalize o :: r=os at *
     simp only at *
     have hb:os.length ≤ 4096:=by omega
     have e1:∀ t',apD (tlD os) os.length t'.d=tlD (os ++ [t']):=apD_tl os
     have e2:apD (tlD (os ++ [⟨x,y,q⟩])) (os.length+1) t.d=tlD (os ++ [⟨x,y,q⟩] ++ [t]):=by
      have:=apD_tl (os ++ [⟨x,y,q⟩]) t
      rw [List.length_append] at this; exact this
     have hr:=pt_c l.length (tlD l) x y q d os.length (tlD os) i t
     have goC:∀ (w:List Tl) (d':Bool) (m:Nat) (k:List D),w ≠ []→m=w.length→k=tlD w→Goes Tryz.prog 3 Tryz.f114.ntmps (sPC l.length (tlD l) x y q d' m k (i+1)) (SPt l x y q (w,d') (i+1)):=fun w d' m k hw hm hk=>by
      rw [SPt_ne hw,hm,hk]; exact .refl
     refine ⟨_,W3_ok,[],_,_,hr,gcons (gc fun _=>gc fun h1=>gc fun h2=>g1 fun h3=>⟨?_,hnext t ht _ (show ((os ++ [⟨x,y,q⟩] ++ [t],true):List Tl × Bool)=_ from ?_) _ (fun _=>goC _ _ _ _ (by simp) (by simp) (by rw [e1,e2])) hlt⟩)
      (gcons (gc fun _=>gc fun h1=>gc fun h2=>g1 fun h3=>⟨?_,hnext t ht _ (show ((os ++ [⟨x,y,q⟩],true):List Tl × Bool)=_ from ?_) _ (fun _=>goC _ _ _ _ (by simp) (by simp) (by rw [e1])) hlt⟩)
      (gcons (gc fun _=>gc fun h1=>gc fun h2=>g1 fun h3=>⟨?_,hnext t ht _ (show ((os ++ [t],d):List Tl × Bool)=_ from ?_) _ (fun _=>goC _ _ _ _ (by simp) (by simp) (by rw [e1])) hlt⟩)
      (gcons (gc fun _=>gc fun h1=>gc fun h2=>g1 fun h3=>⟨?_,hnext t ht _ (show ((os,d):List Tl × Bool)=_ from ?_) _ (fun _=>goC _ _ _ _ hne rfl rfl) hlt⟩)
      (gcons (gc fun _=>gc fun h1=>g1 fun h3=>⟨?_,hnext t ht _ (show ((os ++ [t],d):List Tl × Bool)=_ from ?_) _ (fun _=>goC _ _ _ _ (by simp) (by simp) (by rw [e1])) hlt⟩)
      (gcons (gc fun _=>gc fun h1=>g1 fun h3=>⟨?_,hnext t ht _ (show ((os,d):List Tl × Bool)=_ from ?_) _ (fun _=>goC _ _ _ _ hne rfl rfl) hlt⟩)
      (gone (g1 fun h=>absurd (dge h) (by omega))))))))⟩
     all_goals first
      | (repeat' (first | exact all_nil | refine fm ?_ ?_)
         all_goals first | exact ibd hlt | exact tlD_len l | exact hat | exact vsuc (by omega) | exact Nat.zero_lt_one | exact roomyT (by omega) | (rw [tlD_len]; omega) | (rw [List.drop_zero,List.length_append,List.length_take,tlD_len,Tl.d_len]; omega))
      | (simp only [Bool.not_eq_eq_eq_not,Bool.not_true,Bool.not_false,Bool.and_true,Bool.and_eq_false_imp,Bool.and_eq_true,beq_iff_eq,beq_eq_false_iff_ne] at h1 h3
         unfold insP
         simp_all)
 · obtain rfl:i=l.length:=by omega
   have hf:=hfin rfl
   have no (h:decide (Int.ofNat l.length < Int.ofNat l.length)=true) {q:Prop}:q:=absurd (dlt h) (by omega)
   cases s with
   | nil=>
     refine ⟨_,W3_ok,[],_,_,pt_n l.length (tlD l) x y q d l.length ⟨0,0,tz⟩,gcons (gc fun h _=>no h) (gcons (gc fun h _=>no h) (gcons (gc fun h _=>no h) (gcons (gc fun h _=>no h) (gcons (gc fun h _=>no h) (gcons (gc fun h _=>no h) (gone (g1 fun _=>⟨all_nil,rfl,retE W3_ok (pt_e _ _ x y q d _) (gcons (g1 fun h=>⟨all_nil,_,_,_,rfl,?_⟩) (gone (g1 fun h=>⟨all_nil,_,_,_,rfl,?_⟩)))⟩)))))))⟩
     · have hd:d=false:=by simpa using h
       rw [hf,hd,if_neg (by simp)]
       exact .frz (v0:=.agg [.lst false 1 (Tl.mk x y q).d]) [3] (A:=[258=1 * 258]) (by kernel_rfl) (fm1 rfl) (by kernel_rfl) (by kernel_rfl)
     · have hd:d=true:=by simpa using h
       rw [hf,hd,if_pos rfl]
       exact .self rfl rfl
   | cons o r=>
     rw [show SPt l x y q (l.length,o :: r,d).2 (l.length,o :: r,d).1=sPC l.length (tlD l) x y q d (o :: r).length (tlD (o :: r)) l.length from rfl]
     generalize o :: r=os at *
     simp only at *
     have hb:os.length ≤ 4096:=by omega
     have fz (w:List Tl) (m:Nat) (k:List D) (hm:m=w.length) (hk:k=tlD w):FzN (rasV w) (.agg [.slc (some (3,0)) m m 258]) (hL [(3,.deep k)]) 4:=by
      subst hm hk
      exact .frz (v0:=rasV w) [3] (A:=[(tlD w).length=w.length * 258]) (by kernel_rfl) (fm1 (tlD_len w)) (by kernel_rfl) (by kernel_rfl)
     refine ⟨_,W3_ok,[],_,_,pt_c l.length (tlD l) x y q d os.length (tlD os) l.length ⟨0,0,tz⟩,gcons (gc fun h _=>no h) (gcons (gc fun h _=>no h) (gcons (gc fun h _=>no h) (gcons (gc fun h _=>no h) (gcons (gc fun h _=>no h) (gcons (gc fun h _=>no h) (gone (g1 fun _=>⟨all_nil,rfl,retE W3_ok (pt_f _ _ x y q d _ _ _) (gcons (g1 fun h=>⟨fm (by rw [tlD_len]; omega) (fm (by decide) (fm1 (roomyT (by omega)))),_,_,_,rfl,?_⟩) (gone (g1 fun h=>⟨all_nil,_,_,_,rfl,?_⟩)))⟩)))))))⟩
     · have hd:d=false:=by simpa using h
       rw [hf,hd,if_neg (by simp)]
       exact fz _ _ _ (by simp) (apD_tl os ⟨x,y,q⟩)
     · have hd:d=true:=by simpa using h
       rw [hf,hd,if_pos rfl]
       exact fz _ _ _ rfl rfl
end Go.Proofs.YtmjggdmekboefaaGreatDoor
namespace Go.Proofs.YtmjggdmekboefaaGreatDoor
open Go Go.Eng
abbrev ra (n:Nat) (cs:List D):V:=.agg [.lst false n cs]
noncomputable abbrev cdOf:Code:=bodyOf Tryz.f69
noncomputable abbrev cdS8:Code:=bodyOf Tryz.f56
noncomputable abbrev cdSl:Code:=bodyOf Tryz.f21
noncomputable abbrev tlSl:Code:=tailN 2 cdSl
theorem of_1 (n:Nat) (cs:List D) (b:Bool):∃ L,RunIs Tryz.prog (csH (pinN 100 [ra n cs] (.bool b) W3) []) [(7,.split)] 1000 3 Tryz.f69 [] (cdOf) (startSt [ra n cs] .nil 3) L
  [([((!b),true)],
   [(pinA [ra n cs])],
   .ret (.agg [.slc none 0 0 0]) (hL []) 3),
  ([((!b),false)],
   [(pinA [ra n cs])],
   .ret (.agg [.lst false n cs]) (hL []) 3)]
 :=RunIs.of (by kernel_rfl) (by kernel_rfl) (by kernel_rfl)
abbrev pxV (r g b a:Int):V:=.agg [.int .u8 r,.int .u8 g,.int .u8 b,.int .u8 a]
abbrev dx8 (x:Int):Int:=IntKind.i64.wrap (x - IntKind.i64.wrap (8 * fl8 x))
noncomputable abbrev WS8 (n:Nat) (cs:List D) (m:Nat) (os:List D) (x y r g b a:Int) (p q:Nat→Int) (k:Nat) (us:List D):CtrW:=pinN 69 [ra n cs] (ra m os) (pinN 84 [ra m os,.agg [iX (fl8 x),iX (fl8 y)]] (tlV p) (pinN 86 [tlV p,iX (dx8 x),iX (dx8 y),pxV r g b a] (tlV q) (pinN 114 [ra m os,.agg [iX (fl8 x),iX (fl8 y)],tlV q] (ra k us) W3)))
theorem s8_1 (n:Nat) (cs:List D) (m:Nat) (os:List D) (x y r g b a:Int) (p q:Nat→Int) (k:Nat) (us:List D):∃ L,RunIs Tryz.prog (csH (WS8 n cs m os x y r g b a p q k us) [(85,[(9,.split)]),(113,[(6,.split)])]) [] 1000 3 Tryz.f56 [] (cdS8) (startSt [ra n cs,iX x,iX y,pxV r g b a] .nil 3) L
  [([((!in8 (fl8 x) (fl8 y)),true)],
   [(pinA [ra n cs]),(pinA [ra m os,.agg [iX (fl8 x),iX (fl8 y)]]),(pinA [tlV p,iX (dx8 x),iX (dx8 y),pxV r g b a])],
   .ret (.agg [.slc none 0 0 0,.int .i64 1]) (hL []) 3),
  ([((!in8 (fl8 x) (fl8 y)),false),((decide ((Int.ofNat k) > (1024:Int))),true)],
   [(pinA [ra n cs]),(pinA [ra m os,.agg [iX (fl8 x),iX (fl8 y)]]),(pinA [tlV p,iX (dx8 x),iX (dx8 y),pxV r g b a]),(pinA [ra n cs]),(pinA [ra m os,.agg [iX (fl8 x),iX (fl8 y)],tlV q])],
   .ret (.agg [.slc none 0 0 0,.int .i64 2]) (hL []) 3),
  ([((!in8 (fl8 x) (fl8 y)),false),((decide ((Int.ofNat k) > (1024:Int))),false)],
   [(pinA [ra n cs]),(pinA [ra m os,.agg [iX (fl8 x),iX (fl8 y)]]),(pinA [tlV p,iX (dx8 x),iX (dx8 y),pxV r g b a]),(pinA [ra n cs]),(pinA [ra m os,.agg [iX (fl8 x),iX (fl8 y)],tlV q])],
   .ret (.agg [.lst false k us,.int .i64 0]) (hL []) 3)]
 :=RunIs.of (by kernel_rfl) (by kernel_rfl) (by kernel_rfl)
def sSl (n:Nat) (cs:List D) (m:Nat) (os:List D) (i:Nat):St:=stG [(0,.lst false n cs),(2,.ptr (some (3,0))),(3,.ptr (some (4,0))),(4,iW i)] (hL [(3,.cells [.lst false 0 []]),(4,.cells [.lst false m os])]) 5
def sSk (n:Nat) (cs:List D) (m:Nat) (os:List D) (i:Nat) (r g b a:Int) (k:Nat):St:=stG [(0,.lst false n cs),(2,.ptr (some (3,0))),(3,.ptr (some (4,0))),(4,iW i),(5,.ptr (some (5,0))),(6,iW k)] (hL [(3,.cells [.lst false 0 []]),(4,.cells [.lst false m os]),(5,.cells [.int .u8 r,.int .u8 g,.int .u8 b,.int .u8 a])]) 6
noncomputable abbrev bdSl:Code:=inner (inner (seqR (seqL tlSl)))
noncomputable abbrev b1Sl:Code:=inner (seqL (seqR bdSl))
noncomputable abbrev bkSl:Code:=inner (inner (tailN 2 b1Sl))
theorem sl_1 (n:Nat) (cs:List D):∃ L,RunIs Tryz.prog (csH W3 []) [] 1000 3 Tryz.f21 [0,2,3] (headN 2 cdSl) (startSt [.lst false n cs] .nil 3) L
  [([],
   [],
   .to .normal (stG [(0,.lst false n cs),(2,.ptr (some (3,0))),(3,.ptr (some (4,0)))] (hL [(3,.cells [.slc none 0 0 0]),(4,.cells [.slc none 0 0 0])]) 5))]
 :=RunIs.of (by kernel_rfl) (by kernel_rfl) (by kernel_rfl)
theorem sl_2 (n:Nat) (cs:List D):∃ L,RunIs Tryz.prog (csH W3 []) [] 1000 3 Tryz.f21 [0,2,3,4] (seqL (seqL tlSl)) (stG [(0,.lst false n cs),(2,.ptr (some (3,0))),(3,.ptr (some (4,0)))] (hL [(3,.cells [.lst false 0 []]),(4,.cells [.lst false 0 []])]) 5) L
  [([],
   [],
   .to .normal (sSl n cs 0 [] 0))]
 :=RunIs.of (by kernel_rfl) (by kernel_rfl) (by kernel_rfl)
theorem sl_3 (n:Nat) (cs:List D) (m:Nat) (os:List D) (i:Nat):∃ L,RunIs Tryz.prog (csH W3 []) [(12,.split)] 1000 3 Tryz.f21 [0,2,3,4] (seqL bdSl) (sSl n cs m os i) L
  [([((decide (Int.ofNat i < (Int.ofNat n))),true)],
   [],
   .to .normal (sSl n cs m os i)),
  ([((decide (Int.ofNat i < (Int.ofNat n))),false)],
   [],
   .to (.exit 0) (sSl n cs m os i))]
 :=RunIs.of (by kernel_rfl) (by kernel_rfl) (by kernel_rfl)
theorem sl_4 (n:Nat) (cs:List D) (m:Nat) (os:List D) (i:Nat) (v:Int):∃ L,RunIs Tryz.prog (csH W3 []) [(17,.give (.fptr [.int .i64 v])),(22,.give (.fptr [.int .i64 v])),(28,.give (.fptr [.int .i64 v])),(34,.give (.fptr [.int .i64 v]))] 1000 3 Tryz.f21 [0,2,3,4,5,6] (headN 2 b1Sl) (sSl n cs m os i) L
  [([],
   [((0:Int) ≤ Int.ofNat i∧Int.ofNat i < (Int.ofNat n)),(cs.length=n * 1),(V.fptr (cellsAt cs (i * 1) 1)=V.fptr [D.int IntKind.i64 v]),((0:Int) ≤ Int.ofNat i∧Int.ofNat i < (Int.ofNat n)),(cs.length=n * 1),(V.fptr (cellsAt cs (i * 1) 1)=V.fptr [D.int IntKind.i64 v]),((0:Int) ≤ Int.ofNat i∧Int.ofNat i < (Int.ofNat n)),(cs.length=n * 1),(V.fptr (cellsAt cs (i * 1) 1)=V.fptr [D.int IntKind.i64 v]),((0:Int) ≤ Int.ofNat i∧Int.ofNat i < (Int.ofNat n)),(cs.length=n * 1),(V.fptr (cellsAt cs (i * 1) 1)=V.fptr [D.int IntKind.i64 v])],
   .to .normal (stG [(0,.lst false n cs),(2,.ptr (some (3,0))),(3,.ptr (some (4,0))),(4,.int .i64 (Int.ofNat i)),(5,.ptr (some (5,0))),(6,.int .i64 0)] (hL [(3,.cells [.lst false 0 []]),(4,.cells [.lst false m os]),(5,.cells [.int .u8 (IntKind.u8.wrap v),.int .u8 (IntKind.u8.wrap (v.fdiv (32:Int))),.int .u8 (IntKind.u8.wrap (v.fdiv (512:Int))),.int .u8 (IntKind.u8.wrap (Int.ofNat (BitVec.ofInt 8 (IntKind.u8.wrap (v.fdiv (8:Int))) ||| BitVec.ofInt 8 (15:Int)).toNat))])]) 6))]
 :=RunIs.of (by kernel_rfl) (by kernel_rfl) (by kernel_rfl)
abbrev sl_5A1 (k:Nat) (v Y:Int):Prop:=V.int IntKind.i64 (IntKind.i64.wrap (IntKind.i64.wrap (IntKind.i64.wrap (Int.ofNat (BitVec.ofInt 64 (v.fdiv (256:Int)) &&& BitVec.ofInt 64 (15:Int)).toNat) - (4:Int))+IntKind.i64.wrap (Int.ofNat k * IntKind.i64.wrap (Int.ofNat (BitVec.ofInt 64 v &&& BitVec.ofInt 64 (1:Int)).toNat))))=iX Y
abbrev sl_5A2 (k:Nat) (v X:Int):Prop:=V.int IntKind.i64 (IntKind.i64.wrap (IntKind.i64.wrap (IntKind.i64.wrap (Int.ofNat (BitVec.ofInt 64 (v.fdiv (16:Int)) &&& BitVec.ofInt 64 (15:Int)).toNat) - (4:Int))+Int.ofNat k))=iX X
abbrev sl_5A3 (c:Nat) (v:Int):Prop:=V.int IntKind.i64 (IntKind.i64.wrap ((1:Int)+IntKind.i64.wrap (Int.ofNat (BitVec.ofInt 64 v &&& BitVec.ofInt 64 (7:Int)).toNat)))=iW c
abbrev sl_5A4 (k:Nat):Prop:=V.int IntKind.i64 (IntKind.i64.wrap (Int.ofNat k+(1:Int)))=iW (k+1)
theorem sl_5 (n:Nat) (cs:List D) (m:Nat) (os:List D) (i:Nat) (r g b a:Int) (k c:Nat) (v X Y:Int) (k2:Nat) (us:List D) (e:Int):∃ L,RunIs Tryz.prog (csH (pinN 56 [ra m os,iX X,iX Y,pxV r g b a] (.agg [.lst false k2 us,iX e]) W3) []) [(43,.give (.fptr [.int .i64 v])),(46,.give (iW c)),(47,.split),(53,.give (.fptr [.int .i64 v])),(62,.give (.fptr [.int .i64 v])),(70,.give (.fptr [.int .i64 v])),(59,.give (iX X)),(74,.give (iX Y)),(79,.split),(49,.give (iW (k+1)))] 1000 3 Tryz.f21 [0,2,3,4,5,6] (bkSl) (sSk n cs m os i r g b a k) L
  [([((decide (Int.ofNat k < Int.ofNat c)),true),((e == (0:Int)),true)],
   [((0:Int) ≤ Int.ofNat i∧Int.ofNat i < (Int.ofNat n)),(cs.length=n * 1),(V.fptr (cellsAt cs (i * 1) 1)=V.fptr [D.int IntKind.i64 v]),sl_5A3 c v,((0:Int) ≤ Int.ofNat i∧Int.ofNat i < (Int.ofNat n)),(cs.length=n * 1),(V.fptr (cellsAt cs (i * 1) 1)=V.fptr [D.int IntKind.i64 v]),sl_5A2 k v X,((0:Int) ≤ Int.ofNat i∧Int.ofNat i < (Int.ofNat n)),(cs.length=n * 1),(V.fptr (cellsAt cs (i * 1) 1)=V.fptr [D.int IntKind.i64 v]),((0:Int) ≤ Int.ofNat i∧Int.ofNat i < (Int.ofNat n)),(cs.length=n * 1),(V.fptr (cellsAt cs (i * 1) 1)=V.fptr [D.int IntKind.i64 v]),sl_5A1 k v Y,(pinA [ra m os,iX X,iX Y,pxV r g b a]),sl_5A4 k],
   .to .normal (sSk n cs k2 us i r g b a (k+1))),
  ([((decide (Int.ofNat k < Int.ofNat c)),true),((e == (0:Int)),false)],
   [((0:Int) ≤ Int.ofNat i∧Int.ofNat i < (Int.ofNat n)),(cs.length=n * 1),(V.fptr (cellsAt cs (i * 1) 1)=V.fptr [D.int IntKind.i64 v]),sl_5A3 c v,((0:Int) ≤ Int.ofNat i∧Int.ofNat i < (Int.ofNat n)),(cs.length=n * 1),(V.fptr (cellsAt cs (i * 1) 1)=V.fptr [D.int IntKind.i64 v]),sl_5A2 k v X,((0:Int) ≤ Int.ofNat i∧Int.ofNat i < (Int.ofNat n)),(cs.length=n * 1),(V.fptr (cellsAt cs (i * 1) 1)=V.fptr [D.int IntKind.i64 v]),((0:Int) ≤ Int.ofNat i∧Int.ofNat i < (Int.ofNat n)),(cs.length=n * 1),(V.fptr (cellsAt cs (i * 1) 1)=V.fptr [D.int IntKind.i64 v]),sl_5A1 k v Y,(pinA [ra m os,iX X,iX Y,pxV r g b a]),sl_5A4 k],
   .to .normal (sSk n cs m os i r g b a (k+1))),
  ([((decide (Int.ofNat k < Int.ofNat c)),false)],
   [((0:Int) ≤ Int.ofNat i∧Int.ofNat i < (Int.ofNat n)),(cs.length=n * 1),(V.fptr (cellsAt cs (i * 1) 1)=V.fptr [D.int IntKind.i64 v]),sl_5A3 c v],
   .to (.exit 2) (sSk n cs m os i r g b a k))]
 :=RunIs.of (by kernel_rfl) (by kernel_rfl) (by kernel_rfl)
theorem sl_6 (n:Nat) (cs:List D) (m:Nat) (os:List D) (i:Nat) (r g b a:Int) (k:Nat):∃ L,RunIs Tryz.prog (csH W3 []) [(14,.give (iW (i+1)))] 1000 3 Tryz.f21 [0,2,3,4] (seqR (seqR bdSl)) (sSk n cs m os i r g b a k) L
  [([],
   [(V.int IntKind.i64 (IntKind.i64.wrap (Int.ofNat i+(1:Int)))=iW (i+1))],
   .to .normal (sSl n cs m os (i+1)))]
 :=RunIs.of (by kernel_rfl) (by kernel_rfl) (by kernel_rfl)
theorem sl_7 (n:Nat) (cs:List D) (m:Nat) (os:List D) (i:Nat):∃ L,RunIs Tryz.prog (csH W3 []) [] 1000 3 Tryz.f21 [] (seqR tlSl) (sSl n cs m os i) L
  [([],
   [],
   .ret (.agg [.lst false m os]) (hL []) 3)]
 :=RunIs.of (by kernel_rfl) (by kernel_rfl) (by kernel_rfl)
end Go.Proofs.YtmjggdmekboefaaGreatDoor
namespace Go.Proofs.YtmjggdmekboefaaGreatDoor
open Go Go.Eng
noncomputable def ofF (l:List Tl):List Tl:=if cD (validR l)=true then l else []
theorem cD_iff {p:Prop}:cD p=true ↔ p:=by
 constructor
 · intro h
   by_cases q:p
   · exact q
   · rw [cD_f q] at h; cases h
 · exact cD_t
theorem ofF_len (l:List Tl):(ofF l).length ≤ 1024:=by
 unfold ofF
 split
 · rename_i h; exact (cD_iff.1 h).1
 · simp
theorem ofD (l:List Tl) (hl:l.length ≤ 1000000):DeepTo Tryz.prog 69 [rasV l] (rasV (ofF l)):=by
 refine deepN Tryz.func69 ?_
 refine retE (pinK (validD l hl) W3_ok) (of_1 l.length (tlD l) (cD (validR l))) (gcons (g1 fun h=>⟨fm1 rfl,_,_,_,rfl,?_⟩) (gone (g1 fun h=>⟨fm1 rfl,_,_,_,rfl,?_⟩)))
 · have h:cD (validR l)=false:=by simpa using h
   rw [show ofF l=[] from if_neg (by rw [h]; simp)]
   exact .self rfl rfl
 · have h:cD (validR l)=true:=by simpa using h
   rw [show ofF l=l from if_pos h]
   exact .self rfl rfl
def gotV (s:List Tl × Int):V:=.agg [.lst false s.1.length (tlD s.1),iX s.2]
noncomputable def set8Q (l:List Tl) (x y r g b a:Int):List Tl:=putF (fl8 x) (fl8 y) (setT (tileF (fl8 x) (fl8 y) (ofF l)) (dx8 x) (dx8 y) r g b a) (ofF l)
noncomputable def set8F (l:List Tl) (x y r g b a:Int):List Tl × Int:=if in8 (fl8 x) (fl8 y)=true then (if 1024 < (set8Q l x y r g b a).length then ([],2) else (set8Q l x y r g b a,0)) else ([],1)
theorem set8F_len (l:List Tl) (x y r g b a:Int):(set8F l x y r g b a).1.length ≤ 1024:=by
 unfold set8F
 split
 · split
   · simp
   · simp only; omega
 · simp
theorem set8D (l:List Tl) (x y r g b a:Int) (hl:l.length ≤ 1000000):DeepTo Tryz.prog 56 [rasV l,iX x,iX y,pxV r g b a] (gotV (set8F l x y r g b a)):=by
 refine deepN Tryz.func56 ?_
 have ho:=ofF_len l
 have O:pinA [ra l.length (tlD l)]:=rfl
 have k:=pinK (ofD l hl) (pinK (tileD (ofF l) (fl8 x) (fl8 y) (by omega)) (pinK (setD (tileF (fl8 x) (fl8 y) (ofF l)) (dx8 x) (dx8 y) r g b a) (pinK (putD (ofF l) (fl8 x) (fl8 y) (setT (tileF (fl8 x) (fl8 y) (ofF l)) (dx8 x) (dx8 y) r g b a) ho) W3_ok)))
 refine retE k (s8_1 l.length (tlD l) _ _ x y r g b a _ _ _ _) (gcons (g1 fun h=>⟨fm rfl (fm rfl (fm1 rfl)),_,_,_,rfl,?_⟩) (gcons (g2 fun h h2=>⟨fm rfl (fm rfl (fm rfl (fm rfl (fm1 rfl)))),_,_,_,rfl,?_⟩) (gone (g2 fun h h2=>⟨fm rfl (fm rfl (fm rfl (fm rfl (fm1 rfl)))),_,_,_,rfl,?_⟩))))
 · have h:in8 (fl8 x) (fl8 y)=false:=by simpa using h
   rw [show set8F l x y r g b a=([],1) from if_neg (by rw [h]; simp)]
   exact .self rfl rfl
 · have h:in8 (fl8 x) (fl8 y)=true:=by simpa using h
   have h2:=of_decide_eq_true h2
   rw [show set8F l x y r g b a=([],2) from (if_pos h).trans (if_pos (by simp only [hOn] at h2; unfold set8Q; omega))]
   exact .self rfl rfl
 · have h:in8 (fl8 x) (fl8 y)=true:=by simpa using h
   have h2:=of_decide_eq_false h2
   rw [show set8F l x y r g b a=(set8Q l x y r g b a,0) from (if_pos h).trans (if_neg (by simp only [hOn] at h2; unfold set8Q; omega))]
   exact .self rfl rfl
end Go.Proofs.YtmjggdmekboefaaGreatDoor
namespace Go.Proofs.YtmjggdmekboefaaGreatDoor
open Go Go.Eng
def isD (l:List Int):List D:=l.map (.int .i64)
abbrev isV (l:List Int):V:=.lst false l.length (isD l)
theorem isD_len (l:List Int):(isD l).length=l.length * 1:=by simp [isD]
theorem isD_at {l:List Int} {i:Nat} {v:Int} (h:l[i]? =some v):V.fptr (cellsAt (isD l) (i * 1) 1)= .fptr [.int .i64 v]:=by
 unfold cellsAt isD
 have hlt:i < l.length:=(List.getElem?_eq_some_iff.1 h).1
 have hv:l[i]=v:=(List.getElem?_eq_some_iff.1 h).2
 rw [Nat.mul_one,← List.map_drop,← List.map_take,List.drop_eq_getElem_cons hlt,hv]; rfl
def pr0 (v:Int):Int:=IntKind.u8.wrap v
def pr1 (v:Int):Int:=IntKind.u8.wrap (v.fdiv 32)
def pr2 (v:Int):Int:=IntKind.u8.wrap (v.fdiv 512)
def pr3 (v:Int):Int:=IntKind.u8.wrap (Int.ofNat (BitVec.ofInt 8 (IntKind.u8.wrap (v.fdiv (8:Int))) ||| BitVec.ofInt 8 (15:Int)).toNat)
def cnt (v:Int):Nat:=1+(BitVec.ofInt 64 v &&& BitVec.ofInt 64 (7:Int)).toNat
def sx (v:Int) (k:Nat):Int:=IntKind.i64.wrap (IntKind.i64.wrap (IntKind.i64.wrap (Int.ofNat (BitVec.ofInt 64 (v.fdiv (16:Int)) &&& BitVec.ofInt 64 (15:Int)).toNat) - (4:Int))+Int.ofNat k)
def sy (v:Int) (k:Nat):Int:=IntKind.i64.wrap (IntKind.i64.wrap (IntKind.i64.wrap (Int.ofNat (BitVec.ofInt 64 (v.fdiv (256:Int)) &&& BitVec.ofInt 64 (15:Int)).toNat) - (4:Int))+IntKind.i64.wrap (Int.ofNat k * IntKind.i64.wrap (Int.ofNat (BitVec.ofInt 64 v &&& BitVec.ofInt 64 (1:Int)).toNat)))
theorem cnt_le (v:Int):cnt v ≤ 8:=by
 unfold cnt
 have:(BitVec.ofInt 64 v &&& BitVec.ofInt 64 (7:Int)).toNat ≤ 7:=by
  rw [BitVec.toNat_and]; exact Nat.and_le_right
 omega
theorem cnt_v (v:Int):V.int IntKind.i64 (IntKind.i64.wrap ((1:Int)+IntKind.i64.wrap (Int.ofNat (BitVec.ofInt 64 v &&& BitVec.ofInt 64 (7:Int)).toNat)))=iW (cnt v):=by
 have h:=cnt_le v
 unfold cnt at h ⊢
 generalize (BitVec.ofInt 64 v &&& BitVec.ofInt 64 (7:Int)).toNat=m at h
 rw [wrap_id (x:=Int.ofNat m) (by simp only [hOn]; omega) (by simp only [hOn]; omega)]
 exact ieq_ok (by simp only [hOn]; omega) (by omega)
noncomputable def stpF (v:Int) (l:List Tl) (k:Nat):List Tl:=if (set8F l (sx v k) (sy v k) (pr0 v) (pr1 v) (pr2 v) (pr3 v)).2=0 then (set8F l (sx v k) (sy v k) (pr0 v) (pr1 v) (pr2 v) (pr3 v)).1 else l
noncomputable def accK (v:Int) (l:List Tl) (k:Nat):List Tl:=(List.range k).foldl (stpF v) l
noncomputable def smallF (vs:List Int):List Tl:=vs.foldl (fun l v=>accK v l (cnt v)) []
theorem accK_step (v:Int) (l:List Tl) (k:Nat):accK v l (k+1)=stpF v (accK v l k) k:=by
 unfold accK; rw [List.range_succ,List.foldl_append]; rfl
theorem smallF_step {vs:List Int} {i:Nat} {v:Int} (h:vs[i]? =some v):smallF (vs.take (i+1))=accK v (smallF (vs.take i)) (cnt v):=by
 unfold smallF
 rw [List.take_add_one,h,List.foldl_append]; rfl
theorem stpF_len {v:Int} {l:List Tl} {k:Nat} (h:l.length ≤ 1024):(stpF v l k).length ≤ 1024:=by
 unfold stpF
 split
 · exact set8F_len ..
 · exact h
theorem accK_len {v:Int} {l:List Tl} (h:l.length ≤ 1024):∀ k,(accK v l k).length ≤ 1024
 | 0=>h
 | k+1=>by rw [accK_step]; exact stpF_len (accK_len h k)
theorem smallF_len (vs:List Int):(smallF vs).length ≤ 1024:=by
 have:∀ (vs:List Int) (l:List Tl),l.length ≤ 1024→(vs.foldl (fun l v=>accK v l (cnt v)) l).length ≤ 1024:=by
  intro vs
  induction vs with
  | nil=>exact fun l h=>h
  | cons v vs ih=>exact fun l h=>ih _ (accK_len h _)
 exact this vs [] (by simp)
theorem smallD (vs:List Int) (hv:vs.length ≤ 1000000):DeepTo Tryz.prog 21 [isV vs] (rasV (smallF vs)):=by
 refine deepT Tryz.func21 ?_
 refine isE1 2 W3_ok (sl_1 vs.length (isD vs)) all_nil ?_
 refine (Goes.nl (S:=stG [(0,.lst false vs.length (isD vs)),(2,.ptr (some (3,0))),(3,.ptr (some (4,0)))] (hL [(3,.cells [.lst false 0 []]),(4,.cells [.lst false 0 []])]) 5) (by kernel_rfl)) _ _ ?_
 refine TG_seq' (by kernel_rfl) (TG_seq' (by kernel_rfl) (isE W3_ok anyR (sl_2 _ _) (gone (g0 ⟨all_nil,fun s' hs'=>?_⟩))))
 simp only [andThen]
 refine TG_whileN (α:=Nat) 0 (vs.length - ·) (· ≤ vs.length) (fun i=>sSl vs.length (isD vs) (smallF (vs.take i)).length (tlD (smallF (vs.take i))) i) (by kernel_rfl) (by kernel_rfl) 0 (Nat.zero_le _) (.norm hs') fun i hi=>?_
 have hlen:=smallF_len (vs.take i)
 refine TG_seq' (by kernel_rfl) (isE W3_ok anyR (sl_3 _ _ _ _ i) (gcons (g1 fun h=>⟨all_nil,fun s' hs'=>?_⟩) (gone (g1 fun h=>⟨all_nil,fun s' hs'=>?_⟩))))
 · have hlt:=dlt h
   obtain ⟨v,hv⟩:∃ v,vs[i]? =some v:=⟨_,List.getElem?_eq_getElem hlt⟩
   have hat:=isD_at hv
   simp only [andThen]
   refine TG_norm hs' (TG_seq' (by kernel_rfl) (TG_block (i:=1) (by kernel_rfl) ?_))
   have A3 {r:List Prop} (q:∀ a ∈ r,a):=fm (ibd hlt) (fm (isD_len vs) (fm hat q))
   refine isE1 2 W3_ok (sl_4 _ _ _ _ i v) (A3 (A3 (A3 (A3 all_nil)))) ?_
   generalize hL:smallF (vs.take i)=l at *
   refine loopB (α:=Nat) (fn:=Tryz.f21) 2 anyR [0,2,3,4,5,6] (cnt v - ·) (· ≤ cnt v) (fun k=>sSk vs.length (isD vs) (accK v l k).length (tlD (accK v l k)) i (pr0 v) (pr1 v) (pr2 v) (pr3 v) k) 0 (Nat.zero_le _) .refl fun k hk=>?_
   have hl:=accK_len (v:=v) hlen k
   have kc:=cnt_le v
   refine ⟨_,pinK (set8D (accK v l k) (sx v k) (sy v k) (pr0 v) (pr1 v) (pr2 v) (pr3 v) (by omega)) W3_ok,[],_,_,sl_5 _ _ _ _ i (pr0 v) (pr1 v) (pr2 v) (pr3 v) k (cnt v) v (sx v k) (sy v k) _ _ _,
    gcons (g2 fun h1 h2=>⟨?_,k+1,lsub (dlt h1),dlt h1,?_⟩) (gcons (g2 fun h1 h2=>⟨?_,k+1,lsub (dlt h1),dlt h1,?_⟩) (gone (g1 fun h1=>⟨A3 (fm1 (cnt_v v)),fun s2 hs2=>?_⟩)))⟩
   · have hk1:=dlt h1
     repeat' (first | exact all_nil | refine fm ?_ ?_)
     all_goals first | exact ibd hlt | exact isD_len vs | exact hat | exact cnt_v v | exact vsuc (by omega) | rfl
   rotate_left
   · have hk1:=dlt h1
     repeat' (first | exact all_nil | refine fm ?_ ?_)
     all_goals first | exact ibd hlt | exact isD_len vs | exact hat | exact cnt_v v | exact vsuc (by omega) | rfl
   rotate_right
   · have h2:(set8F (accK v l k) (sx v k) (sy v k) (pr0 v) (pr1 v) (pr2 v) (pr3 v)).2=0:=by simpa using h2
     show Goes Tryz.prog 3 Tryz.f21.ntmps _ (sSk vs.length (isD vs) (accK v l (k+1)).length (tlD (accK v l (k+1))) i (pr0 v) (pr1 v) (pr2 v) (pr3 v) (k+1))
     rw [accK_step,show stpF v (accK v l k) k=_ from if_pos h2]; exact .refl
   · have h2:¬ (set8F (accK v l k) (sx v k) (sy v k) (pr0 v) (pr1 v) (pr2 v) (pr3 v)).2=0:=by simpa using h2
     show Goes Tryz.prog 3 Tryz.f21.ntmps _ (sSk vs.length (isD vs) (accK v l (k+1)).length (tlD (accK v l (k+1))) i (pr0 v) (pr1 v) (pr2 v) (pr3 v) (k+1))
     rw [accK_step,show stpF v (accK v l k) k=_ from if_neg h2]; exact .refl
   · have hkc:k=cnt v:=by have:=dge h1; omega
     subst hkc
     rw [outOf_exit]
     simp only [andThen,outOf,if_false,reduceCtorEq]
     refine TG_norm hs2 (isE W3_ok anyR (sl_6 _ _ _ _ i _ _ _ _ _) (gone (g0 ⟨fm1 (vsuc (by omega)),fun s3 hs3=>⟨i+1,lsub hlt,hlt,?_⟩⟩)))
     rw [smallF_step hv,hL]
     exact .norm hs3
 · have hge:=dge h
   obtain rfl:i=vs.length:=by omega
   simp only [andThen,outOf_exit]
   refine TG_norm hs' (retE W3_ok (sl_7 _ _ _ _ _) (gone (g0 ⟨all_nil,_,_,_,rfl,?_⟩)))
   rw [List.take_length]; rfl
end Go.Proofs.YtmjggdmekboefaaGreatDoor
namespace Go.Proofs.YtmjggdmekboefaaGreatDoor
open Go Go.Eng
noncomputable abbrev cdMd:Code:=bodyOf Tryz.f57
noncomputable abbrev tlMd:Code:=tailN 3 cdMd
noncomputable abbrev tlMe:Code:=tailN 1 tlMd
noncomputable abbrev tlMf:Code:=tailN 3 tlMe
def a16 (v:Int):Int:=IntKind.i64.wrap (Int.ofNat (BitVec.ofInt 64 v &&& BitVec.ofInt 64 (65535:Int)).toNat)
def apI (ks:List Int) (m:Nat) (x:Int):List Int:=List.take (m * 1) (List.drop 0 ks) ++ [x]
def crv (T lw c:Int):Int:=IntKind.i64.wrap (lw+IntKind.i64.wrap ((IntKind.i64.wrap (c * IntKind.i64.wrap ((65535:Int) - lw))).tdiv T))
def sM1 (n:Nat) (cs:List D) (ks:List Int) (m:Nat) (T:Int) (i:Nat):St:=stG [(0,.lst false n cs),(3,.slc (some (3,0)) m m 1),(4,iX T),(5,iW i)] (hL [(3,.own .i64 ks)]) 4
def sM2 (ks:List Int) (m:Nat) (T lw:Int) (i:Nat):St:=stG [(3,.slc (some (3,0)) m m 1),(4,iX T),(6,iX lw),(7,iW i)] (hL [(3,.own .i64 ks)]) 4
theorem md_1 (n:Nat) (cs:List D):∃ L,RunIs Tryz.prog (csH W3 []) [] 1000 3 Tryz.f57 [0,3,4] (headN 3 cdMd) (startSt [.lst false n cs] .nil 3) L
  [([],
   [],
   .to .normal (stG [(0,.lst false n cs),(3,.slc (some (3,0)) 1 1 1),(4,.int .i64 0)] (hL [(3,.cells [.int .i64 0])]) 4))]
 :=RunIs.of (by kernel_rfl) (by kernel_rfl) (by kernel_rfl)
theorem md_2 (n:Nat) (cs:List D):∃ L,RunIs Tryz.prog (csH W3 []) [] 1000 3 Tryz.f57 [0,3,4,5] (seqL (seqL tlMd)) (stG [(0,.lst false n cs),(3,.slc (some (3,0)) 1 1 1),(4,iX 0)] (hL [(3,.own .i64 [0])]) 4) L
  [([],
   [],
   .to .normal (sM1 n cs [0] 1 0 0))]
 :=RunIs.of (by kernel_rfl) (by kernel_rfl) (by kernel_rfl)
theorem md_3 (n:Nat) (cs:List D) (ks:List Int) (m:Nat) (T:Int) (i:Nat) (v:Int):∃ L,RunIs Tryz.prog (csH W3 []) [(13,.split),(15,.give (.bool true)),(22,.give (.fptr [.int .i64 v])),(18,.give (iW (i+1)))] 1000 3 Tryz.f57 [0,3,4,5] (inner (inner (seqR (seqL tlMd)))) (sM1 n cs ks m T i) L
  [([((decide (Int.ofNat i < (Int.ofNat n))),true)],
   [(V.bool (decide (Int.ofNat i < (256:Int)))=V.bool true),((0:Int) ≤ Int.ofNat i∧Int.ofNat i < (Int.ofNat n)),(cs.length=n * 1),(V.fptr (cellsAt cs (i * 1) 1)=V.fptr [D.int IntKind.i64 v]),(0 < m),(0+m * 1 ≤ ks.length),(0 < 1),(roomy (m+1) 1 8=true),(V.int IntKind.i64 (IntKind.i64.wrap (Int.ofNat i+(1:Int)))=iW (i+1))],
   .to .normal (sM1 n cs (apI ks m (IntKind.i64.wrap (T+a16 v))) (m+1) (IntKind.i64.wrap (T+a16 v)) (i+1))),
  ([((decide (Int.ofNat i < (Int.ofNat n))),false)],
   [],
   .to (.exit 0) (sM1 n cs ks m T i))]
 :=RunIs.of (by kernel_rfl) (by kernel_rfl) (by kernel_rfl)
theorem md_4 (n:Nat) (cs:List D) (ks:List Int) (m:Nat) (T:Int) (i:Nat) (v w:Int):∃ L,RunIs Tryz.prog (csH W3 []) [(32,.give (.bool false)),(39,.give (.bool true)),(41,.give (.fptr [.int .i64 v])),(44,.split),(47,.give (.fptr [.int .i64 w]))] 1000 3 Tryz.f57 [3,4,6] (headN 3 tlMe) (sM1 n cs ks m T i) L
  [([((IntKind.i64.wrap (Int.ofNat (BitVec.ofInt 64 v &&& BitVec.ofInt 64 (7:Int)).toNat) == (3:Int)),true)],
   [(V.bool (decide ((Int.ofNat m) < (2:Int)))=V.bool false),(V.bool (decide ((Int.ofNat n) > (2:Int)))=V.bool true),((0:Int) ≤ (0:Int)∧(0:Int) < (Int.ofNat n)),(cs.length=n * 1),(V.fptr (cellsAt cs 0 1)=V.fptr [D.int IntKind.i64 v]),((0:Int) ≤ (1:Int)∧(1:Int) < (Int.ofNat n)),(cs.length=n * 1),(V.fptr (cellsAt cs 1 1)=V.fptr [D.int IntKind.i64 w])],
   .to .normal (stG [(3,.slc (some (3,0)) m m 1),(4,iX T),(6,iX (IntKind.i64.wrap (Int.ofNat (BitVec.ofInt 64 w &&& BitVec.ofInt 64 (4095:Int)).toNat)))] (hL [(3,.own .i64 ks)]) 4)),
  ([((IntKind.i64.wrap (Int.ofNat (BitVec.ofInt 64 v &&& BitVec.ofInt 64 (7:Int)).toNat) == (3:Int)),false)],
   [(V.bool (decide ((Int.ofNat m) < (2:Int)))=V.bool false),(V.bool (decide ((Int.ofNat n) > (2:Int)))=V.bool true),((0:Int) ≤ (0:Int)∧(0:Int) < (Int.ofNat n)),(cs.length=n * 1),(V.fptr (cellsAt cs 0 1)=V.fptr [D.int IntKind.i64 v])],
   .to .normal (stG [(3,.slc (some (3,0)) m m 1),(4,iX T),(6,iX 0)] (hL [(3,.own .i64 ks)]) 4))]
 :=RunIs.of (by kernel_rfl) (by kernel_rfl) (by kernel_rfl)
theorem md_5 (ks:List Int) (m:Nat) (T lw:Int):∃ L,RunIs Tryz.prog (csH W3 []) [] 1000 3 Tryz.f57 [3,4,6,7] (seqL (seqL tlMf)) (stG [(3,.slc (some (3,0)) m m 1),(4,iX T),(6,iX lw)] (hL [(3,.own .i64 ks)]) 4) L
  [([],
   [],
   .to .normal (sM2 ks m T lw 0))]
 :=RunIs.of (by kernel_rfl) (by kernel_rfl) (by kernel_rfl)
theorem md_6 (ks:List Int) (m:Nat) (T lw:Int) (i:Nat) (c:Int):∃ L,RunIs Tryz.prog (csH W3 []) [(54,.split),(56,.split),(66,.give (iX c)),(59,.give (iW (i+1)))] 1000 3 Tryz.f57 [3,4,6,7] (inner (inner (seqR (seqL tlMf)))) (sM2 ks m T lw i) L
  [([((decide (Int.ofNat i < (Int.ofNat m))),true),((decide (T > (0:Int))),true)],
   [((0:Int) ≤ Int.ofNat i∧Int.ofNat i < (Int.ofNat m)),(0+i * 1 < ks.length),(V.int IntKind.i64 (ks.getD (0+i * 1) (0:Int))=iX c),(T ≠ (0:Int)),((0:Int) ≤ Int.ofNat i∧Int.ofNat i < (Int.ofNat m)),(0+i * 1+1 ≤ ks.length),(V.int IntKind.i64 (IntKind.i64.wrap (Int.ofNat i+(1:Int)))=iW (i+1))],
   .to .normal (sM2 (putI ks (0+i * 1) [crv T lw c]) m T lw (i+1))),
  ([((decide (Int.ofNat i < (Int.ofNat m))),true),((decide (T > (0:Int))),false)],
   [],
   .to (.exit 2) (sM2 ks m T lw i)),
  ([((decide (Int.ofNat i < (Int.ofNat m))),false)],
   [],
   .to (.exit 2) (sM2 ks m T lw i))]
 :=RunIs.of (by kernel_rfl) (by kernel_rfl) (by kernel_rfl)
theorem md_7 (ks:List Int) (m:Nat) (T lw:Int) (i:Nat):∃ L,RunIs Tryz.prog (csH W3 []) [] 1000 3 Tryz.f57 [] (seqR tlMf) (sM2 ks m T lw i) L
  [([],
   [],
   .ret (.slc (some (3,0)) m m 1) (hL [(3,.own .i64 ks)]) 4)]
 :=RunIs.of (by kernel_rfl) (by kernel_rfl) (by kernel_rfl)
end Go.Proofs.YtmjggdmekboefaaGreatDoor
namespace Go.Proofs.YtmjggdmekboefaaGreatDoor
open Go Go.Eng
def cum (s:List Int):List Int × Int:=s.foldl (fun x v=>(x.1 ++ [IntKind.i64.wrap (x.2+a16 v)],IntKind.i64.wrap (x.2+a16 v))) ([0],0)
theorem cum_step {s:List Int} {i:Nat} {v:Int} (h:s[i]? =some v):cum (s.take (i+1))=((cum (s.take i)).1 ++ [IntKind.i64.wrap ((cum (s.take i)).2+a16 v)],IntKind.i64.wrap ((cum (s.take i)).2+a16 v)):=by
 unfold cum
 rw [List.take_add_one,h,List.foldl_append]; rfl
theorem cum_len (s:List Int):(cum s).1.length=s.length+1:=by
 have:∀ (s:List Int) (x:List Int × Int),(s.foldl (fun x v=>(x.1 ++ [IntKind.i64.wrap (x.2+a16 v)],IntKind.i64.wrap (x.2+a16 v))) x).1.length=x.1.length+s.length:=by
  intro s
  induction s with
  | nil=>intro x; rfl
  | cons v s ih=>intro x; rw [List.foldl_cons,ih,List.length_append]; simp; omega
 unfold cum
 rw [this]; simp; omega
theorem apI_eq (ks:List Int) (x:Int):apI ks ks.length x=ks ++ [x]:=by
 unfold apI
 rw [List.drop_zero,Nat.mul_one,List.take_length]
def mx (f:Int→Int) (ks:List Int) (i:Nat):List Int:=(ks.take i).map f ++ ks.drop i
theorem mx_len (f:Int→Int) (ks:List Int) (i:Nat):(mx f ks i).length=ks.length:=by
 unfold mx
 rw [List.length_append,List.length_map,List.length_take,List.length_drop]; omega
theorem mx_get {f:Int→Int} {ks:List Int} {i:Nat} {c:Int} (h:ks[i]? =some c):(mx f ks i).getD (0+i * 1) 0=c:=by
 have hlt:i < ks.length:=(List.getElem?_eq_some_iff.1 h).1
 unfold mx
 rw [List.getD_eq_getElem?_getD,Nat.zero_add,Nat.mul_one,List.getElem?_append_right (by rw [List.length_map,List.length_take]; omega),List.length_map,List.length_take,List.getElem?_drop,show i+(i - min i ks.length)=i by omega,h]; rfl
theorem mx_put {f:Int→Int} {ks:List Int} {i:Nat} {c:Int} (h:ks[i]? =some c):putI (mx f ks i) (0+i * 1) [f c]=mx f ks (i+1):=by
 have hlt:i < ks.length:=(List.getElem?_eq_some_iff.1 h).1
 have hv:ks[i]=c:=(List.getElem?_eq_some_iff.1 h).2
 have hl:((ks.take i).map f).length=i:=by rw [List.length_map,List.length_take]; omega
 unfold putI mx
 rw [Nat.zero_add,Nat.mul_one,List.take_left' hl,List.length_singleton,← List.drop_drop,List.drop_left' hl,List.drop_drop,List.take_add_one,h,List.map_append]
 simp
def lowF (s:List Int):Int:=match s with
 | v :: w :: _=>if IntKind.i64.wrap (Int.ofNat (BitVec.ofInt 64 v &&& BitVec.ofInt 64 (7:Int)).toNat)=3 then IntKind.i64.wrap (Int.ofNat (BitVec.ofInt 64 w &&& BitVec.ofInt 64 (4095:Int)).toNat) else 0
 | _=>0
def mdF (s:List Int):List Int:=if 0 < (cum s).2 then (cum s).1.map (crv (cum s).2 (lowF s)) else (cum s).1
theorem roomy8 {k:Nat} (h:k ≤ 100000):roomy k 1 8=true:=decide_eq_true ⟨by omega,by omega⟩
theorem madeD (s:List Int) (h2:2 < s.length) (h3:s.length ≤ 200):DeepTo Tryz.prog 57 [isV s] (isV (mdF s)):=by
 refine deepN Tryz.func57 ?_
 refine isE1 3 W3_ok (md_1 s.length (isD s)) all_nil (TG_own [(3,.i64)] (s2:=stG [(0,.lst false s.length (isD s)),(3,.slc (some (3,0)) 1 1 1),(4,iX 0)] (hL [(3,.own .i64 [0])]) 4) (by kernel_rfl) ?_)
 refine loopF W3_ok 0 _ [0,3,4,5] (s.length - ·) (· ≤ s.length) (fun i=>sM1 s.length (isD s) (cum (s.take i)).1 (cum (s.take i)).1.length (cum (s.take i)).2 i) 0 (Nat.zero_le _) (md_2 _ _) all_nil .refl fun i hi=>?_
 have hl:=cum_len (s.take i)
 rw [List.length_take,Nat.min_eq_left hi] at hl
 refine ⟨_,W3_ok,[],_,_,md_3 _ _ _ _ _ i (s.getD i 0),gcons (g1 fun h=>?_) (gone (g1 fun h=>⟨all_nil,rfl,?_⟩))⟩
 · have hlt:=dlt h
   obtain ⟨v,hv⟩:∃ v,s[i]? =some v:=⟨_,List.getElem?_eq_getElem hlt⟩
   have ev:s.getD i 0=v:=by rw [List.getD_eq_getElem?_getD,hv]; rfl
   rw [ev]
   refine ⟨fm (congrArg V.bool (decide_eq_true (by simp only [hOn]; omega))) (fm (ibd hlt) (fm (isD_len s) (fm (isD_at hv) (fm (by omega) (fm (by omega) (fm Nat.zero_lt_one (fm (roomy8 (by omega)) (fm1 (vsuc (by omega)))))))))),i+1,lsub hlt,hlt,?_⟩
   show Goes _ _ _ _ (sM1 s.length (isD s) (cum (s.take (i+1))).1 (cum (s.take (i+1))).1.length (cum (s.take (i+1))).2 (i+1))
   rw [cum_step hv,apI_eq]
   simp only [List.length_append,List.length_singleton]
   exact .refl
 obtain rfl:i=s.length:=by have:=dge h; omega
 clear h
 rw [List.take_length] at hl ⊢
 obtain ⟨v,w,r,rfl⟩:∃ v w r,s=v :: w :: r:=by
  match s,h2 with
  | v :: w :: r,_=>exact ⟨v,w,r,rfl⟩
 generalize hs:v :: w :: r=s at *
 have hvw:s[0]? =some v∧s[1]? =some w:=by subst hs; exact ⟨rfl,rfl⟩
 have hlow:lowF s=if IntKind.i64.wrap (Int.ofNat (BitVec.ofInt 64 v &&& BitVec.ofInt 64 (7:Int)).toNat)=3 then IntKind.i64.wrap (Int.ofNat (BitVec.ofInt 64 w &&& BitVec.ofInt 64 (4095:Int)).toNat) else 0:=by subst hs; rfl
 have fin:∀ lw,lw=lowF s→TG Tryz.prog 3 Tryz.f57.ntmps tlMf (stG [(3,.slc (some (3,0)) (cum s).1.length (cum s).1.length 1),(4,iX (cum s).2),(6,iX lw)] (hL [(3,.own .i64 (cum s).1)]) 4) (RetG Tryz.prog 3 Tryz.f57 (FzN (isV (mdF s)))):=by
  intro lw hw
  refine loopF W3_ok 2 _ [3,4,6,7] ((cum s).1.length - ·) (fun i=>i ≤ (cum s).1.length∧(0 < i→0 < (cum s).2)) (fun i=>sM2 (mx (crv (cum s).2 lw) (cum s).1 i) (cum s).1.length (cum s).2 lw i) 0 ⟨Nat.zero_le _,fun h=>absurd h (Nat.lt_irrefl _)⟩ (md_5 _ _ _ _) all_nil .refl fun i ⟨hi,hT⟩=>?_
  have ret:∀ ks,ks=mdF s→ks.length=(cum s).1.length→∀ i,TG Tryz.prog 3 Tryz.f57.ntmps (seqR tlMf) (sM2 ks (cum s).1.length (cum s).2 lw i) (RetG Tryz.prog 3 Tryz.f57 (FzN (isV (mdF s)))):=by
   intro ks hk hkl i
   rw [← hkl,← hk]
   exact retE W3_ok (md_7 ks ks.length (cum s).2 lw i) (gone (g0 ⟨all_nil,_,_,_,rfl,.frz (v0:=isV ks) [3] (A:=[(isD ks).length=ks.length * 1]) (by kernel_rfl) (fm1 (isD_len ks)) (by kernel_rfl) (by kernel_rfl)⟩))
  refine ⟨_,W3_ok,[],_,_,md_6 _ _ _ _ i ((cum s).1.getD i 0),gcons (g2 fun h h0=>?_) (gcons (g2 fun h h0=>⟨all_nil,rfl,?_⟩) (gone (g1 fun h=>⟨all_nil,rfl,?_⟩)))⟩
  · have hlt:=dlt h
    have h0:0 < (cum s).2:=of_decide_eq_true h0
    obtain ⟨c,hc⟩:∃ c,(cum s).1[i]? =some c:=⟨_,List.getElem?_eq_getElem hlt⟩
    have ev:(cum s).1.getD i 0=c:=by rw [List.getD_eq_getElem?_getD,hc]; rfl
    rw [ev,mx_put hc]
    exact ⟨fm (ibd hlt) (fm (by rw [mx_len]; omega) (fm (by rw [mx_get hc]) (fm (by omega) (fm (ibd hlt) (fm (by rw [mx_len]; omega) (fm1 (vsuc (by omega)))))))),i+1,lsub hlt,⟨hlt,fun _=>h0⟩,.refl⟩
  · have h0:¬ 0 < (cum s).2:=of_decide_eq_false h0
    obtain rfl:i=0:=by
     rcases Nat.eq_zero_or_pos i with q | q
     · exact q
     · exact absurd (hT q) h0
    refine ret _ ?_ (mx_len ..) _
    rw [show mdF s=(cum s).1 from if_neg h0]; rfl
  · obtain rfl:i=(cum s).1.length:=by have:=dge h; omega
    refine ret _ ?_ (mx_len ..) _
    rw [show mdF s=_ from if_pos (hT (by omega)),← hw]
    unfold mx
    rw [List.take_length,List.drop_length,List.append_nil]
 have hm:V.bool (decide ((Int.ofNat (cum s).1.length) < (2:Int)))=V.bool false:=congrArg V.bool (decide_eq_false (by simp only [hOn]; omega))
 have hn:V.bool (decide ((Int.ofNat s.length) > (2:Int)))=V.bool true:=congrArg V.bool (decide_eq_true (by simp only [hOn]; omega))
 have b0:(0:Int) ≤ (0:Int)∧(0:Int) < (Int.ofNat s.length):=⟨Int.le_refl _,by simp only [hOn]; omega⟩
 have b1:(0:Int) ≤ (1:Int)∧(1:Int) < (Int.ofNat s.length):=⟨by decide,by simp only [hOn]; omega⟩
 refine isEN 3 W3_ok (md_4 s.length (isD s) (cum s).1 (cum s).1.length (cum s).2 s.length v w) (gcons (g1 fun h=>⟨fm hm (fm hn (fm b0 (fm (isD_len s) (fm (isD_at hvw.1) (fm b1 (fm (isD_len s) (fm1 (isD_at hvw.2)))))))),_,rfl,fin _ ?_⟩) (gone (g1 fun h=>⟨fm hm (fm hn (fm b0 (fm (isD_len s) (fm1 (isD_at hvw.1))))),_,rfl,fin _ ?_⟩)))
 · rw [hlow,if_pos (by simpa using h)]
 · rw [hlow,if_neg (by simpa using h)]
end Go.Proofs.YtmjggdmekboefaaGreatDoor
namespace Go.Proofs.YtmjggdmekboefaaGreatDoor
open Go Go.Eng
noncomputable abbrev cdFm:Code:=bodyOf Tryz.f23
noncomputable abbrev tlFm:Code:=tailN 3 cdFm
def ar60 (f:Nat→Int):List V:=(List.range 60).map fun j=>iX (f j)
def f12 (s:List Int) (j:Nat):Int:=match s[j]? with
 | some v=>a16 v
 | none=>0
def kerF (f:Nat→Int) (n:Nat):List Int:=(List.range n).map fun i=>IntKind.i64.wrap ((f (3+i)).tmod 9 - 2)
def sFm (n:Nat) (cs:List D) (f:Nat→Int):St:=stG [(0,.lst false n cs),(2,.ptr (some (3,0))),(3,.ptr (some (4,0)))] (hL [(3,.cells [iX 0,iX 0,.slc none 0 0 0,iX 0,iX 0,.slc none 0 0 0]),(4,.cells (ar60 f))]) 5
abbrev v12 (a b c d e g h i j k l m:Int):V:=.lst false 12 [.int .i64 a,.int .i64 b,.int .i64 c,.int .i64 d,.int .i64 e,.int .i64 g,.int .i64 h,.int .i64 i,.int .i64 j,.int .i64 k,.int .i64 l,.int .i64 m]
theorem fm_0 (a b c d e g h i j k l m:Int):∃ L,RunIs Tryz.prog (csH W3 []) [] 1000 3 Tryz.f23 [0,2,3] (headN 3 cdFm) (startSt [v12 a b c d e g h i j k l m] .nil 3) L
  [([],
   [((0:Int) ≤ (0:Int)∧(0:Int) < (12:Int)),([D.int IntKind.i64 a,D.int IntKind.i64 b,D.int IntKind.i64 c,D.int IntKind.i64 d,D.int IntKind.i64 e,D.int IntKind.i64 g,D.int IntKind.i64 h,D.int IntKind.i64 i,D.int IntKind.i64 j,D.int IntKind.i64 k,D.int IntKind.i64 l,D.int IntKind.i64 m].length=12),((0:Int) ≤ (0:Int)∧(0:Int) < (60:Int)),((0:Int) ≤ (1:Int)∧(1:Int) < (12:Int)),([D.int IntKind.i64 a,D.int IntKind.i64 b,D.int IntKind.i64 c,D.int IntKind.i64 d,D.int IntKind.i64 e,D.int IntKind.i64 g,D.int IntKind.i64 h,D.int IntKind.i64 i,D.int IntKind.i64 j,D.int IntKind.i64 k,D.int IntKind.i64 l,D.int IntKind.i64 m].length=12),((0:Int) ≤ (1:Int)∧(1:Int) < (60:Int)),((0:Int) ≤ (2:Int)∧(2:Int) < (12:Int)),([D.int IntKind.i64 a,D.int IntKind.i64 b,D.int IntKind.i64 c,D.int IntKind.i64 d,D.int IntKind.i64 e,D.int IntKind.i64 g,D.int IntKind.i64 h,D.int IntKind.i64 i,D.int IntKind.i64 j,D.int IntKind.i64 k,D.int IntKind.i64 l,D.int IntKind.i64 m].length=12),((0:Int) ≤ (2:Int)∧(2:Int) < (60:Int)),((0:Int) ≤ (3:Int)∧(3:Int) < (12:Int)),([D.int IntKind.i64 a,D.int IntKind.i64 b,D.int IntKind.i64 c,D.int IntKind.i64 d,D.int IntKind.i64 e,D.int IntKind.i64 g,D.int IntKind.i64 h,D.int IntKind.i64 i,D.int IntKind.i64 j,D.int IntKind.i64 k,D.int IntKind.i64 l,D.int IntKind.i64 m].length=12),((0:Int) ≤ (3:Int)∧(3:Int) < (60:Int)),((0:Int) ≤ (4:Int)∧(4:Int) < (12:Int)),([D.int IntKind.i64 a,D.int IntKind.i64 b,D.int IntKind.i64 c,D.int IntKind.i64 d,D.int IntKind.i64 e,D.int IntKind.i64 g,D.int IntKind.i64 h,D.int IntKind.i64 i,D.int IntKind.i64 j,D.int IntKind.i64 k,D.int IntKind.i64 l,D.int IntKind.i64 m].length=12),((0:Int) ≤ (4:Int)∧(4:Int) < (60:Int)),((0:Int) ≤ (5:Int)∧(5:Int) < (12:Int)),([D.int IntKind.i64 a,D.int IntKind.i64 b,D.int IntKind.i64 c,D.int IntKind.i64 d,D.int IntKind.i64 e,D.int IntKind.i64 g,D.int IntKind.i64 h,D.int IntKind.i64 i,D.int IntKind.i64 j,D.int IntKind.i64 k,D.int IntKind.i64 l,D.int IntKind.i64 m].length=12),((0:Int) ≤ (5:Int)∧(5:Int) < (60:Int)),((0:Int) ≤ (6:Int)∧(6:Int) < (12:Int)),([D.int IntKind.i64 a,D.int IntKind.i64 b,D.int IntKind.i64 c,D.int IntKind.i64 d,D.int IntKind.i64 e,D.int IntKind.i64 g,D.int IntKind.i64 h,D.int IntKind.i64 i,D.int IntKind.i64 j,D.int IntKind.i64 k,D.int IntKind.i64 l,D.int IntKind.i64 m].length=12),((0:Int) ≤ (6:Int)∧(6:Int) < (60:Int)),((0:Int) ≤ (7:Int)∧(7:Int) < (12:Int)),([D.int IntKind.i64 a,D.int IntKind.i64 b,D.int IntKind.i64 c,D.int IntKind.i64 d,D.int IntKind.i64 e,D.int IntKind.i64 g,D.int IntKind.i64 h,D.int IntKind.i64 i,D.int IntKind.i64 j,D.int IntKind.i64 k,D.int IntKind.i64 l,D.int IntKind.i64 m].length=12),((0:Int) ≤ (7:Int)∧(7:Int) < (60:Int)),((0:Int) ≤ (8:Int)∧(8:Int) < (12:Int)),([D.int IntKind.i64 a,D.int IntKind.i64 b,D.int IntKind.i64 c,D.int IntKind.i64 d,D.int IntKind.i64 e,D.int IntKind.i64 g,D.int IntKind.i64 h,D.int IntKind.i64 i,D.int IntKind.i64 j,D.int IntKind.i64 k,D.int IntKind.i64 l,D.int IntKind.i64 m].length=12),((0:Int) ≤ (8:Int)∧(8:Int) < (60:Int)),((0:Int) ≤ (9:Int)∧(9:Int) < (12:Int)),([D.int IntKind.i64 a,D.int IntKind.i64 b,D.int IntKind.i64 c,D.int IntKind.i64 d,D.int IntKind.i64 e,D.int IntKind.i64 g,D.int IntKind.i64 h,D.int IntKind.i64 i,D.int IntKind.i64 j,D.int IntKind.i64 k,D.int IntKind.i64 l,D.int IntKind.i64 m].length=12),((0:Int) ≤ (9:Int)∧(9:Int) < (60:Int)),((0:Int) ≤ (10:Int)∧(10:Int) < (12:Int)),([D.int IntKind.i64 a,D.int IntKind.i64 b,D.int IntKind.i64 c,D.int IntKind.i64 d,D.int IntKind.i64 e,D.int IntKind.i64 g,D.int IntKind.i64 h,D.int IntKind.i64 i,D.int IntKind.i64 j,D.int IntKind.i64 k,D.int IntKind.i64 l,D.int IntKind.i64 m].length=12),((0:Int) ≤ (10:Int)∧(10:Int) < (60:Int)),((0:Int) ≤ (11:Int)∧(11:Int) < (12:Int)),([D.int IntKind.i64 a,D.int IntKind.i64 b,D.int IntKind.i64 c,D.int IntKind.i64 d,D.int IntKind.i64 e,D.int IntKind.i64 g,D.int IntKind.i64 h,D.int IntKind.i64 i,D.int IntKind.i64 j,D.int IntKind.i64 k,D.int IntKind.i64 l,D.int IntKind.i64 m].length=12),((0:Int) ≤ (11:Int)∧(11:Int) < (60:Int))],
   .to .normal (sFm 12 [.int .i64 a,.int .i64 b,.int .i64 c,.int .i64 d,.int .i64 e,.int .i64 g,.int .i64 h,.int .i64 i,.int .i64 j,.int .i64 k,.int .i64 l,.int .i64 m] (f12 [a,b,c,d,e,g,h,i,j,k,l,m])))]
 :=RunIs.of (by kernel_rfl) (by kernel_rfl) (by kernel_rfl)
theorem fm_10 (n:Nat) (cs:List D) (f:Nat→Int):∃ L,RunIs Tryz.prog (csH W3 []) [(31,.give (iX 1)),(36,.give (iX 0))] 1000 3 Tryz.f23 [] (tlFm) (sFm n cs f) L
  [([],
   [(V.int IntKind.i64 (IntKind.i64.wrap ((1:Int)+(f (0)).tmod (8:Int)))=iX (1:Int)),(V.int IntKind.i64 ((f (1)).tmod (3:Int))=iX (0:Int)),((0:Int) ≤ (3:Int)∧(3:Int) < (60:Int))],
   .ret (.agg [iX (IntKind.i64.wrap (1+(f 0).tmod 8)),iX 0,.slc (some (3,0)) 1 1 1,iX (IntKind.i64.wrap (1+(f 2).tmod 20)),iX 0,.slc none 0 0 0]) (hL [(3,.cells ((kerF f 1).map iX))]) 4)]
 :=RunIs.of (by kernel_rfl) (by kernel_rfl) (by kernel_rfl)
theorem fm_11 (n:Nat) (cs:List D) (f:Nat→Int):∃ L,RunIs Tryz.prog (csH W3 []) [(31,.give (iX 1)),(36,.give (iX 1))] 1000 3 Tryz.f23 [] (tlFm) (sFm n cs f) L
  [([],
   [(V.int IntKind.i64 (IntKind.i64.wrap ((1:Int)+(f (0)).tmod (8:Int)))=iX (1:Int)),(V.int IntKind.i64 ((f (1)).tmod (3:Int))=iX (1:Int)),((0:Int) ≤ (3:Int)∧(3:Int) < (60:Int)),((0:Int) ≤ (4:Int)∧(4:Int) < (60:Int)),((0:Int) ≤ (5:Int)∧(5:Int) < (60:Int)),((0:Int) ≤ (6:Int)∧(6:Int) < (60:Int)),((0:Int) ≤ (7:Int)∧(7:Int) < (60:Int)),((0:Int) ≤ (8:Int)∧(8:Int) < (60:Int)),((0:Int) ≤ (9:Int)∧(9:Int) < (60:Int)),((0:Int) ≤ (10:Int)∧(10:Int) < (60:Int)),((0:Int) ≤ (11:Int)∧(11:Int) < (60:Int))],
   .ret (.agg [iX (IntKind.i64.wrap (1+(f 0).tmod 8)),iX 1,.slc (some (3,0)) 9 9 1,iX (IntKind.i64.wrap (1+(f 2).tmod 20)),iX 0,.slc none 0 0 0]) (hL [(3,.cells ((kerF f 9).map iX))]) 4)]
 :=RunIs.of (by kernel_rfl) (by kernel_rfl) (by kernel_rfl)
theorem fm_12 (n:Nat) (cs:List D) (f:Nat→Int):∃ L,RunIs Tryz.prog (csH W3 []) [(31,.give (iX 1)),(36,.give (iX 2))] 1000 3 Tryz.f23 [] (tlFm) (sFm n cs f) L
  [([],
   [(V.int IntKind.i64 (IntKind.i64.wrap ((1:Int)+(f (0)).tmod (8:Int)))=iX (1:Int)),(V.int IntKind.i64 ((f (1)).tmod (3:Int))=iX (2:Int)),((0:Int) ≤ (3:Int)∧(3:Int) < (60:Int)),((0:Int) ≤ (4:Int)∧(4:Int) < (60:Int)),((0:Int) ≤ (5:Int)∧(5:Int) < (60:Int)),((0:Int) ≤ (6:Int)∧(6:Int) < (60:Int)),((0:Int) ≤ (7:Int)∧(7:Int) < (60:Int)),((0:Int) ≤ (8:Int)∧(8:Int) < (60:Int)),((0:Int) ≤ (9:Int)∧(9:Int) < (60:Int)),((0:Int) ≤ (10:Int)∧(10:Int) < (60:Int)),((0:Int) ≤ (11:Int)∧(11:Int) < (60:Int)),((0:Int) ≤ (12:Int)∧(12:Int) < (60:Int)),((0:Int) ≤ (13:Int)∧(13:Int) < (60:Int)),((0:Int) ≤ (14:Int)∧(14:Int) < (60:Int)),((0:Int) ≤ (15:Int)∧(15:Int) < (60:Int)),((0:Int) ≤ (16:Int)∧(16:Int) < (60:Int)),((0:Int) ≤ (17:Int)∧(17:Int) < (60:Int)),((0:Int) ≤ (18:Int)∧(18:Int) < (60:Int)),((0:Int) ≤ (19:Int)∧(19:Int) < (60:Int)),((0:Int) ≤ (20:Int)∧(20:Int) < (60:Int)),((0:Int) ≤ (21:Int)∧(21:Int) < (60:Int)),((0:Int) ≤ (22:Int)∧(22:Int) < (60:Int)),((0:Int) ≤ (23:Int)∧(23:Int) < (60:Int)),((0:Int) ≤ (24:Int)∧(24:Int) < (60:Int)),((0:Int) ≤ (25:Int)∧(25:Int) < (60:Int)),((0:Int) ≤ (26:Int)∧(26:Int) < (60:Int)),((0:Int) ≤ (27:Int)∧(27:Int) < (60:Int))],
   .ret (.agg [iX (IntKind.i64.wrap (1+(f 0).tmod 8)),iX 2,.slc (some (3,0)) 25 25 1,iX (IntKind.i64.wrap (1+(f 2).tmod 20)),iX 0,.slc none 0 0 0]) (hL [(3,.cells ((kerF f 25).map iX))]) 4)]
 :=RunIs.of (by kernel_rfl) (by kernel_rfl) (by kernel_rfl)
theorem fm_2 (n:Nat) (cs:List D) (f:Nat→Int):∃ L,RunIs Tryz.prog (csH W3 []) [(31,.give (iX 2))] 1000 3 Tryz.f23 [] (tlFm) (sFm n cs f) L
  [([],
   [(V.int IntKind.i64 (IntKind.i64.wrap ((1:Int)+(f (0)).tmod (8:Int)))=iX (2:Int))],
   .ret (.agg [.int .i64 (IntKind.i64.wrap ((1:Int)+(f (0)).tmod (8:Int))),.int .i64 ((f (1)).tmod (4:Int)),.slc none 0 0 0,.int .i64 0,.int .i64 0,.slc none 0 0 0]) (hL []) 3)]
 :=RunIs.of (by kernel_rfl) (by kernel_rfl) (by kernel_rfl)
theorem fm_3 (n:Nat) (cs:List D) (f:Nat→Int):∃ L,RunIs Tryz.prog (csH W3 []) [(31,.give (iX 3))] 1000 3 Tryz.f23 [] (tlFm) (sFm n cs f) L
  [([],
   [(V.int IntKind.i64 (IntKind.i64.wrap ((1:Int)+(f (0)).tmod (8:Int)))=iX (3:Int))],
   .ret (.agg [.int .i64 (IntKind.i64.wrap ((1:Int)+(f (0)).tmod (8:Int))),.int .i64 ((f (1)).tmod (4:Int)),.slc none 0 0 0,.int .i64 0,.int .i64 0,.slc none 0 0 0]) (hL []) 3)]
 :=RunIs.of (by kernel_rfl) (by kernel_rfl) (by kernel_rfl)
theorem fm_4 (n:Nat) (cs:List D) (f:Nat→Int):∃ L,RunIs Tryz.prog (csH W3 []) [(31,.give (iX 4))] 1000 3 Tryz.f23 [] (tlFm) (sFm n cs f) L
  [([],
   [(V.int IntKind.i64 (IntKind.i64.wrap ((1:Int)+(f (0)).tmod (8:Int)))=iX (4:Int))],
   .ret (.agg [.int .i64 (IntKind.i64.wrap ((1:Int)+(f (0)).tmod (8:Int))),.int .i64 ((f (1)).tmod (4:Int)),.slc none 0 0 0,.int .i64 0,.int .i64 0,.slc none 0 0 0]) (hL []) 3)]
 :=RunIs.of (by kernel_rfl) (by kernel_rfl) (by kernel_rfl)
theorem fm_6 (n:Nat) (cs:List D) (f:Nat→Int):∃ L,RunIs Tryz.prog (csH W3 []) [(31,.give (iX 6))] 1000 3 Tryz.f23 [] (tlFm) (sFm n cs f) L
  [([],
   [(V.int IntKind.i64 (IntKind.i64.wrap ((1:Int)+(f (0)).tmod (8:Int)))=iX (6:Int))],
   .ret (.agg [.int .i64 (IntKind.i64.wrap ((1:Int)+(f (0)).tmod (8:Int))),.int .i64 0,.slc none 0 0 0,.int .i64 0,.int .i64 0,.slc none 0 0 0]) (hL []) 3)]
 :=RunIs.of (by kernel_rfl) (by kernel_rfl) (by kernel_rfl)
theorem fm_7 (n:Nat) (cs:List D) (f:Nat→Int):∃ L,RunIs Tryz.prog (csH W3 []) [(31,.give (iX 7))] 1000 3 Tryz.f23 [] (tlFm) (sFm n cs f) L
  [([],
   [(V.int IntKind.i64 (IntKind.i64.wrap ((1:Int)+(f (0)).tmod (8:Int)))=iX (7:Int))],
   .ret (.agg [.int .i64 (IntKind.i64.wrap ((1:Int)+(f (0)).tmod (8:Int))),.int .i64 0,.slc none 0 0 0,.int .i64 0,.int .i64 ((f (1)).tmod (257:Int)),.slc none 0 0 0]) (hL []) 3)]
 :=RunIs.of (by kernel_rfl) (by kernel_rfl) (by kernel_rfl)
theorem fm_8 (n:Nat) (cs:List D) (f:Nat→Int):∃ L,RunIs Tryz.prog (csH W3 []) [(31,.give (iX 8))] 1000 3 Tryz.f23 [] (tlFm) (sFm n cs f) L
  [([],
   [(V.int IntKind.i64 (IntKind.i64.wrap ((1:Int)+(f (0)).tmod (8:Int)))=iX (8:Int))],
   .ret (.agg [.int .i64 (IntKind.i64.wrap ((1:Int)+(f (0)).tmod (8:Int))),.int .i64 (IntKind.i64.wrap ((f (1)).tmod (7:Int) - (3:Int))),.slc none 0 0 0,.int .i64 0,.int .i64 (IntKind.i64.wrap ((f (2)).tmod (7:Int) - (3:Int))),.slc none 0 0 0]) (hL []) 3)]
 :=RunIs.of (by kernel_rfl) (by kernel_rfl) (by kernel_rfl)
theorem fm_5 (f:Nat→Int) (a b c d e g h i j k l m:Int) (n:Nat) (cs:List D):∃ L,RunIs Tryz.prog (csH (pinN 57 [isV [b,c,d,e,g,h,i,j,k,l,m]] (.lst false n cs) W3) []) [(31,.give (iX 5))] 1000 3 Tryz.f23 [] (tlFm) (sFm 12 [.int .i64 a,.int .i64 b,.int .i64 c,.int .i64 d,.int .i64 e,.int .i64 g,.int .i64 h,.int .i64 i,.int .i64 j,.int .i64 k,.int .i64 l,.int .i64 m] f) L
  [([],
   [(V.int IntKind.i64 (IntKind.i64.wrap ((1:Int)+(f (0)).tmod (8:Int)))=iX (5:Int)),([D.int IntKind.i64 a,D.int IntKind.i64 b,D.int IntKind.i64 c,D.int IntKind.i64 d,D.int IntKind.i64 e,D.int IntKind.i64 g,D.int IntKind.i64 h,D.int IntKind.i64 i,D.int IntKind.i64 j,D.int IntKind.i64 k,D.int IntKind.i64 l,D.int IntKind.i64 m].length=12),((0:Int) ≤ (1:Int)∧(1:Int) ≤ (12:Int)),(pinA [isV [b,c,d,e,g,h,i,j,k,l,m]])],
   .ret (.agg [.int .i64 (IntKind.i64.wrap ((1:Int)+(f (0)).tmod (8:Int))),.int .i64 0,.slc none 0 0 0,.int .i64 0,.int .i64 0,.lst false n cs]) (hL []) 3)]
 :=RunIs.of (by kernel_rfl) (by kernel_rfl) (by kernel_rfl)
end Go.Proofs.YtmjggdmekboefaaGreatDoor
namespace Go.Proofs.YtmjggdmekboefaaGreatDoor
open Go Go.Eng
structure FL where
 k:Int
 r:Int
 ker:List Int
 dv:Int
 vl:Int
 cu:List Int
def FL.cs (f:FL):List V:=[iX f.k,iX f.r,isV f.ker,iX f.dv,iX f.vl,isV f.cu]
def FL.v (f:FL):V:=.agg f.cs
theorem a16_in (v:Int):0 ≤ a16 v∧a16 v ≤ 65535:=by
 unfold a16
 have h:(BitVec.ofInt 64 v &&& BitVec.ofInt 64 (65535:Int)).toNat ≤ 65535:=by
  rw [BitVec.toNat_and]; exact Nat.and_le_right
 rw [wrap_id (by simp only [hOn]; omega) (by simp only [hOn]; omega)]
 simp only [hOn]; omega
theorem f12_in (s:List Int) (j:Nat):0 ≤ f12 s j∧f12 s j ≤ 65535:=by
 unfold f12
 split
 · exact a16_in _
 · decide
theorem tm_in {x d:Int} (h:0 ≤ x) (hd:0 < d):0 ≤ x.tmod d∧x.tmod d < d:=by
 rw [Int.tmod_eq_emod_of_nonneg h]
 exact ⟨Int.emod_nonneg _ (by omega),Int.emod_lt_of_pos _ hd⟩
def kd13 (f:Nat→Int):Int:=IntKind.i64.wrap (1+(f 0).tmod 8)
def mk13 (s:List Int):FL:=
 if kd13 (f12 s)=1 then ⟨kd13 (f12 s),(f12 s 1).tmod 3,kerF (f12 s) ((2 * ((f12 s 1).tmod 3).toNat+1) * (2 * ((f12 s 1).tmod 3).toNat+1)),IntKind.i64.wrap (1+(f12 s 2).tmod 20),0,[]⟩
 else if kd13 (f12 s)=2 ∨ kd13 (f12 s)=3 ∨ kd13 (f12 s)=4 then ⟨kd13 (f12 s),(f12 s 1).tmod 4,[],0,0,[]⟩
 else if kd13 (f12 s)=5 then ⟨kd13 (f12 s),0,[],0,0,mdF (s.drop 1)⟩
 else if kd13 (f12 s)=7 then ⟨kd13 (f12 s),0,[],0,(f12 s 1).tmod 257,[]⟩
 else if kd13 (f12 s)=8 then ⟨kd13 (f12 s),IntKind.i64.wrap ((f12 s 1).tmod 7 - 3),[],0,IntKind.i64.wrap ((f12 s 2).tmod 7 - 3),[]⟩
 else ⟨kd13 (f12 s),0,[],0,0,[]⟩
theorem kerF_len (f:Nat→Int) (n:Nat):(kerF f n).length=n:=by simp [kerF]
theorem mk13D (a b c d e' g h i j k l m:Int):DeepTo Tryz.prog 23 [v12 a b c d e' g h i j k l m] (mk13 [a,b,c,d,e',g,h,i,j,k,l,m]).v:=by
 refine deepN Tryz.func23 ?_
 refine isE1 3 W3_ok (fm_0 a b c d e' g h i j k l m) ?_ ?_
 · repeat' (first | exact all_nil | refine fm ?_ ?_)
   all_goals first | decide | rfl
 generalize hs:[a,b,c,d,e',g,h,i,j,k,l,m]=s
 have hin:=f12_in s
 have h0:=tm_in (hin 0).1 (d:=8) (by decide)
 have h1:=tm_in (hin 1).1 (d:=3) (by decide)
 have hk:kd13 (f12 s)=1+(f12 s 0).tmod 8:=wrap_id (by omega) (by omega)
 have hk':∀ q:Int,kd13 (f12 s)=q→V.int IntKind.i64 (IntKind.i64.wrap ((1:Int)+(f12 s 0).tmod (8:Int)))=iX q:=fun q e=>congrArg _ e
 have A {r:List Prop} (hr:∀ x ∈ r,x):∀ x ∈ r,x:=hr
 rcases (by omega:kd13 (f12 s)=1 ∨ kd13 (f12 s)=2 ∨ kd13 (f12 s)=3 ∨ kd13 (f12 s)=4 ∨ kd13 (f12 s)=5 ∨ kd13 (f12 s)=6 ∨ kd13 (f12 s)=7 ∨ kd13 (f12 s)=8) with e | e | e | e | e | e | e | e
 · have ev:mk13 s=⟨kd13 (f12 s),(f12 s 1).tmod 3,kerF (f12 s) ((2 * ((f12 s 1).tmod 3).toNat+1) * (2 * ((f12 s 1).tmod 3).toNat+1)),IntKind.i64.wrap (1+(f12 s 2).tmod 20),0,[]⟩:=if_pos e
   rw [ev]
   rcases (by omega:(f12 s 1).tmod 3=0 ∨ (f12 s 1).tmod 3=1 ∨ (f12 s 1).tmod 3=2) with q | q | q
   · refine retE W3_ok (fm_10 12 _ (f12 s)) (gone (g0 ⟨?_,_,_,_,rfl,?_⟩))
     · refine fm (hk' 1 e) (fm (congrArg _ q) ?_)
       repeat' (first | exact all_nil | refine fm ?_ ?_)
       all_goals decide
     · rw [q]
       exact .frz (v0:=.agg [iX (kd13 (f12 s)),iX 0,.lst false 1 (isD (kerF (f12 s) 1)),iX (IntKind.i64.wrap (1+(f12 s 2).tmod 20)),iX 0,.slc none 0 0 0]) [3] (A:=[(isD (kerF (f12 s) 1)).length=1 * 1]) (by kernel_rfl) (fm1 rfl) (by kernel_rfl) (by kernel_rfl)
   · refine retE W3_ok (fm_11 12 _ (f12 s)) (gone (g0 ⟨?_,_,_,_,rfl,?_⟩))
     · refine fm (hk' 1 e) (fm (congrArg _ q) ?_)
       repeat' (first | exact all_nil | refine fm ?_ ?_)
       all_goals decide
     · rw [q]
       exact .frz (v0:=.agg [iX (kd13 (f12 s)),iX 1,.lst false 9 (isD (kerF (f12 s) 9)),iX (IntKind.i64.wrap (1+(f12 s 2).tmod 20)),iX 0,.slc none 0 0 0]) [3] (A:=[(isD (kerF (f12 s) 9)).length=9 * 1]) (by kernel_rfl) (fm1 rfl) (by kernel_rfl) (by kernel_rfl)
   · refine retE W3_ok (fm_12 12 _ (f12 s)) (gone (g0 ⟨?_,_,_,_,rfl,?_⟩))
     · refine fm (hk' 1 e) (fm (congrArg _ q) ?_)
       repeat' (first | exact all_nil | refine fm ?_ ?_)
       all_goals decide
     · rw [q]
       exact .frz (v0:=.agg [iX (kd13 (f12 s)),iX 2,.lst false 25 (isD (kerF (f12 s) 25)),iX (IntKind.i64.wrap (1+(f12 s 2).tmod 20)),iX 0,.slc none 0 0 0]) [3] (A:=[(isD (kerF (f12 s) 25)).length=25 * 1]) (by kernel_rfl) (fm1 rfl) (by kernel_rfl) (by kernel_rfl)
 · rw [show mk13 s=⟨kd13 (f12 s),(f12 s 1).tmod 4,[],0,0,[]⟩ from (if_neg (by omega)).trans (if_pos (by omega))]
   exact retE W3_ok (fm_2 12 _ (f12 s)) (gone (g0 ⟨fm1 (hk' 2 e),_,_,_,rfl,.self rfl rfl⟩))
 · rw [show mk13 s=⟨kd13 (f12 s),(f12 s 1).tmod 4,[],0,0,[]⟩ from (if_neg (by omega)).trans (if_pos (by omega))]
   exact retE W3_ok (fm_3 12 _ (f12 s)) (gone (g0 ⟨fm1 (hk' 3 e),_,_,_,rfl,.self rfl rfl⟩))
 · rw [show mk13 s=⟨kd13 (f12 s),(f12 s 1).tmod 4,[],0,0,[]⟩ from (if_neg (by omega)).trans (if_pos (by omega))]
   exact retE W3_ok (fm_4 12 _ (f12 s)) (gone (g0 ⟨fm1 (hk' 4 e),_,_,_,rfl,.self rfl rfl⟩))
 · rw [show mk13 s=⟨kd13 (f12 s),0,[],0,0,mdF (s.drop 1)⟩ from (if_neg (by omega)).trans ((if_neg (by omega)).trans (if_pos e))]
   have hd:s.drop 1=[b,c,d,e',g,h,i,j,k,l,m]:=by subst hs; rfl
   rw [hd]
   refine retE (pinK (madeD [b,c,d,e',g,h,i,j,k,l,m] (show 2 < 11 by decide) (show 11 ≤ 200 by decide)) W3_ok) (fm_5 (f12 s) a b c d e' g h i j k l m _ _) (gone (g0 ⟨fm (hk' 5 e) ?_,_,_,_,rfl,.self rfl rfl⟩))
   repeat' (first | exact all_nil | refine fm ?_ ?_)
   all_goals first | decide | rfl
 · rw [show mk13 s=⟨kd13 (f12 s),0,[],0,0,[]⟩ from (if_neg (by omega)).trans ((if_neg (by omega)).trans ((if_neg (by omega)).trans ((if_neg (by omega)).trans (if_neg (by omega)))))]
   exact retE W3_ok (fm_6 12 _ (f12 s)) (gone (g0 ⟨fm1 (hk' 6 e),_,_,_,rfl,.self rfl rfl⟩))
 · rw [show mk13 s=⟨kd13 (f12 s),0,[],0,(f12 s 1).tmod 257,[]⟩ from (if_neg (by omega)).trans ((if_neg (by omega)).trans ((if_neg (by omega)).trans (if_pos e)))]
   exact retE W3_ok (fm_7 12 _ (f12 s)) (gone (g0 ⟨fm1 (hk' 7 e),_,_,_,rfl,.self rfl rfl⟩))
 · rw [show mk13 s=⟨kd13 (f12 s),IntKind.i64.wrap ((f12 s 1).tmod 7 - 3),[],0,IntKind.i64.wrap ((f12 s 2).tmod 7 - 3),[]⟩ from (if_neg (by omega)).trans ((if_neg (by omega)).trans ((if_neg (by omega)).trans ((if_neg (by omega)).trans (if_pos e))))]
   exact retE W3_ok (fm_8 12 _ (f12 s)) (gone (g0 ⟨fm1 (hk' 8 e),_,_,_,rfl,.self rfl rfl⟩))
end Go.Proofs.YtmjggdmekboefaaGreatDoor
namespace Go.Proofs.YtmjggdmekboefaaGreatDoor
open Go Go.Eng
noncomputable abbrev cdLy:Code:=bodyOf Tryz.f6
noncomputable abbrev cdPl:Code:=bodyOf Tryz.f22
noncomputable abbrev cdMp:Code:=bodyOf Tryz.f25
abbrev nilS:V:=.slc none 0 0 0
structure P7 where
 a:Int
 b:Int
 c:Int
 d:Int
 e:Int
 f:Int
 n:Int
def P7.cs (p:P7):List V:=[iX p.a,iX p.b,iX p.c,iX p.d,iX p.e,iX p.f,iX p.n]
def P7.v (p:P7):V:=.agg p.cs
structure S8 where
 s0:Int
 s1:Int
 s2:Int
 s3:Int
 s4:Int
 s5:Int
 s6:Int
 s7:Int
def S8.cs (s:S8):List V:=[iX s.s0,iX s.s1,iX s.s2,iX s.s3,iX s.s4,iX s.s5,iX s.s6,iX s.s7]
structure C4 where
 r:Int
 g:Int
 b:Int
 a:Int
def C4.cs (p:C4):List V:=[.int .u8 p.r,.int .u8 p.g,.int .u8 p.b,.int .u8 p.a]
abbrev rsV (l:List Tl):V:=.lst false l.length (tlD l)
def lyR (kd:Int) (nm:List UInt8) (hid:Bool) (op md:Int) (clip:Bool) (pl:P7) (f:FL) (fi:C4) (pv:V) (con:List Tl) (hm:Bool) (mk:List Tl):List V:=
 [iX 0,iX kd,.str nm,.bool hid,iX op,iX md,.bool clip] ++ (pl.cs ++ ([iX 0,isV [],iX 0] ++ (f.cs ++ (fi.cs ++ [pv,rsV con,.bool hm,rsV mk]))))
def z4:C4:=⟨0,0,0,0⟩
def z7:P7:=⟨0,0,0,0,0,0,0⟩
def i7:P7:=⟨1,0,0,0,1,0,1⟩
def zFL:FL:=⟨0,0,[],0,0,[]⟩
def lyN (kd op:Int) (pl:P7) (k:Int):List V:=
 [iX 0,iX kd,.str [],.bool false,iX op,iX 0,.bool false] ++ (pl.cs ++ ([iX 0,nilS,iX 0] ++ ([iX k,iX 0,nilS,iX 0,iX 0,nilS] ++ (z4.cs ++ [nilS,nilS,.bool false,nilS]))))
def lyZ:List V:=lyN 0 0 z7 0
def sLy (s:S8) (l:List V):St:=stG [(1,.ptr (some (3,0))),(2,.ptr (some (4,0))),(3,.ptr (some (5,0)))] (hL [(3,.cells s.cs),(4,.cells lyZ),(5,.cells l)]) 6
theorem pl_1 (n:Int):∃ L,RunIs Tryz.prog (csH W3 []) [(16,.split),(20,.split),(23,.split)] 1000 3 Tryz.f22 [] (cdPl) (startSt [iX n] .nil 3) L
  [([((IntKind.i64.wrap (Int.ofNat (BitVec.ofInt 64 n &&& BitVec.ofInt 64 (7:Int)).toNat) == (1:Int)),true)],
   [],
   .ret (.agg [.int .i64 2,.int .i64 0,.int .i64 (IntKind.i64.wrap (IntKind.i64.wrap (Int.ofNat (BitVec.ofInt 64 (n.fdiv (4:Int)) &&& BitVec.ofInt 64 (7:Int)).toNat) - (3:Int))),.int .i64 0,.int .i64 2,.int .i64 (IntKind.i64.wrap (IntKind.i64.wrap (Int.ofNat (BitVec.ofInt 64 (n.fdiv (32:Int)) &&& BitVec.ofInt 64 (7:Int)).toNat) - (3:Int))),.int .i64 1]) (hL []) 3),
  ([((IntKind.i64.wrap (Int.ofNat (BitVec.ofInt 64 n &&& BitVec.ofInt 64 (7:Int)).toNat) == (1:Int)),false),((IntKind.i64.wrap (Int.ofNat (BitVec.ofInt 64 n &&& BitVec.ofInt 64 (7:Int)).toNat) == (2:Int)),true)],
   [],
   .ret (.agg [.int .i64 1,.int .i64 0,.int .i64 (IntKind.i64.wrap (IntKind.i64.wrap (Int.ofNat (BitVec.ofInt 64 (n.fdiv (4:Int)) &&& BitVec.ofInt 64 (7:Int)).toNat) - (3:Int))),.int .i64 0,.int .i64 1,.int .i64 (IntKind.i64.wrap (IntKind.i64.wrap (Int.ofNat (BitVec.ofInt 64 (n.fdiv (32:Int)) &&& BitVec.ofInt 64 (7:Int)).toNat) - (3:Int))),.int .i64 2]) (hL []) 3),
  ([((IntKind.i64.wrap (Int.ofNat (BitVec.ofInt 64 n &&& BitVec.ofInt 64 (7:Int)).toNat) == (1:Int)),false),((IntKind.i64.wrap (Int.ofNat (BitVec.ofInt 64 n &&& BitVec.ofInt 64 (7:Int)).toNat) == (2:Int)),false),((IntKind.i64.wrap (Int.ofNat (BitVec.ofInt 64 n &&& BitVec.ofInt 64 (7:Int)).toNat) == (3:Int)),true)],
   [],
   .ret (.agg [.int .i64 0,.int .i64 (-1),.int .i64 (IntKind.i64.wrap (IntKind.i64.wrap (Int.ofNat (BitVec.ofInt 64 (n.fdiv (4:Int)) &&& BitVec.ofInt 64 (7:Int)).toNat) - (3:Int))),.int .i64 1,.int .i64 0,.int .i64 (IntKind.i64.wrap (IntKind.i64.wrap (Int.ofNat (BitVec.ofInt 64 (n.fdiv (32:Int)) &&& BitVec.ofInt 64 (7:Int)).toNat) - (3:Int))),.int .i64 1]) (hL []) 3),
  ([((IntKind.i64.wrap (Int.ofNat (BitVec.ofInt 64 n &&& BitVec.ofInt 64 (7:Int)).toNat) == (1:Int)),false),((IntKind.i64.wrap (Int.ofNat (BitVec.ofInt 64 n &&& BitVec.ofInt 64 (7:Int)).toNat) == (2:Int)),false),((IntKind.i64.wrap (Int.ofNat (BitVec.ofInt 64 n &&& BitVec.ofInt 64 (7:Int)).toNat) == (3:Int)),false)],
   [],
   .ret (.agg [.int .i64 1,.int .i64 0,.int .i64 (IntKind.i64.wrap (IntKind.i64.wrap (Int.ofNat (BitVec.ofInt 64 (n.fdiv (4:Int)) &&& BitVec.ofInt 64 (7:Int)).toNat) - (3:Int))),.int .i64 0,.int .i64 1,.int .i64 (IntKind.i64.wrap (IntKind.i64.wrap (Int.ofNat (BitVec.ofInt 64 (n.fdiv (32:Int)) &&& BitVec.ofInt 64 (7:Int)).toNat) - (3:Int))),.int .i64 1]) (hL []) 3)]
 :=RunIs.of (by kernel_rfl) (by kernel_rfl) (by kernel_rfl)
theorem mp_1 (n:Int):∃ L,RunIs Tryz.prog (csH W3 []) [(21,.split),(25,.split)] 1000 3 Tryz.f25 [] (cdMp) (startSt [iX n] .nil 3) L
  [([(((IntKind.u32.wrap n).tmod (5:Int) == (1:Int)),true),(((IntKind.u32.wrap n).tmod (5:Int) == (3:Int)),true)],
   [((256:Int) ≠ (0:Int)),((65536:Int) ≠ (0:Int)),((16777216:Int) ≠ (0:Int))],
   .ret (.agg [.int .u8 (IntKind.u8.wrap (IntKind.u32.wrap n)),.int .u8 (IntKind.u8.wrap (IntKind.u32.wrap ((IntKind.u32.wrap n).tdiv (256:Int)))),.int .u8 (IntKind.u8.wrap (IntKind.u32.wrap ((IntKind.u32.wrap n).tdiv (65536:Int)))),.int .u8 0]) (hL []) 3),
  ([(((IntKind.u32.wrap n).tmod (5:Int) == (1:Int)),true),(((IntKind.u32.wrap n).tmod (5:Int) == (3:Int)),false)],
   [((256:Int) ≠ (0:Int)),((65536:Int) ≠ (0:Int)),((16777216:Int) ≠ (0:Int))],
   .ret (.agg [.int .u8 (IntKind.u8.wrap (IntKind.u32.wrap n)),.int .u8 (IntKind.u8.wrap (IntKind.u32.wrap ((IntKind.u32.wrap n).tdiv (256:Int)))),.int .u8 (IntKind.u8.wrap (IntKind.u32.wrap ((IntKind.u32.wrap n).tdiv (65536:Int)))),.int .u8 255]) (hL []) 3),
  ([(((IntKind.u32.wrap n).tmod (5:Int) == (1:Int)),false),(((IntKind.u32.wrap n).tmod (5:Int) == (3:Int)),true)],
   [((256:Int) ≠ (0:Int)),((65536:Int) ≠ (0:Int)),((16777216:Int) ≠ (0:Int))],
   .ret (.agg [.int .u8 (IntKind.u8.wrap (IntKind.u32.wrap n)),.int .u8 (IntKind.u8.wrap (IntKind.u32.wrap ((IntKind.u32.wrap n).tdiv (256:Int)))),.int .u8 (IntKind.u8.wrap (IntKind.u32.wrap ((IntKind.u32.wrap n).tdiv (65536:Int)))),.int .u8 0]) (hL []) 3),
  ([(((IntKind.u32.wrap n).tmod (5:Int) == (1:Int)),false),(((IntKind.u32.wrap n).tmod (5:Int) == (3:Int)),false)],
   [((256:Int) ≠ (0:Int)),((65536:Int) ≠ (0:Int)),((16777216:Int) ≠ (0:Int))],
   .ret (.agg [.int .u8 (IntKind.u8.wrap (IntKind.u32.wrap n)),.int .u8 (IntKind.u8.wrap (IntKind.u32.wrap ((IntKind.u32.wrap n).tdiv (256:Int)))),.int .u8 (IntKind.u8.wrap (IntKind.u32.wrap ((IntKind.u32.wrap n).tdiv (65536:Int)))),.int .u8 (IntKind.u8.wrap (IntKind.u32.wrap ((IntKind.u32.wrap n).tdiv (16777216:Int))))]) (hL []) 3)]
 :=RunIs.of (by kernel_rfl) (by kernel_rfl) (by kernel_rfl)
theorem ly_11 (s:S8):∃ L,RunIs Tryz.prog (csH W3 []) [(9,.give (iX 1))] 1000 3 Tryz.f6 [1,2,3] (headN 2 cdLy) (startSt [.agg s.cs] .nil 3) L
  [([],
   [(V.int IntKind.i64 (IntKind.i64.wrap ((1:Int)+(IntKind.i64.wrap (Int.ofNat (BitVec.ofInt 64 s.s0 &&& BitVec.ofInt 64 (65535:Int)).toNat)).tmod (5:Int)))=iX (1:Int))],
   .to .normal (sLy s (lyN 1 255 i7 0)))]
 :=RunIs.of (by kernel_rfl) (by kernel_rfl) (by kernel_rfl)
theorem ly_12 (s:S8):∃ L,RunIs Tryz.prog (csH W3 []) [(9,.give (iX 2))] 1000 3 Tryz.f6 [1,2,3] (headN 2 cdLy) (startSt [.agg s.cs] .nil 3) L
  [([],
   [(V.int IntKind.i64 (IntKind.i64.wrap ((1:Int)+(IntKind.i64.wrap (Int.ofNat (BitVec.ofInt 64 s.s0 &&& BitVec.ofInt 64 (65535:Int)).toNat)).tmod (5:Int)))=iX (2:Int))],
   .to .normal (sLy s (lyN 2 255 z7 0)))]
 :=RunIs.of (by kernel_rfl) (by kernel_rfl) (by kernel_rfl)
theorem ly_13 (s:S8):∃ L,RunIs Tryz.prog (csH W3 []) [(9,.give (iX 3))] 1000 3 Tryz.f6 [1,2,3] (headN 2 cdLy) (startSt [.agg s.cs] .nil 3) L
  [([],
   [(V.int IntKind.i64 (IntKind.i64.wrap ((1:Int)+(IntKind.i64.wrap (Int.ofNat (BitVec.ofInt 64 s.s0 &&& BitVec.ofInt 64 (65535:Int)).toNat)).tmod (5:Int)))=iX (3:Int))],
   .to .normal (sLy s (lyN 3 255 z7 6)))]
 :=RunIs.of (by kernel_rfl) (by kernel_rfl) (by kernel_rfl)
theorem ly_14 (s:S8):∃ L,RunIs Tryz.prog (csH W3 []) [(9,.give (iX 4))] 1000 3 Tryz.f6 [1,2,3] (headN 2 cdLy) (startSt [.agg s.cs] .nil 3) L
  [([],
   [(V.int IntKind.i64 (IntKind.i64.wrap ((1:Int)+(IntKind.i64.wrap (Int.ofNat (BitVec.ofInt 64 s.s0 &&& BitVec.ofInt 64 (65535:Int)).toNat)).tmod (5:Int)))=iX (4:Int))],
   .to .normal (sLy s (lyN 4 255 i7 0)))]
 :=RunIs.of (by kernel_rfl) (by kernel_rfl) (by kernel_rfl)
theorem ly_15 (s:S8):∃ L,RunIs Tryz.prog (csH W3 []) [(9,.give (iX 5))] 1000 3 Tryz.f6 [1,2,3] (headN 2 cdLy) (startSt [.agg s.cs] .nil 3) L
  [([],
   [(V.int IntKind.i64 (IntKind.i64.wrap ((1:Int)+(IntKind.i64.wrap (Int.ofNat (BitVec.ofInt 64 s.s0 &&& BitVec.ofInt 64 (65535:Int)).toNat)).tmod (5:Int)))=iX (5:Int))],
   .to .normal (sLy s (lyN 5 255 z7 0)))]
 :=RunIs.of (by kernel_rfl) (by kernel_rfl) (by kernel_rfl)
def an (x m:Int):Int:=IntKind.i64.wrap (Int.ofNat (BitVec.ofInt 64 x &&& BitVec.ofInt 64 m).toNat)
def nmF (x:Int):List UInt8:=(([97,98,99,100,101,102,103,104]:List UInt8).take (IntKind.i64.wrap (an x 7+1)).toNat).drop (an x 7).toNat
def hdF (x:Int):Bool:=an x 127 == 8
def cpF (x:Int):Bool:=an x 96 == 96
def opF (x:Int):Int:=an (x.fdiv 2) 255
def mdO (x:Int):Int:=an (x.fdiv 4) 15
theorem ly_2 (s:S8) (kd:Int) (nm:List UInt8) (hid:Bool) (op md:Int) (clip:Bool) (pl:P7) (f:FL) (fi:C4) (con:List Tl) (hm:Bool) (mk:List Tl):∃ L,RunIs Tryz.prog (csH W3 []) [] 1000 3 Tryz.f6 [1,2,3] (headN 4 (tailN 2 cdLy)) (sLy s (lyR kd nm hid op md clip pl f fi nilS con hm mk)) L
  [([],
   [((0:Int) ≤ IntKind.i64.wrap (IntKind.i64.wrap (Int.ofNat (BitVec.ofInt 64 s.s1 &&& BitVec.ofInt 64 (7:Int)).toNat)+(1:Int))∧IntKind.i64.wrap (IntKind.i64.wrap (Int.ofNat (BitVec.ofInt 64 s.s1 &&& BitVec.ofInt 64 (7:Int)).toNat)+(1:Int)) ≤ (8:Int)),((0:Int) ≤ IntKind.i64.wrap (Int.ofNat (BitVec.ofInt 64 s.s1 &&& BitVec.ofInt 64 (7:Int)).toNat)∧IntKind.i64.wrap (Int.ofNat (BitVec.ofInt 64 s.s1 &&& BitVec.ofInt 64 (7:Int)).toNat) ≤ (Int.ofNat (IntKind.i64.wrap (IntKind.i64.wrap (Int.ofNat (BitVec.ofInt 64 s.s1 &&& BitVec.ofInt 64 (7:Int)).toNat)+(1:Int))).toNat))],
   .to .normal (sLy s (lyR kd (nmF s.s1) (hdF s.s1) 255 md (cpF s.s1) pl f fi nilS con hm mk)))]
 :=RunIs.of (by kernel_rfl) (by kernel_rfl) (by kernel_rfl)
theorem ly_3 (s:S8) (kd:Int) (nm:List UInt8) (hid:Bool) (op md:Int) (clip:Bool) (pl:P7) (f:FL) (fi:C4) (con:List Tl) (hm:Bool) (mk:List Tl):∃ L,RunIs Tryz.prog (csH W3 []) [(34,.split)] 1000 3 Tryz.f6 [1,2,3] (headN 1 (tailN 6 cdLy)) (sLy s (lyR kd nm hid op md clip pl f fi nilS con hm mk)) L
  [([((IntKind.i64.wrap (Int.ofNat (BitVec.ofInt 64 s.s2 &&& BitVec.ofInt 64 (1:Int)).toNat) == (1:Int)),true)],
   [],
   .to .normal (sLy s (lyR kd nm hid (opF s.s2) md clip pl f fi nilS con hm mk))),
  ([((IntKind.i64.wrap (Int.ofNat (BitVec.ofInt 64 s.s2 &&& BitVec.ofInt 64 (1:Int)).toNat) == (1:Int)),false)],
   [],
   .to .normal (sLy s (lyR kd nm hid op md clip pl f fi nilS con hm mk)))]
 :=RunIs.of (by kernel_rfl) (by kernel_rfl) (by kernel_rfl)
theorem ly_4 (s:S8) (kd:Int) (nm:List UInt8) (hid:Bool) (op md:Int) (clip:Bool) (pl:P7) (f:FL) (fi:C4) (con:List Tl) (hm:Bool) (mk:List Tl):∃ L,RunIs Tryz.prog (csH W3 []) [(43,.split)] 1000 3 Tryz.f6 [1,2,3] (headN 1 (tailN 7 cdLy)) (sLy s (lyR kd nm hid op md clip pl f fi nilS con hm mk)) L
  [([((IntKind.i64.wrap (Int.ofNat (BitVec.ofInt 64 s.s3 &&& BitVec.ofInt 64 (3:Int)).toNat) == (1:Int)),true)],
   [],
   .to .normal (sLy s (lyR kd nm hid op (mdO s.s3) clip pl f fi nilS con hm mk))),
  ([((IntKind.i64.wrap (Int.ofNat (BitVec.ofInt 64 s.s3 &&& BitVec.ofInt 64 (3:Int)).toNat) == (1:Int)),false)],
   [],
   .to .normal (sLy s (lyR kd nm hid op md clip pl f fi nilS con hm mk)))]
 :=RunIs.of (by kernel_rfl) (by kernel_rfl) (by kernel_rfl)
theorem ly_5 (s:S8) (kd:Int) (nm:List UInt8) (hid:Bool) (op md:Int) (clip:Bool) (pl:P7) (f:FL) (fi:C4) (con:List Tl) (hm:Bool) (mk:List Tl) (l:List Tl):∃ L,RunIs Tryz.prog (csH (pinZ 21 [isV [s.s3,s.s4,s.s5]] (rasV l) W3) []) [(52,.split)] 1000 3 Tryz.f6 [1,2,3] (headN 1 (tailN 8 cdLy)) (sLy s (lyR kd nm hid op md clip pl f fi nilS con hm mk)) L
  [([((IntKind.i64.wrap (Int.ofNat (BitVec.ofInt 64 s.s3 &&& BitVec.ofInt 64 (192:Int)).toNat) == (64:Int)),true)],
   [([D.int IntKind.i64 s.s3,D.int IntKind.i64 s.s4,D.int IntKind.i64 s.s5].length=3),(V.nls [V.lst false 3 [D.int IntKind.i64 s.s3,D.int IntKind.i64 s.s4,D.int IntKind.i64 s.s5]]=[isV [s.s3,s.s4,s.s5]])],
   .to .normal (sLy s (lyR kd nm hid op md clip pl f fi nilS con true l))),
  ([((IntKind.i64.wrap (Int.ofNat (BitVec.ofInt 64 s.s3 &&& BitVec.ofInt 64 (192:Int)).toNat) == (64:Int)),false)],
   [],
   .to .normal (sLy s (lyR kd nm hid op md clip pl f fi nilS con hm mk)))]
 :=RunIs.of (by kernel_rfl) (by kernel_rfl) (by kernel_rfl)
end Go.Proofs.YtmjggdmekboefaaGreatDoor
namespace Go.Proofs.YtmjggdmekboefaaGreatDoor
open Go Go.Eng
def sh7 (n d:Int):Int:=IntKind.i64.wrap (an (n.fdiv d) 7 - 3)
def plF (n:Int):P7:=if an n 7=1 then ⟨2,0,sh7 n 4,0,2,sh7 n 32,1⟩ else if an n 7=2 then ⟨1,0,sh7 n 4,0,1,sh7 n 32,2⟩ else if an n 7=3 then ⟨0,-1,sh7 n 4,1,0,sh7 n 32,1⟩ else ⟨1,0,sh7 n 4,0,1,sh7 n 32,1⟩
def mpA (u:Int):Int:=if u.tmod 5=3 then 0 else if u.tmod 5=1 then 255 else IntKind.u8.wrap (IntKind.u32.wrap (u.tdiv 16777216))
def mpF (n:Int):C4:=⟨IntKind.u8.wrap (IntKind.u32.wrap n),IntKind.u8.wrap (IntKind.u32.wrap ((IntKind.u32.wrap n).tdiv 256)),IntKind.u8.wrap (IntKind.u32.wrap ((IntKind.u32.wrap n).tdiv 65536)),mpA (IntKind.u32.wrap n)⟩
def specPl:List V→Option (List Prop × V)
 | [.int .i64 n]=>some ([],(plF n).v)
 | _=>none
def specMp:List V→Option (List Prop × V)
 | [.int .i64 n]=>some ([],.agg (mpF n).cs)
 | _=>none
theorem one_Pl:OneW Tryz.prog 22 (pureW specPl):=by
 refine pureT Tryz.func22 fun args A v e=>?_
 unfold specPl at e
 split at e
 case h_2=>cases e
 rename_i n
 obtain ⟨rfl,rfl⟩:=sm e
 refine ⟨rfl,rfl,rfl,fun _=>retE W3_ok (pl_1 n) (gcons (g1 fun h=>⟨all_nil,_,_,_,rfl,?_⟩) (gcons (g2 fun h h2=>⟨all_nil,_,_,_,rfl,?_⟩) (gcons (g3 fun h h2 h3=>⟨all_nil,_,_,_,rfl,?_⟩) (gone (g3 fun h h2 h3=>⟨all_nil,_,_,_,rfl,?_⟩)))))⟩
 all_goals
  have h:(an n 7 == 1)=_:=h
  try have h2:(an n 7 == 2)=_:=h2
  try have h3:(an n 7 == 3)=_:=h3
  simp only [beq_iff_eq,beq_eq_false_iff_ne,ne_eq] at *
 · rw [show plF n=_ from if_pos h]; rfl
 · rw [show plF n=_ from (if_neg h).trans (if_pos h2)]; rfl
 · rw [show plF n=_ from (if_neg h).trans ((if_neg h2).trans (if_pos h3))]; rfl
 · rw [show plF n=_ from (if_neg h).trans ((if_neg h2).trans (if_neg h3))]; rfl
theorem one_Mp:OneW Tryz.prog 25 (pureW specMp):=by
 refine pureT Tryz.func25 fun args A v e=>?_
 unfold specMp at e
 split at e
 case h_2=>cases e
 rename_i n
 obtain ⟨rfl,rfl⟩:=sm e
 have A:∀ a ∈ [((256:Int) ≠ (0:Int)),((65536:Int) ≠ (0:Int)),((16777216:Int) ≠ (0:Int))],a:=fm (by decide) (fm (by decide) (fm1 (by decide)))
 refine ⟨rfl,rfl,rfl,fun _=>retE W3_ok (mp_1 n) (gcons (g2 fun h h2=>⟨A,_,_,_,rfl,?_⟩) (gcons (g2 fun h h2=>⟨A,_,_,_,rfl,?_⟩) (gcons (g2 fun h h2=>⟨A,_,_,_,rfl,?_⟩) (gone (g2 fun h h2=>⟨A,_,_,_,rfl,?_⟩)))))⟩
 all_goals
  simp only [beq_iff_eq,beq_eq_false_iff_ne,ne_eq] at h h2
  unfold mpF mpA
  first | rw [if_pos h2] | rw [if_neg h2,if_pos h] | rw [if_neg h2,if_neg h]
  rfl
noncomputable abbrev W4:CtrW:=addW 22 (pureW specPl) (addW 25 (pureW specMp) W3)
theorem W4_ok:CtrWOk Tryz.prog W4:=addW_ok one_Pl (addW_ok one_Mp W3_ok)
def ptD (l:List (Int × Int)):List D:=(l.map fun p=>[D.int .i64 p.1,D.int .i64 p.2]).flatten
abbrev ptV (l:List (Int × Int)):V:=.lst false l.length (ptD l)
structure Lay where
 id:Int
 kd:Int
 nm:List UInt8
 hid:Bool
 op:Int
 md:Int
 clip:Bool
 pl:P7
 sp:Int
 kids:List Int
 of:Int
 f:FL
 fi:C4
 pth:List (Int × Int)
 con:List Tl
 hm:Bool
 msk:List Tl
def Lay.cs (l:Lay):List V:=[iX l.id,iX l.kd,.str l.nm,.bool l.hid,iX l.op,iX l.md,.bool l.clip] ++ (l.pl.cs ++ ([iX l.sp,isV l.kids,iX l.of] ++ (l.f.cs ++ (l.fi.cs ++ [ptV l.pth,rsV l.con,.bool l.hm,rsV l.msk]))))
def Lay.v (l:Lay):V:=.agg l.cs
def clC (p:C4):C4:=⟨cl p.a p.r,cl p.a p.g,cl p.a p.b,cl p.a p.a⟩
def px4 (x:Int) (i:Nat):Int:=IntKind.i64.wrap (an (x.fdiv (16 ^ i)) 15 - 4)
def ptF (x y:Int) (c:Nat):List (Int × Int):=(List.range c).map fun i=>(px4 x i,px4 y i)
def l12 (s:S8):List Int:=[s.s4,s.s5,s.s6,s.s7,s.s2,s.s3,s.s1,IntKind.i64.wrap (s.s5.tdiv 7),IntKind.i64.wrap (s.s6.tdiv 5),IntKind.i64.wrap (s.s7.tdiv 3),IntKind.i64.wrap (s.s4.tdiv 9),IntKind.i64.wrap (s.s2.tdiv 11)]
end Go.Proofs.YtmjggdmekboefaaGreatDoor
namespace Go.Proofs.YtmjggdmekboefaaGreatDoor
open Go Go.Eng
noncomputable abbrev tlLy:Code:=tailN 9 cdLy
theorem ly_61 (s:S8) (nm:List UInt8) (hid:Bool) (op md:Int) (clip:Bool) (pl:P7) (f:FL) (fi:C4) (con:List Tl) (hm:Bool) (mk:List Tl) (l:List Tl):∃ L,RunIs Tryz.prog (csH (pinZ 21 [isV [s.s4,s.s5,s.s6,s.s7,s.s2]] (rasV l) W4) []) [] 1000 3 Tryz.f6 [] (tlLy) (sLy s (lyR 1 nm hid op md clip pl f fi nilS con hm mk)) L
  [([],
   [([D.int IntKind.i64 s.s4,D.int IntKind.i64 s.s5,D.int IntKind.i64 s.s6,D.int IntKind.i64 s.s7,D.int IntKind.i64 s.s2].length=5),(V.nls [V.lst false 5 [D.int IntKind.i64 s.s4,D.int IntKind.i64 s.s5,D.int IntKind.i64 s.s6,D.int IntKind.i64 s.s7,D.int IntKind.i64 s.s2]]=[isV [s.s4,s.s5,s.s6,s.s7,s.s2]])],
   .ret (.agg (lyR 1 nm hid op md clip (plF s.s6) f fi nilS l hm mk)) (hL []) 3)]
 :=RunIs.of (by kernel_rfl) (by kernel_rfl) (by kernel_rfl)
theorem ly_62 (s:S8) (nm:List UInt8) (hid:Bool) (op md:Int) (clip:Bool) (pl:P7) (f:FL) (fi:C4) (con:List Tl) (hm:Bool) (mk:List Tl):∃ L,RunIs Tryz.prog (csH W4 []) [] 1000 3 Tryz.f6 [] (tlLy) (sLy s (lyR 2 nm hid op md clip pl f fi nilS con hm mk)) L
  [([],
   [],
   .ret (.agg (lyR 2 nm hid op md clip pl f fi nilS con hm mk)) (hL []) 3)]
 :=RunIs.of (by kernel_rfl) (by kernel_rfl) (by kernel_rfl)
theorem ly_63 (s:S8) (nm:List UInt8) (hid:Bool) (op md:Int) (clip:Bool) (pl:P7) (f:FL) (fi:C4) (con:List Tl) (hm:Bool) (mk:List Tl) (g:FL):∃ L,RunIs Tryz.prog (csH (pinZ 23 [isV (l12 s)] g.v W4) []) [] 1000 3 Tryz.f6 [] (tlLy) (sLy s (lyR 3 nm hid op md clip pl f fi nilS con hm mk)) L
  [([],
   [((7:Int) ≠ (0:Int)),((5:Int) ≠ (0:Int)),((3:Int) ≠ (0:Int)),((9:Int) ≠ (0:Int)),((11:Int) ≠ (0:Int)),([D.int IntKind.i64 s.s4,D.int IntKind.i64 s.s5,D.int IntKind.i64 s.s6,D.int IntKind.i64 s.s7,D.int IntKind.i64 s.s2,D.int IntKind.i64 s.s3,D.int IntKind.i64 s.s1,D.int IntKind.i64 (IntKind.i64.wrap (s.s5.tdiv (7:Int))),D.int IntKind.i64 (IntKind.i64.wrap (s.s6.tdiv (5:Int))),D.int IntKind.i64 (IntKind.i64.wrap (s.s7.tdiv (3:Int))),D.int IntKind.i64 (IntKind.i64.wrap (s.s4.tdiv (9:Int))),D.int IntKind.i64 (IntKind.i64.wrap (s.s2.tdiv (11:Int)))].length=12),(V.nls [V.lst false 12 [D.int IntKind.i64 s.s4,D.int IntKind.i64 s.s5,D.int IntKind.i64 s.s6,D.int IntKind.i64 s.s7,D.int IntKind.i64 s.s2,D.int IntKind.i64 s.s3,D.int IntKind.i64 s.s1,D.int IntKind.i64 (IntKind.i64.wrap (s.s5.tdiv (7:Int))),D.int IntKind.i64 (IntKind.i64.wrap (s.s6.tdiv (5:Int))),D.int IntKind.i64 (IntKind.i64.wrap (s.s7.tdiv (3:Int))),D.int IntKind.i64 (IntKind.i64.wrap (s.s4.tdiv (9:Int))),D.int IntKind.i64 (IntKind.i64.wrap (s.s2.tdiv (11:Int)))]]=[isV (l12 s)])],
   .ret (.agg (lyR 3 nm hid op md clip pl g fi nilS con hm mk)) (hL []) 3)]
 :=RunIs.of (by kernel_rfl) (by kernel_rfl) (by kernel_rfl)
theorem ly_64 (s:S8) (nm:List UInt8) (hid:Bool) (op md:Int) (clip:Bool) (pl:P7) (f:FL) (fi:C4) (con:List Tl) (hm:Bool) (mk:List Tl):∃ L,RunIs Tryz.prog (csH W4 []) [] 1000 3 Tryz.f6 [] (tlLy) (sLy s (lyR 4 nm hid op md clip pl f fi nilS con hm mk)) L
  [([],
   [],
   .ret (.agg (lyR 4 nm hid op md clip (plF s.s6) f fi nilS con hm mk)) (hL []) 3)]
 :=RunIs.of (by kernel_rfl) (by kernel_rfl) (by kernel_rfl)
abbrev ly_653A1 (s:S8):Prop:=V.int IntKind.i64 (IntKind.i64.wrap ((3:Int)+IntKind.i64.wrap (Int.ofNat (BitVec.ofInt 64 s.s5 &&& BitVec.ofInt 64 (3:Int)).toNat)))=iX (3:Int)
theorem ly_653 (s:S8) (nm:List UInt8) (hid:Bool) (op md:Int) (clip:Bool) (pl:P7) (f:FL) (fi:C4) (con:List Tl) (hm:Bool) (mk:List Tl):∃ L,RunIs Tryz.prog (csH W4 []) [(135,.give (iX 3))] 1000 3 Tryz.f6 [] (tlLy) (sLy s (lyR 5 nm hid op md clip pl f fi nilS con hm mk)) L
  [([],
   [ly_653A1 s,ly_653A1 s,ly_653A1 s,ly_653A1 s],
   .ret (.agg (lyR 5 nm hid op md clip pl f (clC (mpF s.s4)) (.slc (some (3,0)) 3 3 2) con hm mk)) (hL [(3,.cells (D.toVs (ptD (ptF s.s6 s.s7 3))))]) 4)]
 :=RunIs.of (by kernel_rfl) (by kernel_rfl) (by kernel_rfl)
abbrev ly_654A1 (s:S8):Prop:=V.int IntKind.i64 (IntKind.i64.wrap ((3:Int)+IntKind.i64.wrap (Int.ofNat (BitVec.ofInt 64 s.s5 &&& BitVec.ofInt 64 (3:Int)).toNat)))=iX (4:Int)
theorem ly_654 (s:S8) (nm:List UInt8) (hid:Bool) (op md:Int) (clip:Bool) (pl:P7) (f:FL) (fi:C4) (con:List Tl) (hm:Bool) (mk:List Tl):∃ L,RunIs Tryz.prog (csH W4 []) [(135,.give (iX 4))] 1000 3 Tryz.f6 [] (tlLy) (sLy s (lyR 5 nm hid op md clip pl f fi nilS con hm mk)) L
  [([],
   [ly_654A1 s,ly_654A1 s,ly_654A1 s,ly_654A1 s,ly_654A1 s],
   .ret (.agg (lyR 5 nm hid op md clip pl f (clC (mpF s.s4)) (.slc (some (3,0)) 4 4 2) con hm mk)) (hL [(3,.cells (D.toVs (ptD (ptF s.s6 s.s7 4))))]) 4)]
 :=RunIs.of (by kernel_rfl) (by kernel_rfl) (by kernel_rfl)
abbrev ly_655A1 (s:S8):Prop:=V.int IntKind.i64 (IntKind.i64.wrap ((3:Int)+IntKind.i64.wrap (Int.ofNat (BitVec.ofInt 64 s.s5 &&& BitVec.ofInt 64 (3:Int)).toNat)))=iX (5:Int)
theorem ly_655 (s:S8) (nm:List UInt8) (hid:Bool) (op md:Int) (clip:Bool) (pl:P7) (f:FL) (fi:C4) (con:List Tl) (hm:Bool) (mk:List Tl):∃ L,RunIs Tryz.prog (csH W4 []) [(135,.give (iX 5))] 1000 3 Tryz.f6 [] (tlLy) (sLy s (lyR 5 nm hid op md clip pl f fi nilS con hm mk)) L
  [([],
   [ly_655A1 s,ly_655A1 s,ly_655A1 s,ly_655A1 s,ly_655A1 s,ly_655A1 s],
   .ret (.agg (lyR 5 nm hid op md clip pl f (clC (mpF s.s4)) (.slc (some (3,0)) 5 5 2) con hm mk)) (hL [(3,.cells (D.toVs (ptD (ptF s.s6 s.s7 5))))]) 4)]
 :=RunIs.of (by kernel_rfl) (by kernel_rfl) (by kernel_rfl)
abbrev ly_656A1 (s:S8):Prop:=V.int IntKind.i64 (IntKind.i64.wrap ((3:Int)+IntKind.i64.wrap (Int.ofNat (BitVec.ofInt 64 s.s5 &&& BitVec.ofInt 64 (3:Int)).toNat)))=iX (6:Int)
theorem ly_656 (s:S8) (nm:List UInt8) (hid:Bool) (op md:Int) (clip:Bool) (pl:P7) (f:FL) (fi:C4) (con:List Tl) (hm:Bool) (mk:List Tl):∃ L,RunIs Tryz.prog (csH W4 []) [(135,.give (iX 6))] 1000 3 Tryz.f6 [] (tlLy) (sLy s (lyR 5 nm hid op md clip pl f fi nilS con hm mk)) L
  [([],
   [ly_656A1 s,ly_656A1 s,ly_656A1 s,ly_656A1 s,ly_656A1 s,ly_656A1 s,ly_656A1 s],
   .ret (.agg (lyR 5 nm hid op md clip pl f (clC (mpF s.s4)) (.slc (some (3,0)) 6 6 2) con hm mk)) (hL [(3,.cells (D.toVs (ptD (ptF s.s6 s.s7 6))))]) 4)]
 :=RunIs.of (by kernel_rfl) (by kernel_rfl) (by kernel_rfl)
end Go.Proofs.YtmjggdmekboefaaGreatDoor
namespace Go.Proofs.YtmjggdmekboefaaGreatDoor
open Go Go.Eng
theorem tailN_seq:∀ (b a:Nat) (c:Code),tailN a (tailN b c)=tailN (b+a) c
 | 0,a,c=>by rw [Nat.zero_add]; cases c <;> rfl
 | b+1,a,c=>by
   cases c with
   | seq x y=>rw [show tailN (b+1) (.seq x y)=tailN b y from rfl,tailN_seq b a y,show b+1+a=(b+a)+1 by omega]; rfl
   | _=>rw [show b+1+a=(b+a)+1 by omega]; cases a <;> rfl
def kdF (s:S8):Int:=IntKind.i64.wrap (1+(an s.s0 65535).tmod 5)
def cn5 (s:S8):Nat:=3+(BitVec.ofInt 64 s.s5 &&& BitVec.ofInt 64 (3:Int)).toNat
noncomputable def layF (s:S8):Lay where
 id:=0
 kd:=kdF s
 nm:=nmF s.s1
 hid:=hdF s.s1
 op:=if an s.s2 1=1 then opF s.s2 else 255
 md:=if an s.s3 3=1 then mdO s.s3 else 0
 clip:=cpF s.s1
 pl:=if kdF s=1 ∨ kdF s=4 then plF s.s6 else z7
 sp:=0
 kids:=[]
 of:=0
 f:=if kdF s=3 then mk13 (l12 s) else zFL
 fi:=if kdF s=5 then clC (mpF s.s4) else z4
 pth:=if kdF s=5 then ptF s.s6 s.s7 (cn5 s) else []
 con:=if kdF s=1 then smallF [s.s4,s.s5,s.s6,s.s7,s.s2] else []
 hm:=an s.s3 192 == 64
 msk:=if an s.s3 192=64 then smallF [s.s3,s.s4,s.s5] else []
theorem an_in (x:Int) (m:Nat) (h:m ≤ 65535):0 ≤ an x m∧an x m ≤ m:=by
 unfold an
 have h1:(BitVec.ofInt 64 x &&& BitVec.ofInt 64 (m:Int)).toNat ≤ m:=by
  rw [BitVec.toNat_and]
  refine Nat.le_trans Nat.and_le_right ?_
  rw [BitVec.toNat_ofInt]
  have:((m:Int) % ((2 ^ 64:Nat):Int)).toNat=m:=by
   rw [Int.emod_eq_of_lt (by omega) (by omega)]; omega
  rw [this]; exact Nat.le_refl _
 rw [wrap_id (by simp only [hOn]; omega) (by simp only [hOn]; omega)]
 simp only [hOn]; omega
theorem restL (s:S8) (kd:Int) (pl:P7) (f:FL) {R:V→Tr O→Nat→Prop} (fin:TG Tryz.prog 3 Tryz.f6.ntmps tlLy (sLy s (lyR kd (nmF s.s1) (hdF s.s1) (if an s.s2 1=1 then opF s.s2 else 255) (if an s.s3 3=1 then mdO s.s3 else 0) (cpF s.s1) pl f z4 nilS [] (an s.s3 192 == 64) (if an s.s3 192=64 then smallF [s.s3,s.s4,s.s5] else []))) (RetG Tryz.prog 3 Tryz.f6 R)):
  TG Tryz.prog 3 Tryz.f6.ntmps (tailN 2 cdLy) (sLy s (lyR kd [] false 255 0 false pl f z4 nilS [] false [])) (RetG Tryz.prog 3 Tryz.f6 R):=by
 have h7:0 ≤ an s.s1 7∧an s.s1 7 ≤ 7:=an_in s.s1 7 (by decide)
 refine isE1 4 W3_ok (ly_2 s kd [] false 255 0 false pl f z4 [] false []) ?_ ?_
 · refine fm ?_ (fm1 ?_)
   · show (0:Int) ≤ IntKind.i64.wrap (an s.s1 7+1)∧IntKind.i64.wrap (an s.s1 7+1) ≤ 8
     rw [wrap_id (by omega) (by omega)]; omega
   · show (0:Int) ≤ an s.s1 7∧an s.s1 7 ≤ Int.ofNat (IntKind.i64.wrap (an s.s1 7+1)).toNat
     rw [wrap_id (by omega) (by omega)]
     simp only [hOn]; omega
 rw [tailN_seq]
 have e3:TG Tryz.prog 3 Tryz.f6.ntmps (tailN 7 cdLy) (sLy s (lyR kd (nmF s.s1) (hdF s.s1) (if an s.s2 1=1 then opF s.s2 else 255) 0 (cpF s.s1) pl f z4 nilS [] false [])) (RetG Tryz.prog 3 Tryz.f6 R)→TG Tryz.prog 3 Tryz.f6.ntmps (tailN 6 cdLy) (sLy s (lyR kd (nmF s.s1) (hdF s.s1) 255 0 (cpF s.s1) pl f z4 nilS [] false [])) (RetG Tryz.prog 3 Tryz.f6 R):=fun h=>by
  refine isEN 1 W3_ok (ly_3 s kd (nmF s.s1) (hdF s.s1) 255 0 (cpF s.s1) pl f z4 [] false []) (gcons (g1 fun h3=>⟨all_nil,_,rfl,?_⟩) (gone (g1 fun h3=>⟨all_nil,_,rfl,?_⟩)))
  all_goals
   have h3:(an s.s2 1 == 1)=_:=h3
   simp only [beq_iff_eq,beq_eq_false_iff_ne,ne_eq] at h3
   rw [tailN_seq]
  · rw [if_pos h3] at h; exact h
  · rw [if_neg h3] at h; exact h
 have e4:TG Tryz.prog 3 Tryz.f6.ntmps (tailN 8 cdLy) (sLy s (lyR kd (nmF s.s1) (hdF s.s1) (if an s.s2 1=1 then opF s.s2 else 255) (if an s.s3 3=1 then mdO s.s3 else 0) (cpF s.s1) pl f z4 nilS [] false [])) (RetG Tryz.prog 3 Tryz.f6 R)→TG Tryz.prog 3 Tryz.f6.ntmps (tailN 7 cdLy) (sLy s (lyR kd (nmF s.s1) (hdF s.s1) (if an s.s2 1=1 then opF s.s2 else 255) 0 (cpF s.s1) pl f z4 nilS [] false [])) (RetG Tryz.prog 3 Tryz.f6 R):=fun h=>by
  refine isEN 1 W3_ok (ly_4 s kd (nmF s.s1) (hdF s.s1) _ 0 (cpF s.s1) pl f z4 [] false []) (gcons (g1 fun h3=>⟨all_nil,_,rfl,?_⟩) (gone (g1 fun h3=>⟨all_nil,_,rfl,?_⟩)))
  all_goals
   have h3:(an s.s3 3 == 1)=_:=h3
   simp only [beq_iff_eq,beq_eq_false_iff_ne,ne_eq] at h3
   rw [tailN_seq]
  · rw [if_pos h3] at h; exact h
  · rw [if_neg h3] at h; exact h
 refine e3 (e4 (isEN 1 (pinZ_ok (by kernel_rfl) (smallD [s.s3,s.s4,s.s5] (show 3 ≤ 1000000 by decide)) W3_ok) (ly_5 s kd (nmF s.s1) (hdF s.s1) _ _ (cpF s.s1) pl f z4 [] false [] _) (gcons (g1 fun h3=>⟨fm rfl (fm1 rfl),_,rfl,?_⟩) (gone (g1 fun h3=>⟨all_nil,_,rfl,?_⟩)))))
 all_goals
  have h3:(an s.s3 192 == 64)=_:=h3
  rw [h3] at fin
  simp only [beq_iff_eq,beq_eq_false_iff_ne,ne_eq] at h3
  rw [tailN_seq]
 · rw [if_pos h3] at fin; exact fin
 · rw [if_neg h3] at fin; exact fin
theorem layD (s:S8):DeepTo Tryz.prog 6 [.agg s.cs] (layF s).v:=by
 refine deepN Tryz.func6 ?_
 have h5:0 ≤ an s.s0 65535∧an s.s0 65535 ≤ 65535:=an_in s.s0 65535 (by decide)
 have hm:=tm_in h5.1 (d:=5) (by decide)
 have hk:kdF s=1+(an s.s0 65535).tmod 5:=wrap_id (by omega) (by omega)
 have hk':∀ q:Int,kdF s=q→V.int IntKind.i64 (IntKind.i64.wrap ((1:Int)+(IntKind.i64.wrap (Int.ofNat (BitVec.ofInt 64 s.s0 &&& BitVec.ofInt 64 (65535:Int)).toNat)).tmod (5:Int)))=iX q:=fun q e=>congrArg _ e
 have nlA (kd op:Int) (pl:P7) (k:Int):Goes Tryz.prog 3 Tryz.f6.ntmps (sLy s (lyN kd op pl k)) (sLy s (lyR kd [] false op 0 false pl ⟨k,0,[],0,0,[]⟩ z4 nilS [] false [])):=.step (.nlAt 5 [15,19,22,28,30] (by kernel_rfl))
 rcases (by omega:kdF s=1 ∨ kdF s=2 ∨ kdF s=3 ∨ kdF s=4 ∨ kdF s=5) with e | e | e | e | e
 · refine isE1 2 W3_ok (ly_11 s) (fm1 (hk' 1 e)) (nlA _ _ _ _ _ _ (restL s 1 i7 zFL ?_))
   refine retE (pinZ_ok (by kernel_rfl) (smallD [s.s4,s.s5,s.s6,s.s7,s.s2] (show 5 ≤ 1000000 by decide)) W4_ok) (ly_61 s _ _ _ _ _ _ _ _ _ _ _ _) (gone (g0 ⟨fm rfl (fm1 rfl),_,_,_,rfl,.self rfl ?_⟩))
   simp only [Lay.v,layF,e]; rfl
 · refine isE1 2 W3_ok (ly_12 s) (fm1 (hk' 2 e)) (nlA _ _ _ _ _ _ (restL s 2 z7 zFL ?_))
   refine retE W4_ok (ly_62 s _ _ _ _ _ _ _ _ _ _ _) (gone (g0 ⟨all_nil,_,_,_,rfl,.self rfl ?_⟩))
   simp only [Lay.v,layF,e]; rfl
 · refine isE1 2 W3_ok (ly_13 s) (fm1 (hk' 3 e)) (nlA _ _ _ _ _ _ (restL s 3 z7 ⟨6,0,[],0,0,[]⟩ ?_))
   refine retE (pinZ_ok (by kernel_rfl) (mk13D _ _ _ _ _ _ _ _ _ _ _ _) W4_ok) (ly_63 s _ _ _ _ _ _ _ _ _ _ _ (mk13 (l12 s))) (gone (g0 ⟨?_,_,_,_,rfl,.self rfl ?_⟩))
   · repeat' (first | exact all_nil | refine fm ?_ ?_)
     all_goals first | decide | rfl
   simp only [Lay.v,layF,e]; rfl
 · refine isE1 2 W3_ok (ly_14 s) (fm1 (hk' 4 e)) (nlA _ _ _ _ _ _ (restL s 4 i7 zFL ?_))
   refine retE W4_ok (ly_64 s _ _ _ _ _ _ _ _ _ _ _) (gone (g0 ⟨all_nil,_,_,_,rfl,.self rfl ?_⟩))
   simp only [Lay.v,layF,e]; rfl
 · refine isE1 2 W3_ok (ly_15 s) (fm1 (hk' 5 e)) (nlA _ _ _ _ _ _ (restL s 5 z7 zFL ?_))
   have hc:cn5 s=3 ∨ cn5 s=4 ∨ cn5 s=5 ∨ cn5 s=6:=by
    unfold cn5
    have:(BitVec.ofInt 64 s.s5 &&& BitVec.ofInt 64 (3:Int)).toNat ≤ 3:=by
     rw [BitVec.toNat_and]; exact Nat.and_le_right
    omega
   have hcv:∀ q:Nat,cn5 s=q→V.int IntKind.i64 (IntKind.i64.wrap ((3:Int)+IntKind.i64.wrap (Int.ofNat (BitVec.ofInt 64 s.s5 &&& BitVec.ofInt 64 (3:Int)).toNat)))=iX (Int.ofNat q):=fun q hq=>by
    unfold cn5 at hq hc
    generalize (BitVec.ofInt 64 s.s5 &&& BitVec.ofInt 64 (3:Int)).toNat=m at hq hc
    rw [wrap_id (x:=Int.ofNat m) (by simp only [hOn]; omega) (by simp only [hOn]; omega),wrap_id (by simp only [hOn]; omega) (by simp only [hOn]; omega),← hq]
    simp only [hOn]; congr 1
   have fin:∀ (c:Nat) (nm:List UInt8) (hid:Bool) (op md:Int) (clip:Bool) (hm:Bool) (mk:List Tl),(ptD (ptF s.s6 s.s7 c)).length=c * 2→fzOf [3] (.agg (lyR 5 nm hid op md clip z7 zFL (clC (mpF s.s4)) (.slc (some (3,0)) c c 2) [] hm mk)) (hL [(3,.cells (D.toVs (ptD (ptF s.s6 s.s7 c))))]) 4=some ([(ptD (ptF s.s6 s.s7 c)).length=c * 2],.agg (lyR 5 nm hid op md clip z7 zFL (clC (mpF s.s4)) (.lst false c (ptD (ptF s.s6 s.s7 c))) [] hm mk))→nm=(layF s).nm→hid=(layF s).hid→op=(layF s).op→md=(layF s).md→clip=(layF s).clip→hm=(layF s).hm→mk=(layF s).msk→cn5 s=c→
     FzN (layF s).v (.agg (lyR 5 nm hid op md clip z7 zFL (clC (mpF s.s4)) (.slc (some (3,0)) c c 2) [] hm mk)) (hL [(3,.cells (D.toVs (ptD (ptF s.s6 s.s7 c))))]) 4:=by
    intro c nm hid op md clip hm mk hl hf e1 e2 e3 e4 e5 e6 e7 hc
    refine .frz [3] hf (fm1 hl) rfl ?_
    subst e1 e2 e3 e4 e5 e6 e7
    have e8:(layF s).pth=ptF s.s6 s.s7 c:=by simp only [layF,e,if_true,hc]
    have e9:(layF s).v= .agg (lyR 5 (layF s).nm (layF s).hid (layF s).op (layF s).md (layF s).clip z7 zFL (clC (mpF s.s4)) (ptV (layF s).pth) [] (layF s).hm (layF s).msk):=by
     simp only [Lay.v,layF,e]; rfl
    rw [e9,e8]
    have:(ptF s.s6 s.s7 c).length=c:=by simp [ptF]
    rw [show ptV (ptF s.s6 s.s7 c)= .lst false c (ptD (ptF s.s6 s.s7 c)) by unfold ptV; rw [this]]
    rfl
   rcases hc with q | q | q | q
   · refine retE W4_ok (ly_653 s _ _ _ _ _ _ _ _ _ _ _) (gone (g0 ⟨?_,_,_,_,rfl,fin 3 _ _ _ _ _ _ _ rfl (by kernel_rfl) rfl rfl rfl rfl rfl rfl rfl q⟩))
     repeat' (first | exact all_nil | exact hcv 3 q | refine fm ?_ ?_)
   · refine retE W4_ok (ly_654 s _ _ _ _ _ _ _ _ _ _ _) (gone (g0 ⟨?_,_,_,_,rfl,fin 4 _ _ _ _ _ _ _ rfl (by kernel_rfl) rfl rfl rfl rfl rfl rfl rfl q⟩))
     repeat' (first | exact all_nil | exact hcv 4 q | refine fm ?_ ?_)
   · refine retE W4_ok (ly_655 s _ _ _ _ _ _ _ _ _ _ _) (gone (g0 ⟨?_,_,_,_,rfl,fin 5 _ _ _ _ _ _ _ rfl (by kernel_rfl) rfl rfl rfl rfl rfl rfl rfl q⟩))
     repeat' (first | exact all_nil | exact hcv 5 q | refine fm ?_ ?_)
   · refine retE W4_ok (ly_656 s _ _ _ _ _ _ _ _ _ _ _) (gone (g0 ⟨?_,_,_,_,rfl,fin 6 _ _ _ _ _ _ _ rfl (by kernel_rfl) rfl rfl rfl rfl rfl rfl rfl q⟩))
     repeat' (first | exact all_nil | exact hcv 6 q | refine fm ?_ ?_)
end Go.Proofs.YtmjggdmekboefaaGreatDoor
namespace Go.Proofs.YtmjggdmekboefaaGreatDoor
open Go Go.Eng Go.Shelf Go.RowKit
def ckRen:Go.Shelf.Ren:=⟨fun | 240=>58 | 276=>87 | n=>n,fun | 70=>70 | 72=>73 | 164=>152 | 37=>71 | n=>n,fun n=>n⟩
theorem ckLays:Lays.n240 Tryz.prog ckRen:={
 mixed:=mo
 f240:=Tryz.func58.trans (congrArg some (by kernel_rfl))
 f276:=Tryz.func87.trans (congrArg some (by kernel_rfl))
 t0:=Tryz.underlying0
 a0:=Tryz.isAgg0
 z0:=Tryz.sizeOf0
 v0:=Tryz.zeroValue0
 t4:=Tryz.underlying4
 a4:=Tryz.isAgg4
 z4:=Tryz.sizeOf4
 v4:=Tryz.zeroValue4
 t9:=Tryz.underlying9
 a9:=Tryz.isAgg9
 z9:=Tryz.sizeOf9
 v9:=Tryz.zeroValue9
 t20:=Tryz.underlying20
 a20:=Tryz.isAgg20
 z20:=Tryz.sizeOf20
 v20:=Tryz.zeroValue20
 t70:=Tryz.underlying70
 a70:=Tryz.isAgg70
 z70:=Tryz.sizeOf70
 v70:=Tryz.zeroValue70
 t72:=Tryz.underlying73
 a72:=Tryz.isAgg73
 z72:=Tryz.sizeOf73
 v72:=Tryz.zeroValue73
 t164:=Tryz.underlying152
 a164:=Tryz.isAgg152
 z164:=Tryz.sizeOf152
 v164:=Tryz.zeroValue152
}
theorem ckMore:Builder.X72 Tryz.prog ckRen where
 sizeBuilder:=by kernel_rfl
 liesBuilder:=by kernel_rfl
def specCk:List V→Tr O→Nat→Option (List Prop × V × Tr O × Nat)
 | [.ptr (some (m,0))],h,n=>match h.get m with
   | some (.bld t _ x)=>match Nat.beq t 73 && Nat.blt m top with
     | true=>some ([],.tup [],h.set m (some (.bld t true x)),n)
     | false=>none
   | _=>none
 | _,_,_=>none
theorem one_Ck:OneW Tryz.prog 58 specCk:=by
 refine ⟨Nat.le_of_ble_eq_true (by kernel_rfl),fun args h n A v h' n' e hA E w args' ra g hd hc=>?_⟩
 unfold specCk at e
 split at e
 case h_2=>cases e
 rename_i m
 split at e
 case h_2=>cases e
 rename_i t self x hm
 split at e
 case h_2=>cases e
 rename_i hq
 simp only [Bool.and_eq_true] at hq
 obtain ⟨ht,hmt⟩:=hq
 have ht:=Nat.eq_of_beq_eq_true ht
 subst ht
 have hmt:m < top:=Nat.le_of_ble_eq_true hmt
 simp only [Option.some.injEq,Prod.mk.injEq] at e
 obtain ⟨rfl,rfl,rfl,rfl⟩:=e
 obtain ⟨y,ys,r0,rs,rfl⟩:=ra
 have rs:ys=[]:=rs
 subst rs
 obtain ⟨b,s,e1,rfl⟩:=r0
 obtain ⟨b',s',e2,hs,x',fz,k1,k2,k3,k4⟩:=g.rel m _ hm
 rw [e1] at e2
 simp only [Option.some.injEq,Prod.mk.injEq] at e2
 obtain ⟨rfl,rfl⟩:=e2
 subst hs
 have hbb:b < w.heap.size:=g.bnd m b 0 e1
 have hlive:wlive h m:=⟨_,hm,rfl⟩
 have hcell:∀ {self:Bool},w.heap[b]? =some (.cells #[.pointer (if self then some ⟨b,0,none⟩ else none),x'] 73 fz)→w.cell? ⟨b,0,none⟩=some (.pointer (if self then some ⟨b,0,none⟩ else none)):=by
  intro self k1
  unfold World.cell?; rw [k1]; rfl
 have hcpost:∀ w',w'.heap.size=w.heap.size→w'.tape=w.tape→w'.os=w.os→w'.output=w.output→(∀ j,j ≠ b→w'.heap[j]? =w.heap[j]?)→w'.heap[b]? =some (.cells #[.pointer (some ⟨b,0,none⟩),x'] 73 fz)→
   CPost E h n w (.ret (.tup [])) (h.set m (some (.bld 73 true x))) n (.returned (.tuple #[])) w':=by
  intro w' h1 h2 h3 h4 h5 h6
  refine ⟨E,Upd.write g hmt hlive e1 h1 h2 h3 h4 h5 ⟨rfl,x',fz,h6,k2,k3,k4⟩,fun _ _=>rfl,hd,Nat.le_refl _,⟨[],rfl,rfl⟩⟩
 cases self with
 | true=>
   have h:=Any.Builder_copyCheck_used ckLays ckMore b w (hcell k1)
   refine h.mono fun en w' ⟨he,hw⟩=>?_
   subst he; subst hw
   exact hcpost w' rfl rfl rfl rfl (fun _ _=>rfl) k1
 | false=>
   have h:=Any.Builder_copyCheck_fresh ckLays ckMore b w (hcell k1) (by unfold World.shape?; rw [k1]; rfl) (by
    unfold World.frozen?
    simp only [k1]
    have:=k3 0 (by omega)
    obtain ⟨lo,hi⟩:=fz
    simp only at this ⊢
    cases hq:(decide (lo ≤ 0) && decide (0 < hi)) with
    | false=>rfl
    | true=>simp only [Bool.and_eq_true,decide_eq_true_eq] at hq; exact absurd hq this)
   refine h.mono fun en w' ⟨he,hw⟩=>?_
   subst he; subst hw
   refine hcpost _ (by simp [World.setCell]) rfl rfl rfl (fun j hj=>by simp [World.setCell,Array.getElem?_modify,Ne.symm hj]) ?_
   simp [World.setCell,Array.getElem?_modify,k1]
end Go.Proofs.YtmjggdmekboefaaGreatDoor
