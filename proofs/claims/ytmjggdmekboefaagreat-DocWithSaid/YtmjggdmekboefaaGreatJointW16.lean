/- The Doc laws: small functions of DocQueries: contracts. No conditions. -/
import Derived.Test.YtmjggdmekboefaaGreatJointW15
import Derived.Deep.LoopGhost
import Derived.Lib.Walk
import Derived.Lib.SliceRun
import Derived.OwnWalk
set_option linter.unusedVariables false
set_option linter.unusedSimpArgs false
set_option linter.unusedSectionVars false
set_option maxRecDepth 100000
namespace Go.Proofs.YtmjggdmekboefaaGreat.Q
open Go Go.Eng
set_option maxRecDepth 10000
noncomputable abbrev asm:Code:=dL Tryz.f12
def xE(x n:Int):Int:=(IntKind.i64.wrap (x.tmod n+n)).tmod n
theorem asn(x n:Int):H (M ek []) [] 0 Tryz.f12 [] asm (dB [F x,F n] .nil 0) [([],[n≠0,n≠0],.ret (F (xE x n)) .nil 0)]:=G.W
theorem WD(x n:Int)(h:n≠0):dV ak 12 [F x,F n] (F (xE x n)):=
 fc Tryz.func12 (eR (be _) (asn x n) (dF (g0 ⟨A h (eM h),_,_,_,rfl,rfl⟩)))
section
variable{d:Dc}(hd:BF d)
include hd
end
set_option maxRecDepth 10000
section
variable{d:Dc}(h:jW d)
include h
theorem La(n:Nat)(x:Int)(hr:Gl d.ly false x<n):(yR d.ly n x).length<=40:=by
 rw[Lm h n 100 x hr (by have:=yT h x;omega)];cases hn:jK d.ly x with
 |none=>
  have:yR d.ly 100 x=[]:=by
   show(match jK d.ly x with|some m=>(d.ly.getD m gv).kids.flatMap (fun j=>j::yR d.ly 99 j)|none=>[])=[];rw[hn]
  rw[this];exact aN _
 |some m=>
  obtain⟨fm,aj,e⟩:=My h 100 x (Nat.le_add_right _ _) ⟨m,hn⟩;have h1:=aI List.length e;rw[agy h,aH,aH]at h1;unfold tT at h1;rw[aR]at h1;have:=h.big.2.1;omega
end
open Go.RowKit Go.Lib
set_option maxHeartbeats 2000000 in
theorem agz(a:Addr)(c:Nat)(w:World):Calls ak 82 #[.slice (some a) 0 c] w fun e w'=>∃v',e= .returned v'/\(∃aj k,w'.ownsRow aj k 1 v' 0 [])/\Below w.heap.size w w':=by
 have mixed:Tryz.prog.follows .mixedOrders=true:=mo;have t22:=Tryz.underlying22;have t4:=Tryz.underlying4;obtain⟨i0,z,hi,Lw,DF,DG,Fx⟩:∃i0 z,Tryz.prog.info? 3=some i0/\i0.zero=some z/\i0.size=1/\i0.bytes=8/\z.cells.size=1:=by
  have h1:(Tryz.prog.info? 3).map (fun i=>(i.size,i.bytes,(i.zero.map fun z=>z.cells.size)))=some (1,8,some 1):=by kernel_rfl
  obtain⟨i0,hi,C⟩:=cL.1 h1;simp only[aB]at C;obtain⟨z,hz,Fx⟩:=cL.1 C.2.2;exact⟨i0,z,hi,hz,C.1,C.2.1,Fx⟩
 have q22:∀(w:World) (a:Option Addr) (n c n' c':Nat),(binOp .eql 22 (.slice a n c) (.slice none n' c')).run ak w= .ok (.bool a.isNone) w:=fun w a n c n' c'=>Lib.run_eql_slice_nil w _ _ a n c n' c' t22;have u22:∀w,Sem.run ak (underlying 22) w= .ok (TypeDesc.slice 3) w:=run_underlying t22
 go_enter Tryz.func82,Tryz.ntmps82
 go_wp2_with (at_builtin;refine wpList_append_own _ rfl _ _ 22 rfl w.heap.size 3 i0 z 1 8 t22 hi Lw DF DG Fx eX _ _ _ rfl (World.ownsRow_made w #[] 0 (aK _) (aN _) rfl) a 0 c [] rfl rfl (by intro j u hj;simp at hj) (by intro u hu;cases hu) (by unfold maxLen;omega) S (by simp) ?_)
 intro v' w1 GN Dx lX
 go_wp2
 go_ret
 exact⟨v',rfl,⟨_,_,by simpa using GN⟩,((Below.refl _ w).alloc (aK _) _).grown Dx (by simp) (by intro k U;simp[Value.ownBlock]at U;omega)⟩
set_option maxHeartbeats 1000000 in
theorem agA(n c:Nat)(w:World):Calls ak 82 #[.slice none n c] w fun e w'=>e= .returned (.slice none 0 0)/\w'=w:=by
 have mixed:Tryz.prog.follows .mixedOrders=true:=mo;have t22:=Tryz.underlying22;have t4:=Tryz.underlying4;have q22:∀(w:World) (a:Option Addr) (n c n' c':Nat),(binOp .eql 22 (.slice a n c) (.slice none n' c')).run ak w= .ok (.bool a.isNone) w:=fun w a n c n' c'=>Lib.run_eql_slice_nil w _ _ a n c n' c' t22
 go_enter Tryz.func82,Tryz.ntmps82
 go_wp2
 go_ret
 exact⟨rfl,rfl⟩
set_option maxHeartbeats 2000000 in
theorem agB(a:Addr)(c:Nat)(w:World):Calls ak 38 #[.slice (some a) 0 c] w fun e w'=>∃v',e= .returned v'/\(∃aj k,w'.ownsRow aj k 1 v' 0 [])/\Below w.heap.size w w':=by
 have mixed:Tryz.prog.follows .mixedOrders=true:=mo;have t25:=Tryz.underlying25;have t4:=Tryz.underlying4;obtain⟨i0,z,hi,Lw,DF,DG,Fx⟩:∃i0 z,Tryz.prog.info? 3=some i0/\i0.zero=some z/\i0.size=1/\i0.bytes=8/\z.cells.size=1:=by
  have h1:(Tryz.prog.info? 3).map (fun i=>(i.size,i.bytes,(i.zero.map fun z=>z.cells.size)))=some (1,8,some 1):=by kernel_rfl
  obtain⟨i0,hi,C⟩:=cL.1 h1;simp only[aB]at C;obtain⟨z,hz,Fx⟩:=cL.1 C.2.2;exact⟨i0,z,hi,hz,C.1,C.2.1,Fx⟩
 have q25:∀(w:World) (a:Option Addr) (n c n' c':Nat),(binOp .eql 25 (.slice a n c) (.slice none n' c')).run ak w= .ok (.bool a.isNone) w:=fun w a n c n' c'=>Lib.run_eql_slice_nil w _ _ a n c n' c' t25;have u25:∀w,Sem.run ak (underlying 25) w= .ok (TypeDesc.slice 3) w:=run_underlying t25
 go_enter Tryz.func38,Tryz.ntmps38
 go_wp2_with (at_builtin;refine wpList_append_own _ rfl _ _ 25 rfl w.heap.size 3 i0 z 1 8 t25 hi Lw DF DG Fx eX _ _ _ rfl (World.ownsRow_made w #[] 0 (aK _) (aN _) rfl) a 0 c [] rfl rfl (by intro j u hj;simp at hj) (by intro u hu;cases hu) (by unfold maxLen;omega) S (by simp) ?_)
 intro v' w1 GN Dx lX
 go_wp2
 go_ret
 exact⟨v',rfl,⟨_,_,by simpa using GN⟩,((Below.refl _ w).alloc (aK _) _).grown Dx (by simp) (by intro k U;simp[Value.ownBlock]at U;omega)⟩
set_option maxHeartbeats 1000000 in
theorem agC(n c:Nat)(w:World):Calls ak 38 #[.slice none n c] w fun e w'=>e= .returned (.slice none 0 0)/\w'=w:=by
 have mixed:Tryz.prog.follows .mixedOrders=true:=mo;have t25:=Tryz.underlying25;have t4:=Tryz.underlying4;have q25:∀(w:World) (a:Option Addr) (n c n' c':Nat),(binOp .eql 25 (.slice a n c) (.slice none n' c')).run ak w= .ok (.bool a.isNone) w:=fun w a n c n' c'=>Lib.run_eql_slice_nil w _ _ a n c n' c' t25
 go_enter Tryz.func38,Tryz.ntmps38
 go_wp2
 go_ret
 exact⟨rfl,rfl⟩
set_option maxHeartbeats 2000000 in
theorem agD(a:Addr)(c:Nat)(w:World):Calls ak 83 #[.slice (some a) 0 c] w fun e w'=>∃v',e= .returned v'/\(∃aj k,w'.ownsRow aj k 2 v' 0 [])/\Below w.heap.size w w':=by
 have mixed:Tryz.prog.follows .mixedOrders=true:=mo;have t30:=Tryz.underlying30;have t4:=Tryz.underlying4;obtain⟨i0,z,hi,Lw,DF,DG,Fx⟩:∃i0 z,Tryz.prog.info? 132=some i0/\i0.zero=some z/\i0.size=2/\i0.bytes=16/\z.cells.size=2:=by
  have h1:(Tryz.prog.info? 132).map (fun i=>(i.size,i.bytes,(i.zero.map fun z=>z.cells.size)))=some (2,16,some 2):=by kernel_rfl
  obtain⟨i0,hi,C⟩:=cL.1 h1;simp only[aB]at C;obtain⟨z,hz,Fx⟩:=cL.1 C.2.2;exact⟨i0,z,hi,hz,C.1,C.2.1,Fx⟩
 have q30:∀(w:World) (a:Option Addr) (n c n' c':Nat),(binOp .eql 30 (.slice a n c) (.slice none n' c')).run ak w= .ok (.bool a.isNone) w:=fun w a n c n' c'=>Lib.run_eql_slice_nil w _ _ a n c n' c' t30;have u30:∀w,Sem.run ak (underlying 30) w= .ok (TypeDesc.slice 132) w:=run_underlying t30
 go_enter Tryz.func83,Tryz.ntmps83
 go_wp2_with (at_builtin;refine wpList_append_own _ rfl _ _ 30 rfl w.heap.size 132 i0 z 2 16 t30 hi Lw DF DG Fx eX _ _ _ rfl (World.ownsRow_made w #[] 0 (aK _) (aN _) rfl) a 0 c [] rfl rfl (by intro j u hj;simp at hj) (by intro u hu;cases hu) (by unfold maxLen;omega) S (by simp) ?_)
 intro v' w1 GN Dx lX
 go_wp2
 go_ret
 exact⟨v',rfl,⟨_,_,by simpa using GN⟩,((Below.refl _ w).alloc (aK _) _).grown Dx (by simp) (by intro k U;simp[Value.ownBlock]at U;omega)⟩
set_option maxHeartbeats 1000000 in
theorem agE(n c:Nat)(w:World):Calls ak 83 #[.slice none n c] w fun e w'=>e= .returned (.slice none 0 0)/\w'=w:=by
 have mixed:Tryz.prog.follows .mixedOrders=true:=mo;have t30:=Tryz.underlying30;have t4:=Tryz.underlying4;have q30:∀(w:World) (a:Option Addr) (n c n' c':Nat),(binOp .eql 30 (.slice a n c) (.slice none n' c')).run ak w= .ok (.bool a.isNone) w:=fun w a n c n' c'=>Lib.run_eql_slice_nil w _ _ a n c n' c' t30
 go_enter Tryz.func83,Tryz.ntmps83
 go_wp2
 go_ret
 exact⟨rfl,rfl⟩
set_option maxHeartbeats 2000000 in
theorem agF(a:Addr)(c:Nat)(w:World):Calls ak 84 #[.slice (some a) 0 c] w fun e w'=>∃v',e= .returned v'/\(∃aj k,w'.ownsRow aj k 258 v' 0 [])/\Below w.heap.size w w':=by
 have mixed:Tryz.prog.follows .mixedOrders=true:=mo;have t31:=Tryz.underlying31;have t4:=Tryz.underlying4;obtain⟨i0,z,hi,Lw,DF,DG,Fx⟩:∃i0 z,Tryz.prog.info? 153=some i0/\i0.zero=some z/\i0.size=258/\i0.bytes=272/\z.cells.size=258:=by
  have h1:(Tryz.prog.info? 153).map (fun i=>(i.size,i.bytes,(i.zero.map fun z=>z.cells.size)))=some (258,272,some 258):=by kernel_rfl
  obtain⟨i0,hi,C⟩:=cL.1 h1;simp only[aB]at C;obtain⟨z,hz,Fx⟩:=cL.1 C.2.2;exact⟨i0,z,hi,hz,C.1,C.2.1,Fx⟩
 have q31:∀(w:World) (a:Option Addr) (n c n' c':Nat),(binOp .eql 31 (.slice a n c) (.slice none n' c')).run ak w= .ok (.bool a.isNone) w:=fun w a n c n' c'=>Lib.run_eql_slice_nil w _ _ a n c n' c' t31;have u31:∀w,Sem.run ak (underlying 31) w= .ok (TypeDesc.slice 153) w:=run_underlying t31
 go_enter Tryz.func84,Tryz.ntmps84
 go_wp2_with (at_builtin;refine wpList_append_own _ rfl _ _ 31 rfl w.heap.size 153 i0 z 258 272 t31 hi Lw DF DG Fx eX _ _ _ rfl (World.ownsRow_made w #[] 0 (aK _) (aN _) rfl) a 0 c [] rfl rfl (by intro j u hj;simp at hj) (by intro u hu;cases hu) (by unfold maxLen;omega) S (by simp) ?_)
 intro v' w1 GN Dx lX
 go_wp2
 go_ret
 exact⟨v',rfl,⟨_,_,by simpa using GN⟩,((Below.refl _ w).alloc (aK _) _).grown Dx (by simp) (by intro k U;simp[Value.ownBlock]at U;omega)⟩
set_option maxHeartbeats 1000000 in
theorem agG(n c:Nat)(w:World):Calls ak 84 #[.slice none n c] w fun e w'=>e= .returned (.slice none 0 0)/\w'=w:=by
 have mixed:Tryz.prog.follows .mixedOrders=true:=mo;have t31:=Tryz.underlying31;have t4:=Tryz.underlying4;have q31:∀(w:World) (a:Option Addr) (n c n' c':Nat),(binOp .eql 31 (.slice a n c) (.slice none n' c')).run ak w= .ok (.bool a.isNone) w:=fun w a n c n' c'=>Lib.run_eql_slice_nil w _ _ a n c n' c' t31
 go_enter Tryz.func84,Tryz.ntmps84
 go_wp2
 go_ret
 exact⟨rfl,rfl⟩
set_option maxRecDepth 10000
def Sb:ag->Option (ah×V)
 | [.eE _ 0 []]=>some ([],.eE false 0 [])
 |_=>none
theorem GO{f:FuncId}{k:Nat}(eY:Nat.blt f Tryz.prog.funcs.size=true)(N:callee ak f=true)(hz:∀(a:Addr) (c:Nat) (w:World),Calls ak f #[.slice (some a) 0 c] w fun e w'=>∃v',e= .returned v'/\(∃aj j,w'.ownsRow aj j k v' 0 [])/\RowKit.Below w.heap.size w w')
  (hn:∀(n c:Nat) (w:World),Calls ak f #[.slice none n c] w fun e w'=>e= .returned (.slice none 0 0)/\w'=w):dV ak f [.eE false 0 []] (.eE false 0 []):=by
 have one:kj ak f (gQ Sb):=by
  refine Iy (aE eY) fun args fm v e=>?_;unfold Sb at e;split at e
  . obtain⟨rfl,rfl⟩:=gl e;refine⟨rfl,rfl,fun _ E w dQ _ ra=>?_⟩;obtain⟨y,ys,r0,rs,rfl⟩:=ra;have rs:ys=[]:=rs;subst rs;obtain⟨⟨a,jQ,vs,rfl,_,hv,_,_⟩,_⟩:=r0;cases a with
    |none=>
     refine(hn 0 jQ w).mono fun en w' ⟨he,hw⟩=>?_;subst he;subst hw;exact⟨⟨E,⟨none,0,[],rfl,aK _,rfl,fun _=>rfl,fun h=>absurd h (dj _)⟩,fun h=>by cases h⟩,RowKit.Below.refl _ _⟩
    |some a=>
     refine(hz a jQ w).mono fun en w' ⟨v',he,⟨aj,j,GN⟩,hw⟩=>?_;subst he;have WU:∃a c,v'= .slice a 0 c:=by
      obtain⟨_,h⟩:=GN;rcases h with⟨h,_⟩|⟨g,jQ,cur,h,_⟩
      . exact⟨none,0,h⟩
      . exact⟨_,_,h⟩
     obtain⟨a2,c2,rfl⟩:=WU;exact⟨⟨E,⟨a2,c2,[],rfl,aN _,rfl,fun _=>rfl,fun h=>absurd h (dj _)⟩,fun h=>by cases h⟩,hw⟩
  . cases e
 exact fun E h n w dQ ra g hd=>one.2 _ _ _ [] _ _ _ rfl all_nil E w dQ ra g hd N
section
variable(n:Nat)
theorem aso(l:List Eng.D):H (M ek []) [] 0 Tryz.f82 [] (dL Tryz.f82) (dB [.eE false n l] .nil 0)
  [([],[0<n,l.length=n*1,fJ (0+n) 1 8=true],.ret (.eZ (some (0,0)) (0+n) (0+n) 1) (hL [(0,.deep ([]++l))]) 1)]:=G.W
theorem U8(l:List Eng.D)(hl:l.length=n*1)(hn:n<=1000000):dV ak 82 [.eE false n l] (.eE false n l):=by
 rcases cH n with h0|h0
 . subst h0;obtain rfl:l=[]:=de.1 S;exact GO dD dD agz agA
 . have h:=aso n l;rw[bB,bA]at h;have hr:fJ n 1 8=true:=by unfold fJ;exact aT ⟨S,S⟩
   exact mJ Tryz.func82 (eR (be _) h (dF (g0 ⟨A h0 (A hl (eM hr)),_,_,_,rfl,.Bi (v0:=.eE false n l) [0] (fm:=[l.length=n*1]) dD (eM hl) dD dD⟩)))
theorem asp(l:List Eng.D):H (M ek []) [] 0 Tryz.f38 [] (dL Tryz.f38) (dB [.eE false n l] .nil 0)
  [([],[0<n,l.length=n*1,fJ (0+n) 1 8=true],.ret (.eZ (some (0,0)) (0+n) (0+n) 1) (hL [(0,.deep ([]++l))]) 1)]:=G.W
theorem Mz(l:List Eng.D)(hl:l.length=n*1)(hn:n<=1000000):dV ak 38 [.eE false n l] (.eE false n l):=by
 rcases cH n with h0|h0
 . subst h0;obtain rfl:l=[]:=de.1 S;exact GO dD dD agB agC
 . have h:=asp n l;rw[bB,bA]at h;have hr:fJ n 1 8=true:=by unfold fJ;exact aT ⟨S,S⟩
   exact mJ Tryz.func38 (eR (be _) h (dF (g0 ⟨A h0 (A hl (eM hr)),_,_,_,rfl,.Bi (v0:=.eE false n l) [0] (fm:=[l.length=n*1]) dD (eM hl) dD dD⟩)))
theorem asq(l:List Eng.D):H (M ek []) [] 0 Tryz.f83 [] (dL Tryz.f83) (dB [.eE false n l] .nil 0)
  [([],[0<n,l.length=n*2,fJ (0+n) 2 16=true],.ret (.eZ (some (0,0)) (0+n) (0+n) 2) (hL [(0,.deep ([]++l))]) 1)]:=G.W
theorem U9(l:List Eng.D)(hl:l.length=n*2)(hn:n<=1000000):dV ak 83 [.eE false n l] (.eE false n l):=by
 rcases cH n with h0|h0
 . subst h0;obtain rfl:l=[]:=de.1 S;exact GO dD dD agD agE
 . have h:=asq n l;rw[bB,bA]at h;have hr:fJ n 2 16=true:=by unfold fJ;exact aT ⟨S,S⟩
   exact mJ Tryz.func83 (eR (be _) h (dF (g0 ⟨A h0 (A hl (eM hr)),_,_,_,rfl,.Bi (v0:=.eE false n l) [0] (fm:=[l.length=n*2]) dD (eM hl) dD dD⟩)))
theorem ass(l:List Eng.D):H (M ek []) [] 0 Tryz.f84 [] (dL Tryz.f84) (dB [.eE false n l] .nil 0)
  [([],[0<n,l.length=n*258,fJ (0+n) 258 272=true],.ret (.eZ (some (0,0)) (0+n) (0+n) 258) (hL [(0,.deep ([]++l))]) 1)]:=G.W
theorem Va(l:List Eng.D)(hl:l.length=n*258)(hn:n<=1000000):dV ak 84 [.eE false n l] (.eE false n l):=by
 rcases cH n with h0|h0
 . subst h0;obtain rfl:l=[]:=de.1 S;exact GO dD dD agF agG
 . have h:=ass n l;rw[bB,bA]at h;have hr:fJ n 258 272=true:=by unfold fJ;exact aT ⟨S,S⟩
   exact mJ Tryz.func84 (eR (be _) h (dF (g0 ⟨A h0 (A hl (eM hr)),_,_,_,rfl,.Bi (v0:=.eE false n l) [0] (fm:=[l.length=n*258]) dD (eM hl) dD dD⟩)))
end
set_option maxRecDepth 10000
def Fa(k:Nat):ag->I es->Nat->Option (ah×V×I es×Nat):=fun args h n=>match args with
 | [.eE _ m l]=>some ([l.length=m*k,m<=1000000],.eE false m l,h,n)
 |_=>none
theorem yV{f:FuncId}{k:Nat}(eY:Nat.blt f Tryz.prog.funcs.size=true)(hD:∀(m:Nat) (l:List Eng.D),l.length=m*k->m<=1000000->dV ak f [.eE false m l] (.eE false m l)):kj ak f (Fa k):=by
 refine⟨aE eY,fun args h' n fm v' C n2 e hA E w dQ ra g Uz _=>?_⟩;unfold Fa at e;split at e
 case h_2=>cases e
 rename_i f0 m l;simp only[aq,aB]at e;obtain⟨rfl,rfl,rfl,rfl⟩:=e;have VS:eC E [.eE false m l] dQ:=by
  obtain⟨y,ys,r,rs,q⟩:=ra;exact⟨y,ys,⟨r.1,fun h=>by cases h⟩,rs,q⟩
 exact hD m l (hA _ (by simp)) (hA (m<=1000000) (by simp)) E _ _ w dQ VS g Uz
noncomputable def agH(dy:gJ):gJ:=kp 82 (Fa 1) (kp 83 (Fa 2) (kp 84 (Fa 258) (kp 38 (Fa 1) dy)))
theorem Vb{dy:gJ}(hS:fe ak dy):fe ak (agH dy):=
 fN (yV dD U8) (fN (yV dD U9) (fN (yV dD Va) (fN (yV dD Mz) hS)))
theorem ast(x:eJ):H (M (agH ek) []) [] 0 Tryz.f37 [] (dL Tryz.f37) (dB [x.v] .nil 0)
  [([],[jC x.kids,x.kids.length<=1000000,(mQ x.gu).length=x.gu.length*2,x.gu.length<=1000000,jC x.f.eW,x.f.eW.length<=1000000,jC x.f.cu,x.f.cu.length<=1000000,(iH x.gp).length=x.gp.length*258,x.gp.length<=1000000,(iH x.gT).length=x.gT.length*258,x.gT.length<=1000000],.ret x.v .nil 0)]:=G.W
theorem aaO(x:eJ)(h:uq x):dV ak 37 [x.v] x.v:=
 fc Tryz.func37 (eR (Vb (be _)) (ast x) (dF (g0 ⟨A (eK _) (A h.kids (A (pn _) (A h.gu (A (eK _) (A h.eW (A (eK _) (A h.cu (A (iK _) (A h.gp (A (iK _) (eM h.gT))))))))))),_,_,_,rfl,rfl⟩)))
noncomputable abbrev Sc:Code:=dL Tryz.f35
noncomputable abbrev bIx:Code:=dK (dK (dY (dI (dA 1 Sc))))
abbrev fnC(f:Nat):V:=.fn (.func f) [] [.ptr (some (0,0))]
def Sd(o:ag):I es:=hL [(0,.cells o)]
def Oy(d:Dc)(f:Nat)(o:ag)(r:List (Nat×V)):St:=fB ([(0,.eE false d.ly.length (fD d.ly)),(1,fnC f)]++r) (Sd o) 1
set_option maxRecDepth 10000
def Vc(d:Dc)(f:Nat)(o:ag)(v:V):ag->I es->Nat->Option (ah×V×I es×Nat):=fun args h k=>some ([args=[.eE false d.ly.length (fD d.ly),fnC f],h=Sd o,k=1],v,Sd o,1)
theorem aaP(d:Dc)(y:eJ):H (M ek []) [] 1 Tryz.f35 [0,1] (dU 1 Sc) (dB [.eE false d.ly.length (fD d.ly),fnC 36] (Sd (y.cs)) 1) [([],[],eu (Oy d 36 (y.cs) []))]:=G.W
theorem aaQ(d:Dc)(y:eJ):H (M ek []) [] 1 Tryz.f35 [0,1,7,8] (dI (dI (dA 1 Sc))) (Oy d 36 (y.cs) []) [([],[],eu (Oy d 36 (y.cs) [(7,L d.ly.length),(8,L 0)]))]:=G.W
theorem aaR(d:Dc)(y:eJ)(i:Nat):H (M ek []) [(9,.split)] 1 Tryz.f35 [0,1,7,8] (dU 2 bIx) (Oy d 36 (y.cs) [(7,L d.ly.length),(8,L i)])
  (fP (decide (Int.ofNat i<Int.ofNat d.ly.length)) ([],eu (Oy d 36 (y.cs) [(7,L d.ly.length),(8,L i)])) ([],.to (.exit 0) (Oy d 36 (y.cs) [(7,L d.ly.length),(8,L i)]))):=G.W
theorem aaS(d:Dc)(y:eJ)(i:Nat)(x:eJ):H (M ek []) [(14,.dG (.dS x.ds)),(16,.split)] 1 Tryz.f35 [0,1,7,8] (dU 1 (dA 2 bIx)) (Oy d 36 (y.cs) [(7,L d.ly.length),(8,L i)])
  (fP (x.id==y.id) ([fR i d.ly.length,nE d.ly,gG (fD d.ly) i 31 x.ds],.ret (L i) (Sd (y.cs)) 1) ([fR i d.ly.length,nE d.ly,gG (fD d.ly) i 31 x.ds],eu (Oy d 36 (y.cs) [(7,L d.ly.length),(8,L i)]))):=G.W
theorem aaT(d:Dc)(y:eJ)(i:Nat):H (M ek []) [(18,.dG (L (i+1)))] 1 Tryz.f35 [0,1,7,8] (dA 3 bIx) (Oy d 36 (y.cs) [(7,L d.ly.length),(8,L i)]) [([],[oH i],eu (Oy d 36 (y.cs) [(7,L d.ly.length),(8,L (i+1))]))]:=G.W
theorem aaU(d:Dc)(y:eJ)(i:Nat):H (M ek []) [] 1 Tryz.f35 [] (dY (dA 1 Sc)) (Oy d 36 (y.cs) [(7,L d.ly.length),(8,L i)]) [([],[],.ret (F (-1)) (Sd (y.cs)) 1)]:=G.W
theorem agI(d:Dc)(hd:IP d)(y:eJ):kj ak 35 (vX (Vc d 36 (y.cs) (F (xl d.ly (y.id))))):=
 Gs mo po (aE dD) Tryz.func35 (code:=Sc) dD fun args h k fm v' h' k' e hA=>by
  simp only[Vc,aq,aB]at e;obtain⟨rfl,rfl,rfl,rfl⟩:=e;have h1:args=[.eE false d.ly.length (fD d.ly),fnC 36]:=hA _ (by simp);have C:h=Sd (y.cs):=hA (h=Sd (y.cs)) (by simp);have h3:k=1:=hA (k=1) (by simp);subst h1 C h3;have AS:=hd.ly;refine⟨dD,fH 1 (be _) (aaP d y) all_nil ?_⟩;refine dM dD (dM dD (gk (be _) eI (aaQ d y) (dF (g0 ⟨all_nil,fun R dX=>?_⟩))));simp only[andThen];refine iz 0 d.ly.length (fun i=>Oy d 36 (y.cs) [(7,L d.ly.length),(8,L i)]) (fun i=>(d.ly.getD i gv).id==y.id) (ew.norm dX) (fun i hi hj Q' k1 k2 k3=>?_) (fun e1 R dX=>?_)
  . refine jY 2 (be _) eI (aaR d y i) (dJ (g1 fun h=>⟨all_nil,?_⟩) (dF (g1 fun h=>⟨all_nil,fun R dX=>k2 (by have:=qZ h;omega) R (ew.norm dX)⟩)));have q:=j9 h;have hL:V.dS (dO (fD d.ly) (i*31) 31)=V.dS (d.ly.getD i gv).ds:=iu q;refine jY 1 (be _) (fun a b c=>a=F (xl d.ly (y.id))/\b=Sd (y.cs)/\c=1) (aaS d y i (d.ly.getD i gv)) (dJ (g1 fun C=>⟨A (iT q) (A (fE _) (eM hL)),⟨?_,rfl,rfl⟩,k3⟩) (dF (g1 fun C=>⟨A (iT q) (A (fE _) (eM hL)),?_⟩)))
    . unfold xl;rw[C8 q C hj]
    . exact gk (be _) eI (aaT d y i) (dF (g0 ⟨eM (gK S),fun R dX=>k1 q C R (ew.norm dX)⟩))
  . simp only[andThen];refine dX _ _ (eR (be _) (aaU d y _) (dF (g0 ⟨all_nil,_,_,_,rfl,?_,rfl,rfl⟩)));have hn:jK d.ly (y.id)=none:=by
     unfold jK;rw[cV];intro x J;obtain⟨j,hj,rfl⟩:=ck J;have:=e1 j hj;rw[ax,au hj]at this;exact this
    unfold xl;rw[hn]
abbrev aIx(d:Dc)(f:Nat)(o:ag):ah:=[[.eE false d.ly.length (fD d.ly),fnC f]=[.eE false d.ly.length (fD d.ly),fnC f],Sd o=Sd o,(1:Nat)=1]
set_option maxRecDepth 10000
noncomputable abbrev asv:Code:=dL Tryz.f9
theorem ZO(l:eJ)(k1 k2 k3 k4 k5 k6 k7:Nat):H (M ek []) [(8,.dG (L k1)),(16,.dG (L k2)),(24,.dG (L k3)),(34,.dG (L k4)),(45,.dG (L k5)),(56,.dG (L k6)),(67,.dG (L k7))] 0 Tryz.f9 [] (asv) (dB [l.v] .nil 0) [([],[V.int B (if(20:Int)<(Int.ofNat l.nm.length)then(20:Int)else(Int.ofNat l.nm.length))=L k1,(0:Int)<=Int.ofNat k1/\Int.ofNat k1<=(Int.ofNat l.nm.length),V.int B (if(6:Int)<(Int.ofNat l.kids.length)then(6:Int)else(Int.ofNat l.kids.length))=L k2,jC l.kids,(0:Int)<=Int.ofNat k2/\Int.ofNat k2<=(Int.ofNat l.kids.length),V.int B (if(70:Int)<(Int.ofNat l.gu.length)then(70:Int)else(Int.ofNat l.gu.length))=L k3,(mQ l.gu).length=l.gu.length*2,(0:Int)<=Int.ofNat k3/\Int.ofNat k3<=(Int.ofNat l.gu.length),V.int B (if(30:Int)<(Int.ofNat l.f.eW.length)then(30:Int)else(Int.ofNat l.f.eW.length))=L k4,jC l.f.eW,(0:Int)<=Int.ofNat k4/\Int.ofNat k4<=(Int.ofNat l.f.eW.length),V.int B (if(30:Int)<(Int.ofNat l.f.cu.length)then(30:Int)else(Int.ofNat l.f.cu.length))=L k5,jC l.f.cu,(0:Int)<=Int.ofNat k5/\Int.ofNat k5<=(Int.ofNat l.f.cu.length),V.int B (if(3:Int)<(Int.ofNat l.gp.length)then(3:Int)else(Int.ofNat l.gp.length))=L k6,(iH l.gp).length=l.gp.length*258,(0:Int)<=Int.ofNat k6/\Int.ofNat k6<=(Int.ofNat l.gp.length),V.int B (if(3:Int)<(Int.ofNat l.gT.length)then(3:Int)else(Int.ofNat l.gT.length))=L k7,(iH l.gT).length=l.gT.length*258,(0:Int)<=Int.ofNat k7/\Int.ofNat k7<=(Int.ofNat l.gT.length)],.ret (.agg [.int .i64 (l.id),.int .i64 (l.kd),.str (List.drop 0 (List.take k1 l.nm)),.bool (l.hid),.int .i64 (l.op),.int .i64 (l.md),.bool (l.clip),.int .i64 (l.pl.a),.int .i64 (l.pl.b),.int .i64 (l.pl.c),.int .i64 (l.pl.d),.int .i64 (l.pl.e),.int .i64 (l.pl.f),.int .i64 (l.pl.n),.int .i64 (l.sp),.eE false (k2-0) (dO (eG l.kids) 0 ((k2-0)*1)),.int .i64 (l.of),.int .i64 (l.f.k),.int .i64 (l.f.r),.eE false (k4-0) (dO (eG l.f.eW) 0 ((k4-0)*1)),.int .i64 (l.f.dv),.int .i64 (l.f.vl),.eE false (k5-0) (dO (eG l.f.cu) 0 ((k5-0)*1)),.int .u8 (l.fi.r),.int .u8 (l.fi.g),.int .u8 (l.fi.b),.int .u8 (l.fi.a),.eE false (k3-0) (dO (mQ l.gu) 0 ((k3-0)*2)),.eE false (k6-0) (dO (iH l.gp) 0 ((k6-0)*258)),.bool (l.K),.eE false (k7-0) (dO (iH l.gT) 0 ((k7-0)*258))]) (hL []) 0)]:=G.W
def rA(l:eJ):eJ:={ l with nm:=l.nm.take 20,kids:=l.kids.take 6,gu:=l.gu.take 70,f:={ l.f with eW:=l.f.eW.take 30,cu:=l.f.cu.take 30 },gp:=l.gp.take 3,gT:=l.gT.take 3 }
theorem tO{α:Type}{f:α->ai}{w:Nat}(hf:∀x,(f x).length=w):∀(l:List α) (k:Nat),((l.map f).flatten).take (k*w)=((l.take k).map f).flatten
 | [],k=>by simp
 |x::l,0=>by simp
 |x::l,k+1=>by
  rw[bQ,cU,List.take_succ_cons,bQ,cU,<- tO hf l k,show(k+1)*w=(f x).length+k*w by rw[hf,dh];omega,List.take_length_add_append]
theorem agJ(l:eJ):dV ak 9 [l.v] (rA l).v:=by
 have mn:∀(a b:Nat),V.int B (if((a:Int))<(Int.ofNat b)then(a:Int)else(Int.ofNat b))=L (min a b):=fun a b=>by
  show _=V.int .i64 (Int.ofNat (min a b));congr 1;simp only[gB];split<;>omega
 have bd:∀(a b:Nat),(0:Int)<=Int.ofNat (min a b)/\Int.ofNat (min a b)<=Int.ofNat b:=fun a b=>by simp only[gB];omega
 have hz:(rA l).v= .agg [.int .i64 (l.id),.int .i64 (l.kd),.str (List.drop 0 (List.take (min 20 l.nm.length) l.nm)),.bool (l.hid),.int .i64 (l.op),.int .i64 (l.md),.bool (l.clip),.int .i64 (l.pl.a),.int .i64 (l.pl.b),.int .i64 (l.pl.c),.int .i64 (l.pl.d),.int .i64 (l.pl.e),.int .i64 (l.pl.f),.int .i64 (l.pl.n),.int .i64 (l.sp),.eE false (min 6 l.kids.length-0) (dO (eG l.kids) 0 ((min 6 l.kids.length-0)*1)),.int .i64 (l.of),.int .i64 (l.f.k),.int .i64 (l.f.r),.eE false (min 30 l.f.eW.length-0) (dO (eG l.f.eW) 0 ((min 30 l.f.eW.length-0)*1)),.int .i64 (l.f.dv),.int .i64 (l.f.vl),.eE false (min 30 l.f.cu.length-0) (dO (eG l.f.cu) 0 ((min 30 l.f.cu.length-0)*1)),.int .u8 (l.fi.r),.int .u8 (l.fi.g),.int .u8 (l.fi.b),.int .u8 (l.fi.a),.eE false (min 70 l.gu.length-0) (dO (mQ l.gu) 0 ((min 70 l.gu.length-0)*2)),.eE false (min 3 l.gp.length-0) (dO (iH l.gp) 0 ((min 3 l.gp.length-0)*258)),.bool (l.K),.eE false (min 3 l.gT.length-0) (dO (iH l.gT) 0 ((min 3 l.gT.length-0)*258))]:=by
  have tk:∀{α:Type} (k:Nat) (l:List α),l.take (min k l.length)=l.take k:=fun k l=>by
   rcases Nat.le_total k l.length with h|h
   . rw[Nat.min_eq_left h]
   . rw[Nat.min_eq_right h,bn,cj h]
  have e1:∀(k:Nat) (l:List Int),fF (l.take k)= .eE false (min k l.length-0) (dO (eG l) 0 ((min k l.length-0)*1)):=fun k l=>by
   unfold dO;rw[dr,bx,cP];show V.eE false (l.take k).length (eG (l.take k))=_;rw[aW];unfold eG;rw[dm];congr 1;rw[<- tk k (l.map _),bG]
  have e2:vV (l.gu.take 70)= .eE false (min 70 l.gu.length-0) (dO (mQ l.gu) 0 ((min 70 l.gu.length-0)*2)):=by
   unfold dO;rw[dr,bx];show V.eE false (l.gu.take 70).length (mQ (l.gu.take 70))=_;rw[aW];congr 1;unfold mQ;rw[tO (f:=fun p:Int×Int=>[D.int .i64 p.1,D.int .i64 p.2]) (w:=2) (fun _=>rfl),tk]
  have e3:∀l:List Tl,rsV (l.take 3)= .eE false (min 3 l.length-0) (dO (iH l) 0 ((min 3 l.length-0)*258)):=fun l=>by
   unfold dO;rw[dr,bx];show V.eE false (l.take 3).length (iH (l.take 3))=_;rw[aW];congr 1;unfold iH;rw[tO (f:=Tl.d) Tl.EU,tk]
  rw[bx,tk,<- e1,<- e1,<- e1,<- e2,<- e3,<- e3];rfl
 rw[hz];refine fc Tryz.func9 (eR (be _) (ZO l (min 20 l.nm.length) (min 6 l.kids.length) (min 70 l.gu.length) (min 30 l.f.eW.length) (min 30 l.f.cu.length) (min 3 l.gp.length) (min 3 l.gT.length)) (dF (g0 ⟨?_,_,_,_,rfl,rfl⟩)))
 repeat' (first|exact all_nil|refine A ?_ ?_)
 all_goals first
  |exact mn _ _
  |exact bd _ _
  |exact eK _
  |exact pn _
  |exact iK _
set_option maxRecDepth 10000
theorem Dy(x:Int){n:Int}(h:0<n)(C:n<=1000000000000000000):0<=xE x n/\xE x n<n:=by
 unfold xE;have h3:=Int.lt_tmod_of_pos x h;have h4:=Int.tmod_lt_of_pos x h;rw[ij S S];exact wA S h
def yW(nx v:Int):Int:=xE v (if IntKind.i64.wrap (nx+1)>1 then IntKind.i64.wrap (nx+1)else 1)
def Se:Nat->aa
 |0=>[65]
 |1=>[45,95,48,57,97,122]
 |2=>[48,49,50,51,52,53,54,55,56,57,97,98]
 |_=>[46]
def aaV(v:Int):aa:=Se (an v 3).toNat
def v7(la fi v:Int)(iN:eJ):ag:=[F la,F fi,F v]++iN.cs
def SM(nx v:Int)(iN x:eJ):Nat->eJ
 |4=>{ x with id:=v }
 |5=>{ x with id:=yW nx v }
 |6=>{ x with kd:=an v 7 }
 |7=>{ x with nm:=x.nm++aaV v }
 |8=>{ x with op:=v }
 |9=>{ x with md:=v }
 |10=>{ x with pl:={ x.pl with n:=an v 1 } }
 |11=>{ x with pl:={ x.pl with a:=v } }
 |12=>{ x with sp:=an v 3 }
 |13=>{ x with kids:=x.kids++[yW nx v] }
 |14=>{ x with kids:=x.kids.take (x.kids.length/2) }
 |15=>{ x with of:=yW nx v }
 |16=>{ x with f:={ x.f with vl:=an v 511 } }
 |17=>{ x with fi:={ x.fi with a:=IntKind.u8.wrap v } }
 |18=>{ x with gu:=x.gu.take (xE v (Int.ofNat (x.gu.length+1))).toNat }
 |19=>{ x with K:=!x.K }
 |20=>{ x with gT:=iN.gp }
 |21=>{ x with gp:=iN.gp }
 |22=>rA iN
 |_=>x
def chR(d:Dc)(v:Int):Nat->Int
 |0=>v
 |1=>yW d.nx v
 |_=>d.root
def chN(d:Dc)(v:Int):Nat->Int
 |2=>v
 |3=>yW d.nx v
 |_=>d.nx
def spZ:Sp:=⟨[],[],[],⟨0,0,0,0,0,0,0,0,0⟩,⟨0,0,0,0,0,0,0,0,0⟩⟩
def chS(d:Dc):Nat->List Sp
 |23=>d.sp++[spZ]
 |_=>d.sp
def WE(d:Dc)(la:Int):Nat:=(xE la (Int.ofNat d.ly.length)).toNat
def Vd(fi:Int):Nat:=(xE fi 24).toNat
def WH(d:Dc)(la fi v:Int)(iN:eJ):Dc:=⟨chS d (Vd fi),chR d v (Vd fi),chN d v (Vd fi),d.ly.set (WE d la) (SM d.nx v iN (d.at (WE d la)) (Vd fi))⟩
structure gdL(x:eJ):Prop where
 nm:x.nm.length<=1000
 kids:x.kids.length<=1000
 y:uq x
 f:ur x.f
structure WI(d:Dc):Prop where
 l0:0<d.ly.length
 l40:d.ly.length<=1000
 sp:d.sp.length<=1000
 s:∀s∈d.sp,NH s
 y:∀x∈d.ly,gdL x
structure gdR(x:eJ):Prop where
 gp:x.gp.length<=1000000
 f:ur x.f
theorem i0:me 0:=by unfold me;decide
theorem aaX{f:FL}(h:iM f=true):ur f:=by
 have q:∀{x:Int},x=0->me x:=fun h=>h▸i0;unfold iM at h;split at h
 . rename_i U;unfold Jv yB pH at h;simp only[ay,bV,bt,aS,bU,bR,cm]at h;obtain⟨⟨h1,C⟩,_,h3,h4,_,_,h5,_⟩:=h;exact⟨by unfold me;omega,by unfold me;omega,by unfold me;omega,q h5⟩
 split at h
 . rename_i _ U;unfold yB pH at h;simp only[ay,aS,bU,bR,cm]at h;obtain⟨⟨h1,C⟩,⟨_,h3⟩,h4,_⟩:=h;exact⟨by unfold me;omega,by unfold me;omega,q h3,q h4⟩
 split at h
 . rename_i _ _ U;unfold pH at h;simp only[ay,aS,bU,bR,cm]at h;obtain⟨_,⟨_,h3⟩,h4,_,h5⟩:=h;exact⟨by unfold me;omega,q h5,q h3,q h4⟩
 split at h
 . rename_i _ _ _ U;unfold pH at h;simp only[ay,aS,bU,bR,cm]at h;obtain⟨⟨_,h3⟩,h4,_,h5⟩:=h;exact⟨by unfold me;omega,q h5,q h3,q h4⟩
 split at h
 . rename_i _ _ _ _ U;unfold pH at h;simp only[ay,aS,bU,bR,cm]at h;obtain⟨⟨h1,C⟩,⟨_,h3⟩,_,_,h5⟩:=h;exact⟨by unfold me;omega,q h5,q h3,by unfold me;omega⟩
 split at h
 . rename_i _ _ _ _ _ U;unfold pH at h;simp only[ay,aS,bU,bR,cm]at h;obtain⟨⟨h1,C,h6,h7⟩,⟨_,h3⟩,_⟩:=h;exact⟨by unfold me;omega,by unfold me;omega,q h3,by unfold me;omega⟩
 . cases h
theorem agL{d:Dc}(h:jW d)(hi:Eb d):WI d:=by
 obtain⟨k,U,_⟩:=hi.grp;have Y:=h.big;refine⟨S,by have:=hi.len;omega,S,hi.fs.s,fun x J=>⟨?_,by have:=hi.kids x J;omega,hi.fs.y x J,?_⟩⟩
 . have h1:=(BI (h.f x J)).2.1;unfold qK at h1;simp only[ay,aS,gB]at h1;omega
 . by_cases h3:x.kd=3
   . have h1:=(BI (h.f x J)).2.2.2.2.2.2;unfold bc at h1;rw[show(x.kd==3)=true by simpa using h3]at h1;simp only[cE,aP,di]at h1;exact aaX h1.2.1
   . exact h.bd x J h3
theorem agM(v:Int):me (an v 511):=by
 have:0<=an v 511/\an v 511<=511:=AP v 511 eX;unfold me;omega
theorem MA(v:Int):(aaV v).length<=12:=by
 unfold aaV Se;split<;>decide
theorem MB{α:Type}{l:List α}{k m:Nat}(h:l.length<=m):(l.take k).length<=m:=by rw[aW];omega
theorem aaY{nx v:Int}{iN x:eJ}(J:gdL x)(hr:gdR iN)(k:Nat):uq (SM nx v iN x k)/\ur (SM nx v iN x k).f:=by
 obtain⟨h1,C,⟨y1,y2,y3,y4,y5,y6,y7⟩,hf⟩:=J;have fm:uq x/\ur x.f:=⟨⟨y1,y2,y3,y4,y5,y6,y7⟩,hf⟩;unfold SM;split
 case h_4=>exact⟨⟨by have:=MA v;simp only[aH];omega,y2,y3,y4,y5,y6,y7⟩,hf⟩
 case h_10=>exact⟨⟨y1,by simp only[aH,cQ];omega,y3,y4,y5,y6,y7⟩,hf⟩
 case h_11=>exact⟨⟨y1,MB y2,y3,y4,y5,y6,y7⟩,hf⟩
 case h_13=>exact⟨⟨y1,y2,y3,y4,y5,y6,y7⟩,hf.k,hf.r,hf.dv,agM v⟩
 case h_15=>exact⟨⟨y1,y2,y3,y4,MB y5,y6,y7⟩,hf⟩
 case h_17=>exact⟨⟨y1,y2,y3,y4,y5,y6,hr.gp⟩,hf⟩
 case h_18=>exact⟨⟨y1,y2,y3,y4,y5,hr.gp,y7⟩,hf⟩
 case h_19=>
  have t:∀{α:Type} (k m:Nat) (x:List α),k<=m->(x.take k).length<=m:=fun k m x h=>by rw[aW];omega
  exact⟨⟨t 20 _ _ eX,t 6 _ _ eX,t 30 _ _ eX,t 30 _ _ eX,t 70 _ _ eX,t 3 _ _ eX,t 3 _ _ eX⟩,hr.f.k,hr.f.r,hr.f.dv,hr.f.vl⟩
 all_goals exact⟨⟨y1,y2,y3,y4,y5,y6,y7⟩,hf⟩
theorem MC{α:Type}{l:List α}{n:Nat}{y x:α}(h:x∈l.set n y):x=y\/x∈l:=by
 rcases List.mem_or_eq_of_mem_set h with h|h
 . exact .inr h
 . exact .inl h
theorem WJ{d:Dc}(hd:WI d)(la:Int):WE d la<d.ly.length:=by
 unfold WE;have h0:=hd.l0;have h1:=hd.l40;have:=Dy la (n:=Int.ofNat d.ly.length) (by simp only[gB];omega) (by simp only[gB];omega);simp only[gB]at this ⊢;omega
theorem agN{d:Dc}(hd:WI d)(la fi v:Int){iN:eJ}(hr:gdR iN):BF (WH d la fi v iN)/\∀x∈(WH d la fi v iN).ly,ur x.f:=by
 have fm:∀x∈(WH d la fi v iN).ly,uq x/\ur x.f:=fun x J=>by
  rcases MC J with rfl|J
  . exact aaY (hd.y _ (tK (WJ hd la))) hr _
  . exact⟨(hd.y x J).y,(hd.y x J).f⟩
 refine⟨⟨⟨?_,fun x J=>(fm x J).1.kids⟩,fun s hs=>?_,fun x J=>(fm x J).1⟩,fun x J=>(fm x J).2⟩
 . show(d.ly.set _ _).length<=_;have:=hd.l40;rw[List.length_set];omega
 . change s∈chS d (Vd fi)at hs;unfold chS at hs;split at hs
   . rcases bf.1 hs with h|h
     . exact hd.s s h
     . rw[aG]at h;subst h;exact⟨aN _,aN _,aN _⟩
   . exact hd.s s hs
theorem WK{d:Dc}(hd:WI d):BF d/\∀x∈d.ly,ur x.f:=⟨⟨⟨by have:=hd.l40;omega,fun x J=>(hd.y x J).y.kids⟩,hd.s,fun x J=>(hd.y x J).y⟩,fun x J=>(hd.y x J).f⟩
set_option maxRecDepth 10000
noncomputable abbrev Ve:Code:=dL Tryz.f11
noncomputable abbrev GQ:Code:=dI (dA 6 Ve)
noncomputable def rsW(dy:gJ):gJ:=kp 12 (fun args h n=>match args with
 | [.int .i64 x,.int .i64 m]=>some ([m≠0],.int .i64 (xE x m),h,n)
 |_=>none) dy
section
variable(cc:ag)(n m:Nat)
def sC0(q:Int)(d:Dc)(m:Nat):St:=fB [(2,.ptr (some (0,0))),(3,.ptr (some (2,0))),(4,.ptr (some (3,0))),(5,F q)] (hL [(0,.cells [.eE false d.sp.length (jy d.sp),F d.root,F d.nx,.eZ (some (1,0)) m m 31]),(1,.deep (fD d.ly)),(2,.cells cc),(3,.cells Ai)]) 4
def GR(v w:Int)(m:Nat)(ds:List Eng.D)(sp:List Sp)(root nx:Int)(y:ag)(r:List (Nat×V)):St:=fB ([(2,.ptr (some (0,0))),(3,.ptr (some (2,0))),(4,.ptr (some (3,0))),(5,L n),(6,.ptr (some (4,0))),(7,F v),(8,F w)]++r) (hL [(0,.cells [.eE false sp.length (jy sp),F root,F nx,.eZ (some (1,0)) m m 31]),(1,.deep ds),(2,.cells cc),(3,.cells Ai),(4,.cells y)]) 5
def Wg(v w:Int)(m:Nat)(ds:List Eng.D)(sp:List Sp)(root nx:Int)(y:ag)(o:List Eng.D):St:=fB [(2,.ptr (some (0,0))),(3,.ptr (some (2,0))),(4,.ptr (some (3,0))),(5,L n),(6,.ptr (some (4,0))),(7,F v),(8,F w)] (hL [(0,.cells [.eE false sp.length (jy sp),F root,F nx,.eZ (some (1,0)) m m 31]),(1,.deep ds),(2,.cells cc),(3,.cells Ai),(4,.cells y),(5,.deep o)]) 6
def sC6(v w:Int)(m:Nat)(ds:List Eng.D)(k:Nat)(o:List Eng.D)(root nx:Int)(y:ag):St:=fB [(2,.ptr (some (0,0))),(3,.ptr (some (3,0))),(4,.ptr (some (4,0))),(5,L n),(6,.ptr (some (5,0))),(7,F v),(8,F w)] (hL [(0,.cells [.eZ (some (1,0)) k k 21,F root,F nx,.eZ (some (2,0)) m m 31]),(1,.deep o),(2,.deep ds),(3,.cells cc),(4,.cells Ai),(5,.cells y)]) 6
theorem asy(d:Dc)(la fi v:Int)(iN:eJ):H (M (rsW ek) []) [] 0 Tryz.f11 [2,3,4,5] (dU 3 Ve) (dB [d.v,.agg (v7 la fi v iN)] .nil 0)
  [([],[nE d.ly,fJ (0+d.ly.length) 31 328=true,Int.ofNat (0+d.ly.length)≠(0:Int)],eu (sC0 (v7 la fi v iN) (xE la (Int.ofNat (0+d.ly.length))) d (0+d.ly.length)))]:=G.W
theorem asz(d:Dc)(la fi v:Int)(iN:eJ)(n m:Nat)(x:eJ):H (M (rsW ek) []) [(24,.dG x.v)] 0 Tryz.f11 [2,3,4,5,6,7,8] (dU 3 (dA 3 Ve)) (sC0 (v7 la fi v iN) (Int.ofNat n) d m)
  [([],[fR n m,0+n*31+31<=(fD d.ly).length,V.agg (D.fU (dO (fD d.ly) (0+n*31) 31))=x.v,(if IntKind.i64.wrap (d.nx+(1:Int))>1 then IntKind.i64.wrap (d.nx+(1:Int))else 1)≠0],eu (GR (v7 la fi v iN) n v (yW d.nx v) m (fD d.ly) d.sp d.root d.nx x.cs []))]:=G.W
theorem asA(d:Dc)(la fi v:Int)(iN:eJ)(n m:Nat)(x:eJ)(ds:List Eng.D):H (M (rsW ek) []) [] 0 Tryz.f11 [2,3,4,5,6,7,8,35] (dI GQ) (GR (v7 la fi v iN) n v (yW d.nx v) m ds d.sp d.root d.nx x.cs [])
  [([],[(24:Int)≠0],eu (GR (v7 la fi v iN) n v (yW d.nx v) m ds d.sp d.root d.nx x.cs [(35,F (xE fi 24))]))]:=G.W
theorem asB(d:Dc)(la fi v:Int)(iN:eJ)(n m:Nat)(x:eJ)(ds:List Eng.D)(k:Nat)(U:k∈[0,1,2,3,4,5,6,8,9,10,11,12,15,16,17,19,20,21]):H (M ek []) [] 0 Tryz.f11 [2,3,4,5,6,7,8] (dY GQ) (GR (v7 la fi v iN) n v (yW d.nx v) m ds d.sp d.root d.nx x.cs [(35,F (Int.ofNat k))])
  [([],[],eu (GR (v7 la fi v iN) n v (yW d.nx v) m ds d.sp (chR d v k) (chN d v k) (SM d.nx v iN x k).cs []))]:=by
 simp only[az,aF,bh]at U;rcases U with rfl|rfl|rfl|rfl|rfl|rfl|rfl|rfl|rfl|rfl|rfl|rfl|rfl|rfl|rfl|rfl|rfl|rfl
 all_goals exact G.W
theorem asC(d:Dc)(la fi v:Int)(iN:eJ)(n m:Nat)(x:eJ)(ds:List Eng.D)(j:Nat)(hj:j<4):H (M ek []) [(79,.dG (L j))] 0 Tryz.f11 [2,3,4,5,6,7,8] (dY GQ) (GR (v7 la fi v iN) n v (yW d.nx v) m ds d.sp d.root d.nx x.cs [(35,F 7)])
  [([],[V.int .i64 (an v 3)=L j,x.nm.length+(Se j).length<=9223372036854775807],.to .normal (GR (v7 la fi v iN) n v (yW d.nx v) m ds d.sp d.root d.nx { x with nm:=x.nm++Se j }.cs []))]:=by
 obtain rfl|rfl|rfl|rfl:j=0\/j=1\/j=2\/j=3:=by omega
 all_goals exact G.W
theorem agP(d:Dc)(la fi v:Int)(iN:eJ)(n m:Nat)(x:eJ)(ds:List Eng.D):H (M ek []) [] 0 Tryz.f11 [2,3,4,5,6,7,8] (dY GQ) (GR (v7 la fi v iN) n v (yW d.nx v) m ds d.sp d.root d.nx x.cs [(35,F 13)])
  [([],[jC x.kids,fJ (0+x.kids.length) 1 8=true,0+(0+x.kids.length)*1<=([]++eG x.kids).length,0<1,fJ (0+x.kids.length+1) 1 8=true],eu (Wg (v7 la fi v iN) n v (yW d.nx v) m ds d.sp d.root d.nx (x.cs.set 15 (.eZ (some (5,0)) (0+x.kids.length+1) (0+x.kids.length+1) 1)) (List.take ((0+x.kids.length)*1) (List.drop 0 ([]++eG x.kids))++[.int .i64 (yW d.nx v)])))]:=G.W
theorem agQ(d:Dc)(la fi v:Int)(iN:eJ)(n m:Nat)(x:eJ)(ds:List Eng.D)(j:Nat):H (M ek []) [(124,.dG (L j))] 0 Tryz.f11 [2,3,4,5,6,7,8] (dY GQ) (GR (v7 la fi v iN) n v (yW d.nx v) m ds d.sp d.root d.nx x.cs [(35,F 14)])
  [([],[(2:Int)≠0,V.int .i64 (IntKind.i64.wrap ((Int.ofNat x.kids.length).tdiv 2))=L j,jC x.kids,(0:Int)<=Int.ofNat j/\Int.ofNat j<=Int.ofNat x.kids.length],eu (GR (v7 la fi v iN) n v (yW d.nx v) m ds d.sp d.root d.nx (x.cs.set 15 (.eE false (j-0) (dO (eG x.kids) 0 ((j-0)*1)))) []))]:=G.W
theorem agR(d:Dc)(la fi v:Int)(iN:eJ)(n m:Nat)(x:eJ)(ds:List Eng.D)(j:Nat):H (M (fa 12 [F v,L (x.gu.length+1)] (L j) ek) []) [(152,.dG (L (x.gu.length+1)))] 0 Tryz.f11 [2,3,4,5,6,7,8] (dY GQ) (GR (v7 la fi v iN) n v (yW d.nx v) m ds d.sp d.root d.nx x.cs [(35,F 18)])
  [([],[V.int .i64 (IntKind.i64.wrap (Int.ofNat x.gu.length+1))=L (x.gu.length+1),V.jJ [F v,L (x.gu.length+1)]=[F v,L (x.gu.length+1)],(mQ x.gu).length=x.gu.length*2,(0:Int)<=Int.ofNat j/\Int.ofNat j<=Int.ofNat x.gu.length,(dO (mQ x.gu) 0 ((j-0)*2)).length=(j-0)*2,fJ (0+(j-0)) 2 16=true],eu (Wg (v7 la fi v iN) n v (yW d.nx v) m ds d.sp d.root d.nx (x.cs.set 27 (.eZ (some (5,0)) (0+(j-0)) (0+(j-0)) 2)) ([]++dO (mQ x.gu) 0 ((j-0)*2))))]:=G.W
theorem agS(d:Dc)(la fi v:Int)(iN:eJ)(n m:Nat)(x:eJ)(ds:List Eng.D)(f:eJ):H (M (fa 9 [iN.v] f.v ek) []) [] 0 Tryz.f11 [2,3,4,5,6,7,8] (dY GQ) (GR (v7 la fi v iN) n v (yW d.nx v) m ds d.sp d.root d.nx x.cs [(35,F 22)])
  [([],[V.jJ [iN.v]=[iN.v]],eu (GR (v7 la fi v iN) n v (yW d.nx v) m ds d.sp d.root d.nx f.cs []))]:=G.W
theorem agT(d:Dc)(la fi v:Int)(iN:eJ)(n m:Nat)(x:eJ)(ds:List Eng.D):H (M ek []) [] 0 Tryz.f11 [2,3,4,5,6,7,8] (dY GQ) (GR (v7 la fi v iN) n v (yW d.nx v) m ds d.sp d.root d.nx x.cs [(35,F 23)])
  [([],[(jy d.sp).length=d.sp.length*21,fJ (0+d.sp.length) 21 216=true,0+(0+d.sp.length)*21<=([]++jy d.sp).length,0<1,fJ (0+d.sp.length+1) 21 216=true],eu (sC6 (v7 la fi v iN) n v (yW d.nx v) m ds (0+d.sp.length+1) (List.take ((0+d.sp.length)*21) (List.drop 0 ([]++jy d.sp))++spZ.ds) d.root d.nx x.cs))]:=G.W
theorem asD(v w root nx:Int)(sp:List Sp)(y:eJ)(ds:List Eng.D):H (M ek []) [] 0 Tryz.f11 [] (dA 7 Ve) (GR cc n v w m ds sp root nx y.cs [])
  [([],[fR n m,0+n*31+31<=ds.length],.ret (.agg [.eE false sp.length (jy sp),F root,F nx,.eZ (some (0,0)) m m 31]) (hL [(0,.deep (nC ds (0+n*31) y.ds))]) 1)]:=G.W
end
set_option maxRecDepth 10000
theorem GS{dy:gJ}(hS:fe ak dy):fe ak (rsW dy):=by
 refine fN ⟨aE dD,fun args h' n fm v' C n2 e hA E w dQ ra g Uz _=>?_⟩ hS;simp only at e;split at e
 case h_2=>cases e
 rename_i x m;simp only[aq,aB]at e;obtain⟨rfl,rfl,rfl,rfl⟩:=e;exact WD x m (hA _ (by simp)) E _ _ w dQ ra g Uz
theorem GU{l:List eJ}{m:Nat}(h:m<l.length)(y:eJ):nC (fD l) (0+m*31) y.ds=fD (l.set m y):=by
 have e:l=l.take m++(l.getD m gv::l.drop (m+1)):=by
  rw[ax,au h,cq,<- bz h,List.take_append_drop]
 generalize l.getD m gv=x at e;have hl:(l.take m).length=m:=by rw[aW];omega
 generalize l.take m=a at e hl;generalize l.drop (m+1)=b at e;subst e;have e1:(a++x::b).set m y=a++y::b:=by rw[List.set_append_right _ _ S];simp[hl]
 have e2:∀y:eJ,fD (a++y::b)=fD a++(y.ds++fD b):=fun y=>by rw[BH];rfl
 rw[e1,e2,e2];have hA:(fD a).length=0+m*31:=by rw[fE,hl,bB]
 generalize fD a=fm at hA ⊢;generalize fD b=aj;unfold nC;have e3:List.take (0+m*31) (fm++(x.ds++aj))=fm:=by rw[<- hA,List.take_left'];rfl
 have e4:List.drop (0+m*31+y.ds.length) (fm++(x.ds++aj))=aj:=by
  rw[<- hA,List.drop_append,List.drop_eq_nil_of_le S,bA,Nat.add_sub_cancel_left,Ab y,<- Ab x,List.drop_left'];rfl
 rw[e3,e4]
theorem Sf{l:List Int}{j:Nat}(h:j<=l.length):V.eE false (j-0) (dO (eG l) 0 ((j-0)*1))=fF (l.take j):=by
 unfold dO;rw[dr,bx,cP];show _=V.eE false (l.take j).length (eG (l.take j));rw[aW,Nat.min_eq_left h];unfold eG;rw[dm]
theorem Sg{l:List (Int×Int)}{j:Nat}(h:j<=l.length):V.eE false (0+(j-0)) ([]++dO (mQ l) 0 ((j-0)*2))=vV (l.take j):=by
 unfold dO;rw[dr,bx,bB,bA];show _=V.eE false (l.take j).length (mQ (l.take j));rw[aW,Nat.min_eq_left h];unfold mQ;rw[tO (f:=fun p:Int×Int=>[Eng.D.int .i64 p.1,Eng.D.int .i64 p.2]) (w:=2) (fun _=>rfl)]
theorem Sh(l:List Int)(k:Int):V.eE false (0+l.length+1) (List.take ((0+l.length)*1) (List.drop 0 ([]++eG l))++[.int .i64 k])=fF (l++[k]):=by
 rw[bB,cP,bx,bA,cj (by rw[eK];omega)];show _=V.eE false (l++[k]).length (eG (l++[k]));rw[aH];unfold eG;rw[bM];rfl
theorem Si(l:List Sp)(s:Sp):0+l.length+1=(l++[s]).length/\List.take ((0+l.length)*21) (List.drop 0 ([]++jy l))++s.ds=jy (l++[s]):=by
 rw[bB,bx,bA,cj (by rw[mw];omega)];refine⟨by rw[aH];rfl,?_⟩;unfold jy;rw[bM,List.flatten_append];congr 1
abbrev lvC:List Nat:=[2,3,4,5,6,7,8]
theorem chK(d:Dc)(la fi v:Int)(iN:eJ)(n m:Nat)(x:eJ)(ds:List Eng.D)(J:gdL x)(Ca:d.sp.length<=1000)(k:Nat)(U:k<24){hm:Exit->St->Prop}
  (hK:∀R,ew ak 0 Tryz.f11.ntmps R (GR (v7 la fi v iN) n v (yW d.nx v) m ds (chS d k) (chR d v k) (chN d v k) (SM d.nx v iN x k).cs [])->hm .normal R):
  TG ak 0 Tryz.f11.ntmps (dY GQ) (GR (v7 la fi v iN) n v (yW d.nx v) m ds d.sp d.root d.nx x.cs [(35,F (Int.ofNat k))]) hm:=by
 have hkl:=J.kids;have wh:=J.y.gu;by_cases hs:k∈[0,1,2,3,4,5,6,8,9,10,11,12,15,16,17,19,20,21]
 . have e:chS d k=d.sp:=by
    unfold chS;split
    . simp at hs
    . rfl
   rw[e]at hK;exact gk (be _) eI (asB d la fi v iN n m x ds k hs) (dF (g0 ⟨all_nil,fun R dX=>hK R (ew.norm dX)⟩))
 simp only[az,aF,bh]at hs;obtain rfl|rfl|rfl|rfl|rfl|rfl:k=7\/k=13\/k=14\/k=18\/k=22\/k=23:=by omega
 . have ha:0<=an v 3/\an v 3<=3:=AP v 3 eX;have ht:=MA v;have hn:=J.nm;refine gk (be _) eI (asC d la fi v iN n m x ds (an v 3).toNat S) (dF (g0 ⟨A (aI (V.int .i64) (cS ha.1).symm) (eM ?_),fun R dX=>hK R (ew.norm dX)⟩));change (Se (an v 3).toNat).length<=12 at ht;omega
 . refine gk (be _) eI (agP d la fi v iN n m x ds) (dF (g0 ⟨A (eK _) (A (LZ S) (A (by rw[bA,eK];omega) (A Nat.zero_lt_one (eM (LZ S))))),fun R dX=>hK R ?_⟩));have g:=(ew.norm (P:=ak) (hc:=Tryz.f11.ntmps) dX).trans (ew.DJ [5] lvC (dy:=GR (v7 la fi v iN) n v (yW d.nx v) m ds d.sp d.root d.nx (x.cs.set 15 (.eE false (0+x.kids.length+1) (List.take ((0+x.kids.length)*1) (List.drop 0 ([]++eG x.kids))++[.int .i64 (yW d.nx v)]))) []) (fm:=[(List.take ((0+x.kids.length)*1) (List.drop 0 ([]++eG x.kids))++[Eng.D.int .i64 (yW d.nx v)]).length=(0+x.kids.length+1)*1]) dD
    (eM (by rw[aH,aW,bx,bA,eK,cQ];omega)))
   rw[Sh]at g;exact g
 . have hj:x.kids.length/2<=x.kids.length:=Nat.div_le_self _ _;have e:(Int.ofNat x.kids.length).tdiv 2=Int.ofNat (x.kids.length/2):=rfl;refine gk (be _) eI (agQ d la fi v iN n m x ds (x.kids.length/2)) (dF (g0 ⟨A eX (A (aI (V.int .i64) (by rw[e];exact ij (by simp only[gB];omega) (by simp only[gB];omega))) (A (eK _) (eM ⟨bO _,by simp only[gB];omega⟩))),fun R dX=>hK R ?_⟩));have g:=ew.norm (P:=ak) (hc:=Tryz.f11.ntmps) dX;rw[Sf hj]at g;exact g
 . have hr:=Dy v (n:=Int.ofNat (x.gu.length+1)) (by simp only[gB];omega) (by simp only[gB];omega);have hR:=WD v (Int.ofNat (x.gu.length+1)) (by simp only[gB];omega);have hj:xE v (Int.ofNat (x.gu.length+1))=Int.ofNat (xE v (Int.ofNat (x.gu.length+1))).toNat:=(cS hr.1).symm;have hY:SM d.nx v iN x 18={ x with gu:=x.gu.take (xE v (Int.ofNat (x.gu.length+1))).toNat }:=rfl;rw[hY]at hK;have mg:(xE v (Int.ofNat (x.gu.length+1))).toNat<=x.gu.length:=by simp only[gB]at hr ⊢;omega
   rw[hj]at hR;clear hr hY hj;generalize (xE v (Int.ofNat (x.gu.length+1))).toNat=j at *;have N:(dO (mQ x.gu) 0 ((j-0)*2)).length=(j-0)*2:=by
    unfold dO;rw[aW,List.length_drop,pn];omega
   refine gk (fk hR (be _)) eI (agR d la fi v iN n m x ds j) (dF (g0 ⟨A (gK S) (A rfl (A (pn _) (A ⟨bO _,by simp only[gB];omega⟩ (A N (eM (aT ⟨S,S⟩)))))),fun R dX=>hK R ?_⟩));have g:=(ew.norm (P:=ak) (hc:=Tryz.f11.ntmps) dX).trans (ew.DJ [5] lvC (dy:=GR (v7 la fi v iN) n v (yW d.nx v) m ds d.sp d.root d.nx (x.cs.set 27 (.eE false (0+(j-0)) ([]++dO (mQ x.gu) 0 ((j-0)*2)))) []) (fm:=[([]++dO (mQ x.gu) 0 ((j-0)*2)).length=(0+(j-0))*2]) dD (eM (by rw[bA,N];omega)));rw[Sg mg]at g;exact g
 . exact gk (fk (agJ iN) (be _)) eI (agS d la fi v iN n m x ds (rA iN)) (dF (g0 ⟨eM rfl,fun R dX=>hK R (ew.norm dX)⟩))
 . obtain⟨e1,e2⟩:=Si d.sp spZ;refine gk (be _) eI (agT d la fi v iN n m x ds) (dF (g0 ⟨A (mw _) (A (aT ⟨S,S⟩) (A (by rw[bA,mw];omega) (A Nat.zero_lt_one (eM (aT ⟨S,S⟩))))),fun R dX=>hK R ?_⟩));rw[e1,e2]at dX;exact(ew.norm dX).trans (ew.DJ [1] lvC (fm:=[(jy (d.sp++[spZ])).length=(d.sp++[spZ]).length*21]) dD (eM (mw _)))
theorem Sj{d:Dc}(hd:WI d)(la fi v:Int)(iN:eJ):dV ak 11 [d.v,.agg (v7 la fi v iN)] (WH d la fi v iN).v:=by
 have h0:=hd.l0;have h1:=hd.l40;have hn:=WJ hd la;have r1:=Dy la (n:=Int.ofNat d.ly.length) (by simp only[gB];omega) (by simp only[gB];omega);have r2:=Dy fi (n:=24) eX eX;have e1:xE la (Int.ofNat d.ly.length)=Int.ofNat (WE d la):=(cS r1.1).symm;have e2:xE fi 24=Int.ofNat (Vd fi):=(cS r2.1).symm;have U:Vd fi<24:=by unfold Vd;omega
 have J:=hd.y _ (tK hn);have hL:V.dS (dO (fD d.ly) (WE d la*31) 31)=V.dS (d.at (WE d la)).ds:=iu hn;have jl:(WH d la fi v iN).ly.length=d.ly.length:=List.length_set;refine mJ Tryz.func11 (fH 3 (GS (be _)) (asy d la fi v iN) (A (fE _) (A (aT ⟨S,S⟩) (eM (by simp only[gB];omega)))) ?_);rw[bB,e1];unfold WH at jl ⊢;generalize WE d la=n at *;generalize Vd fi=k at *;generalize d.at n=x at *;refine fH 3 (GS (be _)) (asz d la fi v iN n d.ly.length x) (A (iT hn) (A (by rw[fE];omega) (A ?_ (eM ?_)))) ?_
 . rw[bB];injection hL with hL;rw[hL];rfl
 . split<;>omega
 refine dM dD (dM dD (gk (GS (be _)) eI (asA d la fi v iN n d.ly.length x (fD d.ly)) (dF (g0 ⟨eM eX,fun R dX=>?_⟩))));simp only[andThen];rw[e2]at dX;refine fQ dX (chK d la fi v iN n d.ly.length x (fD d.ly) J hd.sp k U fun R dX=>?_);simp only[andThen];refine dX _ _ (eR (be _) (asD _ n d.ly.length v _ _ _ _ (SM d.nx v iN x k) (fD d.ly)) (dF (g0 ⟨A (iT hn) (eM (by rw[fE];omega)),_,_,_,rfl,?_⟩)));rw[GU hn];change (d.ly.set n (SM d.nx v iN x k)).length=_ at jl;generalize d.ly.set n (SM d.nx v iN x k)=l at *;rw[<- jl];exact rE.Bi (v0:=Dc.v ⟨chS d k,chR d v k,chN d v k,l⟩) [0] (fm:=[(fD l).length=l.length*31]) dD (eM (fE _)) dD dD
set_option maxRecDepth 10000
noncomputable abbrev Vf:Code:=dL Tryz.f54
noncomputable abbrev bRz:Code:=dK (dK (dY (dI (dA 2 Vf))))
noncomputable abbrev iRz:Code:=dK (dI (dA 1 bRz))
noncomputable abbrev Wq:Code:=dK (dK (dA 2 iRz))
def DN(l:List Tl)(r:List (Nat×V)):St:=fB ([(2,.ptr (some (0,0))),(3,.ptr (some (1,0)))]++r) (hL [(0,.cells [.eE false l.length (iH l)]),(1,.cells [.eE false l.length (iH l)])]) 2
abbrev tlA(l:List Tl)(i:Nat)(q:List Eng.D):ah:=[(0:Int)<=Int.ofNat i/\Int.ofNat i<Int.ofNat l.length,(iH l).length=l.length*258,V.dS (dO (iH l) (i*258) 258)=V.dS q]
theorem ZA(l:List Tl):H (M ek []) [(13,.dG (.bool false))] 0 Tryz.f54 [2,3] (dU 2 Vf) (dB [kX l,kX l] .nil 0) [([],[lu (Int.ofNat l.length !=Int.ofNat l.length)],eu (DN l []))]:=G.W
theorem ZB(l:List Tl):H (M ek []) [] 0 Tryz.f54 [2,3,5] (dI (dI (dA 2 Vf))) (DN l []) [([],[],eu (DN l [(5,L 0)]))]:=G.W
theorem ZC(l:List Tl)(i:Nat):H (M ek []) [(18,.split)] 0 Tryz.f54 [2,3,5] (dU 1 bRz) (DN l [(5,L i)])
  (fP (decide (Int.ofNat i<Int.ofNat l.length)) ([],eu (DN l [(5,L i)])) ([],.to (.exit 0) (DN l [(5,L i)]))):=G.W
theorem ZD(l:List Tl)(i:Nat)(x y:Int)(q:List Eng.D):H (M ek []) [(24,.dG (.dS (.int .i64 x:: .int .i64 y::q))),(30,.dG (.dS (.int .i64 x:: .int .i64 y::q))),(33,.dG (.bool false))] 0 Tryz.f54 [2,3,5] (dU 1 iRz) (DN l [(5,L i)])
  [([],tlA l i (.int .i64 x:: .int .i64 y::q)++(tlA l i (.int .i64 x:: .int .i64 y::q)++[V.bool (!(x==x&&(y==y&&true)))=V.bool false]),.to .normal (DN l [(5,L i)]))]:=G.W
theorem ZE(l:List Tl)(i:Nat):H (M ek []) [] 0 Tryz.f54 [2,3,5,6] (dU 1 (dA 1 iRz)) (DN l [(5,L i)]) [([],[],eu (DN l [(5,L i),(6,L 0)]))]:=G.W
theorem ZF(l:List Tl)(i k:Nat):H (M ek []) [(35,.split)] 0 Tryz.f54 [2,3,5,6] (dU 1 Wq) (DN l [(5,L i),(6,L k)])
  (fP (decide (Int.ofNat k<(64:Int))) ([],eu (DN l [(5,L i),(6,L k)])) ([],.to (.exit 2) (DN l [(5,L i),(6,L k)]))):=G.W
theorem asH(l:List Tl)(i k:Nat)(x y a b c e:Int)(q r:List Eng.D):H (M ek []) [(42,.dG (.dS (.int .i64 x:: .int .i64 y::q))),(44,.dG (.dS (.int .u8 a:: .int .u8 b:: .int .u8 c:: .int .u8 e::r))),(50,.dG (.dS (.int .i64 x:: .int .i64 y::q))),(52,.dG (.dS (.int .u8 a:: .int .u8 b:: .int .u8 c:: .int .u8 e::r))),(54,.dG (.bool false))] 0 Tryz.f54 [2,3,5,6] (dU 1 (dA 1 Wq)) (DN l [(5,L i),(6,L k)])
  [([],tlA l i (.int .i64 x:: .int .i64 y::q)++([(0:Int)<=Int.ofNat k/\Int.ofNat k<((64:Nat):Int),V.dS (List.drop (k*4) q)=V.dS (.int .u8 a:: .int .u8 b:: .int .u8 c:: .int .u8 e::r)]++(tlA l i (.int .i64 x:: .int .i64 y::q)++[(0:Int)<=Int.ofNat k/\Int.ofNat k<((64:Nat):Int),V.dS (List.drop (k*4) q)=V.dS (.int .u8 a:: .int .u8 b:: .int .u8 c:: .int .u8 e::r),V.bool (!(a==a&&(b==b&&(c==c&&(e==e&&true)))))=V.bool false])),.to .normal (DN l [(5,L i),(6,L k)]))]:=G.W
theorem asI(l:List Tl)(i k:Nat):H (M ek []) [(37,.dG (L (k+1)))] 0 Tryz.f54 [2,3,5,6] (dA 2 Wq) (DN l [(5,L i),(6,L k)]) [([],[oH k],eu (DN l [(5,L i),(6,L (k+1))]))]:=G.W
theorem asJ(l:List Tl)(i k:Nat):H (M ek []) [(20,.dG (L (i+1)))] 0 Tryz.f54 [2,3,5] (dA 2 bRz) (DN l [(5,L i),(6,L k)]) [([],[oH i],eu (DN l [(5,L (i+1))]))]:=G.W
theorem asK(l:List Tl)(i:Nat):H (M ek []) [] 0 Tryz.f54 [] (dY (dA 2 Vf)) (DN l [(5,L i)]) [([],[],.ret (.bool true) .nil 0)]:=G.W
set_option maxRecDepth 10000
theorem agU(p:Nat->Int){k:Nat}(h:k<64):List.drop (k*4) (vI p)= .int .u8 (p (k*4)):: .int .u8 (p (k*4+1)):: .int .u8 (p (k*4+2)):: .int .u8 (p (k*4+3))::List.drop (k*4+4) (vI p):=by
 have hl:(vI p).length=256:=by simp[vI]
 have hg:∀j (hj:j<(vI p).length),(vI p)[j]= .int .u8 (p j):=fun j hj=>by simp[vI]
 rw[bz S,bz (i:=k*4+1) S,bz (i:=k*4+1+1) S,bz (i:=k*4+1+1+1) S,hg,hg,hg,hg]
theorem asL(l:List Tl)(h:l.length<=1000000):dV ak 54 [kX l,kX l] (.bool true):=by
 refine fc Tryz.func54 (fH 2 (be _) (ZA l) (eM (aI V.bool (bne_self_eq_false _))) ?_);refine dM dD (dM dD (gk (be _) eI (ZB l) (dF (g0 ⟨all_nil,fun R dX=>?_⟩))));simp only[andThen];refine iz 0 l.length (fun i=>DN l [(5,L i)]) (fun _=>false) (ew.norm dX) (fun i hi _ Q' k1 k2 k3=>?_) (fun _ R dX=>?_)
 rotate_left
 . simp only[andThen];exact dX _ _ (eR (be _) (asK l _) (dF (g0 ⟨all_nil,_,_,_,rfl,rfl⟩)))
 refine jY 1 (be _) eI (ZC l i) (dJ (g1 fun h=>⟨all_nil,?_⟩) (dF (g1 fun h=>⟨all_nil,fun R dX=>k2 (by have:=qZ h;omega) R (ew.norm dX)⟩)));have q:=j9 h;have hA:=xh q;generalize l[i]=t at hA;obtain⟨x,y,p⟩:=t;change V.dS (dO (iH l) (i*258) 258)= .dS (.int .i64 x:: .int .i64 y::vI p)at hA;refine dM dD (fL (i:=1) dD ?_);refine jY 1 (be _) eI (ZD l i x y (vI p)) (dF (g0 ⟨A (iT q) (A (iK _) (A hA (A (iT q) (A (iK _) (A hA (eM (by simp))))))),?_⟩));refine jY 1 (be _) eI (ZE l i) (dF (g0 ⟨all_nil,?_⟩));refine iz 2 64 (fun k=>DN l [(5,L i),(6,L k)]) (fun _=>false) .refl (fun k U _ Q2 m1 m2 m3=>?_) (fun _ R dX=>?_)
 . refine jY 1 (be _) eI (ZF l i k) (dJ (g1 fun h=>⟨all_nil,?_⟩) (dF (g1 fun h=>⟨all_nil,fun R dX=>m2 (by have:=bq h;simp only[gB]at this;omega) R (ew.norm dX)⟩)));have qk:k<64:=by have:=aX h;simp only[gB]at this;omega
   have hd:=aI V.dS (agU p qk);have Y:(0:Int)<=Int.ofNat k/\Int.ofNat k<((64:Nat):Int):=by simp only[gB];omega
   refine jY 1 (be _) eI (asH l i k x y _ _ _ _ (vI p) _) (dF (g0 ⟨A (iT q) (A (iK _) (A hA (A Y (A hd (A (iT q) (A (iK _) (A hA (A Y (A hd (eM (by simp))))))))))),?_⟩));exact gk (be _) eI (asI l i k) (dF (g0 ⟨eM (gK S),fun R dX=>m1 qk rfl R (ew.norm dX)⟩))
 . simp only[gZ,andThen];exact dX _ _ (gk (be _) eI (asJ l i _) (dF (g0 ⟨eM (gK S),fun R dX=>k1 q rfl R (ew.norm dX)⟩)))
noncomputable abbrev aaZ:Code:=dL Tryz.f99
noncomputable abbrev Vg:Code:=dA 3 aaZ
theorem ZG(n:Int):H (M ek []) [] 0 Tryz.f99 [3,4] (dU 3 aaZ) (dB [.int .i64 n] .nil 0) [([],[],eu (fB [(3,.eZ (some (0,0)) 0 0 1),(4,.int .u64 (IntKind.u64.wrap n))] (hL [(0,.cells [])]) 1))]:=G.W
theorem asM(x:Int):H (M ek []) [] 0 Tryz.f101 [] (dL Tryz.f101) (dB [.int .i64 x,.int .i64 1] .nil 0) [([],[[UInt8.ofNat (IntKind.u8.wrap ((IntKind.u64.wrap x).tmod (256:Int))).toNat].length+0<=9223372036854775807,(256:Int)≠(0:Int)],.ret (.str ([UInt8.ofNat (IntKind.u8.wrap ((IntKind.u64.wrap x).tmod (256:Int))).toNat]++([]:aa))) (hL []) 0)]:=G.W
section
variable(u:Int)(ks:List Int)
def sU0:St:=fB [(3,.eZ (some (0,0)) 0 0 1),(4,.int .u64 u)] (hL [(0,.cells [])]) 1
def sU1(u:Int):St:=fB [(3,.eZ (some (0,0)) ks.length ks.length 1),(4,.int .u64 u)] (hL [(0,.own .u8 ks)]) 1
theorem ZH:H (M ek []) [(9,.split)] 0 Tryz.f99 [3,4] (dK (dK (dI Vg))) (sU0 u) (fP (decide (u>=(128:Int))) ([(128:Int)≠(0:Int)],eu (fB [(3,.eZ (some (0,0)) 1 1 1),(4,.int .u64 (IntKind.u64.wrap (u.tdiv (128:Int))))] (hL [(0,.cells [.int .u8 (IntKind.u8.wrap (IntKind.u64.wrap (u.tmod (128:Int)+(128:Int))))])]) 1)) ([],.to (.exit 0) (fB [(3,.eZ (some (0,0)) 0 0 1),(4,.int .u64 u)] (hL [(0,.cells [])]) 1))):=G.W
theorem asO:H (M ek []) [(9,.split)] 0 Tryz.f99 [3,4] (dK (dK (dI Vg))) (sU1 ks u) (fP (decide (u>=(128:Int))) ([0<ks.length,0+ks.length*1<=ks.length,0<1,fJ (ks.length+1) 1 1=true,(128:Int)≠(0:Int)],eu (fB [(3,.eZ (some (0,0)) (ks.length+1) (ks.length+1) 1),(4,.int .u64 (IntKind.u64.wrap (u.tdiv (128:Int))))] (hL [(0,.own .u8 (List.take (ks.length*1) (List.drop 0 ks)++[IntKind.u8.wrap (IntKind.u64.wrap (u.tmod (128:Int)+(128:Int)))]))]) 1)) ([],.to (.exit 0) (fB [(3,.eZ (some (0,0)) (ks.length) (ks.length) 1),(4,.int .u64 u)] (hL [(0,.own .u8 ks)]) 1))):=G.W
theorem asP:H (M ek []) [] 0 Tryz.f99 [] (dY Vg) (sU0 u) [([],[],.ret (.str ([UInt8.ofNat (IntKind.u8.wrap u).toNat])) (hL []) 0)]:=G.W
theorem asQ:H (M ek []) [] 0 Tryz.f99 [] (dY Vg) (sU1 ks u) [([],[0<ks.length,0+ks.length*1<=ks.length,0<1,fJ (ks.length+1) 1 1=true,0+(ks.length+1)<=(List.take (ks.length*1) (List.drop 0 ks)++[IntKind.u8.wrap u]).length],.ret (.str (nG (List.take (ks.length+1) (List.drop 0 (List.take (ks.length*1) (List.drop 0 ks)++[IntKind.u8.wrap u]))))) (hL []) 0)]:=G.W
end
theorem agW:∀x:Nat,x<256->x|||128=x%128+128:=by decide
section
variable(n u:Nat)
theorem u8w:IntKind.u8.wrap (n:Int)=((n%256:Nat):Int):=by
 simp only[IntKind.wrap,IntKind.bits,IntKind.signed];simp
theorem agY:IntKind.u64.wrap (n:Int)=((n%18446744073709551616:Nat):Int):=by
 simp only[IntKind.wrap,IntKind.bits,IntKind.signed];simp
theorem Vh:CY (u:Int)=((u%128+128:Nat):Int):=by
 unfold CY;rw[u8w];have h1:(BitVec.ofInt 8 ((u%256:Nat):Int)|||BitVec.ofInt 8 (128:Int)).toNat=u%128+128:=by
  rw[BitVec.toNat_or];have e1:(BitVec.ofInt 8 ((u%256:Nat):Int)).toNat=u%256:=by
   rw[BitVec.ofInt_natCast,BitVec.toNat_ofNat];omega
  have e2:(BitVec.ofInt 8 (128:Int)).toNat=128:=rfl;rw[e1,e2,agW _ S];omega
 rw[h1,gB,u8w];congr 1;omega
theorem Sk:(u:Int).fdiv 128=((u/128:Nat):Int):=by
 rw[Int.fdiv_eq_ediv_of_nonneg _ eX];rfl
end
def hU(u:Int):Int:=IntKind.u8.wrap (IntKind.u64.wrap (u.tmod (128:Int)+(128:Int)))
theorem agZ{u:Int}(h:0<=u):hU u=CY u:=by
 obtain⟨n,rfl⟩:∃n:Nat,u=n:=⟨u.toNat,(cS h).symm⟩;unfold hU;rw[Vh,Int.tmod_eq_emod_of_nonneg h,show((n:Int)%128+128)=((n%128+128:Nat):Int)by omega,agY,u8w];congr 1;omega
theorem ag0{u:Int}(h:0<=u)(C:u<18446744073709551616):IntKind.u64.wrap (u.tdiv (128:Int))=u.fdiv 128:=by
 obtain⟨n,rfl⟩:∃n:Nat,u=n:=⟨u.toNat,(cS h).symm⟩;rw[Sk,Int.tdiv_eq_ediv_of_nonneg h,show((n:Int)/128)=((n/128:Nat):Int)by omega,agY];congr 1;omega
def SU(x:Nat×List Int×Int):St:=match x.2.1 with
 | []=>sU0 x.2.2
 |k::r=>sU1 (k::r) x.2.2
theorem asR(n:Int):TG ak 0 Tryz.f99.ntmps aaZ (dB [.int .i64 n] .nil 0) (fV ak 0 Tryz.f99 fun u _ _=>u= .str (eO n)):=by
 have hu:=C0 n;refine fH 3 (be _) (ZG n) all_nil ?_;refine V3 (α:=Nat×List Int×Int) 0 _ [3,4] (·.1) (fun x=>(0<=x.2.2/\x.2.2<18446744073709551616)/\x.2.2<128^(x.1+1)/\x.2.1.length+x.1<=10/\x.2.1++uj x.1 x.2.2=uj 9 (IntKind.u64.wrap n)) SU (9,[],IntKind.u64.wrap n) ⟨hu,by show IntKind.u64.wrap n<(128:Int)^(9+1);rw[p128];omega,show 0+9<=10 by decide,rfl⟩ .refl ?_;rintro⟨k,ks,u⟩ ⟨h0,U,hl,hv⟩;simp only at h0 U hl hv;have C3:128<=u->∃j,k=j+1/\(0<=u.fdiv 128/\u.fdiv 128<18446744073709551616)/\u.fdiv 128<128^(j+1)/\(ks++[CY u])++uj j (u.fdiv 128)=uj 9 (IntKind.u64.wrap n):=fun h=>by
  cases k with
  |zero=>simp at U;omega
  |succ j=>
   have ed:u.fdiv 128=u/128:=Int.fdiv_eq_ediv_of_nonneg _ eX;refine⟨j,rfl,by rw[ed];omega,?_,?_⟩
   . rw[ed];have:(128:Int)^(j+1+1)=128^(j+1)*128:=Int.pow_succ ..;rw[this]at U;exact Int.ediv_lt_of_lt_mul eX U
   . rw[<- hv];show _=ks++(if 128<=u then _ else _);rw[aD h];simp
 have wY:¬128<=u->ks++[XW u]=uj 9 (IntKind.u64.wrap n):=fun h=>by rw[<- hv,CZ h]
 have eh:=agZ h0.1;have ed:=ag0 h0.1 h0.2;cases ks with
 |nil=>
  refine⟨_,(be _),[],_,_,ZH u,dJ (g1 fun h=>⟨eM eX,?_⟩) (dF (g1 fun h=>⟨all_nil,rfl,?_⟩))⟩
  . obtain⟨j,rfl,a1,a2,a3⟩:=C3 (aX h);refine⟨(j,[CY u],u.fdiv 128),Nat.lt_succ_self j,⟨a1,a2,by simp at hl ⊢;omega,a3⟩,?_⟩;rw[ed,show IntKind.u8.wrap (IntKind.u64.wrap (u.tmod (128:Int)+(128:Int)))=CY u from eh];exact .own [(0,.u8)] dD
  . refine eR (be _) (asP u) (dF (g0 ⟨all_nil,_,_,_,rfl,?_⟩));unfold eO;rw[<- wY (bq h)];rfl
 |cons x r=>
  have uL:0<(x::r).length:=by simp
  have Ph:(x::r).length<=10:=by omega
  have e0:List.take ((x::r).length*1) (List.drop 0 (x::r))=x::r:=by rw[bx,cP,bn]
  have h3:=asO u (x::r);have h5:=asQ u (x::r);rw[e0]at h3 h5;have fm:=A uL (A (show 0+(x::r).length*1<=(x::r).length by omega) (A (show 0<1 by decide) (A (yu (k:=(x::r).length+1) S) (eM (show(128:Int)≠(0:Int)by decide)))));refine⟨_,(be _),[],_,_,h3,dJ (g1 fun h=>⟨fm,?_⟩) (dF (g1 fun h=>⟨all_nil,rfl,?_⟩))⟩
  . obtain⟨j,rfl,a1,a2,a3⟩:=C3 (aX h);refine⟨(j,(x::r)++[CY u],u.fdiv 128),Nat.lt_succ_self j,⟨a1,a2,by rw[aH];simp at hl ⊢;omega,a3⟩,?_⟩;rw[ed,show IntKind.u8.wrap (IntKind.u64.wrap (u.tmod (128:Int)+(128:Int)))=CY u from eh];have:SU (j,(x::r)++[CY u],u.fdiv 128)=fB [(3,.eZ (some (0,0)) ((x::r).length+1) ((x::r).length+1) 1),(4,.int .u64 (u.fdiv (128:Int)))] (hL [(0,.own .u8 ((x::r)++[CY u]))]) 1:=by
     show sU1 ((x::r)++[CY u]) _=_;unfold sU1;rw[aH];rfl
    rw[this];exact .refl
  . have he:=wY (bq h);have e1:(x::r++[IntKind.u8.wrap u]).length=(x::r).length+1:=by rw[aH];rfl
    refine eR (be _) h5 (dF (g0 ⟨A uL (A (show 0+(x::r).length*1<=(x::r).length by omega) (A eX (A (yu S) (eM (by rw[e1];omega))))),_,_,_,rfl,?_⟩));unfold eO;rw[<- he,bx,<- e1,bn];rfl
theorem aa0:kj ak 99 (gQ zW):=by
 refine nt Tryz.func99 fun args fm v e=>?_;unfold zW at e;split at e
 case h_2=>cases e
 obtain⟨rfl,rfl⟩:=sm e;exact⟨rfl,rfl,rfl,fun _=>asR _⟩
def Lo:ag->Option (ah×V)
 | [.int .i64 x,.int .i64 k]=>match k with
   | .ofNat 1=>some ([],.str (zV x))
   |_=>none
 |_=>none
theorem aa1:kj ak 101 (gQ Lo):=by
 refine nt Tryz.func101 fun args fm v e=>?_;unfold Lo at e;split at e
 case h_2=>cases e
 split at e
 case h_2=>cases e
 rename_i x k;obtain⟨rfl,rfl⟩:=sm e;refine⟨rfl,rfl,rfl,fun _=>eR (be _) (asM x) (dF (g0 ⟨A (by show 1+0<=_;decide) (eM eX),_,_,_,rfl,?_⟩))⟩;obtain⟨h1,C⟩:=C0 x;unfold zV pB;obtain⟨n,hn⟩:∃n:Nat,IntKind.u64.wrap x=n:=⟨_,(cS h1).symm⟩;rw[hn,Int.tmod_eq_emod_of_nonneg (bO _),show((n:Int)%256)=((n%256:Nat):Int)by omega,Int.fdiv_one,u8w,u8w,dw,Nat.mod_mod]
noncomputable abbrev Wo:gJ:=kp 99 (gQ zW) (kp 101 (gQ Lo) ek)
theorem oD:fe ak Wo:=fN aa0 (fN aa1 (be _))
noncomputable abbrev aa2:Code:=dL Tryz.f102
noncomputable abbrev Sl:Code:=dA 2 aa2
noncomputable abbrev MD:Code:=dA 4 aa2
section
variable(f:FL)(s:aa)(i:Nat)(x:Int)
def Hf(r:List (Nat×V)):St:=fB ([(1,.ptr (some (0,0))),(3,.str s)]++r) (hL [(0,.cells f.cs)]) 1
theorem asS:H (M Wo []) [] 0 Tryz.f102 [1,3] (dU 2 aa2) (dB [f.v] .nil 0) [([],[(eO f.k).length+(eO f.r).length<=9223372036854775807,(eO f.k++eO f.r).length+(eO (Int.ofNat f.eW.length)).length<=9223372036854775807],eu (Hf f (eO f.k++eO f.r++eO (Int.ofNat f.eW.length)) []))]:=G.W
theorem asT:H (M Wo []) [] 0 Tryz.f102 [1,3,4] (dI (dI Sl)) (Hf f s []) [([],[],eu (Hf f s [(4,L 0)]))]:=G.W
theorem asU:H (M Wo []) [(22,.split),(29,.dG (.dS [.int .i64 x])),(24,.dG (L (i+1)))] 0 Tryz.f102 [1,3,4] (dK (dK (dY (dI Sl)))) (Hf f s [(4,L i)]) (fP (decide (Int.ofNat i<(Int.ofNat f.eW.length))) ([fR i f.eW.length,jC f.eW,gG (eG f.eW) i 1 [D.int B x],s.length+(eO x).length<=9223372036854775807,oH i],eu (Hf f (s++eO x) [(4,L (i+1))])) ([],.to (.exit 0) (Hf f s [(4,L i)]))):=G.W
theorem asV:H (M Wo []) [] 0 Tryz.f102 [1,3] (dU 1 (dY Sl)) (Hf f s [(4,L i)]) [([],[s.length+(eO f.dv).length<=9223372036854775807,(s++eO f.dv).length+(eO f.vl).length<=9223372036854775807,(s++eO f.dv++eO f.vl).length+(eO (Int.ofNat f.cu.length)).length<=9223372036854775807],eu (Hf f (s++eO f.dv++eO f.vl++eO (Int.ofNat f.cu.length)) []))]:=G.W
theorem asW:H (M Wo []) [] 0 Tryz.f102 [1,3,5] (dI (dI MD)) (Hf f s []) [([],[],eu (Hf f s [(5,L 0)]))]:=G.W
theorem asX:H (M Wo []) [(51,.split),(58,.dG (.dS [.int .i64 x])),(53,.dG (L (i+1)))] 0 Tryz.f102 [1,3,5] (dK (dK (dY (dI MD)))) (Hf f s [(5,L i)]) (fP (decide (Int.ofNat i<(Int.ofNat f.cu.length))) ([fR i f.cu.length,jC f.cu,gG (eG f.cu) i 1 [D.int B x],s.length+(eO x).length<=9223372036854775807,oH i],eu (Hf f (s++eO x) [(5,L (i+1))])) ([],.to (.exit 2) (Hf f s [(5,L i)]))):=G.W
theorem asY:H (M Wo []) [] 0 Tryz.f102 [] (dY MD) (Hf f s [(5,L i)]) [([],[],.ret (.str s) (hL []) 0)]:=G.W
end
noncomputable abbrev N7:Code:=dL Tryz.f53
noncomputable abbrev ME:Code:=dA 9 N7
noncomputable abbrev MF:Code:=dA 11 N7
def DO(l:eJ)(s:aa)(r:List (Nat×V)):St:=fB ([(1,.ptr (some (0,0))),(4,.str s)]++r) (hL [(0,.cells l.cs)]) 1
def mRh(l:eJ):I es:=hL [(0,.cells l.cs)]
theorem asZ(l:eJ):H (M Wo []) [] 0 Tryz.f53 [1,3] (dU 5 N7) (dB [l.v] .nil 0) [([],[],.to .normal (fB [(1,.ptr (some (0,0))),(3,F (flg l.hid l.clip l.K))] (mRh l) 1))]:=by
 obtain⟨_,_,_,a,_,_,b,_,_,_,_,_,_,_,_,c,_⟩:=l;cases a<;>cases b<;>cases c<;>exact G.W
theorem as0(l:eJ)(k:Int):H (M Wo []) [] 0 Tryz.f53 [1,4] (dU 1 (dA 5 N7)) (fB [(1,.ptr (some (0,0))),(3,F k)] (mRh l) 1) [([],[(eO l.id).length+(eO l.kd).length<=9223372036854775807,(eO (Int.ofNat l.nm.length)).length+l.nm.length<=9223372036854775807,(eO l.id++eO l.kd).length+(eO (Int.ofNat l.nm.length)++l.nm).length<=9223372036854775807,(eO l.id++eO l.kd++(eO (Int.ofNat l.nm.length)++l.nm)).length+(zV k).length<=9223372036854775807,(eO l.id++eO l.kd++(eO (Int.ofNat l.nm.length)++l.nm)++zV k).length+(eO l.op).length<=9223372036854775807,(eO l.id++eO l.kd++(eO (Int.ofNat l.nm.length)++l.nm)++zV k++eO l.op).length+(eO l.md).length<=9223372036854775807],eu (DO l (eO l.id++eO l.kd++(eO (Int.ofNat l.nm.length)++l.nm)++zV k++eO l.op++eO l.md) []))]:=G.W
theorem as1(l:eJ)(s:aa):H (M Wo []) [] 0 Tryz.f53 [1,4] (dU 2 (dA 6 N7)) (DO l s []) [([],[(0:Int)<=(0:Int)/\(0:Int)<(7:Int),s.length+(eO l.pl.a).length<=9223372036854775807,(0:Int)<=(1:Int)/\(1:Int)<(7:Int),(s++eO l.pl.a).length+(eO l.pl.b).length<=9223372036854775807,(0:Int)<=(2:Int)/\(2:Int)<(7:Int),(s++eO l.pl.a++eO l.pl.b).length+(eO l.pl.c).length<=9223372036854775807,(0:Int)<=(3:Int)/\(3:Int)<(7:Int),(s++eO l.pl.a++eO l.pl.b++eO l.pl.c).length+(eO l.pl.d).length<=9223372036854775807,(0:Int)<=(4:Int)/\(4:Int)<(7:Int),(s++eO l.pl.a++eO l.pl.b++eO l.pl.c++eO l.pl.d).length+(eO l.pl.e).length<=9223372036854775807,(0:Int)<=(5:Int)/\(5:Int)<(7:Int),(s++eO l.pl.a++eO l.pl.b++eO l.pl.c++eO l.pl.d++eO l.pl.e).length+(eO l.pl.f).length<=9223372036854775807,(0:Int)<=(6:Int)/\(6:Int)<(7:Int),(s++eO l.pl.a++eO l.pl.b++eO l.pl.c++eO l.pl.d++eO l.pl.e++eO l.pl.f).length+(eO l.pl.n).length<=9223372036854775807],eu (DO l (s++eO l.pl.a++eO l.pl.b++eO l.pl.c++eO l.pl.d++eO l.pl.e++eO l.pl.f++eO l.pl.n) []))]:=G.W
theorem as2(l:eJ)(s:aa):H (M Wo []) [] 0 Tryz.f53 [1,4] (dU 1 (dA 8 N7)) (DO l s []) [([],[s.length+(eO l.sp).length<=9223372036854775807,(s++eO l.sp).length+(eO (Int.ofNat l.kids.length)).length<=9223372036854775807],eu (DO l (s++eO l.sp++eO (Int.ofNat l.kids.length)) []))]:=G.W
theorem as3(l:eJ)(s:aa):H (M Wo []) [] 0 Tryz.f53 [1,4,7] (dI (dI ME)) (DO l s []) [([],[],eu (DO l s [(7,L 0)]))]:=G.W
theorem as4(l:eJ)(s:aa)(i:Nat)(x:Int):H (M Wo []) [(89,.split),(96,.dG (.dS [.int .i64 x])),(91,.dG (L (i+1)))] 0 Tryz.f53 [1,4,7] (dK (dK (dY (dI ME)))) (DO l s [(7,L i)]) (fP (decide (Int.ofNat i<(Int.ofNat l.kids.length))) ([fR i l.kids.length,jC l.kids,gG (eG l.kids) i 1 [D.int B x],s.length+(eO x).length<=9223372036854775807,oH i],eu (DO l (s++eO x) [(7,L (i+1))])) ([],.to (.exit 2) (DO l s [(7,L i)]))):=G.W
theorem as5(l:eJ)(s fb:aa)(i:Nat):H (M (fa 102 [l.f.v] (.str fb) Wo) []) [] 0 Tryz.f53 [1,4] (dU 1 (dY ME)) (DO l s [(7,L i)]) [([],[s.length+(eO l.of).length<=9223372036854775807,fu [l.f.v],(s++eO l.of).length+fb.length<=9223372036854775807,(s++eO l.of++fb).length+[UInt8.ofNat l.fi.r.toNat,UInt8.ofNat l.fi.g.toNat,UInt8.ofNat l.fi.b.toNat,UInt8.ofNat l.fi.a.toNat].length<=9223372036854775807,(s++eO l.of++fb++[UInt8.ofNat l.fi.r.toNat,UInt8.ofNat l.fi.g.toNat,UInt8.ofNat l.fi.b.toNat,UInt8.ofNat l.fi.a.toNat]).length+(eO (Int.ofNat l.gu.length)).length<=9223372036854775807],eu (DO l (s++eO l.of++fb++fiB l.fi++eO (Int.ofNat l.gu.length)) []))]:=G.W
theorem as6(l:eJ)(s:aa):H (M Wo []) [] 0 Tryz.f53 [1,4,8] (dI (dI MF)) (DO l s []) [([],[],eu (DO l s [(8,L 0)]))]:=G.W
abbrev Sm(l:eJ)(i:Nat)(x y:Int):Prop:=V.dS (dO (mQ l.gu) (i*2) 2)=V.dS [D.int B x,D.int B y]
theorem as7(l:eJ)(s:aa)(i:Nat)(x y:Int):H (M Wo []) [(133,.split),(140,.dG (.dS [.int .i64 x,.int .i64 y])),(148,.dG (.dS [.int .i64 x,.int .i64 y])),(135,.dG (L (i+1)))] 0 Tryz.f53 [1,4,8] (dK (dK (dY (dI MF)))) (DO l s [(8,L i)]) (fP (decide (Int.ofNat i<(Int.ofNat l.gu.length))) ([fR i l.gu.length,(mQ l.gu).length=l.gu.length*2,Sm l i x y,s.length+(eO x).length<=9223372036854775807,fR i l.gu.length,(mQ l.gu).length=l.gu.length*2,Sm l i x y,(s++eO x).length+(eO y).length<=9223372036854775807,oH i],eu (DO l (s++eO x++eO y) [(8,L (i+1))])) ([],.to (.exit 4) (DO l s [(8,L i)]))):=G.W
theorem as8(l:eJ)(s:aa)(i:Nat):H (M Wo []) [] 0 Tryz.f53 [] (dY MF) (DO l s [(8,L i)]) [([],[],.ret (.str s) (hL []) 0)]:=G.W
theorem rbD(f:FL)(h1:f.eW.length<=2000000)(C:f.cu.length<=2000000):dV ak 102 [f.v] (.str (ic f)):=by
 refine fc Tryz.func102 ?_;have b:=fun n=>(sj n).2;have b1:=b f.k;have b2:=b f.r;have b3:=b (Int.ofNat f.eW.length);have b4:=b f.dv;have b5:=b f.vl;have b6:=b (Int.ofNat f.cu.length);refine fH 2 oD (asS f) ?_ ?_
 . repeat' (first|exact all_nil|refine A ?_ ?_)
   all_goals (first|omega|(simp only[aH];omega))
 have l0:(eO f.k++eO f.r++eO (Int.ofNat f.eW.length)).length<=30:=by simp only[aH];omega
 have e0:∀a b c,eO a++eO b++eO c=gC [a,b,c]:=fun a b c=>by
  show _=eO a++(eO b++(eO c++[]));rw[dw,cO]
 rw[e0]at l0 ⊢;unfold ic;generalize gC [f.k,f.r,Int.ofNat f.eW.length]=s0 at l0 ⊢;refine nD oD 0 _ [1,3,4] (f.eW.length-·) (. <=f.eW.length) (fun i=>Hf f (s0++gC (f.eW.take i)) [(4,L i)]) 0 (aN _) (asT f s0) all_nil (by
  show ew _ _ _ _ (Hf f (s0++[]) _);rw[dw];exact .refl) fun i hi=>?_
 refine⟨_,oD,[],_,_,asU f _ i (f.eW.getD i 0),dJ (g1 fun h=>?_) (dF (g1 fun h=>⟨all_nil,rfl,?_⟩))⟩
 . have eY:=j9 h;obtain⟨v,hv⟩:∃v,f.eW[i]? =some v:=⟨_,au eY⟩;have ev:f.eW.getD i 0=v:=by rw[ax,hv];rfl
   rw[ev];have q1:=iU (f.eW.take i);have q2:=b v;rw[aW]at q1;refine⟨A (iT eY) (A (eK _) (A (q8 hv) (A (by simp only[aH];omega) (eM (gK S))))),i+1,um eY,eY,?_⟩;rw[cO,<- tE hv];exact .refl
 obtain rfl:i=f.eW.length:=by have:=qZ h;omega
 rw[bn];have q1:=iU f.eW;have l1:(s0++gC f.eW).length<=30+10*f.eW.length:=by rw[aH];omega
 generalize s0++gC f.eW=s1 at l1 ⊢;refine fH 1 oD (asV f s1 f.eW.length) ?_ ?_
 . repeat' (first|exact all_nil|refine A ?_ ?_)
   all_goals (first|omega|(simp only[aH];omega))
 have e1:∀a b c,s1++eO a++eO b++eO c=s1++gC [a,b,c]:=fun a b c=>by
  rw[<- e0];simp only[cO]
 have l2:(s1++gC [f.dv,f.vl,Int.ofNat f.cu.length]).length<=60+10*f.eW.length:=by rw[<- e1];simp only[aH];omega
 rw[e1];generalize s1++gC [f.dv,f.vl,Int.ofNat f.cu.length]=s2 at l2 ⊢;refine nD (c:=MD) oD 2 _ [1,3,5] (f.cu.length-·) (. <=f.cu.length) (fun i=>Hf f (s2++gC (f.cu.take i)) [(5,L i)]) 0 (aN _) (asW f s2) all_nil (by
  show ew _ _ _ _ (Hf f (s2++[]) _);rw[dw];exact .refl) fun i hi=>?_
 refine⟨_,oD,[],_,_,asX f _ i (f.cu.getD i 0),dJ (g1 fun h=>?_) (dF (g1 fun h=>⟨all_nil,rfl,?_⟩))⟩
 . have eY:=j9 h;obtain⟨v,hv⟩:∃v,f.cu[i]? =some v:=⟨_,au eY⟩;have ev:f.cu.getD i 0=v:=by rw[ax,hv];rfl
   rw[ev];have q1:=iU (f.cu.take i);have q2:=b v;rw[aW]at q1;refine⟨A (iT eY) (A (eK _) (A (q8 hv) (A (by simp only[aH];omega) (eM (gK S))))),i+1,um eY,eY,?_⟩;rw[cO,<- tE hv];exact .refl
 obtain rfl:i=f.cu.length:=by have:=qZ h;omega
 rw[bn];exact eR oD (asY f _ _) (dF (g0 ⟨all_nil,_,_,_,rfl,rfl⟩))
theorem rhD(l:eJ)(h:okL l):dV ak 53 [l.v] (.str (QB l)):=by
 refine fc Tryz.func53 ?_;have b:=fun n=>(sj n).2;obtain⟨d1,d2,d3,d4,d5⟩:=h;have hF:=rbD l.f d3 d4;have a3:=Ky l.f;have p2:(fiB l.fi).length=4:=rfl;refine fH 5 oD (asZ l) all_nil ?_;have p1:(zV (flg l.hid l.clip l.K)).length=1:=rfl;unfold QB;generalize flg l.hid l.clip l.K=k at p1 ⊢;refine fH 1 oD (as0 l k) ?_ ?_
 . have b1:=b l.id;have b2:=b l.kd;have b3:=b (Int.ofNat l.nm.length);have b4:=b l.op;have b5:=b l.md
   repeat' (first|exact all_nil|refine A ?_ ?_)
   all_goals (first|omega|(simp only[aH];omega))
 rw[xo];have l1:(eO l.id++eO l.kd++(eO (Int.ofNat l.nm.length)++l.nm)++zV k++eO l.op++eO l.md).length<=60+l.nm.length:=by
  have b1:=b l.id;have b2:=b l.kd;have b3:=b (Int.ofNat l.nm.length);have b4:=b l.op;have b5:=b l.md;simp only[aH];omega
 rw[show eO l.id++eO l.kd++(QA l.nm++zV k)++eO l.op++eO l.md=eO l.id++eO l.kd++(eO (Int.ofNat l.nm.length)++l.nm)++zV k++eO l.op++eO l.md by unfold QA;simp only[cO]];generalize eO l.id++eO l.kd++(eO (Int.ofNat l.nm.length)++l.nm)++zV k++eO l.op++eO l.md=s1 at l1 ⊢;have l2:(s1++Nv l.pl).length<=140+l.nm.length:=by
  have b1:=b l.pl.a;have b2:=b l.pl.b;have b3:=b l.pl.c;have b4:=b l.pl.d;have b5:=b l.pl.e;have b6:=b l.pl.f;have b7:=b l.pl.n;unfold Nv;simp only[aH];omega
 refine fH 2 oD (as1 l s1) ?_ ?_
 . have b1:=b l.pl.a;have b2:=b l.pl.b;have b3:=b l.pl.c;have b4:=b l.pl.d;have b5:=b l.pl.e;have b6:=b l.pl.f;have b7:=b l.pl.n
   repeat' (first|exact all_nil|refine A ?_ ?_)
   all_goals first|decide|omega|(simp only[aH];omega)
 rw[xo,show s1++eO l.pl.a++eO l.pl.b++eO l.pl.c++eO l.pl.d++eO l.pl.e++eO l.pl.f++eO l.pl.n=s1++Nv l.pl by unfold Nv;simp only[cO]];generalize s1++Nv l.pl=s2 at l2 ⊢;have l3:(s2++eO l.sp++eO (Int.ofNat l.kids.length)).length<=160+l.nm.length:=by
  have b1:=b l.sp;have b2:=b (Int.ofNat l.kids.length);simp only[aH];omega
 refine fH 1 oD (as2 l s2) ?_ ?_
 . have b1:=b l.sp;have b2:=b (Int.ofNat l.kids.length)
   repeat' (first|exact all_nil|refine A ?_ ?_)
   all_goals (first|omega|(simp only[aH];omega))
 rw[xo];generalize s2++eO l.sp++eO (Int.ofNat l.kids.length)=s3 at l3 ⊢;refine nD (c:=ME) oD 2 _ [1,4,7] (l.kids.length-·) (. <=l.kids.length) (fun i=>DO l (s3++gC (l.kids.take i)) [(7,L i)]) 0 (aN _) (as3 l s3) all_nil (by
  show ew _ _ _ _ (DO l (s3++[]) _);rw[dw];exact .refl) fun i hi=>?_
 refine⟨_,oD,[],_,_,as4 l _ i (l.kids.getD i 0),dJ (g1 fun h=>?_) (dF (g1 fun h=>⟨all_nil,rfl,?_⟩))⟩
 . have eY:=j9 h;obtain⟨v,hv⟩:∃v,l.kids[i]? =some v:=⟨_,au eY⟩;have ev:l.kids.getD i 0=v:=by rw[ax,hv];rfl
   rw[ev];have q1:=iU (l.kids.take i);have q2:=b v;rw[aW]at q1;refine⟨A (iT eY) (A (eK _) (A (q8 hv) (A (by simp only[aH];omega) (eM (gK S))))),i+1,um eY,eY,?_⟩;rw[cO,<- tE hv];exact .refl
 obtain rfl:i=l.kids.length:=by have:=qZ h;omega
 rw[bn];have q1:=iU l.kids;have l4:(s3++gC l.kids).length<=160+l.nm.length+10*l.kids.length:=by rw[aH];omega
 generalize s3++gC l.kids=s4 at l4 ⊢;have b1:=b l.of;have b2:=b (Int.ofNat l.gu.length);refine fH 1 (fk hF oD) (as5 l s4 _ l.kids.length) ?_ ?_
 . repeat' (first|exact all_nil|refine A ?_ ?_)
   all_goals first|rfl|(simp only[aH,aR,b9];omega)|omega
 have l5:(s4++eO l.of++ic l.f++fiB l.fi++eO (Int.ofNat l.gu.length)).length<=260+l.nm.length+10*l.kids.length+10*l.f.eW.length+10*l.f.cu.length:=by
  simp only[aH];omega
 generalize s4++eO l.of++ic l.f++fiB l.fi++eO (Int.ofNat l.gu.length)=s5 at l5 ⊢;refine nD (c:=MF) oD 4 _ [1,4,8] (l.gu.length-·) (. <=l.gu.length) (fun i=>DO l (s5++F9 (l.gu.take i)) [(8,L i)]) 0 (aN _) (as6 l s5) all_nil (by
  show ew _ _ _ _ (DO l (s5++[]) _);rw[dw];exact .refl) fun i hi=>?_
 refine⟨_,oD,[],_,_,as7 l _ i (l.gu.getD i (0,0)).1 (l.gu.getD i (0,0)).2,dJ (g1 fun h=>?_) (dF (g1 fun h=>⟨all_nil,rfl,?_⟩))⟩
 . have eY:=j9 h;obtain⟨v,hv⟩:∃v,l.gu[i]? =some v:=⟨_,au eY⟩;have ev:l.gu.getD i (0,0)=v:=by rw[ax,hv];rfl
   rw[ev];have q1:=IK (l.gu.take i);have q2:=b v.1;have q3:=b v.2;rw[aW]at q1;have hs:(s5++F9 (l.gu.take i)).length<=1000000000:=by rw[aH];omega
   refine⟨A (iT eY) (A (pn _) (A (Kz hv) (A S (A (iT eY) (A (pn _) (A (Kz hv) (A (by rw[aH];omega) (eM (gK S))))))))),i+1,um eY,eY,?_⟩;rw[cO,cO,<- Nw hv];exact .refl
 obtain rfl:i=l.gu.length:=by have:=qZ h;omega
 rw[bn];exact eR oD (as8 l _ _) (dF (g0 ⟨all_nil,_,_,_,rfl,rfl⟩))
set_option maxRecDepth 10000
noncomputable def ag1(dy:gJ):gJ:=kp 54 (fun args h n=>match args with
 | [.agg [.eE f m l],y]=>some ([.agg [.eE false m l]=kX (BA l),y= .agg [.eE f m l],m<=1000000],.bool true,h,n)
 |_=>none) dy
theorem as9(x:eJ)(s:aa):H (M (fa 53 [x.v] (.str s) (ag1 ek)) []) [(9,.dG (.bool true))] 0 Tryz.f27 [] (dL Tryz.f27) (dB [x.v,x.v] .nil 0)
  [([],[V.jJ [x.v]=[x.v],V.jJ [x.v]=[x.v],kO (mM s s),.agg [.eE false x.gp.length (iH x.gp)]=kX (BA (iH x.gp)),V.agg [.eE false x.gp.length (iH x.gp)]= .agg [.eE false x.gp.length (iH x.gp)],x.gp.length<=1000000,.agg [.eE false x.gT.length (iH x.gT)]=kX (BA (iH x.gT)),V.agg [.eE false x.gT.length (iH x.gT)]= .agg [.eE false x.gT.length (iH x.gT)],x.gT.length<=1000000],.ret (.bool true) .nil 0)]:=G.W
theorem WL{E:Env}{f:Bool}{m:Nat}{l:List Eng.D}{y:Value}(r:eB E (.agg [.eE f m l]) y):eB E (.agg [.eE false m l]) y:=by
 obtain⟨cs,⟨z,zs,r1,r2,r3⟩,e⟩:=r;exact⟨cs,⟨z,zs,⟨r1.1,fun h=>by cases h⟩,r2,r3⟩,e⟩
theorem Vi{dy:gJ}(hS:fe ak dy):fe ak (ag1 dy):=by
 refine fN ⟨aE dD,fun args h' n fm v' C n2 e hA E w dQ ra g Uz _=>?_⟩ hS;simp only at e;split at e
 case h_2=>cases e
 rename_i f m l y;simp only[aq,aB]at e;obtain⟨rfl,rfl,rfl,rfl⟩:=e;have e1:V.agg [.eE false m l]=kX (BA l):=hA _ (by simp);have e2:y= .agg [.eE f m l]:=hA (y= .agg [.eE f m l]) (by simp);have e3:m<=1000000:=hA (m<=1000000) (by simp);subst e2;obtain⟨y1,ys,r1,⟨y2,ys2,r2,r3,q2⟩,q⟩:=ra;have K:m=(BA l).length:=by
  unfold kX at e1;simp only[V.agg.injEq,List.cons.injEq,V.eE.injEq,true_and,and_true]at e1;exact e1.1
 exact asL (BA l) S E _ _ w dQ ⟨y1,ys,e1▸WL r1,⟨y2,ys2,e1▸WL r2,r3,q2⟩,q⟩ g Uz
theorem Vj(x:eJ)(h:uq x):dV ak 27 [x.v,x.v] (.bool true):=by
 have hR:=rhD x ⟨by have:=h.nm;omega,by have:=h.kids;omega,by have:=h.eW;omega,by have:=h.cu;omega,by have:=h.gu;omega⟩;have hr:∀l:List Tl,V.agg [.eE false l.length (iH l)]=kX (BA (iH l)):=fun l=>by unfold kX;rw[LW,yC]
 exact fc Tryz.func27 (eR (fk hR (Vi (be _))) (as9 x _) (dF (g0 ⟨A rfl (A rfl (A (aI V.bool (by rw[kD];exact beq_self_eq_true _)) (A (hr _) (A rfl (A h.gp (A (hr _) (A rfl (eM h.gT)))))))),_,_,_,rfl,rfl⟩)))
set_option maxRecDepth 10000
noncomputable abbrev Vk:Code:=dL Tryz.f88
noncomputable abbrev bSa:Code:=dK (dK (dY (dI (dA 2 Vk))))
def SN(l:List Int)(r:List (Nat×V)):St:=fB ([(0,fF l),(1,fF l)]++r) .nil 0
noncomputable abbrev N8:Code:=dL Tryz.f40
noncomputable abbrev bSs:Code:=dK (dK (dY (dI (dA 1 N8))))
noncomputable abbrev bSt:Code:=dK (dK (dY (dI (dA 2 N8))))
section
variable(s:Sp)(i:Nat)(r:List (Nat×V))
def Jy:St:=fB ([(2,.ptr (some (0,0))),(3,.ptr (some (1,0)))]++r) (hL [(0,.cells (D.fU s.ds)),(1,.cells (D.fU s.ds))]) 2
noncomputable abbrev N9:Code:=dL Tryz.f15
noncomputable abbrev bEs:Code:=dK (dK (dY (dI (dA 2 N9))))
noncomputable abbrev bEl:Code:=dK (dK (dY (dI (dA 3 N9))))
def Hg(d:Dc)(r:List (Nat×V)):St:=fB ([(2,.ptr (some (0,0))),(3,.ptr (some (1,0)))]++r) (hL [(0,.cells d.cs),(1,.cells d.cs)]) 2
abbrev isA(l:List Int)(i:Nat)(x:Int):ah:=[(0:Int)<=Int.ofNat i/\Int.ofNat i<Int.ofNat l.length,(eG l).length=l.length*1,V.dS (dO (eG l) (i*1) 1)=V.dS [D.int .i64 x]]
abbrev spA(l:List Sp)(i:Nat)(s:Sp):ah:=[(0:Int)<=Int.ofNat i/\Int.ofNat i<Int.ofNat l.length,(jy l).length=l.length*21,V.dS (dO (jy l) (i*21) 21)=V.dS s.ds]
abbrev lyA(l:List eJ)(i:Nat)(x:eJ):ah:=[(0:Int)<=Int.ofNat i/\Int.ofNat i<Int.ofNat l.length,(fD l).length=l.length*31,V.dS (dO (fD l) (i*31) 31)=V.dS x.ds]
theorem atb(l:List Int):H (M ek []) [(10,.dG (.bool false))] 0 Tryz.f88 [0,1] (dU 2 Vk) (dB [fF l,fF l] .nil 0)
  [([],[lu (Int.ofNat l.length !=Int.ofNat l.length)],eu (SN l []))]:=G.W
theorem atc(l:List Int):H (M ek []) [] 0 Tryz.f88 [0,1,5] (dI (dI (dA 2 Vk))) (SN l [])
  [([],[],eu (SN l [(5,L 0)]))]:=G.W
theorem atd(l:List Int)(i:Nat):H (M ek []) [(14,.split)] 0 Tryz.f88 [0,1,5] (dU 1 bSa) (SN l [(5,L i)])
  (fP (decide (Int.ofNat i<Int.ofNat l.length)) ([],eu (SN l [(5,L i)])) ([],.to (.exit 0) (SN l [(5,L i)]))):=G.W
theorem ate(l:List Int)(i:Nat)(x:Int):H (M ek []) [(19,.dG (.dS [.int .i64 x])),(23,.dG (.dS [.int .i64 x])),(25,.dG (.bool false)),(16,.dG (L (i+1)))] 0 Tryz.f88 [0,1,5] (dA 1 bSa) (SN l [(5,L i)])
  [([],isA l i x++(isA l i x++[V.bool (x !=x)=V.bool false,V.int .i64 (IntKind.i64.wrap (Int.ofNat i+(1:Int)))=L (i+1)]),.to .normal (SN l [(5,L (i+1))]))]:=G.W
theorem atf(l:List Int)(i:Nat):H (M ek []) [] 0 Tryz.f88 [] (dY (dA 2 Vk)) (SN l [(5,L i)])
  [([],[],.ret (.bool true) .nil 0)]:=G.W
theorem atg:H (M ek []) [] 0 Tryz.f40 [2,3] (dU 1 N8) (dB [s.v,s.v] .nil 0)
  [([],[],eu (Jy s []))]:=G.W
theorem ath:H (M ek []) [] 0 Tryz.f40 [2,3,5] (dI (dI (dA 1 N8))) (Jy s [])
  [([],[],eu (Jy s [(5,L 0)]))]:=G.W
theorem ati(hi:i<3):H (M (fa 88 [fF (s.cv i),fF (s.cv i)] (.bool true) ek) []) [] 0 Tryz.f40 [2,3,5] (bSs) (Jy s [(5,L i)])
  [([],[n3 i,n3 i,V.jJ [fF (s.cv i),fF (s.cv i)]=[fF (s.cv i),fF (s.cv i)]],.to .normal (Jy s [(5,L (i+1))]))]:=by
 obtain rfl|rfl|rfl:i=0\/i=1\/i=2:=by omega
 all_goals exact G.W
theorem atj:H (M ek []) [] 0 Tryz.f40 [2,3,5] (bSs) (Jy s [(5,L 3)])
  [([],[],.to (.exit 0) (Jy s [(5,L 3)]))]:=G.W
theorem atk:H (M ek []) [] 0 Tryz.f40 [2,3,7] (dI (dI (dA 2 N8))) (Jy s [(5,L 3)])
  [([],[],eu (Jy s [(7,L 0)]))]:=G.W
theorem atl(hi:i<9):H (M ek []) [(35,.dG (.bool false)),(45,.dG (.bool false))] 0 Tryz.f40 [2,3,7] (bSt) (Jy s [(7,L i)])
  [([],[n9 i,n9 i,V.bool (s.to.at i !=s.to.at i)=V.bool false,n9 i,n9 i,V.bool (s.T.at i !=s.T.at i)=V.bool false],.to .normal (Jy s [(7,L (i+1))]))]:=by
 obtain rfl|rfl|rfl|rfl|rfl|rfl|rfl|rfl|rfl:i=0\/i=1\/i=2\/i=3\/i=4\/i=5\/i=6\/i=7\/i=8:=by omega
 all_goals exact G.W
theorem atm:H (M ek []) [] 0 Tryz.f40 [2,3,7] (bSt) (Jy s [(7,L 9)])
  [([],[],.to (.exit 2) (Jy s [(7,L 9)]))]:=G.W
theorem atn:H (M ek []) [] 0 Tryz.f40 [] (dA 3 N8) (Jy s [(7,L 9)])
  [([],[],.ret (.bool true) .nil 0)]:=G.W
theorem ato(d:Dc):H (M ek []) [(11,.dG (.bool false)),(17,.dG (.bool false)),(26,.dG (.bool false)),(35,.dG (.bool false))] 0 Tryz.f15 [2,3] (dU 2 N9) (dB [d.v,d.v] .nil 0)
  [([],[lu (d.root !=d.root),lu (d.nx !=d.nx),lu (Int.ofNat d.sp.length !=Int.ofNat d.sp.length),lu (Int.ofNat d.ly.length !=Int.ofNat d.ly.length)],eu (Hg d []))]:=G.W
end
theorem atp(d:Dc):H (M ek []) [] 0 Tryz.f15 [2,3,5] (dI (dI (dA 2 N9))) (Hg d [])
  [([],[],eu (Hg d [(5,L 0)]))]:=G.W
theorem atq(d:Dc)(i:Nat):H (M ek []) [(41,.split)] 0 Tryz.f15 [2,3,5] (dU 1 bEs) (Hg d [(5,L i)])
  (fP (decide (Int.ofNat i<Int.ofNat d.sp.length)) ([],eu (Hg d [(5,L i)])) ([],.to (.exit 0) (Hg d [(5,L i)]))):=G.W
theorem atr(d:Dc)(i:Nat)(s:Sp):H (M (fa 40 [s.v,s.v] (.bool true) ek) []) [(47,.dG (.dS s.ds)),(52,.dG (.dS s.ds)),(43,.dG (L (i+1)))] 0 Tryz.f15 [2,3,5] (dA 1 bEs) (Hg d [(5,L i)])
  [([],spA d.sp i s++(spA d.sp i s++[V.jJ [s.v,s.v]=[s.v,s.v],V.int .i64 (IntKind.i64.wrap (Int.ofNat i+(1:Int)))=L (i+1)]),.to .normal (Hg d [(5,L (i+1))]))]:=G.W
theorem att(d:Dc)(i:Nat):H (M ek []) [] 0 Tryz.f15 [2,3,6] (dI (dI (dA 3 N9))) (Hg d [(5,L i)])
  [([],[],eu (Hg d [(6,L 0)]))]:=G.W
theorem atu(d:Dc)(i:Nat):H (M ek []) [(60,.split)] 0 Tryz.f15 [2,3,6] (dU 1 bEl) (Hg d [(6,L i)])
  (fP (decide (Int.ofNat i<Int.ofNat d.ly.length)) ([],eu (Hg d [(6,L i)])) ([],.to (.exit 2) (Hg d [(6,L i)]))):=G.W
theorem atv(d:Dc)(i:Nat)(x:eJ):H (M (fa 27 [x.v,x.v] (.bool true) ek) []) [(66,.dG (.dS x.ds)),(71,.dG (.dS x.ds)),(62,.dG (L (i+1)))] 0 Tryz.f15 [2,3,6] (dA 1 bEl) (Hg d [(6,L i)])
  [([],lyA d.ly i x++(lyA d.ly i x++[V.jJ [x.v,x.v]=[x.v,x.v],V.int .i64 (IntKind.i64.wrap (Int.ofNat i+(1:Int)))=L (i+1)]),.to .normal (Hg d [(6,L (i+1))]))]:=G.W
theorem atw(d:Dc)(i:Nat):H (M ek []) [] 0 Tryz.f15 [] (dA 4 N9) (Hg d [(6,L i)])
  [([],[],.ret (.bool true) .nil 0)]:=G.W
set_option maxRecDepth 10000
theorem Vl(a:Int):V.bool (a !=a)=V.bool false:=aI V.bool (bne_self_eq_false a)
theorem Sq{l:List Int}{i:Nat}(h:i<l.length):∀a∈isA l i (l.getD i 0),a:=A (iT h) (A (eK l) (eM (gi h)))
theorem GV{l:List Sp}{i:Nat}(h:i<l.length):∀a∈spA l i (l.getD i D8),a:=A (iT h) (A (mw l) (eM (BB h)))
theorem GW{l:List eJ}{i:Nat}(h:i<l.length):∀a∈lyA l i (l.getD i gv),a:=A (iT h) (A (fE l) (eM (iu h)))
theorem saD(l:List Int)(h:l.length<=1000000000):dV ak 88 [fF l,fF l] (.bool true):=by
 refine fc Tryz.func88 (fH 2 (be _) (atb l) (eM (Vl _)) ?_);refine dM dD (dM dD (gk (be _) eI (atc l) (dF (g0 ⟨all_nil,fun R dX=>?_⟩))));simp only[andThen];refine iz 0 l.length (fun i=>SN l [(5,L i)]) (fun _=>false) (ew.norm dX) (fun i hi _ Q' k1 k2 k3=>?_) (fun _ R dX=>?_)
 . refine jY 1 (be _) eI (atd l i) (dJ (g1 fun h=>⟨all_nil,?_⟩) (dF (g1 fun h=>⟨all_nil,fun R dX=>k2 (by have:=qZ h;omega) R (ew.norm dX)⟩)));have q:=j9 h;exact gk (be _) eI (ate l i (l.getD i 0)) (dF (g0 ⟨l7 (Sq q) (l7 (Sq q) (A (Vl _) (eM (gK S)))),fun R dX=>k1 q rfl R (ew.norm dX)⟩))
 . simp only[andThen];exact dX _ _ (eR (be _) (atf l _) (dF (g0 ⟨all_nil,_,_,_,rfl,rfl⟩)))
theorem ssD(s:Sp)(h:NH s):dV ak 40 [s.v,s.v] (.bool true):=by
 refine fc Tryz.func40 (fH 1 (be _) (atg s) all_nil ?_);refine dM dD (dM dD (gk (be _) eI (ath s) (dF (g0 ⟨all_nil,fun R dX=>?_⟩))));simp only[andThen];refine iz 0 3 (fun i=>Jy s [(5,L i)]) (fun _=>false) (ew.norm dX) (fun i hi _ Q' k1 k2 k3=>?_) (fun _ R dX=>?_)
 . rcases bj i 3 with q|q
   . exact gk (fk (saD (s.cv i) (h.cv i)) (be _)) eI (ati s i q) (dF (g0 ⟨A (Dh q) (A (Dh q) (eM rfl)),fun R dX=>k1 q rfl R (ew.norm dX)⟩))
   . obtain rfl:i=3:=by omega
     exact gk (be _) eI (atj s) (dF (g0 ⟨all_nil,fun R dX=>k2 S R (ew.norm dX)⟩))
 simp only[andThen];refine dX _ _ (dM dD (dM dD (gk (be _) eI (atk s) (dF (g0 ⟨all_nil,fun R dX=>?_⟩)))));simp only[andThen];refine iz 2 9 (fun i=>Jy s [(7,L i)]) (fun _=>false) (ew.norm dX) (fun i hi _ Q' k1 k2 k3=>?_) (fun _ R dX=>?_)
 . rcases bj i 9 with q|q
   . exact gk (be _) eI (atl s i q) (dF (g0 ⟨A (sB q) (A (sB q) (A (Vl _) (A (sB q) (A (sB q) (eM (Vl _)))))),fun R dX=>k1 q rfl R (ew.norm dX)⟩))
   . obtain rfl:i=9:=by omega
     exact gk (be _) eI (atm s) (dF (g0 ⟨all_nil,fun R dX=>k2 S R (ew.norm dX)⟩))
 simp only[andThen];exact dX _ _ (eR (be _) (atn s) (dF (g0 ⟨all_nil,_,_,_,rfl,rfl⟩)))
theorem aa3(d:Dc)(hd:BF d)(hs:d.sp.length<=1000000):dV ak 15 [d.v,d.v] (.bool true):=by
 have hl:=hd.m.ly;refine fc Tryz.func15 (fH 2 (be _) (ato d) (A (Vl _) (A (Vl _) (A (Vl _) (eM (Vl _))))) ?_);refine dM dD (dM dD (gk (be _) eI (atp d) (dF (g0 ⟨all_nil,fun R dX=>?_⟩))));simp only[andThen];refine iz 0 d.sp.length (fun i=>Hg d [(5,L i)]) (fun _=>false) (ew.norm dX) (fun i hi _ Q' k1 k2 k3=>?_) (fun _ R dX=>?_)
 . refine jY 1 (be _) eI (atq d i) (dJ (g1 fun h=>⟨all_nil,?_⟩) (dF (g1 fun h=>⟨all_nil,fun R dX=>k2 (by have:=qZ h;omega) R (ew.norm dX)⟩)));have q:=j9 h;have K:d.sp.getD i D8∈d.sp:=by
    rw[ax,au q];exact bJ q
   exact gk (fk (ssD _ (hd.s _ K)) (be _)) eI (atr d i (d.sp.getD i D8)) (dF (g0 ⟨l7 (GV q) (l7 (GV q) (A rfl (eM (gK S)))),fun R dX=>k1 q rfl R (ew.norm dX)⟩))
 simp only[andThen];refine dX _ _ (dM dD (dM dD (gk (be _) eI (att d _) (dF (g0 ⟨all_nil,fun R dX=>?_⟩)))));simp only[andThen];refine iz 2 d.ly.length (fun i=>Hg d [(6,L i)]) (fun _=>false) (ew.norm dX) (fun i hi _ Q' k1 k2 k3=>?_) (fun _ R dX=>?_)
 . refine jY 1 (be _) eI (atu d i) (dJ (g1 fun h=>⟨all_nil,?_⟩) (dF (g1 fun h=>⟨all_nil,fun R dX=>k2 (by have:=qZ h;omega) R (ew.norm dX)⟩)));have q:=j9 h;exact gk (fk (Vj _ (hd.at i)) (be _)) eI (atv d i (d.at i)) (dF (g0 ⟨l7 (GW q) (l7 (GW q) (A rfl (eM (gK S)))),fun R dX=>k1 q rfl R (ew.norm dX)⟩))
 simp only[andThen];exact dX _ _ (eR (be _) (atw d _) (dF (g0 ⟨all_nil,_,_,_,rfl,rfl⟩)))
set_option maxRecDepth 10000
noncomputable abbrev Vm:Code:=dL Tryz.f14
def dZ:Dc:=⟨[],0,0,[]⟩
def kR(d:Dc)(n:Nat)(y:eJ):Dc:=⟨d.sp,d.root,d.nx,d.ly.set n y⟩
noncomputable def MG(d:Dc)(y:eJ):Dc×Int:=match jK d.ly y.id with
 |some n=>if(gS (kR d n y)).1=0 then(kR d n y,0)else(dZ,(gS (kR d n y)).1)
 |none=>(dZ,40)
def sRw(d:Dc)(y:eJ)(n m:Nat)(ds:List Eng.D):St:=fB [(2,.ptr (some (0,0))),(3,.ptr (some (2,0))),(4,.ptr (some (3,0))),(5,L n)] (hL [(0,.cells [.eE false d.sp.length (jy d.sp),F d.root,F d.nx,.eZ (some (1,0)) m m 31]),(1,.deep ds),(2,.cells y.cs),(3,.cells [gh,F 0,F 0,gh,F 0])]) 4
def sRx(d:Dc):St:=fB [(2,.ptr (some (0,0))),(4,.ptr (some (1,0)))] (hL [(0,.cells d.cs),(1,.cells [gh,F 0,F 0,gh,F 0])]) 2
theorem atx(d:Dc)(y:eJ):H (M (fa 24 [d.v,F y.id] (F (-1)) ek) []) [] 0 Tryz.f14 [] (Vm) (dB [d.v,y.v] .nil 0)
  [([],[V.jJ [d.v,F y.id]=[d.v,F y.id]],.ret (.agg [gh,F 0,F 0,gh,F 40]) .nil 0)]:=G.W
theorem aty(d:Dc)(y:eJ)(n:Nat):H (M (fa 24 [d.v,F y.id] (L n) ek) []) [(12,.dG (.bool false))] 0 Tryz.f14 [2,3,4,5] (dU 4 Vm) (dB [d.v,y.v] .nil 0)
  [([],[V.jJ [d.v,F y.id]=[d.v,F y.id],lu (decide (Int.ofNat n<(0:Int))),nE d.ly,fJ (0+d.ly.length) 31 328=true],eu (sRw d y n (0+d.ly.length) (fD d.ly)))]:=G.W
theorem atz(d:Dc)(y:eJ)(n m:Nat)(ds:List Eng.D):H (M ek []) [] 0 Tryz.f14 [2,3,4,5] (dU 1 (dA 4 Vm)) (sRw d y n m ds)
  [([],[fR n m,0+n*31+31<=ds.length],eu (sRw d y n m (nC ds (0+n*31) y.ds)))]:=G.W
theorem atA(d:Dc)(p:Int×Int):H (M (fa 39 [d.v] (Ot p) ek) []) [(28,.split)] 0 Tryz.f14 [] (dA 5 Vm) (sRx d)
  (fP (p.1 !=(0:Int)) ([V.jJ [d.v]=[d.v]],.ret (.agg [gh,F 0,F 0,gh,F p.1]) .nil 0) ([V.jJ [d.v]=[d.v]],.ret (.agg (d.cs++[F 0])) .nil 0)):=G.W
theorem Dz(d:Dc)(n:Nat)(y:eJ):(kR d n y).ly.length=d.ly.length:=List.length_set
theorem rwD{d:Dc}(hd:BF d)(y:eJ)(hy:∀n,jK d.ly y.id=some n->BF (kR d n y)):dV ak 14 [d.v,y.v] (.agg ((MG d y).1.cs++[F (MG d y).2])):=by
 have hA:=YC d y.id hd.m.ly;have hl:=hd.m.ly;unfold MG;unfold xl at hA;cases hn:jK d.ly y.id with
 |none=>
  rw[hn]at hA;exact(fc (v:=.agg [gh,F 0,F 0,gh,F 40]) Tryz.func14 (eR (fk hA (be _)) (atx d y) (dF (g0 ⟨eM rfl,_,_,_,rfl,rfl⟩)))).nl
 |some n=>
  rw[hn]at hA;obtain⟨eY,_,_⟩:=jv hn;have hS:=hy n hn;have hC:=Q7 (kR d n y) hS;have jl:=Dz d n y;have oK:nC (fD d.ly) (0+n*31) y.ds=fD (kR d n y).ly:=GU eY y;simp only;have hN:((if(gS (kR d n y)).1=0 then(kR d n y,(0:Int))else(dZ,(gS (kR d n y)).1)):Dc×Int)=if(gS (kR d n y)).1=0 then(kR d n y,0)else(dZ,(gS (kR d n y)).1):=rfl
  have hv:∀(v:V) (a:I es) (b:Nat),v.nl= .agg ((if(gS (kR d n y)).1=0 then(kR d n y,(0:Int))else(dZ,(gS (kR d n y)).1)).1.cs++[F (if(gS (kR d n y)).1=0 then(kR d n y,(0:Int))else(dZ,(gS (kR d n y)).1)).2])->v.deep=true->rE (.agg ((if(gS (kR d n y)).1=0 then(kR d n y,(0:Int))else(dZ,(gS (kR d n y)).1)).1.cs++[F (if(gS (kR d n y)).1=0 then(kR d n y,(0:Int))else(dZ,(gS (kR d n y)).1)).2])) v a b:=fun v a b e1 e2=>rE.self e2 e1;refine mJ Tryz.func14 (fH 4 (fk hA (be _)) (aty d y n) (A rfl (A (aI V.bool (aV (by simp only[gB];omega))) (A (fE _) (eM (aT ⟨S,S⟩))))) ?_);refine fH 1 (be _) (atz d y n (0+d.ly.length) (fD d.ly)) (A (iT S) (eM (by rw[fE];omega))) ?_;rw[oK,bB,<- jl];have vt:∀e:Dc,e.sp=d.sp->e.root=d.root->e.nx=d.nx->ew ak 0 Tryz.f14.ntmps (sRw d y n e.ly.length (fD e.ly)) (sRx e):=fun e h1 C h3=>by
   unfold sRw;rw[<- h1,<- C,<- h3];exact ew.DJ [1] [2,4] (fm:=[(fD e.ly).length=e.ly.length*31]) dD (eM (fE _))
  refine vt (kR d n y) rfl rfl rfl _ _ ?_;generalize kR d n y=e at *;generalize gS e=p at *;refine eR (fk hC (be _)) (atA e p) (dJ (g1 fun h=>⟨eM rfl,_,_,_,rfl,hv _ _ _ ?_ rfl⟩) (dF (g1 fun h=>⟨eM rfl,_,_,_,rfl,hv _ _ _ ?_ dD⟩)))
  . rw[aA (by simpa using h)];rfl
  . rw[aD (by simpa using h)];rfl
set_option maxRecDepth 10000
noncomputable abbrev yF:Code:=dL Tryz.f13
noncomputable abbrev gW1:Code:=dI (dA 5 yF)
noncomputable abbrev bW1:Code:=dK (dK (dY gW1))
noncomputable abbrev gW2:Code:=dI (dA 9 yF)
noncomputable abbrev bW2:Code:=dK (dK (dY gW2))
noncomputable abbrev iW2:Code:=dK (dI (dA 2 bW2))
noncomputable abbrev gW3:Code:=dI (dA 1 iW2)
noncomputable abbrev bW3:Code:=dK (dK (dY gW3))
abbrev hWl(d:Dc)(y:eJ)(o:V):af:=[(0,.cells d.cs),(1,.cells y.cs),(2,.cells Ai),(3,.cells [.eE false d.sp.length (jy d.sp),F d.root,F d.nx,o])]
section
variable(e:Dc)(k m:Nat)(s:Sp)(r:List (Nat×V))
abbrev tWl:List (Nat×V):=[(2,.ptr (some (0,0))),(3,.ptr (some (1,0))),(4,.ptr (some (2,0))),(6,L k),(7,.ptr (some (3,0)))]
def sWa(d:Dc)(y:eJ)(k:Nat):St:=fB [(2,.ptr (some (0,0))),(3,.ptr (some (1,0))),(4,.ptr (some (2,0))),(6,L k)] (hL [(0,.cells d.cs),(1,.cells y.cs),(2,.cells Ai)]) 3
def sW0(d:Dc)(y:eJ)(k:Nat)(r:List (Nat×V)):St:=fB (tWl k++r) (hL (hWl d y gh)) 4
def sWc(d:Dc)(y:eJ)(k:Nat)(x:eJ)(r:List (Nat×V)):St:=fB (tWl k++r) (hL (hWl d y (.eZ (some (4,0)) 1 1 31)++[(4,.cells x.cs)])) 5
def Lp(d:Dc)(y:eJ)(k m:Nat)(ds:List Eng.D)(r:List (Nat×V)):St:=fB (tWl k++r) (hL (hWl d y (.eZ (some (4,0)) m m 31)++[(4,.deep ds)])) 5
abbrev Eg(d:Dc)(i:Nat):List (Nat×V):=[(25,.eE false d.ly.length (fD d.ly)),(26,L d.ly.length),(27,L i)]
def sWd(d:Dc)(m:Nat)(ds:List Eng.D):St:=fB [(2,.ptr (some (0,0))),(4,.ptr (some (1,0))),(7,.ptr (some (2,0)))] (hL [(0,.cells d.cs),(1,.cells Ai),(2,.cells [.eE false d.sp.length (jy d.sp),F d.root,F d.nx,.eZ (some (3,0)) m m 31]),(3,.deep ds)]) 4
def WM(d:Dc)(o:ag):St:=fB [(2,.ptr (some (0,0))),(4,.ptr (some (1,0))),(7,.ptr (some (2,0)))] (hL [(0,.cells d.cs),(1,.cells Ai),(2,.cells o)]) 3
abbrev oW(o:V):ag:=[o,F e.root,F e.nx,.eE false e.ly.length (fD e.ly)]
def sX0:St:=fB ([(4,.ptr (some (0,0))),(7,.ptr (some (1,0)))]++r) (hL [(0,.cells Ai),(1,.cells (oW e gh))]) 2
def sXc:St:=fB ([(4,.ptr (some (0,0))),(7,.ptr (some (1,0)))]++r) (hL [(0,.cells Ai),(1,.cells (oW e (.eZ (some (2,0)) 1 1 21))),(2,.cells (D.fU s.ds))]) 3
def Lq(ds:List Eng.D)(r:List (Nat×V)):St:=fB ([(4,.ptr (some (0,0))),(7,.ptr (some (1,0)))]++r) (hL [(0,.cells Ai),(1,.cells (oW e (.eZ (some (2,0)) m m 21))),(2,.deep ds)]) 3
abbrev sG(d:Dc)(i:Nat):List (Nat×V):=[(56,.eE false d.sp.length (jy d.sp)),(57,L d.sp.length),(58,L i)]
def Vn:St:=fB ([(4,.ptr (some (0,0))),(7,.ptr (some (1,0))),(13,.ptr (some (2,0)))]++r) (hL [(0,.cells Ai),(1,.cells (oW e gh)),(2,.cells (D.fU s.ds))]) 3
def Vo(ds:List Eng.D)(s:Sp)(r:List (Nat×V)):St:=fB ([(4,.ptr (some (0,0))),(7,.ptr (some (1,0))),(13,.ptr (some (3,0)))]++r) (hL [(0,.cells Ai),(1,.cells (oW e (.eZ (some (2,0)) m m 21))),(2,.deep ds),(3,.cells (D.fU s.ds))]) 4
theorem atH(d:Dc)(y:eJ):H (M (kp 35 (vX (Vc d 36 y.cs (F (-1)))) ek) []) [] 0 Tryz.f13 [] (yF) (dB [d.v,y.v] .nil 0)
  [([],aIx d 36 y.cs,.ret (.gV [.agg Ai,F 40]) .nil 0)]:=G.W
theorem atI(d:Dc)(y:eJ)(k:Nat):H (M (kp 35 (vX (Vc d 36 y.cs (L k))) ek) []) [(20,.dG (.bool false))] 0 Tryz.f13 [2,3,4,6] (dU 3 yF) (dB [d.v,y.v] .nil 0)
  [([],aIx d 36 y.cs++[V.bool (decide (Int.ofNat k<(0:Int)))=V.bool false],.to .normal (sWa d y k))]:=G.W
theorem Y3(d:Dc)(y:eJ)(k:Nat):H (M ek []) [] 0 Tryz.f13 [2,3,4,6,7] (dU 2 (dA 3 yF)) (sWa d y k)
  [([],[],eu (sW0 d y k []))]:=G.W
theorem Y4(d:Dc)(y:eJ)(k:Nat):H (M ek []) [] 0 Tryz.f13 [2,3,4,6,7,25,26,27] (dI gW1) (sW0 d y k [])
  [([],[],eu (sW0 d y k (Eg d 0)))]:=G.W
theorem Y5(d:Dc)(y:eJ)(k:Nat):H (M ek []) [(28,.dG (.bool true))] 0 Tryz.f13 [2,3,4,6,7,25,26,27] (dU 2 bW1) (sW0 d y k (Eg d 0))
  [([],[kO (decide (Int.ofNat 0<Int.ofNat d.ly.length))],eu (sW0 d y k (Eg d 0)))]:=G.W
theorem Y6(d:Dc)(y:eJ)(k m i:Nat)(ds:List Eng.D):H (M ek []) [(28,.split)] 0 Tryz.f13 [2,3,4,6,7,25,26,27] (dU 2 bW1) (Lp d y k m ds (Eg d i))
  (fP (decide (Int.ofNat i<Int.ofNat d.ly.length)) ([],eu (Lp d y k m ds (Eg d i))) ([],.to (.exit 0) (Lp d y k m ds (Eg d i)))):=G.W
theorem Y7(d:Dc)(y:eJ)(k:Nat)(x:eJ):H (M (fa 37 [x.v] x.v ek) []) [(29,.dG (.dS x.ds))] 0 Tryz.f13 [2,3,4,6,7,25,26,27] (dU 1 (dA 2 bW1)) (sW0 d y k (Eg d 0))
  [([],lyA d.ly 0 x++[V.jJ [x.v]=[x.v]],.to .normal (sWc d y k x (Eg d 0)))]:=G.W
theorem Y8(d:Dc)(y:eJ)(k m i:Nat)(x:eJ)(ds:List Eng.D):H (M (fa 37 [x.v] x.v ek) []) [(29,.dG (.dS x.ds))] 0 Tryz.f13 [2,3,4,6,7,25,26,27] (dU 1 (dA 2 bW1)) (Lp d y k m ds (Eg d i))
  [([],lyA d.ly i x++[V.jJ [x.v]=[x.v],0+m*31<=ds.length,0<1,fJ (m+1) 31 328=true],.to .normal (Lp d y k (m+1) (List.take (m*31) (List.drop 0 ds)++x.ds) (Eg d i)))]:=G.W
theorem Uc(d:Dc)(y:eJ)(k m i:Nat)(ds:List Eng.D):H (M ek []) [(38,.dG (L (i+1)))] 0 Tryz.f13 [2,3,4,6,7,25,26,27] (dA 3 bW1) (Lp d y k m ds (Eg d i))
  [([],[oH i],eu (Lp d y k m ds (Eg d (i+1))))]:=G.W
theorem Y9(d:Dc)(y:eJ)(k m i:Nat)(ds:List Eng.D):H (M (fa 37 [y.v] y.v ek) []) [] 0 Tryz.f13 [2,4,7] (dU 1 (dA 6 yF)) (Lp d y k m ds (Eg d i))
  [([],[V.jJ [y.v]=[y.v],fR k m,0+k*31+31<=ds.length],eu (sWd d m (nC ds (0+k*31) y.ds)))]:=G.W
theorem Za(d e:Dc)(p:Int×Int):H (M (fa 16 [e.v] (.gV [F p.1,F p.2]) ek) []) [(51,.split)] 0 Tryz.f13 [2,4,7] (dU 1 (dA 7 yF)) (WM d e.cs)
  (fP (p.1 !=(0:Int)) ([V.jJ [e.v]=[e.v]],.ret (.gV [.agg Ai,F p.1]) .nil 0) ([V.jJ [e.v]=[e.v]],eu (WM d e.cs))):=G.W
theorem atJ(d e:Dc):H (M ek []) [] 0 Tryz.f13 [2,4,7] (dU 1 (dA 8 yF)) (WM d e.cs)
  [([],[],eu (WM d (oW e gh)))]:=G.W
theorem atL(d e:Dc):H (M ek []) [] 0 Tryz.f13 [4,7,56,57,58] (dI gW2) (WM d (oW e gh))
  [([],[],eu (sX0 e (sG d 0)))]:=G.W
theorem ag7(d e:Dc):H (M ek []) [(59,.split)] 0 Tryz.f13 [4,7,56,57,58] (dU 2 bW2) (sX0 e (sG d 0))
  (fP (decide (Int.ofNat 0<Int.ofNat d.sp.length)) ([],eu (sX0 e (sG d 0))) ([],.to (.exit 2) (sX0 e (sG d 0)))):=G.W
theorem ag8(d e:Dc)(s:Sp):H (M ek []) [(60,.dG (.dS s.ds))] 0 Tryz.f13 [4,7,13,56,57,58] (dU 1 iW2) (sX0 e (sG d 0))
  [([],spA d.sp 0 s,.to .normal (Vn e s (sG d 0)))]:=G.W
theorem ag9(d e:Dc)(s:Sp):H (M ek []) [] 0 Tryz.f13 [4,7,13,56,57,58,62] (dI gW3) (Vn e s (sG d 0))
  [([],[],eu (Vn e s (sG d 0++[(62,L 0)])))]:=G.W
theorem aha(d e:Dc)(s:Sp)(j:Nat)(hj:j<3):H (M (fa 38 [fF (s.cv j)] (fF (s.cv j)) ek) []) [] 0 Tryz.f13 [4,7,13,56,57,58,62] (bW3) (Vn e s (sG d 0++[(62,L j)]))
  [([],[n3 j,V.jJ [fF (s.cv j)]=[fF (s.cv j)],n3 j],.to .normal (Vn e s (sG d 0++[(62,L (j+1))])))]:=by
 obtain rfl|rfl|rfl:j=0\/j=1\/j=2:=by omega
 all_goals exact G.W
theorem ahb(d e:Dc)(s:Sp):H (M ek []) [] 0 Tryz.f13 [4,7,13,56,57,58,62] (bW3) (Vn e s (sG d 0++[(62,L 3)]))
  [([],[],.to (.exit 4) (Vn e s (sG d 0++[(62,L 3)])))]:=G.W
theorem ahc(d e:Dc)(s:Sp):H (M ek []) [] 0 Tryz.f13 [4,7,56,57,58] (dA 2 iW2) (Vn e s (sG d 0++[(62,L 3)]))
  [([],[],eu (sXc e s (sG d 0)))]:=G.W
theorem ahd(d:Dc):H (M ek []) [] 0 Tryz.f13 [] (dA 10 yF) (sX0 e (sG d 0))
  [([],[],.ret (.gV [.agg (oW e gh),F 0]) .nil 0)]:=G.W
theorem ahe(d e:Dc)(m i:Nat)(ds:List Eng.D):H (M ek []) [(59,.split)] 0 Tryz.f13 [4,7,56,57,58] (dU 2 bW2) (Lq e m ds (sG d i))
  (fP (decide (Int.ofNat i<Int.ofNat d.sp.length)) ([],eu (Lq e m ds (sG d i))) ([],.to (.exit 2) (Lq e m ds (sG d i)))):=G.W
theorem ahf(d e:Dc)(m i:Nat)(ds:List Eng.D)(s:Sp):H (M ek []) [(60,.dG (.dS s.ds))] 0 Tryz.f13 [4,7,13,56,57,58] (dU 1 iW2) (Lq e m ds (sG d i))
  [([],spA d.sp i s,.to .normal (Vo e m ds s (sG d i)))]:=G.W
theorem ahg(d e:Dc)(m i:Nat)(ds:List Eng.D)(s:Sp):H (M ek []) [] 0 Tryz.f13 [4,7,13,56,57,58,62] (dI gW3) (Vo e m ds s (sG d i))
  [([],[],eu (Vo e m ds s (sG d i++[(62,L 0)])))]:=G.W
theorem ahh(d e:Dc)(m i:Nat)(ds:List Eng.D)(s:Sp)(j:Nat)(hj:j<3):H (M (fa 38 [fF (s.cv j)] (fF (s.cv j)) ek) []) [] 0 Tryz.f13 [4,7,13,56,57,58,62] (bW3) (Vo e m ds s (sG d i++[(62,L j)]))
  [([],[n3 j,V.jJ [fF (s.cv j)]=[fF (s.cv j)],n3 j],.to .normal (Vo e m ds s (sG d i++[(62,L (j+1))])))]:=by
 obtain rfl|rfl|rfl:j=0\/j=1\/j=2:=by omega
 all_goals exact G.W
theorem ahi(d e:Dc)(m i:Nat)(ds:List Eng.D)(s:Sp):H (M ek []) [] 0 Tryz.f13 [4,7,13,56,57,58,62] (bW3) (Vo e m ds s (sG d i++[(62,L 3)]))
  [([],[],.to (.exit 4) (Vo e m ds s (sG d i++[(62,L 3)])))]:=G.W
end
theorem ahj(d e:Dc)(m i:Nat)(ds:List Eng.D)(s:Sp):H (M ek []) [] 0 Tryz.f13 [4,7,56,57,58] (dA 2 iW2) (Vo e m ds s (sG d i++[(62,L 3)]))
  [([],[0+m*21<=ds.length,0<1,fJ (m+1) 21 216=true],eu (Lq e (m+1) (List.take (m*21) (List.drop 0 ds)++s.ds) (sG d i)))]:=G.W
theorem ahk(d e:Dc)(m i:Nat)(ds:List Eng.D):H (M ek []) [(80,.dG (L (i+1)))] 0 Tryz.f13 [4,7,56,57,58] (dA 3 bW2) (Lq e m ds (sG d i))
  [([],[oH i],eu (Lq e m ds (sG d (i+1))))]:=G.W
theorem ahl(d e:Dc)(m i:Nat)(ds:List Eng.D):H (M ek []) [] 0 Tryz.f13 [] (dA 10 yF) (Lq e m ds (sG d i))
  [([],[],.ret (.gV [.agg (oW e (.eZ (some (0,0)) m m 21)),F 0]) (hL [(0,.deep ds)]) 1)]:=G.W
set_option maxRecDepth 10000
def sWL(d:Dc)(y:eJ)(k:Nat):Nat->St
 |0=>sW0 d y k (Eg d 0)
 |i+1=>Lp d y k (i+1) (fD (d.ly.take (i+1))) (Eg d (i+1))
def sXL(e d:Dc):Nat->St
 |0=>sX0 e (sG d 0)
 |i+1=>Lq e (i+1) (jy (d.sp.take (i+1))) (sG d (i+1))
theorem Fb{l:List eJ}{i:Nat}(h:i<l.length):List.take (i*31) (List.drop 0 (fD (l.take i)))++(l.getD i gv).ds=fD (l.take (i+1)):=by
 have hl:(l.take i).length=i:=by rw[aW];omega
 rw[bx,cj (by rw[fE,hl];exact aK _),bY,getD_some gv h,BH];congr 1
theorem Fc{l:List Sp}{i:Nat}(h:i<l.length):List.take (i*21) (List.drop 0 (jy (l.take i)))++(l.getD i D8).ds=jy (l.take (i+1)):=by
 have hl:(l.take i).length=i:=by rw[aW];omega
 rw[bx,cj (by rw[mw,hl];exact aK _),bY,getD_some D8 h];unfold jy;rw[bM,List.flatten_append];congr 1
theorem Vp{l:List eJ}(h:0<l.length):(l.getD 0 gv).ds=fD (l.take 1):=by
 have:=Fb h;rwa [Nat.zero_mul,List.take_zero,bA]at this
theorem Vq{l:List Sp}(h:0<l.length):(l.getD 0 D8).ds=jy (l.take 1):=by
 have:=Fc h;rwa [Nat.zero_mul,List.take_zero,bA]at this
theorem Vr(d:Dc)(y:eJ)(k:Nat)(h:0<d.ly.length):sWL d y k d.ly.length=Lp d y k d.ly.length (fD d.ly) (Eg d d.ly.length):=by
 obtain⟨j,hj⟩:∃j,d.ly.length=j+1:=⟨d.ly.length-1,S⟩;have:sWL d y k (j+1)=Lp d y k (j+1) (fD (d.ly.take (j+1))) (Eg d (j+1)):=rfl;rw[<- hj,bn]at this;exact this
theorem Vs(e d:Dc)(h:0<d.sp.length):sXL e d d.sp.length=Lq e d.sp.length (jy d.sp) (sG d d.sp.length):=by
 obtain⟨j,hj⟩:∃j,d.sp.length=j+1:=⟨d.sp.length-1,S⟩;have:sXL e d (j+1)=Lq e (j+1) (jy (d.sp.take (j+1))) (sG d (j+1)):=rfl;rw[<- hj,bn]at this;exact this
theorem whC{s:Sp}(h:NH s)(j:Nat):dV ak 38 [fF (s.cv j)] (fF (s.cv j)):=by
 have N:(s.cv j).length<=1000000:=by
  match j with
  |0=>exact h.c0
  |1=>exact h.c1
  |_+2=>exact h.c2
 exact Mz _ _ (eK _) N
section
variable{d e:Dc}(hs:∀s∈d.sp,NH s)(hl:d.sp.length<=1000000)(h1:e.sp=d.sp)
include hs hl h1
theorem whT:TG ak 0 Tryz.f13.ntmps (dA 8 yF) (WM d e.cs) (fV ak 0 Tryz.f13 (rE (.gV [e.v,F 0]))):=by
 refine fH 1 (be _) (atJ d e) all_nil ?_;refine dM dD (dM dD (gk (be _) eI (atL d e) (dF (g0 ⟨all_nil,fun R dX=>?_⟩))));simp only[andThen];refine iz 2 d.sp.length (sXL e d) (fun _=>false) (ew.norm dX) (fun i hi _ Q' k1 k2 k3=>?_) (fun _ R dX=>?_)
 . have tc:∀i,i<d.sp.length->d.sp.getD i D8∈d.sp:=fun i q=>by
    rw[ax,au q];exact bJ q
   cases i with
   |zero=>
    refine jY 2 (be _) eI (ag7 d e) (dJ (g1 fun h=>⟨all_nil,?_⟩) (dF (g1 fun h=>⟨all_nil,fun R dX=>k2 (by have:=qZ h;omega) R (ew.norm dX)⟩)));have q:=j9 h;have hS:=GV q;have hC:=whC (hs _ (tc 0 q));have h0:=Vq q;have U:=k1 q rfl;have e1:sXL e d (0+1)=Lq e 1 (jy (d.sp.take 1)) (sG d 1):=rfl;rw[e1,<- h0]at U;generalize d.sp.getD 0 D8=s at *;refine dM dD (fL (i:=3) dD ?_);refine jY 1 (be _) eI (ag8 d e s) (dF (g0 ⟨hS,?_⟩));refine dM dD (dM dD (gk (be _) eI (ag9 d e s) (dF (g0 ⟨all_nil,fun R dX=>?_⟩))));simp only[andThen];refine iz 4 3 (fun j=>Vn e s (sG d 0++[(62,L j)])) (fun _=>false) (ew.norm dX) (fun j hj _ Q2 m1 m2 m3=>?_) (fun _ R dX=>?_)
    . rcases bj j 3 with r|r
      . exact gk (fk (hC j) (be _)) eI (aha d e s j r) (dF (g0 ⟨A (Dh r) (A rfl (eM (Dh r))),fun R dX=>m1 r rfl R (ew.norm dX)⟩))
      . obtain rfl:j=3:=by omega
        exact gk (be _) eI (ahb d e s) (dF (g0 ⟨all_nil,fun R dX=>m2 S R (ew.norm dX)⟩))
    simp only[andThen];refine dX _ _ (gk (be _) eI (ahc d e s) (dF (g0 ⟨all_nil,fun R dX=>?_⟩)));simp only[gZ,andThen];refine fQ dX (ew.deep [2] (dy:=Lq e 1 s.ds (sG d 0)) dD _ _ ?_);exact gk (be _) eI (ahk d e 1 0 s.ds) (dF (g0 ⟨eM (gK S),fun R dX=>U R (ew.norm dX)⟩))
   |succ i=>
    show TG _ _ _ _ (Lq e (i+1) (jy (d.sp.take (i+1))) (sG d (i+1))) _;refine jY 2 (be _) eI (ahe d e (i+1) (i+1) (jy (d.sp.take (i+1)))) (dJ (g1 fun h=>⟨all_nil,?_⟩) (dF (g1 fun h=>⟨all_nil,fun R dX=>k2 (by have:=qZ h;omega) R (ew.norm dX)⟩)));have q:=j9 h;have hS:=GV q;have hC:=whC (hs _ (tc (i+1) q));have h0:=Fc q;have jl:(jy (d.sp.take (i+1))).length=(i+1)*21:=by rw[mw,aW];congr 1;omega
    have U:=k1 q rfl;have e1:sXL e d (i+1+1)=Lq e (i+1+1) (jy (d.sp.take (i+1+1))) (sG d (i+1+1)):=rfl;rw[e1,<- h0]at U;generalize d.sp.getD (i+1) D8=s at *;generalize jy (d.sp.take (i+1))=ds at *;refine dM dD (fL (i:=3) dD ?_);refine jY 1 (be _) eI (ahf d e (i+1) (i+1) ds s) (dF (g0 ⟨hS,?_⟩));refine dM dD (dM dD (gk (be _) eI (ahg d e (i+1) (i+1) ds s) (dF (g0 ⟨all_nil,fun R dX=>?_⟩))));simp only[andThen];refine iz 4 3 (fun j=>Vo e (i+1) ds s (sG d (i+1)++[(62,L j)])) (fun _=>false) (ew.norm dX) (fun j hj _ Q2 m1 m2 m3=>?_) (fun _ R dX=>?_)
    . rcases bj j 3 with r|r
      . exact gk (fk (hC j) (be _)) eI (ahh d e (i+1) (i+1) ds s j r) (dF (g0 ⟨A (Dh r) (A rfl (eM (Dh r))),fun R dX=>m1 r rfl R (ew.norm dX)⟩))
      . obtain rfl:j=3:=by omega
        exact gk (be _) eI (ahi d e (i+1) (i+1) ds s) (dF (g0 ⟨all_nil,fun R dX=>m2 S R (ew.norm dX)⟩))
    simp only[andThen];refine dX _ _ (gk (be _) eI (ahj d e (i+1) (i+1) ds s) (dF (g0 ⟨A S (A Nat.zero_lt_one (eM (aT ⟨S,S⟩))),fun R dX=>?_⟩)));simp only[gZ,andThen];exact fQ dX (gk (be _) eI (ahk d e (i+1+1) (i+1) _) (dF (g0 ⟨eM (gK S),fun R dX=>U R (ew.norm dX)⟩)))
 simp only[andThen];refine dX _ _ ?_;rcases cH d.sp.length with h0|h0
 . have e2:e.sp=[]:=by rw[h1];exact List.eq_nil_of_length_eq_zero h0
   rw[h0];refine eR (be _) (ahd e d) (dF (g0 ⟨all_nil,_,_,_,rfl,rE.self dD ?_⟩));unfold Dc.v Dc.cs;rw[e2];rfl
 . rw[Vs e d h0];refine eR (be _) (ahl d e _ _ _) (dF (g0 ⟨all_nil,_,_,_,rfl,?_⟩));unfold Dc.v Dc.cs;rw[h1];exact rE.Bi (v0:=.gV [.agg [.eE false d.sp.length (jy d.sp),F e.root,F e.nx,.eE false e.ly.length (fD e.ly)],F 0]) [0] (fm:=[(jy d.sp).length=d.sp.length*21]) dD (eM (mw _)) dD dD
end
theorem aho{d:Dc}(hd:BF d)(y:eJ)(hy:uq y)(Ca:d.sp.length<=1000000)(hC:∀n,jK d.ly y.id=some n->dV ak 16 [(kR d n y).v] (.gV [F (gS (kR d n y)).1,F (gS (kR d n y)).2])):
  dV ak 13 [d.v,y.v] (.gV [(MG d y).1.v,F (MG d y).2]):=by
 have hI:=agI d hd.m y;have hl:=hd.m.ly;unfold MG;unfold xl at hI;cases hn:jK d.ly y.id with
 |none=>
  rw[hn]at hI;exact(fc (v:=.gV [.agg Ai,F 40]) Tryz.func13 (eR (fN hI (be _)) (atH d y) (dF (g0 ⟨A rfl (A rfl (eM rfl)),_,_,_,rfl,rfl⟩)))).nl
 |some n=>
  rw[hn]at hI;obtain⟨eY,_,_⟩:=jv hn;have hC:=hC n hn;have jl:=Dz d n y;have oK:nC (fD d.ly) (0+n*31) y.ds=fD (kR d n y).ly:=GU eY y;have hO:=aaO y hy;simp only;refine mJ Tryz.func13 (fH 3 (fN hI (be _)) (atI d y n) (A rfl (A rfl (A rfl (eM (aI V.bool (aV (by simp only[gB];omega))))))) ?_);refine fH 2 (be _) (Y3 d y n) all_nil ?_;refine dM dD (dM dD (gk (be _) eI (Y4 d y n) (dF (g0 ⟨all_nil,fun R dX=>?_⟩))));simp only[andThen];refine iz 0 d.ly.length (sWL d y n) (fun _=>false) (ew.norm dX) (fun i hi _ Q' k1 k2 k3=>?_) (fun _ R dX=>?_)
  . cases i with
    |zero=>
     have q:0<d.ly.length:=by omega
     refine jY 2 (be _) eI (Y5 d y n) (dF (g0 ⟨eM (aI V.bool (aT (by simp only[gB];omega))),?_⟩));have hA:=GW q;have h0:=Vp q;have hX:=aaO _ (hd.at 0);change dV ak 37 [(d.ly.getD 0 gv).v] (d.ly.getD 0 gv).v at hX;have U:=k1 q rfl;have e1:sWL d y n (0+1)=Lp d y n 1 (fD (d.ly.take 1)) (Eg d 1):=rfl;rw[e1,<- h0]at U;generalize d.ly.getD 0 gv=x at *;refine jY 1 (fk hX (be _)) eI (Y7 d y n x) (dF (g0 ⟨l7 hA (eM rfl),?_⟩));refine ew.deep [4] (dy:=Lp d y n 1 x.ds (Eg d 0)) dD _ _ ?_;exact gk (be _) eI (Uc d y n 1 0 x.ds) (dF (g0 ⟨eM (gK S),fun R dX=>U R (ew.norm dX)⟩))
    |succ i=>
     show TG _ _ _ _ (Lp d y n (i+1) (fD (d.ly.take (i+1))) (Eg d (i+1))) _;refine jY 2 (be _) eI (Y6 d y n (i+1) (i+1) (fD (d.ly.take (i+1)))) (dJ (g1 fun h=>⟨all_nil,?_⟩) (dF (g1 fun h=>⟨all_nil,fun R dX=>k2 (by have:=qZ h;omega) R (ew.norm dX)⟩)));have q:=j9 h;have hA:=GW q;have h0:=Fb q;have hX:=aaO _ (hd.at (i+1));change dV ak 37 [(d.ly.getD (i+1) gv).v] (d.ly.getD (i+1) gv).v at hX;have avX:(fD (d.ly.take (i+1))).length=(i+1)*31:=by rw[fE,aW];congr 1;omega
     have U:=k1 q rfl;have e1:sWL d y n (i+1+1)=Lp d y n (i+1+1) (fD (d.ly.take (i+1+1))) (Eg d (i+1+1)):=rfl;rw[e1,<- h0]at U;generalize d.ly.getD (i+1) gv=x at *;generalize fD (d.ly.take (i+1))=ds at *;refine jY 1 (fk hX (be _)) eI (Y8 d y n (i+1) (i+1) x ds) (dF (g0 ⟨l7 hA (A rfl (A S (A Nat.zero_lt_one (eM (aT ⟨S,S⟩))))),?_⟩));exact gk (be _) eI (Uc d y n (i+1+1) (i+1) _) (dF (g0 ⟨eM (gK S),fun R dX=>U R (ew.norm dX)⟩))
  simp only[andThen];refine dX _ _ ?_;rw[Vr d y n S];refine fH 1 (fk hO (be _)) (Y9 d y n _ _ _) (A rfl (A (iT eY) (eM (by rw[fE];omega)))) ?_;rw[oK,<- jl];have vt:∀e:Dc,e.sp=d.sp->e.root=d.root->e.nx=d.nx->ew ak 0 Tryz.f13.ntmps (sWd d e.ly.length (fD e.ly)) (WM d e.cs):=fun e h1 C h3=>by
   unfold sWd WM Dc.cs;rw[h1,C,h3];exact ew.DJ [3] [2,4,7] (fm:=[(fD e.ly).length=e.ly.length*31]) dD (eM (fE _))
  refine vt (kR d n y) rfl rfl rfl _ _ ?_;have hT:=whT (e:=kR d n y) hd.s Ca rfl;generalize kR d n y=e at *;generalize gS e=p at *;refine jY 1 (fk hC (be _)) (rE (.gV [(if p.1=0 then(e,0)else(dZ,p.1)).1.v,F (if p.1=0 then(e,0)else(dZ,p.1)).2])) (Za d e p) (dJ (g1 fun h=>⟨eM rfl,?_,fun _ h=>h⟩) (dF (g1 fun h=>⟨eM rfl,?_⟩)))
  . rw[aA (by simpa using h)];exact rE.self dD rfl
  . rw[aD (by simpa using h)];exact hT
set_option maxRecDepth 10000
noncomputable def csN:lS:=fun _ _ _ _=>none
theorem aa6:tv csN BP:=fun _ _ _ _ l e=>by cases e
theorem MH{c:Code}{s s1:St}{m m1:Eng.Mode}{r:Option (n0×St×Eng.Mode)}(hs:qf c=true)(h1:ku ak BP 20 (dI c) s m=some (.normal,s1,m1))(C:ku ak BP 20 (dY c) s1 m1=r):ku ak BP 20 c s m=r:=by
 cases c<;>try (simp only[qf,aM]at hs;done)
 rename_i a b;change ku ak BP 20 a s m=_ at h1;change ku ak BP 20 b s1 m1=_ at C;simp only[ku,h1,C]
theorem Sr{t:Operand}{a b:Code}{s:St}{m:Eng.Mode}(h:jc s.T t=some (.bool true)):ku ak BP 20 (.cond t a b) s m=ku ak BP 20 a s m:=by simp only[ku,h]
theorem Ss{c:Code}{s R:St}{m:Eng.Mode}{x:n0}(h:(match c with | .region _ _ d=>d|_=>false)=true)(e:gH ak BP 20 c s=some (x,R)):ku ak BP 20 c s m=some (x,R,m):=by
 cases c<;>try (cases h;done)
 simp only at h;subst h;simp only[ku,e]
def mdN:Eng.Mode->Eng.Mode
 | .lU _ true=>.ret
 |m=>m
theorem Lr{fn gn:Func}{code:Code}{g:FuncId}{c args:ag}{ds:List (FuncId×ag×ag)}{T:I V}{h:I es}{n:Nat}{m m':Eng.Mode}{R:St}(hg:Tryz.prog.funcs[g]? =some gn)(Y:gn.body=some code)(hl:Nat.ble gy g=false)(N:(callee ak g&&(Nat.ble (args++c).length gn.ntmps&&Nat.blt gn.ntmps gy))=true)
  (e:ku ak BP 20 code { T:=kZ (args++c) 0 .nil,h:=h,n:=n,iE:=[] } m=some (.normal,R,m')) (hd:R.iE=[]) (hr:(kL ak R.T R.h gn.results.toList).isSome=true):
  k8 ak BP 20 fn T ((g,c,args)::ds) m h n=k8 ak BP 20 fn T ds (mdN m') R.h R.n:=by
 simp only[ay]at N;have h1:¬gy<=g:=fun q=>by rw[Nat.ble_eq_true_of_le q]at hl;cases hl
 have h3:gn.ntmps<gy:=aE N.2.2
 conv=>lhs;unfold k8
 rw[aA h1];simp only[hg,Y];rw[aD ⟨N.1,aE N.2.1,h3⟩];simp only[e,hd];obtain⟨vs,hv⟩:=bI.1 hr;rw[hv];rcases m' with _|⟨v,_|_⟩<;>rfl
noncomputable def Oa(d:Dc):St:=match toC 1 (dL Tryz.f16) (dB [d.v] .nil 0)with
 |some s=>s
 |none=>dB [] .nil 0
def opN:Oper:={ dst:=none,op:=.nilCheck (.tmp 0),type:=0,pos:= "",after:=#[],guard:=none }
noncomputable def opZ:Oper:=match lI 1 (dI (dA 2 (dL Tryz.f16)))with
 |o::_=>o
 | []=>opN
noncomputable abbrev c41:Code:=dL Tryz.f41
abbrev a41:ag:=[.ptr (some (1,0)),.ptr (some (2,0))]
noncomputable def s41(d:Dc):St:={ T:=kZ ([]++a41) 0 .nil,h:=(Oa d).h,n:=(Oa d).n,iE:=[] }
noncomputable def e41(c:Code)(s:St)(m:Eng.Mode):St:=match ku ak BP 20 c s m with
 |some (_,s,_)=>s
 |none=>s
noncomputable def ahp(d:Dc)(p:Int×Int):St:=e41 (dI c41) (s41 d) (.lU (xx p) false)
noncomputable def Oc(d:Dc)(p:Int×Int):St:=e41 (dI (dY c41)) (ahp d p) (.lU (xx p) true)
noncomputable abbrev r41:Code:=lF (dY (dY c41))
noncomputable def q41(d:Dc)(p:Int×Int):sK×n0×St:=match kz ak csN [] 20 r41 (Oc d p)with
 |some [q]=>q
 |_=>(.nil,.normal,Oc d p)
theorem aa7(d:Dc)(p:Int×Int):kz ak csN [] 20 r41 (Oc d p)=some [q41 d p]:=by kernel_rfl
theorem Vt{l:List (V×V)}(h:l.map Prod.fst=l.map Prod.snd):∀c∈l,c.1=c.2:=by
 induction l with
 |nil=>intro c N;cases N
 |cons x l ih=>
  simp only[bQ,List.cons.injEq]at h;intro c N;rcases az.1 N with rfl|N
  . exact h.1
  . exact ih h.2 c N
theorem x41(d:Dc)(p:Int×Int):gH ak BP 20 r41 (Oc d p)=some (.normal,(q41 d p).2.2):=by
 have h:=(jN ak csN BP [] aa6 20 r41 (Oc d p) _ (aa7 d p)).2 _ (aG.2 rfl);have h1:(q41 d p).1.conds=[]:=by kernel_rfl
 have C:(q41 d p).1.same.map Prod.fst=(q41 d p).1.same.map Prod.snd:=by kernel_rfl
 have h3:(q41 d p).1.Om=[]:=by kernel_rfl
 have h4:(q41 d p).2.1= .normal:=by kernel_rfl
 have h:=h (fun c N=>by rw[h1]at N;cases N) ⟨Vt C,fun a ha=>by rw[h3]at ha;cases ha⟩;rw[h,<- h4]
theorem d41(d:Dc)(p:Int×Int):ku ak BP 20 c41 (s41 d) (.lU (xx p) false)=some (.normal,(q41 d p).2.2,.lU (xx p) true):=by
 have N:dY (dY c41)= .cond (.tmp 9) r41 (oy (dY (dY c41))):=by kernel_rfl
 refine MH dD (s1:=ahp d p) (m1:=.lU (xx p) true) dD (MH dD (s1:=Oc d p) (m1:=.lU (xx p) true) dD ?_);rw[N,Sr dD];exact Ss dD (x41 d p)
theorem ahq(d:Dc)(p:Int×Int):NT ak 0 Tryz.f16 (Oa d) (.lU (xx p) false)=some (.ret (.gV [F p.1,F p.2]),.nil,0):=by
 have e:k8 ak BP 20 Tryz.f16 (Oa d).T (Oa d).iE (.lU (xx p) false) (Oa d).h (Oa d).n=some (.ret (.gV [F p.1,F p.2]),(q41 d p).2.2.h,(q41 d p).2.2.n):=by
  rw[show(Oa d).iE=[(41,a41,[])]from by kernel_rfl,Lr (gn:=Tryz.f41) (code:=c41) Tryz.func41 dD dD dD (d41 d p) dD dD];kernel_rfl
 unfold NT;change (match k8 ak BP 20 Tryz.f16 (Oa d).T (Oa d).iE (.lU (xx p) false) (Oa d).h (Oa d).n with
  |some (o,h,n)=>_
  |none=>none)=_
 rw[e];kernel_rfl
theorem Su{d:Dc}(h:(gS d).1=0):gS d=(0,0):=by
 have h:=KS h;unfold gS;rw[aD h.w,gL (f:=KK d) fun j hj=>by unfold KK;rw[h.f _ (tK hj)];rfl];simp only;rw[gL (f:=BE d) fun j hj=>by unfold BE;rw[h.k _ (tK hj)];rfl];simp only;rw[gL (f:=Ae d) fun j hj=>h.c _ (tK hj)];simp only;rw[gL (f:=NI d) fun j hj=>h.a _ (tK hj)];simp only;rw[aA (by have:=h.g;omega)]
section
variable{d:Dc}(hd:BF d)(Y:∀x∈d.ly,x.kd≠3->ur x.f)
include hd Y
theorem Sv:dV ak 16 [d.v] (.gV [F (gS d).1,F (gS d).2]):=by
 by_cases h0:(gS d).1=0
 . rw[Su h0];refine Mc (o:=.ret (.gV [F 0,F 0])) mo po Tryz.func16 (code:=dL Tryz.f16) dD dD dD rfl ?_;have hO:=R5 hd Y h0;generalize sM d=O at *;exact U6 (fm:=[[d.v]=[d.v],(I.nil:I es)=I.nil,(0:Nat)=0]) (o1:=.ret (.gV [F 0,F 0])) (h:=.nil) (n:=0) (k:=1) hO dD (A rfl (A rfl (eM rfl))) rfl
 . refine Mc (o:=.ret (.gV [F (gS d).1,F (gS d).2])) mo po Tryz.func16 (code:=dL Tryz.f16) dD dD dD rfl ?_;have hO:=N3 hd Y h0;generalize gS d=p at *;refine R7 (X:=0) (k:=1) (s2:=Oa d) dD ?_ dD;exact BJ (o:=opZ) (rest:=[]) (Jm (hc:=Tryz.f16.ntmps) (c:=dL Tryz.f16) (k:=1) dD) dD (f:=42) (args:=[d.v]) dD (Gy dD hO) rfl (eM rfl) rfl fun ch GK=>G6.Du GK (ahq d p) rfl
end
set_option maxRecDepth 10000
noncomputable abbrev Od:Code:=dL Tryz.f3
noncomputable abbrev gDw:Code:=dI (dA 8 Od)
noncomputable abbrev bDw:Code:=dK (dK (dY gDw))
noncomputable abbrev iDw:Code:=dK (dI (dA 1 bDw))
def yX(x f g:eJ):Nat->eJ
 |0=>x
 |1=>f
 |_=>g
def idY(d:Dc)(f:eJ):eJ:={ f with id:=xE f.id (IntKind.i64.wrap (d.nx+1)) }
def GX(d:Dc)(x f g:eJ)(r:List (Nat×V))(q:af)(n:Nat):St:=fB ([(5,.bool true),(6,.ptr (some (0,0))),(9,.ptr (some (1,0)))]++r) (hL ([(0,.cells d.cs),(1,.cells (x.cs++(f.cs++g.cs)))]++q)) n
theorem atO(xs:List Int)(la fi v:Int)(iN f:eJ)(d e:Dc)(x:eJ):H (M (rsW (fa 9 [iN.v] f.v (fa 10 [fF xs] d.v (fa 11 [d.v,.agg (v7 la fi v f)] e.v (LK mTz))))) []) [(44,.dG (.dS x.ds))] 0 Tryz.f3 [5,6,9] (dU 8 Od) (dB [fF xs,.agg (v7 la fi v iN)] .nil 0)
  [([],[V.jJ [iN.v]=[iN.v],V.jJ [fF xs]=[fF xs],V.jJ [d.v,.agg (v7 la fi v f)]=[d.v,.agg (v7 la fi v f)],IntKind.i64.wrap (d.nx+1)≠0,Int.ofNat e.ly.length≠0,0<=xE la (Int.ofNat e.ly.length)/\xE la (Int.ofNat e.ly.length)<Int.ofNat e.ly.length,nE e.ly,V.dS (dO (fD e.ly) ((xE la (Int.ofNat e.ly.length)).toNat*31) 31)=V.dS x.ds],eu (GX d x f (idY d f) [] [] 2))]:=G.W
theorem atP(d:Dc)(x f g:eJ):H (M ek []) [] 0 Tryz.f3 [5,6,9,10] (dI gDw) (GX d x f g [] [] 2)
  [([],[],eu (GX d x f g [(10,L 0)] [] 2))]:=G.W
theorem atQ(d:Dc)(x f g:eJ)(i:Nat)(hi:i<3):H (M ek []) [] 0 Tryz.f3 [5,6,9,10] (dU 1 bDw) (GX d x f g [(10,L i)] [] 2)
  [([],[],.to .normal (GX d x f g [(10,L i)] [] 2))]:=by
 obtain rfl|rfl|rfl:i=0\/i=1\/i=2:=by omega
 all_goals exact G.W
theorem atS(d:Dc)(x f g:eJ):H (M ek []) [] 0 Tryz.f3 [5,6,9,10] (dU 1 bDw) (GX d x f g [(10,L 3)] [] 2)
  [([],[],.to (.exit 0) (GX d x f g [(10,L 3)] [] 2))]:=G.W
theorem atT(d:Dc)(x f g:eJ)(i:Nat)(hi:i<3)(w:Dc)(q:Int):H (M (fa 13 [d.v,(yX x f g i).v] (.gV [w.v,F q]) (fa 14 [d.v,(yX x f g i).v] (.agg (w.cs++[F q])) ek)) []) [] 0 Tryz.f3 [5,6,9,10,11,12,13] (dU 2 iDw) (GX d x f g [(10,L i)] [] 2)
  [([],[(0:Int)<=Int.ofNat i/\Int.ofNat i<3,V.jJ [d.v,(yX x f g i).v]=[d.v,(yX x f g i).v],(0:Int)<=Int.ofNat i/\Int.ofNat i<3,V.jJ [d.v,(yX x f g i).v]=[d.v,(yX x f g i).v]],.to .normal (GX d x f g [(10,L i),(11,.ptr (some (2,0))),(12,F q),(13,.ptr (some (3,0)))] [(2,.cells w.cs),(3,.cells (w.cs++[F q]))] 4))]:=by
 obtain rfl|rfl|rfl:i=0\/i=1\/i=2:=by omega
 all_goals exact G.W
theorem atV(d:Dc)(x f g:eJ)(i:Nat)(w:Dc)(q:Int):H (M (fa 15 [w.v,w.v] (.bool true) ek) []) [(70,.dG (.bool false))] 0 Tryz.f3 [5,6,9,10,11,12] (dU 1 (dA 2 iDw)) (GX d x f g [(10,L i),(11,.ptr (some (2,0))),(12,F q),(13,.ptr (some (3,0)))] [(2,.cells w.cs),(3,.cells (w.cs++[F q]))] 4)
  [([],[lu (q !=q),V.jJ [w.v,w.v]=[w.v,w.v]],eu (GX d x f g [(10,L i),(11,.ptr (some (2,0))),(12,F q)] [(2,.cells w.cs)] 3))]:=G.W
theorem atW(d:Dc)(x f g:eJ)(i:Nat)(w:Dc)(q:Int)(p:Int×Int):H (M (fa 16 [w.v] (.gV [F p.1,F p.2]) ek) []) [(84,.split),(87,.dG (.bool false))] 0 Tryz.f3 [5,6,9,10] (dA 3 iDw) (GX d x f g [(10,L i),(11,.ptr (some (2,0))),(12,F q)] [(2,.cells w.cs)] 3)
  (fP (q==(0:Int)) ([V.jJ [w.v]=[w.v],lu (p.1 !=(0:Int))],eu (GX d x f g [(10,L i)] [] 2)) ([V.jJ [w.v]=[w.v]],eu (GX d x f g [(10,L i)] [] 2))):=G.W
theorem atX(d:Dc)(x f g:eJ)(i:Nat)(hi:i<3):H (M ek []) [] 0 Tryz.f3 [5,6,9,10] (dA 2 bDw) (GX d x f g [(10,L i)] [] 2)
  [([],[],.to .normal (GX d x f g [(10,L (i+1))] [] 2))]:=by
 obtain rfl|rfl|rfl:i=0\/i=1\/i=2:=by omega
 all_goals exact G.W
theorem atY(d:Dc)(x f g:eJ):H (M ek []) [] 0 Tryz.f3 [] (dA 9 Od) (GX d x f g [(10,L 3)] [] 2)
  [([],[],.ret (.bool true) .nil 0)]:=G.W
set_option maxRecDepth 10000
theorem BS{d:Dc}(hd:WI d)(n:Nat){y:eJ}(hy:uq y)(Y:ur y.f):BF (kR d n y)/\∀x∈(kR d n y).ly,ur x.f:=by
 have fm:∀x∈(kR d n y).ly,uq x/\ur x.f:=fun x J=>by
  rcases MC J with rfl|J
  . exact⟨hy,Y⟩
  . exact⟨(hd.y x J).y,(hd.y x J).f⟩
 refine⟨⟨⟨?_,fun x J=>(fm x J).1.kids⟩,hd.s,fun x J=>(fm x J).1⟩,fun x J=>(fm x J).2⟩;have:=hd.l40;rw[Dz];omega
theorem WN:BF dZ/\∀x∈dZ.ly,ur x.f:=⟨⟨⟨aN _,fun x J=>(by cases J)⟩,fun x J=>(by cases J),fun x J=>(by cases J)⟩,fun x J=>(by cases J)⟩
theorem ahs{d:Dc}(hd:WI d){y:eJ}(hy:uq y)(Y:ur y.f):(BF (MG d y).1/\∀x∈(MG d y).1.ly,ur x.f)/\(MG d y).1.sp.length<=1000000/\((MG d y).2=0->(gS (MG d y).1).1=0):=by
 have Ca:=hd.sp;unfold MG;cases jK d.ly y.id with
 |none=>exact⟨WN,aN _,fun h=>absurd (show(40:Int)=0 from h) eX⟩
 |some n=>
  simp only;by_cases h:(gS (kR d n y)).1=0
  . rw[aD h];exact⟨BS hd n hy Y,(by show d.sp.length<=_;omega),fun _=>h⟩
  . rw[aA h];exact⟨WN,aN _,fun q=>absurd q h⟩
theorem lwT{xs:List Int}{la fi v:Int}{iN:eJ}{d e:Dc}(hd:WI d)(n1:1<=d.nx)(n2:d.nx<=1048576)(he:0<e.ly.length/\e.ly.length<=1000)(hy:∀x∈e.ly,uq x/\ur x.f)(hf:uq (rA iN)/\ur (rA iN).f)
  (K:dV ak 10 [fF xs] d.v) (N:dV ak 11 [d.v,.agg (v7 la fi v (rA iN))] e.v):
  TG ak 0 Tryz.f3.ntmps Od (dB [fF xs,.agg (v7 la fi v iN)] .nil 0) (fV ak 0 Tryz.f3 fun u _ _=>u= .bool true):=by
 have r1:=Dy la (n:=Int.ofNat e.ly.length) (by simp only[gB];omega) (by simp only[gB];omega);have U:(xE la (Int.ofNat e.ly.length)).toNat<e.ly.length:=by simp only[gB]at r1 ⊢;omega
 have hg:V.dS (dO (fD e.ly) ((xE la (Int.ofNat e.ly.length)).toNat*31) 31)=V.dS (e.at (xE la (Int.ofNat e.ly.length)).toNat).ds:=iu U;have J:=hy _ (tK U);have hfw:=agJ iN;refine fH 8 (GS (fk hfw (fk K (fk N aaM)))) (atO xs la fi v iN (rA iN) d e (e.at (xE la (Int.ofNat e.ly.length)).toNat)) (A rfl (A rfl (A rfl (A ?_ (A ?_ (A r1 (A (fE _) (eM hg)))))))) ?_
 . rw[ij S S];omega
 . simp only[gB];omega
 have T8:∀i,uq (yX (e.at (xE la (Int.ofNat e.ly.length)).toNat) (rA iN) (idY d (rA iN)) i)/\ur (yX (e.at (xE la (Int.ofNat e.ly.length)).toNat) (rA iN) (idY d (rA iN)) i).f:=fun i=>by
  unfold yX;split
  . exact J
  . exact hf
  . obtain⟨⟨y1,y2,y3,y4,y5,y6,y7⟩,Y⟩:=hf;exact⟨⟨y1,y2,y3,y4,y5,y6,y7⟩,Y⟩
 generalize e.at (xE la (Int.ofNat e.ly.length)).toNat=x at T8 ⊢;generalize idY d (rA iN)=g at T8 ⊢;generalize rA iN=f at T8 ⊢;refine dM dD (dM dD (gk (be _) eI (atP d x f g) (dF (g0 ⟨all_nil,fun R dX=>?_⟩))));simp only[andThen];refine iz 0 3 (fun i=>GX d x f g [(10,L i)] [] 2) (fun _=>false) (ew.norm dX) (fun i hi _ Q' k1 k2 k3=>?_) (fun _ R dX=>?_)
 rotate_left
 . simp only[andThen];exact dX _ _ (eR (be _) (atY d x f g) (dF (g0 ⟨all_nil,_,_,_,rfl,rfl⟩)))
 rcases bj i 3 with q|q
 . obtain⟨oV,Lx⟩:=T8 i;obtain⟨⟨ws,wb⟩,wsp,w0⟩:=ahs hd oV Lx;have h13:=aho (WK hd).1 _ oV (by have:=hd.sp;omega) fun n _=>Sv (BS hd n oV Lx).1 fun x J _=>(BS hd n oV Lx).2 x J;have h14:=rwD (WK hd).1 _ fun n _=>(BS hd n oV Lx).1;have h15:=aa3 _ ws wsp;have h16:=Sv ws fun x J _=>wb x J;generalize (MG d (yX x f g i)).1=w at *;generalize (MG d (yX x f g i)).2=z at *;refine jY 1 (be _) eI (atQ d x f g i q) (dF (g0 ⟨all_nil,?_⟩));refine dM dD (fL (i:=1) dD ?_);have hi3:(0:Int)<=Int.ofNat i/\Int.ofNat i<3:=⟨bO _,cB.2 q⟩;refine jY 2 (fk h13 (fk h14 (be _))) eI (atT d x f g i q w z) (dF (g0 ⟨A hi3 (A rfl (A hi3 (eM rfl))),?_⟩));refine jY 1 (fk h15 (be _)) eI (atV d x f g i w z) (dF (g0 ⟨A (Vl _) (eM rfl),?_⟩));have pX:∀R,ld 0 [5,6,9,10] R=some (GX d x f g [(10,L i)] [] 2)->gZ 1 (andThen (fun R=>TG ak 0 Tryz.f3.ntmps (dA 2 bDw) R Q') Q') .normal R:=fun R dX=>by
    simp only[gZ,andThen];exact fQ dX (gk (be _) eI (atX d x f g i q) (dF (g0 ⟨all_nil,fun R dX=>k1 q rfl R (ew.norm dX)⟩)))
   refine gk (fk h16 (be _)) eI (atW d x f g i w z (gS w)) (dJ (g1 fun h=>⟨A rfl (eM ?_),fun R dX=>pX R dX⟩) (dF (g1 fun h=>⟨eM rfl,fun R dX=>pX R dX⟩)));rw[w0 (by simpa using h)];rfl
 . obtain rfl:i=3:=by omega
   exact jY 1 (be _) eI (atS d x f g) (dF (g0 ⟨all_nil,fun R dX=>k2 S R (ew.norm dX)⟩))
theorem aa8(l:eJ):uq (rA l):=by
 have t:∀{α:Type} (k m:Nat) (x:List α),k<=m->(x.take k).length<=m:=fun k m x h=>by rw[aW];omega
 exact⟨t 20 _ _ eX,t 6 _ _ eX,t 30 _ _ eX,t 30 _ _ eX,t 70 _ _ eX,t 3 _ _ eX,t 3 _ _ eX⟩
theorem ahu(xs:List Int)(la fi v:Int)(iN:eJ)(Y:ur iN.f):TG ak 0 Tryz.f3.ntmps Od (dB [fF xs,.agg (v7 la fi v iN)] .nil 0) (fV ak 0 Tryz.f3 fun u _ _=>u= .bool true):=by
 obtain⟨h1,C⟩:=Rm xs 8;have hd:=agL h1 C;have hf:uq (rA iN)/\ur (rA iN).f:=⟨aa8 iN,Y.k,Y.r,Y.dv,Y.vl⟩;have hr:gdR (rA iN):=⟨hf.1.gp,hf.2⟩;have N:=agN hd la fi v hr;have hl:(WH (vh xs 8) la fi v (rA iN)).ly.length=(vh xs 8).ly.length:=List.length_set;have h3:=hd.l0;have h4:=hd.l40;exact lwT (la:=la) (v:=v) hd C.nx1 C.nx2 (e:=WH (vh xs 8) la fi v (rA iN)) ⟨S,S⟩ (fun x J=>⟨N.1.y x J,N.2 x J⟩) hf (aaN xs) (Sj hd la fi v (rA iN))
end Go.Proofs.YtmjggdmekboefaaGreat.Q
