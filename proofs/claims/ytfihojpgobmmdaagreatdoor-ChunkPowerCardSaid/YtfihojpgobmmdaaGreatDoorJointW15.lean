/- Lemmas on the chunk store. No conditions. -/
import Derived.Test.YtfihojpgobmmdaaGreatDoorJointW13
import Derived.Test.YtfihojpgobmmdaaGreatDoorJointW14
set_option linter.unusedVariables false
set_option linter.unusedSimpArgs false
set_option linter.unusedSectionVars false
set_option maxRecDepth 20000
namespace Go.Proofs.YtfihojpgobmmdaaGreatDoor
open Go Go.Eng
section
variable(g b:Nat){f:FuncId}(p:gx){args:ag}(l:List RS){ot:ag}(s:RS){ns:List (Option Nat)}(m i:Nat)
def pz:gx:=⟨none,p.F,p.R,p.off,p.arm,p.D,p.C,p.O⟩
def pc(n k:Nat)(b:B):gx:=⟨some (n,k,b),p.F,p.R,p.off,p.arm,p.D,p.C,p.O⟩
def sh:Nat:=match p.lo with|none=>0|some _=>1
def lgB(g:Nat)(p:gx):af:=match p.lo with|none=>[]|some (_,_,b)=>[(g,.ia 5 false b)]
def ah9(c r a:Nat)(p:gx)(m:Nat)(nx:ai):af:=
 [(0,.ints .u32 gS),(1,.ints .u32 gR),(3,.cells [.ptr (some (4,0)),.dx (some (a,0)) m m 2]),(4,.cells (vW g c r p))]++lgB g p++[(c,.dy none p.C),(r,.dy none p.O),(a,.deep nx)]
abbrev moG(c r a:Nat)(p:gx)(l:List RS):af:=ah9 g c r a p l.length (fN l)
abbrev B2:af:=moG b (b+sh p) (b+1+sh p) 8 p l
abbrev moA:af:=moG b (b+sh p) (b+1+sh p) (b+2+sh p) p l
abbrev ZH(nx:ai):af:=ah9 b (b+sh p) (b+1+sh p) (b+2+sh p) p m nx
abbrev fK:af:=moG 5 6 7 8 p l
abbrev tw:af:=moA 9 p l
abbrev nR:Nat:=12+sh p
theorem qw{l l1:af}{mO h2:H rs}{n n2 Jk:Nat}{v v1:V}(J:c5 ak f ot (K l1) ns.length v1 mO Jk)
  (e:((l1.all fun q=>Nat.blt q.1 fW),(kf.all fun p=>decide (ns.getD p.2 none=some p.2)),nQ ns,(ns.all fun x=>match x with|none=>true|some m=>(kf.any fun p=>decide (p.2=m))||((K l).get m).isSome),Te ns l l1,V.Ey (mu ns) args,EU ns (K l1) (v1,mO,Jk) (K l) n)=(true,true,true,true,l1.map (fun q=>some q.2),some ot,some (v,h2,n2))):
  c5 ak f args (K l) n v h2 n2:=by
 simp only[aB]at e;obtain⟨e1,e2,e3,e4,e5,e6,e7⟩:=e;exact gk (jQ e1 e2 e3 e4 e5) e6 e7 J
theorem uR{l l1:af}{mO h2:H rs}{n n2 Jk:Nat}{v v1:V}(J:c5 ak f ot (K l1) ns.length v1 mO Jk)(lo:Nat)
  (e:((l1.all fun q=>Nat.blt q.1 fW),(kf.all fun p=>decide (ns.getD p.2 none=some p.2)),nQ ns,(ns.all fun x=>match x with|none=>true|some m=>(kf.any fun p=>decide (p.2=m))||((K l).get m).isSome),Te ns l l1,V.Ey (mu ns) args,(EU ns (K l1) (v1,mO,Jk) (K l) n).bind fun x=>JS n lo [0] (JU x.1 x.2.1 x.2.2))=(true,true,true,true,l1.map (fun q=>some q.2),some ot,some (JU v h2 n2))):
  c5 ak f args (K l) n v h2 n2:=by
 simp only[aB]at e;obtain⟨e1,e2,e3,e4,e5,e6,e7⟩:=e;cases e0:EU ns (K l1) (v1,mO,Jk) (K l) n with
 |none=>rw[e0]at e7;cases e7
 |some x=>
  obtain⟨v3,h3,n3⟩:=x;rw[e0]at e7;exact(gk (jQ e1 e2 e3 e4 e5) e6 e0 J).Af lo e7
def XA:Option Nat:=match p.lo with|none=>none|some _=>some g
def XB(c r a:Nat)(p:gx):List (Option Nat):=[some 0,some 1,some 2,some 3,some 4,XA g p,some c,some r,some a]
abbrev Vf:List (Option Nat):=XB 5 6 7 8 p
abbrev nsA:List (Option Nat):=XB b (b+sh p) (b+1+sh p) (b+2+sh p) p
def Vg:List (Option Nat):=[some 0,some 1,some 2,some 4,XA 5 p,some 6,some 7]
theorem aqq(s:RS):dc fO [(12,.di (iW i)),(14,.di s.v)] 9 Tryz.f29 [] (dO Tryz.f29) (cZ [P3] (K (fK p l)) 9) [([],[V.int aj (IntKind.i64.wrap ((Int.ofNat l.length)-(1:Int)))=iW i,kJ i l.length,0+i*2+2<=(fN l).length,V.agg (lf.lQ (eX (fN l) (0+i*2) 2))=s.v],.ret (.agg [.dV false (s.Q.length) (fJ s.Q),.dV false (s.ro.length) (fD s.ro)]) (K (fK p l)) 9)]
 :=by rcases p with⟨_|⟨_,_,_⟩,_⟩<;>exact cT.ef
theorem m29(hl:l.length<=1000000):c5 ak 29 [P3] (K (fK p (l++[s]))) 9 s.v (K (fK p (l++[s]))) 9:=by
 refine c7 Tryz.func29 (code:=dO Tryz.f29) U U ?_;refine eZ jI (aqq p (l++[s]) l.length s) (dG ?_);exact⟨G ((TS l s hl).1) (G ((TS l s hl).2) (G ((D8 l s).1) (eS ((D8 l s).2)))),_,_,_,rfl,rfl,rfl,rfl⟩
theorem pk_(mi:B)(l:List RS)(s:RS)(z:Int)(i:Nat)(c:hU):dc (fF (fF fO 29 [P3] (K (fK p l)) 9 (s.v,K (fK p l),9)) 69 [.str TR,eM] (K (fK p l++[(9,bx s)])) 10 (.str mi,K (fK p l++[(9,bx s)]),10)) [(14,.di (iW (s.Q.length+1))),(15,.di (iW i)),(20,.split),(25,.di (.eK c.d))] 9 Tryz.f89 [] (dO Tryz.f89) (cZ [P3,.int .u8 z] (K (fK p l)) 9) (iU (Int.ofNat i==(Int.ofNat s.Q.length)) ([fC [P3] (K (fK p l)) 9,V.int aj (IntKind.i64.wrap ((Int.ofNat s.Q.length)+(1:Int)))=iW (s.Q.length+1),Int.ofNat (s.Q.length+1)≠(0:Int),V.int aj ((IntKind.i64.wrap z).tmod (Int.ofNat (s.Q.length+1)))=iW i,fC [.str TR,eM] (K (fK p l++[(9,bx s)])) 10],.ret (.str mi) (K (fK p l)) 9) ([fC [P3] (K (fK p l)) 9,V.int aj (IntKind.i64.wrap ((Int.ofNat s.Q.length)+(1:Int)))=iW (s.Q.length+1),Int.ofNat (s.Q.length+1)≠(0:Int),V.int aj ((IntKind.i64.wrap z).tmod (Int.ofNat (s.Q.length+1)))=iW i,kJ i s.Q.length,(fJ s.Q).length=s.Q.length*3,nT (fJ s.Q) i 3 c.d],.ret (.str (c.dg)) (K (fK p l)) 9))
 :=by rcases p with⟨_|⟨_,_,_⟩,_⟩<;>exact cT.ef
end
theorem m89(p:gx)(l:List RS)(s:RS)(z:Nat)(hz:z<=255)(hs:s.Q.length<=1000000)(hl:l.length<=1000000):c5 ak 89 [P3,.int .u8 (z:Int)] (K (fK p (l++[s]))) 9 (.str (k9 s z)) (K (fK p (l++[s]))) 9:=by
 refine c7 Tryz.func89 (code:=dO Tryz.f89) U U ?_;have h29:=m29 p l s hl;obtain⟨p1,p2,p3⟩:=Xw s hz hs;generalize l++[s]=fA at h29 ⊢;have hX:=Xv (K (fK p fA++[(9,bx s)])) 10;by_cases W:z%(s.Q.length+1)<s.Q.length
 . have kL:=aL V.eK (yC s.Q _ W);have S9:k9 s z=(s.Q[z%(s.Q.length+1)]).dg:=by unfold k9;rw[dif_pos W]
   rw[S9];generalize s.Q[z%(s.Q.length+1)]=c at kL ⊢;refine eZ ((jI.jG BI h29).jG ZG hX) (pk_ p PV fA s z (z%(s.Q.length+1)) c) fun g hg J=>?_;rcases jh hg with rfl|rfl
   . have h:=J _ (au.2 rfl);dsimp only at h;have:=Int.ofNat.inj (beq_iff_eq.1 h);omega
   . exact⟨G (⟨rfl,rfl,rfl⟩) (G (p1) (G (p2) (G (p3) (G (⟨aA _,dr⟩) (G (lO _) (eS (kL))))))),_,_,_,rfl,rfl,rfl,rfl⟩
 . have S9:k9 s z=PV:=by unfold k9;rw[dif_neg W]
   rw[S9];have hme:z%(s.Q.length+1)=s.Q.length:=by have:=Nat.mod_lt z (show 0<s.Q.length+1 by omega);omega
   refine eZ ((jI.jG BI h29).jG ZG hX) (pk_ p PV fA s z (z%(s.Q.length+1)) ⟨[],[],[]⟩) fun g hg J=>?_;rcases jh hg with rfl|rfl
   . exact⟨G (⟨rfl,rfl,rfl⟩) (G (p1) (G (p2) (G (p3) (eS (⟨rfl,rfl,rfl⟩))))),_,_,_,rfl,rfl,rfl,rfl⟩
   . have h:=J _ (au.2 rfl);dsimp only at h;rw[hme]at h;rw[cO]at h;cases h
section
variable(a b0 c:Int)(d:B)
def e60:B:=List.drop 0 (List.take (if(60:Int)<(Int.ofNat d.length)then(60:Int)else(Int.ofNat d.length)).toNat d)
def Gd(r:RR):rs:=.cells [.dV false r.s.Q.length (fJ r.s.Q),.dV false r.s.ro.length (fD r.s.ro),.str r.dg,.int .i64 r.er,.bool r.ch]
end
section
variable(p:gx)(l:List RS)(x y z:Int)
def sXo(d:B)(Q:ag)(k:Nat):St:=eL [(0,P3),(3,.ptr (some (9,0))),(5,.dx (some (10,0)) k k 1)] (K (fK p l++[(9,lq x y z d),(10,.cells Q)])) 11
def sXc(d:B)(k:Nat)(Q:ai):St:=eL [(0,P3),(3,.ptr (some (9,0))),(5,.dx (some (10,0)) k k 1)] (K (fK p l++[(9,lq x y z d),(10,.deep Q)])) 11
def sXu(r:RR)(v:List (Nat×V)):St:=eL ([(6,.ptr (some (11+sh p,0)))]++v) (K (B2 9 p l++[(11+sh p,Gd r)])) (12+sh p)
def sXv(m:Nat)(nx:ai)(r:RR)(v:List (Nat×V)):St:=eL ([(6,.ptr (some (12+sh p,0)))]++v) (K (ZH 9 p m nx++[(12+sh p,Gd r)])) (13+sh p)
theorem xp1(d:B):dc fO [] 9 Tryz.f64 [0,3,5] (eU 2 tu) (cZ [P3,o6 x y z d] (K (fK p l)) 9) [([],[],eP (sXo p l x y z d [] 0))]
 :=by rcases p with⟨_|⟨_,_,_⟩,_⟩<;>exact cT.ef
theorem xp2(s:RS)(x y z:Int)(d w:B):dc (fF (fF fO 29 [P3] (K (fK p l++[(9,lq x y z d),(10,.cells [])])) 11 (s.v,K (fK p l++[(9,lq x y z d),(10,.cells [])]),11)) 89 [P3,.int .u8 z] (K (fK p l++[(9,lq x y z d),(10,.cells [])])) 11 (.str w,K (fK p l++[(9,lq x y z d),(10,.cells [])]),11)) [(13,.split),(19,.split)] 9 Tryz.f64 [0,3,5] (dS (dw 2 tu)) (sXo p l x y z d [] 0) (Jl (decide (y.tmod (3:Int)>(0:Int))) (decide ((Int.ofNat s.Q.length)>(0:Int))) ([fC [P3] (K (fK p l++[(9,lq x y z d),(10,.cells [])])) 11,fC [P3,.int .u8 z] (K (fK p l++[(9,lq x y z d),(10,.cells [])])) 11],eP (sXo p l x y z d [.str w] 1)) ([fC [P3] (K (fK p l++[(9,lq x y z d),(10,.cells [])])) 11],eP (sXo p l x y z d [] 0)) ([],eP (sXo p l x y z d [] 0)))
 :=by rcases p with⟨_|⟨_,_,_⟩,_⟩<;>exact cT.ef
end
section
variable(p:gx)(l:List RS)(x y z:Int)(d:B)(ps:List (B))
def PW:af:=fK p l++[(9,lq x y z d),(10,.deep (strs ps))]
abbrev sXp:St:=sXc p l x y z d ps.length (strs ps)
def sXq:St:=eL [(0,P3),(3,.ptr (some (9,0))),(5,p9 ps)] (K (fK p l++[(9,lq x y z d)])) 10
def sXr(r:RR):St:=eL [(0,P3),(3,.ptr (some (9,0))),(5,p9 ps),(6,.ptr (some (10,0)))] (K (fK p l++[(9,lq x y z d),(10,Gd r)])) 11
def sXs(r:RR)(a:B)(e:Int):St:=eL [(0,P3),(3,.ptr (some (11+sh p,0))),(6,.ptr (some (12+sh p,0))),(7,.str a),(8,.int .i64 e)] (K (B2 9 p l++[(11+sh p,lq x y z d),(12+sh p,Gd r)])) (13+sh p)
end
section
variable(p:gx)(l:List RS)(x y z:Int)
theorem xp3(d:B)(ps:List (B))(w:B):dc (fF fO 89 [P3,.int .u8 y] (K (PW p l x y z d ps)) 11 (.str w,K (PW p l x y z d ps),11)) [(31,.split)] 9 Tryz.f64 [0,3,5] (dS (dw 3 tu)) (sXp p l x y z d ps) (iU (decide (y.tmod (3:Int)>(1:Int))) ([fC [P3,.int .u8 y] (K (PW p l x y z d ps)) 11,0+ps.length*1<=(strs ps).length,0<1,fa (ps.length+1) 1 16=true],eP (sXc p l x y z d (ps.length+1) (List.take (ps.length*1) (List.drop 0 (strs ps))++[lf.str w]))) ([],eP (sXp p l x y z d ps)))
 :=by rcases p with⟨_|⟨_,_,_⟩,_⟩<;>exact cT.ef
theorem xp4(s:RS)(x y z:Int)(d:B)(ps:List (B))(r:RR):dc (fF (fF fO 29 [P3] (K (fK p l++[(9,lq x y z d)])) 23 (s.v,K (fK p l++[(9,lq x y z d)]),23)) 37 [s.v,.str (e60 d),p9 ps] (K (fK p l++[(9,lq x y z d)])) 23 (r.v,K (fK p l++[(9,lq x y z d)]),23)) [] 9 Tryz.f64 [0,3,5,6] (dS (dw 4 tu)) (sXq p l x y z d ps) [([],[fC [P3] (K (fK p l++[(9,lq x y z d)])) 23,((0:Int)<=if(60:Int)<(Int.ofNat d.length)then(60:Int)else(Int.ofNat d.length))/\(if(60:Int)<(Int.ofNat d.length)then(60:Int)else(Int.ofNat d.length))<=(Int.ofNat d.length),((0:Int)<=if(60:Int)<(Int.ofNat d.length)then(60:Int)else(Int.ofNat d.length))/\(if(60:Int)<(Int.ofNat d.length)then(60:Int)else(Int.ofNat d.length))<=(Int.ofNat d.length),([.agg [.dV false (s.Q.length) (fJ s.Q),.dV false (s.ro.length) (fD s.ro)],.str (List.drop 0 (List.take (if(60:Int)<(Int.ofNat d.length)then(60:Int)else(Int.ofNat d.length)).toNat d)),.dV false (ps.length) (strs ps)]:ag)=[s.v,.str (e60 d),p9 ps]/\(K (fK p l++[(9,lq x y z d)]))=(K (fK p l++[(9,lq x y z d)]))/\23=23],eP (sXr p l x y z d ps r))]
 :=by rcases p with⟨_|⟨_,_,_⟩,_⟩<;>exact cT.ef
theorem xp5(q:gx)(l:List RS)(x y z:Int)(d:B)(ps:List (B))(r:RR)(a:B)(e:Int):dc (fF fO 15 [.ptr (some (4,0)),.str (e60 d),p9 ps] (K (fK p l++[(9,lq x y z d),(10,Gd r)])) 29 (.ew [.str a,.int .i64 e],K (B2 29 q l++[(9,lq x y z d),(10,Gd r)]),(31+sh q))) [] 9 Tryz.f64 [0,3,6,7,8] (dS (dw 5 tu)) (sXr p l x y z d ps r) [([],[((0:Int)<=if(60:Int)<(Int.ofNat d.length)then(60:Int)else(Int.ofNat d.length))/\(if(60:Int)<(Int.ofNat d.length)then(60:Int)else(Int.ofNat d.length))<=(Int.ofNat d.length),([.ptr (some (4,0)),.str (List.drop 0 (List.take (if(60:Int)<(Int.ofNat d.length)then(60:Int)else(Int.ofNat d.length)).toNat d)),.dV false (ps.length) (strs ps)]:ag)=[.ptr (some (4,0)),.str (e60 d),p9 ps]/\(K (fK p l++[(9,lq x y z d),(10,Gd r)]))=(K (fK p l++[(9,lq x y z d),(10,Gd r)]))/\29=29],eP (sXs q l x y z d r a e))]
 :=by rcases p with⟨_|⟨_,_,_⟩,_⟩<;>rcases q with⟨_|⟨_,_,_⟩,_⟩<;>exact cT.ef
theorem xp6(d:B)(r:RR)(a:B)(e:Int):dc fO [(67,.split)] 9 Tryz.f64 [6,7,8] (dS (dw 6 tu)) (sXs p l x y z d r a e) (iU r.ch ([0+l.length*2<=(fN l).length,0<1,fa (l.length+1) 2 48=true],eP (sXv p (l.length+1) (List.take (l.length*2) (List.drop 0 (fN l))++[lf.dV r.s.Q.length (fJ r.s.Q),lf.dV r.s.ro.length (fD r.s.ro)]) r [(7,.str a),(8,.int .i64 e)])) ([],eP (sXu p l r [(7,.str a),(8,.int .i64 e)])))
 :=by rcases p with⟨_|⟨_,_,_⟩,_⟩<;>exact cT.ef
end
noncomputable abbrev yG:Code:=dO Tryz.f65
section
variable(p:gx)(l:List RS)(x y z:Int)(d w:B)
def sYq:St:=eL [(0,P3),(3,.ptr (some (9,0))),(5,.str w)] (K (fK p l++[(9,lq x y z d)])) 10
def sYr(r:RR):St:=eL [(0,P3),(3,.ptr (some (9,0))),(5,.str w),(6,.ptr (some (10,0)))] (K (fK p l++[(9,lq x y z d),(10,Gd r)])) 11
end
section
variable(p:gx)(l:List RS)(x y z:Int)(r:RR)
def sYs(u:Int):St:=eL [(0,P3),(6,.ptr (some (11+sh p,0))),(7,.int .i64 u)] (K (B2 9 p l++[(11+sh p,Gd r)])) (12+sh p)
theorem yp1(d w:B):dc (fF fO 89 [P3,.int .u8 z] (K (fK p l++[(9,lq x y z d)])) 10 (.str w,K (fK p l++[(9,lq x y z d)]),10)) [] 9 Tryz.f65 [0,3,5] (eU 2 yG) (cZ [P3,o6 x y z d] (K (fK p l)) 9) [([],[fC [P3,.int .u8 z] (K (fK p l++[(9,lq x y z d)])) 10],eP (sYq p l x y z d w))]
 :=by rcases p with⟨_|⟨_,_,_⟩,_⟩<;>exact cT.ef
theorem yp2(d w:B):dc fO [(15,.split)] 9 Tryz.f65 [0,3,5] (dS (dw 2 yG)) (sYq p l x y z d w) (iU (y.tmod (4:Int)==(0:Int)) ([],eP (sYq p l x y z d [])) ([],eP (sYq p l x y z d w)))
 :=by rcases p with⟨_|⟨_,_,_⟩,_⟩<;>exact cT.ef
theorem yp3(s:RS)(x y z:Int)(d w e:B)(r:RR):dc (fF (fF (fF fO 29 [P3] (K (fK p l++[(9,lq x y z d)])) 19 (s.v,K (fK p l++[(9,lq x y z d)]),19)) 91 [.int .u8 y] (K (fK p l++[(9,lq x y z d)])) 19 (.str e,K (fK p l++[(9,lq x y z d)]),19)) 90 [s.v,.str e,.str w] (K (fK p l++[(9,lq x y z d)])) 19 (r.v,K (fK p l++[(9,lq x y z d)]),19)) [] 9 Tryz.f65 [0,3,5,6] (dS (dw 3 yG)) (sYq p l x y z d w) [([],[fC [P3] (K (fK p l++[(9,lq x y z d)])) 19,fC [.int .u8 y] (K (fK p l++[(9,lq x y z d)])) 19,fC [s.v,.str e,.str w] (K (fK p l++[(9,lq x y z d)])) 19],eP (sYr p l x y z d w r))]
 :=by rcases p with⟨_|⟨_,_,_⟩,_⟩<;>exact cT.ef
theorem yp4(q:gx)(l:List RS)(x y z:Int)(d w e:B)(r:RR)(u:Int):dc (fF (fF fO 91 [.int .u8 y] (K (fK p l++[(9,lq x y z d),(10,Gd r)])) 21 (.str e,K (fK p l++[(9,lq x y z d),(10,Gd r)]),21)) 16 [.ptr (some (4,0)),.str e,.str w] (K (fK p l++[(9,lq x y z d),(10,Gd r)])) 21 (.int .i64 u,K (B2 21 q l++[(9,lq x y z d),(10,Gd r)]),(23+sh q))) [] 9 Tryz.f65 [0,6,7] (dS (dw 4 yG)) (sYr p l x y z d w r) [([],[fC [.int .u8 y] (K (fK p l++[(9,lq x y z d),(10,Gd r)])) 21,fC [.ptr (some (4,0)),.str e,.str w] (K (fK p l++[(9,lq x y z d),(10,Gd r)])) 21],eP (sYs q l r u))]
 :=by rcases p with⟨_|⟨_,_,_⟩,_⟩<;>rcases q with⟨_|⟨_,_,_⟩,_⟩<;>exact cT.ef
theorem yp5(u:Int):dc fO [(33,.split)] 9 Tryz.f65 [6,7] (dS (dw 5 yG)) (sYs p l r u) (iU r.ch ([0+l.length*2<=(fN l).length,0<1,fa (l.length+1) 2 48=true],eP (sXv p (l.length+1) (List.take (l.length*2) (List.drop 0 (fN l))++[lf.dV r.s.Q.length (fJ r.s.Q),lf.dV r.s.ro.length (fD r.s.ro)]) r [(7,.int .i64 u)])) ([],eP (sXu p l r [(7,.int .i64 u)])))
 :=by rcases p with⟨_|⟨_,_,_⟩,_⟩<;>exact cT.ef
end
def Fi(g c r:Nat)(p:gx):af:=[(0,.ints .u32 gS),(1,.ints .u32 gR),(3,.cells (vW g c r p))]++(match p.lo with|none=>[]|some (_,_,b)=>[(g,.ia 5 false b)])++[(c,.dy none p.C),(r,.dy none p.O)]
def stR(p:gx):af:=match p.lo with
 |none=>Fi 0 7 8 p
 |some _=>Fi 7 8 9 p
def nS(p:gx):Nat:=match p.lo with|none=>9|some _=>10
def qf(f:FuncId)(rest:ag)(p:gx)(v:V)(q:gx):Prop:=c5 ak f (P3::rest) (dN p) 7 v (K (stR q)) (nS q)
theorem Ge:15<Tryz.prog.funcs.size:=ax U
theorem aie:37<Tryz.prog.funcs.size:=ax U
theorem TW:89<Tryz.prog.funcs.size:=ax U
theorem XC(s:RS)(d:B)(ps:List (B))(h:H rs)(n:Nat)(X:s.Q.length<=100000)(h2:s.ro.length<=1000000)(h3:d.length<=65536)(h4:ps.length<=1024)(h5:∀x∈ps,x.length=32):
  c5 ak 37 [s.v,.str d,p9 ps] h n (jn s d ps).v h n:=by
 have key:c5 ak 37 [s.v,.str d,p9 ps] h n (jn ⟨gG (fJ s.Q),pZ (fD s.ro)⟩ d (dI (strs ps))).v h n:=by
  intro E w dm ra g hd;refine TB.2 _ h n (okS s++[s.Q.length<=100000,strs ps=strs (dI (strs ps)),ps.length=(dI (strs ps)).length,d.length<=65536,ps.length<=1024,∀x∈dI (strs ps),x.length=32]) _ _ _ rfl ?_ E w dm ra g hd U;refine jR (D5 L h2) ?_;rw[iu];exact G X (G rfl (G rfl (G h3 (G h4 (eS h5)))))
 rw[j9,sG,iu]at key;exact key
theorem TX(d:B):((0:Int)<=if(60:Int)<(Int.ofNat d.length)then(60:Int)else(Int.ofNat d.length))/\(if(60:Int)<(Int.ofNat d.length)then(60:Int)else(Int.ofNat d.length))<=(Int.ofNat d.length):=by
 have hO:∀n:Nat,Int.ofNat n=(n:Int):=fun _=>rfl;rw[hO];split<;>constructor<;>omega
theorem TY(d:B):e60 d=d.take 60:=by
 unfold e60;rw[bw];split
 . rfl
 . rename_i h;have:d.length<=60:=by have h:¬((60:Int)<(d.length:Int)):=h;omega
   rw[bk this,bk (by simp)]
theorem XD{ps:List (B)}(w:B):List.take (ps.length*1) (List.drop 0 (strs ps))++[lf.str w]=strs (ps++[w]):=by
 rw[bw,bn,bk (by rw[eN];exact aC _),DZ];rfl
theorem NX{l:List RS}(r:RS):List.take (l.length*2) (List.drop 0 (fN l))++[lf.dV r.Q.length (fJ r.Q),lf.dV r.ro.length (fD r.ro)]=fN (l++[r]):=by
 rw[bw,bk (by rw[qE];exact aC _)];unfold fN;rw[aZ,ct];rfl
theorem JV{k:Nat}(h:k<=1000000):fa k 2 48=true:=by
 unfold fa;exact bE ⟨L,L⟩
def iG(s:RS)(y z:Nat):List (B):=(if 0<y%3/\0<s.Q.length then[k9 s z]else[])++(if 1<y%3 then[k9 s y]else[])
theorem w8{s:RS}(h:∀c∈s.Q,c.dg.length=32)(z:Nat):(k9 s z).length=32:=by
 unfold k9;split
 . exact h _ (b9 _)
 . exact TT
theorem A9{s:RS}(h:∀c∈s.Q,c.dg.length=32)(y z:Nat):(iG s y z).length<=2/\∀x∈iG s y z,x.length=32:=by
 unfold iG;refine⟨?_,fun x M=>?_⟩
 . rw[ay];split<;>split<;>simp
 . rcases aW.1 M with q|q
   . split at q
     . rw[au.1 q];exact w8 h z
     . cases q
   . split at q
     . rw[au.1 q];exact w8 h y
     . cases q
theorem HS(y k:Nat):decide ((y:Int).tmod (3:Int)>(k:Int))=decide (k<y%3):=by
 rw[bZ L];exact decide_eq_decide.2 L
def oT(l:List RS)(r:RR):List RS:=if r.ch=true then l++[r.s]else l
section
variable(p:gx)(l:List RS)(s:RS)(x y z:Nat)(d:B)
theorem aif(hy:y<=255)(hz:z<=255)(hs:s.Q.length<=100000)(hl:l.length<=1000){cs:Exit->St->Prop}
  (h:TG ak 9 Tryz.f64.ntmps (dw 4 tu) (sXq p (l++[s]) x y z d (iG s y z)) cs):TG ak 9 Tryz.f64.ntmps tu (cZ [P3,o6 x y z d] (K (fK p (l++[s]))) 9) cs:=by
 have h29:=m29 p l s L;have h89:=fun a (ha:a<=255)=>m89 p l s a ha L L;generalize l++[s]=fA at h29 h89 h ⊢;refine iw  2 jI (xp1 p fA x y z d) cW ?_;show TG _ _ _ (dw 2 tu) _ _;refine c6 U ?_;have k29:c5 ak 29 [P3] (K (fK p fA++[(9,lq x y z d),(10,.cells [])])) 11 s.v (K (fK p fA++[(9,lq x y z d),(10,.cells [])])) 11:=
  qw (ns:=Vf p) h29 (by rcases p with⟨_|⟨_,_,_⟩,_⟩<;>kernel_rfl)
 have k89:c5 ak 89 [P3,.int .u8 (z:Int)] (K (fK p fA++[(9,lq x y z d),(10,.cells [])])) 11 (.str (k9 s z)) (K (fK p fA++[(9,lq x y z d),(10,.cells [])])) 11:=by
  have:=h89 z hz;generalize k9 s z=w at this ⊢;exact qw (ns:=Vf p) this (by rcases p with⟨_|⟨_,_,_⟩,_⟩<;>kernel_rfl)
 have go3:∀ps,ps.length<=1->ps=(if 0<y%3/\0<s.Q.length then[k9 s z]else[])->TG ak 9 Tryz.f64.ntmps (dU (dw 2 tu)) (sXp p fA x y z d ps) cs:=by
  intro ps Fw hpe;have pY:∀us,us=iG s y z->TG ak 9 Tryz.f64.ntmps (dw 4 tu) (sXp p fA x y z d us) cs:=by
   intro us hus;subst hus;generalize iG s y z=us at h ⊢;refine Dy [10] (cU:=[(strs us).length=us.length*1]) (s2:=eL [(0,P3),(3,.ptr (some (9,0))),(5,p9 us)] ((K (PW p fA x y z d us)).set 10 none) 11) (by rcases p with⟨_|⟨_,_,_⟩,_⟩<;>kernel_rfl) (eS (by rw[eN,bn])) ?_;exact dh (live:=[0,3,5]) (by rcases p with⟨_|⟨_,_,_⟩,_⟩<;>kernel_rfl) h
  have aqw:c5 ak 89 [P3,.int .u8 (y:Int)] (K (PW p fA x y z d ps)) 11 (.str (k9 s y)) (K (PW p fA x y z d ps)) 11:=by
   have:=h89 y hy;generalize k9 s y=w at this ⊢;exact qw (ns:=Vf p) this (by rcases p with⟨_|⟨_,_,_⟩,_⟩<;>kernel_rfl)
  show TG _ _ _ (dw 3 tu) _ _;refine c6 U ?_;obtain⟨L3,yw⟩:=xp3 p fA x y z d ps (k9 s y);rw[XD]at yw;refine gP (jI.jG TW aqw) mo oL U yw fun g hg J=>?_;rcases jh hg with rfl|rfl
  . have c1:=J _ (au.2 rfl);have c1:decide (1<y%3)=true:=(HS y 1).symm.trans c1;refine⟨G ⟨rfl,rfl,rfl⟩ (G (by rw[eN];omega) (G dP (eS (qu L)))),fun s' ek=>dh ek ?_⟩;have:=pY (ps++[k9 s y]) (by rw[hpe];unfold iG;rw[aF (aI c1)]);unfold sXp at this;rw[ay]at this;exact this
  . have c1:=J _ (au.2 rfl);have c1:decide (1<y%3)=false:=(HS y 1).symm.trans c1;refine⟨cW,fun s' ek=>dh ek ?_⟩;exact pY ps (by rw[hpe];unfold iG;rw[aJ (c:=1<y%3) (aK c1),cu])
 refine fV ((jI.jG BI k29).jG TW k89) (xp2 p fA s x y z d (k9 s z)) fun g hg J=>?_;rcases xl hg with rfl|rfl|rfl
 . have c1:decide (0<y%3)=true:=(HS y 0).symm.trans (J _ (aQ ..));have c2:=aI (J _ (aM _ (au.2 rfl)));refine⟨G ⟨rfl,rfl,rfl⟩ (eS ⟨rfl,rfl,rfl⟩),fun s' ek=>dh ek ?_⟩;have:=go3 [k9 s z] (aC 1) (by rw[aF ⟨aI c1,by rw[jZ]at c2;omega⟩]);exact wV [10] (by rcases p with⟨_|⟨_,_,_⟩,_⟩<;>kernel_rfl) this
 . have c2:=aK (J _ (aM _ (au.2 rfl)));refine⟨eS ⟨rfl,rfl,rfl⟩,fun s' ek=>dh ek ?_⟩;have:=go3 [] (aX 1) (by rw[aJ fun q=>c2 dr]);exact wV [10] (by rcases p with⟨_|⟨_,_,_⟩,_⟩<;>kernel_rfl) this
 . have c1:decide (0<y%3)=false:=(HS y 0).symm.trans (J _ (au.2 rfl));refine⟨cW,fun s' ek=>dh ek ?_⟩;have:=go3 [] (aX 1) (by rw[aJ fun q=>aK c1 q.1]);exact wV [10] (by rcases p with⟨_|⟨_,_,_⟩,_⟩<;>kernel_rfl) this
end
section
variable(p:gx)(m:Nat)(l:List RS)(r:RR)
theorem xp7(nx:ai)(r:RR):dc fO [(82,.di (.bool true)),(87,.di (.bool true))] 9 Tryz.f64 [] (dw 7 tu) (sXv p m nx r [(7,.str r.dg),(8,.int .i64 r.er)]) [([],[EA (eI r.dg r.dg),EA (r.er==r.er)],.ret (.bool true) (K (ZH 9 p m nx)) (12+sh p))]
 :=by rcases p with⟨_|⟨_,_,_⟩,_⟩<;>exact cT.ef
theorem xp8:dc fO [(82,.di (.bool true)),(87,.di (.bool true))] 9 Tryz.f64 [] (dw 7 tu) (sXu p l r [(7,.str r.dg),(8,.int .i64 r.er)]) [([],[EA (eI r.dg r.dg),EA (r.er==r.er)],.ret (.bool true) (K (B2 9 p l)) (11+sh p))]
 :=by rcases p with⟨_|⟨_,_,_⟩,_⟩<;>exact cT.ef
theorem yp7(nx:ai)(r:RR):dc fO [(48,.di (.bool true))] 9 Tryz.f65 [] (dw 6 yG) (sXv p m nx r [(7,.int .i64 r.er)]) [([],[EA (r.er==r.er)],.ret (.bool true) (K (ZH 9 p m nx)) (12+sh p))]
 :=by rcases p with⟨_|⟨_,_,_⟩,_⟩<;>exact cT.ef
theorem yp8:dc fO [(48,.di (.bool true))] 9 Tryz.f65 [] (dw 6 yG) (sXu p l r [(7,.int .i64 r.er)]) [([],[EA (r.er==r.er)],.ret (.bool true) (K (B2 9 p l)) (11+sh p))]
 :=by rcases p with⟨_|⟨_,_,_⟩,_⟩<;>exact cT.ef
theorem aqx(nx:ai)(r:RR)(a:B)(e:Int):dc fO [(82,.di (.bool false))] 9 Tryz.f64 [] (dw 7 tu) (sXv p m nx r [(7,.str a),(8,.int .i64 e)]) [([],[jC (eI a r.dg)],.ret (.bool false) (K (ZH 9 p m nx)) (12+sh p))]
 :=by rcases p with⟨_|⟨_,_,_⟩,_⟩<;>exact cT.ef
theorem aqy(nx:ai)(r:RR)(u:Int):dc fO [(48,.di (.bool false))] 9 Tryz.f65 [] (dw 6 yG) (sXv p m nx r [(7,.int .i64 u)]) [([],[jC (u==r.er)],.ret (.bool false) (K (ZH 9 p m nx)) (12+sh p))]
 :=by rcases p with⟨_|⟨_,_,_⟩,_⟩<;>exact cT.ef
end
theorem aih{f:FuncId}{args:ag}{h:H rs}{v:V}{tv:Bool}(p:gx)(l:List RS)(hd:v= .bool tv)(c:c5 ak f args h 9 v (K (B2 9 p l)) (11+sh p)):c5 ak f args h 9 v (K (tw p l)) (nR p):=by
 subst hd;exact c.Af 5 (by rcases p with⟨_|⟨_,_,_⟩,_⟩<;>kernel_rfl)
theorem aii:90<Tryz.prog.funcs.size:=ax U
theorem ZI:91<Tryz.prog.funcs.size:=ax U
theorem XG(s:RS)(a x:B)(h:H rs)(n:Nat)(X:s.Q.length<=100000)(h2:s.ro.length<64)(h3:a≠[])(h4:a.length<=64):c5 ak 90 [s.v,.str a,.str x] h n (k8 s a x).v h n:=by
 have key:c5 ak 90 [s.v,.str a,.str x] h n (k8 ⟨gG (fJ s.Q),pZ (fD s.ro)⟩ a x).v h n:=by
  intro E w dm ra g hd;refine TC.2 _ h n (okS s++[s.ro.length<64,a≠[],a.length<=64]) _ _ _ rfl ?_ E w dm ra g hd U;exact jR (D5 L L) (G h2 (G h3 (eS h4)))
 rw[j9,sG]at key;exact key
theorem XH(y:Nat)(hy:y<=255)(h:H rs)(n:Nat):c5 ak 91 [.int .u8 (y:Int)] h n (.str (Gc y)) h n:=by
 intro E w dm ra g hd;exact TU.2 _ h n [(0:Int)<=(y:Int)/\(y:Int)<=255] _ _ _ rfl (eS ⟨aA _,L⟩) E w dm ra g hd U
theorem TZ(a:B):V.bool (eI a a)=V.bool true:=by rw[gr,cO]
theorem HT(a:Int):V.bool (a==a)=V.bool true:=by rw[cO]
section
variable(p q:gx)(l:List RS)(s:RS)(x y z:Nat){tv:Bool}
theorem NY{f:FuncId}{args:ag}{h:H rs}(fA:List RS)(r:RR)
  (X:r.ch=true->c5 ak f args h 9 (.bool tv) (K (ZH 9 p (fA.length+1) (fN (fA++[r.s])))) (12+sh p)) (h2:r.ch=false->c5 ak f args h 9 (.bool tv) (K (B2 9 p fA)) (11+sh p)):c5 ak f args h 9 (.bool tv) (K (tw p (oT fA r))) (nR p):=by
 cases J:r.ch with
 |true=>
  have:=X J;rw[show fA.length+1=(fA++[r.s]).length from by simp]at this;unfold oT;rw[aF J];exact this
 |false=>unfold oT;rw[aJ (by rw[J];decide)];exact aih p fA rfl (h2 J)
theorem aij(d:B)(hy:y<=255)(hz:z<=255)(hs:s.Q.length<=100000)(hr:s.ro.length<=1000000)(h32:∀c∈s.Q,c.dg.length=32)(hl:l.length<=999)
  {a:B} {e:Int} {tv:Bool} (hv:tv=true/\a=(jn s (d.take 60) (iG s y z)).dg/\e=(jn s (d.take 60) (iG s y z)).er\/tv=false/\(jn s (d.take 60) (iG s y z)).ch=true/\a≠(jn s (d.take 60) (iG s y z)).dg)
  (hS:qf 15 [.str (d.take 60),p9 (iG s y z)] p (.ew [.str a,.int .i64 e]) q):
  c5 ak 64 [P3,o6 x y z d] (K (fK p (l++[s]))) 9 (.bool tv) (K (tw q (oT (l++[s]) (jn s (d.take 60) (iG s y z))))) (nR q):=by
 have Fw:=A9 h32 y z;have h29:=m29 p l s L;have h37:=fun(h:H rs) (n:Nat)=>XC s (d.take 60) (iG s y z) h n hs hr (by rw[aY];omega) L Fw.2;have ni:(l++[s]).length<=1000:=by rw[ay];simp;omega
 have go:∀cs,TG ak 9 Tryz.f64.ntmps (dw 6 tu) (sXs q (l++[s]) x y z d (jn s (d.take 60) (iG s y z)) a e) cs->TG ak 9 Tryz.f64.ntmps tu (cZ [P3,o6 x y z d] (K (fK p (l++[s]))) 9) cs:=by
  intro cs h;refine aif p l s x y z d hy hz hs L ?_;generalize l++[s]=fA at h29 h ⊢;rw[<- TY]at hS h37 h;generalize jn s (e60 d) (iG s y z)=r at h37 h;generalize iG s y z=ps at hS h37 ⊢;have k29:c5 ak 29 [P3] (K (fK p fA++[(9,lq x y z d)])) 23 s.v (K (fK p fA++[(9,lq x y z d)])) 23:=
   qw (ns:=Vf p) h29 (by rcases p with⟨_|⟨_,_,_⟩,_⟩<;>kernel_rfl)
  refine c6 U ?_;refine fV ((jI.jG BI k29).jG aie (h37 _ _)) (xp4 p fA s x y z d ps r) (dG ?_);refine⟨G ⟨rfl,rfl,rfl⟩ (G (TX d) (G (TX d) (eS ⟨rfl,rfl,rfl⟩))),fun s' ek=>dh ek ?_⟩;show TG ak 9 Tryz.f64.ntmps (dw 5 tu) (sXr p fA x y z d ps r) cs;refine c6 U ?_;have hS2:c5 ak 15 [.ptr (some (4,0)),.str (e60 d),p9 ps] (K (fK p fA++[(9,lq x y z d),(10,Gd r)])) 29 (.ew [.str a,.int .i64 e]) (K (B2 29 q fA++[(9,lq x y z d),(10,Gd r)])) (31+sh q):=by
   generalize e60 d=e0 at hS ⊢;exact uR (ns:=Vg p) hS 29 (by rcases p with⟨_|⟨_,_,_⟩,_⟩<;>rcases q with⟨_|⟨_,_,_⟩,_⟩<;>kernel_rfl)
  refine fV (jI.jG Ge hS2) (xp5 p q fA x y z d ps r a e) (dG ?_);exact⟨G (TX d) (eS ⟨rfl,rfl,rfl⟩),fun s' ek=>dh ek h⟩
 generalize jn s (d.take 60) (iG s y z)=r at go hv;generalize l++[s]=fA at go ni;refine NY q fA r (fun Ba=>?_) (fun Ba=>?_)
 . refine c7 Tryz.func64 (code:=tu) U U (go _ ?_);refine c6 U ?_;obtain⟨L6,Me⟩:=xp6 q fA x y z d r a e;rw[NX]at Me;refine gP jI mo oL U Me fun g hg J=>?_;rcases jh hg with rfl|rfl
   . refine⟨G (by rw[qE];omega) (G dP (eS (JV L))),fun s' ek=>dh ek ?_⟩;rcases hv with⟨rfl,rfl,rfl⟩|⟨rfl,_,fS⟩
     . refine eZ jI (xp7 q (fA.length+1) (fN (fA++[r.s])) r) (dG ?_);exact⟨G (TZ _) (eS (HT _)),_,_,_,rfl,rfl,rfl,rfl⟩
     . refine eZ jI (aqx q (fA.length+1) (fN (fA++[r.s])) r a e) (dG ?_);exact⟨eS (sE fS),_,_,_,rfl,rfl,rfl,rfl⟩
   . have c1:r.ch=false:=J _ (au.2 rfl);rw[Ba]at c1;cases c1
 . refine c7 Tryz.func64 (code:=tu) U U (go _ ?_);refine c6 U ?_;refine fV jI (xp6 q fA x y z d r a e) fun g hg J=>?_;rcases jh hg with rfl|rfl
   . have c1:r.ch=true:=J _ (au.2 rfl);rw[Ba]at c1;cases c1
   . refine⟨cW,fun s' ek=>dh ek ?_⟩;obtain⟨rfl,rfl,rfl⟩:tv=true/\a=r.dg/\e=r.er:=hv.resolve_right fun h=>by rw[Ba]at h;cases h.2.1
     refine eZ jI (xp8 q fA r) (dG ?_);exact⟨G (TZ _) (eS (HT _)),_,_,_,rfl,rfl,rfl,rfl⟩
theorem m64(d:B)(hy:y<=255)(hz:z<=255)(hs:s.Q.length<=100000)(hr:s.ro.length<=1000000)(h32:∀c∈s.Q,c.dg.length=32)(hl:l.length<=999)
  (hS:qf 15 [.str (d.take 60),p9 (iG s y z)] p (.ew [.str (jn s (d.take 60) (iG s y z)).dg,.int .i64 (jn s (d.take 60) (iG s y z)).er]) q):
  c5 ak 64 [P3,o6 x y z d] (K (fK p (l++[s]))) 9 (.bool true) (K (tw q (oT (l++[s]) (jn s (d.take 60) (iG s y z))))) (nR q):=aij p q l s x y z d hy hz hs hr h32 hl (.inl ⟨rfl,rfl,rfl⟩) hS
end
noncomputable abbrev D9:Code:=dO Tryz.f28
noncomputable abbrev aik:Code:=dS (dw 4 D9)
noncomputable abbrev T0:Code:=dD (dD (dU aik))
noncomputable abbrev JW:Code:=dD (dS (dU T0))
noncomputable abbrev aqA:Code:=dD (dD (dw 4 JW))
noncomputable abbrev ail:Code:=dS (dw 5 D9)
noncomputable abbrev acZ:Code:=dD (dD (dU ail))
def ckO(c:hU):rs:=.cells [.str c.dg,.str c.da,.dV false c.O.length (strs c.O)]
section
variable(p:gx)(l:List RS)(w:RS)(zs:List (B))(bs:List Bool)
def EF:af:=fK p l++[(9,bx w)]
def Ig(c:hU):af:=fK p l++[(9,bx w),(10,ckO c)]
def sS(r:List (Nat×V)):St:=eL ([(0,P3),(3,.ptr (some (9,0))),(5,p9 zs)]++r) (K (EF p l w)) 10
def sT(c:hU)(i:Nat)(r:List (Nat×V)):St:=eL ([(0,P3),(3,.ptr (some (9,0))),(5,p9 zs),(6,.dV false w.Q.length (me bs)),(7,iW i),(8,.ptr (some (10,0)))]++r) (K (Ig p l w c)) 11
end
section
variable(p:gx)(l:List RS)(w:RS)
theorem sm1(zs:List (B)):dc (fF fO 23 [.ptr (some (4,0))] (K (EF p l w)) 10 (p9 zs,K (EF p l w),10)) [] 9 Tryz.f28 [0,3,5] (eU 2 D9) (cZ [P3,w.v] (K (fK p l)) 9) [([],[fC [.ptr (some (4,0))] (K (EF p l w)) 10],eP (sS p l w zs []))]
 :=by rcases p with⟨_|⟨_,_,_⟩,_⟩<;>exact cT.ef
theorem sm2(zs:List (B))(i:Nat):dc (fF fO 20 [.ptr (some (4,0))] (K (EF p l w)) 27 (.int .i64 (Int.ofNat i),K (EF p l w),27)) [(29,.split),(36,.split)] 9 Tryz.f28 [0,3,5] (dS (dw 2 D9)) (sS p l w zs []) (alH (Int.ofNat i !=(Int.ofNat w.Q.length)) ((Int.ofNat zs.length) !=(Int.ofNat w.ro.length)) ([fC [.ptr (some (4,0))] (K (EF p l w)) 27],.ret (.bool false) (K (fK p l)) 9) ([fC [.ptr (some (4,0))] (K (EF p l w)) 27],eP (sS p l w zs [])))
 :=by rcases p with⟨_|⟨_,_,_⟩,_⟩<;>exact cT.ef
end
section
variable(p:gx)(l:List RS)(w:RS)
theorem sm3(zs:List (B))(bs:List Bool):dc (fF fO 68 [w.v] (K (EF p l w)) 10 (.dV false w.Q.length (me bs),K (EF p l w),10)) [] 9 Tryz.f28 [0,3,5,6] (dS (dw 3 D9)) (sS p l w zs []) [([],[fC [w.v] (K (EF p l w)) 10],eP (sS p l w zs [(6,.dV false w.Q.length (me bs))]))]
 :=by rcases p with⟨_|⟨_,_,_⟩,_⟩<;>exact cT.ef
theorem sm4(zs:List (B))(bs:List Bool):dc fO [] 9 Tryz.f28 [0,3,5,6,7] (dS aik) (sS p l w zs [(6,.dV false w.Q.length (me bs))]) [([],[],eP (sS p l w zs [(6,.dV false w.Q.length (me bs)),(7,iW 0)]))]
 :=by rcases p with⟨_|⟨_,_,_⟩,_⟩<;>exact cT.ef
theorem sm5(zs:List (B))(bs:List Bool)(i:Nat):dc fO [(44,.split)] 9 Tryz.f28 [0,3,5,6,7] (dS T0) (sS p l w zs [(6,.dV false w.Q.length (me bs)),(7,iW i)]) (iU (decide (Int.ofNat i<(Int.ofNat w.Q.length))) ([],eP (sS p l w zs [(6,.dV false w.Q.length (me bs)),(7,iW i)])) ([],.to (.exit 0) (sS p l w zs [(6,.dV false w.Q.length (me bs)),(7,iW i)])))
 :=by rcases p with⟨_|⟨_,_,_⟩,_⟩<;>exact cT.ef
theorem sm6(zs:List (B))(bs:List Bool)(i:Nat)(c:hU):dc (fF fO 25 [.ptr (some (4,0)),.str c.dg] (K (Ig p l w c)) 25 (.ew [.str c.da,p9 c.O,.int .i64 0],K (Ig p l w c),25)) [(50,.di (.eK c.d))] 9 Tryz.f28 [0,3,5,6,7,8,9,10,11] (eU 2 JW) (sS p l w zs [(6,.dV false w.Q.length (me bs)),(7,iW i)]) [([],[kJ i w.Q.length,(fJ w.Q).length=w.Q.length*3,nT (fJ w.Q) i 3 c.d,fC [.ptr (some (4,0)),.str c.dg] (K (Ig p l w c)) 25],eP (sT p l w zs bs c i [(9,.str c.da),(10,p9 c.O),(11,.int .i64 0)]))]
 :=by rcases p with⟨_|⟨_,_,_⟩,_⟩<;>exact cT.ef
theorem sm7(zs:List (B))(bs:List Bool)(i:Nat)(c:hU)(lv rv:Bool):dc (fF (fF fO 18 [.ptr (some (4,0)),.str c.dg] (K (Ig p l w c)) 51 (.bool true,K (Ig p l w c),51)) 17 [.ptr (some (4,0)),.str c.dg] (K (Ig p l w c)) 51 (.bool lv,K (Ig p l w c),51)) [(69,.di (.bool false)),(77,.di (.bool false)),(99,.di (.eK [.bool rv])),(101,.split)] 9 Tryz.f28 [0,3,5,6,7,8,10] (dS (dw 2 JW)) (sT p l w zs bs c i [(9,.str c.da),(10,p9 c.O),(11,.int .i64 0)]) (iU (!lv==rv) ([(V.bool !eI c.da c.da)=V.bool false,jC ((Int.ofNat c.O.length) !=(Int.ofNat c.O.length)),fC [.ptr (some (4,0)),.str c.dg] (K (Ig p l w c)) 51,fC [.ptr (some (4,0)),.str c.dg] (K (Ig p l w c)) 51,kJ i w.Q.length,(me bs).length=w.Q.length*1,nT (me bs) i 1 [lf.bool rv]],.ret (.bool false) (K (fK p l)) 9) ([(V.bool !eI c.da c.da)=V.bool false,jC ((Int.ofNat c.O.length) !=(Int.ofNat c.O.length)),fC [.ptr (some (4,0)),.str c.dg] (K (Ig p l w c)) 51,fC [.ptr (some (4,0)),.str c.dg] (K (Ig p l w c)) 51,kJ i w.Q.length,(me bs).length=w.Q.length*1,nT (me bs) i 1 [lf.bool rv]],eP (sT p l w zs bs c i [(10,p9 c.O)])))
 :=by rcases p with⟨_|⟨_,_,_⟩,_⟩<;>exact cT.ef
theorem sm8(zs:List (B))(bs:List Bool)(i:Nat)(c:hU):dc fO [] 9 Tryz.f28 [0,3,5,6,7,8,10,12] (dS (dw 3 JW)) (sT p l w zs bs c i [(10,p9 c.O)]) [([],[],eP (sT p l w zs bs c i [(10,p9 c.O),(12,iW 0)]))]
 :=by rcases p with⟨_|⟨_,_,_⟩,_⟩<;>exact cT.ef
theorem sm9(zs:List (B))(bs:List Bool)(i e:Nat)(c:hU)(x:B):dc fO [(106,.split),(111,.di (.eK [.str x])),(116,.di (.eK [.str x])),(118,.di (.bool false)),(108,.di (iW (e+1)))] 9 Tryz.f28 [0,3,5,6,7,8,10,12] (aqA) (sT p l w zs bs c i [(10,p9 c.O),(12,iW e)]) (iU (decide (Int.ofNat e<(Int.ofNat c.O.length))) ([kJ e c.O.length,(strs c.O).length=c.O.length*1,nT (strs c.O) e 1 [lf.str x],kJ e c.O.length,(strs c.O).length=c.O.length*1,nT (strs c.O) e 1 [lf.str x],(V.bool !eI x x)=V.bool false,Ez e],eP (sT p l w zs bs c i [(10,p9 c.O),(12,iW (e+1))])) ([],.to (.exit 2) (sT p l w zs bs c i [(10,p9 c.O),(12,iW e)])))
 :=by rcases p with⟨_|⟨_,_,_⟩,_⟩<;>exact cT.ef
theorem smA(zs:List (B))(bs:List Bool)(i e:Nat)(c:hU):dc fO [(46,.di (iW (i+1)))] 9 Tryz.f28 [0,3,5,6,7] (dU (dU T0)) (sT p l w zs bs c i [(10,p9 c.O),(12,iW e)]) [([],[Ez i],eP (sS p l w zs [(6,.dV false w.Q.length (me bs)),(7,iW (i+1))]))]
 :=by rcases p with⟨_|⟨_,_,_⟩,_⟩<;>exact cT.ef
theorem smB(zs:List (B))(bs:List Bool)(i:Nat):dc fO [] 9 Tryz.f28 [0,3,5,13] (dS ail) (sS p l w zs [(6,.dV false w.Q.length (me bs)),(7,iW i)]) [([],[],eP (sS p l w zs [(13,iW 0)]))]
 :=by rcases p with⟨_|⟨_,_,_⟩,_⟩<;>exact cT.ef
theorem smE(zs:List (B))(i:Nat):dc fO [(122,.split)] 9 Tryz.f28 [0,3,5,13] (dS acZ) (sS p l w zs [(13,iW i)]) (iU (decide (Int.ofNat i<(Int.ofNat zs.length))) ([],eP (sS p l w zs [(13,iW i)])) ([],.to (.exit 4) (sS p l w zs [(13,iW i)])))
 :=by rcases p with⟨_|⟨_,_,_⟩,_⟩<;>exact cT.ef
theorem smC(zs:List (B))(i:Nat)(x y nm dd:B):dc (fF fO 24 [.ptr (some (4,0)),.str x] (K (EF p l w)) 24 (.ew [.str y,.bool true],K (EF p l w),24)) [(132,.di (.eK [.str x])),(139,.di (.eK [.str x])),(144,.di (.eK [.str nm,.str dd])),(147,.split),(153,.di (.eK [.str nm,.str dd])),(156,.split),(124,.di (iW (i+1)))] 9 Tryz.f28 [0,3,5,13] (dU acZ) (sS p l w zs [(13,iW i)]) (afw (!eI x nm) (!eI y dd) ([kJ i zs.length,(strs zs).length=zs.length*1,nT (strs zs) i 1 [lf.str x],fC [.ptr (some (4,0)),.str x] (K (EF p l w)) 24,kJ i zs.length,(strs zs).length=zs.length*1,nT (strs zs) i 1 [lf.str x],kJ i w.ro.length,(fD w.ro).length=w.ro.length*2,nT (fD w.ro) i 2 [lf.str nm,lf.str dd]],.ret (.bool false) (K (fK p l)) 9) ([kJ i zs.length,(strs zs).length=zs.length*1,nT (strs zs) i 1 [lf.str x],fC [.ptr (some (4,0)),.str x] (K (EF p l w)) 24,kJ i zs.length,(strs zs).length=zs.length*1,nT (strs zs) i 1 [lf.str x],kJ i w.ro.length,(fD w.ro).length=w.ro.length*2,nT (fD w.ro) i 2 [lf.str nm,lf.str dd],kJ i w.ro.length,(fD w.ro).length=w.ro.length*2,nT (fD w.ro) i 2 [lf.str nm,lf.str dd]],.ret (.bool false) (K (fK p l)) 9) ([kJ i zs.length,(strs zs).length=zs.length*1,nT (strs zs) i 1 [lf.str x],fC [.ptr (some (4,0)),.str x] (K (EF p l w)) 24,kJ i zs.length,(strs zs).length=zs.length*1,nT (strs zs) i 1 [lf.str x],kJ i w.ro.length,(fD w.ro).length=w.ro.length*2,nT (fD w.ro) i 2 [lf.str nm,lf.str dd],kJ i w.ro.length,(fD w.ro).length=w.ro.length*2,nT (fD w.ro) i 2 [lf.str nm,lf.str dd],Ez i],eP (sS p l w zs [(13,iW (i+1))])))
 :=by rcases p with⟨_|⟨_,_,_⟩,_⟩<;>exact cT.ef
theorem smD(zs:List (B))(i:Nat):dc fO [] 9 Tryz.f28 [] (dw 6 D9) (sS p l w zs [(13,iW i)]) [([],[],.ret (.bool true) (K (fK p l)) 9)]
 :=by rcases p with⟨_|⟨_,_,_⟩,_⟩<;>exact cT.ef
end
structure Obs(p:gx)(k:Nat)(zs:List (B))(Q:List hU)(lv:B->Bool)(yv:B->B):Prop where
 h23:c5 ak 23 [P3] (dN p) 7 (p9 zs) (dN p) 7
 h20:c5 ak 20 [P3] (dN p) 7 (.int .i64 (Int.ofNat k)) (dN p) 7
 h25:∀c∈Q,c5 ak 25 [P3,.str c.dg] (dN p) 7 (.ew [.str c.da,p9 c.O,.int .i64 0]) (dN p) 7
 h18:∀c∈Q,c5 ak 18 [P3,.str c.dg] (dN p) 7 (.bool true) (dN p) 7
 h17:∀c∈Q,c5 ak 17 [P3,.str c.dg] (dN p) 7 (.bool (lv c.dg)) (dN p) 7
 h24:∀x∈zs,c5 ak 24 [P3,.str x] (dN p) 7 (.ew [.str (yv x),.bool true]) (dN p) 7
def tx(k:Nat)(zs:List (B))(lv:B->Bool)(yv:B->B)(w:RS):Bool:=
 decide (k=w.Q.length)&&(decide (zs.length=w.ro.length)&&(decide (w.Q.map (fun c=>lv c.dg)=fu w)&&decide (zs.map (fun x=>(x,yv x))=w.ro)))
theorem XI(s:RS)(h:H rs)(n:Nat)(X:s.Q.length<=100000)(h2:s.ro.length<=1000000)(h3:∀c∈s.Q,c.O.length<=100000):c5 ak 68 [s.v] h n (.dV false s.Q.length (me (fu s))) h n:=by
 have key:c5 ak 68 [s.v] h n (.dV false s.Q.length (me (fu ⟨gG (fJ s.Q),pZ (fD s.ro)⟩))) h n:=by
  intro E w dm ra g hd;refine TL.2 _ h n (okS s++[s.Q.length<=100000,∀c∈gG (fJ s.Q),c.O.length<=100000]) _ _ _ rfl ?_ E w dm ra g hd U;refine jR (D5 L h2) ?_;rw[j9];exact G X (eS h3)
 rw[j9,sG]at key;exact key
theorem aim:23<Tryz.prog.funcs.size:=ax U
theorem NZ:20<Tryz.prog.funcs.size:=ax U
theorem ain:25<Tryz.prog.funcs.size:=ax U
theorem aio:24<Tryz.prog.funcs.size:=ax U
theorem aip:68<Tryz.prog.funcs.size:=ax U
def ZJ(b:Bool)(h0:H rs)(v:V)(h:H rs)(n:Nat):Prop:=v= .bool b/\h=h0/\n=9
theorem Ea{a b:Nat}:(Int.ofNat a !=Int.ofNat b)=!decide (a=b):=by
 by_cases h:a=b
 . subst h;rw[bE rfl];exact bne_self_eq_false _
 . rw[bz h];exact bne_iff_ne.2 fun q=>h (Int.ofNat.inj q)
section
variable{α β:Type}{f:α->β}{l:List α}{bs:List β}{i:Nat}
theorem wh{c:α}{b:β}(J:l[i]? =some c)(hb:bs[i]? =some b)(fS:f c≠b):l.map f≠bs:=fun e=>by
 subst e;rw[bu,J]at hb;exact fS (cG hb)
theorem BJ{c:α}{b:β}(J:l[i]? =some c)(hb:bs[i]? =some b)(he:f c=b)(h:(l.take i).map f=bs.take i):(l.take (i+1)).map f=bs.take (i+1):=by
 rw[bH,bH,aZ,h,J,hb];simp[he]
end
theorem ZJ.intro{b:Bool}{h:H rs}:ZJ b h (.bool b) h 9:=⟨rfl,rfl,rfl⟩
section
variable(p:gx)(l:List RS)(w:RS){zu:Nat}{zs:List (B)}{Q:List hU}{lv:B->Bool}{yv:B->B}
theorem ac1(ho:Obs p zu zs Q lv yv)(hz:zs.length=w.ro.length)(H9:zs.length<=100000)(i0:Nat)(tv:Bool)(hb:tv=decide (zs.map (fun x=>(x,yv x))=w.ro))(bs:List Bool):
  TG ak 9 Tryz.f28.ntmps (dw 5 D9) (sS p l w zs [(6,.dV false w.Q.length (me bs)),(7,iW i0)]) (fL ak 9 Tryz.f28 (ZJ tv (K (fK p l)))):=by
 refine c6 U ?_;refine c6 U ?_;refine fV jI (smB p l w zs bs i0) (dG ?_);refine⟨cW,fun s' ek=>?_⟩;refine jz (α:=Nat) 4 (fun i=>zs.length-i) (fun i=>i<=zs.length/\(zs.take i).map (fun x=>(x,yv x))=w.ro.take i) (fun i=>sS p l w zs [(13,iW i)]) U U 0 ⟨aX _,rfl⟩ (.norm ek) fun i ⟨hi,he⟩=>?_;refine c6 U ?_;refine fV jI (smE p l w zs i) fun g hg J=>?_;rcases jh hg with rfl|rfl
 . have fH:i<zs.length:=by have:=aI (J _ (au.2 rfl));rw[jZ,jZ]at this;omega
   clear J;refine⟨cW,fun s0 GD=>dh GD ?_⟩;show TG ak 9 Tryz.f28.ntmps (dU acZ) (sS p l w zs [(13,iW i)]) _;have M:zs[i]? =some zs[i]:=az fH;have hr:w.ro[i]? =some (w.ro[i]'(by omega)):=az L;have PX:=aL V.eK (fR M);have T1:=aL V.eK (D1 w.ro i L);have yc:zs[i]∈zs:=b9 _;generalize zs[i]=x at *;generalize w.ro[i]'(by omega)=q at *;have h24:c5 ak 24 [.ptr (some (4,0)),.str x] (K (EF p l w)) 24 (.ew [.str (yv x),.bool true]) (K (EF p l w)) 24:=by
    have:=ho.h24 x yc;generalize yv x=y at this ⊢;exact qw (ns:=Vg p) this (by rcases p with⟨_|⟨_,_,_⟩,_⟩<;>kernel_rfl)
   obtain⟨LC,hrC⟩:=smC p l w zs i x (yv x) q.1 q.2;have a1:(0:Int)<=Int.ofNat i/\Int.ofNat i<(Int.ofNat zs.length):=⟨aA _,dr⟩;have a2:(strs zs).length=zs.length*1:=by rw[eN,bn]
   have a3:(0:Int)<=Int.ofNat i/\Int.ofNat i<(Int.ofNat w.ro.length):=⟨aA _,dr⟩;have a4:(fD w.ro).length=w.ro.length*2:=nX _;refine gP (jI.jG aio h24) mo (ZJ tv (K (fK p l))) U hrC fun g hg J=>?_;rcases xl hg with rfl|rfl|rfl
   . have c2:=J _ (au.2 rfl);have c2:(!eI x q.1)=true:=c2;have fS:(x,yv x)≠q:=fun e=>by rw[<- e,gr,cO]at c2;cases c2
     obtain rfl:tv=false:=by rw[hb];exact bz (wh (f:=fun x=>(x,yv x)) M hr fS)
     exact⟨G a1 (G a2 (G PX (G ⟨rfl,rfl,rfl⟩ (G a1 (G a2 (G PX (G a3 (G a4 (eS T1))))))))),.intro,fun s1 fQ=>fQ⟩
   . have c2:=J _ (aM _ (au.2 rfl));have c2:(!eI (yv x) q.2)=true:=c2;have fS:(x,yv x)≠q:=fun e=>by rw[<- e,gr,cO]at c2;cases c2
     obtain rfl:tv=false:=by rw[hb];exact bz (wh (f:=fun x=>(x,yv x)) M hr fS)
     exact⟨G a1 (G a2 (G PX (G ⟨rfl,rfl,rfl⟩ (G a1 (G a2 (G PX (G a3 (G a4 (G T1 (G a3 (G a4 (eS T1)))))))))))),.intro,fun s1 fQ=>fQ⟩
   . have c1:=J _ (aQ ..);have c2:=J _ (aM _ (au.2 rfl));have c1:(!eI x q.1)=false:=c1;have c2:(!eI (yv x) q.2)=false:=c2;have K6:(x,yv x)=q:=by
      rw[gr,Bool.not_eq_false']at c1 c2;exact Prod.ext (beq_iff_eq.1 c1) (beq_iff_eq.1 c2)
     refine⟨G a1 (G a2 (G PX (G ⟨rfl,rfl,rfl⟩ (G a1 (G a2 (G PX (G a3 (G a4 (G T1 (G a3 (G a4 (G T1 (eS (oQ dr L)))))))))))))),fun s1 fQ=>⟨i+1,by show zs.length-(i+1)<_;omega,⟨fH,BJ (f:=fun x=>(x,yv x)) M hr K6 he⟩,.norm fQ⟩⟩
 . have AE:=aK (J _ (au.2 rfl));obtain rfl:i=zs.length:=by rw[jZ,jZ]at AE;omega
   rw[aU,hz,aU]at he;obtain rfl:tv=true:=by rw[hb];exact bE he
   refine⟨cW,fun s1 fQ=>?_⟩;simp only[andThen,dY];refine dh fQ ?_;refine eZ jI (smD p l w zs zs.length) (dG ?_);exact⟨cW,_,_,_,rfl,.intro⟩
end
theorem ZK{bs:List Bool}{i:Nat}{rv:Bool}(h:bs[i]? =some rv):V.eK (eX (me bs) (i*1) 1)=V.eK [lf.bool rv]:=by
 obtain⟨hi,e⟩:=aH.1 h;rw[D7 hi,e]
section
variable(p:gx)(l:List RS)(w:RS){zu:Nat}{zs:List (B)}{lv:B->Bool}{yv:B->B}
theorem ac2(bs:List Bool)(i:Nat)(c:hU)(hrc:c.O.length<=100000)(hi:i<=100000){cs:Exit->St->Prop}
  (qe:∀s',gI ak 9 Tryz.f28.ntmps s' (sS p l w zs [(6,.dV false w.Q.length (me bs)),(7,iW (i+1))])->cs .normal s'):
  TG ak 9 Tryz.f28.ntmps (dw 3 JW) (sT p l w zs bs c i [(10,p9 c.O)]) (mK 1 (andThen (fun s'=>TG ak 9 Tryz.f28.ntmps (dU (dU T0)) s' cs) cs)):=by
 refine c6 U ?_;refine fV jI (sm8 p l w zs bs i c) (dG ?_);refine⟨cW,fun s2 gY=>?_⟩;show TG ak 9 Tryz.f28.ntmps (dw 4 JW) _ _;refine ju 2 c.O.length (fun a=>sT p l w zs bs c i [(10,p9 c.O),(12,iW a)]) U U (.norm gY) (fun a ha=>?_) ?_
 . have M:c.O[a]? =some c.O[a]:=az ha;have ac3:=aL V.eK (fR M);generalize c.O[a]=x at ac3 M;have b1:(0:Int)<=Int.ofNat a/\Int.ofNat a<(Int.ofNat c.O.length):=⟨aA _,dr⟩;have b2:(strs c.O).length=c.O.length*1:=by rw[eN,bn]
   refine fV jI (sm9 p l w zs bs i a c x) fun g hg J=>?_;rcases jh hg with rfl|rfl
   . exact⟨G b1 (G b2 (G ac3 (G b1 (G b2 (G ac3 (G (by rw[gr,cO];rfl) (eS (oQ dr L)))))))),fun s3 uV=>.norm uV⟩
   . exact absurd (aK (J _ (au.2 rfl))) dr
 . refine fV jI (sm9 p l w zs bs i c.O.length c []) fun g hg J=>?_;rcases jh hg with rfl|rfl
   . exact absurd (aI (J _ (au.2 rfl))) dr
   refine⟨cW,fun s3 uV=>⟨by simp,?_⟩⟩;obtain⟨LA,hrA⟩:=smA p l w zs bs i c.O.length c;simp only[dY,mK,andThen];refine dh uV ?_;refine gP jI mo oL U hrA (dG ?_);exact⟨eS (oQ dr L),fun s4 JK=>qe s4 (.norm JK)⟩
theorem ac4(ho:Obs p zu zs w.Q lv yv)(hl:w.Q.length<=100000)(uY:∀c∈w.Q,c.O.length<=100000)(bs:List Bool)(hbs:bs.length=w.Q.length)(tv:Bool)(i:Nat)(c:hU)(rv:Bool)(qn:w.Q[i]? =some c)(Ia:bs[i]? =some rv)(htv:lv c.dg≠rv->tv=false){cs:Exit->St->Prop}
  (L0:∀s',fL ak 9 Tryz.f28 (ZJ tv (K (fK p l))) .ret s'->cs .ret s')
  (qe:lv c.dg=rv->∀s',gI ak 9 Tryz.f28.ntmps s' (sS p l w zs [(6,.dV false w.Q.length (me bs)),(7,iW (i+1))])->cs .normal s'):
  TG ak 9 Tryz.f28.ntmps (dU T0) (sS p l w zs [(6,.dV false w.Q.length (me bs)),(7,iW i)]) cs:=by
 have hi:i<w.Q.length:=(aH.1 qn).1;have kL:V.eK (eX (fJ w.Q) (i*3) 3)=V.eK c.d:=by
  obtain⟨X,h2⟩:=aH.1 qn;rw[<- h2];exact aL V.eK (yC w.Q i X)
 have yc:c∈w.Q:=bg qn;have hrc:=uY c yc;have a1:(0:Int)<=Int.ofNat i/\Int.ofNat i<(Int.ofNat w.Q.length):=⟨aA _,dr⟩;have a2:(me bs).length=w.Q.length*1:=by rw[si];omega
 refine c6 U ?_;have h25:c5 ak 25 [.ptr (some (4,0)),.str c.dg] (K (Ig p l w c)) 25 (.ew [.str c.da,p9 c.O,.int .i64 0]) (K (Ig p l w c)) 25:=
  qw (ns:=Vg p) (ho.h25 c yc) (by rcases p with⟨_|⟨_,_,_⟩,_⟩<;>kernel_rfl)
 have h18:c5 ak 18 [.ptr (some (4,0)),.str c.dg] (K (Ig p l w c)) 51 (.bool true) (K (Ig p l w c)) 51:=
  qw (ns:=Vg p) (ho.h18 c yc) (by rcases p with⟨_|⟨_,_,_⟩,_⟩<;>kernel_rfl)
 have h17:c5 ak 17 [.ptr (some (4,0)),.str c.dg] (K (Ig p l w c)) 51 (.bool (lv c.dg)) (K (Ig p l w c)) 51:=by
  have:=ho.h17 c yc;generalize lv c.dg=lb at this ⊢;exact qw (ns:=Vg p) this (by rcases p with⟨_|⟨_,_,_⟩,_⟩<;>kernel_rfl)
 refine fk (i:=1) U ?_;refine iw  2 (jI.jG ain h25) (sm6 p l w zs bs i c) (G a1 (G (lO _) (G kL (eS ⟨rfl,rfl,rfl⟩)))) ?_;show TG ak 9 Tryz.f28.ntmps (dw 2 JW) (sT p l w zs bs c i [(9,.str c.da),(10,p9 c.O),(11,.int .i64 0)]) _;refine c6 U ?_;obtain⟨L7,hr7⟩:=sm7 p l w zs bs i c (lv c.dg) rv;have c0:(V.bool !eI c.da c.da)=V.bool false:=by rw[gr,cO];rfl
 have c1:V.bool ((Int.ofNat c.O.length) !=(Int.ofNat c.O.length))=V.bool false:=by rw[bne_self_eq_false]
 refine gP ((jI.jG agV h18).jG agU h17) mo (ZJ tv (K (fK p l))) U hr7 fun g hg J=>?_;rcases jh hg with rfl|rfl
 . have c2:=J _ (au.2 rfl);have c2:(!lv c.dg==rv)=true:=c2;have fS:lv c.dg≠rv:=fun e=>by rw[e]at c2;cases rv<;>cases c2
   obtain rfl:=htv fS;exact⟨G c0 (G c1 (G ⟨rfl,rfl,rfl⟩ (G ⟨rfl,rfl,rfl⟩ (G a1 (G a2 (eS (ZK Ia))))))),.intro,fun s1 fQ=>L0 s1 fQ⟩
 have c2:=J _ (au.2 rfl);have c2:(!lv c.dg==rv)=false:=c2;have K6:lv c.dg=rv:=by
  cases X:lv c.dg<;>cases h2:rv<;>first|rfl|(rw[X,h2]at c2;cases c2)
 refine⟨G c0 (G c1 (G ⟨rfl,rfl,rfl⟩ (G ⟨rfl,rfl,rfl⟩ (G a1 (G a2 (eS (ZK Ia))))))),fun s1 fQ=>dh fQ ?_⟩;show TG ak 9 Tryz.f28.ntmps (dw 3 JW) (sT p l w zs bs c i [(10,p9 c.O)]) _;exact ac2 p l w bs i c hrc L (qe K6)
end
noncomputable abbrev JX:Code:=dO Tryz.f67
noncomputable abbrev aiq:Code:=dS (dw 6 JX)
section
variable(p:gx)(l:List RS)(kk:Int)(fl t0 i cS:Nat)(w:RS)
noncomputable abbrev air:Code:=dD (dD (dU aiq))
def XJ:af:=B2 9 p l
def JY(nx:ai)(m0 i e:Nat):af:=[(0,.ints .u32 gS),(1,.ints .u32 gR),(3,.cells [.ptr (some (4,0)),.dx (some (8,(0+i*2))) e (m0-i) 2]),(4,.cells (vW 9 (9+sh p) (10+sh p) p))]++lgB 9 p++[(9+sh p,.dy none p.C),(10+sh p,.dy none p.O),(8,.deep nx)]
def Ih(r:List (Nat×V)):St:=eL ([(0,P3),(1,.int .i64 kk),(4,.bool false)]++r) (K (XJ p l)) (11+sh p)
theorem cr1(q:gx)(l:List RS)(kk:Int):dc (fF fO 31 [.ptr (some (4,0)),.dx (some (9,0)) 1 1 1] (K (fK p l++[(9,.cells [.int .i64 kk])])) 10 (.ew [],K (B2 10 q l),(12+sh q))) [] 9 Tryz.f67 [0,1,4,5,6] (eU 4 JX) (cZ [P3,.int .i64 kk] (K (fK p l)) 9) [([],[fC [.ptr (some (4,0)),.dx (some (9,0)) 1 1 1] (K (fK p l++[(9,.cells [.int .i64 kk])])) 10],eP (Ih q l kk [(5,iW 0),(6,iW l.length)]))]
 :=by rcases p with⟨_|⟨_,_,_⟩,_⟩<;>rcases q with⟨_|⟨_,_,_⟩,_⟩<;>exact cT.ef
theorem cr2:dc fO [(21,.di (iW t0)),(22,.split)] 9 Tryz.f67 [0,1,4,5,6] (dS (dw 4 JX)) (Ih p l kk [(5,iW 0),(6,iW l.length)]) (iU (Int.ofNat t0==(0:Int)) ([V.int aj (IntKind.i64.wrap (Int.ofNat (BitVec.ofInt 64 kk&&&BitVec.ofInt 64 (255:Int)).toNat))=iW t0],eP (Ih p l kk [(5,iW 0),(6,iW 1)])) ([V.int aj (IntKind.i64.wrap (Int.ofNat (BitVec.ofInt 64 kk&&&BitVec.ofInt 64 (255:Int)).toNat))=iW t0],eP (Ih p l kk [(5,iW 0),(6,iW l.length)])))
 :=by rcases p with⟨_|⟨_,_,_⟩,_⟩<;>exact cT.ef
theorem cr3:dc fO [(24,.di (iW t0)),(25,.split),(27,.di (iW (cS-1)))] 9 Tryz.f67 [0,1,4,5,6] (dS (dw 5 JX)) (Ih p l kk [(5,iW 0),(6,iW cS)]) (iU (Int.ofNat t0==(255:Int)) ([V.int aj (IntKind.i64.wrap (Int.ofNat (BitVec.ofInt 64 kk&&&BitVec.ofInt 64 (255:Int)).toNat))=iW t0,V.int aj (IntKind.i64.wrap (Int.ofNat cS-(1:Int)))=iW (cS-1)],eP (Ih p l kk [(5,iW (cS-1)),(6,iW cS)])) ([V.int aj (IntKind.i64.wrap (Int.ofNat (BitVec.ofInt 64 kk&&&BitVec.ofInt 64 (255:Int)).toNat))=iW t0],eP (Ih p l kk [(5,iW 0),(6,iW cS)])))
 :=by rcases p with⟨_|⟨_,_,_⟩,_⟩<;>exact cT.ef
theorem cr4:dc fO [(29,.di (iW (cS-1)))] 9 Tryz.f67 [0,1,4,5,7] (dS aiq) (Ih p l kk [(5,iW fl),(6,iW cS)]) [([],[V.int aj (IntKind.i64.wrap (Int.ofNat cS-(1:Int)))=iW (cS-1)],eP (Ih p l kk [(5,iW fl),(7,iW (cS-1))]))]
 :=by rcases p with⟨_|⟨_,_,_⟩,_⟩<;>exact cT.ef
theorem cr5:dc (fF fO 28 [P3,w.v] (K (XJ p l)) (11+sh p) (.bool false,K (XJ p l),(11+sh p))) [(32,.split),(42,.di w.v),(34,.di (iW (i-1)))] 9 Tryz.f67 [0,1,4,5,7] (air) (Ih p l kk [(5,iW fl),(7,iW i)]) (iU (decide (Int.ofNat i>=Int.ofNat fl)) ([kJ i l.length,0+i*2+2<=(fN l).length,V.agg (lf.lQ (eX (fN l) (0+i*2) 2))=w.v,fC [P3,w.v] (K (XJ p l)) (11+sh p),V.int aj (IntKind.i64.wrap (Int.ofNat i-(1:Int)))=iW (i-1)],eP (Ih p l kk [(5,iW fl),(7,iW (i-1))])) ([],.to (.exit 0) (Ih p l kk [(5,iW fl),(7,iW i)])))
 :=by rcases p with⟨_|⟨_,_,_⟩,_⟩<;>exact cT.ef
theorem cr6:dc (fF fO 28 [P3,w.v] (K (XJ p l)) (11+sh p) (.bool true,K (XJ p l),(11+sh p))) [(32,.split),(42,.di w.v),(51,.di (iW (i+1)))] 9 Tryz.f67 [0,1,4,5,7] (air) (Ih p l kk [(5,iW fl),(7,iW i)]) (iU (decide (Int.ofNat i>=Int.ofNat fl)) ([kJ i l.length,0+i*2+2<=(fN l).length,V.agg (lf.lQ (eX (fN l) (0+i*2) 2))=w.v,fC [P3,w.v] (K (XJ p l)) (11+sh p),Ez i,(0:Int)<=Int.ofNat (i+1)/\Int.ofNat (i+1)<=(Int.ofNat l.length),(0:Int)<=Int.ofNat i/\Int.ofNat i<=(Int.ofNat (i+1))],.ret (.bool true) (K (JY p (fN l) l.length i ((i+1)-i))) (11+sh p)) ([],.to (.exit 0) (Ih p l kk [(5,iW fl),(7,iW i)])))
 :=by rcases p with⟨_|⟨_,_,_⟩,_⟩<;>exact cT.ef
end
section
variable(p:gx)(l:List RS)(w:RS){zu:Nat}{zs:List (B)}{Q:List hU}{lv:B->Bool}{yv:B->B}
theorem ac5(ho:Obs p zu zs w.Q lv yv)(hk:zu=w.Q.length)(hz:zs.length=w.ro.length)(H9:zs.length<=100000)(hl:w.Q.length<=100000)(uY:∀c∈w.Q,c.O.length<=100000):
  TG ak 9 Tryz.f28.ntmps (dw 3 D9) (sS p l w zs []) (fL ak 9 Tryz.f28 (ZJ (tx zu zs lv yv w) (K (fK p l)))):=by
 have hq:tx zu zs lv yv w=(decide (w.Q.map (fun c=>lv c.dg)=fu w)&&decide (zs.map (fun x=>(x,yv x))=w.ro)):=by
  unfold tx;rw[bE hk,bE hz,Bool.true_and,Bool.true_and]
 rw[hq];have h68:=fun(h:H rs) (n:Nat)=>XI w h n hl L uY;have Md:=Ac w;generalize fu w=bs at h68 Md;refine c6 U ?_;refine fV (jI.jG aip (h68 _ _)) (sm3 p l w zs bs) (dG ?_);refine⟨eS ⟨rfl,rfl,rfl⟩,fun s' ek=>dh ek ?_⟩;show TG ak 9 Tryz.f28.ntmps (dw 4 D9) _ _;refine c6 U ?_;refine c6 U ?_;refine fV jI (sm4 p l w zs bs) (dG ?_);refine⟨cW,fun s' ek=>?_⟩;refine jz (α:=Nat) 0 (fun i=>w.Q.length-i) (fun i=>i<=w.Q.length/\(w.Q.take i).map (fun c=>lv c.dg)=bs.take i) (fun i=>sS p l w zs [(6,.dV false w.Q.length (me bs)),(7,iW i)]) U U 0 ⟨aX _,rfl⟩ (.norm ek) fun i ⟨hi,he⟩=>?_;refine c6 U ?_;refine fV jI (sm5 p l w zs bs i) fun g hg J=>?_;rcases jh hg with rfl|rfl
 . have fH:i<w.Q.length:=by have:=aI (J _ (au.2 rfl));rw[jZ,jZ]at this;omega
   refine⟨cW,fun s0 GD=>dh GD ?_⟩;have qn:w.Q[i]? =some w.Q[i]:=az fH;have Ia:bs[i]? =some (bs[i]'(by omega)):=az L;generalize w.Q[i]=c at qn;generalize bs[i]'(by omega)=rv at Ia;refine ac4 p l w ho hl uY bs Md _ i c rv qn Ia (fun fS=>?_) (fun s1 h=>h) fun K6 s1 fQ=>⟨i+1,by show w.Q.length-(i+1)<_;omega,⟨fH,BJ (f:=fun c:hU=>lv c.dg) qn Ia K6 he⟩,fQ⟩;rw[bz (wh (f:=fun c:hU=>lv c.dg) qn Ia fS),Bool.false_and]
 . have AE:=aK (J _ (au.2 rfl));obtain rfl:i=w.Q.length:=by rw[jZ,jZ]at AE;omega
   rw[aU,<- Md,aU]at he;refine⟨cW,fun s1 fQ=>?_⟩;simp only[andThen,dY];refine dh fQ ?_;exact ac1 p l w ho hz H9 w.Q.length _ (by rw[bE he,Bool.true_and]) bs
theorem m28(ho:Obs p zu zs Q lv yv)(pT:zu=w.Q.length->w.Q=Q)(H9:zs.length<=100000)(hl:w.Q.length<=100000)(uY:∀c∈w.Q,c.O.length<=100000):
  c5 ak 28 [P3,w.v] (K (fK p l)) 9 (.bool (tx zu zs lv yv w)) (K (fK p l)) 9:=by
 refine c7 Tryz.func28 (code:=D9) U U ?_;have h23:c5 ak 23 [.ptr (some (4,0))] (K (EF p l w)) 10 (p9 zs) (K (EF p l w)) 10:=
  qw (ns:=Vg p) ho.h23 (by rcases p with⟨_|⟨_,_,_⟩,_⟩<;>kernel_rfl)
 have h20:c5 ak 20 [.ptr (some (4,0))] (K (EF p l w)) 27 (.int .i64 (Int.ofNat zu)) (K (EF p l w)) 27:=
  qw (ns:=Vg p) ho.h20 (by rcases p with⟨_|⟨_,_,_⟩,_⟩<;>kernel_rfl)
 refine iw  2 (jI.jG aim h23) (sm1 p l w zs) (eS ⟨rfl,rfl,rfl⟩) ?_;show TG ak 9 Tryz.f28.ntmps (dw 2 D9) _ _;refine c6 U ?_;obtain⟨L2,Ht⟩:=sm2 p l w zs zu;refine gP (jI.jG NZ h20) mo (ZJ (tx zu zs lv yv w) (K (fK p l))) U Ht fun g hg J=>?_;rcases xl hg with rfl|rfl|rfl
 . have c1:=J _ (au.2 rfl);have c1:(Int.ofNat zu !=Int.ofNat w.Q.length)=true:=c1;rw[Ea,Bool.not_eq_true']at c1;have hf:tx zu zs lv yv w=false:=by unfold tx;rw[c1,Bool.false_and]
   rw[hf];exact⟨eS ⟨rfl,rfl,rfl⟩,.intro,fun s1 fQ=>fQ⟩
 . have c1:=J _ (aM _ (au.2 rfl));have c1:(Int.ofNat zs.length !=Int.ofNat w.ro.length)=true:=c1;rw[Ea,Bool.not_eq_true']at c1;have hf:tx zu zs lv yv w=false:=by unfold tx;rw[c1,Bool.false_and,Bool.and_false]
   rw[hf];exact⟨eS ⟨rfl,rfl,rfl⟩,.intro,fun s1 fQ=>fQ⟩
 . have c0:=J _ (aQ ..);have c1:=J _ (aM _ (au.2 rfl));have c0:(Int.ofNat zu !=Int.ofNat w.Q.length)=false:=c0;have c1:(Int.ofNat zs.length !=Int.ofNat w.ro.length)=false:=c1;rw[Ea,Bool.not_eq_false']at c0 c1;have hk:=aI c0;have hz:=aI c1;refine⟨eS ⟨rfl,rfl,rfl⟩,fun s' ek=>dh ek ?_⟩;have EL:=ho;rw[<- pT hk]at EL;exact ac5 p l w EL hk hz H9 hl uY
end
theorem N0:31<Tryz.prog.funcs.size:=ax U
theorem Gf:28<Tryz.prog.funcs.size:=ax U
section
variable(kk:Nat)(p:gx)(l:List RS)
def crR:af:=match p.lo with
 |none=>Fi 0 8 9 p
 |some _=>Fi 8 9 10 p
def nC:Nat:=match p.lo with|none=>10|some _=>11
def ZL(kk:Int)(p q:gx):Prop:=c5 ak 31 [P3,.dx (some (7,0)) 1 1 1] (K (fM p++[(7,.cells [.int .i64 kk])])) 8 (.ew []) (K (crR q)) (nC q)
theorem yH{kk:Nat}(h:kk<=1000000):V.int aj (IntKind.i64.wrap (Int.ofNat (BitVec.ofInt 64 (kk:Int)&&&BitVec.ofInt 64 (255:Int)).toNat))=iW (kk%256):=by
 have e:(BitVec.ofInt 64 (kk:Int)&&&BitVec.ofInt 64 (255:Int)).toNat=kk%256:=by
  have X:(BitVec.ofInt 64 (kk:Int)).toNat=kk:=by
   rw[BitVec.toNat_ofInt];omega
  rw[BitVec.toNat_and,X,show(BitVec.ofInt 64 (255:Int)).toNat=2^8-1 from rfl,Nat.and_two_pow_sub_one_eq_mod]
 rw[e];exact aL _ (eV dr dr)
theorem tA{a b:Nat}:(Int.ofNat a==(b:Int))=decide (a=b):=by
 by_cases h:a=b
 . subst h;rw[bE rfl];exact cO _
 . rw[bz h];exact bG.2 fun q=>h (Int.ofNat.inj q)
def B3:Nat:=if kk%256=0 then 1 else l.length
def T2:Nat:=if kk%256=255 then B3 kk l-1 else 0
theorem PY(i:Nat)(w:RS)(h:l[i]? =some w):(List.drop (0+i*2) (fN l)).take (1*2)=fN [w]:=by
 obtain⟨hi,e⟩:=aH.1 h;have:=Ad l i hi;rw[e]at this;unfold eX at this;rw[bI];exact this
def nsK:List (Option Nat):=[some 0,some 1,some 2,some 4,XA 5 p,some 6,some 7,some 9]
abbrev nsN:List (Option Nat):=XB 9 (9+sh p) (10+sh p) 8 p
end
theorem N1{f:FuncId}{args:ag}{h:H rs}{tv:Bool}(p:gx)(l:List RS)(i:Nat)(w:RS)(hw:l[i]? =some w)(hh:c5 ak f args h 9 (.bool tv) (K (JY p (fN l) l.length i 1)) (11+sh p)):c5 ak f args h 9 (.bool tv) (K (tw p [w])) (nR p):=by
 have e:=PY l i w hw;have st:∀(nx:ai) (m0:Nat),Step 9 (JU (.bool tv) (K (JY p nx m0 i 1)) (11+sh p)) (JU (.bool tv) (K (ZH 9 p 1 ((List.drop (0+i*2) nx).take (1*2)))) (12+sh p)):=fun nx m0=>
  by rcases p with⟨_|⟨_,_,_⟩,_⟩<;>exact(Step.rb 3 1 (s2:=_) rfl).trans (.Af 5 (live:=[0]) U)
 have:=hh.step (st _ _);rw[e]at this;exact this
section
variable(p:gx)(l:List RS)
theorem m67(kk:Nat)(hk:kk<=1000000)(hl:l.length<=1000)(h0:0<l.length)(j:Nat)(w0:RS)(hj:T2 kk l<=j/\j<B3 kk l)(R1:l[j]? =some w0)
  (ZM:∀(i:Nat) (w:RS),l[i]? =some w->j<=i->i<B3 kk l->c5 ak 28 [P3,w.v] (K (fK p l)) 9 (.bool (decide (i=j))) (K (fK p l)) 9):
  TG ak 9 Tryz.f67.ntmps (dw 4 JX) (Ih p l (kk:Int) [(5,iW 0),(6,iW l.length)]) (fL ak 9 Tryz.f67 fun v h n9=>v= .bool true/\h=K (JY p (fN l) l.length j 1)/\n9=(11+sh p)):=by
 have hT:B3 kk l<=l.length:=by unfold B3;split<;>omega
 have aqC:∀(i:Nat) (w:RS),l[i]? =some w->j<=i->i<B3 kk l->c5 ak 28 [P3,w.v] (K (XJ p l)) (11+sh p) (.bool (decide (i=j))) (K (XJ p l)) (11+sh p):=by
  intro i w X h2 h3;have:=ZM i w X h2 h3;generalize decide (i=j)=tv at this ⊢;exact qw (ns:=nsN p) this (by rcases p with⟨_|⟨_,_,_⟩,_⟩<;>kernel_rfl)
 have go6:∀fl cS:Nat,fl=T2 kk l->cS=B3 kk l->TG ak 9 Tryz.f67.ntmps (dw 6 JX) (Ih p l (kk:Int) [(5,iW fl),(6,iW cS)]) (fL ak 9 Tryz.f67 fun v h n9=>v= .bool true/\h=K (JY p (fN l) l.length j 1)/\n9=(11+sh p)):=by
  intro fl cS hF hTe;refine c6 U ?_;refine c6 U ?_;obtain⟨L4,Cd⟩:=cr4 p l (kk:Int) fl cS;have hT1:V.int aj (IntKind.i64.wrap (Int.ofNat cS-(1:Int)))=iW (cS-1):=aL _ (by rw[eV dr dr,jZ,jZ];omega);refine gP jI mo oL U Cd (dG ?_);refine⟨eS hT1,fun s' ek=>?_⟩;refine jz (α:=Nat) 0 (fun i=>i) (fun i=>j<=i/\i<cS) (fun i=>Ih p l (kk:Int) [(5,iW fl),(7,iW i)]) U U (cS-1) ⟨L,L⟩ (.norm ek) fun i ⟨hi1,xW⟩=>?_;have M4:i<l.length:=by omega
  have hw:l[i]? =some l[i]:=az M4;have kL:V.agg (lf.lQ (eX (fN l) (0+i*2) 2))=(l[i]).v:=by rw[bI,Ad l i M4];rfl
  have ni:0+i*2+2<=(fN l).length:=by rw[qE];omega
  have Zs:=aqC i l[i] hw hi1 L;generalize l[i]=w at kL hw Zs;have a1:(0:Int)<=Int.ofNat i/\Int.ofNat i<(Int.ofNat l.length):=⟨aA _,dr⟩;by_cases Qm:i=j
  . subst Qm;rw[bE rfl]at Zs;obtain⟨L6,Me⟩:=cr6 p l (kk:Int) fl i w;refine gP (jI.jG Gf Zs) mo (fun v h n9=>v= .bool true/\h=K (JY p (fN l) l.length i 1)/\n9=(11+sh p)) U Me fun g hg J=>?_;rcases jh hg with rfl|rfl
    . refine⟨G a1 (G ni (G kL (G ⟨rfl,rfl,rfl⟩ (G (oQ dr L) (G ⟨aA _,dr⟩ (eS ⟨aA _,dr⟩)))))),⟨rfl,?_,rfl⟩,fun s1 fQ=>fQ⟩;have e1:i+1-i=1:=by omega
      rw[e1]
    . exact absurd (aK (J _ (au.2 rfl))) dr
  . rw[bz Qm]at Zs;refine fV (jI.jG Gf Zs) (cr5 p l (kk:Int) fl i w) fun g hg J=>?_;rcases jh hg with rfl|rfl
    . refine⟨G a1 (G ni (G kL (G ⟨rfl,rfl,rfl⟩ (eS (aL _ (by rw[eV dr dr,jZ,jZ];omega)))))),fun s1 fQ=>⟨i-1,L,⟨L,L⟩,.norm fQ⟩⟩
    . exact absurd (aK (J _ (au.2 rfl))) dr
 have go5:∀cS:Nat,cS=B3 kk l->TG ak 9 Tryz.f67.ntmps (dw 5 JX) (Ih p l (kk:Int) [(5,iW 0),(6,iW cS)]) (fL ak 9 Tryz.f67 fun v h n9=>v= .bool true/\h=K (JY p (fN l) l.length j 1)/\n9=(11+sh p)):=by
  intro cS hTe;have hT1:V.int aj (IntKind.i64.wrap (Int.ofNat cS-(1:Int)))=iW (cS-1):=aL _ (by rw[eV dr dr,jZ,jZ];omega);refine c6 U ?_;refine fV jI (cr3 p l (kk:Int) (kk%256) cS) fun g hg J=>?_;rcases jh hg with rfl|rfl
  . have c1:(Int.ofNat (kk%256)==((255:Nat):Int))=true:=J _ (au.2 rfl);rw[tA]at c1;exact⟨G (yH hk) (eS hT1),fun s' ek=>dh ek (go6 (cS-1) cS (by unfold T2;rw[aF (aI c1),hTe]) hTe)⟩
  . have c1:(Int.ofNat (kk%256)==((255:Nat):Int))=false:=J _ (au.2 rfl);rw[tA]at c1;exact⟨eS (yH hk),fun s' ek=>dh ek (go6 0 cS (by unfold T2;rw[aJ (aK c1)]) hTe)⟩
 refine c6 U ?_;refine fV jI (cr2 p l (kk:Int) (kk%256)) fun g hg J=>?_;rcases jh hg with rfl|rfl
 . have c1:(Int.ofNat (kk%256)==((0:Nat):Int))=true:=J _ (au.2 rfl);rw[tA]at c1;exact⟨eS (yH hk),fun s' ek=>dh ek (go5 1 (by unfold B3;rw[aF (aI c1)]))⟩
 . have c1:(Int.ofNat (kk%256)==((0:Nat):Int))=false:=J _ (au.2 rfl);rw[tA]at c1;exact⟨eS (yH hk),fun s' ek=>dh ek (go5 l.length (by unfold B3;rw[aJ (aK c1)]))⟩
end
theorem c67(p:gx)(q:gx)(l:List RS)(kk:Nat)(hk:kk<=1000000)(hl:l.length<=1000)(h0:0<l.length)(j0:Nat)(w0:RS)(hj:T2 kk l<=j0/\j0<B3 kk l)(R1:l[j0]? =some w0)(hC:ZL (kk:Int) p q)
  (ZM:∀(i:Nat) (w:RS),l[i]? =some w->j0<=i->i<B3 kk l->c5 ak 28 [P3,w.v] (K (fK q l)) 9 (.bool (decide (i=j0))) (K (fK q l)) 9):
  c5 ak 67 [P3,.int .i64 (kk:Int)] (K (fK p l)) 9 (.bool true) (K (tw q [w0])) (nR q):=by
 refine N1 q l j0 w0 R1 (c7 Tryz.func67 (code:=JX) U U ?_);have h31:c5 ak 31 [.ptr (some (4,0)),.dx (some (9,0)) 1 1 1] (K (fK p l++[(9,.cells [.int .i64 (kk:Int)])])) 10 (.ew []) (K (B2 10 q l)) (12+sh q):=
  uR (ns:=nsK p) hC 10 (by rcases p with⟨_|⟨_,_,_⟩,_⟩<;>rcases q with⟨_|⟨_,_,_⟩,_⟩<;>kernel_rfl)
 obtain⟨L1,B8⟩:=cr1 p q l (kk:Int);exact nP 4 (jI.jG N0 h31) mo U B8 (eS ⟨rfl,rfl,rfl⟩) (m67 q l kk hk hl h0 j0 w0 hj R1 ZM)
noncomputable abbrev yI:Code:=dO Tryz.f27
section
variable(p q:gx)(l l1:List RS)(x y z:Int)
def lD(d:B):af:=fK p l++[(9,lq x y z d)]
def lE(d:B):af:=moA 10 p l++[(9,lq x y z d)]
theorem d0(d:B){tv:Bool}:dc (fF fO 64 [P3,o6 x y z d] (K (lD p l x y z d)) 10 (.bool tv,K (lE q l1 x y z d),(13+sh q))) [(7,.di (.int .u8 0))] 9 Tryz.f27 [] (yI) (cZ [P3,o6 x y z d] (K (fK p l)) 9) [([],[V.int IntKind.u8 (x.tmod (10:Int))=V.int IntKind.u8 (0:Int),fC [P3,o6 x y z d] (K (lD p l x y z d)) 10],.ret (.bool tv) (K (tw q l1)) (nR q))]
 :=by rcases p with⟨_|⟨_,_,_⟩,_⟩<;>rcases q with⟨_|⟨_,_,_⟩,_⟩<;>exact cT.ef
theorem d1(d:B){tv:Bool}:dc (fF fO 64 [P3,o6 x y z d] (K (lD p l x y z d)) 10 (.bool tv,K (lE q l1 x y z d),(13+sh q))) [(7,.di (.int .u8 1))] 9 Tryz.f27 [] (yI) (cZ [P3,o6 x y z d] (K (fK p l)) 9) [([],[V.int IntKind.u8 (x.tmod (10:Int))=V.int IntKind.u8 (1:Int),fC [P3,o6 x y z d] (K (lD p l x y z d)) 10],.ret (.bool tv) (K (tw q l1)) (nR q))]
 :=by rcases p with⟨_|⟨_,_,_⟩,_⟩<;>rcases q with⟨_|⟨_,_,_⟩,_⟩<;>exact cT.ef
theorem d2(d:B){tv:Bool}:dc (fF fO 64 [P3,o6 x y z d] (K (lD p l x y z d)) 10 (.bool tv,K (lE q l1 x y z d),(13+sh q))) [(7,.di (.int .u8 2))] 9 Tryz.f27 [] (yI) (cZ [P3,o6 x y z d] (K (fK p l)) 9) [([],[V.int IntKind.u8 (x.tmod (10:Int))=V.int IntKind.u8 (2:Int),fC [P3,o6 x y z d] (K (lD p l x y z d)) 10],.ret (.bool tv) (K (tw q l1)) (nR q))]
 :=by rcases p with⟨_|⟨_,_,_⟩,_⟩<;>rcases q with⟨_|⟨_,_,_⟩,_⟩<;>exact cT.ef
theorem d3(d:B){tv:Bool}:dc (fF fO 64 [P3,o6 x y z d] (K (lD p l x y z d)) 10 (.bool tv,K (lE q l1 x y z d),(13+sh q))) [(7,.di (.int .u8 3))] 9 Tryz.f27 [] (yI) (cZ [P3,o6 x y z d] (K (fK p l)) 9) [([],[V.int IntKind.u8 (x.tmod (10:Int))=V.int IntKind.u8 (3:Int),fC [P3,o6 x y z d] (K (lD p l x y z d)) 10],.ret (.bool tv) (K (tw q l1)) (nR q))]
 :=by rcases p with⟨_|⟨_,_,_⟩,_⟩<;>rcases q with⟨_|⟨_,_,_⟩,_⟩<;>exact cT.ef
theorem d4(d:B){tv:Bool}:dc (fF fO 65 [P3,o6 x y z d] (K (lD p l x y z d)) 10 (.bool tv,K (lE q l1 x y z d),(13+sh q))) [(7,.di (.int .u8 4))] 9 Tryz.f27 [] (yI) (cZ [P3,o6 x y z d] (K (fK p l)) 9) [([],[V.int IntKind.u8 (x.tmod (10:Int))=V.int IntKind.u8 (4:Int),fC [P3,o6 x y z d] (K (lD p l x y z d)) 10],.ret (.bool tv) (K (tw q l1)) (nR q))]
 :=by rcases p with⟨_|⟨_,_,_⟩,_⟩<;>rcases q with⟨_|⟨_,_,_⟩,_⟩<;>exact cT.ef
theorem d5(d:B){tv:Bool}:dc (fF fO 65 [P3,o6 x y z d] (K (lD p l x y z d)) 10 (.bool tv,K (lE q l1 x y z d),(13+sh q))) [(7,.di (.int .u8 5))] 9 Tryz.f27 [] (yI) (cZ [P3,o6 x y z d] (K (fK p l)) 9) [([],[V.int IntKind.u8 (x.tmod (10:Int))=V.int IntKind.u8 (5:Int),fC [P3,o6 x y z d] (K (lD p l x y z d)) 10],.ret (.bool tv) (K (tw q l1)) (nR q))]
 :=by rcases p with⟨_|⟨_,_,_⟩,_⟩<;>rcases q with⟨_|⟨_,_,_⟩,_⟩<;>exact cT.ef
theorem d6(d:B){tv:Bool}:dc (fF fO 65 [P3,o6 x y z d] (K (lD p l x y z d)) 10 (.bool tv,K (lE q l1 x y z d),(13+sh q))) [(7,.di (.int .u8 6))] 9 Tryz.f27 [] (yI) (cZ [P3,o6 x y z d] (K (fK p l)) 9) [([],[V.int IntKind.u8 (x.tmod (10:Int))=V.int IntKind.u8 (6:Int),fC [P3,o6 x y z d] (K (lD p l x y z d)) 10],.ret (.bool tv) (K (tw q l1)) (nR q))]
 :=by rcases p with⟨_|⟨_,_,_⟩,_⟩<;>rcases q with⟨_|⟨_,_,_⟩,_⟩<;>exact cT.ef
theorem d9(d:B)(kk:Int):dc (fF fO 67 [P3,.int .i64 kk] (K (lD p l x y z d)) 10 (.bool true,K (lE q l1 x y z d),(13+sh q))) [(7,.di (.int .u8 9)),(70,.di (.int .i64 kk))] 9 Tryz.f27 [] (yI) (cZ [P3,o6 x y z d] (K (fK p l)) 9) [([],[V.int IntKind.u8 (x.tmod (10:Int))=V.int IntKind.u8 (9:Int),V.int aj (IntKind.i64.wrap (IntKind.i64.wrap y*IntKind.i64.wrap ((1:Int)+IntKind.i64.wrap (IntKind.i64.wrap (z.tmod (2:Int))*(3:Int)))))=V.int aj kk,fC [P3,.int .i64 kk] (K (lD p l x y z d)) 10],.ret (.bool true) (K (tw q l1)) (nR q))]
 :=by rcases p with⟨_|⟨_,_,_⟩,_⟩<;>rcases q with⟨_|⟨_,_,_⟩,_⟩<;>exact cT.ef
end
section
variable(p q:gx)(l:List RS)
def lF(g c r:Nat)(nx:ai)(m0 i:Nat)(x y z:Int)(d:B):af:=[(0,.ints .u32 gS),(1,.ints .u32 gR),(3,.cells [.ptr (some (4,0)),.dx (some (8,(0+i*2))) (m0-i) (m0-i) 2]),(4,.cells (vW g c r p))]++lgB g p++[(c,.dy none p.C),(r,.dy none p.O),(8,.deep nx),(9,lq x y z d)]
def lG(g c r a:Nat)(nx:ai)(w:RS)(ex:af):af:=[(0,.ints .u32 gS),(1,.ints .u32 gR),(3,.cells [.ptr (some (4,0)),.dx (some (a,0)) 1 1 2]),(4,.cells (vW g c r p))]++lgB g p++[(c,.dy none p.C),(r,.dy none p.O),(8,.deep nx)]++ex++[(a,bx w)]
theorem d7(i:Nat)(x y z:Int)(d:B){u:Int}:dc (fF fO 66 [.ptr (some (4,0))] (K (lF p 5 6 7 (fN l) l.length i x y z d)) 25 (.int .i64 u,K (lF q 25 (25+sh q) (26+sh q) (fN l) l.length i x y z d),(27+sh q))) [(7,.di (.int .u8 7)),(35,.di (iW i))] 9 Tryz.f27 [] (yI) (cZ [P3,o6 x y z d] (K (fK p l)) 9) [([],[V.int IntKind.u8 (x.tmod (10:Int))=V.int IntKind.u8 (7:Int),V.int aj (IntKind.i64.wrap ((Int.ofNat l.length)-(1:Int)))=iW i,(0:Int)<=Int.ofNat i/\Int.ofNat i<=(Int.ofNat l.length),fC [.ptr (some (4,0))] (K (lF p 5 6 7 (fN l) l.length i x y z d)) 25],.ret (.bool (u==(0:Int))) (K (JY q (fN l) l.length i (l.length-i))) (11+sh q))]
 :=by rcases p with⟨_|⟨_,_,_⟩,_⟩<;>rcases q with⟨_|⟨_,_,_⟩,_⟩<;>exact cT.ef
theorem d8(sn w:RS)(x y z:Int)(d:B){u:Int}:dc (fF (fF (fF fO 29 [P3] (K (lD p l x y z d)) 10 (sn.v,K (lD p l x y z d),10)) 32 [sn.v] (K (lD p l x y z d)) 10 (w.v,K (lD p l x y z d),10)) 19 [.ptr (some (4,0))] (K (lG p 5 6 7 10 (fN l) w [(9,lq x y z d)])) 11 (.int .i64 u,K (lG q 11 (11+sh q) (12+sh q) 10 (fN l) w [(9,lq x y z d)]),(13+sh q))) [(7,.di (.int .u8 8))] 9 Tryz.f27 [] (yI) (cZ [P3,o6 x y z d] (K (fK p l)) 9) [([],[V.int IntKind.u8 (x.tmod (10:Int))=V.int IntKind.u8 (8:Int),fC [P3] (K (lD p l x y z d)) 10,fC [sn.v] (K (lD p l x y z d)) 10,fC [.ptr (some (4,0))] (K (lG p 5 6 7 10 (fN l) w [(9,lq x y z d)])) 11],.ret (.bool (u==(0:Int))) (K (lG q 9 (9+sh q) (10+sh q) (11+sh q) (fN l) w [])) (12+sh q))]
 :=by rcases p with⟨_|⟨_,_,_⟩,_⟩<;>rcases q with⟨_|⟨_,_,_⟩,_⟩<;>exact cT.ef
end
def nt(s:RS)(y z:Nat):B:=if y%4=0 then[]else k9 s z
theorem N2(y:Nat):((y:Int).tmod (4:Int)==(0:Int))=decide (y%4=0):=by
 rw[bZ L];by_cases h:y%4=0
 . rw[bE h];exact beq_iff_eq.2 L
 . rw[bz h];exact bG.2 L
section
variable(p q:gx)(l:List RS)(s:RS)(x y z:Nat)
theorem ais(d:B)(hy:y<=255)(hz:z<=255)(hs:s.Q.length<=100000)(hr:s.ro.length<64)(hl:l.length<=999)
  {u:Int} {tv:Bool} (hv:tv=true/\u=(k8 s (Gc y) (nt s y z)).er\/tv=false/\(k8 s (Gc y) (nt s y z)).ch=true/\u≠(k8 s (Gc y) (nt s y z)).er)
  (hS:qf 16 [.str (Gc y),.str (nt s y z)] p (.int .i64 u) q):
  c5 ak 65 [P3,o6 x y z d] (K (fK p (l++[s]))) 9 (.bool tv) (K (tw q (oT (l++[s]) (k8 s (Gc y) (nt s y z))))) (nR q):=by
 have h29:=m29 p l s L;have h89:=m89 p l s z hz L L;have KI:=Xy y;have h90:=fun(h:H rs) (n:Nat)=>XG s (Gc y) (nt s y z) h n hs hr (fun e=>by rw[e]at KI;cases KI) L;have h91:=fun(h:H rs) (n:Nat)=>XH y hy h n;have ni:(l++[s]).length<=1000:=by rw[ay];simp;omega
 have go:∀cs,TG ak 9 Tryz.f65.ntmps (dw 5 yG) (sYs q (l++[s]) (k8 s (Gc y) (nt s y z)) u) cs->TG ak 9 Tryz.f65.ntmps yG (cZ [P3,o6 x y z d] (K (fK p (l++[s]))) 9) cs:=by
  intro cs h;generalize l++[s]=fA at h29 h89 h ⊢;generalize k8 s (Gc y) (nt s y z)=r at h90 h;have k89:c5 ak 89 [P3,.int .u8 (z:Int)] (K (fK p fA++[(9,lq x y z d)])) 10 (.str (k9 s z)) (K (fK p fA++[(9,lq x y z d)])) 10:=by
   generalize k9 s z=w at h89 ⊢;exact qw (ns:=Vf p) h89 (by rcases p with⟨_|⟨_,_,_⟩,_⟩<;>kernel_rfl)
  refine iw  2 (jI.jG TW k89) (yp1 p fA x y z d (k9 s z)) (eS ⟨rfl,rfl,rfl⟩) ?_;show TG ak 9 Tryz.f65.ntmps (dw 2 yG) (sYq p fA x y z d (k9 s z)) cs;have go2:∀e,e=nt s y z->TG ak 9 Tryz.f65.ntmps (dw 3 yG) (sYq p fA x y z d e) cs:=by
   intro e he;rw[<- he]at hS h90;clear he;have k29:c5 ak 29 [P3] (K (fK p fA++[(9,lq x y z d)])) 19 s.v (K (fK p fA++[(9,lq x y z d)])) 19:=
    qw (ns:=Vf p) h29 (by rcases p with⟨_|⟨_,_,_⟩,_⟩<;>kernel_rfl)
   generalize Gc y=nm at hS h90 h91;refine c6 U ?_;refine fV (((jI.jG BI k29).jG ZI (h91 _ _)).jG aii (h90 _ _)) (yp3 p fA s x y z d e nm r) (dG ?_);refine⟨G ⟨rfl,rfl,rfl⟩ (G ⟨rfl,rfl,rfl⟩ (eS ⟨rfl,rfl,rfl⟩)),fun s' ek=>dh ek ?_⟩;show TG ak 9 Tryz.f65.ntmps (dw 4 yG) (sYr p fA x y z d e r) cs;refine c6 U ?_;have hS2:c5 ak 16 [.ptr (some (4,0)),.str nm,.str e] (K (fK p fA++[(9,lq x y z d),(10,Gd r)])) 21 (.int .i64 u) (K (B2 21 q fA++[(9,lq x y z d),(10,Gd r)])) (23+sh q):=
    uR (ns:=Vg p) hS 21 (by rcases p with⟨_|⟨_,_,_⟩,_⟩<;>rcases q with⟨_|⟨_,_,_⟩,_⟩<;>kernel_rfl)
   refine fV ((jI.jG ZI (h91 _ _)).jG Zu hS2) (yp4 p q fA x y z d e nm r u) (dG ?_);exact⟨G ⟨rfl,rfl,rfl⟩ (eS ⟨rfl,rfl,rfl⟩),fun s' ek=>dh ek h⟩
  refine c6 U ?_;refine fV jI (yp2 p fA x y z d (k9 s z)) fun g hg J=>?_;rcases jh hg with rfl|rfl
  . have c1:decide (y%4=0)=true:=(N2 y).symm.trans (J _ (au.2 rfl));exact⟨cW,fun s' ek=>dh ek (go2 [] (by unfold nt;rw[aF (aI c1)]))⟩
  . have c1:decide (y%4=0)=false:=(N2 y).symm.trans (J _ (au.2 rfl));exact⟨cW,fun s' ek=>dh ek (go2 (k9 s z) (by unfold nt;rw[aJ (aK c1)]))⟩
 generalize k8 s (Gc y) (nt s y z)=r at go hv;generalize l++[s]=fA at go ni;refine NY q fA r (fun Ba=>?_) (fun Ba=>?_)
 . refine c7 Tryz.func65 (code:=yG) U U (go _ ?_);refine c6 U ?_;obtain⟨L6,Me⟩:=yp5 q fA r u;rw[NX]at Me;refine gP jI mo oL U Me fun g hg J=>?_;rcases jh hg with rfl|rfl
   . refine⟨G (by rw[qE];omega) (G dP (eS (JV L))),fun s' ek=>dh ek ?_⟩;rcases hv with⟨rfl,rfl⟩|⟨rfl,_,fS⟩
     . refine eZ jI (yp7 q (fA.length+1) (fN (fA++[r.s])) r) (dG ?_);exact⟨eS (HT _),_,_,_,rfl,rfl,rfl,rfl⟩
     . refine eZ jI (aqy q (fA.length+1) (fN (fA++[r.s])) r u) (dG ?_);exact⟨eS (aL V.bool (bG.2 fS)),_,_,_,rfl,rfl,rfl,rfl⟩
   . have c1:r.ch=false:=J _ (au.2 rfl);rw[Ba]at c1;cases c1
 . refine c7 Tryz.func65 (code:=yG) U U (go _ ?_);refine c6 U ?_;refine fV jI (yp5 q fA r u) fun g hg J=>?_;rcases jh hg with rfl|rfl
   . have c1:r.ch=true:=J _ (au.2 rfl);rw[Ba]at c1;cases c1
   . refine⟨cW,fun s' ek=>dh ek ?_⟩;obtain⟨rfl,rfl⟩:tv=true/\u=r.er:=hv.resolve_right fun h=>by rw[Ba]at h;cases h.2.1
     refine eZ jI (yp8 q fA r) (dG ?_);exact⟨eS (HT _),_,_,_,rfl,rfl,rfl,rfl⟩
theorem m65(d:B)(hy:y<=255)(hz:z<=255)(hs:s.Q.length<=100000)(hr:s.ro.length<64)(hl:l.length<=999)
  (hS:qf 16 [.str (Gc y),.str (nt s y z)] p (.int .i64 (k8 s (Gc y) (nt s y z)).er) q):
  c5 ak 65 [P3,o6 x y z d] (K (fK p (l++[s]))) 9 (.bool true) (K (tw q (oT (l++[s]) (k8 s (Gc y) (nt s y z))))) (nR q):=ais p q l s x y z d hy hz hs hr hl (.inl ⟨rfl,rfl⟩) hS
end
theorem N3:64<Tryz.prog.funcs.size:=ax U
theorem T3:65<Tryz.prog.funcs.size:=ax U
theorem ait:67<Tryz.prog.funcs.size:=ax U
theorem aiu:32<Tryz.prog.funcs.size:=ax U
theorem ZN:19<Tryz.prog.funcs.size:=ax U
theorem Fj{x v:Nat}(h:x%10=v):V.int IntKind.u8 ((x:Int).tmod (10:Int))=V.int IntKind.u8 (v:Int):=aL _ (by rw[bZ L];omega)
def XK(y z:Nat):Nat:=y*(1+z%2*3)
theorem ac6{y z:Nat}(hy:y<=255):V.int aj (IntKind.i64.wrap (IntKind.i64.wrap (y:Int)*IntKind.i64.wrap ((1:Int)+IntKind.i64.wrap (IntKind.i64.wrap ((z:Int).tmod (2:Int))*(3:Int)))))=V.int aj ((XK y z:Nat):Int):=by
 have e1:IntKind.i64.wrap (y:Int)=(y:Int):=eV L L;have hz:z%2=0\/z%2=1:=by omega
 have e2:(z:Int).tmod 2=((z%2:Nat):Int):=by rw[bZ L];rfl
 rw[e1,e2];unfold XK;rcases hz with h|h
 . rw[h,show IntKind.i64.wrap ((1:Int)+IntKind.i64.wrap (IntKind.i64.wrap ((0:Nat):Int)*3))=1 from rfl];exact aL _ (by rw[eV L L];simp)
 . rw[h,show IntKind.i64.wrap ((1:Int)+IntKind.i64.wrap (IntKind.i64.wrap ((1:Nat):Int)*3))=4 from rfl];exact aL _ (by rw[eV L L];simp)
theorem XM(s:RS)(h:H rs)(n:Nat)(X:s.Q.length<=100000)(h2:s.ro.length<=1000000)(h3:∀c∈s.Q,c.O.length<=100000):c5 ak 32 [s.v] h n (gC s).v h n:=by
 have key:c5 ak 32 [s.v] h n (gC ⟨gG (fJ s.Q),pZ (fD s.ro)⟩).v h n:=by
  intro E w dm ra g hd;refine TP.2 _ h n (okS s++[s.Q.length<=100000,∀c∈gG (fJ s.Q),c.O.length<=100000]) _ _ _ rfl ?_ E w dm ra g hd U;refine jR (D5 L h2) ?_;rw[j9];exact G X (eS h3)
 rw[j9,sG]at key;exact key
section
variable(p:gx)(q:gx)(l l1:List RS)(x y z:Nat)(d:B)
theorem aiv{tv:Bool}(M:x%10<=3)(h:c5 ak 64 [P3,o6 x y z d] (K (fK p l)) 9 (.bool tv) (K (tw q l1)) (nR q)):c5 ak 27 [P3,o6 x y z d] (K (fK p l)) 9 (.bool tv) (K (tw q l1)) (nR q):=by
 have k1:c5 ak 64 [P3,o6 x y z d] (K (lD p l x y z d)) 10 (.bool tv) (K (lE q l1 x y z d)) (13+sh q):=
  uR (ns:=Vf p) h 10 (by rcases p with⟨_|⟨_,_,_⟩,_⟩<;>rcases q with⟨_|⟨_,_,_⟩,_⟩<;>kernel_rfl)
 refine c7 Tryz.func27 (code:=yI) U U ?_;rcases(by omega:x%10=0\/x%10=1\/x%10=2\/x%10=3)with e|e|e|e
 . refine eZ (jI.jG N3 k1) (d0 p q l l1 x y z d) (dG ?_);exact⟨G (Fj e) (eS ⟨rfl,rfl,rfl⟩),_,_,_,rfl,rfl,rfl,rfl⟩
 . refine eZ (jI.jG N3 k1) (d1 p q l l1 x y z d) (dG ?_);exact⟨G (Fj e) (eS ⟨rfl,rfl,rfl⟩),_,_,_,rfl,rfl,rfl,rfl⟩
 . refine eZ (jI.jG N3 k1) (d2 p q l l1 x y z d) (dG ?_);exact⟨G (Fj e) (eS ⟨rfl,rfl,rfl⟩),_,_,_,rfl,rfl,rfl,rfl⟩
 . refine eZ (jI.jG N3 k1) (d3 p q l l1 x y z d) (dG ?_);exact⟨G (Fj e) (eS ⟨rfl,rfl,rfl⟩),_,_,_,rfl,rfl,rfl,rfl⟩
theorem aiw{tv:Bool}(M:4<=x%10)(Rp:x%10<=6)(h:c5 ak 65 [P3,o6 x y z d] (K (fK p l)) 9 (.bool tv) (K (tw q l1)) (nR q)):c5 ak 27 [P3,o6 x y z d] (K (fK p l)) 9 (.bool tv) (K (tw q l1)) (nR q):=by
 have k1:c5 ak 65 [P3,o6 x y z d] (K (lD p l x y z d)) 10 (.bool tv) (K (lE q l1 x y z d)) (13+sh q):=
  uR (ns:=Vf p) h 10 (by rcases p with⟨_|⟨_,_,_⟩,_⟩<;>rcases q with⟨_|⟨_,_,_⟩,_⟩<;>kernel_rfl)
 refine c7 Tryz.func27 (code:=yI) U U ?_;rcases(by omega:x%10=4\/x%10=5\/x%10=6)with e|e|e
 . refine eZ (jI.jG T3 k1) (d4 p q l l1 x y z d) (dG ?_);exact⟨G (Fj e) (eS ⟨rfl,rfl,rfl⟩),_,_,_,rfl,rfl,rfl,rfl⟩
 . refine eZ (jI.jG T3 k1) (d5 p q l l1 x y z d) (dG ?_);exact⟨G (Fj e) (eS ⟨rfl,rfl,rfl⟩),_,_,_,rfl,rfl,rfl,rfl⟩
 . refine eZ (jI.jG T3 k1) (d6 p q l l1 x y z d) (dG ?_);exact⟨G (Fj e) (eS ⟨rfl,rfl,rfl⟩),_,_,_,rfl,rfl,rfl,rfl⟩
theorem aqE(M:x%10=9)(hy:y<=255)(h:c5 ak 67 [P3,.int .i64 ((XK y z:Nat):Int)] (K (fK p l)) 9 (.bool true) (K (tw q l1)) (nR q)):c5 ak 27 [P3,o6 x y z d] (K (fK p l)) 9 (.bool true) (K (tw q l1)) (nR q):=by
 have k1:c5 ak 67 [P3,.int .i64 ((XK y z:Nat):Int)] (K (lD p l x y z d)) 10 (.bool true) (K (lE q l1 x y z d)) (13+sh q):=
  uR (ns:=Vf p) h 10 (by rcases p with⟨_|⟨_,_,_⟩,_⟩<;>rcases q with⟨_|⟨_,_,_⟩,_⟩<;>kernel_rfl)
 refine c7 Tryz.func27 (code:=yI) U U ?_;refine eZ (jI.jG ait k1) (d9 p q l l1 x y z d ((XK y z:Nat):Int)) (dG ?_);exact⟨G (Fj M) (G (ac6 hy) (eS ⟨rfl,rfl,rfl⟩)),_,_,_,rfl,rfl,rfl,rfl⟩
theorem aix{u:Int}(s:RS)(M:x%10=7)(hl:l.length<=1000)(h:qf 66 [] p (.int .i64 u) q):c5 ak 27 [P3,o6 x y z d] (K (fK p (l++[s]))) 9 (.bool (u==(0:Int))) (K (tw q [s])) (nR q):=by
 have ni:(l++[s]).length=l.length+1:=by rw[ay];rfl
 have kL:(l++[s])[l.length]? =some s:=by rw[cq (aC _),Nat.sub_self];rfl
 generalize l++[s]=fA at ni kL;refine N1 q fA l.length s kL ?_;refine c7 Tryz.func27 (code:=yI) U U ?_;obtain⟨be,hr⟩:=d7 p q fA l.length x y z d (u:=u);have hi:V.int aj (IntKind.i64.wrap ((Int.ofNat fA.length)-(1:Int)))=iW l.length:=aL _ (by rw[ni,eV dr dr,jZ,jZ];omega);have hb:(0:Int)<=Int.ofNat l.length/\Int.ofNat l.length<=(Int.ofNat fA.length):=⟨aA _,by rw[ni,jZ,jZ];omega⟩;have e1:fA.length-l.length=1:=by omega
 have k1:c5 ak 66 [.ptr (some (4,0))] (K (lF p 5 6 7 (fN fA) fA.length l.length x y z d)) 25 (.int .i64 u) (K (lF q 25 (25+sh q) (26+sh q) (fN fA) fA.length l.length x y z d)) (27+sh q):=by
  generalize l.length=i0;generalize fA.length=m0;generalize fN fA=nx;exact uR (ns:=Vg p) h 25 (by rcases p with⟨_|⟨_,_,_⟩,_⟩<;>rcases q with⟨_|⟨_,_,_⟩,_⟩<;>kernel_rfl)
 refine ij (jI.jG ah7 k1) mo _ U hr (dG ?_);exact⟨G (Fj M) (G hi (G hb (eS ⟨rfl,rfl,rfl⟩))),_,_,_,rfl,rfl,by rw[e1],rfl⟩
end
theorem aiy{u:Int}(p:gx)(q:gx)(l:List RS)(sn:RS)(x y z:Nat)(d:B)(M:x%10=8)(hl:l.length<=1000)(X:sn.Q.length<=100000)(h2:sn.ro.length<=1000000)(h3:∀c∈sn.Q,c.O.length<=100000)(h:qf 19 [] p (.int .i64 u) q):
  c5 ak 27 [P3,o6 x y z d] (K (fK p (l++[sn]))) 9 (.bool (u==(0:Int))) (K (tw q [gC sn])) (nR q):=by
 have h29:=m29 p l sn L;have h32:=fun(h:H rs) (n:Nat)=>XM sn h n X h2 h3;generalize l++[sn]=fA at h29 ⊢;generalize gC sn=w at h32 ⊢;have k29:c5 ak 29 [P3] (K (lD p fA x y z d)) 10 sn.v (K (lD p fA x y z d)) 10:=
  qw (ns:=Vf p) h29 (by rcases p with⟨_|⟨_,_,_⟩,_⟩<;>kernel_rfl)
 have k1:c5 ak 19 [.ptr (some (4,0))] (K (lG p 5 6 7 10 (fN fA) w [(9,lq x y z d)])) 11 (.int .i64 u) (K (lG q 11 (11+sh q) (12+sh q) 10 (fN fA) w [(9,lq x y z d)])) (13+sh q):=by
  generalize fN fA=nx;exact uR (ns:=Vg p) h 11 (by rcases p with⟨_|⟨_,_,_⟩,_⟩<;>rcases q with⟨_|⟨_,_,_⟩,_⟩<;>kernel_rfl)
 have key:c5 ak 27 [P3,o6 x y z d] (K (fK p fA)) 9 (.bool (u==(0:Int))) (K (lG q 9 (9+sh q) (10+sh q) (11+sh q) (fN fA) w [])) (12+sh q):=by
  refine c7 Tryz.func27 (code:=yI) U U ?_;refine eZ (((jI.jG BI k29).jG aiu (h32 _ _)).jG ZN k1) (d8 p q fA sn w x y z d (u:=u)) (dG ?_);exact⟨G (Fj M) (G ⟨rfl,rfl,rfl⟩ (G ⟨rfl,rfl,rfl⟩ (eS ⟨rfl,rfl,rfl⟩))),_,_,_,rfl,rfl,rfl,rfl⟩
 have st:∀nx,Step 9 (JU (.bool (u==(0:Int))) (K (lG q 9 (9+sh q) (10+sh q) (11+sh q) nx w [])) (12+sh q)) (JU (.bool (u==(0:Int))) (K (tw q [w])) (nR q)):=fun nx=>
  (Step.deep [(11+sh q)] (s2:=JU (.bool (u==(0:Int))) (K (ZH 9 q 1 (fN [w])++[(8,.deep nx)])) (12+sh q)) (by rcases q with⟨_|⟨_,_,_⟩,_⟩<;>kernel_rfl)).trans (.Af 5 (live:=[0]) (by rcases q with⟨_|⟨_,_,_⟩,_⟩<;>kernel_rfl))
 exact key.step (st _)
def oU:List hU->Nat->ae
 | [],_=>[]
 |c::l,i=>(.str c.dg,tf c.da c.O (i:Int))::oU l (i+1)
theorem JZ:∀(a b:List hU) (i:Nat),oU (a++b) i=oU a i++oU b (i+a.length)
 | [],_,_=>rfl
 |c::a,b,i=>by
  show(_::oU (a++b) (i+1))=_::(oU a (i+1)++oU b (i+(a.length+1)));rw[JZ a b (i+1),show i+1+a.length=i+(a.length+1)by omega]
theorem J0:∀(l:List hU) (i:Nat),(oU l i).length=l.length
 | [],_=>rfl
 |_::l,i=>aL (·+1) (J0 l (i+1))
theorem qF{x:B}:∀{Q:List hU} {i:Nat},(∀c∈Q,c.dg≠x)->dj (.str x) (oU Q i)=none
 | [],_,_=>rfl
 |c::l,i,h=>by
  show dj (.str x) ((.str c.dg,_)::oU l (i+1))=none;rw[gy,aJ (by intro q;simp only[lf.str.injEq]at q;exact h c (by simp) q)];exact qF fun c J=>h c (by simp[J])
theorem mz:∀{Q:List hU} {i j:Nat} {c:hU},(Q.map hU.dg).Nodup->Q[j]? =some c->dj (.str c.dg) (oU Q i)=some (tf c.da c.O ((i+j:Nat):Int))
 | [],_,_,_,_,h=>by simp at h
 |a::l,i,0,c,_,h=>by
  simp only[bK,an]at h;subst h;show dj (.str a.dg) ((.str a.dg,_)::oU l (i+1))=_;rw[gy,aF rfl];rfl
 |a::l,i,j+1,c,hn,h=>by
  simp only[cD]at h;rw[bX,cn]at hn;have J:c∈l:=bg h;show dj (.str c.dg) ((.str a.dg,_)::oU l (i+1))=_;rw[gy,aJ (by intro q;simp only[lf.str.injEq]at q;exact hn.1 (by rw[q];exact bF.2 ⟨c,J,rfl⟩)),mz hn.2 h,show i+1+j=i+(j+1)by omega]
theorem J1{x:B}:∀{Q:List hU} {i:Nat},(∀c∈Q,c.dg≠x)->tq x Q i= -1
 | [],_,_=>rfl
 |c::l,i,h=>by
  unfold tq;rw[aJ (h c (by simp))];exact J1 fun c J=>h c (by simp[J])
theorem J2:∀{Q:List hU} {i j:Nat} {c:hU},(Q.map hU.dg).Nodup->Q[j]? =some c->tq c.dg Q i=((i+j:Nat):Int)
 | [],_,_,_,_,h=>by simp at h
 |a::l,i,0,c,_,h=>by
  simp only[bK,an]at h;subst h;unfold tq;rw[aF rfl];rfl
 |a::l,i,j+1,c,hn,h=>by
  simp only[cD]at h;rw[bX,cn]at hn;have J:c∈l:=bg h;unfold tq;rw[aJ (fun q=>hn.1 (by rw[q];exact bF.2 ⟨c,J,rfl⟩)),J2 hn.2 h,show i+1+j=i+(j+1)by omega]
section
variable{Q:List hU}{x:B}
theorem tB{j:Nat}{c:hU}(hn:(Q.map hU.dg).Nodup)(h:Q[j]? =some c):gj Q c.dg=(j:Int):=by
 unfold gj;rw[J2 hn h,bI]
theorem Bb(Q:List hU)(x:B):(∀c∈Q,c.dg≠x)\/∃(j:Nat) (c:hU),Q[j]? =some c/\c.dg=x:=by
 by_cases h:∃c∈Q,c.dg=x
 . obtain⟨c,J,e⟩:=h;obtain⟨j,hj⟩:=bW.1 J;exact .inr ⟨j,c,hj,e⟩
 . exact .inl fun c J e=>h ⟨c,J,e⟩
theorem qG(hn:(Q.map hU.dg).Nodup):gj Q x<0↔∀c∈Q,c.dg≠x:=by
 rcases Bb Q x with h|⟨j,c,hj,rfl⟩
 . exact⟨fun _=>h,fun _=>by unfold gj;rw[J1 h];decide⟩
 . rw[tB hn hj];exact⟨fun q=>by omega,fun q=>absurd rfl (q c (bg hj))⟩
theorem oV(hn:(Q.map hU.dg).Nodup):0<=gj Q x↔∃(j:Nat) (c:hU),Q[j]? =some c/\c.dg=x:=by
 rcases Bb Q x with h|⟨j,c,hj,rfl⟩
 . constructor
   . intro q;have:=(qG hn).2 h;omega
   . rintro⟨j,c,hj,e⟩;exact absurd e (h c (bg hj))
 . exact⟨fun _=>⟨j,c,hj,rfl⟩,fun _=>by rw[tB hn hj];exact aA _⟩
end
theorem Ct:∀{a b:B},a<b↔yQ a b=true
 |_,[]=>by simp[yQ]
 | [],_::_=>by simp[yQ]
 |a::x,b::y=>by
  simp only[yQ];rw[List.cons_lt_cons_iff];have ih:=Ct (a:=x) (b:=y);cases q:Nat.blt a.toNat b.toNat with
  |true=>
   have:a<b:=ax q;simp[this]
  |false=>
   have X:¬a<b:=fun h=>by
    have:Nat.blt a.toNat b.toNat=true:=Nat.ble_eq_true_of_le h;rw[q]at this;cases this
   cases q2:Nat.beq a.toNat b.toNat with
   |true=>
    have:a=b:=UInt8.toNat.inj (aG q2);subst this;simp only[X,false_or,true_and];exact ih
   |false=>
    have:a≠b:=fun e=>by subst e;rw[cP]at q2;cases q2
    simp[X,this]
theorem Ag{n:B}:∀{l:List (B×B)},(∀p∈l,p.1≠n)->gQ n l=[]
 | [],_=>rfl
 |p::l,h=>by
  unfold gQ;rw[aJ (h p (by simp))];exact Ag fun q hq=>h q (by simp[hq])
def PZ(l:List (B×B)):Prop:=(l.map Prod.fst).Pairwise (. <·)
theorem Gg{a b c:B}(h:a<b)(k:b<c):a<c:=List.lt_trans h k
theorem w9(a:B):¬a<a:=List.lt_irrefl a
theorem XN{a b:B}(h:¬a<b)(fS:a≠b):b<a:=by
 by_cases q:b<a
 . exact q
 . exact absurd (List.le_antisymm (List.not_lt.1 q) (List.not_lt.1 h)) fS
theorem rJ{p:B×B}{l:List (B×B)}:PZ (p::l)↔(∀q∈l,p.1<q.1)/\PZ l:=by
 unfold PZ;rw[bX,List.pairwise_cons];constructor
 . rintro⟨X,h2⟩;exact⟨fun q hq=>X _ (bF.2 ⟨q,hq,rfl⟩),h2⟩
 . rintro⟨X,h2⟩;refine⟨fun y hy=>?_,h2⟩;obtain⟨q,hq,rfl⟩:=bF.1 hy;exact X q hq
theorem nY{n x:B}{q:B×B}:∀{l:List (B×B)} {dn:Bool},q∈my n x dn l↔(q∈l/\q.1≠n)\/(dn=false/\q=(n,x))
 | [],dn=>by
   unfold my;cases dn<;>simp
 |p::l,dn=>by
  unfold my;rw[aW,aW,nY (l:=l),aD];have hA:(q∈(if dn=false/\yQ n p.1=true then[(n,x)]else[]))↔(dn=false/\yQ n p.1=true)/\q=(n,x):=by
   split
   . rename_i h;simp[h]
   . rename_i h;simp only[aN,false_iff];exact fun k=>h k.1
  have hB:(q∈(if p.1=n then[]else[p]))↔p.1≠n/\q=p:=by
   split
   . rename_i h;simp[h]
   . rename_i h;simp[h]
  rw[hA,hB];constructor
  . rintro(⟨⟨X,_⟩,h3⟩|⟨X,h2⟩|⟨X,h2⟩|⟨X,h2⟩)
    . exact .inr ⟨X,h3⟩
    . subst h2;exact .inl ⟨.inl rfl,X⟩
    . exact .inl ⟨.inr X,h2⟩
    . exact .inr ⟨(Bool.or_eq_false_iff.1 X).1,h2⟩
  . rintro(⟨rfl|X,h2⟩|⟨X,h2⟩)
    . exact .inr (.inl ⟨h2,rfl⟩)
    . exact .inr (.inr (.inl ⟨X,h2⟩))
    . cases hl:yQ n p.1 with
      |true=>exact .inl ⟨⟨X,rfl⟩,h2⟩
      |false=>exact .inr (.inr (.inr ⟨by rw[X];rfl,h2⟩))
theorem Eb{n x:B}:∀{l:List (B×B)} {dn:Bool},PZ l->(dn=true->∀p∈l,n<p.1\/True)->PZ (my n x dn l)
 | [],dn,_,_=>by
   unfold my;cases dn
   . exact List.pairwise_singleton ..
   . exact List.Pairwise.nil
 |p::l,dn,h,_=>by
  obtain⟨X,h2⟩:=rJ.1 h;have ih:∀d,PZ (my n x d l):=fun d=>Eb h2 fun _ _ _=>.inr trivial;unfold my;cases dn with
  |true=>
   rw[aJ (by simp),cH];split
   . exact ih _
   . refine rJ.2 ⟨fun q hq=>?_,ih _⟩;rw[Bool.true_or]at hq;rcases nY.1 hq with⟨a,_⟩|⟨a,_⟩
     . exact X q a
     . cases a
  |false=>
   by_cases hl:yQ n p.1=true
   . have fH:=Ct.2 hl;have hp:¬p.1=n:=fun e=>w9 n (by rw[e]at fH;exact fH);rw[aF ⟨rfl,hl⟩,aJ hp,hl,Bool.or_true];have W:∀q∈my n x true l,p.1<q.1:=fun q hq=>by
      rcases nY.1 hq with⟨a,_⟩|⟨a,_⟩
      . exact X q a
      . cases a
     refine rJ.2 ⟨fun q hq=>?_,rJ.2 ⟨W,ih _⟩⟩;rcases aD.1 hq with rfl|hq
     . exact fH
     . exact Gg fH (W q hq)
   . have U3:yQ n p.1=false:=by cases q:yQ n p.1<;>simp_all
     rw[aJ (fun q=>hl q.2),cH,U3,Bool.or_false];split
     . exact ih _
     . rename_i hp;refine rJ.2 ⟨fun q hq=>?_,ih _⟩;rcases nY.1 hq with⟨a,_⟩|⟨_,a⟩
       . exact X q a
       . subst a;exact XN (fun q=>hl (Ct.1 q)) (fun e=>hp e.symm)
theorem xb{n x:B}:∀{l:List (B×B)},PZ l->(n,x)∈l->gQ n l=x
 | [],_,h=>by cases h
 |p::l,hs,h=>by
  obtain⟨X,h2⟩:=rJ.1 hs;unfold gQ;rcases aD.1 h with e|h
  . rw[<- e,aF rfl]
  . rw[aJ (fun e=>w9 n (by have:=X _ h;rw[e]at this;exact this))];exact xb h2 h
theorem sj(n:B):∀(l:List (B×B)),(gQ n l=[]/\∀p∈l,p.1≠n)\/(n,gQ n l)∈l
 | []=>.inl ⟨rfl,fun _ h=>by cases h⟩
 |p::l=>by
  unfold gQ;by_cases h:p.1=n
  . rw[aF h];subst h;exact .inr (by simp)
  . rw[aJ h];rcases sj n l with⟨X,h2⟩|X
    . exact .inl ⟨X,fun q hq=>by
       rcases aD.1 hq with rfl|hq
       . exact h
       . exact h2 q hq⟩
    . exact .inr (by simp[X])
theorem Gh{n m x:B}{l:List (B×B)}(hs:PZ l):gQ m (my n x (eI x []) l)=if m=n then x else gQ m l:=by
 have gY:PZ (my n x (eI x []) l):=Eb hs fun _ _ _=>.inr trivial;by_cases W:m=n
 . subst W;rw[aF rfl];by_cases M:x=[]
   . subst M;refine Ag fun p hp e=>?_;rcases nY.1 hp with⟨_,a⟩|⟨a,_⟩
     . exact a e
     . cases a
   . have hb:eI x []=false:=by rw[gr];exact bG.2 M
     exact xb gY (nY.2 (.inr ⟨hb,rfl⟩))
 . rw[aJ W];rcases sj m l with⟨X,h2⟩|X
   . rw[X];refine Ag fun p hp e=>?_;rcases nY.1 hp with⟨a,_⟩|⟨_,a⟩
     . exact h2 p a e
     . subst a;exact W e.symm
   . exact xb gY (nY.2 (.inl ⟨X,W⟩))
inductive qc(C:ae):B->B->Prop
 |refl (x:B):qc C x x
 |step {x y z:B}:qc C x y->z∈qd C y->qc C x z
theorem qc.head{C:ae}{x y z:B}(h:y∈qd C x)(p:qc C y z):qc C x z:=by
 induction p with
 |refl=>exact .step (.refl x) h
 |step _ h2 ih=>exact .step ih h2
structure Spc(C:ae)(ds ks Rb:List (B)):Prop where
 sub:∀y∈ks,y∈Rb
 roots:∀d∈ds,d∈Rb
 pth:∀y∈Rb,y∈ks\/∃d∈ds,qc C d y
 cl:∀y∈Rb,y∉ks->∀r∈qd C y,r∈Rb
 nd:ks.Nodup->Rb.Nodup
theorem Ec{C:ae}{k:Nat}(Tr:∀x ks,Ends C k x->Spc C [x] ks (mF C k x ks)):∀(ds ks:List (B)),(∀d∈ds,Ends C k d)->Spc C ds ks (ds.foldl (fun a r=>mF C k r a) ks)
 | [],ks,_=>⟨fun _ h=>h,fun _ h=>(by cases h),fun _ h=>.inl h,fun y h h2=>absurd h h2,fun h=>h⟩
 |d::ds,ks,he=>by
  have X:=Tr d ks (he d (by simp));have h2:=Ec Tr ds (mF C k d ks) fun x M=>he x (by simp[M]);show Spc C (d::ds) ks (ds.foldl (fun a r=>mF C k r a) (mF C k d ks));refine⟨fun y hy=>h2.sub y (X.sub y hy),fun x M=>?_,fun y hy=>?_,fun y hy hn r hr=>?_,fun h=>h2.nd (X.nd h)⟩
  . rcases aD.1 M with rfl|M
    . exact h2.sub _ (X.roots _ (by simp))
    . exact h2.roots x M
  . rcases h2.pth y hy with h|⟨x,M,p⟩
    . rcases X.pth y h with h|⟨x,M,p⟩
      . exact .inl h
      . exact .inr ⟨x,by rw[au.1 M];simp,p⟩
    . exact .inr ⟨x,by simp[M],p⟩
  . by_cases q:y∈mF C k d ks
    . exact h2.sub r (X.cl y q hn r hr)
    . exact h2.cl y hy q r hr
theorem N4{C:ae}:∀(k:Nat) (x:B) (ks:List (B)),Ends C k x->Spc C [x] ks (mF C k x ks)
 |0,_,_,h=>h.elim
 |k+1,x,ks,⟨_,_,hr⟩=>by
  unfold mF;by_cases M:x∈ks
  . rw[aF M];exact⟨fun _ h=>h,fun d hd=>by rw[au.1 hd];exact M,fun _ h=>.inl h,fun y h h2=>absurd h h2,fun h=>h⟩
  . rw[aJ M];have h:=Ec (fun y ks=>N4 k y ks) (qd C x) (ks++[x]) hr;generalize (qd C x).foldl (fun a r=>mF C k r a) (ks++[x])=Rb at h ⊢;refine⟨fun y hy=>h.sub y (by simp[hy]),fun d hd=>by rw[au.1 hd];exact h.sub x (by simp),fun y hy=>?_,fun y hy hn r Ht=>?_,fun GM=>h.nd ?_⟩
    . rcases h.pth y hy with q|⟨d,hd,p⟩
      . rcases aW.1 q with q|q
        . exact .inl q
        . rw[au.1 q];exact .inr ⟨x,by simp,.refl x⟩
      . exact .inr ⟨x,by simp,p.head hd⟩
    . by_cases q:y=x
      . subst q;exact h.roots r Ht
      . exact h.cl y hy (by simp[hn,q]) r Ht
    . rw[List.nodup_append];exact⟨GM,by simp,fun a ha b hb=>by rw[au.1 hb];exact fun e=>M (e▸ha)⟩
section
variable{C N:ae}{k:Nat}
theorem J3(he:∀d∈iV N,Ends C k d):Spc C (iV N) [] (qv C N k):=Ec (fun y ks=>N4 k y ks) (iV N) [] he
theorem J4(he:∀d∈iV N,Ends C k d)(x:B):x∈qv C N k↔∃d∈iV N,qc C d x:=by
 have h:=J3 he;constructor
 . intro M;rcases h.pth x M with q|q
   . cases q
   . exact q
 . rintro⟨d,hd,p⟩
   induction p with
   |refl=>exact h.roots _ hd
   |step _ hz ih=>exact h.cl _ ih (by simp) _ hz
end
def ZO(n:B):Prop:=∃c:UInt8,n=[c]/\97<=c.toNat/\c.toNat<115
structure nZ(s:RS):Prop where
 nd:(s.Q.map hU.dg).Nodup
 nm:∀c∈s.Q,c.dg=dL c.da c.O/\c.da.length<=60/\c.O.length<=3
 ref:∀(i:Nat) (c:hU),s.Q[i]? =some c->∀r∈c.O,∃(j:Nat) (c':hU),j<i/\s.Q[j]? =some c'/\c'.dg=r
 Vh:PZ s.ro
 rv:∀p∈s.ro,ZO p.1/\∃c∈s.Q,c.dg=p.2
theorem nZ.refs{s:RS}(h:nZ s){i j:Nat}{c:hU}(J:s.Q[j]? =some c):qd (oU s.Q i) c.dg=c.O:=F3 (mz h.nd J)
theorem Gi{C:ae}:∀{k:Nat} {x:B},Ends C k x->Ends C (k+1) x
 |0,_,h=>h.elim
 |_+1,_,⟨X,h2,h3⟩=>⟨X,h2,fun r hr=>Gi (h3 r hr)⟩
theorem N5{C:ae}{k m:Nat}{x:B}(h:Ends C k x)(W:k<=m):Ends C m x:=by
 induction m with
 |zero=>obtain rfl:k=0:=by omega
        exact h
 |succ m ih=>
  rcases bO k (m+1)with q|q
  . exact Gi (ih L)
  . obtain rfl:k=m+1:=by omega
    exact h
theorem nZ.ends{s:RS}(h:nZ s):∀(j:Nat) (c:hU),s.Q[j]? =some c->Ends (oU s.Q 0) (j+1) c.dg:=by
 intro j
 induction j using Nat.strongRecOn with
 |_ j ih=>
  intro c J;refine⟨⟨_,_,_,mz h.nd J⟩,?_,fun r hr=>?_⟩
  . rw[h.refs J];have:=(h.nm c (bg J)).2.2;omega
  . rw[h.refs J]at hr;obtain⟨i,c',hi,wO,rfl⟩:=h.ref j c J r hr;exact N5 (ih i hi c' wO) L
theorem Ed(bs:List Bool)(i m:Nat)(b:Bool):(bs.set i b).getD m false=if m=i/\i<bs.length then b else bs.getD m false:=by
 rw[aO,aO,List.getElem?_set];by_cases h:m=i
 . subst h;by_cases q:m<bs.length
   . rw[aF rfl,aF q,aF ⟨rfl,q⟩];rfl
   . rw[aF rfl,aJ q,aJ (fun z=>q z.2),bS L]
 . rw[aJ (fun z=>h z.symm),aJ (fun z=>h z.1)]
theorem nZ.N6{s:RS}(h:nZ s){i j:Nat}{c c':hU}(hi:s.Q[i]? =some c)(hj:s.Q[j]? =some c')(e:c.dg=c'.dg):i=j:=by
 have a:=tB h.nd hi;have b:=tB h.nd hj;rw[e,b]at a;exact(Int.ofNat.inj a).symm
theorem T4{s:RS}(h:nZ s){bs:List Bool}(hl:bs.length=s.Q.length)(r:B){m:Nat}{c:hU}(W:s.Q[m]? =some c):(jS s bs r).getD m false=true↔bs.getD m false=true\/c.dg=r:=by
 unfold jS;rcases Bb s.Q r with q|⟨j,c',hj,rfl⟩
 . rw[aF ((qG h.nd).2 q)];exact⟨.inl,fun z=>z.elim id fun e=>absurd e (q c (bg W))⟩
 . have Kq:j<s.Q.length:=(aH.1 hj).1;rw[aJ (by rw[tB h.nd hj];omega),tB h.nd hj,Ed];show(if m=j/\j<bs.length then true else bs.getD m false)=true↔_;by_cases q:m=j
   . subst q;rw[W]at hj;cases hj;rw[aF ⟨rfl,L⟩];simp
   . rw[aJ (fun z=>q z.1)];exact⟨.inl,fun z=>z.elim id fun e=>absurd (h.N6 W hj e) q⟩
theorem MH(s:RS)(bs:List Bool)(r:B):(jS s bs r).length=bs.length:=by
 unfold jS;split
 . rfl
 . rw[List.length_set]
theorem Ee{s:RS}(h:nZ s){m:Nat}{c:hU}(W:s.Q[m]? =some c):∀(l:List (B)) (bs:List Bool),bs.length=s.Q.length->((l.foldl (jS s) bs).getD m false=true↔bs.getD m false=true\/c.dg∈l)/\(l.foldl (jS s) bs).length=s.Q.length
 | [],bs,hl=>⟨by simp,hl⟩
 |r::l,bs,hl=>by
  have ih:=Ee h W l (jS s bs r) (by rw[MH,hl]);refine⟨?_,ih.2⟩;show(l.foldl (jS s) (jS s bs r)).getD m false=true↔_;rw[ih.1,T4 h hl r W,aD,or_assoc]
def RI(s:RS)(m:Nat):Prop:=∃c,s.Q[m]? =some c/\∃p∈s.ro,qc (oU s.Q 0) p.2 c.dg
theorem T5{s:RS}(h:nZ s){d x:B}(p:qc (oU s.Q 0) d x):(∃c∈s.Q,c.dg=d)->∃c∈s.Q,c.dg=x:=by
 induction p with
 |refl=>exact id
 |step _ hz ih=>
  intro hd;obtain⟨c,J,rfl⟩:=ih hd;obtain⟨j,hj⟩:=bW.1 J;rw[h.refs hj]at hz;obtain⟨i,c',_,wO,e⟩:=h.ref j c hj _ hz;exact⟨c',bg wO,e⟩
theorem Ef(ro:List (B×B))(c:hU):Fg ro c=true↔∃p∈ro,p.2=c.dg:=by
 unfold Fg;rw[List.any_eq_true];constructor
 . rintro⟨p,hp,e⟩;rw[gr]at e;exact⟨p,hp,beq_iff_eq.1 e⟩
 . rintro⟨p,hp,e⟩;exact⟨p,hp,by rw[gr];exact beq_iff_eq.2 e⟩
theorem HU{s:RS}(h:nZ s){m:Nat}{c:hU}(W:s.Q[m]? =some c):RI s m↔Fg s.ro c=true\/∃(j:Nat) (c':hU),m<j/\s.Q[j]? =some c'/\c.dg∈c'.O/\RI s j:=by
 rw[Ef];constructor
 . rintro⟨c0,h0,p,hp,q⟩;rw[W]at h0;cases h0;generalize M:c.dg=x at q;cases q with
   |refl=>exact .inl ⟨p,hp,rfl⟩
   |step q hz=>
    subst M;obtain⟨cy,hcy,rfl⟩:=T5 h q (h.rv p hp).2;obtain⟨j,hj⟩:=bW.1 hcy;rw[h.refs hj]at hz;obtain⟨i,c',hi,wO,e⟩:=h.ref j cy hj _ hz;have:=h.N6 wO W e;subst this;exact .inr ⟨j,cy,hi,hj,hz,cy,hj,p,hp,q⟩
 . rintro(⟨p,hp,e⟩|⟨j,c',_,hj,hr,c2,h2,p,hp,q⟩)
   . exact⟨c,W,p,hp,e▸ .refl _⟩
   . rw[hj]at h2;cases h2;exact⟨c,W,p,hp,.step q (by rw[h.refs hj];exact hr)⟩
def MkI(s:RS)(i:Nat)(bs:List Bool):Prop:=bs.length=s.Q.length/\∀(m:Nat) (c:hU),s.Q[m]? =some c->(bs.getD m false=true↔(i<=m/\RI s m)\/(m<i/\∃(j:Nat) (c':hU),i<=j/\s.Q[j]? =some c'/\c.dg∈c'.O/\RI s j))
theorem T6{s:RS}(h:nZ s){i:Nat}{bs:List Bool}{c:hU}(J:s.Q[i]? =some c)(k:MkI s (i+1) bs):MkI s i (Aa s bs i c):=by
 obtain⟨hl,hk⟩:=k;have M4:i<s.Q.length:=(aH.1 J).1;have hI:(lB s bs i c).getD i false=true↔RI s i:=by
  unfold lB;rw[Ed,aF ⟨rfl,L⟩,bV,hk i c J,HU h J];constructor
  . rintro((⟨a,_⟩|⟨_,j,c',X,h2⟩)|b)
    . omega
    . exact .inr ⟨j,c',L,h2⟩
    . exact .inl b
  . rintro(a|⟨j,c',X,h2⟩)
    . exact .inr a
    . exact .inl (.inr ⟨L,j,c',L,h2⟩)
 have hlr:(lB s bs i c).length=s.Q.length:=by unfold lB;rw[List.length_set,hl]
 have hM:∀(m:Nat) (c0:hU),s.Q[m]? =some c0->m≠i->((lB s bs i c).getD m false=true↔bs.getD m false=true):=fun m c0 _ fS=>by
  unfold lB;rw[Ed,aJ (fun z=>fS z.1)]
 unfold Aa;by_cases hr:(lB s bs i c).getD i false=true
 . rw[aF hr];have hRI:=hI.1 hr;refine⟨(Ee h J c.O _ hlr).2,fun m c0 W=>?_⟩;rw[(Ee h W c.O _ hlr).1];by_cases q:m=i
   . subst q;exact⟨fun _=>.inl ⟨aC _,hRI⟩,fun _=>.inl hr⟩
   . rw[hM m c0 W q,hk m c0 W];constructor
     . rintro((⟨a,b⟩|⟨a,j,c',X,h2⟩)|a)
       . exact .inl ⟨L,b⟩
       . exact .inr ⟨L,j,c',L,h2⟩
       . obtain⟨j,c',hj,wO,e⟩:=h.ref i c J _ a;have:=h.N6 wO W e;exact .inr ⟨L,i,c,aC _,J,a,hRI⟩
     . rintro(⟨a,b⟩|⟨a,j,c',X,h2,h3,h4⟩)
       . exact .inl (.inl ⟨L,b⟩)
       . by_cases z:j=i
         . subst z;rw[J]at h2;cases h2;exact .inr h3
         . exact .inl (.inr ⟨L,j,c',L,h2,h3,h4⟩)
 . rw[aJ hr];have hRI:¬RI s i:=fun z=>hr (hI.2 z);refine⟨hlr,fun m c0 W=>?_⟩;by_cases q:m=i
   . subst q;exact⟨fun z=>absurd z hr,fun z=>by
      rcases z with⟨_,z⟩|⟨z,_⟩
      . exact absurd z hRI
      . omega⟩
   . rw[hM m c0 W q,hk m c0 W];constructor
     . rintro(⟨a,b⟩|⟨a,j,c',X,h2⟩)
       . exact .inl ⟨L,b⟩
       . exact .inr ⟨L,j,c',L,h2⟩
     . rintro(⟨a,b⟩|⟨a,j,c',X,h2,h3,h4⟩)
       . exact .inl ⟨L,b⟩
       . refine .inr ⟨L,j,c',?_,h2,h3,h4⟩;by_cases z:j=i
         . subst z;exact absurd h4 hRI
         . omega
theorem MI{s:RS}(h:nZ s):∀(i:Nat) (bs:List Bool),i<=s.Q.length->MkI s i bs->MkI s 0 (TH s i bs)
 |0,_,_,k=>k
 |i+1,bs,hi,k=>by
  have J:s.Q[i]? =some (s.Q.getD i ⟨[],[],[]⟩):=by
   rw[aO,az L];rfl
  exact MI h i _ L (T6 h J k)
theorem BK{s:RS}(h:nZ s){m:Nat}{c:hU}(W:s.Q[m]? =some c):(fu s).getD m false=true↔RI s m:=by
 have k:MkI s s.Q.length (List.replicate s.Q.length false):=by
  refine⟨bM,fun m c W=>?_⟩;have hl:m<s.Q.length:=(aH.1 W).1;rw[aO,List.getElem?_replicate,aF hl];constructor
  . intro q;cases q
  . rintro(⟨a,_⟩|⟨_,j,c',X,h2,_⟩)
    . omega
    . have:=(aH.1 h2).1;omega
 have:=(MI h _ _ (aC _) k).2 m c W;rw[show fu s=TH s s.Q.length (List.replicate s.Q.length false)from rfl,this];constructor
 . rintro(⟨_,a⟩|⟨a,_⟩)
   . exact a
   . omega
 . intro a;exact .inl ⟨L,a⟩
theorem xK{s:RS}(h:nZ s):(fu s).length=s.Q.length:=by
 have k:MkI s s.Q.length (List.replicate s.Q.length false):=by
  refine⟨bM,fun m c W=>?_⟩;have hl:m<s.Q.length:=(aH.1 W).1;rw[aO,List.getElem?_replicate,aF hl];constructor
  . intro q;cases q
  . rintro(⟨a,_⟩|⟨_,j,c',X,h2,_⟩)
    . omega
    . have:=(aH.1 h2).1;omega
 exact(MI h _ _ (aC _) k).1
def Bc(s:RS):iY->RS
 | .chunk d O=>⟨s.Q++[⟨dL d O,d,O⟩],s.ro⟩
 | .root n x=>⟨s.Q,my n x (eI x []) s.ro⟩
def iP:RS:=⟨[],[]⟩
abbrev fo(l:List iY):RS:=l.foldl Bc iP
def T7(s:RS):iY->Prop
 | .chunk d O=>d.length<=60/\O.length<=3/\(∀r∈O,0<=gj s.Q r)/\gj s.Q (dL d O)<0
 | .root n x=>ZO n/\(x=[]\/0<=gj s.Q x)/\x≠gQ n s.ro
section
variable{N:ae}{s:RS}{r:iY}
theorem wf0:nZ iP:=⟨List.nodup_nil,fun _ h=>(by cases h),fun _ _ h=>by simp[iP]at h,List.Pairwise.nil,fun _ h=>by cases h⟩
theorem nZ.Eg(h:nZ s){c:hU}(J:c∈s.Q):c.dg.length=32:=by rw[(h.nm c J).1];rfl
theorem XR(h:nZ s)(a:T7 s r):nZ (Bc s r):=by
 cases r with
 |chunk d O=>
  obtain⟨a1,a2,a3,a4⟩:=a;have a4:=(qG h.nd).1 a4;refine⟨?_,fun c J=>?_,fun i c J r hr=>?_,h.Vh,fun p hp=>⟨(h.rv p hp).1,?_⟩⟩
  . show((s.Q++[(⟨dL d O,d,O⟩:hU)]).map hU.dg).Nodup;rw[aZ,List.nodup_append];refine⟨h.nd,cn.2 ⟨by simp,List.nodup_nil⟩,fun x M y hy e=>?_⟩;obtain⟨c,J,rfl⟩:=bF.1 M;rw[List.map_singleton,au]at hy;exact a4 c J (e.trans hy)
  . have J:c∈s.Q++[⟨dL d O,d,O⟩]:=J;rcases aW.1 J with q|q
    . exact h.nm c q
    . obtain rfl:c=⟨dL d O,d,O⟩:=au.1 q;exact⟨rfl,a1,a2⟩
  . have J:(s.Q++[⟨dL d O,d,O⟩])[i]? =some c:=J;show ∃(j:Nat) (c':hU),j<i/\(s.Q++[⟨dL d O,d,O⟩])[j]? =some c'/\c'.dg=r;rw[bU]at J;split at J
    . obtain⟨j,c',X,h2,h3⟩:=h.ref i c J r hr;exact⟨j,c',X,by rw[bU,aF (aH.1 h2).1];exact h2,h3⟩
    . rename_i hi;have hcm:c=⟨dL d O,d,O⟩:=by
       have:=bg J;exact au.1 this
      subst hcm;obtain⟨j,c',h2,h3⟩:=(oV h.nd).1 (a3 r hr);have hj:=(aH.1 h2).1;exact⟨j,c',L,by rw[bU,aF hj];exact h2,h3⟩
  . obtain⟨c,J,e⟩:=(h.rv p hp).2;exact⟨c,cL _ J,e⟩
 |root n x=>
  obtain⟨a1,a2,a3⟩:=a;refine⟨h.nd,h.nm,h.ref,Eb h.Vh fun _ _ _=>.inr trivial,fun p hp=>?_⟩;rcases nY.1 hp with⟨q,_⟩|⟨q,rfl⟩
  . exact h.rv p q
  . refine⟨a1,?_⟩;rcases a2 with rfl|a2
    . cases q
    . obtain⟨j,c,hj,e⟩:=(oV h.nd).1 a2;exact⟨c,bg hj,e⟩
theorem Eh(h:nZ s)(a:T7 s r):r.ok/\r.bytes.length<=180:=by
 cases r with
 |chunk d O=>
  obtain⟨a1,a2,a3,a4⟩:=a;have h32:∀x∈O,x.length=32:=fun x M=>by
   obtain⟨j,c,hj,e⟩:=(oV h.nd).1 (a3 x M);rw[<- e];exact h.Eg (bg hj)
  refine⟨⟨L,L,h32⟩,?_⟩;have:=AX d h32;show(gM d O).length<=180;omega
 |root n x=>
  obtain⟨⟨k,rfl,_⟩,a2,a3⟩:=a;have M:x.length<=32:=by
   rcases a2 with rfl|a2
   . simp
   . obtain⟨j,c,hj,e⟩:=(oV h.nd).1 a2;rw[<- e,h.Eg (bg hj)];exact aC _
  have hn:[k].length=1:=rfl;refine⟨⟨L,L⟩,?_⟩;have:=(Sh [k] x).2;show(jP [k] x).length<=180;omega
theorem uB(hr:EC N){n:B}:n∈dM N↔∃v,dj (.str n) N=some v:=by
 induction N with
 |nil=>exact⟨fun h=>(by cases h),fun⟨_,h⟩=>by cases h⟩
 |cons e N ih=>
  obtain⟨k,d,rfl⟩:=hr e (by simp);have ih:=ih fun e he=>hr e (by simp[he]);rw[show dM ((.str k,.str d)::N)=k::dM N from rfl,aD,ih,gy];by_cases q:k=n
  . subst q;rw[aF rfl];exact⟨fun _=>⟨_,rfl⟩,fun _=>.inl rfl⟩
  . rw[aJ (by intro z;simp only[lf.str.injEq]at z;exact q z)];exact⟨fun z=>z.elim (fun z=>absurd z.symm q) id,.inr⟩
theorem T8(hr:EC N)(hn:(dM N).Nodup)(n m:B):dj (.str m) (mh (.str n) N)=if m=n then none else dj (.str m) N:=by
 induction N with
 |nil=>show none=_;split<;>rfl
 |cons e N ih=>
  obtain⟨k,d,rfl⟩:=hr e (by simp);have qb:(k::dM N).Nodup:=hn;rw[cn]at qb;have UZ:EC N:=fun e he=>hr e (by simp[he]);rw[w6];by_cases q:k=n
  . subst q;rw[aF rfl];by_cases z:m=k
    . subst z;rw[aF rfl];cases h:dj (.str m) N with
      |none=>rfl
      |some v=>exact absurd ((uB UZ).2 ⟨v,h⟩) qb.1
    . rw[aJ z,gy,aJ (by intro y;simp only[lf.str.injEq]at y;exact z y.symm)]
  . rw[aJ (by intro y;simp only[lf.str.injEq]at y;exact q y),gy,ih UZ qb.2];by_cases z:k=m
    . subst z;rw[aF rfl,gy,aF rfl,aJ q]
    . have hz:¬(lf.str k,lf.str d).1=lf.str m:=fun y=>z (by cases y;rfl);rw[aJ hz,gy,aJ hz]
theorem N7(hr:EC N)(n x:B):EC (iK (.str n) (.str x) N):=by
 induction N with
 |nil=>intro e he;exact⟨n,x,au.1 he⟩
 |cons e N ih=>
  have ih:=ih fun e he=>hr e (by simp[he]);rw[wZ];split
  . intro a ha;rcases aD.1 ha with rfl|ha
    . exact⟨n,x,rfl⟩
    . exact hr a (by simp[ha])
  . intro a ha;rcases aD.1 ha with rfl|ha
    . exact hr _ (by simp)
    . exact ih a ha
theorem XS(hr:EC N)(n:B):EC (mh (.str n) N):=by
 induction N with
 |nil=>exact hr
 |cons e N ih=>
  have ih:=ih fun e he=>hr e (by simp[he]);rw[w6];split
  . exact fun a ha=>hr a (by simp[ha])
  . intro a ha;rcases aD.1 ha with rfl|ha
    . exact hr _ (by simp)
    . exact ih a ha
theorem T9(hr:EC N){n:B}{x:B}{m:B}:m∈dM (iK (.str n) (.str x) N)->m=n\/m∈dM N:=by
 intro h;obtain⟨v,hv⟩:=(uB (N7 hr n x)).1 h;rw[DR]at hv;by_cases q:m=n
 . exact .inl q
 . rw[aJ q]at hv;exact .inr ((uB hr).2 ⟨v,hv⟩)
theorem ac7(hr:EC N)(hn:(dM N).Nodup)(n x:B):(dM (iK (.str n) (.str x) N)).Nodup:=by
 induction N with
 |nil=>exact cn.2 ⟨by simp,List.nodup_nil⟩
 |cons e N ih=>
  obtain⟨k,d,rfl⟩:=hr e (by simp);have UZ:EC N:=fun e he=>hr e (by simp[he]);have qb:(k::dM N).Nodup:=hn;rw[cn]at qb;have ih:=ih UZ qb.2;rw[wZ];split
  . rename_i q;simp only[lf.str.injEq]at q;subst q;exact cn.2 qb
  . rename_i q;refine cn.2 ⟨fun z=>?_,ih⟩;rcases T9 UZ z with z|z
    . exact q (by show lf.str k=lf.str n;rw[show k=n from z])
    . exact qb.1 z
theorem Ua(hr:EC N){n m:B}:m∈dM (mh (.str n) N)->m∈dM N:=by
 induction N with
 |nil=>exact id
 |cons e N ih=>
  obtain⟨k,d,rfl⟩:=hr e (by simp);have ih:=ih fun e he=>hr e (by simp[he]);rw[w6];split
  . intro z;exact aM _ z
  . intro z;rcases aD.1 z with z|z
    . rw[z];exact aQ ..
    . exact aM _ (ih z)
theorem ac8(hr:EC N)(hn:(dM N).Nodup)(n:B):(dM (mh (.str n) N)).Nodup:=by
 induction N with
 |nil=>exact hn
 |cons e N ih=>
  obtain⟨k,d,rfl⟩:=hr e (by simp);have UZ:EC N:=fun e he=>hr e (by simp[he]);have qb:(k::dM N).Nodup:=hn;rw[cn]at qb;have ih:=ih UZ qb.2;rw[w6];split
  . exact qb.2
  . exact cn.2 ⟨fun z=>qb.1 (Ua UZ z),ih⟩
end
structure EG(be:LS)(s:RS):Prop where
 R:be.R=(s.Q.length:Int)
 C:be.C=oU s.Q 0
 key:EC be.N
 knd:(dM be.N).Nodup
 lk:∀n,dj (.str n) be.N=if gQ n s.ro=[]then none else some (.str (gQ n s.ro))
theorem Ub:EG ls0 iP:=⟨rfl,rfl,fun _ h=>(by cases h),List.nodup_nil,fun _=>rfl⟩
theorem Uc{be:LS}{s:RS}{r:iY}(h:nZ s)(hl:s.Q.length<=1000000)(g:EG be s)(a:T7 s r):EG (Cp be r) (Bc s r):=by
 obtain⟨R,C,N⟩:=be;obtain⟨g1,g2,g3,g4,g5⟩:=g;have g1:R=(s.Q.length:Int):=g1;have g2:C=oU s.Q 0:=g2;subst g1 g2;cases r with
 |chunk d O=>
  obtain⟨a1,a2,a3,a4⟩:=a;refine⟨?_,?_,g3,g4,g5⟩
  . show IntKind.i64.wrap ((s.Q.length:Int)+1)=((s.Q++[_]).length:Int);rw[eV L L,ay];rfl
  . show iK (.str (dL d O)) (tf d O (s.Q.length:Int)) (oU s.Q 0)=oU (s.Q++[⟨dL d O,d,O⟩]) 0;rw[vY _ (qF ((qG h.nd).1 a4)),JZ,bI];rfl
 |root n x=>
  obtain⟨a1,a2,a3⟩:=a;show EG ⟨_,_,if x=[]then mh (.str n) N else iK (.str n) (.str x) N⟩ ⟨s.Q,my n x (eI x []) s.ro⟩;by_cases M:x=[]
  . rw[aF M];refine⟨rfl,rfl,XS g3 n,ac8 g3 g4 n,fun m=>?_⟩;show dj (.str m) (mh (.str n) N)=if gQ m (my n x (eI x []) s.ro)=[]then none else some (.str (gQ m (my n x (eI x []) s.ro)))
    rw[T8 g3 g4,Gh h.Vh];by_cases q:m=n
    . rw[aF q,aF q,aF M]
    . rw[aJ q,aJ q];exact g5 m
  . rw[aJ M];refine⟨rfl,rfl,N7 g3 n x,ac7 g3 g4 n x,fun m=>?_⟩;show dj (.str m) (iK (.str n) (.str x) N)=if gQ m (my n x (eI x []) s.ro)=[]then none else some (.str (gQ m (my n x (eI x []) s.ro)))
    rw[DR,Gh h.Vh];by_cases q:m=n
    . rw[aF q,aF q,aJ M]
    . rw[aJ q,aJ q];exact g5 m
def N8:RS->List iY->Prop
 |_,[]=>True
 |s,r::l=>T7 s r/\N8 (Bc s r) l
theorem Cu:∀{a:List iY} {s:RS} {b:List iY},N8 s (a++b)↔N8 s a/\N8 (a.foldl Bc s) b
 | [],s,b=>⟨fun h=>⟨trivial,h⟩,fun h=>h.2⟩
 |r::a,s,b=>by
  show T7 s r/\N8 (Bc s r) (a++b)↔(T7 s r/\N8 (Bc s r) a)/\_;rw[Cu];exact and_assoc.symm
theorem XV(s:RS)(r:iY):(Bc s r).Q.length<=s.Q.length+1:=by
 cases r with
 |chunk d O=>show(s.Q++[_]).length<=_;rw[ay];exact aC _
 |root n x=>exact Nat.le_succ _
theorem xe:∀{l:List iY} {s:RS} {be:LS},N8 s l->nZ s->EG be s->s.Q.length+l.length<=1000000->nZ (l.foldl Bc s)/\EG (l.foldl Cp be) (l.foldl Bc s)/\(l.foldl Bc s).Q.length<=s.Q.length+l.length/\(∀r∈l,r.ok)/\(de l).length<=180*l.length
 | [],s,be,_,h,g,_=>⟨h,g,aC _,fun _ h=>(by cases h),aX _⟩
 |r::l,s,be,v,h,g,hl=>by
  have hb:=XV s r;rw[aT]at hl ⊢;obtain⟨X,h2,h3,h4,h5⟩:=xe (l:=l) (s:=Bc s r) (be:=Cp be r) v.2 (XR h v.1) (Uc h L g v.1) L;have ok:=Eh h v.1;refine⟨X,h2,?_,fun x M=>?_,?_⟩
  . show(l.foldl Bc (Bc s r)).Q.length<=_;omega
  . rcases aD.1 M with rfl|M
    . exact ok.1
    . exact h4 x M
  . have:de (r::l)=r.bytes++de l:=rfl;rw[this,ay];omega
theorem HV{α:Type}[DecidableEq α]:∀{a b:List α},a.Nodup->b.Nodup->(∀x,x∈a↔x∈b)->List.Perm a b
 | [],b,_,_,h=>by
   cases b with
   |nil=>exact .nil
   |cons y b=>exact absurd ((h y).2 (by simp)) (by simp)
 |x::a,b,ha,hb,h=>by
  have M:x∈b:=(h x).1 (by simp);rw[cn]at ha;refine(List.Perm.cons x (HV ha.2 (hb.erase x) fun y=>?_)).trans (List.perm_cons_erase M).symm;rw[hb.mem_erase_iff];constructor
  . intro hy;exact⟨fun e=>ha.1 (e▸hy),(h y).1 (by simp[hy])⟩
  . rintro⟨X,h2⟩;rcases aD.1 ((h y).2 h2)with q|q
    . exact absurd q X
    . exact q
section
variable{be:LS}{N:ae}{s:RS}
theorem nZ.xg(h:nZ s){p:B×B}(hp:p∈s.ro):p.2≠[]:=fun e=>by
 obtain⟨c,J,q⟩:=(h.rv p hp).2;have:=h.Eg J;rw[q,e]at this;cases this
theorem uC(h:nZ s){p:B×B}(hp:p∈s.ro):gQ p.1 s.ro=p.2:=xb h.Vh hp
theorem Ud(h:nZ s)(g:EG be s)(n:B):n∈dM be.N↔n∈s.ro.map Prod.fst:=by
 rw[uB g.key,g.lk n];constructor
 . rintro⟨v,hv⟩;split at hv
   . cases hv
   . rename_i fS;rcases sj n s.ro with⟨q,_⟩|q
     . exact absurd q fS
     . exact bF.2 ⟨_,q,rfl⟩
 . intro hn;obtain⟨p,hp,rfl⟩:=bF.1 hn;rw[uC h hp,aJ (h.xg hp)];exact⟨_,rfl⟩
theorem ac9{l:List (B×B)}(h:PZ l):(l.map Prod.fst).Nodup:=List.Pairwise.imp (fun {a b} (q:a<b)=>fun(e:a=b)=>w9 b (by rw[e]at q;exact q)) h
theorem J5(h:nZ s)(g:EG be s):List.Perm (dM be.N) (s.ro.map Prod.fst):=HV g.knd (ac9 h.Vh) (Ud h g)
theorem Ah(h:nZ s)(g:EG be s):jm (dM be.N)=s.ro.map Prod.fst:=
 List.Perm.eq_of_pairwise (le:=(. <=·)) (fun _ _ _ _ h k=>JG h k) (yz _) (h.Vh.imp fun q=>List.le_of_lt q) ((uz _).trans (J5 h g))
theorem rK(h:nZ s)(g:EG be s):be.N.length=s.ro.length:=by
 have:=(J5 h g).length_eq;rw[bf]at this;rw[<- this];unfold dM;rw[bf]
theorem Ue(hr:EC N)(hn:(dM N).Nodup){n d:B}(h:(lf.str n,lf.str d)∈N):dj (.str n) N=some (.str d):=by
 induction N with
 |nil=>cases h
 |cons e N ih=>
  obtain⟨k,v,rfl⟩:=hr e (by simp);have qb:(k::dM N).Nodup:=hn;rw[cn]at qb;rw[gy];rcases aD.1 h with q|q
  . simp only[aB,lf.str.injEq]at q;rw[aF (by rw[q.1]),q.2]
  . rw[aJ fun z=>qb.1 ?_]
    . exact ih (fun e he=>hr e (by simp[he])) qb.2 q
    . have z:lf.str k=lf.str n:=z;simp only[lf.str.injEq]at z;rw[z];exact bF.2 ⟨_,q,rfl⟩
theorem P4(hr:EC N){n:B}{v:lf}(h:dj (.str n) N=some v):∃d,v= .str d/\(lf.str n,lf.str d)∈N:=by
 induction N with
 |nil=>cases h
 |cons e N ih=>
  obtain⟨k,d,rfl⟩:=hr e (by simp);rw[gy]at h;split at h
  . rename_i q;have q:lf.str k=lf.str n:=q;simp only[lf.str.injEq]at q;simp only[an]at h;subst q;subst h;exact⟨d,rfl,by simp⟩
  . obtain⟨d',X,h2⟩:=ih (fun e he=>hr e (by simp[he])) h;exact⟨d',X,by simp[h2]⟩
theorem wj(h:nZ s)(g:EG be s)(d:B):d∈iV be.N↔∃p∈s.ro,p.2=d:=by
 constructor
 . intro hd;obtain⟨e,he,q⟩:=bF.1 hd;obtain⟨n,x,rfl⟩:=g.key e he;have q:x=d:=q;subst q;have hl:=Ue g.key g.knd he;rw[g.lk n]at hl;split at hl
   . cases hl
   . rename_i fS;simp only[an,lf.str.injEq]at hl;rcases sj n s.ro with⟨q,_⟩|q
     . exact absurd q fS
     . exact⟨_,q,hl⟩
 . rintro⟨p,hp,rfl⟩;have hl:=g.lk p.1;rw[uC h hp,aJ (h.xg hp)]at hl;obtain⟨d,X,h2⟩:=P4 g.key hl;simp only[lf.str.injEq]at X;rw[X];exact bF.2 ⟨_,h2,rfl⟩
theorem wm(h:nZ s)(g:EG be s):∀d∈iV be.N,Ends be.C (s.Q.length+1) d:=fun d hd=>by
 obtain⟨p,hp,rfl⟩:=(wj h g d).1 hd;obtain⟨c,J,e⟩:=(h.rv p hp).2;obtain⟨j,hj⟩:=bW.1 J;rw[<- e,g.C];exact N5 (h.ends j c hj) (by have:=(aH.1 hj).1;omega)
theorem Uf(h:nZ s)(g:EG be s){m:Nat}{c:hU}(W:s.Q[m]? =some c):(fu s).getD m false=decide (c.dg∈qv be.C be.N (s.Q.length+1)):=by
 have hi:(fu s).getD m false=true↔c.dg∈qv be.C be.N (s.Q.length+1):=by
  rw[BK h W,J4 (wm h g),g.C];constructor
  . rintro⟨c',X,p,hp,q⟩;rw[W]at X;cases X;exact⟨p.2,(wj h g _).2 ⟨p,hp,rfl⟩,q⟩
  . rintro⟨d,hd,q⟩;obtain⟨p,hp,rfl⟩:=(wj h g d).1 hd;exact⟨c,W,p,hp,q⟩
 by_cases q:c.dg∈qv be.C be.N (s.Q.length+1)
 . rw[bE q,hi.2 q]
 . rw[bz q];cases z:(fu s).getD m false with
   |false=>rfl
   |true=>exact absurd (hi.1 z) q
end
theorem tC:∀(Q:List hU) (bs:List Bool) (i:Nat) (c:hU),(lP Q bs)[i]? =some c->∃m,Q[m]? =some c/\bs[m]? =some true/\∀(j:Nat) (c':hU),j<m->Q[j]? =some c'->bs[j]? =some true->∃i',i'<i/\(lP Q bs)[i']? =some c'
 | [],_,i,c,h=>by simp[lP]at h
 |_::_,[],i,c,h=>by simp[lP]at h
 |a::Q,b::bs,i,c,h=>by
  unfold lP at h ⊢;cases b with
  |true=>
   rw[aF rfl]at h ⊢;cases i with
   |zero=>
    simp only[bK,an]at h;exact⟨0,by simp[h],rfl,fun j c' hj=>absurd hj (Nat.not_lt_zero j)⟩
   |succ i=>
    simp only[cD]at h;obtain⟨m,X,h2,h3⟩:=tC Q bs i c h;refine⟨m+1,by simpa using X,by simpa using h2,fun j c' hj J hb=>?_⟩;cases j with
    |zero=>
     simp only[bK,an]at J;exact⟨0,L,by simp[J]⟩
    |succ j=>
     obtain⟨i',k1,k2⟩:=h3 j c' L (by simpa using J) (by simpa using hb);exact⟨i'+1,L,by simpa using k2⟩
  |false=>
   rw[aJ dP]at h ⊢;obtain⟨m,X,h2,h3⟩:=tC Q bs i c h;refine⟨m+1,by simpa using X,by simpa using h2,fun j c' hj J hb=>?_⟩;cases j with
   |zero=>simp at hb
   |succ j=>exact h3 j c' L (by simpa using J) (by simpa using hb)
theorem Bd:∀{Q:List hU} {bs:List Bool} {m:Nat} {c:hU},Q[m]? =some c->bs[m]? =some true->c∈lP Q bs
 | [],_,_,_,h,_=>by simp at h
 |_::_,[],_,_,_,h=>by simp at h
 |a::Q,b::bs,0,c,X,h2=>by
  simp only[bK,an]at X h2;subst X h2;unfold lP;rw[aF rfl];simp
 |a::Q,b::bs,m+1,c,X,h2=>by
  simp only[cD]at X h2;have:=Bd X h2;unfold lP;split
  . simp[this]
  . exact this
theorem qH:∀(Q:List hU) (bs:List Bool),List.Sublist (lP Q bs) Q
 | [],_=>by unfold lP;exact List.Sublist.refl _
 |_::_,[]=>by unfold lP;exact List.nil_sublist _
 |a::Q,b::bs=>by
  unfold lP;split
  . exact(qH Q bs).cons_cons a
  . exact(qH Q bs).cons a
theorem kept{s:RS}(h:nZ s){m:Nat}{c:hU}(W:s.Q[m]? =some c):(fu s)[m]? =some true↔RI s m:=by
 rw[<- BK h W,aO];cases(fu s)[m]? with
 |none=>simp
 |some b=>simp
theorem HW{s:RS}(h:nZ s):nZ (gC s):=by
 have vw:List.Sublist (gC s).Q s.Q:=qH _ _;refine⟨h.nd.sublist (vw.map _),fun c J=>h.nm c (vw.subset J),fun i c J r hr=>?_,h.Vh,fun p hp=>⟨(h.rv p hp).1,?_⟩⟩
 . obtain⟨m,X,h2,h3⟩:=tC s.Q (fu s) i c J;obtain⟨j,c',hj,wO,rfl⟩:=h.ref m c X r hr;have W:=(kept h X).1 h2;have hjr:RI s j:=(HU h wO).2 (.inr ⟨m,c,hj,X,hr,W⟩);obtain⟨i',k1,k2⟩:=h3 j c' hj wO ((kept h wO).2 hjr);exact⟨i',c',k1,k2,rfl⟩
 . obtain⟨c,J,e⟩:=(h.rv p hp).2;obtain⟨j,hj⟩:=bW.1 J;exact⟨c,Bd hj ((kept h hj).2 ((HU h hj).2 (.inl ((Ef _ _).2 ⟨p,hp,e.symm⟩)))),e⟩
def jv(t:RS):List iY:=t.Q.map (fun c=>.chunk c.da c.O)++t.ro.map fun p=>.root p.1 p.2
theorem J6{n x:B}:∀{l:List (B×B)},(∀p∈l,p.1<n)->my n x false l=l++[(n,x)]
 | [],_=>rfl
 |p::l,h=>by
  have hp:=h p (by simp);have hl:yQ n p.1=false:=by
   cases q:yQ n p.1 with
   |false=>rfl
   |true=>exact absurd (Gg hp (Ct.2 q)) (w9 _)
  have fS:¬p.1=n:=fun e=>w9 n (by rw[e]at hp;exact hp);unfold my;rw[hl,aJ (by simp),aJ fS,Bool.or_false,J6 fun q hq=>h q (by simp[hq])];rfl
theorem Ei{t:RS}(h:nZ t):∀(post pre:List hU),t.Q=pre++post->N8 ⟨pre,[]⟩ (post.map fun c=>.chunk c.da c.O)/\(post.map fun c=>iY.chunk c.da c.O).foldl Bc ⟨pre,[]⟩=⟨t.Q,[]⟩
 | [],pre,e=>⟨trivial,by rw[e,cu];rfl⟩
 |c::post,pre,e=>by
  have J:t.Q[pre.length]? =some c:=by rw[e,cq (aC _),Nat.sub_self];rfl
  obtain⟨Ew,xV,K1⟩:=h.nm c (bg J);have GM:(pre.map hU.dg).Nodup:=by
   have:=h.nd;rw[e,aZ]at this;exact(List.nodup_append.1 this).1
  have step:Bc ⟨pre,[]⟩ (.chunk c.da c.O)=⟨pre++[c],[]⟩:=by
   show RS.mk (pre++[⟨dL c.da c.O,c.da,c.O⟩]) []=_;rw[<- Ew]
  have ih:=Ei h post (pre++[c]) (by rw[e,bA];rfl);rw[<- step]at ih;refine⟨⟨⟨xV,K1,fun r hr=>?_,?_⟩,ih.1⟩,ih.2⟩
  . obtain⟨j,c',hj,wO,q⟩:=h.ref _ c J r hr;rw[e,bU,aF hj]at wO;exact(oV GM).2 ⟨j,c',wO,q⟩
  . refine(qG GM).2 fun c' wO q=>?_;rw[<- Ew]at q;obtain⟨j,hj⟩:=bW.1 wO;have Kq:=(aH.1 hj).1;have:t.Q[j]? =some c':=by rw[e,bU,aF Kq];exact hj
    have:=h.N6 this J q;omega
theorem Gj{t:RS}(h:nZ t):∀(post pre:List (B×B)),t.ro=pre++post->N8 ⟨t.Q,pre⟩ (post.map fun p=>.root p.1 p.2)/\(post.map fun p=>iY.root p.1 p.2).foldl Bc ⟨t.Q,pre⟩=t
 | [],pre,e=>⟨trivial,by show RS.mk t.Q pre=t;rw[cu]at e;rw[<- e]⟩
 |p::post,pre,e=>by
  have hp:p∈t.ro:=by rw[e];simp
  have fH:∀q∈pre,q.1<p.1:=fun q hq=>by
   have:=h.Vh;unfold PZ at this;rw[e,aZ,bX,List.pairwise_append]at this;exact this.2.2 _ (bF.2 ⟨q,hq,rfl⟩) _ (by simp)
  have fS:=h.xg hp;have hb:eI p.2 []=false:=by rw[gr];exact bG.2 fS
  have step:Bc ⟨t.Q,pre⟩ (.root p.1 p.2)=⟨t.Q,pre++[p]⟩:=by
   show RS.mk t.Q (my p.1 p.2 (eI p.2 []) pre)=_;rw[hb,J6 fH]
  have ih:=Gj h post (pre++[p]) (by rw[e,bA];rfl);rw[<- step]at ih;refine⟨⟨⟨(h.rv p hp).1,.inr ?_,?_⟩,ih.1⟩,ih.2⟩
  . obtain⟨c,J,q⟩:=(h.rv p hp).2;obtain⟨j,hj⟩:=bW.1 J;exact(oV h.nd).2 ⟨j,c,hj,q⟩
  . show p.2≠gQ p.1 pre;rw[Ag fun q hq z=>w9 p.1 (by have:=fH q hq;rw[z]at this;exact this)];exact fS
theorem Ug{t:RS}(h:nZ t):N8 iP (jv t)/\fo (jv t)=t:=by
 obtain⟨a1,a2⟩:=Ei h t.Q [] rfl;obtain⟨b1,b2⟩:=Gj h t.ro [] rfl;unfold jv;refine⟨Cu.2 ⟨a1,?_⟩,?_⟩
 . show N8 (List.foldl Bc ⟨[],[]⟩ _) _;rw[a2];exact b1
 . show List.foldl Bc ⟨[],[]⟩ _=t;rw[cR,a2];exact b2
theorem Uh(s:B)(a:Nat):∀(m i:Nat) (u:Int),(∀j,i<=j->j<i+m->128<=(s.getD (a+j) 0).toNat)->Py s a m i u=none
 |0,_,_,_=>rfl
 |m+1,i,u,h=>by
  unfold Py;rw[aF (h i (aC _) L)];exact Uh s a m (i+1) _ fun j X h2=>h j L L
theorem N9:∀(k u j:Nat),u<128^(k+1)->j+1<(oO k (u:Int)).length->128<=((eW (oO k (u:Int))).getD j 0).toNat
 |0,u,j,_,hj=>by simp[oO]at hj
 |k+1,u,j,hu,hj=>by
  unfold oO at hj ⊢;by_cases h:(128:Int)<=(u:Int)
  . rw[aF h]at hj ⊢;rw[DT]at hj ⊢;cases j with
    |zero=>
     show 128<=(UInt8.ofNat (U8 (u:Int)).toNat).toNat;rw[ND,u8I L];omega
    |succ j=>
     have hu2:u/128<128^(k+1):=by
      rw[Nat.pow_succ]at hu;exact Nat.div_lt_of_lt_mul (by rw[Nat.mul_comm];exact hu)
     have:=N9 k (u/128) j hu2 (by rw[aT]at hj;omega);exact this
  . rw[aJ h]at hj;simp at hj
theorem J7{s:B}{a:Nat}{n:Int}(h:((s.length-a:Nat):Int)<n):rM s a false n=([],a,true):=by
 unfold rM;rw[aF (.inr (.inr h))]
theorem J8(s:B)(a:Nat)(n:Int):rM s a true n=([],a,true):=by
 unfold rM;rw[aF (.inl rfl)]
theorem J9(s:B)(a k:Nat):(yO s a true k).2.2=true:=by
 unfold yO;rw[J8]
theorem Ui{lg:B}{a:Nat}{t x y:B}(ht:t.length<34359738368)(M:lg.drop a=x)(hy:y≠[])(hp:nV t=x++y)(ha:a<=lg.length):Stop lg a:=by
 have ja:lg.length-a=x.length:=by rw[<- M,b7]
 have hyl:0<y.length:=List.length_pos_iff.2 hy;have RA:=aL List.length hp;have hv:=mN (Int.ofNat t.length);have hvl:(jE (Int.ofNat t.length)).length=(oO 4 (t.length:Int)).length:=vu _;have yN:nV t=jE (Int.ofNat t.length)++(t++dX (IntKind.i64.wrap (rE t))):=by unfold nV jH;rw[bA]
 have h4:(dX (IntKind.i64.wrap (rE t))).length=4:=rfl;rw[yN,ay,ay,ay,h4]at RA;rw[yN]at hp;have hxp:x=(jE (Int.ofNat t.length)++(t++dX (IntKind.i64.wrap (rE t)))).take x.length:=by rw[hp,bY (aC _),aU]
 refine .inr (.inl ?_);by_cases c1:x.length<(jE (Int.ofNat t.length)).length
 ·
  have hr:xH lg a=none:=by
   unfold xH;refine Uh lg a _ 0 0 fun j _ hj=>?_;have hj:j<x.length:=by unfold xG at hj;omega
   have e1:lg.getD (a+j) 0=(eW (oO 4 (t.length:Int))).getD j 0:=by
    rw[aO,<- bL,M,hxp,bQ,aF hj,bU,aF L,aO];rfl
   rw[e1];exact N9 4 t.length j L L
  have e2:ji lg a false=(0,a,true):=by unfold ji Qs;rw[hr];rfl
  have e3:iA lg a false=([],a,true):=by unfold iA;rw[e2];simp only[J8];rfl
  rw[e3];exact J9 _ _ _
 ·
  obtain⟨z,hz⟩:∃z,x=jE (Int.ofNat t.length)++z:=by
   refine⟨(t++dX (IntKind.i64.wrap (rE t))).take (x.length-(jE (Int.ofNat t.length)).length),?_⟩;rw[List.take_append]at hxp;rw[bk L]at hxp;exact hxp
  have hd:lg.drop a=jE (Int.ofNat t.length)++z:=by rw[M,hz]
  have e1:=HF ht hd;have e2:ji lg a false=((t.length:Int),a+(jE (Int.ofNat t.length)).length,false):=by unfold ji;rw[aJ dP];exact e1
  have U2:x.length=(jE (Int.ofNat t.length)).length+z.length:=by rw[hz,ay]
  have vG:lg.length-(a+(jE (Int.ofNat t.length)).length)=z.length:=by omega
  by_cases c2:z.length<t.length
  . have e3:iA lg a false=([],a,true):=by
     unfold iA;rw[e2];simp only[J7 (s:=lg) (a:=a+(jE (Int.ofNat t.length)).length) (n:=(t.length:Int)) (by rw[vG];omega)];rfl
    rw[e3];exact J9 _ _ _
  . obtain⟨u,hu⟩:∃u,z=t++u:=by
     have:z++y=t++dX (IntKind.i64.wrap (rE t)):=by
      rw[hz,bA]at hp;exact(List.append_cancel_left hp).symm
     refine⟨z.drop t.length,?_⟩;have X:=aL (List.take t.length) this;rw[bY L,bY (aC _),aU]at X
     conv=>lhs;rw[<- cg t.length z,X]
    have GX:lg.drop a=jH t++u:=by unfold jH;rw[hd,hu,bA]
    have e3:=zT ht GX;rw[e3];have htl:(jH t).length=(jE (Int.ofNat t.length)).length+t.length:=by unfold jH;rw[ay]
    have H9:z.length=t.length+u.length:=by rw[hu,ay]
    show(yO lg (a+(jH t).length) false 4).2.2=true;unfold yO;rw[J7 (by rw[show(Int.ofNat 4:Int)=((4:Nat):Int)from rfl];omega)]
theorem kO(r:iY)(l:List iY):de (r::l)=r.bytes++de l:=rfl
theorem Ka:∀(cV:List iY) (cut:Nat),cut<=(de cV).length->∃(j:Nat) (x:B),j<=cV.length/\(de cV).take cut=de (cV.take j)++x/\
  (x=[]\/∃r∈cV,∃y,y≠[]/\r.bytes=x++y)/\(∀i,i<=cV.length->(de (cV.take i)).length<=cut->i<=j)/\(de (cV.take j)).length<=cut
 | [],cut,_=>⟨0,[],aC _,by simp[de],.inl rfl,fun i hi _=>hi,aX _⟩
 |r::cV,cut,h=>by
  rw[kO,ay]at h;by_cases c:r.bytes.length<=cut
  . obtain⟨j,x,X,h2,h3,h4,h5⟩:=Ka cV (cut-r.bytes.length) L;refine⟨j+1,x,by rw[aT];omega,?_,?_,fun i hi hb=>?_,?_⟩
    . rw[kO,List.take_succ_cons,kO,List.take_append,bk c,h2,bA]
    . rcases h3 with h3|⟨q,hq,y,hy⟩
      . exact .inl h3
      . exact .inr ⟨q,by simp[hq],y,hy⟩
    . cases i with
      |zero=>exact aX _
      |succ i=>
       rw[List.take_succ_cons,kO,ay]at hb;have:=h4 i (by rw[aT]at hi;omega) L;omega
    . rw[List.take_succ_cons,kO,ay];omega
  . refine⟨0,r.bytes.take cut,aX _,?_,.inr ⟨r,by simp,r.bytes.drop cut,?_,(cg _ _).symm⟩,fun i hi hb=>?_,aX _⟩
    . rw[kO,bY L];rfl
    . intro e;have:=aL List.length e;rw[b7]at this;simp at this;omega
    . cases i with
      |zero=>exact aC _
      |succ i=>rw[List.take_succ_cons,kO,ay]at hb;omega
theorem Uj{cV:List iY}(iC:∀r∈cV,r.ok){cut:Nat}(h:cut<=(de cV).length):∃(j:Nat) (x:B),j<=cV.length/\(de cV).take cut=de (cV.take j)++x/\
  Stop ((de cV).take cut) (de (cV.take j)).length/\(∀i,i<=cV.length->(de (cV.take i)).length<=cut->i<=j)/\(de (cV.take j)).length<=cut:=by
 obtain⟨j,x,X,h2,h3,h4,h5⟩:=Ka cV cut h;refine⟨j,x,X,h2,?_,h4,h5⟩;have hd:((de cV).take cut).drop (de (cV.take j)).length=x:=by rw[h2,List.drop_left'];rfl
 rcases h3 with rfl|⟨r,hr,y,hy,hb⟩
 . left;rw[h2,cu]
 . refine Ui (t:=r.body) (by have:=iY.DV (iC r hr);omega) hd hy hb ?_;rw[h2,ay];omega
theorem wo(cV:List iY):∀{i j:Nat},i<=j->(de (cV.take i)).length<=(de (cV.take j)).length:=fun {i j} h=>by
 have:cV.take i=(cV.take j).take i:=by rw[List.take_take,Nat.min_eq_left h]
 rw[this];exact A3 i
noncomputable abbrev XW:Code:=dO Tryz.f31
section
variable(T A:Nat)(b:B)(F R D:Int)[eB](C N:ae)(o:af)
def lQx:af:=fM (pS T A b F R D C N)++o
def Uk(m:Nat)(e1 r1:ae):af:=[(0,.ints .u32 gS),(1,.ints .u32 gR),(3,.cells [.dx (some (4,0)) T A 1,.int .i64 F,.map (some m),.map (some (m+1)),.int .i64 R,.bool false,.bool eB.on,.int .i64 D]),(4,.ia 5 false b),(5,.dy none C),(6,.dy none N)]++o++[(m,.dy none e1),(m+1,.dy none r1)]
def aiC(F R D:Int)[eB]:af:=fM (pN F R D [] [])++o
def P5(m:Nat)(D:Int)[eB]:af:=[(0,.ints .u32 gS),(1,.ints .u32 gR),(3,.cells [eM,.int .i64 0,.map (some m),.map (some (m+1)),.int .i64 0,.bool false,.bool eB.on,.int .i64 D]),(5,.dy none []),(6,.dy none [])]++o++[(m,.dy none []),(m+1,.dy none [])]
end
theorem aqH(T A cut:Nat)(b:B)(F R D:Int)(off arm:Bool)(C N:ae)(kk:Int)(t0 c2:Nat)(JH:Int)(e1 r1:ae):vX ak (fF fO 57 [P3] (K (@lQx cut A b F R D qD C N [(7,.cells [.int .i64 kk])])) 35 (.ew [],K (@Uk c2 A b (Int.ofNat c2) JH D qD C N [(7,.cells [.int .i64 kk])] 35 e1 r1),37)) [(13,.di (iW t0)),(36,.di (iW cut))] 1000 8 Tryz.f31 (XW) (cZ [P3,.dx (some (7,0)) 1 1 1] (K (fM ⟨some (T,A,b),F,R,off,arm,D,C,N⟩++[(7,.cells [.int .i64 kk])])) 8)
  [([],
   [((0:Int)<=(0:Int)/\(0:Int)<(1:Int)),(V.int aj (IntKind.i64.wrap (Int.ofNat (BitVec.ofInt 64 kk&&&BitVec.ofInt 64 (255:Int)).toNat))=iW t0),((255:Int)≠(0:Int)),(V.int aj (IntKind.i64.wrap (F+IntKind.i64.wrap ((IntKind.i64.wrap (IntKind.i64.wrap ((Int.ofNat T)-F)*Int.ofNat t0)).tdiv (255:Int))))=iW cut),((0:Int)<=Int.ofNat cut/\Int.ofNat cut<=(Int.ofNat A)),(([.ptr (some (3,0))]:ag)=[.ptr (some (3,0))]/\(K (fM (@pS (cut-0) (A-0) b F R D qD C N)++[(7,.cells [.int .i64 kk])]))=(K (fM (@pS cut A b F R D qD C N)++[(7,.cells [.int .i64 kk])]))/\35=35)],
   .ret (.ew []) (K [(0,.ints .u32 gS),(1,.ints .u32 gR),(3,.cells [.dx (some (4,0)) c2 A 1,.int .i64 (Int.ofNat c2),.map (some 8),.map (some 9),.int .i64 JH,.bool false,.bool false,.int .i64 D]),(4,.ia 5 false b),(5,.dy none C),(6,.dy none N),(7,.cells [.int .i64 kk]),(8,.dy none e1),(9,.dy none r1)]) 10)]
 :=⟨U,U,U⟩
theorem aqI(F R D:Int)(off arm:Bool)(kk:Int)(t0:Nat):vX ak (fF fO 57 [P3] (K (@aiC [(7,.cells [.int .i64 kk])] F R D qD)) 35 (.ew [],K (@P5 [(7,.cells [.int .i64 kk])] 35 D qD),37)) [(13,.di (iW t0)),(36,.di (iW 0))] 1000 8 Tryz.f31 (XW) (cZ [P3,.dx (some (7,0)) 1 1 1] (K (fM ⟨none,F,R,off,arm,D,[],[]⟩++[(7,.cells [.int .i64 kk])])) 8)
  [([],
   [((0:Int)<=(0:Int)/\(0:Int)<(1:Int)),(V.int aj (IntKind.i64.wrap (Int.ofNat (BitVec.ofInt 64 kk&&&BitVec.ofInt 64 (255:Int)).toNat))=iW t0),((255:Int)≠(0:Int)),(V.int aj (IntKind.i64.wrap (F+IntKind.i64.wrap ((IntKind.i64.wrap (IntKind.i64.wrap ((0:Int)-F)*Int.ofNat t0)).tdiv (255:Int))))=iW 0),((0:Int)<=(0:Int)/\(0:Int)<=(0:Int)),fC [.ptr (some (3,0))] (K [(0,.ints .u32 gS),(1,.ints .u32 gR),(3,.cells [.dx none 0 0 0,.int .i64 F,.map (some 5),.map (some 6),.int .i64 R,.bool false,.bool false,.int .i64 D]),(5,.dy none []),(6,.dy none []),(7,.cells [.int .i64 kk])]) 35],
   .ret (.ew []) (K [(0,.ints .u32 gS),(1,.ints .u32 gR),(3,.cells [.dx none 0 0 0,.int .i64 0,.map (some 8),.map (some 9),.int .i64 0,.bool false,.bool false,.int .i64 D]),(5,.dy none []),(6,.dy none []),(7,.cells [.int .i64 kk]),(8,.dy none []),(9,.dy none [])]) 10)]
 :=⟨U,U,U⟩
section
variable(F R D:Int)[eB](C:ae)
def lKN:af:=fM (pN F R D C [])++[(7,.cells [.map (some 6)])]
def aqJ:af:=[(0,.ints .u32 gS),(1,.ints .u32 gR),(3,.cells (vW 4 5 6 (pN F R D C []))),(5,.dy none C),(7,.cells [.map (some 6)])]
def ada:St:=eL [(2,.ptr (some (8,0))),(6,w88)] (K (lKN F R D C++[(8,.cells [.dx none 0 0 0])])) 9
noncomputable def aiE:rs:=.loop true none (ada F R D C).S [7] Wc Wd
noncomputable def hKN:H rs:=K (lKN F R D C++[(8,.cells [eM]),(9,.nf),(10,aiE F R D C)])
noncomputable def SKN:St:=eL [(0,.fn (.yield 10) [] []),(5,.ptr (some (11,0)))] (K (aqJ F R D C++[(8,.cells [eM]),(9,.nf),(10,aiE F R D C)])) 12
def yJ:H rs:=K (lKN F R D C)
end
section
variable(F R D:Int)
theorem aqK[eB](C:ae):dc (mD []) [] 8 Tryz.f113 [1,2] (eU 1 SB) (cZ [eM,w88] (yJ F R D C) 8) [([],[],eP (eL [(1,.fn (.func 88) [] [.ptr (some (7,0))]),(2,.ptr (some (8,0)))] (K [(0,.ints .u32 gS),(1,.ints .u32 gR),(3,.cells [.dx none 0 0 0,.int .i64 ((pN F R D C []).F),.map (some 5),.map (some 6),.int .i64 ((pN F R D C []).R),.bool false,.bool eB.on,.int .i64 ((pN F R D C []).D)]),(5,.dy none ((pN F R D C []).C)),(6,.dy none []),(7,.cells [.map (some 6)]),(8,.cells [.dx none 0 0 0])]) 9))]:=cT.ef
theorem aqL[eB](C:ae):dc (mD []) [] 8 Tryz.f113 [2,6] (dS (dS AY)) (eL [(1,w88),(2,P 8)] (K (lKN F R D C++[(8,.cells [eM])])) 9) [([],[],eP (eL [(2,.ptr (some (8,0))),(6,.fn (.func 88) [] [.ptr (some (7,0))])] (K [(0,.ints .u32 gS),(1,.ints .u32 gR),(3,.cells [.dx none 0 0 0,.int .i64 ((pN F R D C []).F),.map (some 5),.map (some 6),.int .i64 ((pN F R D C []).R),.bool false,.bool eB.on,.int .i64 ((pN F R D C []).D)]),(5,.dy none ((pN F R D C []).C)),(6,.dy none []),(7,.cells [.map (some 6)]),(8,.cells [.dx none 0 0 0])]) 9))]:=cT.ef
theorem aqM[eB](C:ae):dc (mD []) [] 8 Tryz.f113 [] (dU AY) (uq (ada F R D C) (hKN F R D C) 11) [([],[],.ret (.dx none 0 0 0) (K [(0,.ints .u32 gS),(1,.ints .u32 gR),(3,.cells [.dx none 0 0 0,.int .i64 ((pN F R D C []).F),.map (some 5),.map (some 6),.int .i64 ((pN F R D C []).R),.bool false,.bool eB.on,.int .i64 ((pN F R D C []).D)]),(5,.dy none ((pN F R D C []).C)),(6,.dy none []),(7,.cells [.map (some 6)])]) 8)]:=cT.ef
theorem aqN[eB](C:ae):dc (fF (mD []) 113 [eM,w88] (yJ F R D C) 8 (eM,yJ F R D C,8)) [] 8 Tryz.f86 [] (Fb) (cZ [w88] (yJ F R D C) 8) [([],[fC [.dx none 0 0 0,.fn (.func 88) [] [.ptr (some (7,0))]] (K [(0,.ints .u32 gS),(1,.ints .u32 gR),(3,.cells [.dx none 0 0 0,.int .i64 ((pN F R D C []).F),.map (some 5),.map (some 6),.int .i64 ((pN F R D C []).R),.bool false,.bool eB.on,.int .i64 ((pN F R D C []).D)]),(5,.dy none ((pN F R D C []).C)),(6,.dy none []),(7,.cells [.map (some 6)])]) 8],.ret (.dx none 0 0 0) (K [(0,.ints .u32 gS),(1,.ints .u32 gR),(3,.cells [.dx none 0 0 0,.int .i64 ((pN F R D C []).F),.map (some 5),.map (some 6),.int .i64 ((pN F R D C []).R),.bool false,.bool eB.on,.int .i64 ((pN F R D C []).D)]),(5,.dy none ((pN F R D C []).C)),(6,.dy none []),(7,.cells [.map (some 6)])]) 8)]:=cT.ef
theorem aqO[eB](C:ae):dc (fF (mD []) 86 [w88] (yJ F R D C) 8 (eM,yJ F R D C,8)) [] 8 Tryz.f61 [] (Fa) (cZ [w88] (yJ F R D C) 8) [([],[fC [.fn (.func 88) [] [.ptr (some (7,0))]] (K [(0,.ints .u32 gS),(1,.ints .u32 gR),(3,.cells [.dx none 0 0 0,.int .i64 ((pN F R D C []).F),.map (some 5),.map (some 6),.int .i64 ((pN F R D C []).R),.bool false,.bool eB.on,.int .i64 ((pN F R D C []).D)]),(5,.dy none ((pN F R D C []).C)),(6,.dy none []),(7,.cells [.map (some 6)])]) 8,(0:Int)<=(0:Int)/\0<256],.ret (.dx none 0 0 0) (K [(0,.ints .u32 gS),(1,.ints .u32 gR),(3,.cells [.dx none 0 0 0,.int .i64 ((pN F R D C []).F),.map (some 5),.map (some 6),.int .i64 ((pN F R D C []).R),.bool false,.bool eB.on,.int .i64 ((pN F R D C []).D)]),(5,.dy none ((pN F R D C []).C)),(6,.dy none []),(7,.cells [.map (some 6)])]) 8)]:=cT.ef
theorem aqP[eB](C:ae):dc (fF (mD []) 61 [w88] (yJ F R D C) 8 (eM,yJ F R D C,8)) [] 7 Tryz.f23 [] (Pu) (cZ [P3] (dN (pN F R D C [])) 7) [([],[fC [.fn (.func 88) [] [.ptr (some (7,0))]] (K [(0,.ints .u32 gS),(1,.ints .u32 gR),(3,.cells [.dx none 0 0 0,.int .i64 ((pN F R D C []).F),.map (some 5),.map (some 6),.int .i64 ((pN F R D C []).R),.bool false,.bool eB.on,.int .i64 ((pN F R D C []).D)]),(5,.dy none ((pN F R D C []).C)),(6,.dy none []),(7,.cells [.map (some 6)])]) 8],.ret (.dx none 0 0 0) (K [(0,.ints .u32 gS),(1,.ints .u32 gR),(3,.cells [.dx none 0 0 0,.int .i64 ((pN F R D C []).F),.map (some 5),.map (some 6),.int .i64 ((pN F R D C []).R),.bool false,.bool eB.on,.int .i64 ((pN F R D C []).D)]),(5,.dy none ((pN F R D C []).C)),(6,.dy none [])]) 7)]:=cT.ef
end
section
variable(F R D:Int)[eB](C:ae)
theorem XX:c5 ak 88 [.fn (.yield 10) [] [],.ptr (some (7,0))] (hKN F R D C) 11 (.ew []) (hKN F R D C) 11:=by
 refine gh.is (gO mo po Tryz.func88 (code:=E9) U U ?_);rw[agu];refine zN (v0:=.map (some 6)) (kH:=(cZ [.fn (.yield 10) [] [],.ptr (some (7,0))] (hKN F R D C) 11).S.set 4 (some (.map (some 6)))) (Ap:=((cZ [.fn (.yield 10) [] [],.ptr (some (7,0))] (hKN F R D C) 11).S.set 4 (some (.map (some 6)))).set 5 (some (.ptr (some (11,0))))) (m:=6) (kd:=none) (C:=[]) mo Nz
  U U U U (ax rfl) U (fun iO s1=>iO=[]/\fe 12 [0,5] s1=some (SKN F R D C)) ⟨rfl,U⟩ ?_
 rintro iO left s1 ⟨rfl,hs⟩ hp;refine⟨[0,5],SKN F R D C,hs,U,fun vt=>?_,fun e kN he=>?_⟩
 . exact⟨(SKN F R D C).S.set 6 (some (.ew [.bool false])),{ SKN F R D C with S:=((SKN F R D C).S.set 6 (some (.ew [.bool false]))).set 7 (some (.bool false)) },U,U,U,.inl rfl,.ew [],hKN F R D C,11,U,rfl,rfl,rfl⟩
 . have X:=hp.length_eq;have h2:=he.length_eq;simp only[cH,bP,aT]at X h2;omega
theorem Ul:c5 ak 113 [eM,w88] (yJ F R D C) 8 eM (yJ F R D C) 8:=by
 refine c7 Tryz.func113 (code:=SB) U U ?_;refine iw  1 (XQ []) (aqK F R D C) cW ?_;show TG ak 8 Tryz.f113.ntmps AY (eL [(1,w88),(2,P 8)] (K (lKN F R D C++[(8,.cells [eM])])) 9) _;refine c6 U ?_;refine c6 U ?_;refine fV (XQ []) (aqL F R D C) (dG ?_);refine⟨cW,fun s' ek=>?_⟩;have ek:fe 8 [2,6] s'=some (ada F R D C):=ek;refine dh ek ?_;refine fk (i:=0) U ?_;refine oP (gf:=88) (lb:=[.ptr (some (7,0))]) U U U U U (XX F R D C).one ?_;rintro v h n ⟨rfl,rfl,rfl⟩;refine⟨U,?_⟩;show TG ak 8 Tryz.f113.ntmps (dU AY) _ _;refine eZ (XQ []) (aqM F R D C) (dG ?_);exact⟨cW,_,_,_,rfl,rfl,rfl,rfl⟩
theorem Oa:c5 ak 23 [P3] (dN (pN F R D C [])) 7 eM (dN (pN F R D C [])) 7:=by
 have h86:c5 ak 86 [w88] (yJ F R D C) 8 eM (yJ F R D C) 8:=by
  refine c7 Tryz.func86 (code:=Fb) U U ?_;refine eZ ((XQ []).jG (ax U) (Ul F R D C)) (aqN F R D C) (dG ?_);exact⟨fun p hp=>by rw[au]at hp;subst hp;exact DO,_,_,_,rfl,rfl,rfl,rfl⟩
 have h61:c5 ak 61 [w88] (yJ F R D C) 8 eM (yJ F R D C) 8:=by
  refine c7 Tryz.func61 (code:=Fa) U U ?_;refine eZ ((XQ []).jG (ax U) h86) (aqO F R D C) (dG ?_);refine⟨?_,_,_,_,rfl,rfl,rfl,rfl⟩
  repeat' (first|exact cW|refine kg ?_ ?_)
  . exact DO
  . decide
 refine c7 Tryz.func23 (code:=Pu) U U ?_;refine eZ ((XQ []).jG (ax U) h61) (aqP F R D C) (dG ?_);exact⟨fun p hp=>by rw[au]at hp;subst hp;exact DO,_,_,_,rfl,rfl,rfl,rfl⟩
end
section
variable(l:List (Nat×List (Nat×pC)))
noncomputable abbrev csE:e9:=gL ak (kC 63 (jW Mg) W16) (rF l) 1000 40
noncomputable abbrev XE:CX ak:=CX.of mo po (fh S5 DP) (rF l) 1000 40
end
section
variable(F R D:Int)[eB]
def lSn:af:=fM (pN F R D [] [])++[(7,.cells [P3]),(8,.dy none []),(9,.cells [.map (some 8)])]
def aqQ:af:=fM (pN F R D [] [])++[(7,.cells [P3]),(9,.cells [.map (some 8)])]
def adb:St:=eL [(2,P 10),(6,g81)] (K (lSn F R D++[(10,.cells [eM])])) 11
noncomputable def aiH:rs:=.loop true none (adb F R D).S [7] abS abT
noncomputable def P6:H rs:=K (lSn F R D++[(10,.cells [eM]),(11,.nf),(12,aiH F R D)])
noncomputable def XY:St:=eL [(0,.fn (.yield 12) [] []),(5,P 13)] (K (aqQ F R D++[(10,.cells [eM]),(11,.nf),(12,aiH F R D)])) 14
def tD:H rs:=K (lSn F R D)
def kNc:af:=fM (pN F R D [] [])++[(7,.cells [P3]),(19,.cells [.map (some 6)])]
def kNd:af:=kNc F R D++[(20,.dy none [])]
def kNe:af:=kNc F R D++[(20,.dy none []),(21,.cells [.map (some 20)])]
def Qx:af:=fM (pN F R D [] [])++[(7,.cells [P3])]
end
section
variable(n:B)(F R D:Int)
theorem aqR[eB]:dc (mD []) [] 10 Tryz.f100 [1,2] (eU 1 SA) (cZ [eM,g81] (tD F R D) 10) [([],[],eP (eL [(1,g81),(2,P 10)] (K (lSn F R D++[(10,.cells [eM])])) 11))]:=cT.ef
theorem aqS[eB]:dc (mD []) [] 10 Tryz.f100 [2,6] (dS (dS Pt)) (eL [(1,g81),(2,P 10)] (K (lSn F R D++[(10,.cells [eM])])) 11) [([],[],eP (adb F R D))]:=cT.ef
theorem aqT[eB]:dc (mD []) [] 10 Tryz.f100 [] (dU Pt) (uq (adb F R D) (P6 F R D) 13) [([],[],.ret (.dx none 0 0 0) (tD F R D) 10)]:=cT.ef
theorem aqU[eB]:dc (mD []) [] 10 Tryz.f79 [0] (eU 1 LY) (cZ [g81] (tD F R D) 10) [([],[],eP (eL [(0,g81)] (tD F R D) 10))]:=cT.ef
theorem aqV[eB]:dc (mD []) [] 10 Tryz.f79 [] (dU (dw 1 LY)) (sC8 (tD F R D) 10 eM) [([],[],.ret (.dx none 0 0 0) (tD F R D) 10)]:=cT.ef
theorem aqW[eB]:dc (mD []) [] 10 Tryz.f54 [0,1] (eU 1 LX) (cZ [g81,g56] (tD F R D) 10) [([],[],eP (eL [(0,g81),(1,g56)] (tD F R D) 10))]:=cT.ef
theorem aiI[eB]:dc (mD []) [] 10 Tryz.f54 [] (dw 2 LX) (sS8 (tD F R D) 10 eM) [([],[(0:Int)<=(0:Int)/\0<256],.ret (.dx none 0 0 0) (tD F R D) 10)]:=cT.ef
theorem aqX[eB]:dc (fF (fF (mD []) 51 [P3,v78] (K (kNc F R (wL D))) 20 (.map (some 20),K (kNd F R (wL D)),21)) 54 [v81,v56] (K (kNe F R (wL D))) 22 (eM,K (kNe F R (wL D)),22)) [] 7 Tryz.f19 [1,3,4] (hd4) (cZ [P3] (dN (pN F R D [] [])) 7) [([],[gS=gS,gR=gR,false=false,Ic eB.on D,([.ptr (some (3,0)),.fn (.func 78) [] [.ptr (some (19,0))]]:ag)=[.ptr (some (3,0)),.fn (.func 78) [] [.ptr (some (19,0))]]/\(K [(0,.ints .u32 gS),(1,.ints .u32 gR),(3,.cells [.dx none 0 0 0,.int .i64 F,.map (some 5),.map (some 6),.int .i64 R,.bool false,.bool (eB.on),.int .i64 ((Qq eB.on D))]),(5,.dy none []),(6,.dy none []),(7,.cells [.ptr (some (3,0))]),(19,.cells [.map (some 6)])])=(K [(0,.ints .u32 gS),(1,.ints .u32 gR),(3,.cells [.dx none 0 0 0,.int .i64 F,.map (some 5),.map (some 6),.int .i64 R,.bool false,.bool (eB.on),.int .i64 ((wL D))]),(5,.dy none []),(6,.dy none []),(7,.cells [.ptr (some (3,0))]),(19,.cells [.map (some 6)])])/\20=20,fC [.fn (.func 81) [] [.ptr (some (21,0))],.fn (.func 56) [] [.ptr (some (7,0))]] (K [(0,.ints .u32 gS),(1,.ints .u32 gR),(3,.cells [.dx none 0 0 0,.int .i64 F,.map (some 5),.map (some 6),.int .i64 R,.bool false,.bool (eB.on),.int .i64 ((wL D))]),(5,.dy none []),(6,.dy none []),(7,.cells [.ptr (some (3,0))]),(19,.cells [.map (some 6)]),(20,.dy none []),(21,.cells [.map (some 20)])]) 22],eP (eL [(1,.ptr (some (7,0))),(3,.dx none 0 0 0),(4,.dx none 0 0 0)] (K [(0,.ints .u32 gS),(1,.ints .u32 gR),(3,.cells [.dx none 0 0 0,.int .i64 F,.map (some 5),.map (some 6),.int .i64 R,.bool false,.bool (eB.on),.int .i64 ((wL D))]),(5,.dy none []),(6,.dy none []),(7,.cells [.ptr (some (3,0))])]) 8))]:=cT.ef
theorem aqY[eB]:dc (mD []) [] 7 Tryz.f19 [1,4] (dS Vc) (eL [(1,P 7),(3,eM),(4,eM)] (K (Qx F R D)) 8) [([],[],eP (eL [(1,.ptr (some (7,0))),(4,.dx none 0 0 0)] (K [(0,.ints .u32 gS),(1,.ints .u32 gR),(3,.cells [.dx none 0 0 0,.int .i64 F,.map (some 5),.map (some 6),.int .i64 R,.bool false,.bool (eB.on),.int .i64 D]),(5,.dy none []),(6,.dy none []),(7,.cells [.ptr (some (3,0))])]) 8))]:=cT.ef
theorem aiJ[eB]:dc (fF BD 23 [P3] (K (Qx F R D)) 8 (eM,K (Qx F R D),8)) [] 7 Tryz.f19 [1,4] (dS A2) (eL [(1,P 7),(4,eM)] (K (Qx F R D)) 8) [([],[fC [.ptr (some (3,0))] (K [(0,.ints .u32 gS),(1,.ints .u32 gR),(3,.cells [.dx none 0 0 0,.int .i64 F,.map (some 5),.map (some 6),.int .i64 R,.bool false,.bool (eB.on),.int .i64 D]),(5,.dy none []),(6,.dy none []),(7,.cells [.ptr (some (3,0))])]) 8],eP (eL [(1,.ptr (some (7,0))),(4,.dx none 0 0 0)] (K [(0,.ints .u32 gS),(1,.ints .u32 gR),(3,.cells [.dx none 0 0 0,.int .i64 F,.map (some 5),.map (some 6),.int .i64 R,.bool false,.bool (eB.on),.int .i64 D]),(5,.dy none []),(6,.dy none []),(7,.cells [.ptr (some (3,0))])]) 8))]:=cT.ef
theorem aiK[eB]:dc BD [] 7 Tryz.f19 [1] (eU 3 (dU A2)) (eL [(1,P 7),(4,eM)] (K (Qx F R D)) 8) [([],[gS=gS,gR=gR,false=false,Ic eB.on D],eP (eL [(1,.ptr (some (7,0)))] (K [(0,.ints .u32 gS),(1,.ints .u32 gR),(3,.cells [.dx none 0 0 0,.int .i64 0,.map (some 5),.map (some 6),.int .i64 R,.bool false,.bool (eB.on),.int .i64 ((Qq eB.on D))]),(5,.dy none []),(6,.dy none []),(7,.cells [.ptr (some (3,0))])]) 8))]:=cT.ef
theorem aiL[eB]:dc (fF BD 57 [P3] (K (Qx 0 R D)) 8 (.ew [],K (P5 [(7,.cells [P3])] 8 D),10)) [] 7 Tryz.f19 [] (dw 3 (dU A2)) (eL [(1,.ptr (some (7,0)))] (K (Qx 0 R D)) 8) [([],[fC [.ptr (some (3,0))] (K [(0,.ints .u32 gS),(1,.ints .u32 gR),(3,.cells [.dx none 0 0 0,.int .i64 ((0:Int)),.map (some 5),.map (some 6),.int .i64 R,.bool false,.bool (eB.on),.int .i64 D]),(5,.dy none []),(6,.dy none []),(7,.cells [.ptr (some (3,0))])]) 8],.ret (.int .i64 0) (K [(0,.ints .u32 gS),(1,.ints .u32 gR),(3,.cells [.dx none 0 0 0,.int .i64 0,.map (some 7),.map (some 8),.int .i64 0,.bool false,.bool (eB.on),.int .i64 D]),(5,.dy none []),(6,.dy none []),(7,.dy none []),(8,.dy none [])]) 9)]:=cT.ef
theorem aqZ(d:B)(F R D:Int)[eB]:dc (csE E6) [(16,.di (.bool false))] 7 Tryz.f15 [] (uO) (cZ [P3,.str d,.dV false 0 []] (dN (pN F R D [] [])) 7) [([],[jC (decide ((Int.ofNat d.length)>(65536:Int))),[]=strs (dI []),0=0,0<=1000000,∀(x:B),x∈dI []->x.length=32,gS=gS,gR=gR,[]=strs (dI []),0=0,0<=1000000,(eJ (d::dI [])).length<=1000000000,(if true=true then V.ew [lf.fI (V.agg [V.str ([]:B),V.dx none 0 0 0,V.int aj (0:Int)]) (dj (lf.str (dL d (dI []))) []),V.bool (dj (lf.str (dL d (dI []))) []).isSome]else lf.fI (V.agg [V.str ([]:B),V.dx none 0 0 0,V.int aj (0:Int)]) (dj (lf.str (dL d (dI []))) []))=V.ew [zO,V.bool false],[]=strs (dI []),0=0,d.length<=100000000,0<=1000000,0<=100000000,jC (decide (IntKind.i64.wrap ((0:Int)+(Int.ofNat (gM d (dI [])).length))>(1048576:Int))),gS=gS,gR=gR,false=false,Ic eB.on D,0<(gM d (dI [])).length,fa (gM d (dI [])).length 1 1=true],.ret (.ew [.str (dL d (dI [])),.int .i64 0]) (K [(0,.ints .u32 gS),(1,.ints .u32 gR),(3,.cells [.dx (some (7,0)) ((gM d (dI [])).length) ((gM d (dI [])).length) 1,.int .i64 F,.map (some 5),.map (some 6),.int .i64 (IntKind.i64.wrap (R+(1:Int))),.bool false,.bool (eB.on),.int .i64 ((Qq eB.on D))]),(5,.dy none [(.str (dL d (dI [])),.agg [.str d,.dV 0 [],.int .i64 R])]),(6,.dy none []),(7,.ia 5 false (gM d (dI [])))]) 8)]:=cT.ef
theorem aq0(d d0:B)(iP:List (B))(k:Int)(T A:Nat)(b:B)(F R D:Int)[eB](C N:ae):dc (mD (Ps d0 iP k)) [(16,.di (.bool false))] 7 Tryz.f15 [] (uO) (cZ [P3,.str d,.dV false 0 []] (dN (pS T A b F R D C N)) 7) [([],[jC (decide ((Int.ofNat d.length)>(65536:Int))),[]=strs (dI []),0=0,0<=1000000,∀(x:B),x∈dI []->x.length=32,gS=gS,gR=gR,[]=strs (dI []),0=0,0<=1000000,(eJ (d::dI [])).length<=1000000000,(if true=true then V.ew [lf.fI (V.agg [V.str ([]:B),V.dx none 0 0 0,V.int aj (0:Int)]) (dj (lf.str (dL d (dI []))) C),V.bool (dj (lf.str (dL d (dI []))) C).isSome]else lf.fI (V.agg [V.str ([]:B),V.dx none 0 0 0,V.int aj (0:Int)]) (dj (lf.str (dL d (dI []))) C))=V.ew [nW d0 iP k,V.bool true]],.ret (.ew [.str (dL d (dI [])),.int .i64 0]) (K [(0,.ints .u32 gS),(1,.ints .u32 gR),(3,.cells [.dx (some (4,0)) T A 1,.int .i64 F,.map (some 5),.map (some 6),.int .i64 R,.bool false,.bool (eB.on),.int .i64 D]),(4,.ia 5 false b),(5,.dy none C),(6,.dy none N)]) 7)]:=cT.ef
theorem aq1(d:B)(T A:Nat)(b:B)(F R D:Int)[eB](C N:ae):dc (csE E6) [(16,.di (.bool false))] 7 Tryz.f15 [] (uO) (cZ [P3,.str d,.dV false 0 []] (dN (pS T A b F R D C N)) 7) [([],[jC (decide ((Int.ofNat d.length)>(65536:Int))),[]=strs (dI []),0=0,0<=1000000,∀(x:B),x∈dI []->x.length=32,gS=gS,gR=gR,[]=strs (dI []),0=0,0<=1000000,(eJ (d::dI [])).length<=1000000000,(if true=true then V.ew [lf.fI (V.agg [V.str ([]:B),V.dx none 0 0 0,V.int aj (0:Int)]) (dj (lf.str (dL d (dI []))) C),V.bool (dj (lf.str (dL d (dI []))) C).isSome]else lf.fI (V.agg [V.str ([]:B),V.dx none 0 0 0,V.int aj (0:Int)]) (dj (lf.str (dL d (dI []))) C))=V.ew [zO,V.bool false],[]=strs (dI []),0=0,d.length<=100000000,0<=1000000,0<=100000000,jC (decide (IntKind.i64.wrap ((Int.ofNat T)+(Int.ofNat (gM d (dI [])).length))>(1048576:Int))),gS=gS,gR=gR,false=false,Ic eB.on D,0<A,T=b.length,fa (T+(gM d (dI [])).length) 1 1=true],.ret (.ew [.str (dL d (dI [])),.int .i64 0]) (K [(0,.ints .u32 gS),(1,.ints .u32 gR),(3,.cells [.dx (some (7,0)) (T+(gM d (dI [])).length) (T+(gM d (dI [])).length) 1,.int .i64 F,.map (some 5),.map (some 6),.int .i64 (IntKind.i64.wrap (R+(1:Int))),.bool false,.bool (eB.on),.int .i64 ((Qq eB.on D))]),(5,.dy none (iK (lf.str (dL d (dI []))) (lf.agg [lf.str d,lf.dV 0 [],lf.int aj R]) C)),(6,.dy none N),(7,.ia 5 false (b++eW (eo (gM d (dI [])))))]) 8)]:=cT.ef
theorem aq2(d x:B)(F R D:Int)[eB]:dc (mD []) [(16,.di (.bool false))] 7 Tryz.f15 [] (uO) (cZ [P3,.str d,.dV false 1 [.str x]] (dN (pN F R D [] [])) 7) [([],[jC (decide ((Int.ofNat d.length)>(65536:Int))),[lf.str x]=strs (dI [lf.str x]),1=(dI [lf.str x]).length,1<=1000000,∀(x_1:B),x_1∈dI [lf.str x]->x_1.length=32,(0:Int)<=(0:Int)/\(0:Int)<(1:Int),[lf.str x].length=1],.ret (.ew [.str [],.int .i64 63]) (K [(0,.ints .u32 gS),(1,.ints .u32 gR),(3,.cells [.dx none 0 0 0,.int .i64 F,.map (some 5),.map (some 6),.int .i64 R,.bool false,.bool (eB.on),.int .i64 D]),(5,.dy none []),(6,.dy none [])]) 7)]:=cT.ef
theorem aq3[eB]:dc (Zx []) [(23,.di (.bool false)),(27,.di (.bool false))] 7 Tryz.f16 [] (rN) (cZ [P3,.str n,.str []] (dN (pN F R D [] [])) 7) [([],[jC (eI n ([]:B)),jC (decide ((Int.ofNat n.length)>(64:Int)))],.ret (.int .i64 0) (K [(0,.ints .u32 gS),(1,.ints .u32 gR),(3,.cells [.dx none 0 0 0,.int .i64 F,.map (some 5),.map (some 6),.int .i64 R,.bool false,.bool (eB.on),.int .i64 D]),(5,.dy none []),(6,.dy none [])]) 7)]:=cT.ef
theorem aq4(d:B)(F R D:Int)[eB]:dc (Zx []) [(23,.di (.bool false)),(27,.di (.bool false)),(31,.di (.bool true))] 7 Tryz.f16 [] (rN) (cZ [P3,.str n,.str d] (dN (pN F R D [] [])) 7) [([],[jC (eI n ([]:B)),jC (decide ((Int.ofNat n.length)>(64:Int))),(V.bool !eI d ([]:B))=V.bool true],.ret (.int .i64 62) (K [(0,.ints .u32 gS),(1,.ints .u32 gR),(3,.cells [.dx none 0 0 0,.int .i64 F,.map (some 5),.map (some 6),.int .i64 R,.bool false,.bool (eB.on),.int .i64 D]),(5,.dy none []),(6,.dy none [])]) 7)]:=cT.ef
end
theorem aq5(T A:Nat)(b:B)(F R D:Int)[eB](C N:ae):dc (mD []) [] 7 Tryz.f20 [] (dO Tryz.f20) (cZ [P3] (dN (pS T A b F R D C N)) 7) [([],[],.ret (.int .i64 ((Int.ofNat C.length))) (K [(0,.ints .u32 gS),(1,.ints .u32 gR),(3,.cells [.dx (some (4,0)) T A 1,.int .i64 F,.map (some 5),.map (some 6),.int .i64 R,.bool false,.bool (eB.on),.int .i64 D]),(4,.ia 5 false b),(5,.dy none C),(6,.dy none N)]) 7)]:=cT.ef
theorem aq6(F R D:Int)[eB]:dc (mD []) [] 7 Tryz.f20 [] (dO Tryz.f20) (cZ [P3] (dN (pN F R D [] [])) 7) [([],[],.ret (.int .i64 ((Int.ofNat ([]:ae).length))) (K [(0,.ints .u32 gS),(1,.ints .u32 gR),(3,.cells [.dx none 0 0 0,.int .i64 F,.map (some 5),.map (some 6),.int .i64 R,.bool false,.bool (eB.on),.int .i64 D]),(5,.dy none []),(6,.dy none [])]) 7)]:=cT.ef
abbrev sC(n A:Nat)(b:B)(F R D:Int)[eB](C N:ae):gx:=pc (pN F R D C N) n A b
abbrev sZ(F R D:Int)[eB]:gx:=pz (pN F R D [] [])
section
variable{n A:Nat}{b:B}{F R D:Int}[eB]{C N:ae}
section
variable{f:FuncId}{nm:B}{rest:ag}{a:B}{e:Int}{m:Nat}{u:B}{ZP:Int}
theorem ZQ(c:c5 ak f (P3::rest) (dN (pS n A b F R D C N)) 7 (.ew [.str a,.int .i64 e]) (dN (pS n A b F R D C N)) 7):qf f rest (sC n A b F R D C N) (.ew [.str a,.int .i64 e]) (sC n A b F R D C N):=c.Af 4 U
theorem Um(c:c5 ak f (P3::rest) (dN (pS n A b F R D C N)) 7 (.int .i64 e) (dN (pS n A b F R D C N)) 7):qf f rest (sC n A b F R D C N) (.int .i64 e) (sC n A b F R D C N):=c.Af 4 U
theorem ade(c:c5 ak f (P3::rest) (dN (pN F R D [] [])) 7 (.ew [.str a,.int .i64 e]) (dN (pN F R D [] [])) 7):qf f rest (sZ F R D) (.ew [.str a,.int .i64 e]) (sZ F R D):=c.Af 4 U
theorem Un(c:c5 ak f (P3::rest) (dN (pN F R D [] [])) 7 (.int .i64 e) (dN (pN F R D [] [])) 7):qf f rest (sZ F R D) (.int .i64 e) (sZ F R D):=c.Af 4 U
theorem adf{nx2 ZP:Int}{xx:ae}(c:c5 ak f (P3::rest) (dN (pS n A b F R D C N)) 7 (.ew [.str a,.int .i64 e]) (Sw m u F nx2 ZP xx N) 8):qf f rest (sC n A b F R D C N) (.ew [.str a,.int .i64 e]) (sC m m u F nx2 ZP xx N):=c.Af 4 U
theorem MJ{rt2:ae}(c:c5 ak f (P3::rest) (dN (pS n A b F R D C N)) 7 (.int .i64 e) (NL F R ZP C m u rt2) 8):qf f rest (sC n A b F R D C N) (.int .i64 e) (sC m m u F R ZP C rt2):=c.Af 4 U
theorem aiM{d:B}{O:List (B)}(hd:d.length<=65536)(hn:O.length<=1024)(h32:∀x∈O,x.length=32)(Cb:∀x∈O,Cn C x)(hk:Cn C (dL d O)):
  qf 15 [.str d,p9 O] (sC n A b F R D C N) (.ew [.str (dL d O),.int .i64 0]) (sC n A b F R D C N):=by
 refine ZQ ?_;cases O with
 |cons x O=>exact Sx d n A b F R D C N false (x::O) hd hn h32 Cb hk
 |nil=>
  have hO:∀n:Nat,Int.ofNat n=(n:Int):=fun _=>rfl;obtain⟨d0,iP,k,hk⟩:=hk;refine c7 Tryz.func15 (code:=uO) U U ?_;refine eZ (XQ (Ps d0 iP k)) (aq0 d d0 iP k n A b F R D C N) (dG ?_);refine⟨?_,_,_,_,rfl,rfl,rfl,rfl⟩;have hj:=gZ d [] (by simp);simp only[bP]at hj;refine G (gl dr) (G rfl (G rfl (G L (G (fun _ M=>absurd M aN) (G rfl (G rfl (G rfl (G rfl (G L (G ?_ (eS (kZ hk))))))))))));show(eJ [d]).length<=_;omega
theorem aiN{d:B}{O:List (B)}(ho:BZ D)(hd:d.length<=65536)(hn:O.length<=1024)(h32:∀x∈O,x.length=32)(Cb:∀x∈O,Cn C x)(hk:dj (.str (dL d O)) C=none)(J:0<A)(hl:n=b.length)(EM:n+(gM d O).length<=1048576):
  qf 15 [.str d,p9 O] (sC n A b F R D C N) (.ew [.str (dL d O),.int .i64 0]) (sC (n+(gM d O).length) (n+(gM d O).length) (b++gM d O) F (IntKind.i64.wrap (R+1)) (wL D) (iK (.str (dL d O)) (tf d O R) C) N):=by
 refine adf ?_;cases O with
 |cons x O=>exact Sy d n A b F R D C N false (x::O) ho hd hn (Nat.succ_pos _) h32 Cb hk J hl EM
 |nil=>
  have hO:∀n:Nat,Int.ofNat n=(n:Int):=fun _=>rfl;refine c7 Tryz.func15 (code:=uO) U U ?_;obtain⟨be,hr⟩:=aq1 d n A b F R D C N;simp only[zQ,gu]at hr;refine ij (XE E6) mo _ U hr (dG ?_);refine⟨?_,_,_,_,rfl,rfl,rfl,rfl⟩;have hj:=gZ d [] (by simp);simp only[bP]at hj;refine G (gl dr) (G (by first|rfl|trivial) (G (by first|rfl|trivial) (G L (G (fun _ M=>absurd M aN) (G (by first|rfl|trivial) (G (by first|rfl|trivial) (G (by first|rfl|trivial) (G (by first|rfl|trivial) (G L (G (?_) (G (nc hk) (G (by first|rfl|trivial) (G (by first|rfl|trivial) (G L (G L (G L (G (?_) (G (by first|rfl|trivial) (G (by first|rfl|trivial) (G (by first|rfl|trivial) (G ho (G (J) (G (hl) (eS (jD (by show n+(gM d []).length<=_;omega))))))))))))))))))))))))))
  . show(eJ [d]).length<=_;omega
  . show V.bool (decide (IntKind.i64.wrap (Int.ofNat n+Int.ofNat (gM d []).length)>1048576))=_;rw[eV dr dr];exact gl dr
theorem aiO{d:B}{O:List (B)}(hd:d.length<=65536)(hn:O.length<=1024)(h32:∀x∈O,x.length=32)(j:Nat)(x:B)(hj:O[j]? =some x)(M:dj (.str x) C=none)(hg:∀i y,i<j->O[i]? =some y->Cn C y):
  qf 15 [.str d,p9 O] (sC n A b F R D C N) (.ew [.str [],.int .i64 63]) (sC n A b F R D C N):=ZQ (WI false O n A b F R D C N d hd hn h32 j x hj M hg)
theorem XZ{d:B}(ho:BZ D)(hd:d.length<=65536):qf 15 [.str d,p9 []] (sZ F R D) (.ew [.str (dL d []),.int .i64 0]) (sC (gM d []).length (gM d []).length (gM d []) F (IntKind.i64.wrap (R+1)) (wL D) (iK (.str (dL d [])) (tf d [] R) []) []):=by
 have key:c5 ak 15 [P3,.str d,.dV false 0 []] (dN (pN F R D [] [])) 7 (.ew [.str (dL d []),.int .i64 0]) (K [(0,.ints .u32 gS),(1,.ints .u32 gR),(3,.cells [.dx (some (7,0)) (gM d []).length (gM d []).length 1,.int .i64 F,.map (some 5),.map (some 6),.int .i64 (IntKind.i64.wrap (R+1)),.bool false,.bool eB.on,.int .i64 (wL D)]),(5,.dy none (iK (.str (dL d [])) (tf d [] R) [])),(6,.dy none []),(7,.ia 5 false (gM d []))]) 8:=by
  have hO:∀n:Nat,Int.ofNat n=(n:Int):=fun _=>rfl;refine c7 Tryz.func15 (code:=uO) U U ?_;obtain⟨be,hr⟩:=aqZ d F R D;simp only[zQ]at hr;refine ij (XE E6) mo _ U hr (dG ?_);refine⟨?_,_,_,_,rfl,rfl,rfl,rfl⟩;have hj:=gZ d [] (by simp);have uY:=AX d (O:=[]) (by simp);have hr0:=(Jp d []).1;simp only[bP]at hj uY;refine G (gl dr) (G (by first|rfl|trivial) (G (by first|rfl|trivial) (G L (G (fun _ M=>absurd M aN) (G (by first|rfl|trivial) (G (by first|rfl|trivial) (G (by first|rfl|trivial) (G (by first|rfl|trivial) (G L (G (?_) (G (nc rfl) (G (by first|rfl|trivial) (G (by first|rfl|trivial) (G L (G L (G L (G (?_) (G (by first|rfl|trivial) (G (by first|rfl|trivial) (G (by first|rfl|trivial) (G ho (G (hr0) (eS (jD (by show(gM d []).length<=_;omega)))))))))))))))))))))))))
  . show(eJ [d]).length<=_;omega
  . show V.bool (decide (IntKind.i64.wrap ((0:Int)+Int.ofNat (gM d []).length)>1048576))=_;rw[eV dr dr];exact gl dr
 generalize gM d []=u at key ⊢;generalize iK (.str (dL d [])) (tf d [] R) []=C at key ⊢;generalize dL d []=a at key ⊢;exact key.Af 4 U
theorem aiP{d x:B}(hd:d.length<=65536)(M:x.length=32):qf 15 [.str d,p9 [x]] (sZ F R D) (.ew [.str [],.int .i64 63]) (sZ F R D):=by
 refine ade ?_;have hO:∀n:Nat,Int.ofNat n=(n:Int):=fun _=>rfl;refine c7 Tryz.func15 (code:=uO) U U ?_;refine eZ (XQ []) (aq2 d x F R D) (dG ?_);refine⟨?_,_,_,_,rfl,rfl,rfl,rfl⟩;exact G (gl dr) (G rfl (G rfl (G L (G (fun y hy=>by rw[au.1 hy];exact M) (G ⟨dP,dP⟩ (eS rfl))))))
theorem X3(hn:Qu nm):qf 16 [.str nm,.str []] (sZ F R D) (.int .i64 0) (sZ F R D):=by
 refine Un ?_;refine c7 Tryz.func16 (code:=rN) U U ?_;refine eZ (XU []) (aq3 nm F R D) (dG ?_);exact⟨G (sE hn.1) (eS (B0 hn.2)),_,_,_,rfl,rfl,rfl,rfl⟩
theorem Ya{d:B}(hn:Qu nm)(hd:d≠[]):qf 16 [.str nm,.str d] (sZ F R D) (.int .i64 62) (sZ F R D):=by
 refine Un ?_;refine c7 Tryz.func16 (code:=rN) U U ?_;refine eZ (XU []) (aq4 nm d F R D) (dG ?_);exact⟨G (sE hn.1) (G (B0 hn.2) (eS (AZ hd))),_,_,_,rfl,rfl,rfl,rfl⟩
theorem Yb(ho:BZ D):qf 66 [] (sC n A b F R D C N) (.int .i64 0) (sC n A b (Int.ofNat n) R (wL D) C N):=(acX n A b F R D C N ho).Af 4 U
theorem Yc(ho:BZ D):qf 66 [] (sZ F R D) (.int .i64 0) (sZ 0 R (wL D)):=(Xx F R D [] [] ho).Af 4 U
end
end
end Go.Proofs.YtfihojpgobmmdaaGreatDoor
