/- The Chunk laws: the model in memory, whatever its store; now, pick. No conditions. -/
import Derived.Test.YtfihojpgobmmdaaGreatDoorJointW19
import Derived.Test.YtfihojpgobmmdaaGreatDoorJointW20
import Derived.Test.YtfihojpgobmmdaaGreatDoorJointW18
import Derived.Test.YtfihojpgobmmdaaGreatDoorJointW17
import Derived.Test.YtfihojpgobmmdaaGreatDoorJointW15
set_option linter.unusedVariables false
set_option linter.unusedSimpArgs false
set_option linter.unusedSectionVars false
set_option maxRecDepth 20000
namespace Go.Proofs.YtfihojpgobmmdaaGreatDoor
open Go Go.Eng
section
variable(g b:Nat){f:FuncId}(p:iw){args:ag}(l:List RS){nL:ag}(s:RS){ns:List (Option Nat)}(m i:Nat)
def pz:iw:=⟨none,p.fl,p.nx,p.off,p.arm,p.lf,p.es,p.rs⟩
def pc(n k:Nat)(b:aa):iw:=⟨some (n,k,b),p.fl,p.nx,p.off,p.arm,p.lf,p.es,p.rs⟩
def sh:Nat:=match p.lo with|none=>0|some _=>1
def lgB(g:Nat)(p:iw):af:=match p.lo with|none=>[]|some (_,_,b)=>[(g,.iU 5 false b)]
def agy(c r a:Nat)(p:iw)(m:Nat)(R:ai):af:=
 [(0,.ints .u32 gS),(1,.ints .u32 gR),(3,.cells [.ptr (some (4,0)),.dj (some (a,0)) m m 2]),(4,.cells (xK g c r p))]++lgB g p++[(c,.dF none p.es),(r,.dF none p.rs),(a,.deep R)]
abbrev moG(c r a:Nat)(p:iw)(l:List RS):af:=agy g c r a p l.length (gq l)
abbrev M0:af:=moG b (b+sh p) (b+1+sh p) 8 p l
abbrev moA:af:=moG b (b+sh p) (b+1+sh p) (b+2+sh p) p l
abbrev moD(R:ai):af:=agy b (b+sh p) (b+1+sh p) (b+2+sh p) p m R
abbrev gy:af:=moG 5 6 7 8 p l
abbrev wA:af:=moA 9 p l
abbrev nR:Nat:=12+sh p
theorem vC{l l1:af}{mz h2:Tr O}{n n2 IB:Nat}{v v1:V}(hc:cU ak f nL (hL l1) ns.length v1 mz IB)
  (e:((l1.all fun q=>Nat.blt q.1 fL),(jR.all fun p=>decide (ns.getD p.2 none=some p.2)),nu ns,(ns.all fun x=>match x with|none=>true|some m=>(jR.any fun p=>decide (p.2=m))||((hL l).get m).isSome),R2 ns l l1,V.DZ (mu ns) args,Eh ns (hL l1) (v1,mz,IB) (hL l) n)=(true,true,true,true,l1.map (fun q=>some q.2),some nL,some (v,h2,n2))):
  cU ak f args (hL l) n v h2 n2:=by
 simp only[aB]at e;obtain⟨e1,e2,e3,e4,e5,e6,e7⟩:=e;exact fV (jF e1 e2 e3 e4 e5) e6 e7 hc
theorem x4{l l1:af}{mz h2:Tr O}{n n2 IB:Nat}{v v1:V}(hc:cU ak f nL (hL l1) ns.length v1 mz IB)(lo:Nat)
  (e:((l1.all fun q=>Nat.blt q.1 fL),(jR.all fun p=>decide (ns.getD p.2 none=some p.2)),nu ns,(ns.all fun x=>match x with|none=>true|some m=>(jR.any fun p=>decide (p.2=m))||((hL l).get m).isSome),R2 ns l l1,V.DZ (mu ns) args,(Eh ns (hL l1) (v1,mz,IB) (hL l) n).bind fun x=>Jd n lo [0] (Jf x.1 x.2.1 x.2.2))=(true,true,true,true,l1.map (fun q=>some q.2),some nL,some (Jf v h2 n2))):
  cU ak f args (hL l) n v h2 n2:=by
 simp only[aB]at e;obtain⟨e1,e2,e3,e4,e5,e6,e7⟩:=e;cases e0:Eh ns (hL l1) (v1,mz,IB) (hL l) n with
 |none=>rw[e0]at e7;cases e7
 |some x=>
  obtain⟨v3,h3,n3⟩:=x;rw[e0]at e7;exact(fV (jF e1 e2 e3 e4 e5) e6 e0 hc).Ew lo e7
def lgN:Option Nat:=match p.lo with|none=>none|some _=>some g
def abu(c r a:Nat)(p:iw):List (Option Nat):=[some 0,some 1,some 2,some 3,some 4,lgN g p,some c,some r,some a]
abbrev TR:List (Option Nat):=abu 5 6 7 8 p
abbrev nsA:List (Option Nat):=abu b (b+sh p) (b+1+sh p) (b+2+sh p) p
def TS:List (Option Nat):=[some 0,some 1,some 2,some 4,lgN 5 p,some 6,some 7]
theorem aoE(s:RS):c6 gu [(12,.dc (iW i)),(14,.dc s.v)] 9 Tryz.f29 [] (dP Tryz.f29) (cS [P3] (hL (gy p l)) 9) [([],
   [(V.int aj (IntKind.i64.wrap ((Int.ofNat l.length)-(1:Int)))=iW i),((0:Int)<=Int.ofNat i/\Int.ofNat i<(Int.ofNat l.length)),(0+i*2+2<=(gq l).length),(V.agg (D.lT (dx (gq l) (0+i*2) 2))=s.v)],
   .ret (.agg [.dO false (s.cs.length) (fq s.cs),.dO false (s.ro.length) (fh s.ro)]) (hL (gy p l)) 9)]
 :=by rcases p with⟨_|⟨_,_,_⟩,_⟩<;>exact cQ.of U U U
theorem m29(hl:l.length<=1000000):cU ak 29 [P3] (hL (gy p (l++[s]))) 9 s.v (hL (gy p (l++[s]))) 9:=by
 refine c7 Tryz.func29 (code:=dP Tryz.f29) U U ?_;refine fB k9 (aoE p (l++[s]) l.length s) (dG ?_);exact⟨fm ((SF l s hl).1) (fm ((SF l s hl).2) (fm ((DB l s).1) (eU ((DB l s).2)))),_,_,_,rfl,rfl,rfl,rfl⟩
theorem pk_(mi:aa)(l:List RS)(s:RS)(z:Int)(i:Nat)(c:gH):c6 (fD (fD gu 29 [P3] (hL (gy p l)) 9 (s.v,hL (gy p l),9)) 69 [.str SE,eI] (hL (gy p l++[(9,bx s)])) 10 (.str mi,hL (gy p l++[(9,bx s)]),10)) [(14,.dc (iW (s.cs.length+1))),(15,.dc (iW i)),(20,.split),(25,.dc (.dm c.d))] 9 Tryz.f89 [] (dP Tryz.f89) (cS [P3,.int .u8 z] (hL (gy p l)) 9) [([((Int.ofNat i==(Int.ofNat s.cs.length)),true)],
   [fo [P3] (hL (gy p l)) 9,(V.int aj (IntKind.i64.wrap ((Int.ofNat s.cs.length)+(1:Int)))=iW (s.cs.length+1)),(Int.ofNat (s.cs.length+1)≠(0:Int)),(V.int aj ((IntKind.i64.wrap z).tmod (Int.ofNat (s.cs.length+1)))=iW i),fo [.str SE,eI] (hL (gy p l++[(9,bx s)])) 10],
   .ret (.str mi) (hL (gy p l)) 9),
  ([((Int.ofNat i==(Int.ofNat s.cs.length)),false)],
   [fo [P3] (hL (gy p l)) 9,(V.int aj (IntKind.i64.wrap ((Int.ofNat s.cs.length)+(1:Int)))=iW (s.cs.length+1)),(Int.ofNat (s.cs.length+1)≠(0:Int)),(V.int aj ((IntKind.i64.wrap z).tmod (Int.ofNat (s.cs.length+1)))=iW i),((0:Int)<=Int.ofNat i/\Int.ofNat i<(Int.ofNat s.cs.length)),((fq s.cs).length=s.cs.length*3),(V.dm (dx (fq s.cs) (i*3) 3)=V.dm c.d)],
   .ret (.str (c.dg)) (hL (gy p l)) 9)]
 :=by rcases p with⟨_|⟨_,_,_⟩,_⟩<;>exact cQ.of U U U
end
theorem m89(p:iw)(l:List RS)(s:RS)(z:Nat)(hz:z<=255)(hs:s.cs.length<=1000000)(hl:l.length<=1000000):cU ak 89 [P3,.int .u8 (z:Int)] (hL (gy p (l++[s]))) 9 (.str (kL s z)) (hL (gy p (l++[s]))) 9:=by
 refine c7 Tryz.func89 (code:=dP Tryz.f89) U U ?_;have h29:=m29 p l s hl;obtain⟨p1,p2,p3⟩:=V7 s hz hs;generalize l++[s]=fC at h29 ⊢;have hX:=V6 (hL (gy p fC++[(9,bx s)])) 10;by_cases hm:z%(s.cs.length+1)<s.cs.length
 . have kj:=aM V.dm (vB s.cs _ hm);have RW:kL s z=(s.cs[z%(s.cs.length+1)]).dg:=by unfold kL;rw[dif_pos hm]
   rw[RW];generalize s.cs[z%(s.cs.length+1)]=c at kj ⊢;refine fB ((k9.jy Dz h29).jy Yw hX) (pk_ p OQ fC s z (z%(s.cs.length+1)) c) fun g hg hc=>?_;rcases jk hg with rfl|rfl
   . have h:=hc _ (aq.2 rfl);dsimp only at h;have:=Int.ofNat.inj (beq_iff_eq.1 h);omega
   . exact⟨fm (⟨rfl,rfl,rfl⟩) (fm (p1) (fm (p2) (fm (p3) (fm (⟨az _,dh⟩) (fm (kC _) (eU (kj))))))),_,_,_,rfl,rfl,rfl,rfl⟩
 . have RW:kL s z=OQ:=by unfold kL;rw[dif_neg hm]
   rw[RW];have hme:z%(s.cs.length+1)=s.cs.length:=by have:=Nat.mod_lt z (show 0<s.cs.length+1 by omega);omega
   refine fB ((k9.jy Dz h29).jy Yw hX) (pk_ p OQ fC s z (z%(s.cs.length+1)) ⟨[],[],[]⟩) fun g hg hc=>?_;rcases jk hg with rfl|rfl
   . exact⟨fm (⟨rfl,rfl,rfl⟩) (fm (p1) (fm (p2) (fm (p3) (eU (⟨rfl,rfl,rfl⟩))))),_,_,_,rfl,rfl,rfl,rfl⟩
   . have h:=hc _ (aq.2 rfl);dsimp only at h;rw[hme]at h;rw[cz]at h;cases h
section
variable(a b0 c:Int)(d:aa)
def e60:aa:=List.drop 0 (List.take (if(60:Int)<(Int.ofNat d.length)then(60:Int)else(Int.ofNat d.length)).toNat d)
def Fy(r:RR):O:=.cells [.dO false r.s.cs.length (fq r.s.cs),.dO false r.s.ro.length (fh r.s.ro),.str r.dg,.int .i64 r.er,.bool r.ch]
end
section
variable(p:iw)(l:List RS)(x y z:Int)
def sXo(d:aa)(cs:ag)(k:Nat):St:=eF [(0,P3),(3,.ptr (some (9,0))),(5,.dj (some (10,0)) k k 1)] (hL (gy p l++[(9,l5 x y z d),(10,.cells cs)])) 11
def sXc(d:aa)(k:Nat)(cs:ai):St:=eF [(0,P3),(3,.ptr (some (9,0))),(5,.dj (some (10,0)) k k 1)] (hL (gy p l++[(9,l5 x y z d),(10,.deep cs)])) 11
def sXu(r:RR)(v:List (Nat×V)):St:=eF ([(6,.ptr (some (11+sh p,0)))]++v) (hL (M0 9 p l++[(11+sh p,Fy r)])) (12+sh p)
def sXv(m:Nat)(R:ai)(r:RR)(v:List (Nat×V)):St:=eF ([(6,.ptr (some (12+sh p,0)))]++v) (hL (moD 9 p m R++[(12+sh p,Fy r)])) (13+sh p)
theorem xp1(d:aa):c6 gu [] 9 Tryz.f64 [0,3,5] (eR 2 tN) (cS [P3,rI x y z d] (hL (gy p l)) 9) [([],
   [],
   .to .normal (sXo p l x y z d [] 0))]
 :=by rcases p with⟨_|⟨_,_,_⟩,_⟩<;>exact cQ.of U U U
theorem xp2(s:RS)(x y z:Int)(d w:aa):c6 (fD (fD gu 29 [P3] (hL (gy p l++[(9,l5 x y z d),(10,.cells [])])) 11 (s.v,hL (gy p l++[(9,l5 x y z d),(10,.cells [])]),11)) 89 [P3,.int .u8 z] (hL (gy p l++[(9,l5 x y z d),(10,.cells [])])) 11 (.str w,hL (gy p l++[(9,l5 x y z d),(10,.cells [])]),11)) [(13,.split),(19,.split)] 9 Tryz.f64 [0,3,5] (dK (de 2 tN)) (sXo p l x y z d [] 0) [([((decide (y.tmod (3:Int)>(0:Int))),true),((decide ((Int.ofNat s.cs.length)>(0:Int))),true)],
   [fo [P3] (hL (gy p l++[(9,l5 x y z d),(10,.cells [])])) 11,fo [P3,.int .u8 z] (hL (gy p l++[(9,l5 x y z d),(10,.cells [])])) 11],
   .to .normal (sXo p l x y z d [.str w] 1)),
  ([((decide (y.tmod (3:Int)>(0:Int))),true),((decide ((Int.ofNat s.cs.length)>(0:Int))),false)],
   [fo [P3] (hL (gy p l++[(9,l5 x y z d),(10,.cells [])])) 11],
   .to .normal (sXo p l x y z d [] 0)),
  ([((decide (y.tmod (3:Int)>(0:Int))),false)],
   [],
   .to .normal (sXo p l x y z d [] 0))]
 :=by rcases p with⟨_|⟨_,_,_⟩,_⟩<;>exact cQ.of U U U
end
section
variable(p:iw)(l:List RS)(x y z:Int)(d:aa)(ps:List (aa))
def OR:af:=gy p l++[(9,l5 x y z d),(10,.deep (strs ps))]
abbrev sXp:St:=sXc p l x y z d ps.length (strs ps)
def sXq:St:=eF [(0,P3),(3,.ptr (some (9,0))),(5,pH ps)] (hL (gy p l++[(9,l5 x y z d)])) 10
def sXr(r:RR):St:=eF [(0,P3),(3,.ptr (some (9,0))),(5,pH ps),(6,.ptr (some (10,0)))] (hL (gy p l++[(9,l5 x y z d),(10,Fy r)])) 11
def sXs(r:RR):St:=eF [(0,P3),(3,.ptr (some (11+sh p,0))),(6,.ptr (some (12+sh p,0))),(7,.str r.dg),(8,.int .i64 r.er)] (hL (M0 9 p l++[(11+sh p,l5 x y z d),(12+sh p,Fy r)])) (13+sh p)
end
section
variable(p:iw)(l:List RS)(x y z:Int)
theorem xp3(d:aa)(ps:List (aa))(w:aa):c6 (fD gu 89 [P3,.int .u8 y] (hL (OR p l x y z d ps)) 11 (.str w,hL (OR p l x y z d ps),11)) [(31,.split)] 9 Tryz.f64 [0,3,5] (dK (de 3 tN)) (sXp p l x y z d ps) [([((decide (y.tmod (3:Int)>(1:Int))),true)],
   [fo [P3,.int .u8 y] (hL (OR p l x y z d ps)) 11,(0+ps.length*1<=(strs ps).length),(0<1),(eT (ps.length+1) 1 16=true)],
   .to .normal (sXc p l x y z d (ps.length+1) (List.take (ps.length*1) (List.drop 0 (strs ps))++[D.str w]))),
  ([((decide (y.tmod (3:Int)>(1:Int))),false)],
   [],
   .to .normal (sXp p l x y z d ps))]
 :=by rcases p with⟨_|⟨_,_,_⟩,_⟩<;>exact cQ.of U U U
theorem xp4(s:RS)(x y z:Int)(d:aa)(ps:List (aa))(r:RR):c6 (fD (fD gu 29 [P3] (hL (gy p l++[(9,l5 x y z d)])) 23 (s.v,hL (gy p l++[(9,l5 x y z d)]),23)) 37 [s.v,.str (e60 d),pH ps] (hL (gy p l++[(9,l5 x y z d)])) 23 (r.v,hL (gy p l++[(9,l5 x y z d)]),23)) [] 9 Tryz.f64 [0,3,5,6] (dK (de 4 tN)) (sXq p l x y z d ps) [([],
   [fo [P3] (hL (gy p l++[(9,l5 x y z d)])) 23,(((0:Int)<=if(60:Int)<(Int.ofNat d.length)then(60:Int)else(Int.ofNat d.length))/\(if(60:Int)<(Int.ofNat d.length)then(60:Int)else(Int.ofNat d.length))<=(Int.ofNat d.length)),(((0:Int)<=if(60:Int)<(Int.ofNat d.length)then(60:Int)else(Int.ofNat d.length))/\(if(60:Int)<(Int.ofNat d.length)then(60:Int)else(Int.ofNat d.length))<=(Int.ofNat d.length)),(([.agg [.dO false (s.cs.length) (fq s.cs),.dO false (s.ro.length) (fh s.ro)],.str (List.drop 0 (List.take (if(60:Int)<(Int.ofNat d.length)then(60:Int)else(Int.ofNat d.length)).toNat d)),.dO false (ps.length) (strs ps)]:ag)=[s.v,.str (e60 d),pH ps]/\(hL (gy p l++[(9,l5 x y z d)]))=(hL (gy p l++[(9,l5 x y z d)]))/\23=23)],
   .to .normal (sXr p l x y z d ps r))]
 :=by rcases p with⟨_|⟨_,_,_⟩,_⟩<;>exact cQ.of U U U
theorem xp5(q:iw)(l:List RS)(x y z:Int)(d:aa)(ps:List (aa))(r:RR):c6 (fD gu 15 [.ptr (some (4,0)),.str (e60 d),pH ps] (hL (gy p l++[(9,l5 x y z d),(10,Fy r)])) 29 (.ew [.str r.dg,.int .i64 r.er],hL (M0 29 q l++[(9,l5 x y z d),(10,Fy r)]),(31+sh q))) [] 9 Tryz.f64 [0,3,6,7,8] (dK (de 5 tN)) (sXr p l x y z d ps r) [([],
   [(((0:Int)<=if(60:Int)<(Int.ofNat d.length)then(60:Int)else(Int.ofNat d.length))/\(if(60:Int)<(Int.ofNat d.length)then(60:Int)else(Int.ofNat d.length))<=(Int.ofNat d.length)),(([.ptr (some (4,0)),.str (List.drop 0 (List.take (if(60:Int)<(Int.ofNat d.length)then(60:Int)else(Int.ofNat d.length)).toNat d)),.dO false (ps.length) (strs ps)]:ag)=[.ptr (some (4,0)),.str (e60 d),pH ps]/\(hL (gy p l++[(9,l5 x y z d),(10,Fy r)]))=(hL (gy p l++[(9,l5 x y z d),(10,Fy r)]))/\29=29)],
   .to .normal (sXs q l x y z d r))]
 :=by rcases p with⟨_|⟨_,_,_⟩,_⟩<;>rcases q with⟨_|⟨_,_,_⟩,_⟩<;>exact cQ.of U U U
theorem xp6(d:aa)(r:RR):c6 gu [(67,.split)] 9 Tryz.f64 [6,7,8] (dK (de 6 tN)) (sXs p l x y z d r) [([((r.ch),true)],
   [(0+l.length*2<=(gq l).length),(0<1),(eT (l.length+1) 2 48=true)],
   .to .normal (sXv p (l.length+1) (List.take (l.length*2) (List.drop 0 (gq l))++[D.dO r.s.cs.length (fq r.s.cs),D.dO r.s.ro.length (fh r.s.ro)]) r [(7,.str r.dg),(8,.int .i64 r.er)])),
  ([((r.ch),false)],
   [],
   .to .normal (sXu p l r [(7,.str r.dg),(8,.int .i64 r.er)]))]
 :=by rcases p with⟨_|⟨_,_,_⟩,_⟩<;>exact cQ.of U U U
end
noncomputable abbrev zz:Code:=dP Tryz.f65
section
variable(p:iw)(l:List RS)(x y z:Int)(d w:aa)
def sYq:St:=eF [(0,P3),(3,.ptr (some (9,0))),(5,.str w)] (hL (gy p l++[(9,l5 x y z d)])) 10
def sYr(r:RR):St:=eF [(0,P3),(3,.ptr (some (9,0))),(5,.str w),(6,.ptr (some (10,0)))] (hL (gy p l++[(9,l5 x y z d),(10,Fy r)])) 11
end
section
variable(p:iw)(l:List RS)(x y z:Int)(r:RR)
def sYs:St:=eF [(0,P3),(6,.ptr (some (11+sh p,0))),(7,.int .i64 r.er)] (hL (M0 9 p l++[(11+sh p,Fy r)])) (12+sh p)
theorem yp1(d w:aa):c6 (fD gu 89 [P3,.int .u8 z] (hL (gy p l++[(9,l5 x y z d)])) 10 (.str w,hL (gy p l++[(9,l5 x y z d)]),10)) [] 9 Tryz.f65 [0,3,5] (eR 2 zz) (cS [P3,rI x y z d] (hL (gy p l)) 9) [([],
   [fo [P3,.int .u8 z] (hL (gy p l++[(9,l5 x y z d)])) 10],
   .to .normal (sYq p l x y z d w))]
 :=by rcases p with⟨_|⟨_,_,_⟩,_⟩<;>exact cQ.of U U U
theorem yp2(d w:aa):c6 gu [(15,.split)] 9 Tryz.f65 [0,3,5] (dK (de 2 zz)) (sYq p l x y z d w) [([((y.tmod (4:Int)==(0:Int)),true)],
   [],
   .to .normal (sYq p l x y z d [])),
  ([((y.tmod (4:Int)==(0:Int)),false)],
   [],
   .to .normal (sYq p l x y z d w))]
 :=by rcases p with⟨_|⟨_,_,_⟩,_⟩<;>exact cQ.of U U U
theorem yp3(s:RS)(x y z:Int)(d w e:aa)(r:RR):c6 (fD (fD (fD gu 29 [P3] (hL (gy p l++[(9,l5 x y z d)])) 19 (s.v,hL (gy p l++[(9,l5 x y z d)]),19)) 91 [.int .u8 y] (hL (gy p l++[(9,l5 x y z d)])) 19 (.str e,hL (gy p l++[(9,l5 x y z d)]),19)) 90 [s.v,.str e,.str w] (hL (gy p l++[(9,l5 x y z d)])) 19 (r.v,hL (gy p l++[(9,l5 x y z d)]),19)) [] 9 Tryz.f65 [0,3,5,6] (dK (de 3 zz)) (sYq p l x y z d w) [([],
   [fo [P3] (hL (gy p l++[(9,l5 x y z d)])) 19,fo [.int .u8 y] (hL (gy p l++[(9,l5 x y z d)])) 19,fo [s.v,.str e,.str w] (hL (gy p l++[(9,l5 x y z d)])) 19],
   .to .normal (sYr p l x y z d w r))]
 :=by rcases p with⟨_|⟨_,_,_⟩,_⟩<;>exact cQ.of U U U
theorem yp4(q:iw)(l:List RS)(x y z:Int)(d w e:aa)(r:RR):c6 (fD (fD gu 91 [.int .u8 y] (hL (gy p l++[(9,l5 x y z d),(10,Fy r)])) 21 (.str e,hL (gy p l++[(9,l5 x y z d),(10,Fy r)]),21)) 16 [.ptr (some (4,0)),.str e,.str w] (hL (gy p l++[(9,l5 x y z d),(10,Fy r)])) 21 (.int .i64 r.er,hL (M0 21 q l++[(9,l5 x y z d),(10,Fy r)]),(23+sh q))) [] 9 Tryz.f65 [0,6,7] (dK (de 4 zz)) (sYr p l x y z d w r) [([],
   [fo [.int .u8 y] (hL (gy p l++[(9,l5 x y z d),(10,Fy r)])) 21,fo [.ptr (some (4,0)),.str e,.str w] (hL (gy p l++[(9,l5 x y z d),(10,Fy r)])) 21],
   .to .normal (sYs q l r))]
 :=by rcases p with⟨_|⟨_,_,_⟩,_⟩<;>rcases q with⟨_|⟨_,_,_⟩,_⟩<;>exact cQ.of U U U
theorem yp5:c6 gu [(33,.split)] 9 Tryz.f65 [6,7] (dK (de 5 zz)) (sYs p l r) [([((r.ch),true)],
   [(0+l.length*2<=(gq l).length),(0<1),(eT (l.length+1) 2 48=true)],
   .to .normal (sXv p (l.length+1) (List.take (l.length*2) (List.drop 0 (gq l))++[D.dO r.s.cs.length (fq r.s.cs),D.dO r.s.ro.length (fh r.s.ro)]) r [(7,.int .i64 r.er)])),
  ([((r.ch),false)],
   [],
   .to .normal (sXu p l r [(7,.int .i64 r.er)]))]
 :=by rcases p with⟨_|⟨_,_,_⟩,_⟩<;>exact cQ.of U U U
end
def Ex(g c r:Nat)(p:iw):af:=[(0,.ints .u32 gS),(1,.ints .u32 gR),(3,.cells (xK g c r p))]++(match p.lo with|none=>[]|some (_,_,b)=>[(g,.iU 5 false b)])++[(c,.dF none p.es),(r,.dF none p.rs)]
def stR(p:iw):af:=match p.lo with
 |none=>Ex 0 7 8 p
 |some _=>Ex 7 8 9 p
def nS(p:iw):Nat:=match p.lo with|none=>9|some _=>10
def zA(f:FuncId)(rest:ag)(p:iw)(v:V)(q:iw):Prop:=cU ak f (P3::rest) (eu p) 7 v (hL (stR q)) (nS q)
theorem DC:15<Tryz.prog.funcs.size:=au U
theorem agC:37<Tryz.prog.funcs.size:=au U
theorem SL:89<Tryz.prog.funcs.size:=au U
theorem Wa(s:RS)(d:aa)(ps:List (aa))(h:Tr O)(n:Nat)(h1:s.cs.length<=100000)(h2:s.ro.length<=1000000)(h3:d.length<=65536)(h4:ps.length<=1024)(h5:∀x∈ps,x.length=32):
  cU ak 37 [s.v,.str d,pH ps] h n (jv s d ps).v h n:=by
 have key:cU ak 37 [s.v,.str d,pH ps] h n (jv ⟨gp (fq s.cs),oS (fh s.ro)⟩ d (dH (strs ps))).v h n:=by
  intro E w c9 ra g hd;refine Sm.2 _ h n (okS s++[s.cs.length<=100000,strs ps=strs (dH (strs ps)),ps.length=(dH (strs ps)).length,d.length<=65536,ps.length<=1024,∀x∈dH (strs ps),x.length=32]) _ _ _ rfl ?_ E w c9 ra g hd U;refine js (Aw be h2) ?_;rw[ik];exact fm h1 (fm rfl (fm rfl (fm h3 (fm h4 (eU h5)))))
 rw[jr,pC,ik]at key;exact key
theorem SM(d:aa):((0:Int)<=if(60:Int)<(Int.ofNat d.length)then(60:Int)else(Int.ofNat d.length))/\(if(60:Int)<(Int.ofNat d.length)then(60:Int)else(Int.ofNat d.length))<=(Int.ofNat d.length):=by
 have hO:∀n:Nat,Int.ofNat n=(n:Int):=fun _=>rfl;rw[hO];split<;>constructor<;>omega
theorem SN(d:aa):e60 d=d.take 60:=by
 unfold e60;rw[bw];split
 . rfl
 . rename_i h;have:d.length<=60:=by have h:¬((60:Int)<(d.length:Int)):=h;omega
   rw[br this,br (by simp)]
theorem Wb{ps:List (aa)}(w:aa):List.take (ps.length*1) (List.drop 0 (strs ps))++[D.str w]=strs (ps++[w]):=by
 rw[bw,bk,br (by rw[eJ];exact aA _),Dp];rfl
theorem M1{l:List RS}(r:RS):List.take (l.length*2) (List.drop 0 (gq l))++[D.dO r.cs.length (fq r.cs),D.dO r.ro.length (fh r.ro)]=gq (l++[r]):=by
 rw[bw,br (by rw[sE];exact aA _)];unfold gq;rw[aX,cn];rfl
theorem Jg{k:Nat}(h:k<=1000000):eT k 2 48=true:=by
 unfold eT;exact bM ⟨be,be⟩
def kD(s:RS)(y z:Nat):List (aa):=(if 0<y%3/\0<s.cs.length then[kL s z]else[])++(if 1<y%3 then[kL s y]else[])
theorem Ay{s:RS}(h:∀c∈s.cs,c.dg.length=32)(z:Nat):(kL s z).length=32:=by
 unfold kL;split
 . exact h _ (bY _)
 . exact SG
theorem Fz{s:RS}(h:∀c∈s.cs,c.dg.length=32)(y z:Nat):(kD s y z).length<=2/\∀x∈kD s y z,x.length=32:=by
 unfold kD;refine⟨?_,fun x hx=>?_⟩
 . rw[ax];split<;>split<;>simp
 . rcases aT.1 hx with q|q
   . split at q
     . rw[aq.1 q];exact Ay h z
     . cases q
   . split at q
     . rw[aq.1 q];exact Ay h y
     . cases q
theorem G8(y k:Nat):decide ((y:Int).tmod (3:Int)>(k:Int))=decide (k<y%3):=by
 rw[cB be];exact decide_eq_decide.2 be
def tO(l:List RS)(r:RR):List RS:=if r.ch=true then l++[r.s]else l
section
variable(p:iw)(l:List RS)(s:RS)(x y z:Nat)(d:aa)
theorem agD(hy:y<=255)(hz:z<=255)(hs:s.cs.length<=100000)(hl:l.length<=1000){Q:Exit->St->Prop}
  (h:TG ak 9 Tryz.f64.ntmps (de 4 tN) (sXq p (l++[s]) x y z d (kD s y z)) Q):TG ak 9 Tryz.f64.ntmps tN (cS [P3,rI x y z d] (hL (gy p (l++[s]))) 9) Q:=by
 have h29:=m29 p l s be;have h89:=fun a (ha:a<=255)=>m89 p l s a ha be be;generalize l++[s]=fC at h29 h89 h ⊢;refine iL  2 k9 (xp1 p fC x y z d) cR ?_;show TG _ _ _ (de 2 tN) _ _;refine cV U ?_;have k29:cU ak 29 [P3] (hL (gy p fC++[(9,l5 x y z d),(10,.cells [])])) 11 s.v (hL (gy p fC++[(9,l5 x y z d),(10,.cells [])])) 11:=
  vC (ns:=TR p) h29 (by rcases p with⟨_|⟨_,_,_⟩,_⟩<;>kernel_rfl)
 have k89:cU ak 89 [P3,.int .u8 (z:Int)] (hL (gy p fC++[(9,l5 x y z d),(10,.cells [])])) 11 (.str (kL s z)) (hL (gy p fC++[(9,l5 x y z d),(10,.cells [])])) 11:=by
  have:=h89 z hz;generalize kL s z=w at this ⊢;exact vC (ns:=TR p) this (by rcases p with⟨_|⟨_,_,_⟩,_⟩<;>kernel_rfl)
 have go3:∀ps,ps.length<=1->ps=(if 0<y%3/\0<s.cs.length then[kL s z]else[])->TG ak 9 Tryz.f64.ntmps (ee (de 2 tN)) (sXp p fC x y z d ps) Q:=by
  intro ps Ho hpe;have rE:∀us,us=kD s y z->TG ak 9 Tryz.f64.ntmps (de 4 tN) (sXp p fC x y z d us) Q:=by
   intro us hus;subst hus;generalize kD s y z=us at h ⊢;refine xH [10] (A:=[(strs us).length=us.length*1]) (s2:=eF [(0,P3),(3,.ptr (some (9,0))),(5,pH us)] ((hL (OR p fC x y z d us)).set 10 none) 11) (by rcases p with⟨_|⟨_,_,_⟩,_⟩<;>kernel_rfl) (eU (by rw[eJ,bk])) ?_;exact c5 (live:=[0,3,5]) (by rcases p with⟨_|⟨_,_,_⟩,_⟩<;>kernel_rfl) h
  have aoK:cU ak 89 [P3,.int .u8 (y:Int)] (hL (OR p fC x y z d ps)) 11 (.str (kL s y)) (hL (OR p fC x y z d ps)) 11:=by
   have:=h89 y hy;generalize kL s y=w at this ⊢;exact vC (ns:=TR p) this (by rcases p with⟨_|⟨_,_,_⟩,_⟩<;>kernel_rfl)
  show TG _ _ _ (de 3 tN) _ _;refine cV U ?_;obtain⟨L3,wv⟩:=xp3 p fC x y z d ps (kL s y);rw[Wb]at wv;refine gh (k9.jy SL aoK) mo kS U wv fun g hg hc=>?_;rcases jk hg with rfl|rfl
  . have c1:=hc _ (aq.2 rfl);have c1:decide (1<y%3)=true:=(G8 y 1).symm.trans c1;refine⟨fm ⟨rfl,rfl,rfl⟩ (fm (by rw[eJ];omega) (fm dU (eU (pV be)))),fun s' dL=>c5 dL ?_⟩;have:=rE (ps++[kL s y]) (by rw[hpe];unfold kD;rw[aG (aH c1)]);unfold sXp at this;rw[ax]at this;exact this
  . have c1:=hc _ (aq.2 rfl);have c1:decide (1<y%3)=false:=(G8 y 1).symm.trans c1;refine⟨cR,fun s' dL=>c5 dL ?_⟩;exact rE ps (by rw[hpe];unfold kD;rw[aI (c:=1<y%3) (aK c1),cu])
 refine fZ ((k9.jy Dz k29).jy SL k89) (xp2 p fC s x y z d (kL s z)) fun g hg hc=>?_;rcases xP hg with rfl|rfl|rfl
 . have c1:decide (0<y%3)=true:=(G8 y 0).symm.trans (hc _ (aP ..));have c2:=aH (hc _ (aJ _ (aq.2 rfl)));refine⟨fm ⟨rfl,rfl,rfl⟩ (eU ⟨rfl,rfl,rfl⟩),fun s' dL=>c5 dL ?_⟩;have:=go3 [kL s z] (aA 1) (by rw[aG ⟨aH c1,by rw[kU]at c2;omega⟩]);exact tF [10] (by rcases p with⟨_|⟨_,_,_⟩,_⟩<;>kernel_rfl) this
 . have c2:=aK (hc _ (aJ _ (aq.2 rfl)));refine⟨eU ⟨rfl,rfl,rfl⟩,fun s' dL=>c5 dL ?_⟩;have:=go3 [] (aZ 1) (by rw[aI fun q=>c2 dh]);exact tF [10] (by rcases p with⟨_|⟨_,_,_⟩,_⟩<;>kernel_rfl) this
 . have c1:decide (0<y%3)=false:=(G8 y 0).symm.trans (hc _ (aq.2 rfl));refine⟨cR,fun s' dL=>c5 dL ?_⟩;have:=go3 [] (aZ 1) (by rw[aI fun q=>aK c1 q.1]);exact tF [10] (by rcases p with⟨_|⟨_,_,_⟩,_⟩<;>kernel_rfl) this
end
section
variable(p:iw)(m:Nat)(l:List RS)(r:RR)
theorem xp7(R:ai)(r:RR):c6 gu [(82,.dc (.bool true)),(87,.dc (.bool true))] 9 Tryz.f64 [] (de 7 tN) (sXv p m R r [(7,.str r.dg),(8,.int .i64 r.er)]) [([],
   [(V.bool (eG r.dg r.dg)=V.bool true),(V.bool (r.er==r.er)=V.bool true)],
   .ret (.bool true) (hL (moD 9 p m R)) (12+sh p))]
 :=by rcases p with⟨_|⟨_,_,_⟩,_⟩<;>exact cQ.of U U U
theorem xp8:c6 gu [(82,.dc (.bool true)),(87,.dc (.bool true))] 9 Tryz.f64 [] (de 7 tN) (sXu p l r [(7,.str r.dg),(8,.int .i64 r.er)]) [([],
   [(V.bool (eG r.dg r.dg)=V.bool true),(V.bool (r.er==r.er)=V.bool true)],
   .ret (.bool true) (hL (M0 9 p l)) (11+sh p))]
 :=by rcases p with⟨_|⟨_,_,_⟩,_⟩<;>exact cQ.of U U U
theorem yp7(R:ai)(r:RR):c6 gu [(48,.dc (.bool true))] 9 Tryz.f65 [] (de 6 zz) (sXv p m R r [(7,.int .i64 r.er)]) [([],
   [(V.bool (r.er==r.er)=V.bool true)],
   .ret (.bool true) (hL (moD 9 p m R)) (12+sh p))]
 :=by rcases p with⟨_|⟨_,_,_⟩,_⟩<;>exact cQ.of U U U
theorem yp8:c6 gu [(48,.dc (.bool true))] 9 Tryz.f65 [] (de 6 zz) (sXu p l r [(7,.int .i64 r.er)]) [([],
   [(V.bool (r.er==r.er)=V.bool true)],
   .ret (.bool true) (hL (M0 9 p l)) (11+sh p))]
 :=by rcases p with⟨_|⟨_,_,_⟩,_⟩<;>exact cQ.of U U U
end
theorem agE{f:FuncId}{args:ag}{h:Tr O}{v:V}(p:iw)(l:List RS)(hd:v= .bool true)(c:cU ak f args h 9 v (hL (M0 9 p l)) (11+sh p)):cU ak f args h 9 v (hL (wA p l)) (nR p):=by
 subst hd;exact c.Ew 5 (by rcases p with⟨_|⟨_,_,_⟩,_⟩<;>kernel_rfl)
theorem agF:90<Tryz.prog.funcs.size:=au U
theorem Yx:91<Tryz.prog.funcs.size:=au U
theorem Wc(s:RS)(a x:aa)(h:Tr O)(n:Nat)(h1:s.cs.length<=100000)(h2:s.ro.length<64)(h3:a≠[])(h4:a.length<=64):cU ak 90 [s.v,.str a,.str x] h n (oT s a x).v h n:=by
 have key:cU ak 90 [s.v,.str a,.str x] h n (oT ⟨gp (fq s.cs),oS (fh s.ro)⟩ a x).v h n:=by
  intro E w c9 ra g hd;refine Sn.2 _ h n (okS s++[s.ro.length<64,a≠[],a.length<=64]) _ _ _ rfl ?_ E w c9 ra g hd U;exact js (Aw be be) (fm h2 (fm h3 (eU h4)))
 rw[jr,pC]at key;exact key
theorem Wd(y:Nat)(hy:y<=255)(h:Tr O)(n:Nat):cU ak 91 [.int .u8 (y:Int)] h n (.str (MY y)) h n:=by
 intro E w c9 ra g hd;exact SH.2 _ h n [(0:Int)<=(y:Int)/\(y:Int)<=255] _ _ _ rfl (eU ⟨az _,be⟩) E w c9 ra g hd U
theorem SO(a:aa):V.bool (eG a a)=V.bool true:=by rw[fR,cz]
theorem G9(a:Int):V.bool (a==a)=V.bool true:=by rw[cz]
theorem M2(p:iw){f:FuncId}{args:ag}{h:Tr O}(fC:List RS)(r:RR)
  (h1:r.ch=true->cU ak f args h 9 (.bool true) (hL (moD 9 p (fC.length+1) (gq (fC++[r.s])))) (12+sh p)) (h2:r.ch=false->cU ak f args h 9 (.bool true) (hL (M0 9 p fC)) (11+sh p)):cU ak f args h 9 (.bool true) (hL (wA p (tO fC r))) (nR p):=by
 cases hc:r.ch with
 |true=>
  have:=h1 hc;rw[show fC.length+1=(fC++[r.s]).length from by simp]at this;unfold tO;rw[aG hc];exact this
 |false=>unfold tO;rw[aI (by rw[hc];decide)];exact agE p fC rfl (h2 hc)
theorem m64(p:iw)(q:iw)(l:List RS)(s:RS)(x y z:Nat)(d:aa)(hy:y<=255)(hz:z<=255)(hs:s.cs.length<=100000)(hr:s.ro.length<=1000000)(h32:∀c∈s.cs,c.dg.length=32)(hl:l.length<=999)
  (hS:zA 15 [.str (d.take 60),pH (kD s y z)] p (.ew [.str (jv s (d.take 60) (kD s y z)).dg,.int .i64 (jv s (d.take 60) (kD s y z)).er]) q):
  cU ak 64 [P3,rI x y z d] (hL (gy p (l++[s]))) 9 (.bool true) (hL (wA q (tO (l++[s]) (jv s (d.take 60) (kD s y z))))) (nR q):=by
 have Ho:=Fz h32 y z;have h29:=m29 p l s be;have h37:=fun(h:Tr O) (n:Nat)=>Wa s (d.take 60) (kD s y z) h n hs hr (by rw[bg];omega) be Ho.2;have oz:(l++[s]).length<=1000:=by rw[ax];simp;omega
 have go:∀Q,TG ak 9 Tryz.f64.ntmps (de 6 tN) (sXs q (l++[s]) x y z d (jv s (d.take 60) (kD s y z))) Q->TG ak 9 Tryz.f64.ntmps tN (cS [P3,rI x y z d] (hL (gy p (l++[s]))) 9) Q:=by
  intro Q h;refine agD p l s x y z d hy hz hs be ?_;generalize l++[s]=fC at h29 h ⊢;rw[<- SN]at hS h37 h;generalize jv s (e60 d) (kD s y z)=r at hS h37 h;generalize kD s y z=ps at hS h37 ⊢;have k29:cU ak 29 [P3] (hL (gy p fC++[(9,l5 x y z d)])) 23 s.v (hL (gy p fC++[(9,l5 x y z d)])) 23:=
   vC (ns:=TR p) h29 (by rcases p with⟨_|⟨_,_,_⟩,_⟩<;>kernel_rfl)
  refine cV U ?_;refine fZ ((k9.jy Dz k29).jy agC (h37 _ _)) (xp4 p fC s x y z d ps r) (dG ?_);refine⟨fm ⟨rfl,rfl,rfl⟩ (fm (SM d) (fm (SM d) (eU ⟨rfl,rfl,rfl⟩))),fun s' dL=>c5 dL ?_⟩;show TG ak 9 Tryz.f64.ntmps (de 5 tN) (sXr p fC x y z d ps r) Q;refine cV U ?_;have hS2:cU ak 15 [.ptr (some (4,0)),.str (e60 d),pH ps] (hL (gy p fC++[(9,l5 x y z d),(10,Fy r)])) 29 (.ew [.str r.dg,.int .i64 r.er]) (hL (M0 29 q fC++[(9,l5 x y z d),(10,Fy r)])) (31+sh q):=by
   generalize e60 d=e at hS ⊢;exact x4 (ns:=TS p) hS 29 (by rcases p with⟨_|⟨_,_,_⟩,_⟩<;>rcases q with⟨_|⟨_,_,_⟩,_⟩<;>kernel_rfl)
  refine fZ (k9.jy DC hS2) (xp5 p q fC x y z d ps r) (dG ?_);exact⟨fm (SM d) (eU ⟨rfl,rfl,rfl⟩),fun s' dL=>c5 dL h⟩
 generalize jv s (d.take 60) (kD s y z)=r at go;generalize l++[s]=fC at go oz;refine M2 q fC r (fun SP=>?_) (fun SP=>?_)
 . refine c7 Tryz.func64 (code:=tN) U U (go _ ?_);refine cV U ?_;obtain⟨L6,Hr⟩:=xp6 q fC x y z d r;rw[M1]at Hr;refine gh k9 mo kS U Hr fun g hg hc=>?_;rcases jk hg with rfl|rfl
   . refine⟨fm (by rw[sE];omega) (fm dU (eU (Jg be))),fun s' dL=>c5 dL ?_⟩;refine fB k9 (xp7 q (fC.length+1) (gq (fC++[r.s])) r) (dG ?_);exact⟨fm (SO _) (eU (G9 _)),_,_,_,rfl,rfl,rfl,rfl⟩
   . have c1:r.ch=false:=hc _ (aq.2 rfl);rw[SP]at c1;cases c1
 . refine c7 Tryz.func64 (code:=tN) U U (go _ ?_);refine cV U ?_;refine fZ k9 (xp6 q fC x y z d r) fun g hg hc=>?_;rcases jk hg with rfl|rfl
   . have c1:r.ch=true:=hc _ (aq.2 rfl);rw[SP]at c1;cases c1
   . refine⟨cR,fun s' dL=>c5 dL ?_⟩;refine fB k9 (xp8 q fC r) (dG ?_);exact⟨fm (SO _) (eU (G9 _)),_,_,_,rfl,rfl,rfl,rfl⟩
noncomputable abbrev DD:Code:=dP Tryz.f28
noncomputable abbrev agG:Code:=dK (de 4 DD)
noncomputable abbrev SQ:Code:=dw (dw (ee agG))
noncomputable abbrev Jh:Code:=dw (dK (ee SQ))
noncomputable abbrev aoM:Code:=dw (dw (de 4 Jh))
noncomputable abbrev agH:Code:=dK (de 5 DD)
noncomputable abbrev abw:Code:=dw (dw (ee agH))
def ckO(c:gH):O:=.cells [.str c.dg,.str c.da,.dO false c.rs.length (strs c.rs)]
section
variable(p:iw)(l:List RS)(w:RS)(zs:List (aa))(bs:List Bool)
def DE:af:=gy p l++[(9,bx w)]
def Ht(c:gH):af:=gy p l++[(9,bx w),(10,ckO c)]
def sS(r:List (Nat×V)):St:=eF ([(0,P3),(3,.ptr (some (9,0))),(5,pH zs)]++r) (hL (DE p l w)) 10
def sT(c:gH)(i:Nat)(r:List (Nat×V)):St:=eF ([(0,P3),(3,.ptr (some (9,0))),(5,pH zs),(6,.dO false w.cs.length (lJ bs)),(7,iW i),(8,.ptr (some (10,0)))]++r) (hL (Ht p l w c)) 11
end
section
variable(p:iw)(l:List RS)(w:RS)
theorem sm1(zs:List (aa)):c6 (fD gu 23 [.ptr (some (4,0))] (hL (DE p l w)) 10 (pH zs,hL (DE p l w),10)) [] 9 Tryz.f28 [0,3,5] (eR 2 DD) (cS [P3,w.v] (hL (gy p l)) 9) [([],
   [fo [.ptr (some (4,0))] (hL (DE p l w)) 10],
   .to .normal (sS p l w zs []))]
 :=by rcases p with⟨_|⟨_,_,_⟩,_⟩<;>exact cQ.of U U U
theorem sm2(zs:List (aa))(i:Nat):c6 (fD gu 20 [.ptr (some (4,0))] (hL (DE p l w)) 27 (.int .i64 (Int.ofNat i),hL (DE p l w),27)) [(29,.split),(36,.split)] 9 Tryz.f28 [0,3,5] (dK (de 2 DD)) (sS p l w zs []) [([((Int.ofNat i !=(Int.ofNat w.cs.length)),true)],
   [fo [.ptr (some (4,0))] (hL (DE p l w)) 27],
   .ret (.bool false) (hL (gy p l)) 9),
  ([((Int.ofNat i !=(Int.ofNat w.cs.length)),false),(((Int.ofNat zs.length) !=(Int.ofNat w.ro.length)),true)],
   [fo [.ptr (some (4,0))] (hL (DE p l w)) 27],
   .ret (.bool false) (hL (gy p l)) 9),
  ([((Int.ofNat i !=(Int.ofNat w.cs.length)),false),(((Int.ofNat zs.length) !=(Int.ofNat w.ro.length)),false)],
   [fo [.ptr (some (4,0))] (hL (DE p l w)) 27],
   .to .normal (sS p l w zs []))]
 :=by rcases p with⟨_|⟨_,_,_⟩,_⟩<;>exact cQ.of U U U
end
section
variable(p:iw)(l:List RS)(w:RS)
theorem sm3(zs:List (aa))(bs:List Bool):c6 (fD gu 68 [w.v] (hL (DE p l w)) 10 (.dO false w.cs.length (lJ bs),hL (DE p l w),10)) [] 9 Tryz.f28 [0,3,5,6] (dK (de 3 DD)) (sS p l w zs []) [([],
   [fo [w.v] (hL (DE p l w)) 10],
   .to .normal (sS p l w zs [(6,.dO false w.cs.length (lJ bs))]))]
 :=by rcases p with⟨_|⟨_,_,_⟩,_⟩<;>exact cQ.of U U U
theorem sm4(zs:List (aa))(bs:List Bool):c6 gu [] 9 Tryz.f28 [0,3,5,6,7] (dK agG) (sS p l w zs [(6,.dO false w.cs.length (lJ bs))]) [([],
   [],
   .to .normal (sS p l w zs [(6,.dO false w.cs.length (lJ bs)),(7,iW 0)]))]
 :=by rcases p with⟨_|⟨_,_,_⟩,_⟩<;>exact cQ.of U U U
theorem sm5(zs:List (aa))(bs:List Bool)(i:Nat):c6 gu [(44,.split)] 9 Tryz.f28 [0,3,5,6,7] (dK SQ) (sS p l w zs [(6,.dO false w.cs.length (lJ bs)),(7,iW i)]) [([((decide (Int.ofNat i<(Int.ofNat w.cs.length))),true)],
   [],
   .to .normal (sS p l w zs [(6,.dO false w.cs.length (lJ bs)),(7,iW i)])),
  ([((decide (Int.ofNat i<(Int.ofNat w.cs.length))),false)],
   [],
   .to (.exit 0) (sS p l w zs [(6,.dO false w.cs.length (lJ bs)),(7,iW i)]))]
 :=by rcases p with⟨_|⟨_,_,_⟩,_⟩<;>exact cQ.of U U U
theorem sm6(zs:List (aa))(bs:List Bool)(i:Nat)(c:gH):c6 (fD gu 25 [.ptr (some (4,0)),.str c.dg] (hL (Ht p l w c)) 25 (.ew [.str c.da,pH c.rs,.int .i64 0],hL (Ht p l w c),25)) [(50,.dc (.dm c.d))] 9 Tryz.f28 [0,3,5,6,7,8,9,10,11] (eR 2 Jh) (sS p l w zs [(6,.dO false w.cs.length (lJ bs)),(7,iW i)]) [([],
   [((0:Int)<=Int.ofNat i/\Int.ofNat i<(Int.ofNat w.cs.length)),((fq w.cs).length=w.cs.length*3),(V.dm (dx (fq w.cs) (i*3) 3)=V.dm c.d),fo [.ptr (some (4,0)),.str c.dg] (hL (Ht p l w c)) 25],
   .to .normal (sT p l w zs bs c i [(9,.str c.da),(10,pH c.rs),(11,.int .i64 0)]))]
 :=by rcases p with⟨_|⟨_,_,_⟩,_⟩<;>exact cQ.of U U U
theorem sm7(zs:List (aa))(bs:List Bool)(i:Nat)(c:gH)(lv rv:Bool):c6 (fD (fD gu 18 [.ptr (some (4,0)),.str c.dg] (hL (Ht p l w c)) 51 (.bool true,hL (Ht p l w c),51)) 17 [.ptr (some (4,0)),.str c.dg] (hL (Ht p l w c)) 51 (.bool lv,hL (Ht p l w c),51)) [(69,.dc (.bool false)),(77,.dc (.bool false)),(99,.dc (.dm [.bool rv])),(101,.split)] 9 Tryz.f28 [0,3,5,6,7,8,10] (dK (de 2 Jh)) (sT p l w zs bs c i [(9,.str c.da),(10,pH c.rs),(11,.int .i64 0)]) [([((!lv==rv),true)],
   [((V.bool !eG c.da c.da)=V.bool false),(V.bool ((Int.ofNat c.rs.length) !=(Int.ofNat c.rs.length))=V.bool false),fo [.ptr (some (4,0)),.str c.dg] (hL (Ht p l w c)) 51,fo [.ptr (some (4,0)),.str c.dg] (hL (Ht p l w c)) 51,((0:Int)<=Int.ofNat i/\Int.ofNat i<(Int.ofNat w.cs.length)),((lJ bs).length=w.cs.length*1),(V.dm (dx (lJ bs) (i*1) 1)=V.dm [D.bool rv])],
   .ret (.bool false) (hL (gy p l)) 9),
  ([((!lv==rv),false)],
   [((V.bool !eG c.da c.da)=V.bool false),(V.bool ((Int.ofNat c.rs.length) !=(Int.ofNat c.rs.length))=V.bool false),fo [.ptr (some (4,0)),.str c.dg] (hL (Ht p l w c)) 51,fo [.ptr (some (4,0)),.str c.dg] (hL (Ht p l w c)) 51,((0:Int)<=Int.ofNat i/\Int.ofNat i<(Int.ofNat w.cs.length)),((lJ bs).length=w.cs.length*1),(V.dm (dx (lJ bs) (i*1) 1)=V.dm [D.bool rv])],
   .to .normal (sT p l w zs bs c i [(10,pH c.rs)]))]
 :=by rcases p with⟨_|⟨_,_,_⟩,_⟩<;>exact cQ.of U U U
theorem sm8(zs:List (aa))(bs:List Bool)(i:Nat)(c:gH):c6 gu [] 9 Tryz.f28 [0,3,5,6,7,8,10,12] (dK (de 3 Jh)) (sT p l w zs bs c i [(10,pH c.rs)]) [([],
   [],
   .to .normal (sT p l w zs bs c i [(10,pH c.rs),(12,iW 0)]))]
 :=by rcases p with⟨_|⟨_,_,_⟩,_⟩<;>exact cQ.of U U U
theorem sm9(zs:List (aa))(bs:List Bool)(i e:Nat)(c:gH)(x:aa):c6 gu [(106,.split),(111,.dc (.dm [.str x])),(116,.dc (.dm [.str x])),(118,.dc (.bool false)),(108,.dc (iW (e+1)))] 9 Tryz.f28 [0,3,5,6,7,8,10,12] (aoM) (sT p l w zs bs c i [(10,pH c.rs),(12,iW e)]) [([((decide (Int.ofNat e<(Int.ofNat c.rs.length))),true)],
   [((0:Int)<=Int.ofNat e/\Int.ofNat e<(Int.ofNat c.rs.length)),((strs c.rs).length=c.rs.length*1),(V.dm (dx (strs c.rs) (e*1) 1)=V.dm [D.str x]),((0:Int)<=Int.ofNat e/\Int.ofNat e<(Int.ofNat c.rs.length)),((strs c.rs).length=c.rs.length*1),(V.dm (dx (strs c.rs) (e*1) 1)=V.dm [D.str x]),((V.bool !eG x x)=V.bool false),(V.int aj (IntKind.i64.wrap (Int.ofNat e+(1:Int)))=iW (e+1))],
   .to .normal (sT p l w zs bs c i [(10,pH c.rs),(12,iW (e+1))])),
  ([((decide (Int.ofNat e<(Int.ofNat c.rs.length))),false)],
   [],
   .to (.exit 2) (sT p l w zs bs c i [(10,pH c.rs),(12,iW e)]))]
 :=by rcases p with⟨_|⟨_,_,_⟩,_⟩<;>exact cQ.of U U U
theorem smA(zs:List (aa))(bs:List Bool)(i e:Nat)(c:gH):c6 gu [(46,.dc (iW (i+1)))] 9 Tryz.f28 [0,3,5,6,7] (ee (ee SQ)) (sT p l w zs bs c i [(10,pH c.rs),(12,iW e)]) [([],
   [(V.int aj (IntKind.i64.wrap (Int.ofNat i+(1:Int)))=iW (i+1))],
   .to .normal (sS p l w zs [(6,.dO false w.cs.length (lJ bs)),(7,iW (i+1))]))]
 :=by rcases p with⟨_|⟨_,_,_⟩,_⟩<;>exact cQ.of U U U
theorem smB(zs:List (aa))(bs:List Bool)(i:Nat):c6 gu [] 9 Tryz.f28 [0,3,5,13] (dK agH) (sS p l w zs [(6,.dO false w.cs.length (lJ bs)),(7,iW i)]) [([],
   [],
   .to .normal (sS p l w zs [(13,iW 0)]))]
 :=by rcases p with⟨_|⟨_,_,_⟩,_⟩<;>exact cQ.of U U U
theorem smE(zs:List (aa))(i:Nat):c6 gu [(122,.split)] 9 Tryz.f28 [0,3,5,13] (dK abw) (sS p l w zs [(13,iW i)]) [([((decide (Int.ofNat i<(Int.ofNat zs.length))),true)],
   [],
   .to .normal (sS p l w zs [(13,iW i)])),
  ([((decide (Int.ofNat i<(Int.ofNat zs.length))),false)],
   [],
   .to (.exit 4) (sS p l w zs [(13,iW i)]))]
 :=by rcases p with⟨_|⟨_,_,_⟩,_⟩<;>exact cQ.of U U U
theorem smC(zs:List (aa))(i:Nat)(x y nm dd:aa):c6 (fD gu 24 [.ptr (some (4,0)),.str x] (hL (DE p l w)) 24 (.ew [.str y,.bool true],hL (DE p l w),24)) [(132,.dc (.dm [.str x])),(139,.dc (.dm [.str x])),(144,.dc (.dm [.str nm,.str dd])),(147,.split),(153,.dc (.dm [.str nm,.str dd])),(156,.split),(124,.dc (iW (i+1)))] 9 Tryz.f28 [0,3,5,13] (ee abw) (sS p l w zs [(13,iW i)]) [([((!eG x nm),true)],
   [((0:Int)<=Int.ofNat i/\Int.ofNat i<(Int.ofNat zs.length)),((strs zs).length=zs.length*1),(V.dm (dx (strs zs) (i*1) 1)=V.dm [D.str x]),fo [.ptr (some (4,0)),.str x] (hL (DE p l w)) 24,((0:Int)<=Int.ofNat i/\Int.ofNat i<(Int.ofNat zs.length)),((strs zs).length=zs.length*1),(V.dm (dx (strs zs) (i*1) 1)=V.dm [D.str x]),((0:Int)<=Int.ofNat i/\Int.ofNat i<(Int.ofNat w.ro.length)),((fh w.ro).length=w.ro.length*2),(V.dm (dx (fh w.ro) (i*2) 2)=V.dm [D.str nm,D.str dd])],
   .ret (.bool false) (hL (gy p l)) 9),
  ([((!eG x nm),false),((!eG y dd),true)],
   [((0:Int)<=Int.ofNat i/\Int.ofNat i<(Int.ofNat zs.length)),((strs zs).length=zs.length*1),(V.dm (dx (strs zs) (i*1) 1)=V.dm [D.str x]),fo [.ptr (some (4,0)),.str x] (hL (DE p l w)) 24,((0:Int)<=Int.ofNat i/\Int.ofNat i<(Int.ofNat zs.length)),((strs zs).length=zs.length*1),(V.dm (dx (strs zs) (i*1) 1)=V.dm [D.str x]),((0:Int)<=Int.ofNat i/\Int.ofNat i<(Int.ofNat w.ro.length)),((fh w.ro).length=w.ro.length*2),(V.dm (dx (fh w.ro) (i*2) 2)=V.dm [D.str nm,D.str dd]),((0:Int)<=Int.ofNat i/\Int.ofNat i<(Int.ofNat w.ro.length)),((fh w.ro).length=w.ro.length*2),(V.dm (dx (fh w.ro) (i*2) 2)=V.dm [D.str nm,D.str dd])],
   .ret (.bool false) (hL (gy p l)) 9),
  ([((!eG x nm),false),((!eG y dd),false)],
   [((0:Int)<=Int.ofNat i/\Int.ofNat i<(Int.ofNat zs.length)),((strs zs).length=zs.length*1),(V.dm (dx (strs zs) (i*1) 1)=V.dm [D.str x]),fo [.ptr (some (4,0)),.str x] (hL (DE p l w)) 24,((0:Int)<=Int.ofNat i/\Int.ofNat i<(Int.ofNat zs.length)),((strs zs).length=zs.length*1),(V.dm (dx (strs zs) (i*1) 1)=V.dm [D.str x]),((0:Int)<=Int.ofNat i/\Int.ofNat i<(Int.ofNat w.ro.length)),((fh w.ro).length=w.ro.length*2),(V.dm (dx (fh w.ro) (i*2) 2)=V.dm [D.str nm,D.str dd]),((0:Int)<=Int.ofNat i/\Int.ofNat i<(Int.ofNat w.ro.length)),((fh w.ro).length=w.ro.length*2),(V.dm (dx (fh w.ro) (i*2) 2)=V.dm [D.str nm,D.str dd]),(V.int aj (IntKind.i64.wrap (Int.ofNat i+(1:Int)))=iW (i+1))],
   .to .normal (sS p l w zs [(13,iW (i+1))]))]
 :=by rcases p with⟨_|⟨_,_,_⟩,_⟩<;>exact cQ.of U U U
theorem smD(zs:List (aa))(i:Nat):c6 gu [] 9 Tryz.f28 [] (de 6 DD) (sS p l w zs [(13,iW i)]) [([],
   [],
   .ret (.bool true) (hL (gy p l)) 9)]
 :=by rcases p with⟨_|⟨_,_,_⟩,_⟩<;>exact cQ.of U U U
end
structure Obs(p:iw)(k:Nat)(zs:List (aa))(cs:List gH)(lv:aa->Bool)(yv:aa->aa):Prop where
 h23:cU ak 23 [P3] (eu p) 7 (pH zs) (eu p) 7
 h20:cU ak 20 [P3] (eu p) 7 (.int .i64 (Int.ofNat k)) (eu p) 7
 h25:∀c∈cs,cU ak 25 [P3,.str c.dg] (eu p) 7 (.ew [.str c.da,pH c.rs,.int .i64 0]) (eu p) 7
 h18:∀c∈cs,cU ak 18 [P3,.str c.dg] (eu p) 7 (.bool true) (eu p) 7
 h17:∀c∈cs,cU ak 17 [P3,.str c.dg] (eu p) 7 (.bool (lv c.dg)) (eu p) 7
 h24:∀x∈zs,cU ak 24 [P3,.str x] (eu p) 7 (.ew [.str (yv x),.bool true]) (eu p) 7
def sF(k:Nat)(zs:List (aa))(lv:aa->Bool)(yv:aa->aa)(w:RS):Bool:=
 decide (k=w.cs.length)&&(decide (zs.length=w.ro.length)&&(decide (w.cs.map (fun c=>lv c.dg)=eV w)&&decide (zs.map (fun x=>(x,yv x))=w.ro)))
theorem We(s:RS)(h:Tr O)(n:Nat)(h1:s.cs.length<=100000)(h2:s.ro.length<=1000000)(h3:∀c∈s.cs,c.rs.length<=100000):cU ak 68 [s.v] h n (.dO false s.cs.length (lJ (eV s))) h n:=by
 have key:cU ak 68 [s.v] h n (.dO false s.cs.length (lJ (eV ⟨gp (fq s.cs),oS (fh s.ro)⟩))) h n:=by
  intro E w c9 ra g hd;refine Sx.2 _ h n (okS s++[s.cs.length<=100000,∀c∈gp (fq s.cs),c.rs.length<=100000]) _ _ _ rfl ?_ E w c9 ra g hd U;refine js (Aw be h2) ?_;rw[jr];exact fm h1 (eU h3)
 rw[jr,pC]at key;exact key
theorem agI:23<Tryz.prog.funcs.size:=au U
theorem Ji:20<Tryz.prog.funcs.size:=au U
theorem agJ:25<Tryz.prog.funcs.size:=au U
theorem agK:24<Tryz.prog.funcs.size:=au U
theorem agL:68<Tryz.prog.funcs.size:=au U
def Yy(b:Bool)(h0:Tr O)(v:V)(h:Tr O)(n:Nat):Prop:=v= .bool b/\h=h0/\n=9
theorem DF{a b:Nat}:(Int.ofNat a !=Int.ofNat b)=!decide (a=b):=by
 by_cases h:a=b
 . subst h;rw[bM rfl];exact bne_self_eq_false _
 . rw[bD h];exact bne_iff_ne.2 fun q=>h (Int.ofNat.inj q)
section
variable{α β:Type}{f:α->β}{l:List α}{bs:List β}{i:Nat}
theorem vD{c:α}{b:β}(hc:l[i]? =some c)(hb:bs[i]? =some b)(fN:f c≠b):l.map f≠bs:=fun e=>by
 subst e;rw[bt,hc]at hb;exact fN (ct hb)
theorem Be{c:α}{b:β}(hc:l[i]? =some c)(hb:bs[i]? =some b)(he:f c=b)(h:(l.take i).map f=bs.take i):(l.take (i+1)).map f=bs.take (i+1):=by
 rw[bJ,bJ,aX,h,hc,hb];simp[he]
end
theorem Yy.intro{b:Bool}{h:Tr O}:Yy b h (.bool b) h 9:=⟨rfl,rfl,rfl⟩
section
variable(p:iw)(l:List RS)(w:RS){yN:Nat}{zs:List (aa)}{cs:List gH}{lv:aa->Bool}{yv:aa->aa}
theorem aby(ho:Obs p yN zs cs lv yv)(hz:zs.length=w.ro.length)(Hj:zs.length<=100000)(i0:Nat)(tv:Bool)(hb:tv=decide (zs.map (fun x=>(x,yv x))=w.ro))(bs:List Bool):
  TG ak 9 Tryz.f28.ntmps (de 5 DD) (sS p l w zs [(6,.dO false w.cs.length (lJ bs)),(7,iW i0)]) (fG ak 9 Tryz.f28 (Yy tv (hL (gy p l)))):=by
 refine cV U ?_;refine cV U ?_;refine fZ k9 (smB p l w zs bs i0) (dG ?_);refine⟨cR,fun s' dL=>?_⟩;refine jC (α:=Nat) 4 (fun i=>zs.length-i) (fun i=>i<=zs.length/\(zs.take i).map (fun x=>(x,yv x))=w.ro.take i) (fun i=>sS p l w zs [(13,iW i)]) U U 0 ⟨aZ _,rfl⟩ (.norm dL) fun i ⟨hi,he⟩=>?_;refine cV U ?_;refine fZ k9 (smE p l w zs i) fun g hg hc=>?_;rcases jk hg with rfl|rfl
 . have fF:i<zs.length:=by have:=aH (hc _ (aq.2 rfl));rw[kU,kU]at this;omega
   clear hc;refine⟨cR,fun s0 FY=>c5 FY ?_⟩;show TG ak 9 Tryz.f28.ntmps (ee abw) (sS p l w zs [(13,iW i)]) _;have hx:zs[i]? =some zs[i]:=ay fF;have hr:w.ro[i]? =some (w.ro[i]'(by omega)):=ay be;have OS:=aM V.dm (fI hx);have SR:=aM V.dm (Dt w.ro i be);have xA:zs[i]∈zs:=bY _;generalize zs[i]=x at *;generalize w.ro[i]'(by omega)=q at *;have h24:cU ak 24 [.ptr (some (4,0)),.str x] (hL (DE p l w)) 24 (.ew [.str (yv x),.bool true]) (hL (DE p l w)) 24:=by
    have:=ho.h24 x xA;generalize yv x=y at this ⊢;exact vC (ns:=TS p) this (by rcases p with⟨_|⟨_,_,_⟩,_⟩<;>kernel_rfl)
   obtain⟨LC,hrC⟩:=smC p l w zs i x (yv x) q.1 q.2;have a1:(0:Int)<=Int.ofNat i/\Int.ofNat i<(Int.ofNat zs.length):=⟨az _,dh⟩;have a2:(strs zs).length=zs.length*1:=by rw[eJ,bk]
   have a3:(0:Int)<=Int.ofNat i/\Int.ofNat i<(Int.ofNat w.ro.length):=⟨az _,dh⟩;have a4:(fh w.ro).length=w.ro.length*2:=ny _;refine gh (k9.jy agK h24) mo (Yy tv (hL (gy p l))) U hrC fun g hg hc=>?_;rcases xP hg with rfl|rfl|rfl
   . have c2:=hc _ (aq.2 rfl);have c2:(!eG x q.1)=true:=c2;have fN:(x,yv x)≠q:=fun e=>by rw[<- e,fR,cz]at c2;cases c2
     obtain rfl:tv=false:=by rw[hb];exact bD (vD (f:=fun x=>(x,yv x)) hx hr fN)
     exact⟨fm a1 (fm a2 (fm OS (fm ⟨rfl,rfl,rfl⟩ (fm a1 (fm a2 (fm OS (fm a3 (fm a4 (eU SR))))))))),.intro,fun s1 fS=>fS⟩
   . have c2:=hc _ (aJ _ (aq.2 rfl));have c2:(!eG (yv x) q.2)=true:=c2;have fN:(x,yv x)≠q:=fun e=>by rw[<- e,fR,cz]at c2;cases c2
     obtain rfl:tv=false:=by rw[hb];exact bD (vD (f:=fun x=>(x,yv x)) hx hr fN)
     exact⟨fm a1 (fm a2 (fm OS (fm ⟨rfl,rfl,rfl⟩ (fm a1 (fm a2 (fm OS (fm a3 (fm a4 (fm SR (fm a3 (fm a4 (eU SR)))))))))))),.intro,fun s1 fS=>fS⟩
   . have c1:=hc _ (aP ..);have c2:=hc _ (aJ _ (aq.2 rfl));have c1:(!eG x q.1)=false:=c1;have c2:(!eG (yv x) q.2)=false:=c2;have Ko:(x,yv x)=q:=by
      rw[fR,Bool.not_eq_false']at c1 c2;exact Prod.ext (beq_iff_eq.1 c1) (beq_iff_eq.1 c2)
     refine⟨fm a1 (fm a2 (fm OS (fm ⟨rfl,rfl,rfl⟩ (fm a1 (fm a2 (fm OS (fm a3 (fm a4 (fm SR (fm a3 (fm a4 (fm SR (eU (pA dh be)))))))))))))),fun s1 fS=>⟨i+1,by show zs.length-(i+1)<_;omega,⟨fF,Be (f:=fun x=>(x,yv x)) hx hr Ko he⟩,.norm fS⟩⟩
 . have zJ:=aK (hc _ (aq.2 rfl));obtain rfl:i=zs.length:=by rw[kU,kU]at zJ;omega
   rw[aW,hz,aW]at he;obtain rfl:tv=true:=by rw[hb];exact bM he
   refine⟨cR,fun s1 fS=>?_⟩;simp only[andThen,dX];refine c5 fS ?_;refine fB k9 (smD p l w zs zs.length) (dG ?_);exact⟨cR,_,_,_,rfl,.intro⟩
end
theorem Yz{bs:List Bool}{i:Nat}{rv:Bool}(h:bs[i]? =some rv):V.dm (dx (lJ bs) (i*1) 1)=V.dm [D.bool rv]:=by
 obtain⟨hi,e⟩:=aF.1 h;rw[Dy hi,e]
section
variable(p:iw)(l:List RS)(w:RS){yN:Nat}{zs:List (aa)}{lv:aa->Bool}{yv:aa->aa}
theorem abz(bs:List Bool)(i:Nat)(c:gH)(hrc:c.rs.length<=100000)(hi:i<=100000){Q:Exit->St->Prop}
  (pG:∀s',gC ak 9 Tryz.f28.ntmps s' (sS p l w zs [(6,.dO false w.cs.length (lJ bs)),(7,iW (i+1))])->Q .normal s'):
  TG ak 9 Tryz.f28.ntmps (de 3 Jh) (sT p l w zs bs c i [(10,pH c.rs)]) (mQ 1 (andThen (fun s'=>TG ak 9 Tryz.f28.ntmps (ee (ee SQ)) s' Q) Q)):=by
 refine cV U ?_;refine fZ k9 (sm8 p l w zs bs i c) (dG ?_);refine⟨cR,fun s2 jg=>?_⟩;show TG ak 9 Tryz.f28.ntmps (de 4 Jh) _ _;refine jq 2 c.rs.length (fun a=>sT p l w zs bs c i [(10,pH c.rs),(12,iW a)]) U U (.norm jg) (fun a ha=>?_) ?_
 . have hx:c.rs[a]? =some c.rs[a]:=ay ha;have abA:=aM V.dm (fI hx);generalize c.rs[a]=x at abA hx;have b1:(0:Int)<=Int.ofNat a/\Int.ofNat a<(Int.ofNat c.rs.length):=⟨az _,dh⟩;have b2:(strs c.rs).length=c.rs.length*1:=by rw[eJ,bk]
   refine fZ k9 (sm9 p l w zs bs i a c x) fun g hg hc=>?_;rcases jk hg with rfl|rfl
   . exact⟨fm b1 (fm b2 (fm abA (fm b1 (fm b2 (fm abA (fm (by rw[fR,cz];rfl) (eU (pA dh be)))))))),fun s3 x9=>.norm x9⟩
   . exact absurd (aK (hc _ (aq.2 rfl))) dh
 . refine fZ k9 (sm9 p l w zs bs i c.rs.length c []) fun g hg hc=>?_;rcases jk hg with rfl|rfl
   . exact absurd (aH (hc _ (aq.2 rfl))) dh
   refine⟨cR,fun s3 x9=>⟨by simp,?_⟩⟩;obtain⟨LA,hrA⟩:=smA p l w zs bs i c.rs.length c;simp only[dX,mQ,andThen];refine c5 x9 ?_;refine gh k9 mo kS U hrA (dG ?_);exact⟨eU (pA dh be),fun s4 I5=>pG s4 (.norm I5)⟩
theorem abB(ho:Obs p yN zs w.cs lv yv)(hl:w.cs.length<=100000)(wZ:∀c∈w.cs,c.rs.length<=100000)(bs:List Bool)(hbs:bs.length=w.cs.length)(tv:Bool)(i:Nat)(c:gH)(rv:Bool)(s7:w.cs[i]? =some c)(Hl:bs[i]? =some rv)(htv:lv c.dg≠rv->tv=false){Q:Exit->St->Prop}
  (Lb:∀s',fG ak 9 Tryz.f28 (Yy tv (hL (gy p l))) .ret s'->Q .ret s')
  (pG:lv c.dg=rv->∀s',gC ak 9 Tryz.f28.ntmps s' (sS p l w zs [(6,.dO false w.cs.length (lJ bs)),(7,iW (i+1))])->Q .normal s'):
  TG ak 9 Tryz.f28.ntmps (ee SQ) (sS p l w zs [(6,.dO false w.cs.length (lJ bs)),(7,iW i)]) Q:=by
 have hi:i<w.cs.length:=(aF.1 s7).1;have kj:V.dm (dx (fq w.cs) (i*3) 3)=V.dm c.d:=by
  obtain⟨h1,h2⟩:=aF.1 s7;rw[<- h2];exact aM V.dm (vB w.cs i h1)
 have xA:c∈w.cs:=aU s7;have hrc:=wZ c xA;have a1:(0:Int)<=Int.ofNat i/\Int.ofNat i<(Int.ofNat w.cs.length):=⟨az _,dh⟩;have a2:(lJ bs).length=w.cs.length*1:=by rw[rj];omega
 refine cV U ?_;have h25:cU ak 25 [.ptr (some (4,0)),.str c.dg] (hL (Ht p l w c)) 25 (.ew [.str c.da,pH c.rs,.int .i64 0]) (hL (Ht p l w c)) 25:=
  vC (ns:=TS p) (ho.h25 c xA) (by rcases p with⟨_|⟨_,_,_⟩,_⟩<;>kernel_rfl)
 have h18:cU ak 18 [.ptr (some (4,0)),.str c.dg] (hL (Ht p l w c)) 51 (.bool true) (hL (Ht p l w c)) 51:=
  vC (ns:=TS p) (ho.h18 c xA) (by rcases p with⟨_|⟨_,_,_⟩,_⟩<;>kernel_rfl)
 have h17:cU ak 17 [.ptr (some (4,0)),.str c.dg] (hL (Ht p l w c)) 51 (.bool (lv c.dg)) (hL (Ht p l w c)) 51:=by
  have:=ho.h17 c xA;generalize lv c.dg=lb at this ⊢;exact vC (ns:=TS p) this (by rcases p with⟨_|⟨_,_,_⟩,_⟩<;>kernel_rfl)
 refine fg (i:=1) U ?_;refine iL  2 (k9.jy agJ h25) (sm6 p l w zs bs i c) (fm a1 (fm (kC _) (fm kj (eU ⟨rfl,rfl,rfl⟩)))) ?_;show TG ak 9 Tryz.f28.ntmps (de 2 Jh) (sT p l w zs bs c i [(9,.str c.da),(10,pH c.rs),(11,.int .i64 0)]) _;refine cV U ?_;obtain⟨L7,hr7⟩:=sm7 p l w zs bs i c (lv c.dg) rv;have c0:(V.bool !eG c.da c.da)=V.bool false:=by rw[fR,cz];rfl
 have c1:V.bool ((Int.ofNat c.rs.length) !=(Int.ofNat c.rs.length))=V.bool false:=by rw[bne_self_eq_false]
 refine gh ((k9.jy afk h18).jy afj h17) mo (Yy tv (hL (gy p l))) U hr7 fun g hg hc=>?_;rcases jk hg with rfl|rfl
 . have c2:=hc _ (aq.2 rfl);have c2:(!lv c.dg==rv)=true:=c2;have fN:lv c.dg≠rv:=fun e=>by rw[e]at c2;cases rv<;>cases c2
   obtain rfl:=htv fN;exact⟨fm c0 (fm c1 (fm ⟨rfl,rfl,rfl⟩ (fm ⟨rfl,rfl,rfl⟩ (fm a1 (fm a2 (eU (Yz Hl))))))),.intro,fun s1 fS=>Lb s1 fS⟩
 have c2:=hc _ (aq.2 rfl);have c2:(!lv c.dg==rv)=false:=c2;have Ko:lv c.dg=rv:=by
  cases h1:lv c.dg<;>cases h2:rv<;>first|rfl|(rw[h1,h2]at c2;cases c2)
 refine⟨fm c0 (fm c1 (fm ⟨rfl,rfl,rfl⟩ (fm ⟨rfl,rfl,rfl⟩ (fm a1 (fm a2 (eU (Yz Hl))))))),fun s1 fS=>c5 fS ?_⟩;show TG ak 9 Tryz.f28.ntmps (de 3 Jh) (sT p l w zs bs c i [(10,pH c.rs)]) _;exact abz p l w bs i c hrc be (pG Ko)
end
noncomputable abbrev Jj:Code:=dP Tryz.f67
noncomputable abbrev agM:Code:=dK (de 6 Jj)
section
variable(p:iw)(l:List RS)(kk:Int)(F t0 i:Nat)(w:RS)
noncomputable abbrev agN:Code:=dw (dw (ee agM))
def Wf:af:=M0 9 p l
def Jk(R:ai)(m0 i e:Nat):af:=[(0,.ints .u32 gS),(1,.ints .u32 gR),(3,.cells [.ptr (some (4,0)),.dj (some (8,(0+i*2))) e (m0-i) 2]),(4,.cells (xK 9 (9+sh p) (10+sh p) p))]++lgB 9 p++[(9+sh p,.dF none p.es),(10+sh p,.dF none p.rs),(8,.deep R)]
def Hu(r:List (Nat×V)):St:=eF ([(0,P3),(1,.int .i64 kk),(4,.bool false)]++r) (hL (Wf p l)) (11+sh p)
theorem cr1(q:iw)(l:List RS)(kk:Int):c6 (fD gu 31 [.ptr (some (4,0)),.dj (some (9,0)) 1 1 1] (hL (gy p l++[(9,.cells [.int .i64 kk])])) 10 (.ew [],hL (M0 10 q l),(12+sh q))) [] 9 Tryz.f67 [0,1,4,5,6] (eR 4 Jj) (cS [P3,.int .i64 kk] (hL (gy p l)) 9) [([],
   [fo [.ptr (some (4,0)),.dj (some (9,0)) 1 1 1] (hL (gy p l++[(9,.cells [.int .i64 kk])])) 10],
   .to .normal (Hu q l kk [(5,iW 0),(6,iW l.length)]))]
 :=by rcases p with⟨_|⟨_,_,_⟩,_⟩<;>rcases q with⟨_|⟨_,_,_⟩,_⟩<;>exact cQ.of U U U
theorem cr2:c6 gu [(21,.dc (iW t0)),(22,.split)] 9 Tryz.f67 [0,1,4,5,6] (dK (de 4 Jj)) (Hu p l kk [(5,iW 0),(6,iW l.length)]) [([((Int.ofNat t0==(0:Int)),true)],
   [(V.int aj (IntKind.i64.wrap (Int.ofNat (BitVec.ofInt 64 kk&&&BitVec.ofInt 64 (255:Int)).toNat))=iW t0)],
   .to .normal (Hu p l kk [(5,iW 0),(6,iW 1)])),
  ([((Int.ofNat t0==(0:Int)),false)],
   [(V.int aj (IntKind.i64.wrap (Int.ofNat (BitVec.ofInt 64 kk&&&BitVec.ofInt 64 (255:Int)).toNat))=iW t0)],
   .to .normal (Hu p l kk [(5,iW 0),(6,iW l.length)]))]
 :=by rcases p with⟨_|⟨_,_,_⟩,_⟩<;>exact cQ.of U U U
theorem cr3(T:Nat):c6 gu [(24,.dc (iW t0)),(25,.split),(27,.dc (iW (T-1)))] 9 Tryz.f67 [0,1,4,5,6] (dK (de 5 Jj)) (Hu p l kk [(5,iW 0),(6,iW T)]) [([((Int.ofNat t0==(255:Int)),true)],
   [(V.int aj (IntKind.i64.wrap (Int.ofNat (BitVec.ofInt 64 kk&&&BitVec.ofInt 64 (255:Int)).toNat))=iW t0),(V.int aj (IntKind.i64.wrap (Int.ofNat T-(1:Int)))=iW (T-1))],
   .to .normal (Hu p l kk [(5,iW (T-1)),(6,iW T)])),
  ([((Int.ofNat t0==(255:Int)),false)],
   [(V.int aj (IntKind.i64.wrap (Int.ofNat (BitVec.ofInt 64 kk&&&BitVec.ofInt 64 (255:Int)).toNat))=iW t0)],
   .to .normal (Hu p l kk [(5,iW 0),(6,iW T)]))]
 :=by rcases p with⟨_|⟨_,_,_⟩,_⟩<;>exact cQ.of U U U
theorem cr4(T:Nat):c6 gu [(29,.dc (iW (T-1)))] 9 Tryz.f67 [0,1,4,5,7] (dK agM) (Hu p l kk [(5,iW F),(6,iW T)]) [([],
   [(V.int aj (IntKind.i64.wrap (Int.ofNat T-(1:Int)))=iW (T-1))],
   .to .normal (Hu p l kk [(5,iW F),(7,iW (T-1))]))]
 :=by rcases p with⟨_|⟨_,_,_⟩,_⟩<;>exact cQ.of U U U
theorem cr5:c6 (fD gu 28 [P3,w.v] (hL (Wf p l)) (11+sh p) (.bool false,hL (Wf p l),(11+sh p))) [(32,.split),(42,.dc w.v),(34,.dc (iW (i-1)))] 9 Tryz.f67 [0,1,4,5,7] (agN) (Hu p l kk [(5,iW F),(7,iW i)]) [([((decide (Int.ofNat i>=Int.ofNat F)),true)],
   [((0:Int)<=Int.ofNat i/\Int.ofNat i<(Int.ofNat l.length)),(0+i*2+2<=(gq l).length),(V.agg (D.lT (dx (gq l) (0+i*2) 2))=w.v),fo [P3,w.v] (hL (Wf p l)) (11+sh p),(V.int aj (IntKind.i64.wrap (Int.ofNat i-(1:Int)))=iW (i-1))],
   .to .normal (Hu p l kk [(5,iW F),(7,iW (i-1))])),
  ([((decide (Int.ofNat i>=Int.ofNat F)),false)],
   [],
   .to (.exit 0) (Hu p l kk [(5,iW F),(7,iW i)]))]
 :=by rcases p with⟨_|⟨_,_,_⟩,_⟩<;>exact cQ.of U U U
theorem cr6:c6 (fD gu 28 [P3,w.v] (hL (Wf p l)) (11+sh p) (.bool true,hL (Wf p l),(11+sh p))) [(32,.split),(42,.dc w.v),(51,.dc (iW (i+1)))] 9 Tryz.f67 [0,1,4,5,7] (agN) (Hu p l kk [(5,iW F),(7,iW i)]) [([((decide (Int.ofNat i>=Int.ofNat F)),true)],
   [((0:Int)<=Int.ofNat i/\Int.ofNat i<(Int.ofNat l.length)),(0+i*2+2<=(gq l).length),(V.agg (D.lT (dx (gq l) (0+i*2) 2))=w.v),fo [P3,w.v] (hL (Wf p l)) (11+sh p),(V.int aj (IntKind.i64.wrap (Int.ofNat i+(1:Int)))=iW (i+1)),((0:Int)<=Int.ofNat (i+1)/\Int.ofNat (i+1)<=(Int.ofNat l.length)),((0:Int)<=Int.ofNat i/\Int.ofNat i<=(Int.ofNat (i+1)))],
   .ret (.bool true) (hL (Jk p (gq l) l.length i ((i+1)-i))) (11+sh p)),
  ([((decide (Int.ofNat i>=Int.ofNat F)),false)],
   [],
   .to (.exit 0) (Hu p l kk [(5,iW F),(7,iW i)]))]
 :=by rcases p with⟨_|⟨_,_,_⟩,_⟩<;>exact cQ.of U U U
end
section
variable(p:iw)(l:List RS)(w:RS){yN:Nat}{zs:List (aa)}{cs:List gH}{lv:aa->Bool}{yv:aa->aa}
theorem abC(ho:Obs p yN zs w.cs lv yv)(hk:yN=w.cs.length)(hz:zs.length=w.ro.length)(Hj:zs.length<=100000)(hl:w.cs.length<=100000)(wZ:∀c∈w.cs,c.rs.length<=100000):
  TG ak 9 Tryz.f28.ntmps (de 3 DD) (sS p l w zs []) (fG ak 9 Tryz.f28 (Yy (sF yN zs lv yv w) (hL (gy p l)))):=by
 have hq:sF yN zs lv yv w=(decide (w.cs.map (fun c=>lv c.dg)=eV w)&&decide (zs.map (fun x=>(x,yv x))=w.ro)):=by
  unfold sF;rw[bM hk,bM hz,Bool.true_and,Bool.true_and]
 rw[hq];have h68:=fun(h:Tr O) (n:Nat)=>We w h n hl be wZ;have Oz:=zx w;generalize eV w=bs at h68 Oz;refine cV U ?_;refine fZ (k9.jy agL (h68 _ _)) (sm3 p l w zs bs) (dG ?_);refine⟨eU ⟨rfl,rfl,rfl⟩,fun s' dL=>c5 dL ?_⟩;show TG ak 9 Tryz.f28.ntmps (de 4 DD) _ _;refine cV U ?_;refine cV U ?_;refine fZ k9 (sm4 p l w zs bs) (dG ?_);refine⟨cR,fun s' dL=>?_⟩;refine jC (α:=Nat) 0 (fun i=>w.cs.length-i) (fun i=>i<=w.cs.length/\(w.cs.take i).map (fun c=>lv c.dg)=bs.take i) (fun i=>sS p l w zs [(6,.dO false w.cs.length (lJ bs)),(7,iW i)]) U U 0 ⟨aZ _,rfl⟩ (.norm dL) fun i ⟨hi,he⟩=>?_;refine cV U ?_;refine fZ k9 (sm5 p l w zs bs i) fun g hg hc=>?_;rcases jk hg with rfl|rfl
 . have fF:i<w.cs.length:=by have:=aH (hc _ (aq.2 rfl));rw[kU,kU]at this;omega
   refine⟨cR,fun s0 FY=>c5 FY ?_⟩;have s7:w.cs[i]? =some w.cs[i]:=ay fF;have Hl:bs[i]? =some (bs[i]'(by omega)):=ay be;generalize w.cs[i]=c at s7;generalize bs[i]'(by omega)=rv at Hl;refine abB p l w ho hl wZ bs Oz _ i c rv s7 Hl (fun fN=>?_) (fun s1 h=>h) fun Ko s1 fS=>⟨i+1,by show w.cs.length-(i+1)<_;omega,⟨fF,Be (f:=fun c:gH=>lv c.dg) s7 Hl Ko he⟩,fS⟩;rw[bD (vD (f:=fun c:gH=>lv c.dg) s7 Hl fN),Bool.false_and]
 . have zJ:=aK (hc _ (aq.2 rfl));obtain rfl:i=w.cs.length:=by rw[kU,kU]at zJ;omega
   rw[aW,<- Oz,aW]at he;refine⟨cR,fun s1 fS=>?_⟩;simp only[andThen,dX];refine c5 fS ?_;exact aby p l w ho hz Hj w.cs.length _ (by rw[bM he,Bool.true_and]) bs
theorem m28(ho:Obs p yN zs cs lv yv)(o5:yN=w.cs.length->w.cs=cs)(Hj:zs.length<=100000)(hl:w.cs.length<=100000)(wZ:∀c∈w.cs,c.rs.length<=100000):
  cU ak 28 [P3,w.v] (hL (gy p l)) 9 (.bool (sF yN zs lv yv w)) (hL (gy p l)) 9:=by
 refine c7 Tryz.func28 (code:=DD) U U ?_;have h23:cU ak 23 [.ptr (some (4,0))] (hL (DE p l w)) 10 (pH zs) (hL (DE p l w)) 10:=
  vC (ns:=TS p) ho.h23 (by rcases p with⟨_|⟨_,_,_⟩,_⟩<;>kernel_rfl)
 have h20:cU ak 20 [.ptr (some (4,0))] (hL (DE p l w)) 27 (.int .i64 (Int.ofNat yN)) (hL (DE p l w)) 27:=
  vC (ns:=TS p) ho.h20 (by rcases p with⟨_|⟨_,_,_⟩,_⟩<;>kernel_rfl)
 refine iL  2 (k9.jy agI h23) (sm1 p l w zs) (eU ⟨rfl,rfl,rfl⟩) ?_;show TG ak 9 Tryz.f28.ntmps (de 2 DD) _ _;refine cV U ?_;obtain⟨L2,Fc⟩:=sm2 p l w zs yN;refine gh (k9.jy Ji h20) mo (Yy (sF yN zs lv yv w) (hL (gy p l))) U Fc fun g hg hc=>?_;rcases xP hg with rfl|rfl|rfl
 . have c1:=hc _ (aq.2 rfl);have c1:(Int.ofNat yN !=Int.ofNat w.cs.length)=true:=c1;rw[DF,Bool.not_eq_true']at c1;have hf:sF yN zs lv yv w=false:=by unfold sF;rw[c1,Bool.false_and]
   rw[hf];exact⟨eU ⟨rfl,rfl,rfl⟩,.intro,fun s1 fS=>fS⟩
 . have c1:=hc _ (aJ _ (aq.2 rfl));have c1:(Int.ofNat zs.length !=Int.ofNat w.ro.length)=true:=c1;rw[DF,Bool.not_eq_true']at c1;have hf:sF yN zs lv yv w=false:=by unfold sF;rw[c1,Bool.false_and,Bool.and_false]
   rw[hf];exact⟨eU ⟨rfl,rfl,rfl⟩,.intro,fun s1 fS=>fS⟩
 . have c0:=hc _ (aP ..);have c1:=hc _ (aJ _ (aq.2 rfl));have c0:(Int.ofNat yN !=Int.ofNat w.cs.length)=false:=c0;have c1:(Int.ofNat zs.length !=Int.ofNat w.ro.length)=false:=c1;rw[DF,Bool.not_eq_false']at c0 c1;have hk:=aH c0;have hz:=aH c1;refine⟨eU ⟨rfl,rfl,rfl⟩,fun s' dL=>c5 dL ?_⟩;have D9:=ho;rw[<- o5 hk]at D9;exact abC p l w D9 hk hz Hj hl wZ
end
theorem SS:31<Tryz.prog.funcs.size:=au U
theorem Jl:28<Tryz.prog.funcs.size:=au U
section
variable(kk:Nat)(p:iw)(l:List RS)
def crR:af:=match p.lo with
 |none=>Ex 0 8 9 p
 |some _=>Ex 8 9 10 p
def nC:Nat:=match p.lo with|none=>10|some _=>11
def IsC(kk:Int)(p q:iw):Prop:=cU ak 31 [P3,.dj (some (7,0)) 1 1 1] (hL (eO p++[(7,.cells [.int .i64 kk])])) 8 (.ew []) (hL (crR q)) (nC q)
theorem Az{kk:Nat}(h:kk<=1000000):V.int aj (IntKind.i64.wrap (Int.ofNat (BitVec.ofInt 64 (kk:Int)&&&BitVec.ofInt 64 (255:Int)).toNat))=iW (kk%256):=by
 have e:(BitVec.ofInt 64 (kk:Int)&&&BitVec.ofInt 64 (255:Int)).toNat=kk%256:=by
  have h1:(BitVec.ofInt 64 (kk:Int)).toNat=kk:=by
   rw[BitVec.toNat_ofInt];omega
  rw[BitVec.toNat_and,h1,show(BitVec.ofInt 64 (255:Int)).toNat=2^8-1 from rfl,Nat.and_two_pow_sub_one_eq_mod]
 rw[e];exact aM _ (fH dh dh)
theorem zB{a b:Nat}:(Int.ofNat a==(b:Int))=decide (a=b):=by
 by_cases h:a=b
 . subst h;rw[bM rfl];exact cz _
 . rw[bD h];exact beq_eq_false_iff_ne.2 fun q=>h (Int.ofNat.inj q)
def FA:Nat:=if kk%256=0 then 1 else l.length
def YA:Nat:=if kk%256=255 then FA kk l-1 else 0
theorem OT(i:Nat)(w:RS)(h:l[i]? =some w):(List.drop (0+i*2) (gq l)).take (1*2)=gq [w]:=by
 obtain⟨hi,e⟩:=aF.1 h;have:=DA l i hi;rw[e]at this;unfold dx at this;rw[bI];exact this
def nsK:List (Option Nat):=[some 0,some 1,some 2,some 4,lgN 5 p,some 6,some 7,some 9]
abbrev nsN:List (Option Nat):=abu 9 (9+sh p) (10+sh p) 8 p
end
theorem M3{f:FuncId}{args:ag}{h:Tr O}(p:iw)(l:List RS)(i:Nat)(w:RS)(hw:l[i]? =some w)(hh:cU ak f args h 9 (.bool true) (hL (Jk p (gq l) l.length i 1)) (11+sh p)):cU ak f args h 9 (.bool true) (hL (wA p [w])) (nR p):=by
 have e:=OT l i w hw;have st:∀(R:ai) (m0:Nat),Step 9 (Jf (.bool true) (hL (Jk p R m0 i 1)) (11+sh p)) (Jf (.bool true) (hL (moD 9 p 1 ((List.drop (0+i*2) R).take (1*2)))) (12+sh p)):=fun R m0=>
  by rcases p with⟨_|⟨_,_,_⟩,_⟩<;>exact(Step.rb 3 1 (s2:=_) rfl).trans (.Ew 5 (live:=[0]) U)
 have:=hh.step (st _ _);rw[e]at this;exact this
section
variable(p:iw)(l:List RS)
theorem m67(kk:Nat)(hk:kk<=1000000)(hl:l.length<=1000)(h0:0<l.length)(j:Nat)(w0:RS)(hj:YA kk l<=j/\j<FA kk l)(QK:l[j]? =some w0)
  (hsm:∀(i:Nat) (w:RS),l[i]? =some w->j<=i->i<FA kk l->cU ak 28 [P3,w.v] (hL (gy p l)) 9 (.bool (decide (i=j))) (hL (gy p l)) 9):
  TG ak 9 Tryz.f67.ntmps (de 4 Jj) (Hu p l (kk:Int) [(5,iW 0),(6,iW l.length)]) (fG ak 9 Tryz.f67 fun v h n9=>v= .bool true/\h=hL (Jk p (gq l) l.length j 1)/\n9=(11+sh p)):=by
 have hT:FA kk l<=l.length:=by unfold FA;split<;>omega
 have aoO:∀(i:Nat) (w:RS),l[i]? =some w->j<=i->i<FA kk l->cU ak 28 [P3,w.v] (hL (Wf p l)) (11+sh p) (.bool (decide (i=j))) (hL (Wf p l)) (11+sh p):=by
  intro i w h1 h2 h3;have:=hsm i w h1 h2 h3;generalize decide (i=j)=tv at this ⊢;exact vC (ns:=nsN p) this (by rcases p with⟨_|⟨_,_,_⟩,_⟩<;>kernel_rfl)
 have go6:∀F T:Nat,F=YA kk l->T=FA kk l->TG ak 9 Tryz.f67.ntmps (de 6 Jj) (Hu p l (kk:Int) [(5,iW F),(6,iW T)]) (fG ak 9 Tryz.f67 fun v h n9=>v= .bool true/\h=hL (Jk p (gq l) l.length j 1)/\n9=(11+sh p)):=by
  intro F T hF hTe;refine cV U ?_;refine cV U ?_;obtain⟨L4,Ef⟩:=cr4 p l (kk:Int) F T;have hT1:V.int aj (IntKind.i64.wrap (Int.ofNat T-(1:Int)))=iW (T-1):=aM _ (by rw[fH dh dh,kU,kU];omega);refine gh k9 mo kS U Ef (dG ?_);refine⟨eU hT1,fun s' dL=>?_⟩;refine jC (α:=Nat) 0 (fun i=>i) (fun i=>j<=i/\i<T) (fun i=>Hu p l (kk:Int) [(5,iW F),(7,iW i)]) U U (T-1) ⟨be,be⟩ (.norm dL) fun i ⟨YX,zI⟩=>?_;have PX:i<l.length:=by omega
  have hw:l[i]? =some l[i]:=ay PX;have kj:V.agg (D.lT (dx (gq l) (0+i*2) 2))=(l[i]).v:=by rw[bI,DA l i PX];rfl
  have oz:0+i*2+2<=(gq l).length:=by rw[sE];omega
  have Yi:=aoO i l[i] hw YX be;generalize l[i]=w at kj hw Yi;have a1:(0:Int)<=Int.ofNat i/\Int.ofNat i<(Int.ofNat l.length):=⟨az _,dh⟩;by_cases Pb:i=j
  . subst Pb;rw[bM rfl]at Yi;obtain⟨L6,Hr⟩:=cr6 p l (kk:Int) F i w;refine gh (k9.jy Jl Yi) mo (fun v h n9=>v= .bool true/\h=hL (Jk p (gq l) l.length i 1)/\n9=(11+sh p)) U Hr fun g hg hc=>?_;rcases jk hg with rfl|rfl
    . refine⟨fm a1 (fm oz (fm kj (fm ⟨rfl,rfl,rfl⟩ (fm (pA dh be) (fm ⟨az _,dh⟩ (eU ⟨az _,dh⟩)))))),⟨rfl,?_,rfl⟩,fun s1 fS=>fS⟩;have e1:i+1-i=1:=by omega
      rw[e1]
    . exact absurd (aK (hc _ (aq.2 rfl))) dh
  . rw[bD Pb]at Yi;refine fZ (k9.jy Jl Yi) (cr5 p l (kk:Int) F i w) fun g hg hc=>?_;rcases jk hg with rfl|rfl
    . refine⟨fm a1 (fm oz (fm kj (fm ⟨rfl,rfl,rfl⟩ (eU (aM _ (by rw[fH dh dh,kU,kU];omega)))))),fun s1 fS=>⟨i-1,be,⟨be,be⟩,.norm fS⟩⟩
    . exact absurd (aK (hc _ (aq.2 rfl))) dh
 have go5:∀T:Nat,T=FA kk l->TG ak 9 Tryz.f67.ntmps (de 5 Jj) (Hu p l (kk:Int) [(5,iW 0),(6,iW T)]) (fG ak 9 Tryz.f67 fun v h n9=>v= .bool true/\h=hL (Jk p (gq l) l.length j 1)/\n9=(11+sh p)):=by
  intro T hTe;have hT1:V.int aj (IntKind.i64.wrap (Int.ofNat T-(1:Int)))=iW (T-1):=aM _ (by rw[fH dh dh,kU,kU];omega);refine cV U ?_;refine fZ k9 (cr3 p l (kk:Int) (kk%256) T) fun g hg hc=>?_;rcases jk hg with rfl|rfl
  . have c1:(Int.ofNat (kk%256)==((255:Nat):Int))=true:=hc _ (aq.2 rfl);rw[zB]at c1;exact⟨fm (Az hk) (eU hT1),fun s' dL=>c5 dL (go6 (T-1) T (by unfold YA;rw[aG (aH c1),hTe]) hTe)⟩
  . have c1:(Int.ofNat (kk%256)==((255:Nat):Int))=false:=hc _ (aq.2 rfl);rw[zB]at c1;exact⟨eU (Az hk),fun s' dL=>c5 dL (go6 0 T (by unfold YA;rw[aI (aK c1)]) hTe)⟩
 refine cV U ?_;refine fZ k9 (cr2 p l (kk:Int) (kk%256)) fun g hg hc=>?_;rcases jk hg with rfl|rfl
 . have c1:(Int.ofNat (kk%256)==((0:Nat):Int))=true:=hc _ (aq.2 rfl);rw[zB]at c1;exact⟨eU (Az hk),fun s' dL=>c5 dL (go5 1 (by unfold FA;rw[aG (aH c1)]))⟩
 . have c1:(Int.ofNat (kk%256)==((0:Nat):Int))=false:=hc _ (aq.2 rfl);rw[zB]at c1;exact⟨eU (Az hk),fun s' dL=>c5 dL (go5 l.length (by unfold FA;rw[aI (aK c1)]))⟩
end
theorem c67(p:iw)(q:iw)(l:List RS)(kk:Nat)(hk:kk<=1000000)(hl:l.length<=1000)(h0:0<l.length)(j0:Nat)(w0:RS)(hj:YA kk l<=j0/\j0<FA kk l)(QK:l[j0]? =some w0)(hC:IsC (kk:Int) p q)
  (hsm:∀(i:Nat) (w:RS),l[i]? =some w->j0<=i->i<FA kk l->cU ak 28 [P3,w.v] (hL (gy q l)) 9 (.bool (decide (i=j0))) (hL (gy q l)) 9):
  cU ak 67 [P3,.int .i64 (kk:Int)] (hL (gy p l)) 9 (.bool true) (hL (wA q [w0])) (nR q):=by
 refine M3 q l j0 w0 QK (c7 Tryz.func67 (code:=Jj) U U ?_);have h31:cU ak 31 [.ptr (some (4,0)),.dj (some (9,0)) 1 1 1] (hL (gy p l++[(9,.cells [.int .i64 (kk:Int)])])) 10 (.ew []) (hL (M0 10 q l)) (12+sh q):=
  x4 (ns:=nsK p) hC 10 (by rcases p with⟨_|⟨_,_,_⟩,_⟩<;>rcases q with⟨_|⟨_,_,_⟩,_⟩<;>kernel_rfl)
 obtain⟨L1,BA⟩:=cr1 p q l (kk:Int);exact mA 4 (k9.jy SS h31) mo U BA (eU ⟨rfl,rfl,rfl⟩) (m67 q l kk hk hl h0 j0 w0 hj QK hsm)
noncomputable abbrev x5:Code:=dP Tryz.f27
section
variable(p q:iw)(l l1:List RS)(x y z:Int)
def lD(d:aa):af:=gy p l++[(9,l5 x y z d)]
def lE(d:aa):af:=moA 10 p l++[(9,l5 x y z d)]
theorem d0(d:aa):c6 (fD gu 64 [P3,rI x y z d] (hL (lD p l x y z d)) 10 (.bool true,hL (lE q l1 x y z d),(13+sh q))) [(7,.dc (.int .u8 0))] 9 Tryz.f27 [] (x5) (cS [P3,rI x y z d] (hL (gy p l)) 9) [([],
   [(V.int IntKind.u8 (x.tmod (10:Int))=V.int IntKind.u8 (0:Int)),fo [P3,rI x y z d] (hL (lD p l x y z d)) 10],
   .ret (.bool true) (hL (wA q l1)) (nR q))]
 :=by rcases p with⟨_|⟨_,_,_⟩,_⟩<;>rcases q with⟨_|⟨_,_,_⟩,_⟩<;>exact cQ.of U U U
theorem d1(d:aa):c6 (fD gu 64 [P3,rI x y z d] (hL (lD p l x y z d)) 10 (.bool true,hL (lE q l1 x y z d),(13+sh q))) [(7,.dc (.int .u8 1))] 9 Tryz.f27 [] (x5) (cS [P3,rI x y z d] (hL (gy p l)) 9) [([],
   [(V.int IntKind.u8 (x.tmod (10:Int))=V.int IntKind.u8 (1:Int)),fo [P3,rI x y z d] (hL (lD p l x y z d)) 10],
   .ret (.bool true) (hL (wA q l1)) (nR q))]
 :=by rcases p with⟨_|⟨_,_,_⟩,_⟩<;>rcases q with⟨_|⟨_,_,_⟩,_⟩<;>exact cQ.of U U U
theorem d2(d:aa):c6 (fD gu 64 [P3,rI x y z d] (hL (lD p l x y z d)) 10 (.bool true,hL (lE q l1 x y z d),(13+sh q))) [(7,.dc (.int .u8 2))] 9 Tryz.f27 [] (x5) (cS [P3,rI x y z d] (hL (gy p l)) 9) [([],
   [(V.int IntKind.u8 (x.tmod (10:Int))=V.int IntKind.u8 (2:Int)),fo [P3,rI x y z d] (hL (lD p l x y z d)) 10],
   .ret (.bool true) (hL (wA q l1)) (nR q))]
 :=by rcases p with⟨_|⟨_,_,_⟩,_⟩<;>rcases q with⟨_|⟨_,_,_⟩,_⟩<;>exact cQ.of U U U
theorem d3(d:aa):c6 (fD gu 64 [P3,rI x y z d] (hL (lD p l x y z d)) 10 (.bool true,hL (lE q l1 x y z d),(13+sh q))) [(7,.dc (.int .u8 3))] 9 Tryz.f27 [] (x5) (cS [P3,rI x y z d] (hL (gy p l)) 9) [([],
   [(V.int IntKind.u8 (x.tmod (10:Int))=V.int IntKind.u8 (3:Int)),fo [P3,rI x y z d] (hL (lD p l x y z d)) 10],
   .ret (.bool true) (hL (wA q l1)) (nR q))]
 :=by rcases p with⟨_|⟨_,_,_⟩,_⟩<;>rcases q with⟨_|⟨_,_,_⟩,_⟩<;>exact cQ.of U U U
theorem d4(d:aa):c6 (fD gu 65 [P3,rI x y z d] (hL (lD p l x y z d)) 10 (.bool true,hL (lE q l1 x y z d),(13+sh q))) [(7,.dc (.int .u8 4))] 9 Tryz.f27 [] (x5) (cS [P3,rI x y z d] (hL (gy p l)) 9) [([],
   [(V.int IntKind.u8 (x.tmod (10:Int))=V.int IntKind.u8 (4:Int)),fo [P3,rI x y z d] (hL (lD p l x y z d)) 10],
   .ret (.bool true) (hL (wA q l1)) (nR q))]
 :=by rcases p with⟨_|⟨_,_,_⟩,_⟩<;>rcases q with⟨_|⟨_,_,_⟩,_⟩<;>exact cQ.of U U U
theorem d5(d:aa):c6 (fD gu 65 [P3,rI x y z d] (hL (lD p l x y z d)) 10 (.bool true,hL (lE q l1 x y z d),(13+sh q))) [(7,.dc (.int .u8 5))] 9 Tryz.f27 [] (x5) (cS [P3,rI x y z d] (hL (gy p l)) 9) [([],
   [(V.int IntKind.u8 (x.tmod (10:Int))=V.int IntKind.u8 (5:Int)),fo [P3,rI x y z d] (hL (lD p l x y z d)) 10],
   .ret (.bool true) (hL (wA q l1)) (nR q))]
 :=by rcases p with⟨_|⟨_,_,_⟩,_⟩<;>rcases q with⟨_|⟨_,_,_⟩,_⟩<;>exact cQ.of U U U
theorem d6(d:aa):c6 (fD gu 65 [P3,rI x y z d] (hL (lD p l x y z d)) 10 (.bool true,hL (lE q l1 x y z d),(13+sh q))) [(7,.dc (.int .u8 6))] 9 Tryz.f27 [] (x5) (cS [P3,rI x y z d] (hL (gy p l)) 9) [([],
   [(V.int IntKind.u8 (x.tmod (10:Int))=V.int IntKind.u8 (6:Int)),fo [P3,rI x y z d] (hL (lD p l x y z d)) 10],
   .ret (.bool true) (hL (wA q l1)) (nR q))]
 :=by rcases p with⟨_|⟨_,_,_⟩,_⟩<;>rcases q with⟨_|⟨_,_,_⟩,_⟩<;>exact cQ.of U U U
theorem d9(d:aa)(kk:Int):c6 (fD gu 67 [P3,.int .i64 kk] (hL (lD p l x y z d)) 10 (.bool true,hL (lE q l1 x y z d),(13+sh q))) [(7,.dc (.int .u8 9)),(70,.dc (.int .i64 kk))] 9 Tryz.f27 [] (x5) (cS [P3,rI x y z d] (hL (gy p l)) 9) [([],
   [(V.int IntKind.u8 (x.tmod (10:Int))=V.int IntKind.u8 (9:Int)),(V.int aj (IntKind.i64.wrap (IntKind.i64.wrap y*IntKind.i64.wrap ((1:Int)+IntKind.i64.wrap (IntKind.i64.wrap (z.tmod (2:Int))*(3:Int)))))=V.int aj kk),fo [P3,.int .i64 kk] (hL (lD p l x y z d)) 10],
   .ret (.bool true) (hL (wA q l1)) (nR q))]
 :=by rcases p with⟨_|⟨_,_,_⟩,_⟩<;>rcases q with⟨_|⟨_,_,_⟩,_⟩<;>exact cQ.of U U U
end
section
variable(p q:iw)(l:List RS)
def lF(g c r:Nat)(R:ai)(m0 i:Nat)(x y z:Int)(d:aa):af:=[(0,.ints .u32 gS),(1,.ints .u32 gR),(3,.cells [.ptr (some (4,0)),.dj (some (8,(0+i*2))) (m0-i) (m0-i) 2]),(4,.cells (xK g c r p))]++lgB g p++[(c,.dF none p.es),(r,.dF none p.rs),(8,.deep R),(9,l5 x y z d)]
def lG(g c r a:Nat)(R:ai)(w:RS)(ex:af):af:=[(0,.ints .u32 gS),(1,.ints .u32 gR),(3,.cells [.ptr (some (4,0)),.dj (some (a,0)) 1 1 2]),(4,.cells (xK g c r p))]++lgB g p++[(c,.dF none p.es),(r,.dF none p.rs),(8,.deep R)]++ex++[(a,bx w)]
theorem d7(i:Nat)(x y z:Int)(d:aa):c6 (fD gu 66 [.ptr (some (4,0))] (hL (lF p 5 6 7 (gq l) l.length i x y z d)) 25 (.int .i64 0,hL (lF q 25 (25+sh q) (26+sh q) (gq l) l.length i x y z d),(27+sh q))) [(7,.dc (.int .u8 7)),(35,.dc (iW i))] 9 Tryz.f27 [] (x5) (cS [P3,rI x y z d] (hL (gy p l)) 9) [([],
   [(V.int IntKind.u8 (x.tmod (10:Int))=V.int IntKind.u8 (7:Int)),(V.int aj (IntKind.i64.wrap ((Int.ofNat l.length)-(1:Int)))=iW i),((0:Int)<=Int.ofNat i/\Int.ofNat i<=(Int.ofNat l.length)),fo [.ptr (some (4,0))] (hL (lF p 5 6 7 (gq l) l.length i x y z d)) 25],
   .ret (.bool true) (hL (Jk q (gq l) l.length i (l.length-i))) (11+sh q))]
 :=by rcases p with⟨_|⟨_,_,_⟩,_⟩<;>rcases q with⟨_|⟨_,_,_⟩,_⟩<;>exact cQ.of U U U
theorem d8(sn w:RS)(x y z:Int)(d:aa):c6 (fD (fD (fD gu 29 [P3] (hL (lD p l x y z d)) 10 (sn.v,hL (lD p l x y z d),10)) 32 [sn.v] (hL (lD p l x y z d)) 10 (w.v,hL (lD p l x y z d),10)) 19 [.ptr (some (4,0))] (hL (lG p 5 6 7 10 (gq l) w [(9,l5 x y z d)])) 11 (.int .i64 0,hL (lG q 11 (11+sh q) (12+sh q) 10 (gq l) w [(9,l5 x y z d)]),(13+sh q))) [(7,.dc (.int .u8 8))] 9 Tryz.f27 [] (x5) (cS [P3,rI x y z d] (hL (gy p l)) 9) [([],
   [(V.int IntKind.u8 (x.tmod (10:Int))=V.int IntKind.u8 (8:Int)),fo [P3] (hL (lD p l x y z d)) 10,fo [sn.v] (hL (lD p l x y z d)) 10,fo [.ptr (some (4,0))] (hL (lG p 5 6 7 10 (gq l) w [(9,l5 x y z d)])) 11],
   .ret (.bool true) (hL (lG q 9 (9+sh q) (10+sh q) (11+sh q) (gq l) w [])) (12+sh q))]
 :=by rcases p with⟨_|⟨_,_,_⟩,_⟩<;>rcases q with⟨_|⟨_,_,_⟩,_⟩<;>exact cQ.of U U U
end
def tZ(s:RS)(y z:Nat):aa:=if y%4=0 then[]else kL s z
theorem M4(y:Nat):((y:Int).tmod (4:Int)==(0:Int))=decide (y%4=0):=by
 rw[cB be];by_cases h:y%4=0
 . rw[bM h];exact beq_iff_eq.2 be
 . rw[bD h];exact beq_eq_false_iff_ne.2 be
theorem m65(p:iw)(q:iw)(l:List RS)(s:RS)(x y z:Nat)(d:aa)(hy:y<=255)(hz:z<=255)(hs:s.cs.length<=100000)(hr:s.ro.length<64)(hl:l.length<=999)
  (hS:zA 16 [.str (MY y),.str (tZ s y z)] p (.int .i64 (oT s (MY y) (tZ s y z)).er) q):
  cU ak 65 [P3,rI x y z d] (hL (gy p (l++[s]))) 9 (.bool true) (hL (wA q (tO (l++[s]) (oT s (MY y) (tZ s y z))))) (nR q):=by
 have h29:=m29 p l s be;have h89:=m89 p l s z hz be be;have JJ:=V9 y;have h90:=fun(h:Tr O) (n:Nat)=>Wc s (MY y) (tZ s y z) h n hs hr (fun e=>by rw[e]at JJ;cases JJ) be;have h91:=fun(h:Tr O) (n:Nat)=>Wd y hy h n;have oz:(l++[s]).length<=1000:=by rw[ax];simp;omega
 have go:∀Q,TG ak 9 Tryz.f65.ntmps (de 5 zz) (sYs q (l++[s]) (oT s (MY y) (tZ s y z))) Q->TG ak 9 Tryz.f65.ntmps zz (cS [P3,rI x y z d] (hL (gy p (l++[s]))) 9) Q:=by
  intro Q h;generalize l++[s]=fC at h29 h89 h ⊢;generalize oT s (MY y) (tZ s y z)=r at hS h90 h;have k89:cU ak 89 [P3,.int .u8 (z:Int)] (hL (gy p fC++[(9,l5 x y z d)])) 10 (.str (kL s z)) (hL (gy p fC++[(9,l5 x y z d)])) 10:=by
   generalize kL s z=w at h89 ⊢;exact vC (ns:=TR p) h89 (by rcases p with⟨_|⟨_,_,_⟩,_⟩<;>kernel_rfl)
  refine iL  2 (k9.jy SL k89) (yp1 p fC x y z d (kL s z)) (eU ⟨rfl,rfl,rfl⟩) ?_;show TG ak 9 Tryz.f65.ntmps (de 2 zz) (sYq p fC x y z d (kL s z)) Q;have go2:∀e,e=tZ s y z->TG ak 9 Tryz.f65.ntmps (de 3 zz) (sYq p fC x y z d e) Q:=by
   intro e he;rw[<- he]at hS h90;clear he;have k29:cU ak 29 [P3] (hL (gy p fC++[(9,l5 x y z d)])) 19 s.v (hL (gy p fC++[(9,l5 x y z d)])) 19:=
    vC (ns:=TR p) h29 (by rcases p with⟨_|⟨_,_,_⟩,_⟩<;>kernel_rfl)
   generalize MY y=nm at hS h90 h91;refine cV U ?_;refine fZ (((k9.jy Dz k29).jy Yx (h91 _ _)).jy agF (h90 _ _)) (yp3 p fC s x y z d e nm r) (dG ?_);refine⟨fm ⟨rfl,rfl,rfl⟩ (fm ⟨rfl,rfl,rfl⟩ (eU ⟨rfl,rfl,rfl⟩)),fun s' dL=>c5 dL ?_⟩;show TG ak 9 Tryz.f65.ntmps (de 4 zz) (sYr p fC x y z d e r) Q;refine cV U ?_;have hS2:cU ak 16 [.ptr (some (4,0)),.str nm,.str e] (hL (gy p fC++[(9,l5 x y z d),(10,Fy r)])) 21 (.int .i64 r.er) (hL (M0 21 q fC++[(9,l5 x y z d),(10,Fy r)])) (23+sh q):=
    x4 (ns:=TS p) hS 21 (by rcases p with⟨_|⟨_,_,_⟩,_⟩<;>rcases q with⟨_|⟨_,_,_⟩,_⟩<;>kernel_rfl)
   refine fZ ((k9.jy Yx (h91 _ _)).jy Yl hS2) (yp4 p q fC x y z d e nm r) (dG ?_);exact⟨fm ⟨rfl,rfl,rfl⟩ (eU ⟨rfl,rfl,rfl⟩),fun s' dL=>c5 dL h⟩
  refine cV U ?_;refine fZ k9 (yp2 p fC x y z d (kL s z)) fun g hg hc=>?_;rcases jk hg with rfl|rfl
  . have c1:decide (y%4=0)=true:=(M4 y).symm.trans (hc _ (aq.2 rfl));exact⟨cR,fun s' dL=>c5 dL (go2 [] (by unfold tZ;rw[aG (aH c1)]))⟩
  . have c1:decide (y%4=0)=false:=(M4 y).symm.trans (hc _ (aq.2 rfl));exact⟨cR,fun s' dL=>c5 dL (go2 (kL s z) (by unfold tZ;rw[aI (aK c1)]))⟩
 generalize oT s (MY y) (tZ s y z)=r at go;generalize l++[s]=fC at go oz;refine M2 q fC r (fun SP=>?_) (fun SP=>?_)
 . refine c7 Tryz.func65 (code:=zz) U U (go _ ?_);refine cV U ?_;obtain⟨L6,Hr⟩:=yp5 q fC r;rw[M1]at Hr;refine gh k9 mo kS U Hr fun g hg hc=>?_;rcases jk hg with rfl|rfl
   . refine⟨fm (by rw[sE];omega) (fm dU (eU (Jg be))),fun s' dL=>c5 dL ?_⟩;refine fB k9 (yp7 q (fC.length+1) (gq (fC++[r.s])) r) (dG ?_);exact⟨eU (G9 _),_,_,_,rfl,rfl,rfl,rfl⟩
   . have c1:r.ch=false:=hc _ (aq.2 rfl);rw[SP]at c1;cases c1
 . refine c7 Tryz.func65 (code:=zz) U U (go _ ?_);refine cV U ?_;refine fZ k9 (yp5 q fC r) fun g hg hc=>?_;rcases jk hg with rfl|rfl
   . have c1:r.ch=true:=hc _ (aq.2 rfl);rw[SP]at c1;cases c1
   . refine⟨cR,fun s' dL=>c5 dL ?_⟩;refine fB k9 (yp8 q fC r) (dG ?_);exact⟨eU (G9 _),_,_,_,rfl,rfl,rfl,rfl⟩
theorem M5:64<Tryz.prog.funcs.size:=au U
theorem SU:65<Tryz.prog.funcs.size:=au U
theorem agP:67<Tryz.prog.funcs.size:=au U
theorem YB:32<Tryz.prog.funcs.size:=au U
theorem M6:19<Tryz.prog.funcs.size:=au U
theorem Ey{x v:Nat}(h:x%10=v):V.int IntKind.u8 ((x:Int).tmod (10:Int))=V.int IntKind.u8 (v:Int):=aM _ (by rw[cB be];omega)
def Wg(y z:Nat):Nat:=y*(1+z%2*3)
theorem abD{y z:Nat}(hy:y<=255):V.int aj (IntKind.i64.wrap (IntKind.i64.wrap (y:Int)*IntKind.i64.wrap ((1:Int)+IntKind.i64.wrap (IntKind.i64.wrap ((z:Int).tmod (2:Int))*(3:Int)))))=V.int aj ((Wg y z:Nat):Int):=by
 have e1:IntKind.i64.wrap (y:Int)=(y:Int):=fH be be;have hz:z%2=0\/z%2=1:=by omega
 have e2:(z:Int).tmod 2=((z%2:Nat):Int):=by rw[cB be];rfl
 rw[e1,e2];unfold Wg;rcases hz with h|h
 . rw[h,show IntKind.i64.wrap ((1:Int)+IntKind.i64.wrap (IntKind.i64.wrap ((0:Nat):Int)*3))=1 from rfl];exact aM _ (by rw[fH be be];simp)
 . rw[h,show IntKind.i64.wrap ((1:Int)+IntKind.i64.wrap (IntKind.i64.wrap ((1:Nat):Int)*3))=4 from rfl];exact aM _ (by rw[fH be be];simp)
theorem M7(s:RS)(h:Tr O)(n:Nat)(h1:s.cs.length<=100000)(h2:s.ro.length<=1000000)(h3:∀c∈s.cs,c.rs.length<=100000):cU ak 32 [s.v] h n (eS s).v h n:=by
 have key:cU ak 32 [s.v] h n (eS ⟨gp (fq s.cs),oS (fh s.ro)⟩).v h n:=by
  intro E w c9 ra g hd;refine SB.2 _ h n (okS s++[s.cs.length<=100000,∀c∈gp (fq s.cs),c.rs.length<=100000]) _ _ _ rfl ?_ E w c9 ra g hd U;refine js (Aw be h2) ?_;rw[jr];exact fm h1 (eU h3)
 rw[jr,pC]at key;exact key
section
variable(p:iw)(q:iw)(l l1:List RS)(x y z:Nat)(d:aa)
theorem aoQ(hx:x%10<=3)(h:cU ak 64 [P3,rI x y z d] (hL (gy p l)) 9 (.bool true) (hL (wA q l1)) (nR q)):cU ak 27 [P3,rI x y z d] (hL (gy p l)) 9 (.bool true) (hL (wA q l1)) (nR q):=by
 have k1:cU ak 64 [P3,rI x y z d] (hL (lD p l x y z d)) 10 (.bool true) (hL (lE q l1 x y z d)) (13+sh q):=
  x4 (ns:=TR p) h 10 (by rcases p with⟨_|⟨_,_,_⟩,_⟩<;>rcases q with⟨_|⟨_,_,_⟩,_⟩<;>kernel_rfl)
 refine c7 Tryz.func27 (code:=x5) U U ?_;rcases(by omega:x%10=0\/x%10=1\/x%10=2\/x%10=3)with e|e|e|e
 . refine fB (k9.jy M5 k1) (d0 p q l l1 x y z d) (dG ?_);exact⟨fm (Ey e) (eU ⟨rfl,rfl,rfl⟩),_,_,_,rfl,rfl,rfl,rfl⟩
 . refine fB (k9.jy M5 k1) (d1 p q l l1 x y z d) (dG ?_);exact⟨fm (Ey e) (eU ⟨rfl,rfl,rfl⟩),_,_,_,rfl,rfl,rfl,rfl⟩
 . refine fB (k9.jy M5 k1) (d2 p q l l1 x y z d) (dG ?_);exact⟨fm (Ey e) (eU ⟨rfl,rfl,rfl⟩),_,_,_,rfl,rfl,rfl,rfl⟩
 . refine fB (k9.jy M5 k1) (d3 p q l l1 x y z d) (dG ?_);exact⟨fm (Ey e) (eU ⟨rfl,rfl,rfl⟩),_,_,_,rfl,rfl,rfl,rfl⟩
theorem aoR(hx:4<=x%10)(Qd:x%10<=6)(h:cU ak 65 [P3,rI x y z d] (hL (gy p l)) 9 (.bool true) (hL (wA q l1)) (nR q)):cU ak 27 [P3,rI x y z d] (hL (gy p l)) 9 (.bool true) (hL (wA q l1)) (nR q):=by
 have k1:cU ak 65 [P3,rI x y z d] (hL (lD p l x y z d)) 10 (.bool true) (hL (lE q l1 x y z d)) (13+sh q):=
  x4 (ns:=TR p) h 10 (by rcases p with⟨_|⟨_,_,_⟩,_⟩<;>rcases q with⟨_|⟨_,_,_⟩,_⟩<;>kernel_rfl)
 refine c7 Tryz.func27 (code:=x5) U U ?_;rcases(by omega:x%10=4\/x%10=5\/x%10=6)with e|e|e
 . refine fB (k9.jy SU k1) (d4 p q l l1 x y z d) (dG ?_);exact⟨fm (Ey e) (eU ⟨rfl,rfl,rfl⟩),_,_,_,rfl,rfl,rfl,rfl⟩
 . refine fB (k9.jy SU k1) (d5 p q l l1 x y z d) (dG ?_);exact⟨fm (Ey e) (eU ⟨rfl,rfl,rfl⟩),_,_,_,rfl,rfl,rfl,rfl⟩
 . refine fB (k9.jy SU k1) (d6 p q l l1 x y z d) (dG ?_);exact⟨fm (Ey e) (eU ⟨rfl,rfl,rfl⟩),_,_,_,rfl,rfl,rfl,rfl⟩
theorem aoS(hx:x%10=9)(hy:y<=255)(h:cU ak 67 [P3,.int .i64 ((Wg y z:Nat):Int)] (hL (gy p l)) 9 (.bool true) (hL (wA q l1)) (nR q)):cU ak 27 [P3,rI x y z d] (hL (gy p l)) 9 (.bool true) (hL (wA q l1)) (nR q):=by
 have k1:cU ak 67 [P3,.int .i64 ((Wg y z:Nat):Int)] (hL (lD p l x y z d)) 10 (.bool true) (hL (lE q l1 x y z d)) (13+sh q):=
  x4 (ns:=TR p) h 10 (by rcases p with⟨_|⟨_,_,_⟩,_⟩<;>rcases q with⟨_|⟨_,_,_⟩,_⟩<;>kernel_rfl)
 refine c7 Tryz.func27 (code:=x5) U U ?_;refine fB (k9.jy agP k1) (d9 p q l l1 x y z d ((Wg y z:Nat):Int)) (dG ?_);exact⟨fm (Ey hx) (fm (abD hy) (eU ⟨rfl,rfl,rfl⟩)),_,_,_,rfl,rfl,rfl,rfl⟩
theorem aoT(s:RS)(hx:x%10=7)(hl:l.length<=1000)(h:zA 66 [] p (.int .i64 0) q):cU ak 27 [P3,rI x y z d] (hL (gy p (l++[s]))) 9 (.bool true) (hL (wA q [s])) (nR q):=by
 have oz:(l++[s]).length=l.length+1:=by rw[ax];rfl
 have kj:(l++[s])[l.length]? =some s:=by rw[cj (aA _),Nat.sub_self];rfl
 generalize l++[s]=fC at oz kj;refine M3 q fC l.length s kj ?_;refine c7 Tryz.func27 (code:=x5) U U ?_;obtain⟨L,hr⟩:=d7 p q fC l.length x y z d;have hi:V.int aj (IntKind.i64.wrap ((Int.ofNat fC.length)-(1:Int)))=iW l.length:=aM _ (by rw[oz,fH dh dh,kU,kU];omega);have hb:(0:Int)<=Int.ofNat l.length/\Int.ofNat l.length<=(Int.ofNat fC.length):=⟨az _,by rw[oz,kU,kU];omega⟩;have e1:fC.length-l.length=1:=by omega
 have k1:cU ak 66 [.ptr (some (4,0))] (hL (lF p 5 6 7 (gq fC) fC.length l.length x y z d)) 25 (.int .i64 0) (hL (lF q 25 (25+sh q) (26+sh q) (gq fC) fC.length l.length x y z d)) (27+sh q):=by
  generalize l.length=i0;generalize fC.length=m0;generalize gq fC=R;exact x4 (ns:=TS p) h 25 (by rcases p with⟨_|⟨_,_,_⟩,_⟩<;>rcases q with⟨_|⟨_,_,_⟩,_⟩<;>kernel_rfl)
 refine gY (k9.jy agw k1) mo _ U hr (dG ?_);exact⟨fm (Ey hx) (fm hi (fm hb (eU ⟨rfl,rfl,rfl⟩))),_,_,_,rfl,rfl,by rw[e1],rfl⟩
end
theorem aoU(p:iw)(q:iw)(l:List RS)(sn:RS)(x y z:Nat)(d:aa)(hx:x%10=8)(hl:l.length<=1000)(h1:sn.cs.length<=100000)(h2:sn.ro.length<=1000000)(h3:∀c∈sn.cs,c.rs.length<=100000)(h:zA 19 [] p (.int .i64 0) q):
  cU ak 27 [P3,rI x y z d] (hL (gy p (l++[sn]))) 9 (.bool true) (hL (wA q [eS sn])) (nR q):=by
 have h29:=m29 p l sn be;have h32:=fun(h:Tr O) (n:Nat)=>M7 sn h n h1 h2 h3;generalize l++[sn]=fC at h29 ⊢;generalize eS sn=w at h32 ⊢;have k29:cU ak 29 [P3] (hL (lD p fC x y z d)) 10 sn.v (hL (lD p fC x y z d)) 10:=
  vC (ns:=TR p) h29 (by rcases p with⟨_|⟨_,_,_⟩,_⟩<;>kernel_rfl)
 have k1:cU ak 19 [.ptr (some (4,0))] (hL (lG p 5 6 7 10 (gq fC) w [(9,l5 x y z d)])) 11 (.int .i64 0) (hL (lG q 11 (11+sh q) (12+sh q) 10 (gq fC) w [(9,l5 x y z d)])) (13+sh q):=by
  generalize gq fC=R;exact x4 (ns:=TS p) h 11 (by rcases p with⟨_|⟨_,_,_⟩,_⟩<;>rcases q with⟨_|⟨_,_,_⟩,_⟩<;>kernel_rfl)
 have key:cU ak 27 [P3,rI x y z d] (hL (gy p fC)) 9 (.bool true) (hL (lG q 9 (9+sh q) (10+sh q) (11+sh q) (gq fC) w [])) (12+sh q):=by
  refine c7 Tryz.func27 (code:=x5) U U ?_;refine fB (((k9.jy Dz k29).jy YB (h32 _ _)).jy M6 k1) (d8 p q fC sn w x y z d) (dG ?_);exact⟨fm (Ey hx) (fm ⟨rfl,rfl,rfl⟩ (fm ⟨rfl,rfl,rfl⟩ (eU ⟨rfl,rfl,rfl⟩))),_,_,_,rfl,rfl,rfl,rfl⟩
 have st:∀R,Step 9 (Jf (.bool true) (hL (lG q 9 (9+sh q) (10+sh q) (11+sh q) R w [])) (12+sh q)) (Jf (.bool true) (hL (wA q [w])) (nR q)):=fun R=>
  (Step.deep [(11+sh q)] (s2:=Jf (.bool true) (hL (moD 9 q 1 (gq [w])++[(8,.deep R)])) (12+sh q)) (by rcases q with⟨_|⟨_,_,_⟩,_⟩<;>kernel_rfl)).trans (.Ew 5 (live:=[0]) (by rcases q with⟨_|⟨_,_,_⟩,_⟩<;>kernel_rfl))
 exact key.step (st _)
def nA:List gH->Nat->ae
 | [],_=>[]
 |c::l,i=>(.str c.dg,pW c.da c.rs (i:Int))::nA l (i+1)
theorem Jm:∀(a b:List gH) (i:Nat),nA (a++b) i=nA a i++nA b (i+a.length)
 | [],_,_=>rfl
 |c::a,b,i=>by
  show(_::nA (a++b) (i+1))=_::(nA a (i+1)++nA b (i+(a.length+1)));rw[Jm a b (i+1),show i+1+a.length=i+(a.length+1)by omega]
theorem Jn:∀(l:List gH) (i:Nat),(nA l i).length=l.length
 | [],_=>rfl
 |_::l,i=>aM (·+1) (Jn l (i+1))
theorem qc{x:aa}:∀{cs:List gH} {i:Nat},(∀c∈cs,c.dg≠x)->di (.str x) (nA cs i)=none
 | [],_,_=>rfl
 |c::l,i,h=>by
  show di (.str x) ((.str c.dg,_)::nA l (i+1))=none;rw[gm,aI (by intro q;simp only[D.str.injEq]at q;exact h c (by simp) q)];exact qc fun c hc=>h c (by simp[hc])
theorem lQ:∀{cs:List gH} {i j:Nat} {c:gH},(cs.map gH.dg).Nodup->cs[j]? =some c->di (.str c.dg) (nA cs i)=some (pW c.da c.rs ((i+j:Nat):Int))
 | [],_,_,_,_,h=>by simp at h
 |a::l,i,0,c,_,h=>by
  simp only[bG,an]at h;subst h;show di (.str a.dg) ((.str a.dg,_)::nA l (i+1))=_;rw[gm,aG rfl];rfl
 |a::l,i,j+1,c,hn,h=>by
  simp only[cA]at h;rw[bN,cg]at hn;have hc:c∈l:=aU h;show di (.str c.dg) ((.str a.dg,_)::nA l (i+1))=_;rw[gm,aI (by intro q;simp only[D.str.injEq]at q;exact hn.1 (by rw[q];exact bj.2 ⟨c,hc,rfl⟩)),lQ hn.2 h,show i+1+j=i+(j+1)by omega]
theorem Jo{x:aa}:∀{cs:List gH} {i:Nat},(∀c∈cs,c.dg≠x)->sA x cs i= -1
 | [],_,_=>rfl
 |c::l,i,h=>by
  unfold sA;rw[aI (h c (by simp))];exact Jo fun c hc=>h c (by simp[hc])
theorem Jp:∀{cs:List gH} {i j:Nat} {c:gH},(cs.map gH.dg).Nodup->cs[j]? =some c->sA c.dg cs i=((i+j:Nat):Int)
 | [],_,_,_,_,h=>by simp at h
 |a::l,i,0,c,_,h=>by
  simp only[bG,an]at h;subst h;unfold sA;rw[aG rfl];rfl
 |a::l,i,j+1,c,hn,h=>by
  simp only[cA]at h;rw[bN,cg]at hn;have hc:c∈l:=aU h;unfold sA;rw[aI (fun q=>hn.1 (by rw[q];exact bj.2 ⟨c,hc,rfl⟩)),Jp hn.2 h,show i+1+j=i+(j+1)by omega]
section
variable{cs:List gH}{x:aa}
theorem sG{j:Nat}{c:gH}(hn:(cs.map gH.dg).Nodup)(h:cs[j]? =some c):fU cs c.dg=(j:Int):=by
 unfold fU;rw[Jp hn h,bI]
theorem AA(cs:List gH)(x:aa):(∀c∈cs,c.dg≠x)\/∃(j:Nat) (c:gH),cs[j]? =some c/\c.dg=x:=by
 by_cases h:∃c∈cs,c.dg=x
 . obtain⟨c,hc,e⟩:=h;obtain⟨j,hj⟩:=bz.1 hc;exact .inr ⟨j,c,hj,e⟩
 . exact .inl fun c hc e=>h ⟨c,hc,e⟩
theorem qd(hn:(cs.map gH.dg).Nodup):fU cs x<0↔∀c∈cs,c.dg≠x:=by
 rcases AA cs x with h|⟨j,c,hj,rfl⟩
 . exact⟨fun _=>h,fun _=>by unfold fU;rw[Jo h];decide⟩
 . rw[sG hn hj];exact⟨fun q=>by omega,fun q=>absurd rfl (q c (aU hj))⟩
theorem lR(hn:(cs.map gH.dg).Nodup):0<=fU cs x↔∃(j:Nat) (c:gH),cs[j]? =some c/\c.dg=x:=by
 rcases AA cs x with h|⟨j,c,hj,rfl⟩
 . constructor
   . intro q;have:=(qd hn).2 h;omega
   . rintro⟨j,c,hj,e⟩;exact absurd e (h c (aU hj))
 . exact⟨fun _=>⟨j,c,hj,rfl⟩,fun _=>by rw[sG hn hj];exact az _⟩
end
theorem BS:∀{a b:aa},a<b↔yc a b=true
 |_,[]=>by simp[yc]
 | [],_::_=>by simp[yc]
 |a::x,b::y=>by
  simp only[yc];rw[List.cons_lt_cons_iff];have ih:=BS (a:=x) (b:=y);cases q:Nat.blt a.toNat b.toNat with
  |true=>
   have:a<b:=au q;simp[this]
  |false=>
   have h1:¬a<b:=fun h=>by
    have:Nat.blt a.toNat b.toNat=true:=Nat.ble_eq_true_of_le h;rw[q]at this;cases this
   cases q2:Nat.beq a.toNat b.toNat with
   |true=>
    have:a=b:=UInt8.toNat.inj (aD q2);subst this;simp only[h1,false_or,true_and];exact ih
   |false=>
    have:a≠b:=fun e=>by subst e;rw[cM]at q2;cases q2
    simp[h1,this]
theorem zC{n:aa}:∀{l:List (aa×aa)},(∀p∈l,p.1≠n)->gM n l=[]
 | [],_=>rfl
 |p::l,h=>by
  unfold gM;rw[aI (h p (by simp))];exact zC fun q hq=>h q (by simp[hq])
def OU(l:List (aa×aa)):Prop:=(l.map Prod.fst).Pairwise (. <·)
theorem FB{a b c:aa}(h:a<b)(k:b<c):a<c:=List.lt_trans h k
theorem wC(a:aa):¬a<a:=List.lt_irrefl a
theorem Wh{a b:aa}(h:¬a<b)(fN:a≠b):b<a:=by
 by_cases q:b<a
 . exact q
 . exact absurd (List.le_antisymm (List.not_lt.1 q) (List.not_lt.1 h)) fN
theorem qL{p:aa×aa}{l:List (aa×aa)}:OU (p::l)↔(∀q∈l,p.1<q.1)/\OU l:=by
 unfold OU;rw[bN,List.pairwise_cons];constructor
 . rintro⟨h1,h2⟩;exact⟨fun q hq=>h1 _ (bj.2 ⟨q,hq,rfl⟩),h2⟩
 . rintro⟨h1,h2⟩;refine⟨fun y hy=>?_,h2⟩;obtain⟨q,hq,rfl⟩:=bj.1 hy;exact h1 q hq
theorem nB{n x:aa}{q:aa×aa}:∀{l:List (aa×aa)} {dn:Bool},q∈lP n x dn l↔(q∈l/\q.1≠n)\/(dn=false/\q=(n,x))
 | [],dn=>by
   unfold lP;cases dn<;>simp
 |p::l,dn=>by
  unfold lP;rw[aT,aT,nB (l:=l),aE];have hA:(q∈(if dn=false/\yc n p.1=true then[(n,x)]else[]))↔(dn=false/\yc n p.1=true)/\q=(n,x):=by
   split
   . rename_i h;simp[h]
   . rename_i h;simp only[aL,false_iff];exact fun k=>h k.1
  have hB:(q∈(if p.1=n then[]else[p]))↔p.1≠n/\q=p:=by
   split
   . rename_i h;simp[h]
   . rename_i h;simp[h]
  rw[hA,hB];constructor
  . rintro(⟨⟨h1,_⟩,h3⟩|⟨h1,h2⟩|⟨h1,h2⟩|⟨h1,h2⟩)
    . exact .inr ⟨h1,h3⟩
    . subst h2;exact .inl ⟨.inl rfl,h1⟩
    . exact .inl ⟨.inr h1,h2⟩
    . exact .inr ⟨(Bool.or_eq_false_iff.1 h1).1,h2⟩
  . rintro(⟨rfl|h1,h2⟩|⟨h1,h2⟩)
    . exact .inr (.inl ⟨h2,rfl⟩)
    . exact .inr (.inr (.inl ⟨h1,h2⟩))
    . cases hl:yc n p.1 with
      |true=>exact .inl ⟨⟨h1,rfl⟩,h2⟩
      |false=>exact .inr (.inr (.inr ⟨by rw[h1];rfl,h2⟩))
theorem DG{n x:aa}:∀{l:List (aa×aa)} {dn:Bool},OU l->(dn=true->∀p∈l,n<p.1\/True)->OU (lP n x dn l)
 | [],dn,_,_=>by
   unfold lP;cases dn
   . exact List.pairwise_singleton ..
   . exact List.Pairwise.nil
 |p::l,dn,h,_=>by
  obtain⟨h1,h2⟩:=qL.1 h;have ih:∀d,OU (lP n x d l):=fun d=>DG h2 fun _ _ _=>.inr trivial;unfold lP;cases dn with
  |true=>
   rw[aI (by simp),cE];split
   . exact ih _
   . refine qL.2 ⟨fun q hq=>?_,ih _⟩;rw[Bool.true_or]at hq;rcases nB.1 hq with⟨a,_⟩|⟨a,_⟩
     . exact h1 q a
     . cases a
  |false=>
   by_cases hl:yc n p.1=true
   . have fF:=BS.2 hl;have hp:¬p.1=n:=fun e=>wC n (by rw[e]at fF;exact fF);rw[aG ⟨rfl,hl⟩,aI hp,hl,Bool.or_true];have hm:∀q∈lP n x true l,p.1<q.1:=fun q hq=>by
      rcases nB.1 hq with⟨a,_⟩|⟨a,_⟩
      . exact h1 q a
      . cases a
     refine qL.2 ⟨fun q hq=>?_,qL.2 ⟨hm,ih _⟩⟩;rcases aE.1 hq with rfl|hq
     . exact fF
     . exact FB fF (hm q hq)
   . have hl':yc n p.1=false:=by cases q:yc n p.1<;>simp_all
     rw[aI (fun q=>hl q.2),cE,hl',Bool.or_false];split
     . exact ih _
     . rename_i hp;refine qL.2 ⟨fun q hq=>?_,ih _⟩;rcases nB.1 hq with⟨a,_⟩|⟨_,a⟩
       . exact h1 q a
       . subst a;exact Wh (fun q=>hl (BS.1 q)) (fun e=>hp e.symm)
theorem wD{n x:aa}:∀{l:List (aa×aa)},OU l->(n,x)∈l->gM n l=x
 | [],_,h=>by cases h
 |p::l,hs,h=>by
  obtain⟨h1,h2⟩:=qL.1 hs;unfold gM;rcases aE.1 h with e|h
  . rw[<- e,aG rfl]
  . rw[aI (fun e=>wC n (by have:=h1 _ h;rw[e]at this;exact this))];exact wD h2 h
theorem rq(n:aa):∀(l:List (aa×aa)),(gM n l=[]/\∀p∈l,p.1≠n)\/(n,gM n l)∈l
 | []=>.inl ⟨rfl,fun _ h=>by cases h⟩
 |p::l=>by
  unfold gM;by_cases h:p.1=n
  . rw[aG h];subst h;exact .inr (by simp)
  . rw[aI h];rcases rq n l with⟨h1,h2⟩|h1
    . exact .inl ⟨h1,fun q hq=>by
       rcases aE.1 hq with rfl|hq
       . exact h
       . exact h2 q hq⟩
    . exact .inr (by simp[h1])
theorem FC{n m x:aa}{l:List (aa×aa)}(hs:OU l):gM m (lP n x (eG x []) l)=if m=n then x else gM m l:=by
 have jg:OU (lP n x (eG x []) l):=DG hs fun _ _ _=>.inr trivial;by_cases hm:m=n
 . subst hm;rw[aG rfl];by_cases hx:x=[]
   . subst hx;refine zC fun p hp e=>?_;rcases nB.1 hp with⟨_,a⟩|⟨a,_⟩
     . exact a e
     . cases a
   . have hb:eG x []=false:=by rw[fR];exact beq_eq_false_iff_ne.2 hx
     exact wD jg (nB.2 (.inr ⟨hb,rfl⟩))
 . rw[aI hm];rcases rq m l with⟨h1,h2⟩|h1
   . rw[h1];refine zC fun p hp e=>?_;rcases nB.1 hp with⟨a,_⟩|⟨_,a⟩
     . exact h2 p a e
     . subst a;exact hm e.symm
   . exact wD jg (nB.2 (.inl ⟨h1,hm⟩))
inductive oV(es:ae):aa->aa->Prop
 |refl (x:aa):oV es x x
 |step {x y z:aa}:oV es x y->z∈pF es y->oV es x z
theorem oV.head{es:ae}{x y z:aa}(h:y∈pF es x)(p:oV es y z):oV es x z:=by
 induction p with
 |refl=>exact .step (.refl x) h
 |step _ h2 ih=>exact .step ih h2
structure Spc(es:ae)(ds ks PV:List (aa)):Prop where
 sub:∀y∈ks,y∈PV
 roots:∀d∈ds,d∈PV
 pth:∀y∈PV,y∈ks\/∃d∈ds,oV es d y
 cl:∀y∈PV,y∉ks->∀r∈pF es y,r∈PV
 nd:ks.Nodup->PV.Nodup
theorem DH{es:ae}{k:Nat}(H:∀x ks,Ends es k x->Spc es [x] ks (lY es k x ks)):∀(ds ks:List (aa)),(∀d∈ds,Ends es k d)->Spc es ds ks (ds.foldl (fun a r=>lY es k r a) ks)
 | [],ks,_=>⟨fun _ h=>h,fun _ h=>(by cases h),fun _ h=>.inl h,fun y h h2=>absurd h h2,fun h=>h⟩
 |d::ds,ks,he=>by
  have h1:=H d ks (he d (by simp));have h2:=DH H ds (lY es k d ks) fun x hx=>he x (by simp[hx]);show Spc es (d::ds) ks (ds.foldl (fun a r=>lY es k r a) (lY es k d ks));refine⟨fun y hy=>h2.sub y (h1.sub y hy),fun x hx=>?_,fun y hy=>?_,fun y hy hn r hr=>?_,fun h=>h2.nd (h1.nd h)⟩
  . rcases aE.1 hx with rfl|hx
    . exact h2.sub _ (h1.roots _ (by simp))
    . exact h2.roots x hx
  . rcases h2.pth y hy with h|⟨x,hx,p⟩
    . rcases h1.pth y h with h|⟨x,hx,p⟩
      . exact .inl h
      . exact .inr ⟨x,by rw[aq.1 hx];simp,p⟩
    . exact .inr ⟨x,by simp[hx],p⟩
  . by_cases q:y∈lY es k d ks
    . exact h2.sub r (h1.cl y q hn r hr)
    . exact h2.cl y hy q r hr
theorem M8{es:ae}:∀(k:Nat) (x:aa) (ks:List (aa)),Ends es k x->Spc es [x] ks (lY es k x ks)
 |0,_,_,h=>h.elim
 |k+1,x,ks,⟨_,_,hr⟩=>by
  unfold lY;by_cases hx:x∈ks
  . rw[aG hx];exact⟨fun _ h=>h,fun d hd=>by rw[aq.1 hd];exact hx,fun _ h=>.inl h,fun y h h2=>absurd h h2,fun h=>h⟩
  . rw[aI hx];have h:=DH (fun y ks=>M8 k y ks) (pF es x) (ks++[x]) hr;generalize (pF es x).foldl (fun a r=>lY es k r a) (ks++[x])=PV at h ⊢;refine⟨fun y hy=>h.sub y (by simp[hy]),fun d hd=>by rw[aq.1 hd];exact h.sub x (by simp),fun y hy=>?_,fun y hy hn r Fc=>?_,fun J8=>h.nd ?_⟩
    . rcases h.pth y hy with q|⟨d,hd,p⟩
      . rcases aT.1 q with q|q
        . exact .inl q
        . rw[aq.1 q];exact .inr ⟨x,by simp,.refl x⟩
      . exact .inr ⟨x,by simp,p.head hd⟩
    . by_cases q:y=x
      . subst q;exact h.roots r Fc
      . exact h.cl y hy (by simp[hn,q]) r Fc
    . rw[List.nodup_append];exact⟨J8,by simp,fun a ha b hb=>by rw[aq.1 hb];exact fun e=>hx (e▸ha)⟩
section
variable{es rt:ae}{k:Nat}
theorem Jq(he:∀d∈iH rt,Ends es k d):Spc es (iH rt) [] (pX es rt k):=DH (fun y ks=>M8 k y ks) (iH rt) [] he
theorem Jr(he:∀d∈iH rt,Ends es k d)(x:aa):x∈pX es rt k↔∃d∈iH rt,oV es d x:=by
 have h:=Jq he;constructor
 . intro hx;rcases h.pth x hx with q|q
   . cases q
   . exact q
 . rintro⟨d,hd,p⟩
   induction p with
   |refl=>exact h.roots _ hd
   |step _ hz ih=>exact h.cl _ ih (by simp) _ hz
end
def nmO(n:aa):Prop:=∃c:UInt8,n=[c]/\97<=c.toNat/\c.toNat<115
structure mw(s:RS):Prop where
 nd:(s.cs.map gH.dg).Nodup
 nm:∀c∈s.cs,c.dg=dM c.da c.rs/\c.da.length<=60/\c.rs.length<=3
 ref:∀(i:Nat) (c:gH),s.cs[i]? =some c->∀r∈c.rs,∃(j:Nat) (c':gH),j<i/\s.cs[j]? =some c'/\c'.dg=r
 TT:OU s.ro
 rv:∀p∈s.ro,nmO p.1/\∃c∈s.cs,c.dg=p.2
theorem mw.refs{s:RS}(h:mw s){i j:Nat}{c:gH}(hc:s.cs[j]? =some c):pF (nA s.cs i) c.dg=c.rs:=Fo (lQ h.nd hc)
theorem FD{es:ae}:∀{k:Nat} {x:aa},Ends es k x->Ends es (k+1) x
 |0,_,h=>h.elim
 |_+1,_,⟨h1,h2,h3⟩=>⟨h1,h2,fun r hr=>FD (h3 r hr)⟩
theorem M9{es:ae}{k m:Nat}{x:aa}(h:Ends es k x)(hm:k<=m):Ends es m x:=by
 induction m with
 |zero=>obtain rfl:k=0:=by omega
        exact h
 |succ m ih=>
  rcases bP k (m+1)with q|q
  . exact FD (ih be)
  . obtain rfl:k=m+1:=by omega
    exact h
theorem mw.ends{s:RS}(h:mw s):∀(j:Nat) (c:gH),s.cs[j]? =some c->Ends (nA s.cs 0) (j+1) c.dg:=by
 intro j
 induction j using Nat.strongRecOn with
 |_ j ih=>
  intro c hc;refine⟨⟨_,_,_,lQ h.nd hc⟩,?_,fun r hr=>?_⟩
  . rw[h.refs hc];have:=(h.nm c (aU hc)).2.2;omega
  . rw[h.refs hc]at hr;obtain⟨i,c',hi,o7,rfl⟩:=h.ref j c hc r hr;exact M9 (ih i hi c' o7) be
theorem DI(bs:List Bool)(i m:Nat)(b:Bool):(bs.set i b).getD m false=if m=i/\i<bs.length then b else bs.getD m false:=by
 rw[aN,aN,List.getElem?_set];by_cases h:m=i
 . subst h;by_cases q:m<bs.length
   . rw[aG rfl,aG q,aG ⟨rfl,q⟩];rfl
   . rw[aG rfl,aI q,aI (fun z=>q z.2),bR be]
 . rw[aI (fun z=>h z.symm),aI (fun z=>h z.1)]
theorem mw.Js{s:RS}(h:mw s){i j:Nat}{c c':gH}(hi:s.cs[i]? =some c)(hj:s.cs[j]? =some c')(e:c.dg=c'.dg):i=j:=by
 have a:=sG h.nd hi;have b:=sG h.nd hj;rw[e,b]at a;exact(Int.ofNat.inj a).symm
theorem SV{s:RS}(h:mw s){bs:List Bool}(hl:bs.length=s.cs.length)(r:aa){m:Nat}{c:gH}(hm:s.cs[m]? =some c):(jG s bs r).getD m false=true↔bs.getD m false=true\/c.dg=r:=by
 unfold jG;rcases AA s.cs r with q|⟨j,c',hj,rfl⟩
 . rw[aG ((qd h.nd).2 q)];exact⟨.inl,fun z=>z.elim id fun e=>absurd e (q c (aU hm))⟩
 . have Pa:j<s.cs.length:=(aF.1 hj).1;rw[aI (by rw[sG h.nd hj];omega),sG h.nd hj,DI];show(if m=j/\j<bs.length then true else bs.getD m false)=true↔_;by_cases q:m=j
   . subst q;rw[hm]at hj;cases hj;rw[aG ⟨rfl,be⟩];simp
   . rw[aI (fun z=>q z.1)];exact⟨.inl,fun z=>z.elim id fun e=>absurd (h.Js hm hj e) q⟩
theorem LJ(s:RS)(bs:List Bool)(r:aa):(jG s bs r).length=bs.length:=by
 unfold jG;split
 . rfl
 . rw[List.length_set]
theorem DJ{s:RS}(h:mw s){m:Nat}{c:gH}(hm:s.cs[m]? =some c):∀(l:List (aa)) (bs:List Bool),bs.length=s.cs.length->((l.foldl (jG s) bs).getD m false=true↔bs.getD m false=true\/c.dg∈l)/\(l.foldl (jG s) bs).length=s.cs.length
 | [],bs,hl=>⟨by simp,hl⟩
 |r::l,bs,hl=>by
  have ih:=DJ h hm l (jG s bs r) (by rw[LJ,hl]);refine⟨?_,ih.2⟩;show(l.foldl (jG s) (jG s bs r)).getD m false=true↔_;rw[ih.1,SV h hl r hm,aE,or_assoc]
def RI(s:RS)(m:Nat):Prop:=∃c,s.cs[m]? =some c/\∃p∈s.ro,oV (nA s.cs 0) p.2 c.dg
theorem LK{s:RS}(h:mw s){d x:aa}(p:oV (nA s.cs 0) d x):(∃c∈s.cs,c.dg=d)->∃c∈s.cs,c.dg=x:=by
 induction p with
 |refl=>exact id
 |step _ hz ih=>
  intro hd;obtain⟨c,hc,rfl⟩:=ih hd;obtain⟨j,hj⟩:=bz.1 hc;rw[h.refs hj]at hz;obtain⟨i,c',_,o7,e⟩:=h.ref j c hj _ hz;exact⟨c',aU o7,e⟩
theorem DK(ro:List (aa×aa))(c:gH):Eu ro c=true↔∃p∈ro,p.2=c.dg:=by
 unfold Eu;rw[List.any_eq_true];constructor
 . rintro⟨p,hp,e⟩;rw[fR]at e;exact⟨p,hp,beq_iff_eq.1 e⟩
 . rintro⟨p,hp,e⟩;exact⟨p,hp,by rw[fR];exact beq_iff_eq.2 e⟩
theorem He{s:RS}(h:mw s){m:Nat}{c:gH}(hm:s.cs[m]? =some c):RI s m↔Eu s.ro c=true\/∃(j:Nat) (c':gH),m<j/\s.cs[j]? =some c'/\c.dg∈c'.rs/\RI s j:=by
 rw[DK];constructor
 . rintro⟨c0,h0,p,hp,q⟩;rw[hm]at h0;cases h0;generalize hx:c.dg=x at q;cases q with
   |refl=>exact .inl ⟨p,hp,rfl⟩
   |step q hz=>
    subst hx;obtain⟨cy,hcy,rfl⟩:=LK h q (h.rv p hp).2;obtain⟨j,hj⟩:=bz.1 hcy;rw[h.refs hj]at hz;obtain⟨i,c',hi,o7,e⟩:=h.ref j cy hj _ hz;have:=h.Js o7 hm e;subst this;exact .inr ⟨j,cy,hi,hj,hz,cy,hj,p,hp,q⟩
 . rintro(⟨p,hp,e⟩|⟨j,c',_,hj,hr,c2,h2,p,hp,q⟩)
   . exact⟨c,hm,p,hp,e▸ .refl _⟩
   . rw[hj]at h2;cases h2;exact⟨c,hm,p,hp,.step q (by rw[h.refs hj];exact hr)⟩
def MkI(s:RS)(i:Nat)(bs:List Bool):Prop:=bs.length=s.cs.length/\∀(m:Nat) (c:gH),s.cs[m]? =some c->(bs.getD m false=true↔(i<=m/\RI s m)\/(m<i/\∃(j:Nat) (c':gH),i<=j/\s.cs[j]? =some c'/\c.dg∈c'.rs/\RI s j))
theorem SX{s:RS}(h:mw s){i:Nat}{bs:List Bool}{c:gH}(hc:s.cs[i]? =some c)(k:MkI s (i+1) bs):MkI s i (zw s bs i c):=by
 obtain⟨hl,hk⟩:=k;have PX:i<s.cs.length:=(aF.1 hc).1;have hI:(kV s bs i c).getD i false=true↔RI s i:=by
  unfold kV;rw[DI,aG ⟨rfl,be⟩,bU,hk i c hc,He h hc];constructor
  . rintro((⟨a,_⟩|⟨_,j,c',h1,h2⟩)|b)
    . omega
    . exact .inr ⟨j,c',be,h2⟩
    . exact .inl b
  . rintro(a|⟨j,c',h1,h2⟩)
    . exact .inr a
    . exact .inl (.inr ⟨be,j,c',be,h2⟩)
 have hlr:(kV s bs i c).length=s.cs.length:=by unfold kV;rw[List.length_set,hl]
 have hM:∀(m:Nat) (c0:gH),s.cs[m]? =some c0->m≠i->((kV s bs i c).getD m false=true↔bs.getD m false=true):=fun m c0 _ fN=>by
  unfold kV;rw[DI,aI (fun z=>fN z.1)]
 unfold zw;by_cases hr:(kV s bs i c).getD i false=true
 . rw[aG hr];have hRI:=hI.1 hr;refine⟨(DJ h hc c.rs _ hlr).2,fun m c0 hm=>?_⟩;rw[(DJ h hm c.rs _ hlr).1];by_cases q:m=i
   . subst q;exact⟨fun _=>.inl ⟨aA _,hRI⟩,fun _=>.inl hr⟩
   . rw[hM m c0 hm q,hk m c0 hm];constructor
     . rintro((⟨a,b⟩|⟨a,j,c',h1,h2⟩)|a)
       . exact .inl ⟨be,b⟩
       . exact .inr ⟨be,j,c',be,h2⟩
       . obtain⟨j,c',hj,o7,e⟩:=h.ref i c hc _ a;have:=h.Js o7 hm e;exact .inr ⟨be,i,c,aA _,hc,a,hRI⟩
     . rintro(⟨a,b⟩|⟨a,j,c',h1,h2,h3,h4⟩)
       . exact .inl (.inl ⟨be,b⟩)
       . by_cases z:j=i
         . subst z;rw[hc]at h2;cases h2;exact .inr h3
         . exact .inl (.inr ⟨be,j,c',be,h2,h3,h4⟩)
 . rw[aI hr];have hRI:¬RI s i:=fun z=>hr (hI.2 z);refine⟨hlr,fun m c0 hm=>?_⟩;by_cases q:m=i
   . subst q;exact⟨fun z=>absurd z hr,fun z=>by
      rcases z with⟨_,z⟩|⟨z,_⟩
      . exact absurd z hRI
      . omega⟩
   . rw[hM m c0 hm q,hk m c0 hm];constructor
     . rintro(⟨a,b⟩|⟨a,j,c',h1,h2⟩)
       . exact .inl ⟨be,b⟩
       . exact .inr ⟨be,j,c',be,h2⟩
     . rintro(⟨a,b⟩|⟨a,j,c',h1,h2,h3,h4⟩)
       . exact .inl ⟨be,b⟩
       . refine .inr ⟨be,j,c',?_,h2,h3,h4⟩;by_cases z:j=i
         . subst z;exact absurd h4 hRI
         . omega
theorem LL{s:RS}(h:mw s):∀(i:Nat) (bs:List Bool),i<=s.cs.length->MkI s i bs->MkI s 0 (Ss s i bs)
 |0,_,_,k=>k
 |i+1,bs,hi,k=>by
  have hc:s.cs[i]? =some (s.cs.getD i ⟨[],[],[]⟩):=by
   rw[aN,ay be];rfl
  exact LL h i _ be (SX h hc k)
theorem Bf{s:RS}(h:mw s){m:Nat}{c:gH}(hm:s.cs[m]? =some c):(eV s).getD m false=true↔RI s m:=by
 have k:MkI s s.cs.length (List.replicate s.cs.length false):=by
  refine⟨bK,fun m c hm=>?_⟩;have hl:m<s.cs.length:=(aF.1 hm).1;rw[aN,List.getElem?_replicate,aG hl];constructor
  . intro q;cases q
  . rintro(⟨a,_⟩|⟨_,j,c',h1,h2,_⟩)
    . omega
    . have:=(aF.1 h2).1;omega
 have:=(LL h _ _ (aA _) k).2 m c hm;rw[show eV s=Ss s s.cs.length (List.replicate s.cs.length false)from rfl,this];constructor
 . rintro(⟨_,a⟩|⟨a,_⟩)
   . exact a
   . omega
 . intro a;exact .inl ⟨be,a⟩
theorem w7{s:RS}(h:mw s):(eV s).length=s.cs.length:=by
 have k:MkI s s.cs.length (List.replicate s.cs.length false):=by
  refine⟨bK,fun m c hm=>?_⟩;have hl:m<s.cs.length:=(aF.1 hm).1;rw[aN,List.getElem?_replicate,aG hl];constructor
  . intro q;cases q
  . rintro(⟨a,_⟩|⟨_,j,c',h1,h2,_⟩)
    . omega
    . have:=(aF.1 h2).1;omega
 exact(LL h _ _ (aA _) k).1
def AB(s:RS):ju->RS
 | .chunk d rs=>⟨s.cs++[⟨dM d rs,d,rs⟩],s.ro⟩
 | .root n x=>⟨s.cs,lP n x (eG x []) s.ro⟩
def jB:RS:=⟨[],[]⟩
abbrev fW(l:List ju):RS:=l.foldl AB jB
def Wi(s:RS):ju->Prop
 | .chunk d rs=>d.length<=60/\rs.length<=3/\(∀r∈rs,0<=fU s.cs r)/\fU s.cs (dM d rs)<0
 | .root n x=>nmO n/\(x=[]\/0<=fU s.cs x)/\x≠gM n s.ro
section
variable{rt:ae}{s:RS}{r:ju}
theorem wf0:mw jB:=⟨List.nodup_nil,fun _ h=>(by cases h),fun _ _ h=>by simp[jB]at h,List.Pairwise.nil,fun _ h=>by cases h⟩
theorem mw.zD(h:mw s){c:gH}(hc:c∈s.cs):c.dg.length=32:=by rw[(h.nm c hc).1];rfl
theorem Wj(h:mw s)(a:Wi s r):mw (AB s r):=by
 cases r with
 |chunk d rs=>
  obtain⟨a1,a2,a3,a4⟩:=a;have a4:=(qd h.nd).1 a4;refine⟨?_,fun c hc=>?_,fun i c hc r hr=>?_,h.TT,fun p hp=>⟨(h.rv p hp).1,?_⟩⟩
  . show((s.cs++[(⟨dM d rs,d,rs⟩:gH)]).map gH.dg).Nodup;rw[aX,List.nodup_append];refine⟨h.nd,cg.2 ⟨by simp,List.nodup_nil⟩,fun x hx y hy e=>?_⟩;obtain⟨c,hc,rfl⟩:=bj.1 hx;rw[List.map_singleton,aq]at hy;exact a4 c hc (e.trans hy)
  . have hc:c∈s.cs++[⟨dM d rs,d,rs⟩]:=hc;rcases aT.1 hc with q|q
    . exact h.nm c q
    . obtain rfl:c=⟨dM d rs,d,rs⟩:=aq.1 q;exact⟨rfl,a1,a2⟩
  . have hc:(s.cs++[⟨dM d rs,d,rs⟩])[i]? =some c:=hc;show ∃(j:Nat) (c':gH),j<i/\(s.cs++[⟨dM d rs,d,rs⟩])[j]? =some c'/\c'.dg=r;rw[bT]at hc;split at hc
    . obtain⟨j,c',h1,h2,h3⟩:=h.ref i c hc r hr;exact⟨j,c',h1,by rw[bT,aG (aF.1 h2).1];exact h2,h3⟩
    . rename_i hi;have hcm:c=⟨dM d rs,d,rs⟩:=by
       have:=aU hc;exact aq.1 this
      subst hcm;obtain⟨j,c',h2,h3⟩:=(lR h.nd).1 (a3 r hr);have hj:=(aF.1 h2).1;exact⟨j,c',be,by rw[bT,aG hj];exact h2,h3⟩
  . obtain⟨c,hc,e⟩:=(h.rv p hp).2;exact⟨c,cJ _ hc,e⟩
 |root n x=>
  obtain⟨a1,a2,a3⟩:=a;refine⟨h.nd,h.nm,h.ref,DG h.TT fun _ _ _=>.inr trivial,fun p hp=>?_⟩;rcases nB.1 hp with⟨q,_⟩|⟨q,rfl⟩
  . exact h.rv p q
  . refine⟨a1,?_⟩;rcases a2 with rfl|a2
    . cases q
    . obtain⟨j,c,hj,e⟩:=(lR h.nd).1 a2;exact⟨c,aU hj,e⟩
theorem LM(h:mw s)(a:Wi s r):r.ok/\r.bytes.length<=180:=by
 cases r with
 |chunk d rs=>
  obtain⟨a1,a2,a3,a4⟩:=a;have h32:∀x∈rs,x.length=32:=fun x hx=>by
   obtain⟨j,c,hj,e⟩:=(lR h.nd).1 (a3 x hx);rw[<- e];exact h.zD (aU hj)
  refine⟨⟨be,be,h32⟩,?_⟩;have:=As d h32;show(gL d rs).length<=180;omega
 |root n x=>
  obtain⟨⟨k,rfl,_⟩,a2,a3⟩:=a;have hx:x.length<=32:=by
   rcases a2 with rfl|a2
   . simp
   . obtain⟨j,c,hj,e⟩:=(lR h.nd).1 a2;rw[<- e,h.zD (aU hj)];exact aA _
  have hn:[k].length=1:=rfl;refine⟨⟨be,be⟩,?_⟩;have:=(IG [k] x).2;show(kK [k] x).length<=180;omega
theorem tP(hr:D2 rt){n:aa}:n∈dJ rt↔∃v,di (.str n) rt=some v:=by
 induction rt with
 |nil=>exact⟨fun h=>(by cases h),fun⟨_,h⟩=>by cases h⟩
 |cons e rt ih=>
  obtain⟨k,d,rfl⟩:=hr e (by simp);have ih:=ih fun e he=>hr e (by simp[he]);rw[show dJ ((.str k,.str d)::rt)=k::dJ rt from rfl,aE,ih,gm];by_cases q:k=n
  . subst q;rw[aG rfl];exact⟨fun _=>⟨_,rfl⟩,fun _=>.inl rfl⟩
  . rw[aI (by intro z;simp only[D.str.injEq]at z;exact q z)];exact⟨fun z=>z.elim (fun z=>absurd z.symm q) id,.inr⟩
theorem SY(hr:D2 rt)(hn:(dJ rt).Nodup)(n m:aa):di (.str m) (lM (.str n) rt)=if m=n then none else di (.str m) rt:=by
 induction rt with
 |nil=>show none=_;split<;>rfl
 |cons e rt ih=>
  obtain⟨k,d,rfl⟩:=hr e (by simp);have pE:(k::dJ rt).Nodup:=hn;rw[cg]at pE;have Tz:D2 rt:=fun e he=>hr e (by simp[he]);rw[wq];by_cases q:k=n
  . subst q;rw[aG rfl];by_cases z:m=k
    . subst z;rw[aG rfl];cases h:di (.str m) rt with
      |none=>rfl
      |some v=>exact absurd ((tP Tz).2 ⟨v,h⟩) pE.1
    . rw[aI z,gm,aI (by intro y;simp only[D.str.injEq]at y;exact z y.symm)]
  . rw[aI (by intro y;simp only[D.str.injEq]at y;exact q y),gm,ih Tz pE.2];by_cases z:k=m
    . subst z;rw[aG rfl,gm,aG rfl,aI q]
    . have hz:¬(D.str k,D.str d).1=D.str m:=fun y=>z (by cases y;rfl);rw[aI hz,gm,aI hz]
theorem Na(hr:D2 rt)(n x:aa):D2 (ic (.str n) (.str x) rt):=by
 induction rt with
 |nil=>intro e he;exact⟨n,x,aq.1 he⟩
 |cons e rt ih=>
  have ih:=ih fun e he=>hr e (by simp[he]);rw[wo];split
  . intro a ha;rcases aE.1 ha with rfl|ha
    . exact⟨n,x,rfl⟩
    . exact hr a (by simp[ha])
  . intro a ha;rcases aE.1 ha with rfl|ha
    . exact hr _ (by simp)
    . exact ih a ha
theorem Wk(hr:D2 rt)(n:aa):D2 (lM (.str n) rt):=by
 induction rt with
 |nil=>exact hr
 |cons e rt ih=>
  have ih:=ih fun e he=>hr e (by simp[he]);rw[wq];split
  . exact fun a ha=>hr a (by simp[ha])
  . intro a ha;rcases aE.1 ha with rfl|ha
    . exact hr _ (by simp)
    . exact ih a ha
theorem SZ(hr:D2 rt){n:aa}{x:aa}{m:aa}:m∈dJ (ic (.str n) (.str x) rt)->m=n\/m∈dJ rt:=by
 intro h;obtain⟨v,hv⟩:=(tP (Na hr n x)).1 h;rw[Dg]at hv;by_cases q:m=n
 . exact .inl q
 . rw[aI q]at hv;exact .inr ((tP hr).2 ⟨v,hv⟩)
theorem abE(hr:D2 rt)(hn:(dJ rt).Nodup)(n x:aa):(dJ (ic (.str n) (.str x) rt)).Nodup:=by
 induction rt with
 |nil=>exact cg.2 ⟨by simp,List.nodup_nil⟩
 |cons e rt ih=>
  obtain⟨k,d,rfl⟩:=hr e (by simp);have Tz:D2 rt:=fun e he=>hr e (by simp[he]);have pE:(k::dJ rt).Nodup:=hn;rw[cg]at pE;have ih:=ih Tz pE.2;rw[wo];split
  . rename_i q;simp only[D.str.injEq]at q;subst q;exact cg.2 pE
  . rename_i q;refine cg.2 ⟨fun z=>?_,ih⟩;rcases SZ Tz z with z|z
    . exact q (by show D.str k=D.str n;rw[show k=n from z])
    . exact pE.1 z
theorem S0(hr:D2 rt){n m:aa}:m∈dJ (lM (.str n) rt)->m∈dJ rt:=by
 induction rt with
 |nil=>exact id
 |cons e rt ih=>
  obtain⟨k,d,rfl⟩:=hr e (by simp);have ih:=ih fun e he=>hr e (by simp[he]);rw[wq];split
  . intro z;exact aJ _ z
  . intro z;rcases aE.1 z with z|z
    . rw[z];exact aP ..
    . exact aJ _ (ih z)
theorem abF(hr:D2 rt)(hn:(dJ rt).Nodup)(n:aa):(dJ (lM (.str n) rt)).Nodup:=by
 induction rt with
 |nil=>exact hn
 |cons e rt ih=>
  obtain⟨k,d,rfl⟩:=hr e (by simp);have Tz:D2 rt:=fun e he=>hr e (by simp[he]);have pE:(k::dJ rt).Nodup:=hn;rw[cg]at pE;have ih:=ih Tz pE.2;rw[wq];split
  . exact pE.2
  . exact cg.2 ⟨fun z=>pE.1 (S0 Tz z),ih⟩
end
structure D4(L:LS)(s:RS):Prop where
 nx:L.nx=(s.cs.length:Int)
 es:L.es=nA s.cs 0
 key:D2 L.rt
 knd:(dJ L.rt).Nodup
 lk:∀n,di (.str n) L.rt=if gM n s.ro=[]then none else some (.str (gM n s.ro))
theorem abG:D4 ls0 jB:=⟨rfl,rfl,fun _ h=>(by cases h),List.nodup_nil,fun _=>rfl⟩
theorem S1{L:LS}{s:RS}{r:ju}(h:mw s)(hl:s.cs.length<=1000000)(g:D4 L s)(a:Wi s r):D4 (BO L r) (AB s r):=by
 obtain⟨nx,es,rt⟩:=L;obtain⟨g1,g2,g3,g4,g5⟩:=g;have g1:nx=(s.cs.length:Int):=g1;have g2:es=nA s.cs 0:=g2;subst g1 g2;cases r with
 |chunk d rs=>
  obtain⟨a1,a2,a3,a4⟩:=a;refine⟨?_,?_,g3,g4,g5⟩
  . show IntKind.i64.wrap ((s.cs.length:Int)+1)=((s.cs++[_]).length:Int);rw[fH be be,ax];rfl
  . show ic (.str (dM d rs)) (pW d rs (s.cs.length:Int)) (nA s.cs 0)=nA (s.cs++[⟨dM d rs,d,rs⟩]) 0;rw[vu _ (qc ((qd h.nd).1 a4)),Jm,bI];rfl
 |root n x=>
  obtain⟨a1,a2,a3⟩:=a;show D4 ⟨_,_,if x=[]then lM (.str n) rt else ic (.str n) (.str x) rt⟩ ⟨s.cs,lP n x (eG x []) s.ro⟩;by_cases hx:x=[]
  . rw[aG hx];refine⟨rfl,rfl,Wk g3 n,abF g3 g4 n,fun m=>?_⟩;show di (.str m) (lM (.str n) rt)=if gM m (lP n x (eG x []) s.ro)=[]then none else some (.str (gM m (lP n x (eG x []) s.ro)))
    rw[SY g3 g4,FC h.TT];by_cases q:m=n
    . rw[aG q,aG q,aG hx]
    . rw[aI q,aI q];exact g5 m
  . rw[aI hx];refine⟨rfl,rfl,Na g3 n x,abE g3 g4 n x,fun m=>?_⟩;show di (.str m) (ic (.str n) (.str x) rt)=if gM m (lP n x (eG x []) s.ro)=[]then none else some (.str (gM m (lP n x (eG x []) s.ro)))
    rw[Dg,FC h.TT];by_cases q:m=n
    . rw[aG q,aG q,aI hx]
    . rw[aI q,aI q];exact g5 m
def Nb:RS->List ju->Prop
 |_,[]=>True
 |s,r::l=>Wi s r/\Nb (AB s r) l
theorem BT:∀{a:List ju} {s:RS} {b:List ju},Nb s (a++b)↔Nb s a/\Nb (a.foldl AB s) b
 | [],s,b=>⟨fun h=>⟨trivial,h⟩,fun h=>h.2⟩
 |r::a,s,b=>by
  show Wi s r/\Nb (AB s r) (a++b)↔(Wi s r/\Nb (AB s r) a)/\_;rw[BT];exact and_assoc.symm
theorem Wl(s:RS)(r:ju):(AB s r).cs.length<=s.cs.length+1:=by
 cases r with
 |chunk d rs=>show(s.cs++[_]).length<=_;rw[ax];exact aA _
 |root n x=>exact Nat.le_succ _
theorem BU:∀{l:List ju} {s:RS} {L:LS},Nb s l->mw s->D4 L s->s.cs.length+l.length<=1000000->mw (l.foldl AB s)/\D4 (l.foldl BO L) (l.foldl AB s)/\(l.foldl AB s).cs.length<=s.cs.length+l.length/\(∀r∈l,r.ok)/\(cZ l).length<=180*l.length
 | [],s,L,_,h,g,_=>⟨h,g,aA _,fun _ h=>(by cases h),aZ _⟩
 |r::l,s,L,v,h,g,hl=>by
  have hb:=Wl s r;rw[aS]at hl ⊢;obtain⟨h1,h2,h3,h4,h5⟩:=BU (l:=l) (s:=AB s r) (L:=BO L r) v.2 (Wj h v.1) (S1 h be g v.1) be;have ok:=LM h v.1;refine⟨h1,h2,?_,fun x hx=>?_,?_⟩
  . show(l.foldl AB (AB s r)).cs.length<=_;omega
  . rcases aE.1 hx with rfl|hx
    . exact ok.1
    . exact h4 x hx
  . have:cZ (r::l)=r.bytes++cZ l:=rfl;rw[this,ax];omega
theorem BV{α:Type}[DecidableEq α]:∀{a b:List α},a.Nodup->b.Nodup->(∀x,x∈a↔x∈b)->List.Perm a b
 | [],b,_,_,h=>by
   cases b with
   |nil=>exact .nil
   |cons y b=>exact absurd ((h y).2 (by simp)) (by simp)
 |x::a,b,ha,hb,h=>by
  have hx:x∈b:=(h x).1 (by simp);rw[cg]at ha;refine(List.Perm.cons x (BV ha.2 (hb.erase x) fun y=>?_)).trans (List.perm_cons_erase hx).symm;rw[hb.mem_erase_iff];constructor
  . intro hy;exact⟨fun e=>ha.1 (e▸hy),(h y).1 (by simp[hy])⟩
  . rintro⟨h1,h2⟩;rcases aE.1 ((h y).2 h2)with q|q
    . exact absurd q h1
    . exact q
section
variable{L:LS}{rt:ae}{s:RS}
theorem mw.wE(h:mw s){p:aa×aa}(hp:p∈s.ro):p.2≠[]:=fun e=>by
 obtain⟨c,hc,q⟩:=(h.rv p hp).2;have:=h.zD hc;rw[q,e]at this;cases this
theorem tQ(h:mw s){p:aa×aa}(hp:p∈s.ro):gM p.1 s.ro=p.2:=wD h.TT hp
theorem S2(h:mw s)(g:D4 L s)(n:aa):n∈dJ L.rt↔n∈s.ro.map Prod.fst:=by
 rw[tP g.key,g.lk n];constructor
 . rintro⟨v,hv⟩;split at hv
   . cases hv
   . rename_i fN;rcases rq n s.ro with⟨q,_⟩|q
     . exact absurd q fN
     . exact bj.2 ⟨_,q,rfl⟩
 . intro hn;obtain⟨p,hp,rfl⟩:=bj.1 hn;rw[tQ h hp,aI (h.wE hp)];exact⟨_,rfl⟩
theorem abH{l:List (aa×aa)}(h:OU l):(l.map Prod.fst).Nodup:=List.Pairwise.imp (fun {a b} (q:a<b)=>fun(e:a=b)=>wC b (by rw[e]at q;exact q)) h
theorem Jt(h:mw s)(g:D4 L s):List.Perm (dJ L.rt) (s.ro.map Prod.fst):=BV g.knd (abH h.TT) (S2 h g)
theorem zE(h:mw s)(g:D4 L s):iO (dJ L.rt)=s.ro.map Prod.fst:=
 List.Perm.eq_of_pairwise (le:=(. <=·)) (fun _ _ _ _ h k=>I2 h k) (xT _) (h.TT.imp fun q=>List.le_of_lt q) ((tK _).trans (Jt h g))
theorem vE(h:mw s)(g:D4 L s):L.rt.length=s.ro.length:=by
 have:=(Jt h g).length_eq;rw[aY]at this;rw[<- this];unfold dJ;rw[aY]
theorem CI(hr:D2 rt)(hn:(dJ rt).Nodup){n d:aa}(h:(D.str n,D.str d)∈rt):di (.str n) rt=some (.str d):=by
 induction rt with
 |nil=>cases h
 |cons e rt ih=>
  obtain⟨k,v,rfl⟩:=hr e (by simp);have pE:(k::dJ rt).Nodup:=hn;rw[cg]at pE;rw[gm];rcases aE.1 h with q|q
  . simp only[aB,D.str.injEq]at q;rw[aG (by rw[q.1]),q.2]
  . rw[aI fun z=>pE.1 ?_]
    . exact ih (fun e he=>hr e (by simp[he])) pE.2 q
    . have z:D.str k=D.str n:=z;simp only[D.str.injEq]at z;rw[z];exact bj.2 ⟨_,q,rfl⟩
theorem OV(hr:D2 rt){n:aa}{v:D}(h:di (.str n) rt=some v):∃d,v= .str d/\(D.str n,D.str d)∈rt:=by
 induction rt with
 |nil=>cases h
 |cons e rt ih=>
  obtain⟨k,d,rfl⟩:=hr e (by simp);rw[gm]at h;split at h
  . rename_i q;have q:D.str k=D.str n:=q;simp only[D.str.injEq]at q;simp only[an]at h;subst q;subst h;exact⟨d,rfl,by simp⟩
  . obtain⟨d',h1,h2⟩:=ih (fun e he=>hr e (by simp[he])) h;exact⟨d',h1,by simp[h2]⟩
theorem vF(h:mw s)(g:D4 L s)(d:aa):d∈iH L.rt↔∃p∈s.ro,p.2=d:=by
 constructor
 . intro hd;obtain⟨e,he,q⟩:=bj.1 hd;obtain⟨n,x,rfl⟩:=g.key e he;have q:x=d:=q;subst q;have hl:=CI g.key g.knd he;rw[g.lk n]at hl;split at hl
   . cases hl
   . rename_i fN;simp only[an,D.str.injEq]at hl;rcases rq n s.ro with⟨q,_⟩|q
     . exact absurd q fN
     . exact⟨_,q,hl⟩
 . rintro⟨p,hp,rfl⟩;have hl:=g.lk p.1;rw[tQ h hp,aI (h.wE hp)]at hl;obtain⟨d,h1,h2⟩:=OV g.key hl;simp only[D.str.injEq]at h1;rw[h1];exact bj.2 ⟨_,h2,rfl⟩
theorem vG(h:mw s)(g:D4 L s):∀d∈iH L.rt,Ends L.es (s.cs.length+1) d:=fun d hd=>by
 obtain⟨p,hp,rfl⟩:=(vF h g d).1 hd;obtain⟨c,hc,e⟩:=(h.rv p hp).2;obtain⟨j,hj⟩:=bz.1 hc;rw[<- e,g.es];exact M9 (h.ends j c hj) (by have:=(aF.1 hj).1;omega)
theorem S3(h:mw s)(g:D4 L s){m:Nat}{c:gH}(hm:s.cs[m]? =some c):(eV s).getD m false=decide (c.dg∈pX L.es L.rt (s.cs.length+1)):=by
 have hi:(eV s).getD m false=true↔c.dg∈pX L.es L.rt (s.cs.length+1):=by
  rw[Bf h hm,Jr (vG h g),g.es];constructor
  . rintro⟨c',h1,p,hp,q⟩;rw[hm]at h1;cases h1;exact⟨p.2,(vF h g _).2 ⟨p,hp,rfl⟩,q⟩
  . rintro⟨d,hd,q⟩;obtain⟨p,hp,rfl⟩:=(vF h g d).1 hd;exact⟨c,hm,p,hp,q⟩
 by_cases q:c.dg∈pX L.es L.rt (s.cs.length+1)
 . rw[bM q,hi.2 q]
 . rw[bD q];cases z:(eV s).getD m false with
   |false=>rfl
   |true=>exact absurd (hi.1 z) q
end
theorem sH:∀(cs:List gH) (bs:List Bool) (i:Nat) (c:gH),(jH cs bs)[i]? =some c->∃m,cs[m]? =some c/\bs[m]? =some true/\∀(j:Nat) (c':gH),j<m->cs[j]? =some c'->bs[j]? =some true->∃i',i'<i/\(jH cs bs)[i']? =some c'
 | [],_,i,c,h=>by simp[jH]at h
 |_::_,[],i,c,h=>by simp[jH]at h
 |a::cs,b::bs,i,c,h=>by
  unfold jH at h ⊢;cases b with
  |true=>
   rw[aG rfl]at h ⊢;cases i with
   |zero=>
    simp only[bG,an]at h;exact⟨0,by simp[h],rfl,fun j c' hj=>absurd hj (Nat.not_lt_zero j)⟩
   |succ i=>
    simp only[cA]at h;obtain⟨m,h1,h2,h3⟩:=sH cs bs i c h;refine⟨m+1,by simpa using h1,by simpa using h2,fun j c' hj hc hb=>?_⟩;cases j with
    |zero=>
     simp only[bG,an]at hc;exact⟨0,be,by simp[hc]⟩
    |succ j=>
     obtain⟨i',k1,k2⟩:=h3 j c' be (by simpa using hc) (by simpa using hb);exact⟨i'+1,be,by simpa using k2⟩
  |false=>
   rw[aI dU]at h ⊢;obtain⟨m,h1,h2,h3⟩:=sH cs bs i c h;refine⟨m+1,by simpa using h1,by simpa using h2,fun j c' hj hc hb=>?_⟩;cases j with
   |zero=>simp at hb
   |succ j=>exact h3 j c' be (by simpa using hc) (by simpa using hb)
theorem AD:∀{cs:List gH} {bs:List Bool} {m:Nat} {c:gH},cs[m]? =some c->bs[m]? =some true->c∈jH cs bs
 | [],_,_,_,h,_=>by simp at h
 |_::_,[],_,_,_,h=>by simp at h
 |a::cs,b::bs,0,c,h1,h2=>by
  simp only[bG,an]at h1 h2;subst h1 h2;unfold jH;rw[aG rfl];simp
 |a::cs,b::bs,m+1,c,h1,h2=>by
  simp only[cA]at h1 h2;have:=AD h1 h2;unfold jH;split
  . simp[this]
  . exact this
theorem mS:∀(cs:List gH) (bs:List Bool),List.Sublist (jH cs bs) cs
 | [],_=>by unfold jH;exact List.Sublist.refl _
 |_::_,[]=>by unfold jH;exact List.nil_sublist _
 |a::cs,b::bs=>by
  unfold jH;split
  . exact(mS cs bs).cons_cons a
  . exact(mS cs bs).cons a
theorem kept{s:RS}(h:mw s){m:Nat}{c:gH}(hm:s.cs[m]? =some c):(eV s)[m]? =some true↔RI s m:=by
 rw[<- Bf h hm,aN];cases(eV s)[m]? with
 |none=>simp
 |some b=>simp
theorem zF{s:RS}(h:mw s):mw (eS s):=by
 have tc:List.Sublist (eS s).cs s.cs:=mS _ _;refine⟨h.nd.sublist (tc.map _),fun c hc=>h.nm c (tc.subset hc),fun i c hc r hr=>?_,h.TT,fun p hp=>⟨(h.rv p hp).1,?_⟩⟩
 . obtain⟨m,h1,h2,h3⟩:=sH s.cs (eV s) i c hc;obtain⟨j,c',hj,o7,rfl⟩:=h.ref m c h1 r hr;have hm:=(kept h h1).1 h2;have hjr:RI s j:=(He h o7).2 (.inr ⟨m,c,hj,h1,hr,hm⟩);obtain⟨i',k1,k2⟩:=h3 j c' hj o7 ((kept h o7).2 hjr);exact⟨i',c',k1,k2,rfl⟩
 . obtain⟨c,hc,e⟩:=(h.rv p hp).2;obtain⟨j,hj⟩:=bz.1 hc;exact⟨c,AD hj ((kept h hj).2 ((He h hj).2 (.inl ((DK _ _).2 ⟨p,hp,e.symm⟩)))),e⟩
def jf(t:RS):List ju:=t.cs.map (fun c=>.chunk c.da c.rs)++t.ro.map fun p=>.root p.1 p.2
theorem Ju{n x:aa}:∀{l:List (aa×aa)},(∀p∈l,p.1<n)->lP n x false l=l++[(n,x)]
 | [],_=>rfl
 |p::l,h=>by
  have hp:=h p (by simp);have hl:yc n p.1=false:=by
   cases q:yc n p.1 with
   |false=>rfl
   |true=>exact absurd (FB hp (BS.2 q)) (wC _)
  have fN:¬p.1=n:=fun e=>wC n (by rw[e]at hp;exact hp);unfold lP;rw[hl,aI (by simp),aI fN,Bool.or_false,Ju fun q hq=>h q (by simp[hq])];rfl
theorem DL{t:RS}(h:mw t):∀(post pre:List gH),t.cs=pre++post->Nb ⟨pre,[]⟩ (post.map fun c=>.chunk c.da c.rs)/\(post.map fun c=>ju.chunk c.da c.rs).foldl AB ⟨pre,[]⟩=⟨t.cs,[]⟩
 | [],pre,e=>⟨trivial,by rw[e,cu];rfl⟩
 |c::post,pre,e=>by
  have hc:t.cs[pre.length]? =some c:=by rw[e,cj (aA _),Nat.sub_self];rfl
  obtain⟨DW,xl,Kk⟩:=h.nm c (aU hc);have J8:(pre.map gH.dg).Nodup:=by
   have:=h.nd;rw[e,aX]at this;exact(List.nodup_append.1 this).1
  have step:AB ⟨pre,[]⟩ (.chunk c.da c.rs)=⟨pre++[c],[]⟩:=by
   show RS.mk (pre++[⟨dM c.da c.rs,c.da,c.rs⟩]) []=_;rw[<- DW]
  have ih:=DL h post (pre++[c]) (by rw[e,bB];rfl);rw[<- step]at ih;refine⟨⟨⟨xl,Kk,fun r hr=>?_,?_⟩,ih.1⟩,ih.2⟩
  . obtain⟨j,c',hj,o7,q⟩:=h.ref _ c hc r hr;rw[e,bT,aG hj]at o7;exact(lR J8).2 ⟨j,c',o7,q⟩
  . refine(qd J8).2 fun c' o7 q=>?_;rw[<- DW]at q;obtain⟨j,hj⟩:=bz.1 o7;have Pa:=(aF.1 hj).1;have:t.cs[j]? =some c':=by rw[e,bT,aG Pa];exact hj
    have:=h.Js this hc q;omega
theorem FE{t:RS}(h:mw t):∀(post pre:List (aa×aa)),t.ro=pre++post->Nb ⟨t.cs,pre⟩ (post.map fun p=>.root p.1 p.2)/\(post.map fun p=>ju.root p.1 p.2).foldl AB ⟨t.cs,pre⟩=t
 | [],pre,e=>⟨trivial,by show RS.mk t.cs pre=t;rw[cu]at e;rw[<- e]⟩
 |p::post,pre,e=>by
  have hp:p∈t.ro:=by rw[e];simp
  have fF:∀q∈pre,q.1<p.1:=fun q hq=>by
   have:=h.TT;unfold OU at this;rw[e,aX,bN,List.pairwise_append]at this;exact this.2.2 _ (bj.2 ⟨q,hq,rfl⟩) _ (by simp)
  have fN:=h.wE hp;have hb:eG p.2 []=false:=by rw[fR];exact beq_eq_false_iff_ne.2 fN
  have step:AB ⟨t.cs,pre⟩ (.root p.1 p.2)=⟨t.cs,pre++[p]⟩:=by
   show RS.mk t.cs (lP p.1 p.2 (eG p.2 []) pre)=_;rw[hb,Ju fF]
  have ih:=FE h post (pre++[p]) (by rw[e,bB];rfl);rw[<- step]at ih;refine⟨⟨⟨(h.rv p hp).1,.inr ?_,?_⟩,ih.1⟩,ih.2⟩
  . obtain⟨c,hc,q⟩:=(h.rv p hp).2;obtain⟨j,hj⟩:=bz.1 hc;exact(lR h.nd).2 ⟨j,c,hj,q⟩
  . show p.2≠gM p.1 pre;rw[zC fun q hq z=>wC p.1 (by have:=fF q hq;rw[z]at this;exact this)];exact fN
theorem S4{t:RS}(h:mw t):Nb jB (jf t)/\fW (jf t)=t:=by
 obtain⟨a1,a2⟩:=DL h t.cs [] rfl;obtain⟨b1,b2⟩:=FE h t.ro [] rfl;unfold jf;refine⟨BT.2 ⟨a1,?_⟩,?_⟩
 . show Nb (List.foldl AB ⟨[],[]⟩ _) _;rw[a2];exact b1
 . show List.foldl AB ⟨[],[]⟩ _=t;rw[List.foldl_append,a2];exact b2
theorem S5(s:aa)(a:Nat):∀(m i:Nat) (u:Int),(∀j,i<=j->j<i+m->128<=(s.getD (a+j) 0).toNat)->Ov s a m i u=none
 |0,_,_,_=>rfl
 |m+1,i,u,h=>by
  unfold Ov;rw[aG (h i (aA _) be)];exact S5 s a m (i+1) _ fun j h1 h2=>h j be be
theorem Nc:∀(k u j:Nat),u<128^(k+1)->j+1<(oq k (u:Int)).length->128<=((eN (oq k (u:Int))).getD j 0).toNat
 |0,u,j,_,hj=>by simp[oq]at hj
 |k+1,u,j,hu,hj=>by
  unfold oq at hj ⊢;by_cases h:(128:Int)<=(u:Int)
  . rw[aG h]at hj ⊢;rw[Di]at hj ⊢;cases j with
    |zero=>
     show 128<=(UInt8.ofNat (TK (u:Int)).toNat).toNat;rw[MF,u8I be];omega
    |succ j=>
     have hu2:u/128<128^(k+1):=by
      rw[Nat.pow_succ]at hu;exact Nat.div_lt_of_lt_mul (by rw[Nat.mul_comm];exact hu)
     have:=Nc k (u/128) j hu2 (by rw[aS]at hj;omega);exact this
  . rw[aI h]at hj;simp at hj
theorem Jv{s:aa}{a:Nat}{n:Int}(h:((s.length-a:Nat):Int)<n):qO s a false n=([],a,true):=by
 unfold qO;rw[aG (.inr (.inr h))]
theorem Jw(s:aa)(a:Nat)(n:Int):qO s a true n=([],a,true):=by
 unfold qO;rw[aG (.inl rfl)]
theorem Jx(s:aa)(a k:Nat):(ya s a true k).2.2=true:=by
 unfold ya;rw[Jw]
theorem S6{lg:aa}{a:Nat}{t x y:aa}(ht:t.length<34359738368)(hx:lg.drop a=x)(hy:y≠[])(hp:nw t=x++y)(ha:a<=lg.length):Stop lg a:=by
 have iS:lg.length-a=x.length:=by rw[<- hx,bX]
 have hyl:0<y.length:=List.length_pos_iff.2 hy;have TI:=aM List.length hp;have hv:=mj (Int.ofNat t.length);have hvl:(jo (Int.ofNat t.length)).length=(oq 4 (t.length:Int)).length:=uN _;have x8:nw t=jo (Int.ofNat t.length)++(t++dN (IntKind.i64.wrap (qH t))):=by unfold nw jt;rw[bB]
 have h4:(dN (IntKind.i64.wrap (qH t))).length=4:=rfl;rw[x8,ax,ax,ax,h4]at TI;rw[x8]at hp;have hxp:x=(jo (Int.ofNat t.length)++(t++dN (IntKind.i64.wrap (qH t)))).take x.length:=by rw[hp,bW (aA _),aW]
 refine .inr (.inl ?_);by_cases c1:x.length<(jo (Int.ofNat t.length)).length
 ·
  have hr:wX lg a=none:=by
   unfold wX;refine S5 lg a _ 0 0 fun j _ hj=>?_;have hj:j<x.length:=by unfold wW at hj;omega
   have e1:lg.getD (a+j) 0=(eN (oq 4 (t.length:Int))).getD j 0:=by
    rw[aN,<- bH,hx,hxp,bO,aG hj,bT,aG be,aN];rfl
   rw[e1];exact Nc 4 t.length j be be
  have e2:iA lg a false=(0,a,true):=by unfold iA Pg;rw[hr];rfl
  have e3:hU lg a false=([],a,true):=by unfold hU;rw[e2];simp only[Jw];rfl
  rw[e3];exact Jx _ _ _
 ·
  obtain⟨z,hz⟩:∃z,x=jo (Int.ofNat t.length)++z:=by
   refine⟨(t++dN (IntKind.i64.wrap (qH t))).take (x.length-(jo (Int.ofNat t.length)).length),?_⟩;rw[List.take_append]at hxp;rw[br be]at hxp;exact hxp
  have hd:lg.drop a=jo (Int.ofNat t.length)++z:=by rw[hx,hz]
  have e1:=GU ht hd;have e2:iA lg a false=((t.length:Int),a+(jo (Int.ofNat t.length)).length,false):=by unfold iA;rw[aI dU];exact e1
  have TC:x.length=(jo (Int.ofNat t.length)).length+z.length:=by rw[hz,ax]
  have uZ:lg.length-(a+(jo (Int.ofNat t.length)).length)=z.length:=by omega
  by_cases c2:z.length<t.length
  . have e3:hU lg a false=([],a,true):=by
     unfold hU;rw[e2];simp only[Jv (s:=lg) (a:=a+(jo (Int.ofNat t.length)).length) (n:=(t.length:Int)) (by rw[uZ];omega)];rfl
    rw[e3];exact Jx _ _ _
  . obtain⟨u,hu⟩:∃u,z=t++u:=by
     have:z++y=t++dN (IntKind.i64.wrap (qH t)):=by
      rw[hz,bB]at hp;exact(List.append_cancel_left hp).symm
     refine⟨z.drop t.length,?_⟩;have h1:=aM (List.take t.length) this;rw[bW be,bW (aA _),aW]at h1
     conv=>lhs;rw[<- ck t.length z,h1]
    have Ge:lg.drop a=jt t++u:=by unfold jt;rw[hd,hu,bB]
    have e3:=zg ht Ge;rw[e3];have htl:(jt t).length=(jo (Int.ofNat t.length)).length+t.length:=by unfold jt;rw[ax]
    have Hj:z.length=t.length+u.length:=by rw[hu,ax]
    show(ya lg (a+(jt t).length) false 4).2.2=true;unfold ya;rw[Jv (by rw[show(Int.ofNat 4:Int)=((4:Nat):Int)from rfl];omega)]
theorem jh(r:ju)(l:List ju):cZ (r::l)=r.bytes++cZ l:=rfl
theorem Jy:∀(cT:List ju) (cut:Nat),cut<=(cZ cT).length->∃(j:Nat) (x:aa),j<=cT.length/\(cZ cT).take cut=cZ (cT.take j)++x/\
  (x=[]\/∃r∈cT,∃y,y≠[]/\r.bytes=x++y)/\(∀i,i<=cT.length->(cZ (cT.take i)).length<=cut->i<=j)/\(cZ (cT.take j)).length<=cut
 | [],cut,_=>⟨0,[],aA _,by simp[cZ],.inl rfl,fun i hi _=>hi,aZ _⟩
 |r::cT,cut,h=>by
  rw[jh,ax]at h;by_cases c:r.bytes.length<=cut
  . obtain⟨j,x,h1,h2,h3,h4,h5⟩:=Jy cT (cut-r.bytes.length) be;refine⟨j+1,x,by rw[aS];omega,?_,?_,fun i hi hb=>?_,?_⟩
    . rw[jh,List.take_succ_cons,jh,List.take_append,br c,h2,bB]
    . rcases h3 with h3|⟨q,hq,y,hy⟩
      . exact .inl h3
      . exact .inr ⟨q,by simp[hq],y,hy⟩
    . cases i with
      |zero=>exact aZ _
      |succ i=>
       rw[List.take_succ_cons,jh,ax]at hb;have:=h4 i (by rw[aS]at hi;omega) be;omega
    . rw[List.take_succ_cons,jh,ax];omega
  . refine⟨0,r.bytes.take cut,aZ _,?_,.inr ⟨r,by simp,r.bytes.drop cut,?_,(ck _ _).symm⟩,fun i hi hb=>?_,aZ _⟩
    . rw[jh,bW be];rfl
    . intro e;have:=aM List.length e;rw[bX]at this;simp at this;omega
    . cases i with
      |zero=>exact aA _
      |succ i=>rw[List.take_succ_cons,jh,ax]at hb;omega
theorem S7{cT:List ju}(iD:∀r∈cT,r.ok){cut:Nat}(h:cut<=(cZ cT).length):∃(j:Nat) (x:aa),j<=cT.length/\(cZ cT).take cut=cZ (cT.take j)++x/\
  Stop ((cZ cT).take cut) (cZ (cT.take j)).length/\(∀i,i<=cT.length->(cZ (cT.take i)).length<=cut->i<=j)/\(cZ (cT.take j)).length<=cut:=by
 obtain⟨j,x,h1,h2,h3,h4,h5⟩:=Jy cT cut h;refine⟨j,x,h1,h2,?_,h4,h5⟩;have hd:((cZ cT).take cut).drop (cZ (cT.take j)).length=x:=by rw[h2,List.drop_left'];rfl
 rcases h3 with rfl|⟨r,hr,y,hy,hb⟩
 . left;rw[h2,cu]
 . refine S6 (t:=r.body) (by have:=ju.Dk (iD r hr);omega) hd hy hb ?_;rw[h2,ax];omega
theorem vH(cT:List ju):∀{i j:Nat},i<=j->(cZ (cT.take i)).length<=(cZ (cT.take j)).length:=fun {i j} h=>by
 have:cT.take i=(cT.take j).take i:=by rw[List.take_take,Nat.min_eq_left h]
 rw[this];exact Av i
noncomputable abbrev Wm:Code:=dP Tryz.f31
section
variable(cO cP:Nat)(b:aa)(fl nx lf:Int)(es rt:ae)(o:af)
def lQx:af:=eO (pS cO cP b fl nx lf es rt)++o
def S8(m:Nat)(e1 r1:ae):af:=[(0,.ints .u32 gS),(1,.ints .u32 gR),(3,.cells [.dj (some (4,0)) cO cP 1,.int .i64 fl,.map (some m),.map (some (m+1)),.int .i64 nx,.bool false,.bool false,.int .i64 lf]),(4,.iU 5 false b),(5,.dF none es),(6,.dF none rt)]++o++[(m,.dF none e1),(m+1,.dF none r1)]
def Wn(fl nx lf:Int):af:=eO (pN fl nx lf [] [])++o
def OW(m:Nat)(lf:Int):af:=[(0,.ints .u32 gS),(1,.ints .u32 gR),(3,.cells [eI,.int .i64 0,.map (some m),.map (some (m+1)),.int .i64 0,.bool false,.bool false,.int .i64 lf]),(5,.dF none []),(6,.dF none [])]++o++[(m,.dF none []),(m+1,.dF none [])]
end
theorem aoY(cO cP cut:Nat)(b:aa)(fl nx lf:Int)(es rt:ae)(kk:Int)(t0 c2:Nat)(I3:Int)(e1 r1:ae):vt ak (fD gu 57 [P3] (hL (lQx cut cP b fl nx lf es rt [(7,.cells [.int .i64 kk])])) 35 (.ew [],hL (S8 c2 cP b (Int.ofNat c2) I3 lf es rt [(7,.cells [.int .i64 kk])] 35 e1 r1),37)) [(13,.dc (iW t0)),(36,.dc (iW cut))] 1000 8 Tryz.f31 (Wm) (cS [P3,.dj (some (7,0)) 1 1 1] (hL (lQx cO cP b fl nx lf es rt [(7,.cells [.int .i64 kk])])) 8)
  [([],
   [((0:Int)<=(0:Int)/\(0:Int)<(1:Int)),(V.int aj (IntKind.i64.wrap (Int.ofNat (BitVec.ofInt 64 kk&&&BitVec.ofInt 64 (255:Int)).toNat))=iW t0),((255:Int)≠(0:Int)),(V.int aj (IntKind.i64.wrap (fl+IntKind.i64.wrap ((IntKind.i64.wrap (IntKind.i64.wrap ((Int.ofNat cO)-fl)*Int.ofNat t0)).tdiv (255:Int))))=iW cut),((0:Int)<=Int.ofNat cut/\Int.ofNat cut<=(Int.ofNat cP)),(([.ptr (some (3,0))]:ag)=[.ptr (some (3,0))]/\(hL (eO (pS (cut-0) (cP-0) b fl nx lf es rt)++[(7,.cells [.int .i64 kk])]))=(hL (eO (pS cut cP b fl nx lf es rt)++[(7,.cells [.int .i64 kk])]))/\35=35)],
   .ret (.ew []) (hL [(0,.ints .u32 gS),(1,.ints .u32 gR),(3,.cells [.dj (some (4,0)) c2 cP 1,.int .i64 (Int.ofNat c2),.map (some 8),.map (some 9),.int .i64 I3,.bool false,.bool false,.int .i64 lf]),(4,.iU 5 false b),(5,.dF none es),(6,.dF none rt),(7,.cells [.int .i64 kk]),(8,.dF none e1),(9,.dF none r1)]) 10)]
 :=⟨U,U,U⟩
theorem aoZ(fl nx lf:Int)(kk:Int)(t0:Nat):vt ak (fD gu 57 [P3] (hL (Wn [(7,.cells [.int .i64 kk])] fl nx lf)) 35 (.ew [],hL (OW [(7,.cells [.int .i64 kk])] 35 lf),37)) [(13,.dc (iW t0)),(36,.dc (iW 0))] 1000 8 Tryz.f31 (Wm) (cS [P3,.dj (some (7,0)) 1 1 1] (hL (Wn [(7,.cells [.int .i64 kk])] fl nx lf)) 8)
  [([],
   [((0:Int)<=(0:Int)/\(0:Int)<(1:Int)),(V.int aj (IntKind.i64.wrap (Int.ofNat (BitVec.ofInt 64 kk&&&BitVec.ofInt 64 (255:Int)).toNat))=iW t0),((255:Int)≠(0:Int)),(V.int aj (IntKind.i64.wrap ((pN fl nx lf [] []).fl+IntKind.i64.wrap ((IntKind.i64.wrap (IntKind.i64.wrap ((0:Int)-(pN fl nx lf [] []).fl)*Int.ofNat t0)).tdiv (255:Int))))=iW 0),((0:Int)<=(0:Int)/\(0:Int)<=(0:Int)),fo [.ptr (some (3,0))] (hL [(0,.ints .u32 gS),(1,.ints .u32 gR),(3,.cells [.dj none 0 0 0,.int .i64 ((pN fl nx lf [] []).fl),.map (some 5),.map (some 6),.int .i64 ((pN fl nx lf [] []).nx),.bool false,.bool false,.int .i64 ((pN fl nx lf [] []).lf)]),(5,.dF none []),(6,.dF none []),(7,.cells [.int .i64 kk])]) 35],
   .ret (.ew []) (hL [(0,.ints .u32 gS),(1,.ints .u32 gR),(3,.cells [.dj none 0 0 0,.int .i64 0,.map (some 8),.map (some 9),.int .i64 0,.bool false,.bool false,.int .i64 lf]),(5,.dF none []),(6,.dF none []),(7,.cells [.int .i64 kk]),(8,.dF none []),(9,.dF none [])]) 10)]
 :=⟨U,U,U⟩
section
variable(fl nx lf:Int)(es:ae)
def lKN:af:=eO (pN fl nx lf es [])++[(7,.cells [.map (some 6)])]
def ao0:af:=[(0,.ints .u32 gS),(1,.ints .u32 gR),(3,.cells (xK 4 5 6 (pN fl nx lf es []))),(5,.dF none es),(7,.cells [.map (some 6)])]
def abI:St:=eF [(2,.ptr (some (8,0))),(6,w88)] (hL (lKN fl nx lf es++[(8,.cells [.dj none 0 0 0])])) 9
noncomputable def agT:O:=.loop true none (abI fl nx lf es).fr [7] UT UU
noncomputable def hKN:Tr O:=hL (lKN fl nx lf es++[(8,.cells [eI]),(9,.my),(10,agT fl nx lf es)])
noncomputable def SKN:St:=eF [(0,.fn (.yield 10) [] []),(5,.ptr (some (11,0)))] (hL (ao0 fl nx lf es++[(8,.cells [eI]),(9,.my),(10,agT fl nx lf es)])) 12
def x6:Tr O:=hL (lKN fl nx lf es)
end
section
variable(fl nx lf:Int)(es:ae)
theorem ao1:c6 (kY []) [] 8 Tryz.f113 [1,2] (eR 1 Rl) (cS [eI,w88] (x6 fl nx lf es) 8) [([],
   [],
   .to .normal (eF [(1,.fn (.func 88) [] [.ptr (some (7,0))]),(2,.ptr (some (8,0)))] (hL [(0,.ints .u32 gS),(1,.ints .u32 gR),(3,.cells [.dj none 0 0 0,.int .i64 ((pN fl nx lf es []).fl),.map (some 5),.map (some 6),.int .i64 ((pN fl nx lf es []).nx),.bool false,.bool false,.int .i64 ((pN fl nx lf es []).lf)]),(5,.dF none ((pN fl nx lf es []).es)),(6,.dF none []),(7,.cells [.map (some 6)]),(8,.cells [.dj none 0 0 0])]) 9))]
 :=cQ.of U U U
theorem ao2:c6 (kY []) [] 8 Tryz.f113 [2,6] (dK (dK Au)) (eF [(1,w88),(2,P 8)] (hL (lKN fl nx lf es++[(8,.cells [eI])])) 9) [([],
   [],
   .to .normal (eF [(2,.ptr (some (8,0))),(6,.fn (.func 88) [] [.ptr (some (7,0))])] (hL [(0,.ints .u32 gS),(1,.ints .u32 gR),(3,.cells [.dj none 0 0 0,.int .i64 ((pN fl nx lf es []).fl),.map (some 5),.map (some 6),.int .i64 ((pN fl nx lf es []).nx),.bool false,.bool false,.int .i64 ((pN fl nx lf es []).lf)]),(5,.dF none ((pN fl nx lf es []).es)),(6,.dF none []),(7,.cells [.map (some 6)]),(8,.cells [.dj none 0 0 0])]) 9))]
 :=cQ.of U U U
theorem ao3:c6 (kY []) [] 8 Tryz.f113 [] (ee Au) (tD (abI fl nx lf es) (hKN fl nx lf es) 11) [([],
   [],
   .ret (.dj none 0 0 0) (hL [(0,.ints .u32 gS),(1,.ints .u32 gR),(3,.cells [.dj none 0 0 0,.int .i64 ((pN fl nx lf es []).fl),.map (some 5),.map (some 6),.int .i64 ((pN fl nx lf es []).nx),.bool false,.bool false,.int .i64 ((pN fl nx lf es []).lf)]),(5,.dF none ((pN fl nx lf es []).es)),(6,.dF none []),(7,.cells [.map (some 6)])]) 8)]
 :=cQ.of U U U
theorem ao4:c6 (fD (kY []) 113 [eI,w88] (x6 fl nx lf es) 8 (eI,x6 fl nx lf es,8)) [] 8 Tryz.f86 [] (Eo) (cS [w88] (x6 fl nx lf es) 8) [([],
   [fo [.dj none 0 0 0,.fn (.func 88) [] [.ptr (some (7,0))]] (hL [(0,.ints .u32 gS),(1,.ints .u32 gR),(3,.cells [.dj none 0 0 0,.int .i64 ((pN fl nx lf es []).fl),.map (some 5),.map (some 6),.int .i64 ((pN fl nx lf es []).nx),.bool false,.bool false,.int .i64 ((pN fl nx lf es []).lf)]),(5,.dF none ((pN fl nx lf es []).es)),(6,.dF none []),(7,.cells [.map (some 6)])]) 8],
   .ret (.dj none 0 0 0) (hL [(0,.ints .u32 gS),(1,.ints .u32 gR),(3,.cells [.dj none 0 0 0,.int .i64 ((pN fl nx lf es []).fl),.map (some 5),.map (some 6),.int .i64 ((pN fl nx lf es []).nx),.bool false,.bool false,.int .i64 ((pN fl nx lf es []).lf)]),(5,.dF none ((pN fl nx lf es []).es)),(6,.dF none []),(7,.cells [.map (some 6)])]) 8)]
 :=cQ.of U U U
theorem ao5:c6 (fD (kY []) 86 [w88] (x6 fl nx lf es) 8 (eI,x6 fl nx lf es,8)) [] 8 Tryz.f61 [] (En) (cS [w88] (x6 fl nx lf es) 8) [([],
   [fo [.fn (.func 88) [] [.ptr (some (7,0))]] (hL [(0,.ints .u32 gS),(1,.ints .u32 gR),(3,.cells [.dj none 0 0 0,.int .i64 ((pN fl nx lf es []).fl),.map (some 5),.map (some 6),.int .i64 ((pN fl nx lf es []).nx),.bool false,.bool false,.int .i64 ((pN fl nx lf es []).lf)]),(5,.dF none ((pN fl nx lf es []).es)),(6,.dF none []),(7,.cells [.map (some 6)])]) 8,((0:Int)<=(0:Int)/\0<256)],
   .ret (.dj none 0 0 0) (hL [(0,.ints .u32 gS),(1,.ints .u32 gR),(3,.cells [.dj none 0 0 0,.int .i64 ((pN fl nx lf es []).fl),.map (some 5),.map (some 6),.int .i64 ((pN fl nx lf es []).nx),.bool false,.bool false,.int .i64 ((pN fl nx lf es []).lf)]),(5,.dF none ((pN fl nx lf es []).es)),(6,.dF none []),(7,.cells [.map (some 6)])]) 8)]
 :=cQ.of U U U
theorem ao6:c6 (fD (kY []) 61 [w88] (x6 fl nx lf es) 8 (eI,x6 fl nx lf es,8)) [] 7 Tryz.f23 [] (Om) (cS [P3] (eu (pN fl nx lf es [])) 7) [([],
   [fo [.fn (.func 88) [] [.ptr (some (7,0))]] (hL [(0,.ints .u32 gS),(1,.ints .u32 gR),(3,.cells [.dj none 0 0 0,.int .i64 ((pN fl nx lf es []).fl),.map (some 5),.map (some 6),.int .i64 ((pN fl nx lf es []).nx),.bool false,.bool false,.int .i64 ((pN fl nx lf es []).lf)]),(5,.dF none ((pN fl nx lf es []).es)),(6,.dF none []),(7,.cells [.map (some 6)])]) 8],
   .ret (.dj none 0 0 0) (hL [(0,.ints .u32 gS),(1,.ints .u32 gR),(3,.cells [.dj none 0 0 0,.int .i64 ((pN fl nx lf es []).fl),.map (some 5),.map (some 6),.int .i64 ((pN fl nx lf es []).nx),.bool false,.bool false,.int .i64 ((pN fl nx lf es []).lf)]),(5,.dF none ((pN fl nx lf es []).es)),(6,.dF none [])]) 7)]
 :=cQ.of U U U
end
section
variable(fl nx lf:Int)(es:ae)
theorem Wo:cU ak 88 [.fn (.yield 10) [] [],.ptr (some (7,0))] (hKN fl nx lf es) 11 (.ew []) (hKN fl nx lf es) 11:=by
 refine fQ.is (gG mo po Tryz.func88 (code:=Em) U U ?_);rw[aeN];refine y9 (v0:=.map (some 6)) (ko:=(cS [.fn (.yield 10) [] [],.ptr (some (7,0))] (hKN fl nx lf es) 11).fr.set 4 (some (.map (some 6)))) (zO:=((cS [.fn (.yield 10) [] [],.ptr (some (7,0))] (hKN fl nx lf es) 11).fr.set 4 (some (.map (some 6)))).set 5 (some (.ptr (some (11,0))))) (m:=6) (kd:=none) (es:=[]) mo Mw
  U U U U (au rfl) U (fun iB s1=>iB=[]/\e9 12 [0,5] s1=some (SKN fl nx lf es)) ⟨rfl,U⟩ ?_
 rintro iB left s1 ⟨rfl,hs⟩ hp;refine⟨[0,5],SKN fl nx lf es,hs,U,fun vS=>?_,fun e ku he=>?_⟩
 . exact⟨(SKN fl nx lf es).fr.set 6 (some (.ew [.bool false])),{ SKN fl nx lf es with fr:=((SKN fl nx lf es).fr.set 6 (some (.ew [.bool false]))).set 7 (some (.bool false)) },U,U,U,.inl rfl,.ew [],hKN fl nx lf es,11,U,rfl,rfl,rfl⟩
 . have h1:=hp.length_eq;have h2:=he.length_eq;simp only[cE,bQ,aS]at h1 h2;omega
theorem S9:cU ak 113 [eI,w88] (x6 fl nx lf es) 8 eI (x6 fl nx lf es) 8:=by
 refine c7 Tryz.func113 (code:=Rl) U U ?_;refine iL  1 (XQ []) (ao1 fl nx lf es) cR ?_;show TG ak 8 Tryz.f113.ntmps Au (eF [(1,w88),(2,P 8)] (hL (lKN fl nx lf es++[(8,.cells [eI])])) 9) _;refine cV U ?_;refine cV U ?_;refine fZ (XQ []) (ao2 fl nx lf es) (dG ?_);refine⟨cR,fun s' dL=>?_⟩;have dL:e9 8 [2,6] s'=some (abI fl nx lf es):=dL;refine c5 dL ?_;refine fg (i:=0) U ?_;refine ou (gf:=88) (lb:=[.ptr (some (7,0))]) U U U U U (Wo fl nx lf es).one ?_;rintro v h n ⟨rfl,rfl,rfl⟩;refine⟨U,?_⟩;show TG ak 8 Tryz.f113.ntmps (ee Au) _ _;refine fB (XQ []) (ao3 fl nx lf es) (dG ?_);exact⟨cR,_,_,_,rfl,rfl,rfl,rfl⟩
theorem Nd:cU ak 23 [P3] (eu (pN fl nx lf es [])) 7 eI (eu (pN fl nx lf es [])) 7:=by
 have h86:cU ak 86 [w88] (x6 fl nx lf es) 8 eI (x6 fl nx lf es) 8:=by
  refine c7 Tryz.func86 (code:=Eo) U U ?_;refine fB ((XQ []).jy (au U) (S9 fl nx lf es)) (ao4 fl nx lf es) (dG ?_);exact⟨fun p hp=>by rw[aq]at hp;subst hp;exact De,_,_,_,rfl,rfl,rfl,rfl⟩
 have h61:cU ak 61 [w88] (x6 fl nx lf es) 8 eI (x6 fl nx lf es) 8:=by
  refine c7 Tryz.func61 (code:=En) U U ?_;refine fB ((XQ []).jy (au U) h86) (ao5 fl nx lf es) (dG ?_);refine⟨?_,_,_,_,rfl,rfl,rfl,rfl⟩
  repeat' (first|exact cR|refine jw ?_ ?_)
  . exact De
  . decide
 refine c7 Tryz.func23 (code:=Om) U U ?_;refine fB ((XQ []).jy (au U) h61) (ao6 fl nx lf es) (dG ?_);exact⟨fun p hp=>by rw[aq]at hp;subst hp;exact De,_,_,_,rfl,rfl,rfl,rfl⟩
end
section
variable(l:List (Nat×List (Nat×o8)))
noncomputable abbrev csE:fb:=gI ak (kB 63 (jO Lh) W16) (sk l) 1000 40
noncomputable abbrev XE:CX ak:=CX.of mo po (fk RQ GL) (sk l) 1000 40
end
section
variable(fl nx lf:Int)
def lSn:af:=eO (pN fl nx lf [] [])++[(7,.cells [P3]),(8,.dF none []),(9,.cells [.map (some 8)])]
def ao7:af:=eO (pN fl nx lf [] [])++[(7,.cells [P3]),(9,.cells [.map (some 8)])]
def abJ:St:=eF [(2,P 10),(6,g81)] (hL (lSn fl nx lf++[(10,.cells [eI])])) 11
noncomputable def agW:O:=.loop true none (abJ fl nx lf).fr [7] UR US
noncomputable def OX:Tr O:=hL (lSn fl nx lf++[(10,.cells [eI]),(11,.my),(12,agW fl nx lf)])
noncomputable def Wp:St:=eF [(0,.fn (.yield 12) [] []),(5,P 13)] (hL (ao7 fl nx lf++[(10,.cells [eI]),(11,.my),(12,agW fl nx lf)])) 14
def sI:Tr O:=hL (lSn fl nx lf)
def kNc:af:=eO (pN fl nx lf [] [])++[(7,.cells [P3]),(19,.cells [.map (some 6)])]
def kNd:af:=kNc fl nx lf++[(20,.dF none [])]
def kNe:af:=kNc fl nx lf++[(20,.dF none []),(21,.cells [.map (some 20)])]
def TU:af:=eO (pN fl nx lf [] [])++[(7,.cells [P3])]
end
section
variable(n:aa)(fl nx lf:Int)
theorem ao8:c6 (kY []) [] 10 Tryz.f100 [1,2] (eR 1 Rk) (cS [eI,g81] (sI fl nx lf) 10) [([],
   [],
   .to .normal (eF [(1,g81),(2,P 10)] (hL (lSn fl nx lf++[(10,.cells [eI])])) 11))]
 :=cQ.of U U U
theorem ao9:c6 (kY []) [] 10 Tryz.f100 [2,6] (dK (dK Oj)) (eF [(1,g81),(2,P 10)] (hL (lSn fl nx lf++[(10,.cells [eI])])) 11) [([],
   [],
   .to .normal (abJ fl nx lf))]
 :=cQ.of U U U
theorem apa:c6 (kY []) [] 10 Tryz.f100 [] (ee Oj) (tD (abJ fl nx lf) (OX fl nx lf) 13) [([],
   [],
   .ret (.dj none 0 0 0) (sI fl nx lf) 10)]
 :=cQ.of U U U
theorem apb:c6 (kY []) [] 10 Tryz.f79 [0] (eR 1 K5) (cS [g81] (sI fl nx lf) 10) [([],
   [],
   .to .normal (eF [(0,g81)] (sI fl nx lf) 10))]
 :=cQ.of U U U
theorem apc:c6 (kY []) [] 10 Tryz.f79 [] (ee (de 1 K5)) (sC8 (sI fl nx lf) 10 eI) [([],
   [],
   .ret (.dj none 0 0 0) (sI fl nx lf) 10)]
 :=cQ.of U U U
theorem apd:c6 (kY []) [] 10 Tryz.f54 [0,1] (eR 1 K4) (cS [g81,g56] (sI fl nx lf) 10) [([],
   [],
   .to .normal (eF [(0,g81),(1,g56)] (sI fl nx lf) 10))]
 :=cQ.of U U U
theorem agX:c6 (kY []) [] 10 Tryz.f54 [] (de 2 K4) (sS8 (sI fl nx lf) 10 eI) [([],
   [((0:Int)<=(0:Int)/\0<256)],
   .ret (.dj none 0 0 0) (sI fl nx lf) 10)]
 :=cQ.of U U U
theorem ape:c6 (fD (fD (kY []) 51 [P3,v78] (hL (kNc fl nx lf)) 20 (.map (some 20),hL (kNd fl nx lf),21)) 54 [v81,v56] (hL (kNe fl nx lf)) 22 (eI,hL (kNe fl nx lf),22)) [] 7 Tryz.f19 [1,3,4] (hd4) (cS [P3] (eu (pN fl nx lf [] [])) 7) [([],
   [fo [.ptr (some (3,0)),.fn (.func 78) [] [.ptr (some (19,0))]] (hL [(0,.ints .u32 gS),(1,.ints .u32 gR),(3,.cells [.dj none 0 0 0,.int .i64 ((pN fl nx lf [] []).fl),.map (some 5),.map (some 6),.int .i64 ((pN fl nx lf [] []).nx),.bool false,.bool false,.int .i64 ((pN fl nx lf [] []).lf)]),(5,.dF none []),(6,.dF none []),(7,.cells [.ptr (some (3,0))]),(19,.cells [.map (some 6)])]) 20,fo [.fn (.func 81) [] [.ptr (some (21,0))],.fn (.func 56) [] [.ptr (some (7,0))]] (hL [(0,.ints .u32 gS),(1,.ints .u32 gR),(3,.cells [.dj none 0 0 0,.int .i64 ((pN fl nx lf [] []).fl),.map (some 5),.map (some 6),.int .i64 ((pN fl nx lf [] []).nx),.bool false,.bool false,.int .i64 ((pN fl nx lf [] []).lf)]),(5,.dF none []),(6,.dF none []),(7,.cells [.ptr (some (3,0))]),(19,.cells [.map (some 6)]),(20,.dF none []),(21,.cells [.map (some 20)])]) 22],
   .to .normal (eF [(1,.ptr (some (7,0))),(3,.dj none 0 0 0),(4,.dj none 0 0 0)] (hL [(0,.ints .u32 gS),(1,.ints .u32 gR),(3,.cells [.dj none 0 0 0,.int .i64 ((pN fl nx lf [] []).fl),.map (some 5),.map (some 6),.int .i64 ((pN fl nx lf [] []).nx),.bool false,.bool false,.int .i64 ((pN fl nx lf [] []).lf)]),(5,.dF none []),(6,.dF none []),(7,.cells [.ptr (some (3,0))])]) 8))]
 :=cQ.of U U U
theorem apf:c6 (kY []) [] 7 Tryz.f19 [1,4] (dK TO) (eF [(1,P 7),(3,eI),(4,eI)] (hL (TU fl nx lf)) 8) [([],
   [],
   .to .normal (eF [(1,.ptr (some (7,0))),(4,.dj none 0 0 0)] (hL [(0,.ints .u32 gS),(1,.ints .u32 gR),(3,.cells [.dj none 0 0 0,.int .i64 ((pN fl nx lf [] []).fl),.map (some 5),.map (some 6),.int .i64 ((pN fl nx lf [] []).nx),.bool false,.bool false,.int .i64 ((pN fl nx lf [] []).lf)]),(5,.dF none []),(6,.dF none []),(7,.cells [.ptr (some (3,0))])]) 8))]
 :=cQ.of U U U
theorem agY:c6 (fD A9 23 [P3] (hL (TU fl nx lf)) 8 (eI,hL (TU fl nx lf),8)) [] 7 Tryz.f19 [1,4] (dK G2) (eF [(1,P 7),(4,eI)] (hL (TU fl nx lf)) 8) [([],
   [fo [.ptr (some (3,0))] (hL [(0,.ints .u32 gS),(1,.ints .u32 gR),(3,.cells [.dj none 0 0 0,.int .i64 ((pN fl nx lf [] []).fl),.map (some 5),.map (some 6),.int .i64 ((pN fl nx lf [] []).nx),.bool false,.bool false,.int .i64 ((pN fl nx lf [] []).lf)]),(5,.dF none []),(6,.dF none []),(7,.cells [.ptr (some (3,0))])]) 8],
   .to .normal (eF [(1,.ptr (some (7,0))),(4,.dj none 0 0 0)] (hL [(0,.ints .u32 gS),(1,.ints .u32 gR),(3,.cells [.dj none 0 0 0,.int .i64 ((pN fl nx lf [] []).fl),.map (some 5),.map (some 6),.int .i64 ((pN fl nx lf [] []).nx),.bool false,.bool false,.int .i64 ((pN fl nx lf [] []).lf)]),(5,.dF none []),(6,.dF none []),(7,.cells [.ptr (some (3,0))])]) 8))]
 :=cQ.of U U U
theorem agZ:c6 A9 [] 7 Tryz.f19 [1] (eR 3 (ee G2)) (eF [(1,P 7),(4,eI)] (hL (TU fl nx lf)) 8) [([],
   [],
   .to .normal (eF [(1,.ptr (some (7,0)))] (hL [(0,.ints .u32 gS),(1,.ints .u32 gR),(3,.cells [.dj none 0 0 0,.int .i64 0,.map (some 5),.map (some 6),.int .i64 ((pN fl nx lf [] []).nx),.bool false,.bool false,.int .i64 ((pN fl nx lf [] []).lf)]),(5,.dF none []),(6,.dF none []),(7,.cells [.ptr (some (3,0))])]) 8))]
 :=cQ.of U U U
theorem ag0:c6 (fD A9 57 [P3] (hL (TU 0 nx lf)) 8 (.ew [],hL (OW [(7,.cells [P3])] 8 lf),10)) [] 7 Tryz.f19 [] (de 3 (ee G2)) (eF [(1,.ptr (some (7,0)))] (hL (TU 0 nx lf)) 8) [([],
   [fo [.ptr (some (3,0))] (hL [(0,.ints .u32 gS),(1,.ints .u32 gR),(3,.cells [.dj none 0 0 0,.int .i64 ((pN (0:Int) nx lf [] []).fl),.map (some 5),.map (some 6),.int .i64 ((pN (0:Int) nx lf [] []).nx),.bool false,.bool false,.int .i64 ((pN (0:Int) nx lf [] []).lf)]),(5,.dF none []),(6,.dF none []),(7,.cells [.ptr (some (3,0))])]) 8],
   .ret (.int .i64 0) (hL [(0,.ints .u32 gS),(1,.ints .u32 gR),(3,.cells [.dj none 0 0 0,.int .i64 0,.map (some 7),.map (some 8),.int .i64 0,.bool false,.bool false,.int .i64 lf]),(5,.dF none []),(6,.dF none []),(7,.dF none []),(8,.dF none [])]) 9)]
 :=cQ.of U U U
theorem apg(d:aa)(fl nx lf:Int):c6 (csE Oi) [(16,.dc (.bool false))] 7 Tryz.f15 [] (za) (cS [P3,.str d,.dO false 0 []] (eu (pN fl nx lf [] [])) 7) [([],
   [(V.bool (decide ((Int.ofNat d.length)>(65536:Int)))=V.bool false),([]=strs (dH [])),(0=0),(0<=1000000),(∀(x:aa),x∈dH []->x.length=32),(gS=gS),(gR=gR),([]=strs (dH [])),(0=0),(0<=1000000),((eH (d::dH [])).length<=1000000000),((if true=true then V.ew [D.ga (V.agg [V.str ([]:aa),V.dj none 0 0 0,V.int aj (0:Int)]) (di (D.str (dM d (dH []))) (pN fl nx lf [] []).es),V.bool (di (D.str (dM d (dH []))) (pN fl nx lf [] []).es).isSome]else D.ga (V.agg [V.str ([]:aa),V.dj none 0 0 0,V.int aj (0:Int)]) (di (D.str (dM d (dH []))) (pN fl nx lf [] []).es))=V.ew [Bv,V.bool false]),([]=strs (dH [])),(0=0),(d.length<=100000000),(0<=1000000),(0<=100000000),(V.bool (decide (IntKind.i64.wrap ((0:Int)+(Int.ofNat (gL d (dH [])).length))>(1048576:Int)))=V.bool false),(0<(gL d (dH [])).length),(eT (gL d (dH [])).length 1 1=true)],
   .ret (.ew [.str (dM d (dH [])),.int .i64 0]) (hL [(0,.ints .u32 gS),(1,.ints .u32 gR),(3,.cells [.dj (some (7,0)) ((gL d (dH [])).length) ((gL d (dH [])).length) 1,.int .i64 ((pN fl nx lf [] []).fl),.map (some 5),.map (some 6),.int .i64 (IntKind.i64.wrap ((pN fl nx lf [] []).nx+(1:Int))),.bool false,.bool false,.int .i64 ((pN fl nx lf [] []).lf)]),(5,.dF none [(.str (dM d (dH [])),.agg [.str d,.dO 0 [],.int .i64 ((pN fl nx lf [] []).nx)])]),(6,.dF none []),(7,.iU 5 false (gL d (dH [])))]) 8)]
 :=cQ.of U U U
theorem aph(d d0:aa)(jB:List (aa))(k:Int)(cO cP:Nat)(b:aa)(fl nx lf:Int)(es rt:ae):c6 (kY (Oh d0 jB k)) [(16,.dc (.bool false))] 7 Tryz.f15 [] (za) (cS [P3,.str d,.dO false 0 []] (eu (pS cO cP b fl nx lf es rt)) 7) [([],
   [(V.bool (decide ((Int.ofNat d.length)>(65536:Int)))=V.bool false),([]=strs (dH [])),(0=0),(0<=1000000),(∀(x:aa),x∈dH []->x.length=32),(gS=gS),(gR=gR),([]=strs (dH [])),(0=0),(0<=1000000),((eH (d::dH [])).length<=1000000000),((if true=true then V.ew [D.ga (V.agg [V.str ([]:aa),V.dj none 0 0 0,V.int aj (0:Int)]) (di (D.str (dM d (dH []))) es),V.bool (di (D.str (dM d (dH []))) es).isSome]else D.ga (V.agg [V.str ([]:aa),V.dj none 0 0 0,V.int aj (0:Int)]) (di (D.str (dM d (dH []))) es))=V.ew [ot d0 jB k,V.bool true])],
   .ret (.ew [.str (dM d (dH [])),.int .i64 0]) (eu (pS cO cP b fl nx lf es rt)) 7)]
 :=cQ.of U U U
theorem api(d:aa)(cO cP:Nat)(b:aa)(fl nx lf:Int)(es rt:ae):c6 (csE Oi) [(16,.dc (.bool false))] 7 Tryz.f15 [] (za) (cS [P3,.str d,.dO false 0 []] (eu (pS cO cP b fl nx lf es rt)) 7) [([],
   [(V.bool (decide ((Int.ofNat d.length)>(65536:Int)))=V.bool false),([]=strs (dH [])),(0=0),(0<=1000000),(∀(x:aa),x∈dH []->x.length=32),(gS=gS),(gR=gR),([]=strs (dH [])),(0=0),(0<=1000000),((eH (d::dH [])).length<=1000000000),((if true=true then V.ew [D.ga (V.agg [V.str ([]:aa),V.dj none 0 0 0,V.int aj (0:Int)]) (di (D.str (dM d (dH []))) es),V.bool (di (D.str (dM d (dH []))) es).isSome]else D.ga (V.agg [V.str ([]:aa),V.dj none 0 0 0,V.int aj (0:Int)]) (di (D.str (dM d (dH []))) es))=V.ew [Bv,V.bool false]),([]=strs (dH [])),(0=0),(d.length<=100000000),(0<=1000000),(0<=100000000),(V.bool (decide (IntKind.i64.wrap ((Int.ofNat cO)+(Int.ofNat (gL d (dH [])).length))>(1048576:Int)))=V.bool false),(0<cP),(cO=b.length),(eT (cO+(gL d (dH [])).length) 1 1=true)],
   .ret (.ew [.str (dM d (dH [])),.int .i64 0]) (hL [(0,.ints .u32 gS),(1,.ints .u32 gR),(3,.cells [.dj (some (7,0)) (cO+(gL d (dH [])).length) (cO+(gL d (dH [])).length) 1,.int .i64 fl,.map (some 5),.map (some 6),.int .i64 (IntKind.i64.wrap (nx+(1:Int))),.bool false,.bool false,.int .i64 lf]),(5,.dF none (ic (D.str (dM d (dH []))) (D.agg [D.str d,D.dO 0 [],D.int aj nx]) es)),(6,.dF none rt),(7,.iU 5 false (b++eN (dV (gL d (dH [])))))]) 8)]
 :=cQ.of U U U
theorem apj(d x:aa)(fl nx lf:Int):c6 (kY []) [(16,.dc (.bool false))] 7 Tryz.f15 [] (za) (cS [P3,.str d,.dO false 1 [.str x]] (eu (pN fl nx lf [] [])) 7) [([],
   [(V.bool (decide ((Int.ofNat d.length)>(65536:Int)))=V.bool false),([D.str x]=strs (dH [D.str x])),(1=(dH [D.str x]).length),(1<=1000000),(∀(x_1:aa),x_1∈dH [D.str x]->x_1.length=32),((0:Int)<=(0:Int)/\(0:Int)<(1:Int)),([D.str x].length=1)],
   .ret (.ew [.str [],.int .i64 63]) (hL [(0,.ints .u32 gS),(1,.ints .u32 gR),(3,.cells [.dj none 0 0 0,.int .i64 ((pN fl nx lf [] []).fl),.map (some 5),.map (some 6),.int .i64 ((pN fl nx lf [] []).nx),.bool false,.bool false,.int .i64 ((pN fl nx lf [] []).lf)]),(5,.dF none []),(6,.dF none [])]) 7)]
 :=cQ.of U U U
theorem apk:c6 (Yo []) [(23,.dc (.bool false)),(27,.dc (.bool false))] 7 Tryz.f16 [] (wH) (cS [P3,.str n,.str []] (eu (pN fl nx lf [] [])) 7) [([],
   [(V.bool (eG n ([]:aa))=V.bool false),(V.bool (decide ((Int.ofNat n.length)>(64:Int)))=V.bool false)],
   .ret (.int .i64 0) (hL [(0,.ints .u32 gS),(1,.ints .u32 gR),(3,.cells [.dj none 0 0 0,.int .i64 ((pN fl nx lf [] []).fl),.map (some 5),.map (some 6),.int .i64 ((pN fl nx lf [] []).nx),.bool false,.bool false,.int .i64 ((pN fl nx lf [] []).lf)]),(5,.dF none []),(6,.dF none [])]) 7)]
 :=cQ.of U U U
theorem apl(d:aa)(fl nx lf:Int):c6 (Yo []) [(23,.dc (.bool false)),(27,.dc (.bool false)),(31,.dc (.bool true))] 7 Tryz.f16 [] (wH) (cS [P3,.str n,.str d] (eu (pN fl nx lf [] [])) 7) [([],
   [(V.bool (eG n ([]:aa))=V.bool false),(V.bool (decide ((Int.ofNat n.length)>(64:Int)))=V.bool false),((V.bool !eG d ([]:aa))=V.bool true)],
   .ret (.int .i64 62) (hL [(0,.ints .u32 gS),(1,.ints .u32 gR),(3,.cells [.dj none 0 0 0,.int .i64 ((pN fl nx lf [] []).fl),.map (some 5),.map (some 6),.int .i64 ((pN fl nx lf [] []).nx),.bool false,.bool false,.int .i64 ((pN fl nx lf [] []).lf)]),(5,.dF none []),(6,.dF none [])]) 7)]
 :=cQ.of U U U
end
theorem apm(cO cP:Nat)(b:aa)(fl nx lf:Int)(es rt:ae):c6 (kY []) [] 7 Tryz.f20 [] (dP Tryz.f20) (cS [P3] (eu (pS cO cP b fl nx lf es rt)) 7) [([],
   [],
   .ret (.int .i64 ((Int.ofNat es.length))) (eu (pS cO cP b fl nx lf es rt)) 7)]
 :=cQ.of U U U
theorem apn(fl nx lf:Int):c6 (kY []) [] 7 Tryz.f20 [] (dP Tryz.f20) (cS [P3] (eu (pN fl nx lf [] [])) 7) [([],
   [],
   .ret (.int .i64 ((Int.ofNat (pN fl nx lf [] []).es.length))) (hL [(0,.ints .u32 gS),(1,.ints .u32 gR),(3,.cells [.dj none 0 0 0,.int .i64 ((pN fl nx lf [] []).fl),.map (some 5),.map (some 6),.int .i64 ((pN fl nx lf [] []).nx),.bool false,.bool false,.int .i64 ((pN fl nx lf [] []).lf)]),(5,.dF none []),(6,.dF none [])]) 7)]
 :=cQ.of U U U
abbrev sC(n cP:Nat)(b:aa)(fl nx lf:Int)(es rt:ae):iw:=pc (pN fl nx lf es rt) n cP b
abbrev sZ(fl nx lf:Int):iw:=pz (pN fl nx lf [] [])
section
variable{n cP:Nat}{b:aa}{fl nx lf:Int}{es rt:ae}
section
variable{f:FuncId}{nm:aa}{rest:ag}{a:aa}{e:Int}{m:Nat}{u:aa}
theorem YC(c:cU ak f (P3::rest) (eu (pS n cP b fl nx lf es rt)) 7 (.ew [.str a,.int .i64 e]) (eu (pS n cP b fl nx lf es rt)) 7):zA f rest (sC n cP b fl nx lf es rt) (.ew [.str a,.int .i64 e]) (sC n cP b fl nx lf es rt):=c.Ew 4 U
theorem Ta(c:cU ak f (P3::rest) (eu (pS n cP b fl nx lf es rt)) 7 (.int .i64 e) (eu (pS n cP b fl nx lf es rt)) 7):zA f rest (sC n cP b fl nx lf es rt) (.int .i64 e) (sC n cP b fl nx lf es rt):=c.Ew 4 U
theorem abK(c:cU ak f (P3::rest) (eu (pN fl nx lf [] [])) 7 (.ew [.str a,.int .i64 e]) (eu (pN fl nx lf [] [])) 7):zA f rest (sZ fl nx lf) (.ew [.str a,.int .i64 e]) (sZ fl nx lf):=c.Ew 4 U
theorem Tb(c:cU ak f (P3::rest) (eu (pN fl nx lf [] [])) 7 (.int .i64 e) (eu (pN fl nx lf [] [])) 7):zA f rest (sZ fl nx lf) (.int .i64 e) (sZ fl nx lf):=c.Ew 4 U
theorem abL{nx2:Int}{tX:ae}(c:cU ak f (P3::rest) (eu (pS n cP b fl nx lf es rt)) 7 (.ew [.str a,.int .i64 e]) (Rf m u fl nx2 lf tX rt) 8):zA f rest (sC n cP b fl nx lf es rt) (.ew [.str a,.int .i64 e]) (sC m m u fl nx2 lf tX rt):=c.Ew 4 U
theorem LN{rt2:ae}(c:cU ak f (P3::rest) (eu (pS n cP b fl nx lf es rt)) 7 (.int .i64 e) (MM fl nx lf es m u rt2) 8):zA f rest (sC n cP b fl nx lf es rt) (.int .i64 e) (sC m m u fl nx lf es rt2):=c.Ew 4 U
theorem ag1{d:aa}{rs:List (aa)}(hd:d.length<=65536)(hn:rs.length<=1024)(h32:∀x∈rs,x.length=32)(DY:∀x∈rs,Ek es x)(hk:Ek es (dM d rs)):
  zA 15 [.str d,pH rs] (sC n cP b fl nx lf es rt) (.ew [.str (dM d rs),.int .i64 0]) (sC n cP b fl nx lf es rt):=by
 refine YC ?_;cases rs with
 |cons x rs=>exact Rg d n cP b fl nx lf es rt false (x::rs) hd hn h32 DY hk
 |nil=>
  have hO:∀n:Nat,Int.ofNat n=(n:Int):=fun _=>rfl;obtain⟨d0,jB,k,hk⟩:=hk;refine c7 Tryz.func15 (code:=za) U U ?_;refine fB (XQ (Oh d0 jB k)) (aph d d0 jB k n cP b fl nx lf es rt) (dG ?_);refine⟨?_,_,_,_,rfl,rfl,rfl,rfl⟩;have hj:=jM d [] (by simp);simp only[bQ]at hj;refine fm (iZ dh) (fm rfl (fm rfl (fm be (fm (fun _ hx=>absurd hx aL) (fm rfl (fm rfl (fm rfl (fm rfl (fm be (fm ?_ (eU (mq hk))))))))))));show(eH [d]).length<=_;omega
theorem ag2{d:aa}{rs:List (aa)}(hd:d.length<=65536)(hn:rs.length<=1024)(h32:∀x∈rs,x.length=32)(DY:∀x∈rs,Ek es x)(hk:di (.str (dM d rs)) es=none)(hc:0<cP)(hl:n=b.length)(Nx:n+(gL d rs).length<=1048576):
  zA 15 [.str d,pH rs] (sC n cP b fl nx lf es rt) (.ew [.str (dM d rs),.int .i64 0]) (sC (n+(gL d rs).length) (n+(gL d rs).length) (b++gL d rs) fl (IntKind.i64.wrap (nx+1)) lf (ic (.str (dM d rs)) (pW d rs nx) es) rt):=by
 refine abL ?_;cases rs with
 |cons x rs=>exact Rh d n cP b fl nx lf es rt false (x::rs) hd hn (Nat.succ_pos _) h32 DY hk hc hl Nx
 |nil=>
  have hO:∀n:Nat,Int.ofNat n=(n:Int):=fun _=>rfl;refine c7 Tryz.func15 (code:=za) U U ?_;obtain⟨L,hr⟩:=api d n cP b fl nx lf es rt;simp only[IT,gk]at hr;refine gY (XE Oi) mo _ U hr (dG ?_);refine⟨?_,_,_,_,rfl,rfl,rfl,rfl⟩;have hj:=jM d [] (by simp);simp only[bQ]at hj;refine fm (iZ dh) (fm (by first|rfl|trivial) (fm (by first|rfl|trivial) (fm be (fm (fun _ hx=>absurd hx aL) (fm (by first|rfl|trivial) (fm (by first|rfl|trivial) (fm (by first|rfl|trivial) (fm (by first|rfl|trivial) (fm be (fm (?_) (fm (qI hk) (fm (by first|rfl|trivial) (fm (by first|rfl|trivial) (fm be (fm be (fm be (fm (?_) (fm (hc) (fm (hl) (eU (jn (by show n+(gL d []).length<=_;omega))))))))))))))))))))))
  . show(eH [d]).length<=_;omega
  . show V.bool (decide (IntKind.i64.wrap (Int.ofNat n+Int.ofNat (gL d []).length)>1048576))=_;rw[fH dh dh];exact iZ dh
theorem ag3{d:aa}{rs:List (aa)}(hd:d.length<=65536)(hn:rs.length<=1024)(h32:∀x∈rs,x.length=32)(j:Nat)(x:aa)(hj:rs[j]? =some x)(hx:di (.str x) es=none)(hg:∀i y,i<j->rs[i]? =some y->Ek es y):
  zA 15 [.str d,pH rs] (sC n cP b fl nx lf es rt) (.ew [.str [],.int .i64 63]) (sC n cP b fl nx lf es rt):=YC (Vs false rs n cP b fl nx lf es rt d hd hn h32 j x hj hx hg)
theorem Wq{d:aa}(hd:d.length<=65536):zA 15 [.str d,pH []] (sZ fl nx lf) (.ew [.str (dM d []),.int .i64 0]) (sC (gL d []).length (gL d []).length (gL d []) fl (IntKind.i64.wrap (nx+1)) lf (ic (.str (dM d [])) (pW d [] nx) []) []):=by
 have key:cU ak 15 [P3,.str d,.dO false 0 []] (eu (pN fl nx lf [] [])) 7 (.ew [.str (dM d []),.int .i64 0]) (hL [(0,.ints .u32 gS),(1,.ints .u32 gR),(3,.cells [.dj (some (7,0)) (gL d []).length (gL d []).length 1,.int .i64 fl,.map (some 5),.map (some 6),.int .i64 (IntKind.i64.wrap (nx+1)),.bool false,.bool false,.int .i64 lf]),(5,.dF none (ic (.str (dM d [])) (pW d [] nx) [])),(6,.dF none []),(7,.iU 5 false (gL d []))]) 8:=by
  have hO:∀n:Nat,Int.ofNat n=(n:Int):=fun _=>rfl;refine c7 Tryz.func15 (code:=za) U U ?_;obtain⟨L,hr⟩:=apg d fl nx lf;simp only[IT]at hr;refine gY (XE Oi) mo _ U hr (dG ?_);refine⟨?_,_,_,_,rfl,rfl,rfl,rfl⟩;have hj:=jM d [] (by simp);have wZ:=As d (rs:=[]) (by simp);have hr0:=(IF d []).1;simp only[bQ]at hj wZ;refine fm (iZ dh) (fm (by first|rfl|trivial) (fm (by first|rfl|trivial) (fm be (fm (fun _ hx=>absurd hx aL) (fm (by first|rfl|trivial) (fm (by first|rfl|trivial) (fm (by first|rfl|trivial) (fm (by first|rfl|trivial) (fm be (fm (?_) (fm (qI rfl) (fm (by first|rfl|trivial) (fm (by first|rfl|trivial) (fm be (fm be (fm be (fm (?_) (fm (hr0) (eU (jn (by show(gL d []).length<=_;omega)))))))))))))))))))))
  . show(eH [d]).length<=_;omega
  . show V.bool (decide (IntKind.i64.wrap ((0:Int)+Int.ofNat (gL d []).length)>1048576))=_;rw[fH dh dh];exact iZ dh
 generalize gL d []=u at key ⊢;generalize ic (.str (dM d [])) (pW d [] nx) []=es at key ⊢;generalize dM d []=a at key ⊢;exact key.Ew 4 U
theorem ag4{d x:aa}(hd:d.length<=65536)(hx:x.length=32):zA 15 [.str d,pH [x]] (sZ fl nx lf) (.ew [.str [],.int .i64 63]) (sZ fl nx lf):=by
 refine abK ?_;have hO:∀n:Nat,Int.ofNat n=(n:Int):=fun _=>rfl;refine c7 Tryz.func15 (code:=za) U U ?_;refine fB (XQ []) (apj d x fl nx lf) (dG ?_);refine⟨?_,_,_,_,rfl,rfl,rfl,rfl⟩;exact fm (iZ dh) (fm rfl (fm rfl (fm be (fm (fun y hy=>by rw[aq.1 hy];exact hx) (fm ⟨dU,dU⟩ (eU rfl))))))
theorem Wr(hn:Vn nm):zA 16 [.str nm,.str []] (sZ fl nx lf) (.int .i64 0) (sZ fl nx lf):=by
 refine Tb ?_;refine c7 Tryz.func16 (code:=wH) U U ?_;refine fB (XU []) (apk nm fl nx lf) (dG ?_);exact⟨fm (zk hn.1) (eU (GZ hn.2)),_,_,_,rfl,rfl,rfl,rfl⟩
theorem Ws{d:aa}(hn:Vn nm)(hd:d≠[]):zA 16 [.str nm,.str d] (sZ fl nx lf) (.int .i64 62) (sZ fl nx lf):=by
 refine Tb ?_;refine c7 Tryz.func16 (code:=wH) U U ?_;refine fB (XU []) (apl nm d fl nx lf) (dG ?_);exact⟨fm (zk hn.1) (fm (GZ hn.2) (eU (GY hd))),_,_,_,rfl,rfl,rfl,rfl⟩
theorem Wt:zA 66 [] (sC n cP b fl nx lf es rt) (.int .i64 0) (sC n cP b (Int.ofNat n) nx lf es rt):=(abr n cP b fl nx lf es rt).Ew 4 U
theorem Wu:zA 66 [] (sZ fl nx lf) (.int .i64 0) (sZ 0 nx lf):=(V8 fl nx lf [] []).Ew 4 U
end
end
end Go.Proofs.YtfihojpgobmmdaaGreatDoor
