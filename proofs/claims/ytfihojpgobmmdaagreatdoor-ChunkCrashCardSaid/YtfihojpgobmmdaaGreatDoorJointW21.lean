/- The Chunk laws: the model in memory, whatever its store; now, pick. No conditions. -/
import Derived.Test.YtfihojpgobmmdaaGreatDoorJointW19
import Derived.Test.YtfihojpgobmmdaaGreatDoorJointW20
import Derived.Test.YtfihojpgobmmdaaGreatDoorJointW18
import Derived.Test.YtfihojpgobmmdaaGreatDoorJointW17
import Derived.Test.YtfihojpgobmmdaaGreatDoorJointW15
set_option linter.unusedVariables false
set_option linter.unusedSimpArgs false
set_option linter.unusedSectionVars false
set_option maxRecDepth 20000
namespace Go.Proofs.YtfihojpgobmmdaaGreatDoor
open Go Go.Eng
section
variable(g b:Nat){f:FuncId}(p:gX){args:ag}(l:List RS){nH:ag}(s:RS){ns:List (Option Nat)}(m i:Nat)
def pz:gX:=⟨none,p.fl,p.nx,p.off,p.arm,p.lf,p.es,p.rs⟩
def pc(n k:Nat)(b:aa):gX:=⟨some (n,k,b),p.fl,p.nx,p.off,p.arm,p.lf,p.es,p.rs⟩
def sh:Nat:=match p.lo with|none=>0|some _=>1
def lgB(g:Nat)(p:gX):af:=match p.lo with|none=>[]|some (_,_,b)=>[(g,.iX 5 false b)]
def agR(c r a:Nat)(p:gX)(m:Nat)(R:ai):af:=
 [(0,.ints .u32 gS),(1,.ints .u32 gR),(3,.cells [.ptr (some (4,0)),.di (some (a,0)) m m 2]),(4,.cells (wI g c r p))]++lgB g p++[(c,.dy none p.es),(r,.dy none p.rs),(a,.deep R)]
abbrev YE(c r a:Nat)(p:gX)(l:List RS):af:=agR g c r a p l.length (ff l)
abbrev Nh:af:=YE b (b+sh p) (b+1+sh p) 8 p l
abbrev moA:af:=YE b (b+sh p) (b+1+sh p) (b+2+sh p) p l
abbrev moD(R:ai):af:=agR b (b+sh p) (b+1+sh p) (b+2+sh p) p m R
abbrev gh:af:=YE 5 6 7 8 p l
abbrev ur:af:=moA 9 p l
abbrev nR:Nat:=12+sh p
theorem uh{l l1:af}{mB h2:Tr O}{n n2 IP:Nat}{v v1:V}(hc:cU ak f nH (hL l1) ns.length v1 mB IP)
  (e:((l1.all fun q=>Nat.blt q.1 fN),(jN.all fun p=>decide (ns.getD p.2 none=some p.2)),nr ns,(ns.all fun x=>match x with|none=>true|some m=>(jN.any fun p=>decide (p.2=m))||((hL l).get m).isSome),Si ns l l1,V.D0 (mu ns) args,Eh ns (hL l1) (v1,mB,IP) (hL l) n)=(true,true,true,true,l1.map (fun q=>some q.2),some nH,some (v,h2,n2))):
  cU ak f args (hL l) n v h2 n2:=by
 simp only[aB]at e;obtain⟨e1,e2,e3,e4,e5,e6,e7⟩:=e;exact fL (jk e1 e2 e3 e4 e5) e6 e7 hc
theorem tN{l l1:af}{mB h2:Tr O}{n n2 IP:Nat}{v v1:V}(hc:cU ak f nH (hL l1) ns.length v1 mB IP)(lo:Nat)
  (e:((l1.all fun q=>Nat.blt q.1 fN),(jN.all fun p=>decide (ns.getD p.2 none=some p.2)),nr ns,(ns.all fun x=>match x with|none=>true|some m=>(jN.any fun p=>decide (p.2=m))||((hL l).get m).isSome),Si ns l l1,V.D0 (mu ns) args,(Eh ns (hL l1) (v1,mB,IP) (hL l) n).bind fun x=>Jn n lo [0] (FA x.1 x.2.1 x.2.2))=(true,true,true,true,l1.map (fun q=>some q.2),some nH,some (FA v h2 n2))):
  cU ak f args (hL l) n v h2 n2:=by
 simp only[aB]at e;obtain⟨e1,e2,e3,e4,e5,e6,e7⟩:=e;cases e0:Eh ns (hL l1) (v1,mB,IP) (hL l) n with
 |none=>rw[e0]at e7;cases e7
 |some x=>
  obtain⟨v3,h3,n3⟩:=x;rw[e0]at e7;exact(fL (jk e1 e2 e3 e4 e5) e6 e0 hc).DD lo e7
def lgN:Option Nat:=match p.lo with|none=>none|some _=>some g
def abJ(c r a:Nat)(p:gX):List (Option Nat):=[some 0,some 1,some 2,some 3,some 4,lgN g p,some c,some r,some a]
abbrev T7:List (Option Nat):=abJ 5 6 7 8 p
abbrev nsA:List (Option Nat):=abJ b (b+sh p) (b+1+sh p) (b+2+sh p) p
def T8:List (Option Nat):=[some 0,some 1,some 2,some 4,lgN 5 p,some 6,some 7]
theorem aoW(s:RS):c7 fV [(12,.dc (iW i)),(14,.dc s.v)] 9 Tryz.f29 [] (dS Tryz.f29) (cT [P3] (hL (gh p l)) 9) [([],
   [(V.int aj (IntKind.i64.wrap ((Int.ofNat l.length)-(1:Int)))=iW i),((0:Int)<=Int.ofNat i/\Int.ofNat i<(Int.ofNat l.length)),(0+i*2+2<=(ff l).length),(V.agg (D.jO (dm (ff l) (0+i*2) 2))=s.v)],
   .ret (.agg [.dM false (s.cs.length) (fD s.cs),.dM false (s.ro.length) (fo s.ro)]) (hL (gh p l)) 9)]
 :=by rcases p with⟨_|⟨_,_,_⟩,_⟩<;>exact cQ.of U U U
theorem m29(hl:l.length<=1000000):cU ak 29 [P3] (hL (gh p (l++[s]))) 9 s.v (hL (gh p (l++[s]))) 9:=by
 refine c5 Tryz.func29 (code:=dS Tryz.f29) U U ?_;refine fu ki (aoW p (l++[s]) l.length s) (dG ?_);exact⟨fm ((SY l s hl).1) (fm ((SY l s hl).2) (fm ((DC l s).1) (eR ((DC l s).2)))),_,_,_,rfl,rfl,rfl,rfl⟩
theorem pk_(mi:aa)(l:List RS)(s:RS)(z:Int)(i:Nat)(c:gP):c7 (fC (fC fV 29 [P3] (hL (gh p l)) 9 (s.v,hL (gh p l),9)) 69 [.str SX,eI] (hL (gh p l++[(9,bx s)])) 10 (.str mi,hL (gh p l++[(9,bx s)]),10)) [(14,.dc (iW (s.cs.length+1))),(15,.dc (iW i)),(20,.split),(25,.dc (.dw c.d))] 9 Tryz.f89 [] (dS Tryz.f89) (cT [P3,.int .u8 z] (hL (gh p l)) 9) [([((Int.ofNat i==(Int.ofNat s.cs.length)),true)],
   [fb [P3] (hL (gh p l)) 9,(V.int aj (IntKind.i64.wrap ((Int.ofNat s.cs.length)+(1:Int)))=iW (s.cs.length+1)),(Int.ofNat (s.cs.length+1)≠(0:Int)),(V.int aj ((IntKind.i64.wrap z).tmod (Int.ofNat (s.cs.length+1)))=iW i),fb [.str SX,eI] (hL (gh p l++[(9,bx s)])) 10],
   .ret (.str mi) (hL (gh p l)) 9),
  ([((Int.ofNat i==(Int.ofNat s.cs.length)),false)],
   [fb [P3] (hL (gh p l)) 9,(V.int aj (IntKind.i64.wrap ((Int.ofNat s.cs.length)+(1:Int)))=iW (s.cs.length+1)),(Int.ofNat (s.cs.length+1)≠(0:Int)),(V.int aj ((IntKind.i64.wrap z).tmod (Int.ofNat (s.cs.length+1)))=iW i),((0:Int)<=Int.ofNat i/\Int.ofNat i<(Int.ofNat s.cs.length)),((fD s.cs).length=s.cs.length*3),(V.dw (dm (fD s.cs) (i*3) 3)=V.dw c.d)],
   .ret (.str (c.dg)) (hL (gh p l)) 9)]
 :=by rcases p with⟨_|⟨_,_,_⟩,_⟩<;>exact cQ.of U U U
end
theorem m89(p:gX)(l:List RS)(s:RS)(z:Nat)(hz:z<=255)(hs:s.cs.length<=1000000)(hl:l.length<=1000000):cU ak 89 [P3,.int .u8 (z:Int)] (hL (gh p (l++[s]))) 9 (.str (kI s z)) (hL (gh p (l++[s]))) 9:=by
 refine c5 Tryz.func89 (code:=dS Tryz.f89) U U ?_;have h29:=m29 p l s hl;obtain⟨p1,p2,p3⟩:=Wm s hz hs;generalize l++[s]=fA at h29 ⊢;have hX:=Wl (hL (gh p fA++[(9,bx s)])) 10;by_cases hm:z%(s.cs.length+1)<s.cs.length
 . have iY:=aN V.dw (xX s.cs _ hm);have Sd:kI s z=(s.cs[z%(s.cs.length+1)]).dg:=by unfold kI;rw[dif_pos hm]
   rw[Sd];generalize s.cs[z%(s.cs.length+1)]=c at iY ⊢;refine fu ((ki.jt Fz h29).jt YD hX) (pk_ p Pc fA s z (z%(s.cs.length+1)) c) fun g hg hc=>?_;rcases iV hg with rfl|rfl
   . have h:=hc _ (aq.2 rfl);dsimp only at h;have:=Int.ofNat.inj (beq_iff_eq.1 h);omega
   . exact⟨fm (⟨rfl,rfl,rfl⟩) (fm (p1) (fm (p2) (fm (p3) (fm (⟨az _,dh⟩) (fm (k8 _) (eR (iY))))))),_,_,_,rfl,rfl,rfl,rfl⟩
 . have Sd:kI s z=Pc:=by unfold kI;rw[dif_neg hm]
   rw[Sd];have hme:z%(s.cs.length+1)=s.cs.length:=by have:=Nat.mod_lt z (show 0<s.cs.length+1 by omega);omega
   refine fu ((ki.jt Fz h29).jt YD hX) (pk_ p Pc fA s z (z%(s.cs.length+1)) ⟨[],[],[]⟩) fun g hg hc=>?_;rcases iV hg with rfl|rfl
   . exact⟨fm (⟨rfl,rfl,rfl⟩) (fm (p1) (fm (p2) (fm (p3) (eR (⟨rfl,rfl,rfl⟩))))),_,_,_,rfl,rfl,rfl,rfl⟩
   . have h:=hc _ (aq.2 rfl);dsimp only at h;rw[hme]at h;rw[cE]at h;cases h
section
variable(a b0 c:Int)(d:aa)
def e60:aa:=List.drop 0 (List.take (if(60:Int)<(Int.ofNat d.length)then(60:Int)else(Int.ofNat d.length)).toNat d)
def FB(r:RR):O:=.cells [.dM false r.s.cs.length (fD r.s.cs),.dM false r.s.ro.length (fo r.s.ro),.str r.dg,.int .i64 r.er,.bool r.ch]
end
section
variable(p:gX)(l:List RS)(x y z:Int)
def sXo(d:aa)(cs:ag)(k:Nat):St:=eF [(0,P3),(3,.ptr (some (9,0))),(5,.di (some (10,0)) k k 1)] (hL (gh p l++[(9,l8 x y z d),(10,.cells cs)])) 11
def sXc(d:aa)(k:Nat)(cs:ai):St:=eF [(0,P3),(3,.ptr (some (9,0))),(5,.di (some (10,0)) k k 1)] (hL (gh p l++[(9,l8 x y z d),(10,.deep cs)])) 11
def sXu(r:RR)(v:List (Nat×V)):St:=eF ([(6,.ptr (some (11+sh p,0)))]++v) (hL (Nh 9 p l++[(11+sh p,FB r)])) (12+sh p)
def sXv(m:Nat)(R:ai)(r:RR)(v:List (Nat×V)):St:=eF ([(6,.ptr (some (12+sh p,0)))]++v) (hL (moD 9 p m R++[(12+sh p,FB r)])) (13+sh p)
theorem xp1(d:aa):c7 fV [] 9 Tryz.f64 [0,3,5] (eO 2 tM) (cT [P3,rI x y z d] (hL (gh p l)) 9) [([],
   [],
   .to .normal (sXo p l x y z d [] 0))]
 :=by rcases p with⟨_|⟨_,_,_⟩,_⟩<;>exact cQ.of U U U
theorem xp2(s:RS)(x y z:Int)(d w:aa):c7 (fC (fC fV 29 [P3] (hL (gh p l++[(9,l8 x y z d),(10,.cells [])])) 11 (s.v,hL (gh p l++[(9,l8 x y z d),(10,.cells [])]),11)) 89 [P3,.int .u8 z] (hL (gh p l++[(9,l8 x y z d),(10,.cells [])])) 11 (.str w,hL (gh p l++[(9,l8 x y z d),(10,.cells [])]),11)) [(13,.split),(19,.split)] 9 Tryz.f64 [0,3,5] (dK (de 2 tM)) (sXo p l x y z d [] 0) [([((decide (y.tmod (3:Int)>(0:Int))),true),((decide ((Int.ofNat s.cs.length)>(0:Int))),true)],
   [fb [P3] (hL (gh p l++[(9,l8 x y z d),(10,.cells [])])) 11,fb [P3,.int .u8 z] (hL (gh p l++[(9,l8 x y z d),(10,.cells [])])) 11],
   .to .normal (sXo p l x y z d [.str w] 1)),
  ([((decide (y.tmod (3:Int)>(0:Int))),true),((decide ((Int.ofNat s.cs.length)>(0:Int))),false)],
   [fb [P3] (hL (gh p l++[(9,l8 x y z d),(10,.cells [])])) 11],
   .to .normal (sXo p l x y z d [] 0)),
  ([((decide (y.tmod (3:Int)>(0:Int))),false)],
   [],
   .to .normal (sXo p l x y z d [] 0))]
 :=by rcases p with⟨_|⟨_,_,_⟩,_⟩<;>exact cQ.of U U U
end
section
variable(p:gX)(l:List RS)(x y z:Int)(d:aa)(ps:List (aa))
def Pd:af:=gh p l++[(9,l8 x y z d),(10,.deep (strs ps))]
abbrev sXp:St:=sXc p l x y z d ps.length (strs ps)
def sXq:St:=eF [(0,P3),(3,.ptr (some (9,0))),(5,qN ps)] (hL (gh p l++[(9,l8 x y z d)])) 10
def sXr(r:RR):St:=eF [(0,P3),(3,.ptr (some (9,0))),(5,qN ps),(6,.ptr (some (10,0)))] (hL (gh p l++[(9,l8 x y z d),(10,FB r)])) 11
def sXs(r:RR):St:=eF [(0,P3),(3,.ptr (some (11+sh p,0))),(6,.ptr (some (12+sh p,0))),(7,.str r.dg),(8,.int .i64 r.er)] (hL (Nh 9 p l++[(11+sh p,l8 x y z d),(12+sh p,FB r)])) (13+sh p)
end
section
variable(p:gX)(l:List RS)(x y z:Int)
theorem xp3(d:aa)(ps:List (aa))(w:aa):c7 (fC fV 89 [P3,.int .u8 y] (hL (Pd p l x y z d ps)) 11 (.str w,hL (Pd p l x y z d ps),11)) [(31,.split)] 9 Tryz.f64 [0,3,5] (dK (de 3 tM)) (sXp p l x y z d ps) [([((decide (y.tmod (3:Int)>(1:Int))),true)],
   [fb [P3,.int .u8 y] (hL (Pd p l x y z d ps)) 11,(0+ps.length*1<=(strs ps).length),(0<1),(eT (ps.length+1) 1 16=true)],
   .to .normal (sXc p l x y z d (ps.length+1) (List.take (ps.length*1) (List.drop 0 (strs ps))++[D.str w]))),
  ([((decide (y.tmod (3:Int)>(1:Int))),false)],
   [],
   .to .normal (sXp p l x y z d ps))]
 :=by rcases p with⟨_|⟨_,_,_⟩,_⟩<;>exact cQ.of U U U
theorem xp4(s:RS)(x y z:Int)(d:aa)(ps:List (aa))(r:RR):c7 (fC (fC fV 29 [P3] (hL (gh p l++[(9,l8 x y z d)])) 23 (s.v,hL (gh p l++[(9,l8 x y z d)]),23)) 37 [s.v,.str (e60 d),qN ps] (hL (gh p l++[(9,l8 x y z d)])) 23 (r.v,hL (gh p l++[(9,l8 x y z d)]),23)) [] 9 Tryz.f64 [0,3,5,6] (dK (de 4 tM)) (sXq p l x y z d ps) [([],
   [fb [P3] (hL (gh p l++[(9,l8 x y z d)])) 23,(((0:Int)<=if(60:Int)<(Int.ofNat d.length)then(60:Int)else(Int.ofNat d.length))/\(if(60:Int)<(Int.ofNat d.length)then(60:Int)else(Int.ofNat d.length))<=(Int.ofNat d.length)),(((0:Int)<=if(60:Int)<(Int.ofNat d.length)then(60:Int)else(Int.ofNat d.length))/\(if(60:Int)<(Int.ofNat d.length)then(60:Int)else(Int.ofNat d.length))<=(Int.ofNat d.length)),(([.agg [.dM false (s.cs.length) (fD s.cs),.dM false (s.ro.length) (fo s.ro)],.str (List.drop 0 (List.take (if(60:Int)<(Int.ofNat d.length)then(60:Int)else(Int.ofNat d.length)).toNat d)),.dM false (ps.length) (strs ps)]:ag)=[s.v,.str (e60 d),qN ps]/\(hL (gh p l++[(9,l8 x y z d)]))=(hL (gh p l++[(9,l8 x y z d)]))/\23=23)],
   .to .normal (sXr p l x y z d ps r))]
 :=by rcases p with⟨_|⟨_,_,_⟩,_⟩<;>exact cQ.of U U U
theorem xp5(q:gX)(l:List RS)(x y z:Int)(d:aa)(ps:List (aa))(r:RR):c7 (fC fV 15 [.ptr (some (4,0)),.str (e60 d),qN ps] (hL (gh p l++[(9,l8 x y z d),(10,FB r)])) 29 (.ef [.str r.dg,.int .i64 r.er],hL (Nh 29 q l++[(9,l8 x y z d),(10,FB r)]),(31+sh q))) [] 9 Tryz.f64 [0,3,6,7,8] (dK (de 5 tM)) (sXr p l x y z d ps r) [([],
   [(((0:Int)<=if(60:Int)<(Int.ofNat d.length)then(60:Int)else(Int.ofNat d.length))/\(if(60:Int)<(Int.ofNat d.length)then(60:Int)else(Int.ofNat d.length))<=(Int.ofNat d.length)),(([.ptr (some (4,0)),.str (List.drop 0 (List.take (if(60:Int)<(Int.ofNat d.length)then(60:Int)else(Int.ofNat d.length)).toNat d)),.dM false (ps.length) (strs ps)]:ag)=[.ptr (some (4,0)),.str (e60 d),qN ps]/\(hL (gh p l++[(9,l8 x y z d),(10,FB r)]))=(hL (gh p l++[(9,l8 x y z d),(10,FB r)]))/\29=29)],
   .to .normal (sXs q l x y z d r))]
 :=by rcases p with⟨_|⟨_,_,_⟩,_⟩<;>rcases q with⟨_|⟨_,_,_⟩,_⟩<;>exact cQ.of U U U
theorem xp6(d:aa)(r:RR):c7 fV [(67,.split)] 9 Tryz.f64 [6,7,8] (dK (de 6 tM)) (sXs p l x y z d r) [([((r.ch),true)],
   [(0+l.length*2<=(ff l).length),(0<1),(eT (l.length+1) 2 48=true)],
   .to .normal (sXv p (l.length+1) (List.take (l.length*2) (List.drop 0 (ff l))++[D.dM r.s.cs.length (fD r.s.cs),D.dM r.s.ro.length (fo r.s.ro)]) r [(7,.str r.dg),(8,.int .i64 r.er)])),
  ([((r.ch),false)],
   [],
   .to .normal (sXu p l r [(7,.str r.dg),(8,.int .i64 r.er)]))]
 :=by rcases p with⟨_|⟨_,_,_⟩,_⟩<;>exact cQ.of U U U
end
noncomputable abbrev zF:Code:=dS Tryz.f65
section
variable(p:gX)(l:List RS)(x y z:Int)(d w:aa)
def sYq:St:=eF [(0,P3),(3,.ptr (some (9,0))),(5,.str w)] (hL (gh p l++[(9,l8 x y z d)])) 10
def sYr(r:RR):St:=eF [(0,P3),(3,.ptr (some (9,0))),(5,.str w),(6,.ptr (some (10,0)))] (hL (gh p l++[(9,l8 x y z d),(10,FB r)])) 11
end
section
variable(p:gX)(l:List RS)(x y z:Int)(r:RR)
def sYs:St:=eF [(0,P3),(6,.ptr (some (11+sh p,0))),(7,.int .i64 r.er)] (hL (Nh 9 p l++[(11+sh p,FB r)])) (12+sh p)
theorem yp1(d w:aa):c7 (fC fV 89 [P3,.int .u8 z] (hL (gh p l++[(9,l8 x y z d)])) 10 (.str w,hL (gh p l++[(9,l8 x y z d)]),10)) [] 9 Tryz.f65 [0,3,5] (eO 2 zF) (cT [P3,rI x y z d] (hL (gh p l)) 9) [([],
   [fb [P3,.int .u8 z] (hL (gh p l++[(9,l8 x y z d)])) 10],
   .to .normal (sYq p l x y z d w))]
 :=by rcases p with⟨_|⟨_,_,_⟩,_⟩<;>exact cQ.of U U U
theorem yp2(d w:aa):c7 fV [(15,.split)] 9 Tryz.f65 [0,3,5] (dK (de 2 zF)) (sYq p l x y z d w) [([((y.tmod (4:Int)==(0:Int)),true)],
   [],
   .to .normal (sYq p l x y z d [])),
  ([((y.tmod (4:Int)==(0:Int)),false)],
   [],
   .to .normal (sYq p l x y z d w))]
 :=by rcases p with⟨_|⟨_,_,_⟩,_⟩<;>exact cQ.of U U U
theorem yp3(s:RS)(x y z:Int)(d w e:aa)(r:RR):c7 (fC (fC (fC fV 29 [P3] (hL (gh p l++[(9,l8 x y z d)])) 19 (s.v,hL (gh p l++[(9,l8 x y z d)]),19)) 91 [.int .u8 y] (hL (gh p l++[(9,l8 x y z d)])) 19 (.str e,hL (gh p l++[(9,l8 x y z d)]),19)) 90 [s.v,.str e,.str w] (hL (gh p l++[(9,l8 x y z d)])) 19 (r.v,hL (gh p l++[(9,l8 x y z d)]),19)) [] 9 Tryz.f65 [0,3,5,6] (dK (de 3 zF)) (sYq p l x y z d w) [([],
   [fb [P3] (hL (gh p l++[(9,l8 x y z d)])) 19,fb [.int .u8 y] (hL (gh p l++[(9,l8 x y z d)])) 19,fb [s.v,.str e,.str w] (hL (gh p l++[(9,l8 x y z d)])) 19],
   .to .normal (sYr p l x y z d w r))]
 :=by rcases p with⟨_|⟨_,_,_⟩,_⟩<;>exact cQ.of U U U
theorem yp4(q:gX)(l:List RS)(x y z:Int)(d w e:aa)(r:RR):c7 (fC (fC fV 91 [.int .u8 y] (hL (gh p l++[(9,l8 x y z d),(10,FB r)])) 21 (.str e,hL (gh p l++[(9,l8 x y z d),(10,FB r)]),21)) 16 [.ptr (some (4,0)),.str e,.str w] (hL (gh p l++[(9,l8 x y z d),(10,FB r)])) 21 (.int .i64 r.er,hL (Nh 21 q l++[(9,l8 x y z d),(10,FB r)]),(23+sh q))) [] 9 Tryz.f65 [0,6,7] (dK (de 4 zF)) (sYr p l x y z d w r) [([],
   [fb [.int .u8 y] (hL (gh p l++[(9,l8 x y z d),(10,FB r)])) 21,fb [.ptr (some (4,0)),.str e,.str w] (hL (gh p l++[(9,l8 x y z d),(10,FB r)])) 21],
   .to .normal (sYs q l r))]
 :=by rcases p with⟨_|⟨_,_,_⟩,_⟩<;>rcases q with⟨_|⟨_,_,_⟩,_⟩<;>exact cQ.of U U U
theorem yp5:c7 fV [(33,.split)] 9 Tryz.f65 [6,7] (dK (de 5 zF)) (sYs p l r) [([((r.ch),true)],
   [(0+l.length*2<=(ff l).length),(0<1),(eT (l.length+1) 2 48=true)],
   .to .normal (sXv p (l.length+1) (List.take (l.length*2) (List.drop 0 (ff l))++[D.dM r.s.cs.length (fD r.s.cs),D.dM r.s.ro.length (fo r.s.ro)]) r [(7,.int .i64 r.er)])),
  ([((r.ch),false)],
   [],
   .to .normal (sXu p l r [(7,.int .i64 r.er)]))]
 :=by rcases p with⟨_|⟨_,_,_⟩,_⟩<;>exact cQ.of U U U
end
def Ex(g c r:Nat)(p:gX):af:=[(0,.ints .u32 gS),(1,.ints .u32 gR),(3,.cells (wI g c r p))]++(match p.lo with|none=>[]|some (_,_,b)=>[(g,.iX 5 false b)])++[(c,.dy none p.es),(r,.dy none p.rs)]
def stR(p:gX):af:=match p.lo with
 |none=>Ex 0 7 8 p
 |some _=>Ex 7 8 9 p
def nS(p:gX):Nat:=match p.lo with|none=>9|some _=>10
def x5(f:FuncId)(rest:ag)(p:gX)(v:V)(q:gX):Prop:=cU ak f (P3::rest) (eu p) 7 v (hL (stR q)) (nS q)
theorem FC:15<Tryz.prog.funcs.size:=au U
theorem agV:37<Tryz.prog.funcs.size:=au U
theorem S3:89<Tryz.prog.funcs.size:=au U
theorem Wp(s:RS)(d:aa)(ps:List (aa))(h:Tr O)(n:Nat)(h1:s.cs.length<=100000)(h2:s.ro.length<=1000000)(h3:d.length<=65536)(h4:ps.length<=1024)(h5:∀x∈ps,x.length=32):
  cU ak 37 [s.v,.str d,qN ps] h n (ld s d ps).v h n:=by
 have key:cU ak 37 [s.v,.str d,qN ps] h n (ld ⟨gw (fD s.cs),pg (fo s.ro)⟩ d (dH (strs ps))).v h n:=by
  intro E w c9 ra g hd;refine SF.2 _ h n (okS s++[s.cs.length<=100000,strs ps=strs (dH (strs ps)),ps.length=(dH (strs ps)).length,d.length<=65536,ps.length<=1024,∀x∈dH (strs ps),x.length=32]) _ _ _ rfl ?_ E w c9 ra g hd U;refine jB (Dz be h2) ?_;rw[ir];exact fm h1 (fm rfl (fm rfl (fm h3 (fm h4 (eR h5)))))
 rw[jM,rF,ir]at key;exact key
theorem S4(d:aa):((0:Int)<=if(60:Int)<(Int.ofNat d.length)then(60:Int)else(Int.ofNat d.length))/\(if(60:Int)<(Int.ofNat d.length)then(60:Int)else(Int.ofNat d.length))<=(Int.ofNat d.length):=by
 have hO:∀n:Nat,Int.ofNat n=(n:Int):=fun _=>rfl;rw[hO];split<;>constructor<;>omega
theorem S5(d:aa):e60 d=d.take 60:=by
 unfold e60;rw[bu];split
 . rfl
 . rename_i h;have:d.length<=60:=by have h:¬((60:Int)<(d.length:Int)):=h;omega
   rw[bq this,bq (by simp)]
theorem Wq{ps:List (aa)}(w:aa):List.take (ps.length*1) (List.drop 0 (strs ps))++[D.str w]=strs (ps++[w]):=by
 rw[bu,bj,bq (by rw[eJ];exact aA _),Ds];rfl
theorem Ni{l:List RS}(r:RS):List.take (l.length*2) (List.drop 0 (ff l))++[D.dM r.cs.length (fD r.cs),D.dM r.ro.length (fo r.ro)]=ff (l++[r]):=by
 rw[bu,bq (by rw[qa];exact aA _)];unfold ff;rw[aZ,cr];rfl
theorem Jp{k:Nat}(h:k<=1000000):eT k 2 48=true:=by
 unfold eT;exact bM ⟨be,be⟩
def kB(s:RS)(y z:Nat):List (aa):=(if 0<y%3/\0<s.cs.length then[kI s z]else[])++(if 1<y%3 then[kI s y]else[])
theorem AE{s:RS}(h:∀c∈s.cs,c.dg.length=32)(z:Nat):(kI s z).length=32:=by
 unfold kI;split
 . exact h _ (bY _)
 . exact SZ
theorem FD{s:RS}(h:∀c∈s.cs,c.dg.length=32)(y z:Nat):(kB s y z).length<=2/\∀x∈kB s y z,x.length=32:=by
 unfold kB;refine⟨?_,fun x hx=>?_⟩
 . rw[ax];split<;>split<;>simp
 . rcases aU.1 hx with q|q
   . split at q
     . rw[aq.1 q];exact AE h z
     . cases q
   . split at q
     . rw[aq.1 q];exact AE h y
     . cases q
theorem Hj(y k:Nat):decide ((y:Int).tmod (3:Int)>(k:Int))=decide (k<y%3):=by
 rw[cz be];exact decide_eq_decide.2 be
def vB(l:List RS)(r:RR):List RS:=if r.ch=true then l++[r.s]else l
section
variable(p:gX)(l:List RS)(s:RS)(x y z:Nat)(d:aa)
theorem agW(hy:y<=255)(hz:z<=255)(hs:s.cs.length<=100000)(hl:l.length<=1000){Q:Exit->St->Prop}
  (h:TG ak 9 Tryz.f64.ntmps (de 4 tM) (sXq p (l++[s]) x y z d (kB s y z)) Q):TG ak 9 Tryz.f64.ntmps tM (cT [P3,rI x y z d] (hL (gh p (l++[s]))) 9) Q:=by
 have h29:=m29 p l s be;have h89:=fun a (ha:a<=255)=>m89 p l s a ha be be;generalize l++[s]=fA at h29 h89 h ⊢;refine iO  2 ki (xp1 p fA x y z d) cR ?_;show TG _ _ _ (de 2 tM) _ _;refine cV U ?_;have k29:cU ak 29 [P3] (hL (gh p fA++[(9,l8 x y z d),(10,.cells [])])) 11 s.v (hL (gh p fA++[(9,l8 x y z d),(10,.cells [])])) 11:=
  uh (ns:=T7 p) h29 (by rcases p with⟨_|⟨_,_,_⟩,_⟩<;>kernel_rfl)
 have k89:cU ak 89 [P3,.int .u8 (z:Int)] (hL (gh p fA++[(9,l8 x y z d),(10,.cells [])])) 11 (.str (kI s z)) (hL (gh p fA++[(9,l8 x y z d),(10,.cells [])])) 11:=by
  have:=h89 z hz;generalize kI s z=w at this ⊢;exact uh (ns:=T7 p) this (by rcases p with⟨_|⟨_,_,_⟩,_⟩<;>kernel_rfl)
 have go3:∀ps,ps.length<=1->ps=(if 0<y%3/\0<s.cs.length then[kI s z]else[])->TG ak 9 Tryz.f64.ntmps (dV (de 2 tM)) (sXp p fA x y z d ps) Q:=by
  intro ps HA hpe;have rE:∀us,us=kB s y z->TG ak 9 Tryz.f64.ntmps (de 4 tM) (sXp p fA x y z d us) Q:=by
   intro us hus;subst hus;generalize kB s y z=us at h ⊢;refine xJ [10] (A:=[(strs us).length=us.length*1]) (s2:=eF [(0,P3),(3,.ptr (some (9,0))),(5,qN us)] ((hL (Pd p fA x y z d us)).set 10 none) 11) (by rcases p with⟨_|⟨_,_,_⟩,_⟩<;>kernel_rfl) (eR (by rw[eJ,bj])) ?_;exact c6 (live:=[0,3,5]) (by rcases p with⟨_|⟨_,_,_⟩,_⟩<;>kernel_rfl) h
  have ao2:cU ak 89 [P3,.int .u8 (y:Int)] (hL (Pd p fA x y z d ps)) 11 (.str (kI s y)) (hL (Pd p fA x y z d ps)) 11:=by
   have:=h89 y hy;generalize kI s y=w at this ⊢;exact uh (ns:=T7 p) this (by rcases p with⟨_|⟨_,_,_⟩,_⟩<;>kernel_rfl)
  show TG _ _ _ (de 3 tM) _ _;refine cV U ?_;obtain⟨L3,wv⟩:=xp3 p fA x y z d ps (kI s y);rw[Wq]at wv;refine gy (ki.jt S3 ao2) mo lT U wv fun g hg hc=>?_;rcases iV hg with rfl|rfl
  . have c1:=hc _ (aq.2 rfl);have c1:decide (1<y%3)=true:=(Hj y 1).symm.trans c1;refine⟨fm ⟨rfl,rfl,rfl⟩ (fm (by rw[eJ];omega) (fm dP (eR (pT be)))),fun s' dL=>c6 dL ?_⟩;have:=rE (ps++[kI s y]) (by rw[hpe];unfold kB;rw[aG (aH c1)]);unfold sXp at this;rw[ax]at this;exact this
  . have c1:=hc _ (aq.2 rfl);have c1:decide (1<y%3)=false:=(Hj y 1).symm.trans c1;refine⟨cR,fun s' dL=>c6 dL ?_⟩;exact rE ps (by rw[hpe];unfold kB;rw[aI (c:=1<y%3) (aJ c1),ct])
 refine fR ((ki.jt Fz k29).jt S3 k89) (xp2 p fA s x y z d (kI s z)) fun g hg hc=>?_;rcases xQ hg with rfl|rfl|rfl
 . have c1:decide (0<y%3)=true:=(Hj y 0).symm.trans (hc _ (aP ..));have c2:=aH (hc _ (aK _ (aq.2 rfl)));refine⟨fm ⟨rfl,rfl,rfl⟩ (eR ⟨rfl,rfl,rfl⟩),fun s' dL=>c6 dL ?_⟩;have:=go3 [kI s z] (aA 1) (by rw[aG ⟨aH c1,by rw[kZ]at c2;omega⟩]);exact tF [10] (by rcases p with⟨_|⟨_,_,_⟩,_⟩<;>kernel_rfl) this
 . have c2:=aJ (hc _ (aK _ (aq.2 rfl)));refine⟨eR ⟨rfl,rfl,rfl⟩,fun s' dL=>c6 dL ?_⟩;have:=go3 [] (aY 1) (by rw[aI fun q=>c2 dh]);exact tF [10] (by rcases p with⟨_|⟨_,_,_⟩,_⟩<;>kernel_rfl) this
 . have c1:decide (0<y%3)=false:=(Hj y 0).symm.trans (hc _ (aq.2 rfl));refine⟨cR,fun s' dL=>c6 dL ?_⟩;have:=go3 [] (aY 1) (by rw[aI fun q=>aJ c1 q.1]);exact tF [10] (by rcases p with⟨_|⟨_,_,_⟩,_⟩<;>kernel_rfl) this
end
section
variable(p:gX)(m:Nat)(l:List RS)(r:RR)
theorem xp7(R:ai)(r:RR):c7 fV [(82,.dc (.bool true)),(87,.dc (.bool true))] 9 Tryz.f64 [] (de 7 tM) (sXv p m R r [(7,.str r.dg),(8,.int .i64 r.er)]) [([],
   [(V.bool (eG r.dg r.dg)=V.bool true),(V.bool (r.er==r.er)=V.bool true)],
   .ret (.bool true) (hL (moD 9 p m R)) (12+sh p))]
 :=by rcases p with⟨_|⟨_,_,_⟩,_⟩<;>exact cQ.of U U U
theorem xp8:c7 fV [(82,.dc (.bool true)),(87,.dc (.bool true))] 9 Tryz.f64 [] (de 7 tM) (sXu p l r [(7,.str r.dg),(8,.int .i64 r.er)]) [([],
   [(V.bool (eG r.dg r.dg)=V.bool true),(V.bool (r.er==r.er)=V.bool true)],
   .ret (.bool true) (hL (Nh 9 p l)) (11+sh p))]
 :=by rcases p with⟨_|⟨_,_,_⟩,_⟩<;>exact cQ.of U U U
theorem yp7(R:ai)(r:RR):c7 fV [(48,.dc (.bool true))] 9 Tryz.f65 [] (de 6 zF) (sXv p m R r [(7,.int .i64 r.er)]) [([],
   [(V.bool (r.er==r.er)=V.bool true)],
   .ret (.bool true) (hL (moD 9 p m R)) (12+sh p))]
 :=by rcases p with⟨_|⟨_,_,_⟩,_⟩<;>exact cQ.of U U U
theorem yp8:c7 fV [(48,.dc (.bool true))] 9 Tryz.f65 [] (de 6 zF) (sXu p l r [(7,.int .i64 r.er)]) [([],
   [(V.bool (r.er==r.er)=V.bool true)],
   .ret (.bool true) (hL (Nh 9 p l)) (11+sh p))]
 :=by rcases p with⟨_|⟨_,_,_⟩,_⟩<;>exact cQ.of U U U
end
theorem agX{f:FuncId}{args:ag}{h:Tr O}{v:V}(p:gX)(l:List RS)(hd:v= .bool true)(c:cU ak f args h 9 v (hL (Nh 9 p l)) (11+sh p)):cU ak f args h 9 v (hL (ur p l)) (nR p):=by
 subst hd;exact c.DD 5 (by rcases p with⟨_|⟨_,_,_⟩,_⟩<;>kernel_rfl)
theorem agY:90<Tryz.prog.funcs.size:=au U
theorem YF:91<Tryz.prog.funcs.size:=au U
theorem Wr(s:RS)(a x:aa)(h:Tr O)(n:Nat)(h1:s.cs.length<=100000)(h2:s.ro.length<64)(h3:a≠[])(h4:a.length<=64):cU ak 90 [s.v,.str a,.str x] h n (oP s a x).v h n:=by
 have key:cU ak 90 [s.v,.str a,.str x] h n (oP ⟨gw (fD s.cs),pg (fo s.ro)⟩ a x).v h n:=by
  intro E w c9 ra g hd;refine SG.2 _ h n (okS s++[s.ro.length<64,a≠[],a.length<=64]) _ _ _ rfl ?_ E w c9 ra g hd U;exact jB (Dz be be) (fm h2 (fm h3 (eR h4)))
 rw[jM,rF]at key;exact key
theorem Ws(y:Nat)(hy:y<=255)(h:Tr O)(n:Nat):cU ak 91 [.int .u8 (y:Int)] h n (.str (Nf y)) h n:=by
 intro E w c9 ra g hd;exact S0.2 _ h n [(0:Int)<=(y:Int)/\(y:Int)<=255] _ _ _ rfl (eR ⟨az _,be⟩) E w c9 ra g hd U
theorem S6(a:aa):V.bool (eG a a)=V.bool true:=by rw[ga,cE]
theorem Hl(a:Int):V.bool (a==a)=V.bool true:=by rw[cE]
theorem Nj(p:gX){f:FuncId}{args:ag}{h:Tr O}(fA:List RS)(r:RR)
  (h1:r.ch=true->cU ak f args h 9 (.bool true) (hL (moD 9 p (fA.length+1) (ff (fA++[r.s])))) (12+sh p)) (h2:r.ch=false->cU ak f args h 9 (.bool true) (hL (Nh 9 p fA)) (11+sh p)):cU ak f args h 9 (.bool true) (hL (ur p (vB fA r))) (nR p):=by
 cases hc:r.ch with
 |true=>
  have:=h1 hc;rw[show fA.length+1=(fA++[r.s]).length from by simp]at this;unfold vB;rw[aG hc];exact this
 |false=>unfold vB;rw[aI (by rw[hc];decide)];exact agX p fA rfl (h2 hc)
theorem m64(p:gX)(q:gX)(l:List RS)(s:RS)(x y z:Nat)(d:aa)(hy:y<=255)(hz:z<=255)(hs:s.cs.length<=100000)(hr:s.ro.length<=1000000)(h32:∀c∈s.cs,c.dg.length=32)(hl:l.length<=999)
  (hS:x5 15 [.str (d.take 60),qN (kB s y z)] p (.ef [.str (ld s (d.take 60) (kB s y z)).dg,.int .i64 (ld s (d.take 60) (kB s y z)).er]) q):
  cU ak 64 [P3,rI x y z d] (hL (gh p (l++[s]))) 9 (.bool true) (hL (ur q (vB (l++[s]) (ld s (d.take 60) (kB s y z))))) (nR q):=by
 have HA:=FD h32 y z;have h29:=m29 p l s be;have h37:=fun(h:Tr O) (n:Nat)=>Wp s (d.take 60) (kB s y z) h n hs hr (by rw[aX];omega) be HA.2;have pA:(l++[s]).length<=1000:=by rw[ax];simp;omega
 have go:∀Q,TG ak 9 Tryz.f64.ntmps (de 6 tM) (sXs q (l++[s]) x y z d (ld s (d.take 60) (kB s y z))) Q->TG ak 9 Tryz.f64.ntmps tM (cT [P3,rI x y z d] (hL (gh p (l++[s]))) 9) Q:=by
  intro Q h;refine agW p l s x y z d hy hz hs be ?_;generalize l++[s]=fA at h29 h ⊢;rw[<- S5]at hS h37 h;generalize ld s (e60 d) (kB s y z)=r at hS h37 h;generalize kB s y z=ps at hS h37 ⊢;have k29:cU ak 29 [P3] (hL (gh p fA++[(9,l8 x y z d)])) 23 s.v (hL (gh p fA++[(9,l8 x y z d)])) 23:=
   uh (ns:=T7 p) h29 (by rcases p with⟨_|⟨_,_,_⟩,_⟩<;>kernel_rfl)
  refine cV U ?_;refine fR ((ki.jt Fz k29).jt agV (h37 _ _)) (xp4 p fA s x y z d ps r) (dG ?_);refine⟨fm ⟨rfl,rfl,rfl⟩ (fm (S4 d) (fm (S4 d) (eR ⟨rfl,rfl,rfl⟩))),fun s' dL=>c6 dL ?_⟩;show TG ak 9 Tryz.f64.ntmps (de 5 tM) (sXr p fA x y z d ps r) Q;refine cV U ?_;have hS2:cU ak 15 [.ptr (some (4,0)),.str (e60 d),qN ps] (hL (gh p fA++[(9,l8 x y z d),(10,FB r)])) 29 (.ef [.str r.dg,.int .i64 r.er]) (hL (Nh 29 q fA++[(9,l8 x y z d),(10,FB r)])) (31+sh q):=by
   generalize e60 d=e at hS ⊢;exact tN (ns:=T8 p) hS 29 (by rcases p with⟨_|⟨_,_,_⟩,_⟩<;>rcases q with⟨_|⟨_,_,_⟩,_⟩<;>kernel_rfl)
  refine fR (ki.jt FC hS2) (xp5 p q fA x y z d ps r) (dG ?_);exact⟨fm (S4 d) (eR ⟨rfl,rfl,rfl⟩),fun s' dL=>c6 dL h⟩
 generalize ld s (d.take 60) (kB s y z)=r at go;generalize l++[s]=fA at go pA;refine Nj q fA r (fun hch=>?_) (fun hch=>?_)
 . refine c5 Tryz.func64 (code:=tM) U U (go _ ?_);refine cV U ?_;obtain⟨L6,HC⟩:=xp6 q fA x y z d r;rw[Ni]at HC;refine gy ki mo lT U HC fun g hg hc=>?_;rcases iV hg with rfl|rfl
   . refine⟨fm (by rw[qa];omega) (fm dP (eR (Jp be))),fun s' dL=>c6 dL ?_⟩;refine fu ki (xp7 q (fA.length+1) (ff (fA++[r.s])) r) (dG ?_);exact⟨fm (S6 _) (eR (Hl _)),_,_,_,rfl,rfl,rfl,rfl⟩
   . have c1:r.ch=false:=hc _ (aq.2 rfl);rw[hch]at c1;cases c1
 . refine c5 Tryz.func64 (code:=tM) U U (go _ ?_);refine cV U ?_;refine fR ki (xp6 q fA x y z d r) fun g hg hc=>?_;rcases iV hg with rfl|rfl
   . have c1:r.ch=true:=hc _ (aq.2 rfl);rw[hch]at c1;cases c1
   . refine⟨cR,fun s' dL=>c6 dL ?_⟩;refine fu ki (xp8 q fA r) (dG ?_);exact⟨fm (S6 _) (eR (Hl _)),_,_,_,rfl,rfl,rfl,rfl⟩
noncomputable abbrev DE:Code:=dS Tryz.f28
noncomputable abbrev agZ:Code:=dK (de 4 DE)
noncomputable abbrev S7:Code:=dx (dx (dV agZ))
noncomputable abbrev Jq:Code:=dx (dK (dV S7))
noncomputable abbrev ao4:Code:=dx (dx (de 4 Jq))
noncomputable abbrev ag0:Code:=dK (de 5 DE)
noncomputable abbrev abM:Code:=dx (dx (dV ag0))
def ckO(c:gP):O:=.cells [.str c.dg,.str c.da,.dM false c.rs.length (strs c.rs)]
section
variable(p:gX)(l:List RS)(w:RS)(zs:List (aa))(bs:List Bool)
def DF:af:=gh p l++[(9,bx w)]
def HE(c:gP):af:=gh p l++[(9,bx w),(10,ckO c)]
def sS(r:List (Nat×V)):St:=eF ([(0,P3),(3,.ptr (some (9,0))),(5,qN zs)]++r) (hL (DF p l w)) 10
def sT(c:gP)(i:Nat)(r:List (Nat×V)):St:=eF ([(0,P3),(3,.ptr (some (9,0))),(5,qN zs),(6,.dM false w.cs.length (lN bs)),(7,iW i),(8,.ptr (some (10,0)))]++r) (hL (HE p l w c)) 11
end
section
variable(p:gX)(l:List RS)(w:RS)
theorem sm1(zs:List (aa)):c7 (fC fV 23 [.ptr (some (4,0))] (hL (DF p l w)) 10 (qN zs,hL (DF p l w),10)) [] 9 Tryz.f28 [0,3,5] (eO 2 DE) (cT [P3,w.v] (hL (gh p l)) 9) [([],
   [fb [.ptr (some (4,0))] (hL (DF p l w)) 10],
   .to .normal (sS p l w zs []))]
 :=by rcases p with⟨_|⟨_,_,_⟩,_⟩<;>exact cQ.of U U U
theorem sm2(zs:List (aa))(i:Nat):c7 (fC fV 20 [.ptr (some (4,0))] (hL (DF p l w)) 27 (.int .i64 (Int.ofNat i),hL (DF p l w),27)) [(29,.split),(36,.split)] 9 Tryz.f28 [0,3,5] (dK (de 2 DE)) (sS p l w zs []) [([((Int.ofNat i !=(Int.ofNat w.cs.length)),true)],
   [fb [.ptr (some (4,0))] (hL (DF p l w)) 27],
   .ret (.bool false) (hL (gh p l)) 9),
  ([((Int.ofNat i !=(Int.ofNat w.cs.length)),false),(((Int.ofNat zs.length) !=(Int.ofNat w.ro.length)),true)],
   [fb [.ptr (some (4,0))] (hL (DF p l w)) 27],
   .ret (.bool false) (hL (gh p l)) 9),
  ([((Int.ofNat i !=(Int.ofNat w.cs.length)),false),(((Int.ofNat zs.length) !=(Int.ofNat w.ro.length)),false)],
   [fb [.ptr (some (4,0))] (hL (DF p l w)) 27],
   .to .normal (sS p l w zs []))]
 :=by rcases p with⟨_|⟨_,_,_⟩,_⟩<;>exact cQ.of U U U
end
section
variable(p:gX)(l:List RS)(w:RS)
theorem sm3(zs:List (aa))(bs:List Bool):c7 (fC fV 68 [w.v] (hL (DF p l w)) 10 (.dM false w.cs.length (lN bs),hL (DF p l w),10)) [] 9 Tryz.f28 [0,3,5,6] (dK (de 3 DE)) (sS p l w zs []) [([],
   [fb [w.v] (hL (DF p l w)) 10],
   .to .normal (sS p l w zs [(6,.dM false w.cs.length (lN bs))]))]
 :=by rcases p with⟨_|⟨_,_,_⟩,_⟩<;>exact cQ.of U U U
theorem sm4(zs:List (aa))(bs:List Bool):c7 fV [] 9 Tryz.f28 [0,3,5,6,7] (dK agZ) (sS p l w zs [(6,.dM false w.cs.length (lN bs))]) [([],
   [],
   .to .normal (sS p l w zs [(6,.dM false w.cs.length (lN bs)),(7,iW 0)]))]
 :=by rcases p with⟨_|⟨_,_,_⟩,_⟩<;>exact cQ.of U U U
theorem sm5(zs:List (aa))(bs:List Bool)(i:Nat):c7 fV [(44,.split)] 9 Tryz.f28 [0,3,5,6,7] (dK S7) (sS p l w zs [(6,.dM false w.cs.length (lN bs)),(7,iW i)]) [([((decide (Int.ofNat i<(Int.ofNat w.cs.length))),true)],
   [],
   .to .normal (sS p l w zs [(6,.dM false w.cs.length (lN bs)),(7,iW i)])),
  ([((decide (Int.ofNat i<(Int.ofNat w.cs.length))),false)],
   [],
   .to (.exit 0) (sS p l w zs [(6,.dM false w.cs.length (lN bs)),(7,iW i)]))]
 :=by rcases p with⟨_|⟨_,_,_⟩,_⟩<;>exact cQ.of U U U
theorem sm6(zs:List (aa))(bs:List Bool)(i:Nat)(c:gP):c7 (fC fV 25 [.ptr (some (4,0)),.str c.dg] (hL (HE p l w c)) 25 (.ef [.str c.da,qN c.rs,.int .i64 0],hL (HE p l w c),25)) [(50,.dc (.dw c.d))] 9 Tryz.f28 [0,3,5,6,7,8,9,10,11] (eO 2 Jq) (sS p l w zs [(6,.dM false w.cs.length (lN bs)),(7,iW i)]) [([],
   [((0:Int)<=Int.ofNat i/\Int.ofNat i<(Int.ofNat w.cs.length)),((fD w.cs).length=w.cs.length*3),(V.dw (dm (fD w.cs) (i*3) 3)=V.dw c.d),fb [.ptr (some (4,0)),.str c.dg] (hL (HE p l w c)) 25],
   .to .normal (sT p l w zs bs c i [(9,.str c.da),(10,qN c.rs),(11,.int .i64 0)]))]
 :=by rcases p with⟨_|⟨_,_,_⟩,_⟩<;>exact cQ.of U U U
theorem sm7(zs:List (aa))(bs:List Bool)(i:Nat)(c:gP)(lv rv:Bool):c7 (fC (fC fV 18 [.ptr (some (4,0)),.str c.dg] (hL (HE p l w c)) 51 (.bool true,hL (HE p l w c),51)) 17 [.ptr (some (4,0)),.str c.dg] (hL (HE p l w c)) 51 (.bool lv,hL (HE p l w c),51)) [(69,.dc (.bool false)),(77,.dc (.bool false)),(99,.dc (.dw [.bool rv])),(101,.split)] 9 Tryz.f28 [0,3,5,6,7,8,10] (dK (de 2 Jq)) (sT p l w zs bs c i [(9,.str c.da),(10,qN c.rs),(11,.int .i64 0)]) [([((!lv==rv),true)],
   [((V.bool !eG c.da c.da)=V.bool false),(V.bool ((Int.ofNat c.rs.length) !=(Int.ofNat c.rs.length))=V.bool false),fb [.ptr (some (4,0)),.str c.dg] (hL (HE p l w c)) 51,fb [.ptr (some (4,0)),.str c.dg] (hL (HE p l w c)) 51,((0:Int)<=Int.ofNat i/\Int.ofNat i<(Int.ofNat w.cs.length)),((lN bs).length=w.cs.length*1),(V.dw (dm (lN bs) (i*1) 1)=V.dw [D.bool rv])],
   .ret (.bool false) (hL (gh p l)) 9),
  ([((!lv==rv),false)],
   [((V.bool !eG c.da c.da)=V.bool false),(V.bool ((Int.ofNat c.rs.length) !=(Int.ofNat c.rs.length))=V.bool false),fb [.ptr (some (4,0)),.str c.dg] (hL (HE p l w c)) 51,fb [.ptr (some (4,0)),.str c.dg] (hL (HE p l w c)) 51,((0:Int)<=Int.ofNat i/\Int.ofNat i<(Int.ofNat w.cs.length)),((lN bs).length=w.cs.length*1),(V.dw (dm (lN bs) (i*1) 1)=V.dw [D.bool rv])],
   .to .normal (sT p l w zs bs c i [(10,qN c.rs)]))]
 :=by rcases p with⟨_|⟨_,_,_⟩,_⟩<;>exact cQ.of U U U
theorem sm8(zs:List (aa))(bs:List Bool)(i:Nat)(c:gP):c7 fV [] 9 Tryz.f28 [0,3,5,6,7,8,10,12] (dK (de 3 Jq)) (sT p l w zs bs c i [(10,qN c.rs)]) [([],
   [],
   .to .normal (sT p l w zs bs c i [(10,qN c.rs),(12,iW 0)]))]
 :=by rcases p with⟨_|⟨_,_,_⟩,_⟩<;>exact cQ.of U U U
theorem sm9(zs:List (aa))(bs:List Bool)(i e:Nat)(c:gP)(x:aa):c7 fV [(106,.split),(111,.dc (.dw [.str x])),(116,.dc (.dw [.str x])),(118,.dc (.bool false)),(108,.dc (iW (e+1)))] 9 Tryz.f28 [0,3,5,6,7,8,10,12] (ao4) (sT p l w zs bs c i [(10,qN c.rs),(12,iW e)]) [([((decide (Int.ofNat e<(Int.ofNat c.rs.length))),true)],
   [((0:Int)<=Int.ofNat e/\Int.ofNat e<(Int.ofNat c.rs.length)),((strs c.rs).length=c.rs.length*1),(V.dw (dm (strs c.rs) (e*1) 1)=V.dw [D.str x]),((0:Int)<=Int.ofNat e/\Int.ofNat e<(Int.ofNat c.rs.length)),((strs c.rs).length=c.rs.length*1),(V.dw (dm (strs c.rs) (e*1) 1)=V.dw [D.str x]),((V.bool !eG x x)=V.bool false),(V.int aj (IntKind.i64.wrap (Int.ofNat e+(1:Int)))=iW (e+1))],
   .to .normal (sT p l w zs bs c i [(10,qN c.rs),(12,iW (e+1))])),
  ([((decide (Int.ofNat e<(Int.ofNat c.rs.length))),false)],
   [],
   .to (.exit 2) (sT p l w zs bs c i [(10,qN c.rs),(12,iW e)]))]
 :=by rcases p with⟨_|⟨_,_,_⟩,_⟩<;>exact cQ.of U U U
theorem smA(zs:List (aa))(bs:List Bool)(i e:Nat)(c:gP):c7 fV [(46,.dc (iW (i+1)))] 9 Tryz.f28 [0,3,5,6,7] (dV (dV S7)) (sT p l w zs bs c i [(10,qN c.rs),(12,iW e)]) [([],
   [(V.int aj (IntKind.i64.wrap (Int.ofNat i+(1:Int)))=iW (i+1))],
   .to .normal (sS p l w zs [(6,.dM false w.cs.length (lN bs)),(7,iW (i+1))]))]
 :=by rcases p with⟨_|⟨_,_,_⟩,_⟩<;>exact cQ.of U U U
theorem smB(zs:List (aa))(bs:List Bool)(i:Nat):c7 fV [] 9 Tryz.f28 [0,3,5,13] (dK ag0) (sS p l w zs [(6,.dM false w.cs.length (lN bs)),(7,iW i)]) [([],
   [],
   .to .normal (sS p l w zs [(13,iW 0)]))]
 :=by rcases p with⟨_|⟨_,_,_⟩,_⟩<;>exact cQ.of U U U
theorem smE(zs:List (aa))(i:Nat):c7 fV [(122,.split)] 9 Tryz.f28 [0,3,5,13] (dK abM) (sS p l w zs [(13,iW i)]) [([((decide (Int.ofNat i<(Int.ofNat zs.length))),true)],
   [],
   .to .normal (sS p l w zs [(13,iW i)])),
  ([((decide (Int.ofNat i<(Int.ofNat zs.length))),false)],
   [],
   .to (.exit 4) (sS p l w zs [(13,iW i)]))]
 :=by rcases p with⟨_|⟨_,_,_⟩,_⟩<;>exact cQ.of U U U
theorem smC(zs:List (aa))(i:Nat)(x y nm dd:aa):c7 (fC fV 24 [.ptr (some (4,0)),.str x] (hL (DF p l w)) 24 (.ef [.str y,.bool true],hL (DF p l w),24)) [(132,.dc (.dw [.str x])),(139,.dc (.dw [.str x])),(144,.dc (.dw [.str nm,.str dd])),(147,.split),(153,.dc (.dw [.str nm,.str dd])),(156,.split),(124,.dc (iW (i+1)))] 9 Tryz.f28 [0,3,5,13] (dV abM) (sS p l w zs [(13,iW i)]) [([((!eG x nm),true)],
   [((0:Int)<=Int.ofNat i/\Int.ofNat i<(Int.ofNat zs.length)),((strs zs).length=zs.length*1),(V.dw (dm (strs zs) (i*1) 1)=V.dw [D.str x]),fb [.ptr (some (4,0)),.str x] (hL (DF p l w)) 24,((0:Int)<=Int.ofNat i/\Int.ofNat i<(Int.ofNat zs.length)),((strs zs).length=zs.length*1),(V.dw (dm (strs zs) (i*1) 1)=V.dw [D.str x]),((0:Int)<=Int.ofNat i/\Int.ofNat i<(Int.ofNat w.ro.length)),((fo w.ro).length=w.ro.length*2),(V.dw (dm (fo w.ro) (i*2) 2)=V.dw [D.str nm,D.str dd])],
   .ret (.bool false) (hL (gh p l)) 9),
  ([((!eG x nm),false),((!eG y dd),true)],
   [((0:Int)<=Int.ofNat i/\Int.ofNat i<(Int.ofNat zs.length)),((strs zs).length=zs.length*1),(V.dw (dm (strs zs) (i*1) 1)=V.dw [D.str x]),fb [.ptr (some (4,0)),.str x] (hL (DF p l w)) 24,((0:Int)<=Int.ofNat i/\Int.ofNat i<(Int.ofNat zs.length)),((strs zs).length=zs.length*1),(V.dw (dm (strs zs) (i*1) 1)=V.dw [D.str x]),((0:Int)<=Int.ofNat i/\Int.ofNat i<(Int.ofNat w.ro.length)),((fo w.ro).length=w.ro.length*2),(V.dw (dm (fo w.ro) (i*2) 2)=V.dw [D.str nm,D.str dd]),((0:Int)<=Int.ofNat i/\Int.ofNat i<(Int.ofNat w.ro.length)),((fo w.ro).length=w.ro.length*2),(V.dw (dm (fo w.ro) (i*2) 2)=V.dw [D.str nm,D.str dd])],
   .ret (.bool false) (hL (gh p l)) 9),
  ([((!eG x nm),false),((!eG y dd),false)],
   [((0:Int)<=Int.ofNat i/\Int.ofNat i<(Int.ofNat zs.length)),((strs zs).length=zs.length*1),(V.dw (dm (strs zs) (i*1) 1)=V.dw [D.str x]),fb [.ptr (some (4,0)),.str x] (hL (DF p l w)) 24,((0:Int)<=Int.ofNat i/\Int.ofNat i<(Int.ofNat zs.length)),((strs zs).length=zs.length*1),(V.dw (dm (strs zs) (i*1) 1)=V.dw [D.str x]),((0:Int)<=Int.ofNat i/\Int.ofNat i<(Int.ofNat w.ro.length)),((fo w.ro).length=w.ro.length*2),(V.dw (dm (fo w.ro) (i*2) 2)=V.dw [D.str nm,D.str dd]),((0:Int)<=Int.ofNat i/\Int.ofNat i<(Int.ofNat w.ro.length)),((fo w.ro).length=w.ro.length*2),(V.dw (dm (fo w.ro) (i*2) 2)=V.dw [D.str nm,D.str dd]),(V.int aj (IntKind.i64.wrap (Int.ofNat i+(1:Int)))=iW (i+1))],
   .to .normal (sS p l w zs [(13,iW (i+1))]))]
 :=by rcases p with⟨_|⟨_,_,_⟩,_⟩<;>exact cQ.of U U U
theorem smD(zs:List (aa))(i:Nat):c7 fV [] 9 Tryz.f28 [] (de 6 DE) (sS p l w zs [(13,iW i)]) [([],
   [],
   .ret (.bool true) (hL (gh p l)) 9)]
 :=by rcases p with⟨_|⟨_,_,_⟩,_⟩<;>exact cQ.of U U U
end
structure Obs(p:gX)(k:Nat)(zs:List (aa))(cs:List gP)(lv:aa->Bool)(yv:aa->aa):Prop where
 h23:cU ak 23 [P3] (eu p) 7 (qN zs) (eu p) 7
 h20:cU ak 20 [P3] (eu p) 7 (.int .i64 (Int.ofNat k)) (eu p) 7
 h25:∀c∈cs,cU ak 25 [P3,.str c.dg] (eu p) 7 (.ef [.str c.da,qN c.rs,.int .i64 0]) (eu p) 7
 h18:∀c∈cs,cU ak 18 [P3,.str c.dg] (eu p) 7 (.bool true) (eu p) 7
 h17:∀c∈cs,cU ak 17 [P3,.str c.dg] (eu p) 7 (.bool (lv c.dg)) (eu p) 7
 h24:∀x∈zs,cU ak 24 [P3,.str x] (eu p) 7 (.ef [.str (yv x),.bool true]) (eu p) 7
def sI(k:Nat)(zs:List (aa))(lv:aa->Bool)(yv:aa->aa)(w:RS):Bool:=
 decide (k=w.cs.length)&&(decide (zs.length=w.ro.length)&&(decide (w.cs.map (fun c=>lv c.dg)=fh w)&&decide (zs.map (fun x=>(x,yv x))=w.ro)))
theorem Wt(s:RS)(h:Tr O)(n:Nat)(h1:s.cs.length<=100000)(h2:s.ro.length<=1000000)(h3:∀c∈s.cs,c.rs.length<=100000):cU ak 68 [s.v] h n (.dM false s.cs.length (lN (fh s))) h n:=by
 have key:cU ak 68 [s.v] h n (.dM false s.cs.length (lN (fh ⟨gw (fD s.cs),pg (fo s.ro)⟩))) h n:=by
  intro E w c9 ra g hd;refine SP.2 _ h n (okS s++[s.cs.length<=100000,∀c∈gw (fD s.cs),c.rs.length<=100000]) _ _ _ rfl ?_ E w c9 ra g hd U;refine jB (Dz be h2) ?_;rw[jM];exact fm h1 (eR h3)
 rw[jM,rF]at key;exact key
theorem ag1:23<Tryz.prog.funcs.size:=au U
theorem FE:20<Tryz.prog.funcs.size:=au U
theorem ag2:25<Tryz.prog.funcs.size:=au U
theorem ag3:24<Tryz.prog.funcs.size:=au U
theorem ag4:68<Tryz.prog.funcs.size:=au U
def YG(b:Bool)(h0:Tr O)(v:V)(h:Tr O)(n:Nat):Prop:=v= .bool b/\h=h0/\n=9
theorem DG{a b:Nat}:(Int.ofNat a !=Int.ofNat b)=!decide (a=b):=by
 by_cases h:a=b
 . subst h;rw[bM rfl];exact bne_self_eq_false _
 . rw[bw h];exact bne_iff_ne.2 fun q=>h (Int.ofNat.inj q)
section
variable{α β:Type}{f:α->β}{l:List α}{bs:List β}{i:Nat}
theorem vC{c:α}{b:β}(hc:l[i]? =some c)(hb:bs[i]? =some b)(fP:f c≠b):l.map f≠bs:=fun e=>by
 subst e;rw[br,hc]at hb;exact fP (cC hb)
theorem Bj{c:α}{b:β}(hc:l[i]? =some c)(hb:bs[i]? =some b)(he:f c=b)(h:(l.take i).map f=bs.take i):(l.take (i+1)).map f=bs.take (i+1):=by
 rw[bI,bI,aZ,h,hc,hb];simp[he]
end
theorem YG.intro{b:Bool}{h:Tr O}:YG b h (.bool b) h 9:=⟨rfl,rfl,rfl⟩
section
variable(p:gX)(l:List RS)(w:RS){yQ:Nat}{zs:List (aa)}{cs:List gP}{lv:aa->Bool}{yv:aa->aa}
theorem abO(ho:Obs p yQ zs cs lv yv)(hz:zs.length=w.ro.length)(Hy:zs.length<=100000)(i0:Nat)(tv:Bool)(hb:tv=decide (zs.map (fun x=>(x,yv x))=w.ro))(bs:List Bool):
  TG ak 9 Tryz.f28.ntmps (de 5 DE) (sS p l w zs [(6,.dM false w.cs.length (lN bs)),(7,iW i0)]) (fH ak 9 Tryz.f28 (YG tv (hL (gh p l)))):=by
 refine cV U ?_;refine cV U ?_;refine fR ki (smB p l w zs bs i0) (dG ?_);refine⟨cR,fun s' dL=>?_⟩;refine j9 (α:=Nat) 4 (fun i=>zs.length-i) (fun i=>i<=zs.length/\(zs.take i).map (fun x=>(x,yv x))=w.ro.take i) (fun i=>sS p l w zs [(13,iW i)]) U U 0 ⟨aY _,rfl⟩ (.norm dL) fun i ⟨hi,he⟩=>?_;refine cV U ?_;refine fR ki (smE p l w zs i) fun g hg hc=>?_;rcases iV hg with rfl|rfl
 . have fJ:i<zs.length:=by have:=aH (hc _ (aq.2 rfl));rw[kZ,kZ]at this;omega
   clear hc;refine⟨cR,fun s0 F5=>c6 F5 ?_⟩;show TG ak 9 Tryz.f28.ntmps (dV abM) (sS p l w zs [(13,iW i)]) _;have hx:zs[i]? =some zs[i]:=ay fJ;have hr:w.ro[i]? =some (w.ro[i]'(by omega)):=ay be;have Pe:=aN V.dw (fI hx);have S8:=aN V.dw (Dv w.ro i be);have xC:zs[i]∈zs:=bY _;generalize zs[i]=x at *;generalize w.ro[i]'(by omega)=q at *;have h24:cU ak 24 [.ptr (some (4,0)),.str x] (hL (DF p l w)) 24 (.ef [.str (yv x),.bool true]) (hL (DF p l w)) 24:=by
    have:=ho.h24 x xC;generalize yv x=y at this ⊢;exact uh (ns:=T8 p) this (by rcases p with⟨_|⟨_,_,_⟩,_⟩<;>kernel_rfl)
   obtain⟨LC,hrC⟩:=smC p l w zs i x (yv x) q.1 q.2;have a1:(0:Int)<=Int.ofNat i/\Int.ofNat i<(Int.ofNat zs.length):=⟨az _,dh⟩;have a2:(strs zs).length=zs.length*1:=by rw[eJ,bj]
   have a3:(0:Int)<=Int.ofNat i/\Int.ofNat i<(Int.ofNat w.ro.length):=⟨az _,dh⟩;have a4:(fo w.ro).length=w.ro.length*2:=nv _;refine gy (ki.jt ag3 h24) mo (YG tv (hL (gh p l))) U hrC fun g hg hc=>?_;rcases xQ hg with rfl|rfl|rfl
   . have c2:=hc _ (aq.2 rfl);have c2:(!eG x q.1)=true:=c2;have fP:(x,yv x)≠q:=fun e=>by rw[<- e,ga,cE]at c2;cases c2
     obtain rfl:tv=false:=by rw[hb];exact bw (vC (f:=fun x=>(x,yv x)) hx hr fP)
     exact⟨fm a1 (fm a2 (fm Pe (fm ⟨rfl,rfl,rfl⟩ (fm a1 (fm a2 (fm Pe (fm a3 (fm a4 (eR S8))))))))),.intro,fun s1 fQ=>fQ⟩
   . have c2:=hc _ (aK _ (aq.2 rfl));have c2:(!eG (yv x) q.2)=true:=c2;have fP:(x,yv x)≠q:=fun e=>by rw[<- e,ga,cE]at c2;cases c2
     obtain rfl:tv=false:=by rw[hb];exact bw (vC (f:=fun x=>(x,yv x)) hx hr fP)
     exact⟨fm a1 (fm a2 (fm Pe (fm ⟨rfl,rfl,rfl⟩ (fm a1 (fm a2 (fm Pe (fm a3 (fm a4 (fm S8 (fm a3 (fm a4 (eR S8)))))))))))),.intro,fun s1 fQ=>fQ⟩
   . have c1:=hc _ (aP ..);have c2:=hc _ (aK _ (aq.2 rfl));have c1:(!eG x q.1)=false:=c1;have c2:(!eG (yv x) q.2)=false:=c2;have KC:(x,yv x)=q:=by
      rw[ga,Bool.not_eq_false']at c1 c2;exact Prod.ext (beq_iff_eq.1 c1) (beq_iff_eq.1 c2)
     refine⟨fm a1 (fm a2 (fm Pe (fm ⟨rfl,rfl,rfl⟩ (fm a1 (fm a2 (fm Pe (fm a3 (fm a4 (fm S8 (fm a3 (fm a4 (fm S8 (eR (pb dh be)))))))))))))),fun s1 fQ=>⟨i+1,by show zs.length-(i+1)<_;omega,⟨fJ,Bj (f:=fun x=>(x,yv x)) hx hr KC he⟩,.norm fQ⟩⟩
 . have Ae:=aJ (hc _ (aq.2 rfl));obtain rfl:i=zs.length:=by rw[kZ,kZ]at Ae;omega
   rw[aS,hz,aS]at he;obtain rfl:tv=true:=by rw[hb];exact bM he
   refine⟨cR,fun s1 fQ=>?_⟩;simp only[andThen,dY];refine c6 fQ ?_;refine fu ki (smD p l w zs zs.length) (dG ?_);exact⟨cR,_,_,_,rfl,.intro⟩
end
theorem YH{bs:List Bool}{i:Nat}{rv:Bool}(h:bs[i]? =some rv):V.dw (dm (lN bs) (i*1) 1)=V.dw [D.bool rv]:=by
 obtain⟨hi,e⟩:=aF.1 h;rw[DB hi,e]
section
variable(p:gX)(l:List RS)(w:RS){yQ:Nat}{zs:List (aa)}{lv:aa->Bool}{yv:aa->aa}
theorem abP(bs:List Bool)(i:Nat)(c:gP)(hrc:c.rs.length<=100000)(hi:i<=100000){Q:Exit->St->Prop}
  (pF:∀s',gu ak 9 Tryz.f28.ntmps s' (sS p l w zs [(6,.dM false w.cs.length (lN bs)),(7,iW (i+1))])->Q .normal s'):
  TG ak 9 Tryz.f28.ntmps (de 3 Jq) (sT p l w zs bs c i [(10,qN c.rs)]) (mj 1 (andThen (fun s'=>TG ak 9 Tryz.f28.ntmps (dV (dV S7)) s' Q) Q)):=by
 refine cV U ?_;refine fR ki (sm8 p l w zs bs i c) (dG ?_);refine⟨cR,fun s2 jd=>?_⟩;show TG ak 9 Tryz.f28.ntmps (de 4 Jq) _ _;refine jj 2 c.rs.length (fun a=>sT p l w zs bs c i [(10,qN c.rs),(12,iW a)]) U U (.norm jd) (fun a ha=>?_) ?_
 . have hx:c.rs[a]? =some c.rs[a]:=ay ha;have abQ:=aN V.dw (fI hx);generalize c.rs[a]=x at abQ hx;have b1:(0:Int)<=Int.ofNat a/\Int.ofNat a<(Int.ofNat c.rs.length):=⟨az _,dh⟩;have b2:(strs c.rs).length=c.rs.length*1:=by rw[eJ,bj]
   refine fR ki (sm9 p l w zs bs i a c x) fun g hg hc=>?_;rcases iV hg with rfl|rfl
   . exact⟨fm b1 (fm b2 (fm abQ (fm b1 (fm b2 (fm abQ (fm (by rw[ga,cE];rfl) (eR (pb dh be)))))))),fun s3 yb=>.norm yb⟩
   . exact absurd (aJ (hc _ (aq.2 rfl))) dh
 . refine fR ki (sm9 p l w zs bs i c.rs.length c []) fun g hg hc=>?_;rcases iV hg with rfl|rfl
   . exact absurd (aH (hc _ (aq.2 rfl))) dh
   refine⟨cR,fun s3 yb=>⟨by simp,?_⟩⟩;obtain⟨LA,hrA⟩:=smA p l w zs bs i c.rs.length c;simp only[dY,mj,andThen];refine c6 yb ?_;refine gy ki mo lT U hrA (dG ?_);exact⟨eR (pb dh be),fun s4 Jf=>pF s4 (.norm Jf)⟩
theorem abR(ho:Obs p yQ zs w.cs lv yv)(hl:w.cs.length<=100000)(w7:∀c∈w.cs,c.rs.length<=100000)(bs:List Bool)(hbs:bs.length=w.cs.length)(tv:Bool)(i:Nat)(c:gP)(rv:Bool)(rR:w.cs[i]? =some c)(Hz:bs[i]? =some rv)(htv:lv c.dg≠rv->tv=false){Q:Exit->St->Prop}
  (Lr:∀s',fH ak 9 Tryz.f28 (YG tv (hL (gh p l))) .ret s'->Q .ret s')
  (pF:lv c.dg=rv->∀s',gu ak 9 Tryz.f28.ntmps s' (sS p l w zs [(6,.dM false w.cs.length (lN bs)),(7,iW (i+1))])->Q .normal s'):
  TG ak 9 Tryz.f28.ntmps (dV S7) (sS p l w zs [(6,.dM false w.cs.length (lN bs)),(7,iW i)]) Q:=by
 have hi:i<w.cs.length:=(aF.1 rR).1;have iY:V.dw (dm (fD w.cs) (i*3) 3)=V.dw c.d:=by
  obtain⟨h1,h2⟩:=aF.1 rR;rw[<- h2];exact aN V.dw (xX w.cs i h1)
 have xC:c∈w.cs:=bf rR;have hrc:=w7 c xC;have a1:(0:Int)<=Int.ofNat i/\Int.ofNat i<(Int.ofNat w.cs.length):=⟨az _,dh⟩;have a2:(lN bs).length=w.cs.length*1:=by rw[q9];omega
 refine cV U ?_;have h25:cU ak 25 [.ptr (some (4,0)),.str c.dg] (hL (HE p l w c)) 25 (.ef [.str c.da,qN c.rs,.int .i64 0]) (hL (HE p l w c)) 25:=
  uh (ns:=T8 p) (ho.h25 c xC) (by rcases p with⟨_|⟨_,_,_⟩,_⟩<;>kernel_rfl)
 have h18:cU ak 18 [.ptr (some (4,0)),.str c.dg] (hL (HE p l w c)) 51 (.bool true) (hL (HE p l w c)) 51:=
  uh (ns:=T8 p) (ho.h18 c xC) (by rcases p with⟨_|⟨_,_,_⟩,_⟩<;>kernel_rfl)
 have h17:cU ak 17 [.ptr (some (4,0)),.str c.dg] (hL (HE p l w c)) 51 (.bool (lv c.dg)) (hL (HE p l w c)) 51:=by
  have:=ho.h17 c xC;generalize lv c.dg=lb at this ⊢;exact uh (ns:=T8 p) this (by rcases p with⟨_|⟨_,_,_⟩,_⟩<;>kernel_rfl)
 refine fg (i:=1) U ?_;refine iO  2 (ki.jt ag2 h25) (sm6 p l w zs bs i c) (fm a1 (fm (k8 _) (fm iY (eR ⟨rfl,rfl,rfl⟩)))) ?_;show TG ak 9 Tryz.f28.ntmps (de 2 Jq) (sT p l w zs bs c i [(9,.str c.da),(10,qN c.rs),(11,.int .i64 0)]) _;refine cV U ?_;obtain⟨L7,hr7⟩:=sm7 p l w zs bs i c (lv c.dg) rv;have c0:(V.bool !eG c.da c.da)=V.bool false:=by rw[ga,cE];rfl
 have c1:V.bool ((Int.ofNat c.rs.length) !=(Int.ofNat c.rs.length))=V.bool false:=by rw[bne_self_eq_false]
 refine gy ((ki.jt afC h18).jt afB h17) mo (YG tv (hL (gh p l))) U hr7 fun g hg hc=>?_;rcases iV hg with rfl|rfl
 . have c2:=hc _ (aq.2 rfl);have c2:(!lv c.dg==rv)=true:=c2;have fP:lv c.dg≠rv:=fun e=>by rw[e]at c2;cases rv<;>cases c2
   obtain rfl:=htv fP;exact⟨fm c0 (fm c1 (fm ⟨rfl,rfl,rfl⟩ (fm ⟨rfl,rfl,rfl⟩ (fm a1 (fm a2 (eR (YH Hz))))))),.intro,fun s1 fQ=>Lr s1 fQ⟩
 have c2:=hc _ (aq.2 rfl);have c2:(!lv c.dg==rv)=false:=c2;have KC:lv c.dg=rv:=by
  cases h1:lv c.dg<;>cases h2:rv<;>first|rfl|(rw[h1,h2]at c2;cases c2)
 refine⟨fm c0 (fm c1 (fm ⟨rfl,rfl,rfl⟩ (fm ⟨rfl,rfl,rfl⟩ (fm a1 (fm a2 (eR (YH Hz))))))),fun s1 fQ=>c6 fQ ?_⟩;show TG ak 9 Tryz.f28.ntmps (de 3 Jq) (sT p l w zs bs c i [(10,qN c.rs)]) _;exact abP p l w bs i c hrc be (pF KC)
end
noncomputable abbrev Jr:Code:=dS Tryz.f67
noncomputable abbrev ag5:Code:=dK (de 6 Jr)
section
variable(p:gX)(l:List RS)(kk:Int)(F t0 i:Nat)(w:RS)
noncomputable abbrev ag6:Code:=dx (dx (dV ag5))
def Wu:af:=Nh 9 p l
def Js(R:ai)(m0 i e:Nat):af:=[(0,.ints .u32 gS),(1,.ints .u32 gR),(3,.cells [.ptr (some (4,0)),.di (some (8,(0+i*2))) e (m0-i) 2]),(4,.cells (wI 9 (9+sh p) (10+sh p) p))]++lgB 9 p++[(9+sh p,.dy none p.es),(10+sh p,.dy none p.rs),(8,.deep R)]
def HF(r:List (Nat×V)):St:=eF ([(0,P3),(1,.int .i64 kk),(4,.bool false)]++r) (hL (Wu p l)) (11+sh p)
theorem cr1(q:gX)(l:List RS)(kk:Int):c7 (fC fV 31 [.ptr (some (4,0)),.di (some (9,0)) 1 1 1] (hL (gh p l++[(9,.cells [.int .i64 kk])])) 10 (.ef [],hL (Nh 10 q l),(12+sh q))) [] 9 Tryz.f67 [0,1,4,5,6] (eO 4 Jr) (cT [P3,.int .i64 kk] (hL (gh p l)) 9) [([],
   [fb [.ptr (some (4,0)),.di (some (9,0)) 1 1 1] (hL (gh p l++[(9,.cells [.int .i64 kk])])) 10],
   .to .normal (HF q l kk [(5,iW 0),(6,iW l.length)]))]
 :=by rcases p with⟨_|⟨_,_,_⟩,_⟩<;>rcases q with⟨_|⟨_,_,_⟩,_⟩<;>exact cQ.of U U U
theorem cr2:c7 fV [(21,.dc (iW t0)),(22,.split)] 9 Tryz.f67 [0,1,4,5,6] (dK (de 4 Jr)) (HF p l kk [(5,iW 0),(6,iW l.length)]) [([((Int.ofNat t0==(0:Int)),true)],
   [(V.int aj (IntKind.i64.wrap (Int.ofNat (BitVec.ofInt 64 kk&&&BitVec.ofInt 64 (255:Int)).toNat))=iW t0)],
   .to .normal (HF p l kk [(5,iW 0),(6,iW 1)])),
  ([((Int.ofNat t0==(0:Int)),false)],
   [(V.int aj (IntKind.i64.wrap (Int.ofNat (BitVec.ofInt 64 kk&&&BitVec.ofInt 64 (255:Int)).toNat))=iW t0)],
   .to .normal (HF p l kk [(5,iW 0),(6,iW l.length)]))]
 :=by rcases p with⟨_|⟨_,_,_⟩,_⟩<;>exact cQ.of U U U
theorem cr3(T:Nat):c7 fV [(24,.dc (iW t0)),(25,.split),(27,.dc (iW (T-1)))] 9 Tryz.f67 [0,1,4,5,6] (dK (de 5 Jr)) (HF p l kk [(5,iW 0),(6,iW T)]) [([((Int.ofNat t0==(255:Int)),true)],
   [(V.int aj (IntKind.i64.wrap (Int.ofNat (BitVec.ofInt 64 kk&&&BitVec.ofInt 64 (255:Int)).toNat))=iW t0),(V.int aj (IntKind.i64.wrap (Int.ofNat T-(1:Int)))=iW (T-1))],
   .to .normal (HF p l kk [(5,iW (T-1)),(6,iW T)])),
  ([((Int.ofNat t0==(255:Int)),false)],
   [(V.int aj (IntKind.i64.wrap (Int.ofNat (BitVec.ofInt 64 kk&&&BitVec.ofInt 64 (255:Int)).toNat))=iW t0)],
   .to .normal (HF p l kk [(5,iW 0),(6,iW T)]))]
 :=by rcases p with⟨_|⟨_,_,_⟩,_⟩<;>exact cQ.of U U U
theorem cr4(T:Nat):c7 fV [(29,.dc (iW (T-1)))] 9 Tryz.f67 [0,1,4,5,7] (dK ag5) (HF p l kk [(5,iW F),(6,iW T)]) [([],
   [(V.int aj (IntKind.i64.wrap (Int.ofNat T-(1:Int)))=iW (T-1))],
   .to .normal (HF p l kk [(5,iW F),(7,iW (T-1))]))]
 :=by rcases p with⟨_|⟨_,_,_⟩,_⟩<;>exact cQ.of U U U
theorem cr5:c7 (fC fV 28 [P3,w.v] (hL (Wu p l)) (11+sh p) (.bool false,hL (Wu p l),(11+sh p))) [(32,.split),(42,.dc w.v),(34,.dc (iW (i-1)))] 9 Tryz.f67 [0,1,4,5,7] (ag6) (HF p l kk [(5,iW F),(7,iW i)]) [([((decide (Int.ofNat i>=Int.ofNat F)),true)],
   [((0:Int)<=Int.ofNat i/\Int.ofNat i<(Int.ofNat l.length)),(0+i*2+2<=(ff l).length),(V.agg (D.jO (dm (ff l) (0+i*2) 2))=w.v),fb [P3,w.v] (hL (Wu p l)) (11+sh p),(V.int aj (IntKind.i64.wrap (Int.ofNat i-(1:Int)))=iW (i-1))],
   .to .normal (HF p l kk [(5,iW F),(7,iW (i-1))])),
  ([((decide (Int.ofNat i>=Int.ofNat F)),false)],
   [],
   .to (.exit 0) (HF p l kk [(5,iW F),(7,iW i)]))]
 :=by rcases p with⟨_|⟨_,_,_⟩,_⟩<;>exact cQ.of U U U
theorem cr6:c7 (fC fV 28 [P3,w.v] (hL (Wu p l)) (11+sh p) (.bool true,hL (Wu p l),(11+sh p))) [(32,.split),(42,.dc w.v),(51,.dc (iW (i+1)))] 9 Tryz.f67 [0,1,4,5,7] (ag6) (HF p l kk [(5,iW F),(7,iW i)]) [([((decide (Int.ofNat i>=Int.ofNat F)),true)],
   [((0:Int)<=Int.ofNat i/\Int.ofNat i<(Int.ofNat l.length)),(0+i*2+2<=(ff l).length),(V.agg (D.jO (dm (ff l) (0+i*2) 2))=w.v),fb [P3,w.v] (hL (Wu p l)) (11+sh p),(V.int aj (IntKind.i64.wrap (Int.ofNat i+(1:Int)))=iW (i+1)),((0:Int)<=Int.ofNat (i+1)/\Int.ofNat (i+1)<=(Int.ofNat l.length)),((0:Int)<=Int.ofNat i/\Int.ofNat i<=(Int.ofNat (i+1)))],
   .ret (.bool true) (hL (Js p (ff l) l.length i ((i+1)-i))) (11+sh p)),
  ([((decide (Int.ofNat i>=Int.ofNat F)),false)],
   [],
   .to (.exit 0) (HF p l kk [(5,iW F),(7,iW i)]))]
 :=by rcases p with⟨_|⟨_,_,_⟩,_⟩<;>exact cQ.of U U U
end
section
variable(p:gX)(l:List RS)(w:RS){yQ:Nat}{zs:List (aa)}{cs:List gP}{lv:aa->Bool}{yv:aa->aa}
theorem abS(ho:Obs p yQ zs w.cs lv yv)(hk:yQ=w.cs.length)(hz:zs.length=w.ro.length)(Hy:zs.length<=100000)(hl:w.cs.length<=100000)(w7:∀c∈w.cs,c.rs.length<=100000):
  TG ak 9 Tryz.f28.ntmps (de 3 DE) (sS p l w zs []) (fH ak 9 Tryz.f28 (YG (sI yQ zs lv yv w) (hL (gh p l)))):=by
 have hq:sI yQ zs lv yv w=(decide (w.cs.map (fun c=>lv c.dg)=fh w)&&decide (zs.map (fun x=>(x,yv x))=w.ro)):=by
  unfold sI;rw[bM hk,bM hz,Bool.true_and,Bool.true_and]
 rw[hq];have h68:=fun(h:Tr O) (n:Nat)=>Wt w h n hl be w7;have OV:=zC w;generalize fh w=bs at h68 OV;refine cV U ?_;refine fR (ki.jt ag4 (h68 _ _)) (sm3 p l w zs bs) (dG ?_);refine⟨eR ⟨rfl,rfl,rfl⟩,fun s' dL=>c6 dL ?_⟩;show TG ak 9 Tryz.f28.ntmps (de 4 DE) _ _;refine cV U ?_;refine cV U ?_;refine fR ki (sm4 p l w zs bs) (dG ?_);refine⟨cR,fun s' dL=>?_⟩;refine j9 (α:=Nat) 0 (fun i=>w.cs.length-i) (fun i=>i<=w.cs.length/\(w.cs.take i).map (fun c=>lv c.dg)=bs.take i) (fun i=>sS p l w zs [(6,.dM false w.cs.length (lN bs)),(7,iW i)]) U U 0 ⟨aY _,rfl⟩ (.norm dL) fun i ⟨hi,he⟩=>?_;refine cV U ?_;refine fR ki (sm5 p l w zs bs i) fun g hg hc=>?_;rcases iV hg with rfl|rfl
 . have fJ:i<w.cs.length:=by have:=aH (hc _ (aq.2 rfl));rw[kZ,kZ]at this;omega
   refine⟨cR,fun s0 F5=>c6 F5 ?_⟩;have rR:w.cs[i]? =some w.cs[i]:=ay fJ;have Hz:bs[i]? =some (bs[i]'(by omega)):=ay be;generalize w.cs[i]=c at rR;generalize bs[i]'(by omega)=rv at Hz;refine abR p l w ho hl w7 bs OV _ i c rv rR Hz (fun fP=>?_) (fun s1 h=>h) fun KC s1 fQ=>⟨i+1,by show w.cs.length-(i+1)<_;omega,⟨fJ,Bj (f:=fun c:gP=>lv c.dg) rR Hz KC he⟩,fQ⟩;rw[bw (vC (f:=fun c:gP=>lv c.dg) rR Hz fP),Bool.false_and]
 . have Ae:=aJ (hc _ (aq.2 rfl));obtain rfl:i=w.cs.length:=by rw[kZ,kZ]at Ae;omega
   rw[aS,<- OV,aS]at he;refine⟨cR,fun s1 fQ=>?_⟩;simp only[andThen,dY];refine c6 fQ ?_;exact abO p l w ho hz Hy w.cs.length _ (by rw[bM he,Bool.true_and]) bs
theorem m28(ho:Obs p yQ zs cs lv yv)(oV:yQ=w.cs.length->w.cs=cs)(Hy:zs.length<=100000)(hl:w.cs.length<=100000)(w7:∀c∈w.cs,c.rs.length<=100000):
  cU ak 28 [P3,w.v] (hL (gh p l)) 9 (.bool (sI yQ zs lv yv w)) (hL (gh p l)) 9:=by
 refine c5 Tryz.func28 (code:=DE) U U ?_;have h23:cU ak 23 [.ptr (some (4,0))] (hL (DF p l w)) 10 (qN zs) (hL (DF p l w)) 10:=
  uh (ns:=T8 p) ho.h23 (by rcases p with⟨_|⟨_,_,_⟩,_⟩<;>kernel_rfl)
 have h20:cU ak 20 [.ptr (some (4,0))] (hL (DF p l w)) 27 (.int .i64 (Int.ofNat yQ)) (hL (DF p l w)) 27:=
  uh (ns:=T8 p) ho.h20 (by rcases p with⟨_|⟨_,_,_⟩,_⟩<;>kernel_rfl)
 refine iO  2 (ki.jt ag1 h23) (sm1 p l w zs) (eR ⟨rfl,rfl,rfl⟩) ?_;show TG ak 9 Tryz.f28.ntmps (de 2 DE) _ _;refine cV U ?_;obtain⟨L2,Fc⟩:=sm2 p l w zs yQ;refine gy (ki.jt FE h20) mo (YG (sI yQ zs lv yv w) (hL (gh p l))) U Fc fun g hg hc=>?_;rcases xQ hg with rfl|rfl|rfl
 . have c1:=hc _ (aq.2 rfl);have c1:(Int.ofNat yQ !=Int.ofNat w.cs.length)=true:=c1;rw[DG,Bool.not_eq_true']at c1;have hf:sI yQ zs lv yv w=false:=by unfold sI;rw[c1,Bool.false_and]
   rw[hf];exact⟨eR ⟨rfl,rfl,rfl⟩,.intro,fun s1 fQ=>fQ⟩
 . have c1:=hc _ (aK _ (aq.2 rfl));have c1:(Int.ofNat zs.length !=Int.ofNat w.ro.length)=true:=c1;rw[DG,Bool.not_eq_true']at c1;have hf:sI yQ zs lv yv w=false:=by unfold sI;rw[c1,Bool.false_and,Bool.and_false]
   rw[hf];exact⟨eR ⟨rfl,rfl,rfl⟩,.intro,fun s1 fQ=>fQ⟩
 . have c0:=hc _ (aP ..);have c1:=hc _ (aK _ (aq.2 rfl));have c0:(Int.ofNat yQ !=Int.ofNat w.cs.length)=false:=c0;have c1:(Int.ofNat zs.length !=Int.ofNat w.ro.length)=false:=c1;rw[DG,Bool.not_eq_false']at c0 c1;have hk:=aH c0;have hz:=aH c1;refine⟨eR ⟨rfl,rfl,rfl⟩,fun s' dL=>c6 dL ?_⟩;have D9:=ho;rw[<- oV hk]at D9;exact abS p l w D9 hk hz Hy hl w7
end
theorem FF:31<Tryz.prog.funcs.size:=au U
theorem FG:28<Tryz.prog.funcs.size:=au U
section
variable(kk:Nat)(p:gX)(l:List RS)
def crR:af:=match p.lo with
 |none=>Ex 0 8 9 p
 |some _=>Ex 8 9 10 p
def nC:Nat:=match p.lo with|none=>10|some _=>11
def YI(kk:Int)(p q:gX):Prop:=cU ak 31 [P3,.di (some (7,0)) 1 1 1] (hL (eP p++[(7,.cells [.int .i64 kk])])) 8 (.ef []) (hL (crR q)) (nC q)
theorem AF{kk:Nat}(h:kk<=1000000):V.int aj (IntKind.i64.wrap (Int.ofNat (BitVec.ofInt 64 (kk:Int)&&&BitVec.ofInt 64 (255:Int)).toNat))=iW (kk%256):=by
 have e:(BitVec.ofInt 64 (kk:Int)&&&BitVec.ofInt 64 (255:Int)).toNat=kk%256:=by
  have h1:(BitVec.ofInt 64 (kk:Int)).toNat=kk:=by
   rw[BitVec.toNat_ofInt];omega
  rw[BitVec.toNat_and,h1,show(BitVec.ofInt 64 (255:Int)).toNat=2^8-1 from rfl,Nat.and_two_pow_sub_one_eq_mod]
 rw[e];exact aN _ (fE dh dh)
theorem zG{a b:Nat}:(Int.ofNat a==(b:Int))=decide (a=b):=by
 by_cases h:a=b
 . subst h;rw[bM rfl];exact cE _
 . rw[bw h];exact beq_eq_false_iff_ne.2 fun q=>h (Int.ofNat.inj q)
def FH:Nat:=if kk%256=0 then 1 else l.length
def YJ:Nat:=if kk%256=255 then FH kk l-1 else 0
theorem Pf(i:Nat)(w:RS)(h:l[i]? =some w):(List.drop (0+i*2) (ff l)).take (1*2)=ff [w]:=by
 obtain⟨hi,e⟩:=aF.1 h;have:=zD l i hi;rw[e]at this;unfold dm at this;rw[bE];exact this
def nsK:List (Option Nat):=[some 0,some 1,some 2,some 4,lgN 5 p,some 6,some 7,some 9]
abbrev nsN:List (Option Nat):=abJ 9 (9+sh p) (10+sh p) 8 p
end
theorem Nk{f:FuncId}{args:ag}{h:Tr O}(p:gX)(l:List RS)(i:Nat)(w:RS)(hw:l[i]? =some w)(hh:cU ak f args h 9 (.bool true) (hL (Js p (ff l) l.length i 1)) (11+sh p)):cU ak f args h 9 (.bool true) (hL (ur p [w])) (nR p):=by
 have e:=Pf l i w hw;have st:∀(R:ai) (m0:Nat),Step 9 (FA (.bool true) (hL (Js p R m0 i 1)) (11+sh p)) (FA (.bool true) (hL (moD 9 p 1 ((List.drop (0+i*2) R).take (1*2)))) (12+sh p)):=fun R m0=>
  by rcases p with⟨_|⟨_,_,_⟩,_⟩<;>exact(Step.rb 3 1 (s2:=_) rfl).trans (.DD 5 (live:=[0]) U)
 have:=hh.step (st _ _);rw[e]at this;exact this
section
variable(p:gX)(l:List RS)
theorem m67(kk:Nat)(hk:kk<=1000000)(hl:l.length<=1000)(h0:0<l.length)(j:Nat)(w0:RS)(hj:YJ kk l<=j/\j<FH kk l)(Q4:l[j]? =some w0)
  (hsm:∀(i:Nat) (w:RS),l[i]? =some w->j<=i->i<FH kk l->cU ak 28 [P3,w.v] (hL (gh p l)) 9 (.bool (decide (i=j))) (hL (gh p l)) 9):
  TG ak 9 Tryz.f67.ntmps (de 4 Jr) (HF p l (kk:Int) [(5,iW 0),(6,iW l.length)]) (fH ak 9 Tryz.f67 fun v h n9=>v= .bool true/\h=hL (Js p (ff l) l.length j 1)/\n9=(11+sh p)):=by
 have hT:FH kk l<=l.length:=by unfold FH;split<;>omega
 have ao6:∀(i:Nat) (w:RS),l[i]? =some w->j<=i->i<FH kk l->cU ak 28 [P3,w.v] (hL (Wu p l)) (11+sh p) (.bool (decide (i=j))) (hL (Wu p l)) (11+sh p):=by
  intro i w h1 h2 h3;have:=hsm i w h1 h2 h3;generalize decide (i=j)=tv at this ⊢;exact uh (ns:=nsN p) this (by rcases p with⟨_|⟨_,_,_⟩,_⟩<;>kernel_rfl)
 have go6:∀F T:Nat,F=YJ kk l->T=FH kk l->TG ak 9 Tryz.f67.ntmps (de 6 Jr) (HF p l (kk:Int) [(5,iW F),(6,iW T)]) (fH ak 9 Tryz.f67 fun v h n9=>v= .bool true/\h=hL (Js p (ff l) l.length j 1)/\n9=(11+sh p)):=by
  intro F T hF hTe;refine cV U ?_;refine cV U ?_;obtain⟨L4,Ef⟩:=cr4 p l (kk:Int) F T;have hT1:V.int aj (IntKind.i64.wrap (Int.ofNat T-(1:Int)))=iW (T-1):=aN _ (by rw[fE dh dh,kZ,kZ];omega);refine gy ki mo lT U Ef (dG ?_);refine⟨eR hT1,fun s' dL=>?_⟩;refine j9 (α:=Nat) 0 (fun i=>i) (fun i=>j<=i/\i<T) (fun i=>HF p l (kk:Int) [(5,iW F),(7,iW i)]) U U (T-1) ⟨be,be⟩ (.norm dL) fun i ⟨Zb,zM⟩=>?_;have Qg:i<l.length:=by omega
  have hw:l[i]? =some l[i]:=ay Qg;have iY:V.agg (D.jO (dm (ff l) (0+i*2) 2))=(l[i]).v:=by rw[bE,zD l i Qg];rfl
  have pA:0+i*2+2<=(ff l).length:=by rw[qa];omega
  have Yq:=ao6 i l[i] hw Zb be;generalize l[i]=w at iY hw Yq;have a1:(0:Int)<=Int.ofNat i/\Int.ofNat i<(Int.ofNat l.length):=⟨az _,dh⟩;by_cases Pu:i=j
  . subst Pu;rw[bM rfl]at Yq;obtain⟨L6,HC⟩:=cr6 p l (kk:Int) F i w;refine gy (ki.jt FG Yq) mo (fun v h n9=>v= .bool true/\h=hL (Js p (ff l) l.length i 1)/\n9=(11+sh p)) U HC fun g hg hc=>?_;rcases iV hg with rfl|rfl
    . refine⟨fm a1 (fm pA (fm iY (fm ⟨rfl,rfl,rfl⟩ (fm (pb dh be) (fm ⟨az _,dh⟩ (eR ⟨az _,dh⟩)))))),⟨rfl,?_,rfl⟩,fun s1 fQ=>fQ⟩;have e1:i+1-i=1:=by omega
      rw[e1]
    . exact absurd (aJ (hc _ (aq.2 rfl))) dh
  . rw[bw Pu]at Yq;refine fR (ki.jt FG Yq) (cr5 p l (kk:Int) F i w) fun g hg hc=>?_;rcases iV hg with rfl|rfl
    . refine⟨fm a1 (fm pA (fm iY (fm ⟨rfl,rfl,rfl⟩ (eR (aN _ (by rw[fE dh dh,kZ,kZ];omega)))))),fun s1 fQ=>⟨i-1,be,⟨be,be⟩,.norm fQ⟩⟩
    . exact absurd (aJ (hc _ (aq.2 rfl))) dh
 have go5:∀T:Nat,T=FH kk l->TG ak 9 Tryz.f67.ntmps (de 5 Jr) (HF p l (kk:Int) [(5,iW 0),(6,iW T)]) (fH ak 9 Tryz.f67 fun v h n9=>v= .bool true/\h=hL (Js p (ff l) l.length j 1)/\n9=(11+sh p)):=by
  intro T hTe;have hT1:V.int aj (IntKind.i64.wrap (Int.ofNat T-(1:Int)))=iW (T-1):=aN _ (by rw[fE dh dh,kZ,kZ];omega);refine cV U ?_;refine fR ki (cr3 p l (kk:Int) (kk%256) T) fun g hg hc=>?_;rcases iV hg with rfl|rfl
  . have c1:(Int.ofNat (kk%256)==((255:Nat):Int))=true:=hc _ (aq.2 rfl);rw[zG]at c1;exact⟨fm (AF hk) (eR hT1),fun s' dL=>c6 dL (go6 (T-1) T (by unfold YJ;rw[aG (aH c1),hTe]) hTe)⟩
  . have c1:(Int.ofNat (kk%256)==((255:Nat):Int))=false:=hc _ (aq.2 rfl);rw[zG]at c1;exact⟨eR (AF hk),fun s' dL=>c6 dL (go6 0 T (by unfold YJ;rw[aI (aJ c1)]) hTe)⟩
 refine cV U ?_;refine fR ki (cr2 p l (kk:Int) (kk%256)) fun g hg hc=>?_;rcases iV hg with rfl|rfl
 . have c1:(Int.ofNat (kk%256)==((0:Nat):Int))=true:=hc _ (aq.2 rfl);rw[zG]at c1;exact⟨eR (AF hk),fun s' dL=>c6 dL (go5 1 (by unfold FH;rw[aG (aH c1)]))⟩
 . have c1:(Int.ofNat (kk%256)==((0:Nat):Int))=false:=hc _ (aq.2 rfl);rw[zG]at c1;exact⟨eR (AF hk),fun s' dL=>c6 dL (go5 l.length (by unfold FH;rw[aI (aJ c1)]))⟩
end
theorem c67(p:gX)(q:gX)(l:List RS)(kk:Nat)(hk:kk<=1000000)(hl:l.length<=1000)(h0:0<l.length)(j0:Nat)(w0:RS)(hj:YJ kk l<=j0/\j0<FH kk l)(Q4:l[j0]? =some w0)(hC:YI (kk:Int) p q)
  (hsm:∀(i:Nat) (w:RS),l[i]? =some w->j0<=i->i<FH kk l->cU ak 28 [P3,w.v] (hL (gh q l)) 9 (.bool (decide (i=j0))) (hL (gh q l)) 9):
  cU ak 67 [P3,.int .i64 (kk:Int)] (hL (gh p l)) 9 (.bool true) (hL (ur q [w0])) (nR q):=by
 refine Nk q l j0 w0 Q4 (c5 Tryz.func67 (code:=Jr) U U ?_);have h31:cU ak 31 [.ptr (some (4,0)),.di (some (9,0)) 1 1 1] (hL (gh p l++[(9,.cells [.int .i64 (kk:Int)])])) 10 (.ef []) (hL (Nh 10 q l)) (12+sh q):=
  tN (ns:=nsK p) hC 10 (by rcases p with⟨_|⟨_,_,_⟩,_⟩<;>rcases q with⟨_|⟨_,_,_⟩,_⟩<;>kernel_rfl)
 obtain⟨L1,AR⟩:=cr1 p q l (kk:Int);exact kV 4 (ki.jt FF h31) mo U AR (eR ⟨rfl,rfl,rfl⟩) (m67 q l kk hk hl h0 j0 w0 hj Q4 hsm)
noncomputable abbrev x6:Code:=dS Tryz.f27
section
variable(p q:gX)(l l1:List RS)(x y z:Int)
def lD(d:aa):af:=gh p l++[(9,l8 x y z d)]
def lE(d:aa):af:=moA 10 p l++[(9,l8 x y z d)]
theorem d0(d:aa):c7 (fC fV 64 [P3,rI x y z d] (hL (lD p l x y z d)) 10 (.bool true,hL (lE q l1 x y z d),(13+sh q))) [(7,.dc (.int .u8 0))] 9 Tryz.f27 [] (x6) (cT [P3,rI x y z d] (hL (gh p l)) 9) [([],
   [(V.int IntKind.u8 (x.tmod (10:Int))=V.int IntKind.u8 (0:Int)),fb [P3,rI x y z d] (hL (lD p l x y z d)) 10],
   .ret (.bool true) (hL (ur q l1)) (nR q))]
 :=by rcases p with⟨_|⟨_,_,_⟩,_⟩<;>rcases q with⟨_|⟨_,_,_⟩,_⟩<;>exact cQ.of U U U
theorem d1(d:aa):c7 (fC fV 64 [P3,rI x y z d] (hL (lD p l x y z d)) 10 (.bool true,hL (lE q l1 x y z d),(13+sh q))) [(7,.dc (.int .u8 1))] 9 Tryz.f27 [] (x6) (cT [P3,rI x y z d] (hL (gh p l)) 9) [([],
   [(V.int IntKind.u8 (x.tmod (10:Int))=V.int IntKind.u8 (1:Int)),fb [P3,rI x y z d] (hL (lD p l x y z d)) 10],
   .ret (.bool true) (hL (ur q l1)) (nR q))]
 :=by rcases p with⟨_|⟨_,_,_⟩,_⟩<;>rcases q with⟨_|⟨_,_,_⟩,_⟩<;>exact cQ.of U U U
theorem d2(d:aa):c7 (fC fV 64 [P3,rI x y z d] (hL (lD p l x y z d)) 10 (.bool true,hL (lE q l1 x y z d),(13+sh q))) [(7,.dc (.int .u8 2))] 9 Tryz.f27 [] (x6) (cT [P3,rI x y z d] (hL (gh p l)) 9) [([],
   [(V.int IntKind.u8 (x.tmod (10:Int))=V.int IntKind.u8 (2:Int)),fb [P3,rI x y z d] (hL (lD p l x y z d)) 10],
   .ret (.bool true) (hL (ur q l1)) (nR q))]
 :=by rcases p with⟨_|⟨_,_,_⟩,_⟩<;>rcases q with⟨_|⟨_,_,_⟩,_⟩<;>exact cQ.of U U U
theorem d3(d:aa):c7 (fC fV 64 [P3,rI x y z d] (hL (lD p l x y z d)) 10 (.bool true,hL (lE q l1 x y z d),(13+sh q))) [(7,.dc (.int .u8 3))] 9 Tryz.f27 [] (x6) (cT [P3,rI x y z d] (hL (gh p l)) 9) [([],
   [(V.int IntKind.u8 (x.tmod (10:Int))=V.int IntKind.u8 (3:Int)),fb [P3,rI x y z d] (hL (lD p l x y z d)) 10],
   .ret (.bool true) (hL (ur q l1)) (nR q))]
 :=by rcases p with⟨_|⟨_,_,_⟩,_⟩<;>rcases q with⟨_|⟨_,_,_⟩,_⟩<;>exact cQ.of U U U
theorem d4(d:aa):c7 (fC fV 65 [P3,rI x y z d] (hL (lD p l x y z d)) 10 (.bool true,hL (lE q l1 x y z d),(13+sh q))) [(7,.dc (.int .u8 4))] 9 Tryz.f27 [] (x6) (cT [P3,rI x y z d] (hL (gh p l)) 9) [([],
   [(V.int IntKind.u8 (x.tmod (10:Int))=V.int IntKind.u8 (4:Int)),fb [P3,rI x y z d] (hL (lD p l x y z d)) 10],
   .ret (.bool true) (hL (ur q l1)) (nR q))]
 :=by rcases p with⟨_|⟨_,_,_⟩,_⟩<;>rcases q with⟨_|⟨_,_,_⟩,_⟩<;>exact cQ.of U U U
theorem d5(d:aa):c7 (fC fV 65 [P3,rI x y z d] (hL (lD p l x y z d)) 10 (.bool true,hL (lE q l1 x y z d),(13+sh q))) [(7,.dc (.int .u8 5))] 9 Tryz.f27 [] (x6) (cT [P3,rI x y z d] (hL (gh p l)) 9) [([],
   [(V.int IntKind.u8 (x.tmod (10:Int))=V.int IntKind.u8 (5:Int)),fb [P3,rI x y z d] (hL (lD p l x y z d)) 10],
   .ret (.bool true) (hL (ur q l1)) (nR q))]
 :=by rcases p with⟨_|⟨_,_,_⟩,_⟩<;>rcases q with⟨_|⟨_,_,_⟩,_⟩<;>exact cQ.of U U U
theorem d6(d:aa):c7 (fC fV 65 [P3,rI x y z d] (hL (lD p l x y z d)) 10 (.bool true,hL (lE q l1 x y z d),(13+sh q))) [(7,.dc (.int .u8 6))] 9 Tryz.f27 [] (x6) (cT [P3,rI x y z d] (hL (gh p l)) 9) [([],
   [(V.int IntKind.u8 (x.tmod (10:Int))=V.int IntKind.u8 (6:Int)),fb [P3,rI x y z d] (hL (lD p l x y z d)) 10],
   .ret (.bool true) (hL (ur q l1)) (nR q))]
 :=by rcases p with⟨_|⟨_,_,_⟩,_⟩<;>rcases q with⟨_|⟨_,_,_⟩,_⟩<;>exact cQ.of U U U
theorem d9(d:aa)(kk:Int):c7 (fC fV 67 [P3,.int .i64 kk] (hL (lD p l x y z d)) 10 (.bool true,hL (lE q l1 x y z d),(13+sh q))) [(7,.dc (.int .u8 9)),(70,.dc (.int .i64 kk))] 9 Tryz.f27 [] (x6) (cT [P3,rI x y z d] (hL (gh p l)) 9) [([],
   [(V.int IntKind.u8 (x.tmod (10:Int))=V.int IntKind.u8 (9:Int)),(V.int aj (IntKind.i64.wrap (IntKind.i64.wrap y*IntKind.i64.wrap ((1:Int)+IntKind.i64.wrap (IntKind.i64.wrap (z.tmod (2:Int))*(3:Int)))))=V.int aj kk),fb [P3,.int .i64 kk] (hL (lD p l x y z d)) 10],
   .ret (.bool true) (hL (ur q l1)) (nR q))]
 :=by rcases p with⟨_|⟨_,_,_⟩,_⟩<;>rcases q with⟨_|⟨_,_,_⟩,_⟩<;>exact cQ.of U U U
end
section
variable(p q:gX)(l:List RS)
def lF(g c r:Nat)(R:ai)(m0 i:Nat)(x y z:Int)(d:aa):af:=[(0,.ints .u32 gS),(1,.ints .u32 gR),(3,.cells [.ptr (some (4,0)),.di (some (8,(0+i*2))) (m0-i) (m0-i) 2]),(4,.cells (wI g c r p))]++lgB g p++[(c,.dy none p.es),(r,.dy none p.rs),(8,.deep R),(9,l8 x y z d)]
def lG(g c r a:Nat)(R:ai)(w:RS)(ex:af):af:=[(0,.ints .u32 gS),(1,.ints .u32 gR),(3,.cells [.ptr (some (4,0)),.di (some (a,0)) 1 1 2]),(4,.cells (wI g c r p))]++lgB g p++[(c,.dy none p.es),(r,.dy none p.rs),(8,.deep R)]++ex++[(a,bx w)]
theorem d7(i:Nat)(x y z:Int)(d:aa):c7 (fC fV 66 [.ptr (some (4,0))] (hL (lF p 5 6 7 (ff l) l.length i x y z d)) 25 (.int .i64 0,hL (lF q 25 (25+sh q) (26+sh q) (ff l) l.length i x y z d),(27+sh q))) [(7,.dc (.int .u8 7)),(35,.dc (iW i))] 9 Tryz.f27 [] (x6) (cT [P3,rI x y z d] (hL (gh p l)) 9) [([],
   [(V.int IntKind.u8 (x.tmod (10:Int))=V.int IntKind.u8 (7:Int)),(V.int aj (IntKind.i64.wrap ((Int.ofNat l.length)-(1:Int)))=iW i),((0:Int)<=Int.ofNat i/\Int.ofNat i<=(Int.ofNat l.length)),fb [.ptr (some (4,0))] (hL (lF p 5 6 7 (ff l) l.length i x y z d)) 25],
   .ret (.bool true) (hL (Js q (ff l) l.length i (l.length-i))) (11+sh q))]
 :=by rcases p with⟨_|⟨_,_,_⟩,_⟩<;>rcases q with⟨_|⟨_,_,_⟩,_⟩<;>exact cQ.of U U U
theorem d8(sn w:RS)(x y z:Int)(d:aa):c7 (fC (fC (fC fV 29 [P3] (hL (lD p l x y z d)) 10 (sn.v,hL (lD p l x y z d),10)) 32 [sn.v] (hL (lD p l x y z d)) 10 (w.v,hL (lD p l x y z d),10)) 19 [.ptr (some (4,0))] (hL (lG p 5 6 7 10 (ff l) w [(9,l8 x y z d)])) 11 (.int .i64 0,hL (lG q 11 (11+sh q) (12+sh q) 10 (ff l) w [(9,l8 x y z d)]),(13+sh q))) [(7,.dc (.int .u8 8))] 9 Tryz.f27 [] (x6) (cT [P3,rI x y z d] (hL (gh p l)) 9) [([],
   [(V.int IntKind.u8 (x.tmod (10:Int))=V.int IntKind.u8 (8:Int)),fb [P3] (hL (lD p l x y z d)) 10,fb [sn.v] (hL (lD p l x y z d)) 10,fb [.ptr (some (4,0))] (hL (lG p 5 6 7 10 (ff l) w [(9,l8 x y z d)])) 11],
   .ret (.bool true) (hL (lG q 9 (9+sh q) (10+sh q) (11+sh q) (ff l) w [])) (12+sh q))]
 :=by rcases p with⟨_|⟨_,_,_⟩,_⟩<;>rcases q with⟨_|⟨_,_,_⟩,_⟩<;>exact cQ.of U U U
end
def tX(s:RS)(y z:Nat):aa:=if y%4=0 then[]else kI s z
theorem Nl(y:Nat):((y:Int).tmod (4:Int)==(0:Int))=decide (y%4=0):=by
 rw[cz be];by_cases h:y%4=0
 . rw[bM h];exact beq_iff_eq.2 be
 . rw[bw h];exact beq_eq_false_iff_ne.2 be
theorem m65(p:gX)(q:gX)(l:List RS)(s:RS)(x y z:Nat)(d:aa)(hy:y<=255)(hz:z<=255)(hs:s.cs.length<=100000)(hr:s.ro.length<64)(hl:l.length<=999)
  (hS:x5 16 [.str (Nf y),.str (tX s y z)] p (.int .i64 (oP s (Nf y) (tX s y z)).er) q):
  cU ak 65 [P3,rI x y z d] (hL (gh p (l++[s]))) 9 (.bool true) (hL (ur q (vB (l++[s]) (oP s (Nf y) (tX s y z))))) (nR q):=by
 have h29:=m29 p l s be;have h89:=m89 p l s z hz be be;have Mp:=Wo y;have h90:=fun(h:Tr O) (n:Nat)=>Wr s (Nf y) (tX s y z) h n hs hr (fun e=>by rw[e]at Mp;cases Mp) be;have h91:=fun(h:Tr O) (n:Nat)=>Ws y hy h n;have pA:(l++[s]).length<=1000:=by rw[ax];simp;omega
 have go:∀Q,TG ak 9 Tryz.f65.ntmps (de 5 zF) (sYs q (l++[s]) (oP s (Nf y) (tX s y z))) Q->TG ak 9 Tryz.f65.ntmps zF (cT [P3,rI x y z d] (hL (gh p (l++[s]))) 9) Q:=by
  intro Q h;generalize l++[s]=fA at h29 h89 h ⊢;generalize oP s (Nf y) (tX s y z)=r at hS h90 h;have k89:cU ak 89 [P3,.int .u8 (z:Int)] (hL (gh p fA++[(9,l8 x y z d)])) 10 (.str (kI s z)) (hL (gh p fA++[(9,l8 x y z d)])) 10:=by
   generalize kI s z=w at h89 ⊢;exact uh (ns:=T7 p) h89 (by rcases p with⟨_|⟨_,_,_⟩,_⟩<;>kernel_rfl)
  refine iO  2 (ki.jt S3 k89) (yp1 p fA x y z d (kI s z)) (eR ⟨rfl,rfl,rfl⟩) ?_;show TG ak 9 Tryz.f65.ntmps (de 2 zF) (sYq p fA x y z d (kI s z)) Q;have go2:∀e,e=tX s y z->TG ak 9 Tryz.f65.ntmps (de 3 zF) (sYq p fA x y z d e) Q:=by
   intro e he;rw[<- he]at hS h90;clear he;have k29:cU ak 29 [P3] (hL (gh p fA++[(9,l8 x y z d)])) 19 s.v (hL (gh p fA++[(9,l8 x y z d)])) 19:=
    uh (ns:=T7 p) h29 (by rcases p with⟨_|⟨_,_,_⟩,_⟩<;>kernel_rfl)
   generalize Nf y=nm at hS h90 h91;refine cV U ?_;refine fR (((ki.jt Fz k29).jt YF (h91 _ _)).jt agY (h90 _ _)) (yp3 p fA s x y z d e nm r) (dG ?_);refine⟨fm ⟨rfl,rfl,rfl⟩ (fm ⟨rfl,rfl,rfl⟩ (eR ⟨rfl,rfl,rfl⟩)),fun s' dL=>c6 dL ?_⟩;show TG ak 9 Tryz.f65.ntmps (de 4 zF) (sYr p fA x y z d e r) Q;refine cV U ?_;have hS2:cU ak 16 [.ptr (some (4,0)),.str nm,.str e] (hL (gh p fA++[(9,l8 x y z d),(10,FB r)])) 21 (.int .i64 r.er) (hL (Nh 21 q fA++[(9,l8 x y z d),(10,FB r)])) (23+sh q):=
    tN (ns:=T8 p) hS 21 (by rcases p with⟨_|⟨_,_,_⟩,_⟩<;>rcases q with⟨_|⟨_,_,_⟩,_⟩<;>kernel_rfl)
   refine fR ((ki.jt YF (h91 _ _)).jt Ys hS2) (yp4 p q fA x y z d e nm r) (dG ?_);exact⟨fm ⟨rfl,rfl,rfl⟩ (eR ⟨rfl,rfl,rfl⟩),fun s' dL=>c6 dL h⟩
  refine cV U ?_;refine fR ki (yp2 p fA x y z d (kI s z)) fun g hg hc=>?_;rcases iV hg with rfl|rfl
  . have c1:decide (y%4=0)=true:=(Nl y).symm.trans (hc _ (aq.2 rfl));exact⟨cR,fun s' dL=>c6 dL (go2 [] (by unfold tX;rw[aG (aH c1)]))⟩
  . have c1:decide (y%4=0)=false:=(Nl y).symm.trans (hc _ (aq.2 rfl));exact⟨cR,fun s' dL=>c6 dL (go2 (kI s z) (by unfold tX;rw[aI (aJ c1)]))⟩
 generalize oP s (Nf y) (tX s y z)=r at go;generalize l++[s]=fA at go pA;refine Nj q fA r (fun hch=>?_) (fun hch=>?_)
 . refine c5 Tryz.func65 (code:=zF) U U (go _ ?_);refine cV U ?_;obtain⟨L6,HC⟩:=yp5 q fA r;rw[Ni]at HC;refine gy ki mo lT U HC fun g hg hc=>?_;rcases iV hg with rfl|rfl
   . refine⟨fm (by rw[qa];omega) (fm dP (eR (Jp be))),fun s' dL=>c6 dL ?_⟩;refine fu ki (yp7 q (fA.length+1) (ff (fA++[r.s])) r) (dG ?_);exact⟨eR (Hl _),_,_,_,rfl,rfl,rfl,rfl⟩
   . have c1:r.ch=false:=hc _ (aq.2 rfl);rw[hch]at c1;cases c1
 . refine c5 Tryz.func65 (code:=zF) U U (go _ ?_);refine cV U ?_;refine fR ki (yp5 q fA r) fun g hg hc=>?_;rcases iV hg with rfl|rfl
   . have c1:r.ch=true:=hc _ (aq.2 rfl);rw[hch]at c1;cases c1
   . refine⟨cR,fun s' dL=>c6 dL ?_⟩;refine fu ki (yp8 q fA r) (dG ?_);exact⟨eR (Hl _),_,_,_,rfl,rfl,rfl,rfl⟩
theorem Nn:64<Tryz.prog.funcs.size:=au U
theorem S9:65<Tryz.prog.funcs.size:=au U
theorem ag8:67<Tryz.prog.funcs.size:=au U
theorem ag9:32<Tryz.prog.funcs.size:=au U
theorem YK:19<Tryz.prog.funcs.size:=au U
theorem Ey{x v:Nat}(h:x%10=v):V.int IntKind.u8 ((x:Int).tmod (10:Int))=V.int IntKind.u8 (v:Int):=aN _ (by rw[cz be];omega)
def Wv(y z:Nat):Nat:=y*(1+z%2*3)
theorem abT{y z:Nat}(hy:y<=255):V.int aj (IntKind.i64.wrap (IntKind.i64.wrap (y:Int)*IntKind.i64.wrap ((1:Int)+IntKind.i64.wrap (IntKind.i64.wrap ((z:Int).tmod (2:Int))*(3:Int)))))=V.int aj ((Wv y z:Nat):Int):=by
 have e1:IntKind.i64.wrap (y:Int)=(y:Int):=fE be be;have hz:z%2=0\/z%2=1:=by omega
 have e2:(z:Int).tmod 2=((z%2:Nat):Int):=by rw[cz be];rfl
 rw[e1,e2];unfold Wv;rcases hz with h|h
 . rw[h,show IntKind.i64.wrap ((1:Int)+IntKind.i64.wrap (IntKind.i64.wrap ((0:Nat):Int)*3))=1 from rfl];exact aN _ (by rw[fE be be];simp)
 . rw[h,show IntKind.i64.wrap ((1:Int)+IntKind.i64.wrap (IntKind.i64.wrap ((1:Nat):Int)*3))=4 from rfl];exact aN _ (by rw[fE be be];simp)
theorem Ww(s:RS)(h:Tr O)(n:Nat)(h1:s.cs.length<=100000)(h2:s.ro.length<=1000000)(h3:∀c∈s.cs,c.rs.length<=100000):cU ak 32 [s.v] h n (iJ s).v h n:=by
 have key:cU ak 32 [s.v] h n (iJ ⟨gw (fD s.cs),pg (fo s.ro)⟩).v h n:=by
  intro E w c9 ra g hd;refine SU.2 _ h n (okS s++[s.cs.length<=100000,∀c∈gw (fD s.cs),c.rs.length<=100000]) _ _ _ rfl ?_ E w c9 ra g hd U;refine jB (Dz be h2) ?_;rw[jM];exact fm h1 (eR h3)
 rw[jM,rF]at key;exact key
section
variable(p:gX)(q:gX)(l l1:List RS)(x y z:Nat)(d:aa)
theorem ao8(hx:x%10<=3)(h:cU ak 64 [P3,rI x y z d] (hL (gh p l)) 9 (.bool true) (hL (ur q l1)) (nR q)):cU ak 27 [P3,rI x y z d] (hL (gh p l)) 9 (.bool true) (hL (ur q l1)) (nR q):=by
 have k1:cU ak 64 [P3,rI x y z d] (hL (lD p l x y z d)) 10 (.bool true) (hL (lE q l1 x y z d)) (13+sh q):=
  tN (ns:=T7 p) h 10 (by rcases p with⟨_|⟨_,_,_⟩,_⟩<;>rcases q with⟨_|⟨_,_,_⟩,_⟩<;>kernel_rfl)
 refine c5 Tryz.func27 (code:=x6) U U ?_;rcases(by omega:x%10=0\/x%10=1\/x%10=2\/x%10=3)with e|e|e|e
 . refine fu (ki.jt Nn k1) (d0 p q l l1 x y z d) (dG ?_);exact⟨fm (Ey e) (eR ⟨rfl,rfl,rfl⟩),_,_,_,rfl,rfl,rfl,rfl⟩
 . refine fu (ki.jt Nn k1) (d1 p q l l1 x y z d) (dG ?_);exact⟨fm (Ey e) (eR ⟨rfl,rfl,rfl⟩),_,_,_,rfl,rfl,rfl,rfl⟩
 . refine fu (ki.jt Nn k1) (d2 p q l l1 x y z d) (dG ?_);exact⟨fm (Ey e) (eR ⟨rfl,rfl,rfl⟩),_,_,_,rfl,rfl,rfl,rfl⟩
 . refine fu (ki.jt Nn k1) (d3 p q l l1 x y z d) (dG ?_);exact⟨fm (Ey e) (eR ⟨rfl,rfl,rfl⟩),_,_,_,rfl,rfl,rfl,rfl⟩
theorem ao9(hx:4<=x%10)(Qt:x%10<=6)(h:cU ak 65 [P3,rI x y z d] (hL (gh p l)) 9 (.bool true) (hL (ur q l1)) (nR q)):cU ak 27 [P3,rI x y z d] (hL (gh p l)) 9 (.bool true) (hL (ur q l1)) (nR q):=by
 have k1:cU ak 65 [P3,rI x y z d] (hL (lD p l x y z d)) 10 (.bool true) (hL (lE q l1 x y z d)) (13+sh q):=
  tN (ns:=T7 p) h 10 (by rcases p with⟨_|⟨_,_,_⟩,_⟩<;>rcases q with⟨_|⟨_,_,_⟩,_⟩<;>kernel_rfl)
 refine c5 Tryz.func27 (code:=x6) U U ?_;rcases(by omega:x%10=4\/x%10=5\/x%10=6)with e|e|e
 . refine fu (ki.jt S9 k1) (d4 p q l l1 x y z d) (dG ?_);exact⟨fm (Ey e) (eR ⟨rfl,rfl,rfl⟩),_,_,_,rfl,rfl,rfl,rfl⟩
 . refine fu (ki.jt S9 k1) (d5 p q l l1 x y z d) (dG ?_);exact⟨fm (Ey e) (eR ⟨rfl,rfl,rfl⟩),_,_,_,rfl,rfl,rfl,rfl⟩
 . refine fu (ki.jt S9 k1) (d6 p q l l1 x y z d) (dG ?_);exact⟨fm (Ey e) (eR ⟨rfl,rfl,rfl⟩),_,_,_,rfl,rfl,rfl,rfl⟩
theorem apa(hx:x%10=9)(hy:y<=255)(h:cU ak 67 [P3,.int .i64 ((Wv y z:Nat):Int)] (hL (gh p l)) 9 (.bool true) (hL (ur q l1)) (nR q)):cU ak 27 [P3,rI x y z d] (hL (gh p l)) 9 (.bool true) (hL (ur q l1)) (nR q):=by
 have k1:cU ak 67 [P3,.int .i64 ((Wv y z:Nat):Int)] (hL (lD p l x y z d)) 10 (.bool true) (hL (lE q l1 x y z d)) (13+sh q):=
  tN (ns:=T7 p) h 10 (by rcases p with⟨_|⟨_,_,_⟩,_⟩<;>rcases q with⟨_|⟨_,_,_⟩,_⟩<;>kernel_rfl)
 refine c5 Tryz.func27 (code:=x6) U U ?_;refine fu (ki.jt ag8 k1) (d9 p q l l1 x y z d ((Wv y z:Nat):Int)) (dG ?_);exact⟨fm (Ey hx) (fm (abT hy) (eR ⟨rfl,rfl,rfl⟩)),_,_,_,rfl,rfl,rfl,rfl⟩
theorem apb(s:RS)(hx:x%10=7)(hl:l.length<=1000)(h:x5 66 [] p (.int .i64 0) q):cU ak 27 [P3,rI x y z d] (hL (gh p (l++[s]))) 9 (.bool true) (hL (ur q [s])) (nR q):=by
 have pA:(l++[s]).length=l.length+1:=by rw[ax];rfl
 have iY:(l++[s])[l.length]? =some s:=by rw[cj (aA _),Nat.sub_self];rfl
 generalize l++[s]=fA at pA iY;refine Nk q fA l.length s iY ?_;refine c5 Tryz.func27 (code:=x6) U U ?_;obtain⟨L,hr⟩:=d7 p q fA l.length x y z d;have hi:V.int aj (IntKind.i64.wrap ((Int.ofNat fA.length)-(1:Int)))=iW l.length:=aN _ (by rw[pA,fE dh dh,kZ,kZ];omega);have hb:(0:Int)<=Int.ofNat l.length/\Int.ofNat l.length<=(Int.ofNat fA.length):=⟨az _,by rw[pA,kZ,kZ];omega⟩;have e1:fA.length-l.length=1:=by omega
 have k1:cU ak 66 [.ptr (some (4,0))] (hL (lF p 5 6 7 (ff fA) fA.length l.length x y z d)) 25 (.int .i64 0) (hL (lF q 25 (25+sh q) (26+sh q) (ff fA) fA.length l.length x y z d)) (27+sh q):=by
  generalize l.length=i0;generalize fA.length=m0;generalize ff fA=R;exact tN (ns:=T8 p) h 25 (by rcases p with⟨_|⟨_,_,_⟩,_⟩<;>rcases q with⟨_|⟨_,_,_⟩,_⟩<;>kernel_rfl)
 refine iq (ki.jt agO k1) mo _ U hr (dG ?_);exact⟨fm (Ey hx) (fm hi (fm hb (eR ⟨rfl,rfl,rfl⟩))),_,_,_,rfl,rfl,by rw[e1],rfl⟩
end
theorem apc(p:gX)(q:gX)(l:List RS)(sn:RS)(x y z:Nat)(d:aa)(hx:x%10=8)(hl:l.length<=1000)(h1:sn.cs.length<=100000)(h2:sn.ro.length<=1000000)(h3:∀c∈sn.cs,c.rs.length<=100000)(h:x5 19 [] p (.int .i64 0) q):
  cU ak 27 [P3,rI x y z d] (hL (gh p (l++[sn]))) 9 (.bool true) (hL (ur q [iJ sn])) (nR q):=by
 have h29:=m29 p l sn be;have h32:=fun(h:Tr O) (n:Nat)=>Ww sn h n h1 h2 h3;generalize l++[sn]=fA at h29 ⊢;generalize iJ sn=w at h32 ⊢;have k29:cU ak 29 [P3] (hL (lD p fA x y z d)) 10 sn.v (hL (lD p fA x y z d)) 10:=
  uh (ns:=T7 p) h29 (by rcases p with⟨_|⟨_,_,_⟩,_⟩<;>kernel_rfl)
 have k1:cU ak 19 [.ptr (some (4,0))] (hL (lG p 5 6 7 10 (ff fA) w [(9,l8 x y z d)])) 11 (.int .i64 0) (hL (lG q 11 (11+sh q) (12+sh q) 10 (ff fA) w [(9,l8 x y z d)])) (13+sh q):=by
  generalize ff fA=R;exact tN (ns:=T8 p) h 11 (by rcases p with⟨_|⟨_,_,_⟩,_⟩<;>rcases q with⟨_|⟨_,_,_⟩,_⟩<;>kernel_rfl)
 have key:cU ak 27 [P3,rI x y z d] (hL (gh p fA)) 9 (.bool true) (hL (lG q 9 (9+sh q) (10+sh q) (11+sh q) (ff fA) w [])) (12+sh q):=by
  refine c5 Tryz.func27 (code:=x6) U U ?_;refine fu (((ki.jt Fz k29).jt ag9 (h32 _ _)).jt YK k1) (d8 p q fA sn w x y z d) (dG ?_);exact⟨fm (Ey hx) (fm ⟨rfl,rfl,rfl⟩ (fm ⟨rfl,rfl,rfl⟩ (eR ⟨rfl,rfl,rfl⟩))),_,_,_,rfl,rfl,rfl,rfl⟩
 have st:∀R,Step 9 (FA (.bool true) (hL (lG q 9 (9+sh q) (10+sh q) (11+sh q) R w [])) (12+sh q)) (FA (.bool true) (hL (ur q [w])) (nR q)):=fun R=>
  (Step.deep [(11+sh q)] (s2:=FA (.bool true) (hL (moD 9 q 1 (ff [w])++[(8,.deep R)])) (12+sh q)) (by rcases q with⟨_|⟨_,_,_⟩,_⟩<;>kernel_rfl)).trans (.DD 5 (live:=[0]) (by rcases q with⟨_|⟨_,_,_⟩,_⟩<;>kernel_rfl))
 exact key.step (st _)
def oq:List gP->Nat->ae
 | [],_=>[]
 |c::l,i=>(.str c.dg,pU c.da c.rs (i:Int))::oq l (i+1)
theorem Jt:∀(a b:List gP) (i:Nat),oq (a++b) i=oq a i++oq b (i+a.length)
 | [],_,_=>rfl
 |c::a,b,i=>by
  show(_::oq (a++b) (i+1))=_::(oq a (i+1)++oq b (i+(a.length+1)));rw[Jt a b (i+1),show i+1+a.length=i+(a.length+1)by omega]
theorem Ju:∀(l:List gP) (i:Nat),(oq l i).length=l.length
 | [],_=>rfl
 |_::l,i=>aN (·+1) (Ju l (i+1))
theorem qb{x:aa}:∀{cs:List gP} {i:Nat},(∀c∈cs,c.dg≠x)->dj (.str x) (oq cs i)=none
 | [],_,_=>rfl
 |c::l,i,h=>by
  show dj (.str x) ((.str c.dg,_)::oq l (i+1))=none;rw[gm,aI (by intro q;simp only[D.str.injEq]at q;exact h c (by simp) q)];exact qb fun c hc=>h c (by simp[hc])
theorem lW:∀{cs:List gP} {i j:Nat} {c:gP},(cs.map gP.dg).Nodup->cs[j]? =some c->dj (.str c.dg) (oq cs i)=some (pU c.da c.rs ((i+j:Nat):Int))
 | [],_,_,_,_,h=>by simp at h
 |a::l,i,0,c,_,h=>by
  simp only[bG,an]at h;subst h;show dj (.str a.dg) ((.str a.dg,_)::oq l (i+1))=_;rw[gm,aG rfl];rfl
 |a::l,i,j+1,c,hn,h=>by
  simp only[cu]at h;rw[bW,cg]at hn;have hc:c∈l:=bf h;show dj (.str c.dg) ((.str a.dg,_)::oq l (i+1))=_;rw[gm,aI (by intro q;simp only[D.str.injEq]at q;exact hn.1 (by rw[q];exact bB.2 ⟨c,hc,rfl⟩)),lW hn.2 h,show i+1+j=i+(j+1)by omega]
theorem Jv{x:aa}:∀{cs:List gP} {i:Nat},(∀c∈cs,c.dg≠x)->sG x cs i= -1
 | [],_,_=>rfl
 |c::l,i,h=>by
  unfold sG;rw[aI (h c (by simp))];exact Jv fun c hc=>h c (by simp[hc])
theorem Jw:∀{cs:List gP} {i j:Nat} {c:gP},(cs.map gP.dg).Nodup->cs[j]? =some c->sG c.dg cs i=((i+j:Nat):Int)
 | [],_,_,_,_,h=>by simp at h
 |a::l,i,0,c,_,h=>by
  simp only[bG,an]at h;subst h;unfold sG;rw[aG rfl];rfl
 |a::l,i,j+1,c,hn,h=>by
  simp only[cu]at h;rw[bW,cg]at hn;have hc:c∈l:=bf h;unfold sG;rw[aI (fun q=>hn.1 (by rw[q];exact bB.2 ⟨c,hc,rfl⟩)),Jw hn.2 h,show i+1+j=i+(j+1)by omega]
section
variable{cs:List gP}{x:aa}
theorem sJ{j:Nat}{c:gP}(hn:(cs.map gP.dg).Nodup)(h:cs[j]? =some c):gp cs c.dg=(j:Int):=by
 unfold gp;rw[Jw hn h,bE]
theorem AG(cs:List gP)(x:aa):(∀c∈cs,c.dg≠x)\/∃(j:Nat) (c:gP),cs[j]? =some c/\c.dg=x:=by
 by_cases h:∃c∈cs,c.dg=x
 . obtain⟨c,hc,e⟩:=h;obtain⟨j,hj⟩:=bV.1 hc;exact .inr ⟨j,c,hj,e⟩
 . exact .inl fun c hc e=>h ⟨c,hc,e⟩
theorem qc(hn:(cs.map gP.dg).Nodup):gp cs x<0↔∀c∈cs,c.dg≠x:=by
 rcases AG cs x with h|⟨j,c,hj,rfl⟩
 . exact⟨fun _=>h,fun _=>by unfold gp;rw[Jv h];decide⟩
 . rw[sJ hn hj];exact⟨fun q=>by omega,fun q=>absurd rfl (q c (bf hj))⟩
theorem ot(hn:(cs.map gP.dg).Nodup):0<=gp cs x↔∃(j:Nat) (c:gP),cs[j]? =some c/\c.dg=x:=by
 rcases AG cs x with h|⟨j,c,hj,rfl⟩
 . constructor
   . intro q;have:=(qc hn).2 h;omega
   . rintro⟨j,c,hj,e⟩;exact absurd e (h c (bf hj))
 . exact⟨fun _=>⟨j,c,hj,rfl⟩,fun _=>by rw[sJ hn hj];exact az _⟩
end
theorem BW:∀{a b:aa},a<b↔ye a b=true
 |_,[]=>by simp[ye]
 | [],_::_=>by simp[ye]
 |a::x,b::y=>by
  simp only[ye];rw[List.cons_lt_cons_iff];have ih:=BW (a:=x) (b:=y);cases q:Nat.blt a.toNat b.toNat with
  |true=>
   have:a<b:=au q;simp[this]
  |false=>
   have h1:¬a<b:=fun h=>by
    have:Nat.blt a.toNat b.toNat=true:=Nat.ble_eq_true_of_le h;rw[q]at this;cases this
   cases q2:Nat.beq a.toNat b.toNat with
   |true=>
    have:a=b:=UInt8.toNat.inj (aD q2);subst this;simp only[h1,false_or,true_and];exact ih
   |false=>
    have:a≠b:=fun e=>by subst e;rw[cM]at q2;cases q2
    simp[h1,this]
theorem zH{n:aa}:∀{l:List (aa×aa)},(∀p∈l,p.1≠n)->gK n l=[]
 | [],_=>rfl
 |p::l,h=>by
  unfold gK;rw[aI (h p (by simp))];exact zH fun q hq=>h q (by simp[hq])
def Pg(l:List (aa×aa)):Prop:=(l.map Prod.fst).Pairwise (. <·)
theorem FI{a b c:aa}(h:a<b)(k:b<c):a<c:=List.lt_trans h k
theorem wA(a:aa):¬a<a:=List.lt_irrefl a
theorem Wx{a b:aa}(h:¬a<b)(fP:a≠b):b<a:=by
 by_cases q:b<a
 . exact q
 . exact absurd (List.le_antisymm (List.not_lt.1 q) (List.not_lt.1 h)) fP
theorem qJ{p:aa×aa}{l:List (aa×aa)}:Pg (p::l)↔(∀q∈l,p.1<q.1)/\Pg l:=by
 unfold Pg;rw[bW,List.pairwise_cons];constructor
 . rintro⟨h1,h2⟩;exact⟨fun q hq=>h1 _ (bB.2 ⟨q,hq,rfl⟩),h2⟩
 . rintro⟨h1,h2⟩;refine⟨fun y hy=>?_,h2⟩;obtain⟨q,hq,rfl⟩:=bB.1 hy;exact h1 q hq
theorem nw{n x:aa}{q:aa×aa}:∀{l:List (aa×aa)} {dn:Bool},q∈lU n x dn l↔(q∈l/\q.1≠n)\/(dn=false/\q=(n,x))
 | [],dn=>by
   unfold lU;cases dn<;>simp
 |p::l,dn=>by
  unfold lU;rw[aU,aU,nw (l:=l),aE];have hA:(q∈(if dn=false/\ye n p.1=true then[(n,x)]else[]))↔(dn=false/\ye n p.1=true)/\q=(n,x):=by
   split
   . rename_i h;simp[h]
   . rename_i h;simp only[aM,false_iff];exact fun k=>h k.1
  have hB:(q∈(if p.1=n then[]else[p]))↔p.1≠n/\q=p:=by
   split
   . rename_i h;simp[h]
   . rename_i h;simp[h]
  rw[hA,hB];constructor
  . rintro(⟨⟨h1,_⟩,h3⟩|⟨h1,h2⟩|⟨h1,h2⟩|⟨h1,h2⟩)
    . exact .inr ⟨h1,h3⟩
    . subst h2;exact .inl ⟨.inl rfl,h1⟩
    . exact .inl ⟨.inr h1,h2⟩
    . exact .inr ⟨(Bool.or_eq_false_iff.1 h1).1,h2⟩
  . rintro(⟨rfl|h1,h2⟩|⟨h1,h2⟩)
    . exact .inr (.inl ⟨h2,rfl⟩)
    . exact .inr (.inr (.inl ⟨h1,h2⟩))
    . cases hl:ye n p.1 with
      |true=>exact .inl ⟨⟨h1,rfl⟩,h2⟩
      |false=>exact .inr (.inr (.inr ⟨by rw[h1];rfl,h2⟩))
theorem DH{n x:aa}:∀{l:List (aa×aa)} {dn:Bool},Pg l->(dn=true->∀p∈l,n<p.1\/True)->Pg (lU n x dn l)
 | [],dn,_,_=>by
   unfold lU;cases dn
   . exact List.pairwise_singleton ..
   . exact List.Pairwise.nil
 |p::l,dn,h,_=>by
  obtain⟨h1,h2⟩:=qJ.1 h;have ih:∀d,Pg (lU n x d l):=fun d=>DH h2 fun _ _ _=>.inr trivial;unfold lU;cases dn with
  |true=>
   rw[aI (by simp),cD];split
   . exact ih _
   . refine qJ.2 ⟨fun q hq=>?_,ih _⟩;rw[Bool.true_or]at hq;rcases nw.1 hq with⟨a,_⟩|⟨a,_⟩
     . exact h1 q a
     . cases a
  |false=>
   by_cases hl:ye n p.1=true
   . have fJ:=BW.2 hl;have hp:¬p.1=n:=fun e=>wA n (by rw[e]at fJ;exact fJ);rw[aG ⟨rfl,hl⟩,aI hp,hl,Bool.or_true];have hm:∀q∈lU n x true l,p.1<q.1:=fun q hq=>by
      rcases nw.1 hq with⟨a,_⟩|⟨a,_⟩
      . exact h1 q a
      . cases a
     refine qJ.2 ⟨fun q hq=>?_,qJ.2 ⟨hm,ih _⟩⟩;rcases aE.1 hq with rfl|hq
     . exact fJ
     . exact FI fJ (hm q hq)
   . have hl':ye n p.1=false:=by cases q:ye n p.1<;>simp_all
     rw[aI (fun q=>hl q.2),cD,hl',Bool.or_false];split
     . exact ih _
     . rename_i hp;refine qJ.2 ⟨fun q hq=>?_,ih _⟩;rcases nw.1 hq with⟨a,_⟩|⟨_,a⟩
       . exact h1 q a
       . subst a;exact Wx (fun q=>hl (BW.1 q)) (fun e=>hp e.symm)
theorem wC{n x:aa}:∀{l:List (aa×aa)},Pg l->(n,x)∈l->gK n l=x
 | [],_,h=>by cases h
 |p::l,hs,h=>by
  obtain⟨h1,h2⟩:=qJ.1 hs;unfold gK;rcases aE.1 h with e|h
  . rw[<- e,aG rfl]
  . rw[aI (fun e=>wA n (by have:=h1 _ h;rw[e]at this;exact this))];exact wC h2 h
theorem rj(n:aa):∀(l:List (aa×aa)),(gK n l=[]/\∀p∈l,p.1≠n)\/(n,gK n l)∈l
 | []=>.inl ⟨rfl,fun _ h=>by cases h⟩
 |p::l=>by
  unfold gK;by_cases h:p.1=n
  . rw[aG h];subst h;exact .inr (by simp)
  . rw[aI h];rcases rj n l with⟨h1,h2⟩|h1
    . exact .inl ⟨h1,fun q hq=>by
       rcases aE.1 hq with rfl|hq
       . exact h
       . exact h2 q hq⟩
    . exact .inr (by simp[h1])
theorem FJ{n m x:aa}{l:List (aa×aa)}(hs:Pg l):gK m (lU n x (eG x []) l)=if m=n then x else gK m l:=by
 have jd:Pg (lU n x (eG x []) l):=DH hs fun _ _ _=>.inr trivial;by_cases hm:m=n
 . subst hm;rw[aG rfl];by_cases hx:x=[]
   . subst hx;refine zH fun p hp e=>?_;rcases nw.1 hp with⟨_,a⟩|⟨a,_⟩
     . exact a e
     . cases a
   . have hb:eG x []=false:=by rw[ga];exact beq_eq_false_iff_ne.2 hx
     exact wC jd (nw.2 (.inr ⟨hb,rfl⟩))
 . rw[aI hm];rcases rj m l with⟨h1,h2⟩|h1
   . rw[h1];refine zH fun p hp e=>?_;rcases nw.1 hp with⟨a,_⟩|⟨_,a⟩
     . exact h2 p a e
     . subst a;exact hm e.symm
   . exact wC jd (nw.2 (.inl ⟨h1,hm⟩))
inductive pD(es:ae):aa->aa->Prop
 |refl (x:aa):pD es x x
 |step {x y z:aa}:pD es x y->z∈pE es y->pD es x z
theorem pD.head{es:ae}{x y z:aa}(h:y∈pE es x)(p:pD es y z):pD es x z:=by
 induction p with
 |refl=>exact .step (.refl x) h
 |step _ h2 ih=>exact .step ih h2
structure Spc(es:ae)(ds ks Qe:List (aa)):Prop where
 sub:∀y∈ks,y∈Qe
 roots:∀d∈ds,d∈Qe
 pth:∀y∈Qe,y∈ks\/∃d∈ds,pD es d y
 cl:∀y∈Qe,y∉ks->∀r∈pE es y,r∈Qe
 nd:ks.Nodup->Qe.Nodup
theorem DI{es:ae}{k:Nat}(H:∀x ks,Ends es k x->Spc es [x] ks (l5 es k x ks)):∀(ds ks:List (aa)),(∀d∈ds,Ends es k d)->Spc es ds ks (ds.foldl (fun a r=>l5 es k r a) ks)
 | [],ks,_=>⟨fun _ h=>h,fun _ h=>(by cases h),fun _ h=>.inl h,fun y h h2=>absurd h h2,fun h=>h⟩
 |d::ds,ks,he=>by
  have h1:=H d ks (he d (by simp));have h2:=DI H ds (l5 es k d ks) fun x hx=>he x (by simp[hx]);show Spc es (d::ds) ks (ds.foldl (fun a r=>l5 es k r a) (l5 es k d ks));refine⟨fun y hy=>h2.sub y (h1.sub y hy),fun x hx=>?_,fun y hy=>?_,fun y hy hn r hr=>?_,fun h=>h2.nd (h1.nd h)⟩
  . rcases aE.1 hx with rfl|hx
    . exact h2.sub _ (h1.roots _ (by simp))
    . exact h2.roots x hx
  . rcases h2.pth y hy with h|⟨x,hx,p⟩
    . rcases h1.pth y h with h|⟨x,hx,p⟩
      . exact .inl h
      . exact .inr ⟨x,by rw[aq.1 hx];simp,p⟩
    . exact .inr ⟨x,by simp[hx],p⟩
  . by_cases q:y∈l5 es k d ks
    . exact h2.sub r (h1.cl y q hn r hr)
    . exact h2.cl y hy q r hr
theorem No{es:ae}:∀(k:Nat) (x:aa) (ks:List (aa)),Ends es k x->Spc es [x] ks (l5 es k x ks)
 |0,_,_,h=>h.elim
 |k+1,x,ks,⟨_,_,hr⟩=>by
  unfold l5;by_cases hx:x∈ks
  . rw[aG hx];exact⟨fun _ h=>h,fun d hd=>by rw[aq.1 hd];exact hx,fun _ h=>.inl h,fun y h h2=>absurd h h2,fun h=>h⟩
  . rw[aI hx];have h:=DI (fun y ks=>No k y ks) (pE es x) (ks++[x]) hr;generalize (pE es x).foldl (fun a r=>l5 es k r a) (ks++[x])=Qe at h ⊢;refine⟨fun y hy=>h.sub y (by simp[hy]),fun d hd=>by rw[aq.1 hd];exact h.sub x (by simp),fun y hy=>?_,fun y hy hn r Fc=>?_,fun Km=>h.nd ?_⟩
    . rcases h.pth y hy with q|⟨d,hd,p⟩
      . rcases aU.1 q with q|q
        . exact .inl q
        . rw[aq.1 q];exact .inr ⟨x,by simp,.refl x⟩
      . exact .inr ⟨x,by simp,p.head hd⟩
    . by_cases q:y=x
      . subst q;exact h.roots r Fc
      . exact h.cl y hy (by simp[hn,q]) r Fc
    . rw[List.nodup_append];exact⟨Km,by simp,fun a ha b hb=>by rw[aq.1 hb];exact fun e=>hx (e▸ha)⟩
section
variable{es rt:ae}{k:Nat}
theorem Jx(he:∀d∈iI rt,Ends es k d):Spc es (iI rt) [] (pV es rt k):=DI (fun y ks=>No k y ks) (iI rt) [] he
theorem Jy(he:∀d∈iI rt,Ends es k d)(x:aa):x∈pV es rt k↔∃d∈iI rt,pD es d x:=by
 have h:=Jx he;constructor
 . intro hx;rcases h.pth x hx with q|q
   . cases q
   . exact q
 . rintro⟨d,hd,p⟩
   induction p with
   |refl=>exact h.roots _ hd
   |step _ hz ih=>exact h.cl _ ih (by simp) _ hz
end
def nmO(n:aa):Prop:=∃c:UInt8,n=[c]/\97<=c.toNat/\c.toNat<115
structure nD(s:RS):Prop where
 nd:(s.cs.map gP.dg).Nodup
 nm:∀c∈s.cs,c.dg=dN c.da c.rs/\c.da.length<=60/\c.rs.length<=3
 ref:∀(i:Nat) (c:gP),s.cs[i]? =some c->∀r∈c.rs,∃(j:Nat) (c':gP),j<i/\s.cs[j]? =some c'/\c'.dg=r
 T9:Pg s.ro
 rv:∀p∈s.ro,nmO p.1/\∃c∈s.cs,c.dg=p.2
theorem nD.refs{s:RS}(h:nD s){i j:Nat}{c:gP}(hc:s.cs[j]? =some c):pE (oq s.cs i) c.dg=c.rs:=Fp (lW h.nd hc)
theorem FK{es:ae}:∀{k:Nat} {x:aa},Ends es k x->Ends es (k+1) x
 |0,_,h=>h.elim
 |_+1,_,⟨h1,h2,h3⟩=>⟨h1,h2,fun r hr=>FK (h3 r hr)⟩
theorem Np{es:ae}{k m:Nat}{x:aa}(h:Ends es k x)(hm:k<=m):Ends es m x:=by
 induction m with
 |zero=>obtain rfl:k=0:=by omega
        exact h
 |succ m ih=>
  rcases bN k (m+1)with q|q
  . exact FK (ih be)
  . obtain rfl:k=m+1:=by omega
    exact h
theorem nD.ends{s:RS}(h:nD s):∀(j:Nat) (c:gP),s.cs[j]? =some c->Ends (oq s.cs 0) (j+1) c.dg:=by
 intro j
 induction j using Nat.strongRecOn with
 |_ j ih=>
  intro c hc;refine⟨⟨_,_,_,lW h.nd hc⟩,?_,fun r hr=>?_⟩
  . rw[h.refs hc];have:=(h.nm c (bf hc)).2.2;omega
  . rw[h.refs hc]at hr;obtain⟨i,c',hi,vX,rfl⟩:=h.ref j c hc r hr;exact Np (ih i hi c' vX) be
theorem DJ(bs:List Bool)(i m:Nat)(b:Bool):(bs.set i b).getD m false=if m=i/\i<bs.length then b else bs.getD m false:=by
 rw[aL,aL,List.getElem?_set];by_cases h:m=i
 . subst h;by_cases q:m<bs.length
   . rw[aG rfl,aG q,aG ⟨rfl,q⟩];rfl
   . rw[aG rfl,aI q,aI (fun z=>q z.2),bP be]
 . rw[aI (fun z=>h z.symm),aI (fun z=>h z.1)]
theorem nD.Nq{s:RS}(h:nD s){i j:Nat}{c c':gP}(hi:s.cs[i]? =some c)(hj:s.cs[j]? =some c')(e:c.dg=c'.dg):i=j:=by
 have a:=sJ h.nd hi;have b:=sJ h.nd hj;rw[e,b]at a;exact(Int.ofNat.inj a).symm
theorem Ta{s:RS}(h:nD s){bs:List Bool}(hl:bs.length=s.cs.length)(r:aa){m:Nat}{c:gP}(hm:s.cs[m]? =some c):(jC s bs r).getD m false=true↔bs.getD m false=true\/c.dg=r:=by
 unfold jC;rcases AG s.cs r with q|⟨j,c',hj,rfl⟩
 . rw[aG ((qc h.nd).2 q)];exact⟨.inl,fun z=>z.elim id fun e=>absurd e (q c (bf hm))⟩
 . have NV:j<s.cs.length:=(aF.1 hj).1;rw[aI (by rw[sJ h.nd hj];omega),sJ h.nd hj,DJ];show(if m=j/\j<bs.length then true else bs.getD m false)=true↔_;by_cases q:m=j
   . subst q;rw[hm]at hj;cases hj;rw[aG ⟨rfl,be⟩];simp
   . rw[aI (fun z=>q z.1)];exact⟨.inl,fun z=>z.elim id fun e=>absurd (h.Nq hm hj e) q⟩
theorem Mb(s:RS)(bs:List Bool)(r:aa):(jC s bs r).length=bs.length:=by
 unfold jC;split
 . rfl
 . rw[List.length_set]
theorem DK{s:RS}(h:nD s){m:Nat}{c:gP}(hm:s.cs[m]? =some c):∀(l:List (aa)) (bs:List Bool),bs.length=s.cs.length->((l.foldl (jC s) bs).getD m false=true↔bs.getD m false=true\/c.dg∈l)/\(l.foldl (jC s) bs).length=s.cs.length
 | [],bs,hl=>⟨by simp,hl⟩
 |r::l,bs,hl=>by
  have ih:=DK h hm l (jC s bs r) (by rw[Mb,hl]);refine⟨?_,ih.2⟩;show(l.foldl (jC s) (jC s bs r)).getD m false=true↔_;rw[ih.1,Ta h hl r hm,aE,or_assoc]
def RI(s:RS)(m:Nat):Prop:=∃c,s.cs[m]? =some c/\∃p∈s.ro,pD (oq s.cs 0) p.2 c.dg
theorem Tb{s:RS}(h:nD s){d x:aa}(p:pD (oq s.cs 0) d x):(∃c∈s.cs,c.dg=d)->∃c∈s.cs,c.dg=x:=by
 induction p with
 |refl=>exact id
 |step _ hz ih=>
  intro hd;obtain⟨c,hc,rfl⟩:=ih hd;obtain⟨j,hj⟩:=bV.1 hc;rw[h.refs hj]at hz;obtain⟨i,c',_,vX,e⟩:=h.ref j c hj _ hz;exact⟨c',bf vX,e⟩
theorem DL(ro:List (aa×aa))(c:gP):Ev ro c=true↔∃p∈ro,p.2=c.dg:=by
 unfold Ev;rw[List.any_eq_true];constructor
 . rintro⟨p,hp,e⟩;rw[ga]at e;exact⟨p,hp,beq_iff_eq.1 e⟩
 . rintro⟨p,hp,e⟩;exact⟨p,hp,by rw[ga];exact beq_iff_eq.2 e⟩
theorem Ho{s:RS}(h:nD s){m:Nat}{c:gP}(hm:s.cs[m]? =some c):RI s m↔Ev s.ro c=true\/∃(j:Nat) (c':gP),m<j/\s.cs[j]? =some c'/\c.dg∈c'.rs/\RI s j:=by
 rw[DL];constructor
 . rintro⟨c0,h0,p,hp,q⟩;rw[hm]at h0;cases h0;generalize hx:c.dg=x at q;cases q with
   |refl=>exact .inl ⟨p,hp,rfl⟩
   |step q hz=>
    subst hx;obtain⟨cy,hcy,rfl⟩:=Tb h q (h.rv p hp).2;obtain⟨j,hj⟩:=bV.1 hcy;rw[h.refs hj]at hz;obtain⟨i,c',hi,vX,e⟩:=h.ref j cy hj _ hz;have:=h.Nq vX hm e;subst this;exact .inr ⟨j,cy,hi,hj,hz,cy,hj,p,hp,q⟩
 . rintro(⟨p,hp,e⟩|⟨j,c',_,hj,hr,c2,h2,p,hp,q⟩)
   . exact⟨c,hm,p,hp,e▸ .refl _⟩
   . rw[hj]at h2;cases h2;exact⟨c,hm,p,hp,.step q (by rw[h.refs hj];exact hr)⟩
def MkI(s:RS)(i:Nat)(bs:List Bool):Prop:=bs.length=s.cs.length/\∀(m:Nat) (c:gP),s.cs[m]? =some c->(bs.getD m false=true↔(i<=m/\RI s m)\/(m<i/\∃(j:Nat) (c':gP),i<=j/\s.cs[j]? =some c'/\c.dg∈c'.rs/\RI s j))
theorem Tc{s:RS}(h:nD s){i:Nat}{bs:List Bool}{c:gP}(hc:s.cs[i]? =some c)(k:MkI s (i+1) bs):MkI s i (zA s bs i c):=by
 obtain⟨hl,hk⟩:=k;have Qg:i<s.cs.length:=(aF.1 hc).1;have hI:(kS s bs i c).getD i false=true↔RI s i:=by
  unfold kS;rw[DJ,aG ⟨rfl,be⟩,bT,hk i c hc,Ho h hc];constructor
  . rintro((⟨a,_⟩|⟨_,j,c',h1,h2⟩)|b)
    . omega
    . exact .inr ⟨j,c',be,h2⟩
    . exact .inl b
  . rintro(a|⟨j,c',h1,h2⟩)
    . exact .inr a
    . exact .inl (.inr ⟨be,j,c',be,h2⟩)
 have hlr:(kS s bs i c).length=s.cs.length:=by unfold kS;rw[List.length_set,hl]
 have hM:∀(m:Nat) (c0:gP),s.cs[m]? =some c0->m≠i->((kS s bs i c).getD m false=true↔bs.getD m false=true):=fun m c0 _ fP=>by
  unfold kS;rw[DJ,aI (fun z=>fP z.1)]
 unfold zA;by_cases hr:(kS s bs i c).getD i false=true
 . rw[aG hr];have hRI:=hI.1 hr;refine⟨(DK h hc c.rs _ hlr).2,fun m c0 hm=>?_⟩;rw[(DK h hm c.rs _ hlr).1];by_cases q:m=i
   . subst q;exact⟨fun _=>.inl ⟨aA _,hRI⟩,fun _=>.inl hr⟩
   . rw[hM m c0 hm q,hk m c0 hm];constructor
     . rintro((⟨a,b⟩|⟨a,j,c',h1,h2⟩)|a)
       . exact .inl ⟨be,b⟩
       . exact .inr ⟨be,j,c',be,h2⟩
       . obtain⟨j,c',hj,vX,e⟩:=h.ref i c hc _ a;have:=h.Nq vX hm e;exact .inr ⟨be,i,c,aA _,hc,a,hRI⟩
     . rintro(⟨a,b⟩|⟨a,j,c',h1,h2,h3,h4⟩)
       . exact .inl (.inl ⟨be,b⟩)
       . by_cases z:j=i
         . subst z;rw[hc]at h2;cases h2;exact .inr h3
         . exact .inl (.inr ⟨be,j,c',be,h2,h3,h4⟩)
 . rw[aI hr];have hRI:¬RI s i:=fun z=>hr (hI.2 z);refine⟨hlr,fun m c0 hm=>?_⟩;by_cases q:m=i
   . subst q;exact⟨fun z=>absurd z hr,fun z=>by
      rcases z with⟨_,z⟩|⟨z,_⟩
      . exact absurd z hRI
      . omega⟩
   . rw[hM m c0 hm q,hk m c0 hm];constructor
     . rintro(⟨a,b⟩|⟨a,j,c',h1,h2⟩)
       . exact .inl ⟨be,b⟩
       . exact .inr ⟨be,j,c',be,h2⟩
     . rintro(⟨a,b⟩|⟨a,j,c',h1,h2,h3,h4⟩)
       . exact .inl ⟨be,b⟩
       . refine .inr ⟨be,j,c',?_,h2,h3,h4⟩;by_cases z:j=i
         . subst z;exact absurd h4 hRI
         . omega
theorem Mc{s:RS}(h:nD s):∀(i:Nat) (bs:List Bool),i<=s.cs.length->MkI s i bs->MkI s 0 (SL s i bs)
 |0,_,_,k=>k
 |i+1,bs,hi,k=>by
  have hc:s.cs[i]? =some (s.cs.getD i ⟨[],[],[]⟩):=by
   rw[aL,ay be];rfl
  exact Mc h i _ be (Tc h hc k)
theorem Bk{s:RS}(h:nD s){m:Nat}{c:gP}(hm:s.cs[m]? =some c):(fh s).getD m false=true↔RI s m:=by
 have k:MkI s s.cs.length (List.replicate s.cs.length false):=by
  refine⟨bJ,fun m c hm=>?_⟩;have hl:m<s.cs.length:=(aF.1 hm).1;rw[aL,List.getElem?_replicate,aG hl];constructor
  . intro q;cases q
  . rintro(⟨a,_⟩|⟨_,j,c',h1,h2,_⟩)
    . omega
    . have:=(aF.1 h2).1;omega
 have:=(Mc h _ _ (aA _) k).2 m c hm;rw[show fh s=SL s s.cs.length (List.replicate s.cs.length false)from rfl,this];constructor
 . rintro(⟨_,a⟩|⟨a,_⟩)
   . exact a
   . omega
 . intro a;exact .inl ⟨be,a⟩
theorem w9{s:RS}(h:nD s):(fh s).length=s.cs.length:=by
 have k:MkI s s.cs.length (List.replicate s.cs.length false):=by
  refine⟨bJ,fun m c hm=>?_⟩;have hl:m<s.cs.length:=(aF.1 hm).1;rw[aL,List.getElem?_replicate,aG hl];constructor
  . intro q;cases q
  . rintro(⟨a,_⟩|⟨_,j,c',h1,h2,_⟩)
    . omega
    . have:=(aF.1 h2).1;omega
 exact(Mc h _ _ (aA _) k).1
def AH(s:RS):jw->RS
 | .chunk d rs=>⟨s.cs++[⟨dN d rs,d,rs⟩],s.ro⟩
 | .root n x=>⟨s.cs,lU n x (eG x []) s.ro⟩
def gJ:RS:=⟨[],[]⟩
abbrev fF(l:List jw):RS:=l.foldl AH gJ
def Wy(s:RS):jw->Prop
 | .chunk d rs=>d.length<=60/\rs.length<=3/\(∀r∈rs,0<=gp s.cs r)/\gp s.cs (dN d rs)<0
 | .root n x=>nmO n/\(x=[]\/0<=gp s.cs x)/\x≠gK n s.ro
section
variable{rt:ae}{s:RS}{r:jw}
theorem wf0:nD gJ:=⟨List.nodup_nil,fun _ h=>(by cases h),fun _ _ h=>by simp[gJ]at h,List.Pairwise.nil,fun _ h=>by cases h⟩
theorem nD.FL(h:nD s){c:gP}(hc:c∈s.cs):c.dg.length=32:=by rw[(h.nm c hc).1];rfl
theorem Wz(h:nD s)(a:Wy s r):nD (AH s r):=by
 cases r with
 |chunk d rs=>
  obtain⟨a1,a2,a3,a4⟩:=a;have a4:=(qc h.nd).1 a4;refine⟨?_,fun c hc=>?_,fun i c hc r hr=>?_,h.T9,fun p hp=>⟨(h.rv p hp).1,?_⟩⟩
  . show((s.cs++[(⟨dN d rs,d,rs⟩:gP)]).map gP.dg).Nodup;rw[aZ,List.nodup_append];refine⟨h.nd,cg.2 ⟨by simp,List.nodup_nil⟩,fun x hx y hy e=>?_⟩;obtain⟨c,hc,rfl⟩:=bB.1 hx;rw[List.map_singleton,aq]at hy;exact a4 c hc (e.trans hy)
  . have hc:c∈s.cs++[⟨dN d rs,d,rs⟩]:=hc;rcases aU.1 hc with q|q
    . exact h.nm c q
    . obtain rfl:c=⟨dN d rs,d,rs⟩:=aq.1 q;exact⟨rfl,a1,a2⟩
  . have hc:(s.cs++[⟨dN d rs,d,rs⟩])[i]? =some c:=hc;show ∃(j:Nat) (c':gP),j<i/\(s.cs++[⟨dN d rs,d,rs⟩])[j]? =some c'/\c'.dg=r;rw[bS]at hc;split at hc
    . obtain⟨j,c',h1,h2,h3⟩:=h.ref i c hc r hr;exact⟨j,c',h1,by rw[bS,aG (aF.1 h2).1];exact h2,h3⟩
    . rename_i hi;have hcm:c=⟨dN d rs,d,rs⟩:=by
       have:=bf hc;exact aq.1 this
      subst hcm;obtain⟨j,c',h2,h3⟩:=(ot h.nd).1 (a3 r hr);have hj:=(aF.1 h2).1;exact⟨j,c',be,by rw[bS,aG hj];exact h2,h3⟩
  . obtain⟨c,hc,e⟩:=(h.rv p hp).2;exact⟨c,cJ _ hc,e⟩
 |root n x=>
  obtain⟨a1,a2,a3⟩:=a;refine⟨h.nd,h.nm,h.ref,DH h.T9 fun _ _ _=>.inr trivial,fun p hp=>?_⟩;rcases nw.1 hp with⟨q,_⟩|⟨q,rfl⟩
  . exact h.rv p q
  . refine⟨a1,?_⟩;rcases a2 with rfl|a2
    . cases q
    . obtain⟨j,c,hj,e⟩:=(ot h.nd).1 a2;exact⟨c,bf hj,e⟩
theorem Md(h:nD s)(a:Wy s r):r.ok/\r.bytes.length<=180:=by
 cases r with
 |chunk d rs=>
  obtain⟨a1,a2,a3,a4⟩:=a;have h32:∀x∈rs,x.length=32:=fun x hx=>by
   obtain⟨j,c,hj,e⟩:=(ot h.nd).1 (a3 x hx);rw[<- e];exact h.FL (bf hj)
  refine⟨⟨be,be,h32⟩,?_⟩;have:=Fj d h32;show(gO d rs).length<=180;omega
 |root n x=>
  obtain⟨⟨k,rfl,_⟩,a2,a3⟩:=a;have hx:x.length<=32:=by
   rcases a2 with rfl|a2
   . simp
   . obtain⟨j,c,hj,e⟩:=(ot h.nd).1 a2;rw[<- e,h.FL (bf hj)];exact aA _
  have hn:[k].length=1:=rfl;refine⟨⟨be,be⟩,?_⟩;have:=(Rl [k] x).2;show(kR [k] x).length<=180;omega
theorem tO(hr:D2 rt){n:aa}:n∈dJ rt↔∃v,dj (.str n) rt=some v:=by
 induction rt with
 |nil=>exact⟨fun h=>(by cases h),fun⟨_,h⟩=>by cases h⟩
 |cons e rt ih=>
  obtain⟨k,d,rfl⟩:=hr e (by simp);have ih:=ih fun e he=>hr e (by simp[he]);rw[show dJ ((.str k,.str d)::rt)=k::dJ rt from rfl,aE,ih,gm];by_cases q:k=n
  . subst q;rw[aG rfl];exact⟨fun _=>⟨_,rfl⟩,fun _=>.inl rfl⟩
  . rw[aI (by intro z;simp only[D.str.injEq]at z;exact q z)];exact⟨fun z=>z.elim (fun z=>absurd z.symm q) id,.inr⟩
theorem Td(hr:D2 rt)(hn:(dJ rt).Nodup)(n m:aa):dj (.str m) (lO (.str n) rt)=if m=n then none else dj (.str m) rt:=by
 induction rt with
 |nil=>show none=_;split<;>rfl
 |cons e rt ih=>
  obtain⟨k,d,rfl⟩:=hr e (by simp);have pC:(k::dJ rt).Nodup:=hn;rw[cg]at pC;have TQ:D2 rt:=fun e he=>hr e (by simp[he]);rw[wq];by_cases q:k=n
  . subst q;rw[aG rfl];by_cases z:m=k
    . subst z;rw[aG rfl];cases h:dj (.str m) rt with
      |none=>rfl
      |some v=>exact absurd ((tO TQ).2 ⟨v,h⟩) pC.1
    . rw[aI z,gm,aI (by intro y;simp only[D.str.injEq]at y;exact z y.symm)]
  . rw[aI (by intro y;simp only[D.str.injEq]at y;exact q y),gm,ih TQ pC.2];by_cases z:k=m
    . subst z;rw[aG rfl,gm,aG rfl,aI q]
    . have hz:¬(D.str k,D.str d).1=D.str m:=fun y=>z (by cases y;rfl);rw[aI hz,gm,aI hz]
theorem Nr(hr:D2 rt)(n x:aa):D2 (ig (.str n) (.str x) rt):=by
 induction rt with
 |nil=>intro e he;exact⟨n,x,aq.1 he⟩
 |cons e rt ih=>
  have ih:=ih fun e he=>hr e (by simp[he]);rw[wo];split
  . intro a ha;rcases aE.1 ha with rfl|ha
    . exact⟨n,x,rfl⟩
    . exact hr a (by simp[ha])
  . intro a ha;rcases aE.1 ha with rfl|ha
    . exact hr _ (by simp)
    . exact ih a ha
theorem WA(hr:D2 rt)(n:aa):D2 (lO (.str n) rt):=by
 induction rt with
 |nil=>exact hr
 |cons e rt ih=>
  have ih:=ih fun e he=>hr e (by simp[he]);rw[wq];split
  . exact fun a ha=>hr a (by simp[ha])
  . intro a ha;rcases aE.1 ha with rfl|ha
    . exact hr _ (by simp)
    . exact ih a ha
theorem Te(hr:D2 rt){n:aa}{x:aa}{m:aa}:m∈dJ (ig (.str n) (.str x) rt)->m=n\/m∈dJ rt:=by
 intro h;obtain⟨v,hv⟩:=(tO (Nr hr n x)).1 h;rw[Di]at hv;by_cases q:m=n
 . exact .inl q
 . rw[aI q]at hv;exact .inr ((tO hr).2 ⟨v,hv⟩)
theorem abU(hr:D2 rt)(hn:(dJ rt).Nodup)(n x:aa):(dJ (ig (.str n) (.str x) rt)).Nodup:=by
 induction rt with
 |nil=>exact cg.2 ⟨by simp,List.nodup_nil⟩
 |cons e rt ih=>
  obtain⟨k,d,rfl⟩:=hr e (by simp);have TQ:D2 rt:=fun e he=>hr e (by simp[he]);have pC:(k::dJ rt).Nodup:=hn;rw[cg]at pC;have ih:=ih TQ pC.2;rw[wo];split
  . rename_i q;simp only[D.str.injEq]at q;subst q;exact cg.2 pC
  . rename_i q;refine cg.2 ⟨fun z=>?_,ih⟩;rcases Te TQ z with z|z
    . exact q (by show D.str k=D.str n;rw[show k=n from z])
    . exact pC.1 z
theorem Tf(hr:D2 rt){n m:aa}:m∈dJ (lO (.str n) rt)->m∈dJ rt:=by
 induction rt with
 |nil=>exact id
 |cons e rt ih=>
  obtain⟨k,d,rfl⟩:=hr e (by simp);have ih:=ih fun e he=>hr e (by simp[he]);rw[wq];split
  . intro z;exact aK _ z
  . intro z;rcases aE.1 z with z|z
    . rw[z];exact aP ..
    . exact aK _ (ih z)
theorem abV(hr:D2 rt)(hn:(dJ rt).Nodup)(n:aa):(dJ (lO (.str n) rt)).Nodup:=by
 induction rt with
 |nil=>exact hn
 |cons e rt ih=>
  obtain⟨k,d,rfl⟩:=hr e (by simp);have TQ:D2 rt:=fun e he=>hr e (by simp[he]);have pC:(k::dJ rt).Nodup:=hn;rw[cg]at pC;have ih:=ih TQ pC.2;rw[wq];split
  . exact pC.2
  . exact cg.2 ⟨fun z=>pC.1 (Tf TQ z),ih⟩
end
structure D4(L:LS)(s:RS):Prop where
 nx:L.nx=(s.cs.length:Int)
 es:L.es=oq s.cs 0
 key:D2 L.rt
 knd:(dJ L.rt).Nodup
 lk:∀n,dj (.str n) L.rt=if gK n s.ro=[]then none else some (.str (gK n s.ro))
theorem abW:D4 ls0 gJ:=⟨rfl,rfl,fun _ h=>(by cases h),List.nodup_nil,fun _=>rfl⟩
theorem Tg{L:LS}{s:RS}{r:jw}(h:nD s)(hl:s.cs.length<=1000000)(g:D4 L s)(a:Wy s r):D4 (BR L r) (AH s r):=by
 obtain⟨nx,es,rt⟩:=L;obtain⟨g1,g2,g3,g4,g5⟩:=g;have g1:nx=(s.cs.length:Int):=g1;have g2:es=oq s.cs 0:=g2;subst g1 g2;cases r with
 |chunk d rs=>
  obtain⟨a1,a2,a3,a4⟩:=a;refine⟨?_,?_,g3,g4,g5⟩
  . show IntKind.i64.wrap ((s.cs.length:Int)+1)=((s.cs++[_]).length:Int);rw[fE be be,ax];rfl
  . show ig (.str (dN d rs)) (pU d rs (s.cs.length:Int)) (oq s.cs 0)=oq (s.cs++[⟨dN d rs,d,rs⟩]) 0;rw[vu _ (qb ((qc h.nd).1 a4)),Jt,bE];rfl
 |root n x=>
  obtain⟨a1,a2,a3⟩:=a;show D4 ⟨_,_,if x=[]then lO (.str n) rt else ig (.str n) (.str x) rt⟩ ⟨s.cs,lU n x (eG x []) s.ro⟩;by_cases hx:x=[]
  . rw[aG hx];refine⟨rfl,rfl,WA g3 n,abV g3 g4 n,fun m=>?_⟩;show dj (.str m) (lO (.str n) rt)=if gK m (lU n x (eG x []) s.ro)=[]then none else some (.str (gK m (lU n x (eG x []) s.ro)))
    rw[Td g3 g4,FJ h.T9];by_cases q:m=n
    . rw[aG q,aG q,aG hx]
    . rw[aI q,aI q];exact g5 m
  . rw[aI hx];refine⟨rfl,rfl,Nr g3 n x,abU g3 g4 n x,fun m=>?_⟩;show dj (.str m) (ig (.str n) (.str x) rt)=if gK m (lU n x (eG x []) s.ro)=[]then none else some (.str (gK m (lU n x (eG x []) s.ro)))
    rw[Di,FJ h.T9];by_cases q:m=n
    . rw[aG q,aG q,aI hx]
    . rw[aI q,aI q];exact g5 m
def Ns:RS->List jw->Prop
 |_,[]=>True
 |s,r::l=>Wy s r/\Ns (AH s r) l
theorem BX:∀{a:List jw} {s:RS} {b:List jw},Ns s (a++b)↔Ns s a/\Ns (a.foldl AH s) b
 | [],s,b=>⟨fun h=>⟨trivial,h⟩,fun h=>h.2⟩
 |r::a,s,b=>by
  show Wy s r/\Ns (AH s r) (a++b)↔(Wy s r/\Ns (AH s r) a)/\_;rw[BX];exact and_assoc.symm
theorem WB(s:RS)(r:jw):(AH s r).cs.length<=s.cs.length+1:=by
 cases r with
 |chunk d rs=>show(s.cs++[_]).length<=_;rw[ax];exact aA _
 |root n x=>exact Nat.le_succ _
theorem BY:∀{l:List jw} {s:RS} {L:LS},Ns s l->nD s->D4 L s->s.cs.length+l.length<=1000000->nD (l.foldl AH s)/\D4 (l.foldl BR L) (l.foldl AH s)/\(l.foldl AH s).cs.length<=s.cs.length+l.length/\(∀r∈l,r.ok)/\(cW l).length<=180*l.length
 | [],s,L,_,h,g,_=>⟨h,g,aA _,fun _ h=>(by cases h),aY _⟩
 |r::l,s,L,v,h,g,hl=>by
  have hb:=WB s r;rw[aT]at hl ⊢;obtain⟨h1,h2,h3,h4,h5⟩:=BY (l:=l) (s:=AH s r) (L:=BR L r) v.2 (Wz h v.1) (Tg h be g v.1) be;have ok:=Md h v.1;refine⟨h1,h2,?_,fun x hx=>?_,?_⟩
  . show(l.foldl AH (AH s r)).cs.length<=_;omega
  . rcases aE.1 hx with rfl|hx
    . exact ok.1
    . exact h4 x hx
  . have:cW (r::l)=r.bytes++cW l:=rfl;rw[this,ax];omega
theorem Hp{α:Type}[DecidableEq α]:∀{a b:List α},a.Nodup->b.Nodup->(∀x,x∈a↔x∈b)->List.Perm a b
 | [],b,_,_,h=>by
   cases b with
   |nil=>exact .nil
   |cons y b=>exact absurd ((h y).2 (by simp)) (by simp)
 |x::a,b,ha,hb,h=>by
  have hx:x∈b:=(h x).1 (by simp);rw[cg]at ha;refine(List.Perm.cons x (Hp ha.2 (hb.erase x) fun y=>?_)).trans (List.perm_cons_erase hx).symm;rw[hb.mem_erase_iff];constructor
  . intro hy;exact⟨fun e=>ha.1 (e▸hy),(h y).1 (by simp[hy])⟩
  . rintro⟨h1,h2⟩;rcases aE.1 ((h y).2 h2)with q|q
    . exact absurd q h1
    . exact q
section
variable{L:LS}{rt:ae}{s:RS}
theorem nD.wD(h:nD s){p:aa×aa}(hp:p∈s.ro):p.2≠[]:=fun e=>by
 obtain⟨c,hc,q⟩:=(h.rv p hp).2;have:=h.FL hc;rw[q,e]at this;cases this
theorem tP(h:nD s){p:aa×aa}(hp:p∈s.ro):gK p.1 s.ro=p.2:=wC h.T9 hp
theorem Th(h:nD s)(g:D4 L s)(n:aa):n∈dJ L.rt↔n∈s.ro.map Prod.fst:=by
 rw[tO g.key,g.lk n];constructor
 . rintro⟨v,hv⟩;split at hv
   . cases hv
   . rename_i fP;rcases rj n s.ro with⟨q,_⟩|q
     . exact absurd q fP
     . exact bB.2 ⟨_,q,rfl⟩
 . intro hn;obtain⟨p,hp,rfl⟩:=bB.1 hn;rw[tP h hp,aI (h.wD hp)];exact⟨_,rfl⟩
theorem abX{l:List (aa×aa)}(h:Pg l):(l.map Prod.fst).Nodup:=List.Pairwise.imp (fun {a b} (q:a<b)=>fun(e:a=b)=>wA b (by rw[e]at q;exact q)) h
theorem Jz(h:nD s)(g:D4 L s):List.Perm (dJ L.rt) (s.ro.map Prod.fst):=Hp g.knd (abX h.T9) (Th h g)
theorem zI(h:nD s)(g:D4 L s):iQ (dJ L.rt)=s.ro.map Prod.fst:=
 List.Perm.eq_of_pairwise (le:=(. <=·)) (fun _ _ _ _ h k=>Jd h k) (xU _) (h.T9.imp fun q=>List.le_of_lt q) ((tK _).trans (Jz h g))
theorem vD(h:nD s)(g:D4 L s):L.rt.length=s.ro.length:=by
 have:=(Jz h g).length_eq;rw[aW]at this;rw[<- this];unfold dJ;rw[aW]
theorem CL(hr:D2 rt)(hn:(dJ rt).Nodup){n d:aa}(h:(D.str n,D.str d)∈rt):dj (.str n) rt=some (.str d):=by
 induction rt with
 |nil=>cases h
 |cons e rt ih=>
  obtain⟨k,v,rfl⟩:=hr e (by simp);have pC:(k::dJ rt).Nodup:=hn;rw[cg]at pC;rw[gm];rcases aE.1 h with q|q
  . simp only[aB,D.str.injEq]at q;rw[aG (by rw[q.1]),q.2]
  . rw[aI fun z=>pC.1 ?_]
    . exact ih (fun e he=>hr e (by simp[he])) pC.2 q
    . have z:D.str k=D.str n:=z;simp only[D.str.injEq]at z;rw[z];exact bB.2 ⟨_,q,rfl⟩
theorem Ph(hr:D2 rt){n:aa}{v:D}(h:dj (.str n) rt=some v):∃d,v= .str d/\(D.str n,D.str d)∈rt:=by
 induction rt with
 |nil=>cases h
 |cons e rt ih=>
  obtain⟨k,d,rfl⟩:=hr e (by simp);rw[gm]at h;split at h
  . rename_i q;have q:D.str k=D.str n:=q;simp only[D.str.injEq]at q;simp only[an]at h;subst q;subst h;exact⟨d,rfl,by simp⟩
  . obtain⟨d',h1,h2⟩:=ih (fun e he=>hr e (by simp[he])) h;exact⟨d',h1,by simp[h2]⟩
theorem vE(h:nD s)(g:D4 L s)(d:aa):d∈iI L.rt↔∃p∈s.ro,p.2=d:=by
 constructor
 . intro hd;obtain⟨e,he,q⟩:=bB.1 hd;obtain⟨n,x,rfl⟩:=g.key e he;have q:x=d:=q;subst q;have hl:=CL g.key g.knd he;rw[g.lk n]at hl;split at hl
   . cases hl
   . rename_i fP;simp only[an,D.str.injEq]at hl;rcases rj n s.ro with⟨q,_⟩|q
     . exact absurd q fP
     . exact⟨_,q,hl⟩
 . rintro⟨p,hp,rfl⟩;have hl:=g.lk p.1;rw[tP h hp,aI (h.wD hp)]at hl;obtain⟨d,h1,h2⟩:=Ph g.key hl;simp only[D.str.injEq]at h1;rw[h1];exact bB.2 ⟨_,h2,rfl⟩
theorem vF(h:nD s)(g:D4 L s):∀d∈iI L.rt,Ends L.es (s.cs.length+1) d:=fun d hd=>by
 obtain⟨p,hp,rfl⟩:=(vE h g d).1 hd;obtain⟨c,hc,e⟩:=(h.rv p hp).2;obtain⟨j,hj⟩:=bV.1 hc;rw[<- e,g.es];exact Np (h.ends j c hj) (by have:=(aF.1 hj).1;omega)
theorem Ti(h:nD s)(g:D4 L s){m:Nat}{c:gP}(hm:s.cs[m]? =some c):(fh s).getD m false=decide (c.dg∈pV L.es L.rt (s.cs.length+1)):=by
 have hi:(fh s).getD m false=true↔c.dg∈pV L.es L.rt (s.cs.length+1):=by
  rw[Bk h hm,Jy (vF h g),g.es];constructor
  . rintro⟨c',h1,p,hp,q⟩;rw[hm]at h1;cases h1;exact⟨p.2,(vE h g _).2 ⟨p,hp,rfl⟩,q⟩
  . rintro⟨d,hd,q⟩;obtain⟨p,hp,rfl⟩:=(vE h g d).1 hd;exact⟨c,hm,p,hp,q⟩
 by_cases q:c.dg∈pV L.es L.rt (s.cs.length+1)
 . rw[bM q,hi.2 q]
 . rw[bw q];cases z:(fh s).getD m false with
   |false=>rfl
   |true=>exact absurd (hi.1 z) q
end
theorem sK:∀(cs:List gP) (bs:List Bool) (i:Nat) (c:gP),(k9 cs bs)[i]? =some c->∃m,cs[m]? =some c/\bs[m]? =some true/\∀(j:Nat) (c':gP),j<m->cs[j]? =some c'->bs[j]? =some true->∃i',i'<i/\(k9 cs bs)[i']? =some c'
 | [],_,i,c,h=>by simp[k9]at h
 |_::_,[],i,c,h=>by simp[k9]at h
 |a::cs,b::bs,i,c,h=>by
  unfold k9 at h ⊢;cases b with
  |true=>
   rw[aG rfl]at h ⊢;cases i with
   |zero=>
    simp only[bG,an]at h;exact⟨0,by simp[h],rfl,fun j c' hj=>absurd hj (Nat.not_lt_zero j)⟩
   |succ i=>
    simp only[cu]at h;obtain⟨m,h1,h2,h3⟩:=sK cs bs i c h;refine⟨m+1,by simpa using h1,by simpa using h2,fun j c' hj hc hb=>?_⟩;cases j with
    |zero=>
     simp only[bG,an]at hc;exact⟨0,be,by simp[hc]⟩
    |succ j=>
     obtain⟨i',k1,k2⟩:=h3 j c' be (by simpa using hc) (by simpa using hb);exact⟨i'+1,be,by simpa using k2⟩
  |false=>
   rw[aI dP]at h ⊢;obtain⟨m,h1,h2,h3⟩:=sK cs bs i c h;refine⟨m+1,by simpa using h1,by simpa using h2,fun j c' hj hc hb=>?_⟩;cases j with
   |zero=>simp at hb
   |succ j=>exact h3 j c' be (by simpa using hc) (by simpa using hb)
theorem AI:∀{cs:List gP} {bs:List Bool} {m:Nat} {c:gP},cs[m]? =some c->bs[m]? =some true->c∈k9 cs bs
 | [],_,_,_,h,_=>by simp at h
 |_::_,[],_,_,_,h=>by simp at h
 |a::cs,b::bs,0,c,h1,h2=>by
  simp only[bG,an]at h1 h2;subst h1 h2;unfold k9;rw[aG rfl];simp
 |a::cs,b::bs,m+1,c,h1,h2=>by
  simp only[cu]at h1 h2;have:=AI h1 h2;unfold k9;split
  . simp[this]
  . exact this
theorem qd:∀(cs:List gP) (bs:List Bool),List.Sublist (k9 cs bs) cs
 | [],_=>by unfold k9;exact List.Sublist.refl _
 |_::_,[]=>by unfold k9;exact List.nil_sublist _
 |a::cs,b::bs=>by
  unfold k9;split
  . exact(qd cs bs).cons_cons a
  . exact(qd cs bs).cons a
theorem kept{s:RS}(h:nD s){m:Nat}{c:gP}(hm:s.cs[m]? =some c):(fh s)[m]? =some true↔RI s m:=by
 rw[<- Bk h hm,aL];cases(fh s)[m]? with
 |none=>simp
 |some b=>simp
theorem Nt{s:RS}(h:nD s):nD (iJ s):=by
 have uO:List.Sublist (iJ s).cs s.cs:=qd _ _;refine⟨h.nd.sublist (uO.map _),fun c hc=>h.nm c (uO.subset hc),fun i c hc r hr=>?_,h.T9,fun p hp=>⟨(h.rv p hp).1,?_⟩⟩
 . obtain⟨m,h1,h2,h3⟩:=sK s.cs (fh s) i c hc;obtain⟨j,c',hj,vX,rfl⟩:=h.ref m c h1 r hr;have hm:=(kept h h1).1 h2;have hjr:RI s j:=(Ho h vX).2 (.inr ⟨m,c,hj,h1,hr,hm⟩);obtain⟨i',k1,k2⟩:=h3 j c' hj vX ((kept h vX).2 hjr);exact⟨i',c',k1,k2,rfl⟩
 . obtain⟨c,hc,e⟩:=(h.rv p hp).2;obtain⟨j,hj⟩:=bV.1 hc;exact⟨c,AI hj ((kept h hj).2 ((Ho h hj).2 (.inl ((DL _ _).2 ⟨p,hp,e.symm⟩)))),e⟩
def l6(t:RS):List jw:=t.cs.map (fun c=>.chunk c.da c.rs)++t.ro.map fun p=>.root p.1 p.2
theorem JA{n x:aa}:∀{l:List (aa×aa)},(∀p∈l,p.1<n)->lU n x false l=l++[(n,x)]
 | [],_=>rfl
 |p::l,h=>by
  have hp:=h p (by simp);have hl:ye n p.1=false:=by
   cases q:ye n p.1 with
   |false=>rfl
   |true=>exact absurd (FI hp (BW.2 q)) (wA _)
  have fP:¬p.1=n:=fun e=>wA n (by rw[e]at hp;exact hp);unfold lU;rw[hl,aI (by simp),aI fP,Bool.or_false,JA fun q hq=>h q (by simp[hq])];rfl
theorem DM{t:RS}(h:nD t):∀(post pre:List gP),t.cs=pre++post->Ns ⟨pre,[]⟩ (post.map fun c=>.chunk c.da c.rs)/\(post.map fun c=>jw.chunk c.da c.rs).foldl AH ⟨pre,[]⟩=⟨t.cs,[]⟩
 | [],pre,e=>⟨trivial,by rw[e,ct];rfl⟩
 |c::post,pre,e=>by
  have hc:t.cs[pre.length]? =some c:=by rw[e,cj (aA _),Nat.sub_self];rfl
  obtain⟨DW,xn,Ky⟩:=h.nm c (bf hc);have Km:(pre.map gP.dg).Nodup:=by
   have:=h.nd;rw[e,aZ]at this;exact(List.nodup_append.1 this).1
  have step:AH ⟨pre,[]⟩ (.chunk c.da c.rs)=⟨pre++[c],[]⟩:=by
   show RS.mk (pre++[⟨dN c.da c.rs,c.da,c.rs⟩]) []=_;rw[<- DW]
  have ih:=DM h post (pre++[c]) (by rw[e,bA];rfl);rw[<- step]at ih;refine⟨⟨⟨xn,Ky,fun r hr=>?_,?_⟩,ih.1⟩,ih.2⟩
  . obtain⟨j,c',hj,vX,q⟩:=h.ref _ c hc r hr;rw[e,bS,aG hj]at vX;exact(ot Km).2 ⟨j,c',vX,q⟩
  . refine(qc Km).2 fun c' vX q=>?_;rw[<- DW]at q;obtain⟨j,hj⟩:=bV.1 vX;have NV:=(aF.1 hj).1;have:t.cs[j]? =some c':=by rw[e,bS,aG NV];exact hj
    have:=h.Nq this hc q;omega
theorem FM{t:RS}(h:nD t):∀(post pre:List (aa×aa)),t.ro=pre++post->Ns ⟨t.cs,pre⟩ (post.map fun p=>.root p.1 p.2)/\(post.map fun p=>jw.root p.1 p.2).foldl AH ⟨t.cs,pre⟩=t
 | [],pre,e=>⟨trivial,by show RS.mk t.cs pre=t;rw[ct]at e;rw[<- e]⟩
 |p::post,pre,e=>by
  have hp:p∈t.ro:=by rw[e];simp
  have fJ:∀q∈pre,q.1<p.1:=fun q hq=>by
   have:=h.T9;unfold Pg at this;rw[e,aZ,bW,List.pairwise_append]at this;exact this.2.2 _ (bB.2 ⟨q,hq,rfl⟩) _ (by simp)
  have fP:=h.wD hp;have hb:eG p.2 []=false:=by rw[ga];exact beq_eq_false_iff_ne.2 fP
  have step:AH ⟨t.cs,pre⟩ (.root p.1 p.2)=⟨t.cs,pre++[p]⟩:=by
   show RS.mk t.cs (lU p.1 p.2 (eG p.2 []) pre)=_;rw[hb,JA fJ]
  have ih:=FM h post (pre++[p]) (by rw[e,bA];rfl);rw[<- step]at ih;refine⟨⟨⟨(h.rv p hp).1,.inr ?_,?_⟩,ih.1⟩,ih.2⟩
  . obtain⟨c,hc,q⟩:=(h.rv p hp).2;obtain⟨j,hj⟩:=bV.1 hc;exact(ot h.nd).2 ⟨j,c,hj,q⟩
  . show p.2≠gK p.1 pre;rw[zH fun q hq z=>wA p.1 (by have:=fJ q hq;rw[z]at this;exact this)];exact fP
theorem abY{t:RS}(h:nD t):Ns gJ (l6 t)/\fF (l6 t)=t:=by
 obtain⟨a1,a2⟩:=DM h t.cs [] rfl;obtain⟨b1,b2⟩:=FM h t.ro [] rfl;unfold l6;refine⟨BX.2 ⟨a1,?_⟩,?_⟩
 . show Ns (List.foldl AH ⟨[],[]⟩ _) _;rw[a2];exact b1
 . show List.foldl AH ⟨[],[]⟩ _=t;rw[List.foldl_append,a2];exact b2
theorem Tj(s:aa)(a:Nat):∀(m i:Nat) (u:Int),(∀j,i<=j->j<i+m->128<=(s.getD (a+j) 0).toNat)->OR s a m i u=none
 |0,_,_,_=>rfl
 |m+1,i,u,h=>by
  unfold OR;rw[aG (h i (aA _) be)];exact Tj s a m (i+1) _ fun j h1 h2=>h j be be
theorem Nu:∀(k u j:Nat),u<128^(k+1)->j+1<(oe k (u:Int)).length->128<=((eN (oe k (u:Int))).getD j 0).toNat
 |0,u,j,_,hj=>by simp[oe]at hj
 |k+1,u,j,hu,hj=>by
  unfold oe at hj ⊢;by_cases h:(128:Int)<=(u:Int)
  . rw[aG h]at hj ⊢;rw[Dk]at hj ⊢;cases j with
    |zero=>
     show 128<=(UInt8.ofNat (T1 (u:Int)).toNat).toNat;rw[MW,u8I be];omega
    |succ j=>
     have hu2:u/128<128^(k+1):=by
      rw[Nat.pow_succ]at hu;exact Nat.div_lt_of_lt_mul (by rw[Nat.mul_comm];exact hu)
     have:=Nu k (u/128) j hu2 (by rw[aT]at hj;omega);exact this
  . rw[aI h]at hj;simp at hj
theorem JB{s:aa}{a:Nat}{n:Int}(h:((s.length-a:Nat):Int)<n):qM s a false n=([],a,true):=by
 unfold qM;rw[aG (.inr (.inr h))]
theorem JC(s:aa)(a:Nat)(n:Int):qM s a true n=([],a,true):=by
 unfold qM;rw[aG (.inl rfl)]
theorem JD(s:aa)(a k:Nat):(yc s a true k).2.2=true:=by
 unfold yc;rw[JC]
theorem Tk{lg:aa}{a:Nat}{t x y:aa}(ht:t.length<34359738368)(hx:lg.drop a=x)(hy:y≠[])(hp:nu t=x++y)(ha:a<=lg.length):Stop lg a:=by
 have iT:lg.length-a=x.length:=by rw[<- hx,bX]
 have hyl:0<y.length:=List.length_pos_iff.2 hy;have TZ:=aN List.length hp;have hv:=my (Int.ofNat t.length);have hvl:(jr (Int.ofNat t.length)).length=(oe 4 (t.length:Int)).length:=uN _;have ya:nu t=jr (Int.ofNat t.length)++(t++dO (IntKind.i64.wrap (qG t))):=by unfold nu js;rw[bA]
 have h4:(dO (IntKind.i64.wrap (qG t))).length=4:=rfl;rw[ya,ax,ax,ax,h4]at TZ;rw[ya]at hp;have hxp:x=(jr (Int.ofNat t.length)++(t++dO (IntKind.i64.wrap (qG t)))).take x.length:=by rw[hp,bQ (aA _),aS]
 refine .inr (.inl ?_);by_cases c1:x.length<(jr (Int.ofNat t.length)).length
 ·
  have hr:wZ lg a=none:=by
   unfold wZ;refine Tj lg a _ 0 0 fun j _ hj=>?_;have hj:j<x.length:=by unfold wY at hj;omega
   have e1:lg.getD (a+j) 0=(eN (oe 4 (t.length:Int))).getD j 0:=by
    rw[aL,<- bH,hx,hxp,bL,aG hj,bS,aG be,aL];rfl
   rw[e1];exact Nu 4 t.length j be be
  have e2:iC lg a false=(0,a,true):=by unfold iC Py;rw[hr];rfl
  have e3:hU lg a false=([],a,true):=by unfold hU;rw[e2];simp only[JC];rfl
  rw[e3];exact JD _ _ _
 ·
  obtain⟨z,hz⟩:∃z,x=jr (Int.ofNat t.length)++z:=by
   refine⟨(t++dO (IntKind.i64.wrap (qG t))).take (x.length-(jr (Int.ofNat t.length)).length),?_⟩;rw[List.take_append]at hxp;rw[bq be]at hxp;exact hxp
  have hd:lg.drop a=jr (Int.ofNat t.length)++z:=by rw[hx,hz]
  have e1:=G1 ht hd;have e2:iC lg a false=((t.length:Int),a+(jr (Int.ofNat t.length)).length,false):=by unfold iC;rw[aI dP];exact e1
  have TT:x.length=(jr (Int.ofNat t.length)).length+z.length:=by rw[hz,ax]
  have u6:lg.length-(a+(jr (Int.ofNat t.length)).length)=z.length:=by omega
  by_cases c2:z.length<t.length
  . have e3:hU lg a false=([],a,true):=by
     unfold hU;rw[e2];simp only[JB (s:=lg) (a:=a+(jr (Int.ofNat t.length)).length) (n:=(t.length:Int)) (by rw[u6];omega)];rfl
    rw[e3];exact JD _ _ _
  . obtain⟨u,hu⟩:∃u,z=t++u:=by
     have:z++y=t++dO (IntKind.i64.wrap (qG t)):=by
      rw[hz,bA]at hp;exact(List.append_cancel_left hp).symm
     refine⟨z.drop t.length,?_⟩;have h1:=aN (List.take t.length) this;rw[bQ be,bQ (aA _),aS]at h1
     conv=>lhs;rw[<- ck t.length z,h1]
    have Gl:lg.drop a=js t++u:=by unfold js;rw[hd,hu,bA]
    have e3:=zk ht Gl;rw[e3];have htl:(js t).length=(jr (Int.ofNat t.length)).length+t.length:=by unfold js;rw[ax]
    have Hy:z.length=t.length+u.length:=by rw[hu,ax]
    show(yc lg (a+(js t).length) false 4).2.2=true;unfold yc;rw[JB (by rw[show(Int.ofNat 4:Int)=((4:Nat):Int)from rfl];omega)]
theorem kr(r:jw)(l:List jw):cW (r::l)=r.bytes++cW l:=rfl
theorem JE:∀(cS:List jw) (cut:Nat),cut<=(cW cS).length->∃(j:Nat) (x:aa),j<=cS.length/\(cW cS).take cut=cW (cS.take j)++x/\
  (x=[]\/∃r∈cS,∃y,y≠[]/\r.bytes=x++y)/\(∀i,i<=cS.length->(cW (cS.take i)).length<=cut->i<=j)/\(cW (cS.take j)).length<=cut
 | [],cut,_=>⟨0,[],aA _,by simp[cW],.inl rfl,fun i hi _=>hi,aY _⟩
 |r::cS,cut,h=>by
  rw[kr,ax]at h;by_cases c:r.bytes.length<=cut
  . obtain⟨j,x,h1,h2,h3,h4,h5⟩:=JE cS (cut-r.bytes.length) be;refine⟨j+1,x,by rw[aT];omega,?_,?_,fun i hi hb=>?_,?_⟩
    . rw[kr,List.take_succ_cons,kr,List.take_append,bq c,h2,bA]
    . rcases h3 with h3|⟨q,hq,y,hy⟩
      . exact .inl h3
      . exact .inr ⟨q,by simp[hq],y,hy⟩
    . cases i with
      |zero=>exact aY _
      |succ i=>
       rw[List.take_succ_cons,kr,ax]at hb;have:=h4 i (by rw[aT]at hi;omega) be;omega
    . rw[List.take_succ_cons,kr,ax];omega
  . refine⟨0,r.bytes.take cut,aY _,?_,.inr ⟨r,by simp,r.bytes.drop cut,?_,(ck _ _).symm⟩,fun i hi hb=>?_,aY _⟩
    . rw[kr,bQ be];rfl
    . intro e;have:=aN List.length e;rw[bX]at this;simp at this;omega
    . cases i with
      |zero=>exact aA _
      |succ i=>rw[List.take_succ_cons,kr,ax]at hb;omega
theorem JF{cS:List jw}(ic:∀r∈cS,r.ok){cut:Nat}(h:cut<=(cW cS).length):∃(j:Nat) (x:aa),j<=cS.length/\(cW cS).take cut=cW (cS.take j)++x/\
  Stop ((cW cS).take cut) (cW (cS.take j)).length/\(∀i,i<=cS.length->(cW (cS.take i)).length<=cut->i<=j)/\(cW (cS.take j)).length<=cut:=by
 obtain⟨j,x,h1,h2,h3,h4,h5⟩:=JE cS cut h;refine⟨j,x,h1,h2,?_,h4,h5⟩;have hd:((cW cS).take cut).drop (cW (cS.take j)).length=x:=by rw[h2,List.drop_left'];rfl
 rcases h3 with rfl|⟨r,hr,y,hy,hb⟩
 . left;rw[h2,ct]
 . refine Tk (t:=r.body) (by have:=jw.Dm (ic r hr);omega) hd hy hb ?_;rw[h2,ax];omega
theorem vG(cS:List jw):∀{i j:Nat},i<=j->(cW (cS.take i)).length<=(cW (cS.take j)).length:=fun {i j} h=>by
 have:cS.take i=(cS.take j).take i:=by rw[List.take_take,Nat.min_eq_left h]
 rw[this];exact AA i
noncomputable abbrev JG:Code:=dS Tryz.f31
section
variable(cO cP:Nat)(b:aa)(fl nx lf:Int)(es rt:ae)(o:af)
def YL:af:=eP (pS cO cP b fl nx lf es rt)++o
def Ez(m:Nat)(e1 r1:ae):af:=[(0,.ints .u32 gS),(1,.ints .u32 gR),(3,.cells [.di (some (4,0)) cO cP 1,.int .i64 fl,.map (some m),.map (some (m+1)),.int .i64 nx,.bool false,.bool false,.int .i64 lf]),(4,.iX 5 false b),(5,.dy none es),(6,.dy none rt)]++o++[(m,.dy none e1),(m+1,.dy none r1)]
def JH(fl nx lf:Int):af:=eP (pN fl nx lf [] [])++o
def Hq(m:Nat)(lf:Int):af:=[(0,.ints .u32 gS),(1,.ints .u32 gR),(3,.cells [eI,.int .i64 0,.map (some m),.map (some (m+1)),.int .i64 0,.bool false,.bool false,.int .i64 lf]),(5,.dy none []),(6,.dy none [])]++o++[(m,.dy none []),(m+1,.dy none [])]
end
theorem apg(cO cP cut:Nat)(b:aa)(fl nx lf:Int)(es rt:ae)(kk:Int)(t0 c2:Nat)(zN:Int)(e1 r1:ae):sB ak (fC fV 57 [P3] (hL (YL cut cP b fl nx lf es rt [(7,.cells [.int .i64 kk])])) 35 (.ef [],hL (Ez c2 cP b (Int.ofNat c2) zN lf es rt [(7,.cells [.int .i64 kk])] 35 e1 r1),37)) [(13,.dc (iW t0)),(36,.dc (iW cut))] 1000 8 Tryz.f31 (JG) (cT [P3,.di (some (7,0)) 1 1 1] (hL (YL cO cP b fl nx lf es rt [(7,.cells [.int .i64 kk])])) 8)
  [([],
   [((0:Int)<=(0:Int)/\(0:Int)<(1:Int)),(V.int aj (IntKind.i64.wrap (Int.ofNat (BitVec.ofInt 64 kk&&&BitVec.ofInt 64 (255:Int)).toNat))=iW t0),((255:Int)≠(0:Int)),(V.int aj (IntKind.i64.wrap (fl+IntKind.i64.wrap ((IntKind.i64.wrap (IntKind.i64.wrap ((Int.ofNat cO)-fl)*Int.ofNat t0)).tdiv (255:Int))))=iW cut),((0:Int)<=Int.ofNat cut/\Int.ofNat cut<=(Int.ofNat cP)),(([.ptr (some (3,0))]:ag)=[.ptr (some (3,0))]/\(hL (eP (pS (cut-0) (cP-0) b fl nx lf es rt)++[(7,.cells [.int .i64 kk])]))=(hL (eP (pS cut cP b fl nx lf es rt)++[(7,.cells [.int .i64 kk])]))/\35=35)],
   .ret (.ef []) (hL [(0,.ints .u32 gS),(1,.ints .u32 gR),(3,.cells [.di (some (4,0)) c2 cP 1,.int .i64 (Int.ofNat c2),.map (some 8),.map (some 9),.int .i64 zN,.bool false,.bool false,.int .i64 lf]),(4,.iX 5 false b),(5,.dy none es),(6,.dy none rt),(7,.cells [.int .i64 kk]),(8,.dy none e1),(9,.dy none r1)]) 10)]
 :=⟨U,U,U⟩
theorem aph(fl nx lf:Int)(kk:Int)(t0:Nat):sB ak (fC fV 57 [P3] (hL (JH [(7,.cells [.int .i64 kk])] fl nx lf)) 35 (.ef [],hL (Hq [(7,.cells [.int .i64 kk])] 35 lf),37)) [(13,.dc (iW t0)),(36,.dc (iW 0))] 1000 8 Tryz.f31 (JG) (cT [P3,.di (some (7,0)) 1 1 1] (hL (JH [(7,.cells [.int .i64 kk])] fl nx lf)) 8)
  [([],
   [((0:Int)<=(0:Int)/\(0:Int)<(1:Int)),(V.int aj (IntKind.i64.wrap (Int.ofNat (BitVec.ofInt 64 kk&&&BitVec.ofInt 64 (255:Int)).toNat))=iW t0),((255:Int)≠(0:Int)),(V.int aj (IntKind.i64.wrap ((pN fl nx lf [] []).fl+IntKind.i64.wrap ((IntKind.i64.wrap (IntKind.i64.wrap ((0:Int)-(pN fl nx lf [] []).fl)*Int.ofNat t0)).tdiv (255:Int))))=iW 0),((0:Int)<=(0:Int)/\(0:Int)<=(0:Int)),fb [.ptr (some (3,0))] (hL [(0,.ints .u32 gS),(1,.ints .u32 gR),(3,.cells [.di none 0 0 0,.int .i64 ((pN fl nx lf [] []).fl),.map (some 5),.map (some 6),.int .i64 ((pN fl nx lf [] []).nx),.bool false,.bool false,.int .i64 ((pN fl nx lf [] []).lf)]),(5,.dy none []),(6,.dy none []),(7,.cells [.int .i64 kk])]) 35],
   .ret (.ef []) (hL [(0,.ints .u32 gS),(1,.ints .u32 gR),(3,.cells [.di none 0 0 0,.int .i64 0,.map (some 8),.map (some 9),.int .i64 0,.bool false,.bool false,.int .i64 lf]),(5,.dy none []),(6,.dy none []),(7,.cells [.int .i64 kk]),(8,.dy none []),(9,.dy none [])]) 10)]
 :=⟨U,U,U⟩
section
variable(fl nx lf:Int)(es:ae)
def lKN:af:=eP (pN fl nx lf es [])++[(7,.cells [.map (some 6)])]
def api:af:=[(0,.ints .u32 gS),(1,.ints .u32 gR),(3,.cells (wI 4 5 6 (pN fl nx lf es []))),(5,.dy none es),(7,.cells [.map (some 6)])]
def abZ:St:=eF [(2,.ptr (some (8,0))),(6,w88)] (hL (lKN fl nx lf es++[(8,.cells [.di none 0 0 0])])) 9
noncomputable def ahd:O:=.loop true none (abZ fl nx lf es).fr [7] U9 Va
noncomputable def hKN:Tr O:=hL (lKN fl nx lf es++[(8,.cells [eI]),(9,.mA),(10,ahd fl nx lf es)])
noncomputable def SKN:St:=eF [(0,.fn (.yield 10) [] []),(5,.ptr (some (11,0)))] (hL (api fl nx lf es++[(8,.cells [eI]),(9,.mA),(10,ahd fl nx lf es)])) 12
def x7:Tr O:=hL (lKN fl nx lf es)
end
section
variable(fl nx lf:Int)(es:ae)
theorem apj:c7 (kW []) [] 8 Tryz.f113 [1,2] (eO 1 RB) (cT [eI,w88] (x7 fl nx lf es) 8) [([],
   [],
   .to .normal (eF [(1,.fn (.func 88) [] [.ptr (some (7,0))]),(2,.ptr (some (8,0)))] (hL [(0,.ints .u32 gS),(1,.ints .u32 gR),(3,.cells [.di none 0 0 0,.int .i64 ((pN fl nx lf es []).fl),.map (some 5),.map (some 6),.int .i64 ((pN fl nx lf es []).nx),.bool false,.bool false,.int .i64 ((pN fl nx lf es []).lf)]),(5,.dy none ((pN fl nx lf es []).es)),(6,.dy none []),(7,.cells [.map (some 6)]),(8,.cells [.di none 0 0 0])]) 9))]
 :=cQ.of U U U
theorem apk:c7 (kW []) [] 8 Tryz.f113 [2,6] (dK (dK Az)) (eF [(1,w88),(2,P 8)] (hL (lKN fl nx lf es++[(8,.cells [eI])])) 9) [([],
   [],
   .to .normal (eF [(2,.ptr (some (8,0))),(6,.fn (.func 88) [] [.ptr (some (7,0))])] (hL [(0,.ints .u32 gS),(1,.ints .u32 gR),(3,.cells [.di none 0 0 0,.int .i64 ((pN fl nx lf es []).fl),.map (some 5),.map (some 6),.int .i64 ((pN fl nx lf es []).nx),.bool false,.bool false,.int .i64 ((pN fl nx lf es []).lf)]),(5,.dy none ((pN fl nx lf es []).es)),(6,.dy none []),(7,.cells [.map (some 6)]),(8,.cells [.di none 0 0 0])]) 9))]
 :=cQ.of U U U
theorem apl:c7 (kW []) [] 8 Tryz.f113 [] (dV Az) (tD (abZ fl nx lf es) (hKN fl nx lf es) 11) [([],
   [],
   .ret (.di none 0 0 0) (hL [(0,.ints .u32 gS),(1,.ints .u32 gR),(3,.cells [.di none 0 0 0,.int .i64 ((pN fl nx lf es []).fl),.map (some 5),.map (some 6),.int .i64 ((pN fl nx lf es []).nx),.bool false,.bool false,.int .i64 ((pN fl nx lf es []).lf)]),(5,.dy none ((pN fl nx lf es []).es)),(6,.dy none []),(7,.cells [.map (some 6)])]) 8)]
 :=cQ.of U U U
theorem apm:c7 (fC (kW []) 113 [eI,w88] (x7 fl nx lf es) 8 (eI,x7 fl nx lf es,8)) [] 8 Tryz.f86 [] (Ep) (cT [w88] (x7 fl nx lf es) 8) [([],
   [fb [.di none 0 0 0,.fn (.func 88) [] [.ptr (some (7,0))]] (hL [(0,.ints .u32 gS),(1,.ints .u32 gR),(3,.cells [.di none 0 0 0,.int .i64 ((pN fl nx lf es []).fl),.map (some 5),.map (some 6),.int .i64 ((pN fl nx lf es []).nx),.bool false,.bool false,.int .i64 ((pN fl nx lf es []).lf)]),(5,.dy none ((pN fl nx lf es []).es)),(6,.dy none []),(7,.cells [.map (some 6)])]) 8],
   .ret (.di none 0 0 0) (hL [(0,.ints .u32 gS),(1,.ints .u32 gR),(3,.cells [.di none 0 0 0,.int .i64 ((pN fl nx lf es []).fl),.map (some 5),.map (some 6),.int .i64 ((pN fl nx lf es []).nx),.bool false,.bool false,.int .i64 ((pN fl nx lf es []).lf)]),(5,.dy none ((pN fl nx lf es []).es)),(6,.dy none []),(7,.cells [.map (some 6)])]) 8)]
 :=cQ.of U U U
theorem apn:c7 (fC (kW []) 86 [w88] (x7 fl nx lf es) 8 (eI,x7 fl nx lf es,8)) [] 8 Tryz.f61 [] (Eo) (cT [w88] (x7 fl nx lf es) 8) [([],
   [fb [.fn (.func 88) [] [.ptr (some (7,0))]] (hL [(0,.ints .u32 gS),(1,.ints .u32 gR),(3,.cells [.di none 0 0 0,.int .i64 ((pN fl nx lf es []).fl),.map (some 5),.map (some 6),.int .i64 ((pN fl nx lf es []).nx),.bool false,.bool false,.int .i64 ((pN fl nx lf es []).lf)]),(5,.dy none ((pN fl nx lf es []).es)),(6,.dy none []),(7,.cells [.map (some 6)])]) 8,((0:Int)<=(0:Int)/\0<256)],
   .ret (.di none 0 0 0) (hL [(0,.ints .u32 gS),(1,.ints .u32 gR),(3,.cells [.di none 0 0 0,.int .i64 ((pN fl nx lf es []).fl),.map (some 5),.map (some 6),.int .i64 ((pN fl nx lf es []).nx),.bool false,.bool false,.int .i64 ((pN fl nx lf es []).lf)]),(5,.dy none ((pN fl nx lf es []).es)),(6,.dy none []),(7,.cells [.map (some 6)])]) 8)]
 :=cQ.of U U U
theorem apo:c7 (fC (kW []) 61 [w88] (x7 fl nx lf es) 8 (eI,x7 fl nx lf es,8)) [] 7 Tryz.f23 [] (OL) (cT [P3] (eu (pN fl nx lf es [])) 7) [([],
   [fb [.fn (.func 88) [] [.ptr (some (7,0))]] (hL [(0,.ints .u32 gS),(1,.ints .u32 gR),(3,.cells [.di none 0 0 0,.int .i64 ((pN fl nx lf es []).fl),.map (some 5),.map (some 6),.int .i64 ((pN fl nx lf es []).nx),.bool false,.bool false,.int .i64 ((pN fl nx lf es []).lf)]),(5,.dy none ((pN fl nx lf es []).es)),(6,.dy none []),(7,.cells [.map (some 6)])]) 8],
   .ret (.di none 0 0 0) (hL [(0,.ints .u32 gS),(1,.ints .u32 gR),(3,.cells [.di none 0 0 0,.int .i64 ((pN fl nx lf es []).fl),.map (some 5),.map (some 6),.int .i64 ((pN fl nx lf es []).nx),.bool false,.bool false,.int .i64 ((pN fl nx lf es []).lf)]),(5,.dy none ((pN fl nx lf es []).es)),(6,.dy none [])]) 7)]
 :=cQ.of U U U
end
section
variable(fl nx lf:Int)(es:ae)
theorem WC:cU ak 88 [.fn (.yield 10) [] [],.ptr (some (7,0))] (hKN fl nx lf es) 11 (.ef []) (hKN fl nx lf es) 11:=by
 refine fU.is (gF mo po Tryz.func88 (code:=En) U U ?_);rw[ae6];refine zf (v0:=.map (some 6)) (kg:=(cT [.fn (.yield 10) [] [],.ptr (some (7,0))] (hKN fl nx lf es) 11).fr.set 4 (some (.map (some 6)))) (zS:=((cT [.fn (.yield 10) [] [],.ptr (some (7,0))] (hKN fl nx lf es) 11).fr.set 4 (some (.map (some 6)))).set 5 (some (.ptr (some (11,0))))) (m:=6) (kd:=none) (es:=[]) mo MN
  U U U U (au rfl) U (fun iD s1=>iD=[]/\eX 12 [0,5] s1=some (SKN fl nx lf es)) ⟨rfl,U⟩ ?_
 rintro iD left s1 ⟨rfl,hs⟩ hp;refine⟨[0,5],SKN fl nx lf es,hs,U,fun vR=>?_,fun e ko he=>?_⟩
 . exact⟨(SKN fl nx lf es).fr.set 6 (some (.ef [.bool false])),{ SKN fl nx lf es with fr:=((SKN fl nx lf es).fr.set 6 (some (.ef [.bool false]))).set 7 (some (.bool false)) },U,U,U,.inl rfl,.ef [],hKN fl nx lf es,11,U,rfl,rfl,rfl⟩
 . have h1:=hp.length_eq;have h2:=he.length_eq;simp only[cD,bO,aT]at h1 h2;omega
theorem Tl:cU ak 113 [eI,w88] (x7 fl nx lf es) 8 eI (x7 fl nx lf es) 8:=by
 refine c5 Tryz.func113 (code:=RB) U U ?_;refine iO  1 (XQ []) (apj fl nx lf es) cR ?_;show TG ak 8 Tryz.f113.ntmps Az (eF [(1,w88),(2,P 8)] (hL (lKN fl nx lf es++[(8,.cells [eI])])) 9) _;refine cV U ?_;refine cV U ?_;refine fR (XQ []) (apk fl nx lf es) (dG ?_);refine⟨cR,fun s' dL=>?_⟩;have dL:eX 8 [2,6] s'=some (abZ fl nx lf es):=dL;refine c6 dL ?_;refine fg (i:=0) U ?_;refine oh (gf:=88) (lb:=[.ptr (some (7,0))]) U U U U U (WC fl nx lf es).one ?_;rintro v h n ⟨rfl,rfl,rfl⟩;refine⟨U,?_⟩;show TG ak 8 Tryz.f113.ntmps (dV Az) _ _;refine fu (XQ []) (apl fl nx lf es) (dG ?_);exact⟨cR,_,_,_,rfl,rfl,rfl,rfl⟩
theorem Nv:cU ak 23 [P3] (eu (pN fl nx lf es [])) 7 eI (eu (pN fl nx lf es [])) 7:=by
 have h86:cU ak 86 [w88] (x7 fl nx lf es) 8 eI (x7 fl nx lf es) 8:=by
  refine c5 Tryz.func86 (code:=Ep) U U ?_;refine fu ((XQ []).jt (au U) (Tl fl nx lf es)) (apm fl nx lf es) (dG ?_);exact⟨fun p hp=>by rw[aq]at hp;subst hp;exact Dg,_,_,_,rfl,rfl,rfl,rfl⟩
 have h61:cU ak 61 [w88] (x7 fl nx lf es) 8 eI (x7 fl nx lf es) 8:=by
  refine c5 Tryz.func61 (code:=Eo) U U ?_;refine fu ((XQ []).jt (au U) h86) (apn fl nx lf es) (dG ?_);refine⟨?_,_,_,_,rfl,rfl,rfl,rfl⟩
  repeat' (first|exact cR|refine ju ?_ ?_)
  . exact Dg
  . decide
 refine c5 Tryz.func23 (code:=OL) U U ?_;refine fu ((XQ []).jt (au U) h61) (apo fl nx lf es) (dG ?_);exact⟨fun p hp=>by rw[aq]at hp;subst hp;exact Dg,_,_,_,rfl,rfl,rfl,rfl⟩
end
section
variable(l:List (Nat×List (Nat×oZ)))
noncomputable abbrev csE:e9:=gG ak (kA 63 (jJ Lx) W16) (sw l) 1000 40
noncomputable abbrev XE:CX ak:=CX.of mo po (fk R9 GS) (sw l) 1000 40
end
section
variable(fl nx lf:Int)
def lSn:af:=eP (pN fl nx lf [] [])++[(7,.cells [P3]),(8,.dy none []),(9,.cells [.map (some 8)])]
def apq:af:=eP (pN fl nx lf [] [])++[(7,.cells [P3]),(9,.cells [.map (some 8)])]
def ab0:St:=eF [(2,P 10),(6,g81)] (hL (lSn fl nx lf++[(10,.cells [eI])])) 11
noncomputable def ahg:O:=.loop true none (ab0 fl nx lf).fr [7] U7 U8
noncomputable def Pj:Tr O:=hL (lSn fl nx lf++[(10,.cells [eI]),(11,.mA),(12,ahg fl nx lf)])
noncomputable def WD:St:=eF [(0,.fn (.yield 12) [] []),(5,P 13)] (hL (apq fl nx lf++[(10,.cells [eI]),(11,.mA),(12,ahg fl nx lf)])) 14
def sL:Tr O:=hL (lSn fl nx lf)
def kNc:af:=eP (pN fl nx lf [] [])++[(7,.cells [P3]),(19,.cells [.map (some 6)])]
def kNd:af:=kNc fl nx lf++[(20,.dy none [])]
def kNe:af:=kNc fl nx lf++[(20,.dy none []),(21,.cells [.map (some 20)])]
def Ua:af:=eP (pN fl nx lf [] [])++[(7,.cells [P3])]
end
section
variable(n:aa)(fl nx lf:Int)
theorem apr:c7 (kW []) [] 10 Tryz.f100 [1,2] (eO 1 RA) (cT [eI,g81] (sL fl nx lf) 10) [([],
   [],
   .to .normal (eF [(1,g81),(2,P 10)] (hL (lSn fl nx lf++[(10,.cells [eI])])) 11))]
 :=cQ.of U U U
theorem aps:c7 (kW []) [] 10 Tryz.f100 [2,6] (dK (dK OJ)) (eF [(1,g81),(2,P 10)] (hL (lSn fl nx lf++[(10,.cells [eI])])) 11) [([],
   [],
   .to .normal (ab0 fl nx lf))]
 :=cQ.of U U U
theorem apt:c7 (kW []) [] 10 Tryz.f100 [] (dV OJ) (tD (ab0 fl nx lf) (Pj fl nx lf) 13) [([],
   [],
   .ret (.di none 0 0 0) (sL fl nx lf) 10)]
 :=cQ.of U U U
theorem apu:c7 (kW []) [] 10 Tryz.f79 [0] (eO 1 Ll) (cT [g81] (sL fl nx lf) 10) [([],
   [],
   .to .normal (eF [(0,g81)] (sL fl nx lf) 10))]
 :=cQ.of U U U
theorem apv:c7 (kW []) [] 10 Tryz.f79 [] (dV (de 1 Ll)) (sC8 (sL fl nx lf) 10 eI) [([],
   [],
   .ret (.di none 0 0 0) (sL fl nx lf) 10)]
 :=cQ.of U U U
theorem apw:c7 (kW []) [] 10 Tryz.f54 [0,1] (eO 1 Lj) (cT [g81,g56] (sL fl nx lf) 10) [([],
   [],
   .to .normal (eF [(0,g81),(1,g56)] (sL fl nx lf) 10))]
 :=cQ.of U U U
theorem ahh:c7 (kW []) [] 10 Tryz.f54 [] (de 2 Lj) (sS8 (sL fl nx lf) 10 eI) [([],
   [((0:Int)<=(0:Int)/\0<256)],
   .ret (.di none 0 0 0) (sL fl nx lf) 10)]
 :=cQ.of U U U
theorem apx:c7 (fC (fC (kW []) 51 [P3,v78] (hL (kNc fl nx lf)) 20 (.map (some 20),hL (kNd fl nx lf),21)) 54 [v81,v56] (hL (kNe fl nx lf)) 22 (eI,hL (kNe fl nx lf),22)) [] 7 Tryz.f19 [1,3,4] (hd4) (cT [P3] (eu (pN fl nx lf [] [])) 7) [([],
   [fb [.ptr (some (3,0)),.fn (.func 78) [] [.ptr (some (19,0))]] (hL [(0,.ints .u32 gS),(1,.ints .u32 gR),(3,.cells [.di none 0 0 0,.int .i64 ((pN fl nx lf [] []).fl),.map (some 5),.map (some 6),.int .i64 ((pN fl nx lf [] []).nx),.bool false,.bool false,.int .i64 ((pN fl nx lf [] []).lf)]),(5,.dy none []),(6,.dy none []),(7,.cells [.ptr (some (3,0))]),(19,.cells [.map (some 6)])]) 20,fb [.fn (.func 81) [] [.ptr (some (21,0))],.fn (.func 56) [] [.ptr (some (7,0))]] (hL [(0,.ints .u32 gS),(1,.ints .u32 gR),(3,.cells [.di none 0 0 0,.int .i64 ((pN fl nx lf [] []).fl),.map (some 5),.map (some 6),.int .i64 ((pN fl nx lf [] []).nx),.bool false,.bool false,.int .i64 ((pN fl nx lf [] []).lf)]),(5,.dy none []),(6,.dy none []),(7,.cells [.ptr (some (3,0))]),(19,.cells [.map (some 6)]),(20,.dy none []),(21,.cells [.map (some 20)])]) 22],
   .to .normal (eF [(1,.ptr (some (7,0))),(3,.di none 0 0 0),(4,.di none 0 0 0)] (hL [(0,.ints .u32 gS),(1,.ints .u32 gR),(3,.cells [.di none 0 0 0,.int .i64 ((pN fl nx lf [] []).fl),.map (some 5),.map (some 6),.int .i64 ((pN fl nx lf [] []).nx),.bool false,.bool false,.int .i64 ((pN fl nx lf [] []).lf)]),(5,.dy none []),(6,.dy none []),(7,.cells [.ptr (some (3,0))])]) 8))]
 :=cQ.of U U U
theorem apy:c7 (kW []) [] 7 Tryz.f19 [1,4] (dK T5) (eF [(1,P 7),(3,eI),(4,eI)] (hL (Ua fl nx lf)) 8) [([],
   [],
   .to .normal (eF [(1,.ptr (some (7,0))),(4,.di none 0 0 0)] (hL [(0,.ints .u32 gS),(1,.ints .u32 gR),(3,.cells [.di none 0 0 0,.int .i64 ((pN fl nx lf [] []).fl),.map (some 5),.map (some 6),.int .i64 ((pN fl nx lf [] []).nx),.bool false,.bool false,.int .i64 ((pN fl nx lf [] []).lf)]),(5,.dy none []),(6,.dy none []),(7,.cells [.ptr (some (3,0))])]) 8))]
 :=cQ.of U U U
theorem ahi:c7 (fC Be 23 [P3] (hL (Ua fl nx lf)) 8 (eI,hL (Ua fl nx lf),8)) [] 7 Tryz.f19 [1,4] (dK G9) (eF [(1,P 7),(4,eI)] (hL (Ua fl nx lf)) 8) [([],
   [fb [.ptr (some (3,0))] (hL [(0,.ints .u32 gS),(1,.ints .u32 gR),(3,.cells [.di none 0 0 0,.int .i64 ((pN fl nx lf [] []).fl),.map (some 5),.map (some 6),.int .i64 ((pN fl nx lf [] []).nx),.bool false,.bool false,.int .i64 ((pN fl nx lf [] []).lf)]),(5,.dy none []),(6,.dy none []),(7,.cells [.ptr (some (3,0))])]) 8],
   .to .normal (eF [(1,.ptr (some (7,0))),(4,.di none 0 0 0)] (hL [(0,.ints .u32 gS),(1,.ints .u32 gR),(3,.cells [.di none 0 0 0,.int .i64 ((pN fl nx lf [] []).fl),.map (some 5),.map (some 6),.int .i64 ((pN fl nx lf [] []).nx),.bool false,.bool false,.int .i64 ((pN fl nx lf [] []).lf)]),(5,.dy none []),(6,.dy none []),(7,.cells [.ptr (some (3,0))])]) 8))]
 :=cQ.of U U U
theorem ahj:c7 Be [] 7 Tryz.f19 [1] (eO 3 (dV G9)) (eF [(1,P 7),(4,eI)] (hL (Ua fl nx lf)) 8) [([],
   [],
   .to .normal (eF [(1,.ptr (some (7,0)))] (hL [(0,.ints .u32 gS),(1,.ints .u32 gR),(3,.cells [.di none 0 0 0,.int .i64 0,.map (some 5),.map (some 6),.int .i64 ((pN fl nx lf [] []).nx),.bool false,.bool false,.int .i64 ((pN fl nx lf [] []).lf)]),(5,.dy none []),(6,.dy none []),(7,.cells [.ptr (some (3,0))])]) 8))]
 :=cQ.of U U U
theorem ahk:c7 (fC Be 57 [P3] (hL (Ua 0 nx lf)) 8 (.ef [],hL (Hq [(7,.cells [P3])] 8 lf),10)) [] 7 Tryz.f19 [] (de 3 (dV G9)) (eF [(1,.ptr (some (7,0)))] (hL (Ua 0 nx lf)) 8) [([],
   [fb [.ptr (some (3,0))] (hL [(0,.ints .u32 gS),(1,.ints .u32 gR),(3,.cells [.di none 0 0 0,.int .i64 ((pN (0:Int) nx lf [] []).fl),.map (some 5),.map (some 6),.int .i64 ((pN (0:Int) nx lf [] []).nx),.bool false,.bool false,.int .i64 ((pN (0:Int) nx lf [] []).lf)]),(5,.dy none []),(6,.dy none []),(7,.cells [.ptr (some (3,0))])]) 8],
   .ret (.int .i64 0) (hL [(0,.ints .u32 gS),(1,.ints .u32 gR),(3,.cells [.di none 0 0 0,.int .i64 0,.map (some 7),.map (some 8),.int .i64 0,.bool false,.bool false,.int .i64 lf]),(5,.dy none []),(6,.dy none []),(7,.dy none []),(8,.dy none [])]) 9)]
 :=cQ.of U U U
theorem apz(d:aa)(fl nx lf:Int):c7 (csE OI) [(16,.dc (.bool false))] 7 Tryz.f15 [] (zg) (cT [P3,.str d,.dM false 0 []] (eu (pN fl nx lf [] [])) 7) [([],
   [(V.bool (decide ((Int.ofNat d.length)>(65536:Int)))=V.bool false),([]=strs (dH [])),(0=0),(0<=1000000),(∀(x:aa),x∈dH []->x.length=32),(gS=gS),(gR=gR),([]=strs (dH [])),(0=0),(0<=1000000),((eH (d::dH [])).length<=1000000000),((if true=true then V.ef [D.fZ (V.agg [V.str ([]:aa),V.di none 0 0 0,V.int aj (0:Int)]) (dj (D.str (dN d (dH []))) (pN fl nx lf [] []).es),V.bool (dj (D.str (dN d (dH []))) (pN fl nx lf [] []).es).isSome]else D.fZ (V.agg [V.str ([]:aa),V.di none 0 0 0,V.int aj (0:Int)]) (dj (D.str (dN d (dH []))) (pN fl nx lf [] []).es))=V.ef [BA,V.bool false]),([]=strs (dH [])),(0=0),(d.length<=100000000),(0<=1000000),(0<=100000000),(V.bool (decide (IntKind.i64.wrap ((0:Int)+(Int.ofNat (gO d (dH [])).length))>(1048576:Int)))=V.bool false),(0<(gO d (dH [])).length),(eT (gO d (dH [])).length 1 1=true)],
   .ret (.ef [.str (dN d (dH [])),.int .i64 0]) (hL [(0,.ints .u32 gS),(1,.ints .u32 gR),(3,.cells [.di (some (7,0)) ((gO d (dH [])).length) ((gO d (dH [])).length) 1,.int .i64 ((pN fl nx lf [] []).fl),.map (some 5),.map (some 6),.int .i64 (IntKind.i64.wrap ((pN fl nx lf [] []).nx+(1:Int))),.bool false,.bool false,.int .i64 ((pN fl nx lf [] []).lf)]),(5,.dy none [(.str (dN d (dH [])),.agg [.str d,.dM 0 [],.int .i64 ((pN fl nx lf [] []).nx)])]),(6,.dy none []),(7,.iX 5 false (gO d (dH [])))]) 8)]
 :=cQ.of U U U
theorem apB(d d0:aa)(gJ:List (aa))(k:Int)(cO cP:Nat)(b:aa)(fl nx lf:Int)(es rt:ae):c7 (kW (OH d0 gJ k)) [(16,.dc (.bool false))] 7 Tryz.f15 [] (zg) (cT [P3,.str d,.dM false 0 []] (eu (pS cO cP b fl nx lf es rt)) 7) [([],
   [(V.bool (decide ((Int.ofNat d.length)>(65536:Int)))=V.bool false),([]=strs (dH [])),(0=0),(0<=1000000),(∀(x:aa),x∈dH []->x.length=32),(gS=gS),(gR=gR),([]=strs (dH [])),(0=0),(0<=1000000),((eH (d::dH [])).length<=1000000000),((if true=true then V.ef [D.fZ (V.agg [V.str ([]:aa),V.di none 0 0 0,V.int aj (0:Int)]) (dj (D.str (dN d (dH []))) es),V.bool (dj (D.str (dN d (dH []))) es).isSome]else D.fZ (V.agg [V.str ([]:aa),V.di none 0 0 0,V.int aj (0:Int)]) (dj (D.str (dN d (dH []))) es))=V.ef [og d0 gJ k,V.bool true])],
   .ret (.ef [.str (dN d (dH [])),.int .i64 0]) (eu (pS cO cP b fl nx lf es rt)) 7)]
 :=cQ.of U U U
theorem apC(d:aa)(cO cP:Nat)(b:aa)(fl nx lf:Int)(es rt:ae):c7 (csE OI) [(16,.dc (.bool false))] 7 Tryz.f15 [] (zg) (cT [P3,.str d,.dM false 0 []] (eu (pS cO cP b fl nx lf es rt)) 7) [([],
   [(V.bool (decide ((Int.ofNat d.length)>(65536:Int)))=V.bool false),([]=strs (dH [])),(0=0),(0<=1000000),(∀(x:aa),x∈dH []->x.length=32),(gS=gS),(gR=gR),([]=strs (dH [])),(0=0),(0<=1000000),((eH (d::dH [])).length<=1000000000),((if true=true then V.ef [D.fZ (V.agg [V.str ([]:aa),V.di none 0 0 0,V.int aj (0:Int)]) (dj (D.str (dN d (dH []))) es),V.bool (dj (D.str (dN d (dH []))) es).isSome]else D.fZ (V.agg [V.str ([]:aa),V.di none 0 0 0,V.int aj (0:Int)]) (dj (D.str (dN d (dH []))) es))=V.ef [BA,V.bool false]),([]=strs (dH [])),(0=0),(d.length<=100000000),(0<=1000000),(0<=100000000),(V.bool (decide (IntKind.i64.wrap ((Int.ofNat cO)+(Int.ofNat (gO d (dH [])).length))>(1048576:Int)))=V.bool false),(0<cP),(cO=b.length),(eT (cO+(gO d (dH [])).length) 1 1=true)],
   .ret (.ef [.str (dN d (dH [])),.int .i64 0]) (hL [(0,.ints .u32 gS),(1,.ints .u32 gR),(3,.cells [.di (some (7,0)) (cO+(gO d (dH [])).length) (cO+(gO d (dH [])).length) 1,.int .i64 fl,.map (some 5),.map (some 6),.int .i64 (IntKind.i64.wrap (nx+(1:Int))),.bool false,.bool false,.int .i64 lf]),(5,.dy none (ig (D.str (dN d (dH []))) (D.agg [D.str d,D.dM 0 [],D.int aj nx]) es)),(6,.dy none rt),(7,.iX 5 false (b++eN (dX (gO d (dH [])))))]) 8)]
 :=cQ.of U U U
theorem apD(d x:aa)(fl nx lf:Int):c7 (kW []) [(16,.dc (.bool false))] 7 Tryz.f15 [] (zg) (cT [P3,.str d,.dM false 1 [.str x]] (eu (pN fl nx lf [] [])) 7) [([],
   [(V.bool (decide ((Int.ofNat d.length)>(65536:Int)))=V.bool false),([D.str x]=strs (dH [D.str x])),(1=(dH [D.str x]).length),(1<=1000000),(∀(x_1:aa),x_1∈dH [D.str x]->x_1.length=32),((0:Int)<=(0:Int)/\(0:Int)<(1:Int)),([D.str x].length=1)],
   .ret (.ef [.str [],.int .i64 63]) (hL [(0,.ints .u32 gS),(1,.ints .u32 gR),(3,.cells [.di none 0 0 0,.int .i64 ((pN fl nx lf [] []).fl),.map (some 5),.map (some 6),.int .i64 ((pN fl nx lf [] []).nx),.bool false,.bool false,.int .i64 ((pN fl nx lf [] []).lf)]),(5,.dy none []),(6,.dy none [])]) 7)]
 :=cQ.of U U U
theorem apE:c7 (Yv []) [(23,.dc (.bool false)),(27,.dc (.bool false))] 7 Tryz.f16 [] (wJ) (cT [P3,.str n,.str []] (eu (pN fl nx lf [] [])) 7) [([],
   [(V.bool (eG n ([]:aa))=V.bool false),(V.bool (decide ((Int.ofNat n.length)>(64:Int)))=V.bool false)],
   .ret (.int .i64 0) (hL [(0,.ints .u32 gS),(1,.ints .u32 gR),(3,.cells [.di none 0 0 0,.int .i64 ((pN fl nx lf [] []).fl),.map (some 5),.map (some 6),.int .i64 ((pN fl nx lf [] []).nx),.bool false,.bool false,.int .i64 ((pN fl nx lf [] []).lf)]),(5,.dy none []),(6,.dy none [])]) 7)]
 :=cQ.of U U U
theorem apF(d:aa)(fl nx lf:Int):c7 (Yv []) [(23,.dc (.bool false)),(27,.dc (.bool false)),(31,.dc (.bool true))] 7 Tryz.f16 [] (wJ) (cT [P3,.str n,.str d] (eu (pN fl nx lf [] [])) 7) [([],
   [(V.bool (eG n ([]:aa))=V.bool false),(V.bool (decide ((Int.ofNat n.length)>(64:Int)))=V.bool false),((V.bool !eG d ([]:aa))=V.bool true)],
   .ret (.int .i64 62) (hL [(0,.ints .u32 gS),(1,.ints .u32 gR),(3,.cells [.di none 0 0 0,.int .i64 ((pN fl nx lf [] []).fl),.map (some 5),.map (some 6),.int .i64 ((pN fl nx lf [] []).nx),.bool false,.bool false,.int .i64 ((pN fl nx lf [] []).lf)]),(5,.dy none []),(6,.dy none [])]) 7)]
 :=cQ.of U U U
end
theorem apG(cO cP:Nat)(b:aa)(fl nx lf:Int)(es rt:ae):c7 (kW []) [] 7 Tryz.f20 [] (dS Tryz.f20) (cT [P3] (eu (pS cO cP b fl nx lf es rt)) 7) [([],
   [],
   .ret (.int .i64 ((Int.ofNat es.length))) (eu (pS cO cP b fl nx lf es rt)) 7)]
 :=cQ.of U U U
theorem apH(fl nx lf:Int):c7 (kW []) [] 7 Tryz.f20 [] (dS Tryz.f20) (cT [P3] (eu (pN fl nx lf [] [])) 7) [([],
   [],
   .ret (.int .i64 ((Int.ofNat (pN fl nx lf [] []).es.length))) (hL [(0,.ints .u32 gS),(1,.ints .u32 gR),(3,.cells [.di none 0 0 0,.int .i64 ((pN fl nx lf [] []).fl),.map (some 5),.map (some 6),.int .i64 ((pN fl nx lf [] []).nx),.bool false,.bool false,.int .i64 ((pN fl nx lf [] []).lf)]),(5,.dy none []),(6,.dy none [])]) 7)]
 :=cQ.of U U U
abbrev sC(n cP:Nat)(b:aa)(fl nx lf:Int)(es rt:ae):gX:=pc (pN fl nx lf es rt) n cP b
abbrev sZ(fl nx lf:Int):gX:=pz (pN fl nx lf [] [])
section
variable{n cP:Nat}{b:aa}{fl nx lf:Int}{es rt:ae}
section
variable{f:FuncId}{nm:aa}{rest:ag}{a:aa}{e:Int}{m:Nat}{u:aa}
theorem YM(c:cU ak f (P3::rest) (eu (pS n cP b fl nx lf es rt)) 7 (.ef [.str a,.int .i64 e]) (eu (pS n cP b fl nx lf es rt)) 7):x5 f rest (sC n cP b fl nx lf es rt) (.ef [.str a,.int .i64 e]) (sC n cP b fl nx lf es rt):=c.DD 4 U
theorem Tm(c:cU ak f (P3::rest) (eu (pS n cP b fl nx lf es rt)) 7 (.int .i64 e) (eu (pS n cP b fl nx lf es rt)) 7):x5 f rest (sC n cP b fl nx lf es rt) (.int .i64 e) (sC n cP b fl nx lf es rt):=c.DD 4 U
theorem ab1(c:cU ak f (P3::rest) (eu (pN fl nx lf [] [])) 7 (.ef [.str a,.int .i64 e]) (eu (pN fl nx lf [] [])) 7):x5 f rest (sZ fl nx lf) (.ef [.str a,.int .i64 e]) (sZ fl nx lf):=c.DD 4 U
theorem Tn(c:cU ak f (P3::rest) (eu (pN fl nx lf [] [])) 7 (.int .i64 e) (eu (pN fl nx lf [] [])) 7):x5 f rest (sZ fl nx lf) (.int .i64 e) (sZ fl nx lf):=c.DD 4 U
theorem ab2{nx2:Int}{tU:ae}(c:cU ak f (P3::rest) (eu (pS n cP b fl nx lf es rt)) 7 (.ef [.str a,.int .i64 e]) (Rv m u fl nx2 lf tU rt) 8):x5 f rest (sC n cP b fl nx lf es rt) (.ef [.str a,.int .i64 e]) (sC m m u fl nx2 lf tU rt):=c.DD 4 U
theorem Me{rt2:ae}(c:cU ak f (P3::rest) (eu (pS n cP b fl nx lf es rt)) 7 (.int .i64 e) (M2 fl nx lf es m u rt2) 8):x5 f rest (sC n cP b fl nx lf es rt) (.int .i64 e) (sC m m u fl nx lf es rt2):=c.DD 4 U
theorem ahl{d:aa}{rs:List (aa)}(hd:d.length<=65536)(hn:rs.length<=1024)(h32:∀x∈rs,x.length=32)(DY:∀x∈rs,El es x)(hk:El es (dN d rs)):
  x5 15 [.str d,qN rs] (sC n cP b fl nx lf es rt) (.ef [.str (dN d rs),.int .i64 0]) (sC n cP b fl nx lf es rt):=by
 refine YM ?_;cases rs with
 |cons x rs=>exact Rw d n cP b fl nx lf es rt false (x::rs) hd hn h32 DY hk
 |nil=>
  have hO:∀n:Nat,Int.ofNat n=(n:Int):=fun _=>rfl;obtain⟨d0,gJ,k,hk⟩:=hk;refine c5 Tryz.func15 (code:=zg) U U ?_;refine fu (XQ (OH d0 gJ k)) (apB d d0 gJ k n cP b fl nx lf es rt) (dG ?_);refine⟨?_,_,_,_,rfl,rfl,rfl,rfl⟩;have hj:=jH d [] (by simp);simp only[bO]at hj;refine fm (jc dh) (fm rfl (fm rfl (fm be (fm (fun _ hx=>absurd hx aM) (fm rfl (fm rfl (fm rfl (fm rfl (fm be (fm ?_ (eR (mz hk))))))))))));show(eH [d]).length<=_;omega
theorem ahm{d:aa}{rs:List (aa)}(hd:d.length<=65536)(hn:rs.length<=1024)(h32:∀x∈rs,x.length=32)(DY:∀x∈rs,El es x)(hk:dj (.str (dN d rs)) es=none)(hc:0<cP)(hl:n=b.length)(NT:n+(gO d rs).length<=1048576):
  x5 15 [.str d,qN rs] (sC n cP b fl nx lf es rt) (.ef [.str (dN d rs),.int .i64 0]) (sC (n+(gO d rs).length) (n+(gO d rs).length) (b++gO d rs) fl (IntKind.i64.wrap (nx+1)) lf (ig (.str (dN d rs)) (pU d rs nx) es) rt):=by
 refine ab2 ?_;cases rs with
 |cons x rs=>exact Rx d n cP b fl nx lf es rt false (x::rs) hd hn (Nat.succ_pos _) h32 DY hk hc hl NT
 |nil=>
  have hO:∀n:Nat,Int.ofNat n=(n:Int):=fun _=>rfl;refine c5 Tryz.func15 (code:=zg) U U ?_;obtain⟨L,hr⟩:=apC d n cP b fl nx lf es rt;simp only[I4,gk]at hr;refine iq (XE OI) mo _ U hr (dG ?_);refine⟨?_,_,_,_,rfl,rfl,rfl,rfl⟩;have hj:=jH d [] (by simp);simp only[bO]at hj;refine fm (jc dh) (fm (by first|rfl|trivial) (fm (by first|rfl|trivial) (fm be (fm (fun _ hx=>absurd hx aM) (fm (by first|rfl|trivial) (fm (by first|rfl|trivial) (fm (by first|rfl|trivial) (fm (by first|rfl|trivial) (fm be (fm (?_) (fm (qH hk) (fm (by first|rfl|trivial) (fm (by first|rfl|trivial) (fm be (fm be (fm be (fm (?_) (fm (hc) (fm (hl) (eR (jq (by show n+(gO d []).length<=_;omega))))))))))))))))))))))
  . show(eH [d]).length<=_;omega
  . show V.bool (decide (IntKind.i64.wrap (Int.ofNat n+Int.ofNat (gO d []).length)>1048576))=_;rw[fE dh dh];exact jc dh
theorem ahn{d:aa}{rs:List (aa)}(hd:d.length<=65536)(hn:rs.length<=1024)(h32:∀x∈rs,x.length=32)(j:Nat)(x:aa)(hj:rs[j]? =some x)(hx:dj (.str x) es=none)(hg:∀i y,i<j->rs[i]? =some y->El es y):
  x5 15 [.str d,qN rs] (sC n cP b fl nx lf es rt) (.ef [.str [],.int .i64 63]) (sC n cP b fl nx lf es rt):=YM (VH false rs n cP b fl nx lf es rt d hd hn h32 j x hj hx hg)
theorem WE{d:aa}(hd:d.length<=65536):x5 15 [.str d,qN []] (sZ fl nx lf) (.ef [.str (dN d []),.int .i64 0]) (sC (gO d []).length (gO d []).length (gO d []) fl (IntKind.i64.wrap (nx+1)) lf (ig (.str (dN d [])) (pU d [] nx) []) []):=by
 have key:cU ak 15 [P3,.str d,.dM false 0 []] (eu (pN fl nx lf [] [])) 7 (.ef [.str (dN d []),.int .i64 0]) (hL [(0,.ints .u32 gS),(1,.ints .u32 gR),(3,.cells [.di (some (7,0)) (gO d []).length (gO d []).length 1,.int .i64 fl,.map (some 5),.map (some 6),.int .i64 (IntKind.i64.wrap (nx+1)),.bool false,.bool false,.int .i64 lf]),(5,.dy none (ig (.str (dN d [])) (pU d [] nx) [])),(6,.dy none []),(7,.iX 5 false (gO d []))]) 8:=by
  have hO:∀n:Nat,Int.ofNat n=(n:Int):=fun _=>rfl;refine c5 Tryz.func15 (code:=zg) U U ?_;obtain⟨L,hr⟩:=apz d fl nx lf;simp only[I4]at hr;refine iq (XE OI) mo _ U hr (dG ?_);refine⟨?_,_,_,_,rfl,rfl,rfl,rfl⟩;have hj:=jH d [] (by simp);have w7:=Fj d (rs:=[]) (by simp);have hr0:=(IU d []).1;simp only[bO]at hj w7;refine fm (jc dh) (fm (by first|rfl|trivial) (fm (by first|rfl|trivial) (fm be (fm (fun _ hx=>absurd hx aM) (fm (by first|rfl|trivial) (fm (by first|rfl|trivial) (fm (by first|rfl|trivial) (fm (by first|rfl|trivial) (fm be (fm (?_) (fm (qH rfl) (fm (by first|rfl|trivial) (fm (by first|rfl|trivial) (fm be (fm be (fm be (fm (?_) (fm (hr0) (eR (jq (by show(gO d []).length<=_;omega)))))))))))))))))))))
  . show(eH [d]).length<=_;omega
  . show V.bool (decide (IntKind.i64.wrap ((0:Int)+Int.ofNat (gO d []).length)>1048576))=_;rw[fE dh dh];exact jc dh
 generalize gO d []=u at key ⊢;generalize ig (.str (dN d [])) (pU d [] nx) []=es at key ⊢;generalize dN d []=a at key ⊢;exact key.DD 4 U
theorem aho{d x:aa}(hd:d.length<=65536)(hx:x.length=32):x5 15 [.str d,qN [x]] (sZ fl nx lf) (.ef [.str [],.int .i64 63]) (sZ fl nx lf):=by
 refine ab1 ?_;have hO:∀n:Nat,Int.ofNat n=(n:Int):=fun _=>rfl;refine c5 Tryz.func15 (code:=zg) U U ?_;refine fu (XQ []) (apD d x fl nx lf) (dG ?_);refine⟨?_,_,_,_,rfl,rfl,rfl,rfl⟩;exact fm (jc dh) (fm rfl (fm rfl (fm be (fm (fun y hy=>by rw[aq.1 hy];exact hx) (fm ⟨dP,dP⟩ (eR rfl))))))
theorem WH(hn:VC nm):x5 16 [.str nm,.str []] (sZ fl nx lf) (.int .i64 0) (sZ fl nx lf):=by
 refine Tn ?_;refine c5 Tryz.func16 (code:=wJ) U U ?_;refine fu (XU []) (apE nm fl nx lf) (dG ?_);exact⟨fm (zo hn.1) (eR (G6 hn.2)),_,_,_,rfl,rfl,rfl,rfl⟩
theorem WI{d:aa}(hn:VC nm)(hd:d≠[]):x5 16 [.str nm,.str d] (sZ fl nx lf) (.int .i64 62) (sZ fl nx lf):=by
 refine Tn ?_;refine c5 Tryz.func16 (code:=wJ) U U ?_;refine fu (XU []) (apF nm d fl nx lf) (dG ?_);exact⟨fm (zo hn.1) (fm (G6 hn.2) (eR (G5 hd))),_,_,_,rfl,rfl,rfl,rfl⟩
theorem WJ:x5 66 [] (sC n cP b fl nx lf es rt) (.int .i64 0) (sC n cP b (Int.ofNat n) nx lf es rt):=(abI n cP b fl nx lf es rt).DD 4 U
theorem WK:x5 66 [] (sZ fl nx lf) (.int .i64 0) (sZ 0 nx lf):=(Wn fl nx lf [] []).DD 4 U
end
end
end Go.Proofs.YtfihojpgobmmdaaGreatDoor
