/- Lemmas on the chunk store. No conditions. -/
import Derived.Test.YtfihojpgobmmdaaGreatDoorJointW19
import Derived.Test.YtfihojpgobmmdaaGreatDoorJointW20
set_option linter.unusedVariables false
set_option linter.unusedSimpArgs false
set_option linter.unusedSectionVars false
set_option maxRecDepth 20000
namespace Go.Proofs.YtfihojpgobmmdaaGreatDoor
open Go Go.Eng
section
variable(g b:Nat){f:FuncId}(p:gZ){args:ag}(l:List RS){ld:ag}(s:RS){ns:List (Option Nat)}(m i:Nat)
def pz:gZ:=⟨none,p.X,p.R,p.off,p.arm,p.O,p.Q,p.D⟩
def pc(n k:Nat)(b:L):gZ:=⟨some (n,k,b),p.X,p.R,p.off,p.arm,p.O,p.Q,p.D⟩
def sh:Nat:=match p.lo with|none=>0|some _=>1
def lgB(g:Nat)(p:gZ):af:=match p.lo with|none=>[]|some (_,_,b)=>[(g,.jf 5 false b)]
def ahd(c r a:Nat)(p:gZ)(m:Nat)(nx:ai):af:=
 [(0,.ints .u32 gS),(1,.ints .u32 gR),(3,.cells [.ptr (some (4,0)),.dj (some (a,0)) m m 2]),(4,.cells (vI g c r p))]++lgB g p++[(c,.dI none p.Q),(r,.dI none p.D),(a,.deep nx)]
abbrev moG(c r a:Nat)(p:gZ)(l:List RS):af:=ahd g c r a p l.length (gu l)
abbrev Np:af:=moG b (b+sh p) (b+1+sh p) 8 p l
abbrev moA:af:=moG b (b+sh p) (b+1+sh p) (b+2+sh p) p l
abbrev moD(nx:ai):af:=ahd b (b+sh p) (b+1+sh p) (b+2+sh p) p m nx
abbrev gI:af:=moG 5 6 7 8 p l
abbrev wU:af:=moA 9 p l
abbrev nR:Nat:=12+sh p
theorem pD{l l1:af}{mA B:H lf}{n n2 HL:Nat}{v v1:V}(I:cW ak f ld (J l1) ns.length v1 mA HL)
  (e:((l1.all fun q=>Nat.blt q.1 fP),(jU.all fun p=>decide (ns.getD p.2 none=some p.2)),nG ns,(ns.all fun x=>match x with|none=>true|some m=>(jU.any fun p=>decide (p.2=m))||((J l).get m).isSome),SA ns l l1,V.y9 (mu ns) args,BK ns (J l1) (v1,mA,HL) (J l) n)=(true,true,true,true,l1.map (fun q=>some q.2),some ld,some (v,B,n2))):
  cW ak f args (J l) n v B n2:=by
 simp only[aB]at e;obtain⟨e1,e2,e3,e4,e5,e6,e7⟩:=e;exact gm (jJ e1 e2 e3 e4 e5) e6 e7 I
theorem xb{l l1:af}{mA B:H lf}{n n2 HL:Nat}{v v1:V}(I:cW ak f ld (J l1) ns.length v1 mA HL)(lo:Nat)
  (e:((l1.all fun q=>Nat.blt q.1 fP),(jU.all fun p=>decide (ns.getD p.2 none=some p.2)),nG ns,(ns.all fun x=>match x with|none=>true|some m=>(jU.any fun p=>decide (p.2=m))||((J l).get m).isSome),SA ns l l1,V.y9 (mu ns) args,(BK ns (J l1) (v1,mA,HL) (J l) n).bind fun x=>Jv n lo [0] (HN x.1 x.2.1 x.2.2))=(true,true,true,true,l1.map (fun q=>some q.2),some ld,some (HN v B n2))):
  cW ak f args (J l) n v B n2:=by
 simp only[aB]at e;obtain⟨e1,e2,e3,e4,e5,e6,e7⟩:=e;cases e0:BK ns (J l1) (v1,mA,HL) (J l) n with
 |none=>rw[e0]at e7;cases e7
 |some x=>
  obtain⟨v3,h3,n3⟩:=x;rw[e0]at e7;exact(gm (jJ e1 e2 e3 e4 e5) e6 e0 I).Ei lo e7
def lgN:Option Nat:=match p.lo with|none=>none|some _=>some g
def ab5(c r a:Nat)(p:gZ):List (Option Nat):=[some 0,some 1,some 2,some 3,some 4,lgN g p,some c,some r,some a]
abbrev Ur:List (Option Nat):=ab5 5 6 7 8 p
abbrev nsA:List (Option Nat):=ab5 b (b+sh p) (b+1+sh p) (b+2+sh p) p
def Us:List (Option Nat):=[some 0,some 1,some 2,some 4,lgN 5 p,some 6,some 7]
theorem apJ(s:RS):c9 fN [(12,.di (iW i)),(14,.di s.v)] 9 Tryz.f29 [] (dN Tryz.f29) (cU [P3] (J (gI p l)) 9) [([],
   [(V.int aj (IntKind.i64.wrap ((Int.ofNat l.length)-(1:Int)))=iW i),((0:Int)<=Int.ofNat i/\Int.ofNat i<(Int.ofNat l.length)),(0+i*2+2<=(gu l).length),(V.agg (rs.l6 (dF (gu l) (0+i*2) 2))=s.v)],
   .ret (.agg [.dS false (s.C.length) (eL s.C),.dS false (s.ro.length) (eR s.ro)]) (J (gI p l)) 9)]
 :=by rcases p with⟨_|⟨_,_,_⟩,_⟩<;>exact cR.of U U U
theorem m29(hl:l.length<=1000000):cW ak 29 [P3] (J (gI p (l++[s]))) 9 s.v (J (gI p (l++[s]))) 9:=by
 refine c5 Tryz.func29 (code:=dN Tryz.f29) U U ?_;refine fh jM (apJ p (l++[s]) l.length s) (dG ?_);exact⟨fm ((Tc l s hl).1) (fm ((Tc l s hl).2) (fm ((DR l s).1) (eX ((DR l s).2)))),_,_,_,rfl,rfl,rfl,rfl⟩
theorem pk_(mi:L)(l:List RS)(s:RS)(z:Int)(i:Nat)(c:gq):c9 (fG (fG fN 29 [P3] (J (gI p l)) 9 (s.v,J (gI p l),9)) 69 [.str Tb,eM] (J (gI p l++[(9,bx s)])) 10 (.str mi,J (gI p l++[(9,bx s)]),10)) [(14,.di (iW (s.C.length+1))),(15,.di (iW i)),(20,.split),(25,.di (.dx c.d))] 9 Tryz.f89 [] (dN Tryz.f89) (cU [P3,.int .u8 z] (J (gI p l)) 9) [([((Int.ofNat i==(Int.ofNat s.C.length)),true)],
   [fC [P3] (J (gI p l)) 9,(V.int aj (IntKind.i64.wrap ((Int.ofNat s.C.length)+(1:Int)))=iW (s.C.length+1)),(Int.ofNat (s.C.length+1)≠(0:Int)),(V.int aj ((IntKind.i64.wrap z).tmod (Int.ofNat (s.C.length+1)))=iW i),fC [.str Tb,eM] (J (gI p l++[(9,bx s)])) 10],
   .ret (.str mi) (J (gI p l)) 9),
  ([((Int.ofNat i==(Int.ofNat s.C.length)),false)],
   [fC [P3] (J (gI p l)) 9,(V.int aj (IntKind.i64.wrap ((Int.ofNat s.C.length)+(1:Int)))=iW (s.C.length+1)),(Int.ofNat (s.C.length+1)≠(0:Int)),(V.int aj ((IntKind.i64.wrap z).tmod (Int.ofNat (s.C.length+1)))=iW i),((0:Int)<=Int.ofNat i/\Int.ofNat i<(Int.ofNat s.C.length)),((eL s.C).length=s.C.length*3),(V.dx (dF (eL s.C) (i*3) 3)=V.dx c.d)],
   .ret (.str (c.dg)) (J (gI p l)) 9)]
 :=by rcases p with⟨_|⟨_,_,_⟩,_⟩<;>exact cR.of U U U
end
theorem m89(p:gZ)(l:List RS)(s:RS)(z:Nat)(hz:z<=255)(hs:s.C.length<=1000000)(hl:l.length<=1000000):cW ak 89 [P3,.int .u8 (z:Int)] (J (gI p (l++[s]))) 9 (.str (kN s z)) (J (gI p (l++[s]))) 9:=by
 refine c5 Tryz.func89 (code:=dN Tryz.f89) U U ?_;have h29:=m29 p l s hl;obtain⟨p1,p2,p3⟩:=WJ s hz hs;generalize l++[s]=fH at h29 ⊢;have hX:=WI (J (gI p fH++[(9,bx s)])) 10;by_cases W:z%(s.C.length+1)<s.C.length
 . have jZ:=aN V.dx (ue s.C _ W);have Sv:kN s z=(s.C[z%(s.C.length+1)]).dg:=by unfold kN;rw[dif_pos W]
   rw[Sv];generalize s.C[z%(s.C.length+1)]=c at jZ ⊢;refine fh ((jM.jA DP h29).jA Y9 hX) (pk_ p Pc fH s z (z%(s.C.length+1)) c) fun g hg I=>?_;rcases iU hg with rfl|rfl
   . have h:=I _ (aq.2 rfl);dsimp only at h;have:=Int.ofNat.inj (beq_iff_eq.1 h);omega
   . exact⟨fm (⟨rfl,rfl,rfl⟩) (fm (p1) (fm (p2) (fm (p3) (fm (⟨az _,dm⟩) (fm (jy _) (eX (jZ))))))),_,_,_,rfl,rfl,rfl,rfl⟩
 . have Sv:kN s z=Pc:=by unfold kN;rw[dif_neg W]
   rw[Sv];have hme:z%(s.C.length+1)=s.C.length:=by have:=Nat.mod_lt z (show 0<s.C.length+1 by omega);omega
   refine fh ((jM.jA DP h29).jA Y9 hX) (pk_ p Pc fH s z (z%(s.C.length+1)) ⟨[],[],[]⟩) fun g hg I=>?_;rcases iU hg with rfl|rfl
   . exact⟨fm (⟨rfl,rfl,rfl⟩) (fm (p1) (fm (p2) (fm (p3) (eX (⟨rfl,rfl,rfl⟩))))),_,_,_,rfl,rfl,rfl,rfl⟩
   . have h:=I _ (aq.2 rfl);dsimp only at h;rw[hme]at h;rw[cr]at h;cases h
section
variable(a b0 c:Int)(d:L)
def e60:L:=List.drop 0 (List.take (if(60:Int)<(Int.ofNat d.length)then(60:Int)else(Int.ofNat d.length)).toNat d)
def FJ(r:RR):lf:=.cells [.dS false r.s.C.length (eL r.s.C),.dS false r.s.ro.length (eR r.s.ro),.str r.dg,.int .i64 r.er,.bool r.ch]
end
section
variable(p:gZ)(l:List RS)(x y z:Int)
def sXo(d:L)(C:ag)(k:Nat):St:=eG [(0,P3),(3,.ptr (some (9,0))),(5,.dj (some (10,0)) k k 1)] (J (gI p l++[(9,mw x y z d),(10,.cells C)])) 11
def sXc(d:L)(k:Nat)(C:ai):St:=eG [(0,P3),(3,.ptr (some (9,0))),(5,.dj (some (10,0)) k k 1)] (J (gI p l++[(9,mw x y z d),(10,.deep C)])) 11
def sXu(r:RR)(v:List (Nat×V)):St:=eG ([(6,.ptr (some (11+sh p,0)))]++v) (J (Np 9 p l++[(11+sh p,FJ r)])) (12+sh p)
def sXv(m:Nat)(nx:ai)(r:RR)(v:List (Nat×V)):St:=eG ([(6,.ptr (some (12+sh p,0)))]++v) (J (moD 9 p m nx++[(12+sh p,FJ r)])) (13+sh p)
theorem xp1(d:L):c9 fN [] 9 Tryz.f64 [0,3,5] (eV 2 uh) (cU [P3,r9 x y z d] (J (gI p l)) 9) [([],
   [],
   .to .normal (sXo p l x y z d [] 0))]
 :=by rcases p with⟨_|⟨_,_,_⟩,_⟩<;>exact cR.of U U U
theorem xp2(s:RS)(x y z:Int)(d w:L):c9 (fG (fG fN 29 [P3] (J (gI p l++[(9,mw x y z d),(10,.cells [])])) 11 (s.v,J (gI p l++[(9,mw x y z d),(10,.cells [])]),11)) 89 [P3,.int .u8 z] (J (gI p l++[(9,mw x y z d),(10,.cells [])])) 11 (.str w,J (gI p l++[(9,mw x y z d),(10,.cells [])]),11)) [(13,.split),(19,.split)] 9 Tryz.f64 [0,3,5] (dP (dh 2 uh)) (sXo p l x y z d [] 0) [([((decide (y.tmod (3:Int)>(0:Int))),true),((decide ((Int.ofNat s.C.length)>(0:Int))),true)],
   [fC [P3] (J (gI p l++[(9,mw x y z d),(10,.cells [])])) 11,fC [P3,.int .u8 z] (J (gI p l++[(9,mw x y z d),(10,.cells [])])) 11],
   .to .normal (sXo p l x y z d [.str w] 1)),
  ([((decide (y.tmod (3:Int)>(0:Int))),true),((decide ((Int.ofNat s.C.length)>(0:Int))),false)],
   [fC [P3] (J (gI p l++[(9,mw x y z d),(10,.cells [])])) 11],
   .to .normal (sXo p l x y z d [] 0)),
  ([((decide (y.tmod (3:Int)>(0:Int))),false)],
   [],
   .to .normal (sXo p l x y z d [] 0))]
 :=by rcases p with⟨_|⟨_,_,_⟩,_⟩<;>exact cR.of U U U
end
section
variable(p:gZ)(l:List RS)(x y z:Int)(d:L)(ps:List (L))
def Pd:af:=gI p l++[(9,mw x y z d),(10,.deep (strs ps))]
abbrev sXp:St:=sXc p l x y z d ps.length (strs ps)
def sXq:St:=eG [(0,P3),(3,.ptr (some (9,0))),(5,ni ps)] (J (gI p l++[(9,mw x y z d)])) 10
def sXr(r:RR):St:=eG [(0,P3),(3,.ptr (some (9,0))),(5,ni ps),(6,.ptr (some (10,0)))] (J (gI p l++[(9,mw x y z d),(10,FJ r)])) 11
def sXs(r:RR):St:=eG [(0,P3),(3,.ptr (some (11+sh p,0))),(6,.ptr (some (12+sh p,0))),(7,.str r.dg),(8,.int .i64 r.er)] (J (Np 9 p l++[(11+sh p,mw x y z d),(12+sh p,FJ r)])) (13+sh p)
end
section
variable(p:gZ)(l:List RS)(x y z:Int)
theorem xp3(d:L)(ps:List (L))(w:L):c9 (fG fN 89 [P3,.int .u8 y] (J (Pd p l x y z d ps)) 11 (.str w,J (Pd p l x y z d ps),11)) [(31,.split)] 9 Tryz.f64 [0,3,5] (dP (dh 3 uh)) (sXp p l x y z d ps) [([((decide (y.tmod (3:Int)>(1:Int))),true)],
   [fC [P3,.int .u8 y] (J (Pd p l x y z d ps)) 11,(0+ps.length*1<=(strs ps).length),(0<1),(eU (ps.length+1) 1 16=true)],
   .to .normal (sXc p l x y z d (ps.length+1) (List.take (ps.length*1) (List.drop 0 (strs ps))++[rs.str w]))),
  ([((decide (y.tmod (3:Int)>(1:Int))),false)],
   [],
   .to .normal (sXp p l x y z d ps))]
 :=by rcases p with⟨_|⟨_,_,_⟩,_⟩<;>exact cR.of U U U
theorem xp4(s:RS)(x y z:Int)(d:L)(ps:List (L))(r:RR):c9 (fG (fG fN 29 [P3] (J (gI p l++[(9,mw x y z d)])) 23 (s.v,J (gI p l++[(9,mw x y z d)]),23)) 37 [s.v,.str (e60 d),ni ps] (J (gI p l++[(9,mw x y z d)])) 23 (r.v,J (gI p l++[(9,mw x y z d)]),23)) [] 9 Tryz.f64 [0,3,5,6] (dP (dh 4 uh)) (sXq p l x y z d ps) [([],
   [fC [P3] (J (gI p l++[(9,mw x y z d)])) 23,(((0:Int)<=if(60:Int)<(Int.ofNat d.length)then(60:Int)else(Int.ofNat d.length))/\(if(60:Int)<(Int.ofNat d.length)then(60:Int)else(Int.ofNat d.length))<=(Int.ofNat d.length)),(((0:Int)<=if(60:Int)<(Int.ofNat d.length)then(60:Int)else(Int.ofNat d.length))/\(if(60:Int)<(Int.ofNat d.length)then(60:Int)else(Int.ofNat d.length))<=(Int.ofNat d.length)),(([.agg [.dS false (s.C.length) (eL s.C),.dS false (s.ro.length) (eR s.ro)],.str (List.drop 0 (List.take (if(60:Int)<(Int.ofNat d.length)then(60:Int)else(Int.ofNat d.length)).toNat d)),.dS false (ps.length) (strs ps)]:ag)=[s.v,.str (e60 d),ni ps]/\(J (gI p l++[(9,mw x y z d)]))=(J (gI p l++[(9,mw x y z d)]))/\23=23)],
   .to .normal (sXr p l x y z d ps r))]
 :=by rcases p with⟨_|⟨_,_,_⟩,_⟩<;>exact cR.of U U U
theorem xp5(q:gZ)(l:List RS)(x y z:Int)(d:L)(ps:List (L))(r:RR):c9 (fG fN 15 [.ptr (some (4,0)),.str (e60 d),ni ps] (J (gI p l++[(9,mw x y z d),(10,FJ r)])) 29 (.ew [.str r.dg,.int .i64 r.er],J (Np 29 q l++[(9,mw x y z d),(10,FJ r)]),(31+sh q))) [] 9 Tryz.f64 [0,3,6,7,8] (dP (dh 5 uh)) (sXr p l x y z d ps r) [([],
   [(((0:Int)<=if(60:Int)<(Int.ofNat d.length)then(60:Int)else(Int.ofNat d.length))/\(if(60:Int)<(Int.ofNat d.length)then(60:Int)else(Int.ofNat d.length))<=(Int.ofNat d.length)),(([.ptr (some (4,0)),.str (List.drop 0 (List.take (if(60:Int)<(Int.ofNat d.length)then(60:Int)else(Int.ofNat d.length)).toNat d)),.dS false (ps.length) (strs ps)]:ag)=[.ptr (some (4,0)),.str (e60 d),ni ps]/\(J (gI p l++[(9,mw x y z d),(10,FJ r)]))=(J (gI p l++[(9,mw x y z d),(10,FJ r)]))/\29=29)],
   .to .normal (sXs q l x y z d r))]
 :=by rcases p with⟨_|⟨_,_,_⟩,_⟩<;>rcases q with⟨_|⟨_,_,_⟩,_⟩<;>exact cR.of U U U
theorem xp6(d:L)(r:RR):c9 fN [(67,.split)] 9 Tryz.f64 [6,7,8] (dP (dh 6 uh)) (sXs p l x y z d r) [([((r.ch),true)],
   [(0+l.length*2<=(gu l).length),(0<1),(eU (l.length+1) 2 48=true)],
   .to .normal (sXv p (l.length+1) (List.take (l.length*2) (List.drop 0 (gu l))++[rs.dS r.s.C.length (eL r.s.C),rs.dS r.s.ro.length (eR r.s.ro)]) r [(7,.str r.dg),(8,.int .i64 r.er)])),
  ([((r.ch),false)],
   [],
   .to .normal (sXu p l r [(7,.str r.dg),(8,.int .i64 r.er)]))]
 :=by rcases p with⟨_|⟨_,_,_⟩,_⟩<;>exact cR.of U U U
end
noncomputable abbrev zP:Code:=dN Tryz.f65
section
variable(p:gZ)(l:List RS)(x y z:Int)(d w:L)
def sYq:St:=eG [(0,P3),(3,.ptr (some (9,0))),(5,.str w)] (J (gI p l++[(9,mw x y z d)])) 10
def sYr(r:RR):St:=eG [(0,P3),(3,.ptr (some (9,0))),(5,.str w),(6,.ptr (some (10,0)))] (J (gI p l++[(9,mw x y z d),(10,FJ r)])) 11
end
section
variable(p:gZ)(l:List RS)(x y z:Int)(r:RR)
def sYs:St:=eG [(0,P3),(6,.ptr (some (11+sh p,0))),(7,.int .i64 r.er)] (J (Np 9 p l++[(11+sh p,FJ r)])) (12+sh p)
theorem yp1(d w:L):c9 (fG fN 89 [P3,.int .u8 z] (J (gI p l++[(9,mw x y z d)])) 10 (.str w,J (gI p l++[(9,mw x y z d)]),10)) [] 9 Tryz.f65 [0,3,5] (eV 2 zP) (cU [P3,r9 x y z d] (J (gI p l)) 9) [([],
   [fC [P3,.int .u8 z] (J (gI p l++[(9,mw x y z d)])) 10],
   .to .normal (sYq p l x y z d w))]
 :=by rcases p with⟨_|⟨_,_,_⟩,_⟩<;>exact cR.of U U U
theorem yp2(d w:L):c9 fN [(15,.split)] 9 Tryz.f65 [0,3,5] (dP (dh 2 zP)) (sYq p l x y z d w) [([((y.tmod (4:Int)==(0:Int)),true)],
   [],
   .to .normal (sYq p l x y z d [])),
  ([((y.tmod (4:Int)==(0:Int)),false)],
   [],
   .to .normal (sYq p l x y z d w))]
 :=by rcases p with⟨_|⟨_,_,_⟩,_⟩<;>exact cR.of U U U
theorem yp3(s:RS)(x y z:Int)(d w e:L)(r:RR):c9 (fG (fG (fG fN 29 [P3] (J (gI p l++[(9,mw x y z d)])) 19 (s.v,J (gI p l++[(9,mw x y z d)]),19)) 91 [.int .u8 y] (J (gI p l++[(9,mw x y z d)])) 19 (.str e,J (gI p l++[(9,mw x y z d)]),19)) 90 [s.v,.str e,.str w] (J (gI p l++[(9,mw x y z d)])) 19 (r.v,J (gI p l++[(9,mw x y z d)]),19)) [] 9 Tryz.f65 [0,3,5,6] (dP (dh 3 zP)) (sYq p l x y z d w) [([],
   [fC [P3] (J (gI p l++[(9,mw x y z d)])) 19,fC [.int .u8 y] (J (gI p l++[(9,mw x y z d)])) 19,fC [s.v,.str e,.str w] (J (gI p l++[(9,mw x y z d)])) 19],
   .to .normal (sYr p l x y z d w r))]
 :=by rcases p with⟨_|⟨_,_,_⟩,_⟩<;>exact cR.of U U U
theorem yp4(q:gZ)(l:List RS)(x y z:Int)(d w e:L)(r:RR):c9 (fG (fG fN 91 [.int .u8 y] (J (gI p l++[(9,mw x y z d),(10,FJ r)])) 21 (.str e,J (gI p l++[(9,mw x y z d),(10,FJ r)]),21)) 16 [.ptr (some (4,0)),.str e,.str w] (J (gI p l++[(9,mw x y z d),(10,FJ r)])) 21 (.int .i64 r.er,J (Np 21 q l++[(9,mw x y z d),(10,FJ r)]),(23+sh q))) [] 9 Tryz.f65 [0,6,7] (dP (dh 4 zP)) (sYr p l x y z d w r) [([],
   [fC [.int .u8 y] (J (gI p l++[(9,mw x y z d),(10,FJ r)])) 21,fC [.ptr (some (4,0)),.str e,.str w] (J (gI p l++[(9,mw x y z d),(10,FJ r)])) 21],
   .to .normal (sYs q l r))]
 :=by rcases p with⟨_|⟨_,_,_⟩,_⟩<;>rcases q with⟨_|⟨_,_,_⟩,_⟩<;>exact cR.of U U U
theorem yp5:c9 fN [(33,.split)] 9 Tryz.f65 [6,7] (dP (dh 5 zP)) (sYs p l r) [([((r.ch),true)],
   [(0+l.length*2<=(gu l).length),(0<1),(eU (l.length+1) 2 48=true)],
   .to .normal (sXv p (l.length+1) (List.take (l.length*2) (List.drop 0 (gu l))++[rs.dS r.s.C.length (eL r.s.C),rs.dS r.s.ro.length (eR r.s.ro)]) r [(7,.int .i64 r.er)])),
  ([((r.ch),false)],
   [],
   .to .normal (sXu p l r [(7,.int .i64 r.er)]))]
 :=by rcases p with⟨_|⟨_,_,_⟩,_⟩<;>exact cR.of U U U
end
def DS(g c r:Nat)(p:gZ):af:=[(0,.ints .u32 gS),(1,.ints .u32 gR),(3,.cells (vI g c r p))]++(match p.lo with|none=>[]|some (_,_,b)=>[(g,.jf 5 false b)])++[(c,.dI none p.Q),(r,.dI none p.D)]
def stR(p:gZ):af:=match p.lo with
 |none=>DS 0 7 8 p
 |some _=>DS 7 8 9 p
def nS(p:gZ):Nat:=match p.lo with|none=>9|some _=>10
def AO(f:FuncId)(rest:ag)(p:gZ)(v:V)(q:gZ):Prop:=cW ak f (P3::rest) (eu p) 7 v (J (stR q)) (nS q)
theorem Bv:15<Tryz.prog.funcs.size:=au U
theorem Tg:37<Tryz.prog.funcs.size:=au U
theorem Th:89<Tryz.prog.funcs.size:=au U
theorem Nq(s:RS)(d:L)(ps:List (L))(h:H lf)(n:Nat)(N:s.C.length<=100000)(B:s.ro.length<=1000000)(h3:d.length<=65536)(h4:ps.length<=1024)(h5:∀x∈ps,x.length=32):
  cW ak 37 [s.v,.str d,ni ps] h n (ij s d ps).v h n:=by
 have key:cW ak 37 [s.v,.str d,ni ps] h n (ij ⟨fo (eL s.C),lQ (eR s.ro)⟩ d (dy (strs ps))).v h n:=by
  intro E w de ra g hd;refine SV.2 _ h n (okS s++[s.C.length<=100000,strs ps=strs (dy (strs ps)),ps.length=(dy (strs ps)).length,d.length<=65536,ps.length<=1024,∀x∈dy (strs ps),x.length=32]) _ _ _ rfl ?_ E w de ra g hd U;refine jK (AL K B) ?_;rw[fR];exact fm N (fm rfl (fm rfl (fm h3 (fm h4 (eX h5)))))
 rw[iM,pT,fR]at key;exact key
theorem Ti(d:L):((0:Int)<=if(60:Int)<(Int.ofNat d.length)then(60:Int)else(Int.ofNat d.length))/\(if(60:Int)<(Int.ofNat d.length)then(60:Int)else(Int.ofNat d.length))<=(Int.ofNat d.length):=by
 have hO:∀n:Nat,Int.ofNat n=(n:Int):=fun _=>rfl;rw[hO];split<;>constructor<;>omega
theorem Tj(d:L):e60 d=d.take 60:=by
 unfold e60;rw[bn];split
 . rfl
 . rename_i h;have:d.length<=60:=by have h:¬((60:Int)<(d.length:Int)):=h;omega
   rw[bq this,bq (by simp)]
theorem WM{ps:List (L)}(w:L):List.take (ps.length*1) (List.drop 0 (strs ps))++[rs.str w]=strs (ps++[w]):=by
 rw[bn,bk,bq (by rw[eN];exact aA _),DH];rfl
theorem Nr{l:List RS}(r:RS):List.take (l.length*2) (List.drop 0 (gu l))++[rs.dS r.C.length (eL r.C),rs.dS r.ro.length (eR r.ro)]=gu (l++[r]):=by
 rw[bn,bq (by rw[sV];exact aA _)];unfold gu;rw[aY,cz];rfl
theorem Jx{k:Nat}(h:k<=1000000):eU k 2 48=true:=by
 unfold eU;exact bQ ⟨K,K⟩
def kH(s:RS)(y z:Nat):List (L):=(if 0<y%3/\0<s.C.length then[kN s z]else[])++(if 1<y%3 then[kN s y]else[])
theorem AP{s:RS}(h:∀c∈s.C,c.dg.length=32)(z:Nat):(kN s z).length=32:=by
 unfold kN;split
 . exact h _ (b7 _)
 . exact Td
theorem FK{s:RS}(h:∀c∈s.C,c.dg.length=32)(y z:Nat):(kH s y z).length<=2/\∀x∈kH s y z,x.length=32:=by
 unfold kH;refine⟨?_,fun x G=>?_⟩
 . rw[ax];split<;>split<;>simp
 . rcases aW.1 G with q|q
   . split at q
     . rw[aq.1 q];exact AP h z
     . cases q
   . split at q
     . rw[aq.1 q];exact AP h y
     . cases q
theorem Hv(y k:Nat):decide ((y:Int).tmod (3:Int)>(k:Int))=decide (k<y%3):=by
 rw[cC K];exact decide_eq_decide.2 K
def ql(l:List RS)(r:RR):List RS:=if r.ch=true then l++[r.s]else l
section
variable(p:gZ)(l:List RS)(s:RS)(x y z:Nat)(d:L)
theorem ahj(hy:y<=255)(hz:z<=255)(hs:s.C.length<=100000)(hl:l.length<=1000){es:Exit->St->Prop}
  (h:TG ak 9 Tryz.f64.ntmps (dh 4 uh) (sXq p (l++[s]) x y z d (kH s y z)) es):TG ak 9 Tryz.f64.ntmps uh (cU [P3,r9 x y z d] (J (gI p (l++[s]))) 9) es:=by
 have h29:=m29 p l s K;have h89:=fun a (ha:a<=255)=>m89 p l s a ha K K;generalize l++[s]=fH at h29 h89 h ⊢;refine iF  2 jM (xp1 p fH x y z d) cT ?_;show TG _ _ _ (dh 2 uh) _ _;refine cZ U ?_;have k29:cW ak 29 [P3] (J (gI p fH++[(9,mw x y z d),(10,.cells [])])) 11 s.v (J (gI p fH++[(9,mw x y z d),(10,.cells [])])) 11:=
  pD (ns:=Ur p) h29 (by rcases p with⟨_|⟨_,_,_⟩,_⟩<;>kernel_rfl)
 have k89:cW ak 89 [P3,.int .u8 (z:Int)] (J (gI p fH++[(9,mw x y z d),(10,.cells [])])) 11 (.str (kN s z)) (J (gI p fH++[(9,mw x y z d),(10,.cells [])])) 11:=by
  have:=h89 z hz;generalize kN s z=w at this ⊢;exact pD (ns:=Ur p) this (by rcases p with⟨_|⟨_,_,_⟩,_⟩<;>kernel_rfl)
 have go3:∀ps,ps.length<=1->ps=(if 0<y%3/\0<s.C.length then[kN s z]else[])->TG ak 9 Tryz.f64.ntmps (dY (dh 2 uh)) (sXp p fH x y z d ps) es:=by
  intro ps HG hpe;have qW:∀us,us=kH s y z->TG ak 9 Tryz.f64.ntmps (dh 4 uh) (sXp p fH x y z d us) es:=by
   intro us hus;subst hus;generalize kH s y z=us at h ⊢;refine tV [10] (cS:=[(strs us).length=us.length*1]) (s2:=eG [(0,P3),(3,.ptr (some (9,0))),(5,ni us)] ((J (Pd p fH x y z d us)).set 10 none) 11) (by rcases p with⟨_|⟨_,_,_⟩,_⟩<;>kernel_rfl) (eX (by rw[eN,bk])) ?_;exact c6 (live:=[0,3,5]) (by rcases p with⟨_|⟨_,_,_⟩,_⟩<;>kernel_rfl) h
  have apQ:cW ak 89 [P3,.int .u8 (y:Int)] (J (Pd p fH x y z d ps)) 11 (.str (kN s y)) (J (Pd p fH x y z d ps)) 11:=by
   have:=h89 y hy;generalize kN s y=w at this ⊢;exact pD (ns:=Ur p) this (by rcases p with⟨_|⟨_,_,_⟩,_⟩<;>kernel_rfl)
  show TG _ _ _ (dh 3 uh) _ _;refine cZ U ?_;obtain⟨L3,wR⟩:=xp3 p fH x y z d ps (kN s y);rw[WM]at wR;refine gC (jM.jA Th apQ) mo l9 U wR fun g hg I=>?_;rcases iU hg with rfl|rfl
  . have c1:=I _ (aq.2 rfl);have c1:decide (1<y%3)=true:=(Hv y 1).symm.trans c1;refine⟨fm ⟨rfl,rfl,rfl⟩ (fm (by rw[eN];omega) (fm dU (eX (lZ K)))),fun s' dO=>c6 dO ?_⟩;have:=qW (ps++[kN s y]) (by rw[hpe];unfold kH;rw[aH (aE c1)]);unfold sXp at this;rw[ax]at this;exact this
  . have c1:=I _ (aq.2 rfl);have c1:decide (1<y%3)=false:=(Hv y 1).symm.trans c1;refine⟨cT,fun s' dO=>c6 dO ?_⟩;exact qW ps (by rw[hpe];unfold kH;rw[aI (c:=1<y%3) (aJ c1),cA])
 refine fO ((jM.jA DP k29).jA Th k89) (xp2 p fH s x y z d (kN s z)) fun g hg I=>?_;rcases w8 hg with rfl|rfl|rfl
 . have c1:decide (0<y%3)=true:=(Hv y 0).symm.trans (I _ (aP ..));have c2:=aE (I _ (aK _ (aq.2 rfl)));refine⟨fm ⟨rfl,rfl,rfl⟩ (eX ⟨rfl,rfl,rfl⟩),fun s' dO=>c6 dO ?_⟩;have:=go3 [kN s z] (aA 1) (by rw[aH ⟨aE c1,by rw[kr]at c2;omega⟩]);exact tX [10] (by rcases p with⟨_|⟨_,_,_⟩,_⟩<;>kernel_rfl) this
 . have c2:=aJ (I _ (aK _ (aq.2 rfl)));refine⟨eX ⟨rfl,rfl,rfl⟩,fun s' dO=>c6 dO ?_⟩;have:=go3 [] (aX 1) (by rw[aI fun q=>c2 dm]);exact tX [10] (by rcases p with⟨_|⟨_,_,_⟩,_⟩<;>kernel_rfl) this
 . have c1:decide (0<y%3)=false:=(Hv y 0).symm.trans (I _ (aq.2 rfl));refine⟨cT,fun s' dO=>c6 dO ?_⟩;have:=go3 [] (aX 1) (by rw[aI fun q=>aJ c1 q.1]);exact tX [10] (by rcases p with⟨_|⟨_,_,_⟩,_⟩<;>kernel_rfl) this
end
section
variable(p:gZ)(m:Nat)(l:List RS)(r:RR)
theorem xp7(nx:ai)(r:RR):c9 fN [(82,.di (.bool true)),(87,.di (.bool true))] 9 Tryz.f64 [] (dh 7 uh) (sXv p m nx r [(7,.str r.dg),(8,.int .i64 r.er)]) [([],
   [(V.bool (eJ r.dg r.dg)=V.bool true),(V.bool (r.er==r.er)=V.bool true)],
   .ret (.bool true) (J (moD 9 p m nx)) (12+sh p))]
 :=by rcases p with⟨_|⟨_,_,_⟩,_⟩<;>exact cR.of U U U
theorem xp8:c9 fN [(82,.di (.bool true)),(87,.di (.bool true))] 9 Tryz.f64 [] (dh 7 uh) (sXu p l r [(7,.str r.dg),(8,.int .i64 r.er)]) [([],
   [(V.bool (eJ r.dg r.dg)=V.bool true),(V.bool (r.er==r.er)=V.bool true)],
   .ret (.bool true) (J (Np 9 p l)) (11+sh p))]
 :=by rcases p with⟨_|⟨_,_,_⟩,_⟩<;>exact cR.of U U U
theorem yp7(nx:ai)(r:RR):c9 fN [(48,.di (.bool true))] 9 Tryz.f65 [] (dh 6 zP) (sXv p m nx r [(7,.int .i64 r.er)]) [([],
   [(V.bool (r.er==r.er)=V.bool true)],
   .ret (.bool true) (J (moD 9 p m nx)) (12+sh p))]
 :=by rcases p with⟨_|⟨_,_,_⟩,_⟩<;>exact cR.of U U U
theorem yp8:c9 fN [(48,.di (.bool true))] 9 Tryz.f65 [] (dh 6 zP) (sXu p l r [(7,.int .i64 r.er)]) [([],
   [(V.bool (r.er==r.er)=V.bool true)],
   .ret (.bool true) (J (Np 9 p l)) (11+sh p))]
 :=by rcases p with⟨_|⟨_,_,_⟩,_⟩<;>exact cR.of U U U
end
theorem ahk{f:FuncId}{args:ag}{h:H lf}{v:V}(p:gZ)(l:List RS)(hd:v= .bool true)(c:cW ak f args h 9 v (J (Np 9 p l)) (11+sh p)):cW ak f args h 9 v (J (wU p l)) (nR p):=by
 subst hd;exact c.Ei 5 (by rcases p with⟨_|⟨_,_,_⟩,_⟩<;>kernel_rfl)
theorem ahl:90<Tryz.prog.funcs.size:=au U
theorem Za:91<Tryz.prog.funcs.size:=au U
theorem WN(s:RS)(a x:L)(h:H lf)(n:Nat)(N:s.C.length<=100000)(B:s.ro.length<64)(h3:a≠[])(h4:a.length<=64):cW ak 90 [s.v,.str a,.str x] h n (pC s a x).v h n:=by
 have key:cW ak 90 [s.v,.str a,.str x] h n (pC ⟨fo (eL s.C),lQ (eR s.ro)⟩ a x).v h n:=by
  intro E w de ra g hd;refine SX.2 _ h n (okS s++[s.ro.length<64,a≠[],a.length<=64]) _ _ _ rfl ?_ E w de ra g hd U;exact jK (AL K K) (fm B (fm h3 (eX h4)))
 rw[iM,pT]at key;exact key
theorem WO(y:Nat)(hy:y<=255)(h:H lf)(n:Nat):cW ak 91 [.int .u8 (y:Int)] h n (.str (Nn y)) h n:=by
 intro E w de ra g hd;exact Te.2 _ h n [(0:Int)<=(y:Int)/\(y:Int)<=255] _ _ _ rfl (eX ⟨az _,K⟩) E w de ra g hd U
theorem Tk(a:L):V.bool (eJ a a)=V.bool true:=by rw[fV,cr]
theorem Hw(a:Int):V.bool (a==a)=V.bool true:=by rw[cr]
theorem Ns(p:gZ){f:FuncId}{args:ag}{h:H lf}(fH:List RS)(r:RR)
  (N:r.ch=true->cW ak f args h 9 (.bool true) (J (moD 9 p (fH.length+1) (gu (fH++[r.s])))) (12+sh p)) (B:r.ch=false->cW ak f args h 9 (.bool true) (J (Np 9 p fH)) (11+sh p)):cW ak f args h 9 (.bool true) (J (wU p (ql fH r))) (nR p):=by
 cases I:r.ch with
 |true=>
  have:=N I;rw[show fH.length+1=(fH++[r.s]).length from by simp]at this;unfold ql;rw[aH I];exact this
 |false=>unfold ql;rw[aI (by rw[I];decide)];exact ahk p fH rfl (B I)
theorem m64(p:gZ)(q:gZ)(l:List RS)(s:RS)(x y z:Nat)(d:L)(hy:y<=255)(hz:z<=255)(hs:s.C.length<=100000)(hr:s.ro.length<=1000000)(h32:∀c∈s.C,c.dg.length=32)(hl:l.length<=999)
  (hS:AO 15 [.str (d.take 60),ni (kH s y z)] p (.ew [.str (ij s (d.take 60) (kH s y z)).dg,.int .i64 (ij s (d.take 60) (kH s y z)).er]) q):
  cW ak 64 [P3,r9 x y z d] (J (gI p (l++[s]))) 9 (.bool true) (J (wU q (ql (l++[s]) (ij s (d.take 60) (kH s y z))))) (nR q):=by
 have HG:=FK h32 y z;have h29:=m29 p l s K;have h37:=fun(h:H lf) (n:Nat)=>Nq s (d.take 60) (kH s y z) h n hs hr (by rw[aZ];omega) K HG.2;have oM:(l++[s]).length<=1000:=by rw[ax];simp;omega
 have go:∀es,TG ak 9 Tryz.f64.ntmps (dh 6 uh) (sXs q (l++[s]) x y z d (ij s (d.take 60) (kH s y z))) es->TG ak 9 Tryz.f64.ntmps uh (cU [P3,r9 x y z d] (J (gI p (l++[s]))) 9) es:=by
  intro es h;refine ahj p l s x y z d hy hz hs K ?_;generalize l++[s]=fH at h29 h ⊢;rw[<- Tj]at hS h37 h;generalize ij s (e60 d) (kH s y z)=r at hS h37 h;generalize kH s y z=ps at hS h37 ⊢;have k29:cW ak 29 [P3] (J (gI p fH++[(9,mw x y z d)])) 23 s.v (J (gI p fH++[(9,mw x y z d)])) 23:=
   pD (ns:=Ur p) h29 (by rcases p with⟨_|⟨_,_,_⟩,_⟩<;>kernel_rfl)
  refine cZ U ?_;refine fO ((jM.jA DP k29).jA Tg (h37 _ _)) (xp4 p fH s x y z d ps r) (dG ?_);refine⟨fm ⟨rfl,rfl,rfl⟩ (fm (Ti d) (fm (Ti d) (eX ⟨rfl,rfl,rfl⟩))),fun s' dO=>c6 dO ?_⟩;show TG ak 9 Tryz.f64.ntmps (dh 5 uh) (sXr p fH x y z d ps r) es;refine cZ U ?_;have hS2:cW ak 15 [.ptr (some (4,0)),.str (e60 d),ni ps] (J (gI p fH++[(9,mw x y z d),(10,FJ r)])) 29 (.ew [.str r.dg,.int .i64 r.er]) (J (Np 29 q fH++[(9,mw x y z d),(10,FJ r)])) (31+sh q):=by
   generalize e60 d=e at hS ⊢;exact xb (ns:=Us p) hS 29 (by rcases p with⟨_|⟨_,_,_⟩,_⟩<;>rcases q with⟨_|⟨_,_,_⟩,_⟩<;>kernel_rfl)
  refine fO (jM.jA Bv hS2) (xp5 p q fH x y z d ps r) (dG ?_);exact⟨fm (Ti d) (eX ⟨rfl,rfl,rfl⟩),fun s' dO=>c6 dO h⟩
 generalize ij s (d.take 60) (kH s y z)=r at go;generalize l++[s]=fH at go oM;refine Ns q fH r (fun Tl=>?_) (fun Tl=>?_)
 . refine c5 Tryz.func64 (code:=uh) U U (go _ ?_);refine cZ U ?_;obtain⟨L6,LF⟩:=xp6 q fH x y z d r;rw[Nr]at LF;refine gC jM mo l9 U LF fun g hg I=>?_;rcases iU hg with rfl|rfl
   . refine⟨fm (by rw[sV];omega) (fm dU (eX (Jx K))),fun s' dO=>c6 dO ?_⟩;refine fh jM (xp7 q (fH.length+1) (gu (fH++[r.s])) r) (dG ?_);exact⟨fm (Tk _) (eX (Hw _)),_,_,_,rfl,rfl,rfl,rfl⟩
   . have c1:r.ch=false:=I _ (aq.2 rfl);rw[Tl]at c1;cases c1
 . refine c5 Tryz.func64 (code:=uh) U U (go _ ?_);refine cZ U ?_;refine fO jM (xp6 q fH x y z d r) fun g hg I=>?_;rcases iU hg with rfl|rfl
   . have c1:r.ch=true:=I _ (aq.2 rfl);rw[Tl]at c1;cases c1
   . refine⟨cT,fun s' dO=>c6 dO ?_⟩;refine fh jM (xp8 q fH r) (dG ?_);exact⟨fm (Tk _) (eX (Hw _)),_,_,_,rfl,rfl,rfl,rfl⟩
noncomputable abbrev DT:Code:=dN Tryz.f28
noncomputable abbrev ahm:Code:=dP (dh 4 DT)
noncomputable abbrev Tm:Code:=dz (dz (dY ahm))
noncomputable abbrev Jy:Code:=dz (dP (dY Tm))
noncomputable abbrev apS:Code:=dz (dz (dh 4 Jy))
noncomputable abbrev ahn:Code:=dP (dh 5 DT)
noncomputable abbrev ab7:Code:=dz (dz (dY ahn))
def ckO(c:gq):lf:=.cells [.str c.dg,.str c.da,.dS false c.D.length (strs c.D)]
section
variable(p:gZ)(l:List RS)(w:RS)(zs:List (L))(bs:List Bool)
def DU:af:=gI p l++[(9,bx w)]
def HO(c:gq):af:=gI p l++[(9,bx w),(10,ckO c)]
def sS(r:List (Nat×V)):St:=eG ([(0,P3),(3,.ptr (some (9,0))),(5,ni zs)]++r) (J (DU p l w)) 10
def sT(c:gq)(i:Nat)(r:List (Nat×V)):St:=eG ([(0,P3),(3,.ptr (some (9,0))),(5,ni zs),(6,.dS false w.C.length (lR bs)),(7,iW i),(8,.ptr (some (10,0)))]++r) (J (HO p l w c)) 11
end
section
variable(p:gZ)(l:List RS)(w:RS)
theorem sm1(zs:List (L)):c9 (fG fN 23 [.ptr (some (4,0))] (J (DU p l w)) 10 (ni zs,J (DU p l w),10)) [] 9 Tryz.f28 [0,3,5] (eV 2 DT) (cU [P3,w.v] (J (gI p l)) 9) [([],
   [fC [.ptr (some (4,0))] (J (DU p l w)) 10],
   .to .normal (sS p l w zs []))]
 :=by rcases p with⟨_|⟨_,_,_⟩,_⟩<;>exact cR.of U U U
theorem sm2(zs:List (L))(i:Nat):c9 (fG fN 20 [.ptr (some (4,0))] (J (DU p l w)) 27 (.int .i64 (Int.ofNat i),J (DU p l w),27)) [(29,.split),(36,.split)] 9 Tryz.f28 [0,3,5] (dP (dh 2 DT)) (sS p l w zs []) [([((Int.ofNat i !=(Int.ofNat w.C.length)),true)],
   [fC [.ptr (some (4,0))] (J (DU p l w)) 27],
   .ret (.bool false) (J (gI p l)) 9),
  ([((Int.ofNat i !=(Int.ofNat w.C.length)),false),(((Int.ofNat zs.length) !=(Int.ofNat w.ro.length)),true)],
   [fC [.ptr (some (4,0))] (J (DU p l w)) 27],
   .ret (.bool false) (J (gI p l)) 9),
  ([((Int.ofNat i !=(Int.ofNat w.C.length)),false),(((Int.ofNat zs.length) !=(Int.ofNat w.ro.length)),false)],
   [fC [.ptr (some (4,0))] (J (DU p l w)) 27],
   .to .normal (sS p l w zs []))]
 :=by rcases p with⟨_|⟨_,_,_⟩,_⟩<;>exact cR.of U U U
end
section
variable(p:gZ)(l:List RS)(w:RS)
theorem sm3(zs:List (L))(bs:List Bool):c9 (fG fN 68 [w.v] (J (DU p l w)) 10 (.dS false w.C.length (lR bs),J (DU p l w),10)) [] 9 Tryz.f28 [0,3,5,6] (dP (dh 3 DT)) (sS p l w zs []) [([],
   [fC [w.v] (J (DU p l w)) 10],
   .to .normal (sS p l w zs [(6,.dS false w.C.length (lR bs))]))]
 :=by rcases p with⟨_|⟨_,_,_⟩,_⟩<;>exact cR.of U U U
theorem sm4(zs:List (L))(bs:List Bool):c9 fN [] 9 Tryz.f28 [0,3,5,6,7] (dP ahm) (sS p l w zs [(6,.dS false w.C.length (lR bs))]) [([],
   [],
   .to .normal (sS p l w zs [(6,.dS false w.C.length (lR bs)),(7,iW 0)]))]
 :=by rcases p with⟨_|⟨_,_,_⟩,_⟩<;>exact cR.of U U U
theorem sm5(zs:List (L))(bs:List Bool)(i:Nat):c9 fN [(44,.split)] 9 Tryz.f28 [0,3,5,6,7] (dP Tm) (sS p l w zs [(6,.dS false w.C.length (lR bs)),(7,iW i)]) [([((decide (Int.ofNat i<(Int.ofNat w.C.length))),true)],
   [],
   .to .normal (sS p l w zs [(6,.dS false w.C.length (lR bs)),(7,iW i)])),
  ([((decide (Int.ofNat i<(Int.ofNat w.C.length))),false)],
   [],
   .to (.exit 0) (sS p l w zs [(6,.dS false w.C.length (lR bs)),(7,iW i)]))]
 :=by rcases p with⟨_|⟨_,_,_⟩,_⟩<;>exact cR.of U U U
theorem sm6(zs:List (L))(bs:List Bool)(i:Nat)(c:gq):c9 (fG fN 25 [.ptr (some (4,0)),.str c.dg] (J (HO p l w c)) 25 (.ew [.str c.da,ni c.D,.int .i64 0],J (HO p l w c),25)) [(50,.di (.dx c.d))] 9 Tryz.f28 [0,3,5,6,7,8,9,10,11] (eV 2 Jy) (sS p l w zs [(6,.dS false w.C.length (lR bs)),(7,iW i)]) [([],
   [((0:Int)<=Int.ofNat i/\Int.ofNat i<(Int.ofNat w.C.length)),((eL w.C).length=w.C.length*3),(V.dx (dF (eL w.C) (i*3) 3)=V.dx c.d),fC [.ptr (some (4,0)),.str c.dg] (J (HO p l w c)) 25],
   .to .normal (sT p l w zs bs c i [(9,.str c.da),(10,ni c.D),(11,.int .i64 0)]))]
 :=by rcases p with⟨_|⟨_,_,_⟩,_⟩<;>exact cR.of U U U
theorem sm7(zs:List (L))(bs:List Bool)(i:Nat)(c:gq)(lv rv:Bool):c9 (fG (fG fN 18 [.ptr (some (4,0)),.str c.dg] (J (HO p l w c)) 51 (.bool true,J (HO p l w c),51)) 17 [.ptr (some (4,0)),.str c.dg] (J (HO p l w c)) 51 (.bool lv,J (HO p l w c),51)) [(69,.di (.bool false)),(77,.di (.bool false)),(99,.di (.dx [.bool rv])),(101,.split)] 9 Tryz.f28 [0,3,5,6,7,8,10] (dP (dh 2 Jy)) (sT p l w zs bs c i [(9,.str c.da),(10,ni c.D),(11,.int .i64 0)]) [([((!lv==rv),true)],
   [((V.bool !eJ c.da c.da)=V.bool false),(V.bool ((Int.ofNat c.D.length) !=(Int.ofNat c.D.length))=V.bool false),fC [.ptr (some (4,0)),.str c.dg] (J (HO p l w c)) 51,fC [.ptr (some (4,0)),.str c.dg] (J (HO p l w c)) 51,((0:Int)<=Int.ofNat i/\Int.ofNat i<(Int.ofNat w.C.length)),((lR bs).length=w.C.length*1),(V.dx (dF (lR bs) (i*1) 1)=V.dx [rs.bool rv])],
   .ret (.bool false) (J (gI p l)) 9),
  ([((!lv==rv),false)],
   [((V.bool !eJ c.da c.da)=V.bool false),(V.bool ((Int.ofNat c.D.length) !=(Int.ofNat c.D.length))=V.bool false),fC [.ptr (some (4,0)),.str c.dg] (J (HO p l w c)) 51,fC [.ptr (some (4,0)),.str c.dg] (J (HO p l w c)) 51,((0:Int)<=Int.ofNat i/\Int.ofNat i<(Int.ofNat w.C.length)),((lR bs).length=w.C.length*1),(V.dx (dF (lR bs) (i*1) 1)=V.dx [rs.bool rv])],
   .to .normal (sT p l w zs bs c i [(10,ni c.D)]))]
 :=by rcases p with⟨_|⟨_,_,_⟩,_⟩<;>exact cR.of U U U
theorem sm8(zs:List (L))(bs:List Bool)(i:Nat)(c:gq):c9 fN [] 9 Tryz.f28 [0,3,5,6,7,8,10,12] (dP (dh 3 Jy)) (sT p l w zs bs c i [(10,ni c.D)]) [([],
   [],
   .to .normal (sT p l w zs bs c i [(10,ni c.D),(12,iW 0)]))]
 :=by rcases p with⟨_|⟨_,_,_⟩,_⟩<;>exact cR.of U U U
theorem sm9(zs:List (L))(bs:List Bool)(i e:Nat)(c:gq)(x:L):c9 fN [(106,.split),(111,.di (.dx [.str x])),(116,.di (.dx [.str x])),(118,.di (.bool false)),(108,.di (iW (e+1)))] 9 Tryz.f28 [0,3,5,6,7,8,10,12] (apS) (sT p l w zs bs c i [(10,ni c.D),(12,iW e)]) [([((decide (Int.ofNat e<(Int.ofNat c.D.length))),true)],
   [((0:Int)<=Int.ofNat e/\Int.ofNat e<(Int.ofNat c.D.length)),((strs c.D).length=c.D.length*1),(V.dx (dF (strs c.D) (e*1) 1)=V.dx [rs.str x]),((0:Int)<=Int.ofNat e/\Int.ofNat e<(Int.ofNat c.D.length)),((strs c.D).length=c.D.length*1),(V.dx (dF (strs c.D) (e*1) 1)=V.dx [rs.str x]),((V.bool !eJ x x)=V.bool false),(V.int aj (IntKind.i64.wrap (Int.ofNat e+(1:Int)))=iW (e+1))],
   .to .normal (sT p l w zs bs c i [(10,ni c.D),(12,iW (e+1))])),
  ([((decide (Int.ofNat e<(Int.ofNat c.D.length))),false)],
   [],
   .to (.exit 2) (sT p l w zs bs c i [(10,ni c.D),(12,iW e)]))]
 :=by rcases p with⟨_|⟨_,_,_⟩,_⟩<;>exact cR.of U U U
theorem smA(zs:List (L))(bs:List Bool)(i e:Nat)(c:gq):c9 fN [(46,.di (iW (i+1)))] 9 Tryz.f28 [0,3,5,6,7] (dY (dY Tm)) (sT p l w zs bs c i [(10,ni c.D),(12,iW e)]) [([],
   [(V.int aj (IntKind.i64.wrap (Int.ofNat i+(1:Int)))=iW (i+1))],
   .to .normal (sS p l w zs [(6,.dS false w.C.length (lR bs)),(7,iW (i+1))]))]
 :=by rcases p with⟨_|⟨_,_,_⟩,_⟩<;>exact cR.of U U U
theorem smB(zs:List (L))(bs:List Bool)(i:Nat):c9 fN [] 9 Tryz.f28 [0,3,5,13] (dP ahn) (sS p l w zs [(6,.dS false w.C.length (lR bs)),(7,iW i)]) [([],
   [],
   .to .normal (sS p l w zs [(13,iW 0)]))]
 :=by rcases p with⟨_|⟨_,_,_⟩,_⟩<;>exact cR.of U U U
theorem smE(zs:List (L))(i:Nat):c9 fN [(122,.split)] 9 Tryz.f28 [0,3,5,13] (dP ab7) (sS p l w zs [(13,iW i)]) [([((decide (Int.ofNat i<(Int.ofNat zs.length))),true)],
   [],
   .to .normal (sS p l w zs [(13,iW i)])),
  ([((decide (Int.ofNat i<(Int.ofNat zs.length))),false)],
   [],
   .to (.exit 4) (sS p l w zs [(13,iW i)]))]
 :=by rcases p with⟨_|⟨_,_,_⟩,_⟩<;>exact cR.of U U U
theorem smC(zs:List (L))(i:Nat)(x y nm dd:L):c9 (fG fN 24 [.ptr (some (4,0)),.str x] (J (DU p l w)) 24 (.ew [.str y,.bool true],J (DU p l w),24)) [(132,.di (.dx [.str x])),(139,.di (.dx [.str x])),(144,.di (.dx [.str nm,.str dd])),(147,.split),(153,.di (.dx [.str nm,.str dd])),(156,.split),(124,.di (iW (i+1)))] 9 Tryz.f28 [0,3,5,13] (dY ab7) (sS p l w zs [(13,iW i)]) [([((!eJ x nm),true)],
   [((0:Int)<=Int.ofNat i/\Int.ofNat i<(Int.ofNat zs.length)),((strs zs).length=zs.length*1),(V.dx (dF (strs zs) (i*1) 1)=V.dx [rs.str x]),fC [.ptr (some (4,0)),.str x] (J (DU p l w)) 24,((0:Int)<=Int.ofNat i/\Int.ofNat i<(Int.ofNat zs.length)),((strs zs).length=zs.length*1),(V.dx (dF (strs zs) (i*1) 1)=V.dx [rs.str x]),((0:Int)<=Int.ofNat i/\Int.ofNat i<(Int.ofNat w.ro.length)),((eR w.ro).length=w.ro.length*2),(V.dx (dF (eR w.ro) (i*2) 2)=V.dx [rs.str nm,rs.str dd])],
   .ret (.bool false) (J (gI p l)) 9),
  ([((!eJ x nm),false),((!eJ y dd),true)],
   [((0:Int)<=Int.ofNat i/\Int.ofNat i<(Int.ofNat zs.length)),((strs zs).length=zs.length*1),(V.dx (dF (strs zs) (i*1) 1)=V.dx [rs.str x]),fC [.ptr (some (4,0)),.str x] (J (DU p l w)) 24,((0:Int)<=Int.ofNat i/\Int.ofNat i<(Int.ofNat zs.length)),((strs zs).length=zs.length*1),(V.dx (dF (strs zs) (i*1) 1)=V.dx [rs.str x]),((0:Int)<=Int.ofNat i/\Int.ofNat i<(Int.ofNat w.ro.length)),((eR w.ro).length=w.ro.length*2),(V.dx (dF (eR w.ro) (i*2) 2)=V.dx [rs.str nm,rs.str dd]),((0:Int)<=Int.ofNat i/\Int.ofNat i<(Int.ofNat w.ro.length)),((eR w.ro).length=w.ro.length*2),(V.dx (dF (eR w.ro) (i*2) 2)=V.dx [rs.str nm,rs.str dd])],
   .ret (.bool false) (J (gI p l)) 9),
  ([((!eJ x nm),false),((!eJ y dd),false)],
   [((0:Int)<=Int.ofNat i/\Int.ofNat i<(Int.ofNat zs.length)),((strs zs).length=zs.length*1),(V.dx (dF (strs zs) (i*1) 1)=V.dx [rs.str x]),fC [.ptr (some (4,0)),.str x] (J (DU p l w)) 24,((0:Int)<=Int.ofNat i/\Int.ofNat i<(Int.ofNat zs.length)),((strs zs).length=zs.length*1),(V.dx (dF (strs zs) (i*1) 1)=V.dx [rs.str x]),((0:Int)<=Int.ofNat i/\Int.ofNat i<(Int.ofNat w.ro.length)),((eR w.ro).length=w.ro.length*2),(V.dx (dF (eR w.ro) (i*2) 2)=V.dx [rs.str nm,rs.str dd]),((0:Int)<=Int.ofNat i/\Int.ofNat i<(Int.ofNat w.ro.length)),((eR w.ro).length=w.ro.length*2),(V.dx (dF (eR w.ro) (i*2) 2)=V.dx [rs.str nm,rs.str dd]),(V.int aj (IntKind.i64.wrap (Int.ofNat i+(1:Int)))=iW (i+1))],
   .to .normal (sS p l w zs [(13,iW (i+1))]))]
 :=by rcases p with⟨_|⟨_,_,_⟩,_⟩<;>exact cR.of U U U
theorem smD(zs:List (L))(i:Nat):c9 fN [] 9 Tryz.f28 [] (dh 6 DT) (sS p l w zs [(13,iW i)]) [([],
   [],
   .ret (.bool true) (J (gI p l)) 9)]
 :=by rcases p with⟨_|⟨_,_,_⟩,_⟩<;>exact cR.of U U U
end
structure Obs(p:gZ)(k:Nat)(zs:List (L))(C:List gq)(lv:L->Bool)(yv:L->L):Prop where
 h23:cW ak 23 [P3] (eu p) 7 (ni zs) (eu p) 7
 h20:cW ak 20 [P3] (eu p) 7 (.int .i64 (Int.ofNat k)) (eu p) 7
 h25:∀c∈C,cW ak 25 [P3,.str c.dg] (eu p) 7 (.ew [.str c.da,ni c.D,.int .i64 0]) (eu p) 7
 h18:∀c∈C,cW ak 18 [P3,.str c.dg] (eu p) 7 (.bool true) (eu p) 7
 h17:∀c∈C,cW ak 17 [P3,.str c.dg] (eu p) 7 (.bool (lv c.dg)) (eu p) 7
 h24:∀x∈zs,cW ak 24 [P3,.str x] (eu p) 7 (.ew [.str (yv x),.bool true]) (eu p) 7
def sW(k:Nat)(zs:List (L))(lv:L->Bool)(yv:L->L)(w:RS):Bool:=
 decide (k=w.C.length)&&(decide (zs.length=w.ro.length)&&(decide (w.C.map (fun c=>lv c.dg)=fD w)&&decide (zs.map (fun x=>(x,yv x))=w.ro)))
theorem WQ(s:RS)(h:H lf)(n:Nat)(N:s.C.length<=100000)(B:s.ro.length<=1000000)(h3:∀c∈s.C,c.D.length<=100000):cW ak 68 [s.v] h n (.dS false s.C.length (lR (fD s))) h n:=by
 have key:cW ak 68 [s.v] h n (.dS false s.C.length (lR (fD ⟨fo (eL s.C),lQ (eR s.ro)⟩))) h n:=by
  intro E w de ra g hd;refine S5.2 _ h n (okS s++[s.C.length<=100000,∀c∈fo (eL s.C),c.D.length<=100000]) _ _ _ rfl ?_ E w de ra g hd U;refine jK (AL K B) ?_;rw[iM];exact fm N (eX h3)
 rw[iM,pT]at key;exact key
theorem Tn:23<Tryz.prog.funcs.size:=au U
theorem Nt:20<Tryz.prog.funcs.size:=au U
theorem To:25<Tryz.prog.funcs.size:=au U
theorem aho:24<Tryz.prog.funcs.size:=au U
theorem ahp:68<Tryz.prog.funcs.size:=au U
def Zb(b:Bool)(h0:H lf)(v:V)(h:H lf)(n:Nat):Prop:=v= .bool b/\h=h0/\n=9
theorem DV{a b:Nat}:(Int.ofNat a !=Int.ofNat b)=!decide (a=b):=by
 by_cases h:a=b
 . subst h;rw[bQ rfl];exact bne_self_eq_false _
 . rw[bC h];exact bne_iff_ne.2 fun q=>h (Int.ofNat.inj q)
section
variable{α β:Type}{f:α->β}{l:List α}{bs:List β}{i:Nat}
theorem vR{c:α}{b:β}(I:l[i]? =some c)(hb:bs[i]? =some b)(fU:f c≠b):l.map f≠bs:=fun e=>by
 subst e;rw[bu,I]at hb;exact fU (cF hb)
theorem Bw{c:α}{b:β}(I:l[i]? =some c)(hb:bs[i]? =some b)(he:f c=b)(h:(l.take i).map f=bs.take i):(l.take (i+1)).map f=bs.take (i+1):=by
 rw[bG,bG,aY,h,I,hb];simp[he]
end
theorem Zb.intro{b:Bool}{h:H lf}:Zb b h (.bool b) h 9:=⟨rfl,rfl,rfl⟩
section
variable(p:gZ)(l:List RS)(w:RS){y5:Nat}{zs:List (L)}{C:List gq}{lv:L->Bool}{yv:L->L}
theorem ab9(ho:Obs p y5 zs C lv yv)(hz:zs.length=w.ro.length)(ER:zs.length<=100000)(i0:Nat)(tv:Bool)(hb:tv=decide (zs.map (fun x=>(x,yv x))=w.ro))(bs:List Bool):
  TG ak 9 Tryz.f28.ntmps (dh 5 DT) (sS p l w zs [(6,.dS false w.C.length (lR bs)),(7,iW i0)]) (fJ ak 9 Tryz.f28 (Zb tv (J (gI p l)))):=by
 refine cZ U ?_;refine cZ U ?_;refine fO jM (smB p l w zs bs i0) (dG ?_);refine⟨cT,fun s' dO=>?_⟩;refine iq (α:=Nat) 4 (fun i=>zs.length-i) (fun i=>i<=zs.length/\(zs.take i).map (fun x=>(x,yv x))=w.ro.take i) (fun i=>sS p l w zs [(13,iW i)]) U U 0 ⟨aX _,rfl⟩ (.norm dO) fun i ⟨hi,he⟩=>?_;refine cZ U ?_;refine fO jM (smE p l w zs i) fun g hg I=>?_;rcases iU hg with rfl|rfl
 . have fI:i<zs.length:=by have:=aE (I _ (aq.2 rfl));rw[kr,kr]at this;omega
   clear I;refine⟨cT,fun s0 Ga=>c6 Ga ?_⟩;show TG ak 9 Tryz.f28.ntmps (dY ab7) (sS p l w zs [(13,iW i)]) _;have G:zs[i]? =some zs[i]:=ay fI;have hr:w.ro[i]? =some (w.ro[i]'(by omega)):=ay K;have Pe:=aN V.dx (fM G);have Tp:=aN V.dx (DK w.ro i K);have xW:zs[i]∈zs:=b7 _;generalize zs[i]=x at *;generalize w.ro[i]'(by omega)=q at *;have h24:cW ak 24 [.ptr (some (4,0)),.str x] (J (DU p l w)) 24 (.ew [.str (yv x),.bool true]) (J (DU p l w)) 24:=by
    have:=ho.h24 x xW;generalize yv x=y at this ⊢;exact pD (ns:=Us p) this (by rcases p with⟨_|⟨_,_,_⟩,_⟩<;>kernel_rfl)
   obtain⟨LC,hrC⟩:=smC p l w zs i x (yv x) q.1 q.2;have a1:(0:Int)<=Int.ofNat i/\Int.ofNat i<(Int.ofNat zs.length):=⟨az _,dm⟩;have a2:(strs zs).length=zs.length*1:=by rw[eN,bk]
   have a3:(0:Int)<=Int.ofNat i/\Int.ofNat i<(Int.ofNat w.ro.length):=⟨az _,dm⟩;have a4:(eR w.ro).length=w.ro.length*2:=nM _;refine gC (jM.jA aho h24) mo (Zb tv (J (gI p l))) U hrC fun g hg I=>?_;rcases w8 hg with rfl|rfl|rfl
   . have c2:=I _ (aq.2 rfl);have c2:(!eJ x q.1)=true:=c2;have fU:(x,yv x)≠q:=fun e=>by rw[<- e,fV,cr]at c2;cases c2
     obtain rfl:tv=false:=by rw[hb];exact bC (vR (f:=fun x=>(x,yv x)) G hr fU)
     exact⟨fm a1 (fm a2 (fm Pe (fm ⟨rfl,rfl,rfl⟩ (fm a1 (fm a2 (fm Pe (fm a3 (fm a4 (eX Tp))))))))),.intro,fun s1 gi=>gi⟩
   . have c2:=I _ (aK _ (aq.2 rfl));have c2:(!eJ (yv x) q.2)=true:=c2;have fU:(x,yv x)≠q:=fun e=>by rw[<- e,fV,cr]at c2;cases c2
     obtain rfl:tv=false:=by rw[hb];exact bC (vR (f:=fun x=>(x,yv x)) G hr fU)
     exact⟨fm a1 (fm a2 (fm Pe (fm ⟨rfl,rfl,rfl⟩ (fm a1 (fm a2 (fm Pe (fm a3 (fm a4 (fm Tp (fm a3 (fm a4 (eX Tp)))))))))))),.intro,fun s1 gi=>gi⟩
   . have c1:=I _ (aP ..);have c2:=I _ (aK _ (aq.2 rfl));have c1:(!eJ x q.1)=false:=c1;have c2:(!eJ (yv x) q.2)=false:=c2;have KK:(x,yv x)=q:=by
      rw[fV,Bool.not_eq_false']at c1 c2;exact Prod.ext (beq_iff_eq.1 c1) (beq_iff_eq.1 c2)
     refine⟨fm a1 (fm a2 (fm Pe (fm ⟨rfl,rfl,rfl⟩ (fm a1 (fm a2 (fm Pe (fm a3 (fm a4 (fm Tp (fm a3 (fm a4 (fm Tp (eX (nL dm K)))))))))))))),fun s1 gi=>⟨i+1,by show zs.length-(i+1)<_;omega,⟨fI,Bw (f:=fun x=>(x,yv x)) G hr KK he⟩,.norm gi⟩⟩
 . have y6:=aJ (I _ (aq.2 rfl));obtain rfl:i=zs.length:=by rw[kr,kr]at y6;omega
   rw[aU,hz,aU]at he;obtain rfl:tv=true:=by rw[hb];exact bQ he
   refine⟨cT,fun s1 gi=>?_⟩;simp only[andThen,dV];refine c6 gi ?_;refine fh jM (smD p l w zs zs.length) (dG ?_);exact⟨cT,_,_,_,rfl,.intro⟩
end
theorem Zc{bs:List Bool}{i:Nat}{rv:Bool}(h:bs[i]? =some rv):V.dx (dF (lR bs) (i*1) 1)=V.dx [rs.bool rv]:=by
 obtain⟨hi,e⟩:=aG.1 h;rw[DO hi,e]
section
variable(p:gZ)(l:List RS)(w:RS){y5:Nat}{zs:List (L)}{lv:L->Bool}{yv:L->L}
theorem acd(bs:List Bool)(i:Nat)(c:gq)(hrc:c.D.length<=100000)(hi:i<=100000){es:Exit->St->Prop}
  (pZ:∀s',gF ak 9 Tryz.f28.ntmps s' (sS p l w zs [(6,.dS false w.C.length (lR bs)),(7,iW (i+1))])->es .normal s'):
  TG ak 9 Tryz.f28.ntmps (dh 3 Jy) (sT p l w zs bs c i [(10,ni c.D)]) (mY 1 (andThen (fun s'=>TG ak 9 Tryz.f28.ntmps (dY (dY Tm)) s' es) es)):=by
 refine cZ U ?_;refine fO jM (sm8 p l w zs bs i c) (dG ?_);refine⟨cT,fun s2 jr=>?_⟩;show TG ak 9 Tryz.f28.ntmps (dh 4 Jy) _ _;refine jx 2 c.D.length (fun a=>sT p l w zs bs c i [(10,ni c.D),(12,iW a)]) U U (.norm jr) (fun a ha=>?_) ?_
 . have G:c.D[a]? =some c.D[a]:=ay ha;have ace:=aN V.dx (fM G);generalize c.D[a]=x at ace G;have b1:(0:Int)<=Int.ofNat a/\Int.ofNat a<(Int.ofNat c.D.length):=⟨az _,dm⟩;have b2:(strs c.D).length=c.D.length*1:=by rw[eN,bk]
   refine fO jM (sm9 p l w zs bs i a c x) fun g hg I=>?_;rcases iU hg with rfl|rfl
   . exact⟨fm b1 (fm b2 (fm ace (fm b1 (fm b2 (fm ace (fm (by rw[fV,cr];rfl) (eX (nL dm K)))))))),fun s3 yq=>.norm yq⟩
   . exact absurd (aJ (I _ (aq.2 rfl))) dm
 . refine fO jM (sm9 p l w zs bs i c.D.length c []) fun g hg I=>?_;rcases iU hg with rfl|rfl
   . exact absurd (aE (I _ (aq.2 rfl))) dm
   refine⟨cT,fun s3 yq=>⟨by simp,?_⟩⟩;obtain⟨LA,hrA⟩:=smA p l w zs bs i c.D.length c;simp only[dV,mY,andThen];refine c6 yq ?_;refine gC jM mo l9 U hrA (dG ?_);exact⟨eX (nL dm K),fun s4 Jn=>pZ s4 (.norm Jn)⟩
theorem acf(ho:Obs p y5 zs w.C lv yv)(hl:w.C.length<=100000)(wT:∀c∈w.C,c.D.length<=100000)(bs:List Bool)(hbs:bs.length=w.C.length)(tv:Bool)(i:Nat)(c:gq)(rv:Bool)(sg:w.C[i]? =some c)(HF:bs[i]? =some rv)(htv:lv c.dg≠rv->tv=false){es:Exit->St->Prop}
  (Lx:∀s',fJ ak 9 Tryz.f28 (Zb tv (J (gI p l))) .ret s'->es .ret s')
  (pZ:lv c.dg=rv->∀s',gF ak 9 Tryz.f28.ntmps s' (sS p l w zs [(6,.dS false w.C.length (lR bs)),(7,iW (i+1))])->es .normal s'):
  TG ak 9 Tryz.f28.ntmps (dY Tm) (sS p l w zs [(6,.dS false w.C.length (lR bs)),(7,iW i)]) es:=by
 have hi:i<w.C.length:=(aG.1 sg).1;have jZ:V.dx (dF (eL w.C) (i*3) 3)=V.dx c.d:=by
  obtain⟨N,B⟩:=aG.1 sg;rw[<- B];exact aN V.dx (ue w.C i N)
 have xW:c∈w.C:=bf sg;have hrc:=wT c xW;have a1:(0:Int)<=Int.ofNat i/\Int.ofNat i<(Int.ofNat w.C.length):=⟨az _,dm⟩;have a2:(lR bs).length=w.C.length*1:=by rw[rQ];omega
 refine cZ U ?_;have h25:cW ak 25 [.ptr (some (4,0)),.str c.dg] (J (HO p l w c)) 25 (.ew [.str c.da,ni c.D,.int .i64 0]) (J (HO p l w c)) 25:=
  pD (ns:=Us p) (ho.h25 c xW) (by rcases p with⟨_|⟨_,_,_⟩,_⟩<;>kernel_rfl)
 have h18:cW ak 18 [.ptr (some (4,0)),.str c.dg] (J (HO p l w c)) 51 (.bool true) (J (HO p l w c)) 51:=
  pD (ns:=Us p) (ho.h18 c xW) (by rcases p with⟨_|⟨_,_,_⟩,_⟩<;>kernel_rfl)
 have h17:cW ak 17 [.ptr (some (4,0)),.str c.dg] (J (HO p l w c)) 51 (.bool (lv c.dg)) (J (HO p l w c)) 51:=by
  have:=ho.h17 c xW;generalize lv c.dg=lb at this ⊢;exact pD (ns:=Us p) this (by rcases p with⟨_|⟨_,_,_⟩,_⟩<;>kernel_rfl)
 refine fB (i:=1) U ?_;refine iF  2 (jM.jA To h25) (sm6 p l w zs bs i c) (fm a1 (fm (jy _) (fm jZ (eX ⟨rfl,rfl,rfl⟩)))) ?_;show TG ak 9 Tryz.f28.ntmps (dh 2 Jy) (sT p l w zs bs c i [(9,.str c.da),(10,ni c.D),(11,.int .i64 0)]) _;refine cZ U ?_;obtain⟨L7,hr7⟩:=sm7 p l w zs bs i c (lv c.dg) rv;have c0:(V.bool !eJ c.da c.da)=V.bool false:=by rw[fV,cr];rfl
 have c1:V.bool ((Int.ofNat c.D.length) !=(Int.ofNat c.D.length))=V.bool false:=by rw[bne_self_eq_false]
 refine gC ((jM.jA afX h18).jA afW h17) mo (Zb tv (J (gI p l))) U hr7 fun g hg I=>?_;rcases iU hg with rfl|rfl
 . have c2:=I _ (aq.2 rfl);have c2:(!lv c.dg==rv)=true:=c2;have fU:lv c.dg≠rv:=fun e=>by rw[e]at c2;cases rv<;>cases c2
   obtain rfl:=htv fU;exact⟨fm c0 (fm c1 (fm ⟨rfl,rfl,rfl⟩ (fm ⟨rfl,rfl,rfl⟩ (fm a1 (fm a2 (eX (Zc HF))))))),.intro,fun s1 gi=>Lx s1 gi⟩
 have c2:=I _ (aq.2 rfl);have c2:(!lv c.dg==rv)=false:=c2;have KK:lv c.dg=rv:=by
  cases N:lv c.dg<;>cases B:rv<;>first|rfl|(rw[N,B]at c2;cases c2)
 refine⟨fm c0 (fm c1 (fm ⟨rfl,rfl,rfl⟩ (fm ⟨rfl,rfl,rfl⟩ (fm a1 (fm a2 (eX (Zc HF))))))),fun s1 gi=>c6 gi ?_⟩;show TG ak 9 Tryz.f28.ntmps (dh 3 Jy) (sT p l w zs bs c i [(10,ni c.D)]) _;exact acd p l w bs i c hrc K (pZ KK)
end
noncomputable abbrev Jz:Code:=dN Tryz.f67
noncomputable abbrev ahq:Code:=dP (dh 6 Jz)
section
variable(p:gZ)(l:List RS)(kk:Int)(rt t0 i:Nat)(w:RS)
noncomputable abbrev ahr:Code:=dz (dz (dY ahq))
def WR:af:=Np 9 p l
def JA(nx:ai)(m0 i e:Nat):af:=[(0,.ints .u32 gS),(1,.ints .u32 gR),(3,.cells [.ptr (some (4,0)),.dj (some (8,(0+i*2))) e (m0-i) 2]),(4,.cells (vI 9 (9+sh p) (10+sh p) p))]++lgB 9 p++[(9+sh p,.dI none p.Q),(10+sh p,.dI none p.D),(8,.deep nx)]
def HP(r:List (Nat×V)):St:=eG ([(0,P3),(1,.int .i64 kk),(4,.bool false)]++r) (J (WR p l)) (11+sh p)
theorem cr1(q:gZ)(l:List RS)(kk:Int):c9 (fG fN 31 [.ptr (some (4,0)),.dj (some (9,0)) 1 1 1] (J (gI p l++[(9,.cells [.int .i64 kk])])) 10 (.ew [],J (Np 10 q l),(12+sh q))) [] 9 Tryz.f67 [0,1,4,5,6] (eV 4 Jz) (cU [P3,.int .i64 kk] (J (gI p l)) 9) [([],
   [fC [.ptr (some (4,0)),.dj (some (9,0)) 1 1 1] (J (gI p l++[(9,.cells [.int .i64 kk])])) 10],
   .to .normal (HP q l kk [(5,iW 0),(6,iW l.length)]))]
 :=by rcases p with⟨_|⟨_,_,_⟩,_⟩<;>rcases q with⟨_|⟨_,_,_⟩,_⟩<;>exact cR.of U U U
theorem cr2:c9 fN [(21,.di (iW t0)),(22,.split)] 9 Tryz.f67 [0,1,4,5,6] (dP (dh 4 Jz)) (HP p l kk [(5,iW 0),(6,iW l.length)]) [([((Int.ofNat t0==(0:Int)),true)],
   [(V.int aj (IntKind.i64.wrap (Int.ofNat (BitVec.ofInt 64 kk&&&BitVec.ofInt 64 (255:Int)).toNat))=iW t0)],
   .to .normal (HP p l kk [(5,iW 0),(6,iW 1)])),
  ([((Int.ofNat t0==(0:Int)),false)],
   [(V.int aj (IntKind.i64.wrap (Int.ofNat (BitVec.ofInt 64 kk&&&BitVec.ofInt 64 (255:Int)).toNat))=iW t0)],
   .to .normal (HP p l kk [(5,iW 0),(6,iW l.length)]))]
 :=by rcases p with⟨_|⟨_,_,_⟩,_⟩<;>exact cR.of U U U
theorem cr3(cQ:Nat):c9 fN [(24,.di (iW t0)),(25,.split),(27,.di (iW (cQ-1)))] 9 Tryz.f67 [0,1,4,5,6] (dP (dh 5 Jz)) (HP p l kk [(5,iW 0),(6,iW cQ)]) [([((Int.ofNat t0==(255:Int)),true)],
   [(V.int aj (IntKind.i64.wrap (Int.ofNat (BitVec.ofInt 64 kk&&&BitVec.ofInt 64 (255:Int)).toNat))=iW t0),(V.int aj (IntKind.i64.wrap (Int.ofNat cQ-(1:Int)))=iW (cQ-1))],
   .to .normal (HP p l kk [(5,iW (cQ-1)),(6,iW cQ)])),
  ([((Int.ofNat t0==(255:Int)),false)],
   [(V.int aj (IntKind.i64.wrap (Int.ofNat (BitVec.ofInt 64 kk&&&BitVec.ofInt 64 (255:Int)).toNat))=iW t0)],
   .to .normal (HP p l kk [(5,iW 0),(6,iW cQ)]))]
 :=by rcases p with⟨_|⟨_,_,_⟩,_⟩<;>exact cR.of U U U
theorem cr4(cQ:Nat):c9 fN [(29,.di (iW (cQ-1)))] 9 Tryz.f67 [0,1,4,5,7] (dP ahq) (HP p l kk [(5,iW rt),(6,iW cQ)]) [([],
   [(V.int aj (IntKind.i64.wrap (Int.ofNat cQ-(1:Int)))=iW (cQ-1))],
   .to .normal (HP p l kk [(5,iW rt),(7,iW (cQ-1))]))]
 :=by rcases p with⟨_|⟨_,_,_⟩,_⟩<;>exact cR.of U U U
theorem cr5:c9 (fG fN 28 [P3,w.v] (J (WR p l)) (11+sh p) (.bool false,J (WR p l),(11+sh p))) [(32,.split),(42,.di w.v),(34,.di (iW (i-1)))] 9 Tryz.f67 [0,1,4,5,7] (ahr) (HP p l kk [(5,iW rt),(7,iW i)]) [([((decide (Int.ofNat i>=Int.ofNat rt)),true)],
   [((0:Int)<=Int.ofNat i/\Int.ofNat i<(Int.ofNat l.length)),(0+i*2+2<=(gu l).length),(V.agg (rs.l6 (dF (gu l) (0+i*2) 2))=w.v),fC [P3,w.v] (J (WR p l)) (11+sh p),(V.int aj (IntKind.i64.wrap (Int.ofNat i-(1:Int)))=iW (i-1))],
   .to .normal (HP p l kk [(5,iW rt),(7,iW (i-1))])),
  ([((decide (Int.ofNat i>=Int.ofNat rt)),false)],
   [],
   .to (.exit 0) (HP p l kk [(5,iW rt),(7,iW i)]))]
 :=by rcases p with⟨_|⟨_,_,_⟩,_⟩<;>exact cR.of U U U
theorem cr6:c9 (fG fN 28 [P3,w.v] (J (WR p l)) (11+sh p) (.bool true,J (WR p l),(11+sh p))) [(32,.split),(42,.di w.v),(51,.di (iW (i+1)))] 9 Tryz.f67 [0,1,4,5,7] (ahr) (HP p l kk [(5,iW rt),(7,iW i)]) [([((decide (Int.ofNat i>=Int.ofNat rt)),true)],
   [((0:Int)<=Int.ofNat i/\Int.ofNat i<(Int.ofNat l.length)),(0+i*2+2<=(gu l).length),(V.agg (rs.l6 (dF (gu l) (0+i*2) 2))=w.v),fC [P3,w.v] (J (WR p l)) (11+sh p),(V.int aj (IntKind.i64.wrap (Int.ofNat i+(1:Int)))=iW (i+1)),((0:Int)<=Int.ofNat (i+1)/\Int.ofNat (i+1)<=(Int.ofNat l.length)),((0:Int)<=Int.ofNat i/\Int.ofNat i<=(Int.ofNat (i+1)))],
   .ret (.bool true) (J (JA p (gu l) l.length i ((i+1)-i))) (11+sh p)),
  ([((decide (Int.ofNat i>=Int.ofNat rt)),false)],
   [],
   .to (.exit 0) (HP p l kk [(5,iW rt),(7,iW i)]))]
 :=by rcases p with⟨_|⟨_,_,_⟩,_⟩<;>exact cR.of U U U
end
section
variable(p:gZ)(l:List RS)(w:RS){y5:Nat}{zs:List (L)}{C:List gq}{lv:L->Bool}{yv:L->L}
theorem acg(ho:Obs p y5 zs w.C lv yv)(hk:y5=w.C.length)(hz:zs.length=w.ro.length)(ER:zs.length<=100000)(hl:w.C.length<=100000)(wT:∀c∈w.C,c.D.length<=100000):
  TG ak 9 Tryz.f28.ntmps (dh 3 DT) (sS p l w zs []) (fJ ak 9 Tryz.f28 (Zb (sW y5 zs lv yv w) (J (gI p l)))):=by
 have hq:sW y5 zs lv yv w=(decide (w.C.map (fun c=>lv c.dg)=fD w)&&decide (zs.map (fun x=>(x,yv x))=w.ro)):=by
  unfold sW;rw[bQ hk,bQ hz,Bool.true_and,Bool.true_and]
 rw[hq];have h68:=fun(h:H lf) (n:Nat)=>WQ w h n hl K wT;have M4:=zN w;generalize fD w=bs at h68 M4;refine cZ U ?_;refine fO (jM.jA ahp (h68 _ _)) (sm3 p l w zs bs) (dG ?_);refine⟨eX ⟨rfl,rfl,rfl⟩,fun s' dO=>c6 dO ?_⟩;show TG ak 9 Tryz.f28.ntmps (dh 4 DT) _ _;refine cZ U ?_;refine cZ U ?_;refine fO jM (sm4 p l w zs bs) (dG ?_);refine⟨cT,fun s' dO=>?_⟩;refine iq (α:=Nat) 0 (fun i=>w.C.length-i) (fun i=>i<=w.C.length/\(w.C.take i).map (fun c=>lv c.dg)=bs.take i) (fun i=>sS p l w zs [(6,.dS false w.C.length (lR bs)),(7,iW i)]) U U 0 ⟨aX _,rfl⟩ (.norm dO) fun i ⟨hi,he⟩=>?_;refine cZ U ?_;refine fO jM (sm5 p l w zs bs i) fun g hg I=>?_;rcases iU hg with rfl|rfl
 . have fI:i<w.C.length:=by have:=aE (I _ (aq.2 rfl));rw[kr,kr]at this;omega
   refine⟨cT,fun s0 Ga=>c6 Ga ?_⟩;have sg:w.C[i]? =some w.C[i]:=ay fI;have HF:bs[i]? =some (bs[i]'(by omega)):=ay K;generalize w.C[i]=c at sg;generalize bs[i]'(by omega)=rv at HF;refine acf p l w ho hl wT bs M4 _ i c rv sg HF (fun fU=>?_) (fun s1 h=>h) fun KK s1 gi=>⟨i+1,by show w.C.length-(i+1)<_;omega,⟨fI,Bw (f:=fun c:gq=>lv c.dg) sg HF KK he⟩,gi⟩;rw[bC (vR (f:=fun c:gq=>lv c.dg) sg HF fU),Bool.false_and]
 . have y6:=aJ (I _ (aq.2 rfl));obtain rfl:i=w.C.length:=by rw[kr,kr]at y6;omega
   rw[aU,<- M4,aU]at he;refine⟨cT,fun s1 gi=>?_⟩;simp only[andThen,dV];refine c6 gi ?_;exact ab9 p l w ho hz ER w.C.length _ (by rw[bQ he,Bool.true_and]) bs
theorem m28(ho:Obs p y5 zs C lv yv)(nX:y5=w.C.length->w.C=C)(ER:zs.length<=100000)(hl:w.C.length<=100000)(wT:∀c∈w.C,c.D.length<=100000):
  cW ak 28 [P3,w.v] (J (gI p l)) 9 (.bool (sW y5 zs lv yv w)) (J (gI p l)) 9:=by
 refine c5 Tryz.func28 (code:=DT) U U ?_;have h23:cW ak 23 [.ptr (some (4,0))] (J (DU p l w)) 10 (ni zs) (J (DU p l w)) 10:=
  pD (ns:=Us p) ho.h23 (by rcases p with⟨_|⟨_,_,_⟩,_⟩<;>kernel_rfl)
 have h20:cW ak 20 [.ptr (some (4,0))] (J (DU p l w)) 27 (.int .i64 (Int.ofNat y5)) (J (DU p l w)) 27:=
  pD (ns:=Us p) ho.h20 (by rcases p with⟨_|⟨_,_,_⟩,_⟩<;>kernel_rfl)
 refine iF  2 (jM.jA Tn h23) (sm1 p l w zs) (eX ⟨rfl,rfl,rfl⟩) ?_;show TG ak 9 Tryz.f28.ntmps (dh 2 DT) _ _;refine cZ U ?_;obtain⟨L2,Ee⟩:=sm2 p l w zs y5;refine gC (jM.jA Nt h20) mo (Zb (sW y5 zs lv yv w) (J (gI p l))) U Ee fun g hg I=>?_;rcases w8 hg with rfl|rfl|rfl
 . have c1:=I _ (aq.2 rfl);have c1:(Int.ofNat y5 !=Int.ofNat w.C.length)=true:=c1;rw[DV,Bool.not_eq_true']at c1;have hf:sW y5 zs lv yv w=false:=by unfold sW;rw[c1,Bool.false_and]
   rw[hf];exact⟨eX ⟨rfl,rfl,rfl⟩,.intro,fun s1 gi=>gi⟩
 . have c1:=I _ (aK _ (aq.2 rfl));have c1:(Int.ofNat zs.length !=Int.ofNat w.ro.length)=true:=c1;rw[DV,Bool.not_eq_true']at c1;have hf:sW y5 zs lv yv w=false:=by unfold sW;rw[c1,Bool.false_and,Bool.and_false]
   rw[hf];exact⟨eX ⟨rfl,rfl,rfl⟩,.intro,fun s1 gi=>gi⟩
 . have c0:=I _ (aP ..);have c1:=I _ (aK _ (aq.2 rfl));have c0:(Int.ofNat y5 !=Int.ofNat w.C.length)=false:=c0;have c1:(Int.ofNat zs.length !=Int.ofNat w.ro.length)=false:=c1;rw[DV,Bool.not_eq_false']at c0 c1;have hk:=aE c0;have hz:=aE c1;refine⟨eX ⟨rfl,rfl,rfl⟩,fun s' dO=>c6 dO ?_⟩;have Eo:=ho;rw[<- nX hk]at Eo;exact acg p l w Eo hk hz ER hl wT
end
theorem Zd:31<Tryz.prog.funcs.size:=au U
theorem Nu:28<Tryz.prog.funcs.size:=au U
section
variable(kk:Nat)(p:gZ)(l:List RS)
def crR:af:=match p.lo with
 |none=>DS 0 8 9 p
 |some _=>DS 8 9 10 p
def nC:Nat:=match p.lo with|none=>10|some _=>11
def IsC(kk:Int)(p q:gZ):Prop:=cW ak 31 [P3,.dj (some (7,0)) 1 1 1] (J (eK p++[(7,.cells [.int .i64 kk])])) 8 (.ew []) (J (crR q)) (nC q)
theorem AQ{kk:Nat}(h:kk<=1000000):V.int aj (IntKind.i64.wrap (Int.ofNat (BitVec.ofInt 64 (kk:Int)&&&BitVec.ofInt 64 (255:Int)).toNat))=iW (kk%256):=by
 have e:(BitVec.ofInt 64 (kk:Int)&&&BitVec.ofInt 64 (255:Int)).toNat=kk%256:=by
  have N:(BitVec.ofInt 64 (kk:Int)).toNat=kk:=by
   rw[BitVec.toNat_ofInt];omega
  rw[BitVec.toNat_and,N,show(BitVec.ofInt 64 (255:Int)).toNat=2^8-1 from rfl,Nat.and_two_pow_sub_one_eq_mod]
 rw[e];exact aN _ (fK dm dm)
theorem zQ{a b:Nat}:(Int.ofNat a==(b:Int))=decide (a=b):=by
 by_cases h:a=b
 . subst h;rw[bQ rfl];exact cr _
 . rw[bC h];exact beq_eq_false_iff_ne.2 fun q=>h (Int.ofNat.inj q)
def FL:Nat:=if kk%256=0 then 1 else l.length
def Ze:Nat:=if kk%256=255 then FL kk l-1 else 0
theorem Pf(i:Nat)(w:RS)(h:l[i]? =some w):(List.drop (0+i*2) (gu l)).take (1*2)=gu [w]:=by
 obtain⟨hi,e⟩:=aG.1 h;have:=DQ l i hi;rw[e]at this;unfold dF at this;rw[bE];exact this
def nsK:List (Option Nat):=[some 0,some 1,some 2,some 4,lgN 5 p,some 6,some 7,some 9]
abbrev nsN:List (Option Nat):=ab5 9 (9+sh p) (10+sh p) 8 p
end
theorem Nv{f:FuncId}{args:ag}{h:H lf}(p:gZ)(l:List RS)(i:Nat)(w:RS)(hw:l[i]? =some w)(hh:cW ak f args h 9 (.bool true) (J (JA p (gu l) l.length i 1)) (11+sh p)):cW ak f args h 9 (.bool true) (J (wU p [w])) (nR p):=by
 have e:=Pf l i w hw;have st:∀(nx:ai) (m0:Nat),Step 9 (HN (.bool true) (J (JA p nx m0 i 1)) (11+sh p)) (HN (.bool true) (J (moD 9 p 1 ((List.drop (0+i*2) nx).take (1*2)))) (12+sh p)):=fun nx m0=>
  by rcases p with⟨_|⟨_,_,_⟩,_⟩<;>exact(Step.rb 3 1 (s2:=_) rfl).trans (.Ei 5 (live:=[0]) U)
 have:=hh.step (st _ _);rw[e]at this;exact this
section
variable(p:gZ)(l:List RS)
theorem m67(kk:Nat)(hk:kk<=1000000)(hl:l.length<=1000)(h0:0<l.length)(j:Nat)(w0:RS)(hj:Ze kk l<=j/\j<FL kk l)(Rh:l[j]? =some w0)
  (hsm:∀(i:Nat) (w:RS),l[i]? =some w->j<=i->i<FL kk l->cW ak 28 [P3,w.v] (J (gI p l)) 9 (.bool (decide (i=j))) (J (gI p l)) 9):
  TG ak 9 Tryz.f67.ntmps (dh 4 Jz) (HP p l (kk:Int) [(5,iW 0),(6,iW l.length)]) (fJ ak 9 Tryz.f67 fun v h n9=>v= .bool true/\h=J (JA p (gu l) l.length j 1)/\n9=(11+sh p)):=by
 have hT:FL kk l<=l.length:=by unfold FL;split<;>omega
 have apU:∀(i:Nat) (w:RS),l[i]? =some w->j<=i->i<FL kk l->cW ak 28 [P3,w.v] (J (WR p l)) (11+sh p) (.bool (decide (i=j))) (J (WR p l)) (11+sh p):=by
  intro i w N B h3;have:=hsm i w N B h3;generalize decide (i=j)=tv at this ⊢;exact pD (ns:=nsN p) this (by rcases p with⟨_|⟨_,_,_⟩,_⟩<;>kernel_rfl)
 have go6:∀rt cQ:Nat,rt=Ze kk l->cQ=FL kk l->TG ak 9 Tryz.f67.ntmps (dh 6 Jz) (HP p l (kk:Int) [(5,iW rt),(6,iW cQ)]) (fJ ak 9 Tryz.f67 fun v h n9=>v= .bool true/\h=J (JA p (gu l) l.length j 1)/\n9=(11+sh p)):=by
  intro rt cQ hF hTe;refine cZ U ?_;refine cZ U ?_;obtain⟨L4,HK⟩:=cr4 p l (kk:Int) rt cQ;have hT1:V.int aj (IntKind.i64.wrap (Int.ofNat cQ-(1:Int)))=iW (cQ-1):=aN _ (by rw[fK dm dm,kr,kr];omega);refine gC jM mo l9 U HK (dG ?_);refine⟨eX hT1,fun s' dO=>?_⟩;refine iq (α:=Nat) 0 (fun i=>i) (fun i=>j<=i/\i<cQ) (fun i=>HP p l (kk:Int) [(5,iW rt),(7,iW i)]) U U (cQ-1) ⟨K,K⟩ (.norm dO) fun i ⟨ZC,zX⟩=>?_;have Qr:i<l.length:=by omega
  have hw:l[i]? =some l[i]:=ay Qr;have jZ:V.agg (rs.l6 (dF (gu l) (0+i*2) 2))=(l[i]).v:=by rw[bE,DQ l i Qr];rfl
  have oM:0+i*2+2<=(gu l).length:=by rw[sV];omega
  have YW:=apU i l[i] hw ZC K;generalize l[i]=w at jZ hw YW;have a1:(0:Int)<=Int.ofNat i/\Int.ofNat i<(Int.ofNat l.length):=⟨az _,dm⟩;by_cases PA:i=j
  . subst PA;rw[bQ rfl]at YW;obtain⟨L6,LF⟩:=cr6 p l (kk:Int) rt i w;refine gC (jM.jA Nu YW) mo (fun v h n9=>v= .bool true/\h=J (JA p (gu l) l.length i 1)/\n9=(11+sh p)) U LF fun g hg I=>?_;rcases iU hg with rfl|rfl
    . refine⟨fm a1 (fm oM (fm jZ (fm ⟨rfl,rfl,rfl⟩ (fm (nL dm K) (fm ⟨az _,dm⟩ (eX ⟨az _,dm⟩)))))),⟨rfl,?_,rfl⟩,fun s1 gi=>gi⟩;have e1:i+1-i=1:=by omega
      rw[e1]
    . exact absurd (aJ (I _ (aq.2 rfl))) dm
  . rw[bC PA]at YW;refine fO (jM.jA Nu YW) (cr5 p l (kk:Int) rt i w) fun g hg I=>?_;rcases iU hg with rfl|rfl
    . refine⟨fm a1 (fm oM (fm jZ (fm ⟨rfl,rfl,rfl⟩ (eX (aN _ (by rw[fK dm dm,kr,kr];omega)))))),fun s1 gi=>⟨i-1,K,⟨K,K⟩,.norm gi⟩⟩
    . exact absurd (aJ (I _ (aq.2 rfl))) dm
 have go5:∀cQ:Nat,cQ=FL kk l->TG ak 9 Tryz.f67.ntmps (dh 5 Jz) (HP p l (kk:Int) [(5,iW 0),(6,iW cQ)]) (fJ ak 9 Tryz.f67 fun v h n9=>v= .bool true/\h=J (JA p (gu l) l.length j 1)/\n9=(11+sh p)):=by
  intro cQ hTe;have hT1:V.int aj (IntKind.i64.wrap (Int.ofNat cQ-(1:Int)))=iW (cQ-1):=aN _ (by rw[fK dm dm,kr,kr];omega);refine cZ U ?_;refine fO jM (cr3 p l (kk:Int) (kk%256) cQ) fun g hg I=>?_;rcases iU hg with rfl|rfl
  . have c1:(Int.ofNat (kk%256)==((255:Nat):Int))=true:=I _ (aq.2 rfl);rw[zQ]at c1;exact⟨fm (AQ hk) (eX hT1),fun s' dO=>c6 dO (go6 (cQ-1) cQ (by unfold Ze;rw[aH (aE c1),hTe]) hTe)⟩
  . have c1:(Int.ofNat (kk%256)==((255:Nat):Int))=false:=I _ (aq.2 rfl);rw[zQ]at c1;exact⟨eX (AQ hk),fun s' dO=>c6 dO (go6 0 cQ (by unfold Ze;rw[aI (aJ c1)]) hTe)⟩
 refine cZ U ?_;refine fO jM (cr2 p l (kk:Int) (kk%256)) fun g hg I=>?_;rcases iU hg with rfl|rfl
 . have c1:(Int.ofNat (kk%256)==((0:Nat):Int))=true:=I _ (aq.2 rfl);rw[zQ]at c1;exact⟨eX (AQ hk),fun s' dO=>c6 dO (go5 1 (by unfold FL;rw[aH (aE c1)]))⟩
 . have c1:(Int.ofNat (kk%256)==((0:Nat):Int))=false:=I _ (aq.2 rfl);rw[zQ]at c1;exact⟨eX (AQ hk),fun s' dO=>c6 dO (go5 l.length (by unfold FL;rw[aI (aJ c1)]))⟩
end
theorem c67(p:gZ)(q:gZ)(l:List RS)(kk:Nat)(hk:kk<=1000000)(hl:l.length<=1000)(h0:0<l.length)(j0:Nat)(w0:RS)(hj:Ze kk l<=j0/\j0<FL kk l)(Rh:l[j0]? =some w0)(hC:IsC (kk:Int) p q)
  (hsm:∀(i:Nat) (w:RS),l[i]? =some w->j0<=i->i<FL kk l->cW ak 28 [P3,w.v] (J (gI q l)) 9 (.bool (decide (i=j0))) (J (gI q l)) 9):
  cW ak 67 [P3,.int .i64 (kk:Int)] (J (gI p l)) 9 (.bool true) (J (wU q [w0])) (nR q):=by
 refine Nv q l j0 w0 Rh (c5 Tryz.func67 (code:=Jz) U U ?_);have h31:cW ak 31 [.ptr (some (4,0)),.dj (some (9,0)) 1 1 1] (J (gI p l++[(9,.cells [.int .i64 (kk:Int)])])) 10 (.ew []) (J (Np 10 q l)) (12+sh q):=
  xb (ns:=nsK p) hC 10 (by rcases p with⟨_|⟨_,_,_⟩,_⟩<;>rcases q with⟨_|⟨_,_,_⟩,_⟩<;>kernel_rfl)
 obtain⟨L1,BQ⟩:=cr1 p q l (kk:Int);exact lX 4 (jM.jA Zd h31) mo U BQ (eX ⟨rfl,rfl,rfl⟩) (m67 q l kk hk hl h0 j0 w0 hj Rh hsm)
noncomputable abbrev yn:Code:=dN Tryz.f27
section
variable(p q:gZ)(l l1:List RS)(x y z:Int)
def lD(d:L):af:=gI p l++[(9,mw x y z d)]
def lE(d:L):af:=moA 10 p l++[(9,mw x y z d)]
theorem d0(d:L):c9 (fG fN 64 [P3,r9 x y z d] (J (lD p l x y z d)) 10 (.bool true,J (lE q l1 x y z d),(13+sh q))) [(7,.di (.int .u8 0))] 9 Tryz.f27 [] (yn) (cU [P3,r9 x y z d] (J (gI p l)) 9) [([],
   [(V.int IntKind.u8 (x.tmod (10:Int))=V.int IntKind.u8 (0:Int)),fC [P3,r9 x y z d] (J (lD p l x y z d)) 10],
   .ret (.bool true) (J (wU q l1)) (nR q))]
 :=by rcases p with⟨_|⟨_,_,_⟩,_⟩<;>rcases q with⟨_|⟨_,_,_⟩,_⟩<;>exact cR.of U U U
theorem d1(d:L):c9 (fG fN 64 [P3,r9 x y z d] (J (lD p l x y z d)) 10 (.bool true,J (lE q l1 x y z d),(13+sh q))) [(7,.di (.int .u8 1))] 9 Tryz.f27 [] (yn) (cU [P3,r9 x y z d] (J (gI p l)) 9) [([],
   [(V.int IntKind.u8 (x.tmod (10:Int))=V.int IntKind.u8 (1:Int)),fC [P3,r9 x y z d] (J (lD p l x y z d)) 10],
   .ret (.bool true) (J (wU q l1)) (nR q))]
 :=by rcases p with⟨_|⟨_,_,_⟩,_⟩<;>rcases q with⟨_|⟨_,_,_⟩,_⟩<;>exact cR.of U U U
theorem d2(d:L):c9 (fG fN 64 [P3,r9 x y z d] (J (lD p l x y z d)) 10 (.bool true,J (lE q l1 x y z d),(13+sh q))) [(7,.di (.int .u8 2))] 9 Tryz.f27 [] (yn) (cU [P3,r9 x y z d] (J (gI p l)) 9) [([],
   [(V.int IntKind.u8 (x.tmod (10:Int))=V.int IntKind.u8 (2:Int)),fC [P3,r9 x y z d] (J (lD p l x y z d)) 10],
   .ret (.bool true) (J (wU q l1)) (nR q))]
 :=by rcases p with⟨_|⟨_,_,_⟩,_⟩<;>rcases q with⟨_|⟨_,_,_⟩,_⟩<;>exact cR.of U U U
theorem d3(d:L):c9 (fG fN 64 [P3,r9 x y z d] (J (lD p l x y z d)) 10 (.bool true,J (lE q l1 x y z d),(13+sh q))) [(7,.di (.int .u8 3))] 9 Tryz.f27 [] (yn) (cU [P3,r9 x y z d] (J (gI p l)) 9) [([],
   [(V.int IntKind.u8 (x.tmod (10:Int))=V.int IntKind.u8 (3:Int)),fC [P3,r9 x y z d] (J (lD p l x y z d)) 10],
   .ret (.bool true) (J (wU q l1)) (nR q))]
 :=by rcases p with⟨_|⟨_,_,_⟩,_⟩<;>rcases q with⟨_|⟨_,_,_⟩,_⟩<;>exact cR.of U U U
theorem d4(d:L):c9 (fG fN 65 [P3,r9 x y z d] (J (lD p l x y z d)) 10 (.bool true,J (lE q l1 x y z d),(13+sh q))) [(7,.di (.int .u8 4))] 9 Tryz.f27 [] (yn) (cU [P3,r9 x y z d] (J (gI p l)) 9) [([],
   [(V.int IntKind.u8 (x.tmod (10:Int))=V.int IntKind.u8 (4:Int)),fC [P3,r9 x y z d] (J (lD p l x y z d)) 10],
   .ret (.bool true) (J (wU q l1)) (nR q))]
 :=by rcases p with⟨_|⟨_,_,_⟩,_⟩<;>rcases q with⟨_|⟨_,_,_⟩,_⟩<;>exact cR.of U U U
theorem d5(d:L):c9 (fG fN 65 [P3,r9 x y z d] (J (lD p l x y z d)) 10 (.bool true,J (lE q l1 x y z d),(13+sh q))) [(7,.di (.int .u8 5))] 9 Tryz.f27 [] (yn) (cU [P3,r9 x y z d] (J (gI p l)) 9) [([],
   [(V.int IntKind.u8 (x.tmod (10:Int))=V.int IntKind.u8 (5:Int)),fC [P3,r9 x y z d] (J (lD p l x y z d)) 10],
   .ret (.bool true) (J (wU q l1)) (nR q))]
 :=by rcases p with⟨_|⟨_,_,_⟩,_⟩<;>rcases q with⟨_|⟨_,_,_⟩,_⟩<;>exact cR.of U U U
theorem d6(d:L):c9 (fG fN 65 [P3,r9 x y z d] (J (lD p l x y z d)) 10 (.bool true,J (lE q l1 x y z d),(13+sh q))) [(7,.di (.int .u8 6))] 9 Tryz.f27 [] (yn) (cU [P3,r9 x y z d] (J (gI p l)) 9) [([],
   [(V.int IntKind.u8 (x.tmod (10:Int))=V.int IntKind.u8 (6:Int)),fC [P3,r9 x y z d] (J (lD p l x y z d)) 10],
   .ret (.bool true) (J (wU q l1)) (nR q))]
 :=by rcases p with⟨_|⟨_,_,_⟩,_⟩<;>rcases q with⟨_|⟨_,_,_⟩,_⟩<;>exact cR.of U U U
theorem d9(d:L)(kk:Int):c9 (fG fN 67 [P3,.int .i64 kk] (J (lD p l x y z d)) 10 (.bool true,J (lE q l1 x y z d),(13+sh q))) [(7,.di (.int .u8 9)),(70,.di (.int .i64 kk))] 9 Tryz.f27 [] (yn) (cU [P3,r9 x y z d] (J (gI p l)) 9) [([],
   [(V.int IntKind.u8 (x.tmod (10:Int))=V.int IntKind.u8 (9:Int)),(V.int aj (IntKind.i64.wrap (IntKind.i64.wrap y*IntKind.i64.wrap ((1:Int)+IntKind.i64.wrap (IntKind.i64.wrap (z.tmod (2:Int))*(3:Int)))))=V.int aj kk),fC [P3,.int .i64 kk] (J (lD p l x y z d)) 10],
   .ret (.bool true) (J (wU q l1)) (nR q))]
 :=by rcases p with⟨_|⟨_,_,_⟩,_⟩<;>rcases q with⟨_|⟨_,_,_⟩,_⟩<;>exact cR.of U U U
end
section
variable(p q:gZ)(l:List RS)
def lF(g c r:Nat)(nx:ai)(m0 i:Nat)(x y z:Int)(d:L):af:=[(0,.ints .u32 gS),(1,.ints .u32 gR),(3,.cells [.ptr (some (4,0)),.dj (some (8,(0+i*2))) (m0-i) (m0-i) 2]),(4,.cells (vI g c r p))]++lgB g p++[(c,.dI none p.Q),(r,.dI none p.D),(8,.deep nx),(9,mw x y z d)]
def lG(g c r a:Nat)(nx:ai)(w:RS)(ex:af):af:=[(0,.ints .u32 gS),(1,.ints .u32 gR),(3,.cells [.ptr (some (4,0)),.dj (some (a,0)) 1 1 2]),(4,.cells (vI g c r p))]++lgB g p++[(c,.dI none p.Q),(r,.dI none p.D),(8,.deep nx)]++ex++[(a,bx w)]
theorem d7(i:Nat)(x y z:Int)(d:L):c9 (fG fN 66 [.ptr (some (4,0))] (J (lF p 5 6 7 (gu l) l.length i x y z d)) 25 (.int .i64 0,J (lF q 25 (25+sh q) (26+sh q) (gu l) l.length i x y z d),(27+sh q))) [(7,.di (.int .u8 7)),(35,.di (iW i))] 9 Tryz.f27 [] (yn) (cU [P3,r9 x y z d] (J (gI p l)) 9) [([],
   [(V.int IntKind.u8 (x.tmod (10:Int))=V.int IntKind.u8 (7:Int)),(V.int aj (IntKind.i64.wrap ((Int.ofNat l.length)-(1:Int)))=iW i),((0:Int)<=Int.ofNat i/\Int.ofNat i<=(Int.ofNat l.length)),fC [.ptr (some (4,0))] (J (lF p 5 6 7 (gu l) l.length i x y z d)) 25],
   .ret (.bool true) (J (JA q (gu l) l.length i (l.length-i))) (11+sh q))]
 :=by rcases p with⟨_|⟨_,_,_⟩,_⟩<;>rcases q with⟨_|⟨_,_,_⟩,_⟩<;>exact cR.of U U U
theorem d8(sn w:RS)(x y z:Int)(d:L):c9 (fG (fG (fG fN 29 [P3] (J (lD p l x y z d)) 10 (sn.v,J (lD p l x y z d),10)) 32 [sn.v] (J (lD p l x y z d)) 10 (w.v,J (lD p l x y z d),10)) 19 [.ptr (some (4,0))] (J (lG p 5 6 7 10 (gu l) w [(9,mw x y z d)])) 11 (.int .i64 0,J (lG q 11 (11+sh q) (12+sh q) 10 (gu l) w [(9,mw x y z d)]),(13+sh q))) [(7,.di (.int .u8 8))] 9 Tryz.f27 [] (yn) (cU [P3,r9 x y z d] (J (gI p l)) 9) [([],
   [(V.int IntKind.u8 (x.tmod (10:Int))=V.int IntKind.u8 (8:Int)),fC [P3] (J (lD p l x y z d)) 10,fC [sn.v] (J (lD p l x y z d)) 10,fC [.ptr (some (4,0))] (J (lG p 5 6 7 10 (gu l) w [(9,mw x y z d)])) 11],
   .ret (.bool true) (J (lG q 9 (9+sh q) (10+sh q) (11+sh q) (gu l) w [])) (12+sh q))]
 :=by rcases p with⟨_|⟨_,_,_⟩,_⟩<;>rcases q with⟨_|⟨_,_,_⟩,_⟩<;>exact cR.of U U U
end
def ux(s:RS)(y z:Nat):L:=if y%4=0 then[]else kN s z
theorem Nw(y:Nat):((y:Int).tmod (4:Int)==(0:Int))=decide (y%4=0):=by
 rw[cC K];by_cases h:y%4=0
 . rw[bQ h];exact beq_iff_eq.2 K
 . rw[bC h];exact beq_eq_false_iff_ne.2 K
theorem m65(p:gZ)(q:gZ)(l:List RS)(s:RS)(x y z:Nat)(d:L)(hy:y<=255)(hz:z<=255)(hs:s.C.length<=100000)(hr:s.ro.length<64)(hl:l.length<=999)
  (hS:AO 16 [.str (Nn y),.str (ux s y z)] p (.int .i64 (pC s (Nn y) (ux s y z)).er) q):
  cW ak 65 [P3,r9 x y z d] (J (gI p (l++[s]))) 9 (.bool true) (J (wU q (ql (l++[s]) (pC s (Nn y) (ux s y z))))) (nR q):=by
 have h29:=m29 p l s K;have h89:=m89 p l s z hz K K;have Mt:=WL y;have h90:=fun(h:H lf) (n:Nat)=>WN s (Nn y) (ux s y z) h n hs hr (fun e=>by rw[e]at Mt;cases Mt) K;have h91:=fun(h:H lf) (n:Nat)=>WO y hy h n;have oM:(l++[s]).length<=1000:=by rw[ax];simp;omega
 have go:∀es,TG ak 9 Tryz.f65.ntmps (dh 5 zP) (sYs q (l++[s]) (pC s (Nn y) (ux s y z))) es->TG ak 9 Tryz.f65.ntmps zP (cU [P3,r9 x y z d] (J (gI p (l++[s]))) 9) es:=by
  intro es h;generalize l++[s]=fH at h29 h89 h ⊢;generalize pC s (Nn y) (ux s y z)=r at hS h90 h;have k89:cW ak 89 [P3,.int .u8 (z:Int)] (J (gI p fH++[(9,mw x y z d)])) 10 (.str (kN s z)) (J (gI p fH++[(9,mw x y z d)])) 10:=by
   generalize kN s z=w at h89 ⊢;exact pD (ns:=Ur p) h89 (by rcases p with⟨_|⟨_,_,_⟩,_⟩<;>kernel_rfl)
  refine iF  2 (jM.jA Th k89) (yp1 p fH x y z d (kN s z)) (eX ⟨rfl,rfl,rfl⟩) ?_;show TG ak 9 Tryz.f65.ntmps (dh 2 zP) (sYq p fH x y z d (kN s z)) es;have go2:∀e,e=ux s y z->TG ak 9 Tryz.f65.ntmps (dh 3 zP) (sYq p fH x y z d e) es:=by
   intro e he;rw[<- he]at hS h90;clear he;have k29:cW ak 29 [P3] (J (gI p fH++[(9,mw x y z d)])) 19 s.v (J (gI p fH++[(9,mw x y z d)])) 19:=
    pD (ns:=Ur p) h29 (by rcases p with⟨_|⟨_,_,_⟩,_⟩<;>kernel_rfl)
   generalize Nn y=nm at hS h90 h91;refine cZ U ?_;refine fO (((jM.jA DP k29).jA Za (h91 _ _)).jA ahl (h90 _ _)) (yp3 p fH s x y z d e nm r) (dG ?_);refine⟨fm ⟨rfl,rfl,rfl⟩ (fm ⟨rfl,rfl,rfl⟩ (eX ⟨rfl,rfl,rfl⟩)),fun s' dO=>c6 dO ?_⟩;show TG ak 9 Tryz.f65.ntmps (dh 4 zP) (sYr p fH x y z d e r) es;refine cZ U ?_;have hS2:cW ak 16 [.ptr (some (4,0)),.str nm,.str e] (J (gI p fH++[(9,mw x y z d),(10,FJ r)])) 21 (.int .i64 r.er) (J (Np 21 q fH++[(9,mw x y z d),(10,FJ r)])) (23+sh q):=
    xb (ns:=Us p) hS 21 (by rcases p with⟨_|⟨_,_,_⟩,_⟩<;>rcases q with⟨_|⟨_,_,_⟩,_⟩<;>kernel_rfl)
   refine fO ((jM.jA Za (h91 _ _)).jA YY hS2) (yp4 p q fH x y z d e nm r) (dG ?_);exact⟨fm ⟨rfl,rfl,rfl⟩ (eX ⟨rfl,rfl,rfl⟩),fun s' dO=>c6 dO h⟩
  refine cZ U ?_;refine fO jM (yp2 p fH x y z d (kN s z)) fun g hg I=>?_;rcases iU hg with rfl|rfl
  . have c1:decide (y%4=0)=true:=(Nw y).symm.trans (I _ (aq.2 rfl));exact⟨cT,fun s' dO=>c6 dO (go2 [] (by unfold ux;rw[aH (aE c1)]))⟩
  . have c1:decide (y%4=0)=false:=(Nw y).symm.trans (I _ (aq.2 rfl));exact⟨cT,fun s' dO=>c6 dO (go2 (kN s z) (by unfold ux;rw[aI (aJ c1)]))⟩
 generalize pC s (Nn y) (ux s y z)=r at go;generalize l++[s]=fH at go oM;refine Ns q fH r (fun Tl=>?_) (fun Tl=>?_)
 . refine c5 Tryz.func65 (code:=zP) U U (go _ ?_);refine cZ U ?_;obtain⟨L6,LF⟩:=yp5 q fH r;rw[Nr]at LF;refine gC jM mo l9 U LF fun g hg I=>?_;rcases iU hg with rfl|rfl
   . refine⟨fm (by rw[sV];omega) (fm dU (eX (Jx K))),fun s' dO=>c6 dO ?_⟩;refine fh jM (yp7 q (fH.length+1) (gu (fH++[r.s])) r) (dG ?_);exact⟨eX (Hw _),_,_,_,rfl,rfl,rfl,rfl⟩
   . have c1:r.ch=false:=I _ (aq.2 rfl);rw[Tl]at c1;cases c1
 . refine c5 Tryz.func65 (code:=zP) U U (go _ ?_);refine cZ U ?_;refine fO jM (yp5 q fH r) fun g hg I=>?_;rcases iU hg with rfl|rfl
   . have c1:r.ch=true:=I _ (aq.2 rfl);rw[Tl]at c1;cases c1
   . refine⟨cT,fun s' dO=>c6 dO ?_⟩;refine fh jM (yp8 q fH r) (dG ?_);exact⟨eX (Hw _),_,_,_,rfl,rfl,rfl,rfl⟩
theorem Nx:64<Tryz.prog.funcs.size:=au U
theorem Tq:65<Tryz.prog.funcs.size:=au U
theorem ahu:67<Tryz.prog.funcs.size:=au U
theorem ahv:32<Tryz.prog.funcs.size:=au U
theorem Zf:19<Tryz.prog.funcs.size:=au U
theorem EI{x v:Nat}(h:x%10=v):V.int IntKind.u8 ((x:Int).tmod (10:Int))=V.int IntKind.u8 (v:Int):=aN _ (by rw[cC K];omega)
def WS(y z:Nat):Nat:=y*(1+z%2*3)
theorem ach{y z:Nat}(hy:y<=255):V.int aj (IntKind.i64.wrap (IntKind.i64.wrap (y:Int)*IntKind.i64.wrap ((1:Int)+IntKind.i64.wrap (IntKind.i64.wrap ((z:Int).tmod (2:Int))*(3:Int)))))=V.int aj ((WS y z:Nat):Int):=by
 have e1:IntKind.i64.wrap (y:Int)=(y:Int):=fK K K;have hz:z%2=0\/z%2=1:=by omega
 have e2:(z:Int).tmod 2=((z%2:Nat):Int):=by rw[cC K];rfl
 rw[e1,e2];unfold WS;rcases hz with h|h
 . rw[h,show IntKind.i64.wrap ((1:Int)+IntKind.i64.wrap (IntKind.i64.wrap ((0:Nat):Int)*3))=1 from rfl];exact aN _ (by rw[fK K K];simp)
 . rw[h,show IntKind.i64.wrap ((1:Int)+IntKind.i64.wrap (IntKind.i64.wrap ((1:Nat):Int)*3))=4 from rfl];exact aN _ (by rw[fK K K];simp)
theorem WT(s:RS)(h:H lf)(n:Nat)(N:s.C.length<=100000)(B:s.ro.length<=1000000)(h3:∀c∈s.C,c.D.length<=100000):cW ak 32 [s.v] h n (iX s).v h n:=by
 have key:cW ak 32 [s.v] h n (iX ⟨fo (eL s.C),lQ (eR s.ro)⟩).v h n:=by
  intro E w de ra g hd;refine S9.2 _ h n (okS s++[s.C.length<=100000,∀c∈fo (eL s.C),c.D.length<=100000]) _ _ _ rfl ?_ E w de ra g hd U;refine jK (AL K B) ?_;rw[iM];exact fm N (eX h3)
 rw[iM,pT]at key;exact key
section
variable(p:gZ)(q:gZ)(l l1:List RS)(x y z:Nat)(d:L)
theorem apW(G:x%10<=3)(h:cW ak 64 [P3,r9 x y z d] (J (gI p l)) 9 (.bool true) (J (wU q l1)) (nR q)):cW ak 27 [P3,r9 x y z d] (J (gI p l)) 9 (.bool true) (J (wU q l1)) (nR q):=by
 have k1:cW ak 64 [P3,r9 x y z d] (J (lD p l x y z d)) 10 (.bool true) (J (lE q l1 x y z d)) (13+sh q):=
  xb (ns:=Ur p) h 10 (by rcases p with⟨_|⟨_,_,_⟩,_⟩<;>rcases q with⟨_|⟨_,_,_⟩,_⟩<;>kernel_rfl)
 refine c5 Tryz.func27 (code:=yn) U U ?_;rcases(by omega:x%10=0\/x%10=1\/x%10=2\/x%10=3)with e|e|e|e
 . refine fh (jM.jA Nx k1) (d0 p q l l1 x y z d) (dG ?_);exact⟨fm (EI e) (eX ⟨rfl,rfl,rfl⟩),_,_,_,rfl,rfl,rfl,rfl⟩
 . refine fh (jM.jA Nx k1) (d1 p q l l1 x y z d) (dG ?_);exact⟨fm (EI e) (eX ⟨rfl,rfl,rfl⟩),_,_,_,rfl,rfl,rfl,rfl⟩
 . refine fh (jM.jA Nx k1) (d2 p q l l1 x y z d) (dG ?_);exact⟨fm (EI e) (eX ⟨rfl,rfl,rfl⟩),_,_,_,rfl,rfl,rfl,rfl⟩
 . refine fh (jM.jA Nx k1) (d3 p q l l1 x y z d) (dG ?_);exact⟨fm (EI e) (eX ⟨rfl,rfl,rfl⟩),_,_,_,rfl,rfl,rfl,rfl⟩
theorem apX(G:4<=x%10)(QD:x%10<=6)(h:cW ak 65 [P3,r9 x y z d] (J (gI p l)) 9 (.bool true) (J (wU q l1)) (nR q)):cW ak 27 [P3,r9 x y z d] (J (gI p l)) 9 (.bool true) (J (wU q l1)) (nR q):=by
 have k1:cW ak 65 [P3,r9 x y z d] (J (lD p l x y z d)) 10 (.bool true) (J (lE q l1 x y z d)) (13+sh q):=
  xb (ns:=Ur p) h 10 (by rcases p with⟨_|⟨_,_,_⟩,_⟩<;>rcases q with⟨_|⟨_,_,_⟩,_⟩<;>kernel_rfl)
 refine c5 Tryz.func27 (code:=yn) U U ?_;rcases(by omega:x%10=4\/x%10=5\/x%10=6)with e|e|e
 . refine fh (jM.jA Tq k1) (d4 p q l l1 x y z d) (dG ?_);exact⟨fm (EI e) (eX ⟨rfl,rfl,rfl⟩),_,_,_,rfl,rfl,rfl,rfl⟩
 . refine fh (jM.jA Tq k1) (d5 p q l l1 x y z d) (dG ?_);exact⟨fm (EI e) (eX ⟨rfl,rfl,rfl⟩),_,_,_,rfl,rfl,rfl,rfl⟩
 . refine fh (jM.jA Tq k1) (d6 p q l l1 x y z d) (dG ?_);exact⟨fm (EI e) (eX ⟨rfl,rfl,rfl⟩),_,_,_,rfl,rfl,rfl,rfl⟩
theorem apY(G:x%10=9)(hy:y<=255)(h:cW ak 67 [P3,.int .i64 ((WS y z:Nat):Int)] (J (gI p l)) 9 (.bool true) (J (wU q l1)) (nR q)):cW ak 27 [P3,r9 x y z d] (J (gI p l)) 9 (.bool true) (J (wU q l1)) (nR q):=by
 have k1:cW ak 67 [P3,.int .i64 ((WS y z:Nat):Int)] (J (lD p l x y z d)) 10 (.bool true) (J (lE q l1 x y z d)) (13+sh q):=
  xb (ns:=Ur p) h 10 (by rcases p with⟨_|⟨_,_,_⟩,_⟩<;>rcases q with⟨_|⟨_,_,_⟩,_⟩<;>kernel_rfl)
 refine c5 Tryz.func27 (code:=yn) U U ?_;refine fh (jM.jA ahu k1) (d9 p q l l1 x y z d ((WS y z:Nat):Int)) (dG ?_);exact⟨fm (EI G) (fm (ach hy) (eX ⟨rfl,rfl,rfl⟩)),_,_,_,rfl,rfl,rfl,rfl⟩
theorem apZ(s:RS)(G:x%10=7)(hl:l.length<=1000)(h:AO 66 [] p (.int .i64 0) q):cW ak 27 [P3,r9 x y z d] (J (gI p (l++[s]))) 9 (.bool true) (J (wU q [s])) (nR q):=by
 have oM:(l++[s]).length=l.length+1:=by rw[ax];rfl
 have jZ:(l++[s])[l.length]? =some s:=by rw[cm (aA _),Nat.sub_self];rfl
 generalize l++[s]=fH at oM jZ;refine Nv q fH l.length s jZ ?_;refine c5 Tryz.func27 (code:=yn) U U ?_;obtain⟨aa,hr⟩:=d7 p q fH l.length x y z d;have hi:V.int aj (IntKind.i64.wrap ((Int.ofNat fH.length)-(1:Int)))=iW l.length:=aN _ (by rw[oM,fK dm dm,kr,kr];omega);have hb:(0:Int)<=Int.ofNat l.length/\Int.ofNat l.length<=(Int.ofNat fH.length):=⟨az _,by rw[oM,kr,kr];omega⟩;have e1:fH.length-l.length=1:=by omega
 have k1:cW ak 66 [.ptr (some (4,0))] (J (lF p 5 6 7 (gu fH) fH.length l.length x y z d)) 25 (.int .i64 0) (J (lF q 25 (25+sh q) (26+sh q) (gu fH) fH.length l.length x y z d)) (27+sh q):=by
  generalize l.length=i0;generalize fH.length=m0;generalize gu fH=nx;exact xb (ns:=Us p) h 25 (by rcases p with⟨_|⟨_,_,_⟩,_⟩<;>rcases q with⟨_|⟨_,_,_⟩,_⟩<;>kernel_rfl)
 refine gA (jM.jA ahb k1) mo _ U hr (dG ?_);exact⟨fm (EI G) (fm hi (fm hb (eX ⟨rfl,rfl,rfl⟩))),_,_,_,rfl,rfl,by rw[e1],rfl⟩
end
theorem ap0(p:gZ)(q:gZ)(l:List RS)(sn:RS)(x y z:Nat)(d:L)(G:x%10=8)(hl:l.length<=1000)(N:sn.C.length<=100000)(B:sn.ro.length<=1000000)(h3:∀c∈sn.C,c.D.length<=100000)(h:AO 19 [] p (.int .i64 0) q):
  cW ak 27 [P3,r9 x y z d] (J (gI p (l++[sn]))) 9 (.bool true) (J (wU q [iX sn])) (nR q):=by
 have h29:=m29 p l sn K;have h32:=fun(h:H lf) (n:Nat)=>WT sn h n N B h3;generalize l++[sn]=fH at h29 ⊢;generalize iX sn=w at h32 ⊢;have k29:cW ak 29 [P3] (J (lD p fH x y z d)) 10 sn.v (J (lD p fH x y z d)) 10:=
  pD (ns:=Ur p) h29 (by rcases p with⟨_|⟨_,_,_⟩,_⟩<;>kernel_rfl)
 have k1:cW ak 19 [.ptr (some (4,0))] (J (lG p 5 6 7 10 (gu fH) w [(9,mw x y z d)])) 11 (.int .i64 0) (J (lG q 11 (11+sh q) (12+sh q) 10 (gu fH) w [(9,mw x y z d)])) (13+sh q):=by
  generalize gu fH=nx;exact xb (ns:=Us p) h 11 (by rcases p with⟨_|⟨_,_,_⟩,_⟩<;>rcases q with⟨_|⟨_,_,_⟩,_⟩<;>kernel_rfl)
 have key:cW ak 27 [P3,r9 x y z d] (J (gI p fH)) 9 (.bool true) (J (lG q 9 (9+sh q) (10+sh q) (11+sh q) (gu fH) w [])) (12+sh q):=by
  refine c5 Tryz.func27 (code:=yn) U U ?_;refine fh (((jM.jA DP k29).jA ahv (h32 _ _)).jA Zf k1) (d8 p q fH sn w x y z d) (dG ?_);exact⟨fm (EI G) (fm ⟨rfl,rfl,rfl⟩ (fm ⟨rfl,rfl,rfl⟩ (eX ⟨rfl,rfl,rfl⟩))),_,_,_,rfl,rfl,rfl,rfl⟩
 have st:∀nx,Step 9 (HN (.bool true) (J (lG q 9 (9+sh q) (10+sh q) (11+sh q) nx w [])) (12+sh q)) (HN (.bool true) (J (wU q [w])) (nR q)):=fun nx=>
  (Step.deep [(11+sh q)] (s2:=HN (.bool true) (J (moD 9 q 1 (gu [w])++[(8,.deep nx)])) (12+sh q)) (by rcases q with⟨_|⟨_,_,_⟩,_⟩<;>kernel_rfl)).trans (.Ei 5 (live:=[0]) (by rcases q with⟨_|⟨_,_,_⟩,_⟩<;>kernel_rfl))
 exact key.step (st _)
def oJ:List gq->Nat->ae
 | [],_=>[]
 |c::l,i=>(.str c.dg,oF c.da c.D (i:Int))::oJ l (i+1)
theorem JB:∀(a b:List gq) (i:Nat),oJ (a++b) i=oJ a i++oJ b (i+a.length)
 | [],_,_=>rfl
 |c::a,b,i=>by
  show(_::oJ (a++b) (i+1))=_::(oJ a (i+1)++oJ b (i+(a.length+1)));rw[JB a b (i+1),show i+1+a.length=i+(a.length+1)by omega]
theorem JC:∀(l:List gq) (i:Nat),(oJ l i).length=l.length
 | [],_=>rfl
 |_::l,i=>aN (·+1) (JC l (i+1))
theorem qv{x:L}:∀{C:List gq} {i:Nat},(∀c∈C,c.dg≠x)->dr (.str x) (oJ C i)=none
 | [],_,_=>rfl
 |c::l,i,h=>by
  show dr (.str x) ((.str c.dg,_)::oJ l (i+1))=none;rw[gx,aI (by intro q;simp only[rs.str.injEq]at q;exact h c (by simp) q)];exact qv fun c I=>h c (by simp[I])
theorem kU:∀{C:List gq} {i j:Nat} {c:gq},(C.map gq.dg).Nodup->C[j]? =some c->dr (.str c.dg) (oJ C i)=some (oF c.da c.D ((i+j:Nat):Int))
 | [],_,_,_,_,h=>by simp at h
 |a::l,i,0,c,_,h=>by
  simp only[bI,an]at h;subst h;show dr (.str a.dg) ((.str a.dg,_)::oJ l (i+1))=_;rw[gx,aH rfl];rfl
 |a::l,i,j+1,c,hn,h=>by
  simp only[cB]at h;rw[bY,cj]at hn;have I:c∈l:=bf h;show dr (.str c.dg) ((.str a.dg,_)::oJ l (i+1))=_;rw[gx,aI (by intro q;simp only[rs.str.injEq]at q;exact hn.1 (by rw[q];exact bA.2 ⟨c,I,rfl⟩)),kU hn.2 h,show i+1+j=i+(j+1)by omega]
theorem JD{x:L}:∀{C:List gq} {i:Nat},(∀c∈C,c.dg≠x)->sR x C i= -1
 | [],_,_=>rfl
 |c::l,i,h=>by
  unfold sR;rw[aI (h c (by simp))];exact JD fun c I=>h c (by simp[I])
theorem JE:∀{C:List gq} {i j:Nat} {c:gq},(C.map gq.dg).Nodup->C[j]? =some c->sR c.dg C i=((i+j:Nat):Int)
 | [],_,_,_,_,h=>by simp at h
 |a::l,i,0,c,_,h=>by
  simp only[bI,an]at h;subst h;unfold sR;rw[aH rfl];rfl
 |a::l,i,j+1,c,hn,h=>by
  simp only[cB]at h;rw[bY,cj]at hn;have I:c∈l:=bf h;unfold sR;rw[aI (fun q=>hn.1 (by rw[q];exact bA.2 ⟨c,I,rfl⟩)),JE hn.2 h,show i+1+j=i+(j+1)by omega]
section
variable{C:List gq}{x:L}
theorem sX{j:Nat}{c:gq}(hn:(C.map gq.dg).Nodup)(h:C[j]? =some c):fk C c.dg=(j:Int):=by
 unfold fk;rw[JE hn h,bE]
theorem AR(C:List gq)(x:L):(∀c∈C,c.dg≠x)\/∃(j:Nat) (c:gq),C[j]? =some c/\c.dg=x:=by
 by_cases h:∃c∈C,c.dg=x
 . obtain⟨c,I,e⟩:=h;obtain⟨j,hj⟩:=bL.1 I;exact .inr ⟨j,c,hj,e⟩
 . exact .inl fun c I e=>h ⟨c,I,e⟩
theorem qw(hn:(C.map gq.dg).Nodup):fk C x<0↔∀c∈C,c.dg≠x:=by
 rcases AR C x with h|⟨j,c,hj,rfl⟩
 . exact⟨fun _=>h,fun _=>by unfold fk;rw[JD h];decide⟩
 . rw[sX hn hj];exact⟨fun q=>by omega,fun q=>absurd rfl (q c (bf hj))⟩
theorem nc(hn:(C.map gq.dg).Nodup):0<=fk C x↔∃(j:Nat) (c:gq),C[j]? =some c/\c.dg=x:=by
 rcases AR C x with h|⟨j,c,hj,rfl⟩
 . constructor
   . intro q;have:=(qw hn).2 h;omega
   . rintro⟨j,c,hj,e⟩;exact absurd e (h c (bf hj))
 . exact⟨fun _=>⟨j,c,hj,rfl⟩,fun _=>by rw[sX hn hj];exact az _⟩
end
theorem Ca:∀{a b:L},a<b↔yx a b=true
 |_,[]=>by simp[yx]
 | [],_::_=>by simp[yx]
 |a::x,b::y=>by
  simp only[yx];rw[List.cons_lt_cons_iff];have ih:=Ca (a:=x) (b:=y);cases q:Nat.blt a.toNat b.toNat with
  |true=>
   have:a<b:=au q;simp[this]
  |false=>
   have N:¬a<b:=fun h=>by
    have:Nat.blt a.toNat b.toNat=true:=cH h;rw[q]at this;cases this
   cases q2:Nat.beq a.toNat b.toNat with
   |true=>
    have:a=b:=UInt8.toNat.inj (aD q2);subst this;simp only[N,false_or,true_and];exact ih
   |false=>
    have:a≠b:=fun e=>by subst e;rw[cO]at q2;cases q2
    simp[N,this]
theorem zR{n:L}:∀{l:List (L×L)},(∀p∈l,p.1≠n)->gX n l=[]
 | [],_=>rfl
 |p::l,h=>by
  unfold gX;rw[aI (h p (by simp))];exact zR fun q hq=>h q (by simp[hq])
def Pg(l:List (L×L)):Prop:=(l.map Prod.fst).Pairwise (. <·)
theorem FM{a b c:L}(h:a<b)(k:b<c):a<c:=List.lt_trans h k
theorem wV(a:L):¬a<a:=List.lt_irrefl a
theorem WU{a b:L}(h:¬a<b)(fU:a≠b):b<a:=by
 by_cases q:b<a
 . exact q
 . exact absurd (List.le_antisymm (List.not_lt.1 q) (List.not_lt.1 h)) fU
theorem q7{p:L×L}{l:List (L×L)}:Pg (p::l)↔(∀q∈l,p.1<q.1)/\Pg l:=by
 unfold Pg;rw[bY,List.pairwise_cons];constructor
 . rintro⟨N,B⟩;exact⟨fun q hq=>N _ (bA.2 ⟨q,hq,rfl⟩),B⟩
 . rintro⟨N,B⟩;refine⟨fun y hy=>?_,B⟩;obtain⟨q,hq,rfl⟩:=bA.1 hy;exact N q hq
theorem nN{n x:L}{q:L×L}:∀{l:List (L×L)} {dn:Bool},q∈l5 n x dn l↔(q∈l/\q.1≠n)\/(dn=false/\q=(n,x))
 | [],dn=>by
   unfold l5;cases dn<;>simp
 |p::l,dn=>by
  unfold l5;rw[aW,aW,nN (l:=l),aF];have hA:(q∈(if dn=false/\yx n p.1=true then[(n,x)]else[]))↔(dn=false/\yx n p.1=true)/\q=(n,x):=by
   split
   . rename_i h;simp[h]
   . rename_i h;simp only[aL,false_iff];exact fun k=>h k.1
  have hB:(q∈(if p.1=n then[]else[p]))↔p.1≠n/\q=p:=by
   split
   . rename_i h;simp[h]
   . rename_i h;simp[h]
  rw[hA,hB];constructor
  . rintro(⟨⟨N,_⟩,h3⟩|⟨N,B⟩|⟨N,B⟩|⟨N,B⟩)
    . exact .inr ⟨N,h3⟩
    . subst B;exact .inl ⟨.inl rfl,N⟩
    . exact .inl ⟨.inr N,B⟩
    . exact .inr ⟨(Bool.or_eq_false_iff.1 N).1,B⟩
  . rintro(⟨rfl|N,B⟩|⟨N,B⟩)
    . exact .inr (.inl ⟨B,rfl⟩)
    . exact .inr (.inr (.inl ⟨N,B⟩))
    . cases hl:yx n p.1 with
      |true=>exact .inl ⟨⟨N,rfl⟩,B⟩
      |false=>exact .inr (.inr (.inr ⟨by rw[N];rfl,B⟩))
theorem DW{n x:L}:∀{l:List (L×L)} {dn:Bool},Pg l->(dn=true->∀p∈l,n<p.1\/True)->Pg (l5 n x dn l)
 | [],dn,_,_=>by
   unfold l5;cases dn
   . exact List.pairwise_singleton ..
   . exact List.Pairwise.nil
 |p::l,dn,h,_=>by
  obtain⟨N,B⟩:=q7.1 h;have ih:∀d,Pg (l5 n x d l):=fun d=>DW B fun _ _ _=>.inr trivial;unfold l5;cases dn with
  |true=>
   rw[aI (by simp),ck];split
   . exact ih _
   . refine q7.2 ⟨fun q hq=>?_,ih _⟩;rw[Bool.true_or]at hq;rcases nN.1 hq with⟨a,_⟩|⟨a,_⟩
     . exact N q a
     . cases a
  |false=>
   by_cases hl:yx n p.1=true
   . have fI:=Ca.2 hl;have hp:¬p.1=n:=fun e=>wV n (by rw[e]at fI;exact fI);rw[aH ⟨rfl,hl⟩,aI hp,hl,Bool.or_true];have W:∀q∈l5 n x true l,p.1<q.1:=fun q hq=>by
      rcases nN.1 hq with⟨a,_⟩|⟨a,_⟩
      . exact N q a
      . cases a
     refine q7.2 ⟨fun q hq=>?_,q7.2 ⟨W,ih _⟩⟩;rcases aF.1 hq with rfl|hq
     . exact fI
     . exact FM fI (W q hq)
   . have hl':yx n p.1=false:=by cases q:yx n p.1<;>simp_all
     rw[aI (fun q=>hl q.2),ck,hl',Bool.or_false];split
     . exact ih _
     . rename_i hp;refine q7.2 ⟨fun q hq=>?_,ih _⟩;rcases nN.1 hq with⟨a,_⟩|⟨_,a⟩
       . exact N q a
       . subst a;exact WU (fun q=>hl (Ca.1 q)) (fun e=>hp e.symm)
theorem wW{n x:L}:∀{l:List (L×L)},Pg l->(n,x)∈l->gX n l=x
 | [],_,h=>by cases h
 |p::l,hs,h=>by
  obtain⟨N,B⟩:=q7.1 hs;unfold gX;rcases aF.1 h with e|h
  . rw[<- e,aH rfl]
  . rw[aI (fun e=>wV n (by have:=N _ h;rw[e]at this;exact this))];exact wW B h
theorem rR(n:L):∀(l:List (L×L)),(gX n l=[]/\∀p∈l,p.1≠n)\/(n,gX n l)∈l
 | []=>.inl ⟨rfl,fun _ h=>by cases h⟩
 |p::l=>by
  unfold gX;by_cases h:p.1=n
  . rw[aH h];subst h;exact .inr (by simp)
  . rw[aI h];rcases rR n l with⟨N,B⟩|N
    . exact .inl ⟨N,fun q hq=>by
       rcases aF.1 hq with rfl|hq
       . exact h
       . exact B q hq⟩
    . exact .inr (by simp[N])
theorem FN{n m x:L}{l:List (L×L)}(hs:Pg l):gX m (l5 n x (eJ x []) l)=if m=n then x else gX m l:=by
 have jr:Pg (l5 n x (eJ x []) l):=DW hs fun _ _ _=>.inr trivial;by_cases W:m=n
 . subst W;rw[aH rfl];by_cases G:x=[]
   . subst G;refine zR fun p hp e=>?_;rcases nN.1 hp with⟨_,a⟩|⟨a,_⟩
     . exact a e
     . cases a
   . have hb:eJ x []=false:=by rw[fV];exact beq_eq_false_iff_ne.2 G
     exact wW jr (nN.2 (.inr ⟨hb,rfl⟩))
 . rw[aI W];rcases rR m l with⟨N,B⟩|N
   . rw[N];refine zR fun p hp e=>?_;rcases nN.1 hp with⟨a,_⟩|⟨_,a⟩
     . exact B p a e
     . subst a;exact W e.symm
   . exact wW jr (nN.2 (.inl ⟨N,W⟩))
inductive pW(Q:ae):L->L->Prop
 |refl (x:L):pW Q x x
 |step {x y z:L}:pW Q x y->z∈pY Q y->pW Q x z
theorem pW.head{Q:ae}{x y z:L}(h:y∈pY Q x)(p:pW Q y z):pW Q x z:=by
 induction p with
 |refl=>exact .step (.refl x) h
 |step _ B ih=>exact .step ih B
structure Spc(Q:ae)(ds ks Qp:List (L)):Prop where
 sub:∀y∈ks,y∈Qp
 roots:∀d∈ds,d∈Qp
 pth:∀y∈Qp,y∈ks\/∃d∈ds,pW Q d y
 cl:∀y∈Qp,y∉ks->∀r∈pY Q y,r∈Qp
 nd:ks.Nodup->Qp.Nodup
theorem DX{Q:ae}{k:Nat}(Tr:∀x ks,Ends Q k x->Spc Q [x] ks (mh Q k x ks)):∀(ds ks:List (L)),(∀d∈ds,Ends Q k d)->Spc Q ds ks (ds.foldl (fun a r=>mh Q k r a) ks)
 | [],ks,_=>⟨fun _ h=>h,fun _ h=>(by cases h),fun _ h=>.inl h,fun y h B=>absurd h B,fun h=>h⟩
 |d::ds,ks,he=>by
  have N:=Tr d ks (he d (by simp));have B:=DX Tr ds (mh Q k d ks) fun x G=>he x (by simp[G]);show Spc Q (d::ds) ks (ds.foldl (fun a r=>mh Q k r a) (mh Q k d ks));refine⟨fun y hy=>B.sub y (N.sub y hy),fun x G=>?_,fun y hy=>?_,fun y hy hn r hr=>?_,fun h=>B.nd (N.nd h)⟩
  . rcases aF.1 G with rfl|G
    . exact B.sub _ (N.roots _ (by simp))
    . exact B.roots x G
  . rcases B.pth y hy with h|⟨x,G,p⟩
    . rcases N.pth y h with h|⟨x,G,p⟩
      . exact .inl h
      . exact .inr ⟨x,by rw[aq.1 G];simp,p⟩
    . exact .inr ⟨x,by simp[G],p⟩
  . by_cases q:y∈mh Q k d ks
    . exact B.sub r (N.cl y q hn r hr)
    . exact B.cl y hy q r hr
theorem Ny{Q:ae}:∀(k:Nat) (x:L) (ks:List (L)),Ends Q k x->Spc Q [x] ks (mh Q k x ks)
 |0,_,_,h=>h.elim
 |k+1,x,ks,⟨_,_,hr⟩=>by
  unfold mh;by_cases G:x∈ks
  . rw[aH G];exact⟨fun _ h=>h,fun d hd=>by rw[aq.1 hd];exact G,fun _ h=>.inl h,fun y h B=>absurd h B,fun h=>h⟩
  . rw[aI G];have h:=DX (fun y ks=>Ny k y ks) (pY Q x) (ks++[x]) hr;generalize (pY Q x).foldl (fun a r=>mh Q k r a) (ks++[x])=Qp at h ⊢;refine⟨fun y hy=>h.sub y (by simp[hy]),fun d hd=>by rw[aq.1 hd];exact h.sub x (by simp),fun y hy=>?_,fun y hy hn r Ee=>?_,fun Kt=>h.nd ?_⟩
    . rcases h.pth y hy with q|⟨d,hd,p⟩
      . rcases aW.1 q with q|q
        . exact .inl q
        . rw[aq.1 q];exact .inr ⟨x,by simp,.refl x⟩
      . exact .inr ⟨x,by simp,p.head hd⟩
    . by_cases q:y=x
      . subst q;exact h.roots r Ee
      . exact h.cl y hy (by simp[hn,q]) r Ee
    . rw[List.nodup_append];exact⟨Kt,by simp,fun a ha b hb=>by rw[aq.1 hb];exact fun e=>G (e▸ha)⟩
section
variable{Q F:ae}{k:Nat}
theorem JF(he:∀d∈iV F,Ends Q k d):Spc Q (iV F) [] (qj Q F k):=DX (fun y ks=>Ny k y ks) (iV F) [] he
theorem JG(he:∀d∈iV F,Ends Q k d)(x:L):x∈qj Q F k↔∃d∈iV F,pW Q d x:=by
 have h:=JF he;constructor
 . intro G;rcases h.pth x G with q|q
   . cases q
   . exact q
 . rintro⟨d,hd,p⟩
   induction p with
   |refl=>exact h.roots _ hd
   |step _ hz ih=>exact h.cl _ ih (by simp) _ hz
end
def nmO(n:L):Prop:=∃c:UInt8,n=[c]/\97<=c.toNat/\c.toNat<115
structure nT(s:RS):Prop where
 nd:(s.C.map gq.dg).Nodup
 nm:∀c∈s.C,c.dg=dw c.da c.D/\c.da.length<=60/\c.D.length<=3
 ref:∀(i:Nat) (c:gq),s.C[i]? =some c->∀r∈c.D,∃(j:Nat) (c':gq),j<i/\s.C[j]? =some c'/\c'.dg=r
 Ut:Pg s.ro
 rv:∀p∈s.ro,nmO p.1/\∃c∈s.C,c.dg=p.2
theorem nT.refs{s:RS}(h:nT s){i j:Nat}{c:gq}(I:s.C[j]? =some c):pY (oJ s.C i) c.dg=c.D:=FA (kU h.nd I)
theorem FO{Q:ae}:∀{k:Nat} {x:L},Ends Q k x->Ends Q (k+1) x
 |0,_,h=>h.elim
 |_+1,_,⟨N,B,h3⟩=>⟨N,B,fun r hr=>FO (h3 r hr)⟩
theorem Nz{Q:ae}{k m:Nat}{x:L}(h:Ends Q k x)(W:k<=m):Ends Q m x:=by
 induction m with
 |zero=>obtain rfl:k=0:=by omega
        exact h
 |succ m ih=>
  rcases bK k (m+1)with q|q
  . exact FO (ih K)
  . obtain rfl:k=m+1:=by omega
    exact h
theorem nT.ends{s:RS}(h:nT s):∀(j:Nat) (c:gq),s.C[j]? =some c->Ends (oJ s.C 0) (j+1) c.dg:=by
 intro j
 induction j using Nat.strongRecOn with
 |_ j ih=>
  intro c I;refine⟨⟨_,_,_,kU h.nd I⟩,?_,fun r hr=>?_⟩
  . rw[h.refs I];have:=(h.nm c (bf I)).2.2;omega
  . rw[h.refs I]at hr;obtain⟨i,c',hi,wz,rfl⟩:=h.ref j c I r hr;exact Nz (ih i hi c' wz) K
theorem DY(bs:List Bool)(i m:Nat)(b:Bool):(bs.set i b).getD m false=if m=i/\i<bs.length then b else bs.getD m false:=by
 rw[aM,aM,List.getElem?_set];by_cases h:m=i
 . subst h;by_cases q:m<bs.length
   . rw[aH rfl,aH q,aH ⟨rfl,q⟩];rfl
   . rw[aH rfl,aI q,aI (fun z=>q z.2),bN K]
 . rw[aI (fun z=>h z.symm),aI (fun z=>h z.1)]
theorem nT.NA{s:RS}(h:nT s){i j:Nat}{c c':gq}(hi:s.C[i]? =some c)(hj:s.C[j]? =some c')(e:c.dg=c'.dg):i=j:=by
 have a:=sX h.nd hi;have b:=sX h.nd hj;rw[e,b]at a;exact(Int.ofNat.inj a).symm
theorem Ts{s:RS}(h:nT s){bs:List Bool}(hl:bs.length=s.C.length)(r:L){m:Nat}{c:gq}(W:s.C[m]? =some c):(jL s bs r).getD m false=true↔bs.getD m false=true\/c.dg=r:=by
 unfold jL;rcases AR s.C r with q|⟨j,c',hj,rfl⟩
 . rw[aH ((qw h.nd).2 q)];exact⟨.inl,fun z=>z.elim id fun e=>absurd e (q c (bf W))⟩
 . have Pz:j<s.C.length:=(aG.1 hj).1;rw[aI (by rw[sX h.nd hj];omega),sX h.nd hj,DY];show(if m=j/\j<bs.length then true else bs.getD m false)=true↔_;by_cases q:m=j
   . subst q;rw[W]at hj;cases hj;rw[aH ⟨rfl,K⟩];simp
   . rw[aI (fun z=>q z.1)];exact⟨.inl,fun z=>z.elim id fun e=>absurd (h.NA W hj e) q⟩
theorem Mh(s:RS)(bs:List Bool)(r:L):(jL s bs r).length=bs.length:=by
 unfold jL;split
 . rfl
 . rw[List.length_set]
theorem DZ{s:RS}(h:nT s){m:Nat}{c:gq}(W:s.C[m]? =some c):∀(l:List (L)) (bs:List Bool),bs.length=s.C.length->((l.foldl (jL s) bs).getD m false=true↔bs.getD m false=true\/c.dg∈l)/\(l.foldl (jL s) bs).length=s.C.length
 | [],bs,hl=>⟨by simp,hl⟩
 |r::l,bs,hl=>by
  have ih:=DZ h W l (jL s bs r) (by rw[Mh,hl]);refine⟨?_,ih.2⟩;show(l.foldl (jL s) (jL s bs r)).getD m false=true↔_;rw[ih.1,Ts h hl r W,aF,or_assoc]
def RI(s:RS)(m:Nat):Prop:=∃c,s.C[m]? =some c/\∃p∈s.ro,pW (oJ s.C 0) p.2 c.dg
theorem Tt{s:RS}(h:nT s){d x:L}(p:pW (oJ s.C 0) d x):(∃c∈s.C,c.dg=d)->∃c∈s.C,c.dg=x:=by
 induction p with
 |refl=>exact id
 |step _ hz ih=>
  intro hd;obtain⟨c,I,rfl⟩:=ih hd;obtain⟨j,hj⟩:=bL.1 I;rw[h.refs hj]at hz;obtain⟨i,c',_,wz,e⟩:=h.ref j c hj _ hz;exact⟨c',bf wz,e⟩
theorem D0(ro:List (L×L))(c:gq):EG ro c=true↔∃p∈ro,p.2=c.dg:=by
 unfold EG;rw[List.any_eq_true];constructor
 . rintro⟨p,hp,e⟩;rw[fV]at e;exact⟨p,hp,beq_iff_eq.1 e⟩
 . rintro⟨p,hp,e⟩;exact⟨p,hp,by rw[fV];exact beq_iff_eq.2 e⟩
theorem Hx{s:RS}(h:nT s){m:Nat}{c:gq}(W:s.C[m]? =some c):RI s m↔EG s.ro c=true\/∃(j:Nat) (c':gq),m<j/\s.C[j]? =some c'/\c.dg∈c'.D/\RI s j:=by
 rw[D0];constructor
 . rintro⟨c0,h0,p,hp,q⟩;rw[W]at h0;cases h0;generalize G:c.dg=x at q;cases q with
   |refl=>exact .inl ⟨p,hp,rfl⟩
   |step q hz=>
    subst G;obtain⟨cy,hcy,rfl⟩:=Tt h q (h.rv p hp).2;obtain⟨j,hj⟩:=bL.1 hcy;rw[h.refs hj]at hz;obtain⟨i,c',hi,wz,e⟩:=h.ref j cy hj _ hz;have:=h.NA wz W e;subst this;exact .inr ⟨j,cy,hi,hj,hz,cy,hj,p,hp,q⟩
 . rintro(⟨p,hp,e⟩|⟨j,c',_,hj,hr,c2,B,p,hp,q⟩)
   . exact⟨c,W,p,hp,e▸ .refl _⟩
   . rw[hj]at B;cases B;exact⟨c,W,p,hp,.step q (by rw[h.refs hj];exact hr)⟩
def MkI(s:RS)(i:Nat)(bs:List Bool):Prop:=bs.length=s.C.length/\∀(m:Nat) (c:gq),s.C[m]? =some c->(bs.getD m false=true↔(i<=m/\RI s m)\/(m<i/\∃(j:Nat) (c':gq),i<=j/\s.C[j]? =some c'/\c.dg∈c'.D/\RI s j))
theorem Tu{s:RS}(h:nT s){i:Nat}{bs:List Bool}{c:gq}(I:s.C[i]? =some c)(k:MkI s (i+1) bs):MkI s i (zL s bs i c):=by
 obtain⟨hl,hk⟩:=k;have Qr:i<s.C.length:=(aG.1 I).1;have hI:(k8 s bs i c).getD i false=true↔RI s i:=by
  unfold k8;rw[DY,aH ⟨rfl,K⟩,bU,hk i c I,Hx h I];constructor
  . rintro((⟨a,_⟩|⟨_,j,c',N,B⟩)|b)
    . omega
    . exact .inr ⟨j,c',K,B⟩
    . exact .inl b
  . rintro(a|⟨j,c',N,B⟩)
    . exact .inr a
    . exact .inl (.inr ⟨K,j,c',K,B⟩)
 have hlr:(k8 s bs i c).length=s.C.length:=by unfold k8;rw[List.length_set,hl]
 have hM:∀(m:Nat) (c0:gq),s.C[m]? =some c0->m≠i->((k8 s bs i c).getD m false=true↔bs.getD m false=true):=fun m c0 _ fU=>by
  unfold k8;rw[DY,aI (fun z=>fU z.1)]
 unfold zL;by_cases hr:(k8 s bs i c).getD i false=true
 . rw[aH hr];have hRI:=hI.1 hr;refine⟨(DZ h I c.D _ hlr).2,fun m c0 W=>?_⟩;rw[(DZ h W c.D _ hlr).1];by_cases q:m=i
   . subst q;exact⟨fun _=>.inl ⟨aA _,hRI⟩,fun _=>.inl hr⟩
   . rw[hM m c0 W q,hk m c0 W];constructor
     . rintro((⟨a,b⟩|⟨a,j,c',N,B⟩)|a)
       . exact .inl ⟨K,b⟩
       . exact .inr ⟨K,j,c',K,B⟩
       . obtain⟨j,c',hj,wz,e⟩:=h.ref i c I _ a;have:=h.NA wz W e;exact .inr ⟨K,i,c,aA _,I,a,hRI⟩
     . rintro(⟨a,b⟩|⟨a,j,c',N,B,h3,h4⟩)
       . exact .inl (.inl ⟨K,b⟩)
       . by_cases z:j=i
         . subst z;rw[I]at B;cases B;exact .inr h3
         . exact .inl (.inr ⟨K,j,c',K,B,h3,h4⟩)
 . rw[aI hr];have hRI:¬RI s i:=fun z=>hr (hI.2 z);refine⟨hlr,fun m c0 W=>?_⟩;by_cases q:m=i
   . subst q;exact⟨fun z=>absurd z hr,fun z=>by
      rcases z with⟨_,z⟩|⟨z,_⟩
      . exact absurd z hRI
      . omega⟩
   . rw[hM m c0 W q,hk m c0 W];constructor
     . rintro(⟨a,b⟩|⟨a,j,c',N,B⟩)
       . exact .inl ⟨K,b⟩
       . exact .inr ⟨K,j,c',K,B⟩
     . rintro(⟨a,b⟩|⟨a,j,c',N,B,h3,h4⟩)
       . exact .inl ⟨K,b⟩
       . refine .inr ⟨K,j,c',?_,B,h3,h4⟩;by_cases z:j=i
         . subst z;exact absurd h4 hRI
         . omega
theorem Mi{s:RS}(h:nT s):∀(i:Nat) (bs:List Bool),i<=s.C.length->MkI s i bs->MkI s 0 (S1 s i bs)
 |0,_,_,k=>k
 |i+1,bs,hi,k=>by
  have I:s.C[i]? =some (s.C.getD i ⟨[],[],[]⟩):=by
   rw[aM,ay K];rfl
  exact Mi h i _ K (Tu h I k)
theorem Bx{s:RS}(h:nT s){m:Nat}{c:gq}(W:s.C[m]? =some c):(fD s).getD m false=true↔RI s m:=by
 have k:MkI s s.C.length (List.replicate s.C.length false):=by
  refine⟨bM,fun m c W=>?_⟩;have hl:m<s.C.length:=(aG.1 W).1;rw[aM,List.getElem?_replicate,aH hl];constructor
  . intro q;cases q
  . rintro(⟨a,_⟩|⟨_,j,c',N,B,_⟩)
    . omega
    . have:=(aG.1 B).1;omega
 have:=(Mi h _ _ (aA _) k).2 m c W;rw[show fD s=S1 s s.C.length (List.replicate s.C.length false)from rfl,this];constructor
 . rintro(⟨_,a⟩|⟨a,_⟩)
   . exact a
   . omega
 . intro a;exact .inl ⟨K,a⟩
theorem xB{s:RS}(h:nT s):(fD s).length=s.C.length:=by
 have k:MkI s s.C.length (List.replicate s.C.length false):=by
  refine⟨bM,fun m c W=>?_⟩;have hl:m<s.C.length:=(aG.1 W).1;rw[aM,List.getElem?_replicate,aH hl];constructor
  . intro q;cases q
  . rintro(⟨a,_⟩|⟨_,j,c',N,B,_⟩)
    . omega
    . have:=(aG.1 B).1;omega
 exact(Mi h _ _ (aA _) k).1
def zY(s:RS):jB->RS
 | .chunk d D=>⟨s.C++[⟨dw d D,d,D⟩],s.ro⟩
 | .root n x=>⟨s.C,l5 n x (eJ x []) s.ro⟩
def gM:RS:=⟨[],[]⟩
abbrev fq(l:List jB):RS:=l.foldl zY gM
def Uu(s:RS):jB->Prop
 | .chunk d D=>d.length<=60/\D.length<=3/\(∀r∈D,0<=fk s.C r)/\fk s.C (dw d D)<0
 | .root n x=>nmO n/\(x=[]\/0<=fk s.C x)/\x≠gX n s.ro
section
variable{F:ae}{s:RS}{r:jB}
theorem wf0:nT gM:=⟨List.nodup_nil,fun _ h=>(by cases h),fun _ _ h=>by simp[gM]at h,List.Pairwise.nil,fun _ h=>by cases h⟩
theorem nT.D1(h:nT s){c:gq}(I:c∈s.C):c.dg.length=32:=by rw[(h.nm c I).1];rfl
theorem WV(h:nT s)(a:Uu s r):nT (zY s r):=by
 cases r with
 |chunk d D=>
  obtain⟨a1,a2,a3,a4⟩:=a;have a4:=(qw h.nd).1 a4;refine⟨?_,fun c I=>?_,fun i c I r hr=>?_,h.Ut,fun p hp=>⟨(h.rv p hp).1,?_⟩⟩
  . show((s.C++[(⟨dw d D,d,D⟩:gq)]).map gq.dg).Nodup;rw[aY,List.nodup_append];refine⟨h.nd,cj.2 ⟨by simp,List.nodup_nil⟩,fun x G y hy e=>?_⟩;obtain⟨c,I,rfl⟩:=bA.1 G;rw[List.map_singleton,aq]at hy;exact a4 c I (e.trans hy)
  . have I:c∈s.C++[⟨dw d D,d,D⟩]:=I;rcases aW.1 I with q|q
    . exact h.nm c q
    . obtain rfl:c=⟨dw d D,d,D⟩:=aq.1 q;exact⟨rfl,a1,a2⟩
  . have I:(s.C++[⟨dw d D,d,D⟩])[i]? =some c:=I;show ∃(j:Nat) (c':gq),j<i/\(s.C++[⟨dw d D,d,D⟩])[j]? =some c'/\c'.dg=r;rw[bT]at I;split at I
    . obtain⟨j,c',N,B,h3⟩:=h.ref i c I r hr;exact⟨j,c',N,by rw[bT,aH (aG.1 B).1];exact B,h3⟩
    . rename_i hi;have hcm:c=⟨dw d D,d,D⟩:=by
       have:=bf I;exact aq.1 this
      subst hcm;obtain⟨j,c',B,h3⟩:=(nc h.nd).1 (a3 r hr);have hj:=(aG.1 B).1;exact⟨j,c',K,by rw[bT,aH hj];exact B,h3⟩
  . obtain⟨c,I,e⟩:=(h.rv p hp).2;exact⟨c,cL _ I,e⟩
 |root n x=>
  obtain⟨a1,a2,a3⟩:=a;refine⟨h.nd,h.nm,h.ref,DW h.Ut fun _ _ _=>.inr trivial,fun p hp=>?_⟩;rcases nN.1 hp with⟨q,_⟩|⟨q,rfl⟩
  . exact h.rv p q
  . refine⟨a1,?_⟩;rcases a2 with rfl|a2
    . cases q
    . obtain⟨j,c,hj,e⟩:=(nc h.nd).1 a2;exact⟨c,bf hj,e⟩
theorem Hy(h:nT s)(a:Uu s r):r.ok/\r.bytes.length<=180:=by
 cases r with
 |chunk d D=>
  obtain⟨a1,a2,a3,a4⟩:=a;have h32:∀x∈D,x.length=32:=fun x G=>by
   obtain⟨j,c,hj,e⟩:=(nc h.nd).1 (a3 x G);rw[<- e];exact h.D1 (bf hj)
  refine⟨⟨K,K,h32⟩,?_⟩;have:=Fv d h32;show(gd d D).length<=180;omega
 |root n x=>
  obtain⟨⟨k,rfl,_⟩,a2,a3⟩:=a;have G:x.length<=32:=by
   rcases a2 with rfl|a2
   . simp
   . obtain⟨j,c,hj,e⟩:=(nc h.nd).1 a2;rw[<- e,h.D1 (bf hj)];exact aA _
  have hn:[k].length=1:=rfl;refine⟨⟨K,K⟩,?_⟩;have:=(Ry [k] x).2;show(kZ [k] x).length<=180;omega
theorem uj(hr:Eg F){n:L}:n∈dM F↔∃v,dr (.str n) F=some v:=by
 induction F with
 |nil=>exact⟨fun h=>(by cases h),fun⟨_,h⟩=>by cases h⟩
 |cons e F ih=>
  obtain⟨k,d,rfl⟩:=hr e (by simp);have ih:=ih fun e he=>hr e (by simp[he]);rw[show dM ((.str k,.str d)::F)=k::dM F from rfl,aF,ih,gx];by_cases q:k=n
  . subst q;rw[aH rfl];exact⟨fun _=>⟨_,rfl⟩,fun _=>.inl rfl⟩
  . rw[aI (by intro z;simp only[rs.str.injEq]at z;exact q z)];exact⟨fun z=>z.elim (fun z=>absurd z.symm q) id,.inr⟩
theorem Tv(hr:Eg F)(hn:(dM F).Nodup)(n m:L):dr (.str m) (lT (.str n) F)=if m=n then none else dr (.str m) F:=by
 induction F with
 |nil=>show none=_;split<;>rfl
 |cons e F ih=>
  obtain⟨k,d,rfl⟩:=hr e (by simp);have pV:(k::dM F).Nodup:=hn;rw[cj]at pV;have Ua:Eg F:=fun e he=>hr e (by simp[he]);rw[wP];by_cases q:k=n
  . subst q;rw[aH rfl];by_cases z:m=k
    . subst z;rw[aH rfl];cases h:dr (.str m) F with
      |none=>rfl
      |some v=>exact absurd ((uj Ua).2 ⟨v,h⟩) pV.1
    . rw[aI z,gx,aI (by intro y;simp only[rs.str.injEq]at y;exact z y.symm)]
  . rw[aI (by intro y;simp only[rs.str.injEq]at y;exact q y),gx,ih Ua pV.2];by_cases z:k=m
    . subst z;rw[aH rfl,gx,aH rfl,aI q]
    . have hz:¬(rs.str k,rs.str d).1=rs.str m:=fun y=>z (by cases y;rfl);rw[aI hz,gx,aI hz]
theorem NB(hr:Eg F)(n x:L):Eg (ir (.str n) (.str x) F):=by
 induction F with
 |nil=>intro e he;exact⟨n,x,aq.1 he⟩
 |cons e F ih=>
  have ih:=ih fun e he=>hr e (by simp[he]);rw[wO];split
  . intro a ha;rcases aF.1 ha with rfl|ha
    . exact⟨n,x,rfl⟩
    . exact hr a (by simp[ha])
  . intro a ha;rcases aF.1 ha with rfl|ha
    . exact hr _ (by simp)
    . exact ih a ha
theorem WW(hr:Eg F)(n:L):Eg (lT (.str n) F):=by
 induction F with
 |nil=>exact hr
 |cons e F ih=>
  have ih:=ih fun e he=>hr e (by simp[he]);rw[wP];split
  . exact fun a ha=>hr a (by simp[ha])
  . intro a ha;rcases aF.1 ha with rfl|ha
    . exact hr _ (by simp)
    . exact ih a ha
theorem Tw(hr:Eg F){n:L}{x:L}{m:L}:m∈dM (ir (.str n) (.str x) F)->m=n\/m∈dM F:=by
 intro h;obtain⟨v,hv⟩:=(uj (NB hr n x)).1 h;rw[Dz]at hv;by_cases q:m=n
 . exact .inl q
 . rw[aI q]at hv;exact .inr ((uj hr).2 ⟨v,hv⟩)
theorem aci(hr:Eg F)(hn:(dM F).Nodup)(n x:L):(dM (ir (.str n) (.str x) F)).Nodup:=by
 induction F with
 |nil=>exact cj.2 ⟨by simp,List.nodup_nil⟩
 |cons e F ih=>
  obtain⟨k,d,rfl⟩:=hr e (by simp);have Ua:Eg F:=fun e he=>hr e (by simp[he]);have pV:(k::dM F).Nodup:=hn;rw[cj]at pV;have ih:=ih Ua pV.2;rw[wO];split
  . rename_i q;simp only[rs.str.injEq]at q;subst q;exact cj.2 pV
  . rename_i q;refine cj.2 ⟨fun z=>?_,ih⟩;rcases Tw Ua z with z|z
    . exact q (by show rs.str k=rs.str n;rw[show k=n from z])
    . exact pV.1 z
theorem Tx(hr:Eg F){n m:L}:m∈dM (lT (.str n) F)->m∈dM F:=by
 induction F with
 |nil=>exact id
 |cons e F ih=>
  obtain⟨k,d,rfl⟩:=hr e (by simp);have ih:=ih fun e he=>hr e (by simp[he]);rw[wP];split
  . intro z;exact aK _ z
  . intro z;rcases aF.1 z with z|z
    . rw[z];exact aP ..
    . exact aK _ (ih z)
theorem acj(hr:Eg F)(hn:(dM F).Nodup)(n:L):(dM (lT (.str n) F)).Nodup:=by
 induction F with
 |nil=>exact hn
 |cons e F ih=>
  obtain⟨k,d,rfl⟩:=hr e (by simp);have Ua:Eg F:=fun e he=>hr e (by simp[he]);have pV:(k::dM F).Nodup:=hn;rw[cj]at pV;have ih:=ih Ua pV.2;rw[wP];split
  . exact pV.2
  . exact cj.2 ⟨fun z=>pV.1 (Tx Ua z),ih⟩
end
structure Ej(aa:LS)(s:RS):Prop where
 R:aa.R=(s.C.length:Int)
 Q:aa.Q=oJ s.C 0
 key:Eg aa.F
 knd:(dM aa.F).Nodup
 lk:∀n,dr (.str n) aa.F=if gX n s.ro=[]then none else some (.str (gX n s.ro))
theorem ack:Ej ls0 gM:=⟨rfl,rfl,fun _ h=>(by cases h),List.nodup_nil,fun _=>rfl⟩
theorem Tz{aa:LS}{s:RS}{r:jB}(h:nT s)(hl:s.C.length<=1000000)(g:Ej aa s)(a:Uu s r):Ej (B5 aa r) (zY s r):=by
 obtain⟨R,Q,F⟩:=aa;obtain⟨g1,g2,g3,g4,g5⟩:=g;have g1:R=(s.C.length:Int):=g1;have g2:Q=oJ s.C 0:=g2;subst g1 g2;cases r with
 |chunk d D=>
  obtain⟨a1,a2,a3,a4⟩:=a;refine⟨?_,?_,g3,g4,g5⟩
  . show IntKind.i64.wrap ((s.C.length:Int)+1)=((s.C++[_]).length:Int);rw[fK K K,ax];rfl
  . show ir (.str (dw d D)) (oF d D (s.C.length:Int)) (oJ s.C 0)=oJ (s.C++[⟨dw d D,d,D⟩]) 0;rw[vK _ (qv ((qw h.nd).1 a4)),JB,bE];rfl
 |root n x=>
  obtain⟨a1,a2,a3⟩:=a;show Ej ⟨_,_,if x=[]then lT (.str n) F else ir (.str n) (.str x) F⟩ ⟨s.C,l5 n x (eJ x []) s.ro⟩;by_cases G:x=[]
  . rw[aH G];refine⟨rfl,rfl,WW g3 n,acj g3 g4 n,fun m=>?_⟩;show dr (.str m) (lT (.str n) F)=if gX m (l5 n x (eJ x []) s.ro)=[]then none else some (.str (gX m (l5 n x (eJ x []) s.ro)))
    rw[Tv g3 g4,FN h.Ut];by_cases q:m=n
    . rw[aH q,aH q,aH G]
    . rw[aI q,aI q];exact g5 m
  . rw[aI G];refine⟨rfl,rfl,NB g3 n x,aci g3 g4 n x,fun m=>?_⟩;show dr (.str m) (ir (.str n) (.str x) F)=if gX m (l5 n x (eJ x []) s.ro)=[]then none else some (.str (gX m (l5 n x (eJ x []) s.ro)))
    rw[Dz,FN h.Ut];by_cases q:m=n
    . rw[aH q,aH q,aI G]
    . rw[aI q,aI q];exact g5 m
def NC:RS->List jB->Prop
 |_,[]=>True
 |s,r::l=>Uu s r/\NC (zY s r) l
theorem Cb:∀{a:List jB} {s:RS} {b:List jB},NC s (a++b)↔NC s a/\NC (a.foldl zY s) b
 | [],s,b=>⟨fun h=>⟨trivial,h⟩,fun h=>h.2⟩
 |r::a,s,b=>by
  show Uu s r/\NC (zY s r) (a++b)↔(Uu s r/\NC (zY s r) a)/\_;rw[Cb];exact and_assoc.symm
theorem WX(s:RS)(r:jB):(zY s r).C.length<=s.C.length+1:=by
 cases r with
 |chunk d D=>show(s.C++[_]).length<=_;rw[ax];exact aA _
 |root n x=>exact Nat.le_succ _
theorem Cc:∀{l:List jB} {s:RS} {aa:LS},NC s l->nT s->Ej aa s->s.C.length+l.length<=1000000->nT (l.foldl zY s)/\Ej (l.foldl B5 aa) (l.foldl zY s)/\(l.foldl zY s).C.length<=s.C.length+l.length/\(∀r∈l,r.ok)/\(dc l).length<=180*l.length
 | [],s,aa,_,h,g,_=>⟨h,g,aA _,fun _ h=>(by cases h),aX _⟩
 |r::l,s,aa,v,h,g,hl=>by
  have hb:=WX s r;rw[aS]at hl ⊢;obtain⟨N,B,h3,h4,h5⟩:=Cc (l:=l) (s:=zY s r) (aa:=B5 aa r) v.2 (WV h v.1) (Tz h K g v.1) K;have ok:=Hy h v.1;refine⟨N,B,?_,fun x G=>?_,?_⟩
  . show(l.foldl zY (zY s r)).C.length<=_;omega
  . rcases aF.1 G with rfl|G
    . exact ok.1
    . exact h4 x G
  . have:dc (r::l)=r.bytes++dc l:=rfl;rw[this,ax];omega
theorem Hz{α:Type}[DecidableEq α]:∀{a b:List α},a.Nodup->b.Nodup->(∀x,x∈a↔x∈b)->List.Perm a b
 | [],b,_,_,h=>by
   cases b with
   |nil=>exact .nil
   |cons y b=>exact absurd ((h y).2 (by simp)) (by simp)
 |x::a,b,ha,hb,h=>by
  have G:x∈b:=(h x).1 (by simp);rw[cj]at ha;refine(List.Perm.cons x (Hz ha.2 (hb.erase x) fun y=>?_)).trans (List.perm_cons_erase G).symm;rw[hb.mem_erase_iff];constructor
  . intro hy;exact⟨fun e=>ha.1 (e▸hy),(h y).1 (by simp[hy])⟩
  . rintro⟨N,B⟩;rcases aF.1 ((h y).2 B)with q|q
    . exact absurd q N
    . exact q
section
variable{aa:LS}{F:ae}{s:RS}
theorem nT.wX(h:nT s){p:L×L}(hp:p∈s.ro):p.2≠[]:=fun e=>by
 obtain⟨c,I,q⟩:=(h.rv p hp).2;have:=h.D1 I;rw[q,e]at this;cases this
theorem um(h:nT s){p:L×L}(hp:p∈s.ro):gX p.1 s.ro=p.2:=wW h.Ut hp
theorem TA(h:nT s)(g:Ej aa s)(n:L):n∈dM aa.F↔n∈s.ro.map Prod.fst:=by
 rw[uj g.key,g.lk n];constructor
 . rintro⟨v,hv⟩;split at hv
   . cases hv
   . rename_i fU;rcases rR n s.ro with⟨q,_⟩|q
     . exact absurd q fU
     . exact bA.2 ⟨_,q,rfl⟩
 . intro hn;obtain⟨p,hp,rfl⟩:=bA.1 hn;rw[um h hp,aI (h.wX hp)];exact⟨_,rfl⟩
theorem acm{l:List (L×L)}(h:Pg l):(l.map Prod.fst).Nodup:=List.Pairwise.imp (fun {a b} (q:a<b)=>fun(e:a=b)=>wV b (by rw[e]at q;exact q)) h
theorem JH(h:nT s)(g:Ej aa s):List.Perm (dM aa.F) (s.ro.map Prod.fst):=Hz g.knd (acm h.Ut) (TA h g)
theorem vS(h:nT s)(g:Ej aa s):iz (dM aa.F)=s.ro.map Prod.fst:=
 List.Perm.eq_of_pairwise (le:=(. <=·)) (fun _ _ _ _ h k=>Jk h k) (yf _) (h.Ut.imp fun q=>List.le_of_lt q) ((ud _).trans (JH h g))
theorem sY(h:nT s)(g:Ej aa s):aa.F.length=s.ro.length:=by
 have:=(JH h g).length_eq;rw[aT]at this;rw[<- this];unfold dM;rw[aT]
theorem CY(hr:Eg F)(hn:(dM F).Nodup){n d:L}(h:(rs.str n,rs.str d)∈F):dr (.str n) F=some (.str d):=by
 induction F with
 |nil=>cases h
 |cons e F ih=>
  obtain⟨k,v,rfl⟩:=hr e (by simp);have pV:(k::dM F).Nodup:=hn;rw[cj]at pV;rw[gx];rcases aF.1 h with q|q
  . simp only[aB,rs.str.injEq]at q;rw[aH (by rw[q.1]),q.2]
  . rw[aI fun z=>pV.1 ?_]
    . exact ih (fun e he=>hr e (by simp[he])) pV.2 q
    . have z:rs.str k=rs.str n:=z;simp only[rs.str.injEq]at z;rw[z];exact bA.2 ⟨_,q,rfl⟩
theorem Ph(hr:Eg F){n:L}{v:rs}(h:dr (.str n) F=some v):∃d,v= .str d/\(rs.str n,rs.str d)∈F:=by
 induction F with
 |nil=>cases h
 |cons e F ih=>
  obtain⟨k,d,rfl⟩:=hr e (by simp);rw[gx]at h;split at h
  . rename_i q;have q:rs.str k=rs.str n:=q;simp only[rs.str.injEq]at q;simp only[an]at h;subst q;subst h;exact⟨d,rfl,by simp⟩
  . obtain⟨d',N,B⟩:=ih (fun e he=>hr e (by simp[he])) h;exact⟨d',N,by simp[B]⟩
theorem vT(h:nT s)(g:Ej aa s)(d:L):d∈iV aa.F↔∃p∈s.ro,p.2=d:=by
 constructor
 . intro hd;obtain⟨e,he,q⟩:=bA.1 hd;obtain⟨n,x,rfl⟩:=g.key e he;have q:x=d:=q;subst q;have hl:=CY g.key g.knd he;rw[g.lk n]at hl;split at hl
   . cases hl
   . rename_i fU;simp only[an,rs.str.injEq]at hl;rcases rR n s.ro with⟨q,_⟩|q
     . exact absurd q fU
     . exact⟨_,q,hl⟩
 . rintro⟨p,hp,rfl⟩;have hl:=g.lk p.1;rw[um h hp,aI (h.wX hp)]at hl;obtain⟨d,N,B⟩:=Ph g.key hl;simp only[rs.str.injEq]at N;rw[N];exact bA.2 ⟨_,B,rfl⟩
theorem vU(h:nT s)(g:Ej aa s):∀d∈iV aa.F,Ends aa.Q (s.C.length+1) d:=fun d hd=>by
 obtain⟨p,hp,rfl⟩:=(vT h g d).1 hd;obtain⟨c,I,e⟩:=(h.rv p hp).2;obtain⟨j,hj⟩:=bL.1 I;rw[<- e,g.Q];exact Nz (h.ends j c hj) (by have:=(aG.1 hj).1;omega)
theorem TB(h:nT s)(g:Ej aa s){m:Nat}{c:gq}(W:s.C[m]? =some c):(fD s).getD m false=decide (c.dg∈qj aa.Q aa.F (s.C.length+1)):=by
 have hi:(fD s).getD m false=true↔c.dg∈qj aa.Q aa.F (s.C.length+1):=by
  rw[Bx h W,JG (vU h g),g.Q];constructor
  . rintro⟨c',N,p,hp,q⟩;rw[W]at N;cases N;exact⟨p.2,(vT h g _).2 ⟨p,hp,rfl⟩,q⟩
  . rintro⟨d,hd,q⟩;obtain⟨p,hp,rfl⟩:=(vT h g d).1 hd;exact⟨c,W,p,hp,q⟩
 by_cases q:c.dg∈qj aa.Q aa.F (s.C.length+1)
 . rw[bQ q,hi.2 q]
 . rw[bC q];cases z:(fD s).getD m false with
   |false=>rfl
   |true=>exact absurd (hi.1 z) q
end
theorem s7:∀(C:List gq) (bs:List Bool) (i:Nat) (c:gq),(lu C bs)[i]? =some c->∃m,C[m]? =some c/\bs[m]? =some true/\∀(j:Nat) (c':gq),j<m->C[j]? =some c'->bs[j]? =some true->∃i',i'<i/\(lu C bs)[i']? =some c'
 | [],_,i,c,h=>by simp[lu]at h
 |_::_,[],i,c,h=>by simp[lu]at h
 |a::C,b::bs,i,c,h=>by
  unfold lu at h ⊢;cases b with
  |true=>
   rw[aH rfl]at h ⊢;cases i with
   |zero=>
    simp only[bI,an]at h;exact⟨0,by simp[h],rfl,fun j c' hj=>absurd hj (Nat.not_lt_zero j)⟩
   |succ i=>
    simp only[cB]at h;obtain⟨m,N,B,h3⟩:=s7 C bs i c h;refine⟨m+1,by simpa using N,by simpa using B,fun j c' hj I hb=>?_⟩;cases j with
    |zero=>
     simp only[bI,an]at I;exact⟨0,K,by simp[I]⟩
    |succ j=>
     obtain⟨i',k1,k2⟩:=h3 j c' K (by simpa using I) (by simpa using hb);exact⟨i'+1,K,by simpa using k2⟩
  |false=>
   rw[aI dU]at h ⊢;obtain⟨m,N,B,h3⟩:=s7 C bs i c h;refine⟨m+1,by simpa using N,by simpa using B,fun j c' hj I hb=>?_⟩;cases j with
   |zero=>simp at hb
   |succ j=>exact h3 j c' K (by simpa using I) (by simpa using hb)
theorem AS:∀{C:List gq} {bs:List Bool} {m:Nat} {c:gq},C[m]? =some c->bs[m]? =some true->c∈lu C bs
 | [],_,_,_,h,_=>by simp at h
 |_::_,[],_,_,_,h=>by simp at h
 |a::C,b::bs,0,c,N,B=>by
  simp only[bI,an]at N B;subst N B;unfold lu;rw[aH rfl];simp
 |a::C,b::bs,m+1,c,N,B=>by
  simp only[cB]at N B;have:=AS N B;unfold lu;split
  . simp[this]
  . exact this
theorem qx:∀(C:List gq) (bs:List Bool),List.Sublist (lu C bs) C
 | [],_=>by unfold lu;exact List.Sublist.refl _
 |_::_,[]=>by unfold lu;exact List.nil_sublist _
 |a::C,b::bs=>by
  unfold lu;split
  . exact(qx C bs).cons_cons a
  . exact(qx C bs).cons a
theorem kept{s:RS}(h:nT s){m:Nat}{c:gq}(W:s.C[m]? =some c):(fD s)[m]? =some true↔RI s m:=by
 rw[<- Bx h W,aM];cases(fD s)[m]? with
 |none=>simp
 |some b=>simp
theorem ND{s:RS}(h:nT s):nT (iX s):=by
 have nB:List.Sublist (iX s).C s.C:=qx _ _;refine⟨h.nd.sublist (nB.map _),fun c I=>h.nm c (nB.subset I),fun i c I r hr=>?_,h.Ut,fun p hp=>⟨(h.rv p hp).1,?_⟩⟩
 . obtain⟨m,N,B,h3⟩:=s7 s.C (fD s) i c I;obtain⟨j,c',hj,wz,rfl⟩:=h.ref m c N r hr;have W:=(kept h N).1 B;have hjr:RI s j:=(Hx h wz).2 (.inr ⟨m,c,hj,N,hr,W⟩);obtain⟨i',k1,k2⟩:=h3 j c' hj wz ((kept h wz).2 hjr);exact⟨i',c',k1,k2,rfl⟩
 . obtain⟨c,I,e⟩:=(h.rv p hp).2;obtain⟨j,hj⟩:=bL.1 I;exact⟨c,AS hj ((kept h hj).2 ((Hx h hj).2 (.inl ((D0 _ _).2 ⟨p,hp,e.symm⟩)))),e⟩
def mj(t:RS):List jB:=t.C.map (fun c=>.chunk c.da c.D)++t.ro.map fun p=>.root p.1 p.2
theorem JI{n x:L}:∀{l:List (L×L)},(∀p∈l,p.1<n)->l5 n x false l=l++[(n,x)]
 | [],_=>rfl
 |p::l,h=>by
  have hp:=h p (by simp);have hl:yx n p.1=false:=by
   cases q:yx n p.1 with
   |false=>rfl
   |true=>exact absurd (FM hp (Ca.2 q)) (wV _)
  have fU:¬p.1=n:=fun e=>wV n (by rw[e]at hp;exact hp);unfold l5;rw[hl,aI (by simp),aI fU,Bool.or_false,JI fun q hq=>h q (by simp[hq])];rfl
theorem D2{t:RS}(h:nT t):∀(post pre:List gq),t.C=pre++post->NC ⟨pre,[]⟩ (post.map fun c=>.chunk c.da c.D)/\(post.map fun c=>jB.chunk c.da c.D).foldl zY ⟨pre,[]⟩=⟨t.C,[]⟩
 | [],pre,e=>⟨trivial,by rw[e,cA];rfl⟩
 |c::post,pre,e=>by
  have I:t.C[pre.length]? =some c:=by rw[e,cm (aA _),Nat.sub_self];rfl
  obtain⟨Eb,xK,KE⟩:=h.nm c (bf I);have Kt:(pre.map gq.dg).Nodup:=by
   have:=h.nd;rw[e,aY]at this;exact(List.nodup_append.1 this).1
  have step:zY ⟨pre,[]⟩ (.chunk c.da c.D)=⟨pre++[c],[]⟩:=by
   show RS.mk (pre++[⟨dw c.da c.D,c.da,c.D⟩]) []=_;rw[<- Eb]
  have ih:=D2 h post (pre++[c]) (by rw[e,bB];rfl);rw[<- step]at ih;refine⟨⟨⟨xK,KE,fun r hr=>?_,?_⟩,ih.1⟩,ih.2⟩
  . obtain⟨j,c',hj,wz,q⟩:=h.ref _ c I r hr;rw[e,bT,aH hj]at wz;exact(nc Kt).2 ⟨j,c',wz,q⟩
  . refine(qw Kt).2 fun c' wz q=>?_;rw[<- Eb]at q;obtain⟨j,hj⟩:=bL.1 wz;have Pz:=(aG.1 hj).1;have:t.C[j]? =some c':=by rw[e,bT,aH Pz];exact hj
    have:=h.NA this I q;omega
theorem FP{t:RS}(h:nT t):∀(post pre:List (L×L)),t.ro=pre++post->NC ⟨t.C,pre⟩ (post.map fun p=>.root p.1 p.2)/\(post.map fun p=>jB.root p.1 p.2).foldl zY ⟨t.C,pre⟩=t
 | [],pre,e=>⟨trivial,by show RS.mk t.C pre=t;rw[cA]at e;rw[<- e]⟩
 |p::post,pre,e=>by
  have hp:p∈t.ro:=by rw[e];simp
  have fI:∀q∈pre,q.1<p.1:=fun q hq=>by
   have:=h.Ut;unfold Pg at this;rw[e,aY,bY,List.pairwise_append]at this;exact this.2.2 _ (bA.2 ⟨q,hq,rfl⟩) _ (by simp)
  have fU:=h.wX hp;have hb:eJ p.2 []=false:=by rw[fV];exact beq_eq_false_iff_ne.2 fU
  have step:zY ⟨t.C,pre⟩ (.root p.1 p.2)=⟨t.C,pre++[p]⟩:=by
   show RS.mk t.C (l5 p.1 p.2 (eJ p.2 []) pre)=_;rw[hb,JI fI]
  have ih:=FP h post (pre++[p]) (by rw[e,bB];rfl);rw[<- step]at ih;refine⟨⟨⟨(h.rv p hp).1,.inr ?_,?_⟩,ih.1⟩,ih.2⟩
  . obtain⟨c,I,q⟩:=(h.rv p hp).2;obtain⟨j,hj⟩:=bL.1 I;exact(nc h.nd).2 ⟨j,c,hj,q⟩
  . show p.2≠gX p.1 pre;rw[zR fun q hq z=>wV p.1 (by have:=fI q hq;rw[z]at this;exact this)];exact fU
theorem acn{t:RS}(h:nT t):NC gM (mj t)/\fq (mj t)=t:=by
 obtain⟨a1,a2⟩:=D2 h t.C [] rfl;obtain⟨b1,b2⟩:=FP h t.ro [] rfl;unfold mj;refine⟨Cb.2 ⟨a1,?_⟩,?_⟩
 . show NC (List.foldl zY ⟨[],[]⟩ _) _;rw[a2];exact b1
 . show List.foldl zY ⟨[],[]⟩ _=t;rw[List.foldl_append,a2];exact b2
theorem TC(s:L)(a:Nat):∀(m i:Nat) (u:Int),(∀j,i<=j->j<i+m->128<=(s.getD (a+j) 0).toNat)->OS s a m i u=none
 |0,_,_,_=>rfl
 |m+1,i,u,h=>by
  unfold OS;rw[aH (h i (aA _) K)];exact TC s a m (i+1) _ fun j N B=>h j K K
theorem NF:∀(k u j:Nat),u<128^(k+1)->j+1<(oD k (u:Int)).length->128<=((eT (oD k (u:Int))).getD j 0).toNat
 |0,u,j,_,hj=>by simp[oD]at hj
 |k+1,u,j,hu,hj=>by
  unfold oD at hj ⊢;by_cases h:(128:Int)<=(u:Int)
  . rw[aH h]at hj ⊢;rw[DB]at hj ⊢;cases j with
    |zero=>
     show 128<=(UInt8.ofNat (Uk (u:Int)).toNat).toNat;rw[M1,u8I K];omega
    |succ j=>
     have hu2:u/128<128^(k+1):=by
      rw[Nat.pow_succ]at hu;exact Nat.div_lt_of_lt_mul (by rw[Nat.mul_comm];exact hu)
     have:=NF k (u/128) j hu2 (by rw[aS]at hj;omega);exact this
  . rw[aI h]at hj;simp at hj
theorem JJ{s:L}{a:Nat}{n:Int}(h:((s.length-a:Nat):Int)<n):rj s a false n=([],a,true):=by
 unfold rj;rw[aH (.inr (.inr h))]
theorem JK(s:L)(a:Nat)(n:Int):rj s a true n=([],a,true):=by
 unfold rj;rw[aH (.inl rfl)]
theorem JL(s:L)(a k:Nat):(yu s a true k).2.2=true:=by
 unfold yu;rw[JK]
theorem TD{lg:L}{a:Nat}{t x y:L}(ht:t.length<34359738368)(G:lg.drop a=x)(hy:y≠[])(hp:nI t=x++y)(ha:a<=lg.length):Stop lg a:=by
 have iQ:lg.length-a=x.length:=by rw[<- G,bV]
 have hyl:0<y.length:=List.length_pos_iff.2 hy;have QT:=aN List.length hp;have hv:=mE (Int.ofNat t.length);have hvl:(jw (Int.ofNat t.length)).length=(oD 4 (t.length:Int)).length:=ve _;have yp:nI t=jw (Int.ofNat t.length)++(t++dX (IntKind.i64.wrap (qX t))):=by unfold nI jz;rw[bB]
 have h4:(dX (IntKind.i64.wrap (qX t))).length=4:=rfl;rw[yp,ax,ax,ax,h4]at QT;rw[yp]at hp;have hxp:x=(jw (Int.ofNat t.length)++(t++dX (IntKind.i64.wrap (qX t)))).take x.length:=by rw[hp,bZ (aA _),aU]
 refine .inr (.inl ?_);by_cases c1:x.length<(jw (Int.ofNat t.length)).length
 ·
  have hr:xy lg a=none:=by
   unfold xy;refine TC lg a _ 0 0 fun j _ hj=>?_;have hj:j<x.length:=by unfold xx at hj;omega
   have e1:lg.getD (a+j) 0=(eT (oD 4 (t.length:Int))).getD j 0:=by
    rw[aM,<- bJ,G,hxp,bP,aH hj,bT,aH K,aM];rfl
   rw[e1];exact NF 4 t.length j K K
  have e2:iL lg a false=(0,a,true):=by unfold iL PG;rw[hr];rfl
  have e3:iB lg a false=([],a,true):=by unfold iB;rw[e2];simp only[JK];rfl
  rw[e3];exact JL _ _ _
 ·
  obtain⟨z,hz⟩:∃z,x=jw (Int.ofNat t.length)++z:=by
   refine⟨(t++dX (IntKind.i64.wrap (qX t))).take (x.length-(jw (Int.ofNat t.length)).length),?_⟩;rw[List.take_append]at hxp;rw[bq K]at hxp;exact hxp
  have hd:lg.drop a=jw (Int.ofNat t.length)++z:=by rw[G,hz]
  have e1:=G9 ht hd;have e2:iL lg a false=((t.length:Int),a+(jw (Int.ofNat t.length)).length,false):=by unfold iL;rw[aI dU];exact e1
  have Ud:x.length=(jw (Int.ofNat t.length)).length+z.length:=by rw[hz,ax]
  have vp:lg.length-(a+(jw (Int.ofNat t.length)).length)=z.length:=by omega
  by_cases c2:z.length<t.length
  . have e3:iB lg a false=([],a,true):=by
     unfold iB;rw[e2];simp only[JJ (s:=lg) (a:=a+(jw (Int.ofNat t.length)).length) (n:=(t.length:Int)) (by rw[vp];omega)];rfl
    rw[e3];exact JL _ _ _
  . obtain⟨u,hu⟩:∃u,z=t++u:=by
     have:z++y=t++dX (IntKind.i64.wrap (qX t)):=by
      rw[hz,bB]at hp;exact(List.append_cancel_left hp).symm
     refine⟨z.drop t.length,?_⟩;have N:=aN (List.take t.length) this;rw[bZ K,bZ (aA _),aU]at N
     conv=>lhs;rw[<- cn t.length z,N]
    have Gt:lg.drop a=jz t++u:=by unfold jz;rw[hd,hu,bB]
    have e3:=zA ht Gt;rw[e3];have htl:(jz t).length=(jw (Int.ofNat t.length)).length+t.length:=by unfold jz;rw[ax]
    have ER:z.length=t.length+u.length:=by rw[hu,ax]
    show(yu lg (a+(jz t).length) false 4).2.2=true;unfold yu;rw[JJ (by rw[show(Int.ofNat 4:Int)=((4:Nat):Int)from rfl];omega)]
theorem kE(r:jB)(l:List jB):dc (r::l)=r.bytes++dc l:=rfl
theorem JM:∀(cV:List jB) (cut:Nat),cut<=(dc cV).length->∃(j:Nat) (x:L),j<=cV.length/\(dc cV).take cut=dc (cV.take j)++x/\
  (x=[]\/∃r∈cV,∃y,y≠[]/\r.bytes=x++y)/\(∀i,i<=cV.length->(dc (cV.take i)).length<=cut->i<=j)/\(dc (cV.take j)).length<=cut
 | [],cut,_=>⟨0,[],aA _,by simp[dc],.inl rfl,fun i hi _=>hi,aX _⟩
 |r::cV,cut,h=>by
  rw[kE,ax]at h;by_cases c:r.bytes.length<=cut
  . obtain⟨j,x,N,B,h3,h4,h5⟩:=JM cV (cut-r.bytes.length) K;refine⟨j+1,x,by rw[aS];omega,?_,?_,fun i hi hb=>?_,?_⟩
    . rw[kE,List.take_succ_cons,kE,List.take_append,bq c,B,bB]
    . rcases h3 with h3|⟨q,hq,y,hy⟩
      . exact .inl h3
      . exact .inr ⟨q,by simp[hq],y,hy⟩
    . cases i with
      |zero=>exact aX _
      |succ i=>
       rw[List.take_succ_cons,kE,ax]at hb;have:=h4 i (by rw[aS]at hi;omega) K;omega
    . rw[List.take_succ_cons,kE,ax];omega
  . refine⟨0,r.bytes.take cut,aX _,?_,.inr ⟨r,by simp,r.bytes.drop cut,?_,(cn _ _).symm⟩,fun i hi hb=>?_,aX _⟩
    . rw[kE,bZ K];rfl
    . intro e;have:=aN List.length e;rw[bV]at this;simp at this;omega
    . cases i with
      |zero=>exact aA _
      |succ i=>rw[List.take_succ_cons,kE,ax]at hb;omega
theorem TE{cV:List jB}(iy:∀r∈cV,r.ok){cut:Nat}(h:cut<=(dc cV).length):∃(j:Nat) (x:L),j<=cV.length/\(dc cV).take cut=dc (cV.take j)++x/\
  Stop ((dc cV).take cut) (dc (cV.take j)).length/\(∀i,i<=cV.length->(dc (cV.take i)).length<=cut->i<=j)/\(dc (cV.take j)).length<=cut:=by
 obtain⟨j,x,N,B,h3,h4,h5⟩:=JM cV cut h;refine⟨j,x,N,B,?_,h4,h5⟩;have hd:((dc cV).take cut).drop (dc (cV.take j)).length=x:=by rw[B,List.drop_left'];rfl
 rcases h3 with rfl|⟨r,hr,y,hy,hb⟩
 . left;rw[B,cA]
 . refine TD (t:=r.body) (by have:=jB.DD (iy r hr);omega) hd hy hb ?_;rw[B,ax];omega
theorem vV(cV:List jB):∀{i j:Nat},i<=j->(dc (cV.take i)).length<=(dc (cV.take j)).length:=fun {i j} h=>by
 have:cV.take i=(cV.take j).take i:=by rw[List.take_take,Nat.min_eq_left h]
 rw[this];exact AK i
noncomputable abbrev WY:Code:=dN Tryz.f31
section
variable(T A:Nat)(b:L)(X R O:Int)(Q F:ae)(o:af)
def lQx:af:=eK (pS T A b X R O Q F)++o
def TF(m:Nat)(e1 r1:ae):af:=[(0,.ints .u32 gS),(1,.ints .u32 gR),(3,.cells [.dj (some (4,0)) T A 1,.int .i64 X,.map (some m),.map (some (m+1)),.int .i64 R,.bool false,.bool false,.int .i64 O]),(4,.jf 5 false b),(5,.dI none Q),(6,.dI none F)]++o++[(m,.dI none e1),(m+1,.dI none r1)]
def WZ(X R O:Int):af:=eK (pN X R O [] [])++o
def Pj(m:Nat)(O:Int):af:=[(0,.ints .u32 gS),(1,.ints .u32 gR),(3,.cells [eM,.int .i64 0,.map (some m),.map (some (m+1)),.int .i64 0,.bool false,.bool false,.int .i64 O]),(5,.dI none []),(6,.dI none [])]++o++[(m,.dI none []),(m+1,.dI none [])]
end
theorem ap4(T A cut:Nat)(b:L)(X R O:Int)(Q F:ae)(kk:Int)(t0 c2:Nat)(Jl:Int)(e1 r1:ae):vJ ak (fG fN 57 [P3] (J (lQx cut A b X R O Q F [(7,.cells [.int .i64 kk])])) 35 (.ew [],J (TF c2 A b (Int.ofNat c2) Jl O Q F [(7,.cells [.int .i64 kk])] 35 e1 r1),37)) [(13,.di (iW t0)),(36,.di (iW cut))] 1000 8 Tryz.f31 (WY) (cU [P3,.dj (some (7,0)) 1 1 1] (J (lQx T A b X R O Q F [(7,.cells [.int .i64 kk])])) 8)
  [([],
   [((0:Int)<=(0:Int)/\(0:Int)<(1:Int)),(V.int aj (IntKind.i64.wrap (Int.ofNat (BitVec.ofInt 64 kk&&&BitVec.ofInt 64 (255:Int)).toNat))=iW t0),((255:Int)≠(0:Int)),(V.int aj (IntKind.i64.wrap (X+IntKind.i64.wrap ((IntKind.i64.wrap (IntKind.i64.wrap ((Int.ofNat T)-X)*Int.ofNat t0)).tdiv (255:Int))))=iW cut),((0:Int)<=Int.ofNat cut/\Int.ofNat cut<=(Int.ofNat A)),(([.ptr (some (3,0))]:ag)=[.ptr (some (3,0))]/\(J (eK (pS (cut-0) (A-0) b X R O Q F)++[(7,.cells [.int .i64 kk])]))=(J (eK (pS cut A b X R O Q F)++[(7,.cells [.int .i64 kk])]))/\35=35)],
   .ret (.ew []) (J [(0,.ints .u32 gS),(1,.ints .u32 gR),(3,.cells [.dj (some (4,0)) c2 A 1,.int .i64 (Int.ofNat c2),.map (some 8),.map (some 9),.int .i64 Jl,.bool false,.bool false,.int .i64 O]),(4,.jf 5 false b),(5,.dI none Q),(6,.dI none F),(7,.cells [.int .i64 kk]),(8,.dI none e1),(9,.dI none r1)]) 10)]
 :=⟨U,U,U⟩
theorem ap5(X R O:Int)(kk:Int)(t0:Nat):vJ ak (fG fN 57 [P3] (J (WZ [(7,.cells [.int .i64 kk])] X R O)) 35 (.ew [],J (Pj [(7,.cells [.int .i64 kk])] 35 O),37)) [(13,.di (iW t0)),(36,.di (iW 0))] 1000 8 Tryz.f31 (WY) (cU [P3,.dj (some (7,0)) 1 1 1] (J (WZ [(7,.cells [.int .i64 kk])] X R O)) 8)
  [([],
   [((0:Int)<=(0:Int)/\(0:Int)<(1:Int)),(V.int aj (IntKind.i64.wrap (Int.ofNat (BitVec.ofInt 64 kk&&&BitVec.ofInt 64 (255:Int)).toNat))=iW t0),((255:Int)≠(0:Int)),(V.int aj (IntKind.i64.wrap ((pN X R O [] []).X+IntKind.i64.wrap ((IntKind.i64.wrap (IntKind.i64.wrap ((0:Int)-(pN X R O [] []).X)*Int.ofNat t0)).tdiv (255:Int))))=iW 0),((0:Int)<=(0:Int)/\(0:Int)<=(0:Int)),fC [.ptr (some (3,0))] (J [(0,.ints .u32 gS),(1,.ints .u32 gR),(3,.cells [.dj none 0 0 0,.int .i64 ((pN X R O [] []).X),.map (some 5),.map (some 6),.int .i64 ((pN X R O [] []).R),.bool false,.bool false,.int .i64 ((pN X R O [] []).O)]),(5,.dI none []),(6,.dI none []),(7,.cells [.int .i64 kk])]) 35],
   .ret (.ew []) (J [(0,.ints .u32 gS),(1,.ints .u32 gR),(3,.cells [.dj none 0 0 0,.int .i64 0,.map (some 8),.map (some 9),.int .i64 0,.bool false,.bool false,.int .i64 O]),(5,.dI none []),(6,.dI none []),(7,.cells [.int .i64 kk]),(8,.dI none []),(9,.dI none [])]) 10)]
 :=⟨U,U,U⟩
section
variable(X R O:Int)(Q:ae)
def lKN:af:=eK (pN X R O Q [])++[(7,.cells [.map (some 6)])]
def ap6:af:=[(0,.ints .u32 gS),(1,.ints .u32 gR),(3,.cells (vI 4 5 6 (pN X R O Q []))),(5,.dI none Q),(7,.cells [.map (some 6)])]
def aco:St:=eG [(2,.ptr (some (8,0))),(6,w88)] (J (lKN X R O Q++[(8,.cells [.dj none 0 0 0])])) 9
noncomputable def ahz:lf:=.loop true none (aco X R O Q).S [7] Vu Vv
noncomputable def hKN:H lf:=J (lKN X R O Q++[(8,.cells [eM]),(9,.mF),(10,ahz X R O Q)])
noncomputable def SKN:St:=eG [(0,.fn (.yield 10) [] []),(5,.ptr (some (11,0)))] (J (ap6 X R O Q++[(8,.cells [eM]),(9,.mF),(10,ahz X R O Q)])) 12
def yo:H lf:=J (lKN X R O Q)
end
section
variable(X R O:Int)(Q:ae)
theorem ap7:c9 (kS []) [] 8 Tryz.f113 [1,2] (eV 1 RT) (cU [eM,w88] (yo X R O Q) 8) [([],
   [],
   .to .normal (eG [(1,.fn (.func 88) [] [.ptr (some (7,0))]),(2,.ptr (some (8,0)))] (J [(0,.ints .u32 gS),(1,.ints .u32 gR),(3,.cells [.dj none 0 0 0,.int .i64 ((pN X R O Q []).X),.map (some 5),.map (some 6),.int .i64 ((pN X R O Q []).R),.bool false,.bool false,.int .i64 ((pN X R O Q []).O)]),(5,.dI none ((pN X R O Q []).Q)),(6,.dI none []),(7,.cells [.map (some 6)]),(8,.cells [.dj none 0 0 0])]) 9))]
 :=cR.of U U U
theorem ap8:c9 (kS []) [] 8 Tryz.f113 [2,6] (dP (dP AJ)) (eG [(1,w88),(2,P 8)] (J (lKN X R O Q++[(8,.cells [eM])])) 9) [([],
   [],
   .to .normal (eG [(2,.ptr (some (8,0))),(6,.fn (.func 88) [] [.ptr (some (7,0))])] (J [(0,.ints .u32 gS),(1,.ints .u32 gR),(3,.cells [.dj none 0 0 0,.int .i64 ((pN X R O Q []).X),.map (some 5),.map (some 6),.int .i64 ((pN X R O Q []).R),.bool false,.bool false,.int .i64 ((pN X R O Q []).O)]),(5,.dI none ((pN X R O Q []).Q)),(6,.dI none []),(7,.cells [.map (some 6)]),(8,.cells [.dj none 0 0 0])]) 9))]
 :=cR.of U U U
theorem ap9:c9 (kS []) [] 8 Tryz.f113 [] (dY AJ) (tT (aco X R O Q) (hKN X R O Q) 11) [([],
   [],
   .ret (.dj none 0 0 0) (J [(0,.ints .u32 gS),(1,.ints .u32 gR),(3,.cells [.dj none 0 0 0,.int .i64 ((pN X R O Q []).X),.map (some 5),.map (some 6),.int .i64 ((pN X R O Q []).R),.bool false,.bool false,.int .i64 ((pN X R O Q []).O)]),(5,.dI none ((pN X R O Q []).Q)),(6,.dI none []),(7,.cells [.map (some 6)])]) 8)]
 :=cR.of U U U
theorem aqa:c9 (fG (kS []) 113 [eM,w88] (yo X R O Q) 8 (eM,yo X R O Q,8)) [] 8 Tryz.f86 [] (EB) (cU [w88] (yo X R O Q) 8) [([],
   [fC [.dj none 0 0 0,.fn (.func 88) [] [.ptr (some (7,0))]] (J [(0,.ints .u32 gS),(1,.ints .u32 gR),(3,.cells [.dj none 0 0 0,.int .i64 ((pN X R O Q []).X),.map (some 5),.map (some 6),.int .i64 ((pN X R O Q []).R),.bool false,.bool false,.int .i64 ((pN X R O Q []).O)]),(5,.dI none ((pN X R O Q []).Q)),(6,.dI none []),(7,.cells [.map (some 6)])]) 8],
   .ret (.dj none 0 0 0) (J [(0,.ints .u32 gS),(1,.ints .u32 gR),(3,.cells [.dj none 0 0 0,.int .i64 ((pN X R O Q []).X),.map (some 5),.map (some 6),.int .i64 ((pN X R O Q []).R),.bool false,.bool false,.int .i64 ((pN X R O Q []).O)]),(5,.dI none ((pN X R O Q []).Q)),(6,.dI none []),(7,.cells [.map (some 6)])]) 8)]
 :=cR.of U U U
theorem aqb:c9 (fG (kS []) 86 [w88] (yo X R O Q) 8 (eM,yo X R O Q,8)) [] 8 Tryz.f61 [] (EA) (cU [w88] (yo X R O Q) 8) [([],
   [fC [.fn (.func 88) [] [.ptr (some (7,0))]] (J [(0,.ints .u32 gS),(1,.ints .u32 gR),(3,.cells [.dj none 0 0 0,.int .i64 ((pN X R O Q []).X),.map (some 5),.map (some 6),.int .i64 ((pN X R O Q []).R),.bool false,.bool false,.int .i64 ((pN X R O Q []).O)]),(5,.dI none ((pN X R O Q []).Q)),(6,.dI none []),(7,.cells [.map (some 6)])]) 8,((0:Int)<=(0:Int)/\0<256)],
   .ret (.dj none 0 0 0) (J [(0,.ints .u32 gS),(1,.ints .u32 gR),(3,.cells [.dj none 0 0 0,.int .i64 ((pN X R O Q []).X),.map (some 5),.map (some 6),.int .i64 ((pN X R O Q []).R),.bool false,.bool false,.int .i64 ((pN X R O Q []).O)]),(5,.dI none ((pN X R O Q []).Q)),(6,.dI none []),(7,.cells [.map (some 6)])]) 8)]
 :=cR.of U U U
theorem aqc:c9 (fG (kS []) 61 [w88] (yo X R O Q) 8 (eM,yo X R O Q,8)) [] 7 Tryz.f23 [] (OM) (cU [P3] (eu (pN X R O Q [])) 7) [([],
   [fC [.fn (.func 88) [] [.ptr (some (7,0))]] (J [(0,.ints .u32 gS),(1,.ints .u32 gR),(3,.cells [.dj none 0 0 0,.int .i64 ((pN X R O Q []).X),.map (some 5),.map (some 6),.int .i64 ((pN X R O Q []).R),.bool false,.bool false,.int .i64 ((pN X R O Q []).O)]),(5,.dI none ((pN X R O Q []).Q)),(6,.dI none []),(7,.cells [.map (some 6)])]) 8],
   .ret (.dj none 0 0 0) (J [(0,.ints .u32 gS),(1,.ints .u32 gR),(3,.cells [.dj none 0 0 0,.int .i64 ((pN X R O Q []).X),.map (some 5),.map (some 6),.int .i64 ((pN X R O Q []).R),.bool false,.bool false,.int .i64 ((pN X R O Q []).O)]),(5,.dI none ((pN X R O Q []).Q)),(6,.dI none [])]) 7)]
 :=cR.of U U U
end
section
variable(X R O:Int)(Q:ae)
theorem W0:cW ak 88 [.fn (.yield 10) [] [],.ptr (some (7,0))] (hKN X R O Q) 11 (.ew []) (hKN X R O Q) 11:=by
 refine gh.is (gO mo po Tryz.func88 (code:=Ez) U U ?_);rw[afr];refine zu (v0:=.map (some 6)) (kA:=(cU [.fn (.yield 10) [] [],.ptr (some (7,0))] (hKN X R O Q) 11).S.set 4 (some (.map (some 6)))) (Aa:=((cU [.fn (.yield 10) [] [],.ptr (some (7,0))] (hKN X R O Q) 11).S.set 4 (some (.map (some 6)))).set 5 (some (.ptr (some (11,0))))) (m:=6) (kd:=none) (Q:=[]) mo MS
  U U U U (au rfl) U (fun iO s1=>iO=[]/\fa 12 [0,5] s1=some (SKN X R O Q)) ⟨rfl,U⟩ ?_
 rintro iO left s1 ⟨rfl,hs⟩ hp;refine⟨[0,5],SKN X R O Q,hs,U,fun wj=>?_,fun e kD he=>?_⟩
 . exact⟨(SKN X R O Q).S.set 6 (some (.ew [.bool false])),{ SKN X R O Q with S:=((SKN X R O Q).S.set 6 (some (.ew [.bool false]))).set 7 (some (.bool false)) },U,U,U,.inl rfl,.ew [],hKN X R O Q,11,U,rfl,rfl,rfl⟩
 . have N:=hp.length_eq;have B:=he.length_eq;simp only[ck,bR,aS]at N B;omega
theorem TH:cW ak 113 [eM,w88] (yo X R O Q) 8 eM (yo X R O Q) 8:=by
 refine c5 Tryz.func113 (code:=RT) U U ?_;refine iF  1 (XQ []) (ap7 X R O Q) cT ?_;show TG ak 8 Tryz.f113.ntmps AJ (eG [(1,w88),(2,P 8)] (J (lKN X R O Q++[(8,.cells [eM])])) 9) _;refine cZ U ?_;refine cZ U ?_;refine fO (XQ []) (ap8 X R O Q) (dG ?_);refine⟨cT,fun s' dO=>?_⟩;have dO:fa 8 [2,6] s'=some (aco X R O Q):=dO;refine c6 dO ?_;refine fB (i:=0) U ?_;refine oH (gf:=88) (lb:=[.ptr (some (7,0))]) U U U U U (W0 X R O Q).one ?_;rintro v h n ⟨rfl,rfl,rfl⟩;refine⟨U,?_⟩;show TG ak 8 Tryz.f113.ntmps (dY AJ) _ _;refine fh (XQ []) (ap9 X R O Q) (dG ?_);exact⟨cT,_,_,_,rfl,rfl,rfl,rfl⟩
theorem NG:cW ak 23 [P3] (eu (pN X R O Q [])) 7 eM (eu (pN X R O Q [])) 7:=by
 have h86:cW ak 86 [w88] (yo X R O Q) 8 eM (yo X R O Q) 8:=by
  refine c5 Tryz.func86 (code:=EB) U U ?_;refine fh ((XQ []).jA (au U) (TH X R O Q)) (aqa X R O Q) (dG ?_);exact⟨fun p hp=>by rw[aq]at hp;subst hp;exact Dx,_,_,_,rfl,rfl,rfl,rfl⟩
 have h61:cW ak 61 [w88] (yo X R O Q) 8 eM (yo X R O Q) 8:=by
  refine c5 Tryz.func61 (code:=EA) U U ?_;refine fh ((XQ []).jA (au U) h86) (aqb X R O Q) (dG ?_);refine⟨?_,_,_,_,rfl,rfl,rfl,rfl⟩
  repeat' (first|exact cT|refine iI ?_ ?_)
  . exact Dx
  . decide
 refine c5 Tryz.func23 (code:=OM) U U ?_;refine fh ((XQ []).jA (au U) h61) (aqc X R O Q) (dG ?_);exact⟨fun p hp=>by rw[aq]at hp;subst hp;exact Dx,_,_,_,rfl,rfl,rfl,rfl⟩
end
section
variable(l:List (Nat×List (Nat×oZ)))
noncomputable abbrev csE:fb:=gP ak (jD 63 (jS LI) W16) (qY l) 1000 40
noncomputable abbrev XE:CX ak:=CX.of mo po (e9 Sp G1) (qY l) 1000 40
end
section
variable(X R O:Int)
def lSn:af:=eK (pN X R O [] [])++[(7,.cells [P3]),(8,.dI none []),(9,.cells [.map (some 8)])]
def aqd:af:=eK (pN X R O [] [])++[(7,.cells [P3]),(9,.cells [.map (some 8)])]
def acp:St:=eG [(2,P 10),(6,g81)] (J (lSn X R O++[(10,.cells [eM])])) 11
noncomputable def ahC:lf:=.loop true none (acp X R O).S [7] Vs Vt
noncomputable def Pk:H lf:=J (lSn X R O++[(10,.cells [eM]),(11,.mF),(12,ahC X R O)])
noncomputable def Xa:St:=eG [(0,.fn (.yield 12) [] []),(5,P 13)] (J (aqd X R O++[(10,.cells [eM]),(11,.mF),(12,ahC X R O)])) 14
def s8:H lf:=J (lSn X R O)
def kNc:af:=eK (pN X R O [] [])++[(7,.cells [P3]),(19,.cells [.map (some 6)])]
def kNd:af:=kNc X R O++[(20,.dI none [])]
def kNe:af:=kNc X R O++[(20,.dI none []),(21,.cells [.map (some 20)])]
def Uv:af:=eK (pN X R O [] [])++[(7,.cells [P3])]
end
section
variable(n:L)(X R O:Int)
theorem aqe:c9 (kS []) [] 10 Tryz.f100 [1,2] (eV 1 RQ) (cU [eM,g81] (s8 X R O) 10) [([],
   [],
   .to .normal (eG [(1,g81),(2,P 10)] (J (lSn X R O++[(10,.cells [eM])])) 11))]
 :=cR.of U U U
theorem aqf:c9 (kS []) [] 10 Tryz.f100 [2,6] (dP (dP OK)) (eG [(1,g81),(2,P 10)] (J (lSn X R O++[(10,.cells [eM])])) 11) [([],
   [],
   .to .normal (acp X R O))]
 :=cR.of U U U
theorem aqg:c9 (kS []) [] 10 Tryz.f100 [] (dY OK) (tT (acp X R O) (Pk X R O) 13) [([],
   [],
   .ret (.dj none 0 0 0) (s8 X R O) 10)]
 :=cR.of U U U
theorem aqh:c9 (kS []) [] 10 Tryz.f79 [0] (eV 1 Lr) (cU [g81] (s8 X R O) 10) [([],
   [],
   .to .normal (eG [(0,g81)] (s8 X R O) 10))]
 :=cR.of U U U
theorem aqi:c9 (kS []) [] 10 Tryz.f79 [] (dY (dh 1 Lr)) (sC8 (s8 X R O) 10 eM) [([],
   [],
   .ret (.dj none 0 0 0) (s8 X R O) 10)]
 :=cR.of U U U
theorem aqj:c9 (kS []) [] 10 Tryz.f54 [0,1] (eV 1 Lq) (cU [g81,g56] (s8 X R O) 10) [([],
   [],
   .to .normal (eG [(0,g81),(1,g56)] (s8 X R O) 10))]
 :=cR.of U U U
theorem ahD:c9 (kS []) [] 10 Tryz.f54 [] (dh 2 Lq) (sS8 (s8 X R O) 10 eM) [([],
   [((0:Int)<=(0:Int)/\0<256)],
   .ret (.dj none 0 0 0) (s8 X R O) 10)]
 :=cR.of U U U
theorem aqk:c9 (fG (fG (kS []) 51 [P3,v78] (J (kNc X R O)) 20 (.map (some 20),J (kNd X R O),21)) 54 [v81,v56] (J (kNe X R O)) 22 (eM,J (kNe X R O),22)) [] 7 Tryz.f19 [1,3,4] (hd4) (cU [P3] (eu (pN X R O [] [])) 7) [([],
   [fC [.ptr (some (3,0)),.fn (.func 78) [] [.ptr (some (19,0))]] (J [(0,.ints .u32 gS),(1,.ints .u32 gR),(3,.cells [.dj none 0 0 0,.int .i64 ((pN X R O [] []).X),.map (some 5),.map (some 6),.int .i64 ((pN X R O [] []).R),.bool false,.bool false,.int .i64 ((pN X R O [] []).O)]),(5,.dI none []),(6,.dI none []),(7,.cells [.ptr (some (3,0))]),(19,.cells [.map (some 6)])]) 20,fC [.fn (.func 81) [] [.ptr (some (21,0))],.fn (.func 56) [] [.ptr (some (7,0))]] (J [(0,.ints .u32 gS),(1,.ints .u32 gR),(3,.cells [.dj none 0 0 0,.int .i64 ((pN X R O [] []).X),.map (some 5),.map (some 6),.int .i64 ((pN X R O [] []).R),.bool false,.bool false,.int .i64 ((pN X R O [] []).O)]),(5,.dI none []),(6,.dI none []),(7,.cells [.ptr (some (3,0))]),(19,.cells [.map (some 6)]),(20,.dI none []),(21,.cells [.map (some 20)])]) 22],
   .to .normal (eG [(1,.ptr (some (7,0))),(3,.dj none 0 0 0),(4,.dj none 0 0 0)] (J [(0,.ints .u32 gS),(1,.ints .u32 gR),(3,.cells [.dj none 0 0 0,.int .i64 ((pN X R O [] []).X),.map (some 5),.map (some 6),.int .i64 ((pN X R O [] []).R),.bool false,.bool false,.int .i64 ((pN X R O [] []).O)]),(5,.dI none []),(6,.dI none []),(7,.cells [.ptr (some (3,0))])]) 8))]
 :=cR.of U U U
theorem aql:c9 (kS []) [] 7 Tryz.f19 [1,4] (dP Uo) (eG [(1,P 7),(3,eM),(4,eM)] (J (Uv X R O)) 8) [([],
   [],
   .to .normal (eG [(1,.ptr (some (7,0))),(4,.dj none 0 0 0)] (J [(0,.ints .u32 gS),(1,.ints .u32 gR),(3,.cells [.dj none 0 0 0,.int .i64 ((pN X R O [] []).X),.map (some 5),.map (some 6),.int .i64 ((pN X R O [] []).R),.bool false,.bool false,.int .i64 ((pN X R O [] []).O)]),(5,.dI none []),(6,.dI none []),(7,.cells [.ptr (some (3,0))])]) 8))]
 :=cR.of U U U
theorem ahE:c9 (fG Bq 23 [P3] (J (Uv X R O)) 8 (eM,J (Uv X R O),8)) [] 7 Tryz.f19 [1,4] (dP Hl) (eG [(1,P 7),(4,eM)] (J (Uv X R O)) 8) [([],
   [fC [.ptr (some (3,0))] (J [(0,.ints .u32 gS),(1,.ints .u32 gR),(3,.cells [.dj none 0 0 0,.int .i64 ((pN X R O [] []).X),.map (some 5),.map (some 6),.int .i64 ((pN X R O [] []).R),.bool false,.bool false,.int .i64 ((pN X R O [] []).O)]),(5,.dI none []),(6,.dI none []),(7,.cells [.ptr (some (3,0))])]) 8],
   .to .normal (eG [(1,.ptr (some (7,0))),(4,.dj none 0 0 0)] (J [(0,.ints .u32 gS),(1,.ints .u32 gR),(3,.cells [.dj none 0 0 0,.int .i64 ((pN X R O [] []).X),.map (some 5),.map (some 6),.int .i64 ((pN X R O [] []).R),.bool false,.bool false,.int .i64 ((pN X R O [] []).O)]),(5,.dI none []),(6,.dI none []),(7,.cells [.ptr (some (3,0))])]) 8))]
 :=cR.of U U U
theorem ahF:c9 Bq [] 7 Tryz.f19 [1] (eV 3 (dY Hl)) (eG [(1,P 7),(4,eM)] (J (Uv X R O)) 8) [([],
   [],
   .to .normal (eG [(1,.ptr (some (7,0)))] (J [(0,.ints .u32 gS),(1,.ints .u32 gR),(3,.cells [.dj none 0 0 0,.int .i64 0,.map (some 5),.map (some 6),.int .i64 ((pN X R O [] []).R),.bool false,.bool false,.int .i64 ((pN X R O [] []).O)]),(5,.dI none []),(6,.dI none []),(7,.cells [.ptr (some (3,0))])]) 8))]
 :=cR.of U U U
theorem ahG:c9 (fG Bq 57 [P3] (J (Uv 0 R O)) 8 (.ew [],J (Pj [(7,.cells [P3])] 8 O),10)) [] 7 Tryz.f19 [] (dh 3 (dY Hl)) (eG [(1,.ptr (some (7,0)))] (J (Uv 0 R O)) 8) [([],
   [fC [.ptr (some (3,0))] (J [(0,.ints .u32 gS),(1,.ints .u32 gR),(3,.cells [.dj none 0 0 0,.int .i64 ((pN (0:Int) R O [] []).X),.map (some 5),.map (some 6),.int .i64 ((pN (0:Int) R O [] []).R),.bool false,.bool false,.int .i64 ((pN (0:Int) R O [] []).O)]),(5,.dI none []),(6,.dI none []),(7,.cells [.ptr (some (3,0))])]) 8],
   .ret (.int .i64 0) (J [(0,.ints .u32 gS),(1,.ints .u32 gR),(3,.cells [.dj none 0 0 0,.int .i64 0,.map (some 7),.map (some 8),.int .i64 0,.bool false,.bool false,.int .i64 O]),(5,.dI none []),(6,.dI none []),(7,.dI none []),(8,.dI none [])]) 9)]
 :=cR.of U U U
theorem aqm(d:L)(X R O:Int):c9 (csE Ja) [(16,.di (.bool false))] 7 Tryz.f15 [] (uD) (cU [P3,.str d,.dS false 0 []] (eu (pN X R O [] [])) 7) [([],
   [(V.bool (decide ((Int.ofNat d.length)>(65536:Int)))=V.bool false),([]=strs (dy [])),(0=0),(0<=1000000),(∀(x:L),x∈dy []->x.length=32),(gS=gS),(gR=gR),([]=strs (dy [])),(0=0),(0<=1000000),((eI (d::dy [])).length<=1000000000),((if true=true then V.ew [rs.fW (V.agg [V.str ([]:L),V.dj none 0 0 0,V.int aj (0:Int)]) (dr (rs.str (dw d (dy []))) (pN X R O [] []).Q),V.bool (dr (rs.str (dw d (dy []))) (pN X R O [] []).Q).isSome]else rs.fW (V.agg [V.str ([]:L),V.dj none 0 0 0,V.int aj (0:Int)]) (dr (rs.str (dw d (dy []))) (pN X R O [] []).Q))=V.ew [zw,V.bool false]),([]=strs (dy [])),(0=0),(d.length<=100000000),(0<=1000000),(0<=100000000),(V.bool (decide (IntKind.i64.wrap ((0:Int)+(Int.ofNat (gd d (dy [])).length))>(1048576:Int)))=V.bool false),(0<(gd d (dy [])).length),(eU (gd d (dy [])).length 1 1=true)],
   .ret (.ew [.str (dw d (dy [])),.int .i64 0]) (J [(0,.ints .u32 gS),(1,.ints .u32 gR),(3,.cells [.dj (some (7,0)) ((gd d (dy [])).length) ((gd d (dy [])).length) 1,.int .i64 ((pN X R O [] []).X),.map (some 5),.map (some 6),.int .i64 (IntKind.i64.wrap ((pN X R O [] []).R+(1:Int))),.bool false,.bool false,.int .i64 ((pN X R O [] []).O)]),(5,.dI none [(.str (dw d (dy [])),.agg [.str d,.dS 0 [],.int .i64 ((pN X R O [] []).R)])]),(6,.dI none []),(7,.jf 5 false (gd d (dy [])))]) 8)]
 :=cR.of U U U
theorem aqn(d d0:L)(gM:List (L))(k:Int)(T A:Nat)(b:L)(X R O:Int)(Q F:ae):c9 (kS (OJ d0 gM k)) [(16,.di (.bool false))] 7 Tryz.f15 [] (uD) (cU [P3,.str d,.dS false 0 []] (eu (pS T A b X R O Q F)) 7) [([],
   [(V.bool (decide ((Int.ofNat d.length)>(65536:Int)))=V.bool false),([]=strs (dy [])),(0=0),(0<=1000000),(∀(x:L),x∈dy []->x.length=32),(gS=gS),(gR=gR),([]=strs (dy [])),(0=0),(0<=1000000),((eI (d::dy [])).length<=1000000000),((if true=true then V.ew [rs.fW (V.agg [V.str ([]:L),V.dj none 0 0 0,V.int aj (0:Int)]) (dr (rs.str (dw d (dy []))) Q),V.bool (dr (rs.str (dw d (dy []))) Q).isSome]else rs.fW (V.agg [V.str ([]:L),V.dj none 0 0 0,V.int aj (0:Int)]) (dr (rs.str (dw d (dy []))) Q))=V.ew [nJ d0 gM k,V.bool true])],
   .ret (.ew [.str (dw d (dy [])),.int .i64 0]) (eu (pS T A b X R O Q F)) 7)]
 :=cR.of U U U
theorem aqo(d:L)(T A:Nat)(b:L)(X R O:Int)(Q F:ae):c9 (csE Ja) [(16,.di (.bool false))] 7 Tryz.f15 [] (uD) (cU [P3,.str d,.dS false 0 []] (eu (pS T A b X R O Q F)) 7) [([],
   [(V.bool (decide ((Int.ofNat d.length)>(65536:Int)))=V.bool false),([]=strs (dy [])),(0=0),(0<=1000000),(∀(x:L),x∈dy []->x.length=32),(gS=gS),(gR=gR),([]=strs (dy [])),(0=0),(0<=1000000),((eI (d::dy [])).length<=1000000000),((if true=true then V.ew [rs.fW (V.agg [V.str ([]:L),V.dj none 0 0 0,V.int aj (0:Int)]) (dr (rs.str (dw d (dy []))) Q),V.bool (dr (rs.str (dw d (dy []))) Q).isSome]else rs.fW (V.agg [V.str ([]:L),V.dj none 0 0 0,V.int aj (0:Int)]) (dr (rs.str (dw d (dy []))) Q))=V.ew [zw,V.bool false]),([]=strs (dy [])),(0=0),(d.length<=100000000),(0<=1000000),(0<=100000000),(V.bool (decide (IntKind.i64.wrap ((Int.ofNat T)+(Int.ofNat (gd d (dy [])).length))>(1048576:Int)))=V.bool false),(0<A),(T=b.length),(eU (T+(gd d (dy [])).length) 1 1=true)],
   .ret (.ew [.str (dw d (dy [])),.int .i64 0]) (J [(0,.ints .u32 gS),(1,.ints .u32 gR),(3,.cells [.dj (some (7,0)) (T+(gd d (dy [])).length) (T+(gd d (dy [])).length) 1,.int .i64 X,.map (some 5),.map (some 6),.int .i64 (IntKind.i64.wrap (R+(1:Int))),.bool false,.bool false,.int .i64 O]),(5,.dI none (ir (rs.str (dw d (dy []))) (rs.agg [rs.str d,rs.dS 0 [],rs.int aj R]) Q)),(6,.dI none F),(7,.jf 5 false (b++eT (ef (gd d (dy [])))))]) 8)]
 :=cR.of U U U
theorem aqp(d x:L)(X R O:Int):c9 (kS []) [(16,.di (.bool false))] 7 Tryz.f15 [] (uD) (cU [P3,.str d,.dS false 1 [.str x]] (eu (pN X R O [] [])) 7) [([],
   [(V.bool (decide ((Int.ofNat d.length)>(65536:Int)))=V.bool false),([rs.str x]=strs (dy [rs.str x])),(1=(dy [rs.str x]).length),(1<=1000000),(∀(x_1:L),x_1∈dy [rs.str x]->x_1.length=32),((0:Int)<=(0:Int)/\(0:Int)<(1:Int)),([rs.str x].length=1)],
   .ret (.ew [.str [],.int .i64 63]) (J [(0,.ints .u32 gS),(1,.ints .u32 gR),(3,.cells [.dj none 0 0 0,.int .i64 ((pN X R O [] []).X),.map (some 5),.map (some 6),.int .i64 ((pN X R O [] []).R),.bool false,.bool false,.int .i64 ((pN X R O [] []).O)]),(5,.dI none []),(6,.dI none [])]) 7)]
 :=cR.of U U U
theorem aqq:c9 (Y1 []) [(23,.di (.bool false)),(27,.di (.bool false))] 7 Tryz.f16 [] (w9) (cU [P3,.str n,.str []] (eu (pN X R O [] [])) 7) [([],
   [(V.bool (eJ n ([]:L))=V.bool false),(V.bool (decide ((Int.ofNat n.length)>(64:Int)))=V.bool false)],
   .ret (.int .i64 0) (J [(0,.ints .u32 gS),(1,.ints .u32 gR),(3,.cells [.dj none 0 0 0,.int .i64 ((pN X R O [] []).X),.map (some 5),.map (some 6),.int .i64 ((pN X R O [] []).R),.bool false,.bool false,.int .i64 ((pN X R O [] []).O)]),(5,.dI none []),(6,.dI none [])]) 7)]
 :=cR.of U U U
theorem aqr(d:L)(X R O:Int):c9 (Y1 []) [(23,.di (.bool false)),(27,.di (.bool false)),(31,.di (.bool true))] 7 Tryz.f16 [] (w9) (cU [P3,.str n,.str d] (eu (pN X R O [] [])) 7) [([],
   [(V.bool (eJ n ([]:L))=V.bool false),(V.bool (decide ((Int.ofNat n.length)>(64:Int)))=V.bool false),((V.bool !eJ d ([]:L))=V.bool true)],
   .ret (.int .i64 62) (J [(0,.ints .u32 gS),(1,.ints .u32 gR),(3,.cells [.dj none 0 0 0,.int .i64 ((pN X R O [] []).X),.map (some 5),.map (some 6),.int .i64 ((pN X R O [] []).R),.bool false,.bool false,.int .i64 ((pN X R O [] []).O)]),(5,.dI none []),(6,.dI none [])]) 7)]
 :=cR.of U U U
end
theorem aqs(T A:Nat)(b:L)(X R O:Int)(Q F:ae):c9 (kS []) [] 7 Tryz.f20 [] (dN Tryz.f20) (cU [P3] (eu (pS T A b X R O Q F)) 7) [([],
   [],
   .ret (.int .i64 ((Int.ofNat Q.length))) (eu (pS T A b X R O Q F)) 7)]
 :=cR.of U U U
theorem aqt(X R O:Int):c9 (kS []) [] 7 Tryz.f20 [] (dN Tryz.f20) (cU [P3] (eu (pN X R O [] [])) 7) [([],
   [],
   .ret (.int .i64 ((Int.ofNat (pN X R O [] []).Q.length))) (J [(0,.ints .u32 gS),(1,.ints .u32 gR),(3,.cells [.dj none 0 0 0,.int .i64 ((pN X R O [] []).X),.map (some 5),.map (some 6),.int .i64 ((pN X R O [] []).R),.bool false,.bool false,.int .i64 ((pN X R O [] []).O)]),(5,.dI none []),(6,.dI none [])]) 7)]
 :=cR.of U U U
abbrev sC(n A:Nat)(b:L)(X R O:Int)(Q F:ae):gZ:=pc (pN X R O Q F) n A b
abbrev sZ(X R O:Int):gZ:=pz (pN X R O [] [])
section
variable{n A:Nat}{b:L}{X R O:Int}{Q F:ae}
section
variable{f:FuncId}{nm:L}{rest:ag}{a:L}{e:Int}{m:Nat}{u:L}
theorem Zg(c:cW ak f (P3::rest) (eu (pS n A b X R O Q F)) 7 (.ew [.str a,.int .i64 e]) (eu (pS n A b X R O Q F)) 7):AO f rest (sC n A b X R O Q F) (.ew [.str a,.int .i64 e]) (sC n A b X R O Q F):=c.Ei 4 U
theorem TI(c:cW ak f (P3::rest) (eu (pS n A b X R O Q F)) 7 (.int .i64 e) (eu (pS n A b X R O Q F)) 7):AO f rest (sC n A b X R O Q F) (.int .i64 e) (sC n A b X R O Q F):=c.Ei 4 U
theorem acq(c:cW ak f (P3::rest) (eu (pN X R O [] [])) 7 (.ew [.str a,.int .i64 e]) (eu (pN X R O [] [])) 7):AO f rest (sZ X R O) (.ew [.str a,.int .i64 e]) (sZ X R O):=c.Ei 4 U
theorem TJ(c:cW ak f (P3::rest) (eu (pN X R O [] [])) 7 (.int .i64 e) (eu (pN X R O [] [])) 7):AO f rest (sZ X R O) (.int .i64 e) (sZ X R O):=c.Ei 4 U
theorem acr{nx2:Int}{uv:ae}(c:cW ak f (P3::rest) (eu (pS n A b X R O Q F)) 7 (.ew [.str a,.int .i64 e]) (RL m u X nx2 O uv F) 8):AO f rest (sC n A b X R O Q F) (.ew [.str a,.int .i64 e]) (sC m m u X nx2 O uv F):=c.Ei 4 U
theorem Mj{rt2:ae}(c:cW ak f (P3::rest) (eu (pS n A b X R O Q F)) 7 (.int .i64 e) (M9 X R O Q m u rt2) 8):AO f rest (sC n A b X R O Q F) (.int .i64 e) (sC m m u X R O Q rt2):=c.Ei 4 U
theorem ahH{d:L}{D:List (L)}(hd:d.length<=65536)(hn:D.length<=1024)(h32:∀x∈D,x.length=32)(tc:∀x∈D,uC Q x)(hk:uC Q (dw d D)):
  AO 15 [.str d,ni D] (sC n A b X R O Q F) (.ew [.str (dw d D),.int .i64 0]) (sC n A b X R O Q F):=by
 refine Zg ?_;cases D with
 |cons x D=>exact RM d n A b X R O Q F false (x::D) hd hn h32 tc hk
 |nil=>
  have hO:∀n:Nat,Int.ofNat n=(n:Int):=fun _=>rfl;obtain⟨d0,gM,k,hk⟩:=hk;refine c5 Tryz.func15 (code:=uD) U U ?_;refine fh (XQ (OJ d0 gM k)) (aqn d d0 gM k n A b X R O Q F) (dG ?_);refine⟨?_,_,_,_,rfl,rfl,rfl,rfl⟩;have hj:=hU d [] (by simp);simp only[bR]at hj;refine fm (gD dm) (fm rfl (fm rfl (fm K (fm (fun _ G=>absurd G aL) (fm rfl (fm rfl (fm rfl (fm rfl (fm K (fm ?_ (eX (kM hk))))))))))));show(eI [d]).length<=_;omega
theorem ahI{d:L}{D:List (L)}(hd:d.length<=65536)(hn:D.length<=1024)(h32:∀x∈D,x.length=32)(tc:∀x∈D,uC Q x)(hk:dr (.str (dw d D)) Q=none)(I:0<A)(hl:n=b.length)(Gi:n+(gd d D).length<=1048576):
  AO 15 [.str d,ni D] (sC n A b X R O Q F) (.ew [.str (dw d D),.int .i64 0]) (sC (n+(gd d D).length) (n+(gd d D).length) (b++gd d D) X (IntKind.i64.wrap (R+1)) O (ir (.str (dw d D)) (oF d D R) Q) F):=by
 refine acr ?_;cases D with
 |cons x D=>exact RN d n A b X R O Q F false (x::D) hd hn (Nat.succ_pos _) h32 tc hk I hl Gi
 |nil=>
  have hO:∀n:Nat,Int.ofNat n=(n:Int):=fun _=>rfl;refine c5 Tryz.func15 (code:=uD) U U ?_;obtain⟨aa,hr⟩:=aqo d n A b X R O Q F;simp only[Jb,gk]at hr;refine gA (XE Ja) mo _ U hr (dG ?_);refine⟨?_,_,_,_,rfl,rfl,rfl,rfl⟩;have hj:=hU d [] (by simp);simp only[bR]at hj;refine fm (gD dm) (fm (by first|rfl|trivial) (fm (by first|rfl|trivial) (fm K (fm (fun _ G=>absurd G aL) (fm (by first|rfl|trivial) (fm (by first|rfl|trivial) (fm (by first|rfl|trivial) (fm (by first|rfl|trivial) (fm K (fm (?_) (fm (oG hk) (fm (by first|rfl|trivial) (fm (by first|rfl|trivial) (fm K (fm K (fm K (fm (?_) (fm (I) (fm (hl) (eX (jk (by show n+(gd d []).length<=_;omega))))))))))))))))))))))
  . show(eI [d]).length<=_;omega
  . show V.bool (decide (IntKind.i64.wrap (Int.ofNat n+Int.ofNat (gd d []).length)>1048576))=_;rw[fK dm dm];exact gD dm
theorem ahJ{d:L}{D:List (L)}(hd:d.length<=65536)(hn:D.length<=1024)(h32:∀x∈D,x.length=32)(j:Nat)(x:L)(hj:D[j]? =some x)(G:dr (.str x) Q=none)(hg:∀i y,i<j->D[i]? =some y->uC Q y):
  AO 15 [.str d,ni D] (sC n A b X R O Q F) (.ew [.str [],.int .i64 63]) (sC n A b X R O Q F):=Zg (V2 false D n A b X R O Q F d hd hn h32 j x hj G hg)
theorem Xb{d:L}(hd:d.length<=65536):AO 15 [.str d,ni []] (sZ X R O) (.ew [.str (dw d []),.int .i64 0]) (sC (gd d []).length (gd d []).length (gd d []) X (IntKind.i64.wrap (R+1)) O (ir (.str (dw d [])) (oF d [] R) []) []):=by
 have key:cW ak 15 [P3,.str d,.dS false 0 []] (eu (pN X R O [] [])) 7 (.ew [.str (dw d []),.int .i64 0]) (J [(0,.ints .u32 gS),(1,.ints .u32 gR),(3,.cells [.dj (some (7,0)) (gd d []).length (gd d []).length 1,.int .i64 X,.map (some 5),.map (some 6),.int .i64 (IntKind.i64.wrap (R+1)),.bool false,.bool false,.int .i64 O]),(5,.dI none (ir (.str (dw d [])) (oF d [] R) [])),(6,.dI none []),(7,.jf 5 false (gd d []))]) 8:=by
  have hO:∀n:Nat,Int.ofNat n=(n:Int):=fun _=>rfl;refine c5 Tryz.func15 (code:=uD) U U ?_;obtain⟨aa,hr⟩:=aqm d X R O;simp only[Jb]at hr;refine gA (XE Ja) mo _ U hr (dG ?_);refine⟨?_,_,_,_,rfl,rfl,rfl,rfl⟩;have hj:=hU d [] (by simp);have wT:=Fv d (D:=[]) (by simp);have hr0:=(I2 d []).1;simp only[bR]at hj wT;refine fm (gD dm) (fm (by first|rfl|trivial) (fm (by first|rfl|trivial) (fm K (fm (fun _ G=>absurd G aL) (fm (by first|rfl|trivial) (fm (by first|rfl|trivial) (fm (by first|rfl|trivial) (fm (by first|rfl|trivial) (fm K (fm (?_) (fm (oG rfl) (fm (by first|rfl|trivial) (fm (by first|rfl|trivial) (fm K (fm K (fm K (fm (?_) (fm (hr0) (eX (jk (by show(gd d []).length<=_;omega)))))))))))))))))))))
  . show(eI [d]).length<=_;omega
  . show V.bool (decide (IntKind.i64.wrap ((0:Int)+Int.ofNat (gd d []).length)>1048576))=_;rw[fK dm dm];exact gD dm
 generalize gd d []=u at key ⊢;generalize ir (.str (dw d [])) (oF d [] R) []=Q at key ⊢;generalize dw d []=a at key ⊢;exact key.Ei 4 U
theorem ahK{d x:L}(hd:d.length<=65536)(G:x.length=32):AO 15 [.str d,ni [x]] (sZ X R O) (.ew [.str [],.int .i64 63]) (sZ X R O):=by
 refine acq ?_;have hO:∀n:Nat,Int.ofNat n=(n:Int):=fun _=>rfl;refine c5 Tryz.func15 (code:=uD) U U ?_;refine fh (XQ []) (aqp d x X R O) (dG ?_);refine⟨?_,_,_,_,rfl,rfl,rfl,rfl⟩;exact fm (gD dm) (fm rfl (fm rfl (fm K (fm (fun y hy=>by rw[aq.1 hy];exact G) (fm ⟨dU,dU⟩ (eX rfl))))))
theorem Xc(hn:VX nm):AO 16 [.str nm,.str []] (sZ X R O) (.int .i64 0) (sZ X R O):=by
 refine TJ ?_;refine c5 Tryz.func16 (code:=w9) U U ?_;refine fh (XU []) (aqq nm X R O) (dG ?_);exact⟨fm (zE hn.1) (eX (Hi hn.2)),_,_,_,rfl,rfl,rfl,rfl⟩
theorem Xd{d:L}(hn:VX nm)(hd:d≠[]):AO 16 [.str nm,.str d] (sZ X R O) (.int .i64 62) (sZ X R O):=by
 refine TJ ?_;refine c5 Tryz.func16 (code:=w9) U U ?_;refine fh (XU []) (aqr nm d X R O) (dG ?_);exact⟨fm (zE hn.1) (fm (Hi hn.2) (eX (Hh hd))),_,_,_,rfl,rfl,rfl,rfl⟩
theorem Xe:AO 66 [] (sC n A b X R O Q F) (.int .i64 0) (sC n A b (Int.ofNat n) R O Q F):=(ab4 n A b X R O Q F).Ei 4 U
theorem Xf:AO 66 [] (sZ X R O) (.int .i64 0) (sZ 0 R O):=(WK X R O [] []).Ei 4 U
end
end
end Go.Proofs.YtfihojpgobmmdaaGreatDoor
