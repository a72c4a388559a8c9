/- The Chunk laws: the model in memory, whatever its store; now, pick. No conditions. -/
import Derived.Test.YtfihojpgobmmdaaGreatDoorJointW19
import Derived.Test.YtfihojpgobmmdaaGreatDoorJointW20
import Derived.Test.YtfihojpgobmmdaaGreatDoorJointW18
import Derived.Test.YtfihojpgobmmdaaGreatDoorJointW17
import Derived.Test.YtfihojpgobmmdaaGreatDoorJointW15
set_option linter.unusedVariables false
set_option linter.unusedSimpArgs false
set_option linter.unusedSectionVars false
set_option maxRecDepth 20000
namespace Go.Proofs.YtfihojpgobmmdaaGreatDoor
open Go Go.Eng
section
variable(g b:Nat){f:FuncId}(p:jm){args:ag}(l:List RS){nE:ag}(s:RS){ns:List (Option Nat)}(m i:Nat)
def pz:jm:=⟨none,p.fl,p.nx,p.off,p.arm,p.lf,p.es,p.rs⟩
def pc(n k:Nat)(b:aa):jm:=⟨some (n,k,b),p.fl,p.nx,p.off,p.arm,p.lf,p.es,p.rs⟩
def sh:Nat:=match p.lo with|none=>0|some _=>1
def lgB(g:Nat)(p:jm):af:=match p.lo with|none=>[]|some (_,_,b)=>[(g,.iS 5 false b)]
def afN(c r a:Nat)(p:jm)(m:Nat)(R:ai):af:=
 [(0,.ints .u32 gS),(1,.ints .u32 gR),(3,.cells [.ptr (some (4,0)),.di (some (a,0)) m m 2]),(4,.cells (xC g c r p))]++lgB g p++[(c,.dD none p.es),(r,.dD none p.rs),(a,.deep R)]
abbrev moG(c r a:Nat)(p:jm)(l:List RS):af:=afN g c r a p l.length (gk l)
abbrev ME:af:=moG b (b+sh p) (b+1+sh p) 8 p l
abbrev Lo:af:=moG b (b+sh p) (b+1+sh p) (b+2+sh p) p l
abbrev moD(R:ai):af:=afN b (b+sh p) (b+1+sh p) (b+2+sh p) p m R
abbrev gq:af:=moG 5 6 7 8 p l
abbrev AW:af:=Lo 9 p l
abbrev nR:Nat:=12+sh p
theorem wz{l l1:af}{mh h2:Tr O}{n n2 Ik:Nat}{v v1:V}(hc:cT ak f nE (hL l1) ns.length v1 mh Ik)
  (e:((l1.all fun q=>Nat.blt q.1 fI),(jL.all fun p=>decide (ns.getD p.2 none=some p.2)),ni ns,(ns.all fun x=>match x with|none=>true|some m=>(jL.any fun p=>decide (p.2=m))||((hL l).get m).isSome),RA ns l l1,V.DJ (mu ns) args,D0 ns (hL l1) (v1,mh,Ik) (hL l) n)=(true,true,true,true,l1.map (fun q=>some q.2),some nE,some (v,h2,n2))):
  cT ak f args (hL l) n v h2 n2:=by
 simp only[aB]at e;obtain⟨e1,e2,e3,e4,e5,e6,e7⟩:=e;exact fR (jw e1 e2 e3 e4 e5) e6 e7 hc
theorem Dk{l l1:af}{mh h2:Tr O}{n n2 Ik:Nat}{v v1:V}(hc:cT ak f nE (hL l1) ns.length v1 mh Ik)(lo:Nat)
  (e:((l1.all fun q=>Nat.blt q.1 fI),(jL.all fun p=>decide (ns.getD p.2 none=some p.2)),ni ns,(ns.all fun x=>match x with|none=>true|some m=>(jL.any fun p=>decide (p.2=m))||((hL l).get m).isSome),RA ns l l1,V.DJ (mu ns) args,(D0 ns (hL l1) (v1,mh,Ik) (hL l) n).bind fun x=>IX n lo [0] (IZ x.1 x.2.1 x.2.2))=(true,true,true,true,l1.map (fun q=>some q.2),some nE,some (IZ v h2 n2))):
  cT ak f args (hL l) n v h2 n2:=by
 simp only[aB]at e;obtain⟨e1,e2,e3,e4,e5,e6,e7⟩:=e;cases e0:D0 ns (hL l1) (v1,mh,Ik) (hL l) n with
 |none=>rw[e0]at e7;cases e7
 |some x=>
  obtain⟨v3,h3,n3⟩:=x;rw[e0]at e7;exact(fR (jw e1 e2 e3 e4 e5) e6 e0 hc).Ff lo e7
def lgN:Option Nat:=match p.lo with|none=>none|some _=>some g
def aaT(c r a:Nat)(p:jm):List (Option Nat):=[some 0,some 1,some 2,some 3,some 4,lgN g p,some c,some r,some a]
abbrev Ti:List (Option Nat):=aaT 5 6 7 8 p
abbrev nsA:List (Option Nat):=aaT b (b+sh p) (b+1+sh p) (b+2+sh p) p
def Tj:List (Option Nat):=[some 0,some 1,some 2,some 4,lgN 5 p,some 6,some 7]
theorem anJ(s:RS):c5 iw [(12,.c9 (iW i)),(14,.c9 s.v)] 9 Tryz.f29 [] (dU Tryz.f29) (cR [P3] (hL (gq p l)) 9) [([],
   [(V.int aj (IntKind.i64.wrap ((Int.ofNat l.length)-(1:Int)))=iW i),((0:Int)<=Int.ofNat i/\Int.ofNat i<(Int.ofNat l.length)),(0+i*2+2<=(gk l).length),(V.agg (D.lN (dw (gk l) (0+i*2) 2))=s.v)],
   .ret (.agg [.dL false (s.cs.length) (fq s.cs),.dL false (s.ro.length) (ff s.ro)]) (hL (gq p l)) 9)]
 :=by rcases p with⟨_|⟨_,_,_⟩,_⟩<;>exact cP.of U U U
theorem m29(hl:l.length<=1000000):cT ak 29 [P3] (hL (gq p (l++[s]))) 9 s.v (hL (gq p (l++[s]))) 9:=by
 refine cZ Tryz.func29 (code:=dU Tryz.f29) U U ?_;refine fu nu (anJ p (l++[s]) l.length s) (dI ?_);exact⟨fm ((Se l s hl).1) (fm ((Se l s hl).2) (fm ((Dj l s).1) (e9 ((Dj l s).2)))),_,_,_,rfl,rfl,rfl,rfl⟩
theorem pk_(mi:aa)(l:List RS)(s:RS)(z:Int)(i:Nat)(c:gK):c5 (fK (fK iw 29 [P3] (hL (gq p l)) 9 (s.v,hL (gq p l),9)) 69 [.str Sd,eH] (hL (gq p l++[(9,bx s)])) 10 (.str mi,hL (gq p l++[(9,bx s)]),10)) [(14,.c9 (iW (s.cs.length+1))),(15,.c9 (iW i)),(20,.split),(25,.c9 (.dm c.d))] 9 Tryz.f89 [] (dU Tryz.f89) (cR [P3,.int .u8 z] (hL (gq p l)) 9) [([((Int.ofNat i==(Int.ofNat s.cs.length)),true)],
   [fG [P3] (hL (gq p l)) 9,(V.int aj (IntKind.i64.wrap ((Int.ofNat s.cs.length)+(1:Int)))=iW (s.cs.length+1)),(Int.ofNat (s.cs.length+1)≠(0:Int)),(V.int aj ((IntKind.i64.wrap z).tmod (Int.ofNat (s.cs.length+1)))=iW i),fG [.str Sd,eH] (hL (gq p l++[(9,bx s)])) 10],
   .ret (.str mi) (hL (gq p l)) 9),
  ([((Int.ofNat i==(Int.ofNat s.cs.length)),false)],
   [fG [P3] (hL (gq p l)) 9,(V.int aj (IntKind.i64.wrap ((Int.ofNat s.cs.length)+(1:Int)))=iW (s.cs.length+1)),(Int.ofNat (s.cs.length+1)≠(0:Int)),(V.int aj ((IntKind.i64.wrap z).tmod (Int.ofNat (s.cs.length+1)))=iW i),((0:Int)<=Int.ofNat i/\Int.ofNat i<(Int.ofNat s.cs.length)),((fq s.cs).length=s.cs.length*3),(V.dm (dw (fq s.cs) (i*3) 3)=V.dm c.d)],
   .ret (.str (c.dg)) (hL (gq p l)) 9)]
 :=by rcases p with⟨_|⟨_,_,_⟩,_⟩<;>exact cP.of U U U
end
theorem m89(p:jm)(l:List RS)(s:RS)(z:Nat)(hz:z<=255)(hs:s.cs.length<=1000000)(hl:l.length<=1000000):cT ak 89 [P3,.int .u8 (z:Int)] (hL (gq p (l++[s]))) 9 (.str (kE s z)) (hL (gq p (l++[s]))) 9:=by
 refine cZ Tryz.func89 (code:=dU Tryz.f89) U U ?_;have h29:=m29 p l s hl;obtain⟨p1,p2,p3⟩:=Vz s hz hs;generalize l++[s]=fo at h29 ⊢;have hX:=Vy (hL (gq p fo++[(9,bx s)])) 10;by_cases hm:z%(s.cs.length+1)<s.cs.length
 . have kH:=aN V.dm (xO s.cs _ hm);have Rv:kE s z=(s.cs[z%(s.cs.length+1)]).dg:=by unfold kE;rw[dif_pos hm]
   rw[Rv];generalize s.cs[z%(s.cs.length+1)]=c at kH ⊢;refine fu ((nu.ko Dh h29).ko XK hX) (pk_ p Ou fo s z (z%(s.cs.length+1)) c) fun g hg hc=>?_;rcases jk hg with rfl|rfl
   . have h:=hc _ (aq.2 rfl);dsimp only at h;have:=Int.ofNat.inj (beq_iff_eq.1 h);omega
   . exact⟨fm (⟨rfl,rfl,rfl⟩) (fm (p1) (fm (p2) (fm (p3) (fm (⟨az _,de⟩) (fm (kT _) (e9 (kH))))))),_,_,_,rfl,rfl,rfl,rfl⟩
 . have Rv:kE s z=Ou:=by unfold kE;rw[dif_neg hm]
   rw[Rv];have hme:z%(s.cs.length+1)=s.cs.length:=by have:=Nat.mod_lt z (show 0<s.cs.length+1 by omega);omega
   refine fu ((nu.ko Dh h29).ko XK hX) (pk_ p Ou fo s z (z%(s.cs.length+1)) ⟨[],[],[]⟩) fun g hg hc=>?_;rcases jk hg with rfl|rfl
   . exact⟨fm (⟨rfl,rfl,rfl⟩) (fm (p1) (fm (p2) (fm (p3) (e9 (⟨rfl,rfl,rfl⟩))))),_,_,_,rfl,rfl,rfl,rfl⟩
   . have h:=hc _ (aq.2 rfl);dsimp only at h;rw[hme]at h;rw[beq_self_eq_true]at h;cases h
section
variable(a b0 c:Int)(d:aa)
def e60:aa:=List.drop 0 (List.take (if(60:Int)<(Int.ofNat d.length)then(60:Int)else(Int.ofNat d.length)).toNat d)
def Fg(r:RR):O:=.cells [.dL false r.s.cs.length (fq r.s.cs),.dL false r.s.ro.length (ff r.s.ro),.str r.dg,.int .i64 r.er,.bool r.ch]
end
section
variable(p:jm)(l:List RS)(x y z:Int)
def sXo(d:aa)(cs:ag)(k:Nat):St:=eG [(0,P3),(3,.ptr (some (9,0))),(5,.di (some (10,0)) k k 1)] (hL (gq p l++[(9,lW x y z d),(10,.cells cs)])) 11
def sXc(d:aa)(k:Nat)(cs:ai):St:=eG [(0,P3),(3,.ptr (some (9,0))),(5,.di (some (10,0)) k k 1)] (hL (gq p l++[(9,lW x y z d),(10,.deep cs)])) 11
def sXu(r:RR)(v:List (Nat×V)):St:=eG ([(6,.ptr (some (11+sh p,0)))]++v) (hL (ME 9 p l++[(11+sh p,Fg r)])) (12+sh p)
def sXv(m:Nat)(R:ai)(r:RR)(v:List (Nat×V)):St:=eG ([(6,.ptr (some (12+sh p,0)))]++v) (hL (moD 9 p m R++[(12+sh p,Fg r)])) (13+sh p)
theorem xp1(d:aa):c5 iw [] 9 Tryz.f64 [0,3,5] (eR 2 tH) (cR [P3,rC x y z d] (hL (gq p l)) 9) [([],
   [],
   .to .normal (sXo p l x y z d [] 0))]
 :=by rcases p with⟨_|⟨_,_,_⟩,_⟩<;>exact cP.of U U U
theorem xp2(s:RS)(x y z:Int)(d w:aa):c5 (fK (fK iw 29 [P3] (hL (gq p l++[(9,lW x y z d),(10,.cells [])])) 11 (s.v,hL (gq p l++[(9,lW x y z d),(10,.cells [])]),11)) 89 [P3,.int .u8 z] (hL (gq p l++[(9,lW x y z d),(10,.cells [])])) 11 (.str w,hL (gq p l++[(9,lW x y z d),(10,.cells [])]),11)) [(13,.split),(19,.split)] 9 Tryz.f64 [0,3,5] (dO (dh 2 tH)) (sXo p l x y z d [] 0) [([((decide (y.tmod (3:Int)>(0:Int))),true),((decide ((Int.ofNat s.cs.length)>(0:Int))),true)],
   [fG [P3] (hL (gq p l++[(9,lW x y z d),(10,.cells [])])) 11,fG [P3,.int .u8 z] (hL (gq p l++[(9,lW x y z d),(10,.cells [])])) 11],
   .to .normal (sXo p l x y z d [.str w] 1)),
  ([((decide (y.tmod (3:Int)>(0:Int))),true),((decide ((Int.ofNat s.cs.length)>(0:Int))),false)],
   [fG [P3] (hL (gq p l++[(9,lW x y z d),(10,.cells [])])) 11],
   .to .normal (sXo p l x y z d [] 0)),
  ([((decide (y.tmod (3:Int)>(0:Int))),false)],
   [],
   .to .normal (sXo p l x y z d [] 0))]
 :=by rcases p with⟨_|⟨_,_,_⟩,_⟩<;>exact cP.of U U U
end
section
variable(p:jm)(l:List RS)(x y z:Int)(d:aa)(ps:List (aa))
def Ov:af:=gq p l++[(9,lW x y z d),(10,.deep (strs ps))]
abbrev sXp:St:=sXc p l x y z d ps.length (strs ps)
def sXq:St:=eG [(0,P3),(3,.ptr (some (9,0))),(5,qJ ps)] (hL (gq p l++[(9,lW x y z d)])) 10
def sXr(r:RR):St:=eG [(0,P3),(3,.ptr (some (9,0))),(5,qJ ps),(6,.ptr (some (10,0)))] (hL (gq p l++[(9,lW x y z d),(10,Fg r)])) 11
def sXs(r:RR):St:=eG [(0,P3),(3,.ptr (some (11+sh p,0))),(6,.ptr (some (12+sh p,0))),(7,.str r.dg),(8,.int .i64 r.er)] (hL (ME 9 p l++[(11+sh p,lW x y z d),(12+sh p,Fg r)])) (13+sh p)
end
section
variable(p:jm)(l:List RS)(x y z:Int)
theorem xp3(d:aa)(ps:List (aa))(w:aa):c5 (fK iw 89 [P3,.int .u8 y] (hL (Ov p l x y z d ps)) 11 (.str w,hL (Ov p l x y z d ps),11)) [(31,.split)] 9 Tryz.f64 [0,3,5] (dO (dh 3 tH)) (sXp p l x y z d ps) [([((decide (y.tmod (3:Int)>(1:Int))),true)],
   [fG [P3,.int .u8 y] (hL (Ov p l x y z d ps)) 11,(0+ps.length*1<=(strs ps).length),(0<1),(eP (ps.length+1) 1 16=true)],
   .to .normal (sXc p l x y z d (ps.length+1) (List.take (ps.length*1) (List.drop 0 (strs ps))++[D.str w]))),
  ([((decide (y.tmod (3:Int)>(1:Int))),false)],
   [],
   .to .normal (sXp p l x y z d ps))]
 :=by rcases p with⟨_|⟨_,_,_⟩,_⟩<;>exact cP.of U U U
theorem xp4(s:RS)(x y z:Int)(d:aa)(ps:List (aa))(r:RR):c5 (fK (fK iw 29 [P3] (hL (gq p l++[(9,lW x y z d)])) 23 (s.v,hL (gq p l++[(9,lW x y z d)]),23)) 37 [s.v,.str (e60 d),qJ ps] (hL (gq p l++[(9,lW x y z d)])) 23 (r.v,hL (gq p l++[(9,lW x y z d)]),23)) [] 9 Tryz.f64 [0,3,5,6] (dO (dh 4 tH)) (sXq p l x y z d ps) [([],
   [fG [P3] (hL (gq p l++[(9,lW x y z d)])) 23,(((0:Int)<=if(60:Int)<(Int.ofNat d.length)then(60:Int)else(Int.ofNat d.length))/\(if(60:Int)<(Int.ofNat d.length)then(60:Int)else(Int.ofNat d.length))<=(Int.ofNat d.length)),(((0:Int)<=if(60:Int)<(Int.ofNat d.length)then(60:Int)else(Int.ofNat d.length))/\(if(60:Int)<(Int.ofNat d.length)then(60:Int)else(Int.ofNat d.length))<=(Int.ofNat d.length)),(([.agg [.dL false (s.cs.length) (fq s.cs),.dL false (s.ro.length) (ff s.ro)],.str (List.drop 0 (List.take (if(60:Int)<(Int.ofNat d.length)then(60:Int)else(Int.ofNat d.length)).toNat d)),.dL false (ps.length) (strs ps)]:ag)=[s.v,.str (e60 d),qJ ps]/\(hL (gq p l++[(9,lW x y z d)]))=(hL (gq p l++[(9,lW x y z d)]))/\23=23)],
   .to .normal (sXr p l x y z d ps r))]
 :=by rcases p with⟨_|⟨_,_,_⟩,_⟩<;>exact cP.of U U U
theorem xp5(q:jm)(l:List RS)(x y z:Int)(d:aa)(ps:List (aa))(r:RR):c5 (fK iw 15 [.ptr (some (4,0)),.str (e60 d),qJ ps] (hL (gq p l++[(9,lW x y z d),(10,Fg r)])) 29 (.eo [.str r.dg,.int .i64 r.er],hL (ME 29 q l++[(9,lW x y z d),(10,Fg r)]),(31+sh q))) [] 9 Tryz.f64 [0,3,6,7,8] (dO (dh 5 tH)) (sXr p l x y z d ps r) [([],
   [(((0:Int)<=if(60:Int)<(Int.ofNat d.length)then(60:Int)else(Int.ofNat d.length))/\(if(60:Int)<(Int.ofNat d.length)then(60:Int)else(Int.ofNat d.length))<=(Int.ofNat d.length)),(([.ptr (some (4,0)),.str (List.drop 0 (List.take (if(60:Int)<(Int.ofNat d.length)then(60:Int)else(Int.ofNat d.length)).toNat d)),.dL false (ps.length) (strs ps)]:ag)=[.ptr (some (4,0)),.str (e60 d),qJ ps]/\(hL (gq p l++[(9,lW x y z d),(10,Fg r)]))=(hL (gq p l++[(9,lW x y z d),(10,Fg r)]))/\29=29)],
   .to .normal (sXs q l x y z d r))]
 :=by rcases p with⟨_|⟨_,_,_⟩,_⟩<;>rcases q with⟨_|⟨_,_,_⟩,_⟩<;>exact cP.of U U U
theorem xp6(d:aa)(r:RR):c5 iw [(67,.split)] 9 Tryz.f64 [6,7,8] (dO (dh 6 tH)) (sXs p l x y z d r) [([((r.ch),true)],
   [(0+l.length*2<=(gk l).length),(0<1),(eP (l.length+1) 2 48=true)],
   .to .normal (sXv p (l.length+1) (List.take (l.length*2) (List.drop 0 (gk l))++[D.dL r.s.cs.length (fq r.s.cs),D.dL r.s.ro.length (ff r.s.ro)]) r [(7,.str r.dg),(8,.int .i64 r.er)])),
  ([((r.ch),false)],
   [],
   .to .normal (sXu p l r [(7,.str r.dg),(8,.int .i64 r.er)]))]
 :=by rcases p with⟨_|⟨_,_,_⟩,_⟩<;>exact cP.of U U U
end
noncomputable abbrev zn:Code:=dU Tryz.f65
section
variable(p:jm)(l:List RS)(x y z:Int)(d w:aa)
def sYq:St:=eG [(0,P3),(3,.ptr (some (9,0))),(5,.str w)] (hL (gq p l++[(9,lW x y z d)])) 10
def sYr(r:RR):St:=eG [(0,P3),(3,.ptr (some (9,0))),(5,.str w),(6,.ptr (some (10,0)))] (hL (gq p l++[(9,lW x y z d),(10,Fg r)])) 11
end
section
variable(p:jm)(l:List RS)(x y z:Int)(r:RR)
def sYs:St:=eG [(0,P3),(6,.ptr (some (11+sh p,0))),(7,.int .i64 r.er)] (hL (ME 9 p l++[(11+sh p,Fg r)])) (12+sh p)
theorem yp1(d w:aa):c5 (fK iw 89 [P3,.int .u8 z] (hL (gq p l++[(9,lW x y z d)])) 10 (.str w,hL (gq p l++[(9,lW x y z d)]),10)) [] 9 Tryz.f65 [0,3,5] (eR 2 zn) (cR [P3,rC x y z d] (hL (gq p l)) 9) [([],
   [fG [P3,.int .u8 z] (hL (gq p l++[(9,lW x y z d)])) 10],
   .to .normal (sYq p l x y z d w))]
 :=by rcases p with⟨_|⟨_,_,_⟩,_⟩<;>exact cP.of U U U
theorem yp2(d w:aa):c5 iw [(15,.split)] 9 Tryz.f65 [0,3,5] (dO (dh 2 zn)) (sYq p l x y z d w) [([((y.tmod (4:Int)==(0:Int)),true)],
   [],
   .to .normal (sYq p l x y z d [])),
  ([((y.tmod (4:Int)==(0:Int)),false)],
   [],
   .to .normal (sYq p l x y z d w))]
 :=by rcases p with⟨_|⟨_,_,_⟩,_⟩<;>exact cP.of U U U
theorem yp3(s:RS)(x y z:Int)(d w e:aa)(r:RR):c5 (fK (fK (fK iw 29 [P3] (hL (gq p l++[(9,lW x y z d)])) 19 (s.v,hL (gq p l++[(9,lW x y z d)]),19)) 91 [.int .u8 y] (hL (gq p l++[(9,lW x y z d)])) 19 (.str e,hL (gq p l++[(9,lW x y z d)]),19)) 90 [s.v,.str e,.str w] (hL (gq p l++[(9,lW x y z d)])) 19 (r.v,hL (gq p l++[(9,lW x y z d)]),19)) [] 9 Tryz.f65 [0,3,5,6] (dO (dh 3 zn)) (sYq p l x y z d w) [([],
   [fG [P3] (hL (gq p l++[(9,lW x y z d)])) 19,fG [.int .u8 y] (hL (gq p l++[(9,lW x y z d)])) 19,fG [s.v,.str e,.str w] (hL (gq p l++[(9,lW x y z d)])) 19],
   .to .normal (sYr p l x y z d w r))]
 :=by rcases p with⟨_|⟨_,_,_⟩,_⟩<;>exact cP.of U U U
theorem yp4(q:jm)(l:List RS)(x y z:Int)(d w e:aa)(r:RR):c5 (fK (fK iw 91 [.int .u8 y] (hL (gq p l++[(9,lW x y z d),(10,Fg r)])) 21 (.str e,hL (gq p l++[(9,lW x y z d),(10,Fg r)]),21)) 16 [.ptr (some (4,0)),.str e,.str w] (hL (gq p l++[(9,lW x y z d),(10,Fg r)])) 21 (.int .i64 r.er,hL (ME 21 q l++[(9,lW x y z d),(10,Fg r)]),(23+sh q))) [] 9 Tryz.f65 [0,6,7] (dO (dh 4 zn)) (sYr p l x y z d w r) [([],
   [fG [.int .u8 y] (hL (gq p l++[(9,lW x y z d),(10,Fg r)])) 21,fG [.ptr (some (4,0)),.str e,.str w] (hL (gq p l++[(9,lW x y z d),(10,Fg r)])) 21],
   .to .normal (sYs q l r))]
 :=by rcases p with⟨_|⟨_,_,_⟩,_⟩<;>rcases q with⟨_|⟨_,_,_⟩,_⟩<;>exact cP.of U U U
theorem yp5:c5 iw [(33,.split)] 9 Tryz.f65 [6,7] (dO (dh 5 zn)) (sYs p l r) [([((r.ch),true)],
   [(0+l.length*2<=(gk l).length),(0<1),(eP (l.length+1) 2 48=true)],
   .to .normal (sXv p (l.length+1) (List.take (l.length*2) (List.drop 0 (gk l))++[D.dL r.s.cs.length (fq r.s.cs),D.dL r.s.ro.length (ff r.s.ro)]) r [(7,.int .i64 r.er)])),
  ([((r.ch),false)],
   [],
   .to .normal (sXu p l r [(7,.int .i64 r.er)]))]
 :=by rcases p with⟨_|⟨_,_,_⟩,_⟩<;>exact cP.of U U U
end
def Ee(g c r:Nat)(p:jm):af:=[(0,.ints .u32 gS),(1,.ints .u32 gR),(3,.cells (xC g c r p))]++(match p.lo with|none=>[]|some (_,_,b)=>[(g,.iS 5 false b)])++[(c,.dD none p.es),(r,.dD none p.rs)]
def stR(p:jm):af:=match p.lo with
 |none=>Ee 0 7 8 p
 |some _=>Ee 7 8 9 p
def nS(p:jm):Nat:=match p.lo with|none=>9|some _=>10
def Ak(f:FuncId)(rest:ag)(p:jm)(v:V)(q:jm):Prop:=cT ak f (P3::rest) (eu p) 7 v (hL (stR q)) (nS q)
theorem Fh:15<Tryz.prog.funcs.size:=au U
theorem afS:37<Tryz.prog.funcs.size:=au U
theorem Sj:89<Tryz.prog.funcs.size:=au U
theorem VD(s:RS)(d:aa)(ps:List (aa))(h:Tr O)(n:Nat)(h1:s.cs.length<=100000)(h2:s.ro.length<=1000000)(h3:d.length<=65536)(h4:ps.length<=1024)(h5:∀x∈ps,x.length=32):
  cT ak 37 [s.v,.str d,qJ ps] h n (kV s d ps).v h n:=by
 have key:cT ak 37 [s.v,.str d,qJ ps] h n (kV ⟨gp (fq s.cs),o5 (ff s.ro)⟩ d (dF (strs ps))).v h n:=by
  intro E w c7 ra g hd;refine RX.2 _ h n (okS s++[s.cs.length<=100000,strs ps=strs (dF (strs ps)),ps.length=(dF (strs ps)).length,d.length<=65536,ps.length<=1024,∀x∈dF (strs ps),x.length=32]) _ _ _ rfl ?_ E w c7 ra g hd U;refine jx (De be h2) ?_;rw[ic];exact fm h1 (fm rfl (fm rfl (fm h3 (fm h4 (e9 h5)))))
 rw[jK,rz,ic]at key;exact key
theorem Sk(d:aa):((0:Int)<=if(60:Int)<(Int.ofNat d.length)then(60:Int)else(Int.ofNat d.length))/\(if(60:Int)<(Int.ofNat d.length)then(60:Int)else(Int.ofNat d.length))<=(Int.ofNat d.length):=by
 have hO:∀n:Nat,Int.ofNat n=(n:Int):=fun _=>rfl;rw[hO];split<;>constructor<;>omega
theorem Sl(d:aa):e60 d=d.take 60:=by
 unfold e60;rw[bu];split
 . rfl
 . rename_i h;have:d.length<=60:=by have h:¬((60:Int)<(d.length:Int)):=h;omega
   rw[bq this,bq (by simp)]
theorem VE{ps:List (aa)}(w:aa):List.take (ps.length*1) (List.drop 0 (strs ps))++[D.str w]=strs (ps++[w]):=by
 rw[bu,bj,bq (by rw[eI];exact aA _),C7];rfl
theorem MF{l:List RS}(r:RS):List.take (l.length*2) (List.drop 0 (gk l))++[D.dL r.cs.length (fq r.cs),D.dL r.ro.length (ff r.ro)]=gk (l++[r]):=by
 rw[bu,bq (by rw[sw];exact aA _)];unfold gk;rw[aX,cr];rfl
theorem I0{k:Nat}(h:k<=1000000):eP k 2 48=true:=by
 unfold eP;exact bL ⟨be,be⟩
def kr(s:RS)(y z:Nat):List (aa):=(if 0<y%3/\0<s.cs.length then[kE s z]else[])++(if 1<y%3 then[kE s y]else[])
theorem Al{s:RS}(h:∀c∈s.cs,c.dg.length=32)(z:Nat):(kE s z).length=32:=by
 unfold kE;split
 . exact h _ (bY _)
 . exact Sf
theorem Fi{s:RS}(h:∀c∈s.cs,c.dg.length=32)(y z:Nat):(kr s y z).length<=2/\∀x∈kr s y z,x.length=32:=by
 unfold kr;refine⟨?_,fun x hx=>?_⟩
 . rw[ax];split<;>split<;>simp
 . rcases aU.1 hx with q|q
   . split at q
     . rw[aq.1 q];exact Al h z
     . cases q
   . split at q
     . rw[aq.1 q];exact Al h y
     . cases q
theorem GR(y k:Nat):decide ((y:Int).tmod (3:Int)>(k:Int))=decide (k<y%3):=by
 rw[cz be];exact decide_eq_decide.2 be
def vt(l:List RS)(r:RR):List RS:=if r.ch=true then l++[r.s]else l
section
variable(p:jm)(l:List RS)(s:RS)(x y z:Nat)(d:aa)
theorem afT(hy:y<=255)(hz:z<=255)(hs:s.cs.length<=100000)(hl:l.length<=1000){Q:Exit->St->Prop}
  (h:TG ak 9 Tryz.f64.ntmps (dh 4 tH) (sXq p (l++[s]) x y z d (kr s y z)) Q):TG ak 9 Tryz.f64.ntmps tH (cR [P3,rC x y z d] (hL (gq p (l++[s]))) 9) Q:=by
 have h29:=m29 p l s be;have h89:=fun a (ha:a<=255)=>m89 p l s a ha be be;generalize l++[s]=fo at h29 h89 h ⊢;refine iJ  2 nu (xp1 p fo x y z d) cQ ?_;show TG _ _ _ (dh 2 tH) _ _;refine cV U ?_;have k29:cT ak 29 [P3] (hL (gq p fo++[(9,lW x y z d),(10,.cells [])])) 11 s.v (hL (gq p fo++[(9,lW x y z d),(10,.cells [])])) 11:=
  wz (ns:=Ti p) h29 (by rcases p with⟨_|⟨_,_,_⟩,_⟩<;>kernel_rfl)
 have k89:cT ak 89 [P3,.int .u8 (z:Int)] (hL (gq p fo++[(9,lW x y z d),(10,.cells [])])) 11 (.str (kE s z)) (hL (gq p fo++[(9,lW x y z d),(10,.cells [])])) 11:=by
  have:=h89 z hz;generalize kE s z=w at this ⊢;exact wz (ns:=Ti p) this (by rcases p with⟨_|⟨_,_,_⟩,_⟩<;>kernel_rfl)
 have go3:∀ps,ps.length<=1->ps=(if 0<y%3/\0<s.cs.length then[kE s z]else[])->TG ak 9 Tryz.f64.ntmps (dY (dh 2 tH)) (sXp p fo x y z d ps) Q:=by
  intro ps G1 hpe;have rq:∀us,us=kr s y z->TG ak 9 Tryz.f64.ntmps (dh 4 tH) (sXp p fo x y z d us) Q:=by
   intro us hus;subst hus;generalize kr s y z=us at h ⊢;refine xz [10] (A:=[(strs us).length=us.length*1]) (s2:=eG [(0,P3),(3,.ptr (some (9,0))),(5,qJ us)] ((hL (Ov p fo x y z d us)).set 10 none) 11) (by rcases p with⟨_|⟨_,_,_⟩,_⟩<;>kernel_rfl) (e9 (by rw[eI,bj])) ?_;exact c6 (live:=[0,3,5]) (by rcases p with⟨_|⟨_,_,_⟩,_⟩<;>kernel_rfl) h
  have anP:cT ak 89 [P3,.int .u8 (y:Int)] (hL (Ov p fo x y z d ps)) 11 (.str (kE s y)) (hL (Ov p fo x y z d ps)) 11:=by
   have:=h89 y hy;generalize kE s y=w at this ⊢;exact wz (ns:=Ti p) this (by rcases p with⟨_|⟨_,_,_⟩,_⟩<;>kernel_rfl)
  show TG _ _ _ (dh 3 tH) _ _;refine cV U ?_;obtain⟨L3,xI⟩:=xp3 p fo x y z d ps (kE s y);rw[VE]at xI;refine gT (nu.ko Sj anP) mo nZ U xI fun g hg hc=>?_;rcases jk hg with rfl|rfl
  . have c1:=hc _ (aq.2 rfl);have c1:decide (1<y%3)=true:=(GR y 1).symm.trans c1;refine⟨fm ⟨rfl,rfl,rfl⟩ (fm (by rw[eI];omega) (fm dN (e9 (pM be)))),fun s' dX=>c6 dX ?_⟩;have:=rq (ps++[kE s y]) (by rw[hpe];unfold kr;rw[aG (aH c1)]);unfold sXp at this;rw[ax]at this;exact this
  . have c1:=hc _ (aq.2 rfl);have c1:decide (1<y%3)=false:=(GR y 1).symm.trans c1;refine⟨cQ,fun s' dX=>c6 dX ?_⟩;exact rq ps (by rw[hpe];unfold kr;rw[aI (c:=1<y%3) (aK c1),ct])
 refine fV ((nu.ko Dh k29).ko Sj k89) (xp2 p fo s x y z d (kE s z)) fun g hg hc=>?_;rcases xH hg with rfl|rfl|rfl
 . have c1:decide (0<y%3)=true:=(GR y 0).symm.trans (hc _ (aP ..));have c2:=aH (hc _ (aJ _ (aq.2 rfl)));refine⟨fm ⟨rfl,rfl,rfl⟩ (e9 ⟨rfl,rfl,rfl⟩),fun s' dX=>c6 dX ?_⟩;have:=go3 [kE s z] (aA 1) (by rw[aG ⟨aH c1,by rw[lA]at c2;omega⟩]);exact tB [10] (by rcases p with⟨_|⟨_,_,_⟩,_⟩<;>kernel_rfl) this
 . have c2:=aK (hc _ (aJ _ (aq.2 rfl)));refine⟨e9 ⟨rfl,rfl,rfl⟩,fun s' dX=>c6 dX ?_⟩;have:=go3 [] (aW 1) (by rw[aI fun q=>c2 de]);exact tB [10] (by rcases p with⟨_|⟨_,_,_⟩,_⟩<;>kernel_rfl) this
 . have c1:decide (0<y%3)=false:=(GR y 0).symm.trans (hc _ (aq.2 rfl));refine⟨cQ,fun s' dX=>c6 dX ?_⟩;have:=go3 [] (aW 1) (by rw[aI fun q=>aK c1 q.1]);exact tB [10] (by rcases p with⟨_|⟨_,_,_⟩,_⟩<;>kernel_rfl) this
end
section
variable(p:jm)(m:Nat)(l:List RS)(r:RR)
theorem xp7(R:ai)(r:RR):c5 iw [(82,.c9 (.bool true)),(87,.c9 (.bool true))] 9 Tryz.f64 [] (dh 7 tH) (sXv p m R r [(7,.str r.dg),(8,.int .i64 r.er)]) [([],
   [(V.bool (eE r.dg r.dg)=V.bool true),(V.bool (r.er==r.er)=V.bool true)],
   .ret (.bool true) (hL (moD 9 p m R)) (12+sh p))]
 :=by rcases p with⟨_|⟨_,_,_⟩,_⟩<;>exact cP.of U U U
theorem xp8:c5 iw [(82,.c9 (.bool true)),(87,.c9 (.bool true))] 9 Tryz.f64 [] (dh 7 tH) (sXu p l r [(7,.str r.dg),(8,.int .i64 r.er)]) [([],
   [(V.bool (eE r.dg r.dg)=V.bool true),(V.bool (r.er==r.er)=V.bool true)],
   .ret (.bool true) (hL (ME 9 p l)) (11+sh p))]
 :=by rcases p with⟨_|⟨_,_,_⟩,_⟩<;>exact cP.of U U U
theorem yp7(R:ai)(r:RR):c5 iw [(48,.c9 (.bool true))] 9 Tryz.f65 [] (dh 6 zn) (sXv p m R r [(7,.int .i64 r.er)]) [([],
   [(V.bool (r.er==r.er)=V.bool true)],
   .ret (.bool true) (hL (moD 9 p m R)) (12+sh p))]
 :=by rcases p with⟨_|⟨_,_,_⟩,_⟩<;>exact cP.of U U U
theorem yp8:c5 iw [(48,.c9 (.bool true))] 9 Tryz.f65 [] (dh 6 zn) (sXu p l r [(7,.int .i64 r.er)]) [([],
   [(V.bool (r.er==r.er)=V.bool true)],
   .ret (.bool true) (hL (ME 9 p l)) (11+sh p))]
 :=by rcases p with⟨_|⟨_,_,_⟩,_⟩<;>exact cP.of U U U
end
theorem afU{f:FuncId}{args:ag}{h:Tr O}{v:V}(p:jm)(l:List RS)(hd:v= .bool true)(c:cT ak f args h 9 v (hL (ME 9 p l)) (11+sh p)):cT ak f args h 9 v (hL (AW p l)) (nR p):=by
 subst hd;exact c.Ff 5 (by rcases p with⟨_|⟨_,_,_⟩,_⟩<;>kernel_rfl)
theorem afV:90<Tryz.prog.funcs.size:=au U
theorem XM:91<Tryz.prog.funcs.size:=au U
theorem VF(s:RS)(a x:aa)(h:Tr O)(n:Nat)(h1:s.cs.length<=100000)(h2:s.ro.length<64)(h3:a≠[])(h4:a.length<=64):cT ak 90 [s.v,.str a,.str x] h n (oL s a x).v h n:=by
 have key:cT ak 90 [s.v,.str a,.str x] h n (oL ⟨gp (fq s.cs),o5 (ff s.ro)⟩ a x).v h n:=by
  intro E w c7 ra g hd;refine RY.2 _ h n (okS s++[s.ro.length<64,a≠[],a.length<=64]) _ _ _ rfl ?_ E w c7 ra g hd U;exact jx (De be be) (fm h2 (fm h3 (e9 h4)))
 rw[jK,rz]at key;exact key
theorem VG(y:Nat)(hy:y<=255)(h:Tr O)(n:Nat):cT ak 91 [.int .u8 (y:Int)] h n (.str (MD y)) h n:=by
 intro E w c7 ra g hd;exact Sg.2 _ h n [(0:Int)<=(y:Int)/\(y:Int)<=255] _ _ _ rfl (e9 ⟨az _,be⟩) E w c7 ra g hd U
theorem Sm(a:aa):V.bool (eE a a)=V.bool true:=by rw[fT,beq_self_eq_true]
theorem GS(a:Int):V.bool (a==a)=V.bool true:=by rw[beq_self_eq_true]
theorem MG(p:jm){f:FuncId}{args:ag}{h:Tr O}(fo:List RS)(r:RR)
  (h1:r.ch=true->cT ak f args h 9 (.bool true) (hL (moD 9 p (fo.length+1) (gk (fo++[r.s])))) (12+sh p)) (h2:r.ch=false->cT ak f args h 9 (.bool true) (hL (ME 9 p fo)) (11+sh p)):cT ak f args h 9 (.bool true) (hL (AW p (vt fo r))) (nR p):=by
 cases hc:r.ch with
 |true=>
  have:=h1 hc;rw[show fo.length+1=(fo++[r.s]).length from by simp]at this;unfold vt;rw[aG hc];exact this
 |false=>unfold vt;rw[aI (by rw[hc];decide)];exact afU p fo rfl (h2 hc)
theorem m64(p:jm)(q:jm)(l:List RS)(s:RS)(x y z:Nat)(d:aa)(hy:y<=255)(hz:z<=255)(hs:s.cs.length<=100000)(hr:s.ro.length<=1000000)(h32:∀c∈s.cs,c.dg.length=32)(hl:l.length<=999)
  (hS:Ak 15 [.str (d.take 60),qJ (kr s y z)] p (.eo [.str (kV s (d.take 60) (kr s y z)).dg,.int .i64 (kV s (d.take 60) (kr s y z)).er]) q):
  cT ak 64 [P3,rC x y z d] (hL (gq p (l++[s]))) 9 (.bool true) (hL (AW q (vt (l++[s]) (kV s (d.take 60) (kr s y z))))) (nR q):=by
 have G1:=Fi h32 y z;have h29:=m29 p l s be;have h37:=fun(h:Tr O) (n:Nat)=>VD s (d.take 60) (kr s y z) h n hs hr (by rw[bg];omega) be G1.2;have o7:(l++[s]).length<=1000:=by rw[ax];simp;omega
 have go:∀Q,TG ak 9 Tryz.f64.ntmps (dh 6 tH) (sXs q (l++[s]) x y z d (kV s (d.take 60) (kr s y z))) Q->TG ak 9 Tryz.f64.ntmps tH (cR [P3,rC x y z d] (hL (gq p (l++[s]))) 9) Q:=by
  intro Q h;refine afT p l s x y z d hy hz hs be ?_;generalize l++[s]=fo at h29 h ⊢;rw[<- Sl]at hS h37 h;generalize kV s (e60 d) (kr s y z)=r at hS h37 h;generalize kr s y z=ps at hS h37 ⊢;have k29:cT ak 29 [P3] (hL (gq p fo++[(9,lW x y z d)])) 23 s.v (hL (gq p fo++[(9,lW x y z d)])) 23:=
   wz (ns:=Ti p) h29 (by rcases p with⟨_|⟨_,_,_⟩,_⟩<;>kernel_rfl)
  refine cV U ?_;refine fV ((nu.ko Dh k29).ko afS (h37 _ _)) (xp4 p fo s x y z d ps r) (dI ?_);refine⟨fm ⟨rfl,rfl,rfl⟩ (fm (Sk d) (fm (Sk d) (e9 ⟨rfl,rfl,rfl⟩))),fun s' dX=>c6 dX ?_⟩;show TG ak 9 Tryz.f64.ntmps (dh 5 tH) (sXr p fo x y z d ps r) Q;refine cV U ?_;have hS2:cT ak 15 [.ptr (some (4,0)),.str (e60 d),qJ ps] (hL (gq p fo++[(9,lW x y z d),(10,Fg r)])) 29 (.eo [.str r.dg,.int .i64 r.er]) (hL (ME 29 q fo++[(9,lW x y z d),(10,Fg r)])) (31+sh q):=by
   generalize e60 d=e at hS ⊢;exact Dk (ns:=Tj p) hS 29 (by rcases p with⟨_|⟨_,_,_⟩,_⟩<;>rcases q with⟨_|⟨_,_,_⟩,_⟩<;>kernel_rfl)
  refine fV (nu.ko Fh hS2) (xp5 p q fo x y z d ps r) (dI ?_);exact⟨fm (Sk d) (e9 ⟨rfl,rfl,rfl⟩),fun s' dX=>c6 dX h⟩
 generalize kV s (d.take 60) (kr s y z)=r at go;generalize l++[s]=fo at go o7;refine MG q fo r (fun hch=>?_) (fun hch=>?_)
 . refine cZ Tryz.func64 (code:=tH) U U (go _ ?_);refine cV U ?_;obtain⟨L6,KW⟩:=xp6 q fo x y z d r;rw[MF]at KW;refine gT nu mo nZ U KW fun g hg hc=>?_;rcases jk hg with rfl|rfl
   . refine⟨fm (by rw[sw];omega) (fm dN (e9 (I0 be))),fun s' dX=>c6 dX ?_⟩;refine fu nu (xp7 q (fo.length+1) (gk (fo++[r.s])) r) (dI ?_);exact⟨fm (Sm _) (e9 (GS _)),_,_,_,rfl,rfl,rfl,rfl⟩
   . have c1:r.ch=false:=hc _ (aq.2 rfl);rw[hch]at c1;cases c1
 . refine cZ Tryz.func64 (code:=tH) U U (go _ ?_);refine cV U ?_;refine fV nu (xp6 q fo x y z d r) fun g hg hc=>?_;rcases jk hg with rfl|rfl
   . have c1:r.ch=true:=hc _ (aq.2 rfl);rw[hch]at c1;cases c1
   . refine⟨cQ,fun s' dX=>c6 dX ?_⟩;refine fu nu (xp8 q fo r) (dI ?_);exact⟨fm (Sm _) (e9 (GS _)),_,_,_,rfl,rfl,rfl,rfl⟩
noncomputable abbrev Dl:Code:=dU Tryz.f28
noncomputable abbrev afW:Code:=dO (dh 4 Dl)
noncomputable abbrev Sn:Code:=dr (dr (dY afW))
noncomputable abbrev I1:Code:=dr (dO (dY Sn))
noncomputable abbrev anR:Code:=dr (dr (dh 4 I1))
noncomputable abbrev afX:Code:=dO (dh 5 Dl)
noncomputable abbrev aaW:Code:=dr (dr (dY afX))
def ckO(c:gK):O:=.cells [.str c.dg,.str c.da,.dL false c.rs.length (strs c.rs)]
section
variable(p:jm)(l:List RS)(w:RS)(zs:List (aa))(bs:List Bool)
def Dm:af:=gq p l++[(9,bx w)]
def G6(c:gK):af:=gq p l++[(9,bx w),(10,ckO c)]
def sS(r:List (Nat×V)):St:=eG ([(0,P3),(3,.ptr (some (9,0))),(5,qJ zs)]++r) (hL (Dm p l w)) 10
def sT(c:gK)(i:Nat)(r:List (Nat×V)):St:=eG ([(0,P3),(3,.ptr (some (9,0))),(5,qJ zs),(6,.dL false w.cs.length (lz bs)),(7,iW i),(8,.ptr (some (10,0)))]++r) (hL (G6 p l w c)) 11
end
section
variable(p:jm)(l:List RS)(w:RS)
theorem sm1(zs:List (aa)):c5 (fK iw 23 [.ptr (some (4,0))] (hL (Dm p l w)) 10 (qJ zs,hL (Dm p l w),10)) [] 9 Tryz.f28 [0,3,5] (eR 2 Dl) (cR [P3,w.v] (hL (gq p l)) 9) [([],
   [fG [.ptr (some (4,0))] (hL (Dm p l w)) 10],
   .to .normal (sS p l w zs []))]
 :=by rcases p with⟨_|⟨_,_,_⟩,_⟩<;>exact cP.of U U U
theorem sm2(zs:List (aa))(i:Nat):c5 (fK iw 20 [.ptr (some (4,0))] (hL (Dm p l w)) 27 (.int .i64 (Int.ofNat i),hL (Dm p l w),27)) [(29,.split),(36,.split)] 9 Tryz.f28 [0,3,5] (dO (dh 2 Dl)) (sS p l w zs []) [([((Int.ofNat i !=(Int.ofNat w.cs.length)),true)],
   [fG [.ptr (some (4,0))] (hL (Dm p l w)) 27],
   .ret (.bool false) (hL (gq p l)) 9),
  ([((Int.ofNat i !=(Int.ofNat w.cs.length)),false),(((Int.ofNat zs.length) !=(Int.ofNat w.ro.length)),true)],
   [fG [.ptr (some (4,0))] (hL (Dm p l w)) 27],
   .ret (.bool false) (hL (gq p l)) 9),
  ([((Int.ofNat i !=(Int.ofNat w.cs.length)),false),(((Int.ofNat zs.length) !=(Int.ofNat w.ro.length)),false)],
   [fG [.ptr (some (4,0))] (hL (Dm p l w)) 27],
   .to .normal (sS p l w zs []))]
 :=by rcases p with⟨_|⟨_,_,_⟩,_⟩<;>exact cP.of U U U
end
section
variable(p:jm)(l:List RS)(w:RS)
theorem sm3(zs:List (aa))(bs:List Bool):c5 (fK iw 68 [w.v] (hL (Dm p l w)) 10 (.dL false w.cs.length (lz bs),hL (Dm p l w),10)) [] 9 Tryz.f28 [0,3,5,6] (dO (dh 3 Dl)) (sS p l w zs []) [([],
   [fG [w.v] (hL (Dm p l w)) 10],
   .to .normal (sS p l w zs [(6,.dL false w.cs.length (lz bs))]))]
 :=by rcases p with⟨_|⟨_,_,_⟩,_⟩<;>exact cP.of U U U
theorem sm4(zs:List (aa))(bs:List Bool):c5 iw [] 9 Tryz.f28 [0,3,5,6,7] (dO afW) (sS p l w zs [(6,.dL false w.cs.length (lz bs))]) [([],
   [],
   .to .normal (sS p l w zs [(6,.dL false w.cs.length (lz bs)),(7,iW 0)]))]
 :=by rcases p with⟨_|⟨_,_,_⟩,_⟩<;>exact cP.of U U U
theorem sm5(zs:List (aa))(bs:List Bool)(i:Nat):c5 iw [(44,.split)] 9 Tryz.f28 [0,3,5,6,7] (dO Sn) (sS p l w zs [(6,.dL false w.cs.length (lz bs)),(7,iW i)]) [([((decide (Int.ofNat i<(Int.ofNat w.cs.length))),true)],
   [],
   .to .normal (sS p l w zs [(6,.dL false w.cs.length (lz bs)),(7,iW i)])),
  ([((decide (Int.ofNat i<(Int.ofNat w.cs.length))),false)],
   [],
   .to (.exit 0) (sS p l w zs [(6,.dL false w.cs.length (lz bs)),(7,iW i)]))]
 :=by rcases p with⟨_|⟨_,_,_⟩,_⟩<;>exact cP.of U U U
theorem sm6(zs:List (aa))(bs:List Bool)(i:Nat)(c:gK):c5 (fK iw 25 [.ptr (some (4,0)),.str c.dg] (hL (G6 p l w c)) 25 (.eo [.str c.da,qJ c.rs,.int .i64 0],hL (G6 p l w c),25)) [(50,.c9 (.dm c.d))] 9 Tryz.f28 [0,3,5,6,7,8,9,10,11] (eR 2 I1) (sS p l w zs [(6,.dL false w.cs.length (lz bs)),(7,iW i)]) [([],
   [((0:Int)<=Int.ofNat i/\Int.ofNat i<(Int.ofNat w.cs.length)),((fq w.cs).length=w.cs.length*3),(V.dm (dw (fq w.cs) (i*3) 3)=V.dm c.d),fG [.ptr (some (4,0)),.str c.dg] (hL (G6 p l w c)) 25],
   .to .normal (sT p l w zs bs c i [(9,.str c.da),(10,qJ c.rs),(11,.int .i64 0)]))]
 :=by rcases p with⟨_|⟨_,_,_⟩,_⟩<;>exact cP.of U U U
theorem sm7(zs:List (aa))(bs:List Bool)(i:Nat)(c:gK)(lv rv:Bool):c5 (fK (fK iw 18 [.ptr (some (4,0)),.str c.dg] (hL (G6 p l w c)) 51 (.bool true,hL (G6 p l w c),51)) 17 [.ptr (some (4,0)),.str c.dg] (hL (G6 p l w c)) 51 (.bool lv,hL (G6 p l w c),51)) [(69,.c9 (.bool false)),(77,.c9 (.bool false)),(99,.c9 (.dm [.bool rv])),(101,.split)] 9 Tryz.f28 [0,3,5,6,7,8,10] (dO (dh 2 I1)) (sT p l w zs bs c i [(9,.str c.da),(10,qJ c.rs),(11,.int .i64 0)]) [([((!lv==rv),true)],
   [((V.bool !eE c.da c.da)=V.bool false),(V.bool ((Int.ofNat c.rs.length) !=(Int.ofNat c.rs.length))=V.bool false),fG [.ptr (some (4,0)),.str c.dg] (hL (G6 p l w c)) 51,fG [.ptr (some (4,0)),.str c.dg] (hL (G6 p l w c)) 51,((0:Int)<=Int.ofNat i/\Int.ofNat i<(Int.ofNat w.cs.length)),((lz bs).length=w.cs.length*1),(V.dm (dw (lz bs) (i*1) 1)=V.dm [D.bool rv])],
   .ret (.bool false) (hL (gq p l)) 9),
  ([((!lv==rv),false)],
   [((V.bool !eE c.da c.da)=V.bool false),(V.bool ((Int.ofNat c.rs.length) !=(Int.ofNat c.rs.length))=V.bool false),fG [.ptr (some (4,0)),.str c.dg] (hL (G6 p l w c)) 51,fG [.ptr (some (4,0)),.str c.dg] (hL (G6 p l w c)) 51,((0:Int)<=Int.ofNat i/\Int.ofNat i<(Int.ofNat w.cs.length)),((lz bs).length=w.cs.length*1),(V.dm (dw (lz bs) (i*1) 1)=V.dm [D.bool rv])],
   .to .normal (sT p l w zs bs c i [(10,qJ c.rs)]))]
 :=by rcases p with⟨_|⟨_,_,_⟩,_⟩<;>exact cP.of U U U
theorem sm8(zs:List (aa))(bs:List Bool)(i:Nat)(c:gK):c5 iw [] 9 Tryz.f28 [0,3,5,6,7,8,10,12] (dO (dh 3 I1)) (sT p l w zs bs c i [(10,qJ c.rs)]) [([],
   [],
   .to .normal (sT p l w zs bs c i [(10,qJ c.rs),(12,iW 0)]))]
 :=by rcases p with⟨_|⟨_,_,_⟩,_⟩<;>exact cP.of U U U
theorem sm9(zs:List (aa))(bs:List Bool)(i e:Nat)(c:gK)(x:aa):c5 iw [(106,.split),(111,.c9 (.dm [.str x])),(116,.c9 (.dm [.str x])),(118,.c9 (.bool false)),(108,.c9 (iW (e+1)))] 9 Tryz.f28 [0,3,5,6,7,8,10,12] (anR) (sT p l w zs bs c i [(10,qJ c.rs),(12,iW e)]) [([((decide (Int.ofNat e<(Int.ofNat c.rs.length))),true)],
   [((0:Int)<=Int.ofNat e/\Int.ofNat e<(Int.ofNat c.rs.length)),((strs c.rs).length=c.rs.length*1),(V.dm (dw (strs c.rs) (e*1) 1)=V.dm [D.str x]),((0:Int)<=Int.ofNat e/\Int.ofNat e<(Int.ofNat c.rs.length)),((strs c.rs).length=c.rs.length*1),(V.dm (dw (strs c.rs) (e*1) 1)=V.dm [D.str x]),((V.bool !eE x x)=V.bool false),(V.int aj (IntKind.i64.wrap (Int.ofNat e+(1:Int)))=iW (e+1))],
   .to .normal (sT p l w zs bs c i [(10,qJ c.rs),(12,iW (e+1))])),
  ([((decide (Int.ofNat e<(Int.ofNat c.rs.length))),false)],
   [],
   .to (.exit 2) (sT p l w zs bs c i [(10,qJ c.rs),(12,iW e)]))]
 :=by rcases p with⟨_|⟨_,_,_⟩,_⟩<;>exact cP.of U U U
theorem smA(zs:List (aa))(bs:List Bool)(i e:Nat)(c:gK):c5 iw [(46,.c9 (iW (i+1)))] 9 Tryz.f28 [0,3,5,6,7] (dY (dY Sn)) (sT p l w zs bs c i [(10,qJ c.rs),(12,iW e)]) [([],
   [(V.int aj (IntKind.i64.wrap (Int.ofNat i+(1:Int)))=iW (i+1))],
   .to .normal (sS p l w zs [(6,.dL false w.cs.length (lz bs)),(7,iW (i+1))]))]
 :=by rcases p with⟨_|⟨_,_,_⟩,_⟩<;>exact cP.of U U U
theorem smB(zs:List (aa))(bs:List Bool)(i:Nat):c5 iw [] 9 Tryz.f28 [0,3,5,13] (dO afX) (sS p l w zs [(6,.dL false w.cs.length (lz bs)),(7,iW i)]) [([],
   [],
   .to .normal (sS p l w zs [(13,iW 0)]))]
 :=by rcases p with⟨_|⟨_,_,_⟩,_⟩<;>exact cP.of U U U
theorem smE(zs:List (aa))(i:Nat):c5 iw [(122,.split)] 9 Tryz.f28 [0,3,5,13] (dO aaW) (sS p l w zs [(13,iW i)]) [([((decide (Int.ofNat i<(Int.ofNat zs.length))),true)],
   [],
   .to .normal (sS p l w zs [(13,iW i)])),
  ([((decide (Int.ofNat i<(Int.ofNat zs.length))),false)],
   [],
   .to (.exit 4) (sS p l w zs [(13,iW i)]))]
 :=by rcases p with⟨_|⟨_,_,_⟩,_⟩<;>exact cP.of U U U
theorem smC(zs:List (aa))(i:Nat)(x y nm dd:aa):c5 (fK iw 24 [.ptr (some (4,0)),.str x] (hL (Dm p l w)) 24 (.eo [.str y,.bool true],hL (Dm p l w),24)) [(132,.c9 (.dm [.str x])),(139,.c9 (.dm [.str x])),(144,.c9 (.dm [.str nm,.str dd])),(147,.split),(153,.c9 (.dm [.str nm,.str dd])),(156,.split),(124,.c9 (iW (i+1)))] 9 Tryz.f28 [0,3,5,13] (dY aaW) (sS p l w zs [(13,iW i)]) [([((!eE x nm),true)],
   [((0:Int)<=Int.ofNat i/\Int.ofNat i<(Int.ofNat zs.length)),((strs zs).length=zs.length*1),(V.dm (dw (strs zs) (i*1) 1)=V.dm [D.str x]),fG [.ptr (some (4,0)),.str x] (hL (Dm p l w)) 24,((0:Int)<=Int.ofNat i/\Int.ofNat i<(Int.ofNat zs.length)),((strs zs).length=zs.length*1),(V.dm (dw (strs zs) (i*1) 1)=V.dm [D.str x]),((0:Int)<=Int.ofNat i/\Int.ofNat i<(Int.ofNat w.ro.length)),((ff w.ro).length=w.ro.length*2),(V.dm (dw (ff w.ro) (i*2) 2)=V.dm [D.str nm,D.str dd])],
   .ret (.bool false) (hL (gq p l)) 9),
  ([((!eE x nm),false),((!eE y dd),true)],
   [((0:Int)<=Int.ofNat i/\Int.ofNat i<(Int.ofNat zs.length)),((strs zs).length=zs.length*1),(V.dm (dw (strs zs) (i*1) 1)=V.dm [D.str x]),fG [.ptr (some (4,0)),.str x] (hL (Dm p l w)) 24,((0:Int)<=Int.ofNat i/\Int.ofNat i<(Int.ofNat zs.length)),((strs zs).length=zs.length*1),(V.dm (dw (strs zs) (i*1) 1)=V.dm [D.str x]),((0:Int)<=Int.ofNat i/\Int.ofNat i<(Int.ofNat w.ro.length)),((ff w.ro).length=w.ro.length*2),(V.dm (dw (ff w.ro) (i*2) 2)=V.dm [D.str nm,D.str dd]),((0:Int)<=Int.ofNat i/\Int.ofNat i<(Int.ofNat w.ro.length)),((ff w.ro).length=w.ro.length*2),(V.dm (dw (ff w.ro) (i*2) 2)=V.dm [D.str nm,D.str dd])],
   .ret (.bool false) (hL (gq p l)) 9),
  ([((!eE x nm),false),((!eE y dd),false)],
   [((0:Int)<=Int.ofNat i/\Int.ofNat i<(Int.ofNat zs.length)),((strs zs).length=zs.length*1),(V.dm (dw (strs zs) (i*1) 1)=V.dm [D.str x]),fG [.ptr (some (4,0)),.str x] (hL (Dm p l w)) 24,((0:Int)<=Int.ofNat i/\Int.ofNat i<(Int.ofNat zs.length)),((strs zs).length=zs.length*1),(V.dm (dw (strs zs) (i*1) 1)=V.dm [D.str x]),((0:Int)<=Int.ofNat i/\Int.ofNat i<(Int.ofNat w.ro.length)),((ff w.ro).length=w.ro.length*2),(V.dm (dw (ff w.ro) (i*2) 2)=V.dm [D.str nm,D.str dd]),((0:Int)<=Int.ofNat i/\Int.ofNat i<(Int.ofNat w.ro.length)),((ff w.ro).length=w.ro.length*2),(V.dm (dw (ff w.ro) (i*2) 2)=V.dm [D.str nm,D.str dd]),(V.int aj (IntKind.i64.wrap (Int.ofNat i+(1:Int)))=iW (i+1))],
   .to .normal (sS p l w zs [(13,iW (i+1))]))]
 :=by rcases p with⟨_|⟨_,_,_⟩,_⟩<;>exact cP.of U U U
theorem smD(zs:List (aa))(i:Nat):c5 iw [] 9 Tryz.f28 [] (dh 6 Dl) (sS p l w zs [(13,iW i)]) [([],
   [],
   .ret (.bool true) (hL (gq p l)) 9)]
 :=by rcases p with⟨_|⟨_,_,_⟩,_⟩<;>exact cP.of U U U
end
structure Obs(p:jm)(k:Nat)(zs:List (aa))(cs:List gK)(lv:aa->Bool)(yv:aa->aa):Prop where
 h23:cT ak 23 [P3] (eu p) 7 (qJ zs) (eu p) 7
 h20:cT ak 20 [P3] (eu p) 7 (.int .i64 (Int.ofNat k)) (eu p) 7
 h25:∀c∈cs,cT ak 25 [P3,.str c.dg] (eu p) 7 (.eo [.str c.da,qJ c.rs,.int .i64 0]) (eu p) 7
 h18:∀c∈cs,cT ak 18 [P3,.str c.dg] (eu p) 7 (.bool true) (eu p) 7
 h17:∀c∈cs,cT ak 17 [P3,.str c.dg] (eu p) 7 (.bool (lv c.dg)) (eu p) 7
 h24:∀x∈zs,cT ak 24 [P3,.str x] (eu p) 7 (.eo [.str (yv x),.bool true]) (eu p) 7
def sA(k:Nat)(zs:List (aa))(lv:aa->Bool)(yv:aa->aa)(w:RS):Bool:=
 decide (k=w.cs.length)&&(decide (zs.length=w.ro.length)&&(decide (w.cs.map (fun c=>lv c.dg)=fc w)&&decide (zs.map (fun x=>(x,yv x))=w.ro)))
theorem VH(s:RS)(h:Tr O)(n:Nat)(h1:s.cs.length<=100000)(h2:s.ro.length<=1000000)(h3:∀c∈s.cs,c.rs.length<=100000):cT ak 68 [s.v] h n (.dL false s.cs.length (lz (fc s))) h n:=by
 have key:cT ak 68 [s.v] h n (.dL false s.cs.length (lz (fc ⟨gp (fq s.cs),o5 (ff s.ro)⟩))) h n:=by
  intro E w c7 ra g hd;refine R7.2 _ h n (okS s++[s.cs.length<=100000,∀c∈gp (fq s.cs),c.rs.length<=100000]) _ _ _ rfl ?_ E w c7 ra g hd U;refine jx (De be h2) ?_;rw[jK];exact fm h1 (e9 h3)
 rw[jK,rz]at key;exact key
theorem afY:23<Tryz.prog.funcs.size:=au U
theorem MH:20<Tryz.prog.funcs.size:=au U
theorem afZ:25<Tryz.prog.funcs.size:=au U
theorem af0:24<Tryz.prog.funcs.size:=au U
theorem af1:68<Tryz.prog.funcs.size:=au U
def XN(b:Bool)(h0:Tr O)(v:V)(h:Tr O)(n:Nat):Prop:=v= .bool b/\h=h0/\n=9
theorem Dn{a b:Nat}:(Int.ofNat a !=Int.ofNat b)=!decide (a=b):=by
 by_cases h:a=b
 . subst h;rw[bL rfl];exact bne_self_eq_false _
 . rw[bC h];exact bne_iff_ne.2 fun q=>h (Int.ofNat.inj q)
section
variable{α β:Type}{f:α->β}{l:List α}{bs:List β}{i:Nat}
theorem vu{c:α}{b:β}(hc:l[i]? =some c)(hb:bs[i]? =some b)(fL:f c≠b):l.map f≠bs:=fun e=>by
 subst e;rw[br,hc]at hb;exact fL (cC hb)
theorem AX{c:α}{b:β}(hc:l[i]? =some c)(hb:bs[i]? =some b)(he:f c=b)(h:(l.take i).map f=bs.take i):(l.take (i+1)).map f=bs.take (i+1):=by
 rw[bI,bI,aX,h,hc,hb];simp[he]
end
theorem XN.intro{b:Bool}{h:Tr O}:XN b h (.bool b) h 9:=⟨rfl,rfl,rfl⟩
section
variable(p:jm)(l:List RS)(w:RS){yE:Nat}{zs:List (aa)}{cs:List gK}{lv:aa->Bool}{yv:aa->aa}
theorem aaY(ho:Obs p yE zs cs lv yv)(hz:zs.length=w.ro.length)(GZ:zs.length<=100000)(i0:Nat)(tv:Bool)(hb:tv=decide (zs.map (fun x=>(x,yv x))=w.ro))(bs:List Bool):
  TG ak 9 Tryz.f28.ntmps (dh 5 Dl) (sS p l w zs [(6,.dL false w.cs.length (lz bs)),(7,iW i0)]) (fB ak 9 Tryz.f28 (XN tv (hL (gq p l)))):=by
 refine cV U ?_;refine cV U ?_;refine fV nu (smB p l w zs bs i0) (dI ?_);refine⟨cQ,fun s' dX=>?_⟩;refine js (α:=Nat) 4 (fun i=>zs.length-i) (fun i=>i<=zs.length/\(zs.take i).map (fun x=>(x,yv x))=w.ro.take i) (fun i=>sS p l w zs [(13,iW i)]) U U 0 ⟨aW _,rfl⟩ (.norm dX) fun i ⟨hi,he⟩=>?_;refine cV U ?_;refine fV nu (smE p l w zs i) fun g hg hc=>?_;rcases jk hg with rfl|rfl
 . have fE:i<zs.length:=by have:=aH (hc _ (aq.2 rfl));rw[lA,lA]at this;omega
   clear hc;refine⟨cQ,fun s0 FH=>c6 FH ?_⟩;show TG ak 9 Tryz.f28.ntmps (dY aaW) (sS p l w zs [(13,iW i)]) _;have hx:zs[i]? =some zs[i]:=ay fE;have hr:w.ro[i]? =some (w.ro[i]'(by omega)):=ay be;have Ow:=aN V.dm (fD hx);have Sp:=aN V.dm (Da w.ro i be);have xo:zs[i]∈zs:=bY _;generalize zs[i]=x at *;generalize w.ro[i]'(by omega)=q at *;have h24:cT ak 24 [.ptr (some (4,0)),.str x] (hL (Dm p l w)) 24 (.eo [.str (yv x),.bool true]) (hL (Dm p l w)) 24:=by
    have:=ho.h24 x xo;generalize yv x=y at this ⊢;exact wz (ns:=Tj p) this (by rcases p with⟨_|⟨_,_,_⟩,_⟩<;>kernel_rfl)
   obtain⟨LC,hrC⟩:=smC p l w zs i x (yv x) q.1 q.2;have a1:(0:Int)<=Int.ofNat i/\Int.ofNat i<(Int.ofNat zs.length):=⟨az _,de⟩;have a2:(strs zs).length=zs.length*1:=by rw[eI,bj]
   have a3:(0:Int)<=Int.ofNat i/\Int.ofNat i<(Int.ofNat w.ro.length):=⟨az _,de⟩;have a4:(ff w.ro).length=w.ro.length*2:=nl _;refine gT (nu.ko af0 h24) mo (XN tv (hL (gq p l))) U hrC fun g hg hc=>?_;rcases xH hg with rfl|rfl|rfl
   . have c2:=hc _ (aq.2 rfl);have c2:(!eE x q.1)=true:=c2;have fL:(x,yv x)≠q:=fun e=>by rw[<- e,fT,beq_self_eq_true]at c2;cases c2
     obtain rfl:tv=false:=by rw[hb];exact bC (vu (f:=fun x=>(x,yv x)) hx hr fL)
     exact⟨fm a1 (fm a2 (fm Ow (fm ⟨rfl,rfl,rfl⟩ (fm a1 (fm a2 (fm Ow (fm a3 (fm a4 (e9 Sp))))))))),.intro,fun s1 fP=>fP⟩
   . have c2:=hc _ (aJ _ (aq.2 rfl));have c2:(!eE (yv x) q.2)=true:=c2;have fL:(x,yv x)≠q:=fun e=>by rw[<- e,fT,beq_self_eq_true]at c2;cases c2
     obtain rfl:tv=false:=by rw[hb];exact bC (vu (f:=fun x=>(x,yv x)) hx hr fL)
     exact⟨fm a1 (fm a2 (fm Ow (fm ⟨rfl,rfl,rfl⟩ (fm a1 (fm a2 (fm Ow (fm a3 (fm a4 (fm Sp (fm a3 (fm a4 (e9 Sp)))))))))))),.intro,fun s1 fP=>fP⟩
   . have c1:=hc _ (aP ..);have c2:=hc _ (aJ _ (aq.2 rfl));have c1:(!eE x q.1)=false:=c1;have c2:(!eE (yv x) q.2)=false:=c2;have J4:(x,yv x)=q:=by
      rw[fT,Bool.not_eq_false']at c1 c2;exact Prod.ext (beq_iff_eq.1 c1) (beq_iff_eq.1 c2)
     refine⟨fm a1 (fm a2 (fm Ow (fm ⟨rfl,rfl,rfl⟩ (fm a1 (fm a2 (fm Ow (fm a3 (fm a4 (fm Sp (fm a3 (fm a4 (fm Sp (e9 (pP de be)))))))))))))),fun s1 fP=>⟨i+1,by show zs.length-(i+1)<_;omega,⟨fE,AX (f:=fun x=>(x,yv x)) hx hr J4 he⟩,.norm fP⟩⟩
 . have zO:=aK (hc _ (aq.2 rfl));obtain rfl:i=zs.length:=by rw[lA,lA]at zO;omega
   rw[aT,hz,aT]at he;obtain rfl:tv=true:=by rw[hb];exact bL he
   refine⟨cQ,fun s1 fP=>?_⟩;simp only[andThen,dV];refine c6 fP ?_;refine fu nu (smD p l w zs zs.length) (dI ?_);exact⟨cQ,_,_,_,rfl,.intro⟩
end
theorem XO{bs:List Bool}{i:Nat}{rv:Bool}(h:bs[i]? =some rv):V.dm (dw (lz bs) (i*1) 1)=V.dm [D.bool rv]:=by
 obtain⟨hi,e⟩:=aF.1 h;rw[Dg hi,e]
section
variable(p:jm)(l:List RS)(w:RS){yE:Nat}{zs:List (aa)}{lv:aa->Bool}{yv:aa->aa}
theorem aaZ(bs:List Bool)(i:Nat)(c:gK)(hrc:c.rs.length<=100000)(hi:i<=100000){Q:Exit->St->Prop}
  (pg:∀s',gy ak 9 Tryz.f28.ntmps s' (sS p l w zs [(6,.dL false w.cs.length (lz bs)),(7,iW (i+1))])->Q .normal s'):
  TG ak 9 Tryz.f28.ntmps (dh 3 I1) (sT p l w zs bs c i [(10,qJ c.rs)]) (mK 1 (andThen (fun s'=>TG ak 9 Tryz.f28.ntmps (dY (dY Sn)) s' Q) Q)):=by
 refine cV U ?_;refine fV nu (sm8 p l w zs bs i c) (dI ?_);refine⟨cQ,fun s2 jd=>?_⟩;show TG ak 9 Tryz.f28.ntmps (dh 4 I1) _ _;refine jv 2 c.rs.length (fun a=>sT p l w zs bs c i [(10,qJ c.rs),(12,iW a)]) U U (.norm jd) (fun a ha=>?_) ?_
 . have hx:c.rs[a]? =some c.rs[a]:=ay ha;have aa0:=aN V.dm (fD hx);generalize c.rs[a]=x at aa0 hx;have b1:(0:Int)<=Int.ofNat a/\Int.ofNat a<(Int.ofNat c.rs.length):=⟨az _,de⟩;have b2:(strs c.rs).length=c.rs.length*1:=by rw[eI,bj]
   refine fV nu (sm9 p l w zs bs i a c x) fun g hg hc=>?_;rcases jk hg with rfl|rfl
   . exact⟨fm b1 (fm b2 (fm aa0 (fm b1 (fm b2 (fm aa0 (fm (by rw[fT,beq_self_eq_true];rfl) (e9 (pP de be)))))))),fun s3 xW=>.norm xW⟩
   . exact absurd (aK (hc _ (aq.2 rfl))) de
 . refine fV nu (sm9 p l w zs bs i c.rs.length c []) fun g hg hc=>?_;rcases jk hg with rfl|rfl
   . exact absurd (aH (hc _ (aq.2 rfl))) de
   refine⟨cQ,fun s3 xW=>⟨by simp,?_⟩⟩;obtain⟨LA,hrA⟩:=smA p l w zs bs i c.rs.length c;simp only[dV,mK,andThen];refine c6 xW ?_;refine gT nu mo nZ U hrA (dI ?_);exact⟨e9 (pP de be),fun s4 IN=>pg s4 (.norm IN)⟩
theorem aa1(ho:Obs p yE zs w.cs lv yv)(hl:w.cs.length<=100000)(wR:∀c∈w.cs,c.rs.length<=100000)(bs:List Bool)(hbs:bs.length=w.cs.length)(tv:Bool)(i:Nat)(c:gK)(rv:Bool)(sW:w.cs[i]? =some c)(G0:bs[i]? =some rv)(htv:lv c.dg≠rv->tv=false){Q:Exit->St->Prop}
  (KS:∀s',fB ak 9 Tryz.f28 (XN tv (hL (gq p l))) .ret s'->Q .ret s')
  (pg:lv c.dg=rv->∀s',gy ak 9 Tryz.f28.ntmps s' (sS p l w zs [(6,.dL false w.cs.length (lz bs)),(7,iW (i+1))])->Q .normal s'):
  TG ak 9 Tryz.f28.ntmps (dY Sn) (sS p l w zs [(6,.dL false w.cs.length (lz bs)),(7,iW i)]) Q:=by
 have hi:i<w.cs.length:=(aF.1 sW).1;have kH:V.dm (dw (fq w.cs) (i*3) 3)=V.dm c.d:=by
  obtain⟨h1,h2⟩:=aF.1 sW;rw[<- h2];exact aN V.dm (xO w.cs i h1)
 have xo:c∈w.cs:=aZ sW;have hrc:=wR c xo;have a1:(0:Int)<=Int.ofNat i/\Int.ofNat i<(Int.ofNat w.cs.length):=⟨az _,de⟩;have a2:(lz bs).length=w.cs.length*1:=by rw[qY];omega
 refine cV U ?_;have h25:cT ak 25 [.ptr (some (4,0)),.str c.dg] (hL (G6 p l w c)) 25 (.eo [.str c.da,qJ c.rs,.int .i64 0]) (hL (G6 p l w c)) 25:=
  wz (ns:=Tj p) (ho.h25 c xo) (by rcases p with⟨_|⟨_,_,_⟩,_⟩<;>kernel_rfl)
 have h18:cT ak 18 [.ptr (some (4,0)),.str c.dg] (hL (G6 p l w c)) 51 (.bool true) (hL (G6 p l w c)) 51:=
  wz (ns:=Tj p) (ho.h18 c xo) (by rcases p with⟨_|⟨_,_,_⟩,_⟩<;>kernel_rfl)
 have h17:cT ak 17 [.ptr (some (4,0)),.str c.dg] (hL (G6 p l w c)) 51 (.bool (lv c.dg)) (hL (G6 p l w c)) 51:=by
  have:=ho.h17 c xo;generalize lv c.dg=lb at this ⊢;exact wz (ns:=Tj p) this (by rcases p with⟨_|⟨_,_,_⟩,_⟩<;>kernel_rfl)
 refine fh (i:=1) U ?_;refine iJ  2 (nu.ko afZ h25) (sm6 p l w zs bs i c) (fm a1 (fm (kT _) (fm kH (e9 ⟨rfl,rfl,rfl⟩)))) ?_;show TG ak 9 Tryz.f28.ntmps (dh 2 I1) (sT p l w zs bs c i [(9,.str c.da),(10,qJ c.rs),(11,.int .i64 0)]) _;refine cV U ?_;obtain⟨L7,hr7⟩:=sm7 p l w zs bs i c (lv c.dg) rv;have c0:(V.bool !eE c.da c.da)=V.bool false:=by rw[fT,beq_self_eq_true];rfl
 have c1:V.bool ((Int.ofNat c.rs.length) !=(Int.ofNat c.rs.length))=V.bool false:=by rw[bne_self_eq_false]
 refine gT ((nu.ko aeB h18).ko aeA h17) mo (XN tv (hL (gq p l))) U hr7 fun g hg hc=>?_;rcases jk hg with rfl|rfl
 . have c2:=hc _ (aq.2 rfl);have c2:(!lv c.dg==rv)=true:=c2;have fL:lv c.dg≠rv:=fun e=>by rw[e]at c2;cases rv<;>cases c2
   obtain rfl:=htv fL;exact⟨fm c0 (fm c1 (fm ⟨rfl,rfl,rfl⟩ (fm ⟨rfl,rfl,rfl⟩ (fm a1 (fm a2 (e9 (XO G0))))))),.intro,fun s1 fP=>KS s1 fP⟩
 have c2:=hc _ (aq.2 rfl);have c2:(!lv c.dg==rv)=false:=c2;have J4:lv c.dg=rv:=by
  cases h1:lv c.dg<;>cases h2:rv<;>first|rfl|(rw[h1,h2]at c2;cases c2)
 refine⟨fm c0 (fm c1 (fm ⟨rfl,rfl,rfl⟩ (fm ⟨rfl,rfl,rfl⟩ (fm a1 (fm a2 (e9 (XO G0))))))),fun s1 fP=>c6 fP ?_⟩;show TG ak 9 Tryz.f28.ntmps (dh 3 I1) (sT p l w zs bs c i [(10,qJ c.rs)]) _;exact aaZ p l w bs i c hrc be (pg J4)
end
noncomputable abbrev I2:Code:=dU Tryz.f67
noncomputable abbrev af2:Code:=dO (dh 6 I2)
section
variable(p:jm)(l:List RS)(kk:Int)(F t0 i:Nat)(w:RS)
noncomputable abbrev af3:Code:=dr (dr (dY af2))
def VI:af:=ME 9 p l
def I3(R:ai)(m0 i e:Nat):af:=[(0,.ints .u32 gS),(1,.ints .u32 gR),(3,.cells [.ptr (some (4,0)),.di (some (8,(0+i*2))) e (m0-i) 2]),(4,.cells (xC 9 (9+sh p) (10+sh p) p))]++lgB 9 p++[(9+sh p,.dD none p.es),(10+sh p,.dD none p.rs),(8,.deep R)]
def G7(r:List (Nat×V)):St:=eG ([(0,P3),(1,.int .i64 kk),(4,.bool false)]++r) (hL (VI p l)) (11+sh p)
theorem cr1(q:jm)(l:List RS)(kk:Int):c5 (fK iw 31 [.ptr (some (4,0)),.di (some (9,0)) 1 1 1] (hL (gq p l++[(9,.cells [.int .i64 kk])])) 10 (.eo [],hL (ME 10 q l),(12+sh q))) [] 9 Tryz.f67 [0,1,4,5,6] (eR 4 I2) (cR [P3,.int .i64 kk] (hL (gq p l)) 9) [([],
   [fG [.ptr (some (4,0)),.di (some (9,0)) 1 1 1] (hL (gq p l++[(9,.cells [.int .i64 kk])])) 10],
   .to .normal (G7 q l kk [(5,iW 0),(6,iW l.length)]))]
 :=by rcases p with⟨_|⟨_,_,_⟩,_⟩<;>rcases q with⟨_|⟨_,_,_⟩,_⟩<;>exact cP.of U U U
theorem cr2:c5 iw [(21,.c9 (iW t0)),(22,.split)] 9 Tryz.f67 [0,1,4,5,6] (dO (dh 4 I2)) (G7 p l kk [(5,iW 0),(6,iW l.length)]) [([((Int.ofNat t0==(0:Int)),true)],
   [(V.int aj (IntKind.i64.wrap (Int.ofNat (BitVec.ofInt 64 kk&&&BitVec.ofInt 64 (255:Int)).toNat))=iW t0)],
   .to .normal (G7 p l kk [(5,iW 0),(6,iW 1)])),
  ([((Int.ofNat t0==(0:Int)),false)],
   [(V.int aj (IntKind.i64.wrap (Int.ofNat (BitVec.ofInt 64 kk&&&BitVec.ofInt 64 (255:Int)).toNat))=iW t0)],
   .to .normal (G7 p l kk [(5,iW 0),(6,iW l.length)]))]
 :=by rcases p with⟨_|⟨_,_,_⟩,_⟩<;>exact cP.of U U U
theorem cr3(T:Nat):c5 iw [(24,.c9 (iW t0)),(25,.split),(27,.c9 (iW (T-1)))] 9 Tryz.f67 [0,1,4,5,6] (dO (dh 5 I2)) (G7 p l kk [(5,iW 0),(6,iW T)]) [([((Int.ofNat t0==(255:Int)),true)],
   [(V.int aj (IntKind.i64.wrap (Int.ofNat (BitVec.ofInt 64 kk&&&BitVec.ofInt 64 (255:Int)).toNat))=iW t0),(V.int aj (IntKind.i64.wrap (Int.ofNat T-(1:Int)))=iW (T-1))],
   .to .normal (G7 p l kk [(5,iW (T-1)),(6,iW T)])),
  ([((Int.ofNat t0==(255:Int)),false)],
   [(V.int aj (IntKind.i64.wrap (Int.ofNat (BitVec.ofInt 64 kk&&&BitVec.ofInt 64 (255:Int)).toNat))=iW t0)],
   .to .normal (G7 p l kk [(5,iW 0),(6,iW T)]))]
 :=by rcases p with⟨_|⟨_,_,_⟩,_⟩<;>exact cP.of U U U
theorem cr4(T:Nat):c5 iw [(29,.c9 (iW (T-1)))] 9 Tryz.f67 [0,1,4,5,7] (dO af2) (G7 p l kk [(5,iW F),(6,iW T)]) [([],
   [(V.int aj (IntKind.i64.wrap (Int.ofNat T-(1:Int)))=iW (T-1))],
   .to .normal (G7 p l kk [(5,iW F),(7,iW (T-1))]))]
 :=by rcases p with⟨_|⟨_,_,_⟩,_⟩<;>exact cP.of U U U
theorem cr5:c5 (fK iw 28 [P3,w.v] (hL (VI p l)) (11+sh p) (.bool false,hL (VI p l),(11+sh p))) [(32,.split),(42,.c9 w.v),(34,.c9 (iW (i-1)))] 9 Tryz.f67 [0,1,4,5,7] (af3) (G7 p l kk [(5,iW F),(7,iW i)]) [([((decide (Int.ofNat i>=Int.ofNat F)),true)],
   [((0:Int)<=Int.ofNat i/\Int.ofNat i<(Int.ofNat l.length)),(0+i*2+2<=(gk l).length),(V.agg (D.lN (dw (gk l) (0+i*2) 2))=w.v),fG [P3,w.v] (hL (VI p l)) (11+sh p),(V.int aj (IntKind.i64.wrap (Int.ofNat i-(1:Int)))=iW (i-1))],
   .to .normal (G7 p l kk [(5,iW F),(7,iW (i-1))])),
  ([((decide (Int.ofNat i>=Int.ofNat F)),false)],
   [],
   .to (.exit 0) (G7 p l kk [(5,iW F),(7,iW i)]))]
 :=by rcases p with⟨_|⟨_,_,_⟩,_⟩<;>exact cP.of U U U
theorem cr6:c5 (fK iw 28 [P3,w.v] (hL (VI p l)) (11+sh p) (.bool true,hL (VI p l),(11+sh p))) [(32,.split),(42,.c9 w.v),(51,.c9 (iW (i+1)))] 9 Tryz.f67 [0,1,4,5,7] (af3) (G7 p l kk [(5,iW F),(7,iW i)]) [([((decide (Int.ofNat i>=Int.ofNat F)),true)],
   [((0:Int)<=Int.ofNat i/\Int.ofNat i<(Int.ofNat l.length)),(0+i*2+2<=(gk l).length),(V.agg (D.lN (dw (gk l) (0+i*2) 2))=w.v),fG [P3,w.v] (hL (VI p l)) (11+sh p),(V.int aj (IntKind.i64.wrap (Int.ofNat i+(1:Int)))=iW (i+1)),((0:Int)<=Int.ofNat (i+1)/\Int.ofNat (i+1)<=(Int.ofNat l.length)),((0:Int)<=Int.ofNat i/\Int.ofNat i<=(Int.ofNat (i+1)))],
   .ret (.bool true) (hL (I3 p (gk l) l.length i ((i+1)-i))) (11+sh p)),
  ([((decide (Int.ofNat i>=Int.ofNat F)),false)],
   [],
   .to (.exit 0) (G7 p l kk [(5,iW F),(7,iW i)]))]
 :=by rcases p with⟨_|⟨_,_,_⟩,_⟩<;>exact cP.of U U U
end
section
variable(p:jm)(l:List RS)(w:RS){yE:Nat}{zs:List (aa)}{cs:List gK}{lv:aa->Bool}{yv:aa->aa}
theorem aa2(ho:Obs p yE zs w.cs lv yv)(hk:yE=w.cs.length)(hz:zs.length=w.ro.length)(GZ:zs.length<=100000)(hl:w.cs.length<=100000)(wR:∀c∈w.cs,c.rs.length<=100000):
  TG ak 9 Tryz.f28.ntmps (dh 3 Dl) (sS p l w zs []) (fB ak 9 Tryz.f28 (XN (sA yE zs lv yv w) (hL (gq p l)))):=by
 have hq:sA yE zs lv yv w=(decide (w.cs.map (fun c=>lv c.dg)=fc w)&&decide (zs.map (fun x=>(x,yv x))=w.ro)):=by
  unfold sA;rw[bL hk,bL hz,Bool.true_and,Bool.true_and]
 rw[hq];have h68:=fun(h:Tr O) (n:Nat)=>VH w h n hl be wR;have N8:=zl w;generalize fc w=bs at h68 N8;refine cV U ?_;refine fV (nu.ko af1 (h68 _ _)) (sm3 p l w zs bs) (dI ?_);refine⟨e9 ⟨rfl,rfl,rfl⟩,fun s' dX=>c6 dX ?_⟩;show TG ak 9 Tryz.f28.ntmps (dh 4 Dl) _ _;refine cV U ?_;refine cV U ?_;refine fV nu (sm4 p l w zs bs) (dI ?_);refine⟨cQ,fun s' dX=>?_⟩;refine js (α:=Nat) 0 (fun i=>w.cs.length-i) (fun i=>i<=w.cs.length/\(w.cs.take i).map (fun c=>lv c.dg)=bs.take i) (fun i=>sS p l w zs [(6,.dL false w.cs.length (lz bs)),(7,iW i)]) U U 0 ⟨aW _,rfl⟩ (.norm dX) fun i ⟨hi,he⟩=>?_;refine cV U ?_;refine fV nu (sm5 p l w zs bs i) fun g hg hc=>?_;rcases jk hg with rfl|rfl
 . have fE:i<w.cs.length:=by have:=aH (hc _ (aq.2 rfl));rw[lA,lA]at this;omega
   refine⟨cQ,fun s0 FH=>c6 FH ?_⟩;have sW:w.cs[i]? =some w.cs[i]:=ay fE;have G0:bs[i]? =some (bs[i]'(by omega)):=ay be;generalize w.cs[i]=c at sW;generalize bs[i]'(by omega)=rv at G0;refine aa1 p l w ho hl wR bs N8 _ i c rv sW G0 (fun fL=>?_) (fun s1 h=>h) fun J4 s1 fP=>⟨i+1,by show w.cs.length-(i+1)<_;omega,⟨fE,AX (f:=fun c:gK=>lv c.dg) sW G0 J4 he⟩,fP⟩;rw[bC (vu (f:=fun c:gK=>lv c.dg) sW G0 fL),Bool.false_and]
 . have zO:=aK (hc _ (aq.2 rfl));obtain rfl:i=w.cs.length:=by rw[lA,lA]at zO;omega
   rw[aT,<- N8,aT]at he;refine⟨cQ,fun s1 fP=>?_⟩;simp only[andThen,dV];refine c6 fP ?_;exact aaY p l w ho hz GZ w.cs.length _ (by rw[bL he,Bool.true_and]) bs
theorem m28(ho:Obs p yE zs cs lv yv)(oQ:yE=w.cs.length->w.cs=cs)(GZ:zs.length<=100000)(hl:w.cs.length<=100000)(wR:∀c∈w.cs,c.rs.length<=100000):
  cT ak 28 [P3,w.v] (hL (gq p l)) 9 (.bool (sA yE zs lv yv w)) (hL (gq p l)) 9:=by
 refine cZ Tryz.func28 (code:=Dl) U U ?_;have h23:cT ak 23 [.ptr (some (4,0))] (hL (Dm p l w)) 10 (qJ zs) (hL (Dm p l w)) 10:=
  wz (ns:=Tj p) ho.h23 (by rcases p with⟨_|⟨_,_,_⟩,_⟩<;>kernel_rfl)
 have h20:cT ak 20 [.ptr (some (4,0))] (hL (Dm p l w)) 27 (.int .i64 (Int.ofNat yE)) (hL (Dm p l w)) 27:=
  wz (ns:=Tj p) ho.h20 (by rcases p with⟨_|⟨_,_,_⟩,_⟩<;>kernel_rfl)
 refine iJ  2 (nu.ko afY h23) (sm1 p l w zs) (e9 ⟨rfl,rfl,rfl⟩) ?_;show TG ak 9 Tryz.f28.ntmps (dh 2 Dl) _ _;refine cV U ?_;obtain⟨L2,Ip⟩:=sm2 p l w zs yE;refine gT (nu.ko MH h20) mo (XN (sA yE zs lv yv w) (hL (gq p l))) U Ip fun g hg hc=>?_;rcases xH hg with rfl|rfl|rfl
 . have c1:=hc _ (aq.2 rfl);have c1:(Int.ofNat yE !=Int.ofNat w.cs.length)=true:=c1;rw[Dn,Bool.not_eq_true']at c1;have hf:sA yE zs lv yv w=false:=by unfold sA;rw[c1,Bool.false_and]
   rw[hf];exact⟨e9 ⟨rfl,rfl,rfl⟩,.intro,fun s1 fP=>fP⟩
 . have c1:=hc _ (aJ _ (aq.2 rfl));have c1:(Int.ofNat zs.length !=Int.ofNat w.ro.length)=true:=c1;rw[Dn,Bool.not_eq_true']at c1;have hf:sA yE zs lv yv w=false:=by unfold sA;rw[c1,Bool.false_and,Bool.and_false]
   rw[hf];exact⟨e9 ⟨rfl,rfl,rfl⟩,.intro,fun s1 fP=>fP⟩
 . have c0:=hc _ (aP ..);have c1:=hc _ (aJ _ (aq.2 rfl));have c0:(Int.ofNat yE !=Int.ofNat w.cs.length)=false:=c0;have c1:(Int.ofNat zs.length !=Int.ofNat w.ro.length)=false:=c1;rw[Dn,Bool.not_eq_false']at c0 c1;have hk:=aH c0;have hz:=aH c1;refine⟨e9 ⟨rfl,rfl,rfl⟩,fun s' dX=>c6 dX ?_⟩;have DS:=ho;rw[<- oQ hk]at DS;exact aa2 p l w DS hk hz GZ hl wR
end
theorem XR:31<Tryz.prog.funcs.size:=au U
theorem Sq:28<Tryz.prog.funcs.size:=au U
section
variable(kk:Nat)(p:jm)(l:List RS)
def crR:af:=match p.lo with
 |none=>Ee 0 8 9 p
 |some _=>Ee 8 9 10 p
def nC:Nat:=match p.lo with|none=>10|some _=>11
def IsC(kk:Int)(p q:jm):Prop:=cT ak 31 [P3,.di (some (7,0)) 1 1 1] (hL (eN p++[(7,.cells [.int .i64 kk])])) 8 (.eo []) (hL (crR q)) (nC q)
theorem Am{kk:Nat}(h:kk<=1000000):V.int aj (IntKind.i64.wrap (Int.ofNat (BitVec.ofInt 64 (kk:Int)&&&BitVec.ofInt 64 (255:Int)).toNat))=iW (kk%256):=by
 have e:(BitVec.ofInt 64 (kk:Int)&&&BitVec.ofInt 64 (255:Int)).toNat=kk%256:=by
  have h1:(BitVec.ofInt 64 (kk:Int)).toNat=kk:=by
   rw[BitVec.toNat_ofInt];omega
  rw[BitVec.toNat_and,h1,show(BitVec.ofInt 64 (255:Int)).toNat=2^8-1 from rfl,Nat.and_two_pow_sub_one_eq_mod]
 rw[e];exact aN _ (fC de de)
theorem zo{a b:Nat}:(Int.ofNat a==(b:Int))=decide (a=b):=by
 by_cases h:a=b
 . subst h;rw[bL rfl];exact beq_self_eq_true _
 . rw[bC h];exact beq_eq_false_iff_ne.2 fun q=>h (Int.ofNat.inj q)
def Fj:Nat:=if kk%256=0 then 1 else l.length
def XS:Nat:=if kk%256=255 then Fj kk l-1 else 0
theorem Ox(i:Nat)(w:RS)(h:l[i]? =some w):(List.drop (0+i*2) (gk l)).take (1*2)=gk [w]:=by
 obtain⟨hi,e⟩:=aF.1 h;have:=Di l i hi;rw[e]at this;unfold dw at this;rw[bH];exact this
def nsK:List (Option Nat):=[some 0,some 1,some 2,some 4,lgN 5 p,some 6,some 7,some 9]
abbrev nsN:List (Option Nat):=aaT 9 (9+sh p) (10+sh p) 8 p
end
theorem MI{f:FuncId}{args:ag}{h:Tr O}(p:jm)(l:List RS)(i:Nat)(w:RS)(hw:l[i]? =some w)(hh:cT ak f args h 9 (.bool true) (hL (I3 p (gk l) l.length i 1)) (11+sh p)):cT ak f args h 9 (.bool true) (hL (AW p [w])) (nR p):=by
 have e:=Ox l i w hw;have st:∀(R:ai) (m0:Nat),Step 9 (IZ (.bool true) (hL (I3 p R m0 i 1)) (11+sh p)) (IZ (.bool true) (hL (moD 9 p 1 ((List.drop (0+i*2) R).take (1*2)))) (12+sh p)):=fun R m0=>
  by rcases p with⟨_|⟨_,_,_⟩,_⟩<;>exact(Step.rb 3 1 (s2:=_) rfl).trans (.Ff 5 (live:=[0]) U)
 have:=hh.step (st _ _);rw[e]at this;exact this
section
variable(p:jm)(l:List RS)
theorem m67(kk:Nat)(hk:kk<=1000000)(hl:l.length<=1000)(h0:0<l.length)(j:Nat)(w0:RS)(hj:XS kk l<=j/\j<Fj kk l)(Ql:l[j]? =some w0)
  (hsm:∀(i:Nat) (w:RS),l[i]? =some w->j<=i->i<Fj kk l->cT ak 28 [P3,w.v] (hL (gq p l)) 9 (.bool (decide (i=j))) (hL (gq p l)) 9):
  TG ak 9 Tryz.f67.ntmps (dh 4 I2) (G7 p l (kk:Int) [(5,iW 0),(6,iW l.length)]) (fB ak 9 Tryz.f67 fun v h n9=>v= .bool true/\h=hL (I3 p (gk l) l.length j 1)/\n9=(11+sh p)):=by
 have hT:Fj kk l<=l.length:=by unfold Fj;split<;>omega
 have anT:∀(i:Nat) (w:RS),l[i]? =some w->j<=i->i<Fj kk l->cT ak 28 [P3,w.v] (hL (VI p l)) (11+sh p) (.bool (decide (i=j))) (hL (VI p l)) (11+sh p):=by
  intro i w h1 h2 h3;have:=hsm i w h1 h2 h3;generalize decide (i=j)=tv at this ⊢;exact wz (ns:=nsN p) this (by rcases p with⟨_|⟨_,_,_⟩,_⟩<;>kernel_rfl)
 have go6:∀F T:Nat,F=XS kk l->T=Fj kk l->TG ak 9 Tryz.f67.ntmps (dh 6 I2) (G7 p l (kk:Int) [(5,iW F),(6,iW T)]) (fB ak 9 Tryz.f67 fun v h n9=>v= .bool true/\h=hL (I3 p (gk l) l.length j 1)/\n9=(11+sh p)):=by
  intro F T hF hTe;refine cV U ?_;refine cV U ?_;obtain⟨L4,G4⟩:=cr4 p l (kk:Int) F T;have hT1:V.int aj (IntKind.i64.wrap (Int.ofNat T-(1:Int)))=iW (T-1):=aN _ (by rw[fC de de,lA,lA];omega);refine gT nu mo nZ U G4 (dI ?_);refine⟨e9 hT1,fun s' dX=>?_⟩;refine js (α:=Nat) 0 (fun i=>i) (fun i=>j<=i/\i<T) (fun i=>G7 p l (kk:Int) [(5,iW F),(7,iW i)]) U U (T-1) ⟨be,be⟩ (.norm dX) fun i ⟨Yo,zw⟩=>?_;have Pv:i<l.length:=by omega
  have hw:l[i]? =some l[i]:=ay Pv;have kH:V.agg (D.lN (dw (gk l) (0+i*2) 2))=(l[i]).v:=by rw[bH,Di l i Pv];rfl
  have o7:0+i*2+2<=(gk l).length:=by rw[sw];omega
  have Xw:=anT i l[i] hw Yo be;generalize l[i]=w at kH hw Xw;have a1:(0:Int)<=Int.ofNat i/\Int.ofNat i<(Int.ofNat l.length):=⟨az _,de⟩;by_cases OM:i=j
  . subst OM;rw[bL rfl]at Xw;obtain⟨L6,KW⟩:=cr6 p l (kk:Int) F i w;refine gT (nu.ko Sq Xw) mo (fun v h n9=>v= .bool true/\h=hL (I3 p (gk l) l.length i 1)/\n9=(11+sh p)) U KW fun g hg hc=>?_;rcases jk hg with rfl|rfl
    . refine⟨fm a1 (fm o7 (fm kH (fm ⟨rfl,rfl,rfl⟩ (fm (pP de be) (fm ⟨az _,de⟩ (e9 ⟨az _,de⟩)))))),⟨rfl,?_,rfl⟩,fun s1 fP=>fP⟩;have e1:i+1-i=1:=by omega
      rw[e1]
    . exact absurd (aK (hc _ (aq.2 rfl))) de
  . rw[bC OM]at Xw;refine fV (nu.ko Sq Xw) (cr5 p l (kk:Int) F i w) fun g hg hc=>?_;rcases jk hg with rfl|rfl
    . refine⟨fm a1 (fm o7 (fm kH (fm ⟨rfl,rfl,rfl⟩ (e9 (aN _ (by rw[fC de de,lA,lA];omega)))))),fun s1 fP=>⟨i-1,be,⟨be,be⟩,.norm fP⟩⟩
    . exact absurd (aK (hc _ (aq.2 rfl))) de
 have go5:∀T:Nat,T=Fj kk l->TG ak 9 Tryz.f67.ntmps (dh 5 I2) (G7 p l (kk:Int) [(5,iW 0),(6,iW T)]) (fB ak 9 Tryz.f67 fun v h n9=>v= .bool true/\h=hL (I3 p (gk l) l.length j 1)/\n9=(11+sh p)):=by
  intro T hTe;have hT1:V.int aj (IntKind.i64.wrap (Int.ofNat T-(1:Int)))=iW (T-1):=aN _ (by rw[fC de de,lA,lA];omega);refine cV U ?_;refine fV nu (cr3 p l (kk:Int) (kk%256) T) fun g hg hc=>?_;rcases jk hg with rfl|rfl
  . have c1:(Int.ofNat (kk%256)==((255:Nat):Int))=true:=hc _ (aq.2 rfl);rw[zo]at c1;exact⟨fm (Am hk) (e9 hT1),fun s' dX=>c6 dX (go6 (T-1) T (by unfold XS;rw[aG (aH c1),hTe]) hTe)⟩
  . have c1:(Int.ofNat (kk%256)==((255:Nat):Int))=false:=hc _ (aq.2 rfl);rw[zo]at c1;exact⟨e9 (Am hk),fun s' dX=>c6 dX (go6 0 T (by unfold XS;rw[aI (aK c1)]) hTe)⟩
 refine cV U ?_;refine fV nu (cr2 p l (kk:Int) (kk%256)) fun g hg hc=>?_;rcases jk hg with rfl|rfl
 . have c1:(Int.ofNat (kk%256)==((0:Nat):Int))=true:=hc _ (aq.2 rfl);rw[zo]at c1;exact⟨e9 (Am hk),fun s' dX=>c6 dX (go5 1 (by unfold Fj;rw[aG (aH c1)]))⟩
 . have c1:(Int.ofNat (kk%256)==((0:Nat):Int))=false:=hc _ (aq.2 rfl);rw[zo]at c1;exact⟨e9 (Am hk),fun s' dX=>c6 dX (go5 l.length (by unfold Fj;rw[aI (aK c1)]))⟩
end
theorem c67(p:jm)(q:jm)(l:List RS)(kk:Nat)(hk:kk<=1000000)(hl:l.length<=1000)(h0:0<l.length)(j0:Nat)(w0:RS)(hj:XS kk l<=j0/\j0<Fj kk l)(Ql:l[j0]? =some w0)(hC:IsC (kk:Int) p q)
  (hsm:∀(i:Nat) (w:RS),l[i]? =some w->j0<=i->i<Fj kk l->cT ak 28 [P3,w.v] (hL (gq q l)) 9 (.bool (decide (i=j0))) (hL (gq q l)) 9):
  cT ak 67 [P3,.int .i64 (kk:Int)] (hL (gq p l)) 9 (.bool true) (hL (AW q [w0])) (nR q):=by
 refine MI q l j0 w0 Ql (cZ Tryz.func67 (code:=I2) U U ?_);have h31:cT ak 31 [.ptr (some (4,0)),.di (some (9,0)) 1 1 1] (hL (gq p l++[(9,.cells [.int .i64 (kk:Int)])])) 10 (.eo []) (hL (ME 10 q l)) (12+sh q):=
  Dk (ns:=nsK p) hC 10 (by rcases p with⟨_|⟨_,_,_⟩,_⟩<;>rcases q with⟨_|⟨_,_,_⟩,_⟩<;>kernel_rfl)
 obtain⟨L1,DT⟩:=cr1 p q l (kk:Int);exact nh 4 (nu.ko XR h31) mo U DT (e9 ⟨rfl,rfl,rfl⟩) (m67 q l kk hk hl h0 j0 w0 hj Ql hsm)
noncomputable abbrev xT:Code:=dU Tryz.f27
section
variable(p q:jm)(l l1:List RS)(x y z:Int)
def lD(d:aa):af:=gq p l++[(9,lW x y z d)]
def lE(d:aa):af:=Lo 10 p l++[(9,lW x y z d)]
theorem d0(d:aa):c5 (fK iw 64 [P3,rC x y z d] (hL (lD p l x y z d)) 10 (.bool true,hL (lE q l1 x y z d),(13+sh q))) [(7,.c9 (.int .u8 0))] 9 Tryz.f27 [] (xT) (cR [P3,rC x y z d] (hL (gq p l)) 9) [([],
   [(V.int IntKind.u8 (x.tmod (10:Int))=V.int IntKind.u8 (0:Int)),fG [P3,rC x y z d] (hL (lD p l x y z d)) 10],
   .ret (.bool true) (hL (AW q l1)) (nR q))]
 :=by rcases p with⟨_|⟨_,_,_⟩,_⟩<;>rcases q with⟨_|⟨_,_,_⟩,_⟩<;>exact cP.of U U U
theorem d1(d:aa):c5 (fK iw 64 [P3,rC x y z d] (hL (lD p l x y z d)) 10 (.bool true,hL (lE q l1 x y z d),(13+sh q))) [(7,.c9 (.int .u8 1))] 9 Tryz.f27 [] (xT) (cR [P3,rC x y z d] (hL (gq p l)) 9) [([],
   [(V.int IntKind.u8 (x.tmod (10:Int))=V.int IntKind.u8 (1:Int)),fG [P3,rC x y z d] (hL (lD p l x y z d)) 10],
   .ret (.bool true) (hL (AW q l1)) (nR q))]
 :=by rcases p with⟨_|⟨_,_,_⟩,_⟩<;>rcases q with⟨_|⟨_,_,_⟩,_⟩<;>exact cP.of U U U
theorem d2(d:aa):c5 (fK iw 64 [P3,rC x y z d] (hL (lD p l x y z d)) 10 (.bool true,hL (lE q l1 x y z d),(13+sh q))) [(7,.c9 (.int .u8 2))] 9 Tryz.f27 [] (xT) (cR [P3,rC x y z d] (hL (gq p l)) 9) [([],
   [(V.int IntKind.u8 (x.tmod (10:Int))=V.int IntKind.u8 (2:Int)),fG [P3,rC x y z d] (hL (lD p l x y z d)) 10],
   .ret (.bool true) (hL (AW q l1)) (nR q))]
 :=by rcases p with⟨_|⟨_,_,_⟩,_⟩<;>rcases q with⟨_|⟨_,_,_⟩,_⟩<;>exact cP.of U U U
theorem d3(d:aa):c5 (fK iw 64 [P3,rC x y z d] (hL (lD p l x y z d)) 10 (.bool true,hL (lE q l1 x y z d),(13+sh q))) [(7,.c9 (.int .u8 3))] 9 Tryz.f27 [] (xT) (cR [P3,rC x y z d] (hL (gq p l)) 9) [([],
   [(V.int IntKind.u8 (x.tmod (10:Int))=V.int IntKind.u8 (3:Int)),fG [P3,rC x y z d] (hL (lD p l x y z d)) 10],
   .ret (.bool true) (hL (AW q l1)) (nR q))]
 :=by rcases p with⟨_|⟨_,_,_⟩,_⟩<;>rcases q with⟨_|⟨_,_,_⟩,_⟩<;>exact cP.of U U U
theorem d4(d:aa):c5 (fK iw 65 [P3,rC x y z d] (hL (lD p l x y z d)) 10 (.bool true,hL (lE q l1 x y z d),(13+sh q))) [(7,.c9 (.int .u8 4))] 9 Tryz.f27 [] (xT) (cR [P3,rC x y z d] (hL (gq p l)) 9) [([],
   [(V.int IntKind.u8 (x.tmod (10:Int))=V.int IntKind.u8 (4:Int)),fG [P3,rC x y z d] (hL (lD p l x y z d)) 10],
   .ret (.bool true) (hL (AW q l1)) (nR q))]
 :=by rcases p with⟨_|⟨_,_,_⟩,_⟩<;>rcases q with⟨_|⟨_,_,_⟩,_⟩<;>exact cP.of U U U
theorem d5(d:aa):c5 (fK iw 65 [P3,rC x y z d] (hL (lD p l x y z d)) 10 (.bool true,hL (lE q l1 x y z d),(13+sh q))) [(7,.c9 (.int .u8 5))] 9 Tryz.f27 [] (xT) (cR [P3,rC x y z d] (hL (gq p l)) 9) [([],
   [(V.int IntKind.u8 (x.tmod (10:Int))=V.int IntKind.u8 (5:Int)),fG [P3,rC x y z d] (hL (lD p l x y z d)) 10],
   .ret (.bool true) (hL (AW q l1)) (nR q))]
 :=by rcases p with⟨_|⟨_,_,_⟩,_⟩<;>rcases q with⟨_|⟨_,_,_⟩,_⟩<;>exact cP.of U U U
theorem d6(d:aa):c5 (fK iw 65 [P3,rC x y z d] (hL (lD p l x y z d)) 10 (.bool true,hL (lE q l1 x y z d),(13+sh q))) [(7,.c9 (.int .u8 6))] 9 Tryz.f27 [] (xT) (cR [P3,rC x y z d] (hL (gq p l)) 9) [([],
   [(V.int IntKind.u8 (x.tmod (10:Int))=V.int IntKind.u8 (6:Int)),fG [P3,rC x y z d] (hL (lD p l x y z d)) 10],
   .ret (.bool true) (hL (AW q l1)) (nR q))]
 :=by rcases p with⟨_|⟨_,_,_⟩,_⟩<;>rcases q with⟨_|⟨_,_,_⟩,_⟩<;>exact cP.of U U U
theorem d9(d:aa)(kk:Int):c5 (fK iw 67 [P3,.int .i64 kk] (hL (lD p l x y z d)) 10 (.bool true,hL (lE q l1 x y z d),(13+sh q))) [(7,.c9 (.int .u8 9)),(70,.c9 (.int .i64 kk))] 9 Tryz.f27 [] (xT) (cR [P3,rC x y z d] (hL (gq p l)) 9) [([],
   [(V.int IntKind.u8 (x.tmod (10:Int))=V.int IntKind.u8 (9:Int)),(V.int aj (IntKind.i64.wrap (IntKind.i64.wrap y*IntKind.i64.wrap ((1:Int)+IntKind.i64.wrap (IntKind.i64.wrap (z.tmod (2:Int))*(3:Int)))))=V.int aj kk),fG [P3,.int .i64 kk] (hL (lD p l x y z d)) 10],
   .ret (.bool true) (hL (AW q l1)) (nR q))]
 :=by rcases p with⟨_|⟨_,_,_⟩,_⟩<;>rcases q with⟨_|⟨_,_,_⟩,_⟩<;>exact cP.of U U U
end
section
variable(p q:jm)(l:List RS)
def lF(g c r:Nat)(R:ai)(m0 i:Nat)(x y z:Int)(d:aa):af:=[(0,.ints .u32 gS),(1,.ints .u32 gR),(3,.cells [.ptr (some (4,0)),.di (some (8,(0+i*2))) (m0-i) (m0-i) 2]),(4,.cells (xC g c r p))]++lgB g p++[(c,.dD none p.es),(r,.dD none p.rs),(8,.deep R),(9,lW x y z d)]
def lG(g c r a:Nat)(R:ai)(w:RS)(ex:af):af:=[(0,.ints .u32 gS),(1,.ints .u32 gR),(3,.cells [.ptr (some (4,0)),.di (some (a,0)) 1 1 2]),(4,.cells (xC g c r p))]++lgB g p++[(c,.dD none p.es),(r,.dD none p.rs),(8,.deep R)]++ex++[(a,bx w)]
theorem d7(i:Nat)(x y z:Int)(d:aa):c5 (fK iw 66 [.ptr (some (4,0))] (hL (lF p 5 6 7 (gk l) l.length i x y z d)) 25 (.int .i64 0,hL (lF q 25 (25+sh q) (26+sh q) (gk l) l.length i x y z d),(27+sh q))) [(7,.c9 (.int .u8 7)),(35,.c9 (iW i))] 9 Tryz.f27 [] (xT) (cR [P3,rC x y z d] (hL (gq p l)) 9) [([],
   [(V.int IntKind.u8 (x.tmod (10:Int))=V.int IntKind.u8 (7:Int)),(V.int aj (IntKind.i64.wrap ((Int.ofNat l.length)-(1:Int)))=iW i),((0:Int)<=Int.ofNat i/\Int.ofNat i<=(Int.ofNat l.length)),fG [.ptr (some (4,0))] (hL (lF p 5 6 7 (gk l) l.length i x y z d)) 25],
   .ret (.bool true) (hL (I3 q (gk l) l.length i (l.length-i))) (11+sh q))]
 :=by rcases p with⟨_|⟨_,_,_⟩,_⟩<;>rcases q with⟨_|⟨_,_,_⟩,_⟩<;>exact cP.of U U U
theorem d8(sn w:RS)(x y z:Int)(d:aa):c5 (fK (fK (fK iw 29 [P3] (hL (lD p l x y z d)) 10 (sn.v,hL (lD p l x y z d),10)) 32 [sn.v] (hL (lD p l x y z d)) 10 (w.v,hL (lD p l x y z d),10)) 19 [.ptr (some (4,0))] (hL (lG p 5 6 7 10 (gk l) w [(9,lW x y z d)])) 11 (.int .i64 0,hL (lG q 11 (11+sh q) (12+sh q) 10 (gk l) w [(9,lW x y z d)]),(13+sh q))) [(7,.c9 (.int .u8 8))] 9 Tryz.f27 [] (xT) (cR [P3,rC x y z d] (hL (gq p l)) 9) [([],
   [(V.int IntKind.u8 (x.tmod (10:Int))=V.int IntKind.u8 (8:Int)),fG [P3] (hL (lD p l x y z d)) 10,fG [sn.v] (hL (lD p l x y z d)) 10,fG [.ptr (some (4,0))] (hL (lG p 5 6 7 10 (gk l) w [(9,lW x y z d)])) 11],
   .ret (.bool true) (hL (lG q 9 (9+sh q) (10+sh q) (11+sh q) (gk l) w [])) (12+sh q))]
 :=by rcases p with⟨_|⟨_,_,_⟩,_⟩<;>rcases q with⟨_|⟨_,_,_⟩,_⟩<;>exact cP.of U U U
end
def tR(s:RS)(y z:Nat):aa:=if y%4=0 then[]else kE s z
theorem MJ(y:Nat):((y:Int).tmod (4:Int)==(0:Int))=decide (y%4=0):=by
 rw[cz be];by_cases h:y%4=0
 . rw[bL h];exact beq_iff_eq.2 be
 . rw[bC h];exact beq_eq_false_iff_ne.2 be
theorem m65(p:jm)(q:jm)(l:List RS)(s:RS)(x y z:Nat)(d:aa)(hy:y<=255)(hz:z<=255)(hs:s.cs.length<=100000)(hr:s.ro.length<64)(hl:l.length<=999)
  (hS:Ak 16 [.str (MD y),.str (tR s y z)] p (.int .i64 (oL s (MD y) (tR s y z)).er) q):
  cT ak 65 [P3,rC x y z d] (hL (gq p (l++[s]))) 9 (.bool true) (hL (AW q (vt (l++[s]) (oL s (MD y) (tR s y z))))) (nR q):=by
 have h29:=m29 p l s be;have h89:=m89 p l s z hz be be;have LB:=VB y;have h90:=fun(h:Tr O) (n:Nat)=>VF s (MD y) (tR s y z) h n hs hr (fun e=>by rw[e]at LB;cases LB) be;have h91:=fun(h:Tr O) (n:Nat)=>VG y hy h n;have o7:(l++[s]).length<=1000:=by rw[ax];simp;omega
 have go:∀Q,TG ak 9 Tryz.f65.ntmps (dh 5 zn) (sYs q (l++[s]) (oL s (MD y) (tR s y z))) Q->TG ak 9 Tryz.f65.ntmps zn (cR [P3,rC x y z d] (hL (gq p (l++[s]))) 9) Q:=by
  intro Q h;generalize l++[s]=fo at h29 h89 h ⊢;generalize oL s (MD y) (tR s y z)=r at hS h90 h;have k89:cT ak 89 [P3,.int .u8 (z:Int)] (hL (gq p fo++[(9,lW x y z d)])) 10 (.str (kE s z)) (hL (gq p fo++[(9,lW x y z d)])) 10:=by
   generalize kE s z=w at h89 ⊢;exact wz (ns:=Ti p) h89 (by rcases p with⟨_|⟨_,_,_⟩,_⟩<;>kernel_rfl)
  refine iJ  2 (nu.ko Sj k89) (yp1 p fo x y z d (kE s z)) (e9 ⟨rfl,rfl,rfl⟩) ?_;show TG ak 9 Tryz.f65.ntmps (dh 2 zn) (sYq p fo x y z d (kE s z)) Q;have go2:∀e,e=tR s y z->TG ak 9 Tryz.f65.ntmps (dh 3 zn) (sYq p fo x y z d e) Q:=by
   intro e he;rw[<- he]at hS h90;clear he;have k29:cT ak 29 [P3] (hL (gq p fo++[(9,lW x y z d)])) 19 s.v (hL (gq p fo++[(9,lW x y z d)])) 19:=
    wz (ns:=Ti p) h29 (by rcases p with⟨_|⟨_,_,_⟩,_⟩<;>kernel_rfl)
   generalize MD y=nm at hS h90 h91;refine cV U ?_;refine fV (((nu.ko Dh k29).ko XM (h91 _ _)).ko afV (h90 _ _)) (yp3 p fo s x y z d e nm r) (dI ?_);refine⟨fm ⟨rfl,rfl,rfl⟩ (fm ⟨rfl,rfl,rfl⟩ (e9 ⟨rfl,rfl,rfl⟩)),fun s' dX=>c6 dX ?_⟩;show TG ak 9 Tryz.f65.ntmps (dh 4 zn) (sYr p fo x y z d e r) Q;refine cV U ?_;have hS2:cT ak 16 [.ptr (some (4,0)),.str nm,.str e] (hL (gq p fo++[(9,lW x y z d),(10,Fg r)])) 21 (.int .i64 r.er) (hL (ME 21 q fo++[(9,lW x y z d),(10,Fg r)])) (23+sh q):=
    Dk (ns:=Tj p) hS 21 (by rcases p with⟨_|⟨_,_,_⟩,_⟩<;>rcases q with⟨_|⟨_,_,_⟩,_⟩<;>kernel_rfl)
   refine fV ((nu.ko XM (h91 _ _)).ko Xy hS2) (yp4 p q fo x y z d e nm r) (dI ?_);exact⟨fm ⟨rfl,rfl,rfl⟩ (e9 ⟨rfl,rfl,rfl⟩),fun s' dX=>c6 dX h⟩
  refine cV U ?_;refine fV nu (yp2 p fo x y z d (kE s z)) fun g hg hc=>?_;rcases jk hg with rfl|rfl
  . have c1:decide (y%4=0)=true:=(MJ y).symm.trans (hc _ (aq.2 rfl));exact⟨cQ,fun s' dX=>c6 dX (go2 [] (by unfold tR;rw[aG (aH c1)]))⟩
  . have c1:decide (y%4=0)=false:=(MJ y).symm.trans (hc _ (aq.2 rfl));exact⟨cQ,fun s' dX=>c6 dX (go2 (kE s z) (by unfold tR;rw[aI (aK c1)]))⟩
 generalize oL s (MD y) (tR s y z)=r at go;generalize l++[s]=fo at go o7;refine MG q fo r (fun hch=>?_) (fun hch=>?_)
 . refine cZ Tryz.func65 (code:=zn) U U (go _ ?_);refine cV U ?_;obtain⟨L6,KW⟩:=yp5 q fo r;rw[MF]at KW;refine gT nu mo nZ U KW fun g hg hc=>?_;rcases jk hg with rfl|rfl
   . refine⟨fm (by rw[sw];omega) (fm dN (e9 (I0 be))),fun s' dX=>c6 dX ?_⟩;refine fu nu (yp7 q (fo.length+1) (gk (fo++[r.s])) r) (dI ?_);exact⟨e9 (GS _),_,_,_,rfl,rfl,rfl,rfl⟩
   . have c1:r.ch=false:=hc _ (aq.2 rfl);rw[hch]at c1;cases c1
 . refine cZ Tryz.func65 (code:=zn) U U (go _ ?_);refine cV U ?_;refine fV nu (yp5 q fo r) fun g hg hc=>?_;rcases jk hg with rfl|rfl
   . have c1:r.ch=true:=hc _ (aq.2 rfl);rw[hch]at c1;cases c1
   . refine⟨cQ,fun s' dX=>c6 dX ?_⟩;refine fu nu (yp8 q fo r) (dI ?_);exact⟨e9 (GS _),_,_,_,rfl,rfl,rfl,rfl⟩
theorem MK:64<Tryz.prog.funcs.size:=au U
theorem Sr:65<Tryz.prog.funcs.size:=au U
theorem af6:67<Tryz.prog.funcs.size:=au U
theorem af7:32<Tryz.prog.funcs.size:=au U
theorem XV:19<Tryz.prog.funcs.size:=au U
theorem Ef{x v:Nat}(h:x%10=v):V.int IntKind.u8 ((x:Int).tmod (10:Int))=V.int IntKind.u8 (v:Int):=aN _ (by rw[cz be];omega)
def VJ(y z:Nat):Nat:=y*(1+z%2*3)
theorem aa3{y z:Nat}(hy:y<=255):V.int aj (IntKind.i64.wrap (IntKind.i64.wrap (y:Int)*IntKind.i64.wrap ((1:Int)+IntKind.i64.wrap (IntKind.i64.wrap ((z:Int).tmod (2:Int))*(3:Int)))))=V.int aj ((VJ y z:Nat):Int):=by
 have e1:IntKind.i64.wrap (y:Int)=(y:Int):=fC be be;have hz:z%2=0\/z%2=1:=by omega
 have e2:(z:Int).tmod 2=((z%2:Nat):Int):=by rw[cz be];rfl
 rw[e1,e2];unfold VJ;rcases hz with h|h
 . rw[h,show IntKind.i64.wrap ((1:Int)+IntKind.i64.wrap (IntKind.i64.wrap ((0:Nat):Int)*3))=1 from rfl];exact aN _ (by rw[fC be be];simp)
 . rw[h,show IntKind.i64.wrap ((1:Int)+IntKind.i64.wrap (IntKind.i64.wrap ((1:Nat):Int)*3))=4 from rfl];exact aN _ (by rw[fC be be];simp)
theorem VK(s:RS)(h:Tr O)(n:Nat)(h1:s.cs.length<=100000)(h2:s.ro.length<=1000000)(h3:∀c∈s.cs,c.rs.length<=100000):cT ak 32 [s.v] h n (iF s).v h n:=by
 have key:cT ak 32 [s.v] h n (iF ⟨gp (fq s.cs),o5 (ff s.ro)⟩).v h n:=by
  intro E w c7 ra g hd;refine Sb.2 _ h n (okS s++[s.cs.length<=100000,∀c∈gp (fq s.cs),c.rs.length<=100000]) _ _ _ rfl ?_ E w c7 ra g hd U;refine jx (De be h2) ?_;rw[jK];exact fm h1 (e9 h3)
 rw[jK,rz]at key;exact key
section
variable(p:jm)(q:jm)(l l1:List RS)(x y z:Nat)(d:aa)
theorem anV(hx:x%10<=3)(h:cT ak 64 [P3,rC x y z d] (hL (gq p l)) 9 (.bool true) (hL (AW q l1)) (nR q)):cT ak 27 [P3,rC x y z d] (hL (gq p l)) 9 (.bool true) (hL (AW q l1)) (nR q):=by
 have k1:cT ak 64 [P3,rC x y z d] (hL (lD p l x y z d)) 10 (.bool true) (hL (lE q l1 x y z d)) (13+sh q):=
  Dk (ns:=Ti p) h 10 (by rcases p with⟨_|⟨_,_,_⟩,_⟩<;>rcases q with⟨_|⟨_,_,_⟩,_⟩<;>kernel_rfl)
 refine cZ Tryz.func27 (code:=xT) U U ?_;rcases(by omega:x%10=0\/x%10=1\/x%10=2\/x%10=3)with e|e|e|e
 . refine fu (nu.ko MK k1) (d0 p q l l1 x y z d) (dI ?_);exact⟨fm (Ef e) (e9 ⟨rfl,rfl,rfl⟩),_,_,_,rfl,rfl,rfl,rfl⟩
 . refine fu (nu.ko MK k1) (d1 p q l l1 x y z d) (dI ?_);exact⟨fm (Ef e) (e9 ⟨rfl,rfl,rfl⟩),_,_,_,rfl,rfl,rfl,rfl⟩
 . refine fu (nu.ko MK k1) (d2 p q l l1 x y z d) (dI ?_);exact⟨fm (Ef e) (e9 ⟨rfl,rfl,rfl⟩),_,_,_,rfl,rfl,rfl,rfl⟩
 . refine fu (nu.ko MK k1) (d3 p q l l1 x y z d) (dI ?_);exact⟨fm (Ef e) (e9 ⟨rfl,rfl,rfl⟩),_,_,_,rfl,rfl,rfl,rfl⟩
theorem anW(hx:4<=x%10)(PI:x%10<=6)(h:cT ak 65 [P3,rC x y z d] (hL (gq p l)) 9 (.bool true) (hL (AW q l1)) (nR q)):cT ak 27 [P3,rC x y z d] (hL (gq p l)) 9 (.bool true) (hL (AW q l1)) (nR q):=by
 have k1:cT ak 65 [P3,rC x y z d] (hL (lD p l x y z d)) 10 (.bool true) (hL (lE q l1 x y z d)) (13+sh q):=
  Dk (ns:=Ti p) h 10 (by rcases p with⟨_|⟨_,_,_⟩,_⟩<;>rcases q with⟨_|⟨_,_,_⟩,_⟩<;>kernel_rfl)
 refine cZ Tryz.func27 (code:=xT) U U ?_;rcases(by omega:x%10=4\/x%10=5\/x%10=6)with e|e|e
 . refine fu (nu.ko Sr k1) (d4 p q l l1 x y z d) (dI ?_);exact⟨fm (Ef e) (e9 ⟨rfl,rfl,rfl⟩),_,_,_,rfl,rfl,rfl,rfl⟩
 . refine fu (nu.ko Sr k1) (d5 p q l l1 x y z d) (dI ?_);exact⟨fm (Ef e) (e9 ⟨rfl,rfl,rfl⟩),_,_,_,rfl,rfl,rfl,rfl⟩
 . refine fu (nu.ko Sr k1) (d6 p q l l1 x y z d) (dI ?_);exact⟨fm (Ef e) (e9 ⟨rfl,rfl,rfl⟩),_,_,_,rfl,rfl,rfl,rfl⟩
theorem anX(hx:x%10=9)(hy:y<=255)(h:cT ak 67 [P3,.int .i64 ((VJ y z:Nat):Int)] (hL (gq p l)) 9 (.bool true) (hL (AW q l1)) (nR q)):cT ak 27 [P3,rC x y z d] (hL (gq p l)) 9 (.bool true) (hL (AW q l1)) (nR q):=by
 have k1:cT ak 67 [P3,.int .i64 ((VJ y z:Nat):Int)] (hL (lD p l x y z d)) 10 (.bool true) (hL (lE q l1 x y z d)) (13+sh q):=
  Dk (ns:=Ti p) h 10 (by rcases p with⟨_|⟨_,_,_⟩,_⟩<;>rcases q with⟨_|⟨_,_,_⟩,_⟩<;>kernel_rfl)
 refine cZ Tryz.func27 (code:=xT) U U ?_;refine fu (nu.ko af6 k1) (d9 p q l l1 x y z d ((VJ y z:Nat):Int)) (dI ?_);exact⟨fm (Ef hx) (fm (aa3 hy) (e9 ⟨rfl,rfl,rfl⟩)),_,_,_,rfl,rfl,rfl,rfl⟩
theorem anY(s:RS)(hx:x%10=7)(hl:l.length<=1000)(h:Ak 66 [] p (.int .i64 0) q):cT ak 27 [P3,rC x y z d] (hL (gq p (l++[s]))) 9 (.bool true) (hL (AW q [s])) (nR q):=by
 have o7:(l++[s]).length=l.length+1:=by rw[ax];rfl
 have kH:(l++[s])[l.length]? =some s:=by rw[cj (aA _),Nat.sub_self];rfl
 generalize l++[s]=fo at o7 kH;refine MI q fo l.length s kH ?_;refine cZ Tryz.func27 (code:=xT) U U ?_;obtain⟨L,hr⟩:=d7 p q fo l.length x y z d;have hi:V.int aj (IntKind.i64.wrap ((Int.ofNat fo.length)-(1:Int)))=iW l.length:=aN _ (by rw[o7,fC de de,lA,lA];omega);have hb:(0:Int)<=Int.ofNat l.length/\Int.ofNat l.length<=(Int.ofNat fo.length):=⟨az _,by rw[o7,lA,lA];omega⟩;have e1:fo.length-l.length=1:=by omega
 have k1:cT ak 66 [.ptr (some (4,0))] (hL (lF p 5 6 7 (gk fo) fo.length l.length x y z d)) 25 (.int .i64 0) (hL (lF q 25 (25+sh q) (26+sh q) (gk fo) fo.length l.length x y z d)) (27+sh q):=by
  generalize l.length=i0;generalize fo.length=m0;generalize gk fo=R;exact Dk (ns:=Tj p) h 25 (by rcases p with⟨_|⟨_,_,_⟩,_⟩<;>rcases q with⟨_|⟨_,_,_⟩,_⟩<;>kernel_rfl)
 refine ia (nu.ko afL k1) mo _ U hr (dI ?_);exact⟨fm (Ef hx) (fm hi (fm hb (e9 ⟨rfl,rfl,rfl⟩))),_,_,_,rfl,rfl,by rw[e1],rfl⟩
end
theorem anZ(p:jm)(q:jm)(l:List RS)(sn:RS)(x y z:Nat)(d:aa)(hx:x%10=8)(hl:l.length<=1000)(h1:sn.cs.length<=100000)(h2:sn.ro.length<=1000000)(h3:∀c∈sn.cs,c.rs.length<=100000)(h:Ak 19 [] p (.int .i64 0) q):
  cT ak 27 [P3,rC x y z d] (hL (gq p (l++[sn]))) 9 (.bool true) (hL (AW q [iF sn])) (nR q):=by
 have h29:=m29 p l sn be;have h32:=fun(h:Tr O) (n:Nat)=>VK sn h n h1 h2 h3;generalize l++[sn]=fo at h29 ⊢;generalize iF sn=w at h32 ⊢;have k29:cT ak 29 [P3] (hL (lD p fo x y z d)) 10 sn.v (hL (lD p fo x y z d)) 10:=
  wz (ns:=Ti p) h29 (by rcases p with⟨_|⟨_,_,_⟩,_⟩<;>kernel_rfl)
 have k1:cT ak 19 [.ptr (some (4,0))] (hL (lG p 5 6 7 10 (gk fo) w [(9,lW x y z d)])) 11 (.int .i64 0) (hL (lG q 11 (11+sh q) (12+sh q) 10 (gk fo) w [(9,lW x y z d)])) (13+sh q):=by
  generalize gk fo=R;exact Dk (ns:=Tj p) h 11 (by rcases p with⟨_|⟨_,_,_⟩,_⟩<;>rcases q with⟨_|⟨_,_,_⟩,_⟩<;>kernel_rfl)
 have key:cT ak 27 [P3,rC x y z d] (hL (gq p fo)) 9 (.bool true) (hL (lG q 9 (9+sh q) (10+sh q) (11+sh q) (gk fo) w [])) (12+sh q):=by
  refine cZ Tryz.func27 (code:=xT) U U ?_;refine fu (((nu.ko Dh k29).ko af7 (h32 _ _)).ko XV k1) (d8 p q fo sn w x y z d) (dI ?_);exact⟨fm (Ef hx) (fm ⟨rfl,rfl,rfl⟩ (fm ⟨rfl,rfl,rfl⟩ (e9 ⟨rfl,rfl,rfl⟩))),_,_,_,rfl,rfl,rfl,rfl⟩
 have st:∀R,Step 9 (IZ (.bool true) (hL (lG q 9 (9+sh q) (10+sh q) (11+sh q) R w [])) (12+sh q)) (IZ (.bool true) (hL (AW q [w])) (nR q)):=fun R=>
  (Step.deep [(11+sh q)] (s2:=IZ (.bool true) (hL (moD 9 q 1 (gk [w])++[(8,.deep R)])) (12+sh q)) (by rcases q with⟨_|⟨_,_,_⟩,_⟩<;>kernel_rfl)).trans (.Ff 5 (live:=[0]) (by rcases q with⟨_|⟨_,_,_⟩,_⟩<;>kernel_rfl))
 exact key.step (st _)
def oh:List gK->Nat->ae
 | [],_=>[]
 |c::l,i=>(.str c.dg,pO c.da c.rs (i:Int))::oh l (i+1)
theorem I4:∀(a b:List gK) (i:Nat),oh (a++b) i=oh a i++oh b (i+a.length)
 | [],_,_=>rfl
 |c::a,b,i=>by
  show(_::oh (a++b) (i+1))=_::(oh a (i+1)++oh b (i+(a.length+1)));rw[I4 a b (i+1),show i+1+a.length=i+(a.length+1)by omega]
theorem I5:∀(l:List gK) (i:Nat),(oh l i).length=l.length
 | [],_=>rfl
 |_::l,i=>aN (·+1) (I5 l (i+1))
theorem pX{x:aa}:∀{cs:List gK} {i:Nat},(∀c∈cs,c.dg≠x)->dc (.str x) (oh cs i)=none
 | [],_,_=>rfl
 |c::l,i,h=>by
  show dc (.str x) ((.str c.dg,_)::oh l (i+1))=none;rw[gi,aI (by intro q;simp only[D.str.injEq]at q;exact h c (by simp) q)];exact pX fun c hc=>h c (by simp[hc])
theorem lM:∀{cs:List gK} {i j:Nat} {c:gK},(cs.map gK.dg).Nodup->cs[j]? =some c->dc (.str c.dg) (oh cs i)=some (pO c.da c.rs ((i+j:Nat):Int))
 | [],_,_,_,_,h=>by simp at h
 |a::l,i,0,c,_,h=>by
  simp only[bF,an]at h;subst h;show dc (.str a.dg) ((.str a.dg,_)::oh l (i+1))=_;rw[gi,aG rfl];rfl
 |a::l,i,j+1,c,hn,h=>by
  simp only[cu]at h;rw[bV,cg]at hn;have hc:c∈l:=aZ h;show dc (.str c.dg) ((.str a.dg,_)::oh l (i+1))=_;rw[gi,aI (by intro q;simp only[D.str.injEq]at q;exact hn.1 (by rw[q];exact bA.2 ⟨c,hc,rfl⟩)),lM hn.2 h,show i+1+j=i+(j+1)by omega]
theorem I6{x:aa}:∀{cs:List gK} {i:Nat},(∀c∈cs,c.dg≠x)->sq x cs i= -1
 | [],_,_=>rfl
 |c::l,i,h=>by
  unfold sq;rw[aI (h c (by simp))];exact I6 fun c hc=>h c (by simp[hc])
theorem I7:∀{cs:List gK} {i j:Nat} {c:gK},(cs.map gK.dg).Nodup->cs[j]? =some c->sq c.dg cs i=((i+j:Nat):Int)
 | [],_,_,_,_,h=>by simp at h
 |a::l,i,0,c,_,h=>by
  simp only[bF,an]at h;subst h;unfold sq;rw[aG rfl];rfl
 |a::l,i,j+1,c,hn,h=>by
  simp only[cu]at h;rw[bV,cg]at hn;have hc:c∈l:=aZ h;unfold sq;rw[aI (fun q=>hn.1 (by rw[q];exact bA.2 ⟨c,hc,rfl⟩)),I7 hn.2 h,show i+1+j=i+(j+1)by omega]
section
variable{cs:List gK}{x:aa}
theorem sB{j:Nat}{c:gK}(hn:(cs.map gK.dg).Nodup)(h:cs[j]? =some c):gj cs c.dg=(j:Int):=by
 unfold gj;rw[I7 hn h,bH]
theorem An(cs:List gK)(x:aa):(∀c∈cs,c.dg≠x)\/∃(j:Nat) (c:gK),cs[j]? =some c/\c.dg=x:=by
 by_cases h:∃c∈cs,c.dg=x
 . obtain⟨c,hc,e⟩:=h;obtain⟨j,hj⟩:=bT.1 hc;exact .inr ⟨j,c,hj,e⟩
 . exact .inl fun c hc e=>h ⟨c,hc,e⟩
theorem pY(hn:(cs.map gK.dg).Nodup):gj cs x<0↔∀c∈cs,c.dg≠x:=by
 rcases An cs x with h|⟨j,c,hj,rfl⟩
 . exact⟨fun _=>h,fun _=>by unfold gj;rw[I6 h];decide⟩
 . rw[sB hn hj];exact⟨fun q=>by omega,fun q=>absurd rfl (q c (aZ hj))⟩
theorem oo(hn:(cs.map gK.dg).Nodup):0<=gj cs x↔∃(j:Nat) (c:gK),cs[j]? =some c/\c.dg=x:=by
 rcases An cs x with h|⟨j,c,hj,rfl⟩
 . constructor
   . intro q;have:=(pY hn).2 h;omega
   . rintro⟨j,c,hj,e⟩;exact absurd e (h c (aZ hj))
 . exact⟨fun _=>⟨j,c,hj,rfl⟩,fun _=>by rw[sB hn hj];exact az _⟩
end
theorem BC:∀{a b:aa},a<b↔xZ a b=true
 |_,[]=>by simp[xZ]
 | [],_::_=>by simp[xZ]
 |a::x,b::y=>by
  simp only[xZ];rw[List.cons_lt_cons_iff];have ih:=BC (a:=x) (b:=y);cases q:Nat.blt a.toNat b.toNat with
  |true=>
   have:a<b:=au q;simp[this]
  |false=>
   have h1:¬a<b:=fun h=>by
    have:Nat.blt a.toNat b.toNat=true:=Nat.ble_eq_true_of_le h;rw[q]at this;cases this
   cases q2:Nat.beq a.toNat b.toNat with
   |true=>
    have:a=b:=UInt8.toNat.inj (aD q2);subst this;simp only[h1,false_or,true_and];exact ih
   |false=>
    have:a≠b:=fun e=>by subst e;rw[cL]at q2;cases q2
    simp[h1,this]
theorem zq{n:aa}:∀{l:List (aa×aa)},(∀p∈l,p.1≠n)->gG n l=[]
 | [],_=>rfl
 |p::l,h=>by
  unfold gG;rw[aI (h p (by simp))];exact zq fun q hq=>h q (by simp[hq])
def Oy(l:List (aa×aa)):Prop:=(l.map Prod.fst).Pairwise (. <·)
theorem Fk{a b c:aa}(h:a<b)(k:b<c):a<c:=List.lt_trans h k
theorem wh(a:aa):¬a<a:=List.lt_irrefl a
theorem VL{a b:aa}(h:¬a<b)(fL:a≠b):b<a:=by
 by_cases q:b<a
 . exact q
 . exact absurd (List.le_antisymm (List.not_lt.1 q) (List.not_lt.1 h)) fL
theorem qE{p:aa×aa}{l:List (aa×aa)}:Oy (p::l)↔(∀q∈l,p.1<q.1)/\Oy l:=by
 unfold Oy;rw[bV,List.pairwise_cons];constructor
 . rintro⟨h1,h2⟩;exact⟨fun q hq=>h1 _ (bA.2 ⟨q,hq,rfl⟩),h2⟩
 . rintro⟨h1,h2⟩;refine⟨fun y hy=>?_,h2⟩;obtain⟨q,hq,rfl⟩:=bA.1 hy;exact h1 q hq
theorem nr{n x:aa}{q:aa×aa}:∀{l:List (aa×aa)} {dn:Bool},q∈lJ n x dn l↔(q∈l/\q.1≠n)\/(dn=false/\q=(n,x))
 | [],dn=>by
   unfold lJ;cases dn<;>simp
 |p::l,dn=>by
  unfold lJ;rw[aU,aU,nr (l:=l),aE];have hA:(q∈(if dn=false/\xZ n p.1=true then[(n,x)]else[]))↔(dn=false/\xZ n p.1=true)/\q=(n,x):=by
   split
   . rename_i h;simp[h]
   . rename_i h;simp only[aL,false_iff];exact fun k=>h k.1
  have hB:(q∈(if p.1=n then[]else[p]))↔p.1≠n/\q=p:=by
   split
   . rename_i h;simp[h]
   . rename_i h;simp[h]
  rw[hA,hB];constructor
  . rintro(⟨⟨h1,_⟩,h3⟩|⟨h1,h2⟩|⟨h1,h2⟩|⟨h1,h2⟩)
    . exact .inr ⟨h1,h3⟩
    . subst h2;exact .inl ⟨.inl rfl,h1⟩
    . exact .inl ⟨.inr h1,h2⟩
    . exact .inr ⟨(Bool.or_eq_false_iff.1 h1).1,h2⟩
  . rintro(⟨rfl|h1,h2⟩|⟨h1,h2⟩)
    . exact .inr (.inl ⟨h2,rfl⟩)
    . exact .inr (.inr (.inl ⟨h1,h2⟩))
    . cases hl:xZ n p.1 with
      |true=>exact .inl ⟨⟨h1,rfl⟩,h2⟩
      |false=>exact .inr (.inr (.inr ⟨by rw[h1];rfl,h2⟩))
theorem Dp{n x:aa}:∀{l:List (aa×aa)} {dn:Bool},Oy l->(dn=true->∀p∈l,n<p.1\/True)->Oy (lJ n x dn l)
 | [],dn,_,_=>by
   unfold lJ;cases dn
   . exact List.pairwise_singleton ..
   . exact List.Pairwise.nil
 |p::l,dn,h,_=>by
  obtain⟨h1,h2⟩:=qE.1 h;have ih:∀d,Oy (lJ n x d l):=fun d=>Dp h2 fun _ _ _=>.inr trivial;unfold lJ;cases dn with
  |true=>
   rw[aI (by simp),cD];split
   . exact ih _
   . refine qE.2 ⟨fun q hq=>?_,ih _⟩;rw[Bool.true_or]at hq;rcases nr.1 hq with⟨a,_⟩|⟨a,_⟩
     . exact h1 q a
     . cases a
  |false=>
   by_cases hl:xZ n p.1=true
   . have fE:=BC.2 hl;have hp:¬p.1=n:=fun e=>wh n (by rw[e]at fE;exact fE);rw[aG ⟨rfl,hl⟩,aI hp,hl,Bool.or_true];have hm:∀q∈lJ n x true l,p.1<q.1:=fun q hq=>by
      rcases nr.1 hq with⟨a,_⟩|⟨a,_⟩
      . exact h1 q a
      . cases a
     refine qE.2 ⟨fun q hq=>?_,qE.2 ⟨hm,ih _⟩⟩;rcases aE.1 hq with rfl|hq
     . exact fE
     . exact Fk fE (hm q hq)
   . have hl':xZ n p.1=false:=by cases q:xZ n p.1<;>simp_all
     rw[aI (fun q=>hl q.2),cD,hl',Bool.or_false];split
     . exact ih _
     . rename_i hp;refine qE.2 ⟨fun q hq=>?_,ih _⟩;rcases nr.1 hq with⟨a,_⟩|⟨_,a⟩
       . exact h1 q a
       . subst a;exact VL (fun q=>hl (BC.1 q)) (fun e=>hp e.symm)
theorem wj{n x:aa}:∀{l:List (aa×aa)},Oy l->(n,x)∈l->gG n l=x
 | [],_,h=>by cases h
 |p::l,hs,h=>by
  obtain⟨h1,h2⟩:=qE.1 hs;unfold gG;rcases aE.1 h with e|h
  . rw[<- e,aG rfl]
  . rw[aI (fun e=>wh n (by have:=h1 _ h;rw[e]at this;exact this))];exact wj h2 h
theorem qZ(n:aa):∀(l:List (aa×aa)),(gG n l=[]/\∀p∈l,p.1≠n)\/(n,gG n l)∈l
 | []=>.inl ⟨rfl,fun _ h=>by cases h⟩
 |p::l=>by
  unfold gG;by_cases h:p.1=n
  . rw[aG h];subst h;exact .inr (by simp)
  . rw[aI h];rcases qZ n l with⟨h1,h2⟩|h1
    . exact .inl ⟨h1,fun q hq=>by
       rcases aE.1 hq with rfl|hq
       . exact h
       . exact h2 q hq⟩
    . exact .inr (by simp[h1])
theorem Fl{n m x:aa}{l:List (aa×aa)}(hs:Oy l):gG m (lJ n x (eE x []) l)=if m=n then x else gG m l:=by
 have jd:Oy (lJ n x (eE x []) l):=Dp hs fun _ _ _=>.inr trivial;by_cases hm:m=n
 . subst hm;rw[aG rfl];by_cases hx:x=[]
   . subst hx;refine zq fun p hp e=>?_;rcases nr.1 hp with⟨_,a⟩|⟨a,_⟩
     . exact a e
     . cases a
   . have hb:eE x []=false:=by rw[fT];exact beq_eq_false_iff_ne.2 hx
     exact wj jd (nr.2 (.inr ⟨hb,rfl⟩))
 . rw[aI hm];rcases qZ m l with⟨h1,h2⟩|h1
   . rw[h1];refine zq fun p hp e=>?_;rcases nr.1 hp with⟨a,_⟩|⟨_,a⟩
     . exact h2 p a e
     . subst a;exact hm e.symm
   . exact wj jd (nr.2 (.inl ⟨h1,hm⟩))
inductive o9(es:ae):aa->aa->Prop
 |refl (x:aa):o9 es x x
 |step {x y z:aa}:o9 es x y->z∈pb es y->o9 es x z
theorem o9.head{es:ae}{x y z:aa}(h:y∈pb es x)(p:o9 es y z):o9 es x z:=by
 induction p with
 |refl=>exact .step (.refl x) h
 |step _ h2 ih=>exact .step ih h2
structure Spc(es:ae)(ds ks Pt:List (aa)):Prop where
 sub:∀y∈ks,y∈Pt
 roots:∀d∈ds,d∈Pt
 pth:∀y∈Pt,y∈ks\/∃d∈ds,o9 es d y
 cl:∀y∈Pt,y∉ks->∀r∈pb es y,r∈Pt
 nd:ks.Nodup->Pt.Nodup
theorem Dq{es:ae}{k:Nat}(H:∀x ks,Ends es k x->Spc es [x] ks (lR es k x ks)):∀(ds ks:List (aa)),(∀d∈ds,Ends es k d)->Spc es ds ks (ds.foldl (fun a r=>lR es k r a) ks)
 | [],ks,_=>⟨fun _ h=>h,fun _ h=>(by cases h),fun _ h=>.inl h,fun y h h2=>absurd h h2,fun h=>h⟩
 |d::ds,ks,he=>by
  have h1:=H d ks (he d (by simp));have h2:=Dq H ds (lR es k d ks) fun x hx=>he x (by simp[hx]);show Spc es (d::ds) ks (ds.foldl (fun a r=>lR es k r a) (lR es k d ks));refine⟨fun y hy=>h2.sub y (h1.sub y hy),fun x hx=>?_,fun y hy=>?_,fun y hy hn r hr=>?_,fun h=>h2.nd (h1.nd h)⟩
  . rcases aE.1 hx with rfl|hx
    . exact h2.sub _ (h1.roots _ (by simp))
    . exact h2.roots x hx
  . rcases h2.pth y hy with h|⟨x,hx,p⟩
    . rcases h1.pth y h with h|⟨x,hx,p⟩
      . exact .inl h
      . exact .inr ⟨x,by rw[aq.1 hx];simp,p⟩
    . exact .inr ⟨x,by simp[hx],p⟩
  . by_cases q:y∈lR es k d ks
    . exact h2.sub r (h1.cl y q hn r hr)
    . exact h2.cl y hy q r hr
theorem ML{es:ae}:∀(k:Nat) (x:aa) (ks:List (aa)),Ends es k x->Spc es [x] ks (lR es k x ks)
 |0,_,_,h=>h.elim
 |k+1,x,ks,⟨_,_,hr⟩=>by
  unfold lR;by_cases hx:x∈ks
  . rw[aG hx];exact⟨fun _ h=>h,fun d hd=>by rw[aq.1 hd];exact hx,fun _ h=>.inl h,fun y h h2=>absurd h h2,fun h=>h⟩
  . rw[aI hx];have h:=Dq (fun y ks=>ML k y ks) (pb es x) (ks++[x]) hr;generalize (pb es x).foldl (fun a r=>lR es k r a) (ks++[x])=Pt at h ⊢;refine⟨fun y hy=>h.sub y (by simp[hy]),fun d hd=>by rw[aq.1 hd];exact h.sub x (by simp),fun y hy=>?_,fun y hy hn r Ip=>?_,fun JP=>h.nd ?_⟩
    . rcases h.pth y hy with q|⟨d,hd,p⟩
      . rcases aU.1 q with q|q
        . exact .inl q
        . rw[aq.1 q];exact .inr ⟨x,by simp,.refl x⟩
      . exact .inr ⟨x,by simp,p.head hd⟩
    . by_cases q:y=x
      . subst q;exact h.roots r Ip
      . exact h.cl y hy (by simp[hn,q]) r Ip
    . rw[List.nodup_append];exact⟨JP,by simp,fun a ha b hb=>by rw[aq.1 hb];exact fun e=>hx (e▸ha)⟩
section
variable{es rt:ae}{k:Nat}
theorem I8(he:∀d∈iE rt,Ends es k d):Spc es (iE rt) [] (pQ es rt k):=Dq (fun y ks=>ML k y ks) (iE rt) [] he
theorem I9(he:∀d∈iE rt,Ends es k d)(x:aa):x∈pQ es rt k↔∃d∈iE rt,o9 es d x:=by
 have h:=I8 he;constructor
 . intro hx;rcases h.pth x hx with q|q
   . cases q
   . exact q
 . rintro⟨d,hd,p⟩
   induction p with
   |refl=>exact h.roots _ hd
   |step _ hz ih=>exact h.cl _ ih (by simp) _ hz
end
def nmO(n:aa):Prop:=∃c:UInt8,n=[c]/\97<=c.toNat/\c.toNat<115
structure nv(s:RS):Prop where
 nd:(s.cs.map gK.dg).Nodup
 nm:∀c∈s.cs,c.dg=dJ c.da c.rs/\c.da.length<=60/\c.rs.length<=3
 ref:∀(i:Nat) (c:gK),s.cs[i]? =some c->∀r∈c.rs,∃(j:Nat) (c':gK),j<i/\s.cs[j]? =some c'/\c'.dg=r
 Tk:Oy s.ro
 rv:∀p∈s.ro,nmO p.1/\∃c∈s.cs,c.dg=p.2
theorem nv.refs{s:RS}(h:nv s){i j:Nat}{c:gK}(hc:s.cs[j]? =some c):pb (oh s.cs i) c.dg=c.rs:=EZ (lM h.nd hc)
theorem Fm{es:ae}:∀{k:Nat} {x:aa},Ends es k x->Ends es (k+1) x
 |0,_,h=>h.elim
 |_+1,_,⟨h1,h2,h3⟩=>⟨h1,h2,fun r hr=>Fm (h3 r hr)⟩
theorem MM{es:ae}{k m:Nat}{x:aa}(h:Ends es k x)(hm:k<=m):Ends es m x:=by
 induction m with
 |zero=>obtain rfl:k=0:=by omega
        exact h
 |succ m ih=>
  rcases bN k (m+1)with q|q
  . exact Fm (ih be)
  . obtain rfl:k=m+1:=by omega
    exact h
theorem nv.ends{s:RS}(h:nv s):∀(j:Nat) (c:gK),s.cs[j]? =some c->Ends (oh s.cs 0) (j+1) c.dg:=by
 intro j
 induction j using Nat.strongRecOn with
 |_ j ih=>
  intro c hc;refine⟨⟨_,_,_,lM h.nd hc⟩,?_,fun r hr=>?_⟩
  . rw[h.refs hc];have:=(h.nm c (aZ hc)).2.2;omega
  . rw[h.refs hc]at hr;obtain⟨i,c',hi,vP,rfl⟩:=h.ref j c hc r hr;exact MM (ih i hi c' vP) be
theorem Ds(bs:List Bool)(i m:Nat)(b:Bool):(bs.set i b).getD m false=if m=i/\i<bs.length then b else bs.getD m false:=by
 rw[aM,aM,List.getElem?_set];by_cases h:m=i
 . subst h;by_cases q:m<bs.length
   . rw[aG rfl,aG q,aG ⟨rfl,q⟩];rfl
   . rw[aG rfl,aI q,aI (fun z=>q z.2),bP be]
 . rw[aI (fun z=>h z.symm),aI (fun z=>h z.1)]
theorem nv.MN{s:RS}(h:nv s){i j:Nat}{c c':gK}(hi:s.cs[i]? =some c)(hj:s.cs[j]? =some c')(e:c.dg=c'.dg):i=j:=by
 have a:=sB h.nd hi;have b:=sB h.nd hj;rw[e,b]at a;exact(Int.ofNat.inj a).symm
theorem Ss{s:RS}(h:nv s){bs:List Bool}(hl:bs.length=s.cs.length)(r:aa){m:Nat}{c:gK}(hm:s.cs[m]? =some c):(jy s bs r).getD m false=true↔bs.getD m false=true\/c.dg=r:=by
 unfold jy;rcases An s.cs r with q|⟨j,c',hj,rfl⟩
 . rw[aG ((pY h.nd).2 q)];exact⟨.inl,fun z=>z.elim id fun e=>absurd e (q c (aZ hm))⟩
 . have OL:j<s.cs.length:=(aF.1 hj).1;rw[aI (by rw[sB h.nd hj];omega),sB h.nd hj,Ds];show(if m=j/\j<bs.length then true else bs.getD m false)=true↔_;by_cases q:m=j
   . subst q;rw[hm]at hj;cases hj;rw[aG ⟨rfl,be⟩];simp
   . rw[aI (fun z=>q z.1)];exact⟨.inl,fun z=>z.elim id fun e=>absurd (h.MN hm hj e) q⟩
theorem Lp(s:RS)(bs:List Bool)(r:aa):(jy s bs r).length=bs.length:=by
 unfold jy;split
 . rfl
 . rw[List.length_set]
theorem Dt{s:RS}(h:nv s){m:Nat}{c:gK}(hm:s.cs[m]? =some c):∀(l:List (aa)) (bs:List Bool),bs.length=s.cs.length->((l.foldl (jy s) bs).getD m false=true↔bs.getD m false=true\/c.dg∈l)/\(l.foldl (jy s) bs).length=s.cs.length
 | [],bs,hl=>⟨by simp,hl⟩
 |r::l,bs,hl=>by
  have ih:=Dt h hm l (jy s bs r) (by rw[Lp,hl]);refine⟨?_,ih.2⟩;show(l.foldl (jy s) (jy s bs r)).getD m false=true↔_;rw[ih.1,Ss h hl r hm,aE,or_assoc]
def RI(s:RS)(m:Nat):Prop:=∃c,s.cs[m]? =some c/\∃p∈s.ro,o9 (oh s.cs 0) p.2 c.dg
theorem Su{s:RS}(h:nv s){d x:aa}(p:o9 (oh s.cs 0) d x):(∃c∈s.cs,c.dg=d)->∃c∈s.cs,c.dg=x:=by
 induction p with
 |refl=>exact id
 |step _ hz ih=>
  intro hd;obtain⟨c,hc,rfl⟩:=ih hd;obtain⟨j,hj⟩:=bT.1 hc;rw[h.refs hj]at hz;obtain⟨i,c',_,vP,e⟩:=h.ref j c hj _ hz;exact⟨c',aZ vP,e⟩
theorem Du(ro:List (aa×aa))(c:gK):Ec ro c=true↔∃p∈ro,p.2=c.dg:=by
 unfold Ec;rw[List.any_eq_true];constructor
 . rintro⟨p,hp,e⟩;rw[fT]at e;exact⟨p,hp,beq_iff_eq.1 e⟩
 . rintro⟨p,hp,e⟩;exact⟨p,hp,by rw[fT];exact beq_iff_eq.2 e⟩
theorem GU{s:RS}(h:nv s){m:Nat}{c:gK}(hm:s.cs[m]? =some c):RI s m↔Ec s.ro c=true\/∃(j:Nat) (c':gK),m<j/\s.cs[j]? =some c'/\c.dg∈c'.rs/\RI s j:=by
 rw[Du];constructor
 . rintro⟨c0,h0,p,hp,q⟩;rw[hm]at h0;cases h0;generalize hx:c.dg=x at q;cases q with
   |refl=>exact .inl ⟨p,hp,rfl⟩
   |step q hz=>
    subst hx;obtain⟨cy,hcy,rfl⟩:=Su h q (h.rv p hp).2;obtain⟨j,hj⟩:=bT.1 hcy;rw[h.refs hj]at hz;obtain⟨i,c',hi,vP,e⟩:=h.ref j cy hj _ hz;have:=h.MN vP hm e;subst this;exact .inr ⟨j,cy,hi,hj,hz,cy,hj,p,hp,q⟩
 . rintro(⟨p,hp,e⟩|⟨j,c',_,hj,hr,c2,h2,p,hp,q⟩)
   . exact⟨c,hm,p,hp,e▸ .refl _⟩
   . rw[hj]at h2;cases h2;exact⟨c,hm,p,hp,.step q (by rw[h.refs hj];exact hr)⟩
def MkI(s:RS)(i:Nat)(bs:List Bool):Prop:=bs.length=s.cs.length/\∀(m:Nat) (c:gK),s.cs[m]? =some c->(bs.getD m false=true↔(i<=m/\RI s m)\/(m<i/\∃(j:Nat) (c':gK),i<=j/\s.cs[j]? =some c'/\c.dg∈c'.rs/\RI s j))
theorem Sv{s:RS}(h:nv s){i:Nat}{bs:List Bool}{c:gK}(hc:s.cs[i]? =some c)(k:MkI s (i+1) bs):MkI s i (zj s bs i c):=by
 obtain⟨hl,hk⟩:=k;have Pv:i<s.cs.length:=(aF.1 hc).1;have hI:(kO s bs i c).getD i false=true↔RI s i:=by
  unfold kO;rw[Ds,aG ⟨rfl,be⟩,bS,hk i c hc,GU h hc];constructor
  . rintro((⟨a,_⟩|⟨_,j,c',h1,h2⟩)|b)
    . omega
    . exact .inr ⟨j,c',be,h2⟩
    . exact .inl b
  . rintro(a|⟨j,c',h1,h2⟩)
    . exact .inr a
    . exact .inl (.inr ⟨be,j,c',be,h2⟩)
 have hlr:(kO s bs i c).length=s.cs.length:=by unfold kO;rw[List.length_set,hl]
 have hM:∀(m:Nat) (c0:gK),s.cs[m]? =some c0->m≠i->((kO s bs i c).getD m false=true↔bs.getD m false=true):=fun m c0 _ fL=>by
  unfold kO;rw[Ds,aI (fun z=>fL z.1)]
 unfold zj;by_cases hr:(kO s bs i c).getD i false=true
 . rw[aG hr];have hRI:=hI.1 hr;refine⟨(Dt h hc c.rs _ hlr).2,fun m c0 hm=>?_⟩;rw[(Dt h hm c.rs _ hlr).1];by_cases q:m=i
   . subst q;exact⟨fun _=>.inl ⟨aA _,hRI⟩,fun _=>.inl hr⟩
   . rw[hM m c0 hm q,hk m c0 hm];constructor
     . rintro((⟨a,b⟩|⟨a,j,c',h1,h2⟩)|a)
       . exact .inl ⟨be,b⟩
       . exact .inr ⟨be,j,c',be,h2⟩
       . obtain⟨j,c',hj,vP,e⟩:=h.ref i c hc _ a;have:=h.MN vP hm e;exact .inr ⟨be,i,c,aA _,hc,a,hRI⟩
     . rintro(⟨a,b⟩|⟨a,j,c',h1,h2,h3,h4⟩)
       . exact .inl (.inl ⟨be,b⟩)
       . by_cases z:j=i
         . subst z;rw[hc]at h2;cases h2;exact .inr h3
         . exact .inl (.inr ⟨be,j,c',be,h2,h3,h4⟩)
 . rw[aI hr];have hRI:¬RI s i:=fun z=>hr (hI.2 z);refine⟨hlr,fun m c0 hm=>?_⟩;by_cases q:m=i
   . subst q;exact⟨fun z=>absurd z hr,fun z=>by
      rcases z with⟨_,z⟩|⟨z,_⟩
      . exact absurd z hRI
      . omega⟩
   . rw[hM m c0 hm q,hk m c0 hm];constructor
     . rintro(⟨a,b⟩|⟨a,j,c',h1,h2⟩)
       . exact .inl ⟨be,b⟩
       . exact .inr ⟨be,j,c',be,h2⟩
     . rintro(⟨a,b⟩|⟨a,j,c',h1,h2,h3,h4⟩)
       . exact .inl ⟨be,b⟩
       . refine .inr ⟨be,j,c',?_,h2,h3,h4⟩;by_cases z:j=i
         . subst z;exact absurd h4 hRI
         . omega
theorem Lq{s:RS}(h:nv s):∀(i:Nat) (bs:List Bool),i<=s.cs.length->MkI s i bs->MkI s 0 (R3 s i bs)
 |0,_,_,k=>k
 |i+1,bs,hi,k=>by
  have hc:s.cs[i]? =some (s.cs.getD i ⟨[],[],[]⟩):=by
   rw[aM,ay be];rfl
  exact Lq h i _ be (Sv h hc k)
theorem AY{s:RS}(h:nv s){m:Nat}{c:gK}(hm:s.cs[m]? =some c):(fc s).getD m false=true↔RI s m:=by
 have k:MkI s s.cs.length (List.replicate s.cs.length false):=by
  refine⟨bJ,fun m c hm=>?_⟩;have hl:m<s.cs.length:=(aF.1 hm).1;rw[aM,List.getElem?_replicate,aG hl];constructor
  . intro q;cases q
  . rintro(⟨a,_⟩|⟨_,j,c',h1,h2,_⟩)
    . omega
    . have:=(aF.1 h2).1;omega
 have:=(Lq h _ _ (aA _) k).2 m c hm;rw[show fc s=R3 s s.cs.length (List.replicate s.cs.length false)from rfl,this];constructor
 . rintro(⟨_,a⟩|⟨a,_⟩)
   . exact a
   . omega
 . intro a;exact .inl ⟨be,a⟩
theorem wT{s:RS}(h:nv s):(fc s).length=s.cs.length:=by
 have k:MkI s s.cs.length (List.replicate s.cs.length false):=by
  refine⟨bJ,fun m c hm=>?_⟩;have hl:m<s.cs.length:=(aF.1 hm).1;rw[aM,List.getElem?_replicate,aG hl];constructor
  . intro q;cases q
  . rintro(⟨a,_⟩|⟨_,j,c',h1,h2,_⟩)
    . omega
    . have:=(aF.1 h2).1;omega
 exact(Lq h _ _ (aA _) k).1
def Ao(s:RS):jF->RS
 | .chunk d rs=>⟨s.cs++[⟨dJ d rs,d,rs⟩],s.ro⟩
 | .root n x=>⟨s.cs,lJ n x (eE x []) s.ro⟩
def jI:RS:=⟨[],[]⟩
abbrev ga(l:List jF):RS:=l.foldl Ao jI
def VM(s:RS):jF->Prop
 | .chunk d rs=>d.length<=60/\rs.length<=3/\(∀r∈rs,0<=gj s.cs r)/\gj s.cs (dJ d rs)<0
 | .root n x=>nmO n/\(x=[]\/0<=gj s.cs x)/\x≠gG n s.ro
section
variable{rt:ae}{s:RS}{r:jF}
theorem wf0:nv jI:=⟨List.nodup_nil,fun _ h=>(by cases h),fun _ _ h=>by simp[jI]at h,List.Pairwise.nil,fun _ h=>by cases h⟩
theorem nv.Fo(h:nv s){c:gK}(hc:c∈s.cs):c.dg.length=32:=by rw[(h.nm c hc).1];rfl
theorem VN(h:nv s)(a:VM s r):nv (Ao s r):=by
 cases r with
 |chunk d rs=>
  obtain⟨a1,a2,a3,a4⟩:=a;have a4:=(pY h.nd).1 a4;refine⟨?_,fun c hc=>?_,fun i c hc r hr=>?_,h.Tk,fun p hp=>⟨(h.rv p hp).1,?_⟩⟩
  . show((s.cs++[(⟨dJ d rs,d,rs⟩:gK)]).map gK.dg).Nodup;rw[aX,List.nodup_append];refine⟨h.nd,cg.2 ⟨by simp,List.nodup_nil⟩,fun x hx y hy e=>?_⟩;obtain⟨c,hc,rfl⟩:=bA.1 hx;rw[List.map_singleton,aq]at hy;exact a4 c hc (e.trans hy)
  . have hc:c∈s.cs++[⟨dJ d rs,d,rs⟩]:=hc;rcases aU.1 hc with q|q
    . exact h.nm c q
    . obtain rfl:c=⟨dJ d rs,d,rs⟩:=aq.1 q;exact⟨rfl,a1,a2⟩
  . have hc:(s.cs++[⟨dJ d rs,d,rs⟩])[i]? =some c:=hc;show ∃(j:Nat) (c':gK),j<i/\(s.cs++[⟨dJ d rs,d,rs⟩])[j]? =some c'/\c'.dg=r;rw[bR]at hc;split at hc
    . obtain⟨j,c',h1,h2,h3⟩:=h.ref i c hc r hr;exact⟨j,c',h1,by rw[bR,aG (aF.1 h2).1];exact h2,h3⟩
    . rename_i hi;have hcm:c=⟨dJ d rs,d,rs⟩:=by
       have:=aZ hc;exact aq.1 this
      subst hcm;obtain⟨j,c',h2,h3⟩:=(oo h.nd).1 (a3 r hr);have hj:=(aF.1 h2).1;exact⟨j,c',be,by rw[bR,aG hj];exact h2,h3⟩
  . obtain⟨c,hc,e⟩:=(h.rv p hp).2;exact⟨c,cI _ hc,e⟩
 |root n x=>
  obtain⟨a1,a2,a3⟩:=a;refine⟨h.nd,h.nm,h.ref,Dp h.Tk fun _ _ _=>.inr trivial,fun p hp=>?_⟩;rcases nr.1 hp with⟨q,_⟩|⟨q,rfl⟩
  . exact h.rv p q
  . refine⟨a1,?_⟩;rcases a2 with rfl|a2
    . cases q
    . obtain⟨j,c,hj,e⟩:=(oo h.nd).1 a2;exact⟨c,aZ hj,e⟩
theorem Lr(h:nv s)(a:VM s r):r.ok/\r.bytes.length<=180:=by
 cases r with
 |chunk d rs=>
  obtain⟨a1,a2,a3,a4⟩:=a;have h32:∀x∈rs,x.length=32:=fun x hx=>by
   obtain⟨j,c,hj,e⟩:=(oo h.nd).1 (a3 x hx);rw[<- e];exact h.Fo (aZ hj)
  refine⟨⟨be,be,h32⟩,?_⟩;have:=ET d h32;show(gJ d rs).length<=180;omega
 |root n x=>
  obtain⟨⟨k,rfl,_⟩,a2,a3⟩:=a;have hx:x.length<=32:=by
   rcases a2 with rfl|a2
   . simp
   . obtain⟨j,c,hj,e⟩:=(oo h.nd).1 a2;rw[<- e,h.Fo (aZ hj)];exact aA _
  have hn:[k].length=1:=rfl;refine⟨⟨be,be⟩,?_⟩;have:=(QB [k] x).2;show(kN [k] x).length<=180;omega
theorem tJ(hr:DM rt){n:aa}:n∈dH rt↔∃v,dc (.str n) rt=some v:=by
 induction rt with
 |nil=>exact⟨fun h=>(by cases h),fun⟨_,h⟩=>by cases h⟩
 |cons e rt ih=>
  obtain⟨k,d,rfl⟩:=hr e (by simp);have ih:=ih fun e he=>hr e (by simp[he]);rw[show dH ((.str k,.str d)::rt)=k::dH rt from rfl,aE,ih,gi];by_cases q:k=n
  . subst q;rw[aG rfl];exact⟨fun _=>⟨_,rfl⟩,fun _=>.inl rfl⟩
  . rw[aI (by intro z;simp only[D.str.injEq]at z;exact q z)];exact⟨fun z=>z.elim (fun z=>absurd z.symm q) id,.inr⟩
theorem Sw(hr:DM rt)(hn:(dH rt).Nodup)(n m:aa):dc (.str m) (lB (.str n) rt)=if m=n then none else dc (.str m) rt:=by
 induction rt with
 |nil=>show none=_;split<;>rfl
 |cons e rt ih=>
  obtain⟨k,d,rfl⟩:=hr e (by simp);have o8:(k::dH rt).Nodup:=hn;rw[cg]at o8;have S1:DM rt:=fun e he=>hr e (by simp[he]);rw[v8];by_cases q:k=n
  . subst q;rw[aG rfl];by_cases z:m=k
    . subst z;rw[aG rfl];cases h:dc (.str m) rt with
      |none=>rfl
      |some v=>exact absurd ((tJ S1).2 ⟨v,h⟩) o8.1
    . rw[aI z,gi,aI (by intro y;simp only[D.str.injEq]at y;exact z y.symm)]
  . rw[aI (by intro y;simp only[D.str.injEq]at y;exact q y),gi,ih S1 o8.2];by_cases z:k=m
    . subst z;rw[aG rfl,gi,aG rfl,aI q]
    . have hz:¬(D.str k,D.str d).1=D.str m:=fun y=>z (by cases y;rfl);rw[aI hz,gi,aI hz]
theorem MO(hr:DM rt)(n x:aa):DM (gY (.str n) (.str x) rt):=by
 induction rt with
 |nil=>intro e he;exact⟨n,x,aq.1 he⟩
 |cons e rt ih=>
  have ih:=ih fun e he=>hr e (by simp[he]);rw[v7];split
  . intro a ha;rcases aE.1 ha with rfl|ha
    . exact⟨n,x,rfl⟩
    . exact hr a (by simp[ha])
  . intro a ha;rcases aE.1 ha with rfl|ha
    . exact hr _ (by simp)
    . exact ih a ha
theorem VO(hr:DM rt)(n:aa):DM (lB (.str n) rt):=by
 induction rt with
 |nil=>exact hr
 |cons e rt ih=>
  have ih:=ih fun e he=>hr e (by simp[he]);rw[v8];split
  . exact fun a ha=>hr a (by simp[ha])
  . intro a ha;rcases aE.1 ha with rfl|ha
    . exact hr _ (by simp)
    . exact ih a ha
theorem Sx(hr:DM rt){n:aa}{x:aa}{m:aa}:m∈dH (gY (.str n) (.str x) rt)->m=n\/m∈dH rt:=by
 intro h;obtain⟨v,hv⟩:=(tJ (MO hr n x)).1 h;rw[CY]at hv;by_cases q:m=n
 . exact .inl q
 . rw[aI q]at hv;exact .inr ((tJ hr).2 ⟨v,hv⟩)
theorem aa4(hr:DM rt)(hn:(dH rt).Nodup)(n x:aa):(dH (gY (.str n) (.str x) rt)).Nodup:=by
 induction rt with
 |nil=>exact cg.2 ⟨by simp,List.nodup_nil⟩
 |cons e rt ih=>
  obtain⟨k,d,rfl⟩:=hr e (by simp);have S1:DM rt:=fun e he=>hr e (by simp[he]);have o8:(k::dH rt).Nodup:=hn;rw[cg]at o8;have ih:=ih S1 o8.2;rw[v7];split
  . rename_i q;simp only[D.str.injEq]at q;subst q;exact cg.2 o8
  . rename_i q;refine cg.2 ⟨fun z=>?_,ih⟩;rcases Sx S1 z with z|z
    . exact q (by show D.str k=D.str n;rw[show k=n from z])
    . exact o8.1 z
theorem Sy(hr:DM rt){n m:aa}:m∈dH (lB (.str n) rt)->m∈dH rt:=by
 induction rt with
 |nil=>exact id
 |cons e rt ih=>
  obtain⟨k,d,rfl⟩:=hr e (by simp);have ih:=ih fun e he=>hr e (by simp[he]);rw[v8];split
  . intro z;exact aJ _ z
  . intro z;rcases aE.1 z with z|z
    . rw[z];exact aP ..
    . exact aJ _ (ih z)
theorem aa5(hr:DM rt)(hn:(dH rt).Nodup)(n:aa):(dH (lB (.str n) rt)).Nodup:=by
 induction rt with
 |nil=>exact hn
 |cons e rt ih=>
  obtain⟨k,d,rfl⟩:=hr e (by simp);have S1:DM rt:=fun e he=>hr e (by simp[he]);have o8:(k::dH rt).Nodup:=hn;rw[cg]at o8;have ih:=ih S1 o8.2;rw[v8];split
  . exact o8.2
  . exact cg.2 ⟨fun z=>o8.1 (Sy S1 z),ih⟩
end
structure DO(L:LS)(s:RS):Prop where
 nx:L.nx=(s.cs.length:Int)
 es:L.es=oh s.cs 0
 key:DM L.rt
 knd:(dH L.rt).Nodup
 lk:∀n,dc (.str n) L.rt=if gG n s.ro=[]then none else some (.str (gG n s.ro))
theorem aa6:DO ls0 jI:=⟨rfl,rfl,fun _ h=>(by cases h),List.nodup_nil,fun _=>rfl⟩
theorem Sz{L:LS}{s:RS}{r:jF}(h:nv s)(hl:s.cs.length<=1000000)(g:DO L s)(a:VM s r):DO (By L r) (Ao s r):=by
 obtain⟨nx,es,rt⟩:=L;obtain⟨g1,g2,g3,g4,g5⟩:=g;have g1:nx=(s.cs.length:Int):=g1;have g2:es=oh s.cs 0:=g2;subst g1 g2;cases r with
 |chunk d rs=>
  obtain⟨a1,a2,a3,a4⟩:=a;refine⟨?_,?_,g3,g4,g5⟩
  . show IntKind.i64.wrap ((s.cs.length:Int)+1)=((s.cs++[_]).length:Int);rw[fC be be,ax];rfl
  . show gY (.str (dJ d rs)) (pO d rs (s.cs.length:Int)) (oh s.cs 0)=oh (s.cs++[⟨dJ d rs,d,rs⟩]) 0;rw[vk _ (pX ((pY h.nd).1 a4)),I4,bH];rfl
 |root n x=>
  obtain⟨a1,a2,a3⟩:=a;show DO ⟨_,_,if x=[]then lB (.str n) rt else gY (.str n) (.str x) rt⟩ ⟨s.cs,lJ n x (eE x []) s.ro⟩;by_cases hx:x=[]
  . rw[aG hx];refine⟨rfl,rfl,VO g3 n,aa5 g3 g4 n,fun m=>?_⟩;show dc (.str m) (lB (.str n) rt)=if gG m (lJ n x (eE x []) s.ro)=[]then none else some (.str (gG m (lJ n x (eE x []) s.ro)))
    rw[Sw g3 g4,Fl h.Tk];by_cases q:m=n
    . rw[aG q,aG q,aG hx]
    . rw[aI q,aI q];exact g5 m
  . rw[aI hx];refine⟨rfl,rfl,MO g3 n x,aa4 g3 g4 n x,fun m=>?_⟩;show dc (.str m) (gY (.str n) (.str x) rt)=if gG m (lJ n x (eE x []) s.ro)=[]then none else some (.str (gG m (lJ n x (eE x []) s.ro)))
    rw[CY,Fl h.Tk];by_cases q:m=n
    . rw[aG q,aG q,aI hx]
    . rw[aI q,aI q];exact g5 m
def MP:RS->List jF->Prop
 |_,[]=>True
 |s,r::l=>VM s r/\MP (Ao s r) l
theorem BD:∀{a:List jF} {s:RS} {b:List jF},MP s (a++b)↔MP s a/\MP (a.foldl Ao s) b
 | [],s,b=>⟨fun h=>⟨trivial,h⟩,fun h=>h.2⟩
 |r::a,s,b=>by
  show VM s r/\MP (Ao s r) (a++b)↔(VM s r/\MP (Ao s r) a)/\_;rw[BD];exact and_assoc.symm
theorem VP(s:RS)(r:jF):(Ao s r).cs.length<=s.cs.length+1:=by
 cases r with
 |chunk d rs=>show(s.cs++[_]).length<=_;rw[ax];exact aA _
 |root n x=>exact Nat.le_succ _
theorem BE:∀{l:List jF} {s:RS} {L:LS},MP s l->nv s->DO L s->s.cs.length+l.length<=1000000->nv (l.foldl Ao s)/\DO (l.foldl By L) (l.foldl Ao s)/\(l.foldl Ao s).cs.length<=s.cs.length+l.length/\(∀r∈l,r.ok)/\(cW l).length<=180*l.length
 | [],s,L,_,h,g,_=>⟨h,g,aA _,fun _ h=>(by cases h),aW _⟩
 |r::l,s,L,v,h,g,hl=>by
  have hb:=VP s r;rw[aS]at hl ⊢;obtain⟨h1,h2,h3,h4,h5⟩:=BE (l:=l) (s:=Ao s r) (L:=By L r) v.2 (VN h v.1) (Sz h be g v.1) be;have ok:=Lr h v.1;refine⟨h1,h2,?_,fun x hx=>?_,?_⟩
  . show(l.foldl Ao (Ao s r)).cs.length<=_;omega
  . rcases aE.1 hx with rfl|hx
    . exact ok.1
    . exact h4 x hx
  . have:cW (r::l)=r.bytes++cW l:=rfl;rw[this,ax];omega
theorem GV{α:Type}[DecidableEq α]:∀{a b:List α},a.Nodup->b.Nodup->(∀x,x∈a↔x∈b)->List.Perm a b
 | [],b,_,_,h=>by
   cases b with
   |nil=>exact .nil
   |cons y b=>exact absurd ((h y).2 (by simp)) (by simp)
 |x::a,b,ha,hb,h=>by
  have hx:x∈b:=(h x).1 (by simp);rw[cg]at ha;refine(List.Perm.cons x (GV ha.2 (hb.erase x) fun y=>?_)).trans (List.perm_cons_erase hx).symm;rw[hb.mem_erase_iff];constructor
  . intro hy;exact⟨fun e=>ha.1 (e▸hy),(h y).1 (by simp[hy])⟩
  . rintro⟨h1,h2⟩;rcases aE.1 ((h y).2 h2)with q|q
    . exact absurd q h1
    . exact q
section
variable{L:LS}{rt:ae}{s:RS}
theorem nv.wm(h:nv s){p:aa×aa}(hp:p∈s.ro):p.2≠[]:=fun e=>by
 obtain⟨c,hc,q⟩:=(h.rv p hp).2;have:=h.Fo hc;rw[q,e]at this;cases this
theorem tK(h:nv s){p:aa×aa}(hp:p∈s.ro):gG p.1 s.ro=p.2:=wj h.Tk hp
theorem SA(h:nv s)(g:DO L s)(n:aa):n∈dH L.rt↔n∈s.ro.map Prod.fst:=by
 rw[tJ g.key,g.lk n];constructor
 . rintro⟨v,hv⟩;split at hv
   . cases hv
   . rename_i fL;rcases qZ n s.ro with⟨q,_⟩|q
     . exact absurd q fL
     . exact bA.2 ⟨_,q,rfl⟩
 . intro hn;obtain⟨p,hp,rfl⟩:=bA.1 hn;rw[tK h hp,aI (h.wm hp)];exact⟨_,rfl⟩
theorem aa7{l:List (aa×aa)}(h:Oy l):(l.map Prod.fst).Nodup:=List.Pairwise.imp (fun {a b} (q:a<b)=>fun(e:a=b)=>wh b (by rw[e]at q;exact q)) h
theorem Ja(h:nv s)(g:DO L s):List.Perm (dH L.rt) (s.ro.map Prod.fst):=GV g.knd (aa7 h.Tk) (SA h g)
theorem zu(h:nv s)(g:DO L s):iL (dH L.rt)=s.ro.map Prod.fst:=
 List.Perm.eq_of_pairwise (le:=(. <=·)) (fun _ _ _ _ h k=>IK h k) (xL _) (h.Tk.imp fun q=>List.le_of_lt q) ((tF _).trans (Ja h g))
theorem vw(h:nv s)(g:DO L s):L.rt.length=s.ro.length:=by
 have:=(Ja h g).length_eq;rw[aY]at this;rw[<- this];unfold dH;rw[aY]
theorem Cr(hr:DM rt)(hn:(dH rt).Nodup){n d:aa}(h:(D.str n,D.str d)∈rt):dc (.str n) rt=some (.str d):=by
 induction rt with
 |nil=>cases h
 |cons e rt ih=>
  obtain⟨k,v,rfl⟩:=hr e (by simp);have o8:(k::dH rt).Nodup:=hn;rw[cg]at o8;rw[gi];rcases aE.1 h with q|q
  . simp only[aB,D.str.injEq]at q;rw[aG (by rw[q.1]),q.2]
  . rw[aI fun z=>o8.1 ?_]
    . exact ih (fun e he=>hr e (by simp[he])) o8.2 q
    . have z:D.str k=D.str n:=z;simp only[D.str.injEq]at z;rw[z];exact bA.2 ⟨_,q,rfl⟩
theorem Oz(hr:DM rt){n:aa}{v:D}(h:dc (.str n) rt=some v):∃d,v= .str d/\(D.str n,D.str d)∈rt:=by
 induction rt with
 |nil=>cases h
 |cons e rt ih=>
  obtain⟨k,d,rfl⟩:=hr e (by simp);rw[gi]at h;split at h
  . rename_i q;have q:D.str k=D.str n:=q;simp only[D.str.injEq]at q;simp only[an]at h;subst q;subst h;exact⟨d,rfl,by simp⟩
  . obtain⟨d',h1,h2⟩:=ih (fun e he=>hr e (by simp[he])) h;exact⟨d',h1,by simp[h2]⟩
theorem vx(h:nv s)(g:DO L s)(d:aa):d∈iE L.rt↔∃p∈s.ro,p.2=d:=by
 constructor
 . intro hd;obtain⟨e,he,q⟩:=bA.1 hd;obtain⟨n,x,rfl⟩:=g.key e he;have q:x=d:=q;subst q;have hl:=Cr g.key g.knd he;rw[g.lk n]at hl;split at hl
   . cases hl
   . rename_i fL;simp only[an,D.str.injEq]at hl;rcases qZ n s.ro with⟨q,_⟩|q
     . exact absurd q fL
     . exact⟨_,q,hl⟩
 . rintro⟨p,hp,rfl⟩;have hl:=g.lk p.1;rw[tK h hp,aI (h.wm hp)]at hl;obtain⟨d,h1,h2⟩:=Oz g.key hl;simp only[D.str.injEq]at h1;rw[h1];exact bA.2 ⟨_,h2,rfl⟩
theorem vy(h:nv s)(g:DO L s):∀d∈iE L.rt,Ends L.es (s.cs.length+1) d:=fun d hd=>by
 obtain⟨p,hp,rfl⟩:=(vx h g d).1 hd;obtain⟨c,hc,e⟩:=(h.rv p hp).2;obtain⟨j,hj⟩:=bT.1 hc;rw[<- e,g.es];exact MM (h.ends j c hj) (by have:=(aF.1 hj).1;omega)
theorem SB(h:nv s)(g:DO L s){m:Nat}{c:gK}(hm:s.cs[m]? =some c):(fc s).getD m false=decide (c.dg∈pQ L.es L.rt (s.cs.length+1)):=by
 have hi:(fc s).getD m false=true↔c.dg∈pQ L.es L.rt (s.cs.length+1):=by
  rw[AY h hm,I9 (vy h g),g.es];constructor
  . rintro⟨c',h1,p,hp,q⟩;rw[hm]at h1;cases h1;exact⟨p.2,(vx h g _).2 ⟨p,hp,rfl⟩,q⟩
  . rintro⟨d,hd,q⟩;obtain⟨p,hp,rfl⟩:=(vx h g d).1 hd;exact⟨c,hm,p,hp,q⟩
 by_cases q:c.dg∈pQ L.es L.rt (s.cs.length+1)
 . rw[bL q,hi.2 q]
 . rw[bC q];cases z:(fc s).getD m false with
   |false=>rfl
   |true=>exact absurd (hi.1 z) q
end
theorem sE:∀(cs:List gK) (bs:List Bool) (i:Nat) (c:gK),(kU cs bs)[i]? =some c->∃m,cs[m]? =some c/\bs[m]? =some true/\∀(j:Nat) (c':gK),j<m->cs[j]? =some c'->bs[j]? =some true->∃i',i'<i/\(kU cs bs)[i']? =some c'
 | [],_,i,c,h=>by simp[kU]at h
 |_::_,[],i,c,h=>by simp[kU]at h
 |a::cs,b::bs,i,c,h=>by
  unfold kU at h ⊢;cases b with
  |true=>
   rw[aG rfl]at h ⊢;cases i with
   |zero=>
    simp only[bF,an]at h;exact⟨0,by simp[h],rfl,fun j c' hj=>absurd hj (Nat.not_lt_zero j)⟩
   |succ i=>
    simp only[cu]at h;obtain⟨m,h1,h2,h3⟩:=sE cs bs i c h;refine⟨m+1,by simpa using h1,by simpa using h2,fun j c' hj hc hb=>?_⟩;cases j with
    |zero=>
     simp only[bF,an]at hc;exact⟨0,be,by simp[hc]⟩
    |succ j=>
     obtain⟨i',k1,k2⟩:=h3 j c' be (by simpa using hc) (by simpa using hb);exact⟨i'+1,be,by simpa using k2⟩
  |false=>
   rw[aI dN]at h ⊢;obtain⟨m,h1,h2,h3⟩:=sE cs bs i c h;refine⟨m+1,by simpa using h1,by simpa using h2,fun j c' hj hc hb=>?_⟩;cases j with
   |zero=>simp at hb
   |succ j=>exact h3 j c' be (by simpa using hc) (by simpa using hb)
theorem Ap:∀{cs:List gK} {bs:List Bool} {m:Nat} {c:gK},cs[m]? =some c->bs[m]? =some true->c∈kU cs bs
 | [],_,_,_,h,_=>by simp at h
 |_::_,[],_,_,_,h=>by simp at h
 |a::cs,b::bs,0,c,h1,h2=>by
  simp only[bF,an]at h1 h2;subst h1 h2;unfold kU;rw[aG rfl];simp
 |a::cs,b::bs,m+1,c,h1,h2=>by
  simp only[cu]at h1 h2;have:=Ap h1 h2;unfold kU;split
  . simp[this]
  . exact this
theorem pZ:∀(cs:List gK) (bs:List Bool),List.Sublist (kU cs bs) cs
 | [],_=>by unfold kU;exact List.Sublist.refl _
 |_::_,[]=>by unfold kU;exact List.nil_sublist _
 |a::cs,b::bs=>by
  unfold kU;split
  . exact(pZ cs bs).cons_cons a
  . exact(pZ cs bs).cons a
theorem kept{s:RS}(h:nv s){m:Nat}{c:gK}(hm:s.cs[m]? =some c):(fc s)[m]? =some true↔RI s m:=by
 rw[<- AY h hm,aM];cases(fc s)[m]? with
 |none=>simp
 |some b=>simp
theorem MQ{s:RS}(h:nv s):nv (iF s):=by
 have uF:List.Sublist (iF s).cs s.cs:=pZ _ _;refine⟨h.nd.sublist (uF.map _),fun c hc=>h.nm c (uF.subset hc),fun i c hc r hr=>?_,h.Tk,fun p hp=>⟨(h.rv p hp).1,?_⟩⟩
 . obtain⟨m,h1,h2,h3⟩:=sE s.cs (fc s) i c hc;obtain⟨j,c',hj,vP,rfl⟩:=h.ref m c h1 r hr;have hm:=(kept h h1).1 h2;have hjr:RI s j:=(GU h vP).2 (.inr ⟨m,c,hj,h1,hr,hm⟩);obtain⟨i',k1,k2⟩:=h3 j c' hj vP ((kept h vP).2 hjr);exact⟨i',c',k1,k2,rfl⟩
 . obtain⟨c,hc,e⟩:=(h.rv p hp).2;obtain⟨j,hj⟩:=bT.1 hc;exact⟨c,Ap hj ((kept h hj).2 ((GU h hj).2 (.inl ((Du _ _).2 ⟨p,hp,e.symm⟩)))),e⟩
def lT(t:RS):List jF:=t.cs.map (fun c=>.chunk c.da c.rs)++t.ro.map fun p=>.root p.1 p.2
theorem Jb{n x:aa}:∀{l:List (aa×aa)},(∀p∈l,p.1<n)->lJ n x false l=l++[(n,x)]
 | [],_=>rfl
 |p::l,h=>by
  have hp:=h p (by simp);have hl:xZ n p.1=false:=by
   cases q:xZ n p.1 with
   |false=>rfl
   |true=>exact absurd (Fk hp (BC.2 q)) (wh _)
  have fL:¬p.1=n:=fun e=>wh n (by rw[e]at hp;exact hp);unfold lJ;rw[hl,aI (by simp),aI fL,Bool.or_false,Jb fun q hq=>h q (by simp[hq])];rfl
theorem Dv{t:RS}(h:nv t):∀(post pre:List gK),t.cs=pre++post->MP ⟨pre,[]⟩ (post.map fun c=>.chunk c.da c.rs)/\(post.map fun c=>jF.chunk c.da c.rs).foldl Ao ⟨pre,[]⟩=⟨t.cs,[]⟩
 | [],pre,e=>⟨trivial,by rw[e,ct];rfl⟩
 |c::post,pre,e=>by
  have hc:t.cs[pre.length]? =some c:=by rw[e,cj (aA _),Nat.sub_self];rfl
  obtain⟨DG,w8,J0⟩:=h.nm c (aZ hc);have JP:(pre.map gK.dg).Nodup:=by
   have:=h.nd;rw[e,aX]at this;exact(List.nodup_append.1 this).1
  have step:Ao ⟨pre,[]⟩ (.chunk c.da c.rs)=⟨pre++[c],[]⟩:=by
   show RS.mk (pre++[⟨dJ c.da c.rs,c.da,c.rs⟩]) []=_;rw[<- DG]
  have ih:=Dv h post (pre++[c]) (by rw[e,bz];rfl);rw[<- step]at ih;refine⟨⟨⟨w8,J0,fun r hr=>?_,?_⟩,ih.1⟩,ih.2⟩
  . obtain⟨j,c',hj,vP,q⟩:=h.ref _ c hc r hr;rw[e,bR,aG hj]at vP;exact(oo JP).2 ⟨j,c',vP,q⟩
  . refine(pY JP).2 fun c' vP q=>?_;rw[<- DG]at q;obtain⟨j,hj⟩:=bT.1 vP;have OL:=(aF.1 hj).1;have:t.cs[j]? =some c':=by rw[e,bR,aG OL];exact hj
    have:=h.MN this hc q;omega
theorem Fp{t:RS}(h:nv t):∀(post pre:List (aa×aa)),t.ro=pre++post->MP ⟨t.cs,pre⟩ (post.map fun p=>.root p.1 p.2)/\(post.map fun p=>jF.root p.1 p.2).foldl Ao ⟨t.cs,pre⟩=t
 | [],pre,e=>⟨trivial,by show RS.mk t.cs pre=t;rw[ct]at e;rw[<- e]⟩
 |p::post,pre,e=>by
  have hp:p∈t.ro:=by rw[e];simp
  have fE:∀q∈pre,q.1<p.1:=fun q hq=>by
   have:=h.Tk;unfold Oy at this;rw[e,aX,bV,List.pairwise_append]at this;exact this.2.2 _ (bA.2 ⟨q,hq,rfl⟩) _ (by simp)
  have fL:=h.wm hp;have hb:eE p.2 []=false:=by rw[fT];exact beq_eq_false_iff_ne.2 fL
  have step:Ao ⟨t.cs,pre⟩ (.root p.1 p.2)=⟨t.cs,pre++[p]⟩:=by
   show RS.mk t.cs (lJ p.1 p.2 (eE p.2 []) pre)=_;rw[hb,Jb fE]
  have ih:=Fp h post (pre++[p]) (by rw[e,bz];rfl);rw[<- step]at ih;refine⟨⟨⟨(h.rv p hp).1,.inr ?_,?_⟩,ih.1⟩,ih.2⟩
  . obtain⟨c,hc,q⟩:=(h.rv p hp).2;obtain⟨j,hj⟩:=bT.1 hc;exact(oo h.nd).2 ⟨j,c,hj,q⟩
  . show p.2≠gG p.1 pre;rw[zq fun q hq z=>wh p.1 (by have:=fE q hq;rw[z]at this;exact this)];exact fL
theorem aa8{t:RS}(h:nv t):MP jI (lT t)/\ga (lT t)=t:=by
 obtain⟨a1,a2⟩:=Dv h t.cs [] rfl;obtain⟨b1,b2⟩:=Fp h t.ro [] rfl;unfold lT;refine⟨BD.2 ⟨a1,?_⟩,?_⟩
 . show MP (List.foldl Ao ⟨[],[]⟩ _) _;rw[a2];exact b1
 . show List.foldl Ao ⟨[],[]⟩ _=t;rw[List.foldl_append,a2];exact b2
theorem SC(s:aa)(a:Nat):∀(m i:Nat) (u:Int),(∀j,i<=j->j<i+m->128<=(s.getD (a+j) 0).toNat)->N4 s a m i u=none
 |0,_,_,_=>rfl
 |m+1,i,u,h=>by
  unfold N4;rw[aG (h i (aA _) be)];exact SC s a m (i+1) _ fun j h1 h2=>h j be be
theorem MR:∀(k u j:Nat),u<128^(k+1)->j+1<(oc k (u:Int)).length->128<=((eM (oc k (u:Int))).getD j 0).toNat
 |0,u,j,_,hj=>by simp[oc]at hj
 |k+1,u,j,hu,hj=>by
  unfold oc at hj ⊢;by_cases h:(128:Int)<=(u:Int)
  . rw[aG h]at hj ⊢;rw[C0]at hj ⊢;cases j with
    |zero=>
     show 128<=(UInt8.ofNat (Tb (u:Int)).toNat).toNat;rw[Mk,u8I be];omega
    |succ j=>
     have hu2:u/128<128^(k+1):=by
      rw[Nat.pow_succ]at hu;exact Nat.div_lt_of_lt_mul (by rw[Nat.mul_comm];exact hu)
     have:=MR k (u/128) j hu2 (by rw[aS]at hj;omega);exact this
  . rw[aI h]at hj;simp at hj
theorem Jc{s:aa}{a:Nat}{n:Int}(h:((s.length-a:Nat):Int)<n):qI s a false n=([],a,true):=by
 unfold qI;rw[aG (.inr (.inr h))]
theorem Jd(s:aa)(a:Nat)(n:Int):qI s a true n=([],a,true):=by
 unfold qI;rw[aG (.inl rfl)]
theorem Je(s:aa)(a k:Nat):(xX s a true k).2.2=true:=by
 unfold xX;rw[Jd]
theorem SD{lg:aa}{a:Nat}{t x y:aa}(ht:t.length<34359738368)(hx:lg.drop a=x)(hy:y≠[])(hp:nk t=x++y)(ha:a<=lg.length):Stop lg a:=by
 have iQ:lg.length-a=x.length:=by rw[<- hx,bX]
 have hyl:0<y.length:=List.length_pos_iff.2 hy;have S9:=aN List.length hp;have hv:=l8 (Int.ofNat t.length);have hvl:(jj (Int.ofNat t.length)).length=(oc 4 (t.length:Int)).length:=uE _;have xV:nk t=jj (Int.ofNat t.length)++(t++dK (IntKind.i64.wrap (qB t))):=by unfold nk jl;rw[bz]
 have h4:(dK (IntKind.i64.wrap (qB t))).length=4:=rfl;rw[xV,ax,ax,ax,h4]at S9;rw[xV]at hp;have hxp:x=(jj (Int.ofNat t.length)++(t++dK (IntKind.i64.wrap (qB t)))).take x.length:=by rw[hp,bW (aA _),aT]
 refine .inr (.inl ?_);by_cases c1:x.length<(jj (Int.ofNat t.length)).length
 ·
  have hr:wP lg a=none:=by
   unfold wP;refine SC lg a _ 0 0 fun j _ hj=>?_;have hj:j<x.length:=by unfold wO at hj;omega
   have e1:lg.getD (a+j) 0=(eM (oc 4 (t.length:Int))).getD j 0:=by
    rw[aM,<- bG,hx,hxp,bM,aG hj,bR,aG be,aM];rfl
   rw[e1];exact MR 4 t.length j be be
  have e2:iu lg a false=(0,a,true):=by unfold iu OR;rw[hr];rfl
  have e3:gV lg a false=([],a,true):=by unfold gV;rw[e2];simp only[Jd];rfl
  rw[e3];exact Je _ _ _
 ·
  obtain⟨z,hz⟩:∃z,x=jj (Int.ofNat t.length)++z:=by
   refine⟨(t++dK (IntKind.i64.wrap (qB t))).take (x.length-(jj (Int.ofNat t.length)).length),?_⟩;rw[List.take_append]at hxp;rw[bq be]at hxp;exact hxp
  have hd:lg.drop a=jj (Int.ofNat t.length)++z:=by rw[hx,hz]
  have e1:=GC ht hd;have e2:iu lg a false=((t.length:Int),a+(jj (Int.ofNat t.length)).length,false):=by unfold iu;rw[aI dN];exact e1
  have S4:x.length=(jj (Int.ofNat t.length)).length+z.length:=by rw[hz,ax]
  have uR:lg.length-(a+(jj (Int.ofNat t.length)).length)=z.length:=by omega
  by_cases c2:z.length<t.length
  . have e3:gV lg a false=([],a,true):=by
     unfold gV;rw[e2];simp only[Jc (s:=lg) (a:=a+(jj (Int.ofNat t.length)).length) (n:=(t.length:Int)) (by rw[uR];omega)];rfl
    rw[e3];exact Je _ _ _
  . obtain⟨u,hu⟩:∃u,z=t++u:=by
     have:z++y=t++dK (IntKind.i64.wrap (qB t)):=by
      rw[hz,bz]at hp;exact(List.append_cancel_left hp).symm
     refine⟨z.drop t.length,?_⟩;have h1:=aN (List.take t.length) this;rw[bW be,bW (aA _),aT]at h1
     conv=>lhs;rw[<- ck t.length z,h1]
    have FY:lg.drop a=jl t++u:=by unfold jl;rw[hd,hu,bz]
    have e3:=y5 ht FY;rw[e3];have htl:(jl t).length=(jj (Int.ofNat t.length)).length+t.length:=by unfold jl;rw[ax]
    have GZ:z.length=t.length+u.length:=by rw[hu,ax]
    show(xX lg (a+(jl t).length) false 4).2.2=true;unfold xX;rw[Jc (by rw[show(Int.ofNat 4:Int)=((4:Nat):Int)from rfl];omega)]
theorem kf(r:jF)(l:List jF):cW (r::l)=r.bytes++cW l:=rfl
theorem Jf:∀(cS:List jF) (cut:Nat),cut<=(cW cS).length->∃(j:Nat) (x:aa),j<=cS.length/\(cW cS).take cut=cW (cS.take j)++x/\
  (x=[]\/∃r∈cS,∃y,y≠[]/\r.bytes=x++y)/\(∀i,i<=cS.length->(cW (cS.take i)).length<=cut->i<=j)/\(cW (cS.take j)).length<=cut
 | [],cut,_=>⟨0,[],aA _,by simp[cW],.inl rfl,fun i hi _=>hi,aW _⟩
 |r::cS,cut,h=>by
  rw[kf,ax]at h;by_cases c:r.bytes.length<=cut
  . obtain⟨j,x,h1,h2,h3,h4,h5⟩:=Jf cS (cut-r.bytes.length) be;refine⟨j+1,x,by rw[aS];omega,?_,?_,fun i hi hb=>?_,?_⟩
    . rw[kf,List.take_succ_cons,kf,List.take_append,bq c,h2,bz]
    . rcases h3 with h3|⟨q,hq,y,hy⟩
      . exact .inl h3
      . exact .inr ⟨q,by simp[hq],y,hy⟩
    . cases i with
      |zero=>exact aW _
      |succ i=>
       rw[List.take_succ_cons,kf,ax]at hb;have:=h4 i (by rw[aS]at hi;omega) be;omega
    . rw[List.take_succ_cons,kf,ax];omega
  . refine⟨0,r.bytes.take cut,aW _,?_,.inr ⟨r,by simp,r.bytes.drop cut,?_,(ck _ _).symm⟩,fun i hi hb=>?_,aW _⟩
    . rw[kf,bW be];rfl
    . intro e;have:=aN List.length e;rw[bX]at this;simp at this;omega
    . cases i with
      |zero=>exact aA _
      |succ i=>rw[List.take_succ_cons,kf,ax]at hb;omega
theorem SE{cS:List jF}(iA:∀r∈cS,r.ok){cut:Nat}(h:cut<=(cW cS).length):∃(j:Nat) (x:aa),j<=cS.length/\(cW cS).take cut=cW (cS.take j)++x/\
  Stop ((cW cS).take cut) (cW (cS.take j)).length/\(∀i,i<=cS.length->(cW (cS.take i)).length<=cut->i<=j)/\(cW (cS.take j)).length<=cut:=by
 obtain⟨j,x,h1,h2,h3,h4,h5⟩:=Jf cS cut h;refine⟨j,x,h1,h2,?_,h4,h5⟩;have hd:((cW cS).take cut).drop (cW (cS.take j)).length=x:=by rw[h2,List.drop_left'];rfl
 rcases h3 with rfl|⟨r,hr,y,hy,hb⟩
 . left;rw[h2,ct]
 . refine SD (t:=r.body) (by have:=jF.C3 (iA r hr);omega) hd hy hb ?_;rw[h2,ax];omega
theorem vz(cS:List jF):∀{i j:Nat},i<=j->(cW (cS.take i)).length<=(cW (cS.take j)).length:=fun {i j} h=>by
 have:cS.take i=(cS.take j).take i:=by rw[List.take_take,Nat.min_eq_left h]
 rw[this];exact Ah i
noncomputable abbrev VQ:Code:=dU Tryz.f31
section
variable(cN cO:Nat)(b:aa)(fl nx lf:Int)(es rt:ae)(o:af)
def lQx:af:=eN (pS cN cO b fl nx lf es rt)++o
def SF(m:Nat)(e1 r1:ae):af:=[(0,.ints .u32 gS),(1,.ints .u32 gR),(3,.cells [.di (some (4,0)) cN cO 1,.int .i64 fl,.map (some m),.map (some (m+1)),.int .i64 nx,.bool false,.bool false,.int .i64 lf]),(4,.iS 5 false b),(5,.dD none es),(6,.dD none rt)]++o++[(m,.dD none e1),(m+1,.dD none r1)]
def VR(fl nx lf:Int):af:=eN (pN fl nx lf [] [])++o
def OA(m:Nat)(lf:Int):af:=[(0,.ints .u32 gS),(1,.ints .u32 gR),(3,.cells [eH,.int .i64 0,.map (some m),.map (some (m+1)),.int .i64 0,.bool false,.bool false,.int .i64 lf]),(5,.dD none []),(6,.dD none [])]++o++[(m,.dD none []),(m+1,.dD none [])]
end
theorem an3(cN cO cut:Nat)(b:aa)(fl nx lf:Int)(es rt:ae)(kk:Int)(t0 c2:Nat)(IL:Int)(e1 r1:ae):vj ak (fK iw 57 [P3] (hL (lQx cut cO b fl nx lf es rt [(7,.cells [.int .i64 kk])])) 35 (.eo [],hL (SF c2 cO b (Int.ofNat c2) IL lf es rt [(7,.cells [.int .i64 kk])] 35 e1 r1),37)) [(13,.c9 (iW t0)),(36,.c9 (iW cut))] 1000 8 Tryz.f31 (VQ) (cR [P3,.di (some (7,0)) 1 1 1] (hL (lQx cN cO b fl nx lf es rt [(7,.cells [.int .i64 kk])])) 8)
  [([],
   [((0:Int)<=(0:Int)/\(0:Int)<(1:Int)),(V.int aj (IntKind.i64.wrap (Int.ofNat (BitVec.ofInt 64 kk&&&BitVec.ofInt 64 (255:Int)).toNat))=iW t0),((255:Int)≠(0:Int)),(V.int aj (IntKind.i64.wrap (fl+IntKind.i64.wrap ((IntKind.i64.wrap (IntKind.i64.wrap ((Int.ofNat cN)-fl)*Int.ofNat t0)).tdiv (255:Int))))=iW cut),((0:Int)<=Int.ofNat cut/\Int.ofNat cut<=(Int.ofNat cO)),(([.ptr (some (3,0))]:ag)=[.ptr (some (3,0))]/\(hL (eN (pS (cut-0) (cO-0) b fl nx lf es rt)++[(7,.cells [.int .i64 kk])]))=(hL (eN (pS cut cO b fl nx lf es rt)++[(7,.cells [.int .i64 kk])]))/\35=35)],
   .ret (.eo []) (hL [(0,.ints .u32 gS),(1,.ints .u32 gR),(3,.cells [.di (some (4,0)) c2 cO 1,.int .i64 (Int.ofNat c2),.map (some 8),.map (some 9),.int .i64 IL,.bool false,.bool false,.int .i64 lf]),(4,.iS 5 false b),(5,.dD none es),(6,.dD none rt),(7,.cells [.int .i64 kk]),(8,.dD none e1),(9,.dD none r1)]) 10)]
 :=⟨U,U,U⟩
theorem an4(fl nx lf:Int)(kk:Int)(t0:Nat):vj ak (fK iw 57 [P3] (hL (VR [(7,.cells [.int .i64 kk])] fl nx lf)) 35 (.eo [],hL (OA [(7,.cells [.int .i64 kk])] 35 lf),37)) [(13,.c9 (iW t0)),(36,.c9 (iW 0))] 1000 8 Tryz.f31 (VQ) (cR [P3,.di (some (7,0)) 1 1 1] (hL (VR [(7,.cells [.int .i64 kk])] fl nx lf)) 8)
  [([],
   [((0:Int)<=(0:Int)/\(0:Int)<(1:Int)),(V.int aj (IntKind.i64.wrap (Int.ofNat (BitVec.ofInt 64 kk&&&BitVec.ofInt 64 (255:Int)).toNat))=iW t0),((255:Int)≠(0:Int)),(V.int aj (IntKind.i64.wrap ((pN fl nx lf [] []).fl+IntKind.i64.wrap ((IntKind.i64.wrap (IntKind.i64.wrap ((0:Int)-(pN fl nx lf [] []).fl)*Int.ofNat t0)).tdiv (255:Int))))=iW 0),((0:Int)<=(0:Int)/\(0:Int)<=(0:Int)),fG [.ptr (some (3,0))] (hL [(0,.ints .u32 gS),(1,.ints .u32 gR),(3,.cells [.di none 0 0 0,.int .i64 ((pN fl nx lf [] []).fl),.map (some 5),.map (some 6),.int .i64 ((pN fl nx lf [] []).nx),.bool false,.bool false,.int .i64 ((pN fl nx lf [] []).lf)]),(5,.dD none []),(6,.dD none []),(7,.cells [.int .i64 kk])]) 35],
   .ret (.eo []) (hL [(0,.ints .u32 gS),(1,.ints .u32 gR),(3,.cells [.di none 0 0 0,.int .i64 0,.map (some 8),.map (some 9),.int .i64 0,.bool false,.bool false,.int .i64 lf]),(5,.dD none []),(6,.dD none []),(7,.cells [.int .i64 kk]),(8,.dD none []),(9,.dD none [])]) 10)]
 :=⟨U,U,U⟩
section
variable(fl nx lf:Int)(es:ae)
def lKN:af:=eN (pN fl nx lf es [])++[(7,.cells [.map (some 6)])]
def an5:af:=[(0,.ints .u32 gS),(1,.ints .u32 gR),(3,.cells (xC 4 5 6 (pN fl nx lf es []))),(5,.dD none es),(7,.cells [.map (some 6)])]
def aa9:St:=eG [(2,.ptr (some (8,0))),(6,w88)] (hL (lKN fl nx lf es++[(8,.cells [.di none 0 0 0])])) 9
noncomputable def agb:O:=.loop true none (aa9 fl nx lf es).fr [7] Ul Um
noncomputable def hKN:Tr O:=hL (lKN fl nx lf es++[(8,.cells [eH]),(9,.me),(10,agb fl nx lf es)])
noncomputable def SKN:St:=eG [(0,.fn (.yield 10) [] []),(5,.ptr (some (11,0)))] (hL (an5 fl nx lf es++[(8,.cells [eH]),(9,.me),(10,agb fl nx lf es)])) 12
def xU:Tr O:=hL (lKN fl nx lf es)
end
section
variable(fl nx lf:Int)(es:ae)
theorem an6:c5 (kW []) [] 8 Tryz.f113 [1,2] (eR 1 QV) (cR [eH,w88] (xU fl nx lf es) 8) [([],
   [],
   .to .normal (eG [(1,.fn (.func 88) [] [.ptr (some (7,0))]),(2,.ptr (some (8,0)))] (hL [(0,.ints .u32 gS),(1,.ints .u32 gR),(3,.cells [.di none 0 0 0,.int .i64 ((pN fl nx lf es []).fl),.map (some 5),.map (some 6),.int .i64 ((pN fl nx lf es []).nx),.bool false,.bool false,.int .i64 ((pN fl nx lf es []).lf)]),(5,.dD none ((pN fl nx lf es []).es)),(6,.dD none []),(7,.cells [.map (some 6)]),(8,.cells [.di none 0 0 0])]) 9))]
 :=cP.of U U U
theorem an7:c5 (kW []) [] 8 Tryz.f113 [2,6] (dO (dO Ag)) (eG [(1,w88),(2,P 8)] (hL (lKN fl nx lf es++[(8,.cells [eH])])) 9) [([],
   [],
   .to .normal (eG [(2,.ptr (some (8,0))),(6,.fn (.func 88) [] [.ptr (some (7,0))])] (hL [(0,.ints .u32 gS),(1,.ints .u32 gR),(3,.cells [.di none 0 0 0,.int .i64 ((pN fl nx lf es []).fl),.map (some 5),.map (some 6),.int .i64 ((pN fl nx lf es []).nx),.bool false,.bool false,.int .i64 ((pN fl nx lf es []).lf)]),(5,.dD none ((pN fl nx lf es []).es)),(6,.dD none []),(7,.cells [.map (some 6)]),(8,.cells [.di none 0 0 0])]) 9))]
 :=cP.of U U U
theorem an8:c5 (kW []) [] 8 Tryz.f113 [] (dY Ag) (tx (aa9 fl nx lf es) (hKN fl nx lf es) 11) [([],
   [],
   .ret (.di none 0 0 0) (hL [(0,.ints .u32 gS),(1,.ints .u32 gR),(3,.cells [.di none 0 0 0,.int .i64 ((pN fl nx lf es []).fl),.map (some 5),.map (some 6),.int .i64 ((pN fl nx lf es []).nx),.bool false,.bool false,.int .i64 ((pN fl nx lf es []).lf)]),(5,.dD none ((pN fl nx lf es []).es)),(6,.dD none []),(7,.cells [.map (some 6)])]) 8)]
 :=cP.of U U U
theorem an9:c5 (fK (kW []) 113 [eH,w88] (xU fl nx lf es) 8 (eH,xU fl nx lf es,8)) [] 8 Tryz.f86 [] (D7) (cR [w88] (xU fl nx lf es) 8) [([],
   [fG [.di none 0 0 0,.fn (.func 88) [] [.ptr (some (7,0))]] (hL [(0,.ints .u32 gS),(1,.ints .u32 gR),(3,.cells [.di none 0 0 0,.int .i64 ((pN fl nx lf es []).fl),.map (some 5),.map (some 6),.int .i64 ((pN fl nx lf es []).nx),.bool false,.bool false,.int .i64 ((pN fl nx lf es []).lf)]),(5,.dD none ((pN fl nx lf es []).es)),(6,.dD none []),(7,.cells [.map (some 6)])]) 8],
   .ret (.di none 0 0 0) (hL [(0,.ints .u32 gS),(1,.ints .u32 gR),(3,.cells [.di none 0 0 0,.int .i64 ((pN fl nx lf es []).fl),.map (some 5),.map (some 6),.int .i64 ((pN fl nx lf es []).nx),.bool false,.bool false,.int .i64 ((pN fl nx lf es []).lf)]),(5,.dD none ((pN fl nx lf es []).es)),(6,.dD none []),(7,.cells [.map (some 6)])]) 8)]
 :=cP.of U U U
theorem aoa:c5 (fK (kW []) 86 [w88] (xU fl nx lf es) 8 (eH,xU fl nx lf es,8)) [] 8 Tryz.f61 [] (D6) (cR [w88] (xU fl nx lf es) 8) [([],
   [fG [.fn (.func 88) [] [.ptr (some (7,0))]] (hL [(0,.ints .u32 gS),(1,.ints .u32 gR),(3,.cells [.di none 0 0 0,.int .i64 ((pN fl nx lf es []).fl),.map (some 5),.map (some 6),.int .i64 ((pN fl nx lf es []).nx),.bool false,.bool false,.int .i64 ((pN fl nx lf es []).lf)]),(5,.dD none ((pN fl nx lf es []).es)),(6,.dD none []),(7,.cells [.map (some 6)])]) 8,((0:Int)<=(0:Int)/\0<256)],
   .ret (.di none 0 0 0) (hL [(0,.ints .u32 gS),(1,.ints .u32 gR),(3,.cells [.di none 0 0 0,.int .i64 ((pN fl nx lf es []).fl),.map (some 5),.map (some 6),.int .i64 ((pN fl nx lf es []).nx),.bool false,.bool false,.int .i64 ((pN fl nx lf es []).lf)]),(5,.dD none ((pN fl nx lf es []).es)),(6,.dD none []),(7,.cells [.map (some 6)])]) 8)]
 :=cP.of U U U
theorem aob:c5 (fK (kW []) 61 [w88] (xU fl nx lf es) 8 (eH,xU fl nx lf es,8)) [] 7 Tryz.f23 [] (NY) (cR [P3] (eu (pN fl nx lf es [])) 7) [([],
   [fG [.fn (.func 88) [] [.ptr (some (7,0))]] (hL [(0,.ints .u32 gS),(1,.ints .u32 gR),(3,.cells [.di none 0 0 0,.int .i64 ((pN fl nx lf es []).fl),.map (some 5),.map (some 6),.int .i64 ((pN fl nx lf es []).nx),.bool false,.bool false,.int .i64 ((pN fl nx lf es []).lf)]),(5,.dD none ((pN fl nx lf es []).es)),(6,.dD none []),(7,.cells [.map (some 6)])]) 8],
   .ret (.di none 0 0 0) (hL [(0,.ints .u32 gS),(1,.ints .u32 gR),(3,.cells [.di none 0 0 0,.int .i64 ((pN fl nx lf es []).fl),.map (some 5),.map (some 6),.int .i64 ((pN fl nx lf es []).nx),.bool false,.bool false,.int .i64 ((pN fl nx lf es []).lf)]),(5,.dD none ((pN fl nx lf es []).es)),(6,.dD none [])]) 7)]
 :=cP.of U U U
end
section
variable(fl nx lf:Int)(es:ae)
theorem VS:cT ak 88 [.fn (.yield 10) [] [],.ptr (some (7,0))] (hKN fl nx lf es) 11 (.eo []) (hKN fl nx lf es) 11:=by
 refine fO.is (gB mo po Tryz.func88 (code:=D5) U U ?_);rw[ad5];refine yW (v0:=.map (some 6)) (jY:=(cR [.fn (.yield 10) [] [],.ptr (some (7,0))] (hKN fl nx lf es) 11).fr.set 4 (some (.map (some 6)))) (zB:=((cR [.fn (.yield 10) [] [],.ptr (some (7,0))] (hKN fl nx lf es) 11).fr.set 4 (some (.map (some 6)))).set 5 (some (.ptr (some (11,0))))) (m:=6) (kd:=none) (es:=[]) mo Mb
  U U U U (au rfl) U (fun iy s1=>iy=[]/\eU 12 [0,5] s1=some (SKN fl nx lf es)) ⟨rfl,U⟩ ?_
 rintro iy left s1 ⟨rfl,hs⟩ hp;refine⟨[0,5],SKN fl nx lf es,hs,U,fun vJ=>?_,fun e j9 he=>?_⟩
 . exact⟨(SKN fl nx lf es).fr.set 6 (some (.eo [.bool false])),{ SKN fl nx lf es with fr:=((SKN fl nx lf es).fr.set 6 (some (.eo [.bool false]))).set 7 (some (.bool false)) },U,U,U,.inl rfl,.eo [],hKN fl nx lf es,11,U,rfl,rfl,rfl⟩
 . have h1:=hp.length_eq;have h2:=he.length_eq;simp only[cD,bO,aS]at h1 h2;omega
theorem SG:cT ak 113 [eH,w88] (xU fl nx lf es) 8 eH (xU fl nx lf es) 8:=by
 refine cZ Tryz.func113 (code:=QV) U U ?_;refine iJ  1 (XQ []) (an6 fl nx lf es) cQ ?_;show TG ak 8 Tryz.f113.ntmps Ag (eG [(1,w88),(2,P 8)] (hL (lKN fl nx lf es++[(8,.cells [eH])])) 9) _;refine cV U ?_;refine cV U ?_;refine fV (XQ []) (an7 fl nx lf es) (dI ?_);refine⟨cQ,fun s' dX=>?_⟩;have dX:eU 8 [2,6] s'=some (aa9 fl nx lf es):=dX;refine c6 dX ?_;refine fh (i:=0) U ?_;refine oe (gf:=88) (lb:=[.ptr (some (7,0))]) U U U U U (VS fl nx lf es).one ?_;rintro v h n ⟨rfl,rfl,rfl⟩;refine⟨U,?_⟩;show TG ak 8 Tryz.f113.ntmps (dY Ag) _ _;refine fu (XQ []) (an8 fl nx lf es) (dI ?_);exact⟨cQ,_,_,_,rfl,rfl,rfl,rfl⟩
theorem MS:cT ak 23 [P3] (eu (pN fl nx lf es [])) 7 eH (eu (pN fl nx lf es [])) 7:=by
 have h86:cT ak 86 [w88] (xU fl nx lf es) 8 eH (xU fl nx lf es) 8:=by
  refine cZ Tryz.func86 (code:=D7) U U ?_;refine fu ((XQ []).ko (au U) (SG fl nx lf es)) (an9 fl nx lf es) (dI ?_);exact⟨fun p hp=>by rw[aq]at hp;subst hp;exact CV,_,_,_,rfl,rfl,rfl,rfl⟩
 have h61:cT ak 61 [w88] (xU fl nx lf es) 8 eH (xU fl nx lf es) 8:=by
  refine cZ Tryz.func61 (code:=D6) U U ?_;refine fu ((XQ []).ko (au U) h86) (aoa fl nx lf es) (dI ?_);refine⟨?_,_,_,_,rfl,rfl,rfl,rfl⟩
  repeat' (first|exact cQ|refine jn ?_ ?_)
  . exact CV
  . decide
 refine cZ Tryz.func23 (code:=NY) U U ?_;refine fu ((XQ []).ko (au U) h61) (aob fl nx lf es) (dI ?_);exact⟨fun p hp=>by rw[aq]at hp;subst hp;exact CV,_,_,_,rfl,rfl,rfl,rfl⟩
end
section
variable(l:List (Nat×List (Nat×oT)))
noncomputable abbrev csE:eX:=gC ak (kj 63 (jG KZ) W16) (sg l) 1000 40
noncomputable abbrev XE:CX ak:=CX.of mo po (fe Rr Gu) (sg l) 1000 40
end
section
variable(fl nx lf:Int)
def lSn:af:=eN (pN fl nx lf [] [])++[(7,.cells [P3]),(8,.dD none []),(9,.cells [.map (some 8)])]
def aoc:af:=eN (pN fl nx lf [] [])++[(7,.cells [P3]),(9,.cells [.map (some 8)])]
def aba:St:=eG [(2,P 10),(6,g81)] (hL (lSn fl nx lf++[(10,.cells [eH])])) 11
noncomputable def age:O:=.loop true none (aba fl nx lf).fr [7] Uj Uk
noncomputable def OB:Tr O:=hL (lSn fl nx lf++[(10,.cells [eH]),(11,.me),(12,age fl nx lf)])
noncomputable def VT:St:=eG [(0,.fn (.yield 12) [] []),(5,P 13)] (hL (aoc fl nx lf++[(10,.cells [eH]),(11,.me),(12,age fl nx lf)])) 14
def sF:Tr O:=hL (lSn fl nx lf)
def kNc:af:=eN (pN fl nx lf [] [])++[(7,.cells [P3]),(19,.cells [.map (some 6)])]
def kNd:af:=kNc fl nx lf++[(20,.dD none [])]
def kNe:af:=kNc fl nx lf++[(20,.dD none []),(21,.cells [.map (some 20)])]
def Tl:af:=eN (pN fl nx lf [] [])++[(7,.cells [P3])]
end
section
variable(n:aa)(fl nx lf:Int)
theorem aod:c5 (kW []) [] 10 Tryz.f100 [1,2] (eR 1 QU) (cR [eH,g81] (sF fl nx lf) 10) [([],
   [],
   .to .normal (eG [(1,g81),(2,P 10)] (hL (lSn fl nx lf++[(10,.cells [eH])])) 11))]
 :=cP.of U U U
theorem aoe:c5 (kW []) [] 10 Tryz.f100 [2,6] (dO (dO NW)) (eG [(1,g81),(2,P 10)] (hL (lSn fl nx lf++[(10,.cells [eH])])) 11) [([],
   [],
   .to .normal (aba fl nx lf))]
 :=cP.of U U U
theorem aof:c5 (kW []) [] 10 Tryz.f100 [] (dY NW) (tx (aba fl nx lf) (OB fl nx lf) 13) [([],
   [],
   .ret (.di none 0 0 0) (sF fl nx lf) 10)]
 :=cP.of U U U
theorem aog:c5 (kW []) [] 10 Tryz.f79 [0] (eR 1 KM) (cR [g81] (sF fl nx lf) 10) [([],
   [],
   .to .normal (eG [(0,g81)] (sF fl nx lf) 10))]
 :=cP.of U U U
theorem aoh:c5 (kW []) [] 10 Tryz.f79 [] (dY (dh 1 KM)) (sC8 (sF fl nx lf) 10 eH) [([],
   [],
   .ret (.di none 0 0 0) (sF fl nx lf) 10)]
 :=cP.of U U U
theorem aoi:c5 (kW []) [] 10 Tryz.f54 [0,1] (eR 1 KL) (cR [g81,g56] (sF fl nx lf) 10) [([],
   [],
   .to .normal (eG [(0,g81),(1,g56)] (sF fl nx lf) 10))]
 :=cP.of U U U
theorem agf:c5 (kW []) [] 10 Tryz.f54 [] (dh 2 KL) (sS8 (sF fl nx lf) 10 eH) [([],
   [((0:Int)<=(0:Int)/\0<256)],
   .ret (.di none 0 0 0) (sF fl nx lf) 10)]
 :=cP.of U U U
theorem aoj:c5 (fK (fK (kW []) 51 [P3,v78] (hL (kNc fl nx lf)) 20 (.map (some 20),hL (kNd fl nx lf),21)) 54 [v81,v56] (hL (kNe fl nx lf)) 22 (eH,hL (kNe fl nx lf),22)) [] 7 Tryz.f19 [1,3,4] (hd4) (cR [P3] (eu (pN fl nx lf [] [])) 7) [([],
   [fG [.ptr (some (3,0)),.fn (.func 78) [] [.ptr (some (19,0))]] (hL [(0,.ints .u32 gS),(1,.ints .u32 gR),(3,.cells [.di none 0 0 0,.int .i64 ((pN fl nx lf [] []).fl),.map (some 5),.map (some 6),.int .i64 ((pN fl nx lf [] []).nx),.bool false,.bool false,.int .i64 ((pN fl nx lf [] []).lf)]),(5,.dD none []),(6,.dD none []),(7,.cells [.ptr (some (3,0))]),(19,.cells [.map (some 6)])]) 20,fG [.fn (.func 81) [] [.ptr (some (21,0))],.fn (.func 56) [] [.ptr (some (7,0))]] (hL [(0,.ints .u32 gS),(1,.ints .u32 gR),(3,.cells [.di none 0 0 0,.int .i64 ((pN fl nx lf [] []).fl),.map (some 5),.map (some 6),.int .i64 ((pN fl nx lf [] []).nx),.bool false,.bool false,.int .i64 ((pN fl nx lf [] []).lf)]),(5,.dD none []),(6,.dD none []),(7,.cells [.ptr (some (3,0))]),(19,.cells [.map (some 6)]),(20,.dD none []),(21,.cells [.map (some 20)])]) 22],
   .to .normal (eG [(1,.ptr (some (7,0))),(3,.di none 0 0 0),(4,.di none 0 0 0)] (hL [(0,.ints .u32 gS),(1,.ints .u32 gR),(3,.cells [.di none 0 0 0,.int .i64 ((pN fl nx lf [] []).fl),.map (some 5),.map (some 6),.int .i64 ((pN fl nx lf [] []).nx),.bool false,.bool false,.int .i64 ((pN fl nx lf [] []).lf)]),(5,.dD none []),(6,.dD none []),(7,.cells [.ptr (some (3,0))])]) 8))]
 :=cP.of U U U
theorem aok:c5 (kW []) [] 7 Tryz.f19 [1,4] (dO Tf) (eG [(1,P 7),(3,eH),(4,eH)] (hL (Tl fl nx lf)) 8) [([],
   [],
   .to .normal (eG [(1,.ptr (some (7,0))),(4,.di none 0 0 0)] (hL [(0,.ints .u32 gS),(1,.ints .u32 gR),(3,.cells [.di none 0 0 0,.int .i64 ((pN fl nx lf [] []).fl),.map (some 5),.map (some 6),.int .i64 ((pN fl nx lf [] []).nx),.bool false,.bool false,.int .i64 ((pN fl nx lf [] []).lf)]),(5,.dD none []),(6,.dD none []),(7,.cells [.ptr (some (3,0))])]) 8))]
 :=cP.of U U U
theorem agh:c5 (fK AR 23 [P3] (hL (Tl fl nx lf)) 8 (eH,hL (Tl fl nx lf),8)) [] 7 Tryz.f19 [1,4] (dO GL) (eG [(1,P 7),(4,eH)] (hL (Tl fl nx lf)) 8) [([],
   [fG [.ptr (some (3,0))] (hL [(0,.ints .u32 gS),(1,.ints .u32 gR),(3,.cells [.di none 0 0 0,.int .i64 ((pN fl nx lf [] []).fl),.map (some 5),.map (some 6),.int .i64 ((pN fl nx lf [] []).nx),.bool false,.bool false,.int .i64 ((pN fl nx lf [] []).lf)]),(5,.dD none []),(6,.dD none []),(7,.cells [.ptr (some (3,0))])]) 8],
   .to .normal (eG [(1,.ptr (some (7,0))),(4,.di none 0 0 0)] (hL [(0,.ints .u32 gS),(1,.ints .u32 gR),(3,.cells [.di none 0 0 0,.int .i64 ((pN fl nx lf [] []).fl),.map (some 5),.map (some 6),.int .i64 ((pN fl nx lf [] []).nx),.bool false,.bool false,.int .i64 ((pN fl nx lf [] []).lf)]),(5,.dD none []),(6,.dD none []),(7,.cells [.ptr (some (3,0))])]) 8))]
 :=cP.of U U U
theorem agi:c5 AR [] 7 Tryz.f19 [1] (eR 3 (dY GL)) (eG [(1,P 7),(4,eH)] (hL (Tl fl nx lf)) 8) [([],
   [],
   .to .normal (eG [(1,.ptr (some (7,0)))] (hL [(0,.ints .u32 gS),(1,.ints .u32 gR),(3,.cells [.di none 0 0 0,.int .i64 0,.map (some 5),.map (some 6),.int .i64 ((pN fl nx lf [] []).nx),.bool false,.bool false,.int .i64 ((pN fl nx lf [] []).lf)]),(5,.dD none []),(6,.dD none []),(7,.cells [.ptr (some (3,0))])]) 8))]
 :=cP.of U U U
theorem agj:c5 (fK AR 57 [P3] (hL (Tl 0 nx lf)) 8 (.eo [],hL (OA [(7,.cells [P3])] 8 lf),10)) [] 7 Tryz.f19 [] (dh 3 (dY GL)) (eG [(1,.ptr (some (7,0)))] (hL (Tl 0 nx lf)) 8) [([],
   [fG [.ptr (some (3,0))] (hL [(0,.ints .u32 gS),(1,.ints .u32 gR),(3,.cells [.di none 0 0 0,.int .i64 ((pN (0:Int) nx lf [] []).fl),.map (some 5),.map (some 6),.int .i64 ((pN (0:Int) nx lf [] []).nx),.bool false,.bool false,.int .i64 ((pN (0:Int) nx lf [] []).lf)]),(5,.dD none []),(6,.dD none []),(7,.cells [.ptr (some (3,0))])]) 8],
   .ret (.int .i64 0) (hL [(0,.ints .u32 gS),(1,.ints .u32 gR),(3,.cells [.di none 0 0 0,.int .i64 0,.map (some 7),.map (some 8),.int .i64 0,.bool false,.bool false,.int .i64 lf]),(5,.dD none []),(6,.dD none []),(7,.dD none []),(8,.dD none [])]) 9)]
 :=cP.of U U U
theorem aol(d:aa)(fl nx lf:Int):c5 (csE NV) [(16,.c9 (.bool false))] 7 Tryz.f15 [] (yX) (cR [P3,.str d,.dL false 0 []] (eu (pN fl nx lf [] [])) 7) [([],
   [(V.bool (decide ((Int.ofNat d.length)>(65536:Int)))=V.bool false),([]=strs (dF [])),(0=0),(0<=1000000),(∀(x:aa),x∈dF []->x.length=32),(gS=gS),(gR=gR),([]=strs (dF [])),(0=0),(0<=1000000),((eF (d::dF [])).length<=1000000000),((if true=true then V.eo [D.fS (V.agg [V.str ([]:aa),V.di none 0 0 0,V.int aj (0:Int)]) (dc (D.str (dJ d (dF []))) (pN fl nx lf [] []).es),V.bool (dc (D.str (dJ d (dF []))) (pN fl nx lf [] []).es).isSome]else D.fS (V.agg [V.str ([]:aa),V.di none 0 0 0,V.int aj (0:Int)]) (dc (D.str (dJ d (dF []))) (pN fl nx lf [] []).es))=V.eo [Bh,V.bool false]),([]=strs (dF [])),(0=0),(d.length<=100000000),(0<=1000000),(0<=100000000),(V.bool (decide (IntKind.i64.wrap ((0:Int)+(Int.ofNat (gJ d (dF [])).length))>(1048576:Int)))=V.bool false),(0<(gJ d (dF [])).length),(eP (gJ d (dF [])).length 1 1=true)],
   .ret (.eo [.str (dJ d (dF [])),.int .i64 0]) (hL [(0,.ints .u32 gS),(1,.ints .u32 gR),(3,.cells [.di (some (7,0)) ((gJ d (dF [])).length) ((gJ d (dF [])).length) 1,.int .i64 ((pN fl nx lf [] []).fl),.map (some 5),.map (some 6),.int .i64 (IntKind.i64.wrap ((pN fl nx lf [] []).nx+(1:Int))),.bool false,.bool false,.int .i64 ((pN fl nx lf [] []).lf)]),(5,.dD none [(.str (dJ d (dF [])),.agg [.str d,.dL 0 [],.int .i64 ((pN fl nx lf [] []).nx)])]),(6,.dD none []),(7,.iS 5 false (gJ d (dF [])))]) 8)]
 :=cP.of U U U
theorem aom(d d0:aa)(jI:List (aa))(k:Int)(cN cO:Nat)(b:aa)(fl nx lf:Int)(es rt:ae):c5 (kW (NU d0 jI k)) [(16,.c9 (.bool false))] 7 Tryz.f15 [] (yX) (cR [P3,.str d,.dL false 0 []] (eu (pS cN cO b fl nx lf es rt)) 7) [([],
   [(V.bool (decide ((Int.ofNat d.length)>(65536:Int)))=V.bool false),([]=strs (dF [])),(0=0),(0<=1000000),(∀(x:aa),x∈dF []->x.length=32),(gS=gS),(gR=gR),([]=strs (dF [])),(0=0),(0<=1000000),((eF (d::dF [])).length<=1000000000),((if true=true then V.eo [D.fS (V.agg [V.str ([]:aa),V.di none 0 0 0,V.int aj (0:Int)]) (dc (D.str (dJ d (dF []))) es),V.bool (dc (D.str (dJ d (dF []))) es).isSome]else D.fS (V.agg [V.str ([]:aa),V.di none 0 0 0,V.int aj (0:Int)]) (dc (D.str (dJ d (dF []))) es))=V.eo [od d0 jI k,V.bool true])],
   .ret (.eo [.str (dJ d (dF [])),.int .i64 0]) (eu (pS cN cO b fl nx lf es rt)) 7)]
 :=cP.of U U U
theorem aon(d:aa)(cN cO:Nat)(b:aa)(fl nx lf:Int)(es rt:ae):c5 (csE NV) [(16,.c9 (.bool false))] 7 Tryz.f15 [] (yX) (cR [P3,.str d,.dL false 0 []] (eu (pS cN cO b fl nx lf es rt)) 7) [([],
   [(V.bool (decide ((Int.ofNat d.length)>(65536:Int)))=V.bool false),([]=strs (dF [])),(0=0),(0<=1000000),(∀(x:aa),x∈dF []->x.length=32),(gS=gS),(gR=gR),([]=strs (dF [])),(0=0),(0<=1000000),((eF (d::dF [])).length<=1000000000),((if true=true then V.eo [D.fS (V.agg [V.str ([]:aa),V.di none 0 0 0,V.int aj (0:Int)]) (dc (D.str (dJ d (dF []))) es),V.bool (dc (D.str (dJ d (dF []))) es).isSome]else D.fS (V.agg [V.str ([]:aa),V.di none 0 0 0,V.int aj (0:Int)]) (dc (D.str (dJ d (dF []))) es))=V.eo [Bh,V.bool false]),([]=strs (dF [])),(0=0),(d.length<=100000000),(0<=1000000),(0<=100000000),(V.bool (decide (IntKind.i64.wrap ((Int.ofNat cN)+(Int.ofNat (gJ d (dF [])).length))>(1048576:Int)))=V.bool false),(0<cO),(cN=b.length),(eP (cN+(gJ d (dF [])).length) 1 1=true)],
   .ret (.eo [.str (dJ d (dF [])),.int .i64 0]) (hL [(0,.ints .u32 gS),(1,.ints .u32 gR),(3,.cells [.di (some (7,0)) (cN+(gJ d (dF [])).length) (cN+(gJ d (dF [])).length) 1,.int .i64 fl,.map (some 5),.map (some 6),.int .i64 (IntKind.i64.wrap (nx+(1:Int))),.bool false,.bool false,.int .i64 lf]),(5,.dD none (gY (D.str (dJ d (dF []))) (D.agg [D.str d,D.dL 0 [],D.int aj nx]) es)),(6,.dD none rt),(7,.iS 5 false (b++eM (dP (gJ d (dF [])))))]) 8)]
 :=cP.of U U U
theorem aoo(d x:aa)(fl nx lf:Int):c5 (kW []) [(16,.c9 (.bool false))] 7 Tryz.f15 [] (yX) (cR [P3,.str d,.dL false 1 [.str x]] (eu (pN fl nx lf [] [])) 7) [([],
   [(V.bool (decide ((Int.ofNat d.length)>(65536:Int)))=V.bool false),([D.str x]=strs (dF [D.str x])),(1=(dF [D.str x]).length),(1<=1000000),(∀(x_1:aa),x_1∈dF [D.str x]->x_1.length=32),((0:Int)<=(0:Int)/\(0:Int)<(1:Int)),([D.str x].length=1)],
   .ret (.eo [.str [],.int .i64 63]) (hL [(0,.ints .u32 gS),(1,.ints .u32 gR),(3,.cells [.di none 0 0 0,.int .i64 ((pN fl nx lf [] []).fl),.map (some 5),.map (some 6),.int .i64 ((pN fl nx lf [] []).nx),.bool false,.bool false,.int .i64 ((pN fl nx lf [] []).lf)]),(5,.dD none []),(6,.dD none [])]) 7)]
 :=cP.of U U U
theorem aop:c5 (XB []) [(23,.c9 (.bool false)),(27,.c9 (.bool false))] 7 Tryz.f16 [] (wv) (cR [P3,.str n,.str []] (eu (pN fl nx lf [] [])) 7) [([],
   [(V.bool (eE n ([]:aa))=V.bool false),(V.bool (decide ((Int.ofNat n.length)>(64:Int)))=V.bool false)],
   .ret (.int .i64 0) (hL [(0,.ints .u32 gS),(1,.ints .u32 gR),(3,.cells [.di none 0 0 0,.int .i64 ((pN fl nx lf [] []).fl),.map (some 5),.map (some 6),.int .i64 ((pN fl nx lf [] []).nx),.bool false,.bool false,.int .i64 ((pN fl nx lf [] []).lf)]),(5,.dD none []),(6,.dD none [])]) 7)]
 :=cP.of U U U
theorem aoq(d:aa)(fl nx lf:Int):c5 (XB []) [(23,.c9 (.bool false)),(27,.c9 (.bool false)),(31,.c9 (.bool true))] 7 Tryz.f16 [] (wv) (cR [P3,.str n,.str d] (eu (pN fl nx lf [] [])) 7) [([],
   [(V.bool (eE n ([]:aa))=V.bool false),(V.bool (decide ((Int.ofNat n.length)>(64:Int)))=V.bool false),((V.bool !eE d ([]:aa))=V.bool true)],
   .ret (.int .i64 62) (hL [(0,.ints .u32 gS),(1,.ints .u32 gR),(3,.cells [.di none 0 0 0,.int .i64 ((pN fl nx lf [] []).fl),.map (some 5),.map (some 6),.int .i64 ((pN fl nx lf [] []).nx),.bool false,.bool false,.int .i64 ((pN fl nx lf [] []).lf)]),(5,.dD none []),(6,.dD none [])]) 7)]
 :=cP.of U U U
end
theorem aor(cN cO:Nat)(b:aa)(fl nx lf:Int)(es rt:ae):c5 (kW []) [] 7 Tryz.f20 [] (dU Tryz.f20) (cR [P3] (eu (pS cN cO b fl nx lf es rt)) 7) [([],
   [],
   .ret (.int .i64 ((Int.ofNat es.length))) (eu (pS cN cO b fl nx lf es rt)) 7)]
 :=cP.of U U U
theorem aos(fl nx lf:Int):c5 (kW []) [] 7 Tryz.f20 [] (dU Tryz.f20) (cR [P3] (eu (pN fl nx lf [] [])) 7) [([],
   [],
   .ret (.int .i64 ((Int.ofNat (pN fl nx lf [] []).es.length))) (hL [(0,.ints .u32 gS),(1,.ints .u32 gR),(3,.cells [.di none 0 0 0,.int .i64 ((pN fl nx lf [] []).fl),.map (some 5),.map (some 6),.int .i64 ((pN fl nx lf [] []).nx),.bool false,.bool false,.int .i64 ((pN fl nx lf [] []).lf)]),(5,.dD none []),(6,.dD none [])]) 7)]
 :=cP.of U U U
abbrev sC(n cO:Nat)(b:aa)(fl nx lf:Int)(es rt:ae):jm:=pc (pN fl nx lf es rt) n cO b
abbrev sZ(fl nx lf:Int):jm:=pz (pN fl nx lf [] [])
section
variable{n cO:Nat}{b:aa}{fl nx lf:Int}{es rt:ae}
section
variable{f:FuncId}{nm:aa}{rest:ag}{a:aa}{e:Int}{m:Nat}{u:aa}
theorem XW(c:cT ak f (P3::rest) (eu (pS n cO b fl nx lf es rt)) 7 (.eo [.str a,.int .i64 e]) (eu (pS n cO b fl nx lf es rt)) 7):Ak f rest (sC n cO b fl nx lf es rt) (.eo [.str a,.int .i64 e]) (sC n cO b fl nx lf es rt):=c.Ff 4 U
theorem SH(c:cT ak f (P3::rest) (eu (pS n cO b fl nx lf es rt)) 7 (.int .i64 e) (eu (pS n cO b fl nx lf es rt)) 7):Ak f rest (sC n cO b fl nx lf es rt) (.int .i64 e) (sC n cO b fl nx lf es rt):=c.Ff 4 U
theorem abb(c:cT ak f (P3::rest) (eu (pN fl nx lf [] [])) 7 (.eo [.str a,.int .i64 e]) (eu (pN fl nx lf [] [])) 7):Ak f rest (sZ fl nx lf) (.eo [.str a,.int .i64 e]) (sZ fl nx lf):=c.Ff 4 U
theorem SI(c:cT ak f (P3::rest) (eu (pN fl nx lf [] [])) 7 (.int .i64 e) (eu (pN fl nx lf [] [])) 7):Ak f rest (sZ fl nx lf) (.int .i64 e) (sZ fl nx lf):=c.Ff 4 U
theorem abc{nx2:Int}{tP:ae}(c:cT ak f (P3::rest) (eu (pS n cO b fl nx lf es rt)) 7 (.eo [.str a,.int .i64 e]) (QM m u fl nx2 lf tP rt) 8):Ak f rest (sC n cO b fl nx lf es rt) (.eo [.str a,.int .i64 e]) (sC m m u fl nx2 lf tP rt):=c.Ff 4 U
theorem Ls{rt2:ae}(c:cT ak f (P3::rest) (eu (pS n cO b fl nx lf es rt)) 7 (.int .i64 e) (Mr fl nx lf es m u rt2) 8):Ak f rest (sC n cO b fl nx lf es rt) (.int .i64 e) (sC m m u fl nx lf es rt2):=c.Ff 4 U
theorem agk{d:aa}{rs:List (aa)}(hd:d.length<=65536)(hn:rs.length<=1024)(h32:∀x∈rs,x.length=32)(DI:∀x∈rs,D3 es x)(hk:D3 es (dJ d rs)):
  Ak 15 [.str d,qJ rs] (sC n cO b fl nx lf es rt) (.eo [.str (dJ d rs),.int .i64 0]) (sC n cO b fl nx lf es rt):=by
 refine XW ?_;cases rs with
 |cons x rs=>exact QN d n cO b fl nx lf es rt false (x::rs) hd hn h32 DI hk
 |nil=>
  have hO:∀n:Nat,Int.ofNat n=(n:Int):=fun _=>rfl;obtain⟨d0,jI,k,hk⟩:=hk;refine cZ Tryz.func15 (code:=yX) U U ?_;refine fu (XQ (NU d0 jI k)) (aom d d0 jI k n cO b fl nx lf es rt) (dI ?_);refine⟨?_,_,_,_,rfl,rfl,rfl,rfl⟩;have hj:=jD d [] (by simp);simp only[bO]at hj;refine fm (iX de) (fm rfl (fm rfl (fm be (fm (fun _ hx=>absurd hx aL) (fm rfl (fm rfl (fm rfl (fm rfl (fm be (fm ?_ (e9 (l9 hk))))))))))));show(eF [d]).length<=_;omega
theorem agl{d:aa}{rs:List (aa)}(hd:d.length<=65536)(hn:rs.length<=1024)(h32:∀x∈rs,x.length=32)(DI:∀x∈rs,D3 es x)(hk:dc (.str (dJ d rs)) es=none)(hc:0<cO)(hl:n=b.length)(M9:n+(gJ d rs).length<=1048576):
  Ak 15 [.str d,qJ rs] (sC n cO b fl nx lf es rt) (.eo [.str (dJ d rs),.int .i64 0]) (sC (n+(gJ d rs).length) (n+(gJ d rs).length) (b++gJ d rs) fl (IntKind.i64.wrap (nx+1)) lf (gY (.str (dJ d rs)) (pO d rs nx) es) rt):=by
 refine abc ?_;cases rs with
 |cons x rs=>exact QO d n cO b fl nx lf es rt false (x::rs) hd hn (Nat.succ_pos _) h32 DI hk hc hl M9
 |nil=>
  have hO:∀n:Nat,Int.ofNat n=(n:Int):=fun _=>rfl;refine cZ Tryz.func15 (code:=yX) U U ?_;obtain⟨L,hr⟩:=aon d n cO b fl nx lf es rt;simp only[IA,gd]at hr;refine ia (XE NV) mo _ U hr (dI ?_);refine⟨?_,_,_,_,rfl,rfl,rfl,rfl⟩;have hj:=jD d [] (by simp);simp only[bO]at hj;refine fm (iX de) (fm (by first|rfl|trivial) (fm (by first|rfl|trivial) (fm be (fm (fun _ hx=>absurd hx aL) (fm (by first|rfl|trivial) (fm (by first|rfl|trivial) (fm (by first|rfl|trivial) (fm (by first|rfl|trivial) (fm be (fm (?_) (fm (qC hk) (fm (by first|rfl|trivial) (fm (by first|rfl|trivial) (fm be (fm be (fm be (fm (?_) (fm (hc) (fm (hl) (e9 (ji (by show n+(gJ d []).length<=_;omega))))))))))))))))))))))
  . show(eF [d]).length<=_;omega
  . show V.bool (decide (IntKind.i64.wrap (Int.ofNat n+Int.ofNat (gJ d []).length)>1048576))=_;rw[fC de de];exact iX de
theorem agm{d:aa}{rs:List (aa)}(hd:d.length<=65536)(hn:rs.length<=1024)(h32:∀x∈rs,x.length=32)(j:Nat)(x:aa)(hj:rs[j]? =some x)(hx:dc (.str x) es=none)(hg:∀i y,i<j->rs[i]? =some y->D3 es y):
  Ak 15 [.str d,qJ rs] (sC n cO b fl nx lf es rt) (.eo [.str [],.int .i64 63]) (sC n cO b fl nx lf es rt):=XW (UT false rs n cO b fl nx lf es rt d hd hn h32 j x hj hx hg)
theorem VU{d:aa}(hd:d.length<=65536):Ak 15 [.str d,qJ []] (sZ fl nx lf) (.eo [.str (dJ d []),.int .i64 0]) (sC (gJ d []).length (gJ d []).length (gJ d []) fl (IntKind.i64.wrap (nx+1)) lf (gY (.str (dJ d [])) (pO d [] nx) []) []):=by
 have key:cT ak 15 [P3,.str d,.dL false 0 []] (eu (pN fl nx lf [] [])) 7 (.eo [.str (dJ d []),.int .i64 0]) (hL [(0,.ints .u32 gS),(1,.ints .u32 gR),(3,.cells [.di (some (7,0)) (gJ d []).length (gJ d []).length 1,.int .i64 fl,.map (some 5),.map (some 6),.int .i64 (IntKind.i64.wrap (nx+1)),.bool false,.bool false,.int .i64 lf]),(5,.dD none (gY (.str (dJ d [])) (pO d [] nx) [])),(6,.dD none []),(7,.iS 5 false (gJ d []))]) 8:=by
  have hO:∀n:Nat,Int.ofNat n=(n:Int):=fun _=>rfl;refine cZ Tryz.func15 (code:=yX) U U ?_;obtain⟨L,hr⟩:=aol d fl nx lf;simp only[IA]at hr;refine ia (XE NV) mo _ U hr (dI ?_);refine⟨?_,_,_,_,rfl,rfl,rfl,rfl⟩;have hj:=jD d [] (by simp);have wR:=ET d (rs:=[]) (by simp);have hr0:=(Iq d []).1;simp only[bO]at hj wR;refine fm (iX de) (fm (by first|rfl|trivial) (fm (by first|rfl|trivial) (fm be (fm (fun _ hx=>absurd hx aL) (fm (by first|rfl|trivial) (fm (by first|rfl|trivial) (fm (by first|rfl|trivial) (fm (by first|rfl|trivial) (fm be (fm (?_) (fm (qC rfl) (fm (by first|rfl|trivial) (fm (by first|rfl|trivial) (fm be (fm be (fm be (fm (?_) (fm (hr0) (e9 (ji (by show(gJ d []).length<=_;omega)))))))))))))))))))))
  . show(eF [d]).length<=_;omega
  . show V.bool (decide (IntKind.i64.wrap ((0:Int)+Int.ofNat (gJ d []).length)>1048576))=_;rw[fC de de];exact iX de
 generalize gJ d []=u at key ⊢;generalize gY (.str (dJ d [])) (pO d [] nx) []=es at key ⊢;generalize dJ d []=a at key ⊢;exact key.Ff 4 U
theorem agn{d x:aa}(hd:d.length<=65536)(hx:x.length=32):Ak 15 [.str d,qJ [x]] (sZ fl nx lf) (.eo [.str [],.int .i64 63]) (sZ fl nx lf):=by
 refine abb ?_;have hO:∀n:Nat,Int.ofNat n=(n:Int):=fun _=>rfl;refine cZ Tryz.func15 (code:=yX) U U ?_;refine fu (XQ []) (aoo d x fl nx lf) (dI ?_);refine⟨?_,_,_,_,rfl,rfl,rfl,rfl⟩;exact fm (iX de) (fm rfl (fm rfl (fm be (fm (fun y hy=>by rw[aq.1 hy];exact hx) (fm ⟨dN,dN⟩ (e9 rfl))))))
theorem VV(hn:UO nm):Ak 16 [.str nm,.str []] (sZ fl nx lf) (.int .i64 0) (sZ fl nx lf):=by
 refine SI ?_;refine cZ Tryz.func16 (code:=wv) U U ?_;refine fu (XU []) (aop nm fl nx lf) (dI ?_);exact⟨fm (y9 hn.1) (e9 (GI hn.2)),_,_,_,rfl,rfl,rfl,rfl⟩
theorem VW{d:aa}(hn:UO nm)(hd:d≠[]):Ak 16 [.str nm,.str d] (sZ fl nx lf) (.int .i64 62) (sZ fl nx lf):=by
 refine SI ?_;refine cZ Tryz.func16 (code:=wv) U U ?_;refine fu (XU []) (aoq nm d fl nx lf) (dI ?_);exact⟨fm (y9 hn.1) (fm (GI hn.2) (e9 (GH hd))),_,_,_,rfl,rfl,rfl,rfl⟩
theorem VX:Ak 66 [] (sC n cO b fl nx lf es rt) (.int .i64 0) (sC n cO b (Int.ofNat n) nx lf es rt):=(aaS n cO b fl nx lf es rt).Ff 4 U
theorem VY:Ak 66 [] (sZ fl nx lf) (.int .i64 0) (sZ 0 nx lf):=(VA fl nx lf [] []).Ff 4 U
end
end
end Go.Proofs.YtfihojpgobmmdaaGreatDoor
