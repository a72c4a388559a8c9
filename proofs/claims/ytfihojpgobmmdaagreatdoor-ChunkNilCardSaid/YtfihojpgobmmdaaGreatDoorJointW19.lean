/- Lemmas on the chunk store. No conditions. -/
import Derived.Test.YtfihojpgobmmdaaGreatDoorJointW18
set_option linter.unusedVariables false
set_option linter.unusedSimpArgs false
set_option linter.unusedSectionVars false
set_option maxRecDepth 20000
namespace Go.Proofs.YtfihojpgobmmdaaGreatDoor
open Go Go.Eng
theorem abX{α:Type}{g a b c d e:α}(h:g∈[a,b,c,d,e]):g=a\/g=b\/g=c\/g=d\/g=e:=(aF.1 h).imp id fun h=>afE h
def l5(n x:L):Bool->List (L×L)->List (L×L)
 |dn,[]=>if dn=true then[]else[(n,x)]
 |dn,p::l=>(if dn=false/\yx n p.1=true then[(n,x)]else[])++((if p.1=n then[]else[p])++l5 n x (dn||yx n p.1) l)
def pC(s:RS)(n x:L):RR:=
 if x≠[]/\fk s.C x<0 then⟨s,[],62,false⟩
 else if x=gX n s.ro then⟨s,[],0,false⟩
 else⟨⟨s.C,l5 n x (eJ x []) s.ro⟩,[],0,true⟩
theorem WB(a b:List (L×L)):eR (a++b)=eR a++eR b:=by unfold eR;rw[aY,cz]
theorem zJ{gy:List (L×L)}(p q:L):List.take (gy.length*2) (List.drop 0 (eR gy))++[rs.str p,rs.str q]=eR (gy++[(p,q)]):=by
 rw[bn,bq (by rw[nM];omega),WB];rfl
theorem sU{k:Nat}(h:k<=1000000):eU k 2 32=true:=by
 unfold eU;exact bQ ⟨K,K⟩
section
variable(s:RS)(n x:L)
abbrev EF(gy:List (L×L))(dn:Bool)(i:Nat):St:=WA s n x gy.length (.deep (eR gy)) dn [(10,iW i)]
theorem ape(N:s.C.length<=1000000)(B:s.ro.length<=100000)(dn0:Bool):TG ak 3 Tryz.f90.ntmps (dh 5 zI) (WA s n x 0 (.deep (eR [])) dn0 []) (fJ ak 3 Tryz.f90 (nQ (RR.v ⟨⟨s.C,l5 n x dn0 s.ro⟩,[],0,true⟩))):=by
 refine cZ U ?_;refine cZ U ?_;refine fO Eh (apd s n x 0 (eR []) dn0) (dG ?_);refine⟨cT,fun s' dO=>?_⟩;refine iq (α:=List (L×L)×Bool×Nat) 1 (fun a=>s.ro.length-a.2.2) (fun a=>a.2.2<=s.ro.length/\a.1.length<=2*a.2.2/\a.1++l5 n x a.2.1 (s.ro.drop a.2.2)=l5 n x dn0 s.ro) (fun a=>EF s n x a.1 a.2.1 a.2.2) U U ([],dn0,0) ⟨aX _,aX _,by rw[bn];rfl⟩ (.norm dO) fun a ⟨hi,hl,he⟩=>?_;obtain⟨gy,dn,i⟩:=a;simp only at hi hl he;have hal:(eR gy).length=gy.length*2:=nM gy;rcases bK i s.ro.length with fI|y6
 . have jZ:=aN V.dx (DK s.ro i fI);rw[bH fI]at he;generalize s.ro[i]=pq at jZ he;obtain⟨p,q⟩:=pq;have hb:((0:Int)<=Int.ofNat i/\Int.ofNat i<(Int.ofNat s.ro.length)):=⟨az _,dm⟩;have zK:V.int aj (IntKind.i64.wrap (Int.ofNat i+(1:Int)))=iW (i+1):=nL dm K;have wT:=nM s.ro;have W:s.ro.length-(i+1)<s.ro.length-i:=by omega
   cases dn with
   |true=>
    refine fO Eh (Y5 s n x gy.length (eR gy) i p q) fun g hg I=>?_;rcases w8 hg with rfl|rfl|rfl
    . have h3:=I _ (aK _ (aq.2 rfl));dsimp only at h3;have fU:p≠n:=pn (by simpa using h3);refine⟨fm (hb) (fm (wT) (fm (jZ) (fm (hb) (fm (wT) (fm (jZ) (fm K (fm dU (fm (sU K) (eX (zK)))))))))),fun s2 jr=>⟨(gy++[(p,q)],true,i+1),W,⟨by show i+1<=_;omega,by show(gy++[(p,q)]).length<=2*(i+1);rw[ax];simp;omega,?_⟩,?_⟩⟩
      . simp only[l5,aI fU,Bool.true_or]at he;simpa using he
      . rw[zJ]at jr;show gF _ _ _ _ (EF s n x (gy++[(p,q)]) true (i+1));unfold EF;rw[ax];exact .norm jr
    . have h3:=I _ (aK _ (aq.2 rfl));dsimp only at h3;have KK:p=n:=kT (by simpa using h3);refine⟨fm (hb) (fm (wT) (fm (jZ) (eX (zK)))),fun s2 jr=>⟨(gy,true,i+1),W,⟨by show i+1<=_;omega,by show gy.length<=2*(i+1);omega,?_⟩,.norm jr⟩⟩;simp only[l5,aH KK,Bool.true_or]at he;simpa using he
    . exact absurd (aJ (I _ (aq.2 rfl))) dm
   |false=>
    obtain⟨L5,wK⟩:=Y6 s n x gy.length (eR gy) i p q;have e1:(List.take (gy.length*2) (List.drop 0 (eR gy))++[rs.str n,rs.str x])=eR (gy++[(n,x)]):=zJ n x;have e2:List.take ((gy.length+1)*2) (List.drop 0 (eR (gy++[(n,x)])))++[rs.str p,rs.str q]=eR (gy++[(n,x)]++[(p,q)]):=by
     have:=zJ (gy:=gy++[(n,x)]) p q;rwa [ax]at this
    have e3:=zJ (gy:=gy) p q;have HI:(eR (gy++[(n,x)])).length=(gy.length+1)*2:=by rw[nM,ax];simp
    rw[e1,e2,e3]at wK;refine gC Eh mo l9 U wK fun g hg I=>?_;rcases abX hg with rfl|rfl|rfl|rfl|rfl
    . have B:=I _ (aK _ (aP ..));have h3:=I _ (aK _ (aK _ (aq.2 rfl)));dsimp only at B h3;have fU:p≠n:=pn (by simpa using h3);refine⟨fm (hb) (fm (wT) (fm (jZ) (fm K (fm dU (fm (sU K) (fm (hb) (fm (wT) (fm (jZ) (fm (hb) (fm (wT) (fm (jZ) (fm K (fm dU (fm (sU K) (eX (zK)))))))))))))))),fun s2 jr=>⟨(gy++[(n,x)]++[(p,q)],true,i+1),W,⟨by show i+1<=_;omega,by show(gy++[(n,x)]++[(p,q)]).length<=2*(i+1);rw[ax,ax];simp;omega,?_⟩,?_⟩⟩
      . simp only[l5,aI fU,B]at he;simpa using he
      . show gF _ _ _ _ (EF s n x (gy++[(n,x)]++[(p,q)]) true (i+1));unfold EF;rw[ax,ax];exact .norm jr
    . have B:=I _ (aK _ (aP ..));have h3:=I _ (aK _ (aK _ (aq.2 rfl)));dsimp only at B h3;have KK:p=n:=kT (by simpa using h3);refine⟨fm (hb) (fm (wT) (fm (jZ) (fm K (fm dU (fm (sU K) (fm (hb) (fm (wT) (fm (jZ) (eX (zK)))))))))),fun s2 jr=>⟨(gy++[(n,x)],true,i+1),W,⟨by show i+1<=_;omega,by show(gy++[(n,x)]).length<=2*(i+1);rw[ax];simp;omega,?_⟩,?_⟩⟩
      . simp only[l5,aH KK,B]at he;simpa using he
      . show gF _ _ _ _ (EF s n x (gy++[(n,x)]) true (i+1));unfold EF;rw[ax];exact .norm jr
    . have B:=I _ (aK _ (aP ..));have h3:=I _ (aK _ (aK _ (aq.2 rfl)));dsimp only at B h3;have fU:p≠n:=pn (by simpa using h3);refine⟨fm (hb) (fm (wT) (fm (jZ) (fm (hb) (fm (wT) (fm (jZ) (fm (hb) (fm (wT) (fm (jZ) (fm K (fm dU (fm (sU K) (eX (zK))))))))))))),fun s2 jr=>⟨(gy++[(p,q)],false,i+1),W,⟨by show i+1<=_;omega,by show(gy++[(p,q)]).length<=2*(i+1);rw[ax];simp;omega,?_⟩,?_⟩⟩
      . simp only[l5,aI fU,B]at he;simpa using he
      . show gF _ _ _ _ (EF s n x (gy++[(p,q)]) false (i+1));unfold EF;rw[ax];exact .norm jr
    . have B:=I _ (aK _ (aP ..));have h3:=I _ (aK _ (aK _ (aq.2 rfl)));dsimp only at B h3;have KK:p=n:=kT (by simpa using h3);refine⟨fm (hb) (fm (wT) (fm (jZ) (fm (hb) (fm (wT) (fm (jZ) (eX (zK))))))),fun s2 jr=>⟨(gy,false,i+1),W,⟨by show i+1<=_;omega,by show gy.length<=2*(i+1);omega,?_⟩,.norm jr⟩⟩;simp only[l5,aH KK,B]at he;simpa using he
    . exact absurd (aJ (I _ (aq.2 rfl))) dm
 . obtain rfl:i=s.ro.length:=by omega
   rw[List.drop_length]at he;have qW:∀s2,gF ak 3 Tryz.f90.ntmps s2 (EF s n x gy dn s.ro.length)->TG ak 3 Tryz.f90.ntmps (dh 6 zI) s2 (fJ ak 3 Tryz.f90 (nQ (RR.v ⟨⟨s.C,l5 n x dn0 s.ro⟩,[],0,true⟩))):=fun s2 jr=>by
    refine jr _ _ ?_;rw[<- he];have BP:∀ro:List (L×L),nQ (RR.v ⟨⟨s.C,ro⟩,[],0,true⟩) (.agg [.dS false s.C.length (eL s.C),.dj (some (3,0)) ro.length ro.length 2,.str [],.int .i64 0,.bool true]) (J [(3,.deep (eR ro))]) 4:=fun ro=>
     ⟨[[3]],[(eR ro).length=ro.length*2],{ S:=H.nil.set 0 (some (RR.v ⟨⟨s.C,ro⟩,[],0,true⟩)),h:=(J [(3,.deep (eR ro))]).set 3 none,n:=4,gG:=[] },U,eX (nM _),U⟩
    cases dn with
    |true=>
     refine fh Eh (agY s n x gy.length (eR gy) s.ro.length) (dG ?_);refine⟨cT,_,_,_,rfl,?_⟩;have:=BP gy;simpa[l5]using this
    |false=>
     obtain⟨L6,LF⟩:=agZ s n x gy.length (eR gy) s.ro.length;rw[zJ]at LF;refine gA Eh mo _ U LF (dG ?_);refine⟨fm K (fm dU (eX (sU K))),_,_,_,rfl,?_⟩;have:=BP (gy++[(n,x)]);rw[ax]at this;exact this
   cases dn with
   |true=>
    refine fO Eh (Y5 s n x gy.length (eR gy) s.ro.length [] []) fun g hg I=>?_;rcases w8 hg with rfl|rfl|rfl
    . exact absurd (aE (I _ (aP ..))) dm
    . exact absurd (aE (I _ (aP ..))) dm
    . refine⟨cT,fun s2 jr=>?_⟩;simp only[andThen,dV];exact qW s2 (.norm jr)
   |false=>
    refine fO Eh (Y6 s n x gy.length (eR gy) s.ro.length [] []) fun g hg I=>?_;rcases abX hg with rfl|rfl|rfl|rfl|rfl
    . exact absurd (aE (I _ (aP ..))) dm
    . exact absurd (aE (I _ (aP ..))) dm
    . exact absurd (aE (I _ (aP ..))) dm
    . exact absurd (aE (I _ (aP ..))) dm
    . refine⟨cT,fun s2 jr=>?_⟩;simp only[andThen,dV];exact qW s2 (.norm jr)
end
section
variable(s:RS)(n x:L)
theorem apf(N:s.C.length<=1000000)(B:s.ro.length<64)(hn:n≠[])(Mt:n.length<=64):TG ak 3 Tryz.f90.ntmps zI (cU [s.v,.str n,.str x] .nil 3) (fJ ak 3 Tryz.f90 (nQ (pC s n x).v)):=by
 have An:∀a∈[True,True,True,True,s.C.length<=1000000,s.ro.length<=1000000],a:=fm trivial (fm trivial (fm trivial (fm trivial (fm N (eX K)))));have hN:V.bool (eJ n ([]:L))=V.bool false:=zE hn;have J:V.bool (decide ((Int.ofNat n.length)>(64:Int)))=V.bool false:=Hi Mt;have hR:V.bool (decide ((Int.ofNat s.ro.length)>=(64:Int)))=V.bool false:=aN V.bool (bC dm);obtain⟨L1,BQ⟩:=apb s n x;simp only[pT,iM]at BQ;refine lX 2 Eh mo U BQ An ?_;show TG _ _ _ (dh 2 zI) (sSr s n x [(7,.str (gX n s.ro))]) _;have Ni:∀s',fa 3 [1,2,3,6] s'=some (sSr s n x [])->¬(x≠[]/\fk s.C x<0)->x≠gX n s.ro->TG ak 3 Tryz.f90.ntmps (dh 3 zI) s' (fJ ak 3 Tryz.f90 (nQ (pC s n x).v)):=fun s' dO hf hw=>by
  refine c6 dO ?_;unfold pC;rw[aI hf,aI hw];refine iF  2 Eh (apc s n x (eJ x [])) (eX rfl) ?_;refine(gF.deep [5] (fr:=WA s n x 0 (.deep (eR [])) (eJ x []) []) U) _ _ ?_;exact ape s n x N K (eJ x [])
 generalize abY:gX n s.ro=si at Ni ⊢;refine cZ U ?_;by_cases G:x=[]
 . subst G;have hf:¬(([]:L)≠[]/\fk s.C []<0):=fun h=>h.1 rfl;obtain⟨L2,Ee⟩:=agX s n si;refine gC Eh mo (nQ (pC s n []).v) U Ee fun g hg I=>?_;rcases iU hg with rfl|rfl
   . have h3:=kT (I _ (aq.2 rfl));refine⟨fm hN (eX J),?_,fun s1 gi=>gi⟩;unfold pC;rw[aI hf,aH (by rw[abY];exact h3)];exact nQ.self
   . have h3:=pn (I _ (aq.2 rfl));exact⟨fm hN (eX J),fun s1 gi=>Ni s1 gi hf h3⟩
 . have hX:(V.bool !eJ x ([]:L))=V.bool true:=Hh G;obtain⟨L2,Ee⟩:=agW s n x si;simp only[iM,pT]at Ee;refine gC Eh mo (nQ (pC s n x).v) U Ee fun g hg I=>?_;have hA:∀a∈[V.bool (eJ n ([]:L))=V.bool false,V.bool (decide ((Int.ofNat n.length)>(64:Int)))=V.bool false,(V.bool !eJ x ([]:L))=V.bool true],a:=fm hN (fm J (eX hX));rcases abX hg with rfl|rfl|rfl|rfl|rfl
   . have h3:=aE (I _ (aq.2 rfl));refine⟨jK (a:=[_,_,_]) hA An,?_,fun s1 gi=>gi⟩;unfold pC;rw[aH ⟨G,h3⟩];exact nQ.self
   all_goals
    have h3:=aJ (I _ (aP ..));have hf:¬(x≠[]/\fk s.C x<0):=fun h=>h3 h.2
   . have h4:=kT (I _ (aK _ (aK _ (aq.2 rfl))));refine⟨jK (a:=[_,_,_]) hA (jK (a:=[_,_,_,_,_,_]) An (fm hX (eX hR))),?_,fun s1 gi=>gi⟩;unfold pC;rw[aI hf,aH (by rw[abY];exact h4)];exact nQ.self
   . have h4:=pn (I _ (aK _ (aK _ (aq.2 rfl))));exact⟨jK (a:=[_,_,_]) hA (jK (a:=[_,_,_,_,_,_]) An (fm hX (eX hR))),fun s1 gi=>Ni s1 gi hf h4⟩
   . have h4:=kT (I _ (aK _ (aK _ (aq.2 rfl))));refine⟨jK (a:=[_,_,_]) hA (jK (a:=[_,_,_,_,_,_]) An (eX hX)),?_,fun s1 gi=>gi⟩;unfold pC;rw[aI hf,aH (by rw[abY];exact h4)];exact nQ.self
   . have h4:=pn (I _ (aK _ (aK _ (aq.2 rfl))));exact⟨jK (a:=[_,_,_]) hA (jK (a:=[_,_,_,_,_,_]) An (eX hX)),fun s1 gi=>Ni s1 gi hf h4⟩
end
def L0:ai->Option (ah×V)
 | [.agg [.dS n C,.dS m D],.str d,.dS k us]=>some (Jp n C m D++[n<=100000,us=strs (dy us),k=(dy us).length,d.length<=65536,k<=1024,∀x∈dy us,x.length=32],(ij ⟨fo C,lQ D⟩ d (dy us)).v)
 |_=>none
def L9:ai->Option (ah×V)
 | [.agg [.dS n C,.dS m D],.str a,.str x]=>some (Jp n C m D++[m<64,a≠[],a.length<=64],(pC ⟨fo C,lQ D⟩ a x).v)
 |_=>none
theorem Jq(r:RR):r.v.deep=true:=rfl
theorem SV:jv ak 37 (Go.Eng.dW L0):=by
 refine vE (au U) fun args cS v e hA=>?_;unfold L0 at e;split at e
 case h_2=>cases e
 rename_i n C m D d k us;simp only[an,aB]at e;obtain⟨rfl,rfl⟩:=e;have hB:=fun a ha=>hA a (b9 _ ha);have hC:=fun a ha=>hA a (cL _ ha);obtain⟨s,N,B,h3,h4,h5,h6,h7,h8⟩:=ug hC;have b1:n<=100000:=hB (n<=100000) (by simp);have b2:us=strs (dy us):=hB _ (by simp);have b3:k=(dy us).length:=hB (k=(dy us).length) (by simp);have b4:d.length<=65536:=hB (d.length<=65536) (by simp);have b5:k<=1024:=hB (k<=1024) (by simp);have b6:∀x∈dy us,x.length=32:=hB (∀x∈dy us,x.length=32) (by simp);rw[h7,h8];clear h7 h8 hA hB hC;generalize dy us=ps at *;subst N B h3 h4 b2 b3;exact ig mo po Tryz.func37 U U rfl (Jq _) (apa s d ps b1 h6 b4 b5 b6)
theorem SX:jv ak 90 (Go.Eng.dW L9):=by
 refine vE (au U) fun args cS v e hA=>?_;unfold L9 at e;split at e
 case h_2=>cases e
 rename_i n C m D a x;simp only[an,aB]at e;obtain⟨rfl,rfl⟩:=e;have hB:=fun a ha=>hA a (b9 _ ha);have hC:=fun a ha=>hA a (cL _ ha);obtain⟨s,N,B,h3,h4,h5,h6,h7,h8⟩:=ug hC;have b1:m<64:=hB (m<64) (by simp);have b2:a≠[]:=hB (a≠[]) (by simp);have b3:a.length<=64:=hB (a.length<=64) (by simp);rw[h7,h8];clear h7 h8 hA hB hC;subst N B h3 h4;exact ig mo po Tryz.func90 U U rfl (Jq _) (apf s a x h5 b1 b2 b3)
noncomputable abbrev W25:jQ:=jD 90 (Go.Eng.dW L9) (jD 37 (Go.Eng.dW L0) W24)
theorem SY:gl ak W25:=e9 SX (e9 SV SU)
noncomputable abbrev yj:fb:=gP ak W25 H0 1000 40
noncomputable abbrev Jr:CX ak:=CX.of mo po SY H0 1000 40
noncomputable abbrev O7:Code:=dN Tryz.f68
noncomputable abbrev WC:Code:=dz (dz (dY (dP (dh 2 O7))))
section
variable(s:RS)(bs:List Bool)(i:Nat)(r:List (Nat×V))(z:Int)(j:Nat)
noncomputable abbrev abZ:Code:=dz (dP (dY WC))
noncomputable abbrev WD:Code:=dP abZ
noncomputable abbrev SZ:Code:=dh 2 abZ
def lR:ai:=bs.map .bool
def rP:St:=eG ([(1,.ptr (some (3,0))),(3,.dj (some (4,0)) bs.length bs.length 1)]++r) (J [(3,bx s),(4,.deep (lR bs))]) 5
def S0(k:Nat)(ds:ai)(r:List (Nat×V)):St:=eG ([(1,.ptr (some (3,0))),(3,.dj (some (4,0)) k k 1)]++r) (J [(3,bx s),(4,.deep ds)]) 5
theorem aph:c9 yj [] 3 Tryz.f68 [1,3] (eV 2 O7) (cU [s.v] .nil 3) [([],
   [((0:Int)<=IntKind.i64.wrap (Int.ofNat s.C.length)/\IntKind.i64.wrap (Int.ofNat s.C.length)<=IntKind.i64.wrap (Int.ofNat s.C.length)/\(1:Int)*IntKind.i64.wrap (Int.ofNat s.C.length)<=(281474976710656:Int))],
   .to .normal (S0 s (IntKind.i64.wrap (Int.ofNat s.C.length)).toNat (BA [rs.bool false] (IntKind.i64.wrap (Int.ofNat s.C.length)).toNat) []))]
 :=cR.of U U U
theorem api:c9 yj [(15,.di (.int .i64 z))] 3 Tryz.f68 [1,3,4] (dP (dP (dh 2 O7))) (rP s bs []) [([],
   [(V.int aj (IntKind.i64.wrap ((Int.ofNat s.C.length)-(1:Int)))=V.int aj z)],
   .to .normal (rP s bs [(4,.int .i64 z)]))]
 :=cR.of U U U
theorem apj:c9 yj [(17,.di (.bool true))] 3 Tryz.f68 [1,3,4] (dP WC) (rP s bs [(4,iW i)]) [([],
   [(V.bool (decide (Int.ofNat i>=(0:Int)))=V.bool true)],
   .to .normal (rP s bs [(4,iW i)]))]
 :=cR.of U U U
theorem ag0:c9 yj [] 3 Tryz.f68 [1,3,4] (dP WC) (rP s bs [(4,.int .i64 (-1))]) [([],
   [],
   .to (.exit 0) (rP s bs [(4,.int .i64 (-1))]))]
 :=cR.of U U U
theorem apk:c9 yj [] 3 Tryz.f68 [1,3,4,5] (dP WD) (rP s bs [(4,iW i)]) [([],
   [],
   .to .normal (rP s bs [(4,iW i),(5,iW 0)]))]
 :=cR.of U U U
theorem Y7:c9 yj [(24,.split),(32,.di (.bool true)),(26,.di (iW (j+1)))] 3 Tryz.f68 [1,3,4,5] (dz (dz (dY WD))) (rP s bs [(4,iW i),(5,iW j)]) [([((decide (Int.ofNat j<(Int.ofNat s.ro.length))),true)],
   [((0:Int)<=Int.ofNat i/\Int.ofNat i<(Int.ofNat bs.length)),(0+i*1<(lR bs).length),(((lR bs).getD (0+i*1) rs.uP).iZ=V.bool true),((0:Int)<=Int.ofNat i/\Int.ofNat i<(Int.ofNat bs.length)),(0+i*1+1<=(lR bs).length),(V.int aj (IntKind.i64.wrap (Int.ofNat j+(1:Int)))=iW (j+1))],
   .to .normal (S0 s bs.length (nV (lR bs) (0+i*1) [rs.bool true]) [(4,iW i),(5,iW (j+1))])),
  ([((decide (Int.ofNat j<(Int.ofNat s.ro.length))),false)],
   [],
   .to (.exit 2) (rP s bs [(4,iW i),(5,iW j)]))]
 :=cR.of U U U
theorem Y8(p q:L)(c:gq):c9 yj [(24,.split),(32,.di (.bool false)),(37,.di (.dx [.str p,.str q])),(43,.di (.dx c.d)),(26,.di (iW (j+1)))] 3 Tryz.f68 [1,3,4,5] (dz (dz (dY WD))) (rP s bs [(4,iW i),(5,iW j)]) [([((decide (Int.ofNat j<(Int.ofNat s.ro.length))),true)],
   [((0:Int)<=Int.ofNat i/\Int.ofNat i<(Int.ofNat bs.length)),(0+i*1<(lR bs).length),(((lR bs).getD (0+i*1) rs.uP).iZ=V.bool false),((0:Int)<=Int.ofNat j/\Int.ofNat j<(Int.ofNat s.ro.length)),((eR s.ro).length=s.ro.length*2),(V.dx (dF (eR s.ro) (j*2) 2)=V.dx [rs.str p,rs.str q]),((0:Int)<=Int.ofNat i/\Int.ofNat i<(Int.ofNat s.C.length)),((eL s.C).length=s.C.length*3),(V.dx (dF (eL s.C) (i*3) 3)=V.dx c.d),((0:Int)<=Int.ofNat i/\Int.ofNat i<(Int.ofNat bs.length)),(0+i*1+1<=(lR bs).length),(V.int aj (IntKind.i64.wrap (Int.ofNat j+(1:Int)))=iW (j+1))],
   .to .normal (S0 s bs.length (nV (lR bs) (0+i*1) [rs.bool (eJ q c.dg)]) [(4,iW i),(5,iW (j+1))])),
  ([((decide (Int.ofNat j<(Int.ofNat s.ro.length))),false)],
   [],
   .to (.exit 2) (rP s bs [(4,iW i),(5,iW j)]))]
 :=cR.of U U U
theorem apl:c9 yj [] 3 Tryz.f68 [1,3,4,6] (eV 1 (dh 1 abZ)) (rP s bs [(4,iW i),(5,iW j)]) [([],
   [],
   .to .normal (rP s bs [(4,iW i),(6,iW 0)]))]
 :=cR.of U U U
theorem apm(c:gq)(b:Bool):c9 yj [(53,.di (.dx c.d)),(57,.split),(62,.di (.bool b)),(63,.split)] 3 Tryz.f68 [1,3,4,6] (dP (dz (dz SZ))) (rP s bs [(4,iW i),(6,iW j)]) [([((decide (Int.ofNat j<(Int.ofNat c.D.length))),true),(b,true)],
   [((0:Int)<=Int.ofNat i/\Int.ofNat i<(Int.ofNat s.C.length)),((eL s.C).length=s.C.length*3),(V.dx (dF (eL s.C) (i*3) 3)=V.dx c.d),((0:Int)<=Int.ofNat i/\Int.ofNat i<(Int.ofNat bs.length)),(0+i*1<(lR bs).length),(((lR bs).getD (0+i*1) rs.uP).iZ=V.bool b)],
   .to .normal (rP s bs [(4,iW i),(6,iW j)])),
  ([((decide (Int.ofNat j<(Int.ofNat c.D.length))),true),(b,false)],
   [((0:Int)<=Int.ofNat i/\Int.ofNat i<(Int.ofNat s.C.length)),((eL s.C).length=s.C.length*3),(V.dx (dF (eL s.C) (i*3) 3)=V.dx c.d),((0:Int)<=Int.ofNat i/\Int.ofNat i<(Int.ofNat bs.length)),(0+i*1<(lR bs).length),(((lR bs).getD (0+i*1) rs.uP).iZ=V.bool b)],
   .to (.exit 4) (rP s bs [(4,iW i),(6,iW j)])),
  ([((decide (Int.ofNat j<(Int.ofNat c.D.length))),false),(false,true)],
   [((0:Int)<=Int.ofNat i/\Int.ofNat i<(Int.ofNat s.C.length)),((eL s.C).length=s.C.length*3),(V.dx (dF (eL s.C) (i*3) 3)=V.dx c.d)],
   .to .normal (rP s bs [(4,iW i),(6,iW j)])),
  ([((decide (Int.ofNat j<(Int.ofNat c.D.length))),false),(false,false)],
   [((0:Int)<=Int.ofNat i/\Int.ofNat i<(Int.ofNat s.C.length)),((eL s.C).length=s.C.length*3),(V.dx (dF (eL s.C) (i*3) 3)=V.dx c.d)],
   .to (.exit 4) (eG [(1,.ptr (some (3,0))),(3,.dj (some (4,0)) (bs.length) (bs.length) 1),(4,.int .i64 (Int.ofNat i)),(6,.int .i64 (Int.ofNat j))] (J [(3,.cells [.dS false (s.C.length) (eL s.C),.dS false (s.ro.length) (eR s.ro)]),(4,.deep (lR bs))]) 5))]
 :=cR.of U U U
noncomputable abbrev ab0:Code:=dP (dY (dz (dz SZ)))
theorem apn(c:gq)(r:L):c9 yj [(70,.di (.dx c.d)),(74,.di (.dx [.str r]))] 3 Tryz.f68 [1,3,4,6,7] (dP (dz ab0)) (rP s bs [(4,iW i),(6,iW j)]) [([],
   [((0:Int)<=Int.ofNat i/\Int.ofNat i<(Int.ofNat s.C.length)),((eL s.C).length=s.C.length*3),(V.dx (dF (eL s.C) (i*3) 3)=V.dx c.d),((0:Int)<=Int.ofNat j/\Int.ofNat j<(Int.ofNat c.D.length)),((strs c.D).length=c.D.length*1),(V.dx (dF (strs c.D) (j*1) 1)=V.dx [rs.str r]),(eL s.C=eL (fo (eL s.C))),(s.C.length=(fo (eL s.C)).length),(eR s.ro=eR (lQ (eR s.ro))),(s.ro.length=(lQ (eR s.ro)).length),(s.C.length<=1000000),(s.ro.length<=1000000)],
   .to .normal (eG [(1,.ptr (some (3,0))),(3,.dj (some (4,0)) (bs.length) (bs.length) 1),(4,.int .i64 (Int.ofNat i)),(6,.int .i64 (Int.ofNat j)),(7,.int .i64 (fk (fo (eL s.C)) r))] (J [(3,.cells [.dS false (s.C.length) (eL s.C),.dS false (s.ro.length) (eR s.ro)]),(4,.deep (lR bs))]) 5))]
 :=cR.of U U U
theorem ag1(m:Nat):c9 yj [(78,.di (.bool true))] 3 Tryz.f68 [1,3,4,6] (dY (dz ab0)) (rP s bs [(4,iW i),(6,iW j),(7,iW m)]) [([],
   [(V.bool (decide (Int.ofNat m>=(0:Int)))=V.bool true),((0:Int)<=Int.ofNat m/\Int.ofNat m<(Int.ofNat bs.length)),(0+m*1+1<=(lR bs).length)],
   .to .normal (S0 s bs.length (nV (lR bs) (0+m*1) [rs.bool true]) [(4,iW i),(6,iW j)]))]
 :=cR.of U U U
theorem ag2:c9 yj [] 3 Tryz.f68 [1,3,4,6] (dY (dz ab0)) (rP s bs [(4,iW i),(6,iW j),(7,.int .i64 (-1))]) [([],
   [],
   .to .normal (rP s bs [(4,iW i),(6,iW j)]))]
 :=cR.of U U U
theorem ag3:c9 yj [(65,.di (iW (j+1)))] 3 Tryz.f68 [1,3,4,6] (dY (dY (dz (dz SZ)))) (rP s bs [(4,iW i),(6,iW j)]) [([],
   [(V.int aj (IntKind.i64.wrap (Int.ofNat j+(1:Int)))=iW (j+1))],
   .to .normal (rP s bs [(4,iW i),(6,iW (j+1))]))]
 :=cR.of U U U
theorem apo:c9 yj [(19,.di (.int .i64 z))] 3 Tryz.f68 [1,3,4] (dY (dY WC)) (rP s bs [(4,iW i)]) [([],
   [(V.int aj (IntKind.i64.wrap (Int.ofNat i-(1:Int)))=V.int aj z)],
   .to .normal (rP s bs [(4,.int .i64 z)]))]
 :=cR.of U U U
theorem ag4:c9 yj [] 3 Tryz.f68 [] (dY (dh 2 O7)) (rP s bs [(4,.int .i64 (-1))]) [([],
   [],
   .ret (.dj (some (3,0)) (bs.length) (bs.length) 1) (J [(3,.deep (lR bs))]) 4)]
 :=cR.of U U U
end
def EG(ro:List (L×L))(c:gq):Bool:=ro.any fun p=>eJ p.2 c.dg
section
variable(s:RS)(bs:List Bool)(i:Nat)
def jL(r:L):List Bool:=if fk s.C r<0 then bs else bs.set (fk s.C r).toNat true
def k8(c:gq):List Bool:=bs.set i (bs.getD i false||EG s.ro c)
def zL(c:gq):List Bool:=if(k8 s bs i c).getD i false=true then c.D.foldl (jL s) (k8 s bs i c)else k8 s bs i c
end
def S1(s:RS):Nat->List Bool->List Bool
 |0,bs=>bs
 |i+1,bs=>S1 s i (zL s bs i (s.C.getD i ⟨[],[],[]⟩))
def fD(s:RS):List Bool:=S1 s s.C.length (List.replicate s.C.length false)
theorem Bu(x:L):∀(l:List gq) (i:Nat),sR x l i= -1\/∃m,m<i+l.length/\sR x l i=Int.ofNat m
 | [],_=>.inl rfl
 |c::l,i=>by
  unfold sR;split
  . exact .inr ⟨i,by simp,rfl⟩
  . rcases Bu x l (i+1)with h|⟨m,W,h⟩
    . exact .inl h
    . exact .inr ⟨m,by rw[aS];omega,h⟩
theorem Js(l:List gq)(x:L):fk l x= -1\/∃m,m<l.length/\fk l x=Int.ofNat m:=by
 have:=Bu x l 0;rw[bE]at this;exact this
theorem FH(s:RS)(bs:List Bool)(r:L):(jL s bs r).length=bs.length:=by
 unfold jL;split
 . rfl
 . rw[List.length_set]
theorem Jt(s:RS):∀(l:List (L)) (bs:List Bool),(l.foldl (jL s) bs).length=bs.length
 | [],_=>rfl
 |r::l,bs=>by rw[List.foldl_cons,Jt s l,FH]
section
variable(s:RS)(bs:List Bool)(i:Nat)
theorem yl(c:gq):(k8 s bs i c).length=bs.length:=by unfold k8;rw[List.length_set]
theorem FI(c:gq):(zL s bs i c).length=bs.length:=by
 unfold zL;split
 . rw[Jt,yl]
 . rw[yl]
end
theorem Nj(s:RS):∀(k:Nat) (bs:List Bool),(S1 s k bs).length=bs.length
 |0,_=>rfl
 |k+1,bs=>by rw[S1,Nj s k,FI]
theorem rQ(bs:List Bool):(lR bs).length=bs.length:=by unfold lR;rw[aT]
section
variable{bs:List Bool}{i:Nat}
theorem Nk(h:i<bs.length):0+i*1<(lR bs).length/\((lR bs).getD (0+i*1) rs.uP).iZ=V.bool (bs.getD i false):=by
 refine⟨by rw[rQ];omega,?_⟩;unfold lR;rw[bE,bk,aM,bu,ay h,aM,ay h];rfl
theorem Ht(h:i<bs.length)(b:Bool):nV (lR bs) (0+i*1) [rs.bool b]=lR (bs.set i b):=by
 unfold nV lR;rw[bE,bk,List.set_eq_take_append_cons_drop,aH h,aY,bY,cN,List.map_drop];rfl
end
theorem B9(s:RS)(bs:List Bool)(k:Nat)(hk:k=bs.length)(r:List (Nat×V)):S0 s k (lR bs) r=rP s bs r:=by subst hk;rfl
section
variable(s:RS)
theorem ag5(N:s.C.length<=100000)(B:s.ro.length<=1000000)(i:Nat)(hi:i<s.C.length)(bs:List Bool)(hl:bs.length=s.C.length){st:St}{es:Exit->St->Prop}
  (hs:gF ak 3 Tryz.f68.ntmps st (rP s bs [(4,iW i),(6,iW 0)])) (wT:(s.C[i]).D.length<=100000)
  (h:∀s' j,gF ak 3 Tryz.f68.ntmps s' (rP s (if bs.getD i false=true then(s.C[i]).D.foldl (jL s) bs else bs) [(4,iW i),(6,iW j)])->es .normal s'):TG ak 3 Tryz.f68.ntmps SZ st es:=by
 have An:∀a∈[True,True,True,True,s.C.length<=1000000,s.ro.length<=1000000],a:=fm trivial (fm trivial (fm trivial (fm trivial (fm K (eX B)))));have jZ:=aN V.dx (ue s.C i hi);have Lv:((0:Int)<=Int.ofNat i/\Int.ofNat i<(Int.ofNat s.C.length)):=⟨az _,dm⟩;have oO:=jy s.C;generalize s.C[i]=c at jZ wT h;refine iq (α:=List Bool×Nat) 4 (fun a=>c.D.length-a.2) (fun a=>a.2<=c.D.length/\a.1.length=s.C.length/\(bs.getD i false=true->a.1.getD i false=true)/\(bs.getD i false=false->a.1=bs)/\(if bs.getD i false=true then(c.D.drop a.2).foldl (jL s) a.1 else bs)=(if bs.getD i false=true then c.D.foldl (jL s) bs else bs)) (fun a=>rP s a.1 [(4,iW i),(6,iW a.2)]) U U (bs,0) ⟨aX _,hl,id,fun _=>rfl,by rw[bn]⟩ hs fun a ⟨a1,a2,a3,a4,a5⟩=>?_;obtain⟨ds,j⟩:=a;simp only at a1 a2 a3 a4 a5;have hg:=Nk (bs:=ds) (i:=i) K;have hbd:((0:Int)<=Int.ofNat i/\Int.ofNat i<(Int.ofNat ds.length)):=⟨az _,dm⟩;refine cZ U ?_;refine fO Jr (apm s ds i j c (ds.getD i false)) fun g uK I=>?_;rcases afE uK with rfl|rfl|rfl|rfl
 . have c1:=aE (I _ (aP ..));have c2:ds.getD i false=true:=I _ (aK _ (aq.2 rfl));rw[kr,kr]at c1;have hj:j<c.D.length:=by omega
   refine⟨fm (Lv) (fm (oO) (fm (jZ) (fm (hbd) (fm (hg.1) (eX (hg.2)))))),fun s1 gi=>c6 gi ?_⟩;have hb:bs.getD i false=true:=by
    cases hq:bs.getD i false with
    |true=>rfl
    |false=>rw[a4 hq,hq]at c2;cases c2
   refine cZ U ?_;refine fB (i:=5) U ?_;refine cZ U ?_;have Ma:=aN V.dx (fM (ay hj));obtain⟨L8,hr8⟩:=apn s ds i j c c.D[j];simp only[iM,pT]at hr8;refine gC Jr mo l9 U hr8 fun g uK _=>?_;rw[aq]at uK;subst uK;refine⟨jK (a:=[_,_,_,_,_,_]) (fm (Lv) (fm (oO) (fm (jZ) (fm (⟨az _,dm⟩) (fm (by rw[eN];omega) (eX (Ma))))))) An,fun s2 jr=>c6 jr ?_⟩;rw[aH hb,aH hb,bH hj,List.foldl_cons]at a5;have zK:V.int aj (IntKind.i64.wrap (Int.ofNat j+(1:Int)))=iW (j+1):=nL dm K;have pZ:∀s3,gF ak 3 Tryz.f68.ntmps s3 (rP s (jL s ds c.D[j]) [(4,iW i),(6,iW j)])->TG ak 3 Tryz.f68.ntmps (dY (dY (dz (dz SZ)))) s3 (andThen (fun s'=>∃x':List Bool×Nat,c.D.length-x'.2<c.D.length-j/\(x'.2<=c.D.length/\x'.1.length=s.C.length/\(bs.getD i false=true->x'.1.getD i false=true)/\(bs.getD i false=false->x'.1=bs)/\(if bs.getD i false=true then(c.D.drop x'.2).foldl (jL s) x'.1 else bs)=(if bs.getD i false=true then c.D.foldl (jL s) bs else bs))/\gF ak 3 Tryz.f68.ntmps s' (rP s x'.1 [(4,iW i),(6,iW x'.2)])) (mY 4 es)):=fun s3 yq=>by
    refine yq _ _ ?_;refine fO Jr (ag3 s (jL s ds c.D[j]) i j) fun g uK _=>?_;rw[aq]at uK;subst uK;refine⟨eX zK,fun s4 Jn=>⟨(jL s ds c.D[j],j+1),by show c.D.length-(j+1)<_;omega,⟨by show j+1<=_;omega,by show(jL s ds c.D[j]).length=_;rw[FH,a2],fun _=>?_,fun hq=>?_,?_⟩,.norm Jn⟩⟩
    . show(jL s ds c.D[j]).getD i false=true;unfold jL;split
      . exact c2
      . rw[aM,List.getElem?_set];rw[aM]at c2;split
        . rw[aH K];rfl
        . exact c2
    . rw[hb]at hq;cases hq
    . rw[aH hb,aH hb];exact a5
   rcases Js s.C c.D[j]with hf|⟨m,W,hf⟩
   . have hmk:jL s ds c.D[j]=ds:=by unfold jL;rw[hf];rfl
     rw[hf];refine fO Jr (ag2 s ds i j) fun g uK _=>?_;rw[aq]at uK;subst uK;rw[hmk]at pZ;exact⟨cT,fun s3 yq=>pZ s3 (.norm yq)⟩
   . have hmk:jL s ds c.D[j]=ds.set m true:=by
      unfold jL;rw[hf,aI dm];rfl
     rw[hf];refine fO Jr (ag1 s ds i j m) fun g uK _=>?_;rw[aq]at uK;subst uK;refine⟨fm (aN V.bool (bQ dm)) (fm (⟨az _,dm⟩) (eX (by rw[rQ];omega))),fun s3 yq=>?_⟩;rw[Ht K,B9 s _ _ (by rw[List.length_set])]at yq;rw[hmk]at pZ;exact pZ s3 (.norm yq)
 . have c1:=aE (I _ (aP ..));have c2:ds.getD i false=false:=I _ (aK _ (aq.2 rfl));refine⟨fm (Lv) (fm (oO) (fm (jZ) (fm (hbd) (fm (hg.1) (eX (hg.2)))))),fun s1 gi=>?_⟩;have hb:bs.getD i false=false:=by
    cases hq:bs.getD i false with
    |false=>rfl
    |true=>rw[a3 hq]at c2;cases c2
   simp only[andThen,dV];refine h s1 j ?_;rw[a4 hb]at gi;rw[aI (by rw[hb];decide)];exact .norm gi
 . have:=I _ (aK _ (aq.2 rfl));cases this
 . have c1:=aJ (I _ (aP ..));rw[kr,kr]at c1;obtain rfl:j=c.D.length:=by omega
   refine⟨fm (Lv) (fm (oO) (eX (jZ))),fun s1 gi=>?_⟩;simp only[andThen,dV];refine h s1 c.D.length ?_;rw[<- a5,List.drop_length,List.foldl_nil];cases hq:bs.getD i false with
   |true=>exact .norm gi
   |false=>
    rw[a4 hq]at gi;exact .norm gi
end
section
variable(s:RS)
section
variable(bs:List Bool)
def DN(i:Nat)(c:gq)(j:Nat):List Bool:=bs.set i (bs.getD i false||EG (s.ro.take j) c)
theorem S2{bs:List Bool}{i:Nat}(h:i<bs.length)(b:Bool):(bs.set i b).getD i false=b:=by
 rw[aM,List.getElem?_set,aH rfl,aH h];rfl
theorem WE(i:Nat)(c:gq)(j:Nat):(DN s bs i c j).length=bs.length:=by unfold DN;rw[List.length_set]
theorem O8(c:gq){j:Nat}(h:j<s.ro.length):EG (s.ro.take (j+1)) c=(EG (s.ro.take j) c||eJ (s.ro[j]).2 c.dg):=by
 unfold EG;rw[bG,ay h,cE,List.any_append];simp
theorem S3{i:Nat}(h:i<s.C.length):S1 s (i+1) bs=S1 s i (zL s bs i s.C[i]):=by
 show S1 s i (zL s bs i (s.C.getD i ⟨[],[],[]⟩))=_;rw[aM,ay h];rfl
theorem ag6(N:s.C.length<=100000)(B:s.ro.length<=1000000)(i:Nat)(hi:i<s.C.length)(bs:List Bool)(hl:bs.length=s.C.length){es:Exit->St->Prop}{st:St}(hs:gF ak 3 Tryz.f68.ntmps st (rP s bs [(4,iW i),(5,iW 0)]))
  (h:∀s' j,gF ak 3 Tryz.f68.ntmps s' (rP s (k8 s bs i s.C[i]) [(4,iW i),(5,iW j)])->es .normal s'):TG ak 3 Tryz.f68.ntmps (dY WD) st es:=by
 have jZ:=aN V.dx (ue s.C i hi);have Lv:((0:Int)<=Int.ofNat i/\Int.ofNat i<(Int.ofNat s.C.length)):=⟨az _,dm⟩;have oO:=jy s.C;have wT:=nM s.ro;generalize s.C[i]=c at jZ h;have h0:DN s bs i c 0=bs:=by
  unfold DN;rw[List.take_zero,show EG [] c=false from rfl,Bool.or_false,aM,ay K];exact List.set_getElem_self K
 refine jx 2 s.ro.length (fun j=>rP s (DN s bs i c j) [(4,iW i),(5,iW j)]) U U (by rw[h0];exact hs) (fun j hj=>?_) ?_
 . have M4:=WE s bs i c j;have hg:=Nk (bs:=DN s bs i c j) (i:=i) K;have hgv:(DN s bs i c j).getD i false=(bs.getD i false||EG (s.ro.take j) c):=S2 K _;have hbd:((0:Int)<=Int.ofNat i/\Int.ofNat i<(Int.ofNat (DN s bs i c j).length)):=⟨az _,dm⟩;have zK:V.int aj (IntKind.i64.wrap (Int.ofNat j+(1:Int)))=iW (j+1):=nL dm K;have hn:=O8 s c hj;show TG _ _ _ _ _ (andThen (fun s'=>gF ak 3 Tryz.f68.ntmps s' (rP s (DN s bs i c (j+1)) [(4,iW i),(5,iW (j+1))])) _);cases hq:(DN s bs i c j).getD i false with
   |true=>
    rw[hq]at hg;refine fO Jr (Y7 s (DN s bs i c j) i j) fun g uK I=>?_;rcases iU uK with rfl|rfl
    . refine⟨fm (hbd) (fm (hg.1) (fm (hg.2) (fm (hbd) (fm (by rw[rQ];omega) (eX (zK)))))),fun s1 gi=>?_⟩;rw[Ht K,B9 s _ _ (by rw[List.length_set])]at gi;have e:(DN s bs i c j).set i true=DN s bs i c (j+1):=by
       rw[hgv]at hq;unfold DN;rw[List.set_set,hn,<- Bool.or_assoc,hq,Bool.true_or]
      rw[e]at gi;exact .norm gi
    . exact absurd (aJ (I _ (aq.2 rfl))) dm
   |false=>
    rw[hq]at hg;have Ma:=aN V.dx (DK s.ro j hj);refine fO Jr (Y8 s (DN s bs i c j) i j (s.ro[j]).1 (s.ro[j]).2 c) fun g uK I=>?_;rcases iU uK with rfl|rfl
    . refine⟨fm (hbd) (fm (hg.1) (fm (hg.2) (fm (⟨az _,dm⟩) (fm (wT) (fm (Ma) (fm (Lv) (fm (oO) (fm (jZ) (fm (hbd) (fm (by rw[rQ];omega) (eX (zK)))))))))))),fun s1 gi=>?_⟩;rw[Ht K,B9 s _ _ (by rw[List.length_set])]at gi;have e:(DN s bs i c j).set i (eJ (s.ro[j]).2 c.dg)=DN s bs i c (j+1):=by
       rw[hgv]at hq;unfold DN;rw[List.set_set,hn,<- Bool.or_assoc,hq,Bool.false_or]
      rw[e]at gi;exact .norm gi
    . exact absurd (aJ (I _ (aq.2 rfl))) dm
 . have qW:∀s1,gF ak 3 Tryz.f68.ntmps s1 (rP s (DN s bs i c s.ro.length) [(4,iW i),(5,iW s.ro.length)])->es .normal s1:=fun s1 gi=>by
    refine h s1 s.ro.length ?_;unfold DN at gi;rw[aU]at gi;exact gi
   cases hq:(DN s bs i c s.ro.length).getD i false with
   |true=>
    refine fO Jr (Y7 s (DN s bs i c s.ro.length) i s.ro.length) fun g uK I=>?_;rcases iU uK with rfl|rfl
    . exact absurd (aE (I _ (aq.2 rfl))) dm
    . refine⟨cT,fun s1 gi=>⟨by simp,?_⟩⟩;rw[dV];exact qW s1 (.norm gi)
   |false=>
    refine fO Jr (Y8 s (DN s bs i c s.ro.length) i s.ro.length [] [] c) fun g uK I=>?_;rcases iU uK with rfl|rfl
    . exact absurd (aE (I _ (aq.2 rfl))) dm
    . refine⟨cT,fun s1 gi=>⟨by simp,?_⟩⟩;rw[dV];exact qW s1 (.norm gi)
def spD:Nat->St
 |0=>rP s bs [(4,.int .i64 (-1))]
 |i+1=>rP s bs [(4,iW i)]
theorem Nl{k:Nat}{z:Int}(hz:z=(k:Int)-1):rP s bs [(4,.int .i64 z)]=spD s bs k:=by
 subst hz;cases k with
 |zero=>rfl
 |succ i=>
  have e:((i+1:Nat):Int)-1=Int.ofNat i:=by rw[kr];omega
  rw[e];rfl
end
theorem apr(N:s.C.length<=100000)(B:s.ro.length<=1000000)(h3:∀c∈s.C,c.D.length<=100000):TG ak 3 Tryz.f68.ntmps O7 (cU [s.v] .nil 3) (fJ ak 3 Tryz.f68 (nQ (.dS false s.C.length (lR (fD s))))):=by
 have hw:IntKind.i64.wrap (Int.ofNat s.C.length)=Int.ofNat s.C.length:=fK dm dm;refine iF  2 Jr (aph s) (eX ⟨by rw[hw,kr];omega,Int.le_refl _,by rw[hw,kr];omega⟩) ?_;have hrp:∀m:Nat,BA [rs.bool false] m=lR (List.replicate m false):=fun m=>by
  induction m with
  |zero=>rfl
  |succ m ih=>show[rs.bool false]++BA [rs.bool false] m=_;rw[ih];rfl
 rw[hw,show(Int.ofNat s.C.length).toNat=s.C.length from rfl,hrp,B9 s _ _ (by rw[bM])];show TG _ _ _ (dh 2 O7) _ _;refine cZ U ?_;refine cZ U ?_;refine fO Jr (api s (List.replicate s.C.length false) ((s.C.length:Int)-1)) (dG ?_);refine⟨eX (aN _ (fK dm dm)),fun s' dO=>?_⟩;rw[Nl s _ (k:=s.C.length) rfl]at dO;refine iq (α:=List Bool×Nat) 0 (fun a=>a.2) (fun a=>a.2<=s.C.length/\a.1.length=s.C.length/\S1 s a.2 a.1=fD s) (fun a=>spD s a.1 a.2) U U (List.replicate s.C.length false,s.C.length) ⟨aA _,bM,rfl⟩ (.norm dO) fun a ⟨a1,a2,a3⟩=>?_;obtain⟨bs,k⟩:=a;simp only at a1 a2 a3;refine cZ U ?_;cases k with
 |zero=>
  show TG _ _ _ _ (rP s bs [(4,.int .i64 (-1))]) _;refine fO Jr (ag0 s bs) (dG ?_);refine⟨cT,fun s1 gi=>?_⟩;simp only[andThen,dV];refine c6 gi ?_;refine fh Jr (ag4 s bs) (dG ?_);refine⟨cT,_,_,_,rfl,?_⟩;rw[<- a3,<- a2];show nQ (.dS false bs.length (lR bs)) _ _ _;exact⟨[[3]],[(lR bs).length=bs.length*1],{ S:=H.nil.set 0 (some (.dS false bs.length (lR bs))),h:=(J [(3,.deep (lR bs))]).set 3 none,n:=4,gG:=[] },U,eX (by rw[rQ,bk]),U⟩
 |succ i=>
  have hi:i<s.C.length:=by omega
  show TG _ _ _ _ (rP s bs [(4,iW i)]) _;refine fO Jr (apj s bs i) (dG ?_);refine⟨eX (aN V.bool (bQ dm)),fun s1 gi=>c6 gi ?_⟩;refine cZ U ?_;refine fB (i:=1) U ?_;refine cZ U ?_;refine cZ U ?_;refine fO Jr (apk s bs i) (dG ?_);refine⟨cT,fun s2 jr=>?_⟩;refine ag6 s N B i hi bs a2 (.norm jr) fun s3 j yq=>?_;simp only[andThen];refine yq _ _ ?_;refine iF  1 Jr (apl s (k8 s bs i s.C[i]) i j) cT ?_;refine ag5 s N B i hi (k8 s bs i s.C[i]) (by rw[yl,a2]) .refl (h3 _ (b7 hi)) fun s4 j4 Jn=>?_;rw[show(if(k8 s bs i s.C[i]).getD i false=true then(s.C[i]).D.foldl (jL s) (k8 s bs i s.C[i])else k8 s bs i s.C[i])=zL s bs i s.C[i]from rfl]at Jn;show TG _ _ _ _ _ _;have PI:=FI s bs i s.C[i];have uA:=S3 s bs hi;generalize zL s bs i s.C[i]=ds at Jn PI uA;refine(Jn.trans (.norm (live:=[1,3,4]) (fr:=rP s ds [(4,iW i)]) U)) _ _ ?_;refine fO Jr (apo s ds i ((i:Int)-1)) (dG ?_);refine⟨eX (aN _ (fK dm dm)),fun s5 Uq=>⟨(ds,i),Nat.lt_succ_self i,⟨by show i<=_;omega,by show ds.length=_;rw[PI,a2],by show S1 s i ds=_;rw[<- uA,a3]⟩,?_⟩⟩;rw[Nl s _ (k:=i) rfl]at Uq;exact .norm Uq
end
def Mb:ai->Option (ah×V)
 | [.agg [.dS n C,.dS m D]]=>some (Jp n C m D++[n<=100000,∀c∈fo C,c.D.length<=100000],.dS false n (lR (fD ⟨fo C,lQ D⟩)))
 |_=>none
theorem S4(bs:List Bool)(n:Nat):(V.dS false n (lR bs)).deep=true:=rfl
theorem S5:jv ak 68 (Go.Eng.dW Mb):=by
 refine vE (au U) fun args cS v e hA=>?_;unfold Mb at e;split at e
 case h_2=>cases e
 rename_i n C m D;simp only[an,aB]at e;obtain⟨rfl,rfl⟩:=e;have hB:=fun a ha=>hA a (b9 _ ha);have hC:=fun a ha=>hA a (cL _ ha);obtain⟨s,N,B,h3,h4,h5,h6,h7,h8⟩:=ug hC;have b1:n<=100000:=hB (n<=100000) (by simp);have b2:∀c∈fo C,c.D.length<=100000:=hB (∀c∈fo C,c.D.length<=100000) (by simp);rw[h7]at b2;rw[h7,h8];clear h7 h8 hA hB hC;subst N B h3 h4;exact ig mo po Tryz.func68 U U rfl (S4 _ _) (apr s b1 h6 b2)
noncomputable abbrev W26:jQ:=jD 68 (Go.Eng.dW Mb) W25
theorem S6:gl ak W26:=e9 S5 SY
noncomputable abbrev EH:fb:=gP ak W26 H0 1000 40
noncomputable abbrev O9:CX ak:=CX.of mo po S6 H0 1000 40
noncomputable abbrev Pa:Code:=dN Tryz.f32
noncomputable abbrev apt:Code:=dz (dz (dY (dP (dh 3 Pa))))
noncomputable abbrev Hu:Code:=dN Tryz.f33
section
variable(s:RS)(bs:List Bool)(n:Nat)
def o58:lf:=.cells [.dj none 0 0 0,.dj none 0 0 0]
def sKm(m:Nat)(C:ai)(r:List (Nat×V)):St:=eG ([(1,.ptr (some (3,0))),(2,.ptr (some (4,0))),(3,.dS false n (lR bs)),(4,.dj (some (5,0)) m m 3)]++r) (J [(3,bx s),(4,o58),(5,.deep C)]) 6
def Pb(u:Int)(r:List (Nat×V)):St:=eG ([(1,.ptr (some (3,0))),(3,.int .i64 u)]++r) (J [(3,bx s)]) 4
end
theorem apu(s:RS):c9 EH [] 3 Tryz.f32 [1,2,3,4] (eV 3 Pa) (cU [s.v] .nil 3) [([],
   [(eL s.C=eL (fo (eL s.C))),(s.C.length=(fo (eL s.C)).length),(eR s.ro=eR (lQ (eR s.ro))),(s.ro.length=(lQ (eR s.ro)).length),(s.C.length<=1000000),(s.ro.length<=1000000),(s.C.length<=100000),(∀(c:gq),c∈fo (eL s.C)->c.D.length<=100000)],
   .to .normal (eG [(1,.ptr (some (3,0))),(2,.ptr (some (4,0))),(3,.dS false (s.C.length) (lR (fD { C:=fo (eL s.C),ro:=lQ (eR s.ro) }))),(4,.dj (some (5,0)) 0 0 3)] (J [(3,.cells [.dS false (s.C.length) (eL s.C),.dS false (s.ro.length) (eR s.ro)]),(4,.cells [.dj none 0 0 0,.dj none 0 0 0]),(5,.cells [])]) 6))]
 :=cR.of U U U
section
variable(s:RS)(u:Int)(bs:List Bool)(n i m:Nat)(C:ai)
theorem apv:c9 EH [] 3 Tryz.f32 [1,2,3,4,5] (dP (dP (dh 3 Pa))) (sKm s bs n m C []) [([],
   [],
   .to .normal (sKm s bs n m C [(5,iW 0)]))]
 :=cR.of U U U
abbrev S7:Prop:=V.int aj (IntKind.i64.wrap (Int.ofNat i+(1:Int)))=iW (i+1)
theorem ag7(i:Nat)(c:gq)(b:Bool):c9 EH [(13,.split),(18,.di (.dx [.bool b])),(19,.split),(24,.di (.dx c.d)),(15,.di (iW (i+1)))] 3 Tryz.f32 [1,2,3,4,5] (apt) (sKm s bs n m C [(5,iW i)]) [([((decide (Int.ofNat i<(Int.ofNat s.C.length))),true),(b,true)],
   [((0:Int)<=Int.ofNat i/\Int.ofNat i<(Int.ofNat n)),((lR bs).length=n*1),(V.dx (dF (lR bs) (i*1) 1)=V.dx [rs.bool b]),((0:Int)<=Int.ofNat i/\Int.ofNat i<(Int.ofNat s.C.length)),((eL s.C).length=s.C.length*3),(V.dx (dF (eL s.C) (i*3) 3)=V.dx c.d),(0+m*3<=C.length),(0<1),(eU (m+1) 3 56=true),S7 i],
   .to .normal (eG [(1,.ptr (some (3,0))),(2,.ptr (some (4,0))),(3,.dS false n (lR bs)),(4,.dj (some (5,0)) (m+1) (m+1) 3),(5,.int .i64 (Int.ofNat (i+1)))] (J [(3,.cells [.dS false (s.C.length) (eL s.C),.dS false (s.ro.length) (eR s.ro)]),(4,.cells [.dj none 0 0 0,.dj none 0 0 0]),(5,.deep (List.take (m*3) (List.drop 0 C)++[rs.str c.dg,rs.str c.da,rs.dS c.D.length (strs c.D)]))]) 6)),
  ([((decide (Int.ofNat i<(Int.ofNat s.C.length))),true),(b,false)],
   [((0:Int)<=Int.ofNat i/\Int.ofNat i<(Int.ofNat n)),((lR bs).length=n*1),(V.dx (dF (lR bs) (i*1) 1)=V.dx [rs.bool b]),S7 i],
   .to .normal (eG [(1,.ptr (some (3,0))),(2,.ptr (some (4,0))),(3,.dS false n (lR bs)),(4,.dj (some (5,0)) m m 3),(5,.int .i64 (Int.ofNat (i+1)))] (J [(3,.cells [.dS false (s.C.length) (eL s.C),.dS false (s.ro.length) (eR s.ro)]),(4,.cells [.dj none 0 0 0,.dj none 0 0 0]),(5,.deep C)]) 6)),
  ([((decide (Int.ofNat i<(Int.ofNat s.C.length))),false)],
   [],
   .to (.exit 0) (eG [(1,.ptr (some (3,0))),(2,.ptr (some (4,0))),(3,.dS false n (lR bs)),(4,.dj (some (5,0)) m m 3),(5,.int .i64 (Int.ofNat i))] (J [(3,.cells [.dS false (s.C.length) (eL s.C),.dS false (s.ro.length) (eR s.ro)]),(4,.cells [.dj none 0 0 0,.dj none 0 0 0]),(5,.deep C)]) 6))]
 :=cR.of U U U
theorem apw(i:Nat):c9 EH [] 3 Tryz.f32 [] (dY (dh 3 Pa)) (sKm s bs n m C [(5,iW i)]) [([],
   [],
   .ret (.agg [.dj (some (3,0)) m m 3,.dS false (s.ro.length) (eR s.ro)]) (J [(3,.deep C)]) 4)]
 :=cR.of U U U
theorem apx:c9 EH [] 3 Tryz.f33 [1,3] (eV 2 Hu) (cU [s.v] .nil 3) [([],
   [],
   .to .normal (Pb s 0 []))]
 :=cR.of U U U
theorem apy:c9 EH [] 3 Tryz.f33 [1,3,4] (dP (dP (dh 2 Hu))) (Pb s u []) [([],
   [],
   .to .normal (Pb s u [(4,iW 0)]))]
 :=cR.of U U U
theorem ag8(c:gq):c9 EH [(10,.split),(18,.di (.dx c.d)),(26,.di (.dx c.d)),(12,.di (iW (i+1)))] 3 Tryz.f33 [1,3,4] (dz (dz (dY (dP (dh 2 Hu))))) (Pb s u [(4,iW i)]) [([((decide (Int.ofNat i<(Int.ofNat s.C.length))),true)],
   [((0:Int)<=Int.ofNat i/\Int.ofNat i<(Int.ofNat s.C.length)),((eL s.C).length=s.C.length*3),(V.dx (dF (eL s.C) (i*3) 3)=V.dx c.d),((0:Int)<=Int.ofNat i/\Int.ofNat i<(Int.ofNat s.C.length)),((eL s.C).length=s.C.length*3),(V.dx (dF (eL s.C) (i*3) 3)=V.dx c.d),(V.int aj (IntKind.i64.wrap (Int.ofNat i+(1:Int)))=iW (i+1))],
   .to .normal (eG [(1,.ptr (some (3,0))),(3,.int .i64 (IntKind.i64.wrap (IntKind.i64.wrap (IntKind.i64.wrap (u+(64:Int))+(Int.ofNat c.da.length))+IntKind.i64.wrap ((32:Int)*(Int.ofNat c.D.length))))),(4,.int .i64 (Int.ofNat (i+1)))] (J [(3,.cells [.dS false (s.C.length) (eL s.C),.dS false (s.ro.length) (eR s.ro)])]) 4)),
  ([((decide (Int.ofNat i<(Int.ofNat s.C.length))),false)],
   [],
   .to (.exit 0) (eG [(1,.ptr (some (3,0))),(3,.int .i64 u),(4,.int .i64 (Int.ofNat i))] (J [(3,.cells [.dS false (s.C.length) (eL s.C),.dS false (s.ro.length) (eR s.ro)])]) 4))]
 :=cR.of U U U
theorem apz:c9 EH [] 3 Tryz.f33 [1,3,5] (dP (dP (dh 3 Hu))) (Pb s u [(4,iW i)]) [([],
   [],
   .to .normal (Pb s u [(5,iW 0)]))]
 :=cR.of U U U
theorem ag9(p q:L):c9 EH [(36,.split),(44,.di (.dx [.str p,.str q])),(38,.di (iW (i+1)))] 3 Tryz.f33 [1,3,5] (dz (dz (dY (dP (dh 3 Hu))))) (Pb s u [(5,iW i)]) [([((decide (Int.ofNat i<(Int.ofNat s.ro.length))),true)],
   [((0:Int)<=Int.ofNat i/\Int.ofNat i<(Int.ofNat s.ro.length)),((eR s.ro).length=s.ro.length*2),(V.dx (dF (eR s.ro) (i*2) 2)=V.dx [rs.str p,rs.str q]),(V.int aj (IntKind.i64.wrap (Int.ofNat i+(1:Int)))=iW (i+1))],
   .to .normal (eG [(1,.ptr (some (3,0))),(3,.int .i64 (IntKind.i64.wrap (IntKind.i64.wrap (u+(96:Int))+(Int.ofNat p.length)))),(5,.int .i64 (Int.ofNat (i+1)))] (J [(3,.cells [.dS false (s.C.length) (eL s.C),.dS false (s.ro.length) (eR s.ro)])]) 4)),
  ([((decide (Int.ofNat i<(Int.ofNat s.ro.length))),false)],
   [],
   .to (.exit 2) (eG [(1,.ptr (some (3,0))),(3,.int .i64 u),(5,.int .i64 (Int.ofNat i))] (J [(3,.cells [.dS false (s.C.length) (eL s.C),.dS false (s.ro.length) (eR s.ro)])]) 4))]
 :=cR.of U U U
theorem apB:c9 EH [] 3 Tryz.f33 [] (dh 4 Hu) (Pb s u [(5,iW i)]) [([],
   [],
   .ret (.int .i64 u) (J []) 3)]
 :=cR.of U U U
end
def lu:List gq->List Bool->List gq
 |c::l,b::bs=>if b=true then c::lu l bs else lu l bs
 |_,_=>[]
def iX(s:RS):RS:=⟨lu s.C (fD s),s.ro⟩
def zM(c:gq):Int:=64+c.da.length+32*c.D.length
def AM(p:L×L):Int:=96+p.1.length
def Mc(s:RS):Int:=(s.C.map zM).sum+(s.ro.map AM).sum
theorem zN(s:RS):(fD s).length=s.C.length:=by unfold fD;rw[Nj,bM]
theorem DO{bs:List Bool}{i:Nat}(h:i<bs.length):dF (lR bs) (i*1) 1=[rs.bool bs[i]]:=by
 unfold dF lR;rw[bk,<- List.map_drop,bH h];rfl
theorem WH{gy:List gq}(c:gq):List.take (gy.length*3) (List.drop 0 (eL gy))++[rs.str c.dg,rs.str c.da,rs.dS c.D.length (strs c.D)]=eL (gy++[c]):=by
 rw[bn,bq (by rw[jy];omega),Hs];rfl
section
variable(s:RS)
theorem apC(N:s.C.length<=100000)(B:s.ro.length<=1000000)(h3:∀c∈s.C,c.D.length<=100000):TG ak 3 Tryz.f32.ntmps Pa (cU [s.v] .nil 3) (fJ ak 3 Tryz.f32 (nQ (iX s).v)):=by
 have An:∀a∈[True,True,True,True,s.C.length<=1000000,s.ro.length<=1000000,s.C.length<=100000,∀(c:gq),c∈s.C->c.D.length<=100000],a:=fm trivial (fm trivial (fm trivial (fm trivial (fm K (fm B (fm N (eX h3)))))));obtain⟨L1,BQ⟩:=apu s;simp only[iM,pT]at BQ;refine lX 3 O9 mo U BQ An ?_;have hkr:(iX s).v=RS.v ⟨lu s.C (fD s),s.ro⟩:=rfl;rw[hkr];have M4:=zN s;show TG _ _ _ _ (eG [(1,.ptr (some (3,0))),(2,.ptr (some (4,0))),(3,.dS false s.C.length (lR (fD s))),(4,.dj (some (5,0)) 0 0 3)] (J [(3,bx s),(4,o58),(5,.cells [])]) 6) _;generalize fD s=bs at M4 ⊢;refine(gF.deep [5] (fr:=sKm s bs s.C.length 0 (eL []) []) U) _ _ ?_;show TG _ _ _ (dh 3 Pa) _ _;refine cZ U ?_;refine cZ U ?_;refine fO O9 (apv s bs s.C.length 0 (eL [])) (dG ?_);refine⟨cT,fun s' dO=>?_⟩;refine iq (α:=List gq×Nat) 0 (fun a=>s.C.length-a.2) (fun a=>a.2<=s.C.length/\a.1.length<=a.2/\a.1++lu (s.C.drop a.2) (bs.drop a.2)=lu s.C bs) (fun a=>sKm s bs s.C.length a.1.length (eL a.1) [(5,iW a.2)]) U U ([],0) ⟨aX _,aA _,by rw[bn,bn];rfl⟩ (.norm dO) fun a ⟨a1,a2,a3⟩=>?_;obtain⟨gy,i⟩:=a;simp only at a1 a2 a3;have oO:=jy s.C;have hal:=jy gy;rcases bK i s.C.length with hi|y6
 . have jZ:=aN V.dx (ue s.C i hi);have Ma:=aN V.dx (DO (bs:=bs) (i:=i) K);rw[bH hi,bH (show i<bs.length by omega)]at a3;generalize s.C[i]=c at jZ a3;generalize bs[i]'(by omega)=b at Ma a3;have hb:((0:Int)<=Int.ofNat i/\Int.ofNat i<(Int.ofNat s.C.length)):=⟨az _,dm⟩;have zK:V.int aj (IntKind.i64.wrap (Int.ofNat i+(1:Int)))=iW (i+1):=nL dm K;obtain⟨L3,wR⟩:=ag7 s bs s.C.length gy.length (eL gy) i c b;rw[WH]at wR;refine gC O9 mo l9 U wR fun g hg I=>?_;rcases w8 hg with rfl|rfl|rfl
   . have c2:b=true:=I _ (aK _ (aq.2 rfl));rw[lu,aH c2]at a3;refine⟨fm (hb) (fm (by rw[rQ];omega) (fm (Ma) (fm (hb) (fm (oO) (fm (jZ) (fm K (fm dU (fm (vQ K) (eX (zK)))))))))),fun s1 gi=>⟨(gy++[c],i+1),by show s.C.length-(i+1)<_;omega,⟨by show i+1<=_;omega,by show(gy++[c]).length<=i+1;rw[ax];simp;omega,by rw[<- a3,bB];rfl⟩,?_⟩⟩;show gF _ _ _ _ (sKm s bs s.C.length (gy++[c]).length (eL (gy++[c])) [(5,iW (i+1))]);rw[ax];exact .norm gi
   . have c2:b=false:=I _ (aK _ (aq.2 rfl));rw[lu,aI (by rw[c2];decide)]at a3;exact⟨fm (hb) (fm (by rw[rQ];omega) (fm (Ma) (eX (zK)))),fun s1 gi=>⟨(gy,i+1),by show s.C.length-(i+1)<_;omega,⟨by show i+1<=_;omega,by show gy.length<=i+1;omega,a3⟩,.norm gi⟩⟩
   . exact absurd (aJ (I _ (aq.2 rfl))) dm
 . obtain rfl:i=s.C.length:=by omega
   rw[List.drop_length,show lu [] (bs.drop s.C.length)=[]from rfl,cA]at a3;refine fO O9 (ag7 s bs s.C.length gy.length (eL gy) s.C.length ⟨[],[],[]⟩ true) fun g hg I=>?_;rcases w8 hg with rfl|rfl|rfl
   . exact absurd (aE (I _ (aP ..))) dm
   . exact absurd (aE (I _ (aP ..))) dm
   refine⟨cT,fun s1 gi=>?_⟩;simp only[andThen,dV];refine c6 gi ?_;rw[<- a3];refine fh O9 (apw s bs s.C.length gy.length (eL gy) s.C.length) (dG ?_);exact⟨cT,_,_,_,rfl,[[3]],[(eL gy).length=gy.length*3],{ S:=H.nil.set 0 (some (RS.v ⟨gy,s.ro⟩)),h:=(J [(3,.deep (eL gy))]).set 3 none,n:=4,gG:=[] },U,eX (jy _),U⟩
theorem Ju{α:Type}{f:α->Int}{l:List α}{i:Nat}(h:i<l.length):((l.take (i+1)).map f).sum=((l.take i).map f).sum+f l[i]:=by
 rw[bG,ay h,cE,aY,List.sum_append];simp
theorem AN{α:Type}{f:α->Int}{h2:Int}(hB:0<=h2):∀{l:List α},(∀x∈l,0<=f x/\f x<=h2)->0<=(l.map f).sum/\(l.map f).sum<=h2*l.length
 | [],_=>by simp
 |x::l,h=>by
  have ih:=AN hB (l:=l) fun y hy=>h y (aK _ hy);have N:=h x (aP ..);rw[bY,List.sum_cons,aS];have:h2*((l.length+1:Nat):Int)=h2*l.length+h2:=by rw[Int.natCast_add,Int.mul_add];simp
  omega
theorem apD(N:s.C.length<=100000)(B:s.ro.length<=100000)(h3:∀c∈s.C,c.da.length<=100000/\c.D.length<=2000)(h4:∀p∈s.ro,p.1.length<=100000):TG ak 3 Tryz.f33.ntmps Hu (cU [s.v] .nil 3) (fJ ak 3 Tryz.f33 fun u _ _=>u= .int .i64 (Mc s)):=by
 have hC:∀i,0<=((s.C.take i).map zM).sum/\((s.C.take i).map zM).sum<=20000000000:=fun i=>by
  have hb:=AN (f:=zM) (h2:=200000) dU (l:=s.C.take i) fun c I=>by
   have:=h3 c (List.mem_of_mem_take I);unfold zM;omega
  have:(s.C.take i).length<=100000:=by rw[aZ];omega
  omega
 have hE:∀i,0<=((s.ro.take i).map AM).sum/\((s.ro.take i).map AM).sum<=20000000000:=fun i=>by
  have hb:=AN (f:=AM) (h2:=200000) dU (l:=s.ro.take i) fun c I=>by
   have:=h4 c (List.mem_of_mem_take I);unfold AM;omega
  have:(s.ro.take i).length<=100000:=by rw[aZ];omega
  omega
 refine iF  2 O9 (apx s) cT ?_;show TG _ _ _ (dh 2 Hu) _ _;refine cZ U ?_;refine cZ U ?_;refine fO O9 (apy s 0) (dG ?_);refine⟨cT,fun s' dO=>?_⟩;refine jx 0 s.C.length (fun i=>Pb s ((s.C.take i).map zM).sum [(4,iW i)]) U U (.norm dO) (fun i hi=>?_) ?_
 . have jZ:=aN V.dx (ue s.C i hi);have hn:=Ju (f:=zM) hi;have yO:=hC i;have H8:=hC (i+1);have W:=h3 _ (b7 hi);show TG _ _ _ _ _ (andThen (fun s'=>gF ak 3 Tryz.f33.ntmps s' (Pb s ((s.C.take (i+1)).map zM).sum [(4,iW (i+1))])) _);rw[hn]at H8 ⊢;generalize s.C[i]=c at jZ W H8 ⊢;generalize ((s.C.take i).map zM).sum=u at yO H8 ⊢;have hb:((0:Int)<=Int.ofNat i/\Int.ofNat i<(Int.ofNat s.C.length)):=⟨az _,dm⟩;obtain⟨L3,wR⟩:=ag8 s u i c;have e:IntKind.i64.wrap (IntKind.i64.wrap (IntKind.i64.wrap (u+(64:Int))+(Int.ofNat c.da.length))+IntKind.i64.wrap ((32:Int)*(Int.ofNat c.D.length)))=u+zM c:=by
    unfold zM at *;simp only[kr];rw[fK (x:=u+64) K K,fK (x:=u+64+_) K K,fK (x:=32*_) K K,fK K K];omega
   rw[e]at wR;refine gC O9 mo l9 U wR fun g hg I=>?_;rcases iU hg with rfl|rfl
   . exact⟨fm (hb) (fm (jy _) (fm (jZ) (fm (hb) (fm (jy _) (fm (jZ) (eX (nL dm K))))))),fun s1 gi=>.norm gi⟩
   . exact absurd (aJ (I _ (aq.2 rfl))) dm
 refine fO O9 (ag8 s ((s.C.take s.C.length).map zM).sum s.C.length ⟨[],[],[]⟩) fun g hg I=>?_;rcases iU hg with rfl|rfl
 . exact absurd (aE (I _ (aq.2 rfl))) dm
 refine⟨cT,fun s1 gi=>⟨by simp,?_⟩⟩;rw[dV];have HF:=hC s.C.length;rw[aU]at gi HF;refine(gF.norm (fr:=Pb s (s.C.map zM).sum [(4,iW s.C.length)]) gi) _ _ ?_;unfold Mc;generalize (s.C.map zM).sum=u0 at HF ⊢;show TG _ _ _ (dh 3 Hu) _ _;refine cZ U ?_;refine cZ U ?_;refine fO O9 (apz s u0 s.C.length) (dG ?_);refine⟨cT,fun s2 jr=>?_⟩;refine jx 2 s.ro.length (fun i=>Pb s (u0+((s.ro.take i).map AM).sum) [(5,iW i)]) U U (.norm (by rw[jr];simp)) (fun i hi=>?_) ?_
 . have jZ:=aN V.dx (DK s.ro i hi);have hn:=Ju (f:=AM) hi;have yO:=hE i;have H8:=hE (i+1);have W:=h4 _ (b7 hi);show TG _ _ _ _ _ (andThen (fun s'=>gF ak 3 Tryz.f33.ntmps s' (Pb s (u0+((s.ro.take (i+1)).map AM).sum) [(5,iW (i+1))])) _);rw[hn]at H8 ⊢;generalize s.ro[i]=p at jZ W H8 ⊢;generalize ((s.ro.take i).map AM).sum=u at yO H8 ⊢;have hb:((0:Int)<=Int.ofNat i/\Int.ofNat i<(Int.ofNat s.ro.length)):=⟨az _,dm⟩;obtain⟨L5,wK⟩:=ag9 s (u0+u) i p.1 p.2;have e:IntKind.i64.wrap (IntKind.i64.wrap (u0+u+(96:Int))+(Int.ofNat p.1.length))=u0+(u+AM p):=by
    unfold AM at *;simp only[kr];rw[fK (x:=u0+u+96) K K,fK K K];omega
   rw[e]at wK;refine gC O9 mo l9 U wK fun g hg I=>?_;rcases iU hg with rfl|rfl
   . exact⟨fm (hb) (fm (nM _) (fm (jZ) (eX (nL dm K)))),fun s3 yq=>.norm yq⟩
   . exact absurd (aJ (I _ (aq.2 rfl))) dm
 refine fO O9 (ag9 s (u0+((s.ro.take s.ro.length).map AM).sum) s.ro.length [] []) fun g hg I=>?_;rcases iU hg with rfl|rfl
 . exact absurd (aE (I _ (aq.2 rfl))) dm
 refine⟨cT,fun s3 yq=>⟨by simp,?_⟩⟩;rw[dV];refine c6 yq ?_;refine fh O9 (apB s (u0+((s.ro.take s.ro.length).map AM).sum) s.ro.length) (dG ?_);exact⟨cT,_,_,_,rfl,by rw[aU]⟩
end
def Md:ai->Option (ah×V)
 | [.agg [.dS n C,.dS m D]]=>some (Jp n C m D++[n<=100000,∀c∈fo C,c.D.length<=100000],(iX ⟨fo C,lQ D⟩).v)
 |_=>none
def Me:ai->Option (ah×V)
 | [.agg [.dS n C,.dS m D]]=>some (Jp n C m D++[n<=100000,m<=100000,∀c∈fo C,c.da.length<=100000/\c.D.length<=2000,∀p∈lQ D,p.1.length<=100000],.int .i64 (Mc ⟨fo C,lQ D⟩))
 |_=>none
theorem S8(s:RS):s.v.deep=true:=rfl
theorem S9:jv ak 32 (Go.Eng.dW Md):=by
 refine vE (au U) fun args cS v e hA=>?_;unfold Md at e;split at e
 case h_2=>cases e
 rename_i n C m D;simp only[an,aB]at e;obtain⟨rfl,rfl⟩:=e;have hB:=fun a ha=>hA a (b9 _ ha);have hC:=fun a ha=>hA a (cL _ ha);obtain⟨s,N,B,h3,h4,h5,h6,h7,h8⟩:=ug hC;have b1:n<=100000:=hB (n<=100000) (by simp);have b2:∀c∈fo C,c.D.length<=100000:=hB (∀c∈fo C,c.D.length<=100000) (by simp);rw[h7]at b2;rw[h7,h8];clear h7 h8 hA hB hC;subst N B h3 h4;exact ig mo po Tryz.func32 U U rfl (S8 _) (apC s b1 h6 b2)
theorem ab3:jv ak 33 (Go.Eng.dW Me):=by
 refine vE (au U) fun args cS v e hA=>?_;unfold Me at e;split at e
 case h_2=>cases e
 rename_i n C m D;simp only[an,aB]at e;obtain⟨rfl,rfl⟩:=e;have hB:=fun a ha=>hA a (b9 _ ha);have hC:=fun a ha=>hA a (cL _ ha);obtain⟨s,N,B,h3,h4,h5,h6,h7,h8⟩:=ug hC;have b1:n<=100000:=hB (n<=100000) (by simp);have b2:m<=100000:=hB (m<=100000) (by simp);have b3:∀c∈fo C,c.da.length<=100000/\c.D.length<=2000:=hB (∀c∈fo C,c.da.length<=100000/\c.D.length<=2000) (by simp);have b4:∀p∈lQ D,p.1.length<=100000:=hB (∀p∈lQ D,p.1.length<=100000) (by simp);rw[h7]at b3;rw[h8]at b4;rw[h7,h8];clear h7 h8 hA hB hC;subst N B h3 h4;exact ig mo po Tryz.func33 U U rfl rfl (fA (apD s b1 b2 b3 b4) fun y s h=>ko h)
noncomputable abbrev W27:jQ:=jD 33 (Go.Eng.dW Me) (jD 32 (Go.Eng.dW Md) W26)
theorem Ta:gl ak W27:=e9 ab3 (e9 S9 S6)
noncomputable abbrev aha:fb:=gP ak W27 H0 1000 40
noncomputable abbrev X27:CX ak:=CX.of mo po Ta H0 1000 40
theorem apF:c9 aha [] 3 Tryz.f26 [] (dN Tryz.f26) (cU [] (Ed gS gR) 3) [([],
   [],
   .ret (.ptr (some (3,0))) (J [(0,.ints .u32 gS),(1,.ints .u32 gR),(3,.cells [.ptr (some (4,0)),.dj (some (7,0)) 1 1 2]),(4,.cells [.dj none 0 0 0,.int .i64 0,.map (some 5),.map (some 6),.int .i64 0,.bool false,.bool false,.int .i64 0]),(5,.map [] 0),(6,.map [] 0),(7,.cells [.dj none 0 0 0,.dj none 0 0 0])]) 8)]
 :=cR.of U U U
theorem apG(z:Int)(m:Nat):c9 aha [(4,.di (.int .u8 (Int.ofNat m))),(6,.di (.int .u8 (Int.ofNat m))),(7,.di (.int .u8 (Int.ofNat (m+1))))] 3 Tryz.f91 [] (dN Tryz.f91) (cU [.int .u8 z] .nil 3) [([],
   [(V.int IntKind.u8 (z.tmod (5:Int))=V.int IntKind.u8 (Int.ofNat m)),(V.int IntKind.u8 (z.tmod (5:Int))=V.int IntKind.u8 (Int.ofNat m)),(V.int IntKind.u8 (IntKind.u8.wrap (Int.ofNat m+(1:Int)))=V.int IntKind.u8 (Int.ofNat (m+1))),((0:Int)<=Int.ofNat (m+1)/\Int.ofNat (m+1)<=(5:Int)),((0:Int)<=Int.ofNat m/\Int.ofNat m<=(Int.ofNat (m+1)))],
   .ret (.str (List.drop m (List.take (m+1) ([(97:UInt8),(98:UInt8),(99:UInt8),(100:UInt8),(101:UInt8)]:L)))) (J []) 3)]
 :=cR.of U U U
def RS.cells(s:RS):ai:=[.dS s.C.length (eL s.C),.dS s.ro.length (eR s.ro)]
def gu(l:List RS):ai:=(l.map RS.cells).flatten
section
variable(T A:Nat)(lg:L)(X R:Int)(Q F:ae)(l:List RS)
end
def Tb:L:=[109,105,115,115,105,110,103]
theorem DP:29<Tryz.prog.funcs.size:=au U
theorem Y9:69<Tryz.prog.funcs.size:=au U
section
variable(l:List RS)(s:RS)
theorem sV:(gu l).length=l.length*2:=sQ (f:=RS.cells) (w:=2) (fun _=>rfl) l
theorem DQ(i:Nat)(h:i<l.length):dF (gu l) (i*2) 2=l[i].cells:=vP (f:=RS.cells) (w:=2) (fun _=>rfl) l i h
theorem DR:0+l.length*2+2<=(gu (l++[s])).length/\V.agg (rs.l6 (dF (gu (l++[s])) (0+l.length*2) 2))=s.v:=by
 refine⟨by rw[sV,ax];simp;omega,?_⟩;rw[bE,DQ _ l.length (by rw[ax];simp),List.getElem_append_right (aA _)];simp only[Nat.sub_self,List.getElem_cons_zero];rfl
theorem Tc(hl:l.length<=1000000):V.int aj (IntKind.i64.wrap ((Int.ofNat (l++[s]).length)-(1:Int)))=iW l.length/\((0:Int)<=Int.ofNat l.length/\Int.ofNat l.length<(Int.ofNat (l++[s]).length)):=by
 have e:(l++[s]).length=l.length+1:=by rw[ax];rfl
 rw[e];exact⟨aN _ (by rw[fK dm dm,kr,kr];omega),az _,dm⟩
def Pc:L:=dw Tb (dy [])
theorem Td:Pc.length=32:=K5 _ _
theorem WI(h:H lf)(n:Nat):cW ak 69 [.str Tb,eM] h n (.str Pc) h n:=by
 intro E w de ra g hd;refine LX.2 _ h n [([]:ai)=strs (dy []),0=(dy []).length,0<=100000,(eI (Tb::dy [])).length<=1000000000] _ _ _ rfl ?_ E w de ra g hd U;exact fm rfl (fm rfl (fm (aX _) (eX (au U))))
def kN(z:Nat):L:=if h:z%(s.C.length+1)<s.C.length then(s.C[z%(s.C.length+1)]).dg else Pc
end
section
variable(T A:Nat)(lg:L)(X R:Int)(Q F:ae)(l:List RS)(s:RS)
theorem WJ{z:Nat}(hz:z<=255)(hs:s.C.length<=1000000):V.int aj (IntKind.i64.wrap ((Int.ofNat s.C.length)+(1:Int)))=iW (s.C.length+1)/\Int.ofNat (s.C.length+1)≠(0:Int)/\V.int aj ((IntKind.i64.wrap (z:Int)).tmod (Int.ofNat (s.C.length+1)))=iW (z%(s.C.length+1)):=by
 refine⟨nL dm K,dm,aN (V.int aj) ?_⟩;rw[fK K K,kr,cC K];rfl
end
theorem ahb:66<Tryz.prog.funcs.size:=au U
theorem ab4(T A:Nat)(b:L)(X R O:Int)(Q F:ae):cW ak 66 [P3] (eu (pS T A b X R O Q F)) 7 (.int .i64 0) (eu (pS T A b (Int.ofNat T) R O Q F)) 7:=by
 refine c5 Tryz.func66 (code:=VU) U U ?_;refine fh uJ (anp T A b X R O Q F) (dG ?_);exact⟨cT,_,_,_,rfl,rfl,rfl,rfl⟩
theorem WK(X R O:Int)(Q F:ae):cW ak 66 [P3] (eu (pN X R O Q F)) 7 (.int .i64 0) (eu (pN 0 R O Q F)) 7:=by
 refine c5 Tryz.func66 (code:=VU) U U ?_;refine fh uJ (anq X R O Q F) (dG ?_);exact⟨cT,_,_,_,rfl,rfl,rfl,rfl⟩
section
variable(l:List RS)(s:RS)
end
def Nn(k:Nat):L:=List.drop (k%5) (List.take (k%5+1) [97,98,99,100,101])
theorem WL(k:Nat):(Nn k).length=1:=by
 unfold Nn;rw[bV,aZ];have:=Nat.mod_lt k (show 0<5 by decide);show min (k%5+1) 5-k%5=1;omega
def Mf:ag->Option (ah×V)
 | [.int .u8 z]=>some ([0<=z/\z<=255],.str (Nn z.toNat))
 |_=>none
theorem Te:jv ak 91 (jS Mf):=by
 refine kj (au U) fun args cS v e=>?_;unfold Mf at e;split at e
 . rename_i z;obtain⟨rfl,rfl⟩:=fg e;refine⟨rfl,rfl,fun hA=>ic mo po Tryz.func91 (code:=dN Tryz.f91) U U rfl ?_⟩;have hz:=hA (0<=z/\z<=255) (by simp);obtain⟨k,rfl⟩:=Int.eq_ofNat_of_zero_le hz.1;have W:=Nat.mod_lt k (show 0<5 by decide);obtain⟨aa,hr⟩:=apG k (k%5);have e1:V.int IntKind.u8 ((k:Int).tmod (5:Int))=V.int IntKind.u8 (Int.ofNat (k%5)):=aN _ (by rw[cC K];rfl);have e2:V.int IntKind.u8 (IntKind.u8.wrap (Int.ofNat (k%5)+(1:Int)))=V.int IntKind.u8 (Int.ofNat (k%5+1)):=aN _ (by
    show(Int.ofNat (k%5)+1)%256=_;rw[kr,kr];omega)
   refine gA X27 mo _ U hr (dG ?_);exact⟨fm e1 (fm e1 (fm e2 (fm ⟨az _,dm⟩ (eX ⟨az _,dm⟩)))),_,_,_,rfl,rfl⟩
 . cases e
noncomputable abbrev W28:jQ:=jD 91 (jS Mf) W27
theorem Mg:gl ak W28:=e9 Te Ta
noncomputable abbrev fN:fb:=gP ak W28 H0 1000 40
noncomputable abbrev jM:CX ak:=CX.of mo po Mg H0 1000 40
noncomputable abbrev uh:Code:=dN Tryz.f64
def r9(a b c:Int)(d:L):V:=.agg [.int .u8 a,.int .u8 b,.int .u8 c,.str d]
def mw(a b c:Int)(d:L):lf:=.cells [.int .u8 a,.int .u8 b,.int .u8 c,.str d]
section
variable(T A:Nat)(lg:L)(X R:Int)(Q F:ae)(l:List RS)(a b c:Int)(d:L)(ps:List (L))
end
end Go.Proofs.YtfihojpgobmmdaaGreatDoor
