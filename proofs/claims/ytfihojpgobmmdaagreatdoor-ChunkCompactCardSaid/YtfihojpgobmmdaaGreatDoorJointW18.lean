/- The Chunk laws: the roots in order, the calls. No conditions. -/
import Derived.Test.YtfihojpgobmmdaaGreatDoorJointW17
import Derived.Test.YtfihojpgobmmdaaGreatDoorJointW15
set_option linter.unusedVariables false
set_option linter.unusedSimpArgs false
set_option linter.unusedSectionVars false
set_option maxRecDepth 20000
namespace Go.Proofs.YtfihojpgobmmdaaGreatDoor
open Go Go.Eng
theorem OD{a b c:aa}(h:a<=b)(k:b<=c):a<=c:=List.le_trans h k
theorem OE(a b:aa):a<=b\/b<=a:=List.le_total a b
theorem I2{a b:aa}(h:a<=b)(k:b<=a):a=b:=List.le_antisymm h k
section
variable(l:List (aa))
theorem tK:List.Perm (iO l) l:=List.mergeSort_perm ..
theorem xT:(iO l).Pairwise (. <=·):=by
 have:=List.pairwise_mergeSort (le:=fun x y:aa=>decide (x<=y)) (fun a b c h k=>by simp only[bC]at *;exact OD h k) (fun a b=>by simp only[bU,bC];exact OE a b) l;exact this.imp fun h=>aH h
end
theorem RU{a b:List (aa)}(h:List.Perm a b):iO a=iO b:=
 List.Perm.eq_of_pairwise (le:=(. <=·)) (fun _ _ _ _ h k=>I2 h k) (xT a) (xT b) (((tK a).trans h).trans (tK b).symm)
theorem Fs:iO []=[]:=cH.1 (by rw[su];rfl)
theorem OF(x:aa):iO [x]=[x]:=by
 have h:=tK [x];exact List.perm_singleton.1 h
theorem Bc{a b:ae}(h:List.Perm a b):List.Perm (dJ a) (dJ b):=h.map _
theorem xU(a:ae):(dJ a).length=a.length:=by unfold dJ;rw[aY]
section
variable(cO cP:Nat)(b:aa)(fl nx lf:Int)(es rt:ae)
abbrev RKy(v:V)(h:Tr O)(n:Nat):Prop:=∃ks,List.Perm ks (dJ rt)/\v=G0 8 ks/\h=xS cO cP b fl nx lf es rt (Bb 8 ks)/\n=nK 8 ks
theorem RV(hk:zl rt)(hl:rt.length<=1000000):fQ ak 113 [eI,w88] (xS cO cP b fl nx lf es rt []) 8 (RKy cO cP b fl nx lf es rt):=by
 refine gG mo po Tryz.func113 (code:=Rl) U U ?_;refine iL  1 (XQ []) (amo cO cP b fl nx lf es rt) cR ?_;show TG ak 8 Tryz.f113.ntmps Au (eF [(1,w88),(2,P 8)] (hL (lK cO cP b fl nx lf es rt++[(8,.cells [eI])])) 9) _;refine cV U ?_;refine cV U ?_;refine fZ (XQ []) (amq cO cP b fl nx lf es rt) (dG ?_);refine⟨cR,fun s' dL=>?_⟩;have dL:e9 8 [2,6] s'=some (sKa cO cP b fl nx lf es rt):=dL;refine c5 dL ?_;refine fg (i:=0) U ?_;refine ou (gf:=88) (lb:=[.ptr (some (7,0))]) U U U U U (Vv cO cP b fl nx lf es rt hk hl) ?_;rintro v h n ⟨iB,hp,rfl,rfl,rfl⟩;have RW:=Bc hp
 match DY:dJ iB,RW with
 | [],RW=>
   refine⟨U,?_⟩;show TG ak 8 Tryz.f113.ntmps (ee Au) _ _;refine fB (XQ []) (ams cO cP b fl nx lf es rt) (dG ?_);exact⟨cR,_,_,_,rfl,[],RW,rfl,rfl,rfl⟩
 | [x],RW=>
   refine⟨U,?_⟩;show TG ak 8 Tryz.f113.ntmps (ee Au) _ _;refine fB (XQ []) (amu cO cP b fl nx lf es rt x) (dG ?_);exact⟨cR,_,_,_,rfl,[x],RW,rfl,rfl,rfl⟩
 |x::y::ks,RW=>
  refine⟨U,?_⟩;show TG ak 8 Tryz.f113.ntmps (ee Au) _ _;refine fB (XQ []) (amr cO cP b fl nx lf es rt (x::y::ks).length (strs (x::y::ks))) (dG ?_);exact⟨cR,_,_,_,rfl,x::y::ks,RW,rfl,rfl,rfl⟩
theorem Vw(hk:zl rt)(hl:rt.length<=1000000):fQ ak 86 [w88] (xS cO cP b fl nx lf es rt []) 8 (RKy cO cP b fl nx lf es rt):=by
 refine gG mo po Tryz.func86 (code:=Eo) U U ?_;refine iL  1 (XQ []) (amv cO cP b fl nx lf es rt) cR ?_;refine cV U ?_;refine qb 1 (s1:={ fr:=(A3 [(0,w88)]).set 3 (some w88),h:=xS cO cP b fl nx lf es rt [],n:=8,gz:=[] }) (f:=113) (args:=[eI,w88]) U U U U U U (RV cO cP b fl nx lf es rt hk hl) ?_;rintro v h n ⟨ks,hp,rfl,rfl,rfl⟩
 match ks,hp with
 | [],hp=>
   refine⟨(((A3 [(0,w88)]).set 3 (some w88)).set 4 (some eI)),sC2 (xS cO cP b fl nx lf es rt []) 8 eI,U,U,?_⟩;obtain⟨L5,uj⟩:=amx cO cP b fl nx lf es rt;show TG ak 8 Tryz.f86.ntmps (ee (de 1 Eo)) _ _;refine gY (XQ []) mo _ U uj (dG ?_);exact⟨cR,_,_,_,rfl,[],hp,rfl,rfl,rfl⟩
 | [x],hp=>
   refine⟨(((A3 [(0,w88)]).set 3 (some w88)).set 4 (some (.dj (some (8,0)) 1 1 1))),sC2 (xS cO cP b fl nx lf es rt [(8,.cells [.str x])]) 9 (.dj (some (8,0)) 1 1 1),U,U,?_⟩;obtain⟨L5,uj⟩:=amy cO cP b fl nx lf es rt x;show TG ak 8 Tryz.f86.ntmps (ee (de 1 Eo)) _ _;refine gY (XQ []) mo _ U uj (dG ?_);exact⟨cR,_,_,_,rfl,[x],hp,rfl,rfl,rfl⟩
 |x::y::ks,hp=>
  refine⟨(((A3 [(0,w88)]).set 3 (some w88)).set 4 (some (.dj (some (8,0)) (x::y::ks).length (x::y::ks).length 1))),sC2 (xS cO cP b fl nx lf es rt [(8,.deep (strs (x::y::ks)))]) 9 (.dj (some (8,0)) (x::y::ks).length (x::y::ks).length 1),U,U,?_⟩;obtain⟨L5,uj⟩:=amw cO cP b fl nx lf es rt (x::y::ks).length (strs (x::y::ks));show TG ak 8 Tryz.f86.ntmps (ee (de 1 Eo)) _ _;refine gY (XQ []) mo _ U uj (dG ?_);exact⟨cR,_,_,_,rfl,x::y::ks,hp,rfl,rfl,rfl⟩
theorem Vx{m:Nat}{ks:List (aa)}(h:2<=ks.length):G0 m ks= .dj (some (m,0)) ks.length ks.length 1/\Bb m ks=[(m,.deep (strs ks))]/\nK m ks=m+1:=by
 match ks,h with
 |x::y::ks,_=>exact⟨rfl,rfl,rfl⟩
theorem Vy(hk:zl rt)(hl:rt.length<1000000):cU ak 61 [w88] (xS cO cP b fl nx lf es rt []) 8 (G0 8 (iO (dJ rt))) (xS cO cP b fl nx lf es rt (Bb 8 (iO (dJ rt)))) (nK 8 (iO (dJ rt))):=by
 refine c7 Tryz.func61 (code:=En) U U ?_;refine iL  1 (XQ []) (amz cO cP b fl nx lf es rt) cR ?_;refine cV U ?_;refine qb 1 (s1:={ fr:=(A3 [(0,w88)]).set 4 (some w88),h:=xS cO cP b fl nx lf es rt [],n:=8,gz:=[] }) (f:=86) (args:=[w88]) U U U U U U (Vw cO cP b fl nx lf es rt hk (Nat.le_of_lt hl)) ?_;rintro v h n ⟨ks,hp,rfl,rfl,rfl⟩;rw[<- RU hp];have iS:ks.length<1000000:=by rw[hp.length_eq,xU];exact hl
 match ks,iS with
 | [],_=>
   rw[Fs];refine⟨(((A3 [(0,w88)]).set 4 (some w88)).set 5 (some eI)),sS2 (xS cO cP b fl nx lf es rt []) 8 eI,U,U,?_⟩;show TG ak 8 Tryz.f61.ntmps (de 2 En) _ _;refine fB (XQ []) (amB cO cP b fl nx lf es rt) (dG ?_);exact⟨fun p hp=>by rw[aq]at hp;subst hp;decide,_,_,_,rfl,rfl,rfl,rfl⟩
 | [x],_=>
   rw[OF];refine⟨(((A3 [(0,w88)]).set 4 (some w88)).set 5 (some (.dj (some (8,0)) 1 1 1))),sS2 (xS cO cP b fl nx lf es rt [(8,.cells [.str x])]) 9 (.dj (some (8,0)) 1 1 1),U,U,?_⟩;show TG ak 8 Tryz.f61.ntmps (de 2 En) _ _;refine fB (XQ []) (amC cO cP b fl nx lf es rt x) (dG ?_);exact⟨fun p hp=>by rw[aq]at hp;subst hp;decide,_,_,_,rfl,rfl,rfl,rfl⟩
 |x::y::ks,iS=>
  obtain⟨z1,z2,z3⟩:=Vx (m:=8) (ks:=iO (x::y::ks)) (by rw[su];simp);rw[z1,z2,z3,su];refine⟨(((A3 [(0,w88)]).set 4 (some w88)).set 5 (some (.dj (some (8,0)) (x::y::ks).length (x::y::ks).length 1))),sS2 (xS cO cP b fl nx lf es rt [(8,.deep (strs (x::y::ks)))]) 9 (.dj (some (8,0)) (x::y::ks).length (x::y::ks).length 1),U,U,?_⟩;show TG ak 8 Tryz.f61.ntmps (de 2 En) _ _;obtain⟨L5,uj⟩:=amA cO cP b fl nx lf es rt (x::y::ks).length (strs (x::y::ks)) (strs (iO (x::y::ks)));have hc:cU ak 87 [.dj (some (8,0)) (x::y::ks).length (x::y::ks).length 1] (xS cO cP b fl nx lf es rt [(8,.deep (strs (x::y::ks)))]) 9 (.ew []) ((xS cO cP b fl nx lf es rt [(8,.deep (strs (x::y::ks)))]).set 8 (some (.deep (strs (iO (x::y::ks)))))) 9:=
   IX U0 (ss:=x::y::ks) U (au rfl) (Nat.succ_pos _) rfl iS
  refine gY ((XQ []).jy (au U) hc) mo _ U uj (dG ?_);exact⟨fun p hp=>by rw[aq]at hp;subst hp;exact De,_,_,_,rfl,rfl,rfl,rfl⟩
theorem G1(hk:zl rt)(hl:rt.length<1000000):cU ak 23 [P3] (eu (pS cO cP b fl nx lf es rt)) 7 (G0 7 (iO (dJ rt))) (hKf cO cP b fl nx lf es rt (Bb 7 (iO (dJ rt)))) (nK 7 (iO (dJ rt))):=by
 have h61:=Vy cO cP b fl nx lf es rt hk hl;refine c7 Tryz.func23 (code:=Om) U U ?_
 match DY:iO (dJ rt),h61 with
 | [],h61=>
   refine fB ((XQ []).jy (au U) h61) (afF cO cP b fl nx lf es rt) (dG ?_);exact⟨fun p hp=>by rw[aq]at hp;subst hp;exact De,_,_,_,rfl,rfl,rfl,rfl⟩
 | [x],h61=>
   refine fB ((XQ []).jy (au U) h61) (afG cO cP b fl nx lf es rt x) (dG ?_);exact⟨fun p hp=>by rw[aq]at hp;subst hp;exact De,_,_,_,rfl,rfl,rfl,rfl⟩
 |x::y::ks,h61=>
  refine fB ((XQ []).jy (au U) h61) (afE cO cP b fl nx lf es rt (x::y::ks).length (strs (x::y::ks))) (dG ?_);exact⟨fun p hp=>by rw[aq]at hp;subst hp;exact De,_,_,_,rfl,rfl,rfl,rfl⟩
end
def g81:V:=.fn (.func 81) [] [.ptr (some (9,0))]
def g56:V:=.fn (.func 56) [] [.ptr (some (7,0))]
section
variable(cO cP:Nat)(b:aa)(fl nx lf:Int)(es rt:ae)(ks:List (aa))
def lS:af:=eO (pS cO cP b fl nx lf es rt)++[(7,.cells [P3]),(8,.dF none (nM ks)),(9,.cells [.map (some 8)])]
def lSx:af:=eO (pS cO cP b fl nx lf es rt)++[(7,.cells [P3]),(9,.cells [.map (some 8)])]
def sSa:St:=eF [(2,P 10),(6,g81)] (hL (lS cO cP b fl nx lf es rt ks++[(10,.cells [eI])])) 11
noncomputable def oSa:O:=.loop true none (sSa cO cP b fl nx lf es rt ks).fr [7] UR US
noncomputable def Yp(sl:V)(row:af):Tr O:=hL (lS cO cP b fl nx lf es rt ks++[(10,.cells [sl]),(11,.my),(12,oSa cO cP b fl nx lf es rt ks)]++row)
noncomputable def Er(sl:V)(row:af)(n:Nat):St:=eF [(0,.fn (.yield 12) [] []),(5,P 13)] (hL (lSx cO cP b fl nx lf es rt++[(10,.cells [sl]),(11,.my),(12,oSa cO cP b fl nx lf es rt ks)]++row)) n
def wY(row:af):Tr O:=hL (lS cO cP b fl nx lf es rt ks++row)
end
section
variable(cO:Nat)(h:Tr O)(cP:Nat)(b:aa)(fl nx lf:Int)(n:Nat)(es rt:ae)(ks:List (aa))(k:aa)
theorem amD(v:V):c6 (kY []) [] 14 Tryz.f81 [0,5] ((sq El).rest) (TM (Er cO cP b fl nx lf es rt ks eI [] 14) k v) [([],
   [],
   .to .normal (Er cO cP b fl nx lf es rt ks (.dj (some (14,0)) 1 1 1) [(14,.cells [.str k])] 15))]
 :=cQ.of U U U
theorem amE(v:V)(n:Nat)(cs:ai):c6 (kY []) [] 14 Tryz.f81 [0,5] ((sq El).rest) (TM (Er cO cP b fl nx lf es rt ks (.dj (some (14,0)) n n 1) [(14,.deep cs)] 15) k v) [([],
   [(0+n*1<=cs.length),(0<1),(eT (n+1) 1 16=true)],
   .to .normal (eF [(0,.fn (.yield 12) [] []),(5,.ptr (some (13,0)))] (hL (eO (pS cO cP b fl nx lf es rt)++[(7,.cells [.ptr (some (3,0))]),(9,.cells [.map (some 8)]),(10,.cells [.dj (some (14,0)) (n+1) (n+1) 1]),(11,.my),(12,.loop true none (Eng.A3 [(2,.ptr (some (10,0))),(6,.fn (.func 81) [] [.ptr (some (9,0))])]) [7] UR US),(14,.deep (List.take (n*1) (List.drop 0 cs)++[D.str k]))])) 15))]
 :=cQ.of U U U
theorem amF:c6 (kY []) [] 10 Tryz.f100 [1,2] (eR 1 Rk) (cS [eI,g81] (wY cO cP b fl nx lf es rt ks []) 10) [([],
   [],
   .to .normal (eF [(1,g81),(2,P 10)] (hL (lS cO cP b fl nx lf es rt ks++[(10,.cells [eI])])) 11))]
 :=cQ.of U U U
theorem amG:c6 (kY []) [] 10 Tryz.f100 [2,6] (dK (dK Oj)) (eF [(1,g81),(2,P 10)] (hL (lS cO cP b fl nx lf es rt ks++[(10,.cells [eI])])) 11) [([],
   [],
   .to .normal (sSa cO cP b fl nx lf es rt ks))]
 :=cQ.of U U U
theorem amH(n:Nat)(cs:ai):c6 (kY []) [] 10 Tryz.f100 [] (ee Oj) (tD (sSa cO cP b fl nx lf es rt ks) (Yp cO cP b fl nx lf es rt ks (.dj (some (13,0)) n n 1) [(13,.deep cs)]) 14) [([],
   [],
   .ret (.dj (some (10,0)) n n 1) (wY cO cP b fl nx lf es rt ks [(10,.deep cs)]) 11)]
 :=cQ.of U U U
theorem amI:c6 (kY []) [] 10 Tryz.f100 [] (ee Oj) (tD (sSa cO cP b fl nx lf es rt ks) (Yp cO cP b fl nx lf es rt ks eI []) 13) [([],
   [],
   .ret (.dj none 0 0 0) (wY cO cP b fl nx lf es rt ks []) 10)]
 :=cQ.of U U U
def sC8(v:V):St:={ fr:=((((A3 [(0,g81)]).set 3 (some g81)).set 4 (some v)).set 2 (some v)),h:=h,n:=n,gz:=[] }
def sS8(v:V):St:={ fr:=((((A3 [(0,g81),(1,g56)]).set 6 (some g81)).set 7 (some v)).set 5 (some v)),h:=h,n:=n,gz:=[] }
end
section
variable(cO cP:Nat)(b:aa)(fl nx lf:Int)(es rt:ae)(ks:List (aa))(n:Nat)(cs:ai)
theorem amJ:c6 (kY []) [] 10 Tryz.f79 [0] (eR 1 K5) (cS [g81] (wY cO cP b fl nx lf es rt ks []) 10) [([],
   [],
   .to .normal (eF [(0,g81)] (wY cO cP b fl nx lf es rt ks []) 10))]
 :=cQ.of U U U
theorem amK:c6 (kY []) [] 10 Tryz.f79 [] (ee (de 1 K5)) (sC8 (wY cO cP b fl nx lf es rt ks [(10,.deep cs)]) 11 (.dj (some (10,0)) n n 1)) [([],
   [],
   .ret (.dj (some (10,0)) n n 1) (wY cO cP b fl nx lf es rt ks [(10,.deep cs)]) 11)]
 :=cQ.of U U U
theorem amL:c6 (kY []) [] 10 Tryz.f79 [] (ee (de 1 K5)) (sC8 (wY cO cP b fl nx lf es rt ks []) 10 eI) [([],
   [],
   .ret (.dj none 0 0 0) (wY cO cP b fl nx lf es rt ks []) 10)]
 :=cQ.of U U U
theorem amM:c6 (kY []) [] 10 Tryz.f54 [0,1] (eR 1 K4) (cS [g81,g56] (wY cO cP b fl nx lf es rt ks []) 10) [([],
   [],
   .to .normal (eF [(0,g81),(1,g56)] (wY cO cP b fl nx lf es rt ks []) 10))]
 :=cQ.of U U U
theorem afH(vc:ai):c6 (fD (kY []) 80 [.dj (some (10,0)) n n 1,g56] (wY cO cP b fl nx lf es rt ks [(10,.deep cs)]) 11 (.ew [],(wY cO cP b fl nx lf es rt ks [(10,.deep cs)]).set 10 (some (.deep vc)),11)) [] 10 Tryz.f54 [] (de 2 K4) (sS8 (wY cO cP b fl nx lf es rt ks [(10,.deep cs)]) 11 (.dj (some (10,0)) n n 1)) [([],
   [([V.dj (some (10,0)) n n 1,g56]=[V.dj (some (10,0)) n n 1,g56]/\wY cO cP b fl nx lf es rt ks [(10,.deep cs)]=wY cO cP b fl nx lf es rt ks [(10,.deep cs)]/\11=11)],
   .ret (.dj (some (10,0)) n n 1) (wY cO cP b fl nx lf es rt ks [(10,.deep vc)]) 11)]
 :=cQ.of U U U
theorem afI:c6 (kY []) [] 10 Tryz.f54 [] (de 2 K4) (sS8 (wY cO cP b fl nx lf es rt ks []) 10 eI) [([],
   [((0:Int)<=(0:Int)/\0<256)],
   .ret (.dj none 0 0 0) (wY cO cP b fl nx lf es rt ks []) 10)]
 :=cQ.of U U U
end
def sg(m:Nat):List (aa)->af
 | []=>[]
 |ks=>[(m,.deep (strs ks))]
theorem RX(ks:List (aa)):dJ (nM ks)=ks:=by
 unfold dJ nM;rw[List.map_map];exact List.map_id'' (fun _=>rfl) ks
section
variable(cO cP:Nat)(b:aa)(fl nx lf:Int)(es rt:ae)(ks:List (aa))
def JSk(iB:ae)(s1:St):Prop:=zl iB/\KW 14 Tryz.f81.ntmps s1 (Er cO cP b fl nx lf es rt ks (G0 14 (dJ iB)) (sg 14 (dJ iB)) (nK 14 (dJ iB)))
abbrev RSk(v:V)(h:Tr O)(n:Nat):Prop:=∃ls,List.Perm ls ks/\v= .ew []/\h=Yp cO cP b fl nx lf es rt ks (G0 13 ls) (sg 13 ls)/\n=nK 13 ls
theorem Vz(hl:ks.length<=1000000):fQ ak 81 [.fn (.yield 12) [] [],P 9] (Yp cO cP b fl nx lf es rt ks eI []) 13 (RSk cO cP b fl nx lf es rt ks):=by
 refine gG mo po Tryz.func81 (code:=El) U U ?_;rw[aeF];have Hp:(nM ks).length=ks.length:=by unfold nM;rw[aY]
 refine IM (v0:=.map (some 8)) (ko:=(cS [.fn (.yield 12) [] [],P 9] (Yp cO cP b fl nx lf es rt ks eI []) 13).fr.set 4 (some (.map (some 8)))) (zO:=((cS [.fn (.yield 12) [] [],P 9] (Yp cO cP b fl nx lf es rt ks eI []) 13).fr.set 4 (some (.map (some 8)))).set 5 (some (P 13))) (m:=8) (kd:=none) (es:=nM ks) mo Mv
  U U U U (au rfl) U (JSk cO cP b fl nx lf es rt ks) ⟨(fun _ h=>by cases h),.norm (L:=[0,5]) U⟩ ?_
 rintro iB left s1 ⟨hv,hs⟩ hp;have iS:iB.length<=1000000:=by
  have:=hp.length_eq;rw[ax]at this;omega
 have xA:∀e ku,List.Perm left (e::ku)->∃k,e=(.str k,.bool true):=fun e ku he=>by
  obtain⟨k,_,h⟩:=bj.1 (hp.mem_iff.1 (bZ _ (he.mem_iff.2 (aP ..))));exact⟨k,h.symm⟩
 have rE:left=[]->List.Perm (dJ iB) ks:=fun h=>by
  subst h;rw[cu]at hp;have:=Bc hp;rwa [RX]at this
 have pG:∀k,dJ (iB++[(.str k,.bool true)])=dJ iB++[k]:=fun k=>by unfold dJ;rw[aX];rfl
 have hkv:∀k,zl (iB++[(.str k,.bool true)]):=fun k z hz=>by
  rcases aT.1 hz with hz|hz
  . exact hv z hz
  . rw[aq]at hz;subst hz;exact⟨k,rfl⟩
 have Pj:(dJ iB).length<=1000000:=by rw[xU];exact iS
 have hJ:∀k s',KW 14 Tryz.f81.ntmps s' (Er cO cP b fl nx lf es rt ks (G0 14 (dJ iB++[k])) (sg 14 (dJ iB++[k])) (nK 14 (dJ iB++[k])))->JSk cO cP b fl nx lf es rt ks (iB++[(.str k,.bool true)]) s':=fun k s' h=>⟨hkv k,by rw[pG];exact h⟩;generalize dJ iB=ls at *;cases ls with
 |nil=>
  refine⟨_,hs,U,fun h0=>?_,fun e ku he=>?_⟩
  . refine⟨(Er cO cP b fl nx lf es rt ks eI [] 14).fr.set 6 (some (.ew [.bool false])),{ Er cO cP b fl nx lf es rt ks eI [] 14 with fr:=((Er cO cP b fl nx lf es rt ks eI [] 14).fr.set 6 (some (.ew [.bool false]))).set 7 (some (.bool false)) },U,U,U,.inl rfl,.ew [],Yp cO cP b fl nx lf es rt ks eI [],13,U,[],rE h0,rfl,rfl,rfl⟩
  . obtain⟨k,rfl⟩:=xA e ku he;refine⟨(Er cO cP b fl nx lf es rt ks eI [] 14).fr.set 6 (some (.ew [.bool true,.str k,.bool true])),{ Er cO cP b fl nx lf es rt ks eI [] 14 with fr:=((Er cO cP b fl nx lf es rt ks eI [] 14).fr.set 6 (some (.ew [.bool true,.str k,.bool true]))).set 7 (some (.bool true)) },
     (((Er cO cP b fl nx lf es rt ks eI [] 14).fr.set 6 (some (.ew [.bool true,.str k,.bool true]))).set 7 (some (.bool true))).set 8 (some (.ew [.str k,.bool true])),TM (Er cO cP b fl nx lf es rt ks eI [] 14) k (.bool true),U,U,U,U,U,U,U,U,?_⟩
    refine fZ (XQ []) (amD cO cP b fl nx lf es rt ks k (.bool true)) (dG ?_);exact⟨cR,fun s' dL=>hJ k s' ((KW.norm dL).trans (.deep [14] U))⟩
 |cons y ys=>
  have h1:∀m,sg m (y::ys)=[(m,.deep (strs (y::ys)))]/\G0 m (y::ys)= .dj (some (m,0)) (y::ys).length (y::ys).length 1/\nK m (y::ys)=m+1:=fun m=>⟨rfl,rfl,rfl⟩;have h2:∀m k,sg m (y::ys++[k])=[(m,.deep (strs (y::ys++[k])))]/\G0 m (y::ys++[k])= .dj (some (m,0)) (y::ys++[k]).length (y::ys++[k]).length 1/\nK m (y::ys++[k])=m+1:=fun m k=>⟨rfl,rfl,rfl⟩;have h3:0<(y::ys).length:=Nat.succ_pos _;generalize y::ys=ls at *;rw[(h1 14).1,(h1 14).2.1,(h1 14).2.2]at hs;refine⟨_,hs,U,fun h0=>?_,fun e ku he=>?_⟩
  . refine⟨(Er cO cP b fl nx lf es rt ks (.dj (some (14,0)) ls.length ls.length 1) [(14,.deep (strs ls))] 15).fr.set 6 (some (.ew [.bool false])),{ Er cO cP b fl nx lf es rt ks (.dj (some (14,0)) ls.length ls.length 1) [(14,.deep (strs ls))] 15 with fr:=((Er cO cP b fl nx lf es rt ks (.dj (some (14,0)) ls.length ls.length 1) [(14,.deep (strs ls))] 15).fr.set 6 (some (.ew [.bool false]))).set 7 (some (.bool false)) },U,U,U,.inl rfl,.ew [],Yp cO cP b fl nx lf es rt ks (.dj (some (13,0)) ls.length ls.length 1) [(13,.deep (strs ls))],14,U,ls,rE h0,rfl,?_,?_⟩
    . rw[(h1 13).1,(h1 13).2.1]
    . rw[(h1 13).2.2]
  . obtain⟨k,rfl⟩:=xA e ku he;refine⟨(Er cO cP b fl nx lf es rt ks (.dj (some (14,0)) ls.length ls.length 1) [(14,.deep (strs ls))] 15).fr.set 6 (some (.ew [.bool true,.str k,.bool true])),{ Er cO cP b fl nx lf es rt ks (.dj (some (14,0)) ls.length ls.length 1) [(14,.deep (strs ls))] 15 with fr:=((Er cO cP b fl nx lf es rt ks (.dj (some (14,0)) ls.length ls.length 1) [(14,.deep (strs ls))] 15).fr.set 6 (some (.ew [.bool true,.str k,.bool true]))).set 7 (some (.bool true)) },
     (((Er cO cP b fl nx lf es rt ks (.dj (some (14,0)) ls.length ls.length 1) [(14,.deep (strs ls))] 15).fr.set 6 (some (.ew [.bool true,.str k,.bool true]))).set 7 (some (.bool true))).set 8 (some (.ew [.str k,.bool true])),TM (Er cO cP b fl nx lf es rt ks (.dj (some (14,0)) ls.length ls.length 1) [(14,.deep (strs ls))] 15) k (.bool true),U,U,U,U,U,U,U,U,?_⟩
    refine fZ (XQ []) (amE cO cP b fl nx lf es rt ks k (.bool true) ls.length (strs ls)) (dG ?_);refine⟨fm (by rw[eJ];omega) (fm dU (eU (pV be))),fun s' dL=>hJ k s' ?_⟩;have e:List.take (ls.length*1) (List.drop 0 (strs ls))++[D.str k]=strs (ls++[k]):=by
     rw[bw,bk,br (by rw[eJ];omega)];unfold strs;rw[aX];rfl
    rw[e]at dL;rw[(h2 14 k).1,(h2 14 k).2.1,(h2 14 k).2.2,ax];exact .norm dL
abbrev RSe(v:V)(h:Tr O)(n:Nat):Prop:=∃ls,List.Perm ls ks/\v=G0 10 ls/\h=wY cO cP b fl nx lf es rt ks (sg 10 ls)/\n=nK 10 ls
theorem RY(hl:ks.length<=1000000):fQ ak 100 [eI,g81] (wY cO cP b fl nx lf es rt ks []) 10 (RSe cO cP b fl nx lf es rt ks):=by
 refine gG mo po Tryz.func100 (code:=Rk) U U ?_;refine iL  1 (XQ []) (amF cO cP b fl nx lf es rt ks) cR ?_;refine cV U ?_;refine cV U ?_;refine fZ (XQ []) (amG cO cP b fl nx lf es rt ks) (dG ?_);refine⟨cR,fun s' dL=>c5 dL ?_⟩;refine fg (i:=0) U ?_;refine ou (gf:=81) (lb:=[P 9]) U U U U U (Vz cO cP b fl nx lf es rt ks hl) ?_;rintro v h n ⟨ls,hp,rfl,rfl,rfl⟩;cases ls with
 |nil=>
  refine⟨U,?_⟩;refine fB (XQ []) (amI cO cP b fl nx lf es rt ks) (dG ?_);exact⟨cR,_,_,_,rfl,[],hp,rfl,rfl,rfl⟩
 |cons x xs=>
  refine⟨U,?_⟩;refine fB (XQ []) (amH cO cP b fl nx lf es rt ks (x::xs).length (strs (x::xs))) (dG ?_);exact⟨cR,_,_,_,rfl,x::xs,hp,rfl,rfl,rfl⟩
theorem VA(hl:ks.length<=1000000):fQ ak 79 [g81] (wY cO cP b fl nx lf es rt ks []) 10 (RSe cO cP b fl nx lf es rt ks):=by
 refine gG mo po Tryz.func79 (code:=K5) U U ?_;refine iL  1 (XQ []) (amJ cO cP b fl nx lf es rt ks) cR ?_;refine cV U ?_;refine qb 1 (s1:={ fr:=(A3 [(0,g81)]).set 3 (some g81),h:=wY cO cP b fl nx lf es rt ks [],n:=10,gz:=[] }) (f:=100) (args:=[eI,g81]) U U U U U U (RY cO cP b fl nx lf es rt ks hl) ?_;rintro v h n ⟨ls,hp,rfl,rfl,rfl⟩;cases ls with
 |nil=>
  refine⟨(((A3 [(0,g81)]).set 3 (some g81)).set 4 (some eI)),sC8 (wY cO cP b fl nx lf es rt ks []) 10 eI,U,U,?_⟩;refine fB (XQ []) (amL cO cP b fl nx lf es rt ks) (dG ?_);exact⟨cR,_,_,_,rfl,[],hp,rfl,rfl,rfl⟩
 |cons x xs=>
  refine⟨(((A3 [(0,g81)]).set 3 (some g81)).set 4 (some (.dj (some (10,0)) (x::xs).length (x::xs).length 1))),sC8 (wY cO cP b fl nx lf es rt ks [(10,.deep (strs (x::xs)))]) 11 (.dj (some (10,0)) (x::xs).length (x::xs).length 1),U,U,?_⟩;refine fB (XQ []) (amK cO cP b fl nx lf es rt ks (x::xs).length (strs (x::xs))) (dG ?_);exact⟨cR,_,_,_,rfl,x::xs,hp,rfl,rfl,rfl⟩
theorem VB(zs:List (aa))(hl:ks.length<1000000)(wG:Yh es)(hn:∀x,0<=jN es x/\jN es x<1000000000)(hz:List.Perm zs ks)(hs:zs.Pairwise fun a b=>jN es a<jN es b):
  cU ak 54 [g81,g56] (wY cO cP b fl nx lf es rt ks []) 10 (G0 10 zs) (wY cO cP b fl nx lf es rt ks (sg 10 zs)) (nK 10 zs):=by
 refine c7 Tryz.func54 (code:=K4) U U ?_;refine iL  1 (XQ []) (amM cO cP b fl nx lf es rt ks) cR ?_;refine cV U ?_;refine qb 1 (s1:={ fr:=(A3 [(0,g81),(1,g56)]).set 6 (some g81),h:=wY cO cP b fl nx lf es rt ks [],n:=10,gz:=[] }) (f:=79) (args:=[g81]) U U U U U U (VA cO cP b fl nx lf es rt ks (Nat.le_of_lt hl)) ?_;rintro v h n ⟨ls,hp,rfl,rfl,rfl⟩;have Hj:List.Perm zs ls:=hz.trans hp.symm;have iS:ls.length<1000000:=by rw[hp.length_eq];exact hl
 cases ls with
 |nil=>
  have:zs=[]:=Hj.eq_nil;subst this;refine⟨(((A3 [(0,g81),(1,g56)]).set 6 (some g81)).set 7 (some eI)),sS8 (wY cO cP b fl nx lf es rt ks []) 10 eI,U,U,?_⟩;refine fB (XQ []) (afI cO cP b fl nx lf es rt ks) (dG ?_);exact⟨eU ⟨dU,dU⟩,_,_,_,rfl,rfl,rfl,rfl⟩
 |cons x xs=>
  have hzn:zs.length=(x::xs).length:=Hj.length_eq;have h1:G0 10 zs= .dj (some (10,0)) zs.length zs.length 1/\sg 10 zs=[(10,.deep (strs zs))]/\nK 10 zs=11:=by
   cases zs with
   |nil=>cases hzn
   |cons z zs=>exact⟨rfl,rfl,rfl⟩
  rw[h1.1,h1.2.1,h1.2.2,hzn];refine⟨(((A3 [(0,g81),(1,g56)]).set 6 (some g81)).set 7 (some (.dj (some (10,0)) (x::xs).length (x::xs).length 1))),sS8 (wY cO cP b fl nx lf es rt ks [(10,.deep (strs (x::xs)))]) 11 (.dj (some (10,0)) (x::xs).length (x::xs).length 1),U,U,?_⟩;obtain⟨L5,uj⟩:=afH cO cP b fl nx lf es rt ks (x::xs).length (strs (x::xs)) (strs zs);have hc:cU ak 80 [.dj (some (10,0)) (x::xs).length (x::xs).length 1,g56] (wY cO cP b fl nx lf es rt ks [(10,.deep (strs (x::xs)))]) 11 (.ew []) ((wY cO cP b fl nx lf es rt ks [(10,.deep (strs (x::xs)))]).set 10 (some (.deep (strs zs)))) 11:=
   aaw (bx:=7) (st:=3) (c:=5) (cs:=xK 4 5 6 (pS cO cP b fl nx lf es rt)) (x::xs) zs U dU U U rfl U wG hn (Nat.succ_pos _) iS Hj hs dU dU dU
  refine gY ((XQ []).jy (au U) hc) mo _ U uj (dG ?_);exact⟨eU ⟨rfl,rfl,rfl⟩,_,_,_,rfl,rfl,rfl,rfl⟩
end
noncomputable abbrev hd4:Code:=eR 4 Ol
noncomputable abbrev TO:Code:=de 4 Ol
noncomputable abbrev G2:Code:=de 5 Ol
section
variable(cO cP:Nat)(b:aa)(fl nx lf:Int)(es rt:ae)(ks:List (aa))
def lH1:af:=lC cO cP b fl nx lf es rt
def lH2:af:=lC cO cP b fl nx lf es rt++[(20,.dF none (nM ks))]
def lH3(row:af):af:=lC cO cP b fl nx lf es rt++[(20,.dF none (nM ks)),(21,.cells [.map (some 20)])]++row
end
section
variable(cO cP:Nat)(b:aa)(fl nx lf:Int)(es rt:ae)(ks:List (aa))
theorem amQ(n:Nat)(cs:ai):c6 (fD (fD (kY []) 51 [P3,v78] (hL (lH1 cO cP b fl nx lf es rt)) 20 (.map (some 20),hL (lH2 cO cP b fl nx lf es rt ks),21)) 54 [v81,v56] (hL (lH3 cO cP b fl nx lf es rt ks [])) 22 (.dj (some (22,0)) n n 1,hL (lH3 cO cP b fl nx lf es rt ks [(22,.deep cs)]),23)) [] 7 Tryz.f19 [1,3,4] (hd4) (cS [P3] (eu (pS cO cP b fl nx lf es rt)) 7) [([],
   [fo [.ptr (some (3,0)),.fn (.func 78) [] [.ptr (some (19,0))]] (hL (eO (pS cO cP b fl nx lf es rt)++[(7,.cells [.ptr (some (3,0))]),(19,.cells [.map (some 6)])])) 20,fo [.fn (.func 81) [] [.ptr (some (21,0))],.fn (.func 56) [] [.ptr (some (7,0))]] (hL (eO (pS cO cP b fl nx lf es rt)++[(7,.cells [.ptr (some (3,0))]),(19,.cells [.map (some 6)]),(20,.dF none (nM ks)),(21,.cells [.map (some 20)])])) 22],
   .to .normal (eF [(1,.ptr (some (7,0))),(3,.dj (some (8,0)) n n 1),(4,.dj none 0 0 0)] (hL (eO (pS cO cP b fl nx lf es rt)++[(7,.cells [.ptr (some (3,0))]),(8,.deep cs)])) 9))]
 :=cQ.of U U U
theorem amR:c6 (fD (fD (kY []) 51 [P3,v78] (hL (lH1 cO cP b fl nx lf es rt)) 20 (.map (some 20),hL (lH2 cO cP b fl nx lf es rt ks),21)) 54 [v81,v56] (hL (lH3 cO cP b fl nx lf es rt ks [])) 22 (eI,hL (lH3 cO cP b fl nx lf es rt ks []),22)) [] 7 Tryz.f19 [1,3,4] (hd4) (cS [P3] (eu (pS cO cP b fl nx lf es rt)) 7) [([],
   [fo [.ptr (some (3,0)),.fn (.func 78) [] [.ptr (some (19,0))]] (hL (eO (pS cO cP b fl nx lf es rt)++[(7,.cells [.ptr (some (3,0))]),(19,.cells [.map (some 6)])])) 20,fo [.fn (.func 81) [] [.ptr (some (21,0))],.fn (.func 56) [] [.ptr (some (7,0))]] (hL (eO (pS cO cP b fl nx lf es rt)++[(7,.cells [.ptr (some (3,0))]),(19,.cells [.map (some 6)]),(20,.dF none (nM ks)),(21,.cells [.map (some 20)])])) 22],
   .to .normal (eF [(1,.ptr (some (7,0))),(3,.dj none 0 0 0),(4,.dj none 0 0 0)] (hL (eO (pS cO cP b fl nx lf es rt)++[(7,.cells [.ptr (some (3,0))])])) 8))]
 :=cQ.of U U U
end
section
variable(cO cP:Nat)(b:aa)(fl nx lf:Int)(es rt:ae)(zs:List (aa))(i:Nat)(bs:aa)
def aaY:St:=eF [(1,P 7),(4,eI),(26,.dj (some (8,0)) zs.length zs.length 1),(27,.int .i64 (Int.ofNat zs.length)),(28,.int .i64 0)] (hL (eO (pS cO cP b fl nx lf es rt)++[(7,.cells [P3]),(8,.deep (strs zs))])) 9
def sHk:St:=eF [(1,P 7),(4,.dj (some (8,0)) bs.length bs.length 1),(26,.dj (some (9,0)) zs.length zs.length 1),(27,.int .i64 (Int.ofNat zs.length)),(28,.int .i64 (Int.ofNat i))] (hL (eO (pS cO cP b fl nx lf es rt)++[(7,.cells [P3]),(8,.iU 5 false bs),(9,.deep (strs zs))])) 10
def sHe:St:=eF [(1,P 7),(4,.dj (some (8,0)) bs.length bs.length 1)] (hL (eO (pS cO cP b fl nx lf es rt)++[(7,.cells [P3]),(8,.iU 5 false bs)])) 9
def sHn:St:=eF [(1,P 7),(4,eI)] (hL (eO (pS cO cP b fl nx lf es rt)++[(7,.cells [P3])])) 8
end
section
variable(cO cP:Nat)(b:aa)(es:ae)(fl:Int)(x:aa)(nx lf:Int)
theorem amT(es rt:ae)(zs:List (aa)):c6 (kY []) [(28,.dc (.int .i64 (Int.ofNat 0)))] 7 Tryz.f19 [1,4,26,27,28] (dK (dK TO)) (eF [(1,P 7),(3,.dj (some (8,0)) zs.length zs.length 1),(4,eI)] (hL (eO (pS cO cP b fl nx lf es rt)++[(7,.cells [P3]),(8,.deep (strs zs))])) 9) [([],
   [(V.int aj (0:Int)=V.int aj (0:Int))],
   .to .normal (aaY cO cP b fl nx lf es rt zs))]
 :=cQ.of U U U
abbrev RZ(d:aa)(rs:List (aa))(k:Int):Prop:=(if false=true then V.ew [D.ga (V.agg [V.str ([]:aa),V.dj none 0 0 0,V.int aj (0:Int)]) (di (D.str x) es),V.bool (di (D.str x) es).isSome]else D.ga (V.agg [V.str ([]:aa),V.dj none 0 0 0,V.int aj (0:Int)]) (di (D.str x) es))=ot d rs k
theorem amU(es rt:ae)(zs:List (aa))(x d:aa)(rs:List (aa))(k:Int):c6 A9 [(29,.split),(31,.dc (.str x)),(38,.dc (ot d rs k)),(45,.dc (ot d rs k))] 7 Tryz.f19 [1,4,26,27,28] (dw (dw (ee (dK TO)))) (aaY cO cP b fl nx lf es rt zs) [([((decide ((0:Int)<Int.ofNat zs.length)),true)],
   [((0:Int)<=(0:Int)/\(0:Int)<(Int.ofNat zs.length)),(0<(strs zs).length),(((strs zs).getD 0 D.uz).iJ=V.str x),RZ es x d rs k,RZ es x d rs k,(strs rs=strs (dH (strs rs))),(rs.length=(dH (strs rs)).length),(d.length<=100000000),(rs.length<=1000000),((dH (strs rs)).flatten.length<=100000000),(0<(gL d (dH (strs rs))).length),(eT (gL d (dH (strs rs))).length 1 1=true)],
   .to .normal (eF [(1,.ptr (some (7,0))),(4,.dj (some (8,0)) ((gL d (dH (strs rs))).length) ((gL d (dH (strs rs))).length) 1),(26,.dj (some (9,0)) (zs.length) (zs.length) 1),(27,.int .i64 (Int.ofNat zs.length)),(28,.int .i64 1)] (hL (eO (pS cO cP b fl nx lf es rt)++[(7,.cells [.ptr (some (3,0))]),(8,.iU 5 false (gL d (dH (strs rs)))),(9,.deep (strs zs))])) 10)),
  ([((decide ((0:Int)<Int.ofNat zs.length)),false)],
   [],
   .to (.exit 0) (eF [(1,.ptr (some (7,0))),(4,.dj none 0 0 0),(26,.dj (some (8,0)) (zs.length) (zs.length) 1),(27,.int .i64 (Int.ofNat zs.length)),(28,.int .i64 0)] (hL (eO (pS cO cP b fl nx lf es rt)++[(7,.cells [.ptr (some (3,0))]),(8,.deep (strs zs))])) 9))]
 :=cQ.of U U U
abbrev R1(d:aa)(rs:List (aa))(k:Int):Prop:=(if false=true then V.ew [D.ga (V.agg [V.str ([]:aa),V.dj none 0 0 0,V.int aj (0:Int)]) (di (D.str x) es),V.bool (di (D.str x) es).isSome]else D.ga (V.agg [V.str ([]:aa),V.dj none 0 0 0,V.int aj (0:Int)]) (di (D.str x) es))=ot d rs k
end
section
variable(cO cP:Nat)(b:aa)(fl nx lf:Int)(es rt:ae)
theorem amV(zs:List (aa))(i:Nat)(x d:aa)(rs:List (aa))(k:Int)(bs:aa):c6 A9 [(29,.split),(31,.dc (.str x)),(38,.dc (ot d rs k)),(45,.dc (ot d rs k)),(49,.dc (.int .i64 (Int.ofNat (i+1))))] 7 Tryz.f19 [1,4,26,27,28] (dw (dw (ee (dK TO)))) (sHk cO cP b fl nx lf es rt zs i bs) [([((decide (Int.ofNat i<Int.ofNat zs.length)),true)],
   [((0:Int)<=Int.ofNat i/\Int.ofNat i<(Int.ofNat zs.length)),(0+i*1<(strs zs).length),(((strs zs).getD (0+i*1) D.uz).iJ=V.str x),R1 es x d rs k,R1 es x d rs k,(strs rs=strs (dH (strs rs))),(rs.length=(dH (strs rs)).length),(d.length<=100000000),(rs.length<=1000000),((dH (strs rs)).flatten.length<=100000000),(0<bs.length),(bs.length=bs.length),(eT (bs.length+(gL d (dH (strs rs))).length) 1 1=true),kT (Int.ofNat i+(1:Int)) (i+1)],
   .to .normal (eF [(1,.ptr (some (7,0))),(4,.dj (some (8,0)) (bs.length+(gL d (dH (strs rs))).length) (bs.length+(gL d (dH (strs rs))).length) 1),(26,.dj (some (9,0)) (zs.length) (zs.length) 1),(27,.int .i64 (Int.ofNat zs.length)),(28,.int .i64 (Int.ofNat (i+1)))] (hL (eO (pS cO cP b fl nx lf es rt)++[(7,.cells [.ptr (some (3,0))]),(8,.iU 5 false (bs++eN (dV (gL d (dH (strs rs)))))),(9,.deep (strs zs))])) 10)),
  ([((decide (Int.ofNat i<Int.ofNat zs.length)),false)],
   [],
   .to (.exit 0) (eF [(1,.ptr (some (7,0))),(4,.dj (some (8,0)) (bs.length) (bs.length) 1),(26,.dj (some (9,0)) (zs.length) (zs.length) 1),(27,.int .i64 (Int.ofNat zs.length)),(28,.int .i64 (Int.ofNat i))] (hL (eO (pS cO cP b fl nx lf es rt)++[(7,.cells [.ptr (some (3,0))]),(8,.iU 5 false bs),(9,.deep (strs zs))])) 10))]
 :=cQ.of U U U
theorem amW(zs:List (aa))(i:Nat)(bs:aa):c6 A9 [(29,.dc (.bool false))] 7 Tryz.f19 [1,4] (dw (dw (ee (dK TO)))) (sHk cO cP b fl nx lf es rt zs i bs) [([],
   [(V.bool (decide (Int.ofNat i<Int.ofNat zs.length))=V.bool false)],
   .to (.exit 0) (eF [(1,.ptr (some (7,0))),(4,.dj (some (8,0)) (bs.length) (bs.length) 1)] (hL (eO (pS cO cP b fl nx lf es rt)++[(7,.cells [.ptr (some (3,0))]),(8,.iU 5 false bs)])) 9))]
 :=cQ.of U U U
theorem amX:c6 (kY []) [] 7 Tryz.f19 [1,4] (dK TO) (eF [(1,P 7),(3,eI),(4,eI)] (hL (eO (pS cO cP b fl nx lf es rt)++[(7,.cells [P3])])) 8) [([],
   [],
   .to .normal (sHn cO cP b fl nx lf es rt))]
 :=cQ.of U U U
end
section
variable(cO cP:Nat)(b:aa)(fl nx lf:Int)(es rt:ae)(zs:List (aa))(i:Nat)(bs:aa)
def lHe:af:=eO (pS cO cP b fl nx lf es rt)++[(7,.cells [P3]),(8,.iU 5 false bs)]
def sHr:St:=eF [(1,P 7),(4,.dj (some (8,0)) bs.length bs.length 1),(51,.dj (some (9,0)) zs.length zs.length 1),(52,.int .i64 (Int.ofNat zs.length)),(53,.int .i64 (Int.ofNat i))] (hL (eO (pS cO cP b fl nx lf es rt)++[(7,.cells [P3]),(8,.iU 5 false bs),(9,.deep (strs zs))])) 10
end
section
variable(b:aa)(nx lf:Int)(es rt:ae)(bs:aa)
def l3b(fl:Int):af:=[(0,.ints .u32 gS),(1,.ints .u32 gR),(3,.cells [.dj (some (7,0)) bs.length bs.length 1,.int .i64 fl,.map (some 5),.map (some 6),.int .i64 nx,.bool false,.bool false,.int .i64 lf]),(4,.iU 5 false b),(5,.dF none es),(6,.dF none rt),(7,.iU 5 false bs),(8,.cells [P3])]
def l3r(m:Nat)(c:af)(I3:Int)(mK mX:ae):af:=[(0,.ints .u32 gS),(1,.ints .u32 gR),(3,.cells [.dj (some (7,0)) bs.length bs.length 1,.int .i64 (Int.ofNat bs.length),.map (some m),.map (some (m+1)),.int .i64 I3,.bool false,.bool false,.int .i64 lf]),(4,.iU 5 false b),(5,.dF none es),(6,.dF none rt),(7,.iU 5 false bs)]++c++[(m,.dF none mK),(m+1,.dF none mX)]
def l3e:af:=[(0,.ints .u32 gS),(1,.ints .u32 gR),(3,.cells [eI,.int .i64 0,.map (some 5),.map (some 6),.int .i64 nx,.bool false,.bool false,.int .i64 lf]),(4,.iU 5 false b),(5,.dF none es),(6,.dF none []),(7,.cells [P3])]
def l3f(m:Nat)(c:af):af:=[(0,.ints .u32 gS),(1,.ints .u32 gR),(3,.cells [eI,.int .i64 0,.map (some m),.map (some (m+1)),.int .i64 0,.bool false,.bool false,.int .i64 lf]),(4,.iU 5 false b),(5,.dF none es),(6,.dF none [])]++c++[(m,.dF none []),(m+1,.dF none [])]
end
section
variable(cO cP:Nat)(b:aa)(fl nx lf:Int)(es rt:ae)(bs x:aa)
theorem amY(zs:List (aa))(bs:aa):c6 (fD A9 23 [P3] (hL (lHe cO cP b fl nx lf es rt bs)) 9 (.dj (some (9,0)) zs.length zs.length 1,hL (lHe cO cP b fl nx lf es rt bs++[(9,.deep (strs zs))]),10)) [(53,.dc (.int .i64 (Int.ofNat 0)))] 7 Tryz.f19 [1,4,51,52,53] (dK (dK G2)) (sHe cO cP b fl nx lf es rt bs) [([],
   [fo [.ptr (some (3,0))] (hL (eO (pS cO cP b fl nx lf es rt)++[(7,.cells [.ptr (some (3,0))]),(8,.iU 5 false bs)])) 9,(V.int aj (0:Int)=V.int aj (0:Int))],
   .to .normal (eF [(1,.ptr (some (7,0))),(4,.dj (some (8,0)) (bs.length) (bs.length) 1),(51,.dj (some (9,0)) (zs.length) (zs.length) 1),(52,.int .i64 ((Int.ofNat zs.length))),(53,.int .i64 0)] (hL (eO (pS cO cP b fl nx lf es rt)++[(7,.cells [.ptr (some (3,0))]),(8,.iU 5 false bs),(9,.deep (strs zs))])) 10))]
 :=cQ.of U U U
theorem afJ(bs:aa):c6 (fD A9 23 [P3] (hL (lHe cO cP b fl nx lf es rt bs)) 9 (.dj (some (9,0)) 1 1 1,hL (lHe cO cP b fl nx lf es rt bs++[(9,.cells [.str x])]),10)) [(53,.dc (.int .i64 (Int.ofNat 0)))] 7 Tryz.f19 [1,4,51,52,53] (dK (dK G2)) (sHe cO cP b fl nx lf es rt bs) [([],
   [fo [.ptr (some (3,0))] (hL (eO (pS cO cP b fl nx lf es rt)++[(7,.cells [.ptr (some (3,0))]),(8,.iU 5 false bs)])) 9,(V.int aj (0:Int)=V.int aj (0:Int))],
   .to .normal (eF [(1,.ptr (some (7,0))),(4,.dj (some (8,0)) (bs.length) (bs.length) 1),(51,.dj (some (9,0)) 1 1 1),(52,.int .i64 1),(53,.int .i64 0)] (hL (eO (pS cO cP b fl nx lf es rt)++[(7,.cells [.ptr (some (3,0))]),(8,.iU 5 false bs),(9,.cells [.str x])])) 10))]
 :=cQ.of U U U
theorem amZ(zs:List (aa))(i:Nat)(x d:aa)(bs:aa):c6 A9 [(54,.split),(56,.dc (.str x)),(64,.dc (.str d)),(67,.dc (.int .i64 (Int.ofNat (i+1))))] 7 Tryz.f19 [1,4,51,52,53] (dw (dw (ee (dK G2)))) (sHr cO cP b fl nx lf es rt zs i bs) [([((decide (Int.ofNat i<Int.ofNat zs.length)),true)],
   [((0:Int)<=Int.ofNat i/\Int.ofNat i<(Int.ofNat zs.length)),(0+i*1<(strs zs).length),(((strs zs).getD (0+i*1) D.uz).iJ=V.str x),((if false=true then V.ew [D.ga (V.str ([]:aa)) (di (D.str x) rt),V.bool (di (D.str x) rt).isSome]else D.ga (V.str ([]:aa)) (di (D.str x) rt))=V.str d),(x.length<100000000),(d.length<100000000),(0<bs.length),(bs.length=bs.length),(eT (bs.length+(kK x d).length) 1 1=true),kT (Int.ofNat i+(1:Int)) (i+1)],
   .to .normal (eF [(1,.ptr (some (7,0))),(4,.dj (some (8,0)) (bs.length+(kK x d).length) (bs.length+(kK x d).length) 1),(51,.dj (some (9,0)) (zs.length) (zs.length) 1),(52,.int .i64 (Int.ofNat zs.length)),(53,.int .i64 (Int.ofNat (i+1)))] (hL (eO (pS cO cP b fl nx lf es rt)++[(7,.cells [.ptr (some (3,0))]),(8,.iU 5 false (bs++eN (dV (kK x d)))),(9,.deep (strs zs))])) 10)),
  ([((decide (Int.ofNat i<Int.ofNat zs.length)),false)],
   [],
   .to (.exit 2) (eF [(1,.ptr (some (7,0))),(4,.dj (some (8,0)) (bs.length) (bs.length) 1),(51,.dj (some (9,0)) (zs.length) (zs.length) 1),(52,.int .i64 (Int.ofNat zs.length)),(53,.int .i64 (Int.ofNat i))] (hL (eO (pS cO cP b fl nx lf es rt)++[(7,.cells [.ptr (some (3,0))]),(8,.iU 5 false bs),(9,.deep (strs zs))])) 10))]
 :=cQ.of U U U
theorem afK(zs:List (aa))(i:Nat)(bs:aa):c6 A9 [(54,.dc (.bool false))] 7 Tryz.f19 [1,4] (dw (dw (ee (dK G2)))) (sHr cO cP b fl nx lf es rt zs i bs) [([],
   [(V.bool (decide (Int.ofNat i<Int.ofNat zs.length))=V.bool false)],
   .to (.exit 2) (eF [(1,.ptr (some (7,0))),(4,.dj (some (8,0)) (bs.length) (bs.length) 1)] (hL (eO (pS cO cP b fl nx lf es rt)++[(7,.cells [.ptr (some (3,0))]),(8,.iU 5 false bs)])) 9))]
 :=cQ.of U U U
theorem afL:c6 A9 [] 7 Tryz.f19 [1] (eR 3 (ee G2)) (sHe cO cP b fl nx lf es rt bs) [([],
   [],
   .to .normal (eF [(1,.ptr (some (8,0)))] (hL (l3b b nx lf es rt bs (Int.ofNat bs.length))) 9))]
 :=cQ.of U U U
theorem afM:c6 (fD A9 23 [P3] (hL (eO (pS cO cP b fl nx lf es [])++[(7,.cells [P3])])) 8 (eI,hL (eO (pS cO cP b fl nx lf es [])++[(7,.cells [P3])]),8)) [] 7 Tryz.f19 [1,4] (dK G2) (sHn cO cP b fl nx lf es []) [([],
   [fo [.ptr (some (3,0))] (hL (eO (pS cO cP b fl nx lf es [])++[(7,.cells [.ptr (some (3,0))])])) 8],
   .to .normal (eF [(1,.ptr (some (7,0))),(4,.dj none 0 0 0)] (hL (eO (pS cO cP b fl nx lf es [])++[(7,.cells [.ptr (some (3,0))])])) 8))]
 :=cQ.of U U U
theorem afN:c6 A9 [] 7 Tryz.f19 [1] (eR 3 (ee G2)) (sHn cO cP b fl nx lf es []) [([],
   [],
   .to .normal (eF [(1,.ptr (some (7,0)))] (hL (l3e b nx lf es)) 8))]
 :=cQ.of U U U
theorem afO(I3:Int)(mK mX:ae):c6 (fD A9 57 [P3] (hL (l3b b nx lf es rt bs (Int.ofNat bs.length))) 9 (.ew [],hL (l3r b lf es rt bs 9 [(8,.cells [P3])] I3 mK mX),11)) [] 7 Tryz.f19 [] (de 3 (ee G2)) (eF [(1,.ptr (some (8,0)))] (hL (l3b b nx lf es rt bs (Int.ofNat bs.length))) 9) [([],
   [fo [.ptr (some (3,0))] (hL [(0,.ints .u32 gS),(1,.ints .u32 gR),(3,.cells [.dj (some (7,0)) (bs.length) (bs.length) 1,.int .i64 (Int.ofNat bs.length),.map (some 5),.map (some 6),.int .i64 nx,.bool false,.bool false,.int .i64 lf]),(4,.iU 5 false b),(5,.dF none es),(6,.dF none rt),(7,.iU 5 false bs),(8,.cells [.ptr (some (3,0))])]) 9],
   .ret (.int .i64 0) (hL (l3r b lf es rt bs 8 [] I3 mK mX)) 10)]
 :=cQ.of U U U
end
theorem afP(b:aa)(nx lf:Int)(es:ae):c6 (fD A9 57 [P3] (hL (l3e b nx lf es)) 8 (.ew [],hL (l3f b lf es 8 [(7,.cells [P3])]),10)) [] 7 Tryz.f19 [] (de 3 (ee G2)) (eF [(1,.ptr (some (7,0)))] (hL (l3e b nx lf es)) 8) [([],
   [fo [.ptr (some (3,0))] (hL [(0,.ints .u32 gS),(1,.ints .u32 gR),(3,.cells [.dj none 0 0 0,.int .i64 0,.map (some 5),.map (some 6),.int .i64 nx,.bool false,.bool false,.int .i64 lf]),(4,.iU 5 false b),(5,.dF none es),(6,.dF none []),(7,.cells [.ptr (some (3,0))])]) 8],
   .ret (.int .i64 0) (hL (l3f b lf es 7 [])) 9)]
 :=cQ.of U U U
def R2(ns:List (Option Nat))(l:af):af->List (Option O):=List.map fun q=>match ns.getD q.1 none with
 |some m=>match(hL l).get m with
  |some o=>o.rn (mu ns)
  |none=>none
 |none=>none
theorem jF{ns:List (Option Nat)}{l l1:af}(ht:(l1.all fun q=>Nat.blt q.1 fL)=true)(hg:(jR.all fun p=>decide (ns.getD p.2 none=some p.2))=true)(hn:nu ns=true)
  (hv:(ns.all fun x=>match x with|none=>true|some m=>(jR.any fun p=>decide (p.2=m))||((hL l).get m).isSome)=true) (he:R2 ns l l1=l1.map fun q=>some q.2):vl ns (hL l) (hL l1):=by
 refine Ar (fun p hp=>au (bq.1 ht p hp)) (fun p hp=>aH (bq.1 hg p hp)) hn (fun j m hj=>?_) fun p hp=>?_
 . have hm:some m∈ns:=by
    rw[aN]at hj;cases hx:ns[j]? with
    |none=>rw[hx]at hj;cases hj
    |some x=>rw[hx]at hj;simp only[Option.getD_some]at hj;subst hj;exact aU hx
   have:=bq.1 hv _ hm;simp only[bU,List.any_eq_true]at this;rcases this with⟨p,hp,VC⟩|h
   . exact .inl ⟨p,hp,aH VC⟩
   . exact .inr (Option.isSome_iff_ne_none.1 h)
 . have:(match ns.getD p.1 none with
    |some m=>match(hL l).get m with
     |some o=>o.rn (mu ns)
     |none=>none
    |none=>none)=some p.2:=List.map_inj_left.1 he p hp
   split at this
   . rename_i m hm;split at this
     . rename_i o ho;exact⟨m,o,hm,ho,this⟩
     . cases this
   . cases this
section
variable(cO cP:Nat)(b:aa)(fl nx lf:Int)(es rt:ae)
def am0:List (Option Nat):=[some 0,some 1,some 2,some 3,some 4,some 5,some 6,some 19]
def afQ:List (Option Nat):=[some 0,some 1,some 2,some 3,some 4,some 5,some 6,some 7,some 20,some 21]
theorem c51(k:Nat)(JL:D2 rt)(he:∀d∈iH rt,Ends es k d):cU ak 51 [P3,v78] (hL (lH1 cO cP b fl nx lf es rt)) 20 (.map (some 20)) (hL (lH2 cO cP b fl nx lf es rt (pX es rt k))) 21:=by
 have hc:=ML cO cP b fl nx lf es rt k JL he;generalize pX es rt k=ks at hc ⊢;refine fV (ns:=am0) (jF U U U U U) U U hc
theorem c54(ks zs:List (aa))(hl:ks.length<1000000)(wG:Yh es)(hn:∀x,0<=jN es x/\jN es x<1000000000)(hz:List.Perm zs ks)(hs:zs.Pairwise fun a b=>jN es a<jN es b):
  cU ak 54 [v81,v56] (hL (lH3 cO cP b fl nx lf es rt ks [])) 22 (G0 22 zs) (hL (lH3 cO cP b fl nx lf es rt ks (sg 22 zs))) (nK 22 zs):=by
 have hc:=VB cO cP b fl nx lf es rt ks zs hl wG hn hz hs;cases zs with
 |nil=>exact fV (ns:=afQ) (jF U U U U U) U U hc
 |cons z zs=>exact fV (ns:=afQ) (jF U U U U U) U U hc
theorem c23(bs:aa)(hk:zl rt)(hl:rt.length<1000000):cU ak 23 [P3] (hL (lHe cO cP b fl nx lf es rt bs)) 9 (G0 9 (iO (dJ rt))) (hL (lHe cO cP b fl nx lf es rt bs++Bb 9 (iO (dJ rt)))) (nK 9 (iO (dJ rt))):=by
 have hc:=G1 cO cP b fl nx lf es rt hk hl;generalize iO (dJ rt)=zs at hc ⊢
 match zs,hc with
 | [],hc=>exact fV (ns:=ns7) (jF U U U U U) U U hc
 | [x],hc=>exact fV (ns:=ns7) (jF U U U U U) U U hc
 |x::y::zs,hc=>exact fV (ns:=ns7) (jF U U U U U) U U hc
theorem am1:cU ak 23 [P3] (hL (eO (pS cO cP b fl nx lf es [])++[(7,.cells [P3])])) 8 eI (hL (eO (pS cO cP b fl nx lf es [])++[(7,.cells [P3])])) 8:=by
 have hc:=G1 cO cP b fl nx lf es [] (fun _ h=>by cases h) dU;rw[show iO (dJ [])=[]from Fs]at hc;exact fV (ns:=ns7) (jF U U U U U) U U hc
end
section
variable(b:aa)(nx lf:Int)(es rt:ae)
theorem c57(l:List ju)(iD:∀r∈l,r.ok)(lW:(cZ l).length<1000000000):
  cU ak 57 [P3] (hL (l3b b nx lf es rt (cZ l) (Int.ofNat (cZ l).length))) 9 (.ew []) (hL (l3r b lf es rt (cZ l) 9 [(8,.cells [P3])] (iP l).nx (iP l).es (iP l).rt)) 11:=by
 have hc:=MI (cZ l).length (cZ l).length (cZ l) (Int.ofNat (cZ l).length) nx lf es rt l [] (aA _) iD (by rw[aW,cu]) (by rw[aW];exact .inl rfl) (aA _) lW;generalize cZ l=bs at hc ⊢;generalize iP l=q at hc ⊢;obtain⟨I3,mK,mX⟩:=q;exact fV (ns:=alp) (jF U U U U U) U U hc
def afR:List (Option Nat):=[some 0,some 1,some 2,some 3,none,some 5,some 6]
theorem am2:cU ak 57 [P3] (hL (l3e b nx lf es)) 8 (.ew []) (hL (l3f b lf es 8 [(7,.cells [P3])])) 10:=by
 have hc:=GW 0 nx lf es [];exact fV (ns:=afR) (jF U U U U U) U U hc
end
section
variable(es rt:ae)(n:aa)
def zm(x:aa):ju:=match di (.str x) es with
 |some (.agg [.str d,.dO _ cs,_])=>.chunk d (dH cs)
 |_=>.chunk [] []
def rcV:aa:=match di (.str n) rt with
 |some (.str d)=>d
 |_=>[]
def Dq:ju:=.root n (rcV rt n)
def nN(zs:List (aa)):List ju:=zs.map (zm es)++(iO (dJ rt)).map (Dq rt)
end
theorem G3{es:ae}{x d:aa}{rs:List (aa)}{k:Int}(h:di (.str x) es=some (pW d rs k)):zm es x= .chunk d rs:=by
 unfold zm;rw[h];show ju.chunk d (dH (strs rs))=_;rw[ik]
theorem Ft{zs:List (aa)}{i:Nat}(h:i<zs.length):0+i*1<(strs zs).length/\((strs zs).getD (0+i*1) D.uz).iJ=V.str zs[i]:=by
 refine⟨by rw[eJ];omega,?_⟩;unfold strs;rw[bI,bk,aN,bt,ay h];rfl
theorem vy(l:List ju)(r:ju):cZ (l++[r])=cZ l++r.bytes:=by
 unfold cZ;rw[aX,cn,List.map_singleton,List.flatten_singleton]
theorem Lj(l m:List ju):cZ (l++m)=cZ l++cZ m:=by
 unfold cZ;rw[aX,cn]
theorem Av{l:List ju}(i:Nat):(cZ (l.take i)).length<=(cZ l).length:=by
 conv=>rhs;rw[tJ l i]
 rw[ax];omega
section
variable(cO cP:Nat)(b:aa)(fl nx lf:Int)(es rt:ae)
theorem VD(zs:List (aa))(hz:zs≠[])(Hj:zs.length<1000000)(hh:∀x∈zs,Ek es x/\(zm es x).ok)(lW:(cZ (zs.map (zm es))).length<1000000000){Q:Exit->St->Prop}
  (h:TG ak 7 Tryz.f19.ntmps (ee TO) (sHe cO cP b fl nx lf es rt (cZ (zs.map (zm es)))) Q):TG ak 7 Tryz.f19.ntmps TO (eF [(1,P 7),(3,.dj (some (8,0)) zs.length zs.length 1),(4,eI)] (hL (eO (pS cO cP b fl nx lf es rt)++[(7,.cells [P3]),(8,.deep (strs zs))])) 9) Q:=by
 refine cV U ?_;refine cV U ?_;refine fZ (XQ []) (amT cO cP b fl nx lf es rt zs) (dG ?_);refine⟨eU rfl,fun s' dL=>?_⟩;have hb:∀i,(hi:i<zs.length)->cZ ((zs.take (i+1)).map (zm es))=cZ ((zs.take i).map (zm es))++(zm es zs[i]).bytes:=fun i hi=>by
  rw[bJ,ay hi,cD,aX,List.map_singleton,vy]
 have kE:∀i,(cZ ((zs.take i).map (zm es))).length<1000000000:=fun i=>by
  have:=Av (l:=zs.map (zm es)) i;rw[cL];omega
 refine jq 0 zs.length (fun i=>if i=0 then aaY cO cP b fl nx lf es rt zs else sHk cO cP b fl nx lf es rt zs i (cZ ((zs.take i).map (zm es)))) U U (.norm dL) (fun i hi=>?_) ?_
 . obtain⟨⟨d,rs,k,he⟩,iD⟩:=hh zs[i] (bY hi);have hrc:=G3 he;have hg:=Ft hi;have yA:=hb i hi;have NR:=kE (i+1);rw[hrc]at iD yA;have Qb:d.length<=66000/\rs.length<=2000/\rs.flatten.length<=66000:=by
    obtain⟨h1,h2,h3⟩:=iD;have:=vr h3;omega
   have Oz:0<(gL d rs).length:=ow (r:=.chunk d rs);rw[aI (Nat.succ_ne_zero i)];by_cases h0:i=0
   . subst h0;rw[aG rfl];refine fZ XT (amU cO cP b fl nx lf es rt zs zs[0] d rs k) fun g ur hc=>?_;simp only[ik]at ur;rcases jk ur with rfl|rfl
     . refine⟨fm (⟨dU,dh⟩) (fm (by have:=hg.1;omega) (fm (by have:=hg.2;rwa [Nat.zero_mul,bI]at this) (fm (vx es he) (fm (vx es he) (fm (trivial) (fm (trivial) (fm be (fm be (fm be (fm (Oz) (eU (jn (by rw[yA,ax]at NR;have:(ju.chunk d rs).bytes.length=(gL d rs).length:=rfl;omega))))))))))))),fun s' dL=>?_⟩;rw[yA];exact .norm dL
     . exact absurd (aK (hc _ (aq.2 rfl))) dh
   . rw[aI h0];have K9:0<(cZ ((zs.take i).map (zm es))).length:=by
      obtain⟨j,rfl⟩:∃j,i=j+1:=⟨i-1,be⟩;rw[hb j be,ax];have:=ow (r:=zm es zs[j]);omega
     rw[yA,ax]at NR;rw[yA];generalize cZ ((zs.take i).map (zm es))=bs at NR K9 ⊢;refine fZ XT (amV cO cP b fl nx lf es rt zs i zs[i] d rs k bs) fun g ur hc=>?_;simp only[ik,gk]at ur;rcases jk ur with rfl|rfl
     . refine⟨fm (⟨az _,dh⟩) (fm (hg.1) (fm (hg.2) (fm (vx es he) (fm (vx es he) (fm (trivial) (fm (trivial) (fm be (fm be (fm be (fm (K9) (fm (trivial) (fm (jn (by have:(ju.chunk d rs).bytes.length=(gL d rs).length:=rfl;omega)) (eU (fE dh be)))))))))))))),fun s' dL=>?_⟩;unfold sHk;rw[ax];exact .norm dL
     . exact absurd (aK (hc _ (aq.2 rfl))) dh
 . have YO:zs.length≠0:=fun e=>hz (cH.1 e);simp only[aI YO,aW];refine fZ XT (amW cO cP b fl nx lf es rt zs zs.length (cZ (zs.map (zm es)))) fun g ur hc=>?_;rw[aq]at ur;subst ur;refine⟨eU (aM V.bool (bD be)),fun s' dL=>⟨by simp,?_⟩⟩;exact c5 dL h
theorem MN(ws:List (aa))(bs:aa)(Hj:ws.length<1000000)(hh:∀x∈ws,(∃d,di (.str x) rt=some (.str d))/\(Dq rt x).ok)(Hl:0<bs.length)(lW:bs.length+(cZ (ws.map (Dq rt))).length<1000000000){s:St}{Q:Exit->St->Prop}
  (hs:gC ak 7 Tryz.f19.ntmps s (sHr cO cP b fl nx lf es rt ws 0 bs)) (h:TG ak 7 Tryz.f19.ntmps (ee G2) (sHe cO cP b fl nx lf es rt (bs++cZ (ws.map (Dq rt)))) Q):TG ak 7 Tryz.f19.ntmps (ee (dK G2)) s (andThen (fun s'=>TG ak 7 Tryz.f19.ntmps (ee G2) s' Q) Q):=by
 have hb:∀i,(hi:i<ws.length)->cZ ((ws.take (i+1)).map (Dq rt))=cZ ((ws.take i).map (Dq rt))++(Dq rt ws[i]).bytes:=fun i hi=>by
  rw[bJ,ay hi,cD,aX,List.map_singleton,vy]
 have kE:∀i,(cZ ((ws.take i).map (Dq rt))).length<=(cZ (ws.map (Dq rt))).length:=fun i=>by
  have:=Av (l:=ws.map (Dq rt)) i;rw[cL];omega
 refine jq 2 ws.length (fun i=>sHr cO cP b fl nx lf es rt ws i (bs++cZ ((ws.take i).map (Dq rt)))) U U (by
  show gC ak 7 Tryz.f19.ntmps s (sHr cO cP b fl nx lf es rt ws 0 (bs++[]));rw[cu];exact hs) (fun i hi=>?_) ?_
 . obtain⟨⟨d,hd⟩,iD⟩:=hh ws[i] (bY hi);have hg:=Ft hi;have yA:=hb i hi;have NR:=kE (i+1);have hrc:Dq rt ws[i]= .root ws[i] d:=by unfold Dq rcV;rw[hd]
   rw[hrc]at iD yA;have Qb:ws[i].length<=1000/\d.length<=1000:=iD;rw[yA,ax]at NR;show TG _ _ _ _ _ (andThen (fun s'=>gC ak 7 Tryz.f19.ntmps s' (sHr cO cP b fl nx lf es rt ws (i+1) (bs++cZ ((ws.take (i+1)).map (Dq rt))))) _);rw[yA,<- bB];have K9:0<(bs++cZ ((ws.take i).map (Dq rt))).length:=by rw[ax];omega
   have hbj:(bs++cZ ((ws.take i).map (Dq rt))).length+(ju.root ws[i] d).bytes.length<1000000000:=by rw[ax];omega
   generalize bs++cZ ((ws.take i).map (Dq rt))=ys at K9 hbj ⊢;refine fZ XT (amZ cO cP b fl nx lf es rt ws i ws[i] d ys) fun g ur hc=>?_;simp only[gk]at ur;rcases jk ur with rfl|rfl
   . refine⟨fm (⟨az _,dh⟩) (fm (hg.1) (fm (hg.2) (fm (by rw[hd];rfl) (fm be (fm be (fm (K9) (fm (trivial) (fm (jn (by have:(ju.root ws[i] d).bytes.length=(kK ws[i] d).length:=rfl;omega)) (eU (fE dh be)))))))))),fun s' dL=>?_⟩;unfold sHr;rw[ax];exact .norm dL
   . exact absurd (aK (hc _ (aq.2 rfl))) dh
 . simp only[aW];refine fZ XT (afK cO cP b fl nx lf es rt ws ws.length (bs++cZ (ws.map (Dq rt)))) fun g ur hc=>?_;rw[aq]at ur;subst ur;refine⟨eU (aM V.bool (bD be)),fun s' dL=>⟨by simp,?_⟩⟩;exact c5 dL h
theorem VE(k:Nat)(zs:List (aa))(JL:D2 rt)(he:∀d∈iH rt,Ends es k d)(hl:(pX es rt k).length<1000000)(wG:Yh es)(hn:∀x,0<=jN es x/\jN es x<1000000000)(hz:List.Perm zs (pX es rt k))(hs:zs.Pairwise fun a b=>jN es a<jN es b)
  (hzo:∀x∈zs,Ek es x/\(zm es x).ok) (A4:∀n∈iO (dJ rt),(∃d,di (.str n) rt=some (.str d))/\(Dq rt n).ok) (wZ:rt.length<1000000) (lW:(cZ (nN es rt zs)).length<1000000000) (h0:zs≠[]) (h1:rt≠[]):
  cU ak 19 [P3] (eu (pS cO cP b fl nx lf es rt)) 7 (.int .i64 0) (hL (l3r b lf es rt (cZ (nN es rt zs)) 8 [] (iP (nN es rt zs)).nx (iP (nN es rt zs)).es (iP (nN es rt zs)).rt)) 10:=by
 refine c7 Tryz.func19 (code:=Ol) U U ?_;have Hj:zs.length<1000000:=by rw[hz.length_eq];exact hl
 have R3:=c51 cO cP b fl nx lf es rt k JL he;have OG:=c54 cO cP b fl nx lf es rt (pX es rt k) zs hl wG hn hz hs;have Xn:G0 22 zs= .dj (some (22,0)) zs.length zs.length 1/\sg 22 zs=[(22,.deep (strs zs))]/\nK 22 zs=23:=by
  cases zs with
  |nil=>exact absurd rfl h0
  |cons z zs=>exact⟨rfl,rfl,rfl⟩
 rw[Xn.1,Xn.2.1,Xn.2.2]at OG;generalize pX es rt k=ks at R3 OG;refine iL  4 (((XQ []).jy (au U) R3).jy (au U) OG) (amQ cO cP b fl nx lf es rt ks zs.length (strs zs)) (fm ⟨rfl,rfl,rfl⟩ (eU ⟨rfl,rfl,rfl⟩)) ?_;have e2:cZ (nN es rt zs)=cZ (zs.map (zm es))++cZ ((iO (dJ rt)).map (Dq rt)):=Lj _ _;have HL:=lW;rw[e2,ax]at HL;refine VD cO cP b fl nx lf es rt zs h0 Hj hzo be ?_;show TG ak 7 Tryz.f19.ntmps G2 _ _;refine cV U ?_;refine cV U ?_;have Hl:0<(cZ (zs.map (zm es))).length:=by
  cases zs with
  |nil=>exact absurd rfl h0
  |cons z zs=>
   rw[bN,show cZ (zm es z::zs.map (zm es))=(zm es z).bytes++cZ (zs.map (zm es))from rfl,ax];have:=ow (r:=zm es z);omega
 have J9:zl rt:=fun e h=>by obtain⟨n,d,rfl⟩:=JL e h;exact⟨n,rfl⟩
 have afT:=c23 cO cP b fl nx lf es rt (cZ (zs.map (zm es))) J9 wZ;have ue:(iO (dJ rt)).length=rt.length:=by rw[su,xU]
 have rE:TG ak 7 Tryz.f19.ntmps (ee G2) (sHe cO cP b fl nx lf es rt (cZ (zs.map (zm es))++cZ ((iO (dJ rt)).map (Dq rt)))) (fG ak 7 Tryz.f19 fun v h n=>v= .int .i64 0/\h=hL (l3r b lf es rt (cZ (nN es rt zs)) 8 [] (iP (nN es rt zs)).nx (iP (nN es rt zs)).es (iP (nN es rt zs)).rt)/\n=10):=by
  rw[<- e2];refine iL  3 XT (afL cO cP b fl nx lf es rt (cZ (nN es rt zs))) cR ?_;refine fB (XT.jy (au U) (c57 b nx lf es rt (nN es rt zs) (fun r hr=>?_) lW)) (afO b nx lf es rt (cZ (nN es rt zs)) (iP (nN es rt zs)).nx (iP (nN es rt zs)).es (iP (nN es rt zs)).rt) fun g hg _=>?_
  . rcases aT.1 hr with h|h
    . obtain⟨x,hx,rfl⟩:=bj.1 h;exact(hzo x hx).2
    . obtain⟨x,hx,rfl⟩:=bj.1 h;exact(A4 x hx).2
  . rw[aq]at hg;subst hg;exact⟨eU ⟨rfl,rfl,rfl⟩,_,_,_,rfl,rfl,rfl,rfl⟩
 generalize iO (dJ rt)=ws at *
 match ws,ue with
 | [],ue=>exact absurd (cH.1 ue.symm) h1
 | [x],ue=>
   refine fZ (XT.jy (au U) afT) (afJ cO cP b fl nx lf es rt x (cZ (zs.map (zm es)))) (dG ?_);refine⟨fm ⟨rfl,rfl,rfl⟩ (eU rfl),fun s' dL=>?_⟩;exact MN cO cP b fl nx lf es rt [x] _ (by rw[ue];exact wZ) A4 Hl be ((gC.norm dL).trans (.deep [9] U)) rE
 |x::y::ws,ue=>
  refine fZ (XT.jy (au U) afT) (amY cO cP b fl nx lf es rt (x::y::ws) (cZ (zs.map (zm es)))) (dG ?_);refine⟨fm ⟨rfl,rfl,rfl⟩ (eU rfl),fun s' dL=>?_⟩;exact MN cO cP b fl nx lf es rt (x::y::ws) _ (by rw[ue];exact wZ) A4 Hl be (.norm dL) rE
theorem VF(wG:Yh es)(hn:∀x,0<=jN es x/\jN es x<1000000000):cU ak 19 [P3] (eu (pS cO cP b fl nx lf es [])) 7 (.int .i64 0) (hL (l3f b lf es 7 [])) 9:=by
 refine c7 Tryz.func19 (code:=Ol) U U ?_;have R3:=c51 cO cP b fl nx lf es [] 0 (fun _ h=>by cases h) (fun _ h=>by cases h);have OG:=c54 cO cP b fl nx lf es [] (pX es [] 0) [] (au rfl) wG hn .nil .nil;rw[show pX es [] 0=[]from rfl]at R3 OG;refine iL  4 (((XQ []).jy (au U) R3).jy (au U) OG) (amR cO cP b fl nx lf es [] []) (fm ⟨rfl,rfl,rfl⟩ (eU ⟨rfl,rfl,rfl⟩)) ?_;show TG ak 7 Tryz.f19.ntmps TO _ _;refine cV U ?_;refine fZ (XQ []) (amX cO cP b fl nx lf es []) (dG ?_);refine⟨cR,fun s' dL=>c5 dL ?_⟩;show TG ak 7 Tryz.f19.ntmps G2 _ _;refine cV U ?_;refine fZ (XT.jy (au U) (am1 cO cP b fl nx lf es)) (afM cO cP b fl nx lf es) (dG ?_);refine⟨eU ⟨rfl,rfl,rfl⟩,fun s' dL=>c5 dL ?_⟩;refine iL  3 XT (afN cO cP b fl nx lf es) cR ?_;refine fB (XT.jy (au U) (am2 b nx lf es)) (afP b nx lf es) (dG ?_);exact⟨eU ⟨rfl,rfl,rfl⟩,_,_,_,rfl,rfl,rfl,rfl⟩
end
section
variable(fl nx lf:Int)
def VG:af:=eO (pN fl nx lf [] [])++[(7,.cells [.map (some 6)])]
def lVN:af:=VG fl nx lf++[(8,.cells [.map (some 9)]),(9,.dF none []),(10,.cells [.fn (.func 77) [] [P8,P11,OA]]),(11,.cells [P3])]
def VH:St:=eF [(5,P8),(6,OA),(10,f78)] (hL (lVN fl nx lf)) 12
noncomputable def am3:af:=lVN fl nx lf++[(12,.my),(13,.loop true none (VH fl nx lf).fr [11] aap aaq)]
noncomputable def I4:Tr O:=hL (am3 fl nx lf)
noncomputable def VI:St:=eF [(0,.fn (.yield 13) [] []),(6,.ptr (some (14,0)))] ((I4 fl nx lf).set 6 none) 15
def afU:Tr O:=hL (VG fl nx lf++[(8,.dF none [])])
end
section
variable(fl nx lf:Int)
theorem am4:c6 lX [] 8 Tryz.f51 [1,5,6] (eR 4 Rj) (cS [P3,f78] (hL (VG fl nx lf)) 8) [([],
   [],
   .to .normal (eF [(1,.fn (.func 78) [] [.ptr (some (7,0))]),(5,.ptr (some (8,0))),(6,.ptr (some (10,0)))] (hL [(0,.ints .u32 gS),(1,.ints .u32 gR),(3,.cells [.dj none 0 0 0,.int .i64 ((pN fl nx lf [] []).fl),.map (some 5),.map (some 6),.int .i64 ((pN fl nx lf [] []).nx),.bool false,.bool false,.int .i64 ((pN fl nx lf [] []).lf)]),(5,.dF none []),(6,.dF none []),(7,.cells [.map (some 6)]),(8,.cells [.map (some 9)]),(9,.map [] 0),(10,.cells [.fn (.func 77) [] [.ptr (some (8,0)),.ptr (some (11,0)),.ptr (some (10,0))]]),(11,.cells [.ptr (some (3,0))])]) 12))]
 :=cQ.of U U U
theorem am5:c6 lX [] 8 Tryz.f51 [5,6,10] (dK (dK GI)) (eF [(1,f78),(5,P8),(6,OA)] (hL (lVN fl nx lf)) 12) [([],
   [],
   .to .normal (VH fl nx lf))]
 :=cQ.of U U U
theorem am6:vt ak lX [] 1000 8 Tryz.f51 (ee GI) (tD (VH fl nx lf) (I4 fl nx lf) 14)
  [([],
   [],
   .ret (.map (some 8)) (afU fl nx lf) 9)]
 :=⟨U,U,U⟩
end
section
variable(cO cP:Nat)(b:aa)(fl nx lf:Int)(es rt:ae)
theorem am7:51<Tryz.prog.funcs.size:=au U
theorem VJ(k:Nat)(d:aa)(JL:D2 rt)(he:∀x∈iH rt,Ends es k x):cU ak 17 [P3,.str d] (eu (pS cO cP b fl nx lf es rt)) 7 (.bool (decide (d∈pX es rt k))) (eu (pS cO cP b fl nx lf es rt)) 7:=by
 refine c7 Tryz.func17 (code:=afy) U U ?_;have hc:=ML cO cP b fl nx lf es rt k JL he;refine fB (uq.jy am7 hc) (amh cO cP b fl nx lf es rt (nM (pX es rt k)) d (decide (d∈pX es rt k))) (dG ?_);refine⟨fm ⟨rfl,rfl,rfl⟩ (eU ?_),_,_,_,rfl,rfl,rfl,rfl⟩;by_cases h:d∈pX es rt k
 . rw[bM h];exact Fp h
 . rw[bD h];exact Dl h
end
section
variable(fl nx lf:Int)
theorem VK:cU ak 78 [.fn (.yield 13) [] [],.ptr (some (7,0))] (I4 fl nx lf) 14 (.ew []) (I4 fl nx lf) 14:=by
 refine fQ.is (gG mo po Tryz.func78 (code:=GJ) U U ?_);rw[aeE];refine y9 (v0:=.map (some 6)) (ko:=(cS [.fn (.yield 13) [] [],.ptr (some (7,0))] (I4 fl nx lf) 14).fr.set 5 (some (.map (some 6)))) (zO:=((cS [.fn (.yield 13) [] [],.ptr (some (7,0))] (I4 fl nx lf) 14).fr.set 5 (some (.map (some 6)))).set 6 (some (.ptr (some (14,0))))) (m:=6) (kd:=none) (es:=[]) mo Mu
  U U U U (au rfl) U (fun _ s1=>e9 15 [0,6] s1=some (VI fl nx lf)) U ?_
 rintro iB left s1 hs hp;have hz:iB=[]/\left=[]:=List.append_eq_nil_iff.1 hp.eq_nil;obtain⟨rfl,rfl⟩:=hz;refine⟨[0,6],_,hs,U,fun _=>?_,fun e ku he2=>?_⟩
 . exact⟨(VI fl nx lf).fr.set 7 (some (.ew [.bool false])),{ VI fl nx lf with fr:=((VI fl nx lf).fr.set 7 (some (.ew [.bool false]))).set 8 (some (.bool false)) },U,U,U,.inl rfl,.ew [],I4 fl nx lf,14,U,rfl,rfl,rfl⟩
 . have:=he2.length_eq;simp at this
theorem VL:cU ak 51 [P3,f78] (hL (VG fl nx lf)) 8 (.map (some 8)) (afU fl nx lf) 9:=by
 refine c7 Tryz.func51 (code:=Rj) U U ?_;refine iL  4 uq (am4 fl nx lf) cR ?_;refine Ak [(9,none)] (s2:=eF [(1,f78),(5,P8),(6,OA)] (hL (lVN fl nx lf)) 12) U ?_;show TG ak 8 Tryz.f51.ntmps GI _ _;refine cV U ?_;refine cV U ?_;refine fZ uq (am5 fl nx lf) (dG ?_);refine⟨cR,fun s' dL=>c5 dL ?_⟩;refine fg (i:=0) U ?_;refine ou (gf:=78) (lb:=[.ptr (some (7,0))]) U U U U U (VK fl nx lf).one ?_;rintro v h n ⟨rfl,rfl,rfl⟩;refine⟨U,?_⟩;show TG ak 8 Tryz.f51.ntmps (ee GI) (tD (VH fl nx lf) (I4 fl nx lf) 14) _;refine rF uq mo _ U (am6 fl nx lf) (dG ?_);exact⟨cR,_,_,_,rfl,rfl,rfl,rfl⟩
end
noncomputable abbrev OH:Code:=dP Tryz.f145
noncomputable abbrev aa0:Code:=de 2 OH
noncomputable abbrev afV:Code:=dw (dw (ee (dK aa0)))
def aR:V:=.agg (gR.map (V.int .u32 ·))
theorem am8(x:Int):c6 TN [] 3 Tryz.f144 [] (dP Tryz.f144) (cS [.int .u64 x,.int .i64 8] .nil 3) [([],
   [((0:Int)<=(8:Int)/\(8:Int)<=(8:Int)/\(8:Int)<=(281474976710656:Int)),((0:Int)<=(7:Int)/\(7:Int)<(8:Int)),(8<=8),((0:Int)<=(6:Int)/\(6:Int)<(8:Int)),(7<=(fO (ud [(0:Int)] 8) 7 [IntKind.u8.wrap x]).length),((0:Int)<=(5:Int)/\(5:Int)<(8:Int)),(6<=(fO (fO (ud [(0:Int)] 8) 7 [IntKind.u8.wrap x]) 6 [IntKind.u8.wrap (x.fdiv (256:Int))]).length),((0:Int)<=(4:Int)/\(4:Int)<(8:Int)),(5<=(fO (fO (fO (ud [(0:Int)] 8) 7 [IntKind.u8.wrap x]) 6 [IntKind.u8.wrap (x.fdiv (256:Int))]) 5 [IntKind.u8.wrap ((x.fdiv (256:Int)).fdiv (256:Int))]).length),((0:Int)<=(3:Int)/\(3:Int)<(8:Int)),(4<=(fO (fO (fO (fO (ud [(0:Int)] 8) 7 [IntKind.u8.wrap x]) 6 [IntKind.u8.wrap (x.fdiv (256:Int))]) 5 [IntKind.u8.wrap ((x.fdiv (256:Int)).fdiv (256:Int))]) 4 [IntKind.u8.wrap (((x.fdiv (256:Int)).fdiv (256:Int)).fdiv (256:Int))]).length),((0:Int)<=(2:Int)/\(2:Int)<(8:Int)),(3<=(fO (fO (fO (fO (fO (ud [(0:Int)] 8) 7 [IntKind.u8.wrap x]) 6 [IntKind.u8.wrap (x.fdiv (256:Int))]) 5 [IntKind.u8.wrap ((x.fdiv (256:Int)).fdiv (256:Int))]) 4 [IntKind.u8.wrap (((x.fdiv (256:Int)).fdiv (256:Int)).fdiv (256:Int))]) 3 [IntKind.u8.wrap ((((x.fdiv (256:Int)).fdiv (256:Int)).fdiv (256:Int)).fdiv (256:Int))]).length),((0:Int)<=(1:Int)/\(1:Int)<(8:Int)),(2<=(fO (fO (fO (fO (fO (fO (ud [(0:Int)] 8) 7 [IntKind.u8.wrap x]) 6 [IntKind.u8.wrap (x.fdiv (256:Int))]) 5 [IntKind.u8.wrap ((x.fdiv (256:Int)).fdiv (256:Int))]) 4 [IntKind.u8.wrap (((x.fdiv (256:Int)).fdiv (256:Int)).fdiv (256:Int))]) 3 [IntKind.u8.wrap ((((x.fdiv (256:Int)).fdiv (256:Int)).fdiv (256:Int)).fdiv (256:Int))]) 2 [IntKind.u8.wrap (((((x.fdiv (256:Int)).fdiv (256:Int)).fdiv (256:Int)).fdiv (256:Int)).fdiv (256:Int))]).length),((0:Int)<=(0:Int)/\(0:Int)<(8:Int)),(1<=(fO (fO (fO (fO (fO (fO (fO (ud [(0:Int)] 8) 7 [IntKind.u8.wrap x]) 6 [IntKind.u8.wrap (x.fdiv (256:Int))]) 5 [IntKind.u8.wrap ((x.fdiv (256:Int)).fdiv (256:Int))]) 4 [IntKind.u8.wrap (((x.fdiv (256:Int)).fdiv (256:Int)).fdiv (256:Int))]) 3 [IntKind.u8.wrap ((((x.fdiv (256:Int)).fdiv (256:Int)).fdiv (256:Int)).fdiv (256:Int))]) 2 [IntKind.u8.wrap (((((x.fdiv (256:Int)).fdiv (256:Int)).fdiv (256:Int)).fdiv (256:Int)).fdiv (256:Int))]) 1 [IntKind.u8.wrap ((((((x.fdiv (256:Int)).fdiv (256:Int)).fdiv (256:Int)).fdiv (256:Int)).fdiv (256:Int)).fdiv (256:Int))]).length),(8<=(fO (fO (fO (fO (fO (fO (fO (fO (ud [(0:Int)] 8) 7 [IntKind.u8.wrap x]) 6 [IntKind.u8.wrap (x.fdiv (256:Int))]) 5 [IntKind.u8.wrap ((x.fdiv (256:Int)).fdiv (256:Int))]) 4 [IntKind.u8.wrap (((x.fdiv (256:Int)).fdiv (256:Int)).fdiv (256:Int))]) 3 [IntKind.u8.wrap ((((x.fdiv (256:Int)).fdiv (256:Int)).fdiv (256:Int)).fdiv (256:Int))]) 2 [IntKind.u8.wrap (((((x.fdiv (256:Int)).fdiv (256:Int)).fdiv (256:Int)).fdiv (256:Int)).fdiv (256:Int))]) 1 [IntKind.u8.wrap ((((((x.fdiv (256:Int)).fdiv (256:Int)).fdiv (256:Int)).fdiv (256:Int)).fdiv (256:Int)).fdiv (256:Int))]) 0 [IntKind.u8.wrap (((((((x.fdiv (256:Int)).fdiv (256:Int)).fdiv (256:Int)).fdiv (256:Int)).fdiv (256:Int)).fdiv (256:Int)).fdiv (256:Int))]).length)],
   .ret (.str (eN (List.take 8 (List.drop 0 (fO (fO (fO (fO (fO (fO (fO (fO (ud [(0:Int)] 8) 7 [IntKind.u8.wrap x]) 6 [IntKind.u8.wrap (x.fdiv (256:Int))]) 5 [IntKind.u8.wrap ((x.fdiv (256:Int)).fdiv (256:Int))]) 4 [IntKind.u8.wrap (((x.fdiv (256:Int)).fdiv (256:Int)).fdiv (256:Int))]) 3 [IntKind.u8.wrap ((((x.fdiv (256:Int)).fdiv (256:Int)).fdiv (256:Int)).fdiv (256:Int))]) 2 [IntKind.u8.wrap (((((x.fdiv (256:Int)).fdiv (256:Int)).fdiv (256:Int)).fdiv (256:Int)).fdiv (256:Int))]) 1 [IntKind.u8.wrap ((((((x.fdiv (256:Int)).fdiv (256:Int)).fdiv (256:Int)).fdiv (256:Int)).fdiv (256:Int)).fdiv (256:Int))]) 0 [IntKind.u8.wrap (((((((x.fdiv (256:Int)).fdiv (256:Int)).fdiv (256:Int)).fdiv (256:Int)).fdiv (256:Int)).fdiv (256:Int)).fdiv (256:Int))]))))) (hL []) 3)]
 :=cQ.of U U U
theorem am9(x:Int):c6 TN [] 3 Tryz.f144 [] (dP Tryz.f144) (cS [.int .u64 x,.int .i64 4] .nil 3) [([],
   [((0:Int)<=(4:Int)/\(4:Int)<=(4:Int)/\(4:Int)<=(281474976710656:Int)),((0:Int)<=(3:Int)/\(3:Int)<(4:Int)),(4<=4),((0:Int)<=(2:Int)/\(2:Int)<(4:Int)),(3<=(fO (ud [(0:Int)] 4) 3 [IntKind.u8.wrap x]).length),((0:Int)<=(1:Int)/\(1:Int)<(4:Int)),(2<=(fO (fO (ud [(0:Int)] 4) 3 [IntKind.u8.wrap x]) 2 [IntKind.u8.wrap (x.fdiv (256:Int))]).length),((0:Int)<=(0:Int)/\(0:Int)<(4:Int)),(1<=(fO (fO (fO (ud [(0:Int)] 4) 3 [IntKind.u8.wrap x]) 2 [IntKind.u8.wrap (x.fdiv (256:Int))]) 1 [IntKind.u8.wrap ((x.fdiv (256:Int)).fdiv (256:Int))]).length),(4<=(fO (fO (fO (fO (ud [(0:Int)] 4) 3 [IntKind.u8.wrap x]) 2 [IntKind.u8.wrap (x.fdiv (256:Int))]) 1 [IntKind.u8.wrap ((x.fdiv (256:Int)).fdiv (256:Int))]) 0 [IntKind.u8.wrap (((x.fdiv (256:Int)).fdiv (256:Int)).fdiv (256:Int))]).length)],
   .ret (.str (eN (List.take 4 (List.drop 0 (fO (fO (fO (fO (ud [(0:Int)] 4) 3 [IntKind.u8.wrap x]) 2 [IntKind.u8.wrap (x.fdiv (256:Int))]) 1 [IntKind.u8.wrap ((x.fdiv (256:Int)).fdiv (256:Int))]) 0 [IntKind.u8.wrap (((x.fdiv (256:Int)).fdiv (256:Int)).fdiv (256:Int))]))))) (hL []) 3)]
 :=cQ.of U U U
theorem ana(b:aa)(q:E8):c6 TN [] 3 Tryz.f145 [1,3,5,6,7] (eR 2 OH) (cS [.agg (c8 q),.str b,aR] .nil 3) [([],
   [],
   .to .normal (eF [(1,.str b),(3,.ptr (some (3,0))),(5,.ptr (some (4,0))),(6,.ptr (some (5,0))),(7,.ptr (some (6,0)))] (hL [(3,.cells [.int .u32 (q.1),.int .u32 (q.2.1),.int .u32 (q.2.2.1),.int .u32 (q.2.2.2.1),.int .u32 (q.2.2.2.2.1),.int .u32 (q.2.2.2.2.2.1),.int .u32 (q.2.2.2.2.2.2.1),.int .u32 (q.2.2.2.2.2.2.2)]),(4,.cells [.int .u32 1116352408,.int .u32 1899447441,.int .u32 3049323471,.int .u32 3921009573,.int .u32 961987163,.int .u32 1508970993,.int .u32 2453635748,.int .u32 2870763221,.int .u32 3624381080,.int .u32 310598401,.int .u32 607225278,.int .u32 1426881987,.int .u32 1925078388,.int .u32 2162078206,.int .u32 2614888103,.int .u32 3248222580,.int .u32 3835390401,.int .u32 4022224774,.int .u32 264347078,.int .u32 604807628,.int .u32 770255983,.int .u32 1249150122,.int .u32 1555081692,.int .u32 1996064986,.int .u32 2554220882,.int .u32 2821834349,.int .u32 2952996808,.int .u32 3210313671,.int .u32 3336571891,.int .u32 3584528711,.int .u32 113926993,.int .u32 338241895,.int .u32 666307205,.int .u32 773529912,.int .u32 1294757372,.int .u32 1396182291,.int .u32 1695183700,.int .u32 1986661051,.int .u32 2177026350,.int .u32 2456956037,.int .u32 2730485921,.int .u32 2820302411,.int .u32 3259730800,.int .u32 3345764771,.int .u32 3516065817,.int .u32 3600352804,.int .u32 4094571909,.int .u32 275423344,.int .u32 430227734,.int .u32 506948616,.int .u32 659060556,.int .u32 883997877,.int .u32 958139571,.int .u32 1322822218,.int .u32 1537002063,.int .u32 1747873779,.int .u32 1955562222,.int .u32 2024104815,.int .u32 2227730452,.int .u32 2361852424,.int .u32 2428436474,.int .u32 2756734187,.int .u32 3204031479,.int .u32 3329325298]),(5,.cells [.int .u32 0,.int .u32 0,.int .u32 0,.int .u32 0,.int .u32 0,.int .u32 0,.int .u32 0,.int .u32 0]),(6,.cells [.int .u32 0,.int .u32 0,.int .u32 0,.int .u32 0,.int .u32 0,.int .u32 0,.int .u32 0,.int .u32 0,.int .u32 0,.int .u32 0,.int .u32 0,.int .u32 0,.int .u32 0,.int .u32 0,.int .u32 0,.int .u32 0,.int .u32 0,.int .u32 0,.int .u32 0,.int .u32 0,.int .u32 0,.int .u32 0,.int .u32 0,.int .u32 0,.int .u32 0,.int .u32 0,.int .u32 0,.int .u32 0,.int .u32 0,.int .u32 0,.int .u32 0,.int .u32 0,.int .u32 0,.int .u32 0,.int .u32 0,.int .u32 0,.int .u32 0,.int .u32 0,.int .u32 0,.int .u32 0,.int .u32 0,.int .u32 0,.int .u32 0,.int .u32 0,.int .u32 0,.int .u32 0,.int .u32 0,.int .u32 0,.int .u32 0,.int .u32 0,.int .u32 0,.int .u32 0,.int .u32 0,.int .u32 0,.int .u32 0,.int .u32 0,.int .u32 0,.int .u32 0,.int .u32 0,.int .u32 0,.int .u32 0,.int .u32 0,.int .u32 0,.int .u32 0])]) 7))]
 :=cQ.of U U U
section
variable(b:aa)(q:E8)(ws:List Int)(i:Nat)
def mVc:af:=[(3,.cells (c8 q)),(4,.own .u32 gR),(5,.cells (c8 (0,0,0,0,0,0,0,0))),(6,.own .u32 ws)]
def R4:St:=eF [(1,.str b),(3,.ptr (some (3,0))),(5,.ptr (some (4,0))),(6,.ptr (some (5,0))),(7,.ptr (some (6,0))),(8,iW i)] (hL (mVc q ws)) 7
end
section
variable(b:aa)(e a x:Int)(q:E8)(i:Nat)(ws:List Int)
theorem ane:c6 TN [] 3 Tryz.f145 [1,3,5,6,7,8] (dK (dK aa0)) (eF [(1,.str b),(3,.ptr (some (3,0))),(5,.ptr (some (4,0))),(6,.ptr (some (5,0))),(7,.ptr (some (6,0)))] (hL (mVc q ws)) 7) [([],
   [],
   .to .normal (R4 b q ws 0))]
 :=cQ.of U U U
def Ds(m d x:Int):Int:=JK (x.fdiv d) (w32 (x*m))
def aa1:Int:=nv (nv (Ds 33554432 128 x) (Ds 16384 262144 x)) (x.fdiv 8)
def aa2:Int:=nv (nv (Ds 32768 131072 x) (Ds 8192 524288 x)) (x.fdiv 1024)
def MO(i:Nat):Int:=w32 (w32 (w32 (gW ws (i-16)+aa1 (gW ws (i-15)))+gW ws (i-7))+aa2 (gW ws (i-2)))
def MP:Int:=w32 (w32 (w32 (w32 (Uz b (i*4)*16777216)+w32 (Uz b (i*4+1)*65536))+w32 (Uz b (i*4+2)*256))+Uz b (i*4+3))
def aa3:Int:=nv (nv (Ds 67108864 64 e) (Ds 2097152 2048 e)) (Ds 128 33554432 e)
def aa4:Int:=nv (nv (Ds 1073741824 4 a) (Ds 524288 8192 a)) (Ds 1024 4194304 a)
def chR(f g:Int):Int:=JK (Ap e f) (Ap (w32 (4294967295-e)) g)
def maR(b c:Int):Int:=JK (JK (Ap a b) (Ap a c)) (Ap b c)
def rdR(rd ws:List Int)(i:Nat):E8->Int
 |(_,_,_,_,e,f,g,h)=>w32 (w32 (w32 (w32 (h+aa3 e)+chR e f g)+gW rd i)+gW ws i)
def aa5(rd ws:List Int)(i:Nat):E8->E8
 |(a,b,c,d,e,f,g,h)=>(w32 (w32 (rdR rd ws i (a,b,c,d,e,f,g,h)+aa4 a)+maR a b c),a,b,c,w32 (d+rdR rd ws i (a,b,c,d,e,f,g,h)),e,f,g)
abbrev G4:Prop:=V.int aj (IntKind.i64.wrap ((4:Int)*Int.ofNat i))=iW (i*4)
theorem afW(i:Nat):c6 TN [(20,.split),(24,.dc (.bool true)),(28,.dc (iW (i*4))),(34,.dc (iW (i*4))),(35,.dc (iW (i*4+1))),(42,.dc (iW (i*4))),(43,.dc (iW (i*4+2))),(50,.dc (iW (i*4))),(51,.dc (iW (i*4+3))),(22,.dc (iW (i+1)))] 3 Tryz.f145 [1,3,5,6,7,8] (afV) (R4 b q ws i) [([((decide (Int.ofNat i<(64:Int))),true)],
   [(V.bool (decide (Int.ofNat i<(16:Int)))=V.bool true),G4 i,((0:Int)<=Int.ofNat (i*4)/\(i*4)<b.length),G4 i,(V.int aj (IntKind.i64.wrap (Int.ofNat (i*4)+(1:Int)))=iW (i*4+1)),((0:Int)<=Int.ofNat (i*4+1)/\(i*4+1)<b.length),G4 i,(V.int aj (IntKind.i64.wrap (Int.ofNat (i*4)+(2:Int)))=iW (i*4+2)),((0:Int)<=Int.ofNat (i*4+2)/\(i*4+2)<b.length),G4 i,(V.int aj (IntKind.i64.wrap (Int.ofNat (i*4)+(3:Int)))=iW (i*4+3)),((0:Int)<=Int.ofNat (i*4+3)/\(i*4+3)<b.length),((0:Int)<=Int.ofNat i/\Int.ofNat i<(64:Int)),(0+i*1+1<=ws.length),(V.int aj (IntKind.i64.wrap (Int.ofNat i+(1:Int)))=iW (i+1))],
   .to .normal (R4 b q (fO ws (0+i*1) [MP b i]) (i+1))),
  ([((decide (Int.ofNat i<(64:Int))),false)],
   [],
   .to (.exit 0) (R4 b q ws i))]
 :=cQ.of U U U
abbrev Ll:Prop:=V.int aj (IntKind.i64.wrap (Int.ofNat i-(15:Int)))=iW (i-15)
abbrev Lm:Prop:=V.int aj (IntKind.i64.wrap (Int.ofNat i-(2:Int)))=iW (i-2)
theorem anh(i:Nat):c6 TN [(20,.split),(24,.dc (.bool false)),(57,.dc (iW (i-15))),(62,.dc (iW (i-15))),(68,.dc (iW (i-15))),(74,.dc (iW (i-2))),(79,.dc (iW (i-2))),(85,.dc (iW (i-2))),(92,.dc (iW (i-16))),(98,.dc (iW (i-7))),(22,.dc (iW (i+1)))] 3 Tryz.f145 [1,3,5,6,7,8] (afV) (R4 b q ws i) [([((decide (Int.ofNat i<(64:Int))),true)],
   [(V.bool (decide (Int.ofNat i<(16:Int)))=V.bool false),Ll i,((0:Int)<=Int.ofNat (i-15)/\Int.ofNat (i-15)<(64:Int)),(0+(i-15)*1<ws.length),Ll i,((0:Int)<=Int.ofNat (i-15)/\Int.ofNat (i-15)<(64:Int)),(0+(i-15)*1<ws.length),(0+(i-15)*1<ws.length),Ll i,((0:Int)<=Int.ofNat (i-15)/\Int.ofNat (i-15)<(64:Int)),(0+(i-15)*1<ws.length),(0+(i-15)*1<ws.length),(0+(i-15)*1<ws.length),Lm i,((0:Int)<=Int.ofNat (i-2)/\Int.ofNat (i-2)<(64:Int)),(0+(i-2)*1<ws.length),Lm i,((0:Int)<=Int.ofNat (i-2)/\Int.ofNat (i-2)<(64:Int)),(0+(i-2)*1<ws.length),(0+(i-2)*1<ws.length),Lm i,((0:Int)<=Int.ofNat (i-2)/\Int.ofNat (i-2)<(64:Int)),(0+(i-2)*1<ws.length),(0+(i-2)*1<ws.length),(0+(i-2)*1<ws.length),(V.int aj (IntKind.i64.wrap (Int.ofNat i-(16:Int)))=iW (i-16)),((0:Int)<=Int.ofNat (i-16)/\Int.ofNat (i-16)<(64:Int)),(0+(i-16)*1<ws.length),(V.int aj (IntKind.i64.wrap (Int.ofNat i-(7:Int)))=iW (i-7)),((0:Int)<=Int.ofNat (i-7)/\Int.ofNat (i-7)<(64:Int)),(0+(i-7)*1<ws.length),((0:Int)<=Int.ofNat i/\Int.ofNat i<(64:Int)),(0+i*1+1<=ws.length),(V.int aj (IntKind.i64.wrap (Int.ofNat i+(1:Int)))=iW (i+1))],
   .to .normal (R4 b q (fO ws (0+i*1) [MO ws i]) (i+1))),
  ([((decide (Int.ofNat i<(64:Int))),false)],
   [],
   .to (.exit 0) (R4 b q ws i))]
 :=cQ.of U U U
noncomputable abbrev MQ:Code:=de 4 OH
end
noncomputable abbrev ani:Code:=dw (dw (ee (dK MQ)))
section
variable(q q':E8)(ws:List Int)(i:Nat)
def mVd:af:=[(3,.cells (c8 q)),(4,.own .u32 gR),(5,.cells (c8 (0,0,0,0,0,0,0,0))),(6,.own .u32 ws),(7,.cells (c8 q'))]
def TP(r:List (Nat×V)):St:=eF ([(3,.ptr (some (3,0))),(5,.ptr (some (4,0))),(6,.ptr (some (5,0))),(7,.ptr (some (6,0))),(11,.ptr (some (7,0)))]++r) (hL (mVd q q' ws)) 8
end
theorem anj(b:aa)(q:E8)(ws:List Int)(i:Nat):c6 TN [] 3 Tryz.f145 [3,5,6,7,11] (dK (de 3 OH)) (R4 b q ws i) [([],
   [],
   .to .normal (TP q q ws []))]
 :=cQ.of U U U
theorem ank(q q':E8)(ws:List Int):c6 TN [] 3 Tryz.f145 [3,5,6,7,11,12] (dK (dK MQ)) (TP q q' ws []) [([],
   [],
   .to .normal (TP q q' ws [(12,iW 0)]))]
 :=cQ.of U U U
theorem afX(a b c d e f g h a' b' c' d' e' f' g' h':Int)(ws:List Int)(i:Nat):c6 TN [(107,.split),(109,.dc (iW (i+1)))] 3 Tryz.f145 [3,5,6,7,11,12] (ani) (TP (a,b,c,d,e,f,g,h) (a',b',c',d',e',f',g',h') ws [(12,iW i)]) [([((decide (Int.ofNat i<(64:Int))),true)],
   [((0:Int)<=Int.ofNat i/\Int.ofNat i<(64:Int)),(0+i*1<64),((0:Int)<=Int.ofNat i/\Int.ofNat i<(64:Int)),(0+i*1<ws.length),(V.int aj (IntKind.i64.wrap (Int.ofNat i+(1:Int)))=iW (i+1))],
   .to .normal (TP (a,b,c,d,e,f,g,h) (aa5 gR ws i (a',b',c',d',e',f',g',h')) ws [(12,iW (i+1))])),
  ([((decide (Int.ofNat i<(64:Int))),false)],
   [],
   .to (.exit 2) (TP (a,b,c,d,e,f,g,h) (a',b',c',d',e',f',g',h') ws [(12,iW i)]))]
 :=cQ.of U U U
theorem anl(a b c d e f g h a' b' c' d' e' f' g' h':Int)(ws:List Int)(i:Nat):c6 TN [] 3 Tryz.f145 [] (ee MQ) (TP (a,b,c,d,e,f,g,h) (a',b',c',d',e',f',g',h') ws [(12,iW i)]) [([],
   [((0:Int)<=(0:Int)/\(0:Int)<(8:Int)),((0:Int)<=(0:Int)/\(0:Int)<(8:Int)),((0:Int)<=(0:Int)/\(0:Int)<(8:Int)),((0:Int)<=(1:Int)/\(1:Int)<(8:Int)),((0:Int)<=(1:Int)/\(1:Int)<(8:Int)),((0:Int)<=(1:Int)/\(1:Int)<(8:Int)),((0:Int)<=(2:Int)/\(2:Int)<(8:Int)),((0:Int)<=(2:Int)/\(2:Int)<(8:Int)),((0:Int)<=(2:Int)/\(2:Int)<(8:Int)),((0:Int)<=(3:Int)/\(3:Int)<(8:Int)),((0:Int)<=(3:Int)/\(3:Int)<(8:Int)),((0:Int)<=(3:Int)/\(3:Int)<(8:Int)),((0:Int)<=(4:Int)/\(4:Int)<(8:Int)),((0:Int)<=(4:Int)/\(4:Int)<(8:Int)),((0:Int)<=(4:Int)/\(4:Int)<(8:Int)),((0:Int)<=(5:Int)/\(5:Int)<(8:Int)),((0:Int)<=(5:Int)/\(5:Int)<(8:Int)),((0:Int)<=(5:Int)/\(5:Int)<(8:Int)),((0:Int)<=(6:Int)/\(6:Int)<(8:Int)),((0:Int)<=(6:Int)/\(6:Int)<(8:Int)),((0:Int)<=(6:Int)/\(6:Int)<(8:Int)),((0:Int)<=(7:Int)/\(7:Int)<(8:Int)),((0:Int)<=(7:Int)/\(7:Int)<(8:Int)),((0:Int)<=(7:Int)/\(7:Int)<(8:Int))],
   .ret (.agg [.int .u32 (IntKind.u32.wrap ((a,b,c,d,e,f,g,h).1+(a',b',c',d',e',f',g',h').1)),.int .u32 (IntKind.u32.wrap ((a,b,c,d,e,f,g,h).2.1+(a',b',c',d',e',f',g',h').2.1)),.int .u32 (IntKind.u32.wrap ((a,b,c,d,e,f,g,h).2.2.1+(a',b',c',d',e',f',g',h').2.2.1)),.int .u32 (IntKind.u32.wrap ((a,b,c,d,e,f,g,h).2.2.2.1+(a',b',c',d',e',f',g',h').2.2.2.1)),.int .u32 (IntKind.u32.wrap ((a,b,c,d,e,f,g,h).2.2.2.2.1+(a',b',c',d',e',f',g',h').2.2.2.2.1)),.int .u32 (IntKind.u32.wrap ((a,b,c,d,e,f,g,h).2.2.2.2.2.1+(a',b',c',d',e',f',g',h').2.2.2.2.2.1)),.int .u32 (IntKind.u32.wrap ((a,b,c,d,e,f,g,h).2.2.2.2.2.2.1+(a',b',c',d',e',f',g',h').2.2.2.2.2.2.1)),.int .u32 (IntKind.u32.wrap ((a,b,c,d,e,f,g,h).2.2.2.2.2.2.2+(a',b',c',d',e',f',g',h').2.2.2.2.2.2.2))]) (hL []) 3)]
 :=cQ.of U U U
section
variable(a e:Int)(rd:List Int)(x:Int)(ws:List Int)(b:Int)(i:Nat)(q:E8)
theorem xV:w32 x=x%4294967296:=rfl
theorem R5(z:Int):BitVec.ofInt 32 (w32 z)=BitVec.ofInt 32 z:=by
 apply BitVec.eq_of_toInt_eq;rw[BitVec.toInt_ofInt,BitVec.toInt_ofInt,xV];exact Int.emod_bmod ..
theorem BP(v:BitVec 32):BitVec.ofInt 32 (w32 ↑v.toNat)=v:=by
 rw[R5];apply BitVec.eq_of_toNat_eq;rw[BitVec.toNat_ofInt];have:=v.isLt;have h:((v.toNat:Int)%((2^32:Nat):Int))=v.toNat:=Int.emod_eq_of_lt be be;rw[h];rfl
theorem R6:JK a b=JK b a:=by unfold JK;rw[BitVec.or_comm]
theorem oA(m d x:Int):Ds m d x=C4 m d x:=R6 _ _
theorem VM:aa1 x=sg0 x:=by unfold aa1 sg0;rw[oA,oA]
theorem VN:aa2 x=sg1 x:=by unfold aa2 sg1;rw[oA,oA]
theorem VO:aa4 x=bS0 x:=by unfold aa4 bS0;rw[oA,oA,oA]
theorem VP:aa3 x=bS1 x:=by unfold aa3 bS1;rw[oA,oA,oA]
theorem R7:MO ws i=IC ws i:=by unfold MO IC;rw[VM,VN]
theorem VQ:BitVec.ofInt 32 (w32 (4294967295-e))= ~~~ BitVec.ofInt 32 e:=by
 rw[R5];apply BitVec.eq_of_toNat_eq;rw[BitVec.toNat_not,BitVec.toNat_ofInt,BitVec.toNat_ofInt];have h1:=Int.emod_nonneg e (show((2^32:Nat):Int)≠0 by decide);have h2:=Int.emod_lt_of_pos e (show(0:Int)<((2^32:Nat):Int)by decide);have h3:(4294967295-e)%((2^32:Nat):Int)=4294967295-e%((2^32:Nat):Int):=by omega
 rw[h3];omega
theorem R8:BitVec.ofInt 32 (nv 4294967295 e)= ~~~ BitVec.ofInt 32 e:=by
 unfold nv;rw[BP];apply BitVec.eq_of_getLsbD_eq;intro i hi;have:BitVec.ofInt 32 4294967295=BitVec.allOnes 32:=by decide
 rw[this,BitVec.allOnes_xor]
theorem afY(E F G:BitVec 32):(E&&&F)|||(~~~E&&&G)=(E&&&F)^^^(~~~E&&&G):=by
 apply BitVec.eq_of_getLsbD_eq;intro i hi;simp only[BitVec.getLsbD_or,BitVec.getLsbD_and,BitVec.getLsbD_xor,BitVec.getLsbD_not];cases E.getLsbD i<;>cases F.getLsbD i<;>cases G.getLsbD i<;>simp
theorem afZ(A B C:BitVec 32):((A&&&B)|||(A&&&C))|||(B&&&C)=((A&&&B)^^^(A&&&C))^^^(B&&&C):=by
 apply BitVec.eq_of_getLsbD_eq;intro i hi;simp only[BitVec.getLsbD_or,BitVec.getLsbD_and,BitVec.getLsbD_xor];cases A.getLsbD i<;>cases B.getLsbD i<;>cases C.getLsbD i<;>rfl
theorem aa6(f g:Int):chR e f g=chI e f g:=by
 unfold chR chI JK nv Ap;simp only[BP];have h:=R8 e;unfold nv at h;rw[BP]at h;rw[VQ,h,afY]
theorem aa7(c:Int):maR a b c=maI a b c:=by
 unfold maR maI JK nv Ap;simp only[BP];rw[afZ]
theorem aa8:rdR rd ws i q=rdX rd ws i q:=by
 obtain⟨a,b,c,d,e,f,g,h⟩:=q;simp only[rdR,rdX,VP,aa6]
theorem VR(c:Int):w32 (w32 (a+b)+c)=w32 (a+w32 (b+c)):=by
 simp only[xV];omega
theorem VS:aa5 rd ws i q=Bu rd ws i q:=by
 obtain⟨a,b,c,d,e,f,g,h⟩:=q;simp only[aa5,Bu,aa8,VO,aa7,VR]
theorem aa9{a b k:Nat}(hb:b<2^k)(ha:a*2^k+b<4294967296):JK ((a*2^k:Nat):Int) (b:Int)=((a*2^k+b:Nat):Int):=by
 unfold JK;have h1:∀n:Nat,n<4294967296->(BitVec.ofInt 32 (n:Int)).toNat=n:=fun n hn=>by
  rw[BitVec.toNat_ofInt];have:((n:Int)%((2^32:Nat):Int))=n:=Int.emod_eq_of_lt be be;rw[this];rfl
 rw[BitVec.toNat_or,h1 _ be,h1 _ be];have h2:a*2^k|||b=a*2^k+b:=by
  have:=Nat.shiftLeft_add_eq_or_of_lt hb a;rw[Nat.shiftLeft_eq]at this;exact this.symm
 rw[h2,xV];exact Int.emod_eq_of_lt be be
theorem G5{p q k s:Nat}(hk:k=2^s)(hq:q<k)(h:p*k+q<4294967296){a b:Int}(ha:a=((p*k:Nat):Int))(hb:b=(q:Int)):JK a b=((p*k+q:Nat):Int):=by
 subst hk ha hb;exact aa9 hq h
theorem R9(b:aa)(i:Nat):MP b i=ID b i:=by
 have TQ:∀j,∃n:Nat,n<256/\Uz b j=(n:Int):=fun j=>⟨(b.getD j 0).toNat,(b.getD j 0).toNat_lt,by
  have:=(b.getD j 0).toNat_lt;show((b.getD j 0).toNat:Int)%4294967296=_;exact Int.emod_eq_of_lt be be⟩
 unfold MP ID;obtain⟨x,hx,ex⟩:=TQ (i*4);obtain⟨y,hy,ey⟩:=TQ (i*4+1);obtain⟨z,hz,ez⟩:=TQ (i*4+2);obtain⟨t,ht,et⟩:=TQ (i*4+3);rw[ex,ey,ez,et];have e1:w32 ((x:Int)*16777216)=((x*16777216:Nat):Int):=by rw[xV];omega
 have e2:w32 ((y:Int)*65536)=((y*65536:Nat):Int):=by rw[xV];omega
 have e3:w32 ((z:Int)*256)=((z*256:Nat):Int):=by rw[xV];omega
 rw[e1,e2,e3];have o1:=G5 (p:=x) (q:=y*65536) (k:=16777216) (s:=24) dU be be rfl rfl;have o2:=G5 (p:=x*256+y) (q:=z*256) (k:=65536) (s:=16) (a:=((x*16777216+y*65536:Nat):Int)) dU be be be rfl;have o3:=G5 (p:=x*65536+y*256+z) (q:=t) (k:=256) (s:=8) (a:=(((x*256+y)*65536+z*256:Nat):Int)) dU be be be rfl;rw[o1,o2,o3];simp only[xV];omega
end
theorem VT{ws:List Int}(h:ws.length=64):C6 ws=ws:=by
 unfold C6;refine List.ext_getElem (by rw[aY,List.length_range,h]) fun i h1 h2=>?_;rw[List.getElem_map,List.getElem_range,aN,ay h2];rfl
section
variable(b:aa)(i:Nat)
def Fu:List Int:=if i<=16 then XI b i else Ei b (i-16)
theorem VU(hi:i<=64):(Fu b i).length=64:=by
 unfold Fu;split
 . exact BK b i be
 . exact y6 b (i-16) be
theorem aba{i:Nat}(h:i<16):Fu b (i+1)=fO (Fu b i) (0+i*1) [MP b i]:=by
 unfold Fu;rw[aG be,aG be,R9];rfl
theorem abb{i:Nat}(h:16<=i):Fu b (i+1)=fO (Fu b i) (0+i*1) [MO (Fu b i) i]:=by
 obtain⟨j,rfl⟩:∃j,i=16+j:=⟨i-16,be⟩;have e:Fu b (16+j)=Ei b j:=by
  unfold Fu;split
  . obtain rfl:j=0:=by omega
    rfl
  . rw[show 16+j-16=j by omega]
 rw[e,R7];unfold Fu;rw[aI be,show 16+j+1-16=j+1 by omega];rfl
end
section
variable(b:aa)(hb:64<=b.length)(q:E8)
include hb in
theorem anm:TG ak 3 Tryz.f145.ntmps OH (cS [.agg (c8 q),.str b,aR] .nil 3) (fG ak 3 Tryz.f145 fun u _ _=>u= .agg (c8 (y7 gR b q))):=by
 refine iL  2 XL (ana b q) cR ?_;refine tC [(4,.u32),(6,.u32)] (s2:=eF [(1,.str b),(3,.ptr (some (3,0))),(5,.ptr (some (4,0))),(6,.ptr (some (5,0))),(7,.ptr (some (6,0)))] (hL (mVc q (Fu b 0))) 7) U ?_;show TG _ _ _ aa0 _ _;refine cV U ?_;refine cV U ?_;refine fZ XL (ane b q (Fu b 0)) (dG ?_);refine⟨cR,fun s' dL=>?_⟩;refine jq 0 64 (fun i=>R4 b q (Fu b i) i) U U (.norm dL) (fun i hi=>?_) ?_
 . have ue:=VU b i be;rcases bP i 16 with h16|h16
   . have e:=aba b h16;show TG _ _ _ _ _ (andThen (fun s'=>gC ak 3 Tryz.f145.ntmps s' (R4 b q (Fu b (i+1)) (i+1))) _);rw[e];refine fZ XL (afW b q (Fu b i) i) fun g hg hc=>?_;rcases jk hg with rfl|rfl
     . refine⟨?_,fun s1 fS=>.norm fS⟩
       repeat' (first|exact cR|refine jw ?_ ?_)
       all_goals first
        |exact pA dh be
        |exact⟨az _,be⟩
        |exact⟨az _,dh⟩
        |exact aM V.bool (bM dh)
        |omega
     . exact absurd (aK (hc _ (aq.2 rfl))) dh
   . have e:=abb b h16;show TG _ _ _ _ _ (andThen (fun s'=>gC ak 3 Tryz.f145.ntmps s' (R4 b q (Fu b (i+1)) (i+1))) _);rw[e];refine fZ XL (anh b q (Fu b i) i) fun g hg hc=>?_;rcases jk hg with rfl|rfl
     . refine⟨?_,fun s1 fS=>.norm fS⟩
       repeat' (first|exact cR|refine jw ?_ ?_)
       all_goals first
        |exact pA dh be
        |exact⟨az _,dh⟩
        |exact aM V.bool (bD dh)
        |omega
     . exact absurd (aK (hc _ (aq.2 rfl))) dh
 . refine fZ XL (afW b q (Fu b 64) 64) fun g hg hc=>?_;rcases jk hg with rfl|rfl
   . exact absurd (hc _ (aq.2 rfl)) dU
   refine⟨cR,fun s1 fS=>⟨by simp,?_⟩⟩;rw[dX];refine c5 fS ?_;show TG _ _ _ (de 3 OH) _ _;have hw:Fu b 64=C6 (Ei b 48):=by rw[VT (y6 b 48 (aA _))];rfl
   rw[hw];have ue:(C6 (Ei b 48)).length=64:=by unfold C6;rw[aY,List.length_range]
   refine cV U ?_;unfold y7;generalize C6 (Ei b 48)=ws at ue ⊢;refine fZ XL (anj b q ws 64) (dG ?_);refine⟨cR,fun s2 jg=>c5 jg ?_⟩;show TG _ _ _ MQ _ _;refine cV U ?_;refine cV U ?_;refine fZ XL (ank q q ws) (dG ?_);refine⟨cR,fun s3 x9=>?_⟩;refine jq 2 64 (fun i=>TP q (vn gR ws q i) ws [(12,iW i)]) U U (.norm x9) (fun i hi=>?_) ?_
   . show TG _ _ _ _ _ (andThen (fun s'=>gC ak 3 Tryz.f145.ntmps s' (TP q (Bu gR ws i (vn gR ws q i)) ws [(12,iW (i+1))])) _);rw[<- VS];generalize vn gR ws q i=q';obtain⟨a,b,c,d,e,f,g,h⟩:=q;obtain⟨a',b',c',d',e',f',g',h'⟩:=q';refine fZ XL (afX a b c d e f g h a' b' c' d' e' f' g' h' ws i) fun g hg hc=>?_;rcases jk hg with rfl|rfl
     . refine⟨?_,fun s4 I5=>.norm I5⟩
       repeat' (first|exact cR|refine jw ?_ ?_)
       all_goals first
        |exact pA dh be
        |exact⟨az _,dh⟩
        |omega
     . exact absurd (aK (hc _ (aq.2 rfl))) dh
   . show TG _ _ _ _ (TP q (vn gR ws q 64) ws [(12,iW 64)]) _;generalize vn gR ws q 64=q';obtain⟨a,b,c,d,e,f,g,h⟩:=q;obtain⟨a',b',c',d',e',f',g',h'⟩:=q';refine fZ XL (afX a b c d e f g h a' b' c' d' e' f' g' h' ws 64) fun g hg hc=>?_;rcases jk hg with rfl|rfl
     . exact absurd (hc _ (aq.2 rfl)) dU
     refine⟨cR,fun s4 I5=>⟨by simp,?_⟩⟩;rw[dX];refine c5 I5 ?_;refine fB XL (anl a b c d e f g h a' b' c' d' e' f' g' h' ws 64) (dG ?_);refine⟨?_,_,_,_,rfl,?_⟩
     . repeat' (first|exact cR|refine jw ?_ ?_)
       all_goals exact⟨dU,dU⟩
     . simp only[Zz,c8,Int.add_comm]
end
def Ln:ag->Option (ah×V)
 | [.agg [.int .u32 a,.int .u32 b,.int .u32 c,.int .u32 d,.int .u32 e,.int .u32 f,.int .u32 g,.int .u32 x],.str s,r]=>match r.free with
   |true=>some ([64<=s.length,r=aR],.agg (c8 (y7 gR s (a,b,c,d,e,f,g,x))))
   |false=>none
 |_=>none
theorem abc:jL ak 145 (jO Ln):=by
 refine kf (au U) fun args A v e=>?_;unfold Ln at e;split at e
 case h_2=>cases e
 rename_i a b c d e1 f g x s r;split at e
 case h_2=>cases e
 rename_i hr;obtain⟨rfl,rfl⟩:=fc e;refine⟨by simp[V.wR,V.free,hr],U,fun hA=>?_⟩;obtain rfl:r=aR:=hA (r=aR) (by simp);exact gT mo po Tryz.func145 U U rfl (anm s (hA (64<=s.length) (by simp)) (a,b,c,d,e1,f,g,x))
section
variable(x:Int)
theorem Yq(a b c:Int)(h:a*b=c)(ha:0<a)(hb:0<b):(x.fdiv a).fdiv b=x.fdiv c:=by
 subst h;rw[cK _ (Int.le_of_lt ha),cK _ (Int.le_of_lt hb),cK _ (Int.le_of_lt (Int.mul_pos ha hb)),Int.ediv_ediv_of_nonneg (Int.le_of_lt ha)]
def vz:aa:=[UInt8.ofNat (IntKind.u8.wrap (((((((x.fdiv 256).fdiv 256).fdiv 256).fdiv 256).fdiv 256).fdiv 256).fdiv 256)).toNat,UInt8.ofNat (IntKind.u8.wrap ((((((x.fdiv 256).fdiv 256).fdiv 256).fdiv 256).fdiv 256).fdiv 256)).toNat,UInt8.ofNat (IntKind.u8.wrap (((((x.fdiv 256).fdiv 256).fdiv 256).fdiv 256).fdiv 256)).toNat,
    UInt8.ofNat (IntKind.u8.wrap ((((x.fdiv 256).fdiv 256).fdiv 256).fdiv 256)).toNat,UInt8.ofNat (IntKind.u8.wrap (((x.fdiv 256).fdiv 256).fdiv 256)).toNat,UInt8.ofNat (IntKind.u8.wrap ((x.fdiv 256).fdiv 256)).toNat,UInt8.ofNat (IntKind.u8.wrap (x.fdiv 256)).toNat,UInt8.ofNat (IntKind.u8.wrap x).toNat]
theorem af0(h0:0<=x)(h1:x<18446744073709551616):vz x=mh x:=by
 unfold vz;have hw:IntKind.u64.wrap x=x:=Int.emod_eq_of_lt h0 h1;unfold mh pB;rw[hw,Yq x 256 256 65536 dU dU dU,Yq x 65536 256 16777216 dU dU dU,Yq x 16777216 256 4294967296 dU dU dU,Yq x 4294967296 256 1099511627776 dU dU dU,Yq x 1099511627776 256 281474976710656 dU dU dU,Yq x 281474976710656 256 72057594037927936 dU dU dU];have h1:x.fdiv 1=x:=Int.fdiv_one x;rw[h1]
def gi:aa:=[UInt8.ofNat (IntKind.u8.wrap (((x.fdiv 256).fdiv 256).fdiv 256)).toNat,UInt8.ofNat (IntKind.u8.wrap ((x.fdiv 256).fdiv 256)).toNat,UInt8.ofNat (IntKind.u8.wrap (x.fdiv 256)).toNat,UInt8.ofNat (IntKind.u8.wrap x).toNat]
theorem ann(h0:0<=x)(h1:x<18446744073709551616):gi x=dN x:=by
 unfold gi;have hw:IntKind.u64.wrap x=x:=Int.emod_eq_of_lt h0 h1;unfold dN pB;rw[hw,Yq x 256 256 65536 dU dU dU,Yq x 65536 256 16777216 dU dU dU];have h1:x.fdiv 1=x:=Int.fdiv_one x;rw[h1]
end
def Lo:ag->Option (ah×V)
 | [.int .u64 x,.int .i64 k]=>match k with
   | .ofNat 8=>some ([],.str (vz x))
   | .ofNat 4=>some ([],.str (gi x))
   |_=>none
 |_=>none
theorem abd:jL ak 144 (jO Lo):=by
 refine kf (au U) fun args A v e=>?_;unfold Lo at e;split at e
 case h_2=>cases e
 rename_i x k;split at e
 . obtain⟨rfl,rfl⟩:=fc e;refine⟨rfl,U,fun _=>gT mo po Tryz.func144 (code:=dP Tryz.f144) U U rfl ?_⟩;refine fB XL (am8 x) (dG ?_);refine⟨?_,_,_,_,rfl,?_⟩
   . repeat' (first|exact cR|refine jw ?_ ?_)
     all_goals first|exact⟨dU,dU⟩|exact⟨dU,dU,dU⟩|exact au rfl
   . rfl
 . obtain⟨rfl,rfl⟩:=fc e;refine⟨rfl,U,fun _=>gT mo po Tryz.func144 (code:=dP Tryz.f144) U U rfl ?_⟩;refine fB XL (am9 x) (dG ?_);refine⟨?_,_,_,_,rfl,?_⟩
   . repeat' (first|exact cR|refine jw ?_ ?_)
     all_goals first|exact⟨dU,dU⟩|exact⟨dU,dU,dU⟩|exact au rfl
   . rfl
 . cases e
noncomputable abbrev W20:jQ:=kB 144 (jO Lo) (kB 145 (jO Ln) W16)
theorem Sa:gd ak W20:=fk abd (fk abc GL)
noncomputable abbrev zn:fb:=gI ak W20 H0 1000 40
noncomputable abbrev Hs:CX ak:=CX.of mo po Sa H0 1000 40
structure gH where
 dg:aa
 da:aa
 rs:List (aa)
def gH.d(c:gH):ai:=[.str c.dg,.str c.da,.dO c.rs.length (strs c.rs)]
def fq(l:List gH):ai:=(l.map gH.d).flatten
def fh(l:List (aa×aa)):ai:=(l.map fun p=>[D.str p.1,D.str p.2]).flatten
structure RS where
 cs:List gH
 ro:List (aa×aa)
def RS.v(s:RS):V:=.agg [.dO false s.cs.length (fq s.cs),.dO false s.ro.length (fh s.ro)]
section
variable(s:RS)(x:aa)(i:Nat)
def RS.d:D:=.agg [.dO s.cs.length (fq s.cs),.dO s.ro.length (fh s.ro)]
noncomputable abbrev Sb:Code:=dP Tryz.f70
noncomputable abbrev anp:Code:=dw (dw (ee (dK (de 1 Sb))))
noncomputable abbrev Sc:Code:=dP Tryz.f115
noncomputable abbrev anq:Code:=dw (dw (ee (dK (de 1 Sc))))
def bx:O:=.cells [.dO false s.cs.length (fq s.cs),.dO false s.ro.length (fh s.ro)]
def Pk:St:=eF [(1,.str x),(2,.ptr (some (3,0))),(5,iW i)] (hL [(3,bx s)]) 4
theorem anr:c6 zn [] 3 Tryz.f70 [1,2] (eR 1 Sb) (cS [s.v,.str x] .nil 3) [([],
   [],
   .to .normal (eF [(1,.str x),(2,.ptr (some (3,0)))] (hL [(3,.cells [.dO false (s.cs.length) (fq s.cs),.dO false (s.ro.length) (fh s.ro)])]) 4))]
 :=cQ.of U U U
theorem ans:c6 zn [] 3 Tryz.f70 [1,2,5] (dK (dK (de 1 Sb))) (eF [(1,.str x),(2,.ptr (some (3,0)))] (hL [(3,bx s)]) 4) [([],
   [],
   .to .normal (Pk s x 0))]
 :=cQ.of U U U
theorem af1(c:gH):c6 zn [(10,.split),(16,.dc (.dm c.d)),(20,.split),(12,.dc (iW (i+1)))] 3 Tryz.f70 [1,2,5] (anp) (Pk s x i) [([((decide (Int.ofNat i<(Int.ofNat s.cs.length))),true),((eG c.dg x),true)],
   [((0:Int)<=Int.ofNat i/\Int.ofNat i<(Int.ofNat s.cs.length)),((fq s.cs).length=s.cs.length*3),(V.dm (dx (fq s.cs) (i*3) 3)=V.dm c.d)],
   .ret (.int .i64 (Int.ofNat i)) (hL []) 3),
  ([((decide (Int.ofNat i<(Int.ofNat s.cs.length))),true),((eG c.dg x),false)],
   [((0:Int)<=Int.ofNat i/\Int.ofNat i<(Int.ofNat s.cs.length)),((fq s.cs).length=s.cs.length*3),(V.dm (dx (fq s.cs) (i*3) 3)=V.dm c.d),(V.int aj (IntKind.i64.wrap (Int.ofNat i+(1:Int)))=iW (i+1))],
   .to .normal (Pk s x (i+1))),
  ([((decide (Int.ofNat i<(Int.ofNat s.cs.length))),false)],
   [],
   .to (.exit 0) (Pk s x i))]
 :=cQ.of U U U
theorem ant:c6 zn [] 3 Tryz.f70 [] (ee (de 1 Sb)) (Pk s x i) [([],
   [],
   .ret (.int .i64 (-1)) (hL []) 3)]
 :=cQ.of U U U
theorem anu:c6 zn [] 3 Tryz.f115 [1,2] (eR 1 Sc) (cS [s.v,.str x] .nil 3) [([],
   [],
   .to .normal (eF [(1,.str x),(2,.ptr (some (3,0)))] (hL [(3,.cells [.dO false (s.cs.length) (fq s.cs),.dO false (s.ro.length) (fh s.ro)])]) 4))]
 :=cQ.of U U U
theorem anv:c6 zn [] 3 Tryz.f115 [1,2,5] (dK (dK (de 1 Sc))) (eF [(1,.str x),(2,.ptr (some (3,0)))] (hL [(3,bx s)]) 4) [([],
   [],
   .to .normal (Pk s x 0))]
 :=cQ.of U U U
theorem af2(n d:aa):c6 zn [(10,.split),(16,.dc (.dm [.str n,.str d])),(20,.split),(24,.dc (.dm [.str n,.str d])),(12,.dc (iW (i+1)))] 3 Tryz.f115 [1,2,5] (anq) (Pk s x i) [([((decide (Int.ofNat i<(Int.ofNat s.ro.length))),true),((eG n x),true)],
   [((0:Int)<=Int.ofNat i/\Int.ofNat i<(Int.ofNat s.ro.length)),((fh s.ro).length=s.ro.length*2),(V.dm (dx (fh s.ro) (i*2) 2)=V.dm [D.str n,D.str d]),((0:Int)<=Int.ofNat i/\Int.ofNat i<(Int.ofNat s.ro.length)),((fh s.ro).length=s.ro.length*2),(V.dm (dx (fh s.ro) (i*2) 2)=V.dm [D.str n,D.str d])],
   .ret (.str d) (hL []) 3),
  ([((decide (Int.ofNat i<(Int.ofNat s.ro.length))),true),((eG n x),false)],
   [((0:Int)<=Int.ofNat i/\Int.ofNat i<(Int.ofNat s.ro.length)),((fh s.ro).length=s.ro.length*2),(V.dm (dx (fh s.ro) (i*2) 2)=V.dm [D.str n,D.str d]),(V.int aj (IntKind.i64.wrap (Int.ofNat i+(1:Int)))=iW (i+1))],
   .to .normal (Pk s x (i+1))),
  ([((decide (Int.ofNat i<(Int.ofNat s.ro.length))),false)],
   [],
   .to (.exit 0) (Pk s x i))]
 :=cQ.of U U U
theorem anw:c6 zn [] 3 Tryz.f115 [] (ee (de 1 Sc)) (Pk s x i) [([],
   [],
   .ret (.str []) (hL []) 3)]
 :=cQ.of U U U
end
theorem sw{α β:Type}{f:α->List β}{w:Nat}(hf:∀x,(f x).length=w):∀l:List α,(l.map f).flatten.length=l.length*w
 | []=>by simp
 |x::l=>by
  rw[bN,List.flatten_cons,ax,hf,sw hf l,aS,cN];omega
theorem vA{α:Type}{f:α->ai}{w:Nat}(hf:∀x,(f x).length=w):∀(l:List α) (i:Nat) (h:i<l.length),dx ((l.map f).flatten) (i*w) w=f l[i]
 |x::l,0,_=>by
  unfold dx;rw[Nat.zero_mul,bw,bN,List.flatten_cons,List.take_left' (hf x)];rfl
 |x::l,i+1,h=>by
  have ih:=vA hf l i (by simpa using h);unfold dx at ih ⊢;rw[bN,List.flatten_cons,show(i+1)*w=w+i*w by rw[cN];omega,<- List.drop_drop,List.drop_left' (hf x),ih];rfl
theorem kC(l:List gH):(fq l).length=l.length*3:=sw (f:=gH.d) (w:=3) (fun _=>rfl) l
theorem vB(l:List gH)(i:Nat)(h:i<l.length):dx (fq l) (i*3) 3=l[i].d:=vA (f:=gH.d) (w:=3) (fun _=>rfl) l i h
section
variable(l:List (aa×aa))
theorem ny:(fh l).length=l.length*2:=sw (f:=fun p:aa×aa=>[D.str p.1,D.str p.2]) (w:=2) (fun _=>rfl) l
theorem Dt(i:Nat)(h:i<l.length):dx (fh l) (i*2) 2=[D.str l[i].1,D.str l[i].2]:=vA (f:=fun p:aa×aa=>[D.str p.1,D.str p.2]) (w:=2) (fun _=>rfl) l i h
end
def sA(x:aa):List gH->Nat->Int
 | [],_=> -1
 |c::l,i=>if c.dg=x then i else sA x l (i+1)
def fU(l:List gH)(x:aa):Int:=sA x l 0
def gM(x:aa):List (aa×aa)->aa
 | []=>[]
 |p::l=>if p.1=x then p.2 else gM x l
theorem Lp{x:aa}{l:List gH}{i:Nat}(h:i<l.length):sA x (l.drop i) i=if l[i].dg=x then(i:Int)else sA x (l.drop (i+1)) (i+1):=by
 rw[bF h];rfl
theorem Lq{x:aa}{l:List (aa×aa)}{i:Nat}(h:i<l.length):gM x (l.drop i)=if l[i].1=x then l[i].2 else gM x (l.drop (i+1)):=by
 rw[bF h];rfl
theorem oQ{a b:aa}(h:eG a b=false):a≠b:=by rw[fR]at h;exact beq_eq_false_iff_ne.1 h
section
variable(s:RS)(x:aa)
theorem anx(hl:s.cs.length<=1000000):TG ak 3 Tryz.f70.ntmps Sb (cS [s.v,.str x] .nil 3) (fG ak 3 Tryz.f70 fun u _ _=>u= .int .i64 (fU s.cs x)):=by
 refine iL  1 Hs (anr s x) cR ?_;refine cV U ?_;refine cV U ?_;refine fZ Hs (ans s x) (dG ?_);refine⟨cR,fun s' dL=>?_⟩;refine jC (α:=Nat) 0 (fun i=>s.cs.length-i) (fun i=>i<=s.cs.length/\fU s.cs x=sA x (s.cs.drop i) i) (Pk s x) U U 0 ⟨aZ _,by rw[bw];rfl⟩ (.norm dL) fun i ⟨hi,he⟩=>?_;rcases bP i s.cs.length with fF|zJ
 . have kj:=vB s.cs i fF;rw[Lp fF]at he;generalize hc:s.cs[i]=c at kj he;obtain⟨L3,wv⟩:=af1 s x i c;have ha:∀a∈[((0:Int)<=Int.ofNat i/\Int.ofNat i<(Int.ofNat s.cs.length)),((fq s.cs).length=s.cs.length*3),(V.dm (dx (fq s.cs) (i*3) 3)=V.dm c.d)],a:=fm (⟨az _,dh⟩) (fm (kC _) (eU (aM V.dm kj)));refine gh Hs mo (fun u _ _=>u= .int .i64 (fU s.cs x)) U wv fun g hg Il=>?_;rcases xP hg with rfl|rfl|rfl
   . have h2:=kP (Il _ (aJ _ (aq.2 rfl)));rw[aG h2]at he;exact⟨ha,by rw[he];rfl,fun s2 jg=>jg⟩
   . have h2:=oQ (Il _ (aJ _ (aq.2 rfl)));rw[aI h2]at he;exact⟨fm (⟨az _,dh⟩) (fm (kC _) (fm (aM V.dm kj) (eU (pA dh be)))),fun s2 jg=>⟨i+1,be,⟨be,he⟩,.norm jg⟩⟩
   . exact absurd (aK (Il _ (aq.2 rfl))) dh
 . obtain rfl:i=s.cs.length:=by omega
   obtain⟨L3,wv⟩:=af1 s x s.cs.length ⟨[],[],[]⟩;refine gh Hs mo (fun u _ _=>u= .int .i64 (fU s.cs x)) U wv fun g hg Il=>?_;rcases xP hg with rfl|rfl|rfl
   . exact absurd (aH (Il _ (aP ..))) dh
   . exact absurd (aH (Il _ (aP ..))) dh
   . refine⟨cR,fun s2 jg=>?_⟩;simp only[andThen,dX];refine c5 jg ?_;refine fB Hs (ant s x s.cs.length) (dG ?_);refine⟨cR,_,_,_,rfl,?_⟩;rw[he,List.drop_length];rfl
theorem anz(hl:s.ro.length<=1000000):TG ak 3 Tryz.f115.ntmps Sc (cS [s.v,.str x] .nil 3) (fG ak 3 Tryz.f115 fun u _ _=>u= .str (gM x s.ro)):=by
 refine iL  1 Hs (anu s x) cR ?_;refine cV U ?_;refine cV U ?_;refine fZ Hs (anv s x) (dG ?_);refine⟨cR,fun s' dL=>?_⟩;refine jC (α:=Nat) 0 (fun i=>s.ro.length-i) (fun i=>i<=s.ro.length/\gM x s.ro=gM x (s.ro.drop i)) (Pk s x) U U 0 ⟨aZ _,by rw[bw]⟩ (.norm dL) fun i ⟨hi,he⟩=>?_;rcases bP i s.ro.length with fF|zJ
 . have kj:=Dt s.ro i fF;rw[Lq fF]at he;generalize hc:s.ro[i]=c at kj he;obtain⟨n,d⟩:=c;obtain⟨L3,wv⟩:=af2 s x i n d;refine gh Hs mo (fun u _ _=>u= .str (gM x s.ro)) U wv fun g hg Il=>?_;rcases xP hg with rfl|rfl|rfl
   . have h2:=kP (Il _ (aJ _ (aq.2 rfl)));rw[aG h2]at he;exact⟨fm (⟨az _,dh⟩) (fm (ny _) (fm (aM V.dm kj) (fm (⟨az _,dh⟩) (fm (ny _) (eU (aM V.dm kj)))))),by rw[he],fun s2 jg=>jg⟩
   . have h2:=oQ (Il _ (aJ _ (aq.2 rfl)));rw[aI h2]at he;exact⟨fm (⟨az _,dh⟩) (fm (ny _) (fm (aM V.dm kj) (eU (pA dh be)))),fun s2 jg=>⟨i+1,be,⟨be,he⟩,.norm jg⟩⟩
   . exact absurd (aK (Il _ (aq.2 rfl))) dh
 . obtain rfl:i=s.ro.length:=by omega
   obtain⟨L3,wv⟩:=af2 s x s.ro.length [] [];refine gh Hs mo (fun u _ _=>u= .str (gM x s.ro)) U wv fun g hg Il=>?_;rcases xP hg with rfl|rfl|rfl
   . exact absurd (aH (Il _ (aP ..))) dh
   . exact absurd (aH (Il _ (aP ..))) dh
   . refine⟨cR,fun s2 jg=>?_⟩;simp only[andThen,dX];refine c5 jg ?_;refine fB Hs (anw s x s.ro.length) (dG ?_);refine⟨cR,_,_,_,rfl,?_⟩;rw[he,List.drop_length];rfl
end
noncomputable abbrev Es:Code:=dP Tryz.f116
section
variable(s:aa)(q:E8)(k:Nat)(m gr:aa)
def zs(k:Nat):List Int:=(128:Int)::List.replicate k 0
def qS:E8:=(1779033703,3144134277,1013904242,2773480762,1359893119,2600822924,528734635,1541459225)
def sOz(us:List Int):St:=eF [(0,.str s),(3,.ptr (some (3,0))),(4,.ptr (some (4,0))),(5,.dj (some (5,0)) (k+1) (k+1) 1)] (hL [(3,.cells (c8 qS)),(4,.cells (gR.map (V.int .u32 ·))),(5,.own .u8 us)]) 6
def sOa:St:=sOz s k (zs k)
def Yr(r:List (Nat×V)):St:=eF ([(3,.ptr (some (3,0))),(4,.ptr (some (4,0))),(6,.str m)]++r) (hL [(3,.cells (c8 q)),(4,.cells (gR.map (V.int .u32 ·)))]) 5
end
section
variable(s:aa)(q:E8)(k:Nat)(m:aa)(i:Nat)
theorem anA:c6 zn [] 3 Tryz.f116 [0,3,4,5] (eR 4 Es) (cS [.str s] .nil 3) [([],
   [],
   .to .normal (eF [(0,.str s),(3,.ptr (some (3,0))),(4,.ptr (some (4,0))),(5,.dj (some (5,0)) 1 1 1)] (hL [(3,.cells [.int .u32 1779033703,.int .u32 3144134277,.int .u32 1013904242,.int .u32 2773480762,.int .u32 1359893119,.int .u32 2600822924,.int .u32 528734635,.int .u32 1541459225]),(4,.cells [.int .u32 1116352408,.int .u32 1899447441,.int .u32 3049323471,.int .u32 3921009573,.int .u32 961987163,.int .u32 1508970993,.int .u32 2453635748,.int .u32 2870763221,.int .u32 3624381080,.int .u32 310598401,.int .u32 607225278,.int .u32 1426881987,.int .u32 1925078388,.int .u32 2162078206,.int .u32 2614888103,.int .u32 3248222580,.int .u32 3835390401,.int .u32 4022224774,.int .u32 264347078,.int .u32 604807628,.int .u32 770255983,.int .u32 1249150122,.int .u32 1555081692,.int .u32 1996064986,.int .u32 2554220882,.int .u32 2821834349,.int .u32 2952996808,.int .u32 3210313671,.int .u32 3336571891,.int .u32 3584528711,.int .u32 113926993,.int .u32 338241895,.int .u32 666307205,.int .u32 773529912,.int .u32 1294757372,.int .u32 1396182291,.int .u32 1695183700,.int .u32 1986661051,.int .u32 2177026350,.int .u32 2456956037,.int .u32 2730485921,.int .u32 2820302411,.int .u32 3259730800,.int .u32 3345764771,.int .u32 3516065817,.int .u32 3600352804,.int .u32 4094571909,.int .u32 275423344,.int .u32 430227734,.int .u32 506948616,.int .u32 659060556,.int .u32 883997877,.int .u32 958139571,.int .u32 1322822218,.int .u32 1537002063,.int .u32 1747873779,.int .u32 1955562222,.int .u32 2024104815,.int .u32 2227730452,.int .u32 2361852424,.int .u32 2428436474,.int .u32 2756734187,.int .u32 3204031479,.int .u32 3329325298]),(5,.cells [.int .u8 128])]) 6))]
 :=cQ.of U U U
abbrev Sd:Prop:=V.int aj (IntKind.i64.wrap ((Int.ofNat s.length)+(Int.ofNat (k+1))))=iW (s.length+(k+1))
abbrev Se:Prop:=V.int aj ((Int.ofNat (s.length+(k+1))).tmod (64:Int))=iW ((s.length+(k+1))%64)
theorem af4:c6 zn [(17,.dc (iW (s.length+(k+1)))),(18,.dc (iW ((s.length+(k+1))%64))),(19,.split)] 3 Tryz.f116 [0,3,4,5] (dw (dw (dK (de 4 Es)))) (sOa s k) [([((Int.ofNat ((s.length+(k+1))%64) !=(56:Int)),true)],
   [Sd s k,Se s k,(0<k+1),(0+(k+1)*1<=(zs k).length),(0<1),(eT (k+1+1) 1 1=true)],
   .to .normal (sOz s (k+1) (List.take ((k+1)*1) (List.drop 0 (zs k))++[0]))),
  ([((Int.ofNat ((s.length+(k+1))%64) !=(56:Int)),false)],
   [Sd s k,Se s k],
   .to (.exit 0) (sOa s k))]
 :=cQ.of U U U
theorem anB:c6 zn [] 3 Tryz.f116 [3,4,6] (dK (de 5 Es)) (sOa s k) [([],
   [(0+(k+1)<=(zs k).length),(s.length+(eN (List.take (k+1) (List.drop 0 (zs k)))).length<=9223372036854775807),(0+(k+1)<=(zs k).length),((s++eN (List.take (k+1) (List.drop 0 (zs k)))).length+(vz (IntKind.u64.wrap ((8:Int)*IntKind.u64.wrap (Int.ofNat s.length)))).length<=9223372036854775807)],
   .to .normal (Yr qS (s++eN (List.take (k+1) (List.drop 0 (zs k)))++vz (IntKind.u64.wrap ((8:Int)*IntKind.u64.wrap (Int.ofNat s.length)))) []))]
 :=cQ.of U U U
theorem anC:c6 zn [] 3 Tryz.f116 [3,4,6,7] (dK (dK (de 6 Es))) (Yr q m []) [([],
   [],
   .to .normal (Yr q m [(7,iW 0)]))]
 :=cQ.of U U U
theorem af5:c6 zn [(36,.split),(43,.dc (iW (64*i+64))),(38,.dc (iW (64*(i+1))))] 3 Tryz.f116 [3,4,6,7] (dw (dw (ee (dK (de 6 Es))))) (Yr q m [(7,iW (64*i))]) [([((decide (Int.ofNat (64*i)<(Int.ofNat m.length))),true)],
   [(V.int aj (IntKind.i64.wrap (Int.ofNat (64*i)+(64:Int)))=iW (64*i+64)),((0:Int)<=Int.ofNat (64*i+64)/\Int.ofNat (64*i+64)<=(Int.ofNat m.length)),((0:Int)<=Int.ofNat (64*i)/\Int.ofNat (64*i)<=(Int.ofNat (64*i+64))),(64<=(List.drop (64*i) (List.take (64*i+64) m)).length),(V.agg (List.take 64 (List.drop 0 (List.map (fun x=>V.int IntKind.u32 x) gR)))=aR),(V.int aj (IntKind.i64.wrap (Int.ofNat (64*i)+(64:Int)))=iW (64*(i+1)))],
   .to .normal (Yr (y7 gR (BL m (64*i)) q) m [(7,iW (64*(i+1)))])),
  ([((decide (Int.ofNat (64*i)<(Int.ofNat m.length))),false)],
   [],
   .to (.exit 2) (Yr q m [(7,iW (64*i))]))]
 :=cQ.of U U U
theorem anD:c6 zn [] 3 Tryz.f116 [] (de 7 Es) (Yr q m [(7,iW (64*i))]) [([],
   [((0:Int)<=(0:Int)/\(0:Int)<(8:Int)),(0+(gi (IntKind.u64.wrap q.1)).length<=9223372036854775807),((0:Int)<=(1:Int)/\(1:Int)<(8:Int)),((([]:aa)++gi (IntKind.u64.wrap q.1)).length+(gi (IntKind.u64.wrap q.2.1)).length<=9223372036854775807),((0:Int)<=(2:Int)/\(2:Int)<(8:Int)),((([]:aa)++gi (IntKind.u64.wrap q.1)++gi (IntKind.u64.wrap q.2.1)).length+(gi (IntKind.u64.wrap q.2.2.1)).length<=9223372036854775807),((0:Int)<=(3:Int)/\(3:Int)<(8:Int)),((([]:aa)++gi (IntKind.u64.wrap q.1)++gi (IntKind.u64.wrap q.2.1)++gi (IntKind.u64.wrap q.2.2.1)).length+(gi (IntKind.u64.wrap q.2.2.2.1)).length<=9223372036854775807),((0:Int)<=(4:Int)/\(4:Int)<(8:Int)),((([]:aa)++gi (IntKind.u64.wrap q.1)++gi (IntKind.u64.wrap q.2.1)++gi (IntKind.u64.wrap q.2.2.1)++gi (IntKind.u64.wrap q.2.2.2.1)).length+(gi (IntKind.u64.wrap q.2.2.2.2.1)).length<=9223372036854775807),((0:Int)<=(5:Int)/\(5:Int)<(8:Int)),((([]:aa)++gi (IntKind.u64.wrap q.1)++gi (IntKind.u64.wrap q.2.1)++gi (IntKind.u64.wrap q.2.2.1)++gi (IntKind.u64.wrap q.2.2.2.1)++gi (IntKind.u64.wrap q.2.2.2.2.1)).length+(gi (IntKind.u64.wrap q.2.2.2.2.2.1)).length<=9223372036854775807),((0:Int)<=(6:Int)/\(6:Int)<(8:Int)),((([]:aa)++gi (IntKind.u64.wrap q.1)++gi (IntKind.u64.wrap q.2.1)++gi (IntKind.u64.wrap q.2.2.1)++gi (IntKind.u64.wrap q.2.2.2.1)++gi (IntKind.u64.wrap q.2.2.2.2.1)++gi (IntKind.u64.wrap q.2.2.2.2.2.1)).length+(gi (IntKind.u64.wrap q.2.2.2.2.2.2.1)).length<=9223372036854775807),((0:Int)<=(7:Int)/\(7:Int)<(8:Int)),((([]:aa)++gi (IntKind.u64.wrap q.1)++gi (IntKind.u64.wrap q.2.1)++gi (IntKind.u64.wrap q.2.2.1)++gi (IntKind.u64.wrap q.2.2.2.1)++gi (IntKind.u64.wrap q.2.2.2.2.1)++gi (IntKind.u64.wrap q.2.2.2.2.2.1)++gi (IntKind.u64.wrap q.2.2.2.2.2.2.1)).length+(gi (IntKind.u64.wrap q.2.2.2.2.2.2.2)).length<=9223372036854775807)],
   .ret (.str (([]:aa)++gi (IntKind.u64.wrap q.1)++gi (IntKind.u64.wrap q.2.1)++gi (IntKind.u64.wrap q.2.2.1)++gi (IntKind.u64.wrap q.2.2.2.1)++gi (IntKind.u64.wrap q.2.2.2.2.1)++gi (IntKind.u64.wrap q.2.2.2.2.2.1)++gi (IntKind.u64.wrap q.2.2.2.2.2.2.1)++gi (IntKind.u64.wrap q.2.2.2.2.2.2.2))) (hL []) 3)]
 :=cQ.of U U U
end
theorem VV{s t:aa}{j:Nat}(h:64*j+64<=s.length):BL (s++t) (64*j)=BL s (64*j):=by
 unfold BL;rw[bW h]
theorem Fv(rd:List Int)(s t:aa)(q:E8):∀n,64*n<=s.length->jP rd (s++t) q n=jP rd s q n
 |0,_=>rfl
 |n+1,h=>by
  show y7 rd (BL (s++t) (64*n)) (jP rd (s++t) q n)=y7 rd (BL s (64*n)) (jP rd s q n);rw[VV be,Fv rd s t q n be]
theorem Du(rd:List Int)(m:aa)(q:E8)(n0:Nat):∀k,jP rd m q (n0+k)=jP rd (m.drop (64*n0)) (jP rd m q n0) k
 |0=>rfl
 |k+1=>by
  show y7 rd (BL m (64*(n0+k))) (jP rd m q (n0+k))=y7 rd (BL (m.drop (64*n0)) (64*k)) _;rw[Du rd m q n0 k];congr 1;unfold BL;rw[List.take_drop,List.drop_drop,show 64*n0+(64*k+64)=64*(n0+k)+64 by omega,show 64*n0+64*k=64*(n0+k)by omega]
section
variable(s:aa)
def zo:aa:=s++(128::List.replicate (gZ s) 0)++mh (Int.ofNat (s.length*8))
theorem I6:(zo s).length=s.length/64*64+(mR s).length/\(mR s).length%64=0:=by
 unfold zo mR gZ;simp only[ax,aS,bK,bX,bg,bQ];have:(mh (Int.ofNat (s.length*8))).length=8:=rfl;rw[this];omega
theorem OI:(zo s).drop (64*(s.length/64))=mR s:=by
 unfold zo mR;rw[aW,bB,List.drop_append_of_le_length be,Nat.mul_comm 64,bB,bB];rfl
theorem VW:QS (jP gR (zo s) (KG gS) ((zo s).length/64))=Ej s:=by
 unfold Ej QT;congr 1;obtain⟨h1,h2⟩:=I6 s;have e:(zo s).length/64=s.length/64+(mR s).length/64:=by omega
 rw[e,Du,OI];congr 1;unfold zo;rw[bB];exact Fv gR s _ (KG gS) _ be
end
section
variable(k:Nat)(x:Int)
theorem Dv:(zs k).length=k+1:=by unfold zs;rw[aS,bK]
theorem VX:List.take ((k+1)*1) (List.drop 0 (zs k))++[0]=zs (k+1):=by
 rw[bw,br (by rw[Dv];omega)];unfold zs;rw[List.cons_append,List.replicate_succ']
theorem Sf:eN (List.take (k+1) (List.drop 0 (zs k)))=128::List.replicate k 0:=by
 rw[bw,br (by rw[Dv];omega)];unfold zs eN;rw[bN,List.map_replicate];rfl
theorem anE:IntKind.u64.wrap (IntKind.u64.wrap x)=IntKind.u64.wrap (IntKind.i64.wrap x):=by
 have h:∀y:Int,IntKind.u64.wrap y=y%18446744073709551616:=fun _=>rfl;have h2:IntKind.i64.wrap x=(if(decide (x%18446744073709551616>=9223372036854775808))=true then x%18446744073709551616-18446744073709551616 else x%18446744073709551616):=rfl;rw[h,h,h,h2];split<;>omega
theorem abe:gi (IntKind.u64.wrap x)=wB x:=by
 have h:IntKind.u64.wrap x=x%18446744073709551616:=rfl;rw[ann _ (by rw[h];omega) (by rw[h];omega)];unfold wB dN pB;rw[anE]
end
section
variable(s:aa)
theorem anF(hs:s.length<=1000000000):TG ak 3 Tryz.f116.ntmps Es (cS [.str s] .nil 3) (fG ak 3 Tryz.f116 fun u _ _=>u= .str (Ej s)):=by
 refine iL  4 Hs (anA s) cR ?_;refine tC [(5,.u8)] (s2:=sOa s 0) U ?_;show TG _ _ _ (de 4 Es) _ _;have hz:gZ s<64:=Nat.mod_lt _ dU;have hzm:(s.length+(gZ s+1))%64=56:=by unfold gZ;omega
 have Hj:∀k,k<gZ s->(s.length+(k+1))%64≠56:=fun k hk=>by unfold gZ at hk;omega
 have ha:∀k,k<=gZ s->V.int aj (IntKind.i64.wrap ((Int.ofNat s.length)+(Int.ofNat (k+1))))=iW (s.length+(k+1))/\V.int aj ((Int.ofNat (s.length+(k+1))).tmod (64:Int))=iW ((s.length+(k+1))%64):=fun k hk=>
  ⟨pA dh be,aM (V.int aj) (by rw[kU,cB be];rfl)⟩
 refine cV U ?_;refine jq 0 (gZ s) (fun k=>sOa s k) U U .refl (fun k hk=>?_) ?_
 . refine fZ Hs (af4 s k) fun g hg hc=>?_;rcases jk hg with rfl|rfl
   . refine⟨fm ((ha k be).1) (fm ((ha k be).2) (fm be (fm (by rw[Dv];omega) (fm dU (eU (jn be)))))),fun s1 fS=>?_⟩;rw[VX]at fS;exact .norm fS
   . have h:=hc _ (aq.2 rfl);dsimp only at h;have:Int.ofNat ((s.length+(k+1))%64)=56:=by simpa using h
     exact absurd (Int.ofNat.inj this) (Hj k hk)
 . refine fZ Hs (af4 s (gZ s)) fun g hg hc=>?_;rcases jk hg with rfl|rfl
   . have h:=hc _ (aq.2 rfl);dsimp only at h;rw[hzm]at h;exact absurd h dU
   refine⟨fm ((ha _ (aA _)).1) (eU ((ha _ (aA _)).2)),fun s1 fS=>⟨by simp,?_⟩⟩;rw[dX];refine c5 fS ?_;show TG _ _ _ (de 5 Es) _ _;refine cV U ?_;refine fZ Hs (anB s (gZ s)) (dG ?_);have hx:IntKind.u64.wrap ((8:Int)*IntKind.u64.wrap (Int.ofNat s.length))=Int.ofNat (s.length*8):=by
    show(8*(Int.ofNat s.length%18446744073709551616))%18446744073709551616=_;rw[kU,kU];omega
   have anG:s++eN (List.take (gZ s+1) (List.drop 0 (zs (gZ s))))++vz (IntKind.u64.wrap ((8:Int)*IntKind.u64.wrap (Int.ofNat s.length)))=zo s:=by
    rw[Sf,hx,af0 _ dh dh];rfl
   have NR:(eN (List.take (gZ s+1) (List.drop 0 (zs (gZ s))))).length=gZ s+1:=by rw[Sf,aS,bK]
   have Hp:∀x,(vz x).length=8:=fun _=>rfl;refine⟨fm (by rw[Dv];omega) (fm (by rw[NR];omega) (fm (by rw[Dv];omega) (eU (by rw[ax,NR,Hp];omega)))),fun s2 jg=>?_⟩;rw[anG]at jg;refine c5 jg ?_;have hml:=I6 s;have rE:=VW s;have hmb:(zo s).length<=2000000000:=by
    unfold zo;rw[ax,ax,aS,bK];have:(mh (Int.ofNat (s.length*8))).length=8:=rfl;omega
   obtain⟨n,hn⟩:∃n,(zo s).length=64*n:=⟨(zo s).length/64,be⟩;rw[hn,show 64*n/64=n by omega]at rE;generalize zo s=m at hn rE hmb ⊢;show TG _ _ _ (de 6 Es) _ _;refine cV U ?_;refine cV U ?_;refine fZ Hs (anC qS m) (dG ?_);refine⟨cR,fun s3 x9=>?_⟩;refine jq 2 n (fun i=>Yr (jP gR m (KG gS) i) m [(7,iW (64*i))]) U U (.norm x9) (fun i hi=>?_) ?_
   . refine fZ Hs (af5 (jP gR m (KG gS) i) m i) fun g hg hc=>?_;rcases jk hg with rfl|rfl
     . refine⟨fm (pA dh be) (fm (⟨az _,dh⟩) (fm (⟨az _,dh⟩) (fm (by rw[bX,bg];omega) (fm (rfl) (eU (pA dh be)))))),fun s4 I5=>.norm I5⟩
     . exact absurd (aK (hc _ (aq.2 rfl))) dh
   . refine fZ Hs (af5 (jP gR m (KG gS) n) m n) fun g hg hc=>?_;rcases jk hg with rfl|rfl
     . exact absurd (aH (hc _ (aq.2 rfl))) dh
     refine⟨cR,fun s4 I5=>⟨by simp,?_⟩⟩;rw[dX];refine c5 I5 ?_;refine fB Hs (anD (jP gR m (KG gS) n) m n) (dG ?_);refine⟨?_,_,_,_,rfl,?_⟩
     . repeat' (first|exact cR|refine jw ?_ ?_)
       all_goals first|exact⟨dU,dU⟩|exact au rfl
     . rw[<- rE];unfold QS;simp only[abe,gk,cE]
end
def Lr:ag->Option (ah×V)
 | [.str s]=>some ([s.length<=1000000000],.str (Ej s))
 |_=>none
theorem abf:jL ak 116 (jO Lr):=by
 refine kf (au U) fun args A v e=>?_;unfold Lr at e;split at e
 . obtain⟨rfl,rfl⟩:=fc e;exact⟨rfl,U,fun hA=>gT mo po Tryz.func116 U U rfl (anF _ (hA _ (by simp)))⟩
 . cases e
noncomputable abbrev W21:jQ:=kB 116 (jO Lr) W20
theorem Sg:gd ak W21:=fk abf Sa
noncomputable abbrev VY:fb:=gI ak W21 H0 1000 40
noncomputable abbrev X21:CX ak:=CX.of mo po Sg H0 1000 40
noncomputable abbrev Sh:Code:=dP Tryz.f117
noncomputable abbrev anI:Code:=dw (dw (ee (dK (de 2 Sh))))
section
variable(f:Bool)(ps:List (aa))(gr:aa)(i:Nat)
def sPi:St:=eF [(0,.dO f ps.length (strs ps)),(3,.str gr),(4,iW i)] (hL []) 3
theorem anJ:c6 VY [] 3 Tryz.f117 [0,3] (eR 2 Sh) (cS [.dO f ps.length (strs ps)] .nil 3) [([],
   [],
   .to .normal (eF [(0,.dO f ps.length (strs ps)),(3,.str [])] (hL []) 3))]
 :=cQ.of U U U
theorem anK:c6 VY [] 3 Tryz.f117 [0,3,4] (dK (dK (de 2 Sh))) (eF [(0,.dO f ps.length (strs ps)),(3,.str [])] (hL []) 3) [([],
   [],
   .to .normal (sPi f ps [] 0))]
 :=cQ.of U U U
theorem af8(p:aa)(i:Nat):c6 VY [(8,.split),(14,.dc (.dm [.str p])),(22,.dc (.dm [.str p])),(10,.dc (iW (i+1)))] 3 Tryz.f117 [0,3,4] (anI) (sPi f ps gr i) [([((decide (Int.ofNat i<(Int.ofNat ps.length))),true)],
   [((0:Int)<=Int.ofNat i/\Int.ofNat i<(Int.ofNat ps.length)),((strs ps).length=ps.length*1),(V.dm (dx (strs ps) (i*1) 1)=V.dm [D.str p]),(gr.length+(vz (IntKind.u64.wrap (Int.ofNat p.length))).length<=9223372036854775807),((0:Int)<=Int.ofNat i/\Int.ofNat i<(Int.ofNat ps.length)),((strs ps).length=ps.length*1),(V.dm (dx (strs ps) (i*1) 1)=V.dm [D.str p]),((gr++vz (IntKind.u64.wrap (Int.ofNat p.length))).length+p.length<=9223372036854775807),(V.int aj (IntKind.i64.wrap (Int.ofNat i+(1:Int)))=iW (i+1))],
   .to .normal (eF [(0,.dO f (ps.length) (strs ps)),(3,.str (gr++vz (IntKind.u64.wrap (Int.ofNat p.length))++p)),(4,.int .i64 (Int.ofNat (i+1)))] (hL []) 3)),
  ([((decide (Int.ofNat i<(Int.ofNat ps.length))),false)],
   [],
   .to (.exit 0) (eF [(0,.dO f (ps.length) (strs ps)),(3,.str gr),(4,.int .i64 (Int.ofNat i))] (hL []) 3))]
 :=cQ.of U U U
theorem anL:c6 VY [] 3 Tryz.f117 [] (ee (de 2 Sh)) (sPi f ps gr i) [([],
   [],
   .ret (.str gr) (hL []) 3)]
 :=cQ.of U U U
end
theorem Ls{ps:List (aa)}{i:Nat}(h:i<ps.length):eH (ps.take (i+1))=eH (ps.take i)++mh (Int.ofNat (ps[i]).length)++ps[i]:=by
 unfold eH;rw[bJ,ay h,cD,List.flatMap_append,List.flatMap_singleton,bB]
theorem OJ(ps:List (aa))(i:Nat):(eH (ps.take i)).length<=(eH ps).length:=by
 conv=>rhs;rw[<- ck i ps]
 unfold eH;rw[List.flatMap_append,ax];omega
theorem anM(f:Bool)(ps:List (aa))(hp:ps.length<=1000000)(hj:(eH ps).length<=1000000000):TG ak 3 Tryz.f117.ntmps Sh (cS [.dO f ps.length (strs ps)] .nil 3) (fG ak 3 Tryz.f117 fun u _ _=>u= .str (eH ps)):=by
 refine iL  2 X21 (anJ f ps) cR ?_;refine cV U ?_;refine cV U ?_;refine fZ X21 (anK f ps) (dG ?_);refine⟨cR,fun s' dL=>?_⟩;refine jq 0 ps.length (fun i=>sPi f ps (eH (ps.take i)) i) U U (.norm dL) (fun i hi=>?_) ?_
 . have hn:=Ls hi;have h1:=OJ ps (i+1);have kj:=aM V.dm (fI (ay hi));have hx:IntKind.u64.wrap (Int.ofNat ps[i].length)=Int.ofNat ps[i].length:=by
    have:ps[i].length<=1000000000:=by rw[hn,ax]at h1;omega
    show Int.ofNat ps[i].length%18446744073709551616=_;rw[kU];omega
   have hlp:ps[i].length<=1000000000:=by rw[hn,ax]at h1;omega
   refine fZ X21 (af8 f ps (eH (ps.take i)) ps[i] i) fun g hg hc=>?_;have h8:∀x,(vz x).length=8:=fun _=>rfl;have h8':(mh (Int.ofNat ps[i].length)).length=8:=rfl;rcases jk hg with rfl|rfl
   . rw[hn,ax,ax]at h1;refine⟨fm (⟨az _,dh⟩) (fm (by rw[eJ];omega) (fm (kj) (fm (by rw[h8];omega) (fm (⟨az _,dh⟩) (fm (by rw[eJ];omega) (fm (kj) (fm (by rw[ax,h8];omega) (eU (pA dh be))))))))),fun s1 fS=>?_⟩;rw[hx,af0 _ dh dh]at fS;show gC _ _ _ _ (sPi f ps (eH (ps.take (i+1))) (i+1));rw[hn];exact .norm fS
   . exact absurd (aK (hc _ (aq.2 rfl))) dh
 . refine fZ X21 (af8 f ps (eH (ps.take ps.length)) [] ps.length) fun g hg hc=>?_;rcases jk hg with rfl|rfl
   . exact absurd (aH (hc _ (aq.2 rfl))) dh
   refine⟨cR,fun s1 fS=>⟨by simp,?_⟩⟩;rw[dX];refine c5 fS ?_;refine fB X21 (anL f ps (eH (ps.take ps.length)) ps.length) (dG ?_);exact⟨cR,_,_,_,rfl,by rw[aW]⟩
def Lt:ai->Option (ah×V)
 | [.dO n cs]=>some ([cs=strs (dH cs),n=(dH cs).length,n<=1000000,(eH (dH cs)).length<=1000000000],.str (eH (dH cs)))
 |_=>none
theorem abg:jL ak 117 (Go.Eng.dW Lt):=by
 refine vk (au U) fun args A v e hA=>?_;unfold Lt at e;split at e
 case h_2=>cases e
 rename_i n cs;simp only[an,aB]at e;obtain⟨rfl,rfl⟩:=e;have e1:cs=strs (dH cs):=hA _ (by simp);have e2:n=(dH cs).length:=hA (n=(dH cs).length) (by simp);have e3:n<=1000000:=hA (n<=1000000) (by simp);have e4:(eH (dH cs)).length<=1000000000:=hA ((eH (dH cs)).length<=1000000000) (by simp);generalize dH cs=ps at *;subst e1 e2;exact gU mo po Tryz.func117 U U rfl rfl (ff (anM false ps e3 e4) fun y s h=>kg h)
noncomputable abbrev W22:jQ:=kB 117 (Go.Eng.dW Lt) W21
theorem Si:gd ak W22:=fk abg Sg
noncomputable abbrev VZ:fb:=gI ak W22 H0 1000 40
noncomputable abbrev X22:CX ak:=CX.of mo po Si H0 1000 40
noncomputable abbrev OK:Code:=dP Tryz.f69
noncomputable abbrev anO:Code:=dw (dw (ee (dK (de 2 OK))))
section
variable(rs ds:List (aa))(i:Nat)
def sDi:St:=eF [(1,.dO false rs.length (strs rs)),(5,.dj (some (3,0)) ds.length ds.length 1),(6,iW i)] (hL [(3,.deep (strs ds))]) 4
theorem anP(ps:List (aa)):c6 VZ [] 3 Tryz.f92 [] (dP Tryz.f92) (cS [.dO false ps.length (strs ps)] .nil 3) [([],
   [(strs ps=strs (dH (strs ps))),(ps.length=(dH (strs ps)).length),(ps.length<=1000000),((eH (dH (strs ps))).length<=1000000000),((eH (dH (strs ps))).length<=1000000000)],
   .ret (.str (Ej (eH (dH (strs ps))))) (hL []) 3)]
 :=cQ.of U U U
theorem anQ(d:aa)(rs:List (aa)):c6 VZ [] 3 Tryz.f69 [1,5] (eR 2 OK) (cS [.str d,.dO false rs.length (strs rs)] .nil 3) [([],
   [],
   .to .normal (eF [(1,.dO false (rs.length) (strs rs)),(5,.dj (some (3,0)) 1 1 1)] (hL [(3,.cells [.str d])]) 4))]
 :=cQ.of U U U
theorem anR:c6 VZ [] 3 Tryz.f69 [1,5,6] (dK (dK (de 2 OK))) (eF [(1,.dO false rs.length (strs rs)),(5,.dj (some (3,0)) ds.length ds.length 1)] (hL [(3,.deep (strs ds))]) 4) [([],
   [],
   .to .normal (sDi rs ds 0))]
 :=cQ.of U U U
theorem agb(p:aa):c6 VZ [(12,.split),(18,.dc (.dm [.str p])),(14,.dc (iW (i+1)))] 3 Tryz.f69 [1,5,6] (anO) (sDi rs ds i) [([((decide (Int.ofNat i<(Int.ofNat rs.length))),true)],
   [((0:Int)<=Int.ofNat i/\Int.ofNat i<(Int.ofNat rs.length)),((strs rs).length=rs.length*1),(V.dm (dx (strs rs) (i*1) 1)=V.dm [D.str p]),(0+ds.length*1<=(strs ds).length),(0<1),(eT (ds.length+1) 1 16=true),(V.int aj (IntKind.i64.wrap (Int.ofNat i+(1:Int)))=iW (i+1))],
   .to .normal (eF [(1,.dO false (rs.length) (strs rs)),(5,.dj (some (3,0)) (ds.length+1) (ds.length+1) 1),(6,.int .i64 (Int.ofNat (i+1)))] (hL [(3,.deep (List.take (ds.length*1) (List.drop 0 (strs ds))++[D.str p]))]) 4)),
  ([((decide (Int.ofNat i<(Int.ofNat rs.length))),false)],
   [],
   .to (.exit 0) (eF [(1,.dO false (rs.length) (strs rs)),(5,.dj (some (3,0)) (ds.length) (ds.length) 1),(6,.int .i64 (Int.ofNat i))] (hL [(3,.deep (strs ds))]) 4))]
 :=cQ.of U U U
end
def Lu:ai->Option (ah×V)
 | [.dO n cs]=>some ([cs=strs (dH cs),n=(dH cs).length,n<=1000000,(eH (dH cs)).length<=1000000000],.str (Ej (eH (dH cs))))
 |_=>none
theorem abh:jL ak 92 (Go.Eng.dW Lu):=by
 refine vk (au U) fun args A v e hA=>?_;unfold Lu at e;split at e
 case h_2=>cases e
 rename_i n cs;simp only[an,aB]at e;obtain⟨rfl,rfl⟩:=e;have e1:cs=strs (dH cs):=hA _ (by simp);have e2:n=(dH cs).length:=hA (n=(dH cs).length) (by simp);have e3:n<=1000000:=hA (n<=1000000) (by simp);have e4:(eH (dH cs)).length<=1000000000:=hA ((eH (dH cs)).length<=1000000000) (by simp);generalize dH cs=ps at *;subst e1 e2;refine gU mo po Tryz.func92 (code:=dP Tryz.f92) U U rfl rfl (ff (Q1:=fG ak 3 Tryz.f92 fun u _ _=>u= .str (Ej (eH ps))) ?_ fun y s h=>kg h);obtain⟨L,hr⟩:=anP ps;simp only[ik]at hr;refine gY X22 mo _ U hr (dG ?_);exact⟨fm trivial (fm trivial (fm e3 (fm e4 (eU e4)))),_,_,_,rfl,rfl⟩
noncomputable abbrev W23:jQ:=kB 92 (Go.Eng.dW Lu) W22
theorem Sj:gd ak W23:=fk abh Si
noncomputable abbrev anT:fb:=gI ak W23 H0 1000 40
noncomputable abbrev X23:CX ak:=CX.of mo po Sj H0 1000 40
theorem anU(ds:List (aa)):c6 anT [] 3 Tryz.f69 [] (ee (de 2 OK)) (eF [(5,.dO false ds.length (strs ds))] (hL []) 3) [([],
   [(strs ds=strs (dH (strs ds))),(ds.length=(dH (strs ds)).length),(ds.length<=1000000),((eH (dH (strs ds))).length<=1000000000)],
   .ret (.str (Ej (eH (dH (strs ds))))) (hL []) 3)]
 :=cQ.of U U U
theorem anV(d:aa)(rs:List (aa))(BA:rs.length<=100000)(hj:(eH (d::rs)).length<=1000000000):TG ak 3 Tryz.f69.ntmps OK (cS [.str d,.dO false rs.length (strs rs)] .nil 3) (fG ak 3 Tryz.f69 fun u _ _=>u= .str (dM d rs)):=by
 refine iL  2 X22 (anQ d rs) cR ?_;refine(gC.deep [3] (S:=eF [(1,.dO false rs.length (strs rs)),(5,.dj (some (3,0)) [d].length [d].length 1)] (hL [(3,.deep (strs [d]))]) 4) U) _ _ ?_;show TG _ _ _ (de 2 OK) _ _;refine cV U ?_;refine cV U ?_;refine fZ X22 (anR rs [d]) (dG ?_);refine⟨cR,fun s' dL=>?_⟩;refine jq 0 rs.length (fun i=>sDi rs (d::rs.take i) i) U U (.norm dL) (fun i hi=>?_) ?_
 . have kj:=aM V.dm (fI (ay hi));have hl:(d::rs.take i).length=i+1:=by rw[aS,bg];omega
   have hn:d::rs.take (i+1)=(d::rs.take i)++[rs[i]]:=by
    rw[bJ,ay hi,cD];rfl
   show TG _ _ _ _ _ (andThen (fun s'=>gC ak 3 Tryz.f69.ntmps s' (sDi rs (d::rs.take (i+1)) (i+1))) _);rw[hn];generalize d::rs.take i=ds at hl ⊢;refine fZ X22 (agb rs ds i rs[i]) fun g hg hc=>?_;rcases jk hg with rfl|rfl
   . refine⟨fm (⟨az _,dh⟩) (fm (by rw[eJ];omega) (fm (kj) (fm (by rw[eJ];omega) (fm dU (fm (pV be) (eU (pA dh be))))))),fun s1 fS=>?_⟩;have e:List.take (ds.length*1) (List.drop 0 (strs ds))++[D.str rs[i]]=strs (ds++[rs[i]]):=by
      rw[bw,bk,br (by rw[eJ];omega),Dp];rfl
     rw[e]at fS;unfold sDi;rw[ax];exact .norm fS
   . exact absurd (aK (hc _ (aq.2 rfl))) dh
 . refine fZ X22 (agb rs (d::rs.take rs.length) rs.length []) fun g hg hc=>?_;rcases jk hg with rfl|rfl
   . exact absurd (aH (hc _ (aq.2 rfl))) dh
   refine⟨cR,fun s1 fS=>⟨by simp,?_⟩⟩;rw[dX];rw[aW]at fS;have hdl:(d::rs).length<=1000000:=by rw[aS];omega
   show TG _ _ _ _ _ (fG ak 3 Tryz.f69 fun u _ _=>u= .str (Ej (eH (d::rs))));generalize d::rs=ds at fS hdl hj ⊢;refine((gC.norm fS).trans (.norm (live:=[5]) (S:=eF [(5,.dj (some (3,0)) ds.length ds.length 1)] (hL [(3,.deep (strs ds))]) 4) U)) _ _ ?_;refine xH [3] (A:=[(strs ds).length=ds.length*1]) (s2:=eF [(5,.dO false ds.length (strs ds))] ((hL [(3,.deep (strs ds))]).set 3 none) 4) U (eU (by rw[eJ,bk])) ?_;refine c5 (live:=[5]) (s2:=eF [(5,.dO false ds.length (strs ds))] (hL []) 3) U ?_;obtain⟨L4,Ef⟩:=anU ds;simp only[ik]at Ef;refine gY X23 mo _ U Ef (dG ?_);exact⟨fm trivial (fm trivial (fm hdl (eU hj))),_,_,_,rfl,rfl⟩
def Lv:ai->Option (ah×V)
 | [.str d,.dO n cs]=>some ([cs=strs (dH cs),n=(dH cs).length,n<=100000,(eH (d::dH cs)).length<=1000000000],.str (dM d (dH cs)))
 |_=>none
theorem Sk:jL ak 69 (Go.Eng.dW Lv):=by
 refine vk (au U) fun args A v e hA=>?_;unfold Lv at e;split at e
 case h_2=>cases e
 rename_i d n cs;simp only[an,aB]at e;obtain⟨rfl,rfl⟩:=e;have e1:cs=strs (dH cs):=hA _ (by simp);have e2:n=(dH cs).length:=hA (n=(dH cs).length) (by simp);have e3:n<=100000:=hA (n<=100000) (by simp);have e4:(eH (d::dH cs)).length<=1000000000:=hA ((eH (d::dH cs)).length<=1000000000) (by simp);generalize dH cs=ps at *;subst e1 e2;exact gU mo po Tryz.func69 U U rfl rfl (ff (anV d ps e3 e4) fun y s h=>kg h)
def gp:ai->List gH
 | .str a:: .str b:: .dO _ cs::r=>⟨a,b,dH cs⟩::gp r
 |_=>[]
def oS:ai->List (aa×aa)
 | .str a:: .str b::r=>(a,b)::oS r
 |_=>[]
theorem jr:∀l:List gH,gp (fq l)=l
 | []=>rfl
 |c::l=>by
  show gH.mk c.dg c.da (dH (strs c.rs))::gp (fq l)=_;rw[ik,jr l]
theorem pC:∀l:List (aa×aa),oS (fh l)=l
 | []=>rfl
 |p::l=>by
  show(p.1,p.2)::oS (fh l)=_;rw[pC l]
abbrev I7(n:Nat)(cs:ai)(m:Nat)(rs:ai):ah:=[cs=fq (gp cs),n=(gp cs).length,rs=fh (oS rs),m=(oS rs).length,n<=1000000,m<=1000000]
def Lw:ai->Option (ah×V)
 | [.agg [.dO n cs,.dO m rs],.str x]=>some (I7 n cs m rs,.int .i64 (fU (gp cs) x))
 |_=>none
def Lx:ai->Option (ah×V)
 | [.agg [.dO n cs,.dO m rs],.str x]=>some (I7 n cs m rs,.str (gM x (oS rs)))
 |_=>none
theorem tL{n m:Nat}{cs rs:ai}(h:∀a∈I7 n cs m rs,a):∃s:RS,cs=fq s.cs/\n=s.cs.length/\rs=fh s.ro/\m=s.ro.length/\s.cs.length<=1000000/\s.ro.length<=1000000/\gp cs=s.cs/\oS rs=s.ro:=by
 have h1:=h (cs=fq (gp cs)) (by simp);have h2:=h (n=(gp cs).length) (by simp);have h3:=h (rs=fh (oS rs)) (by simp);have h4:=h (m=(oS rs).length) (by simp);have h5:=h (n<=1000000) (by simp);have h6:=h (m<=1000000) (by simp);exact⟨⟨gp cs,oS rs⟩,h1,h2,h3,h4,by show(gp cs).length<=_;omega,by show(oS rs).length<=_;omega,rfl,rfl⟩
theorem abi:jL ak 70 (Go.Eng.dW Lw):=by
 refine vk (au U) fun args A v e hA=>?_;unfold Lw at e;split at e
 case h_2=>cases e
 rename_i n cs m rs x;simp only[an,aB]at e;obtain⟨rfl,rfl⟩:=e;obtain⟨s,h1,h2,h3,h4,h5,h6,h7,h8⟩:=tL hA;rw[h7];clear h7 h8 hA;subst h1 h2 h3 h4;exact gU mo po Tryz.func70 U U rfl rfl (ff (anx s x h5) fun y s h=>kg h)
theorem abj:jL ak 115 (Go.Eng.dW Lx):=by
 refine vk (au U) fun args A v e hA=>?_;unfold Lx at e;split at e
 case h_2=>cases e
 rename_i n cs m rs x;simp only[an,aB]at e;obtain⟨rfl,rfl⟩:=e;obtain⟨s,h1,h2,h3,h4,h5,h6,h7,h8⟩:=tL hA;rw[h8];clear h7 h8 hA;subst h1 h2 h3 h4;exact gU mo po Tryz.func115 U U rfl rfl (ff (anz s x h6) fun y s h=>kg h)
noncomputable abbrev W24:jQ:=kB 115 (Go.Eng.dW Lx) (kB 70 (Go.Eng.dW Lw) (kB 69 (Go.Eng.dW Lv) W23))
theorem Sl:gd ak W24:=fk abj (fk abi (fk Sk Sj))
noncomputable abbrev um:fb:=gI ak W24 H0 1000 40
noncomputable abbrev D3:CX ak:=CX.of mo po Sl H0 1000 40
noncomputable abbrev xW:Code:=dP Tryz.f37
section
variable(s:RS)(d:aa)(rs:List (aa))
abbrev pH(rs:List (aa)):V:=.dO false rs.length (strs rs)
def MR(r:List (Nat×V)):St:=eF ([(1,.str d),(2,pH rs),(3,.ptr (some (3,0))),(6,.ptr (some (4,0)))]++r) (hL [(3,bx s),(4,.cells [.dj none 0 0 0,.dj none 0 0 0,.str [],.int .i64 0,.bool false])]) 5
end
section
variable(s:RS)
theorem anX(d:aa)(rs:List (aa)):c6 um [(13,.dc (.bool false)),(17,.dc (.bool false))] 3 Tryz.f37 [1,2,3,6] (eR 2 xW) (cS [s.v,.str d,pH rs] .nil 3) [([],
   [(V.bool (decide ((Int.ofNat d.length)>(65536:Int)))=V.bool false),(V.bool (decide ((Int.ofNat rs.length)>(1024:Int)))=V.bool false)],
   .to .normal (MR s d rs []))]
 :=cQ.of U U U
noncomputable abbrev anY:Code:=dw (dw (ee (dK (de 2 xW))))
noncomputable abbrev anZ:Code:=dw (dw (ee (dK (de 3 xW))))
theorem an0(d:aa)(rs:List (aa)):c6 um [] 3 Tryz.f37 [1,2,3,6,7] (dK (dK (de 2 xW))) (MR s d rs []) [([],
   [],
   .to .normal (MR s d rs [(7,iW 0)]))]
 :=cQ.of U U U
theorem agc(d:aa)(rs:List (aa))(i:Nat)(p:aa):c6 um [(24,.split),(29,.dc (.dm [.str p])),(32,.dc (.bool false)),(26,.dc (iW (i+1)))] 3 Tryz.f37 [1,2,3,6,7] (anY) (MR s d rs [(7,iW i)]) [([((decide (Int.ofNat i<(Int.ofNat rs.length))),true)],
   [((0:Int)<=Int.ofNat i/\Int.ofNat i<(Int.ofNat rs.length)),((strs rs).length=rs.length*1),(V.dm (dx (strs rs) (i*1) 1)=V.dm [D.str p]),(V.bool ((Int.ofNat p.length) !=(32:Int))=V.bool false),(V.int aj (IntKind.i64.wrap (Int.ofNat i+(1:Int)))=iW (i+1))],
   .to .normal (eF [(1,.str d),(2,.dO false (rs.length) (strs rs)),(3,.ptr (some (3,0))),(6,.ptr (some (4,0))),(7,.int .i64 (Int.ofNat (i+1)))] (hL [(3,.cells [.dO false (s.cs.length) (fq s.cs),.dO false (s.ro.length) (fh s.ro)]),(4,.cells [.dj none 0 0 0,.dj none 0 0 0,.str [],.int .i64 0,.bool false])]) 5)),
  ([((decide (Int.ofNat i<(Int.ofNat rs.length))),false)],
   [],
   .to (.exit 0) (eF [(1,.str d),(2,.dO false (rs.length) (strs rs)),(3,.ptr (some (3,0))),(6,.ptr (some (4,0))),(7,.int .i64 (Int.ofNat i))] (hL [(3,.cells [.dO false (s.cs.length) (fq s.cs),.dO false (s.ro.length) (fh s.ro)]),(4,.cells [.dj none 0 0 0,.dj none 0 0 0,.str [],.int .i64 0,.bool false])]) 5))]
 :=cQ.of U U U
theorem an1(d:aa)(rs:List (aa))(i:Nat):c6 um [] 3 Tryz.f37 [1,2,3,6,8] (dK (dK (de 3 xW))) (MR s d rs [(7,iW i)]) [([],
   [],
   .to .normal (MR s d rs [(8,iW 0)]))]
 :=cQ.of U U U
theorem agd(d:aa)(rs:List (aa))(i:Nat)(p:aa):c6 um [(38,.split),(44,.dc (.dm [.str p])),(47,.split),(40,.dc (iW (i+1)))] 3 Tryz.f37 [1,2,3,6,8] (anZ) (MR s d rs [(8,iW i)]) [([((decide (Int.ofNat i<(Int.ofNat rs.length))),true),((decide (fU (gp (fq s.cs)) p<(0:Int))),true)],
   [((0:Int)<=Int.ofNat i/\Int.ofNat i<(Int.ofNat rs.length)),((strs rs).length=rs.length*1),(V.dm (dx (strs rs) (i*1) 1)=V.dm [D.str p]),(fq s.cs=fq (gp (fq s.cs))),(s.cs.length=(gp (fq s.cs)).length),(fh s.ro=fh (oS (fh s.ro))),(s.ro.length=(oS (fh s.ro)).length),(s.cs.length<=1000000),(s.ro.length<=1000000)],
   .ret (.agg [.dO false (s.cs.length) (fq s.cs),.dO false (s.ro.length) (fh s.ro),.str [],.int .i64 63,.bool false]) (hL []) 3),
  ([((decide (Int.ofNat i<(Int.ofNat rs.length))),true),((decide (fU (gp (fq s.cs)) p<(0:Int))),false)],
   [((0:Int)<=Int.ofNat i/\Int.ofNat i<(Int.ofNat rs.length)),((strs rs).length=rs.length*1),(V.dm (dx (strs rs) (i*1) 1)=V.dm [D.str p]),(fq s.cs=fq (gp (fq s.cs))),(s.cs.length=(gp (fq s.cs)).length),(fh s.ro=fh (oS (fh s.ro))),(s.ro.length=(oS (fh s.ro)).length),(s.cs.length<=1000000),(s.ro.length<=1000000),(V.int aj (IntKind.i64.wrap (Int.ofNat i+(1:Int)))=iW (i+1))],
   .to .normal (eF [(1,.str d),(2,.dO false (rs.length) (strs rs)),(3,.ptr (some (3,0))),(6,.ptr (some (4,0))),(8,.int .i64 (Int.ofNat (i+1)))] (hL [(3,.cells [.dO false (s.cs.length) (fq s.cs),.dO false (s.ro.length) (fh s.ro)]),(4,.cells [.dj none 0 0 0,.dj none 0 0 0,.str [],.int .i64 0,.bool false])]) 5)),
  ([((decide (Int.ofNat i<(Int.ofNat rs.length))),false)],
   [],
   .to (.exit 2) (eF [(1,.str d),(2,.dO false (rs.length) (strs rs)),(3,.ptr (some (3,0))),(6,.ptr (some (4,0))),(8,.int .i64 (Int.ofNat i))] (hL [(3,.cells [.dO false (s.cs.length) (fq s.cs),.dO false (s.ro.length) (fh s.ro)]),(4,.cells [.dj none 0 0 0,.dj none 0 0 0,.str [],.int .i64 0,.bool false])]) 5))]
 :=cQ.of U U U
theorem an2(d:aa)(rs:List (aa))(i:Nat):c6 um [] 3 Tryz.f37 [1,2,3,6,9] (dK (de 4 xW)) (MR s d rs [(8,iW i)]) [([],
   [(strs rs=strs (dH (strs rs))),(rs.length=(dH (strs rs)).length),(rs.length<=100000),((eH (d::dH (strs rs))).length<=1000000000)],
   .to .normal (eF [(1,.str d),(2,.dO false (rs.length) (strs rs)),(3,.ptr (some (3,0))),(6,.ptr (some (4,0))),(9,.str (dM d (dH (strs rs))))] (hL [(3,.cells [.dO false (s.cs.length) (fq s.cs),.dO false (s.ro.length) (fh s.ro)]),(4,.cells [.dj none 0 0 0,.dj none 0 0 0,.str [],.int .i64 0,.bool false])]) 5))]
 :=cQ.of U U U
theorem an3(d:aa)(rs:List (aa))(x:aa):c6 um [(56,.split)] 3 Tryz.f37 [1,2,3,6,9] (dK (de 5 xW)) (MR s d rs [(9,.str x)]) [([((decide (fU (gp (fq s.cs)) x>=(0:Int))),true)],
   [(fq s.cs=fq (gp (fq s.cs))),(s.cs.length=(gp (fq s.cs)).length),(fh s.ro=fh (oS (fh s.ro))),(s.ro.length=(oS (fh s.ro)).length),(s.cs.length<=1000000),(s.ro.length<=1000000)],
   .ret (.agg [.dO false (s.cs.length) (fq s.cs),.dO false (s.ro.length) (fh s.ro),.str x,.int .i64 0,.bool false]) (hL []) 3),
  ([((decide (fU (gp (fq s.cs)) x>=(0:Int))),false)],
   [(fq s.cs=fq (gp (fq s.cs))),(s.cs.length=(gp (fq s.cs)).length),(fh s.ro=fh (oS (fh s.ro))),(s.ro.length=(oS (fh s.ro)).length),(s.cs.length<=1000000),(s.ro.length<=1000000)],
   .to .normal (eF [(1,.str d),(2,.dO false (rs.length) (strs rs)),(3,.ptr (some (3,0))),(6,.ptr (some (4,0))),(9,.str x)] (hL [(3,.cells [.dO false (s.cs.length) (fq s.cs),.dO false (s.ro.length) (fh s.ro)]),(4,.cells [.dj none 0 0 0,.dj none 0 0 0,.str [],.int .i64 0,.bool false])]) 5))]
 :=cQ.of U U U
theorem an4(d:aa)(rs:List (aa))(x:aa):c6 um [] 3 Tryz.f37 [3,6,9,10] (dK (de 6 xW)) (MR s d rs [(9,.str x)]) [([],
   [((strs rs).length=rs.length*1),(eT (0+rs.length) 1 16=true)],
   .to .normal (eF [(3,.ptr (some (3,0))),(6,.ptr (some (4,0))),(9,.str x),(10,.ptr (some (5,0)))] (hL [(3,.cells [.dO false (s.cs.length) (fq s.cs),.dO false (s.ro.length) (fh s.ro)]),(4,.cells [.dj none 0 0 0,.dj none 0 0 0,.str [],.int .i64 0,.bool false]),(5,.cells [.str x,.str d,.dj (some (6,0)) (0+rs.length) (0+rs.length) 1]),(6,.deep ([]++strs rs))]) 7))]
 :=cQ.of U U U
def sPq(c:gH):St:=eF [(3,.ptr (some (3,0))),(6,.ptr (some (4,0))),(9,.str c.dg),(10,.ptr (some (5,0)))] (hL [(3,bx s),(4,.cells [.dj none 0 0 0,.dj none 0 0 0,.str [],.int .i64 0,.bool false]),(5,.cells [.str c.dg,.str c.da,.dO false c.rs.length (strs c.rs)])]) 6
theorem an5(c:gH):c6 um [] 3 Tryz.f37 [] (de 7 xW) (sPq s c) [([],
   [((fq s.cs).length=s.cs.length*3),(eT (0+s.cs.length) 3 56=true),(0+(0+s.cs.length)*3<=([]++fq s.cs).length),(0<1),(eT (0+s.cs.length+1) 3 56=true)],
   .ret (.agg [.dj (some (3,0)) (0+s.cs.length+1) (0+s.cs.length+1) 3,.dO false (s.ro.length) (fh s.ro),.str (c.dg),.int .i64 0,.bool true]) (hL [(3,.deep (List.take ((0+s.cs.length)*3) (List.drop 0 ([]++fq s.cs))++[D.str c.dg,D.str c.da,D.dO c.rs.length (strs c.rs)]))]) 4)]
 :=cQ.of U U U
end
structure RR where
 s:RS
 dg:aa
 er:Int
 ch:Bool
def RR.v(r:RR):V:=.agg [.dO false r.s.cs.length (fq r.s.cs),.dO false r.s.ro.length (fh r.s.ro),.str r.dg,.int .i64 r.er,.bool r.ch]
def jv(s:RS)(d:aa)(rs:List (aa)):RR:=
 if ∃r∈rs,fU s.cs r<0 then⟨s,[],63,false⟩
 else if 0<=fU s.cs (dM d rs)then⟨s,dM d rs,0,false⟩
 else⟨⟨s.cs++[⟨dM d rs,d,rs⟩],s.ro⟩,dM d rs,0,true⟩
theorem MS(a b:List gH):fq (a++b)=fq a++fq b:=by unfold fq;rw[aX,cn]
theorem Dw{k:Nat}(h:k<=1000000):eT k 3 56=true:=by
 unfold eT;exact bM ⟨be,be⟩
section
variable(s:RS)(d:aa)(rs:List (aa))
abbrev okS(s:RS):ah:=[fq s.cs=fq (gp (fq s.cs)),s.cs.length=(gp (fq s.cs)).length,fh s.ro=fh (oS (fh s.ro)),s.ro.length=(oS (fh s.ro)).length,s.cs.length<=1000000,s.ro.length<=1000000]
theorem Aw{s:RS}(h1:s.cs.length<=1000000)(h2:s.ro.length<=1000000):∀a∈okS s,a:=by
 have e1:=jr s.cs;have e2:=pC s.ro;exact fm (by rw[e1]) (fm (by rw[e1]) (fm (by rw[e2]) (fm (by rw[e2]) (fm h1 (eU h2)))))
theorem js{a b:ah}(ha:∀x∈a,x)(hb:∀x∈b,x):∀x∈a++b,x:=fun x hx=>by
 rcases aT.1 hx with h|h
 . exact ha x h
 . exact hb x h
theorem an6(h1:s.cs.length<=100000)(h2:s.ro.length<=1000000)(hd:d.length<=65536)(hn:rs.length<=1024)(h32:∀x∈rs,x.length=32):
  TG ak 3 Tryz.f37.ntmps xW (cS [s.v,.str d,pH rs] .nil 3) (fG ak 3 Tryz.f37 (nG (jv s d rs).v)):=by
 have iD:=Aw (s:=s) be h2;have hj:(eH (d::rs)).length<=1000000000:=by
  have:=jM d rs h32;omega
 refine iL  2 D3 (anX s d rs) (fm (aM V.bool (bD dh)) (eU (aM V.bool (bD dh)))) ?_;show TG _ _ _ (de 2 xW) _ _;refine cV U ?_;refine cV U ?_;obtain⟨L2,Fc⟩:=an0 s d rs;refine gh D3 mo kS U Fc (dG ?_);refine⟨cR,fun s' dL=>?_⟩;refine jq 0 rs.length (fun i=>MR s d rs [(7,iW i)]) U U (.norm dL) (fun i hi=>?_) ?_
 . have kj:=aM V.dm (fI (ay hi));refine fZ D3 (agc s d rs i rs[i]) fun g hg hc=>?_;rcases jk hg with rfl|rfl
   . have h3:=h32 rs[i] (bY hi);exact⟨fm (⟨az _,dh⟩) (fm (by rw[eJ];omega) (fm (kj) (fm (by rw[h3];rfl) (eU (pA dh be))))),fun s1 fS=>.norm fS⟩
   . exact absurd (aK (hc _ (aq.2 rfl))) dh
 refine fZ D3 (agc s d rs rs.length []) fun g hg hc=>?_;rcases jk hg with rfl|rfl
 . exact absurd (aH (hc _ (aq.2 rfl))) dh
 refine⟨cR,fun s1 fS=>⟨by simp,?_⟩⟩;rw[dX];refine c5 fS ?_;show TG _ _ _ (de 3 xW) _ _;refine cV U ?_;refine cV U ?_;refine fZ D3 (an1 s d rs rs.length) (dG ?_);refine⟨cR,fun s2 jg=>?_⟩;refine jC (α:=Nat) 2 (fun i=>rs.length-i) (fun i=>i<=rs.length/\∀j,(h:j<rs.length)->j<i->¬fU s.cs rs[j]<0) (fun i=>MR s d rs [(8,iW i)]) U U 0 ⟨aZ _,fun j _ h=>by omega⟩ (.norm jg) fun i ⟨hi,hf⟩=>?_;rcases bP i rs.length with fF|zJ
 . have kj:=aM V.dm (fI (ay fF));obtain⟨L5,uj⟩:=agd s d rs i rs[i];refine gh D3 mo (nG (jv s d rs).v) U uj fun g hg hc=>?_;rcases xP hg with rfl|rfl|rfl
   . have h3:=aH (hc _ (aJ _ (aq.2 rfl)));rw[jr]at h3;refine⟨js (a:=[_,_,_]) (fm (⟨az _,dh⟩) (fm (by rw[eJ];omega) (eU (kj)))) iD,?_,fun s3 x9=>x9⟩;unfold jv;rw[aG ⟨rs[i],bY fF,h3⟩];exact nG.self
   . have h3:=aK (hc _ (aJ _ (aq.2 rfl)));rw[jr]at h3;refine⟨js (a:=[_,_,_]) (fm (⟨az _,dh⟩) (fm (by rw[eJ];omega) (eU (kj)))) (js (a:=okS s) (b:=[_]) iD (eU (pA dh be))),fun s3 x9=>⟨i+1,be,⟨be,fun j hj hji=>?_⟩,.norm x9⟩⟩;rcases bP j i with q|q
     . exact hf j hj q
     . obtain rfl:j=i:=by omega
       exact h3
   . exact absurd (aK (hc _ (aq.2 rfl))) dh
 obtain rfl:i=rs.length:=by omega
 obtain⟨L5,uj⟩:=agd s d rs rs.length [];refine gh D3 mo (nG (jv s d rs).v) U uj fun g hg hc=>?_;rcases xP hg with rfl|rfl|rfl
 . exact absurd (aH (hc _ (aP ..))) dh
 . exact absurd (aH (hc _ (aP ..))) dh
 refine⟨cR,fun s3 x9=>?_⟩;simp only[andThen,dX];refine c5 x9 ?_;have tV:¬∃r∈rs,fU s.cs r<0:=by
  rintro⟨r,hr,Fc⟩;obtain⟨j,hj,rfl⟩:=List.getElem_of_mem hr;exact hf j hj hj Fc
 show TG _ _ _ (de 4 xW) _ _;refine cV U ?_;obtain⟨L6,Hr⟩:=an2 s d rs rs.length;simp only[ik]at Hr;refine gh D3 mo kS U Hr (dG ?_);refine⟨fm trivial (fm trivial (fm be (eU hj))),fun s4 I5=>c5 I5 ?_⟩;show TG _ _ _ (de 5 xW) (MR s d rs [(9,.str (dM d rs))]) _;refine cV U ?_;obtain⟨L7,hr7⟩:=an3 s d rs (dM d rs);refine gh D3 mo (nG (jv s d rs).v) U hr7 fun g hg hc=>?_;rcases jk hg with rfl|rfl
 . have h3:=aH (hc _ (aq.2 rfl));rw[jr]at h3;refine⟨iD,?_,fun s5 hs5=>hs5⟩;unfold jv;rw[aI tV,aG h3];exact nG.self
 have h3:=aK (hc _ (aq.2 rfl));rw[jr]at h3;refine⟨iD,fun s5 hs5=>c5 hs5 ?_⟩;show TG _ _ _ (de 6 xW) (MR s d rs [(9,.str (dM d rs))]) _;have hp:jv s d rs=⟨⟨s.cs++[⟨dM d rs,d,rs⟩],s.ro⟩,dM d rs,0,true⟩:=by unfold jv;rw[aI tV,aI h3]
 rw[hp];refine cV U ?_;refine fZ D3 (an4 s d rs (dM d rs)) (dG ?_);refine⟨fm (by rw[eJ,bk]) (eU (pV be)),fun s6 hs6=>?_⟩;rw[bI,cE]at hs6;refine c5 hs6 ?_;generalize dM d rs=x;refine xH [6] (A:=[(strs rs).length=rs.length*1]) (s2:=eF [(3,.ptr (some (3,0))),(6,.ptr (some (4,0))),(9,.str x),(10,.ptr (some (5,0)))] ((hL [(3,bx s),(4,.cells [.dj none 0 0 0,.dj none 0 0 0,.str [],.int .i64 0,.bool false]),(5,.cells [.str x,.str d,.dO false rs.length (strs rs)]),(6,.deep (strs rs))]).set 6 none) 7) U (eU (by rw[eJ,bk])) ?_;refine c5 (live:=[3,6,9,10]) (s2:=sPq s ⟨x,d,rs⟩) U ?_;refine fB D3 (an5 s ⟨x,d,rs⟩) (dG ?_);have rJ:=kC s.cs;refine⟨fm (rJ) (fm (Dw be) (fm (by rw[cE,rJ];omega) (fm dU (eU (Dw be))))),_,_,_,rfl,?_⟩;have e:List.take ((0+s.cs.length)*3) (List.drop 0 ([]++fq s.cs))++[D.str x,D.str d,D.dO rs.length (strs rs)]=fq (s.cs++[⟨x,d,rs⟩]):=by
  rw[cE,bw,br (by rw[rJ];omega),MS];rfl
 have e2:0+s.cs.length+1=(s.cs++[gH.mk x d rs]).length:=by rw[ax];simp
 rw[e,e2];generalize s.cs++[gH.mk x d rs]=cs;exact⟨[[3]],[(fq cs).length=cs.length*3],{ fr:=Tr.nil.set 0 (some (RR.v ⟨⟨cs,s.ro⟩,x,0,true⟩)),h:=(hL [(3,.deep (fq cs))]).set 3 none,n:=4,gz:=[] },U,eU (kC _),U⟩
end
noncomputable abbrev zq:Code:=dP Tryz.f90
section
variable(s:RS)(n x:aa)
def o76:O:=.cells [.dj none 0 0 0,.dj none 0 0 0,.str [],.int .i64 0,.bool false]
def sSr(r:List (Nat×V)):St:=eF ([(1,.str n),(2,.str x),(3,.ptr (some (3,0))),(6,.ptr (some (4,0)))]++r) (hL [(3,bx s),(4,o76)]) 5
def V0(m:Nat)(o:O)(dn:Bool)(r:List (Nat×V)):St:=eF ([(1,.str n),(2,.str x),(3,.ptr (some (3,0))),(6,.ptr (some (4,0))),(8,.dj (some (5,0)) m m 2),(9,.bool dn)]++r) (hL [(3,bx s),(4,o76),(5,o)]) 6
end
theorem an7(s:RS)(n x:aa):c6 um [] 3 Tryz.f90 [1,2,3,6,7] (eR 2 zq) (cS [s.v,.str n,.str x] .nil 3) [([],
   [(fq s.cs=fq (gp (fq s.cs))),(s.cs.length=(gp (fq s.cs)).length),(fh s.ro=fh (oS (fh s.ro))),(s.ro.length=(oS (fh s.ro)).length),(s.cs.length<=1000000),(s.ro.length<=1000000)],
   .to .normal (eF [(1,.str n),(2,.str x),(3,.ptr (some (3,0))),(6,.ptr (some (4,0))),(7,.str (gM n (oS (fh s.ro))))] (hL [(3,.cells [.dO false (s.cs.length) (fq s.cs),.dO false (s.ro.length) (fh s.ro)]),(4,.cells [.dj none 0 0 0,.dj none 0 0 0,.str [],.int .i64 0,.bool false])]) 5))]
 :=cQ.of U U U
section
variable(s:RS)(n x rK:aa)(m i:Nat)(cs:ai)(dn:Bool)
theorem agf:c6 um [(16,.dc (.bool false)),(20,.dc (.bool false)),(26,.dc (.bool true)),(31,.split),(37,.dc (.bool true)),(40,.split),(46,.dc (.bool false)),(53,.split)] 3 Tryz.f90 [1,2,3,6] (dK (de 2 zq)) (sSr s n x [(7,.str rK)]) [([((decide (fU (gp (fq s.cs)) x<(0:Int))),true)],
   [(V.bool (eG n ([]:aa))=V.bool false),(V.bool (decide ((Int.ofNat n.length)>(64:Int)))=V.bool false),((V.bool !eG x ([]:aa))=V.bool true),(fq s.cs=fq (gp (fq s.cs))),(s.cs.length=(gp (fq s.cs)).length),(fh s.ro=fh (oS (fh s.ro))),(s.ro.length=(oS (fh s.ro)).length),(s.cs.length<=1000000),(s.ro.length<=1000000)],
   .ret (.agg [.dO false (s.cs.length) (fq s.cs),.dO false (s.ro.length) (fh s.ro),.str [],.int .i64 62,.bool false]) (hL []) 3),
  ([((decide (fU (gp (fq s.cs)) x<(0:Int))),false),((eG rK ([]:aa)),true),((eG x rK),true)],
   [(V.bool (eG n ([]:aa))=V.bool false),(V.bool (decide ((Int.ofNat n.length)>(64:Int)))=V.bool false),((V.bool !eG x ([]:aa))=V.bool true),(fq s.cs=fq (gp (fq s.cs))),(s.cs.length=(gp (fq s.cs)).length),(fh s.ro=fh (oS (fh s.ro))),(s.ro.length=(oS (fh s.ro)).length),(s.cs.length<=1000000),(s.ro.length<=1000000),((V.bool !eG x ([]:aa))=V.bool true),(V.bool (decide ((Int.ofNat s.ro.length)>=(64:Int)))=V.bool false)],
   .ret (.agg [.dO false (s.cs.length) (fq s.cs),.dO false (s.ro.length) (fh s.ro),.str [],.int .i64 0,.bool false]) (hL []) 3),
  ([((decide (fU (gp (fq s.cs)) x<(0:Int))),false),((eG rK ([]:aa)),true),((eG x rK),false)],
   [(V.bool (eG n ([]:aa))=V.bool false),(V.bool (decide ((Int.ofNat n.length)>(64:Int)))=V.bool false),((V.bool !eG x ([]:aa))=V.bool true),(fq s.cs=fq (gp (fq s.cs))),(s.cs.length=(gp (fq s.cs)).length),(fh s.ro=fh (oS (fh s.ro))),(s.ro.length=(oS (fh s.ro)).length),(s.cs.length<=1000000),(s.ro.length<=1000000),((V.bool !eG x ([]:aa))=V.bool true),(V.bool (decide ((Int.ofNat s.ro.length)>=(64:Int)))=V.bool false)],
   .to .normal (eF [(1,.str n),(2,.str x),(3,.ptr (some (3,0))),(6,.ptr (some (4,0)))] (hL [(3,.cells [.dO false (s.cs.length) (fq s.cs),.dO false (s.ro.length) (fh s.ro)]),(4,.cells [.dj none 0 0 0,.dj none 0 0 0,.str [],.int .i64 0,.bool false])]) 5)),
  ([((decide (fU (gp (fq s.cs)) x<(0:Int))),false),((eG rK ([]:aa)),false),((eG x rK),true)],
   [(V.bool (eG n ([]:aa))=V.bool false),(V.bool (decide ((Int.ofNat n.length)>(64:Int)))=V.bool false),((V.bool !eG x ([]:aa))=V.bool true),(fq s.cs=fq (gp (fq s.cs))),(s.cs.length=(gp (fq s.cs)).length),(fh s.ro=fh (oS (fh s.ro))),(s.ro.length=(oS (fh s.ro)).length),(s.cs.length<=1000000),(s.ro.length<=1000000),((V.bool !eG x ([]:aa))=V.bool true)],
   .ret (.agg [.dO false (s.cs.length) (fq s.cs),.dO false (s.ro.length) (fh s.ro),.str [],.int .i64 0,.bool false]) (hL []) 3),
  ([((decide (fU (gp (fq s.cs)) x<(0:Int))),false),((eG rK ([]:aa)),false),((eG x rK),false)],
   [(V.bool (eG n ([]:aa))=V.bool false),(V.bool (decide ((Int.ofNat n.length)>(64:Int)))=V.bool false),((V.bool !eG x ([]:aa))=V.bool true),(fq s.cs=fq (gp (fq s.cs))),(s.cs.length=(gp (fq s.cs)).length),(fh s.ro=fh (oS (fh s.ro))),(s.ro.length=(oS (fh s.ro)).length),(s.cs.length<=1000000),(s.ro.length<=1000000),((V.bool !eG x ([]:aa))=V.bool true)],
   .to .normal (eF [(1,.str n),(2,.str x),(3,.ptr (some (3,0))),(6,.ptr (some (4,0)))] (hL [(3,.cells [.dO false (s.cs.length) (fq s.cs),.dO false (s.ro.length) (fh s.ro)]),(4,.cells [.dj none 0 0 0,.dj none 0 0 0,.str [],.int .i64 0,.bool false])]) 5))]
 :=cQ.of U U U
theorem agh:c6 um [(16,.dc (.bool false)),(20,.dc (.bool false)),(53,.split)] 3 Tryz.f90 [1,2,3,6] (dK (de 2 zq)) (sSr s n [] [(7,.str rK)]) [([((eG [] rK),true)],
   [(V.bool (eG n ([]:aa))=V.bool false),(V.bool (decide ((Int.ofNat n.length)>(64:Int)))=V.bool false)],
   .ret (.agg [.dO false (s.cs.length) (fq s.cs),.dO false (s.ro.length) (fh s.ro),.str [],.int .i64 0,.bool false]) (hL []) 3),
  ([((eG [] rK),false)],
   [(V.bool (eG n ([]:aa))=V.bool false),(V.bool (decide ((Int.ofNat n.length)>(64:Int)))=V.bool false)],
   .to .normal (eF [(1,.str n),(2,.str []),(3,.ptr (some (3,0))),(6,.ptr (some (4,0)))] (hL [(3,.cells [.dO false (s.cs.length) (fq s.cs),.dO false (s.ro.length) (fh s.ro)]),(4,.cells [.dj none 0 0 0,.dj none 0 0 0,.str [],.int .i64 0,.bool false])]) 5))]
 :=cQ.of U U U
theorem an8:c6 um [(58,.dc (.bool dn))] 3 Tryz.f90 [1,2,3,6,8,9] (eR 2 (de 3 zq)) (sSr s n x []) [([],
   [(V.bool (eG x ([]:aa))=V.bool dn)],
   .to .normal (eF [(1,.str n),(2,.str x),(3,.ptr (some (3,0))),(6,.ptr (some (4,0))),(8,.dj (some (5,0)) 0 0 2),(9,.bool dn)] (hL [(3,.cells [.dO false (s.cs.length) (fq s.cs),.dO false (s.ro.length) (fh s.ro)]),(4,.cells [.dj none 0 0 0,.dj none 0 0 0,.str [],.int .i64 0,.bool false]),(5,.cells [])]) 6))]
 :=cQ.of U U U
theorem an9:c6 um [] 3 Tryz.f90 [1,2,3,6,8,9,10] (dK (dK (de 5 zq))) (V0 s n x m (.deep cs) dn []) [([],
   [],
   .to .normal (V0 s n x m (.deep cs) dn [(10,iW 0)]))]
 :=cQ.of U U U
abbrev MT:Prop:=V.int aj (IntKind.i64.wrap (Int.ofNat i+(1:Int)))=iW (i+1)
theorem Ys(i:Nat)(p q:aa):c6 um [(63,.split),(87,.dc (.dm [.str p,.str q])),(91,.split),(96,.dc (.dm [.str p,.str q])),(65,.dc (iW (i+1)))] 3 Tryz.f90 [1,2,3,6,8,9,10] (dw (dw (ee (dK (de 5 zq))))) (V0 s n x m (.deep cs) true [(10,iW i)]) [([((decide (Int.ofNat i<(Int.ofNat s.ro.length))),true),((!eG p n),true)],
   [((0:Int)<=Int.ofNat i/\Int.ofNat i<(Int.ofNat s.ro.length)),((fh s.ro).length=s.ro.length*2),(V.dm (dx (fh s.ro) (i*2) 2)=V.dm [D.str p,D.str q]),((0:Int)<=Int.ofNat i/\Int.ofNat i<(Int.ofNat s.ro.length)),((fh s.ro).length=s.ro.length*2),(V.dm (dx (fh s.ro) (i*2) 2)=V.dm [D.str p,D.str q]),(0+m*2<=cs.length),(0<1),(eT (m+1) 2 32=true),MT i],
   .to .normal (eF [(1,.str n),(2,.str x),(3,.ptr (some (3,0))),(6,.ptr (some (4,0))),(8,.dj (some (5,0)) (m+1) (m+1) 2),(9,.bool true),(10,.int .i64 (Int.ofNat (i+1)))] (hL [(3,.cells [.dO false (s.cs.length) (fq s.cs),.dO false (s.ro.length) (fh s.ro)]),(4,.cells [.dj none 0 0 0,.dj none 0 0 0,.str [],.int .i64 0,.bool false]),(5,.deep (List.take (m*2) (List.drop 0 cs)++[D.str p,D.str q]))]) 6)),
  ([((decide (Int.ofNat i<(Int.ofNat s.ro.length))),true),((!eG p n),false)],
   [((0:Int)<=Int.ofNat i/\Int.ofNat i<(Int.ofNat s.ro.length)),((fh s.ro).length=s.ro.length*2),(V.dm (dx (fh s.ro) (i*2) 2)=V.dm [D.str p,D.str q]),MT i],
   .to .normal (eF [(1,.str n),(2,.str x),(3,.ptr (some (3,0))),(6,.ptr (some (4,0))),(8,.dj (some (5,0)) m m 2),(9,.bool true),(10,.int .i64 (Int.ofNat (i+1)))] (hL [(3,.cells [.dO false (s.cs.length) (fq s.cs),.dO false (s.ro.length) (fh s.ro)]),(4,.cells [.dj none 0 0 0,.dj none 0 0 0,.str [],.int .i64 0,.bool false]),(5,.deep cs)]) 6)),
  ([((decide (Int.ofNat i<(Int.ofNat s.ro.length))),false)],
   [],
   .to (.exit 1) (eF [(1,.str n),(2,.str x),(3,.ptr (some (3,0))),(6,.ptr (some (4,0))),(8,.dj (some (5,0)) m m 2),(9,.bool true),(10,.int .i64 (Int.ofNat i))] (hL [(3,.cells [.dO false (s.cs.length) (fq s.cs),.dO false (s.ro.length) (fh s.ro)]),(4,.cells [.dj none 0 0 0,.dj none 0 0 0,.str [],.int .i64 0,.bool false]),(5,.deep cs)]) 6))]
 :=cQ.of U U U
abbrev BQ:Prop:=V.int aj (IntKind.i64.wrap (Int.ofNat i+(1:Int)))=iW (i+1)
theorem Yt(i:Nat)(p q:aa):c6 um [(63,.split),(73,.dc (.dm [.str p,.str q])),(76,.split),(87,.dc (.dm [.str p,.str q])),(91,.split),(96,.dc (.dm [.str p,.str q])),(65,.dc (iW (i+1)))] 3 Tryz.f90 [1,2,3,6,8,9,10] (dw (dw (ee (dK (de 5 zq))))) (V0 s n x m (.deep cs) false [(10,iW i)]) [([((decide (Int.ofNat i<(Int.ofNat s.ro.length))),true),((yc n p),true),((!eG p n),true)],
   [((0:Int)<=Int.ofNat i/\Int.ofNat i<(Int.ofNat s.ro.length)),((fh s.ro).length=s.ro.length*2),(V.dm (dx (fh s.ro) (i*2) 2)=V.dm [D.str p,D.str q]),(0+m*2<=cs.length),(0<1),(eT (m+1) 2 32=true),((0:Int)<=Int.ofNat i/\Int.ofNat i<(Int.ofNat s.ro.length)),((fh s.ro).length=s.ro.length*2),(V.dm (dx (fh s.ro) (i*2) 2)=V.dm [D.str p,D.str q]),((0:Int)<=Int.ofNat i/\Int.ofNat i<(Int.ofNat s.ro.length)),((fh s.ro).length=s.ro.length*2),(V.dm (dx (fh s.ro) (i*2) 2)=V.dm [D.str p,D.str q]),(0+(m+1)*2<=(List.take (m*2) (List.drop 0 cs)++[D.str n,D.str x]).length),(0<1),(eT (m+1+1) 2 32=true),BQ i],
   .to .normal (eF [(1,.str n),(2,.str x),(3,.ptr (some (3,0))),(6,.ptr (some (4,0))),(8,.dj (some (5,0)) (m+1+1) (m+1+1) 2),(9,.bool true),(10,.int .i64 (Int.ofNat (i+1)))] (hL [(3,.cells [.dO false (s.cs.length) (fq s.cs),.dO false (s.ro.length) (fh s.ro)]),(4,.cells [.dj none 0 0 0,.dj none 0 0 0,.str [],.int .i64 0,.bool false]),(5,.deep (List.take ((m+1)*2) (List.drop 0 (List.take (m*2) (List.drop 0 cs)++[D.str n,D.str x]))++[D.str p,D.str q]))]) 6)),
  ([((decide (Int.ofNat i<(Int.ofNat s.ro.length))),true),((yc n p),true),((!eG p n),false)],
   [((0:Int)<=Int.ofNat i/\Int.ofNat i<(Int.ofNat s.ro.length)),((fh s.ro).length=s.ro.length*2),(V.dm (dx (fh s.ro) (i*2) 2)=V.dm [D.str p,D.str q]),(0+m*2<=cs.length),(0<1),(eT (m+1) 2 32=true),((0:Int)<=Int.ofNat i/\Int.ofNat i<(Int.ofNat s.ro.length)),((fh s.ro).length=s.ro.length*2),(V.dm (dx (fh s.ro) (i*2) 2)=V.dm [D.str p,D.str q]),BQ i],
   .to .normal (eF [(1,.str n),(2,.str x),(3,.ptr (some (3,0))),(6,.ptr (some (4,0))),(8,.dj (some (5,0)) (m+1) (m+1) 2),(9,.bool true),(10,.int .i64 (Int.ofNat (i+1)))] (hL [(3,.cells [.dO false (s.cs.length) (fq s.cs),.dO false (s.ro.length) (fh s.ro)]),(4,.cells [.dj none 0 0 0,.dj none 0 0 0,.str [],.int .i64 0,.bool false]),(5,.deep (List.take (m*2) (List.drop 0 cs)++[D.str n,D.str x]))]) 6)),
  ([((decide (Int.ofNat i<(Int.ofNat s.ro.length))),true),((yc n p),false),((!eG p n),true)],
   [((0:Int)<=Int.ofNat i/\Int.ofNat i<(Int.ofNat s.ro.length)),((fh s.ro).length=s.ro.length*2),(V.dm (dx (fh s.ro) (i*2) 2)=V.dm [D.str p,D.str q]),((0:Int)<=Int.ofNat i/\Int.ofNat i<(Int.ofNat s.ro.length)),((fh s.ro).length=s.ro.length*2),(V.dm (dx (fh s.ro) (i*2) 2)=V.dm [D.str p,D.str q]),((0:Int)<=Int.ofNat i/\Int.ofNat i<(Int.ofNat s.ro.length)),((fh s.ro).length=s.ro.length*2),(V.dm (dx (fh s.ro) (i*2) 2)=V.dm [D.str p,D.str q]),(0+m*2<=cs.length),(0<1),(eT (m+1) 2 32=true),BQ i],
   .to .normal (eF [(1,.str n),(2,.str x),(3,.ptr (some (3,0))),(6,.ptr (some (4,0))),(8,.dj (some (5,0)) (m+1) (m+1) 2),(9,.bool false),(10,.int .i64 (Int.ofNat (i+1)))] (hL [(3,.cells [.dO false (s.cs.length) (fq s.cs),.dO false (s.ro.length) (fh s.ro)]),(4,.cells [.dj none 0 0 0,.dj none 0 0 0,.str [],.int .i64 0,.bool false]),(5,.deep (List.take (m*2) (List.drop 0 cs)++[D.str p,D.str q]))]) 6)),
  ([((decide (Int.ofNat i<(Int.ofNat s.ro.length))),true),((yc n p),false),((!eG p n),false)],
   [((0:Int)<=Int.ofNat i/\Int.ofNat i<(Int.ofNat s.ro.length)),((fh s.ro).length=s.ro.length*2),(V.dm (dx (fh s.ro) (i*2) 2)=V.dm [D.str p,D.str q]),((0:Int)<=Int.ofNat i/\Int.ofNat i<(Int.ofNat s.ro.length)),((fh s.ro).length=s.ro.length*2),(V.dm (dx (fh s.ro) (i*2) 2)=V.dm [D.str p,D.str q]),BQ i],
   .to .normal (eF [(1,.str n),(2,.str x),(3,.ptr (some (3,0))),(6,.ptr (some (4,0))),(8,.dj (some (5,0)) m m 2),(9,.bool false),(10,.int .i64 (Int.ofNat (i+1)))] (hL [(3,.cells [.dO false (s.cs.length) (fq s.cs),.dO false (s.ro.length) (fh s.ro)]),(4,.cells [.dj none 0 0 0,.dj none 0 0 0,.str [],.int .i64 0,.bool false]),(5,.deep cs)]) 6)),
  ([((decide (Int.ofNat i<(Int.ofNat s.ro.length))),false)],
   [],
   .to (.exit 1) (eF [(1,.str n),(2,.str x),(3,.ptr (some (3,0))),(6,.ptr (some (4,0))),(8,.dj (some (5,0)) m m 2),(9,.bool false),(10,.int .i64 (Int.ofNat i))] (hL [(3,.cells [.dO false (s.cs.length) (fq s.cs),.dO false (s.ro.length) (fh s.ro)]),(4,.cells [.dj none 0 0 0,.dj none 0 0 0,.str [],.int .i64 0,.bool false]),(5,.deep cs)]) 6))]
 :=cQ.of U U U
theorem agi(i:Nat):c6 um [] 3 Tryz.f90 [] (de 6 zq) (V0 s n x m (.deep cs) true [(10,iW i)]) [([],
   [],
   .ret (.agg [.dO false (s.cs.length) (fq s.cs),.dj (some (3,0)) m m 2,.str [],.int .i64 0,.bool true]) (hL [(3,.deep cs)]) 4)]
 :=cQ.of U U U
theorem agj(i:Nat):c6 um [] 3 Tryz.f90 [] (de 6 zq) (V0 s n x m (.deep cs) false [(10,iW i)]) [([],
   [(0+m*2<=cs.length),(0<1),(eT (m+1) 2 32=true)],
   .ret (.agg [.dO false (s.cs.length) (fq s.cs),.dj (some (3,0)) (m+1) (m+1) 2,.str [],.int .i64 0,.bool true]) (hL [(3,.deep (List.take (m*2) (List.drop 0 cs)++[D.str n,D.str x]))]) 4)]
 :=cQ.of U U U
end
end Go.Proofs.YtfihojpgobmmdaaGreatDoor
