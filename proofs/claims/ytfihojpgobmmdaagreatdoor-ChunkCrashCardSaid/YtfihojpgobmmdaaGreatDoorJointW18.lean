/- The Chunk laws: the roots in order, the calls. No conditions. -/
import Derived.Test.YtfihojpgobmmdaaGreatDoorJointW17
import Derived.Test.YtfihojpgobmmdaaGreatDoorJointW15
set_option linter.unusedVariables false
set_option linter.unusedSimpArgs false
set_option linter.unusedSectionVars false
set_option maxRecDepth 20000
namespace Go.Proofs.YtfihojpgobmmdaaGreatDoor
open Go Go.Eng
theorem OZ{a b c:aa}(h:a<=b)(k:b<=c):a<=c:=List.le_trans h k
theorem O0(a b:aa):a<=b\/b<=a:=List.le_total a b
theorem Jd{a b:aa}(h:a<=b)(k:b<=a):a=b:=List.le_antisymm h k
section
variable(l:List (aa))
theorem tK:List.Perm (iQ l) l:=List.mergeSort_perm ..
theorem xU:(iQ l).Pairwise (. <=·):=by
 have:=List.pairwise_mergeSort (le:=fun x y:aa=>decide (x<=y)) (fun a b c h k=>by simp only[bC]at *;exact OZ h k) (fun a b=>by simp only[bT,bC];exact O0 a b) l;exact this.imp fun h=>aH h
end
theorem Sb{a b:List (aa)}(h:List.Perm a b):iQ a=iQ b:=
 List.Perm.eq_of_pairwise (le:=(. <=·)) (fun _ _ _ _ h k=>Jd h k) (xU a) (xU b) (((tK a).trans h).trans (tK b).symm)
theorem Ft:iQ []=[]:=cH.1 (by rw[sE];rfl)
theorem O1(x:aa):iQ [x]=[x]:=by
 have h:=tK [x];exact List.perm_singleton.1 h
theorem Bh{a b:ae}(h:List.Perm a b):List.Perm (dJ a) (dJ b):=h.map _
theorem xV(a:ae):(dJ a).length=a.length:=by unfold dJ;rw[aW]
section
variable(cO cP:Nat)(b:aa)(fl nx lf:Int)(es rt:ae)
abbrev RKy(v:V)(h:Tr O)(n:Nat):Prop:=∃ks,List.Perm ks (dJ rt)/\v=G7 8 ks/\h=xT cO cP b fl nx lf es rt (Bg 8 ks)/\n=nK 8 ks
theorem Sc(hk:zq rt)(hl:rt.length<=1000000):fU ak 113 [eI,w88] (xT cO cP b fl nx lf es rt []) 8 (RKy cO cP b fl nx lf es rt):=by
 refine gF mo po Tryz.func113 (code:=RB) U U ?_;refine iO  1 (XQ []) (amG cO cP b fl nx lf es rt) cR ?_;show TG ak 8 Tryz.f113.ntmps Az (eF [(1,w88),(2,P 8)] (hL (lK cO cP b fl nx lf es rt++[(8,.cells [eI])])) 9) _;refine cV U ?_;refine cV U ?_;refine fR (XQ []) (amH cO cP b fl nx lf es rt) (dG ?_);refine⟨cR,fun s' dL=>?_⟩;have dL:eX 8 [2,6] s'=some (sKa cO cP b fl nx lf es rt):=dL;refine c6 dL ?_;refine fg (i:=0) U ?_;refine oh (gf:=88) (lb:=[.ptr (some (7,0))]) U U U U U (VK cO cP b fl nx lf es rt hk hl) ?_;rintro v h n ⟨iD,hp,rfl,rfl,rfl⟩;have Sd:=Bh hp
 match DY:dJ iD,Sd with
 | [],Sd=>
   refine⟨U,?_⟩;show TG ak 8 Tryz.f113.ntmps (dV Az) _ _;refine fu (XQ []) (amJ cO cP b fl nx lf es rt) (dG ?_);exact⟨cR,_,_,_,rfl,[],Sd,rfl,rfl,rfl⟩
 | [x],Sd=>
   refine⟨U,?_⟩;show TG ak 8 Tryz.f113.ntmps (dV Az) _ _;refine fu (XQ []) (amL cO cP b fl nx lf es rt x) (dG ?_);exact⟨cR,_,_,_,rfl,[x],Sd,rfl,rfl,rfl⟩
 |x::y::ks,Sd=>
  refine⟨U,?_⟩;show TG ak 8 Tryz.f113.ntmps (dV Az) _ _;refine fu (XQ []) (amI cO cP b fl nx lf es rt (x::y::ks).length (strs (x::y::ks))) (dG ?_);exact⟨cR,_,_,_,rfl,x::y::ks,Sd,rfl,rfl,rfl⟩
theorem VL(hk:zq rt)(hl:rt.length<=1000000):fU ak 86 [w88] (xT cO cP b fl nx lf es rt []) 8 (RKy cO cP b fl nx lf es rt):=by
 refine gF mo po Tryz.func86 (code:=Ep) U U ?_;refine iO  1 (XQ []) (amM cO cP b fl nx lf es rt) cR ?_;refine cV U ?_;refine p9 1 (s1:={ fr:=(Bb [(0,w88)]).set 3 (some w88),h:=xT cO cP b fl nx lf es rt [],n:=8,gz:=[] }) (f:=113) (args:=[eI,w88]) U U U U U U (Sc cO cP b fl nx lf es rt hk hl) ?_;rintro v h n ⟨ks,hp,rfl,rfl,rfl⟩
 match ks,hp with
 | [],hp=>
   refine⟨(((Bb [(0,w88)]).set 3 (some w88)).set 4 (some eI)),sC2 (xT cO cP b fl nx lf es rt []) 8 eI,U,U,?_⟩;obtain⟨L5,ue⟩:=amO cO cP b fl nx lf es rt;show TG ak 8 Tryz.f86.ntmps (dV (de 1 Ep)) _ _;refine iq (XQ []) mo _ U ue (dG ?_);exact⟨cR,_,_,_,rfl,[],hp,rfl,rfl,rfl⟩
 | [x],hp=>
   refine⟨(((Bb [(0,w88)]).set 3 (some w88)).set 4 (some (.di (some (8,0)) 1 1 1))),sC2 (xT cO cP b fl nx lf es rt [(8,.cells [.str x])]) 9 (.di (some (8,0)) 1 1 1),U,U,?_⟩;obtain⟨L5,ue⟩:=amP cO cP b fl nx lf es rt x;show TG ak 8 Tryz.f86.ntmps (dV (de 1 Ep)) _ _;refine iq (XQ []) mo _ U ue (dG ?_);exact⟨cR,_,_,_,rfl,[x],hp,rfl,rfl,rfl⟩
 |x::y::ks,hp=>
  refine⟨(((Bb [(0,w88)]).set 3 (some w88)).set 4 (some (.di (some (8,0)) (x::y::ks).length (x::y::ks).length 1))),sC2 (xT cO cP b fl nx lf es rt [(8,.deep (strs (x::y::ks)))]) 9 (.di (some (8,0)) (x::y::ks).length (x::y::ks).length 1),U,U,?_⟩;obtain⟨L5,ue⟩:=amN cO cP b fl nx lf es rt (x::y::ks).length (strs (x::y::ks));show TG ak 8 Tryz.f86.ntmps (dV (de 1 Ep)) _ _;refine iq (XQ []) mo _ U ue (dG ?_);exact⟨cR,_,_,_,rfl,x::y::ks,hp,rfl,rfl,rfl⟩
theorem VM{m:Nat}{ks:List (aa)}(h:2<=ks.length):G7 m ks= .di (some (m,0)) ks.length ks.length 1/\Bg m ks=[(m,.deep (strs ks))]/\nK m ks=m+1:=by
 match ks,h with
 |x::y::ks,_=>exact⟨rfl,rfl,rfl⟩
theorem VN(hk:zq rt)(hl:rt.length<1000000):cU ak 61 [w88] (xT cO cP b fl nx lf es rt []) 8 (G7 8 (iQ (dJ rt))) (xT cO cP b fl nx lf es rt (Bg 8 (iQ (dJ rt)))) (nK 8 (iQ (dJ rt))):=by
 refine c5 Tryz.func61 (code:=Eo) U U ?_;refine iO  1 (XQ []) (amQ cO cP b fl nx lf es rt) cR ?_;refine cV U ?_;refine p9 1 (s1:={ fr:=(Bb [(0,w88)]).set 4 (some w88),h:=xT cO cP b fl nx lf es rt [],n:=8,gz:=[] }) (f:=86) (args:=[w88]) U U U U U U (VL cO cP b fl nx lf es rt hk (Nat.le_of_lt hl)) ?_;rintro v h n ⟨ks,hp,rfl,rfl,rfl⟩;rw[<- Sb hp];have iT:ks.length<1000000:=by rw[hp.length_eq,xV];exact hl
 match ks,iT with
 | [],_=>
   rw[Ft];refine⟨(((Bb [(0,w88)]).set 4 (some w88)).set 5 (some eI)),sS2 (xT cO cP b fl nx lf es rt []) 8 eI,U,U,?_⟩;show TG ak 8 Tryz.f61.ntmps (de 2 Eo) _ _;refine fu (XQ []) (amS cO cP b fl nx lf es rt) (dG ?_);exact⟨fun p hp=>by rw[aq]at hp;subst hp;decide,_,_,_,rfl,rfl,rfl,rfl⟩
 | [x],_=>
   rw[O1];refine⟨(((Bb [(0,w88)]).set 4 (some w88)).set 5 (some (.di (some (8,0)) 1 1 1))),sS2 (xT cO cP b fl nx lf es rt [(8,.cells [.str x])]) 9 (.di (some (8,0)) 1 1 1),U,U,?_⟩;show TG ak 8 Tryz.f61.ntmps (de 2 Eo) _ _;refine fu (XQ []) (amT cO cP b fl nx lf es rt x) (dG ?_);exact⟨fun p hp=>by rw[aq]at hp;subst hp;decide,_,_,_,rfl,rfl,rfl,rfl⟩
 |x::y::ks,iT=>
  obtain⟨z1,z2,z3⟩:=VM (m:=8) (ks:=iQ (x::y::ks)) (by rw[sE];simp);rw[z1,z2,z3,sE];refine⟨(((Bb [(0,w88)]).set 4 (some w88)).set 5 (some (.di (some (8,0)) (x::y::ks).length (x::y::ks).length 1))),sS2 (xT cO cP b fl nx lf es rt [(8,.deep (strs (x::y::ks)))]) 9 (.di (some (8,0)) (x::y::ks).length (x::y::ks).length 1),U,U,?_⟩;show TG ak 8 Tryz.f61.ntmps (de 2 Eo) _ _;obtain⟨L5,ue⟩:=amR cO cP b fl nx lf es rt (x::y::ks).length (strs (x::y::ks)) (strs (iQ (x::y::ks)));have hc:cU ak 87 [.di (some (8,0)) (x::y::ks).length (x::y::ks).length 1] (xT cO cP b fl nx lf es rt [(8,.deep (strs (x::y::ks)))]) 9 (.ef []) ((xT cO cP b fl nx lf es rt [(8,.deep (strs (x::y::ks)))]).set 8 (some (.deep (strs (iQ (x::y::ks)))))) 9:=
   I8 Vf (ss:=x::y::ks) U (au rfl) (Nat.succ_pos _) rfl iT
  refine iq ((XQ []).jt (au U) hc) mo _ U ue (dG ?_);exact⟨fun p hp=>by rw[aq]at hp;subst hp;exact Dg,_,_,_,rfl,rfl,rfl,rfl⟩
theorem G8(hk:zq rt)(hl:rt.length<1000000):cU ak 23 [P3] (eu (pS cO cP b fl nx lf es rt)) 7 (G7 7 (iQ (dJ rt))) (hKf cO cP b fl nx lf es rt (Bg 7 (iQ (dJ rt)))) (nK 7 (iQ (dJ rt))):=by
 have h61:=VN cO cP b fl nx lf es rt hk hl;refine c5 Tryz.func23 (code:=OL) U U ?_
 match DY:iQ (dJ rt),h61 with
 | [],h61=>
   refine fu ((XQ []).jt (au U) h61) (afX cO cP b fl nx lf es rt) (dG ?_);exact⟨fun p hp=>by rw[aq]at hp;subst hp;exact Dg,_,_,_,rfl,rfl,rfl,rfl⟩
 | [x],h61=>
   refine fu ((XQ []).jt (au U) h61) (afY cO cP b fl nx lf es rt x) (dG ?_);exact⟨fun p hp=>by rw[aq]at hp;subst hp;exact Dg,_,_,_,rfl,rfl,rfl,rfl⟩
 |x::y::ks,h61=>
  refine fu ((XQ []).jt (au U) h61) (afW cO cP b fl nx lf es rt (x::y::ks).length (strs (x::y::ks))) (dG ?_);exact⟨fun p hp=>by rw[aq]at hp;subst hp;exact Dg,_,_,_,rfl,rfl,rfl,rfl⟩
end
def g81:V:=.fn (.func 81) [] [.ptr (some (9,0))]
def g56:V:=.fn (.func 56) [] [.ptr (some (7,0))]
section
variable(cO cP:Nat)(b:aa)(fl nx lf:Int)(es rt:ae)(ks:List (aa))
def lS:af:=eP (pS cO cP b fl nx lf es rt)++[(7,.cells [P3]),(8,.dy none (nI ks)),(9,.cells [.map (some 8)])]
def lSx:af:=eP (pS cO cP b fl nx lf es rt)++[(7,.cells [P3]),(9,.cells [.map (some 8)])]
def sSa:St:=eF [(2,P 10),(6,g81)] (hL (lS cO cP b fl nx lf es rt ks++[(10,.cells [eI])])) 11
noncomputable def oSa:O:=.loop true none (sSa cO cP b fl nx lf es rt ks).fr [7] U7 U8
noncomputable def Yw(sl:V)(row:af):Tr O:=hL (lS cO cP b fl nx lf es rt ks++[(10,.cells [sl]),(11,.mA),(12,oSa cO cP b fl nx lf es rt ks)]++row)
noncomputable def Es(sl:V)(row:af)(n:Nat):St:=eF [(0,.fn (.yield 12) [] []),(5,P 13)] (hL (lSx cO cP b fl nx lf es rt++[(10,.cells [sl]),(11,.mA),(12,oSa cO cP b fl nx lf es rt ks)]++row)) n
def w6(row:af):Tr O:=hL (lS cO cP b fl nx lf es rt ks++row)
end
section
variable(cO:Nat)(h:Tr O)(cP:Nat)(b:aa)(fl nx lf:Int)(n:Nat)(es rt:ae)(ks:List (aa))(k:aa)
theorem amU(v:V):c7 (kW []) [] 14 Tryz.f81 [0,5] ((sA Em).rest) (T3 (Es cO cP b fl nx lf es rt ks eI [] 14) k v) [([],
   [],
   .to .normal (Es cO cP b fl nx lf es rt ks (.di (some (14,0)) 1 1 1) [(14,.cells [.str k])] 15))]
 :=cQ.of U U U
theorem amV(v:V)(n:Nat)(cs:ai):c7 (kW []) [] 14 Tryz.f81 [0,5] ((sA Em).rest) (T3 (Es cO cP b fl nx lf es rt ks (.di (some (14,0)) n n 1) [(14,.deep cs)] 15) k v) [([],
   [(0+n*1<=cs.length),(0<1),(eT (n+1) 1 16=true)],
   .to .normal (eF [(0,.fn (.yield 12) [] []),(5,.ptr (some (13,0)))] (hL (eP (pS cO cP b fl nx lf es rt)++[(7,.cells [.ptr (some (3,0))]),(9,.cells [.map (some 8)]),(10,.cells [.di (some (14,0)) (n+1) (n+1) 1]),(11,.mA),(12,.loop true none (Eng.Bb [(2,.ptr (some (10,0))),(6,.fn (.func 81) [] [.ptr (some (9,0))])]) [7] U7 U8),(14,.deep (List.take (n*1) (List.drop 0 cs)++[D.str k]))])) 15))]
 :=cQ.of U U U
theorem amW:c7 (kW []) [] 10 Tryz.f100 [1,2] (eO 1 RA) (cT [eI,g81] (w6 cO cP b fl nx lf es rt ks []) 10) [([],
   [],
   .to .normal (eF [(1,g81),(2,P 10)] (hL (lS cO cP b fl nx lf es rt ks++[(10,.cells [eI])])) 11))]
 :=cQ.of U U U
theorem amX:c7 (kW []) [] 10 Tryz.f100 [2,6] (dK (dK OJ)) (eF [(1,g81),(2,P 10)] (hL (lS cO cP b fl nx lf es rt ks++[(10,.cells [eI])])) 11) [([],
   [],
   .to .normal (sSa cO cP b fl nx lf es rt ks))]
 :=cQ.of U U U
theorem amY(n:Nat)(cs:ai):c7 (kW []) [] 10 Tryz.f100 [] (dV OJ) (tD (sSa cO cP b fl nx lf es rt ks) (Yw cO cP b fl nx lf es rt ks (.di (some (13,0)) n n 1) [(13,.deep cs)]) 14) [([],
   [],
   .ret (.di (some (10,0)) n n 1) (w6 cO cP b fl nx lf es rt ks [(10,.deep cs)]) 11)]
 :=cQ.of U U U
theorem amZ:c7 (kW []) [] 10 Tryz.f100 [] (dV OJ) (tD (sSa cO cP b fl nx lf es rt ks) (Yw cO cP b fl nx lf es rt ks eI []) 13) [([],
   [],
   .ret (.di none 0 0 0) (w6 cO cP b fl nx lf es rt ks []) 10)]
 :=cQ.of U U U
def sC8(v:V):St:={ fr:=((((Bb [(0,g81)]).set 3 (some g81)).set 4 (some v)).set 2 (some v)),h:=h,n:=n,gz:=[] }
def sS8(v:V):St:={ fr:=((((Bb [(0,g81),(1,g56)]).set 6 (some g81)).set 7 (some v)).set 5 (some v)),h:=h,n:=n,gz:=[] }
end
section
variable(cO cP:Nat)(b:aa)(fl nx lf:Int)(es rt:ae)(ks:List (aa))(n:Nat)(cs:ai)
theorem am0:c7 (kW []) [] 10 Tryz.f79 [0] (eO 1 Ll) (cT [g81] (w6 cO cP b fl nx lf es rt ks []) 10) [([],
   [],
   .to .normal (eF [(0,g81)] (w6 cO cP b fl nx lf es rt ks []) 10))]
 :=cQ.of U U U
theorem am1:c7 (kW []) [] 10 Tryz.f79 [] (dV (de 1 Ll)) (sC8 (w6 cO cP b fl nx lf es rt ks [(10,.deep cs)]) 11 (.di (some (10,0)) n n 1)) [([],
   [],
   .ret (.di (some (10,0)) n n 1) (w6 cO cP b fl nx lf es rt ks [(10,.deep cs)]) 11)]
 :=cQ.of U U U
theorem am2:c7 (kW []) [] 10 Tryz.f79 [] (dV (de 1 Ll)) (sC8 (w6 cO cP b fl nx lf es rt ks []) 10 eI) [([],
   [],
   .ret (.di none 0 0 0) (w6 cO cP b fl nx lf es rt ks []) 10)]
 :=cQ.of U U U
theorem am3:c7 (kW []) [] 10 Tryz.f54 [0,1] (eO 1 Lj) (cT [g81,g56] (w6 cO cP b fl nx lf es rt ks []) 10) [([],
   [],
   .to .normal (eF [(0,g81),(1,g56)] (w6 cO cP b fl nx lf es rt ks []) 10))]
 :=cQ.of U U U
theorem afZ(ve:ai):c7 (fC (kW []) 80 [.di (some (10,0)) n n 1,g56] (w6 cO cP b fl nx lf es rt ks [(10,.deep cs)]) 11 (.ef [],(w6 cO cP b fl nx lf es rt ks [(10,.deep cs)]).set 10 (some (.deep ve)),11)) [] 10 Tryz.f54 [] (de 2 Lj) (sS8 (w6 cO cP b fl nx lf es rt ks [(10,.deep cs)]) 11 (.di (some (10,0)) n n 1)) [([],
   [([V.di (some (10,0)) n n 1,g56]=[V.di (some (10,0)) n n 1,g56]/\w6 cO cP b fl nx lf es rt ks [(10,.deep cs)]=w6 cO cP b fl nx lf es rt ks [(10,.deep cs)]/\11=11)],
   .ret (.di (some (10,0)) n n 1) (w6 cO cP b fl nx lf es rt ks [(10,.deep ve)]) 11)]
 :=cQ.of U U U
theorem af0:c7 (kW []) [] 10 Tryz.f54 [] (de 2 Lj) (sS8 (w6 cO cP b fl nx lf es rt ks []) 10 eI) [([],
   [((0:Int)<=(0:Int)/\0<256)],
   .ret (.di none 0 0 0) (w6 cO cP b fl nx lf es rt ks []) 10)]
 :=cQ.of U U U
end
def sk(m:Nat):List (aa)->af
 | []=>[]
 |ks=>[(m,.deep (strs ks))]
theorem Se(ks:List (aa)):dJ (nI ks)=ks:=by
 unfold dJ nI;rw[List.map_map];exact List.map_id'' (fun _=>rfl) ks
section
variable(cO cP:Nat)(b:aa)(fl nx lf:Int)(es rt:ae)(ks:List (aa))
def JSk(iD:ae)(s1:St):Prop:=zq iD/\Lb 14 Tryz.f81.ntmps s1 (Es cO cP b fl nx lf es rt ks (G7 14 (dJ iD)) (sk 14 (dJ iD)) (nK 14 (dJ iD)))
abbrev RSk(v:V)(h:Tr O)(n:Nat):Prop:=∃ls,List.Perm ls ks/\v= .ef []/\h=Yw cO cP b fl nx lf es rt ks (G7 13 ls) (sk 13 ls)/\n=nK 13 ls
theorem VO(hl:ks.length<=1000000):fU ak 81 [.fn (.yield 12) [] [],P 9] (Yw cO cP b fl nx lf es rt ks eI []) 13 (RSk cO cP b fl nx lf es rt ks):=by
 refine gF mo po Tryz.func81 (code:=Em) U U ?_;rw[aeY];have HB:(nI ks).length=ks.length:=by unfold nI;rw[aW]
 refine IZ (v0:=.map (some 8)) (kg:=(cT [.fn (.yield 12) [] [],P 9] (Yw cO cP b fl nx lf es rt ks eI []) 13).fr.set 4 (some (.map (some 8)))) (zS:=((cT [.fn (.yield 12) [] [],P 9] (Yw cO cP b fl nx lf es rt ks eI []) 13).fr.set 4 (some (.map (some 8)))).set 5 (some (P 13))) (m:=8) (kd:=none) (es:=nI ks) mo MM
  U U U U (au rfl) U (JSk cO cP b fl nx lf es rt ks) ⟨(fun _ h=>by cases h),.norm (L:=[0,5]) U⟩ ?_
 rintro iD left s1 ⟨hv,hs⟩ hp;have iT:iD.length<=1000000:=by
  have:=hp.length_eq;rw[ax]at this;omega
 have xC:∀e ko,List.Perm left (e::ko)->∃k,e=(.str k,.bool true):=fun e ko he=>by
  obtain⟨k,_,h⟩:=bB.1 (hp.mem_iff.1 (bZ _ (he.mem_iff.2 (aP ..))));exact⟨k,h.symm⟩
 have rE:left=[]->List.Perm (dJ iD) ks:=fun h=>by
  subst h;rw[ct]at hp;have:=Bh hp;rwa [Se]at this
 have pF:∀k,dJ (iD++[(.str k,.bool true)])=dJ iD++[k]:=fun k=>by unfold dJ;rw[aZ];rfl
 have hkv:∀k,zq (iD++[(.str k,.bool true)]):=fun k z hz=>by
  rcases aU.1 hz with hz|hz
  . exact hv z hz
  . rw[aq]at hz;subst hz;exact⟨k,rfl⟩
 have LB:(dJ iD).length<=1000000:=by rw[xV];exact iT
 have hJ:∀k s',Lb 14 Tryz.f81.ntmps s' (Es cO cP b fl nx lf es rt ks (G7 14 (dJ iD++[k])) (sk 14 (dJ iD++[k])) (nK 14 (dJ iD++[k])))->JSk cO cP b fl nx lf es rt ks (iD++[(.str k,.bool true)]) s':=fun k s' h=>⟨hkv k,by rw[pF];exact h⟩;generalize dJ iD=ls at *;cases ls with
 |nil=>
  refine⟨_,hs,U,fun h0=>?_,fun e ko he=>?_⟩
  . refine⟨(Es cO cP b fl nx lf es rt ks eI [] 14).fr.set 6 (some (.ef [.bool false])),{ Es cO cP b fl nx lf es rt ks eI [] 14 with fr:=((Es cO cP b fl nx lf es rt ks eI [] 14).fr.set 6 (some (.ef [.bool false]))).set 7 (some (.bool false)) },U,U,U,.inl rfl,.ef [],Yw cO cP b fl nx lf es rt ks eI [],13,U,[],rE h0,rfl,rfl,rfl⟩
  . obtain⟨k,rfl⟩:=xC e ko he;refine⟨(Es cO cP b fl nx lf es rt ks eI [] 14).fr.set 6 (some (.ef [.bool true,.str k,.bool true])),{ Es cO cP b fl nx lf es rt ks eI [] 14 with fr:=((Es cO cP b fl nx lf es rt ks eI [] 14).fr.set 6 (some (.ef [.bool true,.str k,.bool true]))).set 7 (some (.bool true)) },
     (((Es cO cP b fl nx lf es rt ks eI [] 14).fr.set 6 (some (.ef [.bool true,.str k,.bool true]))).set 7 (some (.bool true))).set 8 (some (.ef [.str k,.bool true])),T3 (Es cO cP b fl nx lf es rt ks eI [] 14) k (.bool true),U,U,U,U,U,U,U,U,?_⟩
    refine fR (XQ []) (amU cO cP b fl nx lf es rt ks k (.bool true)) (dG ?_);exact⟨cR,fun s' dL=>hJ k s' ((Lb.norm dL).trans (.deep [14] U))⟩
 |cons y ys=>
  have h1:∀m,sk m (y::ys)=[(m,.deep (strs (y::ys)))]/\G7 m (y::ys)= .di (some (m,0)) (y::ys).length (y::ys).length 1/\nK m (y::ys)=m+1:=fun m=>⟨rfl,rfl,rfl⟩;have h2:∀m k,sk m (y::ys++[k])=[(m,.deep (strs (y::ys++[k])))]/\G7 m (y::ys++[k])= .di (some (m,0)) (y::ys++[k]).length (y::ys++[k]).length 1/\nK m (y::ys++[k])=m+1:=fun m k=>⟨rfl,rfl,rfl⟩;have h3:0<(y::ys).length:=Nat.succ_pos _;generalize y::ys=ls at *;rw[(h1 14).1,(h1 14).2.1,(h1 14).2.2]at hs;refine⟨_,hs,U,fun h0=>?_,fun e ko he=>?_⟩
  . refine⟨(Es cO cP b fl nx lf es rt ks (.di (some (14,0)) ls.length ls.length 1) [(14,.deep (strs ls))] 15).fr.set 6 (some (.ef [.bool false])),{ Es cO cP b fl nx lf es rt ks (.di (some (14,0)) ls.length ls.length 1) [(14,.deep (strs ls))] 15 with fr:=((Es cO cP b fl nx lf es rt ks (.di (some (14,0)) ls.length ls.length 1) [(14,.deep (strs ls))] 15).fr.set 6 (some (.ef [.bool false]))).set 7 (some (.bool false)) },U,U,U,.inl rfl,.ef [],Yw cO cP b fl nx lf es rt ks (.di (some (13,0)) ls.length ls.length 1) [(13,.deep (strs ls))],14,U,ls,rE h0,rfl,?_,?_⟩
    . rw[(h1 13).1,(h1 13).2.1]
    . rw[(h1 13).2.2]
  . obtain⟨k,rfl⟩:=xC e ko he;refine⟨(Es cO cP b fl nx lf es rt ks (.di (some (14,0)) ls.length ls.length 1) [(14,.deep (strs ls))] 15).fr.set 6 (some (.ef [.bool true,.str k,.bool true])),{ Es cO cP b fl nx lf es rt ks (.di (some (14,0)) ls.length ls.length 1) [(14,.deep (strs ls))] 15 with fr:=((Es cO cP b fl nx lf es rt ks (.di (some (14,0)) ls.length ls.length 1) [(14,.deep (strs ls))] 15).fr.set 6 (some (.ef [.bool true,.str k,.bool true]))).set 7 (some (.bool true)) },
     (((Es cO cP b fl nx lf es rt ks (.di (some (14,0)) ls.length ls.length 1) [(14,.deep (strs ls))] 15).fr.set 6 (some (.ef [.bool true,.str k,.bool true]))).set 7 (some (.bool true))).set 8 (some (.ef [.str k,.bool true])),T3 (Es cO cP b fl nx lf es rt ks (.di (some (14,0)) ls.length ls.length 1) [(14,.deep (strs ls))] 15) k (.bool true),U,U,U,U,U,U,U,U,?_⟩
    refine fR (XQ []) (amV cO cP b fl nx lf es rt ks k (.bool true) ls.length (strs ls)) (dG ?_);refine⟨fm (by rw[eJ];omega) (fm dP (eR (pT be))),fun s' dL=>hJ k s' ?_⟩;have e:List.take (ls.length*1) (List.drop 0 (strs ls))++[D.str k]=strs (ls++[k]):=by
     rw[bu,bj,bq (by rw[eJ];omega)];unfold strs;rw[aZ];rfl
    rw[e]at dL;rw[(h2 14 k).1,(h2 14 k).2.1,(h2 14 k).2.2,ax];exact .norm dL
abbrev RSe(v:V)(h:Tr O)(n:Nat):Prop:=∃ls,List.Perm ls ks/\v=G7 10 ls/\h=w6 cO cP b fl nx lf es rt ks (sk 10 ls)/\n=nK 10 ls
theorem Sf(hl:ks.length<=1000000):fU ak 100 [eI,g81] (w6 cO cP b fl nx lf es rt ks []) 10 (RSe cO cP b fl nx lf es rt ks):=by
 refine gF mo po Tryz.func100 (code:=RA) U U ?_;refine iO  1 (XQ []) (amW cO cP b fl nx lf es rt ks) cR ?_;refine cV U ?_;refine cV U ?_;refine fR (XQ []) (amX cO cP b fl nx lf es rt ks) (dG ?_);refine⟨cR,fun s' dL=>c6 dL ?_⟩;refine fg (i:=0) U ?_;refine oh (gf:=81) (lb:=[P 9]) U U U U U (VO cO cP b fl nx lf es rt ks hl) ?_;rintro v h n ⟨ls,hp,rfl,rfl,rfl⟩;cases ls with
 |nil=>
  refine⟨U,?_⟩;refine fu (XQ []) (amZ cO cP b fl nx lf es rt ks) (dG ?_);exact⟨cR,_,_,_,rfl,[],hp,rfl,rfl,rfl⟩
 |cons x xs=>
  refine⟨U,?_⟩;refine fu (XQ []) (amY cO cP b fl nx lf es rt ks (x::xs).length (strs (x::xs))) (dG ?_);exact⟨cR,_,_,_,rfl,x::xs,hp,rfl,rfl,rfl⟩
theorem VP(hl:ks.length<=1000000):fU ak 79 [g81] (w6 cO cP b fl nx lf es rt ks []) 10 (RSe cO cP b fl nx lf es rt ks):=by
 refine gF mo po Tryz.func79 (code:=Ll) U U ?_;refine iO  1 (XQ []) (am0 cO cP b fl nx lf es rt ks) cR ?_;refine cV U ?_;refine p9 1 (s1:={ fr:=(Bb [(0,g81)]).set 3 (some g81),h:=w6 cO cP b fl nx lf es rt ks [],n:=10,gz:=[] }) (f:=100) (args:=[eI,g81]) U U U U U U (Sf cO cP b fl nx lf es rt ks hl) ?_;rintro v h n ⟨ls,hp,rfl,rfl,rfl⟩;cases ls with
 |nil=>
  refine⟨(((Bb [(0,g81)]).set 3 (some g81)).set 4 (some eI)),sC8 (w6 cO cP b fl nx lf es rt ks []) 10 eI,U,U,?_⟩;refine fu (XQ []) (am2 cO cP b fl nx lf es rt ks) (dG ?_);exact⟨cR,_,_,_,rfl,[],hp,rfl,rfl,rfl⟩
 |cons x xs=>
  refine⟨(((Bb [(0,g81)]).set 3 (some g81)).set 4 (some (.di (some (10,0)) (x::xs).length (x::xs).length 1))),sC8 (w6 cO cP b fl nx lf es rt ks [(10,.deep (strs (x::xs)))]) 11 (.di (some (10,0)) (x::xs).length (x::xs).length 1),U,U,?_⟩;refine fu (XQ []) (am1 cO cP b fl nx lf es rt ks (x::xs).length (strs (x::xs))) (dG ?_);exact⟨cR,_,_,_,rfl,x::xs,hp,rfl,rfl,rfl⟩
theorem VQ(zs:List (aa))(hl:ks.length<1000000)(wH:Yp es)(hn:∀x,0<=jI es x/\jI es x<1000000000)(hz:List.Perm zs ks)(hs:zs.Pairwise fun a b=>jI es a<jI es b):
  cU ak 54 [g81,g56] (w6 cO cP b fl nx lf es rt ks []) 10 (G7 10 zs) (w6 cO cP b fl nx lf es rt ks (sk 10 zs)) (nK 10 zs):=by
 refine c5 Tryz.func54 (code:=Lj) U U ?_;refine iO  1 (XQ []) (am3 cO cP b fl nx lf es rt ks) cR ?_;refine cV U ?_;refine p9 1 (s1:={ fr:=(Bb [(0,g81),(1,g56)]).set 6 (some g81),h:=w6 cO cP b fl nx lf es rt ks [],n:=10,gz:=[] }) (f:=79) (args:=[g81]) U U U U U U (VP cO cP b fl nx lf es rt ks (Nat.le_of_lt hl)) ?_;rintro v h n ⟨ls,hp,rfl,rfl,rfl⟩;have Hy:List.Perm zs ls:=hz.trans hp.symm;have iT:ls.length<1000000:=by rw[hp.length_eq];exact hl
 cases ls with
 |nil=>
  have:zs=[]:=Hy.eq_nil;subst this;refine⟨(((Bb [(0,g81),(1,g56)]).set 6 (some g81)).set 7 (some eI)),sS8 (w6 cO cP b fl nx lf es rt ks []) 10 eI,U,U,?_⟩;refine fu (XQ []) (af0 cO cP b fl nx lf es rt ks) (dG ?_);exact⟨eR ⟨dP,dP⟩,_,_,_,rfl,rfl,rfl,rfl⟩
 |cons x xs=>
  have hzn:zs.length=(x::xs).length:=Hy.length_eq;have h1:G7 10 zs= .di (some (10,0)) zs.length zs.length 1/\sk 10 zs=[(10,.deep (strs zs))]/\nK 10 zs=11:=by
   cases zs with
   |nil=>cases hzn
   |cons z zs=>exact⟨rfl,rfl,rfl⟩
  rw[h1.1,h1.2.1,h1.2.2,hzn];refine⟨(((Bb [(0,g81),(1,g56)]).set 6 (some g81)).set 7 (some (.di (some (10,0)) (x::xs).length (x::xs).length 1))),sS8 (w6 cO cP b fl nx lf es rt ks [(10,.deep (strs (x::xs)))]) 11 (.di (some (10,0)) (x::xs).length (x::xs).length 1),U,U,?_⟩;obtain⟨L5,ue⟩:=afZ cO cP b fl nx lf es rt ks (x::xs).length (strs (x::xs)) (strs zs);have hc:cU ak 80 [.di (some (10,0)) (x::xs).length (x::xs).length 1,g56] (w6 cO cP b fl nx lf es rt ks [(10,.deep (strs (x::xs)))]) 11 (.ef []) ((w6 cO cP b fl nx lf es rt ks [(10,.deep (strs (x::xs)))]).set 10 (some (.deep (strs zs)))) 11:=
   aaL (bx:=7) (st:=3) (c:=5) (cs:=wI 4 5 6 (pS cO cP b fl nx lf es rt)) (x::xs) zs U dP U U rfl U wH hn (Nat.succ_pos _) iT Hy hs dP dP dP
  refine iq ((XQ []).jt (au U) hc) mo _ U ue (dG ?_);exact⟨eR ⟨rfl,rfl,rfl⟩,_,_,_,rfl,rfl,rfl,rfl⟩
end
noncomputable abbrev hd4:Code:=eO 4 OK
noncomputable abbrev T5:Code:=de 4 OK
noncomputable abbrev G9:Code:=de 5 OK
section
variable(cO cP:Nat)(b:aa)(fl nx lf:Int)(es rt:ae)(ks:List (aa))
def lH1:af:=lC cO cP b fl nx lf es rt
def lH2:af:=lC cO cP b fl nx lf es rt++[(20,.dy none (nI ks))]
def lH3(row:af):af:=lC cO cP b fl nx lf es rt++[(20,.dy none (nI ks)),(21,.cells [.map (some 20)])]++row
end
section
variable(cO cP:Nat)(b:aa)(fl nx lf:Int)(es rt:ae)(ks:List (aa))
theorem am7(n:Nat)(cs:ai):c7 (fC (fC (kW []) 51 [P3,v78] (hL (lH1 cO cP b fl nx lf es rt)) 20 (.map (some 20),hL (lH2 cO cP b fl nx lf es rt ks),21)) 54 [v81,v56] (hL (lH3 cO cP b fl nx lf es rt ks [])) 22 (.di (some (22,0)) n n 1,hL (lH3 cO cP b fl nx lf es rt ks [(22,.deep cs)]),23)) [] 7 Tryz.f19 [1,3,4] (hd4) (cT [P3] (eu (pS cO cP b fl nx lf es rt)) 7) [([],
   [fb [.ptr (some (3,0)),.fn (.func 78) [] [.ptr (some (19,0))]] (hL (eP (pS cO cP b fl nx lf es rt)++[(7,.cells [.ptr (some (3,0))]),(19,.cells [.map (some 6)])])) 20,fb [.fn (.func 81) [] [.ptr (some (21,0))],.fn (.func 56) [] [.ptr (some (7,0))]] (hL (eP (pS cO cP b fl nx lf es rt)++[(7,.cells [.ptr (some (3,0))]),(19,.cells [.map (some 6)]),(20,.dy none (nI ks)),(21,.cells [.map (some 20)])])) 22],
   .to .normal (eF [(1,.ptr (some (7,0))),(3,.di (some (8,0)) n n 1),(4,.di none 0 0 0)] (hL (eP (pS cO cP b fl nx lf es rt)++[(7,.cells [.ptr (some (3,0))]),(8,.deep cs)])) 9))]
 :=cQ.of U U U
theorem am8:c7 (fC (fC (kW []) 51 [P3,v78] (hL (lH1 cO cP b fl nx lf es rt)) 20 (.map (some 20),hL (lH2 cO cP b fl nx lf es rt ks),21)) 54 [v81,v56] (hL (lH3 cO cP b fl nx lf es rt ks [])) 22 (eI,hL (lH3 cO cP b fl nx lf es rt ks []),22)) [] 7 Tryz.f19 [1,3,4] (hd4) (cT [P3] (eu (pS cO cP b fl nx lf es rt)) 7) [([],
   [fb [.ptr (some (3,0)),.fn (.func 78) [] [.ptr (some (19,0))]] (hL (eP (pS cO cP b fl nx lf es rt)++[(7,.cells [.ptr (some (3,0))]),(19,.cells [.map (some 6)])])) 20,fb [.fn (.func 81) [] [.ptr (some (21,0))],.fn (.func 56) [] [.ptr (some (7,0))]] (hL (eP (pS cO cP b fl nx lf es rt)++[(7,.cells [.ptr (some (3,0))]),(19,.cells [.map (some 6)]),(20,.dy none (nI ks)),(21,.cells [.map (some 20)])])) 22],
   .to .normal (eF [(1,.ptr (some (7,0))),(3,.di none 0 0 0),(4,.di none 0 0 0)] (hL (eP (pS cO cP b fl nx lf es rt)++[(7,.cells [.ptr (some (3,0))])])) 8))]
 :=cQ.of U U U
end
section
variable(cO cP:Nat)(b:aa)(fl nx lf:Int)(es rt:ae)(zs:List (aa))(i:Nat)(bs:aa)
def abe:St:=eF [(1,P 7),(4,eI),(26,.di (some (8,0)) zs.length zs.length 1),(27,.int .i64 (Int.ofNat zs.length)),(28,.int .i64 0)] (hL (eP (pS cO cP b fl nx lf es rt)++[(7,.cells [P3]),(8,.deep (strs zs))])) 9
def sHk:St:=eF [(1,P 7),(4,.di (some (8,0)) bs.length bs.length 1),(26,.di (some (9,0)) zs.length zs.length 1),(27,.int .i64 (Int.ofNat zs.length)),(28,.int .i64 (Int.ofNat i))] (hL (eP (pS cO cP b fl nx lf es rt)++[(7,.cells [P3]),(8,.iX 5 false bs),(9,.deep (strs zs))])) 10
def sHe:St:=eF [(1,P 7),(4,.di (some (8,0)) bs.length bs.length 1)] (hL (eP (pS cO cP b fl nx lf es rt)++[(7,.cells [P3]),(8,.iX 5 false bs)])) 9
def sHn:St:=eF [(1,P 7),(4,eI)] (hL (eP (pS cO cP b fl nx lf es rt)++[(7,.cells [P3])])) 8
end
section
variable(cO cP:Nat)(b:aa)(es:ae)(fl:Int)(x:aa)(nx lf:Int)
theorem ana(es rt:ae)(zs:List (aa)):c7 (kW []) [(28,.dc (.int .i64 (Int.ofNat 0)))] 7 Tryz.f19 [1,4,26,27,28] (dK (dK T5)) (eF [(1,P 7),(3,.di (some (8,0)) zs.length zs.length 1),(4,eI)] (hL (eP (pS cO cP b fl nx lf es rt)++[(7,.cells [P3]),(8,.deep (strs zs))])) 9) [([],
   [(V.int aj (0:Int)=V.int aj (0:Int))],
   .to .normal (abe cO cP b fl nx lf es rt zs))]
 :=cQ.of U U U
abbrev Sg(d:aa)(rs:List (aa))(k:Int):Prop:=(if false=true then V.ef [D.fZ (V.agg [V.str ([]:aa),V.di none 0 0 0,V.int aj (0:Int)]) (dj (D.str x) es),V.bool (dj (D.str x) es).isSome]else D.fZ (V.agg [V.str ([]:aa),V.di none 0 0 0,V.int aj (0:Int)]) (dj (D.str x) es))=og d rs k
theorem anb(es rt:ae)(zs:List (aa))(x d:aa)(rs:List (aa))(k:Int):c7 Be [(29,.split),(31,.dc (.str x)),(38,.dc (og d rs k)),(45,.dc (og d rs k))] 7 Tryz.f19 [1,4,26,27,28] (dx (dx (dV (dK T5)))) (abe cO cP b fl nx lf es rt zs) [([((decide ((0:Int)<Int.ofNat zs.length)),true)],
   [((0:Int)<=(0:Int)/\(0:Int)<(Int.ofNat zs.length)),(0<(strs zs).length),(((strs zs).getD 0 D.uz).iL=V.str x),Sg es x d rs k,Sg es x d rs k,(strs rs=strs (dH (strs rs))),(rs.length=(dH (strs rs)).length),(d.length<=100000000),(rs.length<=1000000),((dH (strs rs)).flatten.length<=100000000),(0<(gO d (dH (strs rs))).length),(eT (gO d (dH (strs rs))).length 1 1=true)],
   .to .normal (eF [(1,.ptr (some (7,0))),(4,.di (some (8,0)) ((gO d (dH (strs rs))).length) ((gO d (dH (strs rs))).length) 1),(26,.di (some (9,0)) (zs.length) (zs.length) 1),(27,.int .i64 (Int.ofNat zs.length)),(28,.int .i64 1)] (hL (eP (pS cO cP b fl nx lf es rt)++[(7,.cells [.ptr (some (3,0))]),(8,.iX 5 false (gO d (dH (strs rs)))),(9,.deep (strs zs))])) 10)),
  ([((decide ((0:Int)<Int.ofNat zs.length)),false)],
   [],
   .to (.exit 0) (eF [(1,.ptr (some (7,0))),(4,.di none 0 0 0),(26,.di (some (8,0)) (zs.length) (zs.length) 1),(27,.int .i64 (Int.ofNat zs.length)),(28,.int .i64 0)] (hL (eP (pS cO cP b fl nx lf es rt)++[(7,.cells [.ptr (some (3,0))]),(8,.deep (strs zs))])) 9))]
 :=cQ.of U U U
abbrev Sh(d:aa)(rs:List (aa))(k:Int):Prop:=(if false=true then V.ef [D.fZ (V.agg [V.str ([]:aa),V.di none 0 0 0,V.int aj (0:Int)]) (dj (D.str x) es),V.bool (dj (D.str x) es).isSome]else D.fZ (V.agg [V.str ([]:aa),V.di none 0 0 0,V.int aj (0:Int)]) (dj (D.str x) es))=og d rs k
end
section
variable(cO cP:Nat)(b:aa)(fl nx lf:Int)(es rt:ae)
theorem ane(zs:List (aa))(i:Nat)(x d:aa)(rs:List (aa))(k:Int)(bs:aa):c7 Be [(29,.split),(31,.dc (.str x)),(38,.dc (og d rs k)),(45,.dc (og d rs k)),(49,.dc (.int .i64 (Int.ofNat (i+1))))] 7 Tryz.f19 [1,4,26,27,28] (dx (dx (dV (dK T5)))) (sHk cO cP b fl nx lf es rt zs i bs) [([((decide (Int.ofNat i<Int.ofNat zs.length)),true)],
   [((0:Int)<=Int.ofNat i/\Int.ofNat i<(Int.ofNat zs.length)),(0+i*1<(strs zs).length),(((strs zs).getD (0+i*1) D.uz).iL=V.str x),Sh es x d rs k,Sh es x d rs k,(strs rs=strs (dH (strs rs))),(rs.length=(dH (strs rs)).length),(d.length<=100000000),(rs.length<=1000000),((dH (strs rs)).flatten.length<=100000000),(0<bs.length),(bs.length=bs.length),(eT (bs.length+(gO d (dH (strs rs))).length) 1 1=true),kQ (Int.ofNat i+(1:Int)) (i+1)],
   .to .normal (eF [(1,.ptr (some (7,0))),(4,.di (some (8,0)) (bs.length+(gO d (dH (strs rs))).length) (bs.length+(gO d (dH (strs rs))).length) 1),(26,.di (some (9,0)) (zs.length) (zs.length) 1),(27,.int .i64 (Int.ofNat zs.length)),(28,.int .i64 (Int.ofNat (i+1)))] (hL (eP (pS cO cP b fl nx lf es rt)++[(7,.cells [.ptr (some (3,0))]),(8,.iX 5 false (bs++eN (dX (gO d (dH (strs rs)))))),(9,.deep (strs zs))])) 10)),
  ([((decide (Int.ofNat i<Int.ofNat zs.length)),false)],
   [],
   .to (.exit 0) (eF [(1,.ptr (some (7,0))),(4,.di (some (8,0)) (bs.length) (bs.length) 1),(26,.di (some (9,0)) (zs.length) (zs.length) 1),(27,.int .i64 (Int.ofNat zs.length)),(28,.int .i64 (Int.ofNat i))] (hL (eP (pS cO cP b fl nx lf es rt)++[(7,.cells [.ptr (some (3,0))]),(8,.iX 5 false bs),(9,.deep (strs zs))])) 10))]
 :=cQ.of U U U
theorem anf(zs:List (aa))(i:Nat)(bs:aa):c7 Be [(29,.dc (.bool false))] 7 Tryz.f19 [1,4] (dx (dx (dV (dK T5)))) (sHk cO cP b fl nx lf es rt zs i bs) [([],
   [(V.bool (decide (Int.ofNat i<Int.ofNat zs.length))=V.bool false)],
   .to (.exit 0) (eF [(1,.ptr (some (7,0))),(4,.di (some (8,0)) (bs.length) (bs.length) 1)] (hL (eP (pS cO cP b fl nx lf es rt)++[(7,.cells [.ptr (some (3,0))]),(8,.iX 5 false bs)])) 9))]
 :=cQ.of U U U
theorem ang:c7 (kW []) [] 7 Tryz.f19 [1,4] (dK T5) (eF [(1,P 7),(3,eI),(4,eI)] (hL (eP (pS cO cP b fl nx lf es rt)++[(7,.cells [P3])])) 8) [([],
   [],
   .to .normal (sHn cO cP b fl nx lf es rt))]
 :=cQ.of U U U
end
section
variable(cO cP:Nat)(b:aa)(fl nx lf:Int)(es rt:ae)(zs:List (aa))(i:Nat)(bs:aa)
def lHe:af:=eP (pS cO cP b fl nx lf es rt)++[(7,.cells [P3]),(8,.iX 5 false bs)]
def sHr:St:=eF [(1,P 7),(4,.di (some (8,0)) bs.length bs.length 1),(51,.di (some (9,0)) zs.length zs.length 1),(52,.int .i64 (Int.ofNat zs.length)),(53,.int .i64 (Int.ofNat i))] (hL (eP (pS cO cP b fl nx lf es rt)++[(7,.cells [P3]),(8,.iX 5 false bs),(9,.deep (strs zs))])) 10
end
section
variable(b:aa)(nx lf:Int)(es rt:ae)(bs:aa)
def l3b(fl:Int):af:=[(0,.ints .u32 gS),(1,.ints .u32 gR),(3,.cells [.di (some (7,0)) bs.length bs.length 1,.int .i64 fl,.map (some 5),.map (some 6),.int .i64 nx,.bool false,.bool false,.int .i64 lf]),(4,.iX 5 false b),(5,.dy none es),(6,.dy none rt),(7,.iX 5 false bs),(8,.cells [P3])]
def l3r(m:Nat)(c:af)(zN:Int)(lI lX:ae):af:=[(0,.ints .u32 gS),(1,.ints .u32 gR),(3,.cells [.di (some (7,0)) bs.length bs.length 1,.int .i64 (Int.ofNat bs.length),.map (some m),.map (some (m+1)),.int .i64 zN,.bool false,.bool false,.int .i64 lf]),(4,.iX 5 false b),(5,.dy none es),(6,.dy none rt),(7,.iX 5 false bs)]++c++[(m,.dy none lI),(m+1,.dy none lX)]
def l3e:af:=[(0,.ints .u32 gS),(1,.ints .u32 gR),(3,.cells [eI,.int .i64 0,.map (some 5),.map (some 6),.int .i64 nx,.bool false,.bool false,.int .i64 lf]),(4,.iX 5 false b),(5,.dy none es),(6,.dy none []),(7,.cells [P3])]
def l3f(m:Nat)(c:af):af:=[(0,.ints .u32 gS),(1,.ints .u32 gR),(3,.cells [eI,.int .i64 0,.map (some m),.map (some (m+1)),.int .i64 0,.bool false,.bool false,.int .i64 lf]),(4,.iX 5 false b),(5,.dy none es),(6,.dy none [])]++c++[(m,.dy none []),(m+1,.dy none [])]
end
section
variable(cO cP:Nat)(b:aa)(fl nx lf:Int)(es rt:ae)(bs x:aa)
theorem anh(zs:List (aa))(bs:aa):c7 (fC Be 23 [P3] (hL (lHe cO cP b fl nx lf es rt bs)) 9 (.di (some (9,0)) zs.length zs.length 1,hL (lHe cO cP b fl nx lf es rt bs++[(9,.deep (strs zs))]),10)) [(53,.dc (.int .i64 (Int.ofNat 0)))] 7 Tryz.f19 [1,4,51,52,53] (dK (dK G9)) (sHe cO cP b fl nx lf es rt bs) [([],
   [fb [.ptr (some (3,0))] (hL (eP (pS cO cP b fl nx lf es rt)++[(7,.cells [.ptr (some (3,0))]),(8,.iX 5 false bs)])) 9,(V.int aj (0:Int)=V.int aj (0:Int))],
   .to .normal (eF [(1,.ptr (some (7,0))),(4,.di (some (8,0)) (bs.length) (bs.length) 1),(51,.di (some (9,0)) (zs.length) (zs.length) 1),(52,.int .i64 ((Int.ofNat zs.length))),(53,.int .i64 0)] (hL (eP (pS cO cP b fl nx lf es rt)++[(7,.cells [.ptr (some (3,0))]),(8,.iX 5 false bs),(9,.deep (strs zs))])) 10))]
 :=cQ.of U U U
theorem af1(bs:aa):c7 (fC Be 23 [P3] (hL (lHe cO cP b fl nx lf es rt bs)) 9 (.di (some (9,0)) 1 1 1,hL (lHe cO cP b fl nx lf es rt bs++[(9,.cells [.str x])]),10)) [(53,.dc (.int .i64 (Int.ofNat 0)))] 7 Tryz.f19 [1,4,51,52,53] (dK (dK G9)) (sHe cO cP b fl nx lf es rt bs) [([],
   [fb [.ptr (some (3,0))] (hL (eP (pS cO cP b fl nx lf es rt)++[(7,.cells [.ptr (some (3,0))]),(8,.iX 5 false bs)])) 9,(V.int aj (0:Int)=V.int aj (0:Int))],
   .to .normal (eF [(1,.ptr (some (7,0))),(4,.di (some (8,0)) (bs.length) (bs.length) 1),(51,.di (some (9,0)) 1 1 1),(52,.int .i64 1),(53,.int .i64 0)] (hL (eP (pS cO cP b fl nx lf es rt)++[(7,.cells [.ptr (some (3,0))]),(8,.iX 5 false bs),(9,.cells [.str x])])) 10))]
 :=cQ.of U U U
theorem ani(zs:List (aa))(i:Nat)(x d:aa)(bs:aa):c7 Be [(54,.split),(56,.dc (.str x)),(64,.dc (.str d)),(67,.dc (.int .i64 (Int.ofNat (i+1))))] 7 Tryz.f19 [1,4,51,52,53] (dx (dx (dV (dK G9)))) (sHr cO cP b fl nx lf es rt zs i bs) [([((decide (Int.ofNat i<Int.ofNat zs.length)),true)],
   [((0:Int)<=Int.ofNat i/\Int.ofNat i<(Int.ofNat zs.length)),(0+i*1<(strs zs).length),(((strs zs).getD (0+i*1) D.uz).iL=V.str x),((if false=true then V.ef [D.fZ (V.str ([]:aa)) (dj (D.str x) rt),V.bool (dj (D.str x) rt).isSome]else D.fZ (V.str ([]:aa)) (dj (D.str x) rt))=V.str d),(x.length<100000000),(d.length<100000000),(0<bs.length),(bs.length=bs.length),(eT (bs.length+(kR x d).length) 1 1=true),kQ (Int.ofNat i+(1:Int)) (i+1)],
   .to .normal (eF [(1,.ptr (some (7,0))),(4,.di (some (8,0)) (bs.length+(kR x d).length) (bs.length+(kR x d).length) 1),(51,.di (some (9,0)) (zs.length) (zs.length) 1),(52,.int .i64 (Int.ofNat zs.length)),(53,.int .i64 (Int.ofNat (i+1)))] (hL (eP (pS cO cP b fl nx lf es rt)++[(7,.cells [.ptr (some (3,0))]),(8,.iX 5 false (bs++eN (dX (kR x d)))),(9,.deep (strs zs))])) 10)),
  ([((decide (Int.ofNat i<Int.ofNat zs.length)),false)],
   [],
   .to (.exit 2) (eF [(1,.ptr (some (7,0))),(4,.di (some (8,0)) (bs.length) (bs.length) 1),(51,.di (some (9,0)) (zs.length) (zs.length) 1),(52,.int .i64 (Int.ofNat zs.length)),(53,.int .i64 (Int.ofNat i))] (hL (eP (pS cO cP b fl nx lf es rt)++[(7,.cells [.ptr (some (3,0))]),(8,.iX 5 false bs),(9,.deep (strs zs))])) 10))]
 :=cQ.of U U U
theorem af2(zs:List (aa))(i:Nat)(bs:aa):c7 Be [(54,.dc (.bool false))] 7 Tryz.f19 [1,4] (dx (dx (dV (dK G9)))) (sHr cO cP b fl nx lf es rt zs i bs) [([],
   [(V.bool (decide (Int.ofNat i<Int.ofNat zs.length))=V.bool false)],
   .to (.exit 2) (eF [(1,.ptr (some (7,0))),(4,.di (some (8,0)) (bs.length) (bs.length) 1)] (hL (eP (pS cO cP b fl nx lf es rt)++[(7,.cells [.ptr (some (3,0))]),(8,.iX 5 false bs)])) 9))]
 :=cQ.of U U U
theorem af3:c7 Be [] 7 Tryz.f19 [1] (eO 3 (dV G9)) (sHe cO cP b fl nx lf es rt bs) [([],
   [],
   .to .normal (eF [(1,.ptr (some (8,0)))] (hL (l3b b nx lf es rt bs (Int.ofNat bs.length))) 9))]
 :=cQ.of U U U
theorem af4:c7 (fC Be 23 [P3] (hL (eP (pS cO cP b fl nx lf es [])++[(7,.cells [P3])])) 8 (eI,hL (eP (pS cO cP b fl nx lf es [])++[(7,.cells [P3])]),8)) [] 7 Tryz.f19 [1,4] (dK G9) (sHn cO cP b fl nx lf es []) [([],
   [fb [.ptr (some (3,0))] (hL (eP (pS cO cP b fl nx lf es [])++[(7,.cells [.ptr (some (3,0))])])) 8],
   .to .normal (eF [(1,.ptr (some (7,0))),(4,.di none 0 0 0)] (hL (eP (pS cO cP b fl nx lf es [])++[(7,.cells [.ptr (some (3,0))])])) 8))]
 :=cQ.of U U U
theorem af5:c7 Be [] 7 Tryz.f19 [1] (eO 3 (dV G9)) (sHn cO cP b fl nx lf es []) [([],
   [],
   .to .normal (eF [(1,.ptr (some (7,0)))] (hL (l3e b nx lf es)) 8))]
 :=cQ.of U U U
theorem af6(zN:Int)(lI lX:ae):c7 (fC Be 57 [P3] (hL (l3b b nx lf es rt bs (Int.ofNat bs.length))) 9 (.ef [],hL (l3r b lf es rt bs 9 [(8,.cells [P3])] zN lI lX),11)) [] 7 Tryz.f19 [] (de 3 (dV G9)) (eF [(1,.ptr (some (8,0)))] (hL (l3b b nx lf es rt bs (Int.ofNat bs.length))) 9) [([],
   [fb [.ptr (some (3,0))] (hL [(0,.ints .u32 gS),(1,.ints .u32 gR),(3,.cells [.di (some (7,0)) (bs.length) (bs.length) 1,.int .i64 (Int.ofNat bs.length),.map (some 5),.map (some 6),.int .i64 nx,.bool false,.bool false,.int .i64 lf]),(4,.iX 5 false b),(5,.dy none es),(6,.dy none rt),(7,.iX 5 false bs),(8,.cells [.ptr (some (3,0))])]) 9],
   .ret (.int .i64 0) (hL (l3r b lf es rt bs 8 [] zN lI lX)) 10)]
 :=cQ.of U U U
end
theorem af7(b:aa)(nx lf:Int)(es:ae):c7 (fC Be 57 [P3] (hL (l3e b nx lf es)) 8 (.ef [],hL (l3f b lf es 8 [(7,.cells [P3])]),10)) [] 7 Tryz.f19 [] (de 3 (dV G9)) (eF [(1,.ptr (some (7,0)))] (hL (l3e b nx lf es)) 8) [([],
   [fb [.ptr (some (3,0))] (hL [(0,.ints .u32 gS),(1,.ints .u32 gR),(3,.cells [.di none 0 0 0,.int .i64 0,.map (some 5),.map (some 6),.int .i64 nx,.bool false,.bool false,.int .i64 lf]),(4,.iX 5 false b),(5,.dy none es),(6,.dy none []),(7,.cells [.ptr (some (3,0))])]) 8],
   .ret (.int .i64 0) (hL (l3f b lf es 7 [])) 9)]
 :=cQ.of U U U
def Si(ns:List (Option Nat))(l:af):af->List (Option O):=List.map fun q=>match ns.getD q.1 none with
 |some m=>match(hL l).get m with
  |some o=>o.rn (mu ns)
  |none=>none
 |none=>none
theorem jk{ns:List (Option Nat)}{l l1:af}(ht:(l1.all fun q=>Nat.blt q.1 fN)=true)(hg:(jN.all fun p=>decide (ns.getD p.2 none=some p.2))=true)(hn:nr ns=true)
  (hv:(ns.all fun x=>match x with|none=>true|some m=>(jN.any fun p=>decide (p.2=m))||((hL l).get m).isSome)=true) (he:Si ns l l1=l1.map fun q=>some q.2):vn ns (hL l) (hL l1):=by
 refine Ay (fun p hp=>au (bn.1 ht p hp)) (fun p hp=>aH (bn.1 hg p hp)) hn (fun j m hj=>?_) fun p hp=>?_
 . have hm:some m∈ns:=by
    rw[aL]at hj;cases hx:ns[j]? with
    |none=>rw[hx]at hj;cases hj
    |some x=>rw[hx]at hj;simp only[Option.getD_some]at hj;subst hj;exact bf hx
   have:=bn.1 hv _ hm;simp only[bT,List.any_eq_true]at this;rcases this with⟨p,hp,VR⟩|h
   . exact .inl ⟨p,hp,aH VR⟩
   . exact .inr (Option.isSome_iff_ne_none.1 h)
 . have:(match ns.getD p.1 none with
    |some m=>match(hL l).get m with
     |some o=>o.rn (mu ns)
     |none=>none
    |none=>none)=some p.2:=List.map_inj_left.1 he p hp
   split at this
   . rename_i m hm;split at this
     . rename_i o ho;exact⟨m,o,hm,ho,this⟩
     . cases this
   . cases this
section
variable(cO cP:Nat)(b:aa)(fl nx lf:Int)(es rt:ae)
def anj:List (Option Nat):=[some 0,some 1,some 2,some 3,some 4,some 5,some 6,some 19]
def af8:List (Option Nat):=[some 0,some 1,some 2,some 3,some 4,some 5,some 6,some 7,some 20,some 21]
theorem c51(k:Nat)(JW:D2 rt)(he:∀d∈iI rt,Ends es k d):cU ak 51 [P3,v78] (hL (lH1 cO cP b fl nx lf es rt)) 20 (.map (some 20)) (hL (lH2 cO cP b fl nx lf es rt (pV es rt k))) 21:=by
 have hc:=M1 cO cP b fl nx lf es rt k JW he;generalize pV es rt k=ks at hc ⊢;refine fL (ns:=anj) (jk U U U U U) U U hc
theorem c54(ks zs:List (aa))(hl:ks.length<1000000)(wH:Yp es)(hn:∀x,0<=jI es x/\jI es x<1000000000)(hz:List.Perm zs ks)(hs:zs.Pairwise fun a b=>jI es a<jI es b):
  cU ak 54 [v81,v56] (hL (lH3 cO cP b fl nx lf es rt ks [])) 22 (G7 22 zs) (hL (lH3 cO cP b fl nx lf es rt ks (sk 22 zs))) (nK 22 zs):=by
 have hc:=VQ cO cP b fl nx lf es rt ks zs hl wH hn hz hs;cases zs with
 |nil=>exact fL (ns:=af8) (jk U U U U U) U U hc
 |cons z zs=>exact fL (ns:=af8) (jk U U U U U) U U hc
theorem c23(bs:aa)(hk:zq rt)(hl:rt.length<1000000):cU ak 23 [P3] (hL (lHe cO cP b fl nx lf es rt bs)) 9 (G7 9 (iQ (dJ rt))) (hL (lHe cO cP b fl nx lf es rt bs++Bg 9 (iQ (dJ rt)))) (nK 9 (iQ (dJ rt))):=by
 have hc:=G8 cO cP b fl nx lf es rt hk hl;generalize iQ (dJ rt)=zs at hc ⊢
 match zs,hc with
 | [],hc=>exact fL (ns:=ns7) (jk U U U U U) U U hc
 | [x],hc=>exact fL (ns:=ns7) (jk U U U U U) U U hc
 |x::y::zs,hc=>exact fL (ns:=ns7) (jk U U U U U) U U hc
theorem ank:cU ak 23 [P3] (hL (eP (pS cO cP b fl nx lf es [])++[(7,.cells [P3])])) 8 eI (hL (eP (pS cO cP b fl nx lf es [])++[(7,.cells [P3])])) 8:=by
 have hc:=G8 cO cP b fl nx lf es [] (fun _ h=>by cases h) dP;rw[show iQ (dJ [])=[]from Ft]at hc;exact fL (ns:=ns7) (jk U U U U U) U U hc
end
section
variable(b:aa)(nx lf:Int)(es rt:ae)
theorem c57(l:List jw)(ic:∀r∈l,r.ok)(lQ:(cW l).length<1000000000):
  cU ak 57 [P3] (hL (l3b b nx lf es rt (cW l) (Int.ofNat (cW l).length))) 9 (.ef []) (hL (l3r b lf es rt (cW l) 9 [(8,.cells [P3])] (iu l).nx (iu l).es (iu l).rt)) 11:=by
 have hc:=G3 (cW l).length (cW l).length (cW l) (Int.ofNat (cW l).length) nx lf es rt l [] (aA _) ic (by rw[aS,ct]) (by rw[aS];exact .inl rfl) (aA _) lQ;generalize cW l=bs at hc ⊢;generalize iu l=q at hc ⊢;obtain⟨zN,lI,lX⟩:=q;exact fL (ns:=alG) (jk U U U U U) U U hc
def af9:List (Option Nat):=[some 0,some 1,some 2,some 3,none,some 5,some 6]
theorem anl:cU ak 57 [P3] (hL (l3e b nx lf es)) 8 (.ef []) (hL (l3f b lf es 8 [(7,.cells [P3])])) 10:=by
 have hc:=BS 0 nx lf es [];exact fL (ns:=af9) (jk U U U U U) U U hc
end
section
variable(es rt:ae)(n:aa)
def zu(x:aa):jw:=match dj (.str x) es with
 |some (.agg [.str d,.dM _ cs,_])=>.chunk d (dH cs)
 |_=>.chunk [] []
def rcV:aa:=match dj (.str n) rt with
 |some (.str d)=>d
 |_=>[]
def Dt:jw:=.root n (rcV rt n)
def nJ(zs:List (aa)):List jw:=zs.map (zu es)++(iQ (dJ rt)).map (Dt rt)
end
theorem He{es:ae}{x d:aa}{rs:List (aa)}{k:Int}(h:dj (.str x) es=some (pU d rs k)):zu es x= .chunk d rs:=by
 unfold zu;rw[h];show jw.chunk d (dH (strs rs))=_;rw[ir]
theorem Fu{zs:List (aa)}{i:Nat}(h:i<zs.length):0+i*1<(strs zs).length/\((strs zs).getD (0+i*1) D.uz).iL=V.str zs[i]:=by
 refine⟨by rw[eJ];omega,?_⟩;unfold strs;rw[bE,bj,aL,br,ay h];rfl
theorem vy(l:List jw)(r:jw):cW (l++[r])=cW l++r.bytes:=by
 unfold cW;rw[aZ,cr,List.map_singleton,List.flatten_singleton]
theorem LD(l m:List jw):cW (l++m)=cW l++cW m:=by
 unfold cW;rw[aZ,cr]
theorem AA{l:List jw}(i:Nat):(cW (l.take i)).length<=(cW l).length:=by
 conv=>rhs;rw[tJ l i]
 rw[ax];omega
section
variable(cO cP:Nat)(b:aa)(fl nx lf:Int)(es rt:ae)
theorem VS(zs:List (aa))(hz:zs≠[])(Hy:zs.length<1000000)(hh:∀x∈zs,El es x/\(zu es x).ok)(lQ:(cW (zs.map (zu es))).length<1000000000){Q:Exit->St->Prop}
  (h:TG ak 7 Tryz.f19.ntmps (dV T5) (sHe cO cP b fl nx lf es rt (cW (zs.map (zu es)))) Q):TG ak 7 Tryz.f19.ntmps T5 (eF [(1,P 7),(3,.di (some (8,0)) zs.length zs.length 1),(4,eI)] (hL (eP (pS cO cP b fl nx lf es rt)++[(7,.cells [P3]),(8,.deep (strs zs))])) 9) Q:=by
 refine cV U ?_;refine cV U ?_;refine fR (XQ []) (ana cO cP b fl nx lf es rt zs) (dG ?_);refine⟨eR rfl,fun s' dL=>?_⟩;have hb:∀i,(hi:i<zs.length)->cW ((zs.take (i+1)).map (zu es))=cW ((zs.take i).map (zu es))++(zu es zs[i]).bytes:=fun i hi=>by
  rw[bI,ay hi,cB,aZ,List.map_singleton,vy]
 have kC:∀i,(cW ((zs.take i).map (zu es))).length<1000000000:=fun i=>by
  have:=AA (l:=zs.map (zu es)) i;rw[cL];omega
 refine jj 0 zs.length (fun i=>if i=0 then abe cO cP b fl nx lf es rt zs else sHk cO cP b fl nx lf es rt zs i (cW ((zs.take i).map (zu es)))) U U (.norm dL) (fun i hi=>?_) ?_
 . obtain⟨⟨d,rs,k,he⟩,ic⟩:=hh zs[i] (bY hi);have hrc:=He he;have hg:=Fu hi;have yD:=hb i hi;have Oe:=kC (i+1);rw[hrc]at ic yD;have Qr:d.length<=66000/\rs.length<=2000/\rs.flatten.length<=66000:=by
    obtain⟨h1,h2,h3⟩:=ic;have:=vt h3;omega
   have OV:0<(gO d rs).length:=oo (r:=.chunk d rs);rw[aI (Nat.succ_ne_zero i)];by_cases h0:i=0
   . subst h0;rw[aG rfl];refine fR XT (anb cO cP b fl nx lf es rt zs zs[0] d rs k) fun g uq hc=>?_;simp only[ir]at uq;rcases iV uq with rfl|rfl
     . refine⟨fm (⟨dP,dh⟩) (fm (by have:=hg.1;omega) (fm (by have:=hg.2;rwa [Nat.zero_mul,bE]at this) (fm (vx es he) (fm (vx es he) (fm (trivial) (fm (trivial) (fm be (fm be (fm be (fm (OV) (eR (jq (by rw[yD,ax]at Oe;have:(jw.chunk d rs).bytes.length=(gO d rs).length:=rfl;omega))))))))))))),fun s' dL=>?_⟩;rw[yD];exact .norm dL
     . exact absurd (aJ (hc _ (aq.2 rfl))) dh
   . rw[aI h0];have Lp:0<(cW ((zs.take i).map (zu es))).length:=by
      obtain⟨j,rfl⟩:∃j,i=j+1:=⟨i-1,be⟩;rw[hb j be,ax];have:=oo (r:=zu es zs[j]);omega
     rw[yD,ax]at Oe;rw[yD];generalize cW ((zs.take i).map (zu es))=bs at Oe Lp ⊢;refine fR XT (ane cO cP b fl nx lf es rt zs i zs[i] d rs k bs) fun g uq hc=>?_;simp only[ir,gk]at uq;rcases iV uq with rfl|rfl
     . refine⟨fm (⟨az _,dh⟩) (fm (hg.1) (fm (hg.2) (fm (vx es he) (fm (vx es he) (fm (trivial) (fm (trivial) (fm be (fm be (fm be (fm (Lp) (fm (trivial) (fm (jq (by have:(jw.chunk d rs).bytes.length=(gO d rs).length:=rfl;omega)) (eR (fG dh be)))))))))))))),fun s' dL=>?_⟩;unfold sHk;rw[ax];exact .norm dL
     . exact absurd (aJ (hc _ (aq.2 rfl))) dh
 . have Y2:zs.length≠0:=fun e=>hz (cH.1 e);simp only[aI Y2,aS];refine fR XT (anf cO cP b fl nx lf es rt zs zs.length (cW (zs.map (zu es)))) fun g uq hc=>?_;rw[aq]at uq;subst uq;refine⟨eR (aN V.bool (bw be)),fun s' dL=>⟨by simp,?_⟩⟩;exact c6 dL h
theorem M3(ws:List (aa))(bs:aa)(Hy:ws.length<1000000)(hh:∀x∈ws,(∃d,dj (.str x) rt=some (.str d))/\(Dt rt x).ok)(Hz:0<bs.length)(lQ:bs.length+(cW (ws.map (Dt rt))).length<1000000000){s:St}{Q:Exit->St->Prop}
  (hs:gu ak 7 Tryz.f19.ntmps s (sHr cO cP b fl nx lf es rt ws 0 bs)) (h:TG ak 7 Tryz.f19.ntmps (dV G9) (sHe cO cP b fl nx lf es rt (bs++cW (ws.map (Dt rt)))) Q):TG ak 7 Tryz.f19.ntmps (dV (dK G9)) s (andThen (fun s'=>TG ak 7 Tryz.f19.ntmps (dV G9) s' Q) Q):=by
 have hb:∀i,(hi:i<ws.length)->cW ((ws.take (i+1)).map (Dt rt))=cW ((ws.take i).map (Dt rt))++(Dt rt ws[i]).bytes:=fun i hi=>by
  rw[bI,ay hi,cB,aZ,List.map_singleton,vy]
 have kC:∀i,(cW ((ws.take i).map (Dt rt))).length<=(cW (ws.map (Dt rt))).length:=fun i=>by
  have:=AA (l:=ws.map (Dt rt)) i;rw[cL];omega
 refine jj 2 ws.length (fun i=>sHr cO cP b fl nx lf es rt ws i (bs++cW ((ws.take i).map (Dt rt)))) U U (by
  show gu ak 7 Tryz.f19.ntmps s (sHr cO cP b fl nx lf es rt ws 0 (bs++[]));rw[ct];exact hs) (fun i hi=>?_) ?_
 . obtain⟨⟨d,hd⟩,ic⟩:=hh ws[i] (bY hi);have hg:=Fu hi;have yD:=hb i hi;have Oe:=kC (i+1);have hrc:Dt rt ws[i]= .root ws[i] d:=by unfold Dt rcV;rw[hd]
   rw[hrc]at ic yD;have Qr:ws[i].length<=1000/\d.length<=1000:=ic;rw[yD,ax]at Oe;show TG _ _ _ _ _ (andThen (fun s'=>gu ak 7 Tryz.f19.ntmps s' (sHr cO cP b fl nx lf es rt ws (i+1) (bs++cW ((ws.take (i+1)).map (Dt rt))))) _);rw[yD,<- bA];have Lp:0<(bs++cW ((ws.take i).map (Dt rt))).length:=by rw[ax];omega
   have hbj:(bs++cW ((ws.take i).map (Dt rt))).length+(jw.root ws[i] d).bytes.length<1000000000:=by rw[ax];omega
   generalize bs++cW ((ws.take i).map (Dt rt))=ys at Lp hbj ⊢;refine fR XT (ani cO cP b fl nx lf es rt ws i ws[i] d ys) fun g uq hc=>?_;simp only[gk]at uq;rcases iV uq with rfl|rfl
   . refine⟨fm (⟨az _,dh⟩) (fm (hg.1) (fm (hg.2) (fm (by rw[hd];rfl) (fm be (fm be (fm (Lp) (fm (trivial) (fm (jq (by have:(jw.root ws[i] d).bytes.length=(kR ws[i] d).length:=rfl;omega)) (eR (fG dh be)))))))))),fun s' dL=>?_⟩;unfold sHr;rw[ax];exact .norm dL
   . exact absurd (aJ (hc _ (aq.2 rfl))) dh
 . simp only[aS];refine fR XT (af2 cO cP b fl nx lf es rt ws ws.length (bs++cW (ws.map (Dt rt)))) fun g uq hc=>?_;rw[aq]at uq;subst uq;refine⟨eR (aN V.bool (bw be)),fun s' dL=>⟨by simp,?_⟩⟩;exact c6 dL h
theorem VT(k:Nat)(zs:List (aa))(JW:D2 rt)(he:∀d∈iI rt,Ends es k d)(hl:(pV es rt k).length<1000000)(wH:Yp es)(hn:∀x,0<=jI es x/\jI es x<1000000000)(hz:List.Perm zs (pV es rt k))(hs:zs.Pairwise fun a b=>jI es a<jI es b)
  (hzo:∀x∈zs,El es x/\(zu es x).ok) (Bc:∀n∈iQ (dJ rt),(∃d,dj (.str n) rt=some (.str d))/\(Dt rt n).ok) (w7:rt.length<1000000) (lQ:(cW (nJ es rt zs)).length<1000000000) (h0:zs≠[]) (h1:rt≠[]):
  cU ak 19 [P3] (eu (pS cO cP b fl nx lf es rt)) 7 (.int .i64 0) (hL (l3r b lf es rt (cW (nJ es rt zs)) 8 [] (iu (nJ es rt zs)).nx (iu (nJ es rt zs)).es (iu (nJ es rt zs)).rt)) 10:=by
 refine c5 Tryz.func19 (code:=OK) U U ?_;have Hy:zs.length<1000000:=by rw[hz.length_eq];exact hl
 have Sj:=c51 cO cP b fl nx lf es rt k JW he;have O2:=c54 cO cP b fl nx lf es rt (pV es rt k) zs hl wH hn hz hs;have Xv:G7 22 zs= .di (some (22,0)) zs.length zs.length 1/\sk 22 zs=[(22,.deep (strs zs))]/\nK 22 zs=23:=by
  cases zs with
  |nil=>exact absurd rfl h0
  |cons z zs=>exact⟨rfl,rfl,rfl⟩
 rw[Xv.1,Xv.2.1,Xv.2.2]at O2;generalize pV es rt k=ks at Sj O2;refine iO  4 (((XQ []).jt (au U) Sj).jt (au U) O2) (am7 cO cP b fl nx lf es rt ks zs.length (strs zs)) (fm ⟨rfl,rfl,rfl⟩ (eR ⟨rfl,rfl,rfl⟩)) ?_;have e2:cW (nJ es rt zs)=cW (zs.map (zu es))++cW ((iQ (dJ rt)).map (Dt rt)):=LD _ _;have HX:=lQ;rw[e2,ax]at HX;refine VS cO cP b fl nx lf es rt zs h0 Hy hzo be ?_;show TG ak 7 Tryz.f19.ntmps G9 _ _;refine cV U ?_;refine cV U ?_;have Hz:0<(cW (zs.map (zu es))).length:=by
  cases zs with
  |nil=>exact absurd rfl h0
  |cons z zs=>
   rw[bW,show cW (zu es z::zs.map (zu es))=(zu es z).bytes++cW (zs.map (zu es))from rfl,ax];have:=oo (r:=zu es z);omega
 have Kn:zq rt:=fun e h=>by obtain⟨n,d,rfl⟩:=JW e h;exact⟨n,rfl⟩
 have agb:=c23 cO cP b fl nx lf es rt (cW (zs.map (zu es))) Kn w7;have tZ:(iQ (dJ rt)).length=rt.length:=by rw[sE,xV]
 have rE:TG ak 7 Tryz.f19.ntmps (dV G9) (sHe cO cP b fl nx lf es rt (cW (zs.map (zu es))++cW ((iQ (dJ rt)).map (Dt rt)))) (fH ak 7 Tryz.f19 fun v h n=>v= .int .i64 0/\h=hL (l3r b lf es rt (cW (nJ es rt zs)) 8 [] (iu (nJ es rt zs)).nx (iu (nJ es rt zs)).es (iu (nJ es rt zs)).rt)/\n=10):=by
  rw[<- e2];refine iO  3 XT (af3 cO cP b fl nx lf es rt (cW (nJ es rt zs))) cR ?_;refine fu (XT.jt (au U) (c57 b nx lf es rt (nJ es rt zs) (fun r hr=>?_) lQ)) (af6 b nx lf es rt (cW (nJ es rt zs)) (iu (nJ es rt zs)).nx (iu (nJ es rt zs)).es (iu (nJ es rt zs)).rt) fun g hg _=>?_
  . rcases aU.1 hr with h|h
    . obtain⟨x,hx,rfl⟩:=bB.1 h;exact(hzo x hx).2
    . obtain⟨x,hx,rfl⟩:=bB.1 h;exact(Bc x hx).2
  . rw[aq]at hg;subst hg;exact⟨eR ⟨rfl,rfl,rfl⟩,_,_,_,rfl,rfl,rfl,rfl⟩
 generalize iQ (dJ rt)=ws at *
 match ws,tZ with
 | [],tZ=>exact absurd (cH.1 tZ.symm) h1
 | [x],tZ=>
   refine fR (XT.jt (au U) agb) (af1 cO cP b fl nx lf es rt x (cW (zs.map (zu es)))) (dG ?_);refine⟨fm ⟨rfl,rfl,rfl⟩ (eR rfl),fun s' dL=>?_⟩;exact M3 cO cP b fl nx lf es rt [x] _ (by rw[tZ];exact w7) Bc Hz be ((gu.norm dL).trans (.deep [9] U)) rE
 |x::y::ws,tZ=>
  refine fR (XT.jt (au U) agb) (anh cO cP b fl nx lf es rt (x::y::ws) (cW (zs.map (zu es)))) (dG ?_);refine⟨fm ⟨rfl,rfl,rfl⟩ (eR rfl),fun s' dL=>?_⟩;exact M3 cO cP b fl nx lf es rt (x::y::ws) _ (by rw[tZ];exact w7) Bc Hz be (.norm dL) rE
theorem VU(wH:Yp es)(hn:∀x,0<=jI es x/\jI es x<1000000000):cU ak 19 [P3] (eu (pS cO cP b fl nx lf es [])) 7 (.int .i64 0) (hL (l3f b lf es 7 [])) 9:=by
 refine c5 Tryz.func19 (code:=OK) U U ?_;have Sj:=c51 cO cP b fl nx lf es [] 0 (fun _ h=>by cases h) (fun _ h=>by cases h);have O2:=c54 cO cP b fl nx lf es [] (pV es [] 0) [] (au rfl) wH hn .nil .nil;rw[show pV es [] 0=[]from rfl]at Sj O2;refine iO  4 (((XQ []).jt (au U) Sj).jt (au U) O2) (am8 cO cP b fl nx lf es [] []) (fm ⟨rfl,rfl,rfl⟩ (eR ⟨rfl,rfl,rfl⟩)) ?_;show TG ak 7 Tryz.f19.ntmps T5 _ _;refine cV U ?_;refine fR (XQ []) (ang cO cP b fl nx lf es []) (dG ?_);refine⟨cR,fun s' dL=>c6 dL ?_⟩;show TG ak 7 Tryz.f19.ntmps G9 _ _;refine cV U ?_;refine fR (XT.jt (au U) (ank cO cP b fl nx lf es)) (af4 cO cP b fl nx lf es) (dG ?_);refine⟨eR ⟨rfl,rfl,rfl⟩,fun s' dL=>c6 dL ?_⟩;refine iO  3 XT (af5 cO cP b fl nx lf es) cR ?_;refine fu (XT.jt (au U) (anl b nx lf es)) (af7 b nx lf es) (dG ?_);exact⟨eR ⟨rfl,rfl,rfl⟩,_,_,_,rfl,rfl,rfl,rfl⟩
end
section
variable(fl nx lf:Int)
def VV:af:=eP (pN fl nx lf [] [])++[(7,.cells [.map (some 6)])]
def lVN:af:=VV fl nx lf++[(8,.cells [.map (some 9)]),(9,.dy none []),(10,.cells [.fn (.func 77) [] [P8,P11,OW]]),(11,.cells [P3])]
def VW:St:=eF [(5,P8),(6,OW),(10,f78)] (hL (lVN fl nx lf)) 12
noncomputable def anm:af:=lVN fl nx lf++[(12,.mA),(13,.loop true none (VW fl nx lf).fr [11] aaD aaE)]
noncomputable def Je:Tr O:=hL (anm fl nx lf)
noncomputable def VX:St:=eF [(0,.fn (.yield 13) [] []),(6,.ptr (some (14,0)))] ((Je fl nx lf).set 6 none) 15
def agc:Tr O:=hL (VV fl nx lf++[(8,.dy none [])])
end
section
variable(fl nx lf:Int)
theorem ann:c7 lZ [] 8 Tryz.f51 [1,5,6] (eO 4 Rz) (cT [P3,f78] (hL (VV fl nx lf)) 8) [([],
   [],
   .to .normal (eF [(1,.fn (.func 78) [] [.ptr (some (7,0))]),(5,.ptr (some (8,0))),(6,.ptr (some (10,0)))] (hL [(0,.ints .u32 gS),(1,.ints .u32 gR),(3,.cells [.di none 0 0 0,.int .i64 ((pN fl nx lf [] []).fl),.map (some 5),.map (some 6),.int .i64 ((pN fl nx lf [] []).nx),.bool false,.bool false,.int .i64 ((pN fl nx lf [] []).lf)]),(5,.dy none []),(6,.dy none []),(7,.cells [.map (some 6)]),(8,.cells [.map (some 9)]),(9,.map [] 0),(10,.cells [.fn (.func 77) [] [.ptr (some (8,0)),.ptr (some (11,0)),.ptr (some (10,0))]]),(11,.cells [.ptr (some (3,0))])]) 12))]
 :=cQ.of U U U
theorem ano:c7 lZ [] 8 Tryz.f51 [5,6,10] (dK (dK GP)) (eF [(1,f78),(5,P8),(6,OW)] (hL (lVN fl nx lf)) 12) [([],
   [],
   .to .normal (VW fl nx lf))]
 :=cQ.of U U U
theorem anp:sB ak lZ [] 1000 8 Tryz.f51 (dV GP) (tD (VW fl nx lf) (Je fl nx lf) 14)
  [([],
   [],
   .ret (.map (some 8)) (agc fl nx lf) 9)]
 :=⟨U,U,U⟩
end
section
variable(cO cP:Nat)(b:aa)(fl nx lf:Int)(es rt:ae)
theorem anq:51<Tryz.prog.funcs.size:=au U
theorem VY(k:Nat)(d:aa)(JW:D2 rt)(he:∀x∈iI rt,Ends es k x):cU ak 17 [P3,.str d] (eu (pS cO cP b fl nx lf es rt)) 7 (.bool (decide (d∈pV es rt k))) (eu (pS cO cP b fl nx lf es rt)) 7:=by
 refine c5 Tryz.func17 (code:=afQ) U U ?_;have hc:=M1 cO cP b fl nx lf es rt k JW he;refine fu (uo.jt anq hc) (amz cO cP b fl nx lf es rt (nI (pV es rt k)) d (decide (d∈pV es rt k))) (dG ?_);refine⟨fm ⟨rfl,rfl,rfl⟩ (eR ?_),_,_,_,rfl,rfl,rfl,rfl⟩;by_cases h:d∈pV es rt k
 . rw[bM h];exact Fq h
 . rw[bw h];exact Dn h
end
section
variable(fl nx lf:Int)
theorem VZ:cU ak 78 [.fn (.yield 13) [] [],.ptr (some (7,0))] (Je fl nx lf) 14 (.ef []) (Je fl nx lf) 14:=by
 refine fU.is (gF mo po Tryz.func78 (code:=GQ) U U ?_);rw[aeX];refine zf (v0:=.map (some 6)) (kg:=(cT [.fn (.yield 13) [] [],.ptr (some (7,0))] (Je fl nx lf) 14).fr.set 5 (some (.map (some 6)))) (zS:=((cT [.fn (.yield 13) [] [],.ptr (some (7,0))] (Je fl nx lf) 14).fr.set 5 (some (.map (some 6)))).set 6 (some (.ptr (some (14,0))))) (m:=6) (kd:=none) (es:=[]) mo ML
  U U U U (au rfl) U (fun _ s1=>eX 15 [0,6] s1=some (VX fl nx lf)) U ?_
 rintro iD left s1 hs hp;have hz:iD=[]/\left=[]:=List.append_eq_nil_iff.1 hp.eq_nil;obtain⟨rfl,rfl⟩:=hz;refine⟨[0,6],_,hs,U,fun _=>?_,fun e ko he2=>?_⟩
 . exact⟨(VX fl nx lf).fr.set 7 (some (.ef [.bool false])),{ VX fl nx lf with fr:=((VX fl nx lf).fr.set 7 (some (.ef [.bool false]))).set 8 (some (.bool false)) },U,U,U,.inl rfl,.ef [],Je fl nx lf,14,U,rfl,rfl,rfl⟩
 . have:=he2.length_eq;simp at this
theorem V0:cU ak 51 [P3,f78] (hL (VV fl nx lf)) 8 (.map (some 8)) (agc fl nx lf) 9:=by
 refine c5 Tryz.func51 (code:=Rz) U U ?_;refine iO  4 uo (ann fl nx lf) cR ?_;refine Aq [(9,none)] (s2:=eF [(1,f78),(5,P8),(6,OW)] (hL (lVN fl nx lf)) 12) U ?_;show TG ak 8 Tryz.f51.ntmps GP _ _;refine cV U ?_;refine cV U ?_;refine fR uo (ano fl nx lf) (dG ?_);refine⟨cR,fun s' dL=>c6 dL ?_⟩;refine fg (i:=0) U ?_;refine oh (gf:=78) (lb:=[.ptr (some (7,0))]) U U U U U (VZ fl nx lf).one ?_;rintro v h n ⟨rfl,rfl,rfl⟩;refine⟨U,?_⟩;show TG ak 8 Tryz.f51.ntmps (dV GP) (tD (VW fl nx lf) (Je fl nx lf) 14) _;refine o9 uo mo _ U (anp fl nx lf) (dG ?_);exact⟨cR,_,_,_,rfl,rfl,rfl,rfl⟩
end
noncomputable abbrev O3:Code:=dS Tryz.f145
noncomputable abbrev abg:Code:=de 2 O3
noncomputable abbrev agd:Code:=dx (dx (dV (dK abg)))
def aR:V:=.agg (gR.map (V.int .u32 ·))
theorem anr(x:Int):c7 T4 [] 3 Tryz.f144 [] (dS Tryz.f144) (cT [.int .u64 x,.int .i64 8] .nil 3) [([],
   [((0:Int)<=(8:Int)/\(8:Int)<=(8:Int)/\(8:Int)<=(281474976710656:Int)),((0:Int)<=(7:Int)/\(7:Int)<(8:Int)),(8<=8),((0:Int)<=(6:Int)/\(6:Int)<(8:Int)),(7<=(fS (tY [(0:Int)] 8) 7 [IntKind.u8.wrap x]).length),((0:Int)<=(5:Int)/\(5:Int)<(8:Int)),(6<=(fS (fS (tY [(0:Int)] 8) 7 [IntKind.u8.wrap x]) 6 [IntKind.u8.wrap (x.fdiv (256:Int))]).length),((0:Int)<=(4:Int)/\(4:Int)<(8:Int)),(5<=(fS (fS (fS (tY [(0:Int)] 8) 7 [IntKind.u8.wrap x]) 6 [IntKind.u8.wrap (x.fdiv (256:Int))]) 5 [IntKind.u8.wrap ((x.fdiv (256:Int)).fdiv (256:Int))]).length),((0:Int)<=(3:Int)/\(3:Int)<(8:Int)),(4<=(fS (fS (fS (fS (tY [(0:Int)] 8) 7 [IntKind.u8.wrap x]) 6 [IntKind.u8.wrap (x.fdiv (256:Int))]) 5 [IntKind.u8.wrap ((x.fdiv (256:Int)).fdiv (256:Int))]) 4 [IntKind.u8.wrap (((x.fdiv (256:Int)).fdiv (256:Int)).fdiv (256:Int))]).length),((0:Int)<=(2:Int)/\(2:Int)<(8:Int)),(3<=(fS (fS (fS (fS (fS (tY [(0:Int)] 8) 7 [IntKind.u8.wrap x]) 6 [IntKind.u8.wrap (x.fdiv (256:Int))]) 5 [IntKind.u8.wrap ((x.fdiv (256:Int)).fdiv (256:Int))]) 4 [IntKind.u8.wrap (((x.fdiv (256:Int)).fdiv (256:Int)).fdiv (256:Int))]) 3 [IntKind.u8.wrap ((((x.fdiv (256:Int)).fdiv (256:Int)).fdiv (256:Int)).fdiv (256:Int))]).length),((0:Int)<=(1:Int)/\(1:Int)<(8:Int)),(2<=(fS (fS (fS (fS (fS (fS (tY [(0:Int)] 8) 7 [IntKind.u8.wrap x]) 6 [IntKind.u8.wrap (x.fdiv (256:Int))]) 5 [IntKind.u8.wrap ((x.fdiv (256:Int)).fdiv (256:Int))]) 4 [IntKind.u8.wrap (((x.fdiv (256:Int)).fdiv (256:Int)).fdiv (256:Int))]) 3 [IntKind.u8.wrap ((((x.fdiv (256:Int)).fdiv (256:Int)).fdiv (256:Int)).fdiv (256:Int))]) 2 [IntKind.u8.wrap (((((x.fdiv (256:Int)).fdiv (256:Int)).fdiv (256:Int)).fdiv (256:Int)).fdiv (256:Int))]).length),((0:Int)<=(0:Int)/\(0:Int)<(8:Int)),(1<=(fS (fS (fS (fS (fS (fS (fS (tY [(0:Int)] 8) 7 [IntKind.u8.wrap x]) 6 [IntKind.u8.wrap (x.fdiv (256:Int))]) 5 [IntKind.u8.wrap ((x.fdiv (256:Int)).fdiv (256:Int))]) 4 [IntKind.u8.wrap (((x.fdiv (256:Int)).fdiv (256:Int)).fdiv (256:Int))]) 3 [IntKind.u8.wrap ((((x.fdiv (256:Int)).fdiv (256:Int)).fdiv (256:Int)).fdiv (256:Int))]) 2 [IntKind.u8.wrap (((((x.fdiv (256:Int)).fdiv (256:Int)).fdiv (256:Int)).fdiv (256:Int)).fdiv (256:Int))]) 1 [IntKind.u8.wrap ((((((x.fdiv (256:Int)).fdiv (256:Int)).fdiv (256:Int)).fdiv (256:Int)).fdiv (256:Int)).fdiv (256:Int))]).length),(8<=(fS (fS (fS (fS (fS (fS (fS (fS (tY [(0:Int)] 8) 7 [IntKind.u8.wrap x]) 6 [IntKind.u8.wrap (x.fdiv (256:Int))]) 5 [IntKind.u8.wrap ((x.fdiv (256:Int)).fdiv (256:Int))]) 4 [IntKind.u8.wrap (((x.fdiv (256:Int)).fdiv (256:Int)).fdiv (256:Int))]) 3 [IntKind.u8.wrap ((((x.fdiv (256:Int)).fdiv (256:Int)).fdiv (256:Int)).fdiv (256:Int))]) 2 [IntKind.u8.wrap (((((x.fdiv (256:Int)).fdiv (256:Int)).fdiv (256:Int)).fdiv (256:Int)).fdiv (256:Int))]) 1 [IntKind.u8.wrap ((((((x.fdiv (256:Int)).fdiv (256:Int)).fdiv (256:Int)).fdiv (256:Int)).fdiv (256:Int)).fdiv (256:Int))]) 0 [IntKind.u8.wrap (((((((x.fdiv (256:Int)).fdiv (256:Int)).fdiv (256:Int)).fdiv (256:Int)).fdiv (256:Int)).fdiv (256:Int)).fdiv (256:Int))]).length)],
   .ret (.str (eN (List.take 8 (List.drop 0 (fS (fS (fS (fS (fS (fS (fS (fS (tY [(0:Int)] 8) 7 [IntKind.u8.wrap x]) 6 [IntKind.u8.wrap (x.fdiv (256:Int))]) 5 [IntKind.u8.wrap ((x.fdiv (256:Int)).fdiv (256:Int))]) 4 [IntKind.u8.wrap (((x.fdiv (256:Int)).fdiv (256:Int)).fdiv (256:Int))]) 3 [IntKind.u8.wrap ((((x.fdiv (256:Int)).fdiv (256:Int)).fdiv (256:Int)).fdiv (256:Int))]) 2 [IntKind.u8.wrap (((((x.fdiv (256:Int)).fdiv (256:Int)).fdiv (256:Int)).fdiv (256:Int)).fdiv (256:Int))]) 1 [IntKind.u8.wrap ((((((x.fdiv (256:Int)).fdiv (256:Int)).fdiv (256:Int)).fdiv (256:Int)).fdiv (256:Int)).fdiv (256:Int))]) 0 [IntKind.u8.wrap (((((((x.fdiv (256:Int)).fdiv (256:Int)).fdiv (256:Int)).fdiv (256:Int)).fdiv (256:Int)).fdiv (256:Int)).fdiv (256:Int))]))))) (hL []) 3)]
 :=cQ.of U U U
theorem ans(x:Int):c7 T4 [] 3 Tryz.f144 [] (dS Tryz.f144) (cT [.int .u64 x,.int .i64 4] .nil 3) [([],
   [((0:Int)<=(4:Int)/\(4:Int)<=(4:Int)/\(4:Int)<=(281474976710656:Int)),((0:Int)<=(3:Int)/\(3:Int)<(4:Int)),(4<=4),((0:Int)<=(2:Int)/\(2:Int)<(4:Int)),(3<=(fS (tY [(0:Int)] 4) 3 [IntKind.u8.wrap x]).length),((0:Int)<=(1:Int)/\(1:Int)<(4:Int)),(2<=(fS (fS (tY [(0:Int)] 4) 3 [IntKind.u8.wrap x]) 2 [IntKind.u8.wrap (x.fdiv (256:Int))]).length),((0:Int)<=(0:Int)/\(0:Int)<(4:Int)),(1<=(fS (fS (fS (tY [(0:Int)] 4) 3 [IntKind.u8.wrap x]) 2 [IntKind.u8.wrap (x.fdiv (256:Int))]) 1 [IntKind.u8.wrap ((x.fdiv (256:Int)).fdiv (256:Int))]).length),(4<=(fS (fS (fS (fS (tY [(0:Int)] 4) 3 [IntKind.u8.wrap x]) 2 [IntKind.u8.wrap (x.fdiv (256:Int))]) 1 [IntKind.u8.wrap ((x.fdiv (256:Int)).fdiv (256:Int))]) 0 [IntKind.u8.wrap (((x.fdiv (256:Int)).fdiv (256:Int)).fdiv (256:Int))]).length)],
   .ret (.str (eN (List.take 4 (List.drop 0 (fS (fS (fS (fS (tY [(0:Int)] 4) 3 [IntKind.u8.wrap x]) 2 [IntKind.u8.wrap (x.fdiv (256:Int))]) 1 [IntKind.u8.wrap ((x.fdiv (256:Int)).fdiv (256:Int))]) 0 [IntKind.u8.wrap (((x.fdiv (256:Int)).fdiv (256:Int)).fdiv (256:Int))]))))) (hL []) 3)]
 :=cQ.of U U U
theorem ant(b:aa)(q:E8):c7 T4 [] 3 Tryz.f145 [1,3,5,6,7] (eO 2 O3) (cT [.agg (c8 q),.str b,aR] .nil 3) [([],
   [],
   .to .normal (eF [(1,.str b),(3,.ptr (some (3,0))),(5,.ptr (some (4,0))),(6,.ptr (some (5,0))),(7,.ptr (some (6,0)))] (hL [(3,.cells [.int .u32 (q.1),.int .u32 (q.2.1),.int .u32 (q.2.2.1),.int .u32 (q.2.2.2.1),.int .u32 (q.2.2.2.2.1),.int .u32 (q.2.2.2.2.2.1),.int .u32 (q.2.2.2.2.2.2.1),.int .u32 (q.2.2.2.2.2.2.2)]),(4,.cells [.int .u32 1116352408,.int .u32 1899447441,.int .u32 3049323471,.int .u32 3921009573,.int .u32 961987163,.int .u32 1508970993,.int .u32 2453635748,.int .u32 2870763221,.int .u32 3624381080,.int .u32 310598401,.int .u32 607225278,.int .u32 1426881987,.int .u32 1925078388,.int .u32 2162078206,.int .u32 2614888103,.int .u32 3248222580,.int .u32 3835390401,.int .u32 4022224774,.int .u32 264347078,.int .u32 604807628,.int .u32 770255983,.int .u32 1249150122,.int .u32 1555081692,.int .u32 1996064986,.int .u32 2554220882,.int .u32 2821834349,.int .u32 2952996808,.int .u32 3210313671,.int .u32 3336571891,.int .u32 3584528711,.int .u32 113926993,.int .u32 338241895,.int .u32 666307205,.int .u32 773529912,.int .u32 1294757372,.int .u32 1396182291,.int .u32 1695183700,.int .u32 1986661051,.int .u32 2177026350,.int .u32 2456956037,.int .u32 2730485921,.int .u32 2820302411,.int .u32 3259730800,.int .u32 3345764771,.int .u32 3516065817,.int .u32 3600352804,.int .u32 4094571909,.int .u32 275423344,.int .u32 430227734,.int .u32 506948616,.int .u32 659060556,.int .u32 883997877,.int .u32 958139571,.int .u32 1322822218,.int .u32 1537002063,.int .u32 1747873779,.int .u32 1955562222,.int .u32 2024104815,.int .u32 2227730452,.int .u32 2361852424,.int .u32 2428436474,.int .u32 2756734187,.int .u32 3204031479,.int .u32 3329325298]),(5,.cells [.int .u32 0,.int .u32 0,.int .u32 0,.int .u32 0,.int .u32 0,.int .u32 0,.int .u32 0,.int .u32 0]),(6,.cells [.int .u32 0,.int .u32 0,.int .u32 0,.int .u32 0,.int .u32 0,.int .u32 0,.int .u32 0,.int .u32 0,.int .u32 0,.int .u32 0,.int .u32 0,.int .u32 0,.int .u32 0,.int .u32 0,.int .u32 0,.int .u32 0,.int .u32 0,.int .u32 0,.int .u32 0,.int .u32 0,.int .u32 0,.int .u32 0,.int .u32 0,.int .u32 0,.int .u32 0,.int .u32 0,.int .u32 0,.int .u32 0,.int .u32 0,.int .u32 0,.int .u32 0,.int .u32 0,.int .u32 0,.int .u32 0,.int .u32 0,.int .u32 0,.int .u32 0,.int .u32 0,.int .u32 0,.int .u32 0,.int .u32 0,.int .u32 0,.int .u32 0,.int .u32 0,.int .u32 0,.int .u32 0,.int .u32 0,.int .u32 0,.int .u32 0,.int .u32 0,.int .u32 0,.int .u32 0,.int .u32 0,.int .u32 0,.int .u32 0,.int .u32 0,.int .u32 0,.int .u32 0,.int .u32 0,.int .u32 0,.int .u32 0,.int .u32 0,.int .u32 0,.int .u32 0])]) 7))]
 :=cQ.of U U U
section
variable(b:aa)(q:E8)(ws:List Int)(i:Nat)
def mVc:af:=[(3,.cells (c8 q)),(4,.own .u32 gR),(5,.cells (c8 (0,0,0,0,0,0,0,0))),(6,.own .u32 ws)]
def Sk:St:=eF [(1,.str b),(3,.ptr (some (3,0))),(5,.ptr (some (4,0))),(6,.ptr (some (5,0))),(7,.ptr (some (6,0))),(8,iW i)] (hL (mVc q ws)) 7
end
section
variable(b:aa)(e a x:Int)(q:E8)(i:Nat)(ws:List Int)
theorem anv:c7 T4 [] 3 Tryz.f145 [1,3,5,6,7,8] (dK (dK abg)) (eF [(1,.str b),(3,.ptr (some (3,0))),(5,.ptr (some (4,0))),(6,.ptr (some (5,0))),(7,.ptr (some (6,0)))] (hL (mVc q ws)) 7) [([],
   [],
   .to .normal (Sk b q ws 0))]
 :=cQ.of U U U
def Du(m d x:Int):Int:=JV (x.fdiv d) (w32 (x*m))
def abh:Int:=nt (nt (Du 33554432 128 x) (Du 16384 262144 x)) (x.fdiv 8)
def abi:Int:=nt (nt (Du 32768 131072 x) (Du 8192 524288 x)) (x.fdiv 1024)
def M4(i:Nat):Int:=w32 (w32 (w32 (gW ws (i-16)+abh (gW ws (i-15)))+gW ws (i-7))+abi (gW ws (i-2)))
def M5:Int:=w32 (w32 (w32 (w32 (UO b (i*4)*16777216)+w32 (UO b (i*4+1)*65536))+w32 (UO b (i*4+2)*256))+UO b (i*4+3))
def abj:Int:=nt (nt (Du 67108864 64 e) (Du 2097152 2048 e)) (Du 128 33554432 e)
def abk:Int:=nt (nt (Du 1073741824 4 a) (Du 524288 8192 a)) (Du 1024 4194304 a)
def chR(f g:Int):Int:=JV (Aw e f) (Aw (w32 (4294967295-e)) g)
def maR(b c:Int):Int:=JV (JV (Aw a b) (Aw a c)) (Aw b c)
def rdR(rd ws:List Int)(i:Nat):E8->Int
 |(_,_,_,_,e,f,g,h)=>w32 (w32 (w32 (w32 (h+abj e)+chR e f g)+gW rd i)+gW ws i)
def abl(rd ws:List Int)(i:Nat):E8->E8
 |(a,b,c,d,e,f,g,h)=>(w32 (w32 (rdR rd ws i (a,b,c,d,e,f,g,h)+abk a)+maR a b c),a,b,c,w32 (d+rdR rd ws i (a,b,c,d,e,f,g,h)),e,f,g)
abbrev Hf:Prop:=V.int aj (IntKind.i64.wrap ((4:Int)*Int.ofNat i))=iW (i*4)
theorem age(i:Nat):c7 T4 [(20,.split),(24,.dc (.bool true)),(28,.dc (iW (i*4))),(34,.dc (iW (i*4))),(35,.dc (iW (i*4+1))),(42,.dc (iW (i*4))),(43,.dc (iW (i*4+2))),(50,.dc (iW (i*4))),(51,.dc (iW (i*4+3))),(22,.dc (iW (i+1)))] 3 Tryz.f145 [1,3,5,6,7,8] (agd) (Sk b q ws i) [([((decide (Int.ofNat i<(64:Int))),true)],
   [(V.bool (decide (Int.ofNat i<(16:Int)))=V.bool true),Hf i,((0:Int)<=Int.ofNat (i*4)/\(i*4)<b.length),Hf i,(V.int aj (IntKind.i64.wrap (Int.ofNat (i*4)+(1:Int)))=iW (i*4+1)),((0:Int)<=Int.ofNat (i*4+1)/\(i*4+1)<b.length),Hf i,(V.int aj (IntKind.i64.wrap (Int.ofNat (i*4)+(2:Int)))=iW (i*4+2)),((0:Int)<=Int.ofNat (i*4+2)/\(i*4+2)<b.length),Hf i,(V.int aj (IntKind.i64.wrap (Int.ofNat (i*4)+(3:Int)))=iW (i*4+3)),((0:Int)<=Int.ofNat (i*4+3)/\(i*4+3)<b.length),((0:Int)<=Int.ofNat i/\Int.ofNat i<(64:Int)),(0+i*1+1<=ws.length),(V.int aj (IntKind.i64.wrap (Int.ofNat i+(1:Int)))=iW (i+1))],
   .to .normal (Sk b q (fS ws (0+i*1) [M5 b i]) (i+1))),
  ([((decide (Int.ofNat i<(64:Int))),false)],
   [],
   .to (.exit 0) (Sk b q ws i))]
 :=cQ.of U U U
abbrev LF:Prop:=V.int aj (IntKind.i64.wrap (Int.ofNat i-(15:Int)))=iW (i-15)
abbrev LG:Prop:=V.int aj (IntKind.i64.wrap (Int.ofNat i-(2:Int)))=iW (i-2)
theorem anz(i:Nat):c7 T4 [(20,.split),(24,.dc (.bool false)),(57,.dc (iW (i-15))),(62,.dc (iW (i-15))),(68,.dc (iW (i-15))),(74,.dc (iW (i-2))),(79,.dc (iW (i-2))),(85,.dc (iW (i-2))),(92,.dc (iW (i-16))),(98,.dc (iW (i-7))),(22,.dc (iW (i+1)))] 3 Tryz.f145 [1,3,5,6,7,8] (agd) (Sk b q ws i) [([((decide (Int.ofNat i<(64:Int))),true)],
   [(V.bool (decide (Int.ofNat i<(16:Int)))=V.bool false),LF i,((0:Int)<=Int.ofNat (i-15)/\Int.ofNat (i-15)<(64:Int)),(0+(i-15)*1<ws.length),LF i,((0:Int)<=Int.ofNat (i-15)/\Int.ofNat (i-15)<(64:Int)),(0+(i-15)*1<ws.length),(0+(i-15)*1<ws.length),LF i,((0:Int)<=Int.ofNat (i-15)/\Int.ofNat (i-15)<(64:Int)),(0+(i-15)*1<ws.length),(0+(i-15)*1<ws.length),(0+(i-15)*1<ws.length),LG i,((0:Int)<=Int.ofNat (i-2)/\Int.ofNat (i-2)<(64:Int)),(0+(i-2)*1<ws.length),LG i,((0:Int)<=Int.ofNat (i-2)/\Int.ofNat (i-2)<(64:Int)),(0+(i-2)*1<ws.length),(0+(i-2)*1<ws.length),LG i,((0:Int)<=Int.ofNat (i-2)/\Int.ofNat (i-2)<(64:Int)),(0+(i-2)*1<ws.length),(0+(i-2)*1<ws.length),(0+(i-2)*1<ws.length),(V.int aj (IntKind.i64.wrap (Int.ofNat i-(16:Int)))=iW (i-16)),((0:Int)<=Int.ofNat (i-16)/\Int.ofNat (i-16)<(64:Int)),(0+(i-16)*1<ws.length),(V.int aj (IntKind.i64.wrap (Int.ofNat i-(7:Int)))=iW (i-7)),((0:Int)<=Int.ofNat (i-7)/\Int.ofNat (i-7)<(64:Int)),(0+(i-7)*1<ws.length),((0:Int)<=Int.ofNat i/\Int.ofNat i<(64:Int)),(0+i*1+1<=ws.length),(V.int aj (IntKind.i64.wrap (Int.ofNat i+(1:Int)))=iW (i+1))],
   .to .normal (Sk b q (fS ws (0+i*1) [M4 ws i]) (i+1))),
  ([((decide (Int.ofNat i<(64:Int))),false)],
   [],
   .to (.exit 0) (Sk b q ws i))]
 :=cQ.of U U U
noncomputable abbrev M6:Code:=de 4 O3
end
noncomputable abbrev anA:Code:=dx (dx (dV (dK M6)))
section
variable(q q':E8)(ws:List Int)(i:Nat)
def mVd:af:=[(3,.cells (c8 q)),(4,.own .u32 gR),(5,.cells (c8 (0,0,0,0,0,0,0,0))),(6,.own .u32 ws),(7,.cells (c8 q'))]
def T6(r:List (Nat×V)):St:=eF ([(3,.ptr (some (3,0))),(5,.ptr (some (4,0))),(6,.ptr (some (5,0))),(7,.ptr (some (6,0))),(11,.ptr (some (7,0)))]++r) (hL (mVd q q' ws)) 8
end
theorem anB(b:aa)(q:E8)(ws:List Int)(i:Nat):c7 T4 [] 3 Tryz.f145 [3,5,6,7,11] (dK (de 3 O3)) (Sk b q ws i) [([],
   [],
   .to .normal (T6 q q ws []))]
 :=cQ.of U U U
theorem anC(q q':E8)(ws:List Int):c7 T4 [] 3 Tryz.f145 [3,5,6,7,11,12] (dK (dK M6)) (T6 q q' ws []) [([],
   [],
   .to .normal (T6 q q' ws [(12,iW 0)]))]
 :=cQ.of U U U
theorem agf(a b c d e f g h a' b' c' d' e' f' g' h':Int)(ws:List Int)(i:Nat):c7 T4 [(107,.split),(109,.dc (iW (i+1)))] 3 Tryz.f145 [3,5,6,7,11,12] (anA) (T6 (a,b,c,d,e,f,g,h) (a',b',c',d',e',f',g',h') ws [(12,iW i)]) [([((decide (Int.ofNat i<(64:Int))),true)],
   [((0:Int)<=Int.ofNat i/\Int.ofNat i<(64:Int)),(0+i*1<64),((0:Int)<=Int.ofNat i/\Int.ofNat i<(64:Int)),(0+i*1<ws.length),(V.int aj (IntKind.i64.wrap (Int.ofNat i+(1:Int)))=iW (i+1))],
   .to .normal (T6 (a,b,c,d,e,f,g,h) (abl gR ws i (a',b',c',d',e',f',g',h')) ws [(12,iW (i+1))])),
  ([((decide (Int.ofNat i<(64:Int))),false)],
   [],
   .to (.exit 2) (T6 (a,b,c,d,e,f,g,h) (a',b',c',d',e',f',g',h') ws [(12,iW i)]))]
 :=cQ.of U U U
theorem anD(a b c d e f g h a' b' c' d' e' f' g' h':Int)(ws:List Int)(i:Nat):c7 T4 [] 3 Tryz.f145 [] (dV M6) (T6 (a,b,c,d,e,f,g,h) (a',b',c',d',e',f',g',h') ws [(12,iW i)]) [([],
   [((0:Int)<=(0:Int)/\(0:Int)<(8:Int)),((0:Int)<=(0:Int)/\(0:Int)<(8:Int)),((0:Int)<=(0:Int)/\(0:Int)<(8:Int)),((0:Int)<=(1:Int)/\(1:Int)<(8:Int)),((0:Int)<=(1:Int)/\(1:Int)<(8:Int)),((0:Int)<=(1:Int)/\(1:Int)<(8:Int)),((0:Int)<=(2:Int)/\(2:Int)<(8:Int)),((0:Int)<=(2:Int)/\(2:Int)<(8:Int)),((0:Int)<=(2:Int)/\(2:Int)<(8:Int)),((0:Int)<=(3:Int)/\(3:Int)<(8:Int)),((0:Int)<=(3:Int)/\(3:Int)<(8:Int)),((0:Int)<=(3:Int)/\(3:Int)<(8:Int)),((0:Int)<=(4:Int)/\(4:Int)<(8:Int)),((0:Int)<=(4:Int)/\(4:Int)<(8:Int)),((0:Int)<=(4:Int)/\(4:Int)<(8:Int)),((0:Int)<=(5:Int)/\(5:Int)<(8:Int)),((0:Int)<=(5:Int)/\(5:Int)<(8:Int)),((0:Int)<=(5:Int)/\(5:Int)<(8:Int)),((0:Int)<=(6:Int)/\(6:Int)<(8:Int)),((0:Int)<=(6:Int)/\(6:Int)<(8:Int)),((0:Int)<=(6:Int)/\(6:Int)<(8:Int)),((0:Int)<=(7:Int)/\(7:Int)<(8:Int)),((0:Int)<=(7:Int)/\(7:Int)<(8:Int)),((0:Int)<=(7:Int)/\(7:Int)<(8:Int))],
   .ret (.agg [.int .u32 (IntKind.u32.wrap ((a,b,c,d,e,f,g,h).1+(a',b',c',d',e',f',g',h').1)),.int .u32 (IntKind.u32.wrap ((a,b,c,d,e,f,g,h).2.1+(a',b',c',d',e',f',g',h').2.1)),.int .u32 (IntKind.u32.wrap ((a,b,c,d,e,f,g,h).2.2.1+(a',b',c',d',e',f',g',h').2.2.1)),.int .u32 (IntKind.u32.wrap ((a,b,c,d,e,f,g,h).2.2.2.1+(a',b',c',d',e',f',g',h').2.2.2.1)),.int .u32 (IntKind.u32.wrap ((a,b,c,d,e,f,g,h).2.2.2.2.1+(a',b',c',d',e',f',g',h').2.2.2.2.1)),.int .u32 (IntKind.u32.wrap ((a,b,c,d,e,f,g,h).2.2.2.2.2.1+(a',b',c',d',e',f',g',h').2.2.2.2.2.1)),.int .u32 (IntKind.u32.wrap ((a,b,c,d,e,f,g,h).2.2.2.2.2.2.1+(a',b',c',d',e',f',g',h').2.2.2.2.2.2.1)),.int .u32 (IntKind.u32.wrap ((a,b,c,d,e,f,g,h).2.2.2.2.2.2.2+(a',b',c',d',e',f',g',h').2.2.2.2.2.2.2))]) (hL []) 3)]
 :=cQ.of U U U
section
variable(a e:Int)(rd:List Int)(x:Int)(ws:List Int)(b:Int)(i:Nat)(q:E8)
theorem xW:w32 x=x%4294967296:=rfl
theorem Sl(z:Int):BitVec.ofInt 32 (w32 z)=BitVec.ofInt 32 z:=by
 apply BitVec.eq_of_toInt_eq;rw[BitVec.toInt_ofInt,BitVec.toInt_ofInt,xW];exact Int.emod_bmod ..
theorem BT(v:BitVec 32):BitVec.ofInt 32 (w32 ↑v.toNat)=v:=by
 rw[Sl];apply BitVec.eq_of_toNat_eq;rw[BitVec.toNat_ofInt];have:=v.isLt;have h:((v.toNat:Int)%((2^32:Nat):Int))=v.toNat:=Int.emod_eq_of_lt be be;rw[h];rfl
theorem Sm:JV a b=JV b a:=by unfold JV;rw[BitVec.or_comm]
theorem ox(m d x:Int):Du m d x=C7 m d x:=Sm _ _
theorem V1:abh x=sg0 x:=by unfold abh sg0;rw[ox,ox]
theorem V2:abi x=sg1 x:=by unfold abi sg1;rw[ox,ox]
theorem V3:abk x=bS0 x:=by unfold abk bS0;rw[ox,ox,ox]
theorem V4:abj x=bS1 x:=by unfold abj bS1;rw[ox,ox,ox]
theorem Sn:M4 ws i=IQ ws i:=by unfold M4 IQ;rw[V1,V2]
theorem V5:BitVec.ofInt 32 (w32 (4294967295-e))= ~~~ BitVec.ofInt 32 e:=by
 rw[Sl];apply BitVec.eq_of_toNat_eq;rw[BitVec.toNat_not,BitVec.toNat_ofInt,BitVec.toNat_ofInt];have h1:=Int.emod_nonneg e (show((2^32:Nat):Int)≠0 by decide);have h2:=Int.emod_lt_of_pos e (show(0:Int)<((2^32:Nat):Int)by decide);have h3:(4294967295-e)%((2^32:Nat):Int)=4294967295-e%((2^32:Nat):Int):=by omega
 rw[h3];omega
theorem Sp:BitVec.ofInt 32 (nt 4294967295 e)= ~~~ BitVec.ofInt 32 e:=by
 unfold nt;rw[BT];apply BitVec.eq_of_getLsbD_eq;intro i hi;have:BitVec.ofInt 32 4294967295=BitVec.allOnes 32:=by decide
 rw[this,BitVec.allOnes_xor]
theorem agh(E F G:BitVec 32):(E&&&F)|||(~~~E&&&G)=(E&&&F)^^^(~~~E&&&G):=by
 apply BitVec.eq_of_getLsbD_eq;intro i hi;simp only[BitVec.getLsbD_or,BitVec.getLsbD_and,BitVec.getLsbD_xor,BitVec.getLsbD_not];cases E.getLsbD i<;>cases F.getLsbD i<;>cases G.getLsbD i<;>simp
theorem agi(A B C:BitVec 32):((A&&&B)|||(A&&&C))|||(B&&&C)=((A&&&B)^^^(A&&&C))^^^(B&&&C):=by
 apply BitVec.eq_of_getLsbD_eq;intro i hi;simp only[BitVec.getLsbD_or,BitVec.getLsbD_and,BitVec.getLsbD_xor];cases A.getLsbD i<;>cases B.getLsbD i<;>cases C.getLsbD i<;>rfl
theorem abm(f g:Int):chR e f g=chI e f g:=by
 unfold chR chI JV nt Aw;simp only[BT];have h:=Sp e;unfold nt at h;rw[BT]at h;rw[V5,h,agh]
theorem abn(c:Int):maR a b c=maI a b c:=by
 unfold maR maI JV nt Aw;simp only[BT];rw[agi]
theorem abo:rdR rd ws i q=rdX rd ws i q:=by
 obtain⟨a,b,c,d,e,f,g,h⟩:=q;simp only[rdR,rdX,V4,abm]
theorem V6(c:Int):w32 (w32 (a+b)+c)=w32 (a+w32 (b+c)):=by
 simp only[xW];omega
theorem V7:abl rd ws i q=Bz rd ws i q:=by
 obtain⟨a,b,c,d,e,f,g,h⟩:=q;simp only[abl,Bz,abo,V3,abn,V6]
theorem abp{a b k:Nat}(hb:b<2^k)(ha:a*2^k+b<4294967296):JV ((a*2^k:Nat):Int) (b:Int)=((a*2^k+b:Nat):Int):=by
 unfold JV;have h1:∀n:Nat,n<4294967296->(BitVec.ofInt 32 (n:Int)).toNat=n:=fun n hn=>by
  rw[BitVec.toNat_ofInt];have:((n:Int)%((2^32:Nat):Int))=n:=Int.emod_eq_of_lt be be;rw[this];rfl
 rw[BitVec.toNat_or,h1 _ be,h1 _ be];have h2:a*2^k|||b=a*2^k+b:=by
  have:=Nat.shiftLeft_add_eq_or_of_lt hb a;rw[Nat.shiftLeft_eq]at this;exact this.symm
 rw[h2,xW];exact Int.emod_eq_of_lt be be
theorem Hg{p q k s:Nat}(hk:k=2^s)(hq:q<k)(h:p*k+q<4294967296){a b:Int}(ha:a=((p*k:Nat):Int))(hb:b=(q:Int)):JV a b=((p*k+q:Nat):Int):=by
 subst hk ha hb;exact abp hq h
theorem Sq(b:aa)(i:Nat):M5 b i=IS b i:=by
 have Sr:∀j,∃n:Nat,n<256/\UO b j=(n:Int):=fun j=>⟨(b.getD j 0).toNat,(b.getD j 0).toNat_lt,by
  have:=(b.getD j 0).toNat_lt;show((b.getD j 0).toNat:Int)%4294967296=_;exact Int.emod_eq_of_lt be be⟩
 unfold M5 IS;obtain⟨x,hx,ex⟩:=Sr (i*4);obtain⟨y,hy,ey⟩:=Sr (i*4+1);obtain⟨z,hz,ez⟩:=Sr (i*4+2);obtain⟨t,ht,et⟩:=Sr (i*4+3);rw[ex,ey,ez,et];have e1:w32 ((x:Int)*16777216)=((x*16777216:Nat):Int):=by rw[xW];omega
 have e2:w32 ((y:Int)*65536)=((y*65536:Nat):Int):=by rw[xW];omega
 have e3:w32 ((z:Int)*256)=((z*256:Nat):Int):=by rw[xW];omega
 rw[e1,e2,e3];have o1:=Hg (p:=x) (q:=y*65536) (k:=16777216) (s:=24) dP be be rfl rfl;have o2:=Hg (p:=x*256+y) (q:=z*256) (k:=65536) (s:=16) (a:=((x*16777216+y*65536:Nat):Int)) dP be be be rfl;have o3:=Hg (p:=x*65536+y*256+z) (q:=t) (k:=256) (s:=8) (a:=(((x*256+y)*65536+z*256:Nat):Int)) dP be be be rfl;rw[o1,o2,o3];simp only[xW];omega
end
theorem V8{ws:List Int}(h:ws.length=64):C9 ws=ws:=by
 unfold C9;refine List.ext_getElem (by rw[aW,List.length_range,h]) fun i h1 h2=>?_;rw[List.getElem_map,List.getElem_range,aL,ay h2];rfl
section
variable(b:aa)(i:Nat)
def Fv:List Int:=if i<=16 then XV b i else Ei b (i-16)
theorem V9(hi:i<=64):(Fv b i).length=64:=by
 unfold Fv;split
 . exact BN b i be
 . exact y9 b (i-16) be
theorem abq{i:Nat}(h:i<16):Fv b (i+1)=fS (Fv b i) (0+i*1) [M5 b i]:=by
 unfold Fv;rw[aG be,aG be,Sq];rfl
theorem abr{i:Nat}(h:16<=i):Fv b (i+1)=fS (Fv b i) (0+i*1) [M4 (Fv b i) i]:=by
 obtain⟨j,rfl⟩:∃j,i=16+j:=⟨i-16,be⟩;have e:Fv b (16+j)=Ei b j:=by
  unfold Fv;split
  . obtain rfl:j=0:=by omega
    rfl
  . rw[show 16+j-16=j by omega]
 rw[e,Sn];unfold Fv;rw[aI be,show 16+j+1-16=j+1 by omega];rfl
end
section
variable(b:aa)(hb:64<=b.length)(q:E8)
include hb in
theorem anE:TG ak 3 Tryz.f145.ntmps O3 (cT [.agg (c8 q),.str b,aR] .nil 3) (fH ak 3 Tryz.f145 fun u _ _=>u= .agg (c8 (za gR b q))):=by
 refine iO  2 XL (ant b q) cR ?_;refine tC [(4,.u32),(6,.u32)] (s2:=eF [(1,.str b),(3,.ptr (some (3,0))),(5,.ptr (some (4,0))),(6,.ptr (some (5,0))),(7,.ptr (some (6,0)))] (hL (mVc q (Fv b 0))) 7) U ?_;show TG _ _ _ abg _ _;refine cV U ?_;refine cV U ?_;refine fR XL (anv b q (Fv b 0)) (dG ?_);refine⟨cR,fun s' dL=>?_⟩;refine jj 0 64 (fun i=>Sk b q (Fv b i) i) U U (.norm dL) (fun i hi=>?_) ?_
 . have tZ:=V9 b i be;rcases bN i 16 with h16|h16
   . have e:=abq b h16;show TG _ _ _ _ _ (andThen (fun s'=>gu ak 3 Tryz.f145.ntmps s' (Sk b q (Fv b (i+1)) (i+1))) _);rw[e];refine fR XL (age b q (Fv b i) i) fun g hg hc=>?_;rcases iV hg with rfl|rfl
     . refine⟨?_,fun s1 fQ=>.norm fQ⟩
       repeat' (first|exact cR|refine ju ?_ ?_)
       all_goals first
        |exact pb dh be
        |exact⟨az _,be⟩
        |exact⟨az _,dh⟩
        |exact aN V.bool (bM dh)
        |omega
     . exact absurd (aJ (hc _ (aq.2 rfl))) dh
   . have e:=abr b h16;show TG _ _ _ _ _ (andThen (fun s'=>gu ak 3 Tryz.f145.ntmps s' (Sk b q (Fv b (i+1)) (i+1))) _);rw[e];refine fR XL (anz b q (Fv b i) i) fun g hg hc=>?_;rcases iV hg with rfl|rfl
     . refine⟨?_,fun s1 fQ=>.norm fQ⟩
       repeat' (first|exact cR|refine ju ?_ ?_)
       all_goals first
        |exact pb dh be
        |exact⟨az _,dh⟩
        |exact aN V.bool (bw dh)
        |omega
     . exact absurd (aJ (hc _ (aq.2 rfl))) dh
 . refine fR XL (age b q (Fv b 64) 64) fun g hg hc=>?_;rcases iV hg with rfl|rfl
   . exact absurd (hc _ (aq.2 rfl)) dP
   refine⟨cR,fun s1 fQ=>⟨by simp,?_⟩⟩;rw[dY];refine c6 fQ ?_;show TG _ _ _ (de 3 O3) _ _;have hw:Fv b 64=C9 (Ei b 48):=by rw[V8 (y9 b 48 (aA _))];rfl
   rw[hw];have tZ:(C9 (Ei b 48)).length=64:=by unfold C9;rw[aW,List.length_range]
   refine cV U ?_;unfold za;generalize C9 (Ei b 48)=ws at tZ ⊢;refine fR XL (anB b q ws 64) (dG ?_);refine⟨cR,fun s2 jd=>c6 jd ?_⟩;show TG _ _ _ M6 _ _;refine cV U ?_;refine cV U ?_;refine fR XL (anC q q ws) (dG ?_);refine⟨cR,fun s3 yb=>?_⟩;refine jj 2 64 (fun i=>T6 q (vo gR ws q i) ws [(12,iW i)]) U U (.norm yb) (fun i hi=>?_) ?_
   . show TG _ _ _ _ _ (andThen (fun s'=>gu ak 3 Tryz.f145.ntmps s' (T6 q (Bz gR ws i (vo gR ws q i)) ws [(12,iW (i+1))])) _);rw[<- V7];generalize vo gR ws q i=q';obtain⟨a,b,c,d,e,f,g,h⟩:=q;obtain⟨a',b',c',d',e',f',g',h'⟩:=q';refine fR XL (agf a b c d e f g h a' b' c' d' e' f' g' h' ws i) fun g hg hc=>?_;rcases iV hg with rfl|rfl
     . refine⟨?_,fun s4 Jf=>.norm Jf⟩
       repeat' (first|exact cR|refine ju ?_ ?_)
       all_goals first
        |exact pb dh be
        |exact⟨az _,dh⟩
        |omega
     . exact absurd (aJ (hc _ (aq.2 rfl))) dh
   . show TG _ _ _ _ (T6 q (vo gR ws q 64) ws [(12,iW 64)]) _;generalize vo gR ws q 64=q';obtain⟨a,b,c,d,e,f,g,h⟩:=q;obtain⟨a',b',c',d',e',f',g',h'⟩:=q';refine fR XL (agf a b c d e f g h a' b' c' d' e' f' g' h' ws 64) fun g hg hc=>?_;rcases iV hg with rfl|rfl
     . exact absurd (hc _ (aq.2 rfl)) dP
     refine⟨cR,fun s4 Jf=>⟨by simp,?_⟩⟩;rw[dY];refine c6 Jf ?_;refine fu XL (anD a b c d e f g h a' b' c' d' e' f' g' h' ws 64) (dG ?_);refine⟨?_,_,_,_,rfl,?_⟩
     . repeat' (first|exact cR|refine ju ?_ ?_)
       all_goals exact⟨dP,dP⟩
     . simp only[ZN,c8,Int.add_comm]
end
def LH:ag->Option (ah×V)
 | [.agg [.int .u32 a,.int .u32 b,.int .u32 c,.int .u32 d,.int .u32 e,.int .u32 f,.int .u32 g,.int .u32 x],.str s,r]=>match r.free with
   |true=>some ([64<=s.length,r=aR],.agg (c8 (za gR s (a,b,c,d,e,f,g,x))))
   |false=>none
 |_=>none
theorem abt:jG ak 145 (jJ LH):=by
 refine jY (au U) fun args A v e=>?_;unfold LH at e;split at e
 case h_2=>cases e
 rename_i a b c d e1 f g x s r;split at e
 case h_2=>cases e
 rename_i hr;obtain⟨rfl,rfl⟩:=fa e;refine⟨by simp[V.wT,V.free,hr],U,fun hA=>?_⟩;obtain rfl:r=aR:=hA (r=aR) (by simp);exact gT mo po Tryz.func145 U U rfl (anE s (hA (64<=s.length) (by simp)) (a,b,c,d,e1,f,g,x))
section
variable(x:Int)
theorem Yx(a b c:Int)(h:a*b=c)(ha:0<a)(hb:0<b):(x.fdiv a).fdiv b=x.fdiv c:=by
 subst h;rw[cK _ (Int.le_of_lt ha),cK _ (Int.le_of_lt hb),cK _ (Int.le_of_lt (Int.mul_pos ha hb)),Int.ediv_ediv_of_nonneg (Int.le_of_lt ha)]
def vz:aa:=[UInt8.ofNat (IntKind.u8.wrap (((((((x.fdiv 256).fdiv 256).fdiv 256).fdiv 256).fdiv 256).fdiv 256).fdiv 256)).toNat,UInt8.ofNat (IntKind.u8.wrap ((((((x.fdiv 256).fdiv 256).fdiv 256).fdiv 256).fdiv 256).fdiv 256)).toNat,UInt8.ofNat (IntKind.u8.wrap (((((x.fdiv 256).fdiv 256).fdiv 256).fdiv 256).fdiv 256)).toNat,
    UInt8.ofNat (IntKind.u8.wrap ((((x.fdiv 256).fdiv 256).fdiv 256).fdiv 256)).toNat,UInt8.ofNat (IntKind.u8.wrap (((x.fdiv 256).fdiv 256).fdiv 256)).toNat,UInt8.ofNat (IntKind.u8.wrap ((x.fdiv 256).fdiv 256)).toNat,UInt8.ofNat (IntKind.u8.wrap (x.fdiv 256)).toNat,UInt8.ofNat (IntKind.u8.wrap x).toNat]
theorem agj(h0:0<=x)(h1:x<18446744073709551616):vz x=mw x:=by
 unfold vz;have hw:IntKind.u64.wrap x=x:=Int.emod_eq_of_lt h0 h1;unfold mw pB;rw[hw,Yx x 256 256 65536 dP dP dP,Yx x 65536 256 16777216 dP dP dP,Yx x 16777216 256 4294967296 dP dP dP,Yx x 4294967296 256 1099511627776 dP dP dP,Yx x 1099511627776 256 281474976710656 dP dP dP,Yx x 281474976710656 256 72057594037927936 dP dP dP];have h1:x.fdiv 1=x:=Int.fdiv_one x;rw[h1]
def gi:aa:=[UInt8.ofNat (IntKind.u8.wrap (((x.fdiv 256).fdiv 256).fdiv 256)).toNat,UInt8.ofNat (IntKind.u8.wrap ((x.fdiv 256).fdiv 256)).toNat,UInt8.ofNat (IntKind.u8.wrap (x.fdiv 256)).toNat,UInt8.ofNat (IntKind.u8.wrap x).toNat]
theorem anF(h0:0<=x)(h1:x<18446744073709551616):gi x=dO x:=by
 unfold gi;have hw:IntKind.u64.wrap x=x:=Int.emod_eq_of_lt h0 h1;unfold dO pB;rw[hw,Yx x 256 256 65536 dP dP dP,Yx x 65536 256 16777216 dP dP dP];have h1:x.fdiv 1=x:=Int.fdiv_one x;rw[h1]
end
def LI:ag->Option (ah×V)
 | [.int .u64 x,.int .i64 k]=>match k with
   | .ofNat 8=>some ([],.str (vz x))
   | .ofNat 4=>some ([],.str (gi x))
   |_=>none
 |_=>none
theorem abu:jG ak 144 (jJ LI):=by
 refine jY (au U) fun args A v e=>?_;unfold LI at e;split at e
 case h_2=>cases e
 rename_i x k;split at e
 . obtain⟨rfl,rfl⟩:=fa e;refine⟨rfl,U,fun _=>gT mo po Tryz.func144 (code:=dS Tryz.f144) U U rfl ?_⟩;refine fu XL (anr x) (dG ?_);refine⟨?_,_,_,_,rfl,?_⟩
   . repeat' (first|exact cR|refine ju ?_ ?_)
     all_goals first|exact⟨dP,dP⟩|exact⟨dP,dP,dP⟩|exact au rfl
   . rfl
 . obtain⟨rfl,rfl⟩:=fa e;refine⟨rfl,U,fun _=>gT mo po Tryz.func144 (code:=dS Tryz.f144) U U rfl ?_⟩;refine fu XL (ans x) (dG ?_);refine⟨?_,_,_,_,rfl,?_⟩
   . repeat' (first|exact cR|refine ju ?_ ?_)
     all_goals first|exact⟨dP,dP⟩|exact⟨dP,dP,dP⟩|exact au rfl
   . rfl
 . cases e
noncomputable abbrev W20:jL:=kA 144 (jJ LI) (kA 145 (jJ LH) W16)
theorem Ss:gd ak W20:=fk abu (fk abt GS)
noncomputable abbrev zv:e9:=gG ak W20 H0 1000 40
noncomputable abbrev HD:CX ak:=CX.of mo po Ss H0 1000 40
structure gP where
 dg:aa
 da:aa
 rs:List (aa)
def gP.d(c:gP):ai:=[.str c.dg,.str c.da,.dM c.rs.length (strs c.rs)]
def fD(l:List gP):ai:=(l.map gP.d).flatten
def fo(l:List (aa×aa)):ai:=(l.map fun p=>[D.str p.1,D.str p.2]).flatten
structure RS where
 cs:List gP
 ro:List (aa×aa)
def RS.v(s:RS):V:=.agg [.dM false s.cs.length (fD s.cs),.dM false s.ro.length (fo s.ro)]
section
variable(s:RS)(x:aa)(i:Nat)
def RS.d:D:=.agg [.dM s.cs.length (fD s.cs),.dM s.ro.length (fo s.ro)]
noncomputable abbrev Su:Code:=dS Tryz.f70
noncomputable abbrev anH:Code:=dx (dx (dV (dK (de 1 Su))))
noncomputable abbrev Sv:Code:=dS Tryz.f115
noncomputable abbrev anI:Code:=dx (dx (dV (dK (de 1 Sv))))
def bx:O:=.cells [.dM false s.cs.length (fD s.cs),.dM false s.ro.length (fo s.ro)]
def PA:St:=eF [(1,.str x),(2,.ptr (some (3,0))),(5,iW i)] (hL [(3,bx s)]) 4
theorem anJ:c7 zv [] 3 Tryz.f70 [1,2] (eO 1 Su) (cT [s.v,.str x] .nil 3) [([],
   [],
   .to .normal (eF [(1,.str x),(2,.ptr (some (3,0)))] (hL [(3,.cells [.dM false (s.cs.length) (fD s.cs),.dM false (s.ro.length) (fo s.ro)])]) 4))]
 :=cQ.of U U U
theorem anK:c7 zv [] 3 Tryz.f70 [1,2,5] (dK (dK (de 1 Su))) (eF [(1,.str x),(2,.ptr (some (3,0)))] (hL [(3,bx s)]) 4) [([],
   [],
   .to .normal (PA s x 0))]
 :=cQ.of U U U
theorem agk(c:gP):c7 zv [(10,.split),(16,.dc (.dw c.d)),(20,.split),(12,.dc (iW (i+1)))] 3 Tryz.f70 [1,2,5] (anH) (PA s x i) [([((decide (Int.ofNat i<(Int.ofNat s.cs.length))),true),((eG c.dg x),true)],
   [((0:Int)<=Int.ofNat i/\Int.ofNat i<(Int.ofNat s.cs.length)),((fD s.cs).length=s.cs.length*3),(V.dw (dm (fD s.cs) (i*3) 3)=V.dw c.d)],
   .ret (.int .i64 (Int.ofNat i)) (hL []) 3),
  ([((decide (Int.ofNat i<(Int.ofNat s.cs.length))),true),((eG c.dg x),false)],
   [((0:Int)<=Int.ofNat i/\Int.ofNat i<(Int.ofNat s.cs.length)),((fD s.cs).length=s.cs.length*3),(V.dw (dm (fD s.cs) (i*3) 3)=V.dw c.d),(V.int aj (IntKind.i64.wrap (Int.ofNat i+(1:Int)))=iW (i+1))],
   .to .normal (PA s x (i+1))),
  ([((decide (Int.ofNat i<(Int.ofNat s.cs.length))),false)],
   [],
   .to (.exit 0) (PA s x i))]
 :=cQ.of U U U
theorem anL:c7 zv [] 3 Tryz.f70 [] (dV (de 1 Su)) (PA s x i) [([],
   [],
   .ret (.int .i64 (-1)) (hL []) 3)]
 :=cQ.of U U U
theorem anM:c7 zv [] 3 Tryz.f115 [1,2] (eO 1 Sv) (cT [s.v,.str x] .nil 3) [([],
   [],
   .to .normal (eF [(1,.str x),(2,.ptr (some (3,0)))] (hL [(3,.cells [.dM false (s.cs.length) (fD s.cs),.dM false (s.ro.length) (fo s.ro)])]) 4))]
 :=cQ.of U U U
theorem anN:c7 zv [] 3 Tryz.f115 [1,2,5] (dK (dK (de 1 Sv))) (eF [(1,.str x),(2,.ptr (some (3,0)))] (hL [(3,bx s)]) 4) [([],
   [],
   .to .normal (PA s x 0))]
 :=cQ.of U U U
theorem agl(n d:aa):c7 zv [(10,.split),(16,.dc (.dw [.str n,.str d])),(20,.split),(24,.dc (.dw [.str n,.str d])),(12,.dc (iW (i+1)))] 3 Tryz.f115 [1,2,5] (anI) (PA s x i) [([((decide (Int.ofNat i<(Int.ofNat s.ro.length))),true),((eG n x),true)],
   [((0:Int)<=Int.ofNat i/\Int.ofNat i<(Int.ofNat s.ro.length)),((fo s.ro).length=s.ro.length*2),(V.dw (dm (fo s.ro) (i*2) 2)=V.dw [D.str n,D.str d]),((0:Int)<=Int.ofNat i/\Int.ofNat i<(Int.ofNat s.ro.length)),((fo s.ro).length=s.ro.length*2),(V.dw (dm (fo s.ro) (i*2) 2)=V.dw [D.str n,D.str d])],
   .ret (.str d) (hL []) 3),
  ([((decide (Int.ofNat i<(Int.ofNat s.ro.length))),true),((eG n x),false)],
   [((0:Int)<=Int.ofNat i/\Int.ofNat i<(Int.ofNat s.ro.length)),((fo s.ro).length=s.ro.length*2),(V.dw (dm (fo s.ro) (i*2) 2)=V.dw [D.str n,D.str d]),(V.int aj (IntKind.i64.wrap (Int.ofNat i+(1:Int)))=iW (i+1))],
   .to .normal (PA s x (i+1))),
  ([((decide (Int.ofNat i<(Int.ofNat s.ro.length))),false)],
   [],
   .to (.exit 0) (PA s x i))]
 :=cQ.of U U U
theorem anO:c7 zv [] 3 Tryz.f115 [] (dV (de 1 Sv)) (PA s x i) [([],
   [],
   .ret (.str []) (hL []) 3)]
 :=cQ.of U U U
end
theorem sF{α β:Type}{f:α->List β}{w:Nat}(hf:∀x,(f x).length=w):∀l:List α,(l.map f).flatten.length=l.length*w
 | []=>by simp
 |x::l=>by
  rw[bW,List.flatten_cons,ax,hf,sF hf l,aT,cN];omega
theorem vA{α:Type}{f:α->ai}{w:Nat}(hf:∀x,(f x).length=w):∀(l:List α) (i:Nat) (h:i<l.length),dm ((l.map f).flatten) (i*w) w=f l[i]
 |x::l,0,_=>by
  unfold dm;rw[Nat.zero_mul,bu,bW,List.flatten_cons,List.take_left' (hf x)];rfl
 |x::l,i+1,h=>by
  have ih:=vA hf l i (by simpa using h);unfold dm at ih ⊢;rw[bW,List.flatten_cons,show(i+1)*w=w+i*w by rw[cN];omega,<- List.drop_drop,List.drop_left' (hf x),ih];rfl
theorem k8(l:List gP):(fD l).length=l.length*3:=sF (f:=gP.d) (w:=3) (fun _=>rfl) l
theorem xX(l:List gP)(i:Nat)(h:i<l.length):dm (fD l) (i*3) 3=l[i].d:=vA (f:=gP.d) (w:=3) (fun _=>rfl) l i h
section
variable(l:List (aa×aa))
theorem nv:(fo l).length=l.length*2:=sF (f:=fun p:aa×aa=>[D.str p.1,D.str p.2]) (w:=2) (fun _=>rfl) l
theorem Dv(i:Nat)(h:i<l.length):dm (fo l) (i*2) 2=[D.str l[i].1,D.str l[i].2]:=vA (f:=fun p:aa×aa=>[D.str p.1,D.str p.2]) (w:=2) (fun _=>rfl) l i h
end
def sG(x:aa):List gP->Nat->Int
 | [],_=> -1
 |c::l,i=>if c.dg=x then i else sG x l (i+1)
def gp(l:List gP)(x:aa):Int:=sG x l 0
def gK(x:aa):List (aa×aa)->aa
 | []=>[]
 |p::l=>if p.1=x then p.2 else gK x l
theorem LJ{x:aa}{l:List gP}{i:Nat}(h:i<l.length):sG x (l.drop i) i=if l[i].dg=x then(i:Int)else sG x (l.drop (i+1)) (i+1):=by
 rw[bF h];rfl
theorem LK{x:aa}{l:List (aa×aa)}{i:Nat}(h:i<l.length):gK x (l.drop i)=if l[i].1=x then l[i].2 else gK x (l.drop (i+1)):=by
 rw[bF h];rfl
theorem oO{a b:aa}(h:eG a b=false):a≠b:=by rw[ga]at h;exact beq_eq_false_iff_ne.1 h
section
variable(s:RS)(x:aa)
theorem anP(hl:s.cs.length<=1000000):TG ak 3 Tryz.f70.ntmps Su (cT [s.v,.str x] .nil 3) (fH ak 3 Tryz.f70 fun u _ _=>u= .int .i64 (gp s.cs x)):=by
 refine iO  1 HD (anJ s x) cR ?_;refine cV U ?_;refine cV U ?_;refine fR HD (anK s x) (dG ?_);refine⟨cR,fun s' dL=>?_⟩;refine j9 (α:=Nat) 0 (fun i=>s.cs.length-i) (fun i=>i<=s.cs.length/\gp s.cs x=sG x (s.cs.drop i) i) (PA s x) U U 0 ⟨aY _,by rw[bu];rfl⟩ (.norm dL) fun i ⟨hi,he⟩=>?_;rcases bN i s.cs.length with fJ|Ae
 . have iY:=xX s.cs i fJ;rw[LJ fJ]at he;generalize hc:s.cs[i]=c at iY he;obtain⟨L3,wv⟩:=agk s x i c;have ha:∀a∈[((0:Int)<=Int.ofNat i/\Int.ofNat i<(Int.ofNat s.cs.length)),((fD s.cs).length=s.cs.length*3),(V.dw (dm (fD s.cs) (i*3) 3)=V.dw c.d)],a:=fm (⟨az _,dh⟩) (fm (k8 _) (eR (aN V.dw iY)));refine gy HD mo (fun u _ _=>u= .int .i64 (gp s.cs x)) U wv fun g hg Iy=>?_;rcases xQ hg with rfl|rfl|rfl
   . have h2:=kM (Iy _ (aK _ (aq.2 rfl)));rw[aG h2]at he;exact⟨ha,by rw[he];rfl,fun s2 jd=>jd⟩
   . have h2:=oO (Iy _ (aK _ (aq.2 rfl)));rw[aI h2]at he;exact⟨fm (⟨az _,dh⟩) (fm (k8 _) (fm (aN V.dw iY) (eR (pb dh be)))),fun s2 jd=>⟨i+1,be,⟨be,he⟩,.norm jd⟩⟩
   . exact absurd (aJ (Iy _ (aq.2 rfl))) dh
 . obtain rfl:i=s.cs.length:=by omega
   obtain⟨L3,wv⟩:=agk s x s.cs.length ⟨[],[],[]⟩;refine gy HD mo (fun u _ _=>u= .int .i64 (gp s.cs x)) U wv fun g hg Iy=>?_;rcases xQ hg with rfl|rfl|rfl
   . exact absurd (aH (Iy _ (aP ..))) dh
   . exact absurd (aH (Iy _ (aP ..))) dh
   . refine⟨cR,fun s2 jd=>?_⟩;simp only[andThen,dY];refine c6 jd ?_;refine fu HD (anL s x s.cs.length) (dG ?_);refine⟨cR,_,_,_,rfl,?_⟩;rw[he,List.drop_length];rfl
theorem anQ(hl:s.ro.length<=1000000):TG ak 3 Tryz.f115.ntmps Sv (cT [s.v,.str x] .nil 3) (fH ak 3 Tryz.f115 fun u _ _=>u= .str (gK x s.ro)):=by
 refine iO  1 HD (anM s x) cR ?_;refine cV U ?_;refine cV U ?_;refine fR HD (anN s x) (dG ?_);refine⟨cR,fun s' dL=>?_⟩;refine j9 (α:=Nat) 0 (fun i=>s.ro.length-i) (fun i=>i<=s.ro.length/\gK x s.ro=gK x (s.ro.drop i)) (PA s x) U U 0 ⟨aY _,by rw[bu]⟩ (.norm dL) fun i ⟨hi,he⟩=>?_;rcases bN i s.ro.length with fJ|Ae
 . have iY:=Dv s.ro i fJ;rw[LK fJ]at he;generalize hc:s.ro[i]=c at iY he;obtain⟨n,d⟩:=c;obtain⟨L3,wv⟩:=agl s x i n d;refine gy HD mo (fun u _ _=>u= .str (gK x s.ro)) U wv fun g hg Iy=>?_;rcases xQ hg with rfl|rfl|rfl
   . have h2:=kM (Iy _ (aK _ (aq.2 rfl)));rw[aG h2]at he;exact⟨fm (⟨az _,dh⟩) (fm (nv _) (fm (aN V.dw iY) (fm (⟨az _,dh⟩) (fm (nv _) (eR (aN V.dw iY)))))),by rw[he],fun s2 jd=>jd⟩
   . have h2:=oO (Iy _ (aK _ (aq.2 rfl)));rw[aI h2]at he;exact⟨fm (⟨az _,dh⟩) (fm (nv _) (fm (aN V.dw iY) (eR (pb dh be)))),fun s2 jd=>⟨i+1,be,⟨be,he⟩,.norm jd⟩⟩
   . exact absurd (aJ (Iy _ (aq.2 rfl))) dh
 . obtain rfl:i=s.ro.length:=by omega
   obtain⟨L3,wv⟩:=agl s x s.ro.length [] [];refine gy HD mo (fun u _ _=>u= .str (gK x s.ro)) U wv fun g hg Iy=>?_;rcases xQ hg with rfl|rfl|rfl
   . exact absurd (aH (Iy _ (aP ..))) dh
   . exact absurd (aH (Iy _ (aP ..))) dh
   . refine⟨cR,fun s2 jd=>?_⟩;simp only[andThen,dY];refine c6 jd ?_;refine fu HD (anO s x s.ro.length) (dG ?_);refine⟨cR,_,_,_,rfl,?_⟩;rw[he,List.drop_length];rfl
end
noncomputable abbrev Et:Code:=dS Tryz.f116
section
variable(s:aa)(q:E8)(k:Nat)(m gq:aa)
def zs(k:Nat):List Int:=(128:Int)::List.replicate k 0
def qS:E8:=(1779033703,3144134277,1013904242,2773480762,1359893119,2600822924,528734635,1541459225)
def sOz(us:List Int):St:=eF [(0,.str s),(3,.ptr (some (3,0))),(4,.ptr (some (4,0))),(5,.di (some (5,0)) (k+1) (k+1) 1)] (hL [(3,.cells (c8 qS)),(4,.cells (gR.map (V.int .u32 ·))),(5,.own .u8 us)]) 6
def sOa:St:=sOz s k (zs k)
def Yy(r:List (Nat×V)):St:=eF ([(3,.ptr (some (3,0))),(4,.ptr (some (4,0))),(6,.str m)]++r) (hL [(3,.cells (c8 q)),(4,.cells (gR.map (V.int .u32 ·)))]) 5
end
section
variable(s:aa)(q:E8)(k:Nat)(m:aa)(i:Nat)
theorem anR:c7 zv [] 3 Tryz.f116 [0,3,4,5] (eO 4 Et) (cT [.str s] .nil 3) [([],
   [],
   .to .normal (eF [(0,.str s),(3,.ptr (some (3,0))),(4,.ptr (some (4,0))),(5,.di (some (5,0)) 1 1 1)] (hL [(3,.cells [.int .u32 1779033703,.int .u32 3144134277,.int .u32 1013904242,.int .u32 2773480762,.int .u32 1359893119,.int .u32 2600822924,.int .u32 528734635,.int .u32 1541459225]),(4,.cells [.int .u32 1116352408,.int .u32 1899447441,.int .u32 3049323471,.int .u32 3921009573,.int .u32 961987163,.int .u32 1508970993,.int .u32 2453635748,.int .u32 2870763221,.int .u32 3624381080,.int .u32 310598401,.int .u32 607225278,.int .u32 1426881987,.int .u32 1925078388,.int .u32 2162078206,.int .u32 2614888103,.int .u32 3248222580,.int .u32 3835390401,.int .u32 4022224774,.int .u32 264347078,.int .u32 604807628,.int .u32 770255983,.int .u32 1249150122,.int .u32 1555081692,.int .u32 1996064986,.int .u32 2554220882,.int .u32 2821834349,.int .u32 2952996808,.int .u32 3210313671,.int .u32 3336571891,.int .u32 3584528711,.int .u32 113926993,.int .u32 338241895,.int .u32 666307205,.int .u32 773529912,.int .u32 1294757372,.int .u32 1396182291,.int .u32 1695183700,.int .u32 1986661051,.int .u32 2177026350,.int .u32 2456956037,.int .u32 2730485921,.int .u32 2820302411,.int .u32 3259730800,.int .u32 3345764771,.int .u32 3516065817,.int .u32 3600352804,.int .u32 4094571909,.int .u32 275423344,.int .u32 430227734,.int .u32 506948616,.int .u32 659060556,.int .u32 883997877,.int .u32 958139571,.int .u32 1322822218,.int .u32 1537002063,.int .u32 1747873779,.int .u32 1955562222,.int .u32 2024104815,.int .u32 2227730452,.int .u32 2361852424,.int .u32 2428436474,.int .u32 2756734187,.int .u32 3204031479,.int .u32 3329325298]),(5,.cells [.int .u8 128])]) 6))]
 :=cQ.of U U U
abbrev Sw:Prop:=V.int aj (IntKind.i64.wrap ((Int.ofNat s.length)+(Int.ofNat (k+1))))=iW (s.length+(k+1))
abbrev Sx:Prop:=V.int aj ((Int.ofNat (s.length+(k+1))).tmod (64:Int))=iW ((s.length+(k+1))%64)
theorem agn:c7 zv [(17,.dc (iW (s.length+(k+1)))),(18,.dc (iW ((s.length+(k+1))%64))),(19,.split)] 3 Tryz.f116 [0,3,4,5] (dx (dx (dK (de 4 Et)))) (sOa s k) [([((Int.ofNat ((s.length+(k+1))%64) !=(56:Int)),true)],
   [Sw s k,Sx s k,(0<k+1),(0+(k+1)*1<=(zs k).length),(0<1),(eT (k+1+1) 1 1=true)],
   .to .normal (sOz s (k+1) (List.take ((k+1)*1) (List.drop 0 (zs k))++[0]))),
  ([((Int.ofNat ((s.length+(k+1))%64) !=(56:Int)),false)],
   [Sw s k,Sx s k],
   .to (.exit 0) (sOa s k))]
 :=cQ.of U U U
theorem anS:c7 zv [] 3 Tryz.f116 [3,4,6] (dK (de 5 Et)) (sOa s k) [([],
   [(0+(k+1)<=(zs k).length),(s.length+(eN (List.take (k+1) (List.drop 0 (zs k)))).length<=9223372036854775807),(0+(k+1)<=(zs k).length),((s++eN (List.take (k+1) (List.drop 0 (zs k)))).length+(vz (IntKind.u64.wrap ((8:Int)*IntKind.u64.wrap (Int.ofNat s.length)))).length<=9223372036854775807)],
   .to .normal (Yy qS (s++eN (List.take (k+1) (List.drop 0 (zs k)))++vz (IntKind.u64.wrap ((8:Int)*IntKind.u64.wrap (Int.ofNat s.length)))) []))]
 :=cQ.of U U U
theorem anT:c7 zv [] 3 Tryz.f116 [3,4,6,7] (dK (dK (de 6 Et))) (Yy q m []) [([],
   [],
   .to .normal (Yy q m [(7,iW 0)]))]
 :=cQ.of U U U
theorem ago:c7 zv [(36,.split),(43,.dc (iW (64*i+64))),(38,.dc (iW (64*(i+1))))] 3 Tryz.f116 [3,4,6,7] (dx (dx (dV (dK (de 6 Et))))) (Yy q m [(7,iW (64*i))]) [([((decide (Int.ofNat (64*i)<(Int.ofNat m.length))),true)],
   [(V.int aj (IntKind.i64.wrap (Int.ofNat (64*i)+(64:Int)))=iW (64*i+64)),((0:Int)<=Int.ofNat (64*i+64)/\Int.ofNat (64*i+64)<=(Int.ofNat m.length)),((0:Int)<=Int.ofNat (64*i)/\Int.ofNat (64*i)<=(Int.ofNat (64*i+64))),(64<=(List.drop (64*i) (List.take (64*i+64) m)).length),(V.agg (List.take 64 (List.drop 0 (List.map (fun x=>V.int IntKind.u32 x) gR)))=aR),(V.int aj (IntKind.i64.wrap (Int.ofNat (64*i)+(64:Int)))=iW (64*(i+1)))],
   .to .normal (Yy (za gR (BO m (64*i)) q) m [(7,iW (64*(i+1)))])),
  ([((decide (Int.ofNat (64*i)<(Int.ofNat m.length))),false)],
   [],
   .to (.exit 2) (Yy q m [(7,iW (64*i))]))]
 :=cQ.of U U U
theorem anU:c7 zv [] 3 Tryz.f116 [] (de 7 Et) (Yy q m [(7,iW (64*i))]) [([],
   [((0:Int)<=(0:Int)/\(0:Int)<(8:Int)),(0+(gi (IntKind.u64.wrap q.1)).length<=9223372036854775807),((0:Int)<=(1:Int)/\(1:Int)<(8:Int)),((([]:aa)++gi (IntKind.u64.wrap q.1)).length+(gi (IntKind.u64.wrap q.2.1)).length<=9223372036854775807),((0:Int)<=(2:Int)/\(2:Int)<(8:Int)),((([]:aa)++gi (IntKind.u64.wrap q.1)++gi (IntKind.u64.wrap q.2.1)).length+(gi (IntKind.u64.wrap q.2.2.1)).length<=9223372036854775807),((0:Int)<=(3:Int)/\(3:Int)<(8:Int)),((([]:aa)++gi (IntKind.u64.wrap q.1)++gi (IntKind.u64.wrap q.2.1)++gi (IntKind.u64.wrap q.2.2.1)).length+(gi (IntKind.u64.wrap q.2.2.2.1)).length<=9223372036854775807),((0:Int)<=(4:Int)/\(4:Int)<(8:Int)),((([]:aa)++gi (IntKind.u64.wrap q.1)++gi (IntKind.u64.wrap q.2.1)++gi (IntKind.u64.wrap q.2.2.1)++gi (IntKind.u64.wrap q.2.2.2.1)).length+(gi (IntKind.u64.wrap q.2.2.2.2.1)).length<=9223372036854775807),((0:Int)<=(5:Int)/\(5:Int)<(8:Int)),((([]:aa)++gi (IntKind.u64.wrap q.1)++gi (IntKind.u64.wrap q.2.1)++gi (IntKind.u64.wrap q.2.2.1)++gi (IntKind.u64.wrap q.2.2.2.1)++gi (IntKind.u64.wrap q.2.2.2.2.1)).length+(gi (IntKind.u64.wrap q.2.2.2.2.2.1)).length<=9223372036854775807),((0:Int)<=(6:Int)/\(6:Int)<(8:Int)),((([]:aa)++gi (IntKind.u64.wrap q.1)++gi (IntKind.u64.wrap q.2.1)++gi (IntKind.u64.wrap q.2.2.1)++gi (IntKind.u64.wrap q.2.2.2.1)++gi (IntKind.u64.wrap q.2.2.2.2.1)++gi (IntKind.u64.wrap q.2.2.2.2.2.1)).length+(gi (IntKind.u64.wrap q.2.2.2.2.2.2.1)).length<=9223372036854775807),((0:Int)<=(7:Int)/\(7:Int)<(8:Int)),((([]:aa)++gi (IntKind.u64.wrap q.1)++gi (IntKind.u64.wrap q.2.1)++gi (IntKind.u64.wrap q.2.2.1)++gi (IntKind.u64.wrap q.2.2.2.1)++gi (IntKind.u64.wrap q.2.2.2.2.1)++gi (IntKind.u64.wrap q.2.2.2.2.2.1)++gi (IntKind.u64.wrap q.2.2.2.2.2.2.1)).length+(gi (IntKind.u64.wrap q.2.2.2.2.2.2.2)).length<=9223372036854775807)],
   .ret (.str (([]:aa)++gi (IntKind.u64.wrap q.1)++gi (IntKind.u64.wrap q.2.1)++gi (IntKind.u64.wrap q.2.2.1)++gi (IntKind.u64.wrap q.2.2.2.1)++gi (IntKind.u64.wrap q.2.2.2.2.1)++gi (IntKind.u64.wrap q.2.2.2.2.2.1)++gi (IntKind.u64.wrap q.2.2.2.2.2.2.1)++gi (IntKind.u64.wrap q.2.2.2.2.2.2.2))) (hL []) 3)]
 :=cQ.of U U U
end
theorem Wa{s t:aa}{j:Nat}(h:64*j+64<=s.length):BO (s++t) (64*j)=BO s (64*j):=by
 unfold BO;rw[bQ h]
theorem Fw(rd:List Int)(s t:aa)(q:E8):∀n,64*n<=s.length->jK rd (s++t) q n=jK rd s q n
 |0,_=>rfl
 |n+1,h=>by
  show za rd (BO (s++t) (64*n)) (jK rd (s++t) q n)=za rd (BO s (64*n)) (jK rd s q n);rw[Wa be,Fw rd s t q n be]
theorem Dw(rd:List Int)(m:aa)(q:E8)(n0:Nat):∀k,jK rd m q (n0+k)=jK rd (m.drop (64*n0)) (jK rd m q n0) k
 |0=>rfl
 |k+1=>by
  show za rd (BO m (64*(n0+k))) (jK rd m q (n0+k))=za rd (BO (m.drop (64*n0)) (64*k)) _;rw[Dw rd m q n0 k];congr 1;unfold BO;rw[List.take_drop,List.drop_drop,show 64*n0+(64*k+64)=64*(n0+k)+64 by omega,show 64*n0+64*k=64*(n0+k)by omega]
section
variable(s:aa)
def zw:aa:=s++(128::List.replicate (gZ s) 0)++mw (Int.ofNat (s.length*8))
theorem Jg:(zw s).length=s.length/64*64+(mR s).length/\(mR s).length%64=0:=by
 unfold zw mR gZ;simp only[ax,aT,bJ,bX,aX,bO];have:(mw (Int.ofNat (s.length*8))).length=8:=rfl;rw[this];omega
theorem O4:(zw s).drop (64*(s.length/64))=mR s:=by
 unfold zw mR;rw[aS,bA,List.drop_append_of_le_length be,Nat.mul_comm 64,bA,bA];rfl
theorem Wb:Q9 (jK gR (zw s) (KU gS) ((zw s).length/64))=Ek s:=by
 unfold Ek Ra;congr 1;obtain⟨h1,h2⟩:=Jg s;have e:(zw s).length/64=s.length/64+(mR s).length/64:=by omega
 rw[e,Dw,O4];congr 1;unfold zw;rw[bA];exact Fw gR s _ (KU gS) _ be
end
section
variable(k:Nat)(x:Int)
theorem Dx:(zs k).length=k+1:=by unfold zs;rw[aT,bJ]
theorem Wc:List.take ((k+1)*1) (List.drop 0 (zs k))++[0]=zs (k+1):=by
 rw[bu,bq (by rw[Dx];omega)];unfold zs;rw[List.cons_append,List.replicate_succ']
theorem Sy:eN (List.take (k+1) (List.drop 0 (zs k)))=128::List.replicate k 0:=by
 rw[bu,bq (by rw[Dx];omega)];unfold zs eN;rw[bW,List.map_replicate];rfl
theorem anV:IntKind.u64.wrap (IntKind.u64.wrap x)=IntKind.u64.wrap (IntKind.i64.wrap x):=by
 have h:∀y:Int,IntKind.u64.wrap y=y%18446744073709551616:=fun _=>rfl;have h2:IntKind.i64.wrap x=(if(decide (x%18446744073709551616>=9223372036854775808))=true then x%18446744073709551616-18446744073709551616 else x%18446744073709551616):=rfl;rw[h,h,h,h2];split<;>omega
theorem abv:gi (IntKind.u64.wrap x)=wB x:=by
 have h:IntKind.u64.wrap x=x%18446744073709551616:=rfl;rw[anF _ (by rw[h];omega) (by rw[h];omega)];unfold wB dO pB;rw[anV]
end
section
variable(s:aa)
theorem anW(hs:s.length<=1000000000):TG ak 3 Tryz.f116.ntmps Et (cT [.str s] .nil 3) (fH ak 3 Tryz.f116 fun u _ _=>u= .str (Ek s)):=by
 refine iO  4 HD (anR s) cR ?_;refine tC [(5,.u8)] (s2:=sOa s 0) U ?_;show TG _ _ _ (de 4 Et) _ _;have hz:gZ s<64:=Nat.mod_lt _ dP;have hzm:(s.length+(gZ s+1))%64=56:=by unfold gZ;omega
 have Hy:∀k,k<gZ s->(s.length+(k+1))%64≠56:=fun k hk=>by unfold gZ at hk;omega
 have ha:∀k,k<=gZ s->V.int aj (IntKind.i64.wrap ((Int.ofNat s.length)+(Int.ofNat (k+1))))=iW (s.length+(k+1))/\V.int aj ((Int.ofNat (s.length+(k+1))).tmod (64:Int))=iW ((s.length+(k+1))%64):=fun k hk=>
  ⟨pb dh be,aN (V.int aj) (by rw[kZ,cz be];rfl)⟩
 refine cV U ?_;refine jj 0 (gZ s) (fun k=>sOa s k) U U .refl (fun k hk=>?_) ?_
 . refine fR HD (agn s k) fun g hg hc=>?_;rcases iV hg with rfl|rfl
   . refine⟨fm ((ha k be).1) (fm ((ha k be).2) (fm be (fm (by rw[Dx];omega) (fm dP (eR (jq be)))))),fun s1 fQ=>?_⟩;rw[Wc]at fQ;exact .norm fQ
   . have h:=hc _ (aq.2 rfl);dsimp only at h;have:Int.ofNat ((s.length+(k+1))%64)=56:=by simpa using h
     exact absurd (Int.ofNat.inj this) (Hy k hk)
 . refine fR HD (agn s (gZ s)) fun g hg hc=>?_;rcases iV hg with rfl|rfl
   . have h:=hc _ (aq.2 rfl);dsimp only at h;rw[hzm]at h;exact absurd h dP
   refine⟨fm ((ha _ (aA _)).1) (eR ((ha _ (aA _)).2)),fun s1 fQ=>⟨by simp,?_⟩⟩;rw[dY];refine c6 fQ ?_;show TG _ _ _ (de 5 Et) _ _;refine cV U ?_;refine fR HD (anS s (gZ s)) (dG ?_);have hx:IntKind.u64.wrap ((8:Int)*IntKind.u64.wrap (Int.ofNat s.length))=Int.ofNat (s.length*8):=by
    show(8*(Int.ofNat s.length%18446744073709551616))%18446744073709551616=_;rw[kZ,kZ];omega
   have anX:s++eN (List.take (gZ s+1) (List.drop 0 (zs (gZ s))))++vz (IntKind.u64.wrap ((8:Int)*IntKind.u64.wrap (Int.ofNat s.length)))=zw s:=by
    rw[Sy,hx,agj _ dh dh];rfl
   have Oe:(eN (List.take (gZ s+1) (List.drop 0 (zs (gZ s))))).length=gZ s+1:=by rw[Sy,aT,bJ]
   have HB:∀x,(vz x).length=8:=fun _=>rfl;refine⟨fm (by rw[Dx];omega) (fm (by rw[Oe];omega) (fm (by rw[Dx];omega) (eR (by rw[ax,Oe,HB];omega)))),fun s2 jd=>?_⟩;rw[anX]at jd;refine c6 jd ?_;have hml:=Jg s;have rE:=Wb s;have hmb:(zw s).length<=2000000000:=by
    unfold zw;rw[ax,ax,aT,bJ];have:(mw (Int.ofNat (s.length*8))).length=8:=rfl;omega
   obtain⟨n,hn⟩:∃n,(zw s).length=64*n:=⟨(zw s).length/64,be⟩;rw[hn,show 64*n/64=n by omega]at rE;generalize zw s=m at hn rE hmb ⊢;show TG _ _ _ (de 6 Et) _ _;refine cV U ?_;refine cV U ?_;refine fR HD (anT qS m) (dG ?_);refine⟨cR,fun s3 yb=>?_⟩;refine jj 2 n (fun i=>Yy (jK gR m (KU gS) i) m [(7,iW (64*i))]) U U (.norm yb) (fun i hi=>?_) ?_
   . refine fR HD (ago (jK gR m (KU gS) i) m i) fun g hg hc=>?_;rcases iV hg with rfl|rfl
     . refine⟨fm (pb dh be) (fm (⟨az _,dh⟩) (fm (⟨az _,dh⟩) (fm (by rw[bX,aX];omega) (fm (rfl) (eR (pb dh be)))))),fun s4 Jf=>.norm Jf⟩
     . exact absurd (aJ (hc _ (aq.2 rfl))) dh
   . refine fR HD (ago (jK gR m (KU gS) n) m n) fun g hg hc=>?_;rcases iV hg with rfl|rfl
     . exact absurd (aH (hc _ (aq.2 rfl))) dh
     refine⟨cR,fun s4 Jf=>⟨by simp,?_⟩⟩;rw[dY];refine c6 Jf ?_;refine fu HD (anU (jK gR m (KU gS) n) m n) (dG ?_);refine⟨?_,_,_,_,rfl,?_⟩
     . repeat' (first|exact cR|refine ju ?_ ?_)
       all_goals first|exact⟨dP,dP⟩|exact au rfl
     . rw[<- rE];unfold Q9;simp only[abv,gk,cD]
end
def LL:ag->Option (ah×V)
 | [.str s]=>some ([s.length<=1000000000],.str (Ek s))
 |_=>none
theorem abw:jG ak 116 (jJ LL):=by
 refine jY (au U) fun args A v e=>?_;unfold LL at e;split at e
 . obtain⟨rfl,rfl⟩:=fa e;exact⟨rfl,U,fun hA=>gT mo po Tryz.func116 U U rfl (anW _ (hA _ (by simp)))⟩
 . cases e
noncomputable abbrev W21:jL:=kA 116 (jJ LL) W20
theorem Sz:gd ak W21:=fk abw Ss
noncomputable abbrev Wd:e9:=gG ak W21 H0 1000 40
noncomputable abbrev X21:CX ak:=CX.of mo po Sz H0 1000 40
noncomputable abbrev SA:Code:=dS Tryz.f117
noncomputable abbrev anZ:Code:=dx (dx (dV (dK (de 2 SA))))
section
variable(f:Bool)(ps:List (aa))(gq:aa)(i:Nat)
def sPi:St:=eF [(0,.dM f ps.length (strs ps)),(3,.str gq),(4,iW i)] (hL []) 3
theorem an0:c7 Wd [] 3 Tryz.f117 [0,3] (eO 2 SA) (cT [.dM f ps.length (strs ps)] .nil 3) [([],
   [],
   .to .normal (eF [(0,.dM f ps.length (strs ps)),(3,.str [])] (hL []) 3))]
 :=cQ.of U U U
theorem an1:c7 Wd [] 3 Tryz.f117 [0,3,4] (dK (dK (de 2 SA))) (eF [(0,.dM f ps.length (strs ps)),(3,.str [])] (hL []) 3) [([],
   [],
   .to .normal (sPi f ps [] 0))]
 :=cQ.of U U U
theorem agr(p:aa)(i:Nat):c7 Wd [(8,.split),(14,.dc (.dw [.str p])),(22,.dc (.dw [.str p])),(10,.dc (iW (i+1)))] 3 Tryz.f117 [0,3,4] (anZ) (sPi f ps gq i) [([((decide (Int.ofNat i<(Int.ofNat ps.length))),true)],
   [((0:Int)<=Int.ofNat i/\Int.ofNat i<(Int.ofNat ps.length)),((strs ps).length=ps.length*1),(V.dw (dm (strs ps) (i*1) 1)=V.dw [D.str p]),(gq.length+(vz (IntKind.u64.wrap (Int.ofNat p.length))).length<=9223372036854775807),((0:Int)<=Int.ofNat i/\Int.ofNat i<(Int.ofNat ps.length)),((strs ps).length=ps.length*1),(V.dw (dm (strs ps) (i*1) 1)=V.dw [D.str p]),((gq++vz (IntKind.u64.wrap (Int.ofNat p.length))).length+p.length<=9223372036854775807),(V.int aj (IntKind.i64.wrap (Int.ofNat i+(1:Int)))=iW (i+1))],
   .to .normal (eF [(0,.dM f (ps.length) (strs ps)),(3,.str (gq++vz (IntKind.u64.wrap (Int.ofNat p.length))++p)),(4,.int .i64 (Int.ofNat (i+1)))] (hL []) 3)),
  ([((decide (Int.ofNat i<(Int.ofNat ps.length))),false)],
   [],
   .to (.exit 0) (eF [(0,.dM f (ps.length) (strs ps)),(3,.str gq),(4,.int .i64 (Int.ofNat i))] (hL []) 3))]
 :=cQ.of U U U
theorem an2:c7 Wd [] 3 Tryz.f117 [] (dV (de 2 SA)) (sPi f ps gq i) [([],
   [],
   .ret (.str gq) (hL []) 3)]
 :=cQ.of U U U
end
theorem LM{ps:List (aa)}{i:Nat}(h:i<ps.length):eH (ps.take (i+1))=eH (ps.take i)++mw (Int.ofNat (ps[i]).length)++ps[i]:=by
 unfold eH;rw[bI,ay h,cB,List.flatMap_append,List.flatMap_singleton,bA]
theorem O5(ps:List (aa))(i:Nat):(eH (ps.take i)).length<=(eH ps).length:=by
 conv=>rhs;rw[<- ck i ps]
 unfold eH;rw[List.flatMap_append,ax];omega
theorem an3(f:Bool)(ps:List (aa))(hp:ps.length<=1000000)(hj:(eH ps).length<=1000000000):TG ak 3 Tryz.f117.ntmps SA (cT [.dM f ps.length (strs ps)] .nil 3) (fH ak 3 Tryz.f117 fun u _ _=>u= .str (eH ps)):=by
 refine iO  2 X21 (an0 f ps) cR ?_;refine cV U ?_;refine cV U ?_;refine fR X21 (an1 f ps) (dG ?_);refine⟨cR,fun s' dL=>?_⟩;refine jj 0 ps.length (fun i=>sPi f ps (eH (ps.take i)) i) U U (.norm dL) (fun i hi=>?_) ?_
 . have hn:=LM hi;have h1:=O5 ps (i+1);have iY:=aN V.dw (fI (ay hi));have hx:IntKind.u64.wrap (Int.ofNat ps[i].length)=Int.ofNat ps[i].length:=by
    have:ps[i].length<=1000000000:=by rw[hn,ax]at h1;omega
    show Int.ofNat ps[i].length%18446744073709551616=_;rw[kZ];omega
   have hlp:ps[i].length<=1000000000:=by rw[hn,ax]at h1;omega
   refine fR X21 (agr f ps (eH (ps.take i)) ps[i] i) fun g hg hc=>?_;have h8:∀x,(vz x).length=8:=fun _=>rfl;have h8':(mw (Int.ofNat ps[i].length)).length=8:=rfl;rcases iV hg with rfl|rfl
   . rw[hn,ax,ax]at h1;refine⟨fm (⟨az _,dh⟩) (fm (by rw[eJ];omega) (fm (iY) (fm (by rw[h8];omega) (fm (⟨az _,dh⟩) (fm (by rw[eJ];omega) (fm (iY) (fm (by rw[ax,h8];omega) (eR (pb dh be))))))))),fun s1 fQ=>?_⟩;rw[hx,agj _ dh dh]at fQ;show gu _ _ _ _ (sPi f ps (eH (ps.take (i+1))) (i+1));rw[hn];exact .norm fQ
   . exact absurd (aJ (hc _ (aq.2 rfl))) dh
 . refine fR X21 (agr f ps (eH (ps.take ps.length)) [] ps.length) fun g hg hc=>?_;rcases iV hg with rfl|rfl
   . exact absurd (aH (hc _ (aq.2 rfl))) dh
   refine⟨cR,fun s1 fQ=>⟨by simp,?_⟩⟩;rw[dY];refine c6 fQ ?_;refine fu X21 (an2 f ps (eH (ps.take ps.length)) ps.length) (dG ?_);exact⟨cR,_,_,_,rfl,by rw[aS]⟩
def LN:ai->Option (ah×V)
 | [.dM n cs]=>some ([cs=strs (dH cs),n=(dH cs).length,n<=1000000,(eH (dH cs)).length<=1000000000],.str (eH (dH cs)))
 |_=>none
theorem abx:jG ak 117 (Go.Eng.dW LN):=by
 refine vl (au U) fun args A v e hA=>?_;unfold LN at e;split at e
 case h_2=>cases e
 rename_i n cs;simp only[an,aB]at e;obtain⟨rfl,rfl⟩:=e;have e1:cs=strs (dH cs):=hA _ (by simp);have e2:n=(dH cs).length:=hA (n=(dH cs).length) (by simp);have e3:n<=1000000:=hA (n<=1000000) (by simp);have e4:(eH (dH cs)).length<=1000000000:=hA ((eH (dH cs)).length<=1000000000) (by simp);generalize dH cs=ps at *;subst e1 e2;exact gU mo po Tryz.func117 U U rfl rfl (fe (an3 false ps e3 e4) fun y s h=>jZ h)
noncomputable abbrev W22:jL:=kA 117 (Go.Eng.dW LN) W21
theorem SB:gd ak W22:=fk abx Sz
noncomputable abbrev We:e9:=gG ak W22 H0 1000 40
noncomputable abbrev X22:CX ak:=CX.of mo po SB H0 1000 40
noncomputable abbrev O6:Code:=dS Tryz.f69
noncomputable abbrev an5:Code:=dx (dx (dV (dK (de 2 O6))))
section
variable(rs ds:List (aa))(i:Nat)
def sDi:St:=eF [(1,.dM false rs.length (strs rs)),(5,.di (some (3,0)) ds.length ds.length 1),(6,iW i)] (hL [(3,.deep (strs ds))]) 4
theorem an6(ps:List (aa)):c7 We [] 3 Tryz.f92 [] (dS Tryz.f92) (cT [.dM false ps.length (strs ps)] .nil 3) [([],
   [(strs ps=strs (dH (strs ps))),(ps.length=(dH (strs ps)).length),(ps.length<=1000000),((eH (dH (strs ps))).length<=1000000000),((eH (dH (strs ps))).length<=1000000000)],
   .ret (.str (Ek (eH (dH (strs ps))))) (hL []) 3)]
 :=cQ.of U U U
theorem an7(d:aa)(rs:List (aa)):c7 We [] 3 Tryz.f69 [1,5] (eO 2 O6) (cT [.str d,.dM false rs.length (strs rs)] .nil 3) [([],
   [],
   .to .normal (eF [(1,.dM false (rs.length) (strs rs)),(5,.di (some (3,0)) 1 1 1)] (hL [(3,.cells [.str d])]) 4))]
 :=cQ.of U U U
theorem an8:c7 We [] 3 Tryz.f69 [1,5,6] (dK (dK (de 2 O6))) (eF [(1,.dM false rs.length (strs rs)),(5,.di (some (3,0)) ds.length ds.length 1)] (hL [(3,.deep (strs ds))]) 4) [([],
   [],
   .to .normal (sDi rs ds 0))]
 :=cQ.of U U U
theorem agu(p:aa):c7 We [(12,.split),(18,.dc (.dw [.str p])),(14,.dc (iW (i+1)))] 3 Tryz.f69 [1,5,6] (an5) (sDi rs ds i) [([((decide (Int.ofNat i<(Int.ofNat rs.length))),true)],
   [((0:Int)<=Int.ofNat i/\Int.ofNat i<(Int.ofNat rs.length)),((strs rs).length=rs.length*1),(V.dw (dm (strs rs) (i*1) 1)=V.dw [D.str p]),(0+ds.length*1<=(strs ds).length),(0<1),(eT (ds.length+1) 1 16=true),(V.int aj (IntKind.i64.wrap (Int.ofNat i+(1:Int)))=iW (i+1))],
   .to .normal (eF [(1,.dM false (rs.length) (strs rs)),(5,.di (some (3,0)) (ds.length+1) (ds.length+1) 1),(6,.int .i64 (Int.ofNat (i+1)))] (hL [(3,.deep (List.take (ds.length*1) (List.drop 0 (strs ds))++[D.str p]))]) 4)),
  ([((decide (Int.ofNat i<(Int.ofNat rs.length))),false)],
   [],
   .to (.exit 0) (eF [(1,.dM false (rs.length) (strs rs)),(5,.di (some (3,0)) (ds.length) (ds.length) 1),(6,.int .i64 (Int.ofNat i))] (hL [(3,.deep (strs ds))]) 4))]
 :=cQ.of U U U
end
def LO:ai->Option (ah×V)
 | [.dM n cs]=>some ([cs=strs (dH cs),n=(dH cs).length,n<=1000000,(eH (dH cs)).length<=1000000000],.str (Ek (eH (dH cs))))
 |_=>none
theorem aby:jG ak 92 (Go.Eng.dW LO):=by
 refine vl (au U) fun args A v e hA=>?_;unfold LO at e;split at e
 case h_2=>cases e
 rename_i n cs;simp only[an,aB]at e;obtain⟨rfl,rfl⟩:=e;have e1:cs=strs (dH cs):=hA _ (by simp);have e2:n=(dH cs).length:=hA (n=(dH cs).length) (by simp);have e3:n<=1000000:=hA (n<=1000000) (by simp);have e4:(eH (dH cs)).length<=1000000000:=hA ((eH (dH cs)).length<=1000000000) (by simp);generalize dH cs=ps at *;subst e1 e2;refine gU mo po Tryz.func92 (code:=dS Tryz.f92) U U rfl rfl (fe (Q1:=fH ak 3 Tryz.f92 fun u _ _=>u= .str (Ek (eH ps))) ?_ fun y s h=>jZ h);obtain⟨L,hr⟩:=an6 ps;simp only[ir]at hr;refine iq X22 mo _ U hr (dG ?_);exact⟨fm trivial (fm trivial (fm e3 (fm e4 (eR e4)))),_,_,_,rfl,rfl⟩
noncomputable abbrev W23:jL:=kA 92 (Go.Eng.dW LO) W22
theorem SC:gd ak W23:=fk aby SB
noncomputable abbrev aoa:e9:=gG ak W23 H0 1000 40
noncomputable abbrev X23:CX ak:=CX.of mo po SC H0 1000 40
theorem aob(ds:List (aa)):c7 aoa [] 3 Tryz.f69 [] (dV (de 2 O6)) (eF [(5,.dM false ds.length (strs ds))] (hL []) 3) [([],
   [(strs ds=strs (dH (strs ds))),(ds.length=(dH (strs ds)).length),(ds.length<=1000000),((eH (dH (strs ds))).length<=1000000000)],
   .ret (.str (Ek (eH (dH (strs ds))))) (hL []) 3)]
 :=cQ.of U U U
theorem aoc(d:aa)(rs:List (aa))(AR:rs.length<=100000)(hj:(eH (d::rs)).length<=1000000000):TG ak 3 Tryz.f69.ntmps O6 (cT [.str d,.dM false rs.length (strs rs)] .nil 3) (fH ak 3 Tryz.f69 fun u _ _=>u= .str (dN d rs)):=by
 refine iO  2 X22 (an7 d rs) cR ?_;refine(gu.deep [3] (S:=eF [(1,.dM false rs.length (strs rs)),(5,.di (some (3,0)) [d].length [d].length 1)] (hL [(3,.deep (strs [d]))]) 4) U) _ _ ?_;show TG _ _ _ (de 2 O6) _ _;refine cV U ?_;refine cV U ?_;refine fR X22 (an8 rs [d]) (dG ?_);refine⟨cR,fun s' dL=>?_⟩;refine jj 0 rs.length (fun i=>sDi rs (d::rs.take i) i) U U (.norm dL) (fun i hi=>?_) ?_
 . have iY:=aN V.dw (fI (ay hi));have hl:(d::rs.take i).length=i+1:=by rw[aT,aX];omega
   have hn:d::rs.take (i+1)=(d::rs.take i)++[rs[i]]:=by
    rw[bI,ay hi,cB];rfl
   show TG _ _ _ _ _ (andThen (fun s'=>gu ak 3 Tryz.f69.ntmps s' (sDi rs (d::rs.take (i+1)) (i+1))) _);rw[hn];generalize d::rs.take i=ds at hl ⊢;refine fR X22 (agu rs ds i rs[i]) fun g hg hc=>?_;rcases iV hg with rfl|rfl
   . refine⟨fm (⟨az _,dh⟩) (fm (by rw[eJ];omega) (fm (iY) (fm (by rw[eJ];omega) (fm dP (fm (pT be) (eR (pb dh be))))))),fun s1 fQ=>?_⟩;have e:List.take (ds.length*1) (List.drop 0 (strs ds))++[D.str rs[i]]=strs (ds++[rs[i]]):=by
      rw[bu,bj,bq (by rw[eJ];omega),Ds];rfl
     rw[e]at fQ;unfold sDi;rw[ax];exact .norm fQ
   . exact absurd (aJ (hc _ (aq.2 rfl))) dh
 . refine fR X22 (agu rs (d::rs.take rs.length) rs.length []) fun g hg hc=>?_;rcases iV hg with rfl|rfl
   . exact absurd (aH (hc _ (aq.2 rfl))) dh
   refine⟨cR,fun s1 fQ=>⟨by simp,?_⟩⟩;rw[dY];rw[aS]at fQ;have hdl:(d::rs).length<=1000000:=by rw[aT];omega
   show TG _ _ _ _ _ (fH ak 3 Tryz.f69 fun u _ _=>u= .str (Ek (eH (d::rs))));generalize d::rs=ds at fQ hdl hj ⊢;refine((gu.norm fQ).trans (.norm (live:=[5]) (S:=eF [(5,.di (some (3,0)) ds.length ds.length 1)] (hL [(3,.deep (strs ds))]) 4) U)) _ _ ?_;refine xJ [3] (A:=[(strs ds).length=ds.length*1]) (s2:=eF [(5,.dM false ds.length (strs ds))] ((hL [(3,.deep (strs ds))]).set 3 none) 4) U (eR (by rw[eJ,bj])) ?_;refine c6 (live:=[5]) (s2:=eF [(5,.dM false ds.length (strs ds))] (hL []) 3) U ?_;obtain⟨L4,Ef⟩:=aob ds;simp only[ir]at Ef;refine iq X23 mo _ U Ef (dG ?_);exact⟨fm trivial (fm trivial (fm hdl (eR hj))),_,_,_,rfl,rfl⟩
def LP:ai->Option (ah×V)
 | [.str d,.dM n cs]=>some ([cs=strs (dH cs),n=(dH cs).length,n<=100000,(eH (d::dH cs)).length<=1000000000],.str (dN d (dH cs)))
 |_=>none
theorem SD:jG ak 69 (Go.Eng.dW LP):=by
 refine vl (au U) fun args A v e hA=>?_;unfold LP at e;split at e
 case h_2=>cases e
 rename_i d n cs;simp only[an,aB]at e;obtain⟨rfl,rfl⟩:=e;have e1:cs=strs (dH cs):=hA _ (by simp);have e2:n=(dH cs).length:=hA (n=(dH cs).length) (by simp);have e3:n<=100000:=hA (n<=100000) (by simp);have e4:(eH (d::dH cs)).length<=1000000000:=hA ((eH (d::dH cs)).length<=1000000000) (by simp);generalize dH cs=ps at *;subst e1 e2;exact gU mo po Tryz.func69 U U rfl rfl (fe (aoc d ps e3 e4) fun y s h=>jZ h)
def gw:ai->List gP
 | .str a:: .str b:: .dM _ cs::r=>⟨a,b,dH cs⟩::gw r
 |_=>[]
def pg:ai->List (aa×aa)
 | .str a:: .str b::r=>(a,b)::pg r
 |_=>[]
theorem jM:∀l:List gP,gw (fD l)=l
 | []=>rfl
 |c::l=>by
  show gP.mk c.dg c.da (dH (strs c.rs))::gw (fD l)=_;rw[ir,jM l]
theorem rF:∀l:List (aa×aa),pg (fo l)=l
 | []=>rfl
 |p::l=>by
  show(p.1,p.2)::pg (fo l)=_;rw[rF l]
abbrev Jh(n:Nat)(cs:ai)(m:Nat)(rs:ai):ah:=[cs=fD (gw cs),n=(gw cs).length,rs=fo (pg rs),m=(pg rs).length,n<=1000000,m<=1000000]
def LQ:ai->Option (ah×V)
 | [.agg [.dM n cs,.dM m rs],.str x]=>some (Jh n cs m rs,.int .i64 (gp (gw cs) x))
 |_=>none
def LR:ai->Option (ah×V)
 | [.agg [.dM n cs,.dM m rs],.str x]=>some (Jh n cs m rs,.str (gK x (pg rs)))
 |_=>none
theorem tL{n m:Nat}{cs rs:ai}(h:∀a∈Jh n cs m rs,a):∃s:RS,cs=fD s.cs/\n=s.cs.length/\rs=fo s.ro/\m=s.ro.length/\s.cs.length<=1000000/\s.ro.length<=1000000/\gw cs=s.cs/\pg rs=s.ro:=by
 have h1:=h (cs=fD (gw cs)) (by simp);have h2:=h (n=(gw cs).length) (by simp);have h3:=h (rs=fo (pg rs)) (by simp);have h4:=h (m=(pg rs).length) (by simp);have h5:=h (n<=1000000) (by simp);have h6:=h (m<=1000000) (by simp);exact⟨⟨gw cs,pg rs⟩,h1,h2,h3,h4,by show(gw cs).length<=_;omega,by show(pg rs).length<=_;omega,rfl,rfl⟩
theorem abz:jG ak 70 (Go.Eng.dW LQ):=by
 refine vl (au U) fun args A v e hA=>?_;unfold LQ at e;split at e
 case h_2=>cases e
 rename_i n cs m rs x;simp only[an,aB]at e;obtain⟨rfl,rfl⟩:=e;obtain⟨s,h1,h2,h3,h4,h5,h6,h7,h8⟩:=tL hA;rw[h7];clear h7 h8 hA;subst h1 h2 h3 h4;exact gU mo po Tryz.func70 U U rfl rfl (fe (anP s x h5) fun y s h=>jZ h)
theorem abA:jG ak 115 (Go.Eng.dW LR):=by
 refine vl (au U) fun args A v e hA=>?_;unfold LR at e;split at e
 case h_2=>cases e
 rename_i n cs m rs x;simp only[an,aB]at e;obtain⟨rfl,rfl⟩:=e;obtain⟨s,h1,h2,h3,h4,h5,h6,h7,h8⟩:=tL hA;rw[h8];clear h7 h8 hA;subst h1 h2 h3 h4;exact gU mo po Tryz.func115 U U rfl rfl (fe (anQ s x h6) fun y s h=>jZ h)
noncomputable abbrev W24:jL:=kA 115 (Go.Eng.dW LR) (kA 70 (Go.Eng.dW LQ) (kA 69 (Go.Eng.dW LP) W23))
theorem SE:gd ak W24:=fk abA (fk abz (fk SD SC))
noncomputable abbrev ug:e9:=gG ak W24 H0 1000 40
noncomputable abbrev D3:CX ak:=CX.of mo po SE H0 1000 40
noncomputable abbrev xY:Code:=dS Tryz.f37
section
variable(s:RS)(d:aa)(rs:List (aa))
abbrev qN(rs:List (aa)):V:=.dM false rs.length (strs rs)
def M7(r:List (Nat×V)):St:=eF ([(1,.str d),(2,qN rs),(3,.ptr (some (3,0))),(6,.ptr (some (4,0)))]++r) (hL [(3,bx s),(4,.cells [.di none 0 0 0,.di none 0 0 0,.str [],.int .i64 0,.bool false])]) 5
end
section
variable(s:RS)
theorem aoe(d:aa)(rs:List (aa)):c7 ug [(13,.dc (.bool false)),(17,.dc (.bool false))] 3 Tryz.f37 [1,2,3,6] (eO 2 xY) (cT [s.v,.str d,qN rs] .nil 3) [([],
   [(V.bool (decide ((Int.ofNat d.length)>(65536:Int)))=V.bool false),(V.bool (decide ((Int.ofNat rs.length)>(1024:Int)))=V.bool false)],
   .to .normal (M7 s d rs []))]
 :=cQ.of U U U
noncomputable abbrev aof:Code:=dx (dx (dV (dK (de 2 xY))))
noncomputable abbrev aog:Code:=dx (dx (dV (dK (de 3 xY))))
theorem aoh(d:aa)(rs:List (aa)):c7 ug [] 3 Tryz.f37 [1,2,3,6,7] (dK (dK (de 2 xY))) (M7 s d rs []) [([],
   [],
   .to .normal (M7 s d rs [(7,iW 0)]))]
 :=cQ.of U U U
theorem agv(d:aa)(rs:List (aa))(i:Nat)(p:aa):c7 ug [(24,.split),(29,.dc (.dw [.str p])),(32,.dc (.bool false)),(26,.dc (iW (i+1)))] 3 Tryz.f37 [1,2,3,6,7] (aof) (M7 s d rs [(7,iW i)]) [([((decide (Int.ofNat i<(Int.ofNat rs.length))),true)],
   [((0:Int)<=Int.ofNat i/\Int.ofNat i<(Int.ofNat rs.length)),((strs rs).length=rs.length*1),(V.dw (dm (strs rs) (i*1) 1)=V.dw [D.str p]),(V.bool ((Int.ofNat p.length) !=(32:Int))=V.bool false),(V.int aj (IntKind.i64.wrap (Int.ofNat i+(1:Int)))=iW (i+1))],
   .to .normal (eF [(1,.str d),(2,.dM false (rs.length) (strs rs)),(3,.ptr (some (3,0))),(6,.ptr (some (4,0))),(7,.int .i64 (Int.ofNat (i+1)))] (hL [(3,.cells [.dM false (s.cs.length) (fD s.cs),.dM false (s.ro.length) (fo s.ro)]),(4,.cells [.di none 0 0 0,.di none 0 0 0,.str [],.int .i64 0,.bool false])]) 5)),
  ([((decide (Int.ofNat i<(Int.ofNat rs.length))),false)],
   [],
   .to (.exit 0) (eF [(1,.str d),(2,.dM false (rs.length) (strs rs)),(3,.ptr (some (3,0))),(6,.ptr (some (4,0))),(7,.int .i64 (Int.ofNat i))] (hL [(3,.cells [.dM false (s.cs.length) (fD s.cs),.dM false (s.ro.length) (fo s.ro)]),(4,.cells [.di none 0 0 0,.di none 0 0 0,.str [],.int .i64 0,.bool false])]) 5))]
 :=cQ.of U U U
theorem aoi(d:aa)(rs:List (aa))(i:Nat):c7 ug [] 3 Tryz.f37 [1,2,3,6,8] (dK (dK (de 3 xY))) (M7 s d rs [(7,iW i)]) [([],
   [],
   .to .normal (M7 s d rs [(8,iW 0)]))]
 :=cQ.of U U U
theorem agw(d:aa)(rs:List (aa))(i:Nat)(p:aa):c7 ug [(38,.split),(44,.dc (.dw [.str p])),(47,.split),(40,.dc (iW (i+1)))] 3 Tryz.f37 [1,2,3,6,8] (aog) (M7 s d rs [(8,iW i)]) [([((decide (Int.ofNat i<(Int.ofNat rs.length))),true),((decide (gp (gw (fD s.cs)) p<(0:Int))),true)],
   [((0:Int)<=Int.ofNat i/\Int.ofNat i<(Int.ofNat rs.length)),((strs rs).length=rs.length*1),(V.dw (dm (strs rs) (i*1) 1)=V.dw [D.str p]),(fD s.cs=fD (gw (fD s.cs))),(s.cs.length=(gw (fD s.cs)).length),(fo s.ro=fo (pg (fo s.ro))),(s.ro.length=(pg (fo s.ro)).length),(s.cs.length<=1000000),(s.ro.length<=1000000)],
   .ret (.agg [.dM false (s.cs.length) (fD s.cs),.dM false (s.ro.length) (fo s.ro),.str [],.int .i64 63,.bool false]) (hL []) 3),
  ([((decide (Int.ofNat i<(Int.ofNat rs.length))),true),((decide (gp (gw (fD s.cs)) p<(0:Int))),false)],
   [((0:Int)<=Int.ofNat i/\Int.ofNat i<(Int.ofNat rs.length)),((strs rs).length=rs.length*1),(V.dw (dm (strs rs) (i*1) 1)=V.dw [D.str p]),(fD s.cs=fD (gw (fD s.cs))),(s.cs.length=(gw (fD s.cs)).length),(fo s.ro=fo (pg (fo s.ro))),(s.ro.length=(pg (fo s.ro)).length),(s.cs.length<=1000000),(s.ro.length<=1000000),(V.int aj (IntKind.i64.wrap (Int.ofNat i+(1:Int)))=iW (i+1))],
   .to .normal (eF [(1,.str d),(2,.dM false (rs.length) (strs rs)),(3,.ptr (some (3,0))),(6,.ptr (some (4,0))),(8,.int .i64 (Int.ofNat (i+1)))] (hL [(3,.cells [.dM false (s.cs.length) (fD s.cs),.dM false (s.ro.length) (fo s.ro)]),(4,.cells [.di none 0 0 0,.di none 0 0 0,.str [],.int .i64 0,.bool false])]) 5)),
  ([((decide (Int.ofNat i<(Int.ofNat rs.length))),false)],
   [],
   .to (.exit 2) (eF [(1,.str d),(2,.dM false (rs.length) (strs rs)),(3,.ptr (some (3,0))),(6,.ptr (some (4,0))),(8,.int .i64 (Int.ofNat i))] (hL [(3,.cells [.dM false (s.cs.length) (fD s.cs),.dM false (s.ro.length) (fo s.ro)]),(4,.cells [.di none 0 0 0,.di none 0 0 0,.str [],.int .i64 0,.bool false])]) 5))]
 :=cQ.of U U U
theorem aoj(d:aa)(rs:List (aa))(i:Nat):c7 ug [] 3 Tryz.f37 [1,2,3,6,9] (dK (de 4 xY)) (M7 s d rs [(8,iW i)]) [([],
   [(strs rs=strs (dH (strs rs))),(rs.length=(dH (strs rs)).length),(rs.length<=100000),((eH (d::dH (strs rs))).length<=1000000000)],
   .to .normal (eF [(1,.str d),(2,.dM false (rs.length) (strs rs)),(3,.ptr (some (3,0))),(6,.ptr (some (4,0))),(9,.str (dN d (dH (strs rs))))] (hL [(3,.cells [.dM false (s.cs.length) (fD s.cs),.dM false (s.ro.length) (fo s.ro)]),(4,.cells [.di none 0 0 0,.di none 0 0 0,.str [],.int .i64 0,.bool false])]) 5))]
 :=cQ.of U U U
theorem aok(d:aa)(rs:List (aa))(x:aa):c7 ug [(56,.split)] 3 Tryz.f37 [1,2,3,6,9] (dK (de 5 xY)) (M7 s d rs [(9,.str x)]) [([((decide (gp (gw (fD s.cs)) x>=(0:Int))),true)],
   [(fD s.cs=fD (gw (fD s.cs))),(s.cs.length=(gw (fD s.cs)).length),(fo s.ro=fo (pg (fo s.ro))),(s.ro.length=(pg (fo s.ro)).length),(s.cs.length<=1000000),(s.ro.length<=1000000)],
   .ret (.agg [.dM false (s.cs.length) (fD s.cs),.dM false (s.ro.length) (fo s.ro),.str x,.int .i64 0,.bool false]) (hL []) 3),
  ([((decide (gp (gw (fD s.cs)) x>=(0:Int))),false)],
   [(fD s.cs=fD (gw (fD s.cs))),(s.cs.length=(gw (fD s.cs)).length),(fo s.ro=fo (pg (fo s.ro))),(s.ro.length=(pg (fo s.ro)).length),(s.cs.length<=1000000),(s.ro.length<=1000000)],
   .to .normal (eF [(1,.str d),(2,.dM false (rs.length) (strs rs)),(3,.ptr (some (3,0))),(6,.ptr (some (4,0))),(9,.str x)] (hL [(3,.cells [.dM false (s.cs.length) (fD s.cs),.dM false (s.ro.length) (fo s.ro)]),(4,.cells [.di none 0 0 0,.di none 0 0 0,.str [],.int .i64 0,.bool false])]) 5))]
 :=cQ.of U U U
theorem aol(d:aa)(rs:List (aa))(x:aa):c7 ug [] 3 Tryz.f37 [3,6,9,10] (dK (de 6 xY)) (M7 s d rs [(9,.str x)]) [([],
   [((strs rs).length=rs.length*1),(eT (0+rs.length) 1 16=true)],
   .to .normal (eF [(3,.ptr (some (3,0))),(6,.ptr (some (4,0))),(9,.str x),(10,.ptr (some (5,0)))] (hL [(3,.cells [.dM false (s.cs.length) (fD s.cs),.dM false (s.ro.length) (fo s.ro)]),(4,.cells [.di none 0 0 0,.di none 0 0 0,.str [],.int .i64 0,.bool false]),(5,.cells [.str x,.str d,.di (some (6,0)) (0+rs.length) (0+rs.length) 1]),(6,.deep ([]++strs rs))]) 7))]
 :=cQ.of U U U
def sPq(c:gP):St:=eF [(3,.ptr (some (3,0))),(6,.ptr (some (4,0))),(9,.str c.dg),(10,.ptr (some (5,0)))] (hL [(3,bx s),(4,.cells [.di none 0 0 0,.di none 0 0 0,.str [],.int .i64 0,.bool false]),(5,.cells [.str c.dg,.str c.da,.dM false c.rs.length (strs c.rs)])]) 6
theorem aom(c:gP):c7 ug [] 3 Tryz.f37 [] (de 7 xY) (sPq s c) [([],
   [((fD s.cs).length=s.cs.length*3),(eT (0+s.cs.length) 3 56=true),(0+(0+s.cs.length)*3<=([]++fD s.cs).length),(0<1),(eT (0+s.cs.length+1) 3 56=true)],
   .ret (.agg [.di (some (3,0)) (0+s.cs.length+1) (0+s.cs.length+1) 3,.dM false (s.ro.length) (fo s.ro),.str (c.dg),.int .i64 0,.bool true]) (hL [(3,.deep (List.take ((0+s.cs.length)*3) (List.drop 0 ([]++fD s.cs))++[D.str c.dg,D.str c.da,D.dM c.rs.length (strs c.rs)]))]) 4)]
 :=cQ.of U U U
end
structure RR where
 s:RS
 dg:aa
 er:Int
 ch:Bool
def RR.v(r:RR):V:=.agg [.dM false r.s.cs.length (fD r.s.cs),.dM false r.s.ro.length (fo r.s.ro),.str r.dg,.int .i64 r.er,.bool r.ch]
def ld(s:RS)(d:aa)(rs:List (aa)):RR:=
 if ∃r∈rs,gp s.cs r<0 then⟨s,[],63,false⟩
 else if 0<=gp s.cs (dN d rs)then⟨s,dN d rs,0,false⟩
 else⟨⟨s.cs++[⟨dN d rs,d,rs⟩],s.ro⟩,dN d rs,0,true⟩
theorem M8(a b:List gP):fD (a++b)=fD a++fD b:=by unfold fD;rw[aZ,cr]
theorem Dy{k:Nat}(h:k<=1000000):eT k 3 56=true:=by
 unfold eT;exact bM ⟨be,be⟩
section
variable(s:RS)(d:aa)(rs:List (aa))
abbrev okS(s:RS):ah:=[fD s.cs=fD (gw (fD s.cs)),s.cs.length=(gw (fD s.cs)).length,fo s.ro=fo (pg (fo s.ro)),s.ro.length=(pg (fo s.ro)).length,s.cs.length<=1000000,s.ro.length<=1000000]
theorem Dz{s:RS}(h1:s.cs.length<=1000000)(h2:s.ro.length<=1000000):∀a∈okS s,a:=by
 have e1:=jM s.cs;have e2:=rF s.ro;exact fm (by rw[e1]) (fm (by rw[e1]) (fm (by rw[e2]) (fm (by rw[e2]) (fm h1 (eR h2)))))
theorem jB{a b:ah}(ha:∀x∈a,x)(hb:∀x∈b,x):∀x∈a++b,x:=fun x hx=>by
 rcases aU.1 hx with h|h
 . exact ha x h
 . exact hb x h
theorem aon(h1:s.cs.length<=100000)(h2:s.ro.length<=1000000)(hd:d.length<=65536)(hn:rs.length<=1024)(h32:∀x∈rs,x.length=32):
  TG ak 3 Tryz.f37.ntmps xY (cT [s.v,.str d,qN rs] .nil 3) (fH ak 3 Tryz.f37 (nB (ld s d rs).v)):=by
 have ic:=Dz (s:=s) be h2;have hj:(eH (d::rs)).length<=1000000000:=by
  have:=jH d rs h32;omega
 refine iO  2 D3 (aoe s d rs) (fm (aN V.bool (bw dh)) (eR (aN V.bool (bw dh)))) ?_;show TG _ _ _ (de 2 xY) _ _;refine cV U ?_;refine cV U ?_;obtain⟨L2,Fc⟩:=aoh s d rs;refine gy D3 mo lT U Fc (dG ?_);refine⟨cR,fun s' dL=>?_⟩;refine jj 0 rs.length (fun i=>M7 s d rs [(7,iW i)]) U U (.norm dL) (fun i hi=>?_) ?_
 . have iY:=aN V.dw (fI (ay hi));refine fR D3 (agv s d rs i rs[i]) fun g hg hc=>?_;rcases iV hg with rfl|rfl
   . have h3:=h32 rs[i] (bY hi);exact⟨fm (⟨az _,dh⟩) (fm (by rw[eJ];omega) (fm (iY) (fm (by rw[h3];rfl) (eR (pb dh be))))),fun s1 fQ=>.norm fQ⟩
   . exact absurd (aJ (hc _ (aq.2 rfl))) dh
 refine fR D3 (agv s d rs rs.length []) fun g hg hc=>?_;rcases iV hg with rfl|rfl
 . exact absurd (aH (hc _ (aq.2 rfl))) dh
 refine⟨cR,fun s1 fQ=>⟨by simp,?_⟩⟩;rw[dY];refine c6 fQ ?_;show TG _ _ _ (de 3 xY) _ _;refine cV U ?_;refine cV U ?_;refine fR D3 (aoi s d rs rs.length) (dG ?_);refine⟨cR,fun s2 jd=>?_⟩;refine j9 (α:=Nat) 2 (fun i=>rs.length-i) (fun i=>i<=rs.length/\∀j,(h:j<rs.length)->j<i->¬gp s.cs rs[j]<0) (fun i=>M7 s d rs [(8,iW i)]) U U 0 ⟨aY _,fun j _ h=>by omega⟩ (.norm jd) fun i ⟨hi,hf⟩=>?_;rcases bN i rs.length with fJ|Ae
 . have iY:=aN V.dw (fI (ay fJ));obtain⟨L5,ue⟩:=agw s d rs i rs[i];refine gy D3 mo (nB (ld s d rs).v) U ue fun g hg hc=>?_;rcases xQ hg with rfl|rfl|rfl
   . have h3:=aH (hc _ (aK _ (aq.2 rfl)));rw[jM]at h3;refine⟨jB (a:=[_,_,_]) (fm (⟨az _,dh⟩) (fm (by rw[eJ];omega) (eR (iY)))) ic,?_,fun s3 yb=>yb⟩;unfold ld;rw[aG ⟨rs[i],bY fJ,h3⟩];exact nB.self
   . have h3:=aJ (hc _ (aK _ (aq.2 rfl)));rw[jM]at h3;refine⟨jB (a:=[_,_,_]) (fm (⟨az _,dh⟩) (fm (by rw[eJ];omega) (eR (iY)))) (jB (a:=okS s) (b:=[_]) ic (eR (pb dh be))),fun s3 yb=>⟨i+1,be,⟨be,fun j hj hji=>?_⟩,.norm yb⟩⟩;rcases bN j i with q|q
     . exact hf j hj q
     . obtain rfl:j=i:=by omega
       exact h3
   . exact absurd (aJ (hc _ (aq.2 rfl))) dh
 obtain rfl:i=rs.length:=by omega
 obtain⟨L5,ue⟩:=agw s d rs rs.length [];refine gy D3 mo (nB (ld s d rs).v) U ue fun g hg hc=>?_;rcases xQ hg with rfl|rfl|rfl
 . exact absurd (aH (hc _ (aP ..))) dh
 . exact absurd (aH (hc _ (aP ..))) dh
 refine⟨cR,fun s3 yb=>?_⟩;simp only[andThen,dY];refine c6 yb ?_;have rU:¬∃r∈rs,gp s.cs r<0:=by
  rintro⟨r,hr,Fc⟩;obtain⟨j,hj,rfl⟩:=List.getElem_of_mem hr;exact hf j hj hj Fc
 show TG _ _ _ (de 4 xY) _ _;refine cV U ?_;obtain⟨L6,HC⟩:=aoj s d rs rs.length;simp only[ir]at HC;refine gy D3 mo lT U HC (dG ?_);refine⟨fm trivial (fm trivial (fm be (eR hj))),fun s4 Jf=>c6 Jf ?_⟩;show TG _ _ _ (de 5 xY) (M7 s d rs [(9,.str (dN d rs))]) _;refine cV U ?_;obtain⟨L7,hr7⟩:=aok s d rs (dN d rs);refine gy D3 mo (nB (ld s d rs).v) U hr7 fun g hg hc=>?_;rcases iV hg with rfl|rfl
 . have h3:=aH (hc _ (aq.2 rfl));rw[jM]at h3;refine⟨ic,?_,fun s5 hs5=>hs5⟩;unfold ld;rw[aI rU,aG h3];exact nB.self
 have h3:=aJ (hc _ (aq.2 rfl));rw[jM]at h3;refine⟨ic,fun s5 hs5=>c6 hs5 ?_⟩;show TG _ _ _ (de 6 xY) (M7 s d rs [(9,.str (dN d rs))]) _;have hp:ld s d rs=⟨⟨s.cs++[⟨dN d rs,d,rs⟩],s.ro⟩,dN d rs,0,true⟩:=by unfold ld;rw[aI rU,aI h3]
 rw[hp];refine cV U ?_;refine fR D3 (aol s d rs (dN d rs)) (dG ?_);refine⟨fm (by rw[eJ,bj]) (eR (pT be)),fun s6 hs6=>?_⟩;rw[bE,cD]at hs6;refine c6 hs6 ?_;generalize dN d rs=x;refine xJ [6] (A:=[(strs rs).length=rs.length*1]) (s2:=eF [(3,.ptr (some (3,0))),(6,.ptr (some (4,0))),(9,.str x),(10,.ptr (some (5,0)))] ((hL [(3,bx s),(4,.cells [.di none 0 0 0,.di none 0 0 0,.str [],.int .i64 0,.bool false]),(5,.cells [.str x,.str d,.dM false rs.length (strs rs)]),(6,.deep (strs rs))]).set 6 none) 7) U (eR (by rw[eJ,bj])) ?_;refine c6 (live:=[3,6,9,10]) (s2:=sPq s ⟨x,d,rs⟩) U ?_;refine fu D3 (aom s ⟨x,d,rs⟩) (dG ?_);have rT:=k8 s.cs;refine⟨fm (rT) (fm (Dy be) (fm (by rw[cD,rT];omega) (fm dP (eR (Dy be))))),_,_,_,rfl,?_⟩;have e:List.take ((0+s.cs.length)*3) (List.drop 0 ([]++fD s.cs))++[D.str x,D.str d,D.dM rs.length (strs rs)]=fD (s.cs++[⟨x,d,rs⟩]):=by
  rw[cD,bu,bq (by rw[rT];omega),M8];rfl
 have e2:0+s.cs.length+1=(s.cs++[gP.mk x d rs]).length:=by rw[ax];simp
 rw[e,e2];generalize s.cs++[gP.mk x d rs]=cs;exact⟨[[3]],[(fD cs).length=cs.length*3],{ fr:=Tr.nil.set 0 (some (RR.v ⟨⟨cs,s.ro⟩,x,0,true⟩)),h:=(hL [(3,.deep (fD cs))]).set 3 none,n:=4,gz:=[] },U,eR (k8 _),U⟩
end
noncomputable abbrev zx:Code:=dS Tryz.f90
section
variable(s:RS)(n x:aa)
def o76:O:=.cells [.di none 0 0 0,.di none 0 0 0,.str [],.int .i64 0,.bool false]
def sSr(r:List (Nat×V)):St:=eF ([(1,.str n),(2,.str x),(3,.ptr (some (3,0))),(6,.ptr (some (4,0)))]++r) (hL [(3,bx s),(4,o76)]) 5
def Wf(m:Nat)(o:O)(dn:Bool)(r:List (Nat×V)):St:=eF ([(1,.str n),(2,.str x),(3,.ptr (some (3,0))),(6,.ptr (some (4,0))),(8,.di (some (5,0)) m m 2),(9,.bool dn)]++r) (hL [(3,bx s),(4,o76),(5,o)]) 6
end
theorem aoo(s:RS)(n x:aa):c7 ug [] 3 Tryz.f90 [1,2,3,6,7] (eO 2 zx) (cT [s.v,.str n,.str x] .nil 3) [([],
   [(fD s.cs=fD (gw (fD s.cs))),(s.cs.length=(gw (fD s.cs)).length),(fo s.ro=fo (pg (fo s.ro))),(s.ro.length=(pg (fo s.ro)).length),(s.cs.length<=1000000),(s.ro.length<=1000000)],
   .to .normal (eF [(1,.str n),(2,.str x),(3,.ptr (some (3,0))),(6,.ptr (some (4,0))),(7,.str (gK n (pg (fo s.ro))))] (hL [(3,.cells [.dM false (s.cs.length) (fD s.cs),.dM false (s.ro.length) (fo s.ro)]),(4,.cells [.di none 0 0 0,.di none 0 0 0,.str [],.int .i64 0,.bool false])]) 5))]
 :=cQ.of U U U
section
variable(s:RS)(n x rK:aa)(m i:Nat)(cs:ai)(dn:Bool)
theorem agy:c7 ug [(16,.dc (.bool false)),(20,.dc (.bool false)),(26,.dc (.bool true)),(31,.split),(37,.dc (.bool true)),(40,.split),(46,.dc (.bool false)),(53,.split)] 3 Tryz.f90 [1,2,3,6] (dK (de 2 zx)) (sSr s n x [(7,.str rK)]) [([((decide (gp (gw (fD s.cs)) x<(0:Int))),true)],
   [(V.bool (eG n ([]:aa))=V.bool false),(V.bool (decide ((Int.ofNat n.length)>(64:Int)))=V.bool false),((V.bool !eG x ([]:aa))=V.bool true),(fD s.cs=fD (gw (fD s.cs))),(s.cs.length=(gw (fD s.cs)).length),(fo s.ro=fo (pg (fo s.ro))),(s.ro.length=(pg (fo s.ro)).length),(s.cs.length<=1000000),(s.ro.length<=1000000)],
   .ret (.agg [.dM false (s.cs.length) (fD s.cs),.dM false (s.ro.length) (fo s.ro),.str [],.int .i64 62,.bool false]) (hL []) 3),
  ([((decide (gp (gw (fD s.cs)) x<(0:Int))),false),((eG rK ([]:aa)),true),((eG x rK),true)],
   [(V.bool (eG n ([]:aa))=V.bool false),(V.bool (decide ((Int.ofNat n.length)>(64:Int)))=V.bool false),((V.bool !eG x ([]:aa))=V.bool true),(fD s.cs=fD (gw (fD s.cs))),(s.cs.length=(gw (fD s.cs)).length),(fo s.ro=fo (pg (fo s.ro))),(s.ro.length=(pg (fo s.ro)).length),(s.cs.length<=1000000),(s.ro.length<=1000000),((V.bool !eG x ([]:aa))=V.bool true),(V.bool (decide ((Int.ofNat s.ro.length)>=(64:Int)))=V.bool false)],
   .ret (.agg [.dM false (s.cs.length) (fD s.cs),.dM false (s.ro.length) (fo s.ro),.str [],.int .i64 0,.bool false]) (hL []) 3),
  ([((decide (gp (gw (fD s.cs)) x<(0:Int))),false),((eG rK ([]:aa)),true),((eG x rK),false)],
   [(V.bool (eG n ([]:aa))=V.bool false),(V.bool (decide ((Int.ofNat n.length)>(64:Int)))=V.bool false),((V.bool !eG x ([]:aa))=V.bool true),(fD s.cs=fD (gw (fD s.cs))),(s.cs.length=(gw (fD s.cs)).length),(fo s.ro=fo (pg (fo s.ro))),(s.ro.length=(pg (fo s.ro)).length),(s.cs.length<=1000000),(s.ro.length<=1000000),((V.bool !eG x ([]:aa))=V.bool true),(V.bool (decide ((Int.ofNat s.ro.length)>=(64:Int)))=V.bool false)],
   .to .normal (eF [(1,.str n),(2,.str x),(3,.ptr (some (3,0))),(6,.ptr (some (4,0)))] (hL [(3,.cells [.dM false (s.cs.length) (fD s.cs),.dM false (s.ro.length) (fo s.ro)]),(4,.cells [.di none 0 0 0,.di none 0 0 0,.str [],.int .i64 0,.bool false])]) 5)),
  ([((decide (gp (gw (fD s.cs)) x<(0:Int))),false),((eG rK ([]:aa)),false),((eG x rK),true)],
   [(V.bool (eG n ([]:aa))=V.bool false),(V.bool (decide ((Int.ofNat n.length)>(64:Int)))=V.bool false),((V.bool !eG x ([]:aa))=V.bool true),(fD s.cs=fD (gw (fD s.cs))),(s.cs.length=(gw (fD s.cs)).length),(fo s.ro=fo (pg (fo s.ro))),(s.ro.length=(pg (fo s.ro)).length),(s.cs.length<=1000000),(s.ro.length<=1000000),((V.bool !eG x ([]:aa))=V.bool true)],
   .ret (.agg [.dM false (s.cs.length) (fD s.cs),.dM false (s.ro.length) (fo s.ro),.str [],.int .i64 0,.bool false]) (hL []) 3),
  ([((decide (gp (gw (fD s.cs)) x<(0:Int))),false),((eG rK ([]:aa)),false),((eG x rK),false)],
   [(V.bool (eG n ([]:aa))=V.bool false),(V.bool (decide ((Int.ofNat n.length)>(64:Int)))=V.bool false),((V.bool !eG x ([]:aa))=V.bool true),(fD s.cs=fD (gw (fD s.cs))),(s.cs.length=(gw (fD s.cs)).length),(fo s.ro=fo (pg (fo s.ro))),(s.ro.length=(pg (fo s.ro)).length),(s.cs.length<=1000000),(s.ro.length<=1000000),((V.bool !eG x ([]:aa))=V.bool true)],
   .to .normal (eF [(1,.str n),(2,.str x),(3,.ptr (some (3,0))),(6,.ptr (some (4,0)))] (hL [(3,.cells [.dM false (s.cs.length) (fD s.cs),.dM false (s.ro.length) (fo s.ro)]),(4,.cells [.di none 0 0 0,.di none 0 0 0,.str [],.int .i64 0,.bool false])]) 5))]
 :=cQ.of U U U
theorem agz:c7 ug [(16,.dc (.bool false)),(20,.dc (.bool false)),(53,.split)] 3 Tryz.f90 [1,2,3,6] (dK (de 2 zx)) (sSr s n [] [(7,.str rK)]) [([((eG [] rK),true)],
   [(V.bool (eG n ([]:aa))=V.bool false),(V.bool (decide ((Int.ofNat n.length)>(64:Int)))=V.bool false)],
   .ret (.agg [.dM false (s.cs.length) (fD s.cs),.dM false (s.ro.length) (fo s.ro),.str [],.int .i64 0,.bool false]) (hL []) 3),
  ([((eG [] rK),false)],
   [(V.bool (eG n ([]:aa))=V.bool false),(V.bool (decide ((Int.ofNat n.length)>(64:Int)))=V.bool false)],
   .to .normal (eF [(1,.str n),(2,.str []),(3,.ptr (some (3,0))),(6,.ptr (some (4,0)))] (hL [(3,.cells [.dM false (s.cs.length) (fD s.cs),.dM false (s.ro.length) (fo s.ro)]),(4,.cells [.di none 0 0 0,.di none 0 0 0,.str [],.int .i64 0,.bool false])]) 5))]
 :=cQ.of U U U
theorem aop:c7 ug [(58,.dc (.bool dn))] 3 Tryz.f90 [1,2,3,6,8,9] (eO 2 (de 3 zx)) (sSr s n x []) [([],
   [(V.bool (eG x ([]:aa))=V.bool dn)],
   .to .normal (eF [(1,.str n),(2,.str x),(3,.ptr (some (3,0))),(6,.ptr (some (4,0))),(8,.di (some (5,0)) 0 0 2),(9,.bool dn)] (hL [(3,.cells [.dM false (s.cs.length) (fD s.cs),.dM false (s.ro.length) (fo s.ro)]),(4,.cells [.di none 0 0 0,.di none 0 0 0,.str [],.int .i64 0,.bool false]),(5,.cells [])]) 6))]
 :=cQ.of U U U
theorem aoq:c7 ug [] 3 Tryz.f90 [1,2,3,6,8,9,10] (dK (dK (de 5 zx))) (Wf s n x m (.deep cs) dn []) [([],
   [],
   .to .normal (Wf s n x m (.deep cs) dn [(10,iW 0)]))]
 :=cQ.of U U U
abbrev M9:Prop:=V.int aj (IntKind.i64.wrap (Int.ofNat i+(1:Int)))=iW (i+1)
theorem Yz(i:Nat)(p q:aa):c7 ug [(63,.split),(87,.dc (.dw [.str p,.str q])),(91,.split),(96,.dc (.dw [.str p,.str q])),(65,.dc (iW (i+1)))] 3 Tryz.f90 [1,2,3,6,8,9,10] (dx (dx (dV (dK (de 5 zx))))) (Wf s n x m (.deep cs) true [(10,iW i)]) [([((decide (Int.ofNat i<(Int.ofNat s.ro.length))),true),((!eG p n),true)],
   [((0:Int)<=Int.ofNat i/\Int.ofNat i<(Int.ofNat s.ro.length)),((fo s.ro).length=s.ro.length*2),(V.dw (dm (fo s.ro) (i*2) 2)=V.dw [D.str p,D.str q]),((0:Int)<=Int.ofNat i/\Int.ofNat i<(Int.ofNat s.ro.length)),((fo s.ro).length=s.ro.length*2),(V.dw (dm (fo s.ro) (i*2) 2)=V.dw [D.str p,D.str q]),(0+m*2<=cs.length),(0<1),(eT (m+1) 2 32=true),M9 i],
   .to .normal (eF [(1,.str n),(2,.str x),(3,.ptr (some (3,0))),(6,.ptr (some (4,0))),(8,.di (some (5,0)) (m+1) (m+1) 2),(9,.bool true),(10,.int .i64 (Int.ofNat (i+1)))] (hL [(3,.cells [.dM false (s.cs.length) (fD s.cs),.dM false (s.ro.length) (fo s.ro)]),(4,.cells [.di none 0 0 0,.di none 0 0 0,.str [],.int .i64 0,.bool false]),(5,.deep (List.take (m*2) (List.drop 0 cs)++[D.str p,D.str q]))]) 6)),
  ([((decide (Int.ofNat i<(Int.ofNat s.ro.length))),true),((!eG p n),false)],
   [((0:Int)<=Int.ofNat i/\Int.ofNat i<(Int.ofNat s.ro.length)),((fo s.ro).length=s.ro.length*2),(V.dw (dm (fo s.ro) (i*2) 2)=V.dw [D.str p,D.str q]),M9 i],
   .to .normal (eF [(1,.str n),(2,.str x),(3,.ptr (some (3,0))),(6,.ptr (some (4,0))),(8,.di (some (5,0)) m m 2),(9,.bool true),(10,.int .i64 (Int.ofNat (i+1)))] (hL [(3,.cells [.dM false (s.cs.length) (fD s.cs),.dM false (s.ro.length) (fo s.ro)]),(4,.cells [.di none 0 0 0,.di none 0 0 0,.str [],.int .i64 0,.bool false]),(5,.deep cs)]) 6)),
  ([((decide (Int.ofNat i<(Int.ofNat s.ro.length))),false)],
   [],
   .to (.exit 1) (eF [(1,.str n),(2,.str x),(3,.ptr (some (3,0))),(6,.ptr (some (4,0))),(8,.di (some (5,0)) m m 2),(9,.bool true),(10,.int .i64 (Int.ofNat i))] (hL [(3,.cells [.dM false (s.cs.length) (fD s.cs),.dM false (s.ro.length) (fo s.ro)]),(4,.cells [.di none 0 0 0,.di none 0 0 0,.str [],.int .i64 0,.bool false]),(5,.deep cs)]) 6))]
 :=cQ.of U U U
abbrev BU:Prop:=V.int aj (IntKind.i64.wrap (Int.ofNat i+(1:Int)))=iW (i+1)
theorem YA(i:Nat)(p q:aa):c7 ug [(63,.split),(73,.dc (.dw [.str p,.str q])),(76,.split),(87,.dc (.dw [.str p,.str q])),(91,.split),(96,.dc (.dw [.str p,.str q])),(65,.dc (iW (i+1)))] 3 Tryz.f90 [1,2,3,6,8,9,10] (dx (dx (dV (dK (de 5 zx))))) (Wf s n x m (.deep cs) false [(10,iW i)]) [([((decide (Int.ofNat i<(Int.ofNat s.ro.length))),true),((ye n p),true),((!eG p n),true)],
   [((0:Int)<=Int.ofNat i/\Int.ofNat i<(Int.ofNat s.ro.length)),((fo s.ro).length=s.ro.length*2),(V.dw (dm (fo s.ro) (i*2) 2)=V.dw [D.str p,D.str q]),(0+m*2<=cs.length),(0<1),(eT (m+1) 2 32=true),((0:Int)<=Int.ofNat i/\Int.ofNat i<(Int.ofNat s.ro.length)),((fo s.ro).length=s.ro.length*2),(V.dw (dm (fo s.ro) (i*2) 2)=V.dw [D.str p,D.str q]),((0:Int)<=Int.ofNat i/\Int.ofNat i<(Int.ofNat s.ro.length)),((fo s.ro).length=s.ro.length*2),(V.dw (dm (fo s.ro) (i*2) 2)=V.dw [D.str p,D.str q]),(0+(m+1)*2<=(List.take (m*2) (List.drop 0 cs)++[D.str n,D.str x]).length),(0<1),(eT (m+1+1) 2 32=true),BU i],
   .to .normal (eF [(1,.str n),(2,.str x),(3,.ptr (some (3,0))),(6,.ptr (some (4,0))),(8,.di (some (5,0)) (m+1+1) (m+1+1) 2),(9,.bool true),(10,.int .i64 (Int.ofNat (i+1)))] (hL [(3,.cells [.dM false (s.cs.length) (fD s.cs),.dM false (s.ro.length) (fo s.ro)]),(4,.cells [.di none 0 0 0,.di none 0 0 0,.str [],.int .i64 0,.bool false]),(5,.deep (List.take ((m+1)*2) (List.drop 0 (List.take (m*2) (List.drop 0 cs)++[D.str n,D.str x]))++[D.str p,D.str q]))]) 6)),
  ([((decide (Int.ofNat i<(Int.ofNat s.ro.length))),true),((ye n p),true),((!eG p n),false)],
   [((0:Int)<=Int.ofNat i/\Int.ofNat i<(Int.ofNat s.ro.length)),((fo s.ro).length=s.ro.length*2),(V.dw (dm (fo s.ro) (i*2) 2)=V.dw [D.str p,D.str q]),(0+m*2<=cs.length),(0<1),(eT (m+1) 2 32=true),((0:Int)<=Int.ofNat i/\Int.ofNat i<(Int.ofNat s.ro.length)),((fo s.ro).length=s.ro.length*2),(V.dw (dm (fo s.ro) (i*2) 2)=V.dw [D.str p,D.str q]),BU i],
   .to .normal (eF [(1,.str n),(2,.str x),(3,.ptr (some (3,0))),(6,.ptr (some (4,0))),(8,.di (some (5,0)) (m+1) (m+1) 2),(9,.bool true),(10,.int .i64 (Int.ofNat (i+1)))] (hL [(3,.cells [.dM false (s.cs.length) (fD s.cs),.dM false (s.ro.length) (fo s.ro)]),(4,.cells [.di none 0 0 0,.di none 0 0 0,.str [],.int .i64 0,.bool false]),(5,.deep (List.take (m*2) (List.drop 0 cs)++[D.str n,D.str x]))]) 6)),
  ([((decide (Int.ofNat i<(Int.ofNat s.ro.length))),true),((ye n p),false),((!eG p n),true)],
   [((0:Int)<=Int.ofNat i/\Int.ofNat i<(Int.ofNat s.ro.length)),((fo s.ro).length=s.ro.length*2),(V.dw (dm (fo s.ro) (i*2) 2)=V.dw [D.str p,D.str q]),((0:Int)<=Int.ofNat i/\Int.ofNat i<(Int.ofNat s.ro.length)),((fo s.ro).length=s.ro.length*2),(V.dw (dm (fo s.ro) (i*2) 2)=V.dw [D.str p,D.str q]),((0:Int)<=Int.ofNat i/\Int.ofNat i<(Int.ofNat s.ro.length)),((fo s.ro).length=s.ro.length*2),(V.dw (dm (fo s.ro) (i*2) 2)=V.dw [D.str p,D.str q]),(0+m*2<=cs.length),(0<1),(eT (m+1) 2 32=true),BU i],
   .to .normal (eF [(1,.str n),(2,.str x),(3,.ptr (some (3,0))),(6,.ptr (some (4,0))),(8,.di (some (5,0)) (m+1) (m+1) 2),(9,.bool false),(10,.int .i64 (Int.ofNat (i+1)))] (hL [(3,.cells [.dM false (s.cs.length) (fD s.cs),.dM false (s.ro.length) (fo s.ro)]),(4,.cells [.di none 0 0 0,.di none 0 0 0,.str [],.int .i64 0,.bool false]),(5,.deep (List.take (m*2) (List.drop 0 cs)++[D.str p,D.str q]))]) 6)),
  ([((decide (Int.ofNat i<(Int.ofNat s.ro.length))),true),((ye n p),false),((!eG p n),false)],
   [((0:Int)<=Int.ofNat i/\Int.ofNat i<(Int.ofNat s.ro.length)),((fo s.ro).length=s.ro.length*2),(V.dw (dm (fo s.ro) (i*2) 2)=V.dw [D.str p,D.str q]),((0:Int)<=Int.ofNat i/\Int.ofNat i<(Int.ofNat s.ro.length)),((fo s.ro).length=s.ro.length*2),(V.dw (dm (fo s.ro) (i*2) 2)=V.dw [D.str p,D.str q]),BU i],
   .to .normal (eF [(1,.str n),(2,.str x),(3,.ptr (some (3,0))),(6,.ptr (some (4,0))),(8,.di (some (5,0)) m m 2),(9,.bool false),(10,.int .i64 (Int.ofNat (i+1)))] (hL [(3,.cells [.dM false (s.cs.length) (fD s.cs),.dM false (s.ro.length) (fo s.ro)]),(4,.cells [.di none 0 0 0,.di none 0 0 0,.str [],.int .i64 0,.bool false]),(5,.deep cs)]) 6)),
  ([((decide (Int.ofNat i<(Int.ofNat s.ro.length))),false)],
   [],
   .to (.exit 1) (eF [(1,.str n),(2,.str x),(3,.ptr (some (3,0))),(6,.ptr (some (4,0))),(8,.di (some (5,0)) m m 2),(9,.bool false),(10,.int .i64 (Int.ofNat i))] (hL [(3,.cells [.dM false (s.cs.length) (fD s.cs),.dM false (s.ro.length) (fo s.ro)]),(4,.cells [.di none 0 0 0,.di none 0 0 0,.str [],.int .i64 0,.bool false]),(5,.deep cs)]) 6))]
 :=cQ.of U U U
theorem agA(i:Nat):c7 ug [] 3 Tryz.f90 [] (de 6 zx) (Wf s n x m (.deep cs) true [(10,iW i)]) [([],
   [],
   .ret (.agg [.dM false (s.cs.length) (fD s.cs),.di (some (3,0)) m m 2,.str [],.int .i64 0,.bool true]) (hL [(3,.deep cs)]) 4)]
 :=cQ.of U U U
theorem agB(i:Nat):c7 ug [] 3 Tryz.f90 [] (de 6 zx) (Wf s n x m (.deep cs) false [(10,iW i)]) [([],
   [(0+m*2<=cs.length),(0<1),(eT (m+1) 2 32=true)],
   .ret (.agg [.dM false (s.cs.length) (fD s.cs),.di (some (3,0)) (m+1) (m+1) 2,.str [],.int .i64 0,.bool true]) (hL [(3,.deep (List.take (m*2) (List.drop 0 cs)++[D.str n,D.str x]))]) 4)]
 :=cQ.of U U U
end
end Go.Proofs.YtfihojpgobmmdaaGreatDoor
