/- The Chunk laws: the roots in order, the calls. No conditions. -/
import Derived.Test.YtfihojpgobmmdaaGreatDoorJointW17
import Derived.Test.YtfihojpgobmmdaaGreatDoorJointW15
set_option linter.unusedVariables false
set_option linter.unusedSimpArgs false
set_option linter.unusedSectionVars false
set_option maxRecDepth 20000
namespace Go.Proofs.YtfihojpgobmmdaaGreatDoor
open Go Go.Eng
theorem Od{a b c:aa}(h:a<=b)(k:b<=c):a<=c:=List.le_trans h k
theorem Oe(a b:aa):a<=b\/b<=a:=List.le_total a b
theorem IK{a b:aa}(h:a<=b)(k:b<=a):a=b:=List.le_antisymm h k
section
variable(l:List (aa))
theorem tF:List.Perm (iL l) l:=List.mergeSort_perm ..
theorem xL:(iL l).Pairwise (. <=·):=by
 have:=List.pairwise_mergeSort (le:=fun x y:aa=>decide (x<=y)) (fun a b c h k=>by simp only[bB]at *;exact Od h k) (fun a b=>by simp only[bS,bB];exact Oe a b) l;exact this.imp fun h=>aH h
end
theorem Rt{a b:List (aa)}(h:List.Perm a b):iL a=iL b:=
 List.Perm.eq_of_pairwise (le:=(. <=·)) (fun _ _ _ _ h k=>IK h k) (xL a) (xL b) (((tF a).trans h).trans (tF b).symm)
theorem E7:iL []=[]:=cG.1 (by rw[sj];rfl)
theorem Of(x:aa):iL [x]=[x]:=by
 have h:=tF [x];exact List.perm_singleton.1 h
theorem AU{a b:ae}(h:List.Perm a b):List.Perm (dH a) (dH b):=h.map _
theorem xM(a:ae):(dH a).length=a.length:=by unfold dH;rw[aY]
section
variable(cN cO:Nat)(b:aa)(fl nx lf:Int)(es rt:ae)
abbrev RKy(v:V)(h:Tr O)(n:Nat):Prop:=∃ks,List.Perm ks (dH rt)/\v=GJ 8 ks/\h=xK cN cO b fl nx lf es rt (AT 8 ks)/\n=nK 8 ks
theorem Ru(hk:za rt)(hl:rt.length<=1000000):fO ak 113 [eH,w88] (xK cN cO b fl nx lf es rt []) 8 (RKy cN cO b fl nx lf es rt):=by
 refine gB mo po Tryz.func113 (code:=QV) U U ?_;refine iJ  1 (XQ []) (alp cN cO b fl nx lf es rt) cQ ?_;show TG ak 8 Tryz.f113.ntmps Ag (eG [(1,w88),(2,P 8)] (hL (lK cN cO b fl nx lf es rt++[(8,.cells [eH])])) 9) _;refine cV U ?_;refine cV U ?_;refine fV (XQ []) (alq cN cO b fl nx lf es rt) (dI ?_);refine⟨cQ,fun s' dX=>?_⟩;have dX:eU 8 [2,6] s'=some (sKa cN cO b fl nx lf es rt):=dX;refine c6 dX ?_;refine fh (i:=0) U ?_;refine oe (gf:=88) (lb:=[.ptr (some (7,0))]) U U U U U (UX cN cO b fl nx lf es rt hk hl) ?_;rintro v h n ⟨iy,hp,rfl,rfl,rfl⟩;have Rv:=AU hp
 match DI:dH iy,Rv with
 | [],Rv=>
   refine⟨U,?_⟩;show TG ak 8 Tryz.f113.ntmps (dY Ag) _ _;refine fu (XQ []) (als cN cO b fl nx lf es rt) (dI ?_);exact⟨cQ,_,_,_,rfl,[],Rv,rfl,rfl,rfl⟩
 | [x],Rv=>
   refine⟨U,?_⟩;show TG ak 8 Tryz.f113.ntmps (dY Ag) _ _;refine fu (XQ []) (alv cN cO b fl nx lf es rt x) (dI ?_);exact⟨cQ,_,_,_,rfl,[x],Rv,rfl,rfl,rfl⟩
 |x::y::ks,Rv=>
  refine⟨U,?_⟩;show TG ak 8 Tryz.f113.ntmps (dY Ag) _ _;refine fu (XQ []) (alr cN cO b fl nx lf es rt (x::y::ks).length (strs (x::y::ks))) (dI ?_);exact⟨cQ,_,_,_,rfl,x::y::ks,Rv,rfl,rfl,rfl⟩
theorem UY(hk:za rt)(hl:rt.length<=1000000):fO ak 86 [w88] (xK cN cO b fl nx lf es rt []) 8 (RKy cN cO b fl nx lf es rt):=by
 refine gB mo po Tryz.func86 (code:=D7) U U ?_;refine iJ  1 (XQ []) (alw cN cO b fl nx lf es rt) cQ ?_;refine cV U ?_;refine pW 1 (s1:={ fr:=(AO [(0,w88)]).set 3 (some w88),h:=xK cN cO b fl nx lf es rt [],n:=8,gu:=[] }) (f:=113) (args:=[eH,w88]) U U U U U U (Ru cN cO b fl nx lf es rt hk hl) ?_;rintro v h n ⟨ks,hp,rfl,rfl,rfl⟩
 match ks,hp with
 | [],hp=>
   refine⟨(((AO [(0,w88)]).set 3 (some w88)).set 4 (some eH)),sC2 (xK cN cO b fl nx lf es rt []) 8 eH,U,U,?_⟩;obtain⟨L5,vY⟩:=aly cN cO b fl nx lf es rt;show TG ak 8 Tryz.f86.ntmps (dY (dh 1 D7)) _ _;refine ia (XQ []) mo _ U vY (dI ?_);exact⟨cQ,_,_,_,rfl,[],hp,rfl,rfl,rfl⟩
 | [x],hp=>
   refine⟨(((AO [(0,w88)]).set 3 (some w88)).set 4 (some (.di (some (8,0)) 1 1 1))),sC2 (xK cN cO b fl nx lf es rt [(8,.cells [.str x])]) 9 (.di (some (8,0)) 1 1 1),U,U,?_⟩;obtain⟨L5,vY⟩:=alz cN cO b fl nx lf es rt x;show TG ak 8 Tryz.f86.ntmps (dY (dh 1 D7)) _ _;refine ia (XQ []) mo _ U vY (dI ?_);exact⟨cQ,_,_,_,rfl,[x],hp,rfl,rfl,rfl⟩
 |x::y::ks,hp=>
  refine⟨(((AO [(0,w88)]).set 3 (some w88)).set 4 (some (.di (some (8,0)) (x::y::ks).length (x::y::ks).length 1))),sC2 (xK cN cO b fl nx lf es rt [(8,.deep (strs (x::y::ks)))]) 9 (.di (some (8,0)) (x::y::ks).length (x::y::ks).length 1),U,U,?_⟩;obtain⟨L5,vY⟩:=alx cN cO b fl nx lf es rt (x::y::ks).length (strs (x::y::ks));show TG ak 8 Tryz.f86.ntmps (dY (dh 1 D7)) _ _;refine ia (XQ []) mo _ U vY (dI ?_);exact⟨cQ,_,_,_,rfl,x::y::ks,hp,rfl,rfl,rfl⟩
theorem UZ{m:Nat}{ks:List (aa)}(h:2<=ks.length):GJ m ks= .di (some (m,0)) ks.length ks.length 1/\AT m ks=[(m,.deep (strs ks))]/\nK m ks=m+1:=by
 match ks,h with
 |x::y::ks,_=>exact⟨rfl,rfl,rfl⟩
theorem U0(hk:za rt)(hl:rt.length<1000000):cT ak 61 [w88] (xK cN cO b fl nx lf es rt []) 8 (GJ 8 (iL (dH rt))) (xK cN cO b fl nx lf es rt (AT 8 (iL (dH rt)))) (nK 8 (iL (dH rt))):=by
 refine cZ Tryz.func61 (code:=D6) U U ?_;refine iJ  1 (XQ []) (alA cN cO b fl nx lf es rt) cQ ?_;refine cV U ?_;refine pW 1 (s1:={ fr:=(AO [(0,w88)]).set 4 (some w88),h:=xK cN cO b fl nx lf es rt [],n:=8,gu:=[] }) (f:=86) (args:=[w88]) U U U U U U (UY cN cO b fl nx lf es rt hk (Nat.le_of_lt hl)) ?_;rintro v h n ⟨ks,hp,rfl,rfl,rfl⟩;rw[<- Rt hp];have iQ:ks.length<1000000:=by rw[hp.length_eq,xM];exact hl
 match ks,iQ with
 | [],_=>
   rw[E7];refine⟨(((AO [(0,w88)]).set 4 (some w88)).set 5 (some eH)),sS2 (xK cN cO b fl nx lf es rt []) 8 eH,U,U,?_⟩;show TG ak 8 Tryz.f61.ntmps (dh 2 D6) _ _;refine fu (XQ []) (alC cN cO b fl nx lf es rt) (dI ?_);exact⟨fun p hp=>by rw[aq]at hp;subst hp;decide,_,_,_,rfl,rfl,rfl,rfl⟩
 | [x],_=>
   rw[Of];refine⟨(((AO [(0,w88)]).set 4 (some w88)).set 5 (some (.di (some (8,0)) 1 1 1))),sS2 (xK cN cO b fl nx lf es rt [(8,.cells [.str x])]) 9 (.di (some (8,0)) 1 1 1),U,U,?_⟩;show TG ak 8 Tryz.f61.ntmps (dh 2 D6) _ _;refine fu (XQ []) (alD cN cO b fl nx lf es rt x) (dI ?_);exact⟨fun p hp=>by rw[aq]at hp;subst hp;decide,_,_,_,rfl,rfl,rfl,rfl⟩
 |x::y::ks,iQ=>
  obtain⟨z1,z2,z3⟩:=UZ (m:=8) (ks:=iL (x::y::ks)) (by rw[sj];simp);rw[z1,z2,z3,sj];refine⟨(((AO [(0,w88)]).set 4 (some w88)).set 5 (some (.di (some (8,0)) (x::y::ks).length (x::y::ks).length 1))),sS2 (xK cN cO b fl nx lf es rt [(8,.deep (strs (x::y::ks)))]) 9 (.di (some (8,0)) (x::y::ks).length (x::y::ks).length 1),U,U,?_⟩;show TG ak 8 Tryz.f61.ntmps (dh 2 D6) _ _;obtain⟨L5,vY⟩:=alB cN cO b fl nx lf es rt (x::y::ks).length (strs (x::y::ks)) (strs (iL (x::y::ks)));have hc:cT ak 87 [.di (some (8,0)) (x::y::ks).length (x::y::ks).length 1] (xK cN cO b fl nx lf es rt [(8,.deep (strs (x::y::ks)))]) 9 (.eo []) ((xK cN cO b fl nx lf es rt [(8,.deep (strs (x::y::ks)))]).set 8 (some (.deep (strs (iL (x::y::ks)))))) 9:=
   IE Ur (ss:=x::y::ks) U (au rfl) (Nat.succ_pos _) rfl iQ
  refine ia ((XQ []).ko (au U) hc) mo _ U vY (dI ?_);exact⟨fun p hp=>by rw[aq]at hp;subst hp;exact CV,_,_,_,rfl,rfl,rfl,rfl⟩
theorem GK(hk:za rt)(hl:rt.length<1000000):cT ak 23 [P3] (eu (pS cN cO b fl nx lf es rt)) 7 (GJ 7 (iL (dH rt))) (hKf cN cO b fl nx lf es rt (AT 7 (iL (dH rt)))) (nK 7 (iL (dH rt))):=by
 have h61:=U0 cN cO b fl nx lf es rt hk hl;refine cZ Tryz.func23 (code:=NY) U U ?_
 match DI:iL (dH rt),h61 with
 | [],h61=>
   refine fu ((XQ []).ko (au U) h61) (aeW cN cO b fl nx lf es rt) (dI ?_);exact⟨fun p hp=>by rw[aq]at hp;subst hp;exact CV,_,_,_,rfl,rfl,rfl,rfl⟩
 | [x],h61=>
   refine fu ((XQ []).ko (au U) h61) (aeX cN cO b fl nx lf es rt x) (dI ?_);exact⟨fun p hp=>by rw[aq]at hp;subst hp;exact CV,_,_,_,rfl,rfl,rfl,rfl⟩
 |x::y::ks,h61=>
  refine fu ((XQ []).ko (au U) h61) (aeV cN cO b fl nx lf es rt (x::y::ks).length (strs (x::y::ks))) (dI ?_);exact⟨fun p hp=>by rw[aq]at hp;subst hp;exact CV,_,_,_,rfl,rfl,rfl,rfl⟩
end
def g81:V:=.fn (.func 81) [] [.ptr (some (9,0))]
def g56:V:=.fn (.func 56) [] [.ptr (some (7,0))]
section
variable(cN cO:Nat)(b:aa)(fl nx lf:Int)(es rt:ae)(ks:List (aa))
def lS:af:=eN (pS cN cO b fl nx lf es rt)++[(7,.cells [P3]),(8,.dD none (nF ks)),(9,.cells [.map (some 8)])]
def lSx:af:=eN (pS cN cO b fl nx lf es rt)++[(7,.cells [P3]),(9,.cells [.map (some 8)])]
def sSa:St:=eG [(2,P 10),(6,g81)] (hL (lS cN cO b fl nx lf es rt ks++[(10,.cells [eH])])) 11
noncomputable def oSa:O:=.loop true none (sSa cN cO b fl nx lf es rt ks).fr [7] Uj Uk
noncomputable def XC(sl:V)(row:af):Tr O:=hL (lS cN cO b fl nx lf es rt ks++[(10,.cells [sl]),(11,.me),(12,oSa cN cO b fl nx lf es rt ks)]++row)
noncomputable def D9(sl:V)(row:af)(n:Nat):St:=eG [(0,.fn (.yield 12) [] []),(5,P 13)] (hL (lSx cN cO b fl nx lf es rt++[(10,.cells [sl]),(11,.me),(12,oSa cN cO b fl nx lf es rt ks)]++row)) n
def wQ(row:af):Tr O:=hL (lS cN cO b fl nx lf es rt ks++row)
end
section
variable(cN:Nat)(h:Tr O)(cO:Nat)(b:aa)(fl nx lf:Int)(n:Nat)(es rt:ae)(ks:List (aa))(k:aa)
theorem alE(v:V):c5 (kW []) [] 14 Tryz.f81 [0,5] ((si D4).rest) (Td (D9 cN cO b fl nx lf es rt ks eH [] 14) k v) [([],
   [],
   .to .normal (D9 cN cO b fl nx lf es rt ks (.di (some (14,0)) 1 1 1) [(14,.cells [.str k])] 15))]
 :=cP.of U U U
theorem alF(v:V)(n:Nat)(cs:ai):c5 (kW []) [] 14 Tryz.f81 [0,5] ((si D4).rest) (Td (D9 cN cO b fl nx lf es rt ks (.di (some (14,0)) n n 1) [(14,.deep cs)] 15) k v) [([],
   [(0+n*1<=cs.length),(0<1),(eP (n+1) 1 16=true)],
   .to .normal (eG [(0,.fn (.yield 12) [] []),(5,.ptr (some (13,0)))] (hL (eN (pS cN cO b fl nx lf es rt)++[(7,.cells [.ptr (some (3,0))]),(9,.cells [.map (some 8)]),(10,.cells [.di (some (14,0)) (n+1) (n+1) 1]),(11,.me),(12,.loop true none (Eng.AO [(2,.ptr (some (10,0))),(6,.fn (.func 81) [] [.ptr (some (9,0))])]) [7] Uj Uk),(14,.deep (List.take (n*1) (List.drop 0 cs)++[D.str k]))])) 15))]
 :=cP.of U U U
theorem alG:c5 (kW []) [] 10 Tryz.f100 [1,2] (eR 1 QU) (cR [eH,g81] (wQ cN cO b fl nx lf es rt ks []) 10) [([],
   [],
   .to .normal (eG [(1,g81),(2,P 10)] (hL (lS cN cO b fl nx lf es rt ks++[(10,.cells [eH])])) 11))]
 :=cP.of U U U
theorem alH:c5 (kW []) [] 10 Tryz.f100 [2,6] (dO (dO NW)) (eG [(1,g81),(2,P 10)] (hL (lS cN cO b fl nx lf es rt ks++[(10,.cells [eH])])) 11) [([],
   [],
   .to .normal (sSa cN cO b fl nx lf es rt ks))]
 :=cP.of U U U
theorem alI(n:Nat)(cs:ai):c5 (kW []) [] 10 Tryz.f100 [] (dY NW) (tx (sSa cN cO b fl nx lf es rt ks) (XC cN cO b fl nx lf es rt ks (.di (some (13,0)) n n 1) [(13,.deep cs)]) 14) [([],
   [],
   .ret (.di (some (10,0)) n n 1) (wQ cN cO b fl nx lf es rt ks [(10,.deep cs)]) 11)]
 :=cP.of U U U
theorem alJ:c5 (kW []) [] 10 Tryz.f100 [] (dY NW) (tx (sSa cN cO b fl nx lf es rt ks) (XC cN cO b fl nx lf es rt ks eH []) 13) [([],
   [],
   .ret (.di none 0 0 0) (wQ cN cO b fl nx lf es rt ks []) 10)]
 :=cP.of U U U
def sC8(v:V):St:={ fr:=((((AO [(0,g81)]).set 3 (some g81)).set 4 (some v)).set 2 (some v)),h:=h,n:=n,gu:=[] }
def sS8(v:V):St:={ fr:=((((AO [(0,g81),(1,g56)]).set 6 (some g81)).set 7 (some v)).set 5 (some v)),h:=h,n:=n,gu:=[] }
end
section
variable(cN cO:Nat)(b:aa)(fl nx lf:Int)(es rt:ae)(ks:List (aa))(n:Nat)(cs:ai)
theorem alK:c5 (kW []) [] 10 Tryz.f79 [0] (eR 1 KM) (cR [g81] (wQ cN cO b fl nx lf es rt ks []) 10) [([],
   [],
   .to .normal (eG [(0,g81)] (wQ cN cO b fl nx lf es rt ks []) 10))]
 :=cP.of U U U
theorem alL:c5 (kW []) [] 10 Tryz.f79 [] (dY (dh 1 KM)) (sC8 (wQ cN cO b fl nx lf es rt ks [(10,.deep cs)]) 11 (.di (some (10,0)) n n 1)) [([],
   [],
   .ret (.di (some (10,0)) n n 1) (wQ cN cO b fl nx lf es rt ks [(10,.deep cs)]) 11)]
 :=cP.of U U U
theorem alM:c5 (kW []) [] 10 Tryz.f79 [] (dY (dh 1 KM)) (sC8 (wQ cN cO b fl nx lf es rt ks []) 10 eH) [([],
   [],
   .ret (.di none 0 0 0) (wQ cN cO b fl nx lf es rt ks []) 10)]
 :=cP.of U U U
theorem alN:c5 (kW []) [] 10 Tryz.f54 [0,1] (eR 1 KL) (cR [g81,g56] (wQ cN cO b fl nx lf es rt ks []) 10) [([],
   [],
   .to .normal (eG [(0,g81),(1,g56)] (wQ cN cO b fl nx lf es rt ks []) 10))]
 :=cP.of U U U
theorem aeY(uW:ai):c5 (fK (kW []) 80 [.di (some (10,0)) n n 1,g56] (wQ cN cO b fl nx lf es rt ks [(10,.deep cs)]) 11 (.eo [],(wQ cN cO b fl nx lf es rt ks [(10,.deep cs)]).set 10 (some (.deep uW)),11)) [] 10 Tryz.f54 [] (dh 2 KL) (sS8 (wQ cN cO b fl nx lf es rt ks [(10,.deep cs)]) 11 (.di (some (10,0)) n n 1)) [([],
   [([V.di (some (10,0)) n n 1,g56]=[V.di (some (10,0)) n n 1,g56]/\wQ cN cO b fl nx lf es rt ks [(10,.deep cs)]=wQ cN cO b fl nx lf es rt ks [(10,.deep cs)]/\11=11)],
   .ret (.di (some (10,0)) n n 1) (wQ cN cO b fl nx lf es rt ks [(10,.deep uW)]) 11)]
 :=cP.of U U U
theorem aeZ:c5 (kW []) [] 10 Tryz.f54 [] (dh 2 KL) (sS8 (wQ cN cO b fl nx lf es rt ks []) 10 eH) [([],
   [((0:Int)<=(0:Int)/\0<256)],
   .ret (.di none 0 0 0) (wQ cN cO b fl nx lf es rt ks []) 10)]
 :=cP.of U U U
end
def rY(m:Nat):List (aa)->af
 | []=>[]
 |ks=>[(m,.deep (strs ks))]
theorem Rw(ks:List (aa)):dH (nF ks)=ks:=by
 unfold dH nF;rw[List.map_map];exact List.map_id'' (fun _=>rfl) ks
section
variable(cN cO:Nat)(b:aa)(fl nx lf:Int)(es rt:ae)(ks:List (aa))
def JSk(iy:ae)(s1:St):Prop:=za iy/\KD 14 Tryz.f81.ntmps s1 (D9 cN cO b fl nx lf es rt ks (GJ 14 (dH iy)) (rY 14 (dH iy)) (nK 14 (dH iy)))
abbrev RSk(v:V)(h:Tr O)(n:Nat):Prop:=∃ls,List.Perm ls ks/\v= .eo []/\h=XC cN cO b fl nx lf es rt ks (GJ 13 ls) (rY 13 ls)/\n=nK 13 ls
theorem U1(hl:ks.length<=1000000):fO ak 81 [.fn (.yield 12) [] [],P 9] (XC cN cO b fl nx lf es rt ks eH []) 13 (RSk cN cO b fl nx lf es rt ks):=by
 refine gB mo po Tryz.func81 (code:=D4) U U ?_;rw[adX];have G2:(nF ks).length=ks.length:=by unfold nF;rw[aY]
 refine Iv (v0:=.map (some 8)) (jY:=(cR [.fn (.yield 12) [] [],P 9] (XC cN cO b fl nx lf es rt ks eH []) 13).fr.set 4 (some (.map (some 8)))) (zB:=((cR [.fn (.yield 12) [] [],P 9] (XC cN cO b fl nx lf es rt ks eH []) 13).fr.set 4 (some (.map (some 8)))).set 5 (some (P 13))) (m:=8) (kd:=none) (es:=nF ks) mo Ma
  U U U U (au rfl) U (JSk cN cO b fl nx lf es rt ks) ⟨(fun _ h=>by cases h),.norm (L:=[0,5]) U⟩ ?_
 rintro iy left s1 ⟨hv,hs⟩ hp;have iQ:iy.length<=1000000:=by
  have:=hp.length_eq;rw[ax]at this;omega
 have xo:∀e j9,List.Perm left (e::j9)->∃k,e=(.str k,.bool true):=fun e j9 he=>by
  obtain⟨k,_,h⟩:=bA.1 (hp.mem_iff.1 (bZ _ (he.mem_iff.2 (aP ..))));exact⟨k,h.symm⟩
 have rq:left=[]->List.Perm (dH iy) ks:=fun h=>by
  subst h;rw[ct]at hp;have:=AU hp;rwa [Rw]at this
 have pg:∀k,dH (iy++[(.str k,.bool true)])=dH iy++[k]:=fun k=>by unfold dH;rw[aX];rfl
 have hkv:∀k,za (iy++[(.str k,.bool true)]):=fun k z hz=>by
  rcases aU.1 hz with hz|hz
  . exact hv z hz
  . rw[aq]at hz;subst hz;exact⟨k,rfl⟩
 have OT:(dH iy).length<=1000000:=by rw[xM];exact iQ
 have hJ:∀k s',KD 14 Tryz.f81.ntmps s' (D9 cN cO b fl nx lf es rt ks (GJ 14 (dH iy++[k])) (rY 14 (dH iy++[k])) (nK 14 (dH iy++[k])))->JSk cN cO b fl nx lf es rt ks (iy++[(.str k,.bool true)]) s':=fun k s' h=>⟨hkv k,by rw[pg];exact h⟩;generalize dH iy=ls at *;cases ls with
 |nil=>
  refine⟨_,hs,U,fun h0=>?_,fun e j9 he=>?_⟩
  . refine⟨(D9 cN cO b fl nx lf es rt ks eH [] 14).fr.set 6 (some (.eo [.bool false])),{ D9 cN cO b fl nx lf es rt ks eH [] 14 with fr:=((D9 cN cO b fl nx lf es rt ks eH [] 14).fr.set 6 (some (.eo [.bool false]))).set 7 (some (.bool false)) },U,U,U,.inl rfl,.eo [],XC cN cO b fl nx lf es rt ks eH [],13,U,[],rq h0,rfl,rfl,rfl⟩
  . obtain⟨k,rfl⟩:=xo e j9 he;refine⟨(D9 cN cO b fl nx lf es rt ks eH [] 14).fr.set 6 (some (.eo [.bool true,.str k,.bool true])),{ D9 cN cO b fl nx lf es rt ks eH [] 14 with fr:=((D9 cN cO b fl nx lf es rt ks eH [] 14).fr.set 6 (some (.eo [.bool true,.str k,.bool true]))).set 7 (some (.bool true)) },
     (((D9 cN cO b fl nx lf es rt ks eH [] 14).fr.set 6 (some (.eo [.bool true,.str k,.bool true]))).set 7 (some (.bool true))).set 8 (some (.eo [.str k,.bool true])),Td (D9 cN cO b fl nx lf es rt ks eH [] 14) k (.bool true),U,U,U,U,U,U,U,U,?_⟩
    refine fV (XQ []) (alE cN cO b fl nx lf es rt ks k (.bool true)) (dI ?_);exact⟨cQ,fun s' dX=>hJ k s' ((KD.norm dX).trans (.deep [14] U))⟩
 |cons y ys=>
  have h1:∀m,rY m (y::ys)=[(m,.deep (strs (y::ys)))]/\GJ m (y::ys)= .di (some (m,0)) (y::ys).length (y::ys).length 1/\nK m (y::ys)=m+1:=fun m=>⟨rfl,rfl,rfl⟩;have h2:∀m k,rY m (y::ys++[k])=[(m,.deep (strs (y::ys++[k])))]/\GJ m (y::ys++[k])= .di (some (m,0)) (y::ys++[k]).length (y::ys++[k]).length 1/\nK m (y::ys++[k])=m+1:=fun m k=>⟨rfl,rfl,rfl⟩;have h3:0<(y::ys).length:=Nat.succ_pos _;generalize y::ys=ls at *;rw[(h1 14).1,(h1 14).2.1,(h1 14).2.2]at hs;refine⟨_,hs,U,fun h0=>?_,fun e j9 he=>?_⟩
  . refine⟨(D9 cN cO b fl nx lf es rt ks (.di (some (14,0)) ls.length ls.length 1) [(14,.deep (strs ls))] 15).fr.set 6 (some (.eo [.bool false])),{ D9 cN cO b fl nx lf es rt ks (.di (some (14,0)) ls.length ls.length 1) [(14,.deep (strs ls))] 15 with fr:=((D9 cN cO b fl nx lf es rt ks (.di (some (14,0)) ls.length ls.length 1) [(14,.deep (strs ls))] 15).fr.set 6 (some (.eo [.bool false]))).set 7 (some (.bool false)) },U,U,U,.inl rfl,.eo [],XC cN cO b fl nx lf es rt ks (.di (some (13,0)) ls.length ls.length 1) [(13,.deep (strs ls))],14,U,ls,rq h0,rfl,?_,?_⟩
    . rw[(h1 13).1,(h1 13).2.1]
    . rw[(h1 13).2.2]
  . obtain⟨k,rfl⟩:=xo e j9 he;refine⟨(D9 cN cO b fl nx lf es rt ks (.di (some (14,0)) ls.length ls.length 1) [(14,.deep (strs ls))] 15).fr.set 6 (some (.eo [.bool true,.str k,.bool true])),{ D9 cN cO b fl nx lf es rt ks (.di (some (14,0)) ls.length ls.length 1) [(14,.deep (strs ls))] 15 with fr:=((D9 cN cO b fl nx lf es rt ks (.di (some (14,0)) ls.length ls.length 1) [(14,.deep (strs ls))] 15).fr.set 6 (some (.eo [.bool true,.str k,.bool true]))).set 7 (some (.bool true)) },
     (((D9 cN cO b fl nx lf es rt ks (.di (some (14,0)) ls.length ls.length 1) [(14,.deep (strs ls))] 15).fr.set 6 (some (.eo [.bool true,.str k,.bool true]))).set 7 (some (.bool true))).set 8 (some (.eo [.str k,.bool true])),Td (D9 cN cO b fl nx lf es rt ks (.di (some (14,0)) ls.length ls.length 1) [(14,.deep (strs ls))] 15) k (.bool true),U,U,U,U,U,U,U,U,?_⟩
    refine fV (XQ []) (alF cN cO b fl nx lf es rt ks k (.bool true) ls.length (strs ls)) (dI ?_);refine⟨fm (by rw[eI];omega) (fm dN (e9 (pM be))),fun s' dX=>hJ k s' ?_⟩;have e:List.take (ls.length*1) (List.drop 0 (strs ls))++[D.str k]=strs (ls++[k]):=by
     rw[bu,bj,bq (by rw[eI];omega)];unfold strs;rw[aX];rfl
    rw[e]at dX;rw[(h2 14 k).1,(h2 14 k).2.1,(h2 14 k).2.2,ax];exact .norm dX
abbrev RSe(v:V)(h:Tr O)(n:Nat):Prop:=∃ls,List.Perm ls ks/\v=GJ 10 ls/\h=wQ cN cO b fl nx lf es rt ks (rY 10 ls)/\n=nK 10 ls
theorem Rx(hl:ks.length<=1000000):fO ak 100 [eH,g81] (wQ cN cO b fl nx lf es rt ks []) 10 (RSe cN cO b fl nx lf es rt ks):=by
 refine gB mo po Tryz.func100 (code:=QU) U U ?_;refine iJ  1 (XQ []) (alG cN cO b fl nx lf es rt ks) cQ ?_;refine cV U ?_;refine cV U ?_;refine fV (XQ []) (alH cN cO b fl nx lf es rt ks) (dI ?_);refine⟨cQ,fun s' dX=>c6 dX ?_⟩;refine fh (i:=0) U ?_;refine oe (gf:=81) (lb:=[P 9]) U U U U U (U1 cN cO b fl nx lf es rt ks hl) ?_;rintro v h n ⟨ls,hp,rfl,rfl,rfl⟩;cases ls with
 |nil=>
  refine⟨U,?_⟩;refine fu (XQ []) (alJ cN cO b fl nx lf es rt ks) (dI ?_);exact⟨cQ,_,_,_,rfl,[],hp,rfl,rfl,rfl⟩
 |cons x xs=>
  refine⟨U,?_⟩;refine fu (XQ []) (alI cN cO b fl nx lf es rt ks (x::xs).length (strs (x::xs))) (dI ?_);exact⟨cQ,_,_,_,rfl,x::xs,hp,rfl,rfl,rfl⟩
theorem U2(hl:ks.length<=1000000):fO ak 79 [g81] (wQ cN cO b fl nx lf es rt ks []) 10 (RSe cN cO b fl nx lf es rt ks):=by
 refine gB mo po Tryz.func79 (code:=KM) U U ?_;refine iJ  1 (XQ []) (alK cN cO b fl nx lf es rt ks) cQ ?_;refine cV U ?_;refine pW 1 (s1:={ fr:=(AO [(0,g81)]).set 3 (some g81),h:=wQ cN cO b fl nx lf es rt ks [],n:=10,gu:=[] }) (f:=100) (args:=[eH,g81]) U U U U U U (Rx cN cO b fl nx lf es rt ks hl) ?_;rintro v h n ⟨ls,hp,rfl,rfl,rfl⟩;cases ls with
 |nil=>
  refine⟨(((AO [(0,g81)]).set 3 (some g81)).set 4 (some eH)),sC8 (wQ cN cO b fl nx lf es rt ks []) 10 eH,U,U,?_⟩;refine fu (XQ []) (alM cN cO b fl nx lf es rt ks) (dI ?_);exact⟨cQ,_,_,_,rfl,[],hp,rfl,rfl,rfl⟩
 |cons x xs=>
  refine⟨(((AO [(0,g81)]).set 3 (some g81)).set 4 (some (.di (some (10,0)) (x::xs).length (x::xs).length 1))),sC8 (wQ cN cO b fl nx lf es rt ks [(10,.deep (strs (x::xs)))]) 11 (.di (some (10,0)) (x::xs).length (x::xs).length 1),U,U,?_⟩;refine fu (XQ []) (alL cN cO b fl nx lf es rt ks (x::xs).length (strs (x::xs))) (dI ?_);exact⟨cQ,_,_,_,rfl,x::xs,hp,rfl,rfl,rfl⟩
theorem U3(zs:List (aa))(hl:ks.length<1000000)(wu:Xv es)(hn:∀x,0<=jE es x/\jE es x<1000000000)(hz:List.Perm zs ks)(hs:zs.Pairwise fun a b=>jE es a<jE es b):
  cT ak 54 [g81,g56] (wQ cN cO b fl nx lf es rt ks []) 10 (GJ 10 zs) (wQ cN cO b fl nx lf es rt ks (rY 10 zs)) (nK 10 zs):=by
 refine cZ Tryz.func54 (code:=KL) U U ?_;refine iJ  1 (XQ []) (alN cN cO b fl nx lf es rt ks) cQ ?_;refine cV U ?_;refine pW 1 (s1:={ fr:=(AO [(0,g81),(1,g56)]).set 6 (some g81),h:=wQ cN cO b fl nx lf es rt ks [],n:=10,gu:=[] }) (f:=79) (args:=[g81]) U U U U U U (U2 cN cO b fl nx lf es rt ks (Nat.le_of_lt hl)) ?_;rintro v h n ⟨ls,hp,rfl,rfl,rfl⟩;have GZ:List.Perm zs ls:=hz.trans hp.symm;have iQ:ls.length<1000000:=by rw[hp.length_eq];exact hl
 cases ls with
 |nil=>
  have:zs=[]:=GZ.eq_nil;subst this;refine⟨(((AO [(0,g81),(1,g56)]).set 6 (some g81)).set 7 (some eH)),sS8 (wQ cN cO b fl nx lf es rt ks []) 10 eH,U,U,?_⟩;refine fu (XQ []) (aeZ cN cO b fl nx lf es rt ks) (dI ?_);exact⟨e9 ⟨dN,dN⟩,_,_,_,rfl,rfl,rfl,rfl⟩
 |cons x xs=>
  have hzn:zs.length=(x::xs).length:=GZ.length_eq;have h1:GJ 10 zs= .di (some (10,0)) zs.length zs.length 1/\rY 10 zs=[(10,.deep (strs zs))]/\nK 10 zs=11:=by
   cases zs with
   |nil=>cases hzn
   |cons z zs=>exact⟨rfl,rfl,rfl⟩
  rw[h1.1,h1.2.1,h1.2.2,hzn];refine⟨(((AO [(0,g81),(1,g56)]).set 6 (some g81)).set 7 (some (.di (some (10,0)) (x::xs).length (x::xs).length 1))),sS8 (wQ cN cO b fl nx lf es rt ks [(10,.deep (strs (x::xs)))]) 11 (.di (some (10,0)) (x::xs).length (x::xs).length 1),U,U,?_⟩;obtain⟨L5,vY⟩:=aeY cN cO b fl nx lf es rt ks (x::xs).length (strs (x::xs)) (strs zs);have hc:cT ak 80 [.di (some (10,0)) (x::xs).length (x::xs).length 1,g56] (wQ cN cO b fl nx lf es rt ks [(10,.deep (strs (x::xs)))]) 11 (.eo []) ((wQ cN cO b fl nx lf es rt ks [(10,.deep (strs (x::xs)))]).set 10 (some (.deep (strs zs)))) 11:=
   ZX (bx:=7) (st:=3) (c:=5) (cs:=xC 4 5 6 (pS cN cO b fl nx lf es rt)) (x::xs) zs U dN U U rfl U wu hn (Nat.succ_pos _) iQ GZ hs dN dN dN
  refine ia ((XQ []).ko (au U) hc) mo _ U vY (dI ?_);exact⟨e9 ⟨rfl,rfl,rfl⟩,_,_,_,rfl,rfl,rfl,rfl⟩
end
noncomputable abbrev hd4:Code:=eR 4 NX
noncomputable abbrev Tf:Code:=dh 4 NX
noncomputable abbrev GL:Code:=dh 5 NX
section
variable(cN cO:Nat)(b:aa)(fl nx lf:Int)(es rt:ae)(ks:List (aa))
def lH1:af:=lC cN cO b fl nx lf es rt
def lH2:af:=lC cN cO b fl nx lf es rt++[(20,.dD none (nF ks))]
def lH3(row:af):af:=lC cN cO b fl nx lf es rt++[(20,.dD none (nF ks)),(21,.cells [.map (some 20)])]++row
end
section
variable(cN cO:Nat)(b:aa)(fl nx lf:Int)(es rt:ae)(ks:List (aa))
theorem alR(n:Nat)(cs:ai):c5 (fK (fK (kW []) 51 [P3,v78] (hL (lH1 cN cO b fl nx lf es rt)) 20 (.map (some 20),hL (lH2 cN cO b fl nx lf es rt ks),21)) 54 [v81,v56] (hL (lH3 cN cO b fl nx lf es rt ks [])) 22 (.di (some (22,0)) n n 1,hL (lH3 cN cO b fl nx lf es rt ks [(22,.deep cs)]),23)) [] 7 Tryz.f19 [1,3,4] (hd4) (cR [P3] (eu (pS cN cO b fl nx lf es rt)) 7) [([],
   [fG [.ptr (some (3,0)),.fn (.func 78) [] [.ptr (some (19,0))]] (hL (eN (pS cN cO b fl nx lf es rt)++[(7,.cells [.ptr (some (3,0))]),(19,.cells [.map (some 6)])])) 20,fG [.fn (.func 81) [] [.ptr (some (21,0))],.fn (.func 56) [] [.ptr (some (7,0))]] (hL (eN (pS cN cO b fl nx lf es rt)++[(7,.cells [.ptr (some (3,0))]),(19,.cells [.map (some 6)]),(20,.dD none (nF ks)),(21,.cells [.map (some 20)])])) 22],
   .to .normal (eG [(1,.ptr (some (7,0))),(3,.di (some (8,0)) n n 1),(4,.di none 0 0 0)] (hL (eN (pS cN cO b fl nx lf es rt)++[(7,.cells [.ptr (some (3,0))]),(8,.deep cs)])) 9))]
 :=cP.of U U U
theorem alS:c5 (fK (fK (kW []) 51 [P3,v78] (hL (lH1 cN cO b fl nx lf es rt)) 20 (.map (some 20),hL (lH2 cN cO b fl nx lf es rt ks),21)) 54 [v81,v56] (hL (lH3 cN cO b fl nx lf es rt ks [])) 22 (eH,hL (lH3 cN cO b fl nx lf es rt ks []),22)) [] 7 Tryz.f19 [1,3,4] (hd4) (cR [P3] (eu (pS cN cO b fl nx lf es rt)) 7) [([],
   [fG [.ptr (some (3,0)),.fn (.func 78) [] [.ptr (some (19,0))]] (hL (eN (pS cN cO b fl nx lf es rt)++[(7,.cells [.ptr (some (3,0))]),(19,.cells [.map (some 6)])])) 20,fG [.fn (.func 81) [] [.ptr (some (21,0))],.fn (.func 56) [] [.ptr (some (7,0))]] (hL (eN (pS cN cO b fl nx lf es rt)++[(7,.cells [.ptr (some (3,0))]),(19,.cells [.map (some 6)]),(20,.dD none (nF ks)),(21,.cells [.map (some 20)])])) 22],
   .to .normal (eG [(1,.ptr (some (7,0))),(3,.di none 0 0 0),(4,.di none 0 0 0)] (hL (eN (pS cN cO b fl nx lf es rt)++[(7,.cells [.ptr (some (3,0))])])) 8))]
 :=cP.of U U U
end
section
variable(cN cO:Nat)(b:aa)(fl nx lf:Int)(es rt:ae)(zs:List (aa))(i:Nat)(bs:aa)
def aap:St:=eG [(1,P 7),(4,eH),(26,.di (some (8,0)) zs.length zs.length 1),(27,.int .i64 (Int.ofNat zs.length)),(28,.int .i64 0)] (hL (eN (pS cN cO b fl nx lf es rt)++[(7,.cells [P3]),(8,.deep (strs zs))])) 9
def sHk:St:=eG [(1,P 7),(4,.di (some (8,0)) bs.length bs.length 1),(26,.di (some (9,0)) zs.length zs.length 1),(27,.int .i64 (Int.ofNat zs.length)),(28,.int .i64 (Int.ofNat i))] (hL (eN (pS cN cO b fl nx lf es rt)++[(7,.cells [P3]),(8,.iS 5 false bs),(9,.deep (strs zs))])) 10
def sHe:St:=eG [(1,P 7),(4,.di (some (8,0)) bs.length bs.length 1)] (hL (eN (pS cN cO b fl nx lf es rt)++[(7,.cells [P3]),(8,.iS 5 false bs)])) 9
def sHn:St:=eG [(1,P 7),(4,eH)] (hL (eN (pS cN cO b fl nx lf es rt)++[(7,.cells [P3])])) 8
end
section
variable(cN cO:Nat)(b:aa)(es:ae)(fl:Int)(x:aa)(nx lf:Int)
theorem alU(es rt:ae)(zs:List (aa)):c5 (kW []) [(28,.c9 (.int .i64 (Int.ofNat 0)))] 7 Tryz.f19 [1,4,26,27,28] (dO (dO Tf)) (eG [(1,P 7),(3,.di (some (8,0)) zs.length zs.length 1),(4,eH)] (hL (eN (pS cN cO b fl nx lf es rt)++[(7,.cells [P3]),(8,.deep (strs zs))])) 9) [([],
   [(V.int aj (0:Int)=V.int aj (0:Int))],
   .to .normal (aap cN cO b fl nx lf es rt zs))]
 :=cP.of U U U
abbrev Ry(d:aa)(rs:List (aa))(k:Int):Prop:=(if false=true then V.eo [D.fS (V.agg [V.str ([]:aa),V.di none 0 0 0,V.int aj (0:Int)]) (dc (D.str x) es),V.bool (dc (D.str x) es).isSome]else D.fS (V.agg [V.str ([]:aa),V.di none 0 0 0,V.int aj (0:Int)]) (dc (D.str x) es))=od d rs k
theorem alV(es rt:ae)(zs:List (aa))(x d:aa)(rs:List (aa))(k:Int):c5 AR [(29,.split),(31,.c9 (.str x)),(38,.c9 (od d rs k)),(45,.c9 (od d rs k))] 7 Tryz.f19 [1,4,26,27,28] (dr (dr (dY (dO Tf)))) (aap cN cO b fl nx lf es rt zs) [([((decide ((0:Int)<Int.ofNat zs.length)),true)],
   [((0:Int)<=(0:Int)/\(0:Int)<(Int.ofNat zs.length)),(0<(strs zs).length),(((strs zs).getD 0 D.um).iH=V.str x),Ry es x d rs k,Ry es x d rs k,(strs rs=strs (dF (strs rs))),(rs.length=(dF (strs rs)).length),(d.length<=100000000),(rs.length<=1000000),((dF (strs rs)).flatten.length<=100000000),(0<(gJ d (dF (strs rs))).length),(eP (gJ d (dF (strs rs))).length 1 1=true)],
   .to .normal (eG [(1,.ptr (some (7,0))),(4,.di (some (8,0)) ((gJ d (dF (strs rs))).length) ((gJ d (dF (strs rs))).length) 1),(26,.di (some (9,0)) (zs.length) (zs.length) 1),(27,.int .i64 (Int.ofNat zs.length)),(28,.int .i64 1)] (hL (eN (pS cN cO b fl nx lf es rt)++[(7,.cells [.ptr (some (3,0))]),(8,.iS 5 false (gJ d (dF (strs rs)))),(9,.deep (strs zs))])) 10)),
  ([((decide ((0:Int)<Int.ofNat zs.length)),false)],
   [],
   .to (.exit 0) (eG [(1,.ptr (some (7,0))),(4,.di none 0 0 0),(26,.di (some (8,0)) (zs.length) (zs.length) 1),(27,.int .i64 (Int.ofNat zs.length)),(28,.int .i64 0)] (hL (eN (pS cN cO b fl nx lf es rt)++[(7,.cells [.ptr (some (3,0))]),(8,.deep (strs zs))])) 9))]
 :=cP.of U U U
abbrev Rz(d:aa)(rs:List (aa))(k:Int):Prop:=(if false=true then V.eo [D.fS (V.agg [V.str ([]:aa),V.di none 0 0 0,V.int aj (0:Int)]) (dc (D.str x) es),V.bool (dc (D.str x) es).isSome]else D.fS (V.agg [V.str ([]:aa),V.di none 0 0 0,V.int aj (0:Int)]) (dc (D.str x) es))=od d rs k
end
section
variable(cN cO:Nat)(b:aa)(fl nx lf:Int)(es rt:ae)
theorem alW(zs:List (aa))(i:Nat)(x d:aa)(rs:List (aa))(k:Int)(bs:aa):c5 AR [(29,.split),(31,.c9 (.str x)),(38,.c9 (od d rs k)),(45,.c9 (od d rs k)),(49,.c9 (.int .i64 (Int.ofNat (i+1))))] 7 Tryz.f19 [1,4,26,27,28] (dr (dr (dY (dO Tf)))) (sHk cN cO b fl nx lf es rt zs i bs) [([((decide (Int.ofNat i<Int.ofNat zs.length)),true)],
   [((0:Int)<=Int.ofNat i/\Int.ofNat i<(Int.ofNat zs.length)),(0+i*1<(strs zs).length),(((strs zs).getD (0+i*1) D.um).iH=V.str x),Rz es x d rs k,Rz es x d rs k,(strs rs=strs (dF (strs rs))),(rs.length=(dF (strs rs)).length),(d.length<=100000000),(rs.length<=1000000),((dF (strs rs)).flatten.length<=100000000),(0<bs.length),(bs.length=bs.length),(eP (bs.length+(gJ d (dF (strs rs))).length) 1 1=true),kM (Int.ofNat i+(1:Int)) (i+1)],
   .to .normal (eG [(1,.ptr (some (7,0))),(4,.di (some (8,0)) (bs.length+(gJ d (dF (strs rs))).length) (bs.length+(gJ d (dF (strs rs))).length) 1),(26,.di (some (9,0)) (zs.length) (zs.length) 1),(27,.int .i64 (Int.ofNat zs.length)),(28,.int .i64 (Int.ofNat (i+1)))] (hL (eN (pS cN cO b fl nx lf es rt)++[(7,.cells [.ptr (some (3,0))]),(8,.iS 5 false (bs++eM (dP (gJ d (dF (strs rs)))))),(9,.deep (strs zs))])) 10)),
  ([((decide (Int.ofNat i<Int.ofNat zs.length)),false)],
   [],
   .to (.exit 0) (eG [(1,.ptr (some (7,0))),(4,.di (some (8,0)) (bs.length) (bs.length) 1),(26,.di (some (9,0)) (zs.length) (zs.length) 1),(27,.int .i64 (Int.ofNat zs.length)),(28,.int .i64 (Int.ofNat i))] (hL (eN (pS cN cO b fl nx lf es rt)++[(7,.cells [.ptr (some (3,0))]),(8,.iS 5 false bs),(9,.deep (strs zs))])) 10))]
 :=cP.of U U U
theorem alX(zs:List (aa))(i:Nat)(bs:aa):c5 AR [(29,.c9 (.bool false))] 7 Tryz.f19 [1,4] (dr (dr (dY (dO Tf)))) (sHk cN cO b fl nx lf es rt zs i bs) [([],
   [(V.bool (decide (Int.ofNat i<Int.ofNat zs.length))=V.bool false)],
   .to (.exit 0) (eG [(1,.ptr (some (7,0))),(4,.di (some (8,0)) (bs.length) (bs.length) 1)] (hL (eN (pS cN cO b fl nx lf es rt)++[(7,.cells [.ptr (some (3,0))]),(8,.iS 5 false bs)])) 9))]
 :=cP.of U U U
theorem alY:c5 (kW []) [] 7 Tryz.f19 [1,4] (dO Tf) (eG [(1,P 7),(3,eH),(4,eH)] (hL (eN (pS cN cO b fl nx lf es rt)++[(7,.cells [P3])])) 8) [([],
   [],
   .to .normal (sHn cN cO b fl nx lf es rt))]
 :=cP.of U U U
end
section
variable(cN cO:Nat)(b:aa)(fl nx lf:Int)(es rt:ae)(zs:List (aa))(i:Nat)(bs:aa)
def lHe:af:=eN (pS cN cO b fl nx lf es rt)++[(7,.cells [P3]),(8,.iS 5 false bs)]
def sHr:St:=eG [(1,P 7),(4,.di (some (8,0)) bs.length bs.length 1),(51,.di (some (9,0)) zs.length zs.length 1),(52,.int .i64 (Int.ofNat zs.length)),(53,.int .i64 (Int.ofNat i))] (hL (eN (pS cN cO b fl nx lf es rt)++[(7,.cells [P3]),(8,.iS 5 false bs),(9,.deep (strs zs))])) 10
end
section
variable(b:aa)(nx lf:Int)(es rt:ae)(bs:aa)
def l3b(fl:Int):af:=[(0,.ints .u32 gS),(1,.ints .u32 gR),(3,.cells [.di (some (7,0)) bs.length bs.length 1,.int .i64 fl,.map (some 5),.map (some 6),.int .i64 nx,.bool false,.bool false,.int .i64 lf]),(4,.iS 5 false b),(5,.dD none es),(6,.dD none rt),(7,.iS 5 false bs),(8,.cells [P3])]
def l3r(m:Nat)(c:af)(IL:Int)(mE mP:ae):af:=[(0,.ints .u32 gS),(1,.ints .u32 gR),(3,.cells [.di (some (7,0)) bs.length bs.length 1,.int .i64 (Int.ofNat bs.length),.map (some m),.map (some (m+1)),.int .i64 IL,.bool false,.bool false,.int .i64 lf]),(4,.iS 5 false b),(5,.dD none es),(6,.dD none rt),(7,.iS 5 false bs)]++c++[(m,.dD none mE),(m+1,.dD none mP)]
def l3e:af:=[(0,.ints .u32 gS),(1,.ints .u32 gR),(3,.cells [eH,.int .i64 0,.map (some 5),.map (some 6),.int .i64 nx,.bool false,.bool false,.int .i64 lf]),(4,.iS 5 false b),(5,.dD none es),(6,.dD none []),(7,.cells [P3])]
def l3f(m:Nat)(c:af):af:=[(0,.ints .u32 gS),(1,.ints .u32 gR),(3,.cells [eH,.int .i64 0,.map (some m),.map (some (m+1)),.int .i64 0,.bool false,.bool false,.int .i64 lf]),(4,.iS 5 false b),(5,.dD none es),(6,.dD none [])]++c++[(m,.dD none []),(m+1,.dD none [])]
end
section
variable(cN cO:Nat)(b:aa)(fl nx lf:Int)(es rt:ae)(bs x:aa)
theorem alZ(zs:List (aa))(bs:aa):c5 (fK AR 23 [P3] (hL (lHe cN cO b fl nx lf es rt bs)) 9 (.di (some (9,0)) zs.length zs.length 1,hL (lHe cN cO b fl nx lf es rt bs++[(9,.deep (strs zs))]),10)) [(53,.c9 (.int .i64 (Int.ofNat 0)))] 7 Tryz.f19 [1,4,51,52,53] (dO (dO GL)) (sHe cN cO b fl nx lf es rt bs) [([],
   [fG [.ptr (some (3,0))] (hL (eN (pS cN cO b fl nx lf es rt)++[(7,.cells [.ptr (some (3,0))]),(8,.iS 5 false bs)])) 9,(V.int aj (0:Int)=V.int aj (0:Int))],
   .to .normal (eG [(1,.ptr (some (7,0))),(4,.di (some (8,0)) (bs.length) (bs.length) 1),(51,.di (some (9,0)) (zs.length) (zs.length) 1),(52,.int .i64 ((Int.ofNat zs.length))),(53,.int .i64 0)] (hL (eN (pS cN cO b fl nx lf es rt)++[(7,.cells [.ptr (some (3,0))]),(8,.iS 5 false bs),(9,.deep (strs zs))])) 10))]
 :=cP.of U U U
theorem ae0(bs:aa):c5 (fK AR 23 [P3] (hL (lHe cN cO b fl nx lf es rt bs)) 9 (.di (some (9,0)) 1 1 1,hL (lHe cN cO b fl nx lf es rt bs++[(9,.cells [.str x])]),10)) [(53,.c9 (.int .i64 (Int.ofNat 0)))] 7 Tryz.f19 [1,4,51,52,53] (dO (dO GL)) (sHe cN cO b fl nx lf es rt bs) [([],
   [fG [.ptr (some (3,0))] (hL (eN (pS cN cO b fl nx lf es rt)++[(7,.cells [.ptr (some (3,0))]),(8,.iS 5 false bs)])) 9,(V.int aj (0:Int)=V.int aj (0:Int))],
   .to .normal (eG [(1,.ptr (some (7,0))),(4,.di (some (8,0)) (bs.length) (bs.length) 1),(51,.di (some (9,0)) 1 1 1),(52,.int .i64 1),(53,.int .i64 0)] (hL (eN (pS cN cO b fl nx lf es rt)++[(7,.cells [.ptr (some (3,0))]),(8,.iS 5 false bs),(9,.cells [.str x])])) 10))]
 :=cP.of U U U
theorem al0(zs:List (aa))(i:Nat)(x d:aa)(bs:aa):c5 AR [(54,.split),(56,.c9 (.str x)),(64,.c9 (.str d)),(67,.c9 (.int .i64 (Int.ofNat (i+1))))] 7 Tryz.f19 [1,4,51,52,53] (dr (dr (dY (dO GL)))) (sHr cN cO b fl nx lf es rt zs i bs) [([((decide (Int.ofNat i<Int.ofNat zs.length)),true)],
   [((0:Int)<=Int.ofNat i/\Int.ofNat i<(Int.ofNat zs.length)),(0+i*1<(strs zs).length),(((strs zs).getD (0+i*1) D.um).iH=V.str x),((if false=true then V.eo [D.fS (V.str ([]:aa)) (dc (D.str x) rt),V.bool (dc (D.str x) rt).isSome]else D.fS (V.str ([]:aa)) (dc (D.str x) rt))=V.str d),(x.length<100000000),(d.length<100000000),(0<bs.length),(bs.length=bs.length),(eP (bs.length+(kN x d).length) 1 1=true),kM (Int.ofNat i+(1:Int)) (i+1)],
   .to .normal (eG [(1,.ptr (some (7,0))),(4,.di (some (8,0)) (bs.length+(kN x d).length) (bs.length+(kN x d).length) 1),(51,.di (some (9,0)) (zs.length) (zs.length) 1),(52,.int .i64 (Int.ofNat zs.length)),(53,.int .i64 (Int.ofNat (i+1)))] (hL (eN (pS cN cO b fl nx lf es rt)++[(7,.cells [.ptr (some (3,0))]),(8,.iS 5 false (bs++eM (dP (kN x d)))),(9,.deep (strs zs))])) 10)),
  ([((decide (Int.ofNat i<Int.ofNat zs.length)),false)],
   [],
   .to (.exit 2) (eG [(1,.ptr (some (7,0))),(4,.di (some (8,0)) (bs.length) (bs.length) 1),(51,.di (some (9,0)) (zs.length) (zs.length) 1),(52,.int .i64 (Int.ofNat zs.length)),(53,.int .i64 (Int.ofNat i))] (hL (eN (pS cN cO b fl nx lf es rt)++[(7,.cells [.ptr (some (3,0))]),(8,.iS 5 false bs),(9,.deep (strs zs))])) 10))]
 :=cP.of U U U
theorem ae1(zs:List (aa))(i:Nat)(bs:aa):c5 AR [(54,.c9 (.bool false))] 7 Tryz.f19 [1,4] (dr (dr (dY (dO GL)))) (sHr cN cO b fl nx lf es rt zs i bs) [([],
   [(V.bool (decide (Int.ofNat i<Int.ofNat zs.length))=V.bool false)],
   .to (.exit 2) (eG [(1,.ptr (some (7,0))),(4,.di (some (8,0)) (bs.length) (bs.length) 1)] (hL (eN (pS cN cO b fl nx lf es rt)++[(7,.cells [.ptr (some (3,0))]),(8,.iS 5 false bs)])) 9))]
 :=cP.of U U U
theorem ae2:c5 AR [] 7 Tryz.f19 [1] (eR 3 (dY GL)) (sHe cN cO b fl nx lf es rt bs) [([],
   [],
   .to .normal (eG [(1,.ptr (some (8,0)))] (hL (l3b b nx lf es rt bs (Int.ofNat bs.length))) 9))]
 :=cP.of U U U
theorem ae3:c5 (fK AR 23 [P3] (hL (eN (pS cN cO b fl nx lf es [])++[(7,.cells [P3])])) 8 (eH,hL (eN (pS cN cO b fl nx lf es [])++[(7,.cells [P3])]),8)) [] 7 Tryz.f19 [1,4] (dO GL) (sHn cN cO b fl nx lf es []) [([],
   [fG [.ptr (some (3,0))] (hL (eN (pS cN cO b fl nx lf es [])++[(7,.cells [.ptr (some (3,0))])])) 8],
   .to .normal (eG [(1,.ptr (some (7,0))),(4,.di none 0 0 0)] (hL (eN (pS cN cO b fl nx lf es [])++[(7,.cells [.ptr (some (3,0))])])) 8))]
 :=cP.of U U U
theorem ae4:c5 AR [] 7 Tryz.f19 [1] (eR 3 (dY GL)) (sHn cN cO b fl nx lf es []) [([],
   [],
   .to .normal (eG [(1,.ptr (some (7,0)))] (hL (l3e b nx lf es)) 8))]
 :=cP.of U U U
theorem ae5(IL:Int)(mE mP:ae):c5 (fK AR 57 [P3] (hL (l3b b nx lf es rt bs (Int.ofNat bs.length))) 9 (.eo [],hL (l3r b lf es rt bs 9 [(8,.cells [P3])] IL mE mP),11)) [] 7 Tryz.f19 [] (dh 3 (dY GL)) (eG [(1,.ptr (some (8,0)))] (hL (l3b b nx lf es rt bs (Int.ofNat bs.length))) 9) [([],
   [fG [.ptr (some (3,0))] (hL [(0,.ints .u32 gS),(1,.ints .u32 gR),(3,.cells [.di (some (7,0)) (bs.length) (bs.length) 1,.int .i64 (Int.ofNat bs.length),.map (some 5),.map (some 6),.int .i64 nx,.bool false,.bool false,.int .i64 lf]),(4,.iS 5 false b),(5,.dD none es),(6,.dD none rt),(7,.iS 5 false bs),(8,.cells [.ptr (some (3,0))])]) 9],
   .ret (.int .i64 0) (hL (l3r b lf es rt bs 8 [] IL mE mP)) 10)]
 :=cP.of U U U
end
theorem ae6(b:aa)(nx lf:Int)(es:ae):c5 (fK AR 57 [P3] (hL (l3e b nx lf es)) 8 (.eo [],hL (l3f b lf es 8 [(7,.cells [P3])]),10)) [] 7 Tryz.f19 [] (dh 3 (dY GL)) (eG [(1,.ptr (some (7,0)))] (hL (l3e b nx lf es)) 8) [([],
   [fG [.ptr (some (3,0))] (hL [(0,.ints .u32 gS),(1,.ints .u32 gR),(3,.cells [.di none 0 0 0,.int .i64 0,.map (some 5),.map (some 6),.int .i64 nx,.bool false,.bool false,.int .i64 lf]),(4,.iS 5 false b),(5,.dD none es),(6,.dD none []),(7,.cells [.ptr (some (3,0))])]) 8],
   .ret (.int .i64 0) (hL (l3f b lf es 7 [])) 9)]
 :=cP.of U U U
def RA(ns:List (Option Nat))(l:af):af->List (Option O):=List.map fun q=>match ns.getD q.1 none with
 |some m=>match(hL l).get m with
  |some o=>o.rn (mu ns)
  |none=>none
 |none=>none
theorem jw{ns:List (Option Nat)}{l l1:af}(ht:(l1.all fun q=>Nat.blt q.1 fI)=true)(hg:(jL.all fun p=>decide (ns.getD p.2 none=some p.2))=true)(hn:ni ns=true)
  (hv:(ns.all fun x=>match x with|none=>true|some m=>(jL.any fun p=>decide (p.2=m))||((hL l).get m).isSome)=true) (he:RA ns l l1=l1.map fun q=>some q.2):ve ns (hL l) (hL l1):=by
 refine Af (fun p hp=>au (bn.1 ht p hp)) (fun p hp=>aH (bn.1 hg p hp)) hn (fun j m hj=>?_) fun p hp=>?_
 . have hm:some m∈ns:=by
    rw[aM]at hj;cases hx:ns[j]? with
    |none=>rw[hx]at hj;cases hj
    |some x=>rw[hx]at hj;simp only[Option.getD_some]at hj;subst hj;exact aZ hx
   have:=bn.1 hv _ hm;simp only[bS,List.any_eq_true]at this;rcases this with⟨p,hp,U4⟩|h
   . exact .inl ⟨p,hp,aH U4⟩
   . exact .inr (Option.isSome_iff_ne_none.1 h)
 . have:(match ns.getD p.1 none with
    |some m=>match(hL l).get m with
     |some o=>o.rn (mu ns)
     |none=>none
    |none=>none)=some p.2:=List.map_inj_left.1 he p hp
   split at this
   . rename_i m hm;split at this
     . rename_i o ho;exact⟨m,o,hm,ho,this⟩
     . cases this
   . cases this
section
variable(cN cO:Nat)(b:aa)(fl nx lf:Int)(es rt:ae)
def al1:List (Option Nat):=[some 0,some 1,some 2,some 3,some 4,some 5,some 6,some 19]
def ae7:List (Option Nat):=[some 0,some 1,some 2,some 3,some 4,some 5,some 6,some 7,some 20,some 21]
theorem c51(k:Nat)(Js:DM rt)(he:∀d∈iE rt,Ends es k d):cT ak 51 [P3,v78] (hL (lH1 cN cO b fl nx lf es rt)) 20 (.map (some 20)) (hL (lH2 cN cO b fl nx lf es rt (pQ es rt k))) 21:=by
 have hc:=Mq cN cO b fl nx lf es rt k Js he;generalize pQ es rt k=ks at hc ⊢;refine fR (ns:=al1) (jw U U U U U) U U hc
theorem c54(ks zs:List (aa))(hl:ks.length<1000000)(wu:Xv es)(hn:∀x,0<=jE es x/\jE es x<1000000000)(hz:List.Perm zs ks)(hs:zs.Pairwise fun a b=>jE es a<jE es b):
  cT ak 54 [v81,v56] (hL (lH3 cN cO b fl nx lf es rt ks [])) 22 (GJ 22 zs) (hL (lH3 cN cO b fl nx lf es rt ks (rY 22 zs))) (nK 22 zs):=by
 have hc:=U3 cN cO b fl nx lf es rt ks zs hl wu hn hz hs;cases zs with
 |nil=>exact fR (ns:=ae7) (jw U U U U U) U U hc
 |cons z zs=>exact fR (ns:=ae7) (jw U U U U U) U U hc
theorem c23(bs:aa)(hk:za rt)(hl:rt.length<1000000):cT ak 23 [P3] (hL (lHe cN cO b fl nx lf es rt bs)) 9 (GJ 9 (iL (dH rt))) (hL (lHe cN cO b fl nx lf es rt bs++AT 9 (iL (dH rt)))) (nK 9 (iL (dH rt))):=by
 have hc:=GK cN cO b fl nx lf es rt hk hl;generalize iL (dH rt)=zs at hc ⊢
 match zs,hc with
 | [],hc=>exact fR (ns:=ns7) (jw U U U U U) U U hc
 | [x],hc=>exact fR (ns:=ns7) (jw U U U U U) U U hc
 |x::y::zs,hc=>exact fR (ns:=ns7) (jw U U U U U) U U hc
theorem al2:cT ak 23 [P3] (hL (eN (pS cN cO b fl nx lf es [])++[(7,.cells [P3])])) 8 eH (hL (eN (pS cN cO b fl nx lf es [])++[(7,.cells [P3])])) 8:=by
 have hc:=GK cN cO b fl nx lf es [] (fun _ h=>by cases h) dN;rw[show iL (dH [])=[]from E7]at hc;exact fR (ns:=ns7) (jw U U U U U) U U hc
end
section
variable(b:aa)(nx lf:Int)(es rt:ae)
theorem c57(l:List jF)(iA:∀r∈l,r.ok)(lP:(cW l).length<1000000000):
  cT ak 57 [P3] (hL (l3b b nx lf es rt (cW l) (Int.ofNat (cW l).length))) 9 (.eo []) (hL (l3r b lf es rt (cW l) 9 [(8,.cells [P3])] (iM l).nx (iM l).es (iM l).rt)) 11:=by
 have hc:=Mn (cW l).length (cW l).length (cW l) (Int.ofNat (cW l).length) nx lf es rt l [] (aA _) iA (by rw[aT,ct]) (by rw[aT];exact .inl rfl) (aA _) lP;generalize cW l=bs at hc ⊢;generalize iM l=q at hc ⊢;obtain⟨IL,mE,mP⟩:=q;exact fR (ns:=akp) (jw U U U U U) U U hc
def ae8:List (Option Nat):=[some 0,some 1,some 2,some 3,none,some 5,some 6]
theorem al3:cT ak 57 [P3] (hL (l3e b nx lf es)) 8 (.eo []) (hL (l3f b lf es 8 [(7,.cells [P3])])) 10:=by
 have hc:=GF 0 nx lf es [];exact fR (ns:=ae8) (jw U U U U U) U U hc
end
section
variable(es rt:ae)(n:aa)
def zb(x:aa):jF:=match dc (.str x) es with
 |some (.agg [.str d,.dL _ cs,_])=>.chunk d (dF cs)
 |_=>.chunk [] []
def rcV:aa:=match dc (.str n) rt with
 |some (.str d)=>d
 |_=>[]
def C8:jF:=.root n (rcV rt n)
def nG(zs:List (aa)):List jF:=zs.map (zb es)++(iL (dH rt)).map (C8 rt)
end
theorem GM{es:ae}{x d:aa}{rs:List (aa)}{k:Int}(h:dc (.str x) es=some (pO d rs k)):zb es x= .chunk d rs:=by
 unfold zb;rw[h];show jF.chunk d (dF (strs rs))=_;rw[ic]
theorem E9{zs:List (aa)}{i:Nat}(h:i<zs.length):0+i*1<(strs zs).length/\((strs zs).getD (0+i*1) D.um).iH=V.str zs[i]:=by
 refine⟨by rw[eI];omega,?_⟩;unfold strs;rw[bH,bj,aM,br,ay h];rfl
theorem vo(l:List jF)(r:jF):cW (l++[r])=cW l++r.bytes:=by
 unfold cW;rw[aX,cr,List.map_singleton,List.flatten_singleton]
theorem K1(l m:List jF):cW (l++m)=cW l++cW m:=by
 unfold cW;rw[aX,cr]
theorem Ah{l:List jF}(i:Nat):(cW (l.take i)).length<=(cW l).length:=by
 conv=>rhs;rw[tE l i]
 rw[ax];omega
section
variable(cN cO:Nat)(b:aa)(fl nx lf:Int)(es rt:ae)
theorem U5(zs:List (aa))(hz:zs≠[])(GZ:zs.length<1000000)(hh:∀x∈zs,D3 es x/\(zb es x).ok)(lP:(cW (zs.map (zb es))).length<1000000000){Q:Exit->St->Prop}
  (h:TG ak 7 Tryz.f19.ntmps (dY Tf) (sHe cN cO b fl nx lf es rt (cW (zs.map (zb es)))) Q):TG ak 7 Tryz.f19.ntmps Tf (eG [(1,P 7),(3,.di (some (8,0)) zs.length zs.length 1),(4,eH)] (hL (eN (pS cN cO b fl nx lf es rt)++[(7,.cells [P3]),(8,.deep (strs zs))])) 9) Q:=by
 refine cV U ?_;refine cV U ?_;refine fV (XQ []) (alU cN cO b fl nx lf es rt zs) (dI ?_);refine⟨e9 rfl,fun s' dX=>?_⟩;have hb:∀i,(hi:i<zs.length)->cW ((zs.take (i+1)).map (zb es))=cW ((zs.take i).map (zb es))++(zb es zs[i]).bytes:=fun i hi=>by
  rw[bI,ay hi,cB,aX,List.map_singleton,vo]
 have ku:∀i,(cW ((zs.take i).map (zb es))).length<1000000000:=fun i=>by
  have:=Ah (l:=zs.map (zb es)) i;rw[cK];omega
 refine jv 0 zs.length (fun i=>if i=0 then aap cN cO b fl nx lf es rt zs else sHk cN cO b fl nx lf es rt zs i (cW ((zs.take i).map (zb es)))) U U (.norm dX) (fun i hi=>?_) ?_
 . obtain⟨⟨d,rs,k,he⟩,iA⟩:=hh zs[i] (bY hi);have hrc:=GM he;have hg:=E9 hi;have yn:=hb i hi;have Nu:=ku (i+1);rw[hrc]at iA yn;have PF:d.length<=66000/\rs.length<=2000/\rs.flatten.length<=66000:=by
    obtain⟨h1,h2,h3⟩:=iA;have:=vi h3;omega
   have N8:0<(gJ d rs).length:=og (r:=.chunk d rs);rw[aI (Nat.succ_ne_zero i)];by_cases h0:i=0
   . subst h0;rw[aG rfl];refine fV XT (alV cN cO b fl nx lf es rt zs zs[0] d rs k) fun g ud hc=>?_;simp only[ic]at ud;rcases jk ud with rfl|rfl
     . refine⟨fm (⟨dN,de⟩) (fm (by have:=hg.1;omega) (fm (by have:=hg.2;rwa [Nat.zero_mul,bH]at this) (fm (vn es he) (fm (vn es he) (fm (trivial) (fm (trivial) (fm be (fm be (fm be (fm (N8) (e9 (ji (by rw[yn,ax]at Nu;have:(jF.chunk d rs).bytes.length=(gJ d rs).length:=rfl;omega))))))))))))),fun s' dX=>?_⟩;rw[yn];exact .norm dX
     . exact absurd (aK (hc _ (aq.2 rfl))) de
   . rw[aI h0];have KQ:0<(cW ((zs.take i).map (zb es))).length:=by
      obtain⟨j,rfl⟩:∃j,i=j+1:=⟨i-1,be⟩;rw[hb j be,ax];have:=og (r:=zb es zs[j]);omega
     rw[yn,ax]at Nu;rw[yn];generalize cW ((zs.take i).map (zb es))=bs at Nu KQ ⊢;refine fV XT (alW cN cO b fl nx lf es rt zs i zs[i] d rs k bs) fun g ud hc=>?_;simp only[ic,gd]at ud;rcases jk ud with rfl|rfl
     . refine⟨fm (⟨az _,de⟩) (fm (hg.1) (fm (hg.2) (fm (vn es he) (fm (vn es he) (fm (trivial) (fm (trivial) (fm be (fm be (fm be (fm (KQ) (fm (trivial) (fm (ji (by have:(jF.chunk d rs).bytes.length=(gJ d rs).length:=rfl;omega)) (e9 (fA de be)))))))))))))),fun s' dX=>?_⟩;unfold sHk;rw[ax];exact .norm dX
     . exact absurd (aK (hc _ (aq.2 rfl))) de
 . have Yf:zs.length≠0:=fun e=>hz (cG.1 e);simp only[aI Yf,aT];refine fV XT (alX cN cO b fl nx lf es rt zs zs.length (cW (zs.map (zb es)))) fun g ud hc=>?_;rw[aq]at ud;subst ud;refine⟨e9 (aN V.bool (bC be)),fun s' dX=>⟨by simp,?_⟩⟩;exact c6 dX h
theorem Ms(ws:List (aa))(bs:aa)(GZ:ws.length<1000000)(hh:∀x∈ws,(∃d,dc (.str x) rt=some (.str d))/\(C8 rt x).ok)(G0:0<bs.length)(lP:bs.length+(cW (ws.map (C8 rt))).length<1000000000){s:St}{Q:Exit->St->Prop}
  (hs:gy ak 7 Tryz.f19.ntmps s (sHr cN cO b fl nx lf es rt ws 0 bs)) (h:TG ak 7 Tryz.f19.ntmps (dY GL) (sHe cN cO b fl nx lf es rt (bs++cW (ws.map (C8 rt)))) Q):TG ak 7 Tryz.f19.ntmps (dY (dO GL)) s (andThen (fun s'=>TG ak 7 Tryz.f19.ntmps (dY GL) s' Q) Q):=by
 have hb:∀i,(hi:i<ws.length)->cW ((ws.take (i+1)).map (C8 rt))=cW ((ws.take i).map (C8 rt))++(C8 rt ws[i]).bytes:=fun i hi=>by
  rw[bI,ay hi,cB,aX,List.map_singleton,vo]
 have ku:∀i,(cW ((ws.take i).map (C8 rt))).length<=(cW (ws.map (C8 rt))).length:=fun i=>by
  have:=Ah (l:=ws.map (C8 rt)) i;rw[cK];omega
 refine jv 2 ws.length (fun i=>sHr cN cO b fl nx lf es rt ws i (bs++cW ((ws.take i).map (C8 rt)))) U U (by
  show gy ak 7 Tryz.f19.ntmps s (sHr cN cO b fl nx lf es rt ws 0 (bs++[]));rw[ct];exact hs) (fun i hi=>?_) ?_
 . obtain⟨⟨d,hd⟩,iA⟩:=hh ws[i] (bY hi);have hg:=E9 hi;have yn:=hb i hi;have Nu:=ku (i+1);have hrc:C8 rt ws[i]= .root ws[i] d:=by unfold C8 rcV;rw[hd]
   rw[hrc]at iA yn;have PF:ws[i].length<=1000/\d.length<=1000:=iA;rw[yn,ax]at Nu;show TG _ _ _ _ _ (andThen (fun s'=>gy ak 7 Tryz.f19.ntmps s' (sHr cN cO b fl nx lf es rt ws (i+1) (bs++cW ((ws.take (i+1)).map (C8 rt))))) _);rw[yn,<- bz];have KQ:0<(bs++cW ((ws.take i).map (C8 rt))).length:=by rw[ax];omega
   have hbj:(bs++cW ((ws.take i).map (C8 rt))).length+(jF.root ws[i] d).bytes.length<1000000000:=by rw[ax];omega
   generalize bs++cW ((ws.take i).map (C8 rt))=ys at KQ hbj ⊢;refine fV XT (al0 cN cO b fl nx lf es rt ws i ws[i] d ys) fun g ud hc=>?_;simp only[gd]at ud;rcases jk ud with rfl|rfl
   . refine⟨fm (⟨az _,de⟩) (fm (hg.1) (fm (hg.2) (fm (by rw[hd];rfl) (fm be (fm be (fm (KQ) (fm (trivial) (fm (ji (by have:(jF.root ws[i] d).bytes.length=(kN ws[i] d).length:=rfl;omega)) (e9 (fA de be)))))))))),fun s' dX=>?_⟩;unfold sHr;rw[ax];exact .norm dX
   . exact absurd (aK (hc _ (aq.2 rfl))) de
 . simp only[aT];refine fV XT (ae1 cN cO b fl nx lf es rt ws ws.length (bs++cW (ws.map (C8 rt)))) fun g ud hc=>?_;rw[aq]at ud;subst ud;refine⟨e9 (aN V.bool (bC be)),fun s' dX=>⟨by simp,?_⟩⟩;exact c6 dX h
theorem U6(k:Nat)(zs:List (aa))(Js:DM rt)(he:∀d∈iE rt,Ends es k d)(hl:(pQ es rt k).length<1000000)(wu:Xv es)(hn:∀x,0<=jE es x/\jE es x<1000000000)(hz:List.Perm zs (pQ es rt k))(hs:zs.Pairwise fun a b=>jE es a<jE es b)
  (hzo:∀x∈zs,D3 es x/\(zb es x).ok) (AP:∀n∈iL (dH rt),(∃d,dc (.str n) rt=some (.str d))/\(C8 rt n).ok) (wR:rt.length<1000000) (lP:(cW (nG es rt zs)).length<1000000000) (h0:zs≠[]) (h1:rt≠[]):
  cT ak 19 [P3] (eu (pS cN cO b fl nx lf es rt)) 7 (.int .i64 0) (hL (l3r b lf es rt (cW (nG es rt zs)) 8 [] (iM (nG es rt zs)).nx (iM (nG es rt zs)).es (iM (nG es rt zs)).rt)) 10:=by
 refine cZ Tryz.func19 (code:=NX) U U ?_;have GZ:zs.length<1000000:=by rw[hz.length_eq];exact hl
 have RB:=c51 cN cO b fl nx lf es rt k Js he;have Og:=c54 cN cO b fl nx lf es rt (pQ es rt k) zs hl wu hn hz hs;have WD:GJ 22 zs= .di (some (22,0)) zs.length zs.length 1/\rY 22 zs=[(22,.deep (strs zs))]/\nK 22 zs=23:=by
  cases zs with
  |nil=>exact absurd rfl h0
  |cons z zs=>exact⟨rfl,rfl,rfl⟩
 rw[WD.1,WD.2.1,WD.2.2]at Og;generalize pQ es rt k=ks at RB Og;refine iJ  4 (((XQ []).ko (au U) RB).ko (au U) Og) (alR cN cO b fl nx lf es rt ks zs.length (strs zs)) (fm ⟨rfl,rfl,rfl⟩ (e9 ⟨rfl,rfl,rfl⟩)) ?_;have e2:cW (nG es rt zs)=cW (zs.map (zb es))++cW ((iL (dH rt)).map (C8 rt)):=K1 _ _;have Hu:=lP;rw[e2,ax]at Hu;refine U5 cN cO b fl nx lf es rt zs h0 GZ hzo be ?_;show TG ak 7 Tryz.f19.ntmps GL _ _;refine cV U ?_;refine cV U ?_;have G0:0<(cW (zs.map (zb es))).length:=by
  cases zs with
  |nil=>exact absurd rfl h0
  |cons z zs=>
   rw[bV,show cW (zb es z::zs.map (zb es))=(zb es z).bytes++cW (zs.map (zb es))from rfl,ax];have:=og (r:=zb es z);omega
 have JQ:za rt:=fun e h=>by obtain⟨n,d,rfl⟩:=Js e h;exact⟨n,rfl⟩
 have afa:=c23 cN cO b fl nx lf es rt (cW (zs.map (zb es))) JQ wR;have tT:(iL (dH rt)).length=rt.length:=by rw[sj,xM]
 have rq:TG ak 7 Tryz.f19.ntmps (dY GL) (sHe cN cO b fl nx lf es rt (cW (zs.map (zb es))++cW ((iL (dH rt)).map (C8 rt)))) (fB ak 7 Tryz.f19 fun v h n=>v= .int .i64 0/\h=hL (l3r b lf es rt (cW (nG es rt zs)) 8 [] (iM (nG es rt zs)).nx (iM (nG es rt zs)).es (iM (nG es rt zs)).rt)/\n=10):=by
  rw[<- e2];refine iJ  3 XT (ae2 cN cO b fl nx lf es rt (cW (nG es rt zs))) cQ ?_;refine fu (XT.ko (au U) (c57 b nx lf es rt (nG es rt zs) (fun r hr=>?_) lP)) (ae5 b nx lf es rt (cW (nG es rt zs)) (iM (nG es rt zs)).nx (iM (nG es rt zs)).es (iM (nG es rt zs)).rt) fun g hg _=>?_
  . rcases aU.1 hr with h|h
    . obtain⟨x,hx,rfl⟩:=bA.1 h;exact(hzo x hx).2
    . obtain⟨x,hx,rfl⟩:=bA.1 h;exact(AP x hx).2
  . rw[aq]at hg;subst hg;exact⟨e9 ⟨rfl,rfl,rfl⟩,_,_,_,rfl,rfl,rfl,rfl⟩
 generalize iL (dH rt)=ws at *
 match ws,tT with
 | [],tT=>exact absurd (cG.1 tT.symm) h1
 | [x],tT=>
   refine fV (XT.ko (au U) afa) (ae0 cN cO b fl nx lf es rt x (cW (zs.map (zb es)))) (dI ?_);refine⟨fm ⟨rfl,rfl,rfl⟩ (e9 rfl),fun s' dX=>?_⟩;exact Ms cN cO b fl nx lf es rt [x] _ (by rw[tT];exact wR) AP G0 be ((gy.norm dX).trans (.deep [9] U)) rq
 |x::y::ws,tT=>
  refine fV (XT.ko (au U) afa) (alZ cN cO b fl nx lf es rt (x::y::ws) (cW (zs.map (zb es)))) (dI ?_);refine⟨fm ⟨rfl,rfl,rfl⟩ (e9 rfl),fun s' dX=>?_⟩;exact Ms cN cO b fl nx lf es rt (x::y::ws) _ (by rw[tT];exact wR) AP G0 be (.norm dX) rq
theorem U7(wu:Xv es)(hn:∀x,0<=jE es x/\jE es x<1000000000):cT ak 19 [P3] (eu (pS cN cO b fl nx lf es [])) 7 (.int .i64 0) (hL (l3f b lf es 7 [])) 9:=by
 refine cZ Tryz.func19 (code:=NX) U U ?_;have RB:=c51 cN cO b fl nx lf es [] 0 (fun _ h=>by cases h) (fun _ h=>by cases h);have Og:=c54 cN cO b fl nx lf es [] (pQ es [] 0) [] (au rfl) wu hn .nil .nil;rw[show pQ es [] 0=[]from rfl]at RB Og;refine iJ  4 (((XQ []).ko (au U) RB).ko (au U) Og) (alS cN cO b fl nx lf es [] []) (fm ⟨rfl,rfl,rfl⟩ (e9 ⟨rfl,rfl,rfl⟩)) ?_;show TG ak 7 Tryz.f19.ntmps Tf _ _;refine cV U ?_;refine fV (XQ []) (alY cN cO b fl nx lf es []) (dI ?_);refine⟨cQ,fun s' dX=>c6 dX ?_⟩;show TG ak 7 Tryz.f19.ntmps GL _ _;refine cV U ?_;refine fV (XT.ko (au U) (al2 cN cO b fl nx lf es)) (ae3 cN cO b fl nx lf es) (dI ?_);refine⟨e9 ⟨rfl,rfl,rfl⟩,fun s' dX=>c6 dX ?_⟩;refine iJ  3 XT (ae4 cN cO b fl nx lf es) cQ ?_;refine fu (XT.ko (au U) (al3 b nx lf es)) (ae6 b nx lf es) (dI ?_);exact⟨e9 ⟨rfl,rfl,rfl⟩,_,_,_,rfl,rfl,rfl,rfl⟩
end
section
variable(fl nx lf:Int)
def U8:af:=eN (pN fl nx lf [] [])++[(7,.cells [.map (some 6)])]
def lVN:af:=U8 fl nx lf++[(8,.cells [.map (some 9)]),(9,.dD none []),(10,.cells [.fn (.func 77) [] [P8,P11,N9]]),(11,.cells [P3])]
def U9:St:=eG [(5,P8),(6,N9),(10,f78)] (hL (lVN fl nx lf)) 12
noncomputable def al4:af:=lVN fl nx lf++[(12,.me),(13,.loop true none (U9 fl nx lf).fr [11] ZQ ZR)]
noncomputable def IM:Tr O:=hL (al4 fl nx lf)
noncomputable def Va:St:=eG [(0,.fn (.yield 13) [] []),(6,.ptr (some (14,0)))] ((IM fl nx lf).set 6 none) 15
def afb:Tr O:=hL (U8 fl nx lf++[(8,.dD none [])])
end
section
variable(fl nx lf:Int)
theorem al5:c5 lQ [] 8 Tryz.f51 [1,5,6] (eR 4 QT) (cR [P3,f78] (hL (U8 fl nx lf)) 8) [([],
   [],
   .to .normal (eG [(1,.fn (.func 78) [] [.ptr (some (7,0))]),(5,.ptr (some (8,0))),(6,.ptr (some (10,0)))] (hL [(0,.ints .u32 gS),(1,.ints .u32 gR),(3,.cells [.di none 0 0 0,.int .i64 ((pN fl nx lf [] []).fl),.map (some 5),.map (some 6),.int .i64 ((pN fl nx lf [] []).nx),.bool false,.bool false,.int .i64 ((pN fl nx lf [] []).lf)]),(5,.dD none []),(6,.dD none []),(7,.cells [.map (some 6)]),(8,.cells [.map (some 9)]),(9,.map [] 0),(10,.cells [.fn (.func 77) [] [.ptr (some (8,0)),.ptr (some (11,0)),.ptr (some (10,0))]]),(11,.cells [.ptr (some (3,0))])]) 12))]
 :=cP.of U U U
theorem al6:c5 lQ [] 8 Tryz.f51 [5,6,10] (dO (dO Gr)) (eG [(1,f78),(5,P8),(6,N9)] (hL (lVN fl nx lf)) 12) [([],
   [],
   .to .normal (U9 fl nx lf))]
 :=cP.of U U U
theorem al7:vj ak lQ [] 1000 8 Tryz.f51 (dY Gr) (tx (U9 fl nx lf) (IM fl nx lf) 14)
  [([],
   [],
   .ret (.map (some 8)) (afb fl nx lf) 9)]
 :=⟨U,U,U⟩
end
section
variable(cN cO:Nat)(b:aa)(fl nx lf:Int)(es rt:ae)
theorem al8:51<Tryz.prog.funcs.size:=au U
theorem Vb(k:Nat)(d:aa)(Js:DM rt)(he:∀x∈iE rt,Ends es k x):cT ak 17 [P3,.str d] (eu (pS cN cO b fl nx lf es rt)) 7 (.bool (decide (d∈pQ es rt k))) (eu (pS cN cO b fl nx lf es rt)) 7:=by
 refine cZ Tryz.func17 (code:=aeP) U U ?_;have hc:=Mq cN cO b fl nx lf es rt k Js he;refine fu (uc.ko al8 hc) (alh cN cO b fl nx lf es rt (nF (pQ es rt k)) d (decide (d∈pQ es rt k))) (dI ?_);refine⟨fm ⟨rfl,rfl,rfl⟩ (e9 ?_),_,_,_,rfl,rfl,rfl,rfl⟩;by_cases h:d∈pQ es rt k
 . rw[bL h];exact E5 h
 . rw[bC h];exact C4 h
end
section
variable(fl nx lf:Int)
theorem Vc:cT ak 78 [.fn (.yield 13) [] [],.ptr (some (7,0))] (IM fl nx lf) 14 (.eo []) (IM fl nx lf) 14:=by
 refine fO.is (gB mo po Tryz.func78 (code:=Gs) U U ?_);rw[adW];refine yW (v0:=.map (some 6)) (jY:=(cR [.fn (.yield 13) [] [],.ptr (some (7,0))] (IM fl nx lf) 14).fr.set 5 (some (.map (some 6)))) (zB:=((cR [.fn (.yield 13) [] [],.ptr (some (7,0))] (IM fl nx lf) 14).fr.set 5 (some (.map (some 6)))).set 6 (some (.ptr (some (14,0))))) (m:=6) (kd:=none) (es:=[]) mo L9
  U U U U (au rfl) U (fun _ s1=>eU 15 [0,6] s1=some (Va fl nx lf)) U ?_
 rintro iy left s1 hs hp;have hz:iy=[]/\left=[]:=List.append_eq_nil_iff.1 hp.eq_nil;obtain⟨rfl,rfl⟩:=hz;refine⟨[0,6],_,hs,U,fun _=>?_,fun e j9 he2=>?_⟩
 . exact⟨(Va fl nx lf).fr.set 7 (some (.eo [.bool false])),{ Va fl nx lf with fr:=((Va fl nx lf).fr.set 7 (some (.eo [.bool false]))).set 8 (some (.bool false)) },U,U,U,.inl rfl,.eo [],IM fl nx lf,14,U,rfl,rfl,rfl⟩
 . have:=he2.length_eq;simp at this
theorem Vd:cT ak 51 [P3,f78] (hL (U8 fl nx lf)) 8 (.map (some 8)) (afb fl nx lf) 9:=by
 refine cZ Tryz.func51 (code:=QT) U U ?_;refine iJ  4 uc (al5 fl nx lf) cQ ?_;refine z7 [(9,none)] (s2:=eG [(1,f78),(5,P8),(6,N9)] (hL (lVN fl nx lf)) 12) U ?_;show TG ak 8 Tryz.f51.ntmps Gr _ _;refine cV U ?_;refine cV U ?_;refine fV uc (al6 fl nx lf) (dI ?_);refine⟨cQ,fun s' dX=>c6 dX ?_⟩;refine fh (i:=0) U ?_;refine oe (gf:=78) (lb:=[.ptr (some (7,0))]) U U U U U (Vc fl nx lf).one ?_;rintro v h n ⟨rfl,rfl,rfl⟩;refine⟨U,?_⟩;show TG ak 8 Tryz.f51.ntmps (dY Gr) (tx (U9 fl nx lf) (IM fl nx lf) 14) _;refine ru uc mo _ U (al7 fl nx lf) (dI ?_);exact⟨cQ,_,_,_,rfl,rfl,rfl,rfl⟩
end
noncomputable abbrev Oh:Code:=dU Tryz.f145
noncomputable abbrev aar:Code:=dh 2 Oh
noncomputable abbrev afc:Code:=dr (dr (dY (dO aar)))
def aR:V:=.agg (gR.map (V.int .u32 ·))
theorem al9(x:Int):c5 Te [] 3 Tryz.f144 [] (dU Tryz.f144) (cR [.int .u64 x,.int .i64 8] .nil 3) [([],
   [((0:Int)<=(8:Int)/\(8:Int)<=(8:Int)/\(8:Int)<=(281474976710656:Int)),((0:Int)<=(7:Int)/\(7:Int)<(8:Int)),(8<=8),((0:Int)<=(6:Int)/\(6:Int)<(8:Int)),(7<=(fM (tS [(0:Int)] 8) 7 [IntKind.u8.wrap x]).length),((0:Int)<=(5:Int)/\(5:Int)<(8:Int)),(6<=(fM (fM (tS [(0:Int)] 8) 7 [IntKind.u8.wrap x]) 6 [IntKind.u8.wrap (x.fdiv (256:Int))]).length),((0:Int)<=(4:Int)/\(4:Int)<(8:Int)),(5<=(fM (fM (fM (tS [(0:Int)] 8) 7 [IntKind.u8.wrap x]) 6 [IntKind.u8.wrap (x.fdiv (256:Int))]) 5 [IntKind.u8.wrap ((x.fdiv (256:Int)).fdiv (256:Int))]).length),((0:Int)<=(3:Int)/\(3:Int)<(8:Int)),(4<=(fM (fM (fM (fM (tS [(0:Int)] 8) 7 [IntKind.u8.wrap x]) 6 [IntKind.u8.wrap (x.fdiv (256:Int))]) 5 [IntKind.u8.wrap ((x.fdiv (256:Int)).fdiv (256:Int))]) 4 [IntKind.u8.wrap (((x.fdiv (256:Int)).fdiv (256:Int)).fdiv (256:Int))]).length),((0:Int)<=(2:Int)/\(2:Int)<(8:Int)),(3<=(fM (fM (fM (fM (fM (tS [(0:Int)] 8) 7 [IntKind.u8.wrap x]) 6 [IntKind.u8.wrap (x.fdiv (256:Int))]) 5 [IntKind.u8.wrap ((x.fdiv (256:Int)).fdiv (256:Int))]) 4 [IntKind.u8.wrap (((x.fdiv (256:Int)).fdiv (256:Int)).fdiv (256:Int))]) 3 [IntKind.u8.wrap ((((x.fdiv (256:Int)).fdiv (256:Int)).fdiv (256:Int)).fdiv (256:Int))]).length),((0:Int)<=(1:Int)/\(1:Int)<(8:Int)),(2<=(fM (fM (fM (fM (fM (fM (tS [(0:Int)] 8) 7 [IntKind.u8.wrap x]) 6 [IntKind.u8.wrap (x.fdiv (256:Int))]) 5 [IntKind.u8.wrap ((x.fdiv (256:Int)).fdiv (256:Int))]) 4 [IntKind.u8.wrap (((x.fdiv (256:Int)).fdiv (256:Int)).fdiv (256:Int))]) 3 [IntKind.u8.wrap ((((x.fdiv (256:Int)).fdiv (256:Int)).fdiv (256:Int)).fdiv (256:Int))]) 2 [IntKind.u8.wrap (((((x.fdiv (256:Int)).fdiv (256:Int)).fdiv (256:Int)).fdiv (256:Int)).fdiv (256:Int))]).length),((0:Int)<=(0:Int)/\(0:Int)<(8:Int)),(1<=(fM (fM (fM (fM (fM (fM (fM (tS [(0:Int)] 8) 7 [IntKind.u8.wrap x]) 6 [IntKind.u8.wrap (x.fdiv (256:Int))]) 5 [IntKind.u8.wrap ((x.fdiv (256:Int)).fdiv (256:Int))]) 4 [IntKind.u8.wrap (((x.fdiv (256:Int)).fdiv (256:Int)).fdiv (256:Int))]) 3 [IntKind.u8.wrap ((((x.fdiv (256:Int)).fdiv (256:Int)).fdiv (256:Int)).fdiv (256:Int))]) 2 [IntKind.u8.wrap (((((x.fdiv (256:Int)).fdiv (256:Int)).fdiv (256:Int)).fdiv (256:Int)).fdiv (256:Int))]) 1 [IntKind.u8.wrap ((((((x.fdiv (256:Int)).fdiv (256:Int)).fdiv (256:Int)).fdiv (256:Int)).fdiv (256:Int)).fdiv (256:Int))]).length),(8<=(fM (fM (fM (fM (fM (fM (fM (fM (tS [(0:Int)] 8) 7 [IntKind.u8.wrap x]) 6 [IntKind.u8.wrap (x.fdiv (256:Int))]) 5 [IntKind.u8.wrap ((x.fdiv (256:Int)).fdiv (256:Int))]) 4 [IntKind.u8.wrap (((x.fdiv (256:Int)).fdiv (256:Int)).fdiv (256:Int))]) 3 [IntKind.u8.wrap ((((x.fdiv (256:Int)).fdiv (256:Int)).fdiv (256:Int)).fdiv (256:Int))]) 2 [IntKind.u8.wrap (((((x.fdiv (256:Int)).fdiv (256:Int)).fdiv (256:Int)).fdiv (256:Int)).fdiv (256:Int))]) 1 [IntKind.u8.wrap ((((((x.fdiv (256:Int)).fdiv (256:Int)).fdiv (256:Int)).fdiv (256:Int)).fdiv (256:Int)).fdiv (256:Int))]) 0 [IntKind.u8.wrap (((((((x.fdiv (256:Int)).fdiv (256:Int)).fdiv (256:Int)).fdiv (256:Int)).fdiv (256:Int)).fdiv (256:Int)).fdiv (256:Int))]).length)],
   .ret (.str (eM (List.take 8 (List.drop 0 (fM (fM (fM (fM (fM (fM (fM (fM (tS [(0:Int)] 8) 7 [IntKind.u8.wrap x]) 6 [IntKind.u8.wrap (x.fdiv (256:Int))]) 5 [IntKind.u8.wrap ((x.fdiv (256:Int)).fdiv (256:Int))]) 4 [IntKind.u8.wrap (((x.fdiv (256:Int)).fdiv (256:Int)).fdiv (256:Int))]) 3 [IntKind.u8.wrap ((((x.fdiv (256:Int)).fdiv (256:Int)).fdiv (256:Int)).fdiv (256:Int))]) 2 [IntKind.u8.wrap (((((x.fdiv (256:Int)).fdiv (256:Int)).fdiv (256:Int)).fdiv (256:Int)).fdiv (256:Int))]) 1 [IntKind.u8.wrap ((((((x.fdiv (256:Int)).fdiv (256:Int)).fdiv (256:Int)).fdiv (256:Int)).fdiv (256:Int)).fdiv (256:Int))]) 0 [IntKind.u8.wrap (((((((x.fdiv (256:Int)).fdiv (256:Int)).fdiv (256:Int)).fdiv (256:Int)).fdiv (256:Int)).fdiv (256:Int)).fdiv (256:Int))]))))) (hL []) 3)]
 :=cP.of U U U
theorem ama(x:Int):c5 Te [] 3 Tryz.f144 [] (dU Tryz.f144) (cR [.int .u64 x,.int .i64 4] .nil 3) [([],
   [((0:Int)<=(4:Int)/\(4:Int)<=(4:Int)/\(4:Int)<=(281474976710656:Int)),((0:Int)<=(3:Int)/\(3:Int)<(4:Int)),(4<=4),((0:Int)<=(2:Int)/\(2:Int)<(4:Int)),(3<=(fM (tS [(0:Int)] 4) 3 [IntKind.u8.wrap x]).length),((0:Int)<=(1:Int)/\(1:Int)<(4:Int)),(2<=(fM (fM (tS [(0:Int)] 4) 3 [IntKind.u8.wrap x]) 2 [IntKind.u8.wrap (x.fdiv (256:Int))]).length),((0:Int)<=(0:Int)/\(0:Int)<(4:Int)),(1<=(fM (fM (fM (tS [(0:Int)] 4) 3 [IntKind.u8.wrap x]) 2 [IntKind.u8.wrap (x.fdiv (256:Int))]) 1 [IntKind.u8.wrap ((x.fdiv (256:Int)).fdiv (256:Int))]).length),(4<=(fM (fM (fM (fM (tS [(0:Int)] 4) 3 [IntKind.u8.wrap x]) 2 [IntKind.u8.wrap (x.fdiv (256:Int))]) 1 [IntKind.u8.wrap ((x.fdiv (256:Int)).fdiv (256:Int))]) 0 [IntKind.u8.wrap (((x.fdiv (256:Int)).fdiv (256:Int)).fdiv (256:Int))]).length)],
   .ret (.str (eM (List.take 4 (List.drop 0 (fM (fM (fM (fM (tS [(0:Int)] 4) 3 [IntKind.u8.wrap x]) 2 [IntKind.u8.wrap (x.fdiv (256:Int))]) 1 [IntKind.u8.wrap ((x.fdiv (256:Int)).fdiv (256:Int))]) 0 [IntKind.u8.wrap (((x.fdiv (256:Int)).fdiv (256:Int)).fdiv (256:Int))]))))) (hL []) 3)]
 :=cP.of U U U
theorem amb(b:aa)(q:E8):c5 Te [] 3 Tryz.f145 [1,3,5,6,7] (eR 2 Oh) (cR [.agg (c8 q),.str b,aR] .nil 3) [([],
   [],
   .to .normal (eG [(1,.str b),(3,.ptr (some (3,0))),(5,.ptr (some (4,0))),(6,.ptr (some (5,0))),(7,.ptr (some (6,0)))] (hL [(3,.cells [.int .u32 (q.1),.int .u32 (q.2.1),.int .u32 (q.2.2.1),.int .u32 (q.2.2.2.1),.int .u32 (q.2.2.2.2.1),.int .u32 (q.2.2.2.2.2.1),.int .u32 (q.2.2.2.2.2.2.1),.int .u32 (q.2.2.2.2.2.2.2)]),(4,.cells [.int .u32 1116352408,.int .u32 1899447441,.int .u32 3049323471,.int .u32 3921009573,.int .u32 961987163,.int .u32 1508970993,.int .u32 2453635748,.int .u32 2870763221,.int .u32 3624381080,.int .u32 310598401,.int .u32 607225278,.int .u32 1426881987,.int .u32 1925078388,.int .u32 2162078206,.int .u32 2614888103,.int .u32 3248222580,.int .u32 3835390401,.int .u32 4022224774,.int .u32 264347078,.int .u32 604807628,.int .u32 770255983,.int .u32 1249150122,.int .u32 1555081692,.int .u32 1996064986,.int .u32 2554220882,.int .u32 2821834349,.int .u32 2952996808,.int .u32 3210313671,.int .u32 3336571891,.int .u32 3584528711,.int .u32 113926993,.int .u32 338241895,.int .u32 666307205,.int .u32 773529912,.int .u32 1294757372,.int .u32 1396182291,.int .u32 1695183700,.int .u32 1986661051,.int .u32 2177026350,.int .u32 2456956037,.int .u32 2730485921,.int .u32 2820302411,.int .u32 3259730800,.int .u32 3345764771,.int .u32 3516065817,.int .u32 3600352804,.int .u32 4094571909,.int .u32 275423344,.int .u32 430227734,.int .u32 506948616,.int .u32 659060556,.int .u32 883997877,.int .u32 958139571,.int .u32 1322822218,.int .u32 1537002063,.int .u32 1747873779,.int .u32 1955562222,.int .u32 2024104815,.int .u32 2227730452,.int .u32 2361852424,.int .u32 2428436474,.int .u32 2756734187,.int .u32 3204031479,.int .u32 3329325298]),(5,.cells [.int .u32 0,.int .u32 0,.int .u32 0,.int .u32 0,.int .u32 0,.int .u32 0,.int .u32 0,.int .u32 0]),(6,.cells [.int .u32 0,.int .u32 0,.int .u32 0,.int .u32 0,.int .u32 0,.int .u32 0,.int .u32 0,.int .u32 0,.int .u32 0,.int .u32 0,.int .u32 0,.int .u32 0,.int .u32 0,.int .u32 0,.int .u32 0,.int .u32 0,.int .u32 0,.int .u32 0,.int .u32 0,.int .u32 0,.int .u32 0,.int .u32 0,.int .u32 0,.int .u32 0,.int .u32 0,.int .u32 0,.int .u32 0,.int .u32 0,.int .u32 0,.int .u32 0,.int .u32 0,.int .u32 0,.int .u32 0,.int .u32 0,.int .u32 0,.int .u32 0,.int .u32 0,.int .u32 0,.int .u32 0,.int .u32 0,.int .u32 0,.int .u32 0,.int .u32 0,.int .u32 0,.int .u32 0,.int .u32 0,.int .u32 0,.int .u32 0,.int .u32 0,.int .u32 0,.int .u32 0,.int .u32 0,.int .u32 0,.int .u32 0,.int .u32 0,.int .u32 0,.int .u32 0,.int .u32 0,.int .u32 0,.int .u32 0,.int .u32 0,.int .u32 0,.int .u32 0,.int .u32 0])]) 7))]
 :=cP.of U U U
section
variable(b:aa)(q:E8)(ws:List Int)(i:Nat)
def mVc:af:=[(3,.cells (c8 q)),(4,.own .u32 gR),(5,.cells (c8 (0,0,0,0,0,0,0,0))),(6,.own .u32 ws)]
def RC:St:=eG [(1,.str b),(3,.ptr (some (3,0))),(5,.ptr (some (4,0))),(6,.ptr (some (5,0))),(7,.ptr (some (6,0))),(8,iW i)] (hL (mVc q ws)) 7
end
section
variable(b:aa)(e a x:Int)(q:E8)(i:Nat)(ws:List Int)
theorem amd:c5 Te [] 3 Tryz.f145 [1,3,5,6,7,8] (dO (dO aar)) (eG [(1,.str b),(3,.ptr (some (3,0))),(5,.ptr (some (4,0))),(6,.ptr (some (5,0))),(7,.ptr (some (6,0)))] (hL (mVc q ws)) 7) [([],
   [],
   .to .normal (RC b q ws 0))]
 :=cP.of U U U
def C9(m d x:Int):Int:=Jr (x.fdiv d) (w32 (x*m))
def aas:Int:=nj (nj (C9 33554432 128 x) (C9 16384 262144 x)) (x.fdiv 8)
def aat:Int:=nj (nj (C9 32768 131072 x) (C9 8192 524288 x)) (x.fdiv 1024)
def Mt(i:Nat):Int:=w32 (w32 (w32 (gW ws (i-16)+aas (gW ws (i-15)))+gW ws (i-7))+aat (gW ws (i-2)))
def Mu:Int:=w32 (w32 (w32 (w32 (T1 b (i*4)*16777216)+w32 (T1 b (i*4+1)*65536))+w32 (T1 b (i*4+2)*256))+T1 b (i*4+3))
def aau:Int:=nj (nj (C9 67108864 64 e) (C9 2097152 2048 e)) (C9 128 33554432 e)
def aav:Int:=nj (nj (C9 1073741824 4 a) (C9 524288 8192 a)) (C9 1024 4194304 a)
def chR(f g:Int):Int:=Jr (Ad e f) (Ad (w32 (4294967295-e)) g)
def maR(b c:Int):Int:=Jr (Jr (Ad a b) (Ad a c)) (Ad b c)
def rdR(rd ws:List Int)(i:Nat):E8->Int
 |(_,_,_,_,e,f,g,h)=>w32 (w32 (w32 (w32 (h+aau e)+chR e f g)+gW rd i)+gW ws i)
def aaw(rd ws:List Int)(i:Nat):E8->E8
 |(a,b,c,d,e,f,g,h)=>(w32 (w32 (rdR rd ws i (a,b,c,d,e,f,g,h)+aav a)+maR a b c),a,b,c,w32 (d+rdR rd ws i (a,b,c,d,e,f,g,h)),e,f,g)
abbrev GN:Prop:=V.int aj (IntKind.i64.wrap ((4:Int)*Int.ofNat i))=iW (i*4)
theorem afd(i:Nat):c5 Te [(20,.split),(24,.c9 (.bool true)),(28,.c9 (iW (i*4))),(34,.c9 (iW (i*4))),(35,.c9 (iW (i*4+1))),(42,.c9 (iW (i*4))),(43,.c9 (iW (i*4+2))),(50,.c9 (iW (i*4))),(51,.c9 (iW (i*4+3))),(22,.c9 (iW (i+1)))] 3 Tryz.f145 [1,3,5,6,7,8] (afc) (RC b q ws i) [([((decide (Int.ofNat i<(64:Int))),true)],
   [(V.bool (decide (Int.ofNat i<(16:Int)))=V.bool true),GN i,((0:Int)<=Int.ofNat (i*4)/\(i*4)<b.length),GN i,(V.int aj (IntKind.i64.wrap (Int.ofNat (i*4)+(1:Int)))=iW (i*4+1)),((0:Int)<=Int.ofNat (i*4+1)/\(i*4+1)<b.length),GN i,(V.int aj (IntKind.i64.wrap (Int.ofNat (i*4)+(2:Int)))=iW (i*4+2)),((0:Int)<=Int.ofNat (i*4+2)/\(i*4+2)<b.length),GN i,(V.int aj (IntKind.i64.wrap (Int.ofNat (i*4)+(3:Int)))=iW (i*4+3)),((0:Int)<=Int.ofNat (i*4+3)/\(i*4+3)<b.length),((0:Int)<=Int.ofNat i/\Int.ofNat i<(64:Int)),(0+i*1+1<=ws.length),(V.int aj (IntKind.i64.wrap (Int.ofNat i+(1:Int)))=iW (i+1))],
   .to .normal (RC b q (fM ws (0+i*1) [Mu b i]) (i+1))),
  ([((decide (Int.ofNat i<(64:Int))),false)],
   [],
   .to (.exit 0) (RC b q ws i))]
 :=cP.of U U U
abbrev K2:Prop:=V.int aj (IntKind.i64.wrap (Int.ofNat i-(15:Int)))=iW (i-15)
abbrev K3:Prop:=V.int aj (IntKind.i64.wrap (Int.ofNat i-(2:Int)))=iW (i-2)
theorem amg(i:Nat):c5 Te [(20,.split),(24,.c9 (.bool false)),(57,.c9 (iW (i-15))),(62,.c9 (iW (i-15))),(68,.c9 (iW (i-15))),(74,.c9 (iW (i-2))),(79,.c9 (iW (i-2))),(85,.c9 (iW (i-2))),(92,.c9 (iW (i-16))),(98,.c9 (iW (i-7))),(22,.c9 (iW (i+1)))] 3 Tryz.f145 [1,3,5,6,7,8] (afc) (RC b q ws i) [([((decide (Int.ofNat i<(64:Int))),true)],
   [(V.bool (decide (Int.ofNat i<(16:Int)))=V.bool false),K2 i,((0:Int)<=Int.ofNat (i-15)/\Int.ofNat (i-15)<(64:Int)),(0+(i-15)*1<ws.length),K2 i,((0:Int)<=Int.ofNat (i-15)/\Int.ofNat (i-15)<(64:Int)),(0+(i-15)*1<ws.length),(0+(i-15)*1<ws.length),K2 i,((0:Int)<=Int.ofNat (i-15)/\Int.ofNat (i-15)<(64:Int)),(0+(i-15)*1<ws.length),(0+(i-15)*1<ws.length),(0+(i-15)*1<ws.length),K3 i,((0:Int)<=Int.ofNat (i-2)/\Int.ofNat (i-2)<(64:Int)),(0+(i-2)*1<ws.length),K3 i,((0:Int)<=Int.ofNat (i-2)/\Int.ofNat (i-2)<(64:Int)),(0+(i-2)*1<ws.length),(0+(i-2)*1<ws.length),K3 i,((0:Int)<=Int.ofNat (i-2)/\Int.ofNat (i-2)<(64:Int)),(0+(i-2)*1<ws.length),(0+(i-2)*1<ws.length),(0+(i-2)*1<ws.length),(V.int aj (IntKind.i64.wrap (Int.ofNat i-(16:Int)))=iW (i-16)),((0:Int)<=Int.ofNat (i-16)/\Int.ofNat (i-16)<(64:Int)),(0+(i-16)*1<ws.length),(V.int aj (IntKind.i64.wrap (Int.ofNat i-(7:Int)))=iW (i-7)),((0:Int)<=Int.ofNat (i-7)/\Int.ofNat (i-7)<(64:Int)),(0+(i-7)*1<ws.length),((0:Int)<=Int.ofNat i/\Int.ofNat i<(64:Int)),(0+i*1+1<=ws.length),(V.int aj (IntKind.i64.wrap (Int.ofNat i+(1:Int)))=iW (i+1))],
   .to .normal (RC b q (fM ws (0+i*1) [Mt ws i]) (i+1))),
  ([((decide (Int.ofNat i<(64:Int))),false)],
   [],
   .to (.exit 0) (RC b q ws i))]
 :=cP.of U U U
noncomputable abbrev Mv:Code:=dh 4 Oh
end
noncomputable abbrev amh:Code:=dr (dr (dY (dO Mv)))
section
variable(q q':E8)(ws:List Int)(i:Nat)
def mVd:af:=[(3,.cells (c8 q)),(4,.own .u32 gR),(5,.cells (c8 (0,0,0,0,0,0,0,0))),(6,.own .u32 ws),(7,.cells (c8 q'))]
def Tg(r:List (Nat×V)):St:=eG ([(3,.ptr (some (3,0))),(5,.ptr (some (4,0))),(6,.ptr (some (5,0))),(7,.ptr (some (6,0))),(11,.ptr (some (7,0)))]++r) (hL (mVd q q' ws)) 8
end
theorem ami(b:aa)(q:E8)(ws:List Int)(i:Nat):c5 Te [] 3 Tryz.f145 [3,5,6,7,11] (dO (dh 3 Oh)) (RC b q ws i) [([],
   [],
   .to .normal (Tg q q ws []))]
 :=cP.of U U U
theorem amj(q q':E8)(ws:List Int):c5 Te [] 3 Tryz.f145 [3,5,6,7,11,12] (dO (dO Mv)) (Tg q q' ws []) [([],
   [],
   .to .normal (Tg q q' ws [(12,iW 0)]))]
 :=cP.of U U U
theorem afe(a b c d e f g h a' b' c' d' e' f' g' h':Int)(ws:List Int)(i:Nat):c5 Te [(107,.split),(109,.c9 (iW (i+1)))] 3 Tryz.f145 [3,5,6,7,11,12] (amh) (Tg (a,b,c,d,e,f,g,h) (a',b',c',d',e',f',g',h') ws [(12,iW i)]) [([((decide (Int.ofNat i<(64:Int))),true)],
   [((0:Int)<=Int.ofNat i/\Int.ofNat i<(64:Int)),(0+i*1<64),((0:Int)<=Int.ofNat i/\Int.ofNat i<(64:Int)),(0+i*1<ws.length),(V.int aj (IntKind.i64.wrap (Int.ofNat i+(1:Int)))=iW (i+1))],
   .to .normal (Tg (a,b,c,d,e,f,g,h) (aaw gR ws i (a',b',c',d',e',f',g',h')) ws [(12,iW (i+1))])),
  ([((decide (Int.ofNat i<(64:Int))),false)],
   [],
   .to (.exit 2) (Tg (a,b,c,d,e,f,g,h) (a',b',c',d',e',f',g',h') ws [(12,iW i)]))]
 :=cP.of U U U
theorem amk(a b c d e f g h a' b' c' d' e' f' g' h':Int)(ws:List Int)(i:Nat):c5 Te [] 3 Tryz.f145 [] (dY Mv) (Tg (a,b,c,d,e,f,g,h) (a',b',c',d',e',f',g',h') ws [(12,iW i)]) [([],
   [((0:Int)<=(0:Int)/\(0:Int)<(8:Int)),((0:Int)<=(0:Int)/\(0:Int)<(8:Int)),((0:Int)<=(0:Int)/\(0:Int)<(8:Int)),((0:Int)<=(1:Int)/\(1:Int)<(8:Int)),((0:Int)<=(1:Int)/\(1:Int)<(8:Int)),((0:Int)<=(1:Int)/\(1:Int)<(8:Int)),((0:Int)<=(2:Int)/\(2:Int)<(8:Int)),((0:Int)<=(2:Int)/\(2:Int)<(8:Int)),((0:Int)<=(2:Int)/\(2:Int)<(8:Int)),((0:Int)<=(3:Int)/\(3:Int)<(8:Int)),((0:Int)<=(3:Int)/\(3:Int)<(8:Int)),((0:Int)<=(3:Int)/\(3:Int)<(8:Int)),((0:Int)<=(4:Int)/\(4:Int)<(8:Int)),((0:Int)<=(4:Int)/\(4:Int)<(8:Int)),((0:Int)<=(4:Int)/\(4:Int)<(8:Int)),((0:Int)<=(5:Int)/\(5:Int)<(8:Int)),((0:Int)<=(5:Int)/\(5:Int)<(8:Int)),((0:Int)<=(5:Int)/\(5:Int)<(8:Int)),((0:Int)<=(6:Int)/\(6:Int)<(8:Int)),((0:Int)<=(6:Int)/\(6:Int)<(8:Int)),((0:Int)<=(6:Int)/\(6:Int)<(8:Int)),((0:Int)<=(7:Int)/\(7:Int)<(8:Int)),((0:Int)<=(7:Int)/\(7:Int)<(8:Int)),((0:Int)<=(7:Int)/\(7:Int)<(8:Int))],
   .ret (.agg [.int .u32 (IntKind.u32.wrap ((a,b,c,d,e,f,g,h).1+(a',b',c',d',e',f',g',h').1)),.int .u32 (IntKind.u32.wrap ((a,b,c,d,e,f,g,h).2.1+(a',b',c',d',e',f',g',h').2.1)),.int .u32 (IntKind.u32.wrap ((a,b,c,d,e,f,g,h).2.2.1+(a',b',c',d',e',f',g',h').2.2.1)),.int .u32 (IntKind.u32.wrap ((a,b,c,d,e,f,g,h).2.2.2.1+(a',b',c',d',e',f',g',h').2.2.2.1)),.int .u32 (IntKind.u32.wrap ((a,b,c,d,e,f,g,h).2.2.2.2.1+(a',b',c',d',e',f',g',h').2.2.2.2.1)),.int .u32 (IntKind.u32.wrap ((a,b,c,d,e,f,g,h).2.2.2.2.2.1+(a',b',c',d',e',f',g',h').2.2.2.2.2.1)),.int .u32 (IntKind.u32.wrap ((a,b,c,d,e,f,g,h).2.2.2.2.2.2.1+(a',b',c',d',e',f',g',h').2.2.2.2.2.2.1)),.int .u32 (IntKind.u32.wrap ((a,b,c,d,e,f,g,h).2.2.2.2.2.2.2+(a',b',c',d',e',f',g',h').2.2.2.2.2.2.2))]) (hL []) 3)]
 :=cP.of U U U
section
variable(a e:Int)(rd:List Int)(x:Int)(ws:List Int)(b:Int)(i:Nat)(q:E8)
theorem xN:w32 x=x%4294967296:=rfl
theorem RD(z:Int):BitVec.ofInt 32 (w32 z)=BitVec.ofInt 32 z:=by
 apply BitVec.eq_of_toInt_eq;rw[BitVec.toInt_ofInt,BitVec.toInt_ofInt,xN];exact Int.emod_bmod ..
theorem Bz(v:BitVec 32):BitVec.ofInt 32 (w32 ↑v.toNat)=v:=by
 rw[RD];apply BitVec.eq_of_toNat_eq;rw[BitVec.toNat_ofInt];have:=v.isLt;have h:((v.toNat:Int)%((2^32:Nat):Int))=v.toNat:=Int.emod_eq_of_lt be be;rw[h];rfl
theorem RE:Jr a b=Jr b a:=by unfold Jr;rw[BitVec.or_comm]
theorem ou(m d x:Int):C9 m d x=CL m d x:=RE _ _
theorem Ve:aas x=sg0 x:=by unfold aas sg0;rw[ou,ou]
theorem Vf:aat x=sg1 x:=by unfold aat sg1;rw[ou,ou]
theorem Vg:aav x=bS0 x:=by unfold aav bS0;rw[ou,ou,ou]
theorem Vh:aau x=bS1 x:=by unfold aau bS1;rw[ou,ou,ou]
theorem RF:Mt ws i=Il ws i:=by unfold Mt Il;rw[Ve,Vf]
theorem Vi:BitVec.ofInt 32 (w32 (4294967295-e))= ~~~ BitVec.ofInt 32 e:=by
 rw[RD];apply BitVec.eq_of_toNat_eq;rw[BitVec.toNat_not,BitVec.toNat_ofInt,BitVec.toNat_ofInt];have h1:=Int.emod_nonneg e (show((2^32:Nat):Int)≠0 by decide);have h2:=Int.emod_lt_of_pos e (show(0:Int)<((2^32:Nat):Int)by decide);have h3:(4294967295-e)%((2^32:Nat):Int)=4294967295-e%((2^32:Nat):Int):=by omega
 rw[h3];omega
theorem RG:BitVec.ofInt 32 (nj 4294967295 e)= ~~~ BitVec.ofInt 32 e:=by
 unfold nj;rw[Bz];apply BitVec.eq_of_getLsbD_eq;intro i hi;have:BitVec.ofInt 32 4294967295=BitVec.allOnes 32:=by decide
 rw[this,BitVec.allOnes_xor]
theorem aff(E F G:BitVec 32):(E&&&F)|||(~~~E&&&G)=(E&&&F)^^^(~~~E&&&G):=by
 apply BitVec.eq_of_getLsbD_eq;intro i hi;simp only[BitVec.getLsbD_or,BitVec.getLsbD_and,BitVec.getLsbD_xor,BitVec.getLsbD_not];cases E.getLsbD i<;>cases F.getLsbD i<;>cases G.getLsbD i<;>simp
theorem afg(A B C:BitVec 32):((A&&&B)|||(A&&&C))|||(B&&&C)=((A&&&B)^^^(A&&&C))^^^(B&&&C):=by
 apply BitVec.eq_of_getLsbD_eq;intro i hi;simp only[BitVec.getLsbD_or,BitVec.getLsbD_and,BitVec.getLsbD_xor];cases A.getLsbD i<;>cases B.getLsbD i<;>cases C.getLsbD i<;>rfl
theorem aax(f g:Int):chR e f g=chI e f g:=by
 unfold chR chI Jr nj Ad;simp only[Bz];have h:=RG e;unfold nj at h;rw[Bz]at h;rw[Vi,h,aff]
theorem aay(c:Int):maR a b c=maI a b c:=by
 unfold maR maI Jr nj Ad;simp only[Bz];rw[afg]
theorem aaz:rdR rd ws i q=rdX rd ws i q:=by
 obtain⟨a,b,c,d,e,f,g,h⟩:=q;simp only[rdR,rdX,Vh,aax]
theorem Vj(c:Int):w32 (w32 (a+b)+c)=w32 (a+w32 (b+c)):=by
 simp only[xN];omega
theorem Vk:aaw rd ws i q=Bg rd ws i q:=by
 obtain⟨a,b,c,d,e,f,g,h⟩:=q;simp only[aaw,Bg,aaz,Vg,aay,Vj]
theorem aaA{a b k:Nat}(hb:b<2^k)(ha:a*2^k+b<4294967296):Jr ((a*2^k:Nat):Int) (b:Int)=((a*2^k+b:Nat):Int):=by
 unfold Jr;have h1:∀n:Nat,n<4294967296->(BitVec.ofInt 32 (n:Int)).toNat=n:=fun n hn=>by
  rw[BitVec.toNat_ofInt];have:((n:Int)%((2^32:Nat):Int))=n:=Int.emod_eq_of_lt be be;rw[this];rfl
 rw[BitVec.toNat_or,h1 _ be,h1 _ be];have h2:a*2^k|||b=a*2^k+b:=by
  have:=Nat.shiftLeft_add_eq_or_of_lt hb a;rw[Nat.shiftLeft_eq]at this;exact this.symm
 rw[h2,xN];exact Int.emod_eq_of_lt be be
theorem GO{p q k s:Nat}(hk:k=2^s)(hq:q<k)(h:p*k+q<4294967296){a b:Int}(ha:a=((p*k:Nat):Int))(hb:b=(q:Int)):Jr a b=((p*k+q:Nat):Int):=by
 subst hk ha hb;exact aaA hq h
theorem RH(b:aa)(i:Nat):Mu b i=Im b i:=by
 have Th:∀j,∃n:Nat,n<256/\T1 b j=(n:Int):=fun j=>⟨(b.getD j 0).toNat,(b.getD j 0).toNat_lt,by
  have:=(b.getD j 0).toNat_lt;show((b.getD j 0).toNat:Int)%4294967296=_;exact Int.emod_eq_of_lt be be⟩
 unfold Mu Im;obtain⟨x,hx,ex⟩:=Th (i*4);obtain⟨y,hy,ey⟩:=Th (i*4+1);obtain⟨z,hz,ez⟩:=Th (i*4+2);obtain⟨t,ht,et⟩:=Th (i*4+3);rw[ex,ey,ez,et];have e1:w32 ((x:Int)*16777216)=((x*16777216:Nat):Int):=by rw[xN];omega
 have e2:w32 ((y:Int)*65536)=((y*65536:Nat):Int):=by rw[xN];omega
 have e3:w32 ((z:Int)*256)=((z*256:Nat):Int):=by rw[xN];omega
 rw[e1,e2,e3];have o1:=GO (p:=x) (q:=y*65536) (k:=16777216) (s:=24) dN be be rfl rfl;have o2:=GO (p:=x*256+y) (q:=z*256) (k:=65536) (s:=16) (a:=((x*16777216+y*65536:Nat):Int)) dN be be be rfl;have o3:=GO (p:=x*65536+y*256+z) (q:=t) (k:=256) (s:=8) (a:=(((x*256+y)*65536+z*256:Nat):Int)) dN be be be rfl;rw[o1,o2,o3];simp only[xN];omega
end
theorem Vl{ws:List Int}(h:ws.length=64):CN ws=ws:=by
 unfold CN;refine List.ext_getElem (by rw[aY,List.length_range,h]) fun i h1 h2=>?_;rw[List.getElem_map,List.getElem_range,aM,ay h2];rfl
section
variable(b:aa)(i:Nat)
def Fa:List Int:=if i<=16 then Xa b i else D1 b (i-16)
theorem Vm(hi:i<=64):(Fa b i).length=64:=by
 unfold Fa;split
 . exact Bu b i be
 . exact yT b (i-16) be
theorem aaB{i:Nat}(h:i<16):Fa b (i+1)=fM (Fa b i) (0+i*1) [Mu b i]:=by
 unfold Fa;rw[aG be,aG be,RH];rfl
theorem aaC{i:Nat}(h:16<=i):Fa b (i+1)=fM (Fa b i) (0+i*1) [Mt (Fa b i) i]:=by
 obtain⟨j,rfl⟩:∃j,i=16+j:=⟨i-16,be⟩;have e:Fa b (16+j)=D1 b j:=by
  unfold Fa;split
  . obtain rfl:j=0:=by omega
    rfl
  . rw[show 16+j-16=j by omega]
 rw[e,RF];unfold Fa;rw[aI be,show 16+j+1-16=j+1 by omega];rfl
end
section
variable(b:aa)(hb:64<=b.length)(q:E8)
include hb in
theorem aml:TG ak 3 Tryz.f145.ntmps Oh (cR [.agg (c8 q),.str b,aR] .nil 3) (fB ak 3 Tryz.f145 fun u _ _=>u= .agg (c8 (yU gR b q))):=by
 refine iJ  2 XL (amb b q) cQ ?_;refine tw [(4,.u32),(6,.u32)] (s2:=eG [(1,.str b),(3,.ptr (some (3,0))),(5,.ptr (some (4,0))),(6,.ptr (some (5,0))),(7,.ptr (some (6,0)))] (hL (mVc q (Fa b 0))) 7) U ?_;show TG _ _ _ aar _ _;refine cV U ?_;refine cV U ?_;refine fV XL (amd b q (Fa b 0)) (dI ?_);refine⟨cQ,fun s' dX=>?_⟩;refine jv 0 64 (fun i=>RC b q (Fa b i) i) U U (.norm dX) (fun i hi=>?_) ?_
 . have tT:=Vm b i be;rcases bN i 16 with h16|h16
   . have e:=aaB b h16;show TG _ _ _ _ _ (andThen (fun s'=>gy ak 3 Tryz.f145.ntmps s' (RC b q (Fa b (i+1)) (i+1))) _);rw[e];refine fV XL (afd b q (Fa b i) i) fun g hg hc=>?_;rcases jk hg with rfl|rfl
     . refine⟨?_,fun s1 fP=>.norm fP⟩
       repeat' (first|exact cQ|refine jn ?_ ?_)
       all_goals first
        |exact pP de be
        |exact⟨az _,be⟩
        |exact⟨az _,de⟩
        |exact aN V.bool (bL de)
        |omega
     . exact absurd (aK (hc _ (aq.2 rfl))) de
   . have e:=aaC b h16;show TG _ _ _ _ _ (andThen (fun s'=>gy ak 3 Tryz.f145.ntmps s' (RC b q (Fa b (i+1)) (i+1))) _);rw[e];refine fV XL (amg b q (Fa b i) i) fun g hg hc=>?_;rcases jk hg with rfl|rfl
     . refine⟨?_,fun s1 fP=>.norm fP⟩
       repeat' (first|exact cQ|refine jn ?_ ?_)
       all_goals first
        |exact pP de be
        |exact⟨az _,de⟩
        |exact aN V.bool (bC de)
        |omega
     . exact absurd (aK (hc _ (aq.2 rfl))) de
 . refine fV XL (afd b q (Fa b 64) 64) fun g hg hc=>?_;rcases jk hg with rfl|rfl
   . exact absurd (hc _ (aq.2 rfl)) dN
   refine⟨cQ,fun s1 fP=>⟨by simp,?_⟩⟩;rw[dV];refine c6 fP ?_;show TG _ _ _ (dh 3 Oh) _ _;have hw:Fa b 64=CN (D1 b 48):=by rw[Vl (yT b 48 (aA _))];rfl
   rw[hw];have tT:(CN (D1 b 48)).length=64:=by unfold CN;rw[aY,List.length_range]
   refine cV U ?_;unfold yU;generalize CN (D1 b 48)=ws at tT ⊢;refine fV XL (ami b q ws 64) (dI ?_);refine⟨cQ,fun s2 jd=>c6 jd ?_⟩;show TG _ _ _ Mv _ _;refine cV U ?_;refine cV U ?_;refine fV XL (amj q q ws) (dI ?_);refine⟨cQ,fun s3 xW=>?_⟩;refine jv 2 64 (fun i=>Tg q (vf gR ws q i) ws [(12,iW i)]) U U (.norm xW) (fun i hi=>?_) ?_
   . show TG _ _ _ _ _ (andThen (fun s'=>gy ak 3 Tryz.f145.ntmps s' (Tg q (Bg gR ws i (vf gR ws q i)) ws [(12,iW (i+1))])) _);rw[<- Vk];generalize vf gR ws q i=q';obtain⟨a,b,c,d,e,f,g,h⟩:=q;obtain⟨a',b',c',d',e',f',g',h'⟩:=q';refine fV XL (afe a b c d e f g h a' b' c' d' e' f' g' h' ws i) fun g hg hc=>?_;rcases jk hg with rfl|rfl
     . refine⟨?_,fun s4 IN=>.norm IN⟩
       repeat' (first|exact cQ|refine jn ?_ ?_)
       all_goals first
        |exact pP de be
        |exact⟨az _,de⟩
        |omega
     . exact absurd (aK (hc _ (aq.2 rfl))) de
   . show TG _ _ _ _ (Tg q (vf gR ws q 64) ws [(12,iW 64)]) _;generalize vf gR ws q 64=q';obtain⟨a,b,c,d,e,f,g,h⟩:=q;obtain⟨a',b',c',d',e',f',g',h'⟩:=q';refine fV XL (afe a b c d e f g h a' b' c' d' e' f' g' h' ws 64) fun g hg hc=>?_;rcases jk hg with rfl|rfl
     . exact absurd (hc _ (aq.2 rfl)) dN
     refine⟨cQ,fun s4 IN=>⟨by simp,?_⟩⟩;rw[dV];refine c6 IN ?_;refine fu XL (amk a b c d e f g h a' b' c' d' e' f' g' h' ws 64) (dI ?_);refine⟨?_,_,_,_,rfl,?_⟩
     . repeat' (first|exact cQ|refine jn ?_ ?_)
       all_goals exact⟨dN,dN⟩
     . simp only[Y0,c8,Int.add_comm]
end
def K4:ag->Option (ah×V)
 | [.agg [.int .u32 a,.int .u32 b,.int .u32 c,.int .u32 d,.int .u32 e,.int .u32 f,.int .u32 g,.int .u32 x],.str s,r]=>match r.free with
   |true=>some ([64<=s.length,r=aR],.agg (c8 (yU gR s (a,b,c,d,e,f,g,x))))
   |false=>none
 |_=>none
theorem aaD:jC ak 145 (jG K4):=by
 refine jV (au U) fun args A v e=>?_;unfold K4 at e;split at e
 case h_2=>cases e
 rename_i a b c d e1 f g x s r;split at e
 case h_2=>cases e
 rename_i hr;obtain⟨rfl,rfl⟩:=eY e;refine⟨by simp[V.wJ,V.free,hr],U,fun hA=>?_⟩;obtain rfl:r=aR:=hA (r=aR) (by simp);exact gM mo po Tryz.func145 U U rfl (aml s (hA (64<=s.length) (by simp)) (a,b,c,d,e1,f,g,x))
section
variable(x:Int)
theorem XD(a b c:Int)(h:a*b=c)(ha:0<a)(hb:0<b):(x.fdiv a).fdiv b=x.fdiv c:=by
 subst h;rw[cJ _ (Int.le_of_lt ha),cJ _ (Int.le_of_lt hb),cJ _ (Int.le_of_lt (Int.mul_pos ha hb)),Int.ediv_ediv_of_nonneg (Int.le_of_lt ha)]
def vp:aa:=[UInt8.ofNat (IntKind.u8.wrap (((((((x.fdiv 256).fdiv 256).fdiv 256).fdiv 256).fdiv 256).fdiv 256).fdiv 256)).toNat,UInt8.ofNat (IntKind.u8.wrap ((((((x.fdiv 256).fdiv 256).fdiv 256).fdiv 256).fdiv 256).fdiv 256)).toNat,UInt8.ofNat (IntKind.u8.wrap (((((x.fdiv 256).fdiv 256).fdiv 256).fdiv 256).fdiv 256)).toNat,
    UInt8.ofNat (IntKind.u8.wrap ((((x.fdiv 256).fdiv 256).fdiv 256).fdiv 256)).toNat,UInt8.ofNat (IntKind.u8.wrap (((x.fdiv 256).fdiv 256).fdiv 256)).toNat,UInt8.ofNat (IntKind.u8.wrap ((x.fdiv 256).fdiv 256)).toNat,UInt8.ofNat (IntKind.u8.wrap (x.fdiv 256)).toNat,UInt8.ofNat (IntKind.u8.wrap x).toNat]
theorem afh(h0:0<=x)(h1:x<18446744073709551616):vp x=l7 x:=by
 unfold vp;have hw:IntKind.u64.wrap x=x:=Int.emod_eq_of_lt h0 h1;unfold l7 pB;rw[hw,XD x 256 256 65536 dN dN dN,XD x 65536 256 16777216 dN dN dN,XD x 16777216 256 4294967296 dN dN dN,XD x 4294967296 256 1099511627776 dN dN dN,XD x 1099511627776 256 281474976710656 dN dN dN,XD x 281474976710656 256 72057594037927936 dN dN dN];have h1:x.fdiv 1=x:=Int.fdiv_one x;rw[h1]
def fW:aa:=[UInt8.ofNat (IntKind.u8.wrap (((x.fdiv 256).fdiv 256).fdiv 256)).toNat,UInt8.ofNat (IntKind.u8.wrap ((x.fdiv 256).fdiv 256)).toNat,UInt8.ofNat (IntKind.u8.wrap (x.fdiv 256)).toNat,UInt8.ofNat (IntKind.u8.wrap x).toNat]
theorem amm(h0:0<=x)(h1:x<18446744073709551616):fW x=dK x:=by
 unfold fW;have hw:IntKind.u64.wrap x=x:=Int.emod_eq_of_lt h0 h1;unfold dK pB;rw[hw,XD x 256 256 65536 dN dN dN,XD x 65536 256 16777216 dN dN dN];have h1:x.fdiv 1=x:=Int.fdiv_one x;rw[h1]
end
def K5:ag->Option (ah×V)
 | [.int .u64 x,.int .i64 k]=>match k with
   | .ofNat 8=>some ([],.str (vp x))
   | .ofNat 4=>some ([],.str (fW x))
   |_=>none
 |_=>none
theorem aaE:jC ak 144 (jG K5):=by
 refine jV (au U) fun args A v e=>?_;unfold K5 at e;split at e
 case h_2=>cases e
 rename_i x k;split at e
 . obtain⟨rfl,rfl⟩:=eY e;refine⟨rfl,U,fun _=>gM mo po Tryz.func144 (code:=dU Tryz.f144) U U rfl ?_⟩;refine fu XL (al9 x) (dI ?_);refine⟨?_,_,_,_,rfl,?_⟩
   . repeat' (first|exact cQ|refine jn ?_ ?_)
     all_goals first|exact⟨dN,dN⟩|exact⟨dN,dN,dN⟩|exact au rfl
   . rfl
 . obtain⟨rfl,rfl⟩:=eY e;refine⟨rfl,U,fun _=>gM mo po Tryz.func144 (code:=dU Tryz.f144) U U rfl ?_⟩;refine fu XL (ama x) (dI ?_);refine⟨?_,_,_,_,rfl,?_⟩
   . repeat' (first|exact cQ|refine jn ?_ ?_)
     all_goals first|exact⟨dN,dN⟩|exact⟨dN,dN,dN⟩|exact au rfl
   . rfl
 . cases e
noncomputable abbrev W20:jJ:=kj 144 (jG K5) (kj 145 (jG K4) W16)
theorem RJ:fU ak W20:=fe aaE (fe aaD Gu)
noncomputable abbrev ze:eX:=gC ak W20 H0 1000 40
noncomputable abbrev G5:CX ak:=CX.of mo po RJ H0 1000 40
structure gK where
 dg:aa
 da:aa
 rs:List (aa)
def gK.d(c:gK):ai:=[.str c.dg,.str c.da,.dL c.rs.length (strs c.rs)]
def fq(l:List gK):ai:=(l.map gK.d).flatten
def ff(l:List (aa×aa)):ai:=(l.map fun p=>[D.str p.1,D.str p.2]).flatten
structure RS where
 cs:List gK
 ro:List (aa×aa)
def RS.v(s:RS):V:=.agg [.dL false s.cs.length (fq s.cs),.dL false s.ro.length (ff s.ro)]
section
variable(s:RS)(x:aa)(i:Nat)
def RS.d:D:=.agg [.dL s.cs.length (fq s.cs),.dL s.ro.length (ff s.ro)]
noncomputable abbrev RK:Code:=dU Tryz.f70
noncomputable abbrev amo:Code:=dr (dr (dY (dO (dh 1 RK))))
noncomputable abbrev RL:Code:=dU Tryz.f115
noncomputable abbrev amq:Code:=dr (dr (dY (dO (dh 1 RL))))
def bx:O:=.cells [.dL false s.cs.length (fq s.cs),.dL false s.ro.length (ff s.ro)]
def OU:St:=eG [(1,.str x),(2,.ptr (some (3,0))),(5,iW i)] (hL [(3,bx s)]) 4
theorem amr:c5 ze [] 3 Tryz.f70 [1,2] (eR 1 RK) (cR [s.v,.str x] .nil 3) [([],
   [],
   .to .normal (eG [(1,.str x),(2,.ptr (some (3,0)))] (hL [(3,.cells [.dL false (s.cs.length) (fq s.cs),.dL false (s.ro.length) (ff s.ro)])]) 4))]
 :=cP.of U U U
theorem ams:c5 ze [] 3 Tryz.f70 [1,2,5] (dO (dO (dh 1 RK))) (eG [(1,.str x),(2,.ptr (some (3,0)))] (hL [(3,bx s)]) 4) [([],
   [],
   .to .normal (OU s x 0))]
 :=cP.of U U U
theorem afi(c:gK):c5 ze [(10,.split),(16,.c9 (.dm c.d)),(20,.split),(12,.c9 (iW (i+1)))] 3 Tryz.f70 [1,2,5] (amo) (OU s x i) [([((decide (Int.ofNat i<(Int.ofNat s.cs.length))),true),((eE c.dg x),true)],
   [((0:Int)<=Int.ofNat i/\Int.ofNat i<(Int.ofNat s.cs.length)),((fq s.cs).length=s.cs.length*3),(V.dm (dw (fq s.cs) (i*3) 3)=V.dm c.d)],
   .ret (.int .i64 (Int.ofNat i)) (hL []) 3),
  ([((decide (Int.ofNat i<(Int.ofNat s.cs.length))),true),((eE c.dg x),false)],
   [((0:Int)<=Int.ofNat i/\Int.ofNat i<(Int.ofNat s.cs.length)),((fq s.cs).length=s.cs.length*3),(V.dm (dw (fq s.cs) (i*3) 3)=V.dm c.d),(V.int aj (IntKind.i64.wrap (Int.ofNat i+(1:Int)))=iW (i+1))],
   .to .normal (OU s x (i+1))),
  ([((decide (Int.ofNat i<(Int.ofNat s.cs.length))),false)],
   [],
   .to (.exit 0) (OU s x i))]
 :=cP.of U U U
theorem amt:c5 ze [] 3 Tryz.f70 [] (dY (dh 1 RK)) (OU s x i) [([],
   [],
   .ret (.int .i64 (-1)) (hL []) 3)]
 :=cP.of U U U
theorem amu:c5 ze [] 3 Tryz.f115 [1,2] (eR 1 RL) (cR [s.v,.str x] .nil 3) [([],
   [],
   .to .normal (eG [(1,.str x),(2,.ptr (some (3,0)))] (hL [(3,.cells [.dL false (s.cs.length) (fq s.cs),.dL false (s.ro.length) (ff s.ro)])]) 4))]
 :=cP.of U U U
theorem amv:c5 ze [] 3 Tryz.f115 [1,2,5] (dO (dO (dh 1 RL))) (eG [(1,.str x),(2,.ptr (some (3,0)))] (hL [(3,bx s)]) 4) [([],
   [],
   .to .normal (OU s x 0))]
 :=cP.of U U U
theorem afj(n d:aa):c5 ze [(10,.split),(16,.c9 (.dm [.str n,.str d])),(20,.split),(24,.c9 (.dm [.str n,.str d])),(12,.c9 (iW (i+1)))] 3 Tryz.f115 [1,2,5] (amq) (OU s x i) [([((decide (Int.ofNat i<(Int.ofNat s.ro.length))),true),((eE n x),true)],
   [((0:Int)<=Int.ofNat i/\Int.ofNat i<(Int.ofNat s.ro.length)),((ff s.ro).length=s.ro.length*2),(V.dm (dw (ff s.ro) (i*2) 2)=V.dm [D.str n,D.str d]),((0:Int)<=Int.ofNat i/\Int.ofNat i<(Int.ofNat s.ro.length)),((ff s.ro).length=s.ro.length*2),(V.dm (dw (ff s.ro) (i*2) 2)=V.dm [D.str n,D.str d])],
   .ret (.str d) (hL []) 3),
  ([((decide (Int.ofNat i<(Int.ofNat s.ro.length))),true),((eE n x),false)],
   [((0:Int)<=Int.ofNat i/\Int.ofNat i<(Int.ofNat s.ro.length)),((ff s.ro).length=s.ro.length*2),(V.dm (dw (ff s.ro) (i*2) 2)=V.dm [D.str n,D.str d]),(V.int aj (IntKind.i64.wrap (Int.ofNat i+(1:Int)))=iW (i+1))],
   .to .normal (OU s x (i+1))),
  ([((decide (Int.ofNat i<(Int.ofNat s.ro.length))),false)],
   [],
   .to (.exit 0) (OU s x i))]
 :=cP.of U U U
theorem amw:c5 ze [] 3 Tryz.f115 [] (dY (dh 1 RL)) (OU s x i) [([],
   [],
   .ret (.str []) (hL []) 3)]
 :=cP.of U U U
end
theorem sk{α β:Type}{f:α->List β}{w:Nat}(hf:∀x,(f x).length=w):∀l:List α,(l.map f).flatten.length=l.length*w
 | []=>by simp
 |x::l=>by
  rw[bV,List.flatten_cons,ax,hf,sk hf l,aS,cM];omega
theorem vr{α:Type}{f:α->ai}{w:Nat}(hf:∀x,(f x).length=w):∀(l:List α) (i:Nat) (h:i<l.length),dw ((l.map f).flatten) (i*w) w=f l[i]
 |x::l,0,_=>by
  unfold dw;rw[Nat.zero_mul,bu,bV,List.flatten_cons,List.take_left' (hf x)];rfl
 |x::l,i+1,h=>by
  have ih:=vr hf l i (by simpa using h);unfold dw at ih ⊢;rw[bV,List.flatten_cons,show(i+1)*w=w+i*w by rw[cM];omega,<- List.drop_drop,List.drop_left' (hf x),ih];rfl
theorem kT(l:List gK):(fq l).length=l.length*3:=sk (f:=gK.d) (w:=3) (fun _=>rfl) l
theorem xO(l:List gK)(i:Nat)(h:i<l.length):dw (fq l) (i*3) 3=l[i].d:=vr (f:=gK.d) (w:=3) (fun _=>rfl) l i h
section
variable(l:List (aa×aa))
theorem nl:(ff l).length=l.length*2:=sk (f:=fun p:aa×aa=>[D.str p.1,D.str p.2]) (w:=2) (fun _=>rfl) l
theorem Da(i:Nat)(h:i<l.length):dw (ff l) (i*2) 2=[D.str l[i].1,D.str l[i].2]:=vr (f:=fun p:aa×aa=>[D.str p.1,D.str p.2]) (w:=2) (fun _=>rfl) l i h
end
def sq(x:aa):List gK->Nat->Int
 | [],_=> -1
 |c::l,i=>if c.dg=x then i else sq x l (i+1)
def gj(l:List gK)(x:aa):Int:=sq x l 0
def gG(x:aa):List (aa×aa)->aa
 | []=>[]
 |p::l=>if p.1=x then p.2 else gG x l
theorem K6{x:aa}{l:List gK}{i:Nat}(h:i<l.length):sq x (l.drop i) i=if l[i].dg=x then(i:Int)else sq x (l.drop (i+1)) (i+1):=by
 rw[bE h];rfl
theorem K7{x:aa}{l:List (aa×aa)}{i:Nat}(h:i<l.length):gG x (l.drop i)=if l[i].1=x then l[i].2 else gG x (l.drop (i+1)):=by
 rw[bE h];rfl
theorem oK{a b:aa}(h:eE a b=false):a≠b:=by rw[fT]at h;exact beq_eq_false_iff_ne.1 h
section
variable(s:RS)(x:aa)
theorem amx(hl:s.cs.length<=1000000):TG ak 3 Tryz.f70.ntmps RK (cR [s.v,.str x] .nil 3) (fB ak 3 Tryz.f70 fun u _ _=>u= .int .i64 (gj s.cs x)):=by
 refine iJ  1 G5 (amr s x) cQ ?_;refine cV U ?_;refine cV U ?_;refine fV G5 (ams s x) (dI ?_);refine⟨cQ,fun s' dX=>?_⟩;refine js (α:=Nat) 0 (fun i=>s.cs.length-i) (fun i=>i<=s.cs.length/\gj s.cs x=sq x (s.cs.drop i) i) (OU s x) U U 0 ⟨aW _,by rw[bu];rfl⟩ (.norm dX) fun i ⟨hi,he⟩=>?_;rcases bN i s.cs.length with fE|zO
 . have kH:=xO s.cs i fE;rw[K6 fE]at he;generalize hc:s.cs[i]=c at kH he;obtain⟨L3,xI⟩:=afi s x i c;have ha:∀a∈[((0:Int)<=Int.ofNat i/\Int.ofNat i<(Int.ofNat s.cs.length)),((fq s.cs).length=s.cs.length*3),(V.dm (dw (fq s.cs) (i*3) 3)=V.dm c.d)],a:=fm (⟨az _,de⟩) (fm (kT _) (e9 (aN V.dm kH)));refine gT G5 mo (fun u _ _=>u= .int .i64 (gj s.cs x)) U xI fun g hg HY=>?_;rcases xH hg with rfl|rfl|rfl
   . have h2:=kJ (HY _ (aJ _ (aq.2 rfl)));rw[aG h2]at he;exact⟨ha,by rw[he];rfl,fun s2 jd=>jd⟩
   . have h2:=oK (HY _ (aJ _ (aq.2 rfl)));rw[aI h2]at he;exact⟨fm (⟨az _,de⟩) (fm (kT _) (fm (aN V.dm kH) (e9 (pP de be)))),fun s2 jd=>⟨i+1,be,⟨be,he⟩,.norm jd⟩⟩
   . exact absurd (aK (HY _ (aq.2 rfl))) de
 . obtain rfl:i=s.cs.length:=by omega
   obtain⟨L3,xI⟩:=afi s x s.cs.length ⟨[],[],[]⟩;refine gT G5 mo (fun u _ _=>u= .int .i64 (gj s.cs x)) U xI fun g hg HY=>?_;rcases xH hg with rfl|rfl|rfl
   . exact absurd (aH (HY _ (aP ..))) de
   . exact absurd (aH (HY _ (aP ..))) de
   . refine⟨cQ,fun s2 jd=>?_⟩;simp only[andThen,dV];refine c6 jd ?_;refine fu G5 (amt s x s.cs.length) (dI ?_);refine⟨cQ,_,_,_,rfl,?_⟩;rw[he,List.drop_length];rfl
theorem amy(hl:s.ro.length<=1000000):TG ak 3 Tryz.f115.ntmps RL (cR [s.v,.str x] .nil 3) (fB ak 3 Tryz.f115 fun u _ _=>u= .str (gG x s.ro)):=by
 refine iJ  1 G5 (amu s x) cQ ?_;refine cV U ?_;refine cV U ?_;refine fV G5 (amv s x) (dI ?_);refine⟨cQ,fun s' dX=>?_⟩;refine js (α:=Nat) 0 (fun i=>s.ro.length-i) (fun i=>i<=s.ro.length/\gG x s.ro=gG x (s.ro.drop i)) (OU s x) U U 0 ⟨aW _,by rw[bu]⟩ (.norm dX) fun i ⟨hi,he⟩=>?_;rcases bN i s.ro.length with fE|zO
 . have kH:=Da s.ro i fE;rw[K7 fE]at he;generalize hc:s.ro[i]=c at kH he;obtain⟨n,d⟩:=c;obtain⟨L3,xI⟩:=afj s x i n d;refine gT G5 mo (fun u _ _=>u= .str (gG x s.ro)) U xI fun g hg HY=>?_;rcases xH hg with rfl|rfl|rfl
   . have h2:=kJ (HY _ (aJ _ (aq.2 rfl)));rw[aG h2]at he;exact⟨fm (⟨az _,de⟩) (fm (nl _) (fm (aN V.dm kH) (fm (⟨az _,de⟩) (fm (nl _) (e9 (aN V.dm kH)))))),by rw[he],fun s2 jd=>jd⟩
   . have h2:=oK (HY _ (aJ _ (aq.2 rfl)));rw[aI h2]at he;exact⟨fm (⟨az _,de⟩) (fm (nl _) (fm (aN V.dm kH) (e9 (pP de be)))),fun s2 jd=>⟨i+1,be,⟨be,he⟩,.norm jd⟩⟩
   . exact absurd (aK (HY _ (aq.2 rfl))) de
 . obtain rfl:i=s.ro.length:=by omega
   obtain⟨L3,xI⟩:=afj s x s.ro.length [] [];refine gT G5 mo (fun u _ _=>u= .str (gG x s.ro)) U xI fun g hg HY=>?_;rcases xH hg with rfl|rfl|rfl
   . exact absurd (aH (HY _ (aP ..))) de
   . exact absurd (aH (HY _ (aP ..))) de
   . refine⟨cQ,fun s2 jd=>?_⟩;simp only[andThen,dV];refine c6 jd ?_;refine fu G5 (amw s x s.ro.length) (dI ?_);refine⟨cQ,_,_,_,rfl,?_⟩;rw[he,List.drop_length];rfl
end
noncomputable abbrev Ea:Code:=dU Tryz.f116
section
variable(s:aa)(q:E8)(k:Nat)(m gl:aa)
def zs(k:Nat):List Int:=(128:Int)::List.replicate k 0
def qS:E8:=(1779033703,3144134277,1013904242,2773480762,1359893119,2600822924,528734635,1541459225)
def sOz(us:List Int):St:=eG [(0,.str s),(3,.ptr (some (3,0))),(4,.ptr (some (4,0))),(5,.di (some (5,0)) (k+1) (k+1) 1)] (hL [(3,.cells (c8 qS)),(4,.cells (gR.map (V.int .u32 ·))),(5,.own .u8 us)]) 6
def sOa:St:=sOz s k (zs k)
def XF(r:List (Nat×V)):St:=eG ([(3,.ptr (some (3,0))),(4,.ptr (some (4,0))),(6,.str m)]++r) (hL [(3,.cells (c8 q)),(4,.cells (gR.map (V.int .u32 ·)))]) 5
end
section
variable(s:aa)(q:E8)(k:Nat)(m:aa)(i:Nat)
theorem amz:c5 ze [] 3 Tryz.f116 [0,3,4,5] (eR 4 Ea) (cR [.str s] .nil 3) [([],
   [],
   .to .normal (eG [(0,.str s),(3,.ptr (some (3,0))),(4,.ptr (some (4,0))),(5,.di (some (5,0)) 1 1 1)] (hL [(3,.cells [.int .u32 1779033703,.int .u32 3144134277,.int .u32 1013904242,.int .u32 2773480762,.int .u32 1359893119,.int .u32 2600822924,.int .u32 528734635,.int .u32 1541459225]),(4,.cells [.int .u32 1116352408,.int .u32 1899447441,.int .u32 3049323471,.int .u32 3921009573,.int .u32 961987163,.int .u32 1508970993,.int .u32 2453635748,.int .u32 2870763221,.int .u32 3624381080,.int .u32 310598401,.int .u32 607225278,.int .u32 1426881987,.int .u32 1925078388,.int .u32 2162078206,.int .u32 2614888103,.int .u32 3248222580,.int .u32 3835390401,.int .u32 4022224774,.int .u32 264347078,.int .u32 604807628,.int .u32 770255983,.int .u32 1249150122,.int .u32 1555081692,.int .u32 1996064986,.int .u32 2554220882,.int .u32 2821834349,.int .u32 2952996808,.int .u32 3210313671,.int .u32 3336571891,.int .u32 3584528711,.int .u32 113926993,.int .u32 338241895,.int .u32 666307205,.int .u32 773529912,.int .u32 1294757372,.int .u32 1396182291,.int .u32 1695183700,.int .u32 1986661051,.int .u32 2177026350,.int .u32 2456956037,.int .u32 2730485921,.int .u32 2820302411,.int .u32 3259730800,.int .u32 3345764771,.int .u32 3516065817,.int .u32 3600352804,.int .u32 4094571909,.int .u32 275423344,.int .u32 430227734,.int .u32 506948616,.int .u32 659060556,.int .u32 883997877,.int .u32 958139571,.int .u32 1322822218,.int .u32 1537002063,.int .u32 1747873779,.int .u32 1955562222,.int .u32 2024104815,.int .u32 2227730452,.int .u32 2361852424,.int .u32 2428436474,.int .u32 2756734187,.int .u32 3204031479,.int .u32 3329325298]),(5,.cells [.int .u8 128])]) 6))]
 :=cP.of U U U
abbrev RM:Prop:=V.int aj (IntKind.i64.wrap ((Int.ofNat s.length)+(Int.ofNat (k+1))))=iW (s.length+(k+1))
abbrev RN:Prop:=V.int aj ((Int.ofNat (s.length+(k+1))).tmod (64:Int))=iW ((s.length+(k+1))%64)
theorem afl:c5 ze [(17,.c9 (iW (s.length+(k+1)))),(18,.c9 (iW ((s.length+(k+1))%64))),(19,.split)] 3 Tryz.f116 [0,3,4,5] (dr (dr (dO (dh 4 Ea)))) (sOa s k) [([((Int.ofNat ((s.length+(k+1))%64) !=(56:Int)),true)],
   [RM s k,RN s k,(0<k+1),(0+(k+1)*1<=(zs k).length),(0<1),(eP (k+1+1) 1 1=true)],
   .to .normal (sOz s (k+1) (List.take ((k+1)*1) (List.drop 0 (zs k))++[0]))),
  ([((Int.ofNat ((s.length+(k+1))%64) !=(56:Int)),false)],
   [RM s k,RN s k],
   .to (.exit 0) (sOa s k))]
 :=cP.of U U U
theorem amA:c5 ze [] 3 Tryz.f116 [3,4,6] (dO (dh 5 Ea)) (sOa s k) [([],
   [(0+(k+1)<=(zs k).length),(s.length+(eM (List.take (k+1) (List.drop 0 (zs k)))).length<=9223372036854775807),(0+(k+1)<=(zs k).length),((s++eM (List.take (k+1) (List.drop 0 (zs k)))).length+(vp (IntKind.u64.wrap ((8:Int)*IntKind.u64.wrap (Int.ofNat s.length)))).length<=9223372036854775807)],
   .to .normal (XF qS (s++eM (List.take (k+1) (List.drop 0 (zs k)))++vp (IntKind.u64.wrap ((8:Int)*IntKind.u64.wrap (Int.ofNat s.length)))) []))]
 :=cP.of U U U
theorem amB:c5 ze [] 3 Tryz.f116 [3,4,6,7] (dO (dO (dh 6 Ea))) (XF q m []) [([],
   [],
   .to .normal (XF q m [(7,iW 0)]))]
 :=cP.of U U U
theorem afm:c5 ze [(36,.split),(43,.c9 (iW (64*i+64))),(38,.c9 (iW (64*(i+1))))] 3 Tryz.f116 [3,4,6,7] (dr (dr (dY (dO (dh 6 Ea))))) (XF q m [(7,iW (64*i))]) [([((decide (Int.ofNat (64*i)<(Int.ofNat m.length))),true)],
   [(V.int aj (IntKind.i64.wrap (Int.ofNat (64*i)+(64:Int)))=iW (64*i+64)),((0:Int)<=Int.ofNat (64*i+64)/\Int.ofNat (64*i+64)<=(Int.ofNat m.length)),((0:Int)<=Int.ofNat (64*i)/\Int.ofNat (64*i)<=(Int.ofNat (64*i+64))),(64<=(List.drop (64*i) (List.take (64*i+64) m)).length),(V.agg (List.take 64 (List.drop 0 (List.map (fun x=>V.int IntKind.u32 x) gR)))=aR),(V.int aj (IntKind.i64.wrap (Int.ofNat (64*i)+(64:Int)))=iW (64*(i+1)))],
   .to .normal (XF (yU gR (Bv m (64*i)) q) m [(7,iW (64*(i+1)))])),
  ([((decide (Int.ofNat (64*i)<(Int.ofNat m.length))),false)],
   [],
   .to (.exit 2) (XF q m [(7,iW (64*i))]))]
 :=cP.of U U U
theorem amC:c5 ze [] 3 Tryz.f116 [] (dh 7 Ea) (XF q m [(7,iW (64*i))]) [([],
   [((0:Int)<=(0:Int)/\(0:Int)<(8:Int)),(0+(fW (IntKind.u64.wrap q.1)).length<=9223372036854775807),((0:Int)<=(1:Int)/\(1:Int)<(8:Int)),((([]:aa)++fW (IntKind.u64.wrap q.1)).length+(fW (IntKind.u64.wrap q.2.1)).length<=9223372036854775807),((0:Int)<=(2:Int)/\(2:Int)<(8:Int)),((([]:aa)++fW (IntKind.u64.wrap q.1)++fW (IntKind.u64.wrap q.2.1)).length+(fW (IntKind.u64.wrap q.2.2.1)).length<=9223372036854775807),((0:Int)<=(3:Int)/\(3:Int)<(8:Int)),((([]:aa)++fW (IntKind.u64.wrap q.1)++fW (IntKind.u64.wrap q.2.1)++fW (IntKind.u64.wrap q.2.2.1)).length+(fW (IntKind.u64.wrap q.2.2.2.1)).length<=9223372036854775807),((0:Int)<=(4:Int)/\(4:Int)<(8:Int)),((([]:aa)++fW (IntKind.u64.wrap q.1)++fW (IntKind.u64.wrap q.2.1)++fW (IntKind.u64.wrap q.2.2.1)++fW (IntKind.u64.wrap q.2.2.2.1)).length+(fW (IntKind.u64.wrap q.2.2.2.2.1)).length<=9223372036854775807),((0:Int)<=(5:Int)/\(5:Int)<(8:Int)),((([]:aa)++fW (IntKind.u64.wrap q.1)++fW (IntKind.u64.wrap q.2.1)++fW (IntKind.u64.wrap q.2.2.1)++fW (IntKind.u64.wrap q.2.2.2.1)++fW (IntKind.u64.wrap q.2.2.2.2.1)).length+(fW (IntKind.u64.wrap q.2.2.2.2.2.1)).length<=9223372036854775807),((0:Int)<=(6:Int)/\(6:Int)<(8:Int)),((([]:aa)++fW (IntKind.u64.wrap q.1)++fW (IntKind.u64.wrap q.2.1)++fW (IntKind.u64.wrap q.2.2.1)++fW (IntKind.u64.wrap q.2.2.2.1)++fW (IntKind.u64.wrap q.2.2.2.2.1)++fW (IntKind.u64.wrap q.2.2.2.2.2.1)).length+(fW (IntKind.u64.wrap q.2.2.2.2.2.2.1)).length<=9223372036854775807),((0:Int)<=(7:Int)/\(7:Int)<(8:Int)),((([]:aa)++fW (IntKind.u64.wrap q.1)++fW (IntKind.u64.wrap q.2.1)++fW (IntKind.u64.wrap q.2.2.1)++fW (IntKind.u64.wrap q.2.2.2.1)++fW (IntKind.u64.wrap q.2.2.2.2.1)++fW (IntKind.u64.wrap q.2.2.2.2.2.1)++fW (IntKind.u64.wrap q.2.2.2.2.2.2.1)).length+(fW (IntKind.u64.wrap q.2.2.2.2.2.2.2)).length<=9223372036854775807)],
   .ret (.str (([]:aa)++fW (IntKind.u64.wrap q.1)++fW (IntKind.u64.wrap q.2.1)++fW (IntKind.u64.wrap q.2.2.1)++fW (IntKind.u64.wrap q.2.2.2.1)++fW (IntKind.u64.wrap q.2.2.2.2.1)++fW (IntKind.u64.wrap q.2.2.2.2.2.1)++fW (IntKind.u64.wrap q.2.2.2.2.2.2.1)++fW (IntKind.u64.wrap q.2.2.2.2.2.2.2))) (hL []) 3)]
 :=cP.of U U U
end
theorem Vn{s t:aa}{j:Nat}(h:64*j+64<=s.length):Bv (s++t) (64*j)=Bv s (64*j):=by
 unfold Bv;rw[bW h]
theorem Fb(rd:List Int)(s t:aa)(q:E8):∀n,64*n<=s.length->jH rd (s++t) q n=jH rd s q n
 |0,_=>rfl
 |n+1,h=>by
  show yU rd (Bv (s++t) (64*n)) (jH rd (s++t) q n)=yU rd (Bv s (64*n)) (jH rd s q n);rw[Vn be,Fb rd s t q n be]
theorem Db(rd:List Int)(m:aa)(q:E8)(n0:Nat):∀k,jH rd m q (n0+k)=jH rd (m.drop (64*n0)) (jH rd m q n0) k
 |0=>rfl
 |k+1=>by
  show yU rd (Bv m (64*(n0+k))) (jH rd m q (n0+k))=yU rd (Bv (m.drop (64*n0)) (64*k)) _;rw[Db rd m q n0 k];congr 1;unfold Bv;rw[List.take_drop,List.drop_drop,show 64*n0+(64*k+64)=64*(n0+k)+64 by omega,show 64*n0+64*k=64*(n0+k)by omega]
section
variable(s:aa)
def zf:aa:=s++(128::List.replicate (gU s) 0)++l7 (Int.ofNat (s.length*8))
theorem IP:(zf s).length=s.length/64*64+(mL s).length/\(mL s).length%64=0:=by
 unfold zf mL gU;simp only[ax,aS,bJ,bX,bg,bO];have:(l7 (Int.ofNat (s.length*8))).length=8:=rfl;rw[this];omega
theorem Oi:(zf s).drop (64*(s.length/64))=mL s:=by
 unfold zf mL;rw[aT,bz,List.drop_append_of_le_length be,Nat.mul_comm 64,bz,bz];rfl
theorem Vo:Qq (jH gR (zf s) (Kn gS) ((zf s).length/64))=D2 s:=by
 unfold D2 Qr;congr 1;obtain⟨h1,h2⟩:=IP s;have e:(zf s).length/64=s.length/64+(mL s).length/64:=by omega
 rw[e,Db,Oi];congr 1;unfold zf;rw[bz];exact Fb gR s _ (Kn gS) _ be
end
section
variable(k:Nat)(x:Int)
theorem Dc:(zs k).length=k+1:=by unfold zs;rw[aS,bJ]
theorem Vp:List.take ((k+1)*1) (List.drop 0 (zs k))++[0]=zs (k+1):=by
 rw[bu,bq (by rw[Dc];omega)];unfold zs;rw[List.cons_append,List.replicate_succ']
theorem RO:eM (List.take (k+1) (List.drop 0 (zs k)))=128::List.replicate k 0:=by
 rw[bu,bq (by rw[Dc];omega)];unfold zs eM;rw[bV,List.map_replicate];rfl
theorem amD:IntKind.u64.wrap (IntKind.u64.wrap x)=IntKind.u64.wrap (IntKind.i64.wrap x):=by
 have h:∀y:Int,IntKind.u64.wrap y=y%18446744073709551616:=fun _=>rfl;have h2:IntKind.i64.wrap x=(if(decide (x%18446744073709551616>=9223372036854775808))=true then x%18446744073709551616-18446744073709551616 else x%18446744073709551616):=rfl;rw[h,h,h,h2];split<;>omega
theorem aaF:fW (IntKind.u64.wrap x)=wB x:=by
 have h:IntKind.u64.wrap x=x%18446744073709551616:=rfl;rw[amm _ (by rw[h];omega) (by rw[h];omega)];unfold wB dK pB;rw[amD]
end
section
variable(s:aa)
theorem amE(hs:s.length<=1000000000):TG ak 3 Tryz.f116.ntmps Ea (cR [.str s] .nil 3) (fB ak 3 Tryz.f116 fun u _ _=>u= .str (D2 s)):=by
 refine iJ  4 G5 (amz s) cQ ?_;refine tw [(5,.u8)] (s2:=sOa s 0) U ?_;show TG _ _ _ (dh 4 Ea) _ _;have hz:gU s<64:=Nat.mod_lt _ dN;have hzm:(s.length+(gU s+1))%64=56:=by unfold gU;omega
 have GZ:∀k,k<gU s->(s.length+(k+1))%64≠56:=fun k hk=>by unfold gU at hk;omega
 have ha:∀k,k<=gU s->V.int aj (IntKind.i64.wrap ((Int.ofNat s.length)+(Int.ofNat (k+1))))=iW (s.length+(k+1))/\V.int aj ((Int.ofNat (s.length+(k+1))).tmod (64:Int))=iW ((s.length+(k+1))%64):=fun k hk=>
  ⟨pP de be,aN (V.int aj) (by rw[lA,cz be];rfl)⟩
 refine cV U ?_;refine jv 0 (gU s) (fun k=>sOa s k) U U .refl (fun k hk=>?_) ?_
 . refine fV G5 (afl s k) fun g hg hc=>?_;rcases jk hg with rfl|rfl
   . refine⟨fm ((ha k be).1) (fm ((ha k be).2) (fm be (fm (by rw[Dc];omega) (fm dN (e9 (ji be)))))),fun s1 fP=>?_⟩;rw[Vp]at fP;exact .norm fP
   . have h:=hc _ (aq.2 rfl);dsimp only at h;have:Int.ofNat ((s.length+(k+1))%64)=56:=by simpa using h
     exact absurd (Int.ofNat.inj this) (GZ k hk)
 . refine fV G5 (afl s (gU s)) fun g hg hc=>?_;rcases jk hg with rfl|rfl
   . have h:=hc _ (aq.2 rfl);dsimp only at h;rw[hzm]at h;exact absurd h dN
   refine⟨fm ((ha _ (aA _)).1) (e9 ((ha _ (aA _)).2)),fun s1 fP=>⟨by simp,?_⟩⟩;rw[dV];refine c6 fP ?_;show TG _ _ _ (dh 5 Ea) _ _;refine cV U ?_;refine fV G5 (amA s (gU s)) (dI ?_);have hx:IntKind.u64.wrap ((8:Int)*IntKind.u64.wrap (Int.ofNat s.length))=Int.ofNat (s.length*8):=by
    show(8*(Int.ofNat s.length%18446744073709551616))%18446744073709551616=_;rw[lA,lA];omega
   have amF:s++eM (List.take (gU s+1) (List.drop 0 (zs (gU s))))++vp (IntKind.u64.wrap ((8:Int)*IntKind.u64.wrap (Int.ofNat s.length)))=zf s:=by
    rw[RO,hx,afh _ de de];rfl
   have Nu:(eM (List.take (gU s+1) (List.drop 0 (zs (gU s))))).length=gU s+1:=by rw[RO,aS,bJ]
   have G2:∀x,(vp x).length=8:=fun _=>rfl;refine⟨fm (by rw[Dc];omega) (fm (by rw[Nu];omega) (fm (by rw[Dc];omega) (e9 (by rw[ax,Nu,G2];omega)))),fun s2 jd=>?_⟩;rw[amF]at jd;refine c6 jd ?_;have hml:=IP s;have rq:=Vo s;have hmb:(zf s).length<=2000000000:=by
    unfold zf;rw[ax,ax,aS,bJ];have:(l7 (Int.ofNat (s.length*8))).length=8:=rfl;omega
   obtain⟨n,hn⟩:∃n,(zf s).length=64*n:=⟨(zf s).length/64,be⟩;rw[hn,show 64*n/64=n by omega]at rq;generalize zf s=m at hn rq hmb ⊢;show TG _ _ _ (dh 6 Ea) _ _;refine cV U ?_;refine cV U ?_;refine fV G5 (amB qS m) (dI ?_);refine⟨cQ,fun s3 xW=>?_⟩;refine jv 2 n (fun i=>XF (jH gR m (Kn gS) i) m [(7,iW (64*i))]) U U (.norm xW) (fun i hi=>?_) ?_
   . refine fV G5 (afm (jH gR m (Kn gS) i) m i) fun g hg hc=>?_;rcases jk hg with rfl|rfl
     . refine⟨fm (pP de be) (fm (⟨az _,de⟩) (fm (⟨az _,de⟩) (fm (by rw[bX,bg];omega) (fm (rfl) (e9 (pP de be)))))),fun s4 IN=>.norm IN⟩
     . exact absurd (aK (hc _ (aq.2 rfl))) de
   . refine fV G5 (afm (jH gR m (Kn gS) n) m n) fun g hg hc=>?_;rcases jk hg with rfl|rfl
     . exact absurd (aH (hc _ (aq.2 rfl))) de
     refine⟨cQ,fun s4 IN=>⟨by simp,?_⟩⟩;rw[dV];refine c6 IN ?_;refine fu G5 (amC (jH gR m (Kn gS) n) m n) (dI ?_);refine⟨?_,_,_,_,rfl,?_⟩
     . repeat' (first|exact cQ|refine jn ?_ ?_)
       all_goals first|exact⟨dN,dN⟩|exact au rfl
     . rw[<- rq];unfold Qq;simp only[aaF,gd,cD]
end
def K8:ag->Option (ah×V)
 | [.str s]=>some ([s.length<=1000000000],.str (D2 s))
 |_=>none
theorem aaG:jC ak 116 (jG K8):=by
 refine jV (au U) fun args A v e=>?_;unfold K8 at e;split at e
 . obtain⟨rfl,rfl⟩:=eY e;exact⟨rfl,U,fun hA=>gM mo po Tryz.func116 U U rfl (amE _ (hA _ (by simp)))⟩
 . cases e
noncomputable abbrev W21:jJ:=kj 116 (jG K8) W20
theorem RP:fU ak W21:=fe aaG RJ
noncomputable abbrev Vq:eX:=gC ak W21 H0 1000 40
noncomputable abbrev X21:CX ak:=CX.of mo po RP H0 1000 40
noncomputable abbrev RQ:Code:=dU Tryz.f117
noncomputable abbrev amH:Code:=dr (dr (dY (dO (dh 2 RQ))))
section
variable(f:Bool)(ps:List (aa))(gl:aa)(i:Nat)
def sPi:St:=eG [(0,.dL f ps.length (strs ps)),(3,.str gl),(4,iW i)] (hL []) 3
theorem amI:c5 Vq [] 3 Tryz.f117 [0,3] (eR 2 RQ) (cR [.dL f ps.length (strs ps)] .nil 3) [([],
   [],
   .to .normal (eG [(0,.dL f ps.length (strs ps)),(3,.str [])] (hL []) 3))]
 :=cP.of U U U
theorem amJ:c5 Vq [] 3 Tryz.f117 [0,3,4] (dO (dO (dh 2 RQ))) (eG [(0,.dL f ps.length (strs ps)),(3,.str [])] (hL []) 3) [([],
   [],
   .to .normal (sPi f ps [] 0))]
 :=cP.of U U U
theorem afp(p:aa)(i:Nat):c5 Vq [(8,.split),(14,.c9 (.dm [.str p])),(22,.c9 (.dm [.str p])),(10,.c9 (iW (i+1)))] 3 Tryz.f117 [0,3,4] (amH) (sPi f ps gl i) [([((decide (Int.ofNat i<(Int.ofNat ps.length))),true)],
   [((0:Int)<=Int.ofNat i/\Int.ofNat i<(Int.ofNat ps.length)),((strs ps).length=ps.length*1),(V.dm (dw (strs ps) (i*1) 1)=V.dm [D.str p]),(gl.length+(vp (IntKind.u64.wrap (Int.ofNat p.length))).length<=9223372036854775807),((0:Int)<=Int.ofNat i/\Int.ofNat i<(Int.ofNat ps.length)),((strs ps).length=ps.length*1),(V.dm (dw (strs ps) (i*1) 1)=V.dm [D.str p]),((gl++vp (IntKind.u64.wrap (Int.ofNat p.length))).length+p.length<=9223372036854775807),(V.int aj (IntKind.i64.wrap (Int.ofNat i+(1:Int)))=iW (i+1))],
   .to .normal (eG [(0,.dL f (ps.length) (strs ps)),(3,.str (gl++vp (IntKind.u64.wrap (Int.ofNat p.length))++p)),(4,.int .i64 (Int.ofNat (i+1)))] (hL []) 3)),
  ([((decide (Int.ofNat i<(Int.ofNat ps.length))),false)],
   [],
   .to (.exit 0) (eG [(0,.dL f (ps.length) (strs ps)),(3,.str gl),(4,.int .i64 (Int.ofNat i))] (hL []) 3))]
 :=cP.of U U U
theorem amK:c5 Vq [] 3 Tryz.f117 [] (dY (dh 2 RQ)) (sPi f ps gl i) [([],
   [],
   .ret (.str gl) (hL []) 3)]
 :=cP.of U U U
end
theorem K9{ps:List (aa)}{i:Nat}(h:i<ps.length):eF (ps.take (i+1))=eF (ps.take i)++l7 (Int.ofNat (ps[i]).length)++ps[i]:=by
 unfold eF;rw[bI,ay h,cB,List.flatMap_append,List.flatMap_singleton,bz]
theorem Oj(ps:List (aa))(i:Nat):(eF (ps.take i)).length<=(eF ps).length:=by
 conv=>rhs;rw[<- ck i ps]
 unfold eF;rw[List.flatMap_append,ax];omega
theorem amL(f:Bool)(ps:List (aa))(hp:ps.length<=1000000)(hj:(eF ps).length<=1000000000):TG ak 3 Tryz.f117.ntmps RQ (cR [.dL f ps.length (strs ps)] .nil 3) (fB ak 3 Tryz.f117 fun u _ _=>u= .str (eF ps)):=by
 refine iJ  2 X21 (amI f ps) cQ ?_;refine cV U ?_;refine cV U ?_;refine fV X21 (amJ f ps) (dI ?_);refine⟨cQ,fun s' dX=>?_⟩;refine jv 0 ps.length (fun i=>sPi f ps (eF (ps.take i)) i) U U (.norm dX) (fun i hi=>?_) ?_
 . have hn:=K9 hi;have h1:=Oj ps (i+1);have kH:=aN V.dm (fD (ay hi));have hx:IntKind.u64.wrap (Int.ofNat ps[i].length)=Int.ofNat ps[i].length:=by
    have:ps[i].length<=1000000000:=by rw[hn,ax]at h1;omega
    show Int.ofNat ps[i].length%18446744073709551616=_;rw[lA];omega
   have hlp:ps[i].length<=1000000000:=by rw[hn,ax]at h1;omega
   refine fV X21 (afp f ps (eF (ps.take i)) ps[i] i) fun g hg hc=>?_;have h8:∀x,(vp x).length=8:=fun _=>rfl;have h8':(l7 (Int.ofNat ps[i].length)).length=8:=rfl;rcases jk hg with rfl|rfl
   . rw[hn,ax,ax]at h1;refine⟨fm (⟨az _,de⟩) (fm (by rw[eI];omega) (fm (kH) (fm (by rw[h8];omega) (fm (⟨az _,de⟩) (fm (by rw[eI];omega) (fm (kH) (fm (by rw[ax,h8];omega) (e9 (pP de be))))))))),fun s1 fP=>?_⟩;rw[hx,afh _ de de]at fP;show gy _ _ _ _ (sPi f ps (eF (ps.take (i+1))) (i+1));rw[hn];exact .norm fP
   . exact absurd (aK (hc _ (aq.2 rfl))) de
 . refine fV X21 (afp f ps (eF (ps.take ps.length)) [] ps.length) fun g hg hc=>?_;rcases jk hg with rfl|rfl
   . exact absurd (aH (hc _ (aq.2 rfl))) de
   refine⟨cQ,fun s1 fP=>⟨by simp,?_⟩⟩;rw[dV];refine c6 fP ?_;refine fu X21 (amK f ps (eF (ps.take ps.length)) ps.length) (dI ?_);exact⟨cQ,_,_,_,rfl,by rw[aT]⟩
def La:ai->Option (ah×V)
 | [.dL n cs]=>some ([cs=strs (dF cs),n=(dF cs).length,n<=1000000,(eF (dF cs)).length<=1000000000],.str (eF (dF cs)))
 |_=>none
theorem aaH:jC ak 117 (Go.Eng.dW La):=by
 refine vc (au U) fun args A v e hA=>?_;unfold La at e;split at e
 case h_2=>cases e
 rename_i n cs;simp only[an,aB]at e;obtain⟨rfl,rfl⟩:=e;have e1:cs=strs (dF cs):=hA _ (by simp);have e2:n=(dF cs).length:=hA (n=(dF cs).length) (by simp);have e3:n<=1000000:=hA (n<=1000000) (by simp);have e4:(eF (dF cs)).length<=1000000000:=hA ((eF (dF cs)).length<=1000000000) (by simp);generalize dF cs=ps at *;subst e1 e2;exact gO mo po Tryz.func117 U U rfl rfl (fb (amL false ps e3 e4) fun y s h=>jW h)
noncomputable abbrev W22:jJ:=kj 117 (Go.Eng.dW La) W21
theorem RT:fU ak W22:=fe aaH RP
noncomputable abbrev Vr:eX:=gC ak W22 H0 1000 40
noncomputable abbrev X22:CX ak:=CX.of mo po RT H0 1000 40
noncomputable abbrev Ol:Code:=dU Tryz.f69
noncomputable abbrev amN:Code:=dr (dr (dY (dO (dh 2 Ol))))
section
variable(rs ds:List (aa))(i:Nat)
def sDi:St:=eG [(1,.dL false rs.length (strs rs)),(5,.di (some (3,0)) ds.length ds.length 1),(6,iW i)] (hL [(3,.deep (strs ds))]) 4
theorem amO(ps:List (aa)):c5 Vr [] 3 Tryz.f92 [] (dU Tryz.f92) (cR [.dL false ps.length (strs ps)] .nil 3) [([],
   [(strs ps=strs (dF (strs ps))),(ps.length=(dF (strs ps)).length),(ps.length<=1000000),((eF (dF (strs ps))).length<=1000000000),((eF (dF (strs ps))).length<=1000000000)],
   .ret (.str (D2 (eF (dF (strs ps))))) (hL []) 3)]
 :=cP.of U U U
theorem amP(d:aa)(rs:List (aa)):c5 Vr [] 3 Tryz.f69 [1,5] (eR 2 Ol) (cR [.str d,.dL false rs.length (strs rs)] .nil 3) [([],
   [],
   .to .normal (eG [(1,.dL false (rs.length) (strs rs)),(5,.di (some (3,0)) 1 1 1)] (hL [(3,.cells [.str d])]) 4))]
 :=cP.of U U U
theorem amQ:c5 Vr [] 3 Tryz.f69 [1,5,6] (dO (dO (dh 2 Ol))) (eG [(1,.dL false rs.length (strs rs)),(5,.di (some (3,0)) ds.length ds.length 1)] (hL [(3,.deep (strs ds))]) 4) [([],
   [],
   .to .normal (sDi rs ds 0))]
 :=cP.of U U U
theorem afs(p:aa):c5 Vr [(12,.split),(18,.c9 (.dm [.str p])),(14,.c9 (iW (i+1)))] 3 Tryz.f69 [1,5,6] (amN) (sDi rs ds i) [([((decide (Int.ofNat i<(Int.ofNat rs.length))),true)],
   [((0:Int)<=Int.ofNat i/\Int.ofNat i<(Int.ofNat rs.length)),((strs rs).length=rs.length*1),(V.dm (dw (strs rs) (i*1) 1)=V.dm [D.str p]),(0+ds.length*1<=(strs ds).length),(0<1),(eP (ds.length+1) 1 16=true),(V.int aj (IntKind.i64.wrap (Int.ofNat i+(1:Int)))=iW (i+1))],
   .to .normal (eG [(1,.dL false (rs.length) (strs rs)),(5,.di (some (3,0)) (ds.length+1) (ds.length+1) 1),(6,.int .i64 (Int.ofNat (i+1)))] (hL [(3,.deep (List.take (ds.length*1) (List.drop 0 (strs ds))++[D.str p]))]) 4)),
  ([((decide (Int.ofNat i<(Int.ofNat rs.length))),false)],
   [],
   .to (.exit 0) (eG [(1,.dL false (rs.length) (strs rs)),(5,.di (some (3,0)) (ds.length) (ds.length) 1),(6,.int .i64 (Int.ofNat i))] (hL [(3,.deep (strs ds))]) 4))]
 :=cP.of U U U
end
def Lb:ai->Option (ah×V)
 | [.dL n cs]=>some ([cs=strs (dF cs),n=(dF cs).length,n<=1000000,(eF (dF cs)).length<=1000000000],.str (D2 (eF (dF cs))))
 |_=>none
theorem aaI:jC ak 92 (Go.Eng.dW Lb):=by
 refine vc (au U) fun args A v e hA=>?_;unfold Lb at e;split at e
 case h_2=>cases e
 rename_i n cs;simp only[an,aB]at e;obtain⟨rfl,rfl⟩:=e;have e1:cs=strs (dF cs):=hA _ (by simp);have e2:n=(dF cs).length:=hA (n=(dF cs).length) (by simp);have e3:n<=1000000:=hA (n<=1000000) (by simp);have e4:(eF (dF cs)).length<=1000000000:=hA ((eF (dF cs)).length<=1000000000) (by simp);generalize dF cs=ps at *;subst e1 e2;refine gO mo po Tryz.func92 (code:=dU Tryz.f92) U U rfl rfl (fb (Q1:=fB ak 3 Tryz.f92 fun u _ _=>u= .str (D2 (eF ps))) ?_ fun y s h=>jW h);obtain⟨L,hr⟩:=amO ps;simp only[ic]at hr;refine ia X22 mo _ U hr (dI ?_);exact⟨fm trivial (fm trivial (fm e3 (fm e4 (e9 e4)))),_,_,_,rfl,rfl⟩
noncomputable abbrev W23:jJ:=kj 92 (Go.Eng.dW Lb) W22
theorem RU:fU ak W23:=fe aaI RT
noncomputable abbrev amS:eX:=gC ak W23 H0 1000 40
noncomputable abbrev X23:CX ak:=CX.of mo po RU H0 1000 40
theorem amT(ds:List (aa)):c5 amS [] 3 Tryz.f69 [] (dY (dh 2 Ol)) (eG [(5,.dL false ds.length (strs ds))] (hL []) 3) [([],
   [(strs ds=strs (dF (strs ds))),(ds.length=(dF (strs ds)).length),(ds.length<=1000000),((eF (dF (strs ds))).length<=1000000000)],
   .ret (.str (D2 (eF (dF (strs ds))))) (hL []) 3)]
 :=cP.of U U U
theorem amU(d:aa)(rs:List (aa))(DT:rs.length<=100000)(hj:(eF (d::rs)).length<=1000000000):TG ak 3 Tryz.f69.ntmps Ol (cR [.str d,.dL false rs.length (strs rs)] .nil 3) (fB ak 3 Tryz.f69 fun u _ _=>u= .str (dJ d rs)):=by
 refine iJ  2 X22 (amP d rs) cQ ?_;refine(gy.deep [3] (S:=eG [(1,.dL false rs.length (strs rs)),(5,.di (some (3,0)) [d].length [d].length 1)] (hL [(3,.deep (strs [d]))]) 4) U) _ _ ?_;show TG _ _ _ (dh 2 Ol) _ _;refine cV U ?_;refine cV U ?_;refine fV X22 (amQ rs [d]) (dI ?_);refine⟨cQ,fun s' dX=>?_⟩;refine jv 0 rs.length (fun i=>sDi rs (d::rs.take i) i) U U (.norm dX) (fun i hi=>?_) ?_
 . have kH:=aN V.dm (fD (ay hi));have hl:(d::rs.take i).length=i+1:=by rw[aS,bg];omega
   have hn:d::rs.take (i+1)=(d::rs.take i)++[rs[i]]:=by
    rw[bI,ay hi,cB];rfl
   show TG _ _ _ _ _ (andThen (fun s'=>gy ak 3 Tryz.f69.ntmps s' (sDi rs (d::rs.take (i+1)) (i+1))) _);rw[hn];generalize d::rs.take i=ds at hl ⊢;refine fV X22 (afs rs ds i rs[i]) fun g hg hc=>?_;rcases jk hg with rfl|rfl
   . refine⟨fm (⟨az _,de⟩) (fm (by rw[eI];omega) (fm (kH) (fm (by rw[eI];omega) (fm dN (fm (pM be) (e9 (pP de be))))))),fun s1 fP=>?_⟩;have e:List.take (ds.length*1) (List.drop 0 (strs ds))++[D.str rs[i]]=strs (ds++[rs[i]]):=by
      rw[bu,bj,bq (by rw[eI];omega),C7];rfl
     rw[e]at fP;unfold sDi;rw[ax];exact .norm fP
   . exact absurd (aK (hc _ (aq.2 rfl))) de
 . refine fV X22 (afs rs (d::rs.take rs.length) rs.length []) fun g hg hc=>?_;rcases jk hg with rfl|rfl
   . exact absurd (aH (hc _ (aq.2 rfl))) de
   refine⟨cQ,fun s1 fP=>⟨by simp,?_⟩⟩;rw[dV];rw[aT]at fP;have hdl:(d::rs).length<=1000000:=by rw[aS];omega
   show TG _ _ _ _ _ (fB ak 3 Tryz.f69 fun u _ _=>u= .str (D2 (eF (d::rs))));generalize d::rs=ds at fP hdl hj ⊢;refine((gy.norm fP).trans (.norm (live:=[5]) (S:=eG [(5,.di (some (3,0)) ds.length ds.length 1)] (hL [(3,.deep (strs ds))]) 4) U)) _ _ ?_;refine xz [3] (A:=[(strs ds).length=ds.length*1]) (s2:=eG [(5,.dL false ds.length (strs ds))] ((hL [(3,.deep (strs ds))]).set 3 none) 4) U (e9 (by rw[eI,bj])) ?_;refine c6 (live:=[5]) (s2:=eG [(5,.dL false ds.length (strs ds))] (hL []) 3) U ?_;obtain⟨L4,G4⟩:=amT ds;simp only[ic]at G4;refine ia X23 mo _ U G4 (dI ?_);exact⟨fm trivial (fm trivial (fm hdl (e9 hj))),_,_,_,rfl,rfl⟩
def Lc:ai->Option (ah×V)
 | [.str d,.dL n cs]=>some ([cs=strs (dF cs),n=(dF cs).length,n<=100000,(eF (d::dF cs)).length<=1000000000],.str (dJ d (dF cs)))
 |_=>none
theorem RV:jC ak 69 (Go.Eng.dW Lc):=by
 refine vc (au U) fun args A v e hA=>?_;unfold Lc at e;split at e
 case h_2=>cases e
 rename_i d n cs;simp only[an,aB]at e;obtain⟨rfl,rfl⟩:=e;have e1:cs=strs (dF cs):=hA _ (by simp);have e2:n=(dF cs).length:=hA (n=(dF cs).length) (by simp);have e3:n<=100000:=hA (n<=100000) (by simp);have e4:(eF (d::dF cs)).length<=1000000000:=hA ((eF (d::dF cs)).length<=1000000000) (by simp);generalize dF cs=ps at *;subst e1 e2;exact gO mo po Tryz.func69 U U rfl rfl (fb (amU d ps e3 e4) fun y s h=>jW h)
def gp:ai->List gK
 | .str a:: .str b:: .dL _ cs::r=>⟨a,b,dF cs⟩::gp r
 |_=>[]
def o5:ai->List (aa×aa)
 | .str a:: .str b::r=>(a,b)::o5 r
 |_=>[]
theorem jK:∀l:List gK,gp (fq l)=l
 | []=>rfl
 |c::l=>by
  show gK.mk c.dg c.da (dF (strs c.rs))::gp (fq l)=_;rw[ic,jK l]
theorem rz:∀l:List (aa×aa),o5 (ff l)=l
 | []=>rfl
 |p::l=>by
  show(p.1,p.2)::o5 (ff l)=_;rw[rz l]
abbrev IQ(n:Nat)(cs:ai)(m:Nat)(rs:ai):ah:=[cs=fq (gp cs),n=(gp cs).length,rs=ff (o5 rs),m=(o5 rs).length,n<=1000000,m<=1000000]
def Ld:ai->Option (ah×V)
 | [.agg [.dL n cs,.dL m rs],.str x]=>some (IQ n cs m rs,.int .i64 (gj (gp cs) x))
 |_=>none
def Le:ai->Option (ah×V)
 | [.agg [.dL n cs,.dL m rs],.str x]=>some (IQ n cs m rs,.str (gG x (o5 rs)))
 |_=>none
theorem tG{n m:Nat}{cs rs:ai}(h:∀a∈IQ n cs m rs,a):∃s:RS,cs=fq s.cs/\n=s.cs.length/\rs=ff s.ro/\m=s.ro.length/\s.cs.length<=1000000/\s.ro.length<=1000000/\gp cs=s.cs/\o5 rs=s.ro:=by
 have h1:=h (cs=fq (gp cs)) (by simp);have h2:=h (n=(gp cs).length) (by simp);have h3:=h (rs=ff (o5 rs)) (by simp);have h4:=h (m=(o5 rs).length) (by simp);have h5:=h (n<=1000000) (by simp);have h6:=h (m<=1000000) (by simp);exact⟨⟨gp cs,o5 rs⟩,h1,h2,h3,h4,by show(gp cs).length<=_;omega,by show(o5 rs).length<=_;omega,rfl,rfl⟩
theorem aaJ:jC ak 70 (Go.Eng.dW Ld):=by
 refine vc (au U) fun args A v e hA=>?_;unfold Ld at e;split at e
 case h_2=>cases e
 rename_i n cs m rs x;simp only[an,aB]at e;obtain⟨rfl,rfl⟩:=e;obtain⟨s,h1,h2,h3,h4,h5,h6,h7,h8⟩:=tG hA;rw[h7];clear h7 h8 hA;subst h1 h2 h3 h4;exact gO mo po Tryz.func70 U U rfl rfl (fb (amx s x h5) fun y s h=>jW h)
theorem aaK:jC ak 115 (Go.Eng.dW Le):=by
 refine vc (au U) fun args A v e hA=>?_;unfold Le at e;split at e
 case h_2=>cases e
 rename_i n cs m rs x;simp only[an,aB]at e;obtain⟨rfl,rfl⟩:=e;obtain⟨s,h1,h2,h3,h4,h5,h6,h7,h8⟩:=tG hA;rw[h8];clear h7 h8 hA;subst h1 h2 h3 h4;exact gO mo po Tryz.func115 U U rfl rfl (fb (amy s x h6) fun y s h=>jW h)
noncomputable abbrev W24:jJ:=kj 115 (Go.Eng.dW Le) (kj 70 (Go.Eng.dW Ld) (kj 69 (Go.Eng.dW Lc) W23))
theorem RW:fU ak W24:=fe aaK (fe aaJ (fe RV RU))
noncomputable abbrev tX:eX:=gC ak W24 H0 1000 40
noncomputable abbrev DN:CX ak:=CX.of mo po RW H0 1000 40
noncomputable abbrev xP:Code:=dU Tryz.f37
section
variable(s:RS)(d:aa)(rs:List (aa))
abbrev qJ(rs:List (aa)):V:=.dL false rs.length (strs rs)
def Mw(r:List (Nat×V)):St:=eG ([(1,.str d),(2,qJ rs),(3,.ptr (some (3,0))),(6,.ptr (some (4,0)))]++r) (hL [(3,bx s),(4,.cells [.di none 0 0 0,.di none 0 0 0,.str [],.int .i64 0,.bool false])]) 5
end
section
variable(s:RS)
theorem amW(d:aa)(rs:List (aa)):c5 tX [(13,.c9 (.bool false)),(17,.c9 (.bool false))] 3 Tryz.f37 [1,2,3,6] (eR 2 xP) (cR [s.v,.str d,qJ rs] .nil 3) [([],
   [(V.bool (decide ((Int.ofNat d.length)>(65536:Int)))=V.bool false),(V.bool (decide ((Int.ofNat rs.length)>(1024:Int)))=V.bool false)],
   .to .normal (Mw s d rs []))]
 :=cP.of U U U
noncomputable abbrev amX:Code:=dr (dr (dY (dO (dh 2 xP))))
noncomputable abbrev amY:Code:=dr (dr (dY (dO (dh 3 xP))))
theorem amZ(d:aa)(rs:List (aa)):c5 tX [] 3 Tryz.f37 [1,2,3,6,7] (dO (dO (dh 2 xP))) (Mw s d rs []) [([],
   [],
   .to .normal (Mw s d rs [(7,iW 0)]))]
 :=cP.of U U U
theorem aft(d:aa)(rs:List (aa))(i:Nat)(p:aa):c5 tX [(24,.split),(29,.c9 (.dm [.str p])),(32,.c9 (.bool false)),(26,.c9 (iW (i+1)))] 3 Tryz.f37 [1,2,3,6,7] (amX) (Mw s d rs [(7,iW i)]) [([((decide (Int.ofNat i<(Int.ofNat rs.length))),true)],
   [((0:Int)<=Int.ofNat i/\Int.ofNat i<(Int.ofNat rs.length)),((strs rs).length=rs.length*1),(V.dm (dw (strs rs) (i*1) 1)=V.dm [D.str p]),(V.bool ((Int.ofNat p.length) !=(32:Int))=V.bool false),(V.int aj (IntKind.i64.wrap (Int.ofNat i+(1:Int)))=iW (i+1))],
   .to .normal (eG [(1,.str d),(2,.dL false (rs.length) (strs rs)),(3,.ptr (some (3,0))),(6,.ptr (some (4,0))),(7,.int .i64 (Int.ofNat (i+1)))] (hL [(3,.cells [.dL false (s.cs.length) (fq s.cs),.dL false (s.ro.length) (ff s.ro)]),(4,.cells [.di none 0 0 0,.di none 0 0 0,.str [],.int .i64 0,.bool false])]) 5)),
  ([((decide (Int.ofNat i<(Int.ofNat rs.length))),false)],
   [],
   .to (.exit 0) (eG [(1,.str d),(2,.dL false (rs.length) (strs rs)),(3,.ptr (some (3,0))),(6,.ptr (some (4,0))),(7,.int .i64 (Int.ofNat i))] (hL [(3,.cells [.dL false (s.cs.length) (fq s.cs),.dL false (s.ro.length) (ff s.ro)]),(4,.cells [.di none 0 0 0,.di none 0 0 0,.str [],.int .i64 0,.bool false])]) 5))]
 :=cP.of U U U
theorem am0(d:aa)(rs:List (aa))(i:Nat):c5 tX [] 3 Tryz.f37 [1,2,3,6,8] (dO (dO (dh 3 xP))) (Mw s d rs [(7,iW i)]) [([],
   [],
   .to .normal (Mw s d rs [(8,iW 0)]))]
 :=cP.of U U U
theorem afu(d:aa)(rs:List (aa))(i:Nat)(p:aa):c5 tX [(38,.split),(44,.c9 (.dm [.str p])),(47,.split),(40,.c9 (iW (i+1)))] 3 Tryz.f37 [1,2,3,6,8] (amY) (Mw s d rs [(8,iW i)]) [([((decide (Int.ofNat i<(Int.ofNat rs.length))),true),((decide (gj (gp (fq s.cs)) p<(0:Int))),true)],
   [((0:Int)<=Int.ofNat i/\Int.ofNat i<(Int.ofNat rs.length)),((strs rs).length=rs.length*1),(V.dm (dw (strs rs) (i*1) 1)=V.dm [D.str p]),(fq s.cs=fq (gp (fq s.cs))),(s.cs.length=(gp (fq s.cs)).length),(ff s.ro=ff (o5 (ff s.ro))),(s.ro.length=(o5 (ff s.ro)).length),(s.cs.length<=1000000),(s.ro.length<=1000000)],
   .ret (.agg [.dL false (s.cs.length) (fq s.cs),.dL false (s.ro.length) (ff s.ro),.str [],.int .i64 63,.bool false]) (hL []) 3),
  ([((decide (Int.ofNat i<(Int.ofNat rs.length))),true),((decide (gj (gp (fq s.cs)) p<(0:Int))),false)],
   [((0:Int)<=Int.ofNat i/\Int.ofNat i<(Int.ofNat rs.length)),((strs rs).length=rs.length*1),(V.dm (dw (strs rs) (i*1) 1)=V.dm [D.str p]),(fq s.cs=fq (gp (fq s.cs))),(s.cs.length=(gp (fq s.cs)).length),(ff s.ro=ff (o5 (ff s.ro))),(s.ro.length=(o5 (ff s.ro)).length),(s.cs.length<=1000000),(s.ro.length<=1000000),(V.int aj (IntKind.i64.wrap (Int.ofNat i+(1:Int)))=iW (i+1))],
   .to .normal (eG [(1,.str d),(2,.dL false (rs.length) (strs rs)),(3,.ptr (some (3,0))),(6,.ptr (some (4,0))),(8,.int .i64 (Int.ofNat (i+1)))] (hL [(3,.cells [.dL false (s.cs.length) (fq s.cs),.dL false (s.ro.length) (ff s.ro)]),(4,.cells [.di none 0 0 0,.di none 0 0 0,.str [],.int .i64 0,.bool false])]) 5)),
  ([((decide (Int.ofNat i<(Int.ofNat rs.length))),false)],
   [],
   .to (.exit 2) (eG [(1,.str d),(2,.dL false (rs.length) (strs rs)),(3,.ptr (some (3,0))),(6,.ptr (some (4,0))),(8,.int .i64 (Int.ofNat i))] (hL [(3,.cells [.dL false (s.cs.length) (fq s.cs),.dL false (s.ro.length) (ff s.ro)]),(4,.cells [.di none 0 0 0,.di none 0 0 0,.str [],.int .i64 0,.bool false])]) 5))]
 :=cP.of U U U
theorem am1(d:aa)(rs:List (aa))(i:Nat):c5 tX [] 3 Tryz.f37 [1,2,3,6,9] (dO (dh 4 xP)) (Mw s d rs [(8,iW i)]) [([],
   [(strs rs=strs (dF (strs rs))),(rs.length=(dF (strs rs)).length),(rs.length<=100000),((eF (d::dF (strs rs))).length<=1000000000)],
   .to .normal (eG [(1,.str d),(2,.dL false (rs.length) (strs rs)),(3,.ptr (some (3,0))),(6,.ptr (some (4,0))),(9,.str (dJ d (dF (strs rs))))] (hL [(3,.cells [.dL false (s.cs.length) (fq s.cs),.dL false (s.ro.length) (ff s.ro)]),(4,.cells [.di none 0 0 0,.di none 0 0 0,.str [],.int .i64 0,.bool false])]) 5))]
 :=cP.of U U U
theorem am2(d:aa)(rs:List (aa))(x:aa):c5 tX [(56,.split)] 3 Tryz.f37 [1,2,3,6,9] (dO (dh 5 xP)) (Mw s d rs [(9,.str x)]) [([((decide (gj (gp (fq s.cs)) x>=(0:Int))),true)],
   [(fq s.cs=fq (gp (fq s.cs))),(s.cs.length=(gp (fq s.cs)).length),(ff s.ro=ff (o5 (ff s.ro))),(s.ro.length=(o5 (ff s.ro)).length),(s.cs.length<=1000000),(s.ro.length<=1000000)],
   .ret (.agg [.dL false (s.cs.length) (fq s.cs),.dL false (s.ro.length) (ff s.ro),.str x,.int .i64 0,.bool false]) (hL []) 3),
  ([((decide (gj (gp (fq s.cs)) x>=(0:Int))),false)],
   [(fq s.cs=fq (gp (fq s.cs))),(s.cs.length=(gp (fq s.cs)).length),(ff s.ro=ff (o5 (ff s.ro))),(s.ro.length=(o5 (ff s.ro)).length),(s.cs.length<=1000000),(s.ro.length<=1000000)],
   .to .normal (eG [(1,.str d),(2,.dL false (rs.length) (strs rs)),(3,.ptr (some (3,0))),(6,.ptr (some (4,0))),(9,.str x)] (hL [(3,.cells [.dL false (s.cs.length) (fq s.cs),.dL false (s.ro.length) (ff s.ro)]),(4,.cells [.di none 0 0 0,.di none 0 0 0,.str [],.int .i64 0,.bool false])]) 5))]
 :=cP.of U U U
theorem am3(d:aa)(rs:List (aa))(x:aa):c5 tX [] 3 Tryz.f37 [3,6,9,10] (dO (dh 6 xP)) (Mw s d rs [(9,.str x)]) [([],
   [((strs rs).length=rs.length*1),(eP (0+rs.length) 1 16=true)],
   .to .normal (eG [(3,.ptr (some (3,0))),(6,.ptr (some (4,0))),(9,.str x),(10,.ptr (some (5,0)))] (hL [(3,.cells [.dL false (s.cs.length) (fq s.cs),.dL false (s.ro.length) (ff s.ro)]),(4,.cells [.di none 0 0 0,.di none 0 0 0,.str [],.int .i64 0,.bool false]),(5,.cells [.str x,.str d,.di (some (6,0)) (0+rs.length) (0+rs.length) 1]),(6,.deep ([]++strs rs))]) 7))]
 :=cP.of U U U
def sPq(c:gK):St:=eG [(3,.ptr (some (3,0))),(6,.ptr (some (4,0))),(9,.str c.dg),(10,.ptr (some (5,0)))] (hL [(3,bx s),(4,.cells [.di none 0 0 0,.di none 0 0 0,.str [],.int .i64 0,.bool false]),(5,.cells [.str c.dg,.str c.da,.dL false c.rs.length (strs c.rs)])]) 6
theorem am4(c:gK):c5 tX [] 3 Tryz.f37 [] (dh 7 xP) (sPq s c) [([],
   [((fq s.cs).length=s.cs.length*3),(eP (0+s.cs.length) 3 56=true),(0+(0+s.cs.length)*3<=([]++fq s.cs).length),(0<1),(eP (0+s.cs.length+1) 3 56=true)],
   .ret (.agg [.di (some (3,0)) (0+s.cs.length+1) (0+s.cs.length+1) 3,.dL false (s.ro.length) (ff s.ro),.str (c.dg),.int .i64 0,.bool true]) (hL [(3,.deep (List.take ((0+s.cs.length)*3) (List.drop 0 ([]++fq s.cs))++[D.str c.dg,D.str c.da,D.dL c.rs.length (strs c.rs)]))]) 4)]
 :=cP.of U U U
end
structure RR where
 s:RS
 dg:aa
 er:Int
 ch:Bool
def RR.v(r:RR):V:=.agg [.dL false r.s.cs.length (fq r.s.cs),.dL false r.s.ro.length (ff r.s.ro),.str r.dg,.int .i64 r.er,.bool r.ch]
def kV(s:RS)(d:aa)(rs:List (aa)):RR:=
 if ∃r∈rs,gj s.cs r<0 then⟨s,[],63,false⟩
 else if 0<=gj s.cs (dJ d rs)then⟨s,dJ d rs,0,false⟩
 else⟨⟨s.cs++[⟨dJ d rs,d,rs⟩],s.ro⟩,dJ d rs,0,true⟩
theorem Mx(a b:List gK):fq (a++b)=fq a++fq b:=by unfold fq;rw[aX,cr]
theorem Dd{k:Nat}(h:k<=1000000):eP k 3 56=true:=by
 unfold eP;exact bL ⟨be,be⟩
section
variable(s:RS)(d:aa)(rs:List (aa))
abbrev okS(s:RS):ah:=[fq s.cs=fq (gp (fq s.cs)),s.cs.length=(gp (fq s.cs)).length,ff s.ro=ff (o5 (ff s.ro)),s.ro.length=(o5 (ff s.ro)).length,s.cs.length<=1000000,s.ro.length<=1000000]
theorem De{s:RS}(h1:s.cs.length<=1000000)(h2:s.ro.length<=1000000):∀a∈okS s,a:=by
 have e1:=jK s.cs;have e2:=rz s.ro;exact fm (by rw[e1]) (fm (by rw[e1]) (fm (by rw[e2]) (fm (by rw[e2]) (fm h1 (e9 h2)))))
theorem jx{a b:ah}(ha:∀x∈a,x)(hb:∀x∈b,x):∀x∈a++b,x:=fun x hx=>by
 rcases aU.1 hx with h|h
 . exact ha x h
 . exact hb x h
theorem am5(h1:s.cs.length<=100000)(h2:s.ro.length<=1000000)(hd:d.length<=65536)(hn:rs.length<=1024)(h32:∀x∈rs,x.length=32):
  TG ak 3 Tryz.f37.ntmps xP (cR [s.v,.str d,qJ rs] .nil 3) (fB ak 3 Tryz.f37 (ny (kV s d rs).v)):=by
 have iA:=De (s:=s) be h2;have hj:(eF (d::rs)).length<=1000000000:=by
  have:=jD d rs h32;omega
 refine iJ  2 DN (amW s d rs) (fm (aN V.bool (bC de)) (e9 (aN V.bool (bC de)))) ?_;show TG _ _ _ (dh 2 xP) _ _;refine cV U ?_;refine cV U ?_;obtain⟨L2,Ip⟩:=amZ s d rs;refine gT DN mo nZ U Ip (dI ?_);refine⟨cQ,fun s' dX=>?_⟩;refine jv 0 rs.length (fun i=>Mw s d rs [(7,iW i)]) U U (.norm dX) (fun i hi=>?_) ?_
 . have kH:=aN V.dm (fD (ay hi));refine fV DN (aft s d rs i rs[i]) fun g hg hc=>?_;rcases jk hg with rfl|rfl
   . have h3:=h32 rs[i] (bY hi);exact⟨fm (⟨az _,de⟩) (fm (by rw[eI];omega) (fm (kH) (fm (by rw[h3];rfl) (e9 (pP de be))))),fun s1 fP=>.norm fP⟩
   . exact absurd (aK (hc _ (aq.2 rfl))) de
 refine fV DN (aft s d rs rs.length []) fun g hg hc=>?_;rcases jk hg with rfl|rfl
 . exact absurd (aH (hc _ (aq.2 rfl))) de
 refine⟨cQ,fun s1 fP=>⟨by simp,?_⟩⟩;rw[dV];refine c6 fP ?_;show TG _ _ _ (dh 3 xP) _ _;refine cV U ?_;refine cV U ?_;refine fV DN (am0 s d rs rs.length) (dI ?_);refine⟨cQ,fun s2 jd=>?_⟩;refine js (α:=Nat) 2 (fun i=>rs.length-i) (fun i=>i<=rs.length/\∀j,(h:j<rs.length)->j<i->¬gj s.cs rs[j]<0) (fun i=>Mw s d rs [(8,iW i)]) U U 0 ⟨aW _,fun j _ h=>by omega⟩ (.norm jd) fun i ⟨hi,hf⟩=>?_;rcases bN i rs.length with fE|zO
 . have kH:=aN V.dm (fD (ay fE));obtain⟨L5,vY⟩:=afu s d rs i rs[i];refine gT DN mo (ny (kV s d rs).v) U vY fun g hg hc=>?_;rcases xH hg with rfl|rfl|rfl
   . have h3:=aH (hc _ (aJ _ (aq.2 rfl)));rw[jK]at h3;refine⟨jx (a:=[_,_,_]) (fm (⟨az _,de⟩) (fm (by rw[eI];omega) (e9 (kH)))) iA,?_,fun s3 xW=>xW⟩;unfold kV;rw[aG ⟨rs[i],bY fE,h3⟩];exact ny.self
   . have h3:=aK (hc _ (aJ _ (aq.2 rfl)));rw[jK]at h3;refine⟨jx (a:=[_,_,_]) (fm (⟨az _,de⟩) (fm (by rw[eI];omega) (e9 (kH)))) (jx (a:=okS s) (b:=[_]) iA (e9 (pP de be))),fun s3 xW=>⟨i+1,be,⟨be,fun j hj hji=>?_⟩,.norm xW⟩⟩;rcases bN j i with q|q
     . exact hf j hj q
     . obtain rfl:j=i:=by omega
       exact h3
   . exact absurd (aK (hc _ (aq.2 rfl))) de
 obtain rfl:i=rs.length:=by omega
 obtain⟨L5,vY⟩:=afu s d rs rs.length [];refine gT DN mo (ny (kV s d rs).v) U vY fun g hg hc=>?_;rcases xH hg with rfl|rfl|rfl
 . exact absurd (aH (hc _ (aP ..))) de
 . exact absurd (aH (hc _ (aP ..))) de
 refine⟨cQ,fun s3 xW=>?_⟩;simp only[andThen,dV];refine c6 xW ?_;have tO:¬∃r∈rs,gj s.cs r<0:=by
  rintro⟨r,hr,Ip⟩;obtain⟨j,hj,rfl⟩:=List.getElem_of_mem hr;exact hf j hj hj Ip
 show TG _ _ _ (dh 4 xP) _ _;refine cV U ?_;obtain⟨L6,KW⟩:=am1 s d rs rs.length;simp only[ic]at KW;refine gT DN mo nZ U KW (dI ?_);refine⟨fm trivial (fm trivial (fm be (e9 hj))),fun s4 IN=>c6 IN ?_⟩;show TG _ _ _ (dh 5 xP) (Mw s d rs [(9,.str (dJ d rs))]) _;refine cV U ?_;obtain⟨L7,hr7⟩:=am2 s d rs (dJ d rs);refine gT DN mo (ny (kV s d rs).v) U hr7 fun g hg hc=>?_;rcases jk hg with rfl|rfl
 . have h3:=aH (hc _ (aq.2 rfl));rw[jK]at h3;refine⟨iA,?_,fun s5 hs5=>hs5⟩;unfold kV;rw[aI tO,aG h3];exact ny.self
 have h3:=aK (hc _ (aq.2 rfl));rw[jK]at h3;refine⟨iA,fun s5 hs5=>c6 hs5 ?_⟩;show TG _ _ _ (dh 6 xP) (Mw s d rs [(9,.str (dJ d rs))]) _;have hp:kV s d rs=⟨⟨s.cs++[⟨dJ d rs,d,rs⟩],s.ro⟩,dJ d rs,0,true⟩:=by unfold kV;rw[aI tO,aI h3]
 rw[hp];refine cV U ?_;refine fV DN (am3 s d rs (dJ d rs)) (dI ?_);refine⟨fm (by rw[eI,bj]) (e9 (pM be)),fun s6 hs6=>?_⟩;rw[bH,cD]at hs6;refine c6 hs6 ?_;generalize dJ d rs=x;refine xz [6] (A:=[(strs rs).length=rs.length*1]) (s2:=eG [(3,.ptr (some (3,0))),(6,.ptr (some (4,0))),(9,.str x),(10,.ptr (some (5,0)))] ((hL [(3,bx s),(4,.cells [.di none 0 0 0,.di none 0 0 0,.str [],.int .i64 0,.bool false]),(5,.cells [.str x,.str d,.dL false rs.length (strs rs)]),(6,.deep (strs rs))]).set 6 none) 7) U (e9 (by rw[eI,bj])) ?_;refine c6 (live:=[3,6,9,10]) (s2:=sPq s ⟨x,d,rs⟩) U ?_;refine fu DN (am4 s ⟨x,d,rs⟩) (dI ?_);have rD:=kT s.cs;refine⟨fm (rD) (fm (Dd be) (fm (by rw[cD,rD];omega) (fm dN (e9 (Dd be))))),_,_,_,rfl,?_⟩;have e:List.take ((0+s.cs.length)*3) (List.drop 0 ([]++fq s.cs))++[D.str x,D.str d,D.dL rs.length (strs rs)]=fq (s.cs++[⟨x,d,rs⟩]):=by
  rw[cD,bu,bq (by rw[rD];omega),Mx];rfl
 have e2:0+s.cs.length+1=(s.cs++[gK.mk x d rs]).length:=by rw[ax];simp
 rw[e,e2];generalize s.cs++[gK.mk x d rs]=cs;exact⟨[[3]],[(fq cs).length=cs.length*3],{ fr:=Tr.nil.set 0 (some (RR.v ⟨⟨cs,s.ro⟩,x,0,true⟩)),h:=(hL [(3,.deep (fq cs))]).set 3 none,n:=4,gu:=[] },U,e9 (kT _),U⟩
end
noncomputable abbrev zg:Code:=dU Tryz.f90
section
variable(s:RS)(n x:aa)
def o76:O:=.cells [.di none 0 0 0,.di none 0 0 0,.str [],.int .i64 0,.bool false]
def sSr(r:List (Nat×V)):St:=eG ([(1,.str n),(2,.str x),(3,.ptr (some (3,0))),(6,.ptr (some (4,0)))]++r) (hL [(3,bx s),(4,o76)]) 5
def Vs(m:Nat)(o:O)(dn:Bool)(r:List (Nat×V)):St:=eG ([(1,.str n),(2,.str x),(3,.ptr (some (3,0))),(6,.ptr (some (4,0))),(8,.di (some (5,0)) m m 2),(9,.bool dn)]++r) (hL [(3,bx s),(4,o76),(5,o)]) 6
end
theorem am7(s:RS)(n x:aa):c5 tX [] 3 Tryz.f90 [1,2,3,6,7] (eR 2 zg) (cR [s.v,.str n,.str x] .nil 3) [([],
   [(fq s.cs=fq (gp (fq s.cs))),(s.cs.length=(gp (fq s.cs)).length),(ff s.ro=ff (o5 (ff s.ro))),(s.ro.length=(o5 (ff s.ro)).length),(s.cs.length<=1000000),(s.ro.length<=1000000)],
   .to .normal (eG [(1,.str n),(2,.str x),(3,.ptr (some (3,0))),(6,.ptr (some (4,0))),(7,.str (gG n (o5 (ff s.ro))))] (hL [(3,.cells [.dL false (s.cs.length) (fq s.cs),.dL false (s.ro.length) (ff s.ro)]),(4,.cells [.di none 0 0 0,.di none 0 0 0,.str [],.int .i64 0,.bool false])]) 5))]
 :=cP.of U U U
section
variable(s:RS)(n x rE:aa)(m i:Nat)(cs:ai)(dn:Bool)
theorem afw:c5 tX [(16,.c9 (.bool false)),(20,.c9 (.bool false)),(26,.c9 (.bool true)),(31,.split),(37,.c9 (.bool true)),(40,.split),(46,.c9 (.bool false)),(53,.split)] 3 Tryz.f90 [1,2,3,6] (dO (dh 2 zg)) (sSr s n x [(7,.str rE)]) [([((decide (gj (gp (fq s.cs)) x<(0:Int))),true)],
   [(V.bool (eE n ([]:aa))=V.bool false),(V.bool (decide ((Int.ofNat n.length)>(64:Int)))=V.bool false),((V.bool !eE x ([]:aa))=V.bool true),(fq s.cs=fq (gp (fq s.cs))),(s.cs.length=(gp (fq s.cs)).length),(ff s.ro=ff (o5 (ff s.ro))),(s.ro.length=(o5 (ff s.ro)).length),(s.cs.length<=1000000),(s.ro.length<=1000000)],
   .ret (.agg [.dL false (s.cs.length) (fq s.cs),.dL false (s.ro.length) (ff s.ro),.str [],.int .i64 62,.bool false]) (hL []) 3),
  ([((decide (gj (gp (fq s.cs)) x<(0:Int))),false),((eE rE ([]:aa)),true),((eE x rE),true)],
   [(V.bool (eE n ([]:aa))=V.bool false),(V.bool (decide ((Int.ofNat n.length)>(64:Int)))=V.bool false),((V.bool !eE x ([]:aa))=V.bool true),(fq s.cs=fq (gp (fq s.cs))),(s.cs.length=(gp (fq s.cs)).length),(ff s.ro=ff (o5 (ff s.ro))),(s.ro.length=(o5 (ff s.ro)).length),(s.cs.length<=1000000),(s.ro.length<=1000000),((V.bool !eE x ([]:aa))=V.bool true),(V.bool (decide ((Int.ofNat s.ro.length)>=(64:Int)))=V.bool false)],
   .ret (.agg [.dL false (s.cs.length) (fq s.cs),.dL false (s.ro.length) (ff s.ro),.str [],.int .i64 0,.bool false]) (hL []) 3),
  ([((decide (gj (gp (fq s.cs)) x<(0:Int))),false),((eE rE ([]:aa)),true),((eE x rE),false)],
   [(V.bool (eE n ([]:aa))=V.bool false),(V.bool (decide ((Int.ofNat n.length)>(64:Int)))=V.bool false),((V.bool !eE x ([]:aa))=V.bool true),(fq s.cs=fq (gp (fq s.cs))),(s.cs.length=(gp (fq s.cs)).length),(ff s.ro=ff (o5 (ff s.ro))),(s.ro.length=(o5 (ff s.ro)).length),(s.cs.length<=1000000),(s.ro.length<=1000000),((V.bool !eE x ([]:aa))=V.bool true),(V.bool (decide ((Int.ofNat s.ro.length)>=(64:Int)))=V.bool false)],
   .to .normal (eG [(1,.str n),(2,.str x),(3,.ptr (some (3,0))),(6,.ptr (some (4,0)))] (hL [(3,.cells [.dL false (s.cs.length) (fq s.cs),.dL false (s.ro.length) (ff s.ro)]),(4,.cells [.di none 0 0 0,.di none 0 0 0,.str [],.int .i64 0,.bool false])]) 5)),
  ([((decide (gj (gp (fq s.cs)) x<(0:Int))),false),((eE rE ([]:aa)),false),((eE x rE),true)],
   [(V.bool (eE n ([]:aa))=V.bool false),(V.bool (decide ((Int.ofNat n.length)>(64:Int)))=V.bool false),((V.bool !eE x ([]:aa))=V.bool true),(fq s.cs=fq (gp (fq s.cs))),(s.cs.length=(gp (fq s.cs)).length),(ff s.ro=ff (o5 (ff s.ro))),(s.ro.length=(o5 (ff s.ro)).length),(s.cs.length<=1000000),(s.ro.length<=1000000),((V.bool !eE x ([]:aa))=V.bool true)],
   .ret (.agg [.dL false (s.cs.length) (fq s.cs),.dL false (s.ro.length) (ff s.ro),.str [],.int .i64 0,.bool false]) (hL []) 3),
  ([((decide (gj (gp (fq s.cs)) x<(0:Int))),false),((eE rE ([]:aa)),false),((eE x rE),false)],
   [(V.bool (eE n ([]:aa))=V.bool false),(V.bool (decide ((Int.ofNat n.length)>(64:Int)))=V.bool false),((V.bool !eE x ([]:aa))=V.bool true),(fq s.cs=fq (gp (fq s.cs))),(s.cs.length=(gp (fq s.cs)).length),(ff s.ro=ff (o5 (ff s.ro))),(s.ro.length=(o5 (ff s.ro)).length),(s.cs.length<=1000000),(s.ro.length<=1000000),((V.bool !eE x ([]:aa))=V.bool true)],
   .to .normal (eG [(1,.str n),(2,.str x),(3,.ptr (some (3,0))),(6,.ptr (some (4,0)))] (hL [(3,.cells [.dL false (s.cs.length) (fq s.cs),.dL false (s.ro.length) (ff s.ro)]),(4,.cells [.di none 0 0 0,.di none 0 0 0,.str [],.int .i64 0,.bool false])]) 5))]
 :=cP.of U U U
theorem afx:c5 tX [(16,.c9 (.bool false)),(20,.c9 (.bool false)),(53,.split)] 3 Tryz.f90 [1,2,3,6] (dO (dh 2 zg)) (sSr s n [] [(7,.str rE)]) [([((eE [] rE),true)],
   [(V.bool (eE n ([]:aa))=V.bool false),(V.bool (decide ((Int.ofNat n.length)>(64:Int)))=V.bool false)],
   .ret (.agg [.dL false (s.cs.length) (fq s.cs),.dL false (s.ro.length) (ff s.ro),.str [],.int .i64 0,.bool false]) (hL []) 3),
  ([((eE [] rE),false)],
   [(V.bool (eE n ([]:aa))=V.bool false),(V.bool (decide ((Int.ofNat n.length)>(64:Int)))=V.bool false)],
   .to .normal (eG [(1,.str n),(2,.str []),(3,.ptr (some (3,0))),(6,.ptr (some (4,0)))] (hL [(3,.cells [.dL false (s.cs.length) (fq s.cs),.dL false (s.ro.length) (ff s.ro)]),(4,.cells [.di none 0 0 0,.di none 0 0 0,.str [],.int .i64 0,.bool false])]) 5))]
 :=cP.of U U U
theorem am8:c5 tX [(58,.c9 (.bool dn))] 3 Tryz.f90 [1,2,3,6,8,9] (eR 2 (dh 3 zg)) (sSr s n x []) [([],
   [(V.bool (eE x ([]:aa))=V.bool dn)],
   .to .normal (eG [(1,.str n),(2,.str x),(3,.ptr (some (3,0))),(6,.ptr (some (4,0))),(8,.di (some (5,0)) 0 0 2),(9,.bool dn)] (hL [(3,.cells [.dL false (s.cs.length) (fq s.cs),.dL false (s.ro.length) (ff s.ro)]),(4,.cells [.di none 0 0 0,.di none 0 0 0,.str [],.int .i64 0,.bool false]),(5,.cells [])]) 6))]
 :=cP.of U U U
theorem am9:c5 tX [] 3 Tryz.f90 [1,2,3,6,8,9,10] (dO (dO (dh 5 zg))) (Vs s n x m (.deep cs) dn []) [([],
   [],
   .to .normal (Vs s n x m (.deep cs) dn [(10,iW 0)]))]
 :=cP.of U U U
abbrev My:Prop:=V.int aj (IntKind.i64.wrap (Int.ofNat i+(1:Int)))=iW (i+1)
theorem XG(i:Nat)(p q:aa):c5 tX [(63,.split),(87,.c9 (.dm [.str p,.str q])),(91,.split),(96,.c9 (.dm [.str p,.str q])),(65,.c9 (iW (i+1)))] 3 Tryz.f90 [1,2,3,6,8,9,10] (dr (dr (dY (dO (dh 5 zg))))) (Vs s n x m (.deep cs) true [(10,iW i)]) [([((decide (Int.ofNat i<(Int.ofNat s.ro.length))),true),((!eE p n),true)],
   [((0:Int)<=Int.ofNat i/\Int.ofNat i<(Int.ofNat s.ro.length)),((ff s.ro).length=s.ro.length*2),(V.dm (dw (ff s.ro) (i*2) 2)=V.dm [D.str p,D.str q]),((0:Int)<=Int.ofNat i/\Int.ofNat i<(Int.ofNat s.ro.length)),((ff s.ro).length=s.ro.length*2),(V.dm (dw (ff s.ro) (i*2) 2)=V.dm [D.str p,D.str q]),(0+m*2<=cs.length),(0<1),(eP (m+1) 2 32=true),My i],
   .to .normal (eG [(1,.str n),(2,.str x),(3,.ptr (some (3,0))),(6,.ptr (some (4,0))),(8,.di (some (5,0)) (m+1) (m+1) 2),(9,.bool true),(10,.int .i64 (Int.ofNat (i+1)))] (hL [(3,.cells [.dL false (s.cs.length) (fq s.cs),.dL false (s.ro.length) (ff s.ro)]),(4,.cells [.di none 0 0 0,.di none 0 0 0,.str [],.int .i64 0,.bool false]),(5,.deep (List.take (m*2) (List.drop 0 cs)++[D.str p,D.str q]))]) 6)),
  ([((decide (Int.ofNat i<(Int.ofNat s.ro.length))),true),((!eE p n),false)],
   [((0:Int)<=Int.ofNat i/\Int.ofNat i<(Int.ofNat s.ro.length)),((ff s.ro).length=s.ro.length*2),(V.dm (dw (ff s.ro) (i*2) 2)=V.dm [D.str p,D.str q]),My i],
   .to .normal (eG [(1,.str n),(2,.str x),(3,.ptr (some (3,0))),(6,.ptr (some (4,0))),(8,.di (some (5,0)) m m 2),(9,.bool true),(10,.int .i64 (Int.ofNat (i+1)))] (hL [(3,.cells [.dL false (s.cs.length) (fq s.cs),.dL false (s.ro.length) (ff s.ro)]),(4,.cells [.di none 0 0 0,.di none 0 0 0,.str [],.int .i64 0,.bool false]),(5,.deep cs)]) 6)),
  ([((decide (Int.ofNat i<(Int.ofNat s.ro.length))),false)],
   [],
   .to (.exit 1) (eG [(1,.str n),(2,.str x),(3,.ptr (some (3,0))),(6,.ptr (some (4,0))),(8,.di (some (5,0)) m m 2),(9,.bool true),(10,.int .i64 (Int.ofNat i))] (hL [(3,.cells [.dL false (s.cs.length) (fq s.cs),.dL false (s.ro.length) (ff s.ro)]),(4,.cells [.di none 0 0 0,.di none 0 0 0,.str [],.int .i64 0,.bool false]),(5,.deep cs)]) 6))]
 :=cP.of U U U
abbrev BA:Prop:=V.int aj (IntKind.i64.wrap (Int.ofNat i+(1:Int)))=iW (i+1)
theorem XH(i:Nat)(p q:aa):c5 tX [(63,.split),(73,.c9 (.dm [.str p,.str q])),(76,.split),(87,.c9 (.dm [.str p,.str q])),(91,.split),(96,.c9 (.dm [.str p,.str q])),(65,.c9 (iW (i+1)))] 3 Tryz.f90 [1,2,3,6,8,9,10] (dr (dr (dY (dO (dh 5 zg))))) (Vs s n x m (.deep cs) false [(10,iW i)]) [([((decide (Int.ofNat i<(Int.ofNat s.ro.length))),true),((xZ n p),true),((!eE p n),true)],
   [((0:Int)<=Int.ofNat i/\Int.ofNat i<(Int.ofNat s.ro.length)),((ff s.ro).length=s.ro.length*2),(V.dm (dw (ff s.ro) (i*2) 2)=V.dm [D.str p,D.str q]),(0+m*2<=cs.length),(0<1),(eP (m+1) 2 32=true),((0:Int)<=Int.ofNat i/\Int.ofNat i<(Int.ofNat s.ro.length)),((ff s.ro).length=s.ro.length*2),(V.dm (dw (ff s.ro) (i*2) 2)=V.dm [D.str p,D.str q]),((0:Int)<=Int.ofNat i/\Int.ofNat i<(Int.ofNat s.ro.length)),((ff s.ro).length=s.ro.length*2),(V.dm (dw (ff s.ro) (i*2) 2)=V.dm [D.str p,D.str q]),(0+(m+1)*2<=(List.take (m*2) (List.drop 0 cs)++[D.str n,D.str x]).length),(0<1),(eP (m+1+1) 2 32=true),BA i],
   .to .normal (eG [(1,.str n),(2,.str x),(3,.ptr (some (3,0))),(6,.ptr (some (4,0))),(8,.di (some (5,0)) (m+1+1) (m+1+1) 2),(9,.bool true),(10,.int .i64 (Int.ofNat (i+1)))] (hL [(3,.cells [.dL false (s.cs.length) (fq s.cs),.dL false (s.ro.length) (ff s.ro)]),(4,.cells [.di none 0 0 0,.di none 0 0 0,.str [],.int .i64 0,.bool false]),(5,.deep (List.take ((m+1)*2) (List.drop 0 (List.take (m*2) (List.drop 0 cs)++[D.str n,D.str x]))++[D.str p,D.str q]))]) 6)),
  ([((decide (Int.ofNat i<(Int.ofNat s.ro.length))),true),((xZ n p),true),((!eE p n),false)],
   [((0:Int)<=Int.ofNat i/\Int.ofNat i<(Int.ofNat s.ro.length)),((ff s.ro).length=s.ro.length*2),(V.dm (dw (ff s.ro) (i*2) 2)=V.dm [D.str p,D.str q]),(0+m*2<=cs.length),(0<1),(eP (m+1) 2 32=true),((0:Int)<=Int.ofNat i/\Int.ofNat i<(Int.ofNat s.ro.length)),((ff s.ro).length=s.ro.length*2),(V.dm (dw (ff s.ro) (i*2) 2)=V.dm [D.str p,D.str q]),BA i],
   .to .normal (eG [(1,.str n),(2,.str x),(3,.ptr (some (3,0))),(6,.ptr (some (4,0))),(8,.di (some (5,0)) (m+1) (m+1) 2),(9,.bool true),(10,.int .i64 (Int.ofNat (i+1)))] (hL [(3,.cells [.dL false (s.cs.length) (fq s.cs),.dL false (s.ro.length) (ff s.ro)]),(4,.cells [.di none 0 0 0,.di none 0 0 0,.str [],.int .i64 0,.bool false]),(5,.deep (List.take (m*2) (List.drop 0 cs)++[D.str n,D.str x]))]) 6)),
  ([((decide (Int.ofNat i<(Int.ofNat s.ro.length))),true),((xZ n p),false),((!eE p n),true)],
   [((0:Int)<=Int.ofNat i/\Int.ofNat i<(Int.ofNat s.ro.length)),((ff s.ro).length=s.ro.length*2),(V.dm (dw (ff s.ro) (i*2) 2)=V.dm [D.str p,D.str q]),((0:Int)<=Int.ofNat i/\Int.ofNat i<(Int.ofNat s.ro.length)),((ff s.ro).length=s.ro.length*2),(V.dm (dw (ff s.ro) (i*2) 2)=V.dm [D.str p,D.str q]),((0:Int)<=Int.ofNat i/\Int.ofNat i<(Int.ofNat s.ro.length)),((ff s.ro).length=s.ro.length*2),(V.dm (dw (ff s.ro) (i*2) 2)=V.dm [D.str p,D.str q]),(0+m*2<=cs.length),(0<1),(eP (m+1) 2 32=true),BA i],
   .to .normal (eG [(1,.str n),(2,.str x),(3,.ptr (some (3,0))),(6,.ptr (some (4,0))),(8,.di (some (5,0)) (m+1) (m+1) 2),(9,.bool false),(10,.int .i64 (Int.ofNat (i+1)))] (hL [(3,.cells [.dL false (s.cs.length) (fq s.cs),.dL false (s.ro.length) (ff s.ro)]),(4,.cells [.di none 0 0 0,.di none 0 0 0,.str [],.int .i64 0,.bool false]),(5,.deep (List.take (m*2) (List.drop 0 cs)++[D.str p,D.str q]))]) 6)),
  ([((decide (Int.ofNat i<(Int.ofNat s.ro.length))),true),((xZ n p),false),((!eE p n),false)],
   [((0:Int)<=Int.ofNat i/\Int.ofNat i<(Int.ofNat s.ro.length)),((ff s.ro).length=s.ro.length*2),(V.dm (dw (ff s.ro) (i*2) 2)=V.dm [D.str p,D.str q]),((0:Int)<=Int.ofNat i/\Int.ofNat i<(Int.ofNat s.ro.length)),((ff s.ro).length=s.ro.length*2),(V.dm (dw (ff s.ro) (i*2) 2)=V.dm [D.str p,D.str q]),BA i],
   .to .normal (eG [(1,.str n),(2,.str x),(3,.ptr (some (3,0))),(6,.ptr (some (4,0))),(8,.di (some (5,0)) m m 2),(9,.bool false),(10,.int .i64 (Int.ofNat (i+1)))] (hL [(3,.cells [.dL false (s.cs.length) (fq s.cs),.dL false (s.ro.length) (ff s.ro)]),(4,.cells [.di none 0 0 0,.di none 0 0 0,.str [],.int .i64 0,.bool false]),(5,.deep cs)]) 6)),
  ([((decide (Int.ofNat i<(Int.ofNat s.ro.length))),false)],
   [],
   .to (.exit 1) (eG [(1,.str n),(2,.str x),(3,.ptr (some (3,0))),(6,.ptr (some (4,0))),(8,.di (some (5,0)) m m 2),(9,.bool false),(10,.int .i64 (Int.ofNat i))] (hL [(3,.cells [.dL false (s.cs.length) (fq s.cs),.dL false (s.ro.length) (ff s.ro)]),(4,.cells [.di none 0 0 0,.di none 0 0 0,.str [],.int .i64 0,.bool false]),(5,.deep cs)]) 6))]
 :=cP.of U U U
theorem afy(i:Nat):c5 tX [] 3 Tryz.f90 [] (dh 6 zg) (Vs s n x m (.deep cs) true [(10,iW i)]) [([],
   [],
   .ret (.agg [.dL false (s.cs.length) (fq s.cs),.di (some (3,0)) m m 2,.str [],.int .i64 0,.bool true]) (hL [(3,.deep cs)]) 4)]
 :=cP.of U U U
theorem afz(i:Nat):c5 tX [] 3 Tryz.f90 [] (dh 6 zg) (Vs s n x m (.deep cs) false [(10,iW i)]) [([],
   [(0+m*2<=cs.length),(0<1),(eP (m+1) 2 32=true)],
   .ret (.agg [.dL false (s.cs.length) (fq s.cs),.di (some (3,0)) (m+1) (m+1) 2,.str [],.int .i64 0,.bool true]) (hL [(3,.deep (List.take (m*2) (List.drop 0 cs)++[D.str n,D.str x]))]) 4)]
 :=cP.of U U U
end
end Go.Proofs.YtfihojpgobmmdaaGreatDoor
