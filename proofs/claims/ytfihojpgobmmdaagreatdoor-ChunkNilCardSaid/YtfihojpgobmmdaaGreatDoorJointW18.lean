/- Lemmas on the chunk store. No conditions. -/
import Derived.Test.YtfihojpgobmmdaaGreatDoorJointW17
set_option linter.unusedVariables false
set_option linter.unusedSimpArgs false
set_option linter.unusedSectionVars false
set_option maxRecDepth 20000
namespace Go.Proofs.YtfihojpgobmmdaaGreatDoor
open Go Go.Eng
theorem OZ{a b c:L}(h:a<=b)(k:b<=c):a<=c:=List.le_trans h k
theorem O0(a b:L):a<=b\/b<=a:=List.le_total a b
theorem Jk{a b:L}(h:a<=b)(k:b<=a):a=b:=List.le_antisymm h k
section
variable(l:List (L))
theorem ud:List.Perm (iz l) l:=List.mergeSort_perm ..
theorem yf:(iz l).Pairwise (. <=·):=by
 have:=List.pairwise_mergeSort (le:=fun x y:L=>decide (x<=y)) (fun a b c h k=>by simp only[bD]at *;exact OZ h k) (fun a b=>by simp only[bU,bD];exact O0 a b) l;exact this.imp fun h=>aE h
end
theorem Ss{a b:List (L)}(h:List.Perm a b):iz a=iz b:=
 List.Perm.eq_of_pairwise (le:=(. <=·)) (fun _ _ _ _ h k=>Jk h k) (yf a) (yf b) (((ud a).trans h).trans (ud b).symm)
theorem FD:iz []=[]:=cJ.1 (by rw[sP];rfl)
theorem O1(x:L):iz [x]=[x]:=by
 have h:=ud [x];exact List.perm_singleton.1 h
theorem Bt{a b:ae}(h:List.Perm a b):List.Perm (dM a) (dM b):=h.map _
theorem yg(a:ae):(dM a).length=a.length:=by unfold dM;rw[aT]
section
variable(T A:Nat)(b:L)(X R O:Int)(Q F:ae)
abbrev RKy(v:V)(h:H lf)(n:Nat):Prop:=∃ks,List.Perm ks (dM F)/\v=Hj 8 ks/\h=ye T A b X R O Q F (Bs 8 ks)/\n=nK 8 ks
theorem Su(hk:yd F)(hl:F.length<=1000000):gh ak 113 [eM,w88] (ye T A b X R O Q F []) 8 (RKy T A b X R O Q F):=by
 refine gO mo po Tryz.func113 (code:=RT) U U ?_;refine iF  1 (XQ []) (anv T A b X R O Q F) cT ?_;show TG ak 8 Tryz.f113.ntmps AJ (eG [(1,w88),(2,P 8)] (J (lK T A b X R O Q F++[(8,.cells [eM])])) 9) _;refine cZ U ?_;refine cZ U ?_;refine fO (XQ []) (anw T A b X R O Q F) (dG ?_);refine⟨cT,fun s' dO=>?_⟩;have dO:fa 8 [2,6] s'=some (sKa T A b X R O Q F):=dO;refine c6 dO ?_;refine fB (i:=0) U ?_;refine oH (gf:=88) (lb:=[.ptr (some (7,0))]) U U U U U (V5 T A b X R O Q F hk hl) ?_;rintro v h n ⟨iO,hp,rfl,rfl,rfl⟩;have Sv:=Bt hp
 match tc:dM iO,Sv with
 | [],Sv=>
   refine⟨U,?_⟩;show TG ak 8 Tryz.f113.ntmps (dY AJ) _ _;refine fh (XQ []) (anz T A b X R O Q F) (dG ?_);exact⟨cT,_,_,_,rfl,[],Sv,rfl,rfl,rfl⟩
 | [x],Sv=>
   refine⟨U,?_⟩;show TG ak 8 Tryz.f113.ntmps (dY AJ) _ _;refine fh (XQ []) (anB T A b X R O Q F x) (dG ?_);exact⟨cT,_,_,_,rfl,[x],Sv,rfl,rfl,rfl⟩
 |x::y::ks,Sv=>
  refine⟨U,?_⟩;show TG ak 8 Tryz.f113.ntmps (dY AJ) _ _;refine fh (XQ []) (anx T A b X R O Q F (x::y::ks).length (strs (x::y::ks))) (dG ?_);exact⟨cT,_,_,_,rfl,x::y::ks,Sv,rfl,rfl,rfl⟩
theorem V6(hk:yd F)(hl:F.length<=1000000):gh ak 86 [w88] (ye T A b X R O Q F []) 8 (RKy T A b X R O Q F):=by
 refine gO mo po Tryz.func86 (code:=EB) U U ?_;refine iF  1 (XQ []) (anC T A b X R O Q F) cT ?_;refine cZ U ?_;refine qt 1 (s1:={ S:=(Bm [(0,w88)]).set 3 (some w88),h:=ye T A b X R O Q F [],n:=8,gG:=[] }) (f:=113) (args:=[eM,w88]) U U U U U U (Su T A b X R O Q F hk hl) ?_;rintro v h n ⟨ks,hp,rfl,rfl,rfl⟩
 match ks,hp with
 | [],hp=>
   refine⟨(((Bm [(0,w88)]).set 3 (some w88)).set 4 (some eM)),sC2 (ye T A b X R O Q F []) 8 eM,U,U,?_⟩;obtain⟨L5,wK⟩:=anE T A b X R O Q F;show TG ak 8 Tryz.f86.ntmps (dY (dh 1 EB)) _ _;refine gA (XQ []) mo _ U wK (dG ?_);exact⟨cT,_,_,_,rfl,[],hp,rfl,rfl,rfl⟩
 | [x],hp=>
   refine⟨(((Bm [(0,w88)]).set 3 (some w88)).set 4 (some (.dj (some (8,0)) 1 1 1))),sC2 (ye T A b X R O Q F [(8,.cells [.str x])]) 9 (.dj (some (8,0)) 1 1 1),U,U,?_⟩;obtain⟨L5,wK⟩:=anF T A b X R O Q F x;show TG ak 8 Tryz.f86.ntmps (dY (dh 1 EB)) _ _;refine gA (XQ []) mo _ U wK (dG ?_);exact⟨cT,_,_,_,rfl,[x],hp,rfl,rfl,rfl⟩
 |x::y::ks,hp=>
  refine⟨(((Bm [(0,w88)]).set 3 (some w88)).set 4 (some (.dj (some (8,0)) (x::y::ks).length (x::y::ks).length 1))),sC2 (ye T A b X R O Q F [(8,.deep (strs (x::y::ks)))]) 9 (.dj (some (8,0)) (x::y::ks).length (x::y::ks).length 1),U,U,?_⟩;obtain⟨L5,wK⟩:=anD T A b X R O Q F (x::y::ks).length (strs (x::y::ks));show TG ak 8 Tryz.f86.ntmps (dY (dh 1 EB)) _ _;refine gA (XQ []) mo _ U wK (dG ?_);exact⟨cT,_,_,_,rfl,x::y::ks,hp,rfl,rfl,rfl⟩
theorem V7{m:Nat}{ks:List (L)}(h:2<=ks.length):Hj m ks= .dj (some (m,0)) ks.length ks.length 1/\Bs m ks=[(m,.deep (strs ks))]/\nK m ks=m+1:=by
 match ks,h with
 |x::y::ks,_=>exact⟨rfl,rfl,rfl⟩
theorem V8(hk:yd F)(hl:F.length<1000000):cW ak 61 [w88] (ye T A b X R O Q F []) 8 (Hj 8 (iz (dM F))) (ye T A b X R O Q F (Bs 8 (iz (dM F)))) (nK 8 (iz (dM F))):=by
 refine c5 Tryz.func61 (code:=EA) U U ?_;refine iF  1 (XQ []) (anG T A b X R O Q F) cT ?_;refine cZ U ?_;refine qt 1 (s1:={ S:=(Bm [(0,w88)]).set 4 (some w88),h:=ye T A b X R O Q F [],n:=8,gG:=[] }) (f:=86) (args:=[w88]) U U U U U U (V6 T A b X R O Q F hk (Nat.le_of_lt hl)) ?_;rintro v h n ⟨ks,hp,rfl,rfl,rfl⟩;rw[<- Ss hp];have iQ:ks.length<1000000:=by rw[hp.length_eq,yg];exact hl
 match ks,iQ with
 | [],_=>
   rw[FD];refine⟨(((Bm [(0,w88)]).set 4 (some w88)).set 5 (some eM)),sS2 (ye T A b X R O Q F []) 8 eM,U,U,?_⟩;show TG ak 8 Tryz.f61.ntmps (dh 2 EA) _ _;refine fh (XQ []) (anI T A b X R O Q F) (dG ?_);exact⟨fun p hp=>by rw[aq]at hp;subst hp;decide,_,_,_,rfl,rfl,rfl,rfl⟩
 | [x],_=>
   rw[O1];refine⟨(((Bm [(0,w88)]).set 4 (some w88)).set 5 (some (.dj (some (8,0)) 1 1 1))),sS2 (ye T A b X R O Q F [(8,.cells [.str x])]) 9 (.dj (some (8,0)) 1 1 1),U,U,?_⟩;show TG ak 8 Tryz.f61.ntmps (dh 2 EA) _ _;refine fh (XQ []) (anJ T A b X R O Q F x) (dG ?_);exact⟨fun p hp=>by rw[aq]at hp;subst hp;decide,_,_,_,rfl,rfl,rfl,rfl⟩
 |x::y::ks,iQ=>
  obtain⟨z1,z2,z3⟩:=V7 (m:=8) (ks:=iz (x::y::ks)) (by rw[sP];simp);rw[z1,z2,z3,sP];refine⟨(((Bm [(0,w88)]).set 4 (some w88)).set 5 (some (.dj (some (8,0)) (x::y::ks).length (x::y::ks).length 1))),sS2 (ye T A b X R O Q F [(8,.deep (strs (x::y::ks)))]) 9 (.dj (some (8,0)) (x::y::ks).length (x::y::ks).length 1),U,U,?_⟩;show TG ak 8 Tryz.f61.ntmps (dh 2 EA) _ _;obtain⟨L5,wK⟩:=anH T A b X R O Q F (x::y::ks).length (strs (x::y::ks)) (strs (iz (x::y::ks)));have I:cW ak 87 [.dj (some (8,0)) (x::y::ks).length (x::y::ks).length 1] (ye T A b X R O Q F [(8,.deep (strs (x::y::ks)))]) 9 (.ew []) ((ye T A b X R O Q F [(8,.deep (strs (x::y::ks)))]).set 8 (some (.deep (strs (iz (x::y::ks)))))) 9:=
   Jf VA (ss:=x::y::ks) U (au rfl) (Nat.succ_pos _) rfl iQ
  refine gA ((XQ []).jA (au U) I) mo _ U wK (dG ?_);exact⟨fun p hp=>by rw[aq]at hp;subst hp;exact Dx,_,_,_,rfl,rfl,rfl,rfl⟩
theorem B6(hk:yd F)(hl:F.length<1000000):cW ak 23 [P3] (eu (pS T A b X R O Q F)) 7 (Hj 7 (iz (dM F))) (hKf T A b X R O Q F (Bs 7 (iz (dM F)))) (nK 7 (iz (dM F))):=by
 have h61:=V8 T A b X R O Q F hk hl;refine c5 Tryz.func23 (code:=OM) U U ?_
 match tc:iz (dM F),h61 with
 | [],h61=>
   refine fh ((XQ []).jA (au U) h61) (agl T A b X R O Q F) (dG ?_);exact⟨fun p hp=>by rw[aq]at hp;subst hp;exact Dx,_,_,_,rfl,rfl,rfl,rfl⟩
 | [x],h61=>
   refine fh ((XQ []).jA (au U) h61) (agm T A b X R O Q F x) (dG ?_);exact⟨fun p hp=>by rw[aq]at hp;subst hp;exact Dx,_,_,_,rfl,rfl,rfl,rfl⟩
 |x::y::ks,h61=>
  refine fh ((XQ []).jA (au U) h61) (agk T A b X R O Q F (x::y::ks).length (strs (x::y::ks))) (dG ?_);exact⟨fun p hp=>by rw[aq]at hp;subst hp;exact Dx,_,_,_,rfl,rfl,rfl,rfl⟩
end
def g81:V:=.fn (.func 81) [] [.ptr (some (9,0))]
def g56:V:=.fn (.func 56) [] [.ptr (some (7,0))]
section
variable(T A:Nat)(b:L)(X R O:Int)(Q F:ae)(ks:List (L))
def lS:af:=eK (pS T A b X R O Q F)++[(7,.cells [P3]),(8,.dI none (nZ ks)),(9,.cells [.map (some 8)])]
def lSx:af:=eK (pS T A b X R O Q F)++[(7,.cells [P3]),(9,.cells [.map (some 8)])]
def sSa:St:=eG [(2,P 10),(6,g81)] (J (lS T A b X R O Q F ks++[(10,.cells [eM])])) 11
noncomputable def oSa:lf:=.loop true none (sSa T A b X R O Q F ks).S [7] Vs Vt
noncomputable def Y2(sl:V)(row:af):H lf:=J (lS T A b X R O Q F ks++[(10,.cells [sl]),(11,.mF),(12,oSa T A b X R O Q F ks)]++row)
noncomputable def ED(sl:V)(row:af)(n:Nat):St:=eG [(0,.fn (.yield 12) [] []),(5,P 13)] (J (lSx T A b X R O Q F++[(10,.cells [sl]),(11,.mF),(12,oSa T A b X R O Q F ks)]++row)) n
def xz(row:af):H lf:=J (lS T A b X R O Q F ks++row)
end
section
variable(T:Nat)(h:H lf)(A:Nat)(b:L)(X R O:Int)(n:Nat)(Q F:ae)(ks:List (L))(k:L)
theorem anK(v:V):c9 (kS []) [] 14 Tryz.f81 [0,5] ((sO Ey).rest) (Um (ED T A b X R O Q F ks eM [] 14) k v) [([],
   [],
   .to .normal (ED T A b X R O Q F ks (.dj (some (14,0)) 1 1 1) [(14,.cells [.str k])] 15))]
 :=cR.of U U U
theorem anL(v:V)(n:Nat)(C:ai):c9 (kS []) [] 14 Tryz.f81 [0,5] ((sO Ey).rest) (Um (ED T A b X R O Q F ks (.dj (some (14,0)) n n 1) [(14,.deep C)] 15) k v) [([],
   [(0+n*1<=C.length),(0<1),(eU (n+1) 1 16=true)],
   .to .normal (eG [(0,.fn (.yield 12) [] []),(5,.ptr (some (13,0)))] (J (eK (pS T A b X R O Q F)++[(7,.cells [.ptr (some (3,0))]),(9,.cells [.map (some 8)]),(10,.cells [.dj (some (14,0)) (n+1) (n+1) 1]),(11,.mF),(12,.loop true none (Eng.Bm [(2,.ptr (some (10,0))),(6,.fn (.func 81) [] [.ptr (some (9,0))])]) [7] Vs Vt),(14,.deep (List.take (n*1) (List.drop 0 C)++[rs.str k]))])) 15))]
 :=cR.of U U U
theorem anM:c9 (kS []) [] 10 Tryz.f100 [1,2] (eV 1 RQ) (cU [eM,g81] (xz T A b X R O Q F ks []) 10) [([],
   [],
   .to .normal (eG [(1,g81),(2,P 10)] (J (lS T A b X R O Q F ks++[(10,.cells [eM])])) 11))]
 :=cR.of U U U
theorem anN:c9 (kS []) [] 10 Tryz.f100 [2,6] (dP (dP OK)) (eG [(1,g81),(2,P 10)] (J (lS T A b X R O Q F ks++[(10,.cells [eM])])) 11) [([],
   [],
   .to .normal (sSa T A b X R O Q F ks))]
 :=cR.of U U U
theorem anO(n:Nat)(C:ai):c9 (kS []) [] 10 Tryz.f100 [] (dY OK) (tT (sSa T A b X R O Q F ks) (Y2 T A b X R O Q F ks (.dj (some (13,0)) n n 1) [(13,.deep C)]) 14) [([],
   [],
   .ret (.dj (some (10,0)) n n 1) (xz T A b X R O Q F ks [(10,.deep C)]) 11)]
 :=cR.of U U U
theorem anP:c9 (kS []) [] 10 Tryz.f100 [] (dY OK) (tT (sSa T A b X R O Q F ks) (Y2 T A b X R O Q F ks eM []) 13) [([],
   [],
   .ret (.dj none 0 0 0) (xz T A b X R O Q F ks []) 10)]
 :=cR.of U U U
def sC8(v:V):St:={ S:=((((Bm [(0,g81)]).set 3 (some g81)).set 4 (some v)).set 2 (some v)),h:=h,n:=n,gG:=[] }
def sS8(v:V):St:={ S:=((((Bm [(0,g81),(1,g56)]).set 6 (some g81)).set 7 (some v)).set 5 (some v)),h:=h,n:=n,gG:=[] }
end
section
variable(T A:Nat)(b:L)(X R O:Int)(Q F:ae)(ks:List (L))(n:Nat)(C:ai)
theorem anQ:c9 (kS []) [] 10 Tryz.f79 [0] (eV 1 Lr) (cU [g81] (xz T A b X R O Q F ks []) 10) [([],
   [],
   .to .normal (eG [(0,g81)] (xz T A b X R O Q F ks []) 10))]
 :=cR.of U U U
theorem anR:c9 (kS []) [] 10 Tryz.f79 [] (dY (dh 1 Lr)) (sC8 (xz T A b X R O Q F ks [(10,.deep C)]) 11 (.dj (some (10,0)) n n 1)) [([],
   [],
   .ret (.dj (some (10,0)) n n 1) (xz T A b X R O Q F ks [(10,.deep C)]) 11)]
 :=cR.of U U U
theorem anS:c9 (kS []) [] 10 Tryz.f79 [] (dY (dh 1 Lr)) (sC8 (xz T A b X R O Q F ks []) 10 eM) [([],
   [],
   .ret (.dj none 0 0 0) (xz T A b X R O Q F ks []) 10)]
 :=cR.of U U U
theorem anT:c9 (kS []) [] 10 Tryz.f54 [0,1] (eV 1 Lq) (cU [g81,g56] (xz T A b X R O Q F ks []) 10) [([],
   [],
   .to .normal (eG [(0,g81),(1,g56)] (xz T A b X R O Q F ks []) 10))]
 :=cR.of U U U
theorem agn(vw:ai):c9 (fG (kS []) 80 [.dj (some (10,0)) n n 1,g56] (xz T A b X R O Q F ks [(10,.deep C)]) 11 (.ew [],(xz T A b X R O Q F ks [(10,.deep C)]).set 10 (some (.deep vw)),11)) [] 10 Tryz.f54 [] (dh 2 Lq) (sS8 (xz T A b X R O Q F ks [(10,.deep C)]) 11 (.dj (some (10,0)) n n 1)) [([],
   [([V.dj (some (10,0)) n n 1,g56]=[V.dj (some (10,0)) n n 1,g56]/\xz T A b X R O Q F ks [(10,.deep C)]=xz T A b X R O Q F ks [(10,.deep C)]/\11=11)],
   .ret (.dj (some (10,0)) n n 1) (xz T A b X R O Q F ks [(10,.deep vw)]) 11)]
 :=cR.of U U U
theorem ago:c9 (kS []) [] 10 Tryz.f54 [] (dh 2 Lq) (sS8 (xz T A b X R O Q F ks []) 10 eM) [([],
   [((0:Int)<=(0:Int)/\0<256)],
   .ret (.dj none 0 0 0) (xz T A b X R O Q F ks []) 10)]
 :=cR.of U U U
end
def rq(m:Nat):List (L)->af
 | []=>[]
 |ks=>[(m,.deep (strs ks))]
theorem Sw(ks:List (L)):dM (nZ ks)=ks:=by
 unfold dM nZ;rw[List.map_map];exact List.map_id'' (fun _=>rfl) ks
section
variable(T A:Nat)(b:L)(X R O:Int)(Q F:ae)(ks:List (L))
def JSk(iO:ae)(s1:St):Prop:=yd iO/\Lj 14 Tryz.f81.ntmps s1 (ED T A b X R O Q F ks (Hj 14 (dM iO)) (rq 14 (dM iO)) (nK 14 (dM iO)))
abbrev RSk(v:V)(h:H lf)(n:Nat):Prop:=∃ls,List.Perm ls ks/\v= .ew []/\h=Y2 T A b X R O Q F ks (Hj 13 ls) (rq 13 ls)/\n=nK 13 ls
theorem V9(hl:ks.length<=1000000):gh ak 81 [.fn (.yield 12) [] [],P 9] (Y2 T A b X R O Q F ks eM []) 13 (RSk T A b X R O Q F ks):=by
 refine gO mo po Tryz.func81 (code:=Ey) U U ?_;rw[afj];have HI:(nZ ks).length=ks.length:=by unfold nZ;rw[aT]
 refine I7 (v0:=.map (some 8)) (kA:=(cU [.fn (.yield 12) [] [],P 9] (Y2 T A b X R O Q F ks eM []) 13).S.set 4 (some (.map (some 8)))) (Aa:=((cU [.fn (.yield 12) [] [],P 9] (Y2 T A b X R O Q F ks eM []) 13).S.set 4 (some (.map (some 8)))).set 5 (some (P 13))) (m:=8) (kd:=none) (Q:=nZ ks) mo MR
  U U U U (au rfl) U (JSk T A b X R O Q F ks) ⟨(fun _ h=>by cases h),.norm (aa:=[0,5]) U⟩ ?_
 rintro iO left s1 ⟨hv,hs⟩ hp;have iQ:iO.length<=1000000:=by
  have:=hp.length_eq;rw[ax]at this;omega
 have xW:∀e kD,List.Perm left (e::kD)->∃k,e=(.str k,.bool true):=fun e kD he=>by
  obtain⟨k,_,h⟩:=bA.1 (hp.mem_iff.1 (b9 _ (he.mem_iff.2 (aP ..))));exact⟨k,h.symm⟩
 have qW:left=[]->List.Perm (dM iO) ks:=fun h=>by
  subst h;rw[cA]at hp;have:=Bt hp;rwa [Sw]at this
 have pZ:∀k,dM (iO++[(.str k,.bool true)])=dM iO++[k]:=fun k=>by unfold dM;rw[aY];rfl
 have hkv:∀k,yd (iO++[(.str k,.bool true)]):=fun k z hz=>by
  rcases aW.1 hz with hz|hz
  . exact hv z hz
  . rw[aq]at hz;subst hz;exact⟨k,rfl⟩
 have PK:(dM iO).length<=1000000:=by rw[yg];exact iQ
 have hJ:∀k s',Lj 14 Tryz.f81.ntmps s' (ED T A b X R O Q F ks (Hj 14 (dM iO++[k])) (rq 14 (dM iO++[k])) (nK 14 (dM iO++[k])))->JSk T A b X R O Q F ks (iO++[(.str k,.bool true)]) s':=fun k s' h=>⟨hkv k,by rw[pZ];exact h⟩;generalize dM iO=ls at *;cases ls with
 |nil=>
  refine⟨_,hs,U,fun h0=>?_,fun e kD he=>?_⟩
  . refine⟨(ED T A b X R O Q F ks eM [] 14).S.set 6 (some (.ew [.bool false])),{ ED T A b X R O Q F ks eM [] 14 with S:=((ED T A b X R O Q F ks eM [] 14).S.set 6 (some (.ew [.bool false]))).set 7 (some (.bool false)) },U,U,U,.inl rfl,.ew [],Y2 T A b X R O Q F ks eM [],13,U,[],qW h0,rfl,rfl,rfl⟩
  . obtain⟨k,rfl⟩:=xW e kD he;refine⟨(ED T A b X R O Q F ks eM [] 14).S.set 6 (some (.ew [.bool true,.str k,.bool true])),{ ED T A b X R O Q F ks eM [] 14 with S:=((ED T A b X R O Q F ks eM [] 14).S.set 6 (some (.ew [.bool true,.str k,.bool true]))).set 7 (some (.bool true)) },
     (((ED T A b X R O Q F ks eM [] 14).S.set 6 (some (.ew [.bool true,.str k,.bool true]))).set 7 (some (.bool true))).set 8 (some (.ew [.str k,.bool true])),Um (ED T A b X R O Q F ks eM [] 14) k (.bool true),U,U,U,U,U,U,U,U,?_⟩
    refine fO (XQ []) (anK T A b X R O Q F ks k (.bool true)) (dG ?_);exact⟨cT,fun s' dO=>hJ k s' ((Lj.norm dO).trans (.deep [14] U))⟩
 |cons y ys=>
  have N:∀m,rq m (y::ys)=[(m,.deep (strs (y::ys)))]/\Hj m (y::ys)= .dj (some (m,0)) (y::ys).length (y::ys).length 1/\nK m (y::ys)=m+1:=fun m=>⟨rfl,rfl,rfl⟩;have B:∀m k,rq m (y::ys++[k])=[(m,.deep (strs (y::ys++[k])))]/\Hj m (y::ys++[k])= .dj (some (m,0)) (y::ys++[k]).length (y::ys++[k]).length 1/\nK m (y::ys++[k])=m+1:=fun m k=>⟨rfl,rfl,rfl⟩;have h3:0<(y::ys).length:=Nat.succ_pos _;generalize y::ys=ls at *;rw[(N 14).1,(N 14).2.1,(N 14).2.2]at hs;refine⟨_,hs,U,fun h0=>?_,fun e kD he=>?_⟩
  . refine⟨(ED T A b X R O Q F ks (.dj (some (14,0)) ls.length ls.length 1) [(14,.deep (strs ls))] 15).S.set 6 (some (.ew [.bool false])),{ ED T A b X R O Q F ks (.dj (some (14,0)) ls.length ls.length 1) [(14,.deep (strs ls))] 15 with S:=((ED T A b X R O Q F ks (.dj (some (14,0)) ls.length ls.length 1) [(14,.deep (strs ls))] 15).S.set 6 (some (.ew [.bool false]))).set 7 (some (.bool false)) },U,U,U,.inl rfl,.ew [],Y2 T A b X R O Q F ks (.dj (some (13,0)) ls.length ls.length 1) [(13,.deep (strs ls))],14,U,ls,qW h0,rfl,?_,?_⟩
    . rw[(N 13).1,(N 13).2.1]
    . rw[(N 13).2.2]
  . obtain⟨k,rfl⟩:=xW e kD he;refine⟨(ED T A b X R O Q F ks (.dj (some (14,0)) ls.length ls.length 1) [(14,.deep (strs ls))] 15).S.set 6 (some (.ew [.bool true,.str k,.bool true])),{ ED T A b X R O Q F ks (.dj (some (14,0)) ls.length ls.length 1) [(14,.deep (strs ls))] 15 with S:=((ED T A b X R O Q F ks (.dj (some (14,0)) ls.length ls.length 1) [(14,.deep (strs ls))] 15).S.set 6 (some (.ew [.bool true,.str k,.bool true]))).set 7 (some (.bool true)) },
     (((ED T A b X R O Q F ks (.dj (some (14,0)) ls.length ls.length 1) [(14,.deep (strs ls))] 15).S.set 6 (some (.ew [.bool true,.str k,.bool true]))).set 7 (some (.bool true))).set 8 (some (.ew [.str k,.bool true])),Um (ED T A b X R O Q F ks (.dj (some (14,0)) ls.length ls.length 1) [(14,.deep (strs ls))] 15) k (.bool true),U,U,U,U,U,U,U,U,?_⟩
    refine fO (XQ []) (anL T A b X R O Q F ks k (.bool true) ls.length (strs ls)) (dG ?_);refine⟨fm (by rw[eN];omega) (fm dU (eX (lZ K))),fun s' dO=>hJ k s' ?_⟩;have e:List.take (ls.length*1) (List.drop 0 (strs ls))++[rs.str k]=strs (ls++[k]):=by
     rw[bn,bk,bq (by rw[eN];omega)];unfold strs;rw[aY];rfl
    rw[e]at dO;rw[(B 14 k).1,(B 14 k).2.1,(B 14 k).2.2,ax];exact .norm dO
abbrev RSe(v:V)(h:H lf)(n:Nat):Prop:=∃ls,List.Perm ls ks/\v=Hj 10 ls/\h=xz T A b X R O Q F ks (rq 10 ls)/\n=nK 10 ls
theorem Sx(hl:ks.length<=1000000):gh ak 100 [eM,g81] (xz T A b X R O Q F ks []) 10 (RSe T A b X R O Q F ks):=by
 refine gO mo po Tryz.func100 (code:=RQ) U U ?_;refine iF  1 (XQ []) (anM T A b X R O Q F ks) cT ?_;refine cZ U ?_;refine cZ U ?_;refine fO (XQ []) (anN T A b X R O Q F ks) (dG ?_);refine⟨cT,fun s' dO=>c6 dO ?_⟩;refine fB (i:=0) U ?_;refine oH (gf:=81) (lb:=[P 9]) U U U U U (V9 T A b X R O Q F ks hl) ?_;rintro v h n ⟨ls,hp,rfl,rfl,rfl⟩;cases ls with
 |nil=>
  refine⟨U,?_⟩;refine fh (XQ []) (anP T A b X R O Q F ks) (dG ?_);exact⟨cT,_,_,_,rfl,[],hp,rfl,rfl,rfl⟩
 |cons x xs=>
  refine⟨U,?_⟩;refine fh (XQ []) (anO T A b X R O Q F ks (x::xs).length (strs (x::xs))) (dG ?_);exact⟨cT,_,_,_,rfl,x::xs,hp,rfl,rfl,rfl⟩
theorem Wa(hl:ks.length<=1000000):gh ak 79 [g81] (xz T A b X R O Q F ks []) 10 (RSe T A b X R O Q F ks):=by
 refine gO mo po Tryz.func79 (code:=Lr) U U ?_;refine iF  1 (XQ []) (anQ T A b X R O Q F ks) cT ?_;refine cZ U ?_;refine qt 1 (s1:={ S:=(Bm [(0,g81)]).set 3 (some g81),h:=xz T A b X R O Q F ks [],n:=10,gG:=[] }) (f:=100) (args:=[eM,g81]) U U U U U U (Sx T A b X R O Q F ks hl) ?_;rintro v h n ⟨ls,hp,rfl,rfl,rfl⟩;cases ls with
 |nil=>
  refine⟨(((Bm [(0,g81)]).set 3 (some g81)).set 4 (some eM)),sC8 (xz T A b X R O Q F ks []) 10 eM,U,U,?_⟩;refine fh (XQ []) (anS T A b X R O Q F ks) (dG ?_);exact⟨cT,_,_,_,rfl,[],hp,rfl,rfl,rfl⟩
 |cons x xs=>
  refine⟨(((Bm [(0,g81)]).set 3 (some g81)).set 4 (some (.dj (some (10,0)) (x::xs).length (x::xs).length 1))),sC8 (xz T A b X R O Q F ks [(10,.deep (strs (x::xs)))]) 11 (.dj (some (10,0)) (x::xs).length (x::xs).length 1),U,U,?_⟩;refine fh (XQ []) (anR T A b X R O Q F ks (x::xs).length (strs (x::xs))) (dG ?_);exact⟨cT,_,_,_,rfl,x::xs,hp,rfl,rfl,rfl⟩
theorem Wb(zs:List (L))(hl:ks.length<1000000)(w7:YV Q)(hn:∀x,0<=jR Q x/\jR Q x<1000000000)(hz:List.Perm zs ks)(hs:zs.Pairwise fun a b=>jR Q a<jR Q b):
  cW ak 54 [g81,g56] (xz T A b X R O Q F ks []) 10 (Hj 10 zs) (xz T A b X R O Q F ks (rq 10 zs)) (nK 10 zs):=by
 refine c5 Tryz.func54 (code:=Lq) U U ?_;refine iF  1 (XQ []) (anT T A b X R O Q F ks) cT ?_;refine cZ U ?_;refine qt 1 (s1:={ S:=(Bm [(0,g81),(1,g56)]).set 6 (some g81),h:=xz T A b X R O Q F ks [],n:=10,gG:=[] }) (f:=79) (args:=[g81]) U U U U U U (Wa T A b X R O Q F ks (Nat.le_of_lt hl)) ?_;rintro v h n ⟨ls,hp,rfl,rfl,rfl⟩;have ER:List.Perm zs ls:=hz.trans hp.symm;have iQ:ls.length<1000000:=by rw[hp.length_eq];exact hl
 cases ls with
 |nil=>
  have:zs=[]:=ER.eq_nil;subst this;refine⟨(((Bm [(0,g81),(1,g56)]).set 6 (some g81)).set 7 (some eM)),sS8 (xz T A b X R O Q F ks []) 10 eM,U,U,?_⟩;refine fh (XQ []) (ago T A b X R O Q F ks) (dG ?_);exact⟨eX ⟨dU,dU⟩,_,_,_,rfl,rfl,rfl,rfl⟩
 |cons x xs=>
  have hzn:zs.length=(x::xs).length:=ER.length_eq;have N:Hj 10 zs= .dj (some (10,0)) zs.length zs.length 1/\rq 10 zs=[(10,.deep (strs zs))]/\nK 10 zs=11:=by
   cases zs with
   |nil=>cases hzn
   |cons z zs=>exact⟨rfl,rfl,rfl⟩
  rw[N.1,N.2.1,N.2.2,hzn];refine⟨(((Bm [(0,g81),(1,g56)]).set 6 (some g81)).set 7 (some (.dj (some (10,0)) (x::xs).length (x::xs).length 1))),sS8 (xz T A b X R O Q F ks [(10,.deep (strs (x::xs)))]) 11 (.dj (some (10,0)) (x::xs).length (x::xs).length 1),U,U,?_⟩;obtain⟨L5,wK⟩:=agn T A b X R O Q F ks (x::xs).length (strs (x::xs)) (strs zs);have I:cW ak 80 [.dj (some (10,0)) (x::xs).length (x::xs).length 1,g56] (xz T A b X R O Q F ks [(10,.deep (strs (x::xs)))]) 11 (.ew []) ((xz T A b X R O Q F ks [(10,.deep (strs (x::xs)))]).set 10 (some (.deep (strs zs)))) 11:=
   aa8 (bx:=7) (st:=3) (c:=5) (C:=vI 4 5 6 (pS T A b X R O Q F)) (x::xs) zs U dU U U rfl U w7 hn (Nat.succ_pos _) iQ ER hs dU dU dU
  refine gA ((XQ []).jA (au U) I) mo _ U wK (dG ?_);exact⟨eX ⟨rfl,rfl,rfl⟩,_,_,_,rfl,rfl,rfl,rfl⟩
end
noncomputable abbrev hd4:Code:=eV 4 OL
noncomputable abbrev Uo:Code:=dh 4 OL
noncomputable abbrev Hl:Code:=dh 5 OL
section
variable(T A:Nat)(b:L)(X R O:Int)(Q F:ae)(ks:List (L))
def lH1:af:=lC T A b X R O Q F
def lH2:af:=lC T A b X R O Q F++[(20,.dI none (nZ ks))]
def lH3(row:af):af:=lC T A b X R O Q F++[(20,.dI none (nZ ks)),(21,.cells [.map (some 20)])]++row
end
section
variable(T A:Nat)(b:L)(X R O:Int)(Q F:ae)(ks:List (L))
theorem anX(n:Nat)(C:ai):c9 (fG (fG (kS []) 51 [P3,v78] (J (lH1 T A b X R O Q F)) 20 (.map (some 20),J (lH2 T A b X R O Q F ks),21)) 54 [v81,v56] (J (lH3 T A b X R O Q F ks [])) 22 (.dj (some (22,0)) n n 1,J (lH3 T A b X R O Q F ks [(22,.deep C)]),23)) [] 7 Tryz.f19 [1,3,4] (hd4) (cU [P3] (eu (pS T A b X R O Q F)) 7) [([],
   [fC [.ptr (some (3,0)),.fn (.func 78) [] [.ptr (some (19,0))]] (J (eK (pS T A b X R O Q F)++[(7,.cells [.ptr (some (3,0))]),(19,.cells [.map (some 6)])])) 20,fC [.fn (.func 81) [] [.ptr (some (21,0))],.fn (.func 56) [] [.ptr (some (7,0))]] (J (eK (pS T A b X R O Q F)++[(7,.cells [.ptr (some (3,0))]),(19,.cells [.map (some 6)]),(20,.dI none (nZ ks)),(21,.cells [.map (some 20)])])) 22],
   .to .normal (eG [(1,.ptr (some (7,0))),(3,.dj (some (8,0)) n n 1),(4,.dj none 0 0 0)] (J (eK (pS T A b X R O Q F)++[(7,.cells [.ptr (some (3,0))]),(8,.deep C)])) 9))]
 :=cR.of U U U
theorem anY:c9 (fG (fG (kS []) 51 [P3,v78] (J (lH1 T A b X R O Q F)) 20 (.map (some 20),J (lH2 T A b X R O Q F ks),21)) 54 [v81,v56] (J (lH3 T A b X R O Q F ks [])) 22 (eM,J (lH3 T A b X R O Q F ks []),22)) [] 7 Tryz.f19 [1,3,4] (hd4) (cU [P3] (eu (pS T A b X R O Q F)) 7) [([],
   [fC [.ptr (some (3,0)),.fn (.func 78) [] [.ptr (some (19,0))]] (J (eK (pS T A b X R O Q F)++[(7,.cells [.ptr (some (3,0))]),(19,.cells [.map (some 6)])])) 20,fC [.fn (.func 81) [] [.ptr (some (21,0))],.fn (.func 56) [] [.ptr (some (7,0))]] (J (eK (pS T A b X R O Q F)++[(7,.cells [.ptr (some (3,0))]),(19,.cells [.map (some 6)]),(20,.dI none (nZ ks)),(21,.cells [.map (some 20)])])) 22],
   .to .normal (eG [(1,.ptr (some (7,0))),(3,.dj none 0 0 0),(4,.dj none 0 0 0)] (J (eK (pS T A b X R O Q F)++[(7,.cells [.ptr (some (3,0))])])) 8))]
 :=cR.of U U U
end
section
variable(T A:Nat)(b:L)(X R O:Int)(Q F:ae)(zs:List (L))(i:Nat)(bs:L)
def abB:St:=eG [(1,P 7),(4,eM),(26,.dj (some (8,0)) zs.length zs.length 1),(27,.int .i64 (Int.ofNat zs.length)),(28,.int .i64 0)] (J (eK (pS T A b X R O Q F)++[(7,.cells [P3]),(8,.deep (strs zs))])) 9
def sHk:St:=eG [(1,P 7),(4,.dj (some (8,0)) bs.length bs.length 1),(26,.dj (some (9,0)) zs.length zs.length 1),(27,.int .i64 (Int.ofNat zs.length)),(28,.int .i64 (Int.ofNat i))] (J (eK (pS T A b X R O Q F)++[(7,.cells [P3]),(8,.jf 5 false bs),(9,.deep (strs zs))])) 10
def sHe:St:=eG [(1,P 7),(4,.dj (some (8,0)) bs.length bs.length 1)] (J (eK (pS T A b X R O Q F)++[(7,.cells [P3]),(8,.jf 5 false bs)])) 9
def sHn:St:=eG [(1,P 7),(4,eM)] (J (eK (pS T A b X R O Q F)++[(7,.cells [P3])])) 8
end
section
variable(T A:Nat)(b:L)(Q:ae)(X:Int)(x:L)(R O:Int)
theorem an0(Q F:ae)(zs:List (L)):c9 (kS []) [(28,.di (.int .i64 (Int.ofNat 0)))] 7 Tryz.f19 [1,4,26,27,28] (dP (dP Uo)) (eG [(1,P 7),(3,.dj (some (8,0)) zs.length zs.length 1),(4,eM)] (J (eK (pS T A b X R O Q F)++[(7,.cells [P3]),(8,.deep (strs zs))])) 9) [([],
   [(V.int aj (0:Int)=V.int aj (0:Int))],
   .to .normal (abB T A b X R O Q F zs))]
 :=cR.of U U U
abbrev Sy(d:L)(D:List (L))(k:Int):Prop:=(if false=true then V.ew [rs.fW (V.agg [V.str ([]:L),V.dj none 0 0 0,V.int aj (0:Int)]) (dr (rs.str x) Q),V.bool (dr (rs.str x) Q).isSome]else rs.fW (V.agg [V.str ([]:L),V.dj none 0 0 0,V.int aj (0:Int)]) (dr (rs.str x) Q))=nJ d D k
theorem an1(Q F:ae)(zs:List (L))(x d:L)(D:List (L))(k:Int):c9 Bq [(29,.split),(31,.di (.str x)),(38,.di (nJ d D k)),(45,.di (nJ d D k))] 7 Tryz.f19 [1,4,26,27,28] (dz (dz (dY (dP Uo)))) (abB T A b X R O Q F zs) [([((decide ((0:Int)<Int.ofNat zs.length)),true)],
   [((0:Int)<=(0:Int)/\(0:Int)<(Int.ofNat zs.length)),(0<(strs zs).length),(((strs zs).getD 0 rs.uP).iZ=V.str x),Sy Q x d D k,Sy Q x d D k,(strs D=strs (dy (strs D))),(D.length=(dy (strs D)).length),(d.length<=100000000),(D.length<=1000000),((dy (strs D)).flatten.length<=100000000),(0<(gd d (dy (strs D))).length),(eU (gd d (dy (strs D))).length 1 1=true)],
   .to .normal (eG [(1,.ptr (some (7,0))),(4,.dj (some (8,0)) ((gd d (dy (strs D))).length) ((gd d (dy (strs D))).length) 1),(26,.dj (some (9,0)) (zs.length) (zs.length) 1),(27,.int .i64 (Int.ofNat zs.length)),(28,.int .i64 1)] (J (eK (pS T A b X R O Q F)++[(7,.cells [.ptr (some (3,0))]),(8,.jf 5 false (gd d (dy (strs D)))),(9,.deep (strs zs))])) 10)),
  ([((decide ((0:Int)<Int.ofNat zs.length)),false)],
   [],
   .to (.exit 0) (eG [(1,.ptr (some (7,0))),(4,.dj none 0 0 0),(26,.dj (some (8,0)) (zs.length) (zs.length) 1),(27,.int .i64 (Int.ofNat zs.length)),(28,.int .i64 0)] (J (eK (pS T A b X R O Q F)++[(7,.cells [.ptr (some (3,0))]),(8,.deep (strs zs))])) 9))]
 :=cR.of U U U
abbrev Sz(d:L)(D:List (L))(k:Int):Prop:=(if false=true then V.ew [rs.fW (V.agg [V.str ([]:L),V.dj none 0 0 0,V.int aj (0:Int)]) (dr (rs.str x) Q),V.bool (dr (rs.str x) Q).isSome]else rs.fW (V.agg [V.str ([]:L),V.dj none 0 0 0,V.int aj (0:Int)]) (dr (rs.str x) Q))=nJ d D k
end
section
variable(T A:Nat)(b:L)(X R O:Int)(Q F:ae)
theorem an2(zs:List (L))(i:Nat)(x d:L)(D:List (L))(k:Int)(bs:L):c9 Bq [(29,.split),(31,.di (.str x)),(38,.di (nJ d D k)),(45,.di (nJ d D k)),(49,.di (.int .i64 (Int.ofNat (i+1))))] 7 Tryz.f19 [1,4,26,27,28] (dz (dz (dY (dP Uo)))) (sHk T A b X R O Q F zs i bs) [([((decide (Int.ofNat i<Int.ofNat zs.length)),true)],
   [((0:Int)<=Int.ofNat i/\Int.ofNat i<(Int.ofNat zs.length)),(0+i*1<(strs zs).length),(((strs zs).getD (0+i*1) rs.uP).iZ=V.str x),Sz Q x d D k,Sz Q x d D k,(strs D=strs (dy (strs D))),(D.length=(dy (strs D)).length),(d.length<=100000000),(D.length<=1000000),((dy (strs D)).flatten.length<=100000000),(0<bs.length),(bs.length=bs.length),(eU (bs.length+(gd d (dy (strs D))).length) 1 1=true),kY (Int.ofNat i+(1:Int)) (i+1)],
   .to .normal (eG [(1,.ptr (some (7,0))),(4,.dj (some (8,0)) (bs.length+(gd d (dy (strs D))).length) (bs.length+(gd d (dy (strs D))).length) 1),(26,.dj (some (9,0)) (zs.length) (zs.length) 1),(27,.int .i64 (Int.ofNat zs.length)),(28,.int .i64 (Int.ofNat (i+1)))] (J (eK (pS T A b X R O Q F)++[(7,.cells [.ptr (some (3,0))]),(8,.jf 5 false (bs++eT (ef (gd d (dy (strs D)))))),(9,.deep (strs zs))])) 10)),
  ([((decide (Int.ofNat i<Int.ofNat zs.length)),false)],
   [],
   .to (.exit 0) (eG [(1,.ptr (some (7,0))),(4,.dj (some (8,0)) (bs.length) (bs.length) 1),(26,.dj (some (9,0)) (zs.length) (zs.length) 1),(27,.int .i64 (Int.ofNat zs.length)),(28,.int .i64 (Int.ofNat i))] (J (eK (pS T A b X R O Q F)++[(7,.cells [.ptr (some (3,0))]),(8,.jf 5 false bs),(9,.deep (strs zs))])) 10))]
 :=cR.of U U U
theorem an3(zs:List (L))(i:Nat)(bs:L):c9 Bq [(29,.di (.bool false))] 7 Tryz.f19 [1,4] (dz (dz (dY (dP Uo)))) (sHk T A b X R O Q F zs i bs) [([],
   [(V.bool (decide (Int.ofNat i<Int.ofNat zs.length))=V.bool false)],
   .to (.exit 0) (eG [(1,.ptr (some (7,0))),(4,.dj (some (8,0)) (bs.length) (bs.length) 1)] (J (eK (pS T A b X R O Q F)++[(7,.cells [.ptr (some (3,0))]),(8,.jf 5 false bs)])) 9))]
 :=cR.of U U U
theorem an4:c9 (kS []) [] 7 Tryz.f19 [1,4] (dP Uo) (eG [(1,P 7),(3,eM),(4,eM)] (J (eK (pS T A b X R O Q F)++[(7,.cells [P3])])) 8) [([],
   [],
   .to .normal (sHn T A b X R O Q F))]
 :=cR.of U U U
end
section
variable(T A:Nat)(b:L)(X R O:Int)(Q F:ae)(zs:List (L))(i:Nat)(bs:L)
def lHe:af:=eK (pS T A b X R O Q F)++[(7,.cells [P3]),(8,.jf 5 false bs)]
def sHr:St:=eG [(1,P 7),(4,.dj (some (8,0)) bs.length bs.length 1),(51,.dj (some (9,0)) zs.length zs.length 1),(52,.int .i64 (Int.ofNat zs.length)),(53,.int .i64 (Int.ofNat i))] (J (eK (pS T A b X R O Q F)++[(7,.cells [P3]),(8,.jf 5 false bs),(9,.deep (strs zs))])) 10
end
section
variable(b:L)(R O:Int)(Q F:ae)(bs:L)
def l3b(X:Int):af:=[(0,.ints .u32 gS),(1,.ints .u32 gR),(3,.cells [.dj (some (7,0)) bs.length bs.length 1,.int .i64 X,.map (some 5),.map (some 6),.int .i64 R,.bool false,.bool false,.int .i64 O]),(4,.jf 5 false b),(5,.dI none Q),(6,.dI none F),(7,.jf 5 false bs),(8,.cells [P3])]
def l3r(m:Nat)(c:af)(Jl:Int)(mQ nj:ae):af:=[(0,.ints .u32 gS),(1,.ints .u32 gR),(3,.cells [.dj (some (7,0)) bs.length bs.length 1,.int .i64 (Int.ofNat bs.length),.map (some m),.map (some (m+1)),.int .i64 Jl,.bool false,.bool false,.int .i64 O]),(4,.jf 5 false b),(5,.dI none Q),(6,.dI none F),(7,.jf 5 false bs)]++c++[(m,.dI none mQ),(m+1,.dI none nj)]
def l3e:af:=[(0,.ints .u32 gS),(1,.ints .u32 gR),(3,.cells [eM,.int .i64 0,.map (some 5),.map (some 6),.int .i64 R,.bool false,.bool false,.int .i64 O]),(4,.jf 5 false b),(5,.dI none Q),(6,.dI none []),(7,.cells [P3])]
def l3f(m:Nat)(c:af):af:=[(0,.ints .u32 gS),(1,.ints .u32 gR),(3,.cells [eM,.int .i64 0,.map (some m),.map (some (m+1)),.int .i64 0,.bool false,.bool false,.int .i64 O]),(4,.jf 5 false b),(5,.dI none Q),(6,.dI none [])]++c++[(m,.dI none []),(m+1,.dI none [])]
end
section
variable(T A:Nat)(b:L)(X R O:Int)(Q F:ae)(bs x:L)
theorem an5(zs:List (L))(bs:L):c9 (fG Bq 23 [P3] (J (lHe T A b X R O Q F bs)) 9 (.dj (some (9,0)) zs.length zs.length 1,J (lHe T A b X R O Q F bs++[(9,.deep (strs zs))]),10)) [(53,.di (.int .i64 (Int.ofNat 0)))] 7 Tryz.f19 [1,4,51,52,53] (dP (dP Hl)) (sHe T A b X R O Q F bs) [([],
   [fC [.ptr (some (3,0))] (J (eK (pS T A b X R O Q F)++[(7,.cells [.ptr (some (3,0))]),(8,.jf 5 false bs)])) 9,(V.int aj (0:Int)=V.int aj (0:Int))],
   .to .normal (eG [(1,.ptr (some (7,0))),(4,.dj (some (8,0)) (bs.length) (bs.length) 1),(51,.dj (some (9,0)) (zs.length) (zs.length) 1),(52,.int .i64 ((Int.ofNat zs.length))),(53,.int .i64 0)] (J (eK (pS T A b X R O Q F)++[(7,.cells [.ptr (some (3,0))]),(8,.jf 5 false bs),(9,.deep (strs zs))])) 10))]
 :=cR.of U U U
theorem agp(bs:L):c9 (fG Bq 23 [P3] (J (lHe T A b X R O Q F bs)) 9 (.dj (some (9,0)) 1 1 1,J (lHe T A b X R O Q F bs++[(9,.cells [.str x])]),10)) [(53,.di (.int .i64 (Int.ofNat 0)))] 7 Tryz.f19 [1,4,51,52,53] (dP (dP Hl)) (sHe T A b X R O Q F bs) [([],
   [fC [.ptr (some (3,0))] (J (eK (pS T A b X R O Q F)++[(7,.cells [.ptr (some (3,0))]),(8,.jf 5 false bs)])) 9,(V.int aj (0:Int)=V.int aj (0:Int))],
   .to .normal (eG [(1,.ptr (some (7,0))),(4,.dj (some (8,0)) (bs.length) (bs.length) 1),(51,.dj (some (9,0)) 1 1 1),(52,.int .i64 1),(53,.int .i64 0)] (J (eK (pS T A b X R O Q F)++[(7,.cells [.ptr (some (3,0))]),(8,.jf 5 false bs),(9,.cells [.str x])])) 10))]
 :=cR.of U U U
theorem an6(zs:List (L))(i:Nat)(x d:L)(bs:L):c9 Bq [(54,.split),(56,.di (.str x)),(64,.di (.str d)),(67,.di (.int .i64 (Int.ofNat (i+1))))] 7 Tryz.f19 [1,4,51,52,53] (dz (dz (dY (dP Hl)))) (sHr T A b X R O Q F zs i bs) [([((decide (Int.ofNat i<Int.ofNat zs.length)),true)],
   [((0:Int)<=Int.ofNat i/\Int.ofNat i<(Int.ofNat zs.length)),(0+i*1<(strs zs).length),(((strs zs).getD (0+i*1) rs.uP).iZ=V.str x),((if false=true then V.ew [rs.fW (V.str ([]:L)) (dr (rs.str x) F),V.bool (dr (rs.str x) F).isSome]else rs.fW (V.str ([]:L)) (dr (rs.str x) F))=V.str d),(x.length<100000000),(d.length<100000000),(0<bs.length),(bs.length=bs.length),(eU (bs.length+(kZ x d).length) 1 1=true),kY (Int.ofNat i+(1:Int)) (i+1)],
   .to .normal (eG [(1,.ptr (some (7,0))),(4,.dj (some (8,0)) (bs.length+(kZ x d).length) (bs.length+(kZ x d).length) 1),(51,.dj (some (9,0)) (zs.length) (zs.length) 1),(52,.int .i64 (Int.ofNat zs.length)),(53,.int .i64 (Int.ofNat (i+1)))] (J (eK (pS T A b X R O Q F)++[(7,.cells [.ptr (some (3,0))]),(8,.jf 5 false (bs++eT (ef (kZ x d)))),(9,.deep (strs zs))])) 10)),
  ([((decide (Int.ofNat i<Int.ofNat zs.length)),false)],
   [],
   .to (.exit 2) (eG [(1,.ptr (some (7,0))),(4,.dj (some (8,0)) (bs.length) (bs.length) 1),(51,.dj (some (9,0)) (zs.length) (zs.length) 1),(52,.int .i64 (Int.ofNat zs.length)),(53,.int .i64 (Int.ofNat i))] (J (eK (pS T A b X R O Q F)++[(7,.cells [.ptr (some (3,0))]),(8,.jf 5 false bs),(9,.deep (strs zs))])) 10))]
 :=cR.of U U U
theorem agq(zs:List (L))(i:Nat)(bs:L):c9 Bq [(54,.di (.bool false))] 7 Tryz.f19 [1,4] (dz (dz (dY (dP Hl)))) (sHr T A b X R O Q F zs i bs) [([],
   [(V.bool (decide (Int.ofNat i<Int.ofNat zs.length))=V.bool false)],
   .to (.exit 2) (eG [(1,.ptr (some (7,0))),(4,.dj (some (8,0)) (bs.length) (bs.length) 1)] (J (eK (pS T A b X R O Q F)++[(7,.cells [.ptr (some (3,0))]),(8,.jf 5 false bs)])) 9))]
 :=cR.of U U U
theorem agr:c9 Bq [] 7 Tryz.f19 [1] (eV 3 (dY Hl)) (sHe T A b X R O Q F bs) [([],
   [],
   .to .normal (eG [(1,.ptr (some (8,0)))] (J (l3b b R O Q F bs (Int.ofNat bs.length))) 9))]
 :=cR.of U U U
theorem ags:c9 (fG Bq 23 [P3] (J (eK (pS T A b X R O Q [])++[(7,.cells [P3])])) 8 (eM,J (eK (pS T A b X R O Q [])++[(7,.cells [P3])]),8)) [] 7 Tryz.f19 [1,4] (dP Hl) (sHn T A b X R O Q []) [([],
   [fC [.ptr (some (3,0))] (J (eK (pS T A b X R O Q [])++[(7,.cells [.ptr (some (3,0))])])) 8],
   .to .normal (eG [(1,.ptr (some (7,0))),(4,.dj none 0 0 0)] (J (eK (pS T A b X R O Q [])++[(7,.cells [.ptr (some (3,0))])])) 8))]
 :=cR.of U U U
theorem agt:c9 Bq [] 7 Tryz.f19 [1] (eV 3 (dY Hl)) (sHn T A b X R O Q []) [([],
   [],
   .to .normal (eG [(1,.ptr (some (7,0)))] (J (l3e b R O Q)) 8))]
 :=cR.of U U U
theorem agu(Jl:Int)(mQ nj:ae):c9 (fG Bq 57 [P3] (J (l3b b R O Q F bs (Int.ofNat bs.length))) 9 (.ew [],J (l3r b O Q F bs 9 [(8,.cells [P3])] Jl mQ nj),11)) [] 7 Tryz.f19 [] (dh 3 (dY Hl)) (eG [(1,.ptr (some (8,0)))] (J (l3b b R O Q F bs (Int.ofNat bs.length))) 9) [([],
   [fC [.ptr (some (3,0))] (J [(0,.ints .u32 gS),(1,.ints .u32 gR),(3,.cells [.dj (some (7,0)) (bs.length) (bs.length) 1,.int .i64 (Int.ofNat bs.length),.map (some 5),.map (some 6),.int .i64 R,.bool false,.bool false,.int .i64 O]),(4,.jf 5 false b),(5,.dI none Q),(6,.dI none F),(7,.jf 5 false bs),(8,.cells [.ptr (some (3,0))])]) 9],
   .ret (.int .i64 0) (J (l3r b O Q F bs 8 [] Jl mQ nj)) 10)]
 :=cR.of U U U
end
theorem agv(b:L)(R O:Int)(Q:ae):c9 (fG Bq 57 [P3] (J (l3e b R O Q)) 8 (.ew [],J (l3f b O Q 8 [(7,.cells [P3])]),10)) [] 7 Tryz.f19 [] (dh 3 (dY Hl)) (eG [(1,.ptr (some (7,0)))] (J (l3e b R O Q)) 8) [([],
   [fC [.ptr (some (3,0))] (J [(0,.ints .u32 gS),(1,.ints .u32 gR),(3,.cells [.dj none 0 0 0,.int .i64 0,.map (some 5),.map (some 6),.int .i64 R,.bool false,.bool false,.int .i64 O]),(4,.jf 5 false b),(5,.dI none Q),(6,.dI none []),(7,.cells [.ptr (some (3,0))])]) 8],
   .ret (.int .i64 0) (J (l3f b O Q 7 [])) 9)]
 :=cR.of U U U
def SA(ns:List (Option Nat))(l:af):af->List (Option lf):=List.map fun q=>match ns.getD q.1 none with
 |some m=>match(J l).get m with
  |some o=>o.rn (mu ns)
  |none=>none
 |none=>none
theorem jJ{ns:List (Option Nat)}{l l1:af}(ht:(l1.all fun q=>Nat.blt q.1 fP)=true)(hg:(jU.all fun p=>decide (ns.getD p.2 none=some p.2))=true)(hn:nG ns=true)
  (hv:(ns.all fun x=>match x with|none=>true|some m=>(jU.any fun p=>decide (p.2=m))||((J l).get m).isSome)=true) (he:SA ns l l1=l1.map fun q=>some q.2):rY ns (J l) (J l1):=by
 refine AI (fun p hp=>au (bt.1 ht p hp)) (fun p hp=>aE (bt.1 hg p hp)) hn (fun j m hj=>?_) fun p hp=>?_
 . have W:some m∈ns:=by
    rw[aM]at hj;cases G:ns[j]? with
    |none=>rw[G]at hj;cases hj
    |some x=>rw[G]at hj;simp only[Option.getD_some]at hj;subst hj;exact bf G
   have:=bt.1 hv _ W;simp only[bU,List.any_eq_true]at this;rcases this with⟨p,hp,Wc⟩|h
   . exact .inl ⟨p,hp,aE Wc⟩
   . exact .inr (Option.isSome_iff_ne_none.1 h)
 . have:(match ns.getD p.1 none with
    |some m=>match(J l).get m with
     |some o=>o.rn (mu ns)
     |none=>none
    |none=>none)=some p.2:=List.map_inj_left.1 he p hp
   split at this
   . rename_i m W;split at this
     . rename_i o ho;exact⟨m,o,W,ho,this⟩
     . cases this
   . cases this
section
variable(T A:Nat)(b:L)(X R O:Int)(Q F:ae)
def an7:List (Option Nat):=[some 0,some 1,some 2,some 3,some 4,some 5,some 6,some 19]
def agw:List (Option Nat):=[some 0,some 1,some 2,some 3,some 4,some 5,some 6,some 7,some 20,some 21]
theorem c51(k:Nat)(J5:Eg F)(he:∀d∈iV F,Ends Q k d):cW ak 51 [P3,v78] (J (lH1 T A b X R O Q F)) 20 (.map (some 20)) (J (lH2 T A b X R O Q F (qj Q F k))) 21:=by
 have I:=M8 T A b X R O Q F k J5 he;generalize qj Q F k=ks at I ⊢;refine gm (ns:=an7) (jJ U U U U U) U U I
theorem c54(ks zs:List (L))(hl:ks.length<1000000)(w7:YV Q)(hn:∀x,0<=jR Q x/\jR Q x<1000000000)(hz:List.Perm zs ks)(hs:zs.Pairwise fun a b=>jR Q a<jR Q b):
  cW ak 54 [v81,v56] (J (lH3 T A b X R O Q F ks [])) 22 (Hj 22 zs) (J (lH3 T A b X R O Q F ks (rq 22 zs))) (nK 22 zs):=by
 have I:=Wb T A b X R O Q F ks zs hl w7 hn hz hs;cases zs with
 |nil=>exact gm (ns:=agw) (jJ U U U U U) U U I
 |cons z zs=>exact gm (ns:=agw) (jJ U U U U U) U U I
theorem c23(bs:L)(hk:yd F)(hl:F.length<1000000):cW ak 23 [P3] (J (lHe T A b X R O Q F bs)) 9 (Hj 9 (iz (dM F))) (J (lHe T A b X R O Q F bs++Bs 9 (iz (dM F)))) (nK 9 (iz (dM F))):=by
 have I:=B6 T A b X R O Q F hk hl;generalize iz (dM F)=zs at I ⊢
 match zs,I with
 | [],I=>exact gm (ns:=ns7) (jJ U U U U U) U U I
 | [x],I=>exact gm (ns:=ns7) (jJ U U U U U) U U I
 |x::y::zs,I=>exact gm (ns:=ns7) (jJ U U U U U) U U I
theorem an8:cW ak 23 [P3] (J (eK (pS T A b X R O Q [])++[(7,.cells [P3])])) 8 eM (J (eK (pS T A b X R O Q [])++[(7,.cells [P3])])) 8:=by
 have I:=B6 T A b X R O Q [] (fun _ h=>by cases h) dU;rw[show iz (dM [])=[]from FD]at I;exact gm (ns:=ns7) (jJ U U U U U) U U I
end
section
variable(b:L)(R O:Int)(Q F:ae)
theorem c57(l:List jB)(iy:∀r∈l,r.ok)(l8:(dc l).length<1000000000):
  cW ak 57 [P3] (J (l3b b R O Q F (dc l) (Int.ofNat (dc l).length))) 9 (.ew []) (J (l3r b O Q F (dc l) 9 [(8,.cells [P3])] (jc l).R (jc l).Q (jc l).F)) 11:=by
 have I:=M5 (dc l).length (dc l).length (dc l) (Int.ofNat (dc l).length) R O Q F l [] (aA _) iy (by rw[aU,cA]) (by rw[aU];exact .inl rfl) (aA _) l8;generalize dc l=bs at I ⊢;generalize jc l=q at I ⊢;obtain⟨Jl,mQ,nj⟩:=q;exact gm (ns:=amt) (jJ U U U U U) U U I
def agx:List (Option Nat):=[some 0,some 1,some 2,some 3,none,some 5,some 6]
theorem an9:cW ak 57 [P3] (J (l3e b R O Q)) 8 (.ew []) (J (l3f b O Q 8 [(7,.cells [P3])])) 10:=by
 have I:=Hf 0 R O Q [];exact gm (ns:=agx) (jJ U U U U U) U U I
end
section
variable(Q F:ae)(n:L)
def zF(x:L):jB:=match dr (.str x) Q with
 |some (.agg [.str d,.dS _ C,_])=>.chunk d (dy C)
 |_=>.chunk [] []
def rcV:L:=match dr (.str n) F with
 |some (.str d)=>d
 |_=>[]
def DI:jB:=.root n (rcV F n)
def oa(zs:List (L)):List jB:=zs.map (zF Q)++(iz (dM F)).map (DI F)
end
theorem Ho{Q:ae}{x d:L}{D:List (L)}{k:Int}(h:dr (.str x) Q=some (oF d D k)):zF Q x= .chunk d D:=by
 unfold zF;rw[h];show jB.chunk d (dy (strs D))=_;rw[fR]
theorem FE{zs:List (L)}{i:Nat}(h:i<zs.length):0+i*1<(strs zs).length/\((strs zs).getD (0+i*1) rs.uP).iZ=V.str zs[i]:=by
 refine⟨by rw[eN];omega,?_⟩;unfold strs;rw[bE,bk,aM,bu,ay h];rfl
theorem vN(l:List jB)(r:jB):dc (l++[r])=dc l++r.bytes:=by
 unfold dc;rw[aY,cz,List.map_singleton,List.flatten_singleton]
theorem LK(l m:List jB):dc (l++m)=dc l++dc m:=by
 unfold dc;rw[aY,cz]
theorem AK{l:List jB}(i:Nat):(dc (l.take i)).length<=(dc l).length:=by
 conv=>rhs;rw[uc l i]
 rw[ax];omega
section
variable(T A:Nat)(b:L)(X R O:Int)(Q F:ae)
theorem Wd(zs:List (L))(hz:zs≠[])(ER:zs.length<1000000)(hh:∀x∈zs,uC Q x/\(zF Q x).ok)(l8:(dc (zs.map (zF Q))).length<1000000000){es:Exit->St->Prop}
  (h:TG ak 7 Tryz.f19.ntmps (dY Uo) (sHe T A b X R O Q F (dc (zs.map (zF Q)))) es):TG ak 7 Tryz.f19.ntmps Uo (eG [(1,P 7),(3,.dj (some (8,0)) zs.length zs.length 1),(4,eM)] (J (eK (pS T A b X R O Q F)++[(7,.cells [P3]),(8,.deep (strs zs))])) 9) es:=by
 refine cZ U ?_;refine cZ U ?_;refine fO (XQ []) (an0 T A b X R O Q F zs) (dG ?_);refine⟨eX rfl,fun s' dO=>?_⟩;have hb:∀i,(hi:i<zs.length)->dc ((zs.take (i+1)).map (zF Q))=dc ((zs.take i).map (zF Q))++(zF Q zs[i]).bytes:=fun i hi=>by
  rw[bG,ay hi,cE,aY,List.map_singleton,vN]
 have ku:∀i,(dc ((zs.take i).map (zF Q))).length<1000000000:=fun i=>by
  have:=AK (l:=zs.map (zF Q)) i;rw[cN];omega
 refine jx 0 zs.length (fun i=>if i=0 then abB T A b X R O Q F zs else sHk T A b X R O Q F zs i (dc ((zs.take i).map (zF Q)))) U U (.norm dO) (fun i hi=>?_) ?_
 . obtain⟨⟨d,D,k,he⟩,iy⟩:=hh zs[i] (b7 hi);have hrc:=Ho he;have hg:=FE hi;have yO:=hb i hi;have Og:=ku (i+1);rw[hrc]at iy yO;have QB:d.length<=66000/\D.length<=2000/\D.flatten.length<=66000:=by
    obtain⟨N,B,h3⟩:=iy;have:=sN h3;omega
   have M4:0<(gd d D).length:=oI (r:=.chunk d D);rw[aI (Nat.succ_ne_zero i)];by_cases h0:i=0
   . subst h0;rw[aH rfl];refine fO XT (an1 T A b X R O Q F zs zs[0] d D k) fun g uK I=>?_;simp only[fR]at uK;rcases iU uK with rfl|rfl
     . refine⟨fm (⟨dU,dm⟩) (fm (by have:=hg.1;omega) (fm (by have:=hg.2;rwa [Nat.zero_mul,bE]at this) (fm (vM Q he) (fm (vM Q he) (fm (trivial) (fm (trivial) (fm K (fm K (fm K (fm (M4) (eX (jk (by rw[yO,ax]at Og;have:(jB.chunk d D).bytes.length=(gd d D).length:=rfl;omega))))))))))))),fun s' dO=>?_⟩;rw[yO];exact .norm dO
     . exact absurd (aJ (I _ (aq.2 rfl))) dm
   . rw[aI h0];have Lv:0<(dc ((zs.take i).map (zF Q))).length:=by
      obtain⟨j,rfl⟩:∃j,i=j+1:=⟨i-1,K⟩;rw[hb j K,ax];have:=oI (r:=zF Q zs[j]);omega
     rw[yO,ax]at Og;rw[yO];generalize dc ((zs.take i).map (zF Q))=bs at Og Lv ⊢;refine fO XT (an2 T A b X R O Q F zs i zs[i] d D k bs) fun g uK I=>?_;simp only[fR,gk]at uK;rcases iU uK with rfl|rfl
     . refine⟨fm (⟨az _,dm⟩) (fm (hg.1) (fm (hg.2) (fm (vM Q he) (fm (vM Q he) (fm (trivial) (fm (trivial) (fm K (fm K (fm K (fm (Lv) (fm (trivial) (fm (jk (by have:(jB.chunk d D).bytes.length=(gd d D).length:=rfl;omega)) (eX (fL dm K)))))))))))))),fun s' dO=>?_⟩;unfold sHk;rw[ax];exact .norm dO
     . exact absurd (aJ (I _ (aq.2 rfl))) dm
 . have Zt:zs.length≠0:=fun e=>hz (cJ.1 e);simp only[aI Zt,aU];refine fO XT (an3 T A b X R O Q F zs zs.length (dc (zs.map (zF Q)))) fun g uK I=>?_;rw[aq]at uK;subst uK;refine⟨eX (aN V.bool (bC K)),fun s' dO=>⟨by simp,?_⟩⟩;exact c6 dO h
theorem Na(ws:List (L))(bs:L)(ER:ws.length<1000000)(hh:∀x∈ws,(∃d,dr (.str x) F=some (.str d))/\(DI F x).ok)(HF:0<bs.length)(l8:bs.length+(dc (ws.map (DI F))).length<1000000000){s:St}{es:Exit->St->Prop}
  (hs:gF ak 7 Tryz.f19.ntmps s (sHr T A b X R O Q F ws 0 bs)) (h:TG ak 7 Tryz.f19.ntmps (dY Hl) (sHe T A b X R O Q F (bs++dc (ws.map (DI F)))) es):TG ak 7 Tryz.f19.ntmps (dY (dP Hl)) s (andThen (fun s'=>TG ak 7 Tryz.f19.ntmps (dY Hl) s' es) es):=by
 have hb:∀i,(hi:i<ws.length)->dc ((ws.take (i+1)).map (DI F))=dc ((ws.take i).map (DI F))++(DI F ws[i]).bytes:=fun i hi=>by
  rw[bG,ay hi,cE,aY,List.map_singleton,vN]
 have ku:∀i,(dc ((ws.take i).map (DI F))).length<=(dc (ws.map (DI F))).length:=fun i=>by
  have:=AK (l:=ws.map (DI F)) i;rw[cN];omega
 refine jx 2 ws.length (fun i=>sHr T A b X R O Q F ws i (bs++dc ((ws.take i).map (DI F)))) U U (by
  show gF ak 7 Tryz.f19.ntmps s (sHr T A b X R O Q F ws 0 (bs++[]));rw[cA];exact hs) (fun i hi=>?_) ?_
 . obtain⟨⟨d,hd⟩,iy⟩:=hh ws[i] (b7 hi);have hg:=FE hi;have yO:=hb i hi;have Og:=ku (i+1);have hrc:DI F ws[i]= .root ws[i] d:=by unfold DI rcV;rw[hd]
   rw[hrc]at iy yO;have QB:ws[i].length<=1000/\d.length<=1000:=iy;rw[yO,ax]at Og;show TG _ _ _ _ _ (andThen (fun s'=>gF ak 7 Tryz.f19.ntmps s' (sHr T A b X R O Q F ws (i+1) (bs++dc ((ws.take (i+1)).map (DI F))))) _);rw[yO,<- bB];have Lv:0<(bs++dc ((ws.take i).map (DI F))).length:=by rw[ax];omega
   have hbj:(bs++dc ((ws.take i).map (DI F))).length+(jB.root ws[i] d).bytes.length<1000000000:=by rw[ax];omega
   generalize bs++dc ((ws.take i).map (DI F))=ys at Lv hbj ⊢;refine fO XT (an6 T A b X R O Q F ws i ws[i] d ys) fun g uK I=>?_;simp only[gk]at uK;rcases iU uK with rfl|rfl
   . refine⟨fm (⟨az _,dm⟩) (fm (hg.1) (fm (hg.2) (fm (by rw[hd];rfl) (fm K (fm K (fm (Lv) (fm (trivial) (fm (jk (by have:(jB.root ws[i] d).bytes.length=(kZ ws[i] d).length:=rfl;omega)) (eX (fL dm K)))))))))),fun s' dO=>?_⟩;unfold sHr;rw[ax];exact .norm dO
   . exact absurd (aJ (I _ (aq.2 rfl))) dm
 . simp only[aU];refine fO XT (agq T A b X R O Q F ws ws.length (bs++dc (ws.map (DI F)))) fun g uK I=>?_;rw[aq]at uK;subst uK;refine⟨eX (aN V.bool (bC K)),fun s' dO=>⟨by simp,?_⟩⟩;exact c6 dO h
theorem We(k:Nat)(zs:List (L))(J5:Eg F)(he:∀d∈iV F,Ends Q k d)(hl:(qj Q F k).length<1000000)(w7:YV Q)(hn:∀x,0<=jR Q x/\jR Q x<1000000000)(hz:List.Perm zs (qj Q F k))(hs:zs.Pairwise fun a b=>jR Q a<jR Q b)
  (hzo:∀x∈zs,uC Q x/\(zF Q x).ok) (xq:∀n∈iz (dM F),(∃d,dr (.str n) F=some (.str d))/\(DI F n).ok) (wT:F.length<1000000) (l8:(dc (oa Q F zs)).length<1000000000) (h0:zs≠[]) (N:F≠[]):
  cW ak 19 [P3] (eu (pS T A b X R O Q F)) 7 (.int .i64 0) (J (l3r b O Q F (dc (oa Q F zs)) 8 [] (jc (oa Q F zs)).R (jc (oa Q F zs)).Q (jc (oa Q F zs)).F)) 10:=by
 refine c5 Tryz.func19 (code:=OL) U U ?_;have ER:zs.length<1000000:=by rw[hz.length_eq];exact hl
 have SB:=c51 T A b X R O Q F k J5 he;have O2:=c54 T A b X R O Q F (qj Q F k) zs hl w7 hn hz hs;have Yg:Hj 22 zs= .dj (some (22,0)) zs.length zs.length 1/\rq 22 zs=[(22,.deep (strs zs))]/\nK 22 zs=23:=by
  cases zs with
  |nil=>exact absurd rfl h0
  |cons z zs=>exact⟨rfl,rfl,rfl⟩
 rw[Yg.1,Yg.2.1,Yg.2.2]at O2;generalize qj Q F k=ks at SB O2;refine iF  4 (((XQ []).jA (au U) SB).jA (au U) O2) (anX T A b X R O Q F ks zs.length (strs zs)) (fm ⟨rfl,rfl,rfl⟩ (eX ⟨rfl,rfl,rfl⟩)) ?_;have e2:dc (oa Q F zs)=dc (zs.map (zF Q))++dc ((iz (dM F)).map (DI F)):=LK _ _;have Ic:=l8;rw[e2,ax]at Ic;refine Wd T A b X R O Q F zs h0 ER hzo K ?_;show TG ak 7 Tryz.f19.ntmps Hl _ _;refine cZ U ?_;refine cZ U ?_;have HF:0<(dc (zs.map (zF Q))).length:=by
  cases zs with
  |nil=>exact absurd rfl h0
  |cons z zs=>
   rw[bY,show dc (zF Q z::zs.map (zF Q))=(zF Q z).bytes++dc (zs.map (zF Q))from rfl,ax];have:=oI (r:=zF Q z);omega
 have Ku:yd F:=fun e h=>by obtain⟨n,d,rfl⟩:=J5 e h;exact⟨n,rfl⟩
 have agz:=c23 T A b X R O Q F (dc (zs.map (zF Q))) Ku wT;have uz:(iz (dM F)).length=F.length:=by rw[sP,yg]
 have qW:TG ak 7 Tryz.f19.ntmps (dY Hl) (sHe T A b X R O Q F (dc (zs.map (zF Q))++dc ((iz (dM F)).map (DI F)))) (fJ ak 7 Tryz.f19 fun v h n=>v= .int .i64 0/\h=J (l3r b O Q F (dc (oa Q F zs)) 8 [] (jc (oa Q F zs)).R (jc (oa Q F zs)).Q (jc (oa Q F zs)).F)/\n=10):=by
  rw[<- e2];refine iF  3 XT (agr T A b X R O Q F (dc (oa Q F zs))) cT ?_;refine fh (XT.jA (au U) (c57 b R O Q F (oa Q F zs) (fun r hr=>?_) l8)) (agu b R O Q F (dc (oa Q F zs)) (jc (oa Q F zs)).R (jc (oa Q F zs)).Q (jc (oa Q F zs)).F) fun g hg _=>?_
  . rcases aW.1 hr with h|h
    . obtain⟨x,G,rfl⟩:=bA.1 h;exact(hzo x G).2
    . obtain⟨x,G,rfl⟩:=bA.1 h;exact(xq x G).2
  . rw[aq]at hg;subst hg;exact⟨eX ⟨rfl,rfl,rfl⟩,_,_,_,rfl,rfl,rfl,rfl⟩
 generalize iz (dM F)=ws at *
 match ws,uz with
 | [],uz=>exact absurd (cJ.1 uz.symm) N
 | [x],uz=>
   refine fO (XT.jA (au U) agz) (agp T A b X R O Q F x (dc (zs.map (zF Q)))) (dG ?_);refine⟨fm ⟨rfl,rfl,rfl⟩ (eX rfl),fun s' dO=>?_⟩;exact Na T A b X R O Q F [x] _ (by rw[uz];exact wT) xq HF K ((gF.norm dO).trans (.deep [9] U)) qW
 |x::y::ws,uz=>
  refine fO (XT.jA (au U) agz) (an5 T A b X R O Q F (x::y::ws) (dc (zs.map (zF Q)))) (dG ?_);refine⟨fm ⟨rfl,rfl,rfl⟩ (eX rfl),fun s' dO=>?_⟩;exact Na T A b X R O Q F (x::y::ws) _ (by rw[uz];exact wT) xq HF K (.norm dO) qW
theorem Wf(w7:YV Q)(hn:∀x,0<=jR Q x/\jR Q x<1000000000):cW ak 19 [P3] (eu (pS T A b X R O Q [])) 7 (.int .i64 0) (J (l3f b O Q 7 [])) 9:=by
 refine c5 Tryz.func19 (code:=OL) U U ?_;have SB:=c51 T A b X R O Q [] 0 (fun _ h=>by cases h) (fun _ h=>by cases h);have O2:=c54 T A b X R O Q [] (qj Q [] 0) [] (au rfl) w7 hn .nil .nil;rw[show qj Q [] 0=[]from rfl]at SB O2;refine iF  4 (((XQ []).jA (au U) SB).jA (au U) O2) (anY T A b X R O Q [] []) (fm ⟨rfl,rfl,rfl⟩ (eX ⟨rfl,rfl,rfl⟩)) ?_;show TG ak 7 Tryz.f19.ntmps Uo _ _;refine cZ U ?_;refine fO (XQ []) (an4 T A b X R O Q []) (dG ?_);refine⟨cT,fun s' dO=>c6 dO ?_⟩;show TG ak 7 Tryz.f19.ntmps Hl _ _;refine cZ U ?_;refine fO (XT.jA (au U) (an8 T A b X R O Q)) (ags T A b X R O Q) (dG ?_);refine⟨eX ⟨rfl,rfl,rfl⟩,fun s' dO=>c6 dO ?_⟩;refine iF  3 XT (agt T A b X R O Q) cT ?_;refine fh (XT.jA (au U) (an9 b R O Q)) (agv b R O Q) (dG ?_);exact⟨eX ⟨rfl,rfl,rfl⟩,_,_,_,rfl,rfl,rfl,rfl⟩
end
section
variable(X R O:Int)
def Wg:af:=eK (pN X R O [] [])++[(7,.cells [.map (some 6)])]
def lVN:af:=Wg X R O++[(8,.cells [.map (some 9)]),(9,.dI none []),(10,.cells [.fn (.func 77) [] [P8,P11,OW]]),(11,.cells [P3])]
def Wh:St:=eG [(5,P8),(6,OW),(10,f78)] (J (lVN X R O)) 12
noncomputable def aoa:af:=lVN X R O++[(12,.mF),(13,.loop true none (Wh X R O).S [11] aa2 aa3)]
noncomputable def Jm:H lf:=J (aoa X R O)
noncomputable def Wi:St:=eG [(0,.fn (.yield 13) [] []),(6,.ptr (some (14,0)))] ((Jm X R O).set 6 none) 15
def agA:H lf:=J (Wg X R O++[(8,.dI none [])])
end
section
variable(X R O:Int)
theorem aob:c9 me [] 8 Tryz.f51 [1,5,6] (eV 4 RP) (cU [P3,f78] (J (Wg X R O)) 8) [([],
   [],
   .to .normal (eG [(1,.fn (.func 78) [] [.ptr (some (7,0))]),(5,.ptr (some (8,0))),(6,.ptr (some (10,0)))] (J [(0,.ints .u32 gS),(1,.ints .u32 gR),(3,.cells [.dj none 0 0 0,.int .i64 ((pN X R O [] []).X),.map (some 5),.map (some 6),.int .i64 ((pN X R O [] []).R),.bool false,.bool false,.int .i64 ((pN X R O [] []).O)]),(5,.dI none []),(6,.dI none []),(7,.cells [.map (some 6)]),(8,.cells [.map (some 9)]),(9,.map [] 0),(10,.cells [.fn (.func 77) [] [.ptr (some (8,0)),.ptr (some (11,0)),.ptr (some (10,0))]]),(11,.cells [.ptr (some (3,0))])]) 12))]
 :=cR.of U U U
theorem aoc:c9 me [] 8 Tryz.f51 [5,6,10] (dP (dP GY)) (eG [(1,f78),(5,P8),(6,OW)] (J (lVN X R O)) 12) [([],
   [],
   .to .normal (Wh X R O))]
 :=cR.of U U U
theorem aod:vJ ak me [] 1000 8 Tryz.f51 (dY GY) (tT (Wh X R O) (Jm X R O) 14)
  [([],
   [],
   .ret (.map (some 8)) (agA X R O) 9)]
 :=⟨U,U,U⟩
end
section
variable(T A:Nat)(b:L)(X R O:Int)(Q F:ae)
theorem aoe:51<Tryz.prog.funcs.size:=au U
theorem Wj(k:Nat)(d:L)(J5:Eg F)(he:∀x∈iV F,Ends Q k x):cW ak 17 [P3,.str d] (eu (pS T A b X R O Q F)) 7 (.bool (decide (d∈qj Q F k))) (eu (pS T A b X R O Q F)) 7:=by
 refine c5 Tryz.func17 (code:=agb) U U ?_;have I:=M8 T A b X R O Q F k J5 he;refine fh (uJ.jA aoe I) (ano T A b X R O Q F (nZ (qj Q F k)) d (decide (d∈qj Q F k))) (dG ?_);refine⟨fm ⟨rfl,rfl,rfl⟩ (eX ?_),_,_,_,rfl,rfl,rfl,rfl⟩;by_cases h:d∈qj Q F k
 . rw[bQ h];exact FB h
 . rw[bC h];exact DE h
end
section
variable(X R O:Int)
theorem Wk:cW ak 78 [.fn (.yield 13) [] [],.ptr (some (7,0))] (Jm X R O) 14 (.ew []) (Jm X R O) 14:=by
 refine gh.is (gO mo po Tryz.func78 (code:=GZ) U U ?_);rw[afi];refine zu (v0:=.map (some 6)) (kA:=(cU [.fn (.yield 13) [] [],.ptr (some (7,0))] (Jm X R O) 14).S.set 5 (some (.map (some 6)))) (Aa:=((cU [.fn (.yield 13) [] [],.ptr (some (7,0))] (Jm X R O) 14).S.set 5 (some (.map (some 6)))).set 6 (some (.ptr (some (14,0))))) (m:=6) (kd:=none) (Q:=[]) mo MQ
  U U U U (au rfl) U (fun _ s1=>fa 15 [0,6] s1=some (Wi X R O)) U ?_
 rintro iO left s1 hs hp;have hz:iO=[]/\left=[]:=List.append_eq_nil_iff.1 hp.eq_nil;obtain⟨rfl,rfl⟩:=hz;refine⟨[0,6],_,hs,U,fun _=>?_,fun e kD he2=>?_⟩
 . exact⟨(Wi X R O).S.set 7 (some (.ew [.bool false])),{ Wi X R O with S:=((Wi X R O).S.set 7 (some (.ew [.bool false]))).set 8 (some (.bool false)) },U,U,U,.inl rfl,.ew [],Jm X R O,14,U,rfl,rfl,rfl⟩
 . have:=he2.length_eq;simp at this
theorem Wl:cW ak 51 [P3,f78] (J (Wg X R O)) 8 (.map (some 8)) (agA X R O) 9:=by
 refine c5 Tryz.func51 (code:=RP) U U ?_;refine iF  4 uJ (aob X R O) cT ?_;refine Az [(9,none)] (s2:=eG [(1,f78),(5,P8),(6,OW)] (J (lVN X R O)) 12) U ?_;show TG ak 8 Tryz.f51.ntmps GY _ _;refine cZ U ?_;refine cZ U ?_;refine fO uJ (aoc X R O) (dG ?_);refine⟨cT,fun s' dO=>c6 dO ?_⟩;refine fB (i:=0) U ?_;refine oH (gf:=78) (lb:=[.ptr (some (7,0))]) U U U U U (Wk X R O).one ?_;rintro v h n ⟨rfl,rfl,rfl⟩;refine⟨U,?_⟩;show TG ak 8 Tryz.f51.ntmps (dY GY) (tT (Wh X R O) (Jm X R O) 14) _;refine r7 uJ mo _ U (aod X R O) (dG ?_);exact⟨cT,_,_,_,rfl,rfl,rfl,rfl⟩
end
noncomputable abbrev O3:Code:=dN Tryz.f145
noncomputable abbrev abD:Code:=dh 2 O3
noncomputable abbrev agB:Code:=dz (dz (dY (dP abD)))
def aR:V:=.agg (gR.map (V.int .u32 ·))
theorem aof(x:Int):c9 Un [] 3 Tryz.f144 [] (dN Tryz.f144) (cU [.int .u64 x,.int .i64 8] .nil 3) [([],
   [((0:Int)<=(8:Int)/\(8:Int)<=(8:Int)/\(8:Int)<=(281474976710656:Int)),((0:Int)<=(7:Int)/\(7:Int)<(8:Int)),(8<=8),((0:Int)<=(6:Int)/\(6:Int)<(8:Int)),(7<=(fZ (uy [(0:Int)] 8) 7 [IntKind.u8.wrap x]).length),((0:Int)<=(5:Int)/\(5:Int)<(8:Int)),(6<=(fZ (fZ (uy [(0:Int)] 8) 7 [IntKind.u8.wrap x]) 6 [IntKind.u8.wrap (x.fdiv (256:Int))]).length),((0:Int)<=(4:Int)/\(4:Int)<(8:Int)),(5<=(fZ (fZ (fZ (uy [(0:Int)] 8) 7 [IntKind.u8.wrap x]) 6 [IntKind.u8.wrap (x.fdiv (256:Int))]) 5 [IntKind.u8.wrap ((x.fdiv (256:Int)).fdiv (256:Int))]).length),((0:Int)<=(3:Int)/\(3:Int)<(8:Int)),(4<=(fZ (fZ (fZ (fZ (uy [(0:Int)] 8) 7 [IntKind.u8.wrap x]) 6 [IntKind.u8.wrap (x.fdiv (256:Int))]) 5 [IntKind.u8.wrap ((x.fdiv (256:Int)).fdiv (256:Int))]) 4 [IntKind.u8.wrap (((x.fdiv (256:Int)).fdiv (256:Int)).fdiv (256:Int))]).length),((0:Int)<=(2:Int)/\(2:Int)<(8:Int)),(3<=(fZ (fZ (fZ (fZ (fZ (uy [(0:Int)] 8) 7 [IntKind.u8.wrap x]) 6 [IntKind.u8.wrap (x.fdiv (256:Int))]) 5 [IntKind.u8.wrap ((x.fdiv (256:Int)).fdiv (256:Int))]) 4 [IntKind.u8.wrap (((x.fdiv (256:Int)).fdiv (256:Int)).fdiv (256:Int))]) 3 [IntKind.u8.wrap ((((x.fdiv (256:Int)).fdiv (256:Int)).fdiv (256:Int)).fdiv (256:Int))]).length),((0:Int)<=(1:Int)/\(1:Int)<(8:Int)),(2<=(fZ (fZ (fZ (fZ (fZ (fZ (uy [(0:Int)] 8) 7 [IntKind.u8.wrap x]) 6 [IntKind.u8.wrap (x.fdiv (256:Int))]) 5 [IntKind.u8.wrap ((x.fdiv (256:Int)).fdiv (256:Int))]) 4 [IntKind.u8.wrap (((x.fdiv (256:Int)).fdiv (256:Int)).fdiv (256:Int))]) 3 [IntKind.u8.wrap ((((x.fdiv (256:Int)).fdiv (256:Int)).fdiv (256:Int)).fdiv (256:Int))]) 2 [IntKind.u8.wrap (((((x.fdiv (256:Int)).fdiv (256:Int)).fdiv (256:Int)).fdiv (256:Int)).fdiv (256:Int))]).length),((0:Int)<=(0:Int)/\(0:Int)<(8:Int)),(1<=(fZ (fZ (fZ (fZ (fZ (fZ (fZ (uy [(0:Int)] 8) 7 [IntKind.u8.wrap x]) 6 [IntKind.u8.wrap (x.fdiv (256:Int))]) 5 [IntKind.u8.wrap ((x.fdiv (256:Int)).fdiv (256:Int))]) 4 [IntKind.u8.wrap (((x.fdiv (256:Int)).fdiv (256:Int)).fdiv (256:Int))]) 3 [IntKind.u8.wrap ((((x.fdiv (256:Int)).fdiv (256:Int)).fdiv (256:Int)).fdiv (256:Int))]) 2 [IntKind.u8.wrap (((((x.fdiv (256:Int)).fdiv (256:Int)).fdiv (256:Int)).fdiv (256:Int)).fdiv (256:Int))]) 1 [IntKind.u8.wrap ((((((x.fdiv (256:Int)).fdiv (256:Int)).fdiv (256:Int)).fdiv (256:Int)).fdiv (256:Int)).fdiv (256:Int))]).length),(8<=(fZ (fZ (fZ (fZ (fZ (fZ (fZ (fZ (uy [(0:Int)] 8) 7 [IntKind.u8.wrap x]) 6 [IntKind.u8.wrap (x.fdiv (256:Int))]) 5 [IntKind.u8.wrap ((x.fdiv (256:Int)).fdiv (256:Int))]) 4 [IntKind.u8.wrap (((x.fdiv (256:Int)).fdiv (256:Int)).fdiv (256:Int))]) 3 [IntKind.u8.wrap ((((x.fdiv (256:Int)).fdiv (256:Int)).fdiv (256:Int)).fdiv (256:Int))]) 2 [IntKind.u8.wrap (((((x.fdiv (256:Int)).fdiv (256:Int)).fdiv (256:Int)).fdiv (256:Int)).fdiv (256:Int))]) 1 [IntKind.u8.wrap ((((((x.fdiv (256:Int)).fdiv (256:Int)).fdiv (256:Int)).fdiv (256:Int)).fdiv (256:Int)).fdiv (256:Int))]) 0 [IntKind.u8.wrap (((((((x.fdiv (256:Int)).fdiv (256:Int)).fdiv (256:Int)).fdiv (256:Int)).fdiv (256:Int)).fdiv (256:Int)).fdiv (256:Int))]).length)],
   .ret (.str (eT (List.take 8 (List.drop 0 (fZ (fZ (fZ (fZ (fZ (fZ (fZ (fZ (uy [(0:Int)] 8) 7 [IntKind.u8.wrap x]) 6 [IntKind.u8.wrap (x.fdiv (256:Int))]) 5 [IntKind.u8.wrap ((x.fdiv (256:Int)).fdiv (256:Int))]) 4 [IntKind.u8.wrap (((x.fdiv (256:Int)).fdiv (256:Int)).fdiv (256:Int))]) 3 [IntKind.u8.wrap ((((x.fdiv (256:Int)).fdiv (256:Int)).fdiv (256:Int)).fdiv (256:Int))]) 2 [IntKind.u8.wrap (((((x.fdiv (256:Int)).fdiv (256:Int)).fdiv (256:Int)).fdiv (256:Int)).fdiv (256:Int))]) 1 [IntKind.u8.wrap ((((((x.fdiv (256:Int)).fdiv (256:Int)).fdiv (256:Int)).fdiv (256:Int)).fdiv (256:Int)).fdiv (256:Int))]) 0 [IntKind.u8.wrap (((((((x.fdiv (256:Int)).fdiv (256:Int)).fdiv (256:Int)).fdiv (256:Int)).fdiv (256:Int)).fdiv (256:Int)).fdiv (256:Int))]))))) (J []) 3)]
 :=cR.of U U U
theorem aog(x:Int):c9 Un [] 3 Tryz.f144 [] (dN Tryz.f144) (cU [.int .u64 x,.int .i64 4] .nil 3) [([],
   [((0:Int)<=(4:Int)/\(4:Int)<=(4:Int)/\(4:Int)<=(281474976710656:Int)),((0:Int)<=(3:Int)/\(3:Int)<(4:Int)),(4<=4),((0:Int)<=(2:Int)/\(2:Int)<(4:Int)),(3<=(fZ (uy [(0:Int)] 4) 3 [IntKind.u8.wrap x]).length),((0:Int)<=(1:Int)/\(1:Int)<(4:Int)),(2<=(fZ (fZ (uy [(0:Int)] 4) 3 [IntKind.u8.wrap x]) 2 [IntKind.u8.wrap (x.fdiv (256:Int))]).length),((0:Int)<=(0:Int)/\(0:Int)<(4:Int)),(1<=(fZ (fZ (fZ (uy [(0:Int)] 4) 3 [IntKind.u8.wrap x]) 2 [IntKind.u8.wrap (x.fdiv (256:Int))]) 1 [IntKind.u8.wrap ((x.fdiv (256:Int)).fdiv (256:Int))]).length),(4<=(fZ (fZ (fZ (fZ (uy [(0:Int)] 4) 3 [IntKind.u8.wrap x]) 2 [IntKind.u8.wrap (x.fdiv (256:Int))]) 1 [IntKind.u8.wrap ((x.fdiv (256:Int)).fdiv (256:Int))]) 0 [IntKind.u8.wrap (((x.fdiv (256:Int)).fdiv (256:Int)).fdiv (256:Int))]).length)],
   .ret (.str (eT (List.take 4 (List.drop 0 (fZ (fZ (fZ (fZ (uy [(0:Int)] 4) 3 [IntKind.u8.wrap x]) 2 [IntKind.u8.wrap (x.fdiv (256:Int))]) 1 [IntKind.u8.wrap ((x.fdiv (256:Int)).fdiv (256:Int))]) 0 [IntKind.u8.wrap (((x.fdiv (256:Int)).fdiv (256:Int)).fdiv (256:Int))]))))) (J []) 3)]
 :=cR.of U U U
theorem aoh(b:L)(q:E8):c9 Un [] 3 Tryz.f145 [1,3,5,6,7] (eV 2 O3) (cU [.agg (c8 q),.str b,aR] .nil 3) [([],
   [],
   .to .normal (eG [(1,.str b),(3,.ptr (some (3,0))),(5,.ptr (some (4,0))),(6,.ptr (some (5,0))),(7,.ptr (some (6,0)))] (J [(3,.cells [.int .u32 (q.1),.int .u32 (q.2.1),.int .u32 (q.2.2.1),.int .u32 (q.2.2.2.1),.int .u32 (q.2.2.2.2.1),.int .u32 (q.2.2.2.2.2.1),.int .u32 (q.2.2.2.2.2.2.1),.int .u32 (q.2.2.2.2.2.2.2)]),(4,.cells [.int .u32 1116352408,.int .u32 1899447441,.int .u32 3049323471,.int .u32 3921009573,.int .u32 961987163,.int .u32 1508970993,.int .u32 2453635748,.int .u32 2870763221,.int .u32 3624381080,.int .u32 310598401,.int .u32 607225278,.int .u32 1426881987,.int .u32 1925078388,.int .u32 2162078206,.int .u32 2614888103,.int .u32 3248222580,.int .u32 3835390401,.int .u32 4022224774,.int .u32 264347078,.int .u32 604807628,.int .u32 770255983,.int .u32 1249150122,.int .u32 1555081692,.int .u32 1996064986,.int .u32 2554220882,.int .u32 2821834349,.int .u32 2952996808,.int .u32 3210313671,.int .u32 3336571891,.int .u32 3584528711,.int .u32 113926993,.int .u32 338241895,.int .u32 666307205,.int .u32 773529912,.int .u32 1294757372,.int .u32 1396182291,.int .u32 1695183700,.int .u32 1986661051,.int .u32 2177026350,.int .u32 2456956037,.int .u32 2730485921,.int .u32 2820302411,.int .u32 3259730800,.int .u32 3345764771,.int .u32 3516065817,.int .u32 3600352804,.int .u32 4094571909,.int .u32 275423344,.int .u32 430227734,.int .u32 506948616,.int .u32 659060556,.int .u32 883997877,.int .u32 958139571,.int .u32 1322822218,.int .u32 1537002063,.int .u32 1747873779,.int .u32 1955562222,.int .u32 2024104815,.int .u32 2227730452,.int .u32 2361852424,.int .u32 2428436474,.int .u32 2756734187,.int .u32 3204031479,.int .u32 3329325298]),(5,.cells [.int .u32 0,.int .u32 0,.int .u32 0,.int .u32 0,.int .u32 0,.int .u32 0,.int .u32 0,.int .u32 0]),(6,.cells [.int .u32 0,.int .u32 0,.int .u32 0,.int .u32 0,.int .u32 0,.int .u32 0,.int .u32 0,.int .u32 0,.int .u32 0,.int .u32 0,.int .u32 0,.int .u32 0,.int .u32 0,.int .u32 0,.int .u32 0,.int .u32 0,.int .u32 0,.int .u32 0,.int .u32 0,.int .u32 0,.int .u32 0,.int .u32 0,.int .u32 0,.int .u32 0,.int .u32 0,.int .u32 0,.int .u32 0,.int .u32 0,.int .u32 0,.int .u32 0,.int .u32 0,.int .u32 0,.int .u32 0,.int .u32 0,.int .u32 0,.int .u32 0,.int .u32 0,.int .u32 0,.int .u32 0,.int .u32 0,.int .u32 0,.int .u32 0,.int .u32 0,.int .u32 0,.int .u32 0,.int .u32 0,.int .u32 0,.int .u32 0,.int .u32 0,.int .u32 0,.int .u32 0,.int .u32 0,.int .u32 0,.int .u32 0,.int .u32 0,.int .u32 0,.int .u32 0,.int .u32 0,.int .u32 0,.int .u32 0,.int .u32 0,.int .u32 0,.int .u32 0,.int .u32 0])]) 7))]
 :=cR.of U U U
section
variable(b:L)(q:E8)(ws:List Int)(i:Nat)
def mVc:af:=[(3,.cells (c8 q)),(4,.own .u32 gR),(5,.cells (c8 (0,0,0,0,0,0,0,0))),(6,.own .u32 ws)]
def SC:St:=eG [(1,.str b),(3,.ptr (some (3,0))),(5,.ptr (some (4,0))),(6,.ptr (some (5,0))),(7,.ptr (some (6,0))),(8,iW i)] (J (mVc q ws)) 7
end
section
variable(b:L)(e a x:Int)(q:E8)(i:Nat)(ws:List Int)
theorem aoj:c9 Un [] 3 Tryz.f145 [1,3,5,6,7,8] (dP (dP abD)) (eG [(1,.str b),(3,.ptr (some (3,0))),(5,.ptr (some (4,0))),(6,.ptr (some (5,0))),(7,.ptr (some (6,0)))] (J (mVc q ws)) 7) [([],
   [],
   .to .normal (SC b q ws 0))]
 :=cR.of U U U
def DJ(m d x:Int):Int:=J4 (x.fdiv d) (w32 (x*m))
def abE:Int:=nH (nH (DJ 33554432 128 x) (DJ 16384 262144 x)) (x.fdiv 8)
def abF:Int:=nH (nH (DJ 32768 131072 x) (DJ 8192 524288 x)) (x.fdiv 1024)
def Nb(i:Nat):Int:=w32 (w32 (w32 (gW ws (i-16)+abE (gW ws (i-15)))+gW ws (i-7))+abF (gW ws (i-2)))
def Nc:Int:=w32 (w32 (w32 (w32 (U9 b (i*4)*16777216)+w32 (U9 b (i*4+1)*65536))+w32 (U9 b (i*4+2)*256))+U9 b (i*4+3))
def abG:Int:=nH (nH (DJ 67108864 64 e) (DJ 2097152 2048 e)) (DJ 128 33554432 e)
def abH:Int:=nH (nH (DJ 1073741824 4 a) (DJ 524288 8192 a)) (DJ 1024 4194304 a)
def chR(f g:Int):Int:=J4 (AG e f) (AG (w32 (4294967295-e)) g)
def maR(b c:Int):Int:=J4 (J4 (AG a b) (AG a c)) (AG b c)
def rdR(rd ws:List Int)(i:Nat):E8->Int
 |(_,_,_,_,e,f,g,h)=>w32 (w32 (w32 (w32 (h+abG e)+chR e f g)+gW rd i)+gW ws i)
def abI(rd ws:List Int)(i:Nat):E8->E8
 |(a,b,c,d,e,f,g,h)=>(w32 (w32 (rdR rd ws i (a,b,c,d,e,f,g,h)+abH a)+maR a b c),a,b,c,w32 (d+rdR rd ws i (a,b,c,d,e,f,g,h)),e,f,g)
abbrev Hp:Prop:=V.int aj (IntKind.i64.wrap ((4:Int)*Int.ofNat i))=iW (i*4)
theorem agC(i:Nat):c9 Un [(20,.split),(24,.di (.bool true)),(28,.di (iW (i*4))),(34,.di (iW (i*4))),(35,.di (iW (i*4+1))),(42,.di (iW (i*4))),(43,.di (iW (i*4+2))),(50,.di (iW (i*4))),(51,.di (iW (i*4+3))),(22,.di (iW (i+1)))] 3 Tryz.f145 [1,3,5,6,7,8] (agB) (SC b q ws i) [([((decide (Int.ofNat i<(64:Int))),true)],
   [(V.bool (decide (Int.ofNat i<(16:Int)))=V.bool true),Hp i,((0:Int)<=Int.ofNat (i*4)/\(i*4)<b.length),Hp i,(V.int aj (IntKind.i64.wrap (Int.ofNat (i*4)+(1:Int)))=iW (i*4+1)),((0:Int)<=Int.ofNat (i*4+1)/\(i*4+1)<b.length),Hp i,(V.int aj (IntKind.i64.wrap (Int.ofNat (i*4)+(2:Int)))=iW (i*4+2)),((0:Int)<=Int.ofNat (i*4+2)/\(i*4+2)<b.length),Hp i,(V.int aj (IntKind.i64.wrap (Int.ofNat (i*4)+(3:Int)))=iW (i*4+3)),((0:Int)<=Int.ofNat (i*4+3)/\(i*4+3)<b.length),((0:Int)<=Int.ofNat i/\Int.ofNat i<(64:Int)),(0+i*1+1<=ws.length),(V.int aj (IntKind.i64.wrap (Int.ofNat i+(1:Int)))=iW (i+1))],
   .to .normal (SC b q (fZ ws (0+i*1) [Nc b i]) (i+1))),
  ([((decide (Int.ofNat i<(64:Int))),false)],
   [],
   .to (.exit 0) (SC b q ws i))]
 :=cR.of U U U
abbrev LL:Prop:=V.int aj (IntKind.i64.wrap (Int.ofNat i-(15:Int)))=iW (i-15)
abbrev LM:Prop:=V.int aj (IntKind.i64.wrap (Int.ofNat i-(2:Int)))=iW (i-2)
theorem aom(i:Nat):c9 Un [(20,.split),(24,.di (.bool false)),(57,.di (iW (i-15))),(62,.di (iW (i-15))),(68,.di (iW (i-15))),(74,.di (iW (i-2))),(79,.di (iW (i-2))),(85,.di (iW (i-2))),(92,.di (iW (i-16))),(98,.di (iW (i-7))),(22,.di (iW (i+1)))] 3 Tryz.f145 [1,3,5,6,7,8] (agB) (SC b q ws i) [([((decide (Int.ofNat i<(64:Int))),true)],
   [(V.bool (decide (Int.ofNat i<(16:Int)))=V.bool false),LL i,((0:Int)<=Int.ofNat (i-15)/\Int.ofNat (i-15)<(64:Int)),(0+(i-15)*1<ws.length),LL i,((0:Int)<=Int.ofNat (i-15)/\Int.ofNat (i-15)<(64:Int)),(0+(i-15)*1<ws.length),(0+(i-15)*1<ws.length),LL i,((0:Int)<=Int.ofNat (i-15)/\Int.ofNat (i-15)<(64:Int)),(0+(i-15)*1<ws.length),(0+(i-15)*1<ws.length),(0+(i-15)*1<ws.length),LM i,((0:Int)<=Int.ofNat (i-2)/\Int.ofNat (i-2)<(64:Int)),(0+(i-2)*1<ws.length),LM i,((0:Int)<=Int.ofNat (i-2)/\Int.ofNat (i-2)<(64:Int)),(0+(i-2)*1<ws.length),(0+(i-2)*1<ws.length),LM i,((0:Int)<=Int.ofNat (i-2)/\Int.ofNat (i-2)<(64:Int)),(0+(i-2)*1<ws.length),(0+(i-2)*1<ws.length),(0+(i-2)*1<ws.length),(V.int aj (IntKind.i64.wrap (Int.ofNat i-(16:Int)))=iW (i-16)),((0:Int)<=Int.ofNat (i-16)/\Int.ofNat (i-16)<(64:Int)),(0+(i-16)*1<ws.length),(V.int aj (IntKind.i64.wrap (Int.ofNat i-(7:Int)))=iW (i-7)),((0:Int)<=Int.ofNat (i-7)/\Int.ofNat (i-7)<(64:Int)),(0+(i-7)*1<ws.length),((0:Int)<=Int.ofNat i/\Int.ofNat i<(64:Int)),(0+i*1+1<=ws.length),(V.int aj (IntKind.i64.wrap (Int.ofNat i+(1:Int)))=iW (i+1))],
   .to .normal (SC b q (fZ ws (0+i*1) [Nb ws i]) (i+1))),
  ([((decide (Int.ofNat i<(64:Int))),false)],
   [],
   .to (.exit 0) (SC b q ws i))]
 :=cR.of U U U
noncomputable abbrev Nd:Code:=dh 4 O3
end
noncomputable abbrev aon:Code:=dz (dz (dY (dP Nd)))
section
variable(q q':E8)(ws:List Int)(i:Nat)
def mVd:af:=[(3,.cells (c8 q)),(4,.own .u32 gR),(5,.cells (c8 (0,0,0,0,0,0,0,0))),(6,.own .u32 ws),(7,.cells (c8 q'))]
def Up(r:List (Nat×V)):St:=eG ([(3,.ptr (some (3,0))),(5,.ptr (some (4,0))),(6,.ptr (some (5,0))),(7,.ptr (some (6,0))),(11,.ptr (some (7,0)))]++r) (J (mVd q q' ws)) 8
end
theorem aoo(b:L)(q:E8)(ws:List Int)(i:Nat):c9 Un [] 3 Tryz.f145 [3,5,6,7,11] (dP (dh 3 O3)) (SC b q ws i) [([],
   [],
   .to .normal (Up q q ws []))]
 :=cR.of U U U
theorem aop(q q':E8)(ws:List Int):c9 Un [] 3 Tryz.f145 [3,5,6,7,11,12] (dP (dP Nd)) (Up q q' ws []) [([],
   [],
   .to .normal (Up q q' ws [(12,iW 0)]))]
 :=cR.of U U U
theorem agD(a b c d e f g h a' b' c' d' e' f' g' h':Int)(ws:List Int)(i:Nat):c9 Un [(107,.split),(109,.di (iW (i+1)))] 3 Tryz.f145 [3,5,6,7,11,12] (aon) (Up (a,b,c,d,e,f,g,h) (a',b',c',d',e',f',g',h') ws [(12,iW i)]) [([((decide (Int.ofNat i<(64:Int))),true)],
   [((0:Int)<=Int.ofNat i/\Int.ofNat i<(64:Int)),(0+i*1<64),((0:Int)<=Int.ofNat i/\Int.ofNat i<(64:Int)),(0+i*1<ws.length),(V.int aj (IntKind.i64.wrap (Int.ofNat i+(1:Int)))=iW (i+1))],
   .to .normal (Up (a,b,c,d,e,f,g,h) (abI gR ws i (a',b',c',d',e',f',g',h')) ws [(12,iW (i+1))])),
  ([((decide (Int.ofNat i<(64:Int))),false)],
   [],
   .to (.exit 2) (Up (a,b,c,d,e,f,g,h) (a',b',c',d',e',f',g',h') ws [(12,iW i)]))]
 :=cR.of U U U
theorem aoq(a b c d e f g h a' b' c' d' e' f' g' h':Int)(ws:List Int)(i:Nat):c9 Un [] 3 Tryz.f145 [] (dY Nd) (Up (a,b,c,d,e,f,g,h) (a',b',c',d',e',f',g',h') ws [(12,iW i)]) [([],
   [((0:Int)<=(0:Int)/\(0:Int)<(8:Int)),((0:Int)<=(0:Int)/\(0:Int)<(8:Int)),((0:Int)<=(0:Int)/\(0:Int)<(8:Int)),((0:Int)<=(1:Int)/\(1:Int)<(8:Int)),((0:Int)<=(1:Int)/\(1:Int)<(8:Int)),((0:Int)<=(1:Int)/\(1:Int)<(8:Int)),((0:Int)<=(2:Int)/\(2:Int)<(8:Int)),((0:Int)<=(2:Int)/\(2:Int)<(8:Int)),((0:Int)<=(2:Int)/\(2:Int)<(8:Int)),((0:Int)<=(3:Int)/\(3:Int)<(8:Int)),((0:Int)<=(3:Int)/\(3:Int)<(8:Int)),((0:Int)<=(3:Int)/\(3:Int)<(8:Int)),((0:Int)<=(4:Int)/\(4:Int)<(8:Int)),((0:Int)<=(4:Int)/\(4:Int)<(8:Int)),((0:Int)<=(4:Int)/\(4:Int)<(8:Int)),((0:Int)<=(5:Int)/\(5:Int)<(8:Int)),((0:Int)<=(5:Int)/\(5:Int)<(8:Int)),((0:Int)<=(5:Int)/\(5:Int)<(8:Int)),((0:Int)<=(6:Int)/\(6:Int)<(8:Int)),((0:Int)<=(6:Int)/\(6:Int)<(8:Int)),((0:Int)<=(6:Int)/\(6:Int)<(8:Int)),((0:Int)<=(7:Int)/\(7:Int)<(8:Int)),((0:Int)<=(7:Int)/\(7:Int)<(8:Int)),((0:Int)<=(7:Int)/\(7:Int)<(8:Int))],
   .ret (.agg [.int .u32 (IntKind.u32.wrap ((a,b,c,d,e,f,g,h).1+(a',b',c',d',e',f',g',h').1)),.int .u32 (IntKind.u32.wrap ((a,b,c,d,e,f,g,h).2.1+(a',b',c',d',e',f',g',h').2.1)),.int .u32 (IntKind.u32.wrap ((a,b,c,d,e,f,g,h).2.2.1+(a',b',c',d',e',f',g',h').2.2.1)),.int .u32 (IntKind.u32.wrap ((a,b,c,d,e,f,g,h).2.2.2.1+(a',b',c',d',e',f',g',h').2.2.2.1)),.int .u32 (IntKind.u32.wrap ((a,b,c,d,e,f,g,h).2.2.2.2.1+(a',b',c',d',e',f',g',h').2.2.2.2.1)),.int .u32 (IntKind.u32.wrap ((a,b,c,d,e,f,g,h).2.2.2.2.2.1+(a',b',c',d',e',f',g',h').2.2.2.2.2.1)),.int .u32 (IntKind.u32.wrap ((a,b,c,d,e,f,g,h).2.2.2.2.2.2.1+(a',b',c',d',e',f',g',h').2.2.2.2.2.2.1)),.int .u32 (IntKind.u32.wrap ((a,b,c,d,e,f,g,h).2.2.2.2.2.2.2+(a',b',c',d',e',f',g',h').2.2.2.2.2.2.2))]) (J []) 3)]
 :=cR.of U U U
section
variable(a e:Int)(rd:List Int)(x:Int)(ws:List Int)(b:Int)(i:Nat)(q:E8)
theorem yh:w32 x=x%4294967296:=rfl
theorem SD(z:Int):BitVec.ofInt 32 (w32 z)=BitVec.ofInt 32 z:=by
 apply BitVec.eq_of_toInt_eq;rw[BitVec.toInt_ofInt,BitVec.toInt_ofInt,yh];exact Int.emod_bmod ..
theorem B7(v:BitVec 32):BitVec.ofInt 32 (w32 ↑v.toNat)=v:=by
 rw[SD];apply BitVec.eq_of_toNat_eq;rw[BitVec.toNat_ofInt];have:=v.isLt;have h:((v.toNat:Int)%((2^32:Nat):Int))=v.toNat:=Int.emod_eq_of_lt K K;rw[h];rfl
theorem SE:J4 a b=J4 b a:=by unfold J4;rw[BitVec.or_comm]
theorem oP(m d x:Int):DJ m d x=Dl m d x:=SE _ _
theorem Wm:abE x=sg0 x:=by unfold abE sg0;rw[oP,oP]
theorem Wn:abF x=sg1 x:=by unfold abF sg1;rw[oP,oP]
theorem Wo:abH x=bS0 x:=by unfold abH bS0;rw[oP,oP,oP]
theorem Wp:abG x=bS1 x:=by unfold abG bS1;rw[oP,oP,oP]
theorem SF:Nb ws i=IZ ws i:=by unfold Nb IZ;rw[Wm,Wn]
theorem Wq:BitVec.ofInt 32 (w32 (4294967295-e))= ~~~ BitVec.ofInt 32 e:=by
 rw[SD];apply BitVec.eq_of_toNat_eq;rw[BitVec.toNat_not,BitVec.toNat_ofInt,BitVec.toNat_ofInt];have N:=Int.emod_nonneg e (show((2^32:Nat):Int)≠0 by decide);have B:=Int.emod_lt_of_pos e (show(0:Int)<((2^32:Nat):Int)by decide);have h3:(4294967295-e)%((2^32:Nat):Int)=4294967295-e%((2^32:Nat):Int):=by omega
 rw[h3];omega
theorem SG:BitVec.ofInt 32 (nH 4294967295 e)= ~~~ BitVec.ofInt 32 e:=by
 unfold nH;rw[B7];apply BitVec.eq_of_getLsbD_eq;intro i hi;have:BitVec.ofInt 32 4294967295=BitVec.allOnes 32:=by decide
 rw[this,BitVec.allOnes_xor]
theorem agE(E rt hx:BitVec 32):(E&&&rt)|||(~~~E&&&hx)=(E&&&rt)^^^(~~~E&&&hx):=by
 apply BitVec.eq_of_getLsbD_eq;intro i hi;simp only[BitVec.getLsbD_or,BitVec.getLsbD_and,BitVec.getLsbD_xor,BitVec.getLsbD_not];cases E.getLsbD i<;>cases rt.getLsbD i<;>cases hx.getLsbD i<;>simp
theorem agF(cS h2 cs:BitVec 32):((cS&&&h2)|||(cS&&&cs))|||(h2&&&cs)=((cS&&&h2)^^^(cS&&&cs))^^^(h2&&&cs):=by
 apply BitVec.eq_of_getLsbD_eq;intro i hi;simp only[BitVec.getLsbD_or,BitVec.getLsbD_and,BitVec.getLsbD_xor];cases cS.getLsbD i<;>cases h2.getLsbD i<;>cases cs.getLsbD i<;>rfl
theorem abJ(f g:Int):chR e f g=chI e f g:=by
 unfold chR chI J4 nH AG;simp only[B7];have h:=SG e;unfold nH at h;rw[B7]at h;rw[Wq,h,agE]
theorem abK(c:Int):maR a b c=maI a b c:=by
 unfold maR maI J4 nH AG;simp only[B7];rw[agF]
theorem abL:rdR rd ws i q=rdX rd ws i q:=by
 obtain⟨a,b,c,d,e,f,g,h⟩:=q;simp only[rdR,rdX,Wp,abJ]
theorem Wr(c:Int):w32 (w32 (a+b)+c)=w32 (a+w32 (b+c)):=by
 simp only[yh];omega
theorem Ws:abI rd ws i q=BL rd ws i q:=by
 obtain⟨a,b,c,d,e,f,g,h⟩:=q;simp only[abI,BL,abL,Wo,abK,Wr]
theorem abM{a b k:Nat}(hb:b<2^k)(ha:a*2^k+b<4294967296):J4 ((a*2^k:Nat):Int) (b:Int)=((a*2^k+b:Nat):Int):=by
 unfold J4;have N:∀n:Nat,n<4294967296->(BitVec.ofInt 32 (n:Int)).toNat=n:=fun n hn=>by
  rw[BitVec.toNat_ofInt];have:((n:Int)%((2^32:Nat):Int))=n:=Int.emod_eq_of_lt K K;rw[this];rfl
 rw[BitVec.toNat_or,N _ K,N _ K];have B:a*2^k|||b=a*2^k+b:=by
  have:=Nat.shiftLeft_add_eq_or_of_lt hb a;rw[Nat.shiftLeft_eq]at this;exact this.symm
 rw[B,yh];exact Int.emod_eq_of_lt K K
theorem Hq{p q k s:Nat}(hk:k=2^s)(hq:q<k)(h:p*k+q<4294967296){a b:Int}(ha:a=((p*k:Nat):Int))(hb:b=(q:Int)):J4 a b=((p*k+q:Nat):Int):=by
 subst hk ha hb;exact abM hq h
theorem SH(b:L)(i:Nat):Nc b i=I0 b i:=by
 have Nf:∀j,∃n:Nat,n<256/\U9 b j=(n:Int):=fun j=>⟨(b.getD j 0).toNat,(b.getD j 0).toNat_lt,by
  have:=(b.getD j 0).toNat_lt;show((b.getD j 0).toNat:Int)%4294967296=_;exact Int.emod_eq_of_lt K K⟩
 unfold Nc I0;obtain⟨x,G,ex⟩:=Nf (i*4);obtain⟨y,hy,ey⟩:=Nf (i*4+1);obtain⟨z,hz,ez⟩:=Nf (i*4+2);obtain⟨t,ht,et⟩:=Nf (i*4+3);rw[ex,ey,ez,et];have e1:w32 ((x:Int)*16777216)=((x*16777216:Nat):Int):=by rw[yh];omega
 have e2:w32 ((y:Int)*65536)=((y*65536:Nat):Int):=by rw[yh];omega
 have e3:w32 ((z:Int)*256)=((z*256:Nat):Int):=by rw[yh];omega
 rw[e1,e2,e3];have o1:=Hq (p:=x) (q:=y*65536) (k:=16777216) (s:=24) dU K K rfl rfl;have o2:=Hq (p:=x*256+y) (q:=z*256) (k:=65536) (s:=16) (a:=((x*16777216+y*65536:Nat):Int)) dU K K K rfl;have o3:=Hq (p:=x*65536+y*256+z) (q:=t) (k:=256) (s:=8) (a:=(((x*256+y)*65536+z*256:Nat):Int)) dU K K K rfl;rw[o1,o2,o3];simp only[yh];omega
end
theorem Wt{ws:List Int}(h:ws.length=64):Dn ws=ws:=by
 unfold Dn;refine List.ext_getElem (by rw[aT,List.length_range,h]) fun i N B=>?_;rw[List.getElem_map,List.getElem_range,aM,ay B];rfl
section
variable(b:L)(i:Nat)
def FF:List Int:=if i<=16 then Yz b i else Ew b (i-16)
theorem Wu(hi:i<=64):(FF b i).length=64:=by
 unfold FF;split
 . exact B2 b i K
 . exact zm b (i-16) K
theorem abN{i:Nat}(h:i<16):FF b (i+1)=fZ (FF b i) (0+i*1) [Nc b i]:=by
 unfold FF;rw[aH K,aH K,SH];rfl
theorem abO{i:Nat}(h:16<=i):FF b (i+1)=fZ (FF b i) (0+i*1) [Nb (FF b i) i]:=by
 obtain⟨j,rfl⟩:∃j,i=16+j:=⟨i-16,K⟩;have e:FF b (16+j)=Ew b j:=by
  unfold FF;split
  . obtain rfl:j=0:=by omega
    rfl
  . rw[show 16+j-16=j by omega]
 rw[e,SF];unfold FF;rw[aI K,show 16+j+1-16=j+1 by omega];rfl
end
section
variable(b:L)(hb:64<=b.length)(q:E8)
include hb in
theorem aor:TG ak 3 Tryz.f145.ntmps O3 (cU [.agg (c8 q),.str b,aR] .nil 3) (fJ ak 3 Tryz.f145 fun u _ _=>u= .agg (c8 (zn gR b q))):=by
 refine iF  2 XL (aoh b q) cT ?_;refine tS [(4,.u32),(6,.u32)] (s2:=eG [(1,.str b),(3,.ptr (some (3,0))),(5,.ptr (some (4,0))),(6,.ptr (some (5,0))),(7,.ptr (some (6,0)))] (J (mVc q (FF b 0))) 7) U ?_;show TG _ _ _ abD _ _;refine cZ U ?_;refine cZ U ?_;refine fO XL (aoj b q (FF b 0)) (dG ?_);refine⟨cT,fun s' dO=>?_⟩;refine jx 0 64 (fun i=>SC b q (FF b i) i) U U (.norm dO) (fun i hi=>?_) ?_
 . have uz:=Wu b i K;rcases bK i 16 with h16|h16
   . have e:=abN b h16;show TG _ _ _ _ _ (andThen (fun s'=>gF ak 3 Tryz.f145.ntmps s' (SC b q (FF b (i+1)) (i+1))) _);rw[e];refine fO XL (agC b q (FF b i) i) fun g hg I=>?_;rcases iU hg with rfl|rfl
     . refine⟨?_,fun s1 gi=>.norm gi⟩
       repeat' (first|exact cT|refine iI ?_ ?_)
       all_goals first
        |exact nL dm K
        |exact⟨az _,K⟩
        |exact⟨az _,dm⟩
        |exact aN V.bool (bQ dm)
        |omega
     . exact absurd (aJ (I _ (aq.2 rfl))) dm
   . have e:=abO b h16;show TG _ _ _ _ _ (andThen (fun s'=>gF ak 3 Tryz.f145.ntmps s' (SC b q (FF b (i+1)) (i+1))) _);rw[e];refine fO XL (aom b q (FF b i) i) fun g hg I=>?_;rcases iU hg with rfl|rfl
     . refine⟨?_,fun s1 gi=>.norm gi⟩
       repeat' (first|exact cT|refine iI ?_ ?_)
       all_goals first
        |exact nL dm K
        |exact⟨az _,dm⟩
        |exact aN V.bool (bC dm)
        |omega
     . exact absurd (aJ (I _ (aq.2 rfl))) dm
 . refine fO XL (agC b q (FF b 64) 64) fun g hg I=>?_;rcases iU hg with rfl|rfl
   . exact absurd (I _ (aq.2 rfl)) dU
   refine⟨cT,fun s1 gi=>⟨by simp,?_⟩⟩;rw[dV];refine c6 gi ?_;show TG _ _ _ (dh 3 O3) _ _;have hw:FF b 64=Dn (Ew b 48):=by rw[Wt (zm b 48 (aA _))];rfl
   rw[hw];have uz:(Dn (Ew b 48)).length=64:=by unfold Dn;rw[aT,List.length_range]
   refine cZ U ?_;unfold zn;generalize Dn (Ew b 48)=ws at uz ⊢;refine fO XL (aoo b q ws 64) (dG ?_);refine⟨cT,fun s2 jr=>c6 jr ?_⟩;show TG _ _ _ Nd _ _;refine cZ U ?_;refine cZ U ?_;refine fO XL (aop q q ws) (dG ?_);refine⟨cT,fun s3 yq=>?_⟩;refine jx 2 64 (fun i=>Up q (vF gR ws q i) ws [(12,iW i)]) U U (.norm yq) (fun i hi=>?_) ?_
   . show TG _ _ _ _ _ (andThen (fun s'=>gF ak 3 Tryz.f145.ntmps s' (Up q (BL gR ws i (vF gR ws q i)) ws [(12,iW (i+1))])) _);rw[<- Ws];generalize vF gR ws q i=q';obtain⟨a,b,c,d,e,f,g,h⟩:=q;obtain⟨a',b',c',d',e',f',g',h'⟩:=q';refine fO XL (agD a b c d e f g h a' b' c' d' e' f' g' h' ws i) fun g hg I=>?_;rcases iU hg with rfl|rfl
     . refine⟨?_,fun s4 Jn=>.norm Jn⟩
       repeat' (first|exact cT|refine iI ?_ ?_)
       all_goals first
        |exact nL dm K
        |exact⟨az _,dm⟩
        |omega
     . exact absurd (aJ (I _ (aq.2 rfl))) dm
   . show TG _ _ _ _ (Up q (vF gR ws q 64) ws [(12,iW 64)]) _;generalize vF gR ws q 64=q';obtain⟨a,b,c,d,e,f,g,h⟩:=q;obtain⟨a',b',c',d',e',f',g',h'⟩:=q';refine fO XL (agD a b c d e f g h a' b' c' d' e' f' g' h' ws 64) fun g hg I=>?_;rcases iU hg with rfl|rfl
     . exact absurd (I _ (aq.2 rfl)) dU
     refine⟨cT,fun s4 Jn=>⟨by simp,?_⟩⟩;rw[dV];refine c6 Jn ?_;refine fh XL (aoq a b c d e f g h a' b' c' d' e' f' g' h' ws 64) (dG ?_);refine⟨?_,_,_,_,rfl,?_⟩
     . repeat' (first|exact cT|refine iI ?_ ?_)
       all_goals exact⟨dU,dU⟩
     . simp only[aae,c8,Int.add_comm]
end
def LN:ag->Option (ah×V)
 | [.agg [.int .u32 a,.int .u32 b,.int .u32 c,.int .u32 d,.int .u32 e,.int .u32 f,.int .u32 g,.int .u32 x],.str s,r]=>match r.free with
   |true=>some ([64<=s.length,r=aR],.agg (c8 (zn gR s (a,b,c,d,e,f,g,x))))
   |false=>none
 |_=>none
theorem abP:jv ak 145 (jS LN):=by
 refine kj (au U) fun args cS v e=>?_;unfold LN at e;split at e
 case h_2=>cases e
 rename_i a b c d e1 f g x s r;split at e
 case h_2=>cases e
 rename_i hr;obtain⟨rfl,rfl⟩:=fg e;refine⟨by simp[V.xn,V.free,hr],U,fun hA=>?_⟩;obtain rfl:r=aR:=hA (r=aR) (by simp);exact ic mo po Tryz.func145 U U rfl (aor s (hA (64<=s.length) (by simp)) (a,b,c,d,e1,f,g,x))
section
variable(x:Int)
theorem Y3(a b c:Int)(h:a*b=c)(ha:0<a)(hb:0<b):(x.fdiv a).fdiv b=x.fdiv c:=by
 subst h;rw[cM _ (Int.le_of_lt ha),cM _ (Int.le_of_lt hb),cM _ (Int.le_of_lt (Int.mul_pos ha hb)),Int.ediv_ediv_of_nonneg (Int.le_of_lt ha)]
def vO:L:=[UInt8.ofNat (IntKind.u8.wrap (((((((x.fdiv 256).fdiv 256).fdiv 256).fdiv 256).fdiv 256).fdiv 256).fdiv 256)).toNat,UInt8.ofNat (IntKind.u8.wrap ((((((x.fdiv 256).fdiv 256).fdiv 256).fdiv 256).fdiv 256).fdiv 256)).toNat,UInt8.ofNat (IntKind.u8.wrap (((((x.fdiv 256).fdiv 256).fdiv 256).fdiv 256).fdiv 256)).toNat,
    UInt8.ofNat (IntKind.u8.wrap ((((x.fdiv 256).fdiv 256).fdiv 256).fdiv 256)).toNat,UInt8.ofNat (IntKind.u8.wrap (((x.fdiv 256).fdiv 256).fdiv 256)).toNat,UInt8.ofNat (IntKind.u8.wrap ((x.fdiv 256).fdiv 256)).toNat,UInt8.ofNat (IntKind.u8.wrap (x.fdiv 256)).toNat,UInt8.ofNat (IntKind.u8.wrap x).toNat]
theorem agG(h0:0<=x)(N:x<18446744073709551616):vO x=mD x:=by
 unfold vO;have hw:IntKind.u64.wrap x=x:=Int.emod_eq_of_lt h0 N;unfold mD pB;rw[hw,Y3 x 256 256 65536 dU dU dU,Y3 x 65536 256 16777216 dU dU dU,Y3 x 16777216 256 4294967296 dU dU dU,Y3 x 4294967296 256 1099511627776 dU dU dU,Y3 x 1099511627776 256 281474976710656 dU dU dU,Y3 x 281474976710656 256 72057594037927936 dU dU dU];have N:x.fdiv 1=x:=Int.fdiv_one x;rw[N]
def gr:L:=[UInt8.ofNat (IntKind.u8.wrap (((x.fdiv 256).fdiv 256).fdiv 256)).toNat,UInt8.ofNat (IntKind.u8.wrap ((x.fdiv 256).fdiv 256)).toNat,UInt8.ofNat (IntKind.u8.wrap (x.fdiv 256)).toNat,UInt8.ofNat (IntKind.u8.wrap x).toNat]
theorem aos(h0:0<=x)(N:x<18446744073709551616):gr x=dX x:=by
 unfold gr;have hw:IntKind.u64.wrap x=x:=Int.emod_eq_of_lt h0 N;unfold dX pB;rw[hw,Y3 x 256 256 65536 dU dU dU,Y3 x 65536 256 16777216 dU dU dU];have N:x.fdiv 1=x:=Int.fdiv_one x;rw[N]
end
def LO:ag->Option (ah×V)
 | [.int .u64 x,.int .i64 k]=>match k with
   | .ofNat 8=>some ([],.str (vO x))
   | .ofNat 4=>some ([],.str (gr x))
   |_=>none
 |_=>none
theorem abQ:jv ak 144 (jS LO):=by
 refine kj (au U) fun args cS v e=>?_;unfold LO at e;split at e
 case h_2=>cases e
 rename_i x k;split at e
 . obtain⟨rfl,rfl⟩:=fg e;refine⟨rfl,U,fun _=>ic mo po Tryz.func144 (code:=dN Tryz.f144) U U rfl ?_⟩;refine fh XL (aof x) (dG ?_);refine⟨?_,_,_,_,rfl,?_⟩
   . repeat' (first|exact cT|refine iI ?_ ?_)
     all_goals first|exact⟨dU,dU⟩|exact⟨dU,dU,dU⟩|exact au rfl
   . rfl
 . obtain⟨rfl,rfl⟩:=fg e;refine⟨rfl,U,fun _=>ic mo po Tryz.func144 (code:=dN Tryz.f144) U U rfl ?_⟩;refine fh XL (aog x) (dG ?_);refine⟨?_,_,_,_,rfl,?_⟩
   . repeat' (first|exact cT|refine iI ?_ ?_)
     all_goals first|exact⟨dU,dU⟩|exact⟨dU,dU,dU⟩|exact au rfl
   . rfl
 . cases e
noncomputable abbrev W20:jQ:=jD 144 (jS LO) (jD 145 (jS LN) W16)
theorem SI:gl ak W20:=e9 abQ (e9 abP G1)
noncomputable abbrev zG:fb:=gP ak W20 H0 1000 40
noncomputable abbrev HM:CX ak:=CX.of mo po SI H0 1000 40
structure gq where
 dg:L
 da:L
 D:List (L)
def gq.d(c:gq):ai:=[.str c.dg,.str c.da,.dS c.D.length (strs c.D)]
def eL(l:List gq):ai:=(l.map gq.d).flatten
def eR(l:List (L×L)):ai:=(l.map fun p=>[rs.str p.1,rs.str p.2]).flatten
structure RS where
 C:List gq
 ro:List (L×L)
def RS.v(s:RS):V:=.agg [.dS false s.C.length (eL s.C),.dS false s.ro.length (eR s.ro)]
section
variable(s:RS)(x:L)(i:Nat)
def RS.d:rs:=.agg [.dS s.C.length (eL s.C),.dS s.ro.length (eR s.ro)]
noncomputable abbrev SJ:Code:=dN Tryz.f70
noncomputable abbrev aou:Code:=dz (dz (dY (dP (dh 1 SJ))))
noncomputable abbrev SL:Code:=dN Tryz.f115
noncomputable abbrev aov:Code:=dz (dz (dY (dP (dh 1 SL))))
def bx:lf:=.cells [.dS false s.C.length (eL s.C),.dS false s.ro.length (eR s.ro)]
def PL:St:=eG [(1,.str x),(2,.ptr (some (3,0))),(5,iW i)] (J [(3,bx s)]) 4
theorem aow:c9 zG [] 3 Tryz.f70 [1,2] (eV 1 SJ) (cU [s.v,.str x] .nil 3) [([],
   [],
   .to .normal (eG [(1,.str x),(2,.ptr (some (3,0)))] (J [(3,.cells [.dS false (s.C.length) (eL s.C),.dS false (s.ro.length) (eR s.ro)])]) 4))]
 :=cR.of U U U
theorem aox:c9 zG [] 3 Tryz.f70 [1,2,5] (dP (dP (dh 1 SJ))) (eG [(1,.str x),(2,.ptr (some (3,0)))] (J [(3,bx s)]) 4) [([],
   [],
   .to .normal (PL s x 0))]
 :=cR.of U U U
theorem agH(c:gq):c9 zG [(10,.split),(16,.di (.dx c.d)),(20,.split),(12,.di (iW (i+1)))] 3 Tryz.f70 [1,2,5] (aou) (PL s x i) [([((decide (Int.ofNat i<(Int.ofNat s.C.length))),true),((eJ c.dg x),true)],
   [((0:Int)<=Int.ofNat i/\Int.ofNat i<(Int.ofNat s.C.length)),((eL s.C).length=s.C.length*3),(V.dx (dF (eL s.C) (i*3) 3)=V.dx c.d)],
   .ret (.int .i64 (Int.ofNat i)) (J []) 3),
  ([((decide (Int.ofNat i<(Int.ofNat s.C.length))),true),((eJ c.dg x),false)],
   [((0:Int)<=Int.ofNat i/\Int.ofNat i<(Int.ofNat s.C.length)),((eL s.C).length=s.C.length*3),(V.dx (dF (eL s.C) (i*3) 3)=V.dx c.d),(V.int aj (IntKind.i64.wrap (Int.ofNat i+(1:Int)))=iW (i+1))],
   .to .normal (PL s x (i+1))),
  ([((decide (Int.ofNat i<(Int.ofNat s.C.length))),false)],
   [],
   .to (.exit 0) (PL s x i))]
 :=cR.of U U U
theorem aoy:c9 zG [] 3 Tryz.f70 [] (dY (dh 1 SJ)) (PL s x i) [([],
   [],
   .ret (.int .i64 (-1)) (J []) 3)]
 :=cR.of U U U
theorem aoz:c9 zG [] 3 Tryz.f115 [1,2] (eV 1 SL) (cU [s.v,.str x] .nil 3) [([],
   [],
   .to .normal (eG [(1,.str x),(2,.ptr (some (3,0)))] (J [(3,.cells [.dS false (s.C.length) (eL s.C),.dS false (s.ro.length) (eR s.ro)])]) 4))]
 :=cR.of U U U
theorem aoA:c9 zG [] 3 Tryz.f115 [1,2,5] (dP (dP (dh 1 SL))) (eG [(1,.str x),(2,.ptr (some (3,0)))] (J [(3,bx s)]) 4) [([],
   [],
   .to .normal (PL s x 0))]
 :=cR.of U U U
theorem agI(n d:L):c9 zG [(10,.split),(16,.di (.dx [.str n,.str d])),(20,.split),(24,.di (.dx [.str n,.str d])),(12,.di (iW (i+1)))] 3 Tryz.f115 [1,2,5] (aov) (PL s x i) [([((decide (Int.ofNat i<(Int.ofNat s.ro.length))),true),((eJ n x),true)],
   [((0:Int)<=Int.ofNat i/\Int.ofNat i<(Int.ofNat s.ro.length)),((eR s.ro).length=s.ro.length*2),(V.dx (dF (eR s.ro) (i*2) 2)=V.dx [rs.str n,rs.str d]),((0:Int)<=Int.ofNat i/\Int.ofNat i<(Int.ofNat s.ro.length)),((eR s.ro).length=s.ro.length*2),(V.dx (dF (eR s.ro) (i*2) 2)=V.dx [rs.str n,rs.str d])],
   .ret (.str d) (J []) 3),
  ([((decide (Int.ofNat i<(Int.ofNat s.ro.length))),true),((eJ n x),false)],
   [((0:Int)<=Int.ofNat i/\Int.ofNat i<(Int.ofNat s.ro.length)),((eR s.ro).length=s.ro.length*2),(V.dx (dF (eR s.ro) (i*2) 2)=V.dx [rs.str n,rs.str d]),(V.int aj (IntKind.i64.wrap (Int.ofNat i+(1:Int)))=iW (i+1))],
   .to .normal (PL s x (i+1))),
  ([((decide (Int.ofNat i<(Int.ofNat s.ro.length))),false)],
   [],
   .to (.exit 0) (PL s x i))]
 :=cR.of U U U
theorem aoB:c9 zG [] 3 Tryz.f115 [] (dY (dh 1 SL)) (PL s x i) [([],
   [],
   .ret (.str []) (J []) 3)]
 :=cR.of U U U
end
theorem sQ{α β:Type}{f:α->List β}{w:Nat}(hf:∀x,(f x).length=w):∀l:List α,(l.map f).flatten.length=l.length*w
 | []=>by simp
 |x::l=>by
  rw[bY,List.flatten_cons,ax,hf,sQ hf l,aS,cP];omega
theorem vP{α:Type}{f:α->ai}{w:Nat}(hf:∀x,(f x).length=w):∀(l:List α) (i:Nat) (h:i<l.length),dF ((l.map f).flatten) (i*w) w=f l[i]
 |x::l,0,_=>by
  unfold dF;rw[Nat.zero_mul,bn,bY,List.flatten_cons,List.take_left' (hf x)];rfl
 |x::l,i+1,h=>by
  have ih:=vP hf l i (by simpa using h);unfold dF at ih ⊢;rw[bY,List.flatten_cons,show(i+1)*w=w+i*w by rw[cP];omega,<- List.drop_drop,List.drop_left' (hf x),ih];rfl
theorem jy(l:List gq):(eL l).length=l.length*3:=sQ (f:=gq.d) (w:=3) (fun _=>rfl) l
theorem ue(l:List gq)(i:Nat)(h:i<l.length):dF (eL l) (i*3) 3=l[i].d:=vP (f:=gq.d) (w:=3) (fun _=>rfl) l i h
section
variable(l:List (L×L))
theorem nM:(eR l).length=l.length*2:=sQ (f:=fun p:L×L=>[rs.str p.1,rs.str p.2]) (w:=2) (fun _=>rfl) l
theorem DK(i:Nat)(h:i<l.length):dF (eR l) (i*2) 2=[rs.str l[i].1,rs.str l[i].2]:=vP (f:=fun p:L×L=>[rs.str p.1,rs.str p.2]) (w:=2) (fun _=>rfl) l i h
end
def sR(x:L):List gq->Nat->Int
 | [],_=> -1
 |c::l,i=>if c.dg=x then i else sR x l (i+1)
def fk(l:List gq)(x:L):Int:=sR x l 0
def gX(x:L):List (L×L)->L
 | []=>[]
 |p::l=>if p.1=x then p.2 else gX x l
theorem LP{x:L}{l:List gq}{i:Nat}(h:i<l.length):sR x (l.drop i) i=if l[i].dg=x then(i:Int)else sR x (l.drop (i+1)) (i+1):=by
 rw[bH h];rfl
theorem LQ{x:L}{l:List (L×L)}{i:Nat}(h:i<l.length):gX x (l.drop i)=if l[i].1=x then l[i].2 else gX x (l.drop (i+1)):=by
 rw[bH h];rfl
theorem pn{a b:L}(h:eJ a b=false):a≠b:=by rw[fV]at h;exact beq_eq_false_iff_ne.1 h
section
variable(s:RS)(x:L)
theorem aoC(hl:s.C.length<=1000000):TG ak 3 Tryz.f70.ntmps SJ (cU [s.v,.str x] .nil 3) (fJ ak 3 Tryz.f70 fun u _ _=>u= .int .i64 (fk s.C x)):=by
 refine iF  1 HM (aow s x) cT ?_;refine cZ U ?_;refine cZ U ?_;refine fO HM (aox s x) (dG ?_);refine⟨cT,fun s' dO=>?_⟩;refine iq (α:=Nat) 0 (fun i=>s.C.length-i) (fun i=>i<=s.C.length/\fk s.C x=sR x (s.C.drop i) i) (PL s x) U U 0 ⟨aX _,by rw[bn];rfl⟩ (.norm dO) fun i ⟨hi,he⟩=>?_;rcases bK i s.C.length with fI|y6
 . have jZ:=ue s.C i fI;rw[LP fI]at he;generalize I:s.C[i]=c at jZ he;obtain⟨L3,wR⟩:=agH s x i c;have ha:∀a∈[((0:Int)<=Int.ofNat i/\Int.ofNat i<(Int.ofNat s.C.length)),((eL s.C).length=s.C.length*3),(V.dx (dF (eL s.C) (i*3) 3)=V.dx c.d)],a:=fm (⟨az _,dm⟩) (fm (jy _) (eX (aN V.dx jZ)));refine gC HM mo (fun u _ _=>u= .int .i64 (fk s.C x)) U wR fun g hg IG=>?_;rcases w8 hg with rfl|rfl|rfl
   . have B:=kT (IG _ (aK _ (aq.2 rfl)));rw[aH B]at he;exact⟨ha,by rw[he];rfl,fun s2 jr=>jr⟩
   . have B:=pn (IG _ (aK _ (aq.2 rfl)));rw[aI B]at he;exact⟨fm (⟨az _,dm⟩) (fm (jy _) (fm (aN V.dx jZ) (eX (nL dm K)))),fun s2 jr=>⟨i+1,K,⟨K,he⟩,.norm jr⟩⟩
   . exact absurd (aJ (IG _ (aq.2 rfl))) dm
 . obtain rfl:i=s.C.length:=by omega
   obtain⟨L3,wR⟩:=agH s x s.C.length ⟨[],[],[]⟩;refine gC HM mo (fun u _ _=>u= .int .i64 (fk s.C x)) U wR fun g hg IG=>?_;rcases w8 hg with rfl|rfl|rfl
   . exact absurd (aE (IG _ (aP ..))) dm
   . exact absurd (aE (IG _ (aP ..))) dm
   . refine⟨cT,fun s2 jr=>?_⟩;simp only[andThen,dV];refine c6 jr ?_;refine fh HM (aoy s x s.C.length) (dG ?_);refine⟨cT,_,_,_,rfl,?_⟩;rw[he,List.drop_length];rfl
theorem aoD(hl:s.ro.length<=1000000):TG ak 3 Tryz.f115.ntmps SL (cU [s.v,.str x] .nil 3) (fJ ak 3 Tryz.f115 fun u _ _=>u= .str (gX x s.ro)):=by
 refine iF  1 HM (aoz s x) cT ?_;refine cZ U ?_;refine cZ U ?_;refine fO HM (aoA s x) (dG ?_);refine⟨cT,fun s' dO=>?_⟩;refine iq (α:=Nat) 0 (fun i=>s.ro.length-i) (fun i=>i<=s.ro.length/\gX x s.ro=gX x (s.ro.drop i)) (PL s x) U U 0 ⟨aX _,by rw[bn]⟩ (.norm dO) fun i ⟨hi,he⟩=>?_;rcases bK i s.ro.length with fI|y6
 . have jZ:=DK s.ro i fI;rw[LQ fI]at he;generalize I:s.ro[i]=c at jZ he;obtain⟨n,d⟩:=c;obtain⟨L3,wR⟩:=agI s x i n d;refine gC HM mo (fun u _ _=>u= .str (gX x s.ro)) U wR fun g hg IG=>?_;rcases w8 hg with rfl|rfl|rfl
   . have B:=kT (IG _ (aK _ (aq.2 rfl)));rw[aH B]at he;exact⟨fm (⟨az _,dm⟩) (fm (nM _) (fm (aN V.dx jZ) (fm (⟨az _,dm⟩) (fm (nM _) (eX (aN V.dx jZ)))))),by rw[he],fun s2 jr=>jr⟩
   . have B:=pn (IG _ (aK _ (aq.2 rfl)));rw[aI B]at he;exact⟨fm (⟨az _,dm⟩) (fm (nM _) (fm (aN V.dx jZ) (eX (nL dm K)))),fun s2 jr=>⟨i+1,K,⟨K,he⟩,.norm jr⟩⟩
   . exact absurd (aJ (IG _ (aq.2 rfl))) dm
 . obtain rfl:i=s.ro.length:=by omega
   obtain⟨L3,wR⟩:=agI s x s.ro.length [] [];refine gC HM mo (fun u _ _=>u= .str (gX x s.ro)) U wR fun g hg IG=>?_;rcases w8 hg with rfl|rfl|rfl
   . exact absurd (aE (IG _ (aP ..))) dm
   . exact absurd (aE (IG _ (aP ..))) dm
   . refine⟨cT,fun s2 jr=>?_⟩;simp only[andThen,dV];refine c6 jr ?_;refine fh HM (aoB s x s.ro.length) (dG ?_);refine⟨cT,_,_,_,rfl,?_⟩;rw[he,List.drop_length];rfl
end
noncomputable abbrev EE:Code:=dN Tryz.f116
section
variable(s:L)(q:E8)(k:Nat)(m gy:L)
def zs(k:Nat):List Int:=(128:Int)::List.replicate k 0
def qS:E8:=(1779033703,3144134277,1013904242,2773480762,1359893119,2600822924,528734635,1541459225)
def sOz(us:List Int):St:=eG [(0,.str s),(3,.ptr (some (3,0))),(4,.ptr (some (4,0))),(5,.dj (some (5,0)) (k+1) (k+1) 1)] (J [(3,.cells (c8 qS)),(4,.cells (gR.map (V.int .u32 ·))),(5,.own .u8 us)]) 6
def sOa:St:=sOz s k (zs k)
def Y4(r:List (Nat×V)):St:=eG ([(3,.ptr (some (3,0))),(4,.ptr (some (4,0))),(6,.str m)]++r) (J [(3,.cells (c8 q)),(4,.cells (gR.map (V.int .u32 ·)))]) 5
end
section
variable(s:L)(q:E8)(k:Nat)(m:L)(i:Nat)
theorem aoE:c9 zG [] 3 Tryz.f116 [0,3,4,5] (eV 4 EE) (cU [.str s] .nil 3) [([],
   [],
   .to .normal (eG [(0,.str s),(3,.ptr (some (3,0))),(4,.ptr (some (4,0))),(5,.dj (some (5,0)) 1 1 1)] (J [(3,.cells [.int .u32 1779033703,.int .u32 3144134277,.int .u32 1013904242,.int .u32 2773480762,.int .u32 1359893119,.int .u32 2600822924,.int .u32 528734635,.int .u32 1541459225]),(4,.cells [.int .u32 1116352408,.int .u32 1899447441,.int .u32 3049323471,.int .u32 3921009573,.int .u32 961987163,.int .u32 1508970993,.int .u32 2453635748,.int .u32 2870763221,.int .u32 3624381080,.int .u32 310598401,.int .u32 607225278,.int .u32 1426881987,.int .u32 1925078388,.int .u32 2162078206,.int .u32 2614888103,.int .u32 3248222580,.int .u32 3835390401,.int .u32 4022224774,.int .u32 264347078,.int .u32 604807628,.int .u32 770255983,.int .u32 1249150122,.int .u32 1555081692,.int .u32 1996064986,.int .u32 2554220882,.int .u32 2821834349,.int .u32 2952996808,.int .u32 3210313671,.int .u32 3336571891,.int .u32 3584528711,.int .u32 113926993,.int .u32 338241895,.int .u32 666307205,.int .u32 773529912,.int .u32 1294757372,.int .u32 1396182291,.int .u32 1695183700,.int .u32 1986661051,.int .u32 2177026350,.int .u32 2456956037,.int .u32 2730485921,.int .u32 2820302411,.int .u32 3259730800,.int .u32 3345764771,.int .u32 3516065817,.int .u32 3600352804,.int .u32 4094571909,.int .u32 275423344,.int .u32 430227734,.int .u32 506948616,.int .u32 659060556,.int .u32 883997877,.int .u32 958139571,.int .u32 1322822218,.int .u32 1537002063,.int .u32 1747873779,.int .u32 1955562222,.int .u32 2024104815,.int .u32 2227730452,.int .u32 2361852424,.int .u32 2428436474,.int .u32 2756734187,.int .u32 3204031479,.int .u32 3329325298]),(5,.cells [.int .u8 128])]) 6))]
 :=cR.of U U U
abbrev SM:Prop:=V.int aj (IntKind.i64.wrap ((Int.ofNat s.length)+(Int.ofNat (k+1))))=iW (s.length+(k+1))
abbrev SN:Prop:=V.int aj ((Int.ofNat (s.length+(k+1))).tmod (64:Int))=iW ((s.length+(k+1))%64)
theorem agK:c9 zG [(17,.di (iW (s.length+(k+1)))),(18,.di (iW ((s.length+(k+1))%64))),(19,.split)] 3 Tryz.f116 [0,3,4,5] (dz (dz (dP (dh 4 EE)))) (sOa s k) [([((Int.ofNat ((s.length+(k+1))%64) !=(56:Int)),true)],
   [SM s k,SN s k,(0<k+1),(0+(k+1)*1<=(zs k).length),(0<1),(eU (k+1+1) 1 1=true)],
   .to .normal (sOz s (k+1) (List.take ((k+1)*1) (List.drop 0 (zs k))++[0]))),
  ([((Int.ofNat ((s.length+(k+1))%64) !=(56:Int)),false)],
   [SM s k,SN s k],
   .to (.exit 0) (sOa s k))]
 :=cR.of U U U
theorem aoF:c9 zG [] 3 Tryz.f116 [3,4,6] (dP (dh 5 EE)) (sOa s k) [([],
   [(0+(k+1)<=(zs k).length),(s.length+(eT (List.take (k+1) (List.drop 0 (zs k)))).length<=9223372036854775807),(0+(k+1)<=(zs k).length),((s++eT (List.take (k+1) (List.drop 0 (zs k)))).length+(vO (IntKind.u64.wrap ((8:Int)*IntKind.u64.wrap (Int.ofNat s.length)))).length<=9223372036854775807)],
   .to .normal (Y4 qS (s++eT (List.take (k+1) (List.drop 0 (zs k)))++vO (IntKind.u64.wrap ((8:Int)*IntKind.u64.wrap (Int.ofNat s.length)))) []))]
 :=cR.of U U U
theorem aoG:c9 zG [] 3 Tryz.f116 [3,4,6,7] (dP (dP (dh 6 EE))) (Y4 q m []) [([],
   [],
   .to .normal (Y4 q m [(7,iW 0)]))]
 :=cR.of U U U
theorem agL:c9 zG [(36,.split),(43,.di (iW (64*i+64))),(38,.di (iW (64*(i+1))))] 3 Tryz.f116 [3,4,6,7] (dz (dz (dY (dP (dh 6 EE))))) (Y4 q m [(7,iW (64*i))]) [([((decide (Int.ofNat (64*i)<(Int.ofNat m.length))),true)],
   [(V.int aj (IntKind.i64.wrap (Int.ofNat (64*i)+(64:Int)))=iW (64*i+64)),((0:Int)<=Int.ofNat (64*i+64)/\Int.ofNat (64*i+64)<=(Int.ofNat m.length)),((0:Int)<=Int.ofNat (64*i)/\Int.ofNat (64*i)<=(Int.ofNat (64*i+64))),(64<=(List.drop (64*i) (List.take (64*i+64) m)).length),(V.agg (List.take 64 (List.drop 0 (List.map (fun x=>V.int IntKind.u32 x) gR)))=aR),(V.int aj (IntKind.i64.wrap (Int.ofNat (64*i)+(64:Int)))=iW (64*(i+1)))],
   .to .normal (Y4 (zn gR (B3 m (64*i)) q) m [(7,iW (64*(i+1)))])),
  ([((decide (Int.ofNat (64*i)<(Int.ofNat m.length))),false)],
   [],
   .to (.exit 2) (Y4 q m [(7,iW (64*i))]))]
 :=cR.of U U U
theorem aoH:c9 zG [] 3 Tryz.f116 [] (dh 7 EE) (Y4 q m [(7,iW (64*i))]) [([],
   [((0:Int)<=(0:Int)/\(0:Int)<(8:Int)),(0+(gr (IntKind.u64.wrap q.1)).length<=9223372036854775807),((0:Int)<=(1:Int)/\(1:Int)<(8:Int)),((([]:L)++gr (IntKind.u64.wrap q.1)).length+(gr (IntKind.u64.wrap q.2.1)).length<=9223372036854775807),((0:Int)<=(2:Int)/\(2:Int)<(8:Int)),((([]:L)++gr (IntKind.u64.wrap q.1)++gr (IntKind.u64.wrap q.2.1)).length+(gr (IntKind.u64.wrap q.2.2.1)).length<=9223372036854775807),((0:Int)<=(3:Int)/\(3:Int)<(8:Int)),((([]:L)++gr (IntKind.u64.wrap q.1)++gr (IntKind.u64.wrap q.2.1)++gr (IntKind.u64.wrap q.2.2.1)).length+(gr (IntKind.u64.wrap q.2.2.2.1)).length<=9223372036854775807),((0:Int)<=(4:Int)/\(4:Int)<(8:Int)),((([]:L)++gr (IntKind.u64.wrap q.1)++gr (IntKind.u64.wrap q.2.1)++gr (IntKind.u64.wrap q.2.2.1)++gr (IntKind.u64.wrap q.2.2.2.1)).length+(gr (IntKind.u64.wrap q.2.2.2.2.1)).length<=9223372036854775807),((0:Int)<=(5:Int)/\(5:Int)<(8:Int)),((([]:L)++gr (IntKind.u64.wrap q.1)++gr (IntKind.u64.wrap q.2.1)++gr (IntKind.u64.wrap q.2.2.1)++gr (IntKind.u64.wrap q.2.2.2.1)++gr (IntKind.u64.wrap q.2.2.2.2.1)).length+(gr (IntKind.u64.wrap q.2.2.2.2.2.1)).length<=9223372036854775807),((0:Int)<=(6:Int)/\(6:Int)<(8:Int)),((([]:L)++gr (IntKind.u64.wrap q.1)++gr (IntKind.u64.wrap q.2.1)++gr (IntKind.u64.wrap q.2.2.1)++gr (IntKind.u64.wrap q.2.2.2.1)++gr (IntKind.u64.wrap q.2.2.2.2.1)++gr (IntKind.u64.wrap q.2.2.2.2.2.1)).length+(gr (IntKind.u64.wrap q.2.2.2.2.2.2.1)).length<=9223372036854775807),((0:Int)<=(7:Int)/\(7:Int)<(8:Int)),((([]:L)++gr (IntKind.u64.wrap q.1)++gr (IntKind.u64.wrap q.2.1)++gr (IntKind.u64.wrap q.2.2.1)++gr (IntKind.u64.wrap q.2.2.2.1)++gr (IntKind.u64.wrap q.2.2.2.2.1)++gr (IntKind.u64.wrap q.2.2.2.2.2.1)++gr (IntKind.u64.wrap q.2.2.2.2.2.2.1)).length+(gr (IntKind.u64.wrap q.2.2.2.2.2.2.2)).length<=9223372036854775807)],
   .ret (.str (([]:L)++gr (IntKind.u64.wrap q.1)++gr (IntKind.u64.wrap q.2.1)++gr (IntKind.u64.wrap q.2.2.1)++gr (IntKind.u64.wrap q.2.2.2.1)++gr (IntKind.u64.wrap q.2.2.2.2.1)++gr (IntKind.u64.wrap q.2.2.2.2.2.1)++gr (IntKind.u64.wrap q.2.2.2.2.2.2.1)++gr (IntKind.u64.wrap q.2.2.2.2.2.2.2))) (J []) 3)]
 :=cR.of U U U
end
theorem Wv{s t:L}{j:Nat}(h:64*j+64<=s.length):B3 (s++t) (64*j)=B3 s (64*j):=by
 unfold B3;rw[bZ h]
theorem FG(rd:List Int)(s t:L)(q:E8):∀n,64*n<=s.length->jT rd (s++t) q n=jT rd s q n
 |0,_=>rfl
 |n+1,h=>by
  show zn rd (B3 (s++t) (64*n)) (jT rd (s++t) q n)=zn rd (B3 s (64*n)) (jT rd s q n);rw[Wv K,FG rd s t q n K]
theorem DL(rd:List Int)(m:L)(q:E8)(M:Nat):∀k,jT rd m q (M+k)=jT rd (m.drop (64*M)) (jT rd m q M) k
 |0=>rfl
 |k+1=>by
  show zn rd (B3 m (64*(M+k))) (jT rd m q (M+k))=zn rd (B3 (m.drop (64*M)) (64*k)) _;rw[DL rd m q M k];congr 1;unfold B3;rw[List.take_drop,List.drop_drop,show 64*M+(64*k+64)=64*(M+k)+64 by omega,show 64*M+64*k=64*(M+k)by omega]
section
variable(s:L)
def zH:L:=s++(128::List.replicate (iA s) 0)++mD (Int.ofNat (s.length*8))
theorem Jo:(zH s).length=s.length/64*64+(mZ s).length/\(mZ s).length%64=0:=by
 unfold zH mZ iA;simp only[ax,aS,bM,bV,aZ,bR];have:(mD (Int.ofNat (s.length*8))).length=8:=rfl;rw[this];omega
theorem O4:(zH s).drop (64*(s.length/64))=mZ s:=by
 unfold zH mZ;rw[aU,bB,List.drop_append_of_le_length K,Nat.mul_comm 64,bB,bB];rfl
theorem Ww:Rm (jT gR (zH s) (K2 gS) ((zH s).length/64))=Ex s:=by
 unfold Ex Rn;congr 1;obtain⟨N,B⟩:=Jo s;have e:(zH s).length/64=s.length/64+(mZ s).length/64:=by omega
 rw[e,DL,O4];congr 1;unfold zH;rw[bB];exact FG gR s _ (K2 gS) _ K
end
section
variable(k:Nat)(x:Int)
theorem DM:(zs k).length=k+1:=by unfold zs;rw[aS,bM]
theorem Wx:List.take ((k+1)*1) (List.drop 0 (zs k))++[0]=zs (k+1):=by
 rw[bn,bq (by rw[DM];omega)];unfold zs;rw[List.cons_append,List.replicate_succ']
theorem SO:eT (List.take (k+1) (List.drop 0 (zs k)))=128::List.replicate k 0:=by
 rw[bn,bq (by rw[DM];omega)];unfold zs eT;rw[bY,List.map_replicate];rfl
theorem aoI:IntKind.u64.wrap (IntKind.u64.wrap x)=IntKind.u64.wrap (IntKind.i64.wrap x):=by
 have h:∀y:Int,IntKind.u64.wrap y=y%18446744073709551616:=fun _=>rfl;have B:IntKind.i64.wrap x=(if(decide (x%18446744073709551616>=9223372036854775808))=true then x%18446744073709551616-18446744073709551616 else x%18446744073709551616):=rfl;rw[h,h,h,B];split<;>omega
theorem abR:gr (IntKind.u64.wrap x)=wB x:=by
 have h:IntKind.u64.wrap x=x%18446744073709551616:=rfl;rw[aos _ (by rw[h];omega) (by rw[h];omega)];unfold wB dX pB;rw[aoI]
end
section
variable(s:L)
theorem aoJ(hs:s.length<=1000000000):TG ak 3 Tryz.f116.ntmps EE (cU [.str s] .nil 3) (fJ ak 3 Tryz.f116 fun u _ _=>u= .str (Ex s)):=by
 refine iF  4 HM (aoE s) cT ?_;refine tS [(5,.u8)] (s2:=sOa s 0) U ?_;show TG _ _ _ (dh 4 EE) _ _;have hz:iA s<64:=Nat.mod_lt _ dU;have hzm:(s.length+(iA s+1))%64=56:=by unfold iA;omega
 have ER:∀k,k<iA s->(s.length+(k+1))%64≠56:=fun k hk=>by unfold iA at hk;omega
 have ha:∀k,k<=iA s->V.int aj (IntKind.i64.wrap ((Int.ofNat s.length)+(Int.ofNat (k+1))))=iW (s.length+(k+1))/\V.int aj ((Int.ofNat (s.length+(k+1))).tmod (64:Int))=iW ((s.length+(k+1))%64):=fun k hk=>
  ⟨nL dm K,aN (V.int aj) (by rw[kr,cC K];rfl)⟩
 refine cZ U ?_;refine jx 0 (iA s) (fun k=>sOa s k) U U .refl (fun k hk=>?_) ?_
 . refine fO HM (agK s k) fun g hg I=>?_;rcases iU hg with rfl|rfl
   . refine⟨fm ((ha k K).1) (fm ((ha k K).2) (fm K (fm (by rw[DM];omega) (fm dU (eX (jk K)))))),fun s1 gi=>?_⟩;rw[Wx]at gi;exact .norm gi
   . have h:=I _ (aq.2 rfl);dsimp only at h;have:Int.ofNat ((s.length+(k+1))%64)=56:=by simpa using h
     exact absurd (Int.ofNat.inj this) (ER k hk)
 . refine fO HM (agK s (iA s)) fun g hg I=>?_;rcases iU hg with rfl|rfl
   . have h:=I _ (aq.2 rfl);dsimp only at h;rw[hzm]at h;exact absurd h dU
   refine⟨fm ((ha _ (aA _)).1) (eX ((ha _ (aA _)).2)),fun s1 gi=>⟨by simp,?_⟩⟩;rw[dV];refine c6 gi ?_;show TG _ _ _ (dh 5 EE) _ _;refine cZ U ?_;refine fO HM (aoF s (iA s)) (dG ?_);have G:IntKind.u64.wrap ((8:Int)*IntKind.u64.wrap (Int.ofNat s.length))=Int.ofNat (s.length*8):=by
    show(8*(Int.ofNat s.length%18446744073709551616))%18446744073709551616=_;rw[kr,kr];omega
   have aoK:s++eT (List.take (iA s+1) (List.drop 0 (zs (iA s))))++vO (IntKind.u64.wrap ((8:Int)*IntKind.u64.wrap (Int.ofNat s.length)))=zH s:=by
    rw[SO,G,agG _ dm dm];rfl
   have Og:(eT (List.take (iA s+1) (List.drop 0 (zs (iA s))))).length=iA s+1:=by rw[SO,aS,bM]
   have HI:∀x,(vO x).length=8:=fun _=>rfl;refine⟨fm (by rw[DM];omega) (fm (by rw[Og];omega) (fm (by rw[DM];omega) (eX (by rw[ax,Og,HI];omega)))),fun s2 jr=>?_⟩;rw[aoK]at jr;refine c6 jr ?_;have hml:=Jo s;have qW:=Ww s;have hmb:(zH s).length<=2000000000:=by
    unfold zH;rw[ax,ax,aS,bM];have:(mD (Int.ofNat (s.length*8))).length=8:=rfl;omega
   obtain⟨n,hn⟩:∃n,(zH s).length=64*n:=⟨(zH s).length/64,K⟩;rw[hn,show 64*n/64=n by omega]at qW;generalize zH s=m at hn qW hmb ⊢;show TG _ _ _ (dh 6 EE) _ _;refine cZ U ?_;refine cZ U ?_;refine fO HM (aoG qS m) (dG ?_);refine⟨cT,fun s3 yq=>?_⟩;refine jx 2 n (fun i=>Y4 (jT gR m (K2 gS) i) m [(7,iW (64*i))]) U U (.norm yq) (fun i hi=>?_) ?_
   . refine fO HM (agL (jT gR m (K2 gS) i) m i) fun g hg I=>?_;rcases iU hg with rfl|rfl
     . refine⟨fm (nL dm K) (fm (⟨az _,dm⟩) (fm (⟨az _,dm⟩) (fm (by rw[bV,aZ];omega) (fm (rfl) (eX (nL dm K)))))),fun s4 Jn=>.norm Jn⟩
     . exact absurd (aJ (I _ (aq.2 rfl))) dm
   . refine fO HM (agL (jT gR m (K2 gS) n) m n) fun g hg I=>?_;rcases iU hg with rfl|rfl
     . exact absurd (aE (I _ (aq.2 rfl))) dm
     refine⟨cT,fun s4 Jn=>⟨by simp,?_⟩⟩;rw[dV];refine c6 Jn ?_;refine fh HM (aoH (jT gR m (K2 gS) n) m n) (dG ?_);refine⟨?_,_,_,_,rfl,?_⟩
     . repeat' (first|exact cT|refine iI ?_ ?_)
       all_goals first|exact⟨dU,dU⟩|exact au rfl
     . rw[<- qW];unfold Rm;simp only[abR,gk,ck]
end
def LR:ag->Option (ah×V)
 | [.str s]=>some ([s.length<=1000000000],.str (Ex s))
 |_=>none
theorem abS:jv ak 116 (jS LR):=by
 refine kj (au U) fun args cS v e=>?_;unfold LR at e;split at e
 . obtain⟨rfl,rfl⟩:=fg e;exact⟨rfl,U,fun hA=>ic mo po Tryz.func116 U U rfl (aoJ _ (hA _ (by simp)))⟩
 . cases e
noncomputable abbrev W21:jQ:=jD 116 (jS LR) W20
theorem SP:gl ak W21:=e9 abS SI
noncomputable abbrev Wy:fb:=gP ak W21 H0 1000 40
noncomputable abbrev X21:CX ak:=CX.of mo po SP H0 1000 40
noncomputable abbrev SQ:Code:=dN Tryz.f117
noncomputable abbrev aoM:Code:=dz (dz (dY (dP (dh 2 SQ))))
section
variable(f:Bool)(ps:List (L))(gy:L)(i:Nat)
def sPi:St:=eG [(0,.dS f ps.length (strs ps)),(3,.str gy),(4,iW i)] (J []) 3
theorem aoN:c9 Wy [] 3 Tryz.f117 [0,3] (eV 2 SQ) (cU [.dS f ps.length (strs ps)] .nil 3) [([],
   [],
   .to .normal (eG [(0,.dS f ps.length (strs ps)),(3,.str [])] (J []) 3))]
 :=cR.of U U U
theorem aoO:c9 Wy [] 3 Tryz.f117 [0,3,4] (dP (dP (dh 2 SQ))) (eG [(0,.dS f ps.length (strs ps)),(3,.str [])] (J []) 3) [([],
   [],
   .to .normal (sPi f ps [] 0))]
 :=cR.of U U U
theorem agO(p:L)(i:Nat):c9 Wy [(8,.split),(14,.di (.dx [.str p])),(22,.di (.dx [.str p])),(10,.di (iW (i+1)))] 3 Tryz.f117 [0,3,4] (aoM) (sPi f ps gy i) [([((decide (Int.ofNat i<(Int.ofNat ps.length))),true)],
   [((0:Int)<=Int.ofNat i/\Int.ofNat i<(Int.ofNat ps.length)),((strs ps).length=ps.length*1),(V.dx (dF (strs ps) (i*1) 1)=V.dx [rs.str p]),(gy.length+(vO (IntKind.u64.wrap (Int.ofNat p.length))).length<=9223372036854775807),((0:Int)<=Int.ofNat i/\Int.ofNat i<(Int.ofNat ps.length)),((strs ps).length=ps.length*1),(V.dx (dF (strs ps) (i*1) 1)=V.dx [rs.str p]),((gy++vO (IntKind.u64.wrap (Int.ofNat p.length))).length+p.length<=9223372036854775807),(V.int aj (IntKind.i64.wrap (Int.ofNat i+(1:Int)))=iW (i+1))],
   .to .normal (eG [(0,.dS f (ps.length) (strs ps)),(3,.str (gy++vO (IntKind.u64.wrap (Int.ofNat p.length))++p)),(4,.int .i64 (Int.ofNat (i+1)))] (J []) 3)),
  ([((decide (Int.ofNat i<(Int.ofNat ps.length))),false)],
   [],
   .to (.exit 0) (eG [(0,.dS f (ps.length) (strs ps)),(3,.str gy),(4,.int .i64 (Int.ofNat i))] (J []) 3))]
 :=cR.of U U U
theorem aoP:c9 Wy [] 3 Tryz.f117 [] (dY (dh 2 SQ)) (sPi f ps gy i) [([],
   [],
   .ret (.str gy) (J []) 3)]
 :=cR.of U U U
end
theorem LU{ps:List (L)}{i:Nat}(h:i<ps.length):eI (ps.take (i+1))=eI (ps.take i)++mD (Int.ofNat (ps[i]).length)++ps[i]:=by
 unfold eI;rw[bG,ay h,cE,List.flatMap_append,List.flatMap_singleton,bB]
theorem O5(ps:List (L))(i:Nat):(eI (ps.take i)).length<=(eI ps).length:=by
 conv=>rhs;rw[<- cn i ps]
 unfold eI;rw[List.flatMap_append,ax];omega
theorem aoQ(f:Bool)(ps:List (L))(hp:ps.length<=1000000)(hj:(eI ps).length<=1000000000):TG ak 3 Tryz.f117.ntmps SQ (cU [.dS f ps.length (strs ps)] .nil 3) (fJ ak 3 Tryz.f117 fun u _ _=>u= .str (eI ps)):=by
 refine iF  2 X21 (aoN f ps) cT ?_;refine cZ U ?_;refine cZ U ?_;refine fO X21 (aoO f ps) (dG ?_);refine⟨cT,fun s' dO=>?_⟩;refine jx 0 ps.length (fun i=>sPi f ps (eI (ps.take i)) i) U U (.norm dO) (fun i hi=>?_) ?_
 . have hn:=LU hi;have N:=O5 ps (i+1);have jZ:=aN V.dx (fM (ay hi));have G:IntKind.u64.wrap (Int.ofNat ps[i].length)=Int.ofNat ps[i].length:=by
    have:ps[i].length<=1000000000:=by rw[hn,ax]at N;omega
    show Int.ofNat ps[i].length%18446744073709551616=_;rw[kr];omega
   have hlp:ps[i].length<=1000000000:=by rw[hn,ax]at N;omega
   refine fO X21 (agO f ps (eI (ps.take i)) ps[i] i) fun g hg I=>?_;have h8:∀x,(vO x).length=8:=fun _=>rfl;have h8':(mD (Int.ofNat ps[i].length)).length=8:=rfl;rcases iU hg with rfl|rfl
   . rw[hn,ax,ax]at N;refine⟨fm (⟨az _,dm⟩) (fm (by rw[eN];omega) (fm (jZ) (fm (by rw[h8];omega) (fm (⟨az _,dm⟩) (fm (by rw[eN];omega) (fm (jZ) (fm (by rw[ax,h8];omega) (eX (nL dm K))))))))),fun s1 gi=>?_⟩;rw[G,agG _ dm dm]at gi;show gF _ _ _ _ (sPi f ps (eI (ps.take (i+1))) (i+1));rw[hn];exact .norm gi
   . exact absurd (aJ (I _ (aq.2 rfl))) dm
 . refine fO X21 (agO f ps (eI (ps.take ps.length)) [] ps.length) fun g hg I=>?_;rcases iU hg with rfl|rfl
   . exact absurd (aE (I _ (aq.2 rfl))) dm
   refine⟨cT,fun s1 gi=>⟨by simp,?_⟩⟩;rw[dV];refine c6 gi ?_;refine fh X21 (aoP f ps (eI (ps.take ps.length)) ps.length) (dG ?_);exact⟨cT,_,_,_,rfl,by rw[aU]⟩
def LV:ai->Option (ah×V)
 | [.dS n C]=>some ([C=strs (dy C),n=(dy C).length,n<=1000000,(eI (dy C)).length<=1000000000],.str (eI (dy C)))
 |_=>none
theorem abT:jv ak 117 (Go.Eng.dW LV):=by
 refine vE (au U) fun args cS v e hA=>?_;unfold LV at e;split at e
 case h_2=>cases e
 rename_i n C;simp only[an,aB]at e;obtain⟨rfl,rfl⟩:=e;have e1:C=strs (dy C):=hA _ (by simp);have e2:n=(dy C).length:=hA (n=(dy C).length) (by simp);have e3:n<=1000000:=hA (n<=1000000) (by simp);have e4:(eI (dy C)).length<=1000000000:=hA ((eI (dy C)).length<=1000000000) (by simp);generalize dy C=ps at *;subst e1 e2;exact ig mo po Tryz.func117 U U rfl rfl (fA (aoQ false ps e3 e4) fun y s h=>ko h)
noncomputable abbrev W22:jQ:=jD 117 (Go.Eng.dW LV) W21
theorem SR:gl ak W22:=e9 abT SP
noncomputable abbrev Wz:fb:=gP ak W22 H0 1000 40
noncomputable abbrev X22:CX ak:=CX.of mo po SR H0 1000 40
noncomputable abbrev O6:Code:=dN Tryz.f69
noncomputable abbrev aoS:Code:=dz (dz (dY (dP (dh 2 O6))))
section
variable(D ds:List (L))(i:Nat)
def sDi:St:=eG [(1,.dS false D.length (strs D)),(5,.dj (some (3,0)) ds.length ds.length 1),(6,iW i)] (J [(3,.deep (strs ds))]) 4
theorem aoT(ps:List (L)):c9 Wz [] 3 Tryz.f92 [] (dN Tryz.f92) (cU [.dS false ps.length (strs ps)] .nil 3) [([],
   [(strs ps=strs (dy (strs ps))),(ps.length=(dy (strs ps)).length),(ps.length<=1000000),((eI (dy (strs ps))).length<=1000000000),((eI (dy (strs ps))).length<=1000000000)],
   .ret (.str (Ex (eI (dy (strs ps))))) (J []) 3)]
 :=cR.of U U U
theorem aoU(d:L)(D:List (L)):c9 Wz [] 3 Tryz.f69 [1,5] (eV 2 O6) (cU [.str d,.dS false D.length (strs D)] .nil 3) [([],
   [],
   .to .normal (eG [(1,.dS false (D.length) (strs D)),(5,.dj (some (3,0)) 1 1 1)] (J [(3,.cells [.str d])]) 4))]
 :=cR.of U U U
theorem aoV:c9 Wz [] 3 Tryz.f69 [1,5,6] (dP (dP (dh 2 O6))) (eG [(1,.dS false D.length (strs D)),(5,.dj (some (3,0)) ds.length ds.length 1)] (J [(3,.deep (strs ds))]) 4) [([],
   [],
   .to .normal (sDi D ds 0))]
 :=cR.of U U U
theorem agR(p:L):c9 Wz [(12,.split),(18,.di (.dx [.str p])),(14,.di (iW (i+1)))] 3 Tryz.f69 [1,5,6] (aoS) (sDi D ds i) [([((decide (Int.ofNat i<(Int.ofNat D.length))),true)],
   [((0:Int)<=Int.ofNat i/\Int.ofNat i<(Int.ofNat D.length)),((strs D).length=D.length*1),(V.dx (dF (strs D) (i*1) 1)=V.dx [rs.str p]),(0+ds.length*1<=(strs ds).length),(0<1),(eU (ds.length+1) 1 16=true),(V.int aj (IntKind.i64.wrap (Int.ofNat i+(1:Int)))=iW (i+1))],
   .to .normal (eG [(1,.dS false (D.length) (strs D)),(5,.dj (some (3,0)) (ds.length+1) (ds.length+1) 1),(6,.int .i64 (Int.ofNat (i+1)))] (J [(3,.deep (List.take (ds.length*1) (List.drop 0 (strs ds))++[rs.str p]))]) 4)),
  ([((decide (Int.ofNat i<(Int.ofNat D.length))),false)],
   [],
   .to (.exit 0) (eG [(1,.dS false (D.length) (strs D)),(5,.dj (some (3,0)) (ds.length) (ds.length) 1),(6,.int .i64 (Int.ofNat i))] (J [(3,.deep (strs ds))]) 4))]
 :=cR.of U U U
end
def LW:ai->Option (ah×V)
 | [.dS n C]=>some ([C=strs (dy C),n=(dy C).length,n<=1000000,(eI (dy C)).length<=1000000000],.str (Ex (eI (dy C))))
 |_=>none
theorem abU:jv ak 92 (Go.Eng.dW LW):=by
 refine vE (au U) fun args cS v e hA=>?_;unfold LW at e;split at e
 case h_2=>cases e
 rename_i n C;simp only[an,aB]at e;obtain⟨rfl,rfl⟩:=e;have e1:C=strs (dy C):=hA _ (by simp);have e2:n=(dy C).length:=hA (n=(dy C).length) (by simp);have e3:n<=1000000:=hA (n<=1000000) (by simp);have e4:(eI (dy C)).length<=1000000000:=hA ((eI (dy C)).length<=1000000000) (by simp);generalize dy C=ps at *;subst e1 e2;refine ig mo po Tryz.func92 (code:=dN Tryz.f92) U U rfl rfl (fA (Q1:=fJ ak 3 Tryz.f92 fun u _ _=>u= .str (Ex (eI ps))) ?_ fun y s h=>ko h);obtain⟨aa,hr⟩:=aoT ps;simp only[fR]at hr;refine gA X22 mo _ U hr (dG ?_);exact⟨fm trivial (fm trivial (fm e3 (fm e4 (eX e4)))),_,_,_,rfl,rfl⟩
noncomputable abbrev W23:jQ:=jD 92 (Go.Eng.dW LW) W22
theorem SS:gl ak W23:=e9 abU SR
noncomputable abbrev aoX:fb:=gP ak W23 H0 1000 40
noncomputable abbrev X23:CX ak:=CX.of mo po SS H0 1000 40
theorem aoY(ds:List (L)):c9 aoX [] 3 Tryz.f69 [] (dY (dh 2 O6)) (eG [(5,.dS false ds.length (strs ds))] (J []) 3) [([],
   [(strs ds=strs (dy (strs ds))),(ds.length=(dy (strs ds)).length),(ds.length<=1000000),((eI (dy (strs ds))).length<=1000000000)],
   .ret (.str (Ex (eI (dy (strs ds))))) (J []) 3)]
 :=cR.of U U U
theorem aoZ(d:L)(D:List (L))(BQ:D.length<=100000)(hj:(eI (d::D)).length<=1000000000):TG ak 3 Tryz.f69.ntmps O6 (cU [.str d,.dS false D.length (strs D)] .nil 3) (fJ ak 3 Tryz.f69 fun u _ _=>u= .str (dw d D)):=by
 refine iF  2 X22 (aoU d D) cT ?_;refine(gF.deep [3] (fr:=eG [(1,.dS false D.length (strs D)),(5,.dj (some (3,0)) [d].length [d].length 1)] (J [(3,.deep (strs [d]))]) 4) U) _ _ ?_;show TG _ _ _ (dh 2 O6) _ _;refine cZ U ?_;refine cZ U ?_;refine fO X22 (aoV D [d]) (dG ?_);refine⟨cT,fun s' dO=>?_⟩;refine jx 0 D.length (fun i=>sDi D (d::D.take i) i) U U (.norm dO) (fun i hi=>?_) ?_
 . have jZ:=aN V.dx (fM (ay hi));have hl:(d::D.take i).length=i+1:=by rw[aS,aZ];omega
   have hn:d::D.take (i+1)=(d::D.take i)++[D[i]]:=by
    rw[bG,ay hi,cE];rfl
   show TG _ _ _ _ _ (andThen (fun s'=>gF ak 3 Tryz.f69.ntmps s' (sDi D (d::D.take (i+1)) (i+1))) _);rw[hn];generalize d::D.take i=ds at hl ⊢;refine fO X22 (agR D ds i D[i]) fun g hg I=>?_;rcases iU hg with rfl|rfl
   . refine⟨fm (⟨az _,dm⟩) (fm (by rw[eN];omega) (fm (jZ) (fm (by rw[eN];omega) (fm dU (fm (lZ K) (eX (nL dm K))))))),fun s1 gi=>?_⟩;have e:List.take (ds.length*1) (List.drop 0 (strs ds))++[rs.str D[i]]=strs (ds++[D[i]]):=by
      rw[bn,bk,bq (by rw[eN];omega),DH];rfl
     rw[e]at gi;unfold sDi;rw[ax];exact .norm gi
   . exact absurd (aJ (I _ (aq.2 rfl))) dm
 . refine fO X22 (agR D (d::D.take D.length) D.length []) fun g hg I=>?_;rcases iU hg with rfl|rfl
   . exact absurd (aE (I _ (aq.2 rfl))) dm
   refine⟨cT,fun s1 gi=>⟨by simp,?_⟩⟩;rw[dV];rw[aU]at gi;have hdl:(d::D).length<=1000000:=by rw[aS];omega
   show TG _ _ _ _ _ (fJ ak 3 Tryz.f69 fun u _ _=>u= .str (Ex (eI (d::D))));generalize d::D=ds at gi hdl hj ⊢;refine((gF.norm gi).trans (.norm (live:=[5]) (fr:=eG [(5,.dj (some (3,0)) ds.length ds.length 1)] (J [(3,.deep (strs ds))]) 4) U)) _ _ ?_;refine tV [3] (cS:=[(strs ds).length=ds.length*1]) (s2:=eG [(5,.dS false ds.length (strs ds))] ((J [(3,.deep (strs ds))]).set 3 none) 4) U (eX (by rw[eN,bk])) ?_;refine c6 (live:=[5]) (s2:=eG [(5,.dS false ds.length (strs ds))] (J []) 3) U ?_;obtain⟨L4,HK⟩:=aoY ds;simp only[fR]at HK;refine gA X23 mo _ U HK (dG ?_);exact⟨fm trivial (fm trivial (fm hdl (eX hj))),_,_,_,rfl,rfl⟩
def Hr:ai->Option (ah×V)
 | [.str d,.dS n C]=>some ([C=strs (dy C),n=(dy C).length,n<=100000,(eI (d::dy C)).length<=1000000000],.str (dw d (dy C)))
 |_=>none
theorem LX:jv ak 69 (Go.Eng.dW Hr):=by
 refine vE (au U) fun args cS v e hA=>?_;unfold Hr at e;split at e
 case h_2=>cases e
 rename_i d n C;simp only[an,aB]at e;obtain⟨rfl,rfl⟩:=e;have e1:C=strs (dy C):=hA _ (by simp);have e2:n=(dy C).length:=hA (n=(dy C).length) (by simp);have e3:n<=100000:=hA (n<=100000) (by simp);have e4:(eI (d::dy C)).length<=1000000000:=hA ((eI (d::dy C)).length<=1000000000) (by simp);generalize dy C=ps at *;subst e1 e2;exact ig mo po Tryz.func69 U U rfl rfl (fA (aoZ d ps e3 e4) fun y s h=>ko h)
def fo:ai->List gq
 | .str a:: .str b:: .dS _ C::r=>⟨a,b,dy C⟩::fo r
 |_=>[]
def lQ:ai->List (L×L)
 | .str a:: .str b::r=>(a,b)::lQ r
 |_=>[]
theorem iM:∀l:List gq,fo (eL l)=l
 | []=>rfl
 |c::l=>by
  show gq.mk c.dg c.da (dy (strs c.D))::fo (eL l)=_;rw[fR,iM l]
theorem pT:∀l:List (L×L),lQ (eR l)=l
 | []=>rfl
 |p::l=>by
  show(p.1,p.2)::lQ (eR l)=_;rw[pT l]
abbrev Jp(n:Nat)(C:ai)(m:Nat)(D:ai):ah:=[C=eL (fo C),n=(fo C).length,D=eR (lQ D),m=(lQ D).length,n<=1000000,m<=1000000]
def LY:ai->Option (ah×V)
 | [.agg [.dS n C,.dS m D],.str x]=>some (Jp n C m D,.int .i64 (fk (fo C) x))
 |_=>none
def LZ:ai->Option (ah×V)
 | [.agg [.dS n C,.dS m D],.str x]=>some (Jp n C m D,.str (gX x (lQ D)))
 |_=>none
theorem ug{n m:Nat}{C D:ai}(h:∀a∈Jp n C m D,a):∃s:RS,C=eL s.C/\n=s.C.length/\D=eR s.ro/\m=s.ro.length/\s.C.length<=1000000/\s.ro.length<=1000000/\fo C=s.C/\lQ D=s.ro:=by
 have N:=h (C=eL (fo C)) (by simp);have B:=h (n=(fo C).length) (by simp);have h3:=h (D=eR (lQ D)) (by simp);have h4:=h (m=(lQ D).length) (by simp);have h5:=h (n<=1000000) (by simp);have h6:=h (m<=1000000) (by simp);exact⟨⟨fo C,lQ D⟩,N,B,h3,h4,by show(fo C).length<=_;omega,by show(lQ D).length<=_;omega,rfl,rfl⟩
theorem abV:jv ak 70 (Go.Eng.dW LY):=by
 refine vE (au U) fun args cS v e hA=>?_;unfold LY at e;split at e
 case h_2=>cases e
 rename_i n C m D x;simp only[an,aB]at e;obtain⟨rfl,rfl⟩:=e;obtain⟨s,N,B,h3,h4,h5,h6,h7,h8⟩:=ug hA;rw[h7];clear h7 h8 hA;subst N B h3 h4;exact ig mo po Tryz.func70 U U rfl rfl (fA (aoC s x h5) fun y s h=>ko h)
theorem abW:jv ak 115 (Go.Eng.dW LZ):=by
 refine vE (au U) fun args cS v e hA=>?_;unfold LZ at e;split at e
 case h_2=>cases e
 rename_i n C m D x;simp only[an,aB]at e;obtain⟨rfl,rfl⟩:=e;obtain⟨s,N,B,h3,h4,h5,h6,h7,h8⟩:=ug hA;rw[h8];clear h7 h8 hA;subst N B h3 h4;exact ig mo po Tryz.func115 U U rfl rfl (fA (aoD s x h6) fun y s h=>ko h)
noncomputable abbrev W24:jQ:=jD 115 (Go.Eng.dW LZ) (jD 70 (Go.Eng.dW LY) (jD 69 (Go.Eng.dW Hr) W23))
theorem SU:gl ak W24:=e9 abW (e9 abV (e9 LX SS))
noncomputable abbrev uE:fb:=gP ak W24 H0 1000 40
noncomputable abbrev Eh:CX ak:=CX.of mo po SU H0 1000 40
noncomputable abbrev pA:Code:=dN Tryz.f37
section
variable(s:RS)(d:L)(D:List (L))
abbrev ni(D:List (L)):V:=.dS false D.length (strs D)
def Ng(r:List (Nat×V)):St:=eG ([(1,.str d),(2,ni D),(3,.ptr (some (3,0))),(6,.ptr (some (4,0)))]++r) (J [(3,bx s),(4,.cells [.dj none 0 0 0,.dj none 0 0 0,.str [],.int .i64 0,.bool false])]) 5
end
section
variable(s:RS)
theorem ao1(d:L)(D:List (L)):c9 uE [(13,.di (.bool false)),(17,.di (.bool false))] 3 Tryz.f37 [1,2,3,6] (eV 2 pA) (cU [s.v,.str d,ni D] .nil 3) [([],
   [(V.bool (decide ((Int.ofNat d.length)>(65536:Int)))=V.bool false),(V.bool (decide ((Int.ofNat D.length)>(1024:Int)))=V.bool false)],
   .to .normal (Ng s d D []))]
 :=cR.of U U U
noncomputable abbrev ao2:Code:=dz (dz (dY (dP (dh 2 pA))))
noncomputable abbrev ao3:Code:=dz (dz (dY (dP (dh 3 pA))))
theorem ao4(d:L)(D:List (L)):c9 uE [] 3 Tryz.f37 [1,2,3,6,7] (dP (dP (dh 2 pA))) (Ng s d D []) [([],
   [],
   .to .normal (Ng s d D [(7,iW 0)]))]
 :=cR.of U U U
theorem agS(d:L)(D:List (L))(i:Nat)(p:L):c9 uE [(24,.split),(29,.di (.dx [.str p])),(32,.di (.bool false)),(26,.di (iW (i+1)))] 3 Tryz.f37 [1,2,3,6,7] (ao2) (Ng s d D [(7,iW i)]) [([((decide (Int.ofNat i<(Int.ofNat D.length))),true)],
   [((0:Int)<=Int.ofNat i/\Int.ofNat i<(Int.ofNat D.length)),((strs D).length=D.length*1),(V.dx (dF (strs D) (i*1) 1)=V.dx [rs.str p]),(V.bool ((Int.ofNat p.length) !=(32:Int))=V.bool false),(V.int aj (IntKind.i64.wrap (Int.ofNat i+(1:Int)))=iW (i+1))],
   .to .normal (eG [(1,.str d),(2,.dS false (D.length) (strs D)),(3,.ptr (some (3,0))),(6,.ptr (some (4,0))),(7,.int .i64 (Int.ofNat (i+1)))] (J [(3,.cells [.dS false (s.C.length) (eL s.C),.dS false (s.ro.length) (eR s.ro)]),(4,.cells [.dj none 0 0 0,.dj none 0 0 0,.str [],.int .i64 0,.bool false])]) 5)),
  ([((decide (Int.ofNat i<(Int.ofNat D.length))),false)],
   [],
   .to (.exit 0) (eG [(1,.str d),(2,.dS false (D.length) (strs D)),(3,.ptr (some (3,0))),(6,.ptr (some (4,0))),(7,.int .i64 (Int.ofNat i))] (J [(3,.cells [.dS false (s.C.length) (eL s.C),.dS false (s.ro.length) (eR s.ro)]),(4,.cells [.dj none 0 0 0,.dj none 0 0 0,.str [],.int .i64 0,.bool false])]) 5))]
 :=cR.of U U U
theorem ao5(d:L)(D:List (L))(i:Nat):c9 uE [] 3 Tryz.f37 [1,2,3,6,8] (dP (dP (dh 3 pA))) (Ng s d D [(7,iW i)]) [([],
   [],
   .to .normal (Ng s d D [(8,iW 0)]))]
 :=cR.of U U U
theorem agT(d:L)(D:List (L))(i:Nat)(p:L):c9 uE [(38,.split),(44,.di (.dx [.str p])),(47,.split),(40,.di (iW (i+1)))] 3 Tryz.f37 [1,2,3,6,8] (ao3) (Ng s d D [(8,iW i)]) [([((decide (Int.ofNat i<(Int.ofNat D.length))),true),((decide (fk (fo (eL s.C)) p<(0:Int))),true)],
   [((0:Int)<=Int.ofNat i/\Int.ofNat i<(Int.ofNat D.length)),((strs D).length=D.length*1),(V.dx (dF (strs D) (i*1) 1)=V.dx [rs.str p]),(eL s.C=eL (fo (eL s.C))),(s.C.length=(fo (eL s.C)).length),(eR s.ro=eR (lQ (eR s.ro))),(s.ro.length=(lQ (eR s.ro)).length),(s.C.length<=1000000),(s.ro.length<=1000000)],
   .ret (.agg [.dS false (s.C.length) (eL s.C),.dS false (s.ro.length) (eR s.ro),.str [],.int .i64 63,.bool false]) (J []) 3),
  ([((decide (Int.ofNat i<(Int.ofNat D.length))),true),((decide (fk (fo (eL s.C)) p<(0:Int))),false)],
   [((0:Int)<=Int.ofNat i/\Int.ofNat i<(Int.ofNat D.length)),((strs D).length=D.length*1),(V.dx (dF (strs D) (i*1) 1)=V.dx [rs.str p]),(eL s.C=eL (fo (eL s.C))),(s.C.length=(fo (eL s.C)).length),(eR s.ro=eR (lQ (eR s.ro))),(s.ro.length=(lQ (eR s.ro)).length),(s.C.length<=1000000),(s.ro.length<=1000000),(V.int aj (IntKind.i64.wrap (Int.ofNat i+(1:Int)))=iW (i+1))],
   .to .normal (eG [(1,.str d),(2,.dS false (D.length) (strs D)),(3,.ptr (some (3,0))),(6,.ptr (some (4,0))),(8,.int .i64 (Int.ofNat (i+1)))] (J [(3,.cells [.dS false (s.C.length) (eL s.C),.dS false (s.ro.length) (eR s.ro)]),(4,.cells [.dj none 0 0 0,.dj none 0 0 0,.str [],.int .i64 0,.bool false])]) 5)),
  ([((decide (Int.ofNat i<(Int.ofNat D.length))),false)],
   [],
   .to (.exit 2) (eG [(1,.str d),(2,.dS false (D.length) (strs D)),(3,.ptr (some (3,0))),(6,.ptr (some (4,0))),(8,.int .i64 (Int.ofNat i))] (J [(3,.cells [.dS false (s.C.length) (eL s.C),.dS false (s.ro.length) (eR s.ro)]),(4,.cells [.dj none 0 0 0,.dj none 0 0 0,.str [],.int .i64 0,.bool false])]) 5))]
 :=cR.of U U U
theorem ao6(d:L)(D:List (L))(i:Nat):c9 uE [] 3 Tryz.f37 [1,2,3,6,9] (dP (dh 4 pA)) (Ng s d D [(8,iW i)]) [([],
   [(strs D=strs (dy (strs D))),(D.length=(dy (strs D)).length),(D.length<=100000),((eI (d::dy (strs D))).length<=1000000000)],
   .to .normal (eG [(1,.str d),(2,.dS false (D.length) (strs D)),(3,.ptr (some (3,0))),(6,.ptr (some (4,0))),(9,.str (dw d (dy (strs D))))] (J [(3,.cells [.dS false (s.C.length) (eL s.C),.dS false (s.ro.length) (eR s.ro)]),(4,.cells [.dj none 0 0 0,.dj none 0 0 0,.str [],.int .i64 0,.bool false])]) 5))]
 :=cR.of U U U
theorem ao7(d:L)(D:List (L))(x:L):c9 uE [(56,.split)] 3 Tryz.f37 [1,2,3,6,9] (dP (dh 5 pA)) (Ng s d D [(9,.str x)]) [([((decide (fk (fo (eL s.C)) x>=(0:Int))),true)],
   [(eL s.C=eL (fo (eL s.C))),(s.C.length=(fo (eL s.C)).length),(eR s.ro=eR (lQ (eR s.ro))),(s.ro.length=(lQ (eR s.ro)).length),(s.C.length<=1000000),(s.ro.length<=1000000)],
   .ret (.agg [.dS false (s.C.length) (eL s.C),.dS false (s.ro.length) (eR s.ro),.str x,.int .i64 0,.bool false]) (J []) 3),
  ([((decide (fk (fo (eL s.C)) x>=(0:Int))),false)],
   [(eL s.C=eL (fo (eL s.C))),(s.C.length=(fo (eL s.C)).length),(eR s.ro=eR (lQ (eR s.ro))),(s.ro.length=(lQ (eR s.ro)).length),(s.C.length<=1000000),(s.ro.length<=1000000)],
   .to .normal (eG [(1,.str d),(2,.dS false (D.length) (strs D)),(3,.ptr (some (3,0))),(6,.ptr (some (4,0))),(9,.str x)] (J [(3,.cells [.dS false (s.C.length) (eL s.C),.dS false (s.ro.length) (eR s.ro)]),(4,.cells [.dj none 0 0 0,.dj none 0 0 0,.str [],.int .i64 0,.bool false])]) 5))]
 :=cR.of U U U
theorem ao8(d:L)(D:List (L))(x:L):c9 uE [] 3 Tryz.f37 [3,6,9,10] (dP (dh 6 pA)) (Ng s d D [(9,.str x)]) [([],
   [((strs D).length=D.length*1),(eU (0+D.length) 1 16=true)],
   .to .normal (eG [(3,.ptr (some (3,0))),(6,.ptr (some (4,0))),(9,.str x),(10,.ptr (some (5,0)))] (J [(3,.cells [.dS false (s.C.length) (eL s.C),.dS false (s.ro.length) (eR s.ro)]),(4,.cells [.dj none 0 0 0,.dj none 0 0 0,.str [],.int .i64 0,.bool false]),(5,.cells [.str x,.str d,.dj (some (6,0)) (0+D.length) (0+D.length) 1]),(6,.deep ([]++strs D))]) 7))]
 :=cR.of U U U
def sPq(c:gq):St:=eG [(3,.ptr (some (3,0))),(6,.ptr (some (4,0))),(9,.str c.dg),(10,.ptr (some (5,0)))] (J [(3,bx s),(4,.cells [.dj none 0 0 0,.dj none 0 0 0,.str [],.int .i64 0,.bool false]),(5,.cells [.str c.dg,.str c.da,.dS false c.D.length (strs c.D)])]) 6
theorem ao9(c:gq):c9 uE [] 3 Tryz.f37 [] (dh 7 pA) (sPq s c) [([],
   [((eL s.C).length=s.C.length*3),(eU (0+s.C.length) 3 56=true),(0+(0+s.C.length)*3<=([]++eL s.C).length),(0<1),(eU (0+s.C.length+1) 3 56=true)],
   .ret (.agg [.dj (some (3,0)) (0+s.C.length+1) (0+s.C.length+1) 3,.dS false (s.ro.length) (eR s.ro),.str (c.dg),.int .i64 0,.bool true]) (J [(3,.deep (List.take ((0+s.C.length)*3) (List.drop 0 ([]++eL s.C))++[rs.str c.dg,rs.str c.da,rs.dS c.D.length (strs c.D)]))]) 4)]
 :=cR.of U U U
end
structure RR where
 s:RS
 dg:L
 er:Int
 ch:Bool
def RR.v(r:RR):V:=.agg [.dS false r.s.C.length (eL r.s.C),.dS false r.s.ro.length (eR r.s.ro),.str r.dg,.int .i64 r.er,.bool r.ch]
def ij(s:RS)(d:L)(D:List (L)):RR:=
 if ∃r∈D,fk s.C r<0 then⟨s,[],63,false⟩
 else if 0<=fk s.C (dw d D)then⟨s,dw d D,0,false⟩
 else⟨⟨s.C++[⟨dw d D,d,D⟩],s.ro⟩,dw d D,0,true⟩
theorem Hs(a b:List gq):eL (a++b)=eL a++eL b:=by unfold eL;rw[aY,cz]
theorem vQ{k:Nat}(h:k<=1000000):eU k 3 56=true:=by
 unfold eU;exact bQ ⟨K,K⟩
section
variable(s:RS)(d:L)(D:List (L))
abbrev okS(s:RS):ah:=[eL s.C=eL (fo (eL s.C)),s.C.length=(fo (eL s.C)).length,eR s.ro=eR (lQ (eR s.ro)),s.ro.length=(lQ (eR s.ro)).length,s.C.length<=1000000,s.ro.length<=1000000]
theorem AL{s:RS}(N:s.C.length<=1000000)(B:s.ro.length<=1000000):∀a∈okS s,a:=by
 have e1:=iM s.C;have e2:=pT s.ro;exact fm (by rw[e1]) (fm (by rw[e1]) (fm (by rw[e2]) (fm (by rw[e2]) (fm N (eX B)))))
theorem jK{a b:ah}(ha:∀x∈a,x)(hb:∀x∈b,x):∀x∈a++b,x:=fun x G=>by
 rcases aW.1 G with h|h
 . exact ha x h
 . exact hb x h
theorem apa(N:s.C.length<=100000)(B:s.ro.length<=1000000)(hd:d.length<=65536)(hn:D.length<=1024)(h32:∀x∈D,x.length=32):
  TG ak 3 Tryz.f37.ntmps pA (cU [s.v,.str d,ni D] .nil 3) (fJ ak 3 Tryz.f37 (nQ (ij s d D).v)):=by
 have iy:=AL (s:=s) K B;have hj:(eI (d::D)).length<=1000000000:=by
  have:=hU d D h32;omega
 refine iF  2 Eh (ao1 s d D) (fm (aN V.bool (bC dm)) (eX (aN V.bool (bC dm)))) ?_;show TG _ _ _ (dh 2 pA) _ _;refine cZ U ?_;refine cZ U ?_;obtain⟨L2,Ee⟩:=ao4 s d D;refine gC Eh mo l9 U Ee (dG ?_);refine⟨cT,fun s' dO=>?_⟩;refine jx 0 D.length (fun i=>Ng s d D [(7,iW i)]) U U (.norm dO) (fun i hi=>?_) ?_
 . have jZ:=aN V.dx (fM (ay hi));refine fO Eh (agS s d D i D[i]) fun g hg I=>?_;rcases iU hg with rfl|rfl
   . have h3:=h32 D[i] (b7 hi);exact⟨fm (⟨az _,dm⟩) (fm (by rw[eN];omega) (fm (jZ) (fm (by rw[h3];rfl) (eX (nL dm K))))),fun s1 gi=>.norm gi⟩
   . exact absurd (aJ (I _ (aq.2 rfl))) dm
 refine fO Eh (agS s d D D.length []) fun g hg I=>?_;rcases iU hg with rfl|rfl
 . exact absurd (aE (I _ (aq.2 rfl))) dm
 refine⟨cT,fun s1 gi=>⟨by simp,?_⟩⟩;rw[dV];refine c6 gi ?_;show TG _ _ _ (dh 3 pA) _ _;refine cZ U ?_;refine cZ U ?_;refine fO Eh (ao5 s d D D.length) (dG ?_);refine⟨cT,fun s2 jr=>?_⟩;refine iq (α:=Nat) 2 (fun i=>D.length-i) (fun i=>i<=D.length/\∀j,(h:j<D.length)->j<i->¬fk s.C D[j]<0) (fun i=>Ng s d D [(8,iW i)]) U U 0 ⟨aX _,fun j _ h=>by omega⟩ (.norm jr) fun i ⟨hi,hf⟩=>?_;rcases bK i D.length with fI|y6
 . have jZ:=aN V.dx (fM (ay fI));obtain⟨L5,wK⟩:=agT s d D i D[i];refine gC Eh mo (nQ (ij s d D).v) U wK fun g hg I=>?_;rcases w8 hg with rfl|rfl|rfl
   . have h3:=aE (I _ (aK _ (aq.2 rfl)));rw[iM]at h3;refine⟨jK (a:=[_,_,_]) (fm (⟨az _,dm⟩) (fm (by rw[eN];omega) (eX (jZ)))) iy,?_,fun s3 yq=>yq⟩;unfold ij;rw[aH ⟨D[i],b7 fI,h3⟩];exact nQ.self
   . have h3:=aJ (I _ (aK _ (aq.2 rfl)));rw[iM]at h3;refine⟨jK (a:=[_,_,_]) (fm (⟨az _,dm⟩) (fm (by rw[eN];omega) (eX (jZ)))) (jK (a:=okS s) (b:=[_]) iy (eX (nL dm K))),fun s3 yq=>⟨i+1,K,⟨K,fun j hj hji=>?_⟩,.norm yq⟩⟩;rcases bK j i with q|q
     . exact hf j hj q
     . obtain rfl:j=i:=by omega
       exact h3
   . exact absurd (aJ (I _ (aq.2 rfl))) dm
 obtain rfl:i=D.length:=by omega
 obtain⟨L5,wK⟩:=agT s d D D.length [];refine gC Eh mo (nQ (ij s d D).v) U wK fun g hg I=>?_;rcases w8 hg with rfl|rfl|rfl
 . exact absurd (aE (I _ (aP ..))) dm
 . exact absurd (aE (I _ (aP ..))) dm
 refine⟨cT,fun s3 yq=>?_⟩;simp only[andThen,dV];refine c6 yq ?_;have sB:¬∃r∈D,fk s.C r<0:=by
  rintro⟨r,hr,Ee⟩;obtain⟨j,hj,rfl⟩:=List.getElem_of_mem hr;exact hf j hj hj Ee
 show TG _ _ _ (dh 4 pA) _ _;refine cZ U ?_;obtain⟨L6,LF⟩:=ao6 s d D D.length;simp only[fR]at LF;refine gC Eh mo l9 U LF (dG ?_);refine⟨fm trivial (fm trivial (fm K (eX hj))),fun s4 Jn=>c6 Jn ?_⟩;show TG _ _ _ (dh 5 pA) (Ng s d D [(9,.str (dw d D))]) _;refine cZ U ?_;obtain⟨L7,hr7⟩:=ao7 s d D (dw d D);refine gC Eh mo (nQ (ij s d D).v) U hr7 fun g hg I=>?_;rcases iU hg with rfl|rfl
 . have h3:=aE (I _ (aq.2 rfl));rw[iM]at h3;refine⟨iy,?_,fun s5 Uq=>Uq⟩;unfold ij;rw[aI sB,aH h3];exact nQ.self
 have h3:=aJ (I _ (aq.2 rfl));rw[iM]at h3;refine⟨iy,fun s5 Uq=>c6 Uq ?_⟩;show TG _ _ _ (dh 6 pA) (Ng s d D [(9,.str (dw d D))]) _;have hp:ij s d D=⟨⟨s.C++[⟨dw d D,d,D⟩],s.ro⟩,dw d D,0,true⟩:=by unfold ij;rw[aI sB,aI h3]
 rw[hp];refine cZ U ?_;refine fO Eh (ao8 s d D (dw d D)) (dG ?_);refine⟨fm (by rw[eN,bk]) (eX (lZ K)),fun s6 hs6=>?_⟩;rw[bE,ck]at hs6;refine c6 hs6 ?_;generalize dw d D=x;refine tV [6] (cS:=[(strs D).length=D.length*1]) (s2:=eG [(3,.ptr (some (3,0))),(6,.ptr (some (4,0))),(9,.str x),(10,.ptr (some (5,0)))] ((J [(3,bx s),(4,.cells [.dj none 0 0 0,.dj none 0 0 0,.str [],.int .i64 0,.bool false]),(5,.cells [.str x,.str d,.dS false D.length (strs D)]),(6,.deep (strs D))]).set 6 none) 7) U (eX (by rw[eN,bk])) ?_;refine c6 (live:=[3,6,9,10]) (s2:=sPq s ⟨x,d,D⟩) U ?_;refine fh Eh (ao9 s ⟨x,d,D⟩) (dG ?_);have oO:=jy s.C;refine⟨fm (oO) (fm (vQ K) (fm (by rw[ck,oO];omega) (fm dU (eX (vQ K))))),_,_,_,rfl,?_⟩;have e:List.take ((0+s.C.length)*3) (List.drop 0 ([]++eL s.C))++[rs.str x,rs.str d,rs.dS D.length (strs D)]=eL (s.C++[⟨x,d,D⟩]):=by
  rw[ck,bn,bq (by rw[oO];omega),Hs];rfl
 have e2:0+s.C.length+1=(s.C++[gq.mk x d D]).length:=by rw[ax];simp
 rw[e,e2];generalize s.C++[gq.mk x d D]=C;exact⟨[[3]],[(eL C).length=C.length*3],{ S:=H.nil.set 0 (some (RR.v ⟨⟨C,s.ro⟩,x,0,true⟩)),h:=(J [(3,.deep (eL C))]).set 3 none,n:=4,gG:=[] },U,eX (jy _),U⟩
end
noncomputable abbrev zI:Code:=dN Tryz.f90
section
variable(s:RS)(n x:L)
def o76:lf:=.cells [.dj none 0 0 0,.dj none 0 0 0,.str [],.int .i64 0,.bool false]
def sSr(r:List (Nat×V)):St:=eG ([(1,.str n),(2,.str x),(3,.ptr (some (3,0))),(6,.ptr (some (4,0)))]++r) (J [(3,bx s),(4,o76)]) 5
def WA(m:Nat)(o:lf)(dn:Bool)(r:List (Nat×V)):St:=eG ([(1,.str n),(2,.str x),(3,.ptr (some (3,0))),(6,.ptr (some (4,0))),(8,.dj (some (5,0)) m m 2),(9,.bool dn)]++r) (J [(3,bx s),(4,o76),(5,o)]) 6
end
theorem apb(s:RS)(n x:L):c9 uE [] 3 Tryz.f90 [1,2,3,6,7] (eV 2 zI) (cU [s.v,.str n,.str x] .nil 3) [([],
   [(eL s.C=eL (fo (eL s.C))),(s.C.length=(fo (eL s.C)).length),(eR s.ro=eR (lQ (eR s.ro))),(s.ro.length=(lQ (eR s.ro)).length),(s.C.length<=1000000),(s.ro.length<=1000000)],
   .to .normal (eG [(1,.str n),(2,.str x),(3,.ptr (some (3,0))),(6,.ptr (some (4,0))),(7,.str (gX n (lQ (eR s.ro))))] (J [(3,.cells [.dS false (s.C.length) (eL s.C),.dS false (s.ro.length) (eR s.ro)]),(4,.cells [.dj none 0 0 0,.dj none 0 0 0,.str [],.int .i64 0,.bool false])]) 5))]
 :=cR.of U U U
section
variable(s:RS)(n x si:L)(m i:Nat)(C:ai)(dn:Bool)
theorem agW:c9 uE [(16,.di (.bool false)),(20,.di (.bool false)),(26,.di (.bool true)),(31,.split),(37,.di (.bool true)),(40,.split),(46,.di (.bool false)),(53,.split)] 3 Tryz.f90 [1,2,3,6] (dP (dh 2 zI)) (sSr s n x [(7,.str si)]) [([((decide (fk (fo (eL s.C)) x<(0:Int))),true)],
   [(V.bool (eJ n ([]:L))=V.bool false),(V.bool (decide ((Int.ofNat n.length)>(64:Int)))=V.bool false),((V.bool !eJ x ([]:L))=V.bool true),(eL s.C=eL (fo (eL s.C))),(s.C.length=(fo (eL s.C)).length),(eR s.ro=eR (lQ (eR s.ro))),(s.ro.length=(lQ (eR s.ro)).length),(s.C.length<=1000000),(s.ro.length<=1000000)],
   .ret (.agg [.dS false (s.C.length) (eL s.C),.dS false (s.ro.length) (eR s.ro),.str [],.int .i64 62,.bool false]) (J []) 3),
  ([((decide (fk (fo (eL s.C)) x<(0:Int))),false),((eJ si ([]:L)),true),((eJ x si),true)],
   [(V.bool (eJ n ([]:L))=V.bool false),(V.bool (decide ((Int.ofNat n.length)>(64:Int)))=V.bool false),((V.bool !eJ x ([]:L))=V.bool true),(eL s.C=eL (fo (eL s.C))),(s.C.length=(fo (eL s.C)).length),(eR s.ro=eR (lQ (eR s.ro))),(s.ro.length=(lQ (eR s.ro)).length),(s.C.length<=1000000),(s.ro.length<=1000000),((V.bool !eJ x ([]:L))=V.bool true),(V.bool (decide ((Int.ofNat s.ro.length)>=(64:Int)))=V.bool false)],
   .ret (.agg [.dS false (s.C.length) (eL s.C),.dS false (s.ro.length) (eR s.ro),.str [],.int .i64 0,.bool false]) (J []) 3),
  ([((decide (fk (fo (eL s.C)) x<(0:Int))),false),((eJ si ([]:L)),true),((eJ x si),false)],
   [(V.bool (eJ n ([]:L))=V.bool false),(V.bool (decide ((Int.ofNat n.length)>(64:Int)))=V.bool false),((V.bool !eJ x ([]:L))=V.bool true),(eL s.C=eL (fo (eL s.C))),(s.C.length=(fo (eL s.C)).length),(eR s.ro=eR (lQ (eR s.ro))),(s.ro.length=(lQ (eR s.ro)).length),(s.C.length<=1000000),(s.ro.length<=1000000),((V.bool !eJ x ([]:L))=V.bool true),(V.bool (decide ((Int.ofNat s.ro.length)>=(64:Int)))=V.bool false)],
   .to .normal (eG [(1,.str n),(2,.str x),(3,.ptr (some (3,0))),(6,.ptr (some (4,0)))] (J [(3,.cells [.dS false (s.C.length) (eL s.C),.dS false (s.ro.length) (eR s.ro)]),(4,.cells [.dj none 0 0 0,.dj none 0 0 0,.str [],.int .i64 0,.bool false])]) 5)),
  ([((decide (fk (fo (eL s.C)) x<(0:Int))),false),((eJ si ([]:L)),false),((eJ x si),true)],
   [(V.bool (eJ n ([]:L))=V.bool false),(V.bool (decide ((Int.ofNat n.length)>(64:Int)))=V.bool false),((V.bool !eJ x ([]:L))=V.bool true),(eL s.C=eL (fo (eL s.C))),(s.C.length=(fo (eL s.C)).length),(eR s.ro=eR (lQ (eR s.ro))),(s.ro.length=(lQ (eR s.ro)).length),(s.C.length<=1000000),(s.ro.length<=1000000),((V.bool !eJ x ([]:L))=V.bool true)],
   .ret (.agg [.dS false (s.C.length) (eL s.C),.dS false (s.ro.length) (eR s.ro),.str [],.int .i64 0,.bool false]) (J []) 3),
  ([((decide (fk (fo (eL s.C)) x<(0:Int))),false),((eJ si ([]:L)),false),((eJ x si),false)],
   [(V.bool (eJ n ([]:L))=V.bool false),(V.bool (decide ((Int.ofNat n.length)>(64:Int)))=V.bool false),((V.bool !eJ x ([]:L))=V.bool true),(eL s.C=eL (fo (eL s.C))),(s.C.length=(fo (eL s.C)).length),(eR s.ro=eR (lQ (eR s.ro))),(s.ro.length=(lQ (eR s.ro)).length),(s.C.length<=1000000),(s.ro.length<=1000000),((V.bool !eJ x ([]:L))=V.bool true)],
   .to .normal (eG [(1,.str n),(2,.str x),(3,.ptr (some (3,0))),(6,.ptr (some (4,0)))] (J [(3,.cells [.dS false (s.C.length) (eL s.C),.dS false (s.ro.length) (eR s.ro)]),(4,.cells [.dj none 0 0 0,.dj none 0 0 0,.str [],.int .i64 0,.bool false])]) 5))]
 :=cR.of U U U
theorem agX:c9 uE [(16,.di (.bool false)),(20,.di (.bool false)),(53,.split)] 3 Tryz.f90 [1,2,3,6] (dP (dh 2 zI)) (sSr s n [] [(7,.str si)]) [([((eJ [] si),true)],
   [(V.bool (eJ n ([]:L))=V.bool false),(V.bool (decide ((Int.ofNat n.length)>(64:Int)))=V.bool false)],
   .ret (.agg [.dS false (s.C.length) (eL s.C),.dS false (s.ro.length) (eR s.ro),.str [],.int .i64 0,.bool false]) (J []) 3),
  ([((eJ [] si),false)],
   [(V.bool (eJ n ([]:L))=V.bool false),(V.bool (decide ((Int.ofNat n.length)>(64:Int)))=V.bool false)],
   .to .normal (eG [(1,.str n),(2,.str []),(3,.ptr (some (3,0))),(6,.ptr (some (4,0)))] (J [(3,.cells [.dS false (s.C.length) (eL s.C),.dS false (s.ro.length) (eR s.ro)]),(4,.cells [.dj none 0 0 0,.dj none 0 0 0,.str [],.int .i64 0,.bool false])]) 5))]
 :=cR.of U U U
theorem apc:c9 uE [(58,.di (.bool dn))] 3 Tryz.f90 [1,2,3,6,8,9] (eV 2 (dh 3 zI)) (sSr s n x []) [([],
   [(V.bool (eJ x ([]:L))=V.bool dn)],
   .to .normal (eG [(1,.str n),(2,.str x),(3,.ptr (some (3,0))),(6,.ptr (some (4,0))),(8,.dj (some (5,0)) 0 0 2),(9,.bool dn)] (J [(3,.cells [.dS false (s.C.length) (eL s.C),.dS false (s.ro.length) (eR s.ro)]),(4,.cells [.dj none 0 0 0,.dj none 0 0 0,.str [],.int .i64 0,.bool false]),(5,.cells [])]) 6))]
 :=cR.of U U U
theorem apd:c9 uE [] 3 Tryz.f90 [1,2,3,6,8,9,10] (dP (dP (dh 5 zI))) (WA s n x m (.deep C) dn []) [([],
   [],
   .to .normal (WA s n x m (.deep C) dn [(10,iW 0)]))]
 :=cR.of U U U
abbrev Nh:Prop:=V.int aj (IntKind.i64.wrap (Int.ofNat i+(1:Int)))=iW (i+1)
theorem Y5(i:Nat)(p q:L):c9 uE [(63,.split),(87,.di (.dx [.str p,.str q])),(91,.split),(96,.di (.dx [.str p,.str q])),(65,.di (iW (i+1)))] 3 Tryz.f90 [1,2,3,6,8,9,10] (dz (dz (dY (dP (dh 5 zI))))) (WA s n x m (.deep C) true [(10,iW i)]) [([((decide (Int.ofNat i<(Int.ofNat s.ro.length))),true),((!eJ p n),true)],
   [((0:Int)<=Int.ofNat i/\Int.ofNat i<(Int.ofNat s.ro.length)),((eR s.ro).length=s.ro.length*2),(V.dx (dF (eR s.ro) (i*2) 2)=V.dx [rs.str p,rs.str q]),((0:Int)<=Int.ofNat i/\Int.ofNat i<(Int.ofNat s.ro.length)),((eR s.ro).length=s.ro.length*2),(V.dx (dF (eR s.ro) (i*2) 2)=V.dx [rs.str p,rs.str q]),(0+m*2<=C.length),(0<1),(eU (m+1) 2 32=true),Nh i],
   .to .normal (eG [(1,.str n),(2,.str x),(3,.ptr (some (3,0))),(6,.ptr (some (4,0))),(8,.dj (some (5,0)) (m+1) (m+1) 2),(9,.bool true),(10,.int .i64 (Int.ofNat (i+1)))] (J [(3,.cells [.dS false (s.C.length) (eL s.C),.dS false (s.ro.length) (eR s.ro)]),(4,.cells [.dj none 0 0 0,.dj none 0 0 0,.str [],.int .i64 0,.bool false]),(5,.deep (List.take (m*2) (List.drop 0 C)++[rs.str p,rs.str q]))]) 6)),
  ([((decide (Int.ofNat i<(Int.ofNat s.ro.length))),true),((!eJ p n),false)],
   [((0:Int)<=Int.ofNat i/\Int.ofNat i<(Int.ofNat s.ro.length)),((eR s.ro).length=s.ro.length*2),(V.dx (dF (eR s.ro) (i*2) 2)=V.dx [rs.str p,rs.str q]),Nh i],
   .to .normal (eG [(1,.str n),(2,.str x),(3,.ptr (some (3,0))),(6,.ptr (some (4,0))),(8,.dj (some (5,0)) m m 2),(9,.bool true),(10,.int .i64 (Int.ofNat (i+1)))] (J [(3,.cells [.dS false (s.C.length) (eL s.C),.dS false (s.ro.length) (eR s.ro)]),(4,.cells [.dj none 0 0 0,.dj none 0 0 0,.str [],.int .i64 0,.bool false]),(5,.deep C)]) 6)),
  ([((decide (Int.ofNat i<(Int.ofNat s.ro.length))),false)],
   [],
   .to (.exit 1) (eG [(1,.str n),(2,.str x),(3,.ptr (some (3,0))),(6,.ptr (some (4,0))),(8,.dj (some (5,0)) m m 2),(9,.bool true),(10,.int .i64 (Int.ofNat i))] (J [(3,.cells [.dS false (s.C.length) (eL s.C),.dS false (s.ro.length) (eR s.ro)]),(4,.cells [.dj none 0 0 0,.dj none 0 0 0,.str [],.int .i64 0,.bool false]),(5,.deep C)]) 6))]
 :=cR.of U U U
abbrev B8:Prop:=V.int aj (IntKind.i64.wrap (Int.ofNat i+(1:Int)))=iW (i+1)
theorem Y6(i:Nat)(p q:L):c9 uE [(63,.split),(73,.di (.dx [.str p,.str q])),(76,.split),(87,.di (.dx [.str p,.str q])),(91,.split),(96,.di (.dx [.str p,.str q])),(65,.di (iW (i+1)))] 3 Tryz.f90 [1,2,3,6,8,9,10] (dz (dz (dY (dP (dh 5 zI))))) (WA s n x m (.deep C) false [(10,iW i)]) [([((decide (Int.ofNat i<(Int.ofNat s.ro.length))),true),((yx n p),true),((!eJ p n),true)],
   [((0:Int)<=Int.ofNat i/\Int.ofNat i<(Int.ofNat s.ro.length)),((eR s.ro).length=s.ro.length*2),(V.dx (dF (eR s.ro) (i*2) 2)=V.dx [rs.str p,rs.str q]),(0+m*2<=C.length),(0<1),(eU (m+1) 2 32=true),((0:Int)<=Int.ofNat i/\Int.ofNat i<(Int.ofNat s.ro.length)),((eR s.ro).length=s.ro.length*2),(V.dx (dF (eR s.ro) (i*2) 2)=V.dx [rs.str p,rs.str q]),((0:Int)<=Int.ofNat i/\Int.ofNat i<(Int.ofNat s.ro.length)),((eR s.ro).length=s.ro.length*2),(V.dx (dF (eR s.ro) (i*2) 2)=V.dx [rs.str p,rs.str q]),(0+(m+1)*2<=(List.take (m*2) (List.drop 0 C)++[rs.str n,rs.str x]).length),(0<1),(eU (m+1+1) 2 32=true),B8 i],
   .to .normal (eG [(1,.str n),(2,.str x),(3,.ptr (some (3,0))),(6,.ptr (some (4,0))),(8,.dj (some (5,0)) (m+1+1) (m+1+1) 2),(9,.bool true),(10,.int .i64 (Int.ofNat (i+1)))] (J [(3,.cells [.dS false (s.C.length) (eL s.C),.dS false (s.ro.length) (eR s.ro)]),(4,.cells [.dj none 0 0 0,.dj none 0 0 0,.str [],.int .i64 0,.bool false]),(5,.deep (List.take ((m+1)*2) (List.drop 0 (List.take (m*2) (List.drop 0 C)++[rs.str n,rs.str x]))++[rs.str p,rs.str q]))]) 6)),
  ([((decide (Int.ofNat i<(Int.ofNat s.ro.length))),true),((yx n p),true),((!eJ p n),false)],
   [((0:Int)<=Int.ofNat i/\Int.ofNat i<(Int.ofNat s.ro.length)),((eR s.ro).length=s.ro.length*2),(V.dx (dF (eR s.ro) (i*2) 2)=V.dx [rs.str p,rs.str q]),(0+m*2<=C.length),(0<1),(eU (m+1) 2 32=true),((0:Int)<=Int.ofNat i/\Int.ofNat i<(Int.ofNat s.ro.length)),((eR s.ro).length=s.ro.length*2),(V.dx (dF (eR s.ro) (i*2) 2)=V.dx [rs.str p,rs.str q]),B8 i],
   .to .normal (eG [(1,.str n),(2,.str x),(3,.ptr (some (3,0))),(6,.ptr (some (4,0))),(8,.dj (some (5,0)) (m+1) (m+1) 2),(9,.bool true),(10,.int .i64 (Int.ofNat (i+1)))] (J [(3,.cells [.dS false (s.C.length) (eL s.C),.dS false (s.ro.length) (eR s.ro)]),(4,.cells [.dj none 0 0 0,.dj none 0 0 0,.str [],.int .i64 0,.bool false]),(5,.deep (List.take (m*2) (List.drop 0 C)++[rs.str n,rs.str x]))]) 6)),
  ([((decide (Int.ofNat i<(Int.ofNat s.ro.length))),true),((yx n p),false),((!eJ p n),true)],
   [((0:Int)<=Int.ofNat i/\Int.ofNat i<(Int.ofNat s.ro.length)),((eR s.ro).length=s.ro.length*2),(V.dx (dF (eR s.ro) (i*2) 2)=V.dx [rs.str p,rs.str q]),((0:Int)<=Int.ofNat i/\Int.ofNat i<(Int.ofNat s.ro.length)),((eR s.ro).length=s.ro.length*2),(V.dx (dF (eR s.ro) (i*2) 2)=V.dx [rs.str p,rs.str q]),((0:Int)<=Int.ofNat i/\Int.ofNat i<(Int.ofNat s.ro.length)),((eR s.ro).length=s.ro.length*2),(V.dx (dF (eR s.ro) (i*2) 2)=V.dx [rs.str p,rs.str q]),(0+m*2<=C.length),(0<1),(eU (m+1) 2 32=true),B8 i],
   .to .normal (eG [(1,.str n),(2,.str x),(3,.ptr (some (3,0))),(6,.ptr (some (4,0))),(8,.dj (some (5,0)) (m+1) (m+1) 2),(9,.bool false),(10,.int .i64 (Int.ofNat (i+1)))] (J [(3,.cells [.dS false (s.C.length) (eL s.C),.dS false (s.ro.length) (eR s.ro)]),(4,.cells [.dj none 0 0 0,.dj none 0 0 0,.str [],.int .i64 0,.bool false]),(5,.deep (List.take (m*2) (List.drop 0 C)++[rs.str p,rs.str q]))]) 6)),
  ([((decide (Int.ofNat i<(Int.ofNat s.ro.length))),true),((yx n p),false),((!eJ p n),false)],
   [((0:Int)<=Int.ofNat i/\Int.ofNat i<(Int.ofNat s.ro.length)),((eR s.ro).length=s.ro.length*2),(V.dx (dF (eR s.ro) (i*2) 2)=V.dx [rs.str p,rs.str q]),((0:Int)<=Int.ofNat i/\Int.ofNat i<(Int.ofNat s.ro.length)),((eR s.ro).length=s.ro.length*2),(V.dx (dF (eR s.ro) (i*2) 2)=V.dx [rs.str p,rs.str q]),B8 i],
   .to .normal (eG [(1,.str n),(2,.str x),(3,.ptr (some (3,0))),(6,.ptr (some (4,0))),(8,.dj (some (5,0)) m m 2),(9,.bool false),(10,.int .i64 (Int.ofNat (i+1)))] (J [(3,.cells [.dS false (s.C.length) (eL s.C),.dS false (s.ro.length) (eR s.ro)]),(4,.cells [.dj none 0 0 0,.dj none 0 0 0,.str [],.int .i64 0,.bool false]),(5,.deep C)]) 6)),
  ([((decide (Int.ofNat i<(Int.ofNat s.ro.length))),false)],
   [],
   .to (.exit 1) (eG [(1,.str n),(2,.str x),(3,.ptr (some (3,0))),(6,.ptr (some (4,0))),(8,.dj (some (5,0)) m m 2),(9,.bool false),(10,.int .i64 (Int.ofNat i))] (J [(3,.cells [.dS false (s.C.length) (eL s.C),.dS false (s.ro.length) (eR s.ro)]),(4,.cells [.dj none 0 0 0,.dj none 0 0 0,.str [],.int .i64 0,.bool false]),(5,.deep C)]) 6))]
 :=cR.of U U U
theorem agY(i:Nat):c9 uE [] 3 Tryz.f90 [] (dh 6 zI) (WA s n x m (.deep C) true [(10,iW i)]) [([],
   [],
   .ret (.agg [.dS false (s.C.length) (eL s.C),.dj (some (3,0)) m m 2,.str [],.int .i64 0,.bool true]) (J [(3,.deep C)]) 4)]
 :=cR.of U U U
theorem agZ(i:Nat):c9 uE [] 3 Tryz.f90 [] (dh 6 zI) (WA s n x m (.deep C) false [(10,iW i)]) [([],
   [(0+m*2<=C.length),(0<1),(eU (m+1) 2 32=true)],
   .ret (.agg [.dS false (s.C.length) (eL s.C),.dj (some (3,0)) (m+1) (m+1) 2,.str [],.int .i64 0,.bool true]) (J [(3,.deep (List.take (m*2) (List.drop 0 C)++[rs.str n,rs.str x]))]) 4)]
 :=cR.of U U U
end
end Go.Proofs.YtfihojpgobmmdaaGreatDoor
