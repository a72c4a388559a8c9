/- Lemmas on the chunk store. No conditions. -/
import Derived.Test.YtfihojpgobmmdaaGreatDoorJointW11
set_option linter.unusedVariables false
set_option linter.unusedSimpArgs false
set_option linter.unusedSectionVars false
set_option maxRecDepth 20000
namespace Go.Proofs.YtfihojpgobmmdaaGreatDoor
open Go Go.Eng
def w88:V:=.fn (.func 88) [] [.ptr (some (7,0))]
section
variable(T A:Nat)(b:B)(F R D:Int)[eB](C N:ae)
def lK:af:=fM (pS T A b F R D C N)++[(7,.cells [.map (some 6)])]
def lKg:af:=[(0,.ints .u32 gS),(1,.ints .u32 gR),(3,.cells (vW 4 5 6 (pS T A b F R D C N))),(4,.ia 5 false b),(5,.dy none C),(7,.cells [.map (some 6)])]
def sKa:St:=eL [(2,.ptr (some (8,0))),(6,w88)] (K (lK T A b F R D C N++[(8,.cells [.dx none 0 0 0])])) 9
noncomputable def oKa:rs:=.loop true none (sKa T A b F R D C N).S [7] Wc Wd
noncomputable def hK(sl:V)(row:af):H rs:=K (lK T A b F R D C N++[(8,.cells [sl]),(9,.nf),(10,oKa T A b F R D C N)]++row)
noncomputable def SK(sl:V)(row:af)(n:Nat):St:=eL [(0,.fn (.yield 10) [] []),(5,.ptr (some (11,0)))] (K (lKg T A b F R D C N++[(8,.cells [sl]),(9,.nf),(10,oKa T A b F R D C N)]++row)) n
end
abbrev P(m:Nat):V:=.ptr (some (m,0))
section
variable(T A:Nat)(b:B)(F R D:Int)
theorem aoa[eB](C N:ae)(k:B)(v:V):dc (mD []) [] 12 Tryz.f88 [0,5] ((th E9).rest) (U9 (SK T A b F R D C N eM [] 12) k v) [([],[],eP (eL [(0,.fn (.yield 10) [] []),(5,.ptr (some (11,0)))] (K [(0,.ints .u32 gS),(1,.ints .u32 gR),(3,.cells [.dx (some (4,0)) T A 1,.int .i64 F,.map (some 5),.map (some 6),.int .i64 R,.bool false,.bool eB.on,.int .i64 D]),(4,.ia 5 false b),(5,.dy none C),(7,.cells [.map (some 6)]),(8,.cells [.dx (some (12,0)) 1 1 1]),(9,.nf),(10,.loop true none (Eng.BB [(2,.ptr (some (8,0))),(6,.fn (.func 88) [] [.ptr (some (7,0))])]) [7] Wc Wd),(12,.cells [.str k])]) 13))]:=cT.ef
theorem ahe[eB](C N:ae)(k:B)(v:V)(n:Nat)(Q:ai):dc (mD []) [] 12 Tryz.f88 [0,5] ((th E9).rest) (U9 (SK T A b F R D C N (.dx (some (12,0)) n n 1) [(12,.deep Q)] 13) k v) [([],[0+n*1<=Q.length,0<1,fa (n+1) 1 16=true],eP (eL [(0,.fn (.yield 10) [] []),(5,.ptr (some (11,0)))] (K [(0,.ints .u32 gS),(1,.ints .u32 gR),(3,.cells [.dx (some (4,0)) T A 1,.int .i64 F,.map (some 5),.map (some 6),.int .i64 R,.bool false,.bool eB.on,.int .i64 D]),(4,.ia 5 false b),(5,.dy none C),(7,.cells [.map (some 6)]),(8,.cells [.dx (some (12,0)) (n+1) (n+1) 1]),(9,.nf),(10,.loop true none (Eng.BB [(2,.ptr (some (8,0))),(6,.fn (.func 88) [] [.ptr (some (7,0))])]) [7] Wc Wd),(12,.deep (List.take (n*1) (List.drop 0 Q)++[lf.str k]))]) 13))]:=cT.ef
theorem aob[eB](C N:ae):dc (mD []) [] 8 Tryz.f113 [1,2] (eU 1 SB) (cZ [eM,w88] (K (lK T A b F R D C N)) 8) [([],[],eP (eL [(1,.fn (.func 88) [] [.ptr (some (7,0))]),(2,.ptr (some (8,0)))] (K (fM (pS T A b F R D C N)++[(7,.cells [.map (some 6)]),(8,.cells [.dx none 0 0 0])])) 9))]:=cT.ef
theorem aoc[eB](C N:ae):dc (mD []) [] 8 Tryz.f113 [2,6] (dS (dS AY)) (eL [(1,w88),(2,P 8)] (K (lK T A b F R D C N++[(8,.cells [eM])])) 9) [([],[],eP (eL [(2,.ptr (some (8,0))),(6,.fn (.func 88) [] [.ptr (some (7,0))])] (K (fM (pS T A b F R D C N)++[(7,.cells [.map (some 6)]),(8,.cells [.dx none 0 0 0])])) 9))]:=cT.ef
theorem aod[eB](C N:ae)(n:Nat)(Q:ai):dc (mD []) [] 8 Tryz.f113 [] (dU AY) (uq (sKa T A b F R D C N) (hK T A b F R D C N (.dx (some (11,0)) n n 1) [(11,.deep Q)]) 12) [([],[],.ret (.dx (some (8,0)) n n 1) (K (fM (pS T A b F R D C N)++[(7,.cells [.map (some 6)]),(8,.deep Q)])) 9)]:=cT.ef
theorem aoe[eB](C N:ae):dc (mD []) [] 8 Tryz.f113 [] (dU AY) (uq (sKa T A b F R D C N) (hK T A b F R D C N eM []) 11) [([],[],.ret (.dx none 0 0 0) (K (fM (pS T A b F R D C N)++[(7,.cells [.map (some 6)])])) 8)]:=cT.ef
end
def zX(N:ae):Prop:=∀e∈N,∃k,e.1= .str k
def dM(N:ae):List (B):=N.map fun e=>lf.aa9 e.1
theorem DZ(a b:List (B)):strs (a++b)=strs a++strs b:=by unfold strs;rw[aZ]
section
variable(T A:Nat)(b:B)(F R D:Int)[eB](C N:ae)
def BF(m:Nat):List (B)->af
 | []=>[]
 | [x]=>[(m,.cells [.str x])]
 |ks=>[(m,.deep (strs ks))]
def HL(m:Nat):List (B)->V
 | []=>eM
 |ks=>.dx (some (m,0)) ks.length ks.length 1
def nK(m:Nat):List (B)->Nat
 | []=>m
 |_=>m+1
def JKa(iO:ae)(s1:St):Prop:=zX iO/\fe 12 [0,5] s1=some (SK T A b F R D C N (HL 12 (dM iO)) (BF 12 (dM iO)) (nK 12 (dM iO)))
theorem WL(hk:zX N)(hl:N.length<=1000000):gh ak 88 [.fn (.yield 10) [] [],.ptr (some (7,0))] (hK T A b F R D C N eM []) 11 fun v h n=>∃iO,List.Perm iO N/\v= .ew []/\h=hK T A b F R D C N (HL 11 (dM iO)) (BF 11 (dM iO))/\n=nK 11 (dM iO):=by
 refine gO mo po Tryz.func88 (code:=E9) U U ?_;rw[agu];refine zN (v0:=.map (some 6)) (kH:=(cZ [.fn (.yield 10) [] [],.ptr (some (7,0))] (hK T A b F R D C N eM []) 11).S.set 4 (some (.map (some 6)))) (Ap:=((cZ [.fn (.yield 10) [] [],.ptr (some (7,0))] (hK T A b F R D C N eM []) 11).S.set 4 (some (.map (some 6)))).set 5 (some (.ptr (some (11,0))))) (m:=6) (kd:=none) (C:=N) mo Nz
  U U U U (ax rfl) U (JKa T A b F R D C N) ⟨(fun _ h=>by cases h),U⟩ ?_
 rintro iO left s1 ⟨hv,hs⟩ hp;have ja:iO.length<=1000000:=by
  have:=hp.length_eq;rw[ay]at this;omega
 match iO,hv,hs,hp,ja with
 | [],hv,hs,hp,_=>
   refine⟨[0,5],SK T A b F R D C N eM [] 12,hs,U,fun vt=>?_,fun e kN he=>?_⟩
   . subst vt;rw[cu]at hp;refine⟨(SK T A b F R D C N eM [] 12).S.set 6 (some (.ew [.bool false])),{ SK T A b F R D C N eM [] 12 with S:=((SK T A b F R D C N eM [] 12).S.set 6 (some (.ew [.bool false]))).set 7 (some (.bool false)) },U,U,U,.inl rfl,.ew [],hK T A b F R D C N eM [],11,U,[],hp,rfl,rfl,rfl⟩
   . obtain⟨k,S6⟩:=hk e (hp.mem_iff.1 (he.mem_iff.2 (by simp)));obtain⟨e1,e2⟩:=e;have S6:e1= .str k:=S6;subst S6;refine⟨(SK T A b F R D C N eM [] 12).S.set 6 (some (.ew [.bool true,.str k,e2.iZ])),{ SK T A b F R D C N eM [] 12 with S:=((SK T A b F R D C N eM [] 12).S.set 6 (some (.ew [.bool true,.str k,e2.iZ]))).set 7 (some (.bool true)) },
      (((SK T A b F R D C N eM [] 12).S.set 6 (some (.ew [.bool true,.str k,e2.iZ]))).set 7 (some (.bool true))).set 8 (some (.ew [.str k,e2.iZ])),U9 (SK T A b F R D C N eM [] 12) k e2.iZ,U,U,U,U,U,U,U,U,?_⟩
     refine fV (XQ []) (aoa T A b F R D C N k e2.iZ) (dG ?_);exact⟨cW,fun s' ek=>⟨fun x M=>by rw[cH,au]at M;exact⟨k,by rw[M]⟩,ek⟩⟩
 | [x],hv,hs,hp,_=>
   obtain⟨x1,x2⟩:=x;obtain⟨kx,hkx⟩:=hv _ (au.2 rfl);have hkx:x1= .str kx:=hkx;subst hkx;refine⟨[0,5],SK T A b F R D C N (.dx (some (12,0)) 1 1 1) [(12,.cells [.str kx])] 13,hs,U,fun vt=>?_,fun e kN he=>?_⟩
   . subst vt;rw[cu]at hp;refine⟨(SK T A b F R D C N (.dx (some (12,0)) 1 1 1) [(12,.cells [.str kx])] 13).S.set 6 (some (.ew [.bool false])),{ SK T A b F R D C N (.dx (some (12,0)) 1 1 1) [(12,.cells [.str kx])] 13 with S:=((SK T A b F R D C N (.dx (some (12,0)) 1 1 1) [(12,.cells [.str kx])] 13).S.set 6 (some (.ew [.bool false]))).set 7 (some (.bool false)) },U,U,U,.inl rfl,.ew [],hK T A b F R D C N (.dx (some (11,0)) 1 1 1) [(11,.cells [.str kx])],12,U,_,hp,rfl,rfl,rfl⟩
   . obtain⟨k,S6⟩:=hk e (hp.mem_iff.1 (cj _ (he.mem_iff.2 (by simp))));obtain⟨e1,e2⟩:=e;have S6:e1= .str k:=S6;subst S6
     let fr:=SK T A b F R D C N (.dx (some (12,0)) 1 1 1) [(12,.cells [.str kx])] 13
     refine⟨fr.S.set 6 (some (.ew [.bool true,.str k,e2.iZ])),{ fr with S:=(fr.S.set 6 (some (.ew [.bool true,.str k,e2.iZ]))).set 7 (some (.bool true)) },
      ((fr.S.set 6 (some (.ew [.bool true,.str k,e2.iZ]))).set 7 (some (.bool true))).set 8 (some (.ew [.str k,e2.iZ])),U9 fr k e2.iZ,U,U,U,U,U,U,U,U,?_⟩
     refine wV [12] (s2:=U9 (SK T A b F R D C N (.dx (some (12,0)) 1 1 1) [(12,.deep [.str kx])] 13) k e2.iZ) U ?_;refine fV (XQ []) (ahe T A b F R D C N k e2.iZ 1 [.str kx]) (dG ?_);refine⟨?_,fun s' ek=>⟨fun x M=>?_,ek⟩⟩
     . exact cA.2 ⟨aC _,cA.2 ⟨dP,cA.2 ⟨dP,cW⟩⟩⟩
     . simp only[List.cons_append,cH,aD,aN,br]at M;rcases M with rfl|rfl
       . exact⟨kx,rfl⟩
       . exact⟨k,rfl⟩
 |x::y::iO,hv,hs,hp,ja=>
  have xX:∀m,BF m (dM (x::y::iO))=[(m,.deep (strs (dM (x::y::iO))))]:=fun m=>rfl;have hsl:∀m,HL m (dM (x::y::iO))= .dx (some (m,0)) (dM (x::y::iO)).length (dM (x::y::iO)).length 1:=fun m=>rfl;have hnk:∀m,nK m (dM (x::y::iO))=m+1:=fun m=>rfl;have Qv:(dM (x::y::iO)).length=(x::y::iO).length:=by unfold dM;rw[bf]
  rw[xX,hsl,hnk]at hs;have hL2:∀l2,HL 11 (dM (x::y::iO))=l2->l2= .dx (some (11,0)) (dM (x::y::iO)).length (dM (x::y::iO)).length 1:=fun l2 h=>h▸rfl;refine⟨[0,5],_,hs,U,fun vt=>?_,fun e kN he=>?_⟩
  . subst vt;rw[cu]at hp;refine⟨(SK T A b F R D C N (.dx (some (12,0)) (dM (x::y::iO)).length (dM (x::y::iO)).length 1) [(12,.deep (strs (dM (x::y::iO))))] 13).S.set 6 (some (.ew [.bool false])),{ SK T A b F R D C N (.dx (some (12,0)) (dM (x::y::iO)).length (dM (x::y::iO)).length 1) [(12,.deep (strs (dM (x::y::iO))))] 13 with S:=((SK T A b F R D C N (.dx (some (12,0)) (dM (x::y::iO)).length (dM (x::y::iO)).length 1) [(12,.deep (strs (dM (x::y::iO))))] 13).S.set 6 (some (.ew [.bool false]))).set 7 (some (.bool false)) },U,U,U,.inl rfl,.ew [],hK T A b F R D C N (.dx (some (11,0)) (dM (x::y::iO)).length (dM (x::y::iO)).length 1) [(11,.deep (strs (dM (x::y::iO))))],12,?_,_,hp,rfl,rfl,rfl⟩;generalize dM (x::y::iO)=ks;kernel_rfl
  . obtain⟨k,S6⟩:=hk e (hp.mem_iff.1 (cj _ (he.mem_iff.2 (by simp))));obtain⟨e1,e2⟩:=e;have S6:e1= .str k:=S6;subst S6;have qe:dM ((x::y::iO)++[(.str k,e2)])=dM (x::y::iO)++[k]:=by unfold dM;rw[aZ];rfl
    have Cb:zX ((x::y::iO)++[(.str k,e2)]):=fun z hz=>by
     rcases aW.1 hz with hz|hz
     . exact hv z hz
     . rw[au]at hz;subst hz;exact⟨k,rfl⟩
    have h2:2<=(dM (x::y::iO)).length:=by rw[Qv];simp
    have hJ:∀s',fe 12 [0,5] s'=some (SK T A b F R D C N (.dx (some (12,0)) (dM (x::y::iO)++[k]).length (dM (x::y::iO)++[k]).length 1) [(12,.deep (strs (dM (x::y::iO)++[k])))] 13)->JKa T A b F R D C N ((x::y::iO)++[(.str k,e2)]) s':=by
     intro s' ek;refine⟨Cb,?_⟩;rw[qe,ek];unfold dM;rfl
    generalize hK0:dM (x::y::iO)=ks at *
    let fr:=SK T A b F R D C N (.dx (some (12,0)) ks.length ks.length 1) [(12,.deep (strs ks))] 13
    refine⟨fr.S.set 6 (some (.ew [.bool true,.str k,e2.iZ])),{ fr with S:=(fr.S.set 6 (some (.ew [.bool true,.str k,e2.iZ]))).set 7 (some (.bool true)) },
     ((fr.S.set 6 (some (.ew [.bool true,.str k,e2.iZ]))).set 7 (some (.bool true))).set 8 (some (.ew [.str k,e2.iZ])),U9 fr k e2.iZ,U,U,U,U,U,U,U,U,?_⟩
    refine fV (XQ []) (ahe T A b F R D C N k e2.iZ ks.length (strs ks)) (dG ?_);refine⟨?_,fun s' ek=>hJ s' ?_⟩
    . exact cA.2 ⟨by rw[eN];omega,cA.2 ⟨dP,cA.2 ⟨qu L,cW⟩⟩⟩
    . refine Eq.trans ek ?_;have e3:List.take (ks.length*1) (List.drop 0 (strs ks))++[lf.str k]=strs (ks++[k]):=by
       rw[bw,bn,bk (by rw[eN];exact aC _),DZ];rfl
      rw[e3,ay];rfl
end
section
variable(T A:Nat)(b:B)(F R D:Int)[eB](C N:ae)
def yy(row:af):H rs:=K (lK T A b F R D C N++row)
end
section
variable(T:Nat)(h:H rs)(A:Nat)(b:B)(F R D:Int)
def sC2(n:Nat)(v:V):St:={ S:=((((BB [(0,w88)]).set 3 (some w88)).set 4 (some v)).set 2 (some v)),h:=h,n:=n,gD:=[] }
theorem aog[eB](C N:ae)(x:B):dc (mD []) [] 8 Tryz.f113 [] (dU AY) (uq (sKa T A b F R D C N) (hK T A b F R D C N (.dx (some (11,0)) 1 1 1) [(11,.cells [.str x])]) 12) [([],[],.ret (.dx (some (8,0)) 1 1 1) (K (fM (pS T A b F R D C N)++[(7,.cells [.map (some 6)]),(8,.cells [.str x])])) 9)]:=cT.ef
theorem aoh[eB](C N:ae):dc (mD []) [] 8 Tryz.f86 [0] (eU 1 Fb) (cZ [w88] (yy T A b F R D C N []) 8) [([],[],eP (eL [(0,.fn (.func 88) [] [.ptr (some (7,0))])] (K (fM (pS T A b F R D C N)++[(7,.cells [.map (some 6)])])) 8))]:=cT.ef
theorem aoi[eB](C N:ae)(n:Nat)(Q:ai):dc (mD []) [] 8 Tryz.f86 [] (dU (dw 1 Fb)) (sC2 (yy T A b F R D C N [(8,.deep Q)]) 9 (.dx (some (8,0)) n n 1)) [([],[],.ret (.dx (some (8,0)) n n 1) (K (fM (pS T A b F R D C N)++[(7,.cells [.map (some 6)]),(8,.deep Q)])) 9)]:=cT.ef
theorem aoj[eB](C N:ae):dc (mD []) [] 8 Tryz.f86 [] (dU (dw 1 Fb)) (sC2 (yy T A b F R D C N []) 8 eM) [([],[],.ret (.dx none 0 0 0) (K (fM (pS T A b F R D C N)++[(7,.cells [.map (some 6)])])) 8)]:=cT.ef
theorem aok[eB](C N:ae)(x:B):dc (mD []) [] 8 Tryz.f86 [] (dU (dw 1 Fb)) (sC2 (yy T A b F R D C N [(8,.cells [.str x])]) 9 (.dx (some (8,0)) 1 1 1)) [([],[],.ret (.dx (some (8,0)) 1 1 1) (K (fM (pS T A b F R D C N)++[(7,.cells [.map (some 6)]),(8,.cells [.str x])])) 9)]:=cT.ef
theorem aol[eB](C N:ae):dc (mD []) [] 8 Tryz.f61 [0] (eU 1 Fa) (cZ [w88] (yy T A b F R D C N []) 8) [([],[],eP (eL [(0,.fn (.func 88) [] [.ptr (some (7,0))])] (K (fM (pS T A b F R D C N)++[(7,.cells [.map (some 6)])])) 8))]:=cT.ef
def sS2(n:Nat)(v:V):St:={ S:=((((BB [(0,w88)]).set 4 (some w88)).set 5 (some v)).set 3 (some v)),h:=h,n:=n,gD:=[] }
theorem aom[eB](C N:ae)(n:Nat)(Q vK:ai):dc (fF (mD []) 87 [.dx (some (8,0)) n n 1] (yy T A b F R D C N [(8,.deep Q)]) 9 (.ew [],(yy T A b F R D C N [(8,.deep Q)]).set 8 (some (.deep vK)),9)) [] 8 Tryz.f61 [] (dw 2 Fa) (sS2 (yy T A b F R D C N [(8,.deep Q)]) 9 (.dx (some (8,0)) n n 1)) [([],[fC [.dx (some (8,0)) n n 1] (K (fM (pS T A b F R D C N)++[(7,.cells [.map (some 6)]),(8,.deep Q)])) 9],.ret (.dx (some (8,0)) n n 1) (K (fM (pS T A b F R D C N)++[(7,.cells [.map (some 6)]),(8,.deep vK)])) 9)]:=cT.ef
theorem aon[eB](C N:ae):dc (mD []) [] 8 Tryz.f61 [] (dw 2 Fa) (sS2 (yy T A b F R D C N []) 8 eM) [([],[(0:Int)<=(0:Int)/\0<256],.ret (.dx none 0 0 0) (K (fM (pS T A b F R D C N)++[(7,.cells [.map (some 6)])])) 8)]:=cT.ef
theorem aoo[eB](C N:ae)(x:B):dc (mD []) [] 8 Tryz.f61 [] (dw 2 Fa) (sS2 (yy T A b F R D C N [(8,.cells [.str x])]) 9 (.dx (some (8,0)) 1 1 1)) [([],[(0:Int)<=(1:Int)/\1<256],.ret (.dx (some (8,0)) 1 1 1) (K (fM (pS T A b F R D C N)++[(7,.cells [.map (some 6)]),(8,.cells [.str x])])) 9)]:=cT.ef
def hKf[eB](C N:ae)(row:af):H rs:=K (fM (pS T A b F R D C N)++row)
theorem ahf[eB](C N:ae)(n:Nat)(Q:ai):dc (fF (mD []) 61 [w88] (yy T A b F R D C N []) 8 (.dx (some (8,0)) n n 1,yy T A b F R D C N [(8,.deep Q)],9)) [] 7 Tryz.f23 [] (Pu) (cZ [P3] (dN (pS T A b F R D C N)) 7) [([],[fC [.fn (.func 88) [] [.ptr (some (7,0))]] (K (fM (pS T A b F R D C N)++[(7,.cells [.map (some 6)])])) 8],.ret (.dx (some (7,0)) n n 1) (K (fM (pS T A b F R D C N)++[(7,.deep Q)])) 8)]:=cT.ef
theorem ahg[eB](C N:ae):dc (fF (mD []) 61 [w88] (yy T A b F R D C N []) 8 (eM,yy T A b F R D C N [],8)) [] 7 Tryz.f23 [] (Pu) (cZ [P3] (dN (pS T A b F R D C N)) 7) [([],[fC [.fn (.func 88) [] [.ptr (some (7,0))]] (K (fM (pS T A b F R D C N)++[(7,.cells [.map (some 6)])])) 8],.ret (.dx none 0 0 0) (dN (pS T A b F R D C N)) 7)]:=cT.ef
theorem ahh[eB](C N:ae)(x:B):dc (fF (mD []) 61 [w88] (yy T A b F R D C N []) 8 (.dx (some (8,0)) 1 1 1,yy T A b F R D C N [(8,.cells [.str x])],9)) [] 7 Tryz.f23 [] (Pu) (cZ [P3] (dN (pS T A b F R D C N)) 7) [([],[fC [.fn (.func 88) [] [.ptr (some (7,0))]] (K (fM (pS T A b F R D C N)++[(7,.cells [.map (some 6)])])) 8],.ret (.dx (some (7,0)) 1 1 1) (K (fM (pS T A b F R D C N)++[(7,.cells [.str x])])) 8)]:=cT.ef
end
theorem PF{a b c:B}(h:a<=b)(k:b<=c):a<=c:=List.le_trans h k
theorem PG(a b:B):a<=b\/b<=a:=List.le_total a b
theorem JG{a b:B}(h:a<=b)(k:b<=a):a=b:=List.le_antisymm h k
section
variable(l:List (B))
theorem uz:List.Perm (jm l) l:=List.mergeSort_perm ..
theorem yz:(jm l).Pairwise (. <=·):=by
 have:=List.pairwise_mergeSort (le:=fun x y:B=>decide (x<=y)) (fun a b c h k=>by simp only[bD]at *;exact PF h k) (fun a b=>by simp only[bV,bD];exact PG a b) l;exact this.imp fun h=>aI h
end
theorem S7{a b:List (B)}(h:List.Perm a b):jm a=jm b:=
 List.Perm.eq_of_pairwise (le:=(. <=·)) (fun _ _ _ _ h k=>JG h k) (yz a) (yz b) (((uz a).trans h).trans (uz b).symm)
theorem F6:jm []=[]:=cC.1 (by rw[tj];rfl)
theorem PI(x:B):jm [x]=[x]:=by
 have h:=uz [x];exact List.perm_singleton.1 h
theorem BG{a b:ae}(h:List.Perm a b):List.Perm (dM a) (dM b):=h.map _
theorem yA(a:ae):(dM a).length=a.length:=by unfold dM;rw[bf]
section
variable(T A:Nat)(b:B)(F R D:Int)[eB](C N:ae)
abbrev RKy(v:V)(h:H rs)(n:Nat):Prop:=∃ks,List.Perm ks (dM N)/\v=HL 8 ks/\h=yy T A b F R D C N (BF 8 ks)/\n=nK 8 ks
theorem S8(hk:zX N)(hl:N.length<=1000000):gh ak 113 [eM,w88] (yy T A b F R D C N []) 8 (RKy T A b F R D C N):=by
 refine gO mo po Tryz.func113 (code:=SB) U U ?_;refine iw  1 (XQ []) (aob T A b F R D C N) cW ?_;show TG ak 8 Tryz.f113.ntmps AY (eL [(1,w88),(2,P 8)] (K (lK T A b F R D C N++[(8,.cells [eM])])) 9) _;refine c6 U ?_;refine c6 U ?_;refine fV (XQ []) (aoc T A b F R D C N) (dG ?_);refine⟨cW,fun s' ek=>?_⟩;have ek:fe 8 [2,6] s'=some (sKa T A b F R D C N):=ek;refine dh ek ?_;refine fk (i:=0) U ?_;refine oP (gf:=88) (lb:=[.ptr (some (7,0))]) U U U U U (WL T A b F R D C N hk hl) ?_;rintro v h n ⟨iO,hp,rfl,rfl,rfl⟩;have S9:=BG hp
 match Cb:dM iO,S9 with
 | [],S9=>
   refine⟨U,?_⟩;show TG ak 8 Tryz.f113.ntmps (dU AY) _ _;refine eZ (XQ []) (aoe T A b F R D C N) (dG ?_);exact⟨cW,_,_,_,rfl,[],S9,rfl,rfl,rfl⟩
 | [x],S9=>
   refine⟨U,?_⟩;show TG ak 8 Tryz.f113.ntmps (dU AY) _ _;refine eZ (XQ []) (aog T A b F R D C N x) (dG ?_);exact⟨cW,_,_,_,rfl,[x],S9,rfl,rfl,rfl⟩
 |x::y::ks,S9=>
  refine⟨U,?_⟩;show TG ak 8 Tryz.f113.ntmps (dU AY) _ _;refine eZ (XQ []) (aod T A b F R D C N (x::y::ks).length (strs (x::y::ks))) (dG ?_);exact⟨cW,_,_,_,rfl,x::y::ks,S9,rfl,rfl,rfl⟩
theorem WM(hk:zX N)(hl:N.length<=1000000):gh ak 86 [w88] (yy T A b F R D C N []) 8 (RKy T A b F R D C N):=by
 refine gO mo po Tryz.func86 (code:=Fb) U U ?_;refine iw  1 (XQ []) (aoh T A b F R D C N) cW ?_;refine c6 U ?_;refine qC 1 (s1:={ S:=(BB [(0,w88)]).set 3 (some w88),h:=yy T A b F R D C N [],n:=8,gD:=[] }) (f:=113) (args:=[eM,w88]) U U U U U U (S8 T A b F R D C N hk hl) ?_;rintro v h n ⟨ks,hp,rfl,rfl,rfl⟩
 match ks,hp with
 | [],hp=>
   refine⟨(((BB [(0,w88)]).set 3 (some w88)).set 4 (some eM)),sC2 (yy T A b F R D C N []) 8 eM,U,U,?_⟩;obtain⟨L5,yl⟩:=aoj T A b F R D C N;show TG ak 8 Tryz.f86.ntmps (dU (dw 1 Fb)) _ _;refine ij (XQ []) mo _ U yl (dG ?_);exact⟨cW,_,_,_,rfl,[],hp,rfl,rfl,rfl⟩
 | [x],hp=>
   refine⟨(((BB [(0,w88)]).set 3 (some w88)).set 4 (some (.dx (some (8,0)) 1 1 1))),sC2 (yy T A b F R D C N [(8,.cells [.str x])]) 9 (.dx (some (8,0)) 1 1 1),U,U,?_⟩;obtain⟨L5,yl⟩:=aok T A b F R D C N x;show TG ak 8 Tryz.f86.ntmps (dU (dw 1 Fb)) _ _;refine ij (XQ []) mo _ U yl (dG ?_);exact⟨cW,_,_,_,rfl,[x],hp,rfl,rfl,rfl⟩
 |x::y::ks,hp=>
  refine⟨(((BB [(0,w88)]).set 3 (some w88)).set 4 (some (.dx (some (8,0)) (x::y::ks).length (x::y::ks).length 1))),sC2 (yy T A b F R D C N [(8,.deep (strs (x::y::ks)))]) 9 (.dx (some (8,0)) (x::y::ks).length (x::y::ks).length 1),U,U,?_⟩;obtain⟨L5,yl⟩:=aoi T A b F R D C N (x::y::ks).length (strs (x::y::ks));show TG ak 8 Tryz.f86.ntmps (dU (dw 1 Fb)) _ _;refine ij (XQ []) mo _ U yl (dG ?_);exact⟨cW,_,_,_,rfl,x::y::ks,hp,rfl,rfl,rfl⟩
omit [eB]in
theorem WN{m:Nat}{ks:List (B)}(h:2<=ks.length):HL m ks= .dx (some (m,0)) ks.length ks.length 1/\BF m ks=[(m,.deep (strs ks))]/\nK m ks=m+1:=by
 match ks,h with
 |x::y::ks,_=>exact⟨rfl,rfl,rfl⟩
theorem WO(hk:zX N)(hl:N.length<1000000):c5 ak 61 [w88] (yy T A b F R D C N []) 8 (HL 8 (jm (dM N))) (yy T A b F R D C N (BF 8 (jm (dM N)))) (nK 8 (jm (dM N))):=by
 refine c7 Tryz.func61 (code:=Fa) U U ?_;refine iw  1 (XQ []) (aol T A b F R D C N) cW ?_;refine c6 U ?_;refine qC 1 (s1:={ S:=(BB [(0,w88)]).set 4 (some w88),h:=yy T A b F R D C N [],n:=8,gD:=[] }) (f:=86) (args:=[w88]) U U U U U U (WM T A b F R D C N hk (Nat.le_of_lt hl)) ?_;rintro v h n ⟨ks,hp,rfl,rfl,rfl⟩;rw[<- S7 hp];have ja:ks.length<1000000:=by rw[hp.length_eq,yA];exact hl
 match ks,ja with
 | [],_=>
   rw[F6];refine⟨(((BB [(0,w88)]).set 4 (some w88)).set 5 (some eM)),sS2 (yy T A b F R D C N []) 8 eM,U,U,?_⟩;show TG ak 8 Tryz.f61.ntmps (dw 2 Fa) _ _;refine eZ (XQ []) (aon T A b F R D C N) (dG ?_);exact⟨fun p hp=>by rw[au]at hp;subst hp;decide,_,_,_,rfl,rfl,rfl,rfl⟩
 | [x],_=>
   rw[PI];refine⟨(((BB [(0,w88)]).set 4 (some w88)).set 5 (some (.dx (some (8,0)) 1 1 1))),sS2 (yy T A b F R D C N [(8,.cells [.str x])]) 9 (.dx (some (8,0)) 1 1 1),U,U,?_⟩;show TG ak 8 Tryz.f61.ntmps (dw 2 Fa) _ _;refine eZ (XQ []) (aoo T A b F R D C N x) (dG ?_);exact⟨fun p hp=>by rw[au]at hp;subst hp;decide,_,_,_,rfl,rfl,rfl,rfl⟩
 |x::y::ks,ja=>
  obtain⟨z1,z2,z3⟩:=WN (m:=8) (ks:=jm (x::y::ks)) (by rw[tj];simp);rw[z1,z2,z3,tj];refine⟨(((BB [(0,w88)]).set 4 (some w88)).set 5 (some (.dx (some (8,0)) (x::y::ks).length (x::y::ks).length 1))),sS2 (yy T A b F R D C N [(8,.deep (strs (x::y::ks)))]) 9 (.dx (some (8,0)) (x::y::ks).length (x::y::ks).length 1),U,U,?_⟩;show TG ak 8 Tryz.f61.ntmps (dw 2 Fa) _ _;obtain⟨L5,yl⟩:=aom T A b F R D C N (x::y::ks).length (strs (x::y::ks)) (strs (jm (x::y::ks)));have J:c5 ak 87 [.dx (some (8,0)) (x::y::ks).length (x::y::ks).length 1] (yy T A b F R D C N [(8,.deep (strs (x::y::ks)))]) 9 (.ew []) ((yy T A b F R D C N [(8,.deep (strs (x::y::ks)))]).set 8 (some (.deep (strs (jm (x::y::ks)))))) 9:=
   JB Wh (ss:=x::y::ks) U (ax rfl) (Nat.succ_pos _) rfl ja
  refine ij ((XQ []).jG (ax U) J) mo _ U yl (dG ?_);exact⟨fun p hp=>by rw[au]at hp;subst hp;exact DO,_,_,_,rfl,rfl,rfl,rfl⟩
theorem HM(hk:zX N)(hl:N.length<1000000):c5 ak 23 [P3] (dN (pS T A b F R D C N)) 7 (HL 7 (jm (dM N))) (hKf T A b F R D C N (BF 7 (jm (dM N)))) (nK 7 (jm (dM N))):=by
 have h61:=WO T A b F R D C N hk hl;refine c7 Tryz.func23 (code:=Pu) U U ?_
 match Cb:jm (dM N),h61 with
 | [],h61=>
   refine eZ ((XQ []).jG (ax U) h61) (ahg T A b F R D C N) (dG ?_);exact⟨fun p hp=>by rw[au]at hp;subst hp;exact DO,_,_,_,rfl,rfl,rfl,rfl⟩
 | [x],h61=>
   refine eZ ((XQ []).jG (ax U) h61) (ahh T A b F R D C N x) (dG ?_);exact⟨fun p hp=>by rw[au]at hp;subst hp;exact DO,_,_,_,rfl,rfl,rfl,rfl⟩
 |x::y::ks,h61=>
  refine eZ ((XQ []).jG (ax U) h61) (ahf T A b F R D C N (x::y::ks).length (strs (x::y::ks))) (dG ?_);exact⟨fun p hp=>by rw[au]at hp;subst hp;exact DO,_,_,_,rfl,rfl,rfl,rfl⟩
end
def g81:V:=.fn (.func 81) [] [.ptr (some (9,0))]
def g56:V:=.fn (.func 56) [] [.ptr (some (7,0))]
section
variable(T A:Nat)(b:B)(F R D:Int)[eB](C N:ae)(ks:List (B))
def lS:af:=fM (pS T A b F R D C N)++[(7,.cells [P3]),(8,.dy none (ou ks)),(9,.cells [.map (some 8)])]
def lSx:af:=fM (pS T A b F R D C N)++[(7,.cells [P3]),(9,.cells [.map (some 8)])]
def sSa:St:=eL [(2,P 10),(6,g81)] (K (lS T A b F R D C N ks++[(10,.cells [eM])])) 11
noncomputable def oSa:rs:=.loop true none (sSa T A b F R D C N ks).S [7] abS abT
noncomputable def Zz(sl:V)(row:af):H rs:=K (lS T A b F R D C N ks++[(10,.cells [sl]),(11,.nf),(12,oSa T A b F R D C N ks)]++row)
noncomputable def Fc(sl:V)(row:af)(n:Nat):St:=eL [(0,.fn (.yield 12) [] []),(5,P 13)] (K (lSx T A b F R D C N++[(10,.cells [sl]),(11,.nf),(12,oSa T A b F R D C N ks)]++row)) n
def xI(row:af):H rs:=K (lS T A b F R D C N ks++row)
end
section
variable(T A:Nat)(b:B)(F R D:Int)
theorem aop[eB](C N:ae)(ks:List (B))(k:B)(v:V):dc (mD []) [] 14 Tryz.f81 [0,5] ((th E7).rest) (U9 (Fc T A b F R D C N ks eM [] 14) k v) [([],[],eP (Fc T A b F R D C N ks (.dx (some (14,0)) 1 1 1) [(14,.cells [.str k])] 15))]:=cT.ef
theorem aoq[eB](C N:ae)(ks:List (B))(k:B)(v:V)(n:Nat)(Q:ai):dc (mD []) [] 14 Tryz.f81 [0,5] ((th E7).rest) (U9 (Fc T A b F R D C N ks (.dx (some (14,0)) n n 1) [(14,.deep Q)] 15) k v) [([],[0+n*1<=Q.length,0<1,fa (n+1) 1 16=true],eP (eL [(0,.fn (.yield 12) [] []),(5,.ptr (some (13,0)))] (K (fM (pS T A b F R D C N)++[(7,.cells [.ptr (some (3,0))]),(9,.cells [.map (some 8)]),(10,.cells [.dx (some (14,0)) (n+1) (n+1) 1]),(11,.nf),(12,.loop true none (Eng.BB [(2,.ptr (some (10,0))),(6,.fn (.func 81) [] [.ptr (some (9,0))])]) [7] abS abT),(14,.deep (List.take (n*1) (List.drop 0 Q)++[lf.str k]))])) 15))]:=cT.ef
end
section
variable(T:Nat)(h:H rs)(A:Nat)(b:B)(F R D:Int)
theorem aor[eB](C N:ae)(ks:List (B)):dc (mD []) [] 10 Tryz.f100 [1,2] (eU 1 SA) (cZ [eM,g81] (xI T A b F R D C N ks []) 10) [([],[],eP (eL [(1,g81),(2,P 10)] (K (lS T A b F R D C N ks++[(10,.cells [eM])])) 11))]:=cT.ef
theorem aos[eB](C N:ae)(ks:List (B)):dc (mD []) [] 10 Tryz.f100 [2,6] (dS (dS Pt)) (eL [(1,g81),(2,P 10)] (K (lS T A b F R D C N ks++[(10,.cells [eM])])) 11) [([],[],eP (sSa T A b F R D C N ks))]:=cT.ef
theorem aot[eB](C N:ae)(ks:List (B))(n:Nat)(Q:ai):dc (mD []) [] 10 Tryz.f100 [] (dU Pt) (uq (sSa T A b F R D C N ks) (Zz T A b F R D C N ks (.dx (some (13,0)) n n 1) [(13,.deep Q)]) 14) [([],[],.ret (.dx (some (10,0)) n n 1) (xI T A b F R D C N ks [(10,.deep Q)]) 11)]:=cT.ef
theorem aou[eB](C N:ae)(ks:List (B)):dc (mD []) [] 10 Tryz.f100 [] (dU Pt) (uq (sSa T A b F R D C N ks) (Zz T A b F R D C N ks eM []) 13) [([],[],.ret (.dx none 0 0 0) (xI T A b F R D C N ks []) 10)]:=cT.ef
def sC8(n:Nat)(v:V):St:={ S:=((((BB [(0,g81)]).set 3 (some g81)).set 4 (some v)).set 2 (some v)),h:=h,n:=n,gD:=[] }
def sS8(n:Nat)(v:V):St:={ S:=((((BB [(0,g81),(1,g56)]).set 6 (some g81)).set 7 (some v)).set 5 (some v)),h:=h,n:=n,gD:=[] }
theorem aov[eB](C N:ae)(ks:List (B)):dc (mD []) [] 10 Tryz.f79 [0] (eU 1 LY) (cZ [g81] (xI T A b F R D C N ks []) 10) [([],[],eP (eL [(0,g81)] (xI T A b F R D C N ks []) 10))]:=cT.ef
theorem aow[eB](C N:ae)(ks:List (B))(n:Nat)(Q:ai):dc (mD []) [] 10 Tryz.f79 [] (dU (dw 1 LY)) (sC8 (xI T A b F R D C N ks [(10,.deep Q)]) 11 (.dx (some (10,0)) n n 1)) [([],[],.ret (.dx (some (10,0)) n n 1) (xI T A b F R D C N ks [(10,.deep Q)]) 11)]:=cT.ef
theorem aox[eB](C N:ae)(ks:List (B)):dc (mD []) [] 10 Tryz.f79 [] (dU (dw 1 LY)) (sC8 (xI T A b F R D C N ks []) 10 eM) [([],[],.ret (.dx none 0 0 0) (xI T A b F R D C N ks []) 10)]:=cT.ef
theorem aoy[eB](C N:ae)(ks:List (B)):dc (mD []) [] 10 Tryz.f54 [0,1] (eU 1 LX) (cZ [g81,g56] (xI T A b F R D C N ks []) 10) [([],[],eP (eL [(0,g81),(1,g56)] (xI T A b F R D C N ks []) 10))]:=cT.ef
theorem ahi[eB](C N:ae)(ks:List (B))(n:Nat)(Q vK:ai):dc (fF (mD []) 80 [.dx (some (10,0)) n n 1,g56] (xI T A b F R D C N ks [(10,.deep Q)]) 11 (.ew [],(xI T A b F R D C N ks [(10,.deep Q)]).set 10 (some (.deep vK)),11)) [] 10 Tryz.f54 [] (dw 2 LX) (sS8 (xI T A b F R D C N ks [(10,.deep Q)]) 11 (.dx (some (10,0)) n n 1)) [([],[[V.dx (some (10,0)) n n 1,g56]=[V.dx (some (10,0)) n n 1,g56]/\xI T A b F R D C N ks [(10,.deep Q)]=xI T A b F R D C N ks [(10,.deep Q)]/\11=11],.ret (.dx (some (10,0)) n n 1) (xI T A b F R D C N ks [(10,.deep vK)]) 11)]:=cT.ef
theorem ahj[eB](C N:ae)(ks:List (B)):dc (mD []) [] 10 Tryz.f54 [] (dw 2 LX) (sS8 (xI T A b F R D C N ks []) 10 eM) [([],[(0:Int)<=(0:Int)/\0<256],.ret (.dx none 0 0 0) (xI T A b F R D C N ks []) 10)]:=cT.ef
end
def s8(m:Nat):List (B)->af
 | []=>[]
 |ks=>[(m,.deep (strs ks))]
theorem Ta(ks:List (B)):dM (ou ks)=ks:=by
 unfold dM ou;rw[List.map_map];exact List.map_id'' (fun _=>rfl) ks
section
variable(T A:Nat)(b:B)(F R D:Int)[eB](C N:ae)(ks:List (B))
def JSk(iO:ae)(s1:St):Prop:=zX iO/\LK 14 Tryz.f81.ntmps s1 (Fc T A b F R D C N ks (HL 14 (dM iO)) (s8 14 (dM iO)) (nK 14 (dM iO)))
abbrev RSk(v:V)(h:H rs)(n:Nat):Prop:=∃ls,List.Perm ls ks/\v= .ew []/\h=Zz T A b F R D C N ks (HL 13 ls) (s8 13 ls)/\n=nK 13 ls
theorem WQ(hl:ks.length<=1000000):gh ak 81 [.fn (.yield 12) [] [],P 9] (Zz T A b F R D C N ks eM []) 13 (RSk T A b F R D C N ks):=by
 refine gO mo po Tryz.func81 (code:=E7) U U ?_;rw[agn];have Ex:(ou ks).length=ks.length:=by unfold ou;rw[bf]
 refine Ju (v0:=.map (some 8)) (kH:=(cZ [.fn (.yield 12) [] [],P 9] (Zz T A b F R D C N ks eM []) 13).S.set 4 (some (.map (some 8)))) (Ap:=((cZ [.fn (.yield 12) [] [],P 9] (Zz T A b F R D C N ks eM []) 13).S.set 4 (some (.map (some 8)))).set 5 (some (P 13))) (m:=8) (kd:=none) (C:=ou ks) mo Ny
  U U U U (ax rfl) U (JSk T A b F R D C N ks) ⟨(fun _ h=>by cases h),.norm (be:=[0,5]) U⟩ ?_
 rintro iO left s1 ⟨hv,hs⟩ hp;have ja:iO.length<=1000000:=by
  have:=hp.length_eq;rw[ay]at this;omega
 have yc:∀e kN,List.Perm left (e::kN)->∃k,e=(.str k,.bool true):=fun e kN he=>by
  obtain⟨k,_,h⟩:=bF.1 (hp.mem_iff.1 (cj _ (he.mem_iff.2 (aQ ..))));exact⟨k,h.symm⟩
 have pY:left=[]->List.Perm (dM iO) ks:=fun h=>by
  subst h;rw[cu]at hp;have:=BG hp;rwa [Ta]at this
 have qe:∀k,dM (iO++[(.str k,.bool true)])=dM iO++[k]:=fun k=>by unfold dM;rw[aZ];rfl
 have hkv:∀k,zX (iO++[(.str k,.bool true)]):=fun k z hz=>by
  rcases aW.1 hz with hz|hz
  . exact hv z hz
  . rw[au]at hz;subst hz;exact⟨k,rfl⟩
 have Qv:(dM iO).length<=1000000:=by rw[yA];exact ja
 have hJ:∀k s',LK 14 Tryz.f81.ntmps s' (Fc T A b F R D C N ks (HL 14 (dM iO++[k])) (s8 14 (dM iO++[k])) (nK 14 (dM iO++[k])))->JSk T A b F R D C N ks (iO++[(.str k,.bool true)]) s':=fun k s' h=>⟨hkv k,by rw[qe];exact h⟩;generalize dM iO=ls at *;cases ls with
 |nil=>
  refine⟨_,hs,U,fun h0=>?_,fun e kN he=>?_⟩
  . refine⟨(Fc T A b F R D C N ks eM [] 14).S.set 6 (some (.ew [.bool false])),{ Fc T A b F R D C N ks eM [] 14 with S:=((Fc T A b F R D C N ks eM [] 14).S.set 6 (some (.ew [.bool false]))).set 7 (some (.bool false)) },U,U,U,.inl rfl,.ew [],Zz T A b F R D C N ks eM [],13,U,[],pY h0,rfl,rfl,rfl⟩
  . obtain⟨k,rfl⟩:=yc e kN he;refine⟨(Fc T A b F R D C N ks eM [] 14).S.set 6 (some (.ew [.bool true,.str k,.bool true])),{ Fc T A b F R D C N ks eM [] 14 with S:=((Fc T A b F R D C N ks eM [] 14).S.set 6 (some (.ew [.bool true,.str k,.bool true]))).set 7 (some (.bool true)) },
     (((Fc T A b F R D C N ks eM [] 14).S.set 6 (some (.ew [.bool true,.str k,.bool true]))).set 7 (some (.bool true))).set 8 (some (.ew [.str k,.bool true])),U9 (Fc T A b F R D C N ks eM [] 14) k (.bool true),U,U,U,U,U,U,U,U,?_⟩
    refine fV (XQ []) (aop T A b F R D C N ks k (.bool true)) (dG ?_);exact⟨cW,fun s' ek=>hJ k s' ((LK.norm ek).trans (.deep [14] U))⟩
 |cons y ys=>
  have X:∀m,s8 m (y::ys)=[(m,.deep (strs (y::ys)))]/\HL m (y::ys)= .dx (some (m,0)) (y::ys).length (y::ys).length 1/\nK m (y::ys)=m+1:=fun m=>⟨rfl,rfl,rfl⟩;have h2:∀m k,s8 m (y::ys++[k])=[(m,.deep (strs (y::ys++[k])))]/\HL m (y::ys++[k])= .dx (some (m,0)) (y::ys++[k]).length (y::ys++[k]).length 1/\nK m (y::ys++[k])=m+1:=fun m k=>⟨rfl,rfl,rfl⟩;have h3:0<(y::ys).length:=Nat.succ_pos _;generalize y::ys=ls at *;rw[(X 14).1,(X 14).2.1,(X 14).2.2]at hs;refine⟨_,hs,U,fun h0=>?_,fun e kN he=>?_⟩
  . refine⟨(Fc T A b F R D C N ks (.dx (some (14,0)) ls.length ls.length 1) [(14,.deep (strs ls))] 15).S.set 6 (some (.ew [.bool false])),{ Fc T A b F R D C N ks (.dx (some (14,0)) ls.length ls.length 1) [(14,.deep (strs ls))] 15 with S:=((Fc T A b F R D C N ks (.dx (some (14,0)) ls.length ls.length 1) [(14,.deep (strs ls))] 15).S.set 6 (some (.ew [.bool false]))).set 7 (some (.bool false)) },U,U,U,.inl rfl,.ew [],Zz T A b F R D C N ks (.dx (some (13,0)) ls.length ls.length 1) [(13,.deep (strs ls))],14,U,ls,pY h0,rfl,?_,?_⟩
    . rw[(X 13).1,(X 13).2.1]
    . rw[(X 13).2.2]
  . obtain⟨k,rfl⟩:=yc e kN he;refine⟨(Fc T A b F R D C N ks (.dx (some (14,0)) ls.length ls.length 1) [(14,.deep (strs ls))] 15).S.set 6 (some (.ew [.bool true,.str k,.bool true])),{ Fc T A b F R D C N ks (.dx (some (14,0)) ls.length ls.length 1) [(14,.deep (strs ls))] 15 with S:=((Fc T A b F R D C N ks (.dx (some (14,0)) ls.length ls.length 1) [(14,.deep (strs ls))] 15).S.set 6 (some (.ew [.bool true,.str k,.bool true]))).set 7 (some (.bool true)) },
     (((Fc T A b F R D C N ks (.dx (some (14,0)) ls.length ls.length 1) [(14,.deep (strs ls))] 15).S.set 6 (some (.ew [.bool true,.str k,.bool true]))).set 7 (some (.bool true))).set 8 (some (.ew [.str k,.bool true])),U9 (Fc T A b F R D C N ks (.dx (some (14,0)) ls.length ls.length 1) [(14,.deep (strs ls))] 15) k (.bool true),U,U,U,U,U,U,U,U,?_⟩
    refine fV (XQ []) (aoq T A b F R D C N ks k (.bool true) ls.length (strs ls)) (dG ?_);refine⟨G (by rw[eN];omega) (G dP (eS (qu L))),fun s' ek=>hJ k s' ?_⟩;have e:List.take (ls.length*1) (List.drop 0 (strs ls))++[lf.str k]=strs (ls++[k]):=by
     rw[bw,bn,bk (by rw[eN];omega)];unfold strs;rw[aZ];rfl
    rw[e]at ek;rw[(h2 14 k).1,(h2 14 k).2.1,(h2 14 k).2.2,ay];exact .norm ek
abbrev RSe(v:V)(h:H rs)(n:Nat):Prop:=∃ls,List.Perm ls ks/\v=HL 10 ls/\h=xI T A b F R D C N ks (s8 10 ls)/\n=nK 10 ls
theorem Tb(hl:ks.length<=1000000):gh ak 100 [eM,g81] (xI T A b F R D C N ks []) 10 (RSe T A b F R D C N ks):=by
 refine gO mo po Tryz.func100 (code:=SA) U U ?_;refine iw  1 (XQ []) (aor T A b F R D C N ks) cW ?_;refine c6 U ?_;refine c6 U ?_;refine fV (XQ []) (aos T A b F R D C N ks) (dG ?_);refine⟨cW,fun s' ek=>dh ek ?_⟩;refine fk (i:=0) U ?_;refine oP (gf:=81) (lb:=[P 9]) U U U U U (WQ T A b F R D C N ks hl) ?_;rintro v h n ⟨ls,hp,rfl,rfl,rfl⟩;cases ls with
 |nil=>
  refine⟨U,?_⟩;refine eZ (XQ []) (aou T A b F R D C N ks) (dG ?_);exact⟨cW,_,_,_,rfl,[],hp,rfl,rfl,rfl⟩
 |cons x xs=>
  refine⟨U,?_⟩;refine eZ (XQ []) (aot T A b F R D C N ks (x::xs).length (strs (x::xs))) (dG ?_);exact⟨cW,_,_,_,rfl,x::xs,hp,rfl,rfl,rfl⟩
theorem WR(hl:ks.length<=1000000):gh ak 79 [g81] (xI T A b F R D C N ks []) 10 (RSe T A b F R D C N ks):=by
 refine gO mo po Tryz.func79 (code:=LY) U U ?_;refine iw  1 (XQ []) (aov T A b F R D C N ks) cW ?_;refine c6 U ?_;refine qC 1 (s1:={ S:=(BB [(0,g81)]).set 3 (some g81),h:=xI T A b F R D C N ks [],n:=10,gD:=[] }) (f:=100) (args:=[eM,g81]) U U U U U U (Tb T A b F R D C N ks hl) ?_;rintro v h n ⟨ls,hp,rfl,rfl,rfl⟩;cases ls with
 |nil=>
  refine⟨(((BB [(0,g81)]).set 3 (some g81)).set 4 (some eM)),sC8 (xI T A b F R D C N ks []) 10 eM,U,U,?_⟩;refine eZ (XQ []) (aox T A b F R D C N ks) (dG ?_);exact⟨cW,_,_,_,rfl,[],hp,rfl,rfl,rfl⟩
 |cons x xs=>
  refine⟨(((BB [(0,g81)]).set 3 (some g81)).set 4 (some (.dx (some (10,0)) (x::xs).length (x::xs).length 1))),sC8 (xI T A b F R D C N ks [(10,.deep (strs (x::xs)))]) 11 (.dx (some (10,0)) (x::xs).length (x::xs).length 1),U,U,?_⟩;refine eZ (XQ []) (aow T A b F R D C N ks (x::xs).length (strs (x::xs))) (dG ?_);exact⟨cW,_,_,_,rfl,x::xs,hp,rfl,rfl,rfl⟩
theorem WS(zs:List (B))(hl:ks.length<1000000)(td:Vb C)(hn:∀x,0<=jF C x/\jF C x<1000000000)(hz:List.Perm zs ks)(hs:zs.Pairwise fun a b=>jF C a<jF C b):
  c5 ak 54 [g81,g56] (xI T A b F R D C N ks []) 10 (HL 10 zs) (xI T A b F R D C N ks (s8 10 zs)) (nK 10 zs):=by
 refine c7 Tryz.func54 (code:=LX) U U ?_;refine iw  1 (XQ []) (aoy T A b F R D C N ks) cW ?_;refine c6 U ?_;refine qC 1 (s1:={ S:=(BB [(0,g81),(1,g56)]).set 6 (some g81),h:=xI T A b F R D C N ks [],n:=10,gD:=[] }) (f:=79) (args:=[g81]) U U U U U U (WR T A b F R D C N ks (Nat.le_of_lt hl)) ?_;rintro v h n ⟨ls,hp,rfl,rfl,rfl⟩;have H9:List.Perm zs ls:=hz.trans hp.symm;have ja:ls.length<1000000:=by rw[hp.length_eq];exact hl
 cases ls with
 |nil=>
  have:zs=[]:=H9.eq_nil;subst this;refine⟨(((BB [(0,g81),(1,g56)]).set 6 (some g81)).set 7 (some eM)),sS8 (xI T A b F R D C N ks []) 10 eM,U,U,?_⟩;refine eZ (XQ []) (ahj T A b F R D C N ks) (dG ?_);exact⟨eS ⟨dP,dP⟩,_,_,_,rfl,rfl,rfl,rfl⟩
 |cons x xs=>
  have hzn:zs.length=(x::xs).length:=H9.length_eq;have X:HL 10 zs= .dx (some (10,0)) zs.length zs.length 1/\s8 10 zs=[(10,.deep (strs zs))]/\nK 10 zs=11:=by
   cases zs with
   |nil=>cases hzn
   |cons z zs=>exact⟨rfl,rfl,rfl⟩
  rw[X.1,X.2.1,X.2.2,hzn];refine⟨(((BB [(0,g81),(1,g56)]).set 6 (some g81)).set 7 (some (.dx (some (10,0)) (x::xs).length (x::xs).length 1))),sS8 (xI T A b F R D C N ks [(10,.deep (strs (x::xs)))]) 11 (.dx (some (10,0)) (x::xs).length (x::xs).length 1),U,U,?_⟩;obtain⟨L5,yl⟩:=ahi T A b F R D C N ks (x::xs).length (strs (x::xs)) (strs zs);have J:c5 ak 80 [.dx (some (10,0)) (x::xs).length (x::xs).length 1,g56] (xI T A b F R D C N ks [(10,.deep (strs (x::xs)))]) 11 (.ew []) ((xI T A b F R D C N ks [(10,.deep (strs (x::xs)))]).set 10 (some (.deep (strs zs)))) 11:=
   abW (bx:=7) (st:=3) (c:=5) (Q:=vW 4 5 6 (pS T A b F R D C N)) (x::xs) zs U dP U U rfl U td hn (Nat.succ_pos _) ja H9 hs dP dP dP
  refine ij ((XQ []).jG (ax U) J) mo _ U yl (dG ?_);exact⟨eS ⟨rfl,rfl,rfl⟩,_,_,_,rfl,rfl,rfl,rfl⟩
end
noncomputable abbrev hd4:Code:=eU 4 uP
noncomputable abbrev Vc:Code:=dw 4 uP
noncomputable abbrev A2:Code:=dw 5 uP
section
variable(T A:Nat)(b:B)(F R D:Int)[eB](C N:ae)(ks:List (B))
def lH1:af:=lC T A b F R D C N
def lH2:af:=lC T A b F R D C N++[(20,.dy none (ou ks))]
def lH3(row:af):af:=lC T A b F R D C N++[(20,.dy none (ou ks)),(21,.cells [.map (some 20)])]++row
end
section
variable(T A:Nat)(b:B)(F R D:Int)
theorem aoC[eB](C N:ae)(ks:List (B))(n:Nat)(Q:ai):dc (fF (fF (mD []) 51 [P3,v78] (K (lH1 T A b F R (wL D) C N)) 20 (.map (some 20),K (lH2 T A b F R (wL D) C N ks),21)) 54 [v81,v56] (K (lH3 T A b F R (wL D) C N ks [])) 22 (.dx (some (22,0)) n n 1,K (lH3 T A b F R (wL D) C N ks [(22,.deep Q)]),23)) [] 7 Tryz.f19 [1,3,4] (hd4) (cZ [P3] (dN (pS T A b F R D C N)) 7) [([],[gS=gS,gR=gR,false=false,Ic eB.on D,([.ptr (some (3,0)),.fn (.func 78) [] [.ptr (some (19,0))]]:ag)=[.ptr (some (3,0)),.fn (.func 78) [] [.ptr (some (19,0))]]/\(K [(0,.ints .u32 gS),(1,.ints .u32 gR),(3,.cells [.dx (some (4,0)) T A 1,.int .i64 F,.map (some 5),.map (some 6),.int .i64 R,.bool false,.bool (eB.on),.int .i64 ((Qq eB.on D))]),(4,.ia 5 false b),(5,.dy none C),(6,.dy none N),(7,.cells [.ptr (some (3,0))]),(19,.cells [.map (some 6)])])=(K [(0,.ints .u32 gS),(1,.ints .u32 gR),(3,.cells [.dx (some (4,0)) T A 1,.int .i64 F,.map (some 5),.map (some 6),.int .i64 R,.bool false,.bool (eB.on),.int .i64 (wL D)]),(4,.ia 5 false b),(5,.dy none C),(6,.dy none N),(7,.cells [.ptr (some (3,0))]),(19,.cells [.map (some 6)])])/\20=20,fC [.fn (.func 81) [] [.ptr (some (21,0))],.fn (.func 56) [] [.ptr (some (7,0))]] (K [(0,.ints .u32 gS),(1,.ints .u32 gR),(3,.cells [.dx (some (4,0)) T A 1,.int .i64 F,.map (some 5),.map (some 6),.int .i64 R,.bool false,.bool (eB.on),.int .i64 (wL D)]),(4,.ia 5 false b),(5,.dy none C),(6,.dy none N),(7,.cells [.ptr (some (3,0))]),(19,.cells [.map (some 6)]),(20,.dy none (ou ks)),(21,.cells [.map (some 20)])]) 22],eP (eL [(1,.ptr (some (7,0))),(3,.dx (some (8,0)) n n 1),(4,.dx none 0 0 0)] (K [(0,.ints .u32 gS),(1,.ints .u32 gR),(3,.cells [.dx (some (4,0)) T A 1,.int .i64 F,.map (some 5),.map (some 6),.int .i64 R,.bool false,.bool (eB.on),.int .i64 (wL D)]),(4,.ia 5 false b),(5,.dy none C),(6,.dy none N),(7,.cells [.ptr (some (3,0))]),(8,.deep Q)]) 9))]:=cT.ef
theorem aoD[eB](C N:ae)(ks:List (B)):dc (fF (fF (mD []) 51 [P3,v78] (K (lH1 T A b F R (wL D) C N)) 20 (.map (some 20),K (lH2 T A b F R (wL D) C N ks),21)) 54 [v81,v56] (K (lH3 T A b F R (wL D) C N ks [])) 22 (eM,K (lH3 T A b F R (wL D) C N ks []),22)) [] 7 Tryz.f19 [1,3,4] (hd4) (cZ [P3] (dN (pS T A b F R D C N)) 7) [([],[gS=gS,gR=gR,false=false,Ic eB.on D,([.ptr (some (3,0)),.fn (.func 78) [] [.ptr (some (19,0))]]:ag)=[.ptr (some (3,0)),.fn (.func 78) [] [.ptr (some (19,0))]]/\(K [(0,.ints .u32 gS),(1,.ints .u32 gR),(3,.cells [.dx (some (4,0)) T A 1,.int .i64 F,.map (some 5),.map (some 6),.int .i64 R,.bool false,.bool (eB.on),.int .i64 ((Qq eB.on D))]),(4,.ia 5 false b),(5,.dy none C),(6,.dy none N),(7,.cells [.ptr (some (3,0))]),(19,.cells [.map (some 6)])])=(K [(0,.ints .u32 gS),(1,.ints .u32 gR),(3,.cells [.dx (some (4,0)) T A 1,.int .i64 F,.map (some 5),.map (some 6),.int .i64 R,.bool false,.bool (eB.on),.int .i64 (wL D)]),(4,.ia 5 false b),(5,.dy none C),(6,.dy none N),(7,.cells [.ptr (some (3,0))]),(19,.cells [.map (some 6)])])/\20=20,fC [.fn (.func 81) [] [.ptr (some (21,0))],.fn (.func 56) [] [.ptr (some (7,0))]] (K [(0,.ints .u32 gS),(1,.ints .u32 gR),(3,.cells [.dx (some (4,0)) T A 1,.int .i64 F,.map (some 5),.map (some 6),.int .i64 R,.bool false,.bool (eB.on),.int .i64 (wL D)]),(4,.ia 5 false b),(5,.dy none C),(6,.dy none N),(7,.cells [.ptr (some (3,0))]),(19,.cells [.map (some 6)]),(20,.dy none (ou ks)),(21,.cells [.map (some 20)])]) 22],eP (eL [(1,.ptr (some (7,0))),(3,.dx none 0 0 0),(4,.dx none 0 0 0)] (K [(0,.ints .u32 gS),(1,.ints .u32 gR),(3,.cells [.dx (some (4,0)) T A 1,.int .i64 F,.map (some 5),.map (some 6),.int .i64 R,.bool false,.bool (eB.on),.int .i64 (wL D)]),(4,.ia 5 false b),(5,.dy none C),(6,.dy none N),(7,.cells [.ptr (some (3,0))])]) 8))]:=cT.ef
end
section
variable(T A:Nat)(b:B)(F R D:Int)[eB](C N:ae)(zs:List (B))(i:Nat)(bs:B)
def acr:St:=eL [(1,P 7),(4,eM),(26,.dx (some (8,0)) zs.length zs.length 1),(27,.int .i64 (Int.ofNat zs.length)),(28,.int .i64 0)] (K (fM (pS T A b F R D C N)++[(7,.cells [P3]),(8,.deep (strs zs))])) 9
def sHk:St:=eL [(1,P 7),(4,.dx (some (8,0)) bs.length bs.length 1),(26,.dx (some (9,0)) zs.length zs.length 1),(27,.int .i64 (Int.ofNat zs.length)),(28,.int .i64 (Int.ofNat i))] (K (fM (pS T A b F R D C N)++[(7,.cells [P3]),(8,.ia 5 false bs),(9,.deep (strs zs))])) 10
def Vd:St:=eL [(1,P 7),(4,.dx (some (8,0)) bs.length bs.length 1)] (K (fM (pS T A b F R D C N)++[(7,.cells [P3]),(8,.ia 5 false bs)])) 9
def sHn:St:=eL [(1,P 7),(4,eM)] (K (fM (pS T A b F R D C N)++[(7,.cells [P3])])) 8
end
theorem aoE(T A:Nat)(b:B)(F R D:Int)[eB](C N:ae)(zs:List (B)):dc (mD []) [(28,.di (.int .i64 (Int.ofNat 0)))] 7 Tryz.f19 [1,4,26,27,28] (dS (dS Vc)) (eL [(1,P 7),(3,.dx (some (8,0)) zs.length zs.length 1),(4,eM)] (K (fM (pS T A b F R D C N)++[(7,.cells [P3]),(8,.deep (strs zs))])) 9) [([],[V.int aj (0:Int)=V.int aj (0:Int)],eP (acr T A b F R D C N zs))]:=cT.ef
abbrev Tc(C:ae)(x d:B)(O:List (B))(k:Int):Prop:=(if false=true then V.ew [lf.fI (V.agg [V.str ([]:B),V.dx none 0 0 0,V.int aj (0:Int)]) (dj (lf.str x) C),V.bool (dj (lf.str x) C).isSome]else lf.fI (V.agg [V.str ([]:B),V.dx none 0 0 0,V.int aj (0:Int)]) (dj (lf.str x) C))=nW d O k
section
variable(T A:Nat)(b:B)(F R D:Int)
theorem aoF[eB](C N:ae)(zs:List (B))(x d:B)(O:List (B))(k:Int):dc BD [(29,.split),(31,.di (.str x)),(38,.di (nW d O k)),(45,.di (nW d O k))] 7 Tryz.f19 [1,4,26,27,28] (dD (dD (dU (dS Vc)))) (acr T A b F R D C N zs) (iU (decide ((0:Int)<Int.ofNat zs.length)) ([(0:Int)<=(0:Int)/\(0:Int)<(Int.ofNat zs.length),0<(strs zs).length,((strs zs).getD 0 lf.vc).iZ=V.str x,Tc C x d O k,Tc C x d O k,strs O=strs (dI (strs O)),O.length=(dI (strs O)).length,d.length<=100000000,O.length<=1000000,(dI (strs O)).flatten.length<=100000000,0<(gM d (dI (strs O))).length,fa (gM d (dI (strs O))).length 1 1=true],eP (eL [(1,.ptr (some (7,0))),(4,.dx (some (8,0)) ((gM d (dI (strs O))).length) ((gM d (dI (strs O))).length) 1),(26,.dx (some (9,0)) (zs.length) (zs.length) 1),(27,.int .i64 (Int.ofNat zs.length)),(28,.int .i64 1)] (K [(0,.ints .u32 gS),(1,.ints .u32 gR),(3,.cells [.dx (some (4,0)) T A 1,.int .i64 F,.map (some 5),.map (some 6),.int .i64 R,.bool false,.bool (eB.on),.int .i64 D]),(4,.ia 5 false b),(5,.dy none C),(6,.dy none N),(7,.cells [.ptr (some (3,0))]),(8,.ia 5 false (gM d (dI (strs O)))),(9,.deep (strs zs))]) 10)) ([],.to (.exit 0) (eL [(1,.ptr (some (7,0))),(4,.dx none 0 0 0),(26,.dx (some (8,0)) (zs.length) (zs.length) 1),(27,.int .i64 (Int.ofNat zs.length)),(28,.int .i64 0)] (K [(0,.ints .u32 gS),(1,.ints .u32 gR),(3,.cells [.dx (some (4,0)) T A 1,.int .i64 F,.map (some 5),.map (some 6),.int .i64 R,.bool false,.bool (eB.on),.int .i64 D]),(4,.ia 5 false b),(5,.dy none C),(6,.dy none N),(7,.cells [.ptr (some (3,0))]),(8,.deep (strs zs))]) 9))):=cT.ef
abbrev Td(C:ae)(x d:B)(O:List (B))(k:Int):Prop:=(if false=true then V.ew [lf.fI (V.agg [V.str ([]:B),V.dx none 0 0 0,V.int aj (0:Int)]) (dj (lf.str x) C),V.bool (dj (lf.str x) C).isSome]else lf.fI (V.agg [V.str ([]:B),V.dx none 0 0 0,V.int aj (0:Int)]) (dj (lf.str x) C))=nW d O k
theorem aoG[eB](C N:ae)(zs:List (B))(i:Nat)(x d:B)(O:List (B))(k:Int)(bs:B):dc BD [(29,.split),(31,.di (.str x)),(38,.di (nW d O k)),(45,.di (nW d O k)),(49,.di (.int .i64 (Int.ofNat (i+1))))] 7 Tryz.f19 [1,4,26,27,28] (dD (dD (dU (dS Vc)))) (sHk T A b F R D C N zs i bs) (iU (decide (Int.ofNat i<Int.ofNat zs.length)) ([kJ i zs.length,0+i*1<(strs zs).length,((strs zs).getD (0+i*1) lf.vc).iZ=V.str x,Td C x d O k,Td C x d O k,strs O=strs (dI (strs O)),O.length=(dI (strs O)).length,d.length<=100000000,O.length<=1000000,(dI (strs O)).flatten.length<=100000000,0<bs.length,bs.length=bs.length,fa (bs.length+(gM d (dI (strs O))).length) 1 1=true,lA (Int.ofNat i+(1:Int)) (i+1)],eP (eL [(1,.ptr (some (7,0))),(4,.dx (some (8,0)) (bs.length+(gM d (dI (strs O))).length) (bs.length+(gM d (dI (strs O))).length) 1),(26,.dx (some (9,0)) (zs.length) (zs.length) 1),(27,.int .i64 (Int.ofNat zs.length)),(28,.int .i64 (Int.ofNat (i+1)))] (K [(0,.ints .u32 gS),(1,.ints .u32 gR),(3,.cells [.dx (some (4,0)) T A 1,.int .i64 F,.map (some 5),.map (some 6),.int .i64 R,.bool false,.bool (eB.on),.int .i64 D]),(4,.ia 5 false b),(5,.dy none C),(6,.dy none N),(7,.cells [.ptr (some (3,0))]),(8,.ia 5 false (bs++eW (eo (gM d (dI (strs O)))))),(9,.deep (strs zs))]) 10)) ([],.to (.exit 0) (eL [(1,.ptr (some (7,0))),(4,.dx (some (8,0)) (bs.length) (bs.length) 1),(26,.dx (some (9,0)) (zs.length) (zs.length) 1),(27,.int .i64 (Int.ofNat zs.length)),(28,.int .i64 (Int.ofNat i))] (K [(0,.ints .u32 gS),(1,.ints .u32 gR),(3,.cells [.dx (some (4,0)) T A 1,.int .i64 F,.map (some 5),.map (some 6),.int .i64 R,.bool false,.bool (eB.on),.int .i64 D]),(4,.ia 5 false b),(5,.dy none C),(6,.dy none N),(7,.cells [.ptr (some (3,0))]),(8,.ia 5 false bs),(9,.deep (strs zs))]) 10))):=cT.ef
theorem aoH[eB](C N:ae)(zs:List (B))(i:Nat)(bs:B):dc BD [(29,.di (.bool false))] 7 Tryz.f19 [1,4] (dD (dD (dU (dS Vc)))) (sHk T A b F R D C N zs i bs) [([],[jC (decide (Int.ofNat i<Int.ofNat zs.length))],.to (.exit 0) (eL [(1,.ptr (some (7,0))),(4,.dx (some (8,0)) (bs.length) (bs.length) 1)] (K [(0,.ints .u32 gS),(1,.ints .u32 gR),(3,.cells [.dx (some (4,0)) T A 1,.int .i64 F,.map (some 5),.map (some 6),.int .i64 R,.bool false,.bool (eB.on),.int .i64 D]),(4,.ia 5 false b),(5,.dy none C),(6,.dy none N),(7,.cells [.ptr (some (3,0))]),(8,.ia 5 false bs)]) 9))]:=cT.ef
theorem aoI[eB](C N:ae):dc (mD []) [] 7 Tryz.f19 [1,4] (dS Vc) (eL [(1,P 7),(3,eM),(4,eM)] (K (fM (pS T A b F R D C N)++[(7,.cells [P3])])) 8) [([],[],eP (sHn T A b F R D C N))]:=cT.ef
end
section
variable(T A:Nat)(b:B)(F R D:Int)[eB](C N:ae)(zs:List (B))(i:Nat)(bs:B)
def lHe:af:=fM (pS T A b F R D C N)++[(7,.cells [P3]),(8,.ia 5 false bs)]
def sHr:St:=eL [(1,P 7),(4,.dx (some (8,0)) bs.length bs.length 1),(51,.dx (some (9,0)) zs.length zs.length 1),(52,.int .i64 (Int.ofNat zs.length)),(53,.int .i64 (Int.ofNat i))] (K (fM (pS T A b F R D C N)++[(7,.cells [P3]),(8,.ia 5 false bs),(9,.deep (strs zs))])) 10
end
section
variable(b:B)(R D:Int)[eB](C N:ae)(bs:B)
def l3b(F:Int):af:=[(0,.ints .u32 gS),(1,.ints .u32 gR),(3,.cells [.dx (some (7,0)) bs.length bs.length 1,.int .i64 F,.map (some 5),.map (some 6),.int .i64 R,.bool false,.bool eB.on,.int .i64 D]),(4,.ia 5 false b),(5,.dy none C),(6,.dy none N),(7,.ia 5 false bs),(8,.cells [P3])]
def l3r(m:Nat)(c:af)(JH:Int)(nw nA:ae):af:=[(0,.ints .u32 gS),(1,.ints .u32 gR),(3,.cells [.dx (some (7,0)) bs.length bs.length 1,.int .i64 (Int.ofNat bs.length),.map (some m),.map (some (m+1)),.int .i64 JH,.bool false,.bool eB.on,.int .i64 D]),(4,.ia 5 false b),(5,.dy none C),(6,.dy none N),(7,.ia 5 false bs)]++c++[(m,.dy none nw),(m+1,.dy none nA)]
def l3e:af:=[(0,.ints .u32 gS),(1,.ints .u32 gR),(3,.cells [eM,.int .i64 0,.map (some 5),.map (some 6),.int .i64 R,.bool false,.bool eB.on,.int .i64 D]),(4,.ia 5 false b),(5,.dy none C),(6,.dy none []),(7,.cells [P3])]
def l3f(m:Nat)(c:af):af:=[(0,.ints .u32 gS),(1,.ints .u32 gR),(3,.cells [eM,.int .i64 0,.map (some m),.map (some (m+1)),.int .i64 0,.bool false,.bool eB.on,.int .i64 D]),(4,.ia 5 false b),(5,.dy none C),(6,.dy none [])]++c++[(m,.dy none []),(m+1,.dy none [])]
end
section
variable(T A:Nat)(b:B)(F R D:Int)
theorem aoJ[eB](C N:ae)(zs:List (B))(bs:B):dc (fF BD 23 [P3] (K (lHe T A b F R D C N bs)) 9 (.dx (some (9,0)) zs.length zs.length 1,K (lHe T A b F R D C N bs++[(9,.deep (strs zs))]),10)) [(53,.di (.int .i64 (Int.ofNat 0)))] 7 Tryz.f19 [1,4,51,52,53] (dS (dS A2)) (Vd T A b F R D C N bs) [([],[fC [.ptr (some (3,0))] (K [(0,.ints .u32 gS),(1,.ints .u32 gR),(3,.cells [.dx (some (4,0)) T A 1,.int .i64 F,.map (some 5),.map (some 6),.int .i64 R,.bool false,.bool (eB.on),.int .i64 D]),(4,.ia 5 false b),(5,.dy none C),(6,.dy none N),(7,.cells [.ptr (some (3,0))]),(8,.ia 5 false bs)]) 9,V.int aj (0:Int)=V.int aj (0:Int)],eP (eL [(1,.ptr (some (7,0))),(4,.dx (some (8,0)) (bs.length) (bs.length) 1),(51,.dx (some (9,0)) (zs.length) (zs.length) 1),(52,.int .i64 ((Int.ofNat zs.length))),(53,.int .i64 0)] (K [(0,.ints .u32 gS),(1,.ints .u32 gR),(3,.cells [.dx (some (4,0)) T A 1,.int .i64 F,.map (some 5),.map (some 6),.int .i64 R,.bool false,.bool (eB.on),.int .i64 D]),(4,.ia 5 false b),(5,.dy none C),(6,.dy none N),(7,.cells [.ptr (some (3,0))]),(8,.ia 5 false bs),(9,.deep (strs zs))]) 10))]:=cT.ef
theorem ahm[eB](C N:ae)(x:B)(bs:B):dc (fF BD 23 [P3] (K (lHe T A b F R D C N bs)) 9 (.dx (some (9,0)) 1 1 1,K (lHe T A b F R D C N bs++[(9,.cells [.str x])]),10)) [(53,.di (.int .i64 (Int.ofNat 0)))] 7 Tryz.f19 [1,4,51,52,53] (dS (dS A2)) (Vd T A b F R D C N bs) [([],[fC [.ptr (some (3,0))] (K [(0,.ints .u32 gS),(1,.ints .u32 gR),(3,.cells [.dx (some (4,0)) T A 1,.int .i64 F,.map (some 5),.map (some 6),.int .i64 R,.bool false,.bool (eB.on),.int .i64 D]),(4,.ia 5 false b),(5,.dy none C),(6,.dy none N),(7,.cells [.ptr (some (3,0))]),(8,.ia 5 false bs)]) 9,V.int aj (0:Int)=V.int aj (0:Int)],eP (eL [(1,.ptr (some (7,0))),(4,.dx (some (8,0)) (bs.length) (bs.length) 1),(51,.dx (some (9,0)) 1 1 1),(52,.int .i64 1),(53,.int .i64 0)] (K [(0,.ints .u32 gS),(1,.ints .u32 gR),(3,.cells [.dx (some (4,0)) T A 1,.int .i64 F,.map (some 5),.map (some 6),.int .i64 R,.bool false,.bool (eB.on),.int .i64 D]),(4,.ia 5 false b),(5,.dy none C),(6,.dy none N),(7,.cells [.ptr (some (3,0))]),(8,.ia 5 false bs),(9,.cells [.str x])]) 10))]:=cT.ef
theorem aoK[eB](C N:ae)(zs:List (B))(i:Nat)(x d:B)(bs:B):dc BD [(54,.split),(56,.di (.str x)),(64,.di (.str d)),(67,.di (.int .i64 (Int.ofNat (i+1))))] 7 Tryz.f19 [1,4,51,52,53] (dD (dD (dU (dS A2)))) (sHr T A b F R D C N zs i bs) (iU (decide (Int.ofNat i<Int.ofNat zs.length)) ([kJ i zs.length,0+i*1<(strs zs).length,((strs zs).getD (0+i*1) lf.vc).iZ=V.str x,(if false=true then V.ew [lf.fI (V.str ([]:B)) (dj (lf.str x) N),V.bool (dj (lf.str x) N).isSome]else lf.fI (V.str ([]:B)) (dj (lf.str x) N))=V.str d,x.length<100000000,d.length<100000000,0<bs.length,bs.length=bs.length,fa (bs.length+(jP x d).length) 1 1=true,lA (Int.ofNat i+(1:Int)) (i+1)],eP (eL [(1,.ptr (some (7,0))),(4,.dx (some (8,0)) (bs.length+(jP x d).length) (bs.length+(jP x d).length) 1),(51,.dx (some (9,0)) (zs.length) (zs.length) 1),(52,.int .i64 (Int.ofNat zs.length)),(53,.int .i64 (Int.ofNat (i+1)))] (K [(0,.ints .u32 gS),(1,.ints .u32 gR),(3,.cells [.dx (some (4,0)) T A 1,.int .i64 F,.map (some 5),.map (some 6),.int .i64 R,.bool false,.bool (eB.on),.int .i64 D]),(4,.ia 5 false b),(5,.dy none C),(6,.dy none N),(7,.cells [.ptr (some (3,0))]),(8,.ia 5 false (bs++eW (eo (jP x d)))),(9,.deep (strs zs))]) 10)) ([],.to (.exit 2) (eL [(1,.ptr (some (7,0))),(4,.dx (some (8,0)) (bs.length) (bs.length) 1),(51,.dx (some (9,0)) (zs.length) (zs.length) 1),(52,.int .i64 (Int.ofNat zs.length)),(53,.int .i64 (Int.ofNat i))] (K [(0,.ints .u32 gS),(1,.ints .u32 gR),(3,.cells [.dx (some (4,0)) T A 1,.int .i64 F,.map (some 5),.map (some 6),.int .i64 R,.bool false,.bool (eB.on),.int .i64 D]),(4,.ia 5 false b),(5,.dy none C),(6,.dy none N),(7,.cells [.ptr (some (3,0))]),(8,.ia 5 false bs),(9,.deep (strs zs))]) 10))):=cT.ef
theorem ahn[eB](C N:ae)(zs:List (B))(i:Nat)(bs:B):dc BD [(54,.di (.bool false))] 7 Tryz.f19 [1,4] (dD (dD (dU (dS A2)))) (sHr T A b F R D C N zs i bs) [([],[jC (decide (Int.ofNat i<Int.ofNat zs.length))],.to (.exit 2) (eL [(1,.ptr (some (7,0))),(4,.dx (some (8,0)) (bs.length) (bs.length) 1)] (K [(0,.ints .u32 gS),(1,.ints .u32 gR),(3,.cells [.dx (some (4,0)) T A 1,.int .i64 F,.map (some 5),.map (some 6),.int .i64 R,.bool false,.bool (eB.on),.int .i64 D]),(4,.ia 5 false b),(5,.dy none C),(6,.dy none N),(7,.cells [.ptr (some (3,0))]),(8,.ia 5 false bs)]) 9))]:=cT.ef
theorem aho[eB](C N:ae)(bs:B):dc BD [] 7 Tryz.f19 [1] (eU 3 (dU A2)) (Vd T A b F R D C N bs) [([],[gS=gS,gR=gR,false=false,Ic eB.on D],eP (eL [(1,.ptr (some (8,0)))] (K (l3b b R (wL D) C N bs (Int.ofNat bs.length))) 9))]:=cT.ef
theorem ahp[eB](C:ae):dc (fF BD 23 [P3] (K (fM (pS T A b F R D C [])++[(7,.cells [P3])])) 8 (eM,K (fM (pS T A b F R D C [])++[(7,.cells [P3])]),8)) [] 7 Tryz.f19 [1,4] (dS A2) (sHn T A b F R D C []) [([],[fC [.ptr (some (3,0))] (K [(0,.ints .u32 gS),(1,.ints .u32 gR),(3,.cells [.dx (some (4,0)) T A 1,.int .i64 F,.map (some 5),.map (some 6),.int .i64 R,.bool false,.bool (eB.on),.int .i64 D]),(4,.ia 5 false b),(5,.dy none C),(6,.dy none []),(7,.cells [.ptr (some (3,0))])]) 8],eP (eL [(1,.ptr (some (7,0))),(4,.dx none 0 0 0)] (K [(0,.ints .u32 gS),(1,.ints .u32 gR),(3,.cells [.dx (some (4,0)) T A 1,.int .i64 F,.map (some 5),.map (some 6),.int .i64 R,.bool false,.bool (eB.on),.int .i64 D]),(4,.ia 5 false b),(5,.dy none C),(6,.dy none []),(7,.cells [.ptr (some (3,0))])]) 8))]:=cT.ef
theorem ahq[eB](C:ae):dc BD [] 7 Tryz.f19 [1] (eU 3 (dU A2)) (sHn T A b F R D C []) [([],[gS=gS,gR=gR,false=false,Ic eB.on D],eP (eL [(1,.ptr (some (7,0)))] (K (l3e b R (wL D) C)) 8))]:=cT.ef
theorem ahr[eB](C N:ae)(bs:B)(JH:Int)(nw nA:ae):dc (fF BD 57 [P3] (K (l3b b R D C N bs (Int.ofNat bs.length))) 9 (.ew [],K (l3r b D C N bs 9 [(8,.cells [P3])] JH nw nA),11)) [] 7 Tryz.f19 [] (dw 3 (dU A2)) (eL [(1,.ptr (some (8,0)))] (K (l3b b R D C N bs (Int.ofNat bs.length))) 9) [([],[fC [.ptr (some (3,0))] (K [(0,.ints .u32 gS),(1,.ints .u32 gR),(3,.cells [.dx (some (7,0)) (bs.length) (bs.length) 1,.int .i64 (Int.ofNat bs.length),.map (some 5),.map (some 6),.int .i64 R,.bool false,.bool (eB.on),.int .i64 D]),(4,.ia 5 false b),(5,.dy none C),(6,.dy none N),(7,.ia 5 false bs),(8,.cells [.ptr (some (3,0))])]) 9],.ret (.int .i64 0) (K (l3r b D C N bs 8 [] JH nw nA)) 10)]:=cT.ef
end
theorem ahs(b:B)(R D:Int)[eB](C:ae):dc (fF BD 57 [P3] (K (l3e b R D C)) 8 (.ew [],K (l3f b D C 8 [(7,.cells [P3])]),10)) [] 7 Tryz.f19 [] (dw 3 (dU A2)) (eL [(1,.ptr (some (7,0)))] (K (l3e b R D C)) 8) [([],[fC [.ptr (some (3,0))] (K [(0,.ints .u32 gS),(1,.ints .u32 gR),(3,.cells [.dx none 0 0 0,.int .i64 0,.map (some 5),.map (some 6),.int .i64 R,.bool false,.bool (eB.on),.int .i64 D]),(4,.ia 5 false b),(5,.dy none C),(6,.dy none []),(7,.cells [.ptr (some (3,0))])]) 8],.ret (.int .i64 0) (K (l3f b D C 7 [])) 9)]:=cT.ef
def Te(ns:List (Option Nat))(l:af):af->List (Option rs):=List.map fun q=>match ns.getD q.1 none with
 |some m=>match(K l).get m with
  |some o=>o.rn (mu ns)
  |none=>none
 |none=>none
theorem jQ{ns:List (Option Nat)}{l l1:af}(ht:(l1.all fun q=>Nat.blt q.1 fW)=true)(hg:(kf.all fun p=>decide (ns.getD p.2 none=some p.2))=true)(hn:nQ ns=true)
  (hv:(ns.all fun x=>match x with|none=>true|some m=>(kf.any fun p=>decide (p.2=m))||((K l).get m).isSome)=true) (he:Te ns l l1=l1.map fun q=>some q.2):vS ns (K l) (K l1):=by
 refine AW (fun p hp=>ax (bt.1 ht p hp)) (fun p hp=>aI (bt.1 hg p hp)) hn (fun j m hj=>?_) fun p hp=>?_
 . have W:some m∈ns:=by
    rw[aO]at hj;cases M:ns[j]? with
    |none=>rw[M]at hj;cases hj
    |some x=>rw[M]at hj;simp only[Option.getD_some]at hj;subst hj;exact bg M
   have:=bt.1 hv _ W;simp only[bV,List.any_eq_true]at this;rcases this with⟨p,hp,WT⟩|h
   . exact .inl ⟨p,hp,aI WT⟩
   . exact .inr (Option.isSome_iff_ne_none.1 h)
 . have:(match ns.getD p.1 none with
    |some m=>match(K l).get m with
     |some o=>o.rn (mu ns)
     |none=>none
    |none=>none)=some p.2:=List.map_inj_left.1 he p hp
   split at this
   . rename_i m W;split at this
     . rename_i o ho;exact⟨m,o,W,ho,this⟩
     . cases this
   . cases this
section
variable(T A:Nat)(b:B)(F R D:Int)[eB](C N:ae)
def aoL:List (Option Nat):=[some 0,some 1,some 2,some 3,some 4,some 5,some 6,some 19]
def aht:List (Option Nat):=[some 0,some 1,some 2,some 3,some 4,some 5,some 6,some 7,some 20,some 21]
theorem c51(k:Nat)(Ie:EC N)(he:∀d∈iV N,Ends C k d):c5 ak 51 [P3,v78] (K (lH1 T A b F R D C N)) 20 (.map (some 20)) (K (lH2 T A b F R D C N (qv C N k))) 21:=by
 have J:=NK T A b F R D C N k Ie he;generalize qv C N k=ks at J ⊢;refine gk (ns:=aoL) (jQ U U U U U) U U J
theorem c54(ks zs:List (B))(hl:ks.length<1000000)(td:Vb C)(hn:∀x,0<=jF C x/\jF C x<1000000000)(hz:List.Perm zs ks)(hs:zs.Pairwise fun a b=>jF C a<jF C b):
  c5 ak 54 [v81,v56] (K (lH3 T A b F R D C N ks [])) 22 (HL 22 zs) (K (lH3 T A b F R D C N ks (s8 22 zs))) (nK 22 zs):=by
 have J:=WS T A b F R D C N ks zs hl td hn hz hs;cases zs with
 |nil=>exact gk (ns:=aht) (jQ U U U U U) U U J
 |cons z zs=>exact gk (ns:=aht) (jQ U U U U U) U U J
theorem c23(bs:B)(hk:zX N)(hl:N.length<1000000):c5 ak 23 [P3] (K (lHe T A b F R D C N bs)) 9 (HL 9 (jm (dM N))) (K (lHe T A b F R D C N bs++BF 9 (jm (dM N)))) (nK 9 (jm (dM N))):=by
 have J:=HM T A b F R D C N hk hl;generalize jm (dM N)=zs at J ⊢
 match zs,J with
 | [],J=>exact gk (ns:=ns7) (jQ U U U U U) U U J
 | [x],J=>exact gk (ns:=ns7) (jQ U U U U U) U U J
 |x::y::zs,J=>exact gk (ns:=ns7) (jQ U U U U U) U U J
theorem aoM:c5 ak 23 [P3] (K (fM (pS T A b F R D C [])++[(7,.cells [P3])])) 8 eM (K (fM (pS T A b F R D C [])++[(7,.cells [P3])])) 8:=by
 have J:=HM T A b F R D C [] (fun _ h=>by cases h) dP;rw[show jm (dM [])=[]from F6]at J;exact gk (ns:=ns7) (jQ U U U U U) U U J
end
section
variable(b:B)(R D:Int)[eB](C N:ae)
theorem c57(l:List iY)(iC:∀r∈l,r.ok)(mA:(de l).length<1000000000):
  c5 ak 57 [P3] (K (l3b b R D C N (de l) (Int.ofNat (de l).length))) 9 (.ew []) (K (l3r b D C N (de l) 9 [(8,.cells [P3])] (iD l).R (iD l).C (iD l).N)) 11:=by
 have J:=NH (de l).length (de l).length (de l) (Int.ofNat (de l).length) R D C N l [] (aC _) iC (by rw[aU,cu]) (by rw[aU];exact .inl rfl) (aC _) mA;generalize de l=bs at J ⊢;generalize iD l=q at J ⊢;obtain⟨JH,nw,nA⟩:=q;exact gk (ns:=ana) (jQ U U U U U) U U J
def ahu:List (Option Nat):=[some 0,some 1,some 2,some 3,none,some 5,some 6]
theorem aoN:c5 ak 57 [P3] (K (l3e b R D C)) 8 (.ew []) (K (l3f b D C 8 [(7,.cells [P3])])) 10:=by
 have J:=HI 0 R D C [];exact gk (ns:=ahu) (jQ U U U U U) U U J
end
section
variable(C N:ae)(n:B)
def Ak(x:B):iY:=match dj (.str x) C with
 |some (.agg [.str d,.dV _ Q,_])=>.chunk d (dI Q)
 |_=>.chunk [] []
def rcV:B:=match dj (.str n) N with
 |some (.str d)=>d
 |_=>[]
def ED:iY:=.root n (rcV N n)
def JI(zs:List (B)):List iY:=zs.map (Ak C)++(jm (dM N)).map (ED N)
end
theorem HN{C:ae}{x d:B}{O:List (B)}{k:Int}(h:dj (.str x) C=some (tf d O k)):Ak C x= .chunk d O:=by
 unfold Ak;rw[h];show iY.chunk d (dI (strs O))=_;rw[iu]
theorem F7{zs:List (B)}{i:Nat}(h:i<zs.length):0+i*1<(strs zs).length/\((strs zs).getD (0+i*1) lf.vc).iZ=V.str zs[i]:=by
 refine⟨by rw[eN];omega,?_⟩;unfold strs;rw[bI,bn,aO,bu,az h];rfl
theorem v8(l:List iY)(r:iY):de (l++[r])=de l++r.bytes:=by
 unfold de;rw[aZ,ct,List.map_singleton,List.flatten_singleton]
theorem Mi(l m:List iY):de (l++m)=de l++de m:=by
 unfold de;rw[aZ,ct]
theorem A3{l:List iY}(i:Nat):(de (l.take i)).length<=(de l).length:=by
 conv=>rhs;rw[ux l i]
 rw[ay];omega
section
variable(T A:Nat)(b:B)(F R D:Int)[eB](C N:ae)
theorem WU(zs:List (B))(hz:zs≠[])(H9:zs.length<1000000)(hh:∀x∈zs,Cn C x/\(Ak C x).ok)(mA:(de (zs.map (Ak C))).length<1000000000){cs:Exit->St->Prop}
  (h:TG ak 7 Tryz.f19.ntmps (dU Vc) (Vd T A b F R D C N (de (zs.map (Ak C)))) cs):TG ak 7 Tryz.f19.ntmps Vc (eL [(1,P 7),(3,.dx (some (8,0)) zs.length zs.length 1),(4,eM)] (K (fM (pS T A b F R D C N)++[(7,.cells [P3]),(8,.deep (strs zs))])) 9) cs:=by
 refine c6 U ?_;refine c6 U ?_;refine fV (XQ []) (aoE T A b F R D C N zs) (dG ?_);refine⟨eS rfl,fun s' ek=>?_⟩;have hb:∀i,(hi:i<zs.length)->de ((zs.take (i+1)).map (Ak C))=de ((zs.take i).map (Ak C))++(Ak C zs[i]).bytes:=fun i hi=>by
  rw[bH,az hi,cF,aZ,List.map_singleton,v8]
 have kR:∀i,(de ((zs.take i).map (Ak C))).length<1000000000:=fun i=>by
  have:=A3 (l:=zs.map (Ak C)) i;rw[cN];omega
 refine ju 0 zs.length (fun i=>if i=0 then acr T A b F R D C N zs else sHk T A b F R D C N zs i (de ((zs.take i).map (Ak C)))) U U (.norm ek) (fun i hi=>?_) ?_
 . obtain⟨⟨d,O,k,he⟩,iC⟩:=hh zs[i] (b9 hi);have hrc:=HN he;have hg:=F7 hi;have zb:=hb i hi;have K3:=kR (i+1);rw[hrc]at iC zb;have Rn:d.length<=66000/\O.length<=2000/\O.flatten.length<=66000:=by
    obtain⟨X,h2,h3⟩:=iC;have:=tg h3;omega
   have Md:0<(gM d O).length:=oS (r:=.chunk d O);rw[aJ (Nat.succ_ne_zero i)];by_cases h0:i=0
   . subst h0;rw[aF rfl];refine fV XT (aoF T A b F R D C N zs zs[0] d O k) fun g uX J=>?_;simp only[iu]at uX;rcases jh uX with rfl|rfl
     . refine⟨G (⟨dP,dr⟩) (G (by have:=hg.1;omega) (G (by have:=hg.2;rwa [Nat.zero_mul,bI]at this) (G (v7 C he) (G (v7 C he) (G (trivial) (G (trivial) (G L (G L (G L (G (Md) (eS (jD (by rw[zb,ay]at K3;have:(iY.chunk d O).bytes.length=(gM d O).length:=rfl;omega))))))))))))),fun s' ek=>?_⟩;rw[zb];exact .norm ek
     . exact absurd (aK (J _ (au.2 rfl))) dr
   . rw[aJ h0];have LZ:0<(de ((zs.take i).map (Ak C))).length:=by
      obtain⟨j,rfl⟩:∃j,i=j+1:=⟨i-1,L⟩;rw[hb j L,ay];have:=oS (r:=Ak C zs[j]);omega
     rw[zb,ay]at K3;rw[zb];generalize de ((zs.take i).map (Ak C))=bs at K3 LZ ⊢;refine fV XT (aoG T A b F R D C N zs i zs[i] d O k bs) fun g uX J=>?_;simp only[iu,gu]at uX;rcases jh uX with rfl|rfl
     . refine⟨G (⟨aA _,dr⟩) (G (hg.1) (G (hg.2) (G (v7 C he) (G (v7 C he) (G (trivial) (G (trivial) (G L (G L (G L (G (LZ) (G (trivial) (G (jD (by have:(iY.chunk d O).bytes.length=(gM d O).length:=rfl;omega)) (eS (fP dr L)))))))))))))),fun s' ek=>?_⟩;unfold sHk;rw[ay];exact .norm ek
     . exact absurd (aK (J _ (au.2 rfl))) dr
 . have hz0:zs.length≠0:=fun e=>hz (cC.1 e);simp only[aJ hz0,aU];refine fV XT (aoH T A b F R D C N zs zs.length (de (zs.map (Ak C)))) fun g uX J=>?_;rw[au]at uX;subst uX;refine⟨eS (aL V.bool (bz L)),fun s' ek=>⟨by simp,?_⟩⟩;exact dh ek h
theorem NM(ws:List (B))(bs:B)(H9:ws.length<1000000)(hh:∀x∈ws,(∃d,dj (.str x) N=some (.str d))/\(ED N x).ok)(Ia:0<bs.length)(mA:bs.length+(de (ws.map (ED N))).length<1000000000){s:St}{cs:Exit->St->Prop}
  (hs:gI ak 7 Tryz.f19.ntmps s (sHr T A b F R D C N ws 0 bs)) (h:TG ak 7 Tryz.f19.ntmps (dU A2) (Vd T A b F R D C N (bs++de (ws.map (ED N)))) cs):TG ak 7 Tryz.f19.ntmps (dU (dS A2)) s (andThen (fun s'=>TG ak 7 Tryz.f19.ntmps (dU A2) s' cs) cs):=by
 have hb:∀i,(hi:i<ws.length)->de ((ws.take (i+1)).map (ED N))=de ((ws.take i).map (ED N))++(ED N ws[i]).bytes:=fun i hi=>by
  rw[bH,az hi,cF,aZ,List.map_singleton,v8]
 have kR:∀i,(de ((ws.take i).map (ED N))).length<=(de (ws.map (ED N))).length:=fun i=>by
  have:=A3 (l:=ws.map (ED N)) i;rw[cN];omega
 refine ju 2 ws.length (fun i=>sHr T A b F R D C N ws i (bs++de ((ws.take i).map (ED N)))) U U (by
  show gI ak 7 Tryz.f19.ntmps s (sHr T A b F R D C N ws 0 (bs++[]));rw[cu];exact hs) (fun i hi=>?_) ?_
 . obtain⟨⟨d,hd⟩,iC⟩:=hh ws[i] (b9 hi);have hg:=F7 hi;have zb:=hb i hi;have K3:=kR (i+1);have hrc:ED N ws[i]= .root ws[i] d:=by unfold ED rcV;rw[hd]
   rw[hrc]at iC zb;have Rn:ws[i].length<=1000/\d.length<=1000:=iC;rw[zb,ay]at K3;show TG _ _ _ _ _ (andThen (fun s'=>gI ak 7 Tryz.f19.ntmps s' (sHr T A b F R D C N ws (i+1) (bs++de ((ws.take (i+1)).map (ED N))))) _);rw[zb,<- bA];have LZ:0<(bs++de ((ws.take i).map (ED N))).length:=by rw[ay];omega
   have hbj:(bs++de ((ws.take i).map (ED N))).length+(iY.root ws[i] d).bytes.length<1000000000:=by rw[ay];omega
   generalize bs++de ((ws.take i).map (ED N))=ys at LZ hbj ⊢;refine fV XT (aoK T A b F R D C N ws i ws[i] d ys) fun g uX J=>?_;simp only[gu]at uX;rcases jh uX with rfl|rfl
   . refine⟨G (⟨aA _,dr⟩) (G (hg.1) (G (hg.2) (G (by rw[hd];rfl) (G L (G L (G (LZ) (G (trivial) (G (jD (by have:(iY.root ws[i] d).bytes.length=(jP ws[i] d).length:=rfl;omega)) (eS (fP dr L)))))))))),fun s' ek=>?_⟩;unfold sHr;rw[ay];exact .norm ek
   . exact absurd (aK (J _ (au.2 rfl))) dr
 . simp only[aU];refine fV XT (ahn T A b F R D C N ws ws.length (bs++de (ws.map (ED N)))) fun g uX J=>?_;rw[au]at uX;subst uX;refine⟨eS (aL V.bool (bz L)),fun s' ek=>⟨by simp,?_⟩⟩;exact dh ek h
theorem acu(ho:BZ D)(k:Nat)(zs:List (B))(Ie:EC N)(he:∀d∈iV N,Ends C k d)(hl:(qv C N k).length<1000000)(td:Vb C)(hn:∀x,0<=jF C x/\jF C x<1000000000)(hz:List.Perm zs (qv C N k))(hs:zs.Pairwise fun a b=>jF C a<jF C b)
  (hzo:∀x∈zs,Cn C x/\(Ak C x).ok) (xk:∀n∈jm (dM N),(∃d,dj (.str n) N=some (.str d))/\(ED N n).ok) (uY:N.length<1000000) (mA:(de (JI C N zs)).length<1000000000) (h0:zs≠[]) (X:N≠[]) {cs:Exit->St->Prop}
  (pY:TG ak 7 Tryz.f19.ntmps (dU A2) (Vd T A b F R (wL D) C N (de (JI C N zs))) cs):TG ak 7 Tryz.f19.ntmps uP (cZ [P3] (dN (pS T A b F R D C N)) 7) cs:=by
 have H9:zs.length<1000000:=by rw[hz.length_eq];exact hl
 have Tf:=c51 T A b F R (wL D) C N k Ie he;have PJ:=c54 T A b F R (wL D) C N (qv C N k) zs hl td hn hz hs;have YO:HL 22 zs= .dx (some (22,0)) zs.length zs.length 1/\s8 22 zs=[(22,.deep (strs zs))]/\nK 22 zs=23:=by
  cases zs with
  |nil=>exact absurd rfl h0
  |cons z zs=>exact⟨rfl,rfl,rfl⟩
 rw[YO.1,YO.2.1,YO.2.2]at PJ;generalize qv C N k=ks at Tf PJ;refine iw  4 (((XQ []).jG (ax U) Tf).jG (ax U) PJ) (aoC T A b F R D C N ks zs.length (strs zs)) (G rfl (G rfl (G rfl (G ho (G ⟨rfl,rfl,rfl⟩ (eS ⟨rfl,rfl,rfl⟩)))))) ?_;have e2:de (JI C N zs)=de (zs.map (Ak C))++de ((jm (dM N)).map (ED N)):=Mi _ _;have Iy:=mA;rw[e2,ay]at Iy;refine WU T A b F R (wL D) C N zs h0 H9 hzo L ?_;show TG ak 7 Tryz.f19.ntmps A2 _ _;refine c6 U ?_;refine c6 U ?_;have Ia:0<(de (zs.map (Ak C))).length:=by
  cases zs with
  |nil=>exact absurd rfl h0
  |cons z zs=>
   rw[bX,show de (Ak C z::zs.map (Ak C))=(Ak C z).bytes++de (zs.map (Ak C))from rfl,ay];have:=oS (r:=Ak C z);omega
 have KQ:zX N:=fun e h=>by obtain⟨n,d,rfl⟩:=Ie e h;exact⟨n,rfl⟩
 have ahw:=c23 T A b F R (wL D) C N (de (zs.map (Ak C))) KQ uY;have uL:(jm (dM N)).length=N.length:=by rw[tj,yA]
 rw[e2]at pY;generalize jm (dM N)=ws at *
 match ws,uL with
 | [],uL=>exact absurd (cC.1 uL.symm) X
 | [x],uL=>
   refine fV (XT.jG (ax U) ahw) (ahm T A b F R (wL D) C N x (de (zs.map (Ak C)))) (dG ?_);refine⟨G ⟨rfl,rfl,rfl⟩ (eS rfl),fun s' ek=>?_⟩;exact NM T A b F R (wL D) C N [x] _ (by rw[uL];exact uY) xk Ia L ((gI.norm ek).trans (.deep [9] U)) pY
 |x::y::ws,uL=>
  refine fV (XT.jG (ax U) ahw) (aoJ T A b F R (wL D) C N (x::y::ws) (de (zs.map (Ak C)))) (dG ?_);refine⟨G ⟨rfl,rfl,rfl⟩ (eS rfl),fun s' ek=>?_⟩;exact NM T A b F R (wL D) C N (x::y::ws) _ (by rw[uL];exact uY) xk Ia L (.norm ek) pY
theorem Tg(ho:BZ D)(l:List iY)(iC:∀r∈l,r.ok)(mA:(de l).length<1000000000):
  TG ak 7 Tryz.f19.ntmps (dU A2) (Vd T A b F R D C N (de l)) (fL ak 7 Tryz.f19 fun v h n=>v= .int .i64 0/\h=K (l3r b (wL D) C N (de l) 8 [] (iD l).R (iD l).C (iD l).N)/\n=10):=by
 refine iw  3 XT (aho T A b F R D C N (de l)) (G rfl (G rfl (G rfl (eS ho)))) ?_;refine eZ (XT.jG (ax U) (c57 b R (wL D) C N l iC mA)) (ahr b R (wL D) C N (de l) (iD l).R (iD l).C (iD l).N) (dG ?_);exact⟨eS ⟨rfl,rfl,rfl⟩,_,_,_,rfl,rfl,rfl,rfl⟩
theorem Th(ho:BZ D)(td:Vb C)(hn:∀x,0<=jF C x/\jF C x<1000000000){cs:Exit->St->Prop}(h:TG ak 7 Tryz.f19.ntmps (dU A2) (sHn T A b F R (wL D) C []) cs):TG ak 7 Tryz.f19.ntmps uP (cZ [P3] (dN (pS T A b F R D C [])) 7) cs:=by
 have Tf:=c51 T A b F R (wL D) C [] 0 (fun _ h=>by cases h) (fun _ h=>by cases h);have PJ:=c54 T A b F R (wL D) C [] (qv C [] 0) [] (ax rfl) td hn .nil .nil;rw[show qv C [] 0=[]from rfl]at Tf PJ;refine iw  4 (((XQ []).jG (ax U) Tf).jG (ax U) PJ) (aoD T A b F R D C [] []) (G rfl (G rfl (G rfl (G ho (G ⟨rfl,rfl,rfl⟩ (eS ⟨rfl,rfl,rfl⟩)))))) ?_;show TG ak 7 Tryz.f19.ntmps Vc _ _;refine c6 U ?_;refine fV (XQ []) (aoI T A b F R (wL D) C []) (dG ?_);refine⟨cW,fun s' ek=>dh ek ?_⟩;show TG ak 7 Tryz.f19.ntmps A2 _ _;refine c6 U ?_;refine fV (XT.jG (ax U) (aoM T A b F R (wL D) C)) (ahp T A b F R (wL D) C) (dG ?_);exact⟨eS ⟨rfl,rfl,rfl⟩,fun s' ek=>dh ek h⟩
theorem WV(ho:BZ D)(GW:BZ (wL D))(td:Vb C)(hn:∀x,0<=jF C x/\jF C x<1000000000):c5 ak 19 [P3] (dN (pS T A b F R D C [])) 7 (.int .i64 0) (K (l3f b (wL (wL D)) C 7 [])) 9:=by
 refine c7 Tryz.func19 (code:=uP) U U ?_;refine Th T A b F R D C ho td hn ?_;refine iw  3 XT (ahq T A b F R (wL D) C) (G rfl (G rfl (G rfl (eS GW)))) ?_;refine eZ (XT.jG (ax U) (aoN b R (wL (wL D)) C)) (ahs b R (wL (wL D)) C) (dG ?_);exact⟨eS ⟨rfl,rfl,rfl⟩,_,_,_,rfl,rfl,rfl,rfl⟩
end
section
variable(F R D:Int)[eB]
def WW:af:=fM (pN F R D [] [])++[(7,.cells [.map (some 6)])]
def lVN:af:=WW F R D++[(8,.cells [.map (some 9)]),(9,.dy none []),(10,.cells [.fn (.func 77) [] [P8,P11,PC]]),(11,.cells [P3])]
def WX:St:=eL [(5,P8),(6,PC),(10,f78)] (K (lVN F R D)) 12
noncomputable def aoO:af:=lVN F R D++[(12,.nf),(13,.loop true none (WX F R D).S [11] agk agl)]
noncomputable def JJ:H rs:=K (aoO F R D)
noncomputable def WY:St:=eL [(0,.fn (.yield 13) [] []),(6,.ptr (some (14,0)))] ((JJ F R D).set 6 none) 15
def ahx:H rs:=K (WW F R D++[(8,.dy none [])])
end
section
variable(F R D:Int)
theorem aoP[eB]:dc mE [] 8 Tryz.f51 [1,5,6] (eU 4 Sz) (cZ [P3,f78] (K (WW F R D)) 8) [([],[],eP (eL [(1,.fn (.func 78) [] [.ptr (some (7,0))]),(5,.ptr (some (8,0))),(6,.ptr (some (10,0)))] (K [(0,.ints .u32 gS),(1,.ints .u32 gR),(3,.cells [.dx none 0 0 0,.int .i64 ((pN F R D [] []).F),.map (some 5),.map (some 6),.int .i64 ((pN F R D [] []).R),.bool false,.bool eB.on,.int .i64 ((pN F R D [] []).D)]),(5,.dy none []),(6,.dy none []),(7,.cells [.map (some 6)]),(8,.cells [.map (some 9)]),(9,.map [] 0),(10,.cells [.fn (.func 77) [] [.ptr (some (8,0)),.ptr (some (11,0)),.ptr (some (10,0))]]),(11,.cells [.ptr (some (3,0))])]) 12))]:=cT.ef
theorem aoQ[eB]:dc mE [] 8 Tryz.f51 [5,6,10] (dS (dS Hw)) (eL [(1,f78),(5,P8),(6,PC)] (K (lVN F R D)) 12) [([],[],eP (WX F R D))]:=cT.ef
theorem aoR[eB]:vX ak mE [] 1000 8 Tryz.f51 (dU Hw) (uq (WX F R D) (JJ F R D) 14)
  [([],
   [],
   .ret (.map (some 8)) (ahx F R D) 9)]
 :=⟨U,U,U⟩
end
section
variable(T A:Nat)(b:B)(F R D:Int)[eB](C N:ae)
omit [eB]in
theorem aoS:51<Tryz.prog.funcs.size:=ax U
theorem WZ(k:Nat)(d:B)(Ie:EC N)(he:∀x∈iV N,Ends C k x):c5 ak 17 [P3,.str d] (dN (pS T A b F R D C N)) 7 (.bool (decide (d∈qv C N k))) (dN (pS T A b F R D C N)) 7:=by
 refine c7 Tryz.func17 (code:=aha) U U ?_;have J:=NK T A b F R D C N k Ie he;refine eZ (uW.jG aoS J) (an4 T A b F R D C N (ou (qv C N k)) d (decide (d∈qv C N k))) (dG ?_);refine⟨G ⟨rfl,rfl,rfl⟩ (eS ?_),_,_,_,rfl,rfl,rfl,rfl⟩;by_cases h:d∈qv C N k
 . rw[bE h];exact F4 h
 . rw[bz h];exact DW h
end
section
variable(F R D:Int)[eB]
theorem W0:c5 ak 78 [.fn (.yield 13) [] [],.ptr (some (7,0))] (JJ F R D) 14 (.ew []) (JJ F R D) 14:=by
 refine gh.is (gO mo po Tryz.func78 (code:=Hx) U U ?_);rw[agm];refine zN (v0:=.map (some 6)) (kH:=(cZ [.fn (.yield 13) [] [],.ptr (some (7,0))] (JJ F R D) 14).S.set 5 (some (.map (some 6)))) (Ap:=((cZ [.fn (.yield 13) [] [],.ptr (some (7,0))] (JJ F R D) 14).S.set 5 (some (.map (some 6)))).set 6 (some (.ptr (some (14,0))))) (m:=6) (kd:=none) (C:=[]) mo Nx
  U U U U (ax rfl) U (fun _ s1=>fe 15 [0,6] s1=some (WY F R D)) U ?_
 rintro iO left s1 hs hp;have hz:iO=[]/\left=[]:=List.append_eq_nil_iff.1 hp.eq_nil;obtain⟨rfl,rfl⟩:=hz;refine⟨[0,6],_,hs,U,fun _=>?_,fun e kN he2=>?_⟩
 . exact⟨(WY F R D).S.set 7 (some (.ew [.bool false])),{ WY F R D with S:=((WY F R D).S.set 7 (some (.ew [.bool false]))).set 8 (some (.bool false)) },U,U,U,.inl rfl,.ew [],JJ F R D,14,U,rfl,rfl,rfl⟩
 . have:=he2.length_eq;simp at this
theorem Xa:c5 ak 51 [P3,f78] (K (WW F R D)) 8 (.map (some 8)) (ahx F R D) 9:=by
 refine c7 Tryz.func51 (code:=Sz) U U ?_;refine iw  4 uW (aoP F R D) cW ?_;refine AP [(9,none)] (s2:=eL [(1,f78),(5,P8),(6,PC)] (K (lVN F R D)) 12) U ?_;show TG ak 8 Tryz.f51.ntmps Hw _ _;refine c6 U ?_;refine c6 U ?_;refine fV uW (aoQ F R D) (dG ?_);refine⟨cW,fun s' ek=>dh ek ?_⟩;refine fk (i:=0) U ?_;refine oP (gf:=78) (lb:=[.ptr (some (7,0))]) U U U U U (W0 F R D).one ?_;rintro v h n ⟨rfl,rfl,rfl⟩;refine⟨U,?_⟩;show TG ak 8 Tryz.f51.ntmps (dU Hw) (uq (WX F R D) (JJ F R D) 14) _;refine sB uW mo _ U (aoR F R D) (dG ?_);exact⟨cW,_,_,_,rfl,rfl,rfl,rfl⟩
end
noncomputable abbrev PK:Code:=dO Tryz.f145
noncomputable abbrev acv:Code:=dw 2 PK
noncomputable abbrev ahy:Code:=dD (dD (dU (dS acv)))
def aR:V:=.agg (gR.map (V.int .u32 ·))
theorem aoT(x:Int):dc Va [] 3 Tryz.f144 [] (dO Tryz.f144) (cZ [.int .u64 x,.int .i64 8] .nil 3) [([],[(0:Int)<=(8:Int)/\(8:Int)<=(8:Int)/\(8:Int)<=(281474976710656:Int),(0:Int)<=(7:Int)/\(7:Int)<(8:Int),8<=8,(0:Int)<=(6:Int)/\(6:Int)<(8:Int),7<=(fZ (uK [(0:Int)] 8) 7 [IntKind.u8.wrap x]).length,(0:Int)<=(5:Int)/\(5:Int)<(8:Int),6<=(fZ (fZ (uK [(0:Int)] 8) 7 [IntKind.u8.wrap x]) 6 [IntKind.u8.wrap (x.fdiv (256:Int))]).length,(0:Int)<=(4:Int)/\(4:Int)<(8:Int),5<=(fZ (fZ (fZ (uK [(0:Int)] 8) 7 [IntKind.u8.wrap x]) 6 [IntKind.u8.wrap (x.fdiv (256:Int))]) 5 [IntKind.u8.wrap ((x.fdiv (256:Int)).fdiv (256:Int))]).length,(0:Int)<=(3:Int)/\(3:Int)<(8:Int),4<=(fZ (fZ (fZ (fZ (uK [(0:Int)] 8) 7 [IntKind.u8.wrap x]) 6 [IntKind.u8.wrap (x.fdiv (256:Int))]) 5 [IntKind.u8.wrap ((x.fdiv (256:Int)).fdiv (256:Int))]) 4 [IntKind.u8.wrap (((x.fdiv (256:Int)).fdiv (256:Int)).fdiv (256:Int))]).length,(0:Int)<=(2:Int)/\(2:Int)<(8:Int),3<=(fZ (fZ (fZ (fZ (fZ (uK [(0:Int)] 8) 7 [IntKind.u8.wrap x]) 6 [IntKind.u8.wrap (x.fdiv (256:Int))]) 5 [IntKind.u8.wrap ((x.fdiv (256:Int)).fdiv (256:Int))]) 4 [IntKind.u8.wrap (((x.fdiv (256:Int)).fdiv (256:Int)).fdiv (256:Int))]) 3 [IntKind.u8.wrap ((((x.fdiv (256:Int)).fdiv (256:Int)).fdiv (256:Int)).fdiv (256:Int))]).length,(0:Int)<=(1:Int)/\(1:Int)<(8:Int),2<=(fZ (fZ (fZ (fZ (fZ (fZ (uK [(0:Int)] 8) 7 [IntKind.u8.wrap x]) 6 [IntKind.u8.wrap (x.fdiv (256:Int))]) 5 [IntKind.u8.wrap ((x.fdiv (256:Int)).fdiv (256:Int))]) 4 [IntKind.u8.wrap (((x.fdiv (256:Int)).fdiv (256:Int)).fdiv (256:Int))]) 3 [IntKind.u8.wrap ((((x.fdiv (256:Int)).fdiv (256:Int)).fdiv (256:Int)).fdiv (256:Int))]) 2 [IntKind.u8.wrap (((((x.fdiv (256:Int)).fdiv (256:Int)).fdiv (256:Int)).fdiv (256:Int)).fdiv (256:Int))]).length,(0:Int)<=(0:Int)/\(0:Int)<(8:Int),1<=(fZ (fZ (fZ (fZ (fZ (fZ (fZ (uK [(0:Int)] 8) 7 [IntKind.u8.wrap x]) 6 [IntKind.u8.wrap (x.fdiv (256:Int))]) 5 [IntKind.u8.wrap ((x.fdiv (256:Int)).fdiv (256:Int))]) 4 [IntKind.u8.wrap (((x.fdiv (256:Int)).fdiv (256:Int)).fdiv (256:Int))]) 3 [IntKind.u8.wrap ((((x.fdiv (256:Int)).fdiv (256:Int)).fdiv (256:Int)).fdiv (256:Int))]) 2 [IntKind.u8.wrap (((((x.fdiv (256:Int)).fdiv (256:Int)).fdiv (256:Int)).fdiv (256:Int)).fdiv (256:Int))]) 1 [IntKind.u8.wrap ((((((x.fdiv (256:Int)).fdiv (256:Int)).fdiv (256:Int)).fdiv (256:Int)).fdiv (256:Int)).fdiv (256:Int))]).length,8<=(fZ (fZ (fZ (fZ (fZ (fZ (fZ (fZ (uK [(0:Int)] 8) 7 [IntKind.u8.wrap x]) 6 [IntKind.u8.wrap (x.fdiv (256:Int))]) 5 [IntKind.u8.wrap ((x.fdiv (256:Int)).fdiv (256:Int))]) 4 [IntKind.u8.wrap (((x.fdiv (256:Int)).fdiv (256:Int)).fdiv (256:Int))]) 3 [IntKind.u8.wrap ((((x.fdiv (256:Int)).fdiv (256:Int)).fdiv (256:Int)).fdiv (256:Int))]) 2 [IntKind.u8.wrap (((((x.fdiv (256:Int)).fdiv (256:Int)).fdiv (256:Int)).fdiv (256:Int)).fdiv (256:Int))]) 1 [IntKind.u8.wrap ((((((x.fdiv (256:Int)).fdiv (256:Int)).fdiv (256:Int)).fdiv (256:Int)).fdiv (256:Int)).fdiv (256:Int))]) 0 [IntKind.u8.wrap (((((((x.fdiv (256:Int)).fdiv (256:Int)).fdiv (256:Int)).fdiv (256:Int)).fdiv (256:Int)).fdiv (256:Int)).fdiv (256:Int))]).length],.ret (.str (eW (List.take 8 (List.drop 0 (fZ (fZ (fZ (fZ (fZ (fZ (fZ (fZ (uK [(0:Int)] 8) 7 [IntKind.u8.wrap x]) 6 [IntKind.u8.wrap (x.fdiv (256:Int))]) 5 [IntKind.u8.wrap ((x.fdiv (256:Int)).fdiv (256:Int))]) 4 [IntKind.u8.wrap (((x.fdiv (256:Int)).fdiv (256:Int)).fdiv (256:Int))]) 3 [IntKind.u8.wrap ((((x.fdiv (256:Int)).fdiv (256:Int)).fdiv (256:Int)).fdiv (256:Int))]) 2 [IntKind.u8.wrap (((((x.fdiv (256:Int)).fdiv (256:Int)).fdiv (256:Int)).fdiv (256:Int)).fdiv (256:Int))]) 1 [IntKind.u8.wrap ((((((x.fdiv (256:Int)).fdiv (256:Int)).fdiv (256:Int)).fdiv (256:Int)).fdiv (256:Int)).fdiv (256:Int))]) 0 [IntKind.u8.wrap (((((((x.fdiv (256:Int)).fdiv (256:Int)).fdiv (256:Int)).fdiv (256:Int)).fdiv (256:Int)).fdiv (256:Int)).fdiv (256:Int))]))))) (K []) 3)]:=cT.ef
theorem aoU(x:Int):dc Va [] 3 Tryz.f144 [] (dO Tryz.f144) (cZ [.int .u64 x,.int .i64 4] .nil 3) [([],[(0:Int)<=(4:Int)/\(4:Int)<=(4:Int)/\(4:Int)<=(281474976710656:Int),(0:Int)<=(3:Int)/\(3:Int)<(4:Int),4<=4,(0:Int)<=(2:Int)/\(2:Int)<(4:Int),3<=(fZ (uK [(0:Int)] 4) 3 [IntKind.u8.wrap x]).length,(0:Int)<=(1:Int)/\(1:Int)<(4:Int),2<=(fZ (fZ (uK [(0:Int)] 4) 3 [IntKind.u8.wrap x]) 2 [IntKind.u8.wrap (x.fdiv (256:Int))]).length,(0:Int)<=(0:Int)/\(0:Int)<(4:Int),1<=(fZ (fZ (fZ (uK [(0:Int)] 4) 3 [IntKind.u8.wrap x]) 2 [IntKind.u8.wrap (x.fdiv (256:Int))]) 1 [IntKind.u8.wrap ((x.fdiv (256:Int)).fdiv (256:Int))]).length,4<=(fZ (fZ (fZ (fZ (uK [(0:Int)] 4) 3 [IntKind.u8.wrap x]) 2 [IntKind.u8.wrap (x.fdiv (256:Int))]) 1 [IntKind.u8.wrap ((x.fdiv (256:Int)).fdiv (256:Int))]) 0 [IntKind.u8.wrap (((x.fdiv (256:Int)).fdiv (256:Int)).fdiv (256:Int))]).length],.ret (.str (eW (List.take 4 (List.drop 0 (fZ (fZ (fZ (fZ (uK [(0:Int)] 4) 3 [IntKind.u8.wrap x]) 2 [IntKind.u8.wrap (x.fdiv (256:Int))]) 1 [IntKind.u8.wrap ((x.fdiv (256:Int)).fdiv (256:Int))]) 0 [IntKind.u8.wrap (((x.fdiv (256:Int)).fdiv (256:Int)).fdiv (256:Int))]))))) (K []) 3)]:=cT.ef
theorem aoV(b:B)(q:E8):dc Va [] 3 Tryz.f145 [1,3,5,6,7] (eU 2 PK) (cZ [.agg (c8 q),.str b,aR] .nil 3) [([],[],eP (eL [(1,.str b),(3,.ptr (some (3,0))),(5,.ptr (some (4,0))),(6,.ptr (some (5,0))),(7,.ptr (some (6,0)))] (K [(3,.cells [.int .u32 (q.1),.int .u32 (q.2.1),.int .u32 (q.2.2.1),.int .u32 (q.2.2.2.1),.int .u32 (q.2.2.2.2.1),.int .u32 (q.2.2.2.2.2.1),.int .u32 (q.2.2.2.2.2.2.1),.int .u32 (q.2.2.2.2.2.2.2)]),(4,.cells [.int .u32 1116352408,.int .u32 1899447441,.int .u32 3049323471,.int .u32 3921009573,.int .u32 961987163,.int .u32 1508970993,.int .u32 2453635748,.int .u32 2870763221,.int .u32 3624381080,.int .u32 310598401,.int .u32 607225278,.int .u32 1426881987,.int .u32 1925078388,.int .u32 2162078206,.int .u32 2614888103,.int .u32 3248222580,.int .u32 3835390401,.int .u32 4022224774,.int .u32 264347078,.int .u32 604807628,.int .u32 770255983,.int .u32 1249150122,.int .u32 1555081692,.int .u32 1996064986,.int .u32 2554220882,.int .u32 2821834349,.int .u32 2952996808,.int .u32 3210313671,.int .u32 3336571891,.int .u32 3584528711,.int .u32 113926993,.int .u32 338241895,.int .u32 666307205,.int .u32 773529912,.int .u32 1294757372,.int .u32 1396182291,.int .u32 1695183700,.int .u32 1986661051,.int .u32 2177026350,.int .u32 2456956037,.int .u32 2730485921,.int .u32 2820302411,.int .u32 3259730800,.int .u32 3345764771,.int .u32 3516065817,.int .u32 3600352804,.int .u32 4094571909,.int .u32 275423344,.int .u32 430227734,.int .u32 506948616,.int .u32 659060556,.int .u32 883997877,.int .u32 958139571,.int .u32 1322822218,.int .u32 1537002063,.int .u32 1747873779,.int .u32 1955562222,.int .u32 2024104815,.int .u32 2227730452,.int .u32 2361852424,.int .u32 2428436474,.int .u32 2756734187,.int .u32 3204031479,.int .u32 3329325298]),(5,.cells [.int .u32 0,.int .u32 0,.int .u32 0,.int .u32 0,.int .u32 0,.int .u32 0,.int .u32 0,.int .u32 0]),(6,.cells [.int .u32 0,.int .u32 0,.int .u32 0,.int .u32 0,.int .u32 0,.int .u32 0,.int .u32 0,.int .u32 0,.int .u32 0,.int .u32 0,.int .u32 0,.int .u32 0,.int .u32 0,.int .u32 0,.int .u32 0,.int .u32 0,.int .u32 0,.int .u32 0,.int .u32 0,.int .u32 0,.int .u32 0,.int .u32 0,.int .u32 0,.int .u32 0,.int .u32 0,.int .u32 0,.int .u32 0,.int .u32 0,.int .u32 0,.int .u32 0,.int .u32 0,.int .u32 0,.int .u32 0,.int .u32 0,.int .u32 0,.int .u32 0,.int .u32 0,.int .u32 0,.int .u32 0,.int .u32 0,.int .u32 0,.int .u32 0,.int .u32 0,.int .u32 0,.int .u32 0,.int .u32 0,.int .u32 0,.int .u32 0,.int .u32 0,.int .u32 0,.int .u32 0,.int .u32 0,.int .u32 0,.int .u32 0,.int .u32 0,.int .u32 0,.int .u32 0,.int .u32 0,.int .u32 0,.int .u32 0,.int .u32 0,.int .u32 0,.int .u32 0,.int .u32 0])]) 7))]:=cT.ef
section
variable(b:B)(q:E8)(ws:List Int)(i:Nat)
def mVc:af:=[(3,.cells (c8 q)),(4,.own .u32 gR),(5,.cells (c8 (0,0,0,0,0,0,0,0))),(6,.own .u32 ws)]
def Ti:St:=eL [(1,.str b),(3,.ptr (some (3,0))),(5,.ptr (some (4,0))),(6,.ptr (some (5,0))),(7,.ptr (some (6,0))),(8,iW i)] (K (mVc q ws)) 7
end
section
variable(b:B)(e a x:Int)(q:E8)(i:Nat)(ws:List Int)
theorem aoX:dc Va [] 3 Tryz.f145 [1,3,5,6,7,8] (dS (dS acv)) (eL [(1,.str b),(3,.ptr (some (3,0))),(5,.ptr (some (4,0))),(6,.ptr (some (5,0))),(7,.ptr (some (6,0)))] (K (mVc q ws)) 7) [([],[],eP (Ti b q ws 0))]:=cT.ef
def D0(m d x:Int):Int:=Kr (x.fdiv d) (w32 (x*m))
def acw:Int:=nU (nU (D0 33554432 128 x) (D0 16384 262144 x)) (x.fdiv 8)
def acy:Int:=nU (nU (D0 32768 131072 x) (D0 8192 524288 x)) (x.fdiv 1024)
def NN(i:Nat):Int:=w32 (w32 (w32 (gW ws (i-16)+acw (gW ws (i-15)))+gW ws (i-7))+acy (gW ws (i-2)))
def NO:Int:=w32 (w32 (w32 (w32 (VV b (i*4)*16777216)+w32 (VV b (i*4+1)*65536))+w32 (VV b (i*4+2)*256))+VV b (i*4+3))
def acz:Int:=nU (nU (D0 67108864 64 e) (D0 2097152 2048 e)) (D0 128 33554432 e)
def acA:Int:=nU (nU (D0 1073741824 4 a) (D0 524288 8192 a)) (D0 1024 4194304 a)
def chR(f g:Int):Int:=Kr (AU e f) (AU (w32 (4294967295-e)) g)
def maR(b c:Int):Int:=Kr (Kr (AU a b) (AU a c)) (AU b c)
def rdR(rd ws:List Int)(i:Nat):E8->Int
 |(_,_,_,_,e,f,g,h)=>w32 (w32 (w32 (w32 (h+acz e)+chR e f g)+gW rd i)+gW ws i)
def acB(rd ws:List Int)(i:Nat):E8->E8
 |(a,b,c,d,e,f,g,h)=>(w32 (w32 (rdR rd ws i (a,b,c,d,e,f,g,h)+acA a)+maR a b c),a,b,c,w32 (d+rdR rd ws i (a,b,c,d,e,f,g,h)),e,f,g)
abbrev HO:Prop:=V.int aj (IntKind.i64.wrap ((4:Int)*Int.ofNat i))=iW (i*4)
theorem ahz(i:Nat):dc Va [(20,.split),(24,.di (.bool true)),(28,.di (iW (i*4))),(34,.di (iW (i*4))),(35,.di (iW (i*4+1))),(42,.di (iW (i*4))),(43,.di (iW (i*4+2))),(50,.di (iW (i*4))),(51,.di (iW (i*4+3))),(22,.di (iW (i+1)))] 3 Tryz.f145 [1,3,5,6,7,8] (ahy) (Ti b q ws i) (iU (decide (Int.ofNat i<(64:Int))) ([EA (decide (Int.ofNat i<(16:Int))),HO i,(0:Int)<=Int.ofNat (i*4)/\(i*4)<b.length,HO i,V.int aj (IntKind.i64.wrap (Int.ofNat (i*4)+(1:Int)))=iW (i*4+1),(0:Int)<=Int.ofNat (i*4+1)/\(i*4+1)<b.length,HO i,V.int aj (IntKind.i64.wrap (Int.ofNat (i*4)+(2:Int)))=iW (i*4+2),(0:Int)<=Int.ofNat (i*4+2)/\(i*4+2)<b.length,HO i,V.int aj (IntKind.i64.wrap (Int.ofNat (i*4)+(3:Int)))=iW (i*4+3),(0:Int)<=Int.ofNat (i*4+3)/\(i*4+3)<b.length,(0:Int)<=Int.ofNat i/\Int.ofNat i<(64:Int),0+i*1+1<=ws.length,Ez i],eP (Ti b q (fZ ws (0+i*1) [NO b i]) (i+1))) ([],.to (.exit 0) (Ti b q ws i))):=cT.ef
abbrev Mj:Prop:=V.int aj (IntKind.i64.wrap (Int.ofNat i-(15:Int)))=iW (i-15)
abbrev Mk:Prop:=V.int aj (IntKind.i64.wrap (Int.ofNat i-(2:Int)))=iW (i-2)
theorem ao0(i:Nat):dc Va [(20,.split),(24,.di (.bool false)),(57,.di (iW (i-15))),(62,.di (iW (i-15))),(68,.di (iW (i-15))),(74,.di (iW (i-2))),(79,.di (iW (i-2))),(85,.di (iW (i-2))),(92,.di (iW (i-16))),(98,.di (iW (i-7))),(22,.di (iW (i+1)))] 3 Tryz.f145 [1,3,5,6,7,8] (ahy) (Ti b q ws i) (iU (decide (Int.ofNat i<(64:Int))) ([jC (decide (Int.ofNat i<(16:Int))),Mj i,(0:Int)<=Int.ofNat (i-15)/\Int.ofNat (i-15)<(64:Int),0+(i-15)*1<ws.length,Mj i,(0:Int)<=Int.ofNat (i-15)/\Int.ofNat (i-15)<(64:Int),0+(i-15)*1<ws.length,0+(i-15)*1<ws.length,Mj i,(0:Int)<=Int.ofNat (i-15)/\Int.ofNat (i-15)<(64:Int),0+(i-15)*1<ws.length,0+(i-15)*1<ws.length,0+(i-15)*1<ws.length,Mk i,(0:Int)<=Int.ofNat (i-2)/\Int.ofNat (i-2)<(64:Int),0+(i-2)*1<ws.length,Mk i,(0:Int)<=Int.ofNat (i-2)/\Int.ofNat (i-2)<(64:Int),0+(i-2)*1<ws.length,0+(i-2)*1<ws.length,Mk i,(0:Int)<=Int.ofNat (i-2)/\Int.ofNat (i-2)<(64:Int),0+(i-2)*1<ws.length,0+(i-2)*1<ws.length,0+(i-2)*1<ws.length,V.int aj (IntKind.i64.wrap (Int.ofNat i-(16:Int)))=iW (i-16),(0:Int)<=Int.ofNat (i-16)/\Int.ofNat (i-16)<(64:Int),0+(i-16)*1<ws.length,V.int aj (IntKind.i64.wrap (Int.ofNat i-(7:Int)))=iW (i-7),(0:Int)<=Int.ofNat (i-7)/\Int.ofNat (i-7)<(64:Int),0+(i-7)*1<ws.length,(0:Int)<=Int.ofNat i/\Int.ofNat i<(64:Int),0+i*1+1<=ws.length,Ez i],eP (Ti b q (fZ ws (0+i*1) [NN ws i]) (i+1))) ([],.to (.exit 0) (Ti b q ws i))):=cT.ef
noncomputable abbrev NP:Code:=dw 4 PK
end
noncomputable abbrev ao1:Code:=dD (dD (dU (dS NP)))
section
variable(q q':E8)(ws:List Int)(i:Nat)
def mVd:af:=[(3,.cells (c8 q)),(4,.own .u32 gR),(5,.cells (c8 (0,0,0,0,0,0,0,0))),(6,.own .u32 ws),(7,.cells (c8 q'))]
def Ve(r:List (Nat×V)):St:=eL ([(3,.ptr (some (3,0))),(5,.ptr (some (4,0))),(6,.ptr (some (5,0))),(7,.ptr (some (6,0))),(11,.ptr (some (7,0)))]++r) (K (mVd q q' ws)) 8
end
theorem ao2(b:B)(q:E8)(ws:List Int)(i:Nat):dc Va [] 3 Tryz.f145 [3,5,6,7,11] (dS (dw 3 PK)) (Ti b q ws i) [([],[],eP (Ve q q ws []))]:=cT.ef
theorem ao3(q q':E8)(ws:List Int):dc Va [] 3 Tryz.f145 [3,5,6,7,11,12] (dS (dS NP)) (Ve q q' ws []) [([],[],eP (Ve q q' ws [(12,iW 0)]))]:=cT.ef
theorem ahA(a b c d e f g h a' b' c' d' e' f' g' h':Int)(ws:List Int)(i:Nat):dc Va [(107,.split),(109,.di (iW (i+1)))] 3 Tryz.f145 [3,5,6,7,11,12] (ao1) (Ve (a,b,c,d,e,f,g,h) (a',b',c',d',e',f',g',h') ws [(12,iW i)]) (iU (decide (Int.ofNat i<(64:Int))) ([(0:Int)<=Int.ofNat i/\Int.ofNat i<(64:Int),0+i*1<64,(0:Int)<=Int.ofNat i/\Int.ofNat i<(64:Int),0+i*1<ws.length,Ez i],eP (Ve (a,b,c,d,e,f,g,h) (acB gR ws i (a',b',c',d',e',f',g',h')) ws [(12,iW (i+1))])) ([],.to (.exit 2) (Ve (a,b,c,d,e,f,g,h) (a',b',c',d',e',f',g',h') ws [(12,iW i)]))):=cT.ef
theorem ao4(a b c d e f g h a' b' c' d' e' f' g' h':Int)(ws:List Int)(i:Nat):dc Va [] 3 Tryz.f145 [] (dU NP) (Ve (a,b,c,d,e,f,g,h) (a',b',c',d',e',f',g',h') ws [(12,iW i)]) [([],[(0:Int)<=(0:Int)/\(0:Int)<(8:Int),(0:Int)<=(0:Int)/\(0:Int)<(8:Int),(0:Int)<=(0:Int)/\(0:Int)<(8:Int),(0:Int)<=(1:Int)/\(1:Int)<(8:Int),(0:Int)<=(1:Int)/\(1:Int)<(8:Int),(0:Int)<=(1:Int)/\(1:Int)<(8:Int),(0:Int)<=(2:Int)/\(2:Int)<(8:Int),(0:Int)<=(2:Int)/\(2:Int)<(8:Int),(0:Int)<=(2:Int)/\(2:Int)<(8:Int),(0:Int)<=(3:Int)/\(3:Int)<(8:Int),(0:Int)<=(3:Int)/\(3:Int)<(8:Int),(0:Int)<=(3:Int)/\(3:Int)<(8:Int),(0:Int)<=(4:Int)/\(4:Int)<(8:Int),(0:Int)<=(4:Int)/\(4:Int)<(8:Int),(0:Int)<=(4:Int)/\(4:Int)<(8:Int),(0:Int)<=(5:Int)/\(5:Int)<(8:Int),(0:Int)<=(5:Int)/\(5:Int)<(8:Int),(0:Int)<=(5:Int)/\(5:Int)<(8:Int),(0:Int)<=(6:Int)/\(6:Int)<(8:Int),(0:Int)<=(6:Int)/\(6:Int)<(8:Int),(0:Int)<=(6:Int)/\(6:Int)<(8:Int),(0:Int)<=(7:Int)/\(7:Int)<(8:Int),(0:Int)<=(7:Int)/\(7:Int)<(8:Int),(0:Int)<=(7:Int)/\(7:Int)<(8:Int)],.ret (.agg [.int .u32 (IntKind.u32.wrap ((a,b,c,d,e,f,g,h).1+(a',b',c',d',e',f',g',h').1)),.int .u32 (IntKind.u32.wrap ((a,b,c,d,e,f,g,h).2.1+(a',b',c',d',e',f',g',h').2.1)),.int .u32 (IntKind.u32.wrap ((a,b,c,d,e,f,g,h).2.2.1+(a',b',c',d',e',f',g',h').2.2.1)),.int .u32 (IntKind.u32.wrap ((a,b,c,d,e,f,g,h).2.2.2.1+(a',b',c',d',e',f',g',h').2.2.2.1)),.int .u32 (IntKind.u32.wrap ((a,b,c,d,e,f,g,h).2.2.2.2.1+(a',b',c',d',e',f',g',h').2.2.2.2.1)),.int .u32 (IntKind.u32.wrap ((a,b,c,d,e,f,g,h).2.2.2.2.2.1+(a',b',c',d',e',f',g',h').2.2.2.2.2.1)),.int .u32 (IntKind.u32.wrap ((a,b,c,d,e,f,g,h).2.2.2.2.2.2.1+(a',b',c',d',e',f',g',h').2.2.2.2.2.2.1)),.int .u32 (IntKind.u32.wrap ((a,b,c,d,e,f,g,h).2.2.2.2.2.2.2+(a',b',c',d',e',f',g',h').2.2.2.2.2.2.2))]) (K []) 3)]:=cT.ef
section
variable(a e:Int)(rd:List Int)(x:Int)(ws:List Int)(b:Int)(i:Nat)(q:E8)
theorem yB:w32 x=x%4294967296:=rfl
theorem Tj(z:Int):BitVec.ofInt 32 (w32 z)=BitVec.ofInt 32 z:=by
 apply BitVec.eq_of_toInt_eq;rw[BitVec.toInt_ofInt,BitVec.toInt_ofInt,yB];exact Int.emod_bmod ..
theorem Cq(v:BitVec 32):BitVec.ofInt 32 (w32 ↑v.toNat)=v:=by
 rw[Tj];apply BitVec.eq_of_toNat_eq;rw[BitVec.toNat_ofInt];have:=v.isLt;have h:((v.toNat:Int)%((2^32:Nat):Int))=v.toNat:=Int.emod_eq_of_lt L L;rw[h];rfl
theorem Tk:Kr a b=Kr b a:=by unfold Kr;rw[BitVec.or_comm]
theorem o5(m d x:Int):D0 m d x=DC m d x:=Tk _ _
theorem Xb:acw x=sg0 x:=by unfold acw sg0;rw[o5,o5]
theorem Xc:acy x=sg1 x:=by unfold acy sg1;rw[o5,o5]
theorem Xd:acA x=bS0 x:=by unfold acA bS0;rw[o5,o5,o5]
theorem Xe:acz x=bS1 x:=by unfold acz bS1;rw[o5,o5,o5]
theorem Tl:NN ws i=Jm ws i:=by unfold NN Jm;rw[Xb,Xc]
theorem Xf:BitVec.ofInt 32 (w32 (4294967295-e))= ~~~ BitVec.ofInt 32 e:=by
 rw[Tj];apply BitVec.eq_of_toNat_eq;rw[BitVec.toNat_not,BitVec.toNat_ofInt,BitVec.toNat_ofInt];have X:=Int.emod_nonneg e (show((2^32:Nat):Int)≠0 by decide);have h2:=Int.emod_lt_of_pos e (show(0:Int)<((2^32:Nat):Int)by decide);have h3:(4294967295-e)%((2^32:Nat):Int)=4294967295-e%((2^32:Nat):Int):=by omega
 rw[h3];omega
theorem Tm:BitVec.ofInt 32 (nU 4294967295 e)= ~~~ BitVec.ofInt 32 e:=by
 unfold nU;rw[Cq];apply BitVec.eq_of_getLsbD_eq;intro i hi;have:BitVec.ofInt 32 4294967295=BitVec.allOnes 32:=by decide
 rw[this,BitVec.allOnes_xor]
theorem ahB(E fl fm:BitVec 32):(E&&&fl)|||(~~~E&&&fm)=(E&&&fl)^^^(~~~E&&&fm):=by
 apply BitVec.eq_of_getLsbD_eq;intro i hi;simp only[BitVec.getLsbD_or,BitVec.getLsbD_and,BitVec.getLsbD_xor,BitVec.getLsbD_not];cases E.getLsbD i<;>cases fl.getLsbD i<;>cases fm.getLsbD i<;>simp
theorem ahC(cU aa es:BitVec 32):((cU&&&aa)|||(cU&&&es))|||(aa&&&es)=((cU&&&aa)^^^(cU&&&es))^^^(aa&&&es):=by
 apply BitVec.eq_of_getLsbD_eq;intro i hi;simp only[BitVec.getLsbD_or,BitVec.getLsbD_and,BitVec.getLsbD_xor];cases cU.getLsbD i<;>cases aa.getLsbD i<;>cases es.getLsbD i<;>rfl
theorem acC(f g:Int):chR e f g=chI e f g:=by
 unfold chR chI Kr nU AU;simp only[Cq];have h:=Tm e;unfold nU at h;rw[Cq]at h;rw[Xf,h,ahB]
theorem acD(c:Int):maR a b c=maI a b c:=by
 unfold maR maI Kr nU AU;simp only[Cq];rw[ahC]
theorem acE:rdR rd ws i q=rdX rd ws i q:=by
 obtain⟨a,b,c,d,e,f,g,h⟩:=q;simp only[rdR,rdX,Xe,acC]
theorem Xg(c:Int):w32 (w32 (a+b)+c)=w32 (a+w32 (b+c)):=by
 simp only[yB];omega
theorem Xh:acB rd ws i q=BY rd ws i q:=by
 obtain⟨a,b,c,d,e,f,g,h⟩:=q;simp only[acB,BY,acE,Xd,acD,Xg]
theorem acF{a b k:Nat}(hb:b<2^k)(ha:a*2^k+b<4294967296):Kr ((a*2^k:Nat):Int) (b:Int)=((a*2^k+b:Nat):Int):=by
 unfold Kr;have X:∀n:Nat,n<4294967296->(BitVec.ofInt 32 (n:Int)).toNat=n:=fun n hn=>by
  rw[BitVec.toNat_ofInt];have:((n:Int)%((2^32:Nat):Int))=n:=Int.emod_eq_of_lt L L;rw[this];rfl
 rw[BitVec.toNat_or,X _ L,X _ L];have h2:a*2^k|||b=a*2^k+b:=by
  have:=Nat.shiftLeft_add_eq_or_of_lt hb a;rw[Nat.shiftLeft_eq]at this;exact this.symm
 rw[h2,yB];exact Int.emod_eq_of_lt L L
theorem HP{p q k s:Nat}(hk:k=2^s)(hq:q<k)(h:p*k+q<4294967296){a b:Int}(ha:a=((p*k:Nat):Int))(hb:b=(q:Int)):Kr a b=((p*k+q:Nat):Int):=by
 subst hk ha hb;exact acF hq h
theorem Tn(b:B)(i:Nat):NO b i=Jn b i:=by
 have Ml:∀j,∃n:Nat,n<256/\VV b j=(n:Int):=fun j=>⟨(b.getD j 0).toNat,(b.getD j 0).toNat_lt,by
  have:=(b.getD j 0).toNat_lt;show((b.getD j 0).toNat:Int)%4294967296=_;exact Int.emod_eq_of_lt L L⟩
 unfold NO Jn;obtain⟨x,M,ex⟩:=Ml (i*4);obtain⟨y,hy,ey⟩:=Ml (i*4+1);obtain⟨z,hz,ez⟩:=Ml (i*4+2);obtain⟨t,ht,et⟩:=Ml (i*4+3);rw[ex,ey,ez,et];have e1:w32 ((x:Int)*16777216)=((x*16777216:Nat):Int):=by rw[yB];omega
 have e2:w32 ((y:Int)*65536)=((y*65536:Nat):Int):=by rw[yB];omega
 have e3:w32 ((z:Int)*256)=((z*256:Nat):Int):=by rw[yB];omega
 rw[e1,e2,e3];have o1:=HP (p:=x) (q:=y*65536) (k:=16777216) (s:=24) dP L L rfl rfl;have o2:=HP (p:=x*256+y) (q:=z*256) (k:=65536) (s:=16) (a:=((x*16777216+y*65536:Nat):Int)) dP L L L rfl;have o3:=HP (p:=x*65536+y*256+z) (q:=t) (k:=256) (s:=8) (a:=(((x*256+y)*65536+z*256:Nat):Int)) dP L L L rfl;rw[o1,o2,o3];simp only[yB];omega
end
theorem Xi{ws:List Int}(h:ws.length=64):DE ws=ws:=by
 unfold DE;refine List.ext_getElem (by rw[bf,List.length_range,h]) fun i X h2=>?_;rw[List.getElem_map,List.getElem_range,aO,az h2];rfl
section
variable(b:B)(i:Nat)
def F8:List Int:=if i<=16 then Y8 b i else EV b (i-16)
theorem Xj(hi:i<=64):(F8 b i).length=64:=by
 unfold F8;split
 . exact Ck b i L
 . exact zJ b (i-16) L
theorem acG{i:Nat}(h:i<16):F8 b (i+1)=fZ (F8 b i) (0+i*1) [NO b i]:=by
 unfold F8;rw[aF L,aF L,Tn];rfl
theorem acH{i:Nat}(h:16<=i):F8 b (i+1)=fZ (F8 b i) (0+i*1) [NN (F8 b i) i]:=by
 obtain⟨j,rfl⟩:∃j,i=16+j:=⟨i-16,L⟩;have e:F8 b (16+j)=EV b j:=by
  unfold F8;split
  . obtain rfl:j=0:=by omega
    rfl
  . rw[show 16+j-16=j by omega]
 rw[e,Tl];unfold F8;rw[aJ L,show 16+j+1-16=j+1 by omega];rfl
end
section
variable(b:B)(hb:64<=b.length)(q:E8)
include hb in
theorem ao5:TG ak 3 Tryz.f145.ntmps PK (cZ [.agg (c8 q),.str b,aR] .nil 3) (fL ak 3 Tryz.f145 fun u _ _=>u= .agg (c8 (zK gR b q))):=by
 refine iw  2 XL (aoV b q) cW ?_;refine uo [(4,.u32),(6,.u32)] (s2:=eL [(1,.str b),(3,.ptr (some (3,0))),(5,.ptr (some (4,0))),(6,.ptr (some (5,0))),(7,.ptr (some (6,0)))] (K (mVc q (F8 b 0))) 7) U ?_;show TG _ _ _ acv _ _;refine c6 U ?_;refine c6 U ?_;refine fV XL (aoX b q (F8 b 0)) (dG ?_);refine⟨cW,fun s' ek=>?_⟩;refine ju 0 64 (fun i=>Ti b q (F8 b i) i) U U (.norm ek) (fun i hi=>?_) ?_
 . have uL:=Xj b i L;rcases bO i 16 with h16|h16
   . have e:=acG b h16;show TG _ _ _ _ _ (andThen (fun s'=>gI ak 3 Tryz.f145.ntmps s' (Ti b q (F8 b (i+1)) (i+1))) _);rw[e];refine fV XL (ahz b q (F8 b i) i) fun g hg J=>?_;rcases jh hg with rfl|rfl
     . refine⟨?_,fun s1 fQ=>.norm fQ⟩
       repeat' (first|exact cW|refine kg ?_ ?_)
       all_goals first
        |exact oQ dr L
        |exact⟨aA _,L⟩
        |exact⟨aA _,dr⟩
        |exact aL V.bool (bE dr)
        |omega
     . exact absurd (aK (J _ (au.2 rfl))) dr
   . have e:=acH b h16;show TG _ _ _ _ _ (andThen (fun s'=>gI ak 3 Tryz.f145.ntmps s' (Ti b q (F8 b (i+1)) (i+1))) _);rw[e];refine fV XL (ao0 b q (F8 b i) i) fun g hg J=>?_;rcases jh hg with rfl|rfl
     . refine⟨?_,fun s1 fQ=>.norm fQ⟩
       repeat' (first|exact cW|refine kg ?_ ?_)
       all_goals first
        |exact oQ dr L
        |exact⟨aA _,dr⟩
        |exact aL V.bool (bz dr)
        |omega
     . exact absurd (aK (J _ (au.2 rfl))) dr
 . refine fV XL (ahz b q (F8 b 64) 64) fun g hg J=>?_;rcases jh hg with rfl|rfl
   . exact absurd (J _ (au.2 rfl)) dP
   refine⟨cW,fun s1 fQ=>⟨by simp,?_⟩⟩;rw[dY];refine dh fQ ?_;show TG _ _ _ (dw 3 PK) _ _;have hw:F8 b 64=DE (EV b 48):=by rw[Xi (zJ b 48 (aC _))];rfl
   rw[hw];have uL:(DE (EV b 48)).length=64:=by unfold DE;rw[bf,List.length_range]
   refine c6 U ?_;unfold zK;generalize DE (EV b 48)=ws at uL ⊢;refine fV XL (ao2 b q ws 64) (dG ?_);refine⟨cW,fun s2 gY=>dh gY ?_⟩;show TG _ _ _ NP _ _;refine c6 U ?_;refine c6 U ?_;refine fV XL (ao3 q q ws) (dG ?_);refine⟨cW,fun s3 uV=>?_⟩;refine ju 2 64 (fun i=>Ve q (vT gR ws q i) ws [(12,iW i)]) U U (.norm uV) (fun i hi=>?_) ?_
   . show TG _ _ _ _ _ (andThen (fun s'=>gI ak 3 Tryz.f145.ntmps s' (Ve q (BY gR ws i (vT gR ws q i)) ws [(12,iW (i+1))])) _);rw[<- Xh];generalize vT gR ws q i=q';obtain⟨a,b,c,d,e,f,g,h⟩:=q;obtain⟨a',b',c',d',e',f',g',h'⟩:=q';refine fV XL (ahA a b c d e f g h a' b' c' d' e' f' g' h' ws i) fun g hg J=>?_;rcases jh hg with rfl|rfl
     . refine⟨?_,fun s4 JK=>.norm JK⟩
       repeat' (first|exact cW|refine kg ?_ ?_)
       all_goals first
        |exact oQ dr L
        |exact⟨aA _,dr⟩
        |omega
     . exact absurd (aK (J _ (au.2 rfl))) dr
   . show TG _ _ _ _ (Ve q (vT gR ws q 64) ws [(12,iW 64)]) _;generalize vT gR ws q 64=q';obtain⟨a,b,c,d,e,f,g,h⟩:=q;obtain⟨a',b',c',d',e',f',g',h'⟩:=q';refine fV XL (ahA a b c d e f g h a' b' c' d' e' f' g' h' ws 64) fun g hg J=>?_;rcases jh hg with rfl|rfl
     . exact absurd (J _ (au.2 rfl)) dP
     refine⟨cW,fun s4 JK=>⟨by simp,?_⟩⟩;rw[dY];refine dh JK ?_;refine eZ XL (ao4 a b c d e f g h a' b' c' d' e' f' g' h' ws 64) (dG ?_);refine⟨?_,_,_,_,rfl,?_⟩
     . repeat' (first|exact cW|refine kg ?_ ?_)
       all_goals exact⟨dP,dP⟩
     . simp only[aaV,c8,Int.add_comm]
end
def Mm:ag->Option (ah×V)
 | [.agg [.int .u32 a,.int .u32 b,.int .u32 c,.int .u32 d,.int .u32 e,.int .u32 f,.int .u32 g,.int .u32 x],.str s,r]=>match r.free with
   |true=>some ([64<=s.length,r=aR],.agg (c8 (zK gR s (a,b,c,d,e,f,g,x))))
   |false=>none
 |_=>none
theorem acI:jK ak 145 (jW Mm):=by
 refine kD (ax U) fun args cU v e=>?_;unfold Mm at e;split at e
 case h_2=>cases e
 rename_i a b c d e1 f g x s r;split at e
 case h_2=>cases e
 rename_i hr;obtain⟨rfl,rfl⟩:=fg e;refine⟨by simp[V.xA,V.free,hr],U,fun hA=>?_⟩;obtain rfl:r=aR:=hA (r=aR) (by simp);exact ik mo po Tryz.func145 U U rfl (ao5 s (hA (64<=s.length) (by simp)) (a,b,c,d,e1,f,g,x))
section
variable(x:Int)
theorem ZA(a b c:Int)(h:a*b=c)(ha:0<a)(hb:0<b):(x.fdiv a).fdiv b=x.fdiv c:=by
 subst h;rw[cM _ (Int.le_of_lt ha),cM _ (Int.le_of_lt hb),cM _ (Int.le_of_lt (Int.mul_pos ha hb)),Int.ediv_ediv_of_nonneg (Int.le_of_lt ha)]
def wc:B:=[UInt8.ofNat (IntKind.u8.wrap (((((((x.fdiv 256).fdiv 256).fdiv 256).fdiv 256).fdiv 256).fdiv 256).fdiv 256)).toNat,UInt8.ofNat (IntKind.u8.wrap ((((((x.fdiv 256).fdiv 256).fdiv 256).fdiv 256).fdiv 256).fdiv 256)).toNat,UInt8.ofNat (IntKind.u8.wrap (((((x.fdiv 256).fdiv 256).fdiv 256).fdiv 256).fdiv 256)).toNat,
    UInt8.ofNat (IntKind.u8.wrap ((((x.fdiv 256).fdiv 256).fdiv 256).fdiv 256)).toNat,UInt8.ofNat (IntKind.u8.wrap (((x.fdiv 256).fdiv 256).fdiv 256)).toNat,UInt8.ofNat (IntKind.u8.wrap ((x.fdiv 256).fdiv 256)).toNat,UInt8.ofNat (IntKind.u8.wrap (x.fdiv 256)).toNat,UInt8.ofNat (IntKind.u8.wrap x).toNat]
theorem ahD(h0:0<=x)(X:x<18446744073709551616):wc x=mM x:=by
 unfold wc;have hw:IntKind.u64.wrap x=x:=Int.emod_eq_of_lt h0 X;unfold mM pB;rw[hw,ZA x 256 256 65536 dP dP dP,ZA x 65536 256 16777216 dP dP dP,ZA x 16777216 256 4294967296 dP dP dP,ZA x 4294967296 256 1099511627776 dP dP dP,ZA x 1099511627776 256 281474976710656 dP dP dP,ZA x 281474976710656 256 72057594037927936 dP dP dP];have X:x.fdiv 1=x:=Int.fdiv_one x;rw[X]
def gp:B:=[UInt8.ofNat (IntKind.u8.wrap (((x.fdiv 256).fdiv 256).fdiv 256)).toNat,UInt8.ofNat (IntKind.u8.wrap ((x.fdiv 256).fdiv 256)).toNat,UInt8.ofNat (IntKind.u8.wrap (x.fdiv 256)).toNat,UInt8.ofNat (IntKind.u8.wrap x).toNat]
theorem ao6(h0:0<=x)(X:x<18446744073709551616):gp x=dX x:=by
 unfold gp;have hw:IntKind.u64.wrap x=x:=Int.emod_eq_of_lt h0 X;unfold dX pB;rw[hw,ZA x 256 256 65536 dP dP dP,ZA x 65536 256 16777216 dP dP dP];have X:x.fdiv 1=x:=Int.fdiv_one x;rw[X]
end
def Mn:ag->Option (ah×V)
 | [.int .u64 x,.int .i64 k]=>match k with
   | .ofNat 8=>some ([],.str (wc x))
   | .ofNat 4=>some ([],.str (gp x))
   |_=>none
 |_=>none
theorem acJ:jK ak 144 (jW Mn):=by
 refine kD (ax U) fun args cU v e=>?_;unfold Mn at e;split at e
 case h_2=>cases e
 rename_i x k;split at e
 . obtain⟨rfl,rfl⟩:=fg e;refine⟨rfl,U,fun _=>ik mo po Tryz.func144 (code:=dO Tryz.f144) U U rfl ?_⟩;refine eZ XL (aoT x) (dG ?_);refine⟨?_,_,_,_,rfl,?_⟩
   . repeat' (first|exact cW|refine kg ?_ ?_)
     all_goals first|exact⟨dP,dP⟩|exact⟨dP,dP,dP⟩|exact ax rfl
   . rfl
 . obtain⟨rfl,rfl⟩:=fg e;refine⟨rfl,U,fun _=>ik mo po Tryz.func144 (code:=dO Tryz.f144) U U rfl ?_⟩;refine eZ XL (aoU x) (dG ?_);refine⟨?_,_,_,_,rfl,?_⟩
   . repeat' (first|exact cW|refine kg ?_ ?_)
     all_goals first|exact⟨dP,dP⟩|exact⟨dP,dP,dP⟩|exact ax rfl
   . rfl
 . cases e
noncomputable abbrev W20:jY:=kC 144 (jW Mn) (kC 145 (jW Mm) W16)
theorem To:gm ak W20:=fh acJ (fh acI DP)
noncomputable abbrev zY:e9:=gL ak W20 H0 1000 40
noncomputable abbrev If:CX ak:=CX.of mo po To H0 1000 40
structure hU where
 dg:B
 da:B
 O:List (B)
def hU.d(c:hU):ai:=[.str c.dg,.str c.da,.dV c.O.length (strs c.O)]
def fJ(l:List hU):ai:=(l.map hU.d).flatten
def fD(l:List (B×B)):ai:=(l.map fun p=>[lf.str p.1,lf.str p.2]).flatten
structure RS where
 Q:List hU
 ro:List (B×B)
section
variable(s:RS)(x:B)(i:Nat)
def RS.v:V:=.agg [.dV false s.Q.length (fJ s.Q),.dV false s.ro.length (fD s.ro)]
noncomputable abbrev Tp:Code:=dO Tryz.f70
noncomputable abbrev ao8:Code:=dD (dD (dU (dS (dw 1 Tp))))
noncomputable abbrev Tq:Code:=dO Tryz.f115
noncomputable abbrev ao9:Code:=dD (dD (dU (dS (dw 1 Tq))))
def bx:rs:=.cells [.dV false s.Q.length (fJ s.Q),.dV false s.ro.length (fD s.ro)]
def Qw:St:=eL [(1,.str x),(2,.ptr (some (3,0))),(5,iW i)] (K [(3,bx s)]) 4
theorem apa:dc zY [] 3 Tryz.f70 [1,2] (eU 1 Tp) (cZ [s.v,.str x] .nil 3) [([],[],eP (eL [(1,.str x),(2,.ptr (some (3,0)))] (K [(3,.cells [.dV false (s.Q.length) (fJ s.Q),.dV false (s.ro.length) (fD s.ro)])]) 4))]:=cT.ef
theorem apb:dc zY [] 3 Tryz.f70 [1,2,5] (dS (dS (dw 1 Tp))) (eL [(1,.str x),(2,.ptr (some (3,0)))] (K [(3,bx s)]) 4) [([],[],eP (Qw s x 0))]:=cT.ef
theorem ahE(c:hU):dc zY [(10,.split),(16,.di (.eK c.d)),(20,.split),(12,.di (iW (i+1)))] 3 Tryz.f70 [1,2,5] (ao8) (Qw s x i) (Jl (decide (Int.ofNat i<(Int.ofNat s.Q.length))) (eI c.dg x) ([kJ i s.Q.length,(fJ s.Q).length=s.Q.length*3,nT (fJ s.Q) i 3 c.d],.ret (.int .i64 (Int.ofNat i)) (K []) 3) ([kJ i s.Q.length,(fJ s.Q).length=s.Q.length*3,nT (fJ s.Q) i 3 c.d,Ez i],eP (Qw s x (i+1))) ([],.to (.exit 0) (Qw s x i))):=cT.ef
theorem apc:dc zY [] 3 Tryz.f70 [] (dU (dw 1 Tp)) (Qw s x i) [([],[],.ret (.int .i64 (-1)) (K []) 3)]:=cT.ef
theorem apd:dc zY [] 3 Tryz.f115 [1,2] (eU 1 Tq) (cZ [s.v,.str x] .nil 3) [([],[],eP (eL [(1,.str x),(2,.ptr (some (3,0)))] (K [(3,.cells [.dV false (s.Q.length) (fJ s.Q),.dV false (s.ro.length) (fD s.ro)])]) 4))]:=cT.ef
theorem ape:dc zY [] 3 Tryz.f115 [1,2,5] (dS (dS (dw 1 Tq))) (eL [(1,.str x),(2,.ptr (some (3,0)))] (K [(3,bx s)]) 4) [([],[],eP (Qw s x 0))]:=cT.ef
theorem ahF(n d:B):dc zY [(10,.split),(16,.di (.eK [.str n,.str d])),(20,.split),(24,.di (.eK [.str n,.str d])),(12,.di (iW (i+1)))] 3 Tryz.f115 [1,2,5] (ao9) (Qw s x i) (Jl (decide (Int.ofNat i<(Int.ofNat s.ro.length))) (eI n x) ([kJ i s.ro.length,(fD s.ro).length=s.ro.length*2,nT (fD s.ro) i 2 [lf.str n,lf.str d],kJ i s.ro.length,(fD s.ro).length=s.ro.length*2,nT (fD s.ro) i 2 [lf.str n,lf.str d]],.ret (.str d) (K []) 3) ([kJ i s.ro.length,(fD s.ro).length=s.ro.length*2,nT (fD s.ro) i 2 [lf.str n,lf.str d],Ez i],eP (Qw s x (i+1))) ([],.to (.exit 0) (Qw s x i))):=cT.ef
theorem apf:dc zY [] 3 Tryz.f115 [] (dU (dw 1 Tq)) (Qw s x i) [([],[],.ret (.str []) (K []) 3)]:=cT.ef
end
theorem tn{α β:Type}{f:α->List β}{w:Nat}(hf:∀x,(f x).length=w):∀l:List α,(l.map f).flatten.length=l.length*w
 | []=>by simp
 |x::l=>by
  rw[bX,List.flatten_cons,ay,hf,tn hf l,aT,cQ];omega
theorem we{α:Type}{f:α->ai}{w:Nat}(hf:∀x,(f x).length=w):∀(l:List α) (i:Nat) (h:i<l.length),eX ((l.map f).flatten) (i*w) w=f l[i]
 |x::l,0,_=>by
  unfold eX;rw[Nat.zero_mul,bw,bX,List.flatten_cons,List.take_left' (hf x)];rfl
 |x::l,i+1,h=>by
  have ih:=we hf l i (by simpa using h);unfold eX at ih ⊢;rw[bX,List.flatten_cons,show(i+1)*w=w+i*w by rw[cQ];omega,<- List.drop_drop,List.drop_left' (hf x),ih];rfl
theorem lO(l:List hU):(fJ l).length=l.length*3:=tn (f:=hU.d) (w:=3) (fun _=>rfl) l
theorem yC(l:List hU)(i:Nat)(h:i<l.length):eX (fJ l) (i*3) 3=l[i].d:=we (f:=hU.d) (w:=3) (fun _=>rfl) l i h
section
variable(l:List (B×B))
theorem nX:(fD l).length=l.length*2:=tn (f:=fun p:B×B=>[lf.str p.1,lf.str p.2]) (w:=2) (fun _=>rfl) l
theorem D1(i:Nat)(h:i<l.length):eX (fD l) (i*2) 2=[lf.str l[i].1,lf.str l[i].2]:=we (f:=fun p:B×B=>[lf.str p.1,lf.str p.2]) (w:=2) (fun _=>rfl) l i h
end
def tq(x:B):List hU->Nat->Int
 | [],_=> -1
 |c::l,i=>if c.dg=x then i else tq x l (i+1)
def gj(l:List hU)(x:B):Int:=tq x l 0
def gQ(x:B):List (B×B)->B
 | []=>[]
 |p::l=>if p.1=x then p.2 else gQ x l
theorem Mo{x:B}{l:List hU}{i:Nat}(h:i<l.length):tq x (l.drop i) i=if l[i].dg=x then(i:Int)else tq x (l.drop (i+1)) (i+1):=by
 rw[bJ h];rfl
theorem Mp{x:B}{l:List (B×B)}{i:Nat}(h:i<l.length):gQ x (l.drop i)=if l[i].1=x then l[i].2 else gQ x (l.drop (i+1)):=by
 rw[bJ h];rfl
theorem pK{a b:B}(h:eI a b=false):a≠b:=by rw[gr]at h;exact bG.1 h
section
variable(s:RS)(x:B)
theorem apg(hl:s.Q.length<=1000000):TG ak 3 Tryz.f70.ntmps Tp (cZ [s.v,.str x] .nil 3) (fL ak 3 Tryz.f70 fun u _ _=>u= .int .i64 (gj s.Q x)):=by
 refine iw  1 If (apa s x) cW ?_;refine c6 U ?_;refine c6 U ?_;refine fV If (apb s x) (dG ?_);refine⟨cW,fun s' ek=>?_⟩;refine jz (α:=Nat) 0 (fun i=>s.Q.length-i) (fun i=>i<=s.Q.length/\gj s.Q x=tq x (s.Q.drop i) i) (Qw s x) U U 0 ⟨aX _,by rw[bw];rfl⟩ (.norm ek) fun i ⟨hi,he⟩=>?_;rcases bO i s.Q.length with fH|AE
 . have kL:=yC s.Q i fH;rw[Mo fH]at he;generalize J:s.Q[i]=c at kL he;obtain⟨L3,yw⟩:=ahE s x i c;have ha:∀a∈[((0:Int)<=Int.ofNat i/\Int.ofNat i<(Int.ofNat s.Q.length)),((fJ s.Q).length=s.Q.length*3),(V.eK (eX (fJ s.Q) (i*3) 3)=V.eK c.d)],a:=G (⟨aA _,dr⟩) (G (lO _) (eS (aL V.eK kL)));refine gP If mo (fun u _ _=>u= .int .i64 (gj s.Q x)) U yw fun g hg I5=>?_;rcases xl hg with rfl|rfl|rfl
   . have h2:=mw (I5 _ (aM _ (au.2 rfl)));rw[aF h2]at he;exact⟨ha,by rw[he];rfl,fun s2 gY=>gY⟩
   . have h2:=pK (I5 _ (aM _ (au.2 rfl)));rw[aJ h2]at he;exact⟨G (⟨aA _,dr⟩) (G (lO _) (G (aL V.eK kL) (eS (oQ dr L)))),fun s2 gY=>⟨i+1,L,⟨L,he⟩,.norm gY⟩⟩
   . exact absurd (aK (I5 _ (au.2 rfl))) dr
 . obtain rfl:i=s.Q.length:=by omega
   obtain⟨L3,yw⟩:=ahE s x s.Q.length ⟨[],[],[]⟩;refine gP If mo (fun u _ _=>u= .int .i64 (gj s.Q x)) U yw fun g hg I5=>?_;rcases xl hg with rfl|rfl|rfl
   . exact absurd (aI (I5 _ (aQ ..))) dr
   . exact absurd (aI (I5 _ (aQ ..))) dr
   . refine⟨cW,fun s2 gY=>?_⟩;simp only[andThen,dY];refine dh gY ?_;refine eZ If (apc s x s.Q.length) (dG ?_);refine⟨cW,_,_,_,rfl,?_⟩;rw[he,List.drop_length];rfl
theorem aph(hl:s.ro.length<=1000000):TG ak 3 Tryz.f115.ntmps Tq (cZ [s.v,.str x] .nil 3) (fL ak 3 Tryz.f115 fun u _ _=>u= .str (gQ x s.ro)):=by
 refine iw  1 If (apd s x) cW ?_;refine c6 U ?_;refine c6 U ?_;refine fV If (ape s x) (dG ?_);refine⟨cW,fun s' ek=>?_⟩;refine jz (α:=Nat) 0 (fun i=>s.ro.length-i) (fun i=>i<=s.ro.length/\gQ x s.ro=gQ x (s.ro.drop i)) (Qw s x) U U 0 ⟨aX _,by rw[bw]⟩ (.norm ek) fun i ⟨hi,he⟩=>?_;rcases bO i s.ro.length with fH|AE
 . have kL:=D1 s.ro i fH;rw[Mp fH]at he;generalize J:s.ro[i]=c at kL he;obtain⟨n,d⟩:=c;obtain⟨L3,yw⟩:=ahF s x i n d;refine gP If mo (fun u _ _=>u= .str (gQ x s.ro)) U yw fun g hg I5=>?_;rcases xl hg with rfl|rfl|rfl
   . have h2:=mw (I5 _ (aM _ (au.2 rfl)));rw[aF h2]at he;exact⟨G (⟨aA _,dr⟩) (G (nX _) (G (aL V.eK kL) (G (⟨aA _,dr⟩) (G (nX _) (eS (aL V.eK kL)))))),by rw[he],fun s2 gY=>gY⟩
   . have h2:=pK (I5 _ (aM _ (au.2 rfl)));rw[aJ h2]at he;exact⟨G (⟨aA _,dr⟩) (G (nX _) (G (aL V.eK kL) (eS (oQ dr L)))),fun s2 gY=>⟨i+1,L,⟨L,he⟩,.norm gY⟩⟩
   . exact absurd (aK (I5 _ (au.2 rfl))) dr
 . obtain rfl:i=s.ro.length:=by omega
   obtain⟨L3,yw⟩:=ahF s x s.ro.length [] [];refine gP If mo (fun u _ _=>u= .str (gQ x s.ro)) U yw fun g hg I5=>?_;rcases xl hg with rfl|rfl|rfl
   . exact absurd (aI (I5 _ (aQ ..))) dr
   . exact absurd (aI (I5 _ (aQ ..))) dr
   . refine⟨cW,fun s2 gY=>?_⟩;simp only[andThen,dY];refine dh gY ?_;refine eZ If (apf s x s.ro.length) (dG ?_);refine⟨cW,_,_,_,rfl,?_⟩;rw[he,List.drop_length];rfl
end
noncomputable abbrev Fe:Code:=dO Tryz.f116
section
variable(s:B)(q:E8)(k:Nat)(m gz:B)
def zs(k:Nat):List Int:=(128:Int)::List.replicate k 0
def qS:E8:=(1779033703,3144134277,1013904242,2773480762,1359893119,2600822924,528734635,1541459225)
def sOz(us:List Int):St:=eL [(0,.str s),(3,.ptr (some (3,0))),(4,.ptr (some (4,0))),(5,.dx (some (5,0)) (k+1) (k+1) 1)] (K [(3,.cells (c8 qS)),(4,.cells (gR.map (V.int .u32 ·))),(5,.own .u8 us)]) 6
def sOa:St:=sOz s k (zs k)
def ZB(r:List (Nat×V)):St:=eL ([(3,.ptr (some (3,0))),(4,.ptr (some (4,0))),(6,.str m)]++r) (K [(3,.cells (c8 q)),(4,.cells (gR.map (V.int .u32 ·)))]) 5
end
section
variable(s:B)(q:E8)(k:Nat)(m:B)(i:Nat)
theorem api:dc zY [] 3 Tryz.f116 [0,3,4,5] (eU 4 Fe) (cZ [.str s] .nil 3) [([],[],eP (eL [(0,.str s),(3,.ptr (some (3,0))),(4,.ptr (some (4,0))),(5,.dx (some (5,0)) 1 1 1)] (K [(3,.cells [.int .u32 1779033703,.int .u32 3144134277,.int .u32 1013904242,.int .u32 2773480762,.int .u32 1359893119,.int .u32 2600822924,.int .u32 528734635,.int .u32 1541459225]),(4,.cells [.int .u32 1116352408,.int .u32 1899447441,.int .u32 3049323471,.int .u32 3921009573,.int .u32 961987163,.int .u32 1508970993,.int .u32 2453635748,.int .u32 2870763221,.int .u32 3624381080,.int .u32 310598401,.int .u32 607225278,.int .u32 1426881987,.int .u32 1925078388,.int .u32 2162078206,.int .u32 2614888103,.int .u32 3248222580,.int .u32 3835390401,.int .u32 4022224774,.int .u32 264347078,.int .u32 604807628,.int .u32 770255983,.int .u32 1249150122,.int .u32 1555081692,.int .u32 1996064986,.int .u32 2554220882,.int .u32 2821834349,.int .u32 2952996808,.int .u32 3210313671,.int .u32 3336571891,.int .u32 3584528711,.int .u32 113926993,.int .u32 338241895,.int .u32 666307205,.int .u32 773529912,.int .u32 1294757372,.int .u32 1396182291,.int .u32 1695183700,.int .u32 1986661051,.int .u32 2177026350,.int .u32 2456956037,.int .u32 2730485921,.int .u32 2820302411,.int .u32 3259730800,.int .u32 3345764771,.int .u32 3516065817,.int .u32 3600352804,.int .u32 4094571909,.int .u32 275423344,.int .u32 430227734,.int .u32 506948616,.int .u32 659060556,.int .u32 883997877,.int .u32 958139571,.int .u32 1322822218,.int .u32 1537002063,.int .u32 1747873779,.int .u32 1955562222,.int .u32 2024104815,.int .u32 2227730452,.int .u32 2361852424,.int .u32 2428436474,.int .u32 2756734187,.int .u32 3204031479,.int .u32 3329325298]),(5,.cells [.int .u8 128])]) 6))]:=cT.ef
abbrev Ts:Prop:=V.int aj (IntKind.i64.wrap ((Int.ofNat s.length)+(Int.ofNat (k+1))))=iW (s.length+(k+1))
abbrev Tt:Prop:=V.int aj ((Int.ofNat (s.length+(k+1))).tmod (64:Int))=iW ((s.length+(k+1))%64)
theorem ahH:dc zY [(17,.di (iW (s.length+(k+1)))),(18,.di (iW ((s.length+(k+1))%64))),(19,.split)] 3 Tryz.f116 [0,3,4,5] (dD (dD (dS (dw 4 Fe)))) (sOa s k) (iU (Int.ofNat ((s.length+(k+1))%64) !=(56:Int)) ([Ts s k,Tt s k,0<k+1,0+(k+1)*1<=(zs k).length,0<1,fa (k+1+1) 1 1=true],eP (sOz s (k+1) (List.take ((k+1)*1) (List.drop 0 (zs k))++[0]))) ([Ts s k,Tt s k],.to (.exit 0) (sOa s k))):=cT.ef
theorem apj:dc zY [] 3 Tryz.f116 [3,4,6] (dS (dw 5 Fe)) (sOa s k) [([],[0+(k+1)<=(zs k).length,s.length+(eW (List.take (k+1) (List.drop 0 (zs k)))).length<=9223372036854775807,0+(k+1)<=(zs k).length,(s++eW (List.take (k+1) (List.drop 0 (zs k)))).length+(wc (IntKind.u64.wrap ((8:Int)*IntKind.u64.wrap (Int.ofNat s.length)))).length<=9223372036854775807],eP (ZB qS (s++eW (List.take (k+1) (List.drop 0 (zs k)))++wc (IntKind.u64.wrap ((8:Int)*IntKind.u64.wrap (Int.ofNat s.length)))) []))]:=cT.ef
theorem apk:dc zY [] 3 Tryz.f116 [3,4,6,7] (dS (dS (dw 6 Fe))) (ZB q m []) [([],[],eP (ZB q m [(7,iW 0)]))]:=cT.ef
theorem ahI:dc zY [(36,.split),(43,.di (iW (64*i+64))),(38,.di (iW (64*(i+1))))] 3 Tryz.f116 [3,4,6,7] (dD (dD (dU (dS (dw 6 Fe))))) (ZB q m [(7,iW (64*i))]) (iU (decide (Int.ofNat (64*i)<(Int.ofNat m.length))) ([V.int aj (IntKind.i64.wrap (Int.ofNat (64*i)+(64:Int)))=iW (64*i+64),(0:Int)<=Int.ofNat (64*i+64)/\Int.ofNat (64*i+64)<=(Int.ofNat m.length),(0:Int)<=Int.ofNat (64*i)/\Int.ofNat (64*i)<=(Int.ofNat (64*i+64)),64<=(List.drop (64*i) (List.take (64*i+64) m)).length,V.agg (List.take 64 (List.drop 0 (List.map (fun x=>V.int IntKind.u32 x) gR)))=aR,V.int aj (IntKind.i64.wrap (Int.ofNat (64*i)+(64:Int)))=iW (64*(i+1))],eP (ZB (zK gR (Cl m (64*i)) q) m [(7,iW (64*(i+1)))])) ([],.to (.exit 2) (ZB q m [(7,iW (64*i))]))):=cT.ef
theorem apl:dc zY [] 3 Tryz.f116 [] (dw 7 Fe) (ZB q m [(7,iW (64*i))]) [([],[(0:Int)<=(0:Int)/\(0:Int)<(8:Int),0+(gp (IntKind.u64.wrap q.1)).length<=9223372036854775807,(0:Int)<=(1:Int)/\(1:Int)<(8:Int),(([]:B)++gp (IntKind.u64.wrap q.1)).length+(gp (IntKind.u64.wrap q.2.1)).length<=9223372036854775807,(0:Int)<=(2:Int)/\(2:Int)<(8:Int),(([]:B)++gp (IntKind.u64.wrap q.1)++gp (IntKind.u64.wrap q.2.1)).length+(gp (IntKind.u64.wrap q.2.2.1)).length<=9223372036854775807,(0:Int)<=(3:Int)/\(3:Int)<(8:Int),(([]:B)++gp (IntKind.u64.wrap q.1)++gp (IntKind.u64.wrap q.2.1)++gp (IntKind.u64.wrap q.2.2.1)).length+(gp (IntKind.u64.wrap q.2.2.2.1)).length<=9223372036854775807,(0:Int)<=(4:Int)/\(4:Int)<(8:Int),(([]:B)++gp (IntKind.u64.wrap q.1)++gp (IntKind.u64.wrap q.2.1)++gp (IntKind.u64.wrap q.2.2.1)++gp (IntKind.u64.wrap q.2.2.2.1)).length+(gp (IntKind.u64.wrap q.2.2.2.2.1)).length<=9223372036854775807,(0:Int)<=(5:Int)/\(5:Int)<(8:Int),(([]:B)++gp (IntKind.u64.wrap q.1)++gp (IntKind.u64.wrap q.2.1)++gp (IntKind.u64.wrap q.2.2.1)++gp (IntKind.u64.wrap q.2.2.2.1)++gp (IntKind.u64.wrap q.2.2.2.2.1)).length+(gp (IntKind.u64.wrap q.2.2.2.2.2.1)).length<=9223372036854775807,(0:Int)<=(6:Int)/\(6:Int)<(8:Int),(([]:B)++gp (IntKind.u64.wrap q.1)++gp (IntKind.u64.wrap q.2.1)++gp (IntKind.u64.wrap q.2.2.1)++gp (IntKind.u64.wrap q.2.2.2.1)++gp (IntKind.u64.wrap q.2.2.2.2.1)++gp (IntKind.u64.wrap q.2.2.2.2.2.1)).length+(gp (IntKind.u64.wrap q.2.2.2.2.2.2.1)).length<=9223372036854775807,(0:Int)<=(7:Int)/\(7:Int)<(8:Int),(([]:B)++gp (IntKind.u64.wrap q.1)++gp (IntKind.u64.wrap q.2.1)++gp (IntKind.u64.wrap q.2.2.1)++gp (IntKind.u64.wrap q.2.2.2.1)++gp (IntKind.u64.wrap q.2.2.2.2.1)++gp (IntKind.u64.wrap q.2.2.2.2.2.1)++gp (IntKind.u64.wrap q.2.2.2.2.2.2.1)).length+(gp (IntKind.u64.wrap q.2.2.2.2.2.2.2)).length<=9223372036854775807],.ret (.str (([]:B)++gp (IntKind.u64.wrap q.1)++gp (IntKind.u64.wrap q.2.1)++gp (IntKind.u64.wrap q.2.2.1)++gp (IntKind.u64.wrap q.2.2.2.1)++gp (IntKind.u64.wrap q.2.2.2.2.1)++gp (IntKind.u64.wrap q.2.2.2.2.2.1)++gp (IntKind.u64.wrap q.2.2.2.2.2.2.1)++gp (IntKind.u64.wrap q.2.2.2.2.2.2.2))) (K []) 3)]:=cT.ef
end
theorem Xk{s t:B}{j:Nat}(h:64*j+64<=s.length):Cl (s++t) (64*j)=Cl s (64*j):=by
 unfold Cl;rw[bY h]
theorem F9(rd:List Int)(s t:B)(q:E8):∀n,64*n<=s.length->jX rd (s++t) q n=jX rd s q n
 |0,_=>rfl
 |n+1,h=>by
  show zK rd (Cl (s++t) (64*n)) (jX rd (s++t) q n)=zK rd (Cl s (64*n)) (jX rd s q n);rw[Xk L,F9 rd s t q n L]
theorem D2(rd:List Int)(m:B)(q:E8)(I:Nat):∀k,jX rd m q (I+k)=jX rd (m.drop (64*I)) (jX rd m q I) k
 |0=>rfl
 |k+1=>by
  show zK rd (Cl m (64*(I+k))) (jX rd m q (I+k))=zK rd (Cl (m.drop (64*I)) (64*k)) _;rw[D2 rd m q I k];congr 1;unfold Cl;rw[List.take_drop,List.drop_drop,show 64*I+(64*k+64)=64*(I+k)+64 by omega,show 64*I+64*k=64*(I+k)by omega]
section
variable(s:B)
def zZ:B:=s++(128::List.replicate (iz s) 0)++mM (Int.ofNat (s.length*8))
theorem JL:(zZ s).length=s.length/64*64+(nr s).length/\(nr s).length%64=0:=by
 unfold zZ nr iz;simp only[ay,aT,bM,b7,aY,bP];have:(mM (Int.ofNat (s.length*8))).length=8:=rfl;rw[this];omega
theorem PL:(zZ s).drop (64*(s.length/64))=nr s:=by
 unfold zZ nr;rw[aU,bA,List.drop_append_of_le_length L,Nat.mul_comm 64,bA,bA];rfl
theorem Xl:R6 (jX gR (zZ s) (Lq gS) ((zZ s).length/64))=EX s:=by
 unfold EX R7;congr 1;obtain⟨X,h2⟩:=JL s;have e:(zZ s).length/64=s.length/64+(nr s).length/64:=by omega
 rw[e,D2,PL];congr 1;unfold zZ;rw[bA];exact F9 gR s _ (Lq gS) _ L
end
section
variable(k:Nat)(x:Int)
theorem D3:(zs k).length=k+1:=by unfold zs;rw[aT,bM]
theorem Xm:List.take ((k+1)*1) (List.drop 0 (zs k))++[0]=zs (k+1):=by
 rw[bw,bk (by rw[D3];omega)];unfold zs;rw[List.cons_append,List.replicate_succ']
theorem Tu:eW (List.take (k+1) (List.drop 0 (zs k)))=128::List.replicate k 0:=by
 rw[bw,bk (by rw[D3];omega)];unfold zs eW;rw[bX,List.map_replicate];rfl
theorem apm:IntKind.u64.wrap (IntKind.u64.wrap x)=IntKind.u64.wrap (IntKind.i64.wrap x):=by
 have h:∀y:Int,IntKind.u64.wrap y=y%18446744073709551616:=fun _=>rfl;have h2:IntKind.i64.wrap x=(if(decide (x%18446744073709551616>=9223372036854775808))=true then x%18446744073709551616-18446744073709551616 else x%18446744073709551616):=rfl;rw[h,h,h,h2];split<;>omega
theorem acK:gp (IntKind.u64.wrap x)=wB x:=by
 have h:IntKind.u64.wrap x=x%18446744073709551616:=rfl;rw[ao6 _ (by rw[h];omega) (by rw[h];omega)];unfold wB dX pB;rw[apm]
end
section
variable(s:B)
theorem apn(hs:s.length<=1000000000):TG ak 3 Tryz.f116.ntmps Fe (cZ [.str s] .nil 3) (fL ak 3 Tryz.f116 fun u _ _=>u= .str (EX s)):=by
 refine iw  4 If (api s) cW ?_;refine uo [(5,.u8)] (s2:=sOa s 0) U ?_;show TG _ _ _ (dw 4 Fe) _ _;have hz:iz s<64:=Nat.mod_lt _ dP;have hzm:(s.length+(iz s+1))%64=56:=by unfold iz;omega
 have H9:∀k,k<iz s->(s.length+(k+1))%64≠56:=fun k hk=>by unfold iz at hk;omega
 have ha:∀k,k<=iz s->V.int aj (IntKind.i64.wrap ((Int.ofNat s.length)+(Int.ofNat (k+1))))=iW (s.length+(k+1))/\V.int aj ((Int.ofNat (s.length+(k+1))).tmod (64:Int))=iW ((s.length+(k+1))%64):=fun k hk=>
  ⟨oQ dr L,aL (V.int aj) (by rw[jZ,bZ L];rfl)⟩
 refine c6 U ?_;refine ju 0 (iz s) (fun k=>sOa s k) U U .refl (fun k hk=>?_) ?_
 . refine fV If (ahH s k) fun g hg J=>?_;rcases jh hg with rfl|rfl
   . refine⟨G ((ha k L).1) (G ((ha k L).2) (G L (G (by rw[D3];omega) (G dP (eS (jD L)))))),fun s1 fQ=>?_⟩;rw[Xm]at fQ;exact .norm fQ
   . have h:=J _ (au.2 rfl);dsimp only at h;have:Int.ofNat ((s.length+(k+1))%64)=56:=by simpa using h
     exact absurd (Int.ofNat.inj this) (H9 k hk)
 . refine fV If (ahH s (iz s)) fun g hg J=>?_;rcases jh hg with rfl|rfl
   . have h:=J _ (au.2 rfl);dsimp only at h;rw[hzm]at h;exact absurd h dP
   refine⟨G ((ha _ (aC _)).1) (eS ((ha _ (aC _)).2)),fun s1 fQ=>⟨by simp,?_⟩⟩;rw[dY];refine dh fQ ?_;show TG _ _ _ (dw 5 Fe) _ _;refine c6 U ?_;refine fV If (apj s (iz s)) (dG ?_);have M:IntKind.u64.wrap ((8:Int)*IntKind.u64.wrap (Int.ofNat s.length))=Int.ofNat (s.length*8):=by
    show(8*(Int.ofNat s.length%18446744073709551616))%18446744073709551616=_;rw[jZ,jZ];omega
   have apo:s++eW (List.take (iz s+1) (List.drop 0 (zs (iz s))))++wc (IntKind.u64.wrap ((8:Int)*IntKind.u64.wrap (Int.ofNat s.length)))=zZ s:=by
    rw[Tu,M,ahD _ dr dr];rfl
   have K3:(eW (List.take (iz s+1) (List.drop 0 (zs (iz s))))).length=iz s+1:=by rw[Tu,aT,bM]
   have Ex:∀x,(wc x).length=8:=fun _=>rfl;refine⟨G (by rw[D3];omega) (G (by rw[K3];omega) (G (by rw[D3];omega) (eS (by rw[ay,K3,Ex];omega)))),fun s2 gY=>?_⟩;rw[apo]at gY;refine dh gY ?_;have hml:=JL s;have pY:=Xl s;have hmb:(zZ s).length<=2000000000:=by
    unfold zZ;rw[ay,ay,aT,bM];have:(mM (Int.ofNat (s.length*8))).length=8:=rfl;omega
   obtain⟨n,hn⟩:∃n,(zZ s).length=64*n:=⟨(zZ s).length/64,L⟩;rw[hn,show 64*n/64=n by omega]at pY;generalize zZ s=m at hn pY hmb ⊢;show TG _ _ _ (dw 6 Fe) _ _;refine c6 U ?_;refine c6 U ?_;refine fV If (apk qS m) (dG ?_);refine⟨cW,fun s3 uV=>?_⟩;refine ju 2 n (fun i=>ZB (jX gR m (Lq gS) i) m [(7,iW (64*i))]) U U (.norm uV) (fun i hi=>?_) ?_
   . refine fV If (ahI (jX gR m (Lq gS) i) m i) fun g hg J=>?_;rcases jh hg with rfl|rfl
     . refine⟨G (oQ dr L) (G (⟨aA _,dr⟩) (G (⟨aA _,dr⟩) (G (by rw[b7,aY];omega) (G (rfl) (eS (oQ dr L)))))),fun s4 JK=>.norm JK⟩
     . exact absurd (aK (J _ (au.2 rfl))) dr
   . refine fV If (ahI (jX gR m (Lq gS) n) m n) fun g hg J=>?_;rcases jh hg with rfl|rfl
     . exact absurd (aI (J _ (au.2 rfl))) dr
     refine⟨cW,fun s4 JK=>⟨by simp,?_⟩⟩;rw[dY];refine dh JK ?_;refine eZ If (apl (jX gR m (Lq gS) n) m n) (dG ?_);refine⟨?_,_,_,_,rfl,?_⟩
     . repeat' (first|exact cW|refine kg ?_ ?_)
       all_goals first|exact⟨dP,dP⟩|exact ax rfl
     . rw[<- pY];unfold R6;simp only[acK,gu,cH]
end
def Mq:ag->Option (ah×V)
 | [.str s]=>some ([s.length<=1000000000],.str (EX s))
 |_=>none
theorem acL:jK ak 116 (jW Mq):=by
 refine kD (ax U) fun args cU v e=>?_;unfold Mq at e;split at e
 . obtain⟨rfl,rfl⟩:=fg e;exact⟨rfl,U,fun hA=>ik mo po Tryz.func116 U U rfl (apn _ (hA _ (by simp)))⟩
 . cases e
noncomputable abbrev W21:jY:=kC 116 (jW Mq) W20
theorem Tv:gm ak W21:=fh acL To
noncomputable abbrev Xn:e9:=gL ak W21 H0 1000 40
noncomputable abbrev X21:CX ak:=CX.of mo po Tv H0 1000 40
noncomputable abbrev Tw:Code:=dO Tryz.f117
noncomputable abbrev aps:Code:=dD (dD (dU (dS (dw 2 Tw))))
section
variable(f:Bool)(ps:List (B))(gz:B)(i:Nat)
def sPi:St:=eL [(0,.dV f ps.length (strs ps)),(3,.str gz),(4,iW i)] (K []) 3
theorem apt:dc Xn [] 3 Tryz.f117 [0,3] (eU 2 Tw) (cZ [.dV f ps.length (strs ps)] .nil 3) [([],[],eP (eL [(0,.dV f ps.length (strs ps)),(3,.str [])] (K []) 3))]:=cT.ef
theorem apu:dc Xn [] 3 Tryz.f117 [0,3,4] (dS (dS (dw 2 Tw))) (eL [(0,.dV f ps.length (strs ps)),(3,.str [])] (K []) 3) [([],[],eP (sPi f ps [] 0))]:=cT.ef
theorem ahL(p:B)(i:Nat):dc Xn [(8,.split),(14,.di (.eK [.str p])),(22,.di (.eK [.str p])),(10,.di (iW (i+1)))] 3 Tryz.f117 [0,3,4] (aps) (sPi f ps gz i) (iU (decide (Int.ofNat i<(Int.ofNat ps.length))) ([kJ i ps.length,(strs ps).length=ps.length*1,nT (strs ps) i 1 [lf.str p],gz.length+(wc (IntKind.u64.wrap (Int.ofNat p.length))).length<=9223372036854775807,kJ i ps.length,(strs ps).length=ps.length*1,nT (strs ps) i 1 [lf.str p],(gz++wc (IntKind.u64.wrap (Int.ofNat p.length))).length+p.length<=9223372036854775807,Ez i],eP (eL [(0,.dV f (ps.length) (strs ps)),(3,.str (gz++wc (IntKind.u64.wrap (Int.ofNat p.length))++p)),(4,.int .i64 (Int.ofNat (i+1)))] (K []) 3)) ([],.to (.exit 0) (eL [(0,.dV f (ps.length) (strs ps)),(3,.str gz),(4,.int .i64 (Int.ofNat i))] (K []) 3))):=cT.ef
theorem apv:dc Xn [] 3 Tryz.f117 [] (dU (dw 2 Tw)) (sPi f ps gz i) [([],[],.ret (.str gz) (K []) 3)]:=cT.ef
end
theorem Mr{ps:List (B)}{i:Nat}(h:i<ps.length):eJ (ps.take (i+1))=eJ (ps.take i)++mM (Int.ofNat (ps[i]).length)++ps[i]:=by
 unfold eJ;rw[bH,az h,cF,List.flatMap_append,List.flatMap_singleton,bA]
theorem PM(ps:List (B))(i:Nat):(eJ (ps.take i)).length<=(eJ ps).length:=by
 conv=>rhs;rw[<- cg i ps]
 unfold eJ;rw[List.flatMap_append,ay];omega
theorem apw(f:Bool)(ps:List (B))(hp:ps.length<=1000000)(hj:(eJ ps).length<=1000000000):TG ak 3 Tryz.f117.ntmps Tw (cZ [.dV f ps.length (strs ps)] .nil 3) (fL ak 3 Tryz.f117 fun u _ _=>u= .str (eJ ps)):=by
 refine iw  2 X21 (apt f ps) cW ?_;refine c6 U ?_;refine c6 U ?_;refine fV X21 (apu f ps) (dG ?_);refine⟨cW,fun s' ek=>?_⟩;refine ju 0 ps.length (fun i=>sPi f ps (eJ (ps.take i)) i) U U (.norm ek) (fun i hi=>?_) ?_
 . have hn:=Mr hi;have X:=PM ps (i+1);have kL:=aL V.eK (fR (az hi));have M:IntKind.u64.wrap (Int.ofNat ps[i].length)=Int.ofNat ps[i].length:=by
    have:ps[i].length<=1000000000:=by rw[hn,ay]at X;omega
    show Int.ofNat ps[i].length%18446744073709551616=_;rw[jZ];omega
   have hlp:ps[i].length<=1000000000:=by rw[hn,ay]at X;omega
   refine fV X21 (ahL f ps (eJ (ps.take i)) ps[i] i) fun g hg J=>?_;have h8:∀x,(wc x).length=8:=fun _=>rfl;have h8':(mM (Int.ofNat ps[i].length)).length=8:=rfl;rcases jh hg with rfl|rfl
   . rw[hn,ay,ay]at X;refine⟨G (⟨aA _,dr⟩) (G (by rw[eN];omega) (G (kL) (G (by rw[h8];omega) (G (⟨aA _,dr⟩) (G (by rw[eN];omega) (G (kL) (G (by rw[ay,h8];omega) (eS (oQ dr L))))))))),fun s1 fQ=>?_⟩;rw[M,ahD _ dr dr]at fQ;show gI _ _ _ _ (sPi f ps (eJ (ps.take (i+1))) (i+1));rw[hn];exact .norm fQ
   . exact absurd (aK (J _ (au.2 rfl))) dr
 . refine fV X21 (ahL f ps (eJ (ps.take ps.length)) [] ps.length) fun g hg J=>?_;rcases jh hg with rfl|rfl
   . exact absurd (aI (J _ (au.2 rfl))) dr
   refine⟨cW,fun s1 fQ=>⟨by simp,?_⟩⟩;rw[dY];refine dh fQ ?_;refine eZ X21 (apv f ps (eJ (ps.take ps.length)) ps.length) (dG ?_);exact⟨cW,_,_,_,rfl,by rw[aU]⟩
def Ms:ai->Option (ah×V)
 | [.dV n Q]=>some ([Q=strs (dI Q),n=(dI Q).length,n<=1000000,(eJ (dI Q)).length<=1000000000],.str (eJ (dI Q)))
 |_=>none
theorem acM:jK ak 117 (Go.Eng.dW Ms):=by
 refine vR (ax U) fun args cU v e hA=>?_;unfold Ms at e;split at e
 case h_2=>cases e
 rename_i n Q;simp only[an,aB]at e;obtain⟨rfl,rfl⟩:=e;have e1:Q=strs (dI Q):=hA _ (by simp);have e2:n=(dI Q).length:=hA (n=(dI Q).length) (by simp);have e3:n<=1000000:=hA (n<=1000000) (by simp);have e4:(eJ (dI Q)).length<=1000000000:=hA ((eJ (dI Q)).length<=1000000000) (by simp);generalize dI Q=ps at *;subst e1 e2;exact iq mo po Tryz.func117 U U rfl rfl (fB (apw false ps e3 e4) fun y s h=>kE h)
noncomputable abbrev W22:jY:=kC 117 (Go.Eng.dW Ms) W21
theorem Tx:gm ak W22:=fh acM Tv
noncomputable abbrev Xo:e9:=gL ak W22 H0 1000 40
noncomputable abbrev X22:CX ak:=CX.of mo po Tx H0 1000 40
noncomputable abbrev PN:Code:=dO Tryz.f69
noncomputable abbrev apy:Code:=dD (dD (dU (dS (dw 2 PN))))
section
variable(O ds:List (B))(i:Nat)
def sDi:St:=eL [(1,.dV false O.length (strs O)),(5,.dx (some (3,0)) ds.length ds.length 1),(6,iW i)] (K [(3,.deep (strs ds))]) 4
theorem apz(ps:List (B)):dc Xo [] 3 Tryz.f92 [] (dO Tryz.f92) (cZ [.dV false ps.length (strs ps)] .nil 3) [([],[strs ps=strs (dI (strs ps)),ps.length=(dI (strs ps)).length,ps.length<=1000000,(eJ (dI (strs ps))).length<=1000000000,(eJ (dI (strs ps))).length<=1000000000],.ret (.str (EX (eJ (dI (strs ps))))) (K []) 3)]:=cT.ef
theorem apB(d:B)(O:List (B)):dc Xo [] 3 Tryz.f69 [1,5] (eU 2 PN) (cZ [.str d,.dV false O.length (strs O)] .nil 3) [([],[],eP (eL [(1,.dV false (O.length) (strs O)),(5,.dx (some (3,0)) 1 1 1)] (K [(3,.cells [.str d])]) 4))]:=cT.ef
theorem apC:dc Xo [] 3 Tryz.f69 [1,5,6] (dS (dS (dw 2 PN))) (eL [(1,.dV false O.length (strs O)),(5,.dx (some (3,0)) ds.length ds.length 1)] (K [(3,.deep (strs ds))]) 4) [([],[],eP (sDi O ds 0))]:=cT.ef
theorem ahO(p:B):dc Xo [(12,.split),(18,.di (.eK [.str p])),(14,.di (iW (i+1)))] 3 Tryz.f69 [1,5,6] (apy) (sDi O ds i) (iU (decide (Int.ofNat i<(Int.ofNat O.length))) ([kJ i O.length,(strs O).length=O.length*1,nT (strs O) i 1 [lf.str p],0+ds.length*1<=(strs ds).length,0<1,fa (ds.length+1) 1 16=true,Ez i],eP (eL [(1,.dV false (O.length) (strs O)),(5,.dx (some (3,0)) (ds.length+1) (ds.length+1) 1),(6,.int .i64 (Int.ofNat (i+1)))] (K [(3,.deep (List.take (ds.length*1) (List.drop 0 (strs ds))++[lf.str p]))]) 4)) ([],.to (.exit 0) (eL [(1,.dV false (O.length) (strs O)),(5,.dx (some (3,0)) (ds.length) (ds.length) 1),(6,.int .i64 (Int.ofNat i))] (K [(3,.deep (strs ds))]) 4))):=cT.ef
end
def Mt:ai->Option (ah×V)
 | [.dV n Q]=>some ([Q=strs (dI Q),n=(dI Q).length,n<=1000000,(eJ (dI Q)).length<=1000000000],.str (EX (eJ (dI Q))))
 |_=>none
theorem acN:jK ak 92 (Go.Eng.dW Mt):=by
 refine vR (ax U) fun args cU v e hA=>?_;unfold Mt at e;split at e
 case h_2=>cases e
 rename_i n Q;simp only[an,aB]at e;obtain⟨rfl,rfl⟩:=e;have e1:Q=strs (dI Q):=hA _ (by simp);have e2:n=(dI Q).length:=hA (n=(dI Q).length) (by simp);have e3:n<=1000000:=hA (n<=1000000) (by simp);have e4:(eJ (dI Q)).length<=1000000000:=hA ((eJ (dI Q)).length<=1000000000) (by simp);generalize dI Q=ps at *;subst e1 e2;refine iq mo po Tryz.func92 (code:=dO Tryz.f92) U U rfl rfl (fB (Q1:=fL ak 3 Tryz.f92 fun u _ _=>u= .str (EX (eJ ps))) ?_ fun y s h=>kE h);obtain⟨be,hr⟩:=apz ps;simp only[iu]at hr;refine ij X22 mo _ U hr (dG ?_);exact⟨G trivial (G trivial (G e3 (G e4 (eS e4)))),_,_,_,rfl,rfl⟩
noncomputable abbrev W23:jY:=kC 92 (Go.Eng.dW Mt) W22
theorem Tz:gm ak W23:=fh acN Tx
noncomputable abbrev apE:e9:=gL ak W23 H0 1000 40
noncomputable abbrev X23:CX ak:=CX.of mo po Tz H0 1000 40
theorem apF(ds:List (B)):dc apE [] 3 Tryz.f69 [] (dU (dw 2 PN)) (eL [(5,.dV false ds.length (strs ds))] (K []) 3) [([],[strs ds=strs (dI (strs ds)),ds.length=(dI (strs ds)).length,ds.length<=1000000,(eJ (dI (strs ds))).length<=1000000000],.ret (.str (EX (eJ (dI (strs ds))))) (K []) 3)]:=cT.ef
theorem apG(d:B)(O:List (B))(B8:O.length<=100000)(hj:(eJ (d::O)).length<=1000000000):TG ak 3 Tryz.f69.ntmps PN (cZ [.str d,.dV false O.length (strs O)] .nil 3) (fL ak 3 Tryz.f69 fun u _ _=>u= .str (dL d O)):=by
 refine iw  2 X22 (apB d O) cW ?_;refine(gI.deep [3] (fr:=eL [(1,.dV false O.length (strs O)),(5,.dx (some (3,0)) [d].length [d].length 1)] (K [(3,.deep (strs [d]))]) 4) U) _ _ ?_;show TG _ _ _ (dw 2 PN) _ _;refine c6 U ?_;refine c6 U ?_;refine fV X22 (apC O [d]) (dG ?_);refine⟨cW,fun s' ek=>?_⟩;refine ju 0 O.length (fun i=>sDi O (d::O.take i) i) U U (.norm ek) (fun i hi=>?_) ?_
 . have kL:=aL V.eK (fR (az hi));have hl:(d::O.take i).length=i+1:=by rw[aT,aY];omega
   have hn:d::O.take (i+1)=(d::O.take i)++[O[i]]:=by
    rw[bH,az hi,cF];rfl
   show TG _ _ _ _ _ (andThen (fun s'=>gI ak 3 Tryz.f69.ntmps s' (sDi O (d::O.take (i+1)) (i+1))) _);rw[hn];generalize d::O.take i=ds at hl ⊢;refine fV X22 (ahO O ds i O[i]) fun g hg J=>?_;rcases jh hg with rfl|rfl
   . refine⟨G (⟨aA _,dr⟩) (G (by rw[eN];omega) (G (kL) (G (by rw[eN];omega) (G dP (G (qu L) (eS (oQ dr L))))))),fun s1 fQ=>?_⟩;have e:List.take (ds.length*1) (List.drop 0 (strs ds))++[lf.str O[i]]=strs (ds++[O[i]]):=by
      rw[bw,bn,bk (by rw[eN];omega),DZ];rfl
     rw[e]at fQ;unfold sDi;rw[ay];exact .norm fQ
   . exact absurd (aK (J _ (au.2 rfl))) dr
 . refine fV X22 (ahO O (d::O.take O.length) O.length []) fun g hg J=>?_;rcases jh hg with rfl|rfl
   . exact absurd (aI (J _ (au.2 rfl))) dr
   refine⟨cW,fun s1 fQ=>⟨by simp,?_⟩⟩;rw[dY];rw[aU]at fQ;have hdl:(d::O).length<=1000000:=by rw[aT];omega
   show TG _ _ _ _ _ (fL ak 3 Tryz.f69 fun u _ _=>u= .str (EX (eJ (d::O))));generalize d::O=ds at fQ hdl hj ⊢;refine((gI.norm fQ).trans (.norm (live:=[5]) (fr:=eL [(5,.dx (some (3,0)) ds.length ds.length 1)] (K [(3,.deep (strs ds))]) 4) U)) _ _ ?_;refine Dy [3] (cU:=[(strs ds).length=ds.length*1]) (s2:=eL [(5,.dV false ds.length (strs ds))] ((K [(3,.deep (strs ds))]).set 3 none) 4) U (eS (by rw[eN,bn])) ?_;refine dh (live:=[5]) (s2:=eL [(5,.dV false ds.length (strs ds))] (K []) 3) U ?_;obtain⟨L4,Cd⟩:=apF ds;simp only[iu]at Cd;refine ij X23 mo _ U Cd (dG ?_);exact⟨G trivial (G trivial (G hdl (eS hj))),_,_,_,rfl,rfl⟩
def Mu:ai->Option (ah×V)
 | [.str d,.dV n Q]=>some ([Q=strs (dI Q),n=(dI Q).length,n<=100000,(eJ (d::dI Q)).length<=1000000000],.str (dL d (dI Q)))
 |_=>none
theorem Mv:jK ak 69 (Go.Eng.dW Mu):=by
 refine vR (ax U) fun args cU v e hA=>?_;unfold Mu at e;split at e
 case h_2=>cases e
 rename_i d n Q;simp only[an,aB]at e;obtain⟨rfl,rfl⟩:=e;have e1:Q=strs (dI Q):=hA _ (by simp);have e2:n=(dI Q).length:=hA (n=(dI Q).length) (by simp);have e3:n<=100000:=hA (n<=100000) (by simp);have e4:(eJ (d::dI Q)).length<=1000000000:=hA ((eJ (d::dI Q)).length<=1000000000) (by simp);generalize dI Q=ps at *;subst e1 e2;exact iq mo po Tryz.func69 U U rfl rfl (fB (apG d ps e3 e4) fun y s h=>kE h)
def gG:ai->List hU
 | .str a:: .str b:: .dV _ Q::r=>⟨a,b,dI Q⟩::gG r
 |_=>[]
def pZ:ai->List (B×B)
 | .str a:: .str b::r=>(a,b)::pZ r
 |_=>[]
theorem j9:∀l:List hU,gG (fJ l)=l
 | []=>rfl
 |c::l=>by
  show hU.mk c.dg c.da (dI (strs c.O))::gG (fJ l)=_;rw[iu,j9 l]
theorem sG:∀l:List (B×B),pZ (fD l)=l
 | []=>rfl
 |p::l=>by
  show(p.1,p.2)::pZ (fD l)=_;rw[sG l]
abbrev JM(n:Nat)(Q:ai)(m:Nat)(O:ai):ah:=[Q=fJ (gG Q),n=(gG Q).length,O=fD (pZ O),m=(pZ O).length,n<=1000000,m<=1000000]
def Mw:ai->Option (ah×V)
 | [.agg [.dV n Q,.dV m O],.str x]=>some (JM n Q m O,.int .i64 (gj (gG Q) x))
 |_=>none
def Mx:ai->Option (ah×V)
 | [.agg [.dV n Q,.dV m O],.str x]=>some (JM n Q m O,.str (gQ x (pZ O)))
 |_=>none
theorem uA{n m:Nat}{Q O:ai}(h:∀a∈JM n Q m O,a):∃s:RS,Q=fJ s.Q/\n=s.Q.length/\O=fD s.ro/\m=s.ro.length/\s.Q.length<=1000000/\s.ro.length<=1000000/\gG Q=s.Q/\pZ O=s.ro:=by
 have X:=h (Q=fJ (gG Q)) (by simp);have h2:=h (n=(gG Q).length) (by simp);have h3:=h (O=fD (pZ O)) (by simp);have h4:=h (m=(pZ O).length) (by simp);have h5:=h (n<=1000000) (by simp);have h6:=h (m<=1000000) (by simp);exact⟨⟨gG Q,pZ O⟩,X,h2,h3,h4,by show(gG Q).length<=_;omega,by show(pZ O).length<=_;omega,rfl,rfl⟩
theorem acO:jK ak 70 (Go.Eng.dW Mw):=by
 refine vR (ax U) fun args cU v e hA=>?_;unfold Mw at e;split at e
 case h_2=>cases e
 rename_i n Q m O x;simp only[an,aB]at e;obtain⟨rfl,rfl⟩:=e;obtain⟨s,X,h2,h3,h4,h5,h6,h7,h8⟩:=uA hA;rw[h7];clear h7 h8 hA;subst X h2 h3 h4;exact iq mo po Tryz.func70 U U rfl rfl (fB (apg s x h5) fun y s h=>kE h)
theorem acP:jK ak 115 (Go.Eng.dW Mx):=by
 refine vR (ax U) fun args cU v e hA=>?_;unfold Mx at e;split at e
 case h_2=>cases e
 rename_i n Q m O x;simp only[an,aB]at e;obtain⟨rfl,rfl⟩:=e;obtain⟨s,X,h2,h3,h4,h5,h6,h7,h8⟩:=uA hA;rw[h8];clear h7 h8 hA;subst X h2 h3 h4;exact iq mo po Tryz.func115 U U rfl rfl (fB (aph s x h6) fun y s h=>kE h)
noncomputable abbrev W24:jY:=kC 115 (Go.Eng.dW Mx) (kC 70 (Go.Eng.dW Mw) (kC 69 (Go.Eng.dW Mu) W23))
theorem TA:gm ak W24:=fh acP (fh acO (fh Mv Tz))
noncomputable abbrev uQ:e9:=gL ak W24 H0 1000 40
noncomputable abbrev EE:CX ak:=CX.of mo po TA H0 1000 40
noncomputable abbrev yD:Code:=dO Tryz.f37
section
variable(s:RS)(d:B)(O:List (B))
abbrev p9(O:List (B)):V:=.dV false O.length (strs O)
def NQ(r:List (Nat×V)):St:=eL ([(1,.str d),(2,p9 O),(3,.ptr (some (3,0))),(6,.ptr (some (4,0)))]++r) (K [(3,bx s),(4,.cells [.dx none 0 0 0,.dx none 0 0 0,.str [],.int .i64 0,.bool false])]) 5
end
section
variable(s:RS)
theorem apI(d:B)(O:List (B)):dc uQ [(13,.di (.bool false)),(17,.di (.bool false))] 3 Tryz.f37 [1,2,3,6] (eU 2 yD) (cZ [s.v,.str d,p9 O] .nil 3) [([],[jC (decide ((Int.ofNat d.length)>(65536:Int))),jC (decide ((Int.ofNat O.length)>(1024:Int)))],eP (NQ s d O []))]:=cT.ef
noncomputable abbrev apJ:Code:=dD (dD (dU (dS (dw 2 yD))))
noncomputable abbrev apK:Code:=dD (dD (dU (dS (dw 3 yD))))
theorem apM(d:B)(O:List (B)):dc uQ [] 3 Tryz.f37 [1,2,3,6,7] (dS (dS (dw 2 yD))) (NQ s d O []) [([],[],eP (NQ s d O [(7,iW 0)]))]:=cT.ef
theorem ahP(d:B)(O:List (B))(i:Nat)(p:B):dc uQ [(24,.split),(29,.di (.eK [.str p])),(32,.di (.bool false)),(26,.di (iW (i+1)))] 3 Tryz.f37 [1,2,3,6,7] (apJ) (NQ s d O [(7,iW i)]) (iU (decide (Int.ofNat i<(Int.ofNat O.length))) ([kJ i O.length,(strs O).length=O.length*1,nT (strs O) i 1 [lf.str p],jC ((Int.ofNat p.length) !=(32:Int)),Ez i],eP (eL [(1,.str d),(2,.dV false (O.length) (strs O)),(3,.ptr (some (3,0))),(6,.ptr (some (4,0))),(7,.int .i64 (Int.ofNat (i+1)))] (K [(3,.cells [.dV false (s.Q.length) (fJ s.Q),.dV false (s.ro.length) (fD s.ro)]),(4,.cells [.dx none 0 0 0,.dx none 0 0 0,.str [],.int .i64 0,.bool false])]) 5)) ([],.to (.exit 0) (eL [(1,.str d),(2,.dV false (O.length) (strs O)),(3,.ptr (some (3,0))),(6,.ptr (some (4,0))),(7,.int .i64 (Int.ofNat i))] (K [(3,.cells [.dV false (s.Q.length) (fJ s.Q),.dV false (s.ro.length) (fD s.ro)]),(4,.cells [.dx none 0 0 0,.dx none 0 0 0,.str [],.int .i64 0,.bool false])]) 5))):=cT.ef
theorem apN(d:B)(O:List (B))(i:Nat):dc uQ [] 3 Tryz.f37 [1,2,3,6,8] (dS (dS (dw 3 yD))) (NQ s d O [(7,iW i)]) [([],[],eP (NQ s d O [(8,iW 0)]))]:=cT.ef
theorem ahQ(d:B)(O:List (B))(i:Nat)(p:B):dc uQ [(38,.split),(44,.di (.eK [.str p])),(47,.split),(40,.di (iW (i+1)))] 3 Tryz.f37 [1,2,3,6,8] (apK) (NQ s d O [(8,iW i)]) (Jl (decide (Int.ofNat i<(Int.ofNat O.length))) (decide (gj (gG (fJ s.Q)) p<(0:Int))) ([kJ i O.length,(strs O).length=O.length*1,nT (strs O) i 1 [lf.str p],fJ s.Q=fJ (gG (fJ s.Q)),s.Q.length=(gG (fJ s.Q)).length,fD s.ro=fD (pZ (fD s.ro)),s.ro.length=(pZ (fD s.ro)).length,s.Q.length<=1000000,s.ro.length<=1000000],.ret (.agg [.dV false (s.Q.length) (fJ s.Q),.dV false (s.ro.length) (fD s.ro),.str [],.int .i64 63,.bool false]) (K []) 3) ([kJ i O.length,(strs O).length=O.length*1,nT (strs O) i 1 [lf.str p],fJ s.Q=fJ (gG (fJ s.Q)),s.Q.length=(gG (fJ s.Q)).length,fD s.ro=fD (pZ (fD s.ro)),s.ro.length=(pZ (fD s.ro)).length,s.Q.length<=1000000,s.ro.length<=1000000,Ez i],eP (eL [(1,.str d),(2,.dV false (O.length) (strs O)),(3,.ptr (some (3,0))),(6,.ptr (some (4,0))),(8,.int .i64 (Int.ofNat (i+1)))] (K [(3,.cells [.dV false (s.Q.length) (fJ s.Q),.dV false (s.ro.length) (fD s.ro)]),(4,.cells [.dx none 0 0 0,.dx none 0 0 0,.str [],.int .i64 0,.bool false])]) 5)) ([],.to (.exit 2) (eL [(1,.str d),(2,.dV false (O.length) (strs O)),(3,.ptr (some (3,0))),(6,.ptr (some (4,0))),(8,.int .i64 (Int.ofNat i))] (K [(3,.cells [.dV false (s.Q.length) (fJ s.Q),.dV false (s.ro.length) (fD s.ro)]),(4,.cells [.dx none 0 0 0,.dx none 0 0 0,.str [],.int .i64 0,.bool false])]) 5))):=cT.ef
theorem apO(d:B)(O:List (B))(i:Nat):dc uQ [] 3 Tryz.f37 [1,2,3,6,9] (dS (dw 4 yD)) (NQ s d O [(8,iW i)]) [([],[strs O=strs (dI (strs O)),O.length=(dI (strs O)).length,O.length<=100000,(eJ (d::dI (strs O))).length<=1000000000],eP (eL [(1,.str d),(2,.dV false (O.length) (strs O)),(3,.ptr (some (3,0))),(6,.ptr (some (4,0))),(9,.str (dL d (dI (strs O))))] (K [(3,.cells [.dV false (s.Q.length) (fJ s.Q),.dV false (s.ro.length) (fD s.ro)]),(4,.cells [.dx none 0 0 0,.dx none 0 0 0,.str [],.int .i64 0,.bool false])]) 5))]:=cT.ef
theorem apP(d:B)(O:List (B))(x:B):dc uQ [(56,.split)] 3 Tryz.f37 [1,2,3,6,9] (dS (dw 5 yD)) (NQ s d O [(9,.str x)]) (iU (decide (gj (gG (fJ s.Q)) x>=(0:Int))) ([fJ s.Q=fJ (gG (fJ s.Q)),s.Q.length=(gG (fJ s.Q)).length,fD s.ro=fD (pZ (fD s.ro)),s.ro.length=(pZ (fD s.ro)).length,s.Q.length<=1000000,s.ro.length<=1000000],.ret (.agg [.dV false (s.Q.length) (fJ s.Q),.dV false (s.ro.length) (fD s.ro),.str x,.int .i64 0,.bool false]) (K []) 3) ([fJ s.Q=fJ (gG (fJ s.Q)),s.Q.length=(gG (fJ s.Q)).length,fD s.ro=fD (pZ (fD s.ro)),s.ro.length=(pZ (fD s.ro)).length,s.Q.length<=1000000,s.ro.length<=1000000],eP (eL [(1,.str d),(2,.dV false (O.length) (strs O)),(3,.ptr (some (3,0))),(6,.ptr (some (4,0))),(9,.str x)] (K [(3,.cells [.dV false (s.Q.length) (fJ s.Q),.dV false (s.ro.length) (fD s.ro)]),(4,.cells [.dx none 0 0 0,.dx none 0 0 0,.str [],.int .i64 0,.bool false])]) 5))):=cT.ef
theorem apQ(d:B)(O:List (B))(x:B):dc uQ [] 3 Tryz.f37 [3,6,9,10] (dS (dw 6 yD)) (NQ s d O [(9,.str x)]) [([],[(strs O).length=O.length*1,fa (0+O.length) 1 16=true],eP (eL [(3,.ptr (some (3,0))),(6,.ptr (some (4,0))),(9,.str x),(10,.ptr (some (5,0)))] (K [(3,.cells [.dV false (s.Q.length) (fJ s.Q),.dV false (s.ro.length) (fD s.ro)]),(4,.cells [.dx none 0 0 0,.dx none 0 0 0,.str [],.int .i64 0,.bool false]),(5,.cells [.str x,.str d,.dx (some (6,0)) (0+O.length) (0+O.length) 1]),(6,.deep ([]++strs O))]) 7))]:=cT.ef
def sPq(c:hU):St:=eL [(3,.ptr (some (3,0))),(6,.ptr (some (4,0))),(9,.str c.dg),(10,.ptr (some (5,0)))] (K [(3,bx s),(4,.cells [.dx none 0 0 0,.dx none 0 0 0,.str [],.int .i64 0,.bool false]),(5,.cells [.str c.dg,.str c.da,.dV false c.O.length (strs c.O)])]) 6
theorem apR(c:hU):dc uQ [] 3 Tryz.f37 [] (dw 7 yD) (sPq s c) [([],[(fJ s.Q).length=s.Q.length*3,fa (0+s.Q.length) 3 56=true,0+(0+s.Q.length)*3<=([]++fJ s.Q).length,0<1,fa (0+s.Q.length+1) 3 56=true],.ret (.agg [.dx (some (3,0)) (0+s.Q.length+1) (0+s.Q.length+1) 3,.dV false (s.ro.length) (fD s.ro),.str (c.dg),.int .i64 0,.bool true]) (K [(3,.deep (List.take ((0+s.Q.length)*3) (List.drop 0 ([]++fJ s.Q))++[lf.str c.dg,lf.str c.da,lf.dV c.O.length (strs c.O)]))]) 4)]:=cT.ef
end
end Go.Proofs.YtfihojpgobmmdaaGreatDoor
