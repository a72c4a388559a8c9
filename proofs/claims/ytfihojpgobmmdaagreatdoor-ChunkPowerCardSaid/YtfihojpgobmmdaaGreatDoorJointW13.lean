/- Lemmas on the chunk store. No conditions. -/
import Derived.Test.YtfihojpgobmmdaaGreatDoorJointW12
set_option linter.unusedVariables false
set_option linter.unusedSimpArgs false
set_option linter.unusedSectionVars false
set_option maxRecDepth 20000
namespace Go.Proofs.YtfihojpgobmmdaaGreatDoor
open Go Go.Eng
structure RR where
 s:RS
 dg:B
 er:Int
 ch:Bool
def RR.v(r:RR):V:=.agg [.dV false r.s.Q.length (fJ r.s.Q),.dV false r.s.ro.length (fD r.s.ro),.str r.dg,.int .i64 r.er,.bool r.ch]
def jn(s:RS)(d:B)(O:List (B)):RR:=
 if ∃r∈O,gj s.Q r<0 then⟨s,[],63,false⟩
 else if 0<=gj s.Q (dL d O)then⟨s,dL d O,0,false⟩
 else⟨⟨s.Q++[⟨dL d O,d,O⟩],s.ro⟩,dL d O,0,true⟩
theorem NR(a b:List hU):fJ (a++b)=fJ a++fJ b:=by unfold fJ;rw[aZ,ct]
theorem D4{k:Nat}(h:k<=1000000):fa k 3 56=true:=by
 unfold fa;exact bE ⟨L,L⟩
section
variable(s:RS)(d:B)(O:List (B))
abbrev okS(s:RS):ah:=[fJ s.Q=fJ (gG (fJ s.Q)),s.Q.length=(gG (fJ s.Q)).length,fD s.ro=fD (pZ (fD s.ro)),s.ro.length=(pZ (fD s.ro)).length,s.Q.length<=1000000,s.ro.length<=1000000]
theorem D5{s:RS}(X:s.Q.length<=1000000)(h2:s.ro.length<=1000000):∀a∈okS s,a:=by
 have e1:=j9 s.Q;have e2:=sG s.ro;exact G (by rw[e1]) (G (by rw[e1]) (G (by rw[e2]) (G (by rw[e2]) (G X (eS h2)))))
theorem jR{a b:ah}(ha:∀x∈a,x)(hb:∀x∈b,x):∀x∈a++b,x:=fun x M=>by
 rcases aW.1 M with h|h
 . exact ha x h
 . exact hb x h
theorem apS(X:s.Q.length<=100000)(h2:s.ro.length<=1000000)(hd:d.length<=65536)(hn:O.length<=1024)(h32:∀x∈O,x.length=32):
  TG ak 3 Tryz.f37.ntmps yD (cZ [s.v,.str d,p9 O] .nil 3) (fL ak 3 Tryz.f37 (oe (jn s d O).v)):=by
 have iC:=D5 (s:=s) L h2;have hj:(eJ (d::O)).length<=1000000000:=by
  have:=gZ d O h32;omega
 refine iw  2 EE (apI s d O) (G (aL V.bool (bz dr)) (eS (aL V.bool (bz dr)))) ?_;show TG _ _ _ (dw 2 yD) _ _;refine c6 U ?_;refine c6 U ?_;obtain⟨L2,Ht⟩:=apM s d O;refine gP EE mo oL U Ht (dG ?_);refine⟨cW,fun s' ek=>?_⟩;refine ju 0 O.length (fun i=>NQ s d O [(7,iW i)]) U U (.norm ek) (fun i hi=>?_) ?_
 . have kL:=aL V.eK (fR (az hi));refine fV EE (ahP s d O i O[i]) fun g hg J=>?_;rcases jh hg with rfl|rfl
   . have h3:=h32 O[i] (b9 hi);exact⟨G (⟨aA _,dr⟩) (G (by rw[eN];omega) (G (kL) (G (by rw[h3];rfl) (eS (oQ dr L))))),fun s1 fQ=>.norm fQ⟩
   . exact absurd (aK (J _ (au.2 rfl))) dr
 refine fV EE (ahP s d O O.length []) fun g hg J=>?_;rcases jh hg with rfl|rfl
 . exact absurd (aI (J _ (au.2 rfl))) dr
 refine⟨cW,fun s1 fQ=>⟨by simp,?_⟩⟩;rw[dY];refine dh fQ ?_;show TG _ _ _ (dw 3 yD) _ _;refine c6 U ?_;refine c6 U ?_;refine fV EE (apN s d O O.length) (dG ?_);refine⟨cW,fun s2 gY=>?_⟩;refine jz (α:=Nat) 2 (fun i=>O.length-i) (fun i=>i<=O.length/\∀j,(h:j<O.length)->j<i->¬gj s.Q O[j]<0) (fun i=>NQ s d O [(8,iW i)]) U U 0 ⟨aX _,fun j _ h=>by omega⟩ (.norm gY) fun i ⟨hi,hf⟩=>?_;rcases bO i O.length with fH|AE
 . have kL:=aL V.eK (fR (az fH));obtain⟨L5,yl⟩:=ahQ s d O i O[i];refine gP EE mo (oe (jn s d O).v) U yl fun g hg J=>?_;rcases xl hg with rfl|rfl|rfl
   . have h3:=aI (J _ (aM _ (au.2 rfl)));rw[j9]at h3;refine⟨jR (a:=[_,_,_]) (G (⟨aA _,dr⟩) (G (by rw[eN];omega) (eS (kL)))) iC,?_,fun s3 uV=>uV⟩;unfold jn;rw[aF ⟨O[i],b9 fH,h3⟩];exact oe.self
   . have h3:=aK (J _ (aM _ (au.2 rfl)));rw[j9]at h3;refine⟨jR (a:=[_,_,_]) (G (⟨aA _,dr⟩) (G (by rw[eN];omega) (eS (kL)))) (jR (a:=okS s) (b:=[_]) iC (eS (oQ dr L))),fun s3 uV=>⟨i+1,L,⟨L,fun j hj hji=>?_⟩,.norm uV⟩⟩;rcases bO j i with q|q
     . exact hf j hj q
     . obtain rfl:j=i:=by omega
       exact h3
   . exact absurd (aK (J _ (au.2 rfl))) dr
 obtain rfl:i=O.length:=by omega
 obtain⟨L5,yl⟩:=ahQ s d O O.length [];refine gP EE mo (oe (jn s d O).v) U yl fun g hg J=>?_;rcases xl hg with rfl|rfl|rfl
 . exact absurd (aI (J _ (aQ ..))) dr
 . exact absurd (aI (J _ (aQ ..))) dr
 refine⟨cW,fun s3 uV=>?_⟩;simp only[andThen,dY];refine dh uV ?_;have rV:¬∃r∈O,gj s.Q r<0:=by
  rintro⟨r,hr,Ht⟩;obtain⟨j,hj,rfl⟩:=List.getElem_of_mem hr;exact hf j hj hj Ht
 show TG _ _ _ (dw 4 yD) _ _;refine c6 U ?_;obtain⟨L6,Me⟩:=apO s d O O.length;simp only[iu]at Me;refine gP EE mo oL U Me (dG ?_);refine⟨G trivial (G trivial (G L (eS hj))),fun s4 JK=>dh JK ?_⟩;show TG _ _ _ (dw 5 yD) (NQ s d O [(9,.str (dL d O))]) _;refine c6 U ?_;obtain⟨L7,hr7⟩:=apP s d O (dL d O);refine gP EE mo (oe (jn s d O).v) U hr7 fun g hg J=>?_;rcases jh hg with rfl|rfl
 . have h3:=aI (J _ (au.2 rfl));rw[j9]at h3;refine⟨iC,?_,fun s5 hs5=>hs5⟩;unfold jn;rw[aJ rV,aF h3];exact oe.self
 have h3:=aK (J _ (au.2 rfl));rw[j9]at h3;refine⟨iC,fun s5 hs5=>dh hs5 ?_⟩;show TG _ _ _ (dw 6 yD) (NQ s d O [(9,.str (dL d O))]) _;have hp:jn s d O=⟨⟨s.Q++[⟨dL d O,d,O⟩],s.ro⟩,dL d O,0,true⟩:=by unfold jn;rw[aJ rV,aJ h3]
 rw[hp];refine c6 U ?_;refine fV EE (apQ s d O (dL d O)) (dG ?_);refine⟨G (by rw[eN,bn]) (eS (qu L)),fun s6 hs6=>?_⟩;rw[bI,cH]at hs6;refine dh hs6 ?_;generalize dL d O=x;refine Dy [6] (cU:=[(strs O).length=O.length*1]) (s2:=eL [(3,.ptr (some (3,0))),(6,.ptr (some (4,0))),(9,.str x),(10,.ptr (some (5,0)))] ((K [(3,bx s),(4,.cells [.dx none 0 0 0,.dx none 0 0 0,.str [],.int .i64 0,.bool false]),(5,.cells [.str x,.str d,.dV false O.length (strs O)]),(6,.deep (strs O))]).set 6 none) 7) U (eS (by rw[eN,bn])) ?_;refine dh (live:=[3,6,9,10]) (s2:=sPq s ⟨x,d,O⟩) U ?_;refine eZ EE (apR s ⟨x,d,O⟩) (dG ?_);have qR:=lO s.Q;refine⟨G (qR) (G (D4 L) (G (by rw[cH,qR];omega) (G dP (eS (D4 L))))),_,_,_,rfl,?_⟩;have e:List.take ((0+s.Q.length)*3) (List.drop 0 ([]++fJ s.Q))++[lf.str x,lf.str d,lf.dV O.length (strs O)]=fJ (s.Q++[⟨x,d,O⟩]):=by
  rw[cH,bw,bk (by rw[qR];omega),NR];rfl
 have e2:0+s.Q.length+1=(s.Q++[hU.mk x d O]).length:=by rw[ay];simp
 rw[e,e2];generalize s.Q++[hU.mk x d O]=Q;exact⟨[[3]],[(fJ Q).length=Q.length*3],{ S:=H.nil.set 0 (some (RR.v ⟨⟨Q,s.ro⟩,x,0,true⟩)),h:=(K [(3,.deep (fJ Q))]).set 3 none,n:=4,gD:=[] },U,eS (lO _),U⟩
end
noncomputable abbrev z6:Code:=dO Tryz.f90
section
variable(s:RS)(n x:B)
def o76:rs:=.cells [.dx none 0 0 0,.dx none 0 0 0,.str [],.int .i64 0,.bool false]
def sSr(r:List (Nat×V)):St:=eL ([(1,.str n),(2,.str x),(3,.ptr (some (3,0))),(6,.ptr (some (4,0)))]++r) (K [(3,bx s),(4,o76)]) 5
def Xp(m:Nat)(o:rs)(dn:Bool)(r:List (Nat×V)):St:=eL ([(1,.str n),(2,.str x),(3,.ptr (some (3,0))),(6,.ptr (some (4,0))),(8,.dx (some (5,0)) m m 2),(9,.bool dn)]++r) (K [(3,bx s),(4,o76),(5,o)]) 6
end
theorem apU(s:RS)(n x:B):dc uQ [] 3 Tryz.f90 [1,2,3,6,7] (eU 2 z6) (cZ [s.v,.str n,.str x] .nil 3) [([],[fJ s.Q=fJ (gG (fJ s.Q)),s.Q.length=(gG (fJ s.Q)).length,fD s.ro=fD (pZ (fD s.ro)),s.ro.length=(pZ (fD s.ro)).length,s.Q.length<=1000000,s.ro.length<=1000000],eP (eL [(1,.str n),(2,.str x),(3,.ptr (some (3,0))),(6,.ptr (some (4,0))),(7,.str (gQ n (pZ (fD s.ro))))] (K [(3,.cells [.dV false (s.Q.length) (fJ s.Q),.dV false (s.ro.length) (fD s.ro)]),(4,.cells [.dx none 0 0 0,.dx none 0 0 0,.str [],.int .i64 0,.bool false])]) 5))]:=cT.ef
section
variable(s:RS)(n x og:B)(m i:Nat)(Q:ai)(dn:Bool)
theorem ahS:dc uQ [(16,.di (.bool false)),(20,.di (.bool false)),(26,.di (.bool true)),(31,.split),(37,.di (.bool true)),(40,.split),(46,.di (.bool false)),(53,.split)] 3 Tryz.f90 [1,2,3,6] (dS (dw 2 z6)) (sSr s n x [(7,.str og)]) [([(decide (gj (gG (fJ s.Q)) x<(0:Int)),true)],[jC (eI n ([]:B)),jC (decide ((Int.ofNat n.length)>(64:Int))),(V.bool !eI x ([]:B))=V.bool true,fJ s.Q=fJ (gG (fJ s.Q)),s.Q.length=(gG (fJ s.Q)).length,fD s.ro=fD (pZ (fD s.ro)),s.ro.length=(pZ (fD s.ro)).length,s.Q.length<=1000000,s.ro.length<=1000000],.ret (.agg [.dV false (s.Q.length) (fJ s.Q),.dV false (s.ro.length) (fD s.ro),.str [],.int .i64 62,.bool false]) (K []) 3),([(decide (gj (gG (fJ s.Q)) x<(0:Int)),false),(eI og ([]:B),true),(eI x og,true)],[jC (eI n ([]:B)),jC (decide ((Int.ofNat n.length)>(64:Int))),(V.bool !eI x ([]:B))=V.bool true,fJ s.Q=fJ (gG (fJ s.Q)),s.Q.length=(gG (fJ s.Q)).length,fD s.ro=fD (pZ (fD s.ro)),s.ro.length=(pZ (fD s.ro)).length,s.Q.length<=1000000,s.ro.length<=1000000,(V.bool !eI x ([]:B))=V.bool true,jC (decide ((Int.ofNat s.ro.length)>=(64:Int)))],.ret (.agg [.dV false (s.Q.length) (fJ s.Q),.dV false (s.ro.length) (fD s.ro),.str [],.int .i64 0,.bool false]) (K []) 3),([(decide (gj (gG (fJ s.Q)) x<(0:Int)),false),(eI og ([]:B),true),(eI x og,false)],[jC (eI n ([]:B)),jC (decide ((Int.ofNat n.length)>(64:Int))),(V.bool !eI x ([]:B))=V.bool true,fJ s.Q=fJ (gG (fJ s.Q)),s.Q.length=(gG (fJ s.Q)).length,fD s.ro=fD (pZ (fD s.ro)),s.ro.length=(pZ (fD s.ro)).length,s.Q.length<=1000000,s.ro.length<=1000000,(V.bool !eI x ([]:B))=V.bool true,jC (decide ((Int.ofNat s.ro.length)>=(64:Int)))],eP (eL [(1,.str n),(2,.str x),(3,.ptr (some (3,0))),(6,.ptr (some (4,0)))] (K [(3,.cells [.dV false (s.Q.length) (fJ s.Q),.dV false (s.ro.length) (fD s.ro)]),(4,.cells [.dx none 0 0 0,.dx none 0 0 0,.str [],.int .i64 0,.bool false])]) 5)),([(decide (gj (gG (fJ s.Q)) x<(0:Int)),false),(eI og ([]:B),false),(eI x og,true)],[jC (eI n ([]:B)),jC (decide ((Int.ofNat n.length)>(64:Int))),(V.bool !eI x ([]:B))=V.bool true,fJ s.Q=fJ (gG (fJ s.Q)),s.Q.length=(gG (fJ s.Q)).length,fD s.ro=fD (pZ (fD s.ro)),s.ro.length=(pZ (fD s.ro)).length,s.Q.length<=1000000,s.ro.length<=1000000,(V.bool !eI x ([]:B))=V.bool true],.ret (.agg [.dV false (s.Q.length) (fJ s.Q),.dV false (s.ro.length) (fD s.ro),.str [],.int .i64 0,.bool false]) (K []) 3),([(decide (gj (gG (fJ s.Q)) x<(0:Int)),false),(eI og ([]:B),false),(eI x og,false)],[jC (eI n ([]:B)),jC (decide ((Int.ofNat n.length)>(64:Int))),(V.bool !eI x ([]:B))=V.bool true,fJ s.Q=fJ (gG (fJ s.Q)),s.Q.length=(gG (fJ s.Q)).length,fD s.ro=fD (pZ (fD s.ro)),s.ro.length=(pZ (fD s.ro)).length,s.Q.length<=1000000,s.ro.length<=1000000,(V.bool !eI x ([]:B))=V.bool true],eP (eL [(1,.str n),(2,.str x),(3,.ptr (some (3,0))),(6,.ptr (some (4,0)))] (K [(3,.cells [.dV false (s.Q.length) (fJ s.Q),.dV false (s.ro.length) (fD s.ro)]),(4,.cells [.dx none 0 0 0,.dx none 0 0 0,.str [],.int .i64 0,.bool false])]) 5))]:=cT.ef
theorem ahT:dc uQ [(16,.di (.bool false)),(20,.di (.bool false)),(53,.split)] 3 Tryz.f90 [1,2,3,6] (dS (dw 2 z6)) (sSr s n [] [(7,.str og)]) (iU (eI [] og) ([jC (eI n ([]:B)),jC (decide ((Int.ofNat n.length)>(64:Int)))],.ret (.agg [.dV false (s.Q.length) (fJ s.Q),.dV false (s.ro.length) (fD s.ro),.str [],.int .i64 0,.bool false]) (K []) 3) ([jC (eI n ([]:B)),jC (decide ((Int.ofNat n.length)>(64:Int)))],eP (eL [(1,.str n),(2,.str []),(3,.ptr (some (3,0))),(6,.ptr (some (4,0)))] (K [(3,.cells [.dV false (s.Q.length) (fJ s.Q),.dV false (s.ro.length) (fD s.ro)]),(4,.cells [.dx none 0 0 0,.dx none 0 0 0,.str [],.int .i64 0,.bool false])]) 5))):=cT.ef
theorem apV:dc uQ [(58,.di (.bool dn))] 3 Tryz.f90 [1,2,3,6,8,9] (eU 2 (dw 3 z6)) (sSr s n x []) [([],[V.bool (eI x ([]:B))=V.bool dn],eP (eL [(1,.str n),(2,.str x),(3,.ptr (some (3,0))),(6,.ptr (some (4,0))),(8,.dx (some (5,0)) 0 0 2),(9,.bool dn)] (K [(3,.cells [.dV false (s.Q.length) (fJ s.Q),.dV false (s.ro.length) (fD s.ro)]),(4,.cells [.dx none 0 0 0,.dx none 0 0 0,.str [],.int .i64 0,.bool false]),(5,.cells [])]) 6))]:=cT.ef
theorem apW:dc uQ [] 3 Tryz.f90 [1,2,3,6,8,9,10] (dS (dS (dw 5 z6))) (Xp s n x m (.deep Q) dn []) [([],[],eP (Xp s n x m (.deep Q) dn [(10,iW 0)]))]:=cT.ef
abbrev NS:Prop:=V.int aj (IntKind.i64.wrap (Int.ofNat i+(1:Int)))=iW (i+1)
theorem ZC(i:Nat)(p q:B):dc uQ [(63,.split),(87,.di (.eK [.str p,.str q])),(91,.split),(96,.di (.eK [.str p,.str q])),(65,.di (iW (i+1)))] 3 Tryz.f90 [1,2,3,6,8,9,10] (dD (dD (dU (dS (dw 5 z6))))) (Xp s n x m (.deep Q) true [(10,iW i)]) (Jl (decide (Int.ofNat i<(Int.ofNat s.ro.length))) (!eI p n) ([kJ i s.ro.length,(fD s.ro).length=s.ro.length*2,nT (fD s.ro) i 2 [lf.str p,lf.str q],kJ i s.ro.length,(fD s.ro).length=s.ro.length*2,nT (fD s.ro) i 2 [lf.str p,lf.str q],0+m*2<=Q.length,0<1,fa (m+1) 2 32=true,NS i],eP (eL [(1,.str n),(2,.str x),(3,.ptr (some (3,0))),(6,.ptr (some (4,0))),(8,.dx (some (5,0)) (m+1) (m+1) 2),(9,.bool true),(10,.int .i64 (Int.ofNat (i+1)))] (K [(3,.cells [.dV false (s.Q.length) (fJ s.Q),.dV false (s.ro.length) (fD s.ro)]),(4,.cells [.dx none 0 0 0,.dx none 0 0 0,.str [],.int .i64 0,.bool false]),(5,.deep (List.take (m*2) (List.drop 0 Q)++[lf.str p,lf.str q]))]) 6)) ([kJ i s.ro.length,(fD s.ro).length=s.ro.length*2,nT (fD s.ro) i 2 [lf.str p,lf.str q],NS i],eP (eL [(1,.str n),(2,.str x),(3,.ptr (some (3,0))),(6,.ptr (some (4,0))),(8,.dx (some (5,0)) m m 2),(9,.bool true),(10,.int .i64 (Int.ofNat (i+1)))] (K [(3,.cells [.dV false (s.Q.length) (fJ s.Q),.dV false (s.ro.length) (fD s.ro)]),(4,.cells [.dx none 0 0 0,.dx none 0 0 0,.str [],.int .i64 0,.bool false]),(5,.deep Q)]) 6)) ([],.to (.exit 1) (eL [(1,.str n),(2,.str x),(3,.ptr (some (3,0))),(6,.ptr (some (4,0))),(8,.dx (some (5,0)) m m 2),(9,.bool true),(10,.int .i64 (Int.ofNat i))] (K [(3,.cells [.dV false (s.Q.length) (fJ s.Q),.dV false (s.ro.length) (fD s.ro)]),(4,.cells [.dx none 0 0 0,.dx none 0 0 0,.str [],.int .i64 0,.bool false]),(5,.deep Q)]) 6))):=cT.ef
abbrev Cr:Prop:=V.int aj (IntKind.i64.wrap (Int.ofNat i+(1:Int)))=iW (i+1)
theorem ZD(i:Nat)(p q:B):dc uQ [(63,.split),(73,.di (.eK [.str p,.str q])),(76,.split),(87,.di (.eK [.str p,.str q])),(91,.split),(96,.di (.eK [.str p,.str q])),(65,.di (iW (i+1)))] 3 Tryz.f90 [1,2,3,6,8,9,10] (dD (dD (dU (dS (dw 5 z6))))) (Xp s n x m (.deep Q) false [(10,iW i)]) [([(decide (Int.ofNat i<(Int.ofNat s.ro.length)),true),(yQ n p,true),(!eI p n,true)],[kJ i s.ro.length,(fD s.ro).length=s.ro.length*2,nT (fD s.ro) i 2 [lf.str p,lf.str q],0+m*2<=Q.length,0<1,fa (m+1) 2 32=true,kJ i s.ro.length,(fD s.ro).length=s.ro.length*2,nT (fD s.ro) i 2 [lf.str p,lf.str q],kJ i s.ro.length,(fD s.ro).length=s.ro.length*2,nT (fD s.ro) i 2 [lf.str p,lf.str q],0+(m+1)*2<=(List.take (m*2) (List.drop 0 Q)++[lf.str n,lf.str x]).length,0<1,fa (m+1+1) 2 32=true,Cr i],eP (eL [(1,.str n),(2,.str x),(3,.ptr (some (3,0))),(6,.ptr (some (4,0))),(8,.dx (some (5,0)) (m+1+1) (m+1+1) 2),(9,.bool true),(10,.int .i64 (Int.ofNat (i+1)))] (K [(3,.cells [.dV false (s.Q.length) (fJ s.Q),.dV false (s.ro.length) (fD s.ro)]),(4,.cells [.dx none 0 0 0,.dx none 0 0 0,.str [],.int .i64 0,.bool false]),(5,.deep (List.take ((m+1)*2) (List.drop 0 (List.take (m*2) (List.drop 0 Q)++[lf.str n,lf.str x]))++[lf.str p,lf.str q]))]) 6)),([(decide (Int.ofNat i<(Int.ofNat s.ro.length)),true),(yQ n p,true),(!eI p n,false)],[kJ i s.ro.length,(fD s.ro).length=s.ro.length*2,nT (fD s.ro) i 2 [lf.str p,lf.str q],0+m*2<=Q.length,0<1,fa (m+1) 2 32=true,kJ i s.ro.length,(fD s.ro).length=s.ro.length*2,nT (fD s.ro) i 2 [lf.str p,lf.str q],Cr i],eP (eL [(1,.str n),(2,.str x),(3,.ptr (some (3,0))),(6,.ptr (some (4,0))),(8,.dx (some (5,0)) (m+1) (m+1) 2),(9,.bool true),(10,.int .i64 (Int.ofNat (i+1)))] (K [(3,.cells [.dV false (s.Q.length) (fJ s.Q),.dV false (s.ro.length) (fD s.ro)]),(4,.cells [.dx none 0 0 0,.dx none 0 0 0,.str [],.int .i64 0,.bool false]),(5,.deep (List.take (m*2) (List.drop 0 Q)++[lf.str n,lf.str x]))]) 6)),([(decide (Int.ofNat i<(Int.ofNat s.ro.length)),true),(yQ n p,false),(!eI p n,true)],[kJ i s.ro.length,(fD s.ro).length=s.ro.length*2,nT (fD s.ro) i 2 [lf.str p,lf.str q],kJ i s.ro.length,(fD s.ro).length=s.ro.length*2,nT (fD s.ro) i 2 [lf.str p,lf.str q],kJ i s.ro.length,(fD s.ro).length=s.ro.length*2,nT (fD s.ro) i 2 [lf.str p,lf.str q],0+m*2<=Q.length,0<1,fa (m+1) 2 32=true,Cr i],eP (eL [(1,.str n),(2,.str x),(3,.ptr (some (3,0))),(6,.ptr (some (4,0))),(8,.dx (some (5,0)) (m+1) (m+1) 2),(9,.bool false),(10,.int .i64 (Int.ofNat (i+1)))] (K [(3,.cells [.dV false (s.Q.length) (fJ s.Q),.dV false (s.ro.length) (fD s.ro)]),(4,.cells [.dx none 0 0 0,.dx none 0 0 0,.str [],.int .i64 0,.bool false]),(5,.deep (List.take (m*2) (List.drop 0 Q)++[lf.str p,lf.str q]))]) 6)),([(decide (Int.ofNat i<(Int.ofNat s.ro.length)),true),(yQ n p,false),(!eI p n,false)],[kJ i s.ro.length,(fD s.ro).length=s.ro.length*2,nT (fD s.ro) i 2 [lf.str p,lf.str q],kJ i s.ro.length,(fD s.ro).length=s.ro.length*2,nT (fD s.ro) i 2 [lf.str p,lf.str q],Cr i],eP (eL [(1,.str n),(2,.str x),(3,.ptr (some (3,0))),(6,.ptr (some (4,0))),(8,.dx (some (5,0)) m m 2),(9,.bool false),(10,.int .i64 (Int.ofNat (i+1)))] (K [(3,.cells [.dV false (s.Q.length) (fJ s.Q),.dV false (s.ro.length) (fD s.ro)]),(4,.cells [.dx none 0 0 0,.dx none 0 0 0,.str [],.int .i64 0,.bool false]),(5,.deep Q)]) 6)),([(decide (Int.ofNat i<(Int.ofNat s.ro.length)),false)],[],.to (.exit 1) (eL [(1,.str n),(2,.str x),(3,.ptr (some (3,0))),(6,.ptr (some (4,0))),(8,.dx (some (5,0)) m m 2),(9,.bool false),(10,.int .i64 (Int.ofNat i))] (K [(3,.cells [.dV false (s.Q.length) (fJ s.Q),.dV false (s.ro.length) (fD s.ro)]),(4,.cells [.dx none 0 0 0,.dx none 0 0 0,.str [],.int .i64 0,.bool false]),(5,.deep Q)]) 6))]:=cT.ef
theorem ahU(i:Nat):dc uQ [] 3 Tryz.f90 [] (dw 6 z6) (Xp s n x m (.deep Q) true [(10,iW i)]) [([],[],.ret (.agg [.dV false (s.Q.length) (fJ s.Q),.dx (some (3,0)) m m 2,.str [],.int .i64 0,.bool true]) (K [(3,.deep Q)]) 4)]:=cT.ef
theorem ahV(i:Nat):dc uQ [] 3 Tryz.f90 [] (dw 6 z6) (Xp s n x m (.deep Q) false [(10,iW i)]) [([],[0+m*2<=Q.length,0<1,fa (m+1) 2 32=true],.ret (.agg [.dV false (s.Q.length) (fJ s.Q),.dx (some (3,0)) (m+1) (m+1) 2,.str [],.int .i64 0,.bool true]) (K [(3,.deep (List.take (m*2) (List.drop 0 Q)++[lf.str n,lf.str x]))]) 4)]:=cT.ef
end
theorem acQ{α:Type}{g a b c d e:α}(h:g∈[a,b,c,d,e]):g=a\/g=b\/g=c\/g=d\/g=e:=(aD.1 h).imp id fun h=>age h
def my(n x:B):Bool->List (B×B)->List (B×B)
 |dn,[]=>if dn=true then[]else[(n,x)]
 |dn,p::l=>(if dn=false/\yQ n p.1=true then[(n,x)]else[])++((if p.1=n then[]else[p])++my n x (dn||yQ n p.1) l)
def k8(s:RS)(n x:B):RR:=
 if x≠[]/\gj s.Q x<0 then⟨s,[],62,false⟩
 else if x=gQ n s.ro then⟨s,[],0,false⟩
 else⟨⟨s.Q,my n x (eI x []) s.ro⟩,[],0,true⟩
theorem Xq(a b:List (B×B)):fD (a++b)=fD a++fD b:=by unfold fD;rw[aZ,ct]
theorem z7{gz:List (B×B)}(p q:B):List.take (gz.length*2) (List.drop 0 (fD gz))++[lf.str p,lf.str q]=fD (gz++[(p,q)]):=by
 rw[bw,bk (by rw[nX];omega),Xq];rfl
theorem tr{k:Nat}(h:k<=1000000):fa k 2 32=true:=by
 unfold fa;exact bE ⟨L,L⟩
section
variable(s:RS)(n x:B)
abbrev Ff(gz:List (B×B))(dn:Bool)(i:Nat):St:=Xp s n x gz.length (.deep (fD gz)) dn [(10,iW i)]
theorem apX(X:s.Q.length<=1000000)(h2:s.ro.length<=100000)(dn0:Bool):TG ak 3 Tryz.f90.ntmps (dw 5 z6) (Xp s n x 0 (.deep (fD [])) dn0 []) (fL ak 3 Tryz.f90 (oe (RR.v ⟨⟨s.Q,my n x dn0 s.ro⟩,[],0,true⟩))):=by
 refine c6 U ?_;refine c6 U ?_;refine fV EE (apW s n x 0 (fD []) dn0) (dG ?_);refine⟨cW,fun s' ek=>?_⟩;refine jz (α:=List (B×B)×Bool×Nat) 1 (fun a=>s.ro.length-a.2.2) (fun a=>a.2.2<=s.ro.length/\a.1.length<=2*a.2.2/\a.1++my n x a.2.1 (s.ro.drop a.2.2)=my n x dn0 s.ro) (fun a=>Ff s n x a.1 a.2.1 a.2.2) U U ([],dn0,0) ⟨aX _,aX _,by rw[bw];rfl⟩ (.norm ek) fun a ⟨hi,hl,he⟩=>?_;obtain⟨gz,dn,i⟩:=a;simp only at hi hl he;have hal:(fD gz).length=gz.length*2:=nX gz;rcases bO i s.ro.length with fH|AE
 . have kL:=aL V.eK (D1 s.ro i fH);rw[bJ fH]at he;generalize s.ro[i]=pq at kL he;obtain⟨p,q⟩:=pq;have hb:((0:Int)<=Int.ofNat i/\Int.ofNat i<(Int.ofNat s.ro.length)):=⟨aA _,dr⟩;have z8:V.int aj (IntKind.i64.wrap (Int.ofNat i+(1:Int)))=iW (i+1):=oQ dr L;have uY:=nX s.ro;have W:s.ro.length-(i+1)<s.ro.length-i:=by omega
   cases dn with
   |true=>
    refine fV EE (ZC s n x gz.length (fD gz) i p q) fun g hg J=>?_;rcases xl hg with rfl|rfl|rfl
    . have h3:=J _ (aM _ (au.2 rfl));dsimp only at h3;have fS:p≠n:=pK (by simpa using h3);refine⟨G (hb) (G (uY) (G (kL) (G (hb) (G (uY) (G (kL) (G L (G dP (G (tr L) (eS (z8)))))))))),fun s2 gY=>⟨(gz++[(p,q)],true,i+1),W,⟨by show i+1<=_;omega,by show(gz++[(p,q)]).length<=2*(i+1);rw[ay];simp;omega,?_⟩,?_⟩⟩
      . simp only[my,aJ fS,Bool.true_or]at he;simpa using he
      . rw[z7]at gY;show gI _ _ _ _ (Ff s n x (gz++[(p,q)]) true (i+1));unfold Ff;rw[ay];exact .norm gY
    . have h3:=J _ (aM _ (au.2 rfl));dsimp only at h3;have K6:p=n:=mw (by simpa using h3);refine⟨G (hb) (G (uY) (G (kL) (eS (z8)))),fun s2 gY=>⟨(gz,true,i+1),W,⟨by show i+1<=_;omega,by show gz.length<=2*(i+1);omega,?_⟩,.norm gY⟩⟩;simp only[my,aF K6,Bool.true_or]at he;simpa using he
    . exact absurd (aK (J _ (au.2 rfl))) dr
   |false=>
    obtain⟨L5,yl⟩:=ZD s n x gz.length (fD gz) i p q;have e1:(List.take (gz.length*2) (List.drop 0 (fD gz))++[lf.str n,lf.str x])=fD (gz++[(n,x)]):=z7 n x;have e2:List.take ((gz.length+1)*2) (List.drop 0 (fD (gz++[(n,x)])))++[lf.str p,lf.str q]=fD (gz++[(n,x)]++[(p,q)]):=by
     have:=z7 (gz:=gz++[(n,x)]) p q;rwa [ay]at this
    have e3:=z7 (gz:=gz) p q;have Ex:(fD (gz++[(n,x)])).length=(gz.length+1)*2:=by rw[nX,ay];simp
    rw[e1,e2,e3]at yl;refine gP EE mo oL U yl fun g hg J=>?_;rcases acQ hg with rfl|rfl|rfl|rfl|rfl
    . have h2:=J _ (aM _ (aQ ..));have h3:=J _ (aM _ (aM _ (au.2 rfl)));dsimp only at h2 h3;have fS:p≠n:=pK (by simpa using h3);refine⟨G (hb) (G (uY) (G (kL) (G L (G dP (G (tr L) (G (hb) (G (uY) (G (kL) (G (hb) (G (uY) (G (kL) (G L (G dP (G (tr L) (eS (z8)))))))))))))))),fun s2 gY=>⟨(gz++[(n,x)]++[(p,q)],true,i+1),W,⟨by show i+1<=_;omega,by show(gz++[(n,x)]++[(p,q)]).length<=2*(i+1);rw[ay,ay];simp;omega,?_⟩,?_⟩⟩
      . simp only[my,aJ fS,h2]at he;simpa using he
      . show gI _ _ _ _ (Ff s n x (gz++[(n,x)]++[(p,q)]) true (i+1));unfold Ff;rw[ay,ay];exact .norm gY
    . have h2:=J _ (aM _ (aQ ..));have h3:=J _ (aM _ (aM _ (au.2 rfl)));dsimp only at h2 h3;have K6:p=n:=mw (by simpa using h3);refine⟨G (hb) (G (uY) (G (kL) (G L (G dP (G (tr L) (G (hb) (G (uY) (G (kL) (eS (z8)))))))))),fun s2 gY=>⟨(gz++[(n,x)],true,i+1),W,⟨by show i+1<=_;omega,by show(gz++[(n,x)]).length<=2*(i+1);rw[ay];simp;omega,?_⟩,?_⟩⟩
      . simp only[my,aF K6,h2]at he;simpa using he
      . show gI _ _ _ _ (Ff s n x (gz++[(n,x)]) true (i+1));unfold Ff;rw[ay];exact .norm gY
    . have h2:=J _ (aM _ (aQ ..));have h3:=J _ (aM _ (aM _ (au.2 rfl)));dsimp only at h2 h3;have fS:p≠n:=pK (by simpa using h3);refine⟨G (hb) (G (uY) (G (kL) (G (hb) (G (uY) (G (kL) (G (hb) (G (uY) (G (kL) (G L (G dP (G (tr L) (eS (z8))))))))))))),fun s2 gY=>⟨(gz++[(p,q)],false,i+1),W,⟨by show i+1<=_;omega,by show(gz++[(p,q)]).length<=2*(i+1);rw[ay];simp;omega,?_⟩,?_⟩⟩
      . simp only[my,aJ fS,h2]at he;simpa using he
      . show gI _ _ _ _ (Ff s n x (gz++[(p,q)]) false (i+1));unfold Ff;rw[ay];exact .norm gY
    . have h2:=J _ (aM _ (aQ ..));have h3:=J _ (aM _ (aM _ (au.2 rfl)));dsimp only at h2 h3;have K6:p=n:=mw (by simpa using h3);refine⟨G (hb) (G (uY) (G (kL) (G (hb) (G (uY) (G (kL) (eS (z8))))))),fun s2 gY=>⟨(gz,false,i+1),W,⟨by show i+1<=_;omega,by show gz.length<=2*(i+1);omega,?_⟩,.norm gY⟩⟩;simp only[my,aF K6,h2]at he;simpa using he
    . exact absurd (aK (J _ (au.2 rfl))) dr
 . obtain rfl:i=s.ro.length:=by omega
   rw[List.drop_length]at he;have pY:∀s2,gI ak 3 Tryz.f90.ntmps s2 (Ff s n x gz dn s.ro.length)->TG ak 3 Tryz.f90.ntmps (dw 6 z6) s2 (fL ak 3 Tryz.f90 (oe (RR.v ⟨⟨s.Q,my n x dn0 s.ro⟩,[],0,true⟩))):=fun s2 gY=>by
    refine gY _ _ ?_;rw[<- he];have B7:∀ro:List (B×B),oe (RR.v ⟨⟨s.Q,ro⟩,[],0,true⟩) (.agg [.dV false s.Q.length (fJ s.Q),.dx (some (3,0)) ro.length ro.length 2,.str [],.int .i64 0,.bool true]) (K [(3,.deep (fD ro))]) 4:=fun ro=>
     ⟨[[3]],[(fD ro).length=ro.length*2],{ S:=H.nil.set 0 (some (RR.v ⟨⟨s.Q,ro⟩,[],0,true⟩)),h:=(K [(3,.deep (fD ro))]).set 3 none,n:=4,gD:=[] },U,eS (nX _),U⟩
    cases dn with
    |true=>
     refine eZ EE (ahU s n x gz.length (fD gz) s.ro.length) (dG ?_);refine⟨cW,_,_,_,rfl,?_⟩;have:=B7 gz;simpa[my]using this
    |false=>
     obtain⟨L6,Me⟩:=ahV s n x gz.length (fD gz) s.ro.length;rw[z7]at Me;refine ij EE mo _ U Me (dG ?_);refine⟨G L (G dP (eS (tr L))),_,_,_,rfl,?_⟩;have:=B7 (gz++[(n,x)]);rw[ay]at this;exact this
   cases dn with
   |true=>
    refine fV EE (ZC s n x gz.length (fD gz) s.ro.length [] []) fun g hg J=>?_;rcases xl hg with rfl|rfl|rfl
    . exact absurd (aI (J _ (aQ ..))) dr
    . exact absurd (aI (J _ (aQ ..))) dr
    . refine⟨cW,fun s2 gY=>?_⟩;simp only[andThen,dY];exact pY s2 (.norm gY)
   |false=>
    refine fV EE (ZD s n x gz.length (fD gz) s.ro.length [] []) fun g hg J=>?_;rcases acQ hg with rfl|rfl|rfl|rfl|rfl
    . exact absurd (aI (J _ (aQ ..))) dr
    . exact absurd (aI (J _ (aQ ..))) dr
    . exact absurd (aI (J _ (aQ ..))) dr
    . exact absurd (aI (J _ (aQ ..))) dr
    . refine⟨cW,fun s2 gY=>?_⟩;simp only[andThen,dY];exact pY s2 (.norm gY)
end
section
variable(s:RS)(n x:B)
theorem apY(X:s.Q.length<=1000000)(h2:s.ro.length<64)(hn:n≠[])(KI:n.length<=64):TG ak 3 Tryz.f90.ntmps z6 (cZ [s.v,.str n,.str x] .nil 3) (fL ak 3 Tryz.f90 (oe (k8 s n x).v)):=by
 have AF:∀a∈[True,True,True,True,s.Q.length<=1000000,s.ro.length<=1000000],a:=G trivial (G trivial (G trivial (G trivial (G X (eS L)))));have hN:V.bool (eI n ([]:B))=V.bool false:=sE hn;have K:V.bool (decide ((Int.ofNat n.length)>(64:Int)))=V.bool false:=B0 KI;have hR:V.bool (decide ((Int.ofNat s.ro.length)>=(64:Int)))=V.bool false:=aL V.bool (bz dr);obtain⟨L1,B8⟩:=apU s n x;simp only[sG,j9]at B8;refine nP 2 EE mo U B8 AF ?_;show TG _ _ _ (dw 2 z6) (sSr s n x [(7,.str (gQ n s.ro))]) _;have NT:∀s',fe 3 [1,2,3,6] s'=some (sSr s n x [])->¬(x≠[]/\gj s.Q x<0)->x≠gQ n s.ro->TG ak 3 Tryz.f90.ntmps (dw 3 z6) s' (fL ak 3 Tryz.f90 (oe (k8 s n x).v)):=fun s' ek hf hw=>by
  refine dh ek ?_;unfold k8;rw[aJ hf,aJ hw];refine iw  2 EE (apV s n x (eI x [])) (eS rfl) ?_;refine(gI.deep [5] (fr:=Xp s n x 0 (.deep (fD [])) (eI x []) []) U) _ _ ?_;exact apX s n x X L (eI x [])
 generalize acR:gQ n s.ro=og at NT ⊢;refine c6 U ?_;by_cases M:x=[]
 . subst M;have hf:¬(([]:B)≠[]/\gj s.Q []<0):=fun h=>h.1 rfl;obtain⟨L2,Ht⟩:=ahT s n og;refine gP EE mo (oe (k8 s n []).v) U Ht fun g hg J=>?_;rcases jh hg with rfl|rfl
   . have h3:=mw (J _ (au.2 rfl));refine⟨G hN (eS K),?_,fun s1 fQ=>fQ⟩;unfold k8;rw[aJ hf,aF (by rw[acR];exact h3)];exact oe.self
   . have h3:=pK (J _ (au.2 rfl));exact⟨G hN (eS K),fun s1 fQ=>NT s1 fQ hf h3⟩
 . have hX:(V.bool !eI x ([]:B))=V.bool true:=AZ M;obtain⟨L2,Ht⟩:=ahS s n x og;simp only[j9,sG]at Ht;refine gP EE mo (oe (k8 s n x).v) U Ht fun g hg J=>?_;have hA:∀a∈[V.bool (eI n ([]:B))=V.bool false,V.bool (decide ((Int.ofNat n.length)>(64:Int)))=V.bool false,(V.bool !eI x ([]:B))=V.bool true],a:=G hN (G K (eS hX));rcases acQ hg with rfl|rfl|rfl|rfl|rfl
   . have h3:=aI (J _ (au.2 rfl));refine⟨jR (a:=[_,_,_]) hA AF,?_,fun s1 fQ=>fQ⟩;unfold k8;rw[aF ⟨M,h3⟩];exact oe.self
   all_goals
    have h3:=aK (J _ (aQ ..));have hf:¬(x≠[]/\gj s.Q x<0):=fun h=>h3 h.2
   . have h4:=mw (J _ (aM _ (aM _ (au.2 rfl))));refine⟨jR (a:=[_,_,_]) hA (jR (a:=[_,_,_,_,_,_]) AF (G hX (eS hR))),?_,fun s1 fQ=>fQ⟩;unfold k8;rw[aJ hf,aF (by rw[acR];exact h4)];exact oe.self
   . have h4:=pK (J _ (aM _ (aM _ (au.2 rfl))));exact⟨jR (a:=[_,_,_]) hA (jR (a:=[_,_,_,_,_,_]) AF (G hX (eS hR))),fun s1 fQ=>NT s1 fQ hf h4⟩
   . have h4:=mw (J _ (aM _ (aM _ (au.2 rfl))));refine⟨jR (a:=[_,_,_]) hA (jR (a:=[_,_,_,_,_,_]) AF (eS hX)),?_,fun s1 fQ=>fQ⟩;unfold k8;rw[aJ hf,aF (by rw[acR];exact h4)];exact oe.self
   . have h4:=pK (J _ (aM _ (aM _ (au.2 rfl))));exact⟨jR (a:=[_,_,_]) hA (jR (a:=[_,_,_,_,_,_]) AF (eS hX)),fun s1 fQ=>NT s1 fQ hf h4⟩
end
def My:ai->Option (ah×V)
 | [.agg [.dV n Q,.dV m O],.str d,.dV k us]=>some (JM n Q m O++[n<=100000,us=strs (dI us),k=(dI us).length,d.length<=65536,k<=1024,∀x∈dI us,x.length=32],(jn ⟨gG Q,pZ O⟩ d (dI us)).v)
 |_=>none
def Mz:ai->Option (ah×V)
 | [.agg [.dV n Q,.dV m O],.str a,.str x]=>some (JM n Q m O++[m<64,a≠[],a.length<=64],(k8 ⟨gG Q,pZ O⟩ a x).v)
 |_=>none
theorem JN(r:RR):r.v.deep=true:=rfl
theorem TB:jK ak 37 (Go.Eng.dW My):=by
 refine vR (ax U) fun args cU v e hA=>?_;unfold My at e;split at e
 case h_2=>cases e
 rename_i n Q m O d k us;simp only[an,aB]at e;obtain⟨rfl,rfl⟩:=e;have hB:=fun a ha=>hA a (cj _ ha);have hC:=fun a ha=>hA a (cL _ ha);obtain⟨s,X,h2,h3,h4,h5,h6,h7,h8⟩:=uA hC;have b1:n<=100000:=hB (n<=100000) (by simp);have b2:us=strs (dI us):=hB _ (by simp);have b3:k=(dI us).length:=hB (k=(dI us).length) (by simp);have b4:d.length<=65536:=hB (d.length<=65536) (by simp);have b5:k<=1024:=hB (k<=1024) (by simp);have b6:∀x∈dI us,x.length=32:=hB (∀x∈dI us,x.length=32) (by simp);rw[h7,h8];clear h7 h8 hA hB hC;generalize dI us=ps at *;subst X h2 h3 h4 b2 b3;exact iq mo po Tryz.func37 U U rfl (JN _) (apS s d ps b1 h6 b4 b5 b6)
theorem TC:jK ak 90 (Go.Eng.dW Mz):=by
 refine vR (ax U) fun args cU v e hA=>?_;unfold Mz at e;split at e
 case h_2=>cases e
 rename_i n Q m O a x;simp only[an,aB]at e;obtain⟨rfl,rfl⟩:=e;have hB:=fun a ha=>hA a (cj _ ha);have hC:=fun a ha=>hA a (cL _ ha);obtain⟨s,X,h2,h3,h4,h5,h6,h7,h8⟩:=uA hC;have b1:m<64:=hB (m<64) (by simp);have b2:a≠[]:=hB (a≠[]) (by simp);have b3:a.length<=64:=hB (a.length<=64) (by simp);rw[h7,h8];clear h7 h8 hA hB hC;subst X h2 h3 h4;exact iq mo po Tryz.func90 U U rfl (JN _) (apY s a x h5 b1 b2 b3)
noncomputable abbrev W25:jY:=kC 90 (Go.Eng.dW Mz) (kC 37 (Go.Eng.dW My) W24)
theorem TD:gm ak W25:=fh TC (fh TB TA)
noncomputable abbrev yE:e9:=gL ak W25 H0 1000 40
noncomputable abbrev JO:CX ak:=CX.of mo po TD H0 1000 40
noncomputable abbrev PO:Code:=dO Tryz.f68
noncomputable abbrev Xr:Code:=dD (dD (dU (dS (dw 2 PO))))
section
variable(s:RS)(bs:List Bool)(i:Nat)(r:List (Nat×V))(z:Int)(j:Nat)
noncomputable abbrev acS:Code:=dD (dS (dU Xr))
noncomputable abbrev Xs:Code:=dS acS
noncomputable abbrev TE:Code:=dw 2 acS
def me:ai:=bs.map .bool
def sg:St:=eL ([(1,.ptr (some (3,0))),(3,.dx (some (4,0)) bs.length bs.length 1)]++r) (K [(3,bx s),(4,.deep (me bs))]) 5
def TF(k:Nat)(ds:ai)(r:List (Nat×V)):St:=eL ([(1,.ptr (some (3,0))),(3,.dx (some (4,0)) k k 1)]++r) (K [(3,bx s),(4,.deep ds)]) 5
theorem ap0:dc yE [] 3 Tryz.f68 [1,3] (eU 2 PO) (cZ [s.v] .nil 3) [([],[(0:Int)<=IntKind.i64.wrap (Int.ofNat s.Q.length)/\IntKind.i64.wrap (Int.ofNat s.Q.length)<=IntKind.i64.wrap (Int.ofNat s.Q.length)/\(1:Int)*IntKind.i64.wrap (Int.ofNat s.Q.length)<=(281474976710656:Int)],eP (TF s (IntKind.i64.wrap (Int.ofNat s.Q.length)).toNat (BP [lf.bool false] (IntKind.i64.wrap (Int.ofNat s.Q.length)).toNat) []))]:=cT.ef
theorem ap1:dc yE [(15,.di (.int .i64 z))] 3 Tryz.f68 [1,3,4] (dS (dS (dw 2 PO))) (sg s bs []) [([],[V.int aj (IntKind.i64.wrap ((Int.ofNat s.Q.length)-(1:Int)))=V.int aj z],eP (sg s bs [(4,.int .i64 z)]))]:=cT.ef
theorem ap2:dc yE [(17,.di (.bool true))] 3 Tryz.f68 [1,3,4] (dS Xr) (sg s bs [(4,iW i)]) [([],[EA (decide (Int.ofNat i>=(0:Int)))],eP (sg s bs [(4,iW i)]))]:=cT.ef
theorem ahW:dc yE [] 3 Tryz.f68 [1,3,4] (dS Xr) (sg s bs [(4,.int .i64 (-1))]) [([],[],.to (.exit 0) (sg s bs [(4,.int .i64 (-1))]))]:=cT.ef
theorem ap3:dc yE [] 3 Tryz.f68 [1,3,4,5] (dS Xs) (sg s bs [(4,iW i)]) [([],[],eP (sg s bs [(4,iW i),(5,iW 0)]))]:=cT.ef
theorem ZE:dc yE [(24,.split),(32,.di (.bool true)),(26,.di (iW (j+1)))] 3 Tryz.f68 [1,3,4,5] (dD (dD (dU Xs))) (sg s bs [(4,iW i),(5,iW j)]) (iU (decide (Int.ofNat j<(Int.ofNat s.ro.length))) ([kJ i bs.length,0+i*1<(me bs).length,((me bs).getD (0+i*1) lf.vc).iZ=V.bool true,kJ i bs.length,0+i*1+1<=(me bs).length,Ez j],eP (TF s bs.length (xn (me bs) (0+i*1) [lf.bool true]) [(4,iW i),(5,iW (j+1))])) ([],.to (.exit 2) (sg s bs [(4,iW i),(5,iW j)]))):=cT.ef
theorem ZF(p q:B)(c:hU):dc yE [(24,.split),(32,.di (.bool false)),(37,.di (.eK [.str p,.str q])),(43,.di (.eK c.d)),(26,.di (iW (j+1)))] 3 Tryz.f68 [1,3,4,5] (dD (dD (dU Xs))) (sg s bs [(4,iW i),(5,iW j)]) (iU (decide (Int.ofNat j<(Int.ofNat s.ro.length))) ([kJ i bs.length,0+i*1<(me bs).length,((me bs).getD (0+i*1) lf.vc).iZ=V.bool false,kJ j s.ro.length,(fD s.ro).length=s.ro.length*2,nT (fD s.ro) j 2 [lf.str p,lf.str q],kJ i s.Q.length,(fJ s.Q).length=s.Q.length*3,nT (fJ s.Q) i 3 c.d,kJ i bs.length,0+i*1+1<=(me bs).length,Ez j],eP (TF s bs.length (xn (me bs) (0+i*1) [lf.bool (eI q c.dg)]) [(4,iW i),(5,iW (j+1))])) ([],.to (.exit 2) (sg s bs [(4,iW i),(5,iW j)]))):=cT.ef
theorem ap4:dc yE [] 3 Tryz.f68 [1,3,4,6] (eU 1 (dw 1 acS)) (sg s bs [(4,iW i),(5,iW j)]) [([],[],eP (sg s bs [(4,iW i),(6,iW 0)]))]:=cT.ef
theorem ap5(c:hU)(b:Bool):dc yE [(53,.di (.eK c.d)),(57,.split),(62,.di (.bool b)),(63,.split)] 3 Tryz.f68 [1,3,4,6] (dS (dD (dD TE))) (sg s bs [(4,iW i),(6,iW j)]) [([(decide (Int.ofNat j<(Int.ofNat c.O.length)),true),(b,true)],[kJ i s.Q.length,(fJ s.Q).length=s.Q.length*3,nT (fJ s.Q) i 3 c.d,kJ i bs.length,0+i*1<(me bs).length,((me bs).getD (0+i*1) lf.vc).iZ=V.bool b],eP (sg s bs [(4,iW i),(6,iW j)])),([(decide (Int.ofNat j<(Int.ofNat c.O.length)),true),(b,false)],[kJ i s.Q.length,(fJ s.Q).length=s.Q.length*3,nT (fJ s.Q) i 3 c.d,kJ i bs.length,0+i*1<(me bs).length,((me bs).getD (0+i*1) lf.vc).iZ=V.bool b],.to (.exit 4) (sg s bs [(4,iW i),(6,iW j)])),([(decide (Int.ofNat j<(Int.ofNat c.O.length)),false),(false,true)],[kJ i s.Q.length,(fJ s.Q).length=s.Q.length*3,nT (fJ s.Q) i 3 c.d],eP (sg s bs [(4,iW i),(6,iW j)])),([(decide (Int.ofNat j<(Int.ofNat c.O.length)),false),(false,false)],[kJ i s.Q.length,(fJ s.Q).length=s.Q.length*3,nT (fJ s.Q) i 3 c.d],.to (.exit 4) (eL [(1,.ptr (some (3,0))),(3,.dx (some (4,0)) (bs.length) (bs.length) 1),(4,.int .i64 (Int.ofNat i)),(6,.int .i64 (Int.ofNat j))] (K [(3,.cells [.dV false (s.Q.length) (fJ s.Q),.dV false (s.ro.length) (fD s.ro)]),(4,.deep (me bs))]) 5))]:=cT.ef
noncomputable abbrev acT:Code:=dS (dU (dD (dD TE)))
theorem ap6(c:hU)(r:B):dc yE [(70,.di (.eK c.d)),(74,.di (.eK [.str r]))] 3 Tryz.f68 [1,3,4,6,7] (dS (dD acT)) (sg s bs [(4,iW i),(6,iW j)]) [([],[kJ i s.Q.length,(fJ s.Q).length=s.Q.length*3,nT (fJ s.Q) i 3 c.d,kJ j c.O.length,(strs c.O).length=c.O.length*1,nT (strs c.O) j 1 [lf.str r],fJ s.Q=fJ (gG (fJ s.Q)),s.Q.length=(gG (fJ s.Q)).length,fD s.ro=fD (pZ (fD s.ro)),s.ro.length=(pZ (fD s.ro)).length,s.Q.length<=1000000,s.ro.length<=1000000],eP (eL [(1,.ptr (some (3,0))),(3,.dx (some (4,0)) (bs.length) (bs.length) 1),(4,.int .i64 (Int.ofNat i)),(6,.int .i64 (Int.ofNat j)),(7,.int .i64 (gj (gG (fJ s.Q)) r))] (K [(3,.cells [.dV false (s.Q.length) (fJ s.Q),.dV false (s.ro.length) (fD s.ro)]),(4,.deep (me bs))]) 5))]:=cT.ef
theorem ahX(m:Nat):dc yE [(78,.di (.bool true))] 3 Tryz.f68 [1,3,4,6] (dU (dD acT)) (sg s bs [(4,iW i),(6,iW j),(7,iW m)]) [([],[EA (decide (Int.ofNat m>=(0:Int))),kJ m bs.length,0+m*1+1<=(me bs).length],eP (TF s bs.length (xn (me bs) (0+m*1) [lf.bool true]) [(4,iW i),(6,iW j)]))]:=cT.ef
theorem ahY:dc yE [] 3 Tryz.f68 [1,3,4,6] (dU (dD acT)) (sg s bs [(4,iW i),(6,iW j),(7,.int .i64 (-1))]) [([],[],eP (sg s bs [(4,iW i),(6,iW j)]))]:=cT.ef
theorem ahZ:dc yE [(65,.di (iW (j+1)))] 3 Tryz.f68 [1,3,4,6] (dU (dU (dD (dD TE)))) (sg s bs [(4,iW i),(6,iW j)]) [([],[Ez j],eP (sg s bs [(4,iW i),(6,iW (j+1))]))]:=cT.ef
theorem ap7:dc yE [(19,.di (.int .i64 z))] 3 Tryz.f68 [1,3,4] (dU (dU Xr)) (sg s bs [(4,iW i)]) [([],[V.int aj (IntKind.i64.wrap (Int.ofNat i-(1:Int)))=V.int aj z],eP (sg s bs [(4,.int .i64 z)]))]:=cT.ef
theorem ah0:dc yE [] 3 Tryz.f68 [] (dU (dw 2 PO)) (sg s bs [(4,.int .i64 (-1))]) [([],[],.ret (.dx (some (3,0)) (bs.length) (bs.length) 1) (K [(3,.deep (me bs))]) 4)]:=cT.ef
end
def Fg(ro:List (B×B))(c:hU):Bool:=ro.any fun p=>eI p.2 c.dg
section
variable(s:RS)(bs:List Bool)(i:Nat)
def jS(r:B):List Bool:=if gj s.Q r<0 then bs else bs.set (gj s.Q r).toNat true
def lB(c:hU):List Bool:=bs.set i (bs.getD i false||Fg s.ro c)
def Aa(c:hU):List Bool:=if(lB s bs i c).getD i false=true then c.O.foldl (jS s) (lB s bs i c)else lB s bs i c
end
def TH(s:RS):Nat->List Bool->List Bool
 |0,bs=>bs
 |i+1,bs=>TH s i (Aa s bs i (s.Q.getD i ⟨[],[],[]⟩))
def fu(s:RS):List Bool:=TH s s.Q.length (List.replicate s.Q.length false)
theorem BH(x:B):∀(l:List hU) (i:Nat),tq x l i= -1\/∃m,m<i+l.length/\tq x l i=Int.ofNat m
 | [],_=>.inl rfl
 |c::l,i=>by
  unfold tq;split
  . exact .inr ⟨i,by simp,rfl⟩
  . rcases BH x l (i+1)with h|⟨m,W,h⟩
    . exact .inl h
    . exact .inr ⟨m,by rw[aT];omega,h⟩
theorem JP(l:List hU)(x:B):gj l x= -1\/∃m,m<l.length/\gj l x=Int.ofNat m:=by
 have:=BH x l 0;rw[bI]at this;exact this
theorem Ga(s:RS)(bs:List Bool)(r:B):(jS s bs r).length=bs.length:=by
 unfold jS;split
 . rfl
 . rw[List.length_set]
theorem JQ(s:RS):∀(l:List (B)) (bs:List Bool),(l.foldl (jS s) bs).length=bs.length
 | [],_=>rfl
 |r::l,bs=>by rw[List.foldl_cons,JQ s l,Ga]
section
variable(s:RS)(bs:List Bool)(i:Nat)
theorem yF(c:hU):(lB s bs i c).length=bs.length:=by unfold lB;rw[List.length_set]
theorem Gb(c:hU):(Aa s bs i c).length=bs.length:=by
 unfold Aa;split
 . rw[JQ,yF]
 . rw[yF]
end
theorem NU(s:RS):∀(k:Nat) (bs:List Bool),(TH s k bs).length=bs.length
 |0,_=>rfl
 |k+1,bs=>by rw[TH,NU s k,Gb]
theorem si(bs:List Bool):(me bs).length=bs.length:=by unfold me;rw[bf]
section
variable{bs:List Bool}{i:Nat}
theorem NV(h:i<bs.length):0+i*1<(me bs).length/\((me bs).getD (0+i*1) lf.vc).iZ=V.bool (bs.getD i false):=by
 refine⟨by rw[si];omega,?_⟩;unfold me;rw[bI,bn,aO,bu,az h,aO,az h];rfl
theorem HQ(h:i<bs.length)(b:Bool):xn (me bs) (0+i*1) [lf.bool b]=me (bs.set i b):=by
 unfold xn me;rw[bI,bn,List.set_eq_take_append_cons_drop,aF h,aZ,bX,cN,List.map_drop];rfl
end
theorem Cs(s:RS)(bs:List Bool)(k:Nat)(hk:k=bs.length)(r:List (Nat×V)):TF s k (me bs) r=sg s bs r:=by subst hk;rfl
section
variable(s:RS)
theorem ah1(X:s.Q.length<=100000)(h2:s.ro.length<=1000000)(i:Nat)(hi:i<s.Q.length)(bs:List Bool)(hl:bs.length=s.Q.length){st:St}{cs:Exit->St->Prop}
  (hs:gI ak 3 Tryz.f68.ntmps st (sg s bs [(4,iW i),(6,iW 0)])) (uY:(s.Q[i]).O.length<=100000)
  (h:∀s' j,gI ak 3 Tryz.f68.ntmps s' (sg s (if bs.getD i false=true then(s.Q[i]).O.foldl (jS s) bs else bs) [(4,iW i),(6,iW j)])->cs .normal s'):TG ak 3 Tryz.f68.ntmps TE st cs:=by
 have AF:∀a∈[True,True,True,True,s.Q.length<=1000000,s.ro.length<=1000000],a:=G trivial (G trivial (G trivial (G trivial (G L (eS h2)))));have kL:=aL V.eK (yC s.Q i hi);have LZ:((0:Int)<=Int.ofNat i/\Int.ofNat i<(Int.ofNat s.Q.length)):=⟨aA _,dr⟩;have qR:=lO s.Q;generalize s.Q[i]=c at kL uY h;refine jz (α:=List Bool×Nat) 4 (fun a=>c.O.length-a.2) (fun a=>a.2<=c.O.length/\a.1.length=s.Q.length/\(bs.getD i false=true->a.1.getD i false=true)/\(bs.getD i false=false->a.1=bs)/\(if bs.getD i false=true then(c.O.drop a.2).foldl (jS s) a.1 else bs)=(if bs.getD i false=true then c.O.foldl (jS s) bs else bs)) (fun a=>sg s a.1 [(4,iW i),(6,iW a.2)]) U U (bs,0) ⟨aX _,hl,id,fun _=>rfl,by rw[bw]⟩ hs fun a ⟨a1,a2,a3,a4,a5⟩=>?_;obtain⟨ds,j⟩:=a;simp only at a1 a2 a3 a4 a5;have hg:=NV (bs:=ds) (i:=i) L;have hbd:((0:Int)<=Int.ofNat i/\Int.ofNat i<(Int.ofNat ds.length)):=⟨aA _,dr⟩;refine c6 U ?_;refine fV JO (ap5 s ds i j c (ds.getD i false)) fun g uX J=>?_;rcases age uX with rfl|rfl|rfl|rfl
 . have c1:=aI (J _ (aQ ..));have c2:ds.getD i false=true:=J _ (aM _ (au.2 rfl));rw[jZ,jZ]at c1;have hj:j<c.O.length:=by omega
   refine⟨G (LZ) (G (qR) (G (kL) (G (hbd) (G (hg.1) (eS (hg.2)))))),fun s1 fQ=>dh fQ ?_⟩;have hb:bs.getD i false=true:=by
    cases hq:bs.getD i false with
    |true=>rfl
    |false=>rw[a4 hq,hq]at c2;cases c2
   refine c6 U ?_;refine fk (i:=5) U ?_;refine c6 U ?_;have MA:=aL V.eK (fR (az hj));obtain⟨L8,hr8⟩:=ap6 s ds i j c c.O[j];simp only[j9,sG]at hr8;refine gP JO mo oL U hr8 fun g uX _=>?_;rw[au]at uX;subst uX;refine⟨jR (a:=[_,_,_,_,_,_]) (G (LZ) (G (qR) (G (kL) (G (⟨aA _,dr⟩) (G (by rw[eN];omega) (eS (MA))))))) AF,fun s2 gY=>dh gY ?_⟩;rw[aF hb,aF hb,bJ hj,List.foldl_cons]at a5;have z8:V.int aj (IntKind.i64.wrap (Int.ofNat j+(1:Int)))=iW (j+1):=oQ dr L;have qe:∀s3,gI ak 3 Tryz.f68.ntmps s3 (sg s (jS s ds c.O[j]) [(4,iW i),(6,iW j)])->TG ak 3 Tryz.f68.ntmps (dU (dU (dD (dD TE)))) s3 (andThen (fun s'=>∃x':List Bool×Nat,c.O.length-x'.2<c.O.length-j/\(x'.2<=c.O.length/\x'.1.length=s.Q.length/\(bs.getD i false=true->x'.1.getD i false=true)/\(bs.getD i false=false->x'.1=bs)/\(if bs.getD i false=true then(c.O.drop x'.2).foldl (jS s) x'.1 else bs)=(if bs.getD i false=true then c.O.foldl (jS s) bs else bs))/\gI ak 3 Tryz.f68.ntmps s' (sg s x'.1 [(4,iW i),(6,iW x'.2)])) (mK 4 cs)):=fun s3 uV=>by
    refine uV _ _ ?_;refine fV JO (ahZ s (jS s ds c.O[j]) i j) fun g uX _=>?_;rw[au]at uX;subst uX;refine⟨eS z8,fun s4 JK=>⟨(jS s ds c.O[j],j+1),by show c.O.length-(j+1)<_;omega,⟨by show j+1<=_;omega,by show(jS s ds c.O[j]).length=_;rw[Ga,a2],fun _=>?_,fun hq=>?_,?_⟩,.norm JK⟩⟩
    . show(jS s ds c.O[j]).getD i false=true;unfold jS;split
      . exact c2
      . rw[aO,List.getElem?_set];rw[aO]at c2;split
        . rw[aF L];rfl
        . exact c2
    . rw[hb]at hq;cases hq
    . rw[aF hb,aF hb];exact a5
   rcases JP s.Q c.O[j]with hf|⟨m,W,hf⟩
   . have hmk:jS s ds c.O[j]=ds:=by unfold jS;rw[hf];rfl
     rw[hf];refine fV JO (ahY s ds i j) fun g uX _=>?_;rw[au]at uX;subst uX;rw[hmk]at qe;exact⟨cW,fun s3 uV=>qe s3 (.norm uV)⟩
   . have hmk:jS s ds c.O[j]=ds.set m true:=by
      unfold jS;rw[hf,aJ dr];rfl
     rw[hf];refine fV JO (ahX s ds i j m) fun g uX _=>?_;rw[au]at uX;subst uX;refine⟨G (aL V.bool (bE dr)) (G (⟨aA _,dr⟩) (eS (by rw[si];omega))),fun s3 uV=>?_⟩;rw[HQ L,Cs s _ _ (by rw[List.length_set])]at uV;rw[hmk]at qe;exact qe s3 (.norm uV)
 . have c1:=aI (J _ (aQ ..));have c2:ds.getD i false=false:=J _ (aM _ (au.2 rfl));refine⟨G (LZ) (G (qR) (G (kL) (G (hbd) (G (hg.1) (eS (hg.2)))))),fun s1 fQ=>?_⟩;have hb:bs.getD i false=false:=by
    cases hq:bs.getD i false with
    |false=>rfl
    |true=>rw[a3 hq]at c2;cases c2
   simp only[andThen,dY];refine h s1 j ?_;rw[a4 hb]at fQ;rw[aJ (by rw[hb];decide)];exact .norm fQ
 . have:=J _ (aM _ (au.2 rfl));cases this
 . have c1:=aK (J _ (aQ ..));rw[jZ,jZ]at c1;obtain rfl:j=c.O.length:=by omega
   refine⟨G (LZ) (G (qR) (eS (kL))),fun s1 fQ=>?_⟩;simp only[andThen,dY];refine h s1 c.O.length ?_;rw[<- a5,List.drop_length,List.foldl_nil];cases hq:bs.getD i false with
   |true=>exact .norm fQ
   |false=>
    rw[a4 hq]at fQ;exact .norm fQ
end
section
variable(s:RS)
section
variable(bs:List Bool)
def D6(i:Nat)(c:hU)(j:Nat):List Bool:=bs.set i (bs.getD i false||Fg (s.ro.take j) c)
theorem TI{bs:List Bool}{i:Nat}(h:i<bs.length)(b:Bool):(bs.set i b).getD i false=b:=by
 rw[aO,List.getElem?_set,aF rfl,aF h];rfl
theorem Xt(i:Nat)(c:hU)(j:Nat):(D6 s bs i c j).length=bs.length:=by unfold D6;rw[List.length_set]
theorem PR(c:hU){j:Nat}(h:j<s.ro.length):Fg (s.ro.take (j+1)) c=(Fg (s.ro.take j) c||eI (s.ro[j]).2 c.dg):=by
 unfold Fg;rw[bH,az h,cF,List.any_append];simp
theorem TJ{i:Nat}(h:i<s.Q.length):TH s (i+1) bs=TH s i (Aa s bs i s.Q[i]):=by
 show TH s i (Aa s bs i (s.Q.getD i ⟨[],[],[]⟩))=_;rw[aO,az h];rfl
theorem ah2(X:s.Q.length<=100000)(h2:s.ro.length<=1000000)(i:Nat)(hi:i<s.Q.length)(bs:List Bool)(hl:bs.length=s.Q.length){cs:Exit->St->Prop}{st:St}(hs:gI ak 3 Tryz.f68.ntmps st (sg s bs [(4,iW i),(5,iW 0)]))
  (h:∀s' j,gI ak 3 Tryz.f68.ntmps s' (sg s (lB s bs i s.Q[i]) [(4,iW i),(5,iW j)])->cs .normal s'):TG ak 3 Tryz.f68.ntmps (dU Xs) st cs:=by
 have kL:=aL V.eK (yC s.Q i hi);have LZ:((0:Int)<=Int.ofNat i/\Int.ofNat i<(Int.ofNat s.Q.length)):=⟨aA _,dr⟩;have qR:=lO s.Q;have uY:=nX s.ro;generalize s.Q[i]=c at kL h;have h0:D6 s bs i c 0=bs:=by
  unfold D6;rw[List.take_zero,show Fg [] c=false from rfl,Bool.or_false,aO,az L];exact List.set_getElem_self L
 refine ju 2 s.ro.length (fun j=>sg s (D6 s bs i c j) [(4,iW i),(5,iW j)]) U U (by rw[h0];exact hs) (fun j hj=>?_) ?_
 . have Md:=Xt s bs i c j;have hg:=NV (bs:=D6 s bs i c j) (i:=i) L;have hgv:(D6 s bs i c j).getD i false=(bs.getD i false||Fg (s.ro.take j) c):=TI L _;have hbd:((0:Int)<=Int.ofNat i/\Int.ofNat i<(Int.ofNat (D6 s bs i c j).length)):=⟨aA _,dr⟩;have z8:V.int aj (IntKind.i64.wrap (Int.ofNat j+(1:Int)))=iW (j+1):=oQ dr L;have hn:=PR s c hj;show TG _ _ _ _ _ (andThen (fun s'=>gI ak 3 Tryz.f68.ntmps s' (sg s (D6 s bs i c (j+1)) [(4,iW i),(5,iW (j+1))])) _);cases hq:(D6 s bs i c j).getD i false with
   |true=>
    rw[hq]at hg;refine fV JO (ZE s (D6 s bs i c j) i j) fun g uX J=>?_;rcases jh uX with rfl|rfl
    . refine⟨G (hbd) (G (hg.1) (G (hg.2) (G (hbd) (G (by rw[si];omega) (eS (z8)))))),fun s1 fQ=>?_⟩;rw[HQ L,Cs s _ _ (by rw[List.length_set])]at fQ;have e:(D6 s bs i c j).set i true=D6 s bs i c (j+1):=by
       rw[hgv]at hq;unfold D6;rw[List.set_set,hn,<- Bool.or_assoc,hq,Bool.true_or]
      rw[e]at fQ;exact .norm fQ
    . exact absurd (aK (J _ (au.2 rfl))) dr
   |false=>
    rw[hq]at hg;have MA:=aL V.eK (D1 s.ro j hj);refine fV JO (ZF s (D6 s bs i c j) i j (s.ro[j]).1 (s.ro[j]).2 c) fun g uX J=>?_;rcases jh uX with rfl|rfl
    . refine⟨G (hbd) (G (hg.1) (G (hg.2) (G (⟨aA _,dr⟩) (G (uY) (G (MA) (G (LZ) (G (qR) (G (kL) (G (hbd) (G (by rw[si];omega) (eS (z8)))))))))))),fun s1 fQ=>?_⟩;rw[HQ L,Cs s _ _ (by rw[List.length_set])]at fQ;have e:(D6 s bs i c j).set i (eI (s.ro[j]).2 c.dg)=D6 s bs i c (j+1):=by
       rw[hgv]at hq;unfold D6;rw[List.set_set,hn,<- Bool.or_assoc,hq,Bool.false_or]
      rw[e]at fQ;exact .norm fQ
    . exact absurd (aK (J _ (au.2 rfl))) dr
 . have pY:∀s1,gI ak 3 Tryz.f68.ntmps s1 (sg s (D6 s bs i c s.ro.length) [(4,iW i),(5,iW s.ro.length)])->cs .normal s1:=fun s1 fQ=>by
    refine h s1 s.ro.length ?_;unfold D6 at fQ;rw[aU]at fQ;exact fQ
   cases hq:(D6 s bs i c s.ro.length).getD i false with
   |true=>
    refine fV JO (ZE s (D6 s bs i c s.ro.length) i s.ro.length) fun g uX J=>?_;rcases jh uX with rfl|rfl
    . exact absurd (aI (J _ (au.2 rfl))) dr
    . refine⟨cW,fun s1 fQ=>⟨by simp,?_⟩⟩;rw[dY];exact pY s1 (.norm fQ)
   |false=>
    refine fV JO (ZF s (D6 s bs i c s.ro.length) i s.ro.length [] [] c) fun g uX J=>?_;rcases jh uX with rfl|rfl
    . exact absurd (aI (J _ (au.2 rfl))) dr
    . refine⟨cW,fun s1 fQ=>⟨by simp,?_⟩⟩;rw[dY];exact pY s1 (.norm fQ)
def spD:Nat->St
 |0=>sg s bs [(4,.int .i64 (-1))]
 |i+1=>sg s bs [(4,iW i)]
theorem NW{k:Nat}{z:Int}(hz:z=(k:Int)-1):sg s bs [(4,.int .i64 z)]=spD s bs k:=by
 subst hz;cases k with
 |zero=>rfl
 |succ i=>
  have e:((i+1:Nat):Int)-1=Int.ofNat i:=by rw[jZ];omega
  rw[e];rfl
end
theorem ap9(X:s.Q.length<=100000)(h2:s.ro.length<=1000000)(h3:∀c∈s.Q,c.O.length<=100000):TG ak 3 Tryz.f68.ntmps PO (cZ [s.v] .nil 3) (fL ak 3 Tryz.f68 (oe (.dV false s.Q.length (me (fu s))))):=by
 have hw:IntKind.i64.wrap (Int.ofNat s.Q.length)=Int.ofNat s.Q.length:=eV dr dr;refine iw  2 JO (ap0 s) (eS ⟨by rw[hw,jZ];omega,Int.le_refl _,by rw[hw,jZ];omega⟩) ?_;have hrp:∀m:Nat,BP [lf.bool false] m=me (List.replicate m false):=fun m=>by
  induction m with
  |zero=>rfl
  |succ m ih=>show[lf.bool false]++BP [lf.bool false] m=_;rw[ih];rfl
 rw[hw,show(Int.ofNat s.Q.length).toNat=s.Q.length from rfl,hrp,Cs s _ _ (by rw[bM])];show TG _ _ _ (dw 2 PO) _ _;refine c6 U ?_;refine c6 U ?_;refine fV JO (ap1 s (List.replicate s.Q.length false) ((s.Q.length:Int)-1)) (dG ?_);refine⟨eS (aL _ (eV dr dr)),fun s' ek=>?_⟩;rw[NW s _ (k:=s.Q.length) rfl]at ek;refine jz (α:=List Bool×Nat) 0 (fun a=>a.2) (fun a=>a.2<=s.Q.length/\a.1.length=s.Q.length/\TH s a.2 a.1=fu s) (fun a=>spD s a.1 a.2) U U (List.replicate s.Q.length false,s.Q.length) ⟨aC _,bM,rfl⟩ (.norm ek) fun a ⟨a1,a2,a3⟩=>?_;obtain⟨bs,k⟩:=a;simp only at a1 a2 a3;refine c6 U ?_;cases k with
 |zero=>
  show TG _ _ _ _ (sg s bs [(4,.int .i64 (-1))]) _;refine fV JO (ahW s bs) (dG ?_);refine⟨cW,fun s1 fQ=>?_⟩;simp only[andThen,dY];refine dh fQ ?_;refine eZ JO (ah0 s bs) (dG ?_);refine⟨cW,_,_,_,rfl,?_⟩;rw[<- a3,<- a2];show oe (.dV false bs.length (me bs)) _ _ _;exact⟨[[3]],[(me bs).length=bs.length*1],{ S:=H.nil.set 0 (some (.dV false bs.length (me bs))),h:=(K [(3,.deep (me bs))]).set 3 none,n:=4,gD:=[] },U,eS (by rw[si,bn]),U⟩
 |succ i=>
  have hi:i<s.Q.length:=by omega
  show TG _ _ _ _ (sg s bs [(4,iW i)]) _;refine fV JO (ap2 s bs i) (dG ?_);refine⟨eS (aL V.bool (bE dr)),fun s1 fQ=>dh fQ ?_⟩;refine c6 U ?_;refine fk (i:=1) U ?_;refine c6 U ?_;refine c6 U ?_;refine fV JO (ap3 s bs i) (dG ?_);refine⟨cW,fun s2 gY=>?_⟩;refine ah2 s X h2 i hi bs a2 (.norm gY) fun s3 j uV=>?_;simp only[andThen];refine uV _ _ ?_;refine iw  1 JO (ap4 s (lB s bs i s.Q[i]) i j) cW ?_;refine ah1 s X h2 i hi (lB s bs i s.Q[i]) (by rw[yF,a2]) .refl (h3 _ (b9 hi)) fun s4 j4 JK=>?_;rw[show(if(lB s bs i s.Q[i]).getD i false=true then(s.Q[i]).O.foldl (jS s) (lB s bs i s.Q[i])else lB s bs i s.Q[i])=Aa s bs i s.Q[i]from rfl]at JK;show TG _ _ _ _ _ _;have hsl:=Gb s bs i s.Q[i];have uM:=TJ s bs hi;generalize Aa s bs i s.Q[i]=ds at JK hsl uM;refine(JK.trans (.norm (live:=[1,3,4]) (fr:=sg s ds [(4,iW i)]) U)) _ _ ?_;refine fV JO (ap7 s ds i ((i:Int)-1)) (dG ?_);refine⟨eS (aL _ (eV dr dr)),fun s5 hs5=>⟨(ds,i),Nat.lt_succ_self i,⟨by show i<=_;omega,by show ds.length=_;rw[hsl,a2],by show TH s i ds=_;rw[<- uM,a3]⟩,?_⟩⟩;rw[NW s _ (k:=i) rfl]at hs5;exact .norm hs5
end
def MB:ai->Option (ah×V)
 | [.agg [.dV n Q,.dV m O]]=>some (JM n Q m O++[n<=100000,∀c∈gG Q,c.O.length<=100000],.dV false n (me (fu ⟨gG Q,pZ O⟩)))
 |_=>none
theorem TK(bs:List Bool)(n:Nat):(V.dV false n (me bs)).deep=true:=rfl
theorem TL:jK ak 68 (Go.Eng.dW MB):=by
 refine vR (ax U) fun args cU v e hA=>?_;unfold MB at e;split at e
 case h_2=>cases e
 rename_i n Q m O;simp only[an,aB]at e;obtain⟨rfl,rfl⟩:=e;have hB:=fun a ha=>hA a (cj _ ha);have hC:=fun a ha=>hA a (cL _ ha);obtain⟨s,X,h2,h3,h4,h5,h6,h7,h8⟩:=uA hC;have b1:n<=100000:=hB (n<=100000) (by simp);have b2:∀c∈gG Q,c.O.length<=100000:=hB (∀c∈gG Q,c.O.length<=100000) (by simp);rw[h7]at b2;rw[h7,h8];clear h7 h8 hA hB hC;subst X h2 h3 h4;exact iq mo po Tryz.func68 U U rfl (TK _ _) (ap9 s b1 h6 b2)
noncomputable abbrev W26:jY:=kC 68 (Go.Eng.dW MB) W25
theorem TM:gm ak W26:=fh TL TD
noncomputable abbrev Fh:e9:=gL ak W26 H0 1000 40
noncomputable abbrev PS:CX ak:=CX.of mo po TM H0 1000 40
noncomputable abbrev PT:Code:=dO Tryz.f32
noncomputable abbrev aqb:Code:=dD (dD (dU (dS (dw 3 PT))))
noncomputable abbrev HR:Code:=dO Tryz.f33
section
variable(s:RS)(bs:List Bool)(n:Nat)
def o58:rs:=.cells [.dx none 0 0 0,.dx none 0 0 0]
def sKm(m:Nat)(Q:ai)(r:List (Nat×V)):St:=eL ([(1,.ptr (some (3,0))),(2,.ptr (some (4,0))),(3,.dV false n (me bs)),(4,.dx (some (5,0)) m m 3)]++r) (K [(3,bx s),(4,o58),(5,.deep Q)]) 6
def PU(u:Int)(r:List (Nat×V)):St:=eL ([(1,.ptr (some (3,0))),(3,.int .i64 u)]++r) (K [(3,bx s)]) 4
end
theorem aqc(s:RS):dc Fh [] 3 Tryz.f32 [1,2,3,4] (eU 3 PT) (cZ [s.v] .nil 3) [([],[fJ s.Q=fJ (gG (fJ s.Q)),s.Q.length=(gG (fJ s.Q)).length,fD s.ro=fD (pZ (fD s.ro)),s.ro.length=(pZ (fD s.ro)).length,s.Q.length<=1000000,s.ro.length<=1000000,s.Q.length<=100000,∀(c:hU),c∈gG (fJ s.Q)->c.O.length<=100000],eP (eL [(1,.ptr (some (3,0))),(2,.ptr (some (4,0))),(3,.dV false (s.Q.length) (me (fu { Q:=gG (fJ s.Q),ro:=pZ (fD s.ro) }))),(4,.dx (some (5,0)) 0 0 3)] (K [(3,.cells [.dV false (s.Q.length) (fJ s.Q),.dV false (s.ro.length) (fD s.ro)]),(4,.cells [.dx none 0 0 0,.dx none 0 0 0]),(5,.cells [])]) 6))]:=cT.ef
section
variable(s:RS)(u:Int)(bs:List Bool)(n i m:Nat)(Q:ai)
theorem aqd:dc Fh [] 3 Tryz.f32 [1,2,3,4,5] (dS (dS (dw 3 PT))) (sKm s bs n m Q []) [([],[],eP (sKm s bs n m Q [(5,iW 0)]))]:=cT.ef
abbrev TN:Prop:=V.int aj (IntKind.i64.wrap (Int.ofNat i+(1:Int)))=iW (i+1)
theorem ah3(i:Nat)(c:hU)(b:Bool):dc Fh [(13,.split),(18,.di (.eK [.bool b])),(19,.split),(24,.di (.eK c.d)),(15,.di (iW (i+1)))] 3 Tryz.f32 [1,2,3,4,5] (aqb) (sKm s bs n m Q [(5,iW i)]) (Jl (decide (Int.ofNat i<(Int.ofNat s.Q.length))) b ([kJ i n,(me bs).length=n*1,nT (me bs) i 1 [lf.bool b],kJ i s.Q.length,(fJ s.Q).length=s.Q.length*3,nT (fJ s.Q) i 3 c.d,0+m*3<=Q.length,0<1,fa (m+1) 3 56=true,TN i],eP (eL [(1,.ptr (some (3,0))),(2,.ptr (some (4,0))),(3,.dV false n (me bs)),(4,.dx (some (5,0)) (m+1) (m+1) 3),(5,.int .i64 (Int.ofNat (i+1)))] (K [(3,.cells [.dV false (s.Q.length) (fJ s.Q),.dV false (s.ro.length) (fD s.ro)]),(4,.cells [.dx none 0 0 0,.dx none 0 0 0]),(5,.deep (List.take (m*3) (List.drop 0 Q)++[lf.str c.dg,lf.str c.da,lf.dV c.O.length (strs c.O)]))]) 6)) ([kJ i n,(me bs).length=n*1,nT (me bs) i 1 [lf.bool b],TN i],eP (eL [(1,.ptr (some (3,0))),(2,.ptr (some (4,0))),(3,.dV false n (me bs)),(4,.dx (some (5,0)) m m 3),(5,.int .i64 (Int.ofNat (i+1)))] (K [(3,.cells [.dV false (s.Q.length) (fJ s.Q),.dV false (s.ro.length) (fD s.ro)]),(4,.cells [.dx none 0 0 0,.dx none 0 0 0]),(5,.deep Q)]) 6)) ([],.to (.exit 0) (eL [(1,.ptr (some (3,0))),(2,.ptr (some (4,0))),(3,.dV false n (me bs)),(4,.dx (some (5,0)) m m 3),(5,.int .i64 (Int.ofNat i))] (K [(3,.cells [.dV false (s.Q.length) (fJ s.Q),.dV false (s.ro.length) (fD s.ro)]),(4,.cells [.dx none 0 0 0,.dx none 0 0 0]),(5,.deep Q)]) 6))):=cT.ef
theorem aqe(i:Nat):dc Fh [] 3 Tryz.f32 [] (dU (dw 3 PT)) (sKm s bs n m Q [(5,iW i)]) [([],[],.ret (.agg [.dx (some (3,0)) m m 3,.dV false (s.ro.length) (fD s.ro)]) (K [(3,.deep Q)]) 4)]:=cT.ef
theorem aqf:dc Fh [] 3 Tryz.f33 [1,3] (eU 2 HR) (cZ [s.v] .nil 3) [([],[],eP (PU s 0 []))]:=cT.ef
theorem aqg:dc Fh [] 3 Tryz.f33 [1,3,4] (dS (dS (dw 2 HR))) (PU s u []) [([],[],eP (PU s u [(4,iW 0)]))]:=cT.ef
theorem ah4(c:hU):dc Fh [(10,.split),(18,.di (.eK c.d)),(26,.di (.eK c.d)),(12,.di (iW (i+1)))] 3 Tryz.f33 [1,3,4] (dD (dD (dU (dS (dw 2 HR))))) (PU s u [(4,iW i)]) (iU (decide (Int.ofNat i<(Int.ofNat s.Q.length))) ([kJ i s.Q.length,(fJ s.Q).length=s.Q.length*3,nT (fJ s.Q) i 3 c.d,kJ i s.Q.length,(fJ s.Q).length=s.Q.length*3,nT (fJ s.Q) i 3 c.d,Ez i],eP (eL [(1,.ptr (some (3,0))),(3,.int .i64 (IntKind.i64.wrap (IntKind.i64.wrap (IntKind.i64.wrap (u+(64:Int))+(Int.ofNat c.da.length))+IntKind.i64.wrap ((32:Int)*(Int.ofNat c.O.length))))),(4,.int .i64 (Int.ofNat (i+1)))] (K [(3,.cells [.dV false (s.Q.length) (fJ s.Q),.dV false (s.ro.length) (fD s.ro)])]) 4)) ([],.to (.exit 0) (eL [(1,.ptr (some (3,0))),(3,.int .i64 u),(4,.int .i64 (Int.ofNat i))] (K [(3,.cells [.dV false (s.Q.length) (fJ s.Q),.dV false (s.ro.length) (fD s.ro)])]) 4))):=cT.ef
theorem aqh:dc Fh [] 3 Tryz.f33 [1,3,5] (dS (dS (dw 3 HR))) (PU s u [(4,iW i)]) [([],[],eP (PU s u [(5,iW 0)]))]:=cT.ef
theorem ah5(p q:B):dc Fh [(36,.split),(44,.di (.eK [.str p,.str q])),(38,.di (iW (i+1)))] 3 Tryz.f33 [1,3,5] (dD (dD (dU (dS (dw 3 HR))))) (PU s u [(5,iW i)]) (iU (decide (Int.ofNat i<(Int.ofNat s.ro.length))) ([kJ i s.ro.length,(fD s.ro).length=s.ro.length*2,nT (fD s.ro) i 2 [lf.str p,lf.str q],Ez i],eP (eL [(1,.ptr (some (3,0))),(3,.int .i64 (IntKind.i64.wrap (IntKind.i64.wrap (u+(96:Int))+(Int.ofNat p.length)))),(5,.int .i64 (Int.ofNat (i+1)))] (K [(3,.cells [.dV false (s.Q.length) (fJ s.Q),.dV false (s.ro.length) (fD s.ro)])]) 4)) ([],.to (.exit 2) (eL [(1,.ptr (some (3,0))),(3,.int .i64 u),(5,.int .i64 (Int.ofNat i))] (K [(3,.cells [.dV false (s.Q.length) (fJ s.Q),.dV false (s.ro.length) (fD s.ro)])]) 4))):=cT.ef
theorem aqi:dc Fh [] 3 Tryz.f33 [] (dw 4 HR) (PU s u [(5,iW i)]) [([],[],.ret (.int .i64 u) (K []) 3)]:=cT.ef
end
def lP:List hU->List Bool->List hU
 |c::l,b::bs=>if b=true then c::lP l bs else lP l bs
 |_,_=>[]
def gC(s:RS):RS:=⟨lP s.Q (fu s),s.ro⟩
def Ab(c:hU):Int:=64+c.da.length+32*c.O.length
def A4(p:B×B):Int:=96+p.1.length
def MC(s:RS):Int:=(s.Q.map Ab).sum+(s.ro.map A4).sum
theorem Ac(s:RS):(fu s).length=s.Q.length:=by unfold fu;rw[NU,bM]
theorem D7{bs:List Bool}{i:Nat}(h:i<bs.length):eX (me bs) (i*1) 1=[lf.bool bs[i]]:=by
 unfold eX me;rw[bn,<- List.map_drop,bJ h];rfl
theorem Xu{gz:List hU}(c:hU):List.take (gz.length*3) (List.drop 0 (fJ gz))++[lf.str c.dg,lf.str c.da,lf.dV c.O.length (strs c.O)]=fJ (gz++[c]):=by
 rw[bw,bk (by rw[lO];omega),NR];rfl
section
variable(s:RS)
theorem aqj(X:s.Q.length<=100000)(h2:s.ro.length<=1000000)(h3:∀c∈s.Q,c.O.length<=100000):TG ak 3 Tryz.f32.ntmps PT (cZ [s.v] .nil 3) (fL ak 3 Tryz.f32 (oe (gC s).v)):=by
 have AF:∀a∈[True,True,True,True,s.Q.length<=1000000,s.ro.length<=1000000,s.Q.length<=100000,∀(c:hU),c∈s.Q->c.O.length<=100000],a:=G trivial (G trivial (G trivial (G trivial (G L (G h2 (G X (eS h3)))))));obtain⟨L1,B8⟩:=aqc s;simp only[j9,sG]at B8;refine nP 3 PS mo U B8 AF ?_;have hkr:(gC s).v=RS.v ⟨lP s.Q (fu s),s.ro⟩:=rfl;rw[hkr];have Md:=Ac s;show TG _ _ _ _ (eL [(1,.ptr (some (3,0))),(2,.ptr (some (4,0))),(3,.dV false s.Q.length (me (fu s))),(4,.dx (some (5,0)) 0 0 3)] (K [(3,bx s),(4,o58),(5,.cells [])]) 6) _;generalize fu s=bs at Md ⊢;refine(gI.deep [5] (fr:=sKm s bs s.Q.length 0 (fJ []) []) U) _ _ ?_;show TG _ _ _ (dw 3 PT) _ _;refine c6 U ?_;refine c6 U ?_;refine fV PS (aqd s bs s.Q.length 0 (fJ [])) (dG ?_);refine⟨cW,fun s' ek=>?_⟩;refine jz (α:=List hU×Nat) 0 (fun a=>s.Q.length-a.2) (fun a=>a.2<=s.Q.length/\a.1.length<=a.2/\a.1++lP (s.Q.drop a.2) (bs.drop a.2)=lP s.Q bs) (fun a=>sKm s bs s.Q.length a.1.length (fJ a.1) [(5,iW a.2)]) U U ([],0) ⟨aX _,aC _,by rw[bw,bw];rfl⟩ (.norm ek) fun a ⟨a1,a2,a3⟩=>?_;obtain⟨gz,i⟩:=a;simp only at a1 a2 a3;have qR:=lO s.Q;have hal:=lO gz;rcases bO i s.Q.length with hi|AE
 . have kL:=aL V.eK (yC s.Q i hi);have MA:=aL V.eK (D7 (bs:=bs) (i:=i) L);rw[bJ hi,bJ (show i<bs.length by omega)]at a3;generalize s.Q[i]=c at kL a3;generalize bs[i]'(by omega)=b at MA a3;have hb:((0:Int)<=Int.ofNat i/\Int.ofNat i<(Int.ofNat s.Q.length)):=⟨aA _,dr⟩;have z8:V.int aj (IntKind.i64.wrap (Int.ofNat i+(1:Int)))=iW (i+1):=oQ dr L;obtain⟨L3,yw⟩:=ah3 s bs s.Q.length gz.length (fJ gz) i c b;rw[Xu]at yw;refine gP PS mo oL U yw fun g hg J=>?_;rcases xl hg with rfl|rfl|rfl
   . have c2:b=true:=J _ (aM _ (au.2 rfl));rw[lP,aF c2]at a3;refine⟨G (hb) (G (by rw[si];omega) (G (MA) (G (hb) (G (qR) (G (kL) (G L (G dP (G (D4 L) (eS (z8)))))))))),fun s1 fQ=>⟨(gz++[c],i+1),by show s.Q.length-(i+1)<_;omega,⟨by show i+1<=_;omega,by show(gz++[c]).length<=i+1;rw[ay];simp;omega,by rw[<- a3,bA];rfl⟩,?_⟩⟩;show gI _ _ _ _ (sKm s bs s.Q.length (gz++[c]).length (fJ (gz++[c])) [(5,iW (i+1))]);rw[ay];exact .norm fQ
   . have c2:b=false:=J _ (aM _ (au.2 rfl));rw[lP,aJ (by rw[c2];decide)]at a3;exact⟨G (hb) (G (by rw[si];omega) (G (MA) (eS (z8)))),fun s1 fQ=>⟨(gz,i+1),by show s.Q.length-(i+1)<_;omega,⟨by show i+1<=_;omega,by show gz.length<=i+1;omega,a3⟩,.norm fQ⟩⟩
   . exact absurd (aK (J _ (au.2 rfl))) dr
 . obtain rfl:i=s.Q.length:=by omega
   rw[List.drop_length,show lP [] (bs.drop s.Q.length)=[]from rfl,cu]at a3;refine fV PS (ah3 s bs s.Q.length gz.length (fJ gz) s.Q.length ⟨[],[],[]⟩ true) fun g hg J=>?_;rcases xl hg with rfl|rfl|rfl
   . exact absurd (aI (J _ (aQ ..))) dr
   . exact absurd (aI (J _ (aQ ..))) dr
   refine⟨cW,fun s1 fQ=>?_⟩;simp only[andThen,dY];refine dh fQ ?_;rw[<- a3];refine eZ PS (aqe s bs s.Q.length gz.length (fJ gz) s.Q.length) (dG ?_);exact⟨cW,_,_,_,rfl,[[3]],[(fJ gz).length=gz.length*3],{ S:=H.nil.set 0 (some (RS.v ⟨gz,s.ro⟩)),h:=(K [(3,.deep (fJ gz))]).set 3 none,n:=4,gD:=[] },U,eS (lO _),U⟩
theorem JR{α:Type}{f:α->Int}{l:List α}{i:Nat}(h:i<l.length):((l.take (i+1)).map f).sum=((l.take i).map f).sum+f l[i]:=by
 rw[bH,az h,cF,aZ,List.sum_append];simp
theorem A8{α:Type}{f:α->Int}{aa:Int}(hB:0<=aa):∀{l:List α},(∀x∈l,0<=f x/\f x<=aa)->0<=(l.map f).sum/\(l.map f).sum<=aa*l.length
 | [],_=>by simp
 |x::l,h=>by
  have ih:=A8 hB (l:=l) fun y hy=>h y (aM _ hy);have X:=h x (aQ ..);rw[bX,List.sum_cons,aT];have:aa*((l.length+1:Nat):Int)=aa*l.length+aa:=by rw[Int.natCast_add,Int.mul_add];simp
  omega
theorem aqk(X:s.Q.length<=100000)(h2:s.ro.length<=100000)(h3:∀c∈s.Q,c.da.length<=100000/\c.O.length<=2000)(h4:∀p∈s.ro,p.1.length<=100000):TG ak 3 Tryz.f33.ntmps HR (cZ [s.v] .nil 3) (fL ak 3 Tryz.f33 fun u _ _=>u= .int .i64 (MC s)):=by
 have hC:∀i,0<=((s.Q.take i).map Ab).sum/\((s.Q.take i).map Ab).sum<=20000000000:=fun i=>by
  have hb:=A8 (f:=Ab) (aa:=200000) dP (l:=s.Q.take i) fun c J=>by
   have:=h3 c (List.mem_of_mem_take J);unfold Ab;omega
  have:(s.Q.take i).length<=100000:=by rw[aY];omega
  omega
 have hE:∀i,0<=((s.ro.take i).map A4).sum/\((s.ro.take i).map A4).sum<=20000000000:=fun i=>by
  have hb:=A8 (f:=A4) (aa:=200000) dP (l:=s.ro.take i) fun c J=>by
   have:=h4 c (List.mem_of_mem_take J);unfold A4;omega
  have:(s.ro.take i).length<=100000:=by rw[aY];omega
  omega
 refine iw  2 PS (aqf s) cW ?_;show TG _ _ _ (dw 2 HR) _ _;refine c6 U ?_;refine c6 U ?_;refine fV PS (aqg s 0) (dG ?_);refine⟨cW,fun s' ek=>?_⟩;refine ju 0 s.Q.length (fun i=>PU s ((s.Q.take i).map Ab).sum [(4,iW i)]) U U (.norm ek) (fun i hi=>?_) ?_
 . have kL:=aL V.eK (yC s.Q i hi);have hn:=JR (f:=Ab) hi;have zb:=hC i;have Iu:=hC (i+1);have W:=h3 _ (b9 hi);show TG _ _ _ _ _ (andThen (fun s'=>gI ak 3 Tryz.f33.ntmps s' (PU s ((s.Q.take (i+1)).map Ab).sum [(4,iW (i+1))])) _);rw[hn]at Iu ⊢;generalize s.Q[i]=c at kL W Iu ⊢;generalize ((s.Q.take i).map Ab).sum=u at zb Iu ⊢;have hb:((0:Int)<=Int.ofNat i/\Int.ofNat i<(Int.ofNat s.Q.length)):=⟨aA _,dr⟩;obtain⟨L3,yw⟩:=ah4 s u i c;have e:IntKind.i64.wrap (IntKind.i64.wrap (IntKind.i64.wrap (u+(64:Int))+(Int.ofNat c.da.length))+IntKind.i64.wrap ((32:Int)*(Int.ofNat c.O.length)))=u+Ab c:=by
    unfold Ab at *;simp only[jZ];rw[eV (x:=u+64) L L,eV (x:=u+64+_) L L,eV (x:=32*_) L L,eV L L];omega
   rw[e]at yw;refine gP PS mo oL U yw fun g hg J=>?_;rcases jh hg with rfl|rfl
   . exact⟨G (hb) (G (lO _) (G (kL) (G (hb) (G (lO _) (G (kL) (eS (oQ dr L))))))),fun s1 fQ=>.norm fQ⟩
   . exact absurd (aK (J _ (au.2 rfl))) dr
 refine fV PS (ah4 s ((s.Q.take s.Q.length).map Ab).sum s.Q.length ⟨[],[],[]⟩) fun g hg J=>?_;rcases jh hg with rfl|rfl
 . exact absurd (aI (J _ (au.2 rfl))) dr
 refine⟨cW,fun s1 fQ=>⟨by simp,?_⟩⟩;rw[dY];have Ia:=hC s.Q.length;rw[aU]at fQ Ia;refine(gI.norm (fr:=PU s (s.Q.map Ab).sum [(4,iW s.Q.length)]) fQ) _ _ ?_;unfold MC;generalize (s.Q.map Ab).sum=u0 at Ia ⊢;show TG _ _ _ (dw 3 HR) _ _;refine c6 U ?_;refine c6 U ?_;refine fV PS (aqh s u0 s.Q.length) (dG ?_);refine⟨cW,fun s2 gY=>?_⟩;refine ju 2 s.ro.length (fun i=>PU s (u0+((s.ro.take i).map A4).sum) [(5,iW i)]) U U (.norm (by rw[gY];simp)) (fun i hi=>?_) ?_
 . have kL:=aL V.eK (D1 s.ro i hi);have hn:=JR (f:=A4) hi;have zb:=hE i;have Iu:=hE (i+1);have W:=h4 _ (b9 hi);show TG _ _ _ _ _ (andThen (fun s'=>gI ak 3 Tryz.f33.ntmps s' (PU s (u0+((s.ro.take (i+1)).map A4).sum) [(5,iW (i+1))])) _);rw[hn]at Iu ⊢;generalize s.ro[i]=p at kL W Iu ⊢;generalize ((s.ro.take i).map A4).sum=u at zb Iu ⊢;have hb:((0:Int)<=Int.ofNat i/\Int.ofNat i<(Int.ofNat s.ro.length)):=⟨aA _,dr⟩;obtain⟨L5,yl⟩:=ah5 s (u0+u) i p.1 p.2;have e:IntKind.i64.wrap (IntKind.i64.wrap (u0+u+(96:Int))+(Int.ofNat p.1.length))=u0+(u+A4 p):=by
    unfold A4 at *;simp only[jZ];rw[eV (x:=u0+u+96) L L,eV L L];omega
   rw[e]at yl;refine gP PS mo oL U yl fun g hg J=>?_;rcases jh hg with rfl|rfl
   . exact⟨G (hb) (G (nX _) (G (kL) (eS (oQ dr L)))),fun s3 uV=>.norm uV⟩
   . exact absurd (aK (J _ (au.2 rfl))) dr
 refine fV PS (ah5 s (u0+((s.ro.take s.ro.length).map A4).sum) s.ro.length [] []) fun g hg J=>?_;rcases jh hg with rfl|rfl
 . exact absurd (aI (J _ (au.2 rfl))) dr
 refine⟨cW,fun s3 uV=>⟨by simp,?_⟩⟩;rw[dY];refine dh uV ?_;refine eZ PS (aqi s (u0+((s.ro.take s.ro.length).map A4).sum) s.ro.length) (dG ?_);exact⟨cW,_,_,_,rfl,by rw[aU]⟩
end
def MD:ai->Option (ah×V)
 | [.agg [.dV n Q,.dV m O]]=>some (JM n Q m O++[n<=100000,∀c∈gG Q,c.O.length<=100000],(gC ⟨gG Q,pZ O⟩).v)
 |_=>none
def ME:ai->Option (ah×V)
 | [.agg [.dV n Q,.dV m O]]=>some (JM n Q m O++[n<=100000,m<=100000,∀c∈gG Q,c.da.length<=100000/\c.O.length<=2000,∀p∈pZ O,p.1.length<=100000],.int .i64 (MC ⟨gG Q,pZ O⟩))
 |_=>none
theorem TO(s:RS):s.v.deep=true:=rfl
theorem TP:jK ak 32 (Go.Eng.dW MD):=by
 refine vR (ax U) fun args cU v e hA=>?_;unfold MD at e;split at e
 case h_2=>cases e
 rename_i n Q m O;simp only[an,aB]at e;obtain⟨rfl,rfl⟩:=e;have hB:=fun a ha=>hA a (cj _ ha);have hC:=fun a ha=>hA a (cL _ ha);obtain⟨s,X,h2,h3,h4,h5,h6,h7,h8⟩:=uA hC;have b1:n<=100000:=hB (n<=100000) (by simp);have b2:∀c∈gG Q,c.O.length<=100000:=hB (∀c∈gG Q,c.O.length<=100000) (by simp);rw[h7]at b2;rw[h7,h8];clear h7 h8 hA hB hC;subst X h2 h3 h4;exact iq mo po Tryz.func32 U U rfl (TO _) (aqj s b1 h6 b2)
theorem acW:jK ak 33 (Go.Eng.dW ME):=by
 refine vR (ax U) fun args cU v e hA=>?_;unfold ME at e;split at e
 case h_2=>cases e
 rename_i n Q m O;simp only[an,aB]at e;obtain⟨rfl,rfl⟩:=e;have hB:=fun a ha=>hA a (cj _ ha);have hC:=fun a ha=>hA a (cL _ ha);obtain⟨s,X,h2,h3,h4,h5,h6,h7,h8⟩:=uA hC;have b1:n<=100000:=hB (n<=100000) (by simp);have b2:m<=100000:=hB (m<=100000) (by simp);have b3:∀c∈gG Q,c.da.length<=100000/\c.O.length<=2000:=hB (∀c∈gG Q,c.da.length<=100000/\c.O.length<=2000) (by simp);have b4:∀p∈pZ O,p.1.length<=100000:=hB (∀p∈pZ O,p.1.length<=100000) (by simp);rw[h7]at b3;rw[h8]at b4;rw[h7,h8];clear h7 h8 hA hB hC;subst X h2 h3 h4;exact iq mo po Tryz.func33 U U rfl rfl (fB (aqk s b1 b2 b3 b4) fun y s h=>kE h)
noncomputable abbrev W27:jY:=kC 33 (Go.Eng.dW ME) (kC 32 (Go.Eng.dW MD) W26)
theorem TQ:gm ak W27:=fh acW (fh TP TM)
noncomputable abbrev ah6:e9:=gL ak W27 H0 1000 40
noncomputable abbrev X27:CX ak:=CX.of mo po TQ H0 1000 40
theorem aqm:dc ah6 [] 3 Tryz.f26 [] (dO Tryz.f26) (cZ [] (EB gS gR) 3) [([],[],.ret (.ptr (some (3,0))) (K [(0,.ints .u32 gS),(1,.ints .u32 gR),(3,.cells [.ptr (some (4,0)),.dx (some (7,0)) 1 1 2]),(4,.cells [.dx none 0 0 0,.int .i64 0,.map (some 5),.map (some 6),.int .i64 0,.bool false,.bool false,.int .i64 0]),(5,.map [] 0),(6,.map [] 0),(7,.cells [.dx none 0 0 0,.dx none 0 0 0])]) 8)]:=cT.ef
theorem aqn(z:Int)(m:Nat):dc ah6 [(4,.di (.int .u8 (Int.ofNat m))),(6,.di (.int .u8 (Int.ofNat m))),(7,.di (.int .u8 (Int.ofNat (m+1))))] 3 Tryz.f91 [] (dO Tryz.f91) (cZ [.int .u8 z] .nil 3) [([],[V.int IntKind.u8 (z.tmod (5:Int))=V.int IntKind.u8 (Int.ofNat m),V.int IntKind.u8 (z.tmod (5:Int))=V.int IntKind.u8 (Int.ofNat m),V.int IntKind.u8 (IntKind.u8.wrap (Int.ofNat m+(1:Int)))=V.int IntKind.u8 (Int.ofNat (m+1)),(0:Int)<=Int.ofNat (m+1)/\Int.ofNat (m+1)<=(5:Int),(0:Int)<=Int.ofNat m/\Int.ofNat m<=(Int.ofNat (m+1))],.ret (.str (List.drop m (List.take (m+1) ([(97:UInt8),(98:UInt8),(99:UInt8),(100:UInt8),(101:UInt8)]:B)))) (K []) 3)]:=cT.ef
abbrev qD:eB:=⟨false⟩
def RS.cells(s:RS):ai:=[.dV s.Q.length (fJ s.Q),.dV s.ro.length (fD s.ro)]
def fN(l:List RS):ai:=(l.map RS.cells).flatten
section
variable(T A:Nat)(lg:B)(F R:Int)(C N:ae)(l:List RS)
end
def TR:B:=[109,105,115,115,105,110,103]
theorem BI:29<Tryz.prog.funcs.size:=ax U
theorem ZG:69<Tryz.prog.funcs.size:=ax U
section
variable(l:List RS)(s:RS)
theorem qE:(fN l).length=l.length*2:=tn (f:=RS.cells) (w:=2) (fun _=>rfl) l
theorem Ad(i:Nat)(h:i<l.length):eX (fN l) (i*2) 2=l[i].cells:=we (f:=RS.cells) (w:=2) (fun _=>rfl) l i h
theorem D8:0+l.length*2+2<=(fN (l++[s])).length/\V.agg (lf.lQ (eX (fN (l++[s])) (0+l.length*2) 2))=s.v:=by
 refine⟨by rw[qE,ay];simp;omega,?_⟩;rw[bI,Ad _ l.length (by rw[ay];simp),List.getElem_append_right (aC _)];simp only[Nat.sub_self,List.getElem_cons_zero];rfl
theorem TS(hl:l.length<=1000000):V.int aj (IntKind.i64.wrap ((Int.ofNat (l++[s]).length)-(1:Int)))=iW l.length/\((0:Int)<=Int.ofNat l.length/\Int.ofNat l.length<(Int.ofNat (l++[s]).length)):=by
 have e:(l++[s]).length=l.length+1:=by rw[ay];rfl
 rw[e];exact⟨aL _ (by rw[eV dr dr,jZ,jZ];omega),aA _,dr⟩
def PV:B:=dL TR (dI [])
theorem TT:PV.length=32:=DF _ _
theorem Xv(h:H rs)(n:Nat):c5 ak 69 [.str TR,eM] h n (.str PV) h n:=by
 intro E w dm ra g hd;refine Mv.2 _ h n [([]:ai)=strs (dI []),0=(dI []).length,0<=100000,(eJ (TR::dI [])).length<=1000000000] _ _ _ rfl ?_ E w dm ra g hd U;exact G rfl (G rfl (G (aX _) (eS (ax U))))
def k9(z:Nat):B:=if h:z%(s.Q.length+1)<s.Q.length then(s.Q[z%(s.Q.length+1)]).dg else PV
end
section
variable(T A:Nat)(lg:B)(F R:Int)(C N:ae)(l:List RS)(s:RS)
theorem Xw{z:Nat}(hz:z<=255)(hs:s.Q.length<=1000000):V.int aj (IntKind.i64.wrap ((Int.ofNat s.Q.length)+(1:Int)))=iW (s.Q.length+1)/\Int.ofNat (s.Q.length+1)≠(0:Int)/\V.int aj ((IntKind.i64.wrap (z:Int)).tmod (Int.ofNat (s.Q.length+1)))=iW (z%(s.Q.length+1)):=by
 refine⟨oQ dr L,dr,aL (V.int aj) ?_⟩;rw[eV L L,jZ,bZ L];rfl
end
theorem ah7:66<Tryz.prog.funcs.size:=ax U
theorem acX(T A:Nat)(b:B)(F R D:Int)[eB](C N:ae)(ho:BZ D):c5 ak 66 [P3] (dN (pS T A b F R D C N)) 7 (.int .i64 0) (dN (pS T A b (Int.ofNat T) R (wL D) C N)) 7:=by
 refine c7 Tryz.func66 (code:=JF) U U ?_;refine eZ uW (an5 T A b F R D C N) (dG ?_);exact⟨G rfl (G rfl (G rfl (eS ho))),_,_,_,rfl,rfl,rfl,rfl⟩
theorem Xx(F R D:Int)[eB](C N:ae)(ho:BZ D):c5 ak 66 [P3] (dN (pN F R D C N)) 7 (.int .i64 0) (dN (pN 0 R (wL D) C N)) 7:=by
 refine c7 Tryz.func66 (code:=JF) U U ?_;refine eZ uW (an6 F R D C N) (dG ?_);exact⟨G rfl (G rfl (G rfl (eS ho))),_,_,_,rfl,rfl,rfl,rfl⟩
section
variable(l:List RS)(s:RS)
end
def Gc(k:Nat):B:=List.drop (k%5) (List.take (k%5+1) [97,98,99,100,101])
theorem Xy(k:Nat):(Gc k).length=1:=by
 unfold Gc;rw[b7,aY];have:=Nat.mod_lt k (show 0<5 by decide);show min (k%5+1) 5-k%5=1;omega
def MF:ag->Option (ah×V)
 | [.int .u8 z]=>some ([0<=z/\z<=255],.str (Gc z.toNat))
 |_=>none
theorem TU:jK ak 91 (jW MF):=by
 refine kD (ax U) fun args cU v e=>?_;unfold MF at e;split at e
 . rename_i z;obtain⟨rfl,rfl⟩:=fg e;refine⟨rfl,rfl,fun hA=>ik mo po Tryz.func91 (code:=dO Tryz.f91) U U rfl ?_⟩;have hz:=hA (0<=z/\z<=255) (by simp);obtain⟨k,rfl⟩:=Int.eq_ofNat_of_zero_le hz.1;have W:=Nat.mod_lt k (show 0<5 by decide);obtain⟨be,hr⟩:=aqn k (k%5);have e1:V.int IntKind.u8 ((k:Int).tmod (5:Int))=V.int IntKind.u8 (Int.ofNat (k%5)):=aL _ (by rw[bZ L];rfl);have e2:V.int IntKind.u8 (IntKind.u8.wrap (Int.ofNat (k%5)+(1:Int)))=V.int IntKind.u8 (Int.ofNat (k%5+1)):=aL _ (by
    show(Int.ofNat (k%5)+1)%256=_;rw[jZ,jZ];omega)
   refine ij X27 mo _ U hr (dG ?_);exact⟨G e1 (G e1 (G e2 (G ⟨aA _,dr⟩ (eS ⟨aA _,dr⟩)))),_,_,_,rfl,rfl⟩
 . cases e
noncomputable abbrev W28:jY:=kC 91 (jW MF) W27
theorem MG:gm ak W28:=fh TU TQ
noncomputable abbrev fO:e9:=gL ak W28 H0 1000 40
noncomputable abbrev jI:CX ak:=CX.of mo po MG H0 1000 40
noncomputable abbrev tu:Code:=dO Tryz.f64
def o6(a b c:Int)(d:B):V:=.agg [.int .u8 a,.int .u8 b,.int .u8 c,.str d]
def lq(a b c:Int)(d:B):rs:=.cells [.int .u8 a,.int .u8 b,.int .u8 c,.str d]
section
variable(T A:Nat)(lg:B)(F R:Int)(C N:ae)(l:List RS)(a b c:Int)(d:B)(ps:List (B))
end
end Go.Proofs.YtfihojpgobmmdaaGreatDoor
