/- The Doc laws: small functions of DocQueries: contracts. No conditions. -/
import Derived.Test.YtmjggdmekboefaaGreatJointW15
import Derived.Deep.LoopGhost
import Derived.Lib.Walk
import Derived.Lib.SliceRun
import Derived.OwnWalk
set_option linter.unusedVariables false
set_option linter.unusedSimpArgs false
set_option linter.unusedSectionVars false
set_option maxRecDepth 100000
namespace Go.Proofs.YtmjggdmekboefaaGreat.Q
open Go Go.Eng
set_option maxRecDepth 10000
noncomputable abbrev att:Code:=dQ Tryz.f12
def FB(x n:Int):Int:=(IntKind.i64.wrap (x.tmod n+n)).tmod n
section
variable(a b:List Int)(x n:Int)(i:Nat)
theorem atu:H (M ew []) [] 0 Tryz.f12 [] att (dI [R x,R n] .nil 0) [([],[n≠0,n≠0],.ret (R (FB x n)) .nil 0)]:=G.Y
theorem SR(h:n≠0):ee ak 12 [R x,R n] (R (FB x n)):=
 fc Tryz.func12 (eR (be _) (atu x n) (dK (g0 ⟨X h (eO h),_,_,_,rfl,rfl⟩)))
noncomputable abbrev N5:Code:=dQ Tryz.f21
noncomputable abbrev gSm:Code:=dO (dH 2 N5)
noncomputable abbrev bSm:Code:=dP (dP (eB gSm))
def Gu(r:List (Nat×V)):St:=fI ([(0,fD a),(1,fD b)]++r) .nil 0
theorem YL:H (M ew []) [(10,.split)] 0 Tryz.f21 [0,1] (ek 2 N5) (dI [fD a,fD b] .nil 0)
  (fV (Int.ofNat a.length !=Int.ofNat b.length) ([],.ret (.bool false) .nil 0) ([],eC (Gu a b []))):=G.Y
theorem YM:H (M ew []) [] 0 Tryz.f21 [0,1,5] (dO gSm) (Gu a b []) [([],[],eC (Gu a b [(5,J 0)]))]:=G.Y
theorem YN:H (M ew []) [(14,.split)] 0 Tryz.f21 [0,1,5] (ek 1 bSm) (Gu a b [(5,J i)])
  (fV (decide (Int.ofNat i<Int.ofNat a.length)) ([],eC (Gu a b [(5,J i)])) ([],.to (.exit 0) (Gu a b [(5,J i)]))):=G.Y
theorem YO(x y:Int):H (M ew []) [(19,.dL (.eo [.int .i64 x])),(23,.dL (.eo [.int .i64 y])),(25,.split)] 0 Tryz.f21 [0,1,5] (ek 1 (dH 1 bSm)) (Gu a b [(5,J i)])
  (fV (x !=y) ([fT i a.length,jo a,gv (eL a) i 1 [D.int .i64 x],fT i b.length,jo b,gv (eL b) i 1 [D.int .i64 y]],.ret (.bool false) .nil 0) ([fT i a.length,jo a,gv (eL a) i 1 [D.int .i64 x],fT i b.length,jo b,gv (eL b) i 1 [D.int .i64 y]],eC (Gu a b [(5,J i)]))):=G.Y
theorem atw:H (M ew []) [(16,.dL (J (i+1)))] 0 Tryz.f21 [0,1,5] (dH 2 bSm) (Gu a b [(5,J i)]) [([],[oq i],eC (Gu a b [(5,J (i+1))]))]:=G.Y
theorem atx:H (M ew []) [] 0 Tryz.f21 [] (eB (dH 2 N5)) (Gu a b [(5,J i)]) [([],[],.ret (.bool true) .nil 0)]:=G.Y
theorem QE(h1:a.length<=1000000):ee ak 21 [fD a,fD b] (.bool (decide (a=b))):=by
 refine fc Tryz.func21 (jm 2 (be _) (fun u _ _=>u= .bool (decide (a=b))) (YL a b) (dN (g1 fun h=>⟨all_nil,?_,fun _ h=>h⟩) (dK (g1 fun h=>⟨all_nil,?_⟩))))
 . rw[aX fun e=>by rw[e]at h;simp at h]
 have hl:a.length=b.length:=by
  have:=bne_eq_false_iff_eq.1 h;simp only[gD]at this;omega
 refine dY dJ (dY dJ (gw (be _) eP (YM a b) (dK (g0 ⟨all_nil,fun T eu=>?_⟩))));simp only[andThen];refine je 0 a.length (fun i=>Gu a b [(5,J i)]) (fun i=>a.getD i 0 !=b.getD i 0) (eJ.norm eu) (fun i hi hj Q' k1 k2 k3=>?_) (fun e1 T eu=>?_)
 . refine jm 1 (be _) eP (YN a b i) (dN (g1 fun h=>⟨all_nil,?_⟩) (dK (g1 fun h=>⟨all_nil,fun T eu=>k2 (by have:=rG h;omega) T (eJ.norm eu)⟩)));have q:=kA h;have hc:=X (iI q) (X (eI a) (X (fP q) (X (iI (show i<b.length by omega)) (X (eI b) (eO (fP (show i<b.length by omega)))))));refine jm 1 (be _) (fun u _ _=>u= .bool (decide (a=b))) (YO a b i (a.getD i 0) (b.getD i 0)) (dN (g1 fun C=>⟨hc,?_,k3⟩) (dK (g1 fun C=>⟨hc,?_⟩)))
   . rw[aX fun e=>by rw[e]at C;simp at C]
   . exact gw (be _) eP (atw a b i) (dK (g0 ⟨eO (gV S),fun T eu=>k1 q C T (eJ.norm eu)⟩))
 . simp only[andThen];have e:a=b:=List.ext_getElem hl fun i h1 C=>by
    have:=bne_eq_false_iff_eq.1 (e1 i h1);rw[ax,ax,au h1,au C]at this;exact this
   exact eu _ _ (eR (be _) (atx a b _) (dK (g0 ⟨all_nil,_,_,_,rfl,by rw[aW e]⟩)))
noncomputable abbrev abC:Code:=dQ Tryz.f28
noncomputable abbrev abD:Code:=dQ Tryz.f26
end
theorem aty(d:Dc)(a:Int)(p:Int×Int):H (M (fa 39 [d.v] (GN p) ew) []) [(8,.dL (.bool true))] 0 Tryz.f26 [] abD (dI [d.v,R a] .nil 0)
  [([],[V.jj [d.v]=[d.v],kr (p.1 !=(0:Int))],.ret (R 0) .nil 0)]:=G.Y
theorem atz(d:Dc)(a k:Int)(p:Int×Int):H (M (fa 39 [d.v] (GN p) (fa 24 [d.v,R a] (R k) ew)) []) [(8,.dL (.bool false)),(13,.dL (.bool true))] 0 Tryz.f26 [] abD (dI [d.v,R a] .nil 0)
  [([],[V.jj [d.v]=[d.v],kP (p.1 !=(0:Int)),V.jj [d.v,R a]=[d.v,R a],kr (decide (k<(0:Int)))],.ret (R 0) .nil 0)]:=G.Y
theorem atA(d:Dc)(a k v:Int)(p:Int×Int):H (M (fa 39 [d.v] (GN p) (fa 24 [d.v,R a] (R k) (fa 52 [d.v,R a] (R v) ew))) []) [(8,.dL (.bool false)),(13,.dL (.bool false))] 0 Tryz.f26 [] abD (dI [d.v,R a] .nil 0)
  [([],[V.jj [d.v]=[d.v],kP (p.1 !=(0:Int)),V.jj [d.v,R a]=[d.v,R a],kP (decide (k<(0:Int))),V.jj [d.v,R a]=[d.v,R a]],.ret (R v) .nil 0)]:=G.Y
theorem atB(d:Dc)(a b:Int)(p:Int×Int):H (M (fa 39 [d.v] (GN p) ew) []) [(10,.dL (.bool false))] 0 Tryz.f28 [] abC (dI [d.v,R a,R b] .nil 0)
  [([],[V.jj [d.v]=[d.v],kP (p.1==(0:Int))],.ret (.bool false) .nil 0)]:=G.Y
theorem atC(d:Dc)(a b k:Int)(p:Int×Int):H (M (fa 39 [d.v] (GN p) (fa 24 [d.v,R a] (R k) ew)) []) [(10,.dL (.bool true)),(15,.dL (.bool false))] 0 Tryz.f28 [] abC (dI [d.v,R a,R b] .nil 0)
  [([],[V.jj [d.v]=[d.v],kr (p.1==(0:Int)),V.jj [d.v,R a]=[d.v,R a],kP (decide (k>=(0:Int)))],.ret (.bool false) .nil 0)]:=G.Y
theorem atE(d:Dc)(a b k:Int)(p:Int×Int)(l:List Int)(v:Bool):H (M (fa 39 [d.v] (GN p) (fa 24 [d.v,R a] (R k) (fa 56 [d.v,R a,.bool true] (fD l) (fa 55 [fD l,R b] (.bool v) ew)))) []) [(10,.dL (.bool true)),(15,.dL (.bool true))] 0 Tryz.f28 [] abC (dI [d.v,R a,R b] .nil 0)
  [([],[V.jj [d.v]=[d.v],kr (p.1==(0:Int)),V.jj [d.v,R a]=[d.v,R a],kr (decide (k>=(0:Int))),V.jj [d.v,R a,.bool true]=[d.v,R a,.bool true],V.jj [fD l,R b]=[fD l,R b]],.ret (.bool v) .nil 0)]:=G.Y
section
variable{d:Dc}(hd:B9 d)
include hd
theorem ahH(a:Int):ee ak 26 [d.v,R a] (R (DU d a)):=by
 have hC:=GR d hd;have hA:=Ts d a hd.m.ly;unfold DU TD;by_cases h0:(gU d).1=0
 . have h:=tV h0;rw[show((gU d).1==0)=true by simpa using h0,aF rfl];cases hn:jq d.ly a with
   |none=>
    have e:pW d.ly a= -1:=by unfold pW;rw[hn]
    have e2:jO d.ly 100 a=0:=by unfold jO;rw[hn]
    rw[e]at hA;rw[e2];generalize gU d=p at *;exact fc Tryz.func26 (eR (ff hC (ff hA (be _))) (atz d a _ p) (dK (g0 ⟨X rfl (X (by rw[h0];rfl) (X rfl (eO rfl))),_,_,_,rfl,rfl⟩)))
   |some n=>
    have e:pW d.ly a=Int.ofNat n:=by unfold pW;rw[hn]
    have hD:=Rx d hd.m (yY d.ly false) (B6 h.a) 100 fg a (by have:=uw h a;omega);rw[e]at hA;generalize gU d=p at *;exact fc Tryz.func26 (eR (ff hC (ff hA (ff hD (be _)))) (atA d a _ _ p) (dK (g0 ⟨X rfl (X (by rw[h0];rfl) (X rfl (X (aG V.bool (aX (by simp only[gD];omega))) (eO rfl)))),_,_,_,rfl,rfl⟩)))
 . rw[show((gU d).1==0)=false by simpa using h0,aD fg];generalize gU d=p at *;exact fc Tryz.func26 (eR (ff hC (be _)) (aty d a p) (dK (g0 ⟨X rfl (eO (aG V.bool (by simpa using h0))),_,_,_,rfl,rfl⟩)))
theorem abE(a b:Int):ee ak 28 [d.v,R a,R b] (.bool (wU d a b)):=by
 have hC:=GR d hd;have hA:=Ts d a hd.m.ly;unfold wU TD;by_cases h0:(gU d).1=0
 . have h:=tV h0;rw[show((gU d).1==0)=true by simpa using h0,aP];cases hn:jq d.ly a with
   |none=>
    have e:pW d.ly a= -1:=by unfold pW;rw[hn]
    rw[e]at hA;generalize gU d=p at *;exact fc Tryz.func28 (eR (ff hC (ff hA (be _))) (atC d a b _ p) (dK (g0 ⟨X rfl (X (by rw[h0];rfl) (X rfl (eO rfl))),_,_,_,rfl,rfl⟩)))
   |some n=>
    have e:pW d.ly a=Int.ofNat n:=by unfold pW;rw[hn]
    have hN:(fW d.ly).length<=10000:=by have:=lT h.k;have:=h.Tz;omega
    have hR:=Jl d a true hd.m (fun _=>h.uniq) hN;have hH:=Zo (jy d.ly true a) b (by have:=mV d.ly true a;omega);rw[e]at hA;rw[Option.isSome_some,aP];generalize jy d.ly true a=l at *;generalize gU d=p at *;exact fc Tryz.func28 (eR (ff hC (ff hA (ff hR (ff hH (be _))))) (atE d a b _ p l _) (dK (g0 ⟨X rfl (X (by rw[h0];rfl) (X rfl (X (aG V.bool (aW (by simp only[gD];omega))) (X rfl (eO rfl))))),_,_,_,rfl,rfl⟩)))
 . rw[show((gU d).1==0)=false by simpa using h0,aT];generalize gU d=p at *;exact fc Tryz.func28 (eR (ff hC (be _)) (atB d a b p) (dK (g0 ⟨X rfl (eO (aG V.bool (by simpa using h0))),_,_,_,rfl,rfl⟩)))
end
set_option maxRecDepth 10000
noncomputable abbrev SS:Code:=dQ Tryz.f50
noncomputable abbrev lBl:Code:=dO (dH 5 SS)
noncomputable abbrev bBl:Code:=dP (dP (eB lBl))
noncomputable abbrev ahI:Code:=dQ Tryz.f22
def O4(d:Dc)(n:Nat)(l:List Eng.D)(x:eV)(r:List (Nat×V)):St:=fI ([(2,.ptr (some (0,0))),(5,.fk (some (1,0)) n n 1),(7,.ptr (some (2,0)))]++r) (hL [(0,.cells d.cs),(1,.deep l),(2,.cells x.cs)]) 3
def sBm(d:Dc)(k:Int):St:=fI [(2,.ptr (some (0,0))),(5,.fk (some (1,0)) 0 0 1),(6,R k)] (hL [(0,.cells d.cs),(1,.cells [])]) 2
theorem ahJ(d:Dc)(x k:Int):H (M (fa 24 [d.v,R x] (R k) ew) []) [] 0 Tryz.f50 [2,5,6] (ek 3 SS) (dI [d.v,R x] .nil 0) [([],[V.jj [d.v,R x]=[d.v,R x]],eC (sBm d k))]:=G.Y
theorem ahK(d:Dc)(k:Int):H (M ew []) [(14,.split)] 0 Tryz.f50 [2,5,6] (ek 1 (dH 3 SS)) (sBm d k)
  (fV (decide (k<(0:Int))) ([],.ret (.fk (some (0,0)) 0 0 1) (hL [(0,.cells [])]) 1) ([],eC (sBm d k))):=G.Y
theorem atH(d:Dc)(k:Nat)(x:eV):H (M ew []) [(19,.dL (.eo x.ds))] 0 Tryz.f50 [2,5,7] (ek 1 (dH 4 SS)) (sBm d (Int.ofNat k))
  [([],[fT k d.ly.length,nK d.ly,gv (fR d.ly) k 31 x.ds],eC (fI [(2,.ptr (some (0,0))),(5,.fk (some (1,0)) 0 0 1),(7,.ptr (some (2,0)))] (hL [(0,.cells d.cs),(1,.cells []),(2,.cells x.cs)]) 3))]:=G.Y
theorem atI(d:Dc)(n:Nat)(l:List Eng.D)(x:eV):H (M ew []) [] 0 Tryz.f50 [2,5,7,8] (dO lBl) (O4 d n l x []) [([],[],eC (O4 d n l x [(8,J 0)]))]:=G.Y
theorem atJ(d:Dc)(n:Nat)(l:List Eng.D)(x:eV)(i:Nat):H (M ew []) [(25,.split)] 0 Tryz.f50 [2,5,7,8] (ek 1 bBl) (O4 d n l x [(8,J i)])
  (fV (decide (Int.ofNat i<Int.ofNat x.kids.length)) ([],eC (O4 d n l x [(8,J i)])) ([],.to (.exit 0) (O4 d n l x [(8,J i)]))):=G.Y
theorem atL(d:Dc)(n:Nat)(l:List Eng.D)(o:List Int)(x:eV)(i:Nat)(k:Int):H (M (fa 50 [d.v,R k] (fD o) ew) []) [(32,.dL (.eo [.int .i64 k])),(40,.dL (.eo [.int .i64 k]))] 0 Tryz.f50 [2,5,7,8] (ek 1 (dH 1 bBl)) (O4 d n l x [(8,J i)])
  [([],[fT i x.kids.length,jo x.kids,gv (eL x.kids) i 1 [D.int .i64 k],0+n*1<=l.length,0<1,fM (n+1) 1 8=true,fT i x.kids.length,jo x.kids,gv (eL x.kids) i 1 [D.int .i64 k],V.jj [d.v,R k]=[d.v,R k],jo o,0+(n+1)*1<=(List.take (n*1) (List.drop 0 l)++[D.int .i64 k]).length,fM (n+1+o.length) 1 8=true],eC (O4 d (n+1+o.length) (List.take ((n+1)*1) (List.drop 0 (List.take (n*1) (List.drop 0 l)++[D.int .i64 k]))++eL o) x [(8,J i)]))]:=G.Y
theorem atM(d:Dc)(n:Nat)(l:List Eng.D)(x:eV)(i:Nat):H (M ew []) [(27,.dL (J (i+1)))] 0 Tryz.f50 [2,5,7,8] (dH 2 bBl) (O4 d n l x [(8,J i)]) [([],[oq i],eC (O4 d n l x [(8,J (i+1))]))]:=G.Y
theorem atO(d:Dc)(n:Nat)(l:List Eng.D)(x:eV)(i:Nat):H (M ew []) [] 0 Tryz.f50 [] (eB (dH 5 SS)) (O4 d n l x [(8,J i)]) [([],[],.ret (.fk (some (0,0)) n n 1) (hL [(0,.deep l)]) 1)]:=G.Y
theorem atP(d:Dc)(p:Int×Int):H (M (fa 39 [d.v] (GN p) ew) []) [(6,.dL (.bool true))] 0 Tryz.f22 [] ahI (dI [d.v] .nil 0) [([],[V.jj [d.v]=[d.v],kr (p.1 !=(0:Int))],.ret (.fk none 0 0 0) .nil 0)]:=G.Y
theorem atQ(d:Dc)(p:Int×Int)(o:List Int):H (M (fa 39 [d.v] (GN p) (fa 50 [d.v,R d.root] (fD o) ew)) []) [(6,.dL (.bool false))] 0 Tryz.f22 [] ahI (dI [d.v] .nil 0) [([],[V.jj [d.v]=[d.v],kP (p.1 !=(0:Int)),V.jj [d.v,R d.root]=[d.v,R d.root]],.ret (fD o) .nil 0)]:=G.Y
theorem VU(l o:List Int)(k:Int):List.take ((l.length+1)*1) (List.drop 0 (List.take (l.length*1) (List.drop 0 (eL l))++[Eng.D.int .i64 k]))++eL o=eL (l++k::o):=by
 have e1:List.take (l.length*1) (List.drop 0 (eL l))=eL l:=by rw[bA,cr (Nat.le_of_eq (eI l))]
 rw[e1,bA];have e2:eL l++[Eng.D.int .i64 k]=eL (l++[k]):=by unfold eL;rw[bL];rfl
 rw[e2,cr (by rw[eI,az];simp)];unfold eL;rw[<- bL];congr 1;simp
section
variable{d:Dc}(h:jz d)
include h
theorem G8(n:Nat)(x:Int)(hr:yY d.ly false x<n):(iH d.ly n x).length<=40:=by
 rw[LW h n 100 x hr (by have:=uw h x;omega)];cases hn:jq d.ly x with
 |none=>
  have:iH d.ly 100 x=[]:=by
   show(match jq d.ly x with|some m=>(d.ly.getD m gM).kids.flatMap (fun j=>j::iH d.ly 99 j)|none=>[])=[];rw[hn]
  rw[this];exact aR _
 |some m=>
  obtain⟨hc,aj,e⟩:=M6 h 100 x (Nat.le_add_right _ _) ⟨m,hn⟩;have h1:=aG List.length e;rw[Xx h,az,az]at h1;unfold tT at h1;rw[aN]at h1;have:=h.Tz.2.1;omega
theorem abF(hd:B9 d):∀(n:Nat) (x:Int),yY d.ly false x<n->ee ak 50 [d.v,R x] (fD (iH d.ly n x)):=by
 intro n
 induction n with
 |zero=>intro x hr;exact absurd hr (bE _)
 |succ n ih=>
  intro x hr;have kZ:=G8 h (n+1) x hr;have hA:=Ts d x hd.m.ly;have e:iH d.ly (n+1) x=match jq d.ly x with|some m=>(d.ly.getD m gM).kids.flatMap (fun j=>j::iH d.ly n j)|none=>[]:=rfl
  rw[e]at kZ ⊢;cases hn:jq d.ly x with
  |none=>
   have e1:pW d.ly x= -1:=by unfold pW;rw[hn]
   rw[e1]at hA;refine mz Tryz.func50 (fN 3 (ff hA (be _)) (ahJ d x _) (eO rfl) ?_);exact jm 1 (be _) (uI (fD [])) (ahK d _) (dN (g1 fun h=>⟨all_nil,.Am (v0:=.eM false 0 []) [0] (hc:=[([]:List Eng.D).length=0*1]) dJ (eO rfl) dJ dJ,fun _ h=>h⟩) (dK (g1 fun h=>absurd h fg)))
  |some m=>
   obtain⟨fj,hid,oJ⟩:=iG hn;have e1:pW d.ly x=Int.ofNat m:=by unfold pW;rw[hn]
   rw[e1]at hA;rw[hn]at kZ;simp only at kZ ⊢;have hB:∀i,i<(d.at m).kids.length->ee ak 50 [d.v,R ((d.at m).kids.getD i 0)] (fD (iH d.ly n ((d.at m).kids.getD i 0))):=fun i hi=>ih _ (by
    have:=AL h hn (tZ hi);omega)
   have hk:(d.at m).kids.length<=1000000:=hd.m.kids _ oJ;change ((d.at m).kids.flatMap fun j=>j::iH d.ly n j).length<=40 at kZ;change ee ak 50 [d.v,R x] (fD ((d.at m).kids.flatMap fun j=>j::iH d.ly n j));have hL:V.eo (dU (fR d.ly) (m*31) 31)=V.eo (d.at m).ds:=ik fj;generalize d.at m=y at *;refine mz Tryz.func50 (fN 3 (ff hA (be _)) (ahJ d x _) (eO rfl) ?_);refine jm 1 (be _) eP (ahK d _) (dN (g1 fun h=>absurd h (by simp only[gD,aU];omega)) (dK (g1 fun h=>⟨all_nil,?_⟩)));refine fN 1 (be _) (atH d m y) (X (iI fj) (X (fS _) (eO hL))) ?_;refine eJ.deep [1] (dF:=O4 d 0 [] y []) dJ _ _ ?_;refine dY dJ (dY dJ (gw (be _) eP (atI d 0 [] y) (dK (g0 ⟨all_nil,fun T eu=>?_⟩))));simp only[andThen];generalize hf:(fun j=>j::iH d.ly n j)=f at *;have Ip:∀k,f k=k::iH d.ly n k:=fun k=>by rw[<- hf]
   refine je 0 y.kids.length (fun i=>O4 d ((y.kids.take i).flatMap f).length (eL ((y.kids.take i).flatMap f)) y [(8,J i)]) (fun _=>false) (eJ.norm eu) (fun i hi _ Q' k1 k2 k3=>?_) (fun _ T eu=>?_)
   . refine jm 1 (be _) eP (atJ d _ _ y i) (dN (g1 fun h=>⟨all_nil,?_⟩) (dK (g1 fun h=>⟨all_nil,fun T eu=>k2 (by have:=rG h;omega) T (eJ.norm eu)⟩)));have q:=kA h;have hft:=ow (f:=f) q;have Yh:=zm (f:=f) q;rw[Ip]at hft Yh;rw[aN]at Yh;have hB:=hB i q;generalize iH d.ly n (y.kids.getD i 0)=o at *;have hg:=fP (l:=y.kids) q;generalize y.kids.getD i 0=k at *;have k1:=k1 q rfl;rw[hft]at k1;generalize (y.kids.take i).flatMap f=l at *;have h6:=atL d l.length (eL l) o y i k;rw[VU,show l.length+1+o.length=(l++k::o).length by rw[az,aN];omega]at h6;have hdl:=eI l;refine jm 1 (ff hB (be _)) eP h6 (dK (g0 ⟨X (iI q) (X (eI _) (X hg (X S (X fg (X (GI S) (X (iI q) (X (eI _) (X hg (X rfl (X (eI _) (X (by rw[az,bf,dA];simp only[bS];omega) (eO (GI (by rw[az,aN];omega)))))))))))))),?_⟩));exact gw (be _) eP (atM d _ _ y i) (dK (g0 ⟨eO (gV S),fun T eu=>k1 T (eJ.norm eu)⟩))
   . rw[br]at eu;simp only[andThen];generalize y.kids.flatMap f=l at *;exact eu _ _ (eR (be _) (atO d l.length (eL l) y _) (dK (g0 ⟨all_nil,_,_,_,rfl,.Am (v0:=fD l) [0] (hc:=[(eL l).length=l.length*1]) dJ (eO (eI _)) dJ dJ⟩)))
end
theorem VV{d:Dc}(hd:B9 d):ee ak 22 [d.v] (fD (xT d)):=by
 have hC:=GR d hd;unfold xT TD;by_cases h0:(gU d).1=0
 . have h:=tV h0;have hB:=abF h hd 100 d.root (by have:=uw h d.root;omega);rw[show((gU d).1==0)=true by simpa using h0,aF rfl];generalize iH d.ly 100 d.root=o at *;generalize gU d=p at *;exact fc Tryz.func22 (eR (ff hC (ff hB (be _))) (atQ d p o) (dK (g0 ⟨X rfl (X (by rw[h0];rfl) (eO rfl)),_,_,_,rfl,rfl⟩)))
 . rw[show((gU d).1==0)=false by simpa using h0,aD fg];generalize gU d=p at *;exact(fc (v:=.fk none 0 0 0) Tryz.func22 (eR (ff hC (be _)) (atP d p) (dK (g0 ⟨X rfl (eO (aG V.bool (by simpa using h0))),_,_,_,rfl,rfl⟩)))).nl
theorem VW{d:Dc}(hd:B9 d)(U:∀x∈d.ly,x.kd≠3->xX x.f):ee ak 18 [d.v] (fD (xT d)):=by
 unfold xT TD;by_cases h0:(gU d).1=0
 . rw[show((gU d).1==0)=true by simpa using h0,aF rfl];exact abB (tV h0) hd
 . rw[show((gU d).1==0)=false by simpa using h0,aD fg];exact(fc (v:=.fk none 0 0 0) Tryz.func18 (eR (ff (DT hd U h0) (be _)) (ahF d) (dK (g0 ⟨eO rfl,_,_,_,rfl,rfl⟩)))).nl
open Go.RowKit Go.Lib
set_option maxHeartbeats 2000000 in
theorem ahL(a:Addr)(c:Nat)(w:World):Calls ak 82 #[.slice (some a) 0 c] w fun e w'=>∃v',e= .returned v'/\(∃aj k,w'.ownsRow aj k 1 v' 0 [])/\Below w.heap.size w w':=by
 have mixed:Tryz.prog.follows .mixedOrders=true:=mo;have t22:=Tryz.underlying22;have t4:=Tryz.underlying4;obtain⟨i0,z,hi,L6,D2,BC,FX⟩:∃i0 z,Tryz.prog.info? 3=some i0/\i0.zero=some z/\i0.size=1/\i0.bytes=8/\z.cells.size=1:=by
  have h1:(Tryz.prog.info? 3).map (fun i=>(i.size,i.bytes,(i.zero.map fun z=>z.cells.size)))=some (1,8,some 1):=by kernel_rfl
  obtain⟨i0,hi,C⟩:=cU.1 h1;simp only[aB]at C;obtain⟨z,hz,FX⟩:=cU.1 C.2.2;exact⟨i0,z,hi,hz,C.1,C.2.1,FX⟩
 have q22:∀(w:World) (a:Option Addr) (n c n' c':Nat),(binOp .eql 22 (.slice a n c) (.slice none n' c')).run ak w= .ok (.bool a.isNone) w:=fun w a n c n' c'=>Lib.run_eql_slice_nil w _ _ a n c n' c' t22;have u22:∀w,Sem.run ak (underlying 22) w= .ok (TypeDesc.slice 3) w:=run_underlying t22
 go_enter Tryz.func82,Tryz.ntmps82
 go_wp2_with (at_builtin;refine wpList_append_own _ rfl _ _ 22 rfl w.heap.size 3 i0 z 1 8 t22 hi L6 D2 BC FX fg _ _ _ rfl (World.ownsRow_made w #[] 0 (aK _) (aR _) rfl) a 0 c [] rfl rfl (by intro j u hj;simp at hj) (by intro u hu;cases hu) (by unfold maxLen;omega) S (by simp) ?_)
 intro v' w1 Ht DW mg
 go_wp2
 go_ret
 exact⟨v',rfl,⟨_,_,by simpa using Ht⟩,((Below.refl _ w).alloc (aK _) _).grown DW (by simp) (by intro k hk;simp[Value.ownBlock]at hk;omega)⟩
set_option maxHeartbeats 1000000 in
theorem ahM(n c:Nat)(w:World):Calls ak 82 #[.slice none n c] w fun e w'=>e= .returned (.slice none 0 0)/\w'=w:=by
 have mixed:Tryz.prog.follows .mixedOrders=true:=mo;have t22:=Tryz.underlying22;have t4:=Tryz.underlying4;have q22:∀(w:World) (a:Option Addr) (n c n' c':Nat),(binOp .eql 22 (.slice a n c) (.slice none n' c')).run ak w= .ok (.bool a.isNone) w:=fun w a n c n' c'=>Lib.run_eql_slice_nil w _ _ a n c n' c' t22
 go_enter Tryz.func82,Tryz.ntmps82
 go_wp2
 go_ret
 exact⟨rfl,rfl⟩
set_option maxHeartbeats 2000000 in
theorem ahN(a:Addr)(c:Nat)(w:World):Calls ak 38 #[.slice (some a) 0 c] w fun e w'=>∃v',e= .returned v'/\(∃aj k,w'.ownsRow aj k 1 v' 0 [])/\Below w.heap.size w w':=by
 have mixed:Tryz.prog.follows .mixedOrders=true:=mo;have t25:=Tryz.underlying25;have t4:=Tryz.underlying4;obtain⟨i0,z,hi,L6,D2,BC,FX⟩:∃i0 z,Tryz.prog.info? 3=some i0/\i0.zero=some z/\i0.size=1/\i0.bytes=8/\z.cells.size=1:=by
  have h1:(Tryz.prog.info? 3).map (fun i=>(i.size,i.bytes,(i.zero.map fun z=>z.cells.size)))=some (1,8,some 1):=by kernel_rfl
  obtain⟨i0,hi,C⟩:=cU.1 h1;simp only[aB]at C;obtain⟨z,hz,FX⟩:=cU.1 C.2.2;exact⟨i0,z,hi,hz,C.1,C.2.1,FX⟩
 have q25:∀(w:World) (a:Option Addr) (n c n' c':Nat),(binOp .eql 25 (.slice a n c) (.slice none n' c')).run ak w= .ok (.bool a.isNone) w:=fun w a n c n' c'=>Lib.run_eql_slice_nil w _ _ a n c n' c' t25;have u25:∀w,Sem.run ak (underlying 25) w= .ok (TypeDesc.slice 3) w:=run_underlying t25
 go_enter Tryz.func38,Tryz.ntmps38
 go_wp2_with (at_builtin;refine wpList_append_own _ rfl _ _ 25 rfl w.heap.size 3 i0 z 1 8 t25 hi L6 D2 BC FX fg _ _ _ rfl (World.ownsRow_made w #[] 0 (aK _) (aR _) rfl) a 0 c [] rfl rfl (by intro j u hj;simp at hj) (by intro u hu;cases hu) (by unfold maxLen;omega) S (by simp) ?_)
 intro v' w1 Ht DW mg
 go_wp2
 go_ret
 exact⟨v',rfl,⟨_,_,by simpa using Ht⟩,((Below.refl _ w).alloc (aK _) _).grown DW (by simp) (by intro k hk;simp[Value.ownBlock]at hk;omega)⟩
set_option maxHeartbeats 1000000 in
theorem ahO(n c:Nat)(w:World):Calls ak 38 #[.slice none n c] w fun e w'=>e= .returned (.slice none 0 0)/\w'=w:=by
 have mixed:Tryz.prog.follows .mixedOrders=true:=mo;have t25:=Tryz.underlying25;have t4:=Tryz.underlying4;have q25:∀(w:World) (a:Option Addr) (n c n' c':Nat),(binOp .eql 25 (.slice a n c) (.slice none n' c')).run ak w= .ok (.bool a.isNone) w:=fun w a n c n' c'=>Lib.run_eql_slice_nil w _ _ a n c n' c' t25
 go_enter Tryz.func38,Tryz.ntmps38
 go_wp2
 go_ret
 exact⟨rfl,rfl⟩
set_option maxHeartbeats 2000000 in
theorem ahP(a:Addr)(c:Nat)(w:World):Calls ak 83 #[.slice (some a) 0 c] w fun e w'=>∃v',e= .returned v'/\(∃aj k,w'.ownsRow aj k 2 v' 0 [])/\Below w.heap.size w w':=by
 have mixed:Tryz.prog.follows .mixedOrders=true:=mo;have t30:=Tryz.underlying30;have t4:=Tryz.underlying4;obtain⟨i0,z,hi,L6,D2,BC,FX⟩:∃i0 z,Tryz.prog.info? 132=some i0/\i0.zero=some z/\i0.size=2/\i0.bytes=16/\z.cells.size=2:=by
  have h1:(Tryz.prog.info? 132).map (fun i=>(i.size,i.bytes,(i.zero.map fun z=>z.cells.size)))=some (2,16,some 2):=by kernel_rfl
  obtain⟨i0,hi,C⟩:=cU.1 h1;simp only[aB]at C;obtain⟨z,hz,FX⟩:=cU.1 C.2.2;exact⟨i0,z,hi,hz,C.1,C.2.1,FX⟩
 have q30:∀(w:World) (a:Option Addr) (n c n' c':Nat),(binOp .eql 30 (.slice a n c) (.slice none n' c')).run ak w= .ok (.bool a.isNone) w:=fun w a n c n' c'=>Lib.run_eql_slice_nil w _ _ a n c n' c' t30;have u30:∀w,Sem.run ak (underlying 30) w= .ok (TypeDesc.slice 132) w:=run_underlying t30
 go_enter Tryz.func83,Tryz.ntmps83
 go_wp2_with (at_builtin;refine wpList_append_own _ rfl _ _ 30 rfl w.heap.size 132 i0 z 2 16 t30 hi L6 D2 BC FX fg _ _ _ rfl (World.ownsRow_made w #[] 0 (aK _) (aR _) rfl) a 0 c [] rfl rfl (by intro j u hj;simp at hj) (by intro u hu;cases hu) (by unfold maxLen;omega) S (by simp) ?_)
 intro v' w1 Ht DW mg
 go_wp2
 go_ret
 exact⟨v',rfl,⟨_,_,by simpa using Ht⟩,((Below.refl _ w).alloc (aK _) _).grown DW (by simp) (by intro k hk;simp[Value.ownBlock]at hk;omega)⟩
set_option maxHeartbeats 1000000 in
theorem ahQ(n c:Nat)(w:World):Calls ak 83 #[.slice none n c] w fun e w'=>e= .returned (.slice none 0 0)/\w'=w:=by
 have mixed:Tryz.prog.follows .mixedOrders=true:=mo;have t30:=Tryz.underlying30;have t4:=Tryz.underlying4;have q30:∀(w:World) (a:Option Addr) (n c n' c':Nat),(binOp .eql 30 (.slice a n c) (.slice none n' c')).run ak w= .ok (.bool a.isNone) w:=fun w a n c n' c'=>Lib.run_eql_slice_nil w _ _ a n c n' c' t30
 go_enter Tryz.func83,Tryz.ntmps83
 go_wp2
 go_ret
 exact⟨rfl,rfl⟩
set_option maxHeartbeats 2000000 in
theorem ahR(a:Addr)(c:Nat)(w:World):Calls ak 84 #[.slice (some a) 0 c] w fun e w'=>∃v',e= .returned v'/\(∃aj k,w'.ownsRow aj k 258 v' 0 [])/\Below w.heap.size w w':=by
 have mixed:Tryz.prog.follows .mixedOrders=true:=mo;have t31:=Tryz.underlying31;have t4:=Tryz.underlying4;obtain⟨i0,z,hi,L6,D2,BC,FX⟩:∃i0 z,Tryz.prog.info? 153=some i0/\i0.zero=some z/\i0.size=258/\i0.bytes=272/\z.cells.size=258:=by
  have h1:(Tryz.prog.info? 153).map (fun i=>(i.size,i.bytes,(i.zero.map fun z=>z.cells.size)))=some (258,272,some 258):=by kernel_rfl
  obtain⟨i0,hi,C⟩:=cU.1 h1;simp only[aB]at C;obtain⟨z,hz,FX⟩:=cU.1 C.2.2;exact⟨i0,z,hi,hz,C.1,C.2.1,FX⟩
 have q31:∀(w:World) (a:Option Addr) (n c n' c':Nat),(binOp .eql 31 (.slice a n c) (.slice none n' c')).run ak w= .ok (.bool a.isNone) w:=fun w a n c n' c'=>Lib.run_eql_slice_nil w _ _ a n c n' c' t31;have u31:∀w,Sem.run ak (underlying 31) w= .ok (TypeDesc.slice 153) w:=run_underlying t31
 go_enter Tryz.func84,Tryz.ntmps84
 go_wp2_with (at_builtin;refine wpList_append_own _ rfl _ _ 31 rfl w.heap.size 153 i0 z 258 272 t31 hi L6 D2 BC FX fg _ _ _ rfl (World.ownsRow_made w #[] 0 (aK _) (aR _) rfl) a 0 c [] rfl rfl (by intro j u hj;simp at hj) (by intro u hu;cases hu) (by unfold maxLen;omega) S (by simp) ?_)
 intro v' w1 Ht DW mg
 go_wp2
 go_ret
 exact⟨v',rfl,⟨_,_,by simpa using Ht⟩,((Below.refl _ w).alloc (aK _) _).grown DW (by simp) (by intro k hk;simp[Value.ownBlock]at hk;omega)⟩
set_option maxHeartbeats 1000000 in
theorem ahS(n c:Nat)(w:World):Calls ak 84 #[.slice none n c] w fun e w'=>e= .returned (.slice none 0 0)/\w'=w:=by
 have mixed:Tryz.prog.follows .mixedOrders=true:=mo;have t31:=Tryz.underlying31;have t4:=Tryz.underlying4;have q31:∀(w:World) (a:Option Addr) (n c n' c':Nat),(binOp .eql 31 (.slice a n c) (.slice none n' c')).run ak w= .ok (.bool a.isNone) w:=fun w a n c n' c'=>Lib.run_eql_slice_nil w _ _ a n c n' c' t31
 go_enter Tryz.func84,Tryz.ntmps84
 go_wp2
 go_ret
 exact⟨rfl,rfl⟩
set_option maxRecDepth 10000
def SV:ag->Option (ah×V)
 | [.eM _ 0 []]=>some ([],.eM false 0 [])
 |_=>none
theorem Hu{f:FuncId}{k:Nat}(fj:Nat.blt f Tryz.prog.funcs.size=true)(A:callee ak f=true)(hz:∀(a:Addr) (c:Nat) (w:World),Calls ak f #[.slice (some a) 0 c] w fun e w'=>∃v',e= .returned v'/\(∃aj j,w'.ownsRow aj j k v' 0 [])/\RowKit.Below w.heap.size w w')
  (hn:∀(n c:Nat) (w:World),Calls ak f #[.slice none n c] w fun e w'=>e= .returned (.slice none 0 0)/\w'=w):ee ak f [.eM false 0 []] (.eM false 0 []):=by
 have one:jM ak f (ic SV):=by
  refine I1 (aE fj) fun args hc v e=>?_;unfold SV at e;split at e
  . obtain⟨rfl,rfl⟩:=gr e;refine⟨rfl,rfl,fun _ E w dZ _ ra=>?_⟩;obtain⟨y,ys,r0,rs,rfl⟩:=ra;have rs:ys=[]:=rs;subst rs;obtain⟨⟨a,kg,vs,rfl,_,hv,_,_⟩,_⟩:=r0;cases a with
    |none=>
     refine(hn 0 kg w).mono fun en w' ⟨he,hw⟩=>?_;subst he;subst hw;exact⟨⟨E,⟨none,0,[],rfl,aK _,rfl,fun _=>rfl,fun h=>absurd h (dy _)⟩,fun h=>by cases h⟩,RowKit.Below.refl _ _⟩
    |some a=>
     refine(hz a kg w).mono fun en w' ⟨v',he,⟨aj,j,Ht⟩,hw⟩=>?_;subst he;have XI:∃a c,v'= .slice a 0 c:=by
      obtain⟨_,h⟩:=Ht;rcases h with⟨h,_⟩|⟨g,kg,cur,h,_⟩
      . exact⟨none,0,h⟩
      . exact⟨_,_,h⟩
     obtain⟨a2,c2,rfl⟩:=XI;exact⟨⟨E,⟨a2,c2,[],rfl,aR _,rfl,fun _=>rfl,fun h=>absurd h (dy _)⟩,fun h=>by cases h⟩,hw⟩
  . cases e
 exact fun E h n w dZ ra g hd=>one.2 _ _ _ [] _ _ _ rfl all_nil E w dZ ra g hd A
section
variable(n:Nat)
theorem atS(l:List Eng.D):H (M ew []) [] 0 Tryz.f82 [] (dQ Tryz.f82) (dI [.eM false n l] .nil 0)
  [([],[0<n,l.length=n*1,fM (0+n) 1 8=true],.ret (.fk (some (0,0)) (0+n) (0+n) 1) (hL [(0,.deep ([]++l))]) 1)]:=G.Y
theorem VX(l:List Eng.D)(hl:l.length=n*1)(hn:n<=1000000):ee ak 82 [.eM false n l] (.eM false n l):=by
 rcases cW n with h0|h0
 . subst h0;obtain rfl:l=[]:=cS.1 S;exact Hu dJ dJ ahL ahM
 . have h:=atS n l;rw[bI,bG]at h;have hr:fM n 1 8=true:=by unfold fM;exact aW ⟨S,S⟩
   exact mz Tryz.func82 (eR (be _) h (dK (g0 ⟨X h0 (X hl (eO hr)),_,_,_,rfl,.Am (v0:=.eM false n l) [0] (hc:=[l.length=n*1]) dJ (eO hl) dJ dJ⟩)))
theorem atT(l:List Eng.D):H (M ew []) [] 0 Tryz.f38 [] (dQ Tryz.f38) (dI [.eM false n l] .nil 0)
  [([],[0<n,l.length=n*1,fM (0+n) 1 8=true],.ret (.fk (some (0,0)) (0+n) (0+n) 1) (hL [(0,.deep ([]++l))]) 1)]:=G.Y
theorem VY(l:List Eng.D)(hl:l.length=n*1)(hn:n<=1000000):ee ak 38 [.eM false n l] (.eM false n l):=by
 rcases cW n with h0|h0
 . subst h0;obtain rfl:l=[]:=cS.1 S;exact Hu dJ dJ ahN ahO
 . have h:=atT n l;rw[bI,bG]at h;have hr:fM n 1 8=true:=by unfold fM;exact aW ⟨S,S⟩
   exact mz Tryz.func38 (eR (be _) h (dK (g0 ⟨X h0 (X hl (eO hr)),_,_,_,rfl,.Am (v0:=.eM false n l) [0] (hc:=[l.length=n*1]) dJ (eO hl) dJ dJ⟩)))
theorem atV(l:List Eng.D):H (M ew []) [] 0 Tryz.f83 [] (dQ Tryz.f83) (dI [.eM false n l] .nil 0)
  [([],[0<n,l.length=n*2,fM (0+n) 2 16=true],.ret (.fk (some (0,0)) (0+n) (0+n) 2) (hL [(0,.deep ([]++l))]) 1)]:=G.Y
theorem VZ(l:List Eng.D)(hl:l.length=n*2)(hn:n<=1000000):ee ak 83 [.eM false n l] (.eM false n l):=by
 rcases cW n with h0|h0
 . subst h0;obtain rfl:l=[]:=cS.1 S;exact Hu dJ dJ ahP ahQ
 . have h:=atV n l;rw[bI,bG]at h;have hr:fM n 2 16=true:=by unfold fM;exact aW ⟨S,S⟩
   exact mz Tryz.func83 (eR (be _) h (dK (g0 ⟨X h0 (X hl (eO hr)),_,_,_,rfl,.Am (v0:=.eM false n l) [0] (hc:=[l.length=n*2]) dJ (eO hl) dJ dJ⟩)))
theorem atW(l:List Eng.D):H (M ew []) [] 0 Tryz.f84 [] (dQ Tryz.f84) (dI [.eM false n l] .nil 0)
  [([],[0<n,l.length=n*258,fM (0+n) 258 272=true],.ret (.fk (some (0,0)) (0+n) (0+n) 258) (hL [(0,.deep ([]++l))]) 1)]:=G.Y
theorem V0(l:List Eng.D)(hl:l.length=n*258)(hn:n<=1000000):ee ak 84 [.eM false n l] (.eM false n l):=by
 rcases cW n with h0|h0
 . subst h0;obtain rfl:l=[]:=cS.1 S;exact Hu dJ dJ ahR ahS
 . have h:=atW n l;rw[bI,bG]at h;have hr:fM n 258 272=true:=by unfold fM;exact aW ⟨S,S⟩
   exact mz Tryz.func84 (eR (be _) h (dK (g0 ⟨X h0 (X hl (eO hr)),_,_,_,rfl,.Am (v0:=.eM false n l) [0] (hc:=[l.length=n*258]) dJ (eO hl) dJ dJ⟩)))
end
set_option maxRecDepth 10000
def FC(k:Nat):ag->I es->Nat->Option (ah×V×I es×Nat):=fun args h n=>match args with
 | [.eM _ m l]=>some ([l.length=m*k,m<=1000000],.eM false m l,h,n)
 |_=>none
theorem zu{f:FuncId}{k:Nat}(fj:Nat.blt f Tryz.prog.funcs.size=true)(hD:∀(m:Nat) (l:List Eng.D),l.length=m*k->m<=1000000->ee ak f [.eM false m l] (.eM false m l)):jM ak f (FC k):=by
 refine⟨aE fj,fun args h' n hc v' C n2 e hA E w dZ ra g Ow _=>?_⟩;unfold FC at e;split at e
 case h_2=>cases e
 rename_i f0 m l;simp only[aq,aB]at e;obtain⟨rfl,rfl,rfl,rfl⟩:=e;have WC:eK E [.eM false m l] dZ:=by
  obtain⟨y,ys,r,rs,q⟩:=ra;exact⟨y,ys,⟨r.1,fun h=>by cases h⟩,rs,q⟩
 exact hD m l (hA _ (by simp)) (hA (m<=1000000) (by simp)) E _ _ w dZ WC g Ow
noncomputable def ahT(dF:gG):gG:=jC 82 (FC 1) (jC 83 (FC 2) (jC 84 (FC 258) (jC 38 (FC 1) dF)))
theorem V1{dF:gG}(hS:fo ak dF):fo ak (ahT dF):=
 fq (zu dJ VX) (fq (zu dJ VZ) (fq (zu dJ V0) (fq (zu dJ VY) hS)))
theorem atX(x:eV):H (M (ahT ew) []) [] 0 Tryz.f37 [] (dQ Tryz.f37) (dI [x.v] .nil 0)
  [([],[jo x.kids,x.kids.length<=1000000,(nf x.gA).length=x.gA.length*2,x.gA.length<=1000000,jo x.f.fh,x.f.fh.length<=1000000,jo x.f.cu,x.f.cu.length<=1000000,(iO x.gx).length=x.gx.length*258,x.gx.length<=1000000,(iO x.ig).length=x.ig.length*258,x.ig.length<=1000000],.ret x.v .nil 0)]:=G.Y
theorem atY(x:eV)(h:zC x):ee ak 37 [x.v] x.v:=
 fc Tryz.func37 (eR (V1 (be _)) (atX x) (dK (g0 ⟨X (eI _) (X h.kids (X (pK _) (X h.gA (X (eI _) (X h.fh (X (eI _) (X h.cu (X (iS _) (X h.gx (X (iS _) (eO h.ig))))))))))),_,_,_,rfl,rfl⟩)))
noncomputable abbrev SW:Code:=dQ Tryz.f35
noncomputable abbrev bIx:Code:=dP (dP (eB (dO (dH 1 SW))))
abbrev fnC(f:Nat):V:=.fn (.func f) [] [.ptr (some (0,0))]
def SX(o:ag):I es:=hL [(0,.cells o)]
def O5(d:Dc)(f:Nat)(o:ag)(r:List (Nat×V)):St:=fI ([(0,.eM false d.ly.length (fR d.ly)),(1,fnC f)]++r) (SX o) 1
set_option maxRecDepth 10000
def V2(d:Dc)(f:Nat)(o:ag)(v:V):ag->I es->Nat->Option (ah×V×I es×Nat):=fun args h k=>some ([args=[.eM false d.ly.length (fR d.ly),fnC f],h=SX o,k=1],v,SX o,1)
theorem abG(d:Dc)(id:Int):H (M ew []) [] 1 Tryz.f35 [0,1] (ek 1 SW) (dI [.eM false d.ly.length (fR d.ly),fnC 51] (SX ([R id])) 1) [([],[],eC (O5 d 51 ([R id]) []))]:=G.Y
theorem abH(d:Dc)(id:Int):H (M ew []) [] 1 Tryz.f35 [0,1,7,8] (dO (dO (dH 1 SW))) (O5 d 51 ([R id]) []) [([],[],eC (O5 d 51 ([R id]) [(7,J d.ly.length),(8,J 0)]))]:=G.Y
theorem abI(d:Dc)(id:Int)(i:Nat):H (M ew []) [(9,.split)] 1 Tryz.f35 [0,1,7,8] (ek 2 bIx) (O5 d 51 ([R id]) [(7,J d.ly.length),(8,J i)])
  (fV (decide (Int.ofNat i<Int.ofNat d.ly.length)) ([],eC (O5 d 51 ([R id]) [(7,J d.ly.length),(8,J i)])) ([],.to (.exit 0) (O5 d 51 ([R id]) [(7,J d.ly.length),(8,J i)]))):=G.Y
theorem abJ(d:Dc)(id:Int)(i:Nat)(x:eV):H (M ew []) [(14,.dL (.eo x.ds)),(16,.split)] 1 Tryz.f35 [0,1,7,8] (ek 1 (dH 2 bIx)) (O5 d 51 ([R id]) [(7,J d.ly.length),(8,J i)])
  (fV (x.id==id) ([fT i d.ly.length,nK d.ly,gv (fR d.ly) i 31 x.ds],.ret (J i) (SX ([R id])) 1) ([fT i d.ly.length,nK d.ly,gv (fR d.ly) i 31 x.ds],eC (O5 d 51 ([R id]) [(7,J d.ly.length),(8,J i)]))):=G.Y
theorem abK(d:Dc)(id:Int)(i:Nat):H (M ew []) [(18,.dL (J (i+1)))] 1 Tryz.f35 [0,1,7,8] (dH 3 bIx) (O5 d 51 ([R id]) [(7,J d.ly.length),(8,J i)]) [([],[oq i],eC (O5 d 51 ([R id]) [(7,J d.ly.length),(8,J (i+1))]))]:=G.Y
theorem abL(d:Dc)(id:Int)(i:Nat):H (M ew []) [] 1 Tryz.f35 [] (eB (dH 1 SW)) (O5 d 51 ([R id]) [(7,J d.ly.length),(8,J i)]) [([],[],.ret (R (-1)) (SX ([R id])) 1)]:=G.Y
theorem ahU(d:Dc)(hd:D5 d)(id:Int):jM ak 35 (nG (V2 d 51 ([R id]) (R (pW d.ly (id))))):=
 GW mo po (aE dJ) Tryz.func35 (code:=SW) dJ fun args h k hc v' h' k' e hA=>by
  simp only[V2,aq,aB]at e;obtain⟨rfl,rfl,rfl,rfl⟩:=e;have h1:args=[.eM false d.ly.length (fR d.ly),fnC 51]:=hA _ (by simp);have C:h=SX ([R id]):=hA (h=SX ([R id])) (by simp);have h3:k=1:=hA (k=1) (by simp);subst h1 C h3;have Ay:=hd.ly;refine⟨dJ,fN 1 (be _) (abG d id) all_nil ?_⟩;refine dY dJ (dY dJ (gw (be _) eP (abH d id) (dK (g0 ⟨all_nil,fun T eu=>?_⟩))));simp only[andThen];refine je 0 d.ly.length (fun i=>O5 d 51 ([R id]) [(7,J d.ly.length),(8,J i)]) (fun i=>(d.ly.getD i gM).id==id) (eJ.norm eu) (fun i hi hj Q' k1 k2 k3=>?_) (fun e1 T eu=>?_)
  . refine jm 2 (be _) eP (abI d id i) (dN (g1 fun h=>⟨all_nil,?_⟩) (dK (g1 fun h=>⟨all_nil,fun T eu=>k2 (by have:=rG h;omega) T (eJ.norm eu)⟩)));have q:=kA h;have hL:V.eo (dU (fR d.ly) (i*31) 31)=V.eo (d.ly.getD i gM).ds:=ik q;refine jm 1 (be _) (fun a b c=>a=R (pW d.ly (id))/\b=SX ([R id])/\c=1) (abJ d id i (d.ly.getD i gM)) (dN (g1 fun C=>⟨X (iI q) (X (fS _) (eO hL)),⟨?_,rfl,rfl⟩,k3⟩) (dK (g1 fun C=>⟨X (iI q) (X (fS _) (eO hL)),?_⟩)))
    . unfold pW;rw[Dx q C hj]
    . exact gw (be _) eP (abK d id i) (dK (g0 ⟨eO (gV S),fun T eu=>k1 q C T (eJ.norm eu)⟩))
  . simp only[andThen];refine eu _ _ (eR (be _) (abL d id _) (dK (g0 ⟨all_nil,_,_,_,rfl,?_,rfl,rfl⟩)));have hn:jq d.ly (id)=none:=by
     unfold jq;rw[cH];intro x K;obtain⟨j,hj,rfl⟩:=ck K;have:=e1 j hj;rw[ax,au hj]at this;exact this
    unfold pW;rw[hn]
noncomputable abbrev ahV:Code:=dQ Tryz.f23
abbrev aIx(d:Dc)(f:Nat)(o:ag):ah:=[[.eM false d.ly.length (fR d.ly),fnC f]=[.eM false d.ly.length (fR d.ly),fnC f],SX o=SX o,(1:Nat)=1]
theorem at0(d:Dc)(id:Int):H (M (jC 35 (nG (V2 d 51 [R id] (R (-1)))) ew) []) [] 0 Tryz.f23 [] ahV (dI [d.v,R id] .nil 0)
  [([],aIx d 51 [R id],.ret (.gK [Jv,.bool false]) .nil 0)]:=G.Y
theorem at1(d:Dc)(id:Int)(k:Nat)(x:eV):H (M (jC 35 (nG (V2 d 51 [R id] (J k))) (fa 37 [x.v] x.v ew)) []) [(12,.dL (.bool false)),(17,.dL (.eo x.ds))] 0 Tryz.f23 [] ahV (dI [d.v,R id] .nil 0)
  [([],aIx d 51 [R id]++[V.bool (decide (Int.ofNat k<(0:Int)))=V.bool false,(0:Int)<=Int.ofNat k/\Int.ofNat k<Int.ofNat d.ly.length,(fR d.ly).length=d.ly.length*31,V.eo (dU (fR d.ly) (k*31) 31)=V.eo x.ds,V.jj [x.v]=[x.v]],.ret (.gK [x.v,.bool true]) .nil 0)]:=G.Y
def SY(d:Dc)(id:Int):V:=match jq d.ly id with
 |some n=>.gK [(d.at n).v,.bool true]
 |none=>.gK [Jv,.bool false]
theorem V3{d:Dc}(hd:B9 d)(id:Int):ee ak 23 [d.v,R id] (SY d id).nl:=by
 have hI:=ahU d hd.m id;unfold SY;cases hn:jq d.ly id with
 |none=>
  have e:pW d.ly id= -1:=by unfold pW;rw[hn]
  rw[e]at hI;exact(fc (v:=.gK [Jv,.bool false]) Tryz.func23 (eR (fq hI (be _)) (at0 d id) (dK (g0 ⟨X rfl (X rfl (eO rfl)),_,_,_,rfl,rfl⟩)))).nl
 |some n=>
  have e:pW d.ly id=Int.ofNat n:=by unfold pW;rw[hn]
  obtain⟨fj,_,_⟩:=iG hn;have hL:V.eo (dU (fR d.ly) (n*31) 31)=V.eo (d.at n).ds:=ik fj;have hO:=atY (d.at n) (hd.at n);rw[e]at hI;show ee ak 23 [d.v,R id] (V.gK [(d.at n).v,.bool true]).nl;generalize d.at n=x at *;exact(fc (v:=.gK [x.v,.bool true]) Tryz.func23 (eR (fq hI (ff hO (be _))) (at1 d id n x) (dK (g0 ⟨X rfl (X rfl (X rfl (X (aG V.bool (aX (by simp only[gD];omega))) (X (iI fj) (X (fS _) (X hL (eO rfl))))))),_,_,_,rfl,rfl⟩)))).nl
set_option maxRecDepth 10000
noncomputable abbrev at5:Code:=dQ Tryz.f9
theorem aas(l:eV)(k1 k2 k3 k4 k5 k6 k7:Nat):H (M ew []) [(8,.dL (J k1)),(16,.dL (J k2)),(24,.dL (J k3)),(34,.dL (J k4)),(45,.dL (J k5)),(56,.dL (J k6)),(67,.dL (J k7))] 0 Tryz.f9 [] (at5) (dI [l.v] .nil 0) [([],[V.int B (if(20:Int)<(Int.ofNat l.nm.length)then(20:Int)else(Int.ofNat l.nm.length))=J k1,(0:Int)<=Int.ofNat k1/\Int.ofNat k1<=(Int.ofNat l.nm.length),V.int B (if(6:Int)<(Int.ofNat l.kids.length)then(6:Int)else(Int.ofNat l.kids.length))=J k2,jo l.kids,(0:Int)<=Int.ofNat k2/\Int.ofNat k2<=(Int.ofNat l.kids.length),V.int B (if(70:Int)<(Int.ofNat l.gA.length)then(70:Int)else(Int.ofNat l.gA.length))=J k3,(nf l.gA).length=l.gA.length*2,(0:Int)<=Int.ofNat k3/\Int.ofNat k3<=(Int.ofNat l.gA.length),V.int B (if(30:Int)<(Int.ofNat l.f.fh.length)then(30:Int)else(Int.ofNat l.f.fh.length))=J k4,jo l.f.fh,(0:Int)<=Int.ofNat k4/\Int.ofNat k4<=(Int.ofNat l.f.fh.length),V.int B (if(30:Int)<(Int.ofNat l.f.cu.length)then(30:Int)else(Int.ofNat l.f.cu.length))=J k5,jo l.f.cu,(0:Int)<=Int.ofNat k5/\Int.ofNat k5<=(Int.ofNat l.f.cu.length),V.int B (if(3:Int)<(Int.ofNat l.gx.length)then(3:Int)else(Int.ofNat l.gx.length))=J k6,(iO l.gx).length=l.gx.length*258,(0:Int)<=Int.ofNat k6/\Int.ofNat k6<=(Int.ofNat l.gx.length),V.int B (if(3:Int)<(Int.ofNat l.ig.length)then(3:Int)else(Int.ofNat l.ig.length))=J k7,(iO l.ig).length=l.ig.length*258,(0:Int)<=Int.ofNat k7/\Int.ofNat k7<=(Int.ofNat l.ig.length)],.ret (.agg [.int .i64 (l.id),.int .i64 (l.kd),.str (List.drop 0 (List.take k1 l.nm)),.bool (l.hid),.int .i64 (l.op),.int .i64 (l.md),.bool (l.clip),.int .i64 (l.pl.a),.int .i64 (l.pl.b),.int .i64 (l.pl.c),.int .i64 (l.pl.d),.int .i64 (l.pl.e),.int .i64 (l.pl.f),.int .i64 (l.pl.n),.int .i64 (l.sp),.eM false (k2-0) (dU (eL l.kids) 0 ((k2-0)*1)),.int .i64 (l.of),.int .i64 (l.f.k),.int .i64 (l.f.r),.eM false (k4-0) (dU (eL l.f.fh) 0 ((k4-0)*1)),.int .i64 (l.f.dv),.int .i64 (l.f.vl),.eM false (k5-0) (dU (eL l.f.cu) 0 ((k5-0)*1)),.int .u8 (l.fi.r),.int .u8 (l.fi.g),.int .u8 (l.fi.b),.int .u8 (l.fi.a),.eM false (k3-0) (dU (nf l.gA) 0 ((k3-0)*2)),.eM false (k6-0) (dU (iO l.gx) 0 ((k6-0)*258)),.bool (l.L),.eM false (k7-0) (dU (iO l.ig) 0 ((k7-0)*258))]) (hL []) 0)]:=G.Y
def JQ(l:eV):eV:={ l with nm:=l.nm.take 20,kids:=l.kids.take 6,gA:=l.gA.take 70,f:={ l.f with fh:=l.f.fh.take 30,cu:=l.f.cu.take 30 },gx:=l.gx.take 3,ig:=l.ig.take 3 }
theorem uc{α:Type}{f:α->ai}{w:Nat}(hf:∀x,(f x).length=w):∀(l:List α) (k:Nat),((l.map f).flatten).take (k*w)=((l.take k).map f).flatten
 | [],k=>by simp
 |x::l,0=>by simp
 |x::l,k+1=>by
  rw[b9,de,List.take_succ_cons,b9,de,<- uc hf l k,show(k+1)*w=(f x).length+k*w by rw[hf,dw];omega,List.take_length_add_append]
theorem ahW(l:eV):ee ak 9 [l.v] (JQ l).v:=by
 have mn:∀(a b:Nat),V.int B (if((a:Int))<(Int.ofNat b)then(a:Int)else(Int.ofNat b))=J (min a b):=fun a b=>by
  show _=V.int .i64 (Int.ofNat (min a b));congr 1;simp only[gD];split<;>omega
 have bd:∀(a b:Nat),(0:Int)<=Int.ofNat (min a b)/\Int.ofNat (min a b)<=Int.ofNat b:=fun a b=>by simp only[gD];omega
 have hz:(JQ l).v= .agg [.int .i64 (l.id),.int .i64 (l.kd),.str (List.drop 0 (List.take (min 20 l.nm.length) l.nm)),.bool (l.hid),.int .i64 (l.op),.int .i64 (l.md),.bool (l.clip),.int .i64 (l.pl.a),.int .i64 (l.pl.b),.int .i64 (l.pl.c),.int .i64 (l.pl.d),.int .i64 (l.pl.e),.int .i64 (l.pl.f),.int .i64 (l.pl.n),.int .i64 (l.sp),.eM false (min 6 l.kids.length-0) (dU (eL l.kids) 0 ((min 6 l.kids.length-0)*1)),.int .i64 (l.of),.int .i64 (l.f.k),.int .i64 (l.f.r),.eM false (min 30 l.f.fh.length-0) (dU (eL l.f.fh) 0 ((min 30 l.f.fh.length-0)*1)),.int .i64 (l.f.dv),.int .i64 (l.f.vl),.eM false (min 30 l.f.cu.length-0) (dU (eL l.f.cu) 0 ((min 30 l.f.cu.length-0)*1)),.int .u8 (l.fi.r),.int .u8 (l.fi.g),.int .u8 (l.fi.b),.int .u8 (l.fi.a),.eM false (min 70 l.gA.length-0) (dU (nf l.gA) 0 ((min 70 l.gA.length-0)*2)),.eM false (min 3 l.gx.length-0) (dU (iO l.gx) 0 ((min 3 l.gx.length-0)*258)),.bool (l.L),.eM false (min 3 l.ig.length-0) (dU (iO l.ig) 0 ((min 3 l.ig.length-0)*258))]:=by
  have tk:∀{α:Type} (k:Nat) (l:List α),l.take (min k l.length)=l.take k:=fun k l=>by
   rcases Nat.le_total k l.length with h|h
   . rw[Nat.min_eq_left h]
   . rw[Nat.min_eq_right h,br,cr h]
  have e1:∀(k:Nat) (l:List Int),fD (l.take k)= .eM false (min k l.length-0) (dU (eL l) 0 ((min k l.length-0)*1)):=fun k l=>by
   unfold dU;rw[dz,bA,cR];show V.eM false (l.take k).length (eL (l.take k))=_;rw[bf];unfold eL;rw[dh];congr 1;rw[<- tk k (l.map _),bM]
  have e2:wA (l.gA.take 70)= .eM false (min 70 l.gA.length-0) (dU (nf l.gA) 0 ((min 70 l.gA.length-0)*2)):=by
   unfold dU;rw[dz,bA];show V.eM false (l.gA.take 70).length (nf (l.gA.take 70))=_;rw[bf];congr 1;unfold nf;rw[uc (f:=fun p:Int×Int=>[D.int .i64 p.1,D.int .i64 p.2]) (w:=2) (fun _=>rfl),tk]
  have e3:∀l:List Tl,rsV (l.take 3)= .eM false (min 3 l.length-0) (dU (iO l) 0 ((min 3 l.length-0)*258)):=fun l=>by
   unfold dU;rw[dz,bA];show V.eM false (l.take 3).length (iO (l.take 3))=_;rw[bf];congr 1;unfold iO;rw[uc (f:=Tl.d) Tl.Fk,tk]
  rw[bA,tk,<- e1,<- e1,<- e1,<- e2,<- e3,<- e3];rfl
 rw[hz];refine fc Tryz.func9 (eR (be _) (aas l (min 20 l.nm.length) (min 6 l.kids.length) (min 70 l.gA.length) (min 30 l.f.fh.length) (min 30 l.f.cu.length) (min 3 l.gx.length) (min 3 l.ig.length)) (dK (g0 ⟨?_,_,_,_,rfl,rfl⟩)))
 repeat' (first|exact all_nil|refine X ?_ ?_)
 all_goals first
  |exact mn _ _
  |exact bd _ _
  |exact eI _
  |exact pK _
  |exact iS _
set_option maxRecDepth 10000
theorem Hv(x:Int){n:Int}(h:0<n)(C:n<=1000000000000000000):0<=FB x n/\FB x n<n:=by
 unfold FB;have h3:=Int.lt_tmod_of_pos x h;have h4:=Int.tmod_lt_of_pos x h;rw[iz S S];exact wR S h
def zv(nx v:Int):Int:=FB v (if IntKind.i64.wrap (nx+1)>1 then IntKind.i64.wrap (nx+1)else 1)
def SZ:Nat->aa
 |0=>[65]
 |1=>[45,95,48,57,97,122]
 |2=>[48,49,50,51,52,53,54,55,56,57,97,98]
 |_=>[46]
def abM(v:Int):aa:=SZ (an v 3).toNat
def wF(la fi v:Int)(jA:eV):ag:=[R la,R fi,R v]++jA.cs
def TF(nx v:Int)(jA x:eV):Nat->eV
 |4=>{ x with id:=v }
 |5=>{ x with id:=zv nx v }
 |6=>{ x with kd:=an v 7 }
 |7=>{ x with nm:=x.nm++abM v }
 |8=>{ x with op:=v }
 |9=>{ x with md:=v }
 |10=>{ x with pl:={ x.pl with n:=an v 1 } }
 |11=>{ x with pl:={ x.pl with a:=v } }
 |12=>{ x with sp:=an v 3 }
 |13=>{ x with kids:=x.kids++[zv nx v] }
 |14=>{ x with kids:=x.kids.take (x.kids.length/2) }
 |15=>{ x with of:=zv nx v }
 |16=>{ x with f:={ x.f with vl:=an v 511 } }
 |17=>{ x with fi:={ x.fi with a:=IntKind.u8.wrap v } }
 |18=>{ x with gA:=x.gA.take (FB v (Int.ofNat (x.gA.length+1))).toNat }
 |19=>{ x with L:=!x.L }
 |20=>{ x with ig:=jA.gx }
 |21=>{ x with gx:=jA.gx }
 |22=>JQ jA
 |_=>x
def chR(d:Dc)(v:Int):Nat->Int
 |0=>v
 |1=>zv d.nx v
 |_=>d.root
def chN(d:Dc)(v:Int):Nat->Int
 |2=>v
 |3=>zv d.nx v
 |_=>d.nx
def spZ:Sp:=⟨[],[],[],⟨0,0,0,0,0,0,0,0,0⟩,⟨0,0,0,0,0,0,0,0,0⟩⟩
def chS(d:Dc):Nat->List Sp
 |23=>d.sp++[spZ]
 |_=>d.sp
def Xy(d:Dc)(la:Int):Nat:=(FB la (Int.ofNat d.ly.length)).toNat
def V4(fi:Int):Nat:=(FB fi 24).toNat
def chF(d:Dc)(la fi v:Int)(jA:eV):Dc:=⟨chS d (V4 fi),chR d v (V4 fi),chN d v (V4 fi),d.ly.set (Xy d la) (TF d.nx v jA (d.at (Xy d la)) (V4 fi))⟩
structure gdL(x:eV):Prop where
 nm:x.nm.length<=1000
 kids:x.kids.length<=1000
 y:zC x
 f:xX x.f
structure gdD(d:Dc):Prop where
 l0:0<d.ly.length
 l40:d.ly.length<=1000
 sp:d.sp.length<=1000
 s:∀s∈d.sp,Tu s
 y:∀x∈d.ly,gdL x
structure gdR(x:eV):Prop where
 gx:x.gx.length<=1000000
 f:xX x.f
theorem i0:mD 0:=by unfold mD;decide
theorem abO{f:FL}(h:iV f=true):xX f:=by
 have q:∀{x:Int},x=0->mD x:=fun h=>h▸i0;unfold iV at h;split at h
 . rename_i hk;unfold JY yS pX at h;simp only[ay,bZ,bu,aU,bY,bX,ct]at h;obtain⟨⟨h1,C⟩,_,h3,h4,_,_,h5,_⟩:=h;exact⟨by unfold mD;omega,by unfold mD;omega,by unfold mD;omega,q h5⟩
 split at h
 . rename_i _ hk;unfold yS pX at h;simp only[ay,aU,bY,bX,ct]at h;obtain⟨⟨h1,C⟩,⟨_,h3⟩,h4,_⟩:=h;exact⟨by unfold mD;omega,by unfold mD;omega,q h3,q h4⟩
 split at h
 . rename_i _ _ hk;unfold pX at h;simp only[ay,aU,bY,bX,ct]at h;obtain⟨_,⟨_,h3⟩,h4,_,h5⟩:=h;exact⟨by unfold mD;omega,q h5,q h3,q h4⟩
 split at h
 . rename_i _ _ _ hk;unfold pX at h;simp only[ay,aU,bY,bX,ct]at h;obtain⟨⟨_,h3⟩,h4,_,h5⟩:=h;exact⟨by unfold mD;omega,q h5,q h3,q h4⟩
 split at h
 . rename_i _ _ _ _ hk;unfold pX at h;simp only[ay,aU,bY,bX,ct]at h;obtain⟨⟨h1,C⟩,⟨_,h3⟩,_,_,h5⟩:=h;exact⟨by unfold mD;omega,q h5,q h3,by unfold mD;omega⟩
 split at h
 . rename_i _ _ _ _ _ hk;unfold pX at h;simp only[ay,aU,bY,bX,ct]at h;obtain⟨⟨h1,C,h6,h7⟩,⟨_,h3⟩,_⟩:=h;exact⟨by unfold mD;omega,by unfold mD;omega,q h3,by unfold mD;omega⟩
 . cases h
theorem ahZ{d:Dc}(h:jz d)(hi:Ey d):gdD d:=by
 obtain⟨k,hk,_⟩:=hi.grp;have U:=h.Tz;refine⟨S,by have:=hi.len;omega,S,hi.fs.s,fun x K=>⟨?_,by have:=hi.kids x K;omega,hi.fs.y x K,?_⟩⟩
 . have h1:=(Cb (h.f x K)).2.1;unfold qY at h1;simp only[ay,aU,gD]at h1;omega
 . by_cases h3:x.kd=3
   . have h1:=(Cb (h.f x K)).2.2.2.2.2.2;unfold bc at h1;rw[show(x.kd==3)=true by simpa using h3]at h1;simp only[cM,aP,dx]at h1;exact abO h1.2.1
   . exact h.bd x K h3
theorem ah0(v:Int):mD (an v 511):=by
 have:0<=an v 511/\an v 511<=511:=Bl v 511 fg;unfold mD;omega
theorem M7(v:Int):(abM v).length<=12:=by
 unfold abM SZ;split<;>decide
theorem M8{α:Type}{l:List α}{k m:Nat}(h:l.length<=m):(l.take k).length<=m:=by rw[bf];omega
theorem abP{nx v:Int}{jA x:eV}(K:gdL x)(hr:gdR jA)(k:Nat):zC (TF nx v jA x k)/\xX (TF nx v jA x k).f:=by
 obtain⟨h1,C,⟨y1,y2,y3,y4,y5,y6,y7⟩,hf⟩:=K;have hc:zC x/\xX x.f:=⟨⟨y1,y2,y3,y4,y5,y6,y7⟩,hf⟩;unfold TF;split
 case h_4=>exact⟨⟨by have:=M7 v;simp only[az];omega,y2,y3,y4,y5,y6,y7⟩,hf⟩
 case h_10=>exact⟨⟨y1,by simp only[az,bS];omega,y3,y4,y5,y6,y7⟩,hf⟩
 case h_11=>exact⟨⟨y1,M8 y2,y3,y4,y5,y6,y7⟩,hf⟩
 case h_13=>exact⟨⟨y1,y2,y3,y4,y5,y6,y7⟩,hf.k,hf.r,hf.dv,ah0 v⟩
 case h_15=>exact⟨⟨y1,y2,y3,y4,M8 y5,y6,y7⟩,hf⟩
 case h_17=>exact⟨⟨y1,y2,y3,y4,y5,y6,hr.gx⟩,hf⟩
 case h_18=>exact⟨⟨y1,y2,y3,y4,y5,hr.gx,y7⟩,hf⟩
 case h_19=>
  have t:∀{α:Type} (k m:Nat) (x:List α),k<=m->(x.take k).length<=m:=fun k m x h=>by rw[bf];omega
  exact⟨⟨t 20 _ _ fg,t 6 _ _ fg,t 30 _ _ fg,t 30 _ _ fg,t 70 _ _ fg,t 3 _ _ fg,t 3 _ _ fg⟩,hr.f.k,hr.f.r,hr.f.dv,hr.f.vl⟩
 all_goals exact⟨⟨y1,y2,y3,y4,y5,y6,y7⟩,hf⟩
theorem V5{α:Type}{l:List α}{n:Nat}{y x:α}(h:x∈l.set n y):x=y\/x∈l:=by
 rcases List.mem_or_eq_of_mem_set h with h|h
 . exact .inr h
 . exact .inl h
theorem Xz{d:Dc}(hd:gdD d)(la:Int):Xy d la<d.ly.length:=by
 unfold Xy;have h0:=hd.l0;have h1:=hd.l40;have:=Hv la (n:=Int.ofNat d.ly.length) (by simp only[gD];omega) (by simp only[gD];omega);simp only[gD]at this ⊢;omega
theorem XA{d:Dc}(hd:gdD d)(la fi v:Int){jA:eV}(hr:gdR jA):B9 (chF d la fi v jA)/\∀x∈(chF d la fi v jA).ly,xX x.f:=by
 have hc:∀x∈(chF d la fi v jA).ly,zC x/\xX x.f:=fun x K=>by
  rcases V5 K with rfl|K
  . exact abP (hd.y _ (vw (Xz hd la))) hr _
  . exact⟨(hd.y x K).y,(hd.y x K).f⟩
 refine⟨⟨⟨?_,fun x K=>(hc x K).1.kids⟩,fun s hs=>?_,fun x K=>(hc x K).1⟩,fun x K=>(hc x K).2⟩
 . show(d.ly.set _ _).length<=_;have:=hd.l40;rw[List.length_set];omega
 . change s∈chS d (V4 fi)at hs;unfold chS at hs;split at hs
   . rcases bj.1 hs with h|h
     . exact hd.s s h
     . rw[aI]at h;subst h;exact⟨aR _,aR _,aR _⟩
   . exact hd.s s hs
theorem XB{d:Dc}(hd:gdD d):B9 d/\∀x∈d.ly,xX x.f:=⟨⟨⟨by have:=hd.l40;omega,fun x K=>(hd.y x K).y.kids⟩,hd.s,fun x K=>(hd.y x K).y⟩,fun x K=>(hd.y x K).f⟩
set_option maxRecDepth 10000
noncomputable abbrev V6:Code:=dQ Tryz.f11
noncomputable abbrev Hw:Code:=dO (dH 6 V6)
noncomputable def rsW(dF:gG):gG:=jC 12 (fun args h n=>match args with
 | [.int .i64 x,.int .i64 m]=>some ([m≠0],.int .i64 (FB x m),h,n)
 |_=>none) dF
section
variable(cc:ag)(n m:Nat)
def sC0(q:Int)(d:Dc)(m:Nat):St:=fI [(2,.ptr (some (0,0))),(3,.ptr (some (2,0))),(4,.ptr (some (3,0))),(5,R q)] (hL [(0,.cells [.eM false d.sp.length (lj d.sp),R d.root,R d.nx,.fk (some (1,0)) m m 31]),(1,.deep (fR d.ly)),(2,.cells cc),(3,.cells Li)]) 4
def Hx(v w:Int)(m:Nat)(ds:List Eng.D)(sp:List Sp)(root nx:Int)(y:ag)(r:List (Nat×V)):St:=fI ([(2,.ptr (some (0,0))),(3,.ptr (some (2,0))),(4,.ptr (some (3,0))),(5,J n),(6,.ptr (some (4,0))),(7,R v),(8,R w)]++r) (hL [(0,.cells [.eM false sp.length (lj sp),R root,R nx,.fk (some (1,0)) m m 31]),(1,.deep ds),(2,.cells cc),(3,.cells Li),(4,.cells y)]) 5
def W9(v w:Int)(m:Nat)(ds:List Eng.D)(sp:List Sp)(root nx:Int)(y:ag)(o:List Eng.D):St:=fI [(2,.ptr (some (0,0))),(3,.ptr (some (2,0))),(4,.ptr (some (3,0))),(5,J n),(6,.ptr (some (4,0))),(7,R v),(8,R w)] (hL [(0,.cells [.eM false sp.length (lj sp),R root,R nx,.fk (some (1,0)) m m 31]),(1,.deep ds),(2,.cells cc),(3,.cells Li),(4,.cells y),(5,.deep o)]) 6
def sC6(v w:Int)(m:Nat)(ds:List Eng.D)(k:Nat)(o:List Eng.D)(root nx:Int)(y:ag):St:=fI [(2,.ptr (some (0,0))),(3,.ptr (some (3,0))),(4,.ptr (some (4,0))),(5,J n),(6,.ptr (some (5,0))),(7,R v),(8,R w)] (hL [(0,.cells [.fk (some (1,0)) k k 21,R root,R nx,.fk (some (2,0)) m m 31]),(1,.deep o),(2,.deep ds),(3,.cells cc),(4,.cells Li),(5,.cells y)]) 6
theorem at8(d:Dc)(la fi v:Int)(jA:eV):H (M (rsW ew) []) [] 0 Tryz.f11 [2,3,4,5] (ek 3 V6) (dI [d.v,.agg (wF la fi v jA)] .nil 0)
  [([],[nK d.ly,fM (0+d.ly.length) 31 328=true,Int.ofNat (0+d.ly.length)≠(0:Int)],eC (sC0 (wF la fi v jA) (FB la (Int.ofNat (0+d.ly.length))) d (0+d.ly.length)))]:=G.Y
theorem at9(d:Dc)(la fi v:Int)(jA:eV)(n m:Nat)(x:eV):H (M (rsW ew) []) [(24,.dL x.v)] 0 Tryz.f11 [2,3,4,5,6,7,8] (ek 3 (dH 3 V6)) (sC0 (wF la fi v jA) (Int.ofNat n) d m)
  [([],[fT n m,0+n*31+31<=(fR d.ly).length,V.agg (D.gk (dU (fR d.ly) (0+n*31) 31))=x.v,(if IntKind.i64.wrap (d.nx+(1:Int))>1 then IntKind.i64.wrap (d.nx+(1:Int))else 1)≠0],eC (Hx (wF la fi v jA) n v (zv d.nx v) m (fR d.ly) d.sp d.root d.nx x.cs []))]:=G.Y
theorem aua(d:Dc)(la fi v:Int)(jA:eV)(n m:Nat)(x:eV)(ds:List Eng.D):H (M (rsW ew) []) [] 0 Tryz.f11 [2,3,4,5,6,7,8,35] (dO Hw) (Hx (wF la fi v jA) n v (zv d.nx v) m ds d.sp d.root d.nx x.cs [])
  [([],[(24:Int)≠0],eC (Hx (wF la fi v jA) n v (zv d.nx v) m ds d.sp d.root d.nx x.cs [(35,R (FB fi 24))]))]:=G.Y
theorem aub(d:Dc)(la fi v:Int)(jA:eV)(n m:Nat)(x:eV)(ds:List Eng.D)(k:Nat)(hk:k∈[0,1,2,3,4,5,6,8,9,10,11,12,15,16,17,19,20,21]):H (M ew []) [] 0 Tryz.f11 [2,3,4,5,6,7,8] (eB Hw) (Hx (wF la fi v jA) n v (zv d.nx v) m ds d.sp d.root d.nx x.cs [(35,R (Int.ofNat k))])
  [([],[],eC (Hx (wF la fi v jA) n v (zv d.nx v) m ds d.sp (chR d v k) (chN d v k) (TF d.nx v jA x k).cs []))]:=by
 simp only[aA,aH,bq]at hk;rcases hk with rfl|rfl|rfl|rfl|rfl|rfl|rfl|rfl|rfl|rfl|rfl|rfl|rfl|rfl|rfl|rfl|rfl|rfl
 all_goals exact G.Y
theorem auc(d:Dc)(la fi v:Int)(jA:eV)(n m:Nat)(x:eV)(ds:List Eng.D)(j:Nat)(hj:j<4):H (M ew []) [(79,.dL (J j))] 0 Tryz.f11 [2,3,4,5,6,7,8] (eB Hw) (Hx (wF la fi v jA) n v (zv d.nx v) m ds d.sp d.root d.nx x.cs [(35,R 7)])
  [([],[V.int .i64 (an v 3)=J j,x.nm.length+(SZ j).length<=9223372036854775807],.to .normal (Hx (wF la fi v jA) n v (zv d.nx v) m ds d.sp d.root d.nx { x with nm:=x.nm++SZ j }.cs []))]:=by
 obtain rfl|rfl|rfl|rfl:j=0\/j=1\/j=2\/j=3:=by omega
 all_goals exact G.Y
theorem ah1(d:Dc)(la fi v:Int)(jA:eV)(n m:Nat)(x:eV)(ds:List Eng.D):H (M ew []) [] 0 Tryz.f11 [2,3,4,5,6,7,8] (eB Hw) (Hx (wF la fi v jA) n v (zv d.nx v) m ds d.sp d.root d.nx x.cs [(35,R 13)])
  [([],[jo x.kids,fM (0+x.kids.length) 1 8=true,0+(0+x.kids.length)*1<=([]++eL x.kids).length,0<1,fM (0+x.kids.length+1) 1 8=true],eC (W9 (wF la fi v jA) n v (zv d.nx v) m ds d.sp d.root d.nx (x.cs.set 15 (.fk (some (5,0)) (0+x.kids.length+1) (0+x.kids.length+1) 1)) (List.take ((0+x.kids.length)*1) (List.drop 0 ([]++eL x.kids))++[.int .i64 (zv d.nx v)])))]:=G.Y
theorem ah2(d:Dc)(la fi v:Int)(jA:eV)(n m:Nat)(x:eV)(ds:List Eng.D)(j:Nat):H (M ew []) [(124,.dL (J j))] 0 Tryz.f11 [2,3,4,5,6,7,8] (eB Hw) (Hx (wF la fi v jA) n v (zv d.nx v) m ds d.sp d.root d.nx x.cs [(35,R 14)])
  [([],[(2:Int)≠0,V.int .i64 (IntKind.i64.wrap ((Int.ofNat x.kids.length).tdiv 2))=J j,jo x.kids,(0:Int)<=Int.ofNat j/\Int.ofNat j<=Int.ofNat x.kids.length],eC (Hx (wF la fi v jA) n v (zv d.nx v) m ds d.sp d.root d.nx (x.cs.set 15 (.eM false (j-0) (dU (eL x.kids) 0 ((j-0)*1)))) []))]:=G.Y
theorem ah3(d:Dc)(la fi v:Int)(jA:eV)(n m:Nat)(x:eV)(ds:List Eng.D)(j:Nat):H (M (fa 12 [R v,J (x.gA.length+1)] (J j) ew) []) [(152,.dL (J (x.gA.length+1)))] 0 Tryz.f11 [2,3,4,5,6,7,8] (eB Hw) (Hx (wF la fi v jA) n v (zv d.nx v) m ds d.sp d.root d.nx x.cs [(35,R 18)])
  [([],[V.int .i64 (IntKind.i64.wrap (Int.ofNat x.gA.length+1))=J (x.gA.length+1),V.jj [R v,J (x.gA.length+1)]=[R v,J (x.gA.length+1)],(nf x.gA).length=x.gA.length*2,(0:Int)<=Int.ofNat j/\Int.ofNat j<=Int.ofNat x.gA.length,(dU (nf x.gA) 0 ((j-0)*2)).length=(j-0)*2,fM (0+(j-0)) 2 16=true],eC (W9 (wF la fi v jA) n v (zv d.nx v) m ds d.sp d.root d.nx (x.cs.set 27 (.fk (some (5,0)) (0+(j-0)) (0+(j-0)) 2)) ([]++dU (nf x.gA) 0 ((j-0)*2))))]:=G.Y
theorem ah4(d:Dc)(la fi v:Int)(jA:eV)(n m:Nat)(x:eV)(ds:List Eng.D)(f:eV):H (M (fa 9 [jA.v] f.v ew) []) [] 0 Tryz.f11 [2,3,4,5,6,7,8] (eB Hw) (Hx (wF la fi v jA) n v (zv d.nx v) m ds d.sp d.root d.nx x.cs [(35,R 22)])
  [([],[V.jj [jA.v]=[jA.v]],eC (Hx (wF la fi v jA) n v (zv d.nx v) m ds d.sp d.root d.nx f.cs []))]:=G.Y
theorem ah5(d:Dc)(la fi v:Int)(jA:eV)(n m:Nat)(x:eV)(ds:List Eng.D):H (M ew []) [] 0 Tryz.f11 [2,3,4,5,6,7,8] (eB Hw) (Hx (wF la fi v jA) n v (zv d.nx v) m ds d.sp d.root d.nx x.cs [(35,R 23)])
  [([],[(lj d.sp).length=d.sp.length*21,fM (0+d.sp.length) 21 216=true,0+(0+d.sp.length)*21<=([]++lj d.sp).length,0<1,fM (0+d.sp.length+1) 21 216=true],eC (sC6 (wF la fi v jA) n v (zv d.nx v) m ds (0+d.sp.length+1) (List.take ((0+d.sp.length)*21) (List.drop 0 ([]++lj d.sp))++spZ.ds) d.root d.nx x.cs))]:=G.Y
theorem aud(v w root nx:Int)(sp:List Sp)(y:eV)(ds:List Eng.D):H (M ew []) [] 0 Tryz.f11 [] (dH 7 V6) (Hx cc n v w m ds sp root nx y.cs [])
  [([],[fT n m,0+n*31+31<=ds.length],.ret (.agg [.eM false sp.length (lj sp),R root,R nx,.fk (some (0,0)) m m 31]) (hL [(0,.deep (qL ds (0+n*31) y.ds))]) 1)]:=G.Y
end
set_option maxRecDepth 10000
theorem LY{dF:gG}(hS:fo ak dF):fo ak (rsW dF):=by
 refine fq ⟨aE dJ,fun args h' n hc v' C n2 e hA E w dZ ra g Ow _=>?_⟩ hS;simp only at e;split at e
 case h_2=>cases e
 rename_i x m;simp only[aq,aB]at e;obtain⟨rfl,rfl,rfl,rfl⟩:=e;exact SR x m (hA _ (by simp)) E _ _ w dZ ra g Ow
theorem V7{l:List eV}{m:Nat}(h:m<l.length)(y:eV):qL (fR l) (0+m*31) y.ds=fR (l.set m y):=by
 have e:l=l.take m++(l.getD m gM::l.drop (m+1)):=by
  rw[ax,au h,cA,<- bC h,dj]
 generalize l.getD m gM=x at e;have hl:(l.take m).length=m:=by rw[bf];omega
 generalize l.take m=a at e hl;generalize l.drop (m+1)=b at e;subst e;have e1:(a++x::b).set m y=a++y::b:=by rw[List.set_append_right _ _ S];simp[hl]
 have e2:∀y:eV,fR (a++y::b)=fR a++(y.ds++fR b):=fun y=>by rw[GU];rfl
 rw[e1,e2,e2];have hA:(fR a).length=0+m*31:=by rw[fS,hl,bI]
 generalize fR a=hc at hA ⊢;generalize fR b=aj;unfold qL;have e3:List.take (0+m*31) (hc++(x.ds++aj))=hc:=by rw[<- hA,List.take_left'];rfl
 have e4:List.drop (0+m*31+y.ds.length) (hc++(x.ds++aj))=aj:=by
  rw[<- hA,List.drop_append,List.drop_eq_nil_of_le S,bG,Nat.add_sub_cancel_left,Ax y,<- Ax x,List.drop_left'];rfl
 rw[e3,e4]
theorem S2{l:List Int}{j:Nat}(h:j<=l.length):V.eM false (j-0) (dU (eL l) 0 ((j-0)*1))=fD (l.take j):=by
 unfold dU;rw[dz,bA,cR];show _=V.eM false (l.take j).length (eL (l.take j));rw[bf,Nat.min_eq_left h];unfold eL;rw[dh]
theorem S3{l:List (Int×Int)}{j:Nat}(h:j<=l.length):V.eM false (0+(j-0)) ([]++dU (nf l) 0 ((j-0)*2))=wA (l.take j):=by
 unfold dU;rw[dz,bA,bI,bG];show _=V.eM false (l.take j).length (nf (l.take j));rw[bf,Nat.min_eq_left h];unfold nf;rw[uc (f:=fun p:Int×Int=>[Eng.D.int .i64 p.1,Eng.D.int .i64 p.2]) (w:=2) (fun _=>rfl)]
theorem S4(l:List Int)(k:Int):V.eM false (0+l.length+1) (List.take ((0+l.length)*1) (List.drop 0 ([]++eL l))++[.int .i64 k])=fD (l++[k]):=by
 rw[bI,cR,bA,bG,cr (by rw[eI];omega)];show _=V.eM false (l++[k]).length (eL (l++[k]));rw[az];unfold eL;rw[bL];rfl
theorem S5(l:List Sp)(s:Sp):0+l.length+1=(l++[s]).length/\List.take ((0+l.length)*21) (List.drop 0 ([]++lj l))++s.ds=lj (l++[s]):=by
 rw[bI,bA,bG,cr (by rw[rq];omega)];refine⟨by rw[az];rfl,?_⟩;unfold lj;rw[bL,List.flatten_append];congr 1
abbrev lvC:List Nat:=[2,3,4,5,6,7,8]
theorem chK(d:Dc)(la fi v:Int)(jA:eV)(n m:Nat)(x:eV)(ds:List Eng.D)(K:gdL x)(D0:d.sp.length<=1000)(k:Nat)(hk:k<24){hx:Exit->St->Prop}
  (hK:∀T,eJ ak 0 Tryz.f11.ntmps T (Hx (wF la fi v jA) n v (zv d.nx v) m ds (chS d k) (chR d v k) (chN d v k) (TF d.nx v jA x k).cs [])->hx .normal T):
  TG ak 0 Tryz.f11.ntmps (eB Hw) (Hx (wF la fi v jA) n v (zv d.nx v) m ds d.sp d.root d.nx x.cs [(35,R (Int.ofNat k))]) hx:=by
 have hkl:=K.kids;have wJ:=K.y.gA;by_cases hs:k∈[0,1,2,3,4,5,6,8,9,10,11,12,15,16,17,19,20,21]
 . have e:chS d k=d.sp:=by
    unfold chS;split
    . simp at hs
    . rfl
   rw[e]at hK;exact gw (be _) eP (aub d la fi v jA n m x ds k hs) (dK (g0 ⟨all_nil,fun T eu=>hK T (eJ.norm eu)⟩))
 simp only[aA,aH,bq]at hs;obtain rfl|rfl|rfl|rfl|rfl|rfl:k=7\/k=13\/k=14\/k=18\/k=22\/k=23:=by omega
 . have ha:0<=an v 3/\an v 3<=3:=Bl v 3 fg;have ht:=M7 v;have hn:=K.nm;refine gw (be _) eP (auc d la fi v jA n m x ds (an v 3).toNat S) (dK (g0 ⟨X (aG (V.int .i64) (cZ ha.1).symm) (eO ?_),fun T eu=>hK T (eJ.norm eu)⟩));change (SZ (an v 3).toNat).length<=12 at ht;omega
 . refine gw (be _) eP (ah1 d la fi v jA n m x ds) (dK (g0 ⟨X (eI _) (X (GI S) (X (by rw[bG,eI];omega) (X Nat.zero_lt_one (eO (GI S))))),fun T eu=>hK T ?_⟩));have g:=(eJ.norm (P:=ak) (n0:=Tryz.f11.ntmps) eu).trans (eJ.Fl [5] lvC (dF:=Hx (wF la fi v jA) n v (zv d.nx v) m ds d.sp d.root d.nx (x.cs.set 15 (.eM false (0+x.kids.length+1) (List.take ((0+x.kids.length)*1) (List.drop 0 ([]++eL x.kids))++[.int .i64 (zv d.nx v)]))) []) (hc:=[(List.take ((0+x.kids.length)*1) (List.drop 0 ([]++eL x.kids))++[Eng.D.int .i64 (zv d.nx v)]).length=(0+x.kids.length+1)*1]) dJ
    (eO (by rw[az,bf,bA,bG,eI,bS];omega)))
   rw[S4]at g;exact g
 . have hj:x.kids.length/2<=x.kids.length:=Nat.div_le_self _ _;have e:(Int.ofNat x.kids.length).tdiv 2=Int.ofNat (x.kids.length/2):=rfl;refine gw (be _) eP (ah2 d la fi v jA n m x ds (x.kids.length/2)) (dK (g0 ⟨X fg (X (aG (V.int .i64) (by rw[e];exact iz (by simp only[gD];omega) (by simp only[gD];omega))) (X (eI _) (eO ⟨bJ _,by simp only[gD];omega⟩))),fun T eu=>hK T ?_⟩));have g:=eJ.norm (P:=ak) (n0:=Tryz.f11.ntmps) eu;rw[S2 hj]at g;exact g
 . have hr:=Hv v (n:=Int.ofNat (x.gA.length+1)) (by simp only[gD];omega) (by simp only[gD];omega);have hR:=SR v (Int.ofNat (x.gA.length+1)) (by simp only[gD];omega);have hj:FB v (Int.ofNat (x.gA.length+1))=Int.ofNat (FB v (Int.ofNat (x.gA.length+1))).toNat:=(cZ hr.1).symm;have hY:TF d.nx v jA x 18={ x with gA:=x.gA.take (FB v (Int.ofNat (x.gA.length+1))).toNat }:=rfl;rw[hY]at hK;have kZ:(FB v (Int.ofNat (x.gA.length+1))).toNat<=x.gA.length:=by simp only[gD]at hr ⊢;omega
   rw[hj]at hR;clear hr hY hj;generalize (FB v (Int.ofNat (x.gA.length+1))).toNat=j at *;have A:(dU (nf x.gA) 0 ((j-0)*2)).length=(j-0)*2:=by
    unfold dU;rw[bf,dA,pK];omega
   refine gw (ff hR (be _)) eP (ah3 d la fi v jA n m x ds j) (dK (g0 ⟨X (gV S) (X rfl (X (pK _) (X ⟨bJ _,by simp only[gD];omega⟩ (X A (eO (aW ⟨S,S⟩)))))),fun T eu=>hK T ?_⟩));have g:=(eJ.norm (P:=ak) (n0:=Tryz.f11.ntmps) eu).trans (eJ.Fl [5] lvC (dF:=Hx (wF la fi v jA) n v (zv d.nx v) m ds d.sp d.root d.nx (x.cs.set 27 (.eM false (0+(j-0)) ([]++dU (nf x.gA) 0 ((j-0)*2)))) []) (hc:=[([]++dU (nf x.gA) 0 ((j-0)*2)).length=(0+(j-0))*2]) dJ (eO (by rw[bG,A];omega)));rw[S3 kZ]at g;exact g
 . exact gw (ff (ahW jA) (be _)) eP (ah4 d la fi v jA n m x ds (JQ jA)) (dK (g0 ⟨eO rfl,fun T eu=>hK T (eJ.norm eu)⟩))
 . obtain⟨e1,e2⟩:=S5 d.sp spZ;refine gw (be _) eP (ah5 d la fi v jA n m x ds) (dK (g0 ⟨X (rq _) (X (aW ⟨S,S⟩) (X (by rw[bG,rq];omega) (X Nat.zero_lt_one (eO (aW ⟨S,S⟩))))),fun T eu=>hK T ?_⟩));rw[e1,e2]at eu;exact(eJ.norm eu).trans (eJ.Fl [1] lvC (hc:=[(lj (d.sp++[spZ])).length=(d.sp++[spZ]).length*21]) dJ (eO (rq _)))
theorem S6{d:Dc}(hd:gdD d)(la fi v:Int)(jA:eV):ee ak 11 [d.v,.agg (wF la fi v jA)] (chF d la fi v jA).v:=by
 have h0:=hd.l0;have h1:=hd.l40;have hn:=Xz hd la;have r1:=Hv la (n:=Int.ofNat d.ly.length) (by simp only[gD];omega) (by simp only[gD];omega);have r2:=Hv fi (n:=24) fg fg;have e1:FB la (Int.ofNat d.ly.length)=Int.ofNat (Xy d la):=(cZ r1.1).symm;have e2:FB fi 24=Int.ofNat (V4 fi):=(cZ r2.1).symm;have hk:V4 fi<24:=by unfold V4;omega
 have K:=hd.y _ (vw hn);have hL:V.eo (dU (fR d.ly) (Xy d la*31) 31)=V.eo (d.at (Xy d la)).ds:=ik hn;have jJ:(chF d la fi v jA).ly.length=d.ly.length:=List.length_set;refine mz Tryz.func11 (fN 3 (LY (be _)) (at8 d la fi v jA) (X (fS _) (X (aW ⟨S,S⟩) (eO (by simp only[gD];omega)))) ?_);rw[bI,e1];unfold chF at jJ ⊢;generalize Xy d la=n at *;generalize V4 fi=k at *;generalize d.at n=x at *;refine fN 3 (LY (be _)) (at9 d la fi v jA n d.ly.length x) (X (iI hn) (X (by rw[fS];omega) (X ?_ (eO ?_)))) ?_
 . rw[bI];injection hL with hL;rw[hL];rfl
 . split<;>omega
 refine dY dJ (dY dJ (gw (LY (be _)) eP (aua d la fi v jA n d.ly.length x (fR d.ly)) (dK (g0 ⟨eO fg,fun T eu=>?_⟩))));simp only[andThen];rw[e2]at eu;refine gj eu (chK d la fi v jA n d.ly.length x (fR d.ly) K hd.sp k hk fun T eu=>?_);simp only[andThen];refine eu _ _ (eR (be _) (aud _ n d.ly.length v _ _ _ _ (TF d.nx v jA x k) (fR d.ly)) (dK (g0 ⟨X (iI hn) (eO (by rw[fS];omega)),_,_,_,rfl,?_⟩)));rw[V7 hn];change (d.ly.set n (TF d.nx v jA x k)).length=_ at jJ;generalize d.ly.set n (TF d.nx v jA x k)=l at *;rw[<- jJ];exact uI.Am (v0:=Dc.v ⟨chS d k,chR d v k,chN d v k,l⟩) [0] (hc:=[(fR l).length=l.length*31]) dJ (eO (fS _)) dJ dJ
set_option maxRecDepth 10000
noncomputable abbrev ON:Code:=dQ Tryz.f6
noncomputable abbrev gQ1:Code:=dO (dH 5 ON)
noncomputable abbrev bQ1:Code:=dP (dP (eB gQ1))
noncomputable abbrev iQ1:Code:=dP (dO (dH 1 bQ1))
section
variable(id:Int)(b:Bool)
noncomputable abbrev bQ2:Code:=dP (dP (dH 2 iQ1))
noncomputable abbrev V8:Code:=dP (dO (dH 1 bQ2))
def dX(d e:Dc):Dc:=if b=true then e else d
def iB:Nat:=if b=true then 1 else 0
def uJ(d e:Dc)(i:Nat)(r:List (Nat×V))(q:af)(n:Nat):St:=fI ([(2,R id),(7,.bool true),(9,.ptr (some (0,0))),(10,J i)]++r) (hL ([(0,.cells (d.cs++e.cs))]++q)) n
noncomputable def u2W(d:Dc)(dF:gG):gG:=jC 17 (fun args h n=>match args with
 | [x,.int .i64 a,.int .i64 b]=>some ([x=d.v],.bool (wU d a b),h,n)
 |_=>none) (jC 28 (fun args h n=>match args with
 | [x,.int .i64 a,.int .i64 b]=>some ([x=d.v],.bool (wU d a b),h,n)
 |_=>none) dF)
theorem auh(xs:List Int)(la fi v id:Int)(jA f:eV)(d e:Dc):H (M (fa 9 [jA.v] f.v (fa 10 [fD xs] d.v (fa 11 [d.v,.agg (wF la fi v f)] e.v (Mj mTz)))) []) [] 0 Tryz.f6 [2,7,9] (ek 5 ON) (dI [fD xs,.agg (wF la fi v jA),R id] .nil 0)
  [([],[V.jj [jA.v]=[jA.v],V.jj [fD xs]=[fD xs],V.jj [d.v,.agg (wF la fi v f)]=[d.v,.agg (wF la fi v f)]],eC (fI [(2,R id),(7,.bool true),(9,.ptr (some (0,0)))] (hL [(0,.cells (d.cs++e.cs))]) 1))]:=G.Y
theorem aui(d e:Dc):H (M ew []) [] 0 Tryz.f6 [2,7,9,10] (dO gQ1) (fI [(2,R id),(7,.bool true),(9,.ptr (some (0,0)))] (hL [(0,.cells (d.cs++e.cs))]) 1)
  [([],[],eC (uJ id d e 0 [] [] 1))]:=G.Y
theorem auj(d e:Dc)(b:Bool):H (M ew []) [] 0 Tryz.f6 [2,7,9,10] (ek 1 bQ1) (uJ id d e (iB b) [] [] 1)
  [([],[],eC (uJ id d e (iB b) [] [] 1))]:=by cases b<;>exact G.Y
theorem auk(d e:Dc):H (M ew []) [] 0 Tryz.f6 [2,7,9,10] (ek 1 bQ1) (uJ id d e 2 [] [] 1)
  [([],[],.to (.exit 0) (uJ id d e 2 [] [] 1))]:=G.Y
theorem aul(d e:Dc)(b:Bool)(hm:List Int):H (M (fa 18 [(dX b d e).v] (fD hm) (fa 22 [(dX b d e).v] (fD hm) (fa 21 [fD hm,fD hm] (.bool true) ew))) []) [] 0 Tryz.f6 [2,7,9,10] (ek 1 iQ1) (uJ id d e (iB b) [] [] 1)
  [([],[(0:Int)<=Int.ofNat (iB b)/\Int.ofNat (iB b)<2,V.jj [(dX b d e).v]=[(dX b d e).v],(0:Int)<=Int.ofNat (iB b)/\Int.ofNat (iB b)<2,V.jj [(dX b d e).v]=[(dX b d e).v],V.jj [fD hm,fD hm]=[fD hm,fD hm]],eC (uJ id d e (iB b) [] [] 1))]:=by cases b<;>exact G.Y
theorem aum(d e:Dc)(b:Bool):H (M ew []) [] 0 Tryz.f6 [2,7,9,10,11] (ek 1 (dH 1 iQ1)) (uJ id d e (iB b) [] [] 1)
  [([],[],eC (uJ id d e (iB b) [(11,R (-1))] [] 1))]:=by cases b<;>exact G.Y
theorem aun(d e:Dc)(b:Bool)(k:Int):H (M ew []) [(48,.split)] 0 Tryz.f6 [2,7,9,10,11] (ek 1 bQ2) (uJ id d e (iB b) [(11,R k)] [] 1)
  (fV (decide (k<=(12:Int))) ([],eC (uJ id d e (iB b) [(11,R k)] [] 1)) ([],.to (.exit 2) (uJ id d e (iB b) [(11,R k)] [] 1))):=by cases b<;>exact G.Y
theorem auo(d e:Dc)(b:Bool)(k:Int):H (M ew []) [(53,.split)] 0 Tryz.f6 [2,7,9,10,11,12] (ek 2 V8) (uJ id d e (iB b) [(11,R k)] [] 1)
  (fV (decide (k<(0:Int))) ([],eC (uJ id d e (iB b) [(11,R k),(12,R id)] [] 1)) ([],eC (uJ id d e (iB b) [(11,R k),(12,R k)] [] 1))):=by cases b<;>exact G.Y
theorem ah6(d e:Dc)(b:Bool)(k n a:Int)(is:Bool)(y:eV)(p:Int×Int×Bool):H (M (fa 23 [(dX b d e).v,R n] (.gK [y.v,.bool is]) (fa 24 [(dX b d e).v,R n] (R a) (fa 20 [(dX b d e).v,R n] (.gK [R p.1,R p.2.1,.bool p.2.2]) (fa 25 [(dX b d e).v,R n] (.agg [R p.1,R p.2.1,.bool p.2.2]) ew)))) []) [] 0 Tryz.f6 [2,7,9,10,11,12,13,14,15,16,17,18,19] (ek 4 (dH 2 V8)) (uJ id d e (iB b) [(11,R k),(12,R n)] [] 1)
  [([],[(0:Int)<=Int.ofNat (iB b)/\Int.ofNat (iB b)<2,V.jj [(dX b d e).v,R n]=[(dX b d e).v,R n],(0:Int)<=Int.ofNat (iB b)/\Int.ofNat (iB b)<2,V.jj [(dX b d e).v,R n]=[(dX b d e).v,R n],(0:Int)<=Int.ofNat (iB b)/\Int.ofNat (iB b)<2,V.jj [(dX b d e).v,R n]=[(dX b d e).v,R n],(0:Int)<=Int.ofNat (iB b)/\Int.ofNat (iB b)<2,V.jj [(dX b d e).v,R n]=[(dX b d e).v,R n]],eC (uJ id d e (iB b) [(11,R k),(12,R n),(13,.ptr (some (1,0))),(14,.bool is),(15,R a),(16,R p.1),(17,R p.2.1),(18,.bool p.2.2),(19,.ptr (some (2,0)))] [(1,.cells y.cs),(2,.cells [R p.1,R p.2.1,.bool p.2.2])] 3))]:=by cases b<;>exact G.Y
theorem ah7(d e:Dc)(b:Bool)(k n a dp:Int)(is:Bool)(y:eV)(p:Int×Int×Bool):H (M (fa 19 [(dX b d e).v,R n] (R dp) (fa 26 [(dX b d e).v,R n] (R dp) ew)) []) [(85,.dL (.bool false)),(90,.dL (.bool false)),(96,.dL (.bool false)),(102,.dL (.bool false)),(115,.dL (.bool false))] 0 Tryz.f6 [2,7,9,10,11,12,13,14,15] (ek 1 (dH 6 V8)) (uJ id d e (iB b) [(11,R k),(12,R n),(13,.ptr (some (1,0))),(14,.bool is),(15,R a),(16,R p.1),(17,R p.2.1),(18,.bool p.2.2),(19,.ptr (some (2,0)))] [(1,.cells y.cs),(2,.cells [R p.1,R p.2.1,.bool p.2.2])] 3)
  [([],[kP (is !=decide (a>=(0:Int))),kP (p.1 !=p.1),kP (p.2.1 !=p.2.1),kP (p.2.2 !=p.2.2),(0:Int)<=Int.ofNat (iB b)/\Int.ofNat (iB b)<2,V.jj [(dX b d e).v,R n]=[(dX b d e).v,R n],(0:Int)<=Int.ofNat (iB b)/\Int.ofNat (iB b)<2,V.jj [(dX b d e).v,R n]=[(dX b d e).v,R n],kP (dp !=dp)],eC (uJ id d e (iB b) [(11,R k),(12,R n),(13,.ptr (some (1,0))),(14,.bool is),(15,R a)] [(1,.cells y.cs)] 2))]:=by cases b<;>exact G.Y
theorem aup(d e:Dc)(b:Bool)(k n:Int)(a:Nat)(y:eV):H (M (fa 27 [y.v,y.v] (.bool true) ew) []) [(125,.dL (.eo y.ds))] 0 Tryz.f6 [2,7,9,10,11,12] (ek 1 (dH 7 V8)) (uJ id d e (iB b) [(11,R k),(12,R n),(13,.ptr (some (1,0))),(14,.bool true),(15,J a)] [(1,.cells y.cs)] 2)
  [([],[(0:Int)<=Int.ofNat (iB b)/\Int.ofNat (iB b)<2,(0:Int)<=Int.ofNat a/\Int.ofNat a<Int.ofNat (dX b d e).ly.length,(fR (dX b d e).ly).length=(dX b d e).ly.length*31,gv (fR (dX b d e).ly) a 31 y.ds,V.jj [y.v,y.v]=[y.v,y.v]],eC (uJ id d e (iB b) [(11,R k),(12,R n)] [] 1))]:=by cases b<;>exact G.Y
theorem auq(d e:Dc)(b:Bool)(k n a:Int):H (M (fa 27 [BN.v,BN.v] (.bool true) ew) []) [] 0 Tryz.f6 [2,7,9,10,11,12] (ek 1 (dH 7 V8)) (uJ id d e (iB b) [(11,R k),(12,R n),(13,.ptr (some (1,0))),(14,.bool false),(15,R a)] [(1,.cells BN.cs)] 2)
  [([],[V.jj [BN.v,.agg (z31 0 0 [])]=[BN.v,BN.v]],eC (uJ id d e (iB b) [(11,R k),(12,R n)] [] 1))]:=by cases b<;>exact G.Y
theorem aur(d e:Dc)(b:Bool)(k n m:Int):H (M (fa 12 [R id,R 12] (R m) (u2W (dX b d e) ew)) []) [(154,.dL (.bool false)),(168,.dL (.bool false))] 0 Tryz.f6 [2,7,9,10,11] (dH 8 V8) (uJ id d e (iB b) [(11,R k),(12,R n)] [] 1)
  [([],[V.jj [R id,R 12]=[R id,R 12],(0:Int)<=Int.ofNat (iB b)/\Int.ofNat (iB b)<2,(dX b d e).v=(dX b d e).v,(0:Int)<=Int.ofNat (iB b)/\Int.ofNat (iB b)<2,(dX b d e).v=(dX b d e).v,kP (wU (dX b d e) n m !=wU (dX b d e) n m),(0:Int)<=Int.ofNat (iB b)/\Int.ofNat (iB b)<2,(dX b d e).v=(dX b d e).v,(0:Int)<=Int.ofNat (iB b)/\Int.ofNat (iB b)<2,(dX b d e).v=(dX b d e).v,kP (wU (dX b d e) m n !=wU (dX b d e) m n)],eC (uJ id d e (iB b) [(11,R k)] [] 1))]:=by cases b<;>exact G.Y
theorem aus(d e:Dc)(b:Bool)(k k2:Int):H (M ew []) [(50,.dL (R k2))] 0 Tryz.f6 [2,7,9,10,11] (dH 2 bQ2) (uJ id d e (iB b) [(11,R k)] [] 1)
  [([],[V.int .i64 (IntKind.i64.wrap (k+(1:Int)))=R k2],eC (uJ id d e (iB b) [(11,R k2)] [] 1))]:=by cases b<;>exact G.Y
theorem aut(d e:Dc)(b:Bool)(k:Int):H (M ew []) [] 0 Tryz.f6 [2,7,9,10] (dH 2 bQ1) (uJ id d e (iB b) [(11,R k)] [] 1)
  [([],[],eC (uJ id d e (iB b+1) [] [] 1))]:=by cases b<;>exact G.Y
theorem auu(d e:Dc):H (M ew []) [] 0 Tryz.f6 [] (dH 6 ON) (uJ id d e 2 [] [] 1)
  [([],[],.ret (.bool true) .nil 0)]:=G.Y
end
set_option maxRecDepth 10000
noncomputable abbrev V9:Code:=dQ Tryz.f54
noncomputable abbrev bRz:Code:=dP (dP (eB (dO (dH 2 V9))))
noncomputable abbrev iRz:Code:=dP (dO (dH 1 bRz))
noncomputable abbrev Xi:Code:=dP (dP (dH 2 iRz))
def Ea(l:List Tl)(r:List (Nat×V)):St:=fI ([(2,.ptr (some (0,0))),(3,.ptr (some (1,0)))]++r) (hL [(0,.cells [.eM false l.length (iO l)]),(1,.cells [.eM false l.length (iO l)])]) 2
abbrev tlA(l:List Tl)(i:Nat)(q:List Eng.D):ah:=[(0:Int)<=Int.ofNat i/\Int.ofNat i<Int.ofNat l.length,(iO l).length=l.length*258,V.eo (dU (iO l) (i*258) 258)=V.eo q]
theorem aac(l:List Tl):H (M ew []) [(13,.dL (.bool false))] 0 Tryz.f54 [2,3] (ek 2 V9) (dI [lu l,lu l] .nil 0) [([],[kP (Int.ofNat l.length !=Int.ofNat l.length)],eC (Ea l []))]:=G.Y
theorem aad(l:List Tl):H (M ew []) [] 0 Tryz.f54 [2,3,5] (dO (dO (dH 2 V9))) (Ea l []) [([],[],eC (Ea l [(5,J 0)]))]:=G.Y
theorem aae(l:List Tl)(i:Nat):H (M ew []) [(18,.split)] 0 Tryz.f54 [2,3,5] (ek 1 bRz) (Ea l [(5,J i)])
  (fV (decide (Int.ofNat i<Int.ofNat l.length)) ([],eC (Ea l [(5,J i)])) ([],.to (.exit 0) (Ea l [(5,J i)]))):=G.Y
theorem aaf(l:List Tl)(i:Nat)(x y:Int)(q:List Eng.D):H (M ew []) [(24,.dL (.eo (.int .i64 x:: .int .i64 y::q))),(30,.dL (.eo (.int .i64 x:: .int .i64 y::q))),(33,.dL (.bool false))] 0 Tryz.f54 [2,3,5] (ek 1 iRz) (Ea l [(5,J i)])
  [([],tlA l i (.int .i64 x:: .int .i64 y::q)++(tlA l i (.int .i64 x:: .int .i64 y::q)++[V.bool (!(x==x&&(y==y&&true)))=V.bool false]),.to .normal (Ea l [(5,J i)]))]:=G.Y
theorem aag(l:List Tl)(i:Nat):H (M ew []) [] 0 Tryz.f54 [2,3,5,6] (ek 1 (dH 1 iRz)) (Ea l [(5,J i)]) [([],[],eC (Ea l [(5,J i),(6,J 0)]))]:=G.Y
theorem aah(l:List Tl)(i k:Nat):H (M ew []) [(35,.split)] 0 Tryz.f54 [2,3,5,6] (ek 1 Xi) (Ea l [(5,J i),(6,J k)])
  (fV (decide (Int.ofNat k<(64:Int))) ([],eC (Ea l [(5,J i),(6,J k)])) ([],.to (.exit 2) (Ea l [(5,J i),(6,J k)]))):=G.Y
theorem auy(l:List Tl)(i k:Nat)(x y a b c e:Int)(q r:List Eng.D):H (M ew []) [(42,.dL (.eo (.int .i64 x:: .int .i64 y::q))),(44,.dL (.eo (.int .u8 a:: .int .u8 b:: .int .u8 c:: .int .u8 e::r))),(50,.dL (.eo (.int .i64 x:: .int .i64 y::q))),(52,.dL (.eo (.int .u8 a:: .int .u8 b:: .int .u8 c:: .int .u8 e::r))),(54,.dL (.bool false))] 0 Tryz.f54 [2,3,5,6] (ek 1 (dH 1 Xi)) (Ea l [(5,J i),(6,J k)])
  [([],tlA l i (.int .i64 x:: .int .i64 y::q)++([(0:Int)<=Int.ofNat k/\Int.ofNat k<((64:Nat):Int),V.eo (List.drop (k*4) q)=V.eo (.int .u8 a:: .int .u8 b:: .int .u8 c:: .int .u8 e::r)]++(tlA l i (.int .i64 x:: .int .i64 y::q)++[(0:Int)<=Int.ofNat k/\Int.ofNat k<((64:Nat):Int),V.eo (List.drop (k*4) q)=V.eo (.int .u8 a:: .int .u8 b:: .int .u8 c:: .int .u8 e::r),V.bool (!(a==a&&(b==b&&(c==c&&(e==e&&true)))))=V.bool false])),.to .normal (Ea l [(5,J i),(6,J k)]))]:=G.Y
theorem auz(l:List Tl)(i k:Nat):H (M ew []) [(37,.dL (J (k+1)))] 0 Tryz.f54 [2,3,5,6] (dH 2 Xi) (Ea l [(5,J i),(6,J k)]) [([],[oq k],eC (Ea l [(5,J i),(6,J (k+1))]))]:=G.Y
theorem auA(l:List Tl)(i k:Nat):H (M ew []) [(20,.dL (J (i+1)))] 0 Tryz.f54 [2,3,5] (dH 2 bRz) (Ea l [(5,J i),(6,J k)]) [([],[oq i],eC (Ea l [(5,J (i+1))]))]:=G.Y
theorem auB(l:List Tl)(i:Nat):H (M ew []) [] 0 Tryz.f54 [] (eB (dH 2 V9)) (Ea l [(5,J i)]) [([],[],.ret (.bool true) .nil 0)]:=G.Y
set_option maxRecDepth 10000
theorem ah8(p:Nat->Int){k:Nat}(h:k<64):List.drop (k*4) (vZ p)= .int .u8 (p (k*4)):: .int .u8 (p (k*4+1)):: .int .u8 (p (k*4+2)):: .int .u8 (p (k*4+3))::List.drop (k*4+4) (vZ p):=by
 have hl:(vZ p).length=256:=by simp[vZ]
 have hg:∀j (hj:j<(vZ p).length),(vZ p)[j]= .int .u8 (p j):=fun j hj=>by simp[vZ]
 rw[bC S,bC (i:=k*4+1) S,bC (i:=k*4+1+1) S,bC (i:=k*4+1+1+1) S,hg,hg,hg,hg]
theorem auC(l:List Tl)(h:l.length<=1000000):ee ak 54 [lu l,lu l] (.bool true):=by
 refine fc Tryz.func54 (fN 2 (be _) (aac l) (eO (aG V.bool (bne_self_eq_false _))) ?_);refine dY dJ (dY dJ (gw (be _) eP (aad l) (dK (g0 ⟨all_nil,fun T eu=>?_⟩))));simp only[andThen];refine je 0 l.length (fun i=>Ea l [(5,J i)]) (fun _=>false) (eJ.norm eu) (fun i hi _ Q' k1 k2 k3=>?_) (fun _ T eu=>?_)
 rotate_left
 . simp only[andThen];exact eu _ _ (eR (be _) (auB l _) (dK (g0 ⟨all_nil,_,_,_,rfl,rfl⟩)))
 refine jm 1 (be _) eP (aae l i) (dN (g1 fun h=>⟨all_nil,?_⟩) (dK (g1 fun h=>⟨all_nil,fun T eu=>k2 (by have:=rG h;omega) T (eJ.norm eu)⟩)));have q:=kA h;have hA:=xF q;generalize l[i]=t at hA;obtain⟨x,y,p⟩:=t;change V.eo (dU (iO l) (i*258) 258)= .eo (.int .i64 x:: .int .i64 y::vZ p)at hA;refine dY dJ (fJ (i:=1) dJ ?_);refine jm 1 (be _) eP (aaf l i x y (vZ p)) (dK (g0 ⟨X (iI q) (X (iS _) (X hA (X (iI q) (X (iS _) (X hA (eO (by simp))))))),?_⟩));refine jm 1 (be _) eP (aag l i) (dK (g0 ⟨all_nil,?_⟩));refine je 2 64 (fun k=>Ea l [(5,J i),(6,J k)]) (fun _=>false) .refl (fun k hk _ Q2 m1 m2 m3=>?_) (fun _ T eu=>?_)
 . refine jm 1 (be _) eP (aah l i k) (dN (g1 fun h=>⟨all_nil,?_⟩) (dK (g1 fun h=>⟨all_nil,fun T eu=>m2 (by have:=bt h;simp only[gD]at this;omega) T (eJ.norm eu)⟩)));have qk:k<64:=by have:=aZ h;simp only[gD]at this;omega
   have hd:=aG V.eo (ah8 p qk);have U:(0:Int)<=Int.ofNat k/\Int.ofNat k<((64:Nat):Int):=by simp only[gD];omega
   refine jm 1 (be _) eP (auy l i k x y _ _ _ _ (vZ p) _) (dK (g0 ⟨X (iI q) (X (iS _) (X hA (X U (X hd (X (iI q) (X (iS _) (X hA (X U (X hd (eO (by simp))))))))))),?_⟩));exact gw (be _) eP (auz l i k) (dK (g0 ⟨eO (gV S),fun T eu=>m1 qk rfl T (eJ.norm eu)⟩))
 . simp only[gT,andThen];exact eu _ _ (gw (be _) eP (auA l i _) (dK (g0 ⟨eO (gV S),fun T eu=>k1 q rfl T (eJ.norm eu)⟩)))
noncomputable abbrev abQ:Code:=dQ Tryz.f99
noncomputable abbrev Wa:Code:=dH 3 abQ
theorem aai(n:Int):H (M ew []) [] 0 Tryz.f99 [3,4] (ek 3 abQ) (dI [.int .i64 n] .nil 0) [([],[],eC (fI [(3,.fk (some (0,0)) 0 0 1),(4,.int .u64 (IntKind.u64.wrap n))] (hL [(0,.cells [])]) 1))]:=G.Y
theorem auD(x:Int):H (M ew []) [] 0 Tryz.f101 [] (dQ Tryz.f101) (dI [.int .i64 x,.int .i64 1] .nil 0) [([],[[UInt8.ofNat (IntKind.u8.wrap ((IntKind.u64.wrap x).tmod (256:Int))).toNat].length+0<=9223372036854775807,(256:Int)≠(0:Int)],.ret (.str ([UInt8.ofNat (IntKind.u8.wrap ((IntKind.u64.wrap x).tmod (256:Int))).toNat]++([]:aa))) (hL []) 0)]:=G.Y
section
variable(u:Int)(W:List Int)
def sU0:St:=fI [(3,.fk (some (0,0)) 0 0 1),(4,.int .u64 u)] (hL [(0,.cells [])]) 1
def sU1(u:Int):St:=fI [(3,.fk (some (0,0)) W.length W.length 1),(4,.int .u64 u)] (hL [(0,.own .u8 W)]) 1
theorem aaj:H (M ew []) [(9,.split)] 0 Tryz.f99 [3,4] (dP (dP (dO Wa))) (sU0 u) (fV (decide (u>=(128:Int))) ([(128:Int)≠(0:Int)],eC (fI [(3,.fk (some (0,0)) 1 1 1),(4,.int .u64 (IntKind.u64.wrap (u.tdiv (128:Int))))] (hL [(0,.cells [.int .u8 (IntKind.u8.wrap (IntKind.u64.wrap (u.tmod (128:Int)+(128:Int))))])]) 1)) ([],.to (.exit 0) (fI [(3,.fk (some (0,0)) 0 0 1),(4,.int .u64 u)] (hL [(0,.cells [])]) 1))):=G.Y
theorem auF:H (M ew []) [(9,.split)] 0 Tryz.f99 [3,4] (dP (dP (dO Wa))) (sU1 W u) (fV (decide (u>=(128:Int))) ([0<W.length,0+W.length*1<=W.length,0<1,fM (W.length+1) 1 1=true,(128:Int)≠(0:Int)],eC (fI [(3,.fk (some (0,0)) (W.length+1) (W.length+1) 1),(4,.int .u64 (IntKind.u64.wrap (u.tdiv (128:Int))))] (hL [(0,.own .u8 (List.take (W.length*1) (List.drop 0 W)++[IntKind.u8.wrap (IntKind.u64.wrap (u.tmod (128:Int)+(128:Int)))]))]) 1)) ([],.to (.exit 0) (fI [(3,.fk (some (0,0)) (W.length) (W.length) 1),(4,.int .u64 u)] (hL [(0,.own .u8 W)]) 1))):=G.Y
theorem auG:H (M ew []) [] 0 Tryz.f99 [] (eB Wa) (sU0 u) [([],[],.ret (.str ([UInt8.ofNat (IntKind.u8.wrap u).toNat])) (hL []) 0)]:=G.Y
theorem auH:H (M ew []) [] 0 Tryz.f99 [] (eB Wa) (sU1 W u) [([],[0<W.length,0+W.length*1<=W.length,0<1,fM (W.length+1) 1 1=true,0+(W.length+1)<=(List.take (W.length*1) (List.drop 0 W)++[IntKind.u8.wrap u]).length],.ret (.str (nQ (List.take (W.length+1) (List.drop 0 (List.take (W.length*1) (List.drop 0 W)++[IntKind.u8.wrap u]))))) (hL []) 0)]:=G.Y
end
theorem aia:∀x:Nat,x<256->x|||128=x%128+128:=by decide
section
variable(n u:Nat)
theorem u8w:IntKind.u8.wrap (n:Int)=((n%256:Nat):Int):=by
 simp only[IntKind.wrap,IntKind.bits,IntKind.signed];simp
theorem aic:IntKind.u64.wrap (n:Int)=((n%18446744073709551616:Nat):Int):=by
 simp only[IntKind.wrap,IntKind.bits,IntKind.signed];simp
theorem Wb:Dp (u:Int)=((u%128+128:Nat):Int):=by
 unfold Dp;rw[u8w];have h1:(BitVec.ofInt 8 ((u%256:Nat):Int)|||BitVec.ofInt 8 (128:Int)).toNat=u%128+128:=by
  rw[BitVec.toNat_or];have e1:(BitVec.ofInt 8 ((u%256:Nat):Int)).toNat=u%256:=by
   rw[BitVec.ofInt_natCast,BitVec.toNat_ofNat];omega
  have e2:(BitVec.ofInt 8 (128:Int)).toNat=128:=rfl;rw[e1,e2,aia _ S];omega
 rw[h1,gD,u8w];congr 1;omega
theorem S7:(u:Int).fdiv 128=((u/128:Nat):Int):=by
 rw[Int.fdiv_eq_ediv_of_nonneg _ fg];rfl
end
def hU(u:Int):Int:=IntKind.u8.wrap (IntKind.u64.wrap (u.tmod (128:Int)+(128:Int)))
theorem aid{u:Int}(h:0<=u):hU u=Dp u:=by
 obtain⟨n,rfl⟩:∃n:Nat,u=n:=⟨u.toNat,(cZ h).symm⟩;unfold hU;rw[Wb,Int.tmod_eq_emod_of_nonneg h,show((n:Int)%128+128)=((n%128+128:Nat):Int)by omega,aic,u8w];congr 1;omega
theorem aie{u:Int}(h:0<=u)(C:u<18446744073709551616):IntKind.u64.wrap (u.tdiv (128:Int))=u.fdiv 128:=by
 obtain⟨n,rfl⟩:∃n:Nat,u=n:=⟨u.toNat,(cZ h).symm⟩;rw[S7,Int.tdiv_eq_ediv_of_nonneg h,show((n:Int)/128)=((n/128:Nat):Int)by omega,aic];congr 1;omega
def SU(x:Nat×List Int×Int):St:=match x.2.1 with
 | []=>sU0 x.2.2
 |k::r=>sU1 (k::r) x.2.2
theorem auI(n:Int):TG ak 0 Tryz.f99.ntmps abQ (dI [.int .i64 n] .nil 0) (gi ak 0 Tryz.f99 fun u _ _=>u= .str (eU n)):=by
 have hu:=Ds n;refine fN 3 (be _) (aai n) all_nil ?_;refine WQ (α:=Nat×List Int×Int) 0 _ [3,4] (·.1) (fun x=>(0<=x.2.2/\x.2.2<18446744073709551616)/\x.2.2<128^(x.1+1)/\x.2.1.length+x.1<=10/\x.2.1++uC x.1 x.2.2=uC 9 (IntKind.u64.wrap n)) SU (9,[],IntKind.u64.wrap n) ⟨hu,by show IntKind.u64.wrap n<(128:Int)^(9+1);rw[p128];omega,show 0+9<=10 by decide,rfl⟩ .refl ?_;rintro⟨k,W,u⟩ ⟨h0,hk,hl,hv⟩;simp only at h0 hk hl hv;have Dt:128<=u->∃j,k=j+1/\(0<=u.fdiv 128/\u.fdiv 128<18446744073709551616)/\u.fdiv 128<128^(j+1)/\(W++[Dp u])++uC j (u.fdiv 128)=uC 9 (IntKind.u64.wrap n):=fun h=>by
  cases k with
  |zero=>simp at hk;omega
  |succ j=>
   have ed:u.fdiv 128=u/128:=Int.fdiv_eq_ediv_of_nonneg _ fg;refine⟨j,rfl,by rw[ed];omega,?_,?_⟩
   . rw[ed];have:(128:Int)^(j+1+1)=128^(j+1)*128:=Int.pow_succ ..;rw[this]at hk;exact Int.ediv_lt_of_lt_mul fg hk
   . rw[<- hv];show _=W++(if 128<=u then _ else _);rw[aF h];simp
 have xw:¬128<=u->W++[YH u]=uC 9 (IntKind.u64.wrap n):=fun h=>by rw[<- hv,Dq h]
 have eh:=aid h0.1;have ed:=aie h0.1 h0.2;cases W with
 |nil=>
  refine⟨_,(be _),[],_,_,aaj u,dN (g1 fun h=>⟨eO fg,?_⟩) (dK (g1 fun h=>⟨all_nil,rfl,?_⟩))⟩
  . obtain⟨j,rfl,a1,a2,a3⟩:=Dt (aZ h);refine⟨(j,[Dp u],u.fdiv 128),Nat.lt_succ_self j,⟨a1,a2,by simp at hl ⊢;omega,a3⟩,?_⟩;rw[ed,show IntKind.u8.wrap (IntKind.u64.wrap (u.tmod (128:Int)+(128:Int)))=Dp u from eh];exact .own [(0,.u8)] dJ
  . refine eR (be _) (auG u) (dK (g0 ⟨all_nil,_,_,_,rfl,?_⟩));unfold eU;rw[<- xw (bt h)];rfl
 |cons x r=>
  have uY:0<(x::r).length:=by simp
  have PS:(x::r).length<=10:=by omega
  have e0:List.take ((x::r).length*1) (List.drop 0 (x::r))=x::r:=by rw[bA,cR,br]
  have h3:=auF u (x::r);have h5:=auH u (x::r);rw[e0]at h3 h5;have hc:=X uY (X (show 0+(x::r).length*1<=(x::r).length by omega) (X (show 0<1 by decide) (X (yM (k:=(x::r).length+1) S) (eO (show(128:Int)≠(0:Int)by decide)))));refine⟨_,(be _),[],_,_,h3,dN (g1 fun h=>⟨hc,?_⟩) (dK (g1 fun h=>⟨all_nil,rfl,?_⟩))⟩
  . obtain⟨j,rfl,a1,a2,a3⟩:=Dt (aZ h);refine⟨(j,(x::r)++[Dp u],u.fdiv 128),Nat.lt_succ_self j,⟨a1,a2,by rw[az];simp at hl ⊢;omega,a3⟩,?_⟩;rw[ed,show IntKind.u8.wrap (IntKind.u64.wrap (u.tmod (128:Int)+(128:Int)))=Dp u from eh];have:SU (j,(x::r)++[Dp u],u.fdiv 128)=fI [(3,.fk (some (0,0)) ((x::r).length+1) ((x::r).length+1) 1),(4,.int .u64 (u.fdiv (128:Int)))] (hL [(0,.own .u8 ((x::r)++[Dp u]))]) 1:=by
     show sU1 ((x::r)++[Dp u]) _=_;unfold sU1;rw[az];rfl
    rw[this];exact .refl
  . have he:=xw (bt h);have e1:(x::r++[IntKind.u8.wrap u]).length=(x::r).length+1:=by rw[az];rfl
    refine eR (be _) h5 (dK (g0 ⟨X uY (X (show 0+(x::r).length*1<=(x::r).length by omega) (X fg (X (yM S) (eO (by rw[e1];omega))))),_,_,_,rfl,?_⟩));unfold eU;rw[<- he,bA,<- e1,br];rfl
theorem abR:jM ak 99 (ic Aq):=by
 refine nD Tryz.func99 fun args hc v e=>?_;unfold Aq at e;split at e
 case h_2=>cases e
 obtain⟨rfl,rfl⟩:=sm e;exact⟨rfl,rfl,rfl,fun _=>auI _⟩
def LZ:ag->Option (ah×V)
 | [.int .i64 x,.int .i64 k]=>match k with
   | .ofNat 1=>some ([],.str (Ap x))
   |_=>none
 |_=>none
theorem abS:jM ak 101 (ic LZ):=by
 refine nD Tryz.func101 fun args hc v e=>?_;unfold LZ at e;split at e
 case h_2=>cases e
 split at e
 case h_2=>cases e
 rename_i x k;obtain⟨rfl,rfl⟩:=sm e;refine⟨rfl,rfl,rfl,fun _=>eR (be _) (auD x) (dK (g0 ⟨X (by show 1+0<=_;decide) (eO fg),_,_,_,rfl,?_⟩))⟩;obtain⟨h1,C⟩:=Ds x;unfold Ap pB;obtain⟨n,hn⟩:∃n:Nat,IntKind.u64.wrap x=n:=⟨_,(cZ h1).symm⟩;rw[hn,Int.tmod_eq_emod_of_nonneg (bJ _),show((n:Int)%256)=((n%256:Nat):Int)by omega,Int.fdiv_one,u8w,u8w,c5,Nat.mod_mod]
noncomputable abbrev Wo:gG:=jC 99 (ic Aq) (jC 101 (ic LZ) ew)
theorem oS:fo ak Wo:=fq abR (fq abS (be _))
noncomputable abbrev abT:Code:=dQ Tryz.f102
noncomputable abbrev S9:Code:=dH 2 abT
noncomputable abbrev Na:Code:=dH 4 abT
section
variable(f:FL)(s:aa)(i:Nat)(x:Int)
def HL(r:List (Nat×V)):St:=fI ([(1,.ptr (some (0,0))),(3,.str s)]++r) (hL [(0,.cells f.cs)]) 1
theorem auJ:H (M Wo []) [] 0 Tryz.f102 [1,3] (ek 2 abT) (dI [f.v] .nil 0) [([],[(eU f.k).length+(eU f.r).length<=9223372036854775807,(eU f.k++eU f.r).length+(eU (Int.ofNat f.fh.length)).length<=9223372036854775807],eC (HL f (eU f.k++eU f.r++eU (Int.ofNat f.fh.length)) []))]:=G.Y
theorem auK:H (M Wo []) [] 0 Tryz.f102 [1,3,4] (dO (dO S9)) (HL f s []) [([],[],eC (HL f s [(4,J 0)]))]:=G.Y
theorem auL:H (M Wo []) [(22,.split),(29,.dL (.eo [.int .i64 x])),(24,.dL (J (i+1)))] 0 Tryz.f102 [1,3,4] (dP (dP (eB (dO S9)))) (HL f s [(4,J i)]) (fV (decide (Int.ofNat i<(Int.ofNat f.fh.length))) ([fT i f.fh.length,jo f.fh,gv (eL f.fh) i 1 [D.int B x],s.length+(eU x).length<=9223372036854775807,oq i],eC (HL f (s++eU x) [(4,J (i+1))])) ([],.to (.exit 0) (HL f s [(4,J i)]))):=G.Y
theorem auM:H (M Wo []) [] 0 Tryz.f102 [1,3] (ek 1 (eB S9)) (HL f s [(4,J i)]) [([],[s.length+(eU f.dv).length<=9223372036854775807,(s++eU f.dv).length+(eU f.vl).length<=9223372036854775807,(s++eU f.dv++eU f.vl).length+(eU (Int.ofNat f.cu.length)).length<=9223372036854775807],eC (HL f (s++eU f.dv++eU f.vl++eU (Int.ofNat f.cu.length)) []))]:=G.Y
theorem auN:H (M Wo []) [] 0 Tryz.f102 [1,3,5] (dO (dO Na)) (HL f s []) [([],[],eC (HL f s [(5,J 0)]))]:=G.Y
theorem auO:H (M Wo []) [(51,.split),(58,.dL (.eo [.int .i64 x])),(53,.dL (J (i+1)))] 0 Tryz.f102 [1,3,5] (dP (dP (eB (dO Na)))) (HL f s [(5,J i)]) (fV (decide (Int.ofNat i<(Int.ofNat f.cu.length))) ([fT i f.cu.length,jo f.cu,gv (eL f.cu) i 1 [D.int B x],s.length+(eU x).length<=9223372036854775807,oq i],eC (HL f (s++eU x) [(5,J (i+1))])) ([],.to (.exit 2) (HL f s [(5,J i)]))):=G.Y
theorem auP:H (M Wo []) [] 0 Tryz.f102 [] (eB Na) (HL f s [(5,J i)]) [([],[],.ret (.str s) (hL []) 0)]:=G.Y
end
noncomputable abbrev OO:Code:=dQ Tryz.f53
noncomputable abbrev Nb:Code:=dH 9 OO
noncomputable abbrev Nc:Code:=dH 11 OO
def Eb(l:eV)(s:aa)(r:List (Nat×V)):St:=fI ([(1,.ptr (some (0,0))),(4,.str s)]++r) (hL [(0,.cells l.cs)]) 1
def mRh(l:eV):I es:=hL [(0,.cells l.cs)]
theorem auQ(l:eV):H (M Wo []) [] 0 Tryz.f53 [1,3] (ek 5 OO) (dI [l.v] .nil 0) [([],[],.to .normal (fI [(1,.ptr (some (0,0))),(3,R (flg l.hid l.clip l.L))] (mRh l) 1))]:=by
 obtain⟨_,_,_,a,_,_,b,_,_,_,_,_,_,_,_,c,_⟩:=l;cases a<;>cases b<;>cases c<;>exact G.Y
theorem auR(l:eV)(k:Int):H (M Wo []) [] 0 Tryz.f53 [1,4] (ek 1 (dH 5 OO)) (fI [(1,.ptr (some (0,0))),(3,R k)] (mRh l) 1) [([],[(eU l.id).length+(eU l.kd).length<=9223372036854775807,(eU (Int.ofNat l.nm.length)).length+l.nm.length<=9223372036854775807,(eU l.id++eU l.kd).length+(eU (Int.ofNat l.nm.length)++l.nm).length<=9223372036854775807,(eU l.id++eU l.kd++(eU (Int.ofNat l.nm.length)++l.nm)).length+(Ap k).length<=9223372036854775807,(eU l.id++eU l.kd++(eU (Int.ofNat l.nm.length)++l.nm)++Ap k).length+(eU l.op).length<=9223372036854775807,(eU l.id++eU l.kd++(eU (Int.ofNat l.nm.length)++l.nm)++Ap k++eU l.op).length+(eU l.md).length<=9223372036854775807],eC (Eb l (eU l.id++eU l.kd++(eU (Int.ofNat l.nm.length)++l.nm)++Ap k++eU l.op++eU l.md) []))]:=G.Y
theorem auS(l:eV)(s:aa):H (M Wo []) [] 0 Tryz.f53 [1,4] (ek 2 (dH 6 OO)) (Eb l s []) [([],[(0:Int)<=(0:Int)/\(0:Int)<(7:Int),s.length+(eU l.pl.a).length<=9223372036854775807,(0:Int)<=(1:Int)/\(1:Int)<(7:Int),(s++eU l.pl.a).length+(eU l.pl.b).length<=9223372036854775807,(0:Int)<=(2:Int)/\(2:Int)<(7:Int),(s++eU l.pl.a++eU l.pl.b).length+(eU l.pl.c).length<=9223372036854775807,(0:Int)<=(3:Int)/\(3:Int)<(7:Int),(s++eU l.pl.a++eU l.pl.b++eU l.pl.c).length+(eU l.pl.d).length<=9223372036854775807,(0:Int)<=(4:Int)/\(4:Int)<(7:Int),(s++eU l.pl.a++eU l.pl.b++eU l.pl.c++eU l.pl.d).length+(eU l.pl.e).length<=9223372036854775807,(0:Int)<=(5:Int)/\(5:Int)<(7:Int),(s++eU l.pl.a++eU l.pl.b++eU l.pl.c++eU l.pl.d++eU l.pl.e).length+(eU l.pl.f).length<=9223372036854775807,(0:Int)<=(6:Int)/\(6:Int)<(7:Int),(s++eU l.pl.a++eU l.pl.b++eU l.pl.c++eU l.pl.d++eU l.pl.e++eU l.pl.f).length+(eU l.pl.n).length<=9223372036854775807],eC (Eb l (s++eU l.pl.a++eU l.pl.b++eU l.pl.c++eU l.pl.d++eU l.pl.e++eU l.pl.f++eU l.pl.n) []))]:=G.Y
theorem auT(l:eV)(s:aa):H (M Wo []) [] 0 Tryz.f53 [1,4] (ek 1 (dH 8 OO)) (Eb l s []) [([],[s.length+(eU l.sp).length<=9223372036854775807,(s++eU l.sp).length+(eU (Int.ofNat l.kids.length)).length<=9223372036854775807],eC (Eb l (s++eU l.sp++eU (Int.ofNat l.kids.length)) []))]:=G.Y
theorem auU(l:eV)(s:aa):H (M Wo []) [] 0 Tryz.f53 [1,4,7] (dO (dO Nb)) (Eb l s []) [([],[],eC (Eb l s [(7,J 0)]))]:=G.Y
theorem auV(l:eV)(s:aa)(i:Nat)(x:Int):H (M Wo []) [(89,.split),(96,.dL (.eo [.int .i64 x])),(91,.dL (J (i+1)))] 0 Tryz.f53 [1,4,7] (dP (dP (eB (dO Nb)))) (Eb l s [(7,J i)]) (fV (decide (Int.ofNat i<(Int.ofNat l.kids.length))) ([fT i l.kids.length,jo l.kids,gv (eL l.kids) i 1 [D.int B x],s.length+(eU x).length<=9223372036854775807,oq i],eC (Eb l (s++eU x) [(7,J (i+1))])) ([],.to (.exit 2) (Eb l s [(7,J i)]))):=G.Y
theorem auW(l:eV)(s fb:aa)(i:Nat):H (M (fa 102 [l.f.v] (.str fb) Wo) []) [] 0 Tryz.f53 [1,4] (ek 1 (eB Nb)) (Eb l s [(7,J i)]) [([],[s.length+(eU l.of).length<=9223372036854775807,fG [l.f.v],(s++eU l.of).length+fb.length<=9223372036854775807,(s++eU l.of++fb).length+[UInt8.ofNat l.fi.r.toNat,UInt8.ofNat l.fi.g.toNat,UInt8.ofNat l.fi.b.toNat,UInt8.ofNat l.fi.a.toNat].length<=9223372036854775807,(s++eU l.of++fb++[UInt8.ofNat l.fi.r.toNat,UInt8.ofNat l.fi.g.toNat,UInt8.ofNat l.fi.b.toNat,UInt8.ofNat l.fi.a.toNat]).length+(eU (Int.ofNat l.gA.length)).length<=9223372036854775807],eC (Eb l (s++eU l.of++fb++fiB l.fi++eU (Int.ofNat l.gA.length)) []))]:=G.Y
theorem auX(l:eV)(s:aa):H (M Wo []) [] 0 Tryz.f53 [1,4,8] (dO (dO Nc)) (Eb l s []) [([],[],eC (Eb l s [(8,J 0)]))]:=G.Y
abbrev Ta(l:eV)(i:Nat)(x y:Int):Prop:=V.eo (dU (nf l.gA) (i*2) 2)=V.eo [D.int B x,D.int B y]
theorem auY(l:eV)(s:aa)(i:Nat)(x y:Int):H (M Wo []) [(133,.split),(140,.dL (.eo [.int .i64 x,.int .i64 y])),(148,.dL (.eo [.int .i64 x,.int .i64 y])),(135,.dL (J (i+1)))] 0 Tryz.f53 [1,4,8] (dP (dP (eB (dO Nc)))) (Eb l s [(8,J i)]) (fV (decide (Int.ofNat i<(Int.ofNat l.gA.length))) ([fT i l.gA.length,(nf l.gA).length=l.gA.length*2,Ta l i x y,s.length+(eU x).length<=9223372036854775807,fT i l.gA.length,(nf l.gA).length=l.gA.length*2,Ta l i x y,(s++eU x).length+(eU y).length<=9223372036854775807,oq i],eC (Eb l (s++eU x++eU y) [(8,J (i+1))])) ([],.to (.exit 4) (Eb l s [(8,J i)]))):=G.Y
theorem auZ(l:eV)(s:aa)(i:Nat):H (M Wo []) [] 0 Tryz.f53 [] (eB Nc) (Eb l s [(8,J i)]) [([],[],.ret (.str s) (hL []) 0)]:=G.Y
theorem rbD(f:FL)(h1:f.fh.length<=2000000)(C:f.cu.length<=2000000):ee ak 102 [f.v] (.str (iw f)):=by
 refine fc Tryz.func102 ?_;have b:=fun n=>(sJ n).2;have b1:=b f.k;have b2:=b f.r;have b3:=b (Int.ofNat f.fh.length);have b4:=b f.dv;have b5:=b f.vl;have b6:=b (Int.ofNat f.cu.length);refine fN 2 oS (auJ f) ?_ ?_
 . repeat' (first|exact all_nil|refine X ?_ ?_)
   all_goals (first|omega|(simp only[az];omega))
 have l0:(eU f.k++eU f.r++eU (Int.ofNat f.fh.length)).length<=30:=by simp only[az];omega
 have e0:∀a b c,eU a++eU b++eU c=gP [a,b,c]:=fun a b c=>by
  show _=eU a++(eU b++(eU c++[]));rw[c5,cC]
 rw[e0]at l0 ⊢;unfold iw;generalize gP [f.k,f.r,Int.ofNat f.fh.length]=s0 at l0 ⊢;refine nO oS 0 _ [1,3,4] (f.fh.length-·) (. <=f.fh.length) (fun i=>HL f (s0++gP (f.fh.take i)) [(4,J i)]) 0 (aR _) (auK f s0) all_nil (by
  show eJ _ _ _ _ (HL f (s0++[]) _);rw[c5];exact .refl) fun i hi=>?_
 refine⟨_,oS,[],_,_,auL f _ i (f.fh.getD i 0),dN (g1 fun h=>?_) (dK (g1 fun h=>⟨all_nil,rfl,?_⟩))⟩
 . have fj:=kA h;obtain⟨v,hv⟩:∃v,f.fh[i]? =some v:=⟨_,au fj⟩;have ev:f.fh.getD i 0=v:=by rw[ax,hv];rfl
   rw[ev];have q1:=jd (f.fh.take i);have q2:=b v;rw[bf]at q1;refine⟨X (iI fj) (X (eI _) (X (rH hv) (X (by simp only[az];omega) (eO (gV S))))),i+1,uD fj,fj,?_⟩;rw[cC,<- tO hv];exact .refl
 obtain rfl:i=f.fh.length:=by have:=rG h;omega
 rw[br];have q1:=jd f.fh;have l1:(s0++gP f.fh).length<=30+10*f.fh.length:=by rw[az];omega
 generalize s0++gP f.fh=s1 at l1 ⊢;refine fN 1 oS (auM f s1 f.fh.length) ?_ ?_
 . repeat' (first|exact all_nil|refine X ?_ ?_)
   all_goals (first|omega|(simp only[az];omega))
 have e1:∀a b c,s1++eU a++eU b++eU c=s1++gP [a,b,c]:=fun a b c=>by
  rw[<- e0];simp only[cC]
 have l2:(s1++gP [f.dv,f.vl,Int.ofNat f.cu.length]).length<=60+10*f.fh.length:=by rw[<- e1];simp only[az];omega
 rw[e1];generalize s1++gP [f.dv,f.vl,Int.ofNat f.cu.length]=s2 at l2 ⊢;refine nO (c:=Na) oS 2 _ [1,3,5] (f.cu.length-·) (. <=f.cu.length) (fun i=>HL f (s2++gP (f.cu.take i)) [(5,J i)]) 0 (aR _) (auN f s2) all_nil (by
  show eJ _ _ _ _ (HL f (s2++[]) _);rw[c5];exact .refl) fun i hi=>?_
 refine⟨_,oS,[],_,_,auO f _ i (f.cu.getD i 0),dN (g1 fun h=>?_) (dK (g1 fun h=>⟨all_nil,rfl,?_⟩))⟩
 . have fj:=kA h;obtain⟨v,hv⟩:∃v,f.cu[i]? =some v:=⟨_,au fj⟩;have ev:f.cu.getD i 0=v:=by rw[ax,hv];rfl
   rw[ev];have q1:=jd (f.cu.take i);have q2:=b v;rw[bf]at q1;refine⟨X (iI fj) (X (eI _) (X (rH hv) (X (by simp only[az];omega) (eO (gV S))))),i+1,uD fj,fj,?_⟩;rw[cC,<- tO hv];exact .refl
 obtain rfl:i=f.cu.length:=by have:=rG h;omega
 rw[br];exact eR oS (auP f _ _) (dK (g0 ⟨all_nil,_,_,_,rfl,rfl⟩))
theorem rhD(l:eV)(h:okL l):ee ak 53 [l.v] (.str (Re l)):=by
 refine fc Tryz.func53 ?_;have b:=fun n=>(sJ n).2;obtain⟨d1,d2,d3,d4,d5⟩:=h;have hF:=rbD l.f d3 d4;have a3:=K1 l.f;have p2:(fiB l.fi).length=4:=rfl;refine fN 5 oS (auQ l) all_nil ?_;have p1:(Ap (flg l.hid l.clip l.L)).length=1:=rfl;unfold Re;generalize flg l.hid l.clip l.L=k at p1 ⊢;refine fN 1 oS (auR l k) ?_ ?_
 . have b1:=b l.id;have b2:=b l.kd;have b3:=b (Int.ofNat l.nm.length);have b4:=b l.op;have b5:=b l.md
   repeat' (first|exact all_nil|refine X ?_ ?_)
   all_goals (first|omega|(simp only[az];omega))
 rw[xL];have l1:(eU l.id++eU l.kd++(eU (Int.ofNat l.nm.length)++l.nm)++Ap k++eU l.op++eU l.md).length<=60+l.nm.length:=by
  have b1:=b l.id;have b2:=b l.kd;have b3:=b (Int.ofNat l.nm.length);have b4:=b l.op;have b5:=b l.md;simp only[az];omega
 rw[show eU l.id++eU l.kd++(Rd l.nm++Ap k)++eU l.op++eU l.md=eU l.id++eU l.kd++(eU (Int.ofNat l.nm.length)++l.nm)++Ap k++eU l.op++eU l.md by unfold Rd;simp only[cC]];generalize eU l.id++eU l.kd++(eU (Int.ofNat l.nm.length)++l.nm)++Ap k++eU l.op++eU l.md=s1 at l1 ⊢;have l2:(s1++Oa l.pl).length<=140+l.nm.length:=by
  have b1:=b l.pl.a;have b2:=b l.pl.b;have b3:=b l.pl.c;have b4:=b l.pl.d;have b5:=b l.pl.e;have b6:=b l.pl.f;have b7:=b l.pl.n;unfold Oa;simp only[az];omega
 refine fN 2 oS (auS l s1) ?_ ?_
 . have b1:=b l.pl.a;have b2:=b l.pl.b;have b3:=b l.pl.c;have b4:=b l.pl.d;have b5:=b l.pl.e;have b6:=b l.pl.f;have b7:=b l.pl.n
   repeat' (first|exact all_nil|refine X ?_ ?_)
   all_goals first|decide|omega|(simp only[az];omega)
 rw[xL,show s1++eU l.pl.a++eU l.pl.b++eU l.pl.c++eU l.pl.d++eU l.pl.e++eU l.pl.f++eU l.pl.n=s1++Oa l.pl by unfold Oa;simp only[cC]];generalize s1++Oa l.pl=s2 at l2 ⊢;have l3:(s2++eU l.sp++eU (Int.ofNat l.kids.length)).length<=160+l.nm.length:=by
  have b1:=b l.sp;have b2:=b (Int.ofNat l.kids.length);simp only[az];omega
 refine fN 1 oS (auT l s2) ?_ ?_
 . have b1:=b l.sp;have b2:=b (Int.ofNat l.kids.length)
   repeat' (first|exact all_nil|refine X ?_ ?_)
   all_goals (first|omega|(simp only[az];omega))
 rw[xL];generalize s2++eU l.sp++eU (Int.ofNat l.kids.length)=s3 at l3 ⊢;refine nO (c:=Nb) oS 2 _ [1,4,7] (l.kids.length-·) (. <=l.kids.length) (fun i=>Eb l (s3++gP (l.kids.take i)) [(7,J i)]) 0 (aR _) (auU l s3) all_nil (by
  show eJ _ _ _ _ (Eb l (s3++[]) _);rw[c5];exact .refl) fun i hi=>?_
 refine⟨_,oS,[],_,_,auV l _ i (l.kids.getD i 0),dN (g1 fun h=>?_) (dK (g1 fun h=>⟨all_nil,rfl,?_⟩))⟩
 . have fj:=kA h;obtain⟨v,hv⟩:∃v,l.kids[i]? =some v:=⟨_,au fj⟩;have ev:l.kids.getD i 0=v:=by rw[ax,hv];rfl
   rw[ev];have q1:=jd (l.kids.take i);have q2:=b v;rw[bf]at q1;refine⟨X (iI fj) (X (eI _) (X (rH hv) (X (by simp only[az];omega) (eO (gV S))))),i+1,uD fj,fj,?_⟩;rw[cC,<- tO hv];exact .refl
 obtain rfl:i=l.kids.length:=by have:=rG h;omega
 rw[br];have q1:=jd l.kids;have l4:(s3++gP l.kids).length<=160+l.nm.length+10*l.kids.length:=by rw[az];omega
 generalize s3++gP l.kids=s4 at l4 ⊢;have b1:=b l.of;have b2:=b (Int.ofNat l.gA.length);refine fN 1 (ff hF oS) (auW l s4 _ l.kids.length) ?_ ?_
 . repeat' (first|exact all_nil|refine X ?_ ?_)
   all_goals first|rfl|(simp only[az,aN,cm];omega)|omega
 have l5:(s4++eU l.of++iw l.f++fiB l.fi++eU (Int.ofNat l.gA.length)).length<=260+l.nm.length+10*l.kids.length+10*l.f.fh.length+10*l.f.cu.length:=by
  simp only[az];omega
 generalize s4++eU l.of++iw l.f++fiB l.fi++eU (Int.ofNat l.gA.length)=s5 at l5 ⊢;refine nO (c:=Nc) oS 4 _ [1,4,8] (l.gA.length-·) (. <=l.gA.length) (fun i=>Eb l (s5++Gz (l.gA.take i)) [(8,J i)]) 0 (aR _) (auX l s5) all_nil (by
  show eJ _ _ _ _ (Eb l (s5++[]) _);rw[c5];exact .refl) fun i hi=>?_
 refine⟨_,oS,[],_,_,auY l _ i (l.gA.getD i (0,0)).1 (l.gA.getD i (0,0)).2,dN (g1 fun h=>?_) (dK (g1 fun h=>⟨all_nil,rfl,?_⟩))⟩
 . have fj:=kA h;obtain⟨v,hv⟩:∃v,l.gA[i]? =some v:=⟨_,au fj⟩;have ev:l.gA.getD i (0,0)=v:=by rw[ax,hv];rfl
   rw[ev];have q1:=Jc (l.gA.take i);have q2:=b v.1;have q3:=b v.2;rw[bf]at q1;have hs:(s5++Gz (l.gA.take i)).length<=1000000000:=by rw[az];omega
   refine⟨X (iI fj) (X (pK _) (X (K2 hv) (X S (X (iI fj) (X (pK _) (X (K2 hv) (X (by rw[az];omega) (eO (gV S))))))))),i+1,uD fj,fj,?_⟩;rw[cC,cC,<- Oc hv];exact .refl
 obtain rfl:i=l.gA.length:=by have:=rG h;omega
 rw[br];exact eR oS (auZ l _ _) (dK (g0 ⟨all_nil,_,_,_,rfl,rfl⟩))
set_option maxRecDepth 10000
noncomputable def aif(dF:gG):gG:=jC 54 (fun args h n=>match args with
 | [.agg [.eM f m l],y]=>some ([.agg [.eM false m l]=lu (B4 l),y= .agg [.eM f m l],m<=1000000],.bool true,h,n)
 |_=>none) dF
theorem au0(x:eV)(s:aa):H (M (fa 53 [x.v] (.str s) (aif ew)) []) [(9,.dL (.bool true))] 0 Tryz.f27 [] (dQ Tryz.f27) (dI [x.v,x.v] .nil 0)
  [([],[V.jj [x.v]=[x.v],V.jj [x.v]=[x.v],kr (mX s s),.agg [.eM false x.gx.length (iO x.gx)]=lu (B4 (iO x.gx)),V.agg [.eM false x.gx.length (iO x.gx)]= .agg [.eM false x.gx.length (iO x.gx)],x.gx.length<=1000000,.agg [.eM false x.ig.length (iO x.ig)]=lu (B4 (iO x.ig)),V.agg [.eM false x.ig.length (iO x.ig)]= .agg [.eM false x.ig.length (iO x.ig)],x.ig.length<=1000000],.ret (.bool true) .nil 0)]:=G.Y
theorem XC{E:Env}{f:Bool}{m:Nat}{l:List Eng.D}{y:Value}(r:eH E (.agg [.eM f m l]) y):eH E (.agg [.eM false m l]) y:=by
 obtain⟨cs,⟨z,zs,r1,r2,r3⟩,e⟩:=r;exact⟨cs,⟨z,zs,⟨r1.1,fun h=>by cases h⟩,r2,r3⟩,e⟩
theorem Wc{dF:gG}(hS:fo ak dF):fo ak (aif dF):=by
 refine fq ⟨aE dJ,fun args h' n hc v' C n2 e hA E w dZ ra g Ow _=>?_⟩ hS;simp only at e;split at e
 case h_2=>cases e
 rename_i f m l y;simp only[aq,aB]at e;obtain⟨rfl,rfl,rfl,rfl⟩:=e;have e1:V.agg [.eM false m l]=lu (B4 l):=hA _ (by simp);have e2:y= .agg [.eM f m l]:=hA (y= .agg [.eM f m l]) (by simp);have e3:m<=1000000:=hA (m<=1000000) (by simp);subst e2;obtain⟨y1,ys,r1,⟨y2,ys2,r2,r3,q2⟩,q⟩:=ra;have L:m=(B4 l).length:=by
  unfold lu at e1;simp only[V.agg.injEq,List.cons.injEq,V.eM.injEq,true_and,and_true]at e1;exact e1.1
 exact auC (B4 l) S E _ _ w dZ ⟨y1,ys,e1▸XC r1,⟨y2,ys2,e1▸XC r2,r3,q2⟩,q⟩ g Ow
theorem Nd(x:eV)(h:zC x):ee ak 27 [x.v,x.v] (.bool true):=by
 have hR:=rhD x ⟨by have:=h.nm;omega,by have:=h.kids;omega,by have:=h.fh;omega,by have:=h.cu;omega,by have:=h.gA;omega⟩;have hr:∀l:List Tl,V.agg [.eM false l.length (iO l)]=lu (B4 (iO l)):=fun l=>by unfold lu;rw[Mt,yT]
 exact fc Tryz.func27 (eR (ff hR (Wc (be _))) (au0 x _) (dK (g0 ⟨X rfl (X rfl (X (aG V.bool (by rw[kM];exact beq_self_eq_true _)) (X (hr _) (X rfl (X h.gx (X (hr _) (X rfl (eO h.ig)))))))),_,_,_,rfl,rfl⟩)))
set_option maxRecDepth 10000
theorem abU{d:Dc}(hd:B9 d)(U:∀x∈d.ly,xX x.f):fo ak (u2W d ew):=by
 refine fq ⟨aE dJ,fun args h' n hc v' C n2 e hA E w dZ ra g Ow _=>?_⟩ (fq ⟨aE dJ,fun args h' n hc v' C n2 e hA E w dZ ra g Ow _=>?_⟩ (be _))
 all_goals
  simp only at e;split at e
  case h_2=>cases e
  rename_i x a b;simp only[aq,aB]at e;obtain⟨rfl,rfl,rfl,rfl⟩:=e;have e1:x=d.v:=hA _ (by simp);subst e1
 . exact aho hd (fun x K _=>U x K) a b E _ _ w dZ ra g Ow
 . exact abE hd a b E _ _ w dZ ra g Ow
theorem iB2(b:Bool):(0:Int)<=Int.ofNat (iB b)/\Int.ofNat (iB b)<2:=by cases b<;>decide
def pq:Option (Int×Nat)->Int×Int×Bool
 |some (i,j)=>(i,Int.ofNat j,true)
 |none=>(0,0,false)
section
variable(o:Option (Int×Nat))
theorem au2:Vg o= .gK [R (pq o).1,R (pq o).2.1,.bool (pq o).2.2]:=by
 rcases o with _|⟨i,j⟩<;>rfl
theorem au3:wC o= .agg [R (pq o).1,R (pq o).2.1,.bool (pq o).2.2]:=by
 rcases o with _|⟨i,j⟩<;>rfl
end
theorem abV(d:Dc)(id:Int):(∃n,(SY d id).nl= .gK [(d.at n).v,.bool true]/\pW d.ly id=Int.ofNat n/\n<d.ly.length)\/((SY d id).nl= .gK [BN.v,.bool false]/\pW d.ly id= -1):=by
 unfold SY pW;cases h:jq d.ly id with
 |some n=>exact .inl ⟨n,rfl,rfl,(iG h).1⟩
 |none=>exact .inr ⟨rfl,rfl⟩
theorem GB(a:Int):V.bool (a !=a)=V.bool false:=aG V.bool (bne_self_eq_false a)
theorem Wd(a:Bool):V.bool (a !=a)=V.bool false:=by cases a<;>rfl
theorem lqR(id:Int)(d e:Dc)(b:Bool)(hs:B9 (dX b d e))(U:∀x∈(dX b d e).ly,xX x.f)(k:Int){hx:Exit->St->Prop}
  (hK:∀T,lB 0 [2,7,9,10,11] T=some (uJ id d e (iB b) [(11,R k)] [] 1)->hx .normal T):
  TG ak 0 Tryz.f6.ntmps V8 (uJ id d e (iB b) [(11,R k)] [] 1) hx:=by
 have hi:=iB2 b
 suffices nx:∀n,TG ak 0 Tryz.f6.ntmps (dH 2 V8) (uJ id d e (iB b) [(11,R k),(12,R n)] [] 1) hx from
  jm 2 (be _) eP (auo id d e b k) (dN (g1 fun _=>⟨all_nil,nx id⟩) (dK (g1 fun _=>⟨all_nil,nx k⟩)))
 intro n;have hL:=V3 hs n;have hA:=Ts (dX b d e) n hs.m.ly;have hP:=Xj (dX b d e) n hs.m;have hQ:=aeX (dX b d e) n hs.m;rw[au2]at hP;rw[au3]at hQ;have hD:=abr hs (fun x K _=>U x K) n;have hE:=ahH hs n;have hU:=abU hs U;have oc:TG ak 0 Tryz.f6.ntmps (dH 8 V8) (uJ id d e (iB b) [(11,R k),(12,R n)] [] 1) hx:=
  gw (ff (SR id 12 fg) hU) eP (aur id d e b k n (FB id 12)) (dK (g0 ⟨X rfl (X hi (X rfl (X hi (X rfl (X (Wd _) (X hi (X rfl (X hi (X rfl (eO (Wd _))))))))))),fun T eu=>hK T eu⟩))
 generalize pq (jN (dX b d e).ly n)=p at hP hQ;generalize DU (dX b d e) n=dp at hD hE;rcases abV (dX b d e) n with⟨m,h1,C,h3⟩|⟨h1,C⟩
 . rw[h1]at hL;rw[C]at hA;have hy:=Nd _ (hs.at m);have hg:V.eo (dU (fR (dX b d e).ly) (m*31) 31)=V.eo ((dX b d e).at m).ds:=ik h3;generalize (dX b d e).at m=y at hL hy hg;refine jm 4 (ff hL (ff hA (ff hP (ff hQ (be _))))) eP (ah6 id d e b k n _ true y p) (dK (g0 ⟨X hi (X rfl (X hi (X rfl (X hi (X rfl (X hi (eO rfl))))))),?_⟩));refine jm 1 (ff hD (ff hE (be _))) eP (ah7 id d e b k n _ dp true y p) (dK (g0 ⟨X (aG V.bool ?_) (X (GB _) (X (GB _) (X (Wd _) (X hi (X rfl (X hi (X rfl (eO (GB _))))))))),?_⟩))
   . rw[show decide (Int.ofNat m>=0)=true from aW (bJ m)];rfl
   exact jm 1 (ff hy (be _)) eP (aup id d e b k n m y) (dK (g0 ⟨X hi (X (iI h3) (X (fS _) (X hg (eO rfl)))),oc⟩))
 . rw[h1]at hL;rw[C]at hA;refine jm 4 (ff hL (ff hA (ff hP (ff hQ (be _))))) eP (ah6 id d e b k n _ false BN p) (dK (g0 ⟨X hi (X rfl (X hi (X rfl (X hi (X rfl (X hi (eO rfl))))))),?_⟩));refine jm 1 (ff hD (ff hE (be _))) eP (ah7 id d e b k n _ dp false BN p) (dK (g0 ⟨X rfl (X (GB _) (X (GB _) (X (Wd _) (X hi (X rfl (X hi (X rfl (eO (GB _))))))))),?_⟩));exact jm 1 (ff (Nd BN sm0) (be _)) eP (auq id d e b k n _) (dK (g0 ⟨eO rfl,oc⟩))
theorem aih(hm:List Int)(h:hm.length<=1000000):ee ak 21 [fD hm,fD hm] (.bool true):=by
 have:=QE hm hm h;rwa [aW rfl]at this
theorem lqT{xs:List Int}{la fi v id:Int}{jA:eV}{d e:Dc}(hs:∀b,B9 (dX b d e)/\(∀x∈(dX b d e).ly,xX x.f)/\(xT (dX b d e)).length<=1000000)(L:ee ak 10 [fD xs] d.v)(A:ee ak 11 [d.v,.agg (wF la fi v (JQ jA))] e.v):
  TG ak 0 Tryz.f6.ntmps ON (dI [fD xs,.agg (wF la fi v jA),R id] .nil 0) (gi ak 0 Tryz.f6 fun u _ _=>u= .bool true):=by
 refine fN 5 (ff (ahW jA) (ff L (ff A aby))) (auh xs la fi v id jA (JQ jA) d e) (X rfl (X rfl (eO rfl))) ?_;refine dY dJ (dY dJ (gw (be _) eP (aui id d e) (dK (g0 ⟨all_nil,fun T eu=>?_⟩))));simp only[andThen];refine je 0 2 (fun i=>uJ id d e i [] [] 1) (fun _=>false) (eJ.norm eu) (fun i hi _ Q' k1 k2 k3=>?_) (fun _ T eu=>?_)
 rotate_left
 . simp only[andThen];exact eu _ _ (eR (be _) (auu id d e) (dK (g0 ⟨all_nil,_,_,_,rfl,rfl⟩)))
 rcases bx i 2 with q|q
 . obtain⟨b,rfl,Tf⟩:∃b,i=iB b/\iB b+1=i+1:=by
    rcases(by omega:i=0\/i=1)with rfl|rfl
    . exact⟨false,rfl,rfl⟩
    . exact⟨true,rfl,rfl⟩
   obtain⟨pQ,rP,N9⟩:=hs b;have hO:=VW pQ (fun x K _=>rP x K);have hR:=VV pQ;have hS:=aih _ N9;refine jm 1 (be _) eP (auj id d e b) (dK (g0 ⟨all_nil,?_⟩));refine dY dJ (fJ (i:=1) dJ ?_);refine jm 1 (ff hO (ff hR (ff hS (be _)))) eP (aul id d e b _) (dK (g0 ⟨X (iB2 b) (X rfl (X (iB2 b) (X rfl (eO rfl)))),?_⟩));refine jm 1 (be _) eP (aum id d e b) (dK (g0 ⟨all_nil,?_⟩));refine je 2 14 (fun j=>uJ id d e (iB b) [(11,R (Int.ofNat j-1))] [] 1) (fun _=>false) .refl (fun j hj _ Q2 m1 m2 m3=>?_) (fun _ T eu=>?_)
   rotate_left
   . simp only[gT,andThen];exact eu _ _ (gw (be _) eP (aut id d e b _) (dK (g0 ⟨all_nil,fun T eu=>k1 q rfl T (eJ.norm eu)⟩)))
   refine jm 1 (be _) eP (aun id d e b _) (dN (g1 fun h=>⟨all_nil,?_⟩) (dK (g1 fun h=>⟨all_nil,fun T eu=>m2 (by have:=bt h;simp only[gD]at this;omega) T (eJ.norm eu)⟩)));have qj:=aZ h;refine dY dJ (fJ (i:=3) dJ (lqR id d e b pQ rP _ fun T eu=>?_));simp only[gT,andThen];refine gj eu (gw (be _) eP (aus id d e b _ (Int.ofNat (j+1)-1)) (dK (g0 ⟨eO (aG (V.int .i64) ?_),fun T eu=>m1 (by simp only[gD]at qj;omega) rfl T (eJ.norm eu)⟩)));rw[iz (by simp only[gD]at *;omega) (by simp only[gD]at *;omega)];simp only[gD];omega
 . obtain rfl:i=2:=by omega
   exact jm 1 (be _) eP (auk id d e) (dK (g0 ⟨all_nil,fun T eu=>k2 S T (eJ.norm eu)⟩))
theorem JR(d:Dc):(xT d).length<=1000000:=by
 unfold xT;split
 . rename_i h;have h:=tV (d:=d) (by unfold TD at h;simpa using h);have:=FA h;have:=h.Tz.2.1;omega
 . exact aR _
theorem Tb(xs:List Int)(la fi v id:Int)(jA:eV)(U:xX jA.f):TG ak 0 Tryz.f6.ntmps ON (dI [fD xs,.agg (wF la fi v jA),R id] .nil 0) (gi ak 0 Tryz.f6 fun u _ _=>u= .bool true):=by
 obtain⟨h1,C⟩:=RV xs 8;have hd:=ahZ h1 C;have hr:gdR (JQ jA):=⟨by show(jA.gx.take 3).length<=_;rw[bf];omega,U.k,U.r,U.dv,U.vl⟩;refine lqT (fun b=>?_) (abA xs) (S6 hd la fi v (JQ jA));cases b with
 |false=>exact⟨(XB hd).1,(XB hd).2,JR _⟩
 |true=>exact⟨(XA hd la fi v hr).1,(XA hd la fi v hr).2,JR _⟩
end Go.Proofs.YtmjggdmekboefaaGreat.Q
