/- The Doc laws: the program's tree: pieces. No conditions. -/
import Derived.Test.YtmjggdmekboefaaGreatJointW10
import Derived.Test.YtmjggdmekboefaaGreatJointW11
set_option linter.unusedVariables false
set_option linter.unusedSimpArgs false
set_option linter.unusedSectionVars false
namespace Go.Proofs.YtmjggdmekboefaaGreat
open Go Go.Eng
set_option maxRecDepth 10000
def kI(d:Dc)(X:ae):I O:=W [(0,.cells (d.T++[.map (some 1)])),(1,.gh (some .i64) X)]
noncomputable abbrev acR:Code:=dG Tryz.f44
abbrev pT:V:=.ptr (some (0,0))
theorem al6(d:Dc)(X:List (Eng.D×Eng.D))(id:Int)(n:Nat)(x:eG):dn (U dY []) [(14,.dy (.gC [M n,.bool true])),(26,.dy (.dr x.ds))] 2 Tryz.f44 [] (acR) (dw [pT,L id] (kI d X) 2) [([],
   [((if true=true then V.gC [D.kA (V.int B (0:Int)) (fe (D.int B id) X),V.bool (fe (D.int B id) X).isSome]else D.kA (V.int B (0:Int)) (fe (D.int B id) X))=V.gC [M n,V.bool true]),((0:Int)<=Int.ofNat n/\Int.ofNat n<(Int.ofNat d.ly.length)),((eX d.ly).length=d.ly.length*31),(V.dr (dj (eX d.ly) (n*31) 31)=V.dr x.ds)],
   .ret (.gC [.agg [.int .i64 (x.id),.int .i64 (x.kd),.str (x.nm),.bool (x.hid),.int .i64 (x.op),.int .i64 (x.md),.bool (x.clip),.int .i64 (x.pl.a),.int .i64 (x.pl.b),.int .i64 (x.pl.c),.int .i64 (x.pl.d),.int .i64 (x.pl.e),.int .i64 (x.pl.f),.int .i64 (x.pl.n),.int .i64 (x.sp),.eo false (x.kids.length) (dM x.kids),.int .i64 (x.of),.int .i64 (x.f.k),.int .i64 (x.f.r),.eo false (x.f.eK.length) (dM x.f.eK),.int .i64 (x.f.dv),.int .i64 (x.f.vl),.eo false (x.f.cu.length) (dM x.f.cu),.int .u8 (x.fi.r),.int .u8 (x.fi.g),.int .u8 (x.fi.b),.int .u8 (x.fi.a),.eo false (x.gU.length) (qO x.gU),.eo false (x.fZ.length) (jv x.fZ),.bool (x.S),.eo false (x.iD.length) (jv x.iD)],.bool true]) (W [(0,.cells [.eo false (d.sp.length) (lT d.sp),.int .i64 (d.root),.int .i64 (d.nx),.eo false (d.ly.length) (eX d.ly),.map (some 1)]),(1,.gh (some .i64) X)]) 2)]
 :=dh.of C C C
theorem al7(d:Dc)(X:List (Eng.D×Eng.D))(id:Int):dn (U dY []) [(14,.dy (.gC [L 0,.bool false]))] 2 Tryz.f44 [] (acR) (dw [pT,L id] (kI d X) 2) [([],
   [((if true=true then V.gC [D.kA (V.int B (0:Int)) (fe (D.int B id) X),V.bool (fe (D.int B id) X).isSome]else D.kA (V.int B (0:Int)) (fe (D.int B id) X))=V.gC [L (0:Int),V.bool false])],
   .ret (.gC [.agg [.int .i64 0,.int .i64 0,.str [],.bool false,.int .i64 0,.int .i64 0,.bool false,.int .i64 0,.int .i64 0,.int .i64 0,.int .i64 0,.int .i64 0,.int .i64 0,.int .i64 0,.int .i64 0,.eS none 0 0 0,.int .i64 0,.int .i64 0,.int .i64 0,.eS none 0 0 0,.int .i64 0,.int .i64 0,.eS none 0 0 0,.int .u8 0,.int .u8 0,.int .u8 0,.int .u8 0,.eS none 0 0 0,.eS none 0 0 0,.bool false,.eS none 0 0 0],.bool false]) (W [(0,.cells [.eo false (d.sp.length) (lT d.sp),.int .i64 (d.root),.int .i64 (d.nx),.eo false (d.ly.length) (eX d.ly),.map (some 1)]),(1,.gh (some .i64) X)]) 2)]
 :=dh.of C C C
section
variable(f:FuncId)(rest:ag)
def HZ(d:Dc)(X:List (Eng.D×Eng.D))(v:V):ag->I O->Nat->Option (ah×V×I O×Nat):=fun args h k=>some ([args=pT::rest,h=kI d X,k=2],v,kI d X,2)
def ng(d:Dc)(X:List (Eng.D×Eng.D))(v:V):Prop:=kE ak f (wT (HZ rest d X v))
def qg(d:Dc)(X:List (Eng.D×Eng.D))(v:V)(hm:gy):gy:=lC f (wT (HZ rest d X v)) hm
end
theorem mz{f:FuncId}{rest:ag}{d:Dc}{X:List (Eng.D×Eng.D)}{v:V}{hm:gy}(h:ng f rest d X v)(hS:eR ak hm):eR ak (qg f rest d X v hm):=fQ h hS
theorem Ej{f:FuncId}{fn:Func}{rest:ag}{d:Dc}{X:List (Eng.D×Eng.D)}{v:V}(hf:Tryz.prog.funcs[f]? =some fn)(hT:TG ak 2 fn.ntmps (dG fn) (dw (pT::rest) (kI d X) 2) (fD ak 2 fn fun a b c=>a=v/\b=kI d X/\c=2))
  (eM:Nat.blt f Tryz.prog.funcs.size=true:=by kernel_rfl) (hb:fn.body=some (dG fn):=by kernel_rfl) (l:(Nat.ble (pT::rest).length fn.ntmps&&Nat.blt fn.ntmps fV)=true:=by kernel_rfl):ng f rest d X v:=
 Lc mo po (az eM) hf hb fun args h k s' v' h' k' e hA=>by
  simp only[HZ,aq,aF]at e;obtain⟨rfl,rfl,rfl,rfl⟩:=e;have Q:args=pT::rest:=hA _ (by simp);have R:h=kI d X:=hA (h=kI d X) (by simp);have h3:k=2:=hA (k=2) (by simp);subst Q R h3;exact⟨l,hT⟩
noncomputable abbrev MG:Code:=dG Tryz.f95
def XG(d:Dc)(X:List (Eng.D×Eng.D))(x:eG)(r:List (Nat×V)):St:=ff ([(0,pT),(5,.ptr (some (2,0)))]++r) (W [(0,.cells (d.T++[.map (some 1)])),(1,.gh (some .i64) X),(2,.cells x.T)]) 3
theorem al8(d:Dc)(X:List (Eng.D×Eng.D))(id:Int)(x:eG):dn (U (qg 44 [L id] d X (.gC [x.v,.bool true]) dY) []) [] 2 Tryz.f95 [0,5] (dN 2 MG) (dw [pT,L id] (kI d X) 2) [([],
   [([V.ptr (some (0,0)),V.int B id]=[pT,L id]),((I.nil.set 0 (some (O.cells [V.eo false d.sp.length (lT d.sp),V.int B d.root,V.int B d.nx,V.eo false d.ly.length (eX d.ly),V.map (some 1)]))).set 1 (some (O.gh (some B) X))=kI d X),(2=2)],
   .to .normal (XG d X x []))]
 :=dh.of C C C
theorem al9(d:Dc)(X:List (Eng.D×Eng.D))(x:eG):dn (U dY []) [] 2 Tryz.f95 [0,5,15] (dB (dB (dm 2 MG))) (XG d X x []) [([],
   [],
   .to .normal (XG d X x [(15,.bool (x.kd==(4:Int)))]))]
 :=dh.of C C C
theorem ama(d:Dc)(X:List (Eng.D×Eng.D))(x:eG):dn (U dY []) [] 2 Tryz.f95 [4] (dB (lH (dP (dB (dm 2 MG))))) (XG d X x [(15,.bool true)]) [([],
   [],
   .to .normal (ff [(4,.eS (some (2,0)) 1 1 1)] (W [(0,.cells [.eo false (d.sp.length) (lT d.sp),.int .i64 (d.root),.int .i64 (d.nx),.eo false (d.ly.length) (eX d.ly),.map (some 1)]),(1,.gh (some .i64) X),(2,.cells [.int .i64 (x.of)])]) 3))]
 :=dh.of C C C
theorem amb(d:Dc)(X:List (Eng.D×Eng.D))(ks:List Int):dn (U dY []) [] 2 Tryz.f95 [] (dP (lH (dP (dB (dm 2 MG))))) (ff [(4,fg ks)] (kI d X) 2) [([],
   [],
   .ret (.eo false (ks.length) (dM ks)) (W [(0,.cells [.eo false (d.sp.length) (lT d.sp),.int .i64 (d.root),.int .i64 (d.nx),.eo false (d.ly.length) (eX d.ly),.map (some 1)]),(1,.gh (some .i64) X)]) 2)]
 :=dh.of C C C
theorem amc(d:Dc)(X:List (Eng.D×Eng.D))(x:eG):dn (U dY []) [] 2 Tryz.f95 [0,5] (oH (dP (dB (dm 2 MG)))) (XG d X x [(15,.bool false)]) [([],
   [],
   .to .normal (XG d X x []))]
 :=dh.of C C C
theorem amd(d:Dc)(X:List (Eng.D×Eng.D))(x:eG):dn (U dY []) [] 2 Tryz.f95 [] (dP (dm 2 MG)) (XG d X x []) [([],
   [],
   .ret (.eo false (x.kids.length) (dM x.kids)) (W [(0,.cells [.eo false (d.sp.length) (lT d.sp),.int .i64 (d.root),.int .i64 (d.nx),.eo false (d.ly.length) (eX d.ly),.map (some 1)]),(1,.gh (some .i64) X)]) 2)]
 :=dh.of C C C
set_option maxRecDepth 10000
def yl(d:Dc)(X:List (Eng.D×Eng.D)):Prop:=∀k,fe (.int .i64 k) X=(kr d.ly k).map fun n=>.int .i64 (Int.ofNat n)
theorem mb{d:Dc}{X:List (Eng.D×Eng.D)}(h:yl d X){id:Int}{n:Nat}(hn:kr d.ly id=some n):ng 44 [L id] d X (.gC [(d.at n).v,.bool true]):=by
 obtain⟨eM,_,_⟩:=jG hn;have hl:=h id;rw[hn]at hl;refine Ej Tryz.func44 (eI (dg _) (al6 d X id n (d.at n)) (dA (g0 ⟨J (by rw[hl];rfl) (J (iM eM) (J (fR _) (eC (iq eM)))),_,_,_,rfl,rfl,rfl,rfl⟩)))
def Te:V:=.agg (M7 0 0 z7 0)
theorem wU{d:Dc}{X:List (Eng.D×Eng.D)}(h:yl d X){id:Int}(hn:kr d.ly id=none):ng 44 [L id] d X (.gC [Te,.bool false]):=by
 have hl:=h id;rw[hn]at hl;refine Ej Tryz.func44 (eI (dg _) (al7 d X id) (dA (g0 ⟨eC (by rw[hl];rfl),_,_,_,rfl,rfl,rfl,rfl⟩)))
theorem wV{d:Dc}{X:List (Eng.D×Eng.D)}(h:yl d X){id:Int}{n:Nat}(hn:kr d.ly id=some n):ng 95 [L id] d X (fg (fH (d.at n))):=by
 generalize H:d.at n=x;have W:=mb h hn;rw[H]at W;refine Ej Tryz.func95 (fu 2 (mz W (dg _)) (al8 d X id x) (J rfl (J rfl (eC rfl))) ?_);refine dI C (pF (dg _) eH (al9 d X x) (dA (g0 ⟨all_nil,?_⟩)));refine jK (t:=x.kd==(4:Int)) C C (fun q=>?_) (fun q=>?_)
 . rw[q];refine pF (dg _) eH (ama d X x) (dA (g0 ⟨all_nil,?_⟩));refine dZ.HF [2] [4] (hm:=ff [(4,fg [x.of])] (kI d X) 2) (s':=[(dM [x.of]).length=1*1]) C (eC rfl) _ _ ?_;have e:fH x=[x.of]:=aE (wP.1 q);rw[e];exact gz (dg _) (fun a b c=>a=fg [x.of]/\b=kI d X/\c=2) (amb d X [x.of]) (dA (g0 ⟨all_nil,⟨rfl,rfl,rfl⟩,fun _ h=>h⟩))
 . rw[q];have e:fH x=x.kids:=aB (CK q);rw[e];refine gz (dg _) eH (amc d X x) (dA (g0 ⟨all_nil,fun A dU=>?_⟩));simp only[andThen];exact fU dU (eI (dg _) (amd d X x) (dA (g0 ⟨all_nil,_,_,_,rfl,rfl,rfl,rfl⟩)))
set_option maxRecDepth 10000
noncomputable abbrev Qc:Code:=dG Tryz.f48
noncomputable abbrev XI:Code:=dm 1 (dP (dm 2 Qc))
noncomputable abbrev bDq:Code:=dD (dD (dP (dB XI)))
def ZF(d:Dc)(X:List (Eng.D×Eng.D))(id:Int)(x:eG)(r:List (Nat×V)):St:=ff ([(0,pT),(1,L id),(5,.ptr (some (2,0)))]++r) (W [(0,.cells (d.T++[.map (some 1)])),(1,.gh (some .i64) X),(2,.cells x.T)]) 3
def XJ(d:Dc)(X:List (Eng.D×Eng.D))(m:Int)(ps:List Int)(i:Nat):St:=ff [(0,pT),(7,L m),(26,fg ps),(27,M ps.length),(28,M i)] (kI d X) 2
theorem ame(d:Dc)(X:List (Eng.D×Eng.D))(id:Int)(x:eG):dn (U (qg 44 [L id] d X (.gC [x.v,.bool true]) dY) []) [] 2 Tryz.f48 [0,1,5] (dN 2 Qc) (dw [pT,L id] (kI d X) 2) [([],
   [([V.ptr (some (0,0)),V.int B id]=[pT,L id]),((I.nil.set 0 (some (O.cells [V.eo false d.sp.length (lT d.sp),V.int B d.root,V.int B d.nx,V.eo false d.ly.length (eX d.ly),V.map (some 1)]))).set 1 (some (O.gh (some B) X))=kI d X),(2=2)],
   .to .normal (ZF d X id x []))]
 :=dh.of C C C
theorem amf(d:Dc)(X:List (Eng.D×Eng.D))(id:Int)(x:eG):dn (U dY []) [(18,.split),(22,.split)] 2 Tryz.f48 [0,1,5] (dB (dm 2 Qc)) (ZF d X id x []) [([((x.kd !=(2:Int)),true),((x.kd !=(4:Int)),true)],
   [],
   .ret (.int .i64 0) (kI d X) 2),
  ([((x.kd !=(2:Int)),true),((x.kd !=(4:Int)),false)],
   [],
   .to .normal (ZF d X id x [])),
  ([((x.kd !=(2:Int)),false)],
   [],
   .to .normal (ZF d X id x []))]
 :=dh.of C C C
theorem amg(d:Dc)(X:List (Eng.D×Eng.D))(id:Int)(x:eG):dn (U dY []) [] 2 Tryz.f48 [0,1,7] (dN 1 (dP (dm 2 Qc))) (ZF d X id x []) [([],
   [],
   .to .normal (ff [(0,pT),(1,L id),(7,L 0)] (kI d X) 2))]
 :=dh.of C C C
theorem acS(d:Dc)(X:List (Eng.D×Eng.D))(id:Int)(ps:List Int):dn (U (qg 95 [L id] d X (fg ps) dY) []) [] 2 Tryz.f48 [0,7,26,27,28] (dB (dB XI)) (ff [(0,pT),(1,L id),(7,L 0)] (kI d X) 2) [([],
   [([V.ptr (some (0,0)),V.int B id]=[pT,L id]),((I.nil.set 0 (some (O.cells [V.eo false d.sp.length (lT d.sp),V.int B d.root,V.int B d.nx,V.eo false d.ly.length (eX d.ly),V.map (some 1)]))).set 1 (some (O.gh (some B) X))=kI d X),(2=2)],
   .to .normal (XJ d X 0 ps 0))]
 :=dh.of C C C
theorem amh(d:Dc)(X:List (Eng.D×Eng.D))(ps:List Int)(i:Nat)(m p a:Int):dn (U (qg 48 [L p] d X (L a) dY) []) [(29,.dy (.bool true)),(30,.dy (.dr [.int .i64 p])),(37,.dy (M (i+1)))] 2 Tryz.f48 [0,7,26,27,28] (bDq) (XJ d X m ps i) [([],
   [(V.bool (decide (Int.ofNat i<Int.ofNat ps.length))=V.bool true),((0:Int)<=Int.ofNat i/\Int.ofNat i<(Int.ofNat ps.length)),((dM ps).length=ps.length*1),(V.dr (dj (dM ps) (i*1) 1)=V.dr [D.int B p]),([V.ptr (some (0,0)),V.int B p]=[pT,L p]),((I.nil.set 0 (some (O.cells [V.eo false d.sp.length (lT d.sp),V.int B d.root,V.int B d.nx,V.eo false d.ly.length (eX d.ly),V.map (some 1)]))).set 1 (some (O.gh (some B) X))=kI d X),(2=2),(V.int B (IntKind.i64.wrap (Int.ofNat i+(1:Int)))=M (i+1))],
   .to .normal (XJ d X (FF m a) ps (i+1)))]
 :=dh.of C C C
theorem acT(d:Dc)(X:List (Eng.D×Eng.D))(ps:List Int)(i:Nat)(m:Int):dn (U dY []) [(29,.dy (.bool false))] 2 Tryz.f48 [0,7,26,27,28] (bDq) (XJ d X m ps i) [([],
   [(V.bool (decide (Int.ofNat i<Int.ofNat ps.length))=V.bool false)],
   .to (.exit 0) (XJ d X m ps i))]
 :=dh.of C C C
theorem ami(d:Dc)(X:List (Eng.D×Eng.D))(ps:List Int)(i:Nat)(m:Int):dn (U dY []) [] 2 Tryz.f48 [] (dP XI) (XJ d X m ps i) [([],
   [],
   .ret (.int .i64 (IntKind.i64.wrap (m+(1:Int)))) (W [(0,.cells [.eo false (d.sp.length) (lT d.sp),.int .i64 (d.root),.int .i64 (d.nx),.eo false (d.ly.length) (eX d.ly),.map (some 1)]),(1,.gh (some .i64) X)]) 2)]
 :=dh.of C C C
set_option maxRecDepth 10000
def ZG(ls:List eG):Prop:=∀x∈ls,∀p∈fH x,∃n,kr ls p=some n
theorem jR.clo{d:Dc}(h:jR d):ZG d.ly:=fun x H p hp=>by
 unfold fH at hp;split at hp
 . rename_i h4;rw[aG]at hp;subst hp;have:=h.c x H;unfold zF at this;rw[h4]at this;cases hn:kr d.ly x.of with
   |none=>rw[hn]at this;cases this
   |some n=>exact⟨n,rfl⟩
 . exact zE (h.k x H) hp
theorem JZ(d:Dc)(X:List (Eng.D×Eng.D))(h:yl d X)(hd:Fy d)(K:ZG d.ly)(rk:Int->Nat)(hrk:JN d.ly rk):∀k,k<=1000->∀id n,kr d.ly id=some n->rk id<k->ng 48 [L id] d X (L (jQ d.ly k id)):=by
 intro k
 induction k with
 |zero=>intro _ id _ _ h;exact absurd h (bX _)
 |succ k ih=>
  intro Y id n hn at5;have W:=mb h hn;have hP:=wV h hn;obtain⟨eM,hid,I5⟩:=jG hn;have vG:∀p∈fH (d.at n),∃m,kr d.ly p=some m:=K _ I5;have UK:=hd.kids _ I5;have hrx:=hrk id n hn;have hv:jQ d.ly (k+1) id=if((d.at n).kd !=2&&(d.at n).kd !=4)=true then 0 else(fH (d.at n)).foldl (fun m p=>FF m (jQ d.ly k p)) 0+1:=by
   rw[jQ,hn];rfl
  change (isK (d.at n)=true->∀p∈fH (d.at n),rk p<rk id)at hrx;change (d.at n).kids.length<=1000000 at UK;generalize d.at n=x at *;refine Ej Tryz.func48 (fu 2 (mz W (dg _)) (ame d X id x) (J rfl (J rfl (eC rfl))) ?_);have vt:(x.kd !=2&&x.kd !=4)=false->TG ak 2 Tryz.f48.ntmps (dP (dm 2 Qc)) (ZF d X id x []) (fD ak 2 Tryz.f48 fun a b c=>a=L (jQ d.ly (k+1) id)/\b=kI d X/\c=2):=fun VM=>by
   rw[hv,VM,aB fa];have hp:∀p∈fH x,rk p<k:=fun p hp=>by
    have:=hrx (by unfold isK;rw[VM];rfl) p hp;omega
   have hl:(fH x).length<=1000000:=by
    unfold fH;split
    . simp
    . exact UK
   refine fu 1 (dg _) (amg d X id x) all_nil ?_;generalize fH x=ps at *;refine dI C (dI C (gz (mz hP (dg _)) eH (acS d X id ps) (dA (g0 ⟨J rfl (J rfl (eC rfl)),fun A dU=>?_⟩))));simp only[andThen];refine iQ 0 ps.length (fun i=>XJ d X ((ps.take i).foldl (fun m p=>FF m (jQ d.ly k p)) 0) ps i) (fun _=>false) (dZ.norm dU) (fun i hi hj Q' m1 m2 m3=>?_) (fun Q A dU=>?_)
   . rcases br i ps.length with q|q
     . have hg:=fJ (l:=ps) q;have S:ps.getD i 0∈ps:=by rw[ax,au q];exact bK q
       have ht:(ps.take (i+1)).foldl (fun m p=>FF m (jQ d.ly k p)) 0=FF ((ps.take i).foldl (fun m p=>FF m (jQ d.ly k p)) 0) (jQ d.ly k (ps.getD i 0)):=by
        rw[b9,getD_some 0 q,Option.toList_some,List.foldl_append];rfl
       obtain⟨n2,o4⟩:=vG _ S;refine gz (mz (ih G (ps.getD i 0) n2 o4 (hp _ S)) (dg _)) eH (amh d X ps i _ (ps.getD i 0) (jQ d.ly k (ps.getD i 0))) (dA (g0 ⟨J (aH V.bool (aY (cg.2 q))) (J (iM q) (J (ew ps) (J hg (J rfl (J rfl (J rfl (eC (gJ G)))))))),fun A dU=>m1 q rfl A ?_⟩));rw[ht];exact dZ.norm dU
     . obtain rfl:i=ps.length:=by omega
       exact gz (dg _) eH (acT d X ps _ _) (dA (g0 ⟨eC (aH V.bool (aU (by simp only[gT];omega))),fun A dU=>m2 rfl A (dZ.norm dU)⟩))
   simp only[andThen];refine dU _ _ (eI (dg _) (ami d X ps ps.length _) (dA (g0 ⟨all_nil,_,_,_,rfl,?_,rfl,rfl⟩)));rw[bD];have R:=CG (l:=ps) (f:=jQ d.ly k) (b:=Int.ofNat k) (fun p _=>FG d.ly k p) 0 (bS _);have h3:=HR (l:=ps) (f:=jQ d.ly k) 0;generalize ps.foldl (fun m p=>FF m (jQ d.ly k p)) 0=z at R h3 ⊢;exact aH (V.int .i64) (ik G (by simp only[gT]at R;omega))
  refine pF (dg _) (fun a b c=>a=L (jQ d.ly (k+1) id)/\b=kI d X/\c=2) (amf d X id x) (dz (g2 fun Q R=>⟨all_nil,⟨by rw[hv,Q,R];rfl,rfl,rfl⟩,fun _ h=>h⟩) (dz (g2 fun Q R=>⟨all_nil,vt (by rw[Q,R];rfl)⟩) (dA (g1 fun Q=>⟨all_nil,vt (by rw[Q];rfl)⟩))))
set_option maxRecDepth 10000
noncomputable abbrev acU:Code:=dG Tryz.f45
noncomputable abbrev MH:Code:=dG Tryz.f97
def hC(d:Dc)(X:List (Eng.D×Eng.D))(f:Nat)(t:Int)(sn:List (Eng.D×Eng.D)):I O:=W [(0,.cells [.fn (.func f) [.ptr (some (1,0))] []]),(1,.cells (d.T++[.map (some 2)])),(2,.gh (some .i64) X),(3,.cells [L t]),(4,.cells [.map (some 5)]),(5,.gh (some .i64) sn),(6,.cells [.fn (.func 97) [] [.ptr (some (0,0)),.ptr (some (3,0)),.ptr (some (4,0)),.ptr (some (6,0))]])]
abbrev aC(x:Int):ag:=[L x,.ptr (some (0,0)),.ptr (some (3,0)),.ptr (some (4,0)),.ptr (some (6,0))]
def Tf(d:Dc)(X:List (Eng.D×Eng.D))(f:Nat)(t x:Int)(sn J0:List (Eng.D×Eng.D))(b:Bool):ag->I O->Nat->Option (ah×V×I O×Nat):=fun args h k=>some ([args=aC x,h=hC d X f t sn,k=7],.bool b,hC d X f t J0,7)
def XK(d:Dc)(X:List (Eng.D×Eng.D))(f:Nat)(t x:Int)(sn J0:List (Eng.D×Eng.D))(b:Bool):Prop:=kE ak 97 (wT (Tf d X f t x sn J0 b))
def sC(d:Dc)(X:List (Eng.D×Eng.D))(f:Nat)(t:Int)(ps:List Int)(i:Nat)(sn:List (Eng.D×Eng.D))(r:List (Nat×V)):St:=ff ([(1,.ptr (some (0,0))),(2,.ptr (some (3,0))),(3,.ptr (some (4,0))),(4,.ptr (some (6,0))),(11,fg ps),(12,M ps.length),(13,M i)]++r) (hC d X f t sn) 7
noncomputable abbrev bRy:Code:=dD (dD (dP (dB (dm 1 MH))))
theorem amj(d:Dc)(X:List (Eng.D×Eng.D))(f:Nat)(t x:Int)(sn:List (Eng.D×Eng.D)):dn (U dY []) [] 7 Tryz.f97 [0,1,2,3,4] (dN 1 MH) (dw (aC x) (hC d X f t sn) 7) [([],
   [],
   .to .normal (dw (aC x) (hC d X f t sn) 7))]
 :=dh.of C C C
theorem amk(d:Dc)(X:List (Eng.D×Eng.D))(t x:Int)(sn:List (Eng.D×Eng.D))(ps:List Int):dn (U (qg 95 [L x] d X (fg ps) dY) []) [] 7 Tryz.f97 [1,2,3,4,11,12,13] (dB (dB (dm 1 MH))) (dw (aC x) (hC d X 95 t sn) 7) [([],
   [([V.ptr (some (0,0)),V.int B x]=[pT,L x]),((I.nil.set 0 (some (O.cells [V.eo false d.sp.length (lT d.sp),V.int B d.root,V.int B d.nx,V.eo false d.ly.length (eX d.ly),V.map (some 1)]))).set 1 (some (O.gh (some B) X))=kI d X),(2=2)],
   .to .normal (sC d X 95 t ps 0 sn []))]
 :=dh.of C C C
theorem acV(d:Dc)(X:List (Eng.D×Eng.D))(t x:Int)(sn:List (Eng.D×Eng.D))(ps:List Int):dn (U (qg 46 [L x] d X (fg ps) dY) []) [] 7 Tryz.f97 [1,2,3,4,11,12,13] (dB (dB (dm 1 MH))) (dw (aC x) (hC d X 46 t sn) 7) [([],
   [([V.ptr (some (0,0)),V.int B x]=[pT,L x]),((I.nil.set 0 (some (O.cells [V.eo false d.sp.length (lT d.sp),V.int B d.root,V.int B d.nx,V.eo false d.ly.length (eX d.ly),V.map (some 1)]))).set 1 (some (O.gh (some B) X))=kI d X),(2=2)],
   .to .normal (sC d X 46 t ps 0 sn []))]
 :=dh.of C C C
theorem aml(d:Dc)(X:List (Eng.D×Eng.D))(f:Nat)(t:Int)(sn:List (Eng.D×Eng.D))(ps:List Int)(i:Nat)(k:Int):dn (U dY []) [(14,.dy (.bool true)),(15,.dy (.dr [.int .i64 k])),(19,.dy (.bool true))] 7 Tryz.f97 [1,2,3,4,11,12,13] (bRy) (sC d X f t ps i sn []) [([],
   [(V.bool (decide (Int.ofNat i<Int.ofNat ps.length))=V.bool true),((0:Int)<=Int.ofNat i/\Int.ofNat i<(Int.ofNat ps.length)),((dM ps).length=ps.length*1),(V.dr (dj (dM ps) (i*1) 1)=V.dr [D.int B k]),(V.bool (k==t)=V.bool true)],
   .ret (.bool true) (hC d X f t sn) 7)]
 :=dh.of C C C
theorem amm(d:Dc)(X:List (Eng.D×Eng.D))(f:Nat)(t:Int)(sn:List (Eng.D×Eng.D))(ps:List Int)(i:Nat)(k:Int):dn (U dY []) [(14,.dy (.bool true)),(15,.dy (.dr [.int .i64 k])),(19,.dy (.bool false)),(22,.dy (.bool true)),(29,.dy (M (i+1)))] 7 Tryz.f97 [1,2,3,4,11,12,13] (bRy) (sC d X f t ps i sn []) [([],
   [(V.bool (decide (Int.ofNat i<Int.ofNat ps.length))=V.bool true),((0:Int)<=Int.ofNat i/\Int.ofNat i<(Int.ofNat ps.length)),((dM ps).length=ps.length*1),(V.dr (dj (dM ps) (i*1) 1)=V.dr [D.int B k]),(V.bool (k==t)=V.bool false),((if false=true then V.gC [D.kA (V.bool false) (fe (D.int B k) sn),V.bool (fe (D.int B k) sn).isSome]else D.kA (V.bool false) (fe (D.int B k) sn))=V.bool true),(V.int B (IntKind.i64.wrap (Int.ofNat i+(1:Int)))=M (i+1))],
   .to .normal (sC d X f t ps (i+1) sn []))]
 :=dh.of C C C
abbrev Qd(d:Dc)(X:List (Eng.D×Eng.D))(f:Nat)(t:Int)(sn:List (Eng.D×Eng.D))(k:Int):Prop:=((((((I.nil.set 0 (some (O.cells [V.fn (Fn.func f) [V.ptr (some (1,0))] []]))).set 1 (some (O.cells [V.eo false d.sp.length (lT d.sp),V.int B d.root,V.int B d.nx,V.eo false d.ly.length (eX d.ly),V.map (some 2)]))).set 2 (some (O.gh (some B) X))).set 3 (some (O.cells [V.int B t]))).set 4 (some (O.cells [V.map (some 5)]))).set 5 (some (O.gh (some B) (nw (D.int B k) (D.bool true) sn)))).set 6 (some (O.cells [V.fn (Fn.func (97:FuncId)) [] [V.ptr (some (0,0)),V.ptr (some (3,0)),V.ptr (some (4,0)),V.ptr (some (6,0))]]))=hC d X f t (nw (D.int B k) (D.bool true) sn)
abbrev Qe(sn:List (Eng.D×Eng.D))(k:Int):Prop:=(if false=true then V.gC [D.kA (V.bool false) (fe (D.int B k) sn),V.bool (fe (D.int B k) sn).isSome]else D.kA (V.bool false) (fe (D.int B k) sn))=V.bool false
theorem amn(d:Dc)(X:List (Eng.D×Eng.D))(f:Nat)(t:Int)(sn J0:List (Eng.D×Eng.D))(ps:List Int)(i:Nat)(k:Int)(b:Bool):dn (U (lC 97 (wT (Tf d X f t k (nw (.int .i64 k) (.bool true) sn) J0 b)) dY) []) [(14,.dy (.bool true)),(15,.dy (.dr [.int .i64 k])),(19,.dy (.bool false)),(22,.dy (.bool false)),(29,.dy (M (i+1))),(28,.split)] 7 Tryz.f97 [1,2,3,4,11,12,13] (bRy) (sC d X f t ps i sn []) [([(b,true)],
   [(V.bool (decide (Int.ofNat i<Int.ofNat ps.length))=V.bool true),((0:Int)<=Int.ofNat i/\Int.ofNat i<(Int.ofNat ps.length)),((dM ps).length=ps.length*1),(V.dr (dj (dM ps) (i*1) 1)=V.dr [D.int B k]),(V.bool (k==t)=V.bool false),Qe sn k,([V.int B k,V.ptr (some (0,0)),V.ptr (some (3,0)),V.ptr (some (4,0)),V.ptr (some (6,0))]=aC k),Qd d X f t sn k,(7=7)],
   .ret (.bool true) (hC d X f t J0) 7),
  ([(b,false)],
   [(V.bool (decide (Int.ofNat i<Int.ofNat ps.length))=V.bool true),((0:Int)<=Int.ofNat i/\Int.ofNat i<(Int.ofNat ps.length)),((dM ps).length=ps.length*1),(V.dr (dj (dM ps) (i*1) 1)=V.dr [D.int B k]),(V.bool (k==t)=V.bool false),Qe sn k,([V.int B k,V.ptr (some (0,0)),V.ptr (some (3,0)),V.ptr (some (4,0)),V.ptr (some (6,0))]=aC k),Qd d X f t sn k,(7=7),(V.int B (IntKind.i64.wrap (Int.ofNat i+(1:Int)))=M (i+1))],
   .to .normal (sC d X f t ps (i+1) J0 []))]
 :=dh.of C C C
theorem amo(d:Dc)(X:List (Eng.D×Eng.D))(f:Nat)(t:Int)(sn:List (Eng.D×Eng.D))(ps:List Int)(i:Nat):dn (U dY []) [(14,.dy (.bool false))] 7 Tryz.f97 [1,2,3,4,11,12,13] (bRy) (sC d X f t ps i sn []) [([],
   [(V.bool (decide (Int.ofNat i<Int.ofNat ps.length))=V.bool false)],
   .to (.exit 0) (sC d X f t ps i sn []))]
 :=dh.of C C C
theorem amp(d:Dc)(X:List (Eng.D×Eng.D))(f:Nat)(t:Int)(sn:List (Eng.D×Eng.D))(ps:List Int)(i:Nat):dn (U dY []) [] 7 Tryz.f97 [] (dP (dm 1 MH)) (sC d X f t ps i sn []) [([],
   [],
   .ret (.bool false) (hC d X f t sn) 7)]
 :=dh.of C C C
set_option maxRecDepth 10000
abbrev Sn:=List (Eng.D×Eng.D)
theorem rW(x y:Int)(v:Eng.D):∀X:Sn,fe (.int .i64 x) (nw (.int .i64 y) v X)=if x=y then some v else fe (.int .i64 x) X
 | []=>by
   simp only[nw,fe,gK];by_cases h:x=y
   . simp[h]
   . simp[h]
 |e::X=>by
  have ih:=rW x y v X;simp only[nw];cases Y:gK (.int .i64 y) e.1 with
  |true=>
   simp only[fe];by_cases h:x=y
   . subst h;rw[Y];simp[gK]
   . have R:gK (.int .i64 x) (.int .i64 y)=false:=by simp[gK,h]
     have h3:gK (.int .i64 x) e.1=false:=by
      cases q:gK (.int .i64 x) e.1 with
      |false=>rfl
      |true=>
       exfalso;obtain⟨e1,e2⟩:=e;cases e1<;>simp[gK]at Y q;omega
     rw[R,h3,aB h]
  |false=>
   simp only[fe,ih];by_cases h:x=y
   . subst h;rw[Y,aE rfl]
   . rw[aB h,aB h]
def gl(s:Sn)(k:Int):Bool:=(fe (.int .i64 k) s).isSome
def jl(k:Int)(s:Sn):Sn:=nw (.int .i64 k) (.bool true) s
theorem nS(s:Sn)(k y:Int):gl (jl k s) y=(decide (y=k)||gl s y):=by
 unfold gl jl;rw[rW];by_cases h:y=k
 . simp[h]
 . simp[h]
def qG(s:Sn):Prop:=∀k v,fe (.int .i64 k) s=some v->v= .bool true
theorem qG.mark{s:Sn}(h:qG s)(k:Int):qG (jl k s):=fun y v e=>by
 unfold jl at e;rw[rW]at e;split at e
 . exact(de e).symm
 . exact h y v e
def nk(rc:Int->Sn->Bool×Sn)(t:Int):List Int->Sn->Bool×Sn
 | [],s=>(false,s)
 |k::ks,s=>if k=t then(true,s)else if gl s k=true then nk rc t ks s else if(rc k (jl k s)).1=true then(true,(rc k (jl k s)).2)else nk rc t ks (rc k (jl k s)).2
def nT(st:Int->List Int)(t:Int):Nat->Int->Sn->Bool×Sn
 |0,_,s=>(false,s)
 |n+1,x,s=>nk (nT st t n) t (st x) s
theorem rX{rc:Int->Sn->Bool×Sn}{t:Int}(h:∀k s y,gl s y=true->gl (rc k s).2 y=true):∀(ks:List Int) (s:Sn) (y:Int),gl s y=true->gl (nk rc t ks s).2 y=true
 | [],_,_,hy=>hy
 |k::ks,s,y,hy=>by
  unfold nk;have S:gl (jl k s) y=true:=by rw[nS,hy,cO]
  split
  . exact hy
  . split
    . exact rX h ks s y hy
    . split
      . exact h k _ y S
      . exact rX h ks _ y (h k _ y S)
theorem rY(st:Int->List Int)(t:Int):∀n k s y,gl s y=true->gl (nT st t n k s).2 y=true
 |0,_,_,_,h=>h
 |n+1,_,_,_,h=>rX (rY st t n) _ _ _ h
theorem zK{rc:Int->Sn->Bool×Sn}{t:Int}(h:∀k s,qG s->qG (rc k s).2):∀(ks:List Int) (s:Sn),qG s->qG (nk rc t ks s).2
 | [],_,hs=>hs
 |k::ks,s,hs=>by
  unfold nk;split
  . exact hs
  . split
    . exact zK h ks s hs
    . split
      . exact h k _ (hs.mark k)
      . exact zK h ks _ (h k _ (hs.mark k))
theorem Ek(st:Int->List Int)(t:Int):∀n k s,qG s->qG (nT st t n k s).2
 |0,_,_,h=>h
 |n+1,_,_,h=>zK (Ek st t n) _ _ h
theorem wW{st:Int->List Int}{rc:Int->Sn->Bool×Sn}{t x:Int}(h:∀k s,(rc k s).1=true->xb st k t):∀(ks:List Int) (s:Sn),(∀k∈ks,k∈st x)->(nk rc t ks s).1=true->xb st x t
 | [],_,_,e=>by cases e
 |k::ks,s,Y,e=>by
  have Q:=Y k (bz ..);have R:=fun j hj=>Y j (bj _ hj);unfold nk at e;split at e
  . rename_i q;subst q;exact .one Q
  . split at e
    . exact wW h ks s R e
    . split at e
      . rename_i q;exact xb.trans (.one Q) (h k _ q)
      . exact wW h ks _ R e
theorem CL(st:Int->List Int)(t:Int):∀n x s,(nT st t n x s).1=true->xb st x t
 |0,_,_,e=>by cases e
 |n+1,x,s,e=>wW (CL st t n) (st x) s (fun _ h=>h) e
def AO(dH:List Int)(s:Sn):Nat:=(dH.filter fun y=>!gl s y).length
theorem J1{dH:List Int}{s s2:Sn}(h:∀y,gl s y=true->gl s2 y=true):AO dH s2<=AO dH s:=by
 unfold AO
 induction dH with
 |nil=>exact aK _
 |cons y dH ih=>
  rw[List.filter_cons,List.filter_cons];cases Q:gl s y with
  |true=>rw[h y Q];exact ih
  |false=>
   cases R:gl s2 y with
   |true=>exact bC ih (Nat.le_succ _)
   |false=>exact Nat.succ_le_succ ih
theorem Qf{dH:List Int}{s:Sn}{k:Int}(Y:k∈dH)(hs:gl s k=false):AO dH (jl k s)<AO dH s:=by
 unfold AO
 induction dH with
 |nil=>cases Y
 |cons y dH ih=>
  have lj:(dH.filter fun y=>!gl (jl k s) y).length<=(dH.filter fun y=>!gl s y).length:=J1 (dH:=dH) fun z hz=>by rw[nS,hz,cO]
  rw[List.filter_cons,List.filter_cons];by_cases e:y=k
  . subst e;rw[hs,nS];simp only[decide_true,cj,Bool.not_true,aM,cr,Bool.not_false,if_true,aR];omega
  . have e2:gl (jl k s) y=gl s y:=by rw[nS];simp[e]
    rw[e2];have:=ih ((aD.1 Y).resolve_left fun q=>e q.symm);split
    . simp only[aR];omega
    . exact this
def H6(st:Int->List Int)(t:Int)(s:Sn)(y:Int):Prop:=∀k∈st y,k≠t/\gl s k=true
theorem H6.mono{st:Int->List Int}{t:Int}{s s2:Sn}{y:Int}(h:H6 st t s y)(S:∀y,gl s y=true->gl s2 y=true):H6 st t s2 y:=fun k Y=>⟨(h k Y).1,S k (h k Y).2⟩
theorem FK{st:Int->List Int}{t:Int}{dH:List Int}(hU:∀y,∀k∈st y,k∈dH){n:Nat}(ih:∀x s,AO dH s<n->(nT st t n x s).1=false->H6 st t (nT st t n x s).2 x/\∀y,gl (nT st t n x s).2 y=true->gl s y=true\/H6 st t (nT st t n x s).2 y):
  ∀(ks:List Int) (s:Sn),(∀k∈ks,k∈dH)->AO dH s<n+1->(nk (nT st t n) t ks s).1=false->(∀k∈ks,k≠t/\gl (nk (nT st t n) t ks s).2 k=true)/\∀y,gl (nk (nT st t n) t ks s).2 y=true->gl s y=true\/H6 st t (nk (nT st t n) t ks s).2 y
 | [],s,_,_,_=>⟨fun _ h=>(by cases h),fun _ h=>.inl h⟩
 |k::ks,s,Y,hf,e=>by
  have ES:=fun j hj=>Y j (bj _ hj);unfold nk at e ⊢;by_cases Q:k=t
  . rw[aE Q]at e;cases e
  . rw[aB Q]at e ⊢;by_cases R:gl s k=true
    . rw[aE R]at e ⊢;obtain⟨a,b⟩:=FK hU ih ks s ES hf e;refine⟨fun j hj=>?_,b⟩;rcases aD.1 hj with rfl|q
      . exact⟨Q,rX (rY st t n) ks s _ R⟩
      . exact a j q
    . rw[aB R]at e ⊢;have DL:gl s k=false:=by simpa using R
      by_cases h3:(nT st t n k (jl k s)).1=true
      . rw[aE h3]at e;cases e
      . rw[aB h3]at e ⊢;have h3':(nT st t n k (jl k s)).1=false:=by simpa using h3
        have hl:=Qf (dH:=dH) (Y k (bz ..)) DL;obtain⟨a,b⟩:=ih k (jl k s) G h3';have Dv:=rY st t n k (jl k s);have lj:=J1 (dH:=dH) (Dv);generalize (nT st t n k (jl k s)).2=s1 at *;obtain⟨c,d⟩:=FK hU ih ks s1 ES G e;have EI:=rX (t:=t) (rY st t n) ks s1;have hmk:gl (jl k s) k=true:=by rw[nS];simp
        refine⟨fun j hj=>?_,fun y hy=>?_⟩
        . rcases aD.1 hj with rfl|q
          . exact⟨Q,EI _ (Dv _ hmk)⟩
          . exact c j q
        . rcases d y hy with q|q
          . rcases b y q with q|q
            . rw[nS]at q;by_cases e2:y=k
              . subst e2;exact .inr (a.mono EI)
              . simp[e2]at q;exact .inl q
            . exact .inr (q.mono EI)
          . exact .inr q
theorem Ld{st:Int->List Int}{t:Int}{dH:List Int}(hU:∀y,∀k∈st y,k∈dH):∀n x s,AO dH s<n->(nT st t n x s).1=false->H6 st t (nT st t n x s).2 x/\∀y,gl (nT st t n x s).2 y=true->gl s y=true\/H6 st t (nT st t n x s).2 y
 |0,_,_,h,_=>absurd h (bX _)
 |n+1,x,s,h,e=>FK hU (Ld hU n) (st x) s (hU x) h e
theorem Le{st:Int->List Int}{t:Int}{dH:List Int}(hU:∀y,∀k∈st y,k∈dH){n:Nat}(hn:dH.length<n)(x:Int):(nT st t n x []).1=true↔xb st x t:=by
 refine⟨CL st t n x [],fun h=>?_⟩;cases e:(nT st t n x []).1 with
 |true=>rfl
 |false=>
  exfalso;obtain⟨a,b⟩:=Ld hU n x [] (Nat.lt_of_le_of_lt (List.length_filter_le ..) hn) e;have:∀y,xb st x y->y≠t/\gl (nT st t n x []).2 y=true:=fun y q=>by
   induction q with
   |one h=>exact a _ h
   |tail _ h ih=>
    rcases b _ ih.2 with q|q
    . cases q
    . exact q _ h
  exact(this t h).1 rfl
set_option maxRecDepth 10000
theorem clT{d:Dc}{X:List (Eng.D×Eng.D)}{f:Nat}{t x:Int}{sn J0:Sn}{b0:Bool}(hT:TG ak 7 Tryz.f97.ntmps (dG Tryz.f97) (dw (aC x) (hC d X f t sn) 7) (fD ak 7 Tryz.f97 fun a b c=>a= .bool b0/\b=hC d X f t J0/\c=7)):XK d X f t x sn J0 b0:=
 Lc mo po (az C) Tryz.func97 (code:=dG Tryz.f97) C fun args h k s' v' h' k' e hA=>by
  simp only[Tf,aq,aF]at e;obtain⟨rfl,rfl,rfl,rfl⟩:=e;have Q:args=aC x:=hA _ (by simp);have R:h=hC d X f t sn:=hA (h=hC d X f t sn) (by simp);have h3:k=7:=hA (k=7) (by simp);subst Q R h3;exact⟨C,hT⟩
def yH(rc:Int->Sn->Bool×Sn)(ps:List Int)(sn:Sn):Nat->Sn
 |0=>sn
 |i+1=>if gl (yH rc ps sn i) (ps.getD i 0)=true then yH rc ps sn i else(rc (ps.getD i 0) (jl (ps.getD i 0) (yH rc ps sn i))).2
def tAt(rc:Int->Sn->Bool×Sn)(t:Int)(ps:List Int)(sn:Sn)(i:Nat):Bool:=(ps.getD i 0==t)||(!gl (yH rc ps sn i) (ps.getD i 0)&&(rc (ps.getD i 0) (jl (ps.getD i 0) (yH rc ps sn i))).1)
theorem FM(rc:Int->Sn->Bool×Sn)(t:Int)(ps:List Int)(sn:Sn):∀i,i<=ps.length->(∀j,j<i->tAt rc t ps sn j=false)->nk rc t ps sn=nk rc t (ps.drop i) (yH rc ps sn i)
 |0,_,_=>rfl
 |i+1,hi,hj=>by
  rw[FM rc t ps sn i G fun j q=>hj j G];have h:=hj i (Nat.lt_succ_self i);unfold tAt at h;rw[cI]at h;have e:ps.drop i=ps.getD i 0::ps.drop (i+1):=by
   rw[ax,au G,b7,<- bY]
  rw[e]
  conv=>lhs;unfold nk
  rw[aB (CK h.1),show yH rc ps sn (i+1)=if gl (yH rc ps sn i) (ps.getD i 0)=true then yH rc ps sn i else(rc (ps.getD i 0) (jl (ps.getD i 0) (yH rc ps sn i))).2 from rfl];by_cases hs:gl (yH rc ps sn i) (ps.getD i 0)=true
  . rw[aE hs,aE hs]
  . have R:=h.2;rw[show gl (yH rc ps sn i) (ps.getD i 0)=false by simpa using hs]at R;rw[aB hs,aB hs,aB (by simpa using R)]
theorem MI{rc:Int->Sn->Bool×Sn}{t:Int}{ps:List Int}{i:Nat}{s:Sn}(h:i<ps.length):nk rc t (ps.drop i) s=nk rc t (ps.getD i 0::ps.drop (i+1)) s:=by
 congr 1;rw[ax,au h,b7,<- bY]
theorem H7(d:Dc)(X:List (Eng.D×Eng.D))(f:Nat)(t:Int)(nx:Int->List Int)(ZD:∀x n,kr d.ly x=some n->ng f [L x] d X (fg (nx x)))(hln:∀x,(nx x).length<=1000000)(vG:∀x n,kr d.ly x=some n->∀k∈nx x,∃m,kr d.ly k=some m)
  (hf:f=95\/f=46) (dH:List Int) (hU:∀k m,kr d.ly k=some m->k∈dH):
  ∀(n:Nat) (x:Int) (m:Nat) (sn:Sn),kr d.ly x=some m->qG sn->AO dH sn<n->XK d X f t x sn (nT nx t n x sn).2 (nT nx t n x sn).1:=by
 intro n
 induction n with
 |zero=>intro x m sn _ _ h;exact absurd h (bX _)
 |succ n ih=>
  intro x m sn S hs hu;have hN:=ZD x m S;have hC2:=vG x m S;have hl:=hln x;have eD:nT nx t (n+1) x sn=nk (nT nx t n) t (nx x) sn:=rfl;rw[eD];generalize nx x=ps at *;generalize hrc:nT nx t n=rc at *;have acX:∀k s y,gl s y=true->gl (rc k s).2 y=true:=fun k s y h=>by rw[<- hrc];exact rY nx t n k s y h
  have acY:∀k s,qG s->qG (rc k s).2:=fun k s h=>by rw[<- hrc];exact Ek nx t n k s h
  have hS:∀i,qG (yH rc ps sn i)/\AO dH (yH rc ps sn i)<=AO dH sn:=fun i=>by
   induction i with
   |zero=>exact⟨hs,aK _⟩
   |succ i ihi=>
    rw[show yH rc ps sn (i+1)=if gl (yH rc ps sn i) (ps.getD i 0)=true then yH rc ps sn i else(rc (ps.getD i 0) (jl (ps.getD i 0) (yH rc ps sn i))).2 from rfl];split
    . exact ihi
    . exact⟨acY _ _ (ihi.1.mark _),bC (J1 fun y hy=>acX _ _ _ (by rw[nS,hy,cO])) ihi.2⟩
  refine clT (fu 1 (dg _) (amj d X f t x sn) all_nil ?_);have start:∀h1,(∀A,dZ ak 7 Tryz.f97.ntmps A (sC d X f t ps 0 sn [])->h1 .normal A)->TG ak 7 Tryz.f97.ntmps (dB (dB (dm 1 MH))) (dw (aC x) (hC d X f t sn) 7) h1:=fun h1 hQ=>by
   rcases hf with rfl|rfl
   . exact gz (mz hN (dg _)) eH (amk d X t x sn ps) (dA (g0 ⟨J rfl (J rfl (eC rfl)),fun A dU=>hQ A (dZ.norm dU)⟩))
   . exact gz (mz hN (dg _)) eH (acV d X t x sn ps) (dA (g0 ⟨J rfl (J rfl (eC rfl)),fun A dU=>hQ A (dZ.norm dU)⟩))
  refine dI C (dI C (start _ fun A dU=>?_));simp only[andThen];refine iQ 0 ps.length (fun i=>sC d X f t ps i (yH rc ps sn i) []) (tAt rc t ps sn) dU (fun i hi hj Q' k1 k2 k3=>?_) (fun zW A dU=>?_)
  . have mR:=FM rc t ps sn i hi hj;obtain⟨hT,hUn⟩:=hS i;rcases br i ps.length with q|q
    . rw[MI q]at mR;have hg:=fJ (l:=ps) q;have hkm:ps.getD i 0∈ps:=by rw[ax,au q];exact bK q
      obtain⟨mk,hmk⟩:=hC2 _ hkm;have htA:tAt rc t ps sn i=((ps.getD i 0==t)||(!gl (yH rc ps sn i) (ps.getD i 0)&&(rc (ps.getD i 0) (jl (ps.getD i 0) (yH rc ps sn i))).1)):=rfl;have hsA:yH rc ps sn (i+1)=if gl (yH rc ps sn i) (ps.getD i 0)=true then yH rc ps sn i else(rc (ps.getD i 0) (jl (ps.getD i 0) (yH rc ps sn i))).2:=rfl
      generalize ps.getD i 0=k at *;generalize yH rc ps sn i=s at *;have b0:V.bool (decide (Int.ofNat i<Int.ofNat ps.length))=V.bool true:=aH V.bool (aY (cg.2 q));have b1:=iM q;by_cases Q:k=t
      . refine gz (dg _) (fun a b c=>a= .bool (nk rc t ps sn).1/\b=hC d X f t (nk rc t ps sn).2/\c=7) (aml d X f t s ps i k) (dA (g0 ⟨J b0 (J b1 (J (ew ps) (J hg (eC (aH V.bool (wP.2 Q)))))),⟨?_,?_,rfl⟩,k3⟩))
        . rw[mR];unfold nk;rw[aE Q]
        . rw[mR];unfold nk;rw[aE Q]
      . have b2:V.bool (k==t)=V.bool false:=aH V.bool (by simpa using Q);by_cases R:gl s k=true
        . obtain⟨v,hv⟩:=bA.1 R;have hvt:=hT k v hv;subst hvt;refine gz (dg _) eH (amm d X f t s ps i k) (dA (g0 ⟨J b0 (J b1 (J (ew ps) (J hg (J b2 (J (by rw[hv];rfl) (eC (gJ G))))))),fun A dU=>k1 q (by rw[htA,R];simpa using Q) A ?_⟩));show dZ _ _ _ _ (sC d X f t ps (i+1) (yH rc ps sn (i+1)) []);rw[hsA,aE R];exact dZ.norm dU
        . have DL:gl s k=false:=by simpa using R
          have Aa:fe (.int .i64 k) s=none:=by unfold gl at DL;simpa using DL
          have eM:=Qf (hU k mk hmk) DL;have K:=ih k mk (jl k s) hmk (hT.mark k) G;have be:=J b0 (J b1 (J (ew ps) (J hg (J b2 (J (show(if false=true then V.gC [D.kA (V.bool false) (fe (.int .i64 k) s),V.bool (fe (.int .i64 k) s).isSome]else D.kA (V.bool false) (fe (.int .i64 k) s))=V.bool false by rw[Aa];rfl) (J (show aC k=aC k from rfl) (J (show hC d X f t (jl k s)=hC d X f t (jl k s)from rfl) (eC (show(7:Nat)=7 from rfl)))))))));have C2:=J b0 (J b1 (J (ew ps) (J hg (J b2 (J (show(if false=true then V.gC [D.kA (V.bool false) (fe (.int .i64 k) s),V.bool (fe (.int .i64 k) s).isSome]else D.kA (V.bool false) (fe (.int .i64 k) s))=V.bool false by rw[Aa];rfl) (J (show aC k=aC k from rfl) (J (show hC d X f t (jl k s)=hC d X f t (jl k s)from rfl) (J (show(7:Nat)=7 from rfl) (eC (show V.int .i64 (IntKind.i64.wrap (Int.ofNat i+(1:Int)))=M (i+1)from gJ G))))))))));refine gz (fQ K (dg _)) (fun a b c=>a= .bool (nk rc t ps sn).1/\b=hC d X f t (nk rc t ps sn).2/\c=7) (amn d X f t s (rc k (jl k s)).2 ps i k (rc k (jl k s)).1) (dz (g1 fun h3=>⟨be,⟨?_,?_,rfl⟩,k3⟩) (dA (g1 fun h3=>⟨C2,fun A dU=>k1 q (by rw[htA,DL,h3];simpa using Q) A ?_⟩)))
          . rw[mR];unfold nk;rw[aB Q,aB R,aE h3]
          . rw[mR];unfold nk;rw[aB Q,aB R,aE h3]
          . show dZ _ _ _ _ (sC d X f t ps (i+1) (yH rc ps sn (i+1)) []);rw[hsA,aB R];exact dZ.norm dU
    . obtain rfl:i=ps.length:=by omega
      exact gz (dg _) eH (amo d X f t _ ps _) (dA (g0 ⟨eC (aH V.bool (aU (by simp only[gT];omega))),fun A dU=>k2 rfl A (dZ.norm dU)⟩))
  simp only[andThen];have mR:=FM rc t ps sn ps.length (aK _) zW;rw[List.drop_length]at mR;refine dU _ _ (eI (dg _) (amp d X f t _ ps ps.length) (dA (g0 ⟨all_nil,_,_,_,rfl,?_,?_,rfl⟩)))
  . rw[mR];rfl
  . rw[mR];rfl
set_option maxRecDepth 10000
def sRy(d:Dc)(X:List (Eng.D×Eng.D))(f:Nat)(t x:Int)(o:O):St:=ff [(1,L x),(10,.ptr (some (2,0)))] (W [(0,.cells (d.T++[.map (some 1)])),(1,.gh (some .i64) X),(2,.cells [.fn (.func 97) [] [.ptr (some (3,0)),.ptr (some (4,0)),.ptr (some (5,0)),.ptr (some (2,0))]]),(3,.cells [.fn (.func f) [pT] []]),(4,.cells [L t]),(5,.cells [.map (some 6)]),(6,o)]) 7
theorem ams(d:Dc)(X:List (Eng.D×Eng.D))(f:Nat)(x t:Int):dn (U dY []) [] 2 Tryz.f45 [1,10] (dN 4 acU) (dw [pT,L x,L t,.fn (.func f) [pT] []] (kI d X) 2) [([],
   [],
   .to .normal (sRy d X f t x (.map [] 0)))]
 :=dh.of C C C
theorem amt(d:Dc)(X:List (Eng.D×Eng.D))(f:Nat)(x t:Int)(J0:List (Eng.D×Eng.D))(b:Bool):dn (U (lC 97 (wT (Tf d X f t x [] J0 b)) dY) []) [] 2 Tryz.f45 [] (dm 4 acU) (sRy d X f t x (.gh (some .i64) [])) [([],
   [([V.int B x,V.ptr (some (0,0)),V.ptr (some (3,0)),V.ptr (some (4,0)),V.ptr (some (6,0))]=aC x),(((((((I.nil.set 0 (some (O.cells [V.fn (Fn.func f) [V.ptr (some (1,0))] []]))).set 1 (some (O.cells [V.eo false d.sp.length (lT d.sp),V.int B d.root,V.int B d.nx,V.eo false d.ly.length (eX d.ly),V.map (some 2)]))).set 2 (some (O.gh (some B) X))).set 3 (some (O.cells [V.int B t]))).set 4 (some (O.cells [V.map (some 5)]))).set 5 (some (O.gh (some B) []))).set 6 (some (O.cells [V.fn (Fn.func (97:FuncId)) [] [V.ptr (some (0,0)),V.ptr (some (3,0)),V.ptr (some (4,0)),V.ptr (some (6,0))]]))=hC d X f t []),(7=7)],
   .ret (.bool b) (kI d X) 2)]
 :=dh.of C C C
abbrev XL(f:Nat):V:=.fn (.func f) [pT] []
theorem yn(d:Dc)(X:List (Eng.D×Eng.D))(f:Nat)(t x:Int)(J0:Sn)(b:Bool)(hC:XK d X f t x [] J0 b):ng 45 [L x,L t,XL f] d X (.bool b):=by
 refine Ej Tryz.func45 (fu 4 (dg _) (ams d X f x t) all_nil ?_);refine dZ.map [(6,some .i64)] (hm:=sRy d X f t x (.gh (some .i64) [])) C _ _ ?_;exact eI (fQ hC (dg _)) (amt d X f x t J0 b) (dA (g0 ⟨J rfl (J rfl (eC rfl)),_,_,_,rfl,rfl,rfl,rfl⟩))
theorem Qg:qG []:=fun _ _ h=>by cases h
theorem H8(d:Dc)(X:List (Eng.D×Eng.D))(H:yl d X)(hd:Fy d)(K:ZG d.ly)(t x:Int){n:Nat}(hn:kr d.ly x=some n):∃b,ng 45 [L x,L t,XL 95] d X (.bool b)/\(b=true↔xb (fC d.ly false) x t):=by
 have vr:∀y m,kr d.ly y=some m->fC d.ly false y=fH (d.at m):=fun y m h=>by
  unfold fC;rw[h];simp only[aM,false_and,cr,List.append_nil];rfl
 have hln:∀y,(fC d.ly false y).length<=1000000:=fun y=>by
  cases h:kr d.ly y with
  |none=>rw[CH h];exact aS _
  |some m=>
   rw[vr y m h];obtain⟨_,_,S⟩:=jG h;unfold fH;split
   . simp
   . exact hd.kids _ S
 have vG:∀y m,kr d.ly y=some m->∀k∈fC d.ly false y,∃j,kr d.ly k=some j:=fun y m h k Y=>by
  rw[vr y m h]at Y;obtain⟨_,_,S⟩:=jG h;exact K _ S k Y
 have hU:=fun y=>(k8 d.ly false y).1;have hN:∀y m,kr d.ly y=some m->ng 95 [L y] d X (fg (fC d.ly false y)):=fun y m h=>by rw[vr y m h];exact wV H h
 have:=H7 d X 95 t (fC d.ly false) hN hln vG (.inl rfl) (d.ly.map (·.id)) (fun k m h=>by
  obtain⟨_,hid,S⟩:=jG h;exact bQ.2 ⟨_,S,hid⟩) ((d.ly.map (·.id)).length+(eW d.ly).length+1) x n [] hn Qg (Nat.lt_of_le_of_lt (List.length_filter_le ..) G)
 exact⟨_,yn d X 95 t x _ _ this,Le hU G x⟩
set_option maxRecDepth 10000
noncomputable abbrev Tg:Code:=dG Tryz.f20
noncomputable abbrev bPn:Code:=dD (dD (dP (dB (dm 1 Tg))))
def U0(d:Dc)(id:Int)(i:Nat):St:=ff [(1,L id),(2,.ptr (some (0,0))),(11,.eo false d.ly.length (eX d.ly)),(12,M d.ly.length),(13,M i)] (W [(0,.cells d.T)]) 1
theorem amu(d:Dc)(id:Int):dn (U dY []) [] 0 Tryz.f20 [1,2] (dN 1 Tg) (dw [d.v,L id] .nil 0) [([],
   [],
   .to .normal (ff [(1,.int .i64 id),(2,.ptr (some (0,0)))] (W [(0,.cells [.eo false (d.sp.length) (lT d.sp),.int .i64 (d.root),.int .i64 (d.nx),.eo false (d.ly.length) (eX d.ly)])]) 1))]
 :=dh.of C C C
theorem amv(d:Dc)(id:Int):dn (U dY []) [] 0 Tryz.f20 [1,2,11,12,13] (dB (dB (dm 1 Tg))) (ff [(1,L id),(2,.ptr (some (0,0)))] (W [(0,.cells d.T)]) 1) [([],
   [],
   .to .normal (U0 d id 0))]
 :=dh.of C C C
abbrev J2(id:Int)(x:eG):Prop:=V.lE ([]++[D.jJ._f (D.eo x.kids.length (dM x.kids)) (D.rec_1 (fun b=>⟨D.jJ._f (D.bool b) PUnit.unit,PUnit.unit⟩) (fun k n=>⟨D.jJ._f (D.int k n) PUnit.unit,PUnit.unit⟩) (fun s=>⟨D.jJ._f (D.str s) PUnit.unit,PUnit.unit⟩) (fun n T H9=>⟨D.jJ._f (D.eo n T) H9,H9⟩) (fun T H9=>⟨D.jJ._f (D.agg T) H9,H9⟩) ⟨D.fN._f [] PUnit.unit,PUnit.unit⟩ (fun head tail Lf Lg=>⟨D.fN._f (head::tail) ⟨Lf,Lg⟩,Lf,Lg⟩) (dM x.kids)),L id]++[])=[fg x.kids,L id]
abbrev Qh(i:Nat):Prop:=V.int B (IntKind.i64.wrap (Int.ofNat i+(1:Int)))=M (i+1)
theorem amw(d:Dc)(id:Int)(i:Nat)(x:eG)(a:Int):dn (U (eZ 49 [fg x.kids,L id] (L a) dY) []) [(14,.dy (.bool true)),(15,.dy (.dr x.ds)),(23,.split),(26,.split),(31,.dy (M (i+1)))] 0 Tryz.f20 [1,2,11,12,13] (bPn) (U0 d id i) [([((x.kd==(2:Int)),true),((decide (a>=(0:Int))),true)],
   [(V.bool (decide (Int.ofNat i<Int.ofNat d.ly.length))=V.bool true),((0:Int)<=Int.ofNat i/\Int.ofNat i<(Int.ofNat d.ly.length)),((eX d.ly).length=d.ly.length*31),(V.dr (dj (eX d.ly) (i*31) 31)=V.dr x.ds),J2 id x],
   .ret (.gC [.int .i64 (x.id),.int .i64 a,.bool true]) (W []) 0),
  ([((x.kd==(2:Int)),true),((decide (a>=(0:Int))),false)],
   [(V.bool (decide (Int.ofNat i<Int.ofNat d.ly.length))=V.bool true),((0:Int)<=Int.ofNat i/\Int.ofNat i<(Int.ofNat d.ly.length)),((eX d.ly).length=d.ly.length*31),(V.dr (dj (eX d.ly) (i*31) 31)=V.dr x.ds),J2 id x,Qh i],
   .to .normal (U0 d id (i+1))),
  ([((x.kd==(2:Int)),false)],
   [(V.bool (decide (Int.ofNat i<Int.ofNat d.ly.length))=V.bool true),((0:Int)<=Int.ofNat i/\Int.ofNat i<(Int.ofNat d.ly.length)),((eX d.ly).length=d.ly.length*31),(V.dr (dj (eX d.ly) (i*31) 31)=V.dr x.ds),J2 id x,Qh i],
   .to .normal (U0 d id (i+1)))]
 :=dh.of C C C
theorem amx(d:Dc)(id:Int)(i:Nat):dn (U dY []) [(14,.dy (.bool false))] 0 Tryz.f20 [1,2,11,12,13] (bPn) (U0 d id i) [([],
   [(V.bool (decide (Int.ofNat i<Int.ofNat d.ly.length))=V.bool false)],
   .to (.exit 0) (U0 d id i))]
 :=dh.of C C C
theorem amy(d:Dc)(id:Int)(i:Nat):dn (U dY []) [] 0 Tryz.f20 [] (dP (dm 1 Tg)) (U0 d id i) [([],
   [],
   .ret (.gC [.int .i64 0,.int .i64 0,.bool false]) (W []) 0)]
 :=dh.of C C C
noncomputable abbrev Th:Code:=dG Tryz.f49
noncomputable abbrev bIy:Code:=dD (dD (dP (dB (dm 1 Th))))
def XM(l:List Int)(k:Int)(i:Nat):St:=ff [(0,fg l),(1,L k),(7,M l.length),(8,M i)] (W []) 0
theorem amz(l:List Int)(k:Int):dn (U dY []) [] 0 Tryz.f49 [0,1] (dN 1 Th) (dw [fg l,L k] .nil 0) [([],
   [],
   .to .normal (dw [fg l,L k] .nil 0))]
 :=dh.of C C C
theorem amA(l:List Int)(k:Int):dn (U dY []) [] 0 Tryz.f49 [0,1,7,8] (dB (dB (dm 1 Th))) (dw [fg l,L k] .nil 0) [([],
   [],
   .to .normal (XM l k 0))]
 :=dh.of C C C
theorem amB(l:List Int)(k x:Int)(i:Nat):dn (U dY []) [(9,.dy (.bool true)),(14,.dy (.dr [.int .i64 x])),(16,.split),(18,.dy (M (i+1)))] 0 Tryz.f49 [0,1,7,8] (bIy) (XM l k i) [([((k==x),true)],
   [(V.bool (decide (Int.ofNat i<Int.ofNat l.length))=V.bool true),((0:Int)<=Int.ofNat i/\Int.ofNat i<(Int.ofNat l.length)),((dM l).length=l.length*1),(V.dr (dj (dM l) (i*1) 1)=V.dr [D.int B x])],
   .ret (.int .i64 (Int.ofNat i)) (W []) 0),
  ([((k==x),false)],
   [(V.bool (decide (Int.ofNat i<Int.ofNat l.length))=V.bool true),((0:Int)<=Int.ofNat i/\Int.ofNat i<(Int.ofNat l.length)),((dM l).length=l.length*1),(V.dr (dj (dM l) (i*1) 1)=V.dr [D.int B x]),(V.int B (IntKind.i64.wrap (Int.ofNat i+(1:Int)))=M (i+1))],
   .to .normal (XM l k (i+1)))]
 :=dh.of C C C
theorem amC(l:List Int)(k:Int)(i:Nat):dn (U dY []) [(9,.dy (.bool false))] 0 Tryz.f49 [0,1,7,8] (bIy) (XM l k i) [([],
   [(V.bool (decide (Int.ofNat i<Int.ofNat l.length))=V.bool false)],
   .to (.exit 0) (XM l k i))]
 :=dh.of C C C
theorem amD(l:List Int)(k:Int)(i:Nat):dn (U dY []) [] 0 Tryz.f49 [] (dP (dm 1 Th)) (XM l k i) [([],
   [],
   .ret (.int .i64 (-1)) (W []) 0)]
 :=dh.of C C C
set_option maxRecDepth 10000
def Iw(l:List Int)(k:Int):Int:=match l.findIdx? (. ==k)with
 |some i=>Int.ofNat i
 |none=> -1
theorem J3{l:List Int}{k:Int}{i:Nat}(hi:i<l.length)(h:l.getD i 0=k)(hj:∀j,j<i->l.getD j 0≠k):l.findIdx? (. ==k)=some i:=by
 rw[bL];refine⟨hi,?_,fun j q=>?_⟩
 . rw[ax,au hi]at h;simpa using h
 . have:=hj j q;rw[ax,au G]at this;simpa using this
theorem J4{l:List Int}{k:Int}(hj:∀j,j<l.length->l.getD j 0≠k):l.findIdx? (. ==k)=none:=by
 rw[cH];intro x H;obtain⟨j,w7,rfl⟩:=bW H;have:=hj j w7;rw[ax,au w7]at this;simpa using this
theorem amE(l:List Int)(k:Int)(hl:l.length<=1000000):dS ak 49 [fg l,L k] (L (Iw l k)):=by
 refine eV Tryz.func49 (fu 1 (dg _) (amz l k) all_nil ?_);refine dI C (dI C (gz (dg _) eH (amA l k) (dA (g0 ⟨all_nil,fun A dU=>?_⟩))));simp only[andThen];refine iQ 0 l.length (fun i=>XM l k i) (fun i=>k==l.getD i 0) (dZ.norm dU) (fun i hi hj Q' k1 k2 k3=>?_) (fun Q A dU=>?_)
 . rcases br i l.length with q|q
   . have b0:V.bool (decide (Int.ofNat i<Int.ofNat l.length))=V.bool true:=aH V.bool (aY (cg.2 q));refine gz (dg _) (fun u _ _=>u=L (Iw l k)) (amB l k (l.getD i 0) i) (dz (g1 fun h=>⟨J b0 (J (iM q) (J (ew l) (eC (fJ q)))),?_,k3⟩) (dA (g1 fun h=>⟨J b0 (J (iM q) (J (ew l) (J (fJ q) (eC (gJ G))))),fun A dU=>k1 q h A (dZ.norm dU)⟩)));have:Iw l k=Int.ofNat i:=by
      unfold Iw;rw[J3 q (wP.1 h).symm fun j UR e=>CK (hj j UR) e.symm]
     rw[this]
   . obtain rfl:i=l.length:=by omega
     exact gz (dg _) eH (amC l k _) (dA (g0 ⟨eC (aH V.bool (aU (by simp only[gT];omega))),fun A dU=>k2 rfl A (dZ.norm dU)⟩))
 simp only[andThen];refine dU _ _ (eI (dg _) (amD l k _) (dA (g0 ⟨all_nil,_,_,_,rfl,?_⟩)));have:Iw l k= -1:=by
  unfold Iw;rw[J4 fun j hj e=>CK (Q j hj) e.symm]
 rw[this]
def XN:Option (Int×Nat)->V
 |some (i,j)=>.gC [L i,M j,.bool true]
 |none=>.gC [L 0,L 0,.bool false]
def tPn(d:Dc)(id:Int)(i:Nat):Bool:=((d.at i).kd==2)&&decide (Iw (d.at i).kids id>=0)
theorem Ti{l:List Int}{k:Int}(h:¬Iw l k>=0):l.findIdx? (. ==k)=none:=by
 unfold Iw at h;cases e:l.findIdx? (. ==k)with
 |none=>rfl
 |some i=>rw[e]at h;exact absurd (bS i) h
theorem J5{d:Dc}{id:Int}:∀i,i<=d.ly.length->(∀j,j<i->tPn d id j=false)->jj d.ly id=jj (d.ly.drop i) id
 |0,_,_=>rfl
 |i+1,hi,hj=>by
  rw[J5 i G fun j q=>hj j G,zC G];have h:=hj i (Nat.lt_succ_self i);unfold tPn at h;change (((d.ly.getD i gG).kd==2)&&decide (Iw (d.ly.getD i gG).kids id>=0))=false at h;generalize d.ly.getD i gG=x at *;have e:(if x.kd=2 then x.kids.findIdx? (. ==id)else none)=none:=by
   split
   . rename_i R;rw[wP.2 R,aN,bt]at h;exact Ti h
   . rfl
  rw[e]
theorem acZ(d:Dc)(id:Int)(hd:Fy d):dS ak 20 [d.v,L id] (XN (jj d.ly id)):=by
 have hv:(XN (jj d.ly id)).deep=true:=by
  cases jj d.ly id with
  |none=>rfl
  |some q=>rfl
 refine eV (hv:=hv) Tryz.func20 (fu 1 (dg _) (amu d id) all_nil ?_);refine dI C (dI C (gz (dg _) eH (amv d id) (dA (g0 ⟨all_nil,fun A dU=>?_⟩))));simp only[andThen];have zB:=hd.ly;refine iQ 0 d.ly.length (fun i=>U0 d id i) (tPn d id) (dZ.norm dU) (fun i hi hj Q' k1 k2 k3=>?_) (fun Q A dU=>?_)
 . rcases br i d.ly.length with q|q
   . have b0:V.bool (decide (Int.ofNat i<Int.ofNat d.ly.length))=V.bool true:=aH V.bool (aY (cg.2 q));have hA:V.dr (dj (eX d.ly) (i*31) 31)= .dr (d.at i).ds:=iq q;have hp:=J5 i hi hj;have EN:=zC q id;change jj (d.ly.drop i) id=match(if(d.at i).kd=2 then(d.at i).kids.findIdx? (. ==id)else none)with
      |some j=>some ((d.at i).id,j)
      |none=>jj (d.ly.drop (i+1)) id at EN
     have ht:tPn d id i=(((d.at i).kd==2)&&decide (Iw (d.at i).kids id>=0)):=rfl;have Y:=hd.at q;change (d.at i).kids.length<=1000000 at Y;generalize d.at i=x at *;have be:=J b0 (J (iM q) (J (fR d.ly) (J hA (eC (show eY [fg x.kids,L id]from rfl)))));have C2:=J b0 (J (iM q) (J (fR d.ly) (J hA (J (show eY [fg x.kids,L id]from rfl) (eC (show V.int .i64 (IntKind.i64.wrap (Int.ofNat i+(1:Int)))=M (i+1)from gJ G))))));refine gz (fj (amE x.kids id Y) (dg _)) (fun u _ _=>u=XN (jj d.ly id)) (amw d id i x (Iw x.kids id)) (dz (g2 fun Q R=>⟨be,?_,k3⟩) (dz (g2 fun Q R=>⟨C2,fun A dU=>k1 q (by rw[ht,R,cz]) A (dZ.norm dU)⟩) (dA (g1 fun Q=>⟨C2,fun A dU=>k1 q (by rw[ht,Q,aP]) A (dZ.norm dU)⟩))));rw[hp,EN,aE (wP.1 Q)];cases e:x.kids.findIdx? (. ==id)with
     |some j=>
      have:Iw x.kids id=Int.ofNat j:=by unfold Iw;rw[e]
      rw[this];rfl
     |none=>
      have:Iw x.kids id= -1:=by unfold Iw;rw[e]
      rw[this]at R;exact absurd R fa
   . obtain rfl:i=d.ly.length:=by omega
     exact gz (dg _) eH (amx d id _) (dA (g0 ⟨eC (aH V.bool (aU (by simp only[gT];omega))),fun A dU=>k2 rfl A (dZ.norm dU)⟩))
 simp only[andThen];have hp:=J5 d.ly.length (aK _) Q;rw[List.drop_length]at hp;refine dU _ _ (eI (dg _) (amy d id _) (dA (g0 ⟨all_nil,_,_,_,rfl,?_⟩)));rw[hp];rfl
set_option maxRecDepth 10000
noncomputable abbrev Lh:Code:=dG Tryz.f46
def ac0(d:Dc)(X:List (Eng.D×Eng.D))(id:Int)(x:eG):St:=ff [(0,pT),(1,L id),(5,.ptr (some (2,0)))] (W [(0,.cells (d.T++[.map (some 1)])),(1,.gh (some .i64) X),(2,.cells x.T)]) 3
theorem ac1(d:Dc)(X:List (Eng.D×Eng.D))(id:Int)(x:eG):dn (U (qg 44 [L id] d X (.gC [x.v,.bool true]) dY) []) [] 2 Tryz.f46 [0,1,5] (dN 2 Lh) (dw [pT,L id] (kI d X) 2) [([],
   [([V.ptr (some (0,0)),V.int B id]=[pT,L id]),((I.nil.set 0 (some (O.cells [V.eo false d.sp.length (lT d.sp),V.int B d.root,V.int B d.nx,V.eo false d.ly.length (eX d.ly),V.map (some 1)]))).set 1 (some (O.gh (some B) X))=kI d X),(2=2)],
   .to .normal (ac0 d X id x))]
 :=dh.of C C C
theorem ac2(d:Dc)(X:List (Eng.D×Eng.D))(id:Int)(x:eG)(ps:List Int):dn (U (qg 95 [L id] d X (fg ps) dY) []) [(20,.split)] 2 Tryz.f46 [0,1] (dB (dm 2 Lh)) (ac0 d X id x) [([((x.kd !=(3:Int)),true)],
   [([V.ptr (some (0,0)),V.int B id]=[pT,L id]),((I.nil.set 0 (some (O.cells [V.eo false d.sp.length (lT d.sp),V.int B d.root,V.int B d.nx,V.eo false d.ly.length (eX d.ly),V.map (some 1)]))).set 1 (some (O.gh (some B) X))=kI d X),(2=2)],
   .ret (.eo false (ps.length) (dM ps)) (kI d X) 2),
  ([((x.kd !=(3:Int)),false)],
   [],
   .to .normal (ff [(0,pT),(1,L id)] (kI d X) 2))]
 :=dh.of C C C
theorem ac3(d:Dc)(X:List (Eng.D×Eng.D))(id g:Int)(j:Nat):dn (U (eZ 20 [d.v,L id] (.gC [L g,M j,.bool true]) dY) []) [] 2 Tryz.f46 [0,7,8] (dN 1 (dP (dm 2 Lh))) (ff [(0,pT),(1,L id)] (kI d X) 2) [([],
   [(V.lE ([]++[V.agg (List.take 4 (List.drop 0 (d.T++[V.map (some 1)]))),L id]++[])=[d.v,L id])],
   .to .normal (ff [(0,pT),(7,L g),(8,M j)] (kI d X) 2))]
 :=dh.of C C C
theorem ac4(d:Dc)(X:List (Eng.D×Eng.D))(g:Int)(j:Nat)(y:eG):dn (U (qg 44 [L g] d X (.gC [y.v,.bool true]) dY) []) [] 2 Tryz.f46 [] (dm 1 (dP (dm 2 Lh))) (ff [(0,pT),(7,L g),(8,M j)] (kI d X) 2) [([],
   [([V.ptr (some (0,0)),V.int B g]=[pT,L g]),((I.nil.set 0 (some (O.cells [V.eo false d.sp.length (lT d.sp),V.int B d.root,V.int B d.nx,V.eo false d.ly.length (eX d.ly),V.map (some 1)]))).set 1 (some (O.gh (some B) X))=kI d X),(2=2),((dM y.kids).length=y.kids.length*1),((0:Int)<=Int.ofNat j/\Int.ofNat j<=(Int.ofNat y.kids.length))],
   .ret (.eo false (j-0) (dj (dM y.kids) 0 ((j-0)*1))) (kI d X) 2)]
 :=dh.of C C C
set_option maxRecDepth 10000
def Qi(d:Dc):Prop:=∀x∈d.ly,x.kd=3->fH x=[]/\∃g j m,jj d.ly x.id=some (g,j)/\kr d.ly g=some m/\j<=(d.at m).kids.length
theorem Ia{d:Dc}{X:List (Eng.D×Eng.D)}(h:yl d X)(hd:Fy d)(ha:Qi d){id:Int}{n:Nat}(hn:kr d.ly id=some n):ng 46 [L id] d X (fg (fC d.ly true id)):=by
 have W:=mb h hn;have hP:=wV h hn;obtain⟨eM,hid,I5⟩:=jG hn;have hA:=ha _ I5;rw[hid]at hA;have vr:fC d.ly true id=fH (d.at n)++(if true=true/\(d.at n).kd=3 then gX d.ly id else[]):=by unfold fC;rw[hn];rfl
 change ((d.at n).kd=3->fH (d.at n)=[]/\_)at hA;generalize d.at n=x at *;refine Ej Tryz.func46 (fu 2 (mz W (dg _)) (ac1 d X id x) (J rfl (J rfl (eC rfl))) ?_);refine pF (mz hP (dg _)) (fun a b c=>a=fg (fC d.ly true id)/\b=kI d X/\c=2) (ac2 d X id x (fH x)) (dz (g1 fun Q=>⟨J rfl (J rfl (eC rfl)),⟨?_,rfl,rfl⟩,fun _ h=>h⟩) (dA (g1 fun Q=>⟨all_nil,?_⟩)))
 . rw[vr,aB (fun q=>(by rw[q.2]at Q;cases Q)),List.append_nil]
 . have h3:x.kd=3:=by simpa using Q
   obtain⟨hp0,g,j,m,R8,S,hj⟩:=hA h3;have hG:=mb h S;have hb:gX d.ly id=(d.at m).kids.take j:=by unfold gX;rw[R8];simp only;rw[S];rfl
   have hF:=acZ d id hd;rw[R8]at hF;generalize d.at m=y at *;refine fu 1 (fj hF (dg _)) (ac3 d X id g j) (eC rfl) ?_;refine eI (mz hG (dg _)) (ac4 d X g j y) (dA (g0 ⟨J rfl (J rfl (J rfl (J (ew _) (eC ⟨bS _,by simp only[gT];omega⟩)))),_,_,_,rfl,?_,rfl,rfl⟩));rw[vr,hp0,cL,aE ⟨rfl,h3⟩,hb];have e:dj (dM y.kids) 0 ((j-0)*1)=dM (y.kids.take j):=by
    unfold dj dM;rw[Nat.sub_zero,cS,ct,dc]
   have e2:j-0=(y.kids.take j).length:=by rw[bn];omega
   rw[e,e2]
set_option maxRecDepth 10000
theorem FN(d:Dc)(X:List (Eng.D×Eng.D))(H:yl d X)(hd:Fy d)(K:ZG d.ly)(ha:Qi d)(Y:∀x∈d.ly,∀k∈x.kids,∃n,kr d.ly k=some n)(hn:(eW d.ly).length<=10000)(t x:Int){n:Nat}(hx0:kr d.ly x=some n):
  ∃b,ng 45 [L x,L t,XL 46] d X (.bool b)/\(b=true↔xb (fC d.ly true) x t):=by
 have hln:∀y,(fC d.ly true y).length<=1000000:=fun y=>by
  have:=(k8 d.ly true y).2;omega
 have vG:∀y m,kr d.ly y=some m->∀k∈fC d.ly true y,∃j,kr d.ly k=some j:=fun y m h k hq=>by
  obtain⟨_,_,S⟩:=jG h;unfold fC at hq;rw[h]at hq;rcases bf.1 hq with q|q
  . exact K _ S k q
  . split at q
    . unfold gX at q;split at q
      . split at q
        . rename_i m2 R;obtain⟨_,_,EI⟩:=jG R;exact Y _ EI k (cB q)
        . cases q
      . cases q
    . cases q
 have hU:=fun y=>(k8 d.ly true y).1;have:=H7 d X 46 t (fC d.ly true) (fun y m h=>Ia H hd ha h) hln vG (.inr rfl) (d.ly.map (·.id)) (fun k m h=>by
  obtain⟨_,hid,S⟩:=jG h;exact bQ.2 ⟨_,S,hid⟩) ((d.ly.map (·.id)).length+(eW d.ly).length+1) x n [] hx0 Qg (Nat.lt_of_le_of_lt (List.length_filter_le ..) G)
 exact⟨_,yn d X 46 t x _ _ this,Le hU G x⟩
set_option maxRecDepth 10000
theorem jR.amF{d:Dc}(h:jR d):∀j i,i<j->j<d.ly.length->(d.at i).id<(d.at j).id:=by
 have hb:=(rV h.w).2.2.1;intro j
 induction j with
 |zero=>intro i h;exact absurd h (bX _)
 |succ j ih=>
  intro i NR hj;have Q:=hb (j+1) hj;unfold tj at Q;rw[cI,bt,show uM d (j+1)=(d.at j).id from rfl]at Q;rcases br i j with q|q
  . have:=ih i q G;omega
  . obtain rfl:i=j:=by omega
    omega
theorem jR.uniq{d:Dc}(h:jR d):HN d.ly:=by
 unfold HN;rw[List.nodup_iff_pairwise_ne,List.pairwise_iff_getElem];intro i j hi hj NR;rw[bI]at hi hj;have:=h.amF j i NR hj;unfold Dc.at at this;rw[ax,ax,au hi,au hj]at this;simp only[b7]at this;rw[List.getElem_map,List.getElem_map];omega
theorem Li{n:Nat}{l:eG}(h:vy n l=0):bk l=false/\rU l.nm=true/\ba l (cD (fc l.iD))=false/\Gb l=true/\bp l (Aq l.pl)=false/\bs n l=false/\bc l (cD (fc l.fZ)) (iH l.f) (jw l.gU)=false:=by
 unfold vy JL at h;split at h
 . exact absurd h fa
 rename_i Q;split at h
 . exact absurd h fa
 rename_i R;split at h
 . exact absurd h fa
 rename_i h3;split at h
 . exact absurd h fa
 rename_i h4;split at h
 . exact absurd h fa
 rename_i h5;split at h
 . exact absurd h fa
 rename_i h6;split at h
 . exact absurd h fa
 rename_i h7;exact⟨by simpa using Q,by simpa using R,by simpa using h3,by simpa using h4,by simpa using h5,by simpa using h6,by simpa using h7⟩
theorem jR.FO{d:Dc}(h:jR d){x:eG}(H:x∈d.ly)(Y:x.kd≠2):x.kids=[]:=by
 have Q:=(Li (h.f x H)).2.2.2.1;unfold Gb Fv at Q;simp only[ay]at Q;have R:=Q.2.2.1;rw[show(x.kd==2)=false by simpa using Y,cm]at R;have h3:Int.ofNat x.kids.length=0:=by simpa[nN]using R
 have h4:x.kids.length=0:=by simp only[gT]at h3;omega
 exact cF.2 h4
theorem El:∀{ls:List eG} {k:Int},jj ls k=none->∀x∈ls,x.kd=2->k∉x.kids
 | [],_,_,_,H,_=>by cases H
 |y::ls,k,h,x,H,R=>by
  unfold jj at h;split at h
  . cases h
  . rename_i hq;rcases aD.1 H with rfl|q
    . rw[aE R,cH]at hq;intro Y;have:=hq k Y;simp at this
    . exact El h x q R
theorem jR.fK{d:Dc}(h:jR d):Qi d:=fun x H h3=>by
 have IJ:=h.FO H (by rw[h3];decide);refine⟨by unfold fH;rw[aB (by rw[h3];decide),IJ],?_⟩;have hu:=h.uniq;obtain⟨n,De,o4,Iu⟩:=yd hu H;have Qj:x.id≠d.root:=fun e=>by
  have hr:=(rV h.w).2.2.2;unfold lV at hr;rw[<- e,De]at hr;simp only at hr;unfold Dc.at at hr;rw[Iu,h3]at hr;cases hr
 have K:=Bd (h.k x H);rw[aB Qj]at K;cases hp:jj d.ly x.id with
 |none=>
  exfalso;have:(k9 d.ly).count x.id=0:=List.count_eq_zero_of_not_mem fun S=>by
   obtain⟨ks,ES,Y⟩:=List.mem_flatten.1 S;obtain⟨z,hz,rfl⟩:=bQ.1 ES;by_cases Gw:z.kd=2
   . exact El hp z hz Gw Y
   . rw[h.FO hz Gw]at Y;cases Y
  rw[yf]at K;omega
 |some q=>
  obtain⟨g,j⟩:=q;obtain⟨y,hy,hyg,_,hj,_⟩:=yc hp;obtain⟨m,Dv,EI,hm3⟩:=yd hu hy;rw[hyg]at Dv;refine⟨g,j,m,rfl,Dv,?_⟩;unfold Dc.at
  rw[hm3];omega
set_option maxRecDepth 10000
theorem amG(a b:Int):Uy ak (U dY []) [] 1000 0 Tryz.f89 (dG Tryz.f89) (dw [.bool true,L a,L b] .nil 0)
  [([],
   [],
   .ret (.gC []) (W []) 0)]
 :=⟨C,C,C⟩
theorem Lj(a b:Int):dS ak 89 [.bool true,L a,L b] (.gC []):=
 eV Tryz.func89 (V1 (XH (dg _) []) mo _ C (amG a b) (dA (g0 ⟨all_nil,_,_,_,rfl,rfl⟩)))
set_option maxRecDepth 10000
def FP:ag->Option (ah×V)
 | [.int .i64 _]=>some ([],.bool false)
 |_=>none
noncomputable abbrev amH:gy:=lC 178 (gS FP) dY
theorem amI(a:Int):dn (U dY []) [] 0 Tryz.f178 [] (dG Tryz.f178) (dw [L a] .nil 0) [([],
   [],
   .ret (.bool (a !=a)) (W []) 0)]
 :=dh.of C C C
theorem amJ(a b:Int):dn (U amH []) [] 0 Tryz.f170 [] (dG Tryz.f170) (dw [L a,L b] .nil 0) [([],
   [],
   .ret (.bool (decide (a<b))) (W []) 0)]
 :=dh.of C C C
theorem Tj:kE ak 178 (gS FP):=by
 refine og Tryz.func178 fun args s' v e=>?_;unfold FP at e;split at e
 case h_2=>cases e
 rename_i n;obtain⟨rfl,rfl⟩:=sm e;exact⟨rfl,rfl,rfl,fun _=>eI (dg _) (amI n) (dA (g0 ⟨all_nil,_,_,_,rfl,aH V.bool (by simp)⟩))⟩
theorem ac5(a b:Int):dS ak 170 [L a,L b] (.bool (decide (a<b))):=
 eV Tryz.func170 (eI (fQ Tj (dg _)) (amJ a b) (dA (g0 ⟨all_nil,_,_,_,rfl,rfl⟩)))
set_option maxRecDepth 10000
noncomputable abbrev Tk:Code:=dG Tryz.f148
noncomputable abbrev bSo:Code:=dD (dD (dP (dB (dm 1 Tk))))
def Qk(l:List Int)(j:Nat):St:=ff [(0,fg l),(3,M j)] (W []) 0
theorem amK(l:List Int):dn (U dY []) [] 0 Tryz.f148 [0] (dN 1 Tk) (dw [fg l] .nil 0) [([],
   [],
   .to .normal (dw [fg l] .nil 0))]
 :=dh.of C C C
theorem amL(l:List Int)(j:Nat):dn (U dY []) [(6,.dy (M j))] 0 Tryz.f148 [0,3] (dB (dB (dm 1 Tk))) (dw [fg l] .nil 0) [([],
   [(V.int B (IntKind.i64.wrap ((Int.ofNat l.length)-(1:Int)))=M j)],
   .to .normal (Qk l j))]
 :=dh.of C C C
abbrev Ql(x y:Int):Prop:=V.lE ([]++[D.jJ._f (D.int B x) PUnit.unit,D.jJ._f (D.int B y) PUnit.unit]++[])=[L x,L y]
abbrev J6(j:Nat):Prop:=V.int B (IntKind.i64.wrap (Int.ofNat (j+1)-(1:Int)))=M j
abbrev Qm(l:List Int)(j:Nat):Prop:=(0:Int)<=Int.ofNat (j+1)/\Int.ofNat (j+1)<(Int.ofNat l.length)
abbrev Qn(l:List Int)(j:Nat)(x:Int):Prop:=V.dr (dj (dM l) ((j+1)*1) 1)=V.dr [D.int B x]
theorem amM(l:List Int)(j:Nat)(x y:Int)(b:Bool):dn (U (eZ 170 [L x,L y] (.bool b) dY) []) [(8,.dy (.bool true)),(13,.dy (.dr [.int .i64 x])),(17,.dy (M j)),(18,.dy (.dr [.int .i64 y])),(20,.split),(10,.dy (M j))] 0 Tryz.f148 [0,3] (bSo) (Qk l (j+1)) [([(b,true)],
   [(V.bool (decide (Int.ofNat (j+1)>(0:Int)))=V.bool true),Qm l j,((dM l).length=l.length*1),Qn l j x,J6 j,((0:Int)<=Int.ofNat j/\Int.ofNat j<(Int.ofNat l.length)),((dM l).length=l.length*1),(V.dr (dj (dM l) (j*1) 1)=V.dr [D.int B y]),Ql x y],
   .ret (.bool false) (W []) 0),
  ([(b,false)],
   [(V.bool (decide (Int.ofNat (j+1)>(0:Int)))=V.bool true),Qm l j,((dM l).length=l.length*1),Qn l j x,J6 j,((0:Int)<=Int.ofNat j/\Int.ofNat j<(Int.ofNat l.length)),((dM l).length=l.length*1),(V.dr (dj (dM l) (j*1) 1)=V.dr [D.int B y]),Ql x y,J6 j],
   .to .normal (Qk l j))]
 :=dh.of C C C
theorem amN(l:List Int):dn (U dY []) [] 0 Tryz.f148 [0,3] (bSo) (Qk l 0) [([],
   [],
   .to (.exit 0) (Qk l 0))]
 :=dh.of C C C
theorem amO(l:List Int):dn (U dY []) [] 0 Tryz.f148 [] (dP (dm 1 Tk)) (Qk l 0) [([],
   [],
   .ret (.bool true) (W []) 0)]
 :=dh.of C C C
set_option maxRecDepth 10000
def U1(l:List Int)(j:Nat):Bool:=decide (l.getD (j+1) 0<l.getD j 0)
def Aw(l:List Int):Bool:=!((List.range (l.length-1)).any (U1 l))
theorem Tm(l:List Int)(h0:0<l.length)(hl:l.length<=1000000000):dS ak 148 [fg l] (.bool (Aw l)):=by
 refine eV Tryz.func148 (fu 1 (dg _) (amK l) all_nil ?_);obtain⟨n0,hN⟩:∃n0,l.length=n0+1:=⟨l.length-1,G⟩;have e6:V.int .i64 (IntKind.i64.wrap (Int.ofNat l.length-(1:Int)))=M n0:=aH (V.int .i64) (by rw[hN,show Int.ofNat (n0+1)-1=Int.ofNat n0 by simp only[gT];omega];exact ik (by simp only[gT];omega) (by simp only[gT];omega));have hs:Aw l=!((List.range n0).any (U1 l)):=by unfold Aw;rw[hN];rfl
 refine dI C (dI C (gz (dg _) eH (amL l n0) (dA (g0 ⟨eC e6,fun A dU=>?_⟩))));simp only[andThen];refine iQ 0 n0 (fun i=>Qk l (n0-i)) (fun i=>U1 l (n0-i-1)) (dZ.norm dU) (fun i hi hj Q' k1 k2 k3=>?_) (fun Q A dU=>?_)
 . rcases br i n0 with q|q
   . obtain⟨j,w7⟩:∃j,n0-i=j+1:=⟨n0-i-1,G⟩;have e1:n0-(i+1)=j:=by omega
     have ej:n0-i-1=j:=by omega
     have b0:V.bool (decide (Int.ofNat (j+1)>(0:Int)))=V.bool true:=aH V.bool (aY (by simp only[gT];omega));have b2:V.int .i64 (IntKind.i64.wrap (Int.ofNat (j+1)-(1:Int)))=M j:=aH (V.int .i64) (by rw[show Int.ofNat (j+1)-1=Int.ofNat j by simp only[gT];omega];exact ik (by simp only[gT];omega) (by simp only[gT];omega));have M0:j+1<l.length:=by omega
     have be:=J b0 (J (iM M0) (J (ew l) (J (fJ M0) (J b2 (J (iM (show j<l.length by omega)) (J (ew l) (J (fJ (show j<l.length by omega)) (eC (show eY [L (l.getD (j+1) 0),L (l.getD j 0)]from rfl)))))))));have C2:=J b0 (J (iM M0) (J (ew l) (J (fJ M0) (J b2 (J (iM (show j<l.length by omega)) (J (ew l) (J (fJ (show j<l.length by omega)) (J (show eY [L (l.getD (j+1) 0),L (l.getD j 0)]from rfl) (eC b2)))))))));show TG _ _ _ _ (Qk l (n0-i)) _;rw[w7];refine gz (fj (ac5 (l.getD (j+1) 0) (l.getD j 0)) (dg _)) (fun u _ _=>u= .bool (Aw l)) (amM l j (l.getD (j+1) 0) (l.getD j 0) (U1 l j)) (dz (g1 fun h=>⟨be,?_,k3⟩) (dA (g1 fun h=>⟨C2,fun A dU=>k1 q (by rw[ej];exact h) A (by show dZ _ _ _ _ (Qk l (n0-(i+1)));rw[e1];exact dZ.norm dU)⟩)));rw[hs,qB (f:=U1 l) (show j<n0 by omega) h];rfl
   . obtain rfl:i=n0:=by omega
     show TG _ _ _ _ (Qk l (i-i)) _;have e0:i-i=0:=Nat.sub_self i;rw[e0];exact gz (dg _) eH (amN l) (dA (g0 ⟨all_nil,fun A dU=>k2 rfl A (by show dZ _ _ _ _ (Qk l (i-i));rw[e0];exact dZ.norm dU)⟩))
 simp only[andThen];refine dU _ _ ?_;rw[Nat.sub_self];refine eI (dg _) (amO l) (dA (g0 ⟨all_nil,_,_,_,rfl,?_⟩));rw[hs,qC (f:=U1 l) fun j hj=>by
  have:=Q (n0-1-j) G;rw[show n0-(n0-1-j)-1=j by omega]at this;exact this]
 rfl
end Go.Proofs.YtmjggdmekboefaaGreat
