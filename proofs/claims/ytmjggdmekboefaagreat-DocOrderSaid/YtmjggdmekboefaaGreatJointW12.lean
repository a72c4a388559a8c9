/- The Doc laws: the program's tree: pieces. No conditions. -/
import Derived.Test.YtmjggdmekboefaaGreatJointW10
import Derived.Test.YtmjggdmekboefaaGreatJointW11
set_option linter.unusedVariables false
set_option linter.unusedSimpArgs false
set_option linter.unusedSectionVars false
namespace Go.Proofs.YtmjggdmekboefaaGreat
open Go Go.Eng
set_option maxRecDepth 10000
def lR(d:Dc)(T:ae):J h2:=G [(0,.cells (d.R++[.map (some 1)])),(1,.gl (some .i64) T)]
noncomputable abbrev adV:Code:=dI Tryz.f44
abbrev pT:V:=.ptr (some (0,0))
theorem ann(d:Dc)(T:List (Eng.D×Eng.D))(id:Int)(n:Nat)(x:eJ):dw (U dY []) [(14,.dz (.gw [M n,.bool true])),(26,.dz (.dx x.ds))] 2 Tryz.f44 [] (adV) (dy [pT,L id] (lR d T) 2) [([],
   [((if true=true then V.gw [D.jX (V.int A (0:Int)) (eZ (D.int A id) T),V.bool (eZ (D.int A id) T).isSome]else D.jX (V.int A (0:Int)) (eZ (D.int A id) T))=V.gw [M n,V.bool true]),((0:Int)<=Int.ofNat n/\Int.ofNat n<(Int.ofNat d.ly.length)),((fc d.ly).length=d.ly.length*31),(V.dx (dn (fc d.ly) (n*31) 31)=V.dx x.ds)],
   .ret (.gw [.agg [.int .i64 (x.id),.int .i64 (x.kd),.str (x.nm),.bool (x.hid),.int .i64 (x.op),.int .i64 (x.md),.bool (x.clip),.int .i64 (x.pl.a),.int .i64 (x.pl.b),.int .i64 (x.pl.c),.int .i64 (x.pl.d),.int .i64 (x.pl.e),.int .i64 (x.pl.f),.int .i64 (x.pl.n),.int .i64 (x.sp),.eB false (x.kids.length) (dO x.kids),.int .i64 (x.of),.int .i64 (x.f.k),.int .i64 (x.f.r),.eB false (x.f.eM.length) (dO x.f.eM),.int .i64 (x.f.dv),.int .i64 (x.f.vl),.eB false (x.f.cu.length) (dO x.f.cu),.int .u8 (x.fi.r),.int .u8 (x.fi.g),.int .u8 (x.fi.b),.int .u8 (x.fi.a),.eB false (x.gW.length) (qZ x.gW),.eB false (x.gd.length) (jE x.gd),.bool (x.K),.eB false (x.iH.length) (jE x.iH)],.bool true]) (G [(0,.cells [.eB false (d.sp.length) (mE d.sp),.int .i64 (d.root),.int .i64 (d.nx),.eB false (d.ly.length) (fc d.ly),.map (some 1)]),(1,.gl (some .i64) T)]) 2)]
 :=dj.of C C C
theorem ano(d:Dc)(T:List (Eng.D×Eng.D))(id:Int):dw (U dY []) [(14,.dz (.gw [L 0,.bool false]))] 2 Tryz.f44 [] (adV) (dy [pT,L id] (lR d T) 2) [([],
   [((if true=true then V.gw [D.jX (V.int A (0:Int)) (eZ (D.int A id) T),V.bool (eZ (D.int A id) T).isSome]else D.jX (V.int A (0:Int)) (eZ (D.int A id) T))=V.gw [L (0:Int),V.bool false])],
   .ret (.gw [.agg [.int .i64 0,.int .i64 0,.str [],.bool false,.int .i64 0,.int .i64 0,.bool false,.int .i64 0,.int .i64 0,.int .i64 0,.int .i64 0,.int .i64 0,.int .i64 0,.int .i64 0,.int .i64 0,.eR none 0 0 0,.int .i64 0,.int .i64 0,.int .i64 0,.eR none 0 0 0,.int .i64 0,.int .i64 0,.eR none 0 0 0,.int .u8 0,.int .u8 0,.int .u8 0,.int .u8 0,.eR none 0 0 0,.eR none 0 0 0,.bool false,.eR none 0 0 0],.bool false]) (G [(0,.cells [.eB false (d.sp.length) (mE d.sp),.int .i64 (d.root),.int .i64 (d.nx),.eB false (d.ly.length) (fc d.ly),.map (some 1)]),(1,.gl (some .i64) T)]) 2)]
 :=dj.of C C C
section
variable(f:FuncId)(rest:ag)
def IJ(d:Dc)(T:List (Eng.D×Eng.D))(v:V):ag->J h2->Nat->Option (ah×V×J h2×Nat):=fun args h k=>some ([args=pT::rest,h=lR d T,k=2],v,lR d T,2)
def mh(d:Dc)(T:List (Eng.D×Eng.D))(v:V):Prop:=jK ak f (oB (IJ rest d T v))
def rZ(d:Dc)(T:List (Eng.D×Eng.D))(v:V)(fm:gF):gF:=jZ f (oB (IJ rest d T v)) fm
end
theorem ny{f:FuncId}{rest:ag}{d:Dc}{T:List (Eng.D×Eng.D)}{v:V}{fm:gF}(h:mh f rest d T v)(hS:eU ak fm):eU ak (rZ f rest d T v fm):=fC h hS
theorem EP{f:FuncId}{fn:Func}{rest:ag}{d:Dc}{T:List (Eng.D×Eng.D)}{v:V}(hf:Tryz.prog.funcs[f]? =some fn)(hT:TG ak 2 fn.ntmps (dI fn) (dy (pT::rest) (lR d T) 2) (fH ak 2 fn fun a b c=>a=v/\b=lR d T/\c=2))
  (eO:Nat.blt f Tryz.prog.funcs.size=true:=by kernel_rfl) (hb:fn.body=some (dI fn):=by kernel_rfl) (l:(Nat.ble (pT::rest).length fn.ntmps&&Nat.blt fn.ntmps fZ)=true:=by kernel_rfl):mh f rest d T v:=
 LM mo po (az eO) hf hb fun args h k aj v' h' k' e hA=>by
  simp only[IJ,aq,aF]at e;obtain⟨rfl,rfl,rfl,rfl⟩:=e;have Q:args=pT::rest:=hA _ (by simp);have O:h=lR d T:=hA (h=lR d T) (by simp);have h3:k=2:=hA (k=2) (by simp);subst Q O h3;exact⟨l,hT⟩
noncomputable abbrev No:Code:=dI Tryz.f95
def YA(d:Dc)(T:List (Eng.D×Eng.D))(x:eJ)(r:List (Nat×V)):St:=fq ([(0,pT),(5,.ptr (some (2,0)))]++r) (G [(0,.cells (d.R++[.map (some 1)])),(1,.gl (some .i64) T),(2,.cells x.R)]) 3
theorem anp(d:Dc)(T:List (Eng.D×Eng.D))(id:Int)(x:eJ):dw (U (rZ 44 [L id] d T (.gw [x.v,.bool true]) dY) []) [] 2 Tryz.f95 [0,5] (dM 2 No) (dy [pT,L id] (lR d T) 2) [([],
   [([V.ptr (some (0,0)),V.int A id]=[pT,L id]),((J.nil.set 0 (some (h2.cells [V.eB false d.sp.length (mE d.sp),V.int A d.root,V.int A d.nx,V.eB false d.ly.length (fc d.ly),V.map (some 1)]))).set 1 (some (h2.gl (some A) T))=lR d T),(2=2)],
   .to .normal (YA d T x []))]
 :=dj.of C C C
theorem anq(d:Dc)(T:List (Eng.D×Eng.D))(x:eJ):dw (U dY []) [] 2 Tryz.f95 [0,5,15] (dF (dF (dr 2 No))) (YA d T x []) [([],
   [],
   .to .normal (YA d T x [(15,.bool (x.kd==(4:Int)))]))]
 :=dj.of C C C
theorem anr(d:Dc)(T:List (Eng.D×Eng.D))(x:eJ):dw (U dY []) [] 2 Tryz.f95 [4] (dF (lK (dX (dF (dr 2 No))))) (YA d T x [(15,.bool true)]) [([],
   [],
   .to .normal (fq [(4,.eR (some (2,0)) 1 1 1)] (G [(0,.cells [.eB false (d.sp.length) (mE d.sp),.int .i64 (d.root),.int .i64 (d.nx),.eB false (d.ly.length) (fc d.ly),.map (some 1)]),(1,.gl (some .i64) T),(2,.cells [.int .i64 (x.of)])]) 3))]
 :=dj.of C C C
theorem ans(d:Dc)(T:List (Eng.D×Eng.D))(Y:List Int):dw (U dY []) [] 2 Tryz.f95 [] (dX (lK (dX (dF (dr 2 No))))) (fq [(4,fj Y)] (lR d T) 2) [([],
   [],
   .ret (.eB false (Y.length) (dO Y)) (G [(0,.cells [.eB false (d.sp.length) (mE d.sp),.int .i64 (d.root),.int .i64 (d.nx),.eB false (d.ly.length) (fc d.ly),.map (some 1)]),(1,.gl (some .i64) T)]) 2)]
 :=dj.of C C C
theorem ant(d:Dc)(T:List (Eng.D×Eng.D))(x:eJ):dw (U dY []) [] 2 Tryz.f95 [0,5] (oW (dX (dF (dr 2 No)))) (YA d T x [(15,.bool false)]) [([],
   [],
   .to .normal (YA d T x []))]
 :=dj.of C C C
theorem anu(d:Dc)(T:List (Eng.D×Eng.D))(x:eJ):dw (U dY []) [] 2 Tryz.f95 [] (dX (dr 2 No)) (YA d T x []) [([],
   [],
   .ret (.eB false (x.kids.length) (dO x.kids)) (G [(0,.cells [.eB false (d.sp.length) (mE d.sp),.int .i64 (d.root),.int .i64 (d.nx),.eB false (d.ly.length) (fc d.ly),.map (some 1)]),(1,.gl (some .i64) T)]) 2)]
 :=dj.of C C C
set_option maxRecDepth 10000
def xl(d:Dc)(T:List (Eng.D×Eng.D)):Prop:=∀k,eZ (.int .i64 k) T=(jy d.ly k).map fun n=>.int .i64 (Int.ofNat n)
theorem nW{d:Dc}{T:List (Eng.D×Eng.D)}(h:xl d T){id:Int}{n:Nat}(hn:jy d.ly id=some n):mh 44 [L id] d T (.gw [(d.at n).v,.bool true]):=by
 obtain⟨eO,_,_⟩:=jn hn;have hl:=h id;rw[hn]at hl;refine EP Tryz.func44 (eK (di _) (ann d T id n (d.at n)) (dB (g0 ⟨S (by rw[hl];rfl) (S (iI eO) (S (gj _) (eG (iw eO)))),_,_,_,rfl,rfl,rfl,rfl⟩)))
def T7:V:=.agg (NX 0 0 z7 0)
theorem xm{d:Dc}{T:List (Eng.D×Eng.D)}(h:xl d T){id:Int}(hn:jy d.ly id=none):mh 44 [L id] d T (.gw [T7,.bool false]):=by
 have hl:=h id;rw[hn]at hl;refine EP Tryz.func44 (eK (di _) (ano d T id) (dB (g0 ⟨eG (by rw[hl];rfl),_,_,_,rfl,rfl,rfl,rfl⟩)))
theorem Di{d:Dc}{T:List (Eng.D×Eng.D)}(h:xl d T){id:Int}{n:Nat}(hn:jy d.ly id=some n):mh 95 [L id] d T (fj (fN (d.at n))):=by
 generalize I:d.at n=x;have G:=nW h hn;rw[I]at G;refine EP Tryz.func95 (fF 2 (ny G (di _)) (anp d T id x) (S rfl (S rfl (eG rfl))) ?_);refine dK C (qt (di _) eE (anq d T x) (dB (g0 ⟨all_nil,?_⟩)));refine jR (t:=x.kd==(4:Int)) C C (fun q=>?_) (fun q=>?_)
 . rw[q];refine qt (di _) eE (anr d T x) (dB (g0 ⟨all_nil,?_⟩));refine ek.Ip [2] [4] (fm:=fq [(4,fj [x.of])] (lR d T) 2) (aj:=[(dO [x.of]).length=1*1]) C (eG rfl) _ _ ?_;have e:fN x=[x.of]:=aG (xg.1 q);rw[e];exact gv (di _) (fun a b c=>a=fj [x.of]/\b=lR d T/\c=2) (ans d T [x.of]) (dB (g0 ⟨all_nil,⟨rfl,rfl,rfl⟩,fun _ h=>h⟩))
 . rw[q];have e:fN x=x.kids:=aB (Dh q);rw[e];refine gv (di _) eE (ant d T x) (dB (g0 ⟨all_nil,fun X dQ=>?_⟩));simp only[andThen];exact fU dQ (eK (di _) (anu d T x) (dB (g0 ⟨all_nil,_,_,_,rfl,rfl,rfl,rfl⟩)))
set_option maxRecDepth 10000
noncomputable abbrev Np:Code:=dI Tryz.f48
noncomputable abbrev YB:Code:=dr 1 (dX (dr 2 Np))
noncomputable abbrev bDq:Code:=dG (dG (dX (dF YB)))
def sDq(d:Dc)(T:List (Eng.D×Eng.D))(id:Int)(x:eJ)(r:List (Nat×V)):St:=fq ([(0,pT),(1,L id),(5,.ptr (some (2,0)))]++r) (G [(0,.cells (d.R++[.map (some 1)])),(1,.gl (some .i64) T),(2,.cells x.R)]) 3
def YC(d:Dc)(T:List (Eng.D×Eng.D))(m:Int)(ps:List Int)(i:Nat):St:=fq [(0,pT),(7,L m),(26,fj ps),(27,M ps.length),(28,M i)] (lR d T) 2
theorem anv(d:Dc)(T:List (Eng.D×Eng.D))(id:Int)(x:eJ):dw (U (rZ 44 [L id] d T (.gw [x.v,.bool true]) dY) []) [] 2 Tryz.f48 [0,1,5] (dM 2 Np) (dy [pT,L id] (lR d T) 2) [([],
   [([V.ptr (some (0,0)),V.int A id]=[pT,L id]),((J.nil.set 0 (some (h2.cells [V.eB false d.sp.length (mE d.sp),V.int A d.root,V.int A d.nx,V.eB false d.ly.length (fc d.ly),V.map (some 1)]))).set 1 (some (h2.gl (some A) T))=lR d T),(2=2)],
   .to .normal (sDq d T id x []))]
 :=dj.of C C C
theorem anw(d:Dc)(T:List (Eng.D×Eng.D))(id:Int)(x:eJ):dw (U dY []) [(18,.split),(22,.split)] 2 Tryz.f48 [0,1,5] (dF (dr 2 Np)) (sDq d T id x []) [([((x.kd !=(2:Int)),true),((x.kd !=(4:Int)),true)],
   [],
   .ret (.int .i64 0) (lR d T) 2),
  ([((x.kd !=(2:Int)),true),((x.kd !=(4:Int)),false)],
   [],
   .to .normal (sDq d T id x [])),
  ([((x.kd !=(2:Int)),false)],
   [],
   .to .normal (sDq d T id x []))]
 :=dj.of C C C
theorem anx(d:Dc)(T:List (Eng.D×Eng.D))(id:Int)(x:eJ):dw (U dY []) [] 2 Tryz.f48 [0,1,7] (dM 1 (dX (dr 2 Np))) (sDq d T id x []) [([],
   [],
   .to .normal (fq [(0,pT),(1,L id),(7,L 0)] (lR d T) 2))]
 :=dj.of C C C
theorem adW(d:Dc)(T:List (Eng.D×Eng.D))(id:Int)(ps:List Int):dw (U (rZ 95 [L id] d T (fj ps) dY) []) [] 2 Tryz.f48 [0,7,26,27,28] (dF (dF YB)) (fq [(0,pT),(1,L id),(7,L 0)] (lR d T) 2) [([],
   [([V.ptr (some (0,0)),V.int A id]=[pT,L id]),((J.nil.set 0 (some (h2.cells [V.eB false d.sp.length (mE d.sp),V.int A d.root,V.int A d.nx,V.eB false d.ly.length (fc d.ly),V.map (some 1)]))).set 1 (some (h2.gl (some A) T))=lR d T),(2=2)],
   .to .normal (YC d T 0 ps 0))]
 :=dj.of C C C
theorem anz(d:Dc)(T:List (Eng.D×Eng.D))(ps:List Int)(i:Nat)(m p a:Int):dw (U (rZ 48 [L p] d T (L a) dY) []) [(29,.dz (.bool true)),(30,.dz (.dx [.int .i64 p])),(37,.dz (M (i+1)))] 2 Tryz.f48 [0,7,26,27,28] (bDq) (YC d T m ps i) [([],
   [(V.bool (decide (Int.ofNat i<Int.ofNat ps.length))=V.bool true),((0:Int)<=Int.ofNat i/\Int.ofNat i<(Int.ofNat ps.length)),((dO ps).length=ps.length*1),(V.dx (dn (dO ps) (i*1) 1)=V.dx [D.int A p]),([V.ptr (some (0,0)),V.int A p]=[pT,L p]),((J.nil.set 0 (some (h2.cells [V.eB false d.sp.length (mE d.sp),V.int A d.root,V.int A d.nx,V.eB false d.ly.length (fc d.ly),V.map (some 1)]))).set 1 (some (h2.gl (some A) T))=lR d T),(2=2),(V.int A (IntKind.i64.wrap (Int.ofNat i+(1:Int)))=M (i+1))],
   .to .normal (YC d T (zU m a) ps (i+1)))]
 :=dj.of C C C
theorem adX(d:Dc)(T:List (Eng.D×Eng.D))(ps:List Int)(i:Nat)(m:Int):dw (U dY []) [(29,.dz (.bool false))] 2 Tryz.f48 [0,7,26,27,28] (bDq) (YC d T m ps i) [([],
   [(V.bool (decide (Int.ofNat i<Int.ofNat ps.length))=V.bool false)],
   .to (.exit 0) (YC d T m ps i))]
 :=dj.of C C C
theorem anA(d:Dc)(T:List (Eng.D×Eng.D))(ps:List Int)(i:Nat)(m:Int):dw (U dY []) [] 2 Tryz.f48 [] (dX YB) (YC d T m ps i) [([],
   [],
   .ret (.int .i64 (IntKind.i64.wrap (m+(1:Int)))) (G [(0,.cells [.eB false (d.sp.length) (mE d.sp),.int .i64 (d.root),.int .i64 (d.nx),.eB false (d.ly.length) (fc d.ly),.map (some 1)]),(1,.gl (some .i64) T)]) 2)]
 :=dj.of C C C
set_option maxRecDepth 10000
def Clo(ls:List eJ):Prop:=∀x∈ls,∀p∈fN x,∃n,jy ls p=some n
theorem jg.clo{d:Dc}(h:jg d):Clo d.ly:=fun x I p hp=>by
 unfold fN at hp;split at hp
 . rename_i h4;rw[aH]at hp;subst hp;have:=h.c x I;unfold Be at this;rw[h4]at this;cases hn:jy d.ly x.of with
   |none=>rw[hn]at this;cases this
   |some n=>exact⟨n,rfl⟩
 . exact De (h.k x I) hp
theorem Dj(d:Dc)(T:List (Eng.D×Eng.D))(h:xl d T)(hd:F7 d)(B:Clo d.ly)(rk:Int->Nat)(hrk:Ge d.ly rk):∀k,k<=1000->∀id n,jy d.ly id=some n->rk id<k->mh 48 [L id] d T (L (ic d.ly k id)):=by
 intro k
 induction k with
 |zero=>intro _ id _ _ h;exact absurd h (bC _)
 |succ k ih=>
  intro W id n hn avf;have G:=nW h hn;have hP:=Di h hn;obtain⟨eO,hid,qx⟩:=jn hn;have vY:∀p∈fN (d.at n),∃m,jy d.ly p=some m:=B _ qx;have hkl:=hd.kids _ qx;have hrx:=hrk id n hn;have hv:ic d.ly (k+1) id=if((d.at n).kd !=2&&(d.at n).kd !=4)=true then 0 else(fN (d.at n)).foldl (fun m p=>zU m (ic d.ly k p)) 0+1:=by
   rw[ic,hn];rfl
  change (isK (d.at n)=true->∀p∈fN (d.at n),rk p<rk id)at hrx;change (d.at n).kids.length<=1000000 at hkl;generalize d.at n=x at *;refine EP Tryz.func48 (fF 2 (ny G (di _)) (anv d T id x) (S rfl (S rfl (eG rfl))) ?_);have qv:(x.kd !=2&&x.kd !=4)=false->TG ak 2 Tryz.f48.ntmps (dX (dr 2 Np)) (sDq d T id x []) (fH ak 2 Tryz.f48 fun a b c=>a=L (ic d.ly (k+1) id)/\b=lR d T/\c=2):=fun WC=>by
   rw[hv,WC,aB eY];have hp:∀p∈fN x,rk p<k:=fun p hp=>by
    have:=hrx (by unfold isK;rw[WC];rfl) p hp;omega
   have hl:(fN x).length<=1000000:=by
    unfold fN;split
    . simp
    . exact hkl
   refine fF 1 (di _) (anx d T id x) all_nil ?_;generalize fN x=ps at *;refine dK C (dK C (gv (ny hP (di _)) eE (adW d T id ps) (dB (g0 ⟨S rfl (S rfl (eG rfl)),fun X dQ=>?_⟩))));simp only[andThen];refine jf 0 ps.length (fun i=>YC d T ((ps.take i).foldl (fun m p=>zU m (ic d.ly k p)) 0) ps i) (fun _=>false) (ek.norm dQ) (fun i hi hj Q' m1 m2 m3=>?_) (fun Q X dQ=>?_)
   . rcases bt i ps.length with q|q
     . have hg:=fD (l:=ps) q;have K:ps.getD i 0∈ps:=by rw[ax,au q];exact bK q
       have ht:(ps.take (i+1)).foldl (fun m p=>zU m (ic d.ly k p)) 0=zU ((ps.take i).foldl (fun m p=>zU m (ic d.ly k p)) 0) (ic d.ly k (ps.getD i 0)):=by
        rw[bY,getD_some 0 q,Option.toList_some,List.foldl_append];rfl
       obtain⟨n2,pD⟩:=vY _ K;refine gv (ny (ih H (ps.getD i 0) n2 pD (hp _ K)) (di _)) eE (anz d T ps i _ (ps.getD i 0) (ic d.ly k (ps.getD i 0))) (dB (g0 ⟨S (aI V.bool (aZ (cm.2 q))) (S (iI q) (S (eo ps) (S hg (S rfl (S rfl (S rfl (eG (gJ H)))))))),fun X dQ=>m1 q rfl X ?_⟩));rw[ht];exact ek.norm dQ
     . obtain rfl:i=ps.length:=by omega
       exact gv (di _) eE (adX d T ps _ _) (dB (g0 ⟨eG (aI V.bool (aT (by simp only[gQ];omega))),fun X dQ=>m2 rfl X (ek.norm dQ)⟩))
   simp only[andThen];refine dQ _ _ (eK (di _) (anA d T ps ps.length _) (dB (g0 ⟨all_nil,_,_,_,rfl,?_,rfl,rfl⟩)));rw[bz];have O:=Da (l:=ps) (f:=ic d.ly k) (b:=Int.ofNat k) (fun p _=>Gf d.ly k p) 0 (bZ _);have h3:=Db (l:=ps) (f:=ic d.ly k) 0;generalize ps.foldl (fun m p=>zU m (ic d.ly k p)) 0=z at O h3 ⊢;exact aI (V.int .i64) (gZ H (by simp only[gQ]at O;omega))
  refine qt (di _) (fun a b c=>a=L (ic d.ly (k+1) id)/\b=lR d T/\c=2) (anw d T id x) (dD (g2 fun Q O=>⟨all_nil,⟨by rw[hv,Q,O];rfl,rfl,rfl⟩,fun _ h=>h⟩) (dD (g2 fun Q O=>⟨all_nil,qv (by rw[Q,O];rfl)⟩) (dB (g1 fun Q=>⟨all_nil,qv (by rw[Q];rfl)⟩))))
set_option maxRecDepth 10000
noncomputable abbrev adZ:Code:=dI Tryz.f45
noncomputable abbrev Nq:Code:=dI Tryz.f97
def hC(d:Dc)(T:List (Eng.D×Eng.D))(f:Nat)(t:Int)(sn:List (Eng.D×Eng.D)):J h2:=G [(0,.cells [.fn (.func f) [.ptr (some (1,0))] []]),(1,.cells (d.R++[.map (some 2)])),(2,.gl (some .i64) T),(3,.cells [L t]),(4,.cells [.map (some 5)]),(5,.gl (some .i64) sn),(6,.cells [.fn (.func 97) [] [.ptr (some (0,0)),.ptr (some (3,0)),.ptr (some (4,0)),.ptr (some (6,0))]])]
abbrev aC(x:Int):ag:=[L x,.ptr (some (0,0)),.ptr (some (3,0)),.ptr (some (4,0)),.ptr (some (6,0))]
def T8(d:Dc)(T:List (Eng.D×Eng.D))(f:Nat)(t x:Int)(sn KD:List (Eng.D×Eng.D))(b:Bool):ag->J h2->Nat->Option (ah×V×J h2×Nat):=fun args h k=>some ([args=aC x,h=hC d T f t sn,k=7],.bool b,hC d T f t KD,7)
def YD(d:Dc)(T:List (Eng.D×Eng.D))(f:Nat)(t x:Int)(sn KD:List (Eng.D×Eng.D))(b:Bool):Prop:=jK ak 97 (oB (T8 d T f t x sn KD b))
def sC(d:Dc)(T:List (Eng.D×Eng.D))(f:Nat)(t:Int)(ps:List Int)(i:Nat)(sn:List (Eng.D×Eng.D))(r:List (Nat×V)):St:=fq ([(1,.ptr (some (0,0))),(2,.ptr (some (3,0))),(3,.ptr (some (4,0))),(4,.ptr (some (6,0))),(11,fj ps),(12,M ps.length),(13,M i)]++r) (hC d T f t sn) 7
noncomputable abbrev bRy:Code:=dG (dG (dX (dF (dr 1 Nq))))
theorem anB(d:Dc)(T:List (Eng.D×Eng.D))(f:Nat)(t x:Int)(sn:List (Eng.D×Eng.D)):dw (U dY []) [] 7 Tryz.f97 [0,1,2,3,4] (dM 1 Nq) (dy (aC x) (hC d T f t sn) 7) [([],
   [],
   .to .normal (dy (aC x) (hC d T f t sn) 7))]
 :=dj.of C C C
theorem anC(d:Dc)(T:List (Eng.D×Eng.D))(t x:Int)(sn:List (Eng.D×Eng.D))(ps:List Int):dw (U (rZ 95 [L x] d T (fj ps) dY) []) [] 7 Tryz.f97 [1,2,3,4,11,12,13] (dF (dF (dr 1 Nq))) (dy (aC x) (hC d T 95 t sn) 7) [([],
   [([V.ptr (some (0,0)),V.int A x]=[pT,L x]),((J.nil.set 0 (some (h2.cells [V.eB false d.sp.length (mE d.sp),V.int A d.root,V.int A d.nx,V.eB false d.ly.length (fc d.ly),V.map (some 1)]))).set 1 (some (h2.gl (some A) T))=lR d T),(2=2)],
   .to .normal (sC d T 95 t ps 0 sn []))]
 :=dj.of C C C
theorem ad0(d:Dc)(T:List (Eng.D×Eng.D))(t x:Int)(sn:List (Eng.D×Eng.D))(ps:List Int):dw (U (rZ 46 [L x] d T (fj ps) dY) []) [] 7 Tryz.f97 [1,2,3,4,11,12,13] (dF (dF (dr 1 Nq))) (dy (aC x) (hC d T 46 t sn) 7) [([],
   [([V.ptr (some (0,0)),V.int A x]=[pT,L x]),((J.nil.set 0 (some (h2.cells [V.eB false d.sp.length (mE d.sp),V.int A d.root,V.int A d.nx,V.eB false d.ly.length (fc d.ly),V.map (some 1)]))).set 1 (some (h2.gl (some A) T))=lR d T),(2=2)],
   .to .normal (sC d T 46 t ps 0 sn []))]
 :=dj.of C C C
theorem anD(d:Dc)(T:List (Eng.D×Eng.D))(f:Nat)(t:Int)(sn:List (Eng.D×Eng.D))(ps:List Int)(i:Nat)(k:Int):dw (U dY []) [(14,.dz (.bool true)),(15,.dz (.dx [.int .i64 k])),(19,.dz (.bool true))] 7 Tryz.f97 [1,2,3,4,11,12,13] (bRy) (sC d T f t ps i sn []) [([],
   [(V.bool (decide (Int.ofNat i<Int.ofNat ps.length))=V.bool true),((0:Int)<=Int.ofNat i/\Int.ofNat i<(Int.ofNat ps.length)),((dO ps).length=ps.length*1),(V.dx (dn (dO ps) (i*1) 1)=V.dx [D.int A k]),(V.bool (k==t)=V.bool true)],
   .ret (.bool true) (hC d T f t sn) 7)]
 :=dj.of C C C
theorem anE(d:Dc)(T:List (Eng.D×Eng.D))(f:Nat)(t:Int)(sn:List (Eng.D×Eng.D))(ps:List Int)(i:Nat)(k:Int):dw (U dY []) [(14,.dz (.bool true)),(15,.dz (.dx [.int .i64 k])),(19,.dz (.bool false)),(22,.dz (.bool true)),(29,.dz (M (i+1)))] 7 Tryz.f97 [1,2,3,4,11,12,13] (bRy) (sC d T f t ps i sn []) [([],
   [(V.bool (decide (Int.ofNat i<Int.ofNat ps.length))=V.bool true),((0:Int)<=Int.ofNat i/\Int.ofNat i<(Int.ofNat ps.length)),((dO ps).length=ps.length*1),(V.dx (dn (dO ps) (i*1) 1)=V.dx [D.int A k]),(V.bool (k==t)=V.bool false),((if false=true then V.gw [D.jX (V.bool false) (eZ (D.int A k) sn),V.bool (eZ (D.int A k) sn).isSome]else D.jX (V.bool false) (eZ (D.int A k) sn))=V.bool true),(V.int A (IntKind.i64.wrap (Int.ofNat i+(1:Int)))=M (i+1))],
   .to .normal (sC d T f t ps (i+1) sn []))]
 :=dj.of C C C
abbrev QW(d:Dc)(T:List (Eng.D×Eng.D))(f:Nat)(t:Int)(sn:List (Eng.D×Eng.D))(k:Int):Prop:=((((((J.nil.set 0 (some (h2.cells [V.fn (Fn.func f) [V.ptr (some (1,0))] []]))).set 1 (some (h2.cells [V.eB false d.sp.length (mE d.sp),V.int A d.root,V.int A d.nx,V.eB false d.ly.length (fc d.ly),V.map (some 2)]))).set 2 (some (h2.gl (some A) T))).set 3 (some (h2.cells [V.int A t]))).set 4 (some (h2.cells [V.map (some 5)]))).set 5 (some (h2.gl (some A) (l9 (D.int A k) (D.bool true) sn)))).set 6 (some (h2.cells [V.fn (Fn.func (97:FuncId)) [] [V.ptr (some (0,0)),V.ptr (some (3,0)),V.ptr (some (4,0)),V.ptr (some (6,0))]]))=hC d T f t (l9 (D.int A k) (D.bool true) sn)
abbrev QX(sn:List (Eng.D×Eng.D))(k:Int):Prop:=(if false=true then V.gw [D.jX (V.bool false) (eZ (D.int A k) sn),V.bool (eZ (D.int A k) sn).isSome]else D.jX (V.bool false) (eZ (D.int A k) sn))=V.bool false
theorem anF(d:Dc)(T:List (Eng.D×Eng.D))(f:Nat)(t:Int)(sn KD:List (Eng.D×Eng.D))(ps:List Int)(i:Nat)(k:Int)(b:Bool):dw (U (jZ 97 (oB (T8 d T f t k (l9 (.int .i64 k) (.bool true) sn) KD b)) dY) []) [(14,.dz (.bool true)),(15,.dz (.dx [.int .i64 k])),(19,.dz (.bool false)),(22,.dz (.bool false)),(29,.dz (M (i+1))),(28,.split)] 7 Tryz.f97 [1,2,3,4,11,12,13] (bRy) (sC d T f t ps i sn []) [([(b,true)],
   [(V.bool (decide (Int.ofNat i<Int.ofNat ps.length))=V.bool true),((0:Int)<=Int.ofNat i/\Int.ofNat i<(Int.ofNat ps.length)),((dO ps).length=ps.length*1),(V.dx (dn (dO ps) (i*1) 1)=V.dx [D.int A k]),(V.bool (k==t)=V.bool false),QX sn k,([V.int A k,V.ptr (some (0,0)),V.ptr (some (3,0)),V.ptr (some (4,0)),V.ptr (some (6,0))]=aC k),QW d T f t sn k,(7=7)],
   .ret (.bool true) (hC d T f t KD) 7),
  ([(b,false)],
   [(V.bool (decide (Int.ofNat i<Int.ofNat ps.length))=V.bool true),((0:Int)<=Int.ofNat i/\Int.ofNat i<(Int.ofNat ps.length)),((dO ps).length=ps.length*1),(V.dx (dn (dO ps) (i*1) 1)=V.dx [D.int A k]),(V.bool (k==t)=V.bool false),QX sn k,([V.int A k,V.ptr (some (0,0)),V.ptr (some (3,0)),V.ptr (some (4,0)),V.ptr (some (6,0))]=aC k),QW d T f t sn k,(7=7),(V.int A (IntKind.i64.wrap (Int.ofNat i+(1:Int)))=M (i+1))],
   .to .normal (sC d T f t ps (i+1) KD []))]
 :=dj.of C C C
theorem anG(d:Dc)(T:List (Eng.D×Eng.D))(f:Nat)(t:Int)(sn:List (Eng.D×Eng.D))(ps:List Int)(i:Nat):dw (U dY []) [(14,.dz (.bool false))] 7 Tryz.f97 [1,2,3,4,11,12,13] (bRy) (sC d T f t ps i sn []) [([],
   [(V.bool (decide (Int.ofNat i<Int.ofNat ps.length))=V.bool false)],
   .to (.exit 0) (sC d T f t ps i sn []))]
 :=dj.of C C C
theorem anH(d:Dc)(T:List (Eng.D×Eng.D))(f:Nat)(t:Int)(sn:List (Eng.D×Eng.D))(ps:List Int)(i:Nat):dw (U dY []) [] 7 Tryz.f97 [] (dX (dr 1 Nq)) (sC d T f t ps i sn []) [([],
   [],
   .ret (.bool false) (hC d T f t sn) 7)]
 :=dj.of C C C
set_option maxRecDepth 10000
abbrev Sn:=List (Eng.D×Eng.D)
theorem sw(x y:Int)(v:Eng.D):∀T:Sn,eZ (.int .i64 x) (l9 (.int .i64 y) v T)=if x=y then some v else eZ (.int .i64 x) T
 | []=>by
   simp only[l9,eZ,gz];by_cases h:x=y
   . simp[h]
   . simp[h]
 |e::T=>by
  have ih:=sw x y v T;simp only[l9];cases W:gz (.int .i64 y) e.1 with
  |true=>
   simp only[eZ];by_cases h:x=y
   . subst h;rw[W];simp[gz]
   . have O:gz (.int .i64 x) (.int .i64 y)=false:=by simp[gz,h]
     have h3:gz (.int .i64 x) e.1=false:=by
      cases q:gz (.int .i64 x) e.1 with
      |false=>rfl
      |true=>
       exfalso;obtain⟨e1,e2⟩:=e;cases e1<;>simp[gz]at W q;omega
     rw[O,h3,aB h]
  |false=>
   simp only[eZ,ih];by_cases h:x=y
   . subst h;rw[W,aG rfl]
   . rw[aB h,aB h]
def gr(s:Sn)(k:Int):Bool:=(eZ (.int .i64 k) s).isSome
def ju(k:Int)(s:Sn):Sn:=l9 (.int .i64 k) (.bool true) s
theorem nX(s:Sn)(k y:Int):gr (ju k s) y=(decide (y=k)||gr s y):=by
 unfold gr ju;rw[sw];by_cases h:y=k
 . simp[h]
 . simp[h]
def qR(s:Sn):Prop:=∀k v,eZ (.int .i64 k) s=some v->v= .bool true
theorem qR.mark{s:Sn}(h:qR s)(k:Int):qR (ju k s):=fun y v e=>by
 unfold ju at e;rw[sw]at e;split at e
 . exact(dg e).symm
 . exact h y v e
def nu(rc:Int->Sn->Bool×Sn)(t:Int):List Int->Sn->Bool×Sn
 | [],s=>(false,s)
 |k::Y,s=>if k=t then(true,s)else if gr s k=true then nu rc t Y s else if(rc k (ju k s)).1=true then(true,(rc k (ju k s)).2)else nu rc t Y (rc k (ju k s)).2
def nY(st:Int->List Int)(t:Int):Nat->Int->Sn->Bool×Sn
 |0,_,s=>(false,s)
 |n+1,x,s=>nu (nY st t n) t (st x) s
theorem sA{rc:Int->Sn->Bool×Sn}{t:Int}(h:∀k s y,gr s y=true->gr (rc k s).2 y=true):∀(Y:List Int) (s:Sn) (y:Int),gr s y=true->gr (nu rc t Y s).2 y=true
 | [],_,_,hy=>hy
 |k::Y,s,y,hy=>by
  unfold nu;have K:gr (ju k s) y=true:=by rw[nX,hy,cO]
  split
  . exact hy
  . split
    . exact sA h Y s y hy
    . split
      . exact h k _ y K
      . exact sA h Y _ y (h k _ y K)
theorem sB(st:Int->List Int)(t:Int):∀n k s y,gr s y=true->gr (nY st t n k s).2 y=true
 |0,_,_,_,h=>h
 |n+1,_,_,_,h=>sA (sB st t n) _ _ _ h
theorem z6{rc:Int->Sn->Bool×Sn}{t:Int}(h:∀k s,qR s->qR (rc k s).2):∀(Y:List Int) (s:Sn),qR s->qR (nu rc t Y s).2
 | [],_,hs=>hs
 |k::Y,s,hs=>by
  unfold nu;split
  . exact hs
  . split
    . exact z6 h Y s hs
    . split
      . exact h k _ (hs.mark k)
      . exact z6 h Y _ (h k _ (hs.mark k))
theorem ER(st:Int->List Int)(t:Int):∀n k s,qR s->qR (nY st t n k s).2
 |0,_,_,h=>h
 |n+1,_,_,h=>z6 (ER st t n) _ _ h
theorem xn{st:Int->List Int}{rc:Int->Sn->Bool×Sn}{t x:Int}(h:∀k s,(rc k s).1=true->Bd st k t):∀(Y:List Int) (s:Sn),(∀k∈Y,k∈st x)->(nu rc t Y s).1=true->Bd st x t
 | [],_,_,e=>by cases e
 |k::Y,s,W,e=>by
  have Q:=W k (bx ..);have O:=fun j hj=>W j (bj _ hj);unfold nu at e;split at e
  . rename_i q;subst q;exact .one Q
  . split at e
    . exact xn h Y s O e
    . split at e
      . rename_i q;exact Bd.trans (.one Q) (h k _ q)
      . exact xn h Y _ O e
theorem Dk(st:Int->List Int)(t:Int):∀n x s,(nY st t n x s).1=true->Bd st x t
 |0,_,_,e=>by cases e
 |n+1,x,s,e=>xn (Dk st t n) (st x) s (fun _ h=>h) e
def Bf(dJ:List Int)(s:Sn):Nat:=(dJ.filter fun y=>!gr s y).length
theorem KE{dJ:List Int}{s s2:Sn}(h:∀y,gr s y=true->gr s2 y=true):Bf dJ s2<=Bf dJ s:=by
 unfold Bf
 induction dJ with
 |nil=>exact aK _
 |cons y dJ ih=>
  rw[List.filter_cons,List.filter_cons];cases Q:gr s y with
  |true=>rw[h y Q];exact ih
  |false=>
   cases O:gr s2 y with
   |true=>exact bE ih (Nat.le_succ _)
   |false=>exact Nat.succ_le_succ ih
theorem QY{dJ:List Int}{s:Sn}{k:Int}(W:k∈dJ)(hs:gr s k=false):Bf dJ (ju k s)<Bf dJ s:=by
 unfold Bf
 induction dJ with
 |nil=>cases W
 |cons y dJ ih=>
  have kK:(dJ.filter fun y=>!gr (ju k s) y).length<=(dJ.filter fun y=>!gr s y).length:=KE (dJ:=dJ) fun z hz=>by rw[nX,hz,cO]
  rw[List.filter_cons,List.filter_cons];by_cases e:y=k
  . subst e;rw[hs,nX];simp only[decide_true,cq,Bool.not_true,aM,cz,Bool.not_false,if_true,aP];omega
  . have e2:gr (ju k s) y=gr s y:=by rw[nX];simp[e]
    rw[e2];have:=ih ((aD.1 W).resolve_left fun q=>e q.symm);split
    . simp only[aP];omega
    . exact this
def IK(st:Int->List Int)(t:Int)(s:Sn)(y:Int):Prop:=∀k∈st y,k≠t/\gr s k=true
theorem IK.mono{st:Int->List Int}{t:Int}{s s2:Sn}{y:Int}(h:IK st t s y)(K:∀y,gr s y=true->gr s2 y=true):IK st t s2 y:=fun k W=>⟨(h k W).1,K k (h k W).2⟩
theorem Gj{st:Int->List Int}{t:Int}{dJ:List Int}(hU:∀y,∀k∈st y,k∈dJ){n:Nat}(ih:∀x s,Bf dJ s<n->(nY st t n x s).1=false->IK st t (nY st t n x s).2 x/\∀y,gr (nY st t n x s).2 y=true->gr s y=true\/IK st t (nY st t n x s).2 y):
  ∀(Y:List Int) (s:Sn),(∀k∈Y,k∈dJ)->Bf dJ s<n+1->(nu (nY st t n) t Y s).1=false->(∀k∈Y,k≠t/\gr (nu (nY st t n) t Y s).2 k=true)/\∀y,gr (nu (nY st t n) t Y s).2 y=true->gr s y=true\/IK st t (nu (nY st t n) t Y s).2 y
 | [],s,_,_,_=>⟨fun _ h=>(by cases h),fun _ h=>.inl h⟩
 |k::Y,s,W,hf,e=>by
  have Cg:=fun j hj=>W j (bj _ hj);unfold nu at e ⊢;by_cases Q:k=t
  . rw[aG Q]at e;cases e
  . rw[aB Q]at e ⊢;by_cases O:gr s k=true
    . rw[aG O]at e ⊢;obtain⟨a,b⟩:=Gj hU ih Y s Cg hf e;refine⟨fun j hj=>?_,b⟩;rcases aD.1 hj with rfl|q
      . exact⟨Q,sA (sB st t n) Y s _ O⟩
      . exact a j q
    . rw[aB O]at e ⊢;have Ak:gr s k=false:=by simpa using O
      by_cases h3:(nY st t n k (ju k s)).1=true
      . rw[aG h3]at e;cases e
      . rw[aB h3]at e ⊢;have h3':(nY st t n k (ju k s)).1=false:=by simpa using h3
        have hl:=QY (dJ:=dJ) (W k (bx ..)) Ak;obtain⟨a,b⟩:=ih k (ju k s) H h3';have TK:=sB st t n k (ju k s);have kK:=KE (dJ:=dJ) (TK);generalize (nY st t n k (ju k s)).2=s1 at *;obtain⟨c,d⟩:=Gj hU ih Y s1 Cg H e;have U3:=sA (t:=t) (sB st t n) Y s1;have hmk:gr (ju k s) k=true:=by rw[nX];simp
        refine⟨fun j hj=>?_,fun y hy=>?_⟩
        . rcases aD.1 hj with rfl|q
          . exact⟨Q,U3 _ (TK _ hmk)⟩
          . exact c j q
        . rcases d y hy with q|q
          . rcases b y q with q|q
            . rw[nX]at q;by_cases e2:y=k
              . subst e2;exact .inr (a.mono U3)
              . simp[e2]at q;exact .inl q
            . exact .inr (q.mono U3)
          . exact .inr q
theorem LN{st:Int->List Int}{t:Int}{dJ:List Int}(hU:∀y,∀k∈st y,k∈dJ):∀n x s,Bf dJ s<n->(nY st t n x s).1=false->IK st t (nY st t n x s).2 x/\∀y,gr (nY st t n x s).2 y=true->gr s y=true\/IK st t (nY st t n x s).2 y
 |0,_,_,h,_=>absurd h (bC _)
 |n+1,x,s,h,e=>Gj hU (LN hU n) (st x) s (hU x) h e
theorem T9{st:Int->List Int}{t:Int}{dJ:List Int}(hU:∀y,∀k∈st y,k∈dJ){n:Nat}(hn:dJ.length<n)(x:Int):(nY st t n x []).1=true↔Bd st x t:=by
 refine⟨Dk st t n x [],fun h=>?_⟩;cases e:(nY st t n x []).1 with
 |true=>rfl
 |false=>
  exfalso;obtain⟨a,b⟩:=LN hU n x [] (Nat.lt_of_le_of_lt (List.length_filter_le ..) hn) e;have:∀y,Bd st x y->y≠t/\gr (nY st t n x []).2 y=true:=fun y q=>by
   induction q with
   |one h=>exact a _ h
   |tail _ h ih=>
    rcases b _ ih.2 with q|q
    . cases q
    . exact q _ h
  exact(this t h).1 rfl
set_option maxRecDepth 10000
theorem clT{d:Dc}{T:List (Eng.D×Eng.D)}{f:Nat}{t x:Int}{sn KD:Sn}{b0:Bool}(hT:TG ak 7 Tryz.f97.ntmps (dI Tryz.f97) (dy (aC x) (hC d T f t sn) 7) (fH ak 7 Tryz.f97 fun a b c=>a= .bool b0/\b=hC d T f t KD/\c=7)):YD d T f t x sn KD b0:=
 LM mo po (az C) Tryz.func97 (code:=dI Tryz.f97) C fun args h k aj v' h' k' e hA=>by
  simp only[T8,aq,aF]at e;obtain⟨rfl,rfl,rfl,rfl⟩:=e;have Q:args=aC x:=hA _ (by simp);have O:h=hC d T f t sn:=hA (h=hC d T f t sn) (by simp);have h3:k=7:=hA (k=7) (by simp);subst Q O h3;exact⟨C,hT⟩
def yW(rc:Int->Sn->Bool×Sn)(ps:List Int)(sn:Sn):Nat->Sn
 |0=>sn
 |i+1=>if gr (yW rc ps sn i) (ps.getD i 0)=true then yW rc ps sn i else(rc (ps.getD i 0) (ju (ps.getD i 0) (yW rc ps sn i))).2
def tAt(rc:Int->Sn->Bool×Sn)(t:Int)(ps:List Int)(sn:Sn)(i:Nat):Bool:=(ps.getD i 0==t)||(!gr (yW rc ps sn i) (ps.getD i 0)&&(rc (ps.getD i 0) (ju (ps.getD i 0) (yW rc ps sn i))).1)
theorem Gk(rc:Int->Sn->Bool×Sn)(t:Int)(ps:List Int)(sn:Sn):∀i,i<=ps.length->(∀j,j<i->tAt rc t ps sn j=false)->nu rc t ps sn=nu rc t (ps.drop i) (yW rc ps sn i)
 |0,_,_=>rfl
 |i+1,hi,hj=>by
  rw[Gk rc t ps sn i H fun j q=>hj j H];have h:=hj i (Nat.lt_succ_self i);unfold tAt at h;rw[cK]at h;have e:ps.drop i=ps.getD i 0::ps.drop (i+1):=by
   rw[ax,au H,ck,<- b9]
  rw[e]
  conv=>lhs;unfold nu
  rw[aB (Dh h.1),show yW rc ps sn (i+1)=if gr (yW rc ps sn i) (ps.getD i 0)=true then yW rc ps sn i else(rc (ps.getD i 0) (ju (ps.getD i 0) (yW rc ps sn i))).2 from rfl];by_cases hs:gr (yW rc ps sn i) (ps.getD i 0)=true
  . rw[aG hs,aG hs]
  . have O:=h.2;rw[show gr (yW rc ps sn i) (ps.getD i 0)=false by simpa using hs]at O;rw[aB hs,aB hs,aB (by simpa using O)]
theorem Nr{rc:Int->Sn->Bool×Sn}{t:Int}{ps:List Int}{i:Nat}{s:Sn}(h:i<ps.length):nu rc t (ps.drop i) s=nu rc t (ps.getD i 0::ps.drop (i+1)) s:=by
 congr 1;rw[ax,au h,ck,<- b9]
theorem QZ(d:Dc)(T:List (Eng.D×Eng.D))(f:Nat)(t:Int)(nx:Int->List Int)(Sj:∀x n,jy d.ly x=some n->mh f [L x] d T (fj (nx x)))(hln:∀x,(nx x).length<=1000000)(vY:∀x n,jy d.ly x=some n->∀k∈nx x,∃m,jy d.ly k=some m)
  (hf:f=95\/f=46) (dJ:List Int) (hU:∀k m,jy d.ly k=some m->k∈dJ):
  ∀(n:Nat) (x:Int) (m:Nat) (sn:Sn),jy d.ly x=some m->qR sn->Bf dJ sn<n->YD d T f t x sn (nY nx t n x sn).2 (nY nx t n x sn).1:=by
 intro n
 induction n with
 |zero=>intro x m sn _ _ h;exact absurd h (bC _)
 |succ n ih=>
  intro x m sn K hs hu;have hN:=Sj x m K;have hC2:=vY x m K;have hl:=hln x;have eD:nY nx t (n+1) x sn=nu (nY nx t n) t (nx x) sn:=rfl;rw[eD];generalize nx x=ps at *;generalize hrc:nY nx t n=rc at *;have ad1:∀k s y,gr s y=true->gr (rc k s).2 y=true:=fun k s y h=>by rw[<- hrc];exact sB nx t n k s y h
  have ad2:∀k s,qR s->qR (rc k s).2:=fun k s h=>by rw[<- hrc];exact ER nx t n k s h
  have hS:∀i,qR (yW rc ps sn i)/\Bf dJ (yW rc ps sn i)<=Bf dJ sn:=fun i=>by
   induction i with
   |zero=>exact⟨hs,aK _⟩
   |succ i ihi=>
    rw[show yW rc ps sn (i+1)=if gr (yW rc ps sn i) (ps.getD i 0)=true then yW rc ps sn i else(rc (ps.getD i 0) (ju (ps.getD i 0) (yW rc ps sn i))).2 from rfl];split
    . exact ihi
    . exact⟨ad2 _ _ (ihi.1.mark _),bE (KE fun y hy=>ad1 _ _ _ (by rw[nX,hy,cO])) ihi.2⟩
  refine clT (fF 1 (di _) (anB d T f t x sn) all_nil ?_);have start:∀h1,(∀X,ek ak 7 Tryz.f97.ntmps X (sC d T f t ps 0 sn [])->h1 .normal X)->TG ak 7 Tryz.f97.ntmps (dF (dF (dr 1 Nq))) (dy (aC x) (hC d T f t sn) 7) h1:=fun h1 hQ=>by
   rcases hf with rfl|rfl
   . exact gv (ny hN (di _)) eE (anC d T t x sn ps) (dB (g0 ⟨S rfl (S rfl (eG rfl)),fun X dQ=>hQ X (ek.norm dQ)⟩))
   . exact gv (ny hN (di _)) eE (ad0 d T t x sn ps) (dB (g0 ⟨S rfl (S rfl (eG rfl)),fun X dQ=>hQ X (ek.norm dQ)⟩))
  refine dK C (dK C (start _ fun X dQ=>?_));simp only[andThen];refine jf 0 ps.length (fun i=>sC d T f t ps i (yW rc ps sn i) []) (tAt rc t ps sn) dQ (fun i hi hj Q' k1 k2 k3=>?_) (fun Al X dQ=>?_)
  . have mV:=Gk rc t ps sn i hi hj;obtain⟨hT,hUn⟩:=hS i;rcases bt i ps.length with q|q
    . rw[Nr q]at mV;have hg:=fD (l:=ps) q;have hkm:ps.getD i 0∈ps:=by rw[ax,au q];exact bK q
      obtain⟨mk,hmk⟩:=hC2 _ hkm;have htA:tAt rc t ps sn i=((ps.getD i 0==t)||(!gr (yW rc ps sn i) (ps.getD i 0)&&(rc (ps.getD i 0) (ju (ps.getD i 0) (yW rc ps sn i))).1)):=rfl;have hsA:yW rc ps sn (i+1)=if gr (yW rc ps sn i) (ps.getD i 0)=true then yW rc ps sn i else(rc (ps.getD i 0) (ju (ps.getD i 0) (yW rc ps sn i))).2:=rfl
      generalize ps.getD i 0=k at *;generalize yW rc ps sn i=s at *;have b0:V.bool (decide (Int.ofNat i<Int.ofNat ps.length))=V.bool true:=aI V.bool (aZ (cm.2 q));have b1:=iI q;by_cases Q:k=t
      . refine gv (di _) (fun a b c=>a= .bool (nu rc t ps sn).1/\b=hC d T f t (nu rc t ps sn).2/\c=7) (anD d T f t s ps i k) (dB (g0 ⟨S b0 (S b1 (S (eo ps) (S hg (eG (aI V.bool (xg.2 Q)))))),⟨?_,?_,rfl⟩,k3⟩))
        . rw[mV];unfold nu;rw[aG Q]
        . rw[mV];unfold nu;rw[aG Q]
      . have b2:V.bool (k==t)=V.bool false:=aI V.bool (by simpa using Q);by_cases O:gr s k=true
        . obtain⟨v,hv⟩:=bH.1 O;have hvt:=hT k v hv;subst hvt;refine gv (di _) eE (anE d T f t s ps i k) (dB (g0 ⟨S b0 (S b1 (S (eo ps) (S hg (S b2 (S (by rw[hv];rfl) (eG (gJ H))))))),fun X dQ=>k1 q (by rw[htA,O];simpa using Q) X ?_⟩));show ek _ _ _ _ (sC d T f t ps (i+1) (yW rc ps sn (i+1)) []);rw[hsA,aG O];exact ek.norm dQ
        . have Ak:gr s k=false:=by simpa using O
          have Ar:eZ (.int .i64 k) s=none:=by unfold gr at Ak;simpa using Ak
          have eO:=QY (hU k mk hmk) Ak;have B:=ih k mk (ju k s) hmk (hT.mark k) H;have be:=S b0 (S b1 (S (eo ps) (S hg (S b2 (S (show(if false=true then V.gw [D.jX (V.bool false) (eZ (.int .i64 k) s),V.bool (eZ (.int .i64 k) s).isSome]else D.jX (V.bool false) (eZ (.int .i64 k) s))=V.bool false by rw[Ar];rfl) (S (show aC k=aC k from rfl) (S (show hC d T f t (ju k s)=hC d T f t (ju k s)from rfl) (eG (show(7:Nat)=7 from rfl)))))))));have C2:=S b0 (S b1 (S (eo ps) (S hg (S b2 (S (show(if false=true then V.gw [D.jX (V.bool false) (eZ (.int .i64 k) s),V.bool (eZ (.int .i64 k) s).isSome]else D.jX (V.bool false) (eZ (.int .i64 k) s))=V.bool false by rw[Ar];rfl) (S (show aC k=aC k from rfl) (S (show hC d T f t (ju k s)=hC d T f t (ju k s)from rfl) (S (show(7:Nat)=7 from rfl) (eG (show V.int .i64 (IntKind.i64.wrap (Int.ofNat i+(1:Int)))=M (i+1)from gJ H))))))))));refine gv (fC B (di _)) (fun a b c=>a= .bool (nu rc t ps sn).1/\b=hC d T f t (nu rc t ps sn).2/\c=7) (anF d T f t s (rc k (ju k s)).2 ps i k (rc k (ju k s)).1) (dD (g1 fun h3=>⟨be,⟨?_,?_,rfl⟩,k3⟩) (dB (g1 fun h3=>⟨C2,fun X dQ=>k1 q (by rw[htA,Ak,h3];simpa using Q) X ?_⟩)))
          . rw[mV];unfold nu;rw[aB Q,aB O,aG h3]
          . rw[mV];unfold nu;rw[aB Q,aB O,aG h3]
          . show ek _ _ _ _ (sC d T f t ps (i+1) (yW rc ps sn (i+1)) []);rw[hsA,aB O];exact ek.norm dQ
    . obtain rfl:i=ps.length:=by omega
      exact gv (di _) eE (anG d T f t _ ps _) (dB (g0 ⟨eG (aI V.bool (aT (by simp only[gQ];omega))),fun X dQ=>k2 rfl X (ek.norm dQ)⟩))
  simp only[andThen];have mV:=Gk rc t ps sn ps.length (aK _) Al;rw[List.drop_length]at mV;refine dQ _ _ (eK (di _) (anH d T f t _ ps ps.length) (dB (g0 ⟨all_nil,_,_,_,rfl,?_,?_,rfl⟩)))
  . rw[mV];rfl
  . rw[mV];rfl
set_option maxRecDepth 10000
def sRy(d:Dc)(T:List (Eng.D×Eng.D))(f:Nat)(t x:Int)(o:h2):St:=fq [(1,L x),(10,.ptr (some (2,0)))] (G [(0,.cells (d.R++[.map (some 1)])),(1,.gl (some .i64) T),(2,.cells [.fn (.func 97) [] [.ptr (some (3,0)),.ptr (some (4,0)),.ptr (some (5,0)),.ptr (some (2,0))]]),(3,.cells [.fn (.func f) [pT] []]),(4,.cells [L t]),(5,.cells [.map (some 6)]),(6,o)]) 7
theorem anL(d:Dc)(T:List (Eng.D×Eng.D))(f:Nat)(x t:Int):dw (U dY []) [] 2 Tryz.f45 [1,10] (dM 4 adZ) (dy [pT,L x,L t,.fn (.func f) [pT] []] (lR d T) 2) [([],
   [],
   .to .normal (sRy d T f t x (.map [] 0)))]
 :=dj.of C C C
theorem anM(d:Dc)(T:List (Eng.D×Eng.D))(f:Nat)(x t:Int)(KD:List (Eng.D×Eng.D))(b:Bool):dw (U (jZ 97 (oB (T8 d T f t x [] KD b)) dY) []) [] 2 Tryz.f45 [] (dr 4 adZ) (sRy d T f t x (.gl (some .i64) [])) [([],
   [([V.int A x,V.ptr (some (0,0)),V.ptr (some (3,0)),V.ptr (some (4,0)),V.ptr (some (6,0))]=aC x),(((((((J.nil.set 0 (some (h2.cells [V.fn (Fn.func f) [V.ptr (some (1,0))] []]))).set 1 (some (h2.cells [V.eB false d.sp.length (mE d.sp),V.int A d.root,V.int A d.nx,V.eB false d.ly.length (fc d.ly),V.map (some 2)]))).set 2 (some (h2.gl (some A) T))).set 3 (some (h2.cells [V.int A t]))).set 4 (some (h2.cells [V.map (some 5)]))).set 5 (some (h2.gl (some A) []))).set 6 (some (h2.cells [V.fn (Fn.func (97:FuncId)) [] [V.ptr (some (0,0)),V.ptr (some (3,0)),V.ptr (some (4,0)),V.ptr (some (6,0))]]))=hC d T f t []),(7=7)],
   .ret (.bool b) (lR d T) 2)]
 :=dj.of C C C
abbrev fnT(f:Nat):V:=.fn (.func f) [pT] []
theorem Gl(d:Dc)(T:List (Eng.D×Eng.D))(f:Nat)(t x:Int)(KD:Sn)(b:Bool)(hC:YD d T f t x [] KD b):mh 45 [L x,L t,fnT f] d T (.bool b):=by
 refine EP Tryz.func45 (fF 4 (di _) (anL d T f x t) all_nil ?_);refine ek.map [(6,some .i64)] (fm:=sRy d T f t x (.gl (some .i64) [])) C _ _ ?_;exact eK (fC hC (di _)) (anM d T f x t KD b) (dB (g0 ⟨S rfl (S rfl (eG rfl)),_,_,_,rfl,rfl,rfl,rfl⟩))
theorem YE:qR []:=fun _ _ h=>by cases h
theorem IL(d:Dc)(T:List (Eng.D×Eng.D))(I:xl d T)(hd:F7 d)(B:Clo d.ly)(t x:Int){n:Nat}(hn:jy d.ly x=some n):∃b,mh 45 [L x,L t,fnT 95] d T (.bool b)/\(b=true↔Bd (ia d.ly false) x t):=by
 have vK:∀y m,jy d.ly y=some m->ia d.ly false y=fN (d.at m):=fun y m h=>by
  unfold ia;rw[h];simp only[aM,false_and,cz,List.append_nil];rfl
 have hln:∀y,(ia d.ly false y).length<=1000000:=fun y=>by
  cases h:jy d.ly y with
  |none=>rw[Dd h];exact aU _
  |some m=>
   rw[vK y m h];obtain⟨_,_,K⟩:=jn h;unfold fN;split
   . simp
   . exact hd.kids _ K
 have vY:∀y m,jy d.ly y=some m->∀k∈ia d.ly false y,∃j,jy d.ly k=some j:=fun y m h k W=>by
  rw[vK y m h]at W;obtain⟨_,_,K⟩:=jn h;exact B _ K k W
 have hU:=fun y=>(oy d.ly false y).1;have hN:∀y m,jy d.ly y=some m->mh 95 [L y] d T (fj (ia d.ly false y)):=fun y m h=>by rw[vK y m h];exact Di I h
 have:=QZ d T 95 t (ia d.ly false) hN hln vY (.inl rfl) (d.ly.map (·.id)) (fun k m h=>by
  obtain⟨_,hid,K⟩:=jn h;exact bN.2 ⟨_,K,hid⟩) ((d.ly.map (·.id)).length+(fM d.ly).length+1) x n [] hn YE (Nat.lt_of_le_of_lt (List.length_filter_le ..) H)
 exact⟨_,Gl d T 95 t x _ _ this,T9 hU H x⟩
set_option maxRecDepth 10000
noncomputable abbrev Ua:Code:=dI Tryz.f20
noncomputable abbrev bPn:Code:=dG (dG (dX (dF (dr 1 Ua))))
def VQ(d:Dc)(id:Int)(i:Nat):St:=fq [(1,L id),(2,.ptr (some (0,0))),(11,.eB false d.ly.length (fc d.ly)),(12,M d.ly.length),(13,M i)] (G [(0,.cells d.R)]) 1
theorem anN(d:Dc)(id:Int):dw (U dY []) [] 0 Tryz.f20 [1,2] (dM 1 Ua) (dy [d.v,L id] .nil 0) [([],
   [],
   .to .normal (fq [(1,.int .i64 id),(2,.ptr (some (0,0)))] (G [(0,.cells [.eB false (d.sp.length) (mE d.sp),.int .i64 (d.root),.int .i64 (d.nx),.eB false (d.ly.length) (fc d.ly)])]) 1))]
 :=dj.of C C C
theorem anO(d:Dc)(id:Int):dw (U dY []) [] 0 Tryz.f20 [1,2,11,12,13] (dF (dF (dr 1 Ua))) (fq [(1,L id),(2,.ptr (some (0,0)))] (G [(0,.cells d.R)]) 1) [([],
   [],
   .to .normal (VQ d id 0))]
 :=dj.of C C C
abbrev KF(id:Int)(x:eJ):Prop:=V.lA ([]++[D.jQ._f (D.eB x.kids.length (dO x.kids)) (D.rec_1 (fun b=>⟨D.jQ._f (D.bool b) PUnit.unit,PUnit.unit⟩) (fun k n=>⟨D.jQ._f (D.int k n) PUnit.unit,PUnit.unit⟩) (fun s=>⟨D.jQ._f (D.str s) PUnit.unit,PUnit.unit⟩) (fun n R IM=>⟨D.jQ._f (D.eB n R) IM,IM⟩) (fun R IM=>⟨D.jQ._f (D.agg R) IM,IM⟩) ⟨D.fQ._f [] PUnit.unit,PUnit.unit⟩ (fun head tail LO LP=>⟨D.fQ._f (head::tail) ⟨LO,LP⟩,LO,LP⟩) (dO x.kids)),L id]++[])=[fj x.kids,L id]
abbrev Q0(i:Nat):Prop:=V.int A (IntKind.i64.wrap (Int.ofNat i+(1:Int)))=M (i+1)
theorem anP(d:Dc)(id:Int)(i:Nat)(x:eJ)(a:Int):dw (U (fb 49 [fj x.kids,L id] (L a) dY) []) [(14,.dz (.bool true)),(15,.dz (.dx x.ds)),(23,.split),(26,.split),(31,.dz (M (i+1)))] 0 Tryz.f20 [1,2,11,12,13] (bPn) (VQ d id i) [([((x.kd==(2:Int)),true),((decide (a>=(0:Int))),true)],
   [(V.bool (decide (Int.ofNat i<Int.ofNat d.ly.length))=V.bool true),((0:Int)<=Int.ofNat i/\Int.ofNat i<(Int.ofNat d.ly.length)),((fc d.ly).length=d.ly.length*31),(V.dx (dn (fc d.ly) (i*31) 31)=V.dx x.ds),KF id x],
   .ret (.gw [.int .i64 (x.id),.int .i64 a,.bool true]) (G []) 0),
  ([((x.kd==(2:Int)),true),((decide (a>=(0:Int))),false)],
   [(V.bool (decide (Int.ofNat i<Int.ofNat d.ly.length))=V.bool true),((0:Int)<=Int.ofNat i/\Int.ofNat i<(Int.ofNat d.ly.length)),((fc d.ly).length=d.ly.length*31),(V.dx (dn (fc d.ly) (i*31) 31)=V.dx x.ds),KF id x,Q0 i],
   .to .normal (VQ d id (i+1))),
  ([((x.kd==(2:Int)),false)],
   [(V.bool (decide (Int.ofNat i<Int.ofNat d.ly.length))=V.bool true),((0:Int)<=Int.ofNat i/\Int.ofNat i<(Int.ofNat d.ly.length)),((fc d.ly).length=d.ly.length*31),(V.dx (dn (fc d.ly) (i*31) 31)=V.dx x.ds),KF id x,Q0 i],
   .to .normal (VQ d id (i+1)))]
 :=dj.of C C C
theorem anQ(d:Dc)(id:Int)(i:Nat):dw (U dY []) [(14,.dz (.bool false))] 0 Tryz.f20 [1,2,11,12,13] (bPn) (VQ d id i) [([],
   [(V.bool (decide (Int.ofNat i<Int.ofNat d.ly.length))=V.bool false)],
   .to (.exit 0) (VQ d id i))]
 :=dj.of C C C
theorem anR(d:Dc)(id:Int)(i:Nat):dw (U dY []) [] 0 Tryz.f20 [] (dX (dr 1 Ua)) (VQ d id i) [([],
   [],
   .ret (.gw [.int .i64 0,.int .i64 0,.bool false]) (G []) 0)]
 :=dj.of C C C
noncomputable abbrev Ub:Code:=dI Tryz.f49
noncomputable abbrev bIy:Code:=dG (dG (dX (dF (dr 1 Ub))))
def YF(l:List Int)(k:Int)(i:Nat):St:=fq [(0,fj l),(1,L k),(7,M l.length),(8,M i)] (G []) 0
theorem anS(l:List Int)(k:Int):dw (U dY []) [] 0 Tryz.f49 [0,1] (dM 1 Ub) (dy [fj l,L k] .nil 0) [([],
   [],
   .to .normal (dy [fj l,L k] .nil 0))]
 :=dj.of C C C
theorem anT(l:List Int)(k:Int):dw (U dY []) [] 0 Tryz.f49 [0,1,7,8] (dF (dF (dr 1 Ub))) (dy [fj l,L k] .nil 0) [([],
   [],
   .to .normal (YF l k 0))]
 :=dj.of C C C
theorem anU(l:List Int)(k x:Int)(i:Nat):dw (U dY []) [(9,.dz (.bool true)),(14,.dz (.dx [.int .i64 x])),(16,.split),(18,.dz (M (i+1)))] 0 Tryz.f49 [0,1,7,8] (bIy) (YF l k i) [([((k==x),true)],
   [(V.bool (decide (Int.ofNat i<Int.ofNat l.length))=V.bool true),((0:Int)<=Int.ofNat i/\Int.ofNat i<(Int.ofNat l.length)),((dO l).length=l.length*1),(V.dx (dn (dO l) (i*1) 1)=V.dx [D.int A x])],
   .ret (.int .i64 (Int.ofNat i)) (G []) 0),
  ([((k==x),false)],
   [(V.bool (decide (Int.ofNat i<Int.ofNat l.length))=V.bool true),((0:Int)<=Int.ofNat i/\Int.ofNat i<(Int.ofNat l.length)),((dO l).length=l.length*1),(V.dx (dn (dO l) (i*1) 1)=V.dx [D.int A x]),(V.int A (IntKind.i64.wrap (Int.ofNat i+(1:Int)))=M (i+1))],
   .to .normal (YF l k (i+1)))]
 :=dj.of C C C
theorem anV(l:List Int)(k:Int)(i:Nat):dw (U dY []) [(9,.dz (.bool false))] 0 Tryz.f49 [0,1,7,8] (bIy) (YF l k i) [([],
   [(V.bool (decide (Int.ofNat i<Int.ofNat l.length))=V.bool false)],
   .to (.exit 0) (YF l k i))]
 :=dj.of C C C
theorem anW(l:List Int)(k:Int)(i:Nat):dw (U dY []) [] 0 Tryz.f49 [] (dX (dr 1 Ub)) (YF l k i) [([],
   [],
   .ret (.int .i64 (-1)) (G []) 0)]
 :=dj.of C C C
set_option maxRecDepth 10000
def Jd(l:List Int)(k:Int):Int:=match l.findIdx? (. ==k)with
 |some i=>Int.ofNat i
 |none=> -1
theorem KG{l:List Int}{k:Int}{i:Nat}(hi:i<l.length)(h:l.getD i 0=k)(hj:∀j,j<i->l.getD j 0≠k):l.findIdx? (. ==k)=some i:=by
 rw[bO];refine⟨hi,?_,fun j q=>?_⟩
 . rw[ax,au hi]at h;simpa using h
 . have:=hj j q;rw[ax,au H]at this;simpa using this
theorem KH{l:List Int}{k:Int}(hj:∀j,j<l.length->l.getD j 0≠k):l.findIdx? (. ==k)=none:=by
 rw[cH];intro x I;obtain⟨j,xy,rfl⟩:=b6 I;have:=hj j xy;rw[ax,au xy]at this;simpa using this
theorem anX(l:List Int)(k:Int)(hl:l.length<=1000000):dU ak 49 [fj l,L k] (L (Jd l k)):=by
 refine eX Tryz.func49 (fF 1 (di _) (anS l k) all_nil ?_);refine dK C (dK C (gv (di _) eE (anT l k) (dB (g0 ⟨all_nil,fun X dQ=>?_⟩))));simp only[andThen];refine jf 0 l.length (fun i=>YF l k i) (fun i=>k==l.getD i 0) (ek.norm dQ) (fun i hi hj Q' k1 k2 k3=>?_) (fun Q X dQ=>?_)
 . rcases bt i l.length with q|q
   . have b0:V.bool (decide (Int.ofNat i<Int.ofNat l.length))=V.bool true:=aI V.bool (aZ (cm.2 q));refine gv (di _) (fun u _ _=>u=L (Jd l k)) (anU l k (l.getD i 0) i) (dD (g1 fun h=>⟨S b0 (S (iI q) (S (eo l) (eG (fD q)))),?_,k3⟩) (dB (g1 fun h=>⟨S b0 (S (iI q) (S (eo l) (S (fD q) (eG (gJ H))))),fun X dQ=>k1 q h X (ek.norm dQ)⟩)));have:Jd l k=Int.ofNat i:=by
      unfold Jd;rw[KG q (xg.1 h).symm fun j VI e=>Dh (hj j VI) e.symm]
     rw[this]
   . obtain rfl:i=l.length:=by omega
     exact gv (di _) eE (anV l k _) (dB (g0 ⟨eG (aI V.bool (aT (by simp only[gQ];omega))),fun X dQ=>k2 rfl X (ek.norm dQ)⟩))
 simp only[andThen];refine dQ _ _ (eK (di _) (anW l k _) (dB (g0 ⟨all_nil,_,_,_,rfl,?_⟩)));have:Jd l k= -1:=by
  unfold Jd;rw[KH fun j hj e=>Dh (Q j hj) e.symm]
 rw[this]
def YG:Option (Int×Nat)->V
 |some (i,j)=>.gw [L i,M j,.bool true]
 |none=>.gw [L 0,L 0,.bool false]
def tPn(d:Dc)(id:Int)(i:Nat):Bool:=((d.at i).kd==2)&&decide (Jd (d.at i).kids id>=0)
theorem Uc{l:List Int}{k:Int}(h:¬Jd l k>=0):l.findIdx? (. ==k)=none:=by
 unfold Jd at h;cases e:l.findIdx? (. ==k)with
 |none=>rfl
 |some i=>rw[e]at h;exact absurd (bZ i) h
theorem KI{d:Dc}{id:Int}:∀i,i<=d.ly.length->(∀j,j<i->tPn d id j=false)->jt d.ly id=jt (d.ly.drop i) id
 |0,_,_=>rfl
 |i+1,hi,hj=>by
  rw[KI i H fun j q=>hj j H,zR H];have h:=hj i (Nat.lt_succ_self i);unfold tPn at h;change (((d.ly.getD i gy).kd==2)&&decide (Jd (d.ly.getD i gy).kids id>=0))=false at h;generalize d.ly.getD i gy=x at *;have e:(if x.kd=2 then x.kids.findIdx? (. ==id)else none)=none:=by
   split
   . rename_i O;rw[xg.2 O,aN,bu]at h;exact Uc h
   . rfl
  rw[e]
theorem ad3(d:Dc)(id:Int)(hd:F7 d):dU ak 20 [d.v,L id] (YG (jt d.ly id)):=by
 have hv:(YG (jt d.ly id)).deep=true:=by
  cases jt d.ly id with
  |none=>rfl
  |some q=>rfl
 refine eX (hv:=hv) Tryz.func20 (fF 1 (di _) (anN d id) all_nil ?_);refine dK C (dK C (gv (di _) eE (anO d id) (dB (g0 ⟨all_nil,fun X dQ=>?_⟩))));simp only[andThen];have zQ:=hd.ly;refine jf 0 d.ly.length (fun i=>VQ d id i) (tPn d id) (ek.norm dQ) (fun i hi hj Q' k1 k2 k3=>?_) (fun Q X dQ=>?_)
 . rcases bt i d.ly.length with q|q
   . have b0:V.bool (decide (Int.ofNat i<Int.ofNat d.ly.length))=V.bool true:=aI V.bool (aZ (cm.2 q));have hA:V.dx (dn (fc d.ly) (i*31) 31)= .dx (d.at i).ds:=iw q;have hp:=KI i hi hj;have vL:=zR q id;change jt (d.ly.drop i) id=match(if(d.at i).kd=2 then(d.at i).kids.findIdx? (. ==id)else none)with
      |some j=>some ((d.at i).id,j)
      |none=>jt (d.ly.drop (i+1)) id at vL
     have ht:tPn d id i=(((d.at i).kd==2)&&decide (Jd (d.at i).kids id>=0)):=rfl;have W:=hd.at q;change (d.at i).kids.length<=1000000 at W;generalize d.at i=x at *;have be:=S b0 (S (iI q) (S (gj d.ly) (S hA (eG (show fa [fj x.kids,L id]from rfl)))));have C2:=S b0 (S (iI q) (S (gj d.ly) (S hA (S (show fa [fj x.kids,L id]from rfl) (eG (show V.int .i64 (IntKind.i64.wrap (Int.ofNat i+(1:Int)))=M (i+1)from gJ H))))));refine gv (fu (anX x.kids id W) (di _)) (fun u _ _=>u=YG (jt d.ly id)) (anP d id i x (Jd x.kids id)) (dD (g2 fun Q O=>⟨be,?_,k3⟩) (dD (g2 fun Q O=>⟨C2,fun X dQ=>k1 q (by rw[ht,O,cB]) X (ek.norm dQ)⟩) (dB (g1 fun Q=>⟨C2,fun X dQ=>k1 q (by rw[ht,Q,aS]) X (ek.norm dQ)⟩))));rw[hp,vL,aG (xg.1 Q)];cases e:x.kids.findIdx? (. ==id)with
     |some j=>
      have:Jd x.kids id=Int.ofNat j:=by unfold Jd;rw[e]
      rw[this];rfl
     |none=>
      have:Jd x.kids id= -1:=by unfold Jd;rw[e]
      rw[this]at O;exact absurd O eY
   . obtain rfl:i=d.ly.length:=by omega
     exact gv (di _) eE (anQ d id _) (dB (g0 ⟨eG (aI V.bool (aT (by simp only[gQ];omega))),fun X dQ=>k2 rfl X (ek.norm dQ)⟩))
 simp only[andThen];have hp:=KI d.ly.length (aK _) Q;rw[List.drop_length]at hp;refine dQ _ _ (eK (di _) (anR d id _) (dB (g0 ⟨all_nil,_,_,_,rfl,?_⟩)));rw[hp];rfl
set_option maxRecDepth 10000
set_option maxRecDepth 10000
def ad4(d:Dc):Prop:=∀x∈d.ly,x.kd=3->fN x=[]/\∃g j m,jt d.ly x.id=some (g,j)/\jy d.ly g=some m/\j<=(d.at m).kids.length
set_option maxRecDepth 10000
set_option maxRecDepth 10000
theorem jg.anY{d:Dc}(h:jg d):∀j i,i<j->j<d.ly.length->(d.at i).id<(d.at j).id:=by
 have hb:=(su h.w).2.2.1;intro j
 induction j with
 |zero=>intro i h;exact absurd h (bC _)
 |succ j ih=>
  intro i OB hj;have Q:=hb (j+1) hj;unfold tE at Q;rw[cK,bu,show u0 d (j+1)=(d.at j).id from rfl]at Q;rcases bt i j with q|q
  . have:=ih i q H;omega
  . obtain rfl:i=j:=by omega
    omega
theorem jg.uniq{d:Dc}(h:jg d):Iw d.ly:=by
 unfold Iw;rw[List.nodup_iff_pairwise_ne,List.pairwise_iff_getElem];intro i j hi hj OB;rw[bG]at hi hj;have:=h.anY j i OB hj;unfold Dc.at at this;rw[ax,ax,au hi,au hj]at this;simp only[ck]at this;rw[List.getElem_map,List.getElem_map];omega
theorem LQ{n:Nat}{l:eJ}(h:vQ n l=0):bk l=false/\sk l.nm=true/\ba l (cD (fg l.iH))=false/\GO l=true/\bp l (AI l.pl)=false/\bs n l=false/\bc l (cD (fg l.gd)) (iM l.f) (jF l.gW)=false:=by
 unfold vQ Kq at h;split at h
 . exact absurd h eY
 rename_i Q;split at h
 . exact absurd h eY
 rename_i O;split at h
 . exact absurd h eY
 rename_i h3;split at h
 . exact absurd h eY
 rename_i h4;split at h
 . exact absurd h eY
 rename_i h5;split at h
 . exact absurd h eY
 rename_i h6;split at h
 . exact absurd h eY
 rename_i h7;exact⟨by simpa using Q,by simpa using O,by simpa using h3,by simpa using h4,by simpa using h5,by simpa using h6,by simpa using h7⟩
theorem jg.Gm{d:Dc}(h:jg d){x:eJ}(I:x∈d.ly)(W:x.kd≠2):x.kids=[]:=by
 have Q:=(LQ (h.f x I)).2.2.2.1;unfold GO F4 at Q;simp only[ay]at Q;have O:=Q.2.2.1;rw[show(x.kd==2)=false by simpa using W,cr]at O;have h3:Int.ofNat x.kids.length=0:=by simpa[nN]using O
 have h4:x.kids.length=0:=by simp only[gQ]at h3;omega
 exact cE.2 h4
theorem ES:∀{ls:List eJ} {k:Int},jt ls k=none->∀x∈ls,x.kd=2->k∉x.kids
 | [],_,_,_,I,_=>by cases I
 |y::ls,k,h,x,I,O=>by
  unfold jt at h;split at h
  . cases h
  . rename_i hq;rcases aD.1 I with rfl|q
    . rw[aG O,cH]at hq;intro W;have:=hq k W;simp at this
    . exact ES h x q O
theorem jg.fR{d:Dc}(h:jg d):ad4 d:=fun x I h3=>by
 have Ms:=h.Gm I (by rw[h3];decide);refine⟨by unfold fN;rw[aB (by rw[h3];decide),Ms],?_⟩;have hu:=h.uniq;obtain⟨n,DN,pD,Jb⟩:=yy hu I;have Q4:x.id≠d.root:=fun e=>by
  have hr:=(su h.w).2.2.2;unfold lX at hr;rw[<- e,DN]at hr;simp only at hr;unfold Dc.at at hr;rw[Jb,h3]at hr;cases hr
 have B:=BA (h.k x I);rw[aB Q4]at B;cases hp:jt d.ly x.id with
 |none=>
  exfalso;have:(kR d.ly).count x.id=0:=List.count_eq_zero_of_not_mem fun K=>by
   obtain⟨Y,Cg,W⟩:=List.mem_flatten.1 K;obtain⟨z,hz,rfl⟩:=bN.1 Cg;by_cases He:z.kd=2
   . exact ES hp z hz He W
   . rw[h.Gm hz He]at W;cases W
  rw[yA]at B;omega
 |some q=>
  obtain⟨g,j⟩:=q;obtain⟨y,hy,hyg,_,hj,_⟩:=C9 hp;obtain⟨m,TK,U3,hm3⟩:=yy hu hy;rw[hyg]at TK;refine⟨g,j,m,rfl,TK,?_⟩;unfold Dc.at
  rw[hm3];omega
set_option maxRecDepth 10000
theorem anZ(a b:Int):Vq ak (U dY []) [] 1000 0 Tryz.f89 (dI Tryz.f89) (dy [.bool true,L a,L b] .nil 0)
  [([],
   [],
   .ret (.gw []) (G []) 0)]
 :=⟨C,C,C⟩
theorem LR(a b:Int):dU ak 89 [.bool true,L a,L b] (.gw []):=
 eX Tryz.func89 (WU (XH (di _) []) mo _ C (anZ a b) (dB (g0 ⟨all_nil,_,_,_,rfl,rfl⟩)))
set_option maxRecDepth 10000
def Gn:ag->Option (ah×V)
 | [.int .i64 _]=>some ([],.bool false)
 |_=>none
noncomputable abbrev an0:gF:=jZ 178 (gV Gn) dY
theorem an1(a:Int):dw (U dY []) [] 0 Tryz.f178 [] (dI Tryz.f178) (dy [L a] .nil 0) [([],
   [],
   .ret (.bool (a !=a)) (G []) 0)]
 :=dj.of C C C
theorem an2(a b:Int):dw (U an0 []) [] 0 Tryz.f170 [] (dI Tryz.f170) (dy [L a,L b] .nil 0) [([],
   [],
   .ret (.bool (decide (a<b))) (G []) 0)]
 :=dj.of C C C
theorem Ud:jK ak 178 (gV Gn):=by
 refine ow Tryz.func178 fun args aj v e=>?_;unfold Gn at e;split at e
 case h_2=>cases e
 rename_i n;obtain⟨rfl,rfl⟩:=sm e;exact⟨rfl,rfl,rfl,fun _=>eK (di _) (an1 n) (dB (g0 ⟨all_nil,_,_,_,rfl,aI V.bool (by simp)⟩))⟩
theorem ad5(a b:Int):dU ak 170 [L a,L b] (.bool (decide (a<b))):=
 eX Tryz.func170 (eK (fC Ud (di _)) (an2 a b) (dB (g0 ⟨all_nil,_,_,_,rfl,rfl⟩)))
set_option maxRecDepth 10000
noncomputable abbrev Ue:Code:=dI Tryz.f148
noncomputable abbrev bSo:Code:=dG (dG (dX (dF (dr 1 Ue))))
def Q5(l:List Int)(j:Nat):St:=fq [(0,fj l),(3,M j)] (G []) 0
theorem an3(l:List Int):dw (U dY []) [] 0 Tryz.f148 [0] (dM 1 Ue) (dy [fj l] .nil 0) [([],
   [],
   .to .normal (dy [fj l] .nil 0))]
 :=dj.of C C C
theorem an4(l:List Int)(j:Nat):dw (U dY []) [(6,.dz (M j))] 0 Tryz.f148 [0,3] (dF (dF (dr 1 Ue))) (dy [fj l] .nil 0) [([],
   [(V.int A (IntKind.i64.wrap ((Int.ofNat l.length)-(1:Int)))=M j)],
   .to .normal (Q5 l j))]
 :=dj.of C C C
abbrev Q6(x y:Int):Prop:=V.lA ([]++[D.jQ._f (D.int A x) PUnit.unit,D.jQ._f (D.int A y) PUnit.unit]++[])=[L x,L y]
abbrev KJ(j:Nat):Prop:=V.int A (IntKind.i64.wrap (Int.ofNat (j+1)-(1:Int)))=M j
abbrev Q7(l:List Int)(j:Nat):Prop:=(0:Int)<=Int.ofNat (j+1)/\Int.ofNat (j+1)<(Int.ofNat l.length)
abbrev Q8(l:List Int)(j:Nat)(x:Int):Prop:=V.dx (dn (dO l) ((j+1)*1) 1)=V.dx [D.int A x]
theorem an5(l:List Int)(j:Nat)(x y:Int)(b:Bool):dw (U (fb 170 [L x,L y] (.bool b) dY) []) [(8,.dz (.bool true)),(13,.dz (.dx [.int .i64 x])),(17,.dz (M j)),(18,.dz (.dx [.int .i64 y])),(20,.split),(10,.dz (M j))] 0 Tryz.f148 [0,3] (bSo) (Q5 l (j+1)) [([(b,true)],
   [(V.bool (decide (Int.ofNat (j+1)>(0:Int)))=V.bool true),Q7 l j,((dO l).length=l.length*1),Q8 l j x,KJ j,((0:Int)<=Int.ofNat j/\Int.ofNat j<(Int.ofNat l.length)),((dO l).length=l.length*1),(V.dx (dn (dO l) (j*1) 1)=V.dx [D.int A y]),Q6 x y],
   .ret (.bool false) (G []) 0),
  ([(b,false)],
   [(V.bool (decide (Int.ofNat (j+1)>(0:Int)))=V.bool true),Q7 l j,((dO l).length=l.length*1),Q8 l j x,KJ j,((0:Int)<=Int.ofNat j/\Int.ofNat j<(Int.ofNat l.length)),((dO l).length=l.length*1),(V.dx (dn (dO l) (j*1) 1)=V.dx [D.int A y]),Q6 x y,KJ j],
   .to .normal (Q5 l j))]
 :=dj.of C C C
theorem an6(l:List Int):dw (U dY []) [] 0 Tryz.f148 [0,3] (bSo) (Q5 l 0) [([],
   [],
   .to (.exit 0) (Q5 l 0))]
 :=dj.of C C C
theorem an7(l:List Int):dw (U dY []) [] 0 Tryz.f148 [] (dX (dr 1 Ue)) (Q5 l 0) [([],
   [],
   .ret (.bool true) (G []) 0)]
 :=dj.of C C C
set_option maxRecDepth 10000
def VR(l:List Int)(j:Nat):Bool:=decide (l.getD (j+1) 0<l.getD j 0)
def AO(l:List Int):Bool:=!((List.range (l.length-1)).any (VR l))
theorem Uf(l:List Int)(h0:0<l.length)(hl:l.length<=1000000000):dU ak 148 [fj l] (.bool (AO l)):=by
 refine eX Tryz.func148 (fF 1 (di _) (an3 l) all_nil ?_);obtain⟨fr,hN⟩:∃fr,l.length=fr+1:=⟨l.length-1,H⟩;have e6:V.int .i64 (IntKind.i64.wrap (Int.ofNat l.length-(1:Int)))=M fr:=aI (V.int .i64) (by rw[hN,show Int.ofNat (fr+1)-1=Int.ofNat fr by simp only[gQ];omega];exact gZ (by simp only[gQ];omega) (by simp only[gQ];omega));have hs:AO l=!((List.range fr).any (VR l)):=by unfold AO;rw[hN];rfl
 refine dK C (dK C (gv (di _) eE (an4 l fr) (dB (g0 ⟨eG e6,fun X dQ=>?_⟩))));simp only[andThen];refine jf 0 fr (fun i=>Q5 l (fr-i)) (fun i=>VR l (fr-i-1)) (ek.norm dQ) (fun i hi hj Q' k1 k2 k3=>?_) (fun Q X dQ=>?_)
 . rcases bt i fr with q|q
   . obtain⟨j,xy⟩:∃j,fr-i=j+1:=⟨fr-i-1,H⟩;have e1:fr-(i+1)=j:=by omega
     have ej:fr-i-1=j:=by omega
     have b0:V.bool (decide (Int.ofNat (j+1)>(0:Int)))=V.bool true:=aI V.bool (aZ (by simp only[gQ];omega));have b2:V.int .i64 (IntKind.i64.wrap (Int.ofNat (j+1)-(1:Int)))=M j:=aI (V.int .i64) (by rw[show Int.ofNat (j+1)-1=Int.ofNat j by simp only[gQ];omega];exact gZ (by simp only[gQ];omega) (by simp only[gQ];omega));have NQ:j+1<l.length:=by omega
     have be:=S b0 (S (iI NQ) (S (eo l) (S (fD NQ) (S b2 (S (iI (show j<l.length by omega)) (S (eo l) (S (fD (show j<l.length by omega)) (eG (show fa [L (l.getD (j+1) 0),L (l.getD j 0)]from rfl)))))))));have C2:=S b0 (S (iI NQ) (S (eo l) (S (fD NQ) (S b2 (S (iI (show j<l.length by omega)) (S (eo l) (S (fD (show j<l.length by omega)) (S (show fa [L (l.getD (j+1) 0),L (l.getD j 0)]from rfl) (eG b2)))))))));show TG _ _ _ _ (Q5 l (fr-i)) _;rw[xy];refine gv (fu (ad5 (l.getD (j+1) 0) (l.getD j 0)) (di _)) (fun u _ _=>u= .bool (AO l)) (an5 l j (l.getD (j+1) 0) (l.getD j 0) (VR l j)) (dD (g1 fun h=>⟨be,?_,k3⟩) (dB (g1 fun h=>⟨C2,fun X dQ=>k1 q (by rw[ej];exact h) X (by show ek _ _ _ _ (Q5 l (fr-(i+1)));rw[e1];exact ek.norm dQ)⟩)));rw[hs,qO (f:=VR l) (show j<fr by omega) h];rfl
   . obtain rfl:i=fr:=by omega
     show TG _ _ _ _ (Q5 l (i-i)) _;have e0:i-i=0:=Nat.sub_self i;rw[e0];exact gv (di _) eE (an6 l) (dB (g0 ⟨all_nil,fun X dQ=>k2 rfl X (by show ek _ _ _ _ (Q5 l (i-i));rw[e0];exact ek.norm dQ)⟩))
 simp only[andThen];refine dQ _ _ ?_;rw[Nat.sub_self];refine eK (di _) (an7 l) (dB (g0 ⟨all_nil,_,_,_,rfl,?_⟩));rw[hs,qP (f:=VR l) fun j hj=>by
  have:=Q (fr-1-j) H;rw[show fr-(fr-1-j)-1=j by omega]at this;exact this]
 rfl
end Go.Proofs.YtmjggdmekboefaaGreat
