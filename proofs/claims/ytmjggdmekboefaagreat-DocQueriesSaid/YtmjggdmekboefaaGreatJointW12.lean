/- The Doc laws: the program's tree: pieces. No conditions. -/
import Derived.Test.YtmjggdmekboefaaGreatJointW10
import Derived.Test.YtmjggdmekboefaaGreatJointW11
set_option linter.unusedVariables false
set_option linter.unusedSimpArgs false
set_option linter.unusedSectionVars false
namespace Go.Proofs.YtmjggdmekboefaaGreat
open Go Go.Eng
set_option maxRecDepth 10000
def kT(d:Dc)(O:ae):I es:=hL [(0,.cells (d.cs++[.map (some 1)])),(1,.gL (some .i64) O)]
noncomputable abbrev afC:Code:=dQ Tryz.f44
abbrev pT:V:=.ptr (some (0,0))
theorem apx(d:Dc)(O:List (Eng.D×Eng.D))(id:Int)(n:Nat)(x:eV):H (M ew []) [(14,.dL (.gK [J n,.bool true])),(26,.dL (.eo x.ds))] 2 Tryz.f44 [] (afC) (dI [pT,R id] (kT d O) 2) [([],[(if true=true then V.gK [D.kV (V.int B (0:Int)) (fL (D.int B id) O),V.bool (fL (D.int B id) O).isSome]else D.kV (V.int B (0:Int)) (fL (D.int B id) O))=V.gK [J n,V.bool true],fT n d.ly.length,nK d.ly,gv (fR d.ly) n 31 x.ds],.ret (.gK [.agg [.int .i64 (x.id),.int .i64 (x.kd),.str (x.nm),.bool (x.hid),.int .i64 (x.op),.int .i64 (x.md),.bool (x.clip),.int .i64 (x.pl.a),.int .i64 (x.pl.b),.int .i64 (x.pl.c),.int .i64 (x.pl.d),.int .i64 (x.pl.e),.int .i64 (x.pl.f),.int .i64 (x.pl.n),.int .i64 (x.sp),.eM false (x.kids.length) (eL x.kids),.int .i64 (x.of),.int .i64 (x.f.k),.int .i64 (x.f.r),.eM false (x.f.fh.length) (eL x.f.fh),.int .i64 (x.f.dv),.int .i64 (x.f.vl),.eM false (x.f.cu.length) (eL x.f.cu),.int .u8 (x.fi.r),.int .u8 (x.fi.g),.int .u8 (x.fi.b),.int .u8 (x.fi.a),.eM false (x.gA.length) (nf x.gA),.eM false (x.gx.length) (iO x.gx),.bool (x.L),.eM false (x.ig.length) (iO x.ig)],.bool true]) (hL [(0,.cells [.eM false (d.sp.length) (lj d.sp),.int .i64 (d.root),.int .i64 (d.nx),.eM false (d.ly.length) (fR d.ly),.map (some 1)]),(1,.gL (some .i64) O)]) 2)]:=G.Y
theorem apy(d:Dc)(O:List (Eng.D×Eng.D))(id:Int):H (M ew []) [(14,.dL (.gK [R 0,.bool false]))] 2 Tryz.f44 [] (afC) (dI [pT,R id] (kT d O) 2) [([],[(if true=true then V.gK [D.kV (V.int B (0:Int)) (fL (D.int B id) O),V.bool (fL (D.int B id) O).isSome]else D.kV (V.int B (0:Int)) (fL (D.int B id) O))=V.gK [R (0:Int),V.bool false]],.ret (.gK [.agg [.int .i64 0,.int .i64 0,.str [],.bool false,.int .i64 0,.int .i64 0,.bool false,.int .i64 0,.int .i64 0,.int .i64 0,.int .i64 0,.int .i64 0,.int .i64 0,.int .i64 0,.int .i64 0,.fk none 0 0 0,.int .i64 0,.int .i64 0,.int .i64 0,.fk none 0 0 0,.int .i64 0,.int .i64 0,.fk none 0 0 0,.int .u8 0,.int .u8 0,.int .u8 0,.int .u8 0,.fk none 0 0 0,.fk none 0 0 0,.bool false,.fk none 0 0 0],.bool false]) (hL [(0,.cells [.eM false (d.sp.length) (lj d.sp),.int .i64 (d.root),.int .i64 (d.nx),.eM false (d.ly.length) (fR d.ly),.map (some 1)]),(1,.gL (some .i64) O)]) 2)]:=G.Y
section
variable(f:FuncId)(rest:ag)
def Ju(d:Dc)(O:List (Eng.D×Eng.D))(v:V):ag->I es->Nat->Option (ah×V×I es×Nat):=fun args h k=>some ([args=pT::rest,h=kT d O,k=2],v,kT d O,2)
def lU(d:Dc)(O:List (Eng.D×Eng.D))(v:V):Prop:=jM ak f (nG (Ju rest d O v))
def o6(d:Dc)(O:List (Eng.D×Eng.D))(v:V)(dF:gG):gG:=jC f (nG (Ju rest d O v)) dF
end
theorem lE{f:FuncId}{rest:ag}{d:Dc}{O:List (Eng.D×Eng.D)}{v:V}{dF:gG}(h:lU f rest d O v)(hS:fo ak dF):fo ak (o6 f rest d O v dF):=fq h hS
theorem DL{f:FuncId}{fn:Func}{rest:ag}{d:Dc}{O:List (Eng.D×Eng.D)}{v:V}(hf:Tryz.prog.funcs[f]? =some fn)(hT:TG ak 2 fn.ntmps (dQ fn) (dI (pT::rest) (kT d O) 2) (gi ak 2 fn fun a b c=>a=v/\b=kT d O/\c=2))
  (fj:Nat.blt f Tryz.prog.funcs.size=true:=by kernel_rfl) (U:fn.body=some (dQ fn):=by kernel_rfl) (l:(Nat.ble (pT::rest).length fn.ntmps&&Nat.blt fn.ntmps gO)=true:=by kernel_rfl):lU f rest d O v:=
 GW mo po (aE fj) hf U fun args h k hc v' h' k' e hA=>by
  simp only[Ju,aq,aB]at e;obtain⟨rfl,rfl,rfl,rfl⟩:=e;have h1:args=pT::rest:=hA _ (by simp);have C:h=kT d O:=hA (h=kT d O) (by simp);have h3:k=2:=hA (k=2) (by simp);subst h1 C h3;exact⟨l,hT⟩
noncomputable abbrev Oo:Code:=dQ Tryz.f95
def Z8(d:Dc)(O:List (Eng.D×Eng.D))(x:eV)(r:List (Nat×V)):St:=fI ([(0,pT),(5,.ptr (some (2,0)))]++r) (hL [(0,.cells (d.cs++[.map (some 1)])),(1,.gL (some .i64) O),(2,.cells x.cs)]) 3
theorem apz(d:Dc)(O:List (Eng.D×Eng.D))(id:Int)(x:eV):H (M (o6 44 [R id] d O (.gK [x.v,.bool true]) ew) []) [] 2 Tryz.f95 [0,5] (ek 2 Oo) (dI [pT,R id] (kT d O) 2) [([],[[V.ptr (some (0,0)),V.int B id]=[pT,R id],(I.nil.set 0 (some (es.cells [V.eM false d.sp.length (lj d.sp),V.int B d.root,V.int B d.nx,V.eM false d.ly.length (fR d.ly),V.map (some 1)]))).set 1 (some (es.gL (some B) O))=kT d O,2=2],eC (Z8 d O x []))]:=G.Y
theorem apA(d:Dc)(O:List (Eng.D×Eng.D))(x:eV):H (M ew []) [] 2 Tryz.f95 [0,5,15] (dO (dO (dH 2 Oo))) (Z8 d O x []) [([],[],eC (Z8 d O x [(15,.bool (x.kd==(4:Int)))]))]:=G.Y
theorem apB(d:Dc)(O:List (Eng.D×Eng.D))(x:eV):H (M ew []) [] 2 Tryz.f95 [4] (dO (l9 (eB (dO (dH 2 Oo))))) (Z8 d O x [(15,.bool true)]) [([],[],eC (fI [(4,.fk (some (2,0)) 1 1 1)] (hL [(0,.cells [.eM false (d.sp.length) (lj d.sp),.int .i64 (d.root),.int .i64 (d.nx),.eM false (d.ly.length) (fR d.ly),.map (some 1)]),(1,.gL (some .i64) O),(2,.cells [.int .i64 (x.of)])]) 3))]:=G.Y
theorem apC(d:Dc)(O:List (Eng.D×Eng.D))(W:List Int):H (M ew []) [] 2 Tryz.f95 [] (eB (l9 (eB (dO (dH 2 Oo))))) (fI [(4,fD W)] (kT d O) 2) [([],[],.ret (.eM false (W.length) (eL W)) (hL [(0,.cells [.eM false (d.sp.length) (lj d.sp),.int .i64 (d.root),.int .i64 (d.nx),.eM false (d.ly.length) (fR d.ly),.map (some 1)]),(1,.gL (some .i64) O)]) 2)]:=G.Y
theorem apE(d:Dc)(O:List (Eng.D×Eng.D))(x:eV):H (M ew []) [] 2 Tryz.f95 [0,5] (pc (eB (dO (dH 2 Oo)))) (Z8 d O x [(15,.bool false)]) [([],[],eC (Z8 d O x []))]:=G.Y
theorem apF(d:Dc)(O:List (Eng.D×Eng.D))(x:eV):H (M ew []) [] 2 Tryz.f95 [] (eB (dH 2 Oo)) (Z8 d O x []) [([],[],.ret (.eM false (x.kids.length) (eL x.kids)) (hL [(0,.cells [.eM false (d.sp.length) (lj d.sp),.int .i64 (d.root),.int .i64 (d.nx),.eM false (d.ly.length) (fR d.ly),.map (some 1)]),(1,.gL (some .i64) O)]) 2)]:=G.Y
set_option maxRecDepth 10000
def uF(d:Dc)(O:List (Eng.D×Eng.D)):Prop:=∀k,fL (.int .i64 k) O=(jq d.ly k).map fun n=>.int .i64 (Int.ofNat n)
theorem kR{d:Dc}{O:List (Eng.D×Eng.D)}(h:uF d O){id:Int}{n:Nat}(hn:jq d.ly id=some n):lU 44 [R id] d O (.gK [(d.at n).v,.bool true]):=by
 obtain⟨fj,_,_⟩:=iG hn;have hl:=h id;rw[hn]at hl;refine DL Tryz.func44 (eR (be _) (apx d O id n (d.at n)) (dK (g0 ⟨X (by rw[hl];rfl) (X (iI fj) (X (fS _) (eO (ik fj)))),_,_,_,rfl,rfl,rfl,rfl⟩)))
def Jv:V:=.agg (OW 0 0 z7 0)
theorem tW{d:Dc}{O:List (Eng.D×Eng.D)}(h:uF d O){id:Int}(hn:jq d.ly id=none):lU 44 [R id] d O (.gK [Jv,.bool false]):=by
 have hl:=h id;rw[hn]at hl;refine DL Tryz.func44 (eR (be _) (apy d O id) (dK (g0 ⟨eO (by rw[hl];rfl),_,_,_,rfl,rfl,rfl,rfl⟩)))
theorem xN{d:Dc}{O:List (Eng.D×Eng.D)}(h:uF d O){id:Int}{n:Nat}(hn:jq d.ly id=some n):lU 95 [R id] d O (fD (gp (d.at n))):=by
 generalize K:d.at n=x;have hL:=kR h hn;rw[K]at hL;refine DL Tryz.func95 (fN 2 (lE hL (be _)) (apz d O id x) (X rfl (X rfl (eO rfl))) ?_);refine dY dJ (qm (be _) eP (apA d O x) (dK (g0 ⟨all_nil,?_⟩)));refine kz (t:=x.kd==(4:Int)) dJ dJ (fun q=>?_) (fun q=>?_)
 . rw[q];refine qm (be _) eP (apB d O x) (dK (g0 ⟨all_nil,?_⟩));refine eJ.Fl [2] [4] (dF:=fI [(4,fD [x.of])] (kT d O) 2) (hc:=[(eL [x.of]).length=1*1]) dJ (eO rfl) _ _ ?_;have e:gp x=[x.of]:=aF (xJ.1 q);rw[e];exact gw (be _) (fun a b c=>a=fD [x.of]/\b=kT d O/\c=2) (apC d O [x.of]) (dK (g0 ⟨all_nil,⟨rfl,rfl,rfl⟩,fun _ h=>h⟩))
 . rw[q];have e:gp x=x.kids:=aD (DK q);rw[e];refine gw (be _) eP (apE d O x) (dK (g0 ⟨all_nil,fun T eu=>?_⟩));simp only[andThen];exact gj eu (eR (be _) (apF d O x) (dK (g0 ⟨all_nil,_,_,_,rfl,rfl,rfl,rfl⟩)))
set_option maxRecDepth 10000
noncomputable abbrev Oq:Code:=dQ Tryz.f48
noncomputable abbrev Z9:Code:=dH 1 (eB (dH 2 Oq))
noncomputable abbrev bDq:Code:=dP (dP (eB (dO Z9)))
def sDq(d:Dc)(O:List (Eng.D×Eng.D))(id:Int)(x:eV)(r:List (Nat×V)):St:=fI ([(0,pT),(1,R id),(5,.ptr (some (2,0)))]++r) (hL [(0,.cells (d.cs++[.map (some 1)])),(1,.gL (some .i64) O),(2,.cells x.cs)]) 3
def sDl(d:Dc)(O:List (Eng.D×Eng.D))(m:Int)(ps:List Int)(i:Nat):St:=fI [(0,pT),(7,R m),(26,fD ps),(27,J ps.length),(28,J i)] (kT d O) 2
theorem apG(d:Dc)(O:List (Eng.D×Eng.D))(id:Int)(x:eV):H (M (o6 44 [R id] d O (.gK [x.v,.bool true]) ew) []) [] 2 Tryz.f48 [0,1,5] (ek 2 Oq) (dI [pT,R id] (kT d O) 2) [([],[[V.ptr (some (0,0)),V.int B id]=[pT,R id],(I.nil.set 0 (some (es.cells [V.eM false d.sp.length (lj d.sp),V.int B d.root,V.int B d.nx,V.eM false d.ly.length (fR d.ly),V.map (some 1)]))).set 1 (some (es.gL (some B) O))=kT d O,2=2],eC (sDq d O id x []))]:=G.Y
theorem apH(d:Dc)(O:List (Eng.D×Eng.D))(id:Int)(x:eV):H (M ew []) [(18,.split),(22,.split)] 2 Tryz.f48 [0,1,5] (dO (dH 2 Oq)) (sDq d O id x []) (BJ (x.kd !=(2:Int)) (x.kd !=(4:Int)) ([],.ret (.int .i64 0) (kT d O) 2) ([],eC (sDq d O id x []))):=G.Y
theorem apJ(d:Dc)(O:List (Eng.D×Eng.D))(id:Int)(x:eV):H (M ew []) [] 2 Tryz.f48 [0,1,7] (ek 1 (eB (dH 2 Oq))) (sDq d O id x []) [([],[],eC (fI [(0,pT),(1,R id),(7,R 0)] (kT d O) 2))]:=G.Y
theorem afF(d:Dc)(O:List (Eng.D×Eng.D))(id:Int)(ps:List Int):H (M (o6 95 [R id] d O (fD ps) ew) []) [] 2 Tryz.f48 [0,7,26,27,28] (dO (dO Z9)) (fI [(0,pT),(1,R id),(7,R 0)] (kT d O) 2) [([],[[V.ptr (some (0,0)),V.int B id]=[pT,R id],(I.nil.set 0 (some (es.cells [V.eM false d.sp.length (lj d.sp),V.int B d.root,V.int B d.nx,V.eM false d.ly.length (fR d.ly),V.map (some 1)]))).set 1 (some (es.gL (some B) O))=kT d O,2=2],eC (sDl d O 0 ps 0))]:=G.Y
theorem apK(d:Dc)(O:List (Eng.D×Eng.D))(ps:List Int)(i:Nat)(m p a:Int):H (M (o6 48 [R p] d O (R a) ew) []) [(29,.dL (.bool true)),(30,.dL (.eo [.int .i64 p])),(37,.dL (J (i+1)))] 2 Tryz.f48 [0,7,26,27,28] (bDq) (sDl d O m ps i) [([],[kr (decide (Int.ofNat i<Int.ofNat ps.length)),fT i ps.length,jo ps,gv (eL ps) i 1 [D.int B p],[V.ptr (some (0,0)),V.int B p]=[pT,R p],(I.nil.set 0 (some (es.cells [V.eM false d.sp.length (lj d.sp),V.int B d.root,V.int B d.nx,V.eM false d.ly.length (fR d.ly),V.map (some 1)]))).set 1 (some (es.gL (some B) O))=kT d O,2=2,oq i],eC (sDl d O (GO m a) ps (i+1)))]:=G.Y
theorem afG(d:Dc)(O:List (Eng.D×Eng.D))(ps:List Int)(i:Nat)(m:Int):H (M ew []) [(29,.dL (.bool false))] 2 Tryz.f48 [0,7,26,27,28] (bDq) (sDl d O m ps i) [([],[kP (decide (Int.ofNat i<Int.ofNat ps.length))],.to (.exit 0) (sDl d O m ps i))]:=G.Y
theorem apL(d:Dc)(O:List (Eng.D×Eng.D))(ps:List Int)(i:Nat)(m:Int):H (M ew []) [] 2 Tryz.f48 [] (eB Z9) (sDl d O m ps i) [([],[],.ret (.int .i64 (IntKind.i64.wrap (m+(1:Int)))) (hL [(0,.cells [.eM false (d.sp.length) (lj d.sp),.int .i64 (d.root),.int .i64 (d.nx),.eM false (d.ly.length) (fR d.ly),.map (some 1)]),(1,.gL (some .i64) O)]) 2)]:=G.Y
set_option maxRecDepth 10000
def Clo(ls:List eV):Prop:=∀x∈ls,∀p∈gp x,∃n,jq ls p=some n
theorem jz.clo{d:Dc}(h:jz d):Clo d.ly:=fun x K p hp=>by
 unfold gp at hp;split at hp
 . rename_i h4;rw[aI]at hp;subst hp;have:=h.c x K;unfold BM at this;rw[h4]at this;cases hn:jq d.ly x.of with
   |none=>rw[hn]at this;cases this
   |some n=>exact⟨n,rfl⟩
 . exact AD (h.k x K) hp
theorem DM(d:Dc)(O:List (Eng.D×Eng.D))(h:uF d O)(hd:D5 d)(A:Clo d.ly)(rk:Int->Nat)(hrk:Lb d.ly rk):∀k,k<=1000->∀id n,jq d.ly id=some n->rk id<k->lU 48 [R id] d O (R (jO d.ly k id)):=by
 intro k
 induction k with
 |zero=>intro _ id _ _ h;exact absurd h (bE _)
 |succ k ih=>
  intro hk id n hn ayw;have hL:=kR h hn;have hP:=xN h hn;obtain⟨fj,hid,oJ⟩:=iG hn;have vN:∀p∈gp (d.at n),∃m,jq d.ly p=some m:=A _ oJ;have hkl:=hd.kids _ oJ;have hrx:=hrk id n hn;have hv:jO d.ly (k+1) id=if((d.at n).kd !=2&&(d.at n).kd !=4)=true then 0 else(gp (d.at n)).foldl (fun m p=>GO m (jO d.ly k p)) 0+1:=by
   rw[jO,hn];rfl
  change (isK (d.at n)=true->∀p∈gp (d.at n),rk p<rk id)at hrx;change (d.at n).kids.length<=1000000 at hkl;generalize d.at n=x at *;refine DL Tryz.func48 (fN 2 (lE hL (be _)) (apG d O id x) (X rfl (X rfl (eO rfl))) ?_);have qI:(x.kd !=2&&x.kd !=4)=false->TG ak 2 Tryz.f48.ntmps (eB (dH 2 Oq)) (sDq d O id x []) (gi ak 2 Tryz.f48 fun a b c=>a=R (jO d.ly (k+1) id)/\b=kT d O/\c=2):=fun Yj=>by
   rw[hv,Yj,aD fg];have hp:∀p∈gp x,rk p<k:=fun p hp=>by
    have:=hrx (by unfold isK;rw[Yj];rfl) p hp;omega
   have hl:(gp x).length<=1000000:=by
    unfold gp;split
    . simp
    . exact hkl
   refine fN 1 (be _) (apJ d O id x) all_nil ?_;generalize gp x=ps at *;refine dY dJ (dY dJ (gw (lE hP (be _)) eP (afF d O id ps) (dK (g0 ⟨X rfl (X rfl (eO rfl)),fun T eu=>?_⟩))));simp only[andThen];refine je 0 ps.length (fun i=>sDl d O ((ps.take i).foldl (fun m p=>GO m (jO d.ly k p)) 0) ps i) (fun _=>false) (eJ.norm eu) (fun i hi hj Q' m1 m2 m3=>?_) (fun h1 T eu=>?_)
   . rcases bx i ps.length with q|q
     . have hg:=fP (l:=ps) q;have L:ps.getD i 0∈ps:=by rw[ax,au q];exact bV q
       have ht:(ps.take (i+1)).foldl (fun m p=>GO m (jO d.ly k p)) 0=GO ((ps.take i).foldl (fun m p=>GO m (jO d.ly k p)) 0) (jO d.ly k (ps.getD i 0)):=by
        rw[cz,getD_some 0 q,Option.toList_some,List.foldl_append];rfl
       obtain⟨n2,qQ⟩:=vN _ L;refine gw (lE (ih S (ps.getD i 0) n2 qQ (hp _ L)) (be _)) eP (apK d O ps i _ (ps.getD i 0) (jO d.ly k (ps.getD i 0))) (dK (g0 ⟨X (aG V.bool (aW (cE.2 q))) (X (iI q) (X (eI ps) (X hg (X rfl (X rfl (X rfl (eO (gV S)))))))),fun T eu=>m1 q rfl T ?_⟩));rw[ht];exact eJ.norm eu
     . obtain rfl:i=ps.length:=by omega
       exact gw (be _) eP (afG d O ps _ _) (dK (g0 ⟨eO (aG V.bool (aX (by simp only[gD];omega))),fun T eu=>m2 rfl T (eJ.norm eu)⟩))
   simp only[andThen];refine eu _ _ (eR (be _) (apL d O ps ps.length _) (dK (g0 ⟨all_nil,_,_,_,rfl,?_,rfl,rfl⟩)));rw[br];have C:=DG (l:=ps) (f:=jO d.ly k) (b:=Int.ofNat k) (fun p _=>GQ d.ly k p) 0 (bJ _);have h3:=Jm (l:=ps) (f:=jO d.ly k) 0;generalize ps.foldl (fun m p=>GO m (jO d.ly k p)) 0=z at C h3 ⊢;exact aG (V.int .i64) (iz S (by simp only[gD]at C;omega))
  refine qm (be _) (fun a b c=>a=R (jO d.ly (k+1) id)/\b=kT d O/\c=2) (apH d O id x) (dN (g2 fun h1 C=>⟨all_nil,⟨by rw[hv,h1,C];rfl,rfl,rfl⟩,fun _ h=>h⟩) (dN (g2 fun h1 C=>⟨all_nil,qI (by rw[h1,C];rfl)⟩) (dK (g1 fun h1=>⟨all_nil,qI (by rw[h1];rfl)⟩))))
set_option maxRecDepth 10000
noncomputable abbrev afH:Code:=dQ Tryz.f45
noncomputable abbrev Ot:Code:=dQ Tryz.f97
def hC(d:Dc)(O:List (Eng.D×Eng.D))(f:Nat)(t:Int)(sn:List (Eng.D×Eng.D)):I es:=hL [(0,.cells [.fn (.func f) [.ptr (some (1,0))] []]),(1,.cells (d.cs++[.map (some 2)])),(2,.gL (some .i64) O),(3,.cells [R t]),(4,.cells [.map (some 5)]),(5,.gL (some .i64) sn),(6,.cells [.fn (.func 97) [] [.ptr (some (0,0)),.ptr (some (3,0)),.ptr (some (4,0)),.ptr (some (6,0))]])]
abbrev aC(x:Int):ag:=[R x,.ptr (some (0,0)),.ptr (some (3,0)),.ptr (some (4,0)),.ptr (some (6,0))]
def Vd(d:Dc)(O:List (Eng.D×Eng.D))(f:Nat)(t x:Int)(sn Lm:List (Eng.D×Eng.D))(b:Bool):ag->I es->Nat->Option (ah×V×I es×Nat):=fun args h k=>some ([args=aC x,h=hC d O f t sn,k=7],.bool b,hC d O f t Lm,7)
def aab(d:Dc)(O:List (Eng.D×Eng.D))(f:Nat)(t x:Int)(sn Lm:List (Eng.D×Eng.D))(b:Bool):Prop:=jM ak 97 (nG (Vd d O f t x sn Lm b))
def sC(d:Dc)(O:List (Eng.D×Eng.D))(f:Nat)(t:Int)(ps:List Int)(i:Nat)(sn:List (Eng.D×Eng.D))(r:List (Nat×V)):St:=fI ([(1,.ptr (some (0,0))),(2,.ptr (some (3,0))),(3,.ptr (some (4,0))),(4,.ptr (some (6,0))),(11,fD ps),(12,J ps.length),(13,J i)]++r) (hC d O f t sn) 7
noncomputable abbrev Xi:Code:=dP (dP (eB (dO (dH 1 Ot))))
theorem apM(d:Dc)(O:List (Eng.D×Eng.D))(f:Nat)(t x:Int)(sn:List (Eng.D×Eng.D)):H (M ew []) [] 7 Tryz.f97 [0,1,2,3,4] (ek 1 Ot) (dI (aC x) (hC d O f t sn) 7) [([],[],eC (dI (aC x) (hC d O f t sn) 7))]:=G.Y
theorem aac(d:Dc)(O:List (Eng.D×Eng.D))(t x:Int)(sn:List (Eng.D×Eng.D))(ps:List Int):H (M (o6 95 [R x] d O (fD ps) ew) []) [] 7 Tryz.f97 [1,2,3,4,11,12,13] (dO (dO (dH 1 Ot))) (dI (aC x) (hC d O 95 t sn) 7) [([],[[V.ptr (some (0,0)),V.int B x]=[pT,R x],(I.nil.set 0 (some (es.cells [V.eM false d.sp.length (lj d.sp),V.int B d.root,V.int B d.nx,V.eM false d.ly.length (fR d.ly),V.map (some 1)]))).set 1 (some (es.gL (some B) O))=kT d O,2=2],eC (sC d O 95 t ps 0 sn []))]:=G.Y
theorem afI(d:Dc)(O:List (Eng.D×Eng.D))(t x:Int)(sn:List (Eng.D×Eng.D))(ps:List Int):H (M (o6 46 [R x] d O (fD ps) ew) []) [] 7 Tryz.f97 [1,2,3,4,11,12,13] (dO (dO (dH 1 Ot))) (dI (aC x) (hC d O 46 t sn) 7) [([],[[V.ptr (some (0,0)),V.int B x]=[pT,R x],(I.nil.set 0 (some (es.cells [V.eM false d.sp.length (lj d.sp),V.int B d.root,V.int B d.nx,V.eM false d.ly.length (fR d.ly),V.map (some 1)]))).set 1 (some (es.gL (some B) O))=kT d O,2=2],eC (sC d O 46 t ps 0 sn []))]:=G.Y
theorem aad(d:Dc)(O:List (Eng.D×Eng.D))(f:Nat)(t:Int)(sn:List (Eng.D×Eng.D))(ps:List Int)(i:Nat)(k:Int):H (M ew []) [(14,.dL (.bool true)),(15,.dL (.eo [.int .i64 k])),(19,.dL (.bool true))] 7 Tryz.f97 [1,2,3,4,11,12,13] (Xi) (sC d O f t ps i sn []) [([],[kr (decide (Int.ofNat i<Int.ofNat ps.length)),fT i ps.length,jo ps,gv (eL ps) i 1 [D.int B k],kr (k==t)],.ret (.bool true) (hC d O f t sn) 7)]:=G.Y
theorem aae(d:Dc)(O:List (Eng.D×Eng.D))(f:Nat)(t:Int)(sn:List (Eng.D×Eng.D))(ps:List Int)(i:Nat)(k:Int):H (M ew []) [(14,.dL (.bool true)),(15,.dL (.eo [.int .i64 k])),(19,.dL (.bool false)),(22,.dL (.bool true)),(29,.dL (J (i+1)))] 7 Tryz.f97 [1,2,3,4,11,12,13] (Xi) (sC d O f t ps i sn []) [([],[kr (decide (Int.ofNat i<Int.ofNat ps.length)),fT i ps.length,jo ps,gv (eL ps) i 1 [D.int B k],kP (k==t),(if false=true then V.gK [D.kV (V.bool false) (fL (D.int B k) sn),V.bool (fL (D.int B k) sn).isSome]else D.kV (V.bool false) (fL (D.int B k) sn))=V.bool true,oq i],eC (sC d O f t ps (i+1) sn []))]:=G.Y
abbrev RW(d:Dc)(O:List (Eng.D×Eng.D))(f:Nat)(t:Int)(sn:List (Eng.D×Eng.D))(k:Int):Prop:=((((((I.nil.set 0 (some (es.cells [V.fn (Fn.func f) [V.ptr (some (1,0))] []]))).set 1 (some (es.cells [V.eM false d.sp.length (lj d.sp),V.int B d.root,V.int B d.nx,V.eM false d.ly.length (fR d.ly),V.map (some 2)]))).set 2 (some (es.gL (some B) O))).set 3 (some (es.cells [V.int B t]))).set 4 (some (es.cells [V.map (some 5)]))).set 5 (some (es.gL (some B) (nS (D.int B k) (D.bool true) sn)))).set 6 (some (es.cells [V.fn (Fn.func (97:FuncId)) [] [V.ptr (some (0,0)),V.ptr (some (3,0)),V.ptr (some (4,0)),V.ptr (some (6,0))]]))=hC d O f t (nS (D.int B k) (D.bool true) sn)
abbrev RY(sn:List (Eng.D×Eng.D))(k:Int):Prop:=(if false=true then V.gK [D.kV (V.bool false) (fL (D.int B k) sn),V.bool (fL (D.int B k) sn).isSome]else D.kV (V.bool false) (fL (D.int B k) sn))=V.bool false
theorem aaf(d:Dc)(O:List (Eng.D×Eng.D))(f:Nat)(t:Int)(sn Lm:List (Eng.D×Eng.D))(ps:List Int)(i:Nat)(k:Int)(b:Bool):H (M (jC 97 (nG (Vd d O f t k (nS (.int .i64 k) (.bool true) sn) Lm b)) ew) []) [(14,.dL (.bool true)),(15,.dL (.eo [.int .i64 k])),(19,.dL (.bool false)),(22,.dL (.bool false)),(29,.dL (J (i+1))),(28,.split)] 7 Tryz.f97 [1,2,3,4,11,12,13] (Xi) (sC d O f t ps i sn []) (fV b ([kr (decide (Int.ofNat i<Int.ofNat ps.length)),fT i ps.length,jo ps,gv (eL ps) i 1 [D.int B k],kP (k==t),RY sn k,[V.int B k,V.ptr (some (0,0)),V.ptr (some (3,0)),V.ptr (some (4,0)),V.ptr (some (6,0))]=aC k,RW d O f t sn k,7=7],.ret (.bool true) (hC d O f t Lm) 7) ([kr (decide (Int.ofNat i<Int.ofNat ps.length)),fT i ps.length,jo ps,gv (eL ps) i 1 [D.int B k],kP (k==t),RY sn k,[V.int B k,V.ptr (some (0,0)),V.ptr (some (3,0)),V.ptr (some (4,0)),V.ptr (some (6,0))]=aC k,RW d O f t sn k,7=7,oq i],eC (sC d O f t ps (i+1) Lm []))):=G.Y
theorem aag(d:Dc)(O:List (Eng.D×Eng.D))(f:Nat)(t:Int)(sn:List (Eng.D×Eng.D))(ps:List Int)(i:Nat):H (M ew []) [(14,.dL (.bool false))] 7 Tryz.f97 [1,2,3,4,11,12,13] (Xi) (sC d O f t ps i sn []) [([],[kP (decide (Int.ofNat i<Int.ofNat ps.length))],.to (.exit 0) (sC d O f t ps i sn []))]:=G.Y
theorem aah(d:Dc)(O:List (Eng.D×Eng.D))(f:Nat)(t:Int)(sn:List (Eng.D×Eng.D))(ps:List Int)(i:Nat):H (M ew []) [] 7 Tryz.f97 [] (eB (dH 1 Ot)) (sC d O f t ps i sn []) [([],[],.ret (.bool false) (hC d O f t sn) 7)]:=G.Y
set_option maxRecDepth 10000
abbrev Sn:=List (Eng.D×Eng.D)
theorem sQ(x y:Int)(v:Eng.D):∀O:Sn,fL (.int .i64 x) (nS (.int .i64 y) v O)=if x=y then some v else fL (.int .i64 x) O
 | []=>by
   simp only[nS,fL,iA];by_cases h:x=y
   . simp[h]
   . simp[h]
 |e::O=>by
  have ih:=sQ x y v O;simp only[nS];cases hk:iA (.int .i64 y) e.1 with
  |true=>
   simp only[fL];by_cases h:x=y
   . subst h;rw[hk];simp[iA]
   . have C:iA (.int .i64 x) (.int .i64 y)=false:=by simp[iA,h]
     have h3:iA (.int .i64 x) e.1=false:=by
      cases q:iA (.int .i64 x) e.1 with
      |false=>rfl
      |true=>
       exfalso;obtain⟨e1,e2⟩:=e;cases e1<;>simp[iA]at hk q;omega
     rw[C,h3,aD h]
  |false=>
   simp only[fL,ih];by_cases h:x=y
   . subst h;rw[hk,aF rfl]
   . rw[aD h,aD h]
def gQ(s:Sn)(k:Int):Bool:=(fL (.int .i64 k) s).isSome
def jQ(k:Int)(s:Sn):Sn:=nS (.int .i64 k) (.bool true) s
theorem ou(s:Sn)(k y:Int):gQ (jQ k s) y=(decide (y=k)||gQ s y):=by
 unfold gQ jQ;rw[sQ];by_cases h:y=k
 . simp[h]
 . simp[h]
def ru(s:Sn):Prop:=∀k v,fL (.int .i64 k) s=some v->v= .bool true
theorem ru.mark{s:Sn}(h:ru s)(k:Int):ru (jQ k s):=fun y v e=>by
 unfold jQ at e;rw[sQ]at e;split at e
 . exact(dB e).symm
 . exact h y v e
def nL(rc:Int->Sn->Bool×Sn)(t:Int):List Int->Sn->Bool×Sn
 | [],s=>(false,s)
 |k::W,s=>if k=t then(true,s)else if gQ s k=true then nL rc t W s else if(rc k (jQ k s)).1=true then(true,(rc k (jQ k s)).2)else nL rc t W (rc k (jQ k s)).2
def ov(st:Int->List Int)(t:Int):Nat->Int->Sn->Bool×Sn
 |0,_,s=>(false,s)
 |n+1,x,s=>nL (ov st t n) t (st x) s
theorem sR{rc:Int->Sn->Bool×Sn}{t:Int}(h:∀k s y,gQ s y=true->gQ (rc k s).2 y=true):∀(W:List Int) (s:Sn) (y:Int),gQ s y=true->gQ (nL rc t W s).2 y=true
 | [],_,_,hy=>hy
 |k::W,s,y,hy=>by
  unfold nL;have L:gQ (jQ k s) y=true:=by rw[ou,hy,dg]
  split
  . exact hy
  . split
    . exact sR h W s y hy
    . split
      . exact h k _ y L
      . exact sR h W _ y (h k _ y L)
theorem sS(st:Int->List Int)(t:Int):∀n k s y,gQ s y=true->gQ (ov st t n k s).2 y=true
 |0,_,_,_,h=>h
 |n+1,_,_,_,h=>sR (sS st t n) _ _ _ h
theorem AI{rc:Int->Sn->Bool×Sn}{t:Int}(h:∀k s,ru s->ru (rc k s).2):∀(W:List Int) (s:Sn),ru s->ru (nL rc t W s).2
 | [],_,hs=>hs
 |k::W,s,hs=>by
  unfold nL;split
  . exact hs
  . split
    . exact AI h W s hs
    . split
      . exact h k _ (hs.mark k)
      . exact AI h W _ (h k _ (hs.mark k))
theorem Ft(st:Int->List Int)(t:Int):∀n k s,ru s->ru (ov st t n k s).2
 |0,_,_,h=>h
 |n+1,_,_,h=>AI (Ft st t n) _ _ h
theorem xO{st:Int->List Int}{rc:Int->Sn->Bool×Sn}{t x:Int}(h:∀k s,(rc k s).1=true->Bp st k t):∀(W:List Int) (s:Sn),(∀k∈W,k∈st x)->(nL rc t W s).1=true->Bp st x t
 | [],_,_,e=>by cases e
 |k::W,s,hk,e=>by
  have h1:=hk k (bB ..);have C:=fun j hj=>hk j (bh _ hj);unfold nL at e;split at e
  . rename_i q;subst q;exact .one h1
  . split at e
    . exact xO h W s C e
    . split at e
      . rename_i q;exact Bp.trans (.one h1) (h k _ q)
      . exact xO h W _ C e
theorem DN(st:Int->List Int)(t:Int):∀n x s,(ov st t n x s).1=true->Bp st x t
 |0,_,_,e=>by cases e
 |n+1,x,s,e=>xO (DN st t n) (st x) s (fun _ h=>h) e
def BO(hb:List Int)(s:Sn):Nat:=(hb.filter fun y=>!gQ s y).length
theorem Ln{hb:List Int}{s s2:Sn}(h:∀y,gQ s y=true->gQ s2 y=true):BO hb s2<=BO hb s:=by
 unfold BO
 induction hb with
 |nil=>exact aK _
 |cons y hb ih=>
  rw[List.filter_cons,List.filter_cons];cases h1:gQ s y with
  |true=>rw[h y h1];exact ih
  |false=>
   cases C:gQ s2 y with
   |true=>exact bN ih (Nat.le_succ _)
   |false=>exact Nat.succ_le_succ ih
theorem RZ{hb:List Int}{s:Sn}{k:Int}(hk:k∈hb)(hs:gQ s k=false):BO hb (jQ k s)<BO hb s:=by
 unfold BO
 induction hb with
 |nil=>cases hk
 |cons y hb ih=>
  have kZ:(hb.filter fun y=>!gQ (jQ k s) y).length<=(hb.filter fun y=>!gQ s y).length:=Ln (hb:=hb) fun z hz=>by rw[ou,hz,dg]
  rw[List.filter_cons,List.filter_cons];by_cases e:y=k
  . subst e;rw[hs,ou];simp only[decide_true,bY,Bool.not_true,aM,cI,Bool.not_false,if_true,aN];omega
  . have e2:gQ (jQ k s) y=gQ s y:=by rw[ou];simp[e]
    rw[e2];have:=ih ((aA.1 hk).resolve_left fun q=>e q.symm);split
    . simp only[aN];omega
    . exact this
def Jw(st:Int->List Int)(t:Int)(s:Sn)(y:Int):Prop:=∀k∈st y,k≠t/\gQ s k=true
theorem Jw.mono{st:Int->List Int}{t:Int}{s s2:Sn}{y:Int}(h:Jw st t s y)(L:∀y,gQ s y=true->gQ s2 y=true):Jw st t s2 y:=fun k hk=>⟨(h k hk).1,L k (h k hk).2⟩
theorem GX{st:Int->List Int}{t:Int}{hb:List Int}(hU:∀y,∀k∈st y,k∈hb){n:Nat}(ih:∀x s,BO hb s<n->(ov st t n x s).1=false->Jw st t (ov st t n x s).2 x/\∀y,gQ (ov st t n x s).2 y=true->gQ s y=true\/Jw st t (ov st t n x s).2 y):
  ∀(W:List Int) (s:Sn),(∀k∈W,k∈hb)->BO hb s<n+1->(nL (ov st t n) t W s).1=false->(∀k∈W,k≠t/\gQ (nL (ov st t n) t W s).2 k=true)/\∀y,gQ (nL (ov st t n) t W s).2 y=true->gQ s y=true\/Jw st t (nL (ov st t n) t W s).2 y
 | [],s,_,_,_=>⟨fun _ h=>(by cases h),fun _ h=>.inl h⟩
 |k::W,s,hk,hf,e=>by
  have CM:=fun j hj=>hk j (bh _ hj);unfold nL at e ⊢;by_cases h1:k=t
  . rw[aF h1]at e;cases e
  . rw[aD h1]at e ⊢;by_cases C:gQ s k=true
    . rw[aF C]at e ⊢;obtain⟨a,b⟩:=GX hU ih W s CM hf e;refine⟨fun j hj=>?_,b⟩;rcases aA.1 hj with rfl|q
      . exact⟨h1,sR (sS st t n) W s _ C⟩
      . exact a j q
    . rw[aD C]at e ⊢;have AU:gQ s k=false:=by simpa using C
      by_cases h3:(ov st t n k (jQ k s)).1=true
      . rw[aF h3]at e;cases e
      . rw[aD h3]at e ⊢;have h3':(ov st t n k (jQ k s)).1=false:=by simpa using h3
        have hl:=RZ (hb:=hb) (hk k (bB ..)) AU;obtain⟨a,b⟩:=ih k (jQ k s) S h3';have US:=sS st t n k (jQ k s);have kZ:=Ln (hb:=hb) (US);generalize (ov st t n k (jQ k s)).2=s1 at *;obtain⟨c,d⟩:=GX hU ih W s1 CM S e;have Te:=sR (t:=t) (sS st t n) W s1;have hmk:gQ (jQ k s) k=true:=by rw[ou];simp
        refine⟨fun j hj=>?_,fun y hy=>?_⟩
        . rcases aA.1 hj with rfl|q
          . exact⟨h1,Te _ (US _ hmk)⟩
          . exact c j q
        . rcases d y hy with q|q
          . rcases b y q with q|q
            . rw[ou]at q;by_cases e2:y=k
              . subst e2;exact .inr (a.mono Te)
              . simp[e2]at q;exact .inl q
            . exact .inr (q.mono Te)
          . exact .inr q
theorem MB{st:Int->List Int}{t:Int}{hb:List Int}(hU:∀y,∀k∈st y,k∈hb):∀n x s,BO hb s<n->(ov st t n x s).1=false->Jw st t (ov st t n x s).2 x/\∀y,gQ (ov st t n x s).2 y=true->gQ s y=true\/Jw st t (ov st t n x s).2 y
 |0,_,_,h,_=>absurd h (bE _)
 |n+1,x,s,h,e=>GX hU (MB hU n) (st x) s (hU x) h e
theorem MC{st:Int->List Int}{t:Int}{hb:List Int}(hU:∀y,∀k∈st y,k∈hb){n:Nat}(hn:hb.length<n)(x:Int):(ov st t n x []).1=true↔Bp st x t:=by
 refine⟨DN st t n x [],fun h=>?_⟩;cases e:(ov st t n x []).1 with
 |true=>rfl
 |false=>
  exfalso;obtain⟨a,b⟩:=MB hU n x [] (Nat.lt_of_le_of_lt (List.length_filter_le ..) hn) e;have:∀y,Bp st x y->y≠t/\gQ (ov st t n x []).2 y=true:=fun y q=>by
   induction q with
   |one h=>exact a _ h
   |tail _ h ih=>
    rcases b _ ih.2 with q|q
    . cases q
    . exact q _ h
  exact(this t h).1 rfl
set_option maxRecDepth 10000
theorem clT{d:Dc}{O:List (Eng.D×Eng.D)}{f:Nat}{t x:Int}{sn Lm:Sn}{b0:Bool}(hT:TG ak 7 Tryz.f97.ntmps (dQ Tryz.f97) (dI (aC x) (hC d O f t sn) 7) (gi ak 7 Tryz.f97 fun a b c=>a= .bool b0/\b=hC d O f t Lm/\c=7)):aab d O f t x sn Lm b0:=
 GW mo po (aE dJ) Tryz.func97 (code:=dQ Tryz.f97) dJ fun args h k hc v' h' k' e hA=>by
  simp only[Vd,aq,aB]at e;obtain⟨rfl,rfl,rfl,rfl⟩:=e;have h1:args=aC x:=hA _ (by simp);have C:h=hC d O f t sn:=hA (h=hC d O f t sn) (by simp);have h3:k=7:=hA (k=7) (by simp);subst h1 C h3;exact⟨dJ,hT⟩
def zG(rc:Int->Sn->Bool×Sn)(ps:List Int)(sn:Sn):Nat->Sn
 |0=>sn
 |i+1=>if gQ (zG rc ps sn i) (ps.getD i 0)=true then zG rc ps sn i else(rc (ps.getD i 0) (jQ (ps.getD i 0) (zG rc ps sn i))).2
def tAt(rc:Int->Sn->Bool×Sn)(t:Int)(ps:List Int)(sn:Sn)(i:Nat):Bool:=(ps.getD i 0==t)||(!gQ (zG rc ps sn i) (ps.getD i 0)&&(rc (ps.getD i 0) (jQ (ps.getD i 0) (zG rc ps sn i))).1)
theorem GY(rc:Int->Sn->Bool×Sn)(t:Int)(ps:List Int)(sn:Sn):∀i,i<=ps.length->(∀j,j<i->tAt rc t ps sn j=false)->nL rc t ps sn=nL rc t (ps.drop i) (zG rc ps sn i)
 |0,_,_=>rfl
 |i+1,hi,hj=>by
  rw[GY rc t ps sn i S fun j q=>hj j S];have h:=hj i (Nat.lt_succ_self i);unfold tAt at h;rw[cM]at h;have e:ps.drop i=ps.getD i 0::ps.drop (i+1):=by
   rw[ax,au S,cA,<- bC]
  rw[e]
  conv=>lhs;unfold nL
  rw[aD (DK h.1),show zG rc ps sn (i+1)=if gQ (zG rc ps sn i) (ps.getD i 0)=true then zG rc ps sn i else(rc (ps.getD i 0) (jQ (ps.getD i 0) (zG rc ps sn i))).2 from rfl];by_cases hs:gQ (zG rc ps sn i) (ps.getD i 0)=true
  . rw[aF hs,aF hs]
  . have C:=h.2;rw[show gQ (zG rc ps sn i) (ps.getD i 0)=false by simpa using hs]at C;rw[aD hs,aD hs,aD (by simpa using C)]
theorem Ou{rc:Int->Sn->Bool×Sn}{t:Int}{ps:List Int}{i:Nat}{s:Sn}(h:i<ps.length):nL rc t (ps.drop i) s=nL rc t (ps.getD i 0::ps.drop (i+1)) s:=by
 congr 1;rw[ax,au h,cA,<- bC]
theorem Jx(d:Dc)(O:List (Eng.D×Eng.D))(f:Nat)(t:Int)(nx:Int->List Int)(TA:∀x n,jq d.ly x=some n->lU f [R x] d O (fD (nx x)))(hln:∀x,(nx x).length<=1000000)(vN:∀x n,jq d.ly x=some n->∀k∈nx x,∃m,jq d.ly k=some m)
  (hf:f=95\/f=46) (hb:List Int) (hU:∀k m,jq d.ly k=some m->k∈hb):
  ∀(n:Nat) (x:Int) (m:Nat) (sn:Sn),jq d.ly x=some m->ru sn->BO hb sn<n->aab d O f t x sn (ov nx t n x sn).2 (ov nx t n x sn).1:=by
 intro n
 induction n with
 |zero=>intro x m sn _ _ h;exact absurd h (bE _)
 |succ n ih=>
  intro x m sn L hs hu;have hN:=TA x m L;have hC2:=vN x m L;have hl:=hln x;have eD:ov nx t (n+1) x sn=nL (ov nx t n) t (nx x) sn:=rfl;rw[eD];generalize nx x=ps at *;generalize hrc:ov nx t n=rc at *;have afK:∀k s y,gQ s y=true->gQ (rc k s).2 y=true:=fun k s y h=>by rw[<- hrc];exact sS nx t n k s y h
  have afL:∀k s,ru s->ru (rc k s).2:=fun k s h=>by rw[<- hrc];exact Ft nx t n k s h
  have hS:∀i,ru (zG rc ps sn i)/\BO hb (zG rc ps sn i)<=BO hb sn:=fun i=>by
   induction i with
   |zero=>exact⟨hs,aK _⟩
   |succ i ihi=>
    rw[show zG rc ps sn (i+1)=if gQ (zG rc ps sn i) (ps.getD i 0)=true then zG rc ps sn i else(rc (ps.getD i 0) (jQ (ps.getD i 0) (zG rc ps sn i))).2 from rfl];split
    . exact ihi
    . exact⟨afL _ _ (ihi.1.mark _),bN (Ln fun y hy=>afK _ _ _ (by rw[ou,hy,dg])) ihi.2⟩
  refine clT (fN 1 (be _) (apM d O f t x sn) all_nil ?_);have start:∀Q,(∀T,eJ ak 7 Tryz.f97.ntmps T (sC d O f t ps 0 sn [])->Q .normal T)->TG ak 7 Tryz.f97.ntmps (dO (dO (dH 1 Ot))) (dI (aC x) (hC d O f t sn) 7) Q:=fun Q hQ=>by
   rcases hf with rfl|rfl
   . exact gw (lE hN (be _)) eP (aac d O t x sn ps) (dK (g0 ⟨X rfl (X rfl (eO rfl)),fun T eu=>hQ T (eJ.norm eu)⟩))
   . exact gw (lE hN (be _)) eP (afI d O t x sn ps) (dK (g0 ⟨X rfl (X rfl (eO rfl)),fun T eu=>hQ T (eJ.norm eu)⟩))
  refine dY dJ (dY dJ (start _ fun T eu=>?_));simp only[andThen];refine je 0 ps.length (fun i=>sC d O f t ps i (zG rc ps sn i) []) (tAt rc t ps sn) eu (fun i hi hj Q' k1 k2 k3=>?_) (fun AW T eu=>?_)
  . have nJ:=GY rc t ps sn i hi hj;obtain⟨hT,hUn⟩:=hS i;rcases bx i ps.length with q|q
    . rw[Ou q]at nJ;have hg:=fP (l:=ps) q;have hkm:ps.getD i 0∈ps:=by rw[ax,au q];exact bV q
      obtain⟨mk,hmk⟩:=hC2 _ hkm;have htA:tAt rc t ps sn i=((ps.getD i 0==t)||(!gQ (zG rc ps sn i) (ps.getD i 0)&&(rc (ps.getD i 0) (jQ (ps.getD i 0) (zG rc ps sn i))).1)):=rfl;have hsA:zG rc ps sn (i+1)=if gQ (zG rc ps sn i) (ps.getD i 0)=true then zG rc ps sn i else(rc (ps.getD i 0) (jQ (ps.getD i 0) (zG rc ps sn i))).2:=rfl
      generalize ps.getD i 0=k at *;generalize zG rc ps sn i=s at *;have b0:V.bool (decide (Int.ofNat i<Int.ofNat ps.length))=V.bool true:=aG V.bool (aW (cE.2 q));have b1:=iI q;by_cases h1:k=t
      . refine gw (be _) (fun a b c=>a= .bool (nL rc t ps sn).1/\b=hC d O f t (nL rc t ps sn).2/\c=7) (aad d O f t s ps i k) (dK (g0 ⟨X b0 (X b1 (X (eI ps) (X hg (eO (aG V.bool (xJ.2 h1)))))),⟨?_,?_,rfl⟩,k3⟩))
        . rw[nJ];unfold nL;rw[aF h1]
        . rw[nJ];unfold nL;rw[aF h1]
      . have b2:V.bool (k==t)=V.bool false:=aG V.bool (by simpa using h1);by_cases C:gQ s k=true
        . obtain⟨v,hv⟩:=bR.1 C;have hvt:=hT k v hv;subst hvt;refine gw (be _) eP (aae d O f t s ps i k) (dK (g0 ⟨X b0 (X b1 (X (eI ps) (X hg (X b2 (X (by rw[hv];rfl) (eO (gV S))))))),fun T eu=>k1 q (by rw[htA,C];simpa using h1) T ?_⟩));show eJ _ _ _ _ (sC d O f t ps (i+1) (zG rc ps sn (i+1)) []);rw[hsA,aF C];exact eJ.norm eu
        . have AU:gQ s k=false:=by simpa using C
          have Mc:fL (.int .i64 k) s=none:=by unfold gQ at AU;simpa using AU
          have fj:=RZ (hU k mk hmk) AU;have A:=ih k mk (jQ k s) hmk (hT.mark k) S;have h2:=X b0 (X b1 (X (eI ps) (X hg (X b2 (X (show(if false=true then V.gK [D.kV (V.bool false) (fL (.int .i64 k) s),V.bool (fL (.int .i64 k) s).isSome]else D.kV (V.bool false) (fL (.int .i64 k) s))=V.bool false by rw[Mc];rfl) (X (show aC k=aC k from rfl) (X (show hC d O f t (jQ k s)=hC d O f t (jQ k s)from rfl) (eO (show(7:Nat)=7 from rfl)))))))));have C2:=X b0 (X b1 (X (eI ps) (X hg (X b2 (X (show(if false=true then V.gK [D.kV (V.bool false) (fL (.int .i64 k) s),V.bool (fL (.int .i64 k) s).isSome]else D.kV (V.bool false) (fL (.int .i64 k) s))=V.bool false by rw[Mc];rfl) (X (show aC k=aC k from rfl) (X (show hC d O f t (jQ k s)=hC d O f t (jQ k s)from rfl) (X (show(7:Nat)=7 from rfl) (eO (show V.int .i64 (IntKind.i64.wrap (Int.ofNat i+(1:Int)))=J (i+1)from gV S))))))))));refine gw (fq A (be _)) (fun a b c=>a= .bool (nL rc t ps sn).1/\b=hC d O f t (nL rc t ps sn).2/\c=7) (aaf d O f t s (rc k (jQ k s)).2 ps i k (rc k (jQ k s)).1) (dN (g1 fun h3=>⟨h2,⟨?_,?_,rfl⟩,k3⟩) (dK (g1 fun h3=>⟨C2,fun T eu=>k1 q (by rw[htA,AU,h3];simpa using h1) T ?_⟩)))
          . rw[nJ];unfold nL;rw[aD h1,aD C,aF h3]
          . rw[nJ];unfold nL;rw[aD h1,aD C,aF h3]
          . show eJ _ _ _ _ (sC d O f t ps (i+1) (zG rc ps sn (i+1)) []);rw[hsA,aD C];exact eJ.norm eu
    . obtain rfl:i=ps.length:=by omega
      exact gw (be _) eP (aag d O f t _ ps _) (dK (g0 ⟨eO (aG V.bool (aX (by simp only[gD];omega))),fun T eu=>k2 rfl T (eJ.norm eu)⟩))
  simp only[andThen];have nJ:=GY rc t ps sn ps.length (aK _) AW;rw[List.drop_length]at nJ;refine eu _ _ (eR (be _) (aah d O f t _ ps ps.length) (dK (g0 ⟨all_nil,_,_,_,rfl,?_,?_,rfl⟩)))
  . rw[nJ];rfl
  . rw[nJ];rfl
set_option maxRecDepth 10000
def sRy(d:Dc)(O:List (Eng.D×Eng.D))(f:Nat)(t x:Int)(o:es):St:=fI [(1,R x),(10,.ptr (some (2,0)))] (hL [(0,.cells (d.cs++[.map (some 1)])),(1,.gL (some .i64) O),(2,.cells [.fn (.func 97) [] [.ptr (some (3,0)),.ptr (some (4,0)),.ptr (some (5,0)),.ptr (some (2,0))]]),(3,.cells [.fn (.func f) [pT] []]),(4,.cells [R t]),(5,.cells [.map (some 6)]),(6,o)]) 7
theorem aai(d:Dc)(O:List (Eng.D×Eng.D))(f:Nat)(x t:Int):H (M ew []) [] 2 Tryz.f45 [1,10] (ek 4 afH) (dI [pT,R x,R t,.fn (.func f) [pT] []] (kT d O) 2) [([],[],eC (sRy d O f t x (.map [] 0)))]:=G.Y
theorem aaj(d:Dc)(O:List (Eng.D×Eng.D))(f:Nat)(x t:Int)(Lm:List (Eng.D×Eng.D))(b:Bool):H (M (jC 97 (nG (Vd d O f t x [] Lm b)) ew) []) [] 2 Tryz.f45 [] (dH 4 afH) (sRy d O f t x (.gL (some .i64) [])) [([],[[V.int B x,V.ptr (some (0,0)),V.ptr (some (3,0)),V.ptr (some (4,0)),V.ptr (some (6,0))]=aC x,((((((I.nil.set 0 (some (es.cells [V.fn (Fn.func f) [V.ptr (some (1,0))] []]))).set 1 (some (es.cells [V.eM false d.sp.length (lj d.sp),V.int B d.root,V.int B d.nx,V.eM false d.ly.length (fR d.ly),V.map (some 2)]))).set 2 (some (es.gL (some B) O))).set 3 (some (es.cells [V.int B t]))).set 4 (some (es.cells [V.map (some 5)]))).set 5 (some (es.gL (some B) []))).set 6 (some (es.cells [V.fn (Fn.func (97:FuncId)) [] [V.ptr (some (0,0)),V.ptr (some (3,0)),V.ptr (some (4,0)),V.ptr (some (6,0))]]))=hC d O f t [],7=7],.ret (.bool b) (kT d O) 2)]:=G.Y
abbrev fnT(f:Nat):V:=.fn (.func f) [pT] []
theorem zb(d:Dc)(O:List (Eng.D×Eng.D))(f:Nat)(t x:Int)(Lm:Sn)(b:Bool)(hC:aab d O f t x [] Lm b):lU 45 [R x,R t,fnT f] d O (.bool b):=by
 refine DL Tryz.func45 (fN 4 (be _) (aai d O f x t) all_nil ?_);refine eJ.map [(6,some .i64)] (dF:=sRy d O f t x (.gL (some .i64) [])) dJ _ _ ?_;exact eR (fq hC (be _)) (aaj d O f x t Lm b) (dK (g0 ⟨X rfl (X rfl (eO rfl)),_,_,_,rfl,rfl,rfl,rfl⟩))
theorem R1:ru []:=fun _ _ h=>by cases h
theorem Jy(d:Dc)(O:List (Eng.D×Eng.D))(K:uF d O)(hd:D5 d)(A:Clo d.ly)(t x:Int){n:Nat}(hn:jq d.ly x=some n):∃b,lU 45 [R x,R t,fnT 95] d O (.bool b)/\(b=true↔Bp (gB d.ly false) x t):=by
 have wm:∀y m,jq d.ly y=some m->gB d.ly false y=gp (d.at m):=fun y m h=>by
  unfold gB;rw[h];simp only[aM,false_and,cI,c5];rfl
 have hln:∀y,(gB d.ly false y).length<=1000000:=fun y=>by
  cases h:jq d.ly y with
  |none=>rw[DH h];exact aR _
  |some m=>
   rw[wm y m h];obtain⟨_,_,L⟩:=iG h;unfold gp;split
   . simp
   . exact hd.kids _ L
 have vN:∀y m,jq d.ly y=some m->∀k∈gB d.ly false y,∃j,jq d.ly k=some j:=fun y m h k hk=>by
  rw[wm y m h]at hk;obtain⟨_,_,L⟩:=iG h;exact A _ L k hk
 have hU:=fun y=>(lS d.ly false y).1;have hN:∀y m,jq d.ly y=some m->lU 95 [R y] d O (fD (gB d.ly false y)):=fun y m h=>by rw[wm y m h];exact xN K h
 have:=Jx d O 95 t (gB d.ly false) hN hln vN (.inl rfl) (d.ly.map (·.id)) (fun k m h=>by
  obtain⟨_,hid,L⟩:=iG h;exact bP.2 ⟨_,L,hid⟩) ((d.ly.map (·.id)).length+(fW d.ly).length+1) x n [] hn R1 (Nat.lt_of_le_of_lt (List.length_filter_le ..) S)
 exact⟨_,zb d O 95 t x _ _ this,MC hU S x⟩
set_option maxRecDepth 10000
noncomputable abbrev Ve:Code:=dQ Tryz.f20
noncomputable abbrev bPn:Code:=dP (dP (eB (dO (dH 1 Ve))))
def sPn(d:Dc)(id:Int)(i:Nat):St:=fI [(1,R id),(2,.ptr (some (0,0))),(11,.eM false d.ly.length (fR d.ly)),(12,J d.ly.length),(13,J i)] (hL [(0,.cells d.cs)]) 1
theorem apP(d:Dc)(id:Int):H (M ew []) [] 0 Tryz.f20 [1,2] (ek 1 Ve) (dI [d.v,R id] .nil 0) [([],[],eC (fI [(1,.int .i64 id),(2,.ptr (some (0,0)))] (hL [(0,.cells [.eM false (d.sp.length) (lj d.sp),.int .i64 (d.root),.int .i64 (d.nx),.eM false (d.ly.length) (fR d.ly)])]) 1))]:=G.Y
theorem apQ(d:Dc)(id:Int):H (M ew []) [] 0 Tryz.f20 [1,2,11,12,13] (dO (dO (dH 1 Ve))) (fI [(1,R id),(2,.ptr (some (0,0)))] (hL [(0,.cells d.cs)]) 1) [([],[],eC (sPn d id 0))]:=G.Y
abbrev R2(id:Int)(x:eV):Prop:=V.jj ([]++[D.kx._f (D.eM x.kids.length (eL x.kids)) (D.rec_1 (fun b=>⟨D.kx._f (D.bool b) PUnit.unit,PUnit.unit⟩) (fun k n=>⟨D.kx._f (D.int k n) PUnit.unit,PUnit.unit⟩) (fun s=>⟨D.kx._f (D.str s) PUnit.unit,PUnit.unit⟩) (fun n cs Jz=>⟨D.kx._f (D.eM n cs) Jz,Jz⟩) (fun cs Jz=>⟨D.kx._f (D.agg cs) Jz,Jz⟩) ⟨D.gk._f [] PUnit.unit,PUnit.unit⟩ (fun head tail MD ME=>⟨D.gk._f (head::tail) ⟨MD,ME⟩,MD,ME⟩) (eL x.kids)),R id]++[])=[fD x.kids,R id]
abbrev aam(i:Nat):Prop:=V.int B (IntKind.i64.wrap (Int.ofNat i+(1:Int)))=J (i+1)
theorem apR(d:Dc)(id:Int)(i:Nat)(x:eV)(a:Int):H (M (fa 49 [fD x.kids,R id] (R a) ew) []) [(14,.dL (.bool true)),(15,.dL (.eo x.ds)),(23,.split),(26,.split),(31,.dL (J (i+1)))] 0 Tryz.f20 [1,2,11,12,13] (bPn) (sPn d id i) (BJ (x.kd==(2:Int)) (decide (a>=(0:Int))) ([kr (decide (Int.ofNat i<Int.ofNat d.ly.length)),fT i d.ly.length,nK d.ly,gv (fR d.ly) i 31 x.ds,R2 id x],.ret (.gK [.int .i64 (x.id),.int .i64 a,.bool true]) (hL []) 0) ([kr (decide (Int.ofNat i<Int.ofNat d.ly.length)),fT i d.ly.length,nK d.ly,gv (fR d.ly) i 31 x.ds,R2 id x,aam i],eC (sPn d id (i+1)))):=G.Y
theorem apS(d:Dc)(id:Int)(i:Nat):H (M ew []) [(14,.dL (.bool false))] 0 Tryz.f20 [1,2,11,12,13] (bPn) (sPn d id i) [([],[kP (decide (Int.ofNat i<Int.ofNat d.ly.length))],.to (.exit 0) (sPn d id i))]:=G.Y
theorem apT(d:Dc)(id:Int)(i:Nat):H (M ew []) [] 0 Tryz.f20 [] (eB (dH 1 Ve)) (sPn d id i) [([],[],.ret (.gK [.int .i64 0,.int .i64 0,.bool false]) (hL []) 0)]:=G.Y
noncomputable abbrev Vf:Code:=dQ Tryz.f49
noncomputable abbrev bIy:Code:=dP (dP (eB (dO (dH 1 Vf))))
def sIy(l:List Int)(k:Int)(i:Nat):St:=fI [(0,fD l),(1,R k),(7,J l.length),(8,J i)] (hL []) 0
theorem apU(l:List Int)(k:Int):H (M ew []) [] 0 Tryz.f49 [0,1] (ek 1 Vf) (dI [fD l,R k] .nil 0) [([],[],eC (dI [fD l,R k] .nil 0))]:=G.Y
theorem apV(l:List Int)(k:Int):H (M ew []) [] 0 Tryz.f49 [0,1,7,8] (dO (dO (dH 1 Vf))) (dI [fD l,R k] .nil 0) [([],[],eC (sIy l k 0))]:=G.Y
theorem apW(l:List Int)(k x:Int)(i:Nat):H (M ew []) [(9,.dL (.bool true)),(14,.dL (.eo [.int .i64 x])),(16,.split),(18,.dL (J (i+1)))] 0 Tryz.f49 [0,1,7,8] (bIy) (sIy l k i) (fV (k==x) ([kr (decide (Int.ofNat i<Int.ofNat l.length)),fT i l.length,jo l,gv (eL l) i 1 [D.int B x]],.ret (.int .i64 (Int.ofNat i)) (hL []) 0) ([kr (decide (Int.ofNat i<Int.ofNat l.length)),fT i l.length,jo l,gv (eL l) i 1 [D.int B x],oq i],eC (sIy l k (i+1)))):=G.Y
theorem apX(l:List Int)(k:Int)(i:Nat):H (M ew []) [(9,.dL (.bool false))] 0 Tryz.f49 [0,1,7,8] (bIy) (sIy l k i) [([],[kP (decide (Int.ofNat i<Int.ofNat l.length))],.to (.exit 0) (sIy l k i))]:=G.Y
theorem apY(l:List Int)(k:Int)(i:Nat):H (M ew []) [] 0 Tryz.f49 [] (eB (dH 1 Vf)) (sIy l k i) [([],[],.ret (.int .i64 (-1)) (hL []) 0)]:=G.Y
set_option maxRecDepth 10000
def J0(l:List Int)(k:Int):Int:=match l.findIdx? (. ==k)with
 |some i=>Int.ofNat i
 |none=> -1
theorem Lo{l:List Int}{k:Int}{i:Nat}(hi:i<l.length)(h:l.getD i 0=k)(hj:∀j,j<i->l.getD j 0≠k):l.findIdx? (. ==k)=some i:=by
 rw[bW];refine⟨hi,?_,fun j q=>?_⟩
 . rw[ax,au hi]at h;simpa using h
 . have:=hj j q;rw[ax,au S]at this;simpa using this
theorem Lp{l:List Int}{k:Int}(hj:∀j,j<l.length->l.getD j 0≠k):l.findIdx? (. ==k)=none:=by
 rw[cH];intro x K;obtain⟨j,zB,rfl⟩:=ck K;have:=hj j zB;rw[ax,au zB]at this;simpa using this
theorem apZ(l:List Int)(k:Int)(hl:l.length<=1000000):ee ak 49 [fD l,R k] (R (J0 l k)):=by
 refine fc Tryz.func49 (fN 1 (be _) (apU l k) all_nil ?_);refine dY dJ (dY dJ (gw (be _) eP (apV l k) (dK (g0 ⟨all_nil,fun T eu=>?_⟩))));simp only[andThen];refine je 0 l.length (fun i=>sIy l k i) (fun i=>k==l.getD i 0) (eJ.norm eu) (fun i hi hj Q' k1 k2 k3=>?_) (fun h1 T eu=>?_)
 . rcases bx i l.length with q|q
   . have b0:V.bool (decide (Int.ofNat i<Int.ofNat l.length))=V.bool true:=aG V.bool (aW (cE.2 q));refine gw (be _) (fun u _ _=>u=R (J0 l k)) (apW l k (l.getD i 0) i) (dN (g1 fun h=>⟨X b0 (X (iI q) (X (eI l) (eO (fP q)))),?_,k3⟩) (dK (g1 fun h=>⟨X b0 (X (iI q) (X (eI l) (X (fP q) (eO (gV S))))),fun T eu=>k1 q h T (eJ.norm eu)⟩)));have:J0 l k=Int.ofNat i:=by
      unfold J0;rw[Lo q (xJ.1 h).symm fun j W8 e=>DK (hj j W8) e.symm]
     rw[this]
   . obtain rfl:i=l.length:=by omega
     exact gw (be _) eP (apX l k _) (dK (g0 ⟨eO (aG V.bool (aX (by simp only[gD];omega))),fun T eu=>k2 rfl T (eJ.norm eu)⟩))
 simp only[andThen];refine eu _ _ (eR (be _) (apY l k _) (dK (g0 ⟨all_nil,_,_,_,rfl,?_⟩)));have:J0 l k= -1:=by
  unfold J0;rw[Lp fun j hj e=>DK (h1 j hj) e.symm]
 rw[this]
def Vg:Option (Int×Nat)->V
 |some (i,j)=>.gK [R i,J j,.bool true]
 |none=>.gK [R 0,R 0,.bool false]
def tPn(d:Dc)(id:Int)(i:Nat):Bool:=((d.at i).kd==2)&&decide (J0 (d.at i).kids id>=0)
theorem Vh{l:List Int}{k:Int}(h:¬J0 l k>=0):l.findIdx? (. ==k)=none:=by
 unfold J0 at h;cases e:l.findIdx? (. ==k)with
 |none=>rfl
 |some i=>rw[e]at h;exact absurd (bJ i) h
theorem Lq{d:Dc}{id:Int}:∀i,i<=d.ly.length->(∀j,j<i->tPn d id j=false)->jN d.ly id=jN (d.ly.drop i) id
 |0,_,_=>rfl
 |i+1,hi,hj=>by
  rw[Lq i S fun j q=>hj j S,Az S];have h:=hj i (Nat.lt_succ_self i);unfold tPn at h;change (((d.ly.getD i gM).kd==2)&&decide (J0 (d.ly.getD i gM).kids id>=0))=false at h;generalize d.ly.getD i gM=x at *;have e:(if x.kd=2 then x.kids.findIdx? (. ==id)else none)=none:=by
   split
   . rename_i C;rw[xJ.2 C,aP,bu]at h;exact Vh h
   . rfl
  rw[e]
theorem Xj(d:Dc)(id:Int)(hd:D5 d):ee ak 20 [d.v,R id] (Vg (jN d.ly id)):=by
 have hv:(Vg (jN d.ly id)).deep=true:=by
  cases jN d.ly id with
  |none=>rfl
  |some q=>rfl
 refine fc (hv:=hv) Tryz.func20 (fN 1 (be _) (apP d id) all_nil ?_);refine dY dJ (dY dJ (gw (be _) eP (apQ d id) (dK (g0 ⟨all_nil,fun T eu=>?_⟩))));simp only[andThen];have Ay:=hd.ly;refine je 0 d.ly.length (fun i=>sPn d id i) (tPn d id) (eJ.norm eu) (fun i hi hj Q' k1 k2 k3=>?_) (fun h1 T eu=>?_)
 . rcases bx i d.ly.length with q|q
   . have b0:V.bool (decide (Int.ofNat i<Int.ofNat d.ly.length))=V.bool true:=aG V.bool (aW (cE.2 q));have hA:V.eo (dU (fR d.ly) (i*31) 31)= .eo (d.at i).ds:=ik q;have hp:=Lq i hi hj;have wo:=Az q id;change jN (d.ly.drop i) id=match(if(d.at i).kd=2 then(d.at i).kids.findIdx? (. ==id)else none)with
      |some j=>some ((d.at i).id,j)
      |none=>jN (d.ly.drop (i+1)) id at wo
     have ht:tPn d id i=(((d.at i).kd==2)&&decide (J0 (d.at i).kids id>=0)):=rfl;have hk:=hd.at q;change (d.at i).kids.length<=1000000 at hk;generalize d.at i=x at *;have h2:=X b0 (X (iI q) (X (fS d.ly) (X hA (eO (show fG [fD x.kids,R id]from rfl)))));have C2:=X b0 (X (iI q) (X (fS d.ly) (X hA (X (show fG [fD x.kids,R id]from rfl) (eO (show V.int .i64 (IntKind.i64.wrap (Int.ofNat i+(1:Int)))=J (i+1)from gV S))))));refine gw (ff (apZ x.kids id hk) (be _)) (fun u _ _=>u=Vg (jN d.ly id)) (apR d id i x (J0 x.kids id)) (dN (g2 fun h1 C=>⟨h2,?_,k3⟩) (dN (g2 fun h1 C=>⟨C2,fun T eu=>k1 q (by rw[ht,C,cJ]) T (eJ.norm eu)⟩) (dK (g1 fun h1=>⟨C2,fun T eu=>k1 q (by rw[ht,h1,aT]) T (eJ.norm eu)⟩))));rw[hp,wo,aF (xJ.1 h1)];cases e:x.kids.findIdx? (. ==id)with
     |some j=>
      have:J0 x.kids id=Int.ofNat j:=by unfold J0;rw[e]
      rw[this];rfl
     |none=>
      have:J0 x.kids id= -1:=by unfold J0;rw[e]
      rw[this]at C;exact absurd C fg
   . obtain rfl:i=d.ly.length:=by omega
     exact gw (be _) eP (apS d id _) (dK (g0 ⟨eO (aG V.bool (aX (by simp only[gD];omega))),fun T eu=>k2 rfl T (eJ.norm eu)⟩))
 simp only[andThen];have hp:=Lq d.ly.length (aK _) h1;rw[List.drop_length]at hp;refine eu _ _ (eR (be _) (apT d id _) (dK (g0 ⟨all_nil,_,_,_,rfl,?_⟩)));rw[hp];rfl
set_option maxRecDepth 10000
noncomputable abbrev MF:Code:=dQ Tryz.f46
def afM(d:Dc)(O:List (Eng.D×Eng.D))(id:Int)(x:eV):St:=fI [(0,pT),(1,R id),(5,.ptr (some (2,0)))] (hL [(0,.cells (d.cs++[.map (some 1)])),(1,.gL (some .i64) O),(2,.cells x.cs)]) 3
theorem afN(d:Dc)(O:List (Eng.D×Eng.D))(id:Int)(x:eV):H (M (o6 44 [R id] d O (.gK [x.v,.bool true]) ew) []) [] 2 Tryz.f46 [0,1,5] (ek 2 MF) (dI [pT,R id] (kT d O) 2) [([],[[V.ptr (some (0,0)),V.int B id]=[pT,R id],(I.nil.set 0 (some (es.cells [V.eM false d.sp.length (lj d.sp),V.int B d.root,V.int B d.nx,V.eM false d.ly.length (fR d.ly),V.map (some 1)]))).set 1 (some (es.gL (some B) O))=kT d O,2=2],eC (afM d O id x))]:=G.Y
theorem afO(d:Dc)(O:List (Eng.D×Eng.D))(id:Int)(x:eV)(ps:List Int):H (M (o6 95 [R id] d O (fD ps) ew) []) [(20,.split)] 2 Tryz.f46 [0,1] (dO (dH 2 MF)) (afM d O id x) (fV (x.kd !=(3:Int)) ([[V.ptr (some (0,0)),V.int B id]=[pT,R id],(I.nil.set 0 (some (es.cells [V.eM false d.sp.length (lj d.sp),V.int B d.root,V.int B d.nx,V.eM false d.ly.length (fR d.ly),V.map (some 1)]))).set 1 (some (es.gL (some B) O))=kT d O,2=2],.ret (.eM false (ps.length) (eL ps)) (kT d O) 2) ([],eC (fI [(0,pT),(1,R id)] (kT d O) 2))):=G.Y
theorem afP(d:Dc)(O:List (Eng.D×Eng.D))(id g:Int)(j:Nat):H (M (fa 20 [d.v,R id] (.gK [R g,J j,.bool true]) ew) []) [] 2 Tryz.f46 [0,7,8] (ek 1 (eB (dH 2 MF))) (fI [(0,pT),(1,R id)] (kT d O) 2) [([],[V.jj ([]++[V.agg (List.take 4 (List.drop 0 (d.cs++[V.map (some 1)]))),R id]++[])=[d.v,R id]],eC (fI [(0,pT),(7,R g),(8,J j)] (kT d O) 2))]:=G.Y
theorem afQ(d:Dc)(O:List (Eng.D×Eng.D))(g:Int)(j:Nat)(y:eV):H (M (o6 44 [R g] d O (.gK [y.v,.bool true]) ew) []) [] 2 Tryz.f46 [] (dH 1 (eB (dH 2 MF))) (fI [(0,pT),(7,R g),(8,J j)] (kT d O) 2) [([],[[V.ptr (some (0,0)),V.int B g]=[pT,R g],(I.nil.set 0 (some (es.cells [V.eM false d.sp.length (lj d.sp),V.int B d.root,V.int B d.nx,V.eM false d.ly.length (fR d.ly),V.map (some 1)]))).set 1 (some (es.gL (some B) O))=kT d O,2=2,jo y.kids,(0:Int)<=Int.ofNat j/\Int.ofNat j<=(Int.ofNat y.kids.length)],.ret (.eM false (j-0) (dU (eL y.kids) 0 ((j-0)*1))) (kT d O) 2)]:=G.Y
set_option maxRecDepth 10000
def R3(d:Dc):Prop:=∀x∈d.ly,x.kd=3->gp x=[]/\∃g j m,jN d.ly x.id=some (g,j)/\jq d.ly g=some m/\j<=(d.at m).kids.length
theorem JA{d:Dc}{O:List (Eng.D×Eng.D)}(h:uF d O)(hd:D5 d)(ha:R3 d){id:Int}{n:Nat}(hn:jq d.ly id=some n):lU 46 [R id] d O (fD (gB d.ly true id)):=by
 have hL:=kR h hn;have hP:=xN h hn;obtain⟨fj,hid,oJ⟩:=iG hn;have hA:=ha _ oJ;rw[hid]at hA;have wm:gB d.ly true id=gp (d.at n)++(if true=true/\(d.at n).kd=3 then iT d.ly id else[]):=by unfold gB;rw[hn];rfl
 change ((d.at n).kd=3->gp (d.at n)=[]/\_)at hA;generalize d.at n=x at *;refine DL Tryz.func46 (fN 2 (lE hL (be _)) (afN d O id x) (X rfl (X rfl (eO rfl))) ?_);refine qm (lE hP (be _)) (fun a b c=>a=fD (gB d.ly true id)/\b=kT d O/\c=2) (afO d O id x (gp x)) (dN (g1 fun h1=>⟨X rfl (X rfl (eO rfl)),⟨?_,rfl,rfl⟩,fun _ h=>h⟩) (dK (g1 fun h1=>⟨all_nil,?_⟩)))
 . rw[wm,aD (fun q=>(by rw[q.2]at h1;cases h1)),c5]
 . have h3:x.kd=3:=by simpa using h1
   obtain⟨hp0,g,j,m,Uf,L,hj⟩:=hA h3;have hG:=kR h L;have U:iT d.ly id=(d.at m).kids.take j:=by unfold iT;rw[Uf];simp only;rw[L];rfl
   have hF:=Xj d id hd;rw[Uf]at hF;generalize d.at m=y at *;refine fN 1 (ff hF (be _)) (afP d O id g j) (eO rfl) ?_;refine eR (lE hG (be _)) (afQ d O g j y) (dK (g0 ⟨X rfl (X rfl (X rfl (X (eI _) (eO ⟨bJ _,by simp only[gD];omega⟩)))),_,_,_,rfl,?_,rfl,rfl⟩));rw[wm,hp0,bG,aF ⟨rfl,h3⟩,U];have e:dU (eL y.kids) 0 ((j-0)*1)=eL (y.kids.take j):=by
    unfold dU eL;rw[dz,cR,bA,dh]
   have e2:j-0=(y.kids.take j).length:=by rw[bf];omega
   rw[e,e2]
set_option maxRecDepth 10000
theorem GZ(d:Dc)(O:List (Eng.D×Eng.D))(K:uF d O)(hd:D5 d)(A:Clo d.ly)(ha:R3 d)(hk:∀x∈d.ly,∀k∈x.kids,∃n,jq d.ly k=some n)(hn:(fW d.ly).length<=10000)(t x:Int){n:Nat}(hx0:jq d.ly x=some n):
  ∃b,lU 45 [R x,R t,fnT 46] d O (.bool b)/\(b=true↔Bp (gB d.ly true) x t):=by
 have hln:∀y,(gB d.ly true y).length<=1000000:=fun y=>by
  have:=(lS d.ly true y).2;omega
 have vN:∀y m,jq d.ly y=some m->∀k∈gB d.ly true y,∃j,jq d.ly k=some j:=fun y m h k hq=>by
  obtain⟨_,_,L⟩:=iG h;unfold gB at hq;rw[h]at hq;rcases bj.1 hq with q|q
  . exact A _ L k q
  . split at q
    . unfold iT at q;split at q
      . split at q
        . rename_i m2 C;obtain⟨_,_,Te⟩:=iG C;exact hk _ Te k (cK q)
        . cases q
      . cases q
    . cases q
 have hU:=fun y=>(lS d.ly true y).1;have:=Jx d O 46 t (gB d.ly true) (fun y m h=>JA K hd ha h) hln vN (.inr rfl) (d.ly.map (·.id)) (fun k m h=>by
  obtain⟨_,hid,L⟩:=iG h;exact bP.2 ⟨_,L,hid⟩) ((d.ly.map (·.id)).length+(fW d.ly).length+1) x n [] hx0 R1 (Nat.lt_of_le_of_lt (List.length_filter_le ..) S)
 exact⟨_,zb d O 46 t x _ _ this,MC hU S x⟩
set_option maxRecDepth 10000
theorem jz.ap0{d:Dc}(h:jz d):∀j i,i<j->j<d.ly.length->(d.at i).id<(d.at j).id:=by
 have U:=(sP h.w).2.2.1;intro j
 induction j with
 |zero=>intro i h;exact absurd h (bE _)
 |succ j ih=>
  intro i Pz hj;have h1:=U (j+1) hj;unfold tS at h1;rw[cM,bu,show vu d (j+1)=(d.at j).id from rfl]at h1;rcases bx i j with q|q
  . have:=ih i q S;omega
  . obtain rfl:i=j:=by omega
    omega
theorem jz.uniq{d:Dc}(h:jz d):Jh d.ly:=by
 unfold Jh;rw[List.nodup_iff_pairwise_ne,List.pairwise_iff_getElem];intro i j hi hj Pz;rw[bM]at hi hj;have:=h.ap0 j i Pz hj;unfold Dc.at at this;rw[ax,ax,au hi,au hj]at this;simp only[cA]at this;rw[List.getElem_map,List.getElem_map];omega
theorem Cb{n:Nat}{l:eV}(h:wB n l=0):bk l=false/\qY l.nm=true/\ba l (cD (fK l.ig))=false/\HF l=true/\bp l (Bn l.pl)=false/\bs n l=false/\bc l (cD (fK l.gx)) (iV l.f) (kf l.gA)=false:=by
 unfold wB K9 at h;split at h
 . exact absurd h fg
 rename_i h1;split at h
 . exact absurd h fg
 rename_i C;split at h
 . exact absurd h fg
 rename_i h3;split at h
 . exact absurd h fg
 rename_i h4;split at h
 . exact absurd h fg
 rename_i h5;split at h
 . exact absurd h fg
 rename_i h6;split at h
 . exact absurd h fg
 rename_i h7;exact⟨by simpa using h1,by simpa using C,by simpa using h3,by simpa using h4,by simpa using h5,by simpa using h6,by simpa using h7⟩
theorem jz.G0{d:Dc}(h:jz d){x:eV}(K:x∈d.ly)(hk:x.kd≠2):x.kids=[]:=by
 have h1:=(Cb (h.f x K)).2.2.2.1;unfold HF GD at h1;simp only[ay]at h1;have C:=h1.2.2.1;rw[show(x.kd==2)=false by simpa using hk,bX]at C;have h3:Int.ofNat x.kids.length=0:=by simpa[nN]using C
 have h4:x.kids.length=0:=by simp only[gD]at h3;omega
 exact cN.2 h4
theorem Fu:∀{ls:List eV} {k:Int},jN ls k=none->∀x∈ls,x.kd=2->k∉x.kids
 | [],_,_,_,K,_=>by cases K
 |y::ls,k,h,x,K,C=>by
  unfold jN at h;split at h
  . cases h
  . rename_i hq;rcases aA.1 K with rfl|q
    . rw[aF C,cH]at hq;intro hk;have:=hq k hk;simp at this
    . exact Fu h x q C
theorem jz.gm{d:Dc}(h:jz d):R3 d:=fun x K h3=>by
 have Nn:=h.G0 K (by rw[h3];decide);refine⟨by unfold gp;rw[aD (by rw[h3];decide),Nn],?_⟩;have hu:=h.uniq;obtain⟨n,FQ,qQ,Mb⟩:=yW hu K;have R4:x.id≠d.root:=fun e=>by
  have hr:=(sP h.w).2.2.2;unfold mC at hr;rw[<- e,FQ]at hr;simp only at hr;unfold Dc.at at hr;rw[Mb,h3]at hr;cases hr
 have A:=B7 (h.k x K);rw[aD R4]at A;cases hp:jN d.ly x.id with
 |none=>
  exfalso;have:(lD d.ly).count x.id=0:=List.count_eq_zero_of_not_mem fun L=>by
   obtain⟨W,CM,hk⟩:=List.mem_flatten.1 L;obtain⟨z,hz,rfl⟩:=bP.1 CM;by_cases BC:z.kd=2
   . exact Fu hp z hz BC hk
   . rw[h.G0 hz BC]at hk;cases hk
  rw[yZ]at A;omega
 |some q=>
  obtain⟨g,j⟩:=q;obtain⟨y,hy,hyg,_,hj,_⟩:=DF hp;obtain⟨m,US,Te,hm3⟩:=yW hu hy;rw[hyg]at US;refine⟨g,j,m,rfl,US,?_⟩;unfold Dc.at
  rw[hm3];omega
set_option maxRecDepth 10000
theorem ap1(a b:Int):WN ak (M ew []) [] 1000 0 Tryz.f89 (dQ Tryz.f89) (dI [.bool true,R a,R b] .nil 0)
  [([],
   [],
   .ret (.gK []) (hL []) 0)]
 :=⟨dJ,dJ,dJ⟩
theorem MG(a b:Int):ee ak 89 [.bool true,R a,R b] (.gK []):=
 fc Tryz.func89 (Yy (XH (be _) []) mo _ dJ (ap1 a b) (dK (g0 ⟨all_nil,_,_,_,rfl,rfl⟩)))
set_option maxRecDepth 10000
def G1:ag->Option (ah×V)
 | [.int .i64 _]=>some ([],.bool false)
 |_=>none
noncomputable abbrev ap2:gG:=jC 178 (ic G1) ew
theorem ap3(a:Int):H (M ew []) [] 0 Tryz.f178 [] (dQ Tryz.f178) (dI [R a] .nil 0) [([],[],.ret (.bool (a !=a)) (hL []) 0)]:=G.Y
theorem ap4(a b:Int):H (M ap2 []) [] 0 Tryz.f170 [] (dQ Tryz.f170) (dI [R a,R b] .nil 0) [([],[],.ret (.bool (decide (a<b))) (hL []) 0)]:=G.Y
theorem Vi:jM ak 178 (ic G1):=by
 refine nD Tryz.func178 fun args hc v e=>?_;unfold G1 at e;split at e
 case h_2=>cases e
 rename_i n;obtain⟨rfl,rfl⟩:=sm e;exact⟨rfl,rfl,rfl,fun _=>eR (be _) (ap3 n) (dK (g0 ⟨all_nil,_,_,_,rfl,aG V.bool (by simp)⟩))⟩
theorem afR(a b:Int):ee ak 170 [R a,R b] (.bool (decide (a<b))):=
 fc Tryz.func170 (eR (fq Vi (be _)) (ap4 a b) (dK (g0 ⟨all_nil,_,_,_,rfl,rfl⟩)))
set_option maxRecDepth 10000
noncomputable abbrev Vj:Code:=dQ Tryz.f148
noncomputable abbrev bSo:Code:=dP (dP (eB (dO (dH 1 Vj))))
def R5(l:List Int)(j:Nat):St:=fI [(0,fD l),(3,J j)] (hL []) 0
theorem ap5(l:List Int):H (M ew []) [] 0 Tryz.f148 [0] (ek 1 Vj) (dI [fD l] .nil 0) [([],[],eC (dI [fD l] .nil 0))]:=G.Y
theorem ap6(l:List Int)(j:Nat):H (M ew []) [(6,.dL (J j))] 0 Tryz.f148 [0,3] (dO (dO (dH 1 Vj))) (dI [fD l] .nil 0) [([],[V.int B (IntKind.i64.wrap ((Int.ofNat l.length)-(1:Int)))=J j],eC (R5 l j))]:=G.Y
abbrev R6(x y:Int):Prop:=V.jj ([]++[D.kx._f (D.int B x) PUnit.unit,D.kx._f (D.int B y) PUnit.unit]++[])=[R x,R y]
abbrev Lr(j:Nat):Prop:=V.int B (IntKind.i64.wrap (Int.ofNat (j+1)-(1:Int)))=J j
abbrev R7(l:List Int)(j:Nat):Prop:=(0:Int)<=Int.ofNat (j+1)/\Int.ofNat (j+1)<(Int.ofNat l.length)
abbrev R8(l:List Int)(j:Nat)(x:Int):Prop:=V.eo (dU (eL l) ((j+1)*1) 1)=V.eo [D.int B x]
theorem ap7(l:List Int)(j:Nat)(x y:Int)(b:Bool):H (M (fa 170 [R x,R y] (.bool b) ew) []) [(8,.dL (.bool true)),(13,.dL (.eo [.int .i64 x])),(17,.dL (J j)),(18,.dL (.eo [.int .i64 y])),(20,.split),(10,.dL (J j))] 0 Tryz.f148 [0,3] (bSo) (R5 l (j+1)) (fV b ([kr (decide (Int.ofNat (j+1)>(0:Int))),R7 l j,jo l,R8 l j x,Lr j,fT j l.length,jo l,gv (eL l) j 1 [D.int B y],R6 x y],ji) ([kr (decide (Int.ofNat (j+1)>(0:Int))),R7 l j,jo l,R8 l j x,Lr j,fT j l.length,jo l,gv (eL l) j 1 [D.int B y],R6 x y,Lr j],eC (R5 l j))):=G.Y
theorem ap8(l:List Int):H (M ew []) [] 0 Tryz.f148 [0,3] (bSo) (R5 l 0) [([],[],.to (.exit 0) (R5 l 0))]:=G.Y
theorem ap9(l:List Int):H (M ew []) [] 0 Tryz.f148 [] (eB (dH 1 Vj)) (R5 l 0) [([],[],B0)]:=G.Y
set_option maxRecDepth 10000
def Xk(l:List Int)(j:Nat):Bool:=decide (l.getD (j+1) 0<l.getD j 0)
def Bu(l:List Int):Bool:=!((List.range (l.length-1)).any (Xk l))
theorem Vk(l:List Int)(h0:0<l.length)(hl:l.length<=1000000000):ee ak 148 [fD l] (.bool (Bu l)):=by
 refine fc Tryz.func148 (fN 1 (be _) (ap5 l) all_nil ?_);obtain⟨n0,hN⟩:∃n0,l.length=n0+1:=⟨l.length-1,S⟩;have e6:V.int .i64 (IntKind.i64.wrap (Int.ofNat l.length-(1:Int)))=J n0:=aG (V.int .i64) (by rw[hN,show Int.ofNat (n0+1)-1=Int.ofNat n0 by simp only[gD];omega];exact iz (by simp only[gD];omega) (by simp only[gD];omega));have hs:Bu l=!((List.range n0).any (Xk l)):=by unfold Bu;rw[hN];rfl
 refine dY dJ (dY dJ (gw (be _) eP (ap6 l n0) (dK (g0 ⟨eO e6,fun T eu=>?_⟩))));simp only[andThen];refine je 0 n0 (fun i=>R5 l (n0-i)) (fun i=>Xk l (n0-i-1)) (eJ.norm eu) (fun i hi hj Q' k1 k2 k3=>?_) (fun h1 T eu=>?_)
 . rcases bx i n0 with q|q
   . obtain⟨j,zB⟩:∃j,n0-i=j+1:=⟨n0-i-1,S⟩;have e1:n0-(i+1)=j:=by omega
     have ej:n0-i-1=j:=by omega
     have b0:V.bool (decide (Int.ofNat (j+1)>(0:Int)))=V.bool true:=aG V.bool (aW (by simp only[gD];omega));have b2:V.int .i64 (IntKind.i64.wrap (Int.ofNat (j+1)-(1:Int)))=J j:=aG (V.int .i64) (by rw[show Int.ofNat (j+1)-1=Int.ofNat j by simp only[gD];omega];exact iz (by simp only[gD];omega) (by simp only[gD];omega));have OT:j+1<l.length:=by omega
     have h2:=X b0 (X (iI OT) (X (eI l) (X (fP OT) (X b2 (X (iI (show j<l.length by omega)) (X (eI l) (X (fP (show j<l.length by omega)) (eO (show fG [R (l.getD (j+1) 0),R (l.getD j 0)]from rfl)))))))));have C2:=X b0 (X (iI OT) (X (eI l) (X (fP OT) (X b2 (X (iI (show j<l.length by omega)) (X (eI l) (X (fP (show j<l.length by omega)) (X (show fG [R (l.getD (j+1) 0),R (l.getD j 0)]from rfl) (eO b2)))))))));show TG _ _ _ _ (R5 l (n0-i)) _;rw[zB];refine gw (ff (afR (l.getD (j+1) 0) (l.getD j 0)) (be _)) (fun u _ _=>u= .bool (Bu l)) (ap7 l j (l.getD (j+1) 0) (l.getD j 0) (Xk l j)) (dN (g1 fun h=>⟨h2,?_,k3⟩) (dK (g1 fun h=>⟨C2,fun T eu=>k1 q (by rw[ej];exact h) T (by show eJ _ _ _ _ (R5 l (n0-(i+1)));rw[e1];exact eJ.norm eu)⟩)));rw[hs,qZ (f:=Xk l) (show j<n0 by omega) h];rfl
   . obtain rfl:i=n0:=by omega
     show TG _ _ _ _ (R5 l (i-i)) _;have e0:i-i=0:=Nat.sub_self i;rw[e0];exact gw (be _) eP (ap8 l) (dK (g0 ⟨all_nil,fun T eu=>k2 rfl T (by show eJ _ _ _ _ (R5 l (i-i));rw[e0];exact eJ.norm eu)⟩))
 simp only[andThen];refine eu _ _ ?_;rw[Nat.sub_self];refine eR (be _) (ap9 l) (dK (g0 ⟨all_nil,_,_,_,rfl,?_⟩));rw[hs,q8 (f:=Xk l) fun j hj=>by
  have:=h1 (n0-1-j) S;rw[show n0-(n0-1-j)-1=j by omega]at this;exact this]
 rfl
end Go.Proofs.YtmjggdmekboefaaGreat
