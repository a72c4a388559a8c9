/- The Doc laws: the program's tree: pieces. No conditions. -/
import Derived.Test.YtmjggdmekboefaaGreatJointW10
import Derived.Test.YtmjggdmekboefaaGreatJointW11
set_option linter.unusedVariables false
set_option linter.unusedSimpArgs false
set_option linter.unusedSectionVars false
namespace Go.Proofs.YtmjggdmekboefaaGreat
open Go Go.Eng
set_option maxRecDepth 10000
def mR(d:Dc)(O:ae):I es:=hL [(0,.cells (d.cs++[.map (some 1)])),(1,.gM (some .i64) O)]
noncomputable abbrev aeX:Code:=dL Tryz.f44
abbrev pT:V:=.ptr (some (0,0))
theorem aoE(d:Dc)(O:List (Eng.D×Eng.D))(id:Int)(n:Nat)(x:eJ):H (M ek []) [(14,.dG (.gV [L n,.bool true])),(26,.dG (.dS x.ds))] 2 Tryz.f44 [] (aeX) (dB [pT,F id] (mR d O) 2) [([],[(if true=true then V.gV [D.kJ (V.int B (0:Int)) (fG (D.int B id) O),V.bool (fG (D.int B id) O).isSome]else D.kJ (V.int B (0:Int)) (fG (D.int B id) O))=V.gV [L n,V.bool true],fR n d.ly.length,nE d.ly,gG (fD d.ly) n 31 x.ds],.ret (.gV [.agg [.int .i64 (x.id),.int .i64 (x.kd),.str (x.nm),.bool (x.hid),.int .i64 (x.op),.int .i64 (x.md),.bool (x.clip),.int .i64 (x.pl.a),.int .i64 (x.pl.b),.int .i64 (x.pl.c),.int .i64 (x.pl.d),.int .i64 (x.pl.e),.int .i64 (x.pl.f),.int .i64 (x.pl.n),.int .i64 (x.sp),.eE false (x.kids.length) (eG x.kids),.int .i64 (x.of),.int .i64 (x.f.k),.int .i64 (x.f.r),.eE false (x.f.eW.length) (eG x.f.eW),.int .i64 (x.f.dv),.int .i64 (x.f.vl),.eE false (x.f.cu.length) (eG x.f.cu),.int .u8 (x.fi.r),.int .u8 (x.fi.g),.int .u8 (x.fi.b),.int .u8 (x.fi.a),.eE false (x.gu.length) (mQ x.gu),.eE false (x.gp.length) (iH x.gp),.bool (x.K),.eE false (x.gT.length) (iH x.gT)],.bool true]) (hL [(0,.cells [.eE false (d.sp.length) (jy d.sp),.int .i64 (d.root),.int .i64 (d.nx),.eE false (d.ly.length) (fD d.ly),.map (some 1)]),(1,.gM (some .i64) O)]) 2)]:=G.W
theorem aoF(d:Dc)(O:List (Eng.D×Eng.D))(id:Int):H (M ek []) [(14,.dG (.gV [F 0,.bool false]))] 2 Tryz.f44 [] (aeX) (dB [pT,F id] (mR d O) 2) [([],[(if true=true then V.gV [D.kJ (V.int B (0:Int)) (fG (D.int B id) O),V.bool (fG (D.int B id) O).isSome]else D.kJ (V.int B (0:Int)) (fG (D.int B id) O))=V.gV [F (0:Int),V.bool false]],.ret (.gV [.agg [.int .i64 0,.int .i64 0,.str [],.bool false,.int .i64 0,.int .i64 0,.bool false,.int .i64 0,.int .i64 0,.int .i64 0,.int .i64 0,.int .i64 0,.int .i64 0,.int .i64 0,.int .i64 0,.eZ none 0 0 0,.int .i64 0,.int .i64 0,.int .i64 0,.eZ none 0 0 0,.int .i64 0,.int .i64 0,.eZ none 0 0 0,.int .u8 0,.int .u8 0,.int .u8 0,.int .u8 0,.eZ none 0 0 0,.eZ none 0 0 0,.bool false,.eZ none 0 0 0],.bool false]) (hL [(0,.cells [.eE false (d.sp.length) (jy d.sp),.int .i64 (d.root),.int .i64 (d.nx),.eE false (d.ly.length) (fD d.ly),.map (some 1)]),(1,.gM (some .i64) O)]) 2)]:=G.W
section
variable(f:FuncId)(rest:ag)
def I5(d:Dc)(O:List (Eng.D×Eng.D))(v:V):ag->I es->Nat->Option (ah×V×I es×Nat):=fun args h k=>some ([args=pT::rest,h=mR d O,k=2],v,mR d O,2)
def oO(d:Dc)(O:List (Eng.D×Eng.D))(v:V):Prop:=kj ak f (vX (I5 rest d O v))
def xq(d:Dc)(O:List (Eng.D×Eng.D))(v:V)(dy:gJ):gJ:=kp f (vX (I5 rest d O v)) dy
end
theorem qQ{f:FuncId}{rest:ag}{d:Dc}{O:List (Eng.D×Eng.D)}{v:V}{dy:gJ}(h:oO f rest d O v)(hS:fe ak dy):fe ak (xq f rest d O v dy):=fN h hS
theorem I6{f:FuncId}{fn:Func}{rest:ag}{d:Dc}{O:List (Eng.D×Eng.D)}{v:V}(hf:Tryz.prog.funcs[f]? =some fn)(hT:TG ak 2 fn.ntmps (dL fn) (dB (pT::rest) (mR d O) 2) (fV ak 2 fn fun a b c=>a=v/\b=mR d O/\c=2))
  (eY:Nat.blt f Tryz.prog.funcs.size=true:=by kernel_rfl) (Y:fn.body=some (dL fn):=by kernel_rfl) (l:(Nat.ble (pT::rest).length fn.ntmps&&Nat.blt fn.ntmps gy)=true:=by kernel_rfl):oO f rest d O v:=
 Gs mo po (aE eY) hf Y fun args h k fm v' h' k' e hA=>by
  simp only[I5,aq,aB]at e;obtain⟨rfl,rfl,rfl,rfl⟩:=e;have h1:args=pT::rest:=hA _ (by simp);have C:h=mR d O:=hA (h=mR d O) (by simp);have h3:k=2:=hA (k=2) (by simp);subst h1 C h3;exact⟨l,hT⟩
noncomputable abbrev NO:Code:=dL Tryz.f95
def Zv(d:Dc)(O:List (Eng.D×Eng.D))(x:eJ)(r:List (Nat×V)):St:=fB ([(0,pT),(5,.ptr (some (2,0)))]++r) (hL [(0,.cells (d.cs++[.map (some 1)])),(1,.gM (some .i64) O),(2,.cells x.cs)]) 3
theorem aoG(d:Dc)(O:List (Eng.D×Eng.D))(id:Int)(x:eJ):H (M (xq 44 [F id] d O (.gV [x.v,.bool true]) ek) []) [] 2 Tryz.f95 [0,5] (dU 2 NO) (dB [pT,F id] (mR d O) 2) [([],[[V.ptr (some (0,0)),V.int B id]=[pT,F id],(I.nil.set 0 (some (es.cells [V.eE false d.sp.length (jy d.sp),V.int B d.root,V.int B d.nx,V.eE false d.ly.length (fD d.ly),V.map (some 1)]))).set 1 (some (es.gM (some B) O))=mR d O,2=2],eu (Zv d O x []))]:=G.W
theorem aoH(d:Dc)(O:List (Eng.D×Eng.D))(x:eJ):H (M ek []) [] 2 Tryz.f95 [0,5,15] (dI (dI (dA 2 NO))) (Zv d O x []) [([],[],eu (Zv d O x [(15,.bool (x.kd==(4:Int)))]))]:=G.W
theorem aoI(d:Dc)(O:List (Eng.D×Eng.D))(x:eJ):H (M ek []) [] 2 Tryz.f95 [4] (dI (lF (dY (dI (dA 2 NO))))) (Zv d O x [(15,.bool true)]) [([],[],eu (fB [(4,.eZ (some (2,0)) 1 1 1)] (hL [(0,.cells [.eE false (d.sp.length) (jy d.sp),.int .i64 (d.root),.int .i64 (d.nx),.eE false (d.ly.length) (fD d.ly),.map (some 1)]),(1,.gM (some .i64) O),(2,.cells [.int .i64 (x.of)])]) 3))]:=G.W
theorem aoJ(d:Dc)(O:List (Eng.D×Eng.D))(ks:List Int):H (M ek []) [] 2 Tryz.f95 [] (dY (lF (dY (dI (dA 2 NO))))) (fB [(4,fF ks)] (mR d O) 2) [([],[],.ret (.eE false (ks.length) (eG ks)) (hL [(0,.cells [.eE false (d.sp.length) (jy d.sp),.int .i64 (d.root),.int .i64 (d.nx),.eE false (d.ly.length) (fD d.ly),.map (some 1)]),(1,.gM (some .i64) O)]) 2)]:=G.W
theorem aoK(d:Dc)(O:List (Eng.D×Eng.D))(x:eJ):H (M ek []) [] 2 Tryz.f95 [0,5] (oy (dY (dI (dA 2 NO)))) (Zv d O x [(15,.bool false)]) [([],[],eu (Zv d O x []))]:=G.W
theorem aoL(d:Dc)(O:List (Eng.D×Eng.D))(x:eJ):H (M ek []) [] 2 Tryz.f95 [] (dY (dA 2 NO)) (Zv d O x []) [([],[],.ret (.eE false (x.kids.length) (eG x.kids)) (hL [(0,.cells [.eE false (d.sp.length) (jy d.sp),.int .i64 (d.root),.int .i64 (d.nx),.eE false (d.ly.length) (fD d.ly),.map (some 1)]),(1,.gM (some .i64) O)]) 2)]:=G.W
set_option maxRecDepth 10000
def Dn(d:Dc)(O:List (Eng.D×Eng.D)):Prop:=∀k,fG (.int .i64 k) O=(jK d.ly k).map fun n=>.int .i64 (Int.ofNat n)
theorem tL{d:Dc}{O:List (Eng.D×Eng.D)}(h:Dn d O){id:Int}{n:Nat}(hn:jK d.ly id=some n):oO 44 [F id] d O (.gV [(d.at n).v,.bool true]):=by
 obtain⟨eY,_,_⟩:=jv hn;have hl:=h id;rw[hn]at hl;refine I6 Tryz.func44 (eR (be _) (aoE d O id n (d.at n)) (dF (g0 ⟨A (by rw[hl];rfl) (A (iT eY) (A (fE _) (eM (iu eY)))),_,_,_,rfl,rfl,rfl,rfl⟩)))
def Zw:V:=.agg (On 0 0 z7 0)
theorem Dp{d:Dc}{O:List (Eng.D×Eng.D)}(h:Dn d O){id:Int}(hn:jK d.ly id=none):oO 44 [F id] d O (.gV [Zw,.bool false]):=by
 have hl:=h id;rw[hn]at hl;refine I6 Tryz.func44 (eR (be _) (aoF d O id) (dF (g0 ⟨eM (by rw[hl];rfl),_,_,_,rfl,rfl,rfl,rfl⟩)))
theorem Dq{d:Dc}{O:List (Eng.D×Eng.D)}(h:Dn d O){id:Int}{n:Nat}(hn:jK d.ly id=some n):oO 95 [F id] d O (fF (gA (d.at n))):=by
 generalize J:d.at n=x;have hL:=tL h hn;rw[J]at hL;refine I6 Tryz.func95 (fH 2 (qQ hL (be _)) (aoG d O id x) (A rfl (A rfl (eM rfl))) ?_);refine dM dD (qv (be _) eI (aoH d O x) (dF (g0 ⟨all_nil,?_⟩)));refine jZ (t:=x.kd==(4:Int)) dD dD (fun q=>?_) (fun q=>?_)
 . rw[q];refine qv (be _) eI (aoI d O x) (dF (g0 ⟨all_nil,?_⟩));refine ew.DJ [2] [4] (dy:=fB [(4,fF [x.of])] (mR d O) 2) (fm:=[(eG [x.of]).length=1*1]) dD (eM rfl) _ _ ?_;have e:gA x=[x.of]:=aD (Bj.1 q);rw[e];exact gk (be _) (fun a b c=>a=fF [x.of]/\b=mR d O/\c=2) (aoJ d O [x.of]) (dF (g0 ⟨all_nil,⟨rfl,rfl,rfl⟩,fun _ h=>h⟩))
 . rw[q];have e:gA x=x.kids:=aA (Gq q);rw[e];refine gk (be _) eI (aoK d O x) (dF (g0 ⟨all_nil,fun R dX=>?_⟩));simp only[andThen];exact fQ dX (eR (be _) (aoL d O x) (dF (g0 ⟨all_nil,_,_,_,rfl,rfl,rfl,rfl⟩)))
set_option maxRecDepth 10000
noncomputable abbrev Rn:Code:=dL Tryz.f48
noncomputable abbrev Zx:Code:=dA 1 (dY (dA 2 Rn))
noncomputable abbrev bDq:Code:=dK (dK (dY (dI Zx)))
def sDq(d:Dc)(O:List (Eng.D×Eng.D))(id:Int)(x:eJ)(r:List (Nat×V)):St:=fB ([(0,pT),(1,F id),(5,.ptr (some (2,0)))]++r) (hL [(0,.cells (d.cs++[.map (some 1)])),(1,.gM (some .i64) O),(2,.cells x.cs)]) 3
def Zy(d:Dc)(O:List (Eng.D×Eng.D))(m:Int)(ps:List Int)(i:Nat):St:=fB [(0,pT),(7,F m),(26,fF ps),(27,L ps.length),(28,L i)] (mR d O) 2
theorem aoM(d:Dc)(O:List (Eng.D×Eng.D))(id:Int)(x:eJ):H (M (xq 44 [F id] d O (.gV [x.v,.bool true]) ek) []) [] 2 Tryz.f48 [0,1,5] (dU 2 Rn) (dB [pT,F id] (mR d O) 2) [([],[[V.ptr (some (0,0)),V.int B id]=[pT,F id],(I.nil.set 0 (some (es.cells [V.eE false d.sp.length (jy d.sp),V.int B d.root,V.int B d.nx,V.eE false d.ly.length (fD d.ly),V.map (some 1)]))).set 1 (some (es.gM (some B) O))=mR d O,2=2],eu (sDq d O id x []))]:=G.W
theorem aoN(d:Dc)(O:List (Eng.D×Eng.D))(id:Int)(x:eJ):H (M ek []) [(18,.split),(22,.split)] 2 Tryz.f48 [0,1,5] (dI (dA 2 Rn)) (sDq d O id x []) (CW (x.kd !=(2:Int)) (x.kd !=(4:Int)) ([],.ret (.int .i64 0) (mR d O) 2) ([],eu (sDq d O id x []))):=G.W
theorem aoO(d:Dc)(O:List (Eng.D×Eng.D))(id:Int)(x:eJ):H (M ek []) [] 2 Tryz.f48 [0,1,7] (dU 1 (dY (dA 2 Rn))) (sDq d O id x []) [([],[],eu (fB [(0,pT),(1,F id),(7,F 0)] (mR d O) 2))]:=G.W
theorem aeZ(d:Dc)(O:List (Eng.D×Eng.D))(id:Int)(ps:List Int):H (M (xq 95 [F id] d O (fF ps) ek) []) [] 2 Tryz.f48 [0,7,26,27,28] (dI (dI Zx)) (fB [(0,pT),(1,F id),(7,F 0)] (mR d O) 2) [([],[[V.ptr (some (0,0)),V.int B id]=[pT,F id],(I.nil.set 0 (some (es.cells [V.eE false d.sp.length (jy d.sp),V.int B d.root,V.int B d.nx,V.eE false d.ly.length (fD d.ly),V.map (some 1)]))).set 1 (some (es.gM (some B) O))=mR d O,2=2],eu (Zy d O 0 ps 0))]:=G.W
theorem aoP(d:Dc)(O:List (Eng.D×Eng.D))(ps:List Int)(i:Nat)(m p a:Int):H (M (xq 48 [F p] d O (F a) ek) []) [(29,.dG (.bool true)),(30,.dG (.dS [.int .i64 p])),(37,.dG (L (i+1)))] 2 Tryz.f48 [0,7,26,27,28] (bDq) (Zy d O m ps i) [([],[kO (decide (Int.ofNat i<Int.ofNat ps.length)),fR i ps.length,jC ps,gG (eG ps) i 1 [D.int B p],[V.ptr (some (0,0)),V.int B p]=[pT,F p],(I.nil.set 0 (some (es.cells [V.eE false d.sp.length (jy d.sp),V.int B d.root,V.int B d.nx,V.eE false d.ly.length (fD d.ly),V.map (some 1)]))).set 1 (some (es.gM (some B) O))=mR d O,2=2,oH i],eu (Zy d O (Gj m a) ps (i+1)))]:=G.W
theorem ae0(d:Dc)(O:List (Eng.D×Eng.D))(ps:List Int)(i:Nat)(m:Int):H (M ek []) [(29,.dG (.bool false))] 2 Tryz.f48 [0,7,26,27,28] (bDq) (Zy d O m ps i) [([],[lu (decide (Int.ofNat i<Int.ofNat ps.length))],.to (.exit 0) (Zy d O m ps i))]:=G.W
theorem aoQ(d:Dc)(O:List (Eng.D×Eng.D))(ps:List Int)(i:Nat)(m:Int):H (M ek []) [] 2 Tryz.f48 [] (dY Zx) (Zy d O m ps i) [([],[],.ret (.int .i64 (IntKind.i64.wrap (m+(1:Int)))) (hL [(0,.cells [.eE false (d.sp.length) (jy d.sp),.int .i64 (d.root),.int .i64 (d.nx),.eE false (d.ly.length) (fD d.ly),.map (some 1)]),(1,.gM (some .i64) O)]) 2)]:=G.W
set_option maxRecDepth 10000
def Clo(ls:List eJ):Prop:=∀x∈ls,∀p∈gA x,∃n,jK ls p=some n
theorem KT(d:Dc)(O:List (Eng.D×Eng.D))(h:Dn d O)(hd:IP d)(N:Clo d.ly)(rk:Int->Nat)(hrk:KI d.ly rk):∀k,k<=1000->∀id n,jK d.ly id=some n->rk id<k->oO 48 [F id] d O (F (kn d.ly k id)):=by
 intro k
 induction k with
 |zero=>intro _ id _ _ h;exact absurd h (bL _)
 |succ k ih=>
  intro U id n hn axD;have hL:=tL h hn;have hP:=Dq h hn;obtain⟨eY,hid,tc⟩:=jv hn;have xB:∀p∈gA (d.at n),∃m,jK d.ly p=some m:=N _ tc;have hkl:=hd.kids _ tc;have hrx:=hrk id n hn;have hv:kn d.ly (k+1) id=if((d.at n).kd !=2&&(d.at n).kd !=4)=true then 0 else(gA (d.at n)).foldl (fun m p=>Gj m (kn d.ly k p)) 0+1:=by
   rw[kn,hn];rfl
  change (isK (d.at n)=true->∀p∈gA (d.at n),rk p<rk id)at hrx;change (d.at n).kids.length<=1000000 at hkl;generalize d.at n=x at *;refine I6 Tryz.func48 (fH 2 (qQ hL (be _)) (aoM d O id x) (A rfl (A rfl (eM rfl))) ?_);have vO:(x.kd !=2&&x.kd !=4)=false->TG ak 2 Tryz.f48.ntmps (dY (dA 2 Rn)) (sDq d O id x []) (fV ak 2 Tryz.f48 fun a b c=>a=F (kn d.ly (k+1) id)/\b=mR d O/\c=2):=fun Xx=>by
   rw[hv,Xx,aA eX];have hp:∀p∈gA x,rk p<k:=fun p hp=>by
    have:=hrx (by unfold isK;rw[Xx];rfl) p hp;omega
   have hl:(gA x).length<=1000000:=by
    unfold gA;split
    . simp
    . exact hkl
   refine fH 1 (be _) (aoO d O id x) all_nil ?_;generalize gA x=ps at *;refine dM dD (dM dD (gk (qQ hP (be _)) eI (aeZ d O id ps) (dF (g0 ⟨A rfl (A rfl (eM rfl)),fun R dX=>?_⟩))));simp only[andThen];refine iz 0 ps.length (fun i=>Zy d O ((ps.take i).foldl (fun m p=>Gj m (kn d.ly k p)) 0) ps i) (fun _=>false) (ew.norm dX) (fun i hi hj Q' m1 m2 m3=>?_) (fun h1 R dX=>?_)
   . rcases bj i ps.length with q|q
     . have hg:=gi (l:=ps) q;have K:ps.getD i 0∈ps:=by rw[ax,au q];exact bJ q
       have ht:(ps.take (i+1)).foldl (fun m p=>Gj m (kn d.ly k p)) 0=Gj ((ps.take i).foldl (fun m p=>Gj m (kn d.ly k p)) 0) (kn d.ly k (ps.getD i 0)):=by
        rw[bY,getD_some 0 q,Option.toList_some,List.foldl_append];rfl
       obtain⟨n2,qX⟩:=xB _ K;refine gk (qQ (ih S (ps.getD i 0) n2 qX (hp _ K)) (be _)) eI (aoP d O ps i _ (ps.getD i 0) (kn d.ly k (ps.getD i 0))) (dF (g0 ⟨A (aI V.bool (aT (cB.2 q))) (A (iT q) (A (eK ps) (A hg (A rfl (A rfl (A rfl (eM (gK S)))))))),fun R dX=>m1 q rfl R ?_⟩));rw[ht];exact ew.norm dX
     . obtain rfl:i=ps.length:=by omega
       exact gk (be _) eI (ae0 d O ps _ _) (dF (g0 ⟨eM (aI V.bool (aV (by simp only[gB];omega))),fun R dX=>m2 rfl R (ew.norm dX)⟩))
   simp only[andThen];refine dX _ _ (eR (be _) (aoQ d O ps ps.length _) (dF (g0 ⟨all_nil,_,_,_,rfl,?_,rfl,rfl⟩)));rw[bn];have C:=Di (l:=ps) (f:=kn d.ly k) (b:=Int.ofNat k) (fun p _=>Gk d.ly k p) 0 (bO _);have h3:=IY (l:=ps) (f:=kn d.ly k) 0;generalize ps.foldl (fun m p=>Gj m (kn d.ly k p)) 0=z at C h3 ⊢;exact aI (V.int .i64) (ij S (by simp only[gB]at C;omega))
  refine qv (be _) (fun a b c=>a=F (kn d.ly (k+1) id)/\b=mR d O/\c=2) (aoN d O id x) (dJ (g2 fun h1 C=>⟨all_nil,⟨by rw[hv,h1,C];rfl,rfl,rfl⟩,fun _ h=>h⟩) (dJ (g2 fun h1 C=>⟨all_nil,vO (by rw[h1,C];rfl)⟩) (dF (g1 fun h1=>⟨all_nil,vO (by rw[h1];rfl)⟩))))
set_option maxRecDepth 10000
noncomputable abbrev ae1:Code:=dL Tryz.f45
noncomputable abbrev NP:Code:=dL Tryz.f97
def hC(d:Dc)(O:List (Eng.D×Eng.D))(f:Nat)(t:Int)(sn:List (Eng.D×Eng.D)):I es:=hL [(0,.cells [.fn (.func f) [.ptr (some (1,0))] []]),(1,.cells (d.cs++[.map (some 2)])),(2,.gM (some .i64) O),(3,.cells [F t]),(4,.cells [.map (some 5)]),(5,.gM (some .i64) sn),(6,.cells [.fn (.func 97) [] [.ptr (some (0,0)),.ptr (some (3,0)),.ptr (some (4,0)),.ptr (some (6,0))]])]
abbrev aC(x:Int):ag:=[F x,.ptr (some (0,0)),.ptr (some (3,0)),.ptr (some (4,0)),.ptr (some (6,0))]
def Ut(d:Dc)(O:List (Eng.D×Eng.D))(f:Nat)(t x:Int)(sn KU:List (Eng.D×Eng.D))(b:Bool):ag->I es->Nat->Option (ah×V×I es×Nat):=fun args h k=>some ([args=aC x,h=hC d O f t sn,k=7],.bool b,hC d O f t KU,7)
def Zz(d:Dc)(O:List (Eng.D×Eng.D))(f:Nat)(t x:Int)(sn KU:List (Eng.D×Eng.D))(b:Bool):Prop:=kj ak 97 (vX (Ut d O f t x sn KU b))
def sC(d:Dc)(O:List (Eng.D×Eng.D))(f:Nat)(t:Int)(ps:List Int)(i:Nat)(sn:List (Eng.D×Eng.D))(r:List (Nat×V)):St:=fB ([(1,.ptr (some (0,0))),(2,.ptr (some (3,0))),(3,.ptr (some (4,0))),(4,.ptr (some (6,0))),(11,fF ps),(12,L ps.length),(13,L i)]++r) (hC d O f t sn) 7
noncomputable abbrev Wq:Code:=dK (dK (dY (dI (dA 1 NP))))
theorem aoR(d:Dc)(O:List (Eng.D×Eng.D))(f:Nat)(t x:Int)(sn:List (Eng.D×Eng.D)):H (M ek []) [] 7 Tryz.f97 [0,1,2,3,4] (dU 1 NP) (dB (aC x) (hC d O f t sn) 7) [([],[],eu (dB (aC x) (hC d O f t sn) 7))]:=G.W
theorem ZA(d:Dc)(O:List (Eng.D×Eng.D))(t x:Int)(sn:List (Eng.D×Eng.D))(ps:List Int):H (M (xq 95 [F x] d O (fF ps) ek) []) [] 7 Tryz.f97 [1,2,3,4,11,12,13] (dI (dI (dA 1 NP))) (dB (aC x) (hC d O 95 t sn) 7) [([],[[V.ptr (some (0,0)),V.int B x]=[pT,F x],(I.nil.set 0 (some (es.cells [V.eE false d.sp.length (jy d.sp),V.int B d.root,V.int B d.nx,V.eE false d.ly.length (fD d.ly),V.map (some 1)]))).set 1 (some (es.gM (some B) O))=mR d O,2=2],eu (sC d O 95 t ps 0 sn []))]:=G.W
theorem ae2(d:Dc)(O:List (Eng.D×Eng.D))(t x:Int)(sn:List (Eng.D×Eng.D))(ps:List Int):H (M (xq 46 [F x] d O (fF ps) ek) []) [] 7 Tryz.f97 [1,2,3,4,11,12,13] (dI (dI (dA 1 NP))) (dB (aC x) (hC d O 46 t sn) 7) [([],[[V.ptr (some (0,0)),V.int B x]=[pT,F x],(I.nil.set 0 (some (es.cells [V.eE false d.sp.length (jy d.sp),V.int B d.root,V.int B d.nx,V.eE false d.ly.length (fD d.ly),V.map (some 1)]))).set 1 (some (es.gM (some B) O))=mR d O,2=2],eu (sC d O 46 t ps 0 sn []))]:=G.W
theorem ZB(d:Dc)(O:List (Eng.D×Eng.D))(f:Nat)(t:Int)(sn:List (Eng.D×Eng.D))(ps:List Int)(i:Nat)(k:Int):H (M ek []) [(14,.dG (.bool true)),(15,.dG (.dS [.int .i64 k])),(19,.dG (.bool true))] 7 Tryz.f97 [1,2,3,4,11,12,13] (Wq) (sC d O f t ps i sn []) [([],[kO (decide (Int.ofNat i<Int.ofNat ps.length)),fR i ps.length,jC ps,gG (eG ps) i 1 [D.int B k],kO (k==t)],.ret (.bool true) (hC d O f t sn) 7)]:=G.W
theorem ZC(d:Dc)(O:List (Eng.D×Eng.D))(f:Nat)(t:Int)(sn:List (Eng.D×Eng.D))(ps:List Int)(i:Nat)(k:Int):H (M ek []) [(14,.dG (.bool true)),(15,.dG (.dS [.int .i64 k])),(19,.dG (.bool false)),(22,.dG (.bool true)),(29,.dG (L (i+1)))] 7 Tryz.f97 [1,2,3,4,11,12,13] (Wq) (sC d O f t ps i sn []) [([],[kO (decide (Int.ofNat i<Int.ofNat ps.length)),fR i ps.length,jC ps,gG (eG ps) i 1 [D.int B k],lu (k==t),(if false=true then V.gV [D.kJ (V.bool false) (fG (D.int B k) sn),V.bool (fG (D.int B k) sn).isSome]else D.kJ (V.bool false) (fG (D.int B k) sn))=V.bool true,oH i],eu (sC d O f t ps (i+1) sn []))]:=G.W
abbrev Ro(d:Dc)(O:List (Eng.D×Eng.D))(f:Nat)(t:Int)(sn:List (Eng.D×Eng.D))(k:Int):Prop:=((((((I.nil.set 0 (some (es.cells [V.fn (Fn.func f) [V.ptr (some (1,0))] []]))).set 1 (some (es.cells [V.eE false d.sp.length (jy d.sp),V.int B d.root,V.int B d.nx,V.eE false d.ly.length (fD d.ly),V.map (some 2)]))).set 2 (some (es.gM (some B) O))).set 3 (some (es.cells [V.int B t]))).set 4 (some (es.cells [V.map (some 5)]))).set 5 (some (es.gM (some B) (nI (D.int B k) (D.bool true) sn)))).set 6 (some (es.cells [V.fn (Fn.func (97:FuncId)) [] [V.ptr (some (0,0)),V.ptr (some (3,0)),V.ptr (some (4,0)),V.ptr (some (6,0))]]))=hC d O f t (nI (D.int B k) (D.bool true) sn)
abbrev Rp(sn:List (Eng.D×Eng.D))(k:Int):Prop:=(if false=true then V.gV [D.kJ (V.bool false) (fG (D.int B k) sn),V.bool (fG (D.int B k) sn).isSome]else D.kJ (V.bool false) (fG (D.int B k) sn))=V.bool false
theorem ZD(d:Dc)(O:List (Eng.D×Eng.D))(f:Nat)(t:Int)(sn KU:List (Eng.D×Eng.D))(ps:List Int)(i:Nat)(k:Int)(b:Bool):H (M (kp 97 (vX (Ut d O f t k (nI (.int .i64 k) (.bool true) sn) KU b)) ek) []) [(14,.dG (.bool true)),(15,.dG (.dS [.int .i64 k])),(19,.dG (.bool false)),(22,.dG (.bool false)),(29,.dG (L (i+1))),(28,.split)] 7 Tryz.f97 [1,2,3,4,11,12,13] (Wq) (sC d O f t ps i sn []) (fP b ([kO (decide (Int.ofNat i<Int.ofNat ps.length)),fR i ps.length,jC ps,gG (eG ps) i 1 [D.int B k],lu (k==t),Rp sn k,[V.int B k,V.ptr (some (0,0)),V.ptr (some (3,0)),V.ptr (some (4,0)),V.ptr (some (6,0))]=aC k,Ro d O f t sn k,7=7],.ret (.bool true) (hC d O f t KU) 7) ([kO (decide (Int.ofNat i<Int.ofNat ps.length)),fR i ps.length,jC ps,gG (eG ps) i 1 [D.int B k],lu (k==t),Rp sn k,[V.int B k,V.ptr (some (0,0)),V.ptr (some (3,0)),V.ptr (some (4,0)),V.ptr (some (6,0))]=aC k,Ro d O f t sn k,7=7,oH i],eu (sC d O f t ps (i+1) KU []))):=G.W
theorem ZE(d:Dc)(O:List (Eng.D×Eng.D))(f:Nat)(t:Int)(sn:List (Eng.D×Eng.D))(ps:List Int)(i:Nat):H (M ek []) [(14,.dG (.bool false))] 7 Tryz.f97 [1,2,3,4,11,12,13] (Wq) (sC d O f t ps i sn []) [([],[lu (decide (Int.ofNat i<Int.ofNat ps.length))],.to (.exit 0) (sC d O f t ps i sn []))]:=G.W
theorem ZF(d:Dc)(O:List (Eng.D×Eng.D))(f:Nat)(t:Int)(sn:List (Eng.D×Eng.D))(ps:List Int)(i:Nat):H (M ek []) [] 7 Tryz.f97 [] (dY (dA 1 NP)) (sC d O f t ps i sn []) [([],[],.ret (.bool false) (hC d O f t sn) 7)]:=G.W
set_option maxRecDepth 10000
abbrev Sn:=List (Eng.D×Eng.D)
theorem sD(x y:Int)(v:Eng.D):∀O:Sn,fG (.int .i64 x) (nI (.int .i64 y) v O)=if x=y then some v else fG (.int .i64 x) O
 | []=>by
   simp only[nI,fG,ik];by_cases h:x=y
   . simp[h]
   . simp[h]
 |e::O=>by
  have ih:=sD x y v O;simp only[nI];cases U:ik (.int .i64 y) e.1 with
  |true=>
   simp only[fG];by_cases h:x=y
   . subst h;rw[U];simp[ik]
   . have C:ik (.int .i64 x) (.int .i64 y)=false:=by simp[ik,h]
     have h3:ik (.int .i64 x) e.1=false:=by
      cases q:ik (.int .i64 x) e.1 with
      |false=>rfl
      |true=>
       exfalso;obtain⟨e1,e2⟩:=e;cases e1<;>simp[ik]at U q;omega
     rw[C,h3,aA h]
  |false=>
   simp only[fG,ih];by_cases h:x=y
   . subst h;rw[U,aD rfl]
   . rw[aA h,aA h]
def gD(s:Sn)(k:Int):Bool:=(fG (.int .i64 k) s).isSome
def jA(k:Int)(s:Sn):Sn:=nI (.int .i64 k) (.bool true) s
theorem n8(s:Sn)(k y:Int):gD (jA k s) y=(decide (y=k)||gD s y):=by
 unfold gD jA;rw[sD];by_cases h:y=k
 . simp[h]
 . simp[h]
def qR(s:Sn):Prop:=∀k v,fG (.int .i64 k) s=some v->v= .bool true
theorem qR.mark{s:Sn}(h:qR s)(k:Int):qR (jA k s):=fun y v e=>by
 unfold jA at e;rw[sD]at e;split at e
 . exact(dn e).symm
 . exact h y v e
def nA(rc:Int->Sn->Bool×Sn)(t:Int):List Int->Sn->Bool×Sn
 | [],s=>(false,s)
 |k::ks,s=>if k=t then(true,s)else if gD s k=true then nA rc t ks s else if(rc k (jA k s)).1=true then(true,(rc k (jA k s)).2)else nA rc t ks (rc k (jA k s)).2
def oa(st:Int->List Int)(t:Int):Nat->Int->Sn->Bool×Sn
 |0,_,s=>(false,s)
 |n+1,x,s=>nA (oa st t n) t (st x) s
theorem sE{rc:Int->Sn->Bool×Sn}{t:Int}(h:∀k s y,gD s y=true->gD (rc k s).2 y=true):∀(ks:List Int) (s:Sn) (y:Int),gD s y=true->gD (nA rc t ks s).2 y=true
 | [],_,_,hy=>hy
 |k::ks,s,y,hy=>by
  unfold nA;have K:gD (jA k s) y=true:=by rw[n8,hy,cW]
  split
  . exact hy
  . split
    . exact sE h ks s y hy
    . split
      . exact h k _ y K
      . exact sE h ks _ y (h k _ y K)
theorem sF(st:Int->List Int)(t:Int):∀n k s y,gD s y=true->gD (oa st t n k s).2 y=true
 |0,_,_,_,h=>h
 |n+1,_,_,_,h=>sE (sF st t n) _ _ _ h
theorem Aj{rc:Int->Sn->Bool×Sn}{t:Int}(h:∀k s,qR s->qR (rc k s).2):∀(ks:List Int) (s:Sn),qR s->qR (nA rc t ks s).2
 | [],_,hs=>hs
 |k::ks,s,hs=>by
  unfold nA;split
  . exact hs
  . split
    . exact Aj h ks s hs
    . split
      . exact h k _ (hs.mark k)
      . exact Aj h ks _ (h k _ (hs.mark k))
theorem E4(st:Int->List Int)(t:Int):∀n k s,qR s->qR (oa st t n k s).2
 |0,_,_,h=>h
 |n+1,_,_,h=>Aj (E4 st t n) _ _ h
theorem xu{st:Int->List Int}{rc:Int->Sn->Bool×Sn}{t x:Int}(h:∀k s,(rc k s).1=true->Bm st k t):∀(ks:List Int) (s:Sn),(∀k∈ks,k∈st x)->(nA rc t ks s).1=true->Bm st x t
 | [],_,_,e=>by cases e
 |k::ks,s,U,e=>by
  have h1:=U k (bw ..);have C:=fun j hj=>U j (aZ _ hj);unfold nA at e;split at e
  . rename_i q;subst q;exact .one h1
  . split at e
    . exact xu h ks s C e
    . split at e
      . rename_i q;exact Bm.trans (.one h1) (h k _ q)
      . exact xu h ks _ C e
theorem Ds(st:Int->List Int)(t:Int):∀n x s,(oa st t n x s).1=true->Bm st x t
 |0,_,_,e=>by cases e
 |n+1,x,s,e=>xu (Ds st t n) (st x) s (fun _ h=>h) e
def Bn(hk:List Int)(s:Sn):Nat:=(hk.filter fun y=>!gD s y).length
theorem KV{hk:List Int}{s s2:Sn}(h:∀y,gD s y=true->gD s2 y=true):Bn hk s2<=Bn hk s:=by
 unfold Bn
 induction hk with
 |nil=>exact aK _
 |cons y hk ih=>
  rw[List.filter_cons,List.filter_cons];cases h1:gD s y with
  |true=>rw[h y h1];exact ih
  |false=>
   cases C:gD s2 y with
   |true=>exact bH ih (Nat.le_succ _)
   |false=>exact Nat.succ_le_succ ih
theorem Rq{hk:List Int}{s:Sn}{k:Int}(U:k∈hk)(hs:gD s k=false):Bn hk (jA k s)<Bn hk s:=by
 unfold Bn
 induction hk with
 |nil=>cases U
 |cons y hk ih=>
  have mg:(hk.filter fun y=>!gD (jA k s) y).length<=(hk.filter fun y=>!gD s y).length:=KV (hk:=hk) fun z hz=>by rw[n8,hz,cW]
  rw[List.filter_cons,List.filter_cons];by_cases e:y=k
  . subst e;rw[hs,n8];simp only[decide_true,bU,Bool.not_true,aM,cA,Bool.not_false,if_true,aR];omega
  . have e2:gD (jA k s) y=gD s y:=by rw[n8];simp[e]
    rw[e2];have:=ih ((az.1 U).resolve_left fun q=>e q.symm);split
    . simp only[aR];omega
    . exact this
def I7(st:Int->List Int)(t:Int)(s:Sn)(y:Int):Prop:=∀k∈st y,k≠t/\gD s k=true
theorem I7.mono{st:Int->List Int}{t:Int}{s s2:Sn}{y:Int}(h:I7 st t s y)(K:∀y,gD s y=true->gD s2 y=true):I7 st t s2 y:=fun k U=>⟨(h k U).1,K k (h k U).2⟩
theorem Gt{st:Int->List Int}{t:Int}{hk:List Int}(hU:∀y,∀k∈st y,k∈hk){n:Nat}(ih:∀x s,Bn hk s<n->(oa st t n x s).1=false->I7 st t (oa st t n x s).2 x/\∀y,gD (oa st t n x s).2 y=true->gD s y=true\/I7 st t (oa st t n x s).2 y):
  ∀(ks:List Int) (s:Sn),(∀k∈ks,k∈hk)->Bn hk s<n+1->(nA (oa st t n) t ks s).1=false->(∀k∈ks,k≠t/\gD (nA (oa st t n) t ks s).2 k=true)/\∀y,gD (nA (oa st t n) t ks s).2 y=true->gD s y=true\/I7 st t (nA (oa st t n) t ks s).2 y
 | [],s,_,_,_=>⟨fun _ h=>(by cases h),fun _ h=>.inl h⟩
 |k::ks,s,U,hf,e=>by
  have HV:=fun j hj=>U j (aZ _ hj);unfold nA at e ⊢;by_cases h1:k=t
  . rw[aD h1]at e;cases e
  . rw[aA h1]at e ⊢;by_cases C:gD s k=true
    . rw[aD C]at e ⊢;obtain⟨a,b⟩:=Gt hU ih ks s HV hf e;refine⟨fun j hj=>?_,b⟩;rcases az.1 hj with rfl|q
      . exact⟨h1,sE (sF st t n) ks s _ C⟩
      . exact a j q
    . rw[aA C]at e ⊢;have DE:gD s k=false:=by simpa using C
      by_cases h3:(oa st t n k (jA k s)).1=true
      . rw[aD h3]at e;cases e
      . rw[aA h3]at e ⊢;have h3':(oa st t n k (jA k s)).1=false:=by simpa using h3
        have hl:=Rq (hk:=hk) (U k (bw ..)) DE;obtain⟨a,b⟩:=ih k (jA k s) S h3';have hm1:=sF st t n k (jA k s);have mg:=KV (hk:=hk) (hm1);generalize (oa st t n k (jA k s)).2=s1 at *;obtain⟨c,d⟩:=Gt hU ih ks s1 HV S e;have W8:=sE (t:=t) (sF st t n) ks s1;have hmk:gD (jA k s) k=true:=by rw[n8];simp
        refine⟨fun j hj=>?_,fun y hy=>?_⟩
        . rcases az.1 hj with rfl|q
          . exact⟨h1,W8 _ (hm1 _ hmk)⟩
          . exact c j q
        . rcases d y hy with q|q
          . rcases b y q with q|q
            . rw[n8]at q;by_cases e2:y=k
              . subst e2;exact .inr (a.mono W8)
              . simp[e2]at q;exact .inl q
            . exact .inr (q.mono W8)
          . exact .inr q
theorem L8{st:Int->List Int}{t:Int}{hk:List Int}(hU:∀y,∀k∈st y,k∈hk):∀n x s,Bn hk s<n->(oa st t n x s).1=false->I7 st t (oa st t n x s).2 x/\∀y,gD (oa st t n x s).2 y=true->gD s y=true\/I7 st t (oa st t n x s).2 y
 |0,_,_,h,_=>absurd h (bL _)
 |n+1,x,s,h,e=>Gt hU (L8 hU n) (st x) s (hU x) h e
theorem Uu{st:Int->List Int}{t:Int}{hk:List Int}(hU:∀y,∀k∈st y,k∈hk){n:Nat}(hn:hk.length<n)(x:Int):(oa st t n x []).1=true↔Bm st x t:=by
 refine⟨Ds st t n x [],fun h=>?_⟩;cases e:(oa st t n x []).1 with
 |true=>rfl
 |false=>
  exfalso;obtain⟨a,b⟩:=L8 hU n x [] (Nat.lt_of_le_of_lt (List.length_filter_le ..) hn) e;have:∀y,Bm st x y->y≠t/\gD (oa st t n x []).2 y=true:=fun y q=>by
   induction q with
   |one h=>exact a _ h
   |tail _ h ih=>
    rcases b _ ih.2 with q|q
    . cases q
    . exact q _ h
  exact(this t h).1 rfl
set_option maxRecDepth 10000
theorem clT{d:Dc}{O:List (Eng.D×Eng.D)}{f:Nat}{t x:Int}{sn KU:Sn}{b0:Bool}(hT:TG ak 7 Tryz.f97.ntmps (dL Tryz.f97) (dB (aC x) (hC d O f t sn) 7) (fV ak 7 Tryz.f97 fun a b c=>a= .bool b0/\b=hC d O f t KU/\c=7)):Zz d O f t x sn KU b0:=
 Gs mo po (aE dD) Tryz.func97 (code:=dL Tryz.f97) dD fun args h k fm v' h' k' e hA=>by
  simp only[Ut,aq,aB]at e;obtain⟨rfl,rfl,rfl,rfl⟩:=e;have h1:args=aC x:=hA _ (by simp);have C:h=hC d O f t sn:=hA (h=hC d O f t sn) (by simp);have h3:k=7:=hA (k=7) (by simp);subst h1 C h3;exact⟨dD,hT⟩
def zg(rc:Int->Sn->Bool×Sn)(ps:List Int)(sn:Sn):Nat->Sn
 |0=>sn
 |i+1=>if gD (zg rc ps sn i) (ps.getD i 0)=true then zg rc ps sn i else(rc (ps.getD i 0) (jA (ps.getD i 0) (zg rc ps sn i))).2
def tAt(rc:Int->Sn->Bool×Sn)(t:Int)(ps:List Int)(sn:Sn)(i:Nat):Bool:=(ps.getD i 0==t)||(!gD (zg rc ps sn i) (ps.getD i 0)&&(rc (ps.getD i 0) (jA (ps.getD i 0) (zg rc ps sn i))).1)
theorem Gu(rc:Int->Sn->Bool×Sn)(t:Int)(ps:List Int)(sn:Sn):∀i,i<=ps.length->(∀j,j<i->tAt rc t ps sn j=false)->nA rc t ps sn=nA rc t (ps.drop i) (zg rc ps sn i)
 |0,_,_=>rfl
 |i+1,hi,hj=>by
  rw[Gu rc t ps sn i S fun j q=>hj j S];have h:=hj i (Nat.lt_succ_self i);unfold tAt at h;rw[cE]at h;have e:ps.drop i=ps.getD i 0::ps.drop (i+1):=by
   rw[ax,au S,cq,<- bz]
  rw[e]
  conv=>lhs;unfold nA
  rw[aA (Gq h.1),show zg rc ps sn (i+1)=if gD (zg rc ps sn i) (ps.getD i 0)=true then zg rc ps sn i else(rc (ps.getD i 0) (jA (ps.getD i 0) (zg rc ps sn i))).2 from rfl];by_cases hs:gD (zg rc ps sn i) (ps.getD i 0)=true
  . rw[aD hs,aD hs]
  . have C:=h.2;rw[show gD (zg rc ps sn i) (ps.getD i 0)=false by simpa using hs]at C;rw[aA hs,aA hs,aA (by simpa using C)]
theorem NQ{rc:Int->Sn->Bool×Sn}{t:Int}{ps:List Int}{i:Nat}{s:Sn}(h:i<ps.length):nA rc t (ps.drop i) s=nA rc t (ps.getD i 0::ps.drop (i+1)) s:=by
 congr 1;rw[ax,au h,cq,<- bz]
theorem Rr(d:Dc)(O:List (Eng.D×Eng.D))(f:Nat)(t:Int)(nx:Int->List Int)(hnx:∀x n,jK d.ly x=some n->oO f [F x] d O (fF (nx x)))(hln:∀x,(nx x).length<=1000000)(xB:∀x n,jK d.ly x=some n->∀k∈nx x,∃m,jK d.ly k=some m)
  (hf:f=95\/f=46) (hk:List Int) (hU:∀k m,jK d.ly k=some m->k∈hk):
  ∀(n:Nat) (x:Int) (m:Nat) (sn:Sn),jK d.ly x=some m->qR sn->Bn hk sn<n->Zz d O f t x sn (oa nx t n x sn).2 (oa nx t n x sn).1:=by
 intro n
 induction n with
 |zero=>intro x m sn _ _ h;exact absurd h (bL _)
 |succ n ih=>
  intro x m sn K hs hu;have hN:=hnx x m K;have hC2:=xB x m K;have hl:=hln x;have eD:oa nx t (n+1) x sn=nA (oa nx t n) t (nx x) sn:=rfl;rw[eD];generalize nx x=ps at *;generalize hrc:oa nx t n=rc at *;have ae3:∀k s y,gD s y=true->gD (rc k s).2 y=true:=fun k s y h=>by rw[<- hrc];exact sF nx t n k s y h
  have ae4:∀k s,qR s->qR (rc k s).2:=fun k s h=>by rw[<- hrc];exact E4 nx t n k s h
  have hS:∀i,qR (zg rc ps sn i)/\Bn hk (zg rc ps sn i)<=Bn hk sn:=fun i=>by
   induction i with
   |zero=>exact⟨hs,aK _⟩
   |succ i ihi=>
    rw[show zg rc ps sn (i+1)=if gD (zg rc ps sn i) (ps.getD i 0)=true then zg rc ps sn i else(rc (ps.getD i 0) (jA (ps.getD i 0) (zg rc ps sn i))).2 from rfl];split
    . exact ihi
    . exact⟨ae4 _ _ (ihi.1.mark _),bH (KV fun y hy=>ae3 _ _ _ (by rw[n8,hy,cW])) ihi.2⟩
  refine clT (fH 1 (be _) (aoR d O f t x sn) all_nil ?_);have start:∀Q,(∀R,ew ak 7 Tryz.f97.ntmps R (sC d O f t ps 0 sn [])->Q .normal R)->TG ak 7 Tryz.f97.ntmps (dI (dI (dA 1 NP))) (dB (aC x) (hC d O f t sn) 7) Q:=fun Q hQ=>by
   rcases hf with rfl|rfl
   . exact gk (qQ hN (be _)) eI (ZA d O t x sn ps) (dF (g0 ⟨A rfl (A rfl (eM rfl)),fun R dX=>hQ R (ew.norm dX)⟩))
   . exact gk (qQ hN (be _)) eI (ae2 d O t x sn ps) (dF (g0 ⟨A rfl (A rfl (eM rfl)),fun R dX=>hQ R (ew.norm dX)⟩))
  refine dM dD (dM dD (start _ fun R dX=>?_));simp only[andThen];refine iz 0 ps.length (fun i=>sC d O f t ps i (zg rc ps sn i) []) (tAt rc t ps sn) dX (fun i hi hj Q' k1 k2 k3=>?_) (fun Aw R dX=>?_)
  . have ny:=Gu rc t ps sn i hi hj;obtain⟨hT,hUn⟩:=hS i;rcases bj i ps.length with q|q
    . rw[NQ q]at ny;have hg:=gi (l:=ps) q;have hkm:ps.getD i 0∈ps:=by rw[ax,au q];exact bJ q
      obtain⟨mk,hmk⟩:=hC2 _ hkm;have htA:tAt rc t ps sn i=((ps.getD i 0==t)||(!gD (zg rc ps sn i) (ps.getD i 0)&&(rc (ps.getD i 0) (jA (ps.getD i 0) (zg rc ps sn i))).1)):=rfl;have hsA:zg rc ps sn (i+1)=if gD (zg rc ps sn i) (ps.getD i 0)=true then zg rc ps sn i else(rc (ps.getD i 0) (jA (ps.getD i 0) (zg rc ps sn i))).2:=rfl
      generalize ps.getD i 0=k at *;generalize zg rc ps sn i=s at *;have b0:V.bool (decide (Int.ofNat i<Int.ofNat ps.length))=V.bool true:=aI V.bool (aT (cB.2 q));have b1:=iT q;by_cases h1:k=t
      . refine gk (be _) (fun a b c=>a= .bool (nA rc t ps sn).1/\b=hC d O f t (nA rc t ps sn).2/\c=7) (ZB d O f t s ps i k) (dF (g0 ⟨A b0 (A b1 (A (eK ps) (A hg (eM (aI V.bool (Bj.2 h1)))))),⟨?_,?_,rfl⟩,k3⟩))
        . rw[ny];unfold nA;rw[aD h1]
        . rw[ny];unfold nA;rw[aD h1]
      . have b2:V.bool (k==t)=V.bool false:=aI V.bool (by simpa using h1);by_cases C:gD s k=true
        . obtain⟨v,hv⟩:=bI.1 C;have hvt:=hT k v hv;subst hvt;refine gk (be _) eI (ZC d O f t s ps i k) (dF (g0 ⟨A b0 (A b1 (A (eK ps) (A hg (A b2 (A (by rw[hv];rfl) (eM (gK S))))))),fun R dX=>k1 q (by rw[htA,C];simpa using h1) R ?_⟩));show ew _ _ _ _ (sC d O f t ps (i+1) (zg rc ps sn (i+1)) []);rw[hsA,aD C];exact ew.norm dX
        . have DE:gD s k=false:=by simpa using C
          have LC:fG (.int .i64 k) s=none:=by unfold gD at DE;simpa using DE
          have eY:=Rq (hU k mk hmk) DE;have N:=ih k mk (jA k s) hmk (hT.mark k) S;have h2:=A b0 (A b1 (A (eK ps) (A hg (A b2 (A (show(if false=true then V.gV [D.kJ (V.bool false) (fG (.int .i64 k) s),V.bool (fG (.int .i64 k) s).isSome]else D.kJ (V.bool false) (fG (.int .i64 k) s))=V.bool false by rw[LC];rfl) (A (show aC k=aC k from rfl) (A (show hC d O f t (jA k s)=hC d O f t (jA k s)from rfl) (eM (show(7:Nat)=7 from rfl)))))))));have C2:=A b0 (A b1 (A (eK ps) (A hg (A b2 (A (show(if false=true then V.gV [D.kJ (V.bool false) (fG (.int .i64 k) s),V.bool (fG (.int .i64 k) s).isSome]else D.kJ (V.bool false) (fG (.int .i64 k) s))=V.bool false by rw[LC];rfl) (A (show aC k=aC k from rfl) (A (show hC d O f t (jA k s)=hC d O f t (jA k s)from rfl) (A (show(7:Nat)=7 from rfl) (eM (show V.int .i64 (IntKind.i64.wrap (Int.ofNat i+(1:Int)))=L (i+1)from gK S))))))))));refine gk (fN N (be _)) (fun a b c=>a= .bool (nA rc t ps sn).1/\b=hC d O f t (nA rc t ps sn).2/\c=7) (ZD d O f t s (rc k (jA k s)).2 ps i k (rc k (jA k s)).1) (dJ (g1 fun h3=>⟨h2,⟨?_,?_,rfl⟩,k3⟩) (dF (g1 fun h3=>⟨C2,fun R dX=>k1 q (by rw[htA,DE,h3];simpa using h1) R ?_⟩)))
          . rw[ny];unfold nA;rw[aA h1,aA C,aD h3]
          . rw[ny];unfold nA;rw[aA h1,aA C,aD h3]
          . show ew _ _ _ _ (sC d O f t ps (i+1) (zg rc ps sn (i+1)) []);rw[hsA,aA C];exact ew.norm dX
    . obtain rfl:i=ps.length:=by omega
      exact gk (be _) eI (ZE d O f t _ ps _) (dF (g0 ⟨eM (aI V.bool (aV (by simp only[gB];omega))),fun R dX=>k2 rfl R (ew.norm dX)⟩))
  simp only[andThen];have ny:=Gu rc t ps sn ps.length (aK _) Aw;rw[List.drop_length]at ny;refine dX _ _ (eR (be _) (ZF d O f t _ ps ps.length) (dF (g0 ⟨all_nil,_,_,_,rfl,?_,?_,rfl⟩)))
  . rw[ny];rfl
  . rw[ny];rfl
set_option maxRecDepth 10000
def sRy(d:Dc)(O:List (Eng.D×Eng.D))(f:Nat)(t x:Int)(o:es):St:=fB [(1,F x),(10,.ptr (some (2,0)))] (hL [(0,.cells (d.cs++[.map (some 1)])),(1,.gM (some .i64) O),(2,.cells [.fn (.func 97) [] [.ptr (some (3,0)),.ptr (some (4,0)),.ptr (some (5,0)),.ptr (some (2,0))]]),(3,.cells [.fn (.func f) [pT] []]),(4,.cells [F t]),(5,.cells [.map (some 6)]),(6,o)]) 7
theorem ZG(d:Dc)(O:List (Eng.D×Eng.D))(f:Nat)(x t:Int):H (M ek []) [] 2 Tryz.f45 [1,10] (dU 4 ae1) (dB [pT,F x,F t,.fn (.func f) [pT] []] (mR d O) 2) [([],[],eu (sRy d O f t x (.map [] 0)))]:=G.W
theorem ZH(d:Dc)(O:List (Eng.D×Eng.D))(f:Nat)(x t:Int)(KU:List (Eng.D×Eng.D))(b:Bool):H (M (kp 97 (vX (Ut d O f t x [] KU b)) ek) []) [] 2 Tryz.f45 [] (dA 4 ae1) (sRy d O f t x (.gM (some .i64) [])) [([],[[V.int B x,V.ptr (some (0,0)),V.ptr (some (3,0)),V.ptr (some (4,0)),V.ptr (some (6,0))]=aC x,((((((I.nil.set 0 (some (es.cells [V.fn (Fn.func f) [V.ptr (some (1,0))] []]))).set 1 (some (es.cells [V.eE false d.sp.length (jy d.sp),V.int B d.root,V.int B d.nx,V.eE false d.ly.length (fD d.ly),V.map (some 2)]))).set 2 (some (es.gM (some B) O))).set 3 (some (es.cells [V.int B t]))).set 4 (some (es.cells [V.map (some 5)]))).set 5 (some (es.gM (some B) []))).set 6 (some (es.cells [V.fn (Fn.func (97:FuncId)) [] [V.ptr (some (0,0)),V.ptr (some (3,0)),V.ptr (some (4,0)),V.ptr (some (6,0))]]))=hC d O f t [],7=7],.ret (.bool b) (mR d O) 2)]:=G.W
abbrev fnT(f:Nat):V:=.fn (.func f) [pT] []
theorem Gv(d:Dc)(O:List (Eng.D×Eng.D))(f:Nat)(t x:Int)(KU:Sn)(b:Bool)(hC:Zz d O f t x [] KU b):oO 45 [F x,F t,fnT f] d O (.bool b):=by
 refine I6 Tryz.func45 (fH 4 (be _) (ZG d O f x t) all_nil ?_);refine ew.map [(6,some .i64)] (dy:=sRy d O f t x (.gM (some .i64) [])) dD _ _ ?_;exact eR (fN hC (be _)) (ZH d O f x t KU b) (dF (g0 ⟨A rfl (A rfl (eM rfl)),_,_,_,rfl,rfl,rfl,rfl⟩))
theorem ZI:qR []:=fun _ _ h=>by cases h
theorem I8(d:Dc)(O:List (Eng.D×Eng.D))(J:Dn d O)(hd:IP d)(N:Clo d.ly)(t x:Int){n:Nat}(hn:jK d.ly x=some n):∃b,oO 45 [F x,F t,fnT 95] d O (.bool b)/\(b=true↔Bm (iB d.ly false) x t):=by
 have vt:∀y m,jK d.ly y=some m->iB d.ly false y=gA (d.at m):=fun y m h=>by
  unfold iB;rw[h];simp only[aM,false_and,cA,dw];rfl
 have hln:∀y,(iB d.ly false y).length<=1000000:=fun y=>by
  cases h:jK d.ly y with
  |none=>rw[Dj h];exact aN _
  |some m=>
   rw[vt y m h];obtain⟨_,_,K⟩:=jv h;unfold gA;split
   . simp
   . exact hd.kids _ K
 have xB:∀y m,jK d.ly y=some m->∀k∈iB d.ly false y,∃j,jK d.ly k=some j:=fun y m h k U=>by
  rw[vt y m h]at U;obtain⟨_,_,K⟩:=jv h;exact N _ K k U
 have hU:=fun y=>(oA d.ly false y).1;have hN:∀y m,jK d.ly y=some m->oO 95 [F y] d O (fF (iB d.ly false y)):=fun y m h=>by rw[vt y m h];exact Dq J h
 have:=Rr d O 95 t (iB d.ly false) hN hln xB (.inl rfl) (d.ly.map (·.id)) (fun k m h=>by
  obtain⟨_,hid,K⟩:=jv h;exact bS.2 ⟨_,K,hid⟩) ((d.ly.map (·.id)).length+(fZ d.ly).length+1) x n [] hn ZI (Nat.lt_of_le_of_lt (List.length_filter_le ..) S)
 exact⟨_,Gv d O 95 t x _ _ this,Uu hU S x⟩
set_option maxRecDepth 10000
set_option maxRecDepth 10000
set_option maxRecDepth 10000
set_option maxRecDepth 10000
set_option maxRecDepth 10000
set_option maxRecDepth 10000
theorem jW.aoV{d:Dc}(h:jW d):∀j i,i<j->j<d.ly.length->(d.at i).id<(d.at j).id:=by
 have Y:=(ve h.w).2.2.1;intro j
 induction j with
 |zero=>intro i h;exact absurd h (bL _)
 |succ j ih=>
  intro i O1 hj;have h1:=Y (j+1) hj;unfold tJ at h1;rw[cE,bt,show vc d (j+1)=(d.at j).id from rfl]at h1;rcases bj i j with q|q
  . have:=ih i q S;omega
  . obtain rfl:i=j:=by omega
    omega
theorem jW.uniq{d:Dc}(h:jW d):IS d.ly:=by
 unfold IS;rw[List.nodup_iff_pairwise_ne,List.pairwise_iff_getElem];intro i j hi hj O1;rw[bG]at hi hj;have:=h.aoV j i O1 hj;unfold Dc.at at this;rw[ax,ax,au hi,au hj]at this;simp only[cq]at this;rw[List.getElem_map,List.getElem_map];omega
theorem BI{n:Nat}{l:eJ}(h:vW n l=0):bk l=false/\qK l.nm=true/\ba l (cD (fC l.gT))=false/\G5 l=true/\bp l (AR l.pl)=false/\bs n l=false/\bc l (cD (fC l.gp)) (iM l.f) (jP l.gu)=false:=by
 unfold vW KG at h;split at h
 . exact absurd h eX
 rename_i h1;split at h
 . exact absurd h eX
 rename_i C;split at h
 . exact absurd h eX
 rename_i h3;split at h
 . exact absurd h eX
 rename_i h4;split at h
 . exact absurd h eX
 rename_i h5;split at h
 . exact absurd h eX
 rename_i h6;split at h
 . exact absurd h eX
 rename_i h7;exact⟨by simpa using h1,by simpa using C,by simpa using h3,by simpa using h4,by simpa using h5,by simpa using h6,by simpa using h7⟩
theorem jW.Rs{d:Dc}(h:jW d){x:eJ}(J:x∈d.ly)(U:x.kd≠2):x.kids=[]:=by
 have h1:=(BI (h.f x J)).2.2.2.1;unfold G5 Gc at h1;simp only[ay]at h1;have C:=h1.2.2.1;rw[show(x.kd==2)=false by simpa using U,bR]at C;have h3:Int.ofNat x.kids.length=0:=by simpa[nN]using C
 have h4:x.kids.length=0:=by simp only[gB]at h3;omega
 exact cF.2 h4
set_option maxRecDepth 10000
theorem aoW(a b:Int):V1 ak (M ek []) [] 1000 0 Tryz.f89 (dL Tryz.f89) (dB [.bool true,F a,F b] .nil 0)
  [([],
   [],
   .ret (.gV []) (hL []) 0)]
 :=⟨dD,dD,dD⟩
theorem L9(a b:Int):dV ak 89 [.bool true,F a,F b] (.gV []):=
 fc Tryz.func89 (XN (XH (be _) []) mo _ dD (aoW a b) (dF (g0 ⟨all_nil,_,_,_,rfl,rfl⟩)))
set_option maxRecDepth 10000
def Gw:ag->Option (ah×V)
 | [.int .i64 _]=>some ([],.bool false)
 |_=>none
noncomputable abbrev aoX:gJ:=kp 178 (gQ Gw) ek
theorem aoY(a:Int):H (M ek []) [] 0 Tryz.f178 [] (dL Tryz.f178) (dB [F a] .nil 0) [([],[],.ret (.bool (a !=a)) (hL []) 0)]:=G.W
theorem aoZ(a b:Int):H (M aoX []) [] 0 Tryz.f170 [] (dL Tryz.f170) (dB [F a,F b] .nil 0) [([],[],.ret (.bool (decide (a<b))) (hL []) 0)]:=G.W
theorem Uv:kj ak 178 (gQ Gw):=by
 refine nt Tryz.func178 fun args fm v e=>?_;unfold Gw at e;split at e
 case h_2=>cases e
 rename_i n;obtain⟨rfl,rfl⟩:=sm e;exact⟨rfl,rfl,rfl,fun _=>eR (be _) (aoY n) (dF (g0 ⟨all_nil,_,_,_,rfl,aI V.bool (by simp)⟩))⟩
theorem ae5(a b:Int):dV ak 170 [F a,F b] (.bool (decide (a<b))):=
 fc Tryz.func170 (eR (fN Uv (be _)) (aoZ a b) (dF (g0 ⟨all_nil,_,_,_,rfl,rfl⟩)))
set_option maxRecDepth 10000
noncomputable abbrev Uw:Code:=dL Tryz.f148
noncomputable abbrev bSo:Code:=dK (dK (dY (dI (dA 1 Uw))))
def Rt(l:List Int)(j:Nat):St:=fB [(0,fF l),(3,L j)] (hL []) 0
theorem ao0(l:List Int):H (M ek []) [] 0 Tryz.f148 [0] (dU 1 Uw) (dB [fF l] .nil 0) [([],[],eu (dB [fF l] .nil 0))]:=G.W
theorem ao1(l:List Int)(j:Nat):H (M ek []) [(6,.dG (L j))] 0 Tryz.f148 [0,3] (dI (dI (dA 1 Uw))) (dB [fF l] .nil 0) [([],[V.int B (IntKind.i64.wrap ((Int.ofNat l.length)-(1:Int)))=L j],eu (Rt l j))]:=G.W
abbrev Ru(x y:Int):Prop:=V.jJ ([]++[D.kH._f (D.int B x) PUnit.unit,D.kH._f (D.int B y) PUnit.unit]++[])=[F x,F y]
abbrev KW(j:Nat):Prop:=V.int B (IntKind.i64.wrap (Int.ofNat (j+1)-(1:Int)))=L j
abbrev Rv(l:List Int)(j:Nat):Prop:=(0:Int)<=Int.ofNat (j+1)/\Int.ofNat (j+1)<(Int.ofNat l.length)
abbrev Rw(l:List Int)(j:Nat)(x:Int):Prop:=V.dS (dO (eG l) ((j+1)*1) 1)=V.dS [D.int B x]
theorem ao2(l:List Int)(j:Nat)(x y:Int)(b:Bool):H (M (fa 170 [F x,F y] (.bool b) ek) []) [(8,.dG (.bool true)),(13,.dG (.dS [.int .i64 x])),(17,.dG (L j)),(18,.dG (.dS [.int .i64 y])),(20,.split),(10,.dG (L j))] 0 Tryz.f148 [0,3] (bSo) (Rt l (j+1)) (fP b ([kO (decide (Int.ofNat (j+1)>(0:Int))),Rv l j,jC l,Rw l j x,KW j,fR j l.length,jC l,gG (eG l) j 1 [D.int B y],Ru x y],ja) ([kO (decide (Int.ofNat (j+1)>(0:Int))),Rv l j,jC l,Rw l j x,KW j,fR j l.length,jC l,gG (eG l) j 1 [D.int B y],Ru x y,KW j],eu (Rt l j))):=G.W
theorem ao3(l:List Int):H (M ek []) [] 0 Tryz.f148 [0,3] (bSo) (Rt l 0) [([],[],.to (.exit 0) (Rt l 0))]:=G.W
theorem ao4(l:List Int):H (M ek []) [] 0 Tryz.f148 [] (dY (dA 1 Uw)) (Rt l 0) [([],[],By)]:=G.W
set_option maxRecDepth 10000
def Wr(l:List Int)(j:Nat):Bool:=decide (l.getD (j+1) 0<l.getD j 0)
def AX(l:List Int):Bool:=!((List.range (l.length-1)).any (Wr l))
theorem Ux(l:List Int)(h0:0<l.length)(hl:l.length<=1000000000):dV ak 148 [fF l] (.bool (AX l)):=by
 refine fc Tryz.func148 (fH 1 (be _) (ao0 l) all_nil ?_);obtain⟨hc,hN⟩:∃hc,l.length=hc+1:=⟨l.length-1,S⟩;have e6:V.int .i64 (IntKind.i64.wrap (Int.ofNat l.length-(1:Int)))=L hc:=aI (V.int .i64) (by rw[hN,show Int.ofNat (hc+1)-1=Int.ofNat hc by simp only[gB];omega];exact ij (by simp only[gB];omega) (by simp only[gB];omega));have hs:AX l=!((List.range hc).any (Wr l)):=by unfold AX;rw[hN];rfl
 refine dM dD (dM dD (gk (be _) eI (ao1 l hc) (dF (g0 ⟨eM e6,fun R dX=>?_⟩))));simp only[andThen];refine iz 0 hc (fun i=>Rt l (hc-i)) (fun i=>Wr l (hc-i-1)) (ew.norm dX) (fun i hi hj Q' k1 k2 k3=>?_) (fun h1 R dX=>?_)
 . rcases bj i hc with q|q
   . obtain⟨j,Bh⟩:∃j,hc-i=j+1:=⟨hc-i-1,S⟩;have e1:hc-(i+1)=j:=by omega
     have ej:hc-i-1=j:=by omega
     have b0:V.bool (decide (Int.ofNat (j+1)>(0:Int)))=V.bool true:=aI V.bool (aT (by simp only[gB];omega));have b2:V.int .i64 (IntKind.i64.wrap (Int.ofNat (j+1)-(1:Int)))=L j:=aI (V.int .i64) (by rw[show Int.ofNat (j+1)-1=Int.ofNat j by simp only[gB];omega];exact ij (by simp only[gB];omega) (by simp only[gB];omega));have Oi:j+1<l.length:=by omega
     have h2:=A b0 (A (iT Oi) (A (eK l) (A (gi Oi) (A b2 (A (iT (show j<l.length by omega)) (A (eK l) (A (gi (show j<l.length by omega)) (eM (show fu [F (l.getD (j+1) 0),F (l.getD j 0)]from rfl)))))))));have C2:=A b0 (A (iT Oi) (A (eK l) (A (gi Oi) (A b2 (A (iT (show j<l.length by omega)) (A (eK l) (A (gi (show j<l.length by omega)) (A (show fu [F (l.getD (j+1) 0),F (l.getD j 0)]from rfl) (eM b2)))))))));show TG _ _ _ _ (Rt l (hc-i)) _;rw[Bh];refine gk (fk (ae5 (l.getD (j+1) 0) (l.getD j 0)) (be _)) (fun u _ _=>u= .bool (AX l)) (ao2 l j (l.getD (j+1) 0) (l.getD j 0) (Wr l j)) (dJ (g1 fun h=>⟨h2,?_,k3⟩) (dF (g1 fun h=>⟨C2,fun R dX=>k1 q (by rw[ej];exact h) R (by show ew _ _ _ _ (Rt l (hc-(i+1)));rw[e1];exact ew.norm dX)⟩)));rw[hs,qL (f:=Wr l) (show j<hc by omega) h];rfl
   . obtain rfl:i=hc:=by omega
     show TG _ _ _ _ (Rt l (i-i)) _;have e0:i-i=0:=Nat.sub_self i;rw[e0];exact gk (be _) eI (ao3 l) (dF (g0 ⟨all_nil,fun R dX=>k2 rfl R (by show ew _ _ _ _ (Rt l (i-i));rw[e0];exact ew.norm dX)⟩))
 simp only[andThen];refine dX _ _ ?_;rw[Nat.sub_self];refine eR (be _) (ao4 l) (dF (g0 ⟨all_nil,_,_,_,rfl,?_⟩));rw[hs,qM (f:=Wr l) fun j hj=>by
  have:=h1 (hc-1-j) S;rw[show hc-(hc-1-j)-1=j by omega]at this;exact this]
 rfl
end Go.Proofs.YtmjggdmekboefaaGreat
