/- The Doc laws: DocOrder: pieces. No conditions. -/
import Derived.Test.YtmjggdmekboefaaGreatJointW15
set_option linter.unusedVariables false
set_option linter.unusedSimpArgs false
set_option linter.unusedSectionVars false
namespace Go.Proofs.YtmjggdmekboefaaGreat
open Go Go.Eng
set_option maxRecDepth 10000
noncomputable abbrev GI:Code:=dI Tryz.f5
noncomputable abbrev afQ:Code:=dF (dr 6 GI)
noncomputable abbrev ZT:Code:=dG (dG (dX afQ))
noncomputable abbrev afR:Code:=dF (dr 7 GI)
noncomputable abbrev UU:Code:=dG (dG (dX afR))
noncomputable abbrev RZ:Code:=dG (dF (dr 1 UU))
noncomputable abbrev ZU:Code:=dG (dG (dr 4 RZ))
noncomputable abbrev ZV:Code:=dG (dF (dr 1 ZU))
noncomputable def dpW(d:Dc)(fm:gF):gF:=jZ 19 (fun args h n=>match args with
 | [x,.int .i64 a]=>some ([x=d.v],.int .i64 (mj d a),h,n)
 |_=>none) fm
def sQ0(d:Dc)(iX:List Int)(r:List (Nat×V))(q:af)(n:Nat):St:=fq ([(3,.bool true),(4,.ptr (some (0,0))),(5,fj iX)]++r) (G ([(0,.cells d.R)]++q)) n
def E4(d:Dc)(iX:List Int)(pl:oF)(r:List (Nat×V)):St:=fq ([(3,.bool true),(4,.ptr (some (0,0))),(5,fj iX),(6,.map (some 1))]++r) (G [(0,.cells d.R),(1,.gl (some .i64) pl)]) 2
def E5(d:Dc)(iX:List Int)(pl:oF)(x:eJ)(r:List (Nat×V)):St:=fq ([(3,.bool true),(4,.ptr (some (0,0))),(5,fj iX),(6,.map (some 1)),(9,.ptr (some (2,0)))]++r) (G [(0,.cells d.R),(1,.gl (some .i64) pl),(2,.cells x.R)]) 3
abbrev V0(pl:oF)(k:Int):V:=if false=true then V.gw [D.jX (V.int .i64 (0:Int)) (eZ (.int .i64 k) pl),V.bool (eZ (.int .i64 k) pl).isSome]else D.jX (V.int .i64 (0:Int)) (eZ (.int .i64 k) pl)
theorem aru(xs iX:List Int)(d:Dc):dw (U (fb 10 [fj xs] d.v (fb 18 [d.v] (fj iX) (Lo mTz))) []) [] 0 Tryz.f5 [3,4,5] (dM 4 GI) (dy [fj xs] .nil 0)
  [([],[V.lA [fj xs]=[fj xs],V.lA [d.v]=[d.v]],.to .normal (sQ0 d iX [] [] 1))]:=dj.of C C C
theorem arv(d:Dc)(iX:List Int):dw (U dY []) [(26,.dz (.bool false))] 0 Tryz.f5 [3,4,5] (dM 1 (dr 4 GI)) (sQ0 d iX [] [] 1)
  [([],[V.bool (Int.ofNat iX.length !=IntKind.i64.wrap (Int.ofNat d.ly.length-(1:Int)))=V.bool false],.to .normal (sQ0 d iX [] [] 1))]:=dj.of C C C
theorem arw(d:Dc)(iX:List Int):dw (U dY []) [] 0 Tryz.f5 [3,4,5,6] (dM 1 (dr 5 GI)) (sQ0 d iX [] [] 1)
  [([],[],.to .normal (sQ0 d iX [(6,.map (some 1))] [(1,.map [] 0)] 2))]:=dj.of C C C
theorem arx(d:Dc)(iX:List Int)(pl:oF):dw (U dY []) [] 0 Tryz.f5 [3,4,5,6,7] (dF afQ) (E4 d iX pl [])
  [([],[],.to .normal (E4 d iX pl [(7,M 0)]))]:=dj.of C C C
theorem ary(d:Dc)(iX:List Int)(pl:oF)(i:Nat):dw (U dY []) [(31,.split)] 0 Tryz.f5 [3,4,5,6,7] (dM 1 ZT) (E4 d iX pl [(7,M i)])
  [([(decide (Int.ofNat i<Int.ofNat iX.length),true)],[],.to .normal (E4 d iX pl [(7,M i)])),
  ([(decide (Int.ofNat i<Int.ofNat iX.length),false)],[],.to (.exit 0) (E4 d iX pl [(7,M i)]))]:=dj.of C C C
theorem arz(d:Dc)(iX:List Int)(pl:oF)(i:Nat)(k:Int):dw (U dY []) [(37,.dz (.dx [.int .i64 k])),(40,.dz (M (i+1)))] 0 Tryz.f5 [3,4,5,6,7] (dM 1 (dr 1 ZT)) (E4 d iX pl [(7,M i)])
  [([],[(0:Int)<=Int.ofNat i/\Int.ofNat i<Int.ofNat iX.length,(dO iX).length=iX.length*1,V.dx (dn (dO iX) (i*1) 1)=V.dx [D.int .i64 k],V.int .i64 (IntKind.i64.wrap (Int.ofNat i+(1:Int)))=M (i+1)],.to .normal (E4 d iX (l9 (.int .i64 k) (.int .i64 (Int.ofNat (i+1))) pl) [(7,M i)]))]:=dj.of C C C
theorem arA(d:Dc)(iX:List Int)(pl:oF)(i:Nat):dw (U dY []) [(33,.dz (M (i+1)))] 0 Tryz.f5 [3,4,5,6,7] (dr 2 ZT) (E4 d iX pl [(7,M i)])
  [([],[V.int .i64 (IntKind.i64.wrap (Int.ofNat i+(1:Int)))=M (i+1)],.to .normal (E4 d iX pl [(7,M (i+1))]))]:=dj.of C C C
theorem arB(d:Dc)(iX:List Int)(pl:oF)(i:Nat):dw (U dY []) [] 0 Tryz.f5 [3,4,5,6,8] (dF afR) (E4 d iX pl [(7,M i)])
  [([],[],.to .normal (E4 d iX pl [(8,M 0)]))]:=dj.of C C C
theorem arC(d:Dc)(iX:List Int)(pl:oF)(i:Nat):dw (U dY []) [(45,.split)] 0 Tryz.f5 [3,4,5,6,8] (dM 1 UU) (E4 d iX pl [(8,M i)])
  [([(decide (Int.ofNat i<Int.ofNat d.ly.length),true)],[],.to .normal (E4 d iX pl [(8,M i)])),
  ([(decide (Int.ofNat i<Int.ofNat d.ly.length),false)],[],.to (.exit 2) (E4 d iX pl [(8,M i)]))]:=dj.of C C C
theorem arD(d:Dc)(iX:List Int)(pl:oF)(i:Nat)(x:eJ):dw (U dY []) [(51,.dz (.dx x.ds))] 0 Tryz.f5 [3,4,5,6,8,9] (dM 1 RZ) (E4 d iX pl [(8,M i)])
  [([],[(0:Int)<=Int.ofNat i/\Int.ofNat i<Int.ofNat d.ly.length,(fc d.ly).length=d.ly.length*31,V.dx (dn (fc d.ly) (i*31) 31)=V.dx x.ds],.to .normal (E5 d iX pl x [(8,M i)]))]:=dj.of C C C
theorem arE(d:Dc)(iX:List Int)(pl:oF)(i p:Nat)(x:eJ):dw (U (dpW d dY) []) [(57,.split),(62,.dz (M p)),(63,.dz (.bool false)),(74,.dz (.bool false))] 0 Tryz.f5 [3,4,5,6,8,9] (dM 1 (dr 1 RZ)) (E5 d iX pl x [(8,M i)])
  [([(x.id !=d.root,true)],[V0 pl x.id=M p,V.bool (Int.ofNat p==(0:Int))=V.bool false,d.v=d.v,d.v=d.v,V.bool (decide (mj d x.id>mj d d.root))=V.bool false],.to .normal (E5 d iX pl x [(8,M i)])),
  ([(x.id !=d.root,false)],[d.v=d.v,d.v=d.v,V.bool (decide (mj d x.id>mj d d.root))=V.bool false],.to .normal (E5 d iX pl x [(8,M i)]))]:=dj.of C C C
theorem arF(d:Dc)(iX:List Int)(pl:oF)(i p:Nat)(x:eJ):dw (U dY []) [(79,.dz (M p))] 0 Tryz.f5 [3,4,5,6,8,9,10,11] (dM 2 (dr 2 RZ)) (E5 d iX pl x [(8,M i)])
  [([],[V0 pl x.id=M p],.to .normal (E5 d iX pl x [(8,M i),(10,M p),(11,M 0)]))]:=dj.of C C C
theorem arG(d:Dc)(iX:List Int)(pl:oF)(i p j:Nat)(x:eJ):dw (U dY []) [(84,.split)] 0 Tryz.f5 [3,4,5,6,8,9,10,11] (dM 1 ZU) (E5 d iX pl x [(8,M i),(10,M p),(11,M j)])
  [([(decide (Int.ofNat j<Int.ofNat x.kids.length),true)],[],.to .normal (E5 d iX pl x [(8,M i),(10,M p),(11,M j)])),
  ([(decide (Int.ofNat j<Int.ofNat x.kids.length),false)],[],.to (.exit 4) (E5 d iX pl x [(8,M i),(10,M p),(11,M j)]))]:=dj.of C C C
theorem arH(d:Dc)(iX:List Int)(pl:oF)(i p j:Nat)(x:eJ)(k:Int):dw (U (fb 20 [d.v,L k] (.gw [L x.id,M j,.bool true]) dY) []) [(92,.dz (.dx [.int .i64 k]))] 0 Tryz.f5 [3,4,5,6,8,9,10,11,12,13,14] (dM 1 ZV) (E5 d iX pl x [(8,M i),(10,M p),(11,M j)])
  [([],[(0:Int)<=Int.ofNat j/\Int.ofNat j<Int.ofNat x.kids.length,(dO x.kids).length=x.kids.length*1,V.dx (dn (dO x.kids) (j*1) 1)=V.dx [D.int .i64 k],V.lA [d.v,L k]=[d.v,L k]],.to .normal (E5 d iX pl x [(8,M i),(10,M p),(11,M j),(12,L x.id),(13,M j),(14,.bool true)]))]:=dj.of C C C
theorem arI(d:Dc)(iX:List Int)(pl:oF)(i p p2 j:Nat)(x:eJ)(k:Int):dw (U (dpW d dY) []) [(102,.dz (.dx [.int .i64 k])),(104,.dz (M p2)),(106,.dz (.bool false)),(111,.dz (.bool false)),(116,.dz (.bool false)),(127,.dz (.dx [.int .i64 k])),(134,.dz (.bool false))] 0 Tryz.f5 [3,4,5,6,8,9,10,11] (dM 1 (dr 1 ZV)) (E5 d iX pl x [(8,M i),(10,M p),(11,M j),(12,L x.id),(13,M j),(14,.bool true)])
  [([],[(0:Int)<=Int.ofNat j/\Int.ofNat j<Int.ofNat x.kids.length,(dO x.kids).length=x.kids.length*1,V.dx (dn (dO x.kids) (j*1) 1)=V.dx [D.int .i64 k],V0 pl k=M p2,V.bool (decide (Int.ofNat p2<=Int.ofNat p))=V.bool false,V.bool (x.id !=x.id)=V.bool false,V.bool (Int.ofNat j !=Int.ofNat j)=V.bool false,(0:Int)<=Int.ofNat j/\Int.ofNat j<Int.ofNat x.kids.length,(dO x.kids).length=x.kids.length*1,V.dx (dn (dO x.kids) (j*1) 1)=V.dx [D.int .i64 k],d.v=d.v,d.v=d.v,V.bool (decide (mj d k>=mj d x.id))=V.bool false],.to .normal (E5 d iX pl x [(8,M i),(10,M p),(11,M j)]))]:=dj.of C C C
theorem arJ(d:Dc)(iX:List Int)(pl:oF)(i p p2 j:Nat)(x:eJ)(k:Int):dw (U dY []) [(140,.dz (.dx [.int .i64 k])),(142,.dz (M p2))] 0 Tryz.f5 [3,4,5,6,8,9,10,11] (dr 2 ZV) (E5 d iX pl x [(8,M i),(10,M p),(11,M j)])
  [([],[(0:Int)<=Int.ofNat j/\Int.ofNat j<Int.ofNat x.kids.length,(dO x.kids).length=x.kids.length*1,V.dx (dn (dO x.kids) (j*1) 1)=V.dx [D.int .i64 k],V0 pl k=M p2],.to .normal (E5 d iX pl x [(8,M i),(10,M p2),(11,M j)]))]:=dj.of C C C
theorem arK(d:Dc)(iX:List Int)(pl:oF)(i p j:Nat)(x:eJ):dw (U dY []) [(86,.dz (M (j+1)))] 0 Tryz.f5 [3,4,5,6,8,9,10,11] (dr 2 ZU) (E5 d iX pl x [(8,M i),(10,M p),(11,M j)])
  [([],[V.int .i64 (IntKind.i64.wrap (Int.ofNat j+(1:Int)))=M (j+1)],.to .normal (E5 d iX pl x [(8,M i),(10,M p),(11,M (j+1))]))]:=dj.of C C C
theorem arL(d:Dc)(iX:List Int)(pl:oF)(i p j:Nat)(x:eJ):dw (U dY []) [(47,.dz (M (i+1)))] 0 Tryz.f5 [3,4,5,6,8] (dr 2 UU) (E5 d iX pl x [(8,M i),(10,M p),(11,M j)])
  [([],[V.int .i64 (IntKind.i64.wrap (Int.ofNat i+(1:Int)))=M (i+1)],.to .normal (E4 d iX pl [(8,M (i+1))]))]:=dj.of C C C
theorem arM(d:Dc)(iX:List Int)(pl:oF)(i:Nat):dw (U dY []) [(149,.dz (.bool true))] 0 Tryz.f5 [] (dr 8 GI) (E4 d iX pl [(8,M i)])
  [([],[V.bool (Int.ofNat pl.length==Int.ofNat iX.length)=V.bool true],.ret (.bool true) .nil 0)]:=dj.of C C C
set_option maxRecDepth 10000
theorem Lb{k y:Int}{l:List Int}(h:k≠y):(k::l).idxOf y=l.idxOf y+1:=by
 have:(k==y)=false:=by simpa using h
 rw[List.idxOf_cons,this];rfl
def R1(l:List Int):oF:=l.zipIdx.map fun p=>(.int .i64 p.1,.int .i64 (Int.ofNat (p.2+1)))
theorem UW(l:List Int):(R1 l).length=l.length:=by unfold R1;rw[bG,List.length_zipIdx]
theorem R2(k v:Int):∀l:List (Int×Nat),(∀p∈l,p.1≠k)->l9 (.int .i64 k) (.int .i64 v) (l.map fun p=>((.int .i64 p.1,.int .i64 (Int.ofNat (p.2+1))):Eng.D×Eng.D))=(l.map fun p=>(.int .i64 p.1,.int .i64 (Int.ofNat (p.2+1))))++[(.int .i64 k,.int .i64 v)]
 | [],_=>rfl
 |p::l,h=>by
  have Q:=h p (by simp);simp only[bP,l9,gz,decide_true,aN];rw[aT fun e=>Q e.symm];simp only;rw[R2 k v l fun p hp=>h p (by simp[hp])];rfl
theorem R3{l:List Int}{k:Int}(h:k∉l){i:Nat}(hi:l.length=i):l9 (.int .i64 k) (.int .i64 (Int.ofNat (i+1))) (R1 l)=R1 (l++[k]):=by
 unfold R1;rw[R2 k _ _ fun p hp e=>by
  obtain⟨k',j⟩:=p;obtain⟨_,_,h3⟩:=List.mem_zipIdx hp;simp only at e;subst e;exact h (h3▸bK _)]
 rw[List.zipIdx_append,bQ];simp[List.zipIdx,hi]
theorem Ml(y:Int):∀(l:List Int) (s:Nat),y∈l->eZ (.int .i64 y) ((l.zipIdx s).map fun p=>((.int .i64 p.1,.int .i64 (Int.ofNat (p.2+1))):Eng.D×Eng.D))=some (.int .i64 (Int.ofNat (s+l.idxOf y+1)))
 |k::l,s,h=>by
  simp only[List.zipIdx_cons,bP,eZ,gz,decide_true,aN];by_cases q:y=k
  . subst q;simp
  . rw[aT q];simp only;rw[Ml y l (s+1) ((aD.1 h).resolve_left q),Lb (fun e=>q e.symm)];congr 3;omega
theorem Du(y:Int):∀(l:List Int) (s:Nat),y∉l->eZ (.int .i64 y) ((l.zipIdx s).map fun p=>((.int .i64 p.1,.int .i64 (Int.ofNat (p.2+1))):Eng.D×Eng.D))=none
 | [],_,_=>rfl
 |k::l,s,h=>by
  simp only[List.zipIdx_cons,bP,eZ,gz,decide_true,aN];rw[aT fun e=>h (by simp[e])];simp only;exact Du y l (s+1) fun q=>h (by simp[q])
theorem ZW{d:Dc}(hd:Jc d)(hb:∀x∈d.ly,x.kd≠3->K1 x.f):eU ak (dpW d dY):=by
 refine fC ⟨az C,fun args h' n aj v' O n2 e hA E w dH ra g hdm _=>?_⟩ (di _);simp only at e;split at e
 case h_2=>cases e
 rename_i x a;simp only[aq,aF]at e;obtain⟨rfl,rfl,rfl,rfl⟩:=e;have e1:x=d.v:=hA _ (by simp);subst e1;exact ZJ hd hb a E _ _ w dH ra g hdm
section
variable{d:Dc}(h:jg d)
include h
theorem I6{y:Int}(hy:∃n,jy d.ly y=some n):V0 (R1 (iF d.ly 100 d.root)) y=M (tH d y):=by
 have hn:=yP h;have DA:y∈tT d d.root:=List.count_pos_iff.1 (by rw[BJ h 100 y (cQ _ _) hy];exact Nat.one_pos);unfold tH;unfold tT at hn DA ⊢;generalize iF d.ly 100 d.root=iX at *;unfold V0;rw[aB eY];unfold R1;by_cases q:y=d.root
 . rw[q,Du _ _ _ (List.nodup_cons.1 hn).1,List.idxOf_cons_self];rfl
 . rw[Ml y iX 0 ((aD.1 DA).resolve_left q),Lb (fun e=>q e.symm),b7];rfl
theorem loT{xs:List Int}(hd:Jc d)(K:dU ak 10 [fj xs] d.v):TG ak 0 Tryz.f5.ntmps GI (dy [fj xs] .nil 0) (fH ak 0 Tryz.f5 fun u _ _=>u= .bool true):=by
 have hO:=ZS h hd;have hD:=ZW hd h.bd;have zQ:=h.big.2.1;have jx:=EZ h;have mc:=ZR h;have J1:∀a,mj d a=ic d.ly 100 a:=fun a=>by unfold mj;rw[aG mc]
 have fp:∀i,i<d.ly.length->V0 (R1 (iF d.ly 100 d.root)) (d.at i).id=M (tH d (d.at i).id):=fun i hi=>I6 h ((h.UR (nj hi)).elim fun n hn=>⟨n,hn.1⟩);have fk:∀i,i<d.ly.length->∀j,j<(d.at i).kids.length->V0 (R1 (iF d.ly 100 d.root)) ((d.at i).kids.getD j 0)=M (tH d ((d.at i).kids.getD j 0)):=fun i hi j hj=>I6 h (h.D9 (nj hi) (nq hj)).2.1;have N:∀i,i<d.ly.length->(d.at i).id≠d.root->tH d (d.at i).id≠0:=fun i hi hr=>by
  unfold tH tT;rw[Lb (fun e=>hr e.symm)];omega
 have pk:∀i,i<d.ly.length->∀j,j<(d.at i).kids.length->I4 d (d.at i) j<tH d ((d.at i).kids.getD j 0):=fun i hi j hj=>UT h (nj hi) hj;have fd:∀i,i<d.ly.length->¬(mj d (d.at i).id>mj d d.root):=fun i hi=>by
  rw[J1,J1];have:=I5 h 100 (d.at i).id (cQ _ _) ((h.UR (nj hi)).elim fun n hn=>⟨n,hn.1⟩);omega
 have fe:∀i,i<d.ly.length->∀j,j<(d.at i).kids.length->¬(mj d ((d.at i).kids.getD j 0)>=mj d (d.at i).id):=fun i hi j hj=>by
  rw[J1,J1];have:=Mk h (nj hi) (nq hj);omega
 have pr:∀i,i<d.ly.length->∀j,j<(d.at i).kids.length->dU ak 20 [d.v,L ((d.at i).kids.getD j 0)] (.gw [L (d.at i).id,M j,.bool true]):=fun i hi j hj=>by
  have Q:=ad3 d ((d.at i).kids.getD j 0) hd.m;obtain⟨O,FP,hr⟩:=h.D9 (nj hi) (nq hj);rw[vf O hj rfl (h.Cq FP hr) (nj hi)]at Q;exact Q
 have hAA:∀i,i<d.ly.length->V.dx (dn (fc d.ly) (i*31) 31)= .dx (d.at i).ds:=fun i hi=>iw hi;have Dz:∀i,i<d.ly.length->(d.at i).kids.length<=100:=fun i hi=>h.kids _ (nj hi);have hnd:(iF d.ly 100 d.root).Nodup:=(List.nodup_cons.1 (yP h)).2;clear J1;generalize iF d.ly 100 d.root=iX at *;refine fF 4 (fu K (fu hO ZO)) (aru xs iX d) (S rfl (eG rfl)) ?_;refine fF 1 (di _) (arv d iX) (eG (aI V.bool ?_)) ?_
 . have e:IntKind.i64.wrap (Int.ofNat d.ly.length-(1:Int))=Int.ofNat iX.length:=by
    rw[gZ (by simp only[gQ];omega) (by simp only[gQ];omega)];simp only[gQ];omega
   rw[e];exact bne_self_eq_false _
 refine fF 1 (di _) (arw d iX) all_nil ?_;refine ek.map [(1,some .i64)] (fm:=E4 d iX [] []) C _ _ ?_;refine dK C (dK C (gv (di _) eE (arx d iX []) (dB (g0 ⟨all_nil,fun X dQ=>?_⟩))));simp only[andThen];refine jf 0 iX.length (fun i=>E4 d iX (R1 (iX.take i)) [(7,M i)]) (fun _=>false) (ek.norm dQ) (fun i hi _ Q' k1 k2 k3=>?_) (fun _ X dQ=>?_)
 . refine kU 1 (di _) eE (ary d iX _ i) (dD (g1 fun h=>⟨all_nil,?_⟩) (dB (g1 fun h=>⟨all_nil,fun X dQ=>k2 (by have:=r9 h;omega) X (ek.norm dQ)⟩)));have q:=jW h;have vK:iX.take (i+1)=iX.take i++[iX.getD i 0]:=by rw[bY,getD_some 0 q,Option.toList_some]
   have hni:iX.getD i 0∉iX.take i:=fun K=>by
    have e2:(iX.take (i+1)).Nodup:=hnd.sublist (List.take_sublist _ _);rw[vK,List.nodup_append]at e2;exact e2.2.2 _ K _ (by simp) rfl
   have ug:=R3 hni (i:=i) (by rw[bq];omega);rw[<- vK]at ug;refine kU 1 (di _) eE (arz d iX _ i (iX.getD i 0)) (dB (g0 ⟨S (iI q) (S (eo _) (S (fD q) (eG (gJ H)))),?_⟩));rw[ug];exact gv (di _) eE (arA d iX _ i) (dB (g0 ⟨eG (gJ H),fun X dQ=>k1 q rfl X (ek.norm dQ)⟩))
 rw[bz]at dQ;simp only[andThen];refine dQ _ _ ?_;have hpn:=UW iX;generalize R1 iX=pl at *;refine dK C (dK C (gv (di _) eE (arB d iX pl _) (dB (g0 ⟨all_nil,fun X dQ=>?_⟩))));simp only[andThen];refine jf 2 d.ly.length (fun i=>E4 d iX pl [(8,M i)]) (fun _=>false) (ek.norm dQ) (fun i hi _ Q' k1 k2 k3=>?_) (fun _ X dQ=>?_)
 rotate_left
 . simp only[andThen];exact dQ _ _ (eK (di _) (arM d iX pl _) (dB (g0 ⟨eG (by rw[hpn];exact aI V.bool (beq_self_eq_true _)),_,_,_,rfl,rfl⟩)))
 refine kU 1 (di _) eE (arC d iX pl i) (dD (g1 fun h=>⟨all_nil,?_⟩) (dB (g1 fun h=>⟨all_nil,fun X dQ=>k2 (by have:=r9 h;omega) X (ek.norm dQ)⟩)));have q:=jW h;have fp:=fp i q;have fk:=fk i q;have N:=N i q;have pk:=pk i q;have fd:=fd i q;have fe:=fe i q;have pr:=pr i q;have hA:=hAA i q;have W:=Dz i q;generalize d.at i=x at *;refine dK C (fh (i:=3) C ?_);refine kU 1 (di _) eE (arD d iX pl i x) (dB (g0 ⟨S (iI q) (S (gj _) (eG hA)),?_⟩))
 suffices nx:TG ak 0 Tryz.f5.ntmps (dr 2 RZ) (E5 d iX pl x [(8,M i)]) (gk 3 (andThen (fun X=>TG ak 0 Tryz.f5.ntmps (dr 2 UU) X Q') Q'))from
  kU 1 hD eE (arE d iX pl i (tH d x.id) x) (dD (g1 fun Q=>⟨S fp (S (aI V.bool (by
   have:=N (by simpa using Q);rw[b5];simp only[gQ];omega)) (S rfl (S rfl (eG (aI V.bool (aT fd)))))),nx⟩)
   (dB (g1 fun Q=>⟨S rfl (S rfl (eG (aI V.bool (aT fd)))),nx⟩)))
 refine kU 2 (di _) eE (arF d iX pl i (tH d x.id) x) (dB (g0 ⟨eG fp,?_⟩));refine jf 4 x.kids.length (fun j=>E5 d iX pl x [(8,M i),(10,M (I4 d x j)),(11,M j)]) (fun _=>false) .refl (fun j hj _ Q2 m1 m2 m3=>?_) (fun _ X dQ=>?_)
 rotate_left
 . simp only[gk,andThen];exact dQ _ _ (gv (di _) eE (arL d iX pl i _ _ x) (dB (g0 ⟨eG (gJ H),fun X dQ=>k1 q rfl X (ek.norm dQ)⟩)))
 refine kU 1 (di _) eE (arG d iX pl i _ j x) (dD (g1 fun h=>⟨all_nil,?_⟩) (dB (g1 fun h=>⟨all_nil,fun X dQ=>m2 (by have:=r9 h;omega) X (ek.norm dQ)⟩)));have qj:=jW h;have fk:=fk j qj;have pk:=pk j qj;have fe:=fe j qj;have pr:=pr j qj;have e1:I4 d x (j+1)=tH d (x.kids.getD j 0):=rfl;have FD:=m1 qj rfl;rw[e1]at FD;have hg:=fD (l:=x.kids) qj;generalize x.kids.getD j 0=k at *;generalize I4 d x j=p at *;generalize tH d k=p2 at *;refine dK C (fh (i:=5) C ?_);refine kU 1 (fu pr (di _)) eE (arH d iX pl i p j x k) (dB (g0 ⟨S (iI qj) (S (eo _) (S hg (eG rfl))),?_⟩));refine kU 1 hD eE (arI d iX pl i p p2 j x k) (dB (g0 ⟨S (iI qj) (S (eo _) (S hg (S fk (S (aI V.bool (aT (by simp only[gQ];omega))) (S (aI V.bool (bne_self_eq_false _)) (S (aI V.bool (bne_self_eq_false _)) (S (iI qj) (S (eo _) (S hg (S rfl (S rfl (eG (aI V.bool (aT fe)))))))))))))),?_⟩));refine gv (di _) eE (arJ d iX pl i p p2 j x k) (dB (g0 ⟨S (iI qj) (S (eo _) (S hg (eG fk))),fun X dQ=>?_⟩));simp only[gk,andThen];exact fU dQ (gv (di _) eE (arK d iX pl i p2 j x) (dB (g0 ⟨eG (gJ H),fun X dQ=>FD X (ek.norm dQ)⟩)))
end
theorem ZX(xs:List Int):TG ak 0 Tryz.f5.ntmps GI (dy [fj xs] .nil 0) (fH ak 0 Tryz.f5 fun u _ _=>u= .bool true):=by
 obtain⟨Q,O⟩:=QV xs 8;exact loT Q O.fs (ZP xs)
end Go.Proofs.YtmjggdmekboefaaGreat
