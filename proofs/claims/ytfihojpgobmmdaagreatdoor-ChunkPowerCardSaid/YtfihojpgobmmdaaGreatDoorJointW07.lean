/- Lemmas on the chunk store. No conditions. -/
import Derived.Test.YtfihojpgobmmdaaGreatDoorJointW05
import Derived.Test.YtfihojpgobmmdaaGreatDoorJointW06
set_option linter.unusedVariables false
set_option linter.unusedSimpArgs false
set_option linter.unusedSectionVars false
namespace Go.Proofs.YtfihojpgobmmdaaGreatDoor
open Go Go.Eng
theorem DJ:∀(l:List (Option Nat)) (j0 m i:Nat),l.getD i none=some m->(∀i',i'<i->l.getD i' none≠some m)->AR l j0 m=some (j0+i)
 | [],_,_,i,h,_=>by simp at h
 |x::l,j0,m,0,h,_=>by
  have h:x=some m:=by simpa using h
  subst h;simp only[AR,cP];rfl
 |x::l,j0,m,i+1,h,fS=>by
  have ih:=DJ l (j0+1) m i (by simpa using h) (fun i' hi=>by have:=fS (i'+1) L;simpa using this);have h0:=fS 0 L;have e:j0+1+i=j0+(i+1):=by omega
  cases x with
  |none=>simp only[AR,ih,e]
  |some k=>
   have:Nat.beq k m=false:=by
    cases q:Nat.beq k m with
    |false=>rfl
    |true=>exact absurd (by simp[aG q]) h0
   simp only[AR,this,ih,e]
theorem DK{ns:List (Option Nat)}(hn:nQ ns=true){j m:Nat}(h:ns.getD j none=some m):mu ns m=some j:=by
 have:=DJ ns 0 m j h fun i hi q=>by have:=pG hn i j m q h;omega
 simpa using this
class eB where
 on:Bool
structure gx where
 lo:Option (Nat×Nat×B)
 F:Int
 R:Int
 off:Bool
 arm:Bool
 D:Int
 C:ae
 O:ae
def lgV(g:Nat):Option (Nat×Nat×B)->V
 |none=>.dx none 0 0 0
 |some (T,A,_)=>.dx (some (g,0)) T A 1
def vW(g c r:Nat)(p:gx):ag:=[lgV g p.lo,.int .i64 p.F,.map (some c),.map (some r),.int .i64 p.R,.bool p.off,.bool p.arm,.int .i64 p.D]
def fM(p:gx):af:=match p.lo with
 |none=>[(0,.ints .u32 gS),(1,.ints .u32 gR),(3,.cells (vW 4 5 6 p)),(5,.dy none p.C),(6,.dy none p.O)]
 |some (_,_,b)=>[(0,.ints .u32 gS),(1,.ints .u32 gR),(3,.cells (vW 4 5 6 p)),(4,.ia 5 false b),(5,.dy none p.C),(6,.dy none p.O)]
def dN(p:gx):H rs:=K (fM p)
def Jw(h:H rs)(m:Nat):Option (List (Option Nat)×gx):=match h.get m with
 |some (.cells [lg,.int .i64 F,.map (some c),.map (some r),.int .i64 R,.bool off,.bool arm,.int .i64 D])=>match h.get c,h.get r with
  |some (.dy none C),some (.dy none O)=>match lg with
   | .dx none 0 0 0=>some ([some 0,some 1,some 2,some m,none,some c,some r],⟨none,F,R,off,arm,D,C,O⟩)
   | .dx (some (g,0)) T A 1=>match h.get g with
     |some (.ia 5 false b)=>some ([some 0,some 1,some 2,some m,some g,some c,some r],⟨some (T,A,b),F,R,off,arm,D,C,O⟩)
     |_=>none
   |_=>none
  |_,_=>none
 |_=>none
def okN(ns:List (Option Nat)):Bool:=nQ ns&&ns.all fun x=>match x with|some m=>Nat.blt m fW|none=>true
section
variable{h:H rs}{m:Nat}{ns:List (Option Nat)}{p:gx}
theorem LM(e:Jw h m=some (ns,p)):∃g c r,h.get m=some (.cells (vW g c r p))/\h.get c=some (.dy none p.C)/\h.get r=some (.dy none p.O)/\
  ((p.lo=none/\ns=[some 0,some 1,some 2,some m,none,some c,some r])\/∃T A b,p.lo=some (T,A,b)/\h.get g=some (.ia 5 false b)/\ns=[some 0,some 1,some 2,some m,some g,some c,some r]):=by
 unfold Jw at e;split at e
 case h_2=>cases e
 rename_i lg F c r R off arm D W;split at e
 case h_2=>cases e
 rename_i C O J hr;split at e
 . obtain⟨rfl,rfl⟩:=fg e;exact⟨0,c,r,W,J,hr,.inl ⟨rfl,rfl⟩⟩
 . rename_i g T A;split at e
   . rename_i b hg;obtain⟨rfl,rfl⟩:=fg e;exact⟨g,c,r,W,J,hr,.inr ⟨T,A,b,rfl,hg,rfl⟩⟩
   . cases e
 . cases e
theorem Jx(e:Jw h m=some (ns,p))(ht:Lr h=some (gS,gR))(hn:okN ns=true):vS ns h (dN p)/\ns.length=7/\∀j k,ns.getD j none=some k->k<fW:=by
 obtain⟨g,c,r,W,J,hr,q7⟩:=LM e;obtain⟨h0,X⟩:=AV ht;simp only[okN,aE]at hn;obtain⟨GM,sA⟩:=hn;have gT:∀j k,ns.getD j none=some k->k<fW:=by
  intro j k hk;have yc:some k∈ns:=by
   rw[aO]at hk;cases M:ns[j]? with
   |none=>rw[M]at hk;cases hk
   |some x=>rw[M]at hk;simp only[Option.getD_some]at hk;subst hk;exact bg M
  exact ax (bt.1 sA _ yc)
 have af7:ns.getD 0 none=some 0/\ns.getD 1 none=some 1/\ns.getD 2 none=some 2/\ns.getD 3 none=some m/\ns.getD 5 none=some c/\ns.getD 6 none=some r/\ns.length=7:=by
  rcases q7 with⟨_,rfl⟩|⟨_,_,_,_,_,rfl⟩<;>exact⟨rfl,rfl,rfl,rfl,rfl,rfl,rfl⟩
 obtain⟨g0,g1,g2,g3,g5,g6,ja⟩:=af7;have mc:=DK GM g5;have mr:=DK GM g6;have hgl:∀q∈kf,ns.getD q.2 none=some q.2:=by
  intro q hq;simp only[kf,aD,aN,br]at hq;rcases hq with rfl|rfl|rfl
  . exact g0
  . exact g1
  . exact g2
 have M6:∀q,q<3->∃z∈kf,z.2=q:=by
  intro q hq;rcases q with _|_|_|q
  . exact⟨(0,0),by simp[kf],rfl⟩
  . exact⟨(1,1),by simp[kf],rfl⟩
  . exact⟨(2,2),by simp[kf],rfl⟩
  . omega
 refine⟨?_,ja,gT⟩;rcases q7 with⟨Bm,GG⟩|⟨T,A,b,Bm,hg,GG⟩
 . unfold dN fM;rw[Bm];refine AW (fun q hq=>?_) hgl GM (fun j k hj=>?_) ?_
   . simp only[aD,aN,br]at hq;rcases hq with rfl|rfl|rfl|rfl|rfl<;>exact ax rfl
   . rw[GG]at hj
     match j,hj with
     |0,hj=>cases hj;exact .inl (M6 0 L)
     |1,hj=>cases hj;exact .inl (M6 1 L)
     |2,hj=>cases hj;exact .inl (M6 2 L)
     |3,hj=>cases hj;exact .inr (by rw[W];simp)
     |4,hj=>cases hj
     |5,hj=>cases hj;exact .inr (by rw[J];simp)
     |6,hj=>cases hj;exact .inr (by rw[hr];simp)
     |j+7,hj=>simp at hj
   . intro q hq;simp only[aD,aN,br]at hq;rcases hq with rfl|rfl|rfl|rfl|rfl
     . exact⟨_,_,g0,h0,rfl⟩
     . exact⟨_,_,g1,X,rfl⟩
     . refine⟨_,_,g3,W,?_⟩;simp only[vW,Bm,lgV,rs.rn,V.Ey,V.rn,mc,mr]
     . exact⟨_,_,g5,J,rfl⟩
     . exact⟨_,_,g6,hr,rfl⟩
 . have g4:ns.getD 4 none=some g:=by rw[GG];rfl
   have mg:=DK GM g4;unfold dN fM;rw[Bm];refine AW (fun q hq=>?_) hgl GM (fun j k hj=>?_) ?_
   . simp only[aD,aN,br]at hq;rcases hq with rfl|rfl|rfl|rfl|rfl|rfl<;>exact ax rfl
   . rw[GG]at hj
     match j,hj with
     |0,hj=>cases hj;exact .inl (M6 0 L)
     |1,hj=>cases hj;exact .inl (M6 1 L)
     |2,hj=>cases hj;exact .inl (M6 2 L)
     |3,hj=>cases hj;exact .inr (by rw[W];simp)
     |4,hj=>cases hj;exact .inr (by rw[hg];simp)
     |5,hj=>cases hj;exact .inr (by rw[J];simp)
     |6,hj=>cases hj;exact .inr (by rw[hr];simp)
     |j+7,hj=>simp at hj
   . intro q hq;simp only[aD,aN,br]at hq;rcases hq with rfl|rfl|rfl|rfl|rfl|rfl
     . exact⟨_,_,g0,h0,rfl⟩
     . exact⟨_,_,g1,X,rfl⟩
     . refine⟨_,_,g3,W,?_⟩;simp only[vW,Bm,lgV,rs.rn,V.Ey,V.rn,mc,mr,mg]
     . exact⟨_,_,g4,hg,rfl⟩
     . exact⟨_,_,g5,J,rfl⟩
     . exact⟨_,_,g6,hr,rfl⟩
end
abbrev No:=gx->ag->Option (ah×V×H rs×Nat)
def Po(sp:No):ag->H rs->Nat->Option (ah×V×H rs×Nat):=fun args h n=>match args with
 | .ptr (some (m,0))::_=>match Lr h,Jw h m with
   |some (st,rd),some (ns,p)=>match okN ns,V.Ey (mu ns) args with
    |true,some ot=>match sp p ot with
     |some (cU,v1,X,n1)=>match EU ns (dN p) (v1,X,n1) h n with
      |some (v,h2,n2)=>some ((st=gS)::(rd=gR)::cU,v,h2,n2)
      |none=>none
     |none=>none
    |_,_=>none
   |_,_=>none
 |_=>none
theorem Np{f:FuncId}{fn:Func}{code:Code}{sp:No}(fH:f<Tryz.prog.funcs.size)(hf:Tryz.prog.funcs[f]? =some fn)(hb:fn.body=some code)
  (hT:∀p args cU v1 X n1,sp p args=some (cU,v1,X,n1)->(∀a∈cU,a)->(Nat.ble args.length fn.ntmps&&Nat.blt fn.ntmps fW)=true/\TG ak 7 fn.ntmps code (cZ args (dN p) 7) (fL ak 7 fn fun a b c=>a=v1/\b=X/\c=n1)):jK ak f (Po sp):=by
 refine⟨fH,fun args h n cU v h2 n2 e hA E w dm ra g hd J=>?_⟩;unfold Po at e;split at e
 case h_2=>cases e
 rename_i m rest;split at e
 case h_2=>cases e
 rename_i st rd ns p ht hs;split at e
 case h_2=>cases e
 rename_i ot iC VA;split at e
 case h_2=>cases e
 rename_i A1 v1 X n1 hsp;split at e
 case h_2=>cases e
 rename_i v2 h3 n3 hem;simp only[an,aB]at e;obtain⟨rfl,rfl,rfl,rfl⟩:=e;have e1:st=gS:=hA _ (by simp);have e2:rd=gR:=hA _ (by simp);subst e1 e2;obtain⟨hp,ja,_⟩:=Jx hs ht iC;obtain⟨l,hTG⟩:=hT p ot A1 v1 X n1 hsp fun a ha=>hA a (by simp[ha]);exact FR mo po hf hb l hp VA hem (by rw[ja];exact hTG) ra g hd
theorem am1:dc V2 [] 3 Tryz.f63 [] (dO Tryz.f63) (cZ [.dx none 0 0 0] .nil 3) [([],[],.ret (.dx none 0 0 0) (K []) 3)]:=cT.ef
theorem am2(n:Nat)(Q:ai):dc V2 [] 3 Tryz.f63 [] (dO Tryz.f63) (cZ [.dV false n Q] .nil 3) [([],[0<n,Q.length=n*1,fa (0+n) 1 16=true],.ret (.dx (some (3,0)) (0+n) (0+n) 1) (K [(3,.deep ([]++Q))]) 4)]:=cT.ef
theorem am3(n:Nat)(Q:ai):dc V2 [] 3 Tryz.f63 [] (dO Tryz.f63) (cZ [.dV true n Q] .nil 3) [([],[0<n,Q.length=n*1,fa (0+n) 1 16=true],.ret (.dx (some (3,0)) (0+n) (0+n) 1) (K [(3,.deep ([]++Q))]) 4)]:=cT.ef
def LN:ag->Option (ah×V)
 | [.dx none 0 0 0]=>some ([],.dx none 0 0 0)
 | [.dV _ n Q]=>some ([0<n,Q.length=n,n<=1000000],.dV false n Q)
 |_=>none
theorem Zn(n:Nat)(Q:ai)(h0:Q.length=n):oe (.dV false n Q) (.dx (some (3,0)) (0+n) (0+n) 1) (K [(3,.deep ([]++Q))]) 4:=by
 refine⟨[[3]],[([]++Q).length=(0+n)*1],{ S:=H.nil.set 0 (some (.dV false (0+n) ([]++Q))),h:=(K [(3,.deep ([]++Q))]).set 3 none,n:=4,gD:=[] },U,fun a ha=>?_,?_⟩
 . rw[au]at ha;subst ha;rw[cH];omega
 . have e:0+n=n:=bI n;rw[e];rfl
theorem abF:jK ak 63 (FP LN):=by
 refine Jj (ax U) fun args cU v e hA=>?_;unfold LN at e;split at e
 . obtain⟨rfl,rfl⟩:=fg e;obtain⟨be,hr⟩:=am1;exact iq mo po Tryz.func63 U U rfl rfl (fB (Hq X12 mo U (by
    have:be=[]:=by
     have h2:=hr;unfold cT at h2;have h3:RJ ak V2 [] 1000 3 Tryz.f63 [] (dO Tryz.f63) (cZ [.dx none 0 0 0] .nil 3)=some ([],[],[([],[],.ret (.dx none 0 0 0) (K []) 3)]):=by kernel_rfl
     rw[h3]at h2;simp only[an,aB]at h2;exact h2.1.symm
    subst this;exact hr) cW) fun y s h=>kE h)
 . rename_i f n Q;obtain⟨rfl,rfl⟩:=fg e;have h0:0<n:=hA _ (by simp);have X:Q.length=n:=hA (Q.length=n) (by simp);have h2:n<=1000000:=hA (n<=1000000) (by simp);have key:∀f,TG ak gN Tryz.f63.ntmps (dO Tryz.f63) (cZ [.dV f n Q] .nil gN) (fL ak gN Tryz.f63 (oe (.dV false n Q))):=by
    intro f;cases f with
    |false=>
     refine eZ X12 (am2 n Q) (dG ?_);refine⟨?_,_,_,_,rfl,Zn n Q X⟩
     repeat' (first|exact cW|refine kg ?_ ?_)
     . exact h0
     . omega
     . exact qu L
    |true=>
     refine eZ X12 (am3 n Q) (dG ?_);refine⟨?_,_,_,_,rfl,Zn n Q X⟩
     repeat' (first|exact cW|refine kg ?_ ?_)
     . exact h0
     . omega
     . exact qu L
   exact iq mo po Tryz.func63 U U rfl rfl (key f)
 . cases e
noncomputable abbrev W13:jY:=kC 63 (FP LN) W12
theorem LO:gm ak W13:=fh abF Sj
noncomputable abbrev EY:e9:=gL ak W13 H0 1000 40
noncomputable abbrev Pp:CX ak:=CX.of mo po LO H0 1000 40
def rF(l:List (Nat×List (Nat×pC)))(f:FuncId):List (Nat×pC):=match l with
 | []=>[]
 |x::r=>match Nat.beq x.1 f with
  |true=>x.2
  |false=>rF r f
section
variable(l:List (Nat×List (Nat×pC)))
noncomputable abbrev csP:e9:=gL ak W13 (rF l) 1000 40
noncomputable abbrev XP:CX ak:=CX.of mo po LO (rF l) 1000 40
end
def tf(d:B)(O:List (B))(k:Int):lf:=.agg [.str d,.dV O.length (strs O),.int .i64 k]
def nW(d:B)(O:List (B))(k:Int):V:=.agg [.str d,.dV false O.length (strs O),.int .i64 k]
def zO:V:=.agg [.str [],.dx none 0 0 0,.int .i64 0]
noncomputable abbrev Pq:Code:=dO Tryz.f73
noncomputable abbrev LP:Code:=dw 1 Pq
noncomputable abbrev Jy:Code:=dS LP
noncomputable abbrev abG:Code:=dU LP
noncomputable abbrev V7:Code:=dO Tryz.f43
def abH(p:gx):H rs:=K (fM p++[(7,.cells [.ptr (some (3,0))])])
def pL(lo:Option (Nat×Nat×B))(F R D:Int)[eB](C O:ae):gx:=⟨lo,F,R,false,eB.on,D,C,O⟩
def f41:V:=.fn (.func 41) [] []
def f44:V:=.fn (.func 44) [] [.ptr (some (7,0))]
section
variable(h:H rs)(I:Nat)(gv:V)(f:Bool)(O:List (B))
def EZ(i:Nat):St:=eL [(0,.dV f O.length (strs O)),(1,gv),(7,.int .i64 (Int.ofNat O.length)),(8,.int .i64 (Int.ofNat i))] h I
def V8:St:=eL [(0,.dV f O.length (strs O)),(1,gv)] h I
end
section
variable(f:Bool)(O:List (B))(x:B)(i T A:Nat)(b:B)(F R D:Int)
theorem am4:dc EY [(8,.di (.int .i64 (Int.ofNat 0)))] 3 Tryz.f73 [0,1,7,8] (dS Jy) (V8 (K []) 3 f41 f O) [([],[V.int aj (0:Int)=V.int aj (0:Int)],eP (eL [(0,.dV (f) (O.length) (strs O)),(1,.fn (.func 41) [] []),(7,.int .i64 ((Int.ofNat O.length))),(8,.int .i64 0)] (K []) 3))]:=cT.ef
theorem af8:dc EY [(9,.split),(14,.di (.eK [.str x])),(16,.split),(18,.di (.int .i64 (Int.ofNat (i+1))))] 3 Tryz.f73 [0,1,7,8] (dD (dD (dU Jy))) (EZ (K []) 3 f41 f O i) (Jl (decide (Int.ofNat i<Int.ofNat O.length)) (!(Int.ofNat x.length)==(32:Int)) ([kJ i O.length,(strs O).length=O.length*1,V.eK (eX (strs O) ((Int.ofNat i).toNat*1) 1)=V.eK [lf.str x]],.ret (.int .i64 (Int.ofNat i)) (K []) 3) ([kJ i O.length,(strs O).length=O.length*1,V.eK (eX (strs O) ((Int.ofNat i).toNat*1) 1)=V.eK [lf.str x],V.int aj (IntKind.i64.wrap (Int.ofNat i+(1:Int)))=V.int aj (Int.ofNat (i+1))],eP (eL [(0,.dV (f) (O.length) (strs O)),(1,.fn (.func 41) [] []),(7,.int .i64 (Int.ofNat O.length)),(8,.int .i64 (Int.ofNat (i+1)))] (K []) 3)) ([],.to (.exit 0) (eL [(0,.dV (f) (O.length) (strs O)),(1,.fn (.func 41) [] []),(7,.int .i64 (Int.ofNat O.length)),(8,.int .i64 (Int.ofNat i))] (K []) 3))):=cT.ef
theorem af9(d0:B)(iP:List (B))(k F R D:Int)[eB](C N:ae):dc (csP [(18,[(15,.di (.ew [nW d0 iP k,.bool true]))])]) [(9,.split),(14,.di (.eK [.str x])),(18,.di (.int .i64 (Int.ofNat (i+1))))] 8 Tryz.f73 [0,1,7,8] (dD (dD (dU Jy))) (EZ (abH (pL (some (T,A,b)) F R D C N)) 8 f44 f O i) (iU (decide (Int.ofNat i<Int.ofNat O.length)) ([kJ i O.length,(strs O).length=O.length*1,V.eK (eX (strs O) ((Int.ofNat i).toNat*1) 1)=V.eK [lf.str x],(if true=true then V.ew [lf.fI (V.agg [V.str ([]:B),V.dx none 0 0 0,V.int aj (0:Int)]) (dj (lf.str x) (pL (some (T,A,b)) F R D C N).C),V.bool (dj (lf.str x) (pL (some (T,A,b)) F R D C N).C).isSome]else lf.fI (V.agg [V.str ([]:B),V.dx none 0 0 0,V.int aj (0:Int)]) (dj (lf.str x) (pL (some (T,A,b)) F R D C N).C))=V.ew [nW d0 iP k,V.bool true],V.int aj (IntKind.i64.wrap (Int.ofNat i+(1:Int)))=V.int aj (Int.ofNat (i+1))],eP (eL [(0,.dV (f) (O.length) (strs O)),(1,.fn (.func 44) [] [.ptr (some (7,0))]),(7,.int .i64 (Int.ofNat O.length)),(8,.int .i64 (Int.ofNat (i+1)))] (K [(0,.ints .u32 gS),(1,.ints .u32 gR),(3,.cells [.dx (some (4,0)) T A 1,.int .i64 ((pL (some (T,A,b)) F R D C N).F),.map (some 5),.map (some 6),.int .i64 ((pL (some (T,A,b)) F R D C N).R),.bool false,.bool eB.on,.int .i64 ((pL (some (T,A,b)) F R D C N).D)]),(4,.ia 5 false (b)),(5,.dy none ((pL (some (T,A,b)) F R D C N).C)),(6,.dy none ((pL (some (T,A,b)) F R D C N).O)),(7,.cells [.ptr (some (3,0))])]) 8)) ([],.to (.exit 0) (eL [(0,.dV (f) (O.length) (strs O)),(1,.fn (.func 44) [] [.ptr (some (7,0))]),(7,.int .i64 (Int.ofNat O.length)),(8,.int .i64 (Int.ofNat i))] (K [(0,.ints .u32 gS),(1,.ints .u32 gR),(3,.cells [.dx (some (4,0)) T A 1,.int .i64 ((pL (some (T,A,b)) F R D C N).F),.map (some 5),.map (some 6),.int .i64 ((pL (some (T,A,b)) F R D C N).R),.bool false,.bool eB.on,.int .i64 ((pL (some (T,A,b)) F R D C N).D)]),(4,.ia 5 false (b)),(5,.dy none ((pL (some (T,A,b)) F R D C N).C)),(6,.dy none ((pL (some (T,A,b)) F R D C N).O)),(7,.cells [.ptr (some (3,0))])]) 8))):=cT.ef
theorem aga[eB](C N:ae):dc (csP [(18,[(15,.di (.ew [zO,.bool false]))])]) [(9,.split),(14,.di (.eK [.str x])),(18,.di (.int .i64 (Int.ofNat (i+1))))] 8 Tryz.f73 [0,1,7,8] (dD (dD (dU Jy))) (EZ (abH (pL (some (T,A,b)) F R D C N)) 8 f44 f O i) (iU (decide (Int.ofNat i<Int.ofNat O.length)) ([kJ i O.length,(strs O).length=O.length*1,V.eK (eX (strs O) ((Int.ofNat i).toNat*1) 1)=V.eK [lf.str x],(if true=true then V.ew [lf.fI (V.agg [V.str ([]:B),V.dx none 0 0 0,V.int aj (0:Int)]) (dj (lf.str x) (pL (some (T,A,b)) F R D C N).C),V.bool (dj (lf.str x) (pL (some (T,A,b)) F R D C N).C).isSome]else lf.fI (V.agg [V.str ([]:B),V.dx none 0 0 0,V.int aj (0:Int)]) (dj (lf.str x) (pL (some (T,A,b)) F R D C N).C))=V.ew [zO,V.bool false]],.ret (.int .i64 (Int.ofNat i)) (K [(0,.ints .u32 gS),(1,.ints .u32 gR),(3,.cells [.dx (some (4,0)) T A 1,.int .i64 ((pL (some (T,A,b)) F R D C N).F),.map (some 5),.map (some 6),.int .i64 ((pL (some (T,A,b)) F R D C N).R),.bool false,.bool eB.on,.int .i64 ((pL (some (T,A,b)) F R D C N).D)]),(4,.ia 5 false (b)),(5,.dy none ((pL (some (T,A,b)) F R D C N).C)),(6,.dy none ((pL (some (T,A,b)) F R D C N).O)),(7,.cells [.ptr (some (3,0))])]) 8) ([],.to (.exit 0) (eL [(0,.dV (f) (O.length) (strs O)),(1,.fn (.func 44) [] [.ptr (some (7,0))]),(7,.int .i64 (Int.ofNat O.length)),(8,.int .i64 (Int.ofNat i))] (K [(0,.ints .u32 gS),(1,.ints .u32 gR),(3,.cells [.dx (some (4,0)) T A 1,.int .i64 ((pL (some (T,A,b)) F R D C N).F),.map (some 5),.map (some 6),.int .i64 ((pL (some (T,A,b)) F R D C N).R),.bool false,.bool eB.on,.int .i64 ((pL (some (T,A,b)) F R D C N).D)]),(4,.ia 5 false (b)),(5,.dy none ((pL (some (T,A,b)) F R D C N).C)),(6,.dy none ((pL (some (T,A,b)) F R D C N).O)),(7,.cells [.ptr (some (3,0))])]) 8))):=cT.ef
end
theorem c7{f:FuncId}{fn:Func}{code:Code}(hf:Tryz.prog.funcs[f]? =some fn)(hb:fn.body=some code){args:ag}{h X:H rs}{n n1:Nat}{v:V}
  (l:(Nat.ble args.length fn.ntmps&&Nat.blt fn.ntmps fW)=true) (hT:TG ak n fn.ntmps code (cZ args h n) (fL ak n fn fun a b c=>a=v/\b=X/\c=n1)):c5 ak f args h n v X n1:=
 fun _ _ _ ra g hd=>zF mo po hf hb l v X n1 hT ra g hd
noncomputable abbrev V9:Code:=dD (dD (dU Jy))
theorem Zo{I:Nat}{h:H rs}{gv:V}{f:Bool}{O:List (B)}{nx:V->H rs->Nat->Prop}
  (h0:TG ak I Tryz.f73.ntmps (dS Jy) (V8 h I gv f O) (andThen (fun s'=>fe I [0,1,7,8] s'=some (EZ h I gv f O 0)) fun _ _=>False))
  (hr:∀i x,O[i]? =some x->TG ak I Tryz.f73.ntmps V9 (EZ h I gv f O i) (andThen (fun s'=>fe I [0,1,7,8] s'=some (EZ h I gv f O (i+1))) fun _ _=>False))
  (he:TG ak I Tryz.f73.ntmps V9 (EZ h I gv f O O.length) fun y s'=>y= .exit 0/\fe I [0,1,7,8] s'=some (EZ h I gv f O O.length))
  (hz:TG ak I Tryz.f73.ntmps abG (EZ h I gv f O O.length) (fL ak I Tryz.f73 nx)):TG ak I Tryz.f73.ntmps LP (V8 h I gv f O) (fL ak I Tryz.f73 nx):=by
 refine c6 U ?_;refine c6 U ?_;refine fB h0 fun y s' ek=>?_;cases y<;>first|exact ek.elim|skip
 have ek:fe I [0,1,7,8] s'=some (EZ h I gv f O 0):=ek;refine fk (i:=0) U (fB (Q1:=fun z s'=>z= .exit 0/\fe I [0,1,7,8] s'=some (EZ h I gv f O O.length)) (gw (fun k' s=>∃i,k'=O.length-i/\i<=O.length/\fe I [0,1,7,8] s=some (EZ h I gv f O i)) U ?_ O.length ⟨0,rfl,aX _,ek⟩) ?_)
 . rintro k' s1 ⟨i,hk,hi,fQ⟩;refine dh fQ ?_;rcases bO i O.length with fH|AE
   . refine fB (hr i _ (az fH)) fun y s2 gY=>?_;cases y<;>first|exact gY.elim|skip
     exact⟨O.length-(i+1),L,i+1,rfl,L,gY⟩
   . obtain rfl:i=O.length:=by omega
     refine fB he fun y s2 gY=>?_;obtain⟨rfl,gY⟩:=gY;exact⟨rfl,gY⟩
 rintro y s2 ⟨rfl,gY⟩;rw[dY];simp only[andThen];exact dh gY hz
section
variable(f:Bool){C:ae}(O:List (B)){x:B}
theorem abI(i:Nat):dc EY [] 3 Tryz.f73 [] abG (EZ (K []) 3 f41 f O i) [([],[],.ret (.int .i64 (-1)) (K []) 3)]:=
 cT.ef
theorem agb:dc EY [] 3 Tryz.f73 [0,1] (eU 1 Pq) (cZ [.dV f O.length (strs O),f41] (K []) 3) [([],[],eP (V8 (K []) 3 f41 f O))]:=
 cT.ef
theorem abJ(hl:O.length<=1000000)(hg:∀x∈O,x.length=32):TG ak 3 Tryz.f73.ntmps Pq (cZ [.dV f O.length (strs O),f41] (K []) 3) (fL ak 3 Tryz.f73 fun a b c=>a= .int .i64 (-1)/\b=K []/\c=3):=by
 have hO:∀n:Nat,Int.ofNat n=(n:Int):=fun _=>rfl;refine iw  1 Pp (agb f O) cW ?_;show TG ak 3 Tryz.f73.ntmps LP _ _;refine Zo ?_ (fun i x M=>?_) ?_ ?_
 . refine fV Pp (am4 f O) (dG ?_);exact⟨fun p hp=>by rw[au]at hp;subst hp;rfl,fun s' ek=>ek⟩
 . have fH:i<O.length:=(aH.1 M).1;have am5:x.length=32:=hg x (bg M);refine fV Pp (af8 f O x i) fun g hg J=>?_;simp only[aD,aN,br]at hg;rcases hg with rfl|rfl|rfl
   . have:=J _ (aM _ (au.2 rfl));simp[am5]at this
   . refine⟨?_,fun s' ek=>ek⟩
     repeat' (first|exact cW|refine kg ?_ ?_)
     . exact⟨aA _,dr⟩
     . rw[eN,bn]
     . exact aL V.eK (fR M)
     . exact fP dr L
   . exact absurd (aK (J _ (au.2 rfl))) dr
 . refine fV Pp (af8 f O [] O.length) fun g hg J=>?_;simp only[aD,aN,br]at hg;rcases hg with rfl|rfl|rfl
   . exact absurd (aI (J _ (aQ ..))) dr
   . exact absurd (aI (J _ (aQ ..))) dr
   . exact⟨cW,fun s' ek=>⟨rfl,ek⟩⟩
 . refine eZ Pp (abI f O O.length) (dG ?_);exact⟨cW,_,_,_,rfl,rfl,rfl,rfl⟩
def Cn(C:ae)(x:B):Prop:=∃d O k,dj (.str x) C=some (tf d O k)
theorem kZ{d:B}{O:List (B)}{k:Int}(h:dj (.str x) C=some (tf d O k)):
  (if true=true then V.ew [lf.fI (V.agg [V.str ([]:B),V.dx none 0 0 0,V.int aj (0:Int)]) (dj (lf.str x) C),V.bool (dj (lf.str x) C).isSome]else lf.fI (V.agg [V.str ([]:B),V.dx none 0 0 0,V.int aj (0:Int)]) (dj (lf.str x) C))=V.ew [nW d O k,V.bool true]:=by
 rw[aF rfl,h];rfl
theorem nc(h:dj (.str x) C=none):
  (if true=true then V.ew [lf.fI (V.agg [V.str ([]:B),V.dx none 0 0 0,V.int aj (0:Int)]) (dj (lf.str x) C),V.bool (dj (lf.str x) C).isSome]else lf.fI (V.agg [V.str ([]:B),V.dx none 0 0 0,V.int aj (0:Int)]) (dj (lf.str x) C))=V.ew [zO,V.bool false]:=by
 rw[aF rfl,h];rfl
end
section
variable(T A:Nat)(b:B)(F R D:Int)[eB](C N:ae)
abbrev hB:H rs:=abH (pL (some (T,A,b)) F R D C N)
section
variable(f:Bool)(O:List (B))
theorem Sm(i:Nat):dc EY [] 8 Tryz.f73 [] abG (EZ (hB T A b F R D C N) 8 f44 f O i) [([],[],.ret (.int .i64 (-1)) (hB T A b F R D C N) 8)]:=
 cT.ef
theorem Nq:dc EY [] 8 Tryz.f73 [0,1] (eU 1 Pq) (cZ [.dV f O.length (strs O),f44] (hB T A b F R D C N) 8) [([],[],eP (V8 (hB T A b F R D C N) 8 f44 f O))]:=
 cT.ef
theorem Sn:dc EY [(8,.di (.int .i64 (Int.ofNat 0)))] 8 Tryz.f73 [0,1,7,8] (dS Jy) (V8 (hB T A b F R D C N) 8 f44 f O) [([],[V.int .i64 0=V.int .i64 0],eP (EZ (hB T A b F R D C N) 8 f44 f O 0))]:=
 cT.ef
theorem abK(hl:O.length<=1000000)(hg:∀x∈O,Cn C x):TG ak 8 Tryz.f73.ntmps Pq (cZ [.dV f O.length (strs O),f44] (hB T A b F R D C N) 8) (fL ak 8 Tryz.f73 fun a b' c=>a= .int .i64 (-1)/\b'=hB T A b F R D C N/\c=8):=by
 have hO:∀n:Nat,Int.ofNat n=(n:Int):=fun _=>rfl;refine iw  1 Pp (Nq T A b F R D C N f O) cW ?_;show TG ak 8 Tryz.f73.ntmps LP _ _;refine Zo ?_ (fun i x M=>?_) ?_ ?_
 . refine fV Pp (Sn T A b F R D C N f O) (dG ?_);exact⟨fun p hp=>by rw[au]at hp;subst hp;rfl,fun s' ek=>ek⟩
 . have fH:i<O.length:=(aH.1 M).1;obtain⟨d0,iP,k,hk⟩:=hg x (bg M);refine fV (XP [(18,[(15,.di (.ew [nW d0 iP k,.bool true]))])]) (af9 f O x i T A b d0 iP k F R D C N) fun g hg J=>?_;simp only[aD,aN,br]at hg;rcases hg with rfl|rfl
   . refine⟨?_,fun s' ek=>ek⟩
     repeat' (first|exact cW|refine kg ?_ ?_)
     . exact⟨aA _,dr⟩
     . rw[eN,bn]
     . exact aL V.eK (fR M)
     . exact kZ hk
     . exact fP dr L
   . exact absurd (aK (J _ (au.2 rfl))) dr
 . refine fV (XP [(18,[(15,.di (.ew [zO,.bool false]))])]) (aga f O [] O.length T A b F R D C N) fun g hg J=>?_;simp only[aD,aN,br]at hg;rcases hg with rfl|rfl
   . exact absurd (aI (J _ (au.2 rfl))) dr
   . exact⟨cW,fun s' ek=>⟨rfl,ek⟩⟩
 . refine eZ Pp (Sm T A b F R D C N f O O.length) (dG ?_);exact⟨cW,_,_,_,rfl,rfl,rfl,rfl⟩
end
end
end Go.Proofs.YtfihojpgobmmdaaGreatDoor
