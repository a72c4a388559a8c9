/- The Chunk laws: a store in memory, under names of our own; contracts of its methods. No conditions. -/
import Derived.Test.YtfihojpgobmmdaaGreatDoorJointW05
import Derived.Test.YtfihojpgobmmdaaGreatDoorJointW06
set_option linter.unusedVariables false
set_option linter.unusedSimpArgs false
set_option linter.unusedSectionVars false
namespace Go.Proofs.YtfihojpgobmmdaaGreatDoor
open Go Go.Eng
theorem Dd:∀(l:List (Option Nat)) (j0 m i:Nat),l.getD i none=some m->(∀i',i'<i->l.getD i' none≠some m)->As l j0 m=some (j0+i)
 | [],_,_,i,h,_=>by simp at h
 |x::l,j0,m,0,h,_=>by
  have h:x=some m:=by simpa using h
  subst h;simp only[As,cM];rfl
 |x::l,j0,m,i+1,h,fP=>by
  have ih:=Dd l (j0+1) m i (by simpa using h) (fun i' hi=>by have:=fP (i'+1) be;simpa using this);have h0:=fP 0 be;have e:j0+1+i=j0+(i+1):=by omega
  cases x with
  |none=>simp only[As,ih,e]
  |some k=>
   have:Nat.beq k m=false:=by
    cases q:Nat.beq k m with
    |false=>rfl
    |true=>exact absurd (by simp[aD q]) h0
   simp only[As,this,ih,e]
theorem De{ns:List (Option Nat)}(hn:nr ns=true){j m:Nat}(h:ns.getD j none=some m):mu ns m=some j:=by
 have:=Dd ns 0 m j h fun i hi q=>by have:=oJ hn i j m q h;omega
 simpa using this
structure gX where
 lo:Option (Nat×Nat×aa)
 fl:Int
 nx:Int
 off:Bool
 arm:Bool
 lf:Int
 es:ae
 rs:ae
def lgV(g:Nat):Option (Nat×Nat×aa)->V
 |none=>.di none 0 0 0
 |some (cO,cP,_)=>.di (some (g,0)) cO cP 1
def wI(g c r:Nat)(p:gX):ag:=[lgV g p.lo,.int .i64 p.fl,.map (some c),.map (some r),.int .i64 p.nx,.bool p.off,.bool p.arm,.int .i64 p.lf]
def eP(p:gX):af:=match p.lo with
 |none=>[(0,.ints .u32 gS),(1,.ints .u32 gR),(3,.cells (wI 4 5 6 p)),(5,.dy none p.es),(6,.dy none p.rs)]
 |some (_,_,b)=>[(0,.ints .u32 gS),(1,.ints .u32 gR),(3,.cells (wI 4 5 6 p)),(4,.iX 5 false b),(5,.dy none p.es),(6,.dy none p.rs)]
def eu(p:gX):Tr O:=hL (eP p)
def I1(h:Tr O)(m:Nat):Option (List (Option Nat)×gX):=match h.get m with
 |some (.cells [lg,.int .i64 fl,.map (some c),.map (some r),.int .i64 nx,.bool off,.bool arm,.int .i64 lf])=>match h.get c,h.get r with
  |some (.dy none es),some (.dy none rs)=>match lg with
   | .di none 0 0 0=>some ([some 0,some 1,some 2,some m,none,some c,some r],⟨none,fl,nx,off,arm,lf,es,rs⟩)
   | .di (some (g,0)) cO cP 1=>match h.get g with
     |some (.iX 5 false b)=>some ([some 0,some 1,some 2,some m,some g,some c,some r],⟨some (cO,cP,b),fl,nx,off,arm,lf,es,rs⟩)
     |_=>none
   |_=>none
  |_,_=>none
 |_=>none
def okN(ns:List (Option Nat)):Bool:=nr ns&&ns.all fun x=>match x with|some m=>Nat.blt m fN|none=>true
section
variable{h:Tr O}{m:Nat}{ns:List (Option Nat)}{p:gX}
theorem Ld(e:I1 h m=some (ns,p)):∃g c r,h.get m=some (.cells (wI g c r p))/\h.get c=some (.dy none p.es)/\h.get r=some (.dy none p.rs)/\
  ((p.lo=none/\ns=[some 0,some 1,some 2,some m,none,some c,some r])\/∃cO cP b,p.lo=some (cO,cP,b)/\h.get g=some (.iX 5 false b)/\ns=[some 0,some 1,some 2,some m,some g,some c,some r]):=by
 unfold I1 at e;split at e
 case h_2=>cases e
 rename_i lg fl c r nx off arm lf hm;split at e
 case h_2=>cases e
 rename_i es rs hc hr;split at e
 . obtain⟨rfl,rfl⟩:=fa e;exact⟨0,c,r,hm,hc,hr,.inl ⟨rfl,rfl⟩⟩
 . rename_i g cO cP;split at e
   . rename_i b hg;obtain⟨rfl,rfl⟩:=fa e;exact⟨g,c,r,hm,hc,hr,.inr ⟨cO,cP,b,rfl,hg,rfl⟩⟩
   . cases e
 . cases e
theorem I2(e:I1 h m=some (ns,p))(ht:KV h=some (gS,gR))(hn:okN ns=true):vn ns h (eu p)/\ns.length=7/\∀j k,ns.getD j none=some k->k<fN:=by
 obtain⟨g,c,r,hm,hc,hr,qx⟩:=Ld e;obtain⟨h0,h1⟩:=Ax ht;simp only[okN,aC]at hn;obtain⟨Km,uZ⟩:=hn;have gH:∀j k,ns.getD j none=some k->k<fN:=by
  intro j k hk;have xC:some k∈ns:=by
   rw[aL]at hk;cases hx:ns[j]? with
   |none=>rw[hx]at hk;cases hk
   |some x=>rw[hx]at hk;simp only[Option.getD_some]at hk;subst hk;exact bf hx
  exact au (bn.1 uZ _ xC)
 have aeN:ns.getD 0 none=some 0/\ns.getD 1 none=some 1/\ns.getD 2 none=some 2/\ns.getD 3 none=some m/\ns.getD 5 none=some c/\ns.getD 6 none=some r/\ns.length=7:=by
  rcases qx with⟨_,rfl⟩|⟨_,_,_,_,_,rfl⟩<;>exact⟨rfl,rfl,rfl,rfl,rfl,rfl,rfl⟩
 obtain⟨g0,g1,g2,g3,g5,g6,iT⟩:=aeN;have mc:=De Km g5;have mr:=De Km g6;have hgl:∀q∈jN,ns.getD q.2 none=some q.2:=by
  intro q hq;simp only[jN,aE,aM,bt]at hq;rcases hq with rfl|rfl|rfl
  . exact g0
  . exact g1
  . exact g2
 have Uw:∀q,q<3->∃z∈jN,z.2=q:=by
  intro q hq;rcases q with _|_|_|q
  . exact⟨(0,0),by simp[jN],rfl⟩
  . exact⟨(1,1),by simp[jN],rfl⟩
  . exact⟨(2,2),by simp[jN],rfl⟩
  . omega
 refine⟨?_,iT,gH⟩;rcases qx with⟨yF,F7⟩|⟨cO,cP,b,yF,hg,F7⟩
 . unfold eu eP;rw[yF];refine Ay (fun q hq=>?_) hgl Km (fun j k hj=>?_) ?_
   . simp only[aE,aM,bt]at hq;rcases hq with rfl|rfl|rfl|rfl|rfl<;>exact au rfl
   . rw[F7]at hj
     match j,hj with
     |0,hj=>cases hj;exact .inl (Uw 0 be)
     |1,hj=>cases hj;exact .inl (Uw 1 be)
     |2,hj=>cases hj;exact .inl (Uw 2 be)
     |3,hj=>cases hj;exact .inr (by rw[hm];simp)
     |4,hj=>cases hj
     |5,hj=>cases hj;exact .inr (by rw[hc];simp)
     |6,hj=>cases hj;exact .inr (by rw[hr];simp)
     |j+7,hj=>simp at hj
   . intro q hq;simp only[aE,aM,bt]at hq;rcases hq with rfl|rfl|rfl|rfl|rfl
     . exact⟨_,_,g0,h0,rfl⟩
     . exact⟨_,_,g1,h1,rfl⟩
     . refine⟨_,_,g3,hm,?_⟩;simp only[wI,yF,lgV,O.rn,V.D0,V.rn,mc,mr]
     . exact⟨_,_,g5,hc,rfl⟩
     . exact⟨_,_,g6,hr,rfl⟩
 . have g4:ns.getD 4 none=some g:=by rw[F7];rfl
   have mg:=De Km g4;unfold eu eP;rw[yF];refine Ay (fun q hq=>?_) hgl Km (fun j k hj=>?_) ?_
   . simp only[aE,aM,bt]at hq;rcases hq with rfl|rfl|rfl|rfl|rfl|rfl<;>exact au rfl
   . rw[F7]at hj
     match j,hj with
     |0,hj=>cases hj;exact .inl (Uw 0 be)
     |1,hj=>cases hj;exact .inl (Uw 1 be)
     |2,hj=>cases hj;exact .inl (Uw 2 be)
     |3,hj=>cases hj;exact .inr (by rw[hm];simp)
     |4,hj=>cases hj;exact .inr (by rw[hg];simp)
     |5,hj=>cases hj;exact .inr (by rw[hc];simp)
     |6,hj=>cases hj;exact .inr (by rw[hr];simp)
     |j+7,hj=>simp at hj
   . intro q hq;simp only[aE,aM,bt]at hq;rcases hq with rfl|rfl|rfl|rfl|rfl|rfl
     . exact⟨_,_,g0,h0,rfl⟩
     . exact⟨_,_,g1,h1,rfl⟩
     . refine⟨_,_,g3,hm,?_⟩;simp only[wI,yF,lgV,O.rn,V.D0,V.rn,mc,mr,mg]
     . exact⟨_,_,g4,hg,rfl⟩
     . exact⟨_,_,g5,hc,rfl⟩
     . exact⟨_,_,g6,hr,rfl⟩
end
abbrev Rq:=gX->ag->Option (ah×V×Tr O×Nat)
def U1(sp:Rq):ag->Tr O->Nat->Option (ah×V×Tr O×Nat):=fun args h n=>match args with
 | .ptr (some (m,0))::_=>match KV h,I1 h m with
   |some (st,rd),some (ns,p)=>match okN ns,V.D0 (mu ns) args with
    |true,some nH=>match sp p nH with
     |some (A,v1,h1,n1)=>match Eh ns (eu p) (v1,h1,n1) h n with
      |some (v,h2,n2)=>some ((st=gS)::(rd=gR)::A,v,h2,n2)
      |none=>none
     |none=>none
    |_,_=>none
   |_,_=>none
 |_=>none
theorem U2{f:FuncId}{fn:Func}{code:Code}{sp:Rq}(fJ:f<Tryz.prog.funcs.size)(hf:Tryz.prog.funcs[f]? =some fn)(hb:fn.body=some code)
  (hT:∀p args A v1 h1 n1,sp p args=some (A,v1,h1,n1)->(∀a∈A,a)->(Nat.ble args.length fn.ntmps&&Nat.blt fn.ntmps fN)=true/\TG ak 7 fn.ntmps code (cT args (eu p) 7) (fH ak 7 fn fun a b c=>a=v1/\b=h1/\c=n1)):jG ak f (U1 sp):=by
 refine⟨fJ,fun args h n A v h2 n2 e hA E w c9 ra g hd hc=>?_⟩;unfold U1 at e;split at e
 case h_2=>cases e
 rename_i m rest;split at e
 case h_2=>cases e
 rename_i st rd ns p ht hs;split at e
 case h_2=>cases e
 rename_i nH ic Up;split at e
 case h_2=>cases e
 rename_i A1 v1 h1 n1 hsp;split at e
 case h_2=>cases e
 rename_i v2 h3 n3 hem;simp only[an,aB]at e;obtain⟨rfl,rfl,rfl,rfl⟩:=e;have e1:st=gS:=hA _ (by simp);have e2:rd=gR:=hA _ (by simp);subst e1 e2;obtain⟨hp,iT,_⟩:=I2 hs ht ic;obtain⟨l,hTG⟩:=hT p nH A1 v1 h1 n1 hsp fun a ha=>hA a (by simp[ha]);exact Fa mo po hf hb l hp Up hem (by rw[iT];exact hTG) ra g hd
theorem alu:c7 UW [] 3 Tryz.f63 [] (dS Tryz.f63) (cT [.di none 0 0 0] .nil 3) [([],
   [],
   .ret (.di none 0 0 0) (hL []) 3)]
 :=cQ.of U U U
theorem alv(n:Nat)(cs:ai):c7 UW [] 3 Tryz.f63 [] (dS Tryz.f63) (cT [.dM false n cs] .nil 3) [([],
   [(0<n),(cs.length=n*1),(eT (0+n) 1 16=true)],
   .ret (.di (some (3,0)) (0+n) (0+n) 1) (hL [(3,.deep ([]++cs))]) 4)]
 :=cQ.of U U U
theorem alw(n:Nat)(cs:ai):c7 UW [] 3 Tryz.f63 [] (dS Tryz.f63) (cT [.dM true n cs] .nil 3) [([],
   [(0<n),(cs.length=n*1),(eT (0+n) 1 16=true)],
   .ret (.di (some (3,0)) (0+n) (0+n) 1) (hL [(3,.deep ([]++cs))]) 4)]
 :=cQ.of U U U
def Le:ag->Option (ah×V)
 | [.di none 0 0 0]=>some ([],.di none 0 0 0)
 | [.dM _ n cs]=>some ([0<n,cs.length=n,n<=1000000],.dM false n cs)
 |_=>none
theorem Yj(n:Nat)(cs:ai)(h0:cs.length=n):nB (.dM false n cs) (.di (some (3,0)) (0+n) (0+n) 1) (hL [(3,.deep ([]++cs))]) 4:=by
 refine⟨[[3]],[([]++cs).length=(0+n)*1],{ fr:=Tr.nil.set 0 (some (.dM false (0+n) ([]++cs))),h:=(hL [(3,.deep ([]++cs))]).set 3 none,n:=4,gz:=[] },U,fun a ha=>?_,?_⟩
 . rw[aq]at ha;subst ha;rw[cD];omega
 . have e:0+n=n:=bE n;rw[e];rfl
theorem aaw:jG ak 63 (E7 Le):=by
 refine IN (au U) fun args A v e hA=>?_;unfold Le at e;split at e
 . obtain⟨rfl,rfl⟩:=fa e;obtain⟨L,hr⟩:=alu;exact gU mo po Tryz.func63 U U rfl rfl (fe (GJ X12 mo U (by
    have:L=[]:=by
     have h2:=hr;unfold cQ at h2;have h3:QL ak UW [] 1000 3 Tryz.f63 [] (dS Tryz.f63) (cT [.di none 0 0 0] .nil 3)=some ([],[],[([],[],.ret (.di none 0 0 0) (hL []) 3)]):=by kernel_rfl
     rw[h3]at h2;simp only[an,aB]at h2;exact h2.1.symm
    subst this;exact hr) cR) fun y s h=>jZ h)
 . rename_i f n cs;obtain⟨rfl,rfl⟩:=fa e;have h0:0<n:=hA _ (by simp);have h1:cs.length=n:=hA (cs.length=n) (by simp);have h2:n<=1000000:=hA (n<=1000000) (by simp);have key:∀f,TG ak gN Tryz.f63.ntmps (dS Tryz.f63) (cT [.dM f n cs] .nil gN) (fH ak gN Tryz.f63 (nB (.dM false n cs))):=by
    intro f;cases f with
    |false=>
     refine fu X12 (alv n cs) (dG ?_);refine⟨?_,_,_,_,rfl,Yj n cs h1⟩
     repeat' (first|exact cR|refine ju ?_ ?_)
     . exact h0
     . omega
     . exact pT be
    |true=>
     refine fu X12 (alw n cs) (dG ?_);refine⟨?_,_,_,_,rfl,Yj n cs h1⟩
     repeat' (first|exact cR|refine ju ?_ ?_)
     . exact h0
     . omega
     . exact pT be
   exact gU mo po Tryz.func63 U U rfl rfl (key f)
 . cases e
noncomputable abbrev W13:jL:=kA 63 (E7 Le) W12
theorem Lf:gd ak W13:=fk aaw Rn
noncomputable abbrev I3:e9:=gG ak W13 H0 1000 40
noncomputable abbrev T2:CX ak:=CX.of mo po Lf H0 1000 40
def sw(l:List (Nat×List (Nat×oZ)))(f:FuncId):List (Nat×oZ):=match l with
 | []=>[]
 |x::r=>match Nat.beq x.1 f with
  |true=>x.2
  |false=>sw r f
section
variable(l:List (Nat×List (Nat×oZ)))
noncomputable abbrev csP:e9:=gG ak W13 (sw l) 1000 40
noncomputable abbrev XP:CX ak:=CX.of mo po Lf (sw l) 1000 40
end
def pU(d:aa)(rs:List (aa))(k:Int):D:=.agg [.str d,.dM rs.length (strs rs),.int .i64 k]
def og(d:aa)(rs:List (aa))(k:Int):V:=.agg [.str d,.dM false rs.length (strs rs),.int .i64 k]
def BA:V:=.agg [.str [],.di none 0 0 0,.int .i64 0]
noncomputable abbrev OG:Code:=dS Tryz.f73
noncomputable abbrev Lg:Code:=de 1 OG
noncomputable abbrev GN:Code:=dK Lg
noncomputable abbrev aax:Code:=dV Lg
noncomputable abbrev U3:Code:=dS Tryz.f43
def aay(p:gX):Tr O:=hL (eP p++[(7,.cells [.ptr (some (3,0))])])
def pL(lo:Option (Nat×Nat×aa))(fl nx lf:Int)(es rs:ae):gX:=⟨lo,fl,nx,false,false,lf,es,rs⟩
def f41:V:=.fn (.func 41) [] []
def f44:V:=.fn (.func 44) [] [.ptr (some (7,0))]
section
variable(h:Tr O)(n0:Nat)(gv:V)(f:Bool)(rs:List (aa))
def D1(i:Nat):St:=eF [(0,.dM f rs.length (strs rs)),(1,gv),(7,.int .i64 (Int.ofNat rs.length)),(8,.int .i64 (Int.ofNat i))] h n0
def U4:St:=eF [(0,.dM f rs.length (strs rs)),(1,gv)] h n0
end
section
variable(f:Bool)(rs:List (aa))(x:aa)(i cO cP:Nat)(b:aa)(fl nx lf:Int)(es rt:ae)
theorem alx:c7 I3 [(8,.dc (.int .i64 (Int.ofNat 0)))] 3 Tryz.f73 [0,1,7,8] (dK GN) (U4 (hL []) 3 f41 f rs) [([],
   [(V.int aj (0:Int)=V.int aj (0:Int))],
   .to .normal (eF [(0,.dM (f) (rs.length) (strs rs)),(1,.fn (.func 41) [] []),(7,.int .i64 ((Int.ofNat rs.length))),(8,.int .i64 0)] (hL []) 3))]
 :=cQ.of U U U
theorem aeO:c7 I3 [(9,.split),(14,.dc (.dw [.str x])),(16,.split),(18,.dc (.int .i64 (Int.ofNat (i+1))))] 3 Tryz.f73 [0,1,7,8] (dx (dx (dV GN))) (D1 (hL []) 3 f41 f rs i) [([((decide (Int.ofNat i<Int.ofNat rs.length)),true),((!(Int.ofNat x.length)==(32:Int)),true)],
   [((0:Int)<=Int.ofNat i/\Int.ofNat i<(Int.ofNat rs.length)),((strs rs).length=rs.length*1),(V.dw (dm (strs rs) ((Int.ofNat i).toNat*1) 1)=V.dw [D.str x])],
   .ret (.int .i64 (Int.ofNat i)) (hL []) 3),
  ([((decide (Int.ofNat i<Int.ofNat rs.length)),true),((!(Int.ofNat x.length)==(32:Int)),false)],
   [((0:Int)<=Int.ofNat i/\Int.ofNat i<(Int.ofNat rs.length)),((strs rs).length=rs.length*1),(V.dw (dm (strs rs) ((Int.ofNat i).toNat*1) 1)=V.dw [D.str x]),(V.int aj (IntKind.i64.wrap (Int.ofNat i+(1:Int)))=V.int aj (Int.ofNat (i+1)))],
   .to .normal (eF [(0,.dM (f) (rs.length) (strs rs)),(1,.fn (.func 41) [] []),(7,.int .i64 (Int.ofNat rs.length)),(8,.int .i64 (Int.ofNat (i+1)))] (hL []) 3)),
  ([((decide (Int.ofNat i<Int.ofNat rs.length)),false)],
   [],
   .to (.exit 0) (eF [(0,.dM (f) (rs.length) (strs rs)),(1,.fn (.func 41) [] []),(7,.int .i64 (Int.ofNat rs.length)),(8,.int .i64 (Int.ofNat i))] (hL []) 3))]
 :=cQ.of U U U
theorem aeP(d0:aa)(gJ:List (aa))(k fl nx lf:Int)(es rt:ae):c7 (csP [(18,[(15,.dc (.ef [og d0 gJ k,.bool true]))])]) [(9,.split),(14,.dc (.dw [.str x])),(18,.dc (.int .i64 (Int.ofNat (i+1))))] 8 Tryz.f73 [0,1,7,8] (dx (dx (dV GN))) (D1 (aay (pL (some (cO,cP,b)) fl nx lf es rt)) 8 f44 f rs i) [([((decide (Int.ofNat i<Int.ofNat rs.length)),true)],
   [((0:Int)<=Int.ofNat i/\Int.ofNat i<(Int.ofNat rs.length)),((strs rs).length=rs.length*1),(V.dw (dm (strs rs) ((Int.ofNat i).toNat*1) 1)=V.dw [D.str x]),((if true=true then V.ef [D.fZ (V.agg [V.str ([]:aa),V.di none 0 0 0,V.int aj (0:Int)]) (dj (D.str x) (pL (some (cO,cP,b)) fl nx lf es rt).es),V.bool (dj (D.str x) (pL (some (cO,cP,b)) fl nx lf es rt).es).isSome]else D.fZ (V.agg [V.str ([]:aa),V.di none 0 0 0,V.int aj (0:Int)]) (dj (D.str x) (pL (some (cO,cP,b)) fl nx lf es rt).es))=V.ef [og d0 gJ k,V.bool true]),(V.int aj (IntKind.i64.wrap (Int.ofNat i+(1:Int)))=V.int aj (Int.ofNat (i+1)))],
   .to .normal (eF [(0,.dM (f) (rs.length) (strs rs)),(1,.fn (.func 44) [] [.ptr (some (7,0))]),(7,.int .i64 (Int.ofNat rs.length)),(8,.int .i64 (Int.ofNat (i+1)))] (hL [(0,.ints .u32 gS),(1,.ints .u32 gR),(3,.cells [.di (some (4,0)) cO cP 1,.int .i64 ((pL (some (cO,cP,b)) fl nx lf es rt).fl),.map (some 5),.map (some 6),.int .i64 ((pL (some (cO,cP,b)) fl nx lf es rt).nx),.bool false,.bool false,.int .i64 ((pL (some (cO,cP,b)) fl nx lf es rt).lf)]),(4,.iX 5 false (b)),(5,.dy none ((pL (some (cO,cP,b)) fl nx lf es rt).es)),(6,.dy none ((pL (some (cO,cP,b)) fl nx lf es rt).rs)),(7,.cells [.ptr (some (3,0))])]) 8)),
  ([((decide (Int.ofNat i<Int.ofNat rs.length)),false)],
   [],
   .to (.exit 0) (eF [(0,.dM (f) (rs.length) (strs rs)),(1,.fn (.func 44) [] [.ptr (some (7,0))]),(7,.int .i64 (Int.ofNat rs.length)),(8,.int .i64 (Int.ofNat i))] (hL [(0,.ints .u32 gS),(1,.ints .u32 gR),(3,.cells [.di (some (4,0)) cO cP 1,.int .i64 ((pL (some (cO,cP,b)) fl nx lf es rt).fl),.map (some 5),.map (some 6),.int .i64 ((pL (some (cO,cP,b)) fl nx lf es rt).nx),.bool false,.bool false,.int .i64 ((pL (some (cO,cP,b)) fl nx lf es rt).lf)]),(4,.iX 5 false (b)),(5,.dy none ((pL (some (cO,cP,b)) fl nx lf es rt).es)),(6,.dy none ((pL (some (cO,cP,b)) fl nx lf es rt).rs)),(7,.cells [.ptr (some (3,0))])]) 8))]
 :=cQ.of U U U
theorem aeQ:c7 (csP [(18,[(15,.dc (.ef [BA,.bool false]))])]) [(9,.split),(14,.dc (.dw [.str x])),(18,.dc (.int .i64 (Int.ofNat (i+1))))] 8 Tryz.f73 [0,1,7,8] (dx (dx (dV GN))) (D1 (aay (pL (some (cO,cP,b)) fl nx lf es rt)) 8 f44 f rs i) [([((decide (Int.ofNat i<Int.ofNat rs.length)),true)],
   [((0:Int)<=Int.ofNat i/\Int.ofNat i<(Int.ofNat rs.length)),((strs rs).length=rs.length*1),(V.dw (dm (strs rs) ((Int.ofNat i).toNat*1) 1)=V.dw [D.str x]),((if true=true then V.ef [D.fZ (V.agg [V.str ([]:aa),V.di none 0 0 0,V.int aj (0:Int)]) (dj (D.str x) (pL (some (cO,cP,b)) fl nx lf es rt).es),V.bool (dj (D.str x) (pL (some (cO,cP,b)) fl nx lf es rt).es).isSome]else D.fZ (V.agg [V.str ([]:aa),V.di none 0 0 0,V.int aj (0:Int)]) (dj (D.str x) (pL (some (cO,cP,b)) fl nx lf es rt).es))=V.ef [BA,V.bool false])],
   .ret (.int .i64 (Int.ofNat i)) (hL [(0,.ints .u32 gS),(1,.ints .u32 gR),(3,.cells [.di (some (4,0)) cO cP 1,.int .i64 ((pL (some (cO,cP,b)) fl nx lf es rt).fl),.map (some 5),.map (some 6),.int .i64 ((pL (some (cO,cP,b)) fl nx lf es rt).nx),.bool false,.bool false,.int .i64 ((pL (some (cO,cP,b)) fl nx lf es rt).lf)]),(4,.iX 5 false (b)),(5,.dy none ((pL (some (cO,cP,b)) fl nx lf es rt).es)),(6,.dy none ((pL (some (cO,cP,b)) fl nx lf es rt).rs)),(7,.cells [.ptr (some (3,0))])]) 8),
  ([((decide (Int.ofNat i<Int.ofNat rs.length)),false)],
   [],
   .to (.exit 0) (eF [(0,.dM (f) (rs.length) (strs rs)),(1,.fn (.func 44) [] [.ptr (some (7,0))]),(7,.int .i64 (Int.ofNat rs.length)),(8,.int .i64 (Int.ofNat i))] (hL [(0,.ints .u32 gS),(1,.ints .u32 gR),(3,.cells [.di (some (4,0)) cO cP 1,.int .i64 ((pL (some (cO,cP,b)) fl nx lf es rt).fl),.map (some 5),.map (some 6),.int .i64 ((pL (some (cO,cP,b)) fl nx lf es rt).nx),.bool false,.bool false,.int .i64 ((pL (some (cO,cP,b)) fl nx lf es rt).lf)]),(4,.iX 5 false (b)),(5,.dy none ((pL (some (cO,cP,b)) fl nx lf es rt).es)),(6,.dy none ((pL (some (cO,cP,b)) fl nx lf es rt).rs)),(7,.cells [.ptr (some (3,0))])]) 8))]
 :=cQ.of U U U
end
theorem c5{f:FuncId}{fn:Func}{code:Code}(hf:Tryz.prog.funcs[f]? =some fn)(hb:fn.body=some code){args:ag}{h h1:Tr O}{n n1:Nat}{v:V}
  (l:(Nat.ble args.length fn.ntmps&&Nat.blt fn.ntmps fN)=true) (hT:TG ak n fn.ntmps code (cT args h n) (fH ak n fn fun a b c=>a=v/\b=h1/\c=n1)):cU ak f args h n v h1 n1:=
 fun _ _ _ ra g hd=>y5 mo po hf hb l v h1 n1 hT ra g hd
noncomputable abbrev U5:Code:=dx (dx (dV GN))
theorem Yk{n0:Nat}{h:Tr O}{gv:V}{f:Bool}{rs:List (aa)}{R:V->Tr O->Nat->Prop}
  (h0:TG ak n0 Tryz.f73.ntmps (dK GN) (U4 h n0 gv f rs) (andThen (fun s'=>eX n0 [0,1,7,8] s'=some (D1 h n0 gv f rs 0)) fun _ _=>False))
  (hr:∀i x,rs[i]? =some x->TG ak n0 Tryz.f73.ntmps U5 (D1 h n0 gv f rs i) (andThen (fun s'=>eX n0 [0,1,7,8] s'=some (D1 h n0 gv f rs (i+1))) fun _ _=>False))
  (he:TG ak n0 Tryz.f73.ntmps U5 (D1 h n0 gv f rs rs.length) fun y s'=>y= .exit 0/\eX n0 [0,1,7,8] s'=some (D1 h n0 gv f rs rs.length))
  (hz:TG ak n0 Tryz.f73.ntmps aax (D1 h n0 gv f rs rs.length) (fH ak n0 Tryz.f73 R)):TG ak n0 Tryz.f73.ntmps Lg (U4 h n0 gv f rs) (fH ak n0 Tryz.f73 R):=by
 refine cV U ?_;refine cV U ?_;refine fe h0 fun y s' dL=>?_;cases y<;>first|exact dL.elim|skip
 have dL:eX n0 [0,1,7,8] s'=some (D1 h n0 gv f rs 0):=dL;refine fg (i:=0) U (fe (Q1:=fun z s'=>z= .exit 0/\eX n0 [0,1,7,8] s'=some (D1 h n0 gv f rs rs.length)) (gl (fun k' s=>∃i,k'=rs.length-i/\i<=rs.length/\eX n0 [0,1,7,8] s=some (D1 h n0 gv f rs i)) U ?_ rs.length ⟨0,rfl,aY _,dL⟩) ?_)
 . rintro k' s1 ⟨i,hk,hi,fQ⟩;refine c6 fQ ?_;rcases bN i rs.length with fJ|Ae
   . refine fe (hr i _ (ay fJ)) fun y s2 jd=>?_;cases y<;>first|exact jd.elim|skip
     exact⟨rs.length-(i+1),be,i+1,rfl,be,jd⟩
   . obtain rfl:i=rs.length:=by omega
     refine fe he fun y s2 jd=>?_;obtain⟨rfl,jd⟩:=jd;exact⟨rfl,jd⟩
 rintro y s2 ⟨rfl,jd⟩;rw[dY];simp only[andThen];exact c6 jd hz
section
variable(f:Bool){es:ae}(rs:List (aa)){x:aa}
theorem aaz(i:Nat):c7 I3 [] 3 Tryz.f73 [] aax (D1 (hL []) 3 f41 f rs i) [([],[],.ret (.int .i64 (-1)) (hL []) 3)]:=
 cQ.of U U U
theorem aeR:c7 I3 [] 3 Tryz.f73 [0,1] (eO 1 OG) (cT [.dM f rs.length (strs rs),f41] (hL []) 3) [([],[],.to .normal (U4 (hL []) 3 f41 f rs))]:=
 cQ.of U U U
theorem aaA(hl:rs.length<=1000000)(hg:∀x∈rs,x.length=32):TG ak 3 Tryz.f73.ntmps OG (cT [.dM f rs.length (strs rs),f41] (hL []) 3) (fH ak 3 Tryz.f73 fun a b c=>a= .int .i64 (-1)/\b=hL []/\c=3):=by
 have hO:∀n:Nat,Int.ofNat n=(n:Int):=fun _=>rfl;refine iO  1 T2 (aeR f rs) cR ?_;show TG ak 3 Tryz.f73.ntmps Lg _ _;refine Yk ?_ (fun i x hx=>?_) ?_ ?_
 . refine fR T2 (alx f rs) (dG ?_);exact⟨fun p hp=>by rw[aq]at hp;subst hp;rfl,fun s' dL=>dL⟩
 . have fJ:i<rs.length:=(aF.1 hx).1;have aly:x.length=32:=hg x (bf hx);refine fR T2 (aeO f rs x i) fun g hg hc=>?_;simp only[aE,aM,bt]at hg;rcases hg with rfl|rfl|rfl
   . have:=hc _ (aK _ (aq.2 rfl));simp[aly]at this
   . refine⟨?_,fun s' dL=>dL⟩
     repeat' (first|exact cR|refine ju ?_ ?_)
     . exact⟨az _,dh⟩
     . rw[eJ,bj]
     . exact aN V.dw (fI hx)
     . exact fG dh be
   . exact absurd (aJ (hc _ (aq.2 rfl))) dh
 . refine fR T2 (aeO f rs [] rs.length) fun g hg hc=>?_;simp only[aE,aM,bt]at hg;rcases hg with rfl|rfl|rfl
   . exact absurd (aH (hc _ (aP ..))) dh
   . exact absurd (aH (hc _ (aP ..))) dh
   . exact⟨cR,fun s' dL=>⟨rfl,dL⟩⟩
 . refine fu T2 (aaz f rs rs.length) (dG ?_);exact⟨cR,_,_,_,rfl,rfl,rfl,rfl⟩
def El(es:ae)(x:aa):Prop:=∃d rs k,dj (.str x) es=some (pU d rs k)
theorem mz{d:aa}{rs:List (aa)}{k:Int}(h:dj (.str x) es=some (pU d rs k)):
  (if true=true then V.ef [D.fZ (V.agg [V.str ([]:aa),V.di none 0 0 0,V.int aj (0:Int)]) (dj (D.str x) es),V.bool (dj (D.str x) es).isSome]else D.fZ (V.agg [V.str ([]:aa),V.di none 0 0 0,V.int aj (0:Int)]) (dj (D.str x) es))=V.ef [og d rs k,V.bool true]:=by
 rw[aG rfl,h];rfl
theorem qH(h:dj (.str x) es=none):
  (if true=true then V.ef [D.fZ (V.agg [V.str ([]:aa),V.di none 0 0 0,V.int aj (0:Int)]) (dj (D.str x) es),V.bool (dj (D.str x) es).isSome]else D.fZ (V.agg [V.str ([]:aa),V.di none 0 0 0,V.int aj (0:Int)]) (dj (D.str x) es))=V.ef [BA,V.bool false]:=by
 rw[aG rfl,h];rfl
end
section
variable(cO cP:Nat)(b:aa)(fl nx lf:Int)(es rt:ae)
abbrev hB:Tr O:=aay (pL (some (cO,cP,b)) fl nx lf es rt)
section
variable(f:Bool)(rs:List (aa))
theorem Rr(i:Nat):c7 I3 [] 8 Tryz.f73 [] aax (D1 (hB cO cP b fl nx lf es rt) 8 f44 f rs i) [([],[],.ret (.int .i64 (-1)) (hB cO cP b fl nx lf es rt) 8)]:=
 cQ.of U U U
theorem MJ:c7 I3 [] 8 Tryz.f73 [0,1] (eO 1 OG) (cT [.dM f rs.length (strs rs),f44] (hB cO cP b fl nx lf es rt) 8) [([],[],.to .normal (U4 (hB cO cP b fl nx lf es rt) 8 f44 f rs))]:=
 cQ.of U U U
theorem Rs:c7 I3 [(8,.dc (.int .i64 (Int.ofNat 0)))] 8 Tryz.f73 [0,1,7,8] (dK GN) (U4 (hB cO cP b fl nx lf es rt) 8 f44 f rs) [([],[V.int .i64 0=V.int .i64 0],.to .normal (D1 (hB cO cP b fl nx lf es rt) 8 f44 f rs 0))]:=
 cQ.of U U U
theorem aaB(hl:rs.length<=1000000)(hg:∀x∈rs,El es x):TG ak 8 Tryz.f73.ntmps OG (cT [.dM f rs.length (strs rs),f44] (hB cO cP b fl nx lf es rt) 8) (fH ak 8 Tryz.f73 fun a b' c=>a= .int .i64 (-1)/\b'=hB cO cP b fl nx lf es rt/\c=8):=by
 have hO:∀n:Nat,Int.ofNat n=(n:Int):=fun _=>rfl;refine iO  1 T2 (MJ cO cP b fl nx lf es rt f rs) cR ?_;show TG ak 8 Tryz.f73.ntmps Lg _ _;refine Yk ?_ (fun i x hx=>?_) ?_ ?_
 . refine fR T2 (Rs cO cP b fl nx lf es rt f rs) (dG ?_);exact⟨fun p hp=>by rw[aq]at hp;subst hp;rfl,fun s' dL=>dL⟩
 . have fJ:i<rs.length:=(aF.1 hx).1;obtain⟨d0,gJ,k,hk⟩:=hg x (bf hx);refine fR (XP [(18,[(15,.dc (.ef [og d0 gJ k,.bool true]))])]) (aeP f rs x i cO cP b d0 gJ k fl nx lf es rt) fun g hg hc=>?_;simp only[aE,aM,bt]at hg;rcases hg with rfl|rfl
   . refine⟨?_,fun s' dL=>dL⟩
     repeat' (first|exact cR|refine ju ?_ ?_)
     . exact⟨az _,dh⟩
     . rw[eJ,bj]
     . exact aN V.dw (fI hx)
     . exact mz hk
     . exact fG dh be
   . exact absurd (aJ (hc _ (aq.2 rfl))) dh
 . refine fR (XP [(18,[(15,.dc (.ef [BA,.bool false]))])]) (aeQ f rs [] rs.length cO cP b fl nx lf es rt) fun g hg hc=>?_;simp only[aE,aM,bt]at hg;rcases hg with rfl|rfl
   . exact absurd (aH (hc _ (aq.2 rfl))) dh
   . exact⟨cR,fun s' dL=>⟨rfl,dL⟩⟩
 . refine fu T2 (Rr cO cP b fl nx lf es rt f rs rs.length) (dG ?_);exact⟨cR,_,_,_,rfl,rfl,rfl,rfl⟩
end
end
def Lh:ag->Option (ah×V)
 | [.dM _ n cs,.fn (.func 41) [] []]=>some ([cs=strs (dH cs),n=(dH cs).length,n<=1000000,∀x∈dH cs,x.length=32],.int .i64 (-1))
 |_=>none
theorem aaC:jG ak 73 (E7 Lh):=by
 refine IN (au U) fun args A v e hA=>?_;unfold Lh at e;split at e
 . rename_i f n cs;obtain⟨rfl,rfl⟩:=fa e;have e1:cs=strs (dH cs):=hA _ (by simp);have e2:n=(dH cs).length:=hA (n=(dH cs).length) (by simp);have e3:n<=1000000:=hA (n<=1000000) (by simp);have e4:∀x∈dH cs,x.length=32:=hA (∀x∈dH cs,x.length=32) (by simp);generalize dH cs=ps at *;subst e1 e2;exact gU mo po Tryz.func73 U U rfl rfl (fe (aaA f ps e3 e4) fun y s h=>by
    obtain⟨hy,v,h',n',e,rfl,_,_⟩:=h;exact⟨hy,_,h',n',e,.self⟩)
 . cases e
noncomputable abbrev W14:jL:=kA 73 (E7 Lh) W13
theorem Li:gd ak W14:=fk aaC Lf
section
variable(l:List (Nat×List (Nat×oZ)))
noncomputable abbrev kW:e9:=gG ak W14 (sw l) 1000 40
noncomputable abbrev XQ:CX ak:=CX.of mo po Li (sw l) 1000 40
end
def GO:ag->Bool
 | [_,.fn (.func 44) _ _]=>true
 |_=>false
section
variable(f:Bool)(rs:List (aa))(cO cP:Nat)(b:aa)(fl nx lf:Int)(es rt:ae)
theorem aeS:c7 (ze (kW []) 73 GO [.dM f rs.length (strs rs),f44] (hB cO cP b fl nx lf es rt) 8 (.int .i64 (-1),hB cO cP b fl nx lf es rt,8)) [] 8 Tryz.f43 [] U3 (cT [.dM f rs.length (strs rs),f44] (hB cO cP b fl nx lf es rt) 8) [([],[[V.dM f rs.length (strs rs),f44]=[.dM f rs.length (strs rs),f44]/\hB cO cP b fl nx lf es rt=hB cO cP b fl nx lf es rt/\8=8],.ret (.bool false) (hB cO cP b fl nx lf es rt) 8)]:=
 cQ.of U U U
theorem Rt(hl:rs.length<=1000000)(hg:∀x∈rs,El es x):cU ak 43 [.dM f rs.length (strs rs),f44] (hB cO cP b fl nx lf es rt) 8 (.bool false) (hB cO cP b fl nx lf es rt) 8:=by
 have h73:cU ak 73 [.dM f rs.length (strs rs),f44] (hB cO cP b fl nx lf es rt) 8 (.int .i64 (-1)) (hB cO cP b fl nx lf es rt) 8:=
  c5 Tryz.func73 U U (aaB cO cP b fl nx lf es rt f rs hl hg)
 refine c5 Tryz.func43 (code:=U3) U U ?_;refine fu ((XQ []).K9 GO (au U) h73) (aeS f rs cO cP b fl nx lf es rt) (dG ?_);exact⟨fun p hp=>by rw[aq]at hp;subst hp;exact⟨rfl,rfl,rfl⟩,_,_,_,rfl,rfl,rfl,rfl⟩
end
noncomputable abbrev csR(l:List (Nat×List (Nat×oZ)))(h:Tr O)(f:Bool)(rs:List (aa)):e9:=ze (kW l) 43 GO [.dM f rs.length (strs rs),f44] h 8 (.bool false,h,8)
noncomputable abbrev zg:Code:=dS Tryz.f15
def pN(fl nx lf:Int)(es rs:ae):gX:=⟨none,fl,nx,false,false,lf,es,rs⟩
def pS(cO cP:Nat)(b:aa)(fl nx lf:Int)(es rs:ae):gX:=⟨some (cO,cP,b),fl,nx,false,false,lf,es,rs⟩
def OH(d0:aa)(gJ:List (aa))(k:Int):List (Nat×List (Nat×oZ)):=[(18,[(15,.dc (.ef [og d0 gJ k,.bool true]))])]
def OI:List (Nat×List (Nat×oZ)):=[(18,[(15,.dc (.ef [BA,.bool false]))]),(46,[(13,.dc (.bool false))])]
def Ru(fl nx lf:Int)(es rt:ae):Tr O:=hL [(0,.ints .u32 gS),(1,.ints .u32 gR),(3,.cells (wI 0 4 5 (pN fl nx lf es rt))),(4,.dy none es),(5,.dy none rt)]
theorem aeT(d d0:aa)(gJ:List (aa))(k:Int)(f:Bool)(rs:List (aa))(cO cP:Nat)(b:aa)(fl nx lf:Int)(es rt:ae):c7 (csR (OH d0 gJ k) (hB cO cP b fl nx lf es rt) f rs) [(16,.dc (.bool false)),(20,.dc (.bool false))] 7 Tryz.f15 [] (zg) (cT [.ptr (some (3,0)),.str d,.dM f rs.length (strs rs)] (eu (pS cO cP b fl nx lf es rt)) 7) [([],
   [(V.bool (decide ((Int.ofNat d.length)>(65536:Int)))=V.bool false),(V.bool (decide ((Int.ofNat rs.length)>(1024:Int)))=V.bool false),(strs rs=strs (dH (strs rs))),(rs.length=(dH (strs rs)).length),(rs.length<=1000000),(∀(x:aa),x∈dH (strs rs)->x.length=32),([V.dM f rs.length (strs rs),f44]=[V.dM f rs.length (strs rs),f44]/\hB cO cP b fl nx lf es rt=hB cO cP b fl nx lf es rt/\8=8),(gS=gS),(gR=gR),(strs rs=strs (dH (strs rs))),(rs.length=(dH (strs rs)).length),(rs.length<=1000000),((eH (d::dH (strs rs))).length<=1000000000),((if true=true then V.ef [D.fZ (V.agg [V.str ([]:aa),V.di none 0 0 0,V.int aj (0:Int)]) (dj (D.str (dN d (dH (strs rs)))) (pL (some (cO,cP,b)) fl nx lf es rt).es),V.bool (dj (D.str (dN d (dH (strs rs)))) (pL (some (cO,cP,b)) fl nx lf es rt).es).isSome]else D.fZ (V.agg [V.str ([]:aa),V.di none 0 0 0,V.int aj (0:Int)]) (dj (D.str (dN d (dH (strs rs)))) (pL (some (cO,cP,b)) fl nx lf es rt).es))=V.ef [og d0 gJ k,V.bool true])],
   .ret (.ef [.str (dN d (dH (strs rs))),.int .i64 0]) (hL [(0,.ints .u32 gS),(1,.ints .u32 gR),(3,.cells [.di (some (4,0)) cO cP 1,.int .i64 ((pL (some (cO,cP,b)) fl nx lf es rt).fl),.map (some 5),.map (some 6),.int .i64 ((pL (some (cO,cP,b)) fl nx lf es rt).nx),.bool false,.bool false,.int .i64 ((pL (some (cO,cP,b)) fl nx lf es rt).lf)]),(4,.iX 5 false (b)),(5,.dy none ((pL (some (cO,cP,b)) fl nx lf es rt).es)),(6,.dy none ((pL (some (cO,cP,b)) fl nx lf es rt).rs))]) 7)]
 :=cQ.of U U U
theorem aeU(d:aa)(f:Bool)(rs:List (aa))(cO cP:Nat)(b:aa)(fl nx lf:Int)(es rt:ae):c7 (csR OI (hB cO cP b fl nx lf es rt) f rs) [(16,.dc (.bool false)),(20,.dc (.bool false))] 7 Tryz.f15 [] (zg) (cT [.ptr (some (3,0)),.str d,.dM f rs.length (strs rs)] (eu (pS cO cP b fl nx lf es rt)) 7) [([],
   [(V.bool (decide ((Int.ofNat d.length)>(65536:Int)))=V.bool false),(V.bool (decide ((Int.ofNat rs.length)>(1024:Int)))=V.bool false),(strs rs=strs (dH (strs rs))),(rs.length=(dH (strs rs)).length),(rs.length<=1000000),(∀(x:aa),x∈dH (strs rs)->x.length=32),([V.dM f rs.length (strs rs),f44]=[V.dM f rs.length (strs rs),f44]/\hB cO cP b fl nx lf es rt=hB cO cP b fl nx lf es rt/\8=8),(gS=gS),(gR=gR),(strs rs=strs (dH (strs rs))),(rs.length=(dH (strs rs)).length),(rs.length<=1000000),((eH (d::dH (strs rs))).length<=1000000000),((if true=true then V.ef [D.fZ (V.agg [V.str ([]:aa),V.di none 0 0 0,V.int aj (0:Int)]) (dj (D.str (dN d (dH (strs rs)))) (pL (some (cO,cP,b)) fl nx lf es rt).es),V.bool (dj (D.str (dN d (dH (strs rs)))) (pL (some (cO,cP,b)) fl nx lf es rt).es).isSome]else D.fZ (V.agg [V.str ([]:aa),V.di none 0 0 0,V.int aj (0:Int)]) (dj (D.str (dN d (dH (strs rs)))) (pL (some (cO,cP,b)) fl nx lf es rt).es))=V.ef [BA,V.bool false]),(strs rs=strs (dH (strs rs))),(rs.length=(dH (strs rs)).length),(d.length<=100000000),(rs.length<=1000000),((dH (strs rs)).flatten.length<=100000000),(V.bool (decide (IntKind.i64.wrap ((Int.ofNat cO)+(Int.ofNat (gO d (dH (strs rs))).length))>(1048576:Int)))=V.bool false),(0<cP),(cO=b.length),(eT (cO+(gO d (dH (strs rs))).length) 1 1=true),(0<rs.length),((strs rs).length=rs.length),(rs.length<=1000000)],
   .ret (.ef [.str (dN d (dH (strs rs))),.int .i64 0]) (hL [(0,.ints .u32 gS),(1,.ints .u32 gR),(3,.cells [.di (some (7,0)) (cO+(gO d (dH (strs rs))).length) (cO+(gO d (dH (strs rs))).length) 1,.int .i64 ((pL (some (cO,cP,b)) fl nx lf es rt).fl),.map (some 5),.map (some 6),.int .i64 (IntKind.i64.wrap ((pL (some (cO,cP,b)) fl nx lf es rt).nx+(1:Int))),.bool false,.bool false,.int .i64 ((pL (some (cO,cP,b)) fl nx lf es rt).lf)]),(5,.dy none (ig (D.str (dN d (dH (strs rs)))) (D.agg [D.str d,D.dM rs.length (strs rs),D.int aj (pL (some (cO,cP,b)) fl nx lf es rt).nx]) (pL (some (cO,cP,b)) fl nx lf es rt).es)),(6,.dy none ((pL (some (cO,cP,b)) fl nx lf es rt).rs)),(7,.iX 5 false (b++eN (dX (gO d (dH (strs rs))))))]) 8)]
 :=cQ.of U U U
section
variable(n:Nat)(b:aa)(fl nx lf:Int)(es rt:ae)
def Rv:Tr O:=hL [(0,.ints .u32 gS),(1,.ints .u32 gR),(3,.cells [.di (some (7,0)) n n 1,.int .i64 fl,.map (some 5),.map (some 6),.int .i64 nx,.bool false,.bool false,.int .i64 lf]),(5,.dy none es),(6,.dy none rt),(7,.iX 5 false b)]
def aeV:Tr O:=hL [(0,.ints .u32 gS),(1,.ints .u32 gR),(3,.cells [.di (some (6,0)) n n 1,.int .i64 fl,.map (some 4),.map (some 5),.int .i64 nx,.bool false,.bool false,.int .i64 lf]),(4,.dy none es),(5,.dy none rt),(6,.iX 5 false b)]
end
theorem I4:dH []=[]:=rfl
theorem jc{x y:Int}(h:x<=y):V.bool (decide (x>y))=V.bool false:=by
 rw[bw be]
theorem jH(d:aa)(rs:List (aa))(h:∀x∈rs,x.length=32):(eH (d::rs)).length=8+d.length+40*rs.length:=by
 have key:∀rs:List (aa),(∀x∈rs,x.length=32)->(eH rs).length=40*rs.length:=by
  intro rs
  induction rs with
  |nil=>intro _;rfl
  |cons x rs ih=>
   intro h;have:=ih fun y hy=>h y (by simp[hy]);have hx:=h x (by simp);unfold eH at this ⊢;rw[List.flatMap_cons,ax,this,ax,vp,hx,aT];omega
 have e:eH (d::rs)=(mw (Int.ofNat d.length)++d)++eH rs:=by
  unfold eH;rw[List.flatMap_cons]
 rw[e,ax,key rs h,ax,vp]
theorem vt{rs:List (aa)}(h:∀x∈rs,x.length=32):rs.flatten.length=32*rs.length:=by
 induction rs with
 |nil=>rfl
 |cons x rs ih=>
  rw[List.flatten_cons,ax,ih fun y hy=>h y (by simp[hy]),h x (by simp),aT];omega
theorem Fj(d:aa){rs:List (aa)}(h:∀x∈rs,x.length=32):(gO d rs).length<=d.length+20+32*rs.length:=by
 have:=(IU d rs).2;rw[vt h]at this;exact this
section
variable(d:aa)(cO cP:Nat)(b:aa)(fl nx lf:Int)(es rt:ae)
variable(f:Bool)(rs:List (aa))
theorem Rw(hd:d.length<=65536)(hn:rs.length<=1024)(h32:∀x∈rs,x.length=32)(DY:∀x∈rs,El es x)(hk:El es (dN d rs)):
  cU ak 15 [.ptr (some (3,0)),.str d,.dM f rs.length (strs rs)] (eu (pS cO cP b fl nx lf es rt)) 7 (.ef [.str (dN d rs),.int .i64 0]) (eu (pS cO cP b fl nx lf es rt)) 7:=by
 have hO:∀n:Nat,Int.ofNat n=(n:Int):=fun _=>rfl;obtain⟨d0,gJ,k,hk⟩:=hk;refine c5 Tryz.func15 (code:=zg) U U ?_;obtain⟨L,hr⟩:=aeT d d0 gJ k f rs cO cP b fl nx lf es rt;simp only[ir]at hr;refine iq ((XQ (OH d0 gJ k)).K9 GO (au U) (Rt f rs cO cP b fl nx lf es rt be DY)) mo _ U hr (dG ?_);refine⟨?_,_,_,_,rfl,rfl,rfl,rfl⟩;have hj:=jH d rs h32
 repeat' (first|exact cR|refine ju ?_ ?_)
 . exact jc dh
 . exact jc dh
 . first|rfl|trivial
 . first|rfl|trivial
 . omega
 . exact h32
 . first|exact⟨rfl,rfl,rfl⟩|exact⟨trivial,trivial,rfl⟩|exact⟨trivial,trivial,trivial⟩|trivial
 . first|rfl|trivial
 . first|rfl|trivial
 . first|rfl|trivial
 . first|rfl|trivial
 . omega
 . omega
 . exact mz hk
theorem Rx(hd:d.length<=65536)(hn:rs.length<=1024)(h0:0<rs.length)(h32:∀x∈rs,x.length=32)(DY:∀x∈rs,El es x)(hk:dj (.str (dN d rs)) es=none)(hc:0<cP)(hl:cO=b.length)(NT:cO+(gO d rs).length<=1048576):
  cU ak 15 [.ptr (some (3,0)),.str d,.dM f rs.length (strs rs)] (eu (pS cO cP b fl nx lf es rt)) 7 (.ef [.str (dN d rs),.int .i64 0])
   (Rv (cO+(gO d rs).length) (b++gO d rs) fl (IntKind.i64.wrap (nx+1)) lf (ig (.str (dN d rs)) (pU d rs nx) es) rt) 8:=by
 have hO:∀n:Nat,Int.ofNat n=(n:Int):=fun _=>rfl;refine c5 Tryz.func15 (code:=zg) U U ?_;obtain⟨L,hr⟩:=aeU d f rs cO cP b fl nx lf es rt;simp only[ir,gk]at hr;refine iq ((XQ OI).K9 GO (au U) (Rt f rs cO cP b fl nx lf es rt be DY)) mo _ U hr (dG ?_);refine⟨?_,_,_,_,rfl,rfl,rfl,rfl⟩;have hj:=jH d rs h32;have TZ:=vt h32
 repeat' (first|exact cR|refine ju ?_ ?_)
 . exact jc dh
 . exact jc dh
 . first|rfl|trivial
 . first|rfl|trivial
 . omega
 . exact h32
 . first|exact⟨rfl,rfl,rfl⟩|exact⟨trivial,trivial,rfl⟩|exact⟨trivial,trivial,trivial⟩|trivial
 . first|rfl|trivial
 . first|rfl|trivial
 . first|rfl|trivial
 . first|rfl|trivial
 . omega
 . omega
 . exact qH hk
 . first|rfl|trivial
 . first|rfl|trivial
 . omega
 . omega
 . omega
 . rw[fE dh dh];exact jc dh
 . exact hc
 . exact hl
 . exact jq be
 . exact h0
 . exact eJ rs
 . omega
end
end Go.Proofs.YtfihojpgobmmdaaGreatDoor
