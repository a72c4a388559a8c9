/- The Chunk laws: a store in memory, under names of our own; contracts of its methods. No conditions. -/
import Derived.Test.YtfihojpgobmmdaaGreatDoorJointW05
import Derived.Test.YtfihojpgobmmdaaGreatDoorJointW06
set_option linter.unusedVariables false
set_option linter.unusedSimpArgs false
set_option linter.unusedSectionVars false
namespace Go.Proofs.YtfihojpgobmmdaaGreatDoor
open Go Go.Eng
theorem CS:∀(l:List (Option Nat)) (j0 m i:Nat),l.getD i none=some m->(∀i',i'<i->l.getD i' none≠some m)->Aa l j0 m=some (j0+i)
 | [],_,_,i,h,_=>by simp at h
 |x::l,j0,m,0,h,_=>by
  have h:x=some m:=by simpa using h
  subst h;simp only[Aa,cL];rfl
 |x::l,j0,m,i+1,h,fL=>by
  have ih:=CS l (j0+1) m i (by simpa using h) (fun i' hi=>by have:=fL (i'+1) be;simpa using this);have h0:=fL 0 be;have e:j0+1+i=j0+(i+1):=by omega
  cases x with
  |none=>simp only[Aa,ih,e]
  |some k=>
   have:Nat.beq k m=false:=by
    cases q:Nat.beq k m with
    |false=>rfl
    |true=>exact absurd (by simp[aD q]) h0
   simp only[Aa,this,ih,e]
theorem CT{ns:List (Option Nat)}(hn:ni ns=true){j m:Nat}(h:ns.getD j none=some m):mu ns m=some j:=by
 have:=CS ns 0 m j h fun i hi q=>by have:=oG hn i j m q h;omega
 simpa using this
structure jm where
 lo:Option (Nat×Nat×aa)
 fl:Int
 nx:Int
 off:Bool
 arm:Bool
 lf:Int
 es:ae
 rs:ae
def lgV(g:Nat):Option (Nat×Nat×aa)->V
 |none=>.di none 0 0 0
 |some (cN,cO,_)=>.di (some (g,0)) cN cO 1
def xC(g c r:Nat)(p:jm):ag:=[lgV g p.lo,.int .i64 p.fl,.map (some c),.map (some r),.int .i64 p.nx,.bool p.off,.bool p.arm,.int .i64 p.lf]
def eN(p:jm):af:=match p.lo with
 |none=>[(0,.ints .u32 gS),(1,.ints .u32 gR),(3,.cells (xC 4 5 6 p)),(5,.dD none p.es),(6,.dD none p.rs)]
 |some (_,_,b)=>[(0,.ints .u32 gS),(1,.ints .u32 gR),(3,.cells (xC 4 5 6 p)),(4,.iS 5 false b),(5,.dD none p.es),(6,.dD none p.rs)]
def eu(p:jm):Tr O:=hL (eN p)
def Ix(h:Tr O)(m:Nat):Option (List (Option Nat)×jm):=match h.get m with
 |some (.cells [lg,.int .i64 fl,.map (some c),.map (some r),.int .i64 nx,.bool off,.bool arm,.int .i64 lf])=>match h.get c,h.get r with
  |some (.dD none es),some (.dD none rs)=>match lg with
   | .di none 0 0 0=>some ([some 0,some 1,some 2,some m,none,some c,some r],⟨none,fl,nx,off,arm,lf,es,rs⟩)
   | .di (some (g,0)) cN cO 1=>match h.get g with
     |some (.iS 5 false b)=>some ([some 0,some 1,some 2,some m,some g,some c,some r],⟨some (cN,cO,b),fl,nx,off,arm,lf,es,rs⟩)
     |_=>none
   |_=>none
  |_,_=>none
 |_=>none
def okN(ns:List (Option Nat)):Bool:=ni ns&&ns.all fun x=>match x with|some m=>Nat.blt m fI|none=>true
section
variable{h:Tr O}{m:Nat}{ns:List (Option Nat)}{p:jm}
theorem KF(e:Ix h m=some (ns,p)):∃g c r,h.get m=some (.cells (xC g c r p))/\h.get c=some (.dD none p.es)/\h.get r=some (.dD none p.rs)/\
  ((p.lo=none/\ns=[some 0,some 1,some 2,some m,none,some c,some r])\/∃cN cO b,p.lo=some (cN,cO,b)/\h.get g=some (.iS 5 false b)/\ns=[some 0,some 1,some 2,some m,some g,some c,some r]):=by
 unfold Ix at e;split at e
 case h_2=>cases e
 rename_i lg fl c r nx off arm lf hm;split at e
 case h_2=>cases e
 rename_i es rs hc hr;split at e
 . obtain⟨rfl,rfl⟩:=eY e;exact⟨0,c,r,hm,hc,hr,.inl ⟨rfl,rfl⟩⟩
 . rename_i g cN cO;split at e
   . rename_i b hg;obtain⟨rfl,rfl⟩:=eY e;exact⟨g,c,r,hm,hc,hr,.inr ⟨cN,cO,b,rfl,hg,rfl⟩⟩
   . cases e
 . cases e
theorem Iy(e:Ix h m=some (ns,p))(ht:Ko h=some (gS,gR))(hn:okN ns=true):ve ns h (eu p)/\ns.length=7/\∀j k,ns.getD j none=some k->k<fI:=by
 obtain⟨g,c,r,hm,hc,hr,qq⟩:=KF e;obtain⟨h0,h1⟩:=Ae ht;simp only[okN,aC]at hn;obtain⟨JP,uQ⟩:=hn;have gD:∀j k,ns.getD j none=some k->k<fI:=by
  intro j k hk;have xo:some k∈ns:=by
   rw[aM]at hk;cases hx:ns[j]? with
   |none=>rw[hx]at hk;cases hk
   |some x=>rw[hx]at hk;simp only[Option.getD_some]at hk;subst hk;exact aZ hx
  exact au (bn.1 uQ _ xo)
 have adM:ns.getD 0 none=some 0/\ns.getD 1 none=some 1/\ns.getD 2 none=some 2/\ns.getD 3 none=some m/\ns.getD 5 none=some c/\ns.getD 6 none=some r/\ns.length=7:=by
  rcases qq with⟨_,rfl⟩|⟨_,_,_,_,_,rfl⟩<;>exact⟨rfl,rfl,rfl,rfl,rfl,rfl,rfl⟩
 obtain⟨g0,g1,g2,g3,g5,g6,iQ⟩:=adM;have mc:=CT JP g5;have mr:=CT JP g6;have hgl:∀q∈jL,ns.getD q.2 none=some q.2:=by
  intro q hq;simp only[jL,aE,aL,bt]at hq;rcases hq with rfl|rfl|rfl
  . exact g0
  . exact g1
  . exact g2
 have TK:∀q,q<3->∃z∈jL,z.2=q:=by
  intro q hq;rcases q with _|_|_|q
  . exact⟨(0,0),by simp[jL],rfl⟩
  . exact⟨(1,1),by simp[jL],rfl⟩
  . exact⟨(2,2),by simp[jL],rfl⟩
  . omega
 refine⟨?_,iQ,gD⟩;rcases qq with⟨yp,FJ⟩|⟨cN,cO,b,yp,hg,FJ⟩
 . unfold eu eN;rw[yp];refine Af (fun q hq=>?_) hgl JP (fun j k hj=>?_) ?_
   . simp only[aE,aL,bt]at hq;rcases hq with rfl|rfl|rfl|rfl|rfl<;>exact au rfl
   . rw[FJ]at hj
     match j,hj with
     |0,hj=>cases hj;exact .inl (TK 0 be)
     |1,hj=>cases hj;exact .inl (TK 1 be)
     |2,hj=>cases hj;exact .inl (TK 2 be)
     |3,hj=>cases hj;exact .inr (by rw[hm];simp)
     |4,hj=>cases hj
     |5,hj=>cases hj;exact .inr (by rw[hc];simp)
     |6,hj=>cases hj;exact .inr (by rw[hr];simp)
     |j+7,hj=>simp at hj
   . intro q hq;simp only[aE,aL,bt]at hq;rcases hq with rfl|rfl|rfl|rfl|rfl
     . exact⟨_,_,g0,h0,rfl⟩
     . exact⟨_,_,g1,h1,rfl⟩
     . refine⟨_,_,g3,hm,?_⟩;simp only[xC,yp,lgV,O.rn,V.DJ,V.rn,mc,mr]
     . exact⟨_,_,g5,hc,rfl⟩
     . exact⟨_,_,g6,hr,rfl⟩
 . have g4:ns.getD 4 none=some g:=by rw[FJ];rfl
   have mg:=CT JP g4;unfold eu eN;rw[yp];refine Af (fun q hq=>?_) hgl JP (fun j k hj=>?_) ?_
   . simp only[aE,aL,bt]at hq;rcases hq with rfl|rfl|rfl|rfl|rfl|rfl<;>exact au rfl
   . rw[FJ]at hj
     match j,hj with
     |0,hj=>cases hj;exact .inl (TK 0 be)
     |1,hj=>cases hj;exact .inl (TK 1 be)
     |2,hj=>cases hj;exact .inl (TK 2 be)
     |3,hj=>cases hj;exact .inr (by rw[hm];simp)
     |4,hj=>cases hj;exact .inr (by rw[hg];simp)
     |5,hj=>cases hj;exact .inr (by rw[hc];simp)
     |6,hj=>cases hj;exact .inr (by rw[hr];simp)
     |j+7,hj=>simp at hj
   . intro q hq;simp only[aE,aL,bt]at hq;rcases hq with rfl|rfl|rfl|rfl|rfl|rfl
     . exact⟨_,_,g0,h0,rfl⟩
     . exact⟨_,_,g1,h1,rfl⟩
     . refine⟨_,_,g3,hm,?_⟩;simp only[xC,yp,lgV,O.rn,V.DJ,V.rn,mc,mr,mg]
     . exact⟨_,_,g4,hg,rfl⟩
     . exact⟨_,_,g5,hc,rfl⟩
     . exact⟨_,_,g6,hr,rfl⟩
end
abbrev QH:=jm->ag->Option (ah×V×Tr O×Nat)
def Ud(sp:QH):ag->Tr O->Nat->Option (ah×V×Tr O×Nat):=fun args h n=>match args with
 | .ptr (some (m,0))::_=>match Ko h,Ix h m with
   |some (st,rd),some (ns,p)=>match okN ns,V.DJ (mu ns) args with
    |true,some nE=>match sp p nE with
     |some (A,v1,h1,n1)=>match D0 ns (eu p) (v1,h1,n1) h n with
      |some (v,h2,n2)=>some ((st=gS)::(rd=gR)::A,v,h2,n2)
      |none=>none
     |none=>none
    |_,_=>none
   |_,_=>none
 |_=>none
theorem Ue{f:FuncId}{fn:Func}{code:Code}{sp:QH}(fE:f<Tryz.prog.funcs.size)(hf:Tryz.prog.funcs[f]? =some fn)(hb:fn.body=some code)
  (hT:∀p args A v1 h1 n1,sp p args=some (A,v1,h1,n1)->(∀a∈A,a)->(Nat.ble args.length fn.ntmps&&Nat.blt fn.ntmps fI)=true/\TG ak 7 fn.ntmps code (cR args (eu p) 7) (fB ak 7 fn fun a b c=>a=v1/\b=h1/\c=n1)):jC ak f (Ud sp):=by
 refine⟨fE,fun args h n A v h2 n2 e hA E w c7 ra g hd hc=>?_⟩;unfold Ud at e;split at e
 case h_2=>cases e
 rename_i m rest;split at e
 case h_2=>cases e
 rename_i st rd ns p ht hs;split at e
 case h_2=>cases e
 rename_i nE iA TC;split at e
 case h_2=>cases e
 rename_i A1 v1 h1 n1 hsp;split at e
 case h_2=>cases e
 rename_i v2 h3 n3 hem;simp only[an,aB]at e;obtain⟨rfl,rfl,rfl,rfl⟩:=e;have e1:st=gS:=hA _ (by simp);have e2:rd=gR:=hA _ (by simp);subst e1 e2;obtain⟨hp,iQ,_⟩:=Iy hs ht iA;obtain⟨l,hTG⟩:=hT p nE A1 v1 h1 n1 hsp fun a ha=>hA a (by simp[ha]);exact EL mo po hf hb l hp TC hem (by rw[iQ];exact hTG) ra g hd
theorem akd:c5 T8 [] 3 Tryz.f63 [] (dU Tryz.f63) (cR [.di none 0 0 0] .nil 3) [([],
   [],
   .ret (.di none 0 0 0) (hL []) 3)]
 :=cP.of U U U
theorem ake(n:Nat)(cs:ai):c5 T8 [] 3 Tryz.f63 [] (dU Tryz.f63) (cR [.dL false n cs] .nil 3) [([],
   [(0<n),(cs.length=n*1),(eP (0+n) 1 16=true)],
   .ret (.di (some (3,0)) (0+n) (0+n) 1) (hL [(3,.deep ([]++cs))]) 4)]
 :=cP.of U U U
theorem akf(n:Nat)(cs:ai):c5 T8 [] 3 Tryz.f63 [] (dU Tryz.f63) (cR [.dL true n cs] .nil 3) [([],
   [(0<n),(cs.length=n*1),(eP (0+n) 1 16=true)],
   .ret (.di (some (3,0)) (0+n) (0+n) 1) (hL [(3,.deep ([]++cs))]) 4)]
 :=cP.of U U U
def KG:ag->Option (ah×V)
 | [.di none 0 0 0]=>some ([],.di none 0 0 0)
 | [.dL _ n cs]=>some ([0<n,cs.length=n,n<=1000000],.dL false n cs)
 |_=>none
theorem Xp(n:Nat)(cs:ai)(h0:cs.length=n):ny (.dL false n cs) (.di (some (3,0)) (0+n) (0+n) 1) (hL [(3,.deep ([]++cs))]) 4:=by
 refine⟨[[3]],[([]++cs).length=(0+n)*1],{ fr:=Tr.nil.set 0 (some (.dL false (0+n) ([]++cs))),h:=(hL [(3,.deep ([]++cs))]).set 3 none,n:=4,gu:=[] },U,fun a ha=>?_,?_⟩
 . rw[aq]at ha;subst ha;rw[cD];omega
 . have e:0+n=n:=bH n;rw[e];rfl
theorem ZJ:jC ak 63 (EJ KG):=by
 refine Ij (au U) fun args A v e hA=>?_;unfold KG at e;split at e
 . obtain⟨rfl,rfl⟩:=eY e;obtain⟨L,hr⟩:=akd;exact gO mo po Tryz.func63 U U rfl rfl (fb (Gk X12 mo U (by
    have:L=[]:=by
     have h2:=hr;unfold cP at h2;have h3:P5 ak T8 [] 1000 3 Tryz.f63 [] (dU Tryz.f63) (cR [.di none 0 0 0] .nil 3)=some ([],[],[([],[],.ret (.di none 0 0 0) (hL []) 3)]):=by kernel_rfl
     rw[h3]at h2;simp only[an,aB]at h2;exact h2.1.symm
    subst this;exact hr) cQ) fun y s h=>jW h)
 . rename_i f n cs;obtain⟨rfl,rfl⟩:=eY e;have h0:0<n:=hA _ (by simp);have h1:cs.length=n:=hA (cs.length=n) (by simp);have h2:n<=1000000:=hA (n<=1000000) (by simp);have key:∀f,TG ak gN Tryz.f63.ntmps (dU Tryz.f63) (cR [.dL f n cs] .nil gN) (fB ak gN Tryz.f63 (ny (.dL false n cs))):=by
    intro f;cases f with
    |false=>
     refine fu X12 (ake n cs) (dI ?_);refine⟨?_,_,_,_,rfl,Xp n cs h1⟩
     repeat' (first|exact cQ|refine jn ?_ ?_)
     . exact h0
     . omega
     . exact pM be
    |true=>
     refine fu X12 (akf n cs) (dI ?_);refine⟨?_,_,_,_,rfl,Xp n cs h1⟩
     repeat' (first|exact cQ|refine jn ?_ ?_)
     . exact h0
     . omega
     . exact pM be
   exact gO mo po Tryz.func63 U U rfl rfl (key f)
 . cases e
noncomputable abbrev W13:jJ:=kj 63 (EJ KG) W12
theorem KH:fU ak W13:=fe ZJ QD
noncomputable abbrev Iz:eX:=gC ak W13 H0 1000 40
noncomputable abbrev Tc:CX ak:=CX.of mo po KH H0 1000 40
def sg(l:List (Nat×List (Nat×oT)))(f:FuncId):List (Nat×oT):=match l with
 | []=>[]
 |x::r=>match Nat.beq x.1 f with
  |true=>x.2
  |false=>sg r f
section
variable(l:List (Nat×List (Nat×oT)))
noncomputable abbrev csP:eX:=gC ak W13 (sg l) 1000 40
noncomputable abbrev XP:CX ak:=CX.of mo po KH (sg l) 1000 40
end
def pO(d:aa)(rs:List (aa))(k:Int):D:=.agg [.str d,.dL rs.length (strs rs),.int .i64 k]
def od(d:aa)(rs:List (aa))(k:Int):V:=.agg [.str d,.dL false rs.length (strs rs),.int .i64 k]
def Bh:V:=.agg [.str [],.di none 0 0 0,.int .i64 0]
noncomputable abbrev NT:Code:=dU Tryz.f73
noncomputable abbrev KI:Code:=dh 1 NT
noncomputable abbrev Gp:Code:=dO KI
noncomputable abbrev ZK:Code:=dY KI
noncomputable abbrev Uf:Code:=dU Tryz.f43
def ZL(p:jm):Tr O:=hL (eN p++[(7,.cells [.ptr (some (3,0))])])
def pL(lo:Option (Nat×Nat×aa))(fl nx lf:Int)(es rs:ae):jm:=⟨lo,fl,nx,false,false,lf,es,rs⟩
def f41:V:=.fn (.func 41) [] []
def f44:V:=.fn (.func 44) [] [.ptr (some (7,0))]
section
variable(h:Tr O)(n0:Nat)(gv:V)(f:Bool)(rs:List (aa))
def DL(i:Nat):St:=eG [(0,.dL f rs.length (strs rs)),(1,gv),(7,.int .i64 (Int.ofNat rs.length)),(8,.int .i64 (Int.ofNat i))] h n0
def Ug:St:=eG [(0,.dL f rs.length (strs rs)),(1,gv)] h n0
end
section
variable(f:Bool)(rs:List (aa))(x:aa)(i cN cO:Nat)(b:aa)(fl nx lf:Int)(es rt:ae)
theorem akg:c5 Iz [(8,.c9 (.int .i64 (Int.ofNat 0)))] 3 Tryz.f73 [0,1,7,8] (dO Gp) (Ug (hL []) 3 f41 f rs) [([],
   [(V.int aj (0:Int)=V.int aj (0:Int))],
   .to .normal (eG [(0,.dL (f) (rs.length) (strs rs)),(1,.fn (.func 41) [] []),(7,.int .i64 ((Int.ofNat rs.length))),(8,.int .i64 0)] (hL []) 3))]
 :=cP.of U U U
theorem adN:c5 Iz [(9,.split),(14,.c9 (.dm [.str x])),(16,.split),(18,.c9 (.int .i64 (Int.ofNat (i+1))))] 3 Tryz.f73 [0,1,7,8] (dr (dr (dY Gp))) (DL (hL []) 3 f41 f rs i) [([((decide (Int.ofNat i<Int.ofNat rs.length)),true),((!(Int.ofNat x.length)==(32:Int)),true)],
   [((0:Int)<=Int.ofNat i/\Int.ofNat i<(Int.ofNat rs.length)),((strs rs).length=rs.length*1),(V.dm (dw (strs rs) ((Int.ofNat i).toNat*1) 1)=V.dm [D.str x])],
   .ret (.int .i64 (Int.ofNat i)) (hL []) 3),
  ([((decide (Int.ofNat i<Int.ofNat rs.length)),true),((!(Int.ofNat x.length)==(32:Int)),false)],
   [((0:Int)<=Int.ofNat i/\Int.ofNat i<(Int.ofNat rs.length)),((strs rs).length=rs.length*1),(V.dm (dw (strs rs) ((Int.ofNat i).toNat*1) 1)=V.dm [D.str x]),(V.int aj (IntKind.i64.wrap (Int.ofNat i+(1:Int)))=V.int aj (Int.ofNat (i+1)))],
   .to .normal (eG [(0,.dL (f) (rs.length) (strs rs)),(1,.fn (.func 41) [] []),(7,.int .i64 (Int.ofNat rs.length)),(8,.int .i64 (Int.ofNat (i+1)))] (hL []) 3)),
  ([((decide (Int.ofNat i<Int.ofNat rs.length)),false)],
   [],
   .to (.exit 0) (eG [(0,.dL (f) (rs.length) (strs rs)),(1,.fn (.func 41) [] []),(7,.int .i64 (Int.ofNat rs.length)),(8,.int .i64 (Int.ofNat i))] (hL []) 3))]
 :=cP.of U U U
theorem adO(d0:aa)(jI:List (aa))(k fl nx lf:Int)(es rt:ae):c5 (csP [(18,[(15,.c9 (.eo [od d0 jI k,.bool true]))])]) [(9,.split),(14,.c9 (.dm [.str x])),(18,.c9 (.int .i64 (Int.ofNat (i+1))))] 8 Tryz.f73 [0,1,7,8] (dr (dr (dY Gp))) (DL (ZL (pL (some (cN,cO,b)) fl nx lf es rt)) 8 f44 f rs i) [([((decide (Int.ofNat i<Int.ofNat rs.length)),true)],
   [((0:Int)<=Int.ofNat i/\Int.ofNat i<(Int.ofNat rs.length)),((strs rs).length=rs.length*1),(V.dm (dw (strs rs) ((Int.ofNat i).toNat*1) 1)=V.dm [D.str x]),((if true=true then V.eo [D.fS (V.agg [V.str ([]:aa),V.di none 0 0 0,V.int aj (0:Int)]) (dc (D.str x) (pL (some (cN,cO,b)) fl nx lf es rt).es),V.bool (dc (D.str x) (pL (some (cN,cO,b)) fl nx lf es rt).es).isSome]else D.fS (V.agg [V.str ([]:aa),V.di none 0 0 0,V.int aj (0:Int)]) (dc (D.str x) (pL (some (cN,cO,b)) fl nx lf es rt).es))=V.eo [od d0 jI k,V.bool true]),(V.int aj (IntKind.i64.wrap (Int.ofNat i+(1:Int)))=V.int aj (Int.ofNat (i+1)))],
   .to .normal (eG [(0,.dL (f) (rs.length) (strs rs)),(1,.fn (.func 44) [] [.ptr (some (7,0))]),(7,.int .i64 (Int.ofNat rs.length)),(8,.int .i64 (Int.ofNat (i+1)))] (hL [(0,.ints .u32 gS),(1,.ints .u32 gR),(3,.cells [.di (some (4,0)) cN cO 1,.int .i64 ((pL (some (cN,cO,b)) fl nx lf es rt).fl),.map (some 5),.map (some 6),.int .i64 ((pL (some (cN,cO,b)) fl nx lf es rt).nx),.bool false,.bool false,.int .i64 ((pL (some (cN,cO,b)) fl nx lf es rt).lf)]),(4,.iS 5 false (b)),(5,.dD none ((pL (some (cN,cO,b)) fl nx lf es rt).es)),(6,.dD none ((pL (some (cN,cO,b)) fl nx lf es rt).rs)),(7,.cells [.ptr (some (3,0))])]) 8)),
  ([((decide (Int.ofNat i<Int.ofNat rs.length)),false)],
   [],
   .to (.exit 0) (eG [(0,.dL (f) (rs.length) (strs rs)),(1,.fn (.func 44) [] [.ptr (some (7,0))]),(7,.int .i64 (Int.ofNat rs.length)),(8,.int .i64 (Int.ofNat i))] (hL [(0,.ints .u32 gS),(1,.ints .u32 gR),(3,.cells [.di (some (4,0)) cN cO 1,.int .i64 ((pL (some (cN,cO,b)) fl nx lf es rt).fl),.map (some 5),.map (some 6),.int .i64 ((pL (some (cN,cO,b)) fl nx lf es rt).nx),.bool false,.bool false,.int .i64 ((pL (some (cN,cO,b)) fl nx lf es rt).lf)]),(4,.iS 5 false (b)),(5,.dD none ((pL (some (cN,cO,b)) fl nx lf es rt).es)),(6,.dD none ((pL (some (cN,cO,b)) fl nx lf es rt).rs)),(7,.cells [.ptr (some (3,0))])]) 8))]
 :=cP.of U U U
theorem adP:c5 (csP [(18,[(15,.c9 (.eo [Bh,.bool false]))])]) [(9,.split),(14,.c9 (.dm [.str x])),(18,.c9 (.int .i64 (Int.ofNat (i+1))))] 8 Tryz.f73 [0,1,7,8] (dr (dr (dY Gp))) (DL (ZL (pL (some (cN,cO,b)) fl nx lf es rt)) 8 f44 f rs i) [([((decide (Int.ofNat i<Int.ofNat rs.length)),true)],
   [((0:Int)<=Int.ofNat i/\Int.ofNat i<(Int.ofNat rs.length)),((strs rs).length=rs.length*1),(V.dm (dw (strs rs) ((Int.ofNat i).toNat*1) 1)=V.dm [D.str x]),((if true=true then V.eo [D.fS (V.agg [V.str ([]:aa),V.di none 0 0 0,V.int aj (0:Int)]) (dc (D.str x) (pL (some (cN,cO,b)) fl nx lf es rt).es),V.bool (dc (D.str x) (pL (some (cN,cO,b)) fl nx lf es rt).es).isSome]else D.fS (V.agg [V.str ([]:aa),V.di none 0 0 0,V.int aj (0:Int)]) (dc (D.str x) (pL (some (cN,cO,b)) fl nx lf es rt).es))=V.eo [Bh,V.bool false])],
   .ret (.int .i64 (Int.ofNat i)) (hL [(0,.ints .u32 gS),(1,.ints .u32 gR),(3,.cells [.di (some (4,0)) cN cO 1,.int .i64 ((pL (some (cN,cO,b)) fl nx lf es rt).fl),.map (some 5),.map (some 6),.int .i64 ((pL (some (cN,cO,b)) fl nx lf es rt).nx),.bool false,.bool false,.int .i64 ((pL (some (cN,cO,b)) fl nx lf es rt).lf)]),(4,.iS 5 false (b)),(5,.dD none ((pL (some (cN,cO,b)) fl nx lf es rt).es)),(6,.dD none ((pL (some (cN,cO,b)) fl nx lf es rt).rs)),(7,.cells [.ptr (some (3,0))])]) 8),
  ([((decide (Int.ofNat i<Int.ofNat rs.length)),false)],
   [],
   .to (.exit 0) (eG [(0,.dL (f) (rs.length) (strs rs)),(1,.fn (.func 44) [] [.ptr (some (7,0))]),(7,.int .i64 (Int.ofNat rs.length)),(8,.int .i64 (Int.ofNat i))] (hL [(0,.ints .u32 gS),(1,.ints .u32 gR),(3,.cells [.di (some (4,0)) cN cO 1,.int .i64 ((pL (some (cN,cO,b)) fl nx lf es rt).fl),.map (some 5),.map (some 6),.int .i64 ((pL (some (cN,cO,b)) fl nx lf es rt).nx),.bool false,.bool false,.int .i64 ((pL (some (cN,cO,b)) fl nx lf es rt).lf)]),(4,.iS 5 false (b)),(5,.dD none ((pL (some (cN,cO,b)) fl nx lf es rt).es)),(6,.dD none ((pL (some (cN,cO,b)) fl nx lf es rt).rs)),(7,.cells [.ptr (some (3,0))])]) 8))]
 :=cP.of U U U
end
theorem cZ{f:FuncId}{fn:Func}{code:Code}(hf:Tryz.prog.funcs[f]? =some fn)(hb:fn.body=some code){args:ag}{h h1:Tr O}{n n1:Nat}{v:V}
  (l:(Nat.ble args.length fn.ntmps&&Nat.blt fn.ntmps fI)=true) (hT:TG ak n fn.ntmps code (cR args h n) (fB ak n fn fun a b c=>a=v/\b=h1/\c=n1)):cT ak f args h n v h1 n1:=
 fun _ _ _ ra g hd=>yP mo po hf hb l v h1 n1 hT ra g hd
noncomputable abbrev Uh:Code:=dr (dr (dY Gp))
theorem Xq{n0:Nat}{h:Tr O}{gv:V}{f:Bool}{rs:List (aa)}{R:V->Tr O->Nat->Prop}
  (h0:TG ak n0 Tryz.f73.ntmps (dO Gp) (Ug h n0 gv f rs) (andThen (fun s'=>eU n0 [0,1,7,8] s'=some (DL h n0 gv f rs 0)) fun _ _=>False))
  (hr:∀i x,rs[i]? =some x->TG ak n0 Tryz.f73.ntmps Uh (DL h n0 gv f rs i) (andThen (fun s'=>eU n0 [0,1,7,8] s'=some (DL h n0 gv f rs (i+1))) fun _ _=>False))
  (he:TG ak n0 Tryz.f73.ntmps Uh (DL h n0 gv f rs rs.length) fun y s'=>y= .exit 0/\eU n0 [0,1,7,8] s'=some (DL h n0 gv f rs rs.length))
  (hz:TG ak n0 Tryz.f73.ntmps ZK (DL h n0 gv f rs rs.length) (fB ak n0 Tryz.f73 R)):TG ak n0 Tryz.f73.ntmps KI (Ug h n0 gv f rs) (fB ak n0 Tryz.f73 R):=by
 refine cV U ?_;refine cV U ?_;refine fb h0 fun y s' dX=>?_;cases y<;>first|exact dX.elim|skip
 have dX:eU n0 [0,1,7,8] s'=some (DL h n0 gv f rs 0):=dX;refine fh (i:=0) U (fb (Q1:=fun z s'=>z= .exit 0/\eU n0 [0,1,7,8] s'=some (DL h n0 gv f rs rs.length)) (gh (fun k' s=>∃i,k'=rs.length-i/\i<=rs.length/\eU n0 [0,1,7,8] s=some (DL h n0 gv f rs i)) U ?_ rs.length ⟨0,rfl,aW _,dX⟩) ?_)
 . rintro k' s1 ⟨i,hk,hi,fP⟩;refine c6 fP ?_;rcases bN i rs.length with fE|zO
   . refine fb (hr i _ (ay fE)) fun y s2 jd=>?_;cases y<;>first|exact jd.elim|skip
     exact⟨rs.length-(i+1),be,i+1,rfl,be,jd⟩
   . obtain rfl:i=rs.length:=by omega
     refine fb he fun y s2 jd=>?_;obtain⟨rfl,jd⟩:=jd;exact⟨rfl,jd⟩
 rintro y s2 ⟨rfl,jd⟩;rw[dV];simp only[andThen];exact c6 jd hz
section
variable(f:Bool){es:ae}(rs:List (aa)){x:aa}
theorem ZM(i:Nat):c5 Iz [] 3 Tryz.f73 [] ZK (DL (hL []) 3 f41 f rs i) [([],[],.ret (.int .i64 (-1)) (hL []) 3)]:=
 cP.of U U U
theorem adQ:c5 Iz [] 3 Tryz.f73 [0,1] (eR 1 NT) (cR [.dL f rs.length (strs rs),f41] (hL []) 3) [([],[],.to .normal (Ug (hL []) 3 f41 f rs))]:=
 cP.of U U U
theorem ZN(hl:rs.length<=1000000)(hg:∀x∈rs,x.length=32):TG ak 3 Tryz.f73.ntmps NT (cR [.dL f rs.length (strs rs),f41] (hL []) 3) (fB ak 3 Tryz.f73 fun a b c=>a= .int .i64 (-1)/\b=hL []/\c=3):=by
 have hO:∀n:Nat,Int.ofNat n=(n:Int):=fun _=>rfl;refine iJ  1 Tc (adQ f rs) cQ ?_;show TG ak 3 Tryz.f73.ntmps KI _ _;refine Xq ?_ (fun i x hx=>?_) ?_ ?_
 . refine fV Tc (akg f rs) (dI ?_);exact⟨fun p hp=>by rw[aq]at hp;subst hp;rfl,fun s' dX=>dX⟩
 . have fE:i<rs.length:=(aF.1 hx).1;have akh:x.length=32:=hg x (aZ hx);refine fV Tc (adN f rs x i) fun g hg hc=>?_;simp only[aE,aL,bt]at hg;rcases hg with rfl|rfl|rfl
   . have:=hc _ (aJ _ (aq.2 rfl));simp[akh]at this
   . refine⟨?_,fun s' dX=>dX⟩
     repeat' (first|exact cQ|refine jn ?_ ?_)
     . exact⟨az _,de⟩
     . rw[eI,bj]
     . exact aN V.dm (fD hx)
     . exact fA de be
   . exact absurd (aK (hc _ (aq.2 rfl))) de
 . refine fV Tc (adN f rs [] rs.length) fun g hg hc=>?_;simp only[aE,aL,bt]at hg;rcases hg with rfl|rfl|rfl
   . exact absurd (aH (hc _ (aP ..))) de
   . exact absurd (aH (hc _ (aP ..))) de
   . exact⟨cQ,fun s' dX=>⟨rfl,dX⟩⟩
 . refine fu Tc (ZM f rs rs.length) (dI ?_);exact⟨cQ,_,_,_,rfl,rfl,rfl,rfl⟩
def D3(es:ae)(x:aa):Prop:=∃d rs k,dc (.str x) es=some (pO d rs k)
theorem l9{d:aa}{rs:List (aa)}{k:Int}(h:dc (.str x) es=some (pO d rs k)):
  (if true=true then V.eo [D.fS (V.agg [V.str ([]:aa),V.di none 0 0 0,V.int aj (0:Int)]) (dc (D.str x) es),V.bool (dc (D.str x) es).isSome]else D.fS (V.agg [V.str ([]:aa),V.di none 0 0 0,V.int aj (0:Int)]) (dc (D.str x) es))=V.eo [od d rs k,V.bool true]:=by
 rw[aG rfl,h];rfl
theorem qC(h:dc (.str x) es=none):
  (if true=true then V.eo [D.fS (V.agg [V.str ([]:aa),V.di none 0 0 0,V.int aj (0:Int)]) (dc (D.str x) es),V.bool (dc (D.str x) es).isSome]else D.fS (V.agg [V.str ([]:aa),V.di none 0 0 0,V.int aj (0:Int)]) (dc (D.str x) es))=V.eo [Bh,V.bool false]:=by
 rw[aG rfl,h];rfl
end
section
variable(cN cO:Nat)(b:aa)(fl nx lf:Int)(es rt:ae)
abbrev hB:Tr O:=ZL (pL (some (cN,cO,b)) fl nx lf es rt)
section
variable(f:Bool)(rs:List (aa))
theorem QI(i:Nat):c5 Iz [] 8 Tryz.f73 [] ZK (DL (hB cN cO b fl nx lf es rt) 8 f44 f rs i) [([],[],.ret (.int .i64 (-1)) (hB cN cO b fl nx lf es rt) 8)]:=
 cP.of U U U
theorem LZ:c5 Iz [] 8 Tryz.f73 [0,1] (eR 1 NT) (cR [.dL f rs.length (strs rs),f44] (hB cN cO b fl nx lf es rt) 8) [([],[],.to .normal (Ug (hB cN cO b fl nx lf es rt) 8 f44 f rs))]:=
 cP.of U U U
theorem QJ:c5 Iz [(8,.c9 (.int .i64 (Int.ofNat 0)))] 8 Tryz.f73 [0,1,7,8] (dO Gp) (Ug (hB cN cO b fl nx lf es rt) 8 f44 f rs) [([],[V.int .i64 0=V.int .i64 0],.to .normal (DL (hB cN cO b fl nx lf es rt) 8 f44 f rs 0))]:=
 cP.of U U U
theorem ZO(hl:rs.length<=1000000)(hg:∀x∈rs,D3 es x):TG ak 8 Tryz.f73.ntmps NT (cR [.dL f rs.length (strs rs),f44] (hB cN cO b fl nx lf es rt) 8) (fB ak 8 Tryz.f73 fun a b' c=>a= .int .i64 (-1)/\b'=hB cN cO b fl nx lf es rt/\c=8):=by
 have hO:∀n:Nat,Int.ofNat n=(n:Int):=fun _=>rfl;refine iJ  1 Tc (LZ cN cO b fl nx lf es rt f rs) cQ ?_;show TG ak 8 Tryz.f73.ntmps KI _ _;refine Xq ?_ (fun i x hx=>?_) ?_ ?_
 . refine fV Tc (QJ cN cO b fl nx lf es rt f rs) (dI ?_);exact⟨fun p hp=>by rw[aq]at hp;subst hp;rfl,fun s' dX=>dX⟩
 . have fE:i<rs.length:=(aF.1 hx).1;obtain⟨d0,jI,k,hk⟩:=hg x (aZ hx);refine fV (XP [(18,[(15,.c9 (.eo [od d0 jI k,.bool true]))])]) (adO f rs x i cN cO b d0 jI k fl nx lf es rt) fun g hg hc=>?_;simp only[aE,aL,bt]at hg;rcases hg with rfl|rfl
   . refine⟨?_,fun s' dX=>dX⟩
     repeat' (first|exact cQ|refine jn ?_ ?_)
     . exact⟨az _,de⟩
     . rw[eI,bj]
     . exact aN V.dm (fD hx)
     . exact l9 hk
     . exact fA de be
   . exact absurd (aK (hc _ (aq.2 rfl))) de
 . refine fV (XP [(18,[(15,.c9 (.eo [Bh,.bool false]))])]) (adP f rs [] rs.length cN cO b fl nx lf es rt) fun g hg hc=>?_;simp only[aE,aL,bt]at hg;rcases hg with rfl|rfl
   . exact absurd (aH (hc _ (aq.2 rfl))) de
   . exact⟨cQ,fun s' dX=>⟨rfl,dX⟩⟩
 . refine fu Tc (QI cN cO b fl nx lf es rt f rs rs.length) (dI ?_);exact⟨cQ,_,_,_,rfl,rfl,rfl,rfl⟩
end
end
def KJ:ag->Option (ah×V)
 | [.dL _ n cs,.fn (.func 41) [] []]=>some ([cs=strs (dF cs),n=(dF cs).length,n<=1000000,∀x∈dF cs,x.length=32],.int .i64 (-1))
 |_=>none
theorem ZP:jC ak 73 (EJ KJ):=by
 refine Ij (au U) fun args A v e hA=>?_;unfold KJ at e;split at e
 . rename_i f n cs;obtain⟨rfl,rfl⟩:=eY e;have e1:cs=strs (dF cs):=hA _ (by simp);have e2:n=(dF cs).length:=hA (n=(dF cs).length) (by simp);have e3:n<=1000000:=hA (n<=1000000) (by simp);have e4:∀x∈dF cs,x.length=32:=hA (∀x∈dF cs,x.length=32) (by simp);generalize dF cs=ps at *;subst e1 e2;exact gO mo po Tryz.func73 U U rfl rfl (fb (ZN f ps e3 e4) fun y s h=>by
    obtain⟨hy,v,h',n',e,rfl,_,_⟩:=h;exact⟨hy,_,h',n',e,.self⟩)
 . cases e
noncomputable abbrev W14:jJ:=kj 73 (EJ KJ) W13
theorem KK:fU ak W14:=fe ZP KH
section
variable(l:List (Nat×List (Nat×oT)))
noncomputable abbrev kW:eX:=gC ak W14 (sg l) 1000 40
noncomputable abbrev XQ:CX ak:=CX.of mo po KK (sg l) 1000 40
end
def Gq:ag->Bool
 | [_,.fn (.func 44) _ _]=>true
 |_=>false
section
variable(f:Bool)(rs:List (aa))(cN cO:Nat)(b:aa)(fl nx lf:Int)(es rt:ae)
theorem adR:c5 (CR (kW []) 73 Gq [.dL f rs.length (strs rs),f44] (hB cN cO b fl nx lf es rt) 8 (.int .i64 (-1),hB cN cO b fl nx lf es rt,8)) [] 8 Tryz.f43 [] Uf (cR [.dL f rs.length (strs rs),f44] (hB cN cO b fl nx lf es rt) 8) [([],[[V.dL f rs.length (strs rs),f44]=[.dL f rs.length (strs rs),f44]/\hB cN cO b fl nx lf es rt=hB cN cO b fl nx lf es rt/\8=8],.ret (.bool false) (hB cN cO b fl nx lf es rt) 8)]:=
 cP.of U U U
theorem QK(hl:rs.length<=1000000)(hg:∀x∈rs,D3 es x):cT ak 43 [.dL f rs.length (strs rs),f44] (hB cN cO b fl nx lf es rt) 8 (.bool false) (hB cN cO b fl nx lf es rt) 8:=by
 have h73:cT ak 73 [.dL f rs.length (strs rs),f44] (hB cN cO b fl nx lf es rt) 8 (.int .i64 (-1)) (hB cN cO b fl nx lf es rt) 8:=
  cZ Tryz.func73 U U (ZO cN cO b fl nx lf es rt f rs hl hg)
 refine cZ Tryz.func43 (code:=Uf) U U ?_;refine fu ((XQ []).QG Gq (au U) h73) (adR f rs cN cO b fl nx lf es rt) (dI ?_);exact⟨fun p hp=>by rw[aq]at hp;subst hp;exact⟨rfl,rfl,rfl⟩,_,_,_,rfl,rfl,rfl,rfl⟩
end
noncomputable abbrev csR(l:List (Nat×List (Nat×oT)))(h:Tr O)(f:Bool)(rs:List (aa)):eX:=CR (kW l) 43 Gq [.dL f rs.length (strs rs),f44] h 8 (.bool false,h,8)
noncomputable abbrev yX:Code:=dU Tryz.f15
def pN(fl nx lf:Int)(es rs:ae):jm:=⟨none,fl,nx,false,false,lf,es,rs⟩
def pS(cN cO:Nat)(b:aa)(fl nx lf:Int)(es rs:ae):jm:=⟨some (cN,cO,b),fl,nx,false,false,lf,es,rs⟩
def NU(d0:aa)(jI:List (aa))(k:Int):List (Nat×List (Nat×oT)):=[(18,[(15,.c9 (.eo [od d0 jI k,.bool true]))])]
def NV:List (Nat×List (Nat×oT)):=[(18,[(15,.c9 (.eo [Bh,.bool false]))]),(46,[(13,.c9 (.bool false))])]
def QL(fl nx lf:Int)(es rt:ae):Tr O:=hL [(0,.ints .u32 gS),(1,.ints .u32 gR),(3,.cells (xC 0 4 5 (pN fl nx lf es rt))),(4,.dD none es),(5,.dD none rt)]
theorem adS(d d0:aa)(jI:List (aa))(k:Int)(f:Bool)(rs:List (aa))(cN cO:Nat)(b:aa)(fl nx lf:Int)(es rt:ae):c5 (csR (NU d0 jI k) (hB cN cO b fl nx lf es rt) f rs) [(16,.c9 (.bool false)),(20,.c9 (.bool false))] 7 Tryz.f15 [] (yX) (cR [.ptr (some (3,0)),.str d,.dL f rs.length (strs rs)] (eu (pS cN cO b fl nx lf es rt)) 7) [([],
   [(V.bool (decide ((Int.ofNat d.length)>(65536:Int)))=V.bool false),(V.bool (decide ((Int.ofNat rs.length)>(1024:Int)))=V.bool false),(strs rs=strs (dF (strs rs))),(rs.length=(dF (strs rs)).length),(rs.length<=1000000),(∀(x:aa),x∈dF (strs rs)->x.length=32),([V.dL f rs.length (strs rs),f44]=[V.dL f rs.length (strs rs),f44]/\hB cN cO b fl nx lf es rt=hB cN cO b fl nx lf es rt/\8=8),(gS=gS),(gR=gR),(strs rs=strs (dF (strs rs))),(rs.length=(dF (strs rs)).length),(rs.length<=1000000),((eF (d::dF (strs rs))).length<=1000000000),((if true=true then V.eo [D.fS (V.agg [V.str ([]:aa),V.di none 0 0 0,V.int aj (0:Int)]) (dc (D.str (dJ d (dF (strs rs)))) (pL (some (cN,cO,b)) fl nx lf es rt).es),V.bool (dc (D.str (dJ d (dF (strs rs)))) (pL (some (cN,cO,b)) fl nx lf es rt).es).isSome]else D.fS (V.agg [V.str ([]:aa),V.di none 0 0 0,V.int aj (0:Int)]) (dc (D.str (dJ d (dF (strs rs)))) (pL (some (cN,cO,b)) fl nx lf es rt).es))=V.eo [od d0 jI k,V.bool true])],
   .ret (.eo [.str (dJ d (dF (strs rs))),.int .i64 0]) (hL [(0,.ints .u32 gS),(1,.ints .u32 gR),(3,.cells [.di (some (4,0)) cN cO 1,.int .i64 ((pL (some (cN,cO,b)) fl nx lf es rt).fl),.map (some 5),.map (some 6),.int .i64 ((pL (some (cN,cO,b)) fl nx lf es rt).nx),.bool false,.bool false,.int .i64 ((pL (some (cN,cO,b)) fl nx lf es rt).lf)]),(4,.iS 5 false (b)),(5,.dD none ((pL (some (cN,cO,b)) fl nx lf es rt).es)),(6,.dD none ((pL (some (cN,cO,b)) fl nx lf es rt).rs))]) 7)]
 :=cP.of U U U
theorem adT(d:aa)(f:Bool)(rs:List (aa))(cN cO:Nat)(b:aa)(fl nx lf:Int)(es rt:ae):c5 (csR NV (hB cN cO b fl nx lf es rt) f rs) [(16,.c9 (.bool false)),(20,.c9 (.bool false))] 7 Tryz.f15 [] (yX) (cR [.ptr (some (3,0)),.str d,.dL f rs.length (strs rs)] (eu (pS cN cO b fl nx lf es rt)) 7) [([],
   [(V.bool (decide ((Int.ofNat d.length)>(65536:Int)))=V.bool false),(V.bool (decide ((Int.ofNat rs.length)>(1024:Int)))=V.bool false),(strs rs=strs (dF (strs rs))),(rs.length=(dF (strs rs)).length),(rs.length<=1000000),(∀(x:aa),x∈dF (strs rs)->x.length=32),([V.dL f rs.length (strs rs),f44]=[V.dL f rs.length (strs rs),f44]/\hB cN cO b fl nx lf es rt=hB cN cO b fl nx lf es rt/\8=8),(gS=gS),(gR=gR),(strs rs=strs (dF (strs rs))),(rs.length=(dF (strs rs)).length),(rs.length<=1000000),((eF (d::dF (strs rs))).length<=1000000000),((if true=true then V.eo [D.fS (V.agg [V.str ([]:aa),V.di none 0 0 0,V.int aj (0:Int)]) (dc (D.str (dJ d (dF (strs rs)))) (pL (some (cN,cO,b)) fl nx lf es rt).es),V.bool (dc (D.str (dJ d (dF (strs rs)))) (pL (some (cN,cO,b)) fl nx lf es rt).es).isSome]else D.fS (V.agg [V.str ([]:aa),V.di none 0 0 0,V.int aj (0:Int)]) (dc (D.str (dJ d (dF (strs rs)))) (pL (some (cN,cO,b)) fl nx lf es rt).es))=V.eo [Bh,V.bool false]),(strs rs=strs (dF (strs rs))),(rs.length=(dF (strs rs)).length),(d.length<=100000000),(rs.length<=1000000),((dF (strs rs)).flatten.length<=100000000),(V.bool (decide (IntKind.i64.wrap ((Int.ofNat cN)+(Int.ofNat (gJ d (dF (strs rs))).length))>(1048576:Int)))=V.bool false),(0<cO),(cN=b.length),(eP (cN+(gJ d (dF (strs rs))).length) 1 1=true),(0<rs.length),((strs rs).length=rs.length),(rs.length<=1000000)],
   .ret (.eo [.str (dJ d (dF (strs rs))),.int .i64 0]) (hL [(0,.ints .u32 gS),(1,.ints .u32 gR),(3,.cells [.di (some (7,0)) (cN+(gJ d (dF (strs rs))).length) (cN+(gJ d (dF (strs rs))).length) 1,.int .i64 ((pL (some (cN,cO,b)) fl nx lf es rt).fl),.map (some 5),.map (some 6),.int .i64 (IntKind.i64.wrap ((pL (some (cN,cO,b)) fl nx lf es rt).nx+(1:Int))),.bool false,.bool false,.int .i64 ((pL (some (cN,cO,b)) fl nx lf es rt).lf)]),(5,.dD none (gY (D.str (dJ d (dF (strs rs)))) (D.agg [D.str d,D.dL rs.length (strs rs),D.int aj (pL (some (cN,cO,b)) fl nx lf es rt).nx]) (pL (some (cN,cO,b)) fl nx lf es rt).es)),(6,.dD none ((pL (some (cN,cO,b)) fl nx lf es rt).rs)),(7,.iS 5 false (b++eM (dP (gJ d (dF (strs rs))))))]) 8)]
 :=cP.of U U U
section
variable(n:Nat)(b:aa)(fl nx lf:Int)(es rt:ae)
def QM:Tr O:=hL [(0,.ints .u32 gS),(1,.ints .u32 gR),(3,.cells [.di (some (7,0)) n n 1,.int .i64 fl,.map (some 5),.map (some 6),.int .i64 nx,.bool false,.bool false,.int .i64 lf]),(5,.dD none es),(6,.dD none rt),(7,.iS 5 false b)]
def adU:Tr O:=hL [(0,.ints .u32 gS),(1,.ints .u32 gR),(3,.cells [.di (some (6,0)) n n 1,.int .i64 fl,.map (some 4),.map (some 5),.int .i64 nx,.bool false,.bool false,.int .i64 lf]),(4,.dD none es),(5,.dD none rt),(6,.iS 5 false b)]
end
theorem IA:dF []=[]:=rfl
theorem iX{x y:Int}(h:x<=y):V.bool (decide (x>y))=V.bool false:=by
 rw[bC be]
theorem jD(d:aa)(rs:List (aa))(h:∀x∈rs,x.length=32):(eF (d::rs)).length=8+d.length+40*rs.length:=by
 have key:∀rs:List (aa),(∀x∈rs,x.length=32)->(eF rs).length=40*rs.length:=by
  intro rs
  induction rs with
  |nil=>intro _;rfl
  |cons x rs ih=>
   intro h;have:=ih fun y hy=>h y (by simp[hy]);have hx:=h x (by simp);unfold eF at this ⊢;rw[List.flatMap_cons,ax,this,ax,vg,hx,aS];omega
 have e:eF (d::rs)=(l7 (Int.ofNat d.length)++d)++eF rs:=by
  unfold eF;rw[List.flatMap_cons]
 rw[e,ax,key rs h,ax,vg]
theorem vi{rs:List (aa)}(h:∀x∈rs,x.length=32):rs.flatten.length=32*rs.length:=by
 induction rs with
 |nil=>rfl
 |cons x rs ih=>
  rw[List.flatten_cons,ax,ih fun y hy=>h y (by simp[hy]),h x (by simp),aS];omega
theorem ET(d:aa){rs:List (aa)}(h:∀x∈rs,x.length=32):(gJ d rs).length<=d.length+20+32*rs.length:=by
 have:=(Iq d rs).2;rw[vi h]at this;exact this
section
variable(d:aa)(cN cO:Nat)(b:aa)(fl nx lf:Int)(es rt:ae)
variable(f:Bool)(rs:List (aa))
theorem QN(hd:d.length<=65536)(hn:rs.length<=1024)(h32:∀x∈rs,x.length=32)(DI:∀x∈rs,D3 es x)(hk:D3 es (dJ d rs)):
  cT ak 15 [.ptr (some (3,0)),.str d,.dL f rs.length (strs rs)] (eu (pS cN cO b fl nx lf es rt)) 7 (.eo [.str (dJ d rs),.int .i64 0]) (eu (pS cN cO b fl nx lf es rt)) 7:=by
 have hO:∀n:Nat,Int.ofNat n=(n:Int):=fun _=>rfl;obtain⟨d0,jI,k,hk⟩:=hk;refine cZ Tryz.func15 (code:=yX) U U ?_;obtain⟨L,hr⟩:=adS d d0 jI k f rs cN cO b fl nx lf es rt;simp only[ic]at hr;refine ia ((XQ (NU d0 jI k)).QG Gq (au U) (QK f rs cN cO b fl nx lf es rt be DI)) mo _ U hr (dI ?_);refine⟨?_,_,_,_,rfl,rfl,rfl,rfl⟩;have hj:=jD d rs h32
 repeat' (first|exact cQ|refine jn ?_ ?_)
 . exact iX de
 . exact iX de
 . first|rfl|trivial
 . first|rfl|trivial
 . omega
 . exact h32
 . first|exact⟨rfl,rfl,rfl⟩|exact⟨trivial,trivial,rfl⟩|exact⟨trivial,trivial,trivial⟩|trivial
 . first|rfl|trivial
 . first|rfl|trivial
 . first|rfl|trivial
 . first|rfl|trivial
 . omega
 . omega
 . exact l9 hk
theorem QO(hd:d.length<=65536)(hn:rs.length<=1024)(h0:0<rs.length)(h32:∀x∈rs,x.length=32)(DI:∀x∈rs,D3 es x)(hk:dc (.str (dJ d rs)) es=none)(hc:0<cO)(hl:cN=b.length)(M9:cN+(gJ d rs).length<=1048576):
  cT ak 15 [.ptr (some (3,0)),.str d,.dL f rs.length (strs rs)] (eu (pS cN cO b fl nx lf es rt)) 7 (.eo [.str (dJ d rs),.int .i64 0])
   (QM (cN+(gJ d rs).length) (b++gJ d rs) fl (IntKind.i64.wrap (nx+1)) lf (gY (.str (dJ d rs)) (pO d rs nx) es) rt) 8:=by
 have hO:∀n:Nat,Int.ofNat n=(n:Int):=fun _=>rfl;refine cZ Tryz.func15 (code:=yX) U U ?_;obtain⟨L,hr⟩:=adT d f rs cN cO b fl nx lf es rt;simp only[ic,gd]at hr;refine ia ((XQ NV).QG Gq (au U) (QK f rs cN cO b fl nx lf es rt be DI)) mo _ U hr (dI ?_);refine⟨?_,_,_,_,rfl,rfl,rfl,rfl⟩;have hj:=jD d rs h32;have S9:=vi h32
 repeat' (first|exact cQ|refine jn ?_ ?_)
 . exact iX de
 . exact iX de
 . first|rfl|trivial
 . first|rfl|trivial
 . omega
 . exact h32
 . first|exact⟨rfl,rfl,rfl⟩|exact⟨trivial,trivial,rfl⟩|exact⟨trivial,trivial,trivial⟩|trivial
 . first|rfl|trivial
 . first|rfl|trivial
 . first|rfl|trivial
 . first|rfl|trivial
 . omega
 . omega
 . exact qC hk
 . first|rfl|trivial
 . first|rfl|trivial
 . omega
 . omega
 . omega
 . rw[fC de de];exact iX de
 . exact hc
 . exact hl
 . exact ji be
 . exact h0
 . exact eI rs
 . omega
end
end Go.Proofs.YtfihojpgobmmdaaGreatDoor
