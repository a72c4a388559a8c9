/- The Chunk laws: a store in memory, under names of our own; contracts of its methods. No conditions. -/
import Derived.Test.YtfihojpgobmmdaaGreatDoorJointW05
import Derived.Test.YtfihojpgobmmdaaGreatDoorJointW06
set_option linter.unusedVariables false
set_option linter.unusedSimpArgs false
set_option linter.unusedSectionVars false
namespace Go.Proofs.YtfihojpgobmmdaaGreatDoor
open Go Go.Eng
theorem Db:∀(l:List (Option Nat)) (j0 m i:Nat),l.getD i none=some m->(∀i',i'<i->l.getD i' none≠some m)->Am l j0 m=some (j0+i)
 | [],_,_,i,h,_=>by simp at h
 |x::l,j0,m,0,h,_=>by
  have h:x=some m:=by simpa using h
  subst h;simp only[Am,cM];rfl
 |x::l,j0,m,i+1,h,fN=>by
  have ih:=Db l (j0+1) m i (by simpa using h) (fun i' hi=>by have:=fN (i'+1) be;simpa using this);have h0:=fN 0 be;have e:j0+1+i=j0+(i+1):=by omega
  cases x with
  |none=>simp only[Am,ih,e]
  |some k=>
   have:Nat.beq k m=false:=by
    cases q:Nat.beq k m with
    |false=>rfl
    |true=>exact absurd (by simp[aD q]) h0
   simp only[Am,this,ih,e]
theorem Dc{ns:List (Option Nat)}(hn:nu ns=true){j m:Nat}(h:ns.getD j none=some m):mu ns m=some j:=by
 have:=Db ns 0 m j h fun i hi q=>by have:=oL hn i j m q h;omega
 simpa using this
structure iw where
 lo:Option (Nat×Nat×aa)
 fl:Int
 nx:Int
 off:Bool
 arm:Bool
 lf:Int
 es:ae
 rs:ae
def lgV(g:Nat):Option (Nat×Nat×aa)->V
 |none=>.dj none 0 0 0
 |some (cO,cP,_)=>.dj (some (g,0)) cO cP 1
def xK(g c r:Nat)(p:iw):ag:=[lgV g p.lo,.int .i64 p.fl,.map (some c),.map (some r),.int .i64 p.nx,.bool p.off,.bool p.arm,.int .i64 p.lf]
def eO(p:iw):af:=match p.lo with
 |none=>[(0,.ints .u32 gS),(1,.ints .u32 gR),(3,.cells (xK 4 5 6 p)),(5,.dF none p.es),(6,.dF none p.rs)]
 |some (_,_,b)=>[(0,.ints .u32 gS),(1,.ints .u32 gR),(3,.cells (xK 4 5 6 p)),(4,.iU 5 false b),(5,.dF none p.es),(6,.dF none p.rs)]
def eu(p:iw):Tr O:=hL (eO p)
def IP(h:Tr O)(m:Nat):Option (List (Option Nat)×iw):=match h.get m with
 |some (.cells [lg,.int .i64 fl,.map (some c),.map (some r),.int .i64 nx,.bool off,.bool arm,.int .i64 lf])=>match h.get c,h.get r with
  |some (.dF none es),some (.dF none rs)=>match lg with
   | .dj none 0 0 0=>some ([some 0,some 1,some 2,some m,none,some c,some r],⟨none,fl,nx,off,arm,lf,es,rs⟩)
   | .dj (some (g,0)) cO cP 1=>match h.get g with
     |some (.iU 5 false b)=>some ([some 0,some 1,some 2,some m,some g,some c,some r],⟨some (cO,cP,b),fl,nx,off,arm,lf,es,rs⟩)
     |_=>none
   |_=>none
  |_,_=>none
 |_=>none
def okN(ns:List (Option Nat)):Bool:=nu ns&&ns.all fun x=>match x with|some m=>Nat.blt m fL|none=>true
section
variable{h:Tr O}{m:Nat}{ns:List (Option Nat)}{p:iw}
theorem KY(e:IP h m=some (ns,p)):∃g c r,h.get m=some (.cells (xK g c r p))/\h.get c=some (.dF none p.es)/\h.get r=some (.dF none p.rs)/\
  ((p.lo=none/\ns=[some 0,some 1,some 2,some m,none,some c,some r])\/∃cO cP b,p.lo=some (cO,cP,b)/\h.get g=some (.iU 5 false b)/\ns=[some 0,some 1,some 2,some m,some g,some c,some r]):=by
 unfold IP at e;split at e
 case h_2=>cases e
 rename_i lg fl c r nx off arm lf hm;split at e
 case h_2=>cases e
 rename_i es rs hc hr;split at e
 . obtain⟨rfl,rfl⟩:=fc e;exact⟨0,c,r,hm,hc,hr,.inl ⟨rfl,rfl⟩⟩
 . rename_i g cO cP;split at e
   . rename_i b hg;obtain⟨rfl,rfl⟩:=fc e;exact⟨g,c,r,hm,hc,hr,.inr ⟨cO,cP,b,rfl,hg,rfl⟩⟩
   . cases e
 . cases e
theorem IQ(e:IP h m=some (ns,p))(ht:KH h=some (gS,gR))(hn:okN ns=true):vl ns h (eu p)/\ns.length=7/\∀j k,ns.getD j none=some k->k<fL:=by
 obtain⟨g,c,r,hm,hc,hr,qy⟩:=KY e;obtain⟨h0,h1⟩:=Aq ht;simp only[okN,aC]at hn;obtain⟨J8,uY⟩:=hn;have gJ:∀j k,ns.getD j none=some k->k<fL:=by
  intro j k hk;have xA:some k∈ns:=by
   rw[aN]at hk;cases hx:ns[j]? with
   |none=>rw[hx]at hk;cases hk
   |some x=>rw[hx]at hk;simp only[Option.getD_some]at hk;subst hk;exact aU hx
  exact au (bq.1 uY _ xA)
 have aeu:ns.getD 0 none=some 0/\ns.getD 1 none=some 1/\ns.getD 2 none=some 2/\ns.getD 3 none=some m/\ns.getD 5 none=some c/\ns.getD 6 none=some r/\ns.length=7:=by
  rcases qy with⟨_,rfl⟩|⟨_,_,_,_,_,rfl⟩<;>exact⟨rfl,rfl,rfl,rfl,rfl,rfl,rfl⟩
 obtain⟨g0,g1,g2,g3,g5,g6,iS⟩:=aeu;have mc:=Dc J8 g5;have mr:=Dc J8 g6;have hgl:∀q∈jR,ns.getD q.2 none=some q.2:=by
  intro q hq;simp only[jR,aE,aL,bu]at hq;rcases hq with rfl|rfl|rfl
  . exact g0
  . exact g1
  . exact g2
 have Uh:∀q,q<3->∃z∈jR,z.2=q:=by
  intro q hq;rcases q with _|_|_|q
  . exact⟨(0,0),by simp[jR],rfl⟩
  . exact⟨(1,1),by simp[jR],rfl⟩
  . exact⟨(2,2),by simp[jR],rfl⟩
  . omega
 refine⟨?_,iS,gJ⟩;rcases qy with⟨yC,F0⟩|⟨cO,cP,b,yC,hg,F0⟩
 . unfold eu eO;rw[yC];refine Ar (fun q hq=>?_) hgl J8 (fun j k hj=>?_) ?_
   . simp only[aE,aL,bu]at hq;rcases hq with rfl|rfl|rfl|rfl|rfl<;>exact au rfl
   . rw[F0]at hj
     match j,hj with
     |0,hj=>cases hj;exact .inl (Uh 0 be)
     |1,hj=>cases hj;exact .inl (Uh 1 be)
     |2,hj=>cases hj;exact .inl (Uh 2 be)
     |3,hj=>cases hj;exact .inr (by rw[hm];simp)
     |4,hj=>cases hj
     |5,hj=>cases hj;exact .inr (by rw[hc];simp)
     |6,hj=>cases hj;exact .inr (by rw[hr];simp)
     |j+7,hj=>simp at hj
   . intro q hq;simp only[aE,aL,bu]at hq;rcases hq with rfl|rfl|rfl|rfl|rfl
     . exact⟨_,_,g0,h0,rfl⟩
     . exact⟨_,_,g1,h1,rfl⟩
     . refine⟨_,_,g3,hm,?_⟩;simp only[xK,yC,lgV,O.rn,V.DZ,V.rn,mc,mr]
     . exact⟨_,_,g5,hc,rfl⟩
     . exact⟨_,_,g6,hr,rfl⟩
 . have g4:ns.getD 4 none=some g:=by rw[F0];rfl
   have mg:=Dc J8 g4;unfold eu eO;rw[yC];refine Ar (fun q hq=>?_) hgl J8 (fun j k hj=>?_) ?_
   . simp only[aE,aL,bu]at hq;rcases hq with rfl|rfl|rfl|rfl|rfl|rfl<;>exact au rfl
   . rw[F0]at hj
     match j,hj with
     |0,hj=>cases hj;exact .inl (Uh 0 be)
     |1,hj=>cases hj;exact .inl (Uh 1 be)
     |2,hj=>cases hj;exact .inl (Uh 2 be)
     |3,hj=>cases hj;exact .inr (by rw[hm];simp)
     |4,hj=>cases hj;exact .inr (by rw[hg];simp)
     |5,hj=>cases hj;exact .inr (by rw[hc];simp)
     |6,hj=>cases hj;exact .inr (by rw[hr];simp)
     |j+7,hj=>simp at hj
   . intro q hq;simp only[aE,aL,bu]at hq;rcases hq with rfl|rfl|rfl|rfl|rfl|rfl
     . exact⟨_,_,g0,h0,rfl⟩
     . exact⟨_,_,g1,h1,rfl⟩
     . refine⟨_,_,g3,hm,?_⟩;simp only[xK,yC,lgV,O.rn,V.DZ,V.rn,mc,mr,mg]
     . exact⟨_,_,g4,hg,rfl⟩
     . exact⟨_,_,g5,hc,rfl⟩
     . exact⟨_,_,g6,hr,rfl⟩
end
abbrev Q9:=iw->ag->Option (ah×V×Tr O×Nat)
def UL(sp:Q9):ag->Tr O->Nat->Option (ah×V×Tr O×Nat):=fun args h n=>match args with
 | .ptr (some (m,0))::_=>match KH h,IP h m with
   |some (st,rd),some (ns,p)=>match okN ns,V.DZ (mu ns) args with
    |true,some nL=>match sp p nL with
     |some (A,v1,h1,n1)=>match Eh ns (eu p) (v1,h1,n1) h n with
      |some (v,h2,n2)=>some ((st=gS)::(rd=gR)::A,v,h2,n2)
      |none=>none
     |none=>none
    |_,_=>none
   |_,_=>none
 |_=>none
theorem UM{f:FuncId}{fn:Func}{code:Code}{sp:Q9}(fF:f<Tryz.prog.funcs.size)(hf:Tryz.prog.funcs[f]? =some fn)(hb:fn.body=some code)
  (hT:∀p args A v1 h1 n1,sp p args=some (A,v1,h1,n1)->(∀a∈A,a)->(Nat.ble args.length fn.ntmps&&Nat.blt fn.ntmps fL)=true/\TG ak 7 fn.ntmps code (cS args (eu p) 7) (fG ak 7 fn fun a b c=>a=v1/\b=h1/\c=n1)):jL ak f (UL sp):=by
 refine⟨fF,fun args h n A v h2 n2 e hA E w c9 ra g hd hc=>?_⟩;unfold UL at e;split at e
 case h_2=>cases e
 rename_i m rest;split at e
 case h_2=>cases e
 rename_i st rd ns p ht hs;split at e
 case h_2=>cases e
 rename_i nL iD T9;split at e
 case h_2=>cases e
 rename_i A1 v1 h1 n1 hsp;split at e
 case h_2=>cases e
 rename_i v2 h3 n3 hem;simp only[an,aB]at e;obtain⟨rfl,rfl,rfl,rfl⟩:=e;have e1:st=gS:=hA _ (by simp);have e2:rd=gR:=hA _ (by simp);subst e1 e2;obtain⟨hp,iS,_⟩:=IQ hs ht iD;obtain⟨l,hTG⟩:=hT p nL A1 v1 h1 n1 hsp fun a ha=>hA a (by simp[ha]);exact Fa mo po hf hb l hp T9 hem (by rw[iS];exact hTG) ra g hd
theorem alc:c6 UG [] 3 Tryz.f63 [] (dP Tryz.f63) (cS [.dj none 0 0 0] .nil 3) [([],
   [],
   .ret (.dj none 0 0 0) (hL []) 3)]
 :=cQ.of U U U
theorem ald(n:Nat)(cs:ai):c6 UG [] 3 Tryz.f63 [] (dP Tryz.f63) (cS [.dO false n cs] .nil 3) [([],
   [(0<n),(cs.length=n*1),(eT (0+n) 1 16=true)],
   .ret (.dj (some (3,0)) (0+n) (0+n) 1) (hL [(3,.deep ([]++cs))]) 4)]
 :=cQ.of U U U
theorem ale(n:Nat)(cs:ai):c6 UG [] 3 Tryz.f63 [] (dP Tryz.f63) (cS [.dO true n cs] .nil 3) [([],
   [(0<n),(cs.length=n*1),(eT (0+n) 1 16=true)],
   .ret (.dj (some (3,0)) (0+n) (0+n) 1) (hL [(3,.deep ([]++cs))]) 4)]
 :=cQ.of U U U
def KZ:ag->Option (ah×V)
 | [.dj none 0 0 0]=>some ([],.dj none 0 0 0)
 | [.dO _ n cs]=>some ([0<n,cs.length=n,n<=1000000],.dO false n cs)
 |_=>none
theorem Yb(n:Nat)(cs:ai)(h0:cs.length=n):nG (.dO false n cs) (.dj (some (3,0)) (0+n) (0+n) 1) (hL [(3,.deep ([]++cs))]) 4:=by
 refine⟨[[3]],[([]++cs).length=(0+n)*1],{ fr:=Tr.nil.set 0 (some (.dO false (0+n) ([]++cs))),h:=(hL [(3,.deep ([]++cs))]).set 3 none,n:=4,gz:=[] },U,fun a ha=>?_,?_⟩
 . rw[aq]at ha;subst ha;rw[cE];omega
 . have e:0+n=n:=bI n;rw[e];rfl
theorem aai:jL ak 63 (E7 KZ):=by
 refine IA (au U) fun args A v e hA=>?_;unfold KZ at e;split at e
 . obtain⟨rfl,rfl⟩:=fc e;obtain⟨L,hr⟩:=alc;exact gU mo po Tryz.func63 U U rfl rfl (ff (GB X12 mo U (by
    have:L=[]:=by
     have h2:=hr;unfold cQ at h2;have h3:Qv ak UG [] 1000 3 Tryz.f63 [] (dP Tryz.f63) (cS [.dj none 0 0 0] .nil 3)=some ([],[],[([],[],.ret (.dj none 0 0 0) (hL []) 3)]):=by kernel_rfl
     rw[h3]at h2;simp only[an,aB]at h2;exact h2.1.symm
    subst this;exact hr) cR) fun y s h=>kg h)
 . rename_i f n cs;obtain⟨rfl,rfl⟩:=fc e;have h0:0<n:=hA _ (by simp);have h1:cs.length=n:=hA (cs.length=n) (by simp);have h2:n<=1000000:=hA (n<=1000000) (by simp);have key:∀f,TG ak gN Tryz.f63.ntmps (dP Tryz.f63) (cS [.dO f n cs] .nil gN) (fG ak gN Tryz.f63 (nG (.dO false n cs))):=by
    intro f;cases f with
    |false=>
     refine fB X12 (ald n cs) (dG ?_);refine⟨?_,_,_,_,rfl,Yb n cs h1⟩
     repeat' (first|exact cR|refine jw ?_ ?_)
     . exact h0
     . omega
     . exact pV be
    |true=>
     refine fB X12 (ale n cs) (dG ?_);refine⟨?_,_,_,_,rfl,Yb n cs h1⟩
     repeat' (first|exact cR|refine jw ?_ ?_)
     . exact h0
     . omega
     . exact pV be
   exact gU mo po Tryz.func63 U U rfl rfl (key f)
 . cases e
noncomputable abbrev W13:jQ:=kB 63 (E7 KZ) W12
theorem K0:gd ak W13:=fk aai Q5
noncomputable abbrev IS:fb:=gI ak W13 H0 1000 40
noncomputable abbrev TL:CX ak:=CX.of mo po K0 H0 1000 40
def sk(l:List (Nat×List (Nat×o8)))(f:FuncId):List (Nat×o8):=match l with
 | []=>[]
 |x::r=>match Nat.beq x.1 f with
  |true=>x.2
  |false=>sk r f
section
variable(l:List (Nat×List (Nat×o8)))
noncomputable abbrev csP:fb:=gI ak W13 (sk l) 1000 40
noncomputable abbrev XP:CX ak:=CX.of mo po K0 (sk l) 1000 40
end
def pW(d:aa)(rs:List (aa))(k:Int):D:=.agg [.str d,.dO rs.length (strs rs),.int .i64 k]
def ot(d:aa)(rs:List (aa))(k:Int):V:=.agg [.str d,.dO false rs.length (strs rs),.int .i64 k]
def Bv:V:=.agg [.str [],.dj none 0 0 0,.int .i64 0]
noncomputable abbrev Og:Code:=dP Tryz.f73
noncomputable abbrev K1:Code:=de 1 Og
noncomputable abbrev GG:Code:=dK K1
noncomputable abbrev aaj:Code:=ee K1
noncomputable abbrev UN:Code:=dP Tryz.f43
def aak(p:iw):Tr O:=hL (eO p++[(7,.cells [.ptr (some (3,0))])])
def pL(lo:Option (Nat×Nat×aa))(fl nx lf:Int)(es rs:ae):iw:=⟨lo,fl,nx,false,false,lf,es,rs⟩
def f41:V:=.fn (.func 41) [] []
def f44:V:=.fn (.func 44) [] [.ptr (some (7,0))]
section
variable(h:Tr O)(n0:Nat)(gv:V)(f:Bool)(rs:List (aa))
def D1(i:Nat):St:=eF [(0,.dO f rs.length (strs rs)),(1,gv),(7,.int .i64 (Int.ofNat rs.length)),(8,.int .i64 (Int.ofNat i))] h n0
def UO:St:=eF [(0,.dO f rs.length (strs rs)),(1,gv)] h n0
end
section
variable(f:Bool)(rs:List (aa))(x:aa)(i cO cP:Nat)(b:aa)(fl nx lf:Int)(es rt:ae)
theorem alf:c6 IS [(8,.dc (.int .i64 (Int.ofNat 0)))] 3 Tryz.f73 [0,1,7,8] (dK GG) (UO (hL []) 3 f41 f rs) [([],
   [(V.int aj (0:Int)=V.int aj (0:Int))],
   .to .normal (eF [(0,.dO (f) (rs.length) (strs rs)),(1,.fn (.func 41) [] []),(7,.int .i64 ((Int.ofNat rs.length))),(8,.int .i64 0)] (hL []) 3))]
 :=cQ.of U U U
theorem aev:c6 IS [(9,.split),(14,.dc (.dm [.str x])),(16,.split),(18,.dc (.int .i64 (Int.ofNat (i+1))))] 3 Tryz.f73 [0,1,7,8] (dw (dw (ee GG))) (D1 (hL []) 3 f41 f rs i) [([((decide (Int.ofNat i<Int.ofNat rs.length)),true),((!(Int.ofNat x.length)==(32:Int)),true)],
   [((0:Int)<=Int.ofNat i/\Int.ofNat i<(Int.ofNat rs.length)),((strs rs).length=rs.length*1),(V.dm (dx (strs rs) ((Int.ofNat i).toNat*1) 1)=V.dm [D.str x])],
   .ret (.int .i64 (Int.ofNat i)) (hL []) 3),
  ([((decide (Int.ofNat i<Int.ofNat rs.length)),true),((!(Int.ofNat x.length)==(32:Int)),false)],
   [((0:Int)<=Int.ofNat i/\Int.ofNat i<(Int.ofNat rs.length)),((strs rs).length=rs.length*1),(V.dm (dx (strs rs) ((Int.ofNat i).toNat*1) 1)=V.dm [D.str x]),(V.int aj (IntKind.i64.wrap (Int.ofNat i+(1:Int)))=V.int aj (Int.ofNat (i+1)))],
   .to .normal (eF [(0,.dO (f) (rs.length) (strs rs)),(1,.fn (.func 41) [] []),(7,.int .i64 (Int.ofNat rs.length)),(8,.int .i64 (Int.ofNat (i+1)))] (hL []) 3)),
  ([((decide (Int.ofNat i<Int.ofNat rs.length)),false)],
   [],
   .to (.exit 0) (eF [(0,.dO (f) (rs.length) (strs rs)),(1,.fn (.func 41) [] []),(7,.int .i64 (Int.ofNat rs.length)),(8,.int .i64 (Int.ofNat i))] (hL []) 3))]
 :=cQ.of U U U
theorem aew(d0:aa)(jB:List (aa))(k fl nx lf:Int)(es rt:ae):c6 (csP [(18,[(15,.dc (.ew [ot d0 jB k,.bool true]))])]) [(9,.split),(14,.dc (.dm [.str x])),(18,.dc (.int .i64 (Int.ofNat (i+1))))] 8 Tryz.f73 [0,1,7,8] (dw (dw (ee GG))) (D1 (aak (pL (some (cO,cP,b)) fl nx lf es rt)) 8 f44 f rs i) [([((decide (Int.ofNat i<Int.ofNat rs.length)),true)],
   [((0:Int)<=Int.ofNat i/\Int.ofNat i<(Int.ofNat rs.length)),((strs rs).length=rs.length*1),(V.dm (dx (strs rs) ((Int.ofNat i).toNat*1) 1)=V.dm [D.str x]),((if true=true then V.ew [D.ga (V.agg [V.str ([]:aa),V.dj none 0 0 0,V.int aj (0:Int)]) (di (D.str x) (pL (some (cO,cP,b)) fl nx lf es rt).es),V.bool (di (D.str x) (pL (some (cO,cP,b)) fl nx lf es rt).es).isSome]else D.ga (V.agg [V.str ([]:aa),V.dj none 0 0 0,V.int aj (0:Int)]) (di (D.str x) (pL (some (cO,cP,b)) fl nx lf es rt).es))=V.ew [ot d0 jB k,V.bool true]),(V.int aj (IntKind.i64.wrap (Int.ofNat i+(1:Int)))=V.int aj (Int.ofNat (i+1)))],
   .to .normal (eF [(0,.dO (f) (rs.length) (strs rs)),(1,.fn (.func 44) [] [.ptr (some (7,0))]),(7,.int .i64 (Int.ofNat rs.length)),(8,.int .i64 (Int.ofNat (i+1)))] (hL [(0,.ints .u32 gS),(1,.ints .u32 gR),(3,.cells [.dj (some (4,0)) cO cP 1,.int .i64 ((pL (some (cO,cP,b)) fl nx lf es rt).fl),.map (some 5),.map (some 6),.int .i64 ((pL (some (cO,cP,b)) fl nx lf es rt).nx),.bool false,.bool false,.int .i64 ((pL (some (cO,cP,b)) fl nx lf es rt).lf)]),(4,.iU 5 false (b)),(5,.dF none ((pL (some (cO,cP,b)) fl nx lf es rt).es)),(6,.dF none ((pL (some (cO,cP,b)) fl nx lf es rt).rs)),(7,.cells [.ptr (some (3,0))])]) 8)),
  ([((decide (Int.ofNat i<Int.ofNat rs.length)),false)],
   [],
   .to (.exit 0) (eF [(0,.dO (f) (rs.length) (strs rs)),(1,.fn (.func 44) [] [.ptr (some (7,0))]),(7,.int .i64 (Int.ofNat rs.length)),(8,.int .i64 (Int.ofNat i))] (hL [(0,.ints .u32 gS),(1,.ints .u32 gR),(3,.cells [.dj (some (4,0)) cO cP 1,.int .i64 ((pL (some (cO,cP,b)) fl nx lf es rt).fl),.map (some 5),.map (some 6),.int .i64 ((pL (some (cO,cP,b)) fl nx lf es rt).nx),.bool false,.bool false,.int .i64 ((pL (some (cO,cP,b)) fl nx lf es rt).lf)]),(4,.iU 5 false (b)),(5,.dF none ((pL (some (cO,cP,b)) fl nx lf es rt).es)),(6,.dF none ((pL (some (cO,cP,b)) fl nx lf es rt).rs)),(7,.cells [.ptr (some (3,0))])]) 8))]
 :=cQ.of U U U
theorem aex:c6 (csP [(18,[(15,.dc (.ew [Bv,.bool false]))])]) [(9,.split),(14,.dc (.dm [.str x])),(18,.dc (.int .i64 (Int.ofNat (i+1))))] 8 Tryz.f73 [0,1,7,8] (dw (dw (ee GG))) (D1 (aak (pL (some (cO,cP,b)) fl nx lf es rt)) 8 f44 f rs i) [([((decide (Int.ofNat i<Int.ofNat rs.length)),true)],
   [((0:Int)<=Int.ofNat i/\Int.ofNat i<(Int.ofNat rs.length)),((strs rs).length=rs.length*1),(V.dm (dx (strs rs) ((Int.ofNat i).toNat*1) 1)=V.dm [D.str x]),((if true=true then V.ew [D.ga (V.agg [V.str ([]:aa),V.dj none 0 0 0,V.int aj (0:Int)]) (di (D.str x) (pL (some (cO,cP,b)) fl nx lf es rt).es),V.bool (di (D.str x) (pL (some (cO,cP,b)) fl nx lf es rt).es).isSome]else D.ga (V.agg [V.str ([]:aa),V.dj none 0 0 0,V.int aj (0:Int)]) (di (D.str x) (pL (some (cO,cP,b)) fl nx lf es rt).es))=V.ew [Bv,V.bool false])],
   .ret (.int .i64 (Int.ofNat i)) (hL [(0,.ints .u32 gS),(1,.ints .u32 gR),(3,.cells [.dj (some (4,0)) cO cP 1,.int .i64 ((pL (some (cO,cP,b)) fl nx lf es rt).fl),.map (some 5),.map (some 6),.int .i64 ((pL (some (cO,cP,b)) fl nx lf es rt).nx),.bool false,.bool false,.int .i64 ((pL (some (cO,cP,b)) fl nx lf es rt).lf)]),(4,.iU 5 false (b)),(5,.dF none ((pL (some (cO,cP,b)) fl nx lf es rt).es)),(6,.dF none ((pL (some (cO,cP,b)) fl nx lf es rt).rs)),(7,.cells [.ptr (some (3,0))])]) 8),
  ([((decide (Int.ofNat i<Int.ofNat rs.length)),false)],
   [],
   .to (.exit 0) (eF [(0,.dO (f) (rs.length) (strs rs)),(1,.fn (.func 44) [] [.ptr (some (7,0))]),(7,.int .i64 (Int.ofNat rs.length)),(8,.int .i64 (Int.ofNat i))] (hL [(0,.ints .u32 gS),(1,.ints .u32 gR),(3,.cells [.dj (some (4,0)) cO cP 1,.int .i64 ((pL (some (cO,cP,b)) fl nx lf es rt).fl),.map (some 5),.map (some 6),.int .i64 ((pL (some (cO,cP,b)) fl nx lf es rt).nx),.bool false,.bool false,.int .i64 ((pL (some (cO,cP,b)) fl nx lf es rt).lf)]),(4,.iU 5 false (b)),(5,.dF none ((pL (some (cO,cP,b)) fl nx lf es rt).es)),(6,.dF none ((pL (some (cO,cP,b)) fl nx lf es rt).rs)),(7,.cells [.ptr (some (3,0))])]) 8))]
 :=cQ.of U U U
end
theorem c7{f:FuncId}{fn:Func}{code:Code}(hf:Tryz.prog.funcs[f]? =some fn)(hb:fn.body=some code){args:ag}{h h1:Tr O}{n n1:Nat}{v:V}
  (l:(Nat.ble args.length fn.ntmps&&Nat.blt fn.ntmps fL)=true) (hT:TG ak n fn.ntmps code (cS args h n) (fG ak n fn fun a b c=>a=v/\b=h1/\c=n1)):cU ak f args h n v h1 n1:=
 fun _ _ _ ra g hd=>yY mo po hf hb l v h1 n1 hT ra g hd
noncomputable abbrev UP:Code:=dw (dw (ee GG))
theorem Yc{n0:Nat}{h:Tr O}{gv:V}{f:Bool}{rs:List (aa)}{R:V->Tr O->Nat->Prop}
  (h0:TG ak n0 Tryz.f73.ntmps (dK GG) (UO h n0 gv f rs) (andThen (fun s'=>e9 n0 [0,1,7,8] s'=some (D1 h n0 gv f rs 0)) fun _ _=>False))
  (hr:∀i x,rs[i]? =some x->TG ak n0 Tryz.f73.ntmps UP (D1 h n0 gv f rs i) (andThen (fun s'=>e9 n0 [0,1,7,8] s'=some (D1 h n0 gv f rs (i+1))) fun _ _=>False))
  (he:TG ak n0 Tryz.f73.ntmps UP (D1 h n0 gv f rs rs.length) fun y s'=>y= .exit 0/\e9 n0 [0,1,7,8] s'=some (D1 h n0 gv f rs rs.length))
  (hz:TG ak n0 Tryz.f73.ntmps aaj (D1 h n0 gv f rs rs.length) (fG ak n0 Tryz.f73 R)):TG ak n0 Tryz.f73.ntmps K1 (UO h n0 gv f rs) (fG ak n0 Tryz.f73 R):=by
 refine cV U ?_;refine cV U ?_;refine ff h0 fun y s' dL=>?_;cases y<;>first|exact dL.elim|skip
 have dL:e9 n0 [0,1,7,8] s'=some (D1 h n0 gv f rs 0):=dL;refine fg (i:=0) U (ff (Q1:=fun z s'=>z= .exit 0/\e9 n0 [0,1,7,8] s'=some (D1 h n0 gv f rs rs.length)) (gl (fun k' s=>∃i,k'=rs.length-i/\i<=rs.length/\e9 n0 [0,1,7,8] s=some (D1 h n0 gv f rs i)) U ?_ rs.length ⟨0,rfl,aZ _,dL⟩) ?_)
 . rintro k' s1 ⟨i,hk,hi,fS⟩;refine c5 fS ?_;rcases bP i rs.length with fF|zJ
   . refine ff (hr i _ (ay fF)) fun y s2 jg=>?_;cases y<;>first|exact jg.elim|skip
     exact⟨rs.length-(i+1),be,i+1,rfl,be,jg⟩
   . obtain rfl:i=rs.length:=by omega
     refine ff he fun y s2 jg=>?_;obtain⟨rfl,jg⟩:=jg;exact⟨rfl,jg⟩
 rintro y s2 ⟨rfl,jg⟩;rw[dX];simp only[andThen];exact c5 jg hz
section
variable(f:Bool){es:ae}(rs:List (aa)){x:aa}
theorem aal(i:Nat):c6 IS [] 3 Tryz.f73 [] aaj (D1 (hL []) 3 f41 f rs i) [([],[],.ret (.int .i64 (-1)) (hL []) 3)]:=
 cQ.of U U U
theorem aey:c6 IS [] 3 Tryz.f73 [0,1] (eR 1 Og) (cS [.dO f rs.length (strs rs),f41] (hL []) 3) [([],[],.to .normal (UO (hL []) 3 f41 f rs))]:=
 cQ.of U U U
theorem aam(hl:rs.length<=1000000)(hg:∀x∈rs,x.length=32):TG ak 3 Tryz.f73.ntmps Og (cS [.dO f rs.length (strs rs),f41] (hL []) 3) (fG ak 3 Tryz.f73 fun a b c=>a= .int .i64 (-1)/\b=hL []/\c=3):=by
 have hO:∀n:Nat,Int.ofNat n=(n:Int):=fun _=>rfl;refine iL  1 TL (aey f rs) cR ?_;show TG ak 3 Tryz.f73.ntmps K1 _ _;refine Yc ?_ (fun i x hx=>?_) ?_ ?_
 . refine fZ TL (alf f rs) (dG ?_);exact⟨fun p hp=>by rw[aq]at hp;subst hp;rfl,fun s' dL=>dL⟩
 . have fF:i<rs.length:=(aF.1 hx).1;have alg:x.length=32:=hg x (aU hx);refine fZ TL (aev f rs x i) fun g hg hc=>?_;simp only[aE,aL,bu]at hg;rcases hg with rfl|rfl|rfl
   . have:=hc _ (aJ _ (aq.2 rfl));simp[alg]at this
   . refine⟨?_,fun s' dL=>dL⟩
     repeat' (first|exact cR|refine jw ?_ ?_)
     . exact⟨az _,dh⟩
     . rw[eJ,bk]
     . exact aM V.dm (fI hx)
     . exact fE dh be
   . exact absurd (aK (hc _ (aq.2 rfl))) dh
 . refine fZ TL (aev f rs [] rs.length) fun g hg hc=>?_;simp only[aE,aL,bu]at hg;rcases hg with rfl|rfl|rfl
   . exact absurd (aH (hc _ (aP ..))) dh
   . exact absurd (aH (hc _ (aP ..))) dh
   . exact⟨cR,fun s' dL=>⟨rfl,dL⟩⟩
 . refine fB TL (aal f rs rs.length) (dG ?_);exact⟨cR,_,_,_,rfl,rfl,rfl,rfl⟩
def Ek(es:ae)(x:aa):Prop:=∃d rs k,di (.str x) es=some (pW d rs k)
theorem mq{d:aa}{rs:List (aa)}{k:Int}(h:di (.str x) es=some (pW d rs k)):
  (if true=true then V.ew [D.ga (V.agg [V.str ([]:aa),V.dj none 0 0 0,V.int aj (0:Int)]) (di (D.str x) es),V.bool (di (D.str x) es).isSome]else D.ga (V.agg [V.str ([]:aa),V.dj none 0 0 0,V.int aj (0:Int)]) (di (D.str x) es))=V.ew [ot d rs k,V.bool true]:=by
 rw[aG rfl,h];rfl
theorem qI(h:di (.str x) es=none):
  (if true=true then V.ew [D.ga (V.agg [V.str ([]:aa),V.dj none 0 0 0,V.int aj (0:Int)]) (di (D.str x) es),V.bool (di (D.str x) es).isSome]else D.ga (V.agg [V.str ([]:aa),V.dj none 0 0 0,V.int aj (0:Int)]) (di (D.str x) es))=V.ew [Bv,V.bool false]:=by
 rw[aG rfl,h];rfl
end
section
variable(cO cP:Nat)(b:aa)(fl nx lf:Int)(es rt:ae)
abbrev hB:Tr O:=aak (pL (some (cO,cP,b)) fl nx lf es rt)
section
variable(f:Bool)(rs:List (aa))
theorem Ra(i:Nat):c6 IS [] 8 Tryz.f73 [] aaj (D1 (hB cO cP b fl nx lf es rt) 8 f44 f rs i) [([],[],.ret (.int .i64 (-1)) (hB cO cP b fl nx lf es rt) 8)]:=
 cQ.of U U U
theorem Ms:c6 IS [] 8 Tryz.f73 [0,1] (eR 1 Og) (cS [.dO f rs.length (strs rs),f44] (hB cO cP b fl nx lf es rt) 8) [([],[],.to .normal (UO (hB cO cP b fl nx lf es rt) 8 f44 f rs))]:=
 cQ.of U U U
theorem Rb:c6 IS [(8,.dc (.int .i64 (Int.ofNat 0)))] 8 Tryz.f73 [0,1,7,8] (dK GG) (UO (hB cO cP b fl nx lf es rt) 8 f44 f rs) [([],[V.int .i64 0=V.int .i64 0],.to .normal (D1 (hB cO cP b fl nx lf es rt) 8 f44 f rs 0))]:=
 cQ.of U U U
theorem aan(hl:rs.length<=1000000)(hg:∀x∈rs,Ek es x):TG ak 8 Tryz.f73.ntmps Og (cS [.dO f rs.length (strs rs),f44] (hB cO cP b fl nx lf es rt) 8) (fG ak 8 Tryz.f73 fun a b' c=>a= .int .i64 (-1)/\b'=hB cO cP b fl nx lf es rt/\c=8):=by
 have hO:∀n:Nat,Int.ofNat n=(n:Int):=fun _=>rfl;refine iL  1 TL (Ms cO cP b fl nx lf es rt f rs) cR ?_;show TG ak 8 Tryz.f73.ntmps K1 _ _;refine Yc ?_ (fun i x hx=>?_) ?_ ?_
 . refine fZ TL (Rb cO cP b fl nx lf es rt f rs) (dG ?_);exact⟨fun p hp=>by rw[aq]at hp;subst hp;rfl,fun s' dL=>dL⟩
 . have fF:i<rs.length:=(aF.1 hx).1;obtain⟨d0,jB,k,hk⟩:=hg x (aU hx);refine fZ (XP [(18,[(15,.dc (.ew [ot d0 jB k,.bool true]))])]) (aew f rs x i cO cP b d0 jB k fl nx lf es rt) fun g hg hc=>?_;simp only[aE,aL,bu]at hg;rcases hg with rfl|rfl
   . refine⟨?_,fun s' dL=>dL⟩
     repeat' (first|exact cR|refine jw ?_ ?_)
     . exact⟨az _,dh⟩
     . rw[eJ,bk]
     . exact aM V.dm (fI hx)
     . exact mq hk
     . exact fE dh be
   . exact absurd (aK (hc _ (aq.2 rfl))) dh
 . refine fZ (XP [(18,[(15,.dc (.ew [Bv,.bool false]))])]) (aex f rs [] rs.length cO cP b fl nx lf es rt) fun g hg hc=>?_;simp only[aE,aL,bu]at hg;rcases hg with rfl|rfl
   . exact absurd (aH (hc _ (aq.2 rfl))) dh
   . exact⟨cR,fun s' dL=>⟨rfl,dL⟩⟩
 . refine fB TL (Ra cO cP b fl nx lf es rt f rs rs.length) (dG ?_);exact⟨cR,_,_,_,rfl,rfl,rfl,rfl⟩
end
end
def K2:ag->Option (ah×V)
 | [.dO _ n cs,.fn (.func 41) [] []]=>some ([cs=strs (dH cs),n=(dH cs).length,n<=1000000,∀x∈dH cs,x.length=32],.int .i64 (-1))
 |_=>none
theorem aao:jL ak 73 (E7 K2):=by
 refine IA (au U) fun args A v e hA=>?_;unfold K2 at e;split at e
 . rename_i f n cs;obtain⟨rfl,rfl⟩:=fc e;have e1:cs=strs (dH cs):=hA _ (by simp);have e2:n=(dH cs).length:=hA (n=(dH cs).length) (by simp);have e3:n<=1000000:=hA (n<=1000000) (by simp);have e4:∀x∈dH cs,x.length=32:=hA (∀x∈dH cs,x.length=32) (by simp);generalize dH cs=ps at *;subst e1 e2;exact gU mo po Tryz.func73 U U rfl rfl (ff (aam f ps e3 e4) fun y s h=>by
    obtain⟨hy,v,h',n',e,rfl,_,_⟩:=h;exact⟨hy,_,h',n',e,.self⟩)
 . cases e
noncomputable abbrev W14:jQ:=kB 73 (E7 K2) W13
theorem K3:gd ak W14:=fk aao K0
section
variable(l:List (Nat×List (Nat×o8)))
noncomputable abbrev kY:fb:=gI ak W14 (sk l) 1000 40
noncomputable abbrev XQ:CX ak:=CX.of mo po K3 (sk l) 1000 40
end
def GH:ag->Bool
 | [_,.fn (.func 44) _ _]=>true
 |_=>false
section
variable(f:Bool)(rs:List (aa))(cO cP:Nat)(b:aa)(fl nx lf:Int)(es rt:ae)
theorem aez:c6 (Da (kY []) 73 GH [.dO f rs.length (strs rs),f44] (hB cO cP b fl nx lf es rt) 8 (.int .i64 (-1),hB cO cP b fl nx lf es rt,8)) [] 8 Tryz.f43 [] UN (cS [.dO f rs.length (strs rs),f44] (hB cO cP b fl nx lf es rt) 8) [([],[[V.dO f rs.length (strs rs),f44]=[.dO f rs.length (strs rs),f44]/\hB cO cP b fl nx lf es rt=hB cO cP b fl nx lf es rt/\8=8],.ret (.bool false) (hB cO cP b fl nx lf es rt) 8)]:=
 cQ.of U U U
theorem Rc(hl:rs.length<=1000000)(hg:∀x∈rs,Ek es x):cU ak 43 [.dO f rs.length (strs rs),f44] (hB cO cP b fl nx lf es rt) 8 (.bool false) (hB cO cP b fl nx lf es rt) 8:=by
 have h73:cU ak 73 [.dO f rs.length (strs rs),f44] (hB cO cP b fl nx lf es rt) 8 (.int .i64 (-1)) (hB cO cP b fl nx lf es rt) 8:=
  c7 Tryz.func73 U U (aan cO cP b fl nx lf es rt f rs hl hg)
 refine c7 Tryz.func43 (code:=UN) U U ?_;refine fB ((XQ []).Q8 GH (au U) h73) (aez f rs cO cP b fl nx lf es rt) (dG ?_);exact⟨fun p hp=>by rw[aq]at hp;subst hp;exact⟨rfl,rfl,rfl⟩,_,_,_,rfl,rfl,rfl,rfl⟩
end
noncomputable abbrev csR(l:List (Nat×List (Nat×o8)))(h:Tr O)(f:Bool)(rs:List (aa)):fb:=Da (kY l) 43 GH [.dO f rs.length (strs rs),f44] h 8 (.bool false,h,8)
noncomputable abbrev za:Code:=dP Tryz.f15
def pN(fl nx lf:Int)(es rs:ae):iw:=⟨none,fl,nx,false,false,lf,es,rs⟩
def pS(cO cP:Nat)(b:aa)(fl nx lf:Int)(es rs:ae):iw:=⟨some (cO,cP,b),fl,nx,false,false,lf,es,rs⟩
def Oh(d0:aa)(jB:List (aa))(k:Int):List (Nat×List (Nat×o8)):=[(18,[(15,.dc (.ew [ot d0 jB k,.bool true]))])]
def Oi:List (Nat×List (Nat×o8)):=[(18,[(15,.dc (.ew [Bv,.bool false]))]),(46,[(13,.dc (.bool false))])]
def Re(fl nx lf:Int)(es rt:ae):Tr O:=hL [(0,.ints .u32 gS),(1,.ints .u32 gR),(3,.cells (xK 0 4 5 (pN fl nx lf es rt))),(4,.dF none es),(5,.dF none rt)]
theorem aeA(d d0:aa)(jB:List (aa))(k:Int)(f:Bool)(rs:List (aa))(cO cP:Nat)(b:aa)(fl nx lf:Int)(es rt:ae):c6 (csR (Oh d0 jB k) (hB cO cP b fl nx lf es rt) f rs) [(16,.dc (.bool false)),(20,.dc (.bool false))] 7 Tryz.f15 [] (za) (cS [.ptr (some (3,0)),.str d,.dO f rs.length (strs rs)] (eu (pS cO cP b fl nx lf es rt)) 7) [([],
   [(V.bool (decide ((Int.ofNat d.length)>(65536:Int)))=V.bool false),(V.bool (decide ((Int.ofNat rs.length)>(1024:Int)))=V.bool false),(strs rs=strs (dH (strs rs))),(rs.length=(dH (strs rs)).length),(rs.length<=1000000),(∀(x:aa),x∈dH (strs rs)->x.length=32),([V.dO f rs.length (strs rs),f44]=[V.dO f rs.length (strs rs),f44]/\hB cO cP b fl nx lf es rt=hB cO cP b fl nx lf es rt/\8=8),(gS=gS),(gR=gR),(strs rs=strs (dH (strs rs))),(rs.length=(dH (strs rs)).length),(rs.length<=1000000),((eH (d::dH (strs rs))).length<=1000000000),((if true=true then V.ew [D.ga (V.agg [V.str ([]:aa),V.dj none 0 0 0,V.int aj (0:Int)]) (di (D.str (dM d (dH (strs rs)))) (pL (some (cO,cP,b)) fl nx lf es rt).es),V.bool (di (D.str (dM d (dH (strs rs)))) (pL (some (cO,cP,b)) fl nx lf es rt).es).isSome]else D.ga (V.agg [V.str ([]:aa),V.dj none 0 0 0,V.int aj (0:Int)]) (di (D.str (dM d (dH (strs rs)))) (pL (some (cO,cP,b)) fl nx lf es rt).es))=V.ew [ot d0 jB k,V.bool true])],
   .ret (.ew [.str (dM d (dH (strs rs))),.int .i64 0]) (hL [(0,.ints .u32 gS),(1,.ints .u32 gR),(3,.cells [.dj (some (4,0)) cO cP 1,.int .i64 ((pL (some (cO,cP,b)) fl nx lf es rt).fl),.map (some 5),.map (some 6),.int .i64 ((pL (some (cO,cP,b)) fl nx lf es rt).nx),.bool false,.bool false,.int .i64 ((pL (some (cO,cP,b)) fl nx lf es rt).lf)]),(4,.iU 5 false (b)),(5,.dF none ((pL (some (cO,cP,b)) fl nx lf es rt).es)),(6,.dF none ((pL (some (cO,cP,b)) fl nx lf es rt).rs))]) 7)]
 :=cQ.of U U U
theorem aeB(d:aa)(f:Bool)(rs:List (aa))(cO cP:Nat)(b:aa)(fl nx lf:Int)(es rt:ae):c6 (csR Oi (hB cO cP b fl nx lf es rt) f rs) [(16,.dc (.bool false)),(20,.dc (.bool false))] 7 Tryz.f15 [] (za) (cS [.ptr (some (3,0)),.str d,.dO f rs.length (strs rs)] (eu (pS cO cP b fl nx lf es rt)) 7) [([],
   [(V.bool (decide ((Int.ofNat d.length)>(65536:Int)))=V.bool false),(V.bool (decide ((Int.ofNat rs.length)>(1024:Int)))=V.bool false),(strs rs=strs (dH (strs rs))),(rs.length=(dH (strs rs)).length),(rs.length<=1000000),(∀(x:aa),x∈dH (strs rs)->x.length=32),([V.dO f rs.length (strs rs),f44]=[V.dO f rs.length (strs rs),f44]/\hB cO cP b fl nx lf es rt=hB cO cP b fl nx lf es rt/\8=8),(gS=gS),(gR=gR),(strs rs=strs (dH (strs rs))),(rs.length=(dH (strs rs)).length),(rs.length<=1000000),((eH (d::dH (strs rs))).length<=1000000000),((if true=true then V.ew [D.ga (V.agg [V.str ([]:aa),V.dj none 0 0 0,V.int aj (0:Int)]) (di (D.str (dM d (dH (strs rs)))) (pL (some (cO,cP,b)) fl nx lf es rt).es),V.bool (di (D.str (dM d (dH (strs rs)))) (pL (some (cO,cP,b)) fl nx lf es rt).es).isSome]else D.ga (V.agg [V.str ([]:aa),V.dj none 0 0 0,V.int aj (0:Int)]) (di (D.str (dM d (dH (strs rs)))) (pL (some (cO,cP,b)) fl nx lf es rt).es))=V.ew [Bv,V.bool false]),(strs rs=strs (dH (strs rs))),(rs.length=(dH (strs rs)).length),(d.length<=100000000),(rs.length<=1000000),((dH (strs rs)).flatten.length<=100000000),(V.bool (decide (IntKind.i64.wrap ((Int.ofNat cO)+(Int.ofNat (gL d (dH (strs rs))).length))>(1048576:Int)))=V.bool false),(0<cP),(cO=b.length),(eT (cO+(gL d (dH (strs rs))).length) 1 1=true),(0<rs.length),((strs rs).length=rs.length),(rs.length<=1000000)],
   .ret (.ew [.str (dM d (dH (strs rs))),.int .i64 0]) (hL [(0,.ints .u32 gS),(1,.ints .u32 gR),(3,.cells [.dj (some (7,0)) (cO+(gL d (dH (strs rs))).length) (cO+(gL d (dH (strs rs))).length) 1,.int .i64 ((pL (some (cO,cP,b)) fl nx lf es rt).fl),.map (some 5),.map (some 6),.int .i64 (IntKind.i64.wrap ((pL (some (cO,cP,b)) fl nx lf es rt).nx+(1:Int))),.bool false,.bool false,.int .i64 ((pL (some (cO,cP,b)) fl nx lf es rt).lf)]),(5,.dF none (ic (D.str (dM d (dH (strs rs)))) (D.agg [D.str d,D.dO rs.length (strs rs),D.int aj (pL (some (cO,cP,b)) fl nx lf es rt).nx]) (pL (some (cO,cP,b)) fl nx lf es rt).es)),(6,.dF none ((pL (some (cO,cP,b)) fl nx lf es rt).rs)),(7,.iU 5 false (b++eN (dV (gL d (dH (strs rs))))))]) 8)]
 :=cQ.of U U U
section
variable(n:Nat)(b:aa)(fl nx lf:Int)(es rt:ae)
def Rf:Tr O:=hL [(0,.ints .u32 gS),(1,.ints .u32 gR),(3,.cells [.dj (some (7,0)) n n 1,.int .i64 fl,.map (some 5),.map (some 6),.int .i64 nx,.bool false,.bool false,.int .i64 lf]),(5,.dF none es),(6,.dF none rt),(7,.iU 5 false b)]
def aeC:Tr O:=hL [(0,.ints .u32 gS),(1,.ints .u32 gR),(3,.cells [.dj (some (6,0)) n n 1,.int .i64 fl,.map (some 4),.map (some 5),.int .i64 nx,.bool false,.bool false,.int .i64 lf]),(4,.dF none es),(5,.dF none rt),(6,.iU 5 false b)]
end
theorem IT:dH []=[]:=rfl
theorem iZ{x y:Int}(h:x<=y):V.bool (decide (x>y))=V.bool false:=by
 rw[bD be]
theorem jM(d:aa)(rs:List (aa))(h:∀x∈rs,x.length=32):(eH (d::rs)).length=8+d.length+40*rs.length:=by
 have key:∀rs:List (aa),(∀x∈rs,x.length=32)->(eH rs).length=40*rs.length:=by
  intro rs
  induction rs with
  |nil=>intro _;rfl
  |cons x rs ih=>
   intro h;have:=ih fun y hy=>h y (by simp[hy]);have hx:=h x (by simp);unfold eH at this ⊢;rw[List.flatMap_cons,ax,this,ax,vo,hx,aS];omega
 have e:eH (d::rs)=(mh (Int.ofNat d.length)++d)++eH rs:=by
  unfold eH;rw[List.flatMap_cons]
 rw[e,ax,key rs h,ax,vo]
theorem vr{rs:List (aa)}(h:∀x∈rs,x.length=32):rs.flatten.length=32*rs.length:=by
 induction rs with
 |nil=>rfl
 |cons x rs ih=>
  rw[List.flatten_cons,ax,ih fun y hy=>h y (by simp[hy]),h x (by simp),aS];omega
theorem As(d:aa){rs:List (aa)}(h:∀x∈rs,x.length=32):(gL d rs).length<=d.length+20+32*rs.length:=by
 have:=(IF d rs).2;rw[vr h]at this;exact this
section
variable(d:aa)(cO cP:Nat)(b:aa)(fl nx lf:Int)(es rt:ae)
variable(f:Bool)(rs:List (aa))
theorem Rg(hd:d.length<=65536)(hn:rs.length<=1024)(h32:∀x∈rs,x.length=32)(DY:∀x∈rs,Ek es x)(hk:Ek es (dM d rs)):
  cU ak 15 [.ptr (some (3,0)),.str d,.dO f rs.length (strs rs)] (eu (pS cO cP b fl nx lf es rt)) 7 (.ew [.str (dM d rs),.int .i64 0]) (eu (pS cO cP b fl nx lf es rt)) 7:=by
 have hO:∀n:Nat,Int.ofNat n=(n:Int):=fun _=>rfl;obtain⟨d0,jB,k,hk⟩:=hk;refine c7 Tryz.func15 (code:=za) U U ?_;obtain⟨L,hr⟩:=aeA d d0 jB k f rs cO cP b fl nx lf es rt;simp only[ik]at hr;refine gY ((XQ (Oh d0 jB k)).Q8 GH (au U) (Rc f rs cO cP b fl nx lf es rt be DY)) mo _ U hr (dG ?_);refine⟨?_,_,_,_,rfl,rfl,rfl,rfl⟩;have hj:=jM d rs h32
 repeat' (first|exact cR|refine jw ?_ ?_)
 . exact iZ dh
 . exact iZ dh
 . first|rfl|trivial
 . first|rfl|trivial
 . omega
 . exact h32
 . first|exact⟨rfl,rfl,rfl⟩|exact⟨trivial,trivial,rfl⟩|exact⟨trivial,trivial,trivial⟩|trivial
 . first|rfl|trivial
 . first|rfl|trivial
 . first|rfl|trivial
 . first|rfl|trivial
 . omega
 . omega
 . exact mq hk
theorem Rh(hd:d.length<=65536)(hn:rs.length<=1024)(h0:0<rs.length)(h32:∀x∈rs,x.length=32)(DY:∀x∈rs,Ek es x)(hk:di (.str (dM d rs)) es=none)(hc:0<cP)(hl:cO=b.length)(Nx:cO+(gL d rs).length<=1048576):
  cU ak 15 [.ptr (some (3,0)),.str d,.dO f rs.length (strs rs)] (eu (pS cO cP b fl nx lf es rt)) 7 (.ew [.str (dM d rs),.int .i64 0])
   (Rf (cO+(gL d rs).length) (b++gL d rs) fl (IntKind.i64.wrap (nx+1)) lf (ic (.str (dM d rs)) (pW d rs nx) es) rt) 8:=by
 have hO:∀n:Nat,Int.ofNat n=(n:Int):=fun _=>rfl;refine c7 Tryz.func15 (code:=za) U U ?_;obtain⟨L,hr⟩:=aeB d f rs cO cP b fl nx lf es rt;simp only[ik,gk]at hr;refine gY ((XQ Oi).Q8 GH (au U) (Rc f rs cO cP b fl nx lf es rt be DY)) mo _ U hr (dG ?_);refine⟨?_,_,_,_,rfl,rfl,rfl,rfl⟩;have hj:=jM d rs h32;have TI:=vr h32
 repeat' (first|exact cR|refine jw ?_ ?_)
 . exact iZ dh
 . exact iZ dh
 . first|rfl|trivial
 . first|rfl|trivial
 . omega
 . exact h32
 . first|exact⟨rfl,rfl,rfl⟩|exact⟨trivial,trivial,rfl⟩|exact⟨trivial,trivial,trivial⟩|trivial
 . first|rfl|trivial
 . first|rfl|trivial
 . first|rfl|trivial
 . first|rfl|trivial
 . omega
 . omega
 . exact qI hk
 . first|rfl|trivial
 . first|rfl|trivial
 . omega
 . omega
 . omega
 . rw[fH dh dh];exact iZ dh
 . exact hc
 . exact hl
 . exact jn be
 . exact h0
 . exact eJ rs
 . omega
end
end Go.Proofs.YtfihojpgobmmdaaGreatDoor
