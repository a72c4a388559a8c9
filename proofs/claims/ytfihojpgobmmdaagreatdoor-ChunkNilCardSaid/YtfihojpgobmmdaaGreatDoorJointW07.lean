/- Lemmas on the chunk store. No conditions. -/
import Derived.Test.YtfihojpgobmmdaaGreatDoorJointW05
import Derived.Test.YtfihojpgobmmdaaGreatDoorJointW06
set_option linter.unusedVariables false
set_option linter.unusedSimpArgs false
set_option linter.unusedSectionVars false
namespace Go.Proofs.YtfihojpgobmmdaaGreatDoor
open Go Go.Eng
theorem Dt:∀(l:List (Option Nat)) (j0 m i:Nat),l.getD i none=some m->(∀i',i'<i->l.getD i' none≠some m)->AB l j0 m=some (j0+i)
 | [],_,_,i,h,_=>by simp at h
 |x::l,j0,m,0,h,_=>by
  have h:x=some m:=by simpa using h
  subst h;simp only[AB,cO];rfl
 |x::l,j0,m,i+1,h,fU=>by
  have ih:=Dt l (j0+1) m i (by simpa using h) (fun i' hi=>by have:=fU (i'+1) K;simpa using this);have h0:=fU 0 K;have e:j0+1+i=j0+(i+1):=by omega
  cases x with
  |none=>simp only[AB,ih,e]
  |some k=>
   have:Nat.beq k m=false:=by
    cases q:Nat.beq k m with
    |false=>rfl
    |true=>exact absurd (by simp[aD q]) h0
   simp only[AB,this,ih,e]
theorem zv{ns:List (Option Nat)}(hn:nG ns=true){j m:Nat}(h:ns.getD j none=some m):mu ns m=some j:=by
 have:=Dt ns 0 m j h fun i hi q=>by have:=o8 hn i j m q h;omega
 simpa using this
structure gZ where
 lo:Option (Nat×Nat×L)
 X:Int
 R:Int
 off:Bool
 arm:Bool
 O:Int
 Q:ae
 D:ae
def lgV(g:Nat):Option (Nat×Nat×L)->V
 |none=>.dj none 0 0 0
 |some (T,A,_)=>.dj (some (g,0)) T A 1
def vI(g c r:Nat)(p:gZ):ag:=[lgV g p.lo,.int .i64 p.X,.map (some c),.map (some r),.int .i64 p.R,.bool p.off,.bool p.arm,.int .i64 p.O]
def eK(p:gZ):af:=match p.lo with
 |none=>[(0,.ints .u32 gS),(1,.ints .u32 gR),(3,.cells (vI 4 5 6 p)),(5,.dI none p.Q),(6,.dI none p.D)]
 |some (_,_,b)=>[(0,.ints .u32 gS),(1,.ints .u32 gR),(3,.cells (vI 4 5 6 p)),(4,.jf 5 false b),(5,.dI none p.Q),(6,.dI none p.D)]
def eu(p:gZ):H lf:=J (eK p)
def Fu(h:H lf)(m:Nat):Option (List (Option Nat)×gZ):=match h.get m with
 |some (.cells [lg,.int .i64 X,.map (some c),.map (some r),.int .i64 R,.bool off,.bool arm,.int .i64 O])=>match h.get c,h.get r with
  |some (.dI none Q),some (.dI none D)=>match lg with
   | .dj none 0 0 0=>some ([some 0,some 1,some 2,some m,none,some c,some r],⟨none,X,R,off,arm,O,Q,D⟩)
   | .dj (some (g,0)) T A 1=>match h.get g with
     |some (.jf 5 false b)=>some ([some 0,some 1,some 2,some m,some g,some c,some r],⟨some (T,A,b),X,R,off,arm,O,Q,D⟩)
     |_=>none
   |_=>none
  |_,_=>none
 |_=>none
def okN(ns:List (Option Nat)):Bool:=nG ns&&ns.all fun x=>match x with|some m=>Nat.blt m fP|none=>true
section
variable{h:H lf}{m:Nat}{ns:List (Option Nat)}{p:gZ}
theorem Du(e:Fu h m=some (ns,p)):∃g c r,h.get m=some (.cells (vI g c r p))/\h.get c=some (.dI none p.Q)/\h.get r=some (.dI none p.D)/\
  ((p.lo=none/\ns=[some 0,some 1,some 2,some m,none,some c,some r])\/∃T A b,p.lo=some (T,A,b)/\h.get g=some (.jf 5 false b)/\ns=[some 0,some 1,some 2,some m,some g,some c,some r]):=by
 unfold Fu at e;split at e
 case h_2=>cases e
 rename_i lg X c r R off arm O W;split at e
 case h_2=>cases e
 rename_i Q D I hr;split at e
 . obtain⟨rfl,rfl⟩:=fg e;exact⟨0,c,r,W,I,hr,.inl ⟨rfl,rfl⟩⟩
 . rename_i g T A;split at e
   . rename_i b hg;obtain⟨rfl,rfl⟩:=fg e;exact⟨g,c,r,W,I,hr,.inr ⟨T,A,b,rfl,hg,rfl⟩⟩
   . cases e
 . cases e
theorem Dv(e:Fu h m=some (ns,p))(ht:GR h=some (gS,gR))(hn:okN ns=true):rY ns h (eu p)/\ns.length=7/\∀j k,ns.getD j none=some k->k<fP:=by
 obtain⟨g,c,r,W,I,hr,mW⟩:=Du e;obtain⟨h0,N⟩:=wJ ht;simp only[okN,aC]at hn;obtain⟨Kt,pO⟩:=hn;have gT:∀j k,ns.getD j none=some k->k<fP:=by
  intro j k hk;have xW:some k∈ns:=by
   rw[aM]at hk;cases G:ns[j]? with
   |none=>rw[G]at hk;cases hk
   |some x=>rw[G]at hk;simp only[Option.getD_some]at hk;subst hk;exact bf G
  exact au (bt.1 pO _ xW)
 have ae8:ns.getD 0 none=some 0/\ns.getD 1 none=some 1/\ns.getD 2 none=some 2/\ns.getD 3 none=some m/\ns.getD 5 none=some c/\ns.getD 6 none=some r/\ns.length=7:=by
  rcases mW with⟨_,rfl⟩|⟨_,_,_,_,_,rfl⟩<;>exact⟨rfl,rfl,rfl,rfl,rfl,rfl,rfl⟩
 obtain⟨g0,g1,g2,g3,g5,g6,iQ⟩:=ae8;have mc:=zv Kt g5;have mr:=zv Kt g6;have hgl:∀q∈jU,ns.getD q.2 none=some q.2:=by
  intro q hq;simp only[jU,aF,aL,bw]at hq;rcases hq with rfl|rfl|rfl
  . exact g0
  . exact g1
  . exact g2
 have Uh:∀q,q<3->∃z∈jU,z.2=q:=by
  intro q hq;rcases q with _|_|_|q
  . exact⟨(0,0),by simp[jU],rfl⟩
  . exact⟨(1,1),by simp[jU],rfl⟩
  . exact⟨(2,2),by simp[jU],rfl⟩
  . omega
 refine⟨?_,iQ,gT⟩;rcases mW with⟨yQ,Gc⟩|⟨T,A,b,yQ,hg,Gc⟩
 . unfold eu eK;rw[yQ];refine AI (fun q hq=>?_) hgl Kt (fun j k hj=>?_) ?_
   . simp only[aF,aL,bw]at hq;rcases hq with rfl|rfl|rfl|rfl|rfl<;>exact au rfl
   . rw[Gc]at hj
     match j,hj with
     |0,hj=>cases hj;exact .inl (Uh 0 K)
     |1,hj=>cases hj;exact .inl (Uh 1 K)
     |2,hj=>cases hj;exact .inl (Uh 2 K)
     |3,hj=>cases hj;exact .inr (by rw[W];simp)
     |4,hj=>cases hj
     |5,hj=>cases hj;exact .inr (by rw[I];simp)
     |6,hj=>cases hj;exact .inr (by rw[hr];simp)
     |j+7,hj=>simp at hj
   . intro q hq;simp only[aF,aL,bw]at hq;rcases hq with rfl|rfl|rfl|rfl|rfl
     . exact⟨_,_,g0,h0,rfl⟩
     . exact⟨_,_,g1,N,rfl⟩
     . refine⟨_,_,g3,W,?_⟩;simp only[vI,yQ,lgV,lf.rn,V.y9,V.rn,mc,mr]
     . exact⟨_,_,g5,I,rfl⟩
     . exact⟨_,_,g6,hr,rfl⟩
 . have g4:ns.getD 4 none=some g:=by rw[Gc];rfl
   have mg:=zv Kt g4;unfold eu eK;rw[yQ];refine AI (fun q hq=>?_) hgl Kt (fun j k hj=>?_) ?_
   . simp only[aF,aL,bw]at hq;rcases hq with rfl|rfl|rfl|rfl|rfl|rfl<;>exact au rfl
   . rw[Gc]at hj
     match j,hj with
     |0,hj=>cases hj;exact .inl (Uh 0 K)
     |1,hj=>cases hj;exact .inl (Uh 1 K)
     |2,hj=>cases hj;exact .inl (Uh 2 K)
     |3,hj=>cases hj;exact .inr (by rw[W];simp)
     |4,hj=>cases hj;exact .inr (by rw[hg];simp)
     |5,hj=>cases hj;exact .inr (by rw[I];simp)
     |6,hj=>cases hj;exact .inr (by rw[hr];simp)
     |j+7,hj=>simp at hj
   . intro q hq;simp only[aF,aL,bw]at hq;rcases hq with rfl|rfl|rfl|rfl|rfl|rfl
     . exact⟨_,_,g0,h0,rfl⟩
     . exact⟨_,_,g1,N,rfl⟩
     . refine⟨_,_,g3,W,?_⟩;simp only[vI,yQ,lgV,lf.rn,V.y9,V.rn,mc,mr,mg]
     . exact⟨_,_,g4,hg,rfl⟩
     . exact⟨_,_,g5,I,rfl⟩
     . exact⟨_,_,g6,hr,rfl⟩
end
abbrev RE:=gZ->ag->Option (ah×V×H lf×Nat)
def Vm(sp:RE):ag->H lf->Nat->Option (ah×V×H lf×Nat):=fun args h n=>match args with
 | .ptr (some (m,0))::_=>match GR h,Fu h m with
   |some (st,rd),some (ns,p)=>match okN ns,V.y9 (mu ns) args with
    |true,some ld=>match sp p ld with
     |some (cS,v1,N,n1)=>match BK ns (eu p) (v1,N,n1) h n with
      |some (v,B,n2)=>some ((st=gS)::(rd=gR)::cS,v,B,n2)
      |none=>none
     |none=>none
    |_,_=>none
   |_,_=>none
 |_=>none
theorem Vn{f:FuncId}{fn:Func}{code:Code}{sp:RE}(fI:f<Tryz.prog.funcs.size)(hf:Tryz.prog.funcs[f]? =some fn)(hb:fn.body=some code)
  (hT:∀p args cS v1 N n1,sp p args=some (cS,v1,N,n1)->(∀a∈cS,a)->(Nat.ble args.length fn.ntmps&&Nat.blt fn.ntmps fP)=true/\TG ak 7 fn.ntmps code (cU args (eu p) 7) (fJ ak 7 fn fun a b c=>a=v1/\b=N/\c=n1)):jv ak f (Vm sp):=by
 refine⟨fI,fun args h n cS v B n2 e hA E w de ra g hd I=>?_⟩;unfold Vm at e;split at e
 case h_2=>cases e
 rename_i m rest;split at e
 case h_2=>cases e
 rename_i st rd ns p ht hs;split at e
 case h_2=>cases e
 rename_i ld iy UN;split at e
 case h_2=>cases e
 rename_i A1 v1 N n1 hsp;split at e
 case h_2=>cases e
 rename_i v2 h3 n3 hem;simp only[an,aB]at e;obtain⟨rfl,rfl,rfl,rfl⟩:=e;have e1:st=gS:=hA _ (by simp);have e2:rd=gR:=hA _ (by simp);subst e1 e2;obtain⟨hp,iQ,_⟩:=Dv hs ht iy;obtain⟨l,hTG⟩:=hT p ld A1 v1 N n1 hsp fun a ha=>hA a (by simp[ha]);exact AF mo po hf hb l hp UN hem (by rw[iQ];exact hTG) ra g hd
theorem amh:c9 Vg [] 3 Tryz.f63 [] (dN Tryz.f63) (cU [.dj none 0 0 0] .nil 3) [([],
   [],
   .ret (.dj none 0 0 0) (J []) 3)]
 :=cR.of U U U
theorem aaV(n:Nat)(C:ai):c9 Vg [] 3 Tryz.f63 [] (dN Tryz.f63) (cU [.dS false n C] .nil 3) [([],
   [(0<n),(C.length=n*1),(eU (0+n) 1 16=true)],
   .ret (.dj (some (3,0)) (0+n) (0+n) 1) (J [(3,.deep ([]++C))]) 4)]
 :=cR.of U U U
theorem ami(n:Nat)(C:ai):c9 Vg [] 3 Tryz.f63 [] (dN Tryz.f63) (cU [.dS true n C] .nil 3) [([],
   [(0<n),(C.length=n*1),(eU (0+n) 1 16=true)],
   .ret (.dj (some (3,0)) (0+n) (0+n) 1) (J [(3,.deep ([]++C))]) 4)]
 :=cR.of U U U
def Lm:ag->Option (ah×V)
 | [.dj none 0 0 0]=>some ([],.dj none 0 0 0)
 | [.dS _ n C]=>some ([0<n,C.length=n,n<=1000000],.dS false n C)
 |_=>none
theorem YO(n:Nat)(C:ai)(h0:C.length=n):nQ (.dS false n C) (.dj (some (3,0)) (0+n) (0+n) 1) (J [(3,.deep ([]++C))]) 4:=by
 refine⟨[[3]],[([]++C).length=(0+n)*1],{ S:=H.nil.set 0 (some (.dS false (0+n) ([]++C))),h:=(J [(3,.deep ([]++C))]).set 3 none,n:=4,gG:=[] },U,fun a ha=>?_,?_⟩
 . rw[aq]at ha;subst ha;rw[ck];omega
 . have e:0+n=n:=bE n;rw[e];rfl
theorem aaW:jv ak 63 (Dk Lm):=by
 refine IX (au U) fun args cS v e hA=>?_;unfold Lm at e;split at e
 . obtain⟨rfl,rfl⟩:=fg e;obtain⟨aa,hr⟩:=amh;exact ig mo po Tryz.func63 U U rfl rfl (fA (GO X12 mo U (by
    have:aa=[]:=by
     have B:=hr;unfold cR at B;have h3:Q2 ak Vg [] 1000 3 Tryz.f63 [] (dN Tryz.f63) (cU [.dj none 0 0 0] .nil 3)=some ([],[],[([],[],.ret (.dj none 0 0 0) (J []) 3)]):=by kernel_rfl
     rw[h3]at B;simp only[an,aB]at B;exact B.1.symm
    subst this;exact hr) cT) fun y s h=>ko h)
 . rename_i f n C;obtain⟨rfl,rfl⟩:=fg e;have h0:0<n:=hA _ (by simp);have N:C.length=n:=hA (C.length=n) (by simp);have B:n<=1000000:=hA (n<=1000000) (by simp);have key:∀f,TG ak gN Tryz.f63.ntmps (dN Tryz.f63) (cU [.dS f n C] .nil gN) (fJ ak gN Tryz.f63 (nQ (.dS false n C))):=by
    intro f;cases f with
    |false=>
     refine fh X12 (aaV n C) (dG ?_);refine⟨?_,_,_,_,rfl,YO n C N⟩
     repeat' (first|exact cT|refine iI ?_ ?_)
     . exact h0
     . omega
     . exact lZ K
    |true=>
     refine fh X12 (ami n C) (dG ?_);refine⟨?_,_,_,_,rfl,YO n C N⟩
     repeat' (first|exact cT|refine iI ?_ ?_)
     . exact h0
     . omega
     . exact lZ K
   exact ig mo po Tryz.func63 U U rfl rfl (key f)
 . cases e
noncomputable abbrev W13:jQ:=jD 63 (Dk Lm) W12
theorem Ln:gl ak W13:=e9 aaW RB
noncomputable abbrev I9:fb:=gP ak W13 H0 1000 40
noncomputable abbrev Ul:CX ak:=CX.of mo po Ln H0 1000 40
def qY(l:List (Nat×List (Nat×oZ)))(f:FuncId):List (Nat×oZ):=match l with
 | []=>[]
 |x::r=>match Nat.beq x.1 f with
  |true=>x.2
  |false=>qY r f
section
variable(l:List (Nat×List (Nat×oZ)))
noncomputable abbrev csP:fb:=gP ak W13 (qY l) 1000 40
noncomputable abbrev XP:CX ak:=CX.of mo po Ln (qY l) 1000 40
end
def oF(d:L)(D:List (L))(k:Int):rs:=.agg [.str d,.dS D.length (strs D),.int .i64 k]
def nJ(d:L)(D:List (L))(k:Int):V:=.agg [.str d,.dS false D.length (strs D),.int .i64 k]
def zw:V:=.agg [.str [],.dj none 0 0 0,.int .i64 0]
noncomputable abbrev OI:Code:=dN Tryz.f73
noncomputable abbrev Lo:Code:=dh 1 OI
noncomputable abbrev GW:Code:=dP Lo
noncomputable abbrev aaX:Code:=dY Lo
noncomputable abbrev Vo:Code:=dN Tryz.f43
def aaY(p:gZ):H lf:=J (eK p++[(7,.cells [.ptr (some (3,0))])])
def pL(lo:Option (Nat×Nat×L))(X R O:Int)(Q D:ae):gZ:=⟨lo,X,R,false,false,O,Q,D⟩
def f41:V:=.fn (.func 41) [] []
def f44:V:=.fn (.func 44) [] [.ptr (some (7,0))]
section
variable(h:H lf)(M:Nat)(gv:V)(f:Bool)(D:List (L))
def Ef(i:Nat):St:=eG [(0,.dS f D.length (strs D)),(1,gv),(7,.int .i64 (Int.ofNat D.length)),(8,.int .i64 (Int.ofNat i))] h M
def Vp:St:=eG [(0,.dS f D.length (strs D)),(1,gv)] h M
end
section
variable(f:Bool)(D:List (L))(x:L)(i T A:Nat)(b:L)(X R O:Int)(Q F:ae)
theorem amj:c9 I9 [(8,.di (.int .i64 (Int.ofNat 0)))] 3 Tryz.f73 [0,1,7,8] (dP GW) (Vp (J []) 3 f41 f D) [([],
   [(V.int aj (0:Int)=V.int aj (0:Int))],
   .to .normal (eG [(0,.dS (f) (D.length) (strs D)),(1,.fn (.func 41) [] []),(7,.int .i64 ((Int.ofNat D.length))),(8,.int .i64 0)] (J []) 3))]
 :=cR.of U U U
theorem ae9:c9 I9 [(9,.split),(14,.di (.dx [.str x])),(16,.split),(18,.di (.int .i64 (Int.ofNat (i+1))))] 3 Tryz.f73 [0,1,7,8] (dz (dz (dY GW))) (Ef (J []) 3 f41 f D i) [([((decide (Int.ofNat i<Int.ofNat D.length)),true),((!(Int.ofNat x.length)==(32:Int)),true)],
   [((0:Int)<=Int.ofNat i/\Int.ofNat i<(Int.ofNat D.length)),((strs D).length=D.length*1),(V.dx (dF (strs D) ((Int.ofNat i).toNat*1) 1)=V.dx [rs.str x])],
   .ret (.int .i64 (Int.ofNat i)) (J []) 3),
  ([((decide (Int.ofNat i<Int.ofNat D.length)),true),((!(Int.ofNat x.length)==(32:Int)),false)],
   [((0:Int)<=Int.ofNat i/\Int.ofNat i<(Int.ofNat D.length)),((strs D).length=D.length*1),(V.dx (dF (strs D) ((Int.ofNat i).toNat*1) 1)=V.dx [rs.str x]),(V.int aj (IntKind.i64.wrap (Int.ofNat i+(1:Int)))=V.int aj (Int.ofNat (i+1)))],
   .to .normal (eG [(0,.dS (f) (D.length) (strs D)),(1,.fn (.func 41) [] []),(7,.int .i64 (Int.ofNat D.length)),(8,.int .i64 (Int.ofNat (i+1)))] (J []) 3)),
  ([((decide (Int.ofNat i<Int.ofNat D.length)),false)],
   [],
   .to (.exit 0) (eG [(0,.dS (f) (D.length) (strs D)),(1,.fn (.func 41) [] []),(7,.int .i64 (Int.ofNat D.length)),(8,.int .i64 (Int.ofNat i))] (J []) 3))]
 :=cR.of U U U
theorem afa(d0:L)(gM:List (L))(k X R O:Int)(Q F:ae):c9 (csP [(18,[(15,.di (.ew [nJ d0 gM k,.bool true]))])]) [(9,.split),(14,.di (.dx [.str x])),(18,.di (.int .i64 (Int.ofNat (i+1))))] 8 Tryz.f73 [0,1,7,8] (dz (dz (dY GW))) (Ef (aaY (pL (some (T,A,b)) X R O Q F)) 8 f44 f D i) [([((decide (Int.ofNat i<Int.ofNat D.length)),true)],
   [((0:Int)<=Int.ofNat i/\Int.ofNat i<(Int.ofNat D.length)),((strs D).length=D.length*1),(V.dx (dF (strs D) ((Int.ofNat i).toNat*1) 1)=V.dx [rs.str x]),((if true=true then V.ew [rs.fW (V.agg [V.str ([]:L),V.dj none 0 0 0,V.int aj (0:Int)]) (dr (rs.str x) (pL (some (T,A,b)) X R O Q F).Q),V.bool (dr (rs.str x) (pL (some (T,A,b)) X R O Q F).Q).isSome]else rs.fW (V.agg [V.str ([]:L),V.dj none 0 0 0,V.int aj (0:Int)]) (dr (rs.str x) (pL (some (T,A,b)) X R O Q F).Q))=V.ew [nJ d0 gM k,V.bool true]),(V.int aj (IntKind.i64.wrap (Int.ofNat i+(1:Int)))=V.int aj (Int.ofNat (i+1)))],
   .to .normal (eG [(0,.dS (f) (D.length) (strs D)),(1,.fn (.func 44) [] [.ptr (some (7,0))]),(7,.int .i64 (Int.ofNat D.length)),(8,.int .i64 (Int.ofNat (i+1)))] (J [(0,.ints .u32 gS),(1,.ints .u32 gR),(3,.cells [.dj (some (4,0)) T A 1,.int .i64 ((pL (some (T,A,b)) X R O Q F).X),.map (some 5),.map (some 6),.int .i64 ((pL (some (T,A,b)) X R O Q F).R),.bool false,.bool false,.int .i64 ((pL (some (T,A,b)) X R O Q F).O)]),(4,.jf 5 false (b)),(5,.dI none ((pL (some (T,A,b)) X R O Q F).Q)),(6,.dI none ((pL (some (T,A,b)) X R O Q F).D)),(7,.cells [.ptr (some (3,0))])]) 8)),
  ([((decide (Int.ofNat i<Int.ofNat D.length)),false)],
   [],
   .to (.exit 0) (eG [(0,.dS (f) (D.length) (strs D)),(1,.fn (.func 44) [] [.ptr (some (7,0))]),(7,.int .i64 (Int.ofNat D.length)),(8,.int .i64 (Int.ofNat i))] (J [(0,.ints .u32 gS),(1,.ints .u32 gR),(3,.cells [.dj (some (4,0)) T A 1,.int .i64 ((pL (some (T,A,b)) X R O Q F).X),.map (some 5),.map (some 6),.int .i64 ((pL (some (T,A,b)) X R O Q F).R),.bool false,.bool false,.int .i64 ((pL (some (T,A,b)) X R O Q F).O)]),(4,.jf 5 false (b)),(5,.dI none ((pL (some (T,A,b)) X R O Q F).Q)),(6,.dI none ((pL (some (T,A,b)) X R O Q F).D)),(7,.cells [.ptr (some (3,0))])]) 8))]
 :=cR.of U U U
theorem afb:c9 (csP [(18,[(15,.di (.ew [zw,.bool false]))])]) [(9,.split),(14,.di (.dx [.str x])),(18,.di (.int .i64 (Int.ofNat (i+1))))] 8 Tryz.f73 [0,1,7,8] (dz (dz (dY GW))) (Ef (aaY (pL (some (T,A,b)) X R O Q F)) 8 f44 f D i) [([((decide (Int.ofNat i<Int.ofNat D.length)),true)],
   [((0:Int)<=Int.ofNat i/\Int.ofNat i<(Int.ofNat D.length)),((strs D).length=D.length*1),(V.dx (dF (strs D) ((Int.ofNat i).toNat*1) 1)=V.dx [rs.str x]),((if true=true then V.ew [rs.fW (V.agg [V.str ([]:L),V.dj none 0 0 0,V.int aj (0:Int)]) (dr (rs.str x) (pL (some (T,A,b)) X R O Q F).Q),V.bool (dr (rs.str x) (pL (some (T,A,b)) X R O Q F).Q).isSome]else rs.fW (V.agg [V.str ([]:L),V.dj none 0 0 0,V.int aj (0:Int)]) (dr (rs.str x) (pL (some (T,A,b)) X R O Q F).Q))=V.ew [zw,V.bool false])],
   .ret (.int .i64 (Int.ofNat i)) (J [(0,.ints .u32 gS),(1,.ints .u32 gR),(3,.cells [.dj (some (4,0)) T A 1,.int .i64 ((pL (some (T,A,b)) X R O Q F).X),.map (some 5),.map (some 6),.int .i64 ((pL (some (T,A,b)) X R O Q F).R),.bool false,.bool false,.int .i64 ((pL (some (T,A,b)) X R O Q F).O)]),(4,.jf 5 false (b)),(5,.dI none ((pL (some (T,A,b)) X R O Q F).Q)),(6,.dI none ((pL (some (T,A,b)) X R O Q F).D)),(7,.cells [.ptr (some (3,0))])]) 8),
  ([((decide (Int.ofNat i<Int.ofNat D.length)),false)],
   [],
   .to (.exit 0) (eG [(0,.dS (f) (D.length) (strs D)),(1,.fn (.func 44) [] [.ptr (some (7,0))]),(7,.int .i64 (Int.ofNat D.length)),(8,.int .i64 (Int.ofNat i))] (J [(0,.ints .u32 gS),(1,.ints .u32 gR),(3,.cells [.dj (some (4,0)) T A 1,.int .i64 ((pL (some (T,A,b)) X R O Q F).X),.map (some 5),.map (some 6),.int .i64 ((pL (some (T,A,b)) X R O Q F).R),.bool false,.bool false,.int .i64 ((pL (some (T,A,b)) X R O Q F).O)]),(4,.jf 5 false (b)),(5,.dI none ((pL (some (T,A,b)) X R O Q F).Q)),(6,.dI none ((pL (some (T,A,b)) X R O Q F).D)),(7,.cells [.ptr (some (3,0))])]) 8))]
 :=cR.of U U U
end
theorem c5{f:FuncId}{fn:Func}{code:Code}(hf:Tryz.prog.funcs[f]? =some fn)(hb:fn.body=some code){args:ag}{h N:H lf}{n n1:Nat}{v:V}
  (l:(Nat.ble args.length fn.ntmps&&Nat.blt fn.ntmps fP)=true) (hT:TG ak n fn.ntmps code (cU args h n) (fJ ak n fn fun a b c=>a=v/\b=N/\c=n1)):cW ak f args h n v N n1:=
 fun _ _ _ ra g hd=>tR mo po hf hb l v N n1 hT ra g hd
noncomputable abbrev Vq:Code:=dz (dz (dY GW))
theorem YP{M:Nat}{h:H lf}{gv:V}{f:Bool}{D:List (L)}{nx:V->H lf->Nat->Prop}
  (h0:TG ak M Tryz.f73.ntmps (dP GW) (Vp h M gv f D) (andThen (fun s'=>fa M [0,1,7,8] s'=some (Ef h M gv f D 0)) fun _ _=>False))
  (hr:∀i x,D[i]? =some x->TG ak M Tryz.f73.ntmps Vq (Ef h M gv f D i) (andThen (fun s'=>fa M [0,1,7,8] s'=some (Ef h M gv f D (i+1))) fun _ _=>False))
  (he:TG ak M Tryz.f73.ntmps Vq (Ef h M gv f D D.length) fun y s'=>y= .exit 0/\fa M [0,1,7,8] s'=some (Ef h M gv f D D.length))
  (hz:TG ak M Tryz.f73.ntmps aaX (Ef h M gv f D D.length) (fJ ak M Tryz.f73 nx)):TG ak M Tryz.f73.ntmps Lo (Vp h M gv f D) (fJ ak M Tryz.f73 nx):=by
 refine cZ U ?_;refine cZ U ?_;refine fA h0 fun y s' dO=>?_;cases y<;>first|exact dO.elim|skip
 have dO:fa M [0,1,7,8] s'=some (Ef h M gv f D 0):=dO;refine fB (i:=0) U (fA (Q1:=fun z s'=>z= .exit 0/\fa M [0,1,7,8] s'=some (Ef h M gv f D D.length)) (gw (fun k' s=>∃i,k'=D.length-i/\i<=D.length/\fa M [0,1,7,8] s=some (Ef h M gv f D i)) U ?_ D.length ⟨0,rfl,aX _,dO⟩) ?_)
 . rintro k' s1 ⟨i,hk,hi,gi⟩;refine c6 gi ?_;rcases bK i D.length with fI|y6
   . refine fA (hr i _ (ay fI)) fun y s2 jr=>?_;cases y<;>first|exact jr.elim|skip
     exact⟨D.length-(i+1),K,i+1,rfl,K,jr⟩
   . obtain rfl:i=D.length:=by omega
     refine fA he fun y s2 jr=>?_;obtain⟨rfl,jr⟩:=jr;exact⟨rfl,jr⟩
 rintro y s2 ⟨rfl,jr⟩;rw[dV];simp only[andThen];exact c6 jr hz
section
variable(f:Bool){Q:ae}(D:List (L)){x:L}
theorem aaZ(i:Nat):c9 I9 [] 3 Tryz.f73 [] aaX (Ef (J []) 3 f41 f D i) [([],[],.ret (.int .i64 (-1)) (J []) 3)]:=
 cR.of U U U
theorem afc:c9 I9 [] 3 Tryz.f73 [0,1] (eV 1 OI) (cU [.dS f D.length (strs D),f41] (J []) 3) [([],[],.to .normal (Vp (J []) 3 f41 f D))]:=
 cR.of U U U
theorem aa0(hl:D.length<=1000000)(hg:∀x∈D,x.length=32):TG ak 3 Tryz.f73.ntmps OI (cU [.dS f D.length (strs D),f41] (J []) 3) (fJ ak 3 Tryz.f73 fun a b c=>a= .int .i64 (-1)/\b=J []/\c=3):=by
 have hO:∀n:Nat,Int.ofNat n=(n:Int):=fun _=>rfl;refine iF  1 Ul (afc f D) cT ?_;show TG ak 3 Tryz.f73.ntmps Lo _ _;refine YP ?_ (fun i x G=>?_) ?_ ?_
 . refine fO Ul (amj f D) (dG ?_);exact⟨fun p hp=>by rw[aq]at hp;subst hp;rfl,fun s' dO=>dO⟩
 . have fI:i<D.length:=(aG.1 G).1;have amk:x.length=32:=hg x (bf G);refine fO Ul (ae9 f D x i) fun g hg I=>?_;simp only[aF,aL,bw]at hg;rcases hg with rfl|rfl|rfl
   . have:=I _ (aK _ (aq.2 rfl));simp[amk]at this
   . refine⟨?_,fun s' dO=>dO⟩
     repeat' (first|exact cT|refine iI ?_ ?_)
     . exact⟨az _,dm⟩
     . rw[eN,bk]
     . exact aN V.dx (fM G)
     . exact fL dm K
   . exact absurd (aJ (I _ (aq.2 rfl))) dm
 . refine fO Ul (ae9 f D [] D.length) fun g hg I=>?_;simp only[aF,aL,bw]at hg;rcases hg with rfl|rfl|rfl
   . exact absurd (aE (I _ (aP ..))) dm
   . exact absurd (aE (I _ (aP ..))) dm
   . exact⟨cT,fun s' dO=>⟨rfl,dO⟩⟩
 . refine fh Ul (aaZ f D D.length) (dG ?_);exact⟨cT,_,_,_,rfl,rfl,rfl,rfl⟩
def uC(Q:ae)(x:L):Prop:=∃d D k,dr (.str x) Q=some (oF d D k)
theorem kM{d:L}{D:List (L)}{k:Int}(h:dr (.str x) Q=some (oF d D k)):
  (if true=true then V.ew [rs.fW (V.agg [V.str ([]:L),V.dj none 0 0 0,V.int aj (0:Int)]) (dr (rs.str x) Q),V.bool (dr (rs.str x) Q).isSome]else rs.fW (V.agg [V.str ([]:L),V.dj none 0 0 0,V.int aj (0:Int)]) (dr (rs.str x) Q))=V.ew [nJ d D k,V.bool true]:=by
 rw[aH rfl,h];rfl
theorem oG(h:dr (.str x) Q=none):
  (if true=true then V.ew [rs.fW (V.agg [V.str ([]:L),V.dj none 0 0 0,V.int aj (0:Int)]) (dr (rs.str x) Q),V.bool (dr (rs.str x) Q).isSome]else rs.fW (V.agg [V.str ([]:L),V.dj none 0 0 0,V.int aj (0:Int)]) (dr (rs.str x) Q))=V.ew [zw,V.bool false]:=by
 rw[aH rfl,h];rfl
end
section
variable(T A:Nat)(b:L)(X R O:Int)(Q F:ae)
abbrev hB:H lf:=aaY (pL (some (T,A,b)) X R O Q F)
section
variable(f:Bool)(D:List (L))
theorem RF(i:Nat):c9 I9 [] 8 Tryz.f73 [] aaX (Ef (hB T A b X R O Q F) 8 f44 f D i) [([],[],.ret (.int .i64 (-1)) (hB T A b X R O Q F) 8)]:=
 cR.of U U U
theorem MO:c9 I9 [] 8 Tryz.f73 [0,1] (eV 1 OI) (cU [.dS f D.length (strs D),f44] (hB T A b X R O Q F) 8) [([],[],.to .normal (Vp (hB T A b X R O Q F) 8 f44 f D))]:=
 cR.of U U U
theorem RG:c9 I9 [(8,.di (.int .i64 (Int.ofNat 0)))] 8 Tryz.f73 [0,1,7,8] (dP GW) (Vp (hB T A b X R O Q F) 8 f44 f D) [([],[V.int .i64 0=V.int .i64 0],.to .normal (Ef (hB T A b X R O Q F) 8 f44 f D 0))]:=
 cR.of U U U
theorem aa1(hl:D.length<=1000000)(hg:∀x∈D,uC Q x):TG ak 8 Tryz.f73.ntmps OI (cU [.dS f D.length (strs D),f44] (hB T A b X R O Q F) 8) (fJ ak 8 Tryz.f73 fun a b' c=>a= .int .i64 (-1)/\b'=hB T A b X R O Q F/\c=8):=by
 have hO:∀n:Nat,Int.ofNat n=(n:Int):=fun _=>rfl;refine iF  1 Ul (MO T A b X R O Q F f D) cT ?_;show TG ak 8 Tryz.f73.ntmps Lo _ _;refine YP ?_ (fun i x G=>?_) ?_ ?_
 . refine fO Ul (RG T A b X R O Q F f D) (dG ?_);exact⟨fun p hp=>by rw[aq]at hp;subst hp;rfl,fun s' dO=>dO⟩
 . have fI:i<D.length:=(aG.1 G).1;obtain⟨d0,gM,k,hk⟩:=hg x (bf G);refine fO (XP [(18,[(15,.di (.ew [nJ d0 gM k,.bool true]))])]) (afa f D x i T A b d0 gM k X R O Q F) fun g hg I=>?_;simp only[aF,aL,bw]at hg;rcases hg with rfl|rfl
   . refine⟨?_,fun s' dO=>dO⟩
     repeat' (first|exact cT|refine iI ?_ ?_)
     . exact⟨az _,dm⟩
     . rw[eN,bk]
     . exact aN V.dx (fM G)
     . exact kM hk
     . exact fL dm K
   . exact absurd (aJ (I _ (aq.2 rfl))) dm
 . refine fO (XP [(18,[(15,.di (.ew [zw,.bool false]))])]) (afb f D [] D.length T A b X R O Q F) fun g hg I=>?_;simp only[aF,aL,bw]at hg;rcases hg with rfl|rfl
   . exact absurd (aE (I _ (aq.2 rfl))) dm
   . exact⟨cT,fun s' dO=>⟨rfl,dO⟩⟩
 . refine fh Ul (RF T A b X R O Q F f D D.length) (dG ?_);exact⟨cT,_,_,_,rfl,rfl,rfl,rfl⟩
end
end
def GX:ag->Option (ah×V)
 | [.dS _ n C,.fn (.func 41) [] []]=>some ([C=strs (dy C),n=(dy C).length,n<=1000000,∀x∈dy C,x.length=32],.int .i64 (-1))
 |_=>none
theorem RH:jv ak 73 (Dk GX):=by
 refine IX (au U) fun args cS v e hA=>?_;unfold GX at e;split at e
 . rename_i f n C;obtain⟨rfl,rfl⟩:=fg e;have e1:C=strs (dy C):=hA _ (by simp);have e2:n=(dy C).length:=hA (n=(dy C).length) (by simp);have e3:n<=1000000:=hA (n<=1000000) (by simp);have e4:∀x∈dy C,x.length=32:=hA (∀x∈dy C,x.length=32) (by simp);generalize dy C=ps at *;subst e1 e2;exact ig mo po Tryz.func73 U U rfl rfl (fA (aa0 f ps e3 e4) fun y s h=>by
    obtain⟨hy,v,h',n',e,rfl,_,_⟩:=h;exact⟨hy,_,h',n',e,.self⟩)
 . cases e
noncomputable abbrev W14:jQ:=jD 73 (Dk GX) W13
theorem Lp:gl ak W14:=e9 RH Ln
section
variable(l:List (Nat×List (Nat×oZ)))
noncomputable abbrev kS:fb:=gP ak W14 (qY l) 1000 40
noncomputable abbrev XQ:CX ak:=CX.of mo po Lp (qY l) 1000 40
end
def BM:ag->Bool
 | [_,.fn (.func 44) _ _]=>true
 |_=>false
section
variable(f:Bool)(D:List (L))(T A:Nat)(b:L)(X R O:Int)(Q F:ae)
theorem afd:c9 (Bp (kS []) 73 BM [.dS f D.length (strs D),f44] (hB T A b X R O Q F) 8 (.int .i64 (-1),hB T A b X R O Q F,8)) [] 8 Tryz.f43 [] Vo (cU [.dS f D.length (strs D),f44] (hB T A b X R O Q F) 8) [([],[[V.dS f D.length (strs D),f44]=[.dS f D.length (strs D),f44]/\hB T A b X R O Q F=hB T A b X R O Q F/\8=8],.ret (.bool false) (hB T A b X R O Q F) 8)]:=
 cR.of U U U
theorem RJ(hl:D.length<=1000000)(hg:∀x∈D,uC Q x):cW ak 43 [.dS f D.length (strs D),f44] (hB T A b X R O Q F) 8 (.bool false) (hB T A b X R O Q F) 8:=by
 have h73:cW ak 73 [.dS f D.length (strs D),f44] (hB T A b X R O Q F) 8 (.int .i64 (-1)) (hB T A b X R O Q F) 8:=
  c5 Tryz.func73 U U (aa1 T A b X R O Q F f D hl hg)
 refine c5 Tryz.func43 (code:=Vo) U U ?_;refine fh ((XQ []).Le BM (au U) h73) (afd f D T A b X R O Q F) (dG ?_);exact⟨fun p hp=>by rw[aq]at hp;subst hp;exact⟨rfl,rfl,rfl⟩,_,_,_,rfl,rfl,rfl,rfl⟩
end
noncomputable abbrev csR(l:List (Nat×List (Nat×oZ)))(h:H lf)(f:Bool)(D:List (L)):fb:=Bp (kS l) 43 BM [.dS f D.length (strs D),f44] h 8 (.bool false,h,8)
noncomputable abbrev uD:Code:=dN Tryz.f15
def pN(X R O:Int)(Q D:ae):gZ:=⟨none,X,R,false,false,O,Q,D⟩
def pS(T A:Nat)(b:L)(X R O:Int)(Q D:ae):gZ:=⟨some (T,A,b),X,R,false,false,O,Q,D⟩
def OJ(d0:L)(gM:List (L))(k:Int):List (Nat×List (Nat×oZ)):=[(18,[(15,.di (.ew [nJ d0 gM k,.bool true]))])]
def Ja:List (Nat×List (Nat×oZ)):=[(18,[(15,.di (.ew [zw,.bool false]))]),(46,[(13,.di (.bool false))])]
def RK(X R O:Int)(Q F:ae):H lf:=J [(0,.ints .u32 gS),(1,.ints .u32 gR),(3,.cells (vI 0 4 5 (pN X R O Q F))),(4,.dI none Q),(5,.dI none F)]
theorem afe(d d0:L)(gM:List (L))(k:Int)(f:Bool)(D:List (L))(T A:Nat)(b:L)(X R O:Int)(Q F:ae):c9 (csR (OJ d0 gM k) (hB T A b X R O Q F) f D) [(16,.di (.bool false)),(20,.di (.bool false))] 7 Tryz.f15 [] (uD) (cU [.ptr (some (3,0)),.str d,.dS f D.length (strs D)] (eu (pS T A b X R O Q F)) 7) [([],
   [(V.bool (decide ((Int.ofNat d.length)>(65536:Int)))=V.bool false),(V.bool (decide ((Int.ofNat D.length)>(1024:Int)))=V.bool false),(strs D=strs (dy (strs D))),(D.length=(dy (strs D)).length),(D.length<=1000000),(∀(x:L),x∈dy (strs D)->x.length=32),([V.dS f D.length (strs D),f44]=[V.dS f D.length (strs D),f44]/\hB T A b X R O Q F=hB T A b X R O Q F/\8=8),(gS=gS),(gR=gR),(strs D=strs (dy (strs D))),(D.length=(dy (strs D)).length),(D.length<=1000000),((eI (d::dy (strs D))).length<=1000000000),((if true=true then V.ew [rs.fW (V.agg [V.str ([]:L),V.dj none 0 0 0,V.int aj (0:Int)]) (dr (rs.str (dw d (dy (strs D)))) (pL (some (T,A,b)) X R O Q F).Q),V.bool (dr (rs.str (dw d (dy (strs D)))) (pL (some (T,A,b)) X R O Q F).Q).isSome]else rs.fW (V.agg [V.str ([]:L),V.dj none 0 0 0,V.int aj (0:Int)]) (dr (rs.str (dw d (dy (strs D)))) (pL (some (T,A,b)) X R O Q F).Q))=V.ew [nJ d0 gM k,V.bool true])],
   .ret (.ew [.str (dw d (dy (strs D))),.int .i64 0]) (J [(0,.ints .u32 gS),(1,.ints .u32 gR),(3,.cells [.dj (some (4,0)) T A 1,.int .i64 ((pL (some (T,A,b)) X R O Q F).X),.map (some 5),.map (some 6),.int .i64 ((pL (some (T,A,b)) X R O Q F).R),.bool false,.bool false,.int .i64 ((pL (some (T,A,b)) X R O Q F).O)]),(4,.jf 5 false (b)),(5,.dI none ((pL (some (T,A,b)) X R O Q F).Q)),(6,.dI none ((pL (some (T,A,b)) X R O Q F).D))]) 7)]
 :=cR.of U U U
theorem aff(d:L)(f:Bool)(D:List (L))(T A:Nat)(b:L)(X R O:Int)(Q F:ae):c9 (csR Ja (hB T A b X R O Q F) f D) [(16,.di (.bool false)),(20,.di (.bool false))] 7 Tryz.f15 [] (uD) (cU [.ptr (some (3,0)),.str d,.dS f D.length (strs D)] (eu (pS T A b X R O Q F)) 7) [([],
   [(V.bool (decide ((Int.ofNat d.length)>(65536:Int)))=V.bool false),(V.bool (decide ((Int.ofNat D.length)>(1024:Int)))=V.bool false),(strs D=strs (dy (strs D))),(D.length=(dy (strs D)).length),(D.length<=1000000),(∀(x:L),x∈dy (strs D)->x.length=32),([V.dS f D.length (strs D),f44]=[V.dS f D.length (strs D),f44]/\hB T A b X R O Q F=hB T A b X R O Q F/\8=8),(gS=gS),(gR=gR),(strs D=strs (dy (strs D))),(D.length=(dy (strs D)).length),(D.length<=1000000),((eI (d::dy (strs D))).length<=1000000000),((if true=true then V.ew [rs.fW (V.agg [V.str ([]:L),V.dj none 0 0 0,V.int aj (0:Int)]) (dr (rs.str (dw d (dy (strs D)))) (pL (some (T,A,b)) X R O Q F).Q),V.bool (dr (rs.str (dw d (dy (strs D)))) (pL (some (T,A,b)) X R O Q F).Q).isSome]else rs.fW (V.agg [V.str ([]:L),V.dj none 0 0 0,V.int aj (0:Int)]) (dr (rs.str (dw d (dy (strs D)))) (pL (some (T,A,b)) X R O Q F).Q))=V.ew [zw,V.bool false]),(strs D=strs (dy (strs D))),(D.length=(dy (strs D)).length),(d.length<=100000000),(D.length<=1000000),((dy (strs D)).flatten.length<=100000000),(V.bool (decide (IntKind.i64.wrap ((Int.ofNat T)+(Int.ofNat (gd d (dy (strs D))).length))>(1048576:Int)))=V.bool false),(0<A),(T=b.length),(eU (T+(gd d (dy (strs D))).length) 1 1=true),(0<D.length),((strs D).length=D.length),(D.length<=1000000)],
   .ret (.ew [.str (dw d (dy (strs D))),.int .i64 0]) (J [(0,.ints .u32 gS),(1,.ints .u32 gR),(3,.cells [.dj (some (7,0)) (T+(gd d (dy (strs D))).length) (T+(gd d (dy (strs D))).length) 1,.int .i64 ((pL (some (T,A,b)) X R O Q F).X),.map (some 5),.map (some 6),.int .i64 (IntKind.i64.wrap ((pL (some (T,A,b)) X R O Q F).R+(1:Int))),.bool false,.bool false,.int .i64 ((pL (some (T,A,b)) X R O Q F).O)]),(5,.dI none (ir (rs.str (dw d (dy (strs D)))) (rs.agg [rs.str d,rs.dS D.length (strs D),rs.int aj (pL (some (T,A,b)) X R O Q F).R]) (pL (some (T,A,b)) X R O Q F).Q)),(6,.dI none ((pL (some (T,A,b)) X R O Q F).D)),(7,.jf 5 false (b++eT (ef (gd d (dy (strs D))))))]) 8)]
 :=cR.of U U U
section
variable(n:Nat)(b:L)(X R O:Int)(Q F:ae)
def RL:H lf:=J [(0,.ints .u32 gS),(1,.ints .u32 gR),(3,.cells [.dj (some (7,0)) n n 1,.int .i64 X,.map (some 5),.map (some 6),.int .i64 R,.bool false,.bool false,.int .i64 O]),(5,.dI none Q),(6,.dI none F),(7,.jf 5 false b)]
def afg:H lf:=J [(0,.ints .u32 gS),(1,.ints .u32 gR),(3,.cells [.dj (some (6,0)) n n 1,.int .i64 X,.map (some 4),.map (some 5),.int .i64 R,.bool false,.bool false,.int .i64 O]),(4,.dI none Q),(5,.dI none F),(6,.jf 5 false b)]
end
theorem Jb:dy []=[]:=rfl
theorem gD{x y:Int}(h:x<=y):V.bool (decide (x>y))=V.bool false:=by
 rw[bC K]
theorem hU(d:L)(D:List (L))(h:∀x∈D,x.length=32):(eI (d::D)).length=8+d.length+40*D.length:=by
 have key:∀D:List (L),(∀x∈D,x.length=32)->(eI D).length=40*D.length:=by
  intro D
  induction D with
  |nil=>intro _;rfl
  |cons x D ih=>
   intro h;have:=ih fun y hy=>h y (by simp[hy]);have G:=h x (by simp);unfold eI at this ⊢;rw[List.flatMap_cons,ax,this,ax,vG,G,aS];omega
 have e:eI (d::D)=(mD (Int.ofNat d.length)++d)++eI D:=by
  unfold eI;rw[List.flatMap_cons]
 rw[e,ax,key D h,ax,vG]
theorem sN{D:List (L)}(h:∀x∈D,x.length=32):D.flatten.length=32*D.length:=by
 induction D with
 |nil=>rfl
 |cons x D ih=>
  rw[List.flatten_cons,ax,ih fun y hy=>h y (by simp[hy]),h x (by simp),aS];omega
theorem Fv(d:L){D:List (L)}(h:∀x∈D,x.length=32):(gd d D).length<=d.length+20+32*D.length:=by
 have:=(I2 d D).2;rw[sN h]at this;exact this
section
variable(d:L)(T A:Nat)(b:L)(X R O:Int)(Q F:ae)
variable(f:Bool)(D:List (L))
theorem RM(hd:d.length<=65536)(hn:D.length<=1024)(h32:∀x∈D,x.length=32)(tc:∀x∈D,uC Q x)(hk:uC Q (dw d D)):
  cW ak 15 [.ptr (some (3,0)),.str d,.dS f D.length (strs D)] (eu (pS T A b X R O Q F)) 7 (.ew [.str (dw d D),.int .i64 0]) (eu (pS T A b X R O Q F)) 7:=by
 have hO:∀n:Nat,Int.ofNat n=(n:Int):=fun _=>rfl;obtain⟨d0,gM,k,hk⟩:=hk;refine c5 Tryz.func15 (code:=uD) U U ?_;obtain⟨aa,hr⟩:=afe d d0 gM k f D T A b X R O Q F;simp only[fR]at hr;refine gA ((XQ (OJ d0 gM k)).Le BM (au U) (RJ f D T A b X R O Q F K tc)) mo _ U hr (dG ?_);refine⟨?_,_,_,_,rfl,rfl,rfl,rfl⟩;have hj:=hU d D h32
 repeat' (first|exact cT|refine iI ?_ ?_)
 . exact gD dm
 . exact gD dm
 . first|rfl|trivial
 . first|rfl|trivial
 . omega
 . exact h32
 . first|exact⟨rfl,rfl,rfl⟩|exact⟨trivial,trivial,rfl⟩|exact⟨trivial,trivial,trivial⟩|trivial
 . first|rfl|trivial
 . first|rfl|trivial
 . first|rfl|trivial
 . first|rfl|trivial
 . omega
 . omega
 . exact kM hk
theorem RN(hd:d.length<=65536)(hn:D.length<=1024)(h0:0<D.length)(h32:∀x∈D,x.length=32)(tc:∀x∈D,uC Q x)(hk:dr (.str (dw d D)) Q=none)(I:0<A)(hl:T=b.length)(Gi:T+(gd d D).length<=1048576):
  cW ak 15 [.ptr (some (3,0)),.str d,.dS f D.length (strs D)] (eu (pS T A b X R O Q F)) 7 (.ew [.str (dw d D),.int .i64 0])
   (RL (T+(gd d D).length) (b++gd d D) X (IntKind.i64.wrap (R+1)) O (ir (.str (dw d D)) (oF d D R) Q) F) 8:=by
 have hO:∀n:Nat,Int.ofNat n=(n:Int):=fun _=>rfl;refine c5 Tryz.func15 (code:=uD) U U ?_;obtain⟨aa,hr⟩:=aff d f D T A b X R O Q F;simp only[fR,gk]at hr;refine gA ((XQ Ja).Le BM (au U) (RJ f D T A b X R O Q F K tc)) mo _ U hr (dG ?_);refine⟨?_,_,_,_,rfl,rfl,rfl,rfl⟩;have hj:=hU d D h32;have QT:=sN h32
 repeat' (first|exact cT|refine iI ?_ ?_)
 . exact gD dm
 . exact gD dm
 . first|rfl|trivial
 . first|rfl|trivial
 . omega
 . exact h32
 . first|exact⟨rfl,rfl,rfl⟩|exact⟨trivial,trivial,rfl⟩|exact⟨trivial,trivial,trivial⟩|trivial
 . first|rfl|trivial
 . first|rfl|trivial
 . first|rfl|trivial
 . first|rfl|trivial
 . omega
 . omega
 . exact oG hk
 . first|rfl|trivial
 . first|rfl|trivial
 . omega
 . omega
 . omega
 . rw[fK dm dm];exact gD dm
 . exact I
 . exact hl
 . exact jk K
 . exact h0
 . exact eN D
 . omega
end
end Go.Proofs.YtfihojpgobmmdaaGreatDoor
