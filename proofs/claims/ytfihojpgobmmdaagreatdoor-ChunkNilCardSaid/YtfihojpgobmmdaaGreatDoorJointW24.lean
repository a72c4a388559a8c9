/- Lemmas on the chunk store. No conditions. -/
import Derived.Test.YtfihojpgobmmdaaGreatDoorRows
import Derived.Test.YtfihojpgobmmdaaGreatDoorJointW23
import Derived.LaidMore
import Derived.MakeChecks
import Derived.Test.YtfihojpgobmmdaaGreatDoorJointW22
set_option linter.unusedVariables false
set_option linter.unusedSimpArgs false
set_option linter.unusedSectionVars false
set_option maxRecDepth 20000
namespace Go.Proofs.YtfihojpgobmmdaaGreatDoor
open Go Go.Eng Go.ChangeShapes Go.WideShapes Go.RowKit
theorem TX:Tryz.prog.globalNamed "gouache/digest.round"=some 1:=by kernel_rfl
theorem TY:Tryz.prog.globalNamed "gouache/digest.start"=some 0:=by kernel_rfl
abbrev xC:List (String×DataW Unit):=[("gouache/digest.round",Rows.laid_gouache_digest_round),("gouache/digest.start",Rows.laid_gouache_digest_start)]
def D9:List Int->List (DataW Unit):=fun l=>l.map fun n=>.lit (.int .u32 n)
theorem XF:(Rows.laid_gouache_digest_round:DataW Unit)= .agg (D9 gR):=by kernel_rfl
theorem XG:(Rows.laid_gouache_digest_start:DataW Unit)= .agg (D9 gS):=by kernel_rfl
theorem JX{w:World}{g t e n:Nat}{C:Array Value}{fuel:Nat}{p:List MemPlace}{ks:List Int}{name:String}(hg:Tryz.prog.globalNamed name=some g)(hv:w.var? ak name=some C)
  (ht:Tryz.prog.underlying t=some (.array n e)) (he:Tryz.prog.underlying e=some (.int .u32)) (I:Tryz.prog.cellsOf e=1)
  (h:DataW.trod (fun _=>()) ak w 0 (fun _=>true) false fuel t C.toList=some (.agg (D9 ks),p)):∃c el fz,w.heap[g]? =some (.cells c el fz)/\∀(i:Nat) (x:Int),ks[i]? =some x->c[i]? =some (.int .u32 x):=by
 obtain⟨xs,m,rfl,G,oO,hn,hel⟩:=DataW.trod_array ht h;simp only[aB,DataW.agg.injEq]at G;have iQ:ks.length=n:=by
  have:=aN List.length G.1;simp only[D9,aT]at this;omega
 have key:∀(i:Nat) (x:Int),ks[i]? =some x->C[i]? =some (.int .u32 x):=by
  intro i x hi;have fI:i<ks.length:=(aG.1 hi).1;have N:=hel i K;rw[ay K]at N;obtain⟨k,e1,e2,_⟩:=DataW.trod_int he N;have B:=aN (fun l=>l[i]?) G.1;simp only[D9,bu,hi,bj]at B;rw[ay K,e2]at B;simp only[bj,an,DataW.lit.injEq,Lit.int.injEq,true_and]at B;subst B;rw[I,bk]at e1;have h3:=aN (fun l=>l[0]?) e1;simp only[bP,Nat.lt_add_one,if_true,bJ,Nat.add_zero,bI]at h3;simpa using h3
 have mC:=World.var?_cell hg hv 0;have h00:0<ks.length\/ks=[]:=by cases ks<;>simp
 unfold World.var? at hv;rw[hg]at hv;simp only[Option.bind_some]at hv;split at hv
 . rename_i c el fz hb;simp only[an]at hv;subst hv;exact⟨_,el,fz,hb,key⟩
 . cases hv
theorem XH{w:World}(h:laidMetH ak xC w):(∃c el fz,w.heap[0]? =some (.cells c el fz)/\∀(i:Nat) (x:Int),gS[i]? =some x->c[i]? =some (.int .u32 x))/\
  ∃c el fz,w.heap[1]? =some (.cells c el fz)/\∀(i:Nat) (x:Int),gR[i]? =some x->c[i]? =some (.int .u32 x):=by
 rw[MakeChecks.laidMetH_plain _ _ _ U]at h;obtain⟨ps,⟨g0,t0,Z5,f0,p0,q0,hg0,ht0,ZI,hd0,⟨g1,t1,cs1,f1,p1,q1,hg1,ht1,hv1,QB,_,_⟩,_⟩,_,_⟩:=h;obtain rfl:=cF (TX.symm.trans hg0);obtain rfl:=cF (TY.symm.trans hg1);rw[XF]at hd0;rw[XG]at QB;obtain rfl:=cF ((show(Tryz.prog.globals[1]?).map (·.type)=some 148 by kernel_rfl).symm.trans ht0);obtain rfl:=cF ((show(Tryz.prog.globals[0]?).map (·.type)=some 121 by kernel_rfl).symm.trans ht1);exact⟨JX TY hv1 Tryz.underlying121 Tryz.underlying120 U QB,JX TX ZI Tryz.underlying148 Tryz.underlying120 U hd0⟩
def JY(w:World)(b:Nat):Nat:=match w.heap[b]? with
 |some (.cells c _ _)=>c.size
 |_=>0
def EW(w:World):Env:=⟨fun m=>CU jU m,JY w,AU w⟩
theorem ah9{w:World}(hw:WG w)(h:laidMetH ak xC w):Eng.Good (EW w) (Ed gS gR) w/\qH (EW w) 3/\∀m,¬eE (Ed gS gR) m:=by
 obtain⟨⟨c0,ZV,fz0,k0,m0⟩,⟨c1,el1,fz1,k1,m1⟩⟩:=XH h;have kL:∀m o,(Ed gS gR).get m=some o->(m=0/\o= .ints .u32 gS)\/(m=1/\o= .ints .u32 gR):=by
  intro m o W;rcases zq [(0,.ints .u32 gS),(1,.ints .u32 gR)] .nil m o (fun q hq=>by
   simp only[aF,aL,bw]at hq;rcases hq with rfl|rfl<;>exact au rfl) W with N|N
  . simp[H.get]at N
  . simp only[aF,aB,aL,bw]at N;exact N
 have xq:∀m,¬eE (Ed gS gR) m:=by
  rintro m ⟨o,N,B⟩;rcases kL m o N with⟨_,rfl⟩|⟨_,rfl⟩<;>cases B
 refine⟨⟨fun m o W=>?_,fun m _ _ _ _ _ hl=>absurd hl (xq m),fun m b s hb=>?_,fun p hp=>CV hp Mz,fun b c q=>⟨XD w b c q,fun m s hl=>absurd hl (xq m)⟩⟩,fun m W=>?_,xq⟩
 . rcases kL m o W with⟨rfl,rfl⟩|⟨rfl,rfl⟩
   . refine⟨0,0,rfl,c0,ZV,fz0,k0,?_,fun i x G=>by rw[bE];exact m0 i x G⟩;show c0.size=JY w 0;unfold JY;rw[k0]
   . refine⟨1,0,rfl,c1,el1,fz1,k1,?_,fun i x G=>by rw[bE];exact m1 i x G⟩;show c1.size=JY w 1;unfold JY;rw[k1]
 . obtain⟨p,N,_,B⟩:=sF hb;cases B;exact hw p N
 . cases q:(EW w).ι m with
   |none=>rfl
   |some _=>obtain⟨p',N,B,_⟩:=sF q;have:=BT N;simp only[gN,jU,aS,bR]at this;omega
theorem Pt{f:FuncId}{fn:Func}{code:Code}(hf:Tryz.prog.funcs[f]? =some fn)(hb:fn.body=some code){ds:ai}{vs:List Value}{w:World}
  (l:(Nat.ble (ds.map rs.iZ).length fn.ntmps&&Nat.blt fn.ntmps fP)=true) (hT:TG ak 3 fn.ntmps code (cU (ds.map rs.iZ) (Ed gS gR) 3) (fJ ak 3 fn fun u _ _=>u= .bool true))
  (hw:WG w) (hl:laidMetH ak xC w) (ra:dL (EW w) (ds.map rs.iZ) vs):Calls ak f vs.toArray w fun e w'=>e= .returned (.bool true)/\Below w.heap.size w w':=by
 obtain⟨g,hd,xq⟩:=ah9 hw hl;refine(x5 mo po hf hb l hT ra g hd xq).mono fun e w' ⟨⟨E2,ho⟩,M4⟩=>⟨?_,M4⟩;cases e with
 |returned v'=>
  have ho:dK E2 (.bool true) v':=ho;simp only[dK]at ho;rw[ho]
 |_=>exact ho.elim
set_option linter.constructorNameAsVariable false
section
variable{Tr:Type}{enc:TypeId×Value->Tr}{w:World}{r:Reach}{base:Nat}{t:TypeId}{v:Value}{d:DataW Tr}{ps:List MemPlace}{FX:Nat->Bool}{Pr:Bool}
theorem XI{cQ:Ty}(n:Nat)(hT:JW ak n t=some cQ)(hs:∀C,v≠ .agg C)(h:DataW.Trod enc ak w 0 FX Pr t v d ps):∃ds,cQ.ok ds/\iw (AU w) ds [v]:=by
 obtain⟨fuel,h⟩:=h;have e:v.cells.toList=[v]:=by cases v<;>first|rfl|exact absurd rfl (hs _)
 rw[e]at h;exact Cd n hT h
theorem acH(h:Value.okWide ak w r base t v)(ht:∀fs,Tryz.prog.underlying t≠some (.struct fs))(ht2:∀k e,Tryz.prog.underlying t≠some (.array k e)):∀C,v≠ .agg C:=by
 rintro C rfl;unfold Value.okWide at h;split at h
 . rename_i q;exact ht _ q
 . rename_i q;exact ht2 _ _ q
 . unfold Cell.okWide Cell.ok at h;split at h<;>first|(split at h<;>simp_all)|simp_all
end
theorem TZ{n:Int}(h:(Lit.int .u8 n).wf=true):∃k:Nat,n=(k:Int)/\k<=255:=by
 simp only[Lit.wf,aC,bD]at h;have N:0<=n:=h.1;have B:n<=255:=h.2;exact⟨n.toNat,K,K⟩
theorem JZ:∀{rows:List (ai)},(∀r∈rows,Ty.ok (.agg [.int .u8,.int .u8,.int .u8,.str]) r)->∃l:List AT,rows.flatten=BN l/\l.length=rows.length
 | [],_=>⟨[],rfl,rfl⟩
 |r::rows,h=>by
  obtain⟨l,N,B⟩:=JZ (rows:=rows) fun x G=>h x (aK _ G);have hr:=h r (by simp);simp only[Ty.ok,Ty.oks]at hr;obtain⟨_,_,rfl,⟨n1,rfl,w1⟩,_,_,rfl,⟨n2,rfl,w2⟩,_,_,rfl,⟨n3,rfl,w3⟩,_,_,rfl,⟨s,rfl,_⟩,rfl⟩:=hr;obtain⟨a,rfl,ha⟩:=TZ w1;obtain⟨b,rfl,hb⟩:=TZ w2;obtain⟨c,rfl,I⟩:=TZ w3;exact⟨⟨a,b,c,s,ha,hb,I⟩::l,by rw[List.flatten_cons,N];rfl,by simp[B]⟩
section
variable{p:gZ}{cV:List jB}(X:Int){k:Nat}(R O:Int)
theorem aqK(T A:Nat)(b:L)(X R O:Int)(Q F:ae):c9 (kS []) [] 7 Tryz.f21 [] (dN Tryz.f21) (cU [P3] (eu (pS T A b X R O Q F)) 7) [([],
   [],
   .ret (.int .i64 ((Int.ofNat T))) (eu (pS T A b X R O Q F)) 7)]
 :=cR.of U U U
theorem aqL:c9 (kS []) [] 7 Tryz.f21 [] (dN Tryz.f21) (cU [P3] (eu (pN X R O [] [])) 7) [([],
   [],
   .ret (.int .i64 0) (J [(0,.ints .u32 gS),(1,.ints .u32 gR),(3,.cells [.dj none 0 0 0,.int .i64 ((pN X R O [] []).X),.map (some 5),.map (some 6),.int .i64 ((pN X R O [] []).R),.bool false,.bool false,.int .i64 ((pN X R O [] []).O)]),(5,.dI none []),(6,.dI none [])]) 7)]
 :=cR.of U U U
theorem aia:30<Tryz.prog.funcs.size:=au U
abbrev nsT(p:gZ):List (Option Nat):=[some 0,some 1,some 2,some 4,lgN 5 p,some (5+sh p),some (6+sh p)]
theorem XJ(n A:Nat)(b:L)(X R O:Int)(Q F:ae):cW ak 21 [P3] (eu (pS n A b X R O Q F)) 7 (.int .i64 (Int.ofNat n)) (eu (pS n A b X R O Q F)) 7:=by
 refine c5 Tryz.func21 (code:=dN Tryz.f21) U U ?_;refine fh (XQ []) (aqK n A b X R O Q F) (dG ?_);exact⟨cT,_,_,_,rfl,rfl,rfl,rfl⟩
theorem XK:cW ak 21 [P3] (eu (pN X R O [] [])) 7 (.int .i64 0) (eu (pN X R O [] [])) 7:=by
 refine c5 Tryz.func21 (code:=dN Tryz.f21) U U ?_;refine fh (XQ []) (aqL X R O) (dG ?_);exact⟨cT,_,_,_,rfl,rfl,rfl,rfl⟩
theorem pH.same{l0:List RS}(h:pH p cV k l0)(hB:cV.length<=2500)(l:List RS):cW ak 28 [P3,(fq cV).v] (J (gI p l)) 9 (.bool true) (J (gI p l)) 9:=by
 obtain⟨hw,hg,oO,_,_⟩:=h.all K;have:=m28 p l (fq cV) (zT h K) (fun _=>rfl) (by rw[aT];have:=hw.TL;omega) K (fun c I=>by have:=(hw.nm c I).2.2;omega);rw[JT hw hg (fun _=>rfl) True ⟨fun _=>trivial,fun _=>rfl⟩]at this;simpa using this
theorem pH.size{l:List RS}(h:pH p cV k l):cW ak 21 [P3] (eu p) 7 (.int .i64 (Int.ofNat (dc cV).length)) (eu p) 7:=by
 rcases h.JN with⟨e0,e⟩|⟨A,_,_,e⟩
 . rw[e,e0];exact XK 0 0 0
 . rw[e];exact XJ _ _ _ _ _ _ _ _
end
def hGr(d0:L)(gM:List (L))(k:Int)(p:gZ):af:=eK p++[(7,.cells [.str d0,.dS false gM.length (strs gM),.int .i64 k])]
theorem aqM(d d0:L)(gM:List (L))(k:Int)(T A:Nat)(b:L)(X R O:Int)(Q F:ae):c9 (fG (kS []) 63 [.dS false gM.length (strs gM)] (J (hGr d0 gM k (pS T A b X R O Q F))) 16 (.dj (some (16,0)) gM.length gM.length 1,J (hGr d0 gM k (pS T A b X R O Q F)++[(16,.deep (strs gM))]),17)) [(17,.di (.ew [nJ d0 gM k,.bool true]))] 7 Tryz.f25 [] (dN Tryz.f25) (cU [P3,.str d] (eu (pS T A b X R O Q F)) 7) [([],
   [((if true=true then V.ew [rs.fW (V.agg [V.str ([]:L),V.dj none 0 0 0,V.int aj (0:Int)]) (dr (rs.str d) Q),V.bool (dr (rs.str d) Q).isSome]else rs.fW (V.agg [V.str ([]:L),V.dj none 0 0 0,V.int aj (0:Int)]) (dr (rs.str d) Q))=V.ew [nJ d0 gM k,V.bool true]),fC [.dS false (gM.length) (strs gM)] (J (eK (pS T A b X R O Q F)++[(7,.cells [.str d0,.dS false (gM.length) (strs gM),.int .i64 k])])) 16],
   .ret (.ew [.str d0,.dj (some (7,0)) (gM.length) (gM.length) 1,.int .i64 0]) (J (eK (pS T A b X R O Q F)++[(7,.deep (strs gM))])) 8)]
 :=cR.of U U U
def nnL:af:=[(0,.ints .u32 gS),(1,.ints .u32 gR),(3,.cells [.ptr none,.dj none 0 0 0])]
theorem aqN:c9 fN [] 4 Tryz.f35 [] (dN Tryz.f35) (cU [P3] (J nnL) 4) [([],
   [([]=strs (dy [])),(0=0),(0<=100000),(9<=1000000000),([]=strs (dy [])),(0=0),(0<=100000),(9<=1000000000),([]=strs (dy [])),(0=0),(0<=100000),(9<=1000000000)],
   .ret (.bool true) (J [(0,.ints .u32 gS),(1,.ints .u32 gR),(3,.cells [.ptr none,.dj none 0 0 0])]) 4)]
 :=cR.of U U U
def EJ(h:H lf)(m:Nat):Option (ai):=match h.get m with
 |some o=>Go.Eng.rq o
 |none=>none
def FY(sp:ag->H lf->Nat->Option (ah×V×H lf×Nat)):ag->H lf->Nat->Option (ah×V×H lf×Nat):=fun args h n=>match GR h,vD (EJ h) args with
 |some (st,rd),some (cS,a2)=>match sp a2 (Ed gS gR) 3 with
  |some (h2,v,_,_)=>match V.pX a2&&v.free with
   |true=>some ((st=gS)::(rd=gR)::(cS++h2),v,h,n)
   |false=>none
  |none=>none
 |_,_=>none
theorem T0{E:Env}{φ:Nat->Option (Array Value)}{h:H lf}{w:World}(g:Eng.Good E h w)(xq:∀m,¬eE h m)(nB:∀b c,E.φ b=some c->φ b=some c)(kR:QH φ w):Eng.Good ⟨E.ι,E.β,φ⟩ h w:=
 ⟨fun m o W=>let⟨b,s,e1,e2⟩:=g.rel m o W;⟨b,s,e1,gU (E:=E) (E':=⟨E.ι,E.β,φ⟩) ⟨fun _ _ _ q=>⟨q,rfl⟩,nB⟩ rfl rfl e2⟩,g.inj,g.mK,g.jh,fun b c q=>⟨kR b c q,fun m s W=>absurd W (xq m)⟩⟩
theorem J0{E:Env}{h:H lf}{w:World}{args a2:ag}{cS:ah}{de:List Value}(g:Eng.Good E h w)(e:vD (EJ h) args=some (cS,a2))(hA:∀a∈cS,a)(ra:dL E args de):
  ∃φ,QH φ w/\(∀b c,E.φ b=some c->φ b=some c)/\dL ⟨E.ι,E.β,φ⟩ a2 de:=by
 have Z1:∀m C,EJ h m=some C->∃o,h.get m=some o/\Go.Eng.rq o=some C:=by
  intro m C q;unfold EJ at q;split at q
  . rename_i o ho;exact⟨o,ho,q⟩
  . cases q
 have nB:∀b c,E.φ b=some c->w6 E (EJ h) w b=some c:=by
  intro b c q;unfold w6;rw[aI];. exact q
  rintro⟨m,s',N,h3⟩;obtain⟨C,nX⟩:=bW.1 N;obtain⟨o,k1,k2⟩:=Z1 m C nX;exact(g.gQ b c q).2 m s' ⟨o,k1,B0 k2⟩ h3
 refine⟨w6 E (EJ h) w,fun b c q=>?_,nB,lN (rt:=EJ h) (E:=E) (E':=⟨E.ι,E.β,w6 E (EJ h) w⟩) (fun m C nX b s' hb=>?_) (fun _=>rfl) rfl nB _ _ _ _ e hA ra⟩
 . unfold w6 at q;split at q
   . split at q
     . rename_i c' el fz I;cases q;exact⟨el,fz,I⟩
     . cases q
   . exact g.fz b c q
 . obtain⟨o,k1,k2⟩:=Z1 m C nX;obtain⟨b',t,q1,q2⟩:=g.rel m o k1;rw[hb]at q1;cases q1;obtain⟨c,el,fz,vs,p1,p2,p3⟩:=IV k2 q2;refine⟨c,vs,?_,iD nB _ _ p2,p3⟩;show w6 E (EJ h) w b=some c;unfold w6;rw[aH ⟨m,s',by rw[nX];rfl,hb⟩,p1]
theorem Ce{f:FuncId}{sp:ag->H lf->Nat->Option (ah×V×H lf×Nat)}(hp:jv ak f sp):jv ak f (FY sp):=by
 refine⟨hp.1,fun args h n cS v B n2 e hA E w de ra g hd I=>?_⟩;unfold FY at e;split at e
 case h_2=>cases e
 rename_i st rd A1 a2 ht e1;split at e
 case h_2=>cases e
 rename_i h2 v' h3 n3 e3;split at e
 case h_2=>cases e
 rename_i hf;rw[aC]at hf;simp only[an,aB]at e;obtain⟨rfl,rfl,rfl,rfl⟩:=e;obtain rfl:st=gS:=hA _ (by simp);obtain rfl:rd=gR:=hA (rd=gR) (by simp);obtain⟨φ,iy,nB,QK⟩:=J0 g e1 (fun a ha=>hA a (by simp[ha])) ra;obtain⟨t0,t1⟩:=wJ ht;obtain⟨g0,d0,M⟩:=AH g t0 t1;have ra3:=lY (E:=⟨E.ι,E.β,φ⟩) (E':=⟨(E.rows PE).ι,(E.rows PE).β,φ⟩) (fun _ _ q=>q) _ _ hf.1 QK;exact(hp.2 _ _ _ _ _ _ _ e3 (fun a ha=>hA a (by simp[ha])) _ w de ra3 (T0 g0 M nB iy) d0 I).mono fun en w' c=>by
  obtain⟨ho,b⟩:=Bn M c;exact C9 g hd hf.2 ho b
theorem J1{φ φ2:Nat->Option (Array Value)}:∀(l:List (L)) (vs:List Value),iw φ (strs l) vs->iw φ2 (strs l) vs
 | [],_,r=>r
 |_::l,_,⟨y,ys,N,B,h3,h4⟩=>⟨y,ys,N,B,J1 l ys h3,h4⟩
theorem J2{E E1:Env}{h h0:H lf}{n n1 n2:Nat}{w w':World}{en:Ending}{l:List (L)}(g:Eng.Good E h w)(hd:qH E n)(xq:∀m,¬eE h0 m)(hl:0<l.length)
  (c:jI E1 h0 n1 w (.ret (.dj (some (3,0)) l.length l.length 1)) (J [(3,.deep (strs l))]) n2 en w'):jI E h n w (.ret (ni l)) h n en w':=by
 obtain⟨E2,u2,_,rX,hn,ho⟩:=c;cases en with
 |returned x=>
  obtain⟨b,s,o',gp,e1,q1,q2,q3,q4,q5⟩:dK E2 (.dj (some (3,0)) l.length l.length 1) x:=ho;have hw3:eE (J [(3,.deep (strs l))]) 3:=⟨_,rfl,rfl⟩;obtain⟨b',s',e2,r2⟩:=u2.good.rel 3 _ rfl;rw[e1]at e2;cases e2;obtain⟨c,el,fz,vs,k1,k2,k3,k4,k5⟩:=r2;have hb:w.heap.size<=b:=by
   rcases bK b w.heap.size with z|z
   . obtain⟨m0,s0,_,_,k0⟩:=u2.s9 3 b s hw3.live e1 z;exact absurd (k0 hw3) (xq m0)
   . exact z
  have IW:∀b,b<w.heap.size->w'.heap[b]? =w.heap[b]?:=fun b hb=>u2.keep b hb fun m s W=>absurd W (xq m);have gb:=g.below ⟨u2.os,u2.tape,u2.output,u2.size,IW⟩;have fU:∀y c',E.φ y=some c'->y≠b:=by
   intro y c' q z;obtain⟨UI,fz',e⟩:=(g.gQ y c' q).1;have:=(aQ.1 e).1;omega
  have nB:∀y c',E.φ y=some c'->(fun y=>if y=b then some c else E.φ y) y=some c':=fun y c' q=>by
   show(if y=b then some c else E.φ y)=some c';rw[aI (fU y c' q)];exact q
  have mW:∀y c',(if y=b then some c else E.φ y)=some c'->(y=b/\c'=c)\/E.φ y=some c':=fun y c' q=>by
   split at q
   . cases q;exact .inl ⟨by assumption,rfl⟩
   . exact .inr q
  refine⟨⟨E.ι,E.β,fun y=>if y=b then some c else E.φ y⟩,⟨⟨fun m b s q=>⟨q,rfl⟩,nB⟩,⟨fun m o W=>?_,gb.inj,gb.mK,gb.jh,fun y c' q=>?_⟩,u2.size,u2.tape,u2.os,u2.output,fun y hy _=>IW y hy,fun m y s W e _=>⟨m,s,W,e,id⟩,fun y c' q=>?_⟩,fun _ _=>rfl,hd,aA _,?_⟩
  . obtain⟨y,t,p1,p2⟩:=gb.rel m o W;exact⟨y,t,p1,gU (E:=E) (E':=⟨E.ι,E.β,fun y=>if y=b then some c else E.φ y⟩) ⟨fun _ _ _ q=>⟨q,rfl⟩,nB⟩ rfl rfl p2⟩
  . rcases mW y c' q with⟨rfl,rfl⟩|q
    . exact⟨⟨el,fz,k1⟩,fun m s W e=>by have:=g.mK m _ s e;omega⟩
    . exact gb.gQ y c' q
  . rcases mW y c' q with⟨rfl,rfl⟩|q
    . exact .inr (.inl hb)
    . exact .inl q
  . show dK ⟨E.ι,E.β,fun y=>if y=b then some c else E.φ y⟩ (.dS false l.length (strs l)) x;refine⟨⟨_,gp,vs,q5,K,J1 l vs k4,fun z=>by omega,fun hp=>⟨b,o',c,rfl,aH rfl,fun j z hz=>?_⟩⟩,fun q=>by cases q⟩;rw[q1 hp];exact k5 j z hz
 |_=>exact ho.elim
def Mn:ag->H lf->Nat->Option (ah×V×H lf×Nat):=fun args h n=>match vD (EJ h) args with
 |some (cS,[.dS false k C])=>some (cS++[0<k,C=strs (dy C),k=(dy C).length,k<=1000000],.dS false k C,h,n)
 |_=>none
theorem XM:jv ak 63 Mn:=by
 refine⟨au U,fun args h n cS v B n2 e hA E w de ra g hd _=>?_⟩;unfold Mn at e;split at e
 case h_2=>cases e
 rename_i A1 k C e1;simp only[an,aB]at e;obtain⟨rfl,rfl,rfl,rfl⟩:=e;have N:0<k:=hA (0<k) (by simp);have B:C=strs (dy C):=hA _ (by simp);have h3:k=(dy C).length:=hA (k=(dy C).length) (by simp);have h4:k<=1000000:=hA (k<=1000000) (by simp);obtain⟨φ,iy,nB,QK⟩:=J0 g e1 (fun a ha=>hA a (by simp[ha])) ra;generalize dy C=l at *;subst B h3;have ra3:=lY (E:=⟨E.ι,E.β,φ⟩) (E':=Uj φ) (fun _ _ q=>q) _ _ rfl QK;obtain⟨aa,hr⟩:=aaV l.length (strs l);have hl:(strs l).length=l.length:=aT ..;exact(tR mo po Tryz.func63 U U (.dj (some (3,0)) l.length l.length 1) (J [(3,.deep (strs l))]) 4 (gA X12 mo _ U hr fun g hg _=>by
  obtain rfl:=aba hg;refine⟨fm N (fm K (eX (lZ K))),_,_,_,rfl,?_,rfl,rfl⟩;rw[bE]) ra3 (KG g.wg iy) (QI (aA _))).mono fun en w' c=>J2 g hd KS N c
def acJ:ag->H lf->Nat->Option (ah×V×H lf×Nat):=fun args h n=>match args with
 | [.ptr (some (m,0)),.str x]=>match GR h,Fu h m with
   |some (st,rd),some (ns,⟨some _,_,_,false,false,_,Q,_⟩)=>match okN ns with
    |true=>some ([st=gS,rd=gR,uC Q x],.bool true,h,n)
    |false=>none
   |_,_=>none
 |_=>none
theorem acK:jv ak 18 acJ:=by
 refine⟨au U,fun args h n cS v B n2 e hA=>?_⟩;unfold acJ at e;split at e
 case h_2=>cases e
 rename_i m x;split at e
 case h_2=>cases e
 rename_i st rd ns z X R O Q D ht hs;split at e
 case h_2=>cases e
 rename_i hn;simp only[an,aB]at e;obtain⟨rfl,rfl,rfl,rfl⟩:=e;obtain rfl:st=gS:=hA _ (by simp);obtain rfl:rd=gR:=hA (rd=gR) (by simp);obtain⟨d0,gM,k,G⟩:=hA (uC Q x) (by simp);obtain⟨hp,iQ,gT⟩:=Dv hs ht hn;obtain⟨g,c,r,W,_,_,mW⟩:=Du hs;obtain⟨T,A,b⟩:=z;have g3:ns.getD 3 none=some m:=by rcases mW with⟨q,_⟩|⟨_,_,_,_,_,rfl⟩<;>first|cases q|rfl
 simp only[okN,aC]at hn;have hmu:mu ns m=some 3:=zv hn.1 g3;obtain⟨aa,hr⟩:=Sq x d0 gM k T A b X R O Q D;have hl:∀q∈eK (pS T A b X R O Q D),q.1<fP:=fun q hq=>by
  iterate 6 (rcases aF.1 hq with rfl|hq;. exact au rfl)
  cases hq
 have c:=OD mo po (v:=.bool true) Tryz.func18 (code:=dN Tryz.f18) U (args:=[.ptr (some (m,0)),.str x]) (ld:=[P3,.str x]) (n:=n) U hp (fun j o hj=>by
  rcases zq _ .nil j o hl hj with q|q
  . simp[H.get]at q
  . iterate 6 (rcases aF.1 q with e|q;. cases e;rfl)
    cases q) gT (by simp only[V.y9,V.rn,hmu]) (fun _=>rfl) (by
  rw[iQ];refine gA (XQ []) mo _ U hr (dG ?_);exact⟨eX (kM G),_,_,_,rfl,rfl,rfl,rfl⟩)
 exact fun E w de ra g hd _=>c E w de ra g hd
noncomputable abbrev W31:jQ:=jD 18 acJ (jD 63 Mn (jD 73 (FY (Dk GX)) (jD 45 (FY (tW GS)) (jD 47 (FY (Go.Eng.dW GU)) (jD 69 (FY (Go.Eng.dW Hr)) W28)))))
theorem acL:gl ak W31:=e9 acK (e9 XM (e9 (Ce RH) (e9 (Ce Rt) (e9 (Ce RA) (e9 (Ce LX) Mg)))))
section
variable(l:List (Nat×List (Nat×oZ)))
noncomputable abbrev Ux:fb:=gP ak W31 (qY l) 1000 40
noncomputable abbrev XN:CX ak:=CX.of mo po acL (qY l) 1000 40
end
section
variable(x:L)(p:gZ)(D:List (L))(y:L)(T A:Nat)(b:L)(X R O:Int)(Q F:ae)
def hP(r:af):af:=eK p++[(7,.deep (strs D))]++r
abbrev hQ:H lf:=J (hP p D [(8,.cells [P3])])
abbrev NK:V:=.dj (some (7,0)) D.length D.length 1
abbrev g44:V:=.fn (.func 44) [] [.ptr (some (8,0))]
noncomputable abbrev csM(l:List (Nat×List (Nat×oZ)))(p:gZ)(D:List (L)):fb:=Bp (Ux l) 43 BM [NK D,g44] (hQ p D) 9 (.bool false,hQ p D,9)
theorem aic:c9 (Ux []) [] 9 Tryz.f43 [] (dN Tryz.f43) (cU [NK [x],g44] (hQ (pS T A b X R O Q F) [x]) 9) [([],
   [((0:Int)<=(0:Int)/\(0:Int)<(Int.ofNat [x].length)),(0<(strs [x]).length),(gS=gS),(gR=gR),(uC Q x)],
   .ret (.bool false) (J (eK (pS T A b X R O Q F)++[(7,.deep [.str x]),(8,.cells [.ptr (some (3,0))])])) 9)]
 :=cR.of U U U
theorem aid:c9 (Ux []) [] 9 Tryz.f43 [] (dN Tryz.f43) (cU [NK [x,y],g44] (hQ (pS T A b X R O Q F) [x,y]) 9) [([],
   [((0:Int)<=(0:Int)/\(0:Int)<(Int.ofNat [x,y].length)),(0<(strs [x,y]).length),(gS=gS),(gR=gR),(uC Q x),((0:Int)<=(1:Int)/\(1:Int)<(Int.ofNat [x,y].length)),(1<(strs [x,y]).length),(gS=gS),(gR=gR),(uC Q y)],
   .ret (.bool false) (J (eK (pS T A b X R O Q F)++[(7,.deep [.str x,.str y]),(8,.cells [.ptr (some (3,0))])])) 9)]
 :=cR.of U U U
theorem aie(z:L)(T A:Nat)(b:L)(X R O:Int)(Q F:ae):c9 (Ux []) [] 9 Tryz.f43 [] (dN Tryz.f43) (cU [NK [x,y,z],g44] (hQ (pS T A b X R O Q F) [x,y,z]) 9) [([],
   [((0:Int)<=(0:Int)/\(0:Int)<(Int.ofNat [x,y,z].length)),(0<(strs [x,y,z]).length),(gS=gS),(gR=gR),(uC Q x),((0:Int)<=(1:Int)/\(1:Int)<(Int.ofNat [x,y,z].length)),(1<(strs [x,y,z]).length),(gS=gS),(gR=gR),(uC Q y),((0:Int)<=(2:Int)/\(2:Int)<(Int.ofNat [x,y,z].length)),(2<(strs [x,y,z]).length),(gS=gS),(gR=gR),(uC Q z)],
   .ret (.bool false) (J (eK (pS T A b X R O Q F)++[(7,.deep [.str x,.str y,.str z]),(8,.cells [.ptr (some (3,0))])])) 9)]
 :=cR.of U U U
end
theorem aqP(d d0:L)(D gM:List (L))(k:Int)(T A:Nat)(b:L)(X R O:Int)(Q F:ae):c9 (csM [] (pS T A b X R O Q F) D) [(16,.di (.bool false)),(20,.di (.bool false))] 8 Tryz.f15 [] (uD) (cU [P3,.str d,NK D] (J (hP (pS T A b X R O Q F) D [])) 8) [([],
   [(V.bool (decide ((Int.ofNat d.length)>(65536:Int)))=V.bool false),(V.bool (decide ((Int.ofNat D.length)>(1024:Int)))=V.bool false),(gS=gS),(gR=gR),((strs D).length=D.length*1),(strs D=strs (dy (strs D))),(D.length=(dy (strs D)).length),(D.length<=1000000),(∀(x:L),x∈dy (strs D)->x.length=32),fC [.dj (some (7,0)) (D.length) (D.length) 1,.fn (.func 44) [] [.ptr (some (8,0))]] (J (eK (pS T A b X R O Q F)++[(7,.deep (strs D)),(8,.cells [.ptr (some (3,0))])])) 9,(gS=gS),(gR=gR),((strs D).length=D.length*1),(gS=gS),(gR=gR),(strs D=strs (dy (strs D))),(D.length=(dy (strs D)).length),(D.length<=1000000),((eI (d::dy (strs D))).length<=1000000000),(gS=gS),(gR=gR),(uC Q (dw d (dy (strs D))))],
   .ret (.ew [.str (dw d (dy (strs D))),.int .i64 0]) (J (eK (pS T A b X R O Q F)++[(7,.deep (strs D))])) 8)]
 :=cR.of U U U
theorem aqQ(d:L)(D:List (L))(T A:Nat)(b:L)(X R O:Int)(Q F:ae):c9 (fG (csM Ja (pS T A b X R O Q F) D) 18 [P3,.str (dw d D)] (hQ (pS T A b X R O Q F) D) 9 (.bool false,hQ (pS T A b X R O Q F) D,9)) [(16,.di (.bool false)),(20,.di (.bool false))] 8 Tryz.f15 [] (uD) (cU [P3,.str d,NK D] (J (hP (pS T A b X R O Q F) D [])) 8) [([],
   [(V.bool (decide ((Int.ofNat d.length)>(65536:Int)))=V.bool false),(V.bool (decide ((Int.ofNat D.length)>(1024:Int)))=V.bool false),(gS=gS),(gR=gR),((strs D).length=D.length*1),(strs D=strs (dy (strs D))),(D.length=(dy (strs D)).length),(D.length<=1000000),(∀(x:L),x∈dy (strs D)->x.length=32),fC [.dj (some (7,0)) (D.length) (D.length) 1,.fn (.func 44) [] [.ptr (some (8,0))]] (J (eK (pS T A b X R O Q F)++[(7,.deep (strs D)),(8,.cells [.ptr (some (3,0))])])) 9,(gS=gS),(gR=gR),((strs D).length=D.length*1),(gS=gS),(gR=gR),(strs D=strs (dy (strs D))),(D.length=(dy (strs D)).length),(D.length<=1000000),((eI (d::dy (strs D))).length<=1000000000),(([.ptr (some (3,0)),.str (dw d (dy (strs D)))]:ag)=[.ptr (some (3,0)),.str (dw d D)]/\(J (eK (pS T A b X R O Q F)++[(7,.deep (strs D)),(8,.cells [.ptr (some (3,0))])]))=(J (eK (pS T A b X R O Q F)++[(7,.deep (strs D)),(8,.cells [.ptr (some (3,0))])]))/\9=9),(gS=gS),(gR=gR),((strs D).length=D.length*1),(strs D=strs (dy (strs D))),(D.length=(dy (strs D)).length),(d.length<=100000000),(D.length<=1000000),((dy (strs D)).flatten.length<=100000000),(V.bool (decide (IntKind.i64.wrap ((Int.ofNat T)+(Int.ofNat (gd d (dy (strs D))).length))>(1048576:Int)))=V.bool false),(0<A),(T=b.length),(eU (T+(gd d (dy (strs D))).length) 1 1=true),((strs D).length=D.length*1),(0<D.length),(strs D=strs (dy (strs D))),(D.length=(dy (strs D)).length),(D.length<=1000000)],
   .ret (.ew [.str (dw d (dy (strs D))),.int .i64 0]) (J [(0,.ints .u32 gS),(1,.ints .u32 gR),(3,.cells [.dj (some (8,0)) (T+(gd d (dy (strs D))).length) (T+(gd d (dy (strs D))).length) 1,.int .i64 X,.map (some 5),.map (some 6),.int .i64 (IntKind.i64.wrap (R+(1:Int))),.bool false,.bool false,.int .i64 O]),(5,.dI none (ir (rs.str (dw d (dy (strs D)))) (rs.agg [rs.str d,rs.dS D.length (strs D),rs.int aj R]) Q)),(6,.dI none F),(7,.deep (strs D)),(8,.jf 5 false (b++eT (ef (gd d (dy (strs D))))))]) 9)]
 :=cR.of U U U
section
variable(D:List (L))(s:RS)(r:af)
abbrev Zk:V:=.dj (some (3,0)) D.length D.length 1
abbrev Zl:af:=[(0,.ints .u32 gS),(1,.ints .u32 gR),(3,.deep (strs D))]++r
def q9:H lf:=J (Zl D r)
def rrZ:lf:=.cells [.dj none 0 0 0,.dj none 0 0 0,.str [],.int .i64 0,.bool false]
def sPr(d x:L):St:=eG [(1,.str d),(2,Zk D),(3,.ptr (some (4,0))),(6,.ptr (some (5,0))),(9,.str x)] (q9 D [(4,bx s),(5,rrZ)]) 6
def sPk(c:gq):St:=eG [(3,.ptr (some (4,0))),(6,.ptr (some (5,0))),(9,.str c.dg),(10,.ptr (some (6,0)))] (q9 D [(4,bx s),(5,rrZ),(6,.cells [.str c.dg,.str c.da,.dS false c.D.length (strs c.D)])]) 7
theorem aqS(d x:L):c9 (Ux []) [(13,.di (.bool false)),(32,.di (.bool false)),(47,.di (.bool false))] 4 Tryz.f37 [1,2,3,6,9] (eV 5 pA) (cU [s.v,.str d,Zk [x]] (q9 [x] []) 4) [([],
   [(V.bool (decide ((Int.ofNat d.length)>(65536:Int)))=V.bool false),((0:Int)<=(0:Int)/\(0:Int)<(Int.ofNat [x].length)),(0<(strs [x]).length),(V.bool ((Int.ofNat x.length) !=(32:Int))=V.bool false),((0:Int)<=(0:Int)/\(0:Int)<(Int.ofNat [x].length)),(0<(strs [x]).length),(eL s.C=eL (fo (eL s.C))),(s.C.length=(fo (eL s.C)).length),(eR s.ro=eR (lQ (eR s.ro))),(s.ro.length=(lQ (eR s.ro)).length),(s.C.length<=1000000),(s.ro.length<=1000000),(V.bool (decide (fk (fo (eL s.C)) x<(0:Int)))=V.bool false),(gS=gS),(gR=gR),((strs [x]).length=[x].length*1),(strs [x]=strs (dy (strs [x]))),([x].length=(dy (strs [x])).length),([x].length<=100000),((eI (d::dy (strs [x]))).length<=1000000000)],
   .to .normal (eG [(1,.str d),(2,.dj (some (3,0)) 1 1 1),(3,.ptr (some (4,0))),(6,.ptr (some (5,0))),(9,.str (dw d (dy (strs [x]))))] (J [(0,.ints .u32 gS),(1,.ints .u32 gR),(3,.deep [.str x]),(4,.cells [.dS false (s.C.length) (eL s.C),.dS false (s.ro.length) (eR s.ro)]),(5,.cells [.dj none 0 0 0,.dj none 0 0 0,.str [],.int .i64 0,.bool false])]) 6))]
 :=cR.of U U U
theorem aqT(d x y:L):c9 (Ux []) [(13,.di (.bool false)),(32,.di (.bool false)),(47,.di (.bool false))] 4 Tryz.f37 [1,2,3,6,9] (eV 5 pA) (cU [s.v,.str d,Zk [x,y]] (q9 [x,y] []) 4) [([],
   [(V.bool (decide ((Int.ofNat d.length)>(65536:Int)))=V.bool false),((0:Int)<=(0:Int)/\(0:Int)<(Int.ofNat [x,y].length)),(0<(strs [x,y]).length),(V.bool ((Int.ofNat x.length) !=(32:Int))=V.bool false),((0:Int)<=(1:Int)/\(1:Int)<(Int.ofNat [x,y].length)),(1<(strs [x,y]).length),(V.bool ((Int.ofNat y.length) !=(32:Int))=V.bool false),((0:Int)<=(0:Int)/\(0:Int)<(Int.ofNat [x,y].length)),(0<(strs [x,y]).length),(eL s.C=eL (fo (eL s.C))),(s.C.length=(fo (eL s.C)).length),(eR s.ro=eR (lQ (eR s.ro))),(s.ro.length=(lQ (eR s.ro)).length),(s.C.length<=1000000),(s.ro.length<=1000000),(V.bool (decide (fk (fo (eL s.C)) x<(0:Int)))=V.bool false),((0:Int)<=(1:Int)/\(1:Int)<(Int.ofNat [x,y].length)),(1<(strs [x,y]).length),(eL s.C=eL (fo (eL s.C))),(s.C.length=(fo (eL s.C)).length),(eR s.ro=eR (lQ (eR s.ro))),(s.ro.length=(lQ (eR s.ro)).length),(s.C.length<=1000000),(s.ro.length<=1000000),(V.bool (decide (fk (fo (eL s.C)) y<(0:Int)))=V.bool false),(gS=gS),(gR=gR),((strs [x,y]).length=[x,y].length*1),(strs [x,y]=strs (dy (strs [x,y]))),([x,y].length=(dy (strs [x,y])).length),([x,y].length<=100000),((eI (d::dy (strs [x,y]))).length<=1000000000)],
   .to .normal (eG [(1,.str d),(2,.dj (some (3,0)) 2 2 1),(3,.ptr (some (4,0))),(6,.ptr (some (5,0))),(9,.str (dw d (dy (strs [x,y]))))] (J [(0,.ints .u32 gS),(1,.ints .u32 gR),(3,.deep [.str x,.str y]),(4,.cells [.dS false (s.C.length) (eL s.C),.dS false (s.ro.length) (eR s.ro)]),(5,.cells [.dj none 0 0 0,.dj none 0 0 0,.str [],.int .i64 0,.bool false])]) 6))]
 :=cR.of U U U
theorem aqU(d x y z:L):c9 (Ux []) [(13,.di (.bool false)),(32,.di (.bool false)),(47,.di (.bool false))] 4 Tryz.f37 [1,2,3,6,9] (eV 5 pA) (cU [s.v,.str d,Zk [x,y,z]] (q9 [x,y,z] []) 4) [([],
   [(V.bool (decide ((Int.ofNat d.length)>(65536:Int)))=V.bool false),((0:Int)<=(0:Int)/\(0:Int)<(Int.ofNat [x,y,z].length)),(0<(strs [x,y,z]).length),(V.bool ((Int.ofNat x.length) !=(32:Int))=V.bool false),((0:Int)<=(1:Int)/\(1:Int)<(Int.ofNat [x,y,z].length)),(1<(strs [x,y,z]).length),(V.bool ((Int.ofNat y.length) !=(32:Int))=V.bool false),((0:Int)<=(2:Int)/\(2:Int)<(Int.ofNat [x,y,z].length)),(2<(strs [x,y,z]).length),(V.bool ((Int.ofNat z.length) !=(32:Int))=V.bool false),((0:Int)<=(0:Int)/\(0:Int)<(Int.ofNat [x,y,z].length)),(0<(strs [x,y,z]).length),(eL s.C=eL (fo (eL s.C))),(s.C.length=(fo (eL s.C)).length),(eR s.ro=eR (lQ (eR s.ro))),(s.ro.length=(lQ (eR s.ro)).length),(s.C.length<=1000000),(s.ro.length<=1000000),(V.bool (decide (fk (fo (eL s.C)) x<(0:Int)))=V.bool false),((0:Int)<=(1:Int)/\(1:Int)<(Int.ofNat [x,y,z].length)),(1<(strs [x,y,z]).length),(eL s.C=eL (fo (eL s.C))),(s.C.length=(fo (eL s.C)).length),(eR s.ro=eR (lQ (eR s.ro))),(s.ro.length=(lQ (eR s.ro)).length),(s.C.length<=1000000),(s.ro.length<=1000000),(V.bool (decide (fk (fo (eL s.C)) y<(0:Int)))=V.bool false),((0:Int)<=(2:Int)/\(2:Int)<(Int.ofNat [x,y,z].length)),(2<(strs [x,y,z]).length),(eL s.C=eL (fo (eL s.C))),(s.C.length=(fo (eL s.C)).length),(eR s.ro=eR (lQ (eR s.ro))),(s.ro.length=(lQ (eR s.ro)).length),(s.C.length<=1000000),(s.ro.length<=1000000),(V.bool (decide (fk (fo (eL s.C)) z<(0:Int)))=V.bool false),(gS=gS),(gR=gR),((strs [x,y,z]).length=[x,y,z].length*1),(strs [x,y,z]=strs (dy (strs [x,y,z]))),([x,y,z].length=(dy (strs [x,y,z])).length),([x,y,z].length<=100000),((eI (d::dy (strs [x,y,z]))).length<=1000000000)],
   .to .normal (eG [(1,.str d),(2,.dj (some (3,0)) 3 3 1),(3,.ptr (some (4,0))),(6,.ptr (some (5,0))),(9,.str (dw d (dy (strs [x,y,z]))))] (J [(0,.ints .u32 gS),(1,.ints .u32 gR),(3,.deep [.str x,.str y,.str z]),(4,.cells [.dS false (s.C.length) (eL s.C),.dS false (s.ro.length) (eR s.ro)]),(5,.cells [.dj none 0 0 0,.dj none 0 0 0,.str [],.int .i64 0,.bool false])]) 6))]
 :=cR.of U U U
theorem aqV(d x:L):c9 (Ux []) [(56,.split)] 4 Tryz.f37 [1,2,3,6,9] (dP (dh 5 pA)) (sPr D s d x) [([((decide (fk (fo (eL s.C)) x>=(0:Int))),true)],
   [(eL s.C=eL (fo (eL s.C))),(s.C.length=(fo (eL s.C)).length),(eR s.ro=eR (lQ (eR s.ro))),(s.ro.length=(lQ (eR s.ro)).length),(s.C.length<=1000000),(s.ro.length<=1000000)],
   .ret (.agg [.dS false (s.C.length) (eL s.C),.dS false (s.ro.length) (eR s.ro),.str x,.int .i64 0,.bool false]) (J [(0,.ints .u32 gS),(1,.ints .u32 gR),(3,.deep (strs D))]) 4),
  ([((decide (fk (fo (eL s.C)) x>=(0:Int))),false)],
   [(eL s.C=eL (fo (eL s.C))),(s.C.length=(fo (eL s.C)).length),(eR s.ro=eR (lQ (eR s.ro))),(s.ro.length=(lQ (eR s.ro)).length),(s.C.length<=1000000),(s.ro.length<=1000000)],
   .to .normal (eG [(1,.str d),(2,.dj (some (3,0)) (D.length) (D.length) 1),(3,.ptr (some (4,0))),(6,.ptr (some (5,0))),(9,.str x)] (J [(0,.ints .u32 gS),(1,.ints .u32 gR),(3,.deep (strs D)),(4,.cells [.dS false (s.C.length) (eL s.C),.dS false (s.ro.length) (eR s.ro)]),(5,.cells [.dj none 0 0 0,.dj none 0 0 0,.str [],.int .i64 0,.bool false])]) 6))]
 :=cR.of U U U
theorem aqW(d x:L):c9 (Ux []) [] 4 Tryz.f37 [3,6,9,10] (dP (dh 6 pA)) (sPr D s d x) [([],
   [(0<D.length),(0+D.length*1<=(strs D).length),(eU (0+D.length) 1 16=true)],
   .to .normal (eG [(3,.ptr (some (4,0))),(6,.ptr (some (5,0))),(9,.str x),(10,.ptr (some (6,0)))] (J [(0,.ints .u32 gS),(1,.ints .u32 gR),(3,.deep (strs D)),(4,.cells [.dS false (s.C.length) (eL s.C),.dS false (s.ro.length) (eR s.ro)]),(5,.cells [.dj none 0 0 0,.dj none 0 0 0,.str [],.int .i64 0,.bool false]),(6,.cells [.str x,.str d,.dj (some (7,0)) (0+D.length) (0+D.length) 1]),(7,.deep ([]++List.take (D.length*1) (List.drop 0 (strs D))))]) 8))]
 :=cR.of U U U
theorem aqX(c:gq):c9 (Ux []) [] 4 Tryz.f37 [] (dh 7 pA) (sPk D s c) [([],
   [((eL s.C).length=s.C.length*3),(eU (0+s.C.length) 3 56=true),(0+(0+s.C.length)*3<=([]++eL s.C).length),(0<1),(eU (0+s.C.length+1) 3 56=true)],
   .ret (.agg [.dj (some (4,0)) (0+s.C.length+1) (0+s.C.length+1) 3,.dS false (s.ro.length) (eR s.ro),.str (c.dg),.int .i64 0,.bool true]) (J [(0,.ints .u32 gS),(1,.ints .u32 gR),(3,.deep (strs D)),(4,.deep (List.take ((0+s.C.length)*3) (List.drop 0 ([]++eL s.C))++[rs.str c.dg,rs.str c.da,rs.dS c.D.length (strs c.D)]))]) 5)]
 :=cR.of U U U
end
section
variable(s:RS)(d:L)
section
variable(D:List (L))
theorem XO(N:s.C.length<=100000)(B:s.ro.length<=1000000)(h0:0<D.length)(h3:D.length<=3)(hf:∀x∈D,0<=fk s.C x)
  (hT:∀es,TG ak 4 Tryz.f37.ntmps (dh 5 pA) (sPr D s d (dw d D)) es->TG ak 4 Tryz.f37.ntmps pA (cU [s.v,.str d,Zk D] (q9 D []) 4) es):
  cW ak 37 [s.v,.str d,Zk D] (q9 D []) 4 (ij s d D).v (q9 D []) 4:=by
 have sB:¬∃x∈D,fk s.C x<0:=fun⟨x,G,h⟩=>by have:=hf x G;omega
 have iy:∀a∈[eL s.C=eL (fo (eL s.C)),s.C.length=(fo (eL s.C)).length,eR s.ro=eR (lQ (eR s.ro)),s.ro.length=(lQ (eR s.ro)).length,s.C.length<=1000000,s.ro.length<=1000000],a:=AL K B;obtain⟨L7,hr7⟩:=aqV D s d (dw d D);by_cases h:fk s.C (dw d D)>=0
 . have hp:ij s d D=⟨s,dw d D,0,false⟩:=by unfold ij;rw[aI sB,aH h]
   rw[hp];refine c5 Tryz.func37 (code:=pA) U U (hT _ ?_);refine cZ U ?_;refine gC (XN []) mo (fun a b c=>a=(RR.v ⟨s,dw d D,0,false⟩)/\b=q9 D []/\c=4) U hr7 fun g hg I=>?_;rcases iU hg with rfl|rfl
   . exact⟨iy,⟨rfl,rfl,rfl⟩,fun s5 Uq=>Uq⟩
   . have h3:=aJ (I _ (aq.2 rfl));rw[iM]at h3;exact absurd h h3
 . have hp:ij s d D=⟨⟨s.C++[⟨dw d D,d,D⟩],s.ro⟩,dw d D,0,true⟩:=by unfold ij;rw[aI sB,aI h]
   rw[hp];have oO:=jy s.C;have e2:0+s.C.length+1=(s.C++[gq.mk (dw d D) d D]).length:=by rw[ax];simp
   have c1:cW ak 37 [s.v,.str d,Zk D] (q9 D []) 4 (.agg [.dj (some (4,0)) (s.C++[gq.mk (dw d D) d D]).length (s.C++[gq.mk (dw d D) d D]).length 3,.dS false s.ro.length (eR s.ro),.str (dw d D),.int .i64 0,.bool true]) (q9 D [(4,.deep (eL (s.C++[gq.mk (dw d D) d D])))]) 5:=by
    refine c5 Tryz.func37 (code:=pA) U U (hT _ ?_);refine cZ U ?_;refine gC (XN []) mo l9 U hr7 fun g hg I=>?_;rcases iU hg with rfl|rfl
    . have h3:=aE (I _ (aq.2 rfl));rw[iM]at h3;exact absurd h3 h
    refine⟨iy,fun s5 Uq=>c6 Uq ?_⟩;show TG _ _ _ (dh 6 pA) (sPr D s d (dw d D)) _;refine cZ U ?_;refine fO (XN []) (aqW D s d (dw d D)) (dG ?_);have PI:(strs D).length=D.length:=aT ..;refine⟨fm h0 (fm K (eX (lZ K))),fun s6 hs6=>?_⟩;rw[bE,ck,bn,bk,<- PI,aU]at hs6;refine c6 hs6 ?_;rw[PI];generalize dw d D=x;refine tV [7] (cS:=[(strs D).length=D.length*1]) (s2:=eG [(3,.ptr (some (4,0))),(6,.ptr (some (5,0))),(9,.str x),(10,.ptr (some (6,0)))] ((q9 D [(4,bx s),(5,rrZ),(6,.cells [.str x,.str d,.dS false D.length (strs D)]),(7,.deep (strs D))]).set 7 none) 8) U (eX K) ?_;refine c6 (live:=[3,6,9,10]) (s2:=sPk D s ⟨x,d,D⟩) U ?_;refine fh (XN []) (aqX D s ⟨x,d,D⟩) (dG ?_);have e:List.take ((0+s.C.length)*3) (List.drop 0 ([]++eL s.C))++[rs.str x,rs.str d,rs.dS D.length (strs D)]=eL (s.C++[⟨x,d,D⟩]):=by
     rw[ck,bn,bq (by rw[oO];omega),Hs];rfl
    have e2:0+s.C.length+1=(s.C++[gq.mk x d D]).length:=by rw[ax];simp
    refine⟨fm (oO) (fm (vQ K) (fm (by rw[ck,oO];omega) (fm dU (eX (vQ K))))),_,_,_,rfl,?_,?_,rfl⟩
    . rw[e2]
    . rw[e];rfl
   generalize s.C++[gq.mk (dw d D) d D]=C at c1;exact(c1.step (.YT [4] (cS:=[(eL C).length=C.length*3]) (s2:=HN (RR.v ⟨⟨C,s.ro⟩,dw d D,0,true⟩) ((q9 D [(4,.deep (eL C))]).set 4 none) 5) U (eX (jy _)))).Ei 4 U
theorem XR(N:s.C.length<=100000)(B:s.ro.length<=1000000)(hd:d.length<=65536)(h0:0<D.length)(h3:D.length<=3)(h32:∀x∈D,x.length=32)(hf:∀x∈D,0<=fk s.C x):
  cW ak 37 [s.v,.str d,Zk D] (q9 D []) 4 (ij s d D).v (q9 D []) 4:=by
 have hj:=hU d D h32;have hb:∀x∈D,V.bool (Int.ofNat x.length !=(32:Int))=V.bool false:=fun x G=>by rw[h32 x G];rfl
 have hg:∀x∈D,V.bool (decide (fk (fo (eL s.C)) x<(0:Int)))=V.bool false:=fun x G=>by rw[iM,bC (by have:=hf x G;omega)]
 have e1:eL s.C=eL (fo (eL s.C)):=by rw[iM]
 have e2:s.C.length=(fo (eL s.C)).length:=by rw[iM]
 have e3:eR s.ro=eR (lQ (eR s.ro)):=by rw[pT]
 have e4:s.ro.length=(lQ (eR s.ro)).length:=by rw[pT]
 refine XO s d D N B h0 h3 hf fun es h=>?_;have e5:strs D=strs (dy (strs D)):=by rw[fR]
 have e6:D.length=(dy (strs D)).length:=by rw[fR]
 have e7:(eI (d::dy (strs D))).length<=1000000000:=by rw[fR];omega
 rcases D with _|⟨x,_|⟨y,_|⟨z,_|_⟩⟩⟩
 . exact absurd h0 dU
 . refine iF  5 (XN []) (aqS s d x) ?_ (by rw[fR];exact h);have hbx:=hb x (by simp);have hgx:=hg x (by simp)
   repeat' (first|exact cT|refine iI ?_ ?_)
   all_goals first|with_reducible assumption|exact gD dm|omega|exact⟨dU,Int.ofNat_lt.2 (au rfl)⟩|exact au rfl|rfl
 . refine iF  5 (XN []) (aqT s d x y) ?_ (by rw[fR];exact h);have hbx:=hb x (by simp);have hgx:=hg x (by simp);have Nf:=hb y (by simp);have hgy:=hg y (by simp)
   repeat' (first|exact cT|refine iI ?_ ?_)
   all_goals first|with_reducible assumption|exact gD dm|omega|exact⟨dU,Int.ofNat_lt.2 (au rfl)⟩|exact au rfl|rfl
 . refine iF  5 (XN []) (aqU s d x y z) ?_ (by rw[fR];exact h);have hbx:=hb x (by simp);have hgx:=hg x (by simp);have Nf:=hb y (by simp);have hgy:=hg y (by simp);have hbz:=hb z (by simp);have hgz:=hg z (by simp)
   repeat' (first|exact cT|refine iI ?_ ?_)
   all_goals first|with_reducible assumption|exact gD dm|omega|exact⟨dU,Int.ofNat_lt.2 (au rfl)⟩|exact au rfl|rfl
 . simp at h3
end
end
section
variable(n A:Nat)(b:L)(X R O:Int)(Q F:ae)
theorem XS(d d0:L)(gM:List (L))(k:Int)(G:dr (.str d) Q=some (oF d0 gM k))(h0:0<gM.length)(N:gM.length<=1000000):
  cW ak 25 [P3,.str d] (eu (sC n A b X R O Q F)) 7 (.ew [.str d0,NK gM,qu]) (J (eK (sC n A b X R O Q F)++[(7,.deep (strs gM))])) 8:=by
 have hl:(strs gM).length=gM.length:=aT ..;have c0:cW ak 63 [ni gM] (J []) 3 (.dj (some (3,0)) gM.length gM.length 1) (J [(3,.deep (strs gM))]) 4:=by
  refine c5 Tryz.func63 (code:=dN Tryz.f63) U U ?_;refine fh X12 (aaV gM.length (strs gM)) (dG ?_);refine⟨fm h0 (fm K (eX (lZ K))),_,_,_,rfl,?_,rfl,rfl⟩;rw[bE]
 have c1:cW ak 63 [ni gM] (J (hGr d0 gM k (pS n A b X R O Q F))) 16 (.dj (some (16,0)) gM.length gM.length 1) (J (hGr d0 gM k (pS n A b X R O Q F)++[(16,.deep (strs gM))])) 17:=
  pD (ns:=[some 0,some 1,some 2]) c0 U
 refine c5 Tryz.func25 (code:=dN Tryz.f25) U U ?_;refine fh ((XQ []).jA (au U) c1) (aqM d d0 gM k n A b X R O Q F) (dG ?_);exact⟨fm (kM G) (eX ⟨rfl,rfl,rfl⟩),_,_,_,rfl,rfl,rfl,rfl⟩
theorem Pu(hk:yd F)(hl:F.length<1000000)(h0:iz (dM F)≠[]):
  cW ak 23 [P3] (eu (sC n A b X R O Q F)) 7 (NK (iz (dM F))) (J (eK (sC n A b X R O Q F)++[(7,.deep (strs (iz (dM F))))])) 8:=by
 have I:=B6 n A b X R O Q F hk hl;generalize iz (dM F)=zs at I h0 ⊢
 match zs,I,h0 with
 | [],_,h0=>exact absurd rfl h0
 | [x],I,_=>exact I.step (.deep [7] U)
 |x::y::zs,I,_=>
  have I:cW ak 23 [P3] (eu (pS n A b X R O Q F)) 7 (NK (x::y::zs)) (hKf n A b X R O Q F [(7,.deep (strs (x::y::zs)))]) 8:=I;generalize x::y::zs=us at I ⊢;exact I
variable{d:L}{D:List (L)}(hd:d.length<=65536)(h0:0<D.length)(h3:D.length<=3)(h32:∀x∈D,x.length=32)
include h0 h3
theorem o44(tc:∀x∈D,uC Q x):cW ak 43 [NK D,g44] (hQ (pS n A b X R O Q F) D) 9 (.bool false) (hQ (pS n A b X R O Q F) D) 9:=by
 refine c5 Tryz.func43 (code:=dN Tryz.f43) U U ?_;rcases D with _|⟨x,_|⟨y,_|⟨z,_|_⟩⟩⟩
 . exact absurd h0 dU
 . obtain⟨aa,hr⟩:=aic x n A b X R O Q F;have G:=tc x (by simp);refine gA (XN []) mo _ U hr (dG ?_);refine⟨?_,_,_,_,rfl,rfl,rfl,rfl⟩
   repeat' (first|exact cT|refine iI ?_ ?_)
   all_goals first|with_reducible assumption|exact⟨dU,Int.ofNat_lt.2 (au rfl)⟩|exact au rfl|rfl
 . obtain⟨aa,hr⟩:=aid x y n A b X R O Q F;have G:=tc x (by simp);have hy:=tc y (by simp);refine gA (XN []) mo _ U hr (dG ?_);refine⟨?_,_,_,_,rfl,rfl,rfl,rfl⟩
   repeat' (first|exact cT|refine iI ?_ ?_)
   all_goals first|with_reducible assumption|exact⟨dU,Int.ofNat_lt.2 (au rfl)⟩|exact au rfl|rfl
 . obtain⟨aa,hr⟩:=aie x y z n A b X R O Q F;have G:=tc x (by simp);have hy:=tc y (by simp);have hz:=tc z (by simp);refine gA (XN []) mo _ U hr (dG ?_);refine⟨?_,_,_,_,rfl,rfl,rfl,rfl⟩
   repeat' (first|exact cT|refine iI ?_ ?_)
   all_goals first|with_reducible assumption|exact⟨dU,Int.ofNat_lt.2 (au rfl)⟩|exact au rfl|rfl
 . simp at h3
theorem T1(hd:d.length<=65536)(h32:∀x∈D,x.length=32)(tc:∀x∈D,uC Q x)(hk:uC Q (dw d D)):
  cW ak 15 [P3,.str d,NK D] (J (hP (sC n A b X R O Q F) D [])) 8 (.ew [.str (dw d D),qu]) (J (hP (sC n A b X R O Q F) D [])) 8:=by
 have c44:=o44 n A b X R O Q F h0 h3 tc;refine c5 Tryz.func15 (code:=uD) U U ?_;obtain⟨aa,hr⟩:=aqP d d D D 0 n A b X R O Q F;have hj:=hU d D h32;have hl:(strs D).length=D.length:=aT ..;rw[fR]at hr;refine gA ((XN []).Le BM (au U) c44) mo _ U hr (dG ?_);refine⟨?_,_,_,_,rfl,rfl,rfl,rfl⟩
 repeat' (first|exact cT|refine iI ?_ ?_)
 all_goals first|with_reducible assumption|exact gD dm|omega|exact⟨rfl,rfl,rfl⟩|rfl
theorem T2(hd:d.length<=65536)(h32:∀x∈D,x.length=32)(tc:∀x∈D,uC Q x)(hk:dr (.str (dw d D)) Q=none)(I:0<A)(hl:n=b.length)(Gi:n+(gd d D).length<=1048576):
  cW ak 15 [P3,.str d,NK D] (J (hP (sC n A b X R O Q F) D [])) 8 (.ew [.str (dw d D),qu])
   (J (DS 8 5 6 (sC (n+(gd d D).length) (n+(gd d D).length) (b++gd d D) X (IntKind.i64.wrap (R+1)) O (ir (.str (dw d D)) (oF d D R) Q) F)++[(7,.deep (strs D))])) 9:=by
 have c44:=o44 n A b X R O Q F h0 h3 tc;have c18:cW ak 18 [P3,.str (dw d D)] (hQ (pS n A b X R O Q F) D) 9 (.bool false) (hQ (pS n A b X R O Q F) D) 9:=by
  refine pD (l1:=eK (pS n A b X R O Q F)) (ld:=[P3,.str (dw d D)]) (ns:=[some 0,some 1,some 2,some 3,some 4,some 5,some 6]) (HL:=7) (v1:=.bool false) (mA:=eu (pS n A b X R O Q F)) ?_ U;refine c5 Tryz.func18 (code:=dN Tryz.f18) U U ?_;refine fh (XQ []) (age (dw d D) n A b X R O Q F) (dG ?_);exact⟨eX (oG hk),_,_,_,rfl,rfl,rfl,rfl⟩
 refine c5 Tryz.func15 (code:=uD) U U ?_;obtain⟨aa,hr⟩:=aqQ d D n A b X R O Q F;have hj:=hU d D h32;have QT:=sN h32;have PI:(strs D).length=D.length:=aT ..;rw[fR,gk]at hr;refine gA (((XN Ja).Le BM (au U) c44).jA (au U) c18) mo _ U hr (dG ?_);refine⟨?_,_,_,_,rfl,rfl,rfl,rfl⟩;have Uh:V.bool (decide (IntKind.i64.wrap (Int.ofNat n+Int.ofNat (gd d D).length)>1048576))=V.bool false:=by
  rw[fK dm dm];exact gD dm
 have xq:=jk (k:=n+(gd d D).length) K
 repeat' (first|exact cT|refine iI ?_ ?_)
 all_goals first|with_reducible assumption|exact gD dm|omega|exact⟨rfl,rfl,rfl⟩|rfl
end
structure AgI(s u:RS)(i:Nat):Prop where
 sub:∀c∈u.C,c.dg∈s.C.map gq.dg
 all:∀(j:Nat) (c:gq),j<i->s.C[j]? =some c->c.dg∈u.C.map gq.dg
theorem Pv{u:RS}{d:L}{D:List (L)}(h:¬(ij u d D).ch=true):(ij u d D).s=u:=by
 unfold ij at h ⊢;split
 . rfl
 . rw[aI ‹_›]at h;split
   . rfl
   . rw[aI ‹_›]at h;exact absurd rfl h
def kyC(b:Nat)(q:gZ)(a:Nat)(l:List RS)(ex:af):af:=moG b (b+sh q) (b+1+sh q) a q l++ex
noncomputable abbrev pF:Code:=dN Tryz.f12
noncomputable abbrev aif:Code:=dP (dh 8 pF)
noncomputable abbrev acM:Code:=dz (dz (dY aif))
noncomputable abbrev T3:Code:=dz (dP (dY acM))
noncomputable abbrev aih:Code:=dP (dh 10 pF)
noncomputable abbrev aii:Code:=dz (dz (dY aih))
noncomputable abbrev aij:Code:=dz (dz (dY (dY T3)))
noncomputable abbrev aik:Code:=dP (dh 12 pF)
noncomputable abbrev ail:Code:=dz (dz (dY aik))
section
variable(p:gZ)(ops:List AT)(l:List RS)(w:RS)(D:List (L))(i n:Nat)(r:List (Nat×V))(ds:ai)(j:Nat)
def nnG(g c r a:Nat)(p:gZ)(l:List RS):af:=[(0,.ints .u32 gS),(1,.ints .u32 gR),(3,.cells [.ptr none,.dj none 0 0 0]),(4,.cells [.ptr (some (5,0)),.dj (some (a,0)) l.length l.length 2]),(5,.cells (vI g c r p))]++lgB g p++[(c,.dI none p.Q),(r,.dI none p.D),(a,.deep (gu l))]
abbrev PM:af:=nnG 0 6 7 8 (sZ 0 0 0) [gM]
abbrev nnB:af:=nnG 9 (9+sh p) (10+sh p) (11+sh p) p l
def nlS:St:=eG ([(3,.bool true),(5,P3)]++r) (J (lL p l)) (8+sh p)
abbrev uF(ex:af):H lf:=J (lL p l++[(8+sh p,bx w)]++ex)
def EK:St:=eG ([(3,.bool true),(5,P3),(6,.ptr (some (8+sh p,0)))]++r) (uF p l w []) (9+sh p)
def nlY:St:=eG ([(3,.bool true),(5,P3),(6,.ptr (some (8+sh p,0))),(14,.dj (some (9+sh p,0)) 0 0 1)]) (uF p l w [(9+sh p,.cells [])]) (10+sh p)
def XV(r:List (Nat×V)):St:=eG ([(3,.bool true),(5,P3),(6,.ptr (some (8+sh p,0))),(12,.dj (some (9+sh p,0)) n n 1)]++r) (uF p l w [(9+sh p,.deep ds)]) (10+sh p)
def XW(r:List (Nat×V)):St:=eG ([(3,.bool true),(5,P3),(6,.ptr (some (8+sh p,0))),(7,iW i),(9,.dj (some (9+sh p,0)) n n 1)]++r) (uF p l w [(9+sh p,.deep ds)]) (10+sh p)
def nlX(r:List (Nat×V)):St:=eG ([(3,.bool true),(5,P3),(6,.ptr (some (8+sh p,0))),(14,.dj (some (9+sh p,0)) n n 1)]++r) (uF p l w [(9+sh p,.deep ds)]) (10+sh p)
abbrev Pw:St:=nlX p l w D.length (strs D) r
abbrev Mo(k:Nat)(D:List (L)):V:=.dj (some (k,0)) D.length D.length 1
theorem aqY:c9 ah0 [] 3 Tryz.f12 [0,3,4] (eV 5 pF) (cU [zU ops] (Ed gS gR) 3) [([],
   [(gS=gS),(gR=gR)],
   .to .normal (eG [(0,.dS false (ops.length) (BN ops)),(3,.bool true),(4,.ptr (some (3,0)))] (J [(0,.ints .u32 gS),(1,.ints .u32 gR),(3,.cells [.ptr none,.dj none 0 0 0])]) 4))]
 :=cR.of U U U
theorem aqZ:c9 (fG ah0 26 [] (J nnL) 4 (.ptr (some (4,0)),J PM,9)) [] 3 Tryz.f12 [0,3,4,5] (dP (dh 5 pF)) (eG [(0,zU ops),(3,.bool true),(4,P3)] (J nnL) 4) [([],
   [fC [] (J [(0,.ints .u32 gS),(1,.ints .u32 gR),(3,.cells [.ptr none,.dj none 0 0 0])]) 4],
   .to .normal (eG [(0,.dS false (ops.length) (BN ops)),(3,.bool true),(4,.ptr (some (3,0))),(5,.ptr (some (4,0)))] (J [(0,.ints .u32 gS),(1,.ints .u32 gR),(3,.cells [.ptr none,.dj none 0 0 0]),(4,.cells [.ptr (some (5,0)),.dj (some (8,0)) 1 1 2]),(5,.cells [.dj none 0 0 0,.int .i64 0,.map (some 6),.map (some 7),.int .i64 0,.bool false,.bool false,.int .i64 0]),(6,.dI none []),(7,.dI none []),(8,.deep [.dS 0 [],.dS 0 []])]) 9))]
 :=cR.of U U U
theorem aq0:c9 (fG (fG fN 30 [.ptr (some (4,0)),zU ops] (J PM) 9 (.bool true,J (nnB p l),12+sh p)) 35 [P3] (J PM) 9 (.bool true,J PM,9)) [] 3 Tryz.f12 [3,5] (dP (dh 6 pF)) (eG [(0,zU ops),(3,.bool true),(4,P3),(5,.ptr (some (4,0)))] (J PM) 9) [([],
   [fC [P3] (J PM) 9,fC [.ptr (some (4,0)),zU ops] (J PM) 9],
   .to .normal (nlS p l []))]
 :=by rcases p with⟨_|⟨_,_,_⟩,_⟩<;>exact cR.of U U U
theorem aq1:c9 (fG fN 29 [P3] (J (lL p l)) (8+sh p) (w.v,J (lL p l),(8+sh p))) [] 3 Tryz.f12 [3,5,6] (dP (dh 7 pF)) (nlS p l []) [([],
   [fC [P3] (J (lL p l)) (8+sh p)],
   .to .normal (EK p l w []))]
 :=by rcases p with⟨_|⟨_,_,_⟩,_⟩<;>exact cR.of U U U
theorem aq2:c9 fN [] 3 Tryz.f12 [3,5,6,7] (dP aif) (EK p l w []) [([],
   [],
   .to .normal (EK p l w [(7,iW 0)]))]
 :=by rcases p with⟨_|⟨_,_,_⟩,_⟩<;>exact cR.of U U U
theorem aq3:c9 fN [(50,.split)] 3 Tryz.f12 [3,5,6,7] (dP acM) (EK p l w [(7,iW i)]) [([((decide (Int.ofNat i<(Int.ofNat w.C.length))),true)],
   [],
   .to .normal (EK p l w [(7,iW i)])),
  ([((decide (Int.ofNat i<(Int.ofNat w.C.length))),false)],
   [],
   .to (.exit 0) (EK p l w [(7,iW i)]))]
 :=by rcases p with⟨_|⟨_,_,_⟩,_⟩<;>exact cR.of U U U
theorem aim(g d:L):c9 (fG fN 25 [.ptr (some (4,0)),.str g] (uF p l w []) (27+sh p) (.ew [.str d,ni [],qu],uF p l w [],27+sh p)) [(61,.di (.dx (gq.mk g d []).d))] 3 Tryz.f12 [3,5,6,7] (T3) (EK p l w [(7,iW i)]) [([],
   [((0:Int)<=Int.ofNat i/\Int.ofNat i<(Int.ofNat w.C.length)),((eL w.C).length=w.C.length*3),(V.dx (dF (eL w.C) (i*3) 3)=V.dx (gq.mk g d []).d),(([.ptr (some (4,0)),.str ((gq.mk g d []).dg)]:ag)=[.ptr (some (4,0)),.str g]/\(uF p l w [])=(uF p l w [])/\(27+sh p)=(27+sh p))],
   .to .normal (EK p l w [(7,iW i)]))]
 :=by rcases p with⟨_|⟨_,_,_⟩,_⟩<;>exact cR.of U U U
theorem ain(c:gq):c9 (fG fN 25 [.ptr (some (4,0)),.str c.dg] (uF p l w []) (27+sh p) (.ew [.str c.da,Mo (27+sh p) c.D,qu],uF p l w [(27+sh p,.deep (strs c.D))],28+sh p)) [(61,.di (.dx c.d))] 3 Tryz.f12 [3,5,6,7,9] (dP T3) (EK p l w [(7,iW i)]) [([],
   [((0:Int)<=Int.ofNat i/\Int.ofNat i<(Int.ofNat w.C.length)),((eL w.C).length=w.C.length*3),(V.dx (dF (eL w.C) (i*3) 3)=V.dx c.d),fC [.ptr (some (4,0)),.str c.dg] (uF p l w []) (27+sh p)],
   .to .normal (XW p l w i c.D.length (strs c.D) []))]
 :=by rcases p with⟨_|⟨_,_,_⟩,_⟩<;>exact cR.of U U U
theorem aio:c9 fN [] 3 Tryz.f12 [3,5,6,7,9,11] (dP (dY T3)) (XW p l w i n ds []) [([],
   [],
   .to .normal (XW p l w i n ds [(11,iW 0)]))]
 :=by rcases p with⟨_|⟨_,_,_⟩,_⟩<;>exact cR.of U U U
theorem aip:c9 fN [(71,.split)] 3 Tryz.f12 [3,5,6,7,9,11] (dP aij) (XW p l w i n ds [(11,iW j)]) [([((decide (Int.ofNat j<(Int.ofNat n))),true)],
   [],
   .to .normal (XW p l w i n ds [(11,iW j)])),
  ([((decide (Int.ofNat j<(Int.ofNat n))),false)],
   [],
   .to (.exit 2) (XW p l w i n ds [(11,iW j)]))]
 :=by rcases p with⟨_|⟨_,_,_⟩,_⟩<;>exact cR.of U U U
theorem aiq:c9 fN [(73,.di (iW (j+1)))] 3 Tryz.f12 [3,5,6,7,9,11] (dY aij) (XW p l w i n ds [(11,iW j)]) [([],
   [((0:Int)<=Int.ofNat j/\Int.ofNat j<(Int.ofNat n)),(0+j*1+1<=ds.length),(V.int aj (IntKind.i64.wrap (Int.ofNat j+(1:Int)))=iW (j+1))],
   .to .normal (XW p l w i n (nV ds (0+j*1) [rs.str ([]:L)]) [(11,iW (j+1))]))]
 :=by rcases p with⟨_|⟨_,_,_⟩,_⟩<;>exact cR.of U U U
theorem aq4:c9 fN [(52,.di (iW (i+1)))] 3 Tryz.f12 [3,5,6,7] (dY (dY acM)) (EK p l w [(7,iW i)]) [([],
   [(V.int aj (IntKind.i64.wrap (Int.ofNat i+(1:Int)))=iW (i+1))],
   .to .normal (EK p l w [(7,iW (i+1))]))]
 :=by rcases p with⟨_|⟨_,_,_⟩,_⟩<;>exact cR.of U U U
theorem air:c9 (fG fN 23 [.ptr (some (4,0))] (uF p l w []) (9+sh p) (ni [],uF p l w [],9+sh p)) [] 3 Tryz.f12 [3,5,6] (eV 2 (dh 9 pF)) (EK p l w [(7,iW i)]) [([],
   [fC [.ptr (some (4,0))] (uF p l w []) (9+sh p)],
   .to .normal (EK p l w []))]
 :=by rcases p with⟨_|⟨_,_,_⟩,_⟩<;>exact cR.of U U U
theorem ais(zs:List (L)):c9 (fG fN 23 [.ptr (some (4,0))] (uF p l w []) (9+sh p) (Mo (9+sh p) zs,uF p l w [(9+sh p,.deep (strs zs))],10+sh p)) [] 3 Tryz.f12 [3,5,6,12] (dP (dh 9 pF)) (EK p l w [(7,iW i)]) [([],
   [fC [.ptr (some (4,0))] (uF p l w []) (9+sh p)],
   .to .normal (XV p l w zs.length (strs zs) []))]
 :=by rcases p with⟨_|⟨_,_,_⟩,_⟩<;>exact cR.of U U U
theorem ait:c9 fN [] 3 Tryz.f12 [3,5,6,12,13] (dP aih) (XV p l w n ds []) [([],
   [],
   .to .normal (XV p l w n ds [(13,iW 0)]))]
 :=by rcases p with⟨_|⟨_,_,_⟩,_⟩<;>exact cR.of U U U
theorem aiu(i:Nat):c9 fN [(85,.split)] 3 Tryz.f12 [3,5,6,12,13] (dP aii) (XV p l w n ds [(13,iW i)]) [([((decide (Int.ofNat i<(Int.ofNat n))),true)],
   [],
   .to .normal (XV p l w n ds [(13,iW i)])),
  ([((decide (Int.ofNat i<(Int.ofNat n))),false)],
   [],
   .to (.exit 4) (XV p l w n ds [(13,iW i)]))]
 :=by rcases p with⟨_|⟨_,_,_⟩,_⟩<;>exact cR.of U U U
theorem aiv(i:Nat):c9 fN [(87,.di (iW (i+1)))] 3 Tryz.f12 [3,5,6,12,13] (dY aii) (XV p l w n ds [(13,iW i)]) [([],
   [((0:Int)<=Int.ofNat i/\Int.ofNat i<(Int.ofNat n)),(0+i*1+1<=ds.length),(V.int aj (IntKind.i64.wrap (Int.ofNat i+(1:Int)))=iW (i+1))],
   .to .normal (XV p l w n (nV ds (0+i*1) [rs.str ([]:L)]) [(13,iW (i+1))]))]
 :=by rcases p with⟨_|⟨_,_,_⟩,_⟩<;>exact cR.of U U U
theorem aiw:c9 fN [] 3 Tryz.f12 [3,5,6,14] (dP (dh 11 pF)) (EK p l w []) [([],
   [],
   .to .normal (nlY p l w))]
 :=by rcases p with⟨_|⟨_,_,_⟩,_⟩<;>exact cR.of U U U
theorem aix:c9 fN [] 3 Tryz.f12 [3,5,6,14,15] (dP aik) (Pw p l w D []) [([],
   [],
   .to .normal (Pw p l w D [(15,iW 0)]))]
 :=by rcases p with⟨_|⟨_,_,_⟩,_⟩<;>exact cR.of U U U
theorem aiy:c9 fN [(96,.split),(99,.split)] 3 Tryz.f12 [3,5,6,14,15] (dP ail) (Pw p l w D [(15,iW i)]) [([((decide (Int.ofNat i<(Int.ofNat w.C.length))),true),((decide (Int.ofNat i<(3:Int))),true)],
   [],
   .to .normal (Pw p l w D [(15,iW i)])),
  ([((decide (Int.ofNat i<(Int.ofNat w.C.length))),true),((decide (Int.ofNat i<(3:Int))),false)],
   [],
   .to (.exit 6) (Pw p l w D [(15,iW i)])),
  ([((decide (Int.ofNat i<(Int.ofNat w.C.length))),false)],
   [],
   .to (.exit 6) (Pw p l w D [(15,iW i)]))]
 :=by rcases p with⟨_|⟨_,_,_⟩,_⟩<;>exact cR.of U U U
theorem aiz(c:gq):c9 fN [(107,.di (.dx c.d)),(102,.di (iW (i+1)))] 3 Tryz.f12 [3,5,6,14,15] (dY ail) (Pw p l w D [(15,iW i)]) [([],
   [((0:Int)<=Int.ofNat i/\Int.ofNat i<(Int.ofNat w.C.length)),((eL w.C).length=w.C.length*3),(V.dx (dF (eL w.C) (i*3) 3)=V.dx c.d),(0+D.length*1<=(strs D).length),(0<1),(eU (D.length+1) 1 16=true),(V.int aj (IntKind.i64.wrap (Int.ofNat i+(1:Int)))=iW (i+1))],
   .to .normal (nlX p l w (D.length+1) (List.take (D.length*1) (List.drop 0 (strs D))++[rs.str c.dg]) [(15,iW (i+1))]))]
 :=by rcases p with⟨_|⟨_,_,_⟩,_⟩<;>exact cR.of U U U
end
def uG:L:=[111,119,110]
section
variable(p q:gZ)(l:List RS)(w:RS)(D:List (L))(g:RR)(n:Nat)(ds:ai)(r:List (Nat×V))(i:Nat)
def bg:lf:=.cells [.dS false g.s.C.length (eL g.s.C),.dS false g.s.ro.length (eR g.s.ro),.str g.dg,.int .i64 g.er,.bool g.ch]
abbrev XX:lf:=.deep (strs D)
abbrev nlE:H lf:=J (lL q l++[(8+sh q,XX D),(9+sh q,bg g)])
def nlT:St:=eG ([(3,.bool true),(5,P3),(14,Mo (8+sh p) D),(16,.ptr (some (9+sh p,0)))]++r) (nlE p l D g) (10+sh p)
abbrev nlP:H lf:=J (kyC (10+sh p) q (7+sh p) l [(8+sh p,XX D),(9+sh p,bg g)])
noncomputable abbrev aiB:Code:=dP (dh 15 pF)
noncomputable abbrev aiC:Code:=dz (dz (dY aiB))
abbrev nlV:H lf:=J (lL q l++[(8+sh q,.deep ds),(9+sh q,bg g)])
def Uy:St:=eG ([(3,.bool true),(5,P3),(14,.dj (some (8+sh p,0)) n n 1),(16,.ptr (some (9+sh p,0))),(17,.str g.dg),(18,.int .i64 g.er)]++r) (nlV p l g ds) (10+sh p)
def acO:St:=eG [(3,.bool true),(5,P3),(6,.ptr (some (8+sh p,0))),(14,ni [])] (uF p l w []) (9+sh p)
abbrev HD:H lf:=J (lL q l++[(8+sh q,bg g)])
def XY:St:=eG ([(3,.bool true),(5,P3),(14,ni []),(16,.ptr (some (8+sh p,0)))]++r) (HD p l g) (9+sh p)
abbrev aiD:H lf:=J (kyC (9+sh p) q (7+sh p) l [(8+sh p,bg g)])
theorem aq6:c9 (fG fN 37 [w.v,.str uG,Mo (9+sh p) D] (uF p l w [(9+sh p,XX D)]) (10+sh p) (g.v,uF p l w [(9+sh p,XX D)],10+sh p)) [] 3 Tryz.f12 [3,5,14,16] (dP (dh 13 pF)) (Pw p l w D []) [([],
   [fC [w.v,.str uG,Mo (9+sh p) D] (uF p l w [(9+sh p,XX D)]) (10+sh p)],
   .to .normal (nlT p l D g []))]
 :=by rcases p with⟨_|⟨_,_,_⟩,_⟩<;>exact cR.of U U U
theorem aq7:c9 (fG fN 15 [.ptr (some (4,0)),.str uG,Mo (8+sh p) D] (nlE p l D g) (10+sh p) (.ew [.str g.dg,.int .i64 g.er],nlP p q l D g,12+sh p+sh q)) [] 3 Tryz.f12 [3,5,14,16,17,18] (dP (dh 14 pF)) (nlT p l D g []) [([],
   [fC [.ptr (some (4,0)),.str uG,Mo (8+sh p) D] (nlE p l D g) (10+sh p)],
   .to .normal (nlT q l D g [(17,.str g.dg),(18,.int .i64 g.er)]))]
 :=by rcases p with⟨_|⟨_,_,_⟩,_⟩<;>rcases q with⟨_|⟨_,_,_⟩,_⟩<;>exact cR.of U U U
theorem aiE:c9 (fG fN 37 [w.v,.str uG,ni []] (uF p l w []) (9+sh p) (g.v,uF p l w [],9+sh p)) [] 3 Tryz.f12 [3,5,14,16] (dP (dh 13 pF)) (acO p l w) [([],
   [fC [w.v,.str uG,ni []] (uF p l w []) (9+sh p)],
   .to .normal (XY p l g []))]
 :=by rcases p with⟨_|⟨_,_,_⟩,_⟩<;>exact cR.of U U U
theorem aiF:c9 (fG fN 15 [.ptr (some (4,0)),.str uG,ni []] (HD p l g) (9+sh p) (.ew [.str g.dg,.int .i64 g.er],aiD p q l g,11+sh p+sh q)) [] 3 Tryz.f12 [3,5,14,16,17,18] (dP (dh 14 pF)) (XY p l g []) [([],
   [fC [.ptr (some (4,0)),.str uG,ni []] (HD p l g) (9+sh p)],
   .to .normal (XY q l g [(17,.str g.dg),(18,.int .i64 g.er)]))]
 :=by rcases p with⟨_|⟨_,_,_⟩,_⟩<;>rcases q with⟨_|⟨_,_,_⟩,_⟩<;>exact cR.of U U U
theorem aiG:c9 (fG fN 28 [P3,g.s.v] (HD p l g) (9+sh p) (.bool true,HD p l g,9+sh p)) [(138,.di (.bool true)),(144,.di (.bool true))] 3 Tryz.f12 [] (dh 15 pF) (XY p l g [(17,.str g.dg),(18,.int .i64 g.er)]) [([],
   [(V.bool (eJ g.dg g.dg)=V.bool true),(V.bool (g.er==g.er)=V.bool true),fC [P3,g.s.v] (HD p l g) (9+sh p)],
   .ret (.bool true) (J [(0,.ints .u32 gS),(1,.ints .u32 gR)]) 3)]
 :=by rcases p with⟨_|⟨_,_,_⟩,_⟩<;>exact cR.of U U U
theorem aiH:c9 fN [] 3 Tryz.f12 [3,5,14,16,17,18,19] (dP aiB) (Uy p l g n ds []) [([],
   [],
   .to .normal (Uy p l g n ds [(19,iW 0)]))]
 :=by rcases p with⟨_|⟨_,_,_⟩,_⟩<;>exact cR.of U U U
theorem aiI:c9 fN [(127,.split)] 3 Tryz.f12 [3,5,14,16,17,18,19] (dP aiC) (Uy p l g n ds [(19,iW i)]) [([((decide (Int.ofNat i<(Int.ofNat n))),true)],
   [],
   .to .normal (Uy p l g n ds [(19,iW i)])),
  ([((decide (Int.ofNat i<(Int.ofNat n))),false)],
   [],
   .to (.exit 8) (Uy p l g n ds [(19,iW i)]))]
 :=by rcases p with⟨_|⟨_,_,_⟩,_⟩<;>exact cR.of U U U
theorem aiJ:c9 fN [(129,.di (iW (i+1)))] 3 Tryz.f12 [3,5,14,16,17,18,19] (dY aiC) (Uy p l g n ds [(19,iW i)]) [([],
   [((0:Int)<=Int.ofNat i/\Int.ofNat i<(Int.ofNat n)),(0+i*1+1<=ds.length),(V.int aj (IntKind.i64.wrap (Int.ofNat i+(1:Int)))=iW (i+1))],
   .to .normal (Uy p l g n (nV ds (0+i*1) [rs.str ([]:L)]) [(19,iW (i+1))]))]
 :=by rcases p with⟨_|⟨_,_,_⟩,_⟩<;>exact cR.of U U U
theorem aiK:c9 (fG fN 28 [P3,g.s.v] (nlV p l g ds) (10+sh p) (.bool true,nlV p l g ds,10+sh p)) [(138,.di (.bool true)),(144,.di (.bool true))] 3 Tryz.f12 [] (dh 16 pF) (Uy p l g n ds [(19,iW i)]) [([],
   [(V.bool (eJ g.dg g.dg)=V.bool true),(V.bool (g.er==g.er)=V.bool true),fC [P3,g.s.v] (nlV p l g ds) (10+sh p)],
   .ret (.bool true) (J [(0,.ints .u32 gS),(1,.ints .u32 gR)]) 3)]
 :=by rcases p with⟨_|⟨_,_,_⟩,_⟩<;>exact cR.of U U U
end
theorem J3{p:gZ}{cV:List jB}{k:Nat}{l:List RS}(h:pH p cV k l)(hB:cV.length<=3000):
  (∀c∈(fq cV).C,0<c.D.length->cW ak 25 [P3,.str c.dg] (eu p) 7 (.ew [.str c.da,NK c.D,qu]) (J (eK p++[(7,.deep (strs c.D))])) 8)/\
  ((fq cV).ro.map Prod.fst≠[]->cW ak 23 [P3] (eu p) 7 (NK ((fq cV).ro.map Prod.fst)) (J (eK p++[(7,.deep (strs ((fq cV).ro.map Prod.fst)))])) 8):=by
 obtain⟨hw,hg,oO,iy,Nf⟩:=h.all K;rcases h.JN with⟨e0,e⟩|⟨A,sg,zS,e⟩
 . subst e0;exact⟨fun _ I=>absurd I aL,fun hn=>absurd rfl hn⟩
 . rw[e];refine⟨fun c I h0=>?_,fun hn=>?_⟩
   . obtain⟨j,hj⟩:=bL.1 I;exact XS _ _ _ _ _ _ _ _ c.dg c.da c.D ((0+j:Nat):Int) (by rw[hg.Q];exact kU hw.nd hj) h0 (by have:=(hw.nm c I).2.2;omega)
   . rw[<- vS hw hg]at hn ⊢;exact Pu _ _ _ _ _ _ _ _ (fun e he=>by obtain⟨n,d,rfl⟩:=hg.key e he;exact⟨n,rfl⟩) (by rw[sY hw hg];have:=hw.TL;omega) hn
theorem T4{p q:gZ}{cV Zm:List jB}{k:Nat}{l:List RS}{d:L}{D:List (L)}(h:pH p cV k l)(B:pH q Zm k (ql l (ij (fq cV) d D))):fq Zm=(ij (fq cV) d D).s:=by
 by_cases Tl:(ij (fq cV) d D).ch=true
 . unfold ql at B;rw[aH Tl]at B;exact B.last
 . rw[Pv Tl];unfold ql at B;rw[aI Tl]at B;have e1:l=pE cV k++[fq cV]:=h.fH;rw[e1]at B;exact B.last
def hB1(p:gZ)(D:List (L))(c:Nat):af:=[(0,.ints .u32 gS),(1,.ints .u32 gR),(3,.cells (vI c (c+1) (c+2) p)),(4,.deep (strs D))]++lgB c p++[(c+1,.dI none p.Q),(c+2,.dI none p.D)]
section
variable{n A:Nat}{b:L}{X R O:Int}{Q F:ae}{lp:List RS}{g:RR}{d:L}{D:List (L)}
theorem aiL{m k:Nat}{u:L}{f2 n2 l2:Int}{e2 r2:ae}{v:L}(h:cW ak 15 [P3,.str d,Mo 4 D] (J (hB1 (sC n A b X R O Q F) D 5)) 8 (.ew [.str v,qu]) (J (hB1 (sC m k u f2 n2 l2 e2 r2) D 8)) 11):
  cW ak 15 [.ptr (some (4,0)),.str d,Mo 9 D] (nlE (sC n A b X R O Q F) lp D g) 11 (.ew [.str v,qu]) (nlP (sC n A b X R O Q F) (sC m k u f2 n2 l2 e2 r2) lp D g) 14:=
 xb (ns:=[some 0,some 1,some 2,some 4,some 9,some 5,some 6,some 7]) h 11 U
theorem T5(h0:0<D.length)(h3:D.length<=3)(hd:d.length<=65536)(h32:∀x∈D,x.length=32)(tc:∀x∈D,uC Q x)(hk:uC Q (dw d D)):
  cW ak 15 [.ptr (some (4,0)),.str d,Mo 9 D] (nlE (sC n A b X R O Q F) lp D g) 11 (.ew [.str (dw d D),qu]) (nlP (sC n A b X R O Q F) (sC n A b X R O Q F) lp D g) 14:=
 aiL (xb (ns:=[some 0,some 1,some 2,some 3,some 5,some 6,some 7,some 4]) (T1 n A b X R O Q F h0 h3 hd h32 tc hk) 5 U)
theorem T6(h0:0<D.length)(h3:D.length<=3)(hd:d.length<=65536)(h32:∀x∈D,x.length=32)(tc:∀x∈D,uC Q x)(hk:dr (.str (dw d D)) Q=none)(I:0<A)(hl:n=b.length)(Gi:n+(gd d D).length<=1048576):
  cW ak 15 [.ptr (some (4,0)),.str d,Mo 9 D] (nlE (sC n A b X R O Q F) lp D g) 11 (.ew [.str (dw d D),qu]) (nlP (sC n A b X R O Q F) (sC (n+(gd d D).length) (n+(gd d D).length) (b++gd d D) X (IntKind.i64.wrap (R+1)) O (ir (.str (dw d D)) (oF d D R) Q) F) lp D g) 14:=
 aiL (xb (ns:=[some 0,some 1,some 2,some 3,some 5,some 6,some 7,some 4]) (T2 n A b X R O Q F h0 h3 hd h32 tc hk I hl Gi) 5 U)
end
theorem T7{p:gZ}{cV:List jB}{k:Nat}{l:List RS}(h:pH p cV k l)(hB:cV.length<=2500)(lp:List RS)(g:RR)(d:L)(D:List (L))(hd:d.length<=60)(h0:0<D.length)(H6:D.length<=3)(h32:∀x∈D,x.length=32)(pO:∀x∈D,0<=fk (fq cV).C x):
  ∃q nf,cW ak 15 [.ptr (some (4,0)),.str d,Mo (8+sh p) D] (nlE p lp D g) (10+sh p) (.ew [.str (ij (fq cV) d D).dg,.int .i64 (ij (fq cV) d D).er]) (nlP p q lp D g) (12+sh p+sh q)/\pH q nf k (ql l (ij (fq cV) d D))/\nf.length<=cV.length+1:=by
 obtain⟨hw,hg,oO,iy,Nf⟩:=h.all K;have W:¬∃x∈D,fk (fq cV).C x<0:=fun⟨x,G,q⟩=>by have:=pO x G;omega
 have tc:=fun x G=>(qm hw hg x).1 (pO x G);rcases h.JN with⟨e0,e⟩|⟨A,sg,zS,e⟩
 . subst e0;obtain⟨x,D,rfl⟩:=List.exists_cons_of_length_pos h0;exact absurd (pO x (by simp)) (by show ¬(0:Int)<= -1;decide)
 by_cases hf:0<=fk (fq cV).C (dw d D)
 . have hr:ij (fq cV) d D=⟨fq cV,dw d D,0,false⟩:=by unfold ij;rw[aI W,aH hf]
   rw[hr];refine⟨p,cV,?_,by unfold ql;rw[aI Bool.false_ne_true];exact h,K⟩;rw[e];exact T5 h0 H6 K h32 tc ((qm hw hg _).1 hf)
 . have hr:ij (fq cV) d D=⟨⟨(fq cV).C++[⟨dw d D,d,D⟩],(fq cV).ro⟩,dw d D,0,true⟩:=by unfold ij;rw[aI W,aI hf]
   rw[hr];have ha:Uu (fq cV) (.chunk d D):=⟨hd,H6,pO,K⟩;have M4:(gd d D).length<=180:=(Hy hw ha).2;have hu:ql l ⟨⟨(fq cV).C++[⟨dw d D,d,D⟩],(fq cV).ro⟩,dw d D,0,true⟩=l++[zY (fq cV) (.chunk d D)]:=by unfold ql;rw[aH rfl];rfl
   rw[hu];have hs:=h.more (.chunk d D) ha ((dc cV).length+(gd d D).length) (aA _);refine⟨_,cV++[.chunk d D],?_,hs,by rw[ax];exact aA _⟩;rw[e];exact T6 h0 H6 K h32 tc (HA hw hg K) sg rfl K
section
variable{p q:gZ}{l:List RS}{w w2:RS}
end
theorem aiM:35<Tryz.prog.funcs.size:=au U
theorem AV{ds:ai}{i n:Nat}(h:ds.length=n)(hi:i<n):(nV ds (0+i*1) [rs.str ([]:L)]).length=n:=by
 unfold nV;rw[ax,ax,aZ,bV,List.length_singleton];omega
section
variable{p:gZ}{cV:List jB}{k:Nat}{l0:List RS}(hs:pH p cV k l0)(hB:cV.length<=2000)(l:List RS)
include hs hB
theorem aq8:TG ak 3 Tryz.f12.ntmps (dh 13 pF) (acO p l (fq cV)) (fJ ak 3 Tryz.f12 fun u _ _=>u= .bool true):=by
 obtain⟨hw,hg,oO,_,_⟩:=hs.all K;have h5:=hw.TL;have k37:=Nq (fq cV) uG [] (uF p l (fq cV) []) (9+sh p) K K dU dU (fun x G=>by cases G);obtain⟨q,nf,_,c4,s4,n4⟩:=uo hs K uG [] dU dU (fun x G=>by cases G) (fun _=>aX _);have e4:=T4 hs s4;generalize y6:ij (fq cV) uG []=g at k37 c4 s4 e4;refine cZ U ?_;refine fO (jM.jA Tg k37) (aiE p l (fq cV) g) (dG ?_);refine⟨eX ⟨rfl,rfl,rfl⟩,fun s' dO=>c6 dO ?_⟩;refine cZ U ?_;obtain⟨L2,Ee⟩:=aiF p q l g;have k15:cW ak 15 [.ptr (some (4,0)),.str uG,ni []] (HD p l g) (9+sh p) (.ew [.str g.dg,.int .i64 g.er]) (aiD p q l g) (11+sh p+sh q):=
  xb (ns:=nsT p) c4 (9+sh p) (by rcases p with⟨_|⟨_,_,_⟩,_⟩<;>rcases q with⟨_|⟨_,_,_⟩,_⟩<;>kernel_rfl)
 refine gC (jM.jA Bv k15) mo l9 U Ee (dG ?_);refine⟨eX ⟨rfl,rfl,rfl⟩,fun s' dO=>c6 dO ?_⟩;have b1:=s4.same K l;rw[e4]at b1;have k28:cW ak 28 [P3,g.s.v] (HD q l g) (9+sh q) (.bool true) (HD q l g) (9+sh q):=pD (ns:=nsA 5 q) b1 (by rcases q with⟨_|⟨_,_,_⟩,_⟩<;>kernel_rfl);refine fh (jM.jA Nu k28) (aiG q l g) (dG ?_);exact⟨fm (by rw[fV,cr]) (fm (by rw[cr]) (eX ⟨rfl,rfl,rfl⟩)),_,_,_,rfl,rfl⟩
theorem aq9(D:List (L))(h0:0<D.length)(h3:D.length<=3)(h32:∀x∈D,x.length=32)(pO:∀x∈D,0<=fk (fq cV).C x):TG ak 3 Tryz.f12.ntmps (dh 13 pF) (Pw p l (fq cV) D []) (fJ ak 3 Tryz.f12 fun u _ _=>u= .bool true):=by
 obtain⟨hw,hg,oO,_,_⟩:=hs.all K;have h5:=hw.TL;have k37:cW ak 37 [(fq cV).v,.str uG,Mo (9+sh p) D] (uF p l (fq cV) [(9+sh p,XX D)]) (10+sh p) (ij (fq cV) uG D).v (uF p l (fq cV) [(9+sh p,XX D)]) (10+sh p):=
  pD (l1:=Zl D []) (ns:=[some 0,some 1,some 2,some (9+sh p)]) (XR (fq cV) uG D K K dU h0 h3 h32 pO) (by rcases p with⟨_|⟨_,_,_⟩,_⟩<;>kernel_rfl)
 obtain⟨q,nf,k15,s4,n4⟩:=T7 hs K l (ij (fq cV) uG D) uG D dU h0 h3 h32 pO;have e4:=T4 hs s4;generalize y6:ij (fq cV) uG D=g at k37 k15 s4 e4;refine cZ U ?_;refine fO (jM.jA Tg k37) (aq6 p l (fq cV) D g) (dG ?_);refine⟨eX ⟨rfl,rfl,rfl⟩,fun s' dO=>c6 dO ?_⟩;refine cZ U ?_;refine fO (jM.jA Bv k15) (aq7 p q l D g) (dG ?_);refine⟨eX ⟨rfl,rfl,rfl⟩,fun s' dO=>c6 dO ?_⟩;have b1:=s4.same K l;rw[e4]at b1;have k28:∀ds,cW ak 28 [P3,g.s.v] (nlV q l g ds) (10+sh q) (.bool true) (nlV q l g ds) (10+sh q):=fun ds=>pD (ns:=nsA 5 q) b1 (by rcases q with⟨_|⟨_,_,_⟩,_⟩<;>kernel_rfl);show TG ak 3 Tryz.f12.ntmps (dh 15 pF) (Uy q l g D.length (strs D) []) _;have hl:(strs D).length=D.length:=aT ..;generalize strs D=xV at hl;generalize D.length=n at hl h3;refine cZ U ?_;refine cZ U ?_;refine fO jM (aiH q l g n xV) (dG ?_);refine⟨cT,fun s' dO=>?_⟩;refine iq (α:=ai×Nat) 8 (fun a=>n-a.2) (fun a=>a.2<=n/\a.1.length=n) (fun a=>Uy q l g n a.1 [(19,iW a.2)]) U U (xV,0) ⟨aX _,hl⟩ (.norm dO) fun a hI=>?_;obtain⟨ds,i⟩:=a;obtain⟨hi,hd⟩:i<=n/\ds.length=n:=hI;refine cZ U ?_;refine fO jM (aiI q l g n ds i) fun g hg I=>?_;rcases iU hg with rfl|rfl
 . have fI:i<n:=by
    have:=aE (I _ (aq.2 rfl));rw[kr,kr]at this;omega
   clear I;refine⟨cT,fun s' dO=>c6 dO ?_⟩;refine fO jM (aiJ q l g n ds i) (dG ?_);refine⟨fm ⟨az _,dm⟩ (fm K (eX (nL dm K))),fun s' dO=>?_⟩;exact⟨(nV ds (0+i*1) [rs.str ([]:L)],i+1),by show n-(i+1)<n-i;omega,⟨by show i+1<=_;omega,AV hd fI⟩,.norm dO⟩
 . refine⟨cT,fun s' dO=>?_⟩;simp only[andThen,dV];refine c6 dO ?_;refine fh (jM.jA Nu (k28 ds)) (aiK q l g n ds i) (dG ?_);exact⟨fm (by rw[fV,cr]) (fm (by rw[cr]) (eX ⟨rfl,rfl,rfl⟩)),_,_,_,rfl,rfl⟩
theorem ara:TG ak 3 Tryz.f12.ntmps (dh 11 pF) (EK p l (fq cV) []) (fJ ak 3 Tryz.f12 fun u _ _=>u= .bool true):=by
 obtain⟨hw,hg,oO,_,_⟩:=hs.all K;have h0:=aq8 hs hB l;have hr:=aq9 hs hB l;have h32:∀c∈(fq cV).C,c.dg.length=32:=fun c I=>hw.D1 I;have hfd:∀c∈(fq cV).C,0<=fk (fq cV).C c.dg:=fun c I=>by
  obtain⟨j,hj⟩:=bL.1 I;exact(nc hw.nd).2 ⟨j,c,hj,rfl⟩
 clear hg oO hw;generalize fq cV=w at h0 hr h32 hfd;have Gj:=jy w.C;have qW:∀i s',i<=3->i<=w.C.length->fa 3 [3,5,6,14,15] s'=some (Pw p l w ((w.C.take i).map gq.dg) [(15,iW i)])->TG ak 3 Tryz.f12.ntmps (dh 13 pF) s' (fJ ak 3 Tryz.f12 fun u _ _=>u= .bool true):=fun i s' hi hl dO=>by
  refine c6 dO ?_;rcases i with _|i
  . refine tV [9+sh p] (cS:=[([]:ai).length=0*1]) (s2:=eG [(3,.bool true),(5,P3),(6,.ptr (some (8+sh p,0))),(14,ni []),(15,iW 0)] ((uF p l w [(9+sh p,.deep [])]).set (9+sh p) none) (10+sh p)) (by rcases p with⟨_|⟨_,_,_⟩,_⟩<;>kernel_rfl) (eX rfl) ?_;exact c6 (live:=[3,5,6,14]) (s2:=acO p l w) (by rcases p with⟨_|⟨_,_,_⟩,_⟩<;>kernel_rfl) h0
  . have W:∀x∈(w.C.take (i+1)).map gq.dg,∃c∈w.C,c.dg=x:=fun x G=>by
     obtain⟨c,I,e⟩:=bA.1 G;exact⟨c,List.mem_of_mem_take I,e⟩
    have hn:((w.C.take (i+1)).map gq.dg).length=i+1:=by rw[aT,aZ];omega
    generalize (w.C.take (i+1)).map gq.dg=D at W hn;exact c6 (live:=[3,5,6,14]) (s2:=Pw p l w D []) (by rcases p with⟨_|⟨_,_,_⟩,_⟩<;>kernel_rfl) (hr D K K (fun x G=>by obtain⟨c,I,rfl⟩:=W x G;exact h32 c I) fun x G=>by obtain⟨c,I,rfl⟩:=W x G;exact hfd c I)
 refine cZ U ?_;refine fO jM (aiw p l w) (dG ?_);refine⟨cT,fun s' dO=>c6 dO ?_⟩;refine gF.deep (fr:=Pw p l w [] []) [9+sh p] (by rcases p with⟨_|⟨_,_,_⟩,_⟩<;>kernel_rfl) _ _ ?_;refine cZ U ?_;refine cZ U ?_;refine fO jM (aix p l w []) (dG ?_);refine⟨cT,fun s' dO=>?_⟩;refine iq 6 (fun i=>3-i) (fun i=>i<=3/\i<=w.C.length) (fun i=>Pw p l w ((w.C.take i).map gq.dg) [(15,iW i)]) U U 0 ⟨dU,aX _⟩ (.norm dO) fun i hI=>?_;obtain⟨hi,hl⟩:i<=3/\i<=w.C.length:=hI;refine cZ U ?_;obtain⟨L3,h3⟩:=aiy p l w ((w.C.take i).map gq.dg) i;have wT:((w.C.take i).map gq.dg).length=i:=by rw[aT,aZ];omega
 refine gC jM mo l9 U h3 fun g hg I=>?_;rcases w8 hg with rfl|rfl|rfl
 . have q1:=aE (I _ (aP ..));have q2:=aE (I _ (aK _ (aq.2 rfl)));rw[kr]at q1 q2;rw[kr]at q1;refine⟨cT,fun s' dO=>c6 dO ?_⟩;have fI:i<w.C.length:=by omega
   have jZ:=aN V.dx (ue w.C i fI);have et:(w.C.take (i+1)).map gq.dg=(w.C.take i).map gq.dg++[w.C[i].dg]:=by rw[bG,ay fI,aY];rfl
   obtain⟨L4,h4⟩:=aiz p l w ((w.C.take i).map gq.dg) i w.C[i];generalize w.C[i]=c at jZ et h4;generalize (w.C.take i).map gq.dg=D at wT et h4;have PI:(strs D).length=D.length:=aT ..;refine gC jM mo l9 U h4 (dG ?_);refine⟨fm ⟨az _,dm⟩ (fm Gj (fm jZ (fm K (fm dU (fm (lZ K) (eX (nL dm K))))))),fun s' dO=>?_⟩;have e5:List.take (D.length*1) (List.drop 0 (strs D))++[rs.str c.dg]=strs (D++[c.dg]):=by
    rw[bn,bk,<- PI,aU];unfold strs;rw[aY];rfl
   have e6:D.length+1=(D++[c.dg]).length:=by rw[ax];rfl
   rw[e5,e6]at dO;exact⟨i+1,by show 3-(i+1)<3-i;omega,⟨K,K⟩,.norm (live:=[3,5,6,14,15]) (by rw[et];exact dO)⟩
 all_goals
  refine⟨cT,fun s' dO=>?_⟩;simp only[andThen,dV];exact qW i s' hi hl dO
end
section
variable{p:gZ}{cV:List jB}{k:Nat}{l0:List RS}(hs:pH p cV k l0)(hB:cV.length<=2000)(l:List RS)
include hs hB
theorem arb(i:Nat)(c:gq)(hi:(fq cV).C[i]? =some c){es:Exit->St->Prop}(h:∀s',gF ak 3 Tryz.f12.ntmps s' (EK p l (fq cV) [(7,iW i)])->es .normal s'):TG ak 3 Tryz.f12.ntmps T3 (EK p l (fq cV) [(7,iW i)]) es:=by
 obtain⟨hw,hg,oO,_,_⟩:=hs.all K;have ho:=zT hs K;have hr:=(J3 hs K).1;have W:=bf hi;obtain⟨fI,hci⟩:=aG.1 hi;have jZ:=aN V.dx (ue (fq cV).C i fI);rw[hci]at jZ;have h3:=(hw.nm c W).2.2;have a1:(0:Int)<=Int.ofNat i/\Int.ofNat i<(Int.ofNat (fq cV).C.length):=⟨az _,dm⟩;have a2:=jy (fq cV).C;have g25:=ho.h25 c W;have r25:=hr c W;generalize fq cV=w at *;by_cases h0:c.D=[]
 . obtain⟨g,d,D⟩:=c;obtain rfl:D=[]:=h0;have pK:cW ak 25 [.ptr (some (4,0)),.str g] (uF p l w []) (27+sh p) (.ew [.str d,ni [],qu]) (uF p l w []) (27+sh p):=
    pD (ns:=nsT p) g25 (by rcases p with⟨_|⟨_,_,_⟩,_⟩<;>kernel_rfl)
   refine fO (jM.jA To pK) (aim p l w i g d) (dG ?_);exact⟨fm a1 (fm a2 (fm jZ (eX ⟨rfl,rfl,rfl⟩))),fun s' dO=>h s' (.norm dO)⟩
 have vc:cW ak 25 [.ptr (some (4,0)),.str c.dg] (uF p l w []) (27+sh p) (.ew [.str c.da,Mo (27+sh p) c.D,qu]) (uF p l w [(27+sh p,XX c.D)]) (28+sh p):=
  pD (ns:=nsT p) (r25 (List.length_pos_iff.2 h0)) (by rcases p with⟨_|⟨_,_,_⟩,_⟩<;>kernel_rfl)
 refine cZ U ?_;refine fO (jM.jA To vc) (ain p l w i c) (dG ?_);refine⟨fm a1 (fm a2 (fm jZ (eX ⟨rfl,rfl,rfl⟩))),fun s' dO=>c6 dO ?_⟩;have hl:(strs c.D).length=c.D.length:=aT ..;generalize strs c.D=xV at hl;generalize c.D.length=n at hl h3;refine cZ U ?_;refine fO jM (aio p l w i n xV) (dG ?_);refine⟨cT,fun s' dO=>?_⟩;refine iq (α:=ai×Nat) 2 (fun a=>n-a.2) (fun a=>a.2<=n/\a.1.length=n) (fun a=>XW p l w i n a.1 [(11,iW a.2)]) U U (xV,0) ⟨aX _,hl⟩ (.norm dO) fun a hI=>?_;obtain⟨ds,j⟩:=a;obtain⟨hj,hd⟩:j<=n/\ds.length=n:=hI;refine cZ U ?_;refine fO jM (aip p l w i n ds j) fun g hg I=>?_;rcases iU hg with rfl|rfl
 . have fI:j<n:=by
    have:=aE (I _ (aq.2 rfl));rw[kr,kr]at this;omega
   clear I;refine⟨cT,fun s' dO=>c6 dO ?_⟩;refine fO jM (aiq p l w i n ds j) (dG ?_);refine⟨fm ⟨az _,dm⟩ (fm K (eX (nL dm K))),fun s' dO=>?_⟩;exact⟨(nV ds (0+j*1) [rs.str ([]:L)],j+1),by show n-(j+1)<n-j;omega,⟨by show j+1<=_;omega,AV hd fI⟩,.norm dO⟩
 . refine⟨cT,fun s' dO=>?_⟩;simp only[andThen,dV];exact h s' (.trans (.norm dO) (.norm (live:=[3,5,6,7]) (by rcases p with⟨_|⟨_,_,_⟩,_⟩<;>kernel_rfl)))
theorem arc(i:Nat):TG ak 3 Tryz.f12.ntmps (dh 9 pF) (EK p l (fq cV) [(7,iW i)]) (fJ ak 3 Tryz.f12 fun u _ _=>u= .bool true):=by
 obtain⟨hw,hg,oO,_,_⟩:=hs.all K;have h5:=hw.TL;have hb:=ara hs hB l;have ho:=(zT hs K).h23;have hr:=(J3 hs K).2;have ER:((fq cV).ro.map Prod.fst).length<=1000000:=by rw[aT];omega
 generalize (fq cV).ro.map Prod.fst=zs at ho hr ER;generalize fq cV=w at *;by_cases hz:zs=[]
 . subst hz;obtain⟨aa,N⟩:=air p l w i;have k23:cW ak 23 [.ptr (some (4,0))] (uF p l w []) (9+sh p) (ni []) (uF p l w []) (9+sh p):=pD (ns:=nsT p) ho (by rcases p with⟨_|⟨_,_,_⟩,_⟩<;>kernel_rfl);exact lX 2 (jM.jA Tn k23) mo U N (eX ⟨rfl,rfl,rfl⟩) hb
 have k23:cW ak 23 [.ptr (some (4,0))] (uF p l w []) (9+sh p) (Mo (9+sh p) zs) (uF p l w [(9+sh p,XX zs)]) (10+sh p):=pD (ns:=nsT p) (hr hz) (by rcases p with⟨_|⟨_,_,_⟩,_⟩<;>kernel_rfl);refine cZ U ?_;refine fO (jM.jA Tn k23) (ais p l w i zs) (dG ?_);refine⟨eX ⟨rfl,rfl,rfl⟩,fun s' dO=>c6 dO ?_⟩;refine cZ U ?_;refine cZ U ?_;refine fO jM (ait p l w zs.length (strs zs)) (dG ?_);refine⟨cT,fun s' dO=>?_⟩;refine iq (α:=ai×Nat) 4 (fun a=>zs.length-a.2) (fun a=>a.2<=zs.length/\a.1.length=zs.length) (fun a=>XV p l w zs.length a.1 [(13,iW a.2)]) U U (strs zs,0) ⟨aX _,aT ..⟩ (.norm dO) fun a hI=>?_;obtain⟨ds,j⟩:=a;obtain⟨hj,hd⟩:=hI;have hj:j<=zs.length:=hj;have hd:ds.length=zs.length:=hd;refine cZ U ?_;refine fO jM (aiu p l w zs.length ds j) fun g hg I=>?_;rcases iU hg with rfl|rfl
 . have fI:j<zs.length:=by
    have:=aE (I _ (aq.2 rfl));rw[kr,kr]at this;omega
   clear I;refine⟨cT,fun s' dO=>c6 dO ?_⟩;refine fO jM (aiv p l w zs.length ds j) (dG ?_);refine⟨fm ⟨az _,dm⟩ (fm K (eX (nL dm K))),fun s' dO=>?_⟩;exact⟨(nV ds (0+j*1) [rs.str ([]:L)],j+1),by show zs.length-(j+1)<zs.length-j;omega,⟨by show j+1<=_;omega,AV hd fI⟩,.norm dO⟩
 . refine⟨cT,fun s' dO=>?_⟩;simp only[andThen,dV];refine c6 dO ?_;exact c6 (live:=[3,5,6]) (s2:=EK p l w []) (by rcases p with⟨_|⟨_,_,_⟩,_⟩<;>kernel_rfl) hb
end
theorem XZ:cW ak 35 [P3] (J PM) 9 (.bool true) (J PM) 9:=by
 have c:cW ak 35 [P3] (J nnL) 4 (.bool true) (J nnL) 4:=by
  refine c5 Tryz.func35 (code:=dN Tryz.f35) U U ?_;refine fh jM aqN (dG ?_);refine⟨?_,_,_,_,rfl,rfl,rfl,rfl⟩
  repeat' (first|exact cT|refine iI ?_ ?_)
  all_goals first|rfl|decide
 exact pD (ns:=[some 0,some 1,some 2,some 3]) c U
theorem ard(ops:List AT):TG ak 3 Tryz.f12.ntmps pF (cU [zU ops] (Ed gS gR) 3) (fJ ak 3 Tryz.f12 fun u _ _=>u= .bool true):=by
 obtain⟨L1,BQ⟩:=aqY ops;refine lX 5 X29 mo U BQ (fm rfl (eX rfl)) ?_;show TG ak 3 Tryz.f12.ntmps (dh 5 pF) (eG [(0,zU ops),(3,.bool true),(4,P3)] (J nnL) 4) _;refine cZ U ?_;obtain⟨L2,Ee⟩:=aqZ ops;have k26:cW ak 26 [] (J nnL) 4 (.ptr (some (4,0))) (J PM) 9:=pD (ns:=[some 0,some 1,some 2]) (l1:=[(0,.ints .u32 gS),(1,.ints .u32 gR)]) Xz U;refine gC (X29.jA ah2 k26) mo l9 U Ee (dG ?_);refine⟨eX ⟨rfl,rfl,rfl⟩,fun s' dO=>c6 dO ?_⟩;show TG ak 3 Tryz.f12.ntmps (dh 6 pF) (eG [(0,zU ops),(3,.bool true),(4,P3),(5,.ptr (some (4,0)))] (J PM) 9) _;have hI:Pq (sZ 0 0 0,[gM],0):=iv0;have hp:=XC (sZ 0 0 0) [gM] ops hI;have hJ:=XB (ops:=ops) (a:=(sZ 0 0 0,[gM])) hI;generalize FW ops (sZ 0 0 0,[gM])=a at hp hJ;obtain⟨p,l⟩:=a;have k30:cW ak 30 [.ptr (some (4,0)),zU ops] (J PM) 9 (.bool true) (J (nnB p l)) (12+sh p):=
  xb (ns:=[some 0,some 1,some 2,some 4,some 5,none,some 6,some 7,some 8]) hp 9 (by rcases p with⟨_|⟨_,_,_⟩,_⟩<;>kernel_rfl)
 refine cZ U ?_;obtain⟨L3,wR⟩:=aq0 p ops l;refine gC ((jM.jA aia k30).jA aiM XZ) mo l9 U wR (dG ?_);refine⟨fm ⟨rfl,rfl,rfl⟩ (eX ⟨rfl,rfl,rfl⟩),fun s' dO=>c6 dO ?_⟩;clear BQ Ee wR k26 k30 hp hI;obtain⟨_,cV,k,hs,hB,hl⟩:=hJ;have hs:pH p cV k l:=hs;have hB:cV.length<=18*40:=hB;have hl:l.length<=40+1:=hl;obtain⟨hw,hg,oO,_,_⟩:=hs.all K;have oM:l=pE cV k++[fq cV]:=hs.fH;have hz:=arc hs K l;have hi:=arb hs K l;generalize hwe:fq cV=w at hw hg oO oM hz hi;refine cZ U ?_;have h29:=m29 p (pE cV k) w (by have:=aN List.length oM;rw[ax]at this;omega);rw[<- oM]at h29;have k29:cW ak 29 [P3] (J (lL p l)) (8+sh p) w.v (J (lL p l)) (8+sh p):=pD (ns:=nsA 5 p) h29 (by rcases p with⟨_|⟨_,_,_⟩,_⟩<;>kernel_rfl);refine fO (jM.jA DP k29) (aq1 p l w) (dG ?_);refine⟨eX ⟨rfl,rfl,rfl⟩,fun s' dO=>c6 dO ?_⟩;refine cZ U ?_;refine cZ U ?_;refine fO jM (aq2 p l w) (dG ?_);refine⟨cT,fun s' dO=>?_⟩;refine iq 0 (fun i=>w.C.length-i) (fun i=>i<=w.C.length) (fun i=>EK p l w [(7,iW i)]) U U 0 (aX _) (.norm dO) fun i ku=>?_;have ku:i<=w.C.length:=ku;refine cZ U ?_;refine fO jM (aq3 p l w i) fun g hg I=>?_;rcases iU hg with rfl|rfl
 . have fI:i<w.C.length:=by
    have:=aE (I _ (aq.2 rfl));rw[kr,kr]at this;omega
   clear I;refine⟨cT,fun s' dO=>c6 dO ?_⟩;refine cZ U ?_;refine fB (i:=1) U ?_;refine hi i w.C[i] (ay fI) fun s' dO=>dO _ _ ?_;refine fO jM (aq4 p l w i) (dG ?_);exact⟨eX (nL dm K),fun s' dO=>⟨i+1,by show w.C.length-(i+1)<w.C.length-i;omega,by show i+1<=_;omega,.norm dO⟩⟩
 . refine⟨cT,fun s' dO=>?_⟩;simp only[andThen,dV];exact c6 dO (hz i)
end Go.Proofs.YtfihojpgobmmdaaGreatDoor
