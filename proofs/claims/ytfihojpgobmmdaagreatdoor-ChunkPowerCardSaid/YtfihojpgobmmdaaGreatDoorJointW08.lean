/- Lemmas of the engine. No conditions. -/
import Derived.Test.YtfihojpgobmmdaaGreatDoorJointW06
set_option linter.unusedVariables false
set_option linter.unusedSimpArgs false
set_option linter.unusedSectionVars false
namespace Go.Eng
open Go Go.RowKit
def gh(P:Program)(f:FuncId)(args:ag)(h:H rs)(n:Nat)(nx:V->H rs->Nat->Prop):Prop:=
 ∀E w dm,dK E args dm->Good E h w->rL E n->Calls P f dm.toArray w fun e w'=>∃v h' n',nx v h' n'/\kz E h n w (.ret v) h' n' e w'
theorem c5.one{P:Program}{f:FuncId}{args:ag}{h:H rs}{n:Nat}{v:V}{X:H rs}{n1:Nat}(c:c5 P f args h n v X n1):gh P f args h n fun a b d=>a=v/\b=X/\d=n1:=
 fun E w dm ra g hd=>(c E w dm ra g hd).mono fun _ _ q=>⟨_,_,_,⟨rfl,rfl,rfl⟩,q⟩
theorem gh.mono{P:Program}{f:FuncId}{args:ag}{h:H rs}{n:Nat}{nx R':V->H rs->Nat->Prop}(c:gh P f args h n nx)(hr:∀v h n,nx v h n->R' v h n):gh P f args h n R':=
 fun E w dm ra g hd=>(c E w dm ra g hd).mono fun _ _ ⟨v,h',n',r,q⟩=>⟨v,h',n',hr _ _ _ r,q⟩
theorem gh.is{P:Program}{f:FuncId}{args:ag}{h:H rs}{n:Nat}{v:V}{X:H rs}{n1:Nat}(c:gh P f args h n fun a b d=>a=v/\b=X/\d=n1):c5 P f args h n v X n1:=
 fun E w dm ra g hd=>(c E w dm ra g hd).mono fun _ _ ⟨_,_,_,⟨e1,e2,e3⟩,q⟩=>by subst e1 e2 e3;exact q
theorem gO{P:Program}(W:P.follows .mixedOrders=true)(yd:l6 P=true){f:FuncId}{fn:Func}{code:Code}(hf:P.funcs[f]? =some fn)(hb:fn.body=some code){args:ag}{h:H rs}{n:Nat}{nx:V->H rs->Nat->Prop}
  (l:(Nat.ble args.length fn.ntmps&&Nat.blt fn.ntmps fW)=true) (hT:TG P n fn.ntmps code (cZ args h n) (fL P n fn nx)):gh P f args h n nx:=
 fun _ _ _ ra g hd=>pF W yd hf hb l nx hT ra g hd
theorem yo{P:Program}{fl:Fence}{n:Nat}{ops:Array Oper}{cs:Exit->Act->World->Prop}{l2:List Oper}:∀(l1:List Oper) {a:Act} {w:World},
  wpListIn fl n P ops (fun y a w=>match y with | .normal=>wpListIn fl n P ops cs l2 a w|y=>cs y a w) l1 a w->wpListIn fl n P ops cs (l1++l2) a w
 | [],a,w,h=>h
 |o::l1,a,w,h=>by
  show wpListIn fl n P ops cs (o::(l1++l2)) a w;unfold wpListIn at h ⊢;split
  . rename_i hw;rw[aF hw]at h;refine O4 (fun a w q=>yo l1 q) (fun y a w hy q=>?_) h;cases y<;>first|exact absurd rfl hy|exact q
  . rename_i hw;rw[aJ hw]at h;exact⟨h.1,yo l1 h.2⟩
theorem Sp{P:Program}{cf:ga}(pg:jt P cf){I rt g:Nat}{pre post:List Oper}{o:Oper}{s s1:St}{cs:Exit->St->Prop}{f:FuncId}{args:ag}{nx:V->H rs->Nat->Prop}(iC:fb rt (.region g (pre++o::post).toArray false)=true)
  (X:jo P cf (pre++o::post).toArray pre s=some (.normal,s1)) (hg:o.guard=none) (ho:dH P o s1.S s1.h s1.n=some (.call f args)) (vz:(callee P f&&Nat.blt f P.funcs.size)=true) (J:gh P f args s1.h s1.n nx)
  (hq:∀v h n,nx v h n->∃S s2,jj s1.S o.dst v=some S/\jo P cf (pre++o::post).toArray post { s1 with S:=S,h:=h,n:=n }=some (.normal,s2)/\cs .normal s2):TG P I rt (.region g (pre++o::post).toArray false) s cs:=by
 intro E a w hL r hn k;simp only[fb,aE]at iC;simp only[aE]at vz;have fH:f<P.funcs.size:=ax vz.2;have uN:∀x∈pre++o::post,nM rt x.dst:=by
  intro x M d hd;have:=bt.1 iC.1 x (by simpa using M);rw[hd]at this;exact aI this
 refine(wpIn_wide (n:=0)).1 (wpIn_region_list (F:=fz none) ?_);show wpListIn (fz none) 0 P _ _ (pre++o::post) a w;refine yo pre ?_;refine lp (vA:=none) pg pre s .normal s1 (.inl rfl) (fun x M=>uN x (by simp[M])) X E a w _ r ?_;intro E1 a1 w1 x1 u1 FI Ew r1 Vx;cases x1<;>first|exact Vx.elim|skip
 show wpListIn (fz none) 0 P _ _ (o::post) a1 w1;refine wpListIn_plain hg fun K' V5=>?_;have ER:∀y∈o.op.operands,mX E1 s1.S a1.eval y:=fun y _=>iS r1.good.jy r1.S y;obtain⟨dm,ra,fU⟩:=mY r1.good (r1.oI _ (aC _)) ER ho;refine⟨fun _ _=>trivial,?_⟩;rw[lZ (wM ho fun _ _ _=>by simp)];rcases fU with⟨fU,h2⟩|⟨m,l,sx,h2,h3,fU⟩
 . rw[fU,Oper.uponIn_enter];refine⟨fun hd=>by simp[fz,Fence.wide]at hd,?_⟩;refine callsIn_wide.2 ((J E1 w1 dm ra r1.good r1.oI).mono ?_);rintro en w2 ⟨v,h',n',hR,E2,u2,qX,IU,xV,pR⟩;obtain⟨S,s2,p1,p2,p3⟩:=hq v h' n' hR;cases en with
   |panicked _=>exact pR.elim
   |outgrown=>exact pR.elim
   |returned v'=>
    have pR:dJ E2 v v':=pR;refine V5 _ _ ?_;have r2:kI E2 rt { s1 with S:=S,h:=h',n:=n' } (a1.put o.dst v') w2:=
     ⟨u2.good,IU,jO (ku u2.le r1.S) p1 pR (by rw[r1.size];exact uN o (by simp)),by rw[iR];exact r1.size,by rw[gF];exact jg u2.le _ _ r1.gD⟩
    refine lp (vA:=none) pg post _ .normal s2 (.inl rfl) (fun x M=>uN x (by simp[M])) p2 E2 _ w2 _ r2 ?_;intro E3 a3 w3 x3 u3 zv K1 r3 hx3;cases x3<;>first|exact hx3.elim|skip
    have hnn:s.n<=n':=bR Ew xV;have uu:=((l7.of u1 FI hn).trans (l7.of u2 qX (bR hn Ew))).trans (l7.of u3 zv (bR hn hnn));have hnf:I<=s2.n:=bR (bR hn hnn) K1;exact k .normal s2 E3 a3 w3 p3 uu hnf r3
 . exact absurd fH (by rw[h2];exact Nat.not_lt.2 (Nat.le_add_right _ _))
theorem oP{P:Program}{I rt:Nat}{c:Code}{s:St}{cs:Exit->St->Prop}{gf:FuncId}{lb:ag}{nx:V->H rs->Nat->Prop}(hr:Ni c=true)(iC:fb rt c=true)
  (hg:iX s.S (rG c)=some (.fn (.func gf) [] lb)) (vz:(callee P gf&&Nat.blt gf P.funcs.size)=true) (ht:Nat.blt (s.n+1) fW=true)
  (J:gh P gf (.fn (.yield (s.n+1)) [] []::lb) (afp c s) (s.n+2) nx) (hq:∀v h n,nx v h n->Y6 s h=true/\cs .normal (uq s h n)):TG P I rt c s cs:=by
 cases c<;>simp only[Ni,aP]at hr;rename_i g ps assign body;simp only[aE]at vz;have gT:s.n+1<fW:=ax ht;simp only[fb,aE]at iC;intro E a w hL r hn k;have hg:iX s.S g=some (.fn (.func gf) [] lb):=hg;obtain⟨f',fi,IT,OO,hfi,hlb,AE⟩:=iS r.good.jy r.S g _ hg;simp only[yV]at OO;subst OO;simp only[dK]at hfi;subst hfi;refine(wpIn_wide (n:=0)).1 ?_;show(Code.rangeFunc g ps assign body).wpIn (fz none) 0 P hL a w;refine wpIn_rangeFunc fun fn _=>?_
 let C8:Loop:={ state:=.ready,pending:=none,fn,tmps:=a.tmps,params:=ps,assign,body,defers:=w.heap.size }
 have u1:iI E s.h w (E.put s.n w.heap.size 0 0) (s.h.set s.n (some .nf)) (w.alloc (.deferred (some []))):=iI.alloc (ob:=.deferred (some [])) (o:=.nf) r.good (r.oI _ (aC _)) L heap_alloc_new;have Ew:(E.put s.n w.heap.size 0 0).ι (s.n+1)=none:=by rw[Env.fG L];exact r.oI _ L
 have u2:iI (E.put s.n w.heap.size 0 0) (s.h.set s.n (some .nf)) (w.alloc (.deferred (some []))) ((E.put s.n w.heap.size 0 0).put (s.n+1) (w.alloc (.deferred (some []))).heap.size 0 0) ((s.h.set s.n (some .nf)).set (s.n+1) (some (.loop true none s.S ps.toList assign body))) ((w.alloc (.deferred (some []))).alloc (.loop C8)):=
  iI.alloc (ob:=.loop C8) (o:=.loop true none s.S ps.toList assign body) u1.good Ew gT
   ⟨C8,heap_alloc_new,rfl,rfl,rfl,rfl,rfl,wE (Env.le_trans u1.le (Env.sq Ew fun m x t e M=>by have:=u1.good.ny m x t e;omega)) r.S,by rw[show C8.tmps.size=rt from r.size];exact⟨iC.2.1,iC.2.2,fun p hp=>by simpa using bt.1 iC.1 p hp⟩⟩
 rw[World.size_alloc]at u2;have YQ:gh P gf (.fn (.yield (s.n+1)) [] []::lb) ((s.h.set s.n (some .nf)).set (s.n+1) (some (.loop true none s.S ps.toList assign body))) (s.n+2) nx:=J;generalize VG:(E.put s.n w.heap.size 0 0).put (s.n+1) (w.heap.size+1) 0 0=E2 at u2;generalize OV:(s.h.set s.n (some .nf)).set (s.n+1) (some (.loop true none s.S ps.toList assign body))=h2 at u2 YQ;generalize hW1:(w.alloc (.deferred (some []))).alloc (.loop C8)=W1 at u2;have Ex:E2.ι (s.n+1)=some (w.heap.size+1,0):=by rw[<- VG];exact Env.ff
 have GX:E2.ι s.n=some (w.heap.size,0):=by rw[<- VG,Env.fG L];exact Env.ff
 have qX:∀k,k<s.n->E2.ι k=E.ι k:=fun k hk=>by rw[<- VG,Env.fG L,Env.fG L]
 have IU:rL E2 (s.n+2):=fun k hk=>by
  have hk:s.n+2<=k:=hk;rw[<- VG,Env.fG L,Env.fG L];exact r.oI k (by show s.n<=k;omega)
 have u12:=u1.trans u2;have aaq:dK E2 lb IT:=kP u12.le _ _ hlb;have Rk:(invoke (.fn (.func gf) IT.toArray) #[.func (.yield (w.heap.size+1)) #[] #[]]).run P W1= .ok (.enter gf (Value.func (.yield (w.heap.size+1)) #[] #[]::IT).toArray) W1:=by
  have aar:=qp (w:=W1) (args:=(Value.func (.yield (w.heap.size+1)) #[] #[]::IT).toArray) vz.1;rw[<- aar];simp[invoke]
 refine⟨w.heap.size+1,[{ target:=.collected w.heap.size,args:=#[] }],W1,{ target:=.fn (.func gf) IT.toArray,args:=#[.func (.yield (w.heap.size+1)) #[] #[]] },W1,gf,
  (Value.func (.yield (w.heap.size+1)) #[] #[]::IT).toArray,W1,?_,?_,fun _ _=>trivial,Rk,fun hd=>by simp[fz,Fence.wide]at hd,?_⟩
 . rw[<- hW1];exact run_enterLoop_outer _ _ _ _ _
 . simp only[resolve,AE];simp[go_sem]
 . have C9:=YQ E2 W1 (Value.func (.yield (w.heap.size+1)) #[] #[]::IT) ⟨_,_,⟨_,[],[],⟨_,_,Ex,rfl⟩,rfl,rfl,rfl⟩,aaq,rfl⟩ u2.good IU;have GY:CallsIn Fence.wide (0-1) P gf (Value.func (.yield (w.heap.size+1)) #[] #[]::IT).toArray W1 (rangePost (fz none) 0 P (w.heap.size+1) hL { a with defers:=[{ target:=.collected w.heap.size,args:=#[] }]++a.defers }):=by
    refine callsIn_wide.2 (C9.mono ?_);rintro en w3 ⟨v,h,n,hRR,E3,u3,zv,Rl,K1,ho⟩;obtain⟨FC,hQ⟩:=hq v h n hRR;cases en with
    |panicked _=>exact ho.elim
    |outgrown=>exact ho.elim
    |returned v'=>
     have hl3:E3.ι (s.n+1)=some (w.heap.size+1,0):=by rw[zv _ L];exact Ex
     have hd3:E3.ι s.n=some (w.heap.size,0):=by rw[zv _ L];exact GX
     unfold Y6 at FC;split at FC
     case h_2=>cases FC
     rename_i S pl c1 c2 hdg Ib;obtain⟨b,s0,q1,rc,q2,q3,q4,_⟩:=u3.good.rel _ _ Ib;rw[hl3]at q1;cases q1;have IV:=run_endLoop (P:=P) q2 (by rw[q3];simp);refine⟨_,_,IV.trans (aL (fun p=>Result.ok p _) q4),?_⟩;have uk:iI E3 h w3 E3 (h.set (s.n+1) none) (w3.putObj (w.heap.size+1) (.loop { rc with state:=.exhausted })):=
      iI.kill u3.good gT ⟨_,Ib,rfl⟩ hl3 (by simp) rfl rfl rfl fun x M=>World.putObj_heap_other M
     have GZ:=(u12.trans u3).trans uk;have hsn:s.n<=n:=by omega
     exact k .normal _ E3 _ _ hQ (.of GZ (fun k hk=>by rw[zv k L];exact qX k hk) hn) (by show I<=n;omega)
      ⟨GZ.good,Rl,ku GZ.le r.S,r.size,⟨_,a.defers,.inr ⟨rfl,s.n,w.heap.size,0,rfl,hd3,rfl⟩,jg GZ.le _ _ r.gD,rfl⟩⟩
   exact GY
def Sq(P:Program)(I:Nat)(fn:Func)(p:h1×St):od:=match p.1 with
 | .normal=>match Lc P I fn p.2 with
   |some (v,h,n)=>.ret v h n
   |none=>.bad
 | .ret=>match Lc P I fn p.2 with
   |some (v,h,n)=>.ret v h n
   |none=>.bad
 |_=>.bad
def agc(P:Program)(Q:e9)(Tr:List (Nat×pC))(fl I:Nat)(fn:Func)(c:Code)(s:St):List (List (Bool×Bool)×ah×od):=vM (Sq P I fn) (zA (kB P Q Tr fl c s))
def vX(P:Program)(Q:e9)(Tr:List (Nat×pC))(fl I:Nat)(fn:Func)(c:Code)(s:St)(fm:List (List (Bool×Bool)×ah×od)):Prop:=xD P Q Tr fl c s=true/\xj P Q Tr fl c s=zE P Q Tr fl c s/\agc P Q Tr fl I fn c s=fm
theorem sB{P:Program}{I rt:Nat}{fn:Func}{Tr:List (Nat×pC)}{fl:Nat}{c:Code}{s:St}{fm:List (List (Bool×Bool)×ah×od)}(X':CX P)(W:P.follows .mixedOrders=true)(nx:V->H rs->Nat->Prop)(J:fb rt c=true)(hr:vX P X'.Q Tr fl I fn c s fm)
  (h:∀g∈fm,(∀b∈g.1,b.1=b.2)->(∀a∈g.2.1,a)/\∃v h n,g.2.2= .ret v h n/\nx v h n):TG P I rt c s (fL P I fn nx):=by
 obtain⟨e1,e2,e3⟩:=hr;obtain⟨l,hl⟩:=cm.1 e1;unfold xj zE at e2;unfold agc at e3;rw[hl]at e2 e3;simp only[zA]at e2 e3;refine Ld (X':=X') W J hl fun p hp ho=>?_;obtain⟨hA,v,h',n',he,hR⟩:=h (p.1.conds,p.1.VL,Sq P I fn p.2) (e3▸sY hp) ho;refine⟨⟨zB l e2 p hp,hA⟩,?_⟩;obtain⟨pp,x,s'⟩:=p;simp only[Sq]at he;cases x with
 |normal=>
  simp only at he;split at he
  . rename_i v1 X n1 B8;cases he;exact⟨.normal,rfl,.inl rfl,_,_,_,B8,hR⟩
  . cases he
 |ret=>
  simp only at he;split at he
  . rename_i v1 X n1 B8;cases he;exact⟨.ret,rfl,.inr rfl,_,_,_,B8,hR⟩
  . cases he
 |exit i=>simp only at he;cases he
 |panic _=>simp only at he;cases he
theorem DL{P:Program}{I:Nat}{fn:Func}{nx:V->H rs->Nat->Prop}{i:Nat}{y:Exit}{s:St}(h:fL P I fn nx y s):mK i (fL P I fn nx) y s:=by
 rcases h.1 with rfl|rfl<;>exact h
theorem gh.frz{P:Program}{f:FuncId}{args r9:ag}{h h2:H rs}{n:Nat}{ms:List Nat}{cU:ah}{nx:V->H rs->Nat->Prop}
  (hl:(Nat.beq args.length r9.length&&Nat.blt args.length fW)=true) (e:fzS ms (cZ args h n)=some (cU,cZ r9 h2 n)) (hA:∀a∈cU,a) (c:gh P f r9 h2 n nx):gh P f args h n nx:=by
 intro E w dm ra g hd;simp only[aE]at hl;have ja:args.length=r9.length:=aG hl.1;have fH:args.length<fW:=ax hl.2;obtain⟨yN,mA⟩:=tY (n:=args.length) ra (aC _) fH;have r:kI E args.length (cZ args h n) { tmps:=dm.toArray++Array.replicate (args.length-dm.toArray.size) undef,defers:=[] } w:=⟨g,hd,yN,mA,rfl⟩;obtain⟨E2,r2,u,_,jl⟩:=wU (I:=n) e hA r (aC _);have avb:dm.length=args.length:=eR ra;have ra2:dK E2 r9 dm:=by
  refine jN L fun i v hv=>?_;have hi:i<r9.length:=(aH.1 hv).1;have hg:(cZ r9 h2 n).S.get i=some v:=by
   show(mj r9 0 .nil).get i=some v;rw[vH r9 0 .nil i L];rw[aF L];simpa using hv
  obtain⟨v',k1,k2⟩:=r2.S i v hg;refine⟨v',?_,k2⟩;rw[bT (by simp;omega)]at k1;simpa using k1
 refine(c E2 w dm ra2 r2.good r2.oI).mono fun en w' ⟨v,h',n',hR,E3,u3,fT,hd3,K1,ho⟩=>⟨v,h',n',hR,E3,?_,fun m W=>(fT m W).trans (jl m),hd3,K1,ho⟩;exact(u.trans (l7.of u3 fT (aC _))).qT hd
theorem c5.frz{P:Program}{f:FuncId}{args r9:ag}{h h2:H rs}{n:Nat}{ms:List Nat}{cU:ah}{v:V}{X:H rs}{n1:Nat}
  (hl:(Nat.beq args.length r9.length&&Nat.blt args.length fW)=true) (e:fzS ms (cZ args h n)=some (cU,cZ r9 h2 n)) (hA:∀a∈cU,a) (c:c5 P f r9 h2 n v X n1):c5 P f args h n v X n1:=
 gh.is (c.one.frz hl e hA)
mutual
theorem Hv{ν:Nat->Option Nat}:∀(v:V),v.deep=true->v.rn ν=some v
 | .bool _,_=>rfl
 | .int _ _,_=>rfl
 | .str _,_=>rfl
 | .ptr none,_=>rfl
 | .ptr (some _),h=>by cases h
 | .dx none _ _ _,_=>rfl
 | .dx (some _) _ _ _,h=>by cases h
 | .map none,_=>rfl
 | .map (some _),h=>by cases h
 | .kT,_=>rfl
 | .nilIface,_=>rfl
 | .dV _ _ _,_=>rfl
 | .eK _,_=>rfl
 | .fn f a c,h=>by
   simp only[V.deep,aE]at h;obtain⟨X,h2,h3⟩:=h;simp only[V.rn,pJ a h2,pJ c h3];cases f<;>first|rfl|cases X
 | .iface t x,h=>by simp only[V.deep]at h;simp only[V.rn,Hv x h]
 | .agg Q,h=>by simp only[V.deep]at h;simp only[V.rn,pJ Q h]
 | .ew Q,h=>by simp only[V.deep]at h;simp only[V.rn,pJ Q h]
theorem pJ{ν:Nat->Option Nat}:∀(v:ag),V.rC v=true->V.Ey ν v=some v
 | [],_=>rfl
 |x::xs,h=>by
  simp only[V.rC,aE]at h;simp only[V.Ey,Hv x h.1,pJ xs h.2]
end
def E5(sp:ag->ag->Option (ah×V×ag)):ag->H rs->Nat->Option (ah×V×H rs×Nat):=fun args h n=>match args with
 | .ptr (some (m,0))::rest=>match h.get m with
   |some (.cells Q)=>match(Nat.ble gN m&&Nat.blt m fW)&&(V.rC Q&&V.rC rest)with
    |true=>match sp Q rest with
     |some (cU,v,vK)=>match V.deep v&&V.rC vK with
      |true=>some (cU,v,h.set m (some (.cells vK)),n)
      |false=>none
     |none=>none
    |false=>none
   |_=>none
 |_=>none
def Sr(m:Nat):List (Option Nat):=(List.range gN).map some++[some m]
theorem wY(m j:Nat):(Sr m).getD j none=if j<gN then some j else if j=gN then some m else none:=by
 unfold Sr;rw[aO,bU];simp only[bf,List.length_range,bu];split
 . rename_i h;simp[List.getElem?_range h]
 . rename_i h;split
   . rename_i e;subst e;simp
   . rename_i e;have:([some m]:List (Option Nat))[j-gN]? =none:=bS (by simp;omega);rw[this];rfl
theorem Nr(m:Nat):(Sr m).length=gN+1:=by simp[Sr]
theorem yp:∀(l:List (Option Nat)),(∀i j k,l.getD i none=some k->l.getD j none=some k->i=j)->nQ l=true
 | [],_=>rfl
 |none::r,h=>by
  simp only[nQ];exact yp r fun i j k hi hj=>by have:=h (i+1) (j+1) k (by simpa using hi) (by simpa using hj);omega
 |some x::r,h=>by
  simp only[nQ,aE];refine⟨?_,yp r fun i j k hi hj=>by have:=h (i+1) (j+1) k (by simpa using hi) (by simpa using hj);omega⟩;rw[Bool.not_eq_true'];rw[List.any_eq_false];intro y hy;cases y with
  |none=>simp
  |some z=>
   simp only;intro q;have hz:=aG q;subst hz;obtain⟨i,hi,he⟩:=List.getElem_of_mem hy;have:=h 0 (i+1) x (by simp) (by simp[az hi,he]);omega
def abL:Prop:=(∀p∈kf,p.2<gN)/\(∀j,j<gN->∃p∈kf,p.2=j)/\gN<fW
def hP(Q:ag):H rs:=H.nil.set gN (some (.cells Q))
theorem LQ(ht:gN<fW)(Q:ag)(j:Nat):(hP Q).get j=if j=gN then some (.cells Q)else none:=by
 unfold hP;rw[H.eY _ _ _ ht];split<;>rfl
theorem Ss(hg:abL){h:H rs}{m:Nat}{Q:ag}(W:gN<=m)(J:h.get m=some (.cells Q))(hd:V.rC Q=true):vS (Sr m) h (hP Q):=by
 obtain⟨g1,g2,g3⟩:=hg;refine⟨fun p hp=>?_,?_,fun j k hj=>?_,fun j o hj=>?_⟩
 . rw[wY,aF (g1 p hp)]
 . refine yp _ fun i j k hi hj=>?_;rw[wY]at hi hj;split at hi<;>split at hj
   . simp only[an]at hi hj;omega
   . split at hj
     . simp only[an]at hi hj;omega
     . cases hj
   . split at hi
     . simp only[an]at hi hj;omega
     . cases hi
   . split at hi
     . split at hj
       . omega
       . cases hj
     . cases hi
 . rw[wY]at hj;split at hj
   . rename_i fH;obtain rfl:=eE hj;exact .inl (g2 j fH)
   . split at hj
     . obtain rfl:=eE hj;exact .inr (by rw[J];simp)
     . cases hj
 . rw[LQ g3]at hj;split at hj
   . rename_i e;obtain rfl:=eE hj;refine⟨m,.cells Q,?_,J,?_⟩
     . rw[wY,aJ L,aF e]
     . simp only[rs.rn,pJ Q hd]
   . cases hj
theorem FZ{ν:Nat->Option Nat}{ns:List (Option Nat)}{X mO:H rs}:∀(i q:Nat) (h:H rs),(∀j,q<=j->j<q+i->X.get j=none)->pW ν ns X mO i q h=some h
 |0,_,_,_=>rfl
 |i+1,q,h,hn=>by
  unfold pW;rw[hn q (aC _) L];exact FZ i (q+1) h fun j X h2=>hn j L L
theorem Jz{ν:Nat->Option Nat}{ns:List (Option Nat)}{X mO:H rs}:∀(i k q:Nat) (h h2:H rs),pW ν ns X mO i q h=some h2->pW ν ns X mO (i+k) q h=pW ν ns X mO k (q+i) h2
 |0,k,q,h,h2,e=>by simp only[pW,an]at e;subst e;simp
 |i+1,k,q,h,h2,e=>by
  have nxt:∀h',pW ν ns X mO i (q+1) h'=some h2->pW ν ns X mO (i+k) (q+1) h'=pW ν ns X mO k (q+(i+1)) h2:=fun h' e'=>by
   have:=Jz i k (q+1) h' h2 e';rw[this];congr 1;omega
  generalize pW ν ns X mO k (q+(i+1)) h2=nx at nxt ⊢;rw[show i+1+k=(i+k)+1 by omega];unfold pW at e ⊢;split at e
  . split at e
    . split at e
      . split at e
        . split at e
          . split at e
            . split at e
              . exact nxt _ e
              . cases e
            . cases e
          . exact nxt _ e
        . cases e
      . cases e
    . exact nxt _ e
  . exact nxt _ e
theorem Co{P:Program}(W:P.follows .mixedOrders=true)(yd:l6 P=true)(hg:abL){f:FuncId}{fn:Func}{code:Code}{sp:ag->ag->Option (ah×V×ag)}(fH:f<P.funcs.size)(hf:P.funcs[f]? =some fn)(hb:fn.body=some code)
  (hT:∀Q args cU v vK,sp Q args=some (cU,v,vK)->(∀a∈cU,a)->(Nat.ble (args.length+1) fn.ntmps&&Nat.blt fn.ntmps fW)=true/\TG P (gN+1) fn.ntmps code (cZ (.ptr (some (gN,0))::args) (hP Q) (gN+1)) (fL P (gN+1) fn fun a b c=>a=v/\b=hP vK/\c=gN+1)):jK P f (E5 sp):=by
 refine⟨fH,fun args h n cU v h2 n2 e hA E w dm ra g hd J=>?_⟩;unfold E5 at e;split at e
 case h_2=>cases e
 rename_i m rest;split at e
 case h_2=>cases e
 rename_i Q pT;split at e
 case h_2=>cases e
 rename_i hbs;split at e
 case h_2=>cases e
 rename_i A1 v1 vK hsp;split at e
 case h_2=>cases e
 rename_i hv;simp only[an,aB]at e;obtain⟨rfl,rfl,rfl,rfl⟩:=e;simp only[aE]at hbs hv;obtain⟨⟨b1,b2⟩,b3,b4⟩:=hbs;have b1:gN<=m:=ax b1;have b2:m<fW:=ax b2;obtain⟨l,hTG⟩:=hT Q rest A1 v1 vK hsp hA;have hg3:=hg.2.2;have hk:=Ss hg b1 pT b3;have hmu:mu (Sr m) m=some gN:=by
  have hn:=pG hk.one;have:∀(l:List (Option Nat)) (j0 i k:Nat),l.getD i none=some k->(∀i',i'<i->l.getD i' none≠some k)->AR l j0 k=some (j0+i):=by
   intro l
   induction l with
   |nil=>intro j0 i k h;simp at h
   |cons x l ih=>
    intro j0 i k h fS;cases i with
    |zero=>
     have h:x=some k:=by simpa using h
     subst h;simp only[AR,cP];rfl
    |succ i=>
     have ih:=ih (j0+1) i k (by simpa using h) (fun i' hi=>by have:=fS (i'+1) L;simpa using this);have h0:=fS 0 L;have e:j0+1+i=j0+(i+1):=by omega
     cases x with
     |none=>simp only[AR,ih,e]
     |some q=>
      have:Nat.beq q k=false:=by
       cases z:Nat.beq q k with
       |false=>rfl
       |true=>exact absurd (by simp[aG z]) h0
      simp only[AR,this,ih,e]
  have h0:(Sr m).getD gN none=some m:=by rw[wY,aJ L,aF rfl]
  have:=this (Sr m) 0 gN m h0 fun i hi q=>by have:=hn i gN m q h0;omega
  simpa using this
 have hgN:=LQ hg3 Q;have am6:=LQ hg3 vK;have he:EU (Sr m) (hP Q) (v1,hP vK,gN+1) h n=some (v1,h.set m (some (.cells vK)),n):=by
  unfold EU;simp only[Hv v1 hv.1,Nr,Nat.sub_self,Lj,Nat.add_zero];have e1:pW (VU (Sr m) (hP vK) (gN+1) n) (Sr m) (hP Q) (hP vK) gN 0 h=some h:=FZ _ _ _ fun j _ hj=>by rw[hgN,aJ L]
  rw[Jz gN 1 0 h h e1];unfold pW;rw[bI,hgN gN,aF rfl];simp only[rs.wr,wY,aJ (cB gN),if_true,am6 gN,Nat.blt];rw[Nat.ble_eq_true_of_le b2];simp only[rs.rn,pJ vK hv.2,pW]
 refine FR W yd hf hb l hk (ot:=.ptr (some (gN,0))::rest) ?_ he (by rw[Nr];exact hTG) ra g hd;simp only[V.Ey,V.rn,hmu,pJ rest b4]
def gI(P:Program)(I rt:Nat)(s fr:St):Prop:=∀c cs,TG P I rt c fr cs->TG P I rt c s cs
section
variable{P:Program}{I rt:Nat}{s s1 fr:St}
theorem gI.refl:gI P I rt s s:=fun _ _ h=>h
theorem gI.trans(X:gI P I rt s s1)(h2:gI P I rt s1 fr):gI P I rt s fr:=fun c cs h=>X c cs (h2 c cs h)
theorem gI.norm{live:List Nat}(e:fe I live s=some fr):gI P I rt s fr:=fun _ _ h=>dh e h
theorem gI.deep(l:List Nat)(e:Dz l s=some fr):gI P I rt s fr:=fun _ _ h=>wV l e h
theorem gI.own(l:List (Nat×IntKind))(e:Le l s=some fr):gI P I rt s fr:=fun _ _ h=>uo l e h
theorem gI.map(l:List (Nat×Option IntKind))(e:RX l s=some fr):gI P I rt s fr:=fun _ _ h=>AP l e h
end
theorem ju{P:Program}{I rt:Nat}{c:Code}{s:St}{cs:Exit->St->Prop}(b m:Nat)(fr:Nat->St)(J:Ch c b=true)(hl:Dm (dD c)=true)(h0:gI P I rt s (fr 0))
  (hb:∀i,i<m->TG P I rt (dD (dD c)) (fr i) (andThen (fun s'=>gI P I rt s' (fr (i+1))) (mK b cs)))
  (he:TG P I rt (dD (dD c)) (fr m) (fun y s'=>y≠ .normal/\mK b cs y s')):TG P I rt c s cs:=by
 refine fk J (gw (fun k s=>∃i,k=m-i/\i<=m/\gI P I rt s (fr i)) hl ?_ m ⟨0,rfl,aX _,h0⟩);rintro k s1 ⟨i,hk,hi,fQ⟩;refine fQ _ _ ?_;rcases bO i m with fH|AE
 . refine fB (hb i fH) fun y s' h=>?_;cases y with
   |normal=>exact⟨m-(i+1),L,i+1,rfl,L,h⟩
   |_=>exact h
 . obtain rfl:i=m:=by omega
   refine fB he fun y s' h=>?_;cases y with
   |normal=>exact absurd rfl h.1
   |_=>exact h.2
section
variable{α:Type}{g a b:α}
theorem jz{P:Program}{I rt:Nat}{c:Code}{s:St}{cs:Exit->St->Prop}(b:Nat)(μ:α->Nat)(n0:α->Prop)(fr:α->St)(J:Ch c b=true)(hl:Dm (dD c)=true)(x0:α)(i0:n0 x0)(h0:gI P I rt s (fr x0))
  (hb:∀x,n0 x->TG P I rt (dD (dD c)) (fr x) (andThen (fun s'=>∃x',μ x'<μ x/\n0 x'/\gI P I rt s' (fr x')) (mK b cs))):TG P I rt c s cs:=by
 refine fk J (gw (fun k s=>∃x,k=μ x/\n0 x/\gI P I rt s (fr x)) hl ?_ (μ x0) ⟨x0,rfl,i0,h0⟩);rintro k s1 ⟨x,hk,hi,fQ⟩;refine fQ _ _ ?_;refine fB (hb x hi) fun y s' h=>?_;cases y with
 |normal=>
  obtain⟨x',X,h2,h3⟩:=h;exact⟨μ x',L,x',rfl,h2,h3⟩
 |_=>exact h
theorem abM(h:g∈[a]):g=a:=au.1 h
theorem jh(h:g∈[a,b]):g=a\/g=b:=(aD.1 h).imp id abM
theorem xl{c:α}(h:g∈[a,b,c]):g=a\/g=b\/g=c:=(aD.1 h).imp id jh
theorem age{c d:α}(h:g∈[a,b,c,d]):g=a\/g=b\/g=c\/g=d:=(aD.1 h).imp id xl
end
theorem G{p:Prop}{l:ah}(h:p)(t:∀a∈l,a):∀a∈p::l,a:=cA.2 ⟨h,t⟩
theorem eS{p:Prop}(h:p):∀a∈[p],a:=G h fun _ h=>absurd h aN
def Wa(f0:FuncId)(Ns:ag)(h0:H rs)(I:Nat)(v:V)(X:H rs)(n1:Nat)(fr:jY):jY:=fun f args h n=>match Nat.beq f f0 with
 |true=>some ([args=Ns/\h=h0/\n=I],v,X,n1)
 |false=>fr f args h n
theorem Nt{P:Program}{f0:FuncId}{Ns:ag}{h0:H rs}{I:Nat}{v:V}{X:H rs}{n1:Nat}{fr:jY}(fH:f0<P.funcs.size)(J:c5 P f0 Ns h0 I v X n1)(hS:gm P fr):gm P (Wa f0 Ns h0 I v X n1 fr):=by
 intro f args h n cU v' h' n' e;unfold Wa at e;split at e
 . rename_i hb;have hb:=aG hb;subst hb;simp only[an,aB]at e;obtain⟨rfl,rfl,rfl,rfl⟩:=e;refine⟨fH,fun hA E w dm ra g hd _=>?_⟩;obtain⟨rfl,rfl,rfl⟩:=hA _ (au.2 rfl);exact J E w dm ra g hd
 . exact hS f args h n cU v' h' n' e
def Nu(P:Program)(I:Nat)(fn:Func)(live:List Nat)(b:Nat)(p:h1×St):od:=match p.1 with
 | .exit i=>match Nat.beq i b with
   |true=>match Lc P I fn p.2 with
    |some (v,h,n)=>.ret v h n
    |none=>.bad
   |false=>.bad
 |_=>vQ P I fn live p
def abN(P:Program)(Q:e9)(Tr:List (Nat×pC))(fl I:Nat)(fn:Func)(live:List Nat)(b:Nat)(c:Code)(s:St):Option (ag×ag×List (List (Bool×Bool)×ah×od)):=
 match kB P Q Tr fl c s with
 |some l=>some (ru l,vN l,vM (Nu P I fn live b) l)
 |none=>none
abbrev zP(P:Program)(Q:e9)(Tr:List (Nat×pC))(fl I:Nat)(fn:Func)(live:List Nat)(b:Nat)(c:Code)(s:St)(be:ag)(fm:List (List (Bool×Bool)×ah×od)):Prop:=abN P Q Tr fl I fn live b c s=some (be,be,fm)
theorem zP.of{P:Program}{Q:e9}{Tr:List (Nat×pC)}{fl I:Nat}{fn:Func}{live:List Nat}{b:Nat}{c:Code}{s:St}{fm:List (List (Bool×Bool)×ah×od)}(X:xD P Q Tr fl c s=true)(h2:xj P Q Tr fl c s=zE P Q Tr fl c s)
  (h3:vM (Nu P I fn live b) (zA (kB P Q Tr fl c s))=fm):∃be,zP P Q Tr fl I fn live b c s be fm:=by
 obtain⟨l,hl⟩:=cm.1 X;unfold xj zE at h2;rw[hl]at h2 h3;simp only[zA]at h2 h3;exact⟨ru l,by simp only[zP,abN,hl,h3,<- h2]⟩
theorem Su{P:Program}{I rt:Nat}{c:Code}{s:St}{cs:Exit->St->Prop}{Tr:List (Nat×pC)}{fl:Nat}{fn:Func}{live:List Nat}{be:ag}{fm:List (List (Bool×Bool)×ah×od)}(b:Nat)(X':CX P)(W:P.follows .mixedOrders=true)(nx:V->H rs->Nat->Prop)(J:fb rt c=true)(hr:zP P X'.Q Tr fl I fn live b c s be fm)
  (hQ:∀s',fL P I fn nx .normal s'->cs (.exit b) s') (h:∀g∈fm,(∀b∈g.1,b.1=b.2)->(∀a∈g.2.1,a)/\g.2.2.post P I fn live nx cs):TG P I rt c s cs:=by
 unfold zP abN at hr;cases hl:kB P X'.Q Tr fl c s with
 |none=>rw[hl]at hr;cases hr
 |some l=>
  rw[hl]at hr;simp only[an,aB]at hr;obtain⟨e1,e2,e3⟩:=hr;refine Ld (X':=X') W J hl fun p hp ho=>?_;have hg:=h (p.1.conds,p.1.VL,Nu P I fn live b p.2) (e3▸sY hp) ho;refine⟨⟨zB l (e1.trans e2.symm) p hp,hg.1⟩,?_⟩;obtain⟨pp,x,s'⟩:=p;have iT:=hg.2;simp only[Nu]at iT;cases x with
  |normal=>
   simp only[vQ]at iT;split at iT
   . rename_i s2 gY;exact⟨.normal,rfl,iT s' gY⟩
   . exact iT.elim
  |exit i=>
   simp only at iT;split at iT
   . rename_i hb;have hb:=aG hb;subst hb;split at iT
     . rename_i v h n hr;exact⟨.exit i,rfl,hQ s' ⟨.inl rfl,v,h,n,hr,iT.1⟩⟩
     . exact iT.elim
   . exact iT.elim
  |ret=>
   simp only[vQ]at iT;split at iT
   . rename_i v h n hr;exact⟨.ret,rfl,iT.2 s' ⟨.inr rfl,v,h,n,hr,iT.1⟩⟩
   . exact iT.elim
  |panic _=>exact iT.elim
theorem Pr{h h0:H rs}(hh:∀k,h.get k=h0.get k)(m:Nat):eG h m↔eG h0 m:=by unfold eG;rw[hh m]
theorem c5.ext{P:Program}{f:FuncId}{args:ag}{h h0 X h2:H rs}{n n1:Nat}{v:V}(hh:∀k,h.get k=h0.get k)(hk:∀k,X.get k=h2.get k)(c:c5 P f args h0 n v h2 n1):c5 P f args h n v X n1:=by
 intro E w dm ra g hd;refine(c E w dm ra (g.ext fun k=>(hh k).symm) hd).mono fun e w' ⟨E',u,q1,q2,q3,q4⟩=>⟨E',?_,q1,q2,q3,q4⟩;have u:=u.ext hk;have hw:=Pr hh;exact⟨u.le,u.good,u.size,u.tape,u.os,u.output,fun b hb W=>u.keep b hb fun m s h=>W m s ((hw m).2 h),fun m b s X h2 h3=>by
  obtain⟨m0,s0,a1,a2,a3⟩:=u.uF m b s X h2 h3;exact⟨m0,s0,by rw[hh];exact a1,a2,fun h=>(hw m0).2 (a3 h)⟩,fun b c h=>by
  rcases u.Eu b c h with h|h|⟨m,s,X,h2⟩
  . exact .inl h
  . exact .inr (.inl h)
  . exact .inr (.inr ⟨m,s,(hw m).2 X,h2⟩)⟩
theorem Nv{l:af}{rt k:Nat}(hl:∀p∈l,p.1<rt)(hN:rt<=fW)(hk:rt<=k):(K l).get k=none:=by
 cases e:(K l).get k with
 |none=>rfl
 |some o=>
  rcases Cm l .nil k o (fun p hp=>bC (hl p hp) hN) e with h|h
  . cases h
  . have:=hl _ h;simp only at this;omega
theorem Wb{l l0:af}{a b rt:Nat}(hl:(l.all fun p=>Nat.blt p.1 rt)=true)(vt:(l0.all fun p=>Nat.blt p.1 rt)=true)(hN:rt<=fW)(ha:a<rt)(hb:b<rt)(hk:∀k,k<rt->(((K l).set a none).set b none).get k=(K l0).get k):∀k,(((K l).set a none).set b none).get k=(K l0).get k:=by
 have e:∀{l:af},(l.all fun p=>Nat.blt p.1 rt)=true->∀p∈l,p.1<rt:=fun h p hp=>ax (bt.1 h p hp);intro k;rcases bO k rt with h|h
 . exact hk k h
 . rw[Nv (e vt) hN h,H.eY _ _ _ L,aJ L,H.eY _ _ _ L,aJ L,Nv (e hl) hN h]
end Go.Eng
