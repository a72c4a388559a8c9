/- Lemmas of the engine. No conditions. -/
import Derived.Test.YtfihojpgobmmdaaGreatDoorJointW16
set_option linter.unusedVariables false
set_option linter.unusedSimpArgs false
set_option linter.unusedSectionVars false
namespace Go.Eng
open Go Go.RowKit
def zO(back:H Nat):Nat->Bool
 |0=>true
 |k+1=>(match back.get k with|some m=>Nat.beq m k|none=>false)&&zO back k
theorem xA{back:H Nat}:∀{k:Nat},zO back k=true->∀m,m<k->back.get m=some m
 |0,_,m,W=>by omega
 |k+1,h,m,W=>by
  simp only[zO,aC]at h;by_cases e:m=k
  . subst e;cases q:back.get m with
    |none=>rw[q]at h;cases h.1
    |some j=>rw[q]at h;rw[aD h.1]
  . exact xA h.2 m K
def Jv(M lo:Nat)(live:List Nat)(s:St):Option St:=
 match Nat.ble M s.n&&Nat.ble lo M with
 |false=>none
 |true=>match MA s.h 100000 (C0 s.h lo (sG s.S live++C3 s.gG [])) (ZS lo) (KJ M) M with
  |some (ρ,qh,k)=>
   let back:=xX qh k .nil
   let ν:=dw ρ back k
   match(zO back M&&Nat.ble M k)&&Nat.ble gN M with
   |true=>match C2 ν s.h (qh.filter fun m=>(ρ.get m).isSome) .nil with
    |some B=>match xZ ν s.S live .nil with
     |some xU=>match Oi ν s.gG with
      |some d2=>some { S:=xU,h:=B,n:=k,gG:=d2 }
      |none=>none
     |none=>none
    |none=>none
   |false=>none
  |none=>none
theorem Jw{M lo h1:Nat}{live:List Nat}{s s2:St}{E:Env}{a:Act}{w:World}(e:Jv M lo live s=some s2)(r:kf E h1 s a w):M<=s.n/\M<=s2.n/\∃E2,kf E2 h1 s2 a w/\lM M E s.h w E2 s2.h w:=by
 unfold Jv at e;split at e
 . cases e
 rename_i hn;simp only[aC]at hn;split at e
 case h_2=>cases e
 rename_i ρ qh k ht;revert e;generalize aek:xX qh k .nil=back;intro e;simp only at e;split at e
 case h_2=>cases e
 rename_i fQ;simp only[aC]at fQ;split at e
 case h_2=>cases e
 rename_i B hh;split at e
 case h_2=>cases e
 rename_i xU yp;split at e
 case h_2=>cases e
 rename_i d2 Gt;simp only[an]at e;subst e
 let E2:Env:=⟨fun m=>if m<k then(match back.get m with|some old=>E.ι old|none=>none)else none,E.β,E.φ⟩
 have jj:∀m j,dw ρ back k m=some j->E2.ι j=E.ι m:=by
  intro m j hj;obtain⟨_,B,h3⟩:=Bh hj;show(if j<k then(match back.get j with|some old=>E.ι old|none=>none)else none)=_;rw[aH h3,B]
 have hk:M<=k:=au fQ.1.2;have yQ:∀m,m<M->E2.ι m=E.ι m:=fun m W=>by
  show(if m<k then(match back.get m with|some old=>E.ι old|none=>none)else none)=_;rw[aH (bF W hk),xA fQ.1.1 m W]
 have Oa:=tL _ .nil B hh (fun j o hj=>by simp[H.get]at hj);have qN:Good E2 B w:=by
  refine⟨?_,?_,?_,fun p hp=>(yQ _ (bF (BT hp) (au fQ.2))).trans (r.good.jh p hp),fun b c q=>⟨(r.good.gQ b c q).1,fun m s1 W e1=>?_⟩⟩
  case refine_4=>
   obtain⟨o,ho,ZT⟩:=W;obtain⟨old,p,k1,k2,k3⟩:=Oa m o ho;rw[jj old m k1]at e1;exact(r.good.gQ b c q).2 old s1 ⟨p,k2,(Bi k3).symm.trans ZT⟩ e1
  . intro m o2 W;obtain⟨old,o,k1,k2,k3⟩:=Oa m o2 W;obtain⟨b,s',e1,e2⟩:=r.good.rel old o k2;exact⟨b,s',(jj old m k1).trans e1,BU jj (fun _ _ _ _ _ _=>rfl) (fun _ _ q=>q) rfl o o2 k3 e2⟩
  . intro m m' b s1 s2 fU W tr e1 e2;obtain⟨o,ho,ZT⟩:=W;obtain⟨o',Eo⟩:=bh.1 tr;obtain⟨old,p,k1,k2,k3⟩:=Oa m o ho;obtain⟨BE,p',UZ,k2',_⟩:=Oa m' o' Eo;rw[jj old m k1]at e1;rw[jj BE m' UZ]at e2;by_cases oT:old=BE
    . subst oT;rw[k1]at UZ;simp only[an]at UZ;exact fU UZ
    . exact r.good.inj old BE b s1 s2 oT ⟨p,k2,(Bi k3).symm.trans ZT⟩ (by rw[k2'];simp) e1 e2
  . intro m b s1 e1;have e1:(if m<k then(match back.get m with|some old=>E.ι old|none=>none)else none)=some (b,s1):=e1;split at e1
    . split at e1
      . exact r.good.mK _ b s1 e1
      . cases e1
    . cases e1
 refine⟨au hn.1,hk,E2,⟨qN,?_,?_,r.size,?_⟩,?_⟩
 . intro m W;show(if m<k then _ else none)=none;rw[aI (by show ¬m<k;have:k<=m:=W;omega)]
 . intro t v2 hv;obtain⟨v,k1,k2⟩:=rJ live .nil xU yp (fun j o hj=>by simp[H.get]at hj) t v2 hv;obtain⟨v',N,B⟩:=r.S t v k1;exact⟨v',N,tJ jj (fun _ _ _ _ _ _=>rfl) (fun _ _ q=>q) v v2 v' k2 B⟩
 . exact C4 jj _ _ _ Gt r.gG
 . refine⟨fun m b s1 W e1=>⟨(yQ m W).trans e1,rfl⟩,yQ,fun _ _ q=>q,qN,aA _,rfl,rfl,rfl,fun _ _ _=>rfl,?_,fun _ _ q=>.inl q⟩;intro m b s1 W e1 hb;obtain⟨o,ho⟩:=bh.1 W;obtain⟨old,p,k1,k2,k3⟩:=Oa m o ho;rw[jj old m k1]at e1;refine⟨old,s1,by rw[k2];simp,e1,fun⟨o',q1,q2⟩=>⟨p,k2,?_⟩⟩;rw[ho]at q1;cases q1;exact(Bi k3).symm.trans q2
def Step(M:Nat)(s s2:St):Prop:=∀h1 E a w,kf E h1 s a w->M<=s.n->M<=s2.n/\∃E2,kf E2 h1 s2 a w/\lM M E s.h w E2 s2.h w
theorem Step.refl{M:Nat}{s:St}:Step M s s:=fun _ E _ _ r hn=>⟨hn,E,r,.refl r.good⟩
theorem Step.trans{M:Nat}{s s1 s2:St}(a:Step M s s1)(b:Step M s1 s2):Step M s s2:=fun h1 E c w r hn=>by
 obtain⟨N,E1,r1,u1⟩:=a h1 E c w r hn;obtain⟨B,E2,r2,u2⟩:=b h1 E1 c w r1 N;exact⟨B,E2,r2,u1.trans u2⟩
section
variable{M:Nat}{s s2:St}
theorem Step.Ei(lo:Nat){live:List Nat}(e:Jv M lo live s=some s2):Step M s s2:=fun _ _ _ _ r _=>(Jw e r).2
theorem Step.norm{live:List Nat}(e:fa M live s=some s2):Step M s s2:=fun _ _ _ _ r _=>(rK e r).2
theorem Step.mem{B:H lf}(hg:∀E w,Good E s.h w->Good E B w/\∀m,(B.get m≠none↔s.h.get m≠none)/\(eE B m->eE s.h m)):Step M s { s with h:=B }:=fun h1 E a w r hn=>by
 obtain⟨g2,k2⟩:=hg E w r.good;exact⟨hn,E,⟨g2,r.oz,r.S,r.size,r.gG⟩,⟨fun _ _ _ _ e=>⟨e,rfl⟩,fun _ _=>rfl,fun _ _ q=>q,g2,aA _,rfl,rfl,rfl,fun _ _ _=>rfl,fun m b s1 W e1 _=>⟨m,s1,(k2 m).1.1 W,e1,(k2 m).2⟩,fun _ _ q=>.inl q⟩⟩
theorem Step.deep(l:List Nat)(e:Dh l s=some s2):Step M s s2:=by
 unfold Dh at e;split at e
 case h_2=>cases e
 rename_i B hh;obtain rfl:=ek e;exact Step.mem fun E w g=>qV l s.h B hh g
theorem Step.YT(ms:List Nat){cS:ah}(e:Yy ms s=some (cS,s2))(hA:∀x∈cS,x):Step M s s2:=fun h1 E a w r hn=>by
 obtain⟨E2,r2,u,xK,_⟩:=wH (M:=M) e hA r hn;exact⟨xK,E2,r2,u⟩
end
theorem No{P:Program}{M h1:Nat}{c:Code}{s s2:St}{es:Exit->St->Prop}(e:Step M s s2)(h:TG P M h1 c s2 es):TG P M h1 c s es:=by
 intro E a w be r hn k;obtain⟨xK,E2,r2,u2⟩:=e h1 E a w r hn;exact h E2 a w be r2 xK fun y s' E' a' w' q u pV r'=>k y s' E' a' w' q (u2.trans u) pV r'
theorem gF.step{P:Program}{M h1:Nat}{s fr:St}(e:Step M s fr):gF P M h1 s fr:=fun _ _ h=>No e h
def HN(v:V)(h:H lf)(n:Nat):St:={ S:=H.nil.set 0 (some v),h:=h,n:=n,gG:=[] }
theorem cW.step{P:Program}{f:FuncId}{args:ag}{h N B:H lf}{n n1 n2:Nat}{v v2:V}(c:cW P f args h n v N n1)(st:Step n (HN v N n1) (HN v2 B n2)):cW P f args h n v2 B n2:=by
 intro E w de ra g hd;refine(c E w de ra g hd).mono fun en w' ⟨E1,u,fQ,QB,Eb,ho⟩=>?_;cases en with
 |panicked ch=>exact ho.elim
 |outgrown=>exact ho.elim
 |returned v'=>
  have hv:dK E1 v v':=ho;have r:kf E1 1 (HN v N n1) { tmps:=#[v'],defers:=[] } w':=by
   refine⟨u.good,QB,fun t x G=>?_,rfl,rfl⟩;have G:(H.nil.set 0 (some v)).get t=some x:=G;rw[H.eY _ _ _ (au dU)]at G;split at G
   . rename_i e0;subst e0;cases G;exact⟨v',rfl,hv⟩
   . exact absurd G (by simp[H.get])
  obtain⟨xK,E2,r2,u2⟩:=st 1 E1 _ w' r Eb;obtain⟨x,G,hv2⟩:=r2.S 0 v2 (by show(H.nil.set 0 (some v2)).get 0=some v2;rw[H.eY _ _ _ (au dU),aH rfl]);have G:some v'=some x:=G;obtain rfl:=ek G;exact⟨E2,((lM.of (M:=n) u fQ (aA _)).trans u2).qG hd,fun m W=>(u2.low m W).trans (fQ m W),r2.oz,xK,hv2⟩
theorem cW.Ei{P:Program}{f:FuncId}{args:ag}{h N B:H lf}{n n1 n2:Nat}{v v2:V}(lo:Nat)(c:cW P f args h n v N n1)(e:Jv n lo [0] (HN v N n1)=some (HN v2 B n2)):cW P f args h n v2 B n2:=c.step (.Ei lo e)
theorem cW.nil{P:Program}{f:FuncId}{args:ag}{h N:H lf}{n n1 z:Nat}(b:Bool)(c:cW P f args h n (.dj none 0 0 z) N n1):cW P f args h n (.dS b 0 []) N n1:=by
 intro E w de ra g hd;refine(c E w de ra g hd).mono fun en w' ⟨E1,u,fQ,QB,Eb,ho⟩=>⟨E1,u,fQ,QB,Eb,?_⟩;cases en with
 |panicked ch=>exact ho.elim
 |outgrown=>exact ho.elim
 |returned v'=>
  obtain⟨_,_,rfl⟩:0=0/\0=0/\v'= .slice none 0 0:=ho;exact⟨⟨none,0,[],rfl,aA _,rfl,fun _=>rfl,fun h=>absurd h (cG _)⟩,fun _=>⟨none,rfl⟩⟩
theorem Tf{E:Env}{w:World}{b s:Nat}{el:TypeId}{t:L}(k:Nat)(r:l7 E w b s (.jf el false t)):l7 E w b s (.jf el false (t.take k)):=by
 obtain⟨c,fz,xs,N,h0,B,h3,h4,h5⟩:=r;refine⟨c,fz,xs.take k,N,h0,B,⟨.inl (h3.2 rfl),h3.2⟩,?_,fun j x G=>?_⟩
 . rw[<- h4];unfold eT;rw[cN]
 . rw[bP]at G;split at G
   . exact h5 j x G
   . cases G
theorem Step.trim{M:Nat}{s:St}{m:Nat}{el:TypeId}{t:L}(k:Nat)(ht:Nat.blt m fP=true)(W:s.h.get m=some (.jf el false t)):Step M s { s with h:=s.h.set m (some (.jf el false (t.take k))) }:=
 Step.mem fun _ _ g=>sL (au ht) W rfl (fun _ _ _ q=>Tf k q) g
def rbS(p i:Nat)(s:St):Option St:=match s.h.get p with
 |some (.cells C)=>match C[i]? with
  |some (.dj (some (m,o)) T A jC)=>match s.h.get m with
   |some (.deep nx)=>match(Nat.blt m fP&&Nat.blt p fP)&&(Nat.blt s.n fP&&Bool.not (Nat.beq p m))with
    |true=>some { s with h:=((s.h.set m none).set p (some (.cells (C.set i (.dj (some (s.n,0)) T T jC))))).set s.n (some (.deep ((nx.drop o).take (T*jC)))),n:=s.n+1 }
    |false=>none
   |_=>none
  |_=>none
 |_=>none
theorem Step.rb{M:Nat}{s s2:St}(p i:Nat)(e:rbS p i s=some s2):Step M s s2:=by
 unfold rbS at e;split at e
 case h_2=>cases e
 rename_i C hp;split at e
 case h_2=>cases e
 rename_i m o T _ jC hi;split at e
 case h_2=>cases e
 rename_i nx W;split at e
 case h_2=>cases e
 rename_i hb;simp only[aC,Bool.not_eq_true']at hb;obtain⟨⟨y8,ZP⟩,hnt,Wc⟩:=hb;have y8:m<fP:=au y8;have ZP:p<fP:=au ZP;have hnt:s.n<fP:=au hnt;have Wc:p≠m:=fun q=>by rw[q,cO]at Wc;cases Wc
 obtain rfl:=ek e;intro h1 E a w r hn;have g:=r.good;obtain⟨bm,sm,em,om⟩:=g.rel m _ W;obtain⟨bp,sp,ep,op⟩:=g.rel p _ hp;have Ix:E.ι s.n=none:=r.oz _ (aA _);have P6:m≠s.n:=fun q=>by rw[q,Ix]at em;cases em
 have hpn:p≠s.n:=fun q=>by rw[q,Ix]at ep;cases ep
 let E2:Env:=⟨fun j=>if j=s.n then some (bm,sm+o)else E.ι j,E.β,E.φ⟩
 have e2n:E2.ι s.n=some (bm,sm+o):=aH rfl;have e2:∀j,j≠s.n->E2.ι j=E.ι j:=fun j hj=>aI hj;have ku:E.le E2:=⟨fun j b x hj=>⟨by
  rw[e2 j fun q=>by rw[q,Ix]at hj;cases hj];exact hj,rfl⟩,fun _ _ q=>q⟩
 have kL:∀j,(((s.h.set m none).set p (some (.cells (C.set i (.dj (some (s.n,0)) T T jC))))).set s.n (some (.deep ((nx.drop o).take (T*jC))))).get j=
   if j=s.n then some (.deep ((nx.drop o).take (T*jC)))else if j=p then some (.cells (C.set i (.dj (some (s.n,0)) T T jC)))else if j=m then none else s.h.get j:=fun j=>by
  rw[H.eY _ _ _ hnt,H.eY _ _ _ ZP,H.eY _ _ _ y8]
 have hor:∀j b x,(((s.h.set m none).set p (some (.cells (C.set i (.dj (some (s.n,0)) T T jC))))).set s.n (some (.deep ((nx.drop o).take (T*jC))))).get j≠none->E2.ι j=some (b,x)->∃j0 x0,s.h.get j0≠none/\E.ι j0=some (b,x0)/\(j=s.n->j0=m)/\(j≠s.n->j0=j/\j≠m):=by
  intro j b x hj ej;rw[kL]at hj;by_cases q:j=s.n
  . subst q;rw[e2n]at ej;simp only[an,aB]at ej;obtain⟨rfl,_⟩:=ej;exact⟨m,sm,by rw[W];simp,em,fun _=>rfl,fun q=>absurd rfl q⟩
  . rw[e2 j q]at ej;rw[aI q]at hj;refine⟨j,x,?_,ej,fun q'=>absurd q' q,fun _=>⟨rfl,?_⟩⟩
    . by_cases q1:j=p
      . subst q1;rw[hp];simp
      . rw[aI q1]at hj;by_cases q2:j=m
        . rw[aH q2]at hj;exact absurd rfl hj
        . rw[aI q2]at hj;exact hj
    . intro q2;subst q2;rw[aI (fun q=>Wc q.symm),aH rfl]at hj;exact absurd rfl hj
 have hw:∀j,eE (((s.h.set m none).set p (some (.cells (C.set i (.dj (some (s.n,0)) T T jC))))).set s.n (some (.deep ((nx.drop o).take (T*jC))))) j->j≠s.n->eE s.h j:=by
  rintro j ⟨x,G,hxw⟩ q;rw[kL,aI q]at G;by_cases q1:j=p
  . subst q1;exact⟨_,hp,rfl⟩
  . rw[aI q1]at G;by_cases q2:j=m
    . rw[aH q2]at G;cases G
    . rw[aI q2]at G;exact⟨x,G,hxw⟩
 have Yo:eE s.h m:=⟨_,W,rfl⟩;have qN:Good E2 (((s.h.set m none).set p (some (.cells (C.set i (.dj (some (s.n,0)) T T jC))))).set s.n (some (.deep ((nx.drop o).take (T*jC))))) w:=by
  refine⟨fun j x hj=>?_,fun j j' b x x' fU hj Q4 e1 e1'=>?_,fun j b x ej=>?_,fun q hq=>ku.nm _ _ _ (g.jh q hq) |>.1,fun b c q=>⟨(g.gQ b c q).1,fun j x hj ej=>?_⟩⟩
  . rw[kL]at hj;by_cases q:j=s.n
    . subst q;rw[aH rfl]at hj;obtain rfl:=ek hj;refine⟨bm,sm+o,e2n,?_⟩;obtain⟨c,el,fz,vs,N,B,h3,h4,h5⟩:=om;refine⟨c,el,fz,(vs.drop o).take (T*jC),N,B,h3,tn (oh h4),fun k x G=>?_⟩;rw[bP]at G;split at G
      . rw[bJ]at G;have:=h5 (o+k) x G;rw[<- this];congr 1;omega
      . cases G
    . rw[aI q]at hj;by_cases q1:j=p
      . subst q1;rw[aH rfl]at hj;obtain rfl:=ek hj;refine⟨bp,sp,by rw[e2 _ q];exact ep,?_⟩;obtain⟨c,el,fz,N,B,h3,h4⟩:=op;refine⟨c,el,fz,N,B,h3,fun k v hv=>?_⟩;rw[List.getElem?_set]at hv;split at hv
        . rename_i hik;subst hik;split at hv
          . obtain rfl:=ek hv;obtain⟨v',k1,b,s0,o',gp,q1,q2,q3,q4,q5,q6⟩:=h4 i _ hi;rw[em]at q1;simp only[an,aB]at q1;obtain⟨rfl,rfl⟩:=q1;exact⟨v',k1,bm,sm+o,o',gp,e2n,fun h0=>q2 (bF h0 q3),aA _,bX q3 q4,q5,q6⟩
          . cases hv
        . obtain⟨v',k1,k2⟩:=h4 k v hv;exact⟨v',k1,js ku v v' k2⟩
      . rw[aI q1]at hj;split at hj
        . cases hj
        . obtain⟨b,x0,k1,k2⟩:=g.rel j x hj;exact⟨b,x0,by rw[e2 _ q];exact k1,gU ku rfl rfl k2⟩
  . have hj0:(((s.h.set m none).set p (some (.cells (C.set i (.dj (some (s.n,0)) T T jC))))).set s.n (some (.deep ((nx.drop o).take (T*jC))))).get j≠none:=by obtain⟨y,hy,_⟩:=hj;rw[hy];simp
    obtain⟨k,x1,a1,a2,a3,a4⟩:=hor j b x hj0 e1;obtain⟨k',x2,b1,b2,b3,b4⟩:=hor j' b x' Q4 e1';have hkw:eE s.h k:=by
     by_cases q:j=s.n
     . rw[a3 q];exact Yo
     . rw[(a4 q).1];exact hw j hj q
    refine g.inj k k' b x1 x2 ?_ hkw b1 a2 b2;by_cases q:j=s.n
    . have q':j'≠s.n:=fun z=>fU (q.trans z.symm);rw[a3 q,(b4 q').1];exact fun z=>(b4 q').2 z.symm
    . by_cases q':j'=s.n
      . rw[(a4 q).1,b3 q'];exact(a4 q).2
      . rw[(a4 q).1,(b4 q').1];exact fU
  . by_cases q:j=s.n
    . rw[q,e2n]at ej;simp only[an,aB]at ej;obtain⟨rfl,_⟩:=ej;exact g.mK _ _ _ em
    . rw[e2 j q]at ej;exact g.mK _ _ _ ej
  . by_cases q2:j=s.n
    . rw[q2,e2n]at ej;simp only[an,aB]at ej;obtain⟨rfl,_⟩:=ej;exact(g.gQ _ c q).2 m sm Yo em
    . rw[e2 j q2]at ej;exact(g.gQ b c q).2 j x (hw j hj q2) ej
 refine⟨Nat.le_succ_of_le hn,E2,⟨qN,fun j hj=>?_,j9 ku r.S,r.size,je ku _ _ r.gG⟩,?_⟩
 . have hj:s.n+1<=j:=hj;rw[e2 j K];exact r.oz j (Nat.le_of_succ_le hj)
 . refine⟨fun j b x _ ej=>ku.nm j b x ej,fun j hj=>e2 j K,fun _ _ q=>q,qN,aA _,rfl,rfl,rfl,fun _ _ _=>rfl,fun j b x hj ej _=>?_,fun _ _ q=>.inl q⟩;obtain⟨k,x1,a1,a2,a3,a4⟩:=hor j b x hj ej;refine⟨k,x1,a1,a2,fun z=>?_⟩;by_cases q:j=s.n
   . rw[a3 q];exact Yo
   . rw[(a4 q).1];exact hw j z q
end Go.Eng
