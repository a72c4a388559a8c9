/- The engine, part PM: names moved above a line. No conditions: lemmas alone. -/
import Derived.Test.YtfihojpgobmmdaaGreatDoorJointW16
set_option linter.unusedVariables false
set_option linter.unusedSimpArgs false
set_option linter.unusedSectionVars false
namespace Go.Eng
open Go Go.RowKit
def zE(back:Tr Nat):Nat->Bool
 |0=>true
 |k+1=>(match back.get k with|some m=>Nat.beq m k|none=>false)&&zE back k
theorem w8{back:Tr Nat}:∀{k:Nat},zE back k=true->∀m,m<k->back.get m=some m
 |0,_,m,hm=>by omega
 |k+1,h,m,hm=>by
  simp only[zE,aC]at h;by_cases e:m=k
  . subst e;cases q:back.get m with
    |none=>rw[q]at h;cases h.1
    |some j=>rw[q]at h;rw[aD h.1]
  . exact w8 h.2 m be
def Jn(n0 lo:Nat)(live:List Nat)(s:St):Option St:=
 match Nat.ble n0 s.n&&Nat.ble lo n0 with
 |false=>none
 |true=>match Mw s.h 100000 (CN s.h lo (r7 s.fr live++CP s.gz [])) (Zs lo) (KB n0) n0 with
  |some (ρ,pQ,k)=>
   let back:=xE pQ k .nil
   let ν:=dN ρ back k
   match(zE back n0&&Nat.ble n0 k)&&Nat.ble gN n0 with
   |true=>match CO ν s.h (pQ.filter fun m=>(ρ.get m).isSome) .nil with
    |some h2=>match xG ν s.fr live .nil with
     |some xB=>match Oh ν s.gz with
      |some d2=>some { fr:=xB,h:=h2,n:=k,gz:=d2 }
      |none=>none
     |none=>none
    |none=>none
   |false=>none
  |none=>none
theorem Jo{n0 lo N:Nat}{live:List Nat}{s s2:St}{E:Env}{a:Act}{w:World}(e:Jn n0 lo live s=some s2)(r:jV E N s a w):n0<=s.n/\n0<=s2.n/\∃E2,jV E2 N s2 a w/\lH n0 E s.h w E2 s2.h w:=by
 unfold Jn at e;split at e
 . cases e
 rename_i hn;simp only[aC]at hn;split at e
 case h_2=>cases e
 rename_i ρ pQ k ht;revert e;generalize ad1:xE pQ k .nil=back;intro e;simp only at e;split at e
 case h_2=>cases e
 rename_i fK;simp only[aC]at fK;split at e
 case h_2=>cases e
 rename_i h2 hh;split at e
 case h_2=>cases e
 rename_i xB ya;split at e
 case h_2=>cases e
 rename_i d2 Gl;simp only[an]at e;subst e
 let E2:Env:=⟨fun m=>if m<k then(match back.get m with|some old=>E.ι old|none=>none)else none,E.β,E.φ⟩
 have jb:∀m j,dN ρ back k m=some j->E2.ι j=E.ι m:=by
  intro m j hj;obtain⟨_,h2,h3⟩:=A3 hj;show(if j<k then(match back.get j with|some old=>E.ι old|none=>none)else none)=_;rw[aG h3,h2]
 have hk:n0<=k:=au fK.1.2;have yF:∀m,m<n0->E2.ι m=E.ι m:=fun m hm=>by
  show(if m<k then(match back.get m with|some old=>E.ι old|none=>none)else none)=_;rw[aG (bD hm hk),w8 fK.1.1 m hm]
 have N8:=tr _ .nil h2 hh (fun j o hj=>by simp[Tr.get]at hj);have qw:Good E2 h2 w:=by
  refine⟨?_,?_,?_,fun p hp=>(yF _ (bD (BG hp) (au fK.2))).trans (r.good.jm p hp),fun b c q=>⟨(r.good.gM b c q).1,fun m s1 hm e1=>?_⟩⟩
  case refine_4=>
   obtain⟨o,ho,Zt⟩:=hm;obtain⟨old,p,k1,k2,k3⟩:=N8 m o ho;rw[jb old m k1]at e1;exact(r.good.gM b c q).2 old s1 ⟨p,k2,(A4 k3).symm.trans Zt⟩ e1
  . intro m o2 hm;obtain⟨old,o,k1,k2,k3⟩:=N8 m o2 hm;obtain⟨b,s',e1,e2⟩:=r.good.rel old o k2;exact⟨b,s',(jb old m k1).trans e1,BH jb (fun _ _ _ _ _ _=>rfl) (fun _ _ q=>q) rfl o o2 k3 e2⟩
  . intro m m' b s1 s2 fP hm sW e1 e2;obtain⟨o,ho,Zt⟩:=hm;obtain⟨o',D9⟩:=bg.1 sW;obtain⟨old,p,k1,k2,k3⟩:=N8 m o ho;obtain⟨Bs,p',UC,k2',_⟩:=N8 m' o' D9;rw[jb old m k1]at e1;rw[jb Bs m' UC]at e2;by_cases oA:old=Bs
    . subst oA;rw[k1]at UC;simp only[an]at UC;exact fP UC
    . exact r.good.inj old Bs b s1 s2 oA ⟨p,k2,(A4 k3).symm.trans Zt⟩ (by rw[k2'];simp) e1 e2
  . intro m b s1 e1;have e1:(if m<k then(match back.get m with|some old=>E.ι old|none=>none)else none)=some (b,s1):=e1;split at e1
    . split at e1
      . exact r.good.mU _ b s1 e1
      . cases e1
    . cases e1
 refine⟨au hn.1,hk,E2,⟨qw,?_,?_,r.size,?_⟩,?_⟩
 . intro m hm;show(if m<k then _ else none)=none;rw[aI (by show ¬m<k;have:k<=m:=hm;omega)]
 . intro t v2 hv;obtain⟨v,k1,k2⟩:=qW live .nil xB ya (fun j o hj=>by simp[Tr.get]at hj) t v2 hv;obtain⟨v',h1,h2⟩:=r.fr t v k1;exact⟨v',h1,tn jb (fun _ _ _ _ _ _=>rfl) (fun _ _ q=>q) v v2 v' k2 h2⟩
 . exact CQ jb _ _ _ Gl r.gz
 . refine⟨fun m b s1 hm e1=>⟨(yF m hm).trans e1,rfl⟩,yF,fun _ _ q=>q,qw,aA _,rfl,rfl,rfl,fun _ _ _=>rfl,?_,fun _ _ q=>.inl q⟩;intro m b s1 hm e1 hb;obtain⟨o,ho⟩:=bg.1 hm;obtain⟨old,p,k1,k2,k3⟩:=N8 m o ho;rw[jb old m k1]at e1;refine⟨old,s1,by rw[k2];simp,e1,fun⟨o',q1,q2⟩=>⟨p,k2,?_⟩⟩;rw[ho]at q1;cases q1;exact(A4 k3).symm.trans q2
def Step(n0:Nat)(s s2:St):Prop:=∀N E a w,jV E N s a w->n0<=s.n->n0<=s2.n/\∃E2,jV E2 N s2 a w/\lH n0 E s.h w E2 s2.h w
theorem Step.refl{n0:Nat}{s:St}:Step n0 s s:=fun _ E _ _ r hn=>⟨hn,E,r,.refl r.good⟩
theorem Step.trans{n0:Nat}{s s1 s2:St}(a:Step n0 s s1)(b:Step n0 s1 s2):Step n0 s s2:=fun N E c w r hn=>by
 obtain⟨h1,E1,r1,u1⟩:=a N E c w r hn;obtain⟨h2,E2,r2,u2⟩:=b N E1 c w r1 h1;exact⟨h2,E2,r2,u1.trans u2⟩
section
variable{n0:Nat}{s s2:St}
theorem Step.DD(lo:Nat){live:List Nat}(e:Jn n0 lo live s=some s2):Step n0 s s2:=fun _ _ _ _ r _=>(Jo e r).2
theorem Step.norm{live:List Nat}(e:eX n0 live s=some s2):Step n0 s s2:=fun _ _ _ _ r _=>(qX e r).2
theorem Step.mem{h2:Tr O}(hg:∀E w,Good E s.h w->Good E h2 w/\∀m,(h2.get m≠none↔s.h.get m≠none)/\(eC h2 m->eC s.h m)):Step n0 s { s with h:=h2 }:=fun N E a w r hn=>by
 obtain⟨g2,k2⟩:=hg E w r.good;exact⟨hn,E,⟨g2,r.nZ,r.fr,r.size,r.gz⟩,⟨fun _ _ _ _ e=>⟨e,rfl⟩,fun _ _=>rfl,fun _ _ q=>q,g2,aA _,rfl,rfl,rfl,fun _ _ _=>rfl,fun m b s1 hm e1 _=>⟨m,s1,(k2 m).1.1 hm,e1,(k2 m).2⟩,fun _ _ q=>.inl q⟩⟩
theorem Step.deep(l:List Nat)(e:C4 l s=some s2):Step n0 s s2:=by
 unfold C4 at e;split at e
 case h_2=>cases e
 rename_i h2 hh;obtain rfl:=ew e;exact Step.mem fun E w g=>qF l s.h h2 hh g
theorem Step.frz(ms:List Nat){A:ah}(e:XR ms s=some (A,s2))(hA:∀x∈A,x):Step n0 s s2:=fun N E a w r hn=>by
 obtain⟨E2,r2,u,xn,_⟩:=wh (n0:=n0) e hA r hn;exact⟨xn,E2,r2,u⟩
end
theorem Ng{P:Program}{n0 N:Nat}{c:Code}{s s2:St}{Q:Exit->St->Prop}(e:Step n0 s s2)(h:TG P n0 N c s2 Q):TG P n0 N c s Q:=by
 intro E a w K r hn k;obtain⟨xn,E2,r2,u2⟩:=e N E a w r hn;exact h E2 a w K r2 xn fun y s' E' a' w' q u pC r'=>k y s' E' a' w' q (u2.trans u) pC r'
theorem gu.step{P:Program}{n0 N:Nat}{s S:St}(e:Step n0 s S):gu P n0 N s S:=fun _ _ h=>Ng e h
def FA(v:V)(h:Tr O)(n:Nat):St:={ fr:=Tr.nil.set 0 (some v),h:=h,n:=n,gz:=[] }
theorem cU.step{P:Program}{f:FuncId}{args:ag}{h h1 h2:Tr O}{n n1 n2:Nat}{v v2:V}(c:cU P f args h n v h1 n1)(st:Step n (FA v h1 n1) (FA v2 h2 n2)):cU P f args h n v2 h2 n2:=by
 intro E w c9 ra g hd;refine(c E w c9 ra g hd).mono fun en w' ⟨E1,u,fK,Qr,DW,ho⟩=>?_;cases en with
 |panicked ch=>exact ho.elim
 |outgrown=>exact ho.elim
 |returned v'=>
  have hv:dF E1 v v':=ho;have r:jV E1 1 (FA v h1 n1) { tmps:=#[v'],defers:=[] } w':=by
   refine⟨u.good,Qr,fun t x hx=>?_,rfl,rfl⟩;have hx:(Tr.nil.set 0 (some v)).get t=some x:=hx;rw[Tr.eS _ _ _ (au dP)]at hx;split at hx
   . rename_i e0;subst e0;cases hx;exact⟨v',rfl,hv⟩
   . exact absurd hx (by simp[Tr.get])
  obtain⟨xn,E2,r2,u2⟩:=st 1 E1 _ w' r DW;obtain⟨x,hx,hv2⟩:=r2.fr 0 v2 (by show(Tr.nil.set 0 (some v2)).get 0=some v2;rw[Tr.eS _ _ _ (au dP),aG rfl]);have hx:some v'=some x:=hx;obtain rfl:=ew hx;exact⟨E2,((lH.of (n0:=n) u fK (aA _)).trans u2).qo hd,fun m hm=>(u2.low m hm).trans (fK m hm),r2.nZ,xn,hv2⟩
theorem cU.DD{P:Program}{f:FuncId}{args:ag}{h h1 h2:Tr O}{n n1 n2:Nat}{v v2:V}(lo:Nat)(c:cU P f args h n v h1 n1)(e:Jn n lo [0] (FA v h1 n1)=some (FA v2 h2 n2)):cU P f args h n v2 h2 n2:=c.step (.DD lo e)
theorem cU.nil{P:Program}{f:FuncId}{args:ag}{h h1:Tr O}{n n1 z:Nat}(b:Bool)(c:cU P f args h n (.di none 0 0 z) h1 n1):cU P f args h n (.dM b 0 []) h1 n1:=by
 intro E w c9 ra g hd;refine(c E w c9 ra g hd).mono fun en w' ⟨E1,u,fK,Qr,DW,ho⟩=>⟨E1,u,fK,Qr,DW,?_⟩;cases en with
 |panicked ch=>exact ho.elim
 |outgrown=>exact ho.elim
 |returned v'=>
  obtain⟨_,_,rfl⟩:0=0/\0=0/\v'= .slice none 0 0:=ho;exact⟨⟨none,0,[],rfl,aA _,rfl,fun _=>rfl,fun h=>absurd h (cF _)⟩,fun _=>⟨none,rfl⟩⟩
theorem S2{E:Env}{w:World}{b s:Nat}{el:TypeId}{t:aa}(k:Nat)(r:lY E w b s (.iX el false t)):lY E w b s (.iX el false (t.take k)):=by
 obtain⟨c,fz,xs,h1,h0,h2,h3,h4,h5⟩:=r;refine⟨c,fz,xs.take k,h1,h0,h2,⟨.inl (h3.2 rfl),h3.2⟩,?_,fun j x hx=>?_⟩
 . rw[<- h4];unfold eN;rw[cL]
 . rw[bL]at hx;split at hx
   . exact h5 j x hx
   . cases hx
theorem Step.trim{n0:Nat}{s:St}{m:Nat}{el:TypeId}{t:aa}(k:Nat)(ht:Nat.blt m fN=true)(hm:s.h.get m=some (.iX el false t)):Step n0 s { s with h:=s.h.set m (some (.iX el false (t.take k))) }:=
 Step.mem fun _ _ g=>sq (au ht) hm rfl (fun _ _ _ q=>S2 k q) g
def rbS(p i:Nat)(s:St):Option St:=match s.h.get p with
 |some (.cells cs)=>match cs[i]? with
  |some (.di (some (m,o)) cO cP jv)=>match s.h.get m with
   |some (.deep R)=>match(Nat.blt m fN&&Nat.blt p fN)&&(Nat.blt s.n fN&&Bool.not (Nat.beq p m))with
    |true=>some { s with h:=((s.h.set m none).set p (some (.cells (cs.set i (.di (some (s.n,0)) cO cO jv))))).set s.n (some (.deep ((R.drop o).take (cO*jv)))),n:=s.n+1 }
    |false=>none
   |_=>none
  |_=>none
 |_=>none
theorem Step.rb{n0:Nat}{s s2:St}(p i:Nat)(e:rbS p i s=some s2):Step n0 s s2:=by
 unfold rbS at e;split at e
 case h_2=>cases e
 rename_i cs hp;split at e
 case h_2=>cases e
 rename_i m o cO _ jv hi;split at e
 case h_2=>cases e
 rename_i R hm;split at e
 case h_2=>cases e
 rename_i hb;simp only[aC,Bool.not_eq_true']at hb;obtain⟨⟨yS,Zo⟩,hnt,VR⟩:=hb;have yS:m<fN:=au yS;have Zo:p<fN:=au Zo;have hnt:s.n<fN:=au hnt;have VR:p≠m:=fun q=>by rw[q,cM]at VR;cases VR
 obtain rfl:=ew e;intro N E a w r hn;have g:=r.good;obtain⟨bm,sm,em,om⟩:=g.rel m _ hm;obtain⟨bp,sp,ep,op⟩:=g.rel p _ hp;have Ip:E.ι s.n=none:=r.nZ _ (aA _);have Ka:m≠s.n:=fun q=>by rw[q,Ip]at em;cases em
 have hpn:p≠s.n:=fun q=>by rw[q,Ip]at ep;cases ep
 let E2:Env:=⟨fun j=>if j=s.n then some (bm,sm+o)else E.ι j,E.β,E.φ⟩
 have e2n:E2.ι s.n=some (bm,sm+o):=aG rfl;have e2:∀j,j≠s.n->E2.ι j=E.ι j:=fun j hj=>aI hj;have kC:E.le E2:=⟨fun j b x hj=>⟨by
  rw[e2 j fun q=>by rw[q,Ip]at hj;cases hj];exact hj,rfl⟩,fun _ _ q=>q⟩
 have kH:∀j,(((s.h.set m none).set p (some (.cells (cs.set i (.di (some (s.n,0)) cO cO jv))))).set s.n (some (.deep ((R.drop o).take (cO*jv))))).get j=
   if j=s.n then some (.deep ((R.drop o).take (cO*jv)))else if j=p then some (.cells (cs.set i (.di (some (s.n,0)) cO cO jv)))else if j=m then none else s.h.get j:=fun j=>by
  rw[Tr.eS _ _ _ hnt,Tr.eS _ _ _ Zo,Tr.eS _ _ _ yS]
 have hor:∀j b x,(((s.h.set m none).set p (some (.cells (cs.set i (.di (some (s.n,0)) cO cO jv))))).set s.n (some (.deep ((R.drop o).take (cO*jv))))).get j≠none->E2.ι j=some (b,x)->∃j0 x0,s.h.get j0≠none/\E.ι j0=some (b,x0)/\(j=s.n->j0=m)/\(j≠s.n->j0=j/\j≠m):=by
  intro j b x hj ej;rw[kH]at hj;by_cases q:j=s.n
  . subst q;rw[e2n]at ej;simp only[an,aB]at ej;obtain⟨rfl,_⟩:=ej;exact⟨m,sm,by rw[hm];simp,em,fun _=>rfl,fun q=>absurd rfl q⟩
  . rw[e2 j q]at ej;rw[aI q]at hj;refine⟨j,x,?_,ej,fun q'=>absurd q' q,fun _=>⟨rfl,?_⟩⟩
    . by_cases q1:j=p
      . subst q1;rw[hp];simp
      . rw[aI q1]at hj;by_cases q2:j=m
        . rw[aG q2]at hj;exact absurd rfl hj
        . rw[aI q2]at hj;exact hj
    . intro q2;subst q2;rw[aI (fun q=>VR q.symm),aG rfl]at hj;exact absurd rfl hj
 have hw:∀j,eC (((s.h.set m none).set p (some (.cells (cs.set i (.di (some (s.n,0)) cO cO jv))))).set s.n (some (.deep ((R.drop o).take (cO*jv))))) j->j≠s.n->eC s.h j:=by
  rintro j ⟨x,hx,hxw⟩ q;rw[kH,aI q]at hx;by_cases q1:j=p
  . subst q1;exact⟨_,hp,rfl⟩
  . rw[aI q1]at hx;by_cases q2:j=m
    . rw[aG q2]at hx;cases hx
    . rw[aI q2]at hx;exact⟨x,hx,hxw⟩
 have XC:eC s.h m:=⟨_,hm,rfl⟩;have qw:Good E2 (((s.h.set m none).set p (some (.cells (cs.set i (.di (some (s.n,0)) cO cO jv))))).set s.n (some (.deep ((R.drop o).take (cO*jv))))) w:=by
  refine⟨fun j x hj=>?_,fun j j' b x x' fP hj QO e1 e1'=>?_,fun j b x ej=>?_,fun q hq=>kC.nm _ _ _ (g.jm q hq) |>.1,fun b c q=>⟨(g.gM b c q).1,fun j x hj ej=>?_⟩⟩
  . rw[kH]at hj;by_cases q:j=s.n
    . subst q;rw[aG rfl]at hj;obtain rfl:=ew hj;refine⟨bm,sm+o,e2n,?_⟩;obtain⟨c,el,fz,vs,h1,h2,h3,h4,h5⟩:=om;refine⟨c,el,fz,(vs.drop o).take (cO*jv),h1,h2,h3,sR (nP h4),fun k x hx=>?_⟩;rw[bL]at hx;split at hx
      . rw[bH]at hx;have:=h5 (o+k) x hx;rw[<- this];congr 1;omega
      . cases hx
    . rw[aI q]at hj;by_cases q1:j=p
      . subst q1;rw[aG rfl]at hj;obtain rfl:=ew hj;refine⟨bp,sp,by rw[e2 _ q];exact ep,?_⟩;obtain⟨c,el,fz,h1,h2,h3,h4⟩:=op;refine⟨c,el,fz,h1,h2,h3,fun k v hv=>?_⟩;rw[List.getElem?_set]at hv;split at hv
        . rename_i hik;subst hik;split at hv
          . obtain rfl:=ew hv;obtain⟨v',k1,b,s0,o',gj,q1,q2,q3,q4,q5,q6⟩:=h4 i _ hi;rw[em]at q1;simp only[an,aB]at q1;obtain⟨rfl,rfl⟩:=q1;exact⟨v',k1,bm,sm+o,o',gj,e2n,fun h0=>q2 (bD h0 q3),aA _,bU q3 q4,q5,q6⟩
          . cases hv
        . obtain⟨v',k1,k2⟩:=h4 k v hv;exact⟨v',k1,jl kC v v' k2⟩
      . rw[aI q1]at hj;split at hj
        . cases hj
        . obtain⟨b,x0,k1,k2⟩:=g.rel j x hj;exact⟨b,x0,by rw[e2 _ q];exact k1,ik kC rfl rfl k2⟩
  . have hj0:(((s.h.set m none).set p (some (.cells (cs.set i (.di (some (s.n,0)) cO cO jv))))).set s.n (some (.deep ((R.drop o).take (cO*jv))))).get j≠none:=by obtain⟨y,hy,_⟩:=hj;rw[hy];simp
    obtain⟨k,x1,a1,a2,a3,a4⟩:=hor j b x hj0 e1;obtain⟨k',x2,b1,b2,b3,b4⟩:=hor j' b x' QO e1';have hkw:eC s.h k:=by
     by_cases q:j=s.n
     . rw[a3 q];exact XC
     . rw[(a4 q).1];exact hw j hj q
    refine g.inj k k' b x1 x2 ?_ hkw b1 a2 b2;by_cases q:j=s.n
    . have q':j'≠s.n:=fun z=>fP (q.trans z.symm);rw[a3 q,(b4 q').1];exact fun z=>(b4 q').2 z.symm
    . by_cases q':j'=s.n
      . rw[(a4 q).1,b3 q'];exact(a4 q).2
      . rw[(a4 q).1,(b4 q').1];exact fP
  . by_cases q:j=s.n
    . rw[q,e2n]at ej;simp only[an,aB]at ej;obtain⟨rfl,_⟩:=ej;exact g.mU _ _ _ em
    . rw[e2 j q]at ej;exact g.mU _ _ _ ej
  . by_cases q2:j=s.n
    . rw[q2,e2n]at ej;simp only[an,aB]at ej;obtain⟨rfl,_⟩:=ej;exact(g.gM _ c q).2 m sm XC em
    . rw[e2 j q2]at ej;exact(g.gM b c q).2 j x (hw j hj q2) ej
 refine⟨Nat.le_succ_of_le hn,E2,⟨qw,fun j hj=>?_,jT kC r.fr,r.size,iU kC _ _ r.gz⟩,?_⟩
 . have hj:s.n+1<=j:=hj;rw[e2 j be];exact r.nZ j (Nat.le_of_succ_le hj)
 . refine⟨fun j b x _ ej=>kC.nm j b x ej,fun j hj=>e2 j be,fun _ _ q=>q,qw,aA _,rfl,rfl,rfl,fun _ _ _=>rfl,fun j b x hj ej _=>?_,fun _ _ q=>.inl q⟩;obtain⟨k,x1,a1,a2,a3,a4⟩:=hor j b x hj ej;refine⟨k,x1,a1,a2,fun z=>?_⟩;by_cases q:j=s.n
   . rw[a3 q];exact XC
   . rw[(a4 q).1];exact hw j z q
end Go.Eng
