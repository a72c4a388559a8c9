/- The engine, part PM: names moved above a line. No conditions: lemmas alone. -/
import Derived.Test.YtfihojpgobmmdaaGreatDoorJointW16
set_option linter.unusedVariables false
set_option linter.unusedSimpArgs false
set_option linter.unusedSectionVars false
namespace Go.Eng
open Go Go.RowKit
def zy(back:Tr Nat):Nat->Bool
 |0=>true
 |k+1=>(match back.get k with|some m=>Nat.beq m k|none=>false)&&zy back k
theorem w6{back:Tr Nat}:∀{k:Nat},zy back k=true->∀m,m<k->back.get m=some m
 |0,_,m,hm=>by omega
 |k+1,h,m,hm=>by
  simp only[zy,aC]at h;by_cases e:m=k
  . subst e;cases q:back.get m with
    |none=>rw[q]at h;cases h.1
    |some j=>rw[q]at h;rw[aD h.1]
  . exact w6 h.2 m be
def Jd(n0 lo:Nat)(live:List Nat)(s:St):Option St:=
 match Nat.ble n0 s.n&&Nat.ble lo n0 with
 |false=>none
 |true=>match Mf s.h 100000 (CK s.h lo (rV s.fr live++CM s.gz [])) (Ze lo) (Kn n0) n0 with
  |some (ρ,pT,k)=>
   let back:=xC pT k .nil
   let ν:=dM ρ back k
   match(zy back n0&&Nat.ble n0 k)&&Nat.ble gN n0 with
   |true=>match CL ν s.h (pT.filter fun m=>(ρ.get m).isSome) .nil with
    |some h2=>match xE ν s.fr live .nil with
     |some xz=>match NU ν s.gz with
      |some d2=>some { fr:=xz,h:=h2,n:=k,gz:=d2 }
      |none=>none
     |none=>none
    |none=>none
   |false=>none
  |none=>none
theorem Je{n0 lo N:Nat}{live:List Nat}{s s2:St}{E:Env}{a:Act}{w:World}(e:Jd n0 lo live s=some s2)(r:jY E N s a w):n0<=s.n/\n0<=s2.n/\∃E2,jY E2 N s2 a w/\lB n0 E s.h w E2 s2.h w:=by
 unfold Jd at e;split at e
 . cases e
 rename_i hn;simp only[aC]at hn;split at e
 case h_2=>cases e
 rename_i ρ pT k ht;revert e;generalize adI:xC pT k .nil=back;intro e;simp only at e;split at e
 case h_2=>cases e
 rename_i fJ;simp only[aC]at fJ;split at e
 case h_2=>cases e
 rename_i h2 hh;split at e
 case h_2=>cases e
 rename_i xz x8;split at e
 case h_2=>cases e
 rename_i d2 Ge;simp only[an]at e;subst e
 let E2:Env:=⟨fun m=>if m<k then(match back.get m with|some old=>E.ι old|none=>none)else none,E.β,E.φ⟩
 have iY:∀m j,dM ρ back k m=some j->E2.ι j=E.ι m:=by
  intro m j hj;obtain⟨_,h2,h3⟩:=AW hj;show(if j<k then(match back.get j with|some old=>E.ι old|none=>none)else none)=_;rw[aG h3,h2]
 have hk:n0<=k:=au fJ.1.2;have yC:∀m,m<n0->E2.ι m=E.ι m:=fun m hm=>by
  show(if m<k then(match back.get m with|some old=>E.ι old|none=>none)else none)=_;rw[aG (bE hm hk),w6 fJ.1.1 m hm]
 have NM:=tr _ .nil h2 hh (fun j o hj=>by simp[Tr.get]at hj);have qx:Good E2 h2 w:=by
  refine⟨?_,?_,?_,fun p hp=>(yC _ (bE (BD hp) (au fJ.2))).trans (r.good.jj p hp),fun b c q=>⟨(r.good.gP b c q).1,fun m s1 hm e1=>?_⟩⟩
  case refine_4=>
   obtain⟨o,ho,Zf⟩:=hm;obtain⟨old,p,k1,k2,k3⟩:=NM m o ho;rw[iY old m k1]at e1;exact(r.good.gP b c q).2 old s1 ⟨p,k2,(AX k3).symm.trans Zf⟩ e1
  . intro m o2 hm;obtain⟨old,o,k1,k2,k3⟩:=NM m o2 hm;obtain⟨b,s',e1,e2⟩:=r.good.rel old o k2;exact⟨b,s',(iY old m k1).trans e1,BE iY (fun _ _ _ _ _ _=>rfl) (fun _ _ q=>q) rfl o o2 k3 e2⟩
  . intro m m' b s1 s2 fN hm sU e1 e2;obtain⟨o,ho,Zf⟩:=hm;obtain⟨o',D9⟩:=bf.1 sU;obtain⟨old,p,k1,k2,k3⟩:=NM m o ho;obtain⟨Bn,p',Un,k2',_⟩:=NM m' o' D9;rw[iY old m k1]at e1;rw[iY Bn m' Un]at e2;by_cases oD:old=Bn
    . subst oD;rw[k1]at Un;simp only[an]at Un;exact fN Un
    . exact r.good.inj old Bn b s1 s2 oD ⟨p,k2,(AX k3).symm.trans Zf⟩ (by rw[k2'];simp) e1 e2
  . intro m b s1 e1;have e1:(if m<k then(match back.get m with|some old=>E.ι old|none=>none)else none)=some (b,s1):=e1;split at e1
    . split at e1
      . exact r.good.mW _ b s1 e1
      . cases e1
    . cases e1
 refine⟨au hn.1,hk,E2,⟨qx,?_,?_,r.size,?_⟩,?_⟩
 . intro m hm;show(if m<k then _ else none)=none;rw[aI (by show ¬m<k;have:k<=m:=hm;omega)]
 . intro t v2 hv;obtain⟨v,k1,k2⟩:=qX live .nil xz x8 (fun j o hj=>by simp[Tr.get]at hj) t v2 hv;obtain⟨v',h1,h2⟩:=r.fr t v k1;exact⟨v',h1,tn iY (fun _ _ _ _ _ _=>rfl) (fun _ _ q=>q) v v2 v' k2 h2⟩
 . exact CN iY _ _ _ Ge r.gz
 . refine⟨fun m b s1 hm e1=>⟨(yC m hm).trans e1,rfl⟩,yC,fun _ _ q=>q,qx,aA _,rfl,rfl,rfl,fun _ _ _=>rfl,?_,fun _ _ q=>.inl q⟩;intro m b s1 hm e1 hb;obtain⟨o,ho⟩:=bf.1 hm;obtain⟨old,p,k1,k2,k3⟩:=NM m o ho;rw[iY old m k1]at e1;refine⟨old,s1,by rw[k2];simp,e1,fun⟨o',q1,q2⟩=>⟨p,k2,?_⟩⟩;rw[ho]at q1;cases q1;exact(AX k3).symm.trans q2
def Step(n0:Nat)(s s2:St):Prop:=∀N E a w,jY E N s a w->n0<=s.n->n0<=s2.n/\∃E2,jY E2 N s2 a w/\lB n0 E s.h w E2 s2.h w
theorem Step.refl{n0:Nat}{s:St}:Step n0 s s:=fun _ E _ _ r hn=>⟨hn,E,r,.refl r.good⟩
theorem Step.trans{n0:Nat}{s s1 s2:St}(a:Step n0 s s1)(b:Step n0 s1 s2):Step n0 s s2:=fun N E c w r hn=>by
 obtain⟨h1,E1,r1,u1⟩:=a N E c w r hn;obtain⟨h2,E2,r2,u2⟩:=b N E1 c w r1 h1;exact⟨h2,E2,r2,u1.trans u2⟩
section
variable{n0:Nat}{s s2:St}
theorem Step.Ew(lo:Nat){live:List Nat}(e:Jd n0 lo live s=some s2):Step n0 s s2:=fun _ _ _ _ r _=>(Je e r).2
theorem Step.norm{live:List Nat}(e:e9 n0 live s=some s2):Step n0 s s2:=fun _ _ _ _ r _=>(qY e r).2
theorem Step.mem{h2:Tr O}(hg:∀E w,Good E s.h w->Good E h2 w/\∀m,(h2.get m≠none↔s.h.get m≠none)/\(eC h2 m->eC s.h m)):Step n0 s { s with h:=h2 }:=fun N E a w r hn=>by
 obtain⟨g2,k2⟩:=hg E w r.good;exact⟨hn,E,⟨g2,r.oe,r.fr,r.size,r.gz⟩,⟨fun _ _ _ _ e=>⟨e,rfl⟩,fun _ _=>rfl,fun _ _ q=>q,g2,aA _,rfl,rfl,rfl,fun _ _ _=>rfl,fun m b s1 hm e1 _=>⟨m,s1,(k2 m).1.1 hm,e1,(k2 m).2⟩,fun _ _ q=>.inl q⟩⟩
theorem Step.deep(l:List Nat)(e:C0 l s=some s2):Step n0 s s2:=by
 unfold C0 at e;split at e
 case h_2=>cases e
 rename_i h2 hh;obtain rfl:=eo e;exact Step.mem fun E w g=>qG l s.h h2 hh g
theorem Step.frz(ms:List Nat){A:ah}(e:XG ms s=some (A,s2))(hA:∀x∈A,x):Step n0 s s2:=fun N E a w r hn=>by
 obtain⟨E2,r2,u,xl,_⟩:=wh (n0:=n0) e hA r hn;exact⟨xl,E2,r2,u⟩
end
theorem MZ{P:Program}{n0 N:Nat}{c:Code}{s s2:St}{Q:Exit->St->Prop}(e:Step n0 s s2)(h:TG P n0 N c s2 Q):TG P n0 N c s Q:=by
 intro E a w K r hn k;obtain⟨xl,E2,r2,u2⟩:=e N E a w r hn;exact h E2 a w K r2 xl fun y s' E' a' w' q u pE r'=>k y s' E' a' w' q (u2.trans u) pE r'
theorem gC.step{P:Program}{n0 N:Nat}{s S:St}(e:Step n0 s S):gC P n0 N s S:=fun _ _ h=>MZ e h
def Jf(v:V)(h:Tr O)(n:Nat):St:={ fr:=Tr.nil.set 0 (some v),h:=h,n:=n,gz:=[] }
theorem cU.step{P:Program}{f:FuncId}{args:ag}{h h1 h2:Tr O}{n n1 n2:Nat}{v v2:V}(c:cU P f args h n v h1 n1)(st:Step n (Jf v h1 n1) (Jf v2 h2 n2)):cU P f args h n v2 h2 n2:=by
 intro E w c9 ra g hd;refine(c E w c9 ra g hd).mono fun en w' ⟨E1,u,fJ,Qb,DW,ho⟩=>?_;cases en with
 |panicked ch=>exact ho.elim
 |outgrown=>exact ho.elim
 |returned v'=>
  have hv:dD E1 v v':=ho;have r:jY E1 1 (Jf v h1 n1) { tmps:=#[v'],defers:=[] } w':=by
   refine⟨u.good,Qb,fun t x hx=>?_,rfl,rfl⟩;have hx:(Tr.nil.set 0 (some v)).get t=some x:=hx;rw[Tr.eP _ _ _ (au dU)]at hx;split at hx
   . rename_i e0;subst e0;cases hx;exact⟨v',rfl,hv⟩
   . exact absurd hx (by simp[Tr.get])
  obtain⟨xl,E2,r2,u2⟩:=st 1 E1 _ w' r DW;obtain⟨x,hx,hv2⟩:=r2.fr 0 v2 (by show(Tr.nil.set 0 (some v2)).get 0=some v2;rw[Tr.eP _ _ _ (au dU),aG rfl]);have hx:some v'=some x:=hx;obtain rfl:=eo hx;exact⟨E2,((lB.of (n0:=n) u fJ (aA _)).trans u2).qp hd,fun m hm=>(u2.low m hm).trans (fJ m hm),r2.oe,xl,hv2⟩
theorem cU.Ew{P:Program}{f:FuncId}{args:ag}{h h1 h2:Tr O}{n n1 n2:Nat}{v v2:V}(lo:Nat)(c:cU P f args h n v h1 n1)(e:Jd n lo [0] (Jf v h1 n1)=some (Jf v2 h2 n2)):cU P f args h n v2 h2 n2:=c.step (.Ew lo e)
theorem cU.nil{P:Program}{f:FuncId}{args:ag}{h h1:Tr O}{n n1 z:Nat}(b:Bool)(c:cU P f args h n (.dj none 0 0 z) h1 n1):cU P f args h n (.dO b 0 []) h1 n1:=by
 intro E w c9 ra g hd;refine(c E w c9 ra g hd).mono fun en w' ⟨E1,u,fJ,Qb,DW,ho⟩=>⟨E1,u,fJ,Qb,DW,?_⟩;cases en with
 |panicked ch=>exact ho.elim
 |outgrown=>exact ho.elim
 |returned v'=>
  obtain⟨_,_,rfl⟩:0=0/\0=0/\v'= .slice none 0 0:=ho;exact⟨⟨none,0,[],rfl,aA _,rfl,fun _=>rfl,fun h=>absurd h (cF _)⟩,fun _=>⟨none,rfl⟩⟩
theorem SJ{E:Env}{w:World}{b s:Nat}{el:TypeId}{t:aa}(k:Nat)(r:lU E w b s (.iU el false t)):lU E w b s (.iU el false (t.take k)):=by
 obtain⟨c,fz,xs,h1,h0,h2,h3,h4,h5⟩:=r;refine⟨c,fz,xs.take k,h1,h0,h2,⟨.inl (h3.2 rfl),h3.2⟩,?_,fun j x hx=>?_⟩
 . rw[<- h4];unfold eN;rw[cL]
 . rw[bO]at hx;split at hx
   . exact h5 j x hx
   . cases hx
theorem Step.trim{n0:Nat}{s:St}{m:Nat}{el:TypeId}{t:aa}(k:Nat)(ht:Nat.blt m fL=true)(hm:s.h.get m=some (.iU el false t)):Step n0 s { s with h:=s.h.set m (some (.iU el false (t.take k))) }:=
 Step.mem fun _ _ g=>si (au ht) hm rfl (fun _ _ _ q=>SJ k q) g
def rbS(p i:Nat)(s:St):Option St:=match s.h.get p with
 |some (.cells cs)=>match cs[i]? with
  |some (.dj (some (m,o)) cO cP jx)=>match s.h.get m with
   |some (.deep R)=>match(Nat.blt m fL&&Nat.blt p fL)&&(Nat.blt s.n fL&&Bool.not (Nat.beq p m))with
    |true=>some { s with h:=((s.h.set m none).set p (some (.cells (cs.set i (.dj (some (s.n,0)) cO cO jx))))).set s.n (some (.deep ((R.drop o).take (cO*jx)))),n:=s.n+1 }
    |false=>none
   |_=>none
  |_=>none
 |_=>none
theorem Step.rb{n0:Nat}{s s2:St}(p i:Nat)(e:rbS p i s=some s2):Step n0 s s2:=by
 unfold rbS at e;split at e
 case h_2=>cases e
 rename_i cs hp;split at e
 case h_2=>cases e
 rename_i m o cO _ jx hi;split at e
 case h_2=>cases e
 rename_i R hm;split at e
 case h_2=>cases e
 rename_i hb;simp only[aC,Bool.not_eq_true']at hb;obtain⟨⟨yP,Za⟩,hnt,VC⟩:=hb;have yP:m<fL:=au yP;have Za:p<fL:=au Za;have hnt:s.n<fL:=au hnt;have VC:p≠m:=fun q=>by rw[q,cM]at VC;cases VC
 obtain rfl:=eo e;intro N E a w r hn;have g:=r.good;obtain⟨bm,sm,em,om⟩:=g.rel m _ hm;obtain⟨bp,sp,ep,op⟩:=g.rel p _ hp;have Ib:E.ι s.n=none:=r.oe _ (aA _);have PA:m≠s.n:=fun q=>by rw[q,Ib]at em;cases em
 have hpn:p≠s.n:=fun q=>by rw[q,Ib]at ep;cases ep
 let E2:Env:=⟨fun j=>if j=s.n then some (bm,sm+o)else E.ι j,E.β,E.φ⟩
 have e2n:E2.ι s.n=some (bm,sm+o):=aG rfl;have e2:∀j,j≠s.n->E2.ι j=E.ι j:=fun j hj=>aI hj;have kE:E.le E2:=⟨fun j b x hj=>⟨by
  rw[e2 j fun q=>by rw[q,Ib]at hj;cases hj];exact hj,rfl⟩,fun _ _ q=>q⟩
 have kJ:∀j,(((s.h.set m none).set p (some (.cells (cs.set i (.dj (some (s.n,0)) cO cO jx))))).set s.n (some (.deep ((R.drop o).take (cO*jx))))).get j=
   if j=s.n then some (.deep ((R.drop o).take (cO*jx)))else if j=p then some (.cells (cs.set i (.dj (some (s.n,0)) cO cO jx)))else if j=m then none else s.h.get j:=fun j=>by
  rw[Tr.eP _ _ _ hnt,Tr.eP _ _ _ Za,Tr.eP _ _ _ yP]
 have hor:∀j b x,(((s.h.set m none).set p (some (.cells (cs.set i (.dj (some (s.n,0)) cO cO jx))))).set s.n (some (.deep ((R.drop o).take (cO*jx))))).get j≠none->E2.ι j=some (b,x)->∃j0 x0,s.h.get j0≠none/\E.ι j0=some (b,x0)/\(j=s.n->j0=m)/\(j≠s.n->j0=j/\j≠m):=by
  intro j b x hj ej;rw[kJ]at hj;by_cases q:j=s.n
  . subst q;rw[e2n]at ej;simp only[an,aB]at ej;obtain⟨rfl,_⟩:=ej;exact⟨m,sm,by rw[hm];simp,em,fun _=>rfl,fun q=>absurd rfl q⟩
  . rw[e2 j q]at ej;rw[aI q]at hj;refine⟨j,x,?_,ej,fun q'=>absurd q' q,fun _=>⟨rfl,?_⟩⟩
    . by_cases q1:j=p
      . subst q1;rw[hp];simp
      . rw[aI q1]at hj;by_cases q2:j=m
        . rw[aG q2]at hj;exact absurd rfl hj
        . rw[aI q2]at hj;exact hj
    . intro q2;subst q2;rw[aI (fun q=>VC q.symm),aG rfl]at hj;exact absurd rfl hj
 have hw:∀j,eC (((s.h.set m none).set p (some (.cells (cs.set i (.dj (some (s.n,0)) cO cO jx))))).set s.n (some (.deep ((R.drop o).take (cO*jx))))) j->j≠s.n->eC s.h j:=by
  rintro j ⟨x,hx,hxw⟩ q;rw[kJ,aI q]at hx;by_cases q1:j=p
  . subst q1;exact⟨_,hp,rfl⟩
  . rw[aI q1]at hx;by_cases q2:j=m
    . rw[aG q2]at hx;cases hx
    . rw[aI q2]at hx;exact⟨x,hx,hxw⟩
 have Xu:eC s.h m:=⟨_,hm,rfl⟩;have qx:Good E2 (((s.h.set m none).set p (some (.cells (cs.set i (.dj (some (s.n,0)) cO cO jx))))).set s.n (some (.deep ((R.drop o).take (cO*jx))))) w:=by
  refine⟨fun j x hj=>?_,fun j j' b x x' fN hj Qy e1 e1'=>?_,fun j b x ej=>?_,fun q hq=>kE.nm _ _ _ (g.jj q hq) |>.1,fun b c q=>⟨(g.gP b c q).1,fun j x hj ej=>?_⟩⟩
  . rw[kJ]at hj;by_cases q:j=s.n
    . subst q;rw[aG rfl]at hj;obtain rfl:=eo hj;refine⟨bm,sm+o,e2n,?_⟩;obtain⟨c,el,fz,vs,h1,h2,h3,h4,h5⟩:=om;refine⟨c,el,fz,(vs.drop o).take (cO*jx),h1,h2,h3,sP (nV h4),fun k x hx=>?_⟩;rw[bO]at hx;split at hx
      . rw[bH]at hx;have:=h5 (o+k) x hx;rw[<- this];congr 1;omega
      . cases hx
    . rw[aI q]at hj;by_cases q1:j=p
      . subst q1;rw[aG rfl]at hj;obtain rfl:=eo hj;refine⟨bp,sp,by rw[e2 _ q];exact ep,?_⟩;obtain⟨c,el,fz,h1,h2,h3,h4⟩:=op;refine⟨c,el,fz,h1,h2,h3,fun k v hv=>?_⟩;rw[List.getElem?_set]at hv;split at hv
        . rename_i hik;subst hik;split at hv
          . obtain rfl:=eo hv;obtain⟨v',k1,b,s0,o',gj,q1,q2,q3,q4,q5,q6⟩:=h4 i _ hi;rw[em]at q1;simp only[an,aB]at q1;obtain⟨rfl,rfl⟩:=q1;exact⟨v',k1,bm,sm+o,o',gj,e2n,fun h0=>q2 (bE h0 q3),aA _,bV q3 q4,q5,q6⟩
          . cases hv
        . obtain⟨v',k1,k2⟩:=h4 k v hv;exact⟨v',k1,ji kE v v' k2⟩
      . rw[aI q1]at hj;split at hj
        . cases hj
        . obtain⟨b,x0,k1,k2⟩:=g.rel j x hj;exact⟨b,x0,by rw[e2 _ q];exact k1,ij kE rfl rfl k2⟩
  . have hj0:(((s.h.set m none).set p (some (.cells (cs.set i (.dj (some (s.n,0)) cO cO jx))))).set s.n (some (.deep ((R.drop o).take (cO*jx))))).get j≠none:=by obtain⟨y,hy,_⟩:=hj;rw[hy];simp
    obtain⟨k,x1,a1,a2,a3,a4⟩:=hor j b x hj0 e1;obtain⟨k',x2,b1,b2,b3,b4⟩:=hor j' b x' Qy e1';have hkw:eC s.h k:=by
     by_cases q:j=s.n
     . rw[a3 q];exact Xu
     . rw[(a4 q).1];exact hw j hj q
    refine g.inj k k' b x1 x2 ?_ hkw b1 a2 b2;by_cases q:j=s.n
    . have q':j'≠s.n:=fun z=>fN (q.trans z.symm);rw[a3 q,(b4 q').1];exact fun z=>(b4 q').2 z.symm
    . by_cases q':j'=s.n
      . rw[(a4 q).1,b3 q'];exact(a4 q).2
      . rw[(a4 q).1,(b4 q').1];exact fN
  . by_cases q:j=s.n
    . rw[q,e2n]at ej;simp only[an,aB]at ej;obtain⟨rfl,_⟩:=ej;exact g.mW _ _ _ em
    . rw[e2 j q]at ej;exact g.mW _ _ _ ej
  . by_cases q2:j=s.n
    . rw[q2,e2n]at ej;simp only[an,aB]at ej;obtain⟨rfl,_⟩:=ej;exact(g.gP _ c q).2 m sm Xu em
    . rw[e2 j q2]at ej;exact(g.gP b c q).2 j x (hw j hj q2) ej
 refine⟨Nat.le_succ_of_le hn,E2,⟨qx,fun j hj=>?_,jW kE r.fr,r.size,iT kE _ _ r.gz⟩,?_⟩
 . have hj:s.n+1<=j:=hj;rw[e2 j be];exact r.oe j (Nat.le_of_succ_le hj)
 . refine⟨fun j b x _ ej=>kE.nm j b x ej,fun j hj=>e2 j be,fun _ _ q=>q,qx,aA _,rfl,rfl,rfl,fun _ _ _=>rfl,fun j b x hj ej _=>?_,fun _ _ q=>.inl q⟩;obtain⟨k,x1,a1,a2,a3,a4⟩:=hor j b x hj ej;refine⟨k,x1,a1,a2,fun z=>?_⟩;by_cases q:j=s.n
   . rw[a3 q];exact Xu
   . rw[(a4 q).1];exact hw j z q
end Go.Eng
