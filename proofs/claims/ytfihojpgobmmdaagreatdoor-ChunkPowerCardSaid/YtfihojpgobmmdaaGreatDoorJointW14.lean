/- Lemmas of the engine. No conditions. -/
import Derived.Test.YtfihojpgobmmdaaGreatDoorJointW08
set_option linter.unusedVariables false
set_option linter.unusedSimpArgs false
set_option linter.unusedSectionVars false
namespace Go.Eng
open Go Go.RowKit
def Ae(back:H Nat):Nat->Bool
 |0=>true
 |k+1=>(match back.get k with|some m=>Nat.beq m k|none=>false)&&Ae back k
theorem xJ{back:H Nat}:∀{k:Nat},Ae back k=true->∀m,m<k->back.get m=some m
 |0,_,m,W=>by omega
 |k+1,h,m,W=>by
  simp only[Ae,aE]at h;by_cases e:m=k
  . subst e;cases q:back.get m with
    |none=>rw[q]at h;cases h.1
    |some j=>rw[q]at h;rw[aG h.1]
  . exact xJ h.2 m L
def JS(I lo:Nat)(live:List Nat)(s:St):Option St:=
 match Nat.ble I s.n&&Nat.ble lo I with
 |false=>none
 |true=>match M8 s.h 100000 (Di s.h lo (sR s.S live++Dk s.gD [])) (aaz lo) (K5 I) I with
  |some (ρ,qq,k)=>
   let back:=ye qq k .nil
   let ν:=dL ρ back k
   match(Ae back I&&Nat.ble I k)&&Nat.ble gN I with
   |true=>match Dj ν s.h (qq.filter fun m=>(ρ.get m).isSome) .nil with
    |some h2=>match yg ν s.S live .nil with
     |some yb=>match O1 ν s.gD with
      |some d2=>some { S:=yb,h:=h2,n:=k,gD:=d2 }
      |none=>none
     |none=>none
    |none=>none
   |false=>none
  |none=>none
theorem JT{I lo rt:Nat}{live:List Nat}{s s2:St}{E:Env}{a:Act}{w:World}(e:JS I lo live s=some s2)(r:kI E rt s a w):I<=s.n/\I<=s2.n/\∃E2,kI E2 rt s2 a w/\l7 I E s.h w E2 s2.h w:=by
 unfold JS at e;split at e
 . cases e
 rename_i hn;simp only[aE]at hn;split at e
 case h_2=>cases e
 rename_i ρ qq k ht;revert e;generalize afi:ye qq k .nil=back;intro e;simp only at e;split at e
 case h_2=>cases e
 rename_i fT;simp only[aE]at fT;split at e
 case h_2=>cases e
 rename_i h2 hh;split at e
 case h_2=>cases e
 rename_i yb yN;split at e
 case h_2=>cases e
 rename_i d2 GX;simp only[an]at e;subst e
 let E2:Env:=⟨fun m=>if m<k then(match back.get m with|some old=>E.ι old|none=>none)else none,E.β,E.φ⟩
 have jl:∀m j,dL ρ back k m=some j->E2.ι j=E.ι m:=by
  intro m j hj;obtain⟨_,h2,h3⟩:=Bw hj;show(if j<k then(match back.get j with|some old=>E.ι old|none=>none)else none)=_;rw[aF h3,h2]
 have hk:I<=k:=ax fT.1.2;have Bm:∀m,m<I->E2.ι m=E.ι m:=fun m W=>by
  show(if m<k then(match back.get m with|some old=>E.ι old|none=>none)else none)=_;rw[aF (bC W hk),xJ fT.1.1 m W]
 have OV:=ud _ .nil h2 hh (fun j o hj=>by simp[H.get]at hj);have qZ:Good E2 h2 w:=by
  refine⟨?_,?_,?_,fun p hp=>(Bm _ (bC (Ce hp) (ax fT.2))).trans (r.good.jy p hp),fun b c q=>⟨(r.good.gX b c q).1,fun m s1 W e1=>?_⟩⟩
  case refine_4=>
   obtain⟨o,ho,hwo⟩:=W;obtain⟨old,p,k1,k2,k3⟩:=OV m o ho;rw[jl old m k1]at e1;exact(r.good.gX b c q).2 old s1 ⟨p,k2,(Bx k3).symm.trans hwo⟩ e1
  . intro m o2 W;obtain⟨old,o,k1,k2,k3⟩:=OV m o2 W;obtain⟨b,s',e1,e2⟩:=r.good.rel old o k2;exact⟨b,s',(jl old m k1).trans e1,Cf jl (fun _ _ _ _ _ _=>rfl) (fun _ _ q=>q) rfl o o2 k3 e2⟩
  . intro m m' b s1 s2 fS W tN e1 e2;obtain⟨o,ho,hwo⟩:=W;obtain⟨o',EL⟩:=bh.1 tN;obtain⟨old,p,k1,k2,k3⟩:=OV m o ho;obtain⟨BR,p',VK,k2',_⟩:=OV m' o' EL;rw[jl old m k1]at e1;rw[jl BR m' VK]at e2;by_cases pb:old=BR
    . subst pb;rw[k1]at VK;simp only[an]at VK;exact fS VK
    . exact r.good.inj old BR b s1 s2 pb ⟨p,k2,(Bx k3).symm.trans hwo⟩ (by rw[k2'];simp) e1 e2
  . intro m b s1 e1;have e1:(if m<k then(match back.get m with|some old=>E.ι old|none=>none)else none)=some (b,s1):=e1;split at e1
    . split at e1
      . exact r.good.ny _ b s1 e1
      . cases e1
    . cases e1
 refine⟨ax hn.1,hk,E2,⟨qZ,?_,?_,r.size,?_⟩,?_⟩
 . intro m W;show(if m<k then _ else none)=none;rw[aJ (by show ¬m<k;have:k<=m:=W;omega)]
 . intro t v2 hv;obtain⟨v,k1,k2⟩:=rX live .nil yb yN (fun j o hj=>by simp[H.get]at hj) t v2 hv;obtain⟨v',X,h2⟩:=r.S t v k1;exact⟨v',X,tZ jl (fun _ _ _ _ _ _=>rfl) (fun _ _ q=>q) v v2 v' k2 h2⟩
 . exact Dl jl _ _ _ GX r.gD
 . refine⟨fun m b s1 W e1=>⟨(Bm m W).trans e1,rfl⟩,Bm,fun _ _ q=>q,qZ,aC _,rfl,rfl,rfl,fun _ _ _=>rfl,?_,fun _ _ q=>.inl q⟩;intro m b s1 W e1 hb;obtain⟨o,ho⟩:=bh.1 W;obtain⟨old,p,k1,k2,k3⟩:=OV m o ho;rw[jl old m k1]at e1;refine⟨old,s1,by rw[k2];simp,e1,fun⟨o',q1,q2⟩=>⟨p,k2,?_⟩⟩;rw[ho]at q1;cases q1;exact(Bx k3).symm.trans q2
def Step(I:Nat)(s s2:St):Prop:=∀rt E a w,kI E rt s a w->I<=s.n->I<=s2.n/\∃E2,kI E2 rt s2 a w/\l7 I E s.h w E2 s2.h w
theorem Step.refl{I:Nat}{s:St}:Step I s s:=fun _ E _ _ r hn=>⟨hn,E,r,.refl r.good⟩
theorem Step.trans{I:Nat}{s s1 s2:St}(a:Step I s s1)(b:Step I s1 s2):Step I s s2:=fun rt E c w r hn=>by
 obtain⟨X,E1,r1,u1⟩:=a rt E c w r hn;obtain⟨h2,E2,r2,u2⟩:=b rt E1 c w r1 X;exact⟨h2,E2,r2,u1.trans u2⟩
section
variable{I:Nat}{s s2:St}
theorem Step.Af(lo:Nat){live:List Nat}(e:JS I lo live s=some s2):Step I s s2:=fun _ _ _ _ r _=>(JT e r).2
theorem Step.norm{live:List Nat}(e:fe I live s=some s2):Step I s s2:=fun _ _ _ _ r _=>(rY e r).2
theorem Step.mem{h2:H rs}(hg:∀E w,Good E s.h w->Good E h2 w/\∀m,(h2.get m≠none↔s.h.get m≠none)/\(eG h2 m->eG s.h m)):Step I s { s with h:=h2 }:=fun rt E a w r hn=>by
 obtain⟨g2,k2⟩:=hg E w r.good;exact⟨hn,E,⟨g2,r.oI,r.S,r.size,r.gD⟩,⟨fun _ _ _ _ e=>⟨e,rfl⟩,fun _ _=>rfl,fun _ _ q=>q,g2,aC _,rfl,rfl,rfl,fun _ _ _=>rfl,fun m b s1 W e1 _=>⟨m,s1,(k2 m).1.1 W,e1,(k2 m).2⟩,fun _ _ q=>.inl q⟩⟩
theorem Step.deep(l:List Nat)(e:Dz l s=some s2):Step I s s2:=by
 unfold Dz at e;split at e
 case h_2=>cases e
 rename_i h2 hh;obtain rfl:=eE e;exact Step.mem fun E w g=>rD l s.h h2 hh g
theorem Step.frz(ms:List Nat){cU:ah}(e:fzS ms s=some (cU,s2))(hA:∀x∈cU,x):Step I s s2:=fun rt E a w r hn=>by
 obtain⟨E2,r2,u,xV,_⟩:=wU (I:=I) e hA r hn;exact⟨xV,E2,r2,u⟩
end
theorem Xz{P:Program}{I rt:Nat}{c:Code}{s s2:St}{cs:Exit->St->Prop}(e:Step I s s2)(h:TG P I rt c s2 cs):TG P I rt c s cs:=by
 intro E a w hL r hn k;obtain⟨xV,E2,r2,u2⟩:=e rt E a w r hn;exact h E2 a w hL r2 xV fun y s' E' a' w' q u qb r'=>k y s' E' a' w' q (u2.trans u) qb r'
def JU(v:V)(h:H rs)(n:Nat):St:={ S:=H.nil.set 0 (some v),h:=h,n:=n,gD:=[] }
theorem c5.step{P:Program}{f:FuncId}{args:ag}{h X h2:H rs}{n n1 n2:Nat}{v v2:V}(c:c5 P f args h n v X n1)(st:Step n (JU v X n1) (JU v2 h2 n2)):c5 P f args h n v2 h2 n2:=by
 intro E w dm ra g hd;refine(c E w dm ra g hd).mono fun en w' ⟨E1,u,fT,Rn,Ew,ho⟩=>?_;cases en with
 |panicked ch=>exact ho.elim
 |outgrown=>exact ho.elim
 |returned v'=>
  have hv:dJ E1 v v':=ho;have r:kI E1 1 (JU v X n1) { tmps:=#[v'],defers:=[] } w':=by
   refine⟨u.good,Rn,fun t x M=>?_,rfl,rfl⟩;have M:(H.nil.set 0 (some v)).get t=some x:=M;rw[H.eY _ _ _ (ax dP)]at M;split at M
   . rename_i e0;subst e0;cases M;exact⟨v',rfl,hv⟩
   . exact absurd M (by simp[H.get])
  obtain⟨xV,E2,r2,u2⟩:=st 1 E1 _ w' r Ew;obtain⟨x,M,hv2⟩:=r2.S 0 v2 (by show(H.nil.set 0 (some v2)).get 0=some v2;rw[H.eY _ _ _ (ax dP),aF rfl]);have M:some v'=some x:=M;obtain rfl:=eE M;exact⟨E2,((l7.of (I:=n) u fT (aC _)).trans u2).qT hd,fun m W=>(u2.low m W).trans (fT m W),r2.oI,xV,hv2⟩
theorem c5.Af{P:Program}{f:FuncId}{args:ag}{h X h2:H rs}{n n1 n2:Nat}{v v2:V}(lo:Nat)(c:c5 P f args h n v X n1)(e:JS n lo [0] (JU v X n1)=some (JU v2 h2 n2)):c5 P f args h n v2 h2 n2:=c.step (.Af lo e)
theorem c5.nil{P:Program}{f:FuncId}{args:ag}{h X:H rs}{n n1 z:Nat}(b:Bool)(c:c5 P f args h n (.dx none 0 0 z) X n1):c5 P f args h n (.dV b 0 []) X n1:=by
 intro E w dm ra g hd;refine(c E w dm ra g hd).mono fun en w' ⟨E1,u,fT,Rn,Ew,ho⟩=>⟨E1,u,fT,Rn,Ew,?_⟩;cases en with
 |panicked ch=>exact ho.elim
 |outgrown=>exact ho.elim
 |returned v'=>
  obtain⟨_,_,rfl⟩:0=0/\0=0/\v'= .slice none 0 0:=ho;exact⟨⟨none,0,[],rfl,aC _,rfl,fun _=>rfl,fun h=>absurd h (cB _)⟩,fun _=>⟨none,rfl⟩⟩
theorem TV{E:Env}{w:World}{b s:Nat}{el:TypeId}{t:B}(k:Nat)(r:mC E w b s (.ia el false t)):mC E w b s (.ia el false (t.take k)):=by
 obtain⟨c,fz,xs,X,h0,h2,h3,h4,h5⟩:=r;refine⟨c,fz,xs.take k,X,h0,h2,⟨.inl (h3.2 rfl),h3.2⟩,?_,fun j x M=>?_⟩
 . rw[<- h4];unfold eW;rw[cN]
 . rw[bQ]at M;split at M
   . exact h5 j x M
   . cases M
theorem Step.trim{I:Nat}{s:St}{m:Nat}{el:TypeId}{t:B}(k:Nat)(ht:Nat.blt m fW=true)(W:s.h.get m=some (.ia el false t)):Step I s { s with h:=s.h.set m (some (.ia el false (t.take k))) }:=
 Step.mem fun _ _ g=>s9 (ax ht) W rfl (fun _ _ _ q=>TV k q) g
def rbS(p i:Nat)(s:St):Option St:=match s.h.get p with
 |some (.cells Q)=>match Q[i]? with
  |some (.dx (some (m,o)) T A jJ)=>match s.h.get m with
   |some (.deep nx)=>match(Nat.blt m fW&&Nat.blt p fW)&&(Nat.blt s.n fW&&Bool.not (Nat.beq p m))with
    |true=>some { s with h:=((s.h.set m none).set p (some (.cells (Q.set i (.dx (some (s.n,0)) T T jJ))))).set s.n (some (.deep ((nx.drop o).take (T*jJ)))),n:=s.n+1 }
    |false=>none
   |_=>none
  |_=>none
 |_=>none
theorem Step.rb{I:Nat}{s s2:St}(p i:Nat)(e:rbS p i s=some s2):Step I s s2:=by
 unfold rbS at e;split at e
 case h_2=>cases e
 rename_i Q hp;split at e
 case h_2=>cases e
 rename_i m o T _ jJ hi;split at e
 case h_2=>cases e
 rename_i nx W;split at e
 case h_2=>cases e
 rename_i hb;simp only[aE,Bool.not_eq_true']at hb;obtain⟨⟨zw,hpt⟩,hnt,WT⟩:=hb;have zw:m<fW:=ax zw;have hpt:p<fW:=ax hpt;have hnt:s.n<fW:=ax hnt;have WT:p≠m:=fun q=>by rw[q,cP]at WT;cases WT
 obtain rfl:=eE e;intro rt E a w r hn;have g:=r.good;obtain⟨bm,sm,em,om⟩:=g.rel m _ W;obtain⟨bp,sp,ep,op⟩:=g.rel p _ hp;have IW:E.ι s.n=none:=r.oI _ (aC _);have QO:m≠s.n:=fun q=>by rw[q,IW]at em;cases em
 have hpn:p≠s.n:=fun q=>by rw[q,IW]at ep;cases ep
 let E2:Env:=⟨fun j=>if j=s.n then some (bm,sm+o)else E.ι j,E.β,E.φ⟩
 have e2n:E2.ι s.n=some (bm,sm+o):=aF rfl;have e2:∀j,j≠s.n->E2.ι j=E.ι j:=fun j hj=>aJ hj;have kR:E.le E2:=⟨fun j b x hj=>⟨by
  rw[e2 j fun q=>by rw[q,IW]at hj;cases hj];exact hj,rfl⟩,fun _ _ q=>q⟩
 have kY:∀j,(((s.h.set m none).set p (some (.cells (Q.set i (.dx (some (s.n,0)) T T jJ))))).set s.n (some (.deep ((nx.drop o).take (T*jJ))))).get j=
   if j=s.n then some (.deep ((nx.drop o).take (T*jJ)))else if j=p then some (.cells (Q.set i (.dx (some (s.n,0)) T T jJ)))else if j=m then none else s.h.get j:=fun j=>by
  rw[H.eY _ _ _ hnt,H.eY _ _ _ hpt,H.eY _ _ _ zw]
 have hor:∀j b x,(((s.h.set m none).set p (some (.cells (Q.set i (.dx (some (s.n,0)) T T jJ))))).set s.n (some (.deep ((nx.drop o).take (T*jJ))))).get j≠none->E2.ι j=some (b,x)->∃j0 x0,s.h.get j0≠none/\E.ι j0=some (b,x0)/\(j=s.n->j0=m)/\(j≠s.n->j0=j/\j≠m):=by
  intro j b x hj ej;rw[kY]at hj;by_cases q:j=s.n
  . subst q;rw[e2n]at ej;simp only[an,aB]at ej;obtain⟨rfl,_⟩:=ej;exact⟨m,sm,by rw[W];simp,em,fun _=>rfl,fun q=>absurd rfl q⟩
  . rw[e2 j q]at ej;rw[aJ q]at hj;refine⟨j,x,?_,ej,fun q'=>absurd q' q,fun _=>⟨rfl,?_⟩⟩
    . by_cases q1:j=p
      . subst q1;rw[hp];simp
      . rw[aJ q1]at hj;by_cases q2:j=m
        . rw[aF q2]at hj;exact absurd rfl hj
        . rw[aJ q2]at hj;exact hj
    . intro q2;subst q2;rw[aJ (fun q=>WT q.symm),aF rfl]at hj;exact absurd rfl hj
 have hw:∀j,eG (((s.h.set m none).set p (some (.cells (Q.set i (.dx (some (s.n,0)) T T jJ))))).set s.n (some (.deep ((nx.drop o).take (T*jJ))))) j->j≠s.n->eG s.h j:=by
  rintro j ⟨x,M,hxw⟩ q;rw[kY,aJ q]at M;by_cases q1:j=p
  . subst q1;exact⟨_,hp,rfl⟩
  . rw[aJ q1]at M;by_cases q2:j=m
    . rw[aF q2]at M;cases M
    . rw[aJ q2]at M;exact⟨x,M,hxw⟩
 have YW:eG s.h m:=⟨_,W,rfl⟩;have qZ:Good E2 (((s.h.set m none).set p (some (.cells (Q.set i (.dx (some (s.n,0)) T T jJ))))).set s.n (some (.deep ((nx.drop o).take (T*jJ))))) w:=by
  refine⟨fun j x hj=>?_,fun j j' b x x' fS hj RM e1 e1'=>?_,fun j b x ej=>?_,fun q hq=>kR.nm _ _ _ (g.jy q hq) |>.1,fun b c q=>⟨(g.gX b c q).1,fun j x hj ej=>?_⟩⟩
  . rw[kY]at hj;by_cases q:j=s.n
    . subst q;rw[aF rfl]at hj;obtain rfl:=eE hj;refine⟨bm,sm+o,e2n,?_⟩;obtain⟨c,el,fz,vs,X,h2,h3,h4,h5⟩:=om;refine⟨c,el,fz,(vs.drop o).take (T*jJ),X,h2,h3,tL (oz h4),fun k x M=>?_⟩;rw[bQ]at M;split at M
      . rw[bL]at M;have:=h5 (o+k) x M;rw[<- this];congr 1;omega
      . cases M
    . rw[aJ q]at hj;by_cases q1:j=p
      . subst q1;rw[aF rfl]at hj;obtain rfl:=eE hj;refine⟨bp,sp,by rw[e2 _ q];exact ep,?_⟩;obtain⟨c,el,fz,X,h2,h3,h4⟩:=op;refine⟨c,el,fz,X,h2,h3,fun k v hv=>?_⟩;rw[List.getElem?_set]at hv;split at hv
        . rename_i hik;subst hik;split at hv
          . obtain rfl:=eE hv;obtain⟨v',k1,b,s0,o',gq,q1,q2,q3,q4,q5,q6⟩:=h4 i _ hi;rw[em]at q1;simp only[an,aB]at q1;obtain⟨rfl,rfl⟩:=q1;exact⟨v',k1,bm,sm+o,o',gq,e2n,fun h0=>q2 (bC h0 q3),aC _,bR q3 q4,q5,q6⟩
          . cases hv
        . obtain⟨v',k1,k2⟩:=h4 k v hv;exact⟨v',k1,jx kR v v' k2⟩
      . rw[aJ q1]at hj;split at hj
        . cases hj
        . obtain⟨b,x0,k1,k2⟩:=g.rel j x hj;exact⟨b,x0,by rw[e2 _ q];exact k1,iF kR rfl rfl k2⟩
  . have hj0:(((s.h.set m none).set p (some (.cells (Q.set i (.dx (some (s.n,0)) T T jJ))))).set s.n (some (.deep ((nx.drop o).take (T*jJ))))).get j≠none:=by obtain⟨y,hy,_⟩:=hj;rw[hy];simp
    obtain⟨k,x1,a1,a2,a3,a4⟩:=hor j b x hj0 e1;obtain⟨k',x2,b1,b2,b3,b4⟩:=hor j' b x' RM e1';have hkw:eG s.h k:=by
     by_cases q:j=s.n
     . rw[a3 q];exact YW
     . rw[(a4 q).1];exact hw j hj q
    refine g.inj k k' b x1 x2 ?_ hkw b1 a2 b2;by_cases q:j=s.n
    . have q':j'≠s.n:=fun z=>fS (q.trans z.symm);rw[a3 q,(b4 q').1];exact fun z=>(b4 q').2 z.symm
    . by_cases q':j'=s.n
      . rw[(a4 q).1,b3 q'];exact(a4 q).2
      . rw[(a4 q).1,(b4 q').1];exact fS
  . by_cases q:j=s.n
    . rw[q,e2n]at ej;simp only[an,aB]at ej;obtain⟨rfl,_⟩:=ej;exact g.ny _ _ _ em
    . rw[e2 j q]at ej;exact g.ny _ _ _ ej
  . by_cases q2:j=s.n
    . rw[q2,e2n]at ej;simp only[an,aB]at ej;obtain⟨rfl,_⟩:=ej;exact(g.gX _ c q).2 m sm YW em
    . rw[e2 j q2]at ej;exact(g.gX b c q).2 j x (hw j hj q2) ej
 refine⟨Nat.le_succ_of_le hn,E2,⟨qZ,fun j hj=>?_,ku kR r.S,r.size,jg kR _ _ r.gD⟩,?_⟩
 . have hj:s.n+1<=j:=hj;rw[e2 j L];exact r.oI j (Nat.le_of_succ_le hj)
 . refine⟨fun j b x _ ej=>kR.nm j b x ej,fun j hj=>e2 j L,fun _ _ q=>q,qZ,aC _,rfl,rfl,rfl,fun _ _ _=>rfl,fun j b x hj ej _=>?_,fun _ _ q=>.inl q⟩;obtain⟨k,x1,a1,a2,a3,a4⟩:=hor j b x hj ej;refine⟨k,x1,a1,a2,fun z=>?_⟩;by_cases q:j=s.n
   . rw[a3 q];exact YW
   . rw[(a4 q).1];exact hw j z q
end Go.Eng
