/- The Doc laws: the reference's reached: contract. No conditions. -/
import Derived.Test.YtmjggdmekboefaaGreatJointW07
set_option linter.unusedVariables false
set_option linter.unusedSimpArgs false
set_option linter.unusedSectionVars false
namespace Go.Proofs.YtmjggdmekboefaaGreat
open Go Go.Eng
set_option maxRecDepth 10000
def reF(st:Int->List Int):Nat->List Int->List Int->List Int
 |0,l,_=>l
 |_+1,l,[]=>l
 |k+1,l,x::td=>if l.contains x=true then reF st k l td else reF st k (l++[x]) (td++st x)
section
variable(ls:List eV)
def fW:List Int:=(ls.map fun x=>x.of::x.kids).flatten
def vt:Nat:=(fW ls).length*(2*(fW ls).length+2)+2*(fW ls).length+2
def jy(gm:Bool)(id:Int):List Int:=reF (gB ls gm) (vt ls) [] (gB ls gm id)
end
section
variable{ls:List eV}{x:eV}
theorem Fo(K:x∈ls){k:Int}(hk:k∈x.kids):k∈fW ls:=List.mem_flatten.2 ⟨_,bP.2 ⟨x,K,rfl⟩,bh _ hk⟩
theorem Rt(K:x∈ls):x.of∈fW ls:=List.mem_flatten.2 ⟨_,bP.2 ⟨x,K,rfl⟩,bB ..⟩
theorem AA(K:x∈ls):x.kids.length+1<=(fW ls).length:=by
 induction ls with
 |nil=>cases K
 |cons y ls ih=>
  have e:fW (y::ls)=(y.of::y.kids)++fW ls:=rfl;rw[e,az,aN];rcases aA.1 K with rfl|h
  . omega
  . have:=ih h;omega
theorem Ji(K:x∈ls):(∀k∈gp x,k∈fW ls)/\(gp x).length<=(fW ls).length:=by
 have:=AA K;unfold gp;split
 . exact⟨fun k hk=>by rw[aI]at hk;subst hk;exact Rt K,by simp only[aN,cm];omega⟩
 . exact⟨fun k hk=>Fo K hk,S⟩
theorem GJ{id:Int}:(∀k∈iT ls id,k∈fW ls)/\(iT ls id).length<=(fW ls).length:=by
 unfold iT;split
 . split
   . rename_i m L;obtain⟨_,_,h⟩:=iG L;have:=AA h;exact⟨fun k hk=>Fo h (cK hk),by rw[bf];omega⟩
   . exact⟨fun _ h=>(by cases h),aR _⟩
 . exact⟨fun _ h=>(by cases h),aR _⟩
end
theorem lS(ls:List eV)(gm:Bool)(id:Int):(∀k∈gB ls gm id,k∈fW ls)/\(gB ls gm id).length<=2*(fW ls).length:=by
 unfold gB;split
 . rename_i n hn;obtain⟨_,_,h⟩:=iG hn;obtain⟨h1,C⟩:=Ji h;obtain⟨h3,h4⟩:=GJ (ls:=ls) (id:=id);split
   . exact⟨fun k hk=>(bj.1 hk).elim (h1 k) (h3 k),by rw[az];omega⟩
   . exact⟨fun k hk=>(bj.1 hk).elim (h1 k) (fun q=>by cases q),by rw[az,cm];omega⟩
 . exact⟨fun _ h=>(by cases h),aR _⟩
theorem ZE:jM ak 55 (yQ La):=by
 refine yR dJ fun ds hc v e hA=>?_;unfold La at e;split at e
 case h_2=>cases e
 rename_i n cs k;obtain⟨rfl,rfl⟩:=sm e;have h1:cs=eL (eN cs):=hA _ (by simp);have C:n=(eN cs).length:=hA (n=(eN cs).length) (by simp);have h3:n<=1000000:=hA (n<=1000000) (by simp);generalize eN cs=l at *;subst h1 C;exact Zo l k h3
theorem Ru:fo ak Whs:=fq ZE (be _)
def ZF(d:Dc)(gm:Bool)(l td:List Int)(r:List (Nat×V)):St:=match l with
 | []=>Jg d gm td r
 |x::l=>GH d gm (x::l) td r
structure UU(st:Int->List Int)(dS:Nat)(iX:List Int)(hb:List Int)(k:Nat)(l td zA:List Int):Prop where
 eq:reF st k l td=iX
 fuel:td.length+zA.length*(dS+1)<k
 nodup:l.length+zA.length<=hb.length
 see:∀y∈hb,y∈l\/y∈zA
 td:∀y∈td,y∈hb
theorem Jj{st:Int->List Int}{dS:Nat}{iX hb:List Int}{k:Nat}{l td zA:List Int}{x:Int}(h:UU st dS iX hb k l (x::td) zA)(K:l.contains x=true):∃j,k=j+1/\UU st dS iX hb j l td zA:=by
 obtain⟨j,rfl⟩:∃j,k=j+1:=⟨k-1,by have:=h.fuel;omega⟩;refine⟨j,rfl,?_,by have:=h.fuel;simp only[aN]at this;omega,h.nodup,h.see,fun y hy=>h.td y (bh _ hy)⟩;have:=h.eq;unfold reF at this;rw[aF K]at this;exact this
theorem GK{st:Int->List Int}{dS:Nat}{iX hb:List Int}{k:Nat}{l td zA:List Int}{x:Int}(hM:∀y,(st y).length<=dS)(hU:∀y,∀z∈st y,z∈hb)(h:UU st dS iX hb k l (x::td) zA)(K:l.contains x=false):∃j Jk,k=j+1/\Jk.length<zA.length/\UU st dS iX hb j (l++[x]) (td++st x) Jk:=by
 obtain⟨j,rfl⟩:∃j,k=j+1:=⟨k-1,by have:=h.fuel;omega⟩;have hr:x∈zA:=(h.see x (h.td x (bB ..))).resolve_left fun q=>by
  rw[<- cQ]at q;rw[K]at q;cases q
 have fj:(zA.filter (. !=x)).length<zA.length:=List.length_filter_lt_length_iff_exists.2 ⟨x,hr,by simp⟩;refine⟨j,zA.filter (. !=x),rfl,fj,?_,?_,?_,fun y hy=>?_,fun y hy=>(bj.1 hy).elim (fun q=>h.td y (bh _ q)) (hU x y)⟩
 . have:=h.eq;unfold reF at this;rw[aD (by rw[K];decide)]at this;exact this
 . have h1:=h.fuel;have C:=hM x;have h3:((zA.filter (. !=x)).length+1)*(dS+1)<=zA.length*(dS+1):=cV _ fj;rw[dw,Nat.one_mul]at h3;rw[az];simp only[aN]at h1;omega
 . have:=h.nodup;rw[az,bS];omega
 . rcases h.see y hy with q|q
   . exact .inl (List.mem_append_left _ q)
   . by_cases e:y=x
     . exact .inl (List.mem_append_right _ (by rw[e];exact aI.2 rfl))
     . exact .inr (List.mem_filter.2 ⟨q,by simpa using e⟩)
theorem anF(x:Int)(td:List Int):V.eM false ((x::td).length-1) (dU (eL (x::td)) 1 (((x::td).length-1)*1))=fD td:=by
 have e:dU (eL (x::td)) 1 (((x::td).length-1)*1)=eL td:=by
  unfold dU eL;rw[b9,List.drop_succ_cons,bA,aN,Nat.add_sub_cancel,cR,<- bM (f:=D.int .i64),br]
 rw[e];rfl
theorem Jl(d:Dc)(id:Int)(gm:Bool)(hd:D5 d)(hu:gm=true->Jh d.ly)(hU:(fW d.ly).length<=10000):ee ak 56 [d.v,R id,.bool gm] (fD (jy d.ly gm id)):=by
 have hS:=fun id=>ZD d id gm hd hu;have hN:=lS d.ly gm;refine mz Tryz.func56 (fN 3 (ff (hS id) (be _)) (anv d id gm (gB d.ly gm id)) (eO rfl) ?_);generalize hR:jy d.ly gm id=iX;generalize wm:gB d.ly gm=st at *;have hI:UU st (2*(fW d.ly).length) iX (fW d.ly) (vt d.ly) [] (st id) (fW d.ly):=by
  refine⟨by rw[<- hR];unfold jy;rw[wm],?_,by simp,fun y hy=>.inr hy,(hN id).1⟩;have h1:=(hN id).2;have e:(fW d.ly).length*(2*(fW d.ly).length+1)+(fW d.ly).length=(fW d.ly).length*(2*(fW d.ly).length+2):=by rw[Nat.mul_add,Nat.mul_add];omega
  unfold vt;omega
 have hF:vt d.ly<=500000000:=by
  unfold vt;have:=Nat.mul_le_mul hU (show 2*(fW d.ly).length+2<=20002 by omega);omega
 have hT:TG ak 0 Tryz.f56.ntmps (dO (dH 3 yV)) (ZF d gm [] (st id) []) (andThen (fun T=>TG ak 0 Tryz.f56.ntmps (eB (dH 3 yV)) T (gi ak 0 Tryz.f56 (uI (fD iX)))) (gi ak 0 Tryz.f56 (uI (fD iX)))):=by
  refine fJ (i:=0) dJ (j9 (fun m s=>∃l td zA,(UU st (2*(fW d.ly).length) iX (fW d.ly) m l td zA/\m<=vt d.ly)/\eJ ak 0 Tryz.f56.ntmps s (ZF d gm l td [])) dJ ?_ (vt d.ly) ⟨[],st id,fW d.ly,⟨hI,aK _⟩,.refl⟩);rintro m s1 ⟨l,td,zA,⟨hi,L⟩,pQ⟩;refine pQ _ _ ?_;have hll:l.length<=10000:=by have:=hi.nodup;omega
  have xw:td=[]->TG ak 0 Tryz.f56.ntmps (eB (dH 3 yV)) (ZF d gm l td []) (gi ak 0 Tryz.f56 (uI (fD iX))):=fun e=>by
   have hl:l=iX:=by
    have:=hi.eq;subst e;obtain⟨j,rfl⟩:∃j,m=j+1:=⟨m-1,by have:=hi.fuel;omega⟩;exact this
   rw[<- hl];cases l with
   |nil=>exact eR (be _) (anA d gm td) (dK (g0 ⟨all_nil,_,_,_,rfl,.Am (v0:=.eM false 0 []) [0] (hc:=[([]:ai).length=0*1]) dJ (eO rfl) dJ dJ⟩))
   |cons y l=>exact eR (be _) (ae4 d gm (y::l) td) (dK (g0 ⟨all_nil,_,_,_,rfl,.Am (v0:=fD (y::l)) [0] (hc:=[(eL (y::l)).length=(y::l).length*1]) dJ (eO (eI _)) dJ dJ⟩))
  have KK:∀s2 b,td=[]->lB 0 [2,3,7,8] s2=some (ZF d gm l td [])->b=0->andThen (fun T=>∃k',k'<m/\∃l td zA,(UU st (2*(fW d.ly).length) iX (fW d.ly) k' l td zA/\k'<=vt d.ly)/\eJ ak 0 Tryz.f56.ntmps T (ZF d gm l td [])) (gT 0 (andThen (fun T=>TG ak 0 Tryz.f56.ntmps (eB (dH 3 yV)) T (gi ak 0 Tryz.f56 (uI (fD iX)))) (gi ak 0 Tryz.f56 (uI (fD iX))))) (.exit b) s2:=fun s2 b e rP U=>by
   subst U;simp only[andThen];rw[jc];exact gj rP (xw e)
  have htl:td.length<=500000000:=by
   have h1:=hi.fuel;omega
  have Rv:∀x tl,td=x::tl->TG ak 0 Tryz.f56.ntmps (eB bRe) (ZF d gm l td []) (andThen (fun T=>∃k',k'<m/\∃l td zA,(UU st (2*(fW d.ly).length) iX (fW d.ly) k' l td zA/\k'<=vt d.ly)/\eJ ak 0 Tryz.f56.ntmps T (ZF d gm l td [])) (gT 0 (andThen (fun T=>TG ak 0 Tryz.f56.ntmps (eB (dH 3 yV)) T (gi ak 0 Tryz.f56 (uI (fD iX)))) (gi ak 0 Tryz.f56 (uI (fD iX)))))):=by
   rintro x tl rfl;refine fJ (i:=1) dJ ?_;have A1:(0:Int)<=(0:Int)/\(0:Int)<Int.ofNat (x::tl).length:=⟨Int.le_refl _,by simp only[gD,aN];omega⟩;have A2:=eI (x::tl);have A3:V.eo (dU (eL (x::tl)) 0 1)=V.eo [D.int B x]:=rfl;have A4:(0:Int)<=(1:Int)/\(1:Int)<=Int.ofNat (x::tl).length:=⟨fg,by simp only[gD,aN];omega⟩;have A5:=anF x tl;have CD:=hN x;simp only[aN]at htl;have hts:(st x).length<=20000:=by have:=CD.2;omega
   have UT:List.take ((0+tl.length)*1) (List.drop 0 ([]++eL tl))++eL (st x)=eL (tl++st x):=by
    rw[bG,bA,bI,cr (Nat.le_of_eq (eI tl))];exact(bL ..).symm
   have jJ:0+tl.length+(st x).length=(tl++st x).length:=by rw[az];omega
   have B1:=eI tl;have B2:=eI (st x);cases l with
   |nil=>
    refine fN 3 Ru (anw d gm tl x) (X A1 (X A2 (X A3 (X A2 (X A4 (X A5 (X rfl (X rfl (X rfl (eO fg)))))))))) ?_;refine kz (t:=true) dJ dJ (fun _=>?_) (fun h=>by cases h);obtain⟨j,Jk,rfl,fj,jX⟩:=GK (fun y=>(hN y).2) (fun y=>(hN y).1) hi rfl;have h4:=anx d gm tl (st x) x;rw[UT,jJ]at h4;refine gw (ff (hS x) (be _)) eP h4 (dK (g0 ⟨X B1 (X (GI S) (X rfl (X B2 (X (by simp only[az,cm];omega) (eO (GI (by rw[az];omega))))))),fun T eu=>?_⟩));simp only[gT,andThen];refine⟨j,Nat.lt_succ_self j,[x],tl++st x,Jk,⟨jX,S⟩,?_⟩;generalize tl++st x=Xe at eu;refine((eJ.norm eu).trans (eJ.own [(1,.i64)] (dF:=fI [(2,.bool gm),(3,.ptr (some (0,0))),(7,.fk (some (1,0)) 1 1 1),(8,.fk (some (2,0)) Xe.length Xe.length 1)] (mRe d [(1,.own .i64 [x]),(2,.deep (eL Xe))]) 3) dJ)).trans (eJ.Fl [2] [2,3,7,8] (hc:=[(eL Xe).length=Xe.length*1]) dJ (eO (eI _)))
   |cons y l=>
    have h2:=X A1 (X A2 (X A3 (X A2 (X A4 (X A5 (X (eI (y::l)) (X (aG eL (fO (y::l)).symm) (X (aG List.length (fO (y::l)).symm) (eO (show(y::l).length<=1000000 by omega))))))))));refine uB 3 Ru (ae2 d gm (y::l) tl x) (dN (g1 fun h1=>⟨h2,_,rfl,?_⟩) (dK (g1 fun h1=>⟨h2,_,rfl,?_⟩)))
    . rw[fO]at h1;have K:(y::l).contains x=false:=by cases hq:(y::l).contains x<;>rw[hq]at h1<;>first|rfl|cases h1
      refine kz (t:=true) dJ dJ (fun _=>?_) (fun h=>by cases h);obtain⟨j,Jk,rfl,fj,jX⟩:=GK (fun y=>(hN y).2) (fun y=>(hN y).1) hi K;have h4:=ae3 d gm (y::l) tl (st x) x;rw[UT,jJ,bA,cR,br]at h4;have Tn:(y::l).length+1=(y::l++[x]).length:=by rw[az];rfl
      have hr:fM ((y::l).length+1) 1 8=true:=GI S;have hp:0<(y::l).length:=by simp only[aN];omega
      refine gw (ff (hS x) (be _)) eP h4 (dK (g0 ⟨X hp (X S (X fg (X hr (X B1 (X (GI S) (X rfl (X B2 (X (by simp only[az,cm];omega) (eO (GI (by rw[az];omega))))))))))),fun T eu=>?_⟩));simp only[gT,andThen];refine⟨j,Nat.lt_succ_self j,y::l++[x],tl++st x,Jk,⟨jX,S⟩,?_⟩;rw[Tn]at eu;generalize tl++st x=Xe at eu;have e:y::l++[x]=y::(l++[x]):=rfl;rw[e]at eu ⊢;generalize l++[x]=l2 at eu;exact(eJ.norm eu).trans (eJ.Fl [2] [2,3,7,8] (hc:=[(eL Xe).length=Xe.length*1]) dJ (eO (eI _)))
    . rw[fO]at h1;have K:(y::l).contains x=true:=by cases hq:(y::l).contains x<;>rw[hq]at h1<;>first|rfl|cases h1
      obtain⟨j,rfl,jX⟩:=Jj hi K;refine kz (t:=false) dJ dJ (fun h=>by cases h) (fun _=>?_);refine gw (be _) eP (anz d gm (y::l) tl x) (dK (g0 ⟨all_nil,fun T eu=>?_⟩));simp only[gT,andThen];exact⟨j,Nat.lt_succ_self j,y::l,tl,zA,⟨jX,S⟩,eJ.norm eu⟩
  cases td with
  |nil=>
   cases l with
   |nil=>exact qm (be _) eP (ae1 d gm []) (dN (g1 fun h1=>absurd h1 fg) (dK (g1 fun h1=>⟨all_nil,fun T eu=>KK T 0 rfl eu rfl⟩)))
   |cons y l=>exact qm (be _) eP (Xd d gm (y::l) []) (dN (g1 fun h1=>absurd h1 fg) (dK (g1 fun h1=>⟨all_nil,fun T eu=>KK T 0 rfl eu rfl⟩)))
  |cons x tl=>
   have hp:decide (Int.ofNat (x::tl).length>0)=true:=aW (by simp only[gD,aN];omega);cases l with
   |nil=>exact qm (be _) eP (ae1 d gm (x::tl)) (dN (g1 fun h1=>⟨all_nil,Rv x tl rfl⟩) (dK (g1 fun h1=>by rw[hp]at h1;cases h1)))
   |cons y l=>exact qm (be _) eP (Xd d gm (y::l) (x::tl)) (dN (g1 fun h1=>⟨all_nil,Rv x tl rfl⟩) (dK (g1 fun h1=>by rw[hp]at h1;cases h1)))
 exact dY dJ hT
set_option maxRecDepth 10000
section
variable{N n0:Nat}{c:Code}{s:St}{Q:Exit->St->Prop}
theorem je(b n:Nat)(dF:Nat->St)(t:Nat->Bool)(h0:eJ ak N n0 s (dF 0))
  (U:∀i,i<=n->(∀j,j<i->t j=false)->∀Q':Exit->St->Prop,(i<n->t i=false->∀T,eJ ak N n0 T (dF (i+1))->Q' .normal T)->(i=n->∀T,eJ ak N n0 T (dF i)->Q' (.exit b) T)->(∀T,Q .ret T->Q' .ret T)->TG ak N n0 (dP (dP c)) (dF i) Q')
  (he:(∀j,j<n->t j=false)->∀T,eJ ak N n0 T (dF n)->Q .normal T) (hs:(nC c b&&o4 (dP c))=true:=by kernel_rfl):TG ak N n0 c s Q:=by
 rw[ay]at hs;refine fJ (i:=b) hs.1 (j9 (fun m s=>∃i,m=n-i/\i<=n/\(∀j,j<i->t j=false)/\eJ ak N n0 s (dF i)) hs.2 ?_ n ⟨0,S,aR _,fun _ h=>absurd h (bE _),h0⟩);rintro m s1 ⟨i,rfl,hi,hj,hg⟩;refine hg _ _ (U i hi hj _ (fun h1 C T eu=>?_) (fun h1 T eu=>?_) (fun T h=>?_))
 . simp only[andThen];refine⟨n-(i+1),S,i+1,rfl,h1,fun j W8=>?_,eu⟩;rcases bx j i with q|q
   . exact hj j q
   . obtain rfl:j=i:=by omega
     exact C
 . subst h1;simp only[andThen];rw[jc];exact he hj T eu
 . simp only[andThen,gT];exact h
end
section
variable(s:Sp)(i j:Nat)(a:Int)
def M9.at(m:M9):Nat->Int
 |0=>m.a|1=>m.b|2=>m.c|3=>m.d|4=>m.e|5=>m.f|6=>m.g|7=>m.h|_=>m.i
def Sp.cv:Nat->List Int
 |0=>s.c0|1=>s.c1|_=>s.c2
noncomputable abbrev ae5:Code:=dQ Tryz.f114
def rj(r:List (Nat×V)):St:=fI ([(1,.ptr (some (0,0)))]++r) (hL [(0,.cells (D.gk s.ds))]) 1
noncomputable abbrev ZG:Code:=dH 1 ae5
noncomputable abbrev ZH:Code:=dH 1 ZG
noncomputable abbrev ZI:Code:=dH 1 ZH
noncomputable abbrev ae6:Code:=dP (dP (eB (dO ZG)))
noncomputable abbrev ae7:Code:=dP (dP (eB (dO ZH)))
noncomputable abbrev ZJ:Code:=dP (dP (eB (dO ZI)))
noncomputable abbrev ae8:Code:=dP (dO (eB ZJ))
noncomputable abbrev ZK:Code:=dP (dP (eB ae8))
noncomputable abbrev ZL:Code:=dP (dO (eB ZK))
noncomputable abbrev ae9:Code:=dO (eB ZL)
noncomputable abbrev afa:Code:=dP (dP (eB ae9))
abbrev n3:Prop:=(0:Int)<=Int.ofNat i/\Int.ofNat i<3
abbrev n9:Prop:=(0:Int)<=Int.ofNat i/\Int.ofNat i<9
theorem anG:H (M ew []) [] 0 Tryz.f114 [1] (ek 1 ae5) (dI [s.v] .nil 0) [([],[],eC (rj s []))]:=G.Y
theorem anH:H (M ew []) [] 0 Tryz.f114 [1,3] (dO (dO ZG)) (rj s []) [([],[],eC (rj s [(3,J 0)]))]:=G.Y
theorem anI:H (M ew []) [] 0 Tryz.f114 [1,3] (ae6) (rj s [(3,J 3)]) [([],[],.to (.exit 0) (rj s [(3,J 3)]))]:=G.Y
theorem anJ:H (M ew []) [] 0 Tryz.f114 [1,5] (dO (dO ZH)) (rj s [(3,J 3)]) [([],[],eC (rj s [(5,J 0)]))]:=G.Y
theorem anK:H (M ew []) [] 0 Tryz.f114 [1,5] (ae7) (rj s [(5,J 9)]) [([],[],.to (.exit 2) (rj s [(5,J 9)]))]:=G.Y
theorem anL:H (M ew []) [] 0 Tryz.f114 [1,6] (dO (dO ZI)) (rj s [(5,J 9)]) [([],[],eC (rj s [(6,J 0)]))]:=G.Y
theorem anM:H (M ew []) [] 0 Tryz.f114 [] (eB ZI) (rj s [(6,J 3)]) [([],[],B0)]:=G.Y
theorem anN:H (M ew []) [] 0 Tryz.f114 [1,6,7] (dO ae8) (rj s [(6,J i)]) [([],[],eC (rj s [(6,J i),(7,J 0)]))]:=G.Y
theorem anO:H (M ew []) [(52,.split)] 0 Tryz.f114 [1,6] (dO ZJ) (rj s [(6,J i)]) (fV (decide (Int.ofNat i<(3:Int))) ([],eC (rj s [(6,J i)])) ([],.to (.exit 4) (rj s [(6,J i)]))):=G.Y
theorem anP:H (M ew []) [(56,.split)] 0 Tryz.f114 [1,6,7] (dO ZK) (rj s [(6,J i),(7,J j)]) (fV (decide (Int.ofNat j<(3:Int))) ([],eC (rj s [(6,J i),(7,J j)])) ([],.to (.exit 6) (rj s [(6,J i),(7,J j)]))):=G.Y
theorem anQ:H (M ew []) [] 0 Tryz.f114 [1,6,7,8] (dO ZL) (rj s [(6,J i),(7,J j)]) [([],[],eC (rj s [(6,J i),(7,J j),(8,J 0)]))]:=G.Y
theorem anR:H (M ew []) [] 0 Tryz.f114 [1,6,7,8,9] (dO ae9) (rj s [(6,J i),(7,J j),(8,R a)]) [([],[],eC (rj s [(6,J i),(7,J j),(8,R a),(9,J 0)]))]:=G.Y
theorem afb:H (M ew []) [] 0 Tryz.f114 [1,6,7,8,9] (afa) (rj s [(6,J i),(7,J j),(8,R a),(9,J 3)]) [([],[],.to (.exit 8) (rj s [(6,J i),(7,J j),(8,R a),(9,J 3)]))]:=G.Y
theorem anS:H (M ew []) [(82,.split),(87,.split),(89,.split)] 0 Tryz.f114 [1,6,7] (eB (eB ZL)) (rj s [(6,J i),(7,J j),(8,R a),(9,J 3)]) [([(Int.ofNat i==Int.ofNat j,true),(decide (IntKind.i64.wrap (a-(16777216:Int))<(-32768:Int)),true)],[],ji),([(Int.ofNat i==Int.ofNat j,true),(decide (IntKind.i64.wrap (a-(16777216:Int))<(-32768:Int)),false),(decide (IntKind.i64.wrap (a-(16777216:Int))>(32768:Int)),true)],[],ji),([(Int.ofNat i==Int.ofNat j,true),(decide (IntKind.i64.wrap (a-(16777216:Int))<(-32768:Int)),false),(decide (IntKind.i64.wrap (a-(16777216:Int))>(32768:Int)),false)],[],eC (rj s [(6,J i),(7,J j)])),([(Int.ofNat i==Int.ofNat j,false),(decide (a<(-32768:Int)),true)],[],ji),([(Int.ofNat i==Int.ofNat j,false),(decide (a<(-32768:Int)),false),(decide (a>(32768:Int)),true)],[],ji),([(Int.ofNat i==Int.ofNat j,false),(decide (a<(-32768:Int)),false),(decide (a>(32768:Int)),false)],[],eC (rj s [(6,J i),(7,J j)]))]:=G.Y
theorem anT:H (M ew []) [(58,.dL (J (j+1)))] 0 Tryz.f114 [1,6,7] (eB (eB ZK)) (rj s [(6,J i),(7,J j)]) [([],[oq j],eC (rj s [(6,J i),(7,J (j+1))]))]:=G.Y
theorem anU:H (M ew []) [(54,.dL (J (i+1)))] 0 Tryz.f114 [1,6] (eB (eB ZJ)) (rj s [(6,J i),(7,J 3)]) [([],[oq i],eC (rj s [(6,J (i+1))]))]:=G.Y
end
section
variable(s:Sp)(x a:Int)
theorem anV(b:Bool):∀i,i<3->H (M (fa 137 [fD (s.cv i)] (.bool b) ew) []) [(20,.split)] 0 Tryz.f114 [1,3] ae6 (rj s [(3,J i)]) [([(!b,true)],[n3 i,fG [fD (s.cv i)]],.ret (.bool false) (hL []) 0),([(!b,false)],[n3 i,fG [fD (s.cv i)]],.to .normal (rj s [(3,J (i+1))]))]:=by
 intro i hi;obtain rfl|rfl|rfl:i=0\/i=1\/i=2:=by omega
 all_goals exact G.Y
abbrev x1:Bool:=decide (x<(-65536:Int))
abbrev x2:Bool:=decide (x>(65536:Int))
theorem anW:∀i,i<9->H (M ew []) [(29,.split),(35,.split),(42,.split),(49,.split)] 0 Tryz.f114 [1,5] ae7 (rj s [(5,J i)]) [([(x1 (s.to.at i),true)],[n9 i],.ret (.bool false) (hL []) 0),([(x1 (s.to.at i),false),(x2 (s.to.at i),true)],[n9 i,n9 i],.ret (.bool false) (hL []) 0),([(x1 (s.to.at i),false),(x2 (s.to.at i),false),(x1 (s.F.at i),true)],[n9 i,n9 i,n9 i],.ret (.bool false) (hL []) 0),([(x1 (s.to.at i),false),(x2 (s.to.at i),false),(x1 (s.F.at i),false),(x2 (s.F.at i),true)],[n9 i,n9 i,n9 i,n9 i],.ret (.bool false) (hL []) 0),([(x1 (s.to.at i),false),(x2 (s.to.at i),false),(x1 (s.F.at i),false),(x2 (s.F.at i),false)],[n9 i,n9 i,n9 i,n9 i],.to .normal (rj s [(5,J (i+1))]))]:=by
 intro i hi;obtain rfl|rfl|rfl|rfl|rfl|rfl|rfl|rfl|rfl:i=0\/i=1\/i=2\/i=3\/i=4\/i=5\/i=6\/i=7\/i=8:=by omega
 all_goals exact G.Y
def prI(i j k:Nat)(a:Int):Int:=IntKind.i64.wrap (a+IntKind.i64.wrap (s.F.at (3*i+k)*s.to.at (3*k+j)))
theorem anX:∀i j k,i<3->j<3->k<3->H (M ew []) [] 0 Tryz.f114 [1,6,7,8,9] afa (rj s [(6,J i),(7,J j),(8,R a),(9,J k)]) [([],[n9 (3*i+k),n9 (3*k+j)],.to .normal (rj s [(6,J i),(7,J j),(8,R (prI s i j k a)),(9,J (k+1))]))]:=by
 intro i j k hi hj hk;obtain rfl|rfl|rfl:i=0\/i=1\/i=2:=by omega
 all_goals obtain rfl|rfl|rfl:j=0\/j=1\/j=2:=by omega
 all_goals obtain rfl|rfl|rfl:k=0\/k=1\/k=2:=by omega
 all_goals exact G.Y
end
set_option maxRecDepth 10000
def ZM(s:Sp)(i j:Nat):Nat->Int
 |0=>0
 |k+1=>prI s i j k (ZM s i j k)
section
variable(s:Sp)(i j:Nat)
def fiI:Int:=bif (Int.ofNat i==Int.ofNat j)then IntKind.i64.wrap (ZM s i j 3-16777216)else ZM s i j 3
def AB:Bool:=decide (fiI s i j< -32768)||decide (fiI s i j>32768)
def GL:Bool:=(x1 (s.to.at i)||x2 (s.to.at i))||(x1 (s.F.at i)||x2 (s.F.at i))
end
def Bo(s:Sp):Bool:=!((List.range 3).any fun i=>!kp (s.cv i))&&(!((List.range 9).any (GL s))&& !((List.range 3).any fun i=>(List.range 3).any (AB s i)))
structure Tu(s:Sp):Prop where
 c0:s.c0.length<=1000000
 c1:s.c1.length<=1000000
 c2:s.c2.length<=1000000
theorem Tu.cv{s:Sp}(h:Tu s):∀i,(s.cv i).length<=1000000000
 |0=>bN h.c0 fg
 |1=>bN h.c1 fg
 |_+2=>bN h.c2 fg
section
variable{i:Nat}
theorem lt3:decide (Int.ofNat i<(3:Int))=true↔i<3:=⟨fun h=>cE.1 (aZ h),fun h=>aW (cE.2 h)⟩
theorem ge3:decide (Int.ofNat i<(3:Int))=false↔3<=i:=⟨fun h=>by have:=bt h;simp only[gD]at this;omega,fun h=>aX (by simp only[gD];omega)⟩
theorem afc(h:i<3):n3 i:=⟨bJ _,cE.2 h⟩
theorem yX(h:i<9):n9 i:=⟨bJ _,cE.2 h⟩
end
theorem anY(s:Sp)(hd:Tu s):ee ak 114 [s.v] (.bool (Bo s)):=by
 refine fc Tryz.func114 (fN 1 (be _) (anG s) all_nil ?_);refine dY dJ (dY dJ (gw (be _) eP (anH s) (dK (g0 ⟨all_nil,fun T eu=>?_⟩))));simp only[andThen];refine je 0 3 (fun i=>rj s [(3,J i)]) (fun i=>!kp (s.cv i)) (eJ.norm eu) (fun i hi hj Q' k1 k2 k3=>?_) (fun h1 T eu=>?_)
 . rcases bx i 3 with q|q
   . have hc:=X (afc q) (eO (show fG [fD (s.cv i)]from rfl));refine gw (ff (c5D (s.cv i) (hd.cv i)) (be _)) (fun u _ _=>u= .bool (Bo s)) (anV s (kp (s.cv i)) i q) (dN (g1 fun h=>⟨hc,?_⟩) (dK (g1 fun h=>⟨hc,fun T eu=>k1 q h T (eJ.norm eu)⟩)));refine⟨aG V.bool (Eq.symm ?_),k3⟩;unfold Bo;rw[qZ (f:=fun i=>!kp (s.cv i)) q h];rfl
   . obtain rfl:i=3:=by omega
     exact gw (be _) eP (anI s) (dK (g0 ⟨all_nil,fun T eu=>k2 rfl T (eJ.norm eu)⟩))
 simp only[andThen];refine eu _ _ ?_;refine dY dJ (dY dJ (gw (be _) eP (anJ s) (dK (g0 ⟨all_nil,fun T eu=>?_⟩))));simp only[andThen];refine je 2 9 (fun i=>rj s [(5,J i)]) (GL s) (eJ.norm eu) (fun i hi hj Q' k1 k2 k3=>?_) (fun C T eu=>?_)
 . rcases bx i 9 with q|q
   . have hc:=yX q;refine gw (be _) (fun u _ _=>u= .bool (Bo s)) (anW s i q) ?_;have U:GL s i=true->Bo s=false:=fun h=>by
      unfold Bo;rw[qZ (f:=GL s) q h];simp
     repeat' (first|exact ij|refine dN ?_ ?_)
     all_goals
      intro A;simp only[aA,aH,bq,aL,bn]at A;refine⟨by repeat' (first|exact all_nil|refine X hc ?_),?_⟩
      first
      |exact⟨aG V.bool (U (by simp only[GL,A,cL,bX,bY,dg])).symm,k3⟩
      |exact fun T eu=>k1 q (by simp only[GL,A,cL]) T (eJ.norm eu)
   . obtain rfl:i=9:=by omega
     exact gw (be _) eP (anK s) (dK (g0 ⟨all_nil,fun T eu=>k2 rfl T (eJ.norm eu)⟩))
 simp only[andThen];refine eu _ _ ?_;refine dY dJ (dY dJ (gw (be _) eP (anL s) (dK (g0 ⟨all_nil,fun T eu=>?_⟩))));simp only[andThen];refine je 4 3 (fun i=>rj s [(6,J i)]) (fun i=>(List.range 3).any (AB s i)) (eJ.norm eu) (fun i hi hj Q' k1 k2 k3=>?_) (fun h3 T eu=>?_)
 . refine qm (be _) eP (anO s i) (dN (g1 fun h=>⟨all_nil,?_⟩) (dK (g1 fun h=>⟨all_nil,fun T eu=>k2 (by have:=ge3.1 h;omega) T (eJ.norm eu)⟩)));have q:=lt3.1 h;refine dY dJ (fJ (i:=5) dJ (dY dJ (gw (be _) eP (anN s i) (dK (g0 ⟨all_nil,fun T eu=>?_⟩)))));simp only[andThen];refine je 6 3 (fun j=>rj s [(6,J i),(7,J j)]) (AB s i) (eJ.norm eu) (fun j zB hjj Q2 m1 m2 m3=>?_) (fun h4 T eu=>?_)
   . refine qm (be _) eP (anP s i j) (dN (g1 fun h=>⟨all_nil,?_⟩) (dK (g1 fun h=>⟨all_nil,fun T eu=>m2 (by have:=ge3.1 h;omega) T (eJ.norm eu)⟩)));have qj:=lt3.1 h;refine dY dJ (fJ (i:=7) dJ (dY dJ (gw (be _) eP (anQ s i j) (dK (g0 ⟨all_nil,fun T eu=>?_⟩)))));simp only[andThen];refine gj eu ?_;refine dY dJ (dY dJ (gw (be _) eP (anR s i j 0) (dK (g0 ⟨all_nil,fun T eu=>?_⟩))));simp only[andThen];refine je 8 3 (fun k=>rj s [(6,J i),(7,J j),(8,R (ZM s i j k)),(9,J k)]) (fun _=>false) (eJ.norm eu) (fun k hk Ij Q3 o1 o2 o3=>?_) (fun h5 T eu=>?_)
     . rcases bx k 3 with qk|qk
       . exact gw (be _) eP (anX s (ZM s i j k) i j k q qj qk) (dK (g0 ⟨X (yX S) (eO (yX S)),fun T eu=>o1 qk rfl T (eJ.norm eu)⟩))
       . obtain rfl:k=3:=by omega
         exact gw (be _) eP (afb s i j _) (dK (g0 ⟨all_nil,fun T eu=>o2 rfl T (eJ.norm eu)⟩))
     simp only[andThen];refine eu _ _ ?_;have U:AB s i j=true->Bo s=false:=fun h=>by
      unfold Bo;rw[qZ (f:=fun i=>(List.range 3).any (AB s i)) q (qZ (f:=AB s i) qj h)];simp
     refine gw (be _) (fun u _ _=>u= .bool (Bo s)) (anS s i j (ZM s i j 3)) ?_
     repeat' (first|exact ij|refine dN ?_ ?_)
     all_goals
      intro A;simp only[aA,aH,bq,aL,bn]at A;refine⟨all_nil,?_⟩
      first
      |exact⟨aG V.bool (U (by simp only[AB,fiI,A,cond_true,cond_false,cL,bX,bY,dg])).symm,fun T h=>m3 T (k3 T h)⟩
      |exact fun T eu=>by
        simp only[gT,andThen];exact gj eu (gw (be _) eP (anT s i j) (dK (g0 ⟨eO (gV S),fun T eu=>m1 qj (by simp only[AB,fiI,A,cond_true,cond_false,cL]) T (eJ.norm eu)⟩)))
   simp only[gT,andThen];refine eu _ _ (gw (be _) eP (anU s i) (dK (g0 ⟨eO (gV S),fun T eu=>k1 q (q8 h4) T (eJ.norm eu)⟩)))
 simp only[andThen];refine eu _ _ (eR (be _) (anM s) (dK (g0 ⟨all_nil,_,_,_,rfl,aG V.bool (Eq.symm ?_)⟩)));unfold Bo;rw[q8 h1,q8 C,q8 h3];rfl
set_option maxRecDepth 10000
def df(e i:Int):V:=.agg [R e,R i]
noncomputable abbrev afd:Code:=dQ Tryz.f85
noncomputable abbrev afe:Code:=dH 1 afd
noncomputable abbrev UW:Code:=eB afe
noncomputable abbrev ZN:Code:=dH 1 (eB UW)
noncomputable abbrev ZO:Code:=eB ZN
noncomputable abbrev anZ:Code:=dP (dP (eB (dO UW)))
noncomputable abbrev an0:Code:=dP (dP (eB (dO ZN)))
def mWh(d:Dc):I es:=hL [(0,.cells d.cs),(1,.cells [R 0,R 0])]
def Ev(d:Dc)(r:List (Nat×V)):St:=fI ([(1,.ptr (some (0,0))),(2,.ptr (some (1,0)))]++r) (mWh d) 2
theorem an1(d:Dc):H (M ew []) [] 0 Tryz.f85 [1,2] (ek 1 afd) (dI [d.v] .nil 0) [([],[],eC (Ev d []))]:=G.Y
theorem an2(d:Dc):H (M ew []) [(12,.split),(17,.split),(22,.split),(27,.split)] 0 Tryz.f85 [1,2] (dO afe) (Ev d []) (adP (decide ((Int.ofNat d.sp.length)>(8:Int))) (decide ((Int.ofNat d.ly.length)>(40:Int))) (decide (d.nx<(1:Int))) (decide (d.nx>(1048576:Int))) ([],.ret (.agg [.int .i64 2,.int .i64 0]) (hL []) 0) ([],eC (Ev d []))):=G.Y
theorem an3(d:Dc):H (M ew []) [] 0 Tryz.f85 [1,2,3] (dO (dO UW)) (Ev d []) [([],[],eC (Ev d [(3,J 0)]))]:=G.Y
abbrev Rw(s:Sp):Prop:=V.jj ([]++[V.agg (List.take 21 (List.drop 0 (D.gk s.ds)))]++[])=[s.v]
theorem an4(d:Dc)(i:Nat)(s:Sp)(b:Bool):H (M (fa 114 [s.v] (.bool b) ew) []) [(34,.split),(40,.dL (.eo s.ds)),(43,.split),(36,.dL (J (i+1)))] 0 Tryz.f85 [1,2,3] (anZ) (Ev d [(3,J i)]) (sI (decide (Int.ofNat i<(Int.ofNat d.sp.length))) b ([fT i d.sp.length,(lj d.sp).length=d.sp.length*21,gv (lj d.sp) i 21 s.ds,Rw s,oq i],eC (Ev d [(3,J (i+1))])) ([fT i d.sp.length,(lj d.sp).length=d.sp.length*21,gv (lj d.sp) i 21 s.ds,Rw s],.ret (.agg [.int .i64 23,.int .i64 0]) (hL []) 0) ([],.to (.exit 0) (Ev d [(3,J i)]))):=G.Y
theorem an5(d:Dc)(i:Nat):H (M ew []) [] 0 Tryz.f85 [1,2,5,6] (ek 1 (eB UW)) (Ev d [(3,J i)]) [([],[],eC (Ev d [(5,R 0)]))]:=G.Y
theorem an6(d:Dc):H (M ew []) [] 0 Tryz.f85 [1,2,5,6] (dO (dO ZN)) (Ev d [(5,R 0)]) [([],[],eC (Ev d [(5,R 0),(6,J 0)]))]:=G.Y
theorem an7(d:Dc)(i:Nat)(p:Int)(x:eV):H (M ew []) [(50,.split),(56,.dL (.eo x.ds)),(61,.split),(66,.split),(52,.dL (J (i+1)))] 0 Tryz.f85 [1,2,5,6] (an0) (Ev d [(5,R p),(6,J i)]) [([(decide (Int.ofNat i<(Int.ofNat d.ly.length)),true),(decide (x.id<=p),true)],[fT i d.ly.length,nK d.ly,gv (fR d.ly) i 31 x.ds],.ret (.agg [.int .i64 40,.int .i64 (x.id)]) (hL []) 0),([(decide (Int.ofNat i<(Int.ofNat d.ly.length)),true),(decide (x.id<=p),false),(decide (x.id>=d.nx),true)],[fT i d.ly.length,nK d.ly,gv (fR d.ly) i 31 x.ds],.ret (.agg [.int .i64 40,.int .i64 (x.id)]) (hL []) 0),([(decide (Int.ofNat i<(Int.ofNat d.ly.length)),true),(decide (x.id<=p),false),(decide (x.id>=d.nx),false)],[fT i d.ly.length,nK d.ly,gv (fR d.ly) i 31 x.ds,oq i],eC (Ev d [(5,R x.id),(6,J (i+1))])),([(decide (Int.ofNat i<(Int.ofNat d.ly.length)),false)],[],.to (.exit 2) (Ev d [(5,R p),(6,J i)]))]:=G.Y
theorem an8(d:Dc)(a p:Int)(i:Nat):H (M (fa 24 [d.v,R d.root] (R a) ew) []) [] 0 Tryz.f85 [1,2,8] (ek 1 ZO) (Ev d [(5,R p),(6,J i)]) [([],[V.jj ([]++[V.agg (List.take 4 (List.drop 0 d.cs)),R d.root]++[])=[d.v,R d.root]],eC (Ev d [(8,R a)]))]:=G.Y
theorem an9(d:Dc):H (M ew []) [] 0 Tryz.f85 [] (dH 1 ZO) (Ev d [(8,R (-1))]) [([],[],.ret (.agg [.int .i64 40,.int .i64 (d.root)]) (hL []) 0)]:=G.Y
theorem aoa(d:Dc)(n:Nat)(x:eV):H (M ew []) [(81,.dL (.eo x.ds)),(76,.dL (.bool false)),(84,.split)] 0 Tryz.f85 [] (dH 1 ZO) (Ev d [(8,J n)]) (fV (x.kd !=(2:Int)) ([kP (decide (Int.ofNat n<(0:Int))),fT n d.ly.length,nK d.ly,gv (fR d.ly) n 31 x.ds],.ret (.agg [.int .i64 40,.int .i64 (d.root)]) (hL []) 0) ([kP (decide (Int.ofNat n<(0:Int))),fT n d.ly.length,nK d.ly,gv (fR d.ly) n 31 x.ds],.ret (.agg [.int .i64 0,.int .i64 0]) (hL []) 0)):=G.Y
set_option maxRecDepth 10000
def OZ:Sp:=⟨[],[],[],⟨0,0,0,0,0,0,0,0,0⟩,⟨0,0,0,0,0,0,0,0,0⟩⟩
theorem Mw(x:Sp):x.ds.length=21:=rfl
theorem rq(l:List Sp):(lj l).length=l.length*21:=sK (f:=Sp.ds) Mw l
theorem GM{l:List Sp}{i:Nat}(h:i<l.length):V.eo (dU (lj l) (i*21) 21)= .eo (l.getD i OZ).ds:=by
 rw[ax,au h];exact aG V.eo (sL (f:=Sp.ds) Mw l i h)
def l8(f:Nat->Bool)(n:Nat):Option Nat:=(List.range n).find? f
section
variable{f:Nat->Bool}{n i:Nat}
theorem jH(hi:i<n)(h:f i=true)(hj:∀j,j<i->f j=false):l8 f n=some i:=by
 unfold l8;rw[List.find?_range_eq_some];exact⟨h,bQ.2 hi,fun j q=>by rw[hj j q];rfl⟩
theorem gW(hj:∀j,j<n->f j=false):l8 f n=none:=by
 unfold l8;rw[List.find?_eq_none];intro x K;rw[hj x (bQ.1 K)];simp
theorem UX(h:l8 f n=some i):i<n/\f i=true/\∀j,j<i->f j=false:=by
 unfold l8 at h;rw[List.find?_range_eq_some]at h;exact⟨bQ.1 h.2.1,h.1,fun j q=>by simpa using h.2.2 j q⟩
theorem pL(h:l8 f n=none):∀j,j<n->f j=false:=by
 unfold l8 at h;rw[List.find?_eq_none]at h;intro j q;simpa using h j (bQ.2 q)
end
def Dc.at(d:Dc)(i:Nat):eV:=d.ly.getD i gM
def vu(d:Dc):Nat->Int
 |0=>0
 |i+1=>(d.at i).id
def tS(d:Dc)(i:Nat):Bool:=decide ((d.at i).id<=vu d i)||decide ((d.at i).id>=d.nx)
def xK(d:Dc):Bool:=((decide ((Int.ofNat d.sp.length)>(8:Int))||decide ((Int.ofNat d.ly.length)>(40:Int)))||decide (d.nx<(1:Int)))||decide (d.nx>(1048576:Int))
def mC(d:Dc):Bool:=match jq d.ly d.root with
 |some i=>(d.at i).kd !=2
 |none=>true
def iP(d:Dc):Int×Int:=if xK d=true then(2,0)else match l8 (fun i=>!Bo (d.sp.getD i OZ)) d.sp.length with
 |some _=>(23,0)
 |none=>match l8 (tS d) d.ly.length with
  |some i=>(40,(d.at i).id)
  |none=>if mC d=true then(40,d.root)else(0,0)
def GN(p:Int×Int):V:=df p.1 p.2
theorem ZP(d:Dc)(hd:D5 d)(hs:∀s∈d.sp,Tu s):ee ak 85 [d.v] (GN (iP d)):=by
 refine fc Tryz.func85 (fN 1 (be _) (an1 d) all_nil ?_);refine qm (be _) (fun u _ _=>u=GN (iP d)) (an2 d) ?_;have TO:xK d=true->iP d=(2,0):=fun h=>by unfold iP;rw[aF h]
 repeat' (first|exact ij|refine dN ?_ ?_)
 all_goals
  intro A;simp only[aA,aH,bq,aL,bn]at A;refine⟨all_nil,?_⟩
  first
  |exact⟨by rw[TO (by simp only[xK,A,cL,bX,bY,dg])];rfl,fun _ h=>h⟩
  |skip
 have U:xK d=false:=by simp only[xK,A,cL]
 have D0:d.sp.length<=8:=by have:=bt A.1;simp only[gD]at this;omega
 have Ay:d.ly.length<=40:=by have:=bt A.2.1;simp only[gD]at this;omega
 refine dY dJ (dY dJ (gw (be _) eP (an3 d) (dK (g0 ⟨all_nil,fun T eu=>?_⟩))));simp only[andThen];refine je 0 d.sp.length (fun i=>Ev d [(3,J i)]) (fun i=>!Bo (d.sp.getD i OZ)) (eJ.norm eu) (fun i hi hj Q' k1 k2 k3=>?_) (fun h1 T eu=>?_)
 . have K:=fun h=>GM (l:=d.sp) (i:=i) h;generalize UY:d.sp.getD i OZ=x at *;have L:Tu x:=by
    rw[<- UY,ax];cases hg:d.sp[i]? with
    |none=>exact⟨aR _,aR _,aR _⟩
    |some y=>exact hs y (List.mem_of_getElem? hg)
   refine gw (ff (anY x L) (be _)) (fun u _ _=>u=GN (iP d)) (an4 d i x (Bo x)) (dN (g2 fun h1 C=>⟨X (iI (kA h1)) (X (rq _) (X (K (kA h1)) (X rfl (eO (gV (by have:=kA h1;omega)))))),fun T eu=>k1 (kA h1) (by rw[C];rfl) T (eJ.norm eu)⟩) (dN (g2 fun h1 C=>⟨X (iI (kA h1)) (X (rq _) (X (K (kA h1)) (eO rfl))),?_,k3⟩) (dK (g1 fun h1=>⟨all_nil,fun T eu=>k2 (by have:=rG h1;omega) T (eJ.norm eu)⟩))));unfold iP;rw[U,aD fg,jH (i:=i) (kA h1) (by rw[UY,C];rfl) hj];rfl
 simp only[andThen];refine eu _ _ ?_;refine fN 1 (be _) (an5 d d.sp.length) all_nil ?_;refine dY dJ (dY dJ (gw (be _) eP (an6 d) (dK (g0 ⟨all_nil,fun T eu=>?_⟩))));simp only[andThen];have hw:∀o,l8 (tS d) d.ly.length=o->iP d=match o with
  |some i=>(40,(d.at i).id)
  |none=>if mC d=true then(40,d.root)else(0,0):=fun o e=>by
  unfold iP;rw[U,aD fg,gW h1,e]
 refine je 2 d.ly.length (fun i=>Ev d [(5,R (vu d i)),(6,J i)]) (tS d) (eJ.norm eu) (fun i hi hj Q' k1 k2 k3=>?_) (fun C T eu=>?_)
 . refine gw (be _) (fun u _ _=>u=GN (iP d)) (an7 d i (vu d i) (d.at i)) ?_;refine(dN (g2 fun h1 C=>⟨X (iI (kA h1)) (X (fS _) (eO (ik (kA h1)))),?_,k3⟩) (dN (g3 fun h1 C h3=>⟨X (iI (kA h1)) (X (fS _) (eO (ik (kA h1)))),?_,k3⟩) (dN (g3 fun h1 C h3=>⟨X (iI (kA h1)) (X (fS _) (X (ik (kA h1)) (eO (gV (by have:=kA h1;omega))))),fun T eu=>k1 (kA h1) (by unfold tS;rw[C,h3];rfl) T (eJ.norm eu)⟩) (dK (g1 fun h1=>⟨all_nil,fun T eu=>k2 (by have:=rG h1;omega) T (eJ.norm eu)⟩)))))
   . rw[hw _ (jH (i:=i) (kA h1) (by unfold tS;rw[C];rfl) hj)];rfl
   . rw[hw _ (jH (i:=i) (kA h1) (by unfold tS;rw[C,h3];rfl) hj)];rfl
 simp only[andThen];refine eu _ _ ?_;have hw:=hw _ (gW C);simp only at hw;have hA:=Ts d d.root hd.ly;refine fN 1 (ff hA (be _)) (an8 d (pW d.ly d.root) (vu d d.ly.length) d.ly.length) (eO rfl) ?_;cases hn:jq d.ly d.root with
 |none=>
  have ha:pW d.ly d.root= -1:=by unfold pW;rw[hn]
  have hr:mC d=true:=by unfold mC;rw[hn]
  rw[ha];exact eR (be _) (an9 d) (dK (g0 ⟨all_nil,_,_,_,rfl,by rw[hw,hr];rfl⟩))
 |some n=>
  have ha:pW d.ly d.root=Int.ofNat n:=by unfold pW;rw[hn]
  obtain⟨fj,_,_⟩:=iG hn;have hr:mC d=((d.at n).kd !=2):=by unfold mC;rw[hn]
  rw[ha];have hc:=X (show V.bool (decide (Int.ofNat n<(0:Int)))=V.bool false from aG V.bool (aX (by simp only[gD];omega))) (X (iI fj) (X (fS d.ly) (eO (ik fj))));exact eR (be _) (aoa d n (d.at n)) (dN (g1 fun h1=>⟨hc,_,_,_,rfl,by rw[hw,hr,h1];rfl⟩) (dK (g1 fun h1=>⟨hc,_,_,_,rfl,by rw[hw,hr,h1];rfl⟩)))
set_option maxRecDepth 10000
def GO(m a:Int):Int:=if a>m then a else m
noncomputable abbrev aff:Code:=dQ Tryz.f52
noncomputable abbrev UZ:Code:=dH 2 aff
noncomputable abbrev U0:Code:=dH 1 (eB UZ)
noncomputable abbrev ZQ:Code:=dH 2 (eB U0)
noncomputable abbrev bDp:Code:=dP (dP (eB (dO ZQ)))
def Mx(d:Dc)(r:List (Nat×V)):St:=fI ([(2,.ptr (some (0,0)))]++r) (hL [(0,.cells d.cs)]) 1
def sDx(d:Dc)(x:eV)(r:List (Nat×V)):St:=fI ([(2,.ptr (some (0,0))),(6,.ptr (some (1,0)))]++r) (hL [(0,.cells d.cs),(1,.cells x.cs)]) 2
theorem aob(d:Dc)(id a:Int):H (M (fa 24 [d.v,R id] (R a) ew) []) [] 0 Tryz.f52 [2,5] (ek 2 aff) (dI [d.v,R id] .nil 0) [([],[V.jj ([]++[V.agg (List.take 4 (List.drop 0 d.v.cells)),R id]++[])=[d.v,R id]],eC (Mx d [(5,R a)]))]:=G.Y
theorem aoc(d:Dc):H (M ew []) [] 0 Tryz.f52 [] (dO UZ) (Mx d [(5,R (-1))]) [([],[],.ret (.int .i64 0) (hL []) 0)]:=G.Y
theorem aod(d:Dc)(n:Nat):H (M ew []) [(14,.dL (.bool false))] 0 Tryz.f52 [2,5] (dO UZ) (Mx d [(5,J n)]) [([],[kP (decide (Int.ofNat n<(0:Int)))],eC (Mx d [(5,J n)]))]:=G.Y
theorem aoe(d:Dc)(n:Nat)(x:eV):H (M ew []) [(18,.dL (.eo x.ds))] 0 Tryz.f52 [2,6] (ek 1 (eB UZ)) (Mx d [(5,J n)]) [([],[fT n d.ly.length,nK d.ly,gv (fR d.ly) n 31 x.ds],eC (sDx d x []))]:=G.Y
theorem aof(d:Dc)(x:eV):H (M ew []) [(22,.split),(26,.split)] 0 Tryz.f52 [2,6] (dO U0) (sDx d x []) (BJ (x.kd !=(2:Int)) (x.kd !=(4:Int)) ([],.ret (.int .i64 0) (hL []) 0) ([],eC (sDx d x []))):=G.Y
theorem aog(d:Dc)(x:eV)(ps:List Int):H (M (fa 98 [x.v] (fD ps) ew) []) [] 0 Tryz.f52 [2,7,8] (ek 2 (eB U0)) (sDx d x []) [([],[V.jj ([]++[V.agg (List.take 31 (List.drop 0 x.cs))]++[])=[x.v]],eC (Mx d [(7,R 0),(8,fD ps)]))]:=G.Y
theorem aoh(d:Dc)(ps:List Int):H (M ew []) [] 0 Tryz.f52 [2,7,8,9] (dO (dO ZQ)) (Mx d [(7,R 0),(8,fD ps)]) [([],[],eC (Mx d [(7,R 0),(8,fD ps),(9,J 0)]))]:=G.Y
theorem aoi(d:Dc)(ps:List Int)(i:Nat)(m p a:Int):H (M (fa 52 [d.v,R p] (R a) ew) []) [(33,.dL (.bool true)),(40,.dL (.eo [.int .i64 p])),(35,.dL (J (i+1)))] 0 Tryz.f52 [2,7,8,9] (bDp) (Mx d [(7,R m),(8,fD ps),(9,J i)]) [([],[kr (decide (Int.ofNat i<(Int.ofNat ps.length))),fT i ps.length,jo ps,gv (eL ps) i 1 [D.int B p],V.jj ([]++[V.agg (List.take 4 (List.drop 0 d.cs)),D.kx._f (D.int B p) PUnit.unit]++[])=[d.v,R p],oq i],eC (Mx d [(7,R (GO m a)),(8,fD ps),(9,J (i+1))]))]:=G.Y
theorem afh(d:Dc)(ps:List Int)(i:Nat)(m:Int):H (M ew []) [(33,.dL (.bool false))] 0 Tryz.f52 [2,7,8,9] (bDp) (Mx d [(7,R m),(8,fD ps),(9,J i)]) [([],[kP (decide (Int.ofNat i<(Int.ofNat ps.length)))],.to (.exit 0) (Mx d [(7,R m),(8,fD ps),(9,J i)]))]:=G.Y
theorem aoj(d:Dc)(ps:List Int)(i:Nat)(m:Int):H (M ew []) [] 0 Tryz.f52 [] (eB ZQ) (Mx d [(7,R m),(8,fD ps),(9,J i)]) [([],[],.ret (.int .i64 (IntKind.i64.wrap (m+(1:Int)))) (hL []) 0)]:=G.Y
set_option maxRecDepth 10000
def jO(ls:List eV):Nat->Int->Int
 |0,_=>0
 |k+1,id=>match jq ls id with
  |none=>0
  |some n=>if((ls.getD n gM).kd !=2&&(ls.getD n gM).kd !=4)=true then 0 else(gp (ls.getD n gM)).foldl (fun m p=>GO m (jO ls k p)) 0+1
def isK(x:eV):Bool:=!(x.kd !=2&&x.kd !=4)
def Lb(ls:List eV)(rk:Int->Nat):Prop:=∀id n,jq ls id=some n->isK (ls.getD n gM)=true->∀p∈gp (ls.getD n gM),rk p<rk id
theorem DG{l:List Int}{f:Int->Int}{b:Int}(h:∀p∈l,f p<=b):∀m,m<=b->l.foldl (fun m p=>GO m (f p)) m<=b:=by
 induction l with
 |nil=>intro m L;exact L
 |cons x l ih=>
  intro m L;rw[List.foldl_cons];refine ih (fun p hp=>h p (bh _ hp)) _ ?_;unfold GO;split
  . exact h x (bB ..)
  . exact L
theorem Jm{l:List Int}{f:Int->Int}:∀m,m<=l.foldl (fun m p=>GO m (f p)) m:=by
 induction l with
 |nil=>intro m;exact Int.le_refl _
 |cons x l ih=>
  intro m;rw[List.foldl_cons];refine Int.le_trans ?_ (ih _);unfold GO;split<;>omega
theorem GQ(ls:List eV):∀k id,jO ls k id<=Int.ofNat k
 |0,_=>Int.le_refl _
 |k+1,id=>by
  unfold jO;split
  . exact bJ _
  . split
    . exact bJ _
    . rename_i n _ _;have:=DG (l:=gp (ls.getD n gM)) (f:=jO ls k) (b:=Int.ofNat k) (fun p _=>GQ ls k p) 0 (bJ _);simp only[gD]at this ⊢;refine Int.le_trans (Int.add_le_add_right this 1) S
theorem Rx(d:Dc)(hd:D5 d)(rk:Int->Nat)(hrk:Lb d.ly rk):∀k,k<=1000->∀id,rk id<k->ee ak 52 [d.v,R id] (R (jO d.ly k id)):=by
 intro k
 induction k with
 |zero=>intro _ id h;exact absurd h (bE _)
 |succ k ih=>
  intro hk id h;have hA:=Ts d id hd.ly;refine fc Tryz.func52 (fN 2 (ff hA (be _)) (aob d id (pW d.ly id)) (eO rfl) ?_);cases hn:jq d.ly id with
  |none=>
   have ha:pW d.ly id= -1:=by unfold pW;rw[hn]
   have hv:jO d.ly (k+1) id=0:=by unfold jO;rw[hn]
   rw[ha];exact qm (be _) (fun u _ _=>u=R (jO d.ly (k+1) id)) (aoc d) (dK (g0 ⟨all_nil,by rw[hv],fun _ h=>h⟩))
  |some n=>
   have ha:pW d.ly id=Int.ofNat n:=by unfold pW;rw[hn]
   obtain⟨fj,hid,_⟩:=iG hn;generalize K:d.ly.getD n gM=x at *;have hv:jO d.ly (k+1) id=if(x.kd !=2&&x.kd !=4)=true then 0 else(gp x).foldl (fun m p=>GO m (jO d.ly k p)) 0+1:=by
    rw[jO,hn];simp only;rw[K]
   rw[ha];refine qm (be _) eP (aod d n) (dK (g0 ⟨eO (aG V.bool (aX (by simp only[gD];omega))),?_⟩));refine fN 1 (be _) (aoe d n x) (X (iI fj) (X (fS _) (eO (by rw[<- K];exact ik fj)))) ?_;have qI:(x.kd !=2&&x.kd !=4)=false->TG ak 0 Tryz.f52.ntmps (eB U0) (sDx d x []) (gi ak 0 Tryz.f52 fun u _ _=>u=R (jO d.ly (k+1) id)):=fun A=>by
    rw[hv,A,aD fg];have hp:∀p∈gp x,rk p<k:=fun p hp=>by
     have:=hrk id n hn (by unfold isK;rw[K,A];rfl) p (by rw[K];exact hp);omega
    have hl:(gp x).length<=1000000:=by
     have L:x∈d.ly:=by rw[<- K,ax,au fj];exact bV fj
     unfold gp;split
     . simp
     . exact hd.kids x L
    refine fN 2 (ff (Rg x) (be _)) (aog d x (gp x)) (eO rfl) ?_;generalize gp x=ps at *;refine dY dJ (dY dJ (gw (be _) eP (aoh d ps) (dK (g0 ⟨all_nil,fun T eu=>?_⟩))));simp only[andThen];refine je 0 ps.length (fun i=>Mx d [(7,R ((ps.take i).foldl (fun m p=>GO m (jO d.ly k p)) 0)),(8,fD ps),(9,J i)]) (fun _=>false) (eJ.norm eu) (fun i hi hj Q' m1 m2 m3=>?_) (fun h1 T eu=>?_)
    . rcases bx i ps.length with q|q
      . have hg:=fP (l:=ps) q;have L:ps.getD i 0∈ps:=by rw[ax,au q];exact bV q
        have ht:(ps.take (i+1)).foldl (fun m p=>GO m (jO d.ly k p)) 0=GO ((ps.take i).foldl (fun m p=>GO m (jO d.ly k p)) 0) (jO d.ly k (ps.getD i 0)):=by
         rw[cz,getD_some 0 q,Option.toList_some,List.foldl_append];rfl
        refine gw (ff (ih S (ps.getD i 0) (hp _ L)) (be _)) eP (aoi d ps i _ (ps.getD i 0) (jO d.ly k (ps.getD i 0))) (dK (g0 ⟨X (aG V.bool (aW (cE.2 q))) (X (iI q) (X (eI ps) (X hg (X rfl (eO (gV S)))))),fun T eu=>m1 q rfl T ?_⟩));rw[ht];exact eJ.norm eu
      . obtain rfl:i=ps.length:=by omega
        exact gw (be _) eP (afh d ps _ _) (dK (g0 ⟨eO (aG V.bool (aX (by simp only[gD];omega))),fun T eu=>m2 rfl T (eJ.norm eu)⟩))
    simp only[andThen];refine eu _ _ (eR (be _) (aoj d ps ps.length _) (dK (g0 ⟨all_nil,_,_,_,rfl,?_⟩)));rw[br];have C:=DG (l:=ps) (f:=jO d.ly k) (b:=Int.ofNat k) (fun p _=>GQ d.ly k p) 0 (bJ _);have h3:=Jm (l:=ps) (f:=jO d.ly k) 0;generalize ps.foldl (fun m p=>GO m (jO d.ly k p)) 0=z at C h3 ⊢;exact aG (V.int .i64) (iz S (by simp only[gD]at C;omega))
   refine qm (be _) (fun u _ _=>u=R (jO d.ly (k+1) id)) (aof d x) (dN (g2 fun h1 C=>⟨all_nil,by rw[hv,h1,C];rfl,fun _ h=>h⟩) (dN (g2 fun h1 C=>⟨all_nil,qI (by rw[h1,C];rfl)⟩) (dK (g1 fun h1=>⟨all_nil,qI (by rw[h1];rfl)⟩))))
set_option maxRecDepth 10000
noncomputable abbrev afi:Code:=dQ Tryz.f39
noncomputable abbrev afj:Code:=dH 2 afi
noncomputable abbrev ZR:Code:=eB afj
noncomputable abbrev ZS:Code:=eB ZR
noncomputable abbrev ZT:Code:=eB ZS
noncomputable abbrev ZU:Code:=eB ZT
noncomputable abbrev aol:Code:=eB ZU
noncomputable abbrev aom:Code:=dP (dP (eB (dO ZR)))
noncomputable abbrev aon:Code:=dP (dP (eB (dO ZS)))
noncomputable abbrev afk:Code:=dP (dP (eB (dO ZT)))
noncomputable abbrev aoo:Code:=dP (dP (eB (dO ZU)))
def xW(d:Dc)(r:List (Nat×V)):St:=fI ([(1,.ptr (some (0,0))),(2,.ptr (some (1,0)))]++r) (hL [(0,.cells d.cs),(1,.cells [R 0,R 0])]) 2
def sCw(d:Dc)(e i:Int):St:=fI [(1,.ptr (some (0,0))),(2,.ptr (some (1,0))),(3,.ptr (some (2,0)))] (hL [(0,.cells d.cs),(1,.cells [R 0,R 0]),(2,.cells [R e,R i])]) 3
theorem aop(d:Dc)(e i:Int):H (M (fa 85 [d.v] (df e i) ew) []) [] 0 Tryz.f39 [1,2,3] (ek 2 afi) (dI [d.v] .nil 0) [([],[V.jj ([]++[V.agg (List.take 4 (List.drop 0 d.v.cells))]++[])=[d.v]],eC (sCw d e i))]:=G.Y
theorem aoq(d:Dc)(e i:Int):H (M ew []) [(15,.split)] 0 Tryz.f39 [1,2] (dO afj) (sCw d e i) (fV (e !=(0:Int)) ([],.ret (.agg [.int .i64 e,.int .i64 i]) (hL []) 0) ([],eC (xW d []))):=G.Y
theorem aor(d:Dc)(r:List (Nat×V)):H (M ew []) [] 0 Tryz.f39 [1,2,4] (dO (dO ZR)) (xW d []) [([],[],eC (xW d [(4,J 0)]))]:=G.Y
abbrev Ry(d:Dc)(x:eV):Prop:=V.jj ([]++[V.agg (List.take 4 (List.drop 0 d.cs)),V.agg (List.take 31 (List.drop 0 (D.gk x.ds)))]++[])=[d.v,x.v]
theorem aos(d:Dc)(i:Nat)(x:eV)(e:Int):H (M (fa 86 [d.v,x.v] (R e) ew) []) [(21,.split),(28,.dL (.eo x.ds)),(37,.dL (.eo x.ds)),(32,.split),(23,.dL (J (i+1)))] 0 Tryz.f39 [1,2,4] (aom) (xW d [(4,J i)]) (sI (decide (Int.ofNat i<(Int.ofNat d.ly.length))) (e !=(0:Int)) ([fT i d.ly.length,nK d.ly,gv (fR d.ly) i 31 x.ds,Ry d x,fT i d.ly.length,nK d.ly,gv (fR d.ly) i 31 x.ds],.ret (.agg [.int .i64 e,.int .i64 (x.id)]) (hL []) 0) ([fT i d.ly.length,nK d.ly,gv (fR d.ly) i 31 x.ds,Ry d x,oq i],eC (xW d [(4,J (i+1))])) ([],.to (.exit 0) (xW d [(4,J i)]))):=G.Y
theorem aot(d:Dc)(j:Nat):H (M ew []) [] 0 Tryz.f39 [1,2,6] (dO (dO ZS)) (xW d [(4,J j)]) [([],[],eC (xW d [(6,J 0)]))]:=G.Y
abbrev Rz(d:Dc)(x:eV):Prop:=V.jj ([]++[V.agg (List.take 4 (List.drop 0 d.cs)),V.agg (List.take 31 (List.drop 0 (D.gk x.ds)))]++[])=[d.v,x.v]
theorem aou(d:Dc)(i:Nat)(x:eV)(b:Bool):H (M (fa 87 [d.v,x.v] (.bool b) ew) []) [(45,.split),(52,.dL (.eo x.ds)),(59,.dL (.eo x.ds)),(55,.split),(47,.dL (J (i+1)))] 0 Tryz.f39 [1,2,6] (aon) (xW d [(6,J i)]) (sI (decide (Int.ofNat i<(Int.ofNat d.ly.length))) (!b) ([fT i d.ly.length,nK d.ly,gv (fR d.ly) i 31 x.ds,Rz d x,fT i d.ly.length,nK d.ly,gv (fR d.ly) i 31 x.ds],.ret (.agg [.int .i64 40,.int .i64 (x.id)]) (hL []) 0) ([fT i d.ly.length,nK d.ly,gv (fR d.ly) i 31 x.ds,Rz d x,oq i],eC (xW d [(6,J (i+1))])) ([],.to (.exit 2) (xW d [(6,J i)]))):=G.Y
theorem aov(d:Dc)(j:Nat):H (M ew []) [] 0 Tryz.f39 [1,2,7] (dO (dO ZT)) (xW d [(6,J j)]) [([],[],eC (xW d [(7,J 0)]))]:=G.Y
theorem aow(d:Dc)(i:Nat)(x:eV):H (M (fa 24 [d.v,R x.of] (R (-1)) ew) []) [(67,.split),(73,.dL (.eo x.ds)),(81,.dL (.eo x.ds)),(99,.dL (.eo x.ds)),(76,.split),(69,.dL (J (i+1)))] 0 Tryz.f39 [1,2,7] (afk) (xW d [(7,J i)]) (sI (decide (Int.ofNat i<(Int.ofNat d.ly.length))) (x.kd==(4:Int)) ([fT i d.ly.length,nK d.ly,gv (fR d.ly) i 31 x.ds,fT i d.ly.length,nK d.ly,gv (fR d.ly) i 31 x.ds,V.jj ([]++[V.agg (List.take 4 (List.drop 0 d.cs)),D.kx._f (D.int B x.of) PUnit.unit]++[])=[d.v,R x.of],fT i d.ly.length,nK d.ly,gv (fR d.ly) i 31 x.ds],.ret (.agg [.int .i64 40,.int .i64 (x.id)]) (hL []) 0) ([fT i d.ly.length,nK d.ly,gv (fR d.ly) i 31 x.ds,oq i],eC (xW d [(7,J (i+1))])) ([],.to (.exit 4) (xW d [(7,J i)]))):=G.Y
abbrev RA(d:Dc)(x:eV):Prop:=V.jj ([]++[V.agg (List.take 4 (List.drop 0 d.cs)),D.kx._f (D.int B x.of) PUnit.unit]++[])=[d.v,R x.of]
abbrev RD(i:Nat):Prop:=V.int B (IntKind.i64.wrap (Int.ofNat i+(1:Int)))=J (i+1)
theorem aox(d:Dc)(i n:Nat)(x y:eV):H (M (fa 24 [d.v,R x.of] (J n) ew) []) [(67,.split),(73,.dL (.eo x.ds)),(81,.dL (.eo x.ds)),(99,.dL (.eo x.ds)),(91,.dL (.eo y.ds)),(76,.split),(86,.dL (.bool false)),(94,.split),(69,.dL (J (i+1)))] 0 Tryz.f39 [1,2,7] (afk) (xW d [(7,J i)]) (N4 (decide (Int.ofNat i<(Int.ofNat d.ly.length))) (x.kd==(4:Int)) (y.kd==(3:Int)) ([fT i d.ly.length,nK d.ly,gv (fR d.ly) i 31 x.ds,fT i d.ly.length,nK d.ly,gv (fR d.ly) i 31 x.ds,RA d x,kP (decide (Int.ofNat n<(0:Int))),fT n d.ly.length,nK d.ly,gv (fR d.ly) n 31 y.ds,fT i d.ly.length,nK d.ly,gv (fR d.ly) i 31 x.ds],.ret (.agg [.int .i64 40,.int .i64 (x.id)]) (hL []) 0) ([fT i d.ly.length,nK d.ly,gv (fR d.ly) i 31 x.ds,fT i d.ly.length,nK d.ly,gv (fR d.ly) i 31 x.ds,RA d x,kP (decide (Int.ofNat n<(0:Int))),fT n d.ly.length,nK d.ly,gv (fR d.ly) n 31 y.ds,RD i],eC (xW d [(7,J (i+1))])) ([fT i d.ly.length,nK d.ly,gv (fR d.ly) i 31 x.ds,RD i],eC (xW d [(7,J (i+1))])) ([],.to (.exit 4) (xW d [(7,J i)]))):=G.Y
theorem aoy(d:Dc)(j:Nat):H (M ew []) [] 0 Tryz.f39 [1,2,9] (dO (dO ZU)) (xW d [(7,J j)]) [([],[],eC (xW d [(9,J 0)]))]:=G.Y
theorem aoz(d:Dc)(i:Nat)(x:eV)(r:List Int)(b:Bool):H (M (fa 56 [d.v,R x.id,.bool false] (fD r) (fa 55 [fD r,R x.id] (.bool b) ew)) []) [(107,.split),(113,.dL (.eo x.ds)),(120,.split),(109,.dL (J (i+1)))] 0 Tryz.f39 [1,2,9] aoo (xW d [(9,J i)])
  (sI (decide (Int.ofNat i<Int.ofNat d.ly.length)) b ([fT i d.ly.length,nK d.ly,gv (fR d.ly) i 31 x.ds,fG [d.v,R x.id,.bool false],fG [fD r,R x.id]],.ret (df 42 x.id) (hL []) 0) ([fT i d.ly.length,nK d.ly,gv (fR d.ly) i 31 x.ds,fG [d.v,R x.id,.bool false],fG [fD r,R x.id],oq i],eC (xW d [(9,J (i+1))])) ([],.to (.exit 6) (xW d [(9,J i)]))):=G.Y
abbrev RE(d:Dc):Prop:=V.jj ([]++[V.agg (List.take 4 (List.drop 0 d.cs)),R d.root]++[])=[d.v,R d.root]
theorem aoA(d:Dc)(j:Nat)(a:Int):H (M (fa 52 [d.v,R d.root] (R a) ew) []) [(127,.split)] 0 Tryz.f39 [] (aol) (xW d [(9,J j)]) (fV (decide (a>(6:Int))) ([RE d],.ret (.agg [.int .i64 43,.int .i64 (d.root)]) (hL []) 0) ([RE d],.ret (.agg [.int .i64 0,.int .i64 0]) (hL []) 0)):=G.Y
set_option maxRecDepth 10000
theorem B5:∀{l m:List Int},l.Nodup->(∀x∈l,x∈m)->l.length<=m.length
 | [],_,_,_=>aR _
 |x::l,m,h,hs=>by
  rw[List.nodup_cons]at h;have h1:=B5 (m:=m.erase x) h.2 fun y hy=>(List.mem_erase_of_ne (by rintro rfl;exact h.1 hy)).2 (hs y (bh _ hy));have K:=hs x (bB ..);have C:=List.length_erase_of_mem K;have h3:0<m.length:=List.length_pos_of_mem K;rw[aN];omega
inductive Bp(st:Int->List Int):Int->Int->Prop
 |one {x y:Int}:y∈st x->Bp st x y
 |tail {x y z:Int}:Bp st x y->z∈st y->Bp st x z
section
variable(ls:List eV){st:Int->List Int}
theorem Bp.trans{x y z:Int}(h1:Bp st x y)(C:Bp st y z):Bp st x z:=by
 induction C with
 |one h=>exact .tail h1 h
 |tail _ h ih=>exact .tail ih h
theorem Bp.head{x z:Int}(h:Bp st x z):∃y∈st x,y=z\/Bp st y z:=by
 induction h with
 |one h=>exact⟨_,h,.inl rfl⟩
 |tail _ h ih=>
  obtain⟨y,hy,hz⟩:=ih;refine⟨y,hy,.inr ?_⟩;rcases hz with rfl|hz
  . exact .one h
  . exact .tail hz h
theorem U1{dS:Nat}{iX hb:List Int}{id:Int}(hM:∀y,(st y).length<=dS)(hU:∀y,∀z∈st y,z∈hb):∀(k:Nat) (l td zA:List Int),UU st dS iX hb k l td zA->l.Nodup->(∀y∈l,Bp st id y)->(∀y∈td,Bp st id y)->(∀y∈st id,y∈l\/y∈td)->(∀x∈l,∀z∈st x,z∈l\/z∈td)->iX.Nodup/\∀y,y∈iX↔Bp st id y:=by
 intro k
 induction k with
 |zero=>intro l td zA h;exact absurd h.fuel (bE _)
 |succ k ih=>
  intro l td zA h hn hl ht hs A;cases td with
  |nil=>
   have e:l=iX:=h.eq;subst e;refine⟨hn,fun y=>⟨hl y,fun q=>?_⟩⟩
   induction q with
   |one h=>exact(hs _ h).elim (fun q=>q) fun q=>by cases q
   |tail _ h ih=>exact(A _ ih _ h).elim (fun q=>q) fun q=>by cases q
  |cons x td=>
   cases K:l.contains x with
   |true=>
    obtain⟨j,e,h'⟩:=Jj h K;obtain rfl:k=j:=by omega
    have L:x∈l:=cQ.1 K;have f:∀y,y∈l\/y∈x::td->y∈l\/y∈td:=fun y q=>q.elim .inl fun q=>(aA.1 q).elim (fun e=>.inl (e▸L)) .inr;exact ih l td zA h' hn hl (fun y hy=>ht y (bh _ hy)) (fun y hy=>f y (hs y hy)) fun y hy z hz=>f z (A y hy z hz)
   |false=>
    obtain⟨j,Jk,e,_,h'⟩:=GK hM hU h K;obtain rfl:k=j:=by omega
    have L:x∉l:=fun q=>by rw[<- cQ]at q;rw[K]at q;cases q
    have hxr:=ht x (bB ..);have f:∀y,y∈l\/y∈x::td->y∈l++[x]\/y∈td++st x:=fun y q=>q.elim (fun q=>.inl (List.mem_append_left _ q)) fun q=>(aA.1 q).elim (fun e=>.inl (List.mem_append_right _ (aI.2 e))) fun q=>.inr (List.mem_append_left _ q);refine ih (l++[x]) (td++st x) Jk h' ?_ (fun y hy=>?_) (fun y hy=>?_) (fun y hy=>f y (hs y hy)) fun y hy z hz=>?_
    . rw[List.nodup_append];exact⟨hn,by simp,fun a ha b U e=>L (by rw[aI]at U;rw[<- U,<- e];exact ha)⟩
    . rcases bj.1 hy with q|q
      . exact hl y q
      . rw[aI]at q;subst q;exact hxr
    . rcases bj.1 hy with q|q
      . exact ht y (bh _ q)
      . exact .tail hxr q
    . rcases bj.1 hy with q|q
      . exact f z (A y q z hz)
      . rw[aI]at q;subst q;exact .inr (List.mem_append_right _ hz)
theorem kQ(gm:Bool)(id:Int):(jy ls gm id).Nodup/\∀y,y∈jy ls gm id↔Bp (gB ls gm) id y:=by
 have hN:=lS ls gm;refine U1 (fun y=>(hN y).2) (fun y=>(hN y).1) (vt ls) [] (gB ls gm id) (fW ls) ⟨rfl,?_,by simp,fun y hy=>.inr hy,(hN id).1⟩ List.nodup_nil (fun _ h=>by cases h) (fun y hy=>.one hy) (fun y hy=>.inr hy) (fun _ h=>by cases h);have h1:=(hN id).2;have e:(fW ls).length*(2*(fW ls).length+1)+(fW ls).length=(fW ls).length*(2*(fW ls).length+2):=by rw[Nat.mul_add,Nat.mul_add];omega
 unfold vt;omega
theorem Bp.names{ls:List eV}{gm:Bool}{x y:Int}(h:Bp (gB ls gm) x y):y∈fW ls:=by
 cases h with
 |one h=>exact(lS ls gm _).1 _ h
 |tail _ h=>exact(lS ls gm _).1 _ h
theorem mV(gm:Bool)(id:Int):(jy ls gm id).length<=(fW ls).length:=
 B5 (kQ ls gm id).1 fun y hy=>(((kQ ls gm id).2 y).1 hy).names
theorem DH{ls:List eV}{gm:Bool}{id:Int}(h:jq ls id=none):gB ls gm id=[]:=by unfold gB;rw[h]
def Fp(gm:Bool):Prop:=∀x∈ls,(jy ls gm x.id).contains x.id=false
theorem aoB{ls:List eV}{gm:Bool}(h:Fp ls gm)(x:Int):¬Bp (gB ls gm) x x:=fun q=>by
 cases hn:jq ls x with
 |none=>
  obtain⟨y,hy,_⟩:=q.head;rw[DH hn]at hy;cases hy
 |some n=>
  obtain⟨_,hid,L⟩:=iG hn;have h1:=h _ L;rw[hid]at h1;have C:=cQ.2 (((kQ ls gm x).2 x).2 q);rw[h1]at C;cases C
def yY(gm:Bool)(id:Int):Nat:=(jy ls gm id).length
theorem Jn{ls:List eV}{gm:Bool}(h:Fp ls gm){x y:Int}(hy:y∈gB ls gm x):yY ls gm y<yY ls gm x:=by
 have h1:=kQ ls gm y;have C:=kQ ls gm x;have:(y::jy ls gm y).length<=(jy ls gm x).length:=B5 (List.nodup_cons.2 ⟨fun q=>aoB h y ((h1.2 y).1 q),h1.1⟩) fun z hz=>(C.2 z).2 (by
  rcases aA.1 hz with rfl|q
  . exact .one hy
  . exact Bp.trans (.one hy) ((h1.2 z).1 q))
 exact this
theorem B6{ls:List eV}(h:Fp ls false):Lb ls (yY ls false):=fun id n hn _ p hp=>Jn h (by unfold gB;rw[hn];exact List.mem_append_left _ hp)
def lD:List Int:=(ls.map (·.kids)).flatten
theorem yZ(k:Int):mB ls k=(lD ls).count k:=by
 induction ls with
 |nil=>rfl
 |cons x ls ih=>
  have e:mB (x::ls) k=x.kids.count k+mB ls k:=by unfold mB;rw[b9,List.sum_cons]
  have e2:lD (x::ls)=x.kids++lD ls:=rfl;rw[e,e2,List.count_append,ih]
theorem Lc:(fW ls).length=ls.length+(lD ls).length:=by
 induction ls with
 |nil=>rfl
 |cons x ls ih=>
  have e:fW (x::ls)=(x.of::x.kids)++fW ls:=rfl;have e2:lD (x::ls)=x.kids++lD ls:=rfl;rw[e,e2,az,az,ih,aN,aN];omega
end
theorem AD{d:Dc}{x:eV}(h:rJ d x=true){k:Int}(hk:k∈x.kids):∃n,jq d.ly k=some n:=by
 unfold rJ at h;rw[ay,bZ]at h;have h1:=dn.1 h.1 k hk;cases hn:jq d.ly k with
 |none=>rw[hn]at h1;exact absurd rfl h1
 |some n=>exact⟨n,rfl⟩
theorem B7{d:Dc}{x:eV}(h:rJ d x=true):mB d.ly x.id=if x.id=d.root then 0 else 1:=by
 unfold rJ at h;rw[ay,cq,ay,ay]at h;rcases h.2 with⟨h1,C⟩|⟨h1,C⟩
 . rw[aF (by simpa using h1)];have:=ct.1 C;simp only[gD]at this;omega
 . rw[aD (by simpa using h1)];have:=ct.1 C;simp only[gD]at this;omega
theorem lT{d:Dc}(h:∀x∈d.ly,rJ d x=true):(fW d.ly).length<=2*d.ly.length:=by
 have qJ:∀k∈lD d.ly,k∈d.ly.map (·.id):=fun k hk=>by
  obtain⟨W,CM,hk⟩:=List.mem_flatten.1 hk;obtain⟨x,K,rfl⟩:=bP.1 CM;obtain⟨n,hn⟩:=AD (h x K) hk;obtain⟨_,hid,L⟩:=iG hn;exact bP.2 ⟨_,L,hid⟩
 have hnd:(lD d.ly).Nodup:=by
  rw[List.nodup_iff_count];intro k;by_cases hk:k∈lD d.ly
  . obtain⟨x,K,rfl⟩:=bP.1 (qJ k hk);rw[<- yZ,B7 (h x K)];split<;>omega
  . rw[List.count_eq_zero_of_not_mem hk];omega
 have:=B5 hnd qJ;rw[bM]at this;rw[Lc];omega
set_option maxRecDepth 10000
def BM(d:Dc)(x:eV):Bool:=(x.kd==4)&&match jq d.ly x.of with
 |some m=>(d.at m).kd==3
 |none=>true
noncomputable def Ld(d:Dc)(i:Nat):Bool:=wB d.sp.length (d.at i) !=0
def B8(d:Dc)(i:Nat):Bool:=!rJ d (d.at i)
def AE(d:Dc)(i:Nat):Bool:=BM d (d.at i)
def Oj(d:Dc)(i:Nat):Bool:=(jy d.ly false (d.at i).id).contains (d.at i).id
noncomputable def gU(d:Dc):Int×Int:=if(iP d).1=0 then match l8 (Ld d) d.ly.length with
  |some i=>(wB d.sp.length (d.at i),(d.at i).id)
  |none=>match l8 (B8 d) d.ly.length with
   |some i=>(40,(d.at i).id)
   |none=>match l8 (AE d) d.ly.length with
    |some i=>(40,(d.at i).id)
    |none=>match l8 (Oj d) d.ly.length with
     |some i=>(42,(d.at i).id)
     |none=>if jO d.ly 100 d.root>6 then(43,d.root)else(0,0)
 else iP d
theorem vw{d:Dc}{i:Nat}(h:i<d.ly.length):d.at i∈d.ly:=by
 unfold Dc.at
 rw[ax,au h];exact bV h
theorem AF{d:Dc}{x:eV}(h:x∈d.ly):∃i,i<d.ly.length/\d.at i=x:=by
 obtain⟨i,hi,rfl⟩:=ck h;exact⟨i,hi,by unfold Dc.at;rw[ax,au hi];rfl⟩
theorem sP{d:Dc}(h:(iP d).1=0):xK d=false/\(∀j,j<d.sp.length->(!Bo (d.sp.getD j OZ))=false)/\(∀j,j<d.ly.length->tS d j=false)/\mC d=false:=by
 unfold iP at h;split at h
 . exact absurd h fg
 . rename_i h1;split at h
   . exact absurd h fg
   . rename_i C;split at h
     . exact absurd h (by simp only;decide)
     . rename_i h3;split at h
       . exact absurd h (by simp only;decide)
       . rename_i h4;exact⟨by simpa using h1,pL C,pL h3,by simpa using h4⟩
theorem DI{d:Dc}(h:xK d=false):d.sp.length<=8/\d.ly.length<=40/\1<=d.nx/\d.nx<=1048576:=by
 unfold xK at h;simp only[cM,bu,gD]at h;omega
structure B9(d:Dc):Prop where
 m:D5 d
 s:∀s∈d.sp,Tu s
 y:∀x∈d.ly,zC x
theorem Le{d:Dc}{p:eV->Prop}(h0:p gM)(h:∀x∈d.ly,p x)(i:Nat):p (d.at i):=by
 unfold Dc.at
 rw[ax];cases hg:d.ly[i]? with
 |none=>exact h0
 |some y=>exact h y (List.mem_of_getElem? hg)
theorem sm0:zC gM:=⟨aR _,aR _,aR _,aR _,aR _,aR _,aR _⟩
theorem B9.at{d:Dc}(h:B9 d)(i:Nat):zC (d.at i):=Le sm0 h.y i
set_option maxHeartbeats 1000000 in
theorem GR(d:Dc)(hd:B9 d):ee ak 39 [d.v] (GN (gU d)):=by
 refine fc Tryz.func39 (fN 2 (ff (ZP d hd.m hd.s) (be _)) (aop d (iP d).1 (iP d).2) (eO rfl) ?_);refine qm (be _) (fun u _ _=>u=GN (gU d)) (aoq d (iP d).1 (iP d).2) (dN (g1 fun h1=>⟨all_nil,?_,fun _ h=>h⟩) (dK (g1 fun h1=>⟨all_nil,?_⟩)))
 . unfold gU;rw[aD (by simpa using h1)];rfl
 have hw:(iP d).1=0:=by simpa using h1
 have ug:gU d=_:=aF hw;obtain⟨U,_⟩:=sP hw;obtain⟨_,Ay,_⟩:=DI U;have hA:=fun i (h:(decide (Int.ofNat i<Int.ofNat d.ly.length))=true)=>(⟨iI (kA h),fS d.ly,ik (kA h)⟩:((0:Int)<=Int.ofNat i/\Int.ofNat i<Int.ofNat d.ly.length)/\(fR d.ly).length=d.ly.length*31/\V.eo (dU (fR d.ly) (i*31) 31)= .eo (d.at i).ds);have hv:=fun i (h:(decide (Int.ofNat i<Int.ofNat d.ly.length))=true)=>(gV (i:=i) (by have:=kA h;omega):V.int .i64 (IntKind.i64.wrap (Int.ofNat i+(1:Int)))=J (i+1));refine dY dJ (dY dJ (gw (be _) eP (aor d []) (dK (g0 ⟨all_nil,fun T eu=>?_⟩))));simp only[andThen];refine je 0 d.ly.length (fun i=>xW d [(4,J i)]) (Ld d) (eJ.norm eu) (fun i hi hj Q' k1 k2 k3=>?_) (fun e1 T eu=>?_)
 . refine gw (ff (UP d (d.at i) (hd.at i)) (be _)) (fun u _ _=>u=GN (gU d)) (aos d i (d.at i) (wB d.sp.length (d.at i))) (dN (g2 fun h1 C=>?_) (dN (g2 fun h1 C=>?_) (dK (g1 fun h1=>⟨all_nil,fun T eu=>k2 (by have:=rG h1;omega) T (eJ.norm eu)⟩))))
   . obtain⟨a1,a2,a3⟩:=hA i h1;refine⟨X a1 (X a2 (X a3 (X rfl (X a1 (X a2 (eO a3)))))),?_,k3⟩;rw[ug,jH (f:=Ld d) (kA h1) C hj];rfl
   . obtain⟨a1,a2,a3⟩:=hA i h1;exact⟨X a1 (X a2 (X a3 (X rfl (eO (hv i h1))))),fun T eu=>k1 (kA h1) C T (eJ.norm eu)⟩
 rw[gW e1]at ug;simp only[andThen];refine eu _ _ ?_;refine dY dJ (dY dJ (gw (be _) eP (aot d _) (dK (g0 ⟨all_nil,fun T eu=>?_⟩))));simp only[andThen];refine je 2 d.ly.length (fun i=>xW d [(6,J i)]) (B8 d) (eJ.norm eu) (fun i hi hj Q' k1 k2 k3=>?_) (fun e2 T eu=>?_)
 . refine gw (ff (aeW d (d.at i) hd.m (hd.at i).kids S) (be _)) (fun u _ _=>u=GN (gU d)) (aou d i (d.at i) (rJ d (d.at i))) (dN (g2 fun h1 C=>?_) (dN (g2 fun h1 C=>?_) (dK (g1 fun h1=>⟨all_nil,fun T eu=>k2 (by have:=rG h1;omega) T (eJ.norm eu)⟩))))
   . obtain⟨a1,a2,a3⟩:=hA i h1;refine⟨X a1 (X a2 (X a3 (X rfl (X a1 (X a2 (eO a3)))))),?_,k3⟩;rw[ug,jH (f:=B8 d) (kA h1) C hj];rfl
   . obtain⟨a1,a2,a3⟩:=hA i h1;exact⟨X a1 (X a2 (X a3 (X rfl (eO (hv i h1))))),fun T eu=>k1 (kA h1) C T (eJ.norm eu)⟩
 rw[gW e2]at ug;simp only[andThen];refine eu _ _ ?_;refine dY dJ (dY dJ (gw (be _) eP (aov d _) (dK (g0 ⟨all_nil,fun T eu=>?_⟩))));simp only[andThen];refine je 4 d.ly.length (fun i=>xW d [(7,J i)]) (AE d) (eJ.norm eu) (fun i hi hj Q' k1 k2 k3=>?_) (fun e3 T eu=>?_)
 . have hP:=Ts d (d.at i).of hd.m.ly;cases hn:jq d.ly (d.at i).of with
   |none=>
    have ha:pW d.ly (d.at i).of= -1:=by unfold pW;rw[hn]
    have A:AE d i=((d.at i).kd==4&&true):=by unfold AE BM;rw[hn]
    rw[ha]at hP;refine gw (ff hP (be _)) (fun u _ _=>u=GN (gU d)) (aow d i (d.at i)) (dN (g2 fun h1 C=>?_) (dN (g2 fun h1 C=>?_) (dK (g1 fun h1=>⟨all_nil,fun T eu=>k2 (by have:=rG h1;omega) T (eJ.norm eu)⟩))))
    . obtain⟨a1,a2,a3⟩:=hA i h1;refine⟨X a1 (X a2 (X a3 (X a1 (X a2 (X a3 (X rfl (X a1 (X a2 (eO a3))))))))),?_,k3⟩;rw[ug,jH (f:=AE d) (kA h1) (by rw[A,C];rfl) hj];rfl
    . obtain⟨a1,a2,a3⟩:=hA i h1;exact⟨X a1 (X a2 (X a3 (eO (hv i h1)))),fun T eu=>k1 (kA h1) (by rw[A,C];rfl) T (eJ.norm eu)⟩
   |some m=>
    have ha:pW d.ly (d.at i).of=Int.ofNat m:=by unfold pW;rw[hn]
    obtain⟨fj,_,_⟩:=iG hn;have A:AE d i=((d.at i).kd==4&&((d.at m).kd==3)):=by unfold AE BM;rw[hn]
    rw[ha]at hP;obtain⟨b1,b2,b3⟩:=hA m (aW (cE.2 fj));have b0:V.bool (decide (Int.ofNat m<(0:Int)))=V.bool false:=aG V.bool (aX (by simp only[gD];omega));refine gw (ff hP (be _)) (fun u _ _=>u=GN (gU d)) (aox d i m (d.at i) (d.at m)) (dN (g3 fun h1 C h3=>?_) (dN (g3 fun h1 C h3=>?_) (dN (g2 fun h1 C=>?_) (dK (g1 fun h1=>⟨all_nil,fun T eu=>k2 (by have:=rG h1;omega) T (eJ.norm eu)⟩)))))
    . obtain⟨a1,a2,a3⟩:=hA i h1;refine⟨X a1 (X a2 (X a3 (X a1 (X a2 (X a3 (X rfl (X b0 (X b1 (X b2 (X b3 (X a1 (X a2 (eO a3))))))))))))),?_,k3⟩;rw[ug,jH (f:=AE d) (kA h1) (by rw[A,C,h3];rfl) hj];rfl
    . obtain⟨a1,a2,a3⟩:=hA i h1;exact⟨X a1 (X a2 (X a3 (X a1 (X a2 (X a3 (X rfl (X b0 (X b1 (X b2 (X b3 (eO (hv i h1)))))))))))),fun T eu=>k1 (kA h1) (by rw[A,C,h3];rfl) T (eJ.norm eu)⟩
    . obtain⟨a1,a2,a3⟩:=hA i h1;exact⟨X a1 (X a2 (X a3 (eO (hv i h1)))),fun T eu=>k1 (kA h1) (by rw[A,C];rfl) T (eJ.norm eu)⟩
 rw[gW e3]at ug;simp only[andThen];refine eu _ _ ?_;have hK:∀x∈d.ly,rJ d x=true:=fun x K=>by
  obtain⟨j,hj,rfl⟩:=AF K;have:=e2 j hj;unfold B8 at this;simpa using this
 have hN:=lT hK;refine dY dJ (dY dJ (gw (be _) eP (aoy d _) (dK (g0 ⟨all_nil,fun T eu=>?_⟩))));simp only[andThen];refine je 6 d.ly.length (fun i=>xW d [(9,J i)]) (Oj d) (eJ.norm eu) (fun i hi hj Q' k1 k2 k3=>?_) (fun e4 T eu=>?_)
 . have hl:=mV d.ly false (d.at i).id;refine gw (ff (Jl d (d.at i).id false hd.m (fun h=>by cases h) S) (ff (Zo (jy d.ly false (d.at i).id) (d.at i).id S) (be _))) (fun u _ _=>u=GN (gU d)) (aoz d i (d.at i) _ _) (dN (g2 fun h1 C=>?_) (dN (g2 fun h1 C=>?_) (dK (g1 fun h1=>⟨all_nil,fun T eu=>k2 (by have:=rG h1;omega) T (eJ.norm eu)⟩))))
   . obtain⟨a1,a2,a3⟩:=hA i h1;refine⟨X a1 (X a2 (X a3 (X rfl (eO rfl)))),?_,k3⟩;rw[ug,jH (f:=Oj d) (kA h1) C hj];rfl
   . obtain⟨a1,a2,a3⟩:=hA i h1;exact⟨X a1 (X a2 (X a3 (X rfl (X rfl (eO (hv i h1)))))),fun T eu=>k1 (kA h1) C T (eJ.norm eu)⟩
 rw[gW e4]at ug;simp only at ug;simp only[andThen];refine eu _ _ ?_;have hac:Fp d.ly false:=fun x K=>by
  obtain⟨j,hj,rfl⟩:=AF K;exact e4 j hj
 have hD:=Rx d hd.m (yY d.ly false) (B6 hac) 100 fg d.root (by unfold yY;have:=mV d.ly false d.root;omega);refine eR (ff hD (be _)) (aoA d d.ly.length (jO d.ly 100 d.root)) (dN (g1 fun h1=>⟨eO rfl,_,_,_,rfl,?_⟩) (dK (g1 fun h1=>⟨eO rfl,_,_,_,rfl,?_⟩)))
 . rw[ug,aF (aZ h1)];rfl
 . rw[ug,aD (bt h1)];rfl
end Go.Proofs.YtmjggdmekboefaaGreat
