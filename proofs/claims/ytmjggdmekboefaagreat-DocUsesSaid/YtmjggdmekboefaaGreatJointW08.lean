/- The Doc laws: the reference's reached: contract. No conditions. -/
import Derived.Test.YtmjggdmekboefaaGreatJointW07
set_option linter.unusedVariables false
set_option linter.unusedSimpArgs false
set_option linter.unusedSectionVars false
namespace Go.Proofs.YtmjggdmekboefaaGreat
open Go Go.Eng
set_option maxRecDepth 10000
def Zy(st:Int->List Int):Nat->List Int->List Int->List Int
 |0,l,_=>l
 |_+1,l,[]=>l
 |k+1,l,x::td=>if l.contains x=true then Zy st k l td else Zy st k (l++[x]) (td++st x)
section
variable(ls:List eG)
def eW:List Int:=(ls.map fun x=>x.of::x.kids).flatten
def uL:Nat:=(eW ls).length*(2*(eW ls).length+2)+2*(eW ls).length+2
def jx(fK:Bool)(id:Int):List Int:=Zy (fC ls fK) (uL ls) [] (fC ls fK id)
end
section
variable{ls:List eG}{x:eG}
theorem Ef(H:x∈ls){k:Int}(Y:k∈x.kids):k∈eW ls:=List.mem_flatten.2 ⟨_,bQ.2 ⟨x,H,rfl⟩,bj _ Y⟩
theorem PI(H:x∈ls):x.of∈eW ls:=List.mem_flatten.2 ⟨_,bQ.2 ⟨x,H,rfl⟩,bz ..⟩
theorem vj(H:x∈ls):x.kids.length+1<=(eW ls).length:=by
 induction ls with
 |nil=>cases H
 |cons y ls ih=>
  have e:eW (y::ls)=(y.of::y.kids)++eW ls:=rfl;rw[e,aJ,aR];rcases aD.1 H with rfl|h
  . omega
  . have:=ih h;omega
theorem HO(H:x∈ls):(∀k∈fH x,k∈eW ls)/\(fH x).length<=(eW ls).length:=by
 have:=vj H;unfold fH;split
 . exact⟨fun k Y=>by rw[aG]at Y;subst Y;exact PI H,by simp only[aR,bU];omega⟩
 . exact⟨fun k Y=>Ef H Y,G⟩
theorem FB{id:Int}:(∀k∈gX ls id,k∈eW ls)/\(gX ls id).length<=(eW ls).length:=by
 unfold gX;split
 . split
   . rename_i m S;obtain⟨_,_,h⟩:=jG S;have:=vj h;exact⟨fun k Y=>Ef h (cB Y),by rw[bn];omega⟩
   . exact⟨fun _ h=>(by cases h),aS _⟩
 . exact⟨fun _ h=>(by cases h),aS _⟩
end
theorem k8(ls:List eG)(fK:Bool)(id:Int):(∀k∈fC ls fK id,k∈eW ls)/\(fC ls fK id).length<=2*(eW ls).length:=by
 unfold fC;split
 . rename_i n hn;obtain⟨_,_,h⟩:=jG hn;obtain⟨Q,R⟩:=HO h;obtain⟨h3,h4⟩:=FB (ls:=ls) (id:=id);split
   . exact⟨fun k Y=>(bf.1 Y).elim (Q k) (h3 k),by rw[aJ];omega⟩
   . exact⟨fun k Y=>(bf.1 Y).elim (Q k) (fun q=>by cases q),by rw[aJ,bU];omega⟩
 . exact⟨fun _ h=>(by cases h),aS _⟩
theorem Xa:kE ak 55 (vP JM):=by
 refine x8 C fun ds s' v e hA=>?_;unfold JM at e;split at e
 case h_2=>cases e
 rename_i n T k;obtain⟨rfl,rfl⟩:=sm e;have Q:T=dM (dX T):=hA _ (by simp);have R:n=(dX T).length:=hA (n=(dX T).length) (by simp);have h3:n<=1000000:=hA (n<=1000000) (by simp);generalize dX T=l at *;subst Q R;exact abC l k h3
theorem PJ:eR ak Whs:=fQ Xa (dg _)
def Xb(d:Dc)(fK:Bool)(l td:List Int)(r:List (Nat×V)):St:=match l with
 | []=>HM d fK td r
 |x::l=>FA d fK (x::l) td r
structure SR(st:Int->List Int)(iW:Nat)(h2:List Int)(dH:List Int)(k:Nat)(l td yD:List Int):Prop where
 eq:Zy st k l td=h2
 fuel:td.length+yD.length*(iW+1)<k
 nodup:l.length+yD.length<=dH.length
 see:∀y∈dH,y∈l\/y∈yD
 td:∀y∈td,y∈dH
theorem HP{st:Int->List Int}{iW:Nat}{h2 dH:List Int}{k:Nat}{l td yD:List Int}{x:Int}(h:SR st iW h2 dH k l (x::td) yD)(H:l.contains x=true):∃j,k=j+1/\SR st iW h2 dH j l td yD:=by
 obtain⟨j,rfl⟩:∃j,k=j+1:=⟨k-1,by have:=h.fuel;omega⟩;refine⟨j,rfl,?_,by have:=h.fuel;simp only[aR]at this;omega,h.nodup,h.see,fun y hy=>h.td y (bj _ hy)⟩;have:=h.eq;unfold Zy at this;rw[aE H]at this;exact this
theorem FC{st:Int->List Int}{iW:Nat}{h2 dH:List Int}{k:Nat}{l td yD:List Int}{x:Int}(hM:∀y,(st y).length<=iW)(hU:∀y,∀z∈st y,z∈dH)(h:SR st iW h2 dH k l (x::td) yD)(H:l.contains x=false):∃j HQ,k=j+1/\HQ.length<yD.length/\SR st iW h2 dH j (l++[x]) (td++st x) HQ:=by
 obtain⟨j,rfl⟩:∃j,k=j+1:=⟨k-1,by have:=h.fuel;omega⟩;have hr:x∈yD:=(h.see x (h.td x (bz ..))).resolve_left fun q=>by
  rw[<- ck]at q;rw[H]at q;cases q
 have eM:(yD.filter (. !=x)).length<yD.length:=List.length_filter_lt_length_iff_exists.2 ⟨x,hr,by simp⟩;refine⟨j,yD.filter (. !=x),rfl,eM,?_,?_,?_,fun y hy=>?_,fun y hy=>(bf.1 hy).elim (fun q=>h.td y (bj _ q)) (hU x y)⟩
 . have:=h.eq;unfold Zy at this;rw[aB (by rw[H];decide)]at this;exact this
 . have Q:=h.fuel;have R:=hM x;have h3:((yD.filter (. !=x)).length+1)*(iW+1)<=yD.length*(iW+1):=cA _ eM;rw[cW,Nat.one_mul]at h3;rw[aJ];simp only[aR]at Q;omega
 . have:=h.nodup;rw[aJ,List.length_singleton];omega
 . rcases h.see y hy with q|q
   . exact .inl (cN _ q)
   . by_cases e:y=x
     . exact .inl (List.mem_append_right _ (by rw[e];exact aG.2 rfl))
     . exact .inr (List.mem_filter.2 ⟨q,by simpa using e⟩)
theorem akc(x:Int)(td:List Int):V.eo false ((x::td).length-1) (dj (dM (x::td)) 1 (((x::td).length-1)*1))=fg td:=by
 have e:dj (dM (x::td)) 1 (((x::td).length-1)*1)=dM td:=by
  unfold dj dM;rw[cC,List.drop_succ_cons,ct,aR,Nat.add_sub_cancel,cS,<- bI (f:=D.int .i64),bD]
 rw[e];rfl
theorem PK(d:Dc)(id:Int)(fK:Bool)(hd:Fy d)(hu:fK=true->HN d.ly)(hU:(eW d.ly).length<=10000):dS ak 56 [d.v,L id,.bool fK] (fg (jx d.ly fK id)):=by
 have hS:=fun id=>W9 d id fK hd hu;have hN:=k8 d.ly fK;refine rQ Tryz.func56 (fu 3 (fj (hS id) (dg _)) (aj4 d id fK (fC d.ly fK id)) (eC rfl) ?_);generalize hR:jx d.ly fK id=h2;generalize vr:fC d.ly fK=st at *;have hI:SR st (2*(eW d.ly).length) h2 (eW d.ly) (uL d.ly) [] (st id) (eW d.ly):=by
  refine⟨by rw[<- hR];unfold jx;rw[vr],?_,by simp,fun y hy=>.inr hy,(hN id).1⟩;have Q:=(hN id).2;have e:(eW d.ly).length*(2*(eW d.ly).length+1)+(eW d.ly).length=(eW d.ly).length*(2*(eW d.ly).length+2):=by rw[Nat.mul_add,Nat.mul_add];omega
  unfold uL;omega
 have hF:uL d.ly<=500000000:=by
  unfold uL;have:=Nat.mul_le_mul hU (show 2*(eW d.ly).length+2<=20002 by omega);omega
 have hT:TG ak 0 Tryz.f56.ntmps (dB (dm 3 yb)) (Xb d fK [] (st id) []) (andThen (fun A=>TG ak 0 Tryz.f56.ntmps (dP (dm 3 yb)) A (fD ak 0 Tryz.f56 (vh (fg h2)))) (fD ak 0 Tryz.f56 (vh (fg h2)))):=by
  refine fB (i:=0) C (ju (fun m s=>∃l td yD,(SR st (2*(eW d.ly).length) h2 (eW d.ly) m l td yD/\m<=uL d.ly)/\dZ ak 0 Tryz.f56.ntmps s (Xb d fK l td [])) C ?_ (uL d.ly) ⟨[],st id,eW d.ly,⟨hI,aK _⟩,.refl⟩);rintro m s1 ⟨l,td,yD,⟨hi,S⟩,pG⟩;refine pG _ _ ?_;have hll:l.length<=10000:=by have:=hi.nodup;omega
  have AJ:td=[]->TG ak 0 Tryz.f56.ntmps (dP (dm 3 yb)) (Xb d fK l td []) (fD ak 0 Tryz.f56 (vh (fg h2))):=fun e=>by
   have hl:l=h2:=by
    have:=hi.eq;subst e;obtain⟨j,rfl⟩:∃j,m=j+1:=⟨m-1,by have:=hi.fuel;omega⟩;exact this
   rw[<- hl];cases l with
   |nil=>exact eI (dg _) (aj8 d fK td) (dA (g0 ⟨all_nil,_,_,_,rfl,.Cs (v0:=.eo false 0 []) [0] (s':=[([]:ai).length=0*1]) C (eC rfl) C C⟩))
   |cons y l=>exact eI (dg _) (acg d fK (y::l) td) (dA (g0 ⟨all_nil,_,_,_,rfl,.Cs (v0:=fg (y::l)) [0] (s':=[(dM (y::l)).length=(y::l).length*1]) C (eC (ew _)) C C⟩))
  have KO:∀s2 b,td=[]->kW 0 [2,3,7,8] s2=some (Xb d fK l td [])->b=0->andThen (fun A=>∃k',k'<m/\∃l td yD,(SR st (2*(eW d.ly).length) h2 (eW d.ly) k' l td yD/\k'<=uL d.ly)/\dZ ak 0 Tryz.f56.ntmps A (Xb d fK l td [])) (gw 0 (andThen (fun A=>TG ak 0 Tryz.f56.ntmps (dP (dm 3 yb)) A (fD ak 0 Tryz.f56 (vh (fg h2)))) (fD ak 0 Tryz.f56 (vh (fg h2))))) (.exit b) s2:=fun s2 b e qV hb=>by
   subst hb;simp only[andThen];rw[gW];exact fU qV (AJ e)
  have ZZ:td.length<=500000000:=by
   have Q:=hi.fuel;omega
  have PL:∀x tl,td=x::tl->TG ak 0 Tryz.f56.ntmps (dP bRe) (Xb d fK l td []) (andThen (fun A=>∃k',k'<m/\∃l td yD,(SR st (2*(eW d.ly).length) h2 (eW d.ly) k' l td yD/\k'<=uL d.ly)/\dZ ak 0 Tryz.f56.ntmps A (Xb d fK l td [])) (gw 0 (andThen (fun A=>TG ak 0 Tryz.f56.ntmps (dP (dm 3 yb)) A (fD ak 0 Tryz.f56 (vh (fg h2)))) (fD ak 0 Tryz.f56 (vh (fg h2)))))):=by
   rintro x tl rfl;refine fB (i:=1) C ?_;have A1:(0:Int)<=(0:Int)/\(0:Int)<Int.ofNat (x::tl).length:=⟨Int.le_refl _,by simp only[gT,aR];omega⟩;have A2:=ew (x::tl);have A3:V.dr (dj (dM (x::tl)) 0 1)=V.dr [D.int B x]:=rfl;have A4:(0:Int)<=(1:Int)/\(1:Int)<=Int.ofNat (x::tl).length:=⟨fa,by simp only[gT,aR];omega⟩;have A5:=akc x tl;have BI:=hN x;simp only[aR]at ZZ;have hts:(st x).length<=20000:=by have:=BI.2;omega
   have SQ:List.take ((0+tl.length)*1) (List.drop 0 ([]++dM tl))++dM (st x)=dM (tl++st x):=by
    rw[cL,ct,b5,cU (Nat.le_of_eq (ew tl))];exact(bR ..).symm
   have jO:0+tl.length+(st x).length=(tl++st x).length:=by rw[aJ];omega
   have B1:=ew tl;have B2:=ew (st x);cases l with
   |nil=>
    refine fu 3 PJ (aj5 d fK tl x) (J A1 (J A2 (J A3 (J A2 (J A4 (J A5 (J rfl (J rfl (J rfl (eC fa)))))))))) ?_;refine jK (t:=true) C C (fun _=>?_) (fun h=>by cases h);obtain⟨j,HQ,rfl,eM,jr⟩:=FC (fun y=>(hN y).2) (fun y=>(hN y).1) hi rfl;have h4:=aj6 d fK tl (st x) x;rw[SQ,jO]at h4;refine gz (fj (hS x) (dg _)) eH h4 (dA (g0 ⟨J B1 (J (Nb G) (J rfl (J B2 (J (by simp only[aJ,bU];omega) (eC (Nb (by rw[aJ];omega))))))),fun A dU=>?_⟩));simp only[gw,andThen];refine⟨j,Nat.lt_succ_self j,[x],tl++st x,HQ,⟨jr,G⟩,?_⟩;generalize tl++st x=UW at dU;refine((dZ.norm dU).trans (dZ.own [(1,.i64)] (hm:=ff [(2,.bool fK),(3,.ptr (some (0,0))),(7,.eS (some (1,0)) 1 1 1),(8,.eS (some (2,0)) UW.length UW.length 1)] (mRe d [(1,.own .i64 [x]),(2,.deep (dM UW))]) 3) C)).trans (dZ.HF [2] [2,3,7,8] (s':=[(dM UW).length=UW.length*1]) C (eC (ew _)))
   |cons y l=>
    have be:=J A1 (J A2 (J A3 (J A2 (J A4 (J A5 (J (ew (y::l)) (J (aH dM (fh (y::l)).symm) (J (aH List.length (fh (y::l)).symm) (eC (show(y::l).length<=1000000 by omega))))))))));refine tO 3 PJ (ace d fK (y::l) tl x) (dz (g1 fun Q=>⟨be,_,rfl,?_⟩) (dA (g1 fun Q=>⟨be,_,rfl,?_⟩)))
    . rw[fh]at Q;have H:(y::l).contains x=false:=by cases hq:(y::l).contains x<;>rw[hq]at Q<;>first|rfl|cases Q
      refine jK (t:=true) C C (fun _=>?_) (fun h=>by cases h);obtain⟨j,HQ,rfl,eM,jr⟩:=FC (fun y=>(hN y).2) (fun y=>(hN y).1) hi H;have h4:=acf d fK (y::l) tl (st x) x;rw[SQ,jO,ct,cS,bD]at h4;have Rg:(y::l).length+1=(y::l++[x]).length:=by rw[aJ];rfl
      have hr:fo ((y::l).length+1) 1 8=true:=Nb G;have hp:0<(y::l).length:=by simp only[aR];omega
      refine gz (fj (hS x) (dg _)) eH h4 (dA (g0 ⟨J hp (J G (J fa (J hr (J B1 (J (Nb G) (J rfl (J B2 (J (by simp only[aJ,bU];omega) (eC (Nb (by rw[aJ];omega))))))))))),fun A dU=>?_⟩));simp only[gw,andThen];refine⟨j,Nat.lt_succ_self j,y::l++[x],tl++st x,HQ,⟨jr,G⟩,?_⟩;rw[Rg]at dU;generalize tl++st x=UW at dU;have e:y::l++[x]=y::(l++[x]):=rfl;rw[e]at dU ⊢;generalize l++[x]=l2 at dU;exact(dZ.norm dU).trans (dZ.HF [2] [2,3,7,8] (s':=[(dM UW).length=UW.length*1]) C (eC (ew _)))
    . rw[fh]at Q;have H:(y::l).contains x=true:=by cases hq:(y::l).contains x<;>rw[hq]at Q<;>first|rfl|cases Q
      obtain⟨j,rfl,jr⟩:=HP hi H;refine jK (t:=false) C C (fun h=>by cases h) (fun _=>?_);refine gz (dg _) eH (aj7 d fK (y::l) tl x) (dA (g0 ⟨all_nil,fun A dU=>?_⟩));simp only[gw,andThen];exact⟨j,Nat.lt_succ_self j,y::l,tl,yD,⟨jr,G⟩,dZ.norm dU⟩
  cases td with
  |nil=>
   cases l with
   |nil=>exact pF (dg _) eH (acd d fK []) (dz (g1 fun Q=>absurd Q fa) (dA (g1 fun Q=>⟨all_nil,fun A dU=>KO A 0 rfl dU rfl⟩)))
   |cons y l=>exact pF (dg _) eH (UU d fK (y::l) []) (dz (g1 fun Q=>absurd Q fa) (dA (g1 fun Q=>⟨all_nil,fun A dU=>KO A 0 rfl dU rfl⟩)))
  |cons x tl=>
   have hp:decide (Int.ofNat (x::tl).length>0)=true:=aY (by simp only[gT,aR];omega);cases l with
   |nil=>exact pF (dg _) eH (acd d fK (x::tl)) (dz (g1 fun Q=>⟨all_nil,PL x tl rfl⟩) (dA (g1 fun Q=>by rw[hp]at Q;cases Q)))
   |cons y l=>exact pF (dg _) eH (UU d fK (y::l) (x::tl)) (dz (g1 fun Q=>⟨all_nil,PL x tl rfl⟩) (dA (g1 fun Q=>by rw[hp]at Q;cases Q)))
 exact dI C hT
set_option maxRecDepth 10000
section
variable{N n0:Nat}{c:Code}{s:St}{h1:Exit->St->Prop}
theorem iQ(b n:Nat)(hm:Nat->St)(t:Nat->Bool)(h0:dZ ak N n0 s (hm 0))
  (hb:∀i,i<=n->(∀j,j<i->t j=false)->∀Q':Exit->St->Prop,(i<n->t i=false->∀A,dZ ak N n0 A (hm (i+1))->Q' .normal A)->(i=n->∀A,dZ ak N n0 A (hm i)->Q' (.exit b) A)->(∀A,h1 .ret A->Q' .ret A)->TG ak N n0 (dD (dD c)) (hm i) Q')
  (he:(∀j,j<n->t j=false)->∀A,dZ ak N n0 A (hm n)->h1 .normal A) (hs:(mY c b&&oz (dD c))=true:=by kernel_rfl):TG ak N n0 c s h1:=by
 rw[ay]at hs;refine fB (i:=b) hs.1 (ju (fun m s=>∃i,m=n-i/\i<=n/\(∀j,j<i->t j=false)/\dZ ak N n0 s (hm i)) hs.2 ?_ n ⟨0,G,aS _,fun _ h=>absurd h (bX _),h0⟩);rintro m s1 ⟨i,rfl,hi,hj,hg⟩;refine hg _ _ (hb i hi hj _ (fun Q R A dU=>?_) (fun Q A dU=>?_) (fun A h=>?_))
 . simp only[andThen];refine⟨n-(i+1),G,i+1,rfl,Q,fun j UR=>?_,dU⟩;rcases br j i with q|q
   . exact hj j q
   . obtain rfl:j=i:=by omega
     exact R
 . subst Q;simp only[andThen];rw[gW];exact he hj A dU
 . simp only[andThen,gw];exact h
end
section
variable(s:Sp)(i j:Nat)(a:Int)
def M9.at(m:M9):Nat->Int
 |0=>m.a|1=>m.b|2=>m.c|3=>m.d|4=>m.e|5=>m.f|6=>m.g|7=>m.h|_=>m.i
def Sp.cv:Nat->List Int
 |0=>s.c0|1=>s.c1|_=>s.c2
noncomputable abbrev ach:Code:=dG Tryz.f114
def qD(r:List (Nat×V)):St:=ff ([(1,.ptr (some (0,0)))]++r) (W [(0,.cells (D.fN s.ds))]) 1
noncomputable abbrev Xc:Code:=dm 1 ach
noncomputable abbrev Xd:Code:=dm 1 Xc
noncomputable abbrev Xe:Code:=dm 1 Xd
noncomputable abbrev aci:Code:=dD (dD (dP (dB Xc)))
noncomputable abbrev acj:Code:=dD (dD (dP (dB Xd)))
noncomputable abbrev Xf:Code:=dD (dD (dP (dB Xe)))
noncomputable abbrev ack:Code:=dD (dB (dP Xf))
noncomputable abbrev Xg:Code:=dD (dD (dP ack))
noncomputable abbrev Xh:Code:=dD (dB (dP Xg))
noncomputable abbrev acm:Code:=dB (dP Xh)
noncomputable abbrev acn:Code:=dD (dD (dP acm))
abbrev n3:Prop:=(0:Int)<=Int.ofNat i/\Int.ofNat i<3
abbrev n9:Prop:=(0:Int)<=Int.ofNat i/\Int.ofNat i<9
theorem akd:dn (U dY []) [] 0 Tryz.f114 [1] (dN 1 ach) (dw [s.v] .nil 0) [([],
   [],
   .to .normal (qD s []))]
 :=dh.of C C C
theorem ake:dn (U dY []) [] 0 Tryz.f114 [1,3] (dB (dB Xc)) (qD s []) [([],
   [],
   .to .normal (qD s [(3,M 0)]))]
 :=dh.of C C C
theorem akf:dn (U dY []) [] 0 Tryz.f114 [1,3] (aci) (qD s [(3,M 3)]) [([],
   [],
   .to (.exit 0) (qD s [(3,M 3)]))]
 :=dh.of C C C
theorem akg:dn (U dY []) [] 0 Tryz.f114 [1,5] (dB (dB Xd)) (qD s [(3,M 3)]) [([],
   [],
   .to .normal (qD s [(5,M 0)]))]
 :=dh.of C C C
theorem akh:dn (U dY []) [] 0 Tryz.f114 [1,5] (acj) (qD s [(5,M 9)]) [([],
   [],
   .to (.exit 2) (qD s [(5,M 9)]))]
 :=dh.of C C C
theorem aki:dn (U dY []) [] 0 Tryz.f114 [1,6] (dB (dB Xe)) (qD s [(5,M 9)]) [([],
   [],
   .to .normal (qD s [(6,M 0)]))]
 :=dh.of C C C
theorem akj:dn (U dY []) [] 0 Tryz.f114 [] (dP Xe) (qD s [(6,M 3)]) [([],
   [],
   .ret (.bool true) (W []) 0)]
 :=dh.of C C C
theorem akk:dn (U dY []) [] 0 Tryz.f114 [1,6,7] (dB ack) (qD s [(6,M i)]) [([],
   [],
   .to .normal (qD s [(6,M i),(7,M 0)]))]
 :=dh.of C C C
theorem akl:dn (U dY []) [(52,.split)] 0 Tryz.f114 [1,6] (dB Xf) (qD s [(6,M i)]) [([((decide (Int.ofNat i<(3:Int))),true)],
   [],
   .to .normal (qD s [(6,M i)])),
  ([((decide (Int.ofNat i<(3:Int))),false)],
   [],
   .to (.exit 4) (qD s [(6,M i)]))]
 :=dh.of C C C
theorem akm:dn (U dY []) [(56,.split)] 0 Tryz.f114 [1,6,7] (dB Xg) (qD s [(6,M i),(7,M j)]) [([((decide (Int.ofNat j<(3:Int))),true)],
   [],
   .to .normal (qD s [(6,M i),(7,M j)])),
  ([((decide (Int.ofNat j<(3:Int))),false)],
   [],
   .to (.exit 6) (qD s [(6,M i),(7,M j)]))]
 :=dh.of C C C
theorem akn:dn (U dY []) [] 0 Tryz.f114 [1,6,7,8] (dB Xh) (qD s [(6,M i),(7,M j)]) [([],
   [],
   .to .normal (qD s [(6,M i),(7,M j),(8,M 0)]))]
 :=dh.of C C C
theorem ako:dn (U dY []) [] 0 Tryz.f114 [1,6,7,8,9] (dB acm) (qD s [(6,M i),(7,M j),(8,L a)]) [([],
   [],
   .to .normal (qD s [(6,M i),(7,M j),(8,L a),(9,M 0)]))]
 :=dh.of C C C
theorem aco:dn (U dY []) [] 0 Tryz.f114 [1,6,7,8,9] (acn) (qD s [(6,M i),(7,M j),(8,L a),(9,M 3)]) [([],
   [],
   .to (.exit 8) (qD s [(6,M i),(7,M j),(8,L a),(9,M 3)]))]
 :=dh.of C C C
theorem akp:dn (U dY []) [(82,.split),(87,.split),(89,.split)] 0 Tryz.f114 [1,6,7] (dP (dP Xh)) (qD s [(6,M i),(7,M j),(8,L a),(9,M 3)]) [([((Int.ofNat i==Int.ofNat j),true),((decide (IntKind.i64.wrap (a-(16777216:Int))<(-32768:Int))),true)],
   [],
   .ret (.bool false) (W []) 0),
  ([((Int.ofNat i==Int.ofNat j),true),((decide (IntKind.i64.wrap (a-(16777216:Int))<(-32768:Int))),false),((decide (IntKind.i64.wrap (a-(16777216:Int))>(32768:Int))),true)],
   [],
   .ret (.bool false) (W []) 0),
  ([((Int.ofNat i==Int.ofNat j),true),((decide (IntKind.i64.wrap (a-(16777216:Int))<(-32768:Int))),false),((decide (IntKind.i64.wrap (a-(16777216:Int))>(32768:Int))),false)],
   [],
   .to .normal (qD s [(6,M i),(7,M j)])),
  ([((Int.ofNat i==Int.ofNat j),false),((decide (a<(-32768:Int))),true)],
   [],
   .ret (.bool false) (W []) 0),
  ([((Int.ofNat i==Int.ofNat j),false),((decide (a<(-32768:Int))),false),((decide (a>(32768:Int))),true)],
   [],
   .ret (.bool false) (W []) 0),
  ([((Int.ofNat i==Int.ofNat j),false),((decide (a<(-32768:Int))),false),((decide (a>(32768:Int))),false)],
   [],
   .to .normal (qD s [(6,M i),(7,M j)]))]
 :=dh.of C C C
theorem akq:dn (U dY []) [(58,.dy (M (j+1)))] 0 Tryz.f114 [1,6,7] (dP (dP Xg)) (qD s [(6,M i),(7,M j)]) [([],
   [(V.int B (IntKind.i64.wrap (Int.ofNat j+(1:Int)))=M (j+1))],
   .to .normal (qD s [(6,M i),(7,M (j+1))]))]
 :=dh.of C C C
theorem akr:dn (U dY []) [(54,.dy (M (i+1)))] 0 Tryz.f114 [1,6] (dP (dP Xf)) (qD s [(6,M i),(7,M 3)]) [([],
   [(V.int B (IntKind.i64.wrap (Int.ofNat i+(1:Int)))=M (i+1))],
   .to .normal (qD s [(6,M (i+1))]))]
 :=dh.of C C C
end
section
variable(s:Sp)(x a:Int)
theorem aks(b:Bool):∀i,i<3->dn (U (eZ 137 [fg (s.cv i)] (.bool b) dY) []) [(20,.split)] 0 Tryz.f114 [1,3] aci (qD s [(3,M i)]) [([(!b,true)],[n3 i,eY [fg (s.cv i)]],.ret (.bool false) (W []) 0),([(!b,false)],[n3 i,eY [fg (s.cv i)]],.to .normal (qD s [(3,M (i+1))]))]:=by
 intro i hi;obtain rfl|rfl|rfl:i=0\/i=1\/i=2:=by omega
 all_goals exact dh.of C C C
abbrev x1:Bool:=decide (x<(-65536:Int))
abbrev x2:Bool:=decide (x>(65536:Int))
theorem akt:∀i,i<9->dn (U dY []) [(29,.split),(35,.split),(42,.split),(49,.split)] 0 Tryz.f114 [1,5] acj (qD s [(5,M i)]) [([(x1 (s.to.at i),true)],[n9 i],.ret (.bool false) (W []) 0),([(x1 (s.to.at i),false),(x2 (s.to.at i),true)],[n9 i,n9 i],.ret (.bool false) (W []) 0),([(x1 (s.to.at i),false),(x2 (s.to.at i),false),(x1 (s.F.at i),true)],[n9 i,n9 i,n9 i],.ret (.bool false) (W []) 0),([(x1 (s.to.at i),false),(x2 (s.to.at i),false),(x1 (s.F.at i),false),(x2 (s.F.at i),true)],[n9 i,n9 i,n9 i,n9 i],.ret (.bool false) (W []) 0),([(x1 (s.to.at i),false),(x2 (s.to.at i),false),(x1 (s.F.at i),false),(x2 (s.F.at i),false)],[n9 i,n9 i,n9 i,n9 i],.to .normal (qD s [(5,M (i+1))]))]:=by
 intro i hi;obtain rfl|rfl|rfl|rfl|rfl|rfl|rfl|rfl|rfl:i=0\/i=1\/i=2\/i=3\/i=4\/i=5\/i=6\/i=7\/i=8:=by omega
 all_goals exact dh.of C C C
def Zz(i j k:Nat)(a:Int):Int:=IntKind.i64.wrap (a+IntKind.i64.wrap (s.F.at (3*i+k)*s.to.at (3*k+j)))
theorem aku:∀i j k,i<3->j<3->k<3->dn (U dY []) [] 0 Tryz.f114 [1,6,7,8,9] acn (qD s [(6,M i),(7,M j),(8,L a),(9,M k)]) [([],[n9 (3*i+k),n9 (3*k+j)],.to .normal (qD s [(6,M i),(7,M j),(8,L (Zz s i j k a)),(9,M (k+1))]))]:=by
 intro i j k hi hj Y;obtain rfl|rfl|rfl:i=0\/i=1\/i=2:=by omega
 all_goals obtain rfl|rfl|rfl:j=0\/j=1\/j=2:=by omega
 all_goals obtain rfl|rfl|rfl:k=0\/k=1\/k=2:=by omega
 all_goals exact dh.of C C C
end
set_option maxRecDepth 10000
def Xi(s:Sp)(i j:Nat):Nat->Int
 |0=>0
 |k+1=>Zz s i j k (Xi s i j k)
section
variable(s:Sp)(i j:Nat)
def ZA:Int:=bif (Int.ofNat i==Int.ofNat j)then IntKind.i64.wrap (Xi s i j 3-16777216)else Xi s i j 3
def zD:Bool:=decide (ZA s i j< -32768)||decide (ZA s i j>32768)
def FD:Bool:=(x1 (s.to.at i)||x2 (s.to.at i))||(x1 (s.F.at i)||x2 (s.F.at i))
end
def Ar(s:Sp):Bool:=!((List.range 3).any fun i=>!jF (s.cv i))&&(!((List.range 9).any (FD s))&& !((List.range 3).any fun i=>(List.range 3).any (zD s i)))
structure SS(s:Sp):Prop where
 c0:s.c0.length<=1000000
 c1:s.c1.length<=1000000
 c2:s.c2.length<=1000000
theorem SS.cv{s:Sp}(h:SS s):∀i,(s.cv i).length<=1000000000
 |0=>bC h.c0 fa
 |1=>bC h.c1 fa
 |_+2=>bC h.c2 fa
section
variable{i:Nat}
theorem lt3:decide (Int.ofNat i<(3:Int))=true↔i<3:=⟨fun h=>cg.1 (aW h),fun h=>aY (cg.2 h)⟩
theorem ge3:decide (Int.ofNat i<(3:Int))=false↔3<=i:=⟨fun h=>by have:=bx h;simp only[gT]at this;omega,fun h=>aU (by simp only[gT];omega)⟩
theorem acp(h:i<3):n3 i:=⟨bS _,cg.2 h⟩
theorem ye(h:i<9):n9 i:=⟨bS _,cg.2 h⟩
end
theorem akv(s:Sp)(hd:SS s):dS ak 114 [s.v] (.bool (Ar s)):=by
 refine eV Tryz.func114 (fu 1 (dg _) (akd s) all_nil ?_);refine dI C (dI C (gz (dg _) eH (ake s) (dA (g0 ⟨all_nil,fun A dU=>?_⟩))));simp only[andThen];refine iQ 0 3 (fun i=>qD s [(3,M i)]) (fun i=>!jF (s.cv i)) (dZ.norm dU) (fun i hi hj Q' k1 k2 k3=>?_) (fun Q A dU=>?_)
 . rcases br i 3 with q|q
   . have s':=J (acp q) (eC (show eY [fg (s.cv i)]from rfl));refine gz (fj (c5D (s.cv i) (hd.cv i)) (dg _)) (fun u _ _=>u= .bool (Ar s)) (aks s (jF (s.cv i)) i q) (dz (g1 fun h=>⟨s',?_⟩) (dA (g1 fun h=>⟨s',fun A dU=>k1 q h A (dZ.norm dU)⟩)));refine⟨aH V.bool (Eq.symm ?_),k3⟩;unfold Ar;rw[qB (f:=fun i=>!jF (s.cv i)) q h];rfl
   . obtain rfl:i=3:=by omega
     exact gz (dg _) eH (akf s) (dA (g0 ⟨all_nil,fun A dU=>k2 rfl A (dZ.norm dU)⟩))
 simp only[andThen];refine dU _ _ ?_;refine dI C (dI C (gz (dg _) eH (akg s) (dA (g0 ⟨all_nil,fun A dU=>?_⟩))));simp only[andThen];refine iQ 2 9 (fun i=>qD s [(5,M i)]) (FD s) (dZ.norm dU) (fun i hi hj Q' k1 k2 k3=>?_) (fun R A dU=>?_)
 . rcases br i 9 with q|q
   . have s':=ye q;refine gz (dg _) (fun u _ _=>u= .bool (Ar s)) (akt s i q) ?_;have hb:FD s i=true->Ar s=false:=fun h=>by
      unfold Ar;rw[qB (f:=FD s) q h];simp
     repeat' (first|exact gB|refine dz ?_ ?_)
     all_goals
      intro K;simp only[aD,aI,bh,aL,bg]at K;refine⟨by repeat' (first|exact all_nil|refine J s' ?_),?_⟩
      first
      |exact⟨aH V.bool (hb (by simp only[FD,K,cE,cm,cj,cO])).symm,k3⟩
      |exact fun A dU=>k1 q (by simp only[FD,K,cE]) A (dZ.norm dU)
   . obtain rfl:i=9:=by omega
     exact gz (dg _) eH (akh s) (dA (g0 ⟨all_nil,fun A dU=>k2 rfl A (dZ.norm dU)⟩))
 simp only[andThen];refine dU _ _ ?_;refine dI C (dI C (gz (dg _) eH (aki s) (dA (g0 ⟨all_nil,fun A dU=>?_⟩))));simp only[andThen];refine iQ 4 3 (fun i=>qD s [(6,M i)]) (fun i=>(List.range 3).any (zD s i)) (dZ.norm dU) (fun i hi hj Q' k1 k2 k3=>?_) (fun h3 A dU=>?_)
 . refine pF (dg _) eH (akl s i) (dz (g1 fun h=>⟨all_nil,?_⟩) (dA (g1 fun h=>⟨all_nil,fun A dU=>k2 (by have:=ge3.1 h;omega) A (dZ.norm dU)⟩)));have q:=lt3.1 h;refine dI C (fB (i:=5) C (dI C (gz (dg _) eH (akk s i) (dA (g0 ⟨all_nil,fun A dU=>?_⟩)))));simp only[andThen];refine iQ 6 3 (fun j=>qD s [(6,M i),(7,M j)]) (zD s i) (dZ.norm dU) (fun j w7 hjj Q2 m1 m2 m3=>?_) (fun h4 A dU=>?_)
   . refine pF (dg _) eH (akm s i j) (dz (g1 fun h=>⟨all_nil,?_⟩) (dA (g1 fun h=>⟨all_nil,fun A dU=>m2 (by have:=ge3.1 h;omega) A (dZ.norm dU)⟩)));have qj:=lt3.1 h;refine dI C (fB (i:=7) C (dI C (gz (dg _) eH (akn s i j) (dA (g0 ⟨all_nil,fun A dU=>?_⟩)))));simp only[andThen];refine fU dU ?_;refine dI C (dI C (gz (dg _) eH (ako s i j 0) (dA (g0 ⟨all_nil,fun A dU=>?_⟩))));simp only[andThen];refine iQ 8 3 (fun k=>qD s [(6,M i),(7,M j),(8,L (Xi s i j k)),(9,M k)]) (fun _=>false) (dZ.norm dU) (fun k Y CU Q3 o1 o2 o3=>?_) (fun h5 A dU=>?_)
     . rcases br k 3 with qk|qk
       . exact gz (dg _) eH (aku s (Xi s i j k) i j k q qj qk) (dA (g0 ⟨J (ye G) (eC (ye G)),fun A dU=>o1 qk rfl A (dZ.norm dU)⟩))
       . obtain rfl:k=3:=by omega
         exact gz (dg _) eH (aco s i j _) (dA (g0 ⟨all_nil,fun A dU=>o2 rfl A (dZ.norm dU)⟩))
     simp only[andThen];refine dU _ _ ?_;have hb:zD s i j=true->Ar s=false:=fun h=>by
      unfold Ar;rw[qB (f:=fun i=>(List.range 3).any (zD s i)) q (qB (f:=zD s i) qj h)];simp
     refine gz (dg _) (fun u _ _=>u= .bool (Ar s)) (akp s i j (Xi s i j 3)) ?_
     repeat' (first|exact gB|refine dz ?_ ?_)
     all_goals
      intro K;simp only[aD,aI,bh,aL,bg]at K;refine⟨all_nil,?_⟩
      first
      |exact⟨aH V.bool (hb (by simp only[zD,ZA,K,cond_true,cond_false,cE,cm,cj,cO])).symm,fun A h=>m3 A (k3 A h)⟩
      |exact fun A dU=>by
        simp only[gw,andThen];exact fU dU (gz (dg _) eH (akq s i j) (dA (g0 ⟨eC (gJ G),fun A dU=>m1 qj (by simp only[zD,ZA,K,cond_true,cond_false,cE]) A (dZ.norm dU)⟩)))
   simp only[gw,andThen];refine dU _ _ (gz (dg _) eH (akr s i) (dA (g0 ⟨eC (gJ G),fun A dU=>k1 q (qC h4) A (dZ.norm dU)⟩)))
 simp only[andThen];refine dU _ _ (eI (dg _) (akj s) (dA (g0 ⟨all_nil,_,_,_,rfl,aH V.bool (Eq.symm ?_)⟩)));unfold Ar;rw[qC Q,qC R,qC h3];rfl
set_option maxRecDepth 10000
def df(e i:Int):V:=.agg [L e,L i]
noncomputable abbrev acq:Code:=dG Tryz.f85
noncomputable abbrev acr:Code:=dm 1 acq
noncomputable abbrev SU:Code:=dP acr
noncomputable abbrev Xj:Code:=dm 1 (dP SU)
noncomputable abbrev Xk:Code:=dP Xj
noncomputable abbrev akw:Code:=dD (dD (dP (dB SU)))
noncomputable abbrev akx:Code:=dD (dD (dP (dB Xj)))
def mWh(d:Dc):I O:=W [(0,.cells d.T),(1,.cells [L 0,L 0])]
def Dw(d:Dc)(r:List (Nat×V)):St:=ff ([(1,.ptr (some (0,0))),(2,.ptr (some (1,0)))]++r) (mWh d) 2
theorem aky(d:Dc):dn (U dY []) [] 0 Tryz.f85 [1,2] (dN 1 acq) (dw [d.v] .nil 0) [([],
   [],
   .to .normal (Dw d []))]
 :=dh.of C C C
theorem akz(d:Dc):dn (U dY []) [(12,.split),(17,.split),(22,.split),(27,.split)] 0 Tryz.f85 [1,2] (dB acr) (Dw d []) [([((decide ((Int.ofNat d.sp.length)>(8:Int))),true)],
   [],
   .ret (.agg [.int .i64 2,.int .i64 0]) (W []) 0),
  ([((decide ((Int.ofNat d.sp.length)>(8:Int))),false),((decide ((Int.ofNat d.ly.length)>(40:Int))),true)],
   [],
   .ret (.agg [.int .i64 2,.int .i64 0]) (W []) 0),
  ([((decide ((Int.ofNat d.sp.length)>(8:Int))),false),((decide ((Int.ofNat d.ly.length)>(40:Int))),false),((decide (d.nx<(1:Int))),true)],
   [],
   .ret (.agg [.int .i64 2,.int .i64 0]) (W []) 0),
  ([((decide ((Int.ofNat d.sp.length)>(8:Int))),false),((decide ((Int.ofNat d.ly.length)>(40:Int))),false),((decide (d.nx<(1:Int))),false),((decide (d.nx>(1048576:Int))),true)],
   [],
   .ret (.agg [.int .i64 2,.int .i64 0]) (W []) 0),
  ([((decide ((Int.ofNat d.sp.length)>(8:Int))),false),((decide ((Int.ofNat d.ly.length)>(40:Int))),false),((decide (d.nx<(1:Int))),false),((decide (d.nx>(1048576:Int))),false)],
   [],
   .to .normal (Dw d []))]
 :=dh.of C C C
theorem akA(d:Dc):dn (U dY []) [] 0 Tryz.f85 [1,2,3] (dB (dB SU)) (Dw d []) [([],
   [],
   .to .normal (Dw d [(3,M 0)]))]
 :=dh.of C C C
abbrev PM(s:Sp):Prop:=V.lE ([]++[V.agg (List.take 21 (List.drop 0 (D.fN s.ds)))]++[])=[s.v]
theorem akB(d:Dc)(i:Nat)(s:Sp)(b:Bool):dn (U (eZ 114 [s.v] (.bool b) dY) []) [(34,.split),(40,.dy (.dr s.ds)),(43,.split),(36,.dy (M (i+1)))] 0 Tryz.f85 [1,2,3] (akw) (Dw d [(3,M i)]) [([((decide (Int.ofNat i<(Int.ofNat d.sp.length))),true),(b,true)],
   [((0:Int)<=Int.ofNat i/\Int.ofNat i<(Int.ofNat d.sp.length)),((lT d.sp).length=d.sp.length*21),(V.dr (dj (lT d.sp) (i*21) 21)=V.dr s.ds),PM s,(V.int B (IntKind.i64.wrap (Int.ofNat i+(1:Int)))=M (i+1))],
   .to .normal (Dw d [(3,M (i+1))])),
  ([((decide (Int.ofNat i<(Int.ofNat d.sp.length))),true),(b,false)],
   [((0:Int)<=Int.ofNat i/\Int.ofNat i<(Int.ofNat d.sp.length)),((lT d.sp).length=d.sp.length*21),(V.dr (dj (lT d.sp) (i*21) 21)=V.dr s.ds),PM s],
   .ret (.agg [.int .i64 23,.int .i64 0]) (W []) 0),
  ([((decide (Int.ofNat i<(Int.ofNat d.sp.length))),false)],
   [],
   .to (.exit 0) (Dw d [(3,M i)]))]
 :=dh.of C C C
theorem akC(d:Dc)(i:Nat):dn (U dY []) [] 0 Tryz.f85 [1,2,5,6] (dN 1 (dP SU)) (Dw d [(3,M i)]) [([],
   [],
   .to .normal (Dw d [(5,L 0)]))]
 :=dh.of C C C
theorem akD(d:Dc):dn (U dY []) [] 0 Tryz.f85 [1,2,5,6] (dB (dB Xj)) (Dw d [(5,L 0)]) [([],
   [],
   .to .normal (Dw d [(5,L 0),(6,M 0)]))]
 :=dh.of C C C
theorem akE(d:Dc)(i:Nat)(p:Int)(x:eG):dn (U dY []) [(50,.split),(56,.dy (.dr x.ds)),(61,.split),(66,.split),(52,.dy (M (i+1)))] 0 Tryz.f85 [1,2,5,6] (akx) (Dw d [(5,L p),(6,M i)]) [([((decide (Int.ofNat i<(Int.ofNat d.ly.length))),true),((decide (x.id<=p)),true)],
   [((0:Int)<=Int.ofNat i/\Int.ofNat i<(Int.ofNat d.ly.length)),((eX d.ly).length=d.ly.length*31),(V.dr (dj (eX d.ly) (i*31) 31)=V.dr x.ds)],
   .ret (.agg [.int .i64 40,.int .i64 (x.id)]) (W []) 0),
  ([((decide (Int.ofNat i<(Int.ofNat d.ly.length))),true),((decide (x.id<=p)),false),((decide (x.id>=d.nx)),true)],
   [((0:Int)<=Int.ofNat i/\Int.ofNat i<(Int.ofNat d.ly.length)),((eX d.ly).length=d.ly.length*31),(V.dr (dj (eX d.ly) (i*31) 31)=V.dr x.ds)],
   .ret (.agg [.int .i64 40,.int .i64 (x.id)]) (W []) 0),
  ([((decide (Int.ofNat i<(Int.ofNat d.ly.length))),true),((decide (x.id<=p)),false),((decide (x.id>=d.nx)),false)],
   [((0:Int)<=Int.ofNat i/\Int.ofNat i<(Int.ofNat d.ly.length)),((eX d.ly).length=d.ly.length*31),(V.dr (dj (eX d.ly) (i*31) 31)=V.dr x.ds),(V.int B (IntKind.i64.wrap (Int.ofNat i+(1:Int)))=M (i+1))],
   .to .normal (Dw d [(5,L x.id),(6,M (i+1))])),
  ([((decide (Int.ofNat i<(Int.ofNat d.ly.length))),false)],
   [],
   .to (.exit 2) (Dw d [(5,L p),(6,M i)]))]
 :=dh.of C C C
theorem akF(d:Dc)(a p:Int)(i:Nat):dn (U (eZ 24 [d.v,L d.root] (L a) dY) []) [] 0 Tryz.f85 [1,2,8] (dN 1 Xk) (Dw d [(5,L p),(6,M i)]) [([],
   [(V.lE ([]++[V.agg (List.take 4 (List.drop 0 d.T)),L d.root]++[])=[d.v,L d.root])],
   .to .normal (Dw d [(8,L a)]))]
 :=dh.of C C C
theorem akG(d:Dc):dn (U dY []) [] 0 Tryz.f85 [] (dm 1 Xk) (Dw d [(8,L (-1))]) [([],
   [],
   .ret (.agg [.int .i64 40,.int .i64 (d.root)]) (W []) 0)]
 :=dh.of C C C
theorem akH(d:Dc)(n:Nat)(x:eG):dn (U dY []) [(81,.dy (.dr x.ds)),(76,.dy (.bool false)),(84,.split)] 0 Tryz.f85 [] (dm 1 Xk) (Dw d [(8,M n)]) [([((x.kd !=(2:Int)),true)],
   [(V.bool (decide (Int.ofNat n<(0:Int)))=V.bool false),((0:Int)<=Int.ofNat n/\Int.ofNat n<(Int.ofNat d.ly.length)),((eX d.ly).length=d.ly.length*31),(V.dr (dj (eX d.ly) (n*31) 31)=V.dr x.ds)],
   .ret (.agg [.int .i64 40,.int .i64 (d.root)]) (W []) 0),
  ([((x.kd !=(2:Int)),false)],
   [(V.bool (decide (Int.ofNat n<(0:Int)))=V.bool false),((0:Int)<=Int.ofNat n/\Int.ofNat n<(Int.ofNat d.ly.length)),((eX d.ly).length=d.ly.length*31),(V.dr (dj (eX d.ly) (n*31) 31)=V.dr x.ds)],
   .ret (.agg [.int .i64 0,.int .i64 0]) (W []) 0)]
 :=dh.of C C C
set_option maxRecDepth 10000
def Nc:Sp:=⟨[],[],[],⟨0,0,0,0,0,0,0,0,0⟩,⟨0,0,0,0,0,0,0,0,0⟩⟩
theorem K4(x:Sp):x.ds.length=21:=rfl
theorem Bb(l:List Sp):(lT l).length=l.length*21:=rR (f:=Sp.ds) K4 l
theorem FE{l:List Sp}{i:Nat}(h:i<l.length):V.dr (dj (lT l) (i*21) 21)= .dr (l.getD i Nc).ds:=by
 rw[ax,au h];exact aH V.dr (rS (f:=Sp.ds) K4 l i h)
def lG(f:Nat->Bool)(n:Nat):Option Nat:=(List.range n).find? f
section
variable{f:Nat->Bool}{n i:Nat}
theorem je(hi:i<n)(h:f i=true)(hj:∀j,j<i->f j=false):lG f n=some i:=by
 unfold lG;rw[List.find?_range_eq_some];exact⟨h,bH.2 hi,fun j q=>by rw[hj j q];rfl⟩
theorem gr(hj:∀j,j<n->f j=false):lG f n=none:=by
 unfold lG;rw[List.find?_eq_none];intro x H;rw[hj x (bH.1 H)];simp
theorem SV(h:lG f n=some i):i<n/\f i=true/\∀j,j<i->f j=false:=by
 unfold lG at h;rw[List.find?_range_eq_some]at h;exact⟨bH.1 h.2.1,h.1,fun j q=>by simpa using h.2.2 j q⟩
theorem oV(h:lG f n=none):∀j,j<n->f j=false:=by
 unfold lG at h;rw[List.find?_eq_none]at h;intro j q;simpa using h j (bH.2 q)
end
def Dc.at(d:Dc)(i:Nat):eG:=d.ly.getD i gG
def uM(d:Dc):Nat->Int
 |0=>0
 |i+1=>(d.at i).id
def tj(d:Dc)(i:Nat):Bool:=decide ((d.at i).id<=uM d i)||decide ((d.at i).id>=d.nx)
def wR(d:Dc):Bool:=((decide ((Int.ofNat d.sp.length)>(8:Int))||decide ((Int.ofNat d.ly.length)>(40:Int)))||decide (d.nx<(1:Int)))||decide (d.nx>(1048576:Int))
def lV(d:Dc):Bool:=match kr d.ly d.root with
 |some i=>(d.at i).kd !=2
 |none=>true
def ig(d:Dc):Int×Int:=if wR d=true then(2,0)else match lG (fun i=>!Ar (d.sp.getD i Nc)) d.sp.length with
 |some _=>(23,0)
 |none=>match lG (tj d) d.ly.length with
  |some i=>(40,(d.at i).id)
  |none=>if lV d=true then(40,d.root)else(0,0)
def PN(p:Int×Int):V:=df p.1 p.2
theorem Xl(d:Dc)(hd:Fy d)(hs:∀s∈d.sp,SS s):dS ak 85 [d.v] (PN (ig d)):=by
 refine eV Tryz.func85 (fu 1 (dg _) (aky d) all_nil ?_);refine pF (dg _) (fun u _ _=>u=PN (ig d)) (akz d) ?_;have RE:wR d=true->ig d=(2,0):=fun h=>by unfold ig;rw[aE h]
 repeat' (first|exact gB|refine dz ?_ ?_)
 all_goals
  intro K;simp only[aD,aI,bh,aL,bg]at K;refine⟨all_nil,?_⟩
  first
  |exact⟨by rw[RE (by simp only[wR,K,cE,cm,cj,cO])];rfl,fun _ h=>h⟩
  |skip
 have hb:wR d=false:=by simp only[wR,K,cE]
 have Da:d.sp.length<=8:=by have:=bx K.1;simp only[gT]at this;omega
 have zB:d.ly.length<=40:=by have:=bx K.2.1;simp only[gT]at this;omega
 refine dI C (dI C (gz (dg _) eH (akA d) (dA (g0 ⟨all_nil,fun A dU=>?_⟩))));simp only[andThen];refine iQ 0 d.sp.length (fun i=>Dw d [(3,M i)]) (fun i=>!Ar (d.sp.getD i Nc)) (dZ.norm dU) (fun i hi hj Q' k1 k2 k3=>?_) (fun Q A dU=>?_)
 . have H:=fun h=>FE (l:=d.sp) (i:=i) h;generalize SW:d.sp.getD i Nc=x at *;have S:SS x:=by
    rw[<- SW,ax];cases hg:d.sp[i]? with
    |none=>exact⟨aS _,aS _,aS _⟩
    |some y=>exact hs y (List.mem_of_getElem? hg)
   refine gz (fj (akv x S) (dg _)) (fun u _ _=>u=PN (ig d)) (akB d i x (Ar x)) (dz (g2 fun Q R=>⟨J (iM (ko Q)) (J (Bb _) (J (H (ko Q)) (J rfl (eC (gJ (by have:=ko Q;omega)))))),fun A dU=>k1 (ko Q) (by rw[R];rfl) A (dZ.norm dU)⟩) (dz (g2 fun Q R=>⟨J (iM (ko Q)) (J (Bb _) (J (H (ko Q)) (eC rfl))),?_,k3⟩) (dA (g1 fun Q=>⟨all_nil,fun A dU=>k2 (by have:=tF Q;omega) A (dZ.norm dU)⟩))));unfold ig;rw[hb,aB fa,je (i:=i) (ko Q) (by rw[SW,R];rfl) hj];rfl
 simp only[andThen];refine dU _ _ ?_;refine fu 1 (dg _) (akC d d.sp.length) all_nil ?_;refine dI C (dI C (gz (dg _) eH (akD d) (dA (g0 ⟨all_nil,fun A dU=>?_⟩))));simp only[andThen];have hw:∀o,lG (tj d) d.ly.length=o->ig d=match o with
  |some i=>(40,(d.at i).id)
  |none=>if lV d=true then(40,d.root)else(0,0):=fun o e=>by
  unfold ig;rw[hb,aB fa,gr Q,e]
 refine iQ 2 d.ly.length (fun i=>Dw d [(5,L (uM d i)),(6,M i)]) (tj d) (dZ.norm dU) (fun i hi hj Q' k1 k2 k3=>?_) (fun R A dU=>?_)
 . refine gz (dg _) (fun u _ _=>u=PN (ig d)) (akE d i (uM d i) (d.at i)) ?_;refine(dz (g2 fun Q R=>⟨J (iM (ko Q)) (J (fR _) (eC (iq (ko Q)))),?_,k3⟩) (dz (g3 fun Q R h3=>⟨J (iM (ko Q)) (J (fR _) (eC (iq (ko Q)))),?_,k3⟩) (dz (g3 fun Q R h3=>⟨J (iM (ko Q)) (J (fR _) (J (iq (ko Q)) (eC (gJ (by have:=ko Q;omega))))),fun A dU=>k1 (ko Q) (by unfold tj;rw[R,h3];rfl) A (dZ.norm dU)⟩) (dA (g1 fun Q=>⟨all_nil,fun A dU=>k2 (by have:=tF Q;omega) A (dZ.norm dU)⟩)))))
   . rw[hw _ (je (i:=i) (ko Q) (by unfold tj;rw[R];rfl) hj)];rfl
   . rw[hw _ (je (i:=i) (ko Q) (by unfold tj;rw[R,h3];rfl) hj)];rfl
 simp only[andThen];refine dU _ _ ?_;have hw:=hw _ (gr R);simp only at hw;have hA:=Zx d d.root hd.ly;refine fu 1 (fj hA (dg _)) (akF d (AL d.ly d.root) (uM d d.ly.length) d.ly.length) (eC rfl) ?_;cases hn:kr d.ly d.root with
 |none=>
  have ha:AL d.ly d.root= -1:=by unfold AL;rw[hn]
  have hr:lV d=true:=by unfold lV;rw[hn]
  rw[ha];exact eI (dg _) (akG d) (dA (g0 ⟨all_nil,_,_,_,rfl,by rw[hw,hr];rfl⟩))
 |some n=>
  have ha:AL d.ly d.root=Int.ofNat n:=by unfold AL;rw[hn]
  obtain⟨eM,_,_⟩:=jG hn;have hr:lV d=((d.at n).kd !=2):=by unfold lV;rw[hn]
  rw[ha];have s':=J (show V.bool (decide (Int.ofNat n<(0:Int)))=V.bool false from aH V.bool (aU (by simp only[gT];omega))) (J (iM eM) (J (fR d.ly) (eC (iq eM))));exact eI (dg _) (akH d n (d.at n)) (dz (g1 fun Q=>⟨s',_,_,_,rfl,by rw[hw,hr,Q];rfl⟩) (dA (g1 fun Q=>⟨s',_,_,_,rfl,by rw[hw,hr,Q];rfl⟩)))
set_option maxRecDepth 10000
def FF(m a:Int):Int:=if a>m then a else m
noncomputable abbrev acs:Code:=dG Tryz.f52
noncomputable abbrev SX:Code:=dm 2 acs
noncomputable abbrev SY:Code:=dm 1 (dP SX)
noncomputable abbrev Xm:Code:=dm 2 (dP SY)
noncomputable abbrev bDp:Code:=dD (dD (dP (dB Xm)))
def K5(d:Dc)(r:List (Nat×V)):St:=ff ([(2,.ptr (some (0,0)))]++r) (W [(0,.cells d.T)]) 1
def ZB(d:Dc)(x:eG)(r:List (Nat×V)):St:=ff ([(2,.ptr (some (0,0))),(6,.ptr (some (1,0)))]++r) (W [(0,.cells d.T),(1,.cells x.T)]) 2
theorem akI(d:Dc)(id a:Int):dn (U (eZ 24 [d.v,L id] (L a) dY) []) [] 0 Tryz.f52 [2,5] (dN 2 acs) (dw [d.v,L id] .nil 0) [([],
   [(V.lE ([]++[V.agg (List.take 4 (List.drop 0 d.v.cells)),L id]++[])=[d.v,L id])],
   .to .normal (K5 d [(5,L a)]))]
 :=dh.of C C C
theorem akJ(d:Dc):dn (U dY []) [] 0 Tryz.f52 [] (dB SX) (K5 d [(5,L (-1))]) [([],
   [],
   .ret (.int .i64 0) (W []) 0)]
 :=dh.of C C C
theorem akK(d:Dc)(n:Nat):dn (U dY []) [(14,.dy (.bool false))] 0 Tryz.f52 [2,5] (dB SX) (K5 d [(5,M n)]) [([],
   [(V.bool (decide (Int.ofNat n<(0:Int)))=V.bool false)],
   .to .normal (K5 d [(5,M n)]))]
 :=dh.of C C C
theorem akL(d:Dc)(n:Nat)(x:eG):dn (U dY []) [(18,.dy (.dr x.ds))] 0 Tryz.f52 [2,6] (dN 1 (dP SX)) (K5 d [(5,M n)]) [([],
   [((0:Int)<=Int.ofNat n/\Int.ofNat n<(Int.ofNat d.ly.length)),((eX d.ly).length=d.ly.length*31),(V.dr (dj (eX d.ly) (n*31) 31)=V.dr x.ds)],
   .to .normal (ZB d x []))]
 :=dh.of C C C
theorem akM(d:Dc)(x:eG):dn (U dY []) [(22,.split),(26,.split)] 0 Tryz.f52 [2,6] (dB SY) (ZB d x []) [([((x.kd !=(2:Int)),true),((x.kd !=(4:Int)),true)],
   [],
   .ret (.int .i64 0) (W []) 0),
  ([((x.kd !=(2:Int)),true),((x.kd !=(4:Int)),false)],
   [],
   .to .normal (ZB d x [])),
  ([((x.kd !=(2:Int)),false)],
   [],
   .to .normal (ZB d x []))]
 :=dh.of C C C
theorem akN(d:Dc)(x:eG)(ps:List Int):dn (U (eZ 98 [x.v] (fg ps) dY) []) [] 0 Tryz.f52 [2,7,8] (dN 2 (dP SY)) (ZB d x []) [([],
   [(V.lE ([]++[V.agg (List.take 31 (List.drop 0 x.T))]++[])=[x.v])],
   .to .normal (K5 d [(7,L 0),(8,fg ps)]))]
 :=dh.of C C C
theorem akO(d:Dc)(ps:List Int):dn (U dY []) [] 0 Tryz.f52 [2,7,8,9] (dB (dB Xm)) (K5 d [(7,L 0),(8,fg ps)]) [([],
   [],
   .to .normal (K5 d [(7,L 0),(8,fg ps),(9,M 0)]))]
 :=dh.of C C C
theorem akP(d:Dc)(ps:List Int)(i:Nat)(m p a:Int):dn (U (eZ 52 [d.v,L p] (L a) dY) []) [(33,.dy (.bool true)),(40,.dy (.dr [.int .i64 p])),(35,.dy (M (i+1)))] 0 Tryz.f52 [2,7,8,9] (bDp) (K5 d [(7,L m),(8,fg ps),(9,M i)]) [([],
   [(V.bool (decide (Int.ofNat i<(Int.ofNat ps.length)))=V.bool true),((0:Int)<=Int.ofNat i/\Int.ofNat i<(Int.ofNat ps.length)),((dM ps).length=ps.length*1),(V.dr (dj (dM ps) (i*1) 1)=V.dr [D.int B p]),(V.lE ([]++[V.agg (List.take 4 (List.drop 0 d.T)),D.jJ._f (D.int B p) PUnit.unit]++[])=[d.v,L p]),(V.int B (IntKind.i64.wrap (Int.ofNat i+(1:Int)))=M (i+1))],
   .to .normal (K5 d [(7,L (FF m a)),(8,fg ps),(9,M (i+1))]))]
 :=dh.of C C C
theorem acu(d:Dc)(ps:List Int)(i:Nat)(m:Int):dn (U dY []) [(33,.dy (.bool false))] 0 Tryz.f52 [2,7,8,9] (bDp) (K5 d [(7,L m),(8,fg ps),(9,M i)]) [([],
   [(V.bool (decide (Int.ofNat i<(Int.ofNat ps.length)))=V.bool false)],
   .to (.exit 0) (K5 d [(7,L m),(8,fg ps),(9,M i)]))]
 :=dh.of C C C
theorem akQ(d:Dc)(ps:List Int)(i:Nat)(m:Int):dn (U dY []) [] 0 Tryz.f52 [] (dP Xm) (K5 d [(7,L m),(8,fg ps),(9,M i)]) [([],
   [],
   .ret (.int .i64 (IntKind.i64.wrap (m+(1:Int)))) (W []) 0)]
 :=dh.of C C C
set_option maxRecDepth 10000
def jQ(ls:List eG):Nat->Int->Int
 |0,_=>0
 |k+1,id=>match kr ls id with
  |none=>0
  |some n=>if((ls.getD n gG).kd !=2&&(ls.getD n gG).kd !=4)=true then 0 else(fH (ls.getD n gG)).foldl (fun m p=>FF m (jQ ls k p)) 0+1
def isK(x:eG):Bool:=!(x.kd !=2&&x.kd !=4)
def JN(ls:List eG)(rk:Int->Nat):Prop:=∀id n,kr ls id=some n->isK (ls.getD n gG)=true->∀p∈fH (ls.getD n gG),rk p<rk id
theorem CG{l:List Int}{f:Int->Int}{b:Int}(h:∀p∈l,f p<=b):∀m,m<=b->l.foldl (fun m p=>FF m (f p)) m<=b:=by
 induction l with
 |nil=>intro m S;exact S
 |cons x l ih=>
  intro m S;rw[List.foldl_cons];refine ih (fun p hp=>h p (bj _ hp)) _ ?_;unfold FF;split
  . exact h x (bz ..)
  . exact S
theorem HR{l:List Int}{f:Int->Int}:∀m,m<=l.foldl (fun m p=>FF m (f p)) m:=by
 induction l with
 |nil=>intro m;exact Int.le_refl _
 |cons x l ih=>
  intro m;rw[List.foldl_cons];refine Int.le_trans ?_ (ih _);unfold FF;split<;>omega
theorem FG(ls:List eG):∀k id,jQ ls k id<=Int.ofNat k
 |0,_=>Int.le_refl _
 |k+1,id=>by
  unfold jQ;split
  . exact bS _
  . split
    . exact bS _
    . rename_i n _ _;have:=CG (l:=fH (ls.getD n gG)) (f:=jQ ls k) (b:=Int.ofNat k) (fun p _=>FG ls k p) 0 (bS _);simp only[gT]at this ⊢;refine Int.le_trans (Int.add_le_add_right this 1) G
theorem Xn(d:Dc)(hd:Fy d)(rk:Int->Nat)(hrk:JN d.ly rk):∀k,k<=1000->∀id,rk id<k->dS ak 52 [d.v,L id] (L (jQ d.ly k id)):=by
 intro k
 induction k with
 |zero=>intro _ id h;exact absurd h (bX _)
 |succ k ih=>
  intro Y id h;have hA:=Zx d id hd.ly;refine eV Tryz.func52 (fu 2 (fj hA (dg _)) (akI d id (AL d.ly id)) (eC rfl) ?_);cases hn:kr d.ly id with
  |none=>
   have ha:AL d.ly id= -1:=by unfold AL;rw[hn]
   have hv:jQ d.ly (k+1) id=0:=by unfold jQ;rw[hn]
   rw[ha];exact pF (dg _) (fun u _ _=>u=L (jQ d.ly (k+1) id)) (akJ d) (dA (g0 ⟨all_nil,by rw[hv],fun _ h=>h⟩))
  |some n=>
   have ha:AL d.ly id=Int.ofNat n:=by unfold AL;rw[hn]
   obtain⟨eM,hid,_⟩:=jG hn;generalize H:d.ly.getD n gG=x at *;have hv:jQ d.ly (k+1) id=if(x.kd !=2&&x.kd !=4)=true then 0 else(fH x).foldl (fun m p=>FF m (jQ d.ly k p)) 0+1:=by
    rw[jQ,hn];simp only;rw[H]
   rw[ha];refine pF (dg _) eH (akK d n) (dA (g0 ⟨eC (aH V.bool (aU (by simp only[gT];omega))),?_⟩));refine fu 1 (dg _) (akL d n x) (J (iM eM) (J (fR _) (eC (by rw[<- H];exact iq eM)))) ?_;have vt:(x.kd !=2&&x.kd !=4)=false->TG ak 0 Tryz.f52.ntmps (dP SY) (ZB d x []) (fD ak 0 Tryz.f52 fun u _ _=>u=L (jQ d.ly (k+1) id)):=fun K=>by
    rw[hv,K,aB fa];have hp:∀p∈fH x,rk p<k:=fun p hp=>by
     have:=hrk id n hn (by unfold isK;rw[H,K];rfl) p (by rw[H];exact hp);omega
    have hl:(fH x).length<=1000000:=by
     have S:x∈d.ly:=by rw[<- H,ax,au eM];exact bK eM
     unfold fH;split
     . simp
     . exact hd.kids x S
    refine fu 2 (fj (Pv x) (dg _)) (akN d x (fH x)) (eC rfl) ?_;generalize fH x=ps at *;refine dI C (dI C (gz (dg _) eH (akO d ps) (dA (g0 ⟨all_nil,fun A dU=>?_⟩))));simp only[andThen];refine iQ 0 ps.length (fun i=>K5 d [(7,L ((ps.take i).foldl (fun m p=>FF m (jQ d.ly k p)) 0)),(8,fg ps),(9,M i)]) (fun _=>false) (dZ.norm dU) (fun i hi hj Q' m1 m2 m3=>?_) (fun Q A dU=>?_)
    . rcases br i ps.length with q|q
      . have hg:=fJ (l:=ps) q;have S:ps.getD i 0∈ps:=by rw[ax,au q];exact bK q
        have ht:(ps.take (i+1)).foldl (fun m p=>FF m (jQ d.ly k p)) 0=FF ((ps.take i).foldl (fun m p=>FF m (jQ d.ly k p)) 0) (jQ d.ly k (ps.getD i 0)):=by
         rw[b9,getD_some 0 q,Option.toList_some,List.foldl_append];rfl
        refine gz (fj (ih G (ps.getD i 0) (hp _ S)) (dg _)) eH (akP d ps i _ (ps.getD i 0) (jQ d.ly k (ps.getD i 0))) (dA (g0 ⟨J (aH V.bool (aY (cg.2 q))) (J (iM q) (J (ew ps) (J hg (J rfl (eC (gJ G)))))),fun A dU=>m1 q rfl A ?_⟩));rw[ht];exact dZ.norm dU
      . obtain rfl:i=ps.length:=by omega
        exact gz (dg _) eH (acu d ps _ _) (dA (g0 ⟨eC (aH V.bool (aU (by simp only[gT];omega))),fun A dU=>m2 rfl A (dZ.norm dU)⟩))
    simp only[andThen];refine dU _ _ (eI (dg _) (akQ d ps ps.length _) (dA (g0 ⟨all_nil,_,_,_,rfl,?_⟩)));rw[bD];have R:=CG (l:=ps) (f:=jQ d.ly k) (b:=Int.ofNat k) (fun p _=>FG d.ly k p) 0 (bS _);have h3:=HR (l:=ps) (f:=jQ d.ly k) 0;generalize ps.foldl (fun m p=>FF m (jQ d.ly k p)) 0=z at R h3 ⊢;exact aH (V.int .i64) (ik G (by simp only[gT]at R;omega))
   refine pF (dg _) (fun u _ _=>u=L (jQ d.ly (k+1) id)) (akM d x) (dz (g2 fun Q R=>⟨all_nil,by rw[hv,Q,R];rfl,fun _ h=>h⟩) (dz (g2 fun Q R=>⟨all_nil,vt (by rw[Q,R];rfl)⟩) (dA (g1 fun Q=>⟨all_nil,vt (by rw[Q];rfl)⟩))))
set_option maxRecDepth 10000
noncomputable abbrev acv:Code:=dG Tryz.f39
noncomputable abbrev acw:Code:=dm 2 acv
noncomputable abbrev Xo:Code:=dP acw
noncomputable abbrev Xp:Code:=dP Xo
noncomputable abbrev Xq:Code:=dP Xp
noncomputable abbrev Xr:Code:=dP Xq
noncomputable abbrev akS:Code:=dP Xr
noncomputable abbrev akT:Code:=dD (dD (dP (dB Xo)))
noncomputable abbrev akU:Code:=dD (dD (dP (dB Xp)))
noncomputable abbrev acy:Code:=dD (dD (dP (dB Xq)))
noncomputable abbrev akV:Code:=dD (dD (dP (dB Xr)))
def w8(d:Dc)(r:List (Nat×V)):St:=ff ([(1,.ptr (some (0,0))),(2,.ptr (some (1,0)))]++r) (W [(0,.cells d.T),(1,.cells [L 0,L 0])]) 2
def sCw(d:Dc)(e i:Int):St:=ff [(1,.ptr (some (0,0))),(2,.ptr (some (1,0))),(3,.ptr (some (2,0)))] (W [(0,.cells d.T),(1,.cells [L 0,L 0]),(2,.cells [L e,L i])]) 3
theorem akW(d:Dc)(e i:Int):dn (U (eZ 85 [d.v] (df e i) dY) []) [] 0 Tryz.f39 [1,2,3] (dN 2 acv) (dw [d.v] .nil 0) [([],
   [(V.lE ([]++[V.agg (List.take 4 (List.drop 0 d.v.cells))]++[])=[d.v])],
   .to .normal (sCw d e i))]
 :=dh.of C C C
theorem akX(d:Dc)(e i:Int):dn (U dY []) [(15,.split)] 0 Tryz.f39 [1,2] (dB acw) (sCw d e i) [([((e !=(0:Int)),true)],
   [],
   .ret (.agg [.int .i64 e,.int .i64 i]) (W []) 0),
  ([((e !=(0:Int)),false)],
   [],
   .to .normal (w8 d []))]
 :=dh.of C C C
theorem akY(d:Dc)(r:List (Nat×V)):dn (U dY []) [] 0 Tryz.f39 [1,2,4] (dB (dB Xo)) (w8 d []) [([],
   [],
   .to .normal (w8 d [(4,M 0)]))]
 :=dh.of C C C
abbrev PO(d:Dc)(x:eG):Prop:=V.lE ([]++[V.agg (List.take 4 (List.drop 0 d.T)),V.agg (List.take 31 (List.drop 0 (D.fN x.ds)))]++[])=[d.v,x.v]
theorem akZ(d:Dc)(i:Nat)(x:eG)(e:Int):dn (U (eZ 86 [d.v,x.v] (L e) dY) []) [(21,.split),(28,.dy (.dr x.ds)),(37,.dy (.dr x.ds)),(32,.split),(23,.dy (M (i+1)))] 0 Tryz.f39 [1,2,4] (akT) (w8 d [(4,M i)]) [([((decide (Int.ofNat i<(Int.ofNat d.ly.length))),true),((e !=(0:Int)),true)],
   [((0:Int)<=Int.ofNat i/\Int.ofNat i<(Int.ofNat d.ly.length)),((eX d.ly).length=d.ly.length*31),(V.dr (dj (eX d.ly) (i*31) 31)=V.dr x.ds),PO d x,((0:Int)<=Int.ofNat i/\Int.ofNat i<(Int.ofNat d.ly.length)),((eX d.ly).length=d.ly.length*31),(V.dr (dj (eX d.ly) (i*31) 31)=V.dr x.ds)],
   .ret (.agg [.int .i64 e,.int .i64 (x.id)]) (W []) 0),
  ([((decide (Int.ofNat i<(Int.ofNat d.ly.length))),true),((e !=(0:Int)),false)],
   [((0:Int)<=Int.ofNat i/\Int.ofNat i<(Int.ofNat d.ly.length)),((eX d.ly).length=d.ly.length*31),(V.dr (dj (eX d.ly) (i*31) 31)=V.dr x.ds),PO d x,(V.int B (IntKind.i64.wrap (Int.ofNat i+(1:Int)))=M (i+1))],
   .to .normal (w8 d [(4,M (i+1))])),
  ([((decide (Int.ofNat i<(Int.ofNat d.ly.length))),false)],
   [],
   .to (.exit 0) (w8 d [(4,M i)]))]
 :=dh.of C C C
theorem ak0(d:Dc)(j:Nat):dn (U dY []) [] 0 Tryz.f39 [1,2,6] (dB (dB Xp)) (w8 d [(4,M j)]) [([],
   [],
   .to .normal (w8 d [(6,M 0)]))]
 :=dh.of C C C
abbrev PR(d:Dc)(x:eG):Prop:=V.lE ([]++[V.agg (List.take 4 (List.drop 0 d.T)),V.agg (List.take 31 (List.drop 0 (D.fN x.ds)))]++[])=[d.v,x.v]
theorem ak1(d:Dc)(i:Nat)(x:eG)(b:Bool):dn (U (eZ 87 [d.v,x.v] (.bool b) dY) []) [(45,.split),(52,.dy (.dr x.ds)),(59,.dy (.dr x.ds)),(55,.split),(47,.dy (M (i+1)))] 0 Tryz.f39 [1,2,6] (akU) (w8 d [(6,M i)]) [([((decide (Int.ofNat i<(Int.ofNat d.ly.length))),true),((!b),true)],
   [((0:Int)<=Int.ofNat i/\Int.ofNat i<(Int.ofNat d.ly.length)),((eX d.ly).length=d.ly.length*31),(V.dr (dj (eX d.ly) (i*31) 31)=V.dr x.ds),PR d x,((0:Int)<=Int.ofNat i/\Int.ofNat i<(Int.ofNat d.ly.length)),((eX d.ly).length=d.ly.length*31),(V.dr (dj (eX d.ly) (i*31) 31)=V.dr x.ds)],
   .ret (.agg [.int .i64 40,.int .i64 (x.id)]) (W []) 0),
  ([((decide (Int.ofNat i<(Int.ofNat d.ly.length))),true),((!b),false)],
   [((0:Int)<=Int.ofNat i/\Int.ofNat i<(Int.ofNat d.ly.length)),((eX d.ly).length=d.ly.length*31),(V.dr (dj (eX d.ly) (i*31) 31)=V.dr x.ds),PR d x,(V.int B (IntKind.i64.wrap (Int.ofNat i+(1:Int)))=M (i+1))],
   .to .normal (w8 d [(6,M (i+1))])),
  ([((decide (Int.ofNat i<(Int.ofNat d.ly.length))),false)],
   [],
   .to (.exit 2) (w8 d [(6,M i)]))]
 :=dh.of C C C
theorem ak2(d:Dc)(j:Nat):dn (U dY []) [] 0 Tryz.f39 [1,2,7] (dB (dB Xq)) (w8 d [(6,M j)]) [([],
   [],
   .to .normal (w8 d [(7,M 0)]))]
 :=dh.of C C C
theorem ak3(d:Dc)(i:Nat)(x:eG):dn (U (eZ 24 [d.v,L x.of] (L (-1)) dY) []) [(67,.split),(73,.dy (.dr x.ds)),(81,.dy (.dr x.ds)),(99,.dy (.dr x.ds)),(76,.split),(69,.dy (M (i+1)))] 0 Tryz.f39 [1,2,7] (acy) (w8 d [(7,M i)]) [([((decide (Int.ofNat i<(Int.ofNat d.ly.length))),true),((x.kd==(4:Int)),true)],
   [((0:Int)<=Int.ofNat i/\Int.ofNat i<(Int.ofNat d.ly.length)),((eX d.ly).length=d.ly.length*31),(V.dr (dj (eX d.ly) (i*31) 31)=V.dr x.ds),((0:Int)<=Int.ofNat i/\Int.ofNat i<(Int.ofNat d.ly.length)),((eX d.ly).length=d.ly.length*31),(V.dr (dj (eX d.ly) (i*31) 31)=V.dr x.ds),(V.lE ([]++[V.agg (List.take 4 (List.drop 0 d.T)),D.jJ._f (D.int B x.of) PUnit.unit]++[])=[d.v,L x.of]),((0:Int)<=Int.ofNat i/\Int.ofNat i<(Int.ofNat d.ly.length)),((eX d.ly).length=d.ly.length*31),(V.dr (dj (eX d.ly) (i*31) 31)=V.dr x.ds)],
   .ret (.agg [.int .i64 40,.int .i64 (x.id)]) (W []) 0),
  ([((decide (Int.ofNat i<(Int.ofNat d.ly.length))),true),((x.kd==(4:Int)),false)],
   [((0:Int)<=Int.ofNat i/\Int.ofNat i<(Int.ofNat d.ly.length)),((eX d.ly).length=d.ly.length*31),(V.dr (dj (eX d.ly) (i*31) 31)=V.dr x.ds),(V.int B (IntKind.i64.wrap (Int.ofNat i+(1:Int)))=M (i+1))],
   .to .normal (w8 d [(7,M (i+1))])),
  ([((decide (Int.ofNat i<(Int.ofNat d.ly.length))),false)],
   [],
   .to (.exit 4) (w8 d [(7,M i)]))]
 :=dh.of C C C
abbrev PS(d:Dc)(x:eG):Prop:=V.lE ([]++[V.agg (List.take 4 (List.drop 0 d.T)),D.jJ._f (D.int B x.of) PUnit.unit]++[])=[d.v,L x.of]
abbrev PT(i:Nat):Prop:=V.int B (IntKind.i64.wrap (Int.ofNat i+(1:Int)))=M (i+1)
theorem ak4(d:Dc)(i n:Nat)(x y:eG):dn (U (eZ 24 [d.v,L x.of] (M n) dY) []) [(67,.split),(73,.dy (.dr x.ds)),(81,.dy (.dr x.ds)),(99,.dy (.dr x.ds)),(91,.dy (.dr y.ds)),(76,.split),(86,.dy (.bool false)),(94,.split),(69,.dy (M (i+1)))] 0 Tryz.f39 [1,2,7] (acy) (w8 d [(7,M i)]) [([((decide (Int.ofNat i<(Int.ofNat d.ly.length))),true),((x.kd==(4:Int)),true),((y.kd==(3:Int)),true)],
   [((0:Int)<=Int.ofNat i/\Int.ofNat i<(Int.ofNat d.ly.length)),((eX d.ly).length=d.ly.length*31),(V.dr (dj (eX d.ly) (i*31) 31)=V.dr x.ds),((0:Int)<=Int.ofNat i/\Int.ofNat i<(Int.ofNat d.ly.length)),((eX d.ly).length=d.ly.length*31),(V.dr (dj (eX d.ly) (i*31) 31)=V.dr x.ds),PS d x,(V.bool (decide (Int.ofNat n<(0:Int)))=V.bool false),((0:Int)<=Int.ofNat n/\Int.ofNat n<(Int.ofNat d.ly.length)),((eX d.ly).length=d.ly.length*31),(V.dr (dj (eX d.ly) (n*31) 31)=V.dr y.ds),((0:Int)<=Int.ofNat i/\Int.ofNat i<(Int.ofNat d.ly.length)),((eX d.ly).length=d.ly.length*31),(V.dr (dj (eX d.ly) (i*31) 31)=V.dr x.ds)],
   .ret (.agg [.int .i64 40,.int .i64 (x.id)]) (W []) 0),
  ([((decide (Int.ofNat i<(Int.ofNat d.ly.length))),true),((x.kd==(4:Int)),true),((y.kd==(3:Int)),false)],
   [((0:Int)<=Int.ofNat i/\Int.ofNat i<(Int.ofNat d.ly.length)),((eX d.ly).length=d.ly.length*31),(V.dr (dj (eX d.ly) (i*31) 31)=V.dr x.ds),((0:Int)<=Int.ofNat i/\Int.ofNat i<(Int.ofNat d.ly.length)),((eX d.ly).length=d.ly.length*31),(V.dr (dj (eX d.ly) (i*31) 31)=V.dr x.ds),PS d x,(V.bool (decide (Int.ofNat n<(0:Int)))=V.bool false),((0:Int)<=Int.ofNat n/\Int.ofNat n<(Int.ofNat d.ly.length)),((eX d.ly).length=d.ly.length*31),(V.dr (dj (eX d.ly) (n*31) 31)=V.dr y.ds),PT i],
   .to .normal (w8 d [(7,M (i+1))])),
  ([((decide (Int.ofNat i<(Int.ofNat d.ly.length))),true),((x.kd==(4:Int)),false)],
   [((0:Int)<=Int.ofNat i/\Int.ofNat i<(Int.ofNat d.ly.length)),((eX d.ly).length=d.ly.length*31),(V.dr (dj (eX d.ly) (i*31) 31)=V.dr x.ds),PT i],
   .to .normal (w8 d [(7,M (i+1))])),
  ([((decide (Int.ofNat i<(Int.ofNat d.ly.length))),false)],
   [],
   .to (.exit 4) (w8 d [(7,M i)]))]
 :=dh.of C C C
theorem ak5(d:Dc)(j:Nat):dn (U dY []) [] 0 Tryz.f39 [1,2,9] (dB (dB Xr)) (w8 d [(7,M j)]) [([],
   [],
   .to .normal (w8 d [(9,M 0)]))]
 :=dh.of C C C
theorem ak6(d:Dc)(i:Nat)(x:eG)(r:List Int)(b:Bool):dn (U (eZ 56 [d.v,L x.id,.bool false] (fg r) (eZ 55 [fg r,L x.id] (.bool b) dY)) []) [(107,.split),(113,.dy (.dr x.ds)),(120,.split),(109,.dy (M (i+1)))] 0 Tryz.f39 [1,2,9] akV (w8 d [(9,M i)])
  [([(decide (Int.ofNat i<Int.ofNat d.ly.length),true),(b,true)],[(0:Int)<=Int.ofNat i/\Int.ofNat i<Int.ofNat d.ly.length,(eX d.ly).length=d.ly.length*31,V.dr (dj (eX d.ly) (i*31) 31)=V.dr x.ds,eY [d.v,L x.id,.bool false],eY [fg r,L x.id]],.ret (df 42 x.id) (W []) 0),
  ([(decide (Int.ofNat i<Int.ofNat d.ly.length),true),(b,false)],[(0:Int)<=Int.ofNat i/\Int.ofNat i<Int.ofNat d.ly.length,(eX d.ly).length=d.ly.length*31,V.dr (dj (eX d.ly) (i*31) 31)=V.dr x.ds,eY [d.v,L x.id,.bool false],eY [fg r,L x.id],V.int .i64 (IntKind.i64.wrap (Int.ofNat i+(1:Int)))=M (i+1)],.to .normal (w8 d [(9,M (i+1))])),
  ([(decide (Int.ofNat i<Int.ofNat d.ly.length),false)],[],.to (.exit 6) (w8 d [(9,M i)]))]:=dh.of C C C
abbrev PU(d:Dc):Prop:=V.lE ([]++[V.agg (List.take 4 (List.drop 0 d.T)),L d.root]++[])=[d.v,L d.root]
theorem ak7(d:Dc)(j:Nat)(a:Int):dn (U (eZ 52 [d.v,L d.root] (L a) dY) []) [(127,.split)] 0 Tryz.f39 [] (akS) (w8 d [(9,M j)]) [([((decide (a>(6:Int))),true)],
   [PU d],
   .ret (.agg [.int .i64 43,.int .i64 (d.root)]) (W []) 0),
  ([((decide (a>(6:Int))),false)],
   [PU d],
   .ret (.agg [.int .i64 0,.int .i64 0]) (W []) 0)]
 :=dh.of C C C
set_option maxRecDepth 10000
theorem Bc:∀{l m:List Int},l.Nodup->(∀x∈l,x∈m)->l.length<=m.length
 | [],_,_,_=>aS _
 |x::l,m,h,hs=>by
  rw[List.nodup_cons]at h;have Q:=Bc (m:=m.erase x) h.2 fun y hy=>(List.mem_erase_of_ne (by rintro rfl;exact h.1 hy)).2 (hs y (bj _ hy));have H:=hs x (bz ..);have R:=List.length_erase_of_mem H;have h3:0<m.length:=List.length_pos_of_mem H;rw[aR];omega
inductive xb(st:Int->List Int):Int->Int->Prop
 |one {x y:Int}:y∈st x->xb st x y
 |tail {x y z:Int}:xb st x y->z∈st y->xb st x z
theorem xb.trans{st:Int->List Int}{x y z:Int}(Q:xb st x y)(R:xb st y z):xb st x z:=by
 induction R with
 |one h=>exact .tail Q h
 |tail _ h ih=>exact .tail ih h
theorem xb.head{st:Int->List Int}{x z:Int}(h:xb st x z):∃y∈st x,y=z\/xb st y z:=by
 induction h with
 |one h=>exact⟨_,h,.inl rfl⟩
 |tail _ h ih=>
  obtain⟨y,hy,hz⟩:=ih;refine⟨y,hy,.inr ?_⟩;rcases hz with rfl|hz
  . exact .one h
  . exact .tail hz h
theorem SZ{st:Int->List Int}{iW:Nat}{h2 dH:List Int}{id:Int}(hM:∀y,(st y).length<=iW)(hU:∀y,∀z∈st y,z∈dH):∀(k:Nat) (l td yD:List Int),SR st iW h2 dH k l td yD->l.Nodup->(∀y∈l,xb st id y)->(∀y∈td,xb st id y)->(∀y∈st id,y∈l\/y∈td)->(∀x∈l,∀z∈st x,z∈l\/z∈td)->h2.Nodup/\∀y,y∈h2↔xb st id y:=by
 intro k
 induction k with
 |zero=>intro l td yD h;exact absurd h.fuel (bX _)
 |succ k ih=>
  intro l td yD h hn hl ht hs K;cases td with
  |nil=>
   have e:l=h2:=h.eq;subst e;refine⟨hn,fun y=>⟨hl y,fun q=>?_⟩⟩
   induction q with
   |one h=>exact(hs _ h).elim (fun q=>q) fun q=>by cases q
   |tail _ h ih=>exact(K _ ih _ h).elim (fun q=>q) fun q=>by cases q
  |cons x td=>
   cases H:l.contains x with
   |true=>
    obtain⟨j,e,h'⟩:=HP h H;obtain rfl:k=j:=by omega
    have S:x∈l:=ck.1 H;have f:∀y,y∈l\/y∈x::td->y∈l\/y∈td:=fun y q=>q.elim .inl fun q=>(aD.1 q).elim (fun e=>.inl (e▸S)) .inr;exact ih l td yD h' hn hl (fun y hy=>ht y (bj _ hy)) (fun y hy=>f y (hs y hy)) fun y hy z hz=>f z (K y hy z hz)
   |false=>
    obtain⟨j,HQ,e,_,h'⟩:=FC hM hU h H;obtain rfl:k=j:=by omega
    have S:x∉l:=fun q=>by rw[<- ck]at q;rw[H]at q;cases q
    have hxr:=ht x (bz ..);have f:∀y,y∈l\/y∈x::td->y∈l++[x]\/y∈td++st x:=fun y q=>q.elim (fun q=>.inl (cN _ q)) fun q=>(aD.1 q).elim (fun e=>.inl (List.mem_append_right _ (aG.2 e))) fun q=>.inr (cN _ q);refine ih (l++[x]) (td++st x) HQ h' ?_ (fun y hy=>?_) (fun y hy=>?_) (fun y hy=>f y (hs y hy)) fun y hy z hz=>?_
    . rw[List.nodup_append];exact⟨hn,by simp,fun a ha b hb e=>S (by rw[aG]at hb;rw[<- hb,<- e];exact ha)⟩
    . rcases bf.1 hy with q|q
      . exact hl y q
      . rw[aG]at q;subst q;exact hxr
    . rcases bf.1 hy with q|q
      . exact ht y (bj _ q)
      . exact .tail hxr q
    . rcases bf.1 hy with q|q
      . exact f z (K y q z hz)
      . rw[aG]at q;subst q;exact .inr (List.mem_append_right _ hz)
section
variable(ls:List eG)
theorem jy(fK:Bool)(id:Int):(jx ls fK id).Nodup/\∀y,y∈jx ls fK id↔xb (fC ls fK) id y:=by
 have hN:=k8 ls fK;refine SZ (fun y=>(hN y).2) (fun y=>(hN y).1) (uL ls) [] (fC ls fK id) (eW ls) ⟨rfl,?_,by simp,fun y hy=>.inr hy,(hN id).1⟩ List.nodup_nil (fun _ h=>by cases h) (fun y hy=>.one hy) (fun y hy=>.inr hy) (fun _ h=>by cases h);have Q:=(hN id).2;have e:(eW ls).length*(2*(eW ls).length+1)+(eW ls).length=(eW ls).length*(2*(eW ls).length+2):=by rw[Nat.mul_add,Nat.mul_add];omega
 unfold uL;omega
theorem xb.names{ls:List eG}{fK:Bool}{x y:Int}(h:xb (fC ls fK) x y):y∈eW ls:=by
 cases h with
 |one h=>exact(k8 ls fK _).1 _ h
 |tail _ h=>exact(k8 ls fK _).1 _ h
theorem qE(fK:Bool)(id:Int):(jx ls fK id).length<=(eW ls).length:=
 Bc (jy ls fK id).1 fun y hy=>(((jy ls fK id).2 y).1 hy).names
theorem CH{ls:List eG}{fK:Bool}{id:Int}(h:kr ls id=none):fC ls fK id=[]:=by unfold fC;rw[h]
def Eg(fK:Bool):Prop:=∀x∈ls,(jx ls fK x.id).contains x.id=false
theorem ak8{ls:List eG}{fK:Bool}(h:Eg ls fK)(x:Int):¬xb (fC ls fK) x x:=fun q=>by
 cases hn:kr ls x with
 |none=>
  obtain⟨y,hy,_⟩:=q.head;rw[CH hn]at hy;cases hy
 |some n=>
  obtain⟨_,hid,S⟩:=jG hn;have Q:=h _ S;rw[hid]at Q;have R:=ck.2 (((jy ls fK x).2 x).2 q);rw[Q]at R;cases R
def CZ(fK:Bool)(id:Int):Nat:=(jx ls fK id).length
theorem K6{ls:List eG}{fK:Bool}(h:Eg ls fK){x y:Int}(hy:y∈fC ls fK x):CZ ls fK y<CZ ls fK x:=by
 have Q:=jy ls fK y;have R:=jy ls fK x;have:(y::jx ls fK y).length<=(jx ls fK x).length:=Bc (List.nodup_cons.2 ⟨fun q=>ak8 h y ((Q.2 y).1 q),Q.1⟩) fun z hz=>(R.2 z).2 (by
  rcases aD.1 hz with rfl|q
  . exact .one hy
  . exact xb.trans (.one hy) ((Q.2 z).1 q))
 exact this
theorem K7{ls:List eG}(h:Eg ls false):JN ls (CZ ls false):=fun id n hn _ p hp=>K6 h (by unfold fC;rw[hn];exact cN _ hp)
def k9:List Int:=(ls.map (·.kids)).flatten
theorem yf(k:Int):lU ls k=(k9 ls).count k:=by
 induction ls with
 |nil=>rfl
 |cons x ls ih=>
  have e:lU (x::ls) k=x.kids.count k+lU ls k:=by unfold lU;rw[cC,List.sum_cons]
  have e2:k9 (x::ls)=x.kids++k9 ls:=rfl;rw[e,e2,List.count_append,ih]
theorem JO:(eW ls).length=ls.length+(k9 ls).length:=by
 induction ls with
 |nil=>rfl
 |cons x ls ih=>
  have e:eW (x::ls)=(x.of::x.kids)++eW ls:=rfl;have e2:k9 (x::ls)=x.kids++k9 ls:=rfl;rw[e,e2,aJ,aJ,ih,aR,aR];omega
end
theorem zE{d:Dc}{x:eG}(h:qP d x=true){k:Int}(Y:k∈x.kids):∃n,kr d.ly k=some n:=by
 unfold qP at h;rw[ay,bP]at h;have Q:=cR.1 h.1 k Y;cases hn:kr d.ly k with
 |none=>rw[hn]at Q;exact absurd rfl Q
 |some n=>exact⟨n,rfl⟩
theorem Bd{d:Dc}{x:eG}(h:qP d x=true):lU d.ly x.id=if x.id=d.root then 0 else 1:=by
 unfold qP at h;rw[ay,bV,ay,ay]at h;rcases h.2 with⟨Q,R⟩|⟨Q,R⟩
 . rw[aE (by simpa using Q)];have:=cJ.1 R;simp only[gT]at this;omega
 . rw[aB (by simpa using Q)];have:=cJ.1 R;simp only[gT]at this;omega
theorem qF{d:Dc}(h:∀x∈d.ly,qP d x=true):(eW d.ly).length<=2*d.ly.length:=by
 have qf:∀k∈k9 d.ly,k∈d.ly.map (·.id):=fun k Y=>by
  obtain⟨ks,ES,Y⟩:=List.mem_flatten.1 Y;obtain⟨x,H,rfl⟩:=bQ.1 ES;obtain⟨n,hn⟩:=zE (h x H) Y;obtain⟨_,hid,S⟩:=jG hn;exact bQ.2 ⟨_,S,hid⟩
 have hnd:(k9 d.ly).Nodup:=by
  rw[List.nodup_iff_count];intro k;by_cases Y:k∈k9 d.ly
  . obtain⟨x,H,rfl⟩:=bQ.1 (qf k Y);rw[<- yf,Bd (h x H)];split<;>omega
  . rw[List.count_eq_zero_of_not_mem Y];omega
 have:=Bc hnd qf;rw[bI]at this;rw[JO];omega
set_option maxRecDepth 10000
def zF(d:Dc)(x:eG):Bool:=(x.kd==4)&&match kr d.ly x.of with
 |some m=>(d.at m).kd==3
 |none=>true
noncomputable def JP(d:Dc)(i:Nat):Bool:=vy d.sp.length (d.at i) !=0
def Be(d:Dc)(i:Nat):Bool:=!qP d (d.at i)
def zG(d:Dc)(i:Nat):Bool:=zF d (d.at i)
def MB(d:Dc)(i:Nat):Bool:=(jx d.ly false (d.at i).id).contains (d.at i).id
noncomputable def jf(d:Dc):Int×Int:=if(ig d).1=0 then match lG (JP d) d.ly.length with
  |some i=>(vy d.sp.length (d.at i),(d.at i).id)
  |none=>match lG (Be d) d.ly.length with
   |some i=>(40,(d.at i).id)
   |none=>match lG (zG d) d.ly.length with
    |some i=>(40,(d.at i).id)
    |none=>match lG (MB d) d.ly.length with
     |some i=>(42,(d.at i).id)
     |none=>if jQ d.ly 100 d.root>6 then(43,d.root)else(0,0)
 else ig d
theorem p9{d:Dc}{i:Nat}(h:i<d.ly.length):d.at i∈d.ly:=by
 unfold Dc.at
 rw[ax,au h];exact bK h
theorem zH{d:Dc}{x:eG}(h:x∈d.ly):∃i,i<d.ly.length/\d.at i=x:=by
 obtain⟨i,hi,rfl⟩:=bW h;exact⟨i,hi,by unfold Dc.at;rw[ax,au hi];rfl⟩
theorem rV{d:Dc}(h:(ig d).1=0):wR d=false/\(∀j,j<d.sp.length->(!Ar (d.sp.getD j Nc))=false)/\(∀j,j<d.ly.length->tj d j=false)/\lV d=false:=by
 unfold ig at h;split at h
 . exact absurd h fa
 . rename_i Q;split at h
   . exact absurd h fa
   . rename_i R;split at h
     . exact absurd h (by simp only;decide)
     . rename_i h3;split at h
       . exact absurd h (by simp only;decide)
       . rename_i h4;exact⟨by simpa using Q,oV R,oV h3,by simpa using h4⟩
theorem CI{d:Dc}(h:wR d=false):d.sp.length<=8/\d.ly.length<=40/\1<=d.nx/\d.nx<=1048576:=by
 unfold wR at h;simp only[cI,bt,gT]at h;omega
structure JQ(d:Dc):Prop where
 m:Fy d
 s:∀s∈d.sp,SS s
 y:∀x∈d.ly,CY x
theorem JR{d:Dc}{p:eG->Prop}(h0:p gG)(h:∀x∈d.ly,p x)(i:Nat):p (d.at i):=by
 unfold Dc.at
 rw[ax];cases hg:d.ly[i]? with
 |none=>exact h0
 |some y=>exact h y (List.mem_of_getElem? hg)
theorem sm0:CY gG:=⟨aS _,aS _,aS _,aS _,aS _,aS _,aS _⟩
theorem JQ.at{d:Dc}(h:JQ d)(i:Nat):CY (d.at i):=JR sm0 h.y i
set_option maxHeartbeats 1000000 in
theorem Xs(d:Dc)(hd:JQ d):dS ak 39 [d.v] (PN (jf d)):=by
 refine eV Tryz.func39 (fu 2 (fj (Xl d hd.m hd.s) (dg _)) (akW d (ig d).1 (ig d).2) (eC rfl) ?_);refine pF (dg _) (fun u _ _=>u=PN (jf d)) (akX d (ig d).1 (ig d).2) (dz (g1 fun Q=>⟨all_nil,?_,fun _ h=>h⟩) (dA (g1 fun Q=>⟨all_nil,?_⟩)))
 . unfold jf;rw[aB (by simpa using Q)];rfl
 have hw:(ig d).1=0:=by simpa using Q
 have tw:jf d=_:=aE hw;obtain⟨hb,_⟩:=rV hw;obtain⟨_,zB,_⟩:=CI hb;have hA:=fun i (h:(decide (Int.ofNat i<Int.ofNat d.ly.length))=true)=>(⟨iM (ko h),fR d.ly,iq (ko h)⟩:((0:Int)<=Int.ofNat i/\Int.ofNat i<Int.ofNat d.ly.length)/\(eX d.ly).length=d.ly.length*31/\V.dr (dj (eX d.ly) (i*31) 31)= .dr (d.at i).ds);have hv:=fun i (h:(decide (Int.ofNat i<Int.ofNat d.ly.length))=true)=>(gJ (i:=i) (by have:=ko h;omega):V.int .i64 (IntKind.i64.wrap (Int.ofNat i+(1:Int)))=M (i+1));refine dI C (dI C (gz (dg _) eH (akY d []) (dA (g0 ⟨all_nil,fun A dU=>?_⟩))));simp only[andThen];refine iQ 0 d.ly.length (fun i=>w8 d [(4,M i)]) (JP d) (dZ.norm dU) (fun i hi hj Q' k1 k2 k3=>?_) (fun e1 A dU=>?_)
 . refine gz (fj (SM d (d.at i) (hd.at i)) (dg _)) (fun u _ _=>u=PN (jf d)) (akZ d i (d.at i) (vy d.sp.length (d.at i))) (dz (g2 fun Q R=>?_) (dz (g2 fun Q R=>?_) (dA (g1 fun Q=>⟨all_nil,fun A dU=>k2 (by have:=tF Q;omega) A (dZ.norm dU)⟩))))
   . obtain⟨a1,a2,a3⟩:=hA i Q;refine⟨J a1 (J a2 (J a3 (J rfl (J a1 (J a2 (eC a3)))))),?_,k3⟩;rw[tw,je (f:=JP d) (ko Q) R hj];rfl
   . obtain⟨a1,a2,a3⟩:=hA i Q;exact⟨J a1 (J a2 (J a3 (J rfl (eC (hv i Q))))),fun A dU=>k1 (ko Q) R A (dZ.norm dU)⟩
 rw[gr e1]at tw;simp only[andThen];refine dU _ _ ?_;refine dI C (dI C (gz (dg _) eH (ak0 d _) (dA (g0 ⟨all_nil,fun A dU=>?_⟩))));simp only[andThen];refine iQ 2 d.ly.length (fun i=>w8 d [(6,M i)]) (Be d) (dZ.norm dU) (fun i hi hj Q' k1 k2 k3=>?_) (fun e2 A dU=>?_)
 . refine gz (fj (ab6 d (d.at i) hd.m (hd.at i).kids G) (dg _)) (fun u _ _=>u=PN (jf d)) (ak1 d i (d.at i) (qP d (d.at i))) (dz (g2 fun Q R=>?_) (dz (g2 fun Q R=>?_) (dA (g1 fun Q=>⟨all_nil,fun A dU=>k2 (by have:=tF Q;omega) A (dZ.norm dU)⟩))))
   . obtain⟨a1,a2,a3⟩:=hA i Q;refine⟨J a1 (J a2 (J a3 (J rfl (J a1 (J a2 (eC a3)))))),?_,k3⟩;rw[tw,je (f:=Be d) (ko Q) R hj];rfl
   . obtain⟨a1,a2,a3⟩:=hA i Q;exact⟨J a1 (J a2 (J a3 (J rfl (eC (hv i Q))))),fun A dU=>k1 (ko Q) R A (dZ.norm dU)⟩
 rw[gr e2]at tw;simp only[andThen];refine dU _ _ ?_;refine dI C (dI C (gz (dg _) eH (ak2 d _) (dA (g0 ⟨all_nil,fun A dU=>?_⟩))));simp only[andThen];refine iQ 4 d.ly.length (fun i=>w8 d [(7,M i)]) (zG d) (dZ.norm dU) (fun i hi hj Q' k1 k2 k3=>?_) (fun e3 A dU=>?_)
 . have hP:=Zx d (d.at i).of hd.m.ly;cases hn:kr d.ly (d.at i).of with
   |none=>
    have ha:AL d.ly (d.at i).of= -1:=by unfold AL;rw[hn]
    have K:zG d i=((d.at i).kd==4&&true):=by unfold zG zF;rw[hn]
    rw[ha]at hP;refine gz (fj hP (dg _)) (fun u _ _=>u=PN (jf d)) (ak3 d i (d.at i)) (dz (g2 fun Q R=>?_) (dz (g2 fun Q R=>?_) (dA (g1 fun Q=>⟨all_nil,fun A dU=>k2 (by have:=tF Q;omega) A (dZ.norm dU)⟩))))
    . obtain⟨a1,a2,a3⟩:=hA i Q;refine⟨J a1 (J a2 (J a3 (J a1 (J a2 (J a3 (J rfl (J a1 (J a2 (eC a3))))))))),?_,k3⟩;rw[tw,je (f:=zG d) (ko Q) (by rw[K,R];rfl) hj];rfl
    . obtain⟨a1,a2,a3⟩:=hA i Q;exact⟨J a1 (J a2 (J a3 (eC (hv i Q)))),fun A dU=>k1 (ko Q) (by rw[K,R];rfl) A (dZ.norm dU)⟩
   |some m=>
    have ha:AL d.ly (d.at i).of=Int.ofNat m:=by unfold AL;rw[hn]
    obtain⟨eM,_,_⟩:=jG hn;have K:zG d i=((d.at i).kd==4&&((d.at m).kd==3)):=by unfold zG zF;rw[hn]
    rw[ha]at hP;obtain⟨b1,b2,b3⟩:=hA m (aY (cg.2 eM));have b0:V.bool (decide (Int.ofNat m<(0:Int)))=V.bool false:=aH V.bool (aU (by simp only[gT];omega));refine gz (fj hP (dg _)) (fun u _ _=>u=PN (jf d)) (ak4 d i m (d.at i) (d.at m)) (dz (g3 fun Q R h3=>?_) (dz (g3 fun Q R h3=>?_) (dz (g2 fun Q R=>?_) (dA (g1 fun Q=>⟨all_nil,fun A dU=>k2 (by have:=tF Q;omega) A (dZ.norm dU)⟩)))))
    . obtain⟨a1,a2,a3⟩:=hA i Q;refine⟨J a1 (J a2 (J a3 (J a1 (J a2 (J a3 (J rfl (J b0 (J b1 (J b2 (J b3 (J a1 (J a2 (eC a3))))))))))))),?_,k3⟩;rw[tw,je (f:=zG d) (ko Q) (by rw[K,R,h3];rfl) hj];rfl
    . obtain⟨a1,a2,a3⟩:=hA i Q;exact⟨J a1 (J a2 (J a3 (J a1 (J a2 (J a3 (J rfl (J b0 (J b1 (J b2 (J b3 (eC (hv i Q)))))))))))),fun A dU=>k1 (ko Q) (by rw[K,R,h3];rfl) A (dZ.norm dU)⟩
    . obtain⟨a1,a2,a3⟩:=hA i Q;exact⟨J a1 (J a2 (J a3 (eC (hv i Q)))),fun A dU=>k1 (ko Q) (by rw[K,R];rfl) A (dZ.norm dU)⟩
 rw[gr e3]at tw;simp only[andThen];refine dU _ _ ?_;have hK:∀x∈d.ly,qP d x=true:=fun x H=>by
  obtain⟨j,hj,rfl⟩:=zH H;have:=e2 j hj;unfold Be at this;simpa using this
 have hN:=qF hK;refine dI C (dI C (gz (dg _) eH (ak5 d _) (dA (g0 ⟨all_nil,fun A dU=>?_⟩))));simp only[andThen];refine iQ 6 d.ly.length (fun i=>w8 d [(9,M i)]) (MB d) (dZ.norm dU) (fun i hi hj Q' k1 k2 k3=>?_) (fun e4 A dU=>?_)
 . have hl:=qE d.ly false (d.at i).id;refine gz (fj (PK d (d.at i).id false hd.m (fun h=>by cases h) G) (fj (abC (jx d.ly false (d.at i).id) (d.at i).id G) (dg _))) (fun u _ _=>u=PN (jf d)) (ak6 d i (d.at i) _ _) (dz (g2 fun Q R=>?_) (dz (g2 fun Q R=>?_) (dA (g1 fun Q=>⟨all_nil,fun A dU=>k2 (by have:=tF Q;omega) A (dZ.norm dU)⟩))))
   . obtain⟨a1,a2,a3⟩:=hA i Q;refine⟨J a1 (J a2 (J a3 (J rfl (eC rfl)))),?_,k3⟩;rw[tw,je (f:=MB d) (ko Q) R hj];rfl
   . obtain⟨a1,a2,a3⟩:=hA i Q;exact⟨J a1 (J a2 (J a3 (J rfl (J rfl (eC (hv i Q)))))),fun A dU=>k1 (ko Q) R A (dZ.norm dU)⟩
 rw[gr e4]at tw;simp only at tw;simp only[andThen];refine dU _ _ ?_;have hac:Eg d.ly false:=fun x H=>by
  obtain⟨j,hj,rfl⟩:=zH H;exact e4 j hj
 have hD:=Xn d hd.m (CZ d.ly false) (K7 hac) 100 fa d.root (by unfold CZ;have:=qE d.ly false d.root;omega);refine eI (fj hD (dg _)) (ak7 d d.ly.length (jQ d.ly 100 d.root)) (dz (g1 fun Q=>⟨eC rfl,_,_,_,rfl,?_⟩) (dA (g1 fun Q=>⟨eC rfl,_,_,_,rfl,?_⟩)))
 . rw[tw,aE (aW Q)];rfl
 . rw[tw,aB (bx Q)];rfl
end Go.Proofs.YtmjggdmekboefaaGreat
