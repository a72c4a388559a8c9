/- The Doc laws: the reference's reached: contract. No conditions. -/
import Derived.Test.YtmjggdmekboefaaGreatJointW07
set_option linter.unusedVariables false
set_option linter.unusedSimpArgs false
set_option linter.unusedSectionVars false
namespace Go.Proofs.YtmjggdmekboefaaGreat
open Go Go.Eng
set_option maxRecDepth 10000
def reF(st:Int->List Int):Nat->List Int->List Int->List Int
 |0,l,_=>l
 |_+1,l,[]=>l
 |k+1,l,x::td=>if l.contains x=true then reF st k l td else reF st k (l++[x]) (td++st x)
section
variable(ls:List eJ)
def fM:List Int:=(ls.map fun x=>x.of::x.kids).flatten
def uZ:Nat:=(fM ls).length*(2*(fM ls).length+2)+2*(fM ls).length+2
def kL(fR:Bool)(id:Int):List Int:=reF (ia ls fR) (uZ ls) [] (ia ls fR id)
end
section
variable{ls:List eJ}{x:eJ}
theorem EL(I:x∈ls){k:Int}(W:k∈x.kids):k∈fM ls:=List.mem_flatten.2 ⟨_,bN.2 ⟨x,I,rfl⟩,bj _ W⟩
theorem Qr(I:x∈ls):x.of∈fM ls:=List.mem_flatten.2 ⟨_,bN.2 ⟨x,I,rfl⟩,bx ..⟩
theorem zS(I:x∈ls):x.kids.length+1<=(fM ls).length:=by
 induction ls with
 |nil=>cases I
 |cons y ls ih=>
  have e:fM (y::ls)=(y.of::y.kids)++fM ls:=rfl;rw[e,aE,aP];rcases aD.1 I with rfl|h
  . omega
  . have:=ih h;omega
theorem Ix(I:x∈ls):(∀k∈fN x,k∈fM ls)/\(fN x).length<=(fM ls).length:=by
 have:=zS I;unfold fN;split
 . exact⟨fun k W=>by rw[aH]at W;subst W;exact Qr I,by simp only[aP,bW];omega⟩
 . exact⟨fun k W=>EL I W,H⟩
theorem Ga{id:Int}:(∀k∈jr ls id,k∈fM ls)/\(jr ls id).length<=(fM ls).length:=by
 unfold jr;split
 . split
   . rename_i m K;obtain⟨_,_,h⟩:=jn K;have:=zS h;exact⟨fun k W=>EL h (cJ W),by rw[bq];omega⟩
   . exact⟨fun _ h=>(by cases h),aU _⟩
 . exact⟨fun _ h=>(by cases h),aU _⟩
end
theorem oy(ls:List eJ)(fR:Bool)(id:Int):(∀k∈ia ls fR id,k∈fM ls)/\(ia ls fR id).length<=2*(fM ls).length:=by
 unfold ia;split
 . rename_i n hn;obtain⟨_,_,h⟩:=jn hn;obtain⟨Q,O⟩:=Ix h;obtain⟨h3,h4⟩:=Ga (ls:=ls) (id:=id);split
   . exact⟨fun k W=>(bg.1 W).elim (Q k) (h3 k),by rw[aE];omega⟩
   . exact⟨fun k W=>(bg.1 W).elim (Q k) (fun q=>by cases q),by rw[aE,bW];omega⟩
 . exact⟨fun _ h=>(by cases h),aU _⟩
theorem X4:jK ak 55 (wo Kr):=by
 refine yq C fun ds aj v e hA=>?_;unfold Kr at e;split at e
 case h_2=>cases e
 rename_i n R k;obtain⟨rfl,rfl⟩:=sm e;have Q:R=dO (ee R):=hA _ (by simp);have O:n=(ee R).length:=hA (n=(ee R).length) (by simp);have h3:n<=1000000:=hA (n<=1000000) (by simp);generalize ee R=l at *;subst Q O;exact acG l k h3
theorem Qs:eU ak Whs:=fC X4 (di _)
def X5(d:Dc)(fR:Bool)(l td:List Int)(r:List (Nat×V)):St:=match l with
 | []=>Iv d fR td r
 |x::l=>F9 d fR (x::l) td r
structure TM(st:Int->List Int)(iW:Nat)(cs:List Int)(dJ:List Int)(k:Nat)(l td yS:List Int):Prop where
 eq:reF st k l td=cs
 fuel:td.length+yS.length*(iW+1)<k
 nodup:l.length+yS.length<=dJ.length
 see:∀y∈dJ,y∈l\/y∈yS
 td:∀y∈td,y∈dJ
theorem Iy{st:Int->List Int}{iW:Nat}{cs dJ:List Int}{k:Nat}{l td yS:List Int}{x:Int}(h:TM st iW cs dJ k l (x::td) yS)(I:l.contains x=true):∃j,k=j+1/\TM st iW cs dJ j l td yS:=by
 obtain⟨j,rfl⟩:∃j,k=j+1:=⟨k-1,by have:=h.fuel;omega⟩;refine⟨j,rfl,?_,by have:=h.fuel;simp only[aP]at this;omega,h.nodup,h.see,fun y hy=>h.td y (bj _ hy)⟩;have:=h.eq;unfold reF at this;rw[aG I]at this;exact this
theorem Gb{st:Int->List Int}{iW:Nat}{cs dJ:List Int}{k:Nat}{l td yS:List Int}{x:Int}(hM:∀y,(st y).length<=iW)(hU:∀y,∀z∈st y,z∈dJ)(h:TM st iW cs dJ k l (x::td) yS)(I:l.contains x=false):∃j Iz,k=j+1/\Iz.length<yS.length/\TM st iW cs dJ j (l++[x]) (td++st x) Iz:=by
 obtain⟨j,rfl⟩:∃j,k=j+1:=⟨k-1,by have:=h.fuel;omega⟩;have hr:x∈yS:=(h.see x (h.td x (bx ..))).resolve_left fun q=>by
  rw[<- cM]at q;rw[I]at q;cases q
 have eO:(yS.filter (. !=x)).length<yS.length:=List.length_filter_lt_length_iff_exists.2 ⟨x,hr,by simp⟩;refine⟨j,yS.filter (. !=x),rfl,eO,?_,?_,?_,fun y hy=>?_,fun y hy=>(bg.1 hy).elim (fun q=>h.td y (bj _ q)) (hU x y)⟩
 . have:=h.eq;unfold reF at this;rw[aB (by rw[I];decide)]at this;exact this
 . have Q:=h.fuel;have O:=hM x;have h3:((yS.filter (. !=x)).length+1)*(iW+1)<=yS.length*(iW+1):=cI _ eO;rw[dc,Nat.one_mul]at h3;rw[aE];simp only[aP]at Q;omega
 . have:=h.nodup;rw[aE,cg];omega
 . rcases h.see y hy with q|q
   . exact .inl (List.mem_append_left _ q)
   . by_cases e:y=x
     . exact .inl (List.mem_append_right _ (by rw[e];exact aH.2 rfl))
     . exact .inr (List.mem_filter.2 ⟨q,by simpa using e⟩)
theorem alv(x:Int)(td:List Int):V.eB false ((x::td).length-1) (dn (dO (x::td)) 1 (((x::td).length-1)*1))=fj td:=by
 have e:dn (dO (x::td)) 1 (((x::td).length-1)*1)=dO td:=by
  unfold dn dO;rw[bP,List.drop_succ_cons,cA,aP,Nat.add_sub_cancel,cU,<- bG (f:=D.int .i64),bz]
 rw[e];rfl
theorem Qt(d:Dc)(id:Int)(fR:Bool)(hd:F7 d)(hu:fR=true->Iw d.ly)(hU:(fM d.ly).length<=10000):dU ak 56 [d.v,L id,.bool fR] (fj (kL d.ly fR id)):=by
 have hS:=fun id=>X3 d id fR hd hu;have hN:=oy d.ly fR;refine qL Tryz.func56 (fF 3 (fu (hS id) (di _)) (alk d id fR (ia d.ly fR id)) (eG rfl) ?_);generalize hR:kL d.ly fR id=cs;generalize vK:ia d.ly fR=st at *;have hI:TM st (2*(fM d.ly).length) cs (fM d.ly) (uZ d.ly) [] (st id) (fM d.ly):=by
  refine⟨by rw[<- hR];unfold kL;rw[vK],?_,by simp,fun y hy=>.inr hy,(hN id).1⟩;have Q:=(hN id).2;have e:(fM d.ly).length*(2*(fM d.ly).length+1)+(fM d.ly).length=(fM d.ly).length*(2*(fM d.ly).length+2):=by rw[Nat.mul_add,Nat.mul_add];omega
  unfold uZ;omega
 have hF:uZ d.ly<=500000000:=by
  unfold uZ;have:=Nat.mul_le_mul hU (show 2*(fM d.ly).length+2<=20002 by omega);omega
 have hT:TG ak 0 Tryz.f56.ntmps (dF (dr 3 yx)) (X5 d fR [] (st id) []) (andThen (fun X=>TG ak 0 Tryz.f56.ntmps (dX (dr 3 yx)) X (fH ak 0 Tryz.f56 (vD (fj cs)))) (fH ak 0 Tryz.f56 (vD (fj cs)))):=by
  refine fh (i:=0) C (jD (fun m s=>∃l td yS,(TM st (2*(fM d.ly).length) cs (fM d.ly) m l td yS/\m<=uZ d.ly)/\ek ak 0 Tryz.f56.ntmps s (X5 d fR l td [])) C ?_ (uZ d.ly) ⟨[],st id,fM d.ly,⟨hI,aK _⟩,.refl⟩);rintro m s1 ⟨l,td,yS,⟨hi,K⟩,pW⟩;refine pW _ _ ?_;have hll:l.length<=10000:=by have:=hi.nodup;omega
  have A8:td=[]->TG ak 0 Tryz.f56.ntmps (dX (dr 3 yx)) (X5 d fR l td []) (fH ak 0 Tryz.f56 (vD (fj cs))):=fun e=>by
   have hl:l=cs:=by
    have:=hi.eq;subst e;obtain⟨j,rfl⟩:∃j,m=j+1:=⟨m-1,by have:=hi.fuel;omega⟩;exact this
   rw[<- hl];cases l with
   |nil=>exact eK (di _) (alp d fR td) (dB (g0 ⟨all_nil,_,_,_,rfl,.Bu (v0:=.eB false 0 []) [0] (aj:=[([]:ai).length=0*1]) C (eG rfl) C C⟩))
   |cons y l=>exact eK (di _) (adl d fR (y::l) td) (dB (g0 ⟨all_nil,_,_,_,rfl,.Bu (v0:=fj (y::l)) [0] (aj:=[(dO (y::l)).length=(y::l).length*1]) C (eG (eo _)) C C⟩))
  have FP:∀s2 b,td=[]->ld 0 [2,3,7,8] s2=some (X5 d fR l td [])->b=0->andThen (fun X=>∃k',k'<m/\∃l td yS,(TM st (2*(fM d.ly).length) cs (fM d.ly) k' l td yS/\k'<=uZ d.ly)/\ek ak 0 Tryz.f56.ntmps X (X5 d fR l td [])) (gk 0 (andThen (fun X=>TG ak 0 Tryz.f56.ntmps (dX (dr 3 yx)) X (fH ak 0 Tryz.f56 (vD (fj cs)))) (fH ak 0 Tryz.f56 (vD (fj cs))))) (.exit b) s2:=fun s2 b e pH hb=>by
   subst hb;simp only[andThen];rw[gY];exact fU pH (A8 e)
  have htl:td.length<=500000000:=by
   have Q:=hi.fuel;omega
  have Qu:∀x tl,td=x::tl->TG ak 0 Tryz.f56.ntmps (dX bRe) (X5 d fR l td []) (andThen (fun X=>∃k',k'<m/\∃l td yS,(TM st (2*(fM d.ly).length) cs (fM d.ly) k' l td yS/\k'<=uZ d.ly)/\ek ak 0 Tryz.f56.ntmps X (X5 d fR l td [])) (gk 0 (andThen (fun X=>TG ak 0 Tryz.f56.ntmps (dX (dr 3 yx)) X (fH ak 0 Tryz.f56 (vD (fj cs)))) (fH ak 0 Tryz.f56 (vD (fj cs)))))):=by
   rintro x tl rfl;refine fh (i:=1) C ?_;have A1:(0:Int)<=(0:Int)/\(0:Int)<Int.ofNat (x::tl).length:=⟨Int.le_refl _,by simp only[gQ,aP];omega⟩;have A2:=eo (x::tl);have A3:V.dx (dn (dO (x::tl)) 0 1)=V.dx [D.int A x]:=rfl;have A4:(0:Int)<=(1:Int)/\(1:Int)<=Int.ofNat (x::tl).length:=⟨eY,by simp only[gQ,aP];omega⟩;have A5:=alv x tl;have B8:=hN x;simp only[aP]at htl;have hts:(st x).length<=20000:=by have:=B8.2;omega
   have TL:List.take ((0+tl.length)*1) (List.drop 0 ([]++dO tl))++dO (st x)=dO (tl++st x):=by
    rw[cP,cA,b7,cW (Nat.le_of_eq (eo tl))];exact(bQ ..).symm
   have jx:0+tl.length+(st x).length=(tl++st x).length:=by rw[aE];omega
   have B1:=eo tl;have B2:=eo (st x);cases l with
   |nil=>
    refine fF 3 Qs (alm d fR tl x) (S A1 (S A2 (S A3 (S A2 (S A4 (S A5 (S rfl (S rfl (S rfl (eG eY)))))))))) ?_;refine jR (t:=true) C C (fun _=>?_) (fun h=>by cases h);obtain⟨j,Iz,rfl,eO,jB⟩:=Gb (fun y=>(hN y).2) (fun y=>(hN y).1) hi rfl;have h4:=aln d fR tl (st x) x;rw[TL,jx]at h4;refine gv (fu (hS x) (di _)) eE h4 (dB (g0 ⟨S B1 (S (Ks H) (S rfl (S B2 (S (by simp only[aE,bW];omega) (eG (Ks (by rw[aE];omega))))))),fun X dQ=>?_⟩));simp only[gk,andThen];refine⟨j,Nat.lt_succ_self j,[x],tl++st x,Iz,⟨jB,H⟩,?_⟩;generalize tl++st x=VM at dQ;refine((ek.norm dQ).trans (ek.own [(1,.i64)] (fm:=fq [(2,.bool fR),(3,.ptr (some (0,0))),(7,.eR (some (1,0)) 1 1 1),(8,.eR (some (2,0)) VM.length VM.length 1)] (mRe d [(1,.own .i64 [x]),(2,.deep (dO VM))]) 3) C)).trans (ek.Ip [2] [2,3,7,8] (aj:=[(dO VM).length=VM.length*1]) C (eG (eo _)))
   |cons y l=>
    have be:=S A1 (S A2 (S A3 (S A2 (S A4 (S A5 (S (eo (y::l)) (S (aI dO (fA (y::l)).symm) (S (aI List.length (fA (y::l)).symm) (eG (show(y::l).length<=1000000 by omega))))))))));refine ud 3 Qs (adi d fR (y::l) tl x) (dD (g1 fun Q=>⟨be,_,rfl,?_⟩) (dB (g1 fun Q=>⟨be,_,rfl,?_⟩)))
    . rw[fA]at Q;have I:(y::l).contains x=false:=by cases hq:(y::l).contains x<;>rw[hq]at Q<;>first|rfl|cases Q
      refine jR (t:=true) C C (fun _=>?_) (fun h=>by cases h);obtain⟨j,Iz,rfl,eO,jB⟩:=Gb (fun y=>(hN y).2) (fun y=>(hN y).1) hi I;have h4:=adk d fR (y::l) tl (st x) x;rw[TL,jx,cA,cU,bz]at h4;have Sa:(y::l).length+1=(y::l++[x]).length:=by rw[aE];rfl
      have hr:fo ((y::l).length+1) 1 8=true:=Ks H;have hp:0<(y::l).length:=by simp only[aP];omega
      refine gv (fu (hS x) (di _)) eE h4 (dB (g0 ⟨S hp (S H (S eY (S hr (S B1 (S (Ks H) (S rfl (S B2 (S (by simp only[aE,bW];omega) (eG (Ks (by rw[aE];omega))))))))))),fun X dQ=>?_⟩));simp only[gk,andThen];refine⟨j,Nat.lt_succ_self j,y::l++[x],tl++st x,Iz,⟨jB,H⟩,?_⟩;rw[Sa]at dQ;generalize tl++st x=VM at dQ;have e:y::l++[x]=y::(l++[x]):=rfl;rw[e]at dQ ⊢;generalize l++[x]=l2 at dQ;exact(ek.norm dQ).trans (ek.Ip [2] [2,3,7,8] (aj:=[(dO VM).length=VM.length*1]) C (eG (eo _)))
    . rw[fA]at Q;have I:(y::l).contains x=true:=by cases hq:(y::l).contains x<;>rw[hq]at Q<;>first|rfl|cases Q
      obtain⟨j,rfl,jB⟩:=Iy hi I;refine jR (t:=false) C C (fun h=>by cases h) (fun _=>?_);refine gv (di _) eE (alo d fR (y::l) tl x) (dB (g0 ⟨all_nil,fun X dQ=>?_⟩));simp only[gk,andThen];exact⟨j,Nat.lt_succ_self j,y::l,tl,yS,⟨jB,H⟩,ek.norm dQ⟩
  cases td with
  |nil=>
   cases l with
   |nil=>exact qt (di _) eE (adh d fR []) (dD (g1 fun Q=>absurd Q eY) (dB (g1 fun Q=>⟨all_nil,fun X dQ=>FP X 0 rfl dQ rfl⟩)))
   |cons y l=>exact qt (di _) eE (VL d fR (y::l) []) (dD (g1 fun Q=>absurd Q eY) (dB (g1 fun Q=>⟨all_nil,fun X dQ=>FP X 0 rfl dQ rfl⟩)))
  |cons x tl=>
   have hp:decide (Int.ofNat (x::tl).length>0)=true:=aZ (by simp only[gQ,aP];omega);cases l with
   |nil=>exact qt (di _) eE (adh d fR (x::tl)) (dD (g1 fun Q=>⟨all_nil,Qu x tl rfl⟩) (dB (g1 fun Q=>by rw[hp]at Q;cases Q)))
   |cons y l=>exact qt (di _) eE (VL d fR (y::l) (x::tl)) (dD (g1 fun Q=>⟨all_nil,Qu x tl rfl⟩) (dB (g1 fun Q=>by rw[hp]at Q;cases Q)))
 exact dK C hT
set_option maxRecDepth 10000
section
variable{F fr:Nat}{c:Code}{s:St}{h1:Exit->St->Prop}
theorem jf(b n:Nat)(fm:Nat->St)(t:Nat->Bool)(h0:ek ak F fr s (fm 0))
  (hb:∀i,i<=n->(∀j,j<i->t j=false)->∀Q':Exit->St->Prop,(i<n->t i=false->∀X,ek ak F fr X (fm (i+1))->Q' .normal X)->(i=n->∀X,ek ak F fr X (fm i)->Q' (.exit b) X)->(∀X,h1 .ret X->Q' .ret X)->TG ak F fr (dG (dG c)) (fm i) Q')
  (he:(∀j,j<n->t j=false)->∀X,ek ak F fr X (fm n)->h1 .normal X) (hs:(nf c b&&oM (dG c))=true:=by kernel_rfl):TG ak F fr c s h1:=by
 rw[ay]at hs;refine fh (i:=b) hs.1 (jD (fun m s=>∃i,m=n-i/\i<=n/\(∀j,j<i->t j=false)/\ek ak F fr s (fm i)) hs.2 ?_ n ⟨0,H,aU _,fun _ h=>absurd h (bC _),h0⟩);rintro m s1 ⟨i,rfl,hi,hj,hg⟩;refine hg _ _ (hb i hi hj _ (fun Q O X dQ=>?_) (fun Q X dQ=>?_) (fun X h=>?_))
 . simp only[andThen];refine⟨n-(i+1),H,i+1,rfl,Q,fun j VI=>?_,dQ⟩;rcases bt j i with q|q
   . exact hj j q
   . obtain rfl:j=i:=by omega
     exact O
 . subst Q;simp only[andThen];rw[gY];exact he hj X dQ
 . simp only[andThen,gk];exact h
end
section
variable(s:Sp)(i j:Nat)(a:Int)
def M9.at(m:M9):Nat->Int
 |0=>m.a|1=>m.b|2=>m.c|3=>m.d|4=>m.e|5=>m.f|6=>m.g|7=>m.h|_=>m.i
def Sp.cv:Nat->List Int
 |0=>s.c0|1=>s.c1|_=>s.c2
noncomputable abbrev adm:Code:=dI Tryz.f114
def qQ(r:List (Nat×V)):St:=fq ([(1,.ptr (some (0,0)))]++r) (G [(0,.cells (D.fQ s.ds))]) 1
noncomputable abbrev X6:Code:=dr 1 adm
noncomputable abbrev X7:Code:=dr 1 X6
noncomputable abbrev X8:Code:=dr 1 X7
noncomputable abbrev adn:Code:=dG (dG (dX (dF X6)))
noncomputable abbrev ado:Code:=dG (dG (dX (dF X7)))
noncomputable abbrev X9:Code:=dG (dG (dX (dF X8)))
noncomputable abbrev adp:Code:=dG (dF (dX X9))
noncomputable abbrev Ya:Code:=dG (dG (dX adp))
noncomputable abbrev Yb:Code:=dG (dF (dX Ya))
noncomputable abbrev adq:Code:=dF (dX Yb)
noncomputable abbrev adr:Code:=dG (dG (dX adq))
abbrev n3:Prop:=(0:Int)<=Int.ofNat i/\Int.ofNat i<3
abbrev n9:Prop:=(0:Int)<=Int.ofNat i/\Int.ofNat i<9
theorem alw:dw (U dY []) [] 0 Tryz.f114 [1] (dM 1 adm) (dy [s.v] .nil 0) [([],
   [],
   .to .normal (qQ s []))]
 :=dj.of C C C
theorem alx:dw (U dY []) [] 0 Tryz.f114 [1,3] (dF (dF X6)) (qQ s []) [([],
   [],
   .to .normal (qQ s [(3,M 0)]))]
 :=dj.of C C C
theorem aly:dw (U dY []) [] 0 Tryz.f114 [1,3] (adn) (qQ s [(3,M 3)]) [([],
   [],
   .to (.exit 0) (qQ s [(3,M 3)]))]
 :=dj.of C C C
theorem alz:dw (U dY []) [] 0 Tryz.f114 [1,5] (dF (dF X7)) (qQ s [(3,M 3)]) [([],
   [],
   .to .normal (qQ s [(5,M 0)]))]
 :=dj.of C C C
theorem alA:dw (U dY []) [] 0 Tryz.f114 [1,5] (ado) (qQ s [(5,M 9)]) [([],
   [],
   .to (.exit 2) (qQ s [(5,M 9)]))]
 :=dj.of C C C
theorem alB:dw (U dY []) [] 0 Tryz.f114 [1,6] (dF (dF X8)) (qQ s [(5,M 9)]) [([],
   [],
   .to .normal (qQ s [(6,M 0)]))]
 :=dj.of C C C
theorem alC:dw (U dY []) [] 0 Tryz.f114 [] (dX X8) (qQ s [(6,M 3)]) [([],
   [],
   .ret (.bool true) (G []) 0)]
 :=dj.of C C C
theorem alD:dw (U dY []) [] 0 Tryz.f114 [1,6,7] (dF adp) (qQ s [(6,M i)]) [([],
   [],
   .to .normal (qQ s [(6,M i),(7,M 0)]))]
 :=dj.of C C C
theorem alE:dw (U dY []) [(52,.split)] 0 Tryz.f114 [1,6] (dF X9) (qQ s [(6,M i)]) [([((decide (Int.ofNat i<(3:Int))),true)],
   [],
   .to .normal (qQ s [(6,M i)])),
  ([((decide (Int.ofNat i<(3:Int))),false)],
   [],
   .to (.exit 4) (qQ s [(6,M i)]))]
 :=dj.of C C C
theorem alF:dw (U dY []) [(56,.split)] 0 Tryz.f114 [1,6,7] (dF Ya) (qQ s [(6,M i),(7,M j)]) [([((decide (Int.ofNat j<(3:Int))),true)],
   [],
   .to .normal (qQ s [(6,M i),(7,M j)])),
  ([((decide (Int.ofNat j<(3:Int))),false)],
   [],
   .to (.exit 6) (qQ s [(6,M i),(7,M j)]))]
 :=dj.of C C C
theorem alG:dw (U dY []) [] 0 Tryz.f114 [1,6,7,8] (dF Yb) (qQ s [(6,M i),(7,M j)]) [([],
   [],
   .to .normal (qQ s [(6,M i),(7,M j),(8,M 0)]))]
 :=dj.of C C C
theorem alH:dw (U dY []) [] 0 Tryz.f114 [1,6,7,8,9] (dF adq) (qQ s [(6,M i),(7,M j),(8,L a)]) [([],
   [],
   .to .normal (qQ s [(6,M i),(7,M j),(8,L a),(9,M 0)]))]
 :=dj.of C C C
theorem ads:dw (U dY []) [] 0 Tryz.f114 [1,6,7,8,9] (adr) (qQ s [(6,M i),(7,M j),(8,L a),(9,M 3)]) [([],
   [],
   .to (.exit 8) (qQ s [(6,M i),(7,M j),(8,L a),(9,M 3)]))]
 :=dj.of C C C
theorem alI:dw (U dY []) [(82,.split),(87,.split),(89,.split)] 0 Tryz.f114 [1,6,7] (dX (dX Yb)) (qQ s [(6,M i),(7,M j),(8,L a),(9,M 3)]) [([((Int.ofNat i==Int.ofNat j),true),((decide (IntKind.i64.wrap (a-(16777216:Int))<(-32768:Int))),true)],
   [],
   .ret (.bool false) (G []) 0),
  ([((Int.ofNat i==Int.ofNat j),true),((decide (IntKind.i64.wrap (a-(16777216:Int))<(-32768:Int))),false),((decide (IntKind.i64.wrap (a-(16777216:Int))>(32768:Int))),true)],
   [],
   .ret (.bool false) (G []) 0),
  ([((Int.ofNat i==Int.ofNat j),true),((decide (IntKind.i64.wrap (a-(16777216:Int))<(-32768:Int))),false),((decide (IntKind.i64.wrap (a-(16777216:Int))>(32768:Int))),false)],
   [],
   .to .normal (qQ s [(6,M i),(7,M j)])),
  ([((Int.ofNat i==Int.ofNat j),false),((decide (a<(-32768:Int))),true)],
   [],
   .ret (.bool false) (G []) 0),
  ([((Int.ofNat i==Int.ofNat j),false),((decide (a<(-32768:Int))),false),((decide (a>(32768:Int))),true)],
   [],
   .ret (.bool false) (G []) 0),
  ([((Int.ofNat i==Int.ofNat j),false),((decide (a<(-32768:Int))),false),((decide (a>(32768:Int))),false)],
   [],
   .to .normal (qQ s [(6,M i),(7,M j)]))]
 :=dj.of C C C
theorem alJ:dw (U dY []) [(58,.dz (M (j+1)))] 0 Tryz.f114 [1,6,7] (dX (dX Ya)) (qQ s [(6,M i),(7,M j)]) [([],
   [(V.int A (IntKind.i64.wrap (Int.ofNat j+(1:Int)))=M (j+1))],
   .to .normal (qQ s [(6,M i),(7,M (j+1))]))]
 :=dj.of C C C
theorem alK:dw (U dY []) [(54,.dz (M (i+1)))] 0 Tryz.f114 [1,6] (dX (dX X9)) (qQ s [(6,M i),(7,M 3)]) [([],
   [(V.int A (IntKind.i64.wrap (Int.ofNat i+(1:Int)))=M (i+1))],
   .to .normal (qQ s [(6,M (i+1))]))]
 :=dj.of C C C
end
section
variable(s:Sp)(x a:Int)
theorem alL(b:Bool):∀i,i<3->dw (U (fb 137 [fj (s.cv i)] (.bool b) dY) []) [(20,.split)] 0 Tryz.f114 [1,3] adn (qQ s [(3,M i)]) [([(!b,true)],[n3 i,fa [fj (s.cv i)]],.ret (.bool false) (G []) 0),([(!b,false)],[n3 i,fa [fj (s.cv i)]],.to .normal (qQ s [(3,M (i+1))]))]:=by
 intro i hi;obtain rfl|rfl|rfl:i=0\/i=1\/i=2:=by omega
 all_goals exact dj.of C C C
abbrev x1:Bool:=decide (x<(-65536:Int))
abbrev x2:Bool:=decide (x>(65536:Int))
theorem alM:∀i,i<9->dw (U dY []) [(29,.split),(35,.split),(42,.split),(49,.split)] 0 Tryz.f114 [1,5] ado (qQ s [(5,M i)]) [([(x1 (s.to.at i),true)],[n9 i],.ret (.bool false) (G []) 0),([(x1 (s.to.at i),false),(x2 (s.to.at i),true)],[n9 i,n9 i],.ret (.bool false) (G []) 0),([(x1 (s.to.at i),false),(x2 (s.to.at i),false),(x1 (s.N.at i),true)],[n9 i,n9 i,n9 i],.ret (.bool false) (G []) 0),([(x1 (s.to.at i),false),(x2 (s.to.at i),false),(x1 (s.N.at i),false),(x2 (s.N.at i),true)],[n9 i,n9 i,n9 i,n9 i],.ret (.bool false) (G []) 0),([(x1 (s.to.at i),false),(x2 (s.to.at i),false),(x1 (s.N.at i),false),(x2 (s.N.at i),false)],[n9 i,n9 i,n9 i,n9 i],.to .normal (qQ s [(5,M (i+1))]))]:=by
 intro i hi;obtain rfl|rfl|rfl|rfl|rfl|rfl|rfl|rfl|rfl:i=0\/i=1\/i=2\/i=3\/i=4\/i=5\/i=6\/i=7\/i=8:=by omega
 all_goals exact dj.of C C C
def prI(i j k:Nat)(a:Int):Int:=IntKind.i64.wrap (a+IntKind.i64.wrap (s.N.at (3*i+k)*s.to.at (3*k+j)))
theorem alN:∀i j k,i<3->j<3->k<3->dw (U dY []) [] 0 Tryz.f114 [1,6,7,8,9] adr (qQ s [(6,M i),(7,M j),(8,L a),(9,M k)]) [([],[n9 (3*i+k),n9 (3*k+j)],.to .normal (qQ s [(6,M i),(7,M j),(8,L (prI s i j k a)),(9,M (k+1))]))]:=by
 intro i j k hi hj W;obtain rfl|rfl|rfl:i=0\/i=1\/i=2:=by omega
 all_goals obtain rfl|rfl|rfl:j=0\/j=1\/j=2:=by omega
 all_goals obtain rfl|rfl|rfl:k=0\/k=1\/k=2:=by omega
 all_goals exact dj.of C C C
end
set_option maxRecDepth 10000
def Yc(s:Sp)(i j:Nat):Nat->Int
 |0=>0
 |k+1=>prI s i j k (Yc s i j k)
section
variable(s:Sp)(i j:Nat)
def fiI:Int:=bif (Int.ofNat i==Int.ofNat j)then IntKind.i64.wrap (Yc s i j 3-16777216)else Yc s i j 3
def zT:Bool:=decide (fiI s i j< -32768)||decide (fiI s i j>32768)
def Gc:Bool:=(x1 (s.to.at i)||x2 (s.to.at i))||(x1 (s.N.at i)||x2 (s.N.at i))
end
def AJ(s:Sp):Bool:=!((List.range 3).any fun i=>!jN (s.cv i))&&(!((List.range 9).any (Gc s))&& !((List.range 3).any fun i=>(List.range 3).any (zT s i)))
structure TN(s:Sp):Prop where
 c0:s.c0.length<=1000000
 c1:s.c1.length<=1000000
 c2:s.c2.length<=1000000
theorem TN.cv{s:Sp}(h:TN s):∀i,(s.cv i).length<=1000000000
 |0=>bE h.c0 eY
 |1=>bE h.c1 eY
 |_+2=>bE h.c2 eY
section
variable{i:Nat}
theorem lt3:decide (Int.ofNat i<(3:Int))=true↔i<3:=⟨fun h=>cm.1 (aX h),fun h=>aZ (cm.2 h)⟩
theorem ge3:decide (Int.ofNat i<(3:Int))=false↔3<=i:=⟨fun h=>by have:=bB h;simp only[gQ]at this;omega,fun h=>aT (by simp only[gQ];omega)⟩
theorem adt(h:i<3):n3 i:=⟨bZ _,cm.2 h⟩
theorem yz(h:i<9):n9 i:=⟨bZ _,cm.2 h⟩
end
theorem alO(s:Sp)(hd:TN s):dU ak 114 [s.v] (.bool (AJ s)):=by
 refine eX Tryz.func114 (fF 1 (di _) (alw s) all_nil ?_);refine dK C (dK C (gv (di _) eE (alx s) (dB (g0 ⟨all_nil,fun X dQ=>?_⟩))));simp only[andThen];refine jf 0 3 (fun i=>qQ s [(3,M i)]) (fun i=>!jN (s.cv i)) (ek.norm dQ) (fun i hi hj Q' k1 k2 k3=>?_) (fun Q X dQ=>?_)
 . rcases bt i 3 with q|q
   . have aj:=S (adt q) (eG (show fa [fj (s.cv i)]from rfl));refine gv (fu (c5D (s.cv i) (hd.cv i)) (di _)) (fun u _ _=>u= .bool (AJ s)) (alL s (jN (s.cv i)) i q) (dD (g1 fun h=>⟨aj,?_⟩) (dB (g1 fun h=>⟨aj,fun X dQ=>k1 q h X (ek.norm dQ)⟩)));refine⟨aI V.bool (Eq.symm ?_),k3⟩;unfold AJ;rw[qO (f:=fun i=>!jN (s.cv i)) q h];rfl
   . obtain rfl:i=3:=by omega
     exact gv (di _) eE (aly s) (dB (g0 ⟨all_nil,fun X dQ=>k2 rfl X (ek.norm dQ)⟩))
 simp only[andThen];refine dQ _ _ ?_;refine dK C (dK C (gv (di _) eE (alz s) (dB (g0 ⟨all_nil,fun X dQ=>?_⟩))));simp only[andThen];refine jf 2 9 (fun i=>qQ s [(5,M i)]) (Gc s) (ek.norm dQ) (fun i hi hj Q' k1 k2 k3=>?_) (fun O X dQ=>?_)
 . rcases bt i 9 with q|q
   . have aj:=yz q;refine gv (di _) (fun u _ _=>u= .bool (AJ s)) (alM s i q) ?_;have hb:Gc s i=true->AJ s=false:=fun h=>by
      unfold AJ;rw[qO (f:=Gc s) q h];simp
     repeat' (first|exact gH|refine dD ?_ ?_)
     all_goals
      intro B;simp only[aD,aJ,bn,aL,bh]at B;refine⟨by repeat' (first|exact all_nil|refine S aj ?_),?_⟩
      first
      |exact⟨aI V.bool (hb (by simp only[Gc,B,cC,cr,cq,cO])).symm,k3⟩
      |exact fun X dQ=>k1 q (by simp only[Gc,B,cC]) X (ek.norm dQ)
   . obtain rfl:i=9:=by omega
     exact gv (di _) eE (alA s) (dB (g0 ⟨all_nil,fun X dQ=>k2 rfl X (ek.norm dQ)⟩))
 simp only[andThen];refine dQ _ _ ?_;refine dK C (dK C (gv (di _) eE (alB s) (dB (g0 ⟨all_nil,fun X dQ=>?_⟩))));simp only[andThen];refine jf 4 3 (fun i=>qQ s [(6,M i)]) (fun i=>(List.range 3).any (zT s i)) (ek.norm dQ) (fun i hi hj Q' k1 k2 k3=>?_) (fun h3 X dQ=>?_)
 . refine qt (di _) eE (alE s i) (dD (g1 fun h=>⟨all_nil,?_⟩) (dB (g1 fun h=>⟨all_nil,fun X dQ=>k2 (by have:=ge3.1 h;omega) X (ek.norm dQ)⟩)));have q:=lt3.1 h;refine dK C (fh (i:=5) C (dK C (gv (di _) eE (alD s i) (dB (g0 ⟨all_nil,fun X dQ=>?_⟩)))));simp only[andThen];refine jf 6 3 (fun j=>qQ s [(6,M i),(7,M j)]) (zT s i) (ek.norm dQ) (fun j xy hjj Q2 m1 m2 m3=>?_) (fun h4 X dQ=>?_)
   . refine qt (di _) eE (alF s i j) (dD (g1 fun h=>⟨all_nil,?_⟩) (dB (g1 fun h=>⟨all_nil,fun X dQ=>m2 (by have:=ge3.1 h;omega) X (ek.norm dQ)⟩)));have qj:=lt3.1 h;refine dK C (fh (i:=7) C (dK C (gv (di _) eE (alG s i j) (dB (g0 ⟨all_nil,fun X dQ=>?_⟩)))));simp only[andThen];refine fU dQ ?_;refine dK C (dK C (gv (di _) eE (alH s i j 0) (dB (g0 ⟨all_nil,fun X dQ=>?_⟩))));simp only[andThen];refine jf 8 3 (fun k=>qQ s [(6,M i),(7,M j),(8,L (Yc s i j k)),(9,M k)]) (fun _=>false) (ek.norm dQ) (fun k W Dz Q3 o1 o2 o3=>?_) (fun h5 X dQ=>?_)
     . rcases bt k 3 with qk|qk
       . exact gv (di _) eE (alN s (Yc s i j k) i j k q qj qk) (dB (g0 ⟨S (yz H) (eG (yz H)),fun X dQ=>o1 qk rfl X (ek.norm dQ)⟩))
       . obtain rfl:k=3:=by omega
         exact gv (di _) eE (ads s i j _) (dB (g0 ⟨all_nil,fun X dQ=>o2 rfl X (ek.norm dQ)⟩))
     simp only[andThen];refine dQ _ _ ?_;have hb:zT s i j=true->AJ s=false:=fun h=>by
      unfold AJ;rw[qO (f:=fun i=>(List.range 3).any (zT s i)) q (qO (f:=zT s i) qj h)];simp
     refine gv (di _) (fun u _ _=>u= .bool (AJ s)) (alI s i j (Yc s i j 3)) ?_
     repeat' (first|exact gH|refine dD ?_ ?_)
     all_goals
      intro B;simp only[aD,aJ,bn,aL,bh]at B;refine⟨all_nil,?_⟩
      first
      |exact⟨aI V.bool (hb (by simp only[zT,fiI,B,cond_true,cond_false,cC,cr,cq,cO])).symm,fun X h=>m3 X (k3 X h)⟩
      |exact fun X dQ=>by
        simp only[gk,andThen];exact fU dQ (gv (di _) eE (alJ s i j) (dB (g0 ⟨eG (gJ H),fun X dQ=>m1 qj (by simp only[zT,fiI,B,cond_true,cond_false,cC]) X (ek.norm dQ)⟩)))
   simp only[gk,andThen];refine dQ _ _ (gv (di _) eE (alK s i) (dB (g0 ⟨eG (gJ H),fun X dQ=>k1 q (qP h4) X (ek.norm dQ)⟩)))
 simp only[andThen];refine dQ _ _ (eK (di _) (alC s) (dB (g0 ⟨all_nil,_,_,_,rfl,aI V.bool (Eq.symm ?_)⟩)));unfold AJ;rw[qP Q,qP O,qP h3];rfl
set_option maxRecDepth 10000
def df(e i:Int):V:=.agg [L e,L i]
noncomputable abbrev adu:Code:=dI Tryz.f85
noncomputable abbrev adv:Code:=dr 1 adu
noncomputable abbrev TO:Code:=dX adv
noncomputable abbrev Yd:Code:=dr 1 (dX TO)
noncomputable abbrev Ye:Code:=dX Yd
noncomputable abbrev alP:Code:=dG (dG (dX (dF TO)))
noncomputable abbrev alQ:Code:=dG (dG (dX (dF Yd)))
def mWh(d:Dc):J h2:=G [(0,.cells d.R),(1,.cells [L 0,L 0])]
def D2(d:Dc)(r:List (Nat×V)):St:=fq ([(1,.ptr (some (0,0))),(2,.ptr (some (1,0)))]++r) (mWh d) 2
theorem alR(d:Dc):dw (U dY []) [] 0 Tryz.f85 [1,2] (dM 1 adu) (dy [d.v] .nil 0) [([],
   [],
   .to .normal (D2 d []))]
 :=dj.of C C C
theorem alS(d:Dc):dw (U dY []) [(12,.split),(17,.split),(22,.split),(27,.split)] 0 Tryz.f85 [1,2] (dF adv) (D2 d []) [([((decide ((Int.ofNat d.sp.length)>(8:Int))),true)],
   [],
   .ret (.agg [.int .i64 2,.int .i64 0]) (G []) 0),
  ([((decide ((Int.ofNat d.sp.length)>(8:Int))),false),((decide ((Int.ofNat d.ly.length)>(40:Int))),true)],
   [],
   .ret (.agg [.int .i64 2,.int .i64 0]) (G []) 0),
  ([((decide ((Int.ofNat d.sp.length)>(8:Int))),false),((decide ((Int.ofNat d.ly.length)>(40:Int))),false),((decide (d.nx<(1:Int))),true)],
   [],
   .ret (.agg [.int .i64 2,.int .i64 0]) (G []) 0),
  ([((decide ((Int.ofNat d.sp.length)>(8:Int))),false),((decide ((Int.ofNat d.ly.length)>(40:Int))),false),((decide (d.nx<(1:Int))),false),((decide (d.nx>(1048576:Int))),true)],
   [],
   .ret (.agg [.int .i64 2,.int .i64 0]) (G []) 0),
  ([((decide ((Int.ofNat d.sp.length)>(8:Int))),false),((decide ((Int.ofNat d.ly.length)>(40:Int))),false),((decide (d.nx<(1:Int))),false),((decide (d.nx>(1048576:Int))),false)],
   [],
   .to .normal (D2 d []))]
 :=dj.of C C C
theorem alT(d:Dc):dw (U dY []) [] 0 Tryz.f85 [1,2,3] (dF (dF TO)) (D2 d []) [([],
   [],
   .to .normal (D2 d [(3,M 0)]))]
 :=dj.of C C C
abbrev Qv(s:Sp):Prop:=V.lA ([]++[V.agg (List.take 21 (List.drop 0 (D.fQ s.ds)))]++[])=[s.v]
theorem alU(d:Dc)(i:Nat)(s:Sp)(b:Bool):dw (U (fb 114 [s.v] (.bool b) dY) []) [(34,.split),(40,.dz (.dx s.ds)),(43,.split),(36,.dz (M (i+1)))] 0 Tryz.f85 [1,2,3] (alP) (D2 d [(3,M i)]) [([((decide (Int.ofNat i<(Int.ofNat d.sp.length))),true),(b,true)],
   [((0:Int)<=Int.ofNat i/\Int.ofNat i<(Int.ofNat d.sp.length)),((mE d.sp).length=d.sp.length*21),(V.dx (dn (mE d.sp) (i*21) 21)=V.dx s.ds),Qv s,(V.int A (IntKind.i64.wrap (Int.ofNat i+(1:Int)))=M (i+1))],
   .to .normal (D2 d [(3,M (i+1))])),
  ([((decide (Int.ofNat i<(Int.ofNat d.sp.length))),true),(b,false)],
   [((0:Int)<=Int.ofNat i/\Int.ofNat i<(Int.ofNat d.sp.length)),((mE d.sp).length=d.sp.length*21),(V.dx (dn (mE d.sp) (i*21) 21)=V.dx s.ds),Qv s],
   .ret (.agg [.int .i64 23,.int .i64 0]) (G []) 0),
  ([((decide (Int.ofNat i<(Int.ofNat d.sp.length))),false)],
   [],
   .to (.exit 0) (D2 d [(3,M i)]))]
 :=dj.of C C C
theorem alV(d:Dc)(i:Nat):dw (U dY []) [] 0 Tryz.f85 [1,2,5,6] (dM 1 (dX TO)) (D2 d [(3,M i)]) [([],
   [],
   .to .normal (D2 d [(5,L 0)]))]
 :=dj.of C C C
theorem alW(d:Dc):dw (U dY []) [] 0 Tryz.f85 [1,2,5,6] (dF (dF Yd)) (D2 d [(5,L 0)]) [([],
   [],
   .to .normal (D2 d [(5,L 0),(6,M 0)]))]
 :=dj.of C C C
theorem alX(d:Dc)(i:Nat)(p:Int)(x:eJ):dw (U dY []) [(50,.split),(56,.dz (.dx x.ds)),(61,.split),(66,.split),(52,.dz (M (i+1)))] 0 Tryz.f85 [1,2,5,6] (alQ) (D2 d [(5,L p),(6,M i)]) [([((decide (Int.ofNat i<(Int.ofNat d.ly.length))),true),((decide (x.id<=p)),true)],
   [((0:Int)<=Int.ofNat i/\Int.ofNat i<(Int.ofNat d.ly.length)),((fc d.ly).length=d.ly.length*31),(V.dx (dn (fc d.ly) (i*31) 31)=V.dx x.ds)],
   .ret (.agg [.int .i64 40,.int .i64 (x.id)]) (G []) 0),
  ([((decide (Int.ofNat i<(Int.ofNat d.ly.length))),true),((decide (x.id<=p)),false),((decide (x.id>=d.nx)),true)],
   [((0:Int)<=Int.ofNat i/\Int.ofNat i<(Int.ofNat d.ly.length)),((fc d.ly).length=d.ly.length*31),(V.dx (dn (fc d.ly) (i*31) 31)=V.dx x.ds)],
   .ret (.agg [.int .i64 40,.int .i64 (x.id)]) (G []) 0),
  ([((decide (Int.ofNat i<(Int.ofNat d.ly.length))),true),((decide (x.id<=p)),false),((decide (x.id>=d.nx)),false)],
   [((0:Int)<=Int.ofNat i/\Int.ofNat i<(Int.ofNat d.ly.length)),((fc d.ly).length=d.ly.length*31),(V.dx (dn (fc d.ly) (i*31) 31)=V.dx x.ds),(V.int A (IntKind.i64.wrap (Int.ofNat i+(1:Int)))=M (i+1))],
   .to .normal (D2 d [(5,L x.id),(6,M (i+1))])),
  ([((decide (Int.ofNat i<(Int.ofNat d.ly.length))),false)],
   [],
   .to (.exit 2) (D2 d [(5,L p),(6,M i)]))]
 :=dj.of C C C
theorem alY(d:Dc)(a p:Int)(i:Nat):dw (U (fb 24 [d.v,L d.root] (L a) dY) []) [] 0 Tryz.f85 [1,2,8] (dM 1 Ye) (D2 d [(5,L p),(6,M i)]) [([],
   [(V.lA ([]++[V.agg (List.take 4 (List.drop 0 d.R)),L d.root]++[])=[d.v,L d.root])],
   .to .normal (D2 d [(8,L a)]))]
 :=dj.of C C C
theorem alZ(d:Dc):dw (U dY []) [] 0 Tryz.f85 [] (dr 1 Ye) (D2 d [(8,L (-1))]) [([],
   [],
   .ret (.agg [.int .i64 40,.int .i64 (d.root)]) (G []) 0)]
 :=dj.of C C C
theorem al0(d:Dc)(n:Nat)(x:eJ):dw (U dY []) [(81,.dz (.dx x.ds)),(76,.dz (.bool false)),(84,.split)] 0 Tryz.f85 [] (dr 1 Ye) (D2 d [(8,M n)]) [([((x.kd !=(2:Int)),true)],
   [(V.bool (decide (Int.ofNat n<(0:Int)))=V.bool false),((0:Int)<=Int.ofNat n/\Int.ofNat n<(Int.ofNat d.ly.length)),((fc d.ly).length=d.ly.length*31),(V.dx (dn (fc d.ly) (n*31) 31)=V.dx x.ds)],
   .ret (.agg [.int .i64 40,.int .i64 (d.root)]) (G []) 0),
  ([((x.kd !=(2:Int)),false)],
   [(V.bool (decide (Int.ofNat n<(0:Int)))=V.bool false),((0:Int)<=Int.ofNat n/\Int.ofNat n<(Int.ofNat d.ly.length)),((fc d.ly).length=d.ly.length*31),(V.dx (dn (fc d.ly) (n*31) 31)=V.dx x.ds)],
   .ret (.agg [.int .i64 0,.int .i64 0]) (G []) 0)]
 :=dj.of C C C
set_option maxRecDepth 10000
def N0:Sp:=⟨[],[],[],⟨0,0,0,0,0,0,0,0,0⟩,⟨0,0,0,0,0,0,0,0,0⟩⟩
theorem LG(x:Sp):x.ds.length=21:=rfl
theorem Bx(l:List Sp):(mE l).length=l.length*21:=sg (f:=Sp.ds) LG l
theorem Gd{l:List Sp}{i:Nat}(h:i<l.length):V.dx (dn (mE l) (i*21) 21)= .dx (l.getD i N0).ds:=by
 rw[ax,au h];exact aI V.dx (si (f:=Sp.ds) LG l i h)
def lI(f:Nat->Bool)(n:Nat):Option Nat:=(List.range n).find? f
section
variable{f:Nat->Bool}{n i:Nat}
theorem jj(hi:i<n)(h:f i=true)(hj:∀j,j<i->f j=false):lI f n=some i:=by
 unfold lI;rw[List.find?_range_eq_some];exact⟨h,bL.2 hi,fun j q=>by rw[hj j q];rfl⟩
theorem gB(hj:∀j,j<n->f j=false):lI f n=none:=by
 unfold lI;rw[List.find?_eq_none];intro x I;rw[hj x (bL.1 I)];simp
theorem TP(h:lI f n=some i):i<n/\f i=true/\∀j,j<i->f j=false:=by
 unfold lI at h;rw[List.find?_range_eq_some]at h;exact⟨bL.1 h.2.1,h.1,fun j q=>by simpa using h.2.2 j q⟩
theorem pq(h:lI f n=none):∀j,j<n->f j=false:=by
 unfold lI at h;rw[List.find?_eq_none]at h;intro j q;simpa using h j (bL.2 q)
end
def Dc.at(d:Dc)(i:Nat):eJ:=d.ly.getD i gy
def u0(d:Dc):Nat->Int
 |0=>0
 |i+1=>(d.at i).id
def tE(d:Dc)(i:Nat):Bool:=decide ((d.at i).id<=u0 d i)||decide ((d.at i).id>=d.nx)
def xj(d:Dc):Bool:=((decide ((Int.ofNat d.sp.length)>(8:Int))||decide ((Int.ofNat d.ly.length)>(40:Int)))||decide (d.nx<(1:Int)))||decide (d.nx>(1048576:Int))
def lX(d:Dc):Bool:=match jy d.ly d.root with
 |some i=>(d.at i).kd !=2
 |none=>true
def ir(d:Dc):Int×Int:=if xj d=true then(2,0)else match lI (fun i=>!AJ (d.sp.getD i N0)) d.sp.length with
 |some _=>(23,0)
 |none=>match lI (tE d) d.ly.length with
  |some i=>(40,(d.at i).id)
  |none=>if lX d=true then(40,d.root)else(0,0)
def Qw(p:Int×Int):V:=df p.1 p.2
theorem Yf(d:Dc)(hd:F7 d)(hs:∀s∈d.sp,TN s):dU ak 85 [d.v] (Qw (ir d)):=by
 refine eX Tryz.func85 (fF 1 (di _) (alR d) all_nil ?_);refine qt (di _) (fun u _ _=>u=Qw (ir d)) (alS d) ?_;have SA:xj d=true->ir d=(2,0):=fun h=>by unfold ir;rw[aG h]
 repeat' (first|exact gH|refine dD ?_ ?_)
 all_goals
  intro B;simp only[aD,aJ,bn,aL,bh]at B;refine⟨all_nil,?_⟩
  first
  |exact⟨by rw[SA (by simp only[xj,B,cC,cr,cq,cO])];rfl,fun _ h=>h⟩
  |skip
 have hb:xj d=false:=by simp only[xj,B,cC]
 have DK:d.sp.length<=8:=by have:=bB B.1;simp only[gQ]at this;omega
 have zQ:d.ly.length<=40:=by have:=bB B.2.1;simp only[gQ]at this;omega
 refine dK C (dK C (gv (di _) eE (alT d) (dB (g0 ⟨all_nil,fun X dQ=>?_⟩))));simp only[andThen];refine jf 0 d.sp.length (fun i=>D2 d [(3,M i)]) (fun i=>!AJ (d.sp.getD i N0)) (ek.norm dQ) (fun i hi hj Q' k1 k2 k3=>?_) (fun Q X dQ=>?_)
 . have I:=fun h=>Gd (l:=d.sp) (i:=i) h;generalize TQ:d.sp.getD i N0=x at *;have K:TN x:=by
    rw[<- TQ,ax];cases hg:d.sp[i]? with
    |none=>exact⟨aU _,aU _,aU _⟩
    |some y=>exact hs y (List.mem_of_getElem? hg)
   refine gv (fu (alO x K) (di _)) (fun u _ _=>u=Qw (ir d)) (alU d i x (AJ x)) (dD (g2 fun Q O=>⟨S (iI (jW Q)) (S (Bx _) (S (I (jW Q)) (S rfl (eG (gJ (by have:=jW Q;omega)))))),fun X dQ=>k1 (jW Q) (by rw[O];rfl) X (ek.norm dQ)⟩) (dD (g2 fun Q O=>⟨S (iI (jW Q)) (S (Bx _) (S (I (jW Q)) (eG rfl))),?_,k3⟩) (dB (g1 fun Q=>⟨all_nil,fun X dQ=>k2 (by have:=r9 Q;omega) X (ek.norm dQ)⟩))));unfold ir;rw[hb,aB eY,jj (i:=i) (jW Q) (by rw[TQ,O];rfl) hj];rfl
 simp only[andThen];refine dQ _ _ ?_;refine fF 1 (di _) (alV d d.sp.length) all_nil ?_;refine dK C (dK C (gv (di _) eE (alW d) (dB (g0 ⟨all_nil,fun X dQ=>?_⟩))));simp only[andThen];have hw:∀o,lI (tE d) d.ly.length=o->ir d=match o with
  |some i=>(40,(d.at i).id)
  |none=>if lX d=true then(40,d.root)else(0,0):=fun o e=>by
  unfold ir;rw[hb,aB eY,gB Q,e]
 refine jf 2 d.ly.length (fun i=>D2 d [(5,L (u0 d i)),(6,M i)]) (tE d) (ek.norm dQ) (fun i hi hj Q' k1 k2 k3=>?_) (fun O X dQ=>?_)
 . refine gv (di _) (fun u _ _=>u=Qw (ir d)) (alX d i (u0 d i) (d.at i)) ?_;refine(dD (g2 fun Q O=>⟨S (iI (jW Q)) (S (gj _) (eG (iw (jW Q)))),?_,k3⟩) (dD (g3 fun Q O h3=>⟨S (iI (jW Q)) (S (gj _) (eG (iw (jW Q)))),?_,k3⟩) (dD (g3 fun Q O h3=>⟨S (iI (jW Q)) (S (gj _) (S (iw (jW Q)) (eG (gJ (by have:=jW Q;omega))))),fun X dQ=>k1 (jW Q) (by unfold tE;rw[O,h3];rfl) X (ek.norm dQ)⟩) (dB (g1 fun Q=>⟨all_nil,fun X dQ=>k2 (by have:=r9 Q;omega) X (ek.norm dQ)⟩)))))
   . rw[hw _ (jj (i:=i) (jW Q) (by unfold tE;rw[O];rfl) hj)];rfl
   . rw[hw _ (jj (i:=i) (jW Q) (by unfold tE;rw[O,h3];rfl) hj)];rfl
 simp only[andThen];refine dQ _ _ ?_;have hw:=hw _ (gB O);simp only at hw;have hA:=atD d d.root hd.ly;refine fF 1 (fu hA (di _)) (alY d (Ba d.ly d.root) (u0 d d.ly.length) d.ly.length) (eG rfl) ?_;cases hn:jy d.ly d.root with
 |none=>
  have ha:Ba d.ly d.root= -1:=by unfold Ba;rw[hn]
  have hr:lX d=true:=by unfold lX;rw[hn]
  rw[ha];exact eK (di _) (alZ d) (dB (g0 ⟨all_nil,_,_,_,rfl,by rw[hw,hr];rfl⟩))
 |some n=>
  have ha:Ba d.ly d.root=Int.ofNat n:=by unfold Ba;rw[hn]
  obtain⟨eO,_,_⟩:=jn hn;have hr:lX d=((d.at n).kd !=2):=by unfold lX;rw[hn]
  rw[ha];have aj:=S (show V.bool (decide (Int.ofNat n<(0:Int)))=V.bool false from aI V.bool (aT (by simp only[gQ];omega))) (S (iI eO) (S (gj d.ly) (eG (iw eO))));exact eK (di _) (al0 d n (d.at n)) (dD (g1 fun Q=>⟨aj,_,_,_,rfl,by rw[hw,hr,Q];rfl⟩) (dB (g1 fun Q=>⟨aj,_,_,_,rfl,by rw[hw,hr,Q];rfl⟩)))
set_option maxRecDepth 10000
def zU(m a:Int):Int:=if a>m then a else m
noncomputable abbrev adw:Code:=dI Tryz.f52
noncomputable abbrev TS:Code:=dr 2 adw
noncomputable abbrev TT:Code:=dr 1 (dX TS)
noncomputable abbrev Yg:Code:=dr 2 (dX TT)
noncomputable abbrev bDp:Code:=dG (dG (dX (dF Yg)))
def LH(d:Dc)(r:List (Nat×V)):St:=fq ([(2,.ptr (some (0,0)))]++r) (G [(0,.cells d.R)]) 1
def sDx(d:Dc)(x:eJ)(r:List (Nat×V)):St:=fq ([(2,.ptr (some (0,0))),(6,.ptr (some (1,0)))]++r) (G [(0,.cells d.R),(1,.cells x.R)]) 2
theorem al1(d:Dc)(id a:Int):dw (U (fb 24 [d.v,L id] (L a) dY) []) [] 0 Tryz.f52 [2,5] (dM 2 adw) (dy [d.v,L id] .nil 0) [([],
   [(V.lA ([]++[V.agg (List.take 4 (List.drop 0 d.v.cells)),L id]++[])=[d.v,L id])],
   .to .normal (LH d [(5,L a)]))]
 :=dj.of C C C
theorem al2(d:Dc):dw (U dY []) [] 0 Tryz.f52 [] (dF TS) (LH d [(5,L (-1))]) [([],
   [],
   .ret (.int .i64 0) (G []) 0)]
 :=dj.of C C C
theorem al3(d:Dc)(n:Nat):dw (U dY []) [(14,.dz (.bool false))] 0 Tryz.f52 [2,5] (dF TS) (LH d [(5,M n)]) [([],
   [(V.bool (decide (Int.ofNat n<(0:Int)))=V.bool false)],
   .to .normal (LH d [(5,M n)]))]
 :=dj.of C C C
theorem al4(d:Dc)(n:Nat)(x:eJ):dw (U dY []) [(18,.dz (.dx x.ds))] 0 Tryz.f52 [2,6] (dM 1 (dX TS)) (LH d [(5,M n)]) [([],
   [((0:Int)<=Int.ofNat n/\Int.ofNat n<(Int.ofNat d.ly.length)),((fc d.ly).length=d.ly.length*31),(V.dx (dn (fc d.ly) (n*31) 31)=V.dx x.ds)],
   .to .normal (sDx d x []))]
 :=dj.of C C C
theorem al5(d:Dc)(x:eJ):dw (U dY []) [(22,.split),(26,.split)] 0 Tryz.f52 [2,6] (dF TT) (sDx d x []) [([((x.kd !=(2:Int)),true),((x.kd !=(4:Int)),true)],
   [],
   .ret (.int .i64 0) (G []) 0),
  ([((x.kd !=(2:Int)),true),((x.kd !=(4:Int)),false)],
   [],
   .to .normal (sDx d x [])),
  ([((x.kd !=(2:Int)),false)],
   [],
   .to .normal (sDx d x []))]
 :=dj.of C C C
theorem al6(d:Dc)(x:eJ)(ps:List Int):dw (U (fb 98 [x.v] (fj ps) dY) []) [] 0 Tryz.f52 [2,7,8] (dM 2 (dX TT)) (sDx d x []) [([],
   [(V.lA ([]++[V.agg (List.take 31 (List.drop 0 x.R))]++[])=[x.v])],
   .to .normal (LH d [(7,L 0),(8,fj ps)]))]
 :=dj.of C C C
theorem al7(d:Dc)(ps:List Int):dw (U dY []) [] 0 Tryz.f52 [2,7,8,9] (dF (dF Yg)) (LH d [(7,L 0),(8,fj ps)]) [([],
   [],
   .to .normal (LH d [(7,L 0),(8,fj ps),(9,M 0)]))]
 :=dj.of C C C
theorem al8(d:Dc)(ps:List Int)(i:Nat)(m p a:Int):dw (U (fb 52 [d.v,L p] (L a) dY) []) [(33,.dz (.bool true)),(40,.dz (.dx [.int .i64 p])),(35,.dz (M (i+1)))] 0 Tryz.f52 [2,7,8,9] (bDp) (LH d [(7,L m),(8,fj ps),(9,M i)]) [([],
   [(V.bool (decide (Int.ofNat i<(Int.ofNat ps.length)))=V.bool true),((0:Int)<=Int.ofNat i/\Int.ofNat i<(Int.ofNat ps.length)),((dO ps).length=ps.length*1),(V.dx (dn (dO ps) (i*1) 1)=V.dx [D.int A p]),(V.lA ([]++[V.agg (List.take 4 (List.drop 0 d.R)),D.jQ._f (D.int A p) PUnit.unit]++[])=[d.v,L p]),(V.int A (IntKind.i64.wrap (Int.ofNat i+(1:Int)))=M (i+1))],
   .to .normal (LH d [(7,L (zU m a)),(8,fj ps),(9,M (i+1))]))]
 :=dj.of C C C
theorem adx(d:Dc)(ps:List Int)(i:Nat)(m:Int):dw (U dY []) [(33,.dz (.bool false))] 0 Tryz.f52 [2,7,8,9] (bDp) (LH d [(7,L m),(8,fj ps),(9,M i)]) [([],
   [(V.bool (decide (Int.ofNat i<(Int.ofNat ps.length)))=V.bool false)],
   .to (.exit 0) (LH d [(7,L m),(8,fj ps),(9,M i)]))]
 :=dj.of C C C
theorem al9(d:Dc)(ps:List Int)(i:Nat)(m:Int):dw (U dY []) [] 0 Tryz.f52 [] (dX Yg) (LH d [(7,L m),(8,fj ps),(9,M i)]) [([],
   [],
   .ret (.int .i64 (IntKind.i64.wrap (m+(1:Int)))) (G []) 0)]
 :=dj.of C C C
set_option maxRecDepth 10000
def ic(ls:List eJ):Nat->Int->Int
 |0,_=>0
 |k+1,id=>match jy ls id with
  |none=>0
  |some n=>if((ls.getD n gy).kd !=2&&(ls.getD n gy).kd !=4)=true then 0 else(fN (ls.getD n gy)).foldl (fun m p=>zU m (ic ls k p)) 0+1
def isK(x:eJ):Bool:=!(x.kd !=2&&x.kd !=4)
def Ge(ls:List eJ)(rk:Int->Nat):Prop:=∀id n,jy ls id=some n->isK (ls.getD n gy)=true->∀p∈fN (ls.getD n gy),rk p<rk id
theorem Qx{l:List Int}{f g:Int->Int}(h:∀p∈l,f p=g p):∀m,l.foldl (fun m p=>zU m (f p)) m=l.foldl (fun m p=>zU m (g p)) m:=by
 induction l with
 |nil=>intro m;rfl
 |cons x l ih=>
  intro m;rw[dh,dh,h x (bx ..)];exact ih (fun p hp=>h p (bj _ hp)) _
theorem Da{l:List Int}{f:Int->Int}{b:Int}(h:∀p∈l,f p<=b):∀m,m<=b->l.foldl (fun m p=>zU m (f p)) m<=b:=by
 induction l with
 |nil=>intro m K;exact K
 |cons x l ih=>
  intro m K;rw[dh];refine ih (fun p hp=>h p (bj _ hp)) _ ?_;unfold zU;split
  . exact h x (bx ..)
  . exact K
theorem Db{l:List Int}{f:Int->Int}:∀m,m<=l.foldl (fun m p=>zU m (f p)) m:=by
 induction l with
 |nil=>intro m;exact Int.le_refl _
 |cons x l ih=>
  intro m;rw[dh];refine Int.le_trans ?_ (ih _);unfold zU;split<;>omega
theorem Gf(ls:List eJ):∀k id,ic ls k id<=Int.ofNat k
 |0,_=>Int.le_refl _
 |k+1,id=>by
  unfold ic;split
  . exact bZ _
  . split
    . exact bZ _
    . rename_i n _ _;have:=Da (l:=fN (ls.getD n gy)) (f:=ic ls k) (b:=Int.ofNat k) (fun p _=>Gf ls k p) 0 (bZ _);simp only[gQ]at this ⊢;refine Int.le_trans (Int.add_le_add_right this 1) H
theorem TU{ls:List eJ}{rk:Int->Nat}(hrk:Ge ls rk):∀k j id,rk id<k->rk id<j->ic ls k id=ic ls j id:=by
 intro k
 induction k with
 |zero=>intro j id h;exact absurd h (bC _)
 |succ k ih=>
  intro j id Q O;obtain⟨j,rfl⟩:∃i,j=i+1:=⟨j-1,H⟩;unfold ic;cases hn:jy ls id with
  |none=>rfl
  |some n=>
   simp only;split
   . rfl
   . rename_i W;rw[Qx (l:=fN (ls.getD n gy)) (f:=ic ls k) (g:=ic ls j) fun p hp=>?_];have:=hrk id n hn (by unfold isK;rw[Bool.not_eq_true]at W;rw[W];rfl) p hp;exact ih j p H H
theorem Yh(d:Dc)(hd:F7 d)(rk:Int->Nat)(hrk:Ge d.ly rk):∀k,k<=1000->∀id,rk id<k->dU ak 52 [d.v,L id] (L (ic d.ly k id)):=by
 intro k
 induction k with
 |zero=>intro _ id h;exact absurd h (bC _)
 |succ k ih=>
  intro W id h;have hA:=atD d id hd.ly;refine eX Tryz.func52 (fF 2 (fu hA (di _)) (al1 d id (Ba d.ly id)) (eG rfl) ?_);cases hn:jy d.ly id with
  |none=>
   have ha:Ba d.ly id= -1:=by unfold Ba;rw[hn]
   have hv:ic d.ly (k+1) id=0:=by unfold ic;rw[hn]
   rw[ha];exact qt (di _) (fun u _ _=>u=L (ic d.ly (k+1) id)) (al2 d) (dB (g0 ⟨all_nil,by rw[hv],fun _ h=>h⟩))
  |some n=>
   have ha:Ba d.ly id=Int.ofNat n:=by unfold Ba;rw[hn]
   obtain⟨eO,hid,_⟩:=jn hn;generalize I:d.ly.getD n gy=x at *;have hv:ic d.ly (k+1) id=if(x.kd !=2&&x.kd !=4)=true then 0 else(fN x).foldl (fun m p=>zU m (ic d.ly k p)) 0+1:=by
    rw[ic,hn];simp only;rw[I]
   rw[ha];refine qt (di _) eE (al3 d n) (dB (g0 ⟨eG (aI V.bool (aT (by simp only[gQ];omega))),?_⟩));refine fF 1 (di _) (al4 d n x) (S (iI eO) (S (gj _) (eG (by rw[<- I];exact iw eO)))) ?_;have qv:(x.kd !=2&&x.kd !=4)=false->TG ak 0 Tryz.f52.ntmps (dX TT) (sDx d x []) (fH ak 0 Tryz.f52 fun u _ _=>u=L (ic d.ly (k+1) id)):=fun B=>by
    rw[hv,B,aB eY];have hp:∀p∈fN x,rk p<k:=fun p hp=>by
     have:=hrk id n hn (by unfold isK;rw[I,B];rfl) p (by rw[I];exact hp);omega
    have hl:(fN x).length<=1000000:=by
     have K:x∈d.ly:=by rw[<- I,ax,au eO];exact bK eO
     unfold fN;split
     . simp
     . exact hd.kids x K
    refine fF 2 (fu (Qf x) (di _)) (al6 d x (fN x)) (eG rfl) ?_;generalize fN x=ps at *;refine dK C (dK C (gv (di _) eE (al7 d ps) (dB (g0 ⟨all_nil,fun X dQ=>?_⟩))));simp only[andThen];refine jf 0 ps.length (fun i=>LH d [(7,L ((ps.take i).foldl (fun m p=>zU m (ic d.ly k p)) 0)),(8,fj ps),(9,M i)]) (fun _=>false) (ek.norm dQ) (fun i hi hj Q' m1 m2 m3=>?_) (fun Q X dQ=>?_)
    . rcases bt i ps.length with q|q
      . have hg:=fD (l:=ps) q;have K:ps.getD i 0∈ps:=by rw[ax,au q];exact bK q
        have ht:(ps.take (i+1)).foldl (fun m p=>zU m (ic d.ly k p)) 0=zU ((ps.take i).foldl (fun m p=>zU m (ic d.ly k p)) 0) (ic d.ly k (ps.getD i 0)):=by
         rw[bY,getD_some 0 q,Option.toList_some,List.foldl_append];rfl
        refine gv (fu (ih H (ps.getD i 0) (hp _ K)) (di _)) eE (al8 d ps i _ (ps.getD i 0) (ic d.ly k (ps.getD i 0))) (dB (g0 ⟨S (aI V.bool (aZ (cm.2 q))) (S (iI q) (S (eo ps) (S hg (S rfl (eG (gJ H)))))),fun X dQ=>m1 q rfl X ?_⟩));rw[ht];exact ek.norm dQ
      . obtain rfl:i=ps.length:=by omega
        exact gv (di _) eE (adx d ps _ _) (dB (g0 ⟨eG (aI V.bool (aT (by simp only[gQ];omega))),fun X dQ=>m2 rfl X (ek.norm dQ)⟩))
    simp only[andThen];refine dQ _ _ (eK (di _) (al9 d ps ps.length _) (dB (g0 ⟨all_nil,_,_,_,rfl,?_⟩)));rw[bz];have O:=Da (l:=ps) (f:=ic d.ly k) (b:=Int.ofNat k) (fun p _=>Gf d.ly k p) 0 (bZ _);have h3:=Db (l:=ps) (f:=ic d.ly k) 0;generalize ps.foldl (fun m p=>zU m (ic d.ly k p)) 0=z at O h3 ⊢;exact aI (V.int .i64) (gZ H (by simp only[gQ]at O;omega))
   refine qt (di _) (fun u _ _=>u=L (ic d.ly (k+1) id)) (al5 d x) (dD (g2 fun Q O=>⟨all_nil,by rw[hv,Q,O];rfl,fun _ h=>h⟩) (dD (g2 fun Q O=>⟨all_nil,qv (by rw[Q,O];rfl)⟩) (dB (g1 fun Q=>⟨all_nil,qv (by rw[Q];rfl)⟩))))
set_option maxRecDepth 10000
noncomputable abbrev adA:Code:=dI Tryz.f39
noncomputable abbrev adB:Code:=dr 2 adA
noncomputable abbrev Yi:Code:=dX adB
noncomputable abbrev Yj:Code:=dX Yi
noncomputable abbrev Yk:Code:=dX Yj
noncomputable abbrev Yl:Code:=dX Yk
noncomputable abbrev ama:Code:=dX Yl
noncomputable abbrev amb:Code:=dG (dG (dX (dF Yi)))
noncomputable abbrev amc:Code:=dG (dG (dX (dF Yj)))
noncomputable abbrev adC:Code:=dG (dG (dX (dF Yk)))
noncomputable abbrev amd:Code:=dG (dG (dX (dF Yl)))
def xz(d:Dc)(r:List (Nat×V)):St:=fq ([(1,.ptr (some (0,0))),(2,.ptr (some (1,0)))]++r) (G [(0,.cells d.R),(1,.cells [L 0,L 0])]) 2
def sCw(d:Dc)(e i:Int):St:=fq [(1,.ptr (some (0,0))),(2,.ptr (some (1,0))),(3,.ptr (some (2,0)))] (G [(0,.cells d.R),(1,.cells [L 0,L 0]),(2,.cells [L e,L i])]) 3
theorem ame(d:Dc)(e i:Int):dw (U (fb 85 [d.v] (df e i) dY) []) [] 0 Tryz.f39 [1,2,3] (dM 2 adA) (dy [d.v] .nil 0) [([],
   [(V.lA ([]++[V.agg (List.take 4 (List.drop 0 d.v.cells))]++[])=[d.v])],
   .to .normal (sCw d e i))]
 :=dj.of C C C
theorem amf(d:Dc)(e i:Int):dw (U dY []) [(15,.split)] 0 Tryz.f39 [1,2] (dF adB) (sCw d e i) [([((e !=(0:Int)),true)],
   [],
   .ret (.agg [.int .i64 e,.int .i64 i]) (G []) 0),
  ([((e !=(0:Int)),false)],
   [],
   .to .normal (xz d []))]
 :=dj.of C C C
theorem amg(d:Dc)(r:List (Nat×V)):dw (U dY []) [] 0 Tryz.f39 [1,2,4] (dF (dF Yi)) (xz d []) [([],
   [],
   .to .normal (xz d [(4,M 0)]))]
 :=dj.of C C C
abbrev Qy(d:Dc)(x:eJ):Prop:=V.lA ([]++[V.agg (List.take 4 (List.drop 0 d.R)),V.agg (List.take 31 (List.drop 0 (D.fQ x.ds)))]++[])=[d.v,x.v]
theorem amh(d:Dc)(i:Nat)(x:eJ)(e:Int):dw (U (fb 86 [d.v,x.v] (L e) dY) []) [(21,.split),(28,.dz (.dx x.ds)),(37,.dz (.dx x.ds)),(32,.split),(23,.dz (M (i+1)))] 0 Tryz.f39 [1,2,4] (amb) (xz d [(4,M i)]) [([((decide (Int.ofNat i<(Int.ofNat d.ly.length))),true),((e !=(0:Int)),true)],
   [((0:Int)<=Int.ofNat i/\Int.ofNat i<(Int.ofNat d.ly.length)),((fc d.ly).length=d.ly.length*31),(V.dx (dn (fc d.ly) (i*31) 31)=V.dx x.ds),Qy d x,((0:Int)<=Int.ofNat i/\Int.ofNat i<(Int.ofNat d.ly.length)),((fc d.ly).length=d.ly.length*31),(V.dx (dn (fc d.ly) (i*31) 31)=V.dx x.ds)],
   .ret (.agg [.int .i64 e,.int .i64 (x.id)]) (G []) 0),
  ([((decide (Int.ofNat i<(Int.ofNat d.ly.length))),true),((e !=(0:Int)),false)],
   [((0:Int)<=Int.ofNat i/\Int.ofNat i<(Int.ofNat d.ly.length)),((fc d.ly).length=d.ly.length*31),(V.dx (dn (fc d.ly) (i*31) 31)=V.dx x.ds),Qy d x,(V.int A (IntKind.i64.wrap (Int.ofNat i+(1:Int)))=M (i+1))],
   .to .normal (xz d [(4,M (i+1))])),
  ([((decide (Int.ofNat i<(Int.ofNat d.ly.length))),false)],
   [],
   .to (.exit 0) (xz d [(4,M i)]))]
 :=dj.of C C C
theorem ami(d:Dc)(j:Nat):dw (U dY []) [] 0 Tryz.f39 [1,2,6] (dF (dF Yj)) (xz d [(4,M j)]) [([],
   [],
   .to .normal (xz d [(6,M 0)]))]
 :=dj.of C C C
abbrev Qz(d:Dc)(x:eJ):Prop:=V.lA ([]++[V.agg (List.take 4 (List.drop 0 d.R)),V.agg (List.take 31 (List.drop 0 (D.fQ x.ds)))]++[])=[d.v,x.v]
theorem amj(d:Dc)(i:Nat)(x:eJ)(b:Bool):dw (U (fb 87 [d.v,x.v] (.bool b) dY) []) [(45,.split),(52,.dz (.dx x.ds)),(59,.dz (.dx x.ds)),(55,.split),(47,.dz (M (i+1)))] 0 Tryz.f39 [1,2,6] (amc) (xz d [(6,M i)]) [([((decide (Int.ofNat i<(Int.ofNat d.ly.length))),true),((!b),true)],
   [((0:Int)<=Int.ofNat i/\Int.ofNat i<(Int.ofNat d.ly.length)),((fc d.ly).length=d.ly.length*31),(V.dx (dn (fc d.ly) (i*31) 31)=V.dx x.ds),Qz d x,((0:Int)<=Int.ofNat i/\Int.ofNat i<(Int.ofNat d.ly.length)),((fc d.ly).length=d.ly.length*31),(V.dx (dn (fc d.ly) (i*31) 31)=V.dx x.ds)],
   .ret (.agg [.int .i64 40,.int .i64 (x.id)]) (G []) 0),
  ([((decide (Int.ofNat i<(Int.ofNat d.ly.length))),true),((!b),false)],
   [((0:Int)<=Int.ofNat i/\Int.ofNat i<(Int.ofNat d.ly.length)),((fc d.ly).length=d.ly.length*31),(V.dx (dn (fc d.ly) (i*31) 31)=V.dx x.ds),Qz d x,(V.int A (IntKind.i64.wrap (Int.ofNat i+(1:Int)))=M (i+1))],
   .to .normal (xz d [(6,M (i+1))])),
  ([((decide (Int.ofNat i<(Int.ofNat d.ly.length))),false)],
   [],
   .to (.exit 2) (xz d [(6,M i)]))]
 :=dj.of C C C
theorem amk(d:Dc)(j:Nat):dw (U dY []) [] 0 Tryz.f39 [1,2,7] (dF (dF Yk)) (xz d [(6,M j)]) [([],
   [],
   .to .normal (xz d [(7,M 0)]))]
 :=dj.of C C C
theorem aml(d:Dc)(i:Nat)(x:eJ):dw (U (fb 24 [d.v,L x.of] (L (-1)) dY) []) [(67,.split),(73,.dz (.dx x.ds)),(81,.dz (.dx x.ds)),(99,.dz (.dx x.ds)),(76,.split),(69,.dz (M (i+1)))] 0 Tryz.f39 [1,2,7] (adC) (xz d [(7,M i)]) [([((decide (Int.ofNat i<(Int.ofNat d.ly.length))),true),((x.kd==(4:Int)),true)],
   [((0:Int)<=Int.ofNat i/\Int.ofNat i<(Int.ofNat d.ly.length)),((fc d.ly).length=d.ly.length*31),(V.dx (dn (fc d.ly) (i*31) 31)=V.dx x.ds),((0:Int)<=Int.ofNat i/\Int.ofNat i<(Int.ofNat d.ly.length)),((fc d.ly).length=d.ly.length*31),(V.dx (dn (fc d.ly) (i*31) 31)=V.dx x.ds),(V.lA ([]++[V.agg (List.take 4 (List.drop 0 d.R)),D.jQ._f (D.int A x.of) PUnit.unit]++[])=[d.v,L x.of]),((0:Int)<=Int.ofNat i/\Int.ofNat i<(Int.ofNat d.ly.length)),((fc d.ly).length=d.ly.length*31),(V.dx (dn (fc d.ly) (i*31) 31)=V.dx x.ds)],
   .ret (.agg [.int .i64 40,.int .i64 (x.id)]) (G []) 0),
  ([((decide (Int.ofNat i<(Int.ofNat d.ly.length))),true),((x.kd==(4:Int)),false)],
   [((0:Int)<=Int.ofNat i/\Int.ofNat i<(Int.ofNat d.ly.length)),((fc d.ly).length=d.ly.length*31),(V.dx (dn (fc d.ly) (i*31) 31)=V.dx x.ds),(V.int A (IntKind.i64.wrap (Int.ofNat i+(1:Int)))=M (i+1))],
   .to .normal (xz d [(7,M (i+1))])),
  ([((decide (Int.ofNat i<(Int.ofNat d.ly.length))),false)],
   [],
   .to (.exit 4) (xz d [(7,M i)]))]
 :=dj.of C C C
abbrev QA(d:Dc)(x:eJ):Prop:=V.lA ([]++[V.agg (List.take 4 (List.drop 0 d.R)),D.jQ._f (D.int A x.of) PUnit.unit]++[])=[d.v,L x.of]
abbrev QB(i:Nat):Prop:=V.int A (IntKind.i64.wrap (Int.ofNat i+(1:Int)))=M (i+1)
theorem amm(d:Dc)(i n:Nat)(x y:eJ):dw (U (fb 24 [d.v,L x.of] (M n) dY) []) [(67,.split),(73,.dz (.dx x.ds)),(81,.dz (.dx x.ds)),(99,.dz (.dx x.ds)),(91,.dz (.dx y.ds)),(76,.split),(86,.dz (.bool false)),(94,.split),(69,.dz (M (i+1)))] 0 Tryz.f39 [1,2,7] (adC) (xz d [(7,M i)]) [([((decide (Int.ofNat i<(Int.ofNat d.ly.length))),true),((x.kd==(4:Int)),true),((y.kd==(3:Int)),true)],
   [((0:Int)<=Int.ofNat i/\Int.ofNat i<(Int.ofNat d.ly.length)),((fc d.ly).length=d.ly.length*31),(V.dx (dn (fc d.ly) (i*31) 31)=V.dx x.ds),((0:Int)<=Int.ofNat i/\Int.ofNat i<(Int.ofNat d.ly.length)),((fc d.ly).length=d.ly.length*31),(V.dx (dn (fc d.ly) (i*31) 31)=V.dx x.ds),QA d x,(V.bool (decide (Int.ofNat n<(0:Int)))=V.bool false),((0:Int)<=Int.ofNat n/\Int.ofNat n<(Int.ofNat d.ly.length)),((fc d.ly).length=d.ly.length*31),(V.dx (dn (fc d.ly) (n*31) 31)=V.dx y.ds),((0:Int)<=Int.ofNat i/\Int.ofNat i<(Int.ofNat d.ly.length)),((fc d.ly).length=d.ly.length*31),(V.dx (dn (fc d.ly) (i*31) 31)=V.dx x.ds)],
   .ret (.agg [.int .i64 40,.int .i64 (x.id)]) (G []) 0),
  ([((decide (Int.ofNat i<(Int.ofNat d.ly.length))),true),((x.kd==(4:Int)),true),((y.kd==(3:Int)),false)],
   [((0:Int)<=Int.ofNat i/\Int.ofNat i<(Int.ofNat d.ly.length)),((fc d.ly).length=d.ly.length*31),(V.dx (dn (fc d.ly) (i*31) 31)=V.dx x.ds),((0:Int)<=Int.ofNat i/\Int.ofNat i<(Int.ofNat d.ly.length)),((fc d.ly).length=d.ly.length*31),(V.dx (dn (fc d.ly) (i*31) 31)=V.dx x.ds),QA d x,(V.bool (decide (Int.ofNat n<(0:Int)))=V.bool false),((0:Int)<=Int.ofNat n/\Int.ofNat n<(Int.ofNat d.ly.length)),((fc d.ly).length=d.ly.length*31),(V.dx (dn (fc d.ly) (n*31) 31)=V.dx y.ds),QB i],
   .to .normal (xz d [(7,M (i+1))])),
  ([((decide (Int.ofNat i<(Int.ofNat d.ly.length))),true),((x.kd==(4:Int)),false)],
   [((0:Int)<=Int.ofNat i/\Int.ofNat i<(Int.ofNat d.ly.length)),((fc d.ly).length=d.ly.length*31),(V.dx (dn (fc d.ly) (i*31) 31)=V.dx x.ds),QB i],
   .to .normal (xz d [(7,M (i+1))])),
  ([((decide (Int.ofNat i<(Int.ofNat d.ly.length))),false)],
   [],
   .to (.exit 4) (xz d [(7,M i)]))]
 :=dj.of C C C
theorem amn(d:Dc)(j:Nat):dw (U dY []) [] 0 Tryz.f39 [1,2,9] (dF (dF Yl)) (xz d [(7,M j)]) [([],
   [],
   .to .normal (xz d [(9,M 0)]))]
 :=dj.of C C C
theorem amo(d:Dc)(i:Nat)(x:eJ)(r:List Int)(b:Bool):dw (U (fb 56 [d.v,L x.id,.bool false] (fj r) (fb 55 [fj r,L x.id] (.bool b) dY)) []) [(107,.split),(113,.dz (.dx x.ds)),(120,.split),(109,.dz (M (i+1)))] 0 Tryz.f39 [1,2,9] amd (xz d [(9,M i)])
  [([(decide (Int.ofNat i<Int.ofNat d.ly.length),true),(b,true)],[(0:Int)<=Int.ofNat i/\Int.ofNat i<Int.ofNat d.ly.length,(fc d.ly).length=d.ly.length*31,V.dx (dn (fc d.ly) (i*31) 31)=V.dx x.ds,fa [d.v,L x.id,.bool false],fa [fj r,L x.id]],.ret (df 42 x.id) (G []) 0),
  ([(decide (Int.ofNat i<Int.ofNat d.ly.length),true),(b,false)],[(0:Int)<=Int.ofNat i/\Int.ofNat i<Int.ofNat d.ly.length,(fc d.ly).length=d.ly.length*31,V.dx (dn (fc d.ly) (i*31) 31)=V.dx x.ds,fa [d.v,L x.id,.bool false],fa [fj r,L x.id],V.int .i64 (IntKind.i64.wrap (Int.ofNat i+(1:Int)))=M (i+1)],.to .normal (xz d [(9,M (i+1))])),
  ([(decide (Int.ofNat i<Int.ofNat d.ly.length),false)],[],.to (.exit 6) (xz d [(9,M i)]))]:=dj.of C C C
abbrev QC(d:Dc):Prop:=V.lA ([]++[V.agg (List.take 4 (List.drop 0 d.R)),L d.root]++[])=[d.v,L d.root]
theorem amp(d:Dc)(j:Nat)(a:Int):dw (U (fb 52 [d.v,L d.root] (L a) dY) []) [(127,.split)] 0 Tryz.f39 [] (ama) (xz d [(9,M j)]) [([((decide (a>(6:Int))),true)],
   [QC d],
   .ret (.agg [.int .i64 43,.int .i64 (d.root)]) (G []) 0),
  ([((decide (a>(6:Int))),false)],
   [QC d],
   .ret (.agg [.int .i64 0,.int .i64 0]) (G []) 0)]
 :=dj.of C C C
set_option maxRecDepth 10000
theorem By:∀{l m:List Int},l.Nodup->(∀x∈l,x∈m)->l.length<=m.length
 | [],_,_,_=>aU _
 |x::l,m,h,hs=>by
  rw[List.nodup_cons]at h;have Q:=By (m:=m.erase x) h.2 fun y hy=>(List.mem_erase_of_ne (by rintro rfl;exact h.1 hy)).2 (hs y (bj _ hy));have I:=hs x (bx ..);have O:=List.length_erase_of_mem I;have h3:0<m.length:=List.length_pos_of_mem I;rw[aP];omega
inductive Bd(st:Int->List Int):Int->Int->Prop
 |one {x y:Int}:y∈st x->Bd st x y
 |tail {x y z:Int}:Bd st x y->z∈st y->Bd st x z
theorem Bd.trans{st:Int->List Int}{x y z:Int}(Q:Bd st x y)(O:Bd st y z):Bd st x z:=by
 induction O with
 |one h=>exact .tail Q h
 |tail _ h ih=>exact .tail ih h
theorem Bd.head{st:Int->List Int}{x z:Int}(h:Bd st x z):∃y∈st x,y=z\/Bd st y z:=by
 induction h with
 |one h=>exact⟨_,h,.inl rfl⟩
 |tail _ h ih=>
  obtain⟨y,hy,hz⟩:=ih;refine⟨y,hy,.inr ?_⟩;rcases hz with rfl|hz
  . exact .one h
  . exact .tail hz h
theorem TV{st:Int->List Int}{iW:Nat}{cs dJ:List Int}{id:Int}(hM:∀y,(st y).length<=iW)(hU:∀y,∀z∈st y,z∈dJ):∀(k:Nat) (l td yS:List Int),TM st iW cs dJ k l td yS->l.Nodup->(∀y∈l,Bd st id y)->(∀y∈td,Bd st id y)->(∀y∈st id,y∈l\/y∈td)->(∀x∈l,∀z∈st x,z∈l\/z∈td)->cs.Nodup/\∀y,y∈cs↔Bd st id y:=by
 intro k
 induction k with
 |zero=>intro l td yS h;exact absurd h.fuel (bC _)
 |succ k ih=>
  intro l td yS h hn hl ht hs B;cases td with
  |nil=>
   have e:l=cs:=h.eq;subst e;refine⟨hn,fun y=>⟨hl y,fun q=>?_⟩⟩
   induction q with
   |one h=>exact(hs _ h).elim (fun q=>q) fun q=>by cases q
   |tail _ h ih=>exact(B _ ih _ h).elim (fun q=>q) fun q=>by cases q
  |cons x td=>
   cases I:l.contains x with
   |true=>
    obtain⟨j,e,h'⟩:=Iy h I;obtain rfl:k=j:=by omega
    have K:x∈l:=cM.1 I;have f:∀y,y∈l\/y∈x::td->y∈l\/y∈td:=fun y q=>q.elim .inl fun q=>(aD.1 q).elim (fun e=>.inl (e▸K)) .inr;exact ih l td yS h' hn hl (fun y hy=>ht y (bj _ hy)) (fun y hy=>f y (hs y hy)) fun y hy z hz=>f z (B y hy z hz)
   |false=>
    obtain⟨j,Iz,e,_,h'⟩:=Gb hM hU h I;obtain rfl:k=j:=by omega
    have K:x∉l:=fun q=>by rw[<- cM]at q;rw[I]at q;cases q
    have hxr:=ht x (bx ..);have f:∀y,y∈l\/y∈x::td->y∈l++[x]\/y∈td++st x:=fun y q=>q.elim (fun q=>.inl (List.mem_append_left _ q)) fun q=>(aD.1 q).elim (fun e=>.inl (List.mem_append_right _ (aH.2 e))) fun q=>.inr (List.mem_append_left _ q);refine ih (l++[x]) (td++st x) Iz h' ?_ (fun y hy=>?_) (fun y hy=>?_) (fun y hy=>f y (hs y hy)) fun y hy z hz=>?_
    . rw[List.nodup_append];exact⟨hn,by simp,fun a ha b hb e=>K (by rw[aH]at hb;rw[<- hb,<- e];exact ha)⟩
    . rcases bg.1 hy with q|q
      . exact hl y q
      . rw[aH]at q;subst q;exact hxr
    . rcases bg.1 hy with q|q
      . exact ht y (bj _ q)
      . exact .tail hxr q
    . rcases bg.1 hy with q|q
      . exact f z (B y q z hz)
      . rw[aH]at q;subst q;exact .inr (List.mem_append_right _ hz)
section
variable(ls:List eJ)
theorem lJ(fR:Bool)(id:Int):(kL ls fR id).Nodup/\∀y,y∈kL ls fR id↔Bd (ia ls fR) id y:=by
 have hN:=oy ls fR;refine TV (fun y=>(hN y).2) (fun y=>(hN y).1) (uZ ls) [] (ia ls fR id) (fM ls) ⟨rfl,?_,by simp,fun y hy=>.inr hy,(hN id).1⟩ List.nodup_nil (fun _ h=>by cases h) (fun y hy=>.one hy) (fun y hy=>.inr hy) (fun _ h=>by cases h);have Q:=(hN id).2;have e:(fM ls).length*(2*(fM ls).length+1)+(fM ls).length=(fM ls).length*(2*(fM ls).length+2):=by rw[Nat.mul_add,Nat.mul_add];omega
 unfold uZ;omega
theorem Bd.names{ls:List eJ}{fR:Bool}{x y:Int}(h:Bd (ia ls fR) x y):y∈fM ls:=by
 cases h with
 |one h=>exact(oy ls fR _).1 _ h
 |tail _ h=>exact(oy ls fR _).1 _ h
theorem oz(fR:Bool)(id:Int):(kL ls fR id).length<=(fM ls).length:=
 By (lJ ls fR id).1 fun y hy=>(((lJ ls fR id).2 y).1 hy).names
theorem Dd{ls:List eJ}{fR:Bool}{id:Int}(h:jy ls id=none):ia ls fR id=[]:=by unfold ia;rw[h]
def EM(fR:Bool):Prop:=∀x∈ls,(kL ls fR x.id).contains x.id=false
theorem amq{ls:List eJ}{fR:Bool}(h:EM ls fR)(x:Int):¬Bd (ia ls fR) x x:=fun q=>by
 cases hn:jy ls x with
 |none=>
  obtain⟨y,hy,_⟩:=q.head;rw[Dd hn]at hy;cases hy
 |some n=>
  obtain⟨_,hid,K⟩:=jn hn;have Q:=h _ K;rw[hid]at Q;have O:=cM.2 (((lJ ls fR x).2 x).2 q);rw[Q]at O;cases O
def zV(fR:Bool)(id:Int):Nat:=(kL ls fR id).length
theorem IA{ls:List eJ}{fR:Bool}(h:EM ls fR){x y:Int}(hy:y∈ia ls fR x):zV ls fR y<zV ls fR x:=by
 have Q:=lJ ls fR y;have O:=lJ ls fR x;have:(y::kL ls fR y).length<=(kL ls fR x).length:=By (List.nodup_cons.2 ⟨fun q=>amq h y ((Q.2 y).1 q),Q.1⟩) fun z hz=>(O.2 z).2 (by
  rcases aD.1 hz with rfl|q
  . exact .one hy
  . exact Bd.trans (.one hy) ((Q.2 z).1 q))
 exact this
theorem Bz{ls:List eJ}(h:EM ls false):Ge ls (zV ls false):=fun id n hn _ p hp=>IA h (by unfold ia;rw[hn];exact List.mem_append_left _ hp)
def kR:List Int:=(ls.map (·.kids)).flatten
theorem yA(k:Int):lW ls k=(kR ls).count k:=by
 induction ls with
 |nil=>rfl
 |cons x ls ih=>
  have e:lW (x::ls) k=x.kids.count k+lW ls k:=by unfold lW;rw[bP,List.sum_cons]
  have e2:kR (x::ls)=x.kids++kR ls:=rfl;rw[e,e2,List.count_append,ih]
theorem Kt:(fM ls).length=ls.length+(kR ls).length:=by
 induction ls with
 |nil=>rfl
 |cons x ls ih=>
  have e:fM (x::ls)=(x.of::x.kids)++fM ls:=rfl;have e2:kR (x::ls)=x.kids++kR ls:=rfl;rw[e,e2,aE,aE,ih,aP,aP];omega
end
theorem De{d:Dc}{x:eJ}(h:q8 d x=true){k:Int}(W:k∈x.kids):∃n,jy d.ly k=some n:=by
 unfold q8 at h;rw[ay,bV]at h;have Q:=cT.1 h.1 k W;cases hn:jy d.ly k with
 |none=>rw[hn]at Q;exact absurd rfl Q
 |some n=>exact⟨n,rfl⟩
theorem BA{d:Dc}{x:eJ}(h:q8 d x=true):lW d.ly x.id=if x.id=d.root then 0 else 1:=by
 unfold q8 at h;rw[ay,bX,ay,ay]at h;rcases h.2 with⟨Q,O⟩|⟨Q,O⟩
 . rw[aG (by simpa using Q)];have:=cG.1 O;simp only[gQ]at this;omega
 . rw[aB (by simpa using Q)];have:=cG.1 O;simp only[gQ]at this;omega
theorem oA{d:Dc}(h:∀x∈d.ly,q8 d x=true):(fM d.ly).length<=2*d.ly.length:=by
 have qw:∀k∈kR d.ly,k∈d.ly.map (·.id):=fun k W=>by
  obtain⟨Y,Cg,W⟩:=List.mem_flatten.1 W;obtain⟨x,I,rfl⟩:=bN.1 Cg;obtain⟨n,hn⟩:=De (h x I) W;obtain⟨_,hid,K⟩:=jn hn;exact bN.2 ⟨_,K,hid⟩
 have hnd:(kR d.ly).Nodup:=by
  rw[List.nodup_iff_count];intro k;by_cases W:k∈kR d.ly
  . obtain⟨x,I,rfl⟩:=bN.1 (qw k W);rw[<- yA,BA (h x I)];split<;>omega
  . rw[List.count_eq_zero_of_not_mem W];omega
 have:=By hnd qw;rw[bG]at this;rw[Kt];omega
set_option maxRecDepth 10000
def Be(d:Dc)(x:eJ):Bool:=(x.kd==4)&&match jy d.ly x.of with
 |some m=>(d.at m).kd==3
 |none=>true
noncomputable def Ku(d:Dc)(i:Nat):Bool:=vQ d.sp.length (d.at i) !=0
def BB(d:Dc)(i:Nat):Bool:=!q8 d (d.at i)
def zW(d:Dc)(i:Nat):Bool:=Be d (d.at i)
def Ni(d:Dc)(i:Nat):Bool:=(kL d.ly false (d.at i).id).contains (d.at i).id
noncomputable def jo(d:Dc):Int×Int:=if(ir d).1=0 then match lI (Ku d) d.ly.length with
  |some i=>(vQ d.sp.length (d.at i),(d.at i).id)
  |none=>match lI (BB d) d.ly.length with
   |some i=>(40,(d.at i).id)
   |none=>match lI (zW d) d.ly.length with
    |some i=>(40,(d.at i).id)
    |none=>match lI (Ni d) d.ly.length with
     |some i=>(42,(d.at i).id)
     |none=>if ic d.ly 100 d.root>6 then(43,d.root)else(0,0)
 else ir d
theorem nj{d:Dc}{i:Nat}(h:i<d.ly.length):d.at i∈d.ly:=by
 unfold Dc.at
 rw[ax,au h];exact bK h
theorem zX{d:Dc}{x:eJ}(h:x∈d.ly):∃i,i<d.ly.length/\d.at i=x:=by
 obtain⟨i,hi,rfl⟩:=b6 h;exact⟨i,hi,by unfold Dc.at;rw[ax,au hi];rfl⟩
theorem su{d:Dc}(h:(ir d).1=0):xj d=false/\(∀j,j<d.sp.length->(!AJ (d.sp.getD j N0))=false)/\(∀j,j<d.ly.length->tE d j=false)/\lX d=false:=by
 unfold ir at h;split at h
 . exact absurd h eY
 . rename_i Q;split at h
   . exact absurd h eY
   . rename_i O;split at h
     . exact absurd h (by simp only;decide)
     . rename_i h3;split at h
       . exact absurd h (by simp only;decide)
       . rename_i h4;exact⟨by simpa using Q,pq O,pq h3,by simpa using h4⟩
theorem Df{d:Dc}(h:xj d=false):d.sp.length<=8/\d.ly.length<=40/\1<=d.nx/\d.nx<=1048576:=by
 unfold xj at h;simp only[cK,bu,gQ]at h;omega
structure Jc(d:Dc):Prop where
 m:F7 d
 s:∀s∈d.sp,TN s
 y:∀x∈d.ly,DC x
theorem Kv{d:Dc}{p:eJ->Prop}(h0:p gy)(h:∀x∈d.ly,p x)(i:Nat):p (d.at i):=by
 unfold Dc.at
 rw[ax];cases hg:d.ly[i]? with
 |none=>exact h0
 |some y=>exact h y (List.mem_of_getElem? hg)
theorem sm0:DC gy:=⟨aU _,aU _,aU _,aU _,aU _,aU _,aU _⟩
theorem Jc.at{d:Dc}(h:Jc d)(i:Nat):DC (d.at i):=Kv sm0 h.y i
set_option maxHeartbeats 1000000 in
theorem Ym(d:Dc)(hd:Jc d):dU ak 39 [d.v] (Qw (jo d)):=by
 refine eX Tryz.func39 (fF 2 (fu (Yf d hd.m hd.s) (di _)) (ame d (ir d).1 (ir d).2) (eG rfl) ?_);refine qt (di _) (fun u _ _=>u=Qw (jo d)) (amf d (ir d).1 (ir d).2) (dD (g1 fun Q=>⟨all_nil,?_,fun _ h=>h⟩) (dB (g1 fun Q=>⟨all_nil,?_⟩)))
 . unfold jo;rw[aB (by simpa using Q)];rfl
 have hw:(ir d).1=0:=by simpa using Q
 have tM:jo d=_:=aG hw;obtain⟨hb,_⟩:=su hw;obtain⟨_,zQ,_⟩:=Df hb;have hA:=fun i (h:(decide (Int.ofNat i<Int.ofNat d.ly.length))=true)=>(⟨iI (jW h),gj d.ly,iw (jW h)⟩:((0:Int)<=Int.ofNat i/\Int.ofNat i<Int.ofNat d.ly.length)/\(fc d.ly).length=d.ly.length*31/\V.dx (dn (fc d.ly) (i*31) 31)= .dx (d.at i).ds);have hv:=fun i (h:(decide (Int.ofNat i<Int.ofNat d.ly.length))=true)=>(gJ (i:=i) (by have:=jW h;omega):V.int .i64 (IntKind.i64.wrap (Int.ofNat i+(1:Int)))=M (i+1));refine dK C (dK C (gv (di _) eE (amg d []) (dB (g0 ⟨all_nil,fun X dQ=>?_⟩))));simp only[andThen];refine jf 0 d.ly.length (fun i=>xz d [(4,M i)]) (Ku d) (ek.norm dQ) (fun i hi hj Q' k1 k2 k3=>?_) (fun e1 X dQ=>?_)
 . refine gv (fu (TF d (d.at i) (hd.at i)) (di _)) (fun u _ _=>u=Qw (jo d)) (amh d i (d.at i) (vQ d.sp.length (d.at i))) (dD (g2 fun Q O=>?_) (dD (g2 fun Q O=>?_) (dB (g1 fun Q=>⟨all_nil,fun X dQ=>k2 (by have:=r9 Q;omega) X (ek.norm dQ)⟩))))
   . obtain⟨a1,a2,a3⟩:=hA i Q;refine⟨S a1 (S a2 (S a3 (S rfl (S a1 (S a2 (eG a3)))))),?_,k3⟩;rw[tM,jj (f:=Ku d) (jW Q) O hj];rfl
   . obtain⟨a1,a2,a3⟩:=hA i Q;exact⟨S a1 (S a2 (S a3 (S rfl (eG (hv i Q))))),fun X dQ=>k1 (jW Q) O X (ek.norm dQ)⟩
 rw[gB e1]at tM;simp only[andThen];refine dQ _ _ ?_;refine dK C (dK C (gv (di _) eE (ami d _) (dB (g0 ⟨all_nil,fun X dQ=>?_⟩))));simp only[andThen];refine jf 2 d.ly.length (fun i=>xz d [(6,M i)]) (BB d) (ek.norm dQ) (fun i hi hj Q' k1 k2 k3=>?_) (fun e2 X dQ=>?_)
 . refine gv (fu (adb d (d.at i) hd.m (hd.at i).kids H) (di _)) (fun u _ _=>u=Qw (jo d)) (amj d i (d.at i) (q8 d (d.at i))) (dD (g2 fun Q O=>?_) (dD (g2 fun Q O=>?_) (dB (g1 fun Q=>⟨all_nil,fun X dQ=>k2 (by have:=r9 Q;omega) X (ek.norm dQ)⟩))))
   . obtain⟨a1,a2,a3⟩:=hA i Q;refine⟨S a1 (S a2 (S a3 (S rfl (S a1 (S a2 (eG a3)))))),?_,k3⟩;rw[tM,jj (f:=BB d) (jW Q) O hj];rfl
   . obtain⟨a1,a2,a3⟩:=hA i Q;exact⟨S a1 (S a2 (S a3 (S rfl (eG (hv i Q))))),fun X dQ=>k1 (jW Q) O X (ek.norm dQ)⟩
 rw[gB e2]at tM;simp only[andThen];refine dQ _ _ ?_;refine dK C (dK C (gv (di _) eE (amk d _) (dB (g0 ⟨all_nil,fun X dQ=>?_⟩))));simp only[andThen];refine jf 4 d.ly.length (fun i=>xz d [(7,M i)]) (zW d) (ek.norm dQ) (fun i hi hj Q' k1 k2 k3=>?_) (fun e3 X dQ=>?_)
 . have hP:=atD d (d.at i).of hd.m.ly;cases hn:jy d.ly (d.at i).of with
   |none=>
    have ha:Ba d.ly (d.at i).of= -1:=by unfold Ba;rw[hn]
    have B:zW d i=((d.at i).kd==4&&true):=by unfold zW Be;rw[hn]
    rw[ha]at hP;refine gv (fu hP (di _)) (fun u _ _=>u=Qw (jo d)) (aml d i (d.at i)) (dD (g2 fun Q O=>?_) (dD (g2 fun Q O=>?_) (dB (g1 fun Q=>⟨all_nil,fun X dQ=>k2 (by have:=r9 Q;omega) X (ek.norm dQ)⟩))))
    . obtain⟨a1,a2,a3⟩:=hA i Q;refine⟨S a1 (S a2 (S a3 (S a1 (S a2 (S a3 (S rfl (S a1 (S a2 (eG a3))))))))),?_,k3⟩;rw[tM,jj (f:=zW d) (jW Q) (by rw[B,O];rfl) hj];rfl
    . obtain⟨a1,a2,a3⟩:=hA i Q;exact⟨S a1 (S a2 (S a3 (eG (hv i Q)))),fun X dQ=>k1 (jW Q) (by rw[B,O];rfl) X (ek.norm dQ)⟩
   |some m=>
    have ha:Ba d.ly (d.at i).of=Int.ofNat m:=by unfold Ba;rw[hn]
    obtain⟨eO,_,_⟩:=jn hn;have B:zW d i=((d.at i).kd==4&&((d.at m).kd==3)):=by unfold zW Be;rw[hn]
    rw[ha]at hP;obtain⟨b1,b2,b3⟩:=hA m (aZ (cm.2 eO));have b0:V.bool (decide (Int.ofNat m<(0:Int)))=V.bool false:=aI V.bool (aT (by simp only[gQ];omega));refine gv (fu hP (di _)) (fun u _ _=>u=Qw (jo d)) (amm d i m (d.at i) (d.at m)) (dD (g3 fun Q O h3=>?_) (dD (g3 fun Q O h3=>?_) (dD (g2 fun Q O=>?_) (dB (g1 fun Q=>⟨all_nil,fun X dQ=>k2 (by have:=r9 Q;omega) X (ek.norm dQ)⟩)))))
    . obtain⟨a1,a2,a3⟩:=hA i Q;refine⟨S a1 (S a2 (S a3 (S a1 (S a2 (S a3 (S rfl (S b0 (S b1 (S b2 (S b3 (S a1 (S a2 (eG a3))))))))))))),?_,k3⟩;rw[tM,jj (f:=zW d) (jW Q) (by rw[B,O,h3];rfl) hj];rfl
    . obtain⟨a1,a2,a3⟩:=hA i Q;exact⟨S a1 (S a2 (S a3 (S a1 (S a2 (S a3 (S rfl (S b0 (S b1 (S b2 (S b3 (eG (hv i Q)))))))))))),fun X dQ=>k1 (jW Q) (by rw[B,O,h3];rfl) X (ek.norm dQ)⟩
    . obtain⟨a1,a2,a3⟩:=hA i Q;exact⟨S a1 (S a2 (S a3 (eG (hv i Q)))),fun X dQ=>k1 (jW Q) (by rw[B,O];rfl) X (ek.norm dQ)⟩
 rw[gB e3]at tM;simp only[andThen];refine dQ _ _ ?_;have hK:∀x∈d.ly,q8 d x=true:=fun x I=>by
  obtain⟨j,hj,rfl⟩:=zX I;have:=e2 j hj;unfold BB at this;simpa using this
 have hN:=oA hK;refine dK C (dK C (gv (di _) eE (amn d _) (dB (g0 ⟨all_nil,fun X dQ=>?_⟩))));simp only[andThen];refine jf 6 d.ly.length (fun i=>xz d [(9,M i)]) (Ni d) (ek.norm dQ) (fun i hi hj Q' k1 k2 k3=>?_) (fun e4 X dQ=>?_)
 . have hl:=oz d.ly false (d.at i).id;refine gv (fu (Qt d (d.at i).id false hd.m (fun h=>by cases h) H) (fu (acG (kL d.ly false (d.at i).id) (d.at i).id H) (di _))) (fun u _ _=>u=Qw (jo d)) (amo d i (d.at i) _ _) (dD (g2 fun Q O=>?_) (dD (g2 fun Q O=>?_) (dB (g1 fun Q=>⟨all_nil,fun X dQ=>k2 (by have:=r9 Q;omega) X (ek.norm dQ)⟩))))
   . obtain⟨a1,a2,a3⟩:=hA i Q;refine⟨S a1 (S a2 (S a3 (S rfl (eG rfl)))),?_,k3⟩;rw[tM,jj (f:=Ni d) (jW Q) O hj];rfl
   . obtain⟨a1,a2,a3⟩:=hA i Q;exact⟨S a1 (S a2 (S a3 (S rfl (S rfl (eG (hv i Q)))))),fun X dQ=>k1 (jW Q) O X (ek.norm dQ)⟩
 rw[gB e4]at tM;simp only at tM;simp only[andThen];refine dQ _ _ ?_;have hac:EM d.ly false:=fun x I=>by
  obtain⟨j,hj,rfl⟩:=zX I;exact e4 j hj
 have hD:=Yh d hd.m (zV d.ly false) (Bz hac) 100 eY d.root (by unfold zV;have:=oz d.ly false d.root;omega);refine eK (fu hD (di _)) (amp d d.ly.length (ic d.ly 100 d.root)) (dD (g1 fun Q=>⟨eG rfl,_,_,_,rfl,?_⟩) (dB (g1 fun Q=>⟨eG rfl,_,_,_,rfl,?_⟩)))
 . rw[tM,aG (aX Q)];rfl
 . rw[tM,aB (bB Q)];rfl
end Go.Proofs.YtmjggdmekboefaaGreat
