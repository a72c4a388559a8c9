/- The Doc laws: the reference's reached: contract. No conditions. -/
import Derived.Test.YtmjggdmekboefaaGreatJointW07
set_option linter.unusedVariables false
set_option linter.unusedSimpArgs false
set_option linter.unusedSectionVars false
namespace Go.Proofs.YtmjggdmekboefaaGreat
open Go Go.Eng
set_option maxRecDepth 10000
def reF(st:Int->List Int):Nat->List Int->List Int->List Int
 |0,l,_=>l
 |_+1,l,[]=>l
 |k+1,l,x::td=>if l.contains x=true then reF st k l td else reF st k (l++[x]) (td++st x)
section
variable(ls:List eJ)
def fZ:List Int:=(ls.map fun x=>x.of::x.kids).flatten
def vb:Nat:=(fZ ls).length*(2*(fZ ls).length+2)+2*(fZ ls).length+2
def kP(gj:Bool)(id:Int):List Int:=reF (iB ls gj) (vb ls) [] (iB ls gj id)
end
section
variable{ls:List eJ}{x:eJ}
theorem EW(J:x∈ls){k:Int}(U:k∈x.kids):k∈fZ ls:=List.mem_flatten.2 ⟨_,bS.2 ⟨x,J,rfl⟩,aZ _ U⟩
theorem QT(J:x∈ls):x.of∈fZ ls:=List.mem_flatten.2 ⟨_,bS.2 ⟨x,J,rfl⟩,bw ..⟩
theorem Ac(J:x∈ls):x.kids.length+1<=(fZ ls).length:=by
 induction ls with
 |nil=>cases J
 |cons y ls ih=>
  have e:fZ (y::ls)=(y.of::y.kids)++fZ ls:=rfl;rw[e,aH,aR];rcases az.1 J with rfl|h
  . omega
  . have:=ih h;omega
theorem IV(J:x∈ls):(∀k∈gA x,k∈fZ ls)/\(gA x).length<=(fZ ls).length:=by
 have:=Ac J;unfold gA;split
 . exact⟨fun k U=>by rw[aG]at U;subst U;exact QT J,by simp only[aR,b9];omega⟩
 . exact⟨fun k U=>EW J U,S⟩
theorem Gg{id:Int}:(∀k∈jx ls id,k∈fZ ls)/\(jx ls id).length<=(fZ ls).length:=by
 unfold jx;split
 . split
   . rename_i m K;obtain⟨_,_,h⟩:=jv K;have:=Ac h;exact⟨fun k U=>EW h (cN U),by rw[aW];omega⟩
   . exact⟨fun _ h=>(by cases h),aN _⟩
 . exact⟨fun _ h=>(by cases h),aN _⟩
end
theorem oA(ls:List eJ)(gj:Bool)(id:Int):(∀k∈iB ls gj id,k∈fZ ls)/\(iB ls gj id).length<=2*(fZ ls).length:=by
 unfold iB;split
 . rename_i n hn;obtain⟨_,_,h⟩:=jv hn;obtain⟨h1,C⟩:=IV h;obtain⟨h3,h4⟩:=Gg (ls:=ls) (id:=id);split
   . exact⟨fun k U=>(bf.1 U).elim (h1 k) (h3 k),by rw[aH];omega⟩
   . exact⟨fun k U=>(bf.1 U).elim (h1 k) (fun q=>by cases q),by rw[aH,b9];omega⟩
 . exact⟨fun _ h=>(by cases h),aN _⟩
theorem YS:kj ak 55 (yz KH):=by
 refine yA dD fun ds fm v e hA=>?_;unfold KH at e;split at e
 case h_2=>cases e
 rename_i n cs k;obtain⟨rfl,rfl⟩:=sm e;have h1:cs=eG (eH cs):=hA _ (by simp);have C:n=(eH cs).length:=hA (n=(eH cs).length) (by simp);have h3:n<=1000000:=hA (n<=1000000) (by simp);generalize eH cs=l at *;subst h1 C;exact adP l k h3
theorem QU:fe ak Whs:=fN YS (be _)
def YT(d:Dc)(gj:Bool)(l td:List Int)(r:List (Nat×V)):St:=match l with
 | []=>IQ d gj td r
 |x::l=>Gf d gj (x::l) td r
structure Ua(st:Int->List Int)(dN:Nat)(s':List Int)(hk:List Int)(k:Nat)(l td za:List Int):Prop where
 eq:reF st k l td=s'
 fuel:td.length+za.length*(dN+1)<k
 nodup:l.length+za.length<=hk.length
 see:∀y∈hk,y∈l\/y∈za
 td:∀y∈td,y∈hk
theorem IW{st:Int->List Int}{dN:Nat}{s' hk:List Int}{k:Nat}{l td za:List Int}{x:Int}(h:Ua st dN s' hk k l (x::td) za)(J:l.contains x=true):∃j,k=j+1/\Ua st dN s' hk j l td za:=by
 obtain⟨j,rfl⟩:∃j,k=j+1:=⟨k-1,by have:=h.fuel;omega⟩;refine⟨j,rfl,?_,by have:=h.fuel;simp only[aR]at this;omega,h.nodup,h.see,fun y hy=>h.td y (aZ _ hy)⟩;have:=h.eq;unfold reF at this;rw[aD J]at this;exact this
theorem Gh{st:Int->List Int}{dN:Nat}{s' hk:List Int}{k:Nat}{l td za:List Int}{x:Int}(hM:∀y,(st y).length<=dN)(hU:∀y,∀z∈st y,z∈hk)(h:Ua st dN s' hk k l (x::td) za)(J:l.contains x=false):∃j IX,k=j+1/\IX.length<za.length/\Ua st dN s' hk j (l++[x]) (td++st x) IX:=by
 obtain⟨j,rfl⟩:∃j,k=j+1:=⟨k-1,by have:=h.fuel;omega⟩;have hr:x∈za:=(h.see x (h.td x (bw ..))).resolve_left fun q=>by
  rw[<- cR]at q;rw[J]at q;cases q
 have eY:(za.filter (. !=x)).length<za.length:=List.length_filter_lt_length_iff_exists.2 ⟨x,hr,by simp⟩;refine⟨j,za.filter (. !=x),rfl,eY,?_,?_,?_,fun y hy=>?_,fun y hy=>(bf.1 hy).elim (fun q=>h.td y (aZ _ q)) (hU x y)⟩
 . have:=h.eq;unfold reF at this;rw[aA (by rw[J];decide)]at this;exact this
 . have h1:=h.fuel;have C:=hM x;have h3:((za.filter (. !=x)).length+1)*(dN+1)<=za.length*(dN+1):=cM _ eY;rw[dh,Nat.one_mul]at h3;rw[aH];simp only[aR]at h1;omega
 . have:=h.nodup;rw[aH,cQ];omega
 . rcases h.see y hy with q|q
   . exact .inl (List.mem_append_left _ q)
   . by_cases e:y=x
     . exact .inl (List.mem_append_right _ (by rw[e];exact aG.2 rfl))
     . exact .inr (List.mem_filter.2 ⟨q,by simpa using e⟩)
theorem amT(x:Int)(td:List Int):V.eE false ((x::td).length-1) (dO (eG (x::td)) 1 (((x::td).length-1)*1))=fF td:=by
 have e:dO (eG (x::td)) 1 (((x::td).length-1)*1)=eG td:=by
  unfold dO eG;rw[bQ,List.drop_succ_cons,bx,aR,Nat.add_sub_cancel,cP,<- bG (f:=D.int .i64),bn]
 rw[e];rfl
theorem QV(d:Dc)(id:Int)(gj:Bool)(hd:IP d)(hu:gj=true->IS d.ly)(hU:(fZ d.ly).length<=10000):dV ak 56 [d.v,F id,.bool gj] (fF (kP d.ly gj id)):=by
 have hS:=fun id=>YR d id gj hd hu;have hN:=oA d.ly gj;refine mJ Tryz.func56 (fH 3 (fk (hS id) (be _)) (amL d id gj (iB d.ly gj id)) (eM rfl) ?_);generalize hR:kP d.ly gj id=s';generalize vt:iB d.ly gj=st at *;have hI:Ua st (2*(fZ d.ly).length) s' (fZ d.ly) (vb d.ly) [] (st id) (fZ d.ly):=by
  refine⟨by rw[<- hR];unfold kP;rw[vt],?_,by simp,fun y hy=>.inr hy,(hN id).1⟩;have h1:=(hN id).2;have e:(fZ d.ly).length*(2*(fZ d.ly).length+1)+(fZ d.ly).length=(fZ d.ly).length*(2*(fZ d.ly).length+2):=by rw[Nat.mul_add,Nat.mul_add];omega
  unfold vb;omega
 have hF:vb d.ly<=500000000:=by
  unfold vb;have:=Nat.mul_le_mul hU (show 2*(fZ d.ly).length+2<=20002 by omega);omega
 have hT:TG ak 0 Tryz.f56.ntmps (dI (dA 3 yE)) (YT d gj [] (st id) []) (andThen (fun R=>TG ak 0 Tryz.f56.ntmps (dY (dA 3 yE)) R (fV ak 0 Tryz.f56 (rE (fF s')))) (fV ak 0 Tryz.f56 (rE (fF s')))):=by
  refine fL (i:=0) dD (jO (fun m s=>∃l td za,(Ua st (2*(fZ d.ly).length) s' (fZ d.ly) m l td za/\m<=vb d.ly)/\ew ak 0 Tryz.f56.ntmps s (YT d gj l td [])) dD ?_ (vb d.ly) ⟨[],st id,fZ d.ly,⟨hI,aK _⟩,.refl⟩);rintro m s1 ⟨l,td,za,⟨hi,K⟩,oV⟩;refine oV _ _ ?_;have hll:l.length<=10000:=by have:=hi.nodup;omega
  have wY:td=[]->TG ak 0 Tryz.f56.ntmps (dY (dA 3 yE)) (YT d gj l td []) (fV ak 0 Tryz.f56 (rE (fF s'))):=fun e=>by
   have hl:l=s':=by
    have:=hi.eq;subst e;obtain⟨j,rfl⟩:∃j,m=j+1:=⟨m-1,by have:=hi.fuel;omega⟩;exact this
   rw[<- hl];cases l with
   |nil=>exact eR (be _) (amP d gj td) (dF (g0 ⟨all_nil,_,_,_,rfl,.Bi (v0:=.eE false 0 []) [0] (fm:=[([]:ai).length=0*1]) dD (eM rfl) dD dD⟩))
   |cons y l=>exact eR (be _) (aep d gj (y::l) td) (dF (g0 ⟨all_nil,_,_,_,rfl,.Bi (v0:=fF (y::l)) [0] (fm:=[(eG (y::l)).length=(y::l).length*1]) dD (eM (eK _)) dD dD⟩))
  have Kh:∀s2 b,td=[]->ld 0 [2,3,7,8] s2=some (YT d gj l td [])->b=0->andThen (fun R=>∃k',k'<m/\∃l td za,(Ua st (2*(fZ d.ly).length) s' (fZ d.ly) k' l td za/\k'<=vb d.ly)/\ew ak 0 Tryz.f56.ntmps R (YT d gj l td [])) (gZ 0 (andThen (fun R=>TG ak 0 Tryz.f56.ntmps (dY (dA 3 yE)) R (fV ak 0 Tryz.f56 (rE (fF s')))) (fV ak 0 Tryz.f56 (rE (fF s'))))) (.exit b) s2:=fun s2 b e vQ Y=>by
   subst Y;simp only[andThen];rw[iS];exact fQ vQ (wY e)
  have htl:td.length<=500000000:=by
   have h1:=hi.fuel;omega
  have QW:∀x tl,td=x::tl->TG ak 0 Tryz.f56.ntmps (dY bRe) (YT d gj l td []) (andThen (fun R=>∃k',k'<m/\∃l td za,(Ua st (2*(fZ d.ly).length) s' (fZ d.ly) k' l td za/\k'<=vb d.ly)/\ew ak 0 Tryz.f56.ntmps R (YT d gj l td [])) (gZ 0 (andThen (fun R=>TG ak 0 Tryz.f56.ntmps (dY (dA 3 yE)) R (fV ak 0 Tryz.f56 (rE (fF s')))) (fV ak 0 Tryz.f56 (rE (fF s')))))):=by
   rintro x tl rfl;refine fL (i:=1) dD ?_;have A1:(0:Int)<=(0:Int)/\(0:Int)<Int.ofNat (x::tl).length:=⟨Int.le_refl _,by simp only[gB,aR];omega⟩;have A2:=eK (x::tl);have A3:V.dS (dO (eG (x::tl)) 0 1)=V.dS [D.int B x]:=rfl;have A4:(0:Int)<=(1:Int)/\(1:Int)<=Int.ofNat (x::tl).length:=⟨eX,by simp only[gB,aR];omega⟩;have A5:=amT x tl;have Ch:=hN x;simp only[aR]at htl;have hts:(st x).length<=20000:=by have:=Ch.2;omega
   have T9:List.take ((0+tl.length)*1) (List.drop 0 ([]++eG tl))++eG (st x)=eG (tl++st x):=by
    rw[bA,bx,bB,cj (Nat.le_of_eq (eK tl))];exact(bM ..).symm
   have jl:0+tl.length+(st x).length=(tl++st x).length:=by rw[aH];omega
   have B1:=eK tl;have B2:=eK (st x);cases l with
   |nil=>
    refine fH 3 QU (amM d gj tl x) (A A1 (A A2 (A A3 (A A2 (A A4 (A A5 (A rfl (A rfl (A rfl (eM eX)))))))))) ?_;refine jZ (t:=true) dD dD (fun _=>?_) (fun h=>by cases h);obtain⟨j,IX,rfl,eY,jI⟩:=Gh (fun y=>(hN y).2) (fun y=>(hN y).1) hi rfl;have h4:=amN d gj tl (st x) x;rw[T9,jl]at h4;refine gk (fk (hS x) (be _)) eI h4 (dF (g0 ⟨A B1 (A (LZ S) (A rfl (A B2 (A (by simp only[aH,b9];omega) (eM (LZ (by rw[aH];omega))))))),fun R dX=>?_⟩));simp only[gZ,andThen];refine⟨j,Nat.lt_succ_self j,[x],tl++st x,IX,⟨jI,S⟩,?_⟩;generalize tl++st x=Wl at dX;refine((ew.norm dX).trans (ew.own [(1,.i64)] (dy:=fB [(2,.bool gj),(3,.ptr (some (0,0))),(7,.eZ (some (1,0)) 1 1 1),(8,.eZ (some (2,0)) Wl.length Wl.length 1)] (mRe d [(1,.own .i64 [x]),(2,.deep (eG Wl))]) 3) dD)).trans (ew.DJ [2] [2,3,7,8] (fm:=[(eG Wl).length=Wl.length*1]) dD (eM (eK _)))
   |cons y l=>
    have h2:=A A1 (A A2 (A A3 (A A2 (A A4 (A A5 (A (eK (y::l)) (A (aI eG (fI (y::l)).symm) (A (aI List.length (fI (y::l)).symm) (eM (show(y::l).length<=1000000 by omega))))))))));refine uh 3 QU (aen d gj (y::l) tl x) (dJ (g1 fun h1=>⟨h2,_,rfl,?_⟩) (dF (g1 fun h1=>⟨h2,_,rfl,?_⟩)))
    . rw[fI]at h1;have J:(y::l).contains x=false:=by cases hq:(y::l).contains x<;>rw[hq]at h1<;>first|rfl|cases h1
      refine jZ (t:=true) dD dD (fun _=>?_) (fun h=>by cases h);obtain⟨j,IX,rfl,eY,jI⟩:=Gh (fun y=>(hN y).2) (fun y=>(hN y).1) hi J;have h4:=aeo d gj (y::l) tl (st x) x;rw[T9,jl,bx,cP,bn]at h4;have SC:(y::l).length+1=(y::l++[x]).length:=by rw[aH];rfl
      have hr:fJ ((y::l).length+1) 1 8=true:=LZ S;have hp:0<(y::l).length:=by simp only[aR];omega
      refine gk (fk (hS x) (be _)) eI h4 (dF (g0 ⟨A hp (A S (A eX (A hr (A B1 (A (LZ S) (A rfl (A B2 (A (by simp only[aH,b9];omega) (eM (LZ (by rw[aH];omega))))))))))),fun R dX=>?_⟩));simp only[gZ,andThen];refine⟨j,Nat.lt_succ_self j,y::l++[x],tl++st x,IX,⟨jI,S⟩,?_⟩;rw[SC]at dX;generalize tl++st x=Wl at dX;have e:y::l++[x]=y::(l++[x]):=rfl;rw[e]at dX ⊢;generalize l++[x]=l2 at dX;exact(ew.norm dX).trans (ew.DJ [2] [2,3,7,8] (fm:=[(eG Wl).length=Wl.length*1]) dD (eM (eK _)))
    . rw[fI]at h1;have J:(y::l).contains x=true:=by cases hq:(y::l).contains x<;>rw[hq]at h1<;>first|rfl|cases h1
      obtain⟨j,rfl,jI⟩:=IW hi J;refine jZ (t:=false) dD dD (fun h=>by cases h) (fun _=>?_);refine gk (be _) eI (amO d gj (y::l) tl x) (dF (g0 ⟨all_nil,fun R dX=>?_⟩));simp only[gZ,andThen];exact⟨j,Nat.lt_succ_self j,y::l,tl,za,⟨jI,S⟩,ew.norm dX⟩
  cases td with
  |nil=>
   cases l with
   |nil=>exact qv (be _) eI (aem d gj []) (dJ (g1 fun h1=>absurd h1 eX) (dF (g1 fun h1=>⟨all_nil,fun R dX=>Kh R 0 rfl dX rfl⟩)))
   |cons y l=>exact qv (be _) eI (Wk d gj (y::l) []) (dJ (g1 fun h1=>absurd h1 eX) (dF (g1 fun h1=>⟨all_nil,fun R dX=>Kh R 0 rfl dX rfl⟩)))
  |cons x tl=>
   have hp:decide (Int.ofNat (x::tl).length>0)=true:=aT (by simp only[gB,aR];omega);cases l with
   |nil=>exact qv (be _) eI (aem d gj (x::tl)) (dJ (g1 fun h1=>⟨all_nil,QW x tl rfl⟩) (dF (g1 fun h1=>by rw[hp]at h1;cases h1)))
   |cons y l=>exact qv (be _) eI (Wk d gj (y::l) (x::tl)) (dJ (g1 fun h1=>⟨all_nil,QW x tl rfl⟩) (dF (g1 fun h1=>by rw[hp]at h1;cases h1)))
 exact dM dD hT
set_option maxRecDepth 10000
section
variable{X hc:Nat}{c:Code}{s:St}{Q:Exit->St->Prop}
theorem iz(b n:Nat)(dy:Nat->St)(t:Nat->Bool)(h0:ew ak X hc s (dy 0))
  (Y:∀i,i<=n->(∀j,j<i->t j=false)->∀Q':Exit->St->Prop,(i<n->t i=false->∀R,ew ak X hc R (dy (i+1))->Q' .normal R)->(i=n->∀R,ew ak X hc R (dy i)->Q' (.exit b) R)->(∀R,Q .ret R->Q' .ret R)->TG ak X hc (dK (dK c)) (dy i) Q')
  (he:(∀j,j<n->t j=false)->∀R,ew ak X hc R (dy n)->Q .normal R) (hs:(nq c b&&oL (dK c))=true:=by kernel_rfl):TG ak X hc c s Q:=by
 rw[ay]at hs;refine fL (i:=b) hs.1 (jO (fun m s=>∃i,m=n-i/\i<=n/\(∀j,j<i->t j=false)/\ew ak X hc s (dy i)) hs.2 ?_ n ⟨0,S,aN _,fun _ h=>absurd h (bL _),h0⟩);rintro m s1 ⟨i,rfl,hi,hj,hg⟩;refine hg _ _ (Y i hi hj _ (fun h1 C R dX=>?_) (fun h1 R dX=>?_) (fun R h=>?_))
 . simp only[andThen];refine⟨n-(i+1),S,i+1,rfl,h1,fun j hji=>?_,dX⟩;rcases bj j i with q|q
   . exact hj j q
   . obtain rfl:j=i:=by omega
     exact C
 . subst h1;simp only[andThen];rw[iS];exact he hj R dX
 . simp only[andThen,gZ];exact h
end
section
variable(s:Sp)(i j:Nat)(a:Int)
def M9.at(m:M9):Nat->Int
 |0=>m.a|1=>m.b|2=>m.c|3=>m.d|4=>m.e|5=>m.f|6=>m.g|7=>m.h|_=>m.i
def Sp.cv:Nat->List Int
 |0=>s.c0|1=>s.c1|_=>s.c2
noncomputable abbrev aeq:Code:=dL Tryz.f114
def qN(r:List (Nat×V)):St:=fB ([(1,.ptr (some (0,0)))]++r) (hL [(0,.cells (D.fU s.ds))]) 1
noncomputable abbrev YU:Code:=dA 1 aeq
noncomputable abbrev YV:Code:=dA 1 YU
noncomputable abbrev YW:Code:=dA 1 YV
noncomputable abbrev aer:Code:=dK (dK (dY (dI YU)))
noncomputable abbrev aes:Code:=dK (dK (dY (dI YV)))
noncomputable abbrev YX:Code:=dK (dK (dY (dI YW)))
noncomputable abbrev aet:Code:=dK (dI (dY YX))
noncomputable abbrev YY:Code:=dK (dK (dY aet))
noncomputable abbrev YZ:Code:=dK (dI (dY YY))
noncomputable abbrev aeu:Code:=dI (dY YZ)
noncomputable abbrev aev:Code:=dK (dK (dY aeu))
abbrev n3:Prop:=(0:Int)<=Int.ofNat i/\Int.ofNat i<3
abbrev n9:Prop:=(0:Int)<=Int.ofNat i/\Int.ofNat i<9
theorem amU:H (M ek []) [] 0 Tryz.f114 [1] (dU 1 aeq) (dB [s.v] .nil 0) [([],[],eu (qN s []))]:=G.W
theorem amV:H (M ek []) [] 0 Tryz.f114 [1,3] (dI (dI YU)) (qN s []) [([],[],eu (qN s [(3,L 0)]))]:=G.W
theorem amW:H (M ek []) [] 0 Tryz.f114 [1,3] (aer) (qN s [(3,L 3)]) [([],[],.to (.exit 0) (qN s [(3,L 3)]))]:=G.W
theorem amX:H (M ek []) [] 0 Tryz.f114 [1,5] (dI (dI YV)) (qN s [(3,L 3)]) [([],[],eu (qN s [(5,L 0)]))]:=G.W
theorem amY:H (M ek []) [] 0 Tryz.f114 [1,5] (aes) (qN s [(5,L 9)]) [([],[],.to (.exit 2) (qN s [(5,L 9)]))]:=G.W
theorem amZ:H (M ek []) [] 0 Tryz.f114 [1,6] (dI (dI YW)) (qN s [(5,L 9)]) [([],[],eu (qN s [(6,L 0)]))]:=G.W
theorem am0:H (M ek []) [] 0 Tryz.f114 [] (dY YW) (qN s [(6,L 3)]) [([],[],By)]:=G.W
theorem am1:H (M ek []) [] 0 Tryz.f114 [1,6,7] (dI aet) (qN s [(6,L i)]) [([],[],eu (qN s [(6,L i),(7,L 0)]))]:=G.W
theorem am2:H (M ek []) [(52,.split)] 0 Tryz.f114 [1,6] (dI YX) (qN s [(6,L i)]) (fP (decide (Int.ofNat i<(3:Int))) ([],eu (qN s [(6,L i)])) ([],.to (.exit 4) (qN s [(6,L i)]))):=G.W
theorem am3:H (M ek []) [(56,.split)] 0 Tryz.f114 [1,6,7] (dI YY) (qN s [(6,L i),(7,L j)]) (fP (decide (Int.ofNat j<(3:Int))) ([],eu (qN s [(6,L i),(7,L j)])) ([],.to (.exit 6) (qN s [(6,L i),(7,L j)]))):=G.W
theorem am4:H (M ek []) [] 0 Tryz.f114 [1,6,7,8] (dI YZ) (qN s [(6,L i),(7,L j)]) [([],[],eu (qN s [(6,L i),(7,L j),(8,L 0)]))]:=G.W
theorem am5:H (M ek []) [] 0 Tryz.f114 [1,6,7,8,9] (dI aeu) (qN s [(6,L i),(7,L j),(8,F a)]) [([],[],eu (qN s [(6,L i),(7,L j),(8,F a),(9,L 0)]))]:=G.W
theorem aew:H (M ek []) [] 0 Tryz.f114 [1,6,7,8,9] (aev) (qN s [(6,L i),(7,L j),(8,F a),(9,L 3)]) [([],[],.to (.exit 8) (qN s [(6,L i),(7,L j),(8,F a),(9,L 3)]))]:=G.W
theorem am6:H (M ek []) [(82,.split),(87,.split),(89,.split)] 0 Tryz.f114 [1,6,7] (dY (dY YZ)) (qN s [(6,L i),(7,L j),(8,F a),(9,L 3)]) [([(Int.ofNat i==Int.ofNat j,true),(decide (IntKind.i64.wrap (a-(16777216:Int))<(-32768:Int)),true)],[],ja),([(Int.ofNat i==Int.ofNat j,true),(decide (IntKind.i64.wrap (a-(16777216:Int))<(-32768:Int)),false),(decide (IntKind.i64.wrap (a-(16777216:Int))>(32768:Int)),true)],[],ja),([(Int.ofNat i==Int.ofNat j,true),(decide (IntKind.i64.wrap (a-(16777216:Int))<(-32768:Int)),false),(decide (IntKind.i64.wrap (a-(16777216:Int))>(32768:Int)),false)],[],eu (qN s [(6,L i),(7,L j)])),([(Int.ofNat i==Int.ofNat j,false),(decide (a<(-32768:Int)),true)],[],ja),([(Int.ofNat i==Int.ofNat j,false),(decide (a<(-32768:Int)),false),(decide (a>(32768:Int)),true)],[],ja),([(Int.ofNat i==Int.ofNat j,false),(decide (a<(-32768:Int)),false),(decide (a>(32768:Int)),false)],[],eu (qN s [(6,L i),(7,L j)]))]:=G.W
theorem am7:H (M ek []) [(58,.dG (L (j+1)))] 0 Tryz.f114 [1,6,7] (dY (dY YY)) (qN s [(6,L i),(7,L j)]) [([],[oH j],eu (qN s [(6,L i),(7,L (j+1))]))]:=G.W
theorem am8:H (M ek []) [(54,.dG (L (i+1)))] 0 Tryz.f114 [1,6] (dY (dY YX)) (qN s [(6,L i),(7,L 3)]) [([],[oH i],eu (qN s [(6,L (i+1))]))]:=G.W
end
section
variable(s:Sp)(x a:Int)
theorem am9(b:Bool):∀i,i<3->H (M (fa 137 [fF (s.cv i)] (.bool b) ek) []) [(20,.split)] 0 Tryz.f114 [1,3] aer (qN s [(3,L i)]) [([(!b,true)],[n3 i,fu [fF (s.cv i)]],.ret (.bool false) (hL []) 0),([(!b,false)],[n3 i,fu [fF (s.cv i)]],.to .normal (qN s [(3,L (i+1))]))]:=by
 intro i hi;obtain rfl|rfl|rfl:i=0\/i=1\/i=2:=by omega
 all_goals exact G.W
abbrev x1:Bool:=decide (x<(-65536:Int))
abbrev x2:Bool:=decide (x>(65536:Int))
theorem ana:∀i,i<9->H (M ek []) [(29,.split),(35,.split),(42,.split),(49,.split)] 0 Tryz.f114 [1,5] aes (qN s [(5,L i)]) [([(x1 (s.to.at i),true)],[n9 i],.ret (.bool false) (hL []) 0),([(x1 (s.to.at i),false),(x2 (s.to.at i),true)],[n9 i,n9 i],.ret (.bool false) (hL []) 0),([(x1 (s.to.at i),false),(x2 (s.to.at i),false),(x1 (s.T.at i),true)],[n9 i,n9 i,n9 i],.ret (.bool false) (hL []) 0),([(x1 (s.to.at i),false),(x2 (s.to.at i),false),(x1 (s.T.at i),false),(x2 (s.T.at i),true)],[n9 i,n9 i,n9 i,n9 i],.ret (.bool false) (hL []) 0),([(x1 (s.to.at i),false),(x2 (s.to.at i),false),(x1 (s.T.at i),false),(x2 (s.T.at i),false)],[n9 i,n9 i,n9 i,n9 i],.to .normal (qN s [(5,L (i+1))]))]:=by
 intro i hi;obtain rfl|rfl|rfl|rfl|rfl|rfl|rfl|rfl|rfl:i=0\/i=1\/i=2\/i=3\/i=4\/i=5\/i=6\/i=7\/i=8:=by omega
 all_goals exact G.W
def prI(i j k:Nat)(a:Int):Int:=IntKind.i64.wrap (a+IntKind.i64.wrap (s.T.at (3*i+k)*s.to.at (3*k+j)))
theorem anb:∀i j k,i<3->j<3->k<3->H (M ek []) [] 0 Tryz.f114 [1,6,7,8,9] aev (qN s [(6,L i),(7,L j),(8,F a),(9,L k)]) [([],[n9 (3*i+k),n9 (3*k+j)],.to .normal (qN s [(6,L i),(7,L j),(8,F (prI s i j k a)),(9,L (k+1))]))]:=by
 intro i j k hi hj U;obtain rfl|rfl|rfl:i=0\/i=1\/i=2:=by omega
 all_goals obtain rfl|rfl|rfl:j=0\/j=1\/j=2:=by omega
 all_goals obtain rfl|rfl|rfl:k=0\/k=1\/k=2:=by omega
 all_goals exact G.W
end
set_option maxRecDepth 10000
def Y0(s:Sp)(i j:Nat):Nat->Int
 |0=>0
 |k+1=>prI s i j k (Y0 s i j k)
section
variable(s:Sp)(i j:Nat)
def fiI:Int:=bif (Int.ofNat i==Int.ofNat j)then IntKind.i64.wrap (Y0 s i j 3-16777216)else Y0 s i j 3
def Ad:Bool:=decide (fiI s i j< -32768)||decide (fiI s i j>32768)
def Gi:Bool:=(x1 (s.to.at i)||x2 (s.to.at i))||(x1 (s.T.at i)||x2 (s.T.at i))
end
def AT(s:Sp):Bool:=!((List.range 3).any fun i=>!jV (s.cv i))&&(!((List.range 9).any (Gi s))&& !((List.range 3).any fun i=>(List.range 3).any (Ad s i)))
structure NH(s:Sp):Prop where
 c0:s.c0.length<=1000000
 c1:s.c1.length<=1000000
 c2:s.c2.length<=1000000
theorem NH.cv{s:Sp}(h:NH s):∀i,(s.cv i).length<=1000000000
 |0=>bH h.c0 eX
 |1=>bH h.c1 eX
 |_+2=>bH h.c2 eX
section
variable{i:Nat}
theorem lt3:decide (Int.ofNat i<(3:Int))=true↔i<3:=⟨fun h=>cB.1 (aX h),fun h=>aT (cB.2 h)⟩
theorem ge3:decide (Int.ofNat i<(3:Int))=false↔3<=i:=⟨fun h=>by have:=bq h;simp only[gB]at this;omega,fun h=>aV (by simp only[gB];omega)⟩
theorem Dh(h:i<3):n3 i:=⟨bO _,cB.2 h⟩
theorem sB(h:i<9):n9 i:=⟨bO _,cB.2 h⟩
end
theorem ane(s:Sp)(hd:NH s):dV ak 114 [s.v] (.bool (AT s)):=by
 refine fc Tryz.func114 (fH 1 (be _) (amU s) all_nil ?_);refine dM dD (dM dD (gk (be _) eI (amV s) (dF (g0 ⟨all_nil,fun R dX=>?_⟩))));simp only[andThen];refine iz 0 3 (fun i=>qN s [(3,L i)]) (fun i=>!jV (s.cv i)) (ew.norm dX) (fun i hi hj Q' k1 k2 k3=>?_) (fun h1 R dX=>?_)
 . rcases bj i 3 with q|q
   . have fm:=A (Dh q) (eM (show fu [fF (s.cv i)]from rfl));refine gk (fk (c5D (s.cv i) (hd.cv i)) (be _)) (fun u _ _=>u= .bool (AT s)) (am9 s (jV (s.cv i)) i q) (dJ (g1 fun h=>⟨fm,?_⟩) (dF (g1 fun h=>⟨fm,fun R dX=>k1 q h R (ew.norm dX)⟩)));refine⟨aI V.bool (Eq.symm ?_),k3⟩;unfold AT;rw[qL (f:=fun i=>!jV (s.cv i)) q h];rfl
   . obtain rfl:i=3:=by omega
     exact gk (be _) eI (amW s) (dF (g0 ⟨all_nil,fun R dX=>k2 rfl R (ew.norm dX)⟩))
 simp only[andThen];refine dX _ _ ?_;refine dM dD (dM dD (gk (be _) eI (amX s) (dF (g0 ⟨all_nil,fun R dX=>?_⟩))));simp only[andThen];refine iz 2 9 (fun i=>qN s [(5,L i)]) (Gi s) (ew.norm dX) (fun i hi hj Q' k1 k2 k3=>?_) (fun C R dX=>?_)
 . rcases bj i 9 with q|q
   . have fm:=sB q;refine gk (be _) (fun u _ _=>u= .bool (AT s)) (ana s i q) ?_;have Y:Gi s i=true->AT s=false:=fun h=>by
      unfold AT;rw[qL (f:=Gi s) q h];simp
     repeat' (first|exact gU|refine dJ ?_ ?_)
     all_goals
      intro N;simp only[az,aF,bh,aL,bg]at N;refine⟨by repeat' (first|exact all_nil|refine A fm ?_),?_⟩
      first
      |exact⟨aI V.bool (Y (by simp only[Gi,N,cC,bR,bU,cW])).symm,k3⟩
      |exact fun R dX=>k1 q (by simp only[Gi,N,cC]) R (ew.norm dX)
   . obtain rfl:i=9:=by omega
     exact gk (be _) eI (amY s) (dF (g0 ⟨all_nil,fun R dX=>k2 rfl R (ew.norm dX)⟩))
 simp only[andThen];refine dX _ _ ?_;refine dM dD (dM dD (gk (be _) eI (amZ s) (dF (g0 ⟨all_nil,fun R dX=>?_⟩))));simp only[andThen];refine iz 4 3 (fun i=>qN s [(6,L i)]) (fun i=>(List.range 3).any (Ad s i)) (ew.norm dX) (fun i hi hj Q' k1 k2 k3=>?_) (fun h3 R dX=>?_)
 . refine qv (be _) eI (am2 s i) (dJ (g1 fun h=>⟨all_nil,?_⟩) (dF (g1 fun h=>⟨all_nil,fun R dX=>k2 (by have:=ge3.1 h;omega) R (ew.norm dX)⟩)));have q:=lt3.1 h;refine dM dD (fL (i:=5) dD (dM dD (gk (be _) eI (am1 s i) (dF (g0 ⟨all_nil,fun R dX=>?_⟩)))));simp only[andThen];refine iz 6 3 (fun j=>qN s [(6,L i),(7,L j)]) (Ad s i) (ew.norm dX) (fun j Bh hjj Q2 m1 m2 m3=>?_) (fun h4 R dX=>?_)
   . refine qv (be _) eI (am3 s i j) (dJ (g1 fun h=>⟨all_nil,?_⟩) (dF (g1 fun h=>⟨all_nil,fun R dX=>m2 (by have:=ge3.1 h;omega) R (ew.norm dX)⟩)));have qj:=lt3.1 h;refine dM dD (fL (i:=7) dD (dM dD (gk (be _) eI (am4 s i j) (dF (g0 ⟨all_nil,fun R dX=>?_⟩)))));simp only[andThen];refine fQ dX ?_;refine dM dD (dM dD (gk (be _) eI (am5 s i j 0) (dF (g0 ⟨all_nil,fun R dX=>?_⟩))));simp only[andThen];refine iz 8 3 (fun k=>qN s [(6,L i),(7,L j),(8,F (Y0 s i j k)),(9,L k)]) (fun _=>false) (ew.norm dX) (fun k U HM Q3 o1 o2 o3=>?_) (fun h5 R dX=>?_)
     . rcases bj k 3 with qk|qk
       . exact gk (be _) eI (anb s (Y0 s i j k) i j k q qj qk) (dF (g0 ⟨A (sB S) (eM (sB S)),fun R dX=>o1 qk rfl R (ew.norm dX)⟩))
       . obtain rfl:k=3:=by omega
         exact gk (be _) eI (aew s i j _) (dF (g0 ⟨all_nil,fun R dX=>o2 rfl R (ew.norm dX)⟩))
     simp only[andThen];refine dX _ _ ?_;have Y:Ad s i j=true->AT s=false:=fun h=>by
      unfold AT;rw[qL (f:=fun i=>(List.range 3).any (Ad s i)) q (qL (f:=Ad s i) qj h)];simp
     refine gk (be _) (fun u _ _=>u= .bool (AT s)) (am6 s i j (Y0 s i j 3)) ?_
     repeat' (first|exact gU|refine dJ ?_ ?_)
     all_goals
      intro N;simp only[az,aF,bh,aL,bg]at N;refine⟨all_nil,?_⟩
      first
      |exact⟨aI V.bool (Y (by simp only[Ad,fiI,N,cond_true,cond_false,cC,bR,bU,cW])).symm,fun R h=>m3 R (k3 R h)⟩
      |exact fun R dX=>by
        simp only[gZ,andThen];exact fQ dX (gk (be _) eI (am7 s i j) (dF (g0 ⟨eM (gK S),fun R dX=>m1 qj (by simp only[Ad,fiI,N,cond_true,cond_false,cC]) R (ew.norm dX)⟩)))
   simp only[gZ,andThen];refine dX _ _ (gk (be _) eI (am8 s i) (dF (g0 ⟨eM (gK S),fun R dX=>k1 q (qM h4) R (ew.norm dX)⟩)))
 simp only[andThen];refine dX _ _ (eR (be _) (am0 s) (dF (g0 ⟨all_nil,_,_,_,rfl,aI V.bool (Eq.symm ?_)⟩)));unfold AT;rw[qM h1,qM C,qM h3];rfl
set_option maxRecDepth 10000
def df(e i:Int):V:=.agg [F e,F i]
noncomputable abbrev yF:Code:=dL Tryz.f85
noncomputable abbrev aex:Code:=dA 1 yF
noncomputable abbrev Ub:Code:=dY aex
noncomputable abbrev Y1:Code:=dA 1 (dY Ub)
noncomputable abbrev Y2:Code:=dY Y1
noncomputable abbrev anf:Code:=dK (dK (dY (dI Ub)))
noncomputable abbrev ang:Code:=dK (dK (dY (dI Y1)))
def mWh(d:Dc):I es:=hL [(0,.cells d.cs),(1,.cells [F 0,F 0])]
def D7(d:Dc)(r:List (Nat×V)):St:=fB ([(1,.ptr (some (0,0))),(2,.ptr (some (1,0)))]++r) (mWh d) 2
theorem Y3(d:Dc):H (M ek []) [] 0 Tryz.f85 [1,2] (dU 1 yF) (dB [d.v] .nil 0) [([],[],eu (D7 d []))]:=G.W
theorem Y4(d:Dc):H (M ek []) [(12,.split),(17,.split),(22,.split),(27,.split)] 0 Tryz.f85 [1,2] (dI aex) (D7 d []) (ac3 (decide ((Int.ofNat d.sp.length)>(8:Int))) (decide ((Int.ofNat d.ly.length)>(40:Int))) (decide (d.nx<(1:Int))) (decide (d.nx>(1048576:Int))) ([],.ret (.agg [.int .i64 2,.int .i64 0]) (hL []) 0) ([],eu (D7 d []))):=G.W
theorem Y5(d:Dc):H (M ek []) [] 0 Tryz.f85 [1,2,3] (dI (dI Ub)) (D7 d []) [([],[],eu (D7 d [(3,L 0)]))]:=G.W
abbrev QX(s:Sp):Prop:=V.jJ ([]++[V.agg (List.take 21 (List.drop 0 (D.fU s.ds)))]++[])=[s.v]
theorem Y6(d:Dc)(i:Nat)(s:Sp)(b:Bool):H (M (fa 114 [s.v] (.bool b) ek) []) [(34,.split),(40,.dG (.dS s.ds)),(43,.split),(36,.dG (L (i+1)))] 0 Tryz.f85 [1,2,3] (anf) (D7 d [(3,L i)]) (si (decide (Int.ofNat i<(Int.ofNat d.sp.length))) b ([fR i d.sp.length,(jy d.sp).length=d.sp.length*21,gG (jy d.sp) i 21 s.ds,QX s,oH i],eu (D7 d [(3,L (i+1))])) ([fR i d.sp.length,(jy d.sp).length=d.sp.length*21,gG (jy d.sp) i 21 s.ds,QX s],.ret (.agg [.int .i64 23,.int .i64 0]) (hL []) 0) ([],.to (.exit 0) (D7 d [(3,L i)]))):=G.W
theorem Y7(d:Dc)(i:Nat):H (M ek []) [] 0 Tryz.f85 [1,2,5,6] (dU 1 (dY Ub)) (D7 d [(3,L i)]) [([],[],eu (D7 d [(5,F 0)]))]:=G.W
theorem Y8(d:Dc):H (M ek []) [] 0 Tryz.f85 [1,2,5,6] (dI (dI Y1)) (D7 d [(5,F 0)]) [([],[],eu (D7 d [(5,F 0),(6,L 0)]))]:=G.W
theorem Uc(d:Dc)(i:Nat)(p:Int)(x:eJ):H (M ek []) [(50,.split),(56,.dG (.dS x.ds)),(61,.split),(66,.split),(52,.dG (L (i+1)))] 0 Tryz.f85 [1,2,5,6] (ang) (D7 d [(5,F p),(6,L i)]) [([(decide (Int.ofNat i<(Int.ofNat d.ly.length)),true),(decide (x.id<=p),true)],[fR i d.ly.length,nE d.ly,gG (fD d.ly) i 31 x.ds],.ret (.agg [.int .i64 40,.int .i64 (x.id)]) (hL []) 0),([(decide (Int.ofNat i<(Int.ofNat d.ly.length)),true),(decide (x.id<=p),false),(decide (x.id>=d.nx),true)],[fR i d.ly.length,nE d.ly,gG (fD d.ly) i 31 x.ds],.ret (.agg [.int .i64 40,.int .i64 (x.id)]) (hL []) 0),([(decide (Int.ofNat i<(Int.ofNat d.ly.length)),true),(decide (x.id<=p),false),(decide (x.id>=d.nx),false)],[fR i d.ly.length,nE d.ly,gG (fD d.ly) i 31 x.ds,oH i],eu (D7 d [(5,F x.id),(6,L (i+1))])),([(decide (Int.ofNat i<(Int.ofNat d.ly.length)),false)],[],.to (.exit 2) (D7 d [(5,F p),(6,L i)]))]:=G.W
theorem anh(d:Dc)(a p:Int)(i:Nat):H (M (fa 24 [d.v,F d.root] (F a) ek) []) [] 0 Tryz.f85 [1,2,8] (dU 1 Y2) (D7 d [(5,F p),(6,L i)]) [([],[V.jJ ([]++[V.agg (List.take 4 (List.drop 0 d.cs)),F d.root]++[])=[d.v,F d.root]],eu (D7 d [(8,F a)]))]:=G.W
theorem Y9(d:Dc):H (M ek []) [] 0 Tryz.f85 [] (dA 1 Y2) (D7 d [(8,F (-1))]) [([],[],.ret (.agg [.int .i64 40,.int .i64 (d.root)]) (hL []) 0)]:=G.W
theorem Za(d:Dc)(n:Nat)(x:eJ):H (M ek []) [(81,.dG (.dS x.ds)),(76,.dG (.bool false)),(84,.split)] 0 Tryz.f85 [] (dA 1 Y2) (D7 d [(8,L n)]) (fP (x.kd !=(2:Int)) ([lu (decide (Int.ofNat n<(0:Int))),fR n d.ly.length,nE d.ly,gG (fD d.ly) n 31 x.ds],.ret (.agg [.int .i64 40,.int .i64 (d.root)]) (hL []) 0) ([lu (decide (Int.ofNat n<(0:Int))),fR n d.ly.length,nE d.ly,gG (fD d.ly) n 31 x.ds],.ret (.agg [.int .i64 0,.int .i64 0]) (hL []) 0)):=G.W
set_option maxRecDepth 10000
def D8:Sp:=⟨[],[],[],⟨0,0,0,0,0,0,0,0,0⟩,⟨0,0,0,0,0,0,0,0,0⟩⟩
theorem L0(x:Sp):x.ds.length=21:=rfl
theorem mw(l:List Sp):(jy l).length=l.length*21:=sk (f:=Sp.ds) L0 l
theorem BB{l:List Sp}{i:Nat}(h:i<l.length):V.dS (dO (jy l) (i*21) 21)= .dS (l.getD i D8).ds:=by
 rw[ax,au h];exact aI V.dS (su (f:=Sp.ds) L0 l i h)
def lQ(f:Nat->Bool)(n:Nat):Option Nat:=(List.range n).find? f
section
variable{f:Nat->Bool}{n i:Nat}
theorem jq(hi:i<n)(h:f i=true)(hj:∀j,j<i->f j=false):lQ f n=some i:=by
 unfold lQ;rw[List.find?_range_eq_some];exact⟨h,bN.2 hi,fun j q=>by rw[hj j q];rfl⟩
theorem gL(hj:∀j,j<n->f j=false):lQ f n=none:=by
 unfold lQ;rw[List.find?_eq_none];intro x J;rw[hj x (bN.1 J)];simp
theorem Ud(h:lQ f n=some i):i<n/\f i=true/\∀j,j<i->f j=false:=by
 unfold lQ at h;rw[List.find?_range_eq_some]at h;exact⟨bN.1 h.2.1,h.1,fun j q=>by simpa using h.2.2 j q⟩
theorem pq(h:lQ f n=none):∀j,j<n->f j=false:=by
 unfold lQ at h;rw[List.find?_eq_none]at h;intro j q;simpa using h j (bN.2 q)
end
def Dc.at(d:Dc)(i:Nat):eJ:=d.ly.getD i gv
def vc(d:Dc):Nat->Int
 |0=>0
 |i+1=>(d.at i).id
def tJ(d:Dc)(i:Nat):Bool:=decide ((d.at i).id<=vc d i)||decide ((d.at i).id>=d.nx)
def xn(d:Dc):Bool:=((decide ((Int.ofNat d.sp.length)>(8:Int))||decide ((Int.ofNat d.ly.length)>(40:Int)))||decide (d.nx<(1:Int)))||decide (d.nx>(1048576:Int))
def mK(d:Dc):Bool:=match jK d.ly d.root with
 |some i=>(d.at i).kd !=2
 |none=>true
def iI(d:Dc):Int×Int:=if xn d=true then(2,0)else match lQ (fun i=>!AT (d.sp.getD i D8)) d.sp.length with
 |some _=>(23,0)
 |none=>match lQ (tJ d) d.ly.length with
  |some i=>(40,(d.at i).id)
  |none=>if mK d=true then(40,d.root)else(0,0)
def Ot(p:Int×Int):V:=df p.1 p.2
theorem Zb(d:Dc)(hd:IP d)(hs:∀s∈d.sp,NH s):dV ak 85 [d.v] (Ot (iI d)):=by
 refine fc Tryz.func85 (fH 1 (be _) (Y3 d) all_nil ?_);refine qv (be _) (fun u _ _=>u=Ot (iI d)) (Y4 d) ?_;have SY:xn d=true->iI d=(2,0):=fun h=>by unfold iI;rw[aD h]
 repeat' (first|exact gU|refine dJ ?_ ?_)
 all_goals
  intro N;simp only[az,aF,bh,aL,bg]at N;refine⟨all_nil,?_⟩
  first
  |exact⟨by rw[SY (by simp only[xn,N,cC,bR,bU,cW])];rfl,fun _ h=>h⟩
  |skip
 have Y:xn d=false:=by simp only[xn,N,cC]
 have Ca:d.sp.length<=8:=by have:=bq N.1;simp only[gB]at this;omega
 have AS:d.ly.length<=40:=by have:=bq N.2.1;simp only[gB]at this;omega
 refine dM dD (dM dD (gk (be _) eI (Y5 d) (dF (g0 ⟨all_nil,fun R dX=>?_⟩))));simp only[andThen];refine iz 0 d.sp.length (fun i=>D7 d [(3,L i)]) (fun i=>!AT (d.sp.getD i D8)) (ew.norm dX) (fun i hi hj Q' k1 k2 k3=>?_) (fun h1 R dX=>?_)
 . have J:=fun h=>BB (l:=d.sp) (i:=i) h;generalize Ue:d.sp.getD i D8=x at *;have K:NH x:=by
    rw[<- Ue,ax];cases hg:d.sp[i]? with
    |none=>exact⟨aN _,aN _,aN _⟩
    |some y=>exact hs y (List.mem_of_getElem? hg)
   refine gk (fk (ane x K) (be _)) (fun u _ _=>u=Ot (iI d)) (Y6 d i x (AT x)) (dJ (g2 fun h1 C=>⟨A (iT (j9 h1)) (A (mw _) (A (J (j9 h1)) (A rfl (eM (gK (by have:=j9 h1;omega)))))),fun R dX=>k1 (j9 h1) (by rw[C];rfl) R (ew.norm dX)⟩) (dJ (g2 fun h1 C=>⟨A (iT (j9 h1)) (A (mw _) (A (J (j9 h1)) (eM rfl))),?_,k3⟩) (dF (g1 fun h1=>⟨all_nil,fun R dX=>k2 (by have:=qZ h1;omega) R (ew.norm dX)⟩))));unfold iI;rw[Y,aA eX,jq (i:=i) (j9 h1) (by rw[Ue,C];rfl) hj];rfl
 simp only[andThen];refine dX _ _ ?_;refine fH 1 (be _) (Y7 d d.sp.length) all_nil ?_;refine dM dD (dM dD (gk (be _) eI (Y8 d) (dF (g0 ⟨all_nil,fun R dX=>?_⟩))));simp only[andThen];have hw:∀o,lQ (tJ d) d.ly.length=o->iI d=match o with
  |some i=>(40,(d.at i).id)
  |none=>if mK d=true then(40,d.root)else(0,0):=fun o e=>by
  unfold iI;rw[Y,aA eX,gL h1,e]
 refine iz 2 d.ly.length (fun i=>D7 d [(5,F (vc d i)),(6,L i)]) (tJ d) (ew.norm dX) (fun i hi hj Q' k1 k2 k3=>?_) (fun C R dX=>?_)
 . refine gk (be _) (fun u _ _=>u=Ot (iI d)) (Uc d i (vc d i) (d.at i)) ?_;refine(dJ (g2 fun h1 C=>⟨A (iT (j9 h1)) (A (fE _) (eM (iu (j9 h1)))),?_,k3⟩) (dJ (g3 fun h1 C h3=>⟨A (iT (j9 h1)) (A (fE _) (eM (iu (j9 h1)))),?_,k3⟩) (dJ (g3 fun h1 C h3=>⟨A (iT (j9 h1)) (A (fE _) (A (iu (j9 h1)) (eM (gK (by have:=j9 h1;omega))))),fun R dX=>k1 (j9 h1) (by unfold tJ;rw[C,h3];rfl) R (ew.norm dX)⟩) (dF (g1 fun h1=>⟨all_nil,fun R dX=>k2 (by have:=qZ h1;omega) R (ew.norm dX)⟩)))))
   . rw[hw _ (jq (i:=i) (j9 h1) (by unfold tJ;rw[C];rfl) hj)];rfl
   . rw[hw _ (jq (i:=i) (j9 h1) (by unfold tJ;rw[C,h3];rfl) hj)];rfl
 simp only[andThen];refine dX _ _ ?_;have hw:=hw _ (gL C);simp only at hw;have hA:=YC d d.root hd.ly;refine fH 1 (fk hA (be _)) (anh d (xl d.ly d.root) (vc d d.ly.length) d.ly.length) (eM rfl) ?_;cases hn:jK d.ly d.root with
 |none=>
  have ha:xl d.ly d.root= -1:=by unfold xl;rw[hn]
  have hr:mK d=true:=by unfold mK;rw[hn]
  rw[ha];exact eR (be _) (Y9 d) (dF (g0 ⟨all_nil,_,_,_,rfl,by rw[hw,hr];rfl⟩))
 |some n=>
  have ha:xl d.ly d.root=Int.ofNat n:=by unfold xl;rw[hn]
  obtain⟨eY,_,_⟩:=jv hn;have hr:mK d=((d.at n).kd !=2):=by unfold mK;rw[hn]
  rw[ha];have fm:=A (show V.bool (decide (Int.ofNat n<(0:Int)))=V.bool false from aI V.bool (aV (by simp only[gB];omega))) (A (iT eY) (A (fE d.ly) (eM (iu eY))));exact eR (be _) (Za d n (d.at n)) (dJ (g1 fun h1=>⟨fm,_,_,_,rfl,by rw[hw,hr,h1];rfl⟩) (dF (g1 fun h1=>⟨fm,_,_,_,rfl,by rw[hw,hr,h1];rfl⟩)))
set_option maxRecDepth 10000
def Gj(m a:Int):Int:=if a>m then a else m
noncomputable abbrev aey:Code:=dL Tryz.f52
noncomputable abbrev Uf:Code:=dA 2 aey
noncomputable abbrev Ug:Code:=dA 1 (dY Uf)
noncomputable abbrev Zc:Code:=dA 2 (dY Ug)
noncomputable abbrev bDp:Code:=dK (dK (dY (dI Zc)))
def L3(d:Dc)(r:List (Nat×V)):St:=fB ([(2,.ptr (some (0,0)))]++r) (hL [(0,.cells d.cs)]) 1
def sDx(d:Dc)(x:eJ)(r:List (Nat×V)):St:=fB ([(2,.ptr (some (0,0))),(6,.ptr (some (1,0)))]++r) (hL [(0,.cells d.cs),(1,.cells x.cs)]) 2
theorem ani(d:Dc)(id a:Int):H (M (fa 24 [d.v,F id] (F a) ek) []) [] 0 Tryz.f52 [2,5] (dU 2 aey) (dB [d.v,F id] .nil 0) [([],[V.jJ ([]++[V.agg (List.take 4 (List.drop 0 d.v.cells)),F id]++[])=[d.v,F id]],eu (L3 d [(5,F a)]))]:=G.W
theorem anj(d:Dc):H (M ek []) [] 0 Tryz.f52 [] (dI Uf) (L3 d [(5,F (-1))]) [([],[],.ret (.int .i64 0) (hL []) 0)]:=G.W
theorem ank(d:Dc)(n:Nat):H (M ek []) [(14,.dG (.bool false))] 0 Tryz.f52 [2,5] (dI Uf) (L3 d [(5,L n)]) [([],[lu (decide (Int.ofNat n<(0:Int)))],eu (L3 d [(5,L n)]))]:=G.W
theorem anl(d:Dc)(n:Nat)(x:eJ):H (M ek []) [(18,.dG (.dS x.ds))] 0 Tryz.f52 [2,6] (dU 1 (dY Uf)) (L3 d [(5,L n)]) [([],[fR n d.ly.length,nE d.ly,gG (fD d.ly) n 31 x.ds],eu (sDx d x []))]:=G.W
theorem anm(d:Dc)(x:eJ):H (M ek []) [(22,.split),(26,.split)] 0 Tryz.f52 [2,6] (dI Ug) (sDx d x []) (CW (x.kd !=(2:Int)) (x.kd !=(4:Int)) ([],.ret (.int .i64 0) (hL []) 0) ([],eu (sDx d x []))):=G.W
theorem ann(d:Dc)(x:eJ)(ps:List Int):H (M (fa 98 [x.v] (fF ps) ek) []) [] 0 Tryz.f52 [2,7,8] (dU 2 (dY Ug)) (sDx d x []) [([],[V.jJ ([]++[V.agg (List.take 31 (List.drop 0 x.cs))]++[])=[x.v]],eu (L3 d [(7,F 0),(8,fF ps)]))]:=G.W
theorem ano(d:Dc)(ps:List Int):H (M ek []) [] 0 Tryz.f52 [2,7,8,9] (dI (dI Zc)) (L3 d [(7,F 0),(8,fF ps)]) [([],[],eu (L3 d [(7,F 0),(8,fF ps),(9,L 0)]))]:=G.W
theorem anp(d:Dc)(ps:List Int)(i:Nat)(m p a:Int):H (M (fa 52 [d.v,F p] (F a) ek) []) [(33,.dG (.bool true)),(40,.dG (.dS [.int .i64 p])),(35,.dG (L (i+1)))] 0 Tryz.f52 [2,7,8,9] (bDp) (L3 d [(7,F m),(8,fF ps),(9,L i)]) [([],[kO (decide (Int.ofNat i<(Int.ofNat ps.length))),fR i ps.length,jC ps,gG (eG ps) i 1 [D.int B p],V.jJ ([]++[V.agg (List.take 4 (List.drop 0 d.cs)),D.kH._f (D.int B p) PUnit.unit]++[])=[d.v,F p],oH i],eu (L3 d [(7,F (Gj m a)),(8,fF ps),(9,L (i+1))]))]:=G.W
theorem aeA(d:Dc)(ps:List Int)(i:Nat)(m:Int):H (M ek []) [(33,.dG (.bool false))] 0 Tryz.f52 [2,7,8,9] (bDp) (L3 d [(7,F m),(8,fF ps),(9,L i)]) [([],[lu (decide (Int.ofNat i<(Int.ofNat ps.length)))],.to (.exit 0) (L3 d [(7,F m),(8,fF ps),(9,L i)]))]:=G.W
theorem anq(d:Dc)(ps:List Int)(i:Nat)(m:Int):H (M ek []) [] 0 Tryz.f52 [] (dY Zc) (L3 d [(7,F m),(8,fF ps),(9,L i)]) [([],[],.ret (.int .i64 (IntKind.i64.wrap (m+(1:Int)))) (hL []) 0)]:=G.W
set_option maxRecDepth 10000
def kn(ls:List eJ):Nat->Int->Int
 |0,_=>0
 |k+1,id=>match jK ls id with
  |none=>0
  |some n=>if((ls.getD n gv).kd !=2&&(ls.getD n gv).kd !=4)=true then 0 else(gA (ls.getD n gv)).foldl (fun m p=>Gj m (kn ls k p)) 0+1
def isK(x:eJ):Bool:=!(x.kd !=2&&x.kd !=4)
def KI(ls:List eJ)(rk:Int->Nat):Prop:=∀id n,jK ls id=some n->isK (ls.getD n gv)=true->∀p∈gA (ls.getD n gv),rk p<rk id
theorem Di{l:List Int}{f:Int->Int}{b:Int}(h:∀p∈l,f p<=b):∀m,m<=b->l.foldl (fun m p=>Gj m (f p)) m<=b:=by
 induction l with
 |nil=>intro m K;exact K
 |cons x l ih=>
  intro m K;rw[List.foldl_cons];refine ih (fun p hp=>h p (aZ _ hp)) _ ?_;unfold Gj;split
  . exact h x (bw ..)
  . exact K
theorem IY{l:List Int}{f:Int->Int}:∀m,m<=l.foldl (fun m p=>Gj m (f p)) m:=by
 induction l with
 |nil=>intro m;exact Int.le_refl _
 |cons x l ih=>
  intro m;rw[List.foldl_cons];refine Int.le_trans ?_ (ih _);unfold Gj;split<;>omega
theorem Gk(ls:List eJ):∀k id,kn ls k id<=Int.ofNat k
 |0,_=>Int.le_refl _
 |k+1,id=>by
  unfold kn;split
  . exact bO _
  . split
    . exact bO _
    . rename_i n _ _;have:=Di (l:=gA (ls.getD n gv)) (f:=kn ls k) (b:=Int.ofNat k) (fun p _=>Gk ls k p) 0 (bO _);simp only[gB]at this ⊢;refine Int.le_trans (Int.add_le_add_right this 1) S
theorem Zd(d:Dc)(hd:IP d)(rk:Int->Nat)(hrk:KI d.ly rk):∀k,k<=1000->∀id,rk id<k->dV ak 52 [d.v,F id] (F (kn d.ly k id)):=by
 intro k
 induction k with
 |zero=>intro _ id h;exact absurd h (bL _)
 |succ k ih=>
  intro U id h;have hA:=YC d id hd.ly;refine fc Tryz.func52 (fH 2 (fk hA (be _)) (ani d id (xl d.ly id)) (eM rfl) ?_);cases hn:jK d.ly id with
  |none=>
   have ha:xl d.ly id= -1:=by unfold xl;rw[hn]
   have hv:kn d.ly (k+1) id=0:=by unfold kn;rw[hn]
   rw[ha];exact qv (be _) (fun u _ _=>u=F (kn d.ly (k+1) id)) (anj d) (dF (g0 ⟨all_nil,by rw[hv],fun _ h=>h⟩))
  |some n=>
   have ha:xl d.ly id=Int.ofNat n:=by unfold xl;rw[hn]
   obtain⟨eY,hid,_⟩:=jv hn;generalize J:d.ly.getD n gv=x at *;have hv:kn d.ly (k+1) id=if(x.kd !=2&&x.kd !=4)=true then 0 else(gA x).foldl (fun m p=>Gj m (kn d.ly k p)) 0+1:=by
    rw[kn,hn];simp only;rw[J]
   rw[ha];refine qv (be _) eI (ank d n) (dF (g0 ⟨eM (aI V.bool (aV (by simp only[gB];omega))),?_⟩));refine fH 1 (be _) (anl d n x) (A (iT eY) (A (fE _) (eM (by rw[<- J];exact iu eY)))) ?_;have vO:(x.kd !=2&&x.kd !=4)=false->TG ak 0 Tryz.f52.ntmps (dY Ug) (sDx d x []) (fV ak 0 Tryz.f52 fun u _ _=>u=F (kn d.ly (k+1) id)):=fun N=>by
    rw[hv,N,aA eX];have hp:∀p∈gA x,rk p<k:=fun p hp=>by
     have:=hrk id n hn (by unfold isK;rw[J,N];rfl) p (by rw[J];exact hp);omega
    have hl:(gA x).length<=1000000:=by
     have K:x∈d.ly:=by rw[<- J,ax,au eY];exact bJ eY
     unfold gA;split
     . simp
     . exact hd.kids x K
    refine fH 2 (fk (QD x) (be _)) (ann d x (gA x)) (eM rfl) ?_;generalize gA x=ps at *;refine dM dD (dM dD (gk (be _) eI (ano d ps) (dF (g0 ⟨all_nil,fun R dX=>?_⟩))));simp only[andThen];refine iz 0 ps.length (fun i=>L3 d [(7,F ((ps.take i).foldl (fun m p=>Gj m (kn d.ly k p)) 0)),(8,fF ps),(9,L i)]) (fun _=>false) (ew.norm dX) (fun i hi hj Q' m1 m2 m3=>?_) (fun h1 R dX=>?_)
    . rcases bj i ps.length with q|q
      . have hg:=gi (l:=ps) q;have K:ps.getD i 0∈ps:=by rw[ax,au q];exact bJ q
        have ht:(ps.take (i+1)).foldl (fun m p=>Gj m (kn d.ly k p)) 0=Gj ((ps.take i).foldl (fun m p=>Gj m (kn d.ly k p)) 0) (kn d.ly k (ps.getD i 0)):=by
         rw[bY,getD_some 0 q,Option.toList_some,List.foldl_append];rfl
        refine gk (fk (ih S (ps.getD i 0) (hp _ K)) (be _)) eI (anp d ps i _ (ps.getD i 0) (kn d.ly k (ps.getD i 0))) (dF (g0 ⟨A (aI V.bool (aT (cB.2 q))) (A (iT q) (A (eK ps) (A hg (A rfl (eM (gK S)))))),fun R dX=>m1 q rfl R ?_⟩));rw[ht];exact ew.norm dX
      . obtain rfl:i=ps.length:=by omega
        exact gk (be _) eI (aeA d ps _ _) (dF (g0 ⟨eM (aI V.bool (aV (by simp only[gB];omega))),fun R dX=>m2 rfl R (ew.norm dX)⟩))
    simp only[andThen];refine dX _ _ (eR (be _) (anq d ps ps.length _) (dF (g0 ⟨all_nil,_,_,_,rfl,?_⟩)));rw[bn];have C:=Di (l:=ps) (f:=kn d.ly k) (b:=Int.ofNat k) (fun p _=>Gk d.ly k p) 0 (bO _);have h3:=IY (l:=ps) (f:=kn d.ly k) 0;generalize ps.foldl (fun m p=>Gj m (kn d.ly k p)) 0=z at C h3 ⊢;exact aI (V.int .i64) (ij S (by simp only[gB]at C;omega))
   refine qv (be _) (fun u _ _=>u=F (kn d.ly (k+1) id)) (anm d x) (dJ (g2 fun h1 C=>⟨all_nil,by rw[hv,h1,C];rfl,fun _ h=>h⟩) (dJ (g2 fun h1 C=>⟨all_nil,vO (by rw[h1,C];rfl)⟩) (dF (g1 fun h1=>⟨all_nil,vO (by rw[h1];rfl)⟩))))
set_option maxRecDepth 10000
noncomputable abbrev aeB:Code:=dL Tryz.f39
noncomputable abbrev aeC:Code:=dA 2 aeB
noncomputable abbrev Ze:Code:=dY aeC
noncomputable abbrev Zf:Code:=dY Ze
noncomputable abbrev Zg:Code:=dY Zf
noncomputable abbrev Zh:Code:=dY Zg
noncomputable abbrev ans:Code:=dY Zh
noncomputable abbrev ant:Code:=dK (dK (dY (dI Ze)))
noncomputable abbrev anu:Code:=dK (dK (dY (dI Zf)))
noncomputable abbrev aeD:Code:=dK (dK (dY (dI Zg)))
noncomputable abbrev anv:Code:=dK (dK (dY (dI Zh)))
def xD(d:Dc)(r:List (Nat×V)):St:=fB ([(1,.ptr (some (0,0))),(2,.ptr (some (1,0)))]++r) (hL [(0,.cells d.cs),(1,.cells [F 0,F 0])]) 2
def sCw(d:Dc)(e i:Int):St:=fB [(1,.ptr (some (0,0))),(2,.ptr (some (1,0))),(3,.ptr (some (2,0)))] (hL [(0,.cells d.cs),(1,.cells [F 0,F 0]),(2,.cells [F e,F i])]) 3
theorem anw(d:Dc)(e i:Int):H (M (fa 85 [d.v] (df e i) ek) []) [] 0 Tryz.f39 [1,2,3] (dU 2 aeB) (dB [d.v] .nil 0) [([],[V.jJ ([]++[V.agg (List.take 4 (List.drop 0 d.v.cells))]++[])=[d.v]],eu (sCw d e i))]:=G.W
theorem anx(d:Dc)(e i:Int):H (M ek []) [(15,.split)] 0 Tryz.f39 [1,2] (dI aeC) (sCw d e i) (fP (e !=(0:Int)) ([],.ret (.agg [.int .i64 e,.int .i64 i]) (hL []) 0) ([],eu (xD d []))):=G.W
theorem anz(d:Dc)(r:List (Nat×V)):H (M ek []) [] 0 Tryz.f39 [1,2,4] (dI (dI Ze)) (xD d []) [([],[],eu (xD d [(4,L 0)]))]:=G.W
abbrev QY(d:Dc)(x:eJ):Prop:=V.jJ ([]++[V.agg (List.take 4 (List.drop 0 d.cs)),V.agg (List.take 31 (List.drop 0 (D.fU x.ds)))]++[])=[d.v,x.v]
theorem anA(d:Dc)(i:Nat)(x:eJ)(e:Int):H (M (fa 86 [d.v,x.v] (F e) ek) []) [(21,.split),(28,.dG (.dS x.ds)),(37,.dG (.dS x.ds)),(32,.split),(23,.dG (L (i+1)))] 0 Tryz.f39 [1,2,4] (ant) (xD d [(4,L i)]) (si (decide (Int.ofNat i<(Int.ofNat d.ly.length))) (e !=(0:Int)) ([fR i d.ly.length,nE d.ly,gG (fD d.ly) i 31 x.ds,QY d x,fR i d.ly.length,nE d.ly,gG (fD d.ly) i 31 x.ds],.ret (.agg [.int .i64 e,.int .i64 (x.id)]) (hL []) 0) ([fR i d.ly.length,nE d.ly,gG (fD d.ly) i 31 x.ds,QY d x,oH i],eu (xD d [(4,L (i+1))])) ([],.to (.exit 0) (xD d [(4,L i)]))):=G.W
theorem anB(d:Dc)(j:Nat):H (M ek []) [] 0 Tryz.f39 [1,2,6] (dI (dI Zf)) (xD d [(4,L j)]) [([],[],eu (xD d [(6,L 0)]))]:=G.W
abbrev QZ(d:Dc)(x:eJ):Prop:=V.jJ ([]++[V.agg (List.take 4 (List.drop 0 d.cs)),V.agg (List.take 31 (List.drop 0 (D.fU x.ds)))]++[])=[d.v,x.v]
theorem anC(d:Dc)(i:Nat)(x:eJ)(b:Bool):H (M (fa 87 [d.v,x.v] (.bool b) ek) []) [(45,.split),(52,.dG (.dS x.ds)),(59,.dG (.dS x.ds)),(55,.split),(47,.dG (L (i+1)))] 0 Tryz.f39 [1,2,6] (anu) (xD d [(6,L i)]) (si (decide (Int.ofNat i<(Int.ofNat d.ly.length))) (!b) ([fR i d.ly.length,nE d.ly,gG (fD d.ly) i 31 x.ds,QZ d x,fR i d.ly.length,nE d.ly,gG (fD d.ly) i 31 x.ds],.ret (.agg [.int .i64 40,.int .i64 (x.id)]) (hL []) 0) ([fR i d.ly.length,nE d.ly,gG (fD d.ly) i 31 x.ds,QZ d x,oH i],eu (xD d [(6,L (i+1))])) ([],.to (.exit 2) (xD d [(6,L i)]))):=G.W
theorem anD(d:Dc)(j:Nat):H (M ek []) [] 0 Tryz.f39 [1,2,7] (dI (dI Zg)) (xD d [(6,L j)]) [([],[],eu (xD d [(7,L 0)]))]:=G.W
theorem anE(d:Dc)(i:Nat)(x:eJ):H (M (fa 24 [d.v,F x.of] (F (-1)) ek) []) [(67,.split),(73,.dG (.dS x.ds)),(81,.dG (.dS x.ds)),(99,.dG (.dS x.ds)),(76,.split),(69,.dG (L (i+1)))] 0 Tryz.f39 [1,2,7] (aeD) (xD d [(7,L i)]) (si (decide (Int.ofNat i<(Int.ofNat d.ly.length))) (x.kd==(4:Int)) ([fR i d.ly.length,nE d.ly,gG (fD d.ly) i 31 x.ds,fR i d.ly.length,nE d.ly,gG (fD d.ly) i 31 x.ds,V.jJ ([]++[V.agg (List.take 4 (List.drop 0 d.cs)),D.kH._f (D.int B x.of) PUnit.unit]++[])=[d.v,F x.of],fR i d.ly.length,nE d.ly,gG (fD d.ly) i 31 x.ds],.ret (.agg [.int .i64 40,.int .i64 (x.id)]) (hL []) 0) ([fR i d.ly.length,nE d.ly,gG (fD d.ly) i 31 x.ds,oH i],eu (xD d [(7,L (i+1))])) ([],.to (.exit 4) (xD d [(7,L i)]))):=G.W
abbrev Q0(d:Dc)(x:eJ):Prop:=V.jJ ([]++[V.agg (List.take 4 (List.drop 0 d.cs)),D.kH._f (D.int B x.of) PUnit.unit]++[])=[d.v,F x.of]
abbrev Q4(i:Nat):Prop:=V.int B (IntKind.i64.wrap (Int.ofNat i+(1:Int)))=L (i+1)
theorem anF(d:Dc)(i n:Nat)(x y:eJ):H (M (fa 24 [d.v,F x.of] (L n) ek) []) [(67,.split),(73,.dG (.dS x.ds)),(81,.dG (.dS x.ds)),(99,.dG (.dS x.ds)),(91,.dG (.dS y.ds)),(76,.split),(86,.dG (.bool false)),(94,.split),(69,.dG (L (i+1)))] 0 Tryz.f39 [1,2,7] (aeD) (xD d [(7,L i)]) (Nr (decide (Int.ofNat i<(Int.ofNat d.ly.length))) (x.kd==(4:Int)) (y.kd==(3:Int)) ([fR i d.ly.length,nE d.ly,gG (fD d.ly) i 31 x.ds,fR i d.ly.length,nE d.ly,gG (fD d.ly) i 31 x.ds,Q0 d x,lu (decide (Int.ofNat n<(0:Int))),fR n d.ly.length,nE d.ly,gG (fD d.ly) n 31 y.ds,fR i d.ly.length,nE d.ly,gG (fD d.ly) i 31 x.ds],.ret (.agg [.int .i64 40,.int .i64 (x.id)]) (hL []) 0) ([fR i d.ly.length,nE d.ly,gG (fD d.ly) i 31 x.ds,fR i d.ly.length,nE d.ly,gG (fD d.ly) i 31 x.ds,Q0 d x,lu (decide (Int.ofNat n<(0:Int))),fR n d.ly.length,nE d.ly,gG (fD d.ly) n 31 y.ds,Q4 i],eu (xD d [(7,L (i+1))])) ([fR i d.ly.length,nE d.ly,gG (fD d.ly) i 31 x.ds,Q4 i],eu (xD d [(7,L (i+1))])) ([],.to (.exit 4) (xD d [(7,L i)]))):=G.W
theorem anG(d:Dc)(j:Nat):H (M ek []) [] 0 Tryz.f39 [1,2,9] (dI (dI Zh)) (xD d [(7,L j)]) [([],[],eu (xD d [(9,L 0)]))]:=G.W
theorem anH(d:Dc)(i:Nat)(x:eJ)(r:List Int)(b:Bool):H (M (fa 56 [d.v,F x.id,.bool false] (fF r) (fa 55 [fF r,F x.id] (.bool b) ek)) []) [(107,.split),(113,.dG (.dS x.ds)),(120,.split),(109,.dG (L (i+1)))] 0 Tryz.f39 [1,2,9] anv (xD d [(9,L i)])
  (si (decide (Int.ofNat i<Int.ofNat d.ly.length)) b ([fR i d.ly.length,nE d.ly,gG (fD d.ly) i 31 x.ds,fu [d.v,F x.id,.bool false],fu [fF r,F x.id]],.ret (df 42 x.id) (hL []) 0) ([fR i d.ly.length,nE d.ly,gG (fD d.ly) i 31 x.ds,fu [d.v,F x.id,.bool false],fu [fF r,F x.id],oH i],eu (xD d [(9,L (i+1))])) ([],.to (.exit 6) (xD d [(9,L i)]))):=G.W
abbrev Q5(d:Dc):Prop:=V.jJ ([]++[V.agg (List.take 4 (List.drop 0 d.cs)),F d.root]++[])=[d.v,F d.root]
theorem anI(d:Dc)(j:Nat)(a:Int):H (M (fa 52 [d.v,F d.root] (F a) ek) []) [(127,.split)] 0 Tryz.f39 [] (ans) (xD d [(9,L j)]) (fP (decide (a>(6:Int))) ([Q5 d],.ret (.agg [.int .i64 43,.int .i64 (d.root)]) (hL []) 0) ([Q5 d],.ret (.agg [.int .i64 0,.int .i64 0]) (hL []) 0)):=G.W
set_option maxRecDepth 10000
theorem BC:∀{l m:List Int},l.Nodup->(∀x∈l,x∈m)->l.length<=m.length
 | [],_,_,_=>aN _
 |x::l,m,h,hs=>by
  rw[List.nodup_cons]at h;have h1:=BC (m:=m.erase x) h.2 fun y hy=>(List.mem_erase_of_ne (by rintro rfl;exact h.1 hy)).2 (hs y (aZ _ hy));have J:=hs x (bw ..);have C:=List.length_erase_of_mem J;have h3:0<m.length:=List.length_pos_of_mem J;rw[aR];omega
inductive Bm(st:Int->List Int):Int->Int->Prop
 |one {x y:Int}:y∈st x->Bm st x y
 |tail {x y z:Int}:Bm st x y->z∈st y->Bm st x z
section
variable(ls:List eJ){st:Int->List Int}(gj:Bool)(id:Int)
theorem Bm.trans{x y z:Int}(h1:Bm st x y)(C:Bm st y z):Bm st x z:=by
 induction C with
 |one h=>exact .tail h1 h
 |tail _ h ih=>exact .tail ih h
theorem Bm.head{x z:Int}(h:Bm st x z):∃y∈st x,y=z\/Bm st y z:=by
 induction h with
 |one h=>exact⟨_,h,.inl rfl⟩
 |tail _ h ih=>
  obtain⟨y,hy,hz⟩:=ih;refine⟨y,hy,.inr ?_⟩;rcases hz with rfl|hz
  . exact .one h
  . exact .tail hz h
theorem Uh{dN:Nat}{s' hk:List Int}{id:Int}(hM:∀y,(st y).length<=dN)(hU:∀y,∀z∈st y,z∈hk):∀(k:Nat) (l td za:List Int),Ua st dN s' hk k l td za->l.Nodup->(∀y∈l,Bm st id y)->(∀y∈td,Bm st id y)->(∀y∈st id,y∈l\/y∈td)->(∀x∈l,∀z∈st x,z∈l\/z∈td)->s'.Nodup/\∀y,y∈s'↔Bm st id y:=by
 intro k
 induction k with
 |zero=>intro l td za h;exact absurd h.fuel (bL _)
 |succ k ih=>
  intro l td za h hn hl ht hs N;cases td with
  |nil=>
   have e:l=s':=h.eq;subst e;refine⟨hn,fun y=>⟨hl y,fun q=>?_⟩⟩
   induction q with
   |one h=>exact(hs _ h).elim (fun q=>q) fun q=>by cases q
   |tail _ h ih=>exact(N _ ih _ h).elim (fun q=>q) fun q=>by cases q
  |cons x td=>
   cases J:l.contains x with
   |true=>
    obtain⟨j,e,h'⟩:=IW h J;obtain rfl:k=j:=by omega
    have K:x∈l:=cR.1 J;have f:∀y,y∈l\/y∈x::td->y∈l\/y∈td:=fun y q=>q.elim .inl fun q=>(az.1 q).elim (fun e=>.inl (e▸K)) .inr;exact ih l td za h' hn hl (fun y hy=>ht y (aZ _ hy)) (fun y hy=>f y (hs y hy)) fun y hy z hz=>f z (N y hy z hz)
   |false=>
    obtain⟨j,IX,e,_,h'⟩:=Gh hM hU h J;obtain rfl:k=j:=by omega
    have K:x∉l:=fun q=>by rw[<- cR]at q;rw[J]at q;cases q
    have hxr:=ht x (bw ..);have f:∀y,y∈l\/y∈x::td->y∈l++[x]\/y∈td++st x:=fun y q=>q.elim (fun q=>.inl (List.mem_append_left _ q)) fun q=>(az.1 q).elim (fun e=>.inl (List.mem_append_right _ (aG.2 e))) fun q=>.inr (List.mem_append_left _ q);refine ih (l++[x]) (td++st x) IX h' ?_ (fun y hy=>?_) (fun y hy=>?_) (fun y hy=>f y (hs y hy)) fun y hy z hz=>?_
    . rw[List.nodup_append];exact⟨hn,by simp,fun a ha b Y e=>K (by rw[aG]at Y;rw[<- Y,<- e];exact ha)⟩
    . rcases bf.1 hy with q|q
      . exact hl y q
      . rw[aG]at q;subst q;exact hxr
    . rcases bf.1 hy with q|q
      . exact ht y (aZ _ q)
      . exact .tail hxr q
    . rcases bf.1 hy with q|q
      . exact f z (N y q z hz)
      . rw[aG]at q;subst q;exact .inr (List.mem_append_right _ hz)
theorem lR:(kP ls gj id).Nodup/\∀y,y∈kP ls gj id↔Bm (iB ls gj) id y:=by
 have hN:=oA ls gj;refine Uh (fun y=>(hN y).2) (fun y=>(hN y).1) (vb ls) [] (iB ls gj id) (fZ ls) ⟨rfl,?_,by simp,fun y hy=>.inr hy,(hN id).1⟩ List.nodup_nil (fun _ h=>by cases h) (fun y hy=>.one hy) (fun y hy=>.inr hy) (fun _ h=>by cases h);have h1:=(hN id).2;have e:(fZ ls).length*(2*(fZ ls).length+1)+(fZ ls).length=(fZ ls).length*(2*(fZ ls).length+2):=by rw[Nat.mul_add,Nat.mul_add];omega
 unfold vb;omega
theorem Bm.names{ls:List eJ}{gj:Bool}{x y:Int}(h:Bm (iB ls gj) x y):y∈fZ ls:=by
 cases h with
 |one h=>exact(oA ls gj _).1 _ h
 |tail _ h=>exact(oA ls gj _).1 _ h
theorem qO:(kP ls gj id).length<=(fZ ls).length:=
 BC (lR ls gj id).1 fun y hy=>(((lR ls gj id).2 y).1 hy).names
theorem Dj{ls:List eJ}{gj:Bool}{id:Int}(h:jK ls id=none):iB ls gj id=[]:=by unfold iB;rw[h]
def EX:Prop:=∀x∈ls,(kP ls gj x.id).contains x.id=false
theorem anJ{ls:List eJ}{gj:Bool}(h:EX ls gj)(x:Int):¬Bm (iB ls gj) x x:=fun q=>by
 cases hn:jK ls x with
 |none=>
  obtain⟨y,hy,_⟩:=q.head;rw[Dj hn]at hy;cases hy
 |some n=>
  obtain⟨_,hid,K⟩:=jv hn;have h1:=h _ K;rw[hid]at h1;have C:=cR.2 (((lR ls gj x).2 x).2 q);rw[h1]at C;cases C
def Gl:Nat:=(kP ls gj id).length
theorem Q6{ls:List eJ}{gj:Bool}(h:EX ls gj){x y:Int}(hy:y∈iB ls gj x):Gl ls gj y<Gl ls gj x:=by
 have h1:=lR ls gj y;have C:=lR ls gj x;have:(y::kP ls gj y).length<=(kP ls gj x).length:=BC (List.nodup_cons.2 ⟨fun q=>anJ h y ((h1.2 y).1 q),h1.1⟩) fun z hz=>(C.2 z).2 (by
  rcases az.1 hz with rfl|q
  . exact .one hy
  . exact Bm.trans (.one hy) ((h1.2 z).1 q))
 exact this
theorem L4{ls:List eJ}(h:EX ls false):KI ls (Gl ls false):=fun id n hn _ p hp=>Q6 h (by unfold iB;rw[hn];exact List.mem_append_left _ hp)
def lH:List Int:=(ls.map (·.kids)).flatten
theorem BD(k:Int):mc ls k=(lH ls).count k:=by
 induction ls with
 |nil=>rfl
 |cons x ls ih=>
  have e:mc (x::ls) k=x.kids.count k+mc ls k:=by unfold mc;rw[bQ,List.sum_cons]
  have e2:lH (x::ls)=x.kids++lH ls:=rfl;rw[e,e2,List.count_append,ih]
theorem KJ:(fZ ls).length=ls.length+(lH ls).length:=by
 induction ls with
 |nil=>rfl
 |cons x ls ih=>
  have e:fZ (x::ls)=(x.of::x.kids)++fZ ls:=rfl;have e2:lH (x::ls)=x.kids++lH ls:=rfl;rw[e,e2,aH,aH,ih,aR,aR];omega
end
theorem Gm{d:Dc}{x:eJ}(h:rq d x=true){k:Int}(U:k∈x.kids):∃n,jK d.ly k=some n:=by
 unfold rq at h;rw[ay,bV]at h;have h1:=dc.1 h.1 k U;cases hn:jK d.ly k with
 |none=>rw[hn]at h1;exact absurd rfl h1
 |some n=>exact⟨n,rfl⟩
theorem Gn{d:Dc}{x:eJ}(h:rq d x=true):mc d.ly x.id=if x.id=d.root then 0 else 1:=by
 unfold rq at h;rw[ay,cg,ay,ay]at h;rcases h.2 with⟨h1,C⟩|⟨h1,C⟩
 . rw[aD (by simpa using h1)];have:=cm.1 C;simp only[gB]at this;omega
 . rw[aA (by simpa using h1)];have:=cm.1 C;simp only[gB]at this;omega
theorem qP{d:Dc}(h:∀x∈d.ly,rq d x=true):(fZ d.ly).length<=2*d.ly.length:=by
 have qx:∀k∈lH d.ly,k∈d.ly.map (·.id):=fun k U=>by
  obtain⟨ks,HV,U⟩:=List.mem_flatten.1 U;obtain⟨x,J,rfl⟩:=bS.1 HV;obtain⟨n,hn⟩:=Gm (h x J) U;obtain⟨_,hid,K⟩:=jv hn;exact bS.2 ⟨_,K,hid⟩
 have hnd:(lH d.ly).Nodup:=by
  rw[List.nodup_iff_count];intro k;by_cases U:k∈lH d.ly
  . obtain⟨x,J,rfl⟩:=bS.1 (qx k U);rw[<- BD,Gn (h x J)];split<;>omega
  . rw[List.count_eq_zero_of_not_mem U];omega
 have:=BC hnd qx;rw[bG]at this;rw[KJ];omega
set_option maxRecDepth 10000
def Dk(d:Dc)(x:eJ):Bool:=(x.kd==4)&&match jK d.ly x.of with
 |some m=>(d.at m).kd==3
 |none=>true
noncomputable def KK(d:Dc)(i:Nat):Bool:=vW d.sp.length (d.at i) !=0
def BE(d:Dc)(i:Nat):Bool:=!rq d (d.at i)
def Ae(d:Dc)(i:Nat):Bool:=Dk d (d.at i)
def NI(d:Dc)(i:Nat):Bool:=(kP d.ly false (d.at i).id).contains (d.at i).id
noncomputable def gS(d:Dc):Int×Int:=if(iI d).1=0 then match lQ (KK d) d.ly.length with
  |some i=>(vW d.sp.length (d.at i),(d.at i).id)
  |none=>match lQ (BE d) d.ly.length with
   |some i=>(40,(d.at i).id)
   |none=>match lQ (Ae d) d.ly.length with
    |some i=>(40,(d.at i).id)
    |none=>match lQ (NI d) d.ly.length with
     |some i=>(42,(d.at i).id)
     |none=>if kn d.ly 100 d.root>6 then(43,d.root)else(0,0)
 else iI d
theorem tK{d:Dc}{i:Nat}(h:i<d.ly.length):d.at i∈d.ly:=by
 unfold Dc.at
 rw[ax,au h];exact bJ h
theorem Af{d:Dc}{x:eJ}(h:x∈d.ly):∃i,i<d.ly.length/\d.at i=x:=by
 obtain⟨i,hi,rfl⟩:=ck h;exact⟨i,hi,by unfold Dc.at;rw[ax,au hi];rfl⟩
theorem ve{d:Dc}(h:(iI d).1=0):xn d=false/\(∀j,j<d.sp.length->(!AT (d.sp.getD j D8))=false)/\(∀j,j<d.ly.length->tJ d j=false)/\mK d=false:=by
 unfold iI at h;split at h
 . exact absurd h eX
 . rename_i h1;split at h
   . exact absurd h eX
   . rename_i C;split at h
     . exact absurd h (by simp only;decide)
     . rename_i h3;split at h
       . exact absurd h (by simp only;decide)
       . rename_i h4;exact⟨by simpa using h1,pq C,pq h3,by simpa using h4⟩
theorem Dl{d:Dc}(h:xn d=false):d.sp.length<=8/\d.ly.length<=40/\1<=d.nx/\d.nx<=1048576:=by
 unfold xn at h;simp only[cE,bt,gB]at h;omega
structure BF(d:Dc):Prop where
 m:IP d
 s:∀s∈d.sp,NH s
 y:∀x∈d.ly,uq x
theorem KL{d:Dc}{p:eJ->Prop}(h0:p gv)(h:∀x∈d.ly,p x)(i:Nat):p (d.at i):=by
 unfold Dc.at
 rw[ax];cases hg:d.ly[i]? with
 |none=>exact h0
 |some y=>exact h y (List.mem_of_getElem? hg)
theorem sm0:uq gv:=⟨aN _,aN _,aN _,aN _,aN _,aN _,aN _⟩
theorem BF.at{d:Dc}(h:BF d)(i:Nat):uq (d.at i):=KL sm0 h.y i
set_option maxHeartbeats 1000000 in
theorem Q7(d:Dc)(hd:BF d):dV ak 39 [d.v] (Ot (gS d)):=by
 refine fc Tryz.func39 (fH 2 (fk (Zb d hd.m hd.s) (be _)) (anw d (iI d).1 (iI d).2) (eM rfl) ?_);refine qv (be _) (fun u _ _=>u=Ot (gS d)) (anx d (iI d).1 (iI d).2) (dJ (g1 fun h1=>⟨all_nil,?_,fun _ h=>h⟩) (dF (g1 fun h1=>⟨all_nil,?_⟩)))
 . unfold gS;rw[aA (by simpa using h1)];rfl
 have hw:(iI d).1=0:=by simpa using h1
 have tQ:gS d=_:=aD hw;obtain⟨Y,_⟩:=ve hw;obtain⟨_,AS,_⟩:=Dl Y;have hA:=fun i (h:(decide (Int.ofNat i<Int.ofNat d.ly.length))=true)=>(⟨iT (j9 h),fE d.ly,iu (j9 h)⟩:((0:Int)<=Int.ofNat i/\Int.ofNat i<Int.ofNat d.ly.length)/\(fD d.ly).length=d.ly.length*31/\V.dS (dO (fD d.ly) (i*31) 31)= .dS (d.at i).ds);have hv:=fun i (h:(decide (Int.ofNat i<Int.ofNat d.ly.length))=true)=>(gK (i:=i) (by have:=j9 h;omega):V.int .i64 (IntKind.i64.wrap (Int.ofNat i+(1:Int)))=L (i+1));refine dM dD (dM dD (gk (be _) eI (anz d []) (dF (g0 ⟨all_nil,fun R dX=>?_⟩))));simp only[andThen];refine iz 0 d.ly.length (fun i=>xD d [(4,L i)]) (KK d) (ew.norm dX) (fun i hi hj Q' k1 k2 k3=>?_) (fun e1 R dX=>?_)
 . refine gk (fk (T5 d (d.at i) (hd.at i)) (be _)) (fun u _ _=>u=Ot (gS d)) (anA d i (d.at i) (vW d.sp.length (d.at i))) (dJ (g2 fun h1 C=>?_) (dJ (g2 fun h1 C=>?_) (dF (g1 fun h1=>⟨all_nil,fun R dX=>k2 (by have:=qZ h1;omega) R (ew.norm dX)⟩))))
   . obtain⟨a1,a2,a3⟩:=hA i h1;refine⟨A a1 (A a2 (A a3 (A rfl (A a1 (A a2 (eM a3)))))),?_,k3⟩;rw[tQ,jq (f:=KK d) (j9 h1) C hj];rfl
   . obtain⟨a1,a2,a3⟩:=hA i h1;exact⟨A a1 (A a2 (A a3 (A rfl (eM (hv i h1))))),fun R dX=>k1 (j9 h1) C R (ew.norm dX)⟩
 rw[gL e1]at tQ;simp only[andThen];refine dX _ _ ?_;refine dM dD (dM dD (gk (be _) eI (anB d _) (dF (g0 ⟨all_nil,fun R dX=>?_⟩))));simp only[andThen];refine iz 2 d.ly.length (fun i=>xD d [(6,L i)]) (BE d) (ew.norm dX) (fun i hi hj Q' k1 k2 k3=>?_) (fun e2 R dX=>?_)
 . refine gk (fk (aei d (d.at i) hd.m (hd.at i).kids S) (be _)) (fun u _ _=>u=Ot (gS d)) (anC d i (d.at i) (rq d (d.at i))) (dJ (g2 fun h1 C=>?_) (dJ (g2 fun h1 C=>?_) (dF (g1 fun h1=>⟨all_nil,fun R dX=>k2 (by have:=qZ h1;omega) R (ew.norm dX)⟩))))
   . obtain⟨a1,a2,a3⟩:=hA i h1;refine⟨A a1 (A a2 (A a3 (A rfl (A a1 (A a2 (eM a3)))))),?_,k3⟩;rw[tQ,jq (f:=BE d) (j9 h1) C hj];rfl
   . obtain⟨a1,a2,a3⟩:=hA i h1;exact⟨A a1 (A a2 (A a3 (A rfl (eM (hv i h1))))),fun R dX=>k1 (j9 h1) C R (ew.norm dX)⟩
 rw[gL e2]at tQ;simp only[andThen];refine dX _ _ ?_;refine dM dD (dM dD (gk (be _) eI (anD d _) (dF (g0 ⟨all_nil,fun R dX=>?_⟩))));simp only[andThen];refine iz 4 d.ly.length (fun i=>xD d [(7,L i)]) (Ae d) (ew.norm dX) (fun i hi hj Q' k1 k2 k3=>?_) (fun e3 R dX=>?_)
 . have hP:=YC d (d.at i).of hd.m.ly;cases hn:jK d.ly (d.at i).of with
   |none=>
    have ha:xl d.ly (d.at i).of= -1:=by unfold xl;rw[hn]
    have N:Ae d i=((d.at i).kd==4&&true):=by unfold Ae Dk;rw[hn]
    rw[ha]at hP;refine gk (fk hP (be _)) (fun u _ _=>u=Ot (gS d)) (anE d i (d.at i)) (dJ (g2 fun h1 C=>?_) (dJ (g2 fun h1 C=>?_) (dF (g1 fun h1=>⟨all_nil,fun R dX=>k2 (by have:=qZ h1;omega) R (ew.norm dX)⟩))))
    . obtain⟨a1,a2,a3⟩:=hA i h1;refine⟨A a1 (A a2 (A a3 (A a1 (A a2 (A a3 (A rfl (A a1 (A a2 (eM a3))))))))),?_,k3⟩;rw[tQ,jq (f:=Ae d) (j9 h1) (by rw[N,C];rfl) hj];rfl
    . obtain⟨a1,a2,a3⟩:=hA i h1;exact⟨A a1 (A a2 (A a3 (eM (hv i h1)))),fun R dX=>k1 (j9 h1) (by rw[N,C];rfl) R (ew.norm dX)⟩
   |some m=>
    have ha:xl d.ly (d.at i).of=Int.ofNat m:=by unfold xl;rw[hn]
    obtain⟨eY,_,_⟩:=jv hn;have N:Ae d i=((d.at i).kd==4&&((d.at m).kd==3)):=by unfold Ae Dk;rw[hn]
    rw[ha]at hP;obtain⟨b1,b2,b3⟩:=hA m (aT (cB.2 eY));have b0:V.bool (decide (Int.ofNat m<(0:Int)))=V.bool false:=aI V.bool (aV (by simp only[gB];omega));refine gk (fk hP (be _)) (fun u _ _=>u=Ot (gS d)) (anF d i m (d.at i) (d.at m)) (dJ (g3 fun h1 C h3=>?_) (dJ (g3 fun h1 C h3=>?_) (dJ (g2 fun h1 C=>?_) (dF (g1 fun h1=>⟨all_nil,fun R dX=>k2 (by have:=qZ h1;omega) R (ew.norm dX)⟩)))))
    . obtain⟨a1,a2,a3⟩:=hA i h1;refine⟨A a1 (A a2 (A a3 (A a1 (A a2 (A a3 (A rfl (A b0 (A b1 (A b2 (A b3 (A a1 (A a2 (eM a3))))))))))))),?_,k3⟩;rw[tQ,jq (f:=Ae d) (j9 h1) (by rw[N,C,h3];rfl) hj];rfl
    . obtain⟨a1,a2,a3⟩:=hA i h1;exact⟨A a1 (A a2 (A a3 (A a1 (A a2 (A a3 (A rfl (A b0 (A b1 (A b2 (A b3 (eM (hv i h1)))))))))))),fun R dX=>k1 (j9 h1) (by rw[N,C,h3];rfl) R (ew.norm dX)⟩
    . obtain⟨a1,a2,a3⟩:=hA i h1;exact⟨A a1 (A a2 (A a3 (eM (hv i h1)))),fun R dX=>k1 (j9 h1) (by rw[N,C];rfl) R (ew.norm dX)⟩
 rw[gL e3]at tQ;simp only[andThen];refine dX _ _ ?_;have hK:∀x∈d.ly,rq d x=true:=fun x J=>by
  obtain⟨j,hj,rfl⟩:=Af J;have:=e2 j hj;unfold BE at this;simpa using this
 have hN:=qP hK;refine dM dD (dM dD (gk (be _) eI (anG d _) (dF (g0 ⟨all_nil,fun R dX=>?_⟩))));simp only[andThen];refine iz 6 d.ly.length (fun i=>xD d [(9,L i)]) (NI d) (ew.norm dX) (fun i hi hj Q' k1 k2 k3=>?_) (fun e4 R dX=>?_)
 . have hl:=qO d.ly false (d.at i).id;refine gk (fk (QV d (d.at i).id false hd.m (fun h=>by cases h) S) (fk (adP (kP d.ly false (d.at i).id) (d.at i).id S) (be _))) (fun u _ _=>u=Ot (gS d)) (anH d i (d.at i) _ _) (dJ (g2 fun h1 C=>?_) (dJ (g2 fun h1 C=>?_) (dF (g1 fun h1=>⟨all_nil,fun R dX=>k2 (by have:=qZ h1;omega) R (ew.norm dX)⟩))))
   . obtain⟨a1,a2,a3⟩:=hA i h1;refine⟨A a1 (A a2 (A a3 (A rfl (eM rfl)))),?_,k3⟩;rw[tQ,jq (f:=NI d) (j9 h1) C hj];rfl
   . obtain⟨a1,a2,a3⟩:=hA i h1;exact⟨A a1 (A a2 (A a3 (A rfl (A rfl (eM (hv i h1)))))),fun R dX=>k1 (j9 h1) C R (ew.norm dX)⟩
 rw[gL e4]at tQ;simp only at tQ;simp only[andThen];refine dX _ _ ?_;have hac:EX d.ly false:=fun x J=>by
  obtain⟨j,hj,rfl⟩:=Af J;exact e4 j hj
 have hD:=Zd d hd.m (Gl d.ly false) (L4 hac) 100 eX d.root (by unfold Gl;have:=qO d.ly false d.root;omega);refine eR (fk hD (be _)) (anI d d.ly.length (kn d.ly 100 d.root)) (dJ (g1 fun h1=>⟨eM rfl,_,_,_,rfl,?_⟩) (dF (g1 fun h1=>⟨eM rfl,_,_,_,rfl,?_⟩)))
 . rw[tQ,aD (aX h1)];rfl
 . rw[tQ,aA (bq h1)];rfl
end Go.Proofs.YtmjggdmekboefaaGreat
