/- Lemmas on the chunk store. No conditions. -/
import Derived.Test.YtfihojpgobmmdaaGreatDoorJointW21
set_option linter.unusedVariables false
set_option linter.unusedSimpArgs false
set_option linter.unusedSectionVars false
set_option maxRecDepth 20000
namespace Go.Proofs.YtfihojpgobmmdaaGreatDoor
open Go Go.Eng
section
variable(X R O:Int)
theorem Xg:cW ak 81 [.fn (.yield 12) [] [],P 9] (Pk X R O) 13 (.ew []) (Pk X R O) 13:=by
 refine gh.is (gO mo po Tryz.func81 (code:=Ey) U U ?_);rw[afj];refine zu (v0:=.map (some 8)) (kA:=(cU [.fn (.yield 12) [] [],P 9] (Pk X R O) 13).S.set 4 (some (.map (some 8)))) (Aa:=((cU [.fn (.yield 12) [] [],P 9] (Pk X R O) 13).S.set 4 (some (.map (some 8)))).set 5 (some (P 13))) (m:=8) (kd:=none) (Q:=[]) mo MR
  U U U U (au rfl) U (fun _ s1=>fa 14 [0,5] s1=some (Xa X R O)) U ?_
 rintro iO left s1 hs hp;have hz:iO=[]/\left=[]:=List.append_eq_nil_iff.1 hp.eq_nil;obtain⟨rfl,rfl⟩:=hz;refine⟨[0,5],_,hs,U,fun _=>?_,fun e kD he2=>?_⟩
 . exact⟨(Xa X R O).S.set 6 (some (.ew [.bool false])),{ Xa X R O with S:=((Xa X R O).S.set 6 (some (.ew [.bool false]))).set 7 (some (.bool false)) },U,U,U,.inl rfl,.ew [],Pk X R O,13,U,rfl,rfl,rfl⟩
 . have:=he2.length_eq;simp at this
theorem TK:cW ak 100 [eM,g81] (s8 X R O) 10 eM (s8 X R O) 10:=by
 refine c5 Tryz.func100 (code:=RQ) U U ?_;refine iF  1 (XQ []) (aqe X R O) cT ?_;refine cZ U ?_;refine cZ U ?_;refine fO (XQ []) (aqf X R O) (dG ?_);refine⟨cT,fun s' dO=>c6 dO ?_⟩;refine fB (i:=0) U ?_;refine oH (gf:=81) (lb:=[P 9]) U U U U U (Xg X R O).one ?_;rintro v h n ⟨rfl,rfl,rfl⟩;refine⟨U,?_⟩;refine fh (XQ []) (aqg X R O) (dG ?_);exact⟨cT,_,_,_,rfl,rfl,rfl,rfl⟩
theorem Xh:cW ak 79 [g81] (s8 X R O) 10 eM (s8 X R O) 10:=by
 refine c5 Tryz.func79 (code:=Lr) U U ?_;refine iF  1 (XQ []) (aqh X R O) cT ?_;refine cZ U ?_;refine qt 1 (s1:={ S:=(Bm [(0,g81)]).set 3 (some g81),h:=s8 X R O,n:=10,gG:=[] }) (f:=100) (args:=[eM,g81]) U U U U U U (TK X R O).one ?_;rintro v h n ⟨rfl,rfl,rfl⟩;refine⟨(((Bm [(0,g81)]).set 3 (some g81)).set 4 (some eM)),sC8 (s8 X R O) 10 eM,U,U,?_⟩;refine fh (XQ []) (aqi X R O) (dG ?_);exact⟨cT,_,_,_,rfl,rfl,rfl,rfl⟩
theorem Xi:cW ak 54 [g81,g56] (s8 X R O) 10 eM (s8 X R O) 10:=by
 refine c5 Tryz.func54 (code:=Lq) U U ?_;refine iF  1 (XQ []) (aqj X R O) cT ?_;refine cZ U ?_;refine qt 1 (s1:={ S:=(Bm [(0,g81),(1,g56)]).set 6 (some g81),h:=s8 X R O,n:=10,gG:=[] }) (f:=79) (args:=[g81]) U U U U U U (Xh X R O).one ?_;rintro v h n ⟨rfl,rfl,rfl⟩;refine⟨(((Bm [(0,g81),(1,g56)]).set 6 (some g81)).set 7 (some eM)),sS8 (s8 X R O) 10 eM,U,U,?_⟩;refine fh (XQ []) (ahD X R O) (dG ?_);exact⟨eX ⟨dU,dU⟩,_,_,_,rfl,rfl,rfl,rfl⟩
def ahL:List (Option Nat):=[some 0,some 1,some 2,some 3,none,some 5,some 6,some 19]
def ahM:List (Option Nat):=[some 0,some 1,some 2,some 3,none,some 5,some 6,some 7,some 20,some 21]
def acs:List (Option Nat):=[some 0,some 1,some 2,some 3,none,some 5,some 6]
theorem acu:AO 19 [] (sZ X R O) (.int .i64 0) (sZ 0 0 O):=by
 have h51:cW ak 51 [P3,v78] (J (kNc X R O)) 20 (.map (some 20)) (J (kNd X R O)) 21:=
  gm (ns:=ahL) (jJ U U U U U) U U (Wl X R O)
 have h54:cW ak 54 [v81,v56] (J (kNe X R O)) 22 eM (J (kNe X R O)) 22:=
  gm (ns:=ahM) (jJ U U U U U) U U (Xi X R O)
 have h23:cW ak 23 [P3] (J (Uv X R O)) 8 eM (J (Uv X R O)) 8:=
  gm (ns:=acs) (jJ U U U U U) U U (NG X R O [])
 have h57:cW ak 57 [P3] (J (Uv 0 R O)) 8 (.ew []) (J (Pj [(7,.cells [P3])] 8 O)) 10:=
  gm (ns:=acs) (jJ U U U U U) U U (Hf 0 R O [] [])
 have key:cW ak 19 [P3] (eu (pN X R O [] [])) 7 (.int .i64 0) (J (Pj [] 7 O)) 9:=by
  refine c5 Tryz.func19 (code:=OL) U U ?_;refine iF  4 (((XQ []).jA (au U) h51).jA (au U) h54) (aqk X R O) (fm ⟨rfl,rfl,rfl⟩ (eX ⟨rfl,rfl,rfl⟩)) ?_;show TG ak 7 Tryz.f19.ntmps Uo _ _;refine cZ U ?_;refine fO (XQ []) (aql X R O) (dG ?_);refine⟨cT,fun s' dO=>c6 dO ?_⟩;show TG ak 7 Tryz.f19.ntmps Hl _ _;refine cZ U ?_;refine fO (XT.jA (au U) h23) (ahE X R O) (dG ?_);refine⟨eX ⟨rfl,rfl,rfl⟩,fun s' dO=>c6 dO ?_⟩;refine iF  3 XT (ahF X R O) cT ?_;refine fh (XT.jA (au U) h57) (ahG R O) (dG ?_);exact⟨eX ⟨rfl,rfl,rfl⟩,_,_,_,rfl,rfl,rfl,rfl⟩
 exact key.Ei 4 U
end
section
variable{n A:Nat}{b:L}{X R O:Int}{Q F:ae}
theorem acv{bs:L}{q:LS}(h:cW ak 19 [P3] (eu (pS n A b X R O Q F)) 7 (.int .i64 0) (J (l3r b O Q F bs 8 [] q.R q.Q q.F)) 10):AO 19 [] (sC n A b X R O Q F) (.int .i64 0) (sC bs.length bs.length bs (Int.ofNat bs.length) q.R O q.Q q.F):=by
 obtain⟨Jl,mQ,nj⟩:=q;exact h.Ei 4 U
theorem Xj(w7:YV Q)(hn:∀x,0<=jR Q x/\jR Q x<1000000000):AO 19 [] (sC n A b X R O Q []) (.int .i64 0) (sZ 0 0 O):=(Wf n A b X R O Q w7 hn).Ei 4 U
theorem Xk(kk:Nat)(hk:kk<=1000000)(cut:Nat)(l:List jB)(x:L)(aqu:V.int aj (IntKind.i64.wrap (X+IntKind.i64.wrap ((IntKind.i64.wrap (IntKind.i64.wrap ((Int.ofNat n)-X)*Int.ofNat (kk%256))).tdiv (255:Int))))=iW cut)
  (hb:cut<=b.length) (Yi:cut<=A) (iy:∀r∈l,r.ok) (HJ:b.take cut=dc l++x) (BC:Stop (b.take cut) (dc l).length) (l8:cut<1000000000):
  IsC (kk:Int) (sC n A b X R O Q F) (sC (dc l).length A (dc l) (Int.ofNat (dc l).length) (jc l).R O (jc l).Q (jc l).F):=by
 have I:=M5 cut A b X R O Q F l x hb iy HJ BC Yi l8;have htk:b.take (dc l).length=dc l:=by
  have N:(dc l).length<=cut:=by
   have:=aN List.length HJ;rw[aZ,ax]at this;omega
  have B:(b.take cut).take (dc l).length=dc l:=by rw[HJ,bZ (aA _),aU]
  rw[List.take_take,Nat.min_eq_left N]at B;exact B
 generalize dc l=bs at I htk ⊢;generalize jc l=q at I ⊢;obtain⟨Jl,mQ,nj⟩:=q;have h57:cW ak 57 [P3] (J (lQx cut A b X R O Q F [(7,.cells [.int .i64 (kk:Int)])])) 35 (.ew []) (J (TF bs.length A b (Int.ofNat bs.length) Jl O Q F [(7,.cells [.int .i64 (kk:Int)])] 35 mQ nj)) 37:=by
  generalize bs.length=c2 at I ⊢;exact gm (ns:=ns7) (jJ U U U U U) U U I
 have key:cW ak 31 [P3,.dj (some (7,0)) 1 1 1] (J (lQx n A b X R O Q F [(7,.cells [.int .i64 (kk:Int)])])) 8 (.ew []) (J (TF bs.length A b (Int.ofNat bs.length) Jl O Q F [(7,.cells [.int .i64 (kk:Int)])] 8 mQ nj)) 10:=by
  refine c5 Tryz.func31 (code:=WY) U U ?_;refine r7 (jM.jA (au U) h57) mo _ U (ap4 n A cut b X R O Q F (kk:Int) (kk%256) bs.length Jl mQ nj) (dG ?_);exact⟨fm ⟨dU,dU⟩ (fm (AQ hk) (fm dU (fm aqu (fm ⟨az _,dm⟩ (eX ⟨rfl,rfl,rfl⟩))))),_,_,_,rfl,rfl,rfl,rfl⟩
 have st:Step 8 (HN (.ew []) (J (TF bs.length A b (Int.ofNat bs.length) Jl O Q F [(7,.cells [.int .i64 (kk:Int)])] 8 mQ nj)) 10) (HN (.ew []) (J (crR (sC bs.length A bs (Int.ofNat bs.length) Jl O mQ nj))) (nC (sC bs.length A bs (Int.ofNat bs.length) Jl O mQ nj))):=by
  have N:=Step.trim (M:=8) (s:=HN (.ew []) (J (TF bs.length A b (Int.ofNat bs.length) Jl O Q F [(7,.cells [.int .i64 (kk:Int)])] 8 mQ nj)) 10) (m:=4) (el:=5) (t:=b) bs.length U U;rw[htk]at N;generalize bs.length=c2 at N ⊢;exact N.trans (.Ei 4 (live:=[0]) U)
 exact key.step st
theorem Xl(kk:Nat)(hk:kk<=1000000):IsC (kk:Int) (sZ 0 R O) (sZ 0 0 O):=by
 have h57:cW ak 57 [P3] (J (WZ [(7,.cells [.int .i64 (kk:Int)])] 0 R O)) 35 (.ew []) (J (Pj [(7,.cells [.int .i64 (kk:Int)])] 35 O)) 37:=
  gm (ns:=acs) (jJ U U U U U) U U (Hf 0 R O [] [])
 have key:cW ak 31 [P3,.dj (some (7,0)) 1 1 1] (J (WZ [(7,.cells [.int .i64 (kk:Int)])] 0 R O)) 8 (.ew []) (J (Pj [(7,.cells [.int .i64 (kk:Int)])] 8 O)) 10:=by
  refine c5 Tryz.func31 (code:=WY) U U ?_;refine r7 (jM.jA (au U) h57) mo _ U (ap5 0 R O (kk:Int) (kk%256)) (dG ?_);refine⟨fm ⟨dU,dU⟩ (fm (AQ hk) (fm dU (fm ?_ (fm ⟨dU,dU⟩ (eX ⟨rfl,rfl,rfl⟩))))),_,_,_,rfl,rfl,rfl,rfl⟩;show V.int aj (IntKind.i64.wrap ((0:Int)+IntKind.i64.wrap ((IntKind.i64.wrap (IntKind.i64.wrap ((0:Int)-0)*Int.ofNat (kk%256))).tdiv (255:Int))))=iW 0;rw[show IntKind.i64.wrap ((0:Int)-0)=0 from rfl,Int.zero_mul];rfl
 exact key.step (.Ei 4 (live:=[0]) U)
end
section
variable(n A:Nat)(b:L)(X R O:Int)(Q F:ae)
theorem Xm(hk:yd F)(hl:F.length<1000000):cW ak 23 [P3] (eu (pS n A b X R O Q F)) 7 (ni (iz (dM F))) (eu (pS n A b X R O Q F)) 7:=by
 have I:=B6 n A b X R O Q F hk hl;generalize iz (dM F)=zs at I ⊢
 match zs,I with
 | [],I=>exact cW.nil (z:=0) false I
 | [x],I=>
   refine I.step ((Step.YT [7] (cS:=[[rs.str x].length=1*1]) (s2:=HN (.dS false 1 [.str x]) ((hKf n A b X R O Q F [(7,.cells [.str x])]).set 7 none) 8) U (eX rfl)).trans (.norm (live:=[0]) U))
 |x::y::zs,I=>
  have e:strs (x::y::zs)=strs (x::y::zs):=rfl;have I:cW ak 23 [P3] (eu (pS n A b X R O Q F)) 7 (.dj (some (7,0)) (x::y::zs).length (x::y::zs).length 1) (hKf n A b X R O Q F [(7,.deep (strs (x::y::zs)))]) 8:=I;generalize x::y::zs=us at I ⊢;refine I.step ((Step.YT [7] (cS:=[(strs us).length=us.length*1]) (s2:=HN (ni us) ((hKf n A b X R O Q F [(7,.deep (strs us))]).set 7 none) 8) U (eX (by rw[eN,bk]))).trans (.norm (live:=[0]) U))
theorem Xn:cW ak 20 [P3] (eu (pS n A b X R O Q F)) 7 (.int .i64 (Int.ofNat Q.length)) (eu (pS n A b X R O Q F)) 7:=by
 refine c5 Tryz.func20 (code:=dN Tryz.f20) U U ?_;refine fh (XQ []) (aqs n A b X R O Q F) (dG ?_);exact⟨cT,_,_,_,rfl,rfl,rfl,rfl⟩
theorem ahN(C:List gq)(k:Nat)(yv:L->L)(hk:yd F)(hl:F.length<1000000)(J5:Eg F)(he:∀x∈iV F,Ends Q k x)
  (nX:∀c∈C,c.D.length<=1000000/\∃i,dr (.str c.dg) Q=some (oF c.da c.D i)) (hyv:∀x∈iz (dM F),dr (.str x) F=some (.str (yv x))):
  Obs (sC n A b X R O Q F) Q.length (iz (dM F)) C (fun d=>decide (d∈qj Q F k)) yv where
 h23:=Xm n A b X R O Q F hk hl
 h20:=Xn n A b X R O Q F
 h25:=fun c I=>by
  obtain⟨N,i,B⟩:=nX c I;exact V3 n A b X R O Q F c.dg c.da c.D i B N
 h18:=fun c I=>by
  obtain⟨N,i,B⟩:=nX c I;exact V4 n A b X R O Q F c.dg ⟨_,_,_,B⟩
 h17:=fun c _=>Wj n A b X R O Q F k c.dg J5 he
 h24:=fun x G=>LJ n A b X R O Q F x (yv x) (hyv x G)
theorem ahO(lv:L->Bool)(yv:L->L):Obs (sZ X R O) 0 [] [] lv yv where
 h23:=cW.nil (z:=0) false (NG X R O [])
 h20:=by
  refine c5 Tryz.func20 (code:=dN Tryz.f20) U U ?_;refine fh (XQ []) (aqt X R O) (dG ?_);exact⟨cT,_,_,_,rfl,rfl,rfl,rfl⟩
 h25:=fun _ h=>by cases h
 h18:=fun _ h=>by cases h
 h17:=fun _ h=>by cases h
 h24:=fun _ h=>by cases h
end
section
variable(cV:List jB)(k:Nat)
def pE:List RS:=(List.range' k (cV.length-k)).map fun i=>fq (cV.take i)
def oK:List RS:=pE cV k++[fq cV]
abbrev Xo(f A:Nat):gZ:=sC (dc cV).length A (dc cV) (Int.ofNat f) (jc cV).R 0 (jc cV).Q (jc cV).F
end
structure pH(p:gZ)(cV:List jB)(k:Nat)(l:List RS):Prop where
 JN:(cV=[]/\p=sZ 0 0 0)\/∃A,0<A/\(dc cV).length<=A/\p=Xo cV (dc (cV.take k)).length A
 val:NC gM cV
 kle:k<=cV.length
 fH:l=oK cV k
theorem ahP:pH (sZ 0 0 0) [] 0 [gM]:=⟨.inl ⟨rfl,rfl⟩,trivial,aA _,rfl⟩
section
variable(cV:List jB)(k:Nat)
theorem FQ:(pE cV k).length=cV.length-k:=by unfold pE;rw[aT,List.length_range']
theorem D3:(oK cV k).length=cV.length-k+1:=by unfold oK;rw[ax,FQ];rfl
theorem D4{cV:List jB}{k i:Nat}(hk:k<=cV.length)(hi:i<=cV.length-k):(oK cV k)[i]? =some (fq (cV.take (k+i))):=by
 unfold oK;rw[bT,FQ];by_cases h:i<cV.length-k
 . rw[aH h];unfold pE;rw[bu,List.getElem?_range' h];simp
 . rw[aI h];have e:i=cV.length-k:=by omega
   subst e;rw[Nat.sub_self,show k+(cV.length-k)=cV.length by omega,aU];rfl
theorem JO{cV:List jB}{k:Nat}(hk:k<=cV.length)(r:jB):oK (cV++[r]) k=oK cV k++[zY (fq cV) r]:=by
 unfold oK;have N:pE (cV++[r]) k=pE cV k++[fq cV]:=by
  unfold pE;rw[ax,show cV.length+[r].length-k=(cV.length-k)+1 by simp;omega,List.range'_1_concat,aY,show k+(cV.length-k)=cV.length by omega];congr 1
  . refine List.map_congr_left fun i hi=>?_;have:=List.mem_range'_1.1 hi;rw[bZ K]
  . rw[List.map_singleton,List.take_left'];rfl
 rw[N];congr 1;unfold fq;rw[List.foldl_append];rfl
theorem q8:oK cV cV.length=[fq cV]:=by
 unfold oK pE;rw[Nat.sub_self];rfl
theorem Xp:nmO (Nn k):=by
 unfold Nn;have h:=Nat.mod_lt k (show 0<5 by decide);rcases(by omega:k%5=0\/k%5=1\/k%5=2\/k%5=3\/k%5=4)with e|e|e|e|e<;>rw[e]<;>exact⟨_,rfl,dU,dU⟩
end
theorem FR:∀(l:List (L×L)) (lo:Nat),Pg l->(∀p∈l,∃c:UInt8,p.1=[c]/\lo<=c.toNat/\c.toNat<115)->l.length<=115-lo
 | [],_,_,_=>aX _
 |p::l,lo,hs,h=>by
  obtain⟨N,B⟩:=q7.1 hs;obtain⟨c,I,yQ,Mx⟩:=h p (by simp);have:=FR l (c.toNat+1) B fun q hq=>by
   obtain⟨e,he,_,hh⟩:=h q (by simp[hq]);have fI:=N q hq;rw[I,he]at fI;have:c<e:=by
    rcases List.cons_lt_cons_iff.1 fI with h|⟨_,h⟩
    . exact h
    . exact absurd h (List.lt_irrefl _)
   exact⟨e,he,this,hh⟩
  rw[aS];omega
theorem nT.TL{s:RS}(h:nT s):s.ro.length<=18:=by
 have:=FR s.ro 97 h.Ut fun p hp=>(h.rv p hp).1;omega
theorem nmO.ok{n:L}(h:nmO n):VX n:=by
 obtain⟨c,rfl,_⟩:=h;exact⟨by simp,by simp⟩
theorem pH.all{p:gZ}{cV:List jB}{k:Nat}{l:List RS}(h:pH p cV k l)(hB:cV.length<=3000):nT (fq cV)/\Ej (jc cV) (fq cV)/\(fq cV).C.length<=cV.length/\(∀r∈cV,r.ok)/\(dc cV).length<=180*cV.length:=by
 have:=Cc h.val wf0 ack (by show 0+cV.length<=1000000;omega);refine⟨this.1,this.2.1,?_,this.2.2.2.1,this.2.2.2.2⟩;have B:=this.2.2.1;have h3:(0:Nat)+cV.length=cV.length:=bE _;exact bX B (by show 0+cV.length<=cV.length;omega)
theorem qm{aa:LS}{s:RS}(h:nT s)(g:Ej aa s)(x:L):0<=fk s.C x↔uC aa.Q x:=by
 rw[nc h.nd,g.Q];constructor
 . rintro⟨j,c,hj,rfl⟩;exact⟨_,_,_,kU h.nd hj⟩
 . rintro⟨d,D,k,hk⟩;rcases AR s.C x with q|q
   . rw[qv q]at hk;cases hk
   . exact q
theorem HA{aa:LS}{s:RS}(h:nT s)(g:Ej aa s){x:L}(G:fk s.C x<0):dr (.str x) aa.Q=none:=by
 rw[g.Q];exact qv ((qw h.nd).1 G)
theorem FT{α:Type}(P:α->Prop):∀(D:List α),(∃x∈D,P x)->∃(j:Nat) (x:α),D[j]? =some x/\P x/\∀(i:Nat) (y:α),i<j->D[i]? =some y->¬P y
 | [],⟨_,h,_⟩=>by cases h
 |a::D,⟨x,G,hp⟩=>by
  by_cases ha:P a
  . exact⟨0,a,rfl,ha,fun i _ hi=>absurd hi (Nat.not_lt_zero i)⟩
  . have:∃x∈D,P x:=by
     rcases aF.1 G with rfl|G
     . exact absurd hp ha
     . exact⟨x,G,hp⟩
    obtain⟨j,y,N,B,h3⟩:=FT P D this;refine⟨j+1,y,by simpa using N,B,fun i z hi hz=>?_⟩;cases i with
    |zero=>simp at hz;subst hz;exact ha
    |succ i=>exact h3 i z K (by simpa using hz)
section
variable{p:gZ}{cV:List jB}{k:Nat}{l:List RS}
theorem pH.more(h:pH p cV k l)(r:jB)(a:Uu (fq cV) r)(A:Nat)(nP:(dc cV).length+r.bytes.length<=A):
  pH (sC ((dc cV).length+r.bytes.length) A (dc cV++r.bytes) (Int.ofNat (dc (cV.take k)).length) (B5 (jc cV) r).R 0 (B5 (jc cV) r).Q (B5 (jc cV) r).F) (cV++[r]) k (l++[zY (fq cV) r]):=by
 have e1:dc (cV++[r])=dc cV++r.bytes:=vN cV r;have e2:jc (cV++[r])=B5 (jc cV) r:=by unfold jc;rw[List.foldl_append];rfl
 have e3:(cV++[r]).take k=cV.take k:=bZ h.kle;have mL:=oI (r:=r);refine⟨.inr ⟨A,K,by rw[e1,ax];exact nP,?_⟩,Cb.2 ⟨h.val,a,trivial⟩,by rw[ax];have:=h.kle;simp;omega,by rw[h.fH,JO h.kle]⟩;unfold Xo;rw[e1,e2,e3,ax]
theorem uo(h:pH p cV k l)(hB:cV.length<=2500)(d:L)(D:List (L))(hd:d.length<=60)(H6:D.length<=3)(h32:∀x∈D,x.length=32)(hz:cV=[]->D.length<=1):
  ∃q nf,(p.lo=none\/q.lo≠none)/\AO 15 [.str d,ni D] p (.ew [.str (ij (fq cV) d D).dg,.int .i64 (ij (fq cV) d D).er]) q/\pH q nf k (ql l (ij (fq cV) d D))/\nf.length<=cV.length+1:=by
 obtain⟨hw,hg,oO,iy,Nf⟩:=h.all K;by_cases W:∃x∈D,fk (fq cV).C x<0
 . have hr:ij (fq cV) d D=⟨fq cV,[],63,false⟩:=by unfold ij;rw[aH W]
   rw[hr];refine⟨p,cV,?_,?_,by unfold ql;rw[aI Bool.false_ne_true];exact h,K⟩
   . rcases h.JN with⟨_,e⟩|⟨A,_,_,e⟩
     . exact .inl (by rw[e];rfl)
     . exact .inr (by rw[e];intro z;cases z)
   . rcases h.JN with⟨e0,e⟩|⟨A,sg,zS,e⟩
     . rw[e];have N:=hz e0;obtain⟨x,G,_⟩:=W
       match D,N,G,h32 with
       | [y],_,G,h32=>exact ahK K (h32 y (by simp))
       | [],_,G,_=>cases G
       |_::_::_,N,_,_=>simp at N
     . rw[e];obtain⟨j,x,N,B,h3⟩:=FT (fun x=>fk (fq cV).C x<0) D W;exact ahJ K K h32 j x N (HA hw hg B) fun i y hi hy=>(qm hw hg y).1 (by have:=h3 i y hi hy;omega)
 . have pO:∀x∈D,0<=fk (fq cV).C x:=fun x G=>by
    by_cases q:0<=fk (fq cV).C x
    . exact q
    . exact absurd ⟨x,G,K⟩ W
   by_cases hf:0<=fk (fq cV).C (dw d D)
   . have hr:ij (fq cV) d D=⟨fq cV,dw d D,0,false⟩:=by unfold ij;rw[aI W,aH hf]
     rw[hr];refine⟨p,cV,?_,?_,by unfold ql;rw[aI Bool.false_ne_true];exact h,K⟩
     . rcases h.JN with⟨_,e⟩|⟨A,_,_,e⟩
       . exact .inl (by rw[e];rfl)
       . exact .inr (by rw[e];intro z;cases z)
     . rcases h.JN with⟨e0,e⟩|⟨A,sg,zS,e⟩
       . exact absurd hf (by rw[e0];show ¬(0:Int)<= -1;decide)
       . rw[e];exact ahH K K h32 (fun x G=>(qm hw hg x).1 (pO x G)) ((qm hw hg _).1 hf)
   . have hr:ij (fq cV) d D=⟨⟨(fq cV).C++[⟨dw d D,d,D⟩],(fq cV).ro⟩,dw d D,0,true⟩:=by unfold ij;rw[aI W,aI hf]
     rw[hr];have ha:Uu (fq cV) (.chunk d D):=⟨hd,H6,pO,K⟩;have M4:(gd d D).length<=180:=(Hy hw ha).2;have hu:ql l ⟨⟨(fq cV).C++[⟨dw d D,d,D⟩],(fq cV).ro⟩,dw d D,0,true⟩=l++[zY (fq cV) (.chunk d D)]:=by unfold ql;rw[aH rfl];rfl
     rw[hu];have hs:=h.more (.chunk d D) ha ((dc cV).length+(gd d D).length) (aA _);refine⟨_,cV++[.chunk d D],.inr (fun z=>by cases z),?_,hs,by rw[ax];exact aA _⟩;rcases h.JN with⟨e0,e⟩|⟨A,sg,zS,e⟩
     . have aqv:D=[]:=by
        cases D with
        |nil=>rfl
        |cons x D=>exact absurd (pO x (by simp)) (by rw[e0];show ¬(0:Int)<= -1;decide)
       have Px:k=0:=by have:=h.kle;rw[e0]at this;simpa using this
       subst e0 aqv Px;rw[e];have:=Xb (X:=0) (R:=0) (O:=0) (d:=d) K;have e1:(dc []).length+(jB.chunk d []).bytes.length=(gd d []).length:=bE _;have e2:dc []++(jB.chunk d []).bytes=gd d []:=rfl;have e3:(dc []).length+(gd d []).length=(gd d []).length:=bE _;rw[e1,e2,e3];exact this
     . rw[e];exact ahI K K h32 (fun x G=>(qm hw hg x).1 (pO x G)) (HA hw hg K) sg rfl K
end
section
variable{aa:LS}{p:gZ}{s:RS}{cV:List jB}{k:Nat}{l:List RS}
theorem Xq(g:Ej aa s):RtE aa.F:=fun n=>by
 rw[g.lk n];split
 . exact .inl rfl
 . exact .inr ⟨_,rfl⟩
theorem JP(h:pH p cV k l)(hB:cV.length<=2500){nm:L}(hy:nmO nm)(x:L)(G:x=[]\/x.length=32):
  ∃q nf,(p.lo=none\/q.lo≠none)/\AO 16 [.str nm,.str x] p (.int .i64 (pC (fq cV) nm x).er) q/\pH q nf k (ql l (pC (fq cV) nm x))/\nf.length<=cV.length+1:=by
 obtain⟨hw,hg,oO,iy,Nf⟩:=h.all K;have hn:=hy.ok;have Mt:=hn.2;have yQ:p.lo=none\/p.lo≠none:=by
  cases e:p.lo with
  |none=>exact .inl rfl
  |some _=>exact .inr (by simp)
 by_cases c1:x≠[]/\fk (fq cV).C x<0
 . have hr:pC (fq cV) nm x=⟨fq cV,[],62,false⟩:=by unfold pC;rw[aH c1]
   rw[hr];refine⟨p,cV,yQ,?_,by unfold ql;rw[aI Bool.false_ne_true];exact h,K⟩;rcases h.JN with⟨e0,e⟩|⟨A,sg,zS,e⟩
   . rw[e];exact Xd hn c1.1
   . rw[e];exact TI (LH _ _ _ _ _ _ _ _ _ _ (Xq hg) hn c1.1 (HA hw hg c1.2))
 . have hfx:x=[]\/0<=fk (fq cV).C x:=by
    by_cases q:x=[]
    . exact .inl q
    . exact .inr (by
       by_cases z:0<=fk (fq cV).C x
       . exact z
       . exact absurd ⟨q,K⟩ c1)
   by_cases c2:x=gX nm (fq cV).ro
   . have hr:pC (fq cV) nm x=⟨fq cV,[],0,false⟩:=by unfold pC;rw[aI c1,aH c2]
     rw[hr];refine⟨p,cV,yQ,?_,by unfold ql;rw[aI Bool.false_ne_true];exact h,K⟩;rcases h.JN with⟨e0,e⟩|⟨A,sg,zS,e⟩
     . have:x=[]:=by rw[c2,e0];rfl
       rw[e,this];exact Xc hn
     . rw[e];have hl:=hg.lk nm;rw[<- c2]at hl;by_cases q:x=[]
       . rw[aH q]at hl;subst q;exact TI (OY _ _ _ _ _ _ _ _ _ hn hl)
       . rw[aI q]at hl;have hf:0<=fk (fq cV).C x:=hfx.resolve_left q;exact TI (OX _ _ _ _ _ _ _ _ _ _ hn q ((qm hw hg x).1 hf) hl)
   . have hr:pC (fq cV) nm x=⟨⟨(fq cV).C,l5 nm x (eJ x []) (fq cV).ro⟩,[],0,true⟩:=by unfold pC;rw[aI c1,aI c2]
     rw[hr];have ha:Uu (fq cV) (.root nm x):=⟨hy,hfx,c2⟩;have M4:(kZ nm x).length<=180:=(Hy hw ha).2;have hu:ql l ⟨⟨(fq cV).C,l5 nm x (eJ x []) (fq cV).ro⟩,[],0,true⟩=l++[zY (fq cV) (.root nm x)]:=by unfold ql;rw[aH rfl];rfl
     rw[hu];have hs:=h.more (.root nm x) ha ((dc cV).length+(kZ nm x).length) (aA _);refine⟨_,cV++[.root nm x],.inr (fun z=>by cases z),?_,hs,by rw[ax];exact aA _⟩;rcases h.JN with⟨e0,e⟩|⟨A,sg,zS,e⟩
     . exfalso;rcases hfx with q|q
       . exact c2 (by rw[q,e0];rfl)
       . rw[e0]at q;exact absurd q (by show ¬(0:Int)<= -1;decide)
     . rw[e];have hl:=hg.lk nm;have wT:(jc cV).F.length<64:=by have:=sY hw hg;have:=hw.TL;omega
       by_cases q:x=[]
       . subst q;have fU:gX nm (fq cV).ro≠[]:=fun z=>c2 z.symm;rw[aI fU]at hl;have ea:(B5 (jc cV) (.root nm []))=⟨(jc cV).R,(jc cV).Q,lT (.str nm) (jc cV).F⟩:=rfl;rw[ea];exact Mj (Sm _ _ _ _ _ _ _ _ _ _ hn hl fU sg rfl K)
       . have hf:0<=fk (fq cV).C x:=hfx.resolve_left q;have h32:x.length=32:=G.resolve_left q;have ea:(B5 (jc cV) (.root nm x))=⟨(jc cV).R,(jc cV).Q,ir (.str nm) (.str x) (jc cV).F⟩:=by
          show LS.mk _ _ (if x=[]then _ else _)=_;rw[aI q]
         rw[ea];by_cases w:gX nm (fq cV).ro=[]
         . rw[aH w]at hl;exact Mj (Sk _ _ _ _ _ _ _ _ _ _ hn q K ((qm hw hg x).1 hf) hl wT sg rfl K)
         . rw[aI w]at hl;exact Mj (Sl _ _ _ _ _ _ _ _ _ _ _ hn q K ((qm hw hg x).1 hf) hl c2 sg rfl K)
theorem Pm(h:pH p cV k l):∃q,(p.lo=none\/q.lo≠none)/\AO 66 [] p (.int .i64 0) q/\pH q cV cV.length [fq cV]:=by
 rcases h.JN with⟨e0,e⟩|⟨A,sg,zS,e⟩
 . refine⟨sZ 0 0 0,.inl (by rw[e];rfl),by rw[e];exact Xf,⟨.inl ⟨e0,rfl⟩,h.val,aA _,(q8 cV).symm⟩⟩
 . refine⟨_,.inr (fun z=>?_),by rw[e];exact Xe,⟨.inr ⟨A,sg,zS,?_⟩,h.val,aA _,(q8 cV).symm⟩⟩
   . cases z
   . rw[aU]
theorem JQ(C:List gq)(bs:List Bool):(lu C bs).length<=C.length:=(qx C bs).length_le
theorem TM(h:nT s)(e:s.ro=[]):(iX s).C=[]:=by
 cases q:(iX s).C with
 |nil=>rfl
 |cons c l=>
  have h0:(lu s.C (fD s))[0]? =some c:=by
   have:lu s.C (fD s)=c::l:=q;rw[this];rfl
  obtain⟨m,N,B,_⟩:=s7 _ _ _ _ h0;obtain⟨_,_,p,hp,_⟩:=(kept h N).1 B;rw[e]at hp;cases hp
theorem HB(h:nT s){m:Nat}{c:gq}(I:s.C[m]? =some c):jR (oJ s.C 0) c.dg=(m:Int):=by
 unfold jR;rw[kU h.nd I,bE];rfl
theorem TN(h:nT s):(s.C.map gq.dg).Pairwise fun a b=>jR (oJ s.C 0) a<jR (oJ s.C 0) b:=by
 rw[List.pairwise_iff_getElem];intro i j hi hj PA;rw[aT]at hi hj;rw[List.getElem_map,List.getElem_map,HB h (ay hi),HB h (ay hj)];omega
theorem D5(h:nT s)(hl:s.C.length<=1000000)(x:L):0<=jR (oJ s.C 0) x/\jR (oJ s.C 0) x<1000000000:=by
 rcases AR s.C x with q|⟨j,c,hj,rfl⟩
 . unfold jR;rw[qv q];exact⟨dU,dU⟩
 . rw[HB h hj];have:=(aG.1 hj).1;omega
theorem TO(h:nT s):YV (oJ s.C 0):=fun x=>by
 rcases AR s.C x with q|⟨j,c,hj,rfl⟩
 . exact .inl (qv q)
 . exact .inr ⟨_,_,_,kU h.nd hj⟩
theorem D6(h:nT s)(x:L):x∈(iX s).C.map gq.dg↔∃m c,s.C[m]? =some c/\c.dg=x/\RI s m:=by
 rw[bA];constructor
 . rintro⟨c,I,rfl⟩;obtain⟨i,hi⟩:=bL.1 I;obtain⟨m,N,B,_⟩:=s7 s.C (fD s) i c hi;exact⟨m,c,N,rfl,(kept h N).1 B⟩
 . rintro⟨m,c,W,rfl,hr⟩;exact⟨c,AS W ((kept h W).2 hr),rfl⟩
theorem Pn(h:nT s)(g:Ej aa s):List.Perm ((iX s).C.map gq.dg) (qj aa.Q aa.F (s.C.length+1)):=by
 refine Hz (ND h).nd ((JF (vU h g)).nd List.nodup_nil) fun x=>?_;rw[D6 h,JG (vU h g),g.Q];constructor
 . rintro⟨m,c,W,rfl,c',N,p,hp,q⟩;rw[W]at N;cases N;exact⟨p.2,(vT h g _).2 ⟨p,hp,rfl⟩,q⟩
 . rintro⟨d,hd,q⟩;obtain⟨p,hp,rfl⟩:=(vT h g d).1 hd;obtain⟨c,I,rfl⟩:=Tt h q (h.rv p hp).2;obtain⟨m,W⟩:=bL.1 I;exact⟨m,c,W,rfl,c,W,p,hp,q⟩
theorem Po(h:nT s)(g:Ej aa s):oa aa.Q aa.F ((iX s).C.map gq.dg)=mj (iX s):=by
 unfold oa mj;congr 1
 . rw[List.map_map];refine List.map_congr_left fun c I=>?_;obtain⟨j,hj⟩:=bL.1 ((qx s.C (fD s)).subset I);show zF aa.Q c.dg=_;rw[g.Q];exact Ho (kU h.nd hj)
 . rw[vS h g,List.map_map];refine List.map_congr_left fun p hp=>?_;have hp:p∈s.ro:=hp;show jB.root p.1 (rcV aa.F p.1)=_;unfold rcV;rw[g.lk,um h hp,aI (h.wX hp)]
end
theorem D7(t:RS):(mj t).length=t.C.length+t.ro.length:=by unfold mj;rw[ax,aT,aT]
theorem JR{p:gZ}{cV:List jB}{k:Nat}{l:List RS}(h:pH p cV k l)(hB:cV.length<=2500):
  ∃q,AO 19 [] p (.int .i64 0) q/\pH q (mj (iX (fq cV))) (mj (iX (fq cV))).length [iX (fq cV)]/\(mj (iX (fq cV))).length<=cV.length+18:=by
 obtain⟨hw,hg,oO,iy,Nf⟩:=h.all K;have hwc:=ND hw;have hv:=acn hwc;have iQ:(mj (iX (fq cV))).length<=cV.length+18:=by
  rw[D7];have N:(iX (fq cV)).C.length<=(fq cV).C.length:=JQ _ _;have B:=hwc.TL;omega
 have Zh:[iX (fq cV)]=oK (mj (iX (fq cV))) (mj (iX (fq cV))).length:=by rw[q8,hv.2]
 by_cases xq:(fq cV).ro=[]
 . have hcn:iX (fq cV)=⟨[],[]⟩:=by
    have N:=TM hw xq;have B:(iX (fq cV)).ro=[]:=xq;cases q:iX (fq cV)with
    |mk a b=>rw[q]at N B;simp only at N B;rw[N,B]
   have UN:mj (iX (fq cV))=[]:=by rw[hcn];rfl
   have J5:(jc cV).F=[]:=by
    have:=sY hw hg;rw[xq]at this;exact cJ.1 this
   refine⟨sZ 0 0 0,?_,⟨.inl ⟨UN,rfl⟩,hv.1,aA _,Zh⟩,iQ⟩;rcases h.JN with⟨e0,e⟩|⟨A,sg,zS,e⟩
   . rw[e];exact acu 0 0 0
   . rw[e];unfold Xo;rw[J5];exact Xj (by rw[hg.Q];exact TO hw) (by rw[hg.Q];exact D5 hw K)
 . rcases h.JN with⟨e0,e⟩|⟨A,sg,zS,e⟩
   . exact absurd (by rw[e0];rfl) xq
   . have avr:=(Cc hv.1 wf0 ack (by show 0+_<=1000000;omega)).2.2.2;have Wc:=Pn hw hg;have Zi:=Po hw hg;have avs:((iX (fq cV)).C.map gq.dg).length<=cV.length:=by
      rw[aT];exact bX (JQ _ _) oO
     have Zt:(iX (fq cV)).C.map gq.dg≠[]:=by
      obtain⟨pr,rest,hpr⟩:=List.exists_cons_of_ne_nil xq;have hp:pr∈(fq cV).ro:=by rw[hpr];simp
      obtain⟨c,I,e2⟩:=(hw.rv pr hp).2;obtain⟨j,hj⟩:=bL.1 I;have:c.dg∈(iX (fq cV)).C.map gq.dg:=(D6 hw _).2 ⟨j,c,hj,rfl,(Hx hw hj).2 (.inl ((D0 _ _).2 ⟨pr,hp,e2.symm⟩))⟩;exact fun z=>by rw[z]at this;cases this
     have I:=We (dc cV).length A (dc cV) (Int.ofNat (dc (cV.take k)).length) (jc cV).R 0 (jc cV).Q (jc cV).F ((fq cV).C.length+1) ((iX (fq cV)).C.map gq.dg) hg.key (vU hw hg)
      (by rw[<- Wc.length_eq];omega) (by rw[hg.Q];exact TO hw) (by rw[hg.Q];exact D5 hw K) Wc
      (by rw[hg.Q];exact(TN hw).sublist ((qx _ _).map _))
      (fun x G=>by
       obtain⟨m,c,W,rfl,_⟩:=(D6 hw x).1 G;have hl:=kU (i:=0) hw.nd W;rw[<- hg.Q]at hl;refine⟨⟨_,_,_,hl⟩,?_⟩;rw[Ho hl];obtain⟨n1,n2,n3⟩:=hw.nm c (bf W);exact⟨K,K,fun r hr=>by
        obtain⟨j,c',_,hj,e3⟩:=hw.ref m c W r hr;rw[<- e3];exact hw.D1 (bf hj)⟩)
      (fun nm hnm=>by
       rw[vS hw hg]at hnm;obtain⟨pr,hp,rfl⟩:=bA.1 hnm;have hl:=hg.lk pr.1;rw[um hw hp,aI (hw.wX hp)]at hl;refine⟨⟨_,hl⟩,?_⟩;have:DI (jc cV).F pr.1= .root pr.1 pr.2:=by unfold DI rcV;rw[hl]
       rw[this];obtain⟨⟨y,hy,_⟩,c,hcm,e3⟩:=hw.rv pr hp;have:[y].length=1:=rfl;have h32:=hw.D1 hcm;exact⟨by rw[hy];omega,by rw[<- e3];omega⟩)
      (by rw[sY hw hg];have:=hw.TL;omega) (by rw[Zi];omega) Zt (fun z=>xq (by
       have:=sY hw hg;rw[z]at this;exact cJ.1 this.symm))
     rw[Zi]at I;refine⟨_,by rw[e];exact acv I,⟨.inr ⟨(dc (mj (iX (fq cV)))).length,?_,aA _,?_⟩,hv.1,aA _,Zh⟩,iQ⟩
     . have fU:mj (iX (fq cV))≠[]:=fun z=>Zt (by
        have:=aN List.length z;rw[D7]at this;exact cJ.1 (by rw[aT];simp at this;exact this.1▸rfl))
       obtain⟨r,rest,hr⟩:=List.exists_cons_of_ne_nil fU;rw[hr,kE,ax];have:=oI (r:=r);omega
     . rw[aU]
abbrev lvS(cV:List jB):L->Bool:=fun d=>decide (d∈qj (jc cV).Q (jc cV).F ((fq cV).C.length+1))
abbrev yvS(cV:List jB):L->L:=fun x=>gX x (fq cV).ro
theorem zT{p:gZ}{cV:List jB}{k:Nat}{l:List RS}(h:pH p cV k l)(hB:cV.length<=3000):Obs p (fq cV).C.length ((fq cV).ro.map Prod.fst) (fq cV).C (lvS cV) (yvS cV):=by
 obtain⟨hw,hg,oO,iy,Nf⟩:=h.all K;rcases h.JN with⟨e0,e⟩|⟨A,sg,zS,e⟩
 . subst e0;rw[e];exact ahO 0 0 0 _ _
 . rw[e,<- vS hw hg];have iQ:(fq cV).C.length=(jc cV).Q.length:=by rw[hg.Q,JC]
   have tc:yd (jc cV).F:=fun e he=>by obtain⟨n,d,rfl⟩:=hg.key e he;exact⟨n,rfl⟩
   have:=ahN (dc cV).length A (dc cV) (Int.ofNat (dc (cV.take k)).length) (jc cV).R 0 (jc cV).Q (jc cV).F (fq cV).C ((fq cV).C.length+1) (yvS cV) tc (by rw[sY hw hg];have:=hw.TL;omega) hg.key (vU hw hg)
    (fun c I=>by
     obtain⟨j,hj⟩:=bL.1 I;refine⟨by have:=(hw.nm c I).2.2;omega,((0+j:Nat):Int),?_⟩;rw[hg.Q];exact kU hw.nd hj)
    (fun x G=>by
     rw[vS hw hg]at G;obtain⟨pr,hp,rfl⟩:=bA.1 G;rw[hg.lk,um hw hp,aI (hw.wX hp)];show some (rs.str pr.2)=some (rs.str (gX pr.1 (fq cV).ro));rw[um hw hp])
   rw[<- iQ]at this;exact this
theorem FU:∀(l:List jB) (s:RS),s.C <+: (l.foldl zY s).C
 | [],s=>List.prefix_refl _
 |r::l,s=>by
  refine List.IsPrefix.trans ?_ (FU l (zY s r));cases r with
  |chunk d D=>exact List.prefix_append _ _
  |root n x=>exact List.prefix_refl _
theorem By(cV:List jB)(i:Nat):(fq (cV.take i)).C <+: (fq cV).C:=by
 have:fq cV=(cV.drop i).foldl zY (fq (cV.take i)):=by
  unfold fq;rw[<- List.foldl_append,cn]
 rw[this];exact FU _ _
theorem Xr{cV:List jB}{i j:Nat}(h:(fq (cV.take j)).C.length=(fq (cV.take i)).C.length):(fq (cV.take i)).C=(fq (cV.take j)).C:=by
 have N:=By cV i;have B:=By cV j;exact(List.prefix_of_prefix_length_le N B K).eq_of_length h.symm
theorem TP{aa:LS}{t:RS}(hw:nT t)(hg:Ej aa t):t.C.map (fun c=>decide (c.dg∈qj aa.Q aa.F (t.C.length+1)))=fD t:=by
 refine List.ext_getElem? fun i=>?_;rw[bu];by_cases h:i<t.C.length
 . have I:t.C[i]? =some t.C[i]:=ay h;have hr:(fD t)[i]? =some ((fD t)[i]'(by rw[xB hw];exact h)):=ay _;have hl:=TB hw hg I;rw[aM,hr]at hl;rw[I,hr];exact aN some hl.symm
 . rw[bN K,bN (by rw[xB hw];omega)];rfl
section
variable{p:gZ}{cV:List jB}{k:Nat}{l:List RS}
theorem TQ{t:RS}(hw:nT t):(t.ro.map Prod.fst).map (fun x=>(x,gX x t.ro))=t.ro:=by
 rw[List.map_map];have:∀p∈t.ro,((fun x=>(x,gX x t.ro)) ∘ Prod.fst) p=p:=fun p hp=>by
  show(p.1,gX p.1 t.ro)=p;rw[um hw hp]
 rw[List.map_congr_left this,List.map_id']
theorem TR(hw:nT (fq cV))(hg:Ej (jc cV) (fq cV)){w:RS}(JS:(fq cV).C.length=w.C.length->w.C=(fq cV).C):
  sW (fq cV).C.length ((fq cV).ro.map Prod.fst) (lvS cV) (yvS cV) w=true↔w=fq cV:=by
 unfold sW;rw[aC,aC,aC,decide_eq_true_iff,decide_eq_true_iff,decide_eq_true_iff,decide_eq_true_iff];have hrm:=TQ hw;constructor
 . rintro⟨N,_,_,h4⟩;have h5:=JS N;have h4:(fq cV).ro=w.ro:=hrm.symm.trans h4;cases w with
   |mk a b=>simp only at h5 h4;rw[h5,<- h4]
 . rintro rfl;exact⟨rfl,by rw[aT],TP hw hg,hrm⟩
theorem JT(hw:nT (fq cV))(hg:Ej (jc cV) (fq cV)){w:RS}(JS:(fq cV).C.length=w.C.length->w.C=(fq cV).C)(b:Prop)[Decidable b](hb:w=fq cV↔b):
  sW (fq cV).C.length ((fq cV).ro.map Prod.fst) (lvS cV) (yvS cV) w=decide b:=by
 have h:=TR hw hg JS;by_cases c:b
 . rw[bQ c];exact h.2 (hb.2 c)
 . rw[bC c];cases q:sW (fq cV).C.length ((fq cV).ro.map Prod.fst) (lvS cV) (yvS cV) w with
   |false=>rfl
   |true=>exact absurd (hb.1 (h.1 q)) c
theorem JU{s:RS}(h:NC s cV)(i:Nat):NC s (cV.take i):=by
 rw[<- cn i cV]at h;exact(Cb.1 h).1
theorem Xs{α:Type}(P:α->Prop)(l:List α)(cQ i0:Nat)(a0:α)(h0:l[i0]? =some a0)(hp:P a0)(hT:i0<cQ):∃(j:Nat) (a:α),i0<=j/\j<cQ/\l[j]? =some a/\P a/\∀(i:Nat) (b:α),j<i->i<cQ->l[i]? =some b->¬P b:=by
 induction cQ with
 |zero=>omega
 |succ cQ ih=>
  by_cases hq:∃b,l[cQ]? =some b/\P b
  . obtain⟨b,N,B⟩:=hq;exact⟨cQ,b,K,K,N,B,fun i c hi zX=>by omega⟩
  . have fU:i0≠cQ:=fun e=>hq ⟨a0,by rw[<- e];exact h0,hp⟩;obtain⟨j,a,N,B,h3,h4,h5⟩:=ih K;refine⟨j,a,N,K,h3,h4,fun i b hi zX hb=>?_⟩;by_cases e:i=cQ
    . subst e;exact fun z=>hq ⟨b,hb,z⟩
    . exact h5 i b hi K hb
theorem acy{n f t0:Nat}(hf:f<=n)(hn:n<=1000000)(ht:t0<=255):V.int aj (IntKind.i64.wrap (Int.ofNat f+IntKind.i64.wrap ((IntKind.i64.wrap (IntKind.i64.wrap ((Int.ofNat n)-Int.ofNat f)*Int.ofNat t0)).tdiv (255:Int))))=iW (f+(n-f)*t0/255)/\f+(n-f)*t0/255<=n:=by
 have N:(n-f)*t0<=(n-f)*255:=Nat.mul_le_mul_left _ ht;have B:(n-f)*t0/255<=n-f:=Nat.div_le_of_le_mul (by rw[Nat.mul_comm 255];exact N);refine⟨?_,K⟩;have e1:IntKind.i64.wrap ((Int.ofNat n)-Int.ofNat f)=((n-f:Nat):Int):=by
  rw[fK dm dm,kr,kr];omega
 have e2:((n-f:Nat):Int)*Int.ofNat t0=(((n-f)*t0:Nat):Int):=by rw[kr];exact(Int.natCast_mul _ _).symm
 rw[e1,e2,lO K];have e3:((((n-f)*t0:Nat):Int)).tdiv 255=(((n-f)*t0/255:Nat):Int):=by
  rw[Int.tdiv_eq_ediv_of_nonneg K];rfl
 rw[e3,lO K];exact aN _ (by rw[kr,fK K K,kr];omega)
def Xt(cV:List jB)(k kk:Nat):Nat:=(dc (cV.take k)).length+((dc cV).length-(dc (cV.take k)).length)*(kk%256)/255
theorem Xu(h:pH p cV k l)(hB:cV.length<=2500)(kk:Nat)(hk:kk<=1000000):
  ∃(q:gZ) (j:Nat),(p.lo=none\/q.lo≠none)/\IsC (kk:Int) p q/\j<=cV.length/\k<=j/\pH q (cV.take j) j [fq (cV.take j)]/\(dc (cV.take j)).length<=Xt cV k kk/\∀i,i<=cV.length->(dc (cV.take i)).length<=Xt cV k kk->i<=j:=by
 obtain⟨hw,hg,oO,iy,Nf⟩:=h.all K;have PK:=h.kle;have ahR:kk%256<=255:=by have:=Nat.mod_lt kk (show 0<256 by decide);omega
 have Uf:=vV cV PK;rw[aU]at Uf;rcases h.JN with⟨e0,e⟩|⟨A,sg,zS,e⟩
 . have Px:k=0:=by rw[e0]at PK;simpa using PK
   exact⟨sZ 0 0 0,0,.inl (by rw[e];rfl),by rw[e];exact Xl kk hk,aX _,K,⟨.inl ⟨rfl,rfl⟩,trivial,aA _,(q8 []).symm⟩,aX _,fun i hi _=>by rw[e0]at hi;exact hi⟩
 . obtain⟨c1,c2⟩:=acy (n:=(dc cV).length) (f:=(dc (cV.take k)).length) (t0:=kk%256) Uf K ahR;obtain⟨j,x,N,B,h3,h4,h5⟩:=TE iy c2;have Yl:k<=j:=h4 k PK K;have aqw:∀r∈cV.take j,r.ok:=fun r hr=>iy r (List.mem_of_mem_take hr);have EO:=Xk (n:=(dc cV).length) (A:=A) (b:=dc cV) (X:=Int.ofNat (dc (cV.take k)).length) (R:=(jc cV).R) (O:=0) (Q:=(jc cV).Q) (F:=(jc cV).F) kk hk _ (cV.take j) x c1 c2 K aqw B h3 K;have Pz:(cV.take j).length=j:=by rw[aZ];omega
   refine⟨Xo (cV.take j) (dc (cV.take j)).length A,j,.inr (fun z=>by cases z),by rw[e];exact EO,N,Yl,⟨.inr ⟨A,sg,K,?_⟩,JU h.val j,K,?_⟩,h5,h4⟩
   . rw[show(cV.take j).take j=cV.take j from bq K]
   . rw[show oK (cV.take j) j=oK (cV.take j) (cV.take j).length by rw[Pz]];exact(q8 _).symm
theorem Pp{j:Nat}(hj:j<=cV.length)(hk:k<=j)(h:(dc (cV.take j)).length<=(dc (cV.take k)).length):j=k:=by
 by_cases c:k<j
 . exfalso;have W:=vV cV (i:=k+1) (j:=j) c;have hs:dc (cV.take (k+1))=dc (cV.take k)++(cV[k]'(by omega)).bytes:=Br K;have hb:=oI (r:=cV[k]'(by omega));rw[hs,ax]at W;omega
 . omega
theorem FV(h:pH p cV k l)(hB:cV.length<=2500)(kk:Nat)(hk:kk<=1000000):
  ∃(q:gZ) (j j0:Nat),(p.lo=none\/q.lo≠none)/\IsC (kk:Int) p q/\j<=cV.length/\k<=j/\pH q (cV.take j) j [fq (cV.take j)]/\Ze kk l<=j0/\j0<FL kk l/\l[j0]? =some (fq (cV.take j))/\
   ∀(i:Nat) (w:RS),l[i]? =some w->j0<=i->i<FL kk l->(w=fq (cV.take j)↔i=j0):=by
 have PK:=h.kle;have ahR:kk%256<=255:=by have:=Nat.mod_lt kk (show 0<256 by decide);omega
 have hll:l.length=cV.length-k+1:=by rw[h.fH,D3]
 have Uf:=vV cV PK;rw[aU]at Uf;obtain⟨q,j,k1,k2,k3,k4,k5,u1,u2⟩:=Xu h hB kk hk;have k6:kk%256=0->j=k:=fun h0=>Pp k3 k4 (by unfold Xt at u1;rw[h0,Nat.mul_zero,Nat.zero_div,Nat.add_zero]at u1;exact u1);have k7:kk%256=255->j=cV.length:=fun h0=>by
  have:cV.length<=j:=u2 cV.length (aA _) (by unfold Xt;rw[aU,h0,Nat.mul_div_cancel _ dU];omega);omega
 have hT:FL kk l<=l.length:=by unfold FL;split<;>omega
 have hjT:Ze kk l<=j-k/\j-k<FL kk l:=by
  unfold Ze FL;by_cases a:kk%256=0
  . have:=k6 a;rw[aH a,aI K];omega
  . rw[aI a];by_cases b:kk%256=255
    . have:=k7 b;rw[aH b];omega
    . rw[aI b];omega
 have jZ:l[j-k]? =some (fq (cV.take j)):=by
  rw[h.fH,D4 PK K,show k+(j-k)=j by omega]
 obtain⟨j0,a,b1,b2,b3,b4,b5⟩:=Xs (fun w=>w=fq (cV.take j)) l (FL kk l) (j-k) _ jZ rfl hjT.2;refine⟨q,j,j0,k1,k2,k3,k4,k5,K,b2,by rw[b3,b4],fun i w hi N B=>?_⟩;constructor
 . intro e;by_cases c:i=j0
   . exact c
   . exact absurd e (b5 i w K B hi)
 . rintro rfl;rw[b3]at hi;cases hi;exact b4
end
section
variable{p:gZ}{cV:List jB}{k:Nat}{l:List RS}
theorem Xv(h:pH p cV k l)(hB:cV.length<=3000){i:Nat}{w:RS}(hi:l[i]? =some w):k+i<=cV.length/\w=fq (cV.take (k+i))/\nT w/\w.C.length<=cV.length:=by
 have PK:=h.kle;have fI:i<l.length:=(aG.1 hi).1;rw[h.fH,D3]at fI;have e:w=fq (cV.take (k+i)):=by
  rw[h.fH,D4 PK K]at hi;exact(cF hi).symm
 have hv:=Cc (JU h.val (k+i)) wf0 ack (by show 0+_<=1000000;rw[aZ];omega);refine⟨K,e,by rw[e];exact hv.1,?_⟩;rw[e];have B:=hv.2.2.1;have h3:(gM.C.length)=0:=rfl;rw[h3,aZ]at B;exact bX B K
theorem Xw(h:pH p cV k l)(hB:cV.length<=2500)(hl:l.length<=900)(x y z:Nat)(d:L)(hy:y<=255)(hz:z<=255):
  ∃q nf k' l',cW ak 27 [P3,r9 x y z d] (J (gI p l)) 9 (.bool true) (J (wU q l')) (nR q)/\pH q nf k' l'/\nf.length<=cV.length+18/\l'.length<=l.length+1:=by
 obtain⟨hw,hg,oO,iy,Nf⟩:=h.all K;have h32:∀c∈(fq cV).C,c.dg.length=32:=fun c I=>hw.D1 I;have h5:=hw.TL;have H6:∀c∈(fq cV).C,c.D.length<=100000:=fun c I=>by have:=(hw.nm c I).2.2;omega
 have oM:l=pE cV k++[fq cV]:=h.fH;have hpi:(pE cV k).length<=900:=by
  have:=aN List.length oM;rw[ax]at this;omega
 have Qn:∀r:RR,(ql l r).length<=l.length+1:=fun r=>by
  unfold ql;split
  . rw[ax];exact aA _
  . exact Nat.le_succ _
 have G:x%10<10:=Nat.mod_lt _ dU;rcases(by omega:x%10<=3\/(4<=x%10/\x%10<=6)\/x%10=7\/x%10=8\/x%10=9)with c|⟨c,c2⟩|c|c|c
 . have HG:=FK h32 y z;obtain⟨q,nf,a1,a2,a3,a4⟩:=uo h hB (d.take 60) (kH (fq cV) y z) (by rw[aZ];omega) K HG.2 (fun e0=>by
    have:(fq cV).C.length=0:=by rw[e0];rfl
    unfold kH;rw[aI K,ck];split<;>simp)
   have:=apW p q _ _ x y z d c (m64 p q (pE cV k) (fq cV) x y z d hy hz K K h32 K a2);rw[<- oM]at this;exact⟨q,nf,k,_,this,a3,K,Qn _⟩
 . obtain⟨q,nf,a1,a2,a3,a4⟩:=JP h hB (Xp y) (ux (fq cV) y z) (by
    unfold ux;split
    . exact .inl rfl
    . exact .inr (AP h32 z))
   have:=apX p q _ _ x y z d c c2 (m65 p q (pE cV k) (fq cV) x y z d hy hz K K K a2);rw[<- oM]at this;exact⟨q,nf,k,_,this,a3,K,Qn _⟩
 . obtain⟨q,a1,a2,a3⟩:=Pm h;have:=apZ p q (pE cV k) x y z d (fq cV) c K a2;rw[<- oM]at this;exact⟨q,cV,cV.length,_,this,a3,K,by simp⟩
 . obtain⟨q,a2,a3,a4⟩:=JR h hB;have:=ap0 p q (pE cV k) (fq cV) x y z d c K K K H6 a2;rw[<- oM]at this;exact⟨q,_,_,_,this,a3,K,by simp⟩
 . have EU:WS y z<=1000000:=by
    unfold WS;have:1+z%2*3<=4:=by omega
    exact bX (Nat.mul_le_mul hy this) dU
   obtain⟨q,j,j0,a1,a2,a3,a4,a5,a6,a7,a8,a9⟩:=FV h hB (WS y z) EU;have wj:0<l.length:=by rw[oM,ax];simp
   have Pz:(cV.take j).length=j:=by rw[aZ];omega
   obtain⟨PC,hg2,zS,_,_⟩:=a5.all K;have aqx:=zT a5 K;have hsm:∀(i:Nat) (w:RS),l[i]? =some w->j0<=i->i<FL (WS y z) l->cW ak 28 [P3,w.v] (J (gI q l)) 9 (.bool (decide (i=j0))) (J (gI q l)) 9:=by
    intro i w hi N B;obtain⟨b1,b2,b3,b4⟩:=Xv h K hi;have JS:(fq (cV.take j)).C.length=w.C.length->w.C=(fq (cV.take j)).C:=fun e=>by
     rw[b2]at e ⊢;exact Xr e
    have:=m28 q l w aqx JS (by rw[aT];have:=PC.TL;omega) K (fun c I=>by have:=(b3.nm c I).2.2;omega);rw[JT PC hg2 JS (i=j0) (a9 i w hi N B)]at this;exact this
   exact⟨q,cV.take j,j,_,apY p q _ _ x y z d c hy (c67 p q l _ EU K wj j0 _ ⟨a6,a7⟩ a8 a2 hsm),a5,K,by simp⟩
end
theorem cW.acz{f:FuncId}{a b:V}{h N:H lf}{n n1:Nat}{v:V}(c:cW ak f [a,b,.dS false 0 []] h n v N n1):cW ak f [a,b,eM] h n v N n1:=by
 intro E w de ra g hd;obtain⟨a',_,ha,⟨b',_,hb,⟨x',_,G,hn,rfl⟩,rfl⟩,rfl⟩:=ra;obtain⟨_,_,rfl⟩:0=0/\0=0/\x'= .slice none 0 0:=G;exact c E w _ ⟨a',_,ha,⟨b',_,hb,⟨_,_,⟨⟨none,0,[],rfl,aA _,rfl,fun _=>rfl,fun h=>absurd h (cG _)⟩,fun _=>⟨none,rfl⟩⟩,hn,rfl⟩,rfl⟩,rfl⟩ g hd
section
variable{p:gZ}{cV:List jB}{k:Nat}{l:List RS}
theorem pH.last{s:RS}(h:pH p cV k (l++[s])):fq cV=s:=by
 have:=(List.append_inj' h.fH rfl).2;cases this;rfl
theorem pH.log(h:pH p cV k l)(fU:fq cV≠gM):∃q n j b,p=pc q n j b:=by
 rcases h.JN with⟨e,_⟩|⟨A,_,_,e⟩
 . subst e;exact absurd rfl fU
 . exact⟨_,_,_,_,e⟩
end
noncomputable abbrev Uw(k:Nat):Code:=dP (dh k Vy)
theorem y_1:c9 Bq [] 3 Tryz.f13 [1] (eV 2 Vy) (cU [] (Ed gS gR) 3) [([],[],.to .normal (eG [(1,P3)] (J [(0,.ints .u32 gS),(1,.ints .u32 gR),(3,.cells [.dj none 0 0 0,.int .i64 0,.map (some 4),.map (some 5),.int .i64 0,.bool false,.bool false,.int .i64 0]),(4,.map [] 0),(5,.map [] 0)]) 6))]:=
 cR.of U U U
section
variable(p q:gZ)(n k m j:Nat)(b u:L)(a:L)
theorem y_2:c9 (fG Bq 15 [P3,.str [120],eM] (RK 0 0 0 [] []) 6 (.ew [.str a,qu],J (DS 6 7 8 (pc q m j u)),9)) [] 3 Tryz.f13 [1,2,3] (Uw 2) (eG [(1,P3)] (RK 0 0 0 [] []) 6) [([],[fC [P3,.str [120],eM] (RK 0 0 0 [] []) 6],.to .normal (Fw [(2,.str a),(3,qu)] (pc q m j u)))]:=
 cR.of U U U
theorem y_3(d:L):c9 (fG Bq 15 [P3,.str [121],.dj (some (7,0)) 1 1 1] (J (eK (pc p n k b)++[(7,.cells [.str a])])) 8 (.ew [.str d,qu],J (DS 8 9 10 (pc q m j u)),11)) [] 3 Tryz.f13 [1,3,4,5] (Uw 3) (Fw [(2,.str a),(3,qu)] (pc p n k b)) [([],[fC [P3,.str [121],.dj (some (7,0)) 1 1 1] (J (eK (pc p n k b)++[(7,.cells [.str a])])) 8],.to .normal (Fw [(3,qu),(4,.str d),(5,qu)] (pc q m j u)))]:=
 cR.of U U U
theorem y_4:c9 (fG Bq 16 [P3,.str [114],.str a] (eu (pc p n k b)) 7 (qu,J (stR (pc q m j u)),10)) [] 3 Tryz.f13 [1,3,5,6] (Uw 4) (Fw [(3,qu),(4,.str a),(5,qu)] (pc p n k b)) [([],[fC [P3,.str [114],.str a] (eu (pc p n k b)) 7],.to .normal (Fw [(3,qu),(5,qu),(6,qu)] (pc q m j u)))]:=
 cR.of U U U
theorem y_5:c9 (fG Bq 15 [P3,.str [122],eM] (eu (pc p n k b)) 7 (.ew [.str a,qu],J (stR (pc q m j u)),10)) [] 3 Tryz.f13 [1,3,5,6,8] (Uw 5) (Fw [(3,qu),(5,qu),(6,qu)] (pc p n k b)) [([],[fC [P3,.str [122],eM] (eu (pc p n k b)) 7],.to .normal (Fw [(3,qu),(5,qu),(6,qu),(8,qu)] (pc q m j u)))]:=
 cR.of U U U
noncomputable abbrev csY(v:V):fb:=fG Bq 20 [P3] (eu (pc p n k b)) 7 (v,eu (pc p n k b),7)
abbrev frY:List (Nat×V):=[(3,qu),(5,qu),(6,qu),(8,qu)]
theorem y_6:c9 (csY p n k b (.int .i64 3)) [] 3 Tryz.f13 [1,3,5,6,8,9] (Uw 6) (Fw frY (pc p n k b)) [([],[fC [P3] (eu (pc p n k b)) 7],.to .normal (Fw (frY++[(9,.int .i64 3)]) (pc p n k b)))]:=
 cR.of U U U
theorem y_7:c9 (fG Bq 19 [P3] (eu (pc p n k b)) 7 (qu,J (stR (pc q m j u)),10)) [] 3 Tryz.f13 [1,3,5,6,8,9,10] (Uw 7) (Fw (frY++[(9,.int .i64 3)]) (pc p n k b)) [([],[fC [P3] (eu (pc p n k b)) 7],.to .normal (Fw (frY++[(9,.int .i64 3),(10,qu)]) (pc q m j u)))]:=
 cR.of U U U
abbrev Zj:List (Nat×V):=frY++[(9,.int .i64 3),(10,qu),(11,.int .i64 2)]
theorem y_8:c9 (csY p n k b (.int .i64 2)) [] 3 Tryz.f13 [1,3,5,6,8,9,10,11] (Uw 8) (Fw (frY++[(9,.int .i64 3),(10,qu)]) (pc p n k b)) [([],[fC [P3] (eu (pc p n k b)) 7],.to .normal (Fw Zj (pc p n k b)))]:=
 cR.of U U U
theorem y_9:c9 (fG Bq 15 [P3,.str [119],eM] (eu (pc p n k b)) 7 (.ew [.str a,qu],J (stR (pc q m j u)),10)) [] 3 Tryz.f13 [1,3,5,6,8,9,10,11,13] (Uw 9) (Fw Zj (pc p n k b)) [([],[fC [P3,.str [119],eM] (eu (pc p n k b)) 7],.to .normal (Fw (Zj++[(13,qu)]) (pc q m j u)))]:=
 cR.of U U U
theorem aqz:c9 (fG Bq 31 [P3,.dj (some (7,0)) 1 1 1] (J (eK (pc p n k b)++[(7,.cells [.int .i64 0])])) 8 (.ew [],J (crR (pc q m j u)),11)) [] 3 Tryz.f13 [1,3,5,6,8,9,10,11,13] (Uw 10) (Fw (Zj++[(13,qu)]) (pc p n k b)) [([],[fC [P3,.dj (some (7,0)) 1 1 1] (J (eK (pc p n k b)++[(7,.cells [.int .i64 0])])) 8],.to .normal (Fw (Zj++[(13,qu)]) (pc q m j u)))]:=
 cR.of U U U
theorem aqA:c9 (fG Bq 15 [P3,.str [119],.dj (some (7,0)) 1 1 1] (J (eK (pc p n k b)++[(7,.cells [.str (Ex [113])])])) 8 (.ew [.str [],.int .i64 63],J (DS 8 9 10 (pc q m j u)),11)) [] 3 Tryz.f13 [1,3,5,6,8,9,10,11,13,15] (Uw 11) (Fw (Zj++[(13,qu)]) (pc p n k b)) [([],[gS=gS,gR=gR,1<=1000000000,fC [P3,.str [119],.dj (some (7,0)) 1 1 1] (J (eK (pc p n k b)++[(7,.cells [.str (Ex [113])])])) 8],.to .normal (Fw (Zj++[(13,qu),(15,.int .i64 63)]) (pc q m j u)))]:=
 cR.of U U U
theorem aqB:c9 (csY p n k b (.int .i64 2)) [] 3 Tryz.f13 [] (dh 12 Vy) (Fw (Zj++[(13,qu),(15,.int .i64 63)]) (pc p n k b)) [([],[fC [P3] (eu (pc p n k b)) 7],.ret (.bool true) (J [(0,.ints .u32 gS),(1,.ints .u32 gR)]) 3)]:=
 cR.of U U U
end
abbrev s1R:RS:=⟨[⟨dA,[120],[]⟩],[]⟩
abbrev s2R:RS:=⟨[⟨dA,[120],[]⟩,⟨dB,[121],[dA]⟩],[]⟩
abbrev Xx:RS:=⟨[⟨dA,[120],[]⟩,⟨dB,[121],[dA]⟩],[([114],dB)]⟩
abbrev s4R:RS:=⟨[⟨dA,[120],[]⟩,⟨dB,[121],[dA]⟩,⟨dZ,[122],[]⟩],[([114],dB)]⟩
abbrev s6R:RS:=⟨[⟨dA,[120],[]⟩,⟨dB,[121],[dA]⟩,⟨dW,[119],[]⟩],[([114],dB)]⟩
theorem ahT:ij gM [120] []=⟨s1R,dA,0,true⟩:=by unfold ij;rw[afk];kernel_rfl
theorem ahU:ij s1R [121] [dA]=⟨s2R,dB,0,true⟩:=by unfold ij;rw[YR];kernel_rfl
theorem ahV:pC s2R [114] dB=⟨Xx,[],0,true⟩:=by kernel_rfl
theorem ahW:ij Xx [122] []=⟨s4R,dZ,0,true⟩:=by unfold ij;rw[afl];kernel_rfl
theorem ahX:iX s4R=Xx:=by kernel_rfl
theorem ahY:ij Xx [119] []=⟨s6R,dW,0,true⟩:=by unfold ij;rw[afm];kernel_rfl
theorem ahZ:ij Xx [119] [Ex [113]]=⟨Xx,[],63,false⟩:=by rw[YS];unfold ij;kernel_rfl
section
variable{p:gZ}{cV:List jB}{k:Nat}{l:List RS}{s:RS}
theorem pH.to(h:pH p cV k (l++[s]))(hs:0<s.C.length):fq cV=s/\∃q n j b,p=pc q n j b:=
 ⟨h.last,h.log fun z=>by rw[<- h.last,z]at hs;exact absurd hs (cG 0)⟩
theorem pH.y5(h:pH p cV k l)(hB:cV.length<=3000)(e:fq cV=s):cW ak 20 [P3] (eu p) 7 (.int .i64 (Int.ofNat s.C.length)) (eu p) 7:=e▸(zT h hB).h20
theorem NH{q:gZ}{n k m j:Nat}{b u d a x:L}{z:Int}(c:AO 15 [.str d,ni [a]] (pc p n k b) (.ew [.str x,.int .i64 z]) (pc q m j u)):
  cW ak 15 [P3,.str d,.dj (some (7,0)) 1 1 1] (J (eK (pc p n k b)++[(7,.cells [.str a])])) 8 (.ew [.str x,.int .i64 z]) (J (DS 8 9 10 (pc q m j u))) 11:=by
 have e:cW ak 15 [P3,.str d,ni [a]] (J (eK (pc p n k b))) 8 (.ew [.str x,.int .i64 z]) (J (DS 8 9 10 (pc q m j u))) 11:=xb (ns:=ns7) (l1:=eK (pc p n k b)) c 8 U;refine cW.YT (ms:=[7]) (cS:=[[rs.str a].length=1*1]) (rO:=[P3,.str d,ni [a]]) (B:=((J (eK (pc p n k b))).set 7 (some (.cells [.str a]))).set 7 none) U U (eX rfl) (cW.ext (fun i=>?_) (fun _=>rfl) e);by_cases hi:i=7
 . subst hi;rw[H.nr _ _ dU];rfl
 . rw[H.qD _ _ dU hi,H.qD _ _ dU hi]
end
theorem aqC:TG ak 3 Tryz.f13.ntmps Vy (cU [] (Ed gS gR) 3) (fJ ak 3 Tryz.f13 fun u _ _=>u= .bool true):=by
 refine iF  2 XT y_1 cT ?_;refine Az [(4,none),(5,none)] (s2:=eG [(1,P3)] (RK 0 0 0 [] []) 6) U ?_;obtain⟨p,r1,_,c,N,n1⟩:=uo ahP dU [120] [] dU dU (fun x G=>by cases G) (fun _=>aX _);rw[show fq []=gM from rfl,ahT]at c N;have n1:r1.length<=1:=n1;obtain⟨e,p,n,k,b,rfl⟩:=pH.to (l:=[gM]) N dU;refine cZ U ?_;have c0:cW ak 15 [P3,.str [120],eM] (RK 0 0 0 [] []) 6 (.ew [.str dA,qu]) (J (DS 6 7 8 (pc p n k b))) 9:=
  xb (ns:=[some 0,some 1,some 2,some 3,none,some 4,some 5]) (l1:=eK (sZ 0 0 0)) (cW.acz c) 6 U
 refine fO (XT.jA Bv c0) (y_2 p n k b dA) (dG ?_);refine⟨eX ⟨rfl,rfl,rfl⟩,fun s' dO=>c6 dO ?_⟩;obtain⟨q,r2,_,c,B,n2⟩:=uo N K [121] [dA] dU dU (fun x G=>by rw[aq]at G;subst G;rfl) (fun _=>aA _);rw[e,ahU]at c B;obtain⟨e2,q,m,j,u,rfl⟩:=pH.to (l:=[gM,s1R]) B dU;refine cZ U ?_;refine fO (XT.jA Bv (NH c)) (y_3 p q n k m j b u dA dB) (dG ?_);refine⟨eX ⟨rfl,rfl,rfl⟩,fun s' dO=>c6 dO ?_⟩;clear c0 c N;obtain⟨p,r3,_,c,h3,n3⟩:=JP B K (nm:=[114]) ⟨114,rfl,dU,dU⟩ dB (.inr rfl);rw[e2,ahV]at c h3;obtain⟨e3,p,n,k,b,rfl⟩:=pH.to (l:=[gM,s1R,s2R]) h3 dU;refine cZ U ?_;refine fO (XT.jA YY c) (y_4 q p m j n k u b dB) (dG ?_);refine⟨eX ⟨rfl,rfl,rfl⟩,fun s' dO=>c6 dO ?_⟩;obtain⟨q,r4,_,c,h4,n4⟩:=uo h3 K [122] [] dU dU (fun x G=>by cases G) (fun _=>aX _);rw[e3,ahW]at c h4;obtain⟨e4,q,m,j,u,rfl⟩:=pH.to (l:=[gM,s1R,s2R,Xx]) h4 dU;refine cZ U ?_;refine fO (XT.jA Bv (cW.acz c)) (y_5 p q n k m j b u dZ) (dG ?_);refine⟨eX ⟨rfl,rfl,rfl⟩,fun s' dO=>c6 dO ?_⟩;refine cZ U ?_;refine fO (XT.jA Nt (h4.y5 K e4)) (y_6 q m j u) (dG ?_);refine⟨eX ⟨rfl,rfl,rfl⟩,fun s' dO=>c6 dO ?_⟩;obtain⟨p,c,h5,n5⟩:=JR h4 K;rw[e4,ahX]at h5 n5;obtain⟨e5,p,n,k,b,rfl⟩:=pH.to (l:=[]) h5 dU;refine cZ U ?_;refine fO (XT.jA Zf c) (y_7 q p m j n k u b) (dG ?_);refine⟨eX ⟨rfl,rfl,rfl⟩,fun s' dO=>c6 dO ?_⟩;refine cZ U ?_;refine fO (XT.jA Nt (h5.y5 K e5)) (y_8 p n k b) (dG ?_);refine⟨eX ⟨rfl,rfl,rfl⟩,fun s' dO=>c6 dO ?_⟩;obtain⟨q,r6,_,c,h6,n6⟩:=uo h5 K [119] [] dU dU (fun x G=>by cases G) (fun _=>aX _);rw[e5,ahY]at c h6;obtain⟨e6,q,m,j,u,rfl⟩:=pH.to (l:=[Xx]) h6 dU;refine cZ U ?_;refine fO (XT.jA Bv (cW.acz c)) (y_9 p q n k m j b u dW) (dG ?_);refine⟨eX ⟨rfl,rfl,rfl⟩,fun s' dO=>c6 dO ?_⟩;obtain⟨p,i,j0,_,c,i1,i2,h7,i3,i4,i5,_⟩:=FV h6 K 0 dU;obtain rfl:j0=0:=Nat.lt_one_iff.1 i4;have i5:some Xx=some (fq (r6.take i)):=i5;rw[<- cF i5]at h7;obtain⟨e7,p,n,k,b,rfl⟩:=pH.to (l:=[]) h7 dU;refine cZ U ?_;refine fO (XT.jA Zd c) (aqz q p m j n k u b) (dG ?_);refine⟨eX ⟨rfl,rfl,rfl⟩,fun s' dO=>c6 dO ?_⟩;have h32:(Ex [113]).length=32:=by rw[YS];rfl
 have n7:(r6.take i).length<=2400:=by rw[aZ];omega
 obtain⟨q,r8,_,c,h8,n8⟩:=uo h7 K [119] [Ex [113]] dU dU (fun x G=>by rw[aq]at G;subst G;exact h32) (fun _=>aA _);rw[e7,ahZ]at c h8;obtain⟨e8,q,m,j,u,rfl⟩:=pH.to (l:=[]) h8 dU;refine cZ U ?_;refine fO (XT.jA Bv (NH c)) (aqA p q n k m j b u) (dG ?_);refine⟨fm rfl (fm rfl (fm dU (eX ⟨rfl,rfl,rfl⟩))),fun s' dO=>c6 dO ?_⟩;refine fh (XT.jA Nt (h8.y5 K e8)) (aqB q m j u) (dG ?_);exact⟨eX ⟨rfl,rfl,rfl⟩,_,_,_,rfl,rfl⟩
def Mk:ai->Option (ah×V)
 | []=>some ([],.bool true)
 |_=>none
theorem acA:jv ak 13 (tW Mk):=by
 refine Rs (au U) fun args cS v e hA=>?_;unfold Mk at e;split at e
 . obtain⟨rfl,rfl⟩:=fg e;exact x6 Tryz.func13 U U rfl rfl (fA aqC fun y s h=>ko h)
 . cases e
noncomputable abbrev W29:jQ:=jD 13 (tW Mk) W28
theorem acB:gl ak W29:=e9 acA Mg
noncomputable abbrev ah0:fb:=gP ak W29 H0 1000 40
noncomputable abbrev X29:CX ak:=CX.of mo po acB H0 1000 40
structure AT where
 x:Nat
 y:Nat
 z:Nat
 d:L
 G:x<=255
 hy:y<=255
 hz:z<=255
section
variable(l:List AT)(o:AT)
def AT.c:ai:=[.int .u8 (o.x:Int),.int .u8 (o.y:Int),.int .u8 (o.z:Int),.str o.d]
def AT.v:V:=r9 o.x o.y o.z o.d
def BN:ai:=(l.map AT.c).flatten
theorem TS:(BN l).length=l.length*4:=sQ (f:=AT.c) (w:=4) (fun _=>rfl) l
theorem Xy(i:Nat)(h:i<l.length):dF (BN l) (i*4) 4=l[i].c:=vP (f:=AT.c) (w:=4) (fun _=>rfl) l i h
abbrev zU:V:=.dS false l.length (BN l)
end
theorem TT{M:Nat}{s s2:St}(l:List (Nat×Option IntKind))(e:Rc l s=some s2):Step M s s2:=by
 unfold Rc at e;split at e
 case h_2=>cases e
 rename_i B hh;obtain rfl:=ek e;exact Step.mem fun E w g=>Ay l s.h B hh g
theorem Xz:cW ak 26 [] (Ed gS gR) 3 P3 (J (moG 0 5 6 7 (sZ 0 0 0) [gM])) 8:=by
 have key:cW ak 26 [] (Ed gS gR) 3 P3 (J [(0,.ints .u32 gS),(1,.ints .u32 gR),(3,.cells [.ptr (some (4,0)),.dj (some (7,0)) 1 1 2]),(4,.cells [.dj none 0 0 0,.int .i64 0,.map (some 5),.map (some 6),.int .i64 0,.bool false,.bool false,.int .i64 0]),(5,.map [] 0),(6,.map [] 0),(7,.cells [.dj none 0 0 0,.dj none 0 0 0])]) 8:=by
  refine c5 Tryz.func26 (code:=dN Tryz.f26) U U ?_;refine fh X27 apF (dG ?_);exact⟨cT,_,_,_,rfl,rfl,rfl,rfl⟩
 exact key.step ((TT [(5,none),(6,none)] rfl).trans (.deep [7] U))
noncomputable abbrev Ml:Code:=dN Tryz.f30
noncomputable abbrev acC:Code:=dP (dh 1 Ml)
noncomputable abbrev TU:Code:=dz (dz (dY acC))
section
variable(p:gZ)(ops:List AT)(l:List RS)(i:Nat)
noncomputable abbrev ah1:Code:=dz (dP (dY TU))
def lL:af:=moA 5 p l
def sY1:St:=eG [(0,P3),(1,zU ops),(4,.bool false)] (J (gI p l)) 9
def Ek(r:List (Nat×V)):St:=eG ([(0,P3),(1,zU ops),(4,.bool false)]++r) (J (wU p l)) (12+sh p)
theorem aqD:c9 fN [] 9 Tryz.f30 [0,1,4] (eV 1 Ml) (cU [P3,zU ops] (J (gI p l)) 9) [([],
   [],
   .to .normal (sY1 p ops l))]
 :=by rcases p with⟨_|⟨_,_,_⟩,_⟩<;>exact cR.of U U U
theorem aqE:c9 fN [] 9 Tryz.f30 [0,1,4,5] (dP acC) (Ek p ops l []) [([],
   [],
   .to .normal (Ek p ops l [(5,iW 0)]))]
 :=by rcases p with⟨_|⟨_,_,_⟩,_⟩<;>exact cR.of U U U
theorem aqF:c9 fN [(9,.split),(12,.split)] 9 Tryz.f30 [0,1,4,5] (dP TU) (Ek p ops l [(5,iW i)]) [([((decide (Int.ofNat i<(Int.ofNat ops.length))),true),((decide (Int.ofNat i<(40:Int))),true)],
   [],
   .to .normal (Ek p ops l [(5,iW i)])),
  ([((decide (Int.ofNat i<(Int.ofNat ops.length))),true),((decide (Int.ofNat i<(40:Int))),false)],
   [],
   .to (.exit 0) (Ek p ops l [(5,iW i)])),
  ([((decide (Int.ofNat i<(Int.ofNat ops.length))),false)],
   [],
   .to (.exit 0) (Ek p ops l [(5,iW i)]))]
 :=by rcases p with⟨_|⟨_,_,_⟩,_⟩<;>exact cR.of U U U
theorem aqG(q:gZ)(ops:List AT)(l l1:List RS)(i:Nat)(o:AT):c9 (fG fN 27 [P3,o.v] (J (wU p l)) (12+sh p) (.bool true,J (moA (12+sh p) q l1),(15+sh p+sh q))) [(19,.di (.dx o.c))] 9 Tryz.f30 [0,1,4,5] (ah1) (Ek p ops l [(5,iW i)]) [([],
   [((0:Int)<=Int.ofNat i/\Int.ofNat i<(Int.ofNat ops.length)),((BN ops).length=ops.length*4),(V.dx (dF (BN ops) (i*4) 4)=V.dx o.c),fC [P3,o.v] (J (wU p l)) (12+sh p)],
   .to .normal (Ek q ops l1 [(5,iW i)]))]
 :=by rcases p with⟨_|⟨_,_,_⟩,_⟩<;>rcases q with⟨_|⟨_,_,_⟩,_⟩<;>exact cR.of U U U
theorem aqH:c9 fN [(15,.di (iW (i+1)))] 9 Tryz.f30 [0,1,4,5] (dY (dY TU)) (Ek p ops l [(5,iW i)]) [([],
   [(V.int aj (IntKind.i64.wrap (Int.ofNat i+(1:Int)))=iW (i+1))],
   .to .normal (Ek p ops l [(5,iW (i+1))]))]
 :=by rcases p with⟨_|⟨_,_,_⟩,_⟩<;>exact cR.of U U U
theorem aqI:c9 fN [] 9 Tryz.f30 [] (dh 2 Ml) (Ek p ops l [(5,iW i)]) [([],
   [],
   .ret (.bool true) (J (wU p l)) (nR p))]
 :=by rcases p with⟨_|⟨_,_,_⟩,_⟩<;>exact cR.of U U U
end
theorem ah2:26<Tryz.prog.funcs.size:=au U
theorem ah3:27<Tryz.prog.funcs.size:=au U
section
variable(p:gZ)(ops:List AT)(l:List RS)(i:Nat){Q':Exit->St->Prop}
theorem ah4{ops:List AT}{i:Nat}{o:AT}(h:ops[i]? =some o):((0:Int)<=Int.ofNat i/\Int.ofNat i<(Int.ofNat ops.length))/\(BN ops).length=ops.length*4/\V.dx (dF (BN ops) (i*4) 4)=V.dx o.c:=by
 obtain⟨N,B⟩:=aG.1 h;refine⟨⟨az _,dm⟩,TS ops,?_⟩;rw[<- B];exact aN V.dx (Xy ops i N)
theorem acD(q:gZ)(ops:List AT)(l l1:List RS)(i:Nat)(o:AT)(hi:ops[i]? =some o)(hd:cW ak 27 [P3,o.v] (J (gI p l)) 9 (.bool true) (J (wU q l1)) (nR q)){Q':Exit->St->Prop}
  (hn:∀s',gF ak 9 Tryz.f30.ntmps s' (Ek q ops l1 [(5,iW i)])->Q' .normal s'):TG ak 9 Tryz.f30.ntmps ah1 (Ek p ops l [(5,iW i)]) Q':=by
 obtain⟨a1,a2,a3⟩:=ah4 hi;have k27:cW ak 27 [P3,o.v] (J (wU p l)) (12+sh p) (.bool true) (J (moA (12+sh p) q l1)) (15+sh p+sh q):=
  xb (ns:=nsA 9 p) hd (12+sh p) (by rcases p with⟨_|⟨_,_,_⟩,_⟩<;>rcases q with⟨_|⟨_,_,_⟩,_⟩<;>kernel_rfl)
 refine fO (jM.jA ah3 k27) (aqG p q ops l l1 i o) (dG ?_);exact⟨fm a1 (fm a2 (fm a3 (eX ⟨rfl,rfl,rfl⟩))),fun s' dO=>hn s' (.norm dO)⟩
theorem TV(N:i<ops.length->i<40->∀s',gF ak 9 Tryz.f30.ntmps s' (Ek p ops l [(5,iW i)])->Q' .normal s')(B:¬(i<ops.length/\i<40)->∀s',gF ak 9 Tryz.f30.ntmps s' (Ek p ops l [(5,iW i)])->Q' (.exit 0) s'):
  TG ak 9 Tryz.f30.ntmps (dP TU) (Ek p ops l [(5,iW i)]) Q':=by
 refine fO jM (aqF p ops l i) fun g hg I=>?_;rcases w8 hg with rfl|rfl|rfl
 . have c1:=aE (I _ (aP ..));have c2:=aE (I _ (aK _ (aq.2 rfl)));exact⟨cT,fun s' dO=>N (by rw[kr,kr]at c1;omega) (by rw[kr]at c2;omega) s' (.norm dO)⟩
 . have c2:=aJ (I _ (aK _ (aq.2 rfl)));exact⟨cT,fun s' dO=>B (by rw[kr]at c2;omega) s' (.norm dO)⟩
 . have c1:=aJ (I _ (aq.2 rfl));exact⟨cT,fun s' dO=>B (by rw[kr,kr]at c1;omega) s' (.norm dO)⟩
theorem acE(hi:i<=40){Q':Exit->St->Prop}(h:∀s',gF ak 9 Tryz.f30.ntmps s' (Ek p ops l [(5,iW (i+1))])->Q' .normal s'):TG ak 9 Tryz.f30.ntmps (dY (dY TU)) (Ek p ops l [(5,iW i)]) Q':=by
 refine fO jM (aqH p ops l i) fun g hg I=>?_;obtain rfl:=aba hg;exact⟨eX (nL dm K),fun s' dO=>h s' (.norm dO)⟩
theorem acF:TG ak 9 Tryz.f30.ntmps (dh 2 Ml) (Ek p ops l [(5,iW i)]) (fJ ak 9 Tryz.f30 fun u h n9=>u= .bool true/\h=J (wU p l)/\n9=nR p):=by
 refine fh jM (aqI p ops l i) (dG ?_);exact⟨cT,_,_,_,rfl,rfl,rfl,rfl⟩
theorem acG(h:∀s',gF ak 9 Tryz.f30.ntmps s' (Ek p ops l [(5,iW 0)])->TG ak 9 Tryz.f30.ntmps (dY acC) s' (andThen (fun s'=>TG ak 9 Tryz.f30.ntmps (dh 2 Ml) s' Q') Q')):
  TG ak 9 Tryz.f30.ntmps Ml (cU [P3,zU ops] (J (gI p l)) 9) Q':=by
 refine iF  1 jM (aqD p ops l) cT ?_;refine No (Step.Ei (s2:=Ek p ops l []) 5 (live:=[0,1,4]) (by rcases p with⟨_|⟨_,_,_⟩,_⟩<;>kernel_rfl)) ?_;refine cZ U ?_;refine cZ U ?_;refine fO jM (aqE p ops l) (dG ?_);exact⟨cT,fun s' dO=>h s' (.norm dO)⟩
def Pq(a:gZ×List RS×Nat):Prop:=a.2.2<=40/\∃cV k,pH a.1 cV k a.2.1/\cV.length<=18*a.2.2/\a.2.1.length<=a.2.2+1
theorem iv0:Pq (sZ 0 0 0,[gM],0):=⟨aX _,[],0,ahP,aX _,aA _⟩
theorem XA{p:gZ}{l:List RS}{i:Nat}(h:Pq (p,l,i))(hi:i<40)(o:AT):∃q l',cW ak 27 [P3,o.v] (J (gI p l)) 9 (.bool true) (J (wU q l')) (nR q)/\Pq (q,l',i+1):=by
 obtain⟨_,cV,k,hs,N,B⟩:=h;have hs:pH p cV k l:=hs;have N:cV.length<=18*i:=N;have B:l.length<=i+1:=B;obtain⟨q,nf,k',l',a1,a2,a3,a4⟩:=Xw hs K K o.x o.y o.z o.d o.hy o.hz;exact⟨q,l',a1,hi,nf,k',a2,by show nf.length<=18*(i+1);omega,by show l'.length<=i+1+1;omega⟩
def Mm(a b:gZ×List RS):Prop:=∀o,ops[i]? =some o->cW ak 27 [P3,o.v] (J (gI a.1 a.2)) 9 (.bool true) (J (wU b.1 b.2)) (nR b.1)/\Pq (b.1,b.2,i+1)
end
open Classical in
noncomputable def TW(ops:List AT)(i:Nat)(a:gZ×List RS):gZ×List RS:=if h:∃b,Mm ops i a b then Classical.choose h else a
theorem NI{ops:List AT}{i:Nat}{a:gZ×List RS}(h:Pq (a.1,a.2,i))(hi:i<40):Mm ops i a (TW ops i a):=by
 have U8:∃b,Mm ops i a b:=by
  cases ho:ops[i]? with
  |none=>exact⟨a,fun o h=>by rw[ho]at h;cases h⟩
  |some o=>
   obtain⟨q,l',a1,a2⟩:=XA h hi o;exact⟨(q,l'),fun o' h=>by rw[ho]at h;cases h;exact⟨a1,a2⟩⟩
 unfold TW;rw[dif_pos U8];exact Classical.choose_spec U8
noncomputable def JV(ops:List AT)(a:gZ×List RS):Nat->gZ×List RS
 |0=>a
 |i+1=>TW ops i (JV ops a i)
theorem HC{ops:List AT}{a:gZ×List RS}(h:Pq (a.1,a.2,0)):∀i,i<=40->i<=ops.length->Pq ((JV ops a i).1,(JV ops a i).2,i)
 |0,_,_=>h
 |i+1,N,B=>(NI (HC h i K K) K _ (ay K)).2
noncomputable def FW(ops:List AT)(a:gZ×List RS):gZ×List RS:=JV ops a (min ops.length 40)
theorem ah5{p:gZ}{l:List RS}{i:Nat}(h:Pq (p,l,i))(hi:i<=40):Pq (p,l,40):=by
 obtain⟨_,cV,k,hs,N,B⟩:=h;have N:cV.length<=18*i:=N;have B:l.length<=i+1:=B;exact⟨aA _,cV,k,hs,by show cV.length<=18*40;omega,by show l.length<=40+1;omega⟩
theorem XB{ops:List AT}{a:gZ×List RS}(h:Pq (a.1,a.2,0)):Pq ((FW ops a).1,(FW ops a).2,40):=
 ah5 (HC h _ (Nat.min_le_right ..) (Nat.min_le_left ..)) (Nat.min_le_right ..)
theorem XC(p:gZ)(l:List RS)(ops:List AT)(hI:Pq (p,l,0)):cW ak 30 [P3,zU ops] (J (gI p l)) 9 (.bool true) (J (wU (FW ops (p,l)).1 (FW ops (p,l)).2)) (nR (FW ops (p,l)).1):=by
 refine c5 Tryz.func30 (code:=Ml) U U ?_;refine acG p ops l fun s' dO=>?_;refine jx 0 (min ops.length 40) (fun i=>Ek (JV ops (p,l) i).1 ops (JV ops (p,l) i).2 [(5,iW i)]) U U dO (fun i hi=>?_) ?_
 . have N:i<ops.length:=by omega
   have B:i<40:=by omega
   have hiv:=HC (ops:=ops) (a:=(p,l)) hI i K K;have BC:=NI (ops:=ops) hiv B;refine cZ U ?_;refine TV _ ops _ i (fun _ _ s1 gi=>gi _ _ ?_) (fun hn _ _=>absurd ⟨N,B⟩ hn);refine cZ U ?_;refine fB (i:=1) U ?_;have ho:ops[i]? =some ops[i]:=ay N;refine acD _ (JV ops (p,l) (i+1)).1 ops _ (JV ops (p,l) (i+1)).2 i ops[i] ho (BC _ ho).1 fun s2 jr=>?_;show TG _ _ _ _ _ _;exact jr _ _ (acE _ ops _ i K fun s3 yq=>yq)
 . refine cZ U ?_;refine TV _ ops _ _ (fun N B _ _=>by omega) (fun _ s1 gi=>⟨by simp,?_⟩);simp only[dV,andThen];exact gi _ _ (acF _ ops _ _)
end Go.Proofs.YtfihojpgobmmdaaGreatDoor
