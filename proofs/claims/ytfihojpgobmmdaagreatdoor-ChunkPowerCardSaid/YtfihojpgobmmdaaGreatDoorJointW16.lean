/- Lemmas on the chunk store. No conditions. -/
import Derived.Test.YtfihojpgobmmdaaGreatDoorJointW15
set_option linter.unusedVariables false
set_option linter.unusedSimpArgs false
set_option linter.unusedSectionVars false
set_option maxRecDepth 20000
namespace Go.Proofs.YtfihojpgobmmdaaGreatDoor
open Go Go.Eng
section
variable(F R D:Int)[eB]
theorem Yd:c5 ak 81 [.fn (.yield 12) [] [],P 9] (P6 F R D) 13 (.ew []) (P6 F R D) 13:=by
 refine gh.is (gO mo po Tryz.func81 (code:=E7) U U ?_);rw[agn];refine zN (v0:=.map (some 8)) (kH:=(cZ [.fn (.yield 12) [] [],P 9] (P6 F R D) 13).S.set 4 (some (.map (some 8)))) (Ap:=((cZ [.fn (.yield 12) [] [],P 9] (P6 F R D) 13).S.set 4 (some (.map (some 8)))).set 5 (some (P 13))) (m:=8) (kd:=none) (C:=[]) mo Ny
  U U U U (ax rfl) U (fun _ s1=>fe 14 [0,5] s1=some (XY F R D)) U ?_
 rintro iO left s1 hs hp;have hz:iO=[]/\left=[]:=List.append_eq_nil_iff.1 hp.eq_nil;obtain⟨rfl,rfl⟩:=hz;refine⟨[0,5],_,hs,U,fun _=>?_,fun e kN he2=>?_⟩
 . exact⟨(XY F R D).S.set 6 (some (.ew [.bool false])),{ XY F R D with S:=((XY F R D).S.set 6 (some (.ew [.bool false]))).set 7 (some (.bool false)) },U,U,U,.inl rfl,.ew [],P6 F R D,13,U,rfl,rfl,rfl⟩
 . have:=he2.length_eq;simp at this
theorem Uo:c5 ak 100 [eM,g81] (tD F R D) 10 eM (tD F R D) 10:=by
 refine c7 Tryz.func100 (code:=SA) U U ?_;refine iw  1 (XQ []) (aqR F R D) cW ?_;refine c6 U ?_;refine c6 U ?_;refine fV (XQ []) (aqS F R D) (dG ?_);refine⟨cW,fun s' ek=>dh ek ?_⟩;refine fk (i:=0) U ?_;refine oP (gf:=81) (lb:=[P 9]) U U U U U (Yd F R D).one ?_;rintro v h n ⟨rfl,rfl,rfl⟩;refine⟨U,?_⟩;refine eZ (XQ []) (aqT F R D) (dG ?_);exact⟨cW,_,_,_,rfl,rfl,rfl,rfl⟩
theorem Ye:c5 ak 79 [g81] (tD F R D) 10 eM (tD F R D) 10:=by
 refine c7 Tryz.func79 (code:=LY) U U ?_;refine iw  1 (XQ []) (aqU F R D) cW ?_;refine c6 U ?_;refine qC 1 (s1:={ S:=(BB [(0,g81)]).set 3 (some g81),h:=tD F R D,n:=10,gD:=[] }) (f:=100) (args:=[eM,g81]) U U U U U U (Uo F R D).one ?_;rintro v h n ⟨rfl,rfl,rfl⟩;refine⟨(((BB [(0,g81)]).set 3 (some g81)).set 4 (some eM)),sC8 (tD F R D) 10 eM,U,U,?_⟩;refine eZ (XQ []) (aqV F R D) (dG ?_);exact⟨cW,_,_,_,rfl,rfl,rfl,rfl⟩
theorem Yf:c5 ak 54 [g81,g56] (tD F R D) 10 eM (tD F R D) 10:=by
 refine c7 Tryz.func54 (code:=LX) U U ?_;refine iw  1 (XQ []) (aqW F R D) cW ?_;refine c6 U ?_;refine qC 1 (s1:={ S:=(BB [(0,g81),(1,g56)]).set 6 (some g81),h:=tD F R D,n:=10,gD:=[] }) (f:=79) (args:=[g81]) U U U U U U (Ye F R D).one ?_;rintro v h n ⟨rfl,rfl,rfl⟩;refine⟨(((BB [(0,g81),(1,g56)]).set 6 (some g81)).set 7 (some eM)),sS8 (tD F R D) 10 eM,U,U,?_⟩;refine eZ (XQ []) (aiI F R D) (dG ?_);exact⟨eS ⟨dP,dP⟩,_,_,_,rfl,rfl,rfl,rfl⟩
def aiQ:List (Option Nat):=[some 0,some 1,some 2,some 3,none,some 5,some 6,some 19]
def aiR:List (Option Nat):=[some 0,some 1,some 2,some 3,none,some 5,some 6,some 7,some 20,some 21]
def adg:List (Option Nat):=[some 0,some 1,some 2,some 3,none,some 5,some 6]
theorem Up(ho:BZ D){cs:Exit->St->Prop}(h:TG ak 7 Tryz.f19.ntmps (dU A2) (eL [(1,P 7),(4,eM)] (K (Qx F R (wL D))) 8) cs):TG ak 7 Tryz.f19.ntmps uP (cZ [P3] (dN (pN F R D [] [])) 7) cs:=by
 have h51:c5 ak 51 [P3,v78] (K (kNc F R (wL D))) 20 (.map (some 20)) (K (kNd F R (wL D))) 21:=
  gk (ns:=aiQ) (jQ U U U U U) U U (Xa F R (wL D))
 have h54:c5 ak 54 [v81,v56] (K (kNe F R (wL D))) 22 eM (K (kNe F R (wL D))) 22:=
  gk (ns:=aiR) (jQ U U U U U) U U (Yf F R (wL D))
 have h23:c5 ak 23 [P3] (K (Qx F R (wL D))) 8 eM (K (Qx F R (wL D))) 8:=
  gk (ns:=adg) (jQ U U U U U) U U (Oa F R (wL D) [])
 refine iw  4 (((XQ []).jG (ax U) h51).jG (ax U) h54) (aqX F R D) (G rfl (G rfl (G rfl (G ho (G ⟨rfl,rfl,rfl⟩ (eS ⟨rfl,rfl,rfl⟩)))))) ?_;show TG ak 7 Tryz.f19.ntmps Vc _ _;refine c6 U ?_;refine fV (XQ []) (aqY F R (wL D)) (dG ?_);refine⟨cW,fun s' ek=>dh ek ?_⟩;show TG ak 7 Tryz.f19.ntmps A2 _ _;refine c6 U ?_;refine fV (XT.jG (ax U) h23) (aiJ F R (wL D)) (dG ?_);exact⟨eS ⟨rfl,rfl,rfl⟩,fun s' ek=>dh ek h⟩
theorem adh(ho:BZ D)(GW:BZ (wL D)):qf 19 [] (sZ F R D) (.int .i64 0) (sZ 0 0 (wL (wL D))):=by
 have h57:c5 ak 57 [P3] (K (Qx 0 R (wL (wL D)))) 8 (.ew []) (K (P5 [(7,.cells [P3])] 8 (wL (wL D)))) 10:=
  gk (ns:=adg) (jQ U U U U U) U U (HI 0 R (wL (wL D)) [] [])
 have key:c5 ak 19 [P3] (dN (pN F R D [] [])) 7 (.int .i64 0) (K (P5 [] 7 (wL (wL D)))) 9:=by
  refine c7 Tryz.func19 (code:=uP) U U ?_;refine Up F R D ho ?_;refine iw  3 XT (aiK F R (wL D)) (G rfl (G rfl (G rfl (eS GW)))) ?_;refine eZ (XT.jG (ax U) h57) (aiL R (wL (wL D))) (dG ?_);exact⟨eS ⟨rfl,rfl,rfl⟩,_,_,_,rfl,rfl,rfl,rfl⟩
 exact key.Af 4 U
end
section
variable{n A:Nat}{b:B}{F R D:Int}[eB]{C N:ae}
theorem adi{ZP:Int}{bs:B}{q:LS}(h:c5 ak 19 [P3] (dN (pS n A b F R D C N)) 7 (.int .i64 0) (K (l3r b ZP C N bs 8 [] q.R q.C q.N)) 10):qf 19 [] (sC n A b F R D C N) (.int .i64 0) (sC bs.length bs.length bs (Int.ofNat bs.length) q.R ZP q.C q.N):=by
 obtain⟨JH,nw,nA⟩:=q;exact h.Af 4 U
theorem Yg(ho:BZ D)(GW:BZ (wL D))(td:Vb C)(hn:∀x,0<=jF C x/\jF C x<1000000000):qf 19 [] (sC n A b F R D C []) (.int .i64 0) (sZ 0 0 (wL (wL D))):=(WV n A b F R D C ho GW td hn).Af 4 U
omit [eB]in
theorem Oc(off arm:Bool)(kk:Nat)(hk:kk<=1000000)(cut:Nat)(l:List iY)(x:B)(aq7:V.int aj (IntKind.i64.wrap (F+IntKind.i64.wrap ((IntKind.i64.wrap (IntKind.i64.wrap ((Int.ofNat n)-F)*Int.ofNat (kk%256))).tdiv (255:Int))))=iW cut)
  (hb:cut<=b.length) (YQ:cut<=A) (iC:∀r∈l,r.ok) (Ib:b.take cut=de l++x) (wF:Stop (b.take cut) (de l).length) (mA:cut<1000000000):
  ZL (kk:Int) ⟨some (n,A,b),F,R,off,arm,D,C,N⟩ (@sC (de l).length A (de l) (Int.ofNat (de l).length) (iD l).R D qD (iD l).C (iD l).N):=by
 letI:eB:=qD
 have J:=NH cut A b F R D C N l x hb iC Ib wF YQ mA;have htk:b.take (de l).length=de l:=by
  have X:(de l).length<=cut:=by
   have:=aL List.length Ib;rw[aY,ay]at this;omega
  have h2:(b.take cut).take (de l).length=de l:=by rw[Ib,bY (aC _),aU]
  rw[List.take_take,Nat.min_eq_left X]at h2;exact h2
 generalize de l=bs at J htk ⊢;generalize iD l=q at J ⊢;obtain⟨JH,nw,nA⟩:=q;have h57:c5 ak 57 [P3] (K (lQx cut A b F R D C N [(7,.cells [.int .i64 (kk:Int)])])) 35 (.ew []) (K (Uk bs.length A b (Int.ofNat bs.length) JH D C N [(7,.cells [.int .i64 (kk:Int)])] 35 nw nA)) 37:=by
  generalize bs.length=c2 at J ⊢;exact gk (ns:=ns7) (jQ U U U U U) U U J
 have key:c5 ak 31 [P3,.dx (some (7,0)) 1 1 1] (K (fM ⟨some (n,A,b),F,R,off,arm,D,C,N⟩++[(7,.cells [.int .i64 (kk:Int)])])) 8 (.ew []) (K (Uk bs.length A b (Int.ofNat bs.length) JH D C N [(7,.cells [.int .i64 (kk:Int)])] 8 nw nA)) 10:=by
  refine c7 Tryz.func31 (code:=XW) U U ?_;refine sB (jI.jG (ax U) h57) mo _ U (aqH n A cut b F R D off arm C N (kk:Int) (kk%256) bs.length JH nw nA) (dG ?_);exact⟨G ⟨dP,dP⟩ (G (yH hk) (G dP (G aq7 (G ⟨aA _,dr⟩ (eS ⟨rfl,rfl,rfl⟩))))),_,_,_,rfl,rfl,rfl,rfl⟩
 have st:Step 8 (JU (.ew []) (K (Uk bs.length A b (Int.ofNat bs.length) JH D C N [(7,.cells [.int .i64 (kk:Int)])] 8 nw nA)) 10) (JU (.ew []) (K (crR (sC bs.length A bs (Int.ofNat bs.length) JH D nw nA))) (nC (sC bs.length A bs (Int.ofNat bs.length) JH D nw nA))):=by
  have X:=Step.trim (I:=8) (s:=JU (.ew []) (K (Uk bs.length A b (Int.ofNat bs.length) JH D C N [(7,.cells [.int .i64 (kk:Int)])] 8 nw nA)) 10) (m:=4) (el:=5) (t:=b) bs.length U U;rw[htk]at X;generalize bs.length=c2 at X ⊢;exact X.trans (.Af 4 (live:=[0]) U)
 exact key.step st
omit [eB]in
theorem Yh(off arm:Bool)(kk:Nat)(hk:kk<=1000000):ZL (kk:Int) ⟨none,0,R,off,arm,D,[],[]⟩ (@sZ 0 0 D qD):=by
 letI:eB:=qD
 have h57:c5 ak 57 [P3] (K (aiC [(7,.cells [.int .i64 (kk:Int)])] 0 R D)) 35 (.ew []) (K (P5 [(7,.cells [.int .i64 (kk:Int)])] 35 D)) 37:=
  gk (ns:=adg) (jQ U U U U U) U U (HI 0 R D [] [])
 have key:c5 ak 31 [P3,.dx (some (7,0)) 1 1 1] (K (fM ⟨none,0,R,off,arm,D,[],[]⟩++[(7,.cells [.int .i64 (kk:Int)])])) 8 (.ew []) (K (P5 [(7,.cells [.int .i64 (kk:Int)])] 8 D)) 10:=by
  refine c7 Tryz.func31 (code:=XW) U U ?_;refine sB (jI.jG (ax U) h57) mo _ U (aqI 0 R D off arm (kk:Int) (kk%256)) (dG ?_);refine⟨G ⟨dP,dP⟩ (G (yH hk) (G dP (G ?_ (G ⟨dP,dP⟩ (eS ⟨rfl,rfl,rfl⟩))))),_,_,_,rfl,rfl,rfl,rfl⟩;show V.int aj (IntKind.i64.wrap ((0:Int)+IntKind.i64.wrap ((IntKind.i64.wrap (IntKind.i64.wrap ((0:Int)-0)*Int.ofNat (kk%256))).tdiv (255:Int))))=iW 0;rw[show IntKind.i64.wrap ((0:Int)-0)=0 from rfl,Int.zero_mul];rfl
 exact key.step (.Af 4 (live:=[0]) U)
end
section
variable(n A:Nat)(b:B)(F R D:Int)[eB](C N:ae)
theorem Yi(hk:zX N)(hl:N.length<1000000):c5 ak 23 [P3] (dN (pS n A b F R D C N)) 7 (p9 (jm (dM N))) (dN (pS n A b F R D C N)) 7:=by
 have J:=HM n A b F R D C N hk hl;generalize jm (dM N)=zs at J ⊢
 match zs,J with
 | [],J=>exact c5.nil (z:=0) false J
 | [x],J=>
   refine J.step ((Step.frz [7] (cU:=[[lf.str x].length=1*1]) (s2:=JU (.dV false 1 [.str x]) ((hKf n A b F R D C N [(7,.cells [.str x])]).set 7 none) 8) U (eS rfl)).trans (.norm (live:=[0]) U))
 |x::y::zs,J=>
  have e:strs (x::y::zs)=strs (x::y::zs):=rfl;have J:c5 ak 23 [P3] (dN (pS n A b F R D C N)) 7 (.dx (some (7,0)) (x::y::zs).length (x::y::zs).length 1) (hKf n A b F R D C N [(7,.deep (strs (x::y::zs)))]) 8:=J;generalize x::y::zs=us at J ⊢;refine J.step ((Step.frz [7] (cU:=[(strs us).length=us.length*1]) (s2:=JU (p9 us) ((hKf n A b F R D C N [(7,.deep (strs us))]).set 7 none) 8) U (eS (by rw[eN,bn]))).trans (.norm (live:=[0]) U))
theorem Yj:c5 ak 20 [P3] (dN (pS n A b F R D C N)) 7 (.int .i64 (Int.ofNat C.length)) (dN (pS n A b F R D C N)) 7:=by
 refine c7 Tryz.func20 (code:=dO Tryz.f20) U U ?_;refine eZ (XQ []) (aq5 n A b F R D C N) (dG ?_);exact⟨cW,_,_,_,rfl,rfl,rfl,rfl⟩
theorem aiS(Q:List hU)(k:Nat)(yv:B->B)(hk:zX N)(hl:N.length<1000000)(Ie:EC N)(he:∀x∈iV N,Ends C k x)
  (pT:∀c∈Q,c.O.length<=1000000/\∃i,dj (.str c.dg) C=some (tf c.da c.O i)) (hyv:∀x∈jm (dM N),dj (.str x) N=some (.str (yv x))):
  Obs (sC n A b F R D C N) C.length (jm (dM N)) Q (fun d=>decide (d∈qv C N k)) yv where
 h23:=Yi n A b F R D C N hk hl
 h20:=Yj n A b F R D C N
 h25:=fun c J=>by
  obtain⟨X,i,h2⟩:=pT c J;exact WJ n A b F R D C N c.dg c.da c.O i h2 X
 h18:=fun c J=>by
  obtain⟨X,i,h2⟩:=pT c J;exact WK n A b F R D C N c.dg ⟨_,_,_,h2⟩
 h17:=fun c _=>WZ n A b F R D C N k c.dg Ie he
 h24:=fun x M=>Mh n A b F R D C N x (yv x) (hyv x M)
theorem aiT(lv:B->Bool)(yv:B->B):Obs (sZ F R D) 0 [] [] lv yv where
 h23:=c5.nil (z:=0) false (Oa F R D [])
 h20:=by
  refine c7 Tryz.func20 (code:=dO Tryz.f20) U U ?_;refine eZ (XQ []) (aq6 F R D) (dG ?_);exact⟨cW,_,_,_,rfl,rfl,rfl,rfl⟩
 h25:=fun _ h=>by cases h
 h18:=fun _ h=>by cases h
 h17:=fun _ h=>by cases h
 h24:=fun _ h=>by cases h
end
section
variable(cV:List iY)(k:Nat)
def mB:List RS:=(List.range' k (cV.length-k)).map fun i=>fo (cV.take i)
def oW:List RS:=mB cV k++[fo cV]
end
abbrev Uq[eB](cV:List iY)(f A:Nat)(D:Int):gx:=sC (de cV).length A (de cV) (Int.ofNat f) (iD cV).R D (iD cV).C (iD cV).N
structure SV(cV:List iY)(k:Nat)(l:List RS):Prop where
 val:N8 iP cV
 ZR:k<=cV.length
 fA:l=oW cV k
def xL[eB](D:Int)(cV:List iY)(k:Nat)(p:gx):Prop:=(cV=[]/\p=sZ 0 0 D)\/∃A,0<A/\(de cV).length<=A/\p=Uq cV (de (cV.take k)).length A D
def Qy[eB]:Nat->Int->Int
 |0,D=>D
 |n+1,D=>Qy n (wL D)
def Yk[eB]:Nat->Int->Prop
 |0,_=>True
 |n+1,D=>BZ D/\Yk n (wL D)
theorem sv0:SV [] 0 [iP]:=⟨trivial,aC _,rfl⟩
theorem st0[eB](D:Int):xL D [] 0 (sZ 0 0 D):=.inl ⟨rfl,rfl⟩
section
variable(cV:List iY)(k:Nat)
theorem Gk:(mB cV k).length=cV.length-k:=by unfold mB;rw[bf,List.length_range']
theorem Ej:(oW cV k).length=cV.length-k+1:=by unfold oW;rw[ay,Gk];rfl
theorem Ek{cV:List iY}{k i:Nat}(hk:k<=cV.length)(hi:i<=cV.length-k):(oW cV k)[i]? =some (fo (cV.take (k+i))):=by
 unfold oW;rw[bU,Gk];by_cases h:i<cV.length-k
 . rw[aF h];unfold mB;rw[bu,List.getElem?_range' h];simp
 . rw[aJ h];have e:i=cV.length-k:=by omega
   subst e;rw[Nat.sub_self,show k+(cV.length-k)=cV.length by omega,aU];rfl
theorem Kb{cV:List iY}{k:Nat}(hk:k<=cV.length)(r:iY):oW (cV++[r]) k=oW cV k++[Bc (fo cV) r]:=by
 unfold oW;have X:mB (cV++[r]) k=mB cV k++[fo cV]:=by
  unfold mB;rw[ay,show cV.length+[r].length-k=(cV.length-k)+1 by simp;omega,List.range'_1_concat,aZ,show k+(cV.length-k)=cV.length by omega];congr 1
  . refine List.map_congr_left fun i hi=>?_;have:=List.mem_range'_1.1 hi;rw[bY L]
  . rw[List.map_singleton,List.take_left'];rfl
 rw[X];congr 1;unfold fo;rw[cR];rfl
theorem uD:oW cV cV.length=[fo cV]:=by
 unfold oW mB;rw[Nat.sub_self];rfl
theorem Od:ZO (Gc k):=by
 unfold Gc;have h:=Nat.mod_lt k (show 0<5 by decide);rcases(by omega:k%5=0\/k%5=1\/k%5=2\/k%5=3\/k%5=4)with e|e|e|e|e<;>rw[e]<;>exact⟨_,rfl,dP,dP⟩
end
theorem Gl:∀(l:List (B×B)) (lo:Nat),PZ l->(∀p∈l,∃c:UInt8,p.1=[c]/\lo<=c.toNat/\c.toNat<115)->l.length<=115-lo
 | [],_,_,_=>aX _
 |p::l,lo,hs,h=>by
  obtain⟨X,h2⟩:=rJ.1 hs;obtain⟨c,J,Bm,M3⟩:=h p (by simp);have:=Gl l (c.toNat+1) h2 fun q hq=>by
   obtain⟨e,he,_,hh⟩:=h q (by simp[hq]);have fH:=X q hq;rw[J,he]at fH;have:c<e:=by
    rcases List.cons_lt_cons_iff.1 fH with h|⟨_,h⟩
    . exact h
    . exact absurd h (List.lt_irrefl _)
   exact⟨e,he,this,hh⟩
  rw[aT];omega
theorem nZ.Vi{s:RS}(h:nZ s):s.ro.length<=18:=by
 have:=Gl s.ro 97 h.Vh fun p hp=>(h.rv p hp).1;omega
theorem ZO.ok{n:B}(h:ZO n):Qu n:=by
 obtain⟨c,rfl,_⟩:=h;exact⟨by simp,by simp⟩
theorem SV.all{cV:List iY}{k:Nat}{l:List RS}(h:SV cV k l)(hB:cV.length<=3000):nZ (fo cV)/\EG (iD cV) (fo cV)/\(fo cV).Q.length<=cV.length/\(∀r∈cV,r.ok)/\(de cV).length<=180*cV.length:=by
 have:=xe h.val wf0 Ub (by show 0+cV.length<=1000000;omega);refine⟨this.1,this.2.1,?_,this.2.2.2.1,this.2.2.2.2⟩;have h2:=this.2.2.1;have h3:(0:Nat)+cV.length=cV.length:=bI _;exact bR h2 (by show 0+cV.length<=cV.length;omega)
theorem o7{be:LS}{s:RS}(h:nZ s)(g:EG be s)(x:B):0<=gj s.Q x↔Cn be.C x:=by
 rw[oV h.nd,g.C];constructor
 . rintro⟨j,c,hj,rfl⟩;exact⟨_,_,_,mz h.nd hj⟩
 . rintro⟨d,O,k,hk⟩;rcases Bb s.Q x with q|q
   . rw[qF q]at hk;cases hk
   . exact q
theorem HX{be:LS}{s:RS}(h:nZ s)(g:EG be s){x:B}(M:gj s.Q x<0):dj (.str x) be.C=none:=by
 rw[g.C];exact qF ((qG h.nd).1 M)
theorem Gm{α:Type}(P:α->Prop):∀(O:List α),(∃x∈O,P x)->∃(j:Nat) (x:α),O[j]? =some x/\P x/\∀(i:Nat) (y:α),i<j->O[i]? =some y->¬P y
 | [],⟨_,h,_⟩=>by cases h
 |a::O,⟨x,M,hp⟩=>by
  by_cases ha:P a
  . exact⟨0,a,rfl,ha,fun i _ hi=>absurd hi (Nat.not_lt_zero i)⟩
  . have:∃x∈O,P x:=by
     rcases aD.1 M with rfl|M
     . exact absurd hp ha
     . exact⟨x,M,hp⟩
    obtain⟨j,y,X,h2,h3⟩:=Gm P O this;refine⟨j+1,y,by simpa using X,h2,fun i z hi hz=>?_⟩;cases i with
    |zero=>simp at hz;subst hz;exact ha
    |succ i=>exact h3 i z L (by simpa using hz)
section
variable{cV:List iY}{k:Nat}{l:List RS}
theorem SV.more(h:SV cV k l)(r:iY)(a:T7 (fo cV) r):SV (cV++[r]) k (l++[Bc (fo cV) r]):=
 ⟨Cu.2 ⟨h.val,a,trivial⟩,by rw[ay];have:=h.ZR;simp;omega,by rw[h.fA,Kb h.ZR]⟩
theorem Kc[eB]{cV:List iY}{k:Nat}(hk:k<=cV.length)(D:Int)(r:iY)(A:Nat)(oc:(de cV).length+r.bytes.length<=A):
  xL D (cV++[r]) k (sC ((de cV).length+r.bytes.length) A (de cV++r.bytes) (Int.ofNat (de (cV.take k)).length) (Cp (iD cV) r).R D (Cp (iD cV) r).C (Cp (iD cV) r).N):=by
 have e1:de (cV++[r])=de cV++r.bytes:=v8 cV r;have e2:iD (cV++[r])=Cp (iD cV) r:=by unfold iD;rw[cR];rfl
 have e3:(cV++[r]).take k=cV.take k:=bY hk;have mT:=oS (r:=r);refine .inr ⟨A,L,by rw[e1,ay];exact oc,?_⟩;unfold Uq;rw[e1,e2,e3,ay]
theorem HY[eB]{D:Int}{cV:List iY}{k:Nat}{p:gx}(h:xL D cV k p):p.lo=none\/p.lo≠none:=by
 cases e:p.lo with
 |none=>exact .inl rfl
 |some _=>exact .inr (by simp)
def w1(b:Bool):Nat:=if b=true then 1 else 0
theorem Oe(h:SV cV k l)(hB:cV.length<=2500)(d:B)(O:List (B))(hd:d.length<=60)(GB:O.length<=3)(h32:∀x∈O,x.length=32)(hz:cV=[]->O.length<=1):
  ∃kF,SV kF k (oT l (jn (fo cV) d O))/\kF.length<=cV.length+1/\∀[eB] (D:Int) (p:gx),xL D cV k p->Yk (w1 (jn (fo cV) d O).ch) D->
   ∃q,(p.lo=none\/q.lo≠none)/\qf 15 [.str d,p9 O] p (.ew [.str (jn (fo cV) d O).dg,.int .i64 (jn (fo cV) d O).er]) q/\xL (Qy (w1 (jn (fo cV) d O).ch) D) kF k q:=by
 obtain⟨hw,hg,qR,iC,Ml⟩:=h.all L;by_cases W:∃x∈O,gj (fo cV).Q x<0
 . have hr:jn (fo cV) d O=⟨fo cV,[],63,false⟩:=by unfold jn;rw[aF W]
   rw[hr];refine⟨cV,by unfold oT;rw[aJ Bool.false_ne_true];exact h,L,fun D p hp _=>⟨p,HY hp,?_,hp⟩⟩;rcases hp with⟨e0,e⟩|⟨A,qn,sH,e⟩
   . rw[e];have X:=hz e0;obtain⟨x,M,_⟩:=W
     match O,X,M,h32 with
     | [y],_,M,h32=>exact aiP L (h32 y (by simp))
     | [],_,M,_=>cases M
     |_::_::_,X,_,_=>simp at X
   . rw[e];obtain⟨j,x,X,h2,h3⟩:=Gm (fun x=>gj (fo cV).Q x<0) O W;exact aiO L L h32 j x X (HX hw hg h2) fun i y hi hy=>(o7 hw hg y).1 (by have:=h3 i y hi hy;omega)
 . have sA:∀x∈O,0<=gj (fo cV).Q x:=fun x M=>by
    by_cases q:0<=gj (fo cV).Q x
    . exact q
    . exact absurd ⟨x,M,L⟩ W
   by_cases hf:0<=gj (fo cV).Q (dL d O)
   . have hr:jn (fo cV) d O=⟨fo cV,dL d O,0,false⟩:=by unfold jn;rw[aJ W,aF hf]
     rw[hr];refine⟨cV,by unfold oT;rw[aJ Bool.false_ne_true];exact h,L,fun D p hp _=>⟨p,HY hp,?_,hp⟩⟩;rcases hp with⟨e0,e⟩|⟨A,qn,sH,e⟩
     . exact absurd hf (by rw[e0];show ¬(0:Int)<= -1;decide)
     . rw[e];exact aiM L L h32 (fun x M=>(o7 hw hg x).1 (sA x M)) ((o7 hw hg _).1 hf)
   . have hr:jn (fo cV) d O=⟨⟨(fo cV).Q++[⟨dL d O,d,O⟩],(fo cV).ro⟩,dL d O,0,true⟩:=by unfold jn;rw[aJ W,aJ hf]
     rw[hr];have ha:T7 (fo cV) (.chunk d O):=⟨hd,GB,sA,L⟩;have Md:(gM d O).length<=180:=(Eh hw ha).2;have hu:oT l ⟨⟨(fo cV).Q++[⟨dL d O,d,O⟩],(fo cV).ro⟩,dL d O,0,true⟩=l++[Bc (fo cV) (.chunk d O)]:=by unfold oT;rw[aF rfl];rfl
     rw[hu];refine⟨cV++[.chunk d O],h.more (.chunk d O) ha,by rw[ay];exact aC _,fun D p hp ho=>?_⟩;have Yl:BZ D:=ho.1;refine⟨_,.inr (fun z=>by cases z),?_,Kc h.ZR (wL D) (.chunk d O) ((de cV).length+(gM d O).length) (aC _)⟩;rcases hp with⟨e0,e⟩|⟨A,qn,sH,e⟩
     . have adj:O=[]:=by
        cases O with
        |nil=>rfl
        |cons x O=>exact absurd (sA x (by simp)) (by rw[e0];show ¬(0:Int)<= -1;decide)
       have OB:k=0:=by have:=h.ZR;rw[e0]at this;simpa using this
       subst e0 adj OB;rw[e];have:=XZ (F:=0) (R:=0) (D:=D) (d:=d) Yl L;have e1:(de []).length+(iY.chunk d []).bytes.length=(gM d []).length:=bI _;have e2:de []++(iY.chunk d []).bytes=gM d []:=rfl;have e3:(de []).length+(gM d []).length=(gM d []).length:=bI _;rw[e1,e2,e3];exact this
     . rw[e];exact aiN Yl L L h32 (fun x M=>(o7 hw hg x).1 (sA x M)) (HX hw hg L) qn rfl L
end
theorem Ym{be:LS}{s:RS}(g:EG be s):RtE be.N:=fun n=>by
 rw[g.lk n];split
 . exact .inl rfl
 . exact .inr ⟨_,rfl⟩
section
variable{cV:List iY}{be:LS}{s:RS}{k:Nat}{l:List RS}
theorem Ke(h:SV cV k l)(hB:cV.length<=2500){nm:B}(hy:ZO nm)(x:B)(M:x=[]\/x.length=32):
  ∃kF,SV kF k (oT l (k8 (fo cV) nm x))/\kF.length<=cV.length+1/\∀[eB] (D:Int) (p:gx),xL D cV k p->Yk (w1 (k8 (fo cV) nm x).ch) D->
   ∃q,(p.lo=none\/q.lo≠none)/\qf 16 [.str nm,.str x] p (.int .i64 (k8 (fo cV) nm x).er) q/\xL (Qy (w1 (k8 (fo cV) nm x).ch) D) kF k q:=by
 obtain⟨hw,hg,qR,iC,Ml⟩:=h.all L;have hn:=hy.ok;have KI:=hn.2;by_cases c1:x≠[]/\gj (fo cV).Q x<0
 . have hr:k8 (fo cV) nm x=⟨fo cV,[],62,false⟩:=by unfold k8;rw[aF c1]
   rw[hr];refine⟨cV,by unfold oT;rw[aJ Bool.false_ne_true];exact h,L,fun D p hp _=>⟨p,HY hp,?_,hp⟩⟩;rcases hp with⟨e0,e⟩|⟨A,qn,sH,e⟩
   . rw[e];exact Ya hn c1.1
   . rw[e];exact Um (Mf _ _ _ _ _ _ _ _ _ _ (Ym hg) hn c1.1 (HX hw hg c1.2))
 . have ZS:x=[]\/0<=gj (fo cV).Q x:=by
    by_cases q:x=[]
    . exact .inl q
    . exact .inr (by
       by_cases z:0<=gj (fo cV).Q x
       . exact z
       . exact absurd ⟨q,L⟩ c1)
   by_cases c2:x=gQ nm (fo cV).ro
   . have hr:k8 (fo cV) nm x=⟨fo cV,[],0,false⟩:=by unfold k8;rw[aJ c1,aF c2]
     rw[hr];refine⟨cV,by unfold oT;rw[aJ Bool.false_ne_true];exact h,L,fun D p hp _=>⟨p,HY hp,?_,hp⟩⟩;rcases hp with⟨e0,e⟩|⟨A,qn,sH,e⟩
     . have:x=[]:=by rw[c2,e0];rfl
       rw[e,this];exact X3 hn
     . rw[e];have hl:=hg.lk nm;rw[<- c2]at hl;by_cases q:x=[]
       . rw[aF q]at hl;subst q;exact Um (PE _ _ _ _ _ _ _ _ _ hn hl)
       . rw[aJ q]at hl;have hf:0<=gj (fo cV).Q x:=ZS.resolve_left q;exact Um (PD _ _ _ _ _ _ _ _ _ _ hn q ((o7 hw hg x).1 hf) hl)
   . have hr:k8 (fo cV) nm x=⟨⟨(fo cV).Q,my nm x (eI x []) (fo cV).ro⟩,[],0,true⟩:=by unfold k8;rw[aJ c1,aJ c2]
     rw[hr];have ha:T7 (fo cV) (.root nm x):=⟨hy,ZS,c2⟩;have Md:(jP nm x).length<=180:=(Eh hw ha).2;have hu:oT l ⟨⟨(fo cV).Q,my nm x (eI x []) (fo cV).ro⟩,[],0,true⟩=l++[Bc (fo cV) (.root nm x)]:=by unfold oT;rw[aF rfl];rfl
     rw[hu];refine⟨cV++[.root nm x],h.more (.root nm x) ha,by rw[ay];exact aC _,fun D p hp ho=>?_⟩;have Yl:BZ D:=ho.1;refine⟨_,.inr (fun z=>by cases z),?_,Kc h.ZR (wL D) (.root nm x) ((de cV).length+(jP nm x).length) (aC _)⟩;rcases hp with⟨e0,e⟩|⟨A,qn,sH,e⟩
     . exfalso;rcases ZS with q|q
       . exact c2 (by rw[q,e0];rfl)
       . rw[e0]at q;exact absurd q (by show ¬(0:Int)<= -1;decide)
     . rw[e];have hl:=hg.lk nm;have uY:(iD cV).N.length<64:=by have:=rK hw hg;have:=hw.Vi;omega
       by_cases q:x=[]
       . subst q;have fS:gQ nm (fo cV).ro≠[]:=fun z=>c2 z.symm;rw[aJ fS]at hl;have ea:(Cp (iD cV) (.root nm []))=⟨(iD cV).R,(iD cV).C,mh (.str nm) (iD cV).N⟩:=rfl;rw[ea];exact MJ (S3 _ _ _ _ _ _ _ _ _ _ Yl hn hl fS qn rfl L)
       . have hf:0<=gj (fo cV).Q x:=ZS.resolve_left q;have h32:x.length=32:=M.resolve_left q;have ea:(Cp (iD cV) (.root nm x))=⟨(iD cV).R,(iD cV).C,iK (.str nm) (.str x) (iD cV).N⟩:=by
          show LS.mk _ _ (if x=[]then _ else _)=_;rw[aJ q]
         rw[ea];by_cases w:gQ nm (fo cV).ro=[]
         . rw[aF w]at hl;exact MJ (S1 _ _ _ _ _ _ _ _ _ _ Yl hn q L ((o7 hw hg x).1 hf) hl uY qn rfl L)
         . rw[aJ w]at hl;exact MJ (S2 _ _ _ _ _ _ _ _ _ _ _ Yl hn q L ((o7 hw hg x).1 hf) hl c2 qn rfl L)
theorem P7(h:SV cV k l):SV cV cV.length [fo cV]/\∀[eB] (D:Int) (p:gx),xL D cV k p->Yk 1 D->
  ∃q,(p.lo=none\/q.lo≠none)/\qf 66 [] p (.int .i64 0) q/\xL (Qy 1 D) cV cV.length q:=by
 refine⟨⟨h.val,aC _,(uD cV).symm⟩,fun D p hp ho=>?_⟩;have Yl:BZ D:=ho.1;rcases hp with⟨e0,e⟩|⟨A,qn,sH,e⟩
 . exact⟨sZ 0 0 (wL D),.inl (by rw[e];rfl),by rw[e];exact Yc Yl,.inl ⟨e0,rfl⟩⟩
 . refine⟨_,.inr (fun z=>?_),by rw[e];exact Yb Yl,.inr ⟨A,qn,sH,?_⟩⟩
   . cases z
   . rw[aU];rfl
theorem El(Q:List hU)(bs:List Bool):(lP Q bs).length<=Q.length:=(qH Q bs).length_le
theorem Ur(h:nZ s)(e:s.ro=[]):(gC s).Q=[]:=by
 cases q:(gC s).Q with
 |nil=>rfl
 |cons c l=>
  have h0:(lP s.Q (fu s))[0]? =some c:=by
   have:lP s.Q (fu s)=c::l:=q;rw[this];rfl
  obtain⟨m,X,h2,_⟩:=tC _ _ _ _ h0;obtain⟨_,_,p,hp,_⟩:=(kept h X).1 h2;rw[e]at hp;cases hp
theorem HZ(h:nZ s){m:Nat}{c:hU}(J:s.Q[m]? =some c):jF (oU s.Q 0) c.dg=(m:Int):=by
 unfold jF;rw[mz h.nd J,bI];rfl
theorem Us(h:nZ s):(s.Q.map hU.dg).Pairwise fun a b=>jF (oU s.Q 0) a<jF (oU s.Q 0) b:=by
 rw[List.pairwise_iff_getElem];intro i j hi hj Qm;rw[bf]at hi hj;rw[List.getElem_map,List.getElem_map,HZ h (az hi),HZ h (az hj)];omega
theorem yK(h:nZ s)(hl:s.Q.length<=1000000)(x:B):0<=jF (oU s.Q 0) x/\jF (oU s.Q 0) x<1000000000:=by
 rcases Bb s.Q x with q|⟨j,c,hj,rfl⟩
 . unfold jF;rw[qF q];exact⟨dP,dP⟩
 . rw[HZ h hj];have:=(aH.1 hj).1;omega
theorem MK(h:nZ s):Vb (oU s.Q 0):=fun x=>by
 rcases Bb s.Q x with q|⟨j,c,hj,rfl⟩
 . exact .inl (qF q)
 . exact .inr ⟨_,_,_,mz h.nd hj⟩
theorem Em(h:nZ s)(x:B):x∈(gC s).Q.map hU.dg↔∃m c,s.Q[m]? =some c/\c.dg=x/\RI s m:=by
 rw[bF];constructor
 . rintro⟨c,J,rfl⟩;obtain⟨i,hi⟩:=bW.1 J;obtain⟨m,X,h2,_⟩:=tC s.Q (fu s) i c hi;exact⟨m,c,X,rfl,(kept h X).1 h2⟩
 . rintro⟨m,c,W,rfl,hr⟩;exact⟨c,Bd W ((kept h W).2 hr),rfl⟩
theorem P9(h:nZ s)(g:EG be s):List.Perm ((gC s).Q.map hU.dg) (qv be.C be.N (s.Q.length+1)):=by
 refine HV (HW h).nd ((J3 (wm h g)).nd List.nodup_nil) fun x=>?_;rw[Em h,J4 (wm h g),g.C];constructor
 . rintro⟨m,c,W,rfl,c',X,p,hp,q⟩;rw[W]at X;cases X;exact⟨p.2,(wj h g _).2 ⟨p,hp,rfl⟩,q⟩
 . rintro⟨d,hd,q⟩;obtain⟨p,hp,rfl⟩:=(wj h g d).1 hd;obtain⟨c,J,rfl⟩:=T5 h q (h.rv p hp).2;obtain⟨m,W⟩:=bW.1 J;exact⟨m,c,W,rfl,c,W,p,hp,q⟩
theorem Qa(h:nZ s)(g:EG be s):JI be.C be.N ((gC s).Q.map hU.dg)=jv (gC s):=by
 unfold JI jv;congr 1
 . rw[List.map_map];refine List.map_congr_left fun c J=>?_;obtain⟨j,hj⟩:=bW.1 ((qH s.Q (fu s)).subset J);show Ak be.C c.dg=_;rw[g.C];exact HN (mz h.nd hj)
 . rw[Ah h g,List.map_map];refine List.map_congr_left fun p hp=>?_;have hp:p∈s.ro:=hp;show iY.root p.1 (rcV be.N p.1)=_;unfold rcV;rw[g.lk,uC h hp,aJ (h.xg hp)]
theorem yL(t:RS):(jv t).length=t.Q.length+t.ro.length:=by unfold jv;rw[ay,bf,bf]
theorem Of(hw:nZ s)(xk:s.ro≠[]):(gC s).Q.map hU.dg≠[]:=by
 obtain⟨pr,rest,hpr⟩:=List.exists_cons_of_ne_nil xk;have hp:pr∈s.ro:=by rw[hpr];simp
 obtain⟨c,J,e2⟩:=(hw.rv pr hp).2;obtain⟨j,hj⟩:=bW.1 J;have:c.dg∈(gC s).Q.map hU.dg:=(Em hw _).2 ⟨j,c,hj,rfl,(HU hw hj).2 (.inl ((Ef _ _).2 ⟨pr,hp,e2.symm⟩))⟩;exact fun z=>by rw[z]at this;cases this
theorem Ut(h:SV cV k l)(hB:cV.length<=2500)(xk:(fo cV).ro≠[])(n A:Nat)(b:B)(F R D:Int)[eB](ho:BZ D){cs:Exit->St->Prop}
  (pY:TG ak 7 Tryz.f19.ntmps (dU A2) (Vd n A b F R (wL D) (iD cV).C (iD cV).N (de (jv (gC (fo cV))))) cs):TG ak 7 Tryz.f19.ntmps uP (cZ [P3] (dN (pS n A b F R D (iD cV).C (iD cV).N)) 7) cs:=by
 obtain⟨hw,hg,qR,iC,Ml⟩:=h.all L;have hwc:=HW hw;have hv:=Ug hwc;have ja:(jv (gC (fo cV))).length<=cV.length+18:=by
  rw[yL];have X:(gC (fo cV)).Q.length<=(fo cV).Q.length:=El _ _;have h2:=hwc.Vi;omega
 have adk:=(xe hv.1 wf0 Ub (by show 0+_<=1000000;omega)).2.2.2;have WT:=P9 hw hg;have ZT:=Qa hw hg;have awq:((gC (fo cV)).Q.map hU.dg).length<=cV.length:=by
  rw[bf];exact bR (El _ _) qR
 rw[<- ZT]at pY;exact acu n A b F R D (iD cV).C (iD cV).N ho ((fo cV).Q.length+1) ((gC (fo cV)).Q.map hU.dg) hg.key (wm hw hg)
  (by rw[<- WT.length_eq];omega) (by rw[hg.C];exact MK hw) (by rw[hg.C];exact yK hw L) WT
  (by rw[hg.C];exact(Us hw).sublist ((qH _ _).map _))
  (fun x M=>by
   obtain⟨m,c,W,rfl,_⟩:=(Em hw x).1 M;have hl:=mz (i:=0) hw.nd W;rw[<- hg.C]at hl;refine⟨⟨_,_,_,hl⟩,?_⟩;rw[HN hl];obtain⟨n1,n2,n3⟩:=hw.nm c (bg W);exact⟨L,L,fun r hr=>by
    obtain⟨j,c',_,hj,e3⟩:=hw.ref m c W r hr;rw[<- e3];exact hw.Eg (bg hj)⟩)
  (fun nm hnm=>by
   rw[Ah hw hg]at hnm;obtain⟨pr,hp,rfl⟩:=bF.1 hnm;have hl:=hg.lk pr.1;rw[uC hw hp,aJ (hw.xg hp)]at hl;refine⟨⟨_,hl⟩,?_⟩;have:ED (iD cV).N pr.1= .root pr.1 pr.2:=by unfold ED rcV;rw[hl]
   rw[this];obtain⟨⟨y,hy,_⟩,c,hcm,e3⟩:=hw.rv pr hp;have:[y].length=1:=rfl;have h32:=hw.Eg hcm;exact⟨by rw[hy];omega,by rw[<- e3];omega⟩)
  (by rw[rK hw hg];have:=hw.Vi;omega) (by rw[ZT];omega) (Of hw xk) (fun z=>xk (by
   have:=rK hw hg;rw[z]at this;exact cC.1 this.symm)) pY
theorem Kf(h:SV cV k l)(hB:cV.length<=2500):
  SV (jv (gC (fo cV))) (jv (gC (fo cV))).length [gC (fo cV)]/\(jv (gC (fo cV))).length<=cV.length+18/\∀[eB] (D:Int) (p:gx),xL D cV k p->Yk 2 D->
   ∃q,qf 19 [] p (.int .i64 0) q/\xL (Qy 2 D) (jv (gC (fo cV))) (jv (gC (fo cV))).length q:=by
 obtain⟨hw,hg,qR,iC,Ml⟩:=h.all L;have hwc:=HW hw;have hv:=Ug hwc;have ja:(jv (gC (fo cV))).length<=cV.length+18:=by
  rw[yL];have X:(gC (fo cV)).Q.length<=(fo cV).Q.length:=El _ _;have h2:=hwc.Vi;omega
 have aiV:[gC (fo cV)]=oW (jv (gC (fo cV))) (jv (gC (fo cV))).length:=by rw[uD,hv.2]
 refine⟨⟨hv.1,aC _,aiV⟩,ja,fun D p hp ho=>?_⟩;obtain⟨ho,GW,_⟩:=ho;by_cases xk:(fo cV).ro=[]
 . have hcn:gC (fo cV)=⟨[],[]⟩:=by
    have X:=Ur hw xk;have h2:(gC (fo cV)).ro=[]:=xk;cases q:gC (fo cV)with
    |mk a b=>rw[q]at X h2;simp only at X h2;rw[X,h2]
   have VA:jv (gC (fo cV))=[]:=by rw[hcn];rfl
   have Ie:(iD cV).N=[]:=by
    have:=rK hw hg;rw[xk]at this;exact cC.1 this
   refine⟨sZ 0 0 (wL (wL D)),?_,.inl ⟨VA,rfl⟩⟩;rcases hp with⟨e0,e⟩|⟨A,qn,sH,e⟩
   . rw[e];exact adh 0 0 D ho GW
   . rw[e];unfold Uq;rw[Ie];exact Yg ho GW (by rw[hg.C];exact MK hw) (by rw[hg.C];exact yK hw L)
 . rcases hp with⟨e0,e⟩|⟨A,qn,sH,e⟩
   . exact absurd (by rw[e0];rfl) xk
   . have adk:=(xe hv.1 wf0 Ub (by show 0+_<=1000000;omega)).2.2.2;have adk:=(xe hv.1 wf0 Ub (by show 0+_<=1000000;omega)).2.2.2;have hz0:=Of hw xk;have J:c5 ak 19 [P3] (dN (pS (de cV).length A (de cV) (Int.ofNat (de (cV.take k)).length) (iD cV).R D (iD cV).C (iD cV).N)) 7 (.int .i64 0) _ 10:=
      c7 Tryz.func19 (code:=uP) U U (Ut h hB xk _ _ _ _ _ D ho (Tg _ _ _ _ _ _ _ _ GW _ adk.1 L))
     refine⟨_,by rw[e];exact adi J,.inr ⟨(de (jv (gC (fo cV)))).length,?_,aC _,?_⟩⟩
     . have fS:jv (gC (fo cV))≠[]:=fun z=>hz0 (by
        have:=aL List.length z;rw[yL]at this;exact cC.1 (by rw[bf];simp at this;exact this.1▸rfl))
       obtain⟨r,rest,hr⟩:=List.exists_cons_of_ne_nil fS;rw[hr,kO,ay];have:=oS (r:=r);omega
     . rw[aU];rfl
end
abbrev lvS(cV:List iY):B->Bool:=fun d=>decide (d∈qv (iD cV).C (iD cV).N ((fo cV).Q.length+1))
abbrev yvS(cV:List iY):B->B:=fun x=>gQ x (fo cV).ro
theorem H6[eB]{D:Int}{p:gx}{cV:List iY}{k:Nat}{l:List RS}(h:SV cV k l)(hp:xL D cV k p)(hB:cV.length<=3000):Obs p (fo cV).Q.length ((fo cV).ro.map Prod.fst) (fo cV).Q (lvS cV) (yvS cV):=by
 obtain⟨hw,hg,qR,iC,Ml⟩:=h.all L;rcases hp with⟨e0,e⟩|⟨A,qn,sH,e⟩
 . subst e0;rw[e];exact aiT 0 0 D _ _
 . rw[e,<- Ah hw hg];have ja:(fo cV).Q.length=(iD cV).C.length:=by rw[hg.C,J0]
   have Cb:zX (iD cV).N:=fun e he=>by obtain⟨n,d,rfl⟩:=hg.key e he;exact⟨n,rfl⟩
   have:=aiS (de cV).length A (de cV) (Int.ofNat (de (cV.take k)).length) (iD cV).R D (iD cV).C (iD cV).N (fo cV).Q ((fo cV).Q.length+1) (yvS cV) Cb (by rw[rK hw hg];have:=hw.Vi;omega) hg.key (wm hw hg)
    (fun c J=>by
     obtain⟨j,hj⟩:=bW.1 J;refine⟨by have:=(hw.nm c J).2.2;omega,((0+j:Nat):Int),?_⟩;rw[hg.C];exact mz hw.nd hj)
    (fun x M=>by
     rw[Ah hw hg]at M;obtain⟨pr,hp,rfl⟩:=bF.1 M;rw[hg.lk,uC hw hp,aJ (hw.xg hp)];show some (lf.str pr.2)=some (lf.str (gQ pr.1 (fo cV).ro));rw[uC hw hp])
   rw[<- ja]at this;exact this
theorem Gn:∀(l:List iY) (s:RS),s.Q <+: (l.foldl Bc s).Q
 | [],s=>List.prefix_refl _
 |r::l,s=>by
  refine List.IsPrefix.trans ?_ (Gn l (Bc s r));cases r with
  |chunk d O=>exact List.prefix_append _ _
  |root n x=>exact List.prefix_refl _
theorem BL(cV:List iY)(i:Nat):(fo (cV.take i)).Q <+: (fo cV).Q:=by
 have:fo cV=(cV.drop i).foldl Bc (fo (cV.take i)):=by
  unfold fo;rw[<- cR,cg]
 rw[this];exact Gn _ _
theorem Og{cV:List iY}{i j:Nat}(h:(fo (cV.take j)).Q.length=(fo (cV.take i)).Q.length):(fo (cV.take i)).Q=(fo (cV.take j)).Q:=by
 have X:=BL cV i;have h2:=BL cV j;exact(List.prefix_of_prefix_length_le X h2 L).eq_of_length h.symm
theorem Uu{be:LS}{t:RS}(hw:nZ t)(hg:EG be t):t.Q.map (fun c=>decide (c.dg∈qv be.C be.N (t.Q.length+1)))=fu t:=by
 refine List.ext_getElem? fun i=>?_;rw[bu];by_cases h:i<t.Q.length
 . have J:t.Q[i]? =some t.Q[i]:=az h;have hr:(fu t)[i]? =some ((fu t)[i]'(by rw[xK hw];exact h)):=az _;have hl:=Uf hw hg J;rw[aO,hr]at hl;rw[J,hr];exact aL some hl.symm
 . rw[bS L,bS (by rw[xK hw];omega)];rfl
section
variable{cV:List iY}{k:Nat}{l:List RS}
theorem Uv{t:RS}(hw:nZ t):(t.ro.map Prod.fst).map (fun x=>(x,gQ x t.ro))=t.ro:=by
 rw[List.map_map];have:∀p∈t.ro,((fun x=>(x,gQ x t.ro)) ∘ Prod.fst) p=p:=fun p hp=>by
  show(p.1,gQ p.1 t.ro)=p;rw[uC hw hp]
 rw[List.map_congr_left this,List.map_id']
theorem Uw(hw:nZ (fo cV))(hg:EG (iD cV) (fo cV)){w:RS}(En:(fo cV).Q.length=w.Q.length->w.Q=(fo cV).Q):
  tx (fo cV).Q.length ((fo cV).ro.map Prod.fst) (lvS cV) (yvS cV) w=true↔w=fo cV:=by
 unfold tx;rw[aE,aE,aE,decide_eq_true_iff,decide_eq_true_iff,decide_eq_true_iff,decide_eq_true_iff];have hrm:=Uv hw;constructor
 . rintro⟨X,_,_,h4⟩;have h5:=En X;have h4:(fo cV).ro=w.ro:=hrm.symm.trans h4;cases w with
   |mk a b=>simp only at h5 h4;rw[h5,<- h4]
 . rintro rfl;exact⟨rfl,by rw[bf],Uu hw hg,hrm⟩
theorem Kg(hw:nZ (fo cV))(hg:EG (iD cV) (fo cV)){w:RS}(En:(fo cV).Q.length=w.Q.length->w.Q=(fo cV).Q)(b:Prop)[Decidable b](hb:w=fo cV↔b):
  tx (fo cV).Q.length ((fo cV).ro.map Prod.fst) (lvS cV) (yvS cV) w=decide b:=by
 have h:=Uw hw hg En;by_cases c:b
 . rw[bE c];exact h.2 (hb.2 c)
 . rw[bz c];cases q:tx (fo cV).Q.length ((fo cV).ro.map Prod.fst) (lvS cV) (yvS cV) w with
   |false=>rfl
   |true=>exact absurd (hb.1 (h.1 q)) c
theorem Kh{s:RS}(h:N8 s cV)(i:Nat):N8 s (cV.take i):=by
 rw[<- cg i cV]at h;exact(Cu.1 h).1
theorem Yn{α:Type}(P:α->Prop)(l:List α)(cS i0:Nat)(a0:α)(h0:l[i0]? =some a0)(hp:P a0)(hT:i0<cS):∃(j:Nat) (a:α),i0<=j/\j<cS/\l[j]? =some a/\P a/\∀(i:Nat) (b:α),j<i->i<cS->l[i]? =some b->¬P b:=by
 induction cS with
 |zero=>omega
 |succ cS ih=>
  by_cases hq:∃b,l[cS]? =some b/\P b
  . obtain⟨b,X,h2⟩:=hq;exact⟨cS,b,L,L,X,h2,fun i c hi xW=>by omega⟩
  . have fS:i0≠cS:=fun e=>hq ⟨a0,by rw[<- e];exact h0,hp⟩;obtain⟨j,a,X,h2,h3,h4,h5⟩:=ih L;refine⟨j,a,X,L,h3,h4,fun i b hi xW hb=>?_⟩;by_cases e:i=cS
    . subst e;exact fun z=>hq ⟨b,hb,z⟩
    . exact h5 i b hi L hb
theorem adl{n f t0:Nat}(hf:f<=n)(hn:n<=1000000)(ht:t0<=255):V.int aj (IntKind.i64.wrap (Int.ofNat f+IntKind.i64.wrap ((IntKind.i64.wrap (IntKind.i64.wrap ((Int.ofNat n)-Int.ofNat f)*Int.ofNat t0)).tdiv (255:Int))))=iW (f+(n-f)*t0/255)/\f+(n-f)*t0/255<=n:=by
 have X:(n-f)*t0<=(n-f)*255:=Nat.mul_le_mul_left _ ht;have h2:(n-f)*t0/255<=n-f:=Nat.div_le_of_le_mul (by rw[Nat.mul_comm 255];exact X);refine⟨?_,L⟩;have e1:IntKind.i64.wrap ((Int.ofNat n)-Int.ofNat f)=((n-f:Nat):Int):=by
  rw[eV dr dr,jZ,jZ];omega
 have e2:((n-f:Nat):Int)*Int.ofNat t0=(((n-f)*t0:Nat):Int):=by rw[jZ];exact(Int.natCast_mul _ _).symm
 rw[e1,e2,l8 L];have e3:((((n-f)*t0:Nat):Int)).tdiv 255=(((n-f)*t0/255:Nat):Int):=by
  rw[Int.tdiv_eq_ediv_of_nonneg L];rfl
 rw[e3,l8 L];exact aL _ (by rw[jZ,eV L L,jZ];omega)
def Yo(cV:List iY)(k kk:Nat):Nat:=(de (cV.take k)).length+((de cV).length-(de (cV.take k)).length)*(kk%256)/255
def StO(off arm:Bool)(D:Int)(cV:List iY)(k:Nat)(p:gx):Prop:=(cV=[]/\p=⟨none,0,0,off,arm,D,[],[]⟩)\/∃A,0<A/\(de cV).length<=A/\p=⟨some ((de cV).length,A,de cV),Int.ofNat (de (cV.take k)).length,(iD cV).R,off,arm,D,(iD cV).C,(iD cV).N⟩
theorem Ux[eB]{D:Int}{cV:List iY}{k:Nat}{p:gx}(h:xL D cV k p):StO false eB.on D cV k p:=h
theorem Yp(h:SV cV k l)(hB:cV.length<=2500)(kk:Nat)(hk:kk<=1000000):
  ∃j:Nat,j<=cV.length/\k<=j/\SV (cV.take j) j [fo (cV.take j)]/\(de (cV.take j)).length<=Yo cV k kk/\(∀i,i<=cV.length->(de (cV.take i)).length<=Yo cV k kk->i<=j)/\
   ∀(off arm:Bool) (D:Int) (p:gx),StO off arm D cV k p->∃q:gx,(p.lo=none\/q.lo≠none)/\ZL (kk:Int) p q/\@xL qD D (cV.take j) j q:=by
 obtain⟨hw,hg,qR,iC,Ml⟩:=h.all L;have Qv:=h.ZR;have aiX:kk%256<=255:=by have:=Nat.mod_lt kk (show 0<256 by decide);omega
 have U4:=wo cV Qv;rw[aU]at U4;by_cases e0:cV=[]
 . have OB:k=0:=by rw[e0]at Qv;simpa using Qv
   refine⟨0,aX _,L,⟨trivial,aC _,(uD []).symm⟩,aX _,fun i hi _=>by rw[e0]at hi;exact hi,fun off arm D p hp=>?_⟩;rcases hp with⟨_,e⟩|⟨A,qn,sH,e⟩
   . exact⟨@sZ 0 0 D qD,.inl (by rw[e]),by rw[e];exact Yh off arm kk hk,.inl ⟨rfl,rfl⟩⟩
   . subst e0 OB;have Ev:=Oc (n:=0) (A:=A) (b:=[]) (F:=0) (R:=0) (D:=D) (C:=[]) (N:=[]) off arm kk hk 0 [] [] (by
      show V.int aj (IntKind.i64.wrap ((0:Int)+IntKind.i64.wrap ((IntKind.i64.wrap (IntKind.i64.wrap ((0:Int)-0)*Int.ofNat (kk%256))).tdiv (255:Int))))=iW 0;rw[show IntKind.i64.wrap ((0:Int)-0)=0 from rfl,Int.zero_mul];rfl) (aC _) (aX _) (fun r hr=>by cases hr) rfl (.inl rfl) dP
     refine⟨_,.inr (fun z=>by cases z),by rw[e];exact Ev,.inr ⟨A,qn,aX _,rfl⟩⟩
 . obtain⟨c1,c2⟩:=adl (n:=(de cV).length) (f:=(de (cV.take k)).length) (t0:=kk%256) U4 L aiX;obtain⟨j,x,X,h2,h3,h4,h5⟩:=Uj iC c2;have YT:k<=j:=h4 k Qv L;have aq8:∀r∈cV.take j,r.ok:=fun r hr=>iC r (List.mem_of_mem_take hr);have Kq:(cV.take j).length=j:=by rw[aY];omega
   refine⟨j,X,YT,⟨Kh h.val j,L,?_⟩,h5,h4,fun off arm D p hp=>?_⟩
   . rw[show oW (cV.take j) j=oW (cV.take j) (cV.take j).length by rw[Kq]];exact(uD _).symm
   . rcases hp with⟨e1,_⟩|⟨A,qn,sH,e⟩
     . exact absurd e1 e0
     have Ev:=Oc (n:=(de cV).length) (A:=A) (b:=de cV) (F:=Int.ofNat (de (cV.take k)).length) (R:=(iD cV).R) (D:=D) (C:=(iD cV).C) (N:=(iD cV).N) off arm kk hk _ (cV.take j) x c1 c2 L aq8 h2 h3 L;refine⟨@Uq qD (cV.take j) (de (cV.take j)).length A D,.inr (fun z=>by cases z),by rw[e];exact Ev,.inr ⟨A,qn,L,?_⟩⟩;rw[show(cV.take j).take j=cV.take j from bk L]
theorem Qb{j:Nat}(hj:j<=cV.length)(hk:k<=j)(h:(de (cV.take j)).length<=(de (cV.take k)).length):j=k:=by
 by_cases c:k<j
 . exfalso;have W:=wo cV (i:=k+1) (j:=j) c;have hs:de (cV.take (k+1))=de (cV.take k)++(cV[k]'(by omega)).bytes:=BE L;have hb:=oS (r:=cV[k]'(by omega));rw[hs,ay]at W;omega
 . omega
theorem Be(h:SV cV k l)(hB:cV.length<=2500)(kk:Nat)(hk:kk<=1000000):
  ∃(j j0:Nat),j<=cV.length/\k<=j/\SV (cV.take j) j [fo (cV.take j)]/\T2 kk l<=j0/\j0<B3 kk l/\l[j0]? =some (fo (cV.take j))/\
   (∀(i:Nat) (w:RS),l[i]? =some w->j0<=i->i<B3 kk l->(w=fo (cV.take j)↔i=j0))/\
   ∀(off arm:Bool) (D:Int) (p:gx),StO off arm D cV k p->∃q:gx,(p.lo=none\/q.lo≠none)/\ZL (kk:Int) p q/\@xL qD D (cV.take j) j q:=by
 have Qv:=h.ZR;have aiX:kk%256<=255:=by have:=Nat.mod_lt kk (show 0<256 by decide);omega
 have hll:l.length=cV.length-k+1:=by rw[h.fA,Ej]
 have U4:=wo cV Qv;rw[aU]at U4;obtain⟨j,k3,k4,k5,u1,u2,kq⟩:=Yp h hB kk hk;have k6:kk%256=0->j=k:=fun h0=>Qb k3 k4 (by unfold Yo at u1;rw[h0,Nat.mul_zero,Nat.zero_div,Nat.add_zero]at u1;exact u1);have k7:kk%256=255->j=cV.length:=fun h0=>by
  have:cV.length<=j:=u2 cV.length (aC _) (by unfold Yo;rw[aU,h0,Nat.mul_div_cancel _ dP];omega);omega
 have hT:B3 kk l<=l.length:=by unfold B3;split<;>omega
 have hjT:T2 kk l<=j-k/\j-k<B3 kk l:=by
  unfold T2 B3;by_cases a:kk%256=0
  . have:=k6 a;rw[aF a,aJ L];omega
  . rw[aJ a];by_cases b:kk%256=255
    . have:=k7 b;rw[aF b];omega
    . rw[aJ b];omega
 have kL:l[j-k]? =some (fo (cV.take j)):=by
  rw[h.fA,Ek Qv L,show k+(j-k)=j by omega]
 obtain⟨j0,a,b1,b2,b3,b4,b5⟩:=Yn (fun w=>w=fo (cV.take j)) l (B3 kk l) (j-k) _ kL rfl hjT.2;refine⟨j,j0,k3,k4,k5,L,b2,by rw[b3,b4],fun i w hi X h2=>?_,kq⟩;constructor
 . intro e;by_cases c:i=j0
   . exact c
   . exact absurd e (b5 i w L h2 hi)
 . rintro rfl;rw[b3]at hi;cases hi;exact b4
end
theorem H7{cV:List iY}{k:Nat}{l:List RS}(h:SV cV k l)(hB:cV.length<=3000){i:Nat}{w:RS}(hi:l[i]? =some w):k+i<=cV.length/\w=fo (cV.take (k+i))/\nZ w/\w.Q.length<=cV.length:=by
 have Qv:=h.ZR;have fH:i<l.length:=(aH.1 hi).1;rw[h.fA,Ej]at fH;have e:w=fo (cV.take (k+i)):=by
  rw[h.fA,Ek Qv L]at hi;exact(cG hi).symm
 have hv:=xe (Kh h.val (k+i)) wf0 Ub (by show 0+_<=1000000;rw[aY];omega);refine⟨L,e,by rw[e];exact hv.1,?_⟩;rw[e];have h2:=hv.2.2.1;have h3:(iP.Q.length)=0:=rfl;rw[h3,aY]at h2;exact bR h2 L
def Uy(x:Nat)(l l':List RS)(n:Nat):Prop:=(x%10<7->n=if l.length<l'.length then 1 else 0)/\(x%10=7->n=1)/\(x%10=8->n=2)/\(x%10=9->n=0)
theorem Oh{x:Nat}(c:x%10<7)(l:List RS)(r:RR):Uy x l (oT l r) (w1 r.ch):=by
 refine⟨fun _=>?_,fun h=>by omega,fun h=>by omega,fun h=>by omega⟩;unfold oT w1;cases r.ch with
 |true=>rw[aF rfl,aF rfl,aF (by rw[ay];exact Nat.lt_succ_self _)]
 |false=>rw[aJ Bool.false_ne_true,aJ Bool.false_ne_true,aJ (cB _)]
def Nxt(s:RS)(x y z:Nat)(d:B)(l l':List RS):Prop:=(x%10<4->l'=oT l (jn s (d.take 60) (iG s y z)))/\(4<=x%10->x%10<7->l'=oT l (k8 s (Gc y) (nt s y z)))
theorem Yq{cV:List iY}{k:Nat}{l:List RS}(h:SV cV k l)(hB:cV.length<=2500)(hl:l.length<=900)(x y z:Nat)(d:B)(hy:y<=255)(hz:z<=255):
  ∃kF k' l' n,SV kF k' l'/\kF.length<=cV.length+18/\l'.length<=l.length+1/\Uy x l l' n/\Nxt (fo cV) x y z d l l'/\∀[eB] (D:Int) (p:gx),xL D cV k p->Yk n D->(x%10=9->eB.on=false)->
   ∃q,c5 ak 27 [P3,o6 x y z d] (K (fK p l)) 9 (.bool true) (K (tw q l')) (nR q)/\xL (Qy n D) kF k' q:=by
 obtain⟨hw,hg,qR,iC,Ml⟩:=h.all L;have h32:∀c∈(fo cV).Q,c.dg.length=32:=fun c J=>hw.Eg J;have h5:=hw.Vi;have GB:∀c∈(fo cV).Q,c.O.length<=100000:=fun c J=>by have:=(hw.nm c J).2.2;omega
 have ni:l=mB cV k++[fo cV]:=h.fA;have hpi:(mB cV k).length<=900:=by
  have:=aL List.length ni;rw[ay]at this;omega
 have MZ:∀r:RR,(oT l r).length<=l.length+1:=fun r=>by
  unfold oT;split
  . rw[ay];exact aC _
  . exact Nat.le_succ _
 have M:x%10<10:=Nat.mod_lt _ dP;rcases(by omega:x%10<=3\/(4<=x%10/\x%10<=6)\/x%10=7\/x%10=8\/x%10=9)with c|⟨c,c2⟩|c|c|c
 . have Fw:=A9 h32 y z;obtain⟨kF,a3,a4,aq⟩:=Oe h hB (d.take 60) (iG (fo cV) y z) (by rw[aY];omega) L Fw.2 (fun e0=>by
    have:(fo cV).Q.length=0:=by rw[e0];rfl
    unfold iG;rw[aJ L,cH];split<;>simp)
   refine⟨kF,k,_,_,a3,L,MZ _,Oh L _ _,⟨fun _=>rfl,fun h=>by omega⟩,fun D p hp ho _=>?_⟩;obtain⟨q,a1,a2,a5⟩:=aq D p hp ho;have:=aiv p q _ _ x y z d c (m64 p q (mB cV k) (fo cV) x y z d hy hz L L h32 L a2);rw[<- ni]at this;exact⟨q,this,a5⟩
 . obtain⟨kF,a3,a4,aq⟩:=Ke h hB (Od y) (nt (fo cV) y z) (by
    unfold nt;split
    . exact .inl rfl
    . exact .inr (w8 h32 z))
   refine⟨kF,k,_,_,a3,L,MZ _,Oh L _ _,⟨fun h=>by omega,fun _ _=>rfl⟩,fun D p hp ho _=>?_⟩;obtain⟨q,a1,a2,a5⟩:=aq D p hp ho;have:=aiw p q _ _ x y z d c c2 (m65 p q (mB cV k) (fo cV) x y z d hy hz L L L a2);rw[<- ni]at this;exact⟨q,this,a5⟩
 . obtain⟨a3,aq⟩:=P7 h;refine⟨cV,cV.length,_,1,a3,L,by simp,⟨fun h=>by omega,fun _=>rfl,fun h=>by omega,fun h=>by omega⟩,⟨fun h=>by omega,fun _ h=>by omega⟩,fun D p hp ho _=>?_⟩;obtain⟨q,a1,a2,a5⟩:=aq D p hp ho;have:=aix p q (mB cV k) x y z d (fo cV) c L a2;rw[<- ni]at this;exact⟨q,this,a5⟩
 . obtain⟨a3,a4,aq⟩:=Kf h hB;refine⟨_,_,_,2,a3,L,by simp,⟨fun h=>by omega,fun h=>by omega,fun _=>rfl,fun h=>by omega⟩,⟨fun h=>by omega,fun _ h=>by omega⟩,fun D p hp ho _=>?_⟩;obtain⟨q,a2,a5⟩:=aq D p hp ho;have:=aiy p q (mB cV k) (fo cV) x y z d c L L L GB a2;rw[<- ni]at this;exact⟨q,this,a5⟩
 . have Fv:XK y z<=1000000:=by
    unfold XK;have:1+z%2*3<=4:=by omega
    exact bR (Nat.mul_le_mul hy this) dP
   obtain⟨j,j0,a3,a4,a5,a6,a7,a8,a9,aq⟩:=Be h hB (XK y z) Fv;have vt:0<l.length:=by rw[ni,ay];simp
   have Kq:(cV.take j).length=j:=by rw[aY];omega
   obtain⟨Qo,hg2,sH,_,_⟩:=a5.all L;refine⟨cV.take j,j,_,0,a5,L,by simp,⟨fun h=>by omega,fun h=>by omega,fun h=>by omega,fun _=>rfl⟩,⟨fun h=>by omega,fun _ h=>by omega⟩,fun {inst} D p hp _ hA=>?_⟩;obtain⟨on⟩:=inst;obtain rfl:on=false:=hA c
   letI:eB:=⟨false⟩
   obtain⟨q,a1,a2,a10⟩:=aq _ _ D p (Ux hp);have ara:=H6 a5 a10 L;have ZM:∀(i:Nat) (w:RS),l[i]? =some w->j0<=i->i<B3 (XK y z) l->c5 ak 28 [P3,w.v] (K (fK q l)) 9 (.bool (decide (i=j0))) (K (fK q l)) 9:=by
    intro i w hi X h2;obtain⟨b1,b2,b3,b4⟩:=H7 h L hi;have En:(fo (cV.take j)).Q.length=w.Q.length->w.Q=(fo (cV.take j)).Q:=fun e=>by
     rw[b2]at e ⊢;exact Og e
    have:=m28 q l w ara En (by rw[bf];have:=Qo.Vi;omega) L (fun c J=>by have:=(b3.nm c J).2.2;omega);rw[Kg Qo hg2 En (i=j0) (a9 i w hi X h2)]at this;exact this
   exact⟨q,aqE p q _ _ x y z d c hy (c67 p q l _ Fv L vt j0 _ ⟨a6,a7⟩ a8 a2 ZM),a10⟩
theorem c5.adm{f:FuncId}{a b:V}{h X:H rs}{n n1:Nat}{v:V}(c:c5 ak f [a,b,.dV false 0 []] h n v X n1):c5 ak f [a,b,eM] h n v X n1:=by
 intro E w dm ra g hd;obtain⟨a',_,ha,⟨b',_,hb,⟨x',_,M,hn,rfl⟩,rfl⟩,rfl⟩:=ra;obtain⟨_,_,rfl⟩:0=0/\0=0/\x'= .slice none 0 0:=M;exact c E w _ ⟨a',_,ha,⟨b',_,hb,⟨_,_,⟨⟨none,0,[],rfl,aC _,rfl,fun _=>rfl,fun h=>absurd h (cB _)⟩,fun _=>⟨none,rfl⟩⟩,hn,rfl⟩,rfl⟩,rfl⟩ g hd
def EH(p:gx)(cV:List iY)(k:Nat)(l:List RS):Prop:=SV cV k l/\@xL qD 0 cV k p
theorem aiY:∀(n:Nat) (D:Int),@Qy qD n D=D
 |0,_=>rfl
 |n+1,D=>aiY n D
theorem okU:∀(n:Nat) (D:Int),@Yk qD n D
 |0,_=>trivial
 |n+1,D=>⟨fun(h:false=true)=>(by cases h),okU n D⟩
theorem Yr{n:Nat}{cV:List iY}{k:Nat}{p:gx}(h:@xL qD (@Qy qD n 0) cV k p):@xL qD 0 cV k p:=by rw[aiY]at h;exact h
theorem ai0:EH (@sZ 0 0 0 qD) [] 0 [iP]:=⟨sv0,@st0 qD 0⟩
section
variable{p:gx}{cV:List iY}{k:Nat}{l:List RS}(h:EH p cV k l)(hB:cV.length<=2500)
include h hB
theorem wq(d:B)(O:List (B))(hd:d.length<=60)(GB:O.length<=3)(h32:∀x∈O,x.length=32)(hz:cV=[]->O.length<=1):
  ∃q kF,qf 15 [.str d,p9 O] p (.ew [.str (jn (fo cV) d O).dg,.int .i64 (jn (fo cV) d O).er]) q/\EH q kF k (oT l (jn (fo cV) d O))/\kF.length<=cV.length+1:=by
 obtain⟨kF,a,b,c⟩:=Oe h.1 hB d O hd GB h32 hz;obtain⟨q,_,c2,c3⟩:=@c qD 0 p h.2 (okU _ _);exact⟨q,kF,c2,⟨a,Yr c3⟩,b⟩
theorem Qc{nm:B}(hy:ZO nm)(x:B)(M:x=[]\/x.length=32):
  ∃q kF,qf 16 [.str nm,.str x] p (.int .i64 (k8 (fo cV) nm x).er) q/\EH q kF k (oT l (k8 (fo cV) nm x))/\kF.length<=cV.length+1:=by
 obtain⟨kF,a,b,c⟩:=Ke h.1 hB hy x M;obtain⟨q,_,c2,c3⟩:=@c qD 0 p h.2 (okU _ _);exact⟨q,kF,c2,⟨a,Yr c3⟩,b⟩
theorem Qd:∃q,qf 19 [] p (.int .i64 0) q/\EH q (jv (gC (fo cV))) (jv (gC (fo cV))).length [gC (fo cV)]/\(jv (gC (fo cV))).length<=cV.length+18:=by
 obtain⟨a,b,c⟩:=Kf h.1 hB;obtain⟨q,c2,c3⟩:=@c qD 0 p h.2 (okU _ _);exact⟨q,c2,⟨a,Yr c3⟩,b⟩
theorem ML(kk:Nat)(hk:kk<=1000000):∃(q:gx) (j j0:Nat),ZL (kk:Int) p q/\j<=cV.length/\EH q (cV.take j) j [fo (cV.take j)]/\T2 kk l<=j0/\j0<B3 kk l/\l[j0]? =some (fo (cV.take j)):=by
 obtain⟨j,j0,a,_,b,c,d,e,_,f⟩:=Be h.1 hB kk hk;obtain⟨q,_,g,g2⟩:=f _ _ 0 p (@Ux qD 0 _ _ _ h.2);exact⟨q,j,j0,g,a,⟨b,g2⟩,c,d,e⟩
end
section
variable{p:gx}{cV:List iY}{k:Nat}{l:List RS}
theorem EH.last{s:RS}(h:EH p cV k (l++[s])):fo cV=s:=by
 have:=(List.append_inj' h.1.fA rfl).2;cases this;rfl
theorem EH.log(h:EH p cV k l)(fS:fo cV≠iP):∃q n j b,p=pc q n j b:=by
 rcases h.2 with⟨e,_⟩|⟨A,_,_,e⟩
 . subst e;exact absurd rfl fS
 . exact⟨_,_,_,_,e⟩
end
noncomputable abbrev Vj(k:Nat):Code:=dS (dw k Wf)
theorem y_1:dc BD [] 3 Tryz.f13 [1] (eU 2 Wf) (cZ [] (EB gS gR) 3) [([],[],eP (eL [(1,P3)] (K [(0,.ints .u32 gS),(1,.ints .u32 gR),(3,.cells [.dx none 0 0 0,.int .i64 0,.map (some 4),.map (some 5),.int .i64 0,.bool false,.bool false,.int .i64 0]),(4,.map [] 0),(5,.map [] 0)]) 6))]:=
 cT.ef
section
variable(p q:gx)(n k m j:Nat)(b u:B)(a:B)
theorem y_2:dc (fF BD 15 [P3,.str [120],eM] (@Sv 0 0 0 qD [] []) 6 (.ew [.str a,uU],K (Fi 6 7 8 (pc q m j u)),9)) [] 3 Tryz.f13 [1,2,3] (Vj 2) (eL [(1,P3)] (@Sv 0 0 0 qD [] []) 6) [([],[fC [P3,.str [120],eM] (@Sv 0 0 0 qD [] []) 6],eP (F0 [(2,.str a),(3,uU)] (pc q m j u)))]:=
 cT.ef
theorem y_3(d:B):dc (fF BD 15 [P3,.str [121],.dx (some (7,0)) 1 1 1] (K (fM (pc p n k b)++[(7,.cells [.str a])])) 8 (.ew [.str d,uU],K (Fi 8 9 10 (pc q m j u)),11)) [] 3 Tryz.f13 [1,3,4,5] (Vj 3) (F0 [(2,.str a),(3,uU)] (pc p n k b)) [([],[fC [P3,.str [121],.dx (some (7,0)) 1 1 1] (K (fM (pc p n k b)++[(7,.cells [.str a])])) 8],eP (F0 [(3,uU),(4,.str d),(5,uU)] (pc q m j u)))]:=
 cT.ef
theorem y_4:dc (fF BD 16 [P3,.str [114],.str a] (dN (pc p n k b)) 7 (uU,K (stR (pc q m j u)),10)) [] 3 Tryz.f13 [1,3,5,6] (Vj 4) (F0 [(3,uU),(4,.str a),(5,uU)] (pc p n k b)) [([],[fC [P3,.str [114],.str a] (dN (pc p n k b)) 7],eP (F0 [(3,uU),(5,uU),(6,uU)] (pc q m j u)))]:=
 cT.ef
theorem y_5:dc (fF BD 15 [P3,.str [122],eM] (dN (pc p n k b)) 7 (.ew [.str a,uU],K (stR (pc q m j u)),10)) [] 3 Tryz.f13 [1,3,5,6,8] (Vj 5) (F0 [(3,uU),(5,uU),(6,uU)] (pc p n k b)) [([],[fC [P3,.str [122],eM] (dN (pc p n k b)) 7],eP (F0 [(3,uU),(5,uU),(6,uU),(8,uU)] (pc q m j u)))]:=
 cT.ef
noncomputable abbrev csY(v:V):e9:=fF BD 20 [P3] (dN (pc p n k b)) 7 (v,dN (pc p n k b),7)
abbrev frY:List (Nat×V):=[(3,uU),(5,uU),(6,uU),(8,uU)]
theorem y_6:dc (csY p n k b (.int .i64 3)) [] 3 Tryz.f13 [1,3,5,6,8,9] (Vj 6) (F0 frY (pc p n k b)) [([],[fC [P3] (dN (pc p n k b)) 7],eP (F0 (frY++[(9,.int .i64 3)]) (pc p n k b)))]:=
 cT.ef
theorem y_7:dc (fF BD 19 [P3] (dN (pc p n k b)) 7 (uU,K (stR (pc q m j u)),10)) [] 3 Tryz.f13 [1,3,5,6,8,9,10] (Vj 7) (F0 (frY++[(9,.int .i64 3)]) (pc p n k b)) [([],[fC [P3] (dN (pc p n k b)) 7],eP (F0 (frY++[(9,.int .i64 3),(10,uU)]) (pc q m j u)))]:=
 cT.ef
abbrev ZU:List (Nat×V):=frY++[(9,.int .i64 3),(10,uU),(11,.int .i64 2)]
theorem y_8:dc (csY p n k b (.int .i64 2)) [] 3 Tryz.f13 [1,3,5,6,8,9,10,11] (Vj 8) (F0 (frY++[(9,.int .i64 3),(10,uU)]) (pc p n k b)) [([],[fC [P3] (dN (pc p n k b)) 7],eP (F0 ZU (pc p n k b)))]:=
 cT.ef
theorem y_9:dc (fF BD 15 [P3,.str [119],eM] (dN (pc p n k b)) 7 (.ew [.str a,uU],K (stR (pc q m j u)),10)) [] 3 Tryz.f13 [1,3,5,6,8,9,10,11,13] (Vj 9) (F0 ZU (pc p n k b)) [([],[fC [P3,.str [119],eM] (dN (pc p n k b)) 7],eP (F0 (ZU++[(13,uU)]) (pc q m j u)))]:=
 cT.ef
theorem arc:dc (fF BD 31 [P3,.dx (some (7,0)) 1 1 1] (K (fM (pc p n k b)++[(7,.cells [.int .i64 0])])) 8 (.ew [],K (crR (pc q m j u)),11)) [] 3 Tryz.f13 [1,3,5,6,8,9,10,11,13] (Vj 10) (F0 (ZU++[(13,uU)]) (pc p n k b)) [([],[fC [P3,.dx (some (7,0)) 1 1 1] (K (fM (pc p n k b)++[(7,.cells [.int .i64 0])])) 8],eP (F0 (ZU++[(13,uU)]) (pc q m j u)))]:=
 cT.ef
theorem ard:dc (fF BD 15 [P3,.str [119],.dx (some (7,0)) 1 1 1] (K (fM (pc p n k b)++[(7,.cells [.str (EX [113])])])) 8 (.ew [.str [],.int .i64 63],K (Fi 8 9 10 (pc q m j u)),11)) [] 3 Tryz.f13 [1,3,5,6,8,9,10,11,13,15] (Vj 11) (F0 (ZU++[(13,uU)]) (pc p n k b)) [([],[gS=gS,gR=gR,1<=1000000000,fC [P3,.str [119],.dx (some (7,0)) 1 1 1] (K (fM (pc p n k b)++[(7,.cells [.str (EX [113])])])) 8],eP (F0 (ZU++[(13,uU),(15,.int .i64 63)]) (pc q m j u)))]:=
 cT.ef
theorem are:dc (csY p n k b (.int .i64 2)) [] 3 Tryz.f13 [] (dw 12 Wf) (F0 (ZU++[(13,uU),(15,.int .i64 63)]) (pc p n k b)) [([],[fC [P3] (dN (pc p n k b)) 7],.ret (.bool true) (K [(0,.ints .u32 gS),(1,.ints .u32 gR)]) 3)]:=
 cT.ef
end
abbrev s1R:RS:=⟨[⟨dA,[120],[]⟩],[]⟩
abbrev s2R:RS:=⟨[⟨dA,[120],[]⟩,⟨dB,[121],[dA]⟩],[]⟩
abbrev Ys:RS:=⟨[⟨dA,[120],[]⟩,⟨dB,[121],[dA]⟩],[([114],dB)]⟩
abbrev s4R:RS:=⟨[⟨dA,[120],[]⟩,⟨dB,[121],[dA]⟩,⟨dZ,[122],[]⟩],[([114],dB)]⟩
abbrev s6R:RS:=⟨[⟨dA,[120],[]⟩,⟨dB,[121],[dA]⟩,⟨dW,[119],[]⟩],[([114],dB)]⟩
theorem ai2:jn iP [120] []=⟨s1R,dA,0,true⟩:=by unfold jn;rw[ago];kernel_rfl
theorem ai3:jn s1R [121] [dA]=⟨s2R,dB,0,true⟩:=by unfold jn;rw[agp];kernel_rfl
theorem ai4:k8 s2R [114] dB=⟨Ys,[],0,true⟩:=by kernel_rfl
theorem ai5:jn Ys [122] []=⟨s4R,dZ,0,true⟩:=by unfold jn;rw[agq];kernel_rfl
theorem ai6:gC s4R=Ys:=by kernel_rfl
theorem ai7:jn Ys [119] []=⟨s6R,dW,0,true⟩:=by unfold jn;rw[agr];kernel_rfl
theorem ai8:jn Ys [119] [EX [113]]=⟨Ys,[],63,false⟩:=by rw[Zq];unfold jn;kernel_rfl
section
variable{p:gx}{cV:List iY}{k:Nat}{l:List RS}{s:RS}
theorem EH.to(h:EH p cV k (l++[s]))(hs:0<s.Q.length):fo cV=s/\∃q n j b,p=pc q n j b:=
 ⟨h.last,h.log fun z=>by rw[<- h.last,z]at hs;exact absurd hs (cB 0)⟩
theorem EH.zu(h:EH p cV k l)(hB:cV.length<=3000)(e:fo cV=s):c5 ak 20 [P3] (dN p) 7 (.int .i64 (Int.ofNat s.Q.length)) (dN p) 7:=e▸(@H6 qD 0 _ _ _ _ h.1 h.2 hB).h20
theorem Oi{q:gx}{n k m j:Nat}{b u d a x:B}{z:Int}(c:qf 15 [.str d,p9 [a]] (pc p n k b) (.ew [.str x,.int .i64 z]) (pc q m j u)):
  c5 ak 15 [P3,.str d,.dx (some (7,0)) 1 1 1] (K (fM (pc p n k b)++[(7,.cells [.str a])])) 8 (.ew [.str x,.int .i64 z]) (K (Fi 8 9 10 (pc q m j u))) 11:=by
 have e:c5 ak 15 [P3,.str d,p9 [a]] (K (fM (pc p n k b))) 8 (.ew [.str x,.int .i64 z]) (K (Fi 8 9 10 (pc q m j u))) 11:=uR (ns:=ns7) (l1:=fM (pc p n k b)) c 8 U;refine c5.frz (ms:=[7]) (cU:=[[lf.str a].length=1*1]) (r9:=[P3,.str d,p9 [a]]) (h2:=((K (fM (pc p n k b))).set 7 (some (.cells [.str a]))).set 7 none) U U (eS rfl) (c5.ext (fun i=>?_) (fun _=>rfl) e);by_cases hi:i=7
 . subst hi;rw[H.nE _ _ dP];rfl
 . rw[H.qN _ _ dP hi,H.qN _ _ dP hi]
end
theorem arf:TG ak 3 Tryz.f13.ntmps Wf (cZ [] (EB gS gR) 3) (fL ak 3 Tryz.f13 fun u _ _=>u= .bool true):=by
 refine iw  2 XT y_1 cW ?_;refine AP [(4,none),(5,none)] (s2:=eL [(1,P3)] (@Sv 0 0 0 qD [] []) 6) U ?_;obtain⟨p,r1,c,X,n1⟩:=wq ai0 dP [120] [] dP dP (fun x M=>by cases M) (fun _=>aX _);rw[show fo []=iP from rfl,ai2]at c X;have n1:r1.length<=1:=n1;obtain⟨e,p,n,k,b,rfl⟩:=EH.to (l:=[iP]) X dP;refine c6 U ?_;have c0:c5 ak 15 [P3,.str [120],eM] (@Sv 0 0 0 qD [] []) 6 (.ew [.str dA,uU]) (K (Fi 6 7 8 (pc p n k b))) 9:=
  uR (ns:=[some 0,some 1,some 2,some 3,none,some 4,some 5]) (l1:=fM (@sZ 0 0 0 qD)) (c5.adm c) 6 U
 refine fV (XT.jG Ge c0) (y_2 p n k b dA) (dG ?_);refine⟨eS ⟨rfl,rfl,rfl⟩,fun s' ek=>dh ek ?_⟩;obtain⟨q,r2,c,h2,n2⟩:=wq X L [121] [dA] dP dP (fun x M=>by rw[au]at M;subst M;rfl) (fun _=>aC _);rw[e,ai3]at c h2;obtain⟨e2,q,m,j,u,rfl⟩:=EH.to (l:=[iP,s1R]) h2 dP;refine c6 U ?_;refine fV (XT.jG Ge (Oi c)) (y_3 p q n k m j b u dA dB) (dG ?_);refine⟨eS ⟨rfl,rfl,rfl⟩,fun s' ek=>dh ek ?_⟩;clear c0 c X;obtain⟨p,r3,c,h3,n3⟩:=Qc h2 L (nm:=[114]) ⟨114,rfl,dP,dP⟩ dB (.inr rfl);rw[e2,ai4]at c h3;obtain⟨e3,p,n,k,b,rfl⟩:=EH.to (l:=[iP,s1R,s2R]) h3 dP;refine c6 U ?_;refine fV (XT.jG Zu c) (y_4 q p m j n k u b dB) (dG ?_);refine⟨eS ⟨rfl,rfl,rfl⟩,fun s' ek=>dh ek ?_⟩;obtain⟨q,r4,c,h4,n4⟩:=wq h3 L [122] [] dP dP (fun x M=>by cases M) (fun _=>aX _);rw[e3,ai5]at c h4;obtain⟨e4,q,m,j,u,rfl⟩:=EH.to (l:=[iP,s1R,s2R,Ys]) h4 dP;refine c6 U ?_;refine fV (XT.jG Ge (c5.adm c)) (y_5 p q n k m j b u dZ) (dG ?_);refine⟨eS ⟨rfl,rfl,rfl⟩,fun s' ek=>dh ek ?_⟩;refine c6 U ?_;refine fV (XT.jG NZ (h4.zu L e4)) (y_6 q m j u) (dG ?_);refine⟨eS ⟨rfl,rfl,rfl⟩,fun s' ek=>dh ek ?_⟩;obtain⟨p,c,h5,n5⟩:=Qd h4 L;rw[e4,ai6]at h5 n5;obtain⟨e5,p,n,k,b,rfl⟩:=EH.to (l:=[]) h5 dP;refine c6 U ?_;refine fV (XT.jG ZN c) (y_7 q p m j n k u b) (dG ?_);refine⟨eS ⟨rfl,rfl,rfl⟩,fun s' ek=>dh ek ?_⟩;refine c6 U ?_;refine fV (XT.jG NZ (h5.zu L e5)) (y_8 p n k b) (dG ?_);refine⟨eS ⟨rfl,rfl,rfl⟩,fun s' ek=>dh ek ?_⟩;obtain⟨q,r6,c,h6,n6⟩:=wq h5 L [119] [] dP dP (fun x M=>by cases M) (fun _=>aX _);rw[e5,ai7]at c h6;obtain⟨e6,q,m,j,u,rfl⟩:=EH.to (l:=[Ys]) h6 dP;refine c6 U ?_;refine fV (XT.jG Ge (c5.adm c)) (y_9 p q n k m j b u dW) (dG ?_);refine⟨eS ⟨rfl,rfl,rfl⟩,fun s' ek=>dh ek ?_⟩;obtain⟨p,i,j0,c,i1,h7,i3,i4,i5⟩:=ML h6 L 0 dP;obtain rfl:j0=0:=Nat.lt_one_iff.1 i4;have i5:some Ys=some (fo (r6.take i)):=i5;rw[<- cG i5]at h7;obtain⟨e7,p,n,k,b,rfl⟩:=EH.to (l:=[]) h7 dP;refine c6 U ?_;refine fV (XT.jG N0 c) (arc q p m j n k u b) (dG ?_);refine⟨eS ⟨rfl,rfl,rfl⟩,fun s' ek=>dh ek ?_⟩;have h32:(EX [113]).length=32:=by rw[Zq];rfl
 have n7:(r6.take i).length<=2400:=by rw[aY];omega
 obtain⟨q,r8,c,h8,n8⟩:=wq h7 L [119] [EX [113]] dP dP (fun x M=>by rw[au]at M;subst M;exact h32) (fun _=>aC _);rw[e7,ai8]at c h8;obtain⟨e8,q,m,j,u,rfl⟩:=EH.to (l:=[]) h8 dP;refine c6 U ?_;refine fV (XT.jG Ge (Oi c)) (ard p q n k m j b u) (dG ?_);refine⟨G rfl (G rfl (G dP (eS ⟨rfl,rfl,rfl⟩))),fun s' ek=>dh ek ?_⟩;refine eZ (XT.jG NZ (h8.zu L e8)) (are q m j u) (dG ?_);exact⟨eS ⟨rfl,rfl,rfl⟩,_,_,_,rfl,rfl⟩
def MM:ai->Option (ah×V)
 | []=>some ([],.bool true)
 |_=>none
theorem adn:jK ak 13 (tW MM):=by
 refine Sc (ax U) fun args cU v e hA=>?_;unfold MM at e;split at e
 . obtain⟨rfl,rfl⟩:=fg e;exact yj Tryz.func13 U U rfl rfl (fB arf fun y s h=>kE h)
 . cases e
noncomputable abbrev W29:jY:=kC 13 (tW MM) W28
theorem ado:gm ak W29:=fh adn MG
noncomputable abbrev arh:e9:=gL ak W29 H0 1000 40
noncomputable abbrev X29:CX ak:=CX.of mo po ado H0 1000 40
structure lR where
 x:Nat
 y:Nat
 z:Nat
 d:B
 M:x<=255
 hy:y<=255
 hz:z<=255
section
variable(l:List lR)(o:lR)
def lR.c:ai:=[.int .u8 (o.x:Int),.int .u8 (o.y:Int),.int .u8 (o.z:Int),.str o.d]
def lR.v:V:=o6 o.x o.y o.z o.d
def pM:ai:=(l.map lR.c).flatten
theorem Eo:(pM l).length=l.length*4:=tn (f:=lR.c) (w:=4) (fun _=>rfl) l
theorem Yt(i:Nat)(h:i<l.length):eX (pM l) (i*4) 4=l[i].c:=we (f:=lR.c) (w:=4) (fun _=>rfl) l i h
abbrev lH:V:=.dV false l.length (pM l)
end
theorem Uz{I:Nat}{s s2:St}(l:List (Nat×Option IntKind))(e:RX l s=some s2):Step I s s2:=by
 unfold RX at e;split at e
 case h_2=>cases e
 rename_i h2 hh;obtain rfl:=eE e;exact Step.mem fun E w g=>AO l s.h h2 hh g
theorem Oj:c5 ak 26 [] (EB gS gR) 3 P3 (K (moG 0 5 6 7 (@sZ 0 0 0 qD) [iP])) 8:=by
 have key:c5 ak 26 [] (EB gS gR) 3 P3 (K [(0,.ints .u32 gS),(1,.ints .u32 gR),(3,.cells [.ptr (some (4,0)),.dx (some (7,0)) 1 1 2]),(4,.cells [.dx none 0 0 0,.int .i64 0,.map (some 5),.map (some 6),.int .i64 0,.bool false,.bool false,.int .i64 0]),(5,.map [] 0),(6,.map [] 0),(7,.cells [.dx none 0 0 0,.dx none 0 0 0])]) 8:=by
  refine c7 Tryz.func26 (code:=dO Tryz.f26) U U ?_;refine eZ X27 aqm (dG ?_);exact⟨cW,_,_,_,rfl,rfl,rfl,rfl⟩
 exact key.step ((Uz [(5,none),(6,none)] rfl).trans (.deep [7] U))
noncomputable abbrev MN:Code:=dO Tryz.f30
noncomputable abbrev adp:Code:=dS (dw 1 MN)
noncomputable abbrev UA:Code:=dD (dD (dU adp))
noncomputable abbrev ai9:Code:=dD (dS (dU UA))
section
variable(p:gx)(ops:List lR)(l:List RS)(i:Nat)
def sY1:St:=eL [(0,P3),(1,lH ops),(4,.bool false)] (K (fK p l)) 9
def Fk(r:List (Nat×V)):St:=eL ([(0,P3),(1,lH ops),(4,.bool false)]++r) (K (tw p l)) (12+sh p)
theorem ari:dc fO [] 9 Tryz.f30 [0,1,4] (eU 1 MN) (cZ [P3,lH ops] (K (fK p l)) 9) [([],[],eP (sY1 p ops l))]
 :=by rcases p with⟨_|⟨_,_,_⟩,_⟩<;>exact cT.ef
theorem arj:dc fO [] 9 Tryz.f30 [0,1,4,5] (dS adp) (Fk p ops l []) [([],[],eP (Fk p ops l [(5,iW 0)]))]
 :=by rcases p with⟨_|⟨_,_,_⟩,_⟩<;>exact cT.ef
theorem ark:dc fO [(9,.split),(12,.split)] 9 Tryz.f30 [0,1,4,5] (dS UA) (Fk p ops l [(5,iW i)]) (afx (decide (Int.ofNat i<(Int.ofNat ops.length))) (decide (Int.ofNat i<(40:Int))) ([],eP (Fk p ops l [(5,iW i)])) ([],.to (.exit 0) (Fk p ops l [(5,iW i)])))
 :=by rcases p with⟨_|⟨_,_,_⟩,_⟩<;>exact cT.ef
theorem arl(q:gx)(ops:List lR)(l l1:List RS)(i:Nat)(o:lR):dc (fF fO 27 [P3,o.v] (K (tw p l)) (12+sh p) (.bool true,K (moA (12+sh p) q l1),(15+sh p+sh q))) [(19,.di (.eK o.c))] 9 Tryz.f30 [0,1,4,5] (ai9) (Fk p ops l [(5,iW i)]) [([],[kJ i ops.length,(pM ops).length=ops.length*4,nT (pM ops) i 4 o.c,fC [P3,o.v] (K (tw p l)) (12+sh p)],eP (Fk q ops l1 [(5,iW i)]))]
 :=by rcases p with⟨_|⟨_,_,_⟩,_⟩<;>rcases q with⟨_|⟨_,_,_⟩,_⟩<;>exact cT.ef
theorem arn:dc fO [(15,.di (iW (i+1)))] 9 Tryz.f30 [0,1,4,5] (dU (dU UA)) (Fk p ops l [(5,iW i)]) [([],[Ez i],eP (Fk p ops l [(5,iW (i+1))]))]
 :=by rcases p with⟨_|⟨_,_,_⟩,_⟩<;>exact cT.ef
theorem aro:dc fO [] 9 Tryz.f30 [] (dw 2 MN) (Fk p ops l [(5,iW i)]) [([],[],.ret (.bool true) (K (tw p l)) (nR p))]
 :=by rcases p with⟨_|⟨_,_,_⟩,_⟩<;>exact cT.ef
end
abbrev uJ:eB:=⟨true⟩
section
variable(n:Nat)(l:List (Nat×List (Nat×pC)))(T A:Nat)(F:Int)(b:B)(R:Int)(C N:ae)
def MO:No:=fun p args=>match args with
 | [.ptr (some (3,0))]=>some ([p.off=false,p.arm=true,p.D=0],.bool false,dN { p with off:=true,D:= -1 },7)
 |_=>none
theorem arp(lo:Option (Nat×Nat×B))(F R:Int)(C O:ae):dc EY [] 7 Tryz.f53 [] (dO Tryz.f53) (cZ [.ptr (some (3,0))] (dN ⟨lo,F,R,false,true,0,C,O⟩) 7) [([],[],.ret (.bool false) (dN ⟨lo,F,R,true,true,-1,C,O⟩) 7)]:=by
 rcases lo with _|⟨a,c,b⟩<;>exact cT.ef
theorem adq:jK ak 53 (Po MO):=by
 refine Np (ax U) Tryz.func53 (code:=dO Tryz.f53) U fun p args cU v1 X n1 e hA=>?_;obtain⟨lo,F,R,off,arm,D,C,O⟩:=p;unfold MO at e;split at e
 case h_2=>cases e
 simp only[an,aB]at e;obtain⟨rfl,rfl,rfl,rfl⟩:=e;have X:off=false:=hA (off=false) (by simp);have h2:arm=true:=hA (arm=true) (by simp);have h3:D=0:=hA (D=0) (by simp);subst X h2 h3;refine⟨U,?_⟩;refine eZ Pp (arp lo F R C O) (dG ?_);exact⟨cW,_,_,_,rfl,rfl,rfl,rfl⟩
noncomputable abbrev Qz:e9:=gL ak (kC 53 (Po MO) W16) (rF l) 1000 40
noncomputable abbrev XO:CX ak:=CX.of mo po (fh adq DP) (rF l) 1000 40
abbrev sD(F R:Int)(C N:ae):gx:=⟨some (n,A,b),F,R,true,true,-1,C,N⟩
abbrev MP:gx:=⟨none,F,R,true,true,-1,C,N⟩
abbrev pO(F R:Int)(C N:ae):gx:=⟨some (n,A,b),F,R,false,true,0,C,N⟩
abbrev pOz:gx:=⟨none,F,R,false,true,0,C,N⟩
def hBO(F R:Int)(C N:ae):H rs:=@hB n A b F R 0 uJ C N
theorem arq(d:B)(O:List (B))(T A:Nat)(b:B)(F R:Int)(C N:ae):dc (zM (Qz E6) 43 DM [.dV false O.length (strs O),f44] (hBO T A b F R C N) 8 (.bool false,hBO T A b F R C N,8)) [(16,.di (.bool false)),(20,.di (.bool false))] 7 Tryz.f15 [] (uO) (cZ [P3,.str d,.dV false O.length (strs O)] (dN (pO T A b F R C N)) 7) [([],[jC (decide ((Int.ofNat d.length)>(65536:Int))),jC (decide ((Int.ofNat O.length)>(1024:Int))),strs O=strs (dI (strs O)),O.length=(dI (strs O)).length,O.length<=1000000,∀(x:B),x∈dI (strs O)->x.length=32,[V.dV false O.length (strs O),f44]=[V.dV false O.length (strs O),f44]/\hBO T A b F R C N=hBO T A b F R C N/\8=8,gS=gS,gR=gR,strs O=strs (dI (strs O)),O.length=(dI (strs O)).length,O.length<=1000000,(eJ (d::dI (strs O))).length<=1000000000,(if true=true then V.ew [lf.fI (V.agg [V.str ([]:B),V.dx none 0 0 0,V.int aj (0:Int)]) (dj (lf.str (dL d (dI (strs O)))) C),V.bool (dj (lf.str (dL d (dI (strs O)))) C).isSome]else lf.fI (V.agg [V.str ([]:B),V.dx none 0 0 0,V.int aj (0:Int)]) (dj (lf.str (dL d (dI (strs O)))) C))=V.ew [zO,V.bool false],strs O=strs (dI (strs O)),O.length=(dI (strs O)).length,d.length<=100000000,O.length<=1000000,(dI (strs O)).flatten.length<=100000000,jC (decide (IntKind.i64.wrap ((Int.ofNat T)+(Int.ofNat (gM d (dI (strs O))).length))>(1048576:Int))),gS=gS,gR=gR,false=false,true=true,(0:Int)=(0:Int)],.ret (.ew [.str [],.int .i64 60]) (dN (sD T A b F R C N)) 7)]:=cT.ef
theorem ars(d:B)(F R:Int):dc (Qz E6) [(16,.di (.bool false))] 7 Tryz.f15 [] (uO) (cZ [P3,.str d,.dV false 0 []] (dN (pOz F R [] [])) 7) [([],[jC (decide ((Int.ofNat d.length)>(65536:Int))),[]=strs (dI []),0=0,0<=1000000,∀(x:B),x∈dI []->x.length=32,gS=gS,gR=gR,[]=strs (dI []),0=0,0<=1000000,(eJ (d::dI [])).length<=1000000000,(if true=true then V.ew [lf.fI (V.agg [V.str ([]:B),V.dx none 0 0 0,V.int aj (0:Int)]) (dj (lf.str (dL d (dI []))) []),V.bool (dj (lf.str (dL d (dI []))) []).isSome]else lf.fI (V.agg [V.str ([]:B),V.dx none 0 0 0,V.int aj (0:Int)]) (dj (lf.str (dL d (dI []))) []))=V.ew [zO,V.bool false],[]=strs (dI []),0=0,d.length<=100000000,0<=1000000,0<=100000000,jC (decide (IntKind.i64.wrap ((0:Int)+(Int.ofNat (gM d (dI [])).length))>(1048576:Int))),gS=gS,gR=gR,false=false,true=true,(0:Int)=(0:Int)],.ret (.ew [.str [],.int .i64 60]) (dN (MP F R [] [])) 7)]:=cT.ef
theorem art(n d d0:B)(iP:List (B))(k:Int)(T A:Nat)(b:B)(F R:Int)(C N:ae):dc (Qz (Zy d0 iP k)) (Wz [] false false false true false false false) 7 Tryz.f16 [] (rN) (cZ [P3,.str n,.str d] (dN (pO T A b F R C N)) 7) [([],[(if true=true then V.ew [lf.fI (V.str ([]:B)) (dj (lf.str n) N),V.bool (dj (lf.str n) N).isSome]else lf.fI (V.str ([]:B)) (dj (lf.str n) N))=V.ew [V.str [],V.bool false],jC (eI n ([]:B)),jC (decide ((Int.ofNat n.length)>(64:Int))),(V.bool !eI d ([]:B))=V.bool true,(if true=true then V.ew [lf.fI (V.agg [V.str ([]:B),V.dx none 0 0 0,V.int aj (0:Int)]) (dj (lf.str d) C),V.bool (dj (lf.str d) C).isSome]else lf.fI (V.agg [V.str ([]:B),V.dx none 0 0 0,V.int aj (0:Int)]) (dj (lf.str d) C))=V.ew [nW d0 iP k,V.bool true],(V.bool !true)=V.bool false,(V.bool !eI d ([]:B))=V.bool true,jC (decide ((Int.ofNat N.length)>=(64:Int))),jC (eI d []),n.length<100000000,d.length<100000000,jC (decide (IntKind.i64.wrap ((Int.ofNat T)+(Int.ofNat (jP n d).length))>(1048576:Int))),gS=gS,gR=gR,false=false,true=true,(0:Int)=(0:Int)],.ret (.int .i64 60) (dN (sD T A b F R C N)) 7)]:=cT.ef
theorem aru(n d og d0:B)(iP:List (B))(k:Int)(T A:Nat)(b:B)(F R:Int)(C N:ae):dc (Qz (Zy d0 iP k)) (Wz og true false false true false false false) 7 Tryz.f16 [] (rN) (cZ [P3,.str n,.str d] (dN (pO T A b F R C N)) 7) [([],[(if true=true then V.ew [lf.fI (V.str ([]:B)) (dj (lf.str n) N),V.bool (dj (lf.str n) N).isSome]else lf.fI (V.str ([]:B)) (dj (lf.str n) N))=V.ew [V.str og,V.bool true],jC (eI n ([]:B)),jC (decide ((Int.ofNat n.length)>(64:Int))),(V.bool !eI d ([]:B))=V.bool true,(if true=true then V.ew [lf.fI (V.agg [V.str ([]:B),V.dx none 0 0 0,V.int aj (0:Int)]) (dj (lf.str d) C),V.bool (dj (lf.str d) C).isSome]else lf.fI (V.agg [V.str ([]:B),V.dx none 0 0 0,V.int aj (0:Int)]) (dj (lf.str d) C))=V.ew [nW d0 iP k,V.bool true],(V.bool !true)=V.bool false,(V.bool !eI d ([]:B))=V.bool true,jC (eI d og),n.length<100000000,d.length<100000000,jC (decide (IntKind.i64.wrap ((Int.ofNat T)+(Int.ofNat (jP n d).length))>(1048576:Int))),gS=gS,gR=gR,false=false,true=true,(0:Int)=(0:Int)],.ret (.int .i64 60) (dN (sD T A b F R C N)) 7)]:=cT.ef
theorem arv(n og:B)(T A:Nat)(b:B)(F R:Int)(C N:ae):dc (Qz [(46,[(13,.di (.bool false))])]) (Wz og true false false false false false false) 7 Tryz.f16 [] (rN) (cZ [P3,.str n,.str []] (dN (pO T A b F R C N)) 7) [([],[(if true=true then V.ew [lf.fI (V.str ([]:B)) (dj (lf.str n) N),V.bool (dj (lf.str n) N).isSome]else lf.fI (V.str ([]:B)) (dj (lf.str n) N))=V.ew [V.str og,V.bool true],jC (eI n ([]:B)),jC (decide ((Int.ofNat n.length)>(64:Int))),(V.bool !eI [] ([]:B))=V.bool false,(V.bool !eI [] ([]:B))=V.bool false,jC (eI [] og),n.length<100000000,0<100000000,jC (decide (IntKind.i64.wrap ((Int.ofNat T)+(Int.ofNat (jP n []).length))>(1048576:Int))),gS=gS,gR=gR,false=false,true=true,(0:Int)=(0:Int)],.ret (.int .i64 60) (dN (sD T A b F R C N)) 7)]:=cT.ef
theorem arw(F R:Int)(C N:ae):dc (Qz []) [] 7 Tryz.f66 [] (JF) (cZ [P3] (dN (pO T A b F R C N)) 7) [([],[gS=gS,gR=gR,false=false,true=true,(0:Int)=(0:Int)],.ret (.int .i64 60) (dN (sD T A b F R C N)) 7)]:=cT.ef
theorem arx:dc (Qz []) [] 7 Tryz.f66 [] (JF) (cZ [P3] (dN (pOz F R C N)) 7) [([],[gS=gS,gR=gR,false=false,true=true,(0:Int)=(0:Int)],.ret (.int .i64 60) (dN (MP F R C N)) 7)]:=cT.ef
theorem ary(F R:Int)(C N:ae):dc (Qz []) [] 7 Tryz.f19 [] (uP) (cZ [P3] (dN (pO T A b F R C N)) 7) [([],[gS=gS,gR=gR,false=false,true=true,(0:Int)=(0:Int)],.ret (.int .i64 60) (dN (sD T A b F R C N)) 7)]:=cT.ef
theorem arz:dc (Qz []) [] 7 Tryz.f19 [] (uP) (cZ [P3] (dN (pOz F R C N)) 7) [([],[gS=gS,gR=gR,false=false,true=true,(0:Int)=(0:Int)],.ret (.int .i64 60) (dN (MP F R C N)) 7)]:=cT.ef
theorem arA(F R:Int)(C N:ae)(bs:B):dc (Qz []) [] 7 Tryz.f19 [] (dU A2) (@Vd T A b F R 0 uJ C N bs) [([],[gS=gS,gR=gR,false=false,true=true,(0:Int)=(0:Int)],.ret (.int .i64 60) (dN (sD T A b F R C N)) 7)]:=cT.ef
theorem arB(F R:Int)(C:ae):dc (Qz []) [] 7 Tryz.f19 [] (dU A2) (@sHn T A b F R 0 uJ C []) [([],[gS=gS,gR=gR,false=false,true=true,(0:Int)=(0:Int)],.ret (.int .i64 60) (dN (sD T A b F R C [])) 7)]:=cT.ef
theorem arC:dc (Qz []) [] 7 Tryz.f19 [] (dU A2) (eL [(1,P 7),(4,eM)] (K (@Qx F R 0 uJ)) 8) [([],[gS=gS,gR=gR,false=false,true=true,(0:Int)=(0:Int)],.ret (.int .i64 60) (dN (MP F R [] [])) 7)]:=cT.ef
end
section
variable{n A:Nat}{b:B}{F R:Int}{C N:ae}
theorem adr{rest:ag}(c:c5 ak 15 (P3::rest) (dN (pO n A b F R C N)) 7 (.ew [.str [],.int .i64 60]) (dN (sD n A b F R C N)) 7):qf 15 rest (@sC n A b F R 0 uJ C N) (.ew [.str [],.int .i64 60]) (sD n A b F R C N):=c.Af 4 U
theorem Ep{f:FuncId}{rest:ag}(c:c5 ak f (P3::rest) (dN (pO n A b F R C N)) 7 (.int .i64 60) (dN (sD n A b F R C N)) 7):qf f rest (@sC n A b F R 0 uJ C N) (.int .i64 60) (sD n A b F R C N):=c.Af 4 U
theorem ads{d:B}{O:List (B)}(hd:d.length<=65536)(hn:O.length<=1024)(h32:∀x∈O,x.length=32)(Cb:∀x∈O,Cn C x)(hk:dj (.str (dL d O)) C=none)(EM:n+(gM d O).length<=1048576):
  qf 15 [.str d,p9 O] (@sC n A b F R 0 uJ C N) (.ew [.str [],.int .i64 60]) (sD n A b F R C N):=by
 refine adr (c7 Tryz.func15 (code:=uO) U U ?_);obtain⟨be,hr⟩:=arq d O n A b F R C N;rw[iu]at hr;refine ij ((XO E6).LI DM (ax U) (@LW false O n A b F R 0 uJ C N L Cb)) mo _ U hr (dG ?_);refine⟨?_,_,_,_,rfl,rfl,rfl,rfl⟩;have hj:=gZ d O h32;have RA:=tg h32;refine G (gl dr) (G (gl dr) (G rfl (G rfl (G L (G h32 (G ⟨rfl,rfl,rfl⟩ (G rfl (G rfl (G rfl (G rfl (G L (G L (G (nc hk) (G rfl (G rfl (G L (G L (G L (G ?_ (G rfl (G rfl (G rfl (G rfl (eS rfl))))))))))))))))))))))));rw[eV dr dr];exact gl dr
theorem adt{d:B}(hd:d.length<=65536):qf 15 [.str d,p9 []] (@sZ F R 0 uJ) (.ew [.str [],.int .i64 60]) (MP F R [] []):=by
 have key:c5 ak 15 [P3,.str d,.dV false 0 []] (dN (pOz F R [] [])) 7 (.ew [.str [],.int .i64 60]) (dN (MP F R [] [])) 7:=by
  refine c7 Tryz.func15 (code:=uO) U U ?_;obtain⟨be,hr⟩:=ars d F R;rw[zQ]at hr;refine ij (XO E6) mo _ U hr (dG ?_);refine⟨?_,_,_,_,rfl,rfl,rfl,rfl⟩;have hj:=gZ d [] (by simp);have uY:=AX d (O:=[]) (by simp);simp only[bP]at hj uY;refine G (gl dr) (G rfl (G rfl (G L (G (fun _ M=>absurd M aN) (G rfl (G rfl (G rfl (G rfl (G L (G (by show(eJ [d]).length<=_;omega) (G (nc rfl) (G rfl (G rfl (G L (G L (G L (G ?_ (G rfl (G rfl (G rfl (G rfl (eS rfl))))))))))))))))))))));show V.bool (decide (IntKind.i64.wrap ((0:Int)+Int.ofNat (gM d []).length)>1048576))=_;rw[eV dr dr];exact gl dr
 exact key.Af 4 U
theorem UB{nm d:B}(hn:Qu nm)(hd:d≠[])(hdl:d.length<=100)(hk:Cn C d)(rV:dj (.str nm) N=none)(h64:N.length<64)(EM:n+(jP nm d).length<=1048576):
  qf 16 [.str nm,.str d] (@sC n A b F R 0 uJ C N) (.int .i64 60) (sD n A b F R C N):=by
 obtain⟨d0,iP,k,hk⟩:=hk;refine Ep (c7 Tryz.func16 (code:=rN) U U ?_);refine eZ (XO (Zy d0 iP k)) (art nm d d0 iP k n A b F R C N) (dG ?_);refine⟨G (HK rV) (G (sE hn.1) (G (B0 hn.2) (G (AZ hd) (G (kZ hk) (G rfl (G (AZ hd) (G (acj dr) (G (sE hd) (G (Nat.lt_of_le_of_lt hn.2 dP) (G L (G ?_ (G rfl (G rfl (G rfl (G rfl (eS rfl)))))))))))))))),_,_,_,rfl,rfl,rfl,rfl⟩;rw[eV dr dr];exact gl dr
theorem UC{nm d:B}(og:B)(hn:Qu nm)(hd:d≠[])(hdl:d.length<=100)(hk:Cn C d)(rV:dj (.str nm) N=some (.str og))(fS:d≠og)(EM:n+(jP nm d).length<=1048576):
  qf 16 [.str nm,.str d] (@sC n A b F R 0 uJ C N) (.int .i64 60) (sD n A b F R C N):=by
 obtain⟨d0,iP,k,hk⟩:=hk;refine Ep (c7 Tryz.func16 (code:=rN) U U ?_);refine eZ (XO (Zy d0 iP k)) (aru nm d og d0 iP k n A b F R C N) (dG ?_);refine⟨G (uy rV) (G (sE hn.1) (G (B0 hn.2) (G (AZ hd) (G (kZ hk) (G rfl (G (AZ hd) (G (sE fS) (G (Nat.lt_of_le_of_lt hn.2 dP) (G L (G ?_ (G rfl (G rfl (G rfl (G rfl (eS rfl))))))))))))))),_,_,_,rfl,rfl,rfl,rfl⟩;rw[eV dr dr];exact gl dr
theorem UD{nm:B}(og:B)(hn:Qu nm)(rV:dj (.str nm) N=some (.str og))(fS:og≠[])(EM:n+(jP nm []).length<=1048576):
  qf 16 [.str nm,.str []] (@sC n A b F R 0 uJ C N) (.int .i64 60) (sD n A b F R C N):=by
 refine Ep (c7 Tryz.func16 (code:=rN) U U ?_);refine eZ (XO [(46,[(13,.di (.bool false))])]) (arv nm og n A b F R C N) (dG ?_);refine⟨G (uy rV) (G (sE hn.1) (G (B0 hn.2) (G rfl (G rfl (G (sE (Ne.symm fS)) (G (Nat.lt_of_le_of_lt hn.2 dP) (G dP (G ?_ (G rfl (G rfl (G rfl (G rfl (eS rfl))))))))))))),_,_,_,rfl,rfl,rfl,rfl⟩;rw[eV dr dr];exact gl dr
theorem UE:qf 66 [] (@sC n A b F R 0 uJ C N) (.int .i64 60) (sD n A b F R C N):=by
 refine Ep (c7 Tryz.func66 (code:=JF) U U ?_);refine eZ (XO []) (arw n A b F R C N) (dG ?_);exact⟨G rfl (G rfl (G rfl (G rfl (eS rfl)))),_,_,_,rfl,rfl,rfl,rfl⟩
theorem UF:qf 66 [] (@sZ F R 0 uJ) (.int .i64 60) (MP F R [] []):=by
 have key:c5 ak 66 [P3] (dN (pOz F R [] [])) 7 (.int .i64 60) (dN (MP F R [] [])) 7:=by
  refine c7 Tryz.func66 (code:=JF) U U ?_;refine eZ (XO []) (arx F R [] []) (dG ?_);exact⟨G rfl (G rfl (G rfl (G rfl (eS rfl)))),_,_,_,rfl,rfl,rfl,rfl⟩
 exact key.Af 4 U
theorem Yu:qf 19 [] (@sC n A b F R 0 uJ C N) (.int .i64 60) (sD n A b F R C N):=by
 refine Ep (c7 Tryz.func19 (code:=uP) U U ?_);refine eZ (XO []) (ary n A b F R C N) (dG ?_);exact⟨G rfl (G rfl (G rfl (G rfl (eS rfl)))),_,_,_,rfl,rfl,rfl,rfl⟩
theorem Yv:qf 19 [] (@sZ F R 0 uJ) (.int .i64 60) (MP F R [] []):=by
 have key:c5 ak 19 [P3] (dN (pOz F R [] [])) 7 (.int .i64 60) (dN (MP F R [] [])) 7:=by
  refine c7 Tryz.func19 (code:=uP) U U ?_;refine eZ (XO []) (arz F R [] []) (dG ?_);exact⟨G rfl (G rfl (G rfl (G rfl (eS rfl)))),_,_,_,rfl,rfl,rfl,rfl⟩
 exact key.Af 4 U
theorem UG{bs:B}(h:∀cs,TG ak 7 Tryz.f19.ntmps (dU A2) (@Vd n A b F R 0 uJ C N bs) cs->TG ak 7 Tryz.f19.ntmps uP (cZ [P3] (dN (@pS n A b F R 1 uJ C N)) 7) cs):
  qf 19 [] (@sC n A b F R 1 uJ C N) (.int .i64 60) (sD n A b F R C N):=by
 have key:c5 ak 19 [P3] (dN (@pS n A b F R 1 uJ C N)) 7 (.int .i64 60) (dN (sD n A b F R C N)) 7:=by
  refine c7 Tryz.func19 (code:=uP) U U (h _ ?_);refine eZ (XO []) (arA n A b F R C N bs) (dG ?_);exact⟨G rfl (G rfl (G rfl (G rfl (eS rfl)))),_,_,_,rfl,rfl,rfl,rfl⟩
 exact key.Af 4 U
theorem UH(td:Vb C)(hn:∀x,0<=jF C x/\jF C x<1000000000):qf 19 [] (@sC n A b F R 1 uJ C []) (.int .i64 60) (sD n A b F R C []):=by
 have key:c5 ak 19 [P3] (dN (@pS n A b F R 1 uJ C [])) 7 (.int .i64 60) (dN (sD n A b F R C [])) 7:=by
  refine c7 Tryz.func19 (code:=uP) U U (@Th n A b F R 1 uJ C (fun _=>by decide) td hn _ ?_);refine eZ (XO []) (arB n A b F R C) (dG ?_);exact⟨G rfl (G rfl (G rfl (G rfl (eS rfl)))),_,_,_,rfl,rfl,rfl,rfl⟩
 exact key.Af 4 U
theorem UI:qf 19 [] (@sZ F R 1 uJ) (.int .i64 60) (MP F R [] []):=by
 have key:c5 ak 19 [P3] (dN (@pN F R 1 uJ [] [])) 7 (.int .i64 60) (dN (MP F R [] [])) 7:=by
  refine c7 Tryz.func19 (code:=uP) U U (@Up F R 1 uJ (fun _=>by decide) _ ?_);refine eZ (XO []) (arC F R) (dG ?_);exact⟨G rfl (G rfl (G rfl (G rfl (eS rfl)))),_,_,_,rfl,rfl,rfl,rfl⟩
 exact key.Af 4 U
end
abbrev Vw:=List iY×Nat×List RS
abbrev ZV(cV:List iY)(k:Nat)(p:gx):Prop:=StO true true (-1) cV k p
abbrev Vk(D:Int)(cV:List iY)(k:Nat)(p:gx):Prop:=@xL uJ D cV k p
section
variable{cV:List iY}{k:Nat}{l:List RS}(p:gx)
theorem Yw(h:SV cV k l)(hB:cV.length<=2500)(d:B)(O:List (B))(hd:d.length<=60)(GB:O.length<=3)(h32:∀x∈O,x.length=32)(Ba:(jn (fo cV) d O).ch=true)(p:gx)(hp:Vk 0 cV k p):
  (jn (fo cV) d O).dg≠[]/\∃q,qf 15 [.str d,p9 O] p (.ew [.str [],.int .i64 60]) q/\ZV cV k q:=by
 obtain⟨hw,hg,qR,iC,Ml⟩:=h.all L;unfold jn at Ba ⊢;split at Ba
 . cases Ba
 . rename_i W;split at Ba
   . cases Ba
   . rename_i hf;rw[aJ W,aJ hf];have sA:∀x∈O,0<=gj (fo cV).Q x:=fun x M=>by
      by_cases q:0<=gj (fo cV).Q x
      . exact q
      . exact absurd ⟨x,M,L⟩ W
     have ha:T7 (fo cV) (.chunk d O):=⟨hd,GB,sA,L⟩;have Md:(gM d O).length<=180:=(Eh hw ha).2;refine⟨fun e=>?_,?_⟩
     . have:=DF d O;rw[show dL d O=[]from e]at this;cases this
     . rcases hp with⟨e0,e⟩|⟨A,qn,sH,e⟩
       . have adj:O=[]:=by
          cases O with
          |nil=>rfl
          |cons x O=>exact absurd (sA x (by simp)) (by rw[e0];show ¬(0:Int)<= -1;decide)
         subst adj;exact⟨MP 0 0 [] [],by rw[e];exact adt L,.inl ⟨e0,rfl⟩⟩
       . exact⟨_,by rw[e];exact ads L L h32 (fun x M=>(o7 hw hg x).1 (sA x M)) (HX hw hg L) L,.inr ⟨A,qn,sH,rfl⟩⟩
theorem UJ(h:SV cV k l)(hB:cV.length<=2500){nm:B}(hy:ZO nm)(x:B)(M:x=[]\/x.length=32)(Ba:(k8 (fo cV) nm x).ch=true)(p:gx)(hp:Vk 0 cV k p):
  (k8 (fo cV) nm x).er=0/\∃q,qf 16 [.str nm,.str x] p (.int .i64 60) q/\ZV cV k q:=by
 obtain⟨hw,hg,qR,iC,Ml⟩:=h.all L;have hn:=hy.ok;have KI:=hn.2;unfold k8 at Ba ⊢;split at Ba
 . cases Ba
 . rename_i c1;split at Ba
   . cases Ba
   . rename_i c2;rw[aJ c1,aJ c2];refine⟨rfl,?_⟩;have ZS:x=[]\/0<=gj (fo cV).Q x:=by
      by_cases q:x=[]
      . exact .inl q
      . exact .inr (by
         by_cases z:0<=gj (fo cV).Q x
         . exact z
         . exact absurd ⟨q,L⟩ c1)
     have ha:T7 (fo cV) (.root nm x):=⟨hy,ZS,c2⟩;have Md:(jP nm x).length<=180:=(Eh hw ha).2;rcases hp with⟨e0,e⟩|⟨A,qn,sH,e⟩
     . exfalso;rcases ZS with q|q
       . exact c2 (by rw[q,e0];rfl)
       . rw[e0]at q;exact absurd q (by show ¬(0:Int)<= -1;decide)
     . refine⟨_,?_,.inr ⟨A,qn,sH,rfl⟩⟩;rw[e];have hl:=hg.lk nm;have uY:(iD cV).N.length<64:=by have:=rK hw hg;have:=hw.Vi;omega
       by_cases q:x=[]
       . subst q;have fS:gQ nm (fo cV).ro≠[]:=fun z=>c2 z.symm;rw[aJ fS]at hl;exact UD _ hn hl fS L
       . have hf:0<=gj (fo cV).Q x:=ZS.resolve_left q;have h32:x.length=32:=M.resolve_left q;by_cases w:gQ nm (fo cV).ro=[]
         . rw[aF w]at hl;exact UB hn q L ((o7 hw hg x).1 hf) hl uY L
         . rw[aJ w]at hl;exact UC _ hn q L ((o7 hw hg x).1 hf) hl c2 L
theorem Qe(hp:Vk 0 cV k p):∃q,qf 66 [] p (.int .i64 60) q/\ZV cV k q:=by
 rcases hp with⟨e0,e⟩|⟨A,qn,sH,e⟩
 . exact⟨MP 0 0 [] [],by rw[e];exact UF,.inl ⟨e0,rfl⟩⟩
 . exact⟨_,by rw[e];exact UE,.inr ⟨A,qn,sH,rfl⟩⟩
theorem UK(h:SV cV k l)(hB:cV.length<=2500)(D:Int)(hlf:D=0\/D=1)(p:gx)(hp:Vk D cV k p):∃q,qf 19 [] p (.int .i64 60) q/\ZV cV k q:=by
 obtain⟨hw,hg,qR,iC,Ml⟩:=h.all L;rcases hp with⟨e0,e⟩|⟨A,qn,sH,e⟩
 . refine⟨MP 0 0 [] [],?_,.inl ⟨e0,rfl⟩⟩;rw[e];rcases hlf with rfl|rfl
   . exact Yv
   . exact UI
 . refine⟨_,?_,.inr ⟨A,qn,sH,rfl⟩⟩;rw[e];rcases hlf with rfl|rfl
   . exact Yu
   . by_cases xk:(fo cV).ro=[]
     . have Ie:(iD cV).N=[]:=by
        have:=rK hw hg;rw[xk]at this;exact cC.1 this
       unfold Uq;rw[Ie];exact UH (by rw[hg.C];exact MK hw) (by rw[hg.C];exact yK hw L)
     . exact UG (bs:=de (jv (gC (fo cV)))) fun cs hq=>@Ut cV k l h hB xk _ _ _ _ _ 1 uJ (fun _=>by decide) cs hq
theorem UL(h:SV cV k l)(hB:cV.length<=2500)(hl:l.length<=900)(x y z:Nat)(d:B)(hy:y<=255)(hz:z<=255){l':List RS}{n m:Nat}(hN:Uy x l l' n)(hx9:x%10≠9)(U3:Nxt (fo cV) x y z d l l')(W:m<n)(p:gx)(hp:Vk (m:Int) cV k p):
  ∃q l1,(x%10<7->l.length<l1.length)/\c5 ak 27 [P3,o6 x y z d] (K (fK p l)) 9 (.bool false) (K (tw q l1)) (nR q)/\ZV cV k q:=by
 obtain⟨hw,hg,qR,iC,Ml⟩:=h.all L;have h32:∀c∈(fo cV).Q,c.dg.length=32:=fun c J=>hw.Eg J;have h5:=hw.Vi;have GB:∀c∈(fo cV).Q,c.O.length<=100000:=fun c J=>by have:=(hw.nm c J).2.2;omega
 have ni:l=mB cV k++[fo cV]:=h.fA;have hpi:(mB cV k).length<=900:=by
  have:=aL List.length ni;rw[ay]at this;omega
 have M:x%10<10:=Nat.mod_lt _ dP;have M6:x%10<7->n=1/\l.length<l'.length:=fun c=>by
  have:=hN.1 c;by_cases q:l.length<l'.length
  . exact⟨by rw[this,aF q],q⟩
  . rw[aJ q]at this;omega
 have MZ:∀r:RR,l.length<(oT l r).length->r.ch=true:=fun r hr=>by
  unfold oT at hr;split at hr
  . assumption
  . omega
 rcases(by omega:x%10<=3\/(4<=x%10/\x%10<=6)\/x%10=7\/x%10=8)with c|⟨c,c2⟩|c|c
 . obtain⟨n1,fH⟩:=M6 L;obtain rfl:m=0:=by omega
   have Ba:=MZ _ (by rw[<- U3.1 L];exact fH);have Fw:=A9 h32 y z;obtain⟨hdg,q,a2,a5⟩:=Yw h hB (d.take 60) (iG (fo cV) y z) (by rw[aY];omega) L Fw.2 Ba p hp;have:=aiv p q _ _ x y z d c (aij p q (mB cV k) (fo cV) x y z d hy hz L L h32 L (.inr ⟨rfl,Ba,fun e=>hdg e.symm⟩) a2);rw[<- ni]at this;exact⟨q,_,fun _=>by rw[<- U3.1 L];exact fH,this,a5⟩
 . obtain⟨n1,fH⟩:=M6 L;obtain rfl:m=0:=by omega
   have Ba:=MZ _ (by rw[<- U3.2 c L];exact fH);obtain⟨B9,q,a2,a5⟩:=UJ h hB (Od y) (nt (fo cV) y z) (by
    unfold nt;split
    . exact .inl rfl
    . exact .inr (w8 h32 z)) Ba p hp
   have:=aiw p q _ _ x y z d c c2 (ais p q (mB cV k) (fo cV) x y z d hy hz L L L (.inr ⟨rfl,Ba,by rw[B9];decide⟩) a2);rw[<- ni]at this;exact⟨q,_,fun _=>by rw[<- U3.2 c L];exact fH,this,a5⟩
 . obtain rfl:m=0:=by have:=hN.2.1 c;omega
   obtain⟨q,a2,a5⟩:=Qe p hp;have:=aix p q (mB cV k) x y z d (fo cV) c L a2;rw[<- ni]at this;exact⟨q,_,fun h=>by omega,this,a5⟩
 . have hm2:m=0\/m=1:=by have:=hN.2.2.1 c;omega
   obtain⟨q,a2,a5⟩:=UK h hB (m:Int) (by rcases hm2 with rfl|rfl<;>simp) p hp;have:=aiy p q (mB cV k) (fo cV) x y z d c L L L GB a2;rw[<- ni]at this;exact⟨q,_,fun h=>by omega,this,a5⟩
end
theorem ZW:26<Tryz.prog.funcs.size:=ax U
theorem Ol:27<Tryz.prog.funcs.size:=ax U
theorem Om{ops:List lR}{i:Nat}{o:lR}(h:ops[i]? =some o):((0:Int)<=Int.ofNat i/\Int.ofNat i<(Int.ofNat ops.length))/\(pM ops).length=ops.length*4/\V.eK (eX (pM ops) (i*4) 4)=V.eK o.c:=by
 obtain⟨X,h2⟩:=aH.1 h;refine⟨⟨aA _,dr⟩,Eo ops,?_⟩;rw[<- h2];exact aL V.eK (Yt ops i X)
section
variable(p:gx)(a:Vw)(ops:List lR)(l:List RS)(i:Nat){Q':Exit->St->Prop}
theorem adu(q:gx)(ops:List lR)(l l1:List RS)(i:Nat)(o:lR)(hi:ops[i]? =some o)(hd:c5 ak 27 [P3,o.v] (K (fK p l)) 9 (.bool true) (K (tw q l1)) (nR q)){Q':Exit->St->Prop}
  (hn:∀s',gI ak 9 Tryz.f30.ntmps s' (Fk q ops l1 [(5,iW i)])->Q' .normal s'):TG ak 9 Tryz.f30.ntmps ai9 (Fk p ops l [(5,iW i)]) Q':=by
 obtain⟨a1,a2,a3⟩:=Om hi;have k27:c5 ak 27 [P3,o.v] (K (tw p l)) (12+sh p) (.bool true) (K (moA (12+sh p) q l1)) (15+sh p+sh q):=
  uR (ns:=nsA 9 p) hd (12+sh p) (by rcases p with⟨_|⟨_,_,_⟩,_⟩<;>rcases q with⟨_|⟨_,_,_⟩,_⟩<;>kernel_rfl)
 refine fV (jI.jG Ol k27) (arl p q ops l l1 i o) (dG ?_);exact⟨G a1 (G a2 (G a3 (eS ⟨rfl,rfl,rfl⟩))),fun s' ek=>hn s' (.norm ek)⟩
theorem UM(X:i<ops.length->i<40->∀s',gI ak 9 Tryz.f30.ntmps s' (Fk p ops l [(5,iW i)])->Q' .normal s')(h2:¬(i<ops.length/\i<40)->∀s',gI ak 9 Tryz.f30.ntmps s' (Fk p ops l [(5,iW i)])->Q' (.exit 0) s'):
  TG ak 9 Tryz.f30.ntmps (dS UA) (Fk p ops l [(5,iW i)]) Q':=by
 refine fV jI (ark p ops l i) fun g hg J=>?_;rcases xl hg with rfl|rfl|rfl
 . have c1:=aI (J _ (aQ ..));have c2:=aI (J _ (aM _ (au.2 rfl)));exact⟨cW,fun s' ek=>X (by rw[jZ,jZ]at c1;omega) (by rw[jZ]at c2;omega) s' (.norm ek)⟩
 . have c2:=aK (J _ (aM _ (au.2 rfl)));exact⟨cW,fun s' ek=>h2 (by rw[jZ]at c2;omega) s' (.norm ek)⟩
 . have c1:=aK (J _ (au.2 rfl));exact⟨cW,fun s' ek=>h2 (by rw[jZ,jZ]at c1;omega) s' (.norm ek)⟩
theorem adv(hi:i<=40){Q':Exit->St->Prop}(h:∀s',gI ak 9 Tryz.f30.ntmps s' (Fk p ops l [(5,iW (i+1))])->Q' .normal s'):TG ak 9 Tryz.f30.ntmps (dU (dU UA)) (Fk p ops l [(5,iW i)]) Q':=by
 refine fV jI (arn p ops l i) fun g hg J=>?_;obtain rfl:=abM hg;exact⟨eS (oQ dr L),fun s' ek=>h s' (.norm ek)⟩
theorem adw:TG ak 9 Tryz.f30.ntmps (dw 2 MN) (Fk p ops l [(5,iW i)]) (fL ak 9 Tryz.f30 fun u h n9=>u= .bool true/\h=K (tw p l)/\n9=nR p):=by
 refine eZ jI (aro p ops l i) (dG ?_);exact⟨cW,_,_,_,rfl,rfl,rfl,rfl⟩
theorem adx(h:∀s',gI ak 9 Tryz.f30.ntmps s' (Fk p ops l [(5,iW 0)])->TG ak 9 Tryz.f30.ntmps (dU adp) s' (andThen (fun s'=>TG ak 9 Tryz.f30.ntmps (dw 2 MN) s' Q') Q')):
  TG ak 9 Tryz.f30.ntmps MN (cZ [P3,lH ops] (K (fK p l)) 9) Q':=by
 refine iw  1 jI (ari p ops l) cW ?_;refine Xz (Step.Af (s2:=Fk p ops l []) 5 (live:=[0,1,4]) (by rcases p with⟨_|⟨_,_,_⟩,_⟩<;>kernel_rfl)) ?_;refine c6 U ?_;refine c6 U ?_;refine fV jI (arj p ops l) (dG ?_);exact⟨cW,fun s' ek=>h s' (.norm ek)⟩
theorem H8{p:gx}{cV:List iY}{k:Nat}{l:List RS}[eB]{D:Int}(h:SV cV k l)(hp:xL D cV k p)(hB:cV.length<=2500)(l1:List RS){w:RS}(Fq:nZ w)(qR:w.Q.length<=100000)(En:(fo cV).Q.length=w.Q.length->w.Q=(fo cV).Q)(b:Prop)[Decidable b](hb:w=fo cV↔b):
  c5 ak 28 [P3,w.v] (K (fK p l1)) 9 (.bool (decide b)) (K (fK p l1)) 9:=by
 obtain⟨hw,hg,_,_,_⟩:=h.all L;have:=m28 p l1 w (H6 h hp L) En (by rw[bf];have:=hw.Vi;omega) qR (fun c J=>by have:=(Fq.nm c J).2.2;omega);rw[Kg hw hg En b hb]at this;exact this
def Gp(o:lR)(a b:Vw)(n:Nat):Prop:=SV b.1 b.2.1 b.2.2/\b.1.length<=a.1.length+18/\b.2.2.length<=a.2.2.length+1/\Uy o.x a.2.2 b.2.2 n/\Nxt (fo a.1) o.x o.y o.z o.d a.2.2 b.2.2/\
 ∀[eB] (D:Int) (p:gx),xL D a.1 a.2.1 p->Yk n D->(o.x%10=9->eB.on=false)->∃q,c5 ak 27 [P3,o.v] (K (fK p a.2.2)) 9 (.bool true) (K (tw q b.2.2)) (nR q)/\xL (Qy n D) b.1 b.2.1 q
def IvV:Prop:=i<=60/\SV a.1 a.2.1 a.2.2/\a.1.length<=18*i/\a.2.2.length<=i+1
end
open Classical in
noncomputable def Fl(o:lR)(a:Vw):Vw×Nat:=if h:∃b:Vw×Nat,Gp o a b.1 b.2 then Classical.choose h else(a,0)
theorem ady(o:lR){a:Vw}{i:Nat}(h:IvV a i)(hi:i<60):Gp o a (Fl o a).1 (Fl o a).2/\IvV (Fl o a).1 (i+1):=by
 obtain⟨h0,hs,X,h2⟩:=h;have Lf:∃b:Vw×Nat,Gp o a b.1 b.2:=by
  obtain⟨kF,k',l',n,a1,a2,a3,a4,a5,a6⟩:=Yq hs L L o.x o.y o.z o.d o.hy o.hz;exact⟨((kF,k',l'),n),a1,a2,a3,a4,a5,a6⟩
 have wF:Gp o a (Fl o a).1 (Fl o a).2:=by
  unfold Fl;rw[dif_pos Lf];exact Classical.choose_spec Lf
 exact⟨wF,hi,wF.1,by have:=wF.2.1;omega,by have:=wF.2.2.1;omega⟩
def Ki(o:lR)(a b:Vw)(p q:gx):Prop:=c5 ak 27 [P3,o.v] (K (fK p a.2.2)) 9 (.bool true) (K (tw q b.2.2)) (nR q)/\@xL qD 0 b.1 b.2.1 q
open Classical in
noncomputable def nxQ(o:lR)(a:Vw)(p:gx):gx:=if h:∃q,Ki o a (Fl o a).1 p q then Classical.choose h else p
noncomputable def stp(x:Vw×gx)(o:lR):Vw×gx:=((Fl o x.1).1,nxQ o x.1 x.2)
noncomputable def jw(l:List lR):Vw×gx:=l.foldl stp (([],0,[iP]),@sZ 0 0 0 qD)
theorem Bf(l:List lR)(o:lR):jw (l++[o])=stp (jw l) o:=by
 unfold jw;rw[cR];rfl
theorem qz{α:Type}{l:List α}{i:Nat}{o:α}(h:l[i]? =some o):l.take (i+1)=l.take i++[o]:=by
 rw[bH,h];rfl
theorem MQ{x:Vw×gx}{i:Nat}(o:lR)(h:IvV x.1 i)(hp:@xL qD 0 x.1.1 x.1.2.1 x.2)(hi:i<60):Gp o x.1 (stp x o).1 (Fl o x.1).2/\Ki o x.1 (stp x o).1 x.2 (stp x o).2/\IvV (stp x o).1 (i+1):=by
 obtain⟨X,h2⟩:=ady o h hi;refine⟨X,?_,h2⟩;have Lf:∃q,Ki o x.1 (Fl o x.1).1 x.2 q:=by
  obtain⟨_,_,_,_,_,h6⟩:=X;obtain⟨q,a,b⟩:=@h6 qD 0 x.2 hp (okU _ _) (fun _=>rfl);exact⟨q,a,Yr b⟩
 show Ki o x.1 (Fl o x.1).1 x.2 (nxQ o x.1 x.2);unfold nxQ;rw[dif_pos Lf];exact Classical.choose_spec Lf
theorem MR(l:List lR):∀i,i<=l.length->i<=60->IvV (jw (l.take i)).1 i/\@xL qD 0 (jw (l.take i)).1.1 (jw (l.take i)).1.2.1 (jw (l.take i)).2
 |0,_,_=>⟨⟨aX _,sv0,aX _,aC _⟩,@st0 qD 0⟩
 |i+1,X,h2=>by
  obtain⟨a,b⟩:=MR l i L L;rw[qz (az (show i<l.length by omega)),Bf];obtain⟨_,d,e⟩:=MQ l[i] a b L;exact⟨e,d.2⟩
theorem Cv{l:List lR}(h:l.length<=60):IvV (jw l).1 l.length/\@xL qD 0 (jw l).1.1 (jw l).1.2.1 (jw l).2:=by
 have:=MR l l.length (aC _) h;rwa [aU]at this
theorem On(ops:List lR):c5 ak 30 [P3,lH ops] (K (fK (@sZ 0 0 0 qD) [iP])) 9 (.bool true) (K (tw (jw (ops.take 40)).2 (jw (ops.take 40)).1.2.2)) (nR (jw (ops.take 40)).2):=by
 refine c7 Tryz.func30 (code:=MN) U U ?_;refine adx _ ops _ fun s' ek=>?_;refine ju 0 (min ops.length 40) (fun i=>Fk (jw (ops.take i)).2 ops (jw (ops.take i)).1.2.2 [(5,iW i)]) U U ek (fun i hi=>?_) ?_
 . have X:i<ops.length:=by omega
   have h2:i<40:=by omega
   have ho:ops[i]? =some ops[i]:=az X;obtain⟨a,b⟩:=MR ops i L L;obtain⟨_,d,_⟩:=MQ ops[i] a b L;rw[<- Bf,<- qz ho]at d;refine c6 U ?_;refine UM _ ops _ i (fun _ _ s1 fQ=>fQ _ _ ?_) (fun hn _ _=>absurd ⟨X,h2⟩ hn);refine c6 U ?_;refine fk (i:=1) U ?_;refine adu _ _ ops _ _ i ops[i] ho d.1 fun s2 gY=>?_;show TG _ _ _ _ _ _;exact gY _ _ (adv _ ops _ i L fun s3 uV=>uV)
 . refine c6 U ?_;refine UM _ ops _ _ (fun X h2 _ _=>by omega) (fun _ s1 fQ=>⟨by simp,?_⟩);simp only[dY,andThen];have e:ops.take 40=ops.take (min ops.length 40):=by
    by_cases h:ops.length<=40
    . rw[Nat.min_eq_left h,bk h,aU]
    . rw[Nat.min_eq_right L]
   rw[e];exact fQ _ _ (adw _ ops _ _)
noncomputable abbrev Kj:Code:=dO Tryz.f36
noncomputable abbrev aja:Code:=dS (dw 3 Kj)
noncomputable abbrev adz:Code:=dD (dD (dU aja))
noncomputable abbrev arE:Code:=dD (dS (dU adz))
section
variable(p q r:gx)(lm lw:List RS)(e:Int)(i:Nat)
noncomputable abbrev ajb:Code:=dS (dw 6 Kj)
noncomputable abbrev Yx:Code:=dD (dD (dU ajb))
noncomputable abbrev MS:Code:=dD (dS (dU Yx))
def M2(g c r a:Nat)(p:gx)(lm:List RS)(y g1 c1 r1 a1:Nat)(q:gx)(lw:List RS):af:=
 moG g c r a p lm++[(y,.cells [.ptr (some (y+1,0)),.dx (some (a1,0)) lw.length lw.length 2]),(y+1,.cells (vW g1 c1 r1 q))]++lgB g1 q++[(c1,.dy none q.C),(r1,.dy none q.O),(a1,.deep (fN lw))]
def Ks(q:gx)(lw:List RS):af:=M2 5 6 7 8 p lm 9 i (i+sh q) (i+1+sh q) (i+2+sh q) q lw
def ajc:ag->Bool
 | .ptr (some (3,0))::_=>true
 |_=>false
abbrev q0:gx:=@sZ 0 0 0 qD
def sF(mo:List lR)(e:Int)(q:gx)(lw:List RS)(v:List (Nat×V)):St:=eL ([(0,P3),(2,lH mo),(3,.int .i64 e),(9,P 9)]++v) (K (Ks p lm 11 q lw)) (14+sh q)
def Oo(q:gx)(lw:List RS):af:=M2 9 (9+sh p) (10+sh p) 8 p lm (11+sh p) (13+sh p) (13+sh p+sh q) (14+sh p+sh q) (15+sh p+sh q) q lw
def B4(q:gx)(lw:List RS)(v:List (Nat×V)):St:=eL ([(0,P3),(3,.int .i64 e),(9,.ptr (some (11+sh p,0)))]++v) (K (Oo p lm q lw)) (16+sh p+sh q)
theorem arF(l mo:List lR)(e:Int):dc (fF (fF fO 26 [] (K (fK p lm)) 9 (P 9,K (Ks p lm 11 q0 [iP]),14)) 30 [P 9,lH l] (K (Ks p lm 11 q0 [iP])) 14 (.bool true,K (Ks p lm 14 q lw),(17+sh q))) [] 9 Tryz.f36 [0,2,3,9] (eU 3 Kj) (cZ [P3,lH l,lH mo,.int .i64 e] (K (fK p lm)) 9) [([],[fC [] (K (fK p lm)) 9,fC [P 9,lH l] (K (Ks p lm 11 q0 [iP])) 14],eP (sF p lm mo e q lw []))]
 :=by rcases p with⟨_|⟨_,_,_⟩,_⟩<;>rcases q with⟨_|⟨_,_,_⟩,_⟩<;>exact cT.ef
theorem arG(mo:List lR)(e:Int):dc fO [] 9 Tryz.f36 [0,2,3,9,10] (dS aja) (sF p lm mo e q lw []) [([],[],eP (sF p lm mo e q lw [(10,iW 0)]))]
 :=by rcases p with⟨_|⟨_,_,_⟩,_⟩<;>rcases q with⟨_|⟨_,_,_⟩,_⟩<;>exact cT.ef
theorem ajd(mo:List lR)(e:Int)(i:Nat):dc fO [(23,.split)] 9 Tryz.f36 [0,2,3,9,10] (dS adz) (sF p lm mo e q lw [(10,iW i)]) (iU (decide (Int.ofNat i<(Int.ofNat mo.length))) ([],eP (sF p lm mo e q lw [(10,iW i)])) ([],.to (.exit 0) (sF p lm mo e q lw [(10,iW i)])))
 :=by rcases p with⟨_|⟨_,_,_⟩,_⟩<;>rcases q with⟨_|⟨_,_,_⟩,_⟩<;>exact cT.ef
theorem arH(lv:List RS)(mo:List lR)(e:Int)(i x9:Nat)(o:lR):dc (fF fO 27 [P 9,o6 x9 o.y o.z o.d] (K (Ks p lm 11 q lw++[(14+sh q,lq x9 o.y o.z o.d)])) (15+sh q) (.bool true,K (Ks p lm (15+sh q) r lv++[(14+sh q,lq x9 o.y o.z o.d)]),(18+sh q+sh r))) [(28,.di (.eK o.c)),(32,.di (.int .u8 (x9:Int)))] 9 Tryz.f36 [0,2,3,9,10] (arE) (sF p lm mo e q lw [(10,iW i)]) [([],[kJ i mo.length,(pM mo).length=mo.length*4,nT (pM mo) i 4 o.c,V.int IntKind.u8 (((Int.ofNat o.x)).tmod (9:Int))=V.int IntKind.u8 (Int.ofNat x9),fC [P 9,o6 x9 o.y o.z o.d] (K (Ks p lm 11 q lw++[(14+sh q,lq x9 o.y o.z o.d)])) (15+sh q)],eP (sF p lm mo e r lv [(10,iW i)]))]
 :=by rcases p with⟨_|⟨_,_,_⟩,_⟩<;>rcases q with⟨_|⟨_,_,_⟩,_⟩<;>rcases r with⟨_|⟨_,_,_⟩,_⟩<;>exact cT.ef
theorem arI(mo:List lR)(e:Int)(i:Nat):dc fO [(25,.di (iW (i+1)))] 9 Tryz.f36 [0,2,3,9,10] (dU (dU adz)) (sF p lm mo e q lw [(10,iW i)]) [([],[Ez i],eP (sF p lm mo e q lw [(10,iW (i+1))]))]
 :=by rcases p with⟨_|⟨_,_,_⟩,_⟩<;>rcases q with⟨_|⟨_,_,_⟩,_⟩<;>exact cT.ef
theorem arJ(mo:List lR)(e:Int)(i:Nat):dc (fF fO 31 [P 4,.dx (some (14+sh q,0)) 1 1 1] (K (Ks p lm 11 q lw++[(14+sh q,.cells [.int .i64 e])])) (15+sh q) (.ew [],K (M2 (15+sh q) (15+sh q+sh r) (16+sh q+sh r) 8 r lm 9 11 (11+sh q) (12+sh q) (13+sh q) q lw),(17+sh q+sh r))) [] 9 Tryz.f36 [0,3,9] (eU 1 (dw 4 Kj)) (sF p lm mo e q lw [(10,iW i)]) [([],[fC [P 4,.dx (some (14+sh q,0)) 1 1 1] (K (Ks p lm 11 q lw++[(14+sh q,.cells [.int .i64 e])])) (15+sh q)],eP (B4 r lm e q lw []))]
 :=by rcases p with⟨_|⟨_,_,_⟩,_⟩<;>rcases q with⟨_|⟨_,_,_⟩,_⟩<;>rcases r with⟨_|⟨_,_,_⟩,_⟩<;>exact cT.ef
theorem arK:dc (fF fO 31 [.ptr (some (12+sh p,0)),.dx (some (16+sh p+sh q,0)) 1 1 1] (K (Oo p lm q lw++[(16+sh p+sh q,.cells [.int .i64 e])])) (17+sh p+sh q) (.ew [],K (M2 9 (9+sh p) (10+sh p) 8 p lm (11+sh p) (17+sh p+sh q) (17+sh p+sh q+sh r) (18+sh p+sh q+sh r) (15+sh p+sh q) r lw),(19+sh p+sh q+sh r))) [] 9 Tryz.f36 [0,3,9] (eU 1 (dw 5 Kj)) (B4 p lm e q lw []) [([],[fC [.ptr (some (12+sh p,0)),.dx (some (16+sh p+sh q,0)) 1 1 1] (K (Oo p lm q lw++[(16+sh p+sh q,.cells [.int .i64 e])])) (17+sh p+sh q)],eP (B4 p lm e r lw []))]
 :=by rcases p with⟨_|⟨_,_,_⟩,_⟩<;>rcases q with⟨_|⟨_,_,_⟩,_⟩<;>rcases r with⟨_|⟨_,_,_⟩,_⟩<;>exact cT.ef
theorem arL:dc fO [] 9 Tryz.f36 [0,3,9,12] (dS ajb) (B4 p lm e q lw []) [([],[],eP (B4 p lm e q lw [(12,iW 0)]))]
 :=by rcases p with⟨_|⟨_,_,_⟩,_⟩<;>rcases q with⟨_|⟨_,_,_⟩,_⟩<;>exact cT.ef
theorem arM:dc fO [(58,.split)] 9 Tryz.f36 [0,3,9,12] (dS Yx) (B4 p lm e q lw [(12,iW i)]) (iU (decide (Int.ofNat i<(Int.ofNat lw.length))) ([],eP (B4 p lm e q lw [(12,iW i)])) ([],.to (.exit 2) (B4 p lm e q lw [(12,iW i)])))
 :=by rcases p with⟨_|⟨_,_,_⟩,_⟩<;>rcases q with⟨_|⟨_,_,_⟩,_⟩<;>exact cT.ef
theorem aje(w:RS)(tv:Bool):dc (zM (fF fO 28 [.ptr (some (11+sh p,0)),w.v] (K (Oo p lm q lw)) (16+sh p+sh q) (.bool tv,K (Oo p lm q lw),(16+sh p+sh q))) 28 ajc [P3,w.v] (K (Oo p lm q lw)) (16+sh p+sh q) (.bool tv,K (Oo p lm q lw),(16+sh p+sh q))) [(68,.di w.v),(77,.di w.v)] 9 Tryz.f36 [0,3,9,12,13,14] (eU 2 MS) (B4 p lm e q lw [(12,iW i)]) [([],[kJ i lw.length,0+i*2+2<=(fN lw).length,V.agg (lf.lQ (eX (fN lw) (0+i*2) 2))=w.v,fC [P3,w.v] (K (Oo p lm q lw)) (16+sh p+sh q),kJ i lw.length,0+i*2+2<=(fN lw).length,V.agg (lf.lQ (eX (fN lw) (0+i*2) 2))=w.v,fC [.ptr (some (11+sh p,0)),w.v] (K (Oo p lm q lw)) (16+sh p+sh q)],eP (B4 p lm e q lw [(12,iW i),(13,.bool tv),(14,.bool tv)]))]
 :=by rcases p with⟨_|⟨_,_,_⟩,_⟩<;>rcases q with⟨_|⟨_,_,_⟩,_⟩<;>exact cT.ef
theorem arN:dc fO [(81,.di (.bool true))] 9 Tryz.f36 [0,3,9,12] (dw 2 MS) (B4 p lm e q lw [(12,iW 0),(13,.bool true),(14,.bool true)]) [([],[EA (IntKind.i64.wrap (Int.ofNat (BitVec.ofInt 64 e&&&BitVec.ofInt 64 (255:Int)).toNat)==(0:Int))],.ret (.bool true) (K (B2 9 p lm)) (11+sh p))]
 :=by rcases p with⟨_|⟨_,_,_⟩,_⟩<;>rcases q with⟨_|⟨_,_,_⟩,_⟩<;>exact cT.ef
theorem arO:dc fO [(81,.di (.bool false)),(89,.di (.bool true)),(98,.di (.bool true))] 9 Tryz.f36 [0,3,9,12] (dw 2 MS) (B4 p lm e q lw [(12,iW i),(13,.bool true),(14,.bool true)]) [([],[jC (IntKind.i64.wrap (Int.ofNat (BitVec.ofInt 64 e&&&BitVec.ofInt 64 (255:Int)).toNat)==(0:Int)),EA (IntKind.i64.wrap (Int.ofNat (BitVec.ofInt 64 e&&&BitVec.ofInt 64 (255:Int)).toNat)==(255:Int)),EA (Int.ofNat i==IntKind.i64.wrap ((Int.ofNat lw.length)-(1:Int)))],.ret (.bool true) (K (B2 9 p lm)) (11+sh p))]
 :=by rcases p with⟨_|⟨_,_,_⟩,_⟩<;>rcases q with⟨_|⟨_,_,_⟩,_⟩<;>exact cT.ef
theorem arP:dc fO [(81,.di (.bool false)),(89,.di (.bool false)),(112,.di (.bool true)),(117,.di (.bool true))] 9 Tryz.f36 [0,3,9,12] (dw 2 MS) (B4 p lm e q lw [(12,iW i),(13,.bool true),(14,.bool true)]) [([],[jC (IntKind.i64.wrap (Int.ofNat (BitVec.ofInt 64 e&&&BitVec.ofInt 64 (255:Int)).toNat)==(0:Int)),jC (IntKind.i64.wrap (Int.ofNat (BitVec.ofInt 64 e&&&BitVec.ofInt 64 (255:Int)).toNat)==(255:Int)),EA (decide (IntKind.i64.wrap (Int.ofNat (BitVec.ofInt 64 e&&&BitVec.ofInt 64 (255:Int)).toNat)>(0:Int))),EA (decide (IntKind.i64.wrap (Int.ofNat (BitVec.ofInt 64 e&&&BitVec.ofInt 64 (255:Int)).toNat)<(255:Int)))],.ret (.bool true) (K (B2 9 p lm)) (11+sh p))]
 :=by rcases p with⟨_|⟨_,_,_⟩,_⟩<;>rcases q with⟨_|⟨_,_,_⟩,_⟩<;>exact cT.ef
theorem arQ:dc fO [(81,.di (.bool false)),(89,.di (.bool true)),(98,.di (.bool false)),(112,.di (.bool true)),(117,.di (.bool false))] 9 Tryz.f36 [0,3,9,12] (dw 2 MS) (B4 p lm e q lw [(12,iW i),(13,.bool true),(14,.bool true)]) [([],[jC (IntKind.i64.wrap (Int.ofNat (BitVec.ofInt 64 e&&&BitVec.ofInt 64 (255:Int)).toNat)==(0:Int)),EA (IntKind.i64.wrap (Int.ofNat (BitVec.ofInt 64 e&&&BitVec.ofInt 64 (255:Int)).toNat)==(255:Int)),jC (Int.ofNat i==IntKind.i64.wrap ((Int.ofNat lw.length)-(1:Int))),EA (decide (IntKind.i64.wrap (Int.ofNat (BitVec.ofInt 64 e&&&BitVec.ofInt 64 (255:Int)).toNat)>(0:Int))),jC (decide (IntKind.i64.wrap (Int.ofNat (BitVec.ofInt 64 e&&&BitVec.ofInt 64 (255:Int)).toNat)<(255:Int)))],eP (B4 p lm e q lw [(12,iW i)]))]
 :=by rcases p with⟨_|⟨_,_,_⟩,_⟩<;>rcases q with⟨_|⟨_,_,_⟩,_⟩<;>exact cT.ef
theorem arR:dc fO [(81,.di (.bool false)),(89,.di (.bool true)),(98,.di (.bool false))] 9 Tryz.f36 [0,3,9,12] (dw 2 MS) (B4 p lm e q lw [(12,iW i),(13,.bool false),(14,.bool false)]) [([],[jC (IntKind.i64.wrap (Int.ofNat (BitVec.ofInt 64 e&&&BitVec.ofInt 64 (255:Int)).toNat)==(0:Int)),EA (IntKind.i64.wrap (Int.ofNat (BitVec.ofInt 64 e&&&BitVec.ofInt 64 (255:Int)).toNat)==(255:Int)),jC (Int.ofNat i==IntKind.i64.wrap ((Int.ofNat lw.length)-(1:Int)))],eP (B4 p lm e q lw [(12,iW i)]))]
 :=by rcases p with⟨_|⟨_,_,_⟩,_⟩<;>rcases q with⟨_|⟨_,_,_⟩,_⟩<;>exact cT.ef
theorem arS:dc fO [(81,.di (.bool false)),(89,.di (.bool false))] 9 Tryz.f36 [0,3,9,12] (dw 2 MS) (B4 p lm e q lw [(12,iW i),(13,.bool false),(14,.bool false)]) [([],[jC (IntKind.i64.wrap (Int.ofNat (BitVec.ofInt 64 e&&&BitVec.ofInt 64 (255:Int)).toNat)==(0:Int)),jC (IntKind.i64.wrap (Int.ofNat (BitVec.ofInt 64 e&&&BitVec.ofInt 64 (255:Int)).toNat)==(255:Int))],eP (B4 p lm e q lw [(12,iW i)]))]
 :=by rcases p with⟨_|⟨_,_,_⟩,_⟩<;>rcases q with⟨_|⟨_,_,_⟩,_⟩<;>exact cT.ef
theorem ajf:dc fO [(60,.di (iW (i+1)))] 9 Tryz.f36 [0,3,9,12] (dU (dU Yx)) (B4 p lm e q lw [(12,iW i)]) [([],[Ez i],eP (B4 p lm e q lw [(12,iW (i+1))]))]
 :=by rcases p with⟨_|⟨_,_,_⟩,_⟩<;>rcases q with⟨_|⟨_,_,_⟩,_⟩<;>exact cT.ef
end
def lR.m9(o:lR):lR:=⟨o.x%9,o.y,o.z,o.d,bR (Nat.mod_le _ _) o.M,o.hy,o.hz⟩
def kK(l mo:List lR)(i:Nat):List lR:=l.take 40++(mo.take i).map lR.m9
theorem tE(l:List lR){mo:List lR}{i:Nat}(h:i<=20):(kK l mo i).length<=60:=by
 unfold kK;rw[ay,bf,aY,aY];omega
theorem Qf(l:List lR){mo:List lR}{i:Nat}{o:lR}(h:mo[i]? =some o):kK l mo (i+1)=kK l mo i++[o.m9]:=by
 unfold kK;rw[qz h,aZ,bA];rfl
theorem UN(l mo:List lR):kK l mo 0=l.take 40:=cu _
theorem um9(x:Nat):V.int IntKind.u8 ((Int.ofNat x).tmod (9:Int))=V.int IntKind.u8 (Int.ofNat (x%9)):=aL _ (by rw[jZ,jZ,bZ L];omega)
section
variable(p:gx)(lm:List RS)(l:List lR)(q:gx)(lw:List RS)(r:gx)(w:RS)(e:Int)(tv:Bool)
theorem MT{mo:List lR}{i:Nat}{o:lR}(hi:i<20)(h:mo[i]? =some o):Gp o.m9 (jw (kK l mo i)).1 (jw (kK l mo (i+1))).1 (Fl o.m9 (jw (kK l mo i)).1).2/\Ki o.m9 (jw (kK l mo i)).1 (jw (kK l mo (i+1))).1 (jw (kK l mo i)).2 (jw (kK l mo (i+1))).2:=by
 have hl:=tE l (mo:=mo) (i:=i) L;have Ex:(kK l mo (i+1)).length<=60:=tE l L;have e:=Qf l h;rw[e,ay]at Ex;have Ex:(kK l mo i).length+1<=60:=Ex;obtain⟨a,b⟩:=Cv hl;rw[e,Bf];obtain⟨c,d,_⟩:=MQ o.m9 a b L;exact⟨c,d⟩
theorem k26:c5 ak 26 [] (K (fK p lm)) 9 (P 9) (K (Ks p lm 11 q0 [iP])) 14:=
 qw (ns:=[some 0,some 1,some 2]) Oj (by rcases p with⟨_|⟨_,_,_⟩,_⟩<;>kernel_rfl)
theorem k30(h:c5 ak 30 [P3,lH l] (K (fK q0 [iP])) 9 (.bool true) (K (tw q lw)) (nR q)):
  c5 ak 30 [P 9,lH l] (K (Ks p lm 11 q0 [iP])) 14 (.bool true) (K (Ks p lm 14 q lw)) (17+sh q):=
 uR (ns:=[some 0,some 1,some 2,some 9,some 10,none,some 11,some 12,some 13]) h 14 (by rcases p with⟨_|⟨_,_,_⟩,_⟩<;>rcases q with⟨_|⟨_,_,_⟩,_⟩<;>kernel_rfl)
theorem k27(lv:List RS)(x y z:Nat)(d:B)(h:c5 ak 27 [P3,o6 x y z d] (K (fK q lw)) 9 (.bool true) (K (tw r lv)) (nR r)):
  c5 ak 27 [P 9,o6 x y z d] (K (Ks p lm 11 q lw++[(14+sh q,lq x y z d)])) (15+sh q) (.bool true) (K (Ks p lm (15+sh q) r lv++[(14+sh q,lq x y z d)])) (18+sh q+sh r):=
 uR (ns:=[some 0,some 1,some 2,some 9,some 10,XA 11 q,some (11+sh q),some (12+sh q),some (13+sh q)]) h (15+sh q) (by rcases p with⟨_|⟨_,_,_⟩,_⟩<;>rcases q with⟨_|⟨_,_,_⟩,_⟩<;>rcases r with⟨_|⟨_,_,_⟩,_⟩<;>kernel_rfl)
theorem arU(h:ZL e p r):
  c5 ak 31 [P 4,.dx (some (14+sh q,0)) 1 1 1] (K (Ks p lm 11 q lw++[(14+sh q,.cells [.int .i64 e])])) (15+sh q) (.ew []) (K (M2 (15+sh q) (15+sh q+sh r) (16+sh q+sh r) 8 r lm 9 11 (11+sh q) (12+sh q) (13+sh q) q lw)) (17+sh q+sh r):=
 uR (ns:=[some 0,some 1,some 2,some 4,XA 5 p,some 6,some 7,some (14+sh q)]) h (15+sh q) (by rcases p with⟨_|⟨_,_,_⟩,_⟩<;>rcases q with⟨_|⟨_,_,_⟩,_⟩<;>rcases r with⟨_|⟨_,_,_⟩,_⟩<;>kernel_rfl)
theorem arV(h:ZL e q r):
  c5 ak 31 [.ptr (some (12+sh p,0)),.dx (some (16+sh p+sh q,0)) 1 1 1] (K (Oo p lm q lw++[(16+sh p+sh q,.cells [.int .i64 e])])) (17+sh p+sh q) (.ew []) (K (M2 9 (9+sh p) (10+sh p) 8 p lm (11+sh p) (17+sh p+sh q) (17+sh p+sh q+sh r) (18+sh p+sh q+sh r) (15+sh p+sh q) r lw)) (19+sh p+sh q+sh r):=
 uR (ns:=[some 0,some 1,some 2,some (12+sh p),XA (13+sh p) q,some (13+sh p+sh q),some (14+sh p+sh q),some (16+sh p+sh q)]) h (17+sh p+sh q) (by rcases p with⟨_|⟨_,_,_⟩,_⟩<;>rcases q with⟨_|⟨_,_,_⟩,_⟩<;>rcases r with⟨_|⟨_,_,_⟩,_⟩<;>kernel_rfl)
theorem arW(h:c5 ak 28 [P3,w.v] (K (fK p lm)) 9 (.bool tv) (K (fK p lm)) 9):c5 ak 28 [P3,w.v] (K (Oo p lm q lw)) (16+sh p+sh q) (.bool tv) (K (Oo p lm q lw)) (16+sh p+sh q):=
 qw (ns:=XB 9 (9+sh p) (10+sh p) 8 p) h (by rcases p with⟨_|⟨_,_,_⟩,_⟩<;>rcases q with⟨_|⟨_,_,_⟩,_⟩<;>kernel_rfl)
theorem arX(h:c5 ak 28 [P3,w.v] (K (fK q lw)) 9 (.bool tv) (K (fK q lw)) 9):c5 ak 28 [.ptr (some (11+sh p,0)),w.v] (K (Oo p lm q lw)) (16+sh p+sh q) (.bool tv) (K (Oo p lm q lw)) (16+sh p+sh q):=
 qw (ns:=[some 0,some 1,some 2,some (11+sh p),some (12+sh p),XA (13+sh p) q,some (13+sh p+sh q),some (14+sh p+sh q),some (15+sh p+sh q)]) h (by rcases p with⟨_|⟨_,_,_⟩,_⟩<;>rcases q with⟨_|⟨_,_,_⟩,_⟩<;>kernel_rfl)
end
theorem ajg{kk:Nat}(h:kk<=1000000):IntKind.i64.wrap (Int.ofNat (BitVec.ofInt 64 (kk:Int)&&&BitVec.ofInt 64 (255:Int)).toNat)=((kk%256:Nat):Int):=by
 have:=yH h;unfold iW at this;exact(V.int.inj this).2
section
variable(p:gx)(lm:List RS)(q:gx)(lw:List RS)(kk j0:Nat)
theorem Yy(hk:kk<=255)(hT:T2 kk lw<=j0/\j0<B3 kk lw)(P0:RS->Prop)(h0:∃w,lw[j0]? =some w/\P0 w)(hlw:lw.length<=1000)
  (ZM:∀(i:Nat) (w:RS),lw[i]? =some w->∃tv:Bool,(tv=true↔P0 w)/\c5 ak 28 [P3,w.v] (K (fK p lm)) 9 (.bool tv) (K (fK p lm)) 9/\c5 ak 28 [P3,w.v] (K (fK q lw)) 9 (.bool tv) (K (fK q lw)) 9):
  TG ak 9 Tryz.f36.ntmps (dw 6 Kj) (B4 p lm (kk:Int) q lw []) (fL ak 9 Tryz.f36 fun v h n=>v= .bool true/\h=K (B2 9 p lm)/\n=11+sh p):=by
 have vt:0<lw.length:=by
  obtain⟨w,e,_⟩:=h0;have:=(aH.1 e).1;omega
 have hTl:B3 kk lw<=lw.length:=by unfold B3;split<;>omega
 have Kq:j0<lw.length:=by omega
 have h256:kk%256=kk:=cI L;have ha:=ajg (kk:=kk) L;rw[h256]at ha;unfold T2 B3 at hT;rw[h256]at hT;refine c6 U ?_;refine c6 U ?_;refine fV jI (arL p q lm lw (kk:Int)) (dG ?_);refine⟨cW,fun s' ek=>?_⟩;refine jz (α:=Nat) 2 (fun i=>lw.length-i) (fun i=>i<=j0) (fun i=>B4 p lm (kk:Int) q lw [(12,iW i)]) U U 0 (aX _) (.norm ek) fun i hi=>?_;have M4:i<lw.length:=by omega
 have hw:lw[i]? =some lw[i]:=az M4;have kL:V.agg (lf.lQ (eX (fN lw) (0+i*2) 2))=(lw[i]).v:=by rw[bI,Ad lw i M4];rfl
 have ni:0+i*2+2<=(fN lw).length:=by rw[qE];omega
 obtain⟨tv,htv,W,hq⟩:=ZM i lw[i] hw;have IV:i=j0->tv=true:=fun e=>by
  obtain⟨w,e1,e2⟩:=h0;rw[<- e,hw]at e1;cases e1;exact htv.2 e2
 clear htv ZM;generalize lw[i]=w at kL hw W hq;have a1:(0:Int)<=Int.ofNat i/\Int.ofNat i<(Int.ofNat lw.length):=⟨aA _,dr⟩;have a2:IntKind.i64.wrap ((Int.ofNat lw.length)-(1:Int))=Int.ofNat (lw.length-1):=by rw[eV dr dr,jZ,jZ];omega
 refine c6 U ?_;refine fV jI (arM p q lm lw (kk:Int) i) fun g hg J=>?_;rcases jh hg with rfl|rfl
 . refine⟨cW,fun s1 fQ=>dh fQ ?_⟩;refine c6 U ?_;refine fk (i:=3) U ?_;refine iw  2 ((jI.jG Gf (arX p lm q lw w tv hq)).LI ajc Gf (arW p lm q lw w tv W)) (aje p q lm lw (kk:Int) i w tv) (G a1 (G ni (G kL (G ⟨rfl,rfl,rfl⟩ (G a1 (G ni (G kL (eS ⟨rfl,rfl,rfl⟩)))))))) ?_;have go:i<j0->∀s2,gI ak 9 Tryz.f36.ntmps s2 (B4 p lm (kk:Int) q lw [(12,iW i)])->TG ak 9 Tryz.f36.ntmps (dU (dU Yx)) s2 (andThen (fun s'=>∃x',lw.length-x'<lw.length-i/\x'<=j0/\gI ak 9 Tryz.f36.ntmps s' (B4 p lm (kk:Int) q lw [(12,iW x')]))
    (mK 2 (andThen (fun s'=>TG ak 9 Tryz.f36.ntmps (dw 7 Kj) s' (fL ak 9 Tryz.f36 fun v h n=>v= .bool true/\h=K (B2 9 p lm)/\n=11+sh p)) (fL ak 9 Tryz.f36 fun v h n=>v= .bool true/\h=K (B2 9 p lm)/\n=11+sh p)))):=by
    intro fH s2 gY;refine gY _ _ ?_;refine fV jI (ajf p q lm lw (kk:Int) i) fun g hg J=>?_;obtain rfl:=abM hg;exact⟨eS (oQ dr L),fun s3 uV=>⟨i+1,L,fH,.norm uV⟩⟩
   cases tv with
   |true=>
    by_cases c0:kk=0
    . obtain rfl:i=0:=by rw[aF c0]at hT;omega
      obtain⟨L4,Cd⟩:=arN p q lm lw (kk:Int);refine gP jI mo (fun v h n=>v= .bool true/\h=K (B2 9 p lm)/\n=11+sh p) U Cd (dG ?_);exact⟨eS (aL V.bool (by rw[ha];exact beq_iff_eq.2 L)),⟨rfl,rfl,rfl⟩,fun s2 gY=>gY⟩
    . by_cases c1:kk=255
      . by_cases c2:i=lw.length-1
        . obtain⟨L4,Cd⟩:=arO p q lm lw (kk:Int) i;refine gP jI mo (fun v h n=>v= .bool true/\h=K (B2 9 p lm)/\n=11+sh p) U Cd (dG ?_);exact⟨G (aL V.bool (by rw[ha];exact bG.2 L)) (G (aL V.bool (by rw[ha];exact beq_iff_eq.2 L)) (eS (aL V.bool (by rw[a2,c2];exact cO _)))),⟨rfl,rfl,rfl⟩,fun s2 gY=>gY⟩
        . refine fV jI (arQ p q lm lw (kk:Int) i) (dG ?_);refine⟨G (aL V.bool (by rw[ha];exact bG.2 L)) (G (aL V.bool (by rw[ha];exact beq_iff_eq.2 L)) (G (aL V.bool (by rw[a2];exact bG.2 fun e=>c2 (Int.ofNat.inj e))) (G (aL V.bool (by rw[ha];exact bE L)) (eS (aL V.bool (by rw[ha];exact bz L)))))),fun s2 gY=>?_⟩;exact go (by rw[aJ c0,aF c1]at hT;omega) s2 (.norm gY)
      . obtain⟨L4,Cd⟩:=arP p q lm lw (kk:Int) i;refine gP jI mo (fun v h n=>v= .bool true/\h=K (B2 9 p lm)/\n=11+sh p) U Cd (dG ?_);exact⟨G (aL V.bool (by rw[ha];exact bG.2 L)) (G (aL V.bool (by rw[ha];exact bG.2 L)) (G (aL V.bool (by rw[ha];exact bE L)) (eS (aL V.bool (by rw[ha];exact bE L))))),⟨rfl,rfl,rfl⟩,fun s2 gY=>gY⟩
   |false=>
    have fH:i<j0:=by
     rcases bO i j0 with h|h
     . exact h
     . exact absurd (IV L) dP
    have c0:kk≠0:=fun c0=>by rw[aF c0]at hT;omega
    by_cases c1:kk=255
    . have c2:i≠lw.length-1:=by rw[aJ c0]at hT;omega
      refine fV jI (arR p q lm lw (kk:Int) i) (dG ?_);exact⟨G (aL V.bool (by rw[ha];exact bG.2 L)) (G (aL V.bool (by rw[ha];exact beq_iff_eq.2 L)) (eS (aL V.bool (by rw[a2];exact bG.2 fun e=>c2 (Int.ofNat.inj e))))),fun s2 gY=>go fH s2 (.norm gY)⟩
    . refine fV jI (arS p q lm lw (kk:Int) i) (dG ?_);exact⟨G (aL V.bool (by rw[ha];exact bG.2 L)) (eS (aL V.bool (by rw[ha];exact bG.2 L))),fun s2 gY=>go fH s2 (.norm gY)⟩
 . exact absurd (aK (J _ (au.2 rfl))) dr
end
def dnW:ag->H rs->Nat->Option (ah×V×H rs×Nat):=fun args h n=>match args with
 | [.str d,.dx none 0 0 0]=>some ([d.length<=1000],.str (dL d []),h,n)
 |_=>none
theorem adA:jK ak 69 dnW:=by
 refine⟨ax U,fun args h n cU v h2 n2 e hA E w dm ra g hd J=>?_⟩;unfold dnW at e;split at e
 case h_2=>cases e
 rename_i d;simp only[an,aB]at e;obtain⟨rfl,rfl,rfl,rfl⟩:=e;have hl:d.length<=1000:=hA (d.length<=1000) (by simp);obtain⟨a',_,ha,⟨x',_,M,hn,rfl⟩,rfl⟩:=ra;obtain⟨_,_,rfl⟩:0=0/\0=0/\x'= .slice none 0 0:=M;exact Mv.2 [.str d,.dV false 0 []] h n [[]=strs (dI []),0=(dI []).length,0<=100000,(eJ (d::dI [])).length<=1000000000] _ _ _ rfl (G rfl (G rfl (G dP (eS (by
  rw[zQ,gZ d [] (by simp)];simp;omega))))) E w _ ⟨a',_,ha,⟨_,_,⟨⟨none,0,[],rfl,aC _,rfl,fun _=>rfl,fun h=>absurd h (cB _)⟩,fun _=>⟨none,rfl⟩⟩,hn,rfl⟩,rfl⟩ g hd U
noncomputable abbrev csF:e9:=gL ak (kC 69 dnW W28) H0 1000 40
noncomputable abbrev XF:CX ak:=CX.of mo po (fh adA MG) H0 1000 40
section
variable(p:gx)(e:Int)
def yM:gx:=⟨p.lo,p.F,p.R,p.off,true,e,p.C,p.O⟩
def UO:gx:=⟨p.lo,p.F,p.R,true,true,-1,p.C,p.O⟩
theorem arZ:vX ak fO [(9,.di (.int .i64 e))] 1000 7 Tryz.f34 (dO Tryz.f34) (cZ [P3,.int .i64 e] (dN p) 7)
  [([],
   [(V.int aj (if(0:Int)>e then(0:Int)else e)=V.int aj e)],
   .ret (.ew []) (dN (yM p e)) 7)]
 :=by rcases p with⟨_|⟨_,_,_⟩,_⟩<;>exact⟨U,U,U⟩
theorem ajh(l:List RS):dc csF [] 9 Tryz.f35 [] (dO Tryz.f35) (cZ [P3] (K (fK (UO p) l)) 9) [([],[1<=1000,1<=1000,1<=1000],.ret (.bool true) (K (fK (UO p) l)) 9)]
 :=by rcases p with⟨_|⟨_,_,_⟩,_⟩<;>exact cT.ef
end
section
variable{cV:List iY}{k:Nat}{p:gx}
theorem ZX:30<Tryz.prog.funcs.size:=ax U
theorem Gq{l:List RS}(h:SV cV k l)(hB:cV.length<=3000){i j:Nat}{w:RS}(hi:l[i]? =some w):(fo (cV.take j)).Q.length=w.Q.length->w.Q=(fo (cV.take j)).Q:=by
 obtain⟨b1,b2,b3,b4⟩:=H7 h hB hi;intro e;rw[b2]at e ⊢;exact Og e
theorem adB(l ms:List lR)(hmo:ms.length<=20)(p:gx)(lm:List RS)(kk:Nat)(hk:kk<=255)(hp:ZV (jw (kK l ms ms.length)).1.1 (jw (kK l ms ms.length)).1.2.1 p):
  ∃p1,c5 ak 36 [P3,lH l,lH ms,.int .i64 (kk:Int)] (K (fK p lm)) 9 (.bool true) (K (B2 9 p1 lm)) (11+sh p1):=by
 obtain⟨⟨_,hs,b1,b2⟩,hq⟩:=Cv (tE l (mo:=ms) hmo);have ja:=tE l (mo:=ms) hmo;obtain⟨j,j0,a3,a4,a5,a6,a7,a8,a9,aq⟩:=Be hs L kk L;obtain⟨p1,_,ic,ip⟩:=aq true true (-1) p hp;obtain⟨q1,_,jc,jp⟩:=aq false false 0 _ (@Ux qD 0 _ _ _ hq);refine⟨p1,c7 Tryz.func36 (code:=Kj) U U ?_⟩;refine iw  3 ((jI.jG ZW (k26 p lm)).jG ZX (k30 p lm l _ _ (On l))) (arF p (jw (l.take 40)).2 lm (jw (l.take 40)).1.2.2 l ms (kk:Int)) (G ⟨rfl,rfl,rfl⟩ (eS ⟨rfl,rfl,rfl⟩)) ?_;rw[<- UN l ms];refine c6 U ?_;refine c6 U ?_;refine fV jI (arG p (jw (kK l ms 0)).2 lm (jw (kK l ms 0)).1.2.2 ms (kk:Int)) (dG ?_);refine⟨cW,fun s' ek=>?_⟩;refine ju 0 ms.length (fun i=>sF p lm ms (kk:Int) (jw (kK l ms i)).2 (jw (kK l ms i)).1.2.2 [(10,iW i)]) U U (.norm ek) (fun i hi=>?_) ?_
 . have ho:ms[i]? =some ms[i]:=az hi;obtain⟨_,st,_⟩:=MT l L ho;obtain⟨c1,c2,c3⟩:=Om ho;generalize ms[i]=o at st c3;refine c6 U ?_;refine fV jI (ajd p (jw (kK l ms i)).2 lm (jw (kK l ms i)).1.2.2 ms (kk:Int) i) fun g hg J=>?_;rcases jh hg with rfl|rfl
   . refine⟨cW,fun s1 fQ=>dh fQ ?_⟩;refine c6 U ?_;refine fk (i:=1) U ?_;refine fV (jI.jG Ol (k27 p lm _ _ _ _ (o.x%9) o.y o.z o.d st)) (arH p (jw (kK l ms i)).2 (jw (kK l ms (i+1))).2 lm (jw (kK l ms i)).1.2.2 (jw (kK l ms (i+1))).1.2.2 ms (kk:Int) i (o.x%9) o) (dG ?_);refine⟨G c1 (G c2 (G c3 (G (um9 o.x) (eS ⟨rfl,rfl,rfl⟩)))),fun s2 gY=>?_⟩;show TG _ _ _ _ _ _;refine dh gY ?_;refine fV jI (arI p (jw (kK l ms (i+1))).2 lm (jw (kK l ms (i+1))).1.2.2 ms (kk:Int) i) (dG ?_);exact⟨eS (oQ dr L),fun s3 uV=>.norm uV⟩
   . exact absurd (aK (J _ (au.2 rfl))) dr
 . refine c6 U ?_;refine fV jI (ajd p (jw (kK l ms ms.length)).2 lm (jw (kK l ms ms.length)).1.2.2 ms (kk:Int) ms.length) fun g hg J=>?_;rcases jh hg with rfl|rfl
   . exact absurd (aI (J _ (au.2 rfl))) dr
   . refine⟨cW,fun s1 fQ=>⟨by simp,?_⟩⟩;simp only[dY,andThen];refine dh fQ ?_;generalize (jw (kK l ms ms.length)).2=q at jc ⊢;generalize (jw (kK l ms ms.length)).1=V at hs b1 b2 a3 a4 a5 a6 a7 a8 ip jp ⊢;refine iw  1 (jI.jG N0 (arU p lm q V.2.2 p1 (kk:Int) ic)) (arJ p q p1 lm V.2.2 ms (kk:Int) ms.length) (eS ⟨rfl,rfl,rfl⟩) ?_;refine iw  1 (jI.jG N0 (arV p1 lm q V.2.2 q1 (kk:Int) jc)) (arK p1 q q1 lm V.2.2 (kk:Int)) (eS ⟨rfl,rfl,rfl⟩) ?_;refine Yy p1 lm q1 V.2.2 kk j0 hk ⟨a6,a7⟩ (fun w=>w=fo (V.1.take j)) ⟨_,a8,rfl⟩ L fun i w hi=>?_;obtain⟨w1,w2,w3,w4⟩:=H7 hs L hi;have Kq:(V.1.take j).length<=2500:=by rw[aY];omega
     refine⟨@decide (w=fo (V.1.take j)) (Classical.propDecidable _),@decide_eq_true_iff _ (Classical.propDecidable _),?_,?_⟩
     . exact @H8 p1 (V.1.take j) j _ qD (-1) a5 ip Kq lm w w3 L (Gq hs L hi) _ (Classical.propDecidable _) Iff.rfl
     . exact @H8 q1 (V.1.take j) j _ qD 0 a5 jp Kq V.2.2 w w3 L (Gq hs L hi) _ (Classical.propDecidable _) Iff.rfl
theorem adC(p:gx)(e:Nat):c5 ak 34 [P3,.int .i64 (e:Int)] (dN p) 7 (.ew []) (dN (yM p (e:Int))) 7:=by
 refine c7 Tryz.func34 (code:=dO Tryz.f34) U U ?_;refine sB jI mo _ U (arZ p (e:Int)) (dG ?_);exact⟨eS (aL (V.int aj) (aJ L)),_,_,_,rfl,rfl,rfl,rfl⟩
theorem adD(h:@xL qD 0 cV k p)(e:Int):Vk e cV k (yM p e):=by
 rcases h with⟨e0,e1⟩|⟨A,X,h2,e1⟩
 . exact .inl ⟨e0,by rw[e1];rfl⟩
 . exact .inr ⟨A,X,h2,by rw[e1];rfl⟩
theorem Yz{e:Int}(h:Vk e cV k p)(e2:Int):Vk e2 cV k (yM p e2):=by
 rcases h with⟨e0,e1⟩|⟨A,X,h2,e1⟩
 . exact .inl ⟨e0,by rw[e1];rfl⟩
 . exact .inr ⟨A,X,h2,by rw[e1];rfl⟩
theorem YA(h:ZV cV k p):UO p=p:=by
 rcases h with⟨_,e⟩|⟨_,_,_,e⟩<;>rw[e]<;>rfl
theorem adE(h:ZV cV k p)(l:List RS):c5 ak 35 [P3] (K (fK p l)) 9 (.bool true) (K (fK p l)) 9:=by
 have key:c5 ak 35 [P3] (K (fK (UO p) l)) 9 (.bool true) (K (fK (UO p) l)) 9:=by
  refine c7 Tryz.func35 (code:=dO Tryz.f35) U U ?_;refine eZ XF (ajh p l) (dG ?_);exact⟨G dP (G dP (eS dP)),_,_,_,rfl,rfl,rfl,rfl⟩
 rwa [YA h]at key
end
noncomputable abbrev Kk:Code:=dO Tryz.f11
noncomputable abbrev aji:Code:=dS (dw 6 Kk)
noncomputable abbrev adF:Code:=dD (dD (dU aji))
noncomputable abbrev B5:Code:=dD (dS (dU adF))
def mW(g c r a:Nat)(x y:Nat)(p:gx)(l:List RS):af:=
 [(0,.ints .u32 gS),(1,.ints .u32 gR),(3,.cells [.int .u8 (x:Int),.int .u8 (y:Int)]),(4,.cells [.ptr (some (5,0)),.dx (some (a,0)) l.length l.length 2]),(5,.cells (vW g c r p))]++lgB g p++[(c,.dy none p.C),(r,.dy none p.O),(a,.deep (fN l))]
def Vl(i:Nat)(x y:Nat)(p:gx)(l:List RS):af:=mW i (i+sh p) (i+1+sh p) (i+2+sh p) x y p l
def lW(x y:Nat)(p:gx)(l:List RS):af:=Vl 6 x y p l
section
variable(x y:Nat)(ls ms:List lR)(o:lR)(x9:Nat)(p:gx)(l:List RS)
def frW:List (Nat×V):=[(0,lH ls),(1,lH ms),(5,P 3),(7,.bool true),(8,P 4)]
def sW(v:List (Nat×V)):St:=eL (frW ls ms++v) (K (lW x y p l)) (9+sh p)
def lX:af:=lW x y p l++[(9+sh p,lq x9 o.y o.z o.d)]
def sX(v:List (Nat×V)):St:=eL (frW ls ms++[(11,.ptr (some (9+sh p,0)))]++v) (K (lX x y o x9 p l)) (10+sh p)
end
section
variable(p q:gx)(lw l1:List RS)(ls ms:List lR)(x y D i x9 nd:Nat)(w:RS)(o:lR)(tv:Bool)
theorem ar0:dc (fF (fF arh 26 [] (K [(0,.ints .u32 gS),(1,.ints .u32 gR),(3,.cells [.int .u8 (x:Int),.int .u8 (y:Int)])]) 4 (P 4,K (Vl 6 x y q0 [iP]),9)) 30 [P 4,lH ls] (K (Vl 6 x y q0 [iP])) 9 (.bool true,K (Vl 9 x y p lw),(12+sh p))) [] 3 Tryz.f11 [0,1,5,7,8] (eU 4 Kk) (cZ [lH ls,lH ms,.agg [.int .u8 (x:Int),.int .u8 (y:Int)]] (EB gS gR) 3) [([],[gS=gS,gR=gR,fC [] (K [(0,.ints .u32 gS),(1,.ints .u32 gR),(3,.cells [.int .u8 (x:Int),.int .u8 (y:Int)])]) 4,fC [P 4,lH ls] (K (Vl 6 x y q0 [iP])) 9],eP (sW x y ls ms p lw []))]
 :=by rcases p with⟨_|⟨_,_,_⟩,_⟩<;>exact cT.ef
theorem ar1:dc (fF fO 34 [P 5,iW D] (K (lW x y p lw)) (9+sh p) (.ew [],K (lW x y (yM p (D:Int)) lw),(9+sh p))) [(24,.di (iW D))] 3 Tryz.f11 [0,1,5,7,8,9] (eU 2 (dw 4 Kk)) (sW x y ls ms p lw []) [([],[V.int aj (IntKind.i64.wrap (((Int.ofNat x)).tmod (16:Int)))=iW D,fC [P 5,iW D] (K (lW x y p lw)) (9+sh p)],eP (sW x y ls ms (yM p (D:Int)) lw [(9,iW D)]))]
 :=by rcases p with⟨_|⟨_,_,_⟩,_⟩<;>exact cT.ef
theorem ar2:dc fO [] 3 Tryz.f11 [0,1,5,7,8,9,10] (dS aji) (sW x y ls ms p lw [(9,iW D)]) [([],[],eP (sW x y ls ms p lw [(9,iW D),(10,iW 0)]))]
 :=by rcases p with⟨_|⟨_,_,_⟩,_⟩<;>exact cT.ef
theorem ar3:dc fO [(34,.split),(37,.split)] 3 Tryz.f11 [0,1,5,7,8,9,10] (dS adF) (sW x y ls ms p lw [(9,iW D),(10,iW i)]) (afx (decide (Int.ofNat i<(Int.ofNat ms.length))) (decide (Int.ofNat i<(20:Int))) ([],eP (sW x y ls ms p lw [(9,iW D),(10,iW i)])) ([],.to (.exit 0) (sW x y ls ms p lw [(9,iW D),(10,iW i)])))
 :=by rcases p with⟨_|⟨_,_,_⟩,_⟩<;>exact cT.ef
theorem ajj:dc (fF fO 27 [P 4,o6 x9 o.y o.z o.d] (K (lX x y o x9 p lw)) (10+sh p) (.bool tv,K (Vl (10+sh p) x y q l1++[(9+sh p,lq x9 o.y o.z o.d)]),(13+sh p+sh q))) [(43,.di (.eK o.c)),(47,.di (.int .u8 (x9:Int)))] 3 Tryz.f11 [0,1,5,7,8,9,10,11,12,13,14] (eU 5 B5) (sW x y ls ms p lw [(9,iW D),(10,iW i)]) [([],[kJ i ms.length,(pM ms).length=ms.length*4,nT (pM ms) i 4 o.c,V.int IntKind.u8 (((Int.ofNat o.x)).tmod (9:Int))=V.int IntKind.u8 (Int.ofNat x9),fC [P 4,o6 x9 o.y o.z o.d] (K (lX x y o x9 p lw)) (10+sh p)],eP (sX x y ls ms o x9 q l1 [(9,iW D),(10,iW i),(12,iW lw.length),(13,.bool tv),(14,iW 0)]))]
 :=by rcases p with⟨_|⟨_,_,_⟩,_⟩<;>rcases q with⟨_|⟨_,_,_⟩,_⟩<;>exact cT.ef
theorem ar4(w0:Nat)(o:lR)(tv:Bool):dc fO [(59,.split),(67,.split),(72,.split)] 3 Tryz.f11 [0,1,5,7,8,9,10,11,13,14] (dS (dw 5 B5)) (sX x y ls ms o x9 p l1 [(9,iW D),(10,iW i),(12,iW w0),(13,.bool tv),(14,iW 0)]) [([(decide ((Int.ofNat x9)<(7:Int)),true),(decide ((Int.ofNat l1.length)>Int.ofNat w0),true)],[],eP (sX x y ls ms o x9 p l1 [(9,iW D),(10,iW i),(13,.bool tv),(14,iW 1)])),([(decide ((Int.ofNat x9)<(7:Int)),true),(decide ((Int.ofNat l1.length)>Int.ofNat w0),false),((Int.ofNat x9)==(7:Int),true)],[],eP (sX x y ls ms o x9 p l1 [(9,iW D),(10,iW i),(13,.bool tv),(14,iW 1)])),([(decide ((Int.ofNat x9)<(7:Int)),true),(decide ((Int.ofNat l1.length)>Int.ofNat w0),false),((Int.ofNat x9)==(7:Int),false)],[],eP (sX x y ls ms o x9 p l1 [(9,iW D),(10,iW i),(13,.bool tv),(14,iW 0)])),([(decide ((Int.ofNat x9)<(7:Int)),false),((Int.ofNat x9)==(7:Int),true)],[],eP (sX x y ls ms o x9 p l1 [(9,iW D),(10,iW i),(13,.bool tv),(14,iW 1)])),([(decide ((Int.ofNat x9)<(7:Int)),false),((Int.ofNat x9)==(7:Int),false)],[],eP (sX x y ls ms o x9 p l1 [(9,iW D),(10,iW i),(13,.bool tv),(14,iW 0)]))]
 :=by rcases p with⟨_|⟨_,_,_⟩,_⟩<;>exact cT.ef
theorem ar5:dc fO [(76,.split)] 3 Tryz.f11 [0,1,5,7,8,9,10,11,13,14] (dS (dw 6 B5)) (sX x y ls ms o x9 p l1 [(9,iW D),(10,iW i),(13,.bool tv),(14,iW nd)]) (iU ((Int.ofNat x9)==(8:Int)) ([],eP (sX x y ls ms o x9 p l1 [(9,iW D),(10,iW i),(13,.bool tv),(14,iW 2)])) ([],eP (sX x y ls ms o x9 p l1 [(9,iW D),(10,iW i),(13,.bool tv),(14,iW nd)])))
 :=by rcases p with⟨_|⟨_,_,_⟩,_⟩<;>exact cT.ef
theorem ar6:dc fO [(79,.di (.bool false))] 3 Tryz.f11 [0,1,5,7,8,9,10,11,13,14] (dS (dw 7 B5)) (sX x y ls ms o x9 p l1 [(9,iW D),(10,iW i),(13,.bool tv),(14,iW nd)]) [([],[jC (decide (Int.ofNat nd>Int.ofNat D))],eP (sX x y ls ms o x9 p l1 [(9,iW D),(10,iW i),(13,.bool tv),(14,iW nd)]))]
 :=by rcases p with⟨_|⟨_,_,_⟩,_⟩<;>exact cT.ef
theorem ajk:dc (fF (fF fO 35 [P 4] (K (lX x y o x9 p l1)) (27+sh p) (.bool true,K (lX x y o x9 p l1),(27+sh p))) 36 [P 4,lH ls,lH (ms.take i),iW y] (K (lX x y o x9 p l1)) (27+sh p) (.bool true,K (mW (27+sh p) (27+sh p+sh q) (28+sh p+sh q) (8+sh p) x y q l1++[(9+sh p,lq x9 o.y o.z o.d)]),(29+sh p+sh q))) [(79,.di (.bool true)),(91,.di (lH (ms.take i))),(94,.di (iW y))] 3 Tryz.f11 [0,1,5,7,8,9,10,11,13,14] (dS (dw 7 B5)) (sX x y ls ms o x9 p l1 [(9,iW D),(10,iW i),(13,.bool false),(14,iW nd)]) [([],[EA (decide (Int.ofNat nd>Int.ofNat D)),fC [P 4] (K (lX x y o x9 p l1)) (27+sh p),(pM ms).length=ms.length*4,(0:Int)<=Int.ofNat i/\Int.ofNat i<=(Int.ofNat ms.length),V.dV (false&& !(some (iW i)).isSome) (i-0) (eX (pM ms) 0 ((i-0)*4))=lH (List.take i ms),V.int aj (IntKind.i64.wrap (Int.ofNat y))=iW y,fC [P 4,lH ls,lH (ms.take i),iW y] (K (lX x y o x9 p l1)) (27+sh p)],.ret (.bool true) (K [(0,.ints .u32 gS),(1,.ints .u32 gR)]) 3)]
 :=by rcases p with⟨_|⟨_,_,_⟩,_⟩<;>rcases q with⟨_|⟨_,_,_⟩,_⟩<;>exact cT.ef
theorem ajl(lf1:Nat)(o:lR)(w:RS):dc (fF (fF fO 29 [P 4] (K (lX x y o x9 p l1)) (10+sh p) (w.v,K (lX x y o x9 p l1),(10+sh p))) 28 [P 4,w.v] (K (lX x y o x9 p l1)) (10+sh p) (.bool true,K (lX x y o x9 p l1),(10+sh p))) [(108,.di (iW lf1))] 3 Tryz.f11 [0,1,5,7,8,9,10] (dw 8 B5) (sX x y ls ms o x9 p l1 [(9,iW D),(10,iW i),(13,.bool true),(14,iW nd)]) [([],[fC [P 4] (K (lX x y o x9 p l1)) (10+sh p),fC [P 4,w.v] (K (lX x y o x9 p l1)) (10+sh p),V.int aj (IntKind.i64.wrap (Int.ofNat D-Int.ofNat nd))=iW lf1],eP (sW x y ls ms p l1 [(9,iW lf1),(10,iW i)]))]
 :=by rcases p with⟨_|⟨_,_,_⟩,_⟩<;>exact cT.ef
theorem ajm:dc fO [(40,.di (iW (i+1)))] 3 Tryz.f11 [0,1,5,7,8,9,10] (dU (dU adF)) (sW x y ls ms p lw [(9,iW D),(10,iW i)]) [([],[Ez i],eP (sW x y ls ms p lw [(9,iW D),(10,iW (i+1))]))]
 :=by rcases p with⟨_|⟨_,_,_⟩,_⟩<;>exact cT.ef
theorem ajn:dc (fF (fF (fF fO 34 [P 5,iW 1000] (K (lW x y p lw)) (9+sh p) (.ew [],K (lW x y (yM p 1000) lw),(9+sh p))) 29 [P 4] (K (lW x y (yM p 1000) lw)) (9+sh p) (w.v,K (lW x y (yM p 1000) lw),(9+sh p))) 28 [P 4,w.v] (K (lW x y (yM p 1000) lw)) (9+sh p) (.bool true,K (lW x y (yM p 1000) lw),(9+sh p))) [] 3 Tryz.f11 [] (dw 7 Kk) (sW x y ls ms p lw [(9,iW D),(10,iW i)]) [([],[fC [P 5,iW 1000] (K (lW x y p lw)) (9+sh p),fC [P 4] (K (lW x y (yM p 1000) lw)) (9+sh p),fC [P 4,w.v] (K (lW x y (yM p 1000) lw)) (9+sh p)],.ret (.bool true) (K [(0,.ints .u32 gS),(1,.ints .u32 gR)]) 3)]
 :=by rcases p with⟨_|⟨_,_,_⟩,_⟩<;>exact cT.ef
end
theorem ZY:34<Tryz.prog.funcs.size:=ax U
theorem ajo:35<Tryz.prog.funcs.size:=ax U
theorem ajp:36<Tryz.prog.funcs.size:=ax U
abbrev nsW(p:gx):List (Option Nat):=[some 0,some 1,some 2,some 4,some 5,XA 6 p,some (6+sh p),some (7+sh p),some (8+sh p)]
section
variable(x y:Nat)
theorem ar8:c5 ak 26 [] (K [(0,.ints .u32 gS),(1,.ints .u32 gR),(3,.cells [.int .u8 (x:Int),.int .u8 (y:Int)])]) 4 (P 4) (K (Vl 6 x y q0 [iP])) 9:=qw (ns:=[some 0,some 1,some 2]) Oj U
theorem ar9(ls:List lR)(q:gx)(lw:List RS)(h:c5 ak 30 [P3,lH ls] (K (fK q0 [iP])) 9 (.bool true) (K (tw q lw)) (nR q)):
  c5 ak 30 [P 4,lH ls] (K (Vl 6 x y q0 [iP])) 9 (.bool true) (K (Vl 9 x y q lw)) (12+sh q):=
 uR (ns:=[some 0,some 1,some 2,some 4,some 5,none,some 6,some 7,some 8]) h 9 (by rcases q with⟨_|⟨_,_,_⟩,_⟩<;>kernel_rfl)
variable(p:gx)(l:List RS)
theorem ajq(e:Nat):c5 ak 34 [P 5,iW e] (K (lW x y p l)) (9+sh p) (.ew []) (K (lW x y (yM p (e:Int)) l)) (9+sh p):=
 qw (ns:=[some 0,some 1,some 2,some 5,XA 6 p,some (6+sh p),some (7+sh p)]) (adC p e) (by rcases p with⟨_|⟨_,_,_⟩,_⟩<;>kernel_rfl)
theorem asa(w:RS)(h:c5 ak 29 [P3] (K (fK p l)) 9 w.v (K (fK p l)) 9):c5 ak 29 [P 4] (K (lW x y p l)) (9+sh p) w.v (K (lW x y p l)) (9+sh p):=
 qw (ns:=nsW p) h (by rcases p with⟨_|⟨_,_,_⟩,_⟩<;>kernel_rfl)
theorem asb(w:RS)(h:c5 ak 28 [P3,w.v] (K (fK p l)) 9 (.bool true) (K (fK p l)) 9):c5 ak 28 [P 4,w.v] (K (lW x y p l)) (9+sh p) (.bool true) (K (lW x y p l)) (9+sh p):=
 qw (ns:=nsW p) h (by rcases p with⟨_|⟨_,_,_⟩,_⟩<;>kernel_rfl)
variable(o:lR)(x9:Nat)
theorem asc(w:RS)(h:c5 ak 29 [P3] (K (fK p l)) 9 w.v (K (fK p l)) 9):c5 ak 29 [P 4] (K (lX x y o x9 p l)) (10+sh p) w.v (K (lX x y o x9 p l)) (10+sh p):=
 qw (ns:=nsW p) h (by rcases p with⟨_|⟨_,_,_⟩,_⟩<;>kernel_rfl)
theorem asd(w:RS)(h:c5 ak 28 [P3,w.v] (K (fK p l)) 9 (.bool true) (K (fK p l)) 9):c5 ak 28 [P 4,w.v] (K (lX x y o x9 p l)) (10+sh p) (.bool true) (K (lX x y o x9 p l)) (10+sh p):=
 qw (ns:=nsW p) h (by rcases p with⟨_|⟨_,_,_⟩,_⟩<;>kernel_rfl)
theorem ase(h:c5 ak 35 [P3] (K (fK p l)) 9 (.bool true) (K (fK p l)) 9):c5 ak 35 [P 4] (K (lX x y o x9 p l)) (27+sh p) (.bool true) (K (lX x y o x9 p l)) (27+sh p):=
 qw (ns:=nsW p) h (by rcases p with⟨_|⟨_,_,_⟩,_⟩<;>kernel_rfl)
theorem asf(ls ms:List lR)(e:Nat)(q:gx)(h:c5 ak 36 [P3,lH ls,lH ms,.int .i64 (e:Int)] (K (fK p l)) 9 (.bool true) (K (B2 9 q l)) (11+sh q)):
  c5 ak 36 [P 4,lH ls,lH ms,iW e] (K (lX x y o x9 p l)) (27+sh p) (.bool true) (K (mW (27+sh p) (27+sh p+sh q) (28+sh p+sh q) (8+sh p) x y q l++[(9+sh p,lq x9 o.y o.z o.d)])) (29+sh p+sh q):=
 uR (ns:=nsW p) h (27+sh p) (by rcases p with⟨_|⟨_,_,_⟩,_⟩<;>rcases q with⟨_|⟨_,_,_⟩,_⟩<;>kernel_rfl)
theorem ajr(q:gx)(l1:List RS)(tv:Bool)(h:c5 ak 27 [P3,o6 x9 o.y o.z o.d] (K (fK p l)) 9 (.bool tv) (K (tw q l1)) (nR q)):
  c5 ak 27 [P 4,o6 x9 o.y o.z o.d] (K (lX x y o x9 p l)) (10+sh p) (.bool tv) (K (Vl (10+sh p) x y q l1++[(9+sh p,lq x9 o.y o.z o.d)])) (13+sh p+sh q):=
 uR (ns:=nsW p) h (10+sh p) (by rcases p with⟨_|⟨_,_,_⟩,_⟩<;>rcases q with⟨_|⟨_,_,_⟩,_⟩<;>kernel_rfl)
end
theorem ZZ{cV:List iY}{k:Nat}{l:List RS}[eB]{D:Int}{p:gx}(h:SV cV k l)(hp:xL D cV k p)(hB:cV.length<=2500)(hl:l.length<=900):
  c5 ak 29 [P3] (K (fK p l)) 9 (fo cV).v (K (fK p l)) 9/\c5 ak 28 [P3,(fo cV).v] (K (fK p l)) 9 (.bool true) (K (fK p l)) 9:=by
 obtain⟨hw,_,qR,_,_⟩:=h.all L;have ni:l=mB cV k++[fo cV]:=h.fA;have hn:=m29 p (mB cV k) (fo cV) (by
  have:=aL List.length ni;rw[ay]at this;omega)
 rw[<- ni]at hn;have:=H8 h hp hB l hw L (fun _=>rfl) True ⟨fun _=>trivial,fun _=>rfl⟩;rw[bE trivial]at this;exact⟨hn,this⟩
def ndW(x9 w0 w1:Nat):Nat:=if x9=8 then 2 else if x9<7/\w0<w1\/x9=7 then 1 else 0
section
variable{a:Nat}(x y:Nat)(ls ms:List lR)(o:lR)(x9:Nat)(p:gx)(l1:List RS)(D i w0:Nat)(tv:Bool){cs:Exit->St->Prop}
theorem adH{b:Nat}:decide ((Int.ofNat a)>Int.ofNat b)=decide (b<a):=decide_eq_decide.2 dr
theorem adI(b:Nat):decide ((Int.ofNat a)<(b:Int))=decide (a<b):=decide_eq_decide.2 dr
theorem adJ
  (h:TG ak 3 Tryz.f11.ntmps (dw 6 B5) (sX x y ls ms o x9 p l1 [(9,iW D),(10,iW i),(13,.bool tv),(14,iW (if x9<7/\w0<l1.length\/x9=7 then 1 else 0))]) cs):
  TG ak 3 Tryz.f11.ntmps (dw 5 B5) (sX x y ls ms o x9 p l1 [(9,iW D),(10,iW i),(12,iW w0),(13,.bool tv),(14,iW 0)]) cs:=by
 refine c6 U ?_;refine fV jI (ar4 p l1 ls ms x y D i x9 w0 o tv) fun g hg J=>?_;simp only[aD,aN,br]at hg;have e7:((Int.ofNat x9)==(7:Int))=decide (x9=7):=tA;have e1:decide ((Int.ofNat x9)<(7:Int))=decide (x9<7):=adI 7;have e2:decide ((Int.ofNat l1.length)>Int.ofNat w0)=decide (w0<l1.length):=adH;rw[e7,e1,e2]at hg;rcases hg with rfl|rfl|rfl|rfl|rfl<;>refine⟨cW,fun s' ek=>dh ek ?_⟩<;>simp only[aD,aN,br,forall_eq_or_imp,forall_eq,bD,decide_eq_false_iff_not]at J
 . rwa [aF (.inl ⟨J.1,J.2⟩)]at h
 . rwa [aF (.inr J.2.2)]at h
 . rwa [aJ L]at h
 . rwa [aF (.inr J.2)]at h
 . rwa [aJ L]at h
theorem UP
  (h:TG ak 3 Tryz.f11.ntmps (dw 7 B5) (sX x y ls ms o x9 p l1 [(9,iW D),(10,iW i),(13,.bool tv),(14,iW (ndW x9 w0 l1.length))]) cs):
  TG ak 3 Tryz.f11.ntmps (dw 5 B5) (sX x y ls ms o x9 p l1 [(9,iW D),(10,iW i),(12,iW w0),(13,.bool tv),(14,iW 0)]) cs:=by
 refine adJ x y ls ms o x9 p l1 D i w0 tv ?_;refine c6 U ?_;refine fV jI (ar5 p l1 ls ms x y D i x9 (if x9<7/\w0<l1.length\/x9=7 then 1 else 0) o tv) fun g hg J=>?_;have e8:((Int.ofNat x9)==(8:Int))=decide (x9=8):=tA;rw[e8]at hg;unfold ndW at h;rcases jh hg with rfl|rfl
 . have c:=aI (J _ (au.2 rfl));rw[aF c]at h;exact⟨cW,fun s' ek=>dh ek h⟩
 . have c:=aK (J _ (au.2 rfl));rw[aJ c]at h;exact⟨cW,fun s' ek=>dh ek h⟩
end
theorem Z0{x9 n:Nat}{l l' l1:List RS}(M:x9<9)(hN:Uy x9 l l' n)(h:x9<7->(l.length<l1.length↔l.length<l'.length)):ndW x9 l.length l1.length=n:=by
 obtain⟨X,h2,h3,_⟩:=hN;have e:x9%10=x9:=cI L;rw[e]at X h2 h3;unfold ndW;rcases(by omega:x9<7\/x9=7\/x9=8)with c|c|c
 . rw[aJ L,X c];have:=h c;by_cases q:l.length<l'.length
   . rw[aF (.inl ⟨c,this.2 q⟩),aF q]
   . rw[aJ L,aJ q]
 . rw[aJ L,aF (.inr c),h2 c]
 . rw[aF c,h3 c]
theorem asg{n m:Nat}(W:m<=1000)(hn:n<=m):@Yk uJ n (m:Int)/\@Qy uJ n (m:Int)=((m-n:Nat):Int):=by
 induction n generalizing m with
 |zero=>exact⟨trivial,rfl⟩
 |succ n ih=>
  have e:@wL (m:Int) uJ=((m-1:Nat):Int):=by
   show IntKind.i64.wrap ((m:Int)-1)=_;rw[eV L L];omega
  obtain⟨a,b⟩:=ih (m:=m-1) L L;refine⟨⟨fun _=>by omega,?_⟩,?_⟩
  . rw[e];exact a
  . show @Qy uJ n (@wL (m:Int) uJ)=_;rw[e,b];exact aL _ L
theorem Qg(ms:List lR)(i:Nat)(hi:i<=ms.length):V.dV (false&& !(some (iW i)).isSome) (i-0) (eX (pM ms) 0 ((i-0)*4))=lH (List.take i ms):=by
 have e1:(ms.take i).length=i:=by rw[aY];omega
 have e2:eX (pM ms) 0 (i*4)=pM (ms.take i):=by
  show((pM ms).drop 0).take (i*4)=_;rw[bw];have:pM ms=pM (ms.take i)++pM (ms.drop i):=by
   unfold pM;rw[<- ct,<- aZ,cg]
  rw[this,List.take_left' (by rw[Eo,e1])]
 show V.dV false (i-0) _=V.dV false (ms.take i).length _;rw[e1,Nat.sub_zero,e2]
theorem Qh(ls ms:List lR){i:Nat}(hi:i<=ms.length):kK ls (ms.take i) (ms.take i).length=kK ls ms i:=by
 unfold kK;rw[aU]
abbrev QW:Exit->St->Prop:=fL ak 3 Tryz.f11 fun u _ _=>u= .bool true
section
variable(ls ms:List lR)
noncomputable abbrev rO(i:Nat):Vw:=(jw (kK ls ms i)).1
def IvP(a:Nat×gx×Nat):Prop:=a.1<=20/\a.1<=ms.length/\a.2.2<=15/\Vk (a.2.2:Int) (rO ls ms a.1).1 (rO ls ms a.1).2.1 a.2.1
theorem UQ{i:Nat}(hi:i<=20):SV (rO ls ms i).1 (rO ls ms i).2.1 (rO ls ms i).2.2/\(rO ls ms i).1.length<=1080/\(rO ls ms i).2.2.length<=61:=by
 have h:=tE ls (mo:=ms) hi;obtain⟨⟨_,a,b,c⟩,_⟩:=Cv h;exact⟨a,bR b L,bR c L⟩
end
theorem Z1(o:lR):o.x%9<9:=Nat.mod_lt _ dP
section
variable(x y:Nat)(ls ms:List lR)(hy:y<=255)
include hy
theorem UR{p:gx}{i D:Nat}(h:IvP ls ms (i,p,D))(hi:i<ms.length)(h20:i<20)(hn:D<(Fl ms[i].m9 (rO ls ms i)).2){Q':Exit->St->Prop}(hQ:∀s',QW .ret s'->Q' .ret s'):
  TG ak 3 Tryz.f11.ntmps B5 (sW x y ls ms p (rO ls ms i).2.2 [(9,iW D),(10,iW i)]) Q':=by
 obtain⟨_,_,_,hp⟩:=h;have ho:ms[i]? =some ms[i]:=az hi;obtain⟨⟨s1,s2,s3,hN,hNx,_⟩,_⟩:=MT ls h20 ho;obtain⟨v1,v2,v3⟩:=UQ ls ms (show i<=20 by omega);obtain⟨c1,c2,c3⟩:=Om ho;have h9:=Z1 ms[i];generalize ms[i]=o at *;have M:o.m9.x%10=o.m9.x:=cI (bC h9 dP);obtain⟨q,l1,K3,c27,hd⟩:=UL v1 L L o.m9.x o.m9.y o.m9.z o.m9.d o.m9.hy o.m9.hz hN (by rw[M];show o.x%9≠9;omega) hNx hn p hp;have GM:ndW (o.x%9) (rO ls ms i).2.2.length l1.length=(Fl o.m9 (rO ls ms i)).2:=by
  refine Z0 h9 hN fun c=>?_;have M6:=K3 (by rw[M];exact c);have:=hN.1 (by rw[M];exact c);refine⟨fun _=>?_,fun _=>M6⟩;by_cases q:(rO ls ms i).2.2.length<(rO ls ms (i+1)).2.2.length
  . exact q
  . rw[aJ q]at this;exact absurd (Nat.lt_of_lt_of_eq hn this) (Nat.not_lt_zero _)
 obtain⟨p1,c36⟩:=adB ls (ms.take i) (by rw[aY];omega) q l1 y hy (by rw[Qh ls ms L];exact hd);refine iw  5 (jI.jG Ol (ajr x y p _ o (o.x%9) q l1 false c27)) (ajj p q (rO ls ms i).2.2 l1 ls ms x y D i (o.x%9) o false) (G c1 (G c2 (G c3 (G (um9 o.x) (eS ⟨rfl,rfl,rfl⟩))))) ?_;refine UP x y ls ms o (o.x%9) q l1 D i _ false ?_;rw[GM];refine c6 U ?_;obtain⟨L9,hr9⟩:=ajk q p1 l1 ls ms x y D i (o.x%9) (Fl o.m9 (rO ls ms i)).2 o;refine gP ((jI.jG ajo (ase x y q l1 o (o.x%9) (adE hd l1))).jG ajp (asf x y q l1 o (o.x%9) ls (ms.take i) y p1 c36)) mo (fun u _ _=>u= .bool true) U hr9 (dG ?_);exact⟨G (aL V.bool (bE dr)) (G ⟨rfl,rfl,rfl⟩ (G (Eo ms) (G ⟨aA _,dr⟩ (G (Qg ms i L) (G (aL _ (eV dr dr)) (eS ⟨rfl,rfl,rfl⟩)))))),rfl,fun s1 fQ=>hQ s1 fQ⟩
omit hy in
theorem YB{p:gx}{i D:Nat}(h:IvP ls ms (i,p,D))(hi:i<ms.length)(h20:i<20)(hn:(Fl ms[i].m9 (rO ls ms i)).2<=D){Q':Exit->St->Prop}
  (hQ:∀q lf',IvP ls ms (i+1,q,lf')->∀s',gI ak 3 Tryz.f11.ntmps s' (sW x y ls ms q (rO ls ms (i+1)).2.2 [(9,iW lf'),(10,iW i)])->Q' .normal s'):
  TG ak 3 Tryz.f11.ntmps B5 (sW x y ls ms p (rO ls ms i).2.2 [(9,iW D),(10,iW i)]) Q':=by
 obtain⟨_,_,h15,hp⟩:=h;have h15:D<=15:=h15;have ho:ms[i]? =some ms[i]:=az hi;obtain⟨⟨s1,s2,s3,hN,hNx,wF⟩,_⟩:=MT ls h20 ho;obtain⟨v1,v2,v3⟩:=UQ ls ms (show i+1<=20 by omega);obtain⟨c1,c2,c3⟩:=Om ho;have h9:=Z1 ms[i];generalize ms[i]=o at *;have M:o.m9.x%10=o.m9.x:=cI (bC h9 dP);obtain⟨w1,w2⟩:=asg (n:=(Fl o.m9 (rO ls ms i)).2) (m:=D) L hn;obtain⟨q,c27,hq⟩:=@wF uJ (D:Int) p hp w1 (fun e=>by rw[M]at e;have e:o.x%9=9:=e;omega);have hq:@xL uJ (@Qy uJ (Fl o.m9 (rO ls ms i)).2 (D:Int)) (rO ls ms (i+1)).1 (rO ls ms (i+1)).2.1 q:=hq;rw[w2]at hq;have GM:ndW (o.x%9) (rO ls ms i).2.2.length (rO ls ms (i+1)).2.2.length=(Fl o.m9 (rO ls ms i)).2:=Z0 h9 hN fun _=>Iff.rfl;obtain⟨k29,k28⟩:=@ZZ _ _ _ uJ _ q v1 hq L L;generalize (Fl o.m9 (rO ls ms i)).2=nd at *;generalize fo (rO ls ms (i+1)).1=w at k29 k28;refine iw  5 (jI.jG Ol (ajr x y p _ o (o.x%9) q _ true c27)) (ajj p q (rO ls ms i).2.2 (rO ls ms (i+1)).2.2 ls ms x y D i (o.x%9) o true) (G c1 (G c2 (G c3 (G (um9 o.x) (eS ⟨rfl,rfl,rfl⟩))))) ?_;refine UP x y ls ms o (o.x%9) q _ D i _ true ?_;rw[GM];refine c6 U ?_;refine fV jI (ar6 q (rO ls ms (i+1)).2.2 ls ms x y D i (o.x%9) nd o true) (dG ?_);refine⟨eS (aL V.bool (bz dr)),fun s' ek=>dh ek ?_⟩;refine fV ((jI.jG BI (asc x y q _ o (o.x%9) w k29)).jG Gf (asd x y q _ o (o.x%9) w k28)) (ajl q (rO ls ms (i+1)).2.2 ls ms x y D i (o.x%9) nd (D-nd) o w) (dG ?_);refine⟨G ⟨rfl,rfl,rfl⟩ (G ⟨rfl,rfl,rfl⟩ (eS (aL _ (by rw[eV dr dr,jZ,jZ,jZ];omega)))),fun s2 gY=>?_⟩;exact hQ q (D-nd) ⟨by show i+1<=20;omega,by show i+1<=ms.length;omega,by show D-nd<=15;omega,hq⟩ s2 (.norm gY)
theorem ash(M:x<=255):TG ak 3 Tryz.f11.ntmps Kk (cZ [lH ls,lH ms,.agg [.int .u8 (x:Int),.int .u8 (y:Int)]] (EB gS gR) 3) QW:=by
 refine iw  4 ((X29.jG ZW (ar8 x y)).jG ZX (ar9 x y ls _ _ (On ls))) (ar0 (jw (ls.take 40)).2 (jw (ls.take 40)).1.2.2 ls ms x y) (G rfl (G rfl (G ⟨rfl,rfl,rfl⟩ (eS ⟨rfl,rfl,rfl⟩)))) ?_;rw[<- UN ls ms];obtain⟨_,wF⟩:=Cv (tE ls (mo:=ms) (i:=0) dP);show TG _ _ _ (dw 4 Kk) (sW x y ls ms (jw (kK ls ms 0)).2 (rO ls ms 0).2.2 []) _;have wF:@xL qD 0 (rO ls ms 0).1 (rO ls ms 0).2.1 (jw (kK ls ms 0)).2:=wF;have adK:=adD wF ((x%16:Nat):Int);generalize (jw (kK ls ms 0)).2=p0 at adK ⊢;refine iw  2 (jI.jG ZY (ajq x y p0 _ (x%16))) (ar1 p0 (rO ls ms 0).2.2 ls ms x y (x%16)) (G (aL _ (by rw[jZ,jZ,bZ L,eV L L];omega)) (eS ⟨rfl,rfl,rfl⟩)) ?_;generalize yM p0 ((x%16:Nat):Int)=p1 at adK ⊢;refine c6 U ?_;refine c6 U ?_;refine fV jI (ar2 p1 (rO ls ms 0).2.2 ls ms x y (x%16)) (dG ?_);refine⟨cW,fun s' ek=>?_⟩;refine jz (α:=Nat×gx×Nat) 0 (fun a=>20-a.1) (IvP ls ms) (fun a=>sW x y ls ms a.2.1 (rO ls ms a.1).2.2 [(9,iW a.2.2),(10,iW a.1)]) U U (0,p1,x%16) ⟨aX _,aX _,by show x%16<=15;omega,adK⟩ (.norm ek) fun a hI=>?_;obtain⟨i,p,D⟩:=a;have hI2:=hI;obtain⟨h20,hml,h15,hp⟩:=hI2;have h20:i<=20:=h20;have hml:i<=ms.length:=hml;have hp:Vk (D:Int) (rO ls ms i).1 (rO ls ms i).2.1 p:=hp;have Lf:∀s1,gI ak 3 Tryz.f11.ntmps s1 (sW x y ls ms p (rO ls ms i).2.2 [(9,iW D),(10,iW i)])->TG ak 3 Tryz.f11.ntmps (dw 7 Kk) s1 QW:=by
  intro s1 fQ;refine fQ _ _ ?_;obtain⟨v1,v2,v3⟩:=UQ ls ms h20;obtain⟨k29,k28⟩:=@ZZ _ _ _ uJ _ _ v1 (Yz hp 1000) L L;generalize fo (rO ls ms i).1=w at k29 k28;refine eZ (((jI.jG ZY (ajq x y p _ 1000)).jG BI (asa x y _ _ w k29)).jG Gf (asb x y _ _ w k28)) (ajn p (rO ls ms i).2.2 ls ms x y D i w) (dG ?_);exact⟨G ⟨rfl,rfl,rfl⟩ (G ⟨rfl,rfl,rfl⟩ (eS ⟨rfl,rfl,rfl⟩)),_,_,_,rfl,rfl⟩
 refine c6 U ?_;refine fV jI (ar3 p (rO ls ms i).2.2 ls ms x y D i) fun g hg J=>?_;rcases xl hg with rfl|rfl|rfl
 . have b1:=aI (J _ (aQ ..));have b2:=aI (J _ (aM _ (au.2 rfl)));have hi:i<ms.length:=by rw[jZ,jZ]at b1;omega
   have xW:i<20:=by rw[jZ]at b2;omega
   refine⟨cW,fun s1 fQ=>dh fQ ?_⟩;refine c6 U ?_;refine fk (i:=1) U ?_;by_cases hn:(Fl ms[i].m9 (rO ls ms i)).2<=D
   . refine YB x y ls ms hI hi xW hn fun q lf' hq s2 gY=>?_;show TG _ _ _ _ _ _;refine gY _ _ ?_;refine fV jI (ajm q (rO ls ms (i+1)).2.2 ls ms x y lf' i) (dG ?_);exact⟨eS (oQ dr L),fun s3 uV=>⟨(i+1,q,lf'),by show 20-(i+1)<20-i;omega,hq,.norm uV⟩⟩
   . exact UR x y ls ms hy hI hi xW L fun s2 gY=>gY
 . refine⟨cW,fun s1 fQ=>?_⟩;simp only[andThen,dY];exact Lf s1 (.norm fQ)
 . refine⟨cW,fun s1 fQ=>?_⟩;simp only[andThen,dY];exact Lf s1 (.norm fQ)
end
end Go.Proofs.YtfihojpgobmmdaaGreatDoor
