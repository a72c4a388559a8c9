/- The Chunk laws: the store's methods, each to a store afresh: Compact, Crash; what a store tells. No conditions. -/
import Derived.Test.YtfihojpgobmmdaaGreatDoorJointW21
import Derived.Test.YtfihojpgobmmdaaGreatDoorJointW17
set_option linter.unusedVariables false
set_option linter.unusedSimpArgs false
set_option linter.unusedSectionVars false
set_option maxRecDepth 20000
namespace Go.Proofs.YtfihojpgobmmdaaGreatDoor
open Go Go.Eng
section
variable(fl nx lf:Int)
theorem Wv:cU ak 81 [.fn (.yield 12) [] [],P 9] (OX fl nx lf) 13 (.ew []) (OX fl nx lf) 13:=by
 refine fQ.is (gG mo po Tryz.func81 (code:=El) U U ?_);rw[aeF];refine y9 (v0:=.map (some 8)) (ko:=(cS [.fn (.yield 12) [] [],P 9] (OX fl nx lf) 13).fr.set 4 (some (.map (some 8)))) (zO:=((cS [.fn (.yield 12) [] [],P 9] (OX fl nx lf) 13).fr.set 4 (some (.map (some 8)))).set 5 (some (P 13))) (m:=8) (kd:=none) (es:=[]) mo Mv
  U U U U (au rfl) U (fun _ s1=>e9 14 [0,5] s1=some (Wp fl nx lf)) U ?_
 rintro iB left s1 hs hp;have hz:iB=[]/\left=[]:=List.append_eq_nil_iff.1 hp.eq_nil;obtain⟨rfl,rfl⟩:=hz;refine⟨[0,5],_,hs,U,fun _=>?_,fun e ku he2=>?_⟩
 . exact⟨(Wp fl nx lf).fr.set 6 (some (.ew [.bool false])),{ Wp fl nx lf with fr:=((Wp fl nx lf).fr.set 6 (some (.ew [.bool false]))).set 7 (some (.bool false)) },U,U,U,.inl rfl,.ew [],OX fl nx lf,13,U,rfl,rfl,rfl⟩
 . have:=he2.length_eq;simp at this
theorem Tc:cU ak 100 [eI,g81] (sI fl nx lf) 10 eI (sI fl nx lf) 10:=by
 refine c7 Tryz.func100 (code:=Rk) U U ?_;refine iL  1 (XQ []) (ao8 fl nx lf) cR ?_;refine cV U ?_;refine cV U ?_;refine fZ (XQ []) (ao9 fl nx lf) (dG ?_);refine⟨cR,fun s' dL=>c5 dL ?_⟩;refine fg (i:=0) U ?_;refine ou (gf:=81) (lb:=[P 9]) U U U U U (Wv fl nx lf).one ?_;rintro v h n ⟨rfl,rfl,rfl⟩;refine⟨U,?_⟩;refine fB (XQ []) (apa fl nx lf) (dG ?_);exact⟨cR,_,_,_,rfl,rfl,rfl,rfl⟩
theorem Ww:cU ak 79 [g81] (sI fl nx lf) 10 eI (sI fl nx lf) 10:=by
 refine c7 Tryz.func79 (code:=K5) U U ?_;refine iL  1 (XQ []) (apb fl nx lf) cR ?_;refine cV U ?_;refine qb 1 (s1:={ fr:=(A3 [(0,g81)]).set 3 (some g81),h:=sI fl nx lf,n:=10,gz:=[] }) (f:=100) (args:=[eI,g81]) U U U U U U (Tc fl nx lf).one ?_;rintro v h n ⟨rfl,rfl,rfl⟩;refine⟨(((A3 [(0,g81)]).set 3 (some g81)).set 4 (some eI)),sC8 (sI fl nx lf) 10 eI,U,U,?_⟩;refine fB (XQ []) (apc fl nx lf) (dG ?_);exact⟨cR,_,_,_,rfl,rfl,rfl,rfl⟩
theorem Wx:cU ak 54 [g81,g56] (sI fl nx lf) 10 eI (sI fl nx lf) 10:=by
 refine c7 Tryz.func54 (code:=K4) U U ?_;refine iL  1 (XQ []) (apd fl nx lf) cR ?_;refine cV U ?_;refine qb 1 (s1:={ fr:=(A3 [(0,g81),(1,g56)]).set 6 (some g81),h:=sI fl nx lf,n:=10,gz:=[] }) (f:=79) (args:=[g81]) U U U U U U (Ww fl nx lf).one ?_;rintro v h n ⟨rfl,rfl,rfl⟩;refine⟨(((A3 [(0,g81),(1,g56)]).set 6 (some g81)).set 7 (some eI)),sS8 (sI fl nx lf) 10 eI,U,U,?_⟩;refine fB (XQ []) (agX fl nx lf) (dG ?_);exact⟨eU ⟨dU,dU⟩,_,_,_,rfl,rfl,rfl,rfl⟩
def ag5:List (Option Nat):=[some 0,some 1,some 2,some 3,none,some 5,some 6,some 19]
def ag6:List (Option Nat):=[some 0,some 1,some 2,some 3,none,some 5,some 6,some 7,some 20,some 21]
def abM:List (Option Nat):=[some 0,some 1,some 2,some 3,none,some 5,some 6]
theorem abN:zA 19 [] (sZ fl nx lf) (.int .i64 0) (sZ 0 0 lf):=by
 have h51:cU ak 51 [P3,v78] (hL (kNc fl nx lf)) 20 (.map (some 20)) (hL (kNd fl nx lf)) 21:=
  fV (ns:=ag5) (jF U U U U U) U U (VL fl nx lf)
 have h54:cU ak 54 [v81,v56] (hL (kNe fl nx lf)) 22 eI (hL (kNe fl nx lf)) 22:=
  fV (ns:=ag6) (jF U U U U U) U U (Wx fl nx lf)
 have h23:cU ak 23 [P3] (hL (TU fl nx lf)) 8 eI (hL (TU fl nx lf)) 8:=
  fV (ns:=abM) (jF U U U U U) U U (Nd fl nx lf [])
 have h57:cU ak 57 [P3] (hL (TU 0 nx lf)) 8 (.ew []) (hL (OW [(7,.cells [P3])] 8 lf)) 10:=
  fV (ns:=abM) (jF U U U U U) U U (GW 0 nx lf [] [])
 have key:cU ak 19 [P3] (eu (pN fl nx lf [] [])) 7 (.int .i64 0) (hL (OW [] 7 lf)) 9:=by
  refine c7 Tryz.func19 (code:=Ol) U U ?_;refine iL  4 (((XQ []).jy (au U) h51).jy (au U) h54) (ape fl nx lf) (fm ⟨rfl,rfl,rfl⟩ (eU ⟨rfl,rfl,rfl⟩)) ?_;show TG ak 7 Tryz.f19.ntmps TO _ _;refine cV U ?_;refine fZ (XQ []) (apf fl nx lf) (dG ?_);refine⟨cR,fun s' dL=>c5 dL ?_⟩;show TG ak 7 Tryz.f19.ntmps G2 _ _;refine cV U ?_;refine fZ (XT.jy (au U) h23) (agY fl nx lf) (dG ?_);refine⟨eU ⟨rfl,rfl,rfl⟩,fun s' dL=>c5 dL ?_⟩;refine iL  3 XT (agZ fl nx lf) cR ?_;refine fB (XT.jy (au U) h57) (ag0 nx lf) (dG ?_);exact⟨eU ⟨rfl,rfl,rfl⟩,_,_,_,rfl,rfl,rfl,rfl⟩
 exact key.Ew 4 U
end
section
variable{n cP:Nat}{b:aa}{fl nx lf:Int}{es rt:ae}
theorem abO{bs:aa}{q:LS}(h:cU ak 19 [P3] (eu (pS n cP b fl nx lf es rt)) 7 (.int .i64 0) (hL (l3r b lf es rt bs 8 [] q.nx q.es q.rt)) 10):zA 19 [] (sC n cP b fl nx lf es rt) (.int .i64 0) (sC bs.length bs.length bs (Int.ofNat bs.length) q.nx lf q.es q.rt):=by
 obtain⟨I3,mK,mX⟩:=q;exact h.Ew 4 U
theorem Wy(wG:Yh es)(hn:∀x,0<=jN es x/\jN es x<1000000000):zA 19 [] (sC n cP b fl nx lf es []) (.int .i64 0) (sZ 0 0 lf):=(VF n cP b fl nx lf es wG hn).Ew 4 U
theorem Wz(kk:Nat)(hk:kk<=1000000)(cut:Nat)(l:List ju)(x:aa)(apo:V.int aj (IntKind.i64.wrap (fl+IntKind.i64.wrap ((IntKind.i64.wrap (IntKind.i64.wrap ((Int.ofNat n)-fl)*Int.ofNat (kk%256))).tdiv (255:Int))))=iW cut)
  (hb:cut<=b.length) (Ub:cut<=cP) (iD:∀r∈l,r.ok) (Hq:b.take cut=cZ l++x) (Bm:Stop (b.take cut) (cZ l).length) (lW:cut<1000000000):
  IsC (kk:Int) (sC n cP b fl nx lf es rt) (sC (cZ l).length cP (cZ l) (Int.ofNat (cZ l).length) (iP l).nx lf (iP l).es (iP l).rt):=by
 have hc:=MI cut cP b fl nx lf es rt l x hb iD Hq Bm Ub lW;have htk:b.take (cZ l).length=cZ l:=by
  have h1:(cZ l).length<=cut:=by
   have:=aM List.length Hq;rw[bg,ax]at this;omega
  have h2:(b.take cut).take (cZ l).length=cZ l:=by rw[Hq,bW (aA _),aW]
  rw[List.take_take,Nat.min_eq_left h1]at h2;exact h2
 generalize cZ l=bs at hc htk ⊢;generalize iP l=q at hc ⊢;obtain⟨I3,mK,mX⟩:=q;have h57:cU ak 57 [P3] (hL (lQx cut cP b fl nx lf es rt [(7,.cells [.int .i64 (kk:Int)])])) 35 (.ew []) (hL (S8 bs.length cP b (Int.ofNat bs.length) I3 lf es rt [(7,.cells [.int .i64 (kk:Int)])] 35 mK mX)) 37:=by
  generalize bs.length=c2 at hc ⊢;exact fV (ns:=ns7) (jF U U U U U) U U hc
 have key:cU ak 31 [P3,.dj (some (7,0)) 1 1 1] (hL (lQx n cP b fl nx lf es rt [(7,.cells [.int .i64 (kk:Int)])])) 8 (.ew []) (hL (S8 bs.length cP b (Int.ofNat bs.length) I3 lf es rt [(7,.cells [.int .i64 (kk:Int)])] 8 mK mX)) 10:=by
  refine c7 Tryz.func31 (code:=Wm) U U ?_;refine rF (k9.jy (au U) h57) mo _ U (aoY n cP cut b fl nx lf es rt (kk:Int) (kk%256) bs.length I3 mK mX) (dG ?_);exact⟨fm ⟨dU,dU⟩ (fm (Az hk) (fm dU (fm apo (fm ⟨az _,dh⟩ (eU ⟨rfl,rfl,rfl⟩))))),_,_,_,rfl,rfl,rfl,rfl⟩
 have st:Step 8 (Jf (.ew []) (hL (S8 bs.length cP b (Int.ofNat bs.length) I3 lf es rt [(7,.cells [.int .i64 (kk:Int)])] 8 mK mX)) 10) (Jf (.ew []) (hL (crR (sC bs.length cP bs (Int.ofNat bs.length) I3 lf mK mX))) (nC (sC bs.length cP bs (Int.ofNat bs.length) I3 lf mK mX))):=by
  have h1:=Step.trim (n0:=8) (s:=Jf (.ew []) (hL (S8 bs.length cP b (Int.ofNat bs.length) I3 lf es rt [(7,.cells [.int .i64 (kk:Int)])] 8 mK mX)) 10) (m:=4) (el:=5) (t:=b) bs.length U U;rw[htk]at h1;generalize bs.length=c2 at h1 ⊢;exact h1.trans (.Ew 4 (live:=[0]) U)
 exact key.step st
theorem WA(kk:Nat)(hk:kk<=1000000):IsC (kk:Int) (sZ 0 nx lf) (sZ 0 0 lf):=by
 have h57:cU ak 57 [P3] (hL (Wn [(7,.cells [.int .i64 (kk:Int)])] 0 nx lf)) 35 (.ew []) (hL (OW [(7,.cells [.int .i64 (kk:Int)])] 35 lf)) 37:=
  fV (ns:=abM) (jF U U U U U) U U (GW 0 nx lf [] [])
 have key:cU ak 31 [P3,.dj (some (7,0)) 1 1 1] (hL (Wn [(7,.cells [.int .i64 (kk:Int)])] 0 nx lf)) 8 (.ew []) (hL (OW [(7,.cells [.int .i64 (kk:Int)])] 8 lf)) 10:=by
  refine c7 Tryz.func31 (code:=Wm) U U ?_;refine rF (k9.jy (au U) h57) mo _ U (aoZ 0 nx lf (kk:Int) (kk%256)) (dG ?_);refine⟨fm ⟨dU,dU⟩ (fm (Az hk) (fm dU (fm ?_ (fm ⟨dU,dU⟩ (eU ⟨rfl,rfl,rfl⟩))))),_,_,_,rfl,rfl,rfl,rfl⟩;show V.int aj (IntKind.i64.wrap ((0:Int)+IntKind.i64.wrap ((IntKind.i64.wrap (IntKind.i64.wrap ((0:Int)-0)*Int.ofNat (kk%256))).tdiv (255:Int))))=iW 0;rw[show IntKind.i64.wrap ((0:Int)-0)=0 from rfl,Int.zero_mul];rfl
 exact key.step (.Ew 4 (live:=[0]) U)
end
section
variable(n cP:Nat)(b:aa)(fl nx lf:Int)(es rt:ae)
theorem WB(hk:zl rt)(hl:rt.length<1000000):cU ak 23 [P3] (eu (pS n cP b fl nx lf es rt)) 7 (pH (iO (dJ rt))) (eu (pS n cP b fl nx lf es rt)) 7:=by
 have hc:=G1 n cP b fl nx lf es rt hk hl;generalize iO (dJ rt)=zs at hc ⊢
 match zs,hc with
 | [],hc=>exact cU.nil (z:=0) false hc
 | [x],hc=>
   refine hc.step ((Step.frz [7] (A:=[[D.str x].length=1*1]) (s2:=Jf (.dO false 1 [.str x]) ((hKf n cP b fl nx lf es rt [(7,.cells [.str x])]).set 7 none) 8) U (eU rfl)).trans (.norm (live:=[0]) U))
 |x::y::zs,hc=>
  have e:strs (x::y::zs)=strs (x::y::zs):=rfl;have hc:cU ak 23 [P3] (eu (pS n cP b fl nx lf es rt)) 7 (.dj (some (7,0)) (x::y::zs).length (x::y::zs).length 1) (hKf n cP b fl nx lf es rt [(7,.deep (strs (x::y::zs)))]) 8:=hc;generalize x::y::zs=us at hc ⊢;refine hc.step ((Step.frz [7] (A:=[(strs us).length=us.length*1]) (s2:=Jf (pH us) ((hKf n cP b fl nx lf es rt [(7,.deep (strs us))]).set 7 none) 8) U (eU (by rw[eJ,bk]))).trans (.norm (live:=[0]) U))
theorem WC:cU ak 20 [P3] (eu (pS n cP b fl nx lf es rt)) 7 (.int .i64 (Int.ofNat es.length)) (eu (pS n cP b fl nx lf es rt)) 7:=by
 refine c7 Tryz.func20 (code:=dP Tryz.f20) U U ?_;refine fB (XQ []) (apm n cP b fl nx lf es rt) (dG ?_);exact⟨cR,_,_,_,rfl,rfl,rfl,rfl⟩
theorem ag7(cs:List gH)(k:Nat)(yv:aa->aa)(hk:zl rt)(hl:rt.length<1000000)(JL:D2 rt)(he:∀x∈iH rt,Ends es k x)
  (o5:∀c∈cs,c.rs.length<=1000000/\∃i,di (.str c.dg) es=some (pW c.da c.rs i)) (hyv:∀x∈iO (dJ rt),di (.str x) rt=some (.str (yv x))):
  Obs (sC n cP b fl nx lf es rt) es.length (iO (dJ rt)) cs (fun d=>decide (d∈pX es rt k)) yv where
 h23:=WB n cP b fl nx lf es rt hk hl
 h20:=WC n cP b fl nx lf es rt
 h25:=fun c hc=>by
  obtain⟨h1,i,h2⟩:=o5 c hc;exact Vt n cP b fl nx lf es rt c.dg c.da c.rs i h2 h1
 h18:=fun c hc=>by
  obtain⟨h1,i,h2⟩:=o5 c hc;exact Vu n cP b fl nx lf es rt c.dg ⟨_,_,_,h2⟩
 h17:=fun c _=>VJ n cP b fl nx lf es rt k c.dg JL he
 h24:=fun x hx=>Li n cP b fl nx lf es rt x (yv x) (hyv x hx)
theorem ag8(lv:aa->Bool)(yv:aa->aa):Obs (sZ fl nx lf) 0 [] [] lv yv where
 h23:=cU.nil (z:=0) false (Nd fl nx lf [])
 h20:=by
  refine c7 Tryz.func20 (code:=dP Tryz.f20) U U ?_;refine fB (XQ []) (apn fl nx lf) (dG ?_);exact⟨cR,_,_,_,rfl,rfl,rfl,rfl⟩
 h25:=fun _ h=>by cases h
 h18:=fun _ h=>by cases h
 h17:=fun _ h=>by cases h
 h24:=fun _ h=>by cases h
end
section
variable(cT:List ju)(k:Nat)
def nO:List RS:=(List.range' k (cT.length-k)).map fun i=>fW (cT.take i)
def ox:List RS:=nO cT k++[fW cT]
abbrev WD(f cP:Nat):iw:=sC (cZ cT).length cP (cZ cT) (Int.ofNat f) (iP cT).nx 0 (iP cT).es (iP cT).rt
end
structure qe(p:iw)(cT:List ju)(k:Nat)(l:List RS):Prop where
 LO:(cT=[]/\p=sZ 0 0 0)\/∃cP,0<cP/\(cZ cT).length<=cP/\p=WD cT (cZ (cT.take k)).length cP
 val:Nb jB cT
 kle:k<=cT.length
 fC:l=ox cT k
theorem ag9:qe (sZ 0 0 0) [] 0 [jB]:=⟨.inl ⟨rfl,rfl⟩,trivial,aA _,rfl⟩
section
variable(cT:List ju)(k:Nat)
theorem FF:(nO cT k).length=cT.length-k:=by unfold nO;rw[aY,List.length_range']
theorem DM:(ox cT k).length=cT.length-k+1:=by unfold ox;rw[ax,FF];rfl
theorem DN{cT:List ju}{k i:Nat}(hk:k<=cT.length)(hi:i<=cT.length-k):(ox cT k)[i]? =some (fW (cT.take (k+i))):=by
 unfold ox;rw[bT,FF];by_cases h:i<cT.length-k
 . rw[aG h];unfold nO;rw[bt,List.getElem?_range' h];simp
 . rw[aI h];have e:i=cT.length-k:=by omega
   subst e;rw[Nat.sub_self,show k+(cT.length-k)=cT.length by omega,aW];rfl
theorem Jz{cT:List ju}{k:Nat}(hk:k<=cT.length)(r:ju):ox (cT++[r]) k=ox cT k++[AB (fW cT) r]:=by
 unfold ox;have h1:nO (cT++[r]) k=nO cT k++[fW cT]:=by
  unfold nO;rw[ax,show cT.length+[r].length-k=(cT.length-k)+1 by simp;omega,List.range'_1_concat,aX,show k+(cT.length-k)=cT.length by omega];congr 1
  . refine List.map_congr_left fun i hi=>?_;have:=List.mem_range'_1.1 hi;rw[bW be]
  . rw[List.map_singleton,List.take_left'];rfl
 rw[h1];congr 1;unfold fW;rw[List.foldl_append];rfl
theorem qM:ox cT cT.length=[fW cT]:=by
 unfold ox nO;rw[Nat.sub_self];rfl
theorem WE:nmO (MY k):=by
 unfold MY;have h:=Nat.mod_lt k (show 0<5 by decide);rcases(by omega:k%5=0\/k%5=1\/k%5=2\/k%5=3\/k%5=4)with e|e|e|e|e<;>rw[e]<;>exact⟨_,rfl,dU,dU⟩
end
theorem FG:∀(l:List (aa×aa)) (lo:Nat),OU l->(∀p∈l,∃c:UInt8,p.1=[c]/\lo<=c.toNat/\c.toNat<115)->l.length<=115-lo
 | [],_,_,_=>aZ _
 |p::l,lo,hs,h=>by
  obtain⟨h1,h2⟩:=qL.1 hs;obtain⟨c,hc,yC,Mc⟩:=h p (by simp);have:=FG l (c.toNat+1) h2 fun q hq=>by
   obtain⟨e,he,_,hh⟩:=h q (by simp[hq]);have fF:=h1 q hq;rw[hc,he]at fF;have:c<e:=by
    rcases List.cons_lt_cons_iff.1 fF with h|⟨_,h⟩
    . exact h
    . exact absurd h (List.lt_irrefl _)
   exact⟨e,he,this,hh⟩
  rw[aS];omega
theorem mw.WH{s:RS}(h:mw s):s.ro.length<=18:=by
 have:=FG s.ro 97 h.TT fun p hp=>(h.rv p hp).1;omega
theorem nmO.ok{n:aa}(h:nmO n):Vn n:=by
 obtain⟨c,rfl,_⟩:=h;exact⟨by simp,by simp⟩
theorem qe.all{p:iw}{cT:List ju}{k:Nat}{l:List RS}(h:qe p cT k l)(hB:cT.length<=3000):mw (fW cT)/\D4 (iP cT) (fW cT)/\(fW cT).cs.length<=cT.length/\(∀r∈cT,r.ok)/\(cZ cT).length<=180*cT.length:=by
 have:=BU h.val wf0 abG (by show 0+cT.length<=1000000;omega);refine⟨this.1,this.2.1,?_,this.2.2.2.1,this.2.2.2.2⟩;have h2:=this.2.2.1;have h3:(0:Nat)+cT.length=cT.length:=bI _;exact bV h2 (by show 0+cT.length<=cT.length;omega)
theorem tR{L:LS}{s:RS}(h:mw s)(g:D4 L s)(x:aa):0<=fU s.cs x↔Ek L.es x:=by
 rw[lR h.nd,g.es];constructor
 . rintro⟨j,c,hj,rfl⟩;exact⟨_,_,_,lQ h.nd hj⟩
 . rintro⟨d,rs,k,hk⟩;rcases AA s.cs x with q|q
   . rw[qc q]at hk;cases hk
   . exact q
theorem LP{L:LS}{s:RS}(h:mw s)(g:D4 L s){x:aa}(hx:fU s.cs x<0):di (.str x) L.es=none:=by
 rw[g.es];exact qc ((qd h.nd).1 hx)
theorem FH{α:Type}(P:α->Prop):∀(rs:List α),(∃x∈rs,P x)->∃(j:Nat) (x:α),rs[j]? =some x/\P x/\∀(i:Nat) (y:α),i<j->rs[i]? =some y->¬P y
 | [],⟨_,h,_⟩=>by cases h
 |a::rs,⟨x,hx,hp⟩=>by
  by_cases ha:P a
  . exact⟨0,a,rfl,ha,fun i _ hi=>absurd hi (Nat.not_lt_zero i)⟩
  . have:∃x∈rs,P x:=by
     rcases aE.1 hx with rfl|hx
     . exact absurd hp ha
     . exact⟨x,hx,hp⟩
    obtain⟨j,y,h1,h2,h3⟩:=FH P rs this;refine⟨j+1,y,by simpa using h1,h2,fun i z hi hz=>?_⟩;cases i with
    |zero=>simp at hz;subst hz;exact ha
    |succ i=>exact h3 i z be (by simpa using hz)
section
variable{p:iw}{cT:List ju}{k:Nat}{l:List RS}
theorem qe.more(h:qe p cT k l)(r:ju)(a:Wi (fW cT) r)(cP:Nat)(nF:(cZ cT).length+r.bytes.length<=cP):
  qe (sC ((cZ cT).length+r.bytes.length) cP (cZ cT++r.bytes) (Int.ofNat (cZ (cT.take k)).length) (BO (iP cT) r).nx 0 (BO (iP cT) r).es (BO (iP cT) r).rt) (cT++[r]) k (l++[AB (fW cT) r]):=by
 have e1:cZ (cT++[r])=cZ cT++r.bytes:=vy cT r;have e2:iP (cT++[r])=BO (iP cT) r:=by unfold iP;rw[List.foldl_append];rfl
 have e3:(cT++[r]).take k=cT.take k:=bW h.kle;have mF:=ow (r:=r);refine⟨.inr ⟨cP,be,by rw[e1,ax];exact nF,?_⟩,BT.2 ⟨h.val,a,trivial⟩,by rw[ax];have:=h.kle;simp;omega,by rw[h.fC,Jz h.kle]⟩;unfold WD;rw[e1,e2,e3,ax]
theorem tS(h:qe p cT k l)(hB:cT.length<=2500)(d:aa)(rs:List (aa))(hd:d.length<=60)(Nq:rs.length<=3)(h32:∀x∈rs,x.length=32)(hz:cT=[]->rs.length<=1):
  ∃q nD,(p.lo=none\/q.lo≠none)/\zA 15 [.str d,pH rs] p (.ew [.str (jv (fW cT) d rs).dg,.int .i64 (jv (fW cT) d rs).er]) q/\qe q nD k (tO l (jv (fW cT) d rs))/\nD.length<=cT.length+1:=by
 obtain⟨hw,hg,rJ,iD,TQ⟩:=h.all be;by_cases hm:∃x∈rs,fU (fW cT).cs x<0
 . have hr:jv (fW cT) d rs=⟨fW cT,[],63,false⟩:=by unfold jv;rw[aG hm]
   rw[hr];refine⟨p,cT,?_,?_,by unfold tO;rw[aI Bool.false_ne_true];exact h,be⟩
   . rcases h.LO with⟨_,e⟩|⟨cP,_,_,e⟩
     . exact .inl (by rw[e];rfl)
     . exact .inr (by rw[e];intro z;cases z)
   . rcases h.LO with⟨e0,e⟩|⟨cP,s7,Bw,e⟩
     . rw[e];have h1:=hz e0;obtain⟨x,hx,_⟩:=hm
       match rs,h1,hx,h32 with
       | [y],_,hx,h32=>exact ag4 be (h32 y (by simp))
       | [],_,hx,_=>cases hx
       |_::_::_,h1,_,_=>simp at h1
     . rw[e];obtain⟨j,x,h1,h2,h3⟩:=FH (fun x=>fU (fW cT).cs x<0) rs hm;exact ag3 be be h32 j x h1 (LP hw hg h2) fun i y hi hy=>(tR hw hg y).1 (by have:=h3 i y hi hy;omega)
 . have uY:∀x∈rs,0<=fU (fW cT).cs x:=fun x hx=>by
    by_cases q:0<=fU (fW cT).cs x
    . exact q
    . exact absurd ⟨x,hx,be⟩ hm
   by_cases hf:0<=fU (fW cT).cs (dM d rs)
   . have hr:jv (fW cT) d rs=⟨fW cT,dM d rs,0,false⟩:=by unfold jv;rw[aI hm,aG hf]
     rw[hr];refine⟨p,cT,?_,?_,by unfold tO;rw[aI Bool.false_ne_true];exact h,be⟩
     . rcases h.LO with⟨_,e⟩|⟨cP,_,_,e⟩
       . exact .inl (by rw[e];rfl)
       . exact .inr (by rw[e];intro z;cases z)
     . rcases h.LO with⟨e0,e⟩|⟨cP,s7,Bw,e⟩
       . exact absurd hf (by rw[e0];show ¬(0:Int)<= -1;decide)
       . rw[e];exact ag1 be be h32 (fun x hx=>(tR hw hg x).1 (uY x hx)) ((tR hw hg _).1 hf)
   . have hr:jv (fW cT) d rs=⟨⟨(fW cT).cs++[⟨dM d rs,d,rs⟩],(fW cT).ro⟩,dM d rs,0,true⟩:=by unfold jv;rw[aI hm,aI hf]
     rw[hr];have ha:Wi (fW cT) (.chunk d rs):=⟨hd,Nq,uY,be⟩;have Oz:(gL d rs).length<=180:=(LM hw ha).2;have hu:tO l ⟨⟨(fW cT).cs++[⟨dM d rs,d,rs⟩],(fW cT).ro⟩,dM d rs,0,true⟩=l++[AB (fW cT) (.chunk d rs)]:=by unfold tO;rw[aG rfl];rfl
     rw[hu];have hs:=h.more (.chunk d rs) ha ((cZ cT).length+(gL d rs).length) (aA _);refine⟨_,cT++[.chunk d rs],.inr (fun z=>by cases z),?_,hs,by rw[ax];exact aA _⟩;rcases h.LO with⟨e0,e⟩|⟨cP,s7,Bw,e⟩
     . have apq:rs=[]:=by
        cases rs with
        |nil=>rfl
        |cons x rs=>exact absurd (uY x (by simp)) (by rw[e0];show ¬(0:Int)<= -1;decide)
       have O8:k=0:=by have:=h.kle;rw[e0]at this;simpa using this
       subst e0 apq O8;rw[e];have:=Wq (fl:=0) (nx:=0) (lf:=0) (d:=d) be;have e1:(cZ []).length+(ju.chunk d []).bytes.length=(gL d []).length:=bI _;have e2:cZ []++(ju.chunk d []).bytes=gL d []:=rfl;have e3:(cZ []).length+(gL d []).length=(gL d []).length:=bI _;rw[e1,e2,e3];exact this
     . rw[e];exact ag2 be be h32 (fun x hx=>(tR hw hg x).1 (uY x hx)) (LP hw hg be) s7 rfl be
end
section
variable{L:LS}{p:iw}{s:RS}{cT:List ju}{k:Nat}{l:List RS}
theorem WI(g:D4 L s):RtE L.rt:=fun n=>by
 rw[g.lk n];split
 . exact .inl rfl
 . exact .inr ⟨_,rfl⟩
theorem JA(h:qe p cT k l)(hB:cT.length<=2500){nm:aa}(hy:nmO nm)(x:aa)(hx:x=[]\/x.length=32):
  ∃q nD,(p.lo=none\/q.lo≠none)/\zA 16 [.str nm,.str x] p (.int .i64 (oT (fW cT) nm x).er) q/\qe q nD k (tO l (oT (fW cT) nm x))/\nD.length<=cT.length+1:=by
 obtain⟨hw,hg,rJ,iD,TQ⟩:=h.all be;have hn:=hy.ok;have JJ:=hn.2;have yC:p.lo=none\/p.lo≠none:=by
  cases e:p.lo with
  |none=>exact .inl rfl
  |some _=>exact .inr (by simp)
 by_cases c1:x≠[]/\fU (fW cT).cs x<0
 . have hr:oT (fW cT) nm x=⟨fW cT,[],62,false⟩:=by unfold oT;rw[aG c1]
   rw[hr];refine⟨p,cT,yC,?_,by unfold tO;rw[aI Bool.false_ne_true];exact h,be⟩;rcases h.LO with⟨e0,e⟩|⟨cP,s7,Bw,e⟩
   . rw[e];exact Ws hn c1.1
   . rw[e];exact Ta (Lg _ _ _ _ _ _ _ _ _ _ (WI hg) hn c1.1 (LP hw hg c1.2))
 . have hfx:x=[]\/0<=fU (fW cT).cs x:=by
    by_cases q:x=[]
    . exact .inl q
    . exact .inr (by
       by_cases z:0<=fU (fW cT).cs x
       . exact z
       . exact absurd ⟨q,be⟩ c1)
   by_cases c2:x=gM nm (fW cT).ro
   . have hr:oT (fW cT) nm x=⟨fW cT,[],0,false⟩:=by unfold oT;rw[aI c1,aG c2]
     rw[hr];refine⟨p,cT,yC,?_,by unfold tO;rw[aI Bool.false_ne_true];exact h,be⟩;rcases h.LO with⟨e0,e⟩|⟨cP,s7,Bw,e⟩
     . have:x=[]:=by rw[c2,e0];rfl
       rw[e,this];exact Wr hn
     . rw[e];have hl:=hg.lk nm;rw[<- c2]at hl;by_cases q:x=[]
       . rw[aG q]at hl;subst q;exact Ta (OC _ _ _ _ _ _ _ _ _ hn hl)
       . rw[aI q]at hl;have hf:0<=fU (fW cT).cs x:=hfx.resolve_left q;exact Ta (OB _ _ _ _ _ _ _ _ _ _ hn q ((tR hw hg x).1 hf) hl)
   . have hr:oT (fW cT) nm x=⟨⟨(fW cT).cs,lP nm x (eG x []) (fW cT).ro⟩,[],0,true⟩:=by unfold oT;rw[aI c1,aI c2]
     rw[hr];have ha:Wi (fW cT) (.root nm x):=⟨hy,hfx,c2⟩;have Oz:(kK nm x).length<=180:=(LM hw ha).2;have hu:tO l ⟨⟨(fW cT).cs,lP nm x (eG x []) (fW cT).ro⟩,[],0,true⟩=l++[AB (fW cT) (.root nm x)]:=by unfold tO;rw[aG rfl];rfl
     rw[hu];have hs:=h.more (.root nm x) ha ((cZ cT).length+(kK nm x).length) (aA _);refine⟨_,cT++[.root nm x],.inr (fun z=>by cases z),?_,hs,by rw[ax];exact aA _⟩;rcases h.LO with⟨e0,e⟩|⟨cP,s7,Bw,e⟩
     . exfalso;rcases hfx with q|q
       . exact c2 (by rw[q,e0];rfl)
       . rw[e0]at q;exact absurd q (by show ¬(0:Int)<= -1;decide)
     . rw[e];have hl:=hg.lk nm;have wZ:(iP cT).rt.length<64:=by have:=vE hw hg;have:=hw.WH;omega
       by_cases q:x=[]
       . subst q;have fN:gM nm (fW cT).ro≠[]:=fun z=>c2 z.symm;rw[aI fN]at hl;have ea:(BO (iP cT) (.root nm []))=⟨(iP cT).nx,(iP cT).es,lM (.str nm) (iP cT).rt⟩:=rfl;rw[ea];exact LN (RO _ _ _ _ _ _ _ _ _ _ hn hl fN s7 rfl be)
       . have hf:0<=fU (fW cT).cs x:=hfx.resolve_left q;have h32:x.length=32:=hx.resolve_left q;have ea:(BO (iP cT) (.root nm x))=⟨(iP cT).nx,(iP cT).es,ic (.str nm) (.str x) (iP cT).rt⟩:=by
          show LS.mk _ _ (if x=[]then _ else _)=_;rw[aI q]
         rw[ea];by_cases w:gM nm (fW cT).ro=[]
         . rw[aG w]at hl;exact LN (RM _ _ _ _ _ _ _ _ _ _ hn q be ((tR hw hg x).1 hf) hl wZ s7 rfl be)
         . rw[aI w]at hl;exact LN (RN _ _ _ _ _ _ _ _ _ _ _ hn q be ((tR hw hg x).1 hf) hl c2 s7 rfl be)
theorem OY(h:qe p cT k l):∃q,(p.lo=none\/q.lo≠none)/\zA 66 [] p (.int .i64 0) q/\qe q cT cT.length [fW cT]:=by
 rcases h.LO with⟨e0,e⟩|⟨cP,s7,Bw,e⟩
 . refine⟨sZ 0 0 0,.inl (by rw[e];rfl),by rw[e];exact Wu,⟨.inl ⟨e0,rfl⟩,h.val,aA _,(qM cT).symm⟩⟩
 . refine⟨_,.inr (fun z=>?_),by rw[e];exact Wt,⟨.inr ⟨cP,s7,Bw,?_⟩,h.val,aA _,(qM cT).symm⟩⟩
   . cases z
   . rw[aW]
theorem DO(cs:List gH)(bs:List Bool):(jH cs bs).length<=cs.length:=(mS cs bs).length_le
theorem Td(h:mw s)(e:s.ro=[]):(eS s).cs=[]:=by
 cases q:(eS s).cs with
 |nil=>rfl
 |cons c l=>
  have h0:(jH s.cs (eV s))[0]? =some c:=by
   have:jH s.cs (eV s)=c::l:=q;rw[this];rfl
  obtain⟨m,h1,h2,_⟩:=sH _ _ _ _ h0;obtain⟨_,_,p,hp,_⟩:=(kept h h1).1 h2;rw[e]at hp;cases hp
theorem Hf(h:mw s){m:Nat}{c:gH}(hc:s.cs[m]? =some c):jN (nA s.cs 0) c.dg=(m:Int):=by
 unfold jN;rw[lQ h.nd hc,bI];rfl
theorem Te(h:mw s):(s.cs.map gH.dg).Pairwise fun a b=>jN (nA s.cs 0) a<jN (nA s.cs 0) b:=by
 rw[List.pairwise_iff_getElem];intro i j hi hj Pb;rw[aY]at hi hj;rw[List.getElem_map,List.getElem_map,Hf h (ay hi),Hf h (ay hj)];omega
theorem DP(h:mw s)(hl:s.cs.length<=1000000)(x:aa):0<=jN (nA s.cs 0) x/\jN (nA s.cs 0) x<1000000000:=by
 rcases AA s.cs x with q|⟨j,c,hj,rfl⟩
 . unfold jN;rw[qc q];exact⟨dU,dU⟩
 . rw[Hf h hj];have:=(aF.1 hj).1;omega
theorem Tf(h:mw s):Yh (nA s.cs 0):=fun x=>by
 rcases AA s.cs x with q|⟨j,c,hj,rfl⟩
 . exact .inl (qc q)
 . exact .inr ⟨_,_,_,lQ h.nd hj⟩
theorem vI(h:mw s)(x:aa):x∈(eS s).cs.map gH.dg↔∃m c,s.cs[m]? =some c/\c.dg=x/\RI s m:=by
 rw[bj];constructor
 . rintro⟨c,hc,rfl⟩;obtain⟨i,hi⟩:=bz.1 hc;obtain⟨m,h1,h2,_⟩:=sH s.cs (eV s) i c hi;exact⟨m,c,h1,rfl,(kept h h1).1 h2⟩
 . rintro⟨m,c,hm,rfl,hr⟩;exact⟨c,AD hm ((kept h hm).2 hr),rfl⟩
theorem OZ(h:mw s)(g:D4 L s):List.Perm ((eS s).cs.map gH.dg) (pX L.es L.rt (s.cs.length+1)):=by
 refine BV (zF h).nd ((Jq (vG h g)).nd List.nodup_nil) fun x=>?_;rw[vI h,Jr (vG h g),g.es];constructor
 . rintro⟨m,c,hm,rfl,c',h1,p,hp,q⟩;rw[hm]at h1;cases h1;exact⟨p.2,(vF h g _).2 ⟨p,hp,rfl⟩,q⟩
 . rintro⟨d,hd,q⟩;obtain⟨p,hp,rfl⟩:=(vF h g d).1 hd;obtain⟨c,hc,rfl⟩:=LK h q (h.rv p hp).2;obtain⟨m,hm⟩:=bz.1 hc;exact⟨m,c,hm,rfl,c,hm,p,hp,q⟩
theorem O0(h:mw s)(g:D4 L s):nN L.es L.rt ((eS s).cs.map gH.dg)=jf (eS s):=by
 unfold nN jf;congr 1
 . rw[List.map_map];refine List.map_congr_left fun c hc=>?_;obtain⟨j,hj⟩:=bz.1 ((mS s.cs (eV s)).subset hc);show zm L.es c.dg=_;rw[g.es];exact G3 (lQ h.nd hj)
 . rw[zE h g,List.map_map];refine List.map_congr_left fun p hp=>?_;have hp:p∈s.ro:=hp;show ju.root p.1 (rcV L.rt p.1)=_;unfold rcV;rw[g.lk,tQ h hp,aI (h.wE hp)]
end
theorem DQ(t:RS):(jf t).length=t.cs.length+t.ro.length:=by unfold jf;rw[ax,aY,aY]
theorem zG{p:iw}{cT:List ju}{k:Nat}{l:List RS}(h:qe p cT k l)(hB:cT.length<=2500):
  ∃q,zA 19 [] p (.int .i64 0) q/\qe q (jf (eS (fW cT))) (jf (eS (fW cT))).length [eS (fW cT)]/\(jf (eS (fW cT))).length<=cT.length+18:=by
 obtain⟨hw,hg,rJ,iD,TQ⟩:=h.all be;have YD:=zF hw;have hv:=S4 YD;have iS:(jf (eS (fW cT))).length<=cT.length+18:=by
  rw[DQ];have h1:(eS (fW cT)).cs.length<=(fW cT).cs.length:=DO _ _;have h2:=YD.WH;omega
 have YE:[eS (fW cT)]=ox (jf (eS (fW cT))) (jf (eS (fW cT))).length:=by rw[qM,hv.2]
 by_cases A4:(fW cT).ro=[]
 . have hcn:eS (fW cT)=⟨[],[]⟩:=by
    have h1:=Td hw A4;have h2:(eS (fW cT)).ro=[]:=A4;cases q:eS (fW cT)with
    |mk a b=>rw[q]at h1 h2;simp only at h1 h2;rw[h1,h2]
   have T9:jf (eS (fW cT))=[]:=by rw[hcn];rfl
   have JL:(iP cT).rt=[]:=by
    have:=vE hw hg;rw[A4]at this;exact cH.1 this
   refine⟨sZ 0 0 0,?_,⟨.inl ⟨T9,rfl⟩,hv.1,aA _,YE⟩,iS⟩;rcases h.LO with⟨e0,e⟩|⟨cP,s7,Bw,e⟩
   . rw[e];exact abN 0 0 0
   . rw[e];unfold WD;rw[JL];exact Wy (by rw[hg.es];exact Tf hw) (by rw[hg.es];exact DP hw be)
 . rcases h.LO with⟨e0,e⟩|⟨cP,s7,Bw,e⟩
   . exact absurd (by rw[e0];rfl) A4
   . have at2:=(BU hv.1 wf0 abG (by show 0+_<=1000000;omega)).2.2.2;have VC:=OZ hw hg;have YF:=O0 hw hg;have at3:((eS (fW cT)).cs.map gH.dg).length<=cT.length:=by
      rw[aY];exact bV (DO _ _) rJ
     have YO:(eS (fW cT)).cs.map gH.dg≠[]:=by
      obtain⟨pr,rest,hpr⟩:=List.exists_cons_of_ne_nil A4;have hp:pr∈(fW cT).ro:=by rw[hpr];simp
      obtain⟨c,hc,e2⟩:=(hw.rv pr hp).2;obtain⟨j,hj⟩:=bz.1 hc;have:c.dg∈(eS (fW cT)).cs.map gH.dg:=(vI hw _).2 ⟨j,c,hj,rfl,(He hw hj).2 (.inl ((DK _ _).2 ⟨pr,hp,e2.symm⟩))⟩;exact fun z=>by rw[z]at this;cases this
     have hc:=VE (cZ cT).length cP (cZ cT) (Int.ofNat (cZ (cT.take k)).length) (iP cT).nx 0 (iP cT).es (iP cT).rt ((fW cT).cs.length+1) ((eS (fW cT)).cs.map gH.dg) hg.key (vG hw hg)
      (by rw[<- VC.length_eq];omega) (by rw[hg.es];exact Tf hw) (by rw[hg.es];exact DP hw be) VC
      (by rw[hg.es];exact(Te hw).sublist ((mS _ _).map _))
      (fun x hx=>by
       obtain⟨m,c,hm,rfl,_⟩:=(vI hw x).1 hx;have hl:=lQ (i:=0) hw.nd hm;rw[<- hg.es]at hl;refine⟨⟨_,_,_,hl⟩,?_⟩;rw[G3 hl];obtain⟨n1,n2,n3⟩:=hw.nm c (aU hm);exact⟨be,be,fun r hr=>by
        obtain⟨j,c',_,hj,e3⟩:=hw.ref m c hm r hr;rw[<- e3];exact hw.zD (aU hj)⟩)
      (fun nm hnm=>by
       rw[zE hw hg]at hnm;obtain⟨pr,hp,rfl⟩:=bj.1 hnm;have hl:=hg.lk pr.1;rw[tQ hw hp,aI (hw.wE hp)]at hl;refine⟨⟨_,hl⟩,?_⟩;have:Dq (iP cT).rt pr.1= .root pr.1 pr.2:=by unfold Dq rcV;rw[hl]
       rw[this];obtain⟨⟨y,hy,_⟩,c,hcm,e3⟩:=hw.rv pr hp;have:[y].length=1:=rfl;have h32:=hw.zD hcm;exact⟨by rw[hy];omega,by rw[<- e3];omega⟩)
      (by rw[vE hw hg];have:=hw.WH;omega) (by rw[YF];omega) YO (fun z=>A4 (by
       have:=vE hw hg;rw[z]at this;exact cH.1 this.symm))
     rw[YF]at hc;refine⟨_,by rw[e];exact abO hc,⟨.inr ⟨(cZ (jf (eS (fW cT)))).length,?_,aA _,?_⟩,hv.1,aA _,YE⟩,iS⟩
     . have fN:jf (eS (fW cT))≠[]:=fun z=>YO (by
        have:=aM List.length z;rw[DQ]at this;exact cH.1 (by rw[aY];simp at this;exact this.1▸rfl))
       obtain⟨r,rest,hr⟩:=List.exists_cons_of_ne_nil fN;rw[hr,jh,ax];have:=ow (r:=r);omega
     . rw[aW]
abbrev lvS(cT:List ju):aa->Bool:=fun d=>decide (d∈pX (iP cT).es (iP cT).rt ((fW cT).cs.length+1))
abbrev yvS(cT:List ju):aa->aa:=fun x=>gM x (fW cT).ro
theorem BW{p:iw}{cT:List ju}{k:Nat}{l:List RS}(h:qe p cT k l)(hB:cT.length<=3000):Obs p (fW cT).cs.length ((fW cT).ro.map Prod.fst) (fW cT).cs (lvS cT) (yvS cT):=by
 obtain⟨hw,hg,rJ,iD,TQ⟩:=h.all be;rcases h.LO with⟨e0,e⟩|⟨cP,s7,Bw,e⟩
 . subst e0;rw[e];exact ag8 0 0 0 _ _
 . rw[e,<- zE hw hg];have iS:(fW cT).cs.length=(iP cT).es.length:=by rw[hg.es,Jn]
   have DY:zl (iP cT).rt:=fun e he=>by obtain⟨n,d,rfl⟩:=hg.key e he;exact⟨n,rfl⟩
   have:=ag7 (cZ cT).length cP (cZ cT) (Int.ofNat (cZ (cT.take k)).length) (iP cT).nx 0 (iP cT).es (iP cT).rt (fW cT).cs ((fW cT).cs.length+1) (yvS cT) DY (by rw[vE hw hg];have:=hw.WH;omega) hg.key (vG hw hg)
    (fun c hc=>by
     obtain⟨j,hj⟩:=bz.1 hc;refine⟨by have:=(hw.nm c hc).2.2;omega,((0+j:Nat):Int),?_⟩;rw[hg.es];exact lQ hw.nd hj)
    (fun x hx=>by
     rw[zE hw hg]at hx;obtain⟨pr,hp,rfl⟩:=bj.1 hx;rw[hg.lk,tQ hw hp,aI (hw.wE hp)];show some (D.str pr.2)=some (D.str (gM pr.1 (fW cT).ro));rw[tQ hw hp])
   rw[<- iS]at this;exact this
theorem FI:∀(l:List ju) (s:RS),s.cs <+: (l.foldl AB s).cs
 | [],s=>List.prefix_refl _
 |r::l,s=>by
  refine List.IsPrefix.trans ?_ (FI l (AB s r));cases r with
  |chunk d rs=>exact List.prefix_append _ _
  |root n x=>exact List.prefix_refl _
theorem Bg(cT:List ju)(i:Nat):(fW (cT.take i)).cs <+: (fW cT).cs:=by
 have:fW cT=(cT.drop i).foldl AB (fW (cT.take i)):=by
  unfold fW;rw[<- List.foldl_append,ck]
 rw[this];exact FI _ _
theorem WJ{cT:List ju}{i j:Nat}(h:(fW (cT.take j)).cs.length=(fW (cT.take i)).cs.length):(fW (cT.take i)).cs=(fW (cT.take j)).cs:=by
 have h1:=Bg cT i;have h2:=Bg cT j;exact(List.prefix_of_prefix_length_le h1 h2 be).eq_of_length h.symm
theorem Tg{L:LS}{t:RS}(hw:mw t)(hg:D4 L t):t.cs.map (fun c=>decide (c.dg∈pX L.es L.rt (t.cs.length+1)))=eV t:=by
 refine List.ext_getElem? fun i=>?_;rw[bt];by_cases h:i<t.cs.length
 . have hc:t.cs[i]? =some t.cs[i]:=ay h;have hr:(eV t)[i]? =some ((eV t)[i]'(by rw[w7 hw];exact h)):=ay _;have hl:=S3 hw hg hc;rw[aN,hr]at hl;rw[hc,hr];exact aM some hl.symm
 . rw[bR be,bR (by rw[w7 hw];omega)];rfl
section
variable{p:iw}{cT:List ju}{k:Nat}{l:List RS}
theorem Th{t:RS}(hw:mw t):(t.ro.map Prod.fst).map (fun x=>(x,gM x t.ro))=t.ro:=by
 rw[List.map_map];have:∀p∈t.ro,((fun x=>(x,gM x t.ro)) ∘ Prod.fst) p=p:=fun p hp=>by
  show(p.1,gM p.1 t.ro)=p;rw[tQ hw hp]
 rw[List.map_congr_left this,List.map_id']
theorem Ti(hw:mw (fW cT))(hg:D4 (iP cT) (fW cT)){w:RS}(JB:(fW cT).cs.length=w.cs.length->w.cs=(fW cT).cs):
  sF (fW cT).cs.length ((fW cT).ro.map Prod.fst) (lvS cT) (yvS cT) w=true↔w=fW cT:=by
 unfold sF;rw[aC,aC,aC,decide_eq_true_iff,decide_eq_true_iff,decide_eq_true_iff,decide_eq_true_iff];have hrm:=Th hw;constructor
 . rintro⟨h1,_,_,h4⟩;have h5:=JB h1;have h4:(fW cT).ro=w.ro:=hrm.symm.trans h4;cases w with
   |mk a b=>simp only at h5 h4;rw[h5,<- h4]
 . rintro rfl;exact⟨rfl,by rw[aY],Tg hw hg,hrm⟩
theorem JC(hw:mw (fW cT))(hg:D4 (iP cT) (fW cT)){w:RS}(JB:(fW cT).cs.length=w.cs.length->w.cs=(fW cT).cs)(b:Prop)[Decidable b](hb:w=fW cT↔b):
  sF (fW cT).cs.length ((fW cT).ro.map Prod.fst) (lvS cT) (yvS cT) w=decide b:=by
 have h:=Ti hw hg JB;by_cases c:b
 . rw[bM c];exact h.2 (hb.2 c)
 . rw[bD c];cases q:sF (fW cT).cs.length ((fW cT).ro.map Prod.fst) (lvS cT) (yvS cT) w with
   |false=>rfl
   |true=>exact absurd (hb.1 (h.1 q)) c
theorem JD{s:RS}(h:Nb s cT)(i:Nat):Nb s (cT.take i):=by
 rw[<- ck i cT]at h;exact(BT.1 h).1
theorem WK{α:Type}(P:α->Prop)(l:List α)(T i0:Nat)(a0:α)(h0:l[i0]? =some a0)(hp:P a0)(hT:i0<T):∃(j:Nat) (a:α),i0<=j/\j<T/\l[j]? =some a/\P a/\∀(i:Nat) (b:α),j<i->i<T->l[i]? =some b->¬P b:=by
 induction T with
 |zero=>omega
 |succ T ih=>
  by_cases hq:∃b,l[T]? =some b/\P b
  . obtain⟨b,h1,h2⟩:=hq;exact⟨T,b,be,be,h1,h2,fun i c hi zI=>by omega⟩
  . have fN:i0≠T:=fun e=>hq ⟨a0,by rw[<- e];exact h0,hp⟩;obtain⟨j,a,h1,h2,h3,h4,h5⟩:=ih be;refine⟨j,a,h1,be,h3,h4,fun i b hi zI hb=>?_⟩;by_cases e:i=T
    . subst e;exact fun z=>hq ⟨b,hb,z⟩
    . exact h5 i b hi be hb
theorem abQ{n f t0:Nat}(hf:f<=n)(hn:n<=1000000)(ht:t0<=255):V.int aj (IntKind.i64.wrap (Int.ofNat f+IntKind.i64.wrap ((IntKind.i64.wrap (IntKind.i64.wrap ((Int.ofNat n)-Int.ofNat f)*Int.ofNat t0)).tdiv (255:Int))))=iW (f+(n-f)*t0/255)/\f+(n-f)*t0/255<=n:=by
 have h1:(n-f)*t0<=(n-f)*255:=Nat.mul_le_mul_left _ ht;have h2:(n-f)*t0/255<=n-f:=Nat.div_le_of_le_mul (by rw[Nat.mul_comm 255];exact h1);refine⟨?_,be⟩;have e1:IntKind.i64.wrap ((Int.ofNat n)-Int.ofNat f)=((n-f:Nat):Int):=by
  rw[fH dh dh,kU,kU];omega
 have e2:((n-f:Nat):Int)*Int.ofNat t0=(((n-f)*t0:Nat):Int):=by rw[kU];exact(Int.natCast_mul _ _).symm
 rw[e1,e2,lH be];have e3:((((n-f)*t0:Nat):Int)).tdiv 255=(((n-f)*t0/255:Nat):Int):=by
  rw[Int.tdiv_eq_ediv_of_nonneg be];rfl
 rw[e3,lH be];exact aM _ (by rw[kU,fH be be,kU];omega)
def WL(cT:List ju)(k kk:Nat):Nat:=(cZ (cT.take k)).length+((cZ cT).length-(cZ (cT.take k)).length)*(kk%256)/255
theorem WM(h:qe p cT k l)(hB:cT.length<=2500)(kk:Nat)(hk:kk<=1000000):
  ∃(q:iw) (j:Nat),(p.lo=none\/q.lo≠none)/\IsC (kk:Int) p q/\j<=cT.length/\k<=j/\qe q (cT.take j) j [fW (cT.take j)]/\(cZ (cT.take j)).length<=WL cT k kk/\∀i,i<=cT.length->(cZ (cT.take i)).length<=WL cT k kk->i<=j:=by
 obtain⟨hw,hg,rJ,iD,TQ⟩:=h.all be;have Pj:=h.kle;have ahb:kk%256<=255:=by have:=Nat.mod_lt kk (show 0<256 by decide);omega
 have TE:=vH cT Pj;rw[aW]at TE;rcases h.LO with⟨e0,e⟩|⟨cP,s7,Bw,e⟩
 . have O8:k=0:=by rw[e0]at Pj;simpa using Pj
   exact⟨sZ 0 0 0,0,.inl (by rw[e];rfl),by rw[e];exact WA kk hk,aZ _,be,⟨.inl ⟨rfl,rfl⟩,trivial,aA _,(qM []).symm⟩,aZ _,fun i hi _=>by rw[e0]at hi;exact hi⟩
 . obtain⟨c1,c2⟩:=abQ (n:=(cZ cT).length) (f:=(cZ (cT.take k)).length) (t0:=kk%256) TE be ahb;obtain⟨j,x,h1,h2,h3,h4,h5⟩:=S7 iD c2;have Xr:k<=j:=h4 k Pj be;have aps:∀r∈cT.take j,r.ok:=fun r hr=>iD r (List.mem_of_mem_take hr);have EC:=Wz (n:=(cZ cT).length) (cP:=cP) (b:=cZ cT) (fl:=Int.ofNat (cZ (cT.take k)).length) (nx:=(iP cT).nx) (lf:=0) (es:=(iP cT).es) (rt:=(iP cT).rt) kk hk _ (cT.take j) x c1 c2 be aps h2 h3 be;have Pa:(cT.take j).length=j:=by rw[bg];omega
   refine⟨WD (cT.take j) (cZ (cT.take j)).length cP,j,.inr (fun z=>by cases z),by rw[e];exact EC,h1,Xr,⟨.inr ⟨cP,s7,be,?_⟩,JD h.val j,be,?_⟩,h5,h4⟩
   . rw[show(cT.take j).take j=cT.take j from br be]
   . rw[show ox (cT.take j) j=ox (cT.take j) (cT.take j).length by rw[Pa]];exact(qM _).symm
theorem O1{j:Nat}(hj:j<=cT.length)(hk:k<=j)(h:(cZ (cT.take j)).length<=(cZ (cT.take k)).length):j=k:=by
 by_cases c:k<j
 . exfalso;have hm:=vH cT (i:=k+1) (j:=j) c;have hs:cZ (cT.take (k+1))=cZ (cT.take k)++(cT[k]'(by omega)).bytes:=Ba be;have hb:=ow (r:=cT[k]'(by omega));rw[hs,ax]at hm;omega
 . omega
theorem AE(h:qe p cT k l)(hB:cT.length<=2500)(kk:Nat)(hk:kk<=1000000):
  ∃(q:iw) (j j0:Nat),(p.lo=none\/q.lo≠none)/\IsC (kk:Int) p q/\j<=cT.length/\k<=j/\qe q (cT.take j) j [fW (cT.take j)]/\YA kk l<=j0/\j0<FA kk l/\l[j0]? =some (fW (cT.take j))/\
   ∀(i:Nat) (w:RS),l[i]? =some w->j0<=i->i<FA kk l->(w=fW (cT.take j)↔i=j0):=by
 have Pj:=h.kle;have ahb:kk%256<=255:=by have:=Nat.mod_lt kk (show 0<256 by decide);omega
 have hll:l.length=cT.length-k+1:=by rw[h.fC,DM]
 have TE:=vH cT Pj;rw[aW]at TE;obtain⟨q,j,k1,k2,k3,k4,k5,u1,u2⟩:=WM h hB kk hk;have k6:kk%256=0->j=k:=fun h0=>O1 k3 k4 (by unfold WL at u1;rw[h0,Nat.mul_zero,Nat.zero_div,Nat.add_zero]at u1;exact u1);have k7:kk%256=255->j=cT.length:=fun h0=>by
  have:cT.length<=j:=u2 cT.length (aA _) (by unfold WL;rw[aW,h0,Nat.mul_div_cancel _ dU];omega);omega
 have hT:FA kk l<=l.length:=by unfold FA;split<;>omega
 have hjT:YA kk l<=j-k/\j-k<FA kk l:=by
  unfold YA FA;by_cases a:kk%256=0
  . have:=k6 a;rw[aG a,aI be];omega
  . rw[aI a];by_cases b:kk%256=255
    . have:=k7 b;rw[aG b];omega
    . rw[aI b];omega
 have kj:l[j-k]? =some (fW (cT.take j)):=by
  rw[h.fC,DN Pj be,show k+(j-k)=j by omega]
 obtain⟨j0,a,b1,b2,b3,b4,b5⟩:=WK (fun w=>w=fW (cT.take j)) l (FA kk l) (j-k) _ kj rfl hjT.2;refine⟨q,j,j0,k1,k2,k3,k4,k5,be,b2,by rw[b3,b4],fun i w hi h1 h2=>?_⟩;constructor
 . intro e;by_cases c:i=j0
   . exact c
   . exact absurd e (b5 i w be h2 hi)
 . rintro rfl;rw[b3]at hi;cases hi;exact b4
end
section
variable{p:iw}{cT:List ju}{k:Nat}{l:List RS}
theorem WN(h:qe p cT k l)(hB:cT.length<=3000){i:Nat}{w:RS}(hi:l[i]? =some w):k+i<=cT.length/\w=fW (cT.take (k+i))/\mw w/\w.cs.length<=cT.length:=by
 have Pj:=h.kle;have fF:i<l.length:=(aF.1 hi).1;rw[h.fC,DM]at fF;have e:w=fW (cT.take (k+i)):=by
  rw[h.fC,DN Pj be]at hi;exact(ct hi).symm
 have hv:=BU (JD h.val (k+i)) wf0 abG (by show 0+_<=1000000;rw[bg];omega);refine⟨be,e,by rw[e];exact hv.1,?_⟩;rw[e];have h2:=hv.2.2.1;have h3:(jB.cs.length)=0:=rfl;rw[h3,bg]at h2;exact bV h2 be
theorem WO(h:qe p cT k l)(hB:cT.length<=2500)(hl:l.length<=900)(x y z:Nat)(d:aa)(hy:y<=255)(hz:z<=255):
  ∃q nD k' l',cU ak 27 [P3,rI x y z d] (hL (gy p l)) 9 (.bool true) (hL (wA q l')) (nR q)/\qe q nD k' l'/\nD.length<=cT.length+18/\l'.length<=l.length+1:=by
 obtain⟨hw,hg,rJ,iD,TQ⟩:=h.all be;have h32:∀c∈(fW cT).cs,c.dg.length=32:=fun c hc=>hw.zD hc;have h5:=hw.WH;have Nq:∀c∈(fW cT).cs,c.rs.length<=100000:=fun c hc=>by have:=(hw.nm c hc).2.2;omega
 have oz:l=nO cT k++[fW cT]:=h.fC;have hpi:(nO cT k).length<=900:=by
  have:=aM List.length oz;rw[ax]at this;omega
 have PT:∀r:RR,(tO l r).length<=l.length+1:=fun r=>by
  unfold tO;split
  . rw[ax];exact aA _
  . exact Nat.le_succ _
 have hx:x%10<10:=Nat.mod_lt _ dU;rcases(by omega:x%10<=3\/(4<=x%10/\x%10<=6)\/x%10=7\/x%10=8\/x%10=9)with c|⟨c,c2⟩|c|c|c
 . have Ho:=Fz h32 y z;obtain⟨q,nD,a1,a2,a3,a4⟩:=tS h hB (d.take 60) (kD (fW cT) y z) (by rw[bg];omega) be Ho.2 (fun e0=>by
    have:(fW cT).cs.length=0:=by rw[e0];rfl
    unfold kD;rw[aI be,cE];split<;>simp)
   have:=aoQ p q _ _ x y z d c (m64 p q (nO cT k) (fW cT) x y z d hy hz be be h32 be a2);rw[<- oz]at this;exact⟨q,nD,k,_,this,a3,be,PT _⟩
 . obtain⟨q,nD,a1,a2,a3,a4⟩:=JA h hB (WE y) (tZ (fW cT) y z) (by
    unfold tZ;split
    . exact .inl rfl
    . exact .inr (Ay h32 z))
   have:=aoR p q _ _ x y z d c c2 (m65 p q (nO cT k) (fW cT) x y z d hy hz be be be a2);rw[<- oz]at this;exact⟨q,nD,k,_,this,a3,be,PT _⟩
 . obtain⟨q,a1,a2,a3⟩:=OY h;have:=aoT p q (nO cT k) x y z d (fW cT) c be a2;rw[<- oz]at this;exact⟨q,cT,cT.length,_,this,a3,be,by simp⟩
 . obtain⟨q,a2,a3,a4⟩:=zG h hB;have:=aoU p q (nO cT k) (fW cT) x y z d c be be be Nq a2;rw[<- oz]at this;exact⟨q,_,_,_,this,a3,be,by simp⟩
 . have EG:Wg y z<=1000000:=by
    unfold Wg;have:1+z%2*3<=4:=by omega
    exact bV (Nat.mul_le_mul hy this) dU
   obtain⟨q,j,j0,a1,a2,a3,a4,a5,a6,a7,a8,a9⟩:=AE h hB (Wg y z) EG;have vS:0<l.length:=by rw[oz,ax];simp
   have Pa:(cT.take j).length=j:=by rw[bg];omega
   obtain⟨Pd,hg2,Bw,_,_⟩:=a5.all be;have apt:=BW a5 be;have hsm:∀(i:Nat) (w:RS),l[i]? =some w->j0<=i->i<FA (Wg y z) l->cU ak 28 [P3,w.v] (hL (gy q l)) 9 (.bool (decide (i=j0))) (hL (gy q l)) 9:=by
    intro i w hi h1 h2;obtain⟨b1,b2,b3,b4⟩:=WN h be hi;have JB:(fW (cT.take j)).cs.length=w.cs.length->w.cs=(fW (cT.take j)).cs:=fun e=>by
     rw[b2]at e ⊢;exact WJ e
    have:=m28 q l w apt JB (by rw[aY];have:=Pd.WH;omega) be (fun c hc=>by have:=(b3.nm c hc).2.2;omega);rw[JC Pd hg2 JB (i=j0) (a9 i w hi h1 h2)]at this;exact this
   exact⟨q,cT.take j,j,_,aoS p q _ _ x y z d c hy (c67 p q l _ EG be vS j0 _ ⟨a6,a7⟩ a8 a2 hsm),a5,be,by simp⟩
end
theorem cU.abR{f:FuncId}{a b:V}{h h1:Tr O}{n n1:Nat}{v:V}(c:cU ak f [a,b,.dO false 0 []] h n v h1 n1):cU ak f [a,b,eI] h n v h1 n1:=by
 intro E w c9 ra g hd;obtain⟨a',_,ha,⟨b',_,hb,⟨x',_,hx,hn,rfl⟩,rfl⟩,rfl⟩:=ra;obtain⟨_,_,rfl⟩:0=0/\0=0/\x'= .slice none 0 0:=hx;exact c E w _ ⟨a',_,ha,⟨b',_,hb,⟨_,_,⟨⟨none,0,[],rfl,aA _,rfl,fun _=>rfl,fun h=>absurd h (cF _)⟩,fun _=>⟨none,rfl⟩⟩,hn,rfl⟩,rfl⟩,rfl⟩ g hd
section
variable{p:iw}{cT:List ju}{k:Nat}{l:List RS}
theorem qe.last{s:RS}(h:qe p cT k (l++[s])):fW cT=s:=by
 have:=(List.append_inj' h.fC rfl).2;cases this;rfl
theorem qe.log(h:qe p cT k l)(fN:fW cT≠jB):∃q n j b,p=pc q n j b:=by
 rcases h.LO with⟨e,_⟩|⟨cP,_,_,e⟩
 . subst e;exact absurd rfl fN
 . exact⟨_,_,_,_,e⟩
end
noncomputable abbrev TV(k:Nat):Code:=dK (de k UY)
theorem y_1:c6 A9 [] 3 Tryz.f13 [1] (eR 2 UY) (cS [] (D0 gS gR) 3) [([],[],.to .normal (eF [(1,P3)] (hL [(0,.ints .u32 gS),(1,.ints .u32 gR),(3,.cells [.dj none 0 0 0,.int .i64 0,.map (some 4),.map (some 5),.int .i64 0,.bool false,.bool false,.int .i64 0]),(4,.map [] 0),(5,.map [] 0)]) 6))]:=
 cQ.of U U U
section
variable(p q:iw)(n k m j:Nat)(b u:aa)(a:aa)
theorem y_2:c6 (fD A9 15 [P3,.str [120],eI] (Re 0 0 0 [] []) 6 (.ew [.str a,qJ],hL (Ex 6 7 8 (pc q m j u)),9)) [] 3 Tryz.f13 [1,2,3] (TV 2) (eF [(1,P3)] (Re 0 0 0 [] []) 6) [([],[fo [P3,.str [120],eI] (Re 0 0 0 [] []) 6],.to .normal (Fj [(2,.str a),(3,qJ)] (pc q m j u)))]:=
 cQ.of U U U
theorem y_3(d:aa):c6 (fD A9 15 [P3,.str [121],.dj (some (7,0)) 1 1 1] (hL (eO (pc p n k b)++[(7,.cells [.str a])])) 8 (.ew [.str d,qJ],hL (Ex 8 9 10 (pc q m j u)),11)) [] 3 Tryz.f13 [1,3,4,5] (TV 3) (Fj [(2,.str a),(3,qJ)] (pc p n k b)) [([],[fo [P3,.str [121],.dj (some (7,0)) 1 1 1] (hL (eO (pc p n k b)++[(7,.cells [.str a])])) 8],.to .normal (Fj [(3,qJ),(4,.str d),(5,qJ)] (pc q m j u)))]:=
 cQ.of U U U
theorem y_4:c6 (fD A9 16 [P3,.str [114],.str a] (eu (pc p n k b)) 7 (qJ,hL (stR (pc q m j u)),10)) [] 3 Tryz.f13 [1,3,5,6] (TV 4) (Fj [(3,qJ),(4,.str a),(5,qJ)] (pc p n k b)) [([],[fo [P3,.str [114],.str a] (eu (pc p n k b)) 7],.to .normal (Fj [(3,qJ),(5,qJ),(6,qJ)] (pc q m j u)))]:=
 cQ.of U U U
theorem y_5:c6 (fD A9 15 [P3,.str [122],eI] (eu (pc p n k b)) 7 (.ew [.str a,qJ],hL (stR (pc q m j u)),10)) [] 3 Tryz.f13 [1,3,5,6,8] (TV 5) (Fj [(3,qJ),(5,qJ),(6,qJ)] (pc p n k b)) [([],[fo [P3,.str [122],eI] (eu (pc p n k b)) 7],.to .normal (Fj [(3,qJ),(5,qJ),(6,qJ),(8,qJ)] (pc q m j u)))]:=
 cQ.of U U U
noncomputable abbrev csY(v:V):fb:=fD A9 20 [P3] (eu (pc p n k b)) 7 (v,eu (pc p n k b),7)
abbrev frY:List (Nat×V):=[(3,qJ),(5,qJ),(6,qJ),(8,qJ)]
theorem y_6:c6 (csY p n k b (.int .i64 3)) [] 3 Tryz.f13 [1,3,5,6,8,9] (TV 6) (Fj frY (pc p n k b)) [([],[fo [P3] (eu (pc p n k b)) 7],.to .normal (Fj (frY++[(9,.int .i64 3)]) (pc p n k b)))]:=
 cQ.of U U U
theorem y_7:c6 (fD A9 19 [P3] (eu (pc p n k b)) 7 (qJ,hL (stR (pc q m j u)),10)) [] 3 Tryz.f13 [1,3,5,6,8,9,10] (TV 7) (Fj (frY++[(9,.int .i64 3)]) (pc p n k b)) [([],[fo [P3] (eu (pc p n k b)) 7],.to .normal (Fj (frY++[(9,.int .i64 3),(10,qJ)]) (pc q m j u)))]:=
 cQ.of U U U
abbrev YG:List (Nat×V):=frY++[(9,.int .i64 3),(10,qJ),(11,.int .i64 2)]
theorem y_8:c6 (csY p n k b (.int .i64 2)) [] 3 Tryz.f13 [1,3,5,6,8,9,10,11] (TV 8) (Fj (frY++[(9,.int .i64 3),(10,qJ)]) (pc p n k b)) [([],[fo [P3] (eu (pc p n k b)) 7],.to .normal (Fj YG (pc p n k b)))]:=
 cQ.of U U U
theorem y_9:c6 (fD A9 15 [P3,.str [119],eI] (eu (pc p n k b)) 7 (.ew [.str a,qJ],hL (stR (pc q m j u)),10)) [] 3 Tryz.f13 [1,3,5,6,8,9,10,11,13] (TV 9) (Fj YG (pc p n k b)) [([],[fo [P3,.str [119],eI] (eu (pc p n k b)) 7],.to .normal (Fj (YG++[(13,qJ)]) (pc q m j u)))]:=
 cQ.of U U U
theorem apv:c6 (fD A9 31 [P3,.dj (some (7,0)) 1 1 1] (hL (eO (pc p n k b)++[(7,.cells [.int .i64 0])])) 8 (.ew [],hL (crR (pc q m j u)),11)) [] 3 Tryz.f13 [1,3,5,6,8,9,10,11,13] (TV 10) (Fj (YG++[(13,qJ)]) (pc p n k b)) [([],[fo [P3,.dj (some (7,0)) 1 1 1] (hL (eO (pc p n k b)++[(7,.cells [.int .i64 0])])) 8],.to .normal (Fj (YG++[(13,qJ)]) (pc q m j u)))]:=
 cQ.of U U U
theorem apw:c6 (fD A9 15 [P3,.str [119],.dj (some (7,0)) 1 1 1] (hL (eO (pc p n k b)++[(7,.cells [.str (Ej [113])])])) 8 (.ew [.str [],.int .i64 63],hL (Ex 8 9 10 (pc q m j u)),11)) [] 3 Tryz.f13 [1,3,5,6,8,9,10,11,13,15] (TV 11) (Fj (YG++[(13,qJ)]) (pc p n k b)) [([],[gS=gS,gR=gR,1<=1000000000,fo [P3,.str [119],.dj (some (7,0)) 1 1 1] (hL (eO (pc p n k b)++[(7,.cells [.str (Ej [113])])])) 8],.to .normal (Fj (YG++[(13,qJ),(15,.int .i64 63)]) (pc q m j u)))]:=
 cQ.of U U U
theorem apx:c6 (csY p n k b (.int .i64 2)) [] 3 Tryz.f13 [] (de 12 UY) (Fj (YG++[(13,qJ),(15,.int .i64 63)]) (pc p n k b)) [([],[fo [P3] (eu (pc p n k b)) 7],.ret (.bool true) (hL [(0,.ints .u32 gS),(1,.ints .u32 gR)]) 3)]:=
 cQ.of U U U
end
abbrev s1R:RS:=⟨[⟨dA,[120],[]⟩],[]⟩
abbrev s2R:RS:=⟨[⟨dA,[120],[]⟩,⟨dB,[121],[dA]⟩],[]⟩
abbrev WQ:RS:=⟨[⟨dA,[120],[]⟩,⟨dB,[121],[dA]⟩],[([114],dB)]⟩
abbrev s4R:RS:=⟨[⟨dA,[120],[]⟩,⟨dB,[121],[dA]⟩,⟨dZ,[122],[]⟩],[([114],dB)]⟩
abbrev s6R:RS:=⟨[⟨dA,[120],[]⟩,⟨dB,[121],[dA]⟩,⟨dW,[119],[]⟩],[([114],dB)]⟩
theorem ahd:jv jB [120] []=⟨s1R,dA,0,true⟩:=by unfold jv;rw[aeG];kernel_rfl
theorem ahe:jv s1R [121] [dA]=⟨s2R,dB,0,true⟩:=by unfold jv;rw[Ye];kernel_rfl
theorem ahf:oT s2R [114] dB=⟨WQ,[],0,true⟩:=by kernel_rfl
theorem ahg:jv WQ [122] []=⟨s4R,dZ,0,true⟩:=by unfold jv;rw[aeH];kernel_rfl
theorem ahh:eS s4R=WQ:=by kernel_rfl
theorem ahi:jv WQ [119] []=⟨s6R,dW,0,true⟩:=by unfold jv;rw[aeI];kernel_rfl
theorem ahj:jv WQ [119] [Ej [113]]=⟨WQ,[],63,false⟩:=by rw[Yf];unfold jv;kernel_rfl
section
variable{p:iw}{cT:List ju}{k:Nat}{l:List RS}{s:RS}
theorem qe.to(h:qe p cT k (l++[s]))(hs:0<s.cs.length):fW cT=s/\∃q n j b,p=pc q n j b:=
 ⟨h.last,h.log fun z=>by rw[<- h.last,z]at hs;exact absurd hs (cF 0)⟩
theorem qe.yN(h:qe p cT k l)(hB:cT.length<=3000)(e:fW cT=s):cU ak 20 [P3] (eu p) 7 (.int .i64 (Int.ofNat s.cs.length)) (eu p) 7:=e▸(BW h hB).h20
theorem Nf{q:iw}{n k m j:Nat}{b u d a x:aa}{z:Int}(c:zA 15 [.str d,pH [a]] (pc p n k b) (.ew [.str x,.int .i64 z]) (pc q m j u)):
  cU ak 15 [P3,.str d,.dj (some (7,0)) 1 1 1] (hL (eO (pc p n k b)++[(7,.cells [.str a])])) 8 (.ew [.str x,.int .i64 z]) (hL (Ex 8 9 10 (pc q m j u))) 11:=by
 have e:cU ak 15 [P3,.str d,pH [a]] (hL (eO (pc p n k b))) 8 (.ew [.str x,.int .i64 z]) (hL (Ex 8 9 10 (pc q m j u))) 11:=x4 (ns:=ns7) (l1:=eO (pc p n k b)) c 8 U;refine cU.frz (ms:=[7]) (A:=[[D.str a].length=1*1]) (q8:=[P3,.str d,pH [a]]) (h2:=((hL (eO (pc p n k b))).set 7 (some (.cells [.str a]))).set 7 none) U U (eU rfl) (cU.ext (fun i=>?_) (fun _=>rfl) e);by_cases hi:i=7
 . subst hi;rw[Tr.nc _ _ dU];rfl
 . rw[Tr.ql _ _ dU hi,Tr.ql _ _ dU hi]
end
theorem apy:TG ak 3 Tryz.f13.ntmps UY (cS [] (D0 gS gR) 3) (fG ak 3 Tryz.f13 fun u _ _=>u= .bool true):=by
 refine iL  2 XT y_1 cR ?_;refine Ak [(4,none),(5,none)] (s2:=eF [(1,P3)] (Re 0 0 0 [] []) 6) U ?_;obtain⟨p,r1,_,c,h1,n1⟩:=tS ag9 dU [120] [] dU dU (fun x hx=>by cases hx) (fun _=>aZ _);rw[show fW []=jB from rfl,ahd]at c h1;have n1:r1.length<=1:=n1;obtain⟨e,p,n,k,b,rfl⟩:=qe.to (l:=[jB]) h1 dU;refine cV U ?_;have c0:cU ak 15 [P3,.str [120],eI] (Re 0 0 0 [] []) 6 (.ew [.str dA,qJ]) (hL (Ex 6 7 8 (pc p n k b))) 9:=
  x4 (ns:=[some 0,some 1,some 2,some 3,none,some 4,some 5]) (l1:=eO (sZ 0 0 0)) (cU.abR c) 6 U
 refine fZ (XT.jy DC c0) (y_2 p n k b dA) (dG ?_);refine⟨eU ⟨rfl,rfl,rfl⟩,fun s' dL=>c5 dL ?_⟩;obtain⟨q,r2,_,c,h2,n2⟩:=tS h1 be [121] [dA] dU dU (fun x hx=>by rw[aq]at hx;subst hx;rfl) (fun _=>aA _);rw[e,ahe]at c h2;obtain⟨e2,q,m,j,u,rfl⟩:=qe.to (l:=[jB,s1R]) h2 dU;refine cV U ?_;refine fZ (XT.jy DC (Nf c)) (y_3 p q n k m j b u dA dB) (dG ?_);refine⟨eU ⟨rfl,rfl,rfl⟩,fun s' dL=>c5 dL ?_⟩;clear c0 c h1;obtain⟨p,r3,_,c,h3,n3⟩:=JA h2 be (nm:=[114]) ⟨114,rfl,dU,dU⟩ dB (.inr rfl);rw[e2,ahf]at c h3;obtain⟨e3,p,n,k,b,rfl⟩:=qe.to (l:=[jB,s1R,s2R]) h3 dU;refine cV U ?_;refine fZ (XT.jy Yl c) (y_4 q p m j n k u b dB) (dG ?_);refine⟨eU ⟨rfl,rfl,rfl⟩,fun s' dL=>c5 dL ?_⟩;obtain⟨q,r4,_,c,h4,n4⟩:=tS h3 be [122] [] dU dU (fun x hx=>by cases hx) (fun _=>aZ _);rw[e3,ahg]at c h4;obtain⟨e4,q,m,j,u,rfl⟩:=qe.to (l:=[jB,s1R,s2R,WQ]) h4 dU;refine cV U ?_;refine fZ (XT.jy DC (cU.abR c)) (y_5 p q n k m j b u dZ) (dG ?_);refine⟨eU ⟨rfl,rfl,rfl⟩,fun s' dL=>c5 dL ?_⟩;refine cV U ?_;refine fZ (XT.jy Ji (h4.yN be e4)) (y_6 q m j u) (dG ?_);refine⟨eU ⟨rfl,rfl,rfl⟩,fun s' dL=>c5 dL ?_⟩;obtain⟨p,c,h5,n5⟩:=zG h4 be;rw[e4,ahh]at h5 n5;obtain⟨e5,p,n,k,b,rfl⟩:=qe.to (l:=[]) h5 dU;refine cV U ?_;refine fZ (XT.jy M6 c) (y_7 q p m j n k u b) (dG ?_);refine⟨eU ⟨rfl,rfl,rfl⟩,fun s' dL=>c5 dL ?_⟩;refine cV U ?_;refine fZ (XT.jy Ji (h5.yN be e5)) (y_8 p n k b) (dG ?_);refine⟨eU ⟨rfl,rfl,rfl⟩,fun s' dL=>c5 dL ?_⟩;obtain⟨q,r6,_,c,h6,n6⟩:=tS h5 be [119] [] dU dU (fun x hx=>by cases hx) (fun _=>aZ _);rw[e5,ahi]at c h6;obtain⟨e6,q,m,j,u,rfl⟩:=qe.to (l:=[WQ]) h6 dU;refine cV U ?_;refine fZ (XT.jy DC (cU.abR c)) (y_9 p q n k m j b u dW) (dG ?_);refine⟨eU ⟨rfl,rfl,rfl⟩,fun s' dL=>c5 dL ?_⟩;obtain⟨p,i,j0,_,c,i1,i2,h7,i3,i4,i5,_⟩:=AE h6 be 0 dU;obtain rfl:j0=0:=Nat.lt_one_iff.1 i4;have i5:some WQ=some (fW (r6.take i)):=i5;rw[<- ct i5]at h7;obtain⟨e7,p,n,k,b,rfl⟩:=qe.to (l:=[]) h7 dU;refine cV U ?_;refine fZ (XT.jy SS c) (apv q p m j n k u b) (dG ?_);refine⟨eU ⟨rfl,rfl,rfl⟩,fun s' dL=>c5 dL ?_⟩;have h32:(Ej [113]).length=32:=by rw[Yf];rfl
 have n7:(r6.take i).length<=2400:=by rw[bg];omega
 obtain⟨q,r8,_,c,h8,n8⟩:=tS h7 be [119] [Ej [113]] dU dU (fun x hx=>by rw[aq]at hx;subst hx;exact h32) (fun _=>aA _);rw[e7,ahj]at c h8;obtain⟨e8,q,m,j,u,rfl⟩:=qe.to (l:=[]) h8 dU;refine cV U ?_;refine fZ (XT.jy DC (Nf c)) (apw p q n k m j b u) (dG ?_);refine⟨fm rfl (fm rfl (fm dU (eU ⟨rfl,rfl,rfl⟩))),fun s' dL=>c5 dL ?_⟩;refine fB (XT.jy Ji (h8.yN be e8)) (apx q m j u) (dG ?_);exact⟨eU ⟨rfl,rfl,rfl⟩,_,_,_,rfl,rfl⟩
def LQ:ai->Option (ah×V)
 | []=>some ([],.bool true)
 |_=>none
theorem abS:jL ak 13 (tW LQ):=by
 refine QY (au U) fun args A v e hA=>?_;unfold LQ at e;split at e
 . obtain⟨rfl,rfl⟩:=fc e;exact xI Tryz.func13 U U rfl rfl (ff apy fun y s h=>kg h)
 . cases e
noncomputable abbrev W29:jQ:=kB 13 (tW LQ) W28
theorem abT:gd ak W29:=fk abS SI
noncomputable abbrev apz:fb:=gI ak W29 H0 1000 40
noncomputable abbrev X29:CX ak:=CX.of mo po abT H0 1000 40
structure AF where
 x:Nat
 y:Nat
 z:Nat
 d:aa
 hx:x<=255
 hy:y<=255
 hz:z<=255
section
variable(l:List AF)(o:AF)
def AF.c:ai:=[.int .u8 (o.x:Int),.int .u8 (o.y:Int),.int .u8 (o.z:Int),.str o.d]
def AF.v:V:=rI o.x o.y o.z o.d
def DR:ai:=(l.map AF.c).flatten
theorem Tj:(DR l).length=l.length*4:=sw (f:=AF.c) (w:=4) (fun _=>rfl) l
theorem WR(i:Nat)(h:i<l.length):dx (DR l) (i*4) 4=l[i].c:=vA (f:=AF.c) (w:=4) (fun _=>rfl) l i h
abbrev DS:V:=.dO false l.length (DR l)
end
theorem Tk{n0:Nat}{s s2:St}(l:List (Nat×Option IntKind))(e:QH l s=some s2):Step n0 s s2:=by
 unfold QH at e;split at e
 case h_2=>cases e
 rename_i h2 hh;obtain rfl:=eo e;exact Step.mem fun E w g=>Aj l s.h h2 hh g
theorem WS:cU ak 26 [] (D0 gS gR) 3 P3 (hL (moG 0 5 6 7 (sZ 0 0 0) [jB])) 8:=by
 have key:cU ak 26 [] (D0 gS gR) 3 P3 (hL [(0,.ints .u32 gS),(1,.ints .u32 gR),(3,.cells [.ptr (some (4,0)),.dj (some (7,0)) 1 1 2]),(4,.cells [.dj none 0 0 0,.int .i64 0,.map (some 5),.map (some 6),.int .i64 0,.bool false,.bool false,.int .i64 0]),(5,.map [] 0),(6,.map [] 0),(7,.cells [.dj none 0 0 0,.dj none 0 0 0])]) 8:=by
  refine c7 Tryz.func26 (code:=dP Tryz.f26) U U ?_;refine fB X27 aoz (dG ?_);exact⟨cR,_,_,_,rfl,rfl,rfl,rfl⟩
 exact key.step ((Tk [(5,none),(6,none)] rfl).trans (.deep [7] U))
noncomputable abbrev LR:Code:=dP Tryz.f30
noncomputable abbrev abU:Code:=dK (de 1 LR)
noncomputable abbrev Tl:Code:=dw (dw (ee abU))
noncomputable abbrev ahk:Code:=dw (dK (ee Tl))
section
variable(p:iw)(ops:List AF)(l:List RS)(r:List (Nat×V))(i:Nat)
def lL:af:=moA 5 p l
def sL:St:=eF ([(0,DS ops),(3,.bool true),(4,P3)]++r) (hL (lL p l)) (8+sh p)
def sY1:St:=eF [(0,P3),(1,DS ops),(4,.bool false)] (hL (gy p l)) 9
def D5:St:=eF ([(0,P3),(1,DS ops),(4,.bool false)]++r) (hL (wA p l)) (12+sh p)
theorem apB:c6 gu [] 9 Tryz.f30 [0,1,4] (eR 1 LR) (cS [P3,DS ops] (hL (gy p l)) 9) [([],
   [],
   .to .normal (sY1 p ops l))]
 :=by rcases p with⟨_|⟨_,_,_⟩,_⟩<;>exact cQ.of U U U
theorem apC:c6 gu [] 9 Tryz.f30 [0,1,4,5] (dK abU) (D5 p ops l []) [([],
   [],
   .to .normal (D5 p ops l [(5,iW 0)]))]
 :=by rcases p with⟨_|⟨_,_,_⟩,_⟩<;>exact cQ.of U U U
theorem apD:c6 gu [(9,.split),(12,.split)] 9 Tryz.f30 [0,1,4,5] (dK Tl) (D5 p ops l [(5,iW i)]) [([((decide (Int.ofNat i<(Int.ofNat ops.length))),true),((decide (Int.ofNat i<(40:Int))),true)],
   [],
   .to .normal (D5 p ops l [(5,iW i)])),
  ([((decide (Int.ofNat i<(Int.ofNat ops.length))),true),((decide (Int.ofNat i<(40:Int))),false)],
   [],
   .to (.exit 0) (D5 p ops l [(5,iW i)])),
  ([((decide (Int.ofNat i<(Int.ofNat ops.length))),false)],
   [],
   .to (.exit 0) (D5 p ops l [(5,iW i)]))]
 :=by rcases p with⟨_|⟨_,_,_⟩,_⟩<;>exact cQ.of U U U
theorem apE(q:iw)(ops:List AF)(l l1:List RS)(i:Nat)(o:AF):c6 (fD gu 27 [P3,o.v] (hL (wA p l)) (12+sh p) (.bool true,hL (moA (12+sh p) q l1),(15+sh p+sh q))) [(19,.dc (.dm o.c))] 9 Tryz.f30 [0,1,4,5] (ahk) (D5 p ops l [(5,iW i)]) [([],
   [((0:Int)<=Int.ofNat i/\Int.ofNat i<(Int.ofNat ops.length)),((DR ops).length=ops.length*4),(V.dm (dx (DR ops) (i*4) 4)=V.dm o.c),fo [P3,o.v] (hL (wA p l)) (12+sh p)],
   .to .normal (D5 q ops l1 [(5,iW i)]))]
 :=by rcases p with⟨_|⟨_,_,_⟩,_⟩<;>rcases q with⟨_|⟨_,_,_⟩,_⟩<;>exact cQ.of U U U
theorem apF:c6 gu [(15,.dc (iW (i+1)))] 9 Tryz.f30 [0,1,4,5] (ee (ee Tl)) (D5 p ops l [(5,iW i)]) [([],
   [(V.int aj (IntKind.i64.wrap (Int.ofNat i+(1:Int)))=iW (i+1))],
   .to .normal (D5 p ops l [(5,iW (i+1))]))]
 :=by rcases p with⟨_|⟨_,_,_⟩,_⟩<;>exact cQ.of U U U
theorem apG:c6 gu [] 9 Tryz.f30 [] (de 2 LR) (D5 p ops l [(5,iW i)]) [([],
   [],
   .ret (.bool true) (hL (wA p l)) (nR p))]
 :=by rcases p with⟨_|⟨_,_,_⟩,_⟩<;>exact cQ.of U U U
end
theorem ahl:26<Tryz.prog.funcs.size:=au U
theorem ahm:27<Tryz.prog.funcs.size:=au U
section
variable(p:iw)(ops:List AF)(l:List RS)(i:Nat){Q':Exit->St->Prop}
theorem ahn{ops:List AF}{i:Nat}{o:AF}(h:ops[i]? =some o):((0:Int)<=Int.ofNat i/\Int.ofNat i<(Int.ofNat ops.length))/\(DR ops).length=ops.length*4/\V.dm (dx (DR ops) (i*4) 4)=V.dm o.c:=by
 obtain⟨h1,h2⟩:=aF.1 h;refine⟨⟨az _,dh⟩,Tj ops,?_⟩;rw[<- h2];exact aM V.dm (WR ops i h1)
theorem abV(q:iw)(ops:List AF)(l l1:List RS)(i:Nat)(o:AF)(hi:ops[i]? =some o)(hd:cU ak 27 [P3,o.v] (hL (gy p l)) 9 (.bool true) (hL (wA q l1)) (nR q)){Q':Exit->St->Prop}
  (hn:∀s',gC ak 9 Tryz.f30.ntmps s' (D5 q ops l1 [(5,iW i)])->Q' .normal s'):TG ak 9 Tryz.f30.ntmps ahk (D5 p ops l [(5,iW i)]) Q':=by
 obtain⟨a1,a2,a3⟩:=ahn hi;have k27:cU ak 27 [P3,o.v] (hL (wA p l)) (12+sh p) (.bool true) (hL (moA (12+sh p) q l1)) (15+sh p+sh q):=
  x4 (ns:=nsA 9 p) hd (12+sh p) (by rcases p with⟨_|⟨_,_,_⟩,_⟩<;>rcases q with⟨_|⟨_,_,_⟩,_⟩<;>kernel_rfl)
 refine fZ (k9.jy ahm k27) (apE p q ops l l1 i o) (dG ?_);exact⟨fm a1 (fm a2 (fm a3 (eU ⟨rfl,rfl,rfl⟩))),fun s' dL=>hn s' (.norm dL)⟩
theorem Tm(h1:i<ops.length->i<40->∀s',gC ak 9 Tryz.f30.ntmps s' (D5 p ops l [(5,iW i)])->Q' .normal s')(h2:¬(i<ops.length/\i<40)->∀s',gC ak 9 Tryz.f30.ntmps s' (D5 p ops l [(5,iW i)])->Q' (.exit 0) s'):
  TG ak 9 Tryz.f30.ntmps (dK Tl) (D5 p ops l [(5,iW i)]) Q':=by
 refine fZ k9 (apD p ops l i) fun g hg hc=>?_;rcases xP hg with rfl|rfl|rfl
 . have c1:=aH (hc _ (aP ..));have c2:=aH (hc _ (aJ _ (aq.2 rfl)));exact⟨cR,fun s' dL=>h1 (by rw[kU,kU]at c1;omega) (by rw[kU]at c2;omega) s' (.norm dL)⟩
 . have c2:=aK (hc _ (aJ _ (aq.2 rfl)));exact⟨cR,fun s' dL=>h2 (by rw[kU]at c2;omega) s' (.norm dL)⟩
 . have c1:=aK (hc _ (aq.2 rfl));exact⟨cR,fun s' dL=>h2 (by rw[kU,kU]at c1;omega) s' (.norm dL)⟩
theorem abW(hi:i<=40){Q':Exit->St->Prop}(h:∀s',gC ak 9 Tryz.f30.ntmps s' (D5 p ops l [(5,iW (i+1))])->Q' .normal s'):TG ak 9 Tryz.f30.ntmps (ee (ee Tl)) (D5 p ops l [(5,iW i)]) Q':=by
 refine fZ k9 (apF p ops l i) fun g hg hc=>?_;obtain rfl:=ae0 hg;exact⟨eU (pA dh be),fun s' dL=>h s' (.norm dL)⟩
theorem abX:TG ak 9 Tryz.f30.ntmps (de 2 LR) (D5 p ops l [(5,iW i)]) (fG ak 9 Tryz.f30 fun u h n9=>u= .bool true/\h=hL (wA p l)/\n9=nR p):=by
 refine fB k9 (apG p ops l i) (dG ?_);exact⟨cR,_,_,_,rfl,rfl,rfl,rfl⟩
theorem abY(h:∀s',gC ak 9 Tryz.f30.ntmps s' (D5 p ops l [(5,iW 0)])->TG ak 9 Tryz.f30.ntmps (ee abU) s' (andThen (fun s'=>TG ak 9 Tryz.f30.ntmps (de 2 LR) s' Q') Q')):
  TG ak 9 Tryz.f30.ntmps LR (cS [P3,DS ops] (hL (gy p l)) 9) Q':=by
 refine iL  1 k9 (apB p ops l) cR ?_;refine MZ (Step.Ew (s2:=D5 p ops l []) 5 (live:=[0,1,4]) (by rcases p with⟨_|⟨_,_,_⟩,_⟩<;>kernel_rfl)) ?_;refine cV U ?_;refine cV U ?_;refine fZ k9 (apC p ops l) (dG ?_);exact⟨cR,fun s' dL=>h s' (.norm dL)⟩
def O2(a:iw×List RS×Nat):Prop:=a.2.2<=40/\∃cT k,qe a.1 cT k a.2.1/\cT.length<=18*a.2.2/\a.2.1.length<=a.2.2+1
theorem iv0:O2 (sZ 0 0 0,[jB],0):=⟨aZ _,[],0,ag9,aZ _,aA _⟩
theorem WT{p:iw}{l:List RS}{i:Nat}(h:O2 (p,l,i))(hi:i<40)(o:AF):∃q l',cU ak 27 [P3,o.v] (hL (gy p l)) 9 (.bool true) (hL (wA q l')) (nR q)/\O2 (q,l',i+1):=by
 obtain⟨_,cT,k,hs,h1,h2⟩:=h;have hs:qe p cT k l:=hs;have h1:cT.length<=18*i:=h1;have h2:l.length<=i+1:=h2;obtain⟨q,nD,k',l',a1,a2,a3,a4⟩:=WO hs be be o.x o.y o.z o.d o.hy o.hz;exact⟨q,l',a1,hi,nD,k',a2,by show nD.length<=18*(i+1);omega,by show l'.length<=i+1+1;omega⟩
def LU(a b:iw×List RS):Prop:=∀o,ops[i]? =some o->cU ak 27 [P3,o.v] (hL (gy a.1 a.2)) 9 (.bool true) (hL (wA b.1 b.2)) (nR b.1)/\O2 (b.1,b.2,i+1)
end
open Classical in
noncomputable def Tn(ops:List AF)(i:Nat)(a:iw×List RS):iw×List RS:=if h:∃b,LU ops i a b then Classical.choose h else a
theorem Ng{ops:List AF}{i:Nat}{a:iw×List RS}(h:O2 (a.1,a.2,i))(hi:i<40):LU ops i a (Tn ops i a):=by
 have Uw:∃b,LU ops i a b:=by
  cases ho:ops[i]? with
  |none=>exact⟨a,fun o h=>by rw[ho]at h;cases h⟩
  |some o=>
   obtain⟨q,l',a1,a2⟩:=WT h hi o;exact⟨(q,l'),fun o' h=>by rw[ho]at h;cases h;exact⟨a1,a2⟩⟩
 unfold Tn;rw[dif_pos Uw];exact Classical.choose_spec Uw
noncomputable def JE(ops:List AF)(a:iw×List RS):Nat->iw×List RS
 |0=>a
 |i+1=>Tn ops i (JE ops a i)
theorem Hg{ops:List AF}{a:iw×List RS}(h:O2 (a.1,a.2,0)):∀i,i<=40->i<=ops.length->O2 ((JE ops a i).1,(JE ops a i).2,i)
 |0,_,_=>h
 |i+1,h1,h2=>(Ng (Hg h i be be) be _ (ay be)).2
noncomputable def FJ(ops:List AF)(a:iw×List RS):iw×List RS:=JE ops a (min ops.length 40)
theorem aho{p:iw}{l:List RS}{i:Nat}(h:O2 (p,l,i))(hi:i<=40):O2 (p,l,40):=by
 obtain⟨_,cT,k,hs,h1,h2⟩:=h;have h1:cT.length<=18*i:=h1;have h2:l.length<=i+1:=h2;exact⟨aA _,cT,k,hs,by show cT.length<=18*40;omega,by show l.length<=40+1;omega⟩
theorem WU{ops:List AF}{a:iw×List RS}(h:O2 (a.1,a.2,0)):O2 ((FJ ops a).1,(FJ ops a).2,40):=
 aho (Hg h _ (Nat.min_le_right ..) (Nat.min_le_left ..)) (Nat.min_le_right ..)
theorem WV(p:iw)(l:List RS)(ops:List AF)(hI:O2 (p,l,0)):cU ak 30 [P3,DS ops] (hL (gy p l)) 9 (.bool true) (hL (wA (FJ ops (p,l)).1 (FJ ops (p,l)).2)) (nR (FJ ops (p,l)).1):=by
 refine c7 Tryz.func30 (code:=LR) U U ?_;refine abY p ops l fun s' dL=>?_;refine jq 0 (min ops.length 40) (fun i=>D5 (JE ops (p,l) i).1 ops (JE ops (p,l) i).2 [(5,iW i)]) U U dL (fun i hi=>?_) ?_
 . have h1:i<ops.length:=by omega
   have h2:i<40:=by omega
   have hiv:=Hg (ops:=ops) (a:=(p,l)) hI i be be;have Bm:=Ng (ops:=ops) hiv h2;refine cV U ?_;refine Tm _ ops _ i (fun _ _ s1 fS=>fS _ _ ?_) (fun hn _ _=>absurd ⟨h1,h2⟩ hn);refine cV U ?_;refine fg (i:=1) U ?_;have ho:ops[i]? =some ops[i]:=ay h1;refine abV _ (JE ops (p,l) (i+1)).1 ops _ (JE ops (p,l) (i+1)).2 i ops[i] ho (Bm _ ho).1 fun s2 jg=>?_;show TG _ _ _ _ _ _;exact jg _ _ (abW _ ops _ i be fun s3 x9=>x9)
 . refine cV U ?_;refine Tm _ ops _ _ (fun h1 h2 _ _=>by omega) (fun _ s1 fS=>⟨by simp,?_⟩);simp only[dX,andThen];exact fS _ _ (abX _ ops _ _)
end Go.Proofs.YtfihojpgobmmdaaGreatDoor
