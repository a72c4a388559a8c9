/- The Chunk laws: the store's methods, each to a store afresh: Compact, Crash; what a store tells. No conditions. -/
import Derived.Test.YtfihojpgobmmdaaGreatDoorJointW21
import Derived.Test.YtfihojpgobmmdaaGreatDoorJointW17
set_option linter.unusedVariables false
set_option linter.unusedSimpArgs false
set_option linter.unusedSectionVars false
set_option maxRecDepth 20000
namespace Go.Proofs.YtfihojpgobmmdaaGreatDoor
open Go Go.Eng
section
variable(fl nx lf:Int)
theorem WL:cU ak 81 [.fn (.yield 12) [] [],P 9] (Pj fl nx lf) 13 (.ef []) (Pj fl nx lf) 13:=by
 refine fU.is (gF mo po Tryz.func81 (code:=Em) U U ?_);rw[aeY];refine zf (v0:=.map (some 8)) (kg:=(cT [.fn (.yield 12) [] [],P 9] (Pj fl nx lf) 13).fr.set 4 (some (.map (some 8)))) (zS:=((cT [.fn (.yield 12) [] [],P 9] (Pj fl nx lf) 13).fr.set 4 (some (.map (some 8)))).set 5 (some (P 13))) (m:=8) (kd:=none) (es:=[]) mo MM
  U U U U (au rfl) U (fun _ s1=>eX 14 [0,5] s1=some (WD fl nx lf)) U ?_
 rintro iD left s1 hs hp;have hz:iD=[]/\left=[]:=List.append_eq_nil_iff.1 hp.eq_nil;obtain⟨rfl,rfl⟩:=hz;refine⟨[0,5],_,hs,U,fun _=>?_,fun e ko he2=>?_⟩
 . exact⟨(WD fl nx lf).fr.set 6 (some (.ef [.bool false])),{ WD fl nx lf with fr:=((WD fl nx lf).fr.set 6 (some (.ef [.bool false]))).set 7 (some (.bool false)) },U,U,U,.inl rfl,.ef [],Pj fl nx lf,13,U,rfl,rfl,rfl⟩
 . have:=he2.length_eq;simp at this
theorem To:cU ak 100 [eI,g81] (sL fl nx lf) 10 eI (sL fl nx lf) 10:=by
 refine c5 Tryz.func100 (code:=RA) U U ?_;refine iO  1 (XQ []) (apr fl nx lf) cR ?_;refine cV U ?_;refine cV U ?_;refine fR (XQ []) (aps fl nx lf) (dG ?_);refine⟨cR,fun s' dL=>c6 dL ?_⟩;refine fg (i:=0) U ?_;refine oh (gf:=81) (lb:=[P 9]) U U U U U (WL fl nx lf).one ?_;rintro v h n ⟨rfl,rfl,rfl⟩;refine⟨U,?_⟩;refine fu (XQ []) (apt fl nx lf) (dG ?_);exact⟨cR,_,_,_,rfl,rfl,rfl,rfl⟩
theorem WM:cU ak 79 [g81] (sL fl nx lf) 10 eI (sL fl nx lf) 10:=by
 refine c5 Tryz.func79 (code:=Ll) U U ?_;refine iO  1 (XQ []) (apu fl nx lf) cR ?_;refine cV U ?_;refine p9 1 (s1:={ fr:=(Bb [(0,g81)]).set 3 (some g81),h:=sL fl nx lf,n:=10,gz:=[] }) (f:=100) (args:=[eI,g81]) U U U U U U (To fl nx lf).one ?_;rintro v h n ⟨rfl,rfl,rfl⟩;refine⟨(((Bb [(0,g81)]).set 3 (some g81)).set 4 (some eI)),sC8 (sL fl nx lf) 10 eI,U,U,?_⟩;refine fu (XQ []) (apv fl nx lf) (dG ?_);exact⟨cR,_,_,_,rfl,rfl,rfl,rfl⟩
theorem WN:cU ak 54 [g81,g56] (sL fl nx lf) 10 eI (sL fl nx lf) 10:=by
 refine c5 Tryz.func54 (code:=Lj) U U ?_;refine iO  1 (XQ []) (apw fl nx lf) cR ?_;refine cV U ?_;refine p9 1 (s1:={ fr:=(Bb [(0,g81),(1,g56)]).set 6 (some g81),h:=sL fl nx lf,n:=10,gz:=[] }) (f:=79) (args:=[g81]) U U U U U U (WM fl nx lf).one ?_;rintro v h n ⟨rfl,rfl,rfl⟩;refine⟨(((Bb [(0,g81),(1,g56)]).set 6 (some g81)).set 7 (some eI)),sS8 (sL fl nx lf) 10 eI,U,U,?_⟩;refine fu (XQ []) (ahh fl nx lf) (dG ?_);exact⟨eR ⟨dP,dP⟩,_,_,_,rfl,rfl,rfl,rfl⟩
def ahp:List (Option Nat):=[some 0,some 1,some 2,some 3,none,some 5,some 6,some 19]
def ahq:List (Option Nat):=[some 0,some 1,some 2,some 3,none,some 5,some 6,some 7,some 20,some 21]
def WO:List (Option Nat):=[some 0,some 1,some 2,some 3,none,some 5,some 6]
theorem ab3:x5 19 [] (sZ fl nx lf) (.int .i64 0) (sZ 0 0 lf):=by
 have h51:cU ak 51 [P3,v78] (hL (kNc fl nx lf)) 20 (.map (some 20)) (hL (kNd fl nx lf)) 21:=
  fL (ns:=ahp) (jk U U U U U) U U (V0 fl nx lf)
 have h54:cU ak 54 [v81,v56] (hL (kNe fl nx lf)) 22 eI (hL (kNe fl nx lf)) 22:=
  fL (ns:=ahq) (jk U U U U U) U U (WN fl nx lf)
 have h23:cU ak 23 [P3] (hL (Ua fl nx lf)) 8 eI (hL (Ua fl nx lf)) 8:=
  fL (ns:=WO) (jk U U U U U) U U (Nv fl nx lf [])
 have h57:cU ak 57 [P3] (hL (Ua 0 nx lf)) 8 (.ef []) (hL (Hq [(7,.cells [P3])] 8 lf)) 10:=
  fL (ns:=WO) (jk U U U U U) U U (BS 0 nx lf [] [])
 have key:cU ak 19 [P3] (eu (pN fl nx lf [] [])) 7 (.int .i64 0) (hL (Hq [] 7 lf)) 9:=by
  refine c5 Tryz.func19 (code:=OK) U U ?_;refine iO  4 (((XQ []).jt (au U) h51).jt (au U) h54) (apx fl nx lf) (fm ⟨rfl,rfl,rfl⟩ (eR ⟨rfl,rfl,rfl⟩)) ?_;show TG ak 7 Tryz.f19.ntmps T5 _ _;refine cV U ?_;refine fR (XQ []) (apy fl nx lf) (dG ?_);refine⟨cR,fun s' dL=>c6 dL ?_⟩;show TG ak 7 Tryz.f19.ntmps G9 _ _;refine cV U ?_;refine fR (XT.jt (au U) h23) (ahi fl nx lf) (dG ?_);refine⟨eR ⟨rfl,rfl,rfl⟩,fun s' dL=>c6 dL ?_⟩;refine iO  3 XT (ahj fl nx lf) cR ?_;refine fu (XT.jt (au U) h57) (ahk nx lf) (dG ?_);exact⟨eR ⟨rfl,rfl,rfl⟩,_,_,_,rfl,rfl,rfl,rfl⟩
 exact key.DD 4 U
end
section
variable{n cP:Nat}{b:aa}{fl nx lf:Int}{es rt:ae}
theorem ab4{bs:aa}{q:LS}(h:cU ak 19 [P3] (eu (pS n cP b fl nx lf es rt)) 7 (.int .i64 0) (hL (l3r b lf es rt bs 8 [] q.nx q.es q.rt)) 10):x5 19 [] (sC n cP b fl nx lf es rt) (.int .i64 0) (sC bs.length bs.length bs (Int.ofNat bs.length) q.nx lf q.es q.rt):=by
 obtain⟨zN,lI,lX⟩:=q;exact h.DD 4 U
theorem WQ(wH:Yp es)(hn:∀x,0<=jI es x/\jI es x<1000000000):x5 19 [] (sC n cP b fl nx lf es []) (.int .i64 0) (sZ 0 0 lf):=(VU n cP b fl nx lf es wH hn).DD 4 U
theorem WR(kk:Nat)(hk:kk<=1000000)(cut:Nat)(l:List jw)(x:aa)(ab5:V.int aj (IntKind.i64.wrap (fl+IntKind.i64.wrap ((IntKind.i64.wrap (IntKind.i64.wrap ((Int.ofNat n)-fl)*Int.ofNat (kk%256))).tdiv (255:Int))))=iW cut)
  (hb:cut<=b.length) (TW:cut<=cP) (ic:∀r∈l,r.ok) (DZ:b.take cut=cW l++x) (z6:Stop (b.take cut) (cW l).length) (lQ:cut<1000000000):
  YI (kk:Int) (sC n cP b fl nx lf es rt) (sC (cW l).length cP (cW l) (Int.ofNat (cW l).length) (iu l).nx lf (iu l).es (iu l).rt):=by
 have hc:=G3 cut cP b fl nx lf es rt l x hb ic DZ z6 TW lQ;have htk:b.take (cW l).length=cW l:=by
  have h1:(cW l).length<=cut:=by
   have:=aN List.length DZ;rw[aX,ax]at this;omega
  have h2:(b.take cut).take (cW l).length=cW l:=by rw[DZ,bQ (aA _),aS]
  rw[List.take_take,Nat.min_eq_left h1]at h2;exact h2
 generalize cW l=bs at hc htk ⊢;generalize iu l=q at hc ⊢;obtain⟨zN,lI,lX⟩:=q;have h57:cU ak 57 [P3] (hL (YL cut cP b fl nx lf es rt [(7,.cells [.int .i64 (kk:Int)])])) 35 (.ef []) (hL (Ez bs.length cP b (Int.ofNat bs.length) zN lf es rt [(7,.cells [.int .i64 (kk:Int)])] 35 lI lX)) 37:=by
  generalize bs.length=c2 at hc ⊢;exact fL (ns:=ns7) (jk U U U U U) U U hc
 have key:cU ak 31 [P3,.di (some (7,0)) 1 1 1] (hL (YL n cP b fl nx lf es rt [(7,.cells [.int .i64 (kk:Int)])])) 8 (.ef []) (hL (Ez bs.length cP b (Int.ofNat bs.length) zN lf es rt [(7,.cells [.int .i64 (kk:Int)])] 8 lI lX)) 10:=by
  refine c5 Tryz.func31 (code:=JG) U U ?_;refine o9 (ki.jt (au U) h57) mo _ U (apg n cP cut b fl nx lf es rt (kk:Int) (kk%256) bs.length zN lI lX) (dG ?_);exact⟨fm ⟨dP,dP⟩ (fm (AF hk) (fm dP (fm ab5 (fm ⟨az _,dh⟩ (eR ⟨rfl,rfl,rfl⟩))))),_,_,_,rfl,rfl,rfl,rfl⟩
 have st:Step 8 (FA (.ef []) (hL (Ez bs.length cP b (Int.ofNat bs.length) zN lf es rt [(7,.cells [.int .i64 (kk:Int)])] 8 lI lX)) 10) (FA (.ef []) (hL (crR (sC bs.length cP bs (Int.ofNat bs.length) zN lf lI lX))) (nC (sC bs.length cP bs (Int.ofNat bs.length) zN lf lI lX))):=by
  have h1:=Step.trim (n0:=8) (s:=FA (.ef []) (hL (Ez bs.length cP b (Int.ofNat bs.length) zN lf es rt [(7,.cells [.int .i64 (kk:Int)])] 8 lI lX)) 10) (m:=4) (el:=5) (t:=b) bs.length U U;rw[htk]at h1;generalize bs.length=c2 at h1 ⊢;exact h1.trans (.DD 4 (live:=[0]) U)
 exact key.step st
theorem WS(kk:Nat)(hk:kk<=1000000):YI (kk:Int) (sZ 0 nx lf) (sZ 0 0 lf):=by
 have h57:cU ak 57 [P3] (hL (JH [(7,.cells [.int .i64 (kk:Int)])] 0 nx lf)) 35 (.ef []) (hL (Hq [(7,.cells [.int .i64 (kk:Int)])] 35 lf)) 37:=
  fL (ns:=WO) (jk U U U U U) U U (BS 0 nx lf [] [])
 have key:cU ak 31 [P3,.di (some (7,0)) 1 1 1] (hL (JH [(7,.cells [.int .i64 (kk:Int)])] 0 nx lf)) 8 (.ef []) (hL (Hq [(7,.cells [.int .i64 (kk:Int)])] 8 lf)) 10:=by
  refine c5 Tryz.func31 (code:=JG) U U ?_;refine o9 (ki.jt (au U) h57) mo _ U (aph 0 nx lf (kk:Int) (kk%256)) (dG ?_);refine⟨fm ⟨dP,dP⟩ (fm (AF hk) (fm dP (fm ?_ (fm ⟨dP,dP⟩ (eR ⟨rfl,rfl,rfl⟩))))),_,_,_,rfl,rfl,rfl,rfl⟩;show V.int aj (IntKind.i64.wrap ((0:Int)+IntKind.i64.wrap ((IntKind.i64.wrap (IntKind.i64.wrap ((0:Int)-0)*Int.ofNat (kk%256))).tdiv (255:Int))))=iW 0;rw[show IntKind.i64.wrap ((0:Int)-0)=0 from rfl,Int.zero_mul];rfl
 exact key.step (.DD 4 (live:=[0]) U)
end
section
variable(n cP:Nat)(b:aa)(fl nx lf:Int)(es rt:ae)
theorem WT(hk:zq rt)(hl:rt.length<1000000):cU ak 23 [P3] (eu (pS n cP b fl nx lf es rt)) 7 (qN (iQ (dJ rt))) (eu (pS n cP b fl nx lf es rt)) 7:=by
 have hc:=G8 n cP b fl nx lf es rt hk hl;generalize iQ (dJ rt)=zs at hc ⊢
 match zs,hc with
 | [],hc=>exact cU.nil (z:=0) false hc
 | [x],hc=>
   refine hc.step ((Step.frz [7] (A:=[[D.str x].length=1*1]) (s2:=FA (.dM false 1 [.str x]) ((hKf n cP b fl nx lf es rt [(7,.cells [.str x])]).set 7 none) 8) U (eR rfl)).trans (.norm (live:=[0]) U))
 |x::y::zs,hc=>
  have e:strs (x::y::zs)=strs (x::y::zs):=rfl;have hc:cU ak 23 [P3] (eu (pS n cP b fl nx lf es rt)) 7 (.di (some (7,0)) (x::y::zs).length (x::y::zs).length 1) (hKf n cP b fl nx lf es rt [(7,.deep (strs (x::y::zs)))]) 8:=hc;generalize x::y::zs=us at hc ⊢;refine hc.step ((Step.frz [7] (A:=[(strs us).length=us.length*1]) (s2:=FA (qN us) ((hKf n cP b fl nx lf es rt [(7,.deep (strs us))]).set 7 none) 8) U (eR (by rw[eJ,bj]))).trans (.norm (live:=[0]) U))
theorem WU:cU ak 20 [P3] (eu (pS n cP b fl nx lf es rt)) 7 (.int .i64 (Int.ofNat es.length)) (eu (pS n cP b fl nx lf es rt)) 7:=by
 refine c5 Tryz.func20 (code:=dS Tryz.f20) U U ?_;refine fu (XQ []) (apG n cP b fl nx lf es rt) (dG ?_);exact⟨cR,_,_,_,rfl,rfl,rfl,rfl⟩
theorem ahr(cs:List gP)(k:Nat)(yv:aa->aa)(hk:zq rt)(hl:rt.length<1000000)(JW:D2 rt)(he:∀x∈iI rt,Ends es k x)
  (oV:∀c∈cs,c.rs.length<=1000000/\∃i,dj (.str c.dg) es=some (pU c.da c.rs i)) (hyv:∀x∈iQ (dJ rt),dj (.str x) rt=some (.str (yv x))):
  Obs (sC n cP b fl nx lf es rt) es.length (iQ (dJ rt)) cs (fun d=>decide (d∈pV es rt k)) yv where
 h23:=WT n cP b fl nx lf es rt hk hl
 h20:=WU n cP b fl nx lf es rt
 h25:=fun c hc=>by
  obtain⟨h1,i,h2⟩:=oV c hc;exact VI n cP b fl nx lf es rt c.dg c.da c.rs i h2 h1
 h18:=fun c hc=>by
  obtain⟨h1,i,h2⟩:=oV c hc;exact VJ n cP b fl nx lf es rt c.dg ⟨_,_,_,h2⟩
 h17:=fun c _=>VY n cP b fl nx lf es rt k c.dg JW he
 h24:=fun x hx=>Lz n cP b fl nx lf es rt x (yv x) (hyv x hx)
theorem ahs(lv:aa->Bool)(yv:aa->aa):Obs (sZ fl nx lf) 0 [] [] lv yv where
 h23:=cU.nil (z:=0) false (Nv fl nx lf [])
 h20:=by
  refine c5 Tryz.func20 (code:=dS Tryz.f20) U U ?_;refine fu (XQ []) (apH fl nx lf) (dG ?_);exact⟨cR,_,_,_,rfl,rfl,rfl,rfl⟩
 h25:=fun _ h=>by cases h
 h18:=fun _ h=>by cases h
 h17:=fun _ h=>by cases h
 h24:=fun _ h=>by cases h
end
section
variable(cS:List jw)(k:Nat)
def rq:List RS:=(List.range' k (cS.length-k)).map fun i=>fF (cS.take i)
def ou:List RS:=rq cS k++[fF cS]
abbrev WV(f cP:Nat):gX:=sC (cW cS).length cP (cW cS) (Int.ofNat f) (iu cS).nx 0 (iu cS).es (iu cS).rt
end
structure oS(p:gX)(cS:List jw)(k:Nat)(l:List RS):Prop where
 JX:(cS=[]/\p=sZ 0 0 0)\/∃cP,0<cP/\(cW cS).length<=cP/\p=WV cS (cW (cS.take k)).length cP
 val:Ns gJ cS
 YN:k<=cS.length
 fA:l=ou cS k
theorem aht:oS (sZ 0 0 0) [] 0 [gJ]:=⟨.inl ⟨rfl,rfl⟩,trivial,aA _,rfl⟩
section
variable(cS:List jw)(k:Nat)
theorem FN:(rq cS k).length=cS.length-k:=by unfold rq;rw[aW,List.length_range']
theorem x8:(ou cS k).length=cS.length-k+1:=by unfold ou;rw[ax,FN];rfl
theorem tQ{cS:List jw}{k i:Nat}(hk:k<=cS.length)(hi:i<=cS.length-k):(ou cS k)[i]? =some (fF (cS.take (k+i))):=by
 unfold ou;rw[bS,FN];by_cases h:i<cS.length-k
 . rw[aG h];unfold rq;rw[br,List.getElem?_range' h];simp
 . rw[aI h];have e:i=cS.length-k:=by omega
   subst e;rw[Nat.sub_self,show k+(cS.length-k)=cS.length by omega,aS];rfl
theorem JI{cS:List jw}{k:Nat}(hk:k<=cS.length)(r:jw):ou (cS++[r]) k=ou cS k++[AH (fF cS) r]:=by
 unfold ou;have h1:rq (cS++[r]) k=rq cS k++[fF cS]:=by
  unfold rq;rw[ax,show cS.length+[r].length-k=(cS.length-k)+1 by simp;omega,List.range'_1_concat,aZ,show k+(cS.length-k)=cS.length by omega];congr 1
  . refine List.map_congr_left fun i hi=>?_;have:=List.mem_range'_1.1 hi;rw[bQ be]
  . rw[List.map_singleton,List.take_left'];rfl
 rw[h1];congr 1;unfold fF;rw[List.foldl_append];rfl
theorem mL:ou cS cS.length=[fF cS]:=by
 unfold ou rq;rw[Nat.sub_self];rfl
theorem WW:nmO (Nf k):=by
 unfold Nf;have h:=Nat.mod_lt k (show 0<5 by decide);rcases(by omega:k%5=0\/k%5=1\/k%5=2\/k%5=3\/k%5=4)with e|e|e|e|e<;>rw[e]<;>exact⟨_,rfl,dP,dP⟩
end
theorem FO:∀(l:List (aa×aa)) (lo:Nat),Pg l->(∀p∈l,∃c:UInt8,p.1=[c]/\lo<=c.toNat/\c.toNat<115)->l.length<=115-lo
 | [],_,_,_=>aY _
 |p::l,lo,hs,h=>by
  obtain⟨h1,h2⟩:=qJ.1 hs;obtain⟨c,hc,yF,Mt⟩:=h p (by simp);have:=FO l (c.toNat+1) h2 fun q hq=>by
   obtain⟨e,he,_,hh⟩:=h q (by simp[hq]);have fJ:=h1 q hq;rw[hc,he]at fJ;have:c<e:=by
    rcases List.cons_lt_cons_iff.1 fJ with h|⟨_,h⟩
    . exact h
    . exact absurd h (List.lt_irrefl _)
   exact⟨e,he,this,hh⟩
  rw[aT];omega
theorem nD.YO{s:RS}(h:nD s):s.ro.length<=18:=by
 have:=FO s.ro 97 h.T9 fun p hp=>(h.rv p hp).1;omega
theorem nmO.ok{n:aa}(h:nmO n):VC n:=by
 obtain⟨c,rfl,_⟩:=h;exact⟨by simp,by simp⟩
theorem oS.all{p:gX}{cS:List jw}{k:Nat}{l:List RS}(h:oS p cS k l)(hB:cS.length<=3000):nD (fF cS)/\D4 (iu cS) (fF cS)/\(fF cS).cs.length<=cS.length/\(∀r∈cS,r.ok)/\(cW cS).length<=180*cS.length:=by
 have:=BY h.val wf0 abW (by show 0+cS.length<=1000000;omega);refine⟨this.1,this.2.1,?_,this.2.2.2.1,this.2.2.2.2⟩;have h2:=this.2.2.1;have h3:(0:Nat)+cS.length=cS.length:=bE _;exact bU h2 (by show 0+cS.length<=cS.length;omega)
theorem tR{L:LS}{s:RS}(h:nD s)(g:D4 L s)(x:aa):0<=gp s.cs x↔El L.es x:=by
 rw[ot h.nd,g.es];constructor
 . rintro⟨j,c,hj,rfl⟩;exact⟨_,_,_,lW h.nd hj⟩
 . rintro⟨d,rs,k,hk⟩;rcases AG s.cs x with q|q
   . rw[qb q]at hk;cases hk
   . exact q
theorem Mf{L:LS}{s:RS}(h:nD s)(g:D4 L s){x:aa}(hx:gp s.cs x<0):dj (.str x) L.es=none:=by
 rw[g.es];exact qb ((qc h.nd).1 hx)
theorem FP{α:Type}(P:α->Prop):∀(rs:List α),(∃x∈rs,P x)->∃(j:Nat) (x:α),rs[j]? =some x/\P x/\∀(i:Nat) (y:α),i<j->rs[i]? =some y->¬P y
 | [],⟨_,h,_⟩=>by cases h
 |a::rs,⟨x,hx,hp⟩=>by
  by_cases ha:P a
  . exact⟨0,a,rfl,ha,fun i _ hi=>absurd hi (Nat.not_lt_zero i)⟩
  . have:∃x∈rs,P x:=by
     rcases aE.1 hx with rfl|hx
     . exact absurd hp ha
     . exact⟨x,hx,hp⟩
    obtain⟨j,y,h1,h2,h3⟩:=FP P rs this;refine⟨j+1,y,by simpa using h1,h2,fun i z hi hz=>?_⟩;cases i with
    |zero=>simp at hz;subst hz;exact ha
    |succ i=>exact h3 i z be (by simpa using hz)
section
variable{p:gX}{cS:List jw}{k:Nat}{l:List RS}
theorem oS.more(h:oS p cS k l)(r:jw)(a:Wy (fF cS) r)(cP:Nat)(nA:(cW cS).length+r.bytes.length<=cP):
  oS (sC ((cW cS).length+r.bytes.length) cP (cW cS++r.bytes) (Int.ofNat (cW (cS.take k)).length) (BR (iu cS) r).nx 0 (BR (iu cS) r).es (BR (iu cS) r).rt) (cS++[r]) k (l++[AH (fF cS) r]):=by
 have e1:cW (cS++[r])=cW cS++r.bytes:=vy cS r;have e2:iu (cS++[r])=BR (iu cS) r:=by unfold iu;rw[List.foldl_append];rfl
 have e3:(cS++[r]).take k=cS.take k:=bQ h.YN;have mG:=oo (r:=r);refine⟨.inr ⟨cP,be,by rw[e1,ax];exact nA,?_⟩,BX.2 ⟨h.val,a,trivial⟩,by rw[ax];have:=h.YN;simp;omega,by rw[h.fA,JI h.YN]⟩;unfold WV;rw[e1,e2,e3,ax]
theorem wE(h:oS p cS k l)(hB:cS.length<=2500)(d:aa)(rs:List (aa))(hd:d.length<=60)(NM:rs.length<=3)(h32:∀x∈rs,x.length=32)(hz:cS=[]->rs.length<=1):
  ∃q qK,(p.lo=none\/q.lo≠none)/\x5 15 [.str d,qN rs] p (.ef [.str (ld (fF cS) d rs).dg,.int .i64 (ld (fF cS) d rs).er]) q/\oS q qK k (vB l (ld (fF cS) d rs))/\qK.length<=cS.length+1:=by
 obtain⟨hw,hg,rT,ic,Sr⟩:=h.all be;by_cases hm:∃x∈rs,gp (fF cS).cs x<0
 . have hr:ld (fF cS) d rs=⟨fF cS,[],63,false⟩:=by unfold ld;rw[aG hm]
   rw[hr];refine⟨p,cS,?_,?_,by unfold vB;rw[aI Bool.false_ne_true];exact h,be⟩
   . rcases h.JX with⟨_,e⟩|⟨cP,_,_,e⟩
     . exact .inl (by rw[e];rfl)
     . exact .inr (by rw[e];intro z;cases z)
   . rcases h.JX with⟨e0,e⟩|⟨cP,rR,wK,e⟩
     . rw[e];have h1:=hz e0;obtain⟨x,hx,_⟩:=hm
       match rs,h1,hx,h32 with
       | [y],_,hx,h32=>exact aho be (h32 y (by simp))
       | [],_,hx,_=>cases hx
       |_::_::_,h1,_,_=>simp at h1
     . rw[e];obtain⟨j,x,h1,h2,h3⟩:=FP (fun x=>gp (fF cS).cs x<0) rs hm;exact ahn be be h32 j x h1 (Mf hw hg h2) fun i y hi hy=>(tR hw hg y).1 (by have:=h3 i y hi hy;omega)
 . have uZ:∀x∈rs,0<=gp (fF cS).cs x:=fun x hx=>by
    by_cases q:0<=gp (fF cS).cs x
    . exact q
    . exact absurd ⟨x,hx,be⟩ hm
   by_cases hf:0<=gp (fF cS).cs (dN d rs)
   . have hr:ld (fF cS) d rs=⟨fF cS,dN d rs,0,false⟩:=by unfold ld;rw[aI hm,aG hf]
     rw[hr];refine⟨p,cS,?_,?_,by unfold vB;rw[aI Bool.false_ne_true];exact h,be⟩
     . rcases h.JX with⟨_,e⟩|⟨cP,_,_,e⟩
       . exact .inl (by rw[e];rfl)
       . exact .inr (by rw[e];intro z;cases z)
     . rcases h.JX with⟨e0,e⟩|⟨cP,rR,wK,e⟩
       . exact absurd hf (by rw[e0];show ¬(0:Int)<= -1;decide)
       . rw[e];exact ahl be be h32 (fun x hx=>(tR hw hg x).1 (uZ x hx)) ((tR hw hg _).1 hf)
   . have hr:ld (fF cS) d rs=⟨⟨(fF cS).cs++[⟨dN d rs,d,rs⟩],(fF cS).ro⟩,dN d rs,0,true⟩:=by unfold ld;rw[aI hm,aI hf]
     rw[hr];have ha:Wy (fF cS) (.chunk d rs):=⟨hd,NM,uZ,be⟩;have OV:(gO d rs).length<=180:=(Md hw ha).2;have hu:vB l ⟨⟨(fF cS).cs++[⟨dN d rs,d,rs⟩],(fF cS).ro⟩,dN d rs,0,true⟩=l++[AH (fF cS) (.chunk d rs)]:=by unfold vB;rw[aG rfl];rfl
     rw[hu];have hs:=h.more (.chunk d rs) ha ((cW cS).length+(gO d rs).length) (aA _);refine⟨_,cS++[.chunk d rs],.inr (fun z=>by cases z),?_,hs,by rw[ax];exact aA _⟩;rcases h.JX with⟨e0,e⟩|⟨cP,rR,wK,e⟩
     . have apI:rs=[]:=by
        cases rs with
        |nil=>rfl
        |cons x rs=>exact absurd (uZ x (by simp)) (by rw[e0];show ¬(0:Int)<= -1;decide)
       have Ps:k=0:=by have:=h.YN;rw[e0]at this;simpa using this
       subst e0 apI Ps;rw[e];have:=WE (fl:=0) (nx:=0) (lf:=0) (d:=d) be;have e1:(cW []).length+(jw.chunk d []).bytes.length=(gO d []).length:=bE _;have e2:cW []++(jw.chunk d []).bytes=gO d []:=rfl;have e3:(cW []).length+(gO d []).length=(gO d []).length:=bE _;rw[e1,e2,e3];exact this
     . rw[e];exact ahm be be h32 (fun x hx=>(tR hw hg x).1 (uZ x hx)) (Mf hw hg be) rR rfl be
end
section
variable{L:LS}{p:gX}{s:RS}{cS:List jw}{k:Nat}{l:List RS}
theorem WX(g:D4 L s):RtE L.rt:=fun n=>by
 rw[g.lk n];split
 . exact .inl rfl
 . exact .inr ⟨_,rfl⟩
theorem JJ(h:oS p cS k l)(hB:cS.length<=2500){nm:aa}(hy:nmO nm)(x:aa)(hx:x=[]\/x.length=32):
  ∃q qK,(p.lo=none\/q.lo≠none)/\x5 16 [.str nm,.str x] p (.int .i64 (oP (fF cS) nm x).er) q/\oS q qK k (vB l (oP (fF cS) nm x))/\qK.length<=cS.length+1:=by
 obtain⟨hw,hg,rT,ic,Sr⟩:=h.all be;have hn:=hy.ok;have Mp:=hn.2;have yF:p.lo=none\/p.lo≠none:=by
  cases e:p.lo with
  |none=>exact .inl rfl
  |some _=>exact .inr (by simp)
 by_cases c1:x≠[]/\gp (fF cS).cs x<0
 . have hr:oP (fF cS) nm x=⟨fF cS,[],62,false⟩:=by unfold oP;rw[aG c1]
   rw[hr];refine⟨p,cS,yF,?_,by unfold vB;rw[aI Bool.false_ne_true];exact h,be⟩;rcases h.JX with⟨e0,e⟩|⟨cP,rR,wK,e⟩
   . rw[e];exact WI hn c1.1
   . rw[e];exact Tm (Lw _ _ _ _ _ _ _ _ _ _ (WX hg) hn c1.1 (Mf hw hg c1.2))
 . have hfx:x=[]\/0<=gp (fF cS).cs x:=by
    by_cases q:x=[]
    . exact .inl q
    . exact .inr (by
       by_cases z:0<=gp (fF cS).cs x
       . exact z
       . exact absurd ⟨q,be⟩ c1)
   by_cases c2:x=gK nm (fF cS).ro
   . have hr:oP (fF cS) nm x=⟨fF cS,[],0,false⟩:=by unfold oP;rw[aI c1,aG c2]
     rw[hr];refine⟨p,cS,yF,?_,by unfold vB;rw[aI Bool.false_ne_true];exact h,be⟩;rcases h.JX with⟨e0,e⟩|⟨cP,rR,wK,e⟩
     . have:x=[]:=by rw[c2,e0];rfl
       rw[e,this];exact WH hn
     . rw[e];have hl:=hg.lk nm;rw[<- c2]at hl;by_cases q:x=[]
       . rw[aG q]at hl;subst q;exact Tm (OY _ _ _ _ _ _ _ _ _ hn hl)
       . rw[aI q]at hl;have hf:0<=gp (fF cS).cs x:=hfx.resolve_left q;exact Tm (OX _ _ _ _ _ _ _ _ _ _ hn q ((tR hw hg x).1 hf) hl)
   . have hr:oP (fF cS) nm x=⟨⟨(fF cS).cs,lU nm x (eG x []) (fF cS).ro⟩,[],0,true⟩:=by unfold oP;rw[aI c1,aI c2]
     rw[hr];have ha:Wy (fF cS) (.root nm x):=⟨hy,hfx,c2⟩;have OV:(kR nm x).length<=180:=(Md hw ha).2;have hu:vB l ⟨⟨(fF cS).cs,lU nm x (eG x []) (fF cS).ro⟩,[],0,true⟩=l++[AH (fF cS) (.root nm x)]:=by unfold vB;rw[aG rfl];rfl
     rw[hu];have hs:=h.more (.root nm x) ha ((cW cS).length+(kR nm x).length) (aA _);refine⟨_,cS++[.root nm x],.inr (fun z=>by cases z),?_,hs,by rw[ax];exact aA _⟩;rcases h.JX with⟨e0,e⟩|⟨cP,rR,wK,e⟩
     . exfalso;rcases hfx with q|q
       . exact c2 (by rw[q,e0];rfl)
       . rw[e0]at q;exact absurd q (by show ¬(0:Int)<= -1;decide)
     . rw[e];have hl:=hg.lk nm;have w7:(iu cS).rt.length<64:=by have:=vD hw hg;have:=hw.YO;omega
       by_cases q:x=[]
       . subst q;have fP:gK nm (fF cS).ro≠[]:=fun z=>c2 z.symm;rw[aI fP]at hl;have ea:(BR (iu cS) (.root nm []))=⟨(iu cS).nx,(iu cS).es,lO (.str nm) (iu cS).rt⟩:=rfl;rw[ea];exact Me (R7 _ _ _ _ _ _ _ _ _ _ hn hl fP rR rfl be)
       . have hf:0<=gp (fF cS).cs x:=hfx.resolve_left q;have h32:x.length=32:=hx.resolve_left q;have ea:(BR (iu cS) (.root nm x))=⟨(iu cS).nx,(iu cS).es,ig (.str nm) (.str x) (iu cS).rt⟩:=by
          show LS.mk _ _ (if x=[]then _ else _)=_;rw[aI q]
         rw[ea];by_cases w:gK nm (fF cS).ro=[]
         . rw[aG w]at hl;exact Me (R5 _ _ _ _ _ _ _ _ _ _ hn q be ((tR hw hg x).1 hf) hl w7 rR rfl be)
         . rw[aI w]at hl;exact Me (R6 _ _ _ _ _ _ _ _ _ _ _ hn q be ((tR hw hg x).1 hf) hl c2 rR rfl be)
theorem Pk(h:oS p cS k l):∃q,(p.lo=none\/q.lo≠none)/\x5 66 [] p (.int .i64 0) q/\oS q cS cS.length [fF cS]:=by
 rcases h.JX with⟨e0,e⟩|⟨cP,rR,wK,e⟩
 . refine⟨sZ 0 0 0,.inl (by rw[e];rfl),by rw[e];exact WK,⟨.inl ⟨e0,rfl⟩,h.val,aA _,(mL cS).symm⟩⟩
 . refine⟨_,.inr (fun z=>?_),by rw[e];exact WJ,⟨.inr ⟨cP,rR,wK,?_⟩,h.val,aA _,(mL cS).symm⟩⟩
   . cases z
   . rw[aS]
theorem JK(cs:List gP)(bs:List Bool):(k9 cs bs).length<=cs.length:=(qd cs bs).length_le
theorem Tp(h:nD s)(e:s.ro=[]):(iJ s).cs=[]:=by
 cases q:(iJ s).cs with
 |nil=>rfl
 |cons c l=>
  have h0:(k9 s.cs (fh s))[0]? =some c:=by
   have:k9 s.cs (fh s)=c::l:=q;rw[this];rfl
  obtain⟨m,h1,h2,_⟩:=sK _ _ _ _ h0;obtain⟨_,_,p,hp,_⟩:=(kept h h1).1 h2;rw[e]at hp;cases hp
theorem Hr(h:nD s){m:Nat}{c:gP}(hc:s.cs[m]? =some c):jI (oq s.cs 0) c.dg=(m:Int):=by
 unfold jI;rw[lW h.nd hc,bE];rfl
theorem Tq(h:nD s):(s.cs.map gP.dg).Pairwise fun a b=>jI (oq s.cs 0) a<jI (oq s.cs 0) b:=by
 rw[List.pairwise_iff_getElem];intro i j hi hj Pu;rw[aW]at hi hj;rw[List.getElem_map,List.getElem_map,Hr h (ay hi),Hr h (ay hj)];omega
theorem DN(h:nD s)(hl:s.cs.length<=1000000)(x:aa):0<=jI (oq s.cs 0) x/\jI (oq s.cs 0) x<1000000000:=by
 rcases AG s.cs x with q|⟨j,c,hj,rfl⟩
 . unfold jI;rw[qb q];exact⟨dP,dP⟩
 . rw[Hr h hj];have:=(aF.1 hj).1;omega
theorem Ts(h:nD s):Yp (oq s.cs 0):=fun x=>by
 rcases AG s.cs x with q|⟨j,c,hj,rfl⟩
 . exact .inl (qb q)
 . exact .inr ⟨_,_,_,lW h.nd hj⟩
theorem DO(h:nD s)(x:aa):x∈(iJ s).cs.map gP.dg↔∃m c,s.cs[m]? =some c/\c.dg=x/\RI s m:=by
 rw[bB];constructor
 . rintro⟨c,hc,rfl⟩;obtain⟨i,hi⟩:=bV.1 hc;obtain⟨m,h1,h2,_⟩:=sK s.cs (fh s) i c hi;exact⟨m,c,h1,rfl,(kept h h1).1 h2⟩
 . rintro⟨m,c,hm,rfl,hr⟩;exact⟨c,AI hm ((kept h hm).2 hr),rfl⟩
theorem Pm(h:nD s)(g:D4 L s):List.Perm ((iJ s).cs.map gP.dg) (pV L.es L.rt (s.cs.length+1)):=by
 refine Hp (Nt h).nd ((Jx (vF h g)).nd List.nodup_nil) fun x=>?_;rw[DO h,Jy (vF h g),g.es];constructor
 . rintro⟨m,c,hm,rfl,c',h1,p,hp,q⟩;rw[hm]at h1;cases h1;exact⟨p.2,(vE h g _).2 ⟨p,hp,rfl⟩,q⟩
 . rintro⟨d,hd,q⟩;obtain⟨p,hp,rfl⟩:=(vE h g d).1 hd;obtain⟨c,hc,rfl⟩:=Tb h q (h.rv p hp).2;obtain⟨m,hm⟩:=bV.1 hc;exact⟨m,c,hm,rfl,c,hm,p,hp,q⟩
theorem Pn(h:nD s)(g:D4 L s):nJ L.es L.rt ((iJ s).cs.map gP.dg)=l6 (iJ s):=by
 unfold nJ l6;congr 1
 . rw[List.map_map];refine List.map_congr_left fun c hc=>?_;obtain⟨j,hj⟩:=bV.1 ((qd s.cs (fh s)).subset hc);show zu L.es c.dg=_;rw[g.es];exact He (lW h.nd hj)
 . rw[zI h g,List.map_map];refine List.map_congr_left fun p hp=>?_;have hp:p∈s.ro:=hp;show jw.root p.1 (rcV L.rt p.1)=_;unfold rcV;rw[g.lk,tP h hp,aI (h.wD hp)]
end
theorem DP(t:RS):(l6 t).length=t.cs.length+t.ro.length:=by unfold l6;rw[ax,aW,aW]
theorem JL{p:gX}{cS:List jw}{k:Nat}{l:List RS}(h:oS p cS k l)(hB:cS.length<=2500):
  ∃q,x5 19 [] p (.int .i64 0) q/\oS q (l6 (iJ (fF cS))) (l6 (iJ (fF cS))).length [iJ (fF cS)]/\(l6 (iJ (fF cS))).length<=cS.length+18:=by
 obtain⟨hw,hg,rT,ic,Sr⟩:=h.all be;have hwc:=Nt hw;have hv:=abY hwc;have iT:(l6 (iJ (fF cS))).length<=cS.length+18:=by
  rw[DP];have h1:(iJ (fF cS)).cs.length<=(fF cS).cs.length:=JK _ _;have h2:=hwc.YO;omega
 have YP:[iJ (fF cS)]=ou (l6 (iJ (fF cS))) (l6 (iJ (fF cS))).length:=by rw[mL,hv.2]
 by_cases Bc:(fF cS).ro=[]
 . have hcn:iJ (fF cS)=⟨[],[]⟩:=by
    have h1:=Tp hw Bc;have h2:(iJ (fF cS)).ro=[]:=Bc;cases q:iJ (fF cS)with
    |mk a b=>rw[q]at h1 h2;simp only at h1 h2;rw[h1,h2]
   have Up:l6 (iJ (fF cS))=[]:=by rw[hcn];rfl
   have JW:(iu cS).rt=[]:=by
    have:=vD hw hg;rw[Bc]at this;exact cH.1 this
   refine⟨sZ 0 0 0,?_,⟨.inl ⟨Up,rfl⟩,hv.1,aA _,YP⟩,iT⟩;rcases h.JX with⟨e0,e⟩|⟨cP,rR,wK,e⟩
   . rw[e];exact ab3 0 0 0
   . rw[e];unfold WV;rw[JW];exact WQ (by rw[hg.es];exact Ts hw) (by rw[hg.es];exact DN hw be)
 . rcases h.JX with⟨e0,e⟩|⟨cP,rR,wK,e⟩
   . exact absurd (by rw[e0];rfl) Bc
   . have aup:=(BY hv.1 wf0 abW (by show 0+_<=1000000;omega)).2.2.2;have VR:=Pm hw hg;have YQ:=Pn hw hg;have auq:((iJ (fF cS)).cs.map gP.dg).length<=cS.length:=by
      rw[aW];exact bU (JK _ _) rT
     have Y2:(iJ (fF cS)).cs.map gP.dg≠[]:=by
      obtain⟨pr,rest,hpr⟩:=List.exists_cons_of_ne_nil Bc;have hp:pr∈(fF cS).ro:=by rw[hpr];simp
      obtain⟨c,hc,e2⟩:=(hw.rv pr hp).2;obtain⟨j,hj⟩:=bV.1 hc;have:c.dg∈(iJ (fF cS)).cs.map gP.dg:=(DO hw _).2 ⟨j,c,hj,rfl,(Ho hw hj).2 (.inl ((DL _ _).2 ⟨pr,hp,e2.symm⟩))⟩;exact fun z=>by rw[z]at this;cases this
     have hc:=VT (cW cS).length cP (cW cS) (Int.ofNat (cW (cS.take k)).length) (iu cS).nx 0 (iu cS).es (iu cS).rt ((fF cS).cs.length+1) ((iJ (fF cS)).cs.map gP.dg) hg.key (vF hw hg)
      (by rw[<- VR.length_eq];omega) (by rw[hg.es];exact Ts hw) (by rw[hg.es];exact DN hw be) VR
      (by rw[hg.es];exact(Tq hw).sublist ((qd _ _).map _))
      (fun x hx=>by
       obtain⟨m,c,hm,rfl,_⟩:=(DO hw x).1 hx;have hl:=lW (i:=0) hw.nd hm;rw[<- hg.es]at hl;refine⟨⟨_,_,_,hl⟩,?_⟩;rw[He hl];obtain⟨n1,n2,n3⟩:=hw.nm c (bf hm);exact⟨be,be,fun r hr=>by
        obtain⟨j,c',_,hj,e3⟩:=hw.ref m c hm r hr;rw[<- e3];exact hw.FL (bf hj)⟩)
      (fun nm hnm=>by
       rw[zI hw hg]at hnm;obtain⟨pr,hp,rfl⟩:=bB.1 hnm;have hl:=hg.lk pr.1;rw[tP hw hp,aI (hw.wD hp)]at hl;refine⟨⟨_,hl⟩,?_⟩;have:Dt (iu cS).rt pr.1= .root pr.1 pr.2:=by unfold Dt rcV;rw[hl]
       rw[this];obtain⟨⟨y,hy,_⟩,c,hcm,e3⟩:=hw.rv pr hp;have:[y].length=1:=rfl;have h32:=hw.FL hcm;exact⟨by rw[hy];omega,by rw[<- e3];omega⟩)
      (by rw[vD hw hg];have:=hw.YO;omega) (by rw[YQ];omega) Y2 (fun z=>Bc (by
       have:=vD hw hg;rw[z]at this;exact cH.1 this.symm))
     rw[YQ]at hc;refine⟨_,by rw[e];exact ab4 hc,⟨.inr ⟨(cW (l6 (iJ (fF cS)))).length,?_,aA _,?_⟩,hv.1,aA _,YP⟩,iT⟩
     . have fP:l6 (iJ (fF cS))≠[]:=fun z=>Y2 (by
        have:=aN List.length z;rw[DP]at this;exact cH.1 (by rw[aW];simp at this;exact this.1▸rfl))
       obtain⟨r,rest,hr⟩:=List.exists_cons_of_ne_nil fP;rw[hr,kr,ax];have:=oo (r:=r);omega
     . rw[aS]
abbrev lvS(cS:List jw):aa->Bool:=fun d=>decide (d∈pV (iu cS).es (iu cS).rt ((fF cS).cs.length+1))
abbrev yvS(cS:List jw):aa->aa:=fun x=>gK x (fF cS).ro
theorem wF{p:gX}{cS:List jw}{k:Nat}{l:List RS}(h:oS p cS k l)(hB:cS.length<=3000):Obs p (fF cS).cs.length ((fF cS).ro.map Prod.fst) (fF cS).cs (lvS cS) (yvS cS):=by
 obtain⟨hw,hg,rT,ic,Sr⟩:=h.all be;rcases h.JX with⟨e0,e⟩|⟨cP,rR,wK,e⟩
 . subst e0;rw[e];exact ahs 0 0 0 _ _
 . rw[e,<- zI hw hg];have iT:(fF cS).cs.length=(iu cS).es.length:=by rw[hg.es,Ju]
   have DY:zq (iu cS).rt:=fun e he=>by obtain⟨n,d,rfl⟩:=hg.key e he;exact⟨n,rfl⟩
   have:=ahr (cW cS).length cP (cW cS) (Int.ofNat (cW (cS.take k)).length) (iu cS).nx 0 (iu cS).es (iu cS).rt (fF cS).cs ((fF cS).cs.length+1) (yvS cS) DY (by rw[vD hw hg];have:=hw.YO;omega) hg.key (vF hw hg)
    (fun c hc=>by
     obtain⟨j,hj⟩:=bV.1 hc;refine⟨by have:=(hw.nm c hc).2.2;omega,((0+j:Nat):Int),?_⟩;rw[hg.es];exact lW hw.nd hj)
    (fun x hx=>by
     rw[zI hw hg]at hx;obtain⟨pr,hp,rfl⟩:=bB.1 hx;rw[hg.lk,tP hw hp,aI (hw.wD hp)];show some (D.str pr.2)=some (D.str (gK pr.1 (fF cS).ro));rw[tP hw hp])
   rw[<- iT]at this;exact this
theorem FQ:∀(l:List jw) (s:RS),s.cs <+: (l.foldl AH s).cs
 | [],s=>List.prefix_refl _
 |r::l,s=>by
  refine List.IsPrefix.trans ?_ (FQ l (AH s r));cases r with
  |chunk d rs=>exact List.prefix_append _ _
  |root n x=>exact List.prefix_refl _
theorem Bl(cS:List jw)(i:Nat):(fF (cS.take i)).cs <+: (fF cS).cs:=by
 have:fF cS=(cS.drop i).foldl AH (fF (cS.take i)):=by
  unfold fF;rw[<- List.foldl_append,ck]
 rw[this];exact FQ _ _
theorem Nw{cS:List jw}{i j:Nat}(h:(fF (cS.take j)).cs.length=(fF (cS.take i)).cs.length):(fF (cS.take i)).cs=(fF (cS.take j)).cs:=by
 have h1:=Bl cS i;have h2:=Bl cS j;exact(List.prefix_of_prefix_length_le h1 h2 be).eq_of_length h.symm
theorem Tt{L:LS}{t:RS}(hw:nD t)(hg:D4 L t):t.cs.map (fun c=>decide (c.dg∈pV L.es L.rt (t.cs.length+1)))=fh t:=by
 refine List.ext_getElem? fun i=>?_;rw[br];by_cases h:i<t.cs.length
 . have hc:t.cs[i]? =some t.cs[i]:=ay h;have hr:(fh t)[i]? =some ((fh t)[i]'(by rw[w9 hw];exact h)):=ay _;have hl:=Ti hw hg hc;rw[aL,hr]at hl;rw[hc,hr];exact aN some hl.symm
 . rw[bP be,bP (by rw[w9 hw];omega)];rfl
section
variable{p:gX}{cS:List jw}{k:Nat}{l:List RS}
theorem Tu{t:RS}(hw:nD t):(t.ro.map Prod.fst).map (fun x=>(x,gK x t.ro))=t.ro:=by
 rw[List.map_map];have:∀p∈t.ro,((fun x=>(x,gK x t.ro)) ∘ Prod.fst) p=p:=fun p hp=>by
  show(p.1,gK p.1 t.ro)=p;rw[tP hw hp]
 rw[List.map_congr_left this,List.map_id']
theorem Tv(hw:nD (fF cS))(hg:D4 (iu cS) (fF cS)){w:RS}(DQ:(fF cS).cs.length=w.cs.length->w.cs=(fF cS).cs):
  sI (fF cS).cs.length ((fF cS).ro.map Prod.fst) (lvS cS) (yvS cS) w=true↔w=fF cS:=by
 unfold sI;rw[aC,aC,aC,decide_eq_true_iff,decide_eq_true_iff,decide_eq_true_iff,decide_eq_true_iff];have hrm:=Tu hw;constructor
 . rintro⟨h1,_,_,h4⟩;have h5:=DQ h1;have h4:(fF cS).ro=w.ro:=hrm.symm.trans h4;cases w with
   |mk a b=>simp only at h5 h4;rw[h5,<- h4]
 . rintro rfl;exact⟨rfl,by rw[aW],Tt hw hg,hrm⟩
theorem DR(hw:nD (fF cS))(hg:D4 (iu cS) (fF cS)){w:RS}(DQ:(fF cS).cs.length=w.cs.length->w.cs=(fF cS).cs)(b:Prop)[Decidable b](hb:w=fF cS↔b):
  sI (fF cS).cs.length ((fF cS).ro.map Prod.fst) (lvS cS) (yvS cS) w=decide b:=by
 have h:=Tv hw hg DQ;by_cases c:b
 . rw[bM c];exact h.2 (hb.2 c)
 . rw[bw c];cases q:sI (fF cS).cs.length ((fF cS).ro.map Prod.fst) (lvS cS) (yvS cS) w with
   |false=>rfl
   |true=>exact absurd (hb.1 (h.1 q)) c
theorem JM{s:RS}(h:Ns s cS)(i:Nat):Ns s (cS.take i):=by
 rw[<- ck i cS]at h;exact(BX.1 h).1
theorem WY{α:Type}(P:α->Prop)(l:List α)(T i0:Nat)(a0:α)(h0:l[i0]? =some a0)(hp:P a0)(hT:i0<T):∃(j:Nat) (a:α),i0<=j/\j<T/\l[j]? =some a/\P a/\∀(i:Nat) (b:α),j<i->i<T->l[i]? =some b->¬P b:=by
 induction T with
 |zero=>omega
 |succ T ih=>
  by_cases hq:∃b,l[T]? =some b/\P b
  . obtain⟨b,h1,h2⟩:=hq;exact⟨T,b,be,be,h1,h2,fun i c hi zM=>by omega⟩
  . have fP:i0≠T:=fun e=>hq ⟨a0,by rw[<- e];exact h0,hp⟩;obtain⟨j,a,h1,h2,h3,h4,h5⟩:=ih be;refine⟨j,a,h1,be,h3,h4,fun i b hi zM hb=>?_⟩;by_cases e:i=T
    . subst e;exact fun z=>hq ⟨b,hb,z⟩
    . exact h5 i b hi be hb
theorem ab6{n f t0:Nat}(hf:f<=n)(hn:n<=1000000)(ht:t0<=255):V.int aj (IntKind.i64.wrap (Int.ofNat f+IntKind.i64.wrap ((IntKind.i64.wrap (IntKind.i64.wrap ((Int.ofNat n)-Int.ofNat f)*Int.ofNat t0)).tdiv (255:Int))))=iW (f+(n-f)*t0/255)/\f+(n-f)*t0/255<=n:=by
 have h1:(n-f)*t0<=(n-f)*255:=Nat.mul_le_mul_left _ ht;have h2:(n-f)*t0/255<=n-f:=Nat.div_le_of_le_mul (by rw[Nat.mul_comm 255];exact h1);refine⟨?_,be⟩;have e1:IntKind.i64.wrap ((Int.ofNat n)-Int.ofNat f)=((n-f:Nat):Int):=by
  rw[fE dh dh,kZ,kZ];omega
 have e2:((n-f:Nat):Int)*Int.ofNat t0=(((n-f)*t0:Nat):Int):=by rw[kZ];exact(Int.natCast_mul _ _).symm
 rw[e1,e2,lJ be];have e3:((((n-f)*t0:Nat):Int)).tdiv 255=(((n-f)*t0/255:Nat):Int):=by
  rw[Int.tdiv_eq_ediv_of_nonneg be];rfl
 rw[e3,lJ be];exact aN _ (by rw[kZ,fE be be,kZ];omega)
def Mg(cS:List jw)(k kk:Nat):Nat:=(cW (cS.take k)).length+((cW cS).length-(cW (cS.take k)).length)*(kk%256)/255
theorem BZ(h:oS p cS k l)(hB:cS.length<=2500)(kk:Nat)(hk:kk<=1000000):
  ∃(q:gX) (j:Nat),(p.lo=none\/q.lo≠none)/\YI (kk:Int) p q/\j<=cS.length/\k<=j/\oS q (cS.take j) j [fF (cS.take j)]/\(cW (cS.take j)).length<=Mg cS k kk/\∀i,i<=cS.length->(cW (cS.take i)).length<=Mg cS k kk->i<=j:=by
 obtain⟨hw,hg,rT,ic,Sr⟩:=h.all be;have LB:=h.YN;have ahv:kk%256<=255:=by have:=Nat.mod_lt kk (show 0<256 by decide);omega
 have TV:=vG cS LB;rw[aS]at TV;rcases h.JX with⟨e0,e⟩|⟨cP,rR,wK,e⟩
 . have Ps:k=0:=by rw[e0]at LB;simpa using LB
   exact⟨sZ 0 0 0,0,.inl (by rw[e];rfl),by rw[e];exact WS kk hk,aY _,be,⟨.inl ⟨rfl,rfl⟩,trivial,aA _,(mL []).symm⟩,aY _,fun i hi _=>by rw[e0]at hi;exact hi⟩
 . obtain⟨c1,c2⟩:=ab6 (n:=(cW cS).length) (f:=(cW (cS.take k)).length) (t0:=kk%256) TV be ahv;obtain⟨j,x,h1,h2,h3,h4,h5⟩:=JF ic c2;have Xz:k<=j:=h4 k LB be;have apJ:∀r∈cS.take j,r.ok:=fun r hr=>ic r (List.mem_of_mem_take hr);have DV:=WR (n:=(cW cS).length) (cP:=cP) (b:=cW cS) (fl:=Int.ofNat (cW (cS.take k)).length) (nx:=(iu cS).nx) (lf:=0) (es:=(iu cS).es) (rt:=(iu cS).rt) kk hk _ (cS.take j) x c1 c2 be apJ h2 h3 be;have NV:(cS.take j).length=j:=by rw[aX];omega
   refine⟨WV (cS.take j) (cW (cS.take j)).length cP,j,.inr (fun z=>by cases z),by rw[e];exact DV,h1,Xz,⟨.inr ⟨cP,rR,be,?_⟩,JM h.val j,be,?_⟩,h5,h4⟩
   . rw[show(cS.take j).take j=cS.take j from bq be]
   . rw[show ou (cS.take j) j=ou (cS.take j) (cS.take j).length by rw[NV]];exact(mL _).symm
theorem Po{j:Nat}(hj:j<=cS.length)(hk:k<=j)(h:(cW (cS.take j)).length<=(cW (cS.take k)).length):j=k:=by
 by_cases c:k<j
 . exfalso;have hm:=vG cS (i:=k+1) (j:=j) c;have hs:cW (cS.take (k+1))=cW (cS.take k)++(cS[k]'(by omega)).bytes:=Bf be;have hb:=oo (r:=cS[k]'(by omega));rw[hs,ax]at hm;omega
 . omega
theorem FR(h:oS p cS k l)(hB:cS.length<=2500)(kk:Nat)(hk:kk<=1000000):
  ∃(q:gX) (j j0:Nat),(p.lo=none\/q.lo≠none)/\YI (kk:Int) p q/\j<=cS.length/\k<=j/\oS q (cS.take j) j [fF (cS.take j)]/\YJ kk l<=j0/\j0<FH kk l/\l[j0]? =some (fF (cS.take j))/\
   ∀(i:Nat) (w:RS),l[i]? =some w->j0<=i->i<FH kk l->(w=fF (cS.take j)↔i=j0):=by
 have LB:=h.YN;have ahv:kk%256<=255:=by have:=Nat.mod_lt kk (show 0<256 by decide);omega
 have hll:l.length=cS.length-k+1:=by rw[h.fA,x8]
 have TV:=vG cS LB;rw[aS]at TV;obtain⟨q,j,k1,k2,k3,k4,k5,u1,u2⟩:=BZ h hB kk hk;have k6:kk%256=0->j=k:=fun h0=>Po k3 k4 (by unfold Mg at u1;rw[h0,Nat.mul_zero,Nat.zero_div,Nat.add_zero]at u1;exact u1);have k7:kk%256=255->j=cS.length:=fun h0=>by
  have:cS.length<=j:=u2 cS.length (aA _) (by unfold Mg;rw[aS,h0,Nat.mul_div_cancel _ dP];omega);omega
 have hT:FH kk l<=l.length:=by unfold FH;split<;>omega
 have hjT:YJ kk l<=j-k/\j-k<FH kk l:=by
  unfold YJ FH;by_cases a:kk%256=0
  . have:=k6 a;rw[aG a,aI be];omega
  . rw[aI a];by_cases b:kk%256=255
    . have:=k7 b;rw[aG b];omega
    . rw[aI b];omega
 have iY:l[j-k]? =some (fF (cS.take j)):=by
  rw[h.fA,tQ LB be,show k+(j-k)=j by omega]
 obtain⟨j0,a,b1,b2,b3,b4,b5⟩:=WY (fun w=>w=fF (cS.take j)) l (FH kk l) (j-k) _ iY rfl hjT.2;refine⟨q,j,j0,k1,k2,k3,k4,k5,be,b2,by rw[b3,b4],fun i w hi h1 h2=>?_⟩;constructor
 . intro e;by_cases c:i=j0
   . exact c
   . exact absurd e (b5 i w be h2 hi)
 . rintro rfl;rw[b3]at hi;cases hi;exact b4
end
section
variable{p:gX}{cS:List jw}{k:Nat}{l:List RS}
theorem Nx(h:oS p cS k l)(hB:cS.length<=3000){i:Nat}{w:RS}(hi:l[i]? =some w):k+i<=cS.length/\w=fF (cS.take (k+i))/\nD w/\w.cs.length<=cS.length:=by
 have LB:=h.YN;have fJ:i<l.length:=(aF.1 hi).1;rw[h.fA,x8]at fJ;have e:w=fF (cS.take (k+i)):=by
  rw[h.fA,tQ LB be]at hi;exact(cC hi).symm
 have hv:=BY (JM h.val (k+i)) wf0 abW (by show 0+_<=1000000;rw[aX];omega);refine⟨be,e,by rw[e];exact hv.1,?_⟩;rw[e];have h2:=hv.2.2.1;have h3:(gJ.cs.length)=0:=rfl;rw[h3,aX]at h2;exact bU h2 be
theorem WZ(h:oS p cS k l)(hB:cS.length<=2500)(hl:l.length<=900)(x y z:Nat)(d:aa)(hy:y<=255)(hz:z<=255):
  ∃q qK k' l',cU ak 27 [P3,rI x y z d] (hL (gh p l)) 9 (.bool true) (hL (ur q l')) (nR q)/\oS q qK k' l'/\qK.length<=cS.length+18/\l'.length<=l.length+1:=by
 obtain⟨hw,hg,rT,ic,Sr⟩:=h.all be;have h32:∀c∈(fF cS).cs,c.dg.length=32:=fun c hc=>hw.FL hc;have h5:=hw.YO;have NM:∀c∈(fF cS).cs,c.rs.length<=100000:=fun c hc=>by have:=(hw.nm c hc).2.2;omega
 have pA:l=rq cS k++[fF cS]:=h.fA;have hpi:(rq cS k).length<=900:=by
  have:=aN List.length pA;rw[ax]at this;omega
 have Qc:∀r:RR,(vB l r).length<=l.length+1:=fun r=>by
  unfold vB;split
  . rw[ax];exact aA _
  . exact Nat.le_succ _
 have hx:x%10<10:=Nat.mod_lt _ dP;rcases(by omega:x%10<=3\/(4<=x%10/\x%10<=6)\/x%10=7\/x%10=8\/x%10=9)with c|⟨c,c2⟩|c|c|c
 . have HA:=FD h32 y z;obtain⟨q,qK,a1,a2,a3,a4⟩:=wE h hB (d.take 60) (kB (fF cS) y z) (by rw[aX];omega) be HA.2 (fun e0=>by
    have:(fF cS).cs.length=0:=by rw[e0];rfl
    unfold kB;rw[aI be,cD];split<;>simp)
   have:=ao8 p q _ _ x y z d c (m64 p q (rq cS k) (fF cS) x y z d hy hz be be h32 be a2);rw[<- pA]at this;exact⟨q,qK,k,_,this,a3,be,Qc _⟩
 . obtain⟨q,qK,a1,a2,a3,a4⟩:=JJ h hB (WW y) (tX (fF cS) y z) (by
    unfold tX;split
    . exact .inl rfl
    . exact .inr (AE h32 z))
   have:=ao9 p q _ _ x y z d c c2 (m65 p q (rq cS k) (fF cS) x y z d hy hz be be be a2);rw[<- pA]at this;exact⟨q,qK,k,_,this,a3,be,Qc _⟩
 . obtain⟨q,a1,a2,a3⟩:=Pk h;have:=apb p q (rq cS k) x y z d (fF cS) c be a2;rw[<- pA]at this;exact⟨q,cS,cS.length,_,this,a3,be,by simp⟩
 . obtain⟨q,a2,a3,a4⟩:=JL h hB;have:=apc p q (rq cS k) (fF cS) x y z d c be be be NM a2;rw[<- pA]at this;exact⟨q,_,_,_,this,a3,be,by simp⟩
 . have EH:Wv y z<=1000000:=by
    unfold Wv;have:1+z%2*3<=4:=by omega
    exact bU (Nat.mul_le_mul hy this) dP
   obtain⟨q,j,j0,a1,a2,a3,a4,a5,a6,a7,a8,a9⟩:=FR h hB (Wv y z) EH;have vR:0<l.length:=by rw[pA,ax];simp
   have NV:(cS.take j).length=j:=by rw[aX];omega
   obtain⟨Kw,hg2,wK,_,_⟩:=a5.all be;have apM:=wF a5 be;have hsm:∀(i:Nat) (w:RS),l[i]? =some w->j0<=i->i<FH (Wv y z) l->cU ak 28 [P3,w.v] (hL (gh q l)) 9 (.bool (decide (i=j0))) (hL (gh q l)) 9:=by
    intro i w hi h1 h2;obtain⟨b1,b2,b3,b4⟩:=Nx h be hi;have DQ:(fF (cS.take j)).cs.length=w.cs.length->w.cs=(fF (cS.take j)).cs:=fun e=>by
     rw[b2]at e ⊢;exact Nw e
    have:=m28 q l w apM DQ (by rw[aW];have:=Kw.YO;omega) be (fun c hc=>by have:=(b3.nm c hc).2.2;omega);rw[DR Kw hg2 DQ (i=j0) (a9 i w hi h1 h2)]at this;exact this
   exact⟨q,cS.take j,j,_,apa p q _ _ x y z d c hy (c67 p q l _ EH be vR j0 _ ⟨a6,a7⟩ a8 a2 hsm),a5,be,by simp⟩
end
theorem cU.ab7{f:FuncId}{a b:V}{h h1:Tr O}{n n1:Nat}{v:V}(c:cU ak f [a,b,.dM false 0 []] h n v h1 n1):cU ak f [a,b,eI] h n v h1 n1:=by
 intro E w c9 ra g hd;obtain⟨a',_,ha,⟨b',_,hb,⟨x',_,hx,hn,rfl⟩,rfl⟩,rfl⟩:=ra;obtain⟨_,_,rfl⟩:0=0/\0=0/\x'= .slice none 0 0:=hx;exact c E w _ ⟨a',_,ha,⟨b',_,hb,⟨_,_,⟨⟨none,0,[],rfl,aA _,rfl,fun _=>rfl,fun h=>absurd h (cF _)⟩,fun _=>⟨none,rfl⟩⟩,hn,rfl⟩,rfl⟩,rfl⟩ g hd
section
variable{p:gX}{cS:List jw}{k:Nat}{l:List RS}
theorem oS.last{s:RS}(h:oS p cS k (l++[s])):fF cS=s:=by
 have:=(List.append_inj' h.fA rfl).2;cases this;rfl
theorem oS.log(h:oS p cS k l)(fP:fF cS≠gJ):∃q n j b,p=pc q n j b:=by
 rcases h.JX with⟨e,_⟩|⟨cP,_,_,e⟩
 . subst e;exact absurd rfl fP
 . exact⟨_,_,_,_,e⟩
end
noncomputable abbrev Ub(k:Nat):Code:=dK (de k Vd)
theorem y_1:c7 Be [] 3 Tryz.f13 [1] (eO 2 Vd) (cT [] (Ej gS gR) 3) [([],[],.to .normal (eF [(1,P3)] (hL [(0,.ints .u32 gS),(1,.ints .u32 gR),(3,.cells [.di none 0 0 0,.int .i64 0,.map (some 4),.map (some 5),.int .i64 0,.bool false,.bool false,.int .i64 0]),(4,.map [] 0),(5,.map [] 0)]) 6))]:=
 cQ.of U U U
section
variable(p q:gX)(n k m j:Nat)(b u:aa)(a:aa)
theorem y_2:c7 (fC Be 15 [P3,.str [120],eI] (Ru 0 0 0 [] []) 6 (.ef [.str a,um],hL (Ex 6 7 8 (pc q m j u)),9)) [] 3 Tryz.f13 [1,2,3] (Ub 2) (eF [(1,P3)] (Ru 0 0 0 [] []) 6) [([],[fb [P3,.str [120],eI] (Ru 0 0 0 [] []) 6],.to .normal (Fk [(2,.str a),(3,um)] (pc q m j u)))]:=
 cQ.of U U U
theorem y_3(d:aa):c7 (fC Be 15 [P3,.str [121],.di (some (7,0)) 1 1 1] (hL (eP (pc p n k b)++[(7,.cells [.str a])])) 8 (.ef [.str d,um],hL (Ex 8 9 10 (pc q m j u)),11)) [] 3 Tryz.f13 [1,3,4,5] (Ub 3) (Fk [(2,.str a),(3,um)] (pc p n k b)) [([],[fb [P3,.str [121],.di (some (7,0)) 1 1 1] (hL (eP (pc p n k b)++[(7,.cells [.str a])])) 8],.to .normal (Fk [(3,um),(4,.str d),(5,um)] (pc q m j u)))]:=
 cQ.of U U U
theorem y_4:c7 (fC Be 16 [P3,.str [114],.str a] (eu (pc p n k b)) 7 (um,hL (stR (pc q m j u)),10)) [] 3 Tryz.f13 [1,3,5,6] (Ub 4) (Fk [(3,um),(4,.str a),(5,um)] (pc p n k b)) [([],[fb [P3,.str [114],.str a] (eu (pc p n k b)) 7],.to .normal (Fk [(3,um),(5,um),(6,um)] (pc q m j u)))]:=
 cQ.of U U U
theorem y_5:c7 (fC Be 15 [P3,.str [122],eI] (eu (pc p n k b)) 7 (.ef [.str a,um],hL (stR (pc q m j u)),10)) [] 3 Tryz.f13 [1,3,5,6,8] (Ub 5) (Fk [(3,um),(5,um),(6,um)] (pc p n k b)) [([],[fb [P3,.str [122],eI] (eu (pc p n k b)) 7],.to .normal (Fk [(3,um),(5,um),(6,um),(8,um)] (pc q m j u)))]:=
 cQ.of U U U
noncomputable abbrev csY(v:V):e9:=fC Be 20 [P3] (eu (pc p n k b)) 7 (v,eu (pc p n k b),7)
abbrev frY:List (Nat×V):=[(3,um),(5,um),(6,um),(8,um)]
theorem y_6:c7 (csY p n k b (.int .i64 3)) [] 3 Tryz.f13 [1,3,5,6,8,9] (Ub 6) (Fk frY (pc p n k b)) [([],[fb [P3] (eu (pc p n k b)) 7],.to .normal (Fk (frY++[(9,.int .i64 3)]) (pc p n k b)))]:=
 cQ.of U U U
theorem y_7:c7 (fC Be 19 [P3] (eu (pc p n k b)) 7 (um,hL (stR (pc q m j u)),10)) [] 3 Tryz.f13 [1,3,5,6,8,9,10] (Ub 7) (Fk (frY++[(9,.int .i64 3)]) (pc p n k b)) [([],[fb [P3] (eu (pc p n k b)) 7],.to .normal (Fk (frY++[(9,.int .i64 3),(10,um)]) (pc q m j u)))]:=
 cQ.of U U U
abbrev YR:List (Nat×V):=frY++[(9,.int .i64 3),(10,um),(11,.int .i64 2)]
theorem y_8:c7 (csY p n k b (.int .i64 2)) [] 3 Tryz.f13 [1,3,5,6,8,9,10,11] (Ub 8) (Fk (frY++[(9,.int .i64 3),(10,um)]) (pc p n k b)) [([],[fb [P3] (eu (pc p n k b)) 7],.to .normal (Fk YR (pc p n k b)))]:=
 cQ.of U U U
theorem y_9:c7 (fC Be 15 [P3,.str [119],eI] (eu (pc p n k b)) 7 (.ef [.str a,um],hL (stR (pc q m j u)),10)) [] 3 Tryz.f13 [1,3,5,6,8,9,10,11,13] (Ub 9) (Fk YR (pc p n k b)) [([],[fb [P3,.str [119],eI] (eu (pc p n k b)) 7],.to .normal (Fk (YR++[(13,um)]) (pc q m j u)))]:=
 cQ.of U U U
theorem apO:c7 (fC Be 31 [P3,.di (some (7,0)) 1 1 1] (hL (eP (pc p n k b)++[(7,.cells [.int .i64 0])])) 8 (.ef [],hL (crR (pc q m j u)),11)) [] 3 Tryz.f13 [1,3,5,6,8,9,10,11,13] (Ub 10) (Fk (YR++[(13,um)]) (pc p n k b)) [([],[fb [P3,.di (some (7,0)) 1 1 1] (hL (eP (pc p n k b)++[(7,.cells [.int .i64 0])])) 8],.to .normal (Fk (YR++[(13,um)]) (pc q m j u)))]:=
 cQ.of U U U
theorem apP:c7 (fC Be 15 [P3,.str [119],.di (some (7,0)) 1 1 1] (hL (eP (pc p n k b)++[(7,.cells [.str (Ek [113])])])) 8 (.ef [.str [],.int .i64 63],hL (Ex 8 9 10 (pc q m j u)),11)) [] 3 Tryz.f13 [1,3,5,6,8,9,10,11,13,15] (Ub 11) (Fk (YR++[(13,um)]) (pc p n k b)) [([],[gS=gS,gR=gR,1<=1000000000,fb [P3,.str [119],.di (some (7,0)) 1 1 1] (hL (eP (pc p n k b)++[(7,.cells [.str (Ek [113])])])) 8],.to .normal (Fk (YR++[(13,um),(15,.int .i64 63)]) (pc q m j u)))]:=
 cQ.of U U U
theorem apQ:c7 (csY p n k b (.int .i64 2)) [] 3 Tryz.f13 [] (de 12 Vd) (Fk (YR++[(13,um),(15,.int .i64 63)]) (pc p n k b)) [([],[fb [P3] (eu (pc p n k b)) 7],.ret (.bool true) (hL [(0,.ints .u32 gS),(1,.ints .u32 gR)]) 3)]:=
 cQ.of U U U
end
abbrev s1R:RS:=⟨[⟨dA,[120],[]⟩],[]⟩
abbrev s2R:RS:=⟨[⟨dA,[120],[]⟩,⟨dB,[121],[dA]⟩],[]⟩
abbrev W0:RS:=⟨[⟨dA,[120],[]⟩,⟨dB,[121],[dA]⟩],[([114],dB)]⟩
abbrev s4R:RS:=⟨[⟨dA,[120],[]⟩,⟨dB,[121],[dA]⟩,⟨dZ,[122],[]⟩],[([114],dB)]⟩
abbrev s6R:RS:=⟨[⟨dA,[120],[]⟩,⟨dB,[121],[dA]⟩,⟨dW,[119],[]⟩],[([114],dB)]⟩
theorem ahx:ld gJ [120] []=⟨s1R,dA,0,true⟩:=by unfold ld;rw[aeZ];kernel_rfl
theorem ahy:ld s1R [121] [dA]=⟨s2R,dB,0,true⟩:=by unfold ld;rw[Ym];kernel_rfl
theorem ahz:oP s2R [114] dB=⟨W0,[],0,true⟩:=by kernel_rfl
theorem ahA:ld W0 [122] []=⟨s4R,dZ,0,true⟩:=by unfold ld;rw[ae0];kernel_rfl
theorem ahB:iJ s4R=W0:=by kernel_rfl
theorem ahC:ld W0 [119] []=⟨s6R,dW,0,true⟩:=by unfold ld;rw[ae1];kernel_rfl
theorem ahD:ld W0 [119] [Ek [113]]=⟨W0,[],63,false⟩:=by rw[Yn];unfold ld;kernel_rfl
section
variable{p:gX}{cS:List jw}{k:Nat}{l:List RS}{s:RS}
theorem oS.to(h:oS p cS k (l++[s]))(hs:0<s.cs.length):fF cS=s/\∃q n j b,p=pc q n j b:=
 ⟨h.last,h.log fun z=>by rw[<- h.last,z]at hs;exact absurd hs (cF 0)⟩
theorem oS.yQ(h:oS p cS k l)(hB:cS.length<=3000)(e:fF cS=s):cU ak 20 [P3] (eu p) 7 (.int .i64 (Int.ofNat s.cs.length)) (eu p) 7:=e▸(wF h hB).h20
theorem Ny{q:gX}{n k m j:Nat}{b u d a x:aa}{z:Int}(c:x5 15 [.str d,qN [a]] (pc p n k b) (.ef [.str x,.int .i64 z]) (pc q m j u)):
  cU ak 15 [P3,.str d,.di (some (7,0)) 1 1 1] (hL (eP (pc p n k b)++[(7,.cells [.str a])])) 8 (.ef [.str x,.int .i64 z]) (hL (Ex 8 9 10 (pc q m j u))) 11:=by
 have e:cU ak 15 [P3,.str d,qN [a]] (hL (eP (pc p n k b))) 8 (.ef [.str x,.int .i64 z]) (hL (Ex 8 9 10 (pc q m j u))) 11:=tN (ns:=ns7) (l1:=eP (pc p n k b)) c 8 U;refine cU.frz (ms:=[7]) (A:=[[D.str a].length=1*1]) (q7:=[P3,.str d,qN [a]]) (h2:=((hL (eP (pc p n k b))).set 7 (some (.cells [.str a]))).set 7 none) U U (eR rfl) (cU.ext (fun i=>?_) (fun _=>rfl) e);by_cases hi:i=7
 . subst hi;rw[Tr.mY _ _ dP];rfl
 . rw[Tr.qj _ _ dP hi,Tr.qj _ _ dP hi]
end
theorem apR:TG ak 3 Tryz.f13.ntmps Vd (cT [] (Ej gS gR) 3) (fH ak 3 Tryz.f13 fun u _ _=>u= .bool true):=by
 refine iO  2 XT y_1 cR ?_;refine Aq [(4,none),(5,none)] (s2:=eF [(1,P3)] (Ru 0 0 0 [] []) 6) U ?_;obtain⟨p,r1,_,c,h1,n1⟩:=wE aht dP [120] [] dP dP (fun x hx=>by cases hx) (fun _=>aY _);rw[show fF []=gJ from rfl,ahx]at c h1;have n1:r1.length<=1:=n1;obtain⟨e,p,n,k,b,rfl⟩:=oS.to (l:=[gJ]) h1 dP;refine cV U ?_;have c0:cU ak 15 [P3,.str [120],eI] (Ru 0 0 0 [] []) 6 (.ef [.str dA,um]) (hL (Ex 6 7 8 (pc p n k b))) 9:=
  tN (ns:=[some 0,some 1,some 2,some 3,none,some 4,some 5]) (l1:=eP (sZ 0 0 0)) (cU.ab7 c) 6 U
 refine fR (XT.jt FC c0) (y_2 p n k b dA) (dG ?_);refine⟨eR ⟨rfl,rfl,rfl⟩,fun s' dL=>c6 dL ?_⟩;obtain⟨q,r2,_,c,h2,n2⟩:=wE h1 be [121] [dA] dP dP (fun x hx=>by rw[aq]at hx;subst hx;rfl) (fun _=>aA _);rw[e,ahy]at c h2;obtain⟨e2,q,m,j,u,rfl⟩:=oS.to (l:=[gJ,s1R]) h2 dP;refine cV U ?_;refine fR (XT.jt FC (Ny c)) (y_3 p q n k m j b u dA dB) (dG ?_);refine⟨eR ⟨rfl,rfl,rfl⟩,fun s' dL=>c6 dL ?_⟩;clear c0 c h1;obtain⟨p,r3,_,c,h3,n3⟩:=JJ h2 be (nm:=[114]) ⟨114,rfl,dP,dP⟩ dB (.inr rfl);rw[e2,ahz]at c h3;obtain⟨e3,p,n,k,b,rfl⟩:=oS.to (l:=[gJ,s1R,s2R]) h3 dP;refine cV U ?_;refine fR (XT.jt Ys c) (y_4 q p m j n k u b dB) (dG ?_);refine⟨eR ⟨rfl,rfl,rfl⟩,fun s' dL=>c6 dL ?_⟩;obtain⟨q,r4,_,c,h4,n4⟩:=wE h3 be [122] [] dP dP (fun x hx=>by cases hx) (fun _=>aY _);rw[e3,ahA]at c h4;obtain⟨e4,q,m,j,u,rfl⟩:=oS.to (l:=[gJ,s1R,s2R,W0]) h4 dP;refine cV U ?_;refine fR (XT.jt FC (cU.ab7 c)) (y_5 p q n k m j b u dZ) (dG ?_);refine⟨eR ⟨rfl,rfl,rfl⟩,fun s' dL=>c6 dL ?_⟩;refine cV U ?_;refine fR (XT.jt FE (h4.yQ be e4)) (y_6 q m j u) (dG ?_);refine⟨eR ⟨rfl,rfl,rfl⟩,fun s' dL=>c6 dL ?_⟩;obtain⟨p,c,h5,n5⟩:=JL h4 be;rw[e4,ahB]at h5 n5;obtain⟨e5,p,n,k,b,rfl⟩:=oS.to (l:=[]) h5 dP;refine cV U ?_;refine fR (XT.jt YK c) (y_7 q p m j n k u b) (dG ?_);refine⟨eR ⟨rfl,rfl,rfl⟩,fun s' dL=>c6 dL ?_⟩;refine cV U ?_;refine fR (XT.jt FE (h5.yQ be e5)) (y_8 p n k b) (dG ?_);refine⟨eR ⟨rfl,rfl,rfl⟩,fun s' dL=>c6 dL ?_⟩;obtain⟨q,r6,_,c,h6,n6⟩:=wE h5 be [119] [] dP dP (fun x hx=>by cases hx) (fun _=>aY _);rw[e5,ahC]at c h6;obtain⟨e6,q,m,j,u,rfl⟩:=oS.to (l:=[W0]) h6 dP;refine cV U ?_;refine fR (XT.jt FC (cU.ab7 c)) (y_9 p q n k m j b u dW) (dG ?_);refine⟨eR ⟨rfl,rfl,rfl⟩,fun s' dL=>c6 dL ?_⟩;obtain⟨p,i,j0,_,c,i1,i2,h7,i3,i4,i5,_⟩:=FR h6 be 0 dP;obtain rfl:j0=0:=Nat.lt_one_iff.1 i4;have i5:some W0=some (fF (r6.take i)):=i5;rw[<- cC i5]at h7;obtain⟨e7,p,n,k,b,rfl⟩:=oS.to (l:=[]) h7 dP;refine cV U ?_;refine fR (XT.jt FF c) (apO q p m j n k u b) (dG ?_);refine⟨eR ⟨rfl,rfl,rfl⟩,fun s' dL=>c6 dL ?_⟩;have h32:(Ek [113]).length=32:=by rw[Yn];rfl
 have n7:(r6.take i).length<=2400:=by rw[aX];omega
 obtain⟨q,r8,_,c,h8,n8⟩:=wE h7 be [119] [Ek [113]] dP dP (fun x hx=>by rw[aq]at hx;subst hx;exact h32) (fun _=>aA _);rw[e7,ahD]at c h8;obtain⟨e8,q,m,j,u,rfl⟩:=oS.to (l:=[]) h8 dP;refine cV U ?_;refine fR (XT.jt FC (Ny c)) (apP p q n k m j b u) (dG ?_);refine⟨fm rfl (fm rfl (fm dP (eR ⟨rfl,rfl,rfl⟩))),fun s' dL=>c6 dL ?_⟩;refine fu (XT.jt FE (h8.yQ be e8)) (apQ q m j u) (dG ?_);exact⟨eR ⟨rfl,rfl,rfl⟩,_,_,_,rfl,rfl⟩
def Mh:ai->Option (ah×V)
 | []=>some ([],.bool true)
 |_=>none
theorem ab8:jG ak 13 (tW Mh):=by
 refine Rg (au U) fun args A v e hA=>?_;unfold Mh at e;split at e
 . obtain⟨rfl,rfl⟩:=fa e;exact xK Tryz.func13 U U rfl rfl (fe apR fun y s h=>jZ h)
 . cases e
noncomputable abbrev W29:jL:=kA 13 (tW Mh) W28
theorem ab9:gd ak W29:=fk ab8 S1
noncomputable abbrev apS:e9:=gG ak W29 H0 1000 40
noncomputable abbrev X29:CX ak:=CX.of mo po ab9 H0 1000 40
structure zJ where
 x:Nat
 y:Nat
 z:Nat
 d:aa
 hx:x<=255
 hy:y<=255
 hz:z<=255
section
variable(l:List zJ)(o:zJ)
def zJ.c:ai:=[.int .u8 (o.x:Int),.int .u8 (o.y:Int),.int .u8 (o.z:Int),.str o.d]
def zJ.v:V:=rI o.x o.y o.z o.d
def BB:ai:=(l.map zJ.c).flatten
theorem Tw:(BB l).length=l.length*4:=sF (f:=zJ.c) (w:=4) (fun _=>rfl) l
theorem Xa(i:Nat)(h:i<l.length):dm (BB l) (i*4) 4=l[i].c:=vA (f:=zJ.c) (w:=4) (fun _=>rfl) l i h
abbrev vH:V:=.dM false l.length (BB l)
end
theorem Tx{n0:Nat}{s s2:St}(l:List (Nat×Option IntKind))(e:Q0 l s=some s2):Step n0 s s2:=by
 unfold Q0 at e;split at e
 case h_2=>cases e
 rename_i h2 hh;obtain rfl:=ew e;exact Step.mem fun E w g=>Ap l s.h h2 hh g
theorem Nz:cU ak 26 [] (Ej gS gR) 3 P3 (hL (YE 0 5 6 7 (sZ 0 0 0) [gJ])) 8:=by
 have key:cU ak 26 [] (Ej gS gR) 3 P3 (hL [(0,.ints .u32 gS),(1,.ints .u32 gR),(3,.cells [.ptr (some (4,0)),.di (some (7,0)) 1 1 2]),(4,.cells [.di none 0 0 0,.int .i64 0,.map (some 5),.map (some 6),.int .i64 0,.bool false,.bool false,.int .i64 0]),(5,.map [] 0),(6,.map [] 0),(7,.cells [.di none 0 0 0,.di none 0 0 0])]) 8:=by
  refine c5 Tryz.func26 (code:=dS Tryz.f26) U U ?_;refine fu X27 aoQ (dG ?_);exact⟨cR,_,_,_,rfl,rfl,rfl,rfl⟩
 exact key.step ((Tx [(5,none),(6,none)] rfl).trans (.deep [7] U))
noncomputable abbrev Mi:Code:=dS Tryz.f30
noncomputable abbrev acd:Code:=dK (de 1 Mi)
noncomputable abbrev Tz:Code:=dx (dx (dV acd))
section
variable(p:gX)(ops:List zJ)(l:List RS)(i:Nat)
noncomputable abbrev ahE:Code:=dx (dK (dV Tz))
def lL:af:=moA 5 p l
def sY1:St:=eF [(0,P3),(1,vH ops),(4,.bool false)] (hL (gh p l)) 9
def D5(r:List (Nat×V)):St:=eF ([(0,P3),(1,vH ops),(4,.bool false)]++r) (hL (ur p l)) (12+sh p)
theorem apT:c7 fV [] 9 Tryz.f30 [0,1,4] (eO 1 Mi) (cT [P3,vH ops] (hL (gh p l)) 9) [([],
   [],
   .to .normal (sY1 p ops l))]
 :=by rcases p with⟨_|⟨_,_,_⟩,_⟩<;>exact cQ.of U U U
theorem apU:c7 fV [] 9 Tryz.f30 [0,1,4,5] (dK acd) (D5 p ops l []) [([],
   [],
   .to .normal (D5 p ops l [(5,iW 0)]))]
 :=by rcases p with⟨_|⟨_,_,_⟩,_⟩<;>exact cQ.of U U U
theorem apV:c7 fV [(9,.split),(12,.split)] 9 Tryz.f30 [0,1,4,5] (dK Tz) (D5 p ops l [(5,iW i)]) [([((decide (Int.ofNat i<(Int.ofNat ops.length))),true),((decide (Int.ofNat i<(40:Int))),true)],
   [],
   .to .normal (D5 p ops l [(5,iW i)])),
  ([((decide (Int.ofNat i<(Int.ofNat ops.length))),true),((decide (Int.ofNat i<(40:Int))),false)],
   [],
   .to (.exit 0) (D5 p ops l [(5,iW i)])),
  ([((decide (Int.ofNat i<(Int.ofNat ops.length))),false)],
   [],
   .to (.exit 0) (D5 p ops l [(5,iW i)]))]
 :=by rcases p with⟨_|⟨_,_,_⟩,_⟩<;>exact cQ.of U U U
theorem apW(q:gX)(ops:List zJ)(l l1:List RS)(i:Nat)(o:zJ):c7 (fC fV 27 [P3,o.v] (hL (ur p l)) (12+sh p) (.bool true,hL (moA (12+sh p) q l1),(15+sh p+sh q))) [(19,.dc (.dw o.c))] 9 Tryz.f30 [0,1,4,5] (ahE) (D5 p ops l [(5,iW i)]) [([],
   [((0:Int)<=Int.ofNat i/\Int.ofNat i<(Int.ofNat ops.length)),((BB ops).length=ops.length*4),(V.dw (dm (BB ops) (i*4) 4)=V.dw o.c),fb [P3,o.v] (hL (ur p l)) (12+sh p)],
   .to .normal (D5 q ops l1 [(5,iW i)]))]
 :=by rcases p with⟨_|⟨_,_,_⟩,_⟩<;>rcases q with⟨_|⟨_,_,_⟩,_⟩<;>exact cQ.of U U U
theorem apX:c7 fV [(15,.dc (iW (i+1)))] 9 Tryz.f30 [0,1,4,5] (dV (dV Tz)) (D5 p ops l [(5,iW i)]) [([],
   [(V.int aj (IntKind.i64.wrap (Int.ofNat i+(1:Int)))=iW (i+1))],
   .to .normal (D5 p ops l [(5,iW (i+1))]))]
 :=by rcases p with⟨_|⟨_,_,_⟩,_⟩<;>exact cQ.of U U U
theorem apY:c7 fV [] 9 Tryz.f30 [] (de 2 Mi) (D5 p ops l [(5,iW i)]) [([],
   [],
   .ret (.bool true) (hL (ur p l)) (nR p))]
 :=by rcases p with⟨_|⟨_,_,_⟩,_⟩<;>exact cQ.of U U U
end
theorem YS:26<Tryz.prog.funcs.size:=au U
theorem ahF:27<Tryz.prog.funcs.size:=au U
section
variable(p:gX)(ops:List zJ)(l:List RS)(i:Nat){Q':Exit->St->Prop}
theorem ahG{ops:List zJ}{i:Nat}{o:zJ}(h:ops[i]? =some o):((0:Int)<=Int.ofNat i/\Int.ofNat i<(Int.ofNat ops.length))/\(BB ops).length=ops.length*4/\V.dw (dm (BB ops) (i*4) 4)=V.dw o.c:=by
 obtain⟨h1,h2⟩:=aF.1 h;refine⟨⟨az _,dh⟩,Tw ops,?_⟩;rw[<- h2];exact aN V.dw (Xa ops i h1)
theorem ace(q:gX)(ops:List zJ)(l l1:List RS)(i:Nat)(o:zJ)(hi:ops[i]? =some o)(hd:cU ak 27 [P3,o.v] (hL (gh p l)) 9 (.bool true) (hL (ur q l1)) (nR q)){Q':Exit->St->Prop}
  (hn:∀s',gu ak 9 Tryz.f30.ntmps s' (D5 q ops l1 [(5,iW i)])->Q' .normal s'):TG ak 9 Tryz.f30.ntmps ahE (D5 p ops l [(5,iW i)]) Q':=by
 obtain⟨a1,a2,a3⟩:=ahG hi;have k27:cU ak 27 [P3,o.v] (hL (ur p l)) (12+sh p) (.bool true) (hL (moA (12+sh p) q l1)) (15+sh p+sh q):=
  tN (ns:=nsA 9 p) hd (12+sh p) (by rcases p with⟨_|⟨_,_,_⟩,_⟩<;>rcases q with⟨_|⟨_,_,_⟩,_⟩<;>kernel_rfl)
 refine fR (ki.jt ahF k27) (apW p q ops l l1 i o) (dG ?_);exact⟨fm a1 (fm a2 (fm a3 (eR ⟨rfl,rfl,rfl⟩))),fun s' dL=>hn s' (.norm dL)⟩
theorem TA(h1:i<ops.length->i<40->∀s',gu ak 9 Tryz.f30.ntmps s' (D5 p ops l [(5,iW i)])->Q' .normal s')(h2:¬(i<ops.length/\i<40)->∀s',gu ak 9 Tryz.f30.ntmps s' (D5 p ops l [(5,iW i)])->Q' (.exit 0) s'):
  TG ak 9 Tryz.f30.ntmps (dK Tz) (D5 p ops l [(5,iW i)]) Q':=by
 refine fR ki (apV p ops l i) fun g hg hc=>?_;rcases xQ hg with rfl|rfl|rfl
 . have c1:=aH (hc _ (aP ..));have c2:=aH (hc _ (aK _ (aq.2 rfl)));exact⟨cR,fun s' dL=>h1 (by rw[kZ,kZ]at c1;omega) (by rw[kZ]at c2;omega) s' (.norm dL)⟩
 . have c2:=aJ (hc _ (aK _ (aq.2 rfl)));exact⟨cR,fun s' dL=>h2 (by rw[kZ]at c2;omega) s' (.norm dL)⟩
 . have c1:=aJ (hc _ (aq.2 rfl));exact⟨cR,fun s' dL=>h2 (by rw[kZ,kZ]at c1;omega) s' (.norm dL)⟩
theorem acf(hi:i<=40){Q':Exit->St->Prop}(h:∀s',gu ak 9 Tryz.f30.ntmps s' (D5 p ops l [(5,iW (i+1))])->Q' .normal s'):TG ak 9 Tryz.f30.ntmps (dV (dV Tz)) (D5 p ops l [(5,iW i)]) Q':=by
 refine fR ki (apX p ops l i) fun g hg hc=>?_;obtain rfl:=afi hg;exact⟨eR (pb dh be),fun s' dL=>h s' (.norm dL)⟩
theorem acg:TG ak 9 Tryz.f30.ntmps (de 2 Mi) (D5 p ops l [(5,iW i)]) (fH ak 9 Tryz.f30 fun u h n9=>u= .bool true/\h=hL (ur p l)/\n9=nR p):=by
 refine fu ki (apY p ops l i) (dG ?_);exact⟨cR,_,_,_,rfl,rfl,rfl,rfl⟩
theorem ach(h:∀s',gu ak 9 Tryz.f30.ntmps s' (D5 p ops l [(5,iW 0)])->TG ak 9 Tryz.f30.ntmps (dV acd) s' (andThen (fun s'=>TG ak 9 Tryz.f30.ntmps (de 2 Mi) s' Q') Q')):
  TG ak 9 Tryz.f30.ntmps Mi (cT [P3,vH ops] (hL (gh p l)) 9) Q':=by
 refine iO  1 ki (apT p ops l) cR ?_;refine Ng (Step.DD (s2:=D5 p ops l []) 5 (live:=[0,1,4]) (by rcases p with⟨_|⟨_,_,_⟩,_⟩<;>kernel_rfl)) ?_;refine cV U ?_;refine cV U ?_;refine fR ki (apU p ops l) (dG ?_);exact⟨cR,fun s' dL=>h s' (.norm dL)⟩
def Pp(a:gX×List RS×Nat):Prop:=a.2.2<=40/\∃cS k,oS a.1 cS k a.2.1/\cS.length<=18*a.2.2/\a.2.1.length<=a.2.2+1
theorem iv0:Pp (sZ 0 0 0,[gJ],0):=⟨aY _,[],0,aht,aY _,aA _⟩
theorem Xb{p:gX}{l:List RS}{i:Nat}(h:Pp (p,l,i))(hi:i<40)(o:zJ):∃q l',cU ak 27 [P3,o.v] (hL (gh p l)) 9 (.bool true) (hL (ur q l')) (nR q)/\Pp (q,l',i+1):=by
 obtain⟨_,cS,k,hs,h1,h2⟩:=h;have hs:oS p cS k l:=hs;have h1:cS.length<=18*i:=h1;have h2:l.length<=i+1:=h2;obtain⟨q,qK,k',l',a1,a2,a3,a4⟩:=WZ hs be be o.x o.y o.z o.d o.hy o.hz;exact⟨q,l',a1,hi,qK,k',a2,by show qK.length<=18*(i+1);omega,by show l'.length<=i+1+1;omega⟩
def Mj(a b:gX×List RS):Prop:=∀o,ops[i]? =some o->cU ak 27 [P3,o.v] (hL (gh a.1 a.2)) 9 (.bool true) (hL (ur b.1 b.2)) (nR b.1)/\Pp (b.1,b.2,i+1)
end
open Classical in
noncomputable def TB(ops:List zJ)(i:Nat)(a:gX×List RS):gX×List RS:=if h:∃b,Mj ops i a b then Classical.choose h else a
theorem NA{ops:List zJ}{i:Nat}{a:gX×List RS}(h:Pp (a.1,a.2,i))(hi:i<40):Mj ops i a (TB ops i a):=by
 have UL:∃b,Mj ops i a b:=by
  cases ho:ops[i]? with
  |none=>exact⟨a,fun o h=>by rw[ho]at h;cases h⟩
  |some o=>
   obtain⟨q,l',a1,a2⟩:=Xb h hi o;exact⟨(q,l'),fun o' h=>by rw[ho]at h;cases h;exact⟨a1,a2⟩⟩
 unfold TB;rw[dif_pos UL];exact Classical.choose_spec UL
noncomputable def JN(ops:List zJ)(a:gX×List RS):Nat->gX×List RS
 |0=>a
 |i+1=>TB ops i (JN ops a i)
theorem Hs{ops:List zJ}{a:gX×List RS}(h:Pp (a.1,a.2,0)):∀i,i<=40->i<=ops.length->Pp ((JN ops a i).1,(JN ops a i).2,i)
 |0,_,_=>h
 |i+1,h1,h2=>(NA (Hs h i be be) be _ (ay be)).2
noncomputable def FT(ops:List zJ)(a:gX×List RS):gX×List RS:=JN ops a (min ops.length 40)
theorem ahH{p:gX}{l:List RS}{i:Nat}(h:Pp (p,l,i))(hi:i<=40):Pp (p,l,40):=by
 obtain⟨_,cS,k,hs,h1,h2⟩:=h;have h1:cS.length<=18*i:=h1;have h2:l.length<=i+1:=h2;exact⟨aA _,cS,k,hs,by show cS.length<=18*40;omega,by show l.length<=40+1;omega⟩
theorem Xc{ops:List zJ}{a:gX×List RS}(h:Pp (a.1,a.2,0)):Pp ((FT ops a).1,(FT ops a).2,40):=
 ahH (Hs h _ (Nat.min_le_right ..) (Nat.min_le_left ..)) (Nat.min_le_right ..)
theorem Xd(p:gX)(l:List RS)(ops:List zJ)(hI:Pp (p,l,0)):cU ak 30 [P3,vH ops] (hL (gh p l)) 9 (.bool true) (hL (ur (FT ops (p,l)).1 (FT ops (p,l)).2)) (nR (FT ops (p,l)).1):=by
 refine c5 Tryz.func30 (code:=Mi) U U ?_;refine ach p ops l fun s' dL=>?_;refine jj 0 (min ops.length 40) (fun i=>D5 (JN ops (p,l) i).1 ops (JN ops (p,l) i).2 [(5,iW i)]) U U dL (fun i hi=>?_) ?_
 . have h1:i<ops.length:=by omega
   have h2:i<40:=by omega
   have hiv:=Hs (ops:=ops) (a:=(p,l)) hI i be be;have z6:=NA (ops:=ops) hiv h2;refine cV U ?_;refine TA _ ops _ i (fun _ _ s1 fQ=>fQ _ _ ?_) (fun hn _ _=>absurd ⟨h1,h2⟩ hn);refine cV U ?_;refine fg (i:=1) U ?_;have ho:ops[i]? =some ops[i]:=ay h1;refine ace _ (JN ops (p,l) (i+1)).1 ops _ (JN ops (p,l) (i+1)).2 i ops[i] ho (z6 _ ho).1 fun s2 jd=>?_;show TG _ _ _ _ _ _;exact jd _ _ (acf _ ops _ i be fun s3 yb=>yb)
 . refine cV U ?_;refine TA _ ops _ _ (fun h1 h2 _ _=>by omega) (fun _ s1 fQ=>⟨by simp,?_⟩);simp only[dY,andThen];exact fQ _ _ (acg _ ops _ _)
section
variable{p:gX}{cS:List jw}(fl:Int){l:List RS}{k:Nat}(nx lf:Int)
theorem apZ(cO cP:Nat)(b:aa)(fl nx lf:Int)(es rt:ae):c7 (kW []) [] 7 Tryz.f21 [] (dS Tryz.f21) (cT [P3] (eu (pS cO cP b fl nx lf es rt)) 7) [([],
   [],
   .ret (.int .i64 ((Int.ofNat cO))) (eu (pS cO cP b fl nx lf es rt)) 7)]
 :=cQ.of U U U
theorem ap0:c7 (kW []) [] 7 Tryz.f21 [] (dS Tryz.f21) (cT [P3] (eu (pN fl nx lf [] [])) 7) [([],
   [],
   .ret (.int .i64 0) (hL [(0,.ints .u32 gS),(1,.ints .u32 gR),(3,.cells [.di none 0 0 0,.int .i64 ((pN fl nx lf [] []).fl),.map (some 5),.map (some 6),.int .i64 ((pN fl nx lf [] []).nx),.bool false,.bool false,.int .i64 ((pN fl nx lf [] []).lf)]),(5,.dy none []),(6,.dy none [])]) 7)]
 :=cQ.of U U U
theorem YT:30<Tryz.prog.funcs.size:=au U
theorem YU:21<Tryz.prog.funcs.size:=au U
abbrev nsT(p:gX):List (Option Nat):=[some 0,some 1,some 2,some 4,lgN 5 p,some (5+sh p),some (6+sh p)]
theorem Xe(n cP:Nat)(b:aa)(fl nx lf:Int)(es rt:ae):cU ak 21 [P3] (eu (pS n cP b fl nx lf es rt)) 7 (.int .i64 (Int.ofNat n)) (eu (pS n cP b fl nx lf es rt)) 7:=by
 refine c5 Tryz.func21 (code:=dS Tryz.f21) U U ?_;refine fu (XQ []) (apZ n cP b fl nx lf es rt) (dG ?_);exact⟨cR,_,_,_,rfl,rfl,rfl,rfl⟩
theorem Xf:cU ak 21 [P3] (eu (pN fl nx lf [] [])) 7 (.int .i64 0) (eu (pN fl nx lf [] [])) 7:=by
 refine c5 Tryz.func21 (code:=dS Tryz.f21) U U ?_;refine fu (XQ []) (ap0 fl nx lf) (dG ?_);exact⟨cR,_,_,_,rfl,rfl,rfl,rfl⟩
theorem oS.same{l0:List RS}(h:oS p cS k l0)(hB:cS.length<=2500)(l:List RS):cU ak 28 [P3,(fF cS).v] (hL (gh p l)) 9 (.bool true) (hL (gh p l)) 9:=by
 obtain⟨hw,hg,rT,_,_⟩:=h.all be;have:=m28 p l (fF cS) (wF h be) (fun _=>rfl) (by rw[aW];have:=hw.YO;omega) be (fun c hc=>by have:=(hw.nm c hc).2.2;omega);rw[DR hw hg (fun _=>rfl) True ⟨fun _=>trivial,fun _=>rfl⟩]at this;simpa using this
theorem oS.size{l:List RS}(h:oS p cS k l):cU ak 21 [P3] (eu p) 7 (.int .i64 (Int.ofNat (cW cS).length)) (eu p) 7:=by
 rcases h.JX with⟨e0,e⟩|⟨cP,_,_,e⟩
 . rw[e,e0];exact Xf 0 0 0
 . rw[e];exact Xe _ _ _ _ _ _ _ _
theorem NB{i:Nat}{w:RS}(h:l[i]? =some w):((0:Int)<=Int.ofNat i/\Int.ofNat i<Int.ofNat l.length)/\0+i*2+2<=(ff l).length/\V.agg (D.jO (dm (ff l) (0+i*2) 2))=w.v:=by
 obtain⟨h1,h2⟩:=aF.1 h;refine⟨⟨az _,dh⟩,by rw[qa];omega,?_⟩;rw[bE,zD l i h1,h2];rfl
end
theorem ap1(cO cP cut:Nat)(b:aa)(fl nx lf:Int)(es rt:ae)(c2:Nat)(zN:Int)(e1 r1:ae):sB ak (fC fV 57 [P3] (hL (YL cut cP b fl nx lf es rt [])) 34 (.ef [],hL (Ez c2 cP b (Int.ofNat c2) zN lf es rt [] 34 e1 r1),36)) [(36,.dc (iW cut))] 1000 7 Tryz.f31 (JG) (cT [P3,eI] (hL (YL cO cP b fl nx lf es rt [])) 7)
  [([],
   [((255:Int)≠(0:Int)),(V.int aj (IntKind.i64.wrap (fl+IntKind.i64.wrap ((IntKind.i64.wrap (IntKind.i64.wrap ((Int.ofNat cO)-fl)*(0:Int))).tdiv (255:Int))))=iW cut),((0:Int)<=Int.ofNat cut/\Int.ofNat cut<=(Int.ofNat cP)),(([.ptr (some (3,0))]:ag)=[.ptr (some (3,0))]/\(eu (pS (cut-0) (cP-0) b fl nx lf es rt))=(eu (pS cut cP b fl nx lf es rt))/\34=34)],
   .ret (.ef []) (hL [(0,.ints .u32 gS),(1,.ints .u32 gR),(3,.cells [.di (some (4,0)) c2 cP 1,.int .i64 (Int.ofNat c2),.map (some 7),.map (some 8),.int .i64 zN,.bool false,.bool false,.int .i64 lf]),(4,.iX 5 false b),(5,.dy none es),(6,.dy none rt),(7,.dy none e1),(8,.dy none r1)]) 9)]
 :=⟨U,U,U⟩
theorem ap2(fl nx lf:Int):sB ak (fC fV 57 [P3] (hL (JH [] fl nx lf)) 34 (.ef [],hL (Hq [] 34 lf),36)) [(36,.dc (iW 0))] 1000 7 Tryz.f31 (JG) (cT [P3,eI] (hL (JH [] fl nx lf)) 7)
  [([],
   [((255:Int)≠(0:Int)),(V.int aj (IntKind.i64.wrap ((pN fl nx lf [] []).fl+IntKind.i64.wrap ((IntKind.i64.wrap (IntKind.i64.wrap ((0:Int)-(pN fl nx lf [] []).fl)*(0:Int))).tdiv (255:Int))))=iW 0),((0:Int)<=(0:Int)/\(0:Int)<=(0:Int)),fb [.ptr (some (3,0))] (hL [(0,.ints .u32 gS),(1,.ints .u32 gR),(3,.cells [.di none 0 0 0,.int .i64 ((pN fl nx lf [] []).fl),.map (some 5),.map (some 6),.int .i64 ((pN fl nx lf [] []).nx),.bool false,.bool false,.int .i64 ((pN fl nx lf [] []).lf)]),(5,.dy none []),(6,.dy none [])]) 34],
   .ret (.ef []) (hL [(0,.ints .u32 gS),(1,.ints .u32 gR),(3,.cells [.di none 0 0 0,.int .i64 0,.map (some 7),.map (some 8),.int .i64 0,.bool false,.bool false,.int .i64 lf]),(5,.dy none []),(6,.dy none []),(7,.dy none []),(8,.dy none [])]) 9)]
 :=⟨U,U,U⟩
section
variable{n cP:Nat}{b:aa}{fl nx lf:Int}{es rt:ae}
theorem TC(cut:Nat)(l:List jw)(x:aa)(ab5:V.int aj (IntKind.i64.wrap (fl+IntKind.i64.wrap ((IntKind.i64.wrap (IntKind.i64.wrap ((Int.ofNat n)-fl)*(0:Int))).tdiv (255:Int))))=iW cut)
  (hb:cut<=b.length) (TW:cut<=cP) (ic:∀r∈l,r.ok) (DZ:b.take cut=cW l++x) (z6:Stop (b.take cut) (cW l).length) (lQ:cut<1000000000):
  x5 31 [eI] (sC n cP b fl nx lf es rt) (.ef []) (sC (cW l).length cP (cW l) (Int.ofNat (cW l).length) (iu l).nx lf (iu l).es (iu l).rt):=by
 have hc:=G3 cut cP b fl nx lf es rt l x hb ic DZ z6 TW lQ;have htk:b.take (cW l).length=cW l:=by
  have h1:(cW l).length<=cut:=by
   have:=aN List.length DZ;rw[aX,ax]at this;omega
  have h2:(b.take cut).take (cW l).length=cW l:=by rw[DZ,bQ (aA _),aS]
  rw[List.take_take,Nat.min_eq_left h1]at h2;exact h2
 generalize cW l=bs at hc htk ⊢;generalize iu l=q at hc ⊢;obtain⟨zN,lI,lX⟩:=q;have h57:cU ak 57 [P3] (hL (YL cut cP b fl nx lf es rt [])) 34 (.ef []) (hL (Ez bs.length cP b (Int.ofNat bs.length) zN lf es rt [] 34 lI lX)) 36:=by
  generalize bs.length=c2 at hc ⊢;exact fL (ns:=ns7) (jk U U U U U) U U hc
 have key:cU ak 31 [P3,eI] (hL (YL n cP b fl nx lf es rt [])) 7 (.ef []) (hL (Ez bs.length cP b (Int.ofNat bs.length) zN lf es rt [] 7 lI lX)) 9:=by
  refine c5 Tryz.func31 (code:=JG) U U ?_;refine o9 (ki.jt (au U) h57) mo _ U (ap1 n cP cut b fl nx lf es rt bs.length zN lI lX) (dG ?_);exact⟨fm dP (fm ab5 (fm ⟨az _,dh⟩ (eR ⟨rfl,rfl,rfl⟩))),_,_,_,rfl,rfl,rfl,rfl⟩
 have st:Step 7 (FA (.ef []) (hL (Ez bs.length cP b (Int.ofNat bs.length) zN lf es rt [] 7 lI lX)) 9) (FA (.ef []) (hL (stR (sC bs.length cP bs (Int.ofNat bs.length) zN lf lI lX))) (nS (sC bs.length cP bs (Int.ofNat bs.length) zN lf lI lX))):=by
  have h1:=Step.trim (n0:=7) (s:=FA (.ef []) (hL (Ez bs.length cP b (Int.ofNat bs.length) zN lf es rt [] 7 lI lX)) 9) (m:=4) (el:=5) (t:=b) bs.length U U;rw[htk]at h1;generalize bs.length=c2 at h1 ⊢;exact h1.trans (.DD 4 (live:=[0]) U)
 exact key.step st
theorem TD:x5 31 [eI] (sZ 0 nx lf) (.ef []) (sZ 0 0 lf):=by
 have h57:cU ak 57 [P3] (hL (JH [] 0 nx lf)) 34 (.ef []) (hL (Hq [] 34 lf)) 36:=
  fL (ns:=WO) (jk U U U U U) U U (BS 0 nx lf [] [])
 have key:cU ak 31 [P3,eI] (hL (JH [] 0 nx lf)) 7 (.ef []) (hL (Hq [] 7 lf)) 9:=by
  refine c5 Tryz.func31 (code:=JG) U U ?_;refine o9 (ki.jt (au U) h57) mo _ U (ap2 0 nx lf) (dG ?_);exact⟨fm dP (fm rfl (fm ⟨dP,dP⟩ (eR ⟨rfl,rfl,rfl⟩))),_,_,_,rfl,rfl,rfl,rfl⟩
 exact key.step (.DD 4 (live:=[0]) U)
end
theorem oS.aci{p:gX}{cS:List jw}{l:List RS}(h:oS p cS cS.length l)(hB:cS.length<=2500):∃q,x5 31 [eI] p (.ef []) q/\oS q cS cS.length [fF cS]:=by
 obtain⟨hw,hg,rT,ic,Sr⟩:=h.all be;rcases h.JX with⟨e0,e⟩|⟨cP,rR,wK,e⟩
 . refine⟨sZ 0 0 0,by rw[e];exact TD,⟨.inl ⟨e0,rfl⟩,h.val,aA _,(mL _).symm⟩⟩
 . rw[aS]at e;obtain⟨j,x,h1,h2,h3,h4,h5⟩:=JF ic (aA (cW cS).length);have:=h4 cS.length (aA _) (by rw[aS];exact aA _);obtain rfl:j=cS.length:=by omega
   have e1:cS.take cS.length=cS:=aS;rw[e1]at h2 h3;have DV:=TC (n:=(cW cS).length) (cP:=cP) (b:=cW cS) (fl:=Int.ofNat (cW cS).length) (nx:=(iu cS).nx) (lf:=0) (es:=(iu cS).es) (rt:=(iu cS).rt) (cW cS).length cS x (by
    rw[show Int.ofNat (cW cS).length-Int.ofNat (cW cS).length=0 from Int.sub_self _];exact aN _ (by
     show IntKind.i64.wrap (Int.ofNat (cW cS).length+0)=_;rw[Int.add_zero,kZ,fE be be])) (aA _) wK ic h2 h3 be
   refine⟨_,by rw[e];exact DV,⟨.inr ⟨cP,rR,wK,?_⟩,h.val,aA _,(mL _).symm⟩⟩;rw[aS]
noncomputable abbrev rJ:Code:=dS Tryz.f9
noncomputable abbrev ahI:Code:=dK (de 12 rJ)
noncomputable abbrev TE:Code:=dx (dx (dV ahI))
section
variable(m:Nat)(ops:List zJ)(x:Int)(b:Nat)(y:Int)(p q:gX)(l l1:List RS)
noncomputable abbrev Xg:Code:=dx (dK (dV TE))
def kzX(s g c r a:Nat)(p:gX)(l:List RS):af:=[(m,.cells [.ptr (some (s,0)),.di (some (a,0)) l.length l.length 2]),(s,.cells (wI g c r p))]++lgB g p++[(c,.dy none p.es),(r,.dy none p.rs),(a,.deep (ff l))]
def HG:af:=kzX m (m+1) (m+2) (m+2+sh p) (m+3+sh p) (m+4+sh p) p l
def Xh:af:=kzX m (m+1) b (b+sh p) (b+1+sh p) (b+2+sh p) p l
def kzC(a:Nat)(p:gX)(l:List RS):af:=kzX m (m+1) b (b+sh p) (b+1+sh p) a p l
def Mk:af:=[(0,.ints .u32 gS),(1,.ints .u32 gR),(3,.cells [.int .u8 x,.int .u8 y])]
def kzM:af:=Mk x y++HG 4 p l++HG (9+sh p) q l1
def kzG:af:=[(0,.ints .u32 gS),(1,.ints .u32 gR)]
def Ht:af:=kzG++HG 3 p l++HG (8+sh p) q l1
def kzS:St:=eF [(0,vH ops),(3,P3),(5,.bool true),(6,.ptr (some (4,0)))] (hL (Mk x y++HG 4 (sZ 0 0 0) [gJ])) 9
def ahJ:St:=eF [(0,vH ops),(3,P3),(5,.bool true),(6,.ptr (some (4,0))),(7,.ptr (some (9,0)))] (hL (kzM x y (sZ 0 0 0) (sZ 0 0 0) [gJ] [gJ])) 14
def kzT:St:=eF [(3,P3),(5,.bool true),(6,.ptr (some (4,0))),(7,.ptr (some (9+sh p,0)))] (hL (kzM x y p q l l1)) (14+sh p+sh q)
def AJ(r:List (Nat×V)):St:=eF ([(5,.bool true),(6,P3),(7,.ptr (some (8+sh p,0)))]++r) (hL (Ht p q l l1)) (13+sh p+sh q)
def ptQ:ag->Bool
 | .ptr (some (k,_))::_=>Nat.beq k m
 |_=>false
theorem ap4:c7 (fC apS 26 [] (hL (Mk x y)) 4 (.ptr (some (4,0)),hL (Mk x y++HG 4 (sZ 0 0 0) [gJ]),9)) [] 3 Tryz.f9 [0,3,5,6] (eO 3 rJ) (cT [vH ops,.agg [.int .u8 x,.int .u8 y]] (Ej gS gR) 3) [([],
   [(gS=gS),(gR=gR),fb [] (hL [(0,.ints .u32 gS),(1,.ints .u32 gR),(3,.cells [.int .u8 x,.int .u8 y])]) 4],
   .to .normal (eF [(0,.dM false (ops.length) (BB ops)),(3,.ptr (some (3,0))),(5,.bool true),(6,.ptr (some (4,0)))] (hL [(0,.ints .u32 gS),(1,.ints .u32 gR),(3,.cells [.int .u8 x,.int .u8 y]),(4,.cells [.ptr (some (5,0)),.di (some (8,0)) 1 1 2]),(5,.cells [.di none 0 0 0,.int .i64 0,.map (some 6),.map (some 7),.int .i64 0,.bool false,.bool false,.int .i64 0]),(6,.dy none []),(7,.dy none []),(8,.deep [.dM 0 [],.dM 0 []])]) 9))]
 :=cQ.of U U U
end
section
variable(p q:gX)(ops:List zJ)(x:Int)(r:gX)(y lo hi:Int)(l l1:List RS)
theorem ap5:c7 (fC fV 26 [] (hL (Mk x y++HG 4 (sZ 0 0 0) [gJ])) 9 (.ptr (some (9,0)),hL (kzM x y (sZ 0 0 0) (sZ 0 0 0) [gJ] [gJ]),14)) [] 3 Tryz.f9 [0,3,5,6,7] (dK (de 3 rJ)) (kzS ops x y) [([],
   [fb [] (hL [(0,.ints .u32 gS),(1,.ints .u32 gR),(3,.cells [.int .u8 x,.int .u8 y]),(4,.cells [.ptr (some (5,0)),.di (some (8,0)) 1 1 2]),(5,.cells [.di none 0 0 0,.int .i64 0,.map (some 6),.map (some 7),.int .i64 0,.bool false,.bool false,.int .i64 0]),(6,.dy none []),(7,.dy none []),(8,.deep [.dM 0 [],.dM 0 []])]) 9],
   .to .normal (eF [(0,.dM false (ops.length) (BB ops)),(3,.ptr (some (3,0))),(5,.bool true),(6,.ptr (some (4,0))),(7,.ptr (some (9,0)))] (hL [(0,.ints .u32 gS),(1,.ints .u32 gR),(3,.cells [.int .u8 x,.int .u8 y]),(4,.cells [.ptr (some (5,0)),.di (some (8,0)) 1 1 2]),(5,.cells [.di none 0 0 0,.int .i64 0,.map (some 6),.map (some 7),.int .i64 0,.bool false,.bool false,.int .i64 0]),(6,.dy none []),(7,.dy none []),(8,.deep [.dM 0 [],.dM 0 []]),(9,.cells [.ptr (some (10,0)),.di (some (13,0)) 1 1 2]),(10,.cells [.di none 0 0 0,.int .i64 0,.map (some 11),.map (some 12),.int .i64 0,.bool false,.bool false,.int .i64 0]),(11,.dy none []),(12,.dy none []),(13,.deep [.dM 0 [],.dM 0 []])]) 14))]
 :=cQ.of U U U
theorem ap6:c7 (ze (ze fV 30 (ptQ 4) [.ptr (some (4,0)),vH ops] (hL (kzM x y (sZ 0 0 0) (sZ 0 0 0) [gJ] [gJ])) 14 (.bool true,hL (Mk x y++Xh 4 14 p l++HG 9 (sZ 0 0 0) [gJ]),(17+sh p))) 30 (ptQ 9) [.ptr (some (9,0)),vH ops] (hL (Mk x y++Xh 4 14 p l++HG 9 (sZ 0 0 0) [gJ])) (17+sh p) (.bool true,hL (Mk x y++Xh 4 14 p l++Xh 9 (17+sh p) q l1),(20+sh p+sh q))) [] 3 Tryz.f9 [3,5,6,7] (dK (de 4 rJ)) (ahJ ops x y) [([],
   [fb [.ptr (some (4,0)),vH ops] (hL (kzM x y (sZ 0 0 0) (sZ 0 0 0) [gJ] [gJ])) 14,fb [.ptr (some (9,0)),vH ops] (hL (Mk x y++Xh 4 14 p l++HG 9 (sZ 0 0 0) [gJ])) (17+sh p)],
   .to .normal (kzT x y p q l l1))]
 :=by rcases p with⟨_|⟨_,_,_⟩,_⟩<;>rcases q with⟨_|⟨_,_,_⟩,_⟩<;>exact cQ.of U U U
theorem ap7:c7 fV [(39,.dc (.int .u8 lo)),(44,.dc (.int .u8 hi))] 3 Tryz.f9 [5,6,7,8,9,10] (eO 3 (de 5 rJ)) (kzT x y p q l l1) [([],
   [(V.int IntKind.u8 (if y<x then y else x)=V.int IntKind.u8 lo),(V.int IntKind.u8 (if y>x then y else x)=V.int IntKind.u8 hi)],
   .to .normal (AJ p q l l1 [(8,iW l.length),(9,.int .u8 lo),(10,.int .u8 hi)]))]
 :=by rcases p with⟨_|⟨_,_,_⟩,_⟩<;>rcases q with⟨_|⟨_,_,_⟩,_⟩<;>exact cQ.of U U U
theorem ap8:c7 (fC fV 31 [.ptr (some (4,0)),.di (some (13+sh p+sh q,0)) 1 1 1] (hL (Ht p q l l1++[(13+sh p+sh q,.cells [.int .i64 lo])])) (14+sh p+sh q) (.ef [],hL (kzG++kzC 3 (14+sh p+sh q) (7+sh p) r l++HG (8+sh p) q l1),(16+sh p+sh q+sh r))) [(50,.dc (.int .i64 lo))] 3 Tryz.f9 [5,6,7,8,10] (dK (de 8 rJ)) (AJ p q l l1 [(8,iW l.length),(9,.int .u8 lo),(10,.int .u8 hi)]) [([],
   [(V.int aj (IntKind.i64.wrap lo)=V.int aj lo),fb [.ptr (some (4,0)),.di (some (13+sh p+sh q,0)) 1 1 1] (hL (Ht p q l l1++[(13+sh p+sh q,.cells [.int .i64 lo])])) (14+sh p+sh q)],
   .to .normal (AJ r q l l1 [(8,iW l.length),(10,.int .u8 hi)]))]
 :=by rcases p with⟨_|⟨_,_,_⟩,_⟩<;>rcases q with⟨_|⟨_,_,_⟩,_⟩<;>rcases r with⟨_|⟨_,_,_⟩,_⟩<;>exact cQ.of U U U
theorem ap9:c7 (fC fV 31 [.ptr (some (9+sh p,0)),.di (some (13+sh p+sh q,0)) 1 1 1] (hL (Ht p q l l1++[(13+sh p+sh q,.cells [.int .i64 hi])])) (14+sh p+sh q) (.ef [],hL (kzG++HG 3 p l++kzC (8+sh p) (14+sh p+sh q) (12+sh p+sh q) r l1),(16+sh p+sh q+sh r))) [(58,.dc (.int .i64 hi))] 3 Tryz.f9 [5,6,7,8] (dK (de 9 rJ)) (AJ p q l l1 [(8,iW l.length),(10,.int .u8 hi)]) [([],
   [(V.int aj (IntKind.i64.wrap hi)=V.int aj hi),fb [.ptr (some (9+sh p,0)),.di (some (13+sh p+sh q,0)) 1 1 1] (hL (Ht p q l l1++[(13+sh p+sh q,.cells [.int .i64 hi])])) (14+sh p+sh q)],
   .to .normal (AJ p r l l1 [(8,iW l.length)]))]
 :=by rcases p with⟨_|⟨_,_,_⟩,_⟩<;>rcases q with⟨_|⟨_,_,_⟩,_⟩<;>rcases r with⟨_|⟨_,_,_⟩,_⟩<;>exact cQ.of U U U
end
section
variable(p q:gX)(l l1:List RS)(i:Nat)(u:Int)(j:Nat)
theorem aqa:c7 fV [] 3 Tryz.f9 [5,6,7,8,11,12] (eO 2 (de 10 rJ)) (AJ p q l l1 [(8,iW l.length)]) [([],
   [],
   .to .normal (AJ p q l l1 [(8,iW l.length),(11,.int .i64 (-1)),(12,.int .i64 (-1))]))]
 :=by rcases p with⟨_|⟨_,_,_⟩,_⟩<;>rcases q with⟨_|⟨_,_,_⟩,_⟩<;>exact cQ.of U U U
theorem aqb(v:Int):c7 fV [] 3 Tryz.f9 [5,6,7,8,11,12,13] (dK ahI) (AJ p q l l1 [(8,iW l.length),(11,.int .i64 u),(12,.int .i64 v)]) [([],
   [],
   .to .normal (AJ p q l l1 [(8,iW l.length),(11,.int .i64 u),(12,.int .i64 v),(13,iW 0)]))]
 :=by rcases p with⟨_|⟨_,_,_⟩,_⟩<;>rcases q with⟨_|⟨_,_,_⟩,_⟩<;>exact cQ.of U U U
theorem ahK(v:Int)(i:Nat):c7 fV [(63,.split)] 3 Tryz.f9 [5,6,7,8,11,12,13] (dK TE) (AJ p q l l1 [(8,iW l.length),(11,.int .i64 u),(12,.int .i64 v),(13,iW i)]) [([((decide (Int.ofNat i<Int.ofNat l.length)),true)],
   [],
   .to .normal (AJ p q l l1 [(8,iW l.length),(11,.int .i64 u),(12,.int .i64 v),(13,iW i)])),
  ([((decide (Int.ofNat i<Int.ofNat l.length)),false)],
   [],
   .to (.exit 0) (AJ p q l l1 [(8,iW l.length),(11,.int .i64 u),(12,.int .i64 v),(13,iW i)]))]
 :=by rcases p with⟨_|⟨_,_,_⟩,_⟩<;>rcases q with⟨_|⟨_,_,_⟩,_⟩<;>exact cQ.of U U U
theorem ahL(v:Int)(i:Nat)(w:RS)(s:Bool):c7 (fC fV 28 [P3,w.v] (hL (Ht p q l l1)) (13+sh p+sh q) (.bool s,hL (Ht p q l l1),(13+sh p+sh q))) [(76,.dc w.v),(78,.split)] 3 Tryz.f9 [5,6,7,8,11,12,13] (dK Xg) (AJ p q l l1 [(8,iW l.length),(11,.int .i64 (-1)),(12,.int .i64 v),(13,iW i)]) [([(s,true)],
   [((0:Int)<=Int.ofNat i/\Int.ofNat i<(Int.ofNat l.length)),(0+i*2+2<=(ff l).length),(V.agg (D.jO (dm (ff l) (0+i*2) 2))=w.v),fb [P3,w.v] (hL (Ht p q l l1)) (13+sh p+sh q)],
   .to .normal (AJ p q l l1 [(8,iW l.length),(11,iW i),(12,.int .i64 v),(13,iW i)])),
  ([(s,false)],
   [((0:Int)<=Int.ofNat i/\Int.ofNat i<(Int.ofNat l.length)),(0+i*2+2<=(ff l).length),(V.agg (D.jO (dm (ff l) (0+i*2) 2))=w.v),fb [P3,w.v] (hL (Ht p q l l1)) (13+sh p+sh q)],
   .to .normal (AJ p q l l1 [(8,iW l.length),(11,.int .i64 (-1)),(12,.int .i64 v),(13,iW i)]))]
 :=by rcases p with⟨_|⟨_,_,_⟩,_⟩<;>rcases q with⟨_|⟨_,_,_⟩,_⟩<;>exact cQ.of U U U
theorem ahM(v:Int)(i j:Nat):c7 fV [(67,.dc (.bool false))] 3 Tryz.f9 [5,6,7,8,11,12,13] (dK Xg) (AJ p q l l1 [(8,iW l.length),(11,iW j),(12,.int .i64 v),(13,iW i)]) [([],
   [(V.bool (decide (Int.ofNat j<(0:Int)))=V.bool false)],
   .to .normal (AJ p q l l1 [(8,iW l.length),(11,iW j),(12,.int .i64 v),(13,iW i)]))]
 :=by rcases p with⟨_|⟨_,_,_⟩,_⟩<;>rcases q with⟨_|⟨_,_,_⟩,_⟩<;>exact cQ.of U U U
theorem ahN(v:Int)(i:Nat)(w:RS)(s:Bool):c7 (fC fV 28 [.ptr (some (8+sh p,0)),w.v] (hL (Ht p q l l1)) (13+sh p+sh q) (.bool s,hL (Ht p q l l1),(13+sh p+sh q))) [(87,.dc w.v),(88,.split)] 3 Tryz.f9 [5,6,7,8,11,12,13] (dV Xg) (AJ p q l l1 [(8,iW l.length),(11,.int .i64 u),(12,.int .i64 v),(13,iW i)]) [([(s,true)],
   [((0:Int)<=Int.ofNat i/\Int.ofNat i<(Int.ofNat l1.length)),(0+i*2+2<=(ff l1).length),(V.agg (D.jO (dm (ff l1) (0+i*2) 2))=w.v),fb [.ptr (some (8+sh p,0)),w.v] (hL (Ht p q l l1)) (13+sh p+sh q)],
   .to .normal (AJ p q l l1 [(8,iW l.length),(11,.int .i64 u),(12,iW i),(13,iW i)])),
  ([(s,false)],
   [((0:Int)<=Int.ofNat i/\Int.ofNat i<(Int.ofNat l1.length)),(0+i*2+2<=(ff l1).length),(V.agg (D.jO (dm (ff l1) (0+i*2) 2))=w.v),fb [.ptr (some (8+sh p,0)),w.v] (hL (Ht p q l l1)) (13+sh p+sh q)],
   .to .normal (AJ p q l l1 [(8,iW l.length),(11,.int .i64 u),(12,.int .i64 v),(13,iW i)]))]
 :=by rcases p with⟨_|⟨_,_,_⟩,_⟩<;>rcases q with⟨_|⟨_,_,_⟩,_⟩<;>exact cQ.of U U U
theorem ahO(v:Int)(i:Nat):c7 fV [(65,.dc (iW (i+1)))] 3 Tryz.f9 [5,6,7,8,11,12,13] (dV (dV TE)) (AJ p q l l1 [(8,iW l.length),(11,.int .i64 u),(12,.int .i64 v),(13,iW i)]) [([],
   [(V.int aj (IntKind.i64.wrap (Int.ofNat i+(1:Int)))=iW (i+1))],
   .to .normal (AJ p q l l1 [(8,iW l.length),(11,.int .i64 u),(12,.int .i64 v),(13,iW (i+1))]))]
 :=by rcases p with⟨_|⟨_,_,_⟩,_⟩<;>rcases q with⟨_|⟨_,_,_⟩,_⟩<;>exact cQ.of U U U
theorem ahP(z:Int):c7 fV [(91,.dc (.bool false)),(95,.dc (.bool false))] 3 Tryz.f9 [5,6,11] (dK (de 13 rJ)) (AJ p q l l1 [(8,iW l.length),(11,iW i),(12,iW j),(13,.int .i64 z)]) [([],
   [(V.bool (decide (Int.ofNat i<(0:Int)))=V.bool false),(V.bool (decide (Int.ofNat j<Int.ofNat i))=V.bool false)],
   .to .normal (eF [(5,.bool true),(6,P3),(11,iW i)] (hL (lL p l)) (8+sh p)))]
 :=by rcases p with⟨_|⟨_,_,_⟩,_⟩<;>rcases q with⟨_|⟨_,_,_⟩,_⟩<;>exact cQ.of U U U
def PB(r:List (Nat×V)):St:=eF ([(5,.bool true),(6,P3),(11,iW i)]++r) (hL (lL p l)) (8+sh p)
theorem ahQ(c:Int):c7 (fC fV 20 [.ptr (some (4,0))] (hL (lL p l)) (8+sh p) (.int .i64 c,hL (lL p l),(8+sh p))) [] 3 Tryz.f9 [5,6,11,14] (dK (de 14 rJ)) (PB p l i []) [([],
   [fb [.ptr (some (4,0))] (hL (lL p l)) (8+sh p)],
   .to .normal (PB p l i [(14,.int .i64 c)]))]
 :=by rcases p with⟨_|⟨_,_,_⟩,_⟩<;>exact cQ.of U U U
theorem ahR(c z:Int):c7 (fC fV 21 [.ptr (some (4,0))] (hL (lL p l)) (8+sh p) (.int .i64 z,hL (lL p l),(8+sh p))) [] 3 Tryz.f9 [5,6,11,14,15] (dK (de 15 rJ)) (PB p l i [(14,.int .i64 c)]) [([],
   [fb [.ptr (some (4,0))] (hL (lL p l)) (8+sh p)],
   .to .normal (PB p l i [(14,.int .i64 c),(15,.int .i64 z)]))]
 :=by rcases p with⟨_|⟨_,_,_⟩,_⟩<;>exact cQ.of U U U
theorem ahS(c z:Int):c7 (fC fV 31 [.ptr (some (4,0)),.di (some (8+sh p,0)) 1 1 1] (hL (lL p l++[(8+sh p,.cells [.int .i64 255])])) (9+sh p) (.ef [],hL (YE (9+sh p) (9+sh p+sh q) (10+sh p+sh q) (7+sh p) q l),(11+sh p+sh q))) [] 3 Tryz.f9 [5,6,11,14,15] (dK (de 16 rJ)) (PB p l i [(14,.int .i64 c),(15,.int .i64 z)]) [([],
   [fb [.ptr (some (4,0)),.di (some (8+sh p,0)) 1 1 1] (hL (lL p l++[(8+sh p,.cells [.int .i64 255])])) (9+sh p)],
   .to .normal (PB q l i [(14,.int .i64 c),(15,.int .i64 z)]))]
 :=by rcases p with⟨_|⟨_,_,_⟩,_⟩<;>rcases q with⟨_|⟨_,_,_⟩,_⟩<;>exact cQ.of U U U
theorem ahT(c z:Int)(w:RS):c7 (fC fV 28 [P3,w.v] (hL (lL p l)) (8+sh p) (.bool true,hL (lL p l),(8+sh p))) [(120,.dc w.v)] 3 Tryz.f9 [5,6,11,14,15,16] (dK (de 17 rJ)) (PB p l i [(14,.int .i64 c),(15,.int .i64 z)]) [([],
   [((0:Int)<=Int.ofNat i/\Int.ofNat i<(Int.ofNat l.length)),(0+i*2+2<=(ff l).length),(V.agg (D.jO (dm (ff l) (0+i*2) 2))=w.v),fb [P3,w.v] (hL (lL p l)) (8+sh p)],
   .to .normal (PB p l i [(14,.int .i64 c),(15,.int .i64 z),(16,.bool true)]))]
 :=by rcases p with⟨_|⟨_,_,_⟩,_⟩<;>exact cQ.of U U U
theorem ahU(c z:Int):c7 (fC fV 31 [.ptr (some (4,0)),eI] (hL (lL p l)) (8+sh p) (.ef [],hL (YE (8+sh p) (8+sh p+sh q) (9+sh p+sh q) (7+sh p) q l),(10+sh p+sh q))) [] 3 Tryz.f9 [5,6,11,14,15,16] (dK (de 18 rJ)) (PB p l i [(14,.int .i64 c),(15,.int .i64 z),(16,.bool true)]) [([],
   [fb [.ptr (some (4,0)),eI] (hL (lL p l)) (8+sh p)],
   .to .normal (PB q l i [(14,.int .i64 c),(15,.int .i64 z),(16,.bool true)]))]
 :=by rcases p with⟨_|⟨_,_,_⟩,_⟩<;>rcases q with⟨_|⟨_,_,_⟩,_⟩<;>exact cQ.of U U U
theorem ahV(c z:Int)(w:RS):c7 (fC (fC (fC fV 28 [P3,w.v] (hL (lL p l)) (8+sh p) (.bool true,hL (lL p l),(8+sh p))) 20 [.ptr (some (4,0))] (hL (lL p l)) (8+sh p) (.int .i64 c,hL (lL p l),(8+sh p))) 21 [.ptr (some (4,0))] (hL (lL p l)) (8+sh p) (.int .i64 z,hL (lL p l),(8+sh p))) [(139,.dc w.v),(149,.dc (.bool true)),(158,.dc (.bool true))] 3 Tryz.f9 [] (de 19 rJ) (PB p l i [(14,.int .i64 c),(15,.int .i64 z),(16,.bool true)]) [([],
   [((0:Int)<=Int.ofNat i/\Int.ofNat i<(Int.ofNat l.length)),(0+i*2+2<=(ff l).length),(V.agg (D.jO (dm (ff l) (0+i*2) 2))=w.v),fb [P3,w.v] (hL (lL p l)) (8+sh p),fb [.ptr (some (4,0))] (hL (lL p l)) (8+sh p),(V.bool (c==c)=V.bool true),fb [.ptr (some (4,0))] (hL (lL p l)) (8+sh p),(V.bool (z==z)=V.bool true)],
   .ret (.bool true) (hL [(0,.ints .u32 gS),(1,.ints .u32 gR)]) 3)]
 :=by rcases p with⟨_|⟨_,_,_⟩,_⟩<;>exact cQ.of U U U
end
def AK(s:RS->Bool)(l:List RS):Nat->Option Nat
 |0=>none
 |n+1=>match AK s l n with
  |some j=>some j
  |none=>if s (l.getD n gJ)=true then some n else none
def EA(s:RS->Bool)(l:List RS):Nat->Option Nat
 |0=>none
 |n+1=>if s (l.getD n gJ)=true then some n else EA s l n
def oI:Option Nat->Int
 |none=> -1
 |some j=>Int.ofNat j
theorem Hu(s:RS->Bool)(l:List RS):∀n,(∀j,AK s l n=some j->s (l.getD j gJ)=true/\j<n)/\∀m,m<n->s (l.getD m gJ)=true->∃j,j<=m/\AK s l n=some j
 |0=>⟨fun _ h=>(by cases h),fun _ h=>absurd h (Nat.not_lt_zero _)⟩
 |n+1=>by
  obtain⟨h1,h2⟩:=Hu s l n;unfold AK;cases e:AK s l n with
  |some j=>
   refine⟨fun j' h=>?_,fun m hm hs=>?_⟩
   . cases h;have:=h1 j e;exact⟨this.1,be⟩
   . by_cases q:m<n
     . obtain⟨j',a,b⟩:=h2 m q hs;rw[e]at b;cases b;exact⟨j,a,rfl⟩
     . have:=h1 j e;exact⟨j,be,rfl⟩
  |none=>
   dsimp only;have rU:∀m,m<n->¬s (l.getD m gJ)=true:=fun m hm hs=>by
    obtain⟨j',_,b⟩:=h2 m hm hs;rw[e]at b;cases b
   by_cases q:s (l.getD n gJ)=true
   . rw[aG q];refine⟨fun j h=>by cases h;exact⟨q,Nat.lt_succ_self _⟩,fun m hm hs=>?_⟩;by_cases w:m<n
     . exact absurd hs (rU m w)
     . exact⟨n,be,rfl⟩
   . rw[aI q];refine⟨fun j h=>(by cases h),fun m hm hs=>?_⟩;by_cases w:m<n
     . exact absurd hs (rU m w)
     . obtain rfl:m=n:=by omega
       exact absurd hs q
theorem NC(s:RS->Bool)(l:List RS):∀n m,m<n->s (l.getD m gJ)=true->∃j,m<=j/\EA s l n=some j
 |0,_,h,_=>absurd h (Nat.not_lt_zero _)
 |n+1,m,hm,hs=>by
  unfold EA;by_cases q:s (l.getD n gJ)=true
  . rw[aG q];exact⟨n,be,rfl⟩
  . rw[aI q];by_cases w:m<n
    . exact NC s l n m w hs
    . obtain rfl:m=n:=by omega
      exact absurd hs q
abbrev nsB(p q:gX):List (Option Nat):=[some 0,some 1,some 2,some (8+sh p),some (9+sh p),lgN (10+sh p) q,some (10+sh p+sh q),some (11+sh p+sh q),some (12+sh p+sh q)]
abbrev nsU(p q:gX):List (Option Nat):=[some 0,some 1,some 2,some (9+sh p),lgN (10+sh p) q,some (10+sh p+sh q),some (11+sh p+sh q)]
section
variable{p q r:gX}{l l1:List RS}
section
variable{w:RS}{ops:List zJ}{z:Int}{b:Bool}{x y:Int}
theorem TF(h:cU ak 30 [P3,vH ops] (hL (gh (sZ 0 0 0) [gJ])) 9 (.bool true) (hL (ur p l)) (nR p)):
  cU ak 30 [.ptr (some (4,0)),vH ops] (hL (kzM x y (sZ 0 0 0) (sZ 0 0 0) [gJ] [gJ])) 14 (.bool true) (hL (Mk x y++Xh 4 14 p l++HG 9 (sZ 0 0 0) [gJ])) (17+sh p):=
 tN (ns:=[some 0,some 1,some 2,some 4,some 5,none,some 6,some 7,some 8]) h 14 (by rcases p with⟨_|⟨_,_,_⟩,_⟩<;>kernel_rfl)
theorem TH(h:cU ak 30 [P3,vH ops] (hL (gh (sZ 0 0 0) [gJ])) 9 (.bool true) (hL (ur q l1)) (nR q)):
  cU ak 30 [.ptr (some (9,0)),vH ops] (hL (Mk x y++Xh 4 14 p l++HG 9 (sZ 0 0 0) [gJ])) (17+sh p) (.bool true) (hL (Mk x y++Xh 4 14 p l++Xh 9 (17+sh p) q l1)) (20+sh p+sh q):=
 tN (ns:=[some 0,some 1,some 2,some 9,some 10,none,some 11,some 12,some 13]) h (17+sh p) (by rcases p with⟨_|⟨_,_,_⟩,_⟩<;>rcases q with⟨_|⟨_,_,_⟩,_⟩<;>kernel_rfl)
theorem acm(h:YI z p r):cU ak 31 [.ptr (some (4,0)),.di (some (13+sh p+sh q,0)) 1 1 1] (hL (Ht p q l l1++[(13+sh p+sh q,.cells [.int .i64 z])])) (14+sh p+sh q) (.ef []) (hL (kzG++kzC 3 (14+sh p+sh q) (7+sh p) r l++HG (8+sh p) q l1)) (16+sh p+sh q+sh r):=
 tN (ns:=nsT p++[some (13+sh p+sh q)]) h (14+sh p+sh q) (by rcases p with⟨_|⟨_,_,_⟩,_⟩<;>rcases q with⟨_|⟨_,_,_⟩,_⟩<;>rcases r with⟨_|⟨_,_,_⟩,_⟩<;>kernel_rfl)
theorem acn(h:YI z q r):cU ak 31 [.ptr (some (9+sh p,0)),.di (some (13+sh p+sh q,0)) 1 1 1] (hL (Ht p q l l1++[(13+sh p+sh q,.cells [.int .i64 z])])) (14+sh p+sh q) (.ef []) (hL (kzG++HG 3 p l++kzC (8+sh p) (14+sh p+sh q) (12+sh p+sh q) r l1)) (16+sh p+sh q+sh r):=
 tN (ns:=nsU p q++[some (13+sh p+sh q)]) h (14+sh p+sh q) (by rcases p with⟨_|⟨_,_,_⟩,_⟩<;>rcases q with⟨_|⟨_,_,_⟩,_⟩<;>rcases r with⟨_|⟨_,_,_⟩,_⟩<;>kernel_rfl)
theorem TI(h:cU ak 28 [P3,w.v] (hL (gh p l)) 9 (.bool b) (hL (gh p l)) 9):cU ak 28 [P3,w.v] (hL (Ht p q l l1)) (13+sh p+sh q) (.bool b) (hL (Ht p q l l1)) (13+sh p+sh q):=
 uh (ns:=nsA 5 p) h (by rcases p with⟨_|⟨_,_,_⟩,_⟩<;>rcases q with⟨_|⟨_,_,_⟩,_⟩<;>kernel_rfl)
theorem TJ(h:cU ak 28 [P3,w.v] (hL (gh q l1)) 9 (.bool b) (hL (gh q l1)) 9):cU ak 28 [.ptr (some (8+sh p,0)),w.v] (hL (Ht p q l l1)) (13+sh p+sh q) (.bool b) (hL (Ht p q l l1)) (13+sh p+sh q):=
 uh (ns:=nsB p q) h (by rcases p with⟨_|⟨_,_,_⟩,_⟩<;>rcases q with⟨_|⟨_,_,_⟩,_⟩<;>kernel_rfl)
theorem JO(h:cU ak 28 [P3,w.v] (hL (gh p l)) 9 (.bool b) (hL (gh p l)) 9):cU ak 28 [P3,w.v] (hL (lL p l)) (8+sh p) (.bool b) (hL (lL p l)) (8+sh p):=
 uh (ns:=nsA 5 p) h (by rcases p with⟨_|⟨_,_,_⟩,_⟩<;>kernel_rfl)
theorem Hv{f:FuncId}{z:Int}(h:cU ak f [P3] (eu p) 7 (.int .i64 z) (eu p) 7):cU ak f [.ptr (some (4,0))] (hL (lL p l)) (8+sh p) (.int .i64 z) (hL (lL p l)) (8+sh p):=
 uh (ns:=nsT p) h (by rcases p with⟨_|⟨_,_,_⟩,_⟩<;>kernel_rfl)
theorem aco(h:YI z p q):cU ak 31 [.ptr (some (4,0)),.di (some (8+sh p,0)) 1 1 1] (hL (lL p l++[(8+sh p,.cells [.int .i64 z])])) (9+sh p) (.ef []) (hL (YE (9+sh p) (9+sh p+sh q) (10+sh p+sh q) (7+sh p) q l)) (11+sh p+sh q):=
 tN (ns:=nsT p++[some (8+sh p)]) h (9+sh p) (by rcases p with⟨_|⟨_,_,_⟩,_⟩<;>rcases q with⟨_|⟨_,_,_⟩,_⟩<;>kernel_rfl)
theorem acp(h:x5 31 [eI] p (.ef []) q):cU ak 31 [.ptr (some (4,0)),eI] (hL (lL p l)) (8+sh p) (.ef []) (hL (YE (8+sh p) (8+sh p+sh q) (9+sh p+sh q) (7+sh p) q l)) (10+sh p+sh q):=
 tN (ns:=nsT p) h (8+sh p) (by rcases p with⟨_|⟨_,_,_⟩,_⟩<;>rcases q with⟨_|⟨_,_,_⟩,_⟩<;>kernel_rfl)
end
end
open Classical in
noncomputable def Bm(t w:RS):Bool:=decide (w=t)
theorem oS.asks{p0 p:gX}{cS:List jw}{k j m:Nat}{l0 l:List RS}(h0:oS p0 cS k l)(hB:cS.length<=2500)(h:oS p (cS.take j) m l0){i:Nat}{w:RS}(hi:l[i]? =some w):cU ak 28 [P3,w.v] (hL (gh p l)) 9 (.bool (Bm (fF (cS.take j)) w)) (hL (gh p l)) 9:=by
 have NV:(cS.take j).length<=cS.length:=by rw[aX];omega
 obtain⟨Kw,hg2,wK,_,_⟩:=h.all be;obtain⟨b1,b2,b3,b4⟩:=Nx h0 be hi;have DQ:(fF (cS.take j)).cs.length=w.cs.length->w.cs=(fF (cS.take j)).cs:=fun e=>by
  rw[b2]at e ⊢;exact Nw e
 have:=m28 p l w (wF h be) DQ (by rw[aW];have:=Kw.YO;omega) be (fun c hc=>by have:=(b3.nm c hc).2.2;omega);rw[@DR _ Kw hg2 w DQ (w=fF (cS.take j)) (Classical.propDecidable _) Iff.rfl]at this;exact this
theorem TK{cS:List jw}{k a b:Nat}(h:a<=b)(hb:b<=255):Mg cS k a<=Mg cS k b:=by
 unfold Mg;rw[Nat.mod_eq_of_lt (by omega:a<256),Nat.mod_eq_of_lt (by omega:b<256)];exact Nat.add_le_add_left (Nat.div_le_div_right (Nat.mul_le_mul_left _ h)) _
theorem acq(x y:Nat):V.int IntKind.u8 (if(y:Int)<(x:Int)then(y:Int)else(x:Int))=V.int IntKind.u8 ((min x y:Nat):Int):=by
 congr 1;split<;>omega
theorem acr(x y:Nat):V.int IntKind.u8 (if(y:Int)>(x:Int)then(y:Int)else(x:Int))=V.int IntKind.u8 ((max x y:Nat):Int):=by
 congr 1;split<;>omega
theorem ND{x:Nat}(h:x<=255):V.int aj (IntKind.i64.wrap (x:Int))=V.int aj (x:Int):=aN _ (fE be be)
theorem Hw(p q:gX)(l:List RS)(u:Int)(o:Option Nat)(i:Nat)(w:RS)(b:Bool)(iY:((0:Int)<=Int.ofNat i/\Int.ofNat i<Int.ofNat l.length)/\0+i*2+2<=(ff l).length/\V.agg (D.jO (dm (ff l) (0+i*2) 2))=w.v)
  (h28:cU ak 28 [P3,w.v] (hL (gh q l)) 9 (.bool b) (hL (gh q l)) 9) (hi:i<=1000) (o2:Option Nat) (ho:o2=if b=true then some i else o) (u':Int) (s1:St) (hu:u'=u) (fQ:gu ak 3 Tryz.f9.ntmps s1 (AJ p q l l [(8,iW l.length),(11,.int .i64 u'),(12,.int .i64 (oI o)),(13,iW i)])) {Q:Exit->St->Prop}
  (hQ:∀s',gu ak 3 Tryz.f9.ntmps s' (AJ p q l l [(8,iW l.length),(11,.int .i64 u),(12,.int .i64 (oI o2)),(13,iW (i+1))])->Q .normal s'):TG ak 3 Tryz.f9.ntmps (dV Xg) s1 (mj 1 (andThen (fun s'=>TG ak 3 Tryz.f9.ntmps (dV (dV TE)) s' Q) Q)):=by
 subst hu;refine fQ _ _ ?_;obtain⟨L12,aqc⟩:=ahN p q l l u' (oI o) i w b;have Cu:∀(v:Int) (s2:St),v=oI o2->gu ak 3 Tryz.f9.ntmps s2 (AJ p q l l [(8,iW l.length),(11,.int .i64 u'),(12,.int .i64 v),(13,iW i)])->TG ak 3 Tryz.f9.ntmps (dV (dV TE)) s2 Q:=by
  rintro v s2 rfl jd;refine jd _ _ ?_;refine fR ki (ahO p q l l u' (oI o2) i) (dG ?_);exact⟨eR (pb dh be),fun s' dL=>hQ s' (.norm dL)⟩
 refine gy (ki.jt FG (TJ h28)) mo lT U aqc fun g hg hc=>?_;rcases iV hg with rfl|rfl
 . have c:b=true:=hc _ (aq.2 rfl);exact⟨fm iY.1 (fm iY.2.1 (fm iY.2.2 (eR ⟨rfl,rfl,rfl⟩))),fun s' dL=>Cu (Int.ofNat i) s' (by rw[ho,aG c];rfl) (.norm dL)⟩
 . have c:b=false:=hc _ (aq.2 rfl);exact⟨fm iY.1 (fm iY.2.1 (fm iY.2.2 (eR ⟨rfl,rfl,rfl⟩))),fun s' dL=>Cu _ s' (by rw[ho,aI (by rw[c];exact Bool.false_ne_true)]) (.norm dL)⟩
theorem aqd(ops:List zJ)(x y:Nat)(hx:x<=255)(hy:y<=255):TG ak 3 Tryz.f9.ntmps rJ (cT [vH ops,.agg [.int .u8 (x:Int),.int .u8 (y:Int)]] (Ej gS gR) 3) (fH ak 3 Tryz.f9 fun u _ _=>u= .bool true):=by
 have k26:cU ak 26 [] (hL (Mk x y)) 4 (.ptr (some (4,0))) (hL (Mk x y++HG 4 (sZ 0 0 0) [gJ])) 9:=
  tN (ns:=[some 0,some 1,some 2]) (l1:=kzG) Nz 4 U
 have j26:cU ak 26 [] (hL (Mk x y++HG 4 (sZ 0 0 0) [gJ])) 9 (.ptr (some (9,0))) (hL (kzM x y (sZ 0 0 0) (sZ 0 0 0) [gJ] [gJ])) 14:=
  tN (ns:=[some 0,some 1,some 2]) (l1:=kzG) Nz 9 U
 obtain⟨L1,AR⟩:=ap4 ops x y;refine kV 3 (X29.jt YS k26) mo U AR (fm rfl (fm rfl (eR ⟨rfl,rfl,rfl⟩))) ?_;show TG ak 3 Tryz.f9.ntmps (de 3 rJ) (kzS ops x y) _;refine cV U ?_;obtain⟨L2,Fc⟩:=ap5 ops x y;refine gy (ki.jt YS j26) mo lT U Fc (dG ?_);refine⟨eR ⟨rfl,rfl,rfl⟩,fun s' dL=>c6 dL ?_⟩;show TG ak 3 Tryz.f9.ntmps (de 4 rJ) (ahJ ops x y) _;have hI:Pp (sZ 0 0 0,[gJ],0):=iv0;have hp:=Xd (sZ 0 0 0) [gJ] ops hI;have hJ:=Xc (ops:=ops) (a:=(sZ 0 0 0,[gJ])) hI;generalize FT ops (sZ 0 0 0,[gJ])=a at hp hJ;obtain⟨p,l⟩:=a;refine cV U ?_;obtain⟨L3,wv⟩:=ap6 p p ops x y l l;refine gy ((ki.K9 (ptQ 4) YT (TF hp)).K9 (ptQ 9) YT (TH hp)) mo lT U wv (dG ?_);refine⟨fm ⟨rfl,rfl,rfl⟩ (eR ⟨rfl,rfl,rfl⟩),fun s' dL=>c6 dL ?_⟩;clear AR Fc wv k26 j26 hp hI;obtain⟨_,cS,k,hs,hB,hl⟩:=hJ;have hs:oS p cS k l:=hs;have hB:cS.length<=18*40:=hB;have hl:l.length<=40+1:=hl;have LB:=hs.YN;have hll:l.length=cS.length-k+1:=by rw[hs.fA,x8]
 obtain⟨L4,Ef⟩:=ap7 p p x y ((min x y:Nat):Int) ((max x y:Nat):Int) l l;refine kV 3 ki mo U Ef (fm (acq x y) (eR (acr x y))) ?_;show TG ak 3 Tryz.f9.ntmps (de 8 rJ) _ _;have Ka:min x y<=max x y:=by omega
 have hmx:max x y<=255:=by omega
 generalize min x y=lo at Ka ⊢;generalize max x y=hi at Ka hmx ⊢;obtain⟨q1,j1,_,c1,i1,i2,s1,i3,_⟩:=BZ hs be lo be;obtain⟨q2,j2,_,c2,o1,o2,s2,_,o4⟩:=BZ hs be hi be;have hjj:j1<=j2:=o4 j1 i1 (bU i3 (TK Ka hmx));refine cV U ?_;obtain⟨L5,ue⟩:=ap8 p p q1 lo hi l l;refine gy (ki.jt FF (acm c1)) mo lT U ue (dG ?_);refine⟨fm (ND be) (eR ⟨rfl,rfl,rfl⟩),fun s' dL=>c6 dL ?_⟩;refine cV U ?_;obtain⟨L6,HC⟩:=ap9 q1 p q2 hi l l;refine gy (ki.jt FF (acn c2)) mo lT U HC (dG ?_);refine⟨fm (ND hmx) (eR ⟨rfl,rfl,rfl⟩),fun s' dL=>c6 dL ?_⟩;obtain⟨L7,hr7⟩:=aqa q1 q2 l l;refine kV 2 ki mo U hr7 cR ?_;show TG ak 3 Tryz.f9.ntmps (de 12 rJ) _ _;clear c1 c2 Ef ue HC hr7;have h1:l[j1-k]? =some (fF (cS.take j1)):=by rw[hs.fA,tQ LB be,show k+(j1-k)=j1 by omega]
 have h2:l[j2-k]? =some (fF (cS.take j2)):=by rw[hs.fA,tQ LB be,show k+(j2-k)=j2 by omega]
 have k1:=fun(i:Nat) (w:RS) (h:l[i]? =some w)=>hs.asks be s1 h;have k2:=fun(i:Nat) (w:RS) (h:l[i]? =some w)=>hs.asks be s2 h;have hgd:∀(i:Nat) (w:RS),l[i]? =some w->l.getD i gJ=w:=fun i w h=>by rw[aL,h];rfl
 have g1:Bm (fF (cS.take j1)) (l.getD (j1-k) gJ)=true:=by rw[hgd _ _ h1];exact @decide_eq_true _ (Classical.propDecidable _) rfl
 have g2:Bm (fF (cS.take j2)) (l.getD (j2-k) gJ)=true:=by rw[hgd _ _ h2];exact @decide_eq_true _ (Classical.propDecidable _) rfl
 have hg1:∀i,Bm (fF (cS.take j1)) (l.getD i gJ)=true->l.getD i gJ=fF (cS.take j1):=fun i h=>@of_decide_eq_true _ (Classical.propDecidable _) h;generalize fF (cS.take j2)=t2 at k2 g2;refine cV U ?_;refine cV U ?_;obtain⟨L8,hr8⟩:=aqb q1 q2 l l (-1) (-1);refine gy ki mo lT U hr8 (dG ?_);refine⟨cR,fun s' dL=>?_⟩;refine jj 0 l.length (fun i=>AJ q1 q2 l l [(8,iW l.length),(11,.int .i64 (oI (AK (Bm (fF (cS.take j1))) l i))),(12,.int .i64 (oI (EA (Bm t2) l i))),(13,iW i)]) U U (.norm dL) (fun i hi=>?_) ?_
 . refine cV U ?_;refine fR ki (ahK q1 q2 l l (oI (AK (Bm (fF (cS.take j1))) l i)) (oI (EA (Bm t2) l i)) i) fun g hg hc=>?_;rcases iV hg with rfl|rfl
   . refine⟨cR,fun s' dL=>c6 dL ?_⟩;refine cV U ?_;refine fg (i:=1) U ?_;have hw:l[i]? =some l[i]:=ay hi;have hwd:=hgd _ _ hw;have ka:=k1 i _ hw;have kb:=k2 i _ hw;have iY:=NB hw;generalize l[i]=w at hw hwd ka kb iY;refine cV U ?_;have hq2:EA (Bm t2) l (i+1)=if Bm t2 w=true then some i else EA (Bm t2) l i:=by rw[<- hwd];rfl
     cases hf:AK (Bm (fF (cS.take j1))) l i with
     |some j=>
      have hq:AK (Bm (fF (cS.take j1))) l (i+1)=some j:=by unfold AK;rw[hf]
      refine fR ki (ahM q1 q2 l l (oI (EA (Bm t2) l i)) i j) (dG ?_);exact⟨eR (by rw[bw dh]),fun s' dL=>Hw q1 q2 l _ _ i w _ iY kb be _ hq2 _ s' (by rw[hq];rfl) (.norm dL) fun _ h=>h⟩
     |none=>
      have hq:AK (Bm (fF (cS.take j1))) l (i+1)=if Bm (fF (cS.take j1)) w=true then some i else none:=by rw[<- hwd];show(match AK (Bm (fF (cS.take j1))) l i with|some j=>some j|none=>_)=_;rw[hf]
      refine fR (ki.jt FG (TI ka)) (ahL q1 q2 l l (oI (EA (Bm t2) l i)) i w (Bm (fF (cS.take j1)) w)) fun g hg hc=>?_;rcases iV hg with rfl|rfl
      . have c:Bm (fF (cS.take j1)) w=true:=hc _ (aq.2 rfl);exact⟨fm iY.1 (fm iY.2.1 (fm iY.2.2 (eR ⟨rfl,rfl,rfl⟩))),fun s' dL=>Hw q1 q2 l _ _ i w _ iY kb be _ hq2 (Int.ofNat i) s' (by rw[hq,aG c];rfl) (.norm dL) fun _ h=>h⟩
      . have c:Bm (fF (cS.take j1)) w=false:=hc _ (aq.2 rfl);exact⟨fm iY.1 (fm iY.2.1 (fm iY.2.2 (eR ⟨rfl,rfl,rfl⟩))),fun s' dL=>Hw q1 q2 l _ _ i w _ iY kb be _ hq2 (-1) s' (by rw[hq,aI (by rw[c];exact Bool.false_ne_true)];rfl) (.norm dL) fun _ h=>h⟩
   . exact absurd (aJ (hc _ (aq.2 rfl))) dh
 . refine cV U ?_;obtain⟨L9,hr9⟩:=ahK q1 q2 l l (oI (AK (Bm (fF (cS.take j1))) l l.length)) (oI (EA (Bm t2) l l.length)) l.length;refine gy ki mo lT U hr9 fun g hg hc=>?_;rcases iV hg with rfl|rfl
   . exact absurd (aH (hc _ (aq.2 rfl))) dh
   . refine⟨cR,fun s' dL=>⟨by simp,?_⟩⟩;simp only[dY,andThen];refine c6 dL ?_;obtain⟨a,ha,ea⟩:=(Hu (Bm (fF (cS.take j1))) l l.length).2 (j1-k) be g1;obtain⟨b,hb,eb⟩:=NC (Bm t2) l l.length (j2-k) be g2;have Qh:=(Hu (Bm (fF (cS.take j1))) l l.length).1 a ea;have hla:l[a]? =some (fF (cS.take j1)):=by
      have h:=hg1 a Qh.1;rw[aL,ay Qh.2]at h;rw[ay Qh.2];exact aN some h
     rw[ea,eb];clear k1 k2 g1 g2 hg1 hgd Qh ea eb hc hr8 hr9 h1 h2 s2;refine cV U ?_;refine fR ki (ahP q1 q2 l l a b (Int.ofNat l.length)) (dG ?_);refine⟨fm (by rw[bw dh]) (eR (by rw[bw dh])),fun s' dL=>c6 dL ?_⟩;show TG ak 3 Tryz.f9.ntmps (de 14 rJ) (PB q1 l a []) _;have hR:(cS.take j1).length=j1:=by rw[aX];omega
     rw[<- hR]at s1;have s1:oS q1 (cS.take j1) (cS.take j1).length [fF (cS.take j1)]:=by rw[hR]at s1 ⊢;exact s1
     have iY:=NB hla;generalize cS.take j1=R at s1 hla iY hR;have c20:=(wF s1 be).h20;refine cV U ?_;refine fR (ki.jt FE (Hv c20)) (ahQ q1 l a (Int.ofNat (fF R).cs.length)) (dG ?_);refine⟨eR ⟨rfl,rfl,rfl⟩,fun s' dL=>c6 dL ?_⟩;refine cV U ?_;refine fR (ki.jt YU (Hv s1.size)) (ahR q1 l a (Int.ofNat (fF R).cs.length) (Int.ofNat (cW R).length)) (dG ?_);refine⟨eR ⟨rfl,rfl,rfl⟩,fun s' dL=>c6 dL ?_⟩;obtain⟨q3,j,_,c3,u1,u2,s3,_⟩:=BZ s1 be 255 dP;obtain rfl:j=R.length:=by omega
     rw[aS]at s3;refine cV U ?_;refine fR (ki.jt FF (aco (z:=255) c3)) (ahS q1 q3 l a (Int.ofNat (fF R).cs.length) (Int.ofNat (cW R).length)) (dG ?_);refine⟨eR ⟨rfl,rfl,rfl⟩,fun s' dL=>c6 dL ?_⟩;refine cV U ?_;refine fR (ki.jt FG (JO (s3.same be l))) (ahT q3 l a (Int.ofNat (fF R).cs.length) (Int.ofNat (cW R).length) (fF R)) (dG ?_);refine⟨fm iY.1 (fm iY.2.1 (fm iY.2.2 (eR ⟨rfl,rfl,rfl⟩))),fun s' dL=>c6 dL ?_⟩;obtain⟨q4,c4,s4⟩:=s3.aci be;refine cV U ?_;refine fR (ki.jt FF (acp c4)) (ahU q3 q4 l a (Int.ofNat (fF R).cs.length) (Int.ofNat (cW R).length)) (dG ?_);refine⟨eR ⟨rfl,rfl,rfl⟩,fun s' dL=>c6 dL ?_⟩;have c20:=(wF s4 be).h20;refine fu (((ki.jt FG (JO (s4.same be l))).jt FE (Hv c20)).jt YU (Hv s4.size)) (ahV q4 l a (Int.ofNat (fF R).cs.length) (Int.ofNat (cW R).length) (fF R)) (dG ?_);exact⟨fm iY.1 (fm iY.2.1 (fm iY.2.2 (fm ⟨rfl,rfl,rfl⟩ (fm ⟨rfl,rfl,rfl⟩ (fm (by rw[cE]) (fm ⟨rfl,rfl,rfl⟩ (eR (by rw[cE])))))))),_,_,_,rfl,rfl⟩
end Go.Proofs.YtfihojpgobmmdaaGreatDoor
