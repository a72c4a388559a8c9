/- The Chunk laws: the store's methods, each to a store afresh: Compact, Crash; what a store tells. No conditions. -/
import Derived.Test.YtfihojpgobmmdaaGreatDoorJointW21
import Derived.Test.YtfihojpgobmmdaaGreatDoorJointW17
set_option linter.unusedVariables false
set_option linter.unusedSimpArgs false
set_option linter.unusedSectionVars false
set_option maxRecDepth 20000
namespace Go.Proofs.YtfihojpgobmmdaaGreatDoor
open Go Go.Eng
section
variable(fl nx lf:Int)
theorem VZ:cT ak 81 [.fn (.yield 12) [] [],P 9] (OB fl nx lf) 13 (.eo []) (OB fl nx lf) 13:=by
 refine fO.is (gB mo po Tryz.func81 (code:=D4) U U ?_);rw[adX];refine yW (v0:=.map (some 8)) (jY:=(cR [.fn (.yield 12) [] [],P 9] (OB fl nx lf) 13).fr.set 4 (some (.map (some 8)))) (zB:=((cR [.fn (.yield 12) [] [],P 9] (OB fl nx lf) 13).fr.set 4 (some (.map (some 8)))).set 5 (some (P 13))) (m:=8) (kd:=none) (es:=[]) mo Ma
  U U U U (au rfl) U (fun _ s1=>eU 14 [0,5] s1=some (VT fl nx lf)) U ?_
 rintro iy left s1 hs hp;have hz:iy=[]/\left=[]:=List.append_eq_nil_iff.1 hp.eq_nil;obtain⟨rfl,rfl⟩:=hz;refine⟨[0,5],_,hs,U,fun _=>?_,fun e j9 he2=>?_⟩
 . exact⟨(VT fl nx lf).fr.set 6 (some (.eo [.bool false])),{ VT fl nx lf with fr:=((VT fl nx lf).fr.set 6 (some (.eo [.bool false]))).set 7 (some (.bool false)) },U,U,U,.inl rfl,.eo [],OB fl nx lf,13,U,rfl,rfl,rfl⟩
 . have:=he2.length_eq;simp at this
theorem SJ:cT ak 100 [eH,g81] (sF fl nx lf) 10 eH (sF fl nx lf) 10:=by
 refine cZ Tryz.func100 (code:=QU) U U ?_;refine iJ  1 (XQ []) (aod fl nx lf) cQ ?_;refine cV U ?_;refine cV U ?_;refine fV (XQ []) (aoe fl nx lf) (dI ?_);refine⟨cQ,fun s' dX=>c6 dX ?_⟩;refine fh (i:=0) U ?_;refine oe (gf:=81) (lb:=[P 9]) U U U U U (VZ fl nx lf).one ?_;rintro v h n ⟨rfl,rfl,rfl⟩;refine⟨U,?_⟩;refine fu (XQ []) (aof fl nx lf) (dI ?_);exact⟨cQ,_,_,_,rfl,rfl,rfl,rfl⟩
theorem V0:cT ak 79 [g81] (sF fl nx lf) 10 eH (sF fl nx lf) 10:=by
 refine cZ Tryz.func79 (code:=KM) U U ?_;refine iJ  1 (XQ []) (aog fl nx lf) cQ ?_;refine cV U ?_;refine pW 1 (s1:={ fr:=(AO [(0,g81)]).set 3 (some g81),h:=sF fl nx lf,n:=10,gu:=[] }) (f:=100) (args:=[eH,g81]) U U U U U U (SJ fl nx lf).one ?_;rintro v h n ⟨rfl,rfl,rfl⟩;refine⟨(((AO [(0,g81)]).set 3 (some g81)).set 4 (some eH)),sC8 (sF fl nx lf) 10 eH,U,U,?_⟩;refine fu (XQ []) (aoh fl nx lf) (dI ?_);exact⟨cQ,_,_,_,rfl,rfl,rfl,rfl⟩
theorem V1:cT ak 54 [g81,g56] (sF fl nx lf) 10 eH (sF fl nx lf) 10:=by
 refine cZ Tryz.func54 (code:=KL) U U ?_;refine iJ  1 (XQ []) (aoi fl nx lf) cQ ?_;refine cV U ?_;refine pW 1 (s1:={ fr:=(AO [(0,g81),(1,g56)]).set 6 (some g81),h:=sF fl nx lf,n:=10,gu:=[] }) (f:=79) (args:=[g81]) U U U U U U (V0 fl nx lf).one ?_;rintro v h n ⟨rfl,rfl,rfl⟩;refine⟨(((AO [(0,g81),(1,g56)]).set 6 (some g81)).set 7 (some eH)),sS8 (sF fl nx lf) 10 eH,U,U,?_⟩;refine fu (XQ []) (agf fl nx lf) (dI ?_);exact⟨e9 ⟨dN,dN⟩,_,_,_,rfl,rfl,rfl,rfl⟩
def ago:List (Option Nat):=[some 0,some 1,some 2,some 3,none,some 5,some 6,some 19]
def agp:List (Option Nat):=[some 0,some 1,some 2,some 3,none,some 5,some 6,some 7,some 20,some 21]
def abd:List (Option Nat):=[some 0,some 1,some 2,some 3,none,some 5,some 6]
theorem abe:Ak 19 [] (sZ fl nx lf) (.int .i64 0) (sZ 0 0 lf):=by
 have h51:cT ak 51 [P3,v78] (hL (kNc fl nx lf)) 20 (.map (some 20)) (hL (kNd fl nx lf)) 21:=
  fR (ns:=ago) (jw U U U U U) U U (Vd fl nx lf)
 have h54:cT ak 54 [v81,v56] (hL (kNe fl nx lf)) 22 eH (hL (kNe fl nx lf)) 22:=
  fR (ns:=agp) (jw U U U U U) U U (V1 fl nx lf)
 have h23:cT ak 23 [P3] (hL (Tl fl nx lf)) 8 eH (hL (Tl fl nx lf)) 8:=
  fR (ns:=abd) (jw U U U U U) U U (MS fl nx lf [])
 have h57:cT ak 57 [P3] (hL (Tl 0 nx lf)) 8 (.eo []) (hL (OA [(7,.cells [P3])] 8 lf)) 10:=
  fR (ns:=abd) (jw U U U U U) U U (GF 0 nx lf [] [])
 have key:cT ak 19 [P3] (eu (pN fl nx lf [] [])) 7 (.int .i64 0) (hL (OA [] 7 lf)) 9:=by
  refine cZ Tryz.func19 (code:=NX) U U ?_;refine iJ  4 (((XQ []).ko (au U) h51).ko (au U) h54) (aoj fl nx lf) (fm ⟨rfl,rfl,rfl⟩ (e9 ⟨rfl,rfl,rfl⟩)) ?_;show TG ak 7 Tryz.f19.ntmps Tf _ _;refine cV U ?_;refine fV (XQ []) (aok fl nx lf) (dI ?_);refine⟨cQ,fun s' dX=>c6 dX ?_⟩;show TG ak 7 Tryz.f19.ntmps GL _ _;refine cV U ?_;refine fV (XT.ko (au U) h23) (agh fl nx lf) (dI ?_);refine⟨e9 ⟨rfl,rfl,rfl⟩,fun s' dX=>c6 dX ?_⟩;refine iJ  3 XT (agi fl nx lf) cQ ?_;refine fu (XT.ko (au U) h57) (agj nx lf) (dI ?_);exact⟨e9 ⟨rfl,rfl,rfl⟩,_,_,_,rfl,rfl,rfl,rfl⟩
 exact key.Ff 4 U
end
section
variable{n cO:Nat}{b:aa}{fl nx lf:Int}{es rt:ae}
theorem abf{bs:aa}{q:LS}(h:cT ak 19 [P3] (eu (pS n cO b fl nx lf es rt)) 7 (.int .i64 0) (hL (l3r b lf es rt bs 8 [] q.nx q.es q.rt)) 10):Ak 19 [] (sC n cO b fl nx lf es rt) (.int .i64 0) (sC bs.length bs.length bs (Int.ofNat bs.length) q.nx lf q.es q.rt):=by
 obtain⟨IL,mE,mP⟩:=q;exact h.Ff 4 U
theorem V2(wu:Xv es)(hn:∀x,0<=jE es x/\jE es x<1000000000):Ak 19 [] (sC n cO b fl nx lf es []) (.int .i64 0) (sZ 0 0 lf):=(U7 n cO b fl nx lf es wu hn).Ff 4 U
theorem V3(kk:Nat)(hk:kk<=1000000)(cut:Nat)(l:List jF)(x:aa)(aot:V.int aj (IntKind.i64.wrap (fl+IntKind.i64.wrap ((IntKind.i64.wrap (IntKind.i64.wrap ((Int.ofNat n)-fl)*Int.ofNat (kk%256))).tdiv (255:Int))))=iW cut)
  (hb:cut<=b.length) (WH:cut<=cO) (iA:∀r∈l,r.ok) (G3:b.take cut=cW l++x) (BW:Stop (b.take cut) (cW l).length) (lP:cut<1000000000):
  IsC (kk:Int) (sC n cO b fl nx lf es rt) (sC (cW l).length cO (cW l) (Int.ofNat (cW l).length) (iM l).nx lf (iM l).es (iM l).rt):=by
 have hc:=Mn cut cO b fl nx lf es rt l x hb iA G3 BW WH lP;have htk:b.take (cW l).length=cW l:=by
  have h1:(cW l).length<=cut:=by
   have:=aN List.length G3;rw[bg,ax]at this;omega
  have h2:(b.take cut).take (cW l).length=cW l:=by rw[G3,bW (aA _),aT]
  rw[List.take_take,Nat.min_eq_left h1]at h2;exact h2
 generalize cW l=bs at hc htk ⊢;generalize iM l=q at hc ⊢;obtain⟨IL,mE,mP⟩:=q;have h57:cT ak 57 [P3] (hL (lQx cut cO b fl nx lf es rt [(7,.cells [.int .i64 (kk:Int)])])) 35 (.eo []) (hL (SF bs.length cO b (Int.ofNat bs.length) IL lf es rt [(7,.cells [.int .i64 (kk:Int)])] 35 mE mP)) 37:=by
  generalize bs.length=c2 at hc ⊢;exact fR (ns:=ns7) (jw U U U U U) U U hc
 have key:cT ak 31 [P3,.di (some (7,0)) 1 1 1] (hL (lQx n cO b fl nx lf es rt [(7,.cells [.int .i64 (kk:Int)])])) 8 (.eo []) (hL (SF bs.length cO b (Int.ofNat bs.length) IL lf es rt [(7,.cells [.int .i64 (kk:Int)])] 8 mE mP)) 10:=by
  refine cZ Tryz.func31 (code:=VQ) U U ?_;refine ru (nu.ko (au U) h57) mo _ U (an3 n cO cut b fl nx lf es rt (kk:Int) (kk%256) bs.length IL mE mP) (dI ?_);exact⟨fm ⟨dN,dN⟩ (fm (Am hk) (fm dN (fm aot (fm ⟨az _,de⟩ (e9 ⟨rfl,rfl,rfl⟩))))),_,_,_,rfl,rfl,rfl,rfl⟩
 have st:Step 8 (IZ (.eo []) (hL (SF bs.length cO b (Int.ofNat bs.length) IL lf es rt [(7,.cells [.int .i64 (kk:Int)])] 8 mE mP)) 10) (IZ (.eo []) (hL (crR (sC bs.length cO bs (Int.ofNat bs.length) IL lf mE mP))) (nC (sC bs.length cO bs (Int.ofNat bs.length) IL lf mE mP))):=by
  have h1:=Step.trim (n0:=8) (s:=IZ (.eo []) (hL (SF bs.length cO b (Int.ofNat bs.length) IL lf es rt [(7,.cells [.int .i64 (kk:Int)])] 8 mE mP)) 10) (m:=4) (el:=5) (t:=b) bs.length U U;rw[htk]at h1;generalize bs.length=c2 at h1 ⊢;exact h1.trans (.Ff 4 (live:=[0]) U)
 exact key.step st
theorem V4(kk:Nat)(hk:kk<=1000000):IsC (kk:Int) (sZ 0 nx lf) (sZ 0 0 lf):=by
 have h57:cT ak 57 [P3] (hL (VR [(7,.cells [.int .i64 (kk:Int)])] 0 nx lf)) 35 (.eo []) (hL (OA [(7,.cells [.int .i64 (kk:Int)])] 35 lf)) 37:=
  fR (ns:=abd) (jw U U U U U) U U (GF 0 nx lf [] [])
 have key:cT ak 31 [P3,.di (some (7,0)) 1 1 1] (hL (VR [(7,.cells [.int .i64 (kk:Int)])] 0 nx lf)) 8 (.eo []) (hL (OA [(7,.cells [.int .i64 (kk:Int)])] 8 lf)) 10:=by
  refine cZ Tryz.func31 (code:=VQ) U U ?_;refine ru (nu.ko (au U) h57) mo _ U (an4 0 nx lf (kk:Int) (kk%256)) (dI ?_);refine⟨fm ⟨dN,dN⟩ (fm (Am hk) (fm dN (fm ?_ (fm ⟨dN,dN⟩ (e9 ⟨rfl,rfl,rfl⟩))))),_,_,_,rfl,rfl,rfl,rfl⟩;show V.int aj (IntKind.i64.wrap ((0:Int)+IntKind.i64.wrap ((IntKind.i64.wrap (IntKind.i64.wrap ((0:Int)-0)*Int.ofNat (kk%256))).tdiv (255:Int))))=iW 0;rw[show IntKind.i64.wrap ((0:Int)-0)=0 from rfl,Int.zero_mul];rfl
 exact key.step (.Ff 4 (live:=[0]) U)
end
section
variable(n cO:Nat)(b:aa)(fl nx lf:Int)(es rt:ae)
theorem V5(hk:za rt)(hl:rt.length<1000000):cT ak 23 [P3] (eu (pS n cO b fl nx lf es rt)) 7 (qJ (iL (dH rt))) (eu (pS n cO b fl nx lf es rt)) 7:=by
 have hc:=GK n cO b fl nx lf es rt hk hl;generalize iL (dH rt)=zs at hc ⊢
 match zs,hc with
 | [],hc=>exact cT.nil (z:=0) false hc
 | [x],hc=>
   refine hc.step ((Step.ZV [7] (A:=[[D.str x].length=1*1]) (s2:=IZ (.dL false 1 [.str x]) ((hKf n cO b fl nx lf es rt [(7,.cells [.str x])]).set 7 none) 8) U (e9 rfl)).trans (.norm (live:=[0]) U))
 |x::y::zs,hc=>
  have e:strs (x::y::zs)=strs (x::y::zs):=rfl;have hc:cT ak 23 [P3] (eu (pS n cO b fl nx lf es rt)) 7 (.di (some (7,0)) (x::y::zs).length (x::y::zs).length 1) (hKf n cO b fl nx lf es rt [(7,.deep (strs (x::y::zs)))]) 8:=hc;generalize x::y::zs=us at hc ⊢;refine hc.step ((Step.ZV [7] (A:=[(strs us).length=us.length*1]) (s2:=IZ (qJ us) ((hKf n cO b fl nx lf es rt [(7,.deep (strs us))]).set 7 none) 8) U (e9 (by rw[eI,bj]))).trans (.norm (live:=[0]) U))
theorem V6:cT ak 20 [P3] (eu (pS n cO b fl nx lf es rt)) 7 (.int .i64 (Int.ofNat es.length)) (eu (pS n cO b fl nx lf es rt)) 7:=by
 refine cZ Tryz.func20 (code:=dU Tryz.f20) U U ?_;refine fu (XQ []) (aor n cO b fl nx lf es rt) (dI ?_);exact⟨cQ,_,_,_,rfl,rfl,rfl,rfl⟩
theorem agq(cs:List gK)(k:Nat)(yv:aa->aa)(hk:za rt)(hl:rt.length<1000000)(Js:DM rt)(he:∀x∈iE rt,Ends es k x)
  (oQ:∀c∈cs,c.rs.length<=1000000/\∃i,dc (.str c.dg) es=some (pO c.da c.rs i)) (hyv:∀x∈iL (dH rt),dc (.str x) rt=some (.str (yv x))):
  Obs (sC n cO b fl nx lf es rt) es.length (iL (dH rt)) cs (fun d=>decide (d∈pQ es rt k)) yv where
 h23:=V5 n cO b fl nx lf es rt hk hl
 h20:=V6 n cO b fl nx lf es rt
 h25:=fun c hc=>by
  obtain⟨h1,i,h2⟩:=oQ c hc;exact UU n cO b fl nx lf es rt c.dg c.da c.rs i h2 h1
 h18:=fun c hc=>by
  obtain⟨h1,i,h2⟩:=oQ c hc;exact UW n cO b fl nx lf es rt c.dg ⟨_,_,_,h2⟩
 h17:=fun c _=>Vb n cO b fl nx lf es rt k c.dg Js he
 h24:=fun x hx=>K0 n cO b fl nx lf es rt x (yv x) (hyv x hx)
theorem agr(lv:aa->Bool)(yv:aa->aa):Obs (sZ fl nx lf) 0 [] [] lv yv where
 h23:=cT.nil (z:=0) false (MS fl nx lf [])
 h20:=by
  refine cZ Tryz.func20 (code:=dU Tryz.f20) U U ?_;refine fu (XQ []) (aos fl nx lf) (dI ?_);exact⟨cQ,_,_,_,rfl,rfl,rfl,rfl⟩
 h25:=fun _ h=>by cases h
 h18:=fun _ h=>by cases h
 h17:=fun _ h=>by cases h
 h24:=fun _ h=>by cases h
end
section
variable(cS:List jF)(k:Nat)
def pn:List RS:=(List.range' k (cS.length-k)).map fun i=>ga (cS.take i)
def oq:List RS:=pn cS k++[ga cS]
abbrev V7(f cO:Nat):jm:=sC (cW cS).length cO (cW cS) (Int.ofNat f) (iM cS).nx 0 (iM cS).es (iM cS).rt
end
structure rF(p:jm)(cS:List jF)(k:Nat)(l:List RS):Prop where
 MT:(cS=[]/\p=sZ 0 0 0)\/∃cO,0<cO/\(cW cS).length<=cO/\p=V7 cS (cW (cS.take k)).length cO
 val:MP jI cS
 kle:k<=cS.length
 fo:l=oq cS k
theorem ags:rF (sZ 0 0 0) [] 0 [jI]:=⟨.inl ⟨rfl,rfl⟩,trivial,aA _,rfl⟩
section
variable(cS:List jF)(k:Nat)
theorem Aq:(pn cS k).length=cS.length-k:=by unfold pn;rw[aY,List.length_range']
theorem Dw:(oq cS k).length=cS.length-k+1:=by unfold oq;rw[ax,Aq];rfl
theorem Dx{cS:List jF}{k i:Nat}(hk:k<=cS.length)(hi:i<=cS.length-k):(oq cS k)[i]? =some (ga (cS.take (k+i))):=by
 unfold oq;rw[bR,Aq];by_cases h:i<cS.length-k
 . rw[aG h];unfold pn;rw[br,List.getElem?_range' h];simp
 . rw[aI h];have e:i=cS.length-k:=by omega
   subst e;rw[Nat.sub_self,show k+(cS.length-k)=cS.length by omega,aT];rfl
theorem Jg{cS:List jF}{k:Nat}(hk:k<=cS.length)(r:jF):oq (cS++[r]) k=oq cS k++[Ao (ga cS) r]:=by
 unfold oq;have h1:pn (cS++[r]) k=pn cS k++[ga cS]:=by
  unfold pn;rw[ax,show cS.length+[r].length-k=(cS.length-k)+1 by simp;omega,List.range'_1_concat,aX,show k+(cS.length-k)=cS.length by omega];congr 1
  . refine List.map_congr_left fun i hi=>?_;have:=List.mem_range'_1.1 hi;rw[bW be]
  . rw[List.map_singleton,List.take_left'];rfl
 rw[h1];congr 1;unfold ga;rw[List.foldl_append];rfl
theorem qF:oq cS cS.length=[ga cS]:=by
 unfold oq pn;rw[Nat.sub_self];rfl
theorem V8:nmO (MD k):=by
 unfold MD;have h:=Nat.mod_lt k (show 0<5 by decide);rcases(by omega:k%5=0\/k%5=1\/k%5=2\/k%5=3\/k%5=4)with e|e|e|e|e<;>rw[e]<;>exact⟨_,rfl,dN,dN⟩
end
theorem Fq:∀(l:List (aa×aa)) (lo:Nat),Oy l->(∀p∈l,∃c:UInt8,p.1=[c]/\lo<=c.toNat/\c.toNat<115)->l.length<=115-lo
 | [],_,_,_=>aW _
 |p::l,lo,hs,h=>by
  obtain⟨h1,h2⟩:=qE.1 hs;obtain⟨c,hc,yp,LH⟩:=h p (by simp);have:=Fq l (c.toNat+1) h2 fun q hq=>by
   obtain⟨e,he,_,hh⟩:=h q (by simp[hq]);have fE:=h1 q hq;rw[hc,he]at fE;have:c<e:=by
    rcases List.cons_lt_cons_iff.1 fE with h|⟨_,h⟩
    . exact h
    . exact absurd h (List.lt_irrefl _)
   exact⟨e,he,this,hh⟩
  rw[aS];omega
theorem nv.ro5{s:RS}(h:nv s):s.ro.length<=18:=by
 have:=Fq s.ro 97 h.Tk fun p hp=>(h.rv p hp).1;omega
theorem nmO.ok{n:aa}(h:nmO n):UO n:=by
 obtain⟨c,rfl,_⟩:=h;exact⟨by simp,by simp⟩
theorem rF.all{p:jm}{cS:List jF}{k:Nat}{l:List RS}(h:rF p cS k l)(hB:cS.length<=3000):nv (ga cS)/\DO (iM cS) (ga cS)/\(ga cS).cs.length<=cS.length/\(∀r∈cS,r.ok)/\(cW cS).length<=180*cS.length:=by
 have:=BE h.val wf0 aa6 (by show 0+cS.length<=1000000;omega);refine⟨this.1,this.2.1,?_,this.2.2.2.1,this.2.2.2.2⟩;have h2:=this.2.2.1;have h3:(0:Nat)+cS.length=cS.length:=bH _;exact bU h2 (by show 0+cS.length<=cS.length;omega)
theorem tL{L:LS}{s:RS}(h:nv s)(g:DO L s)(x:aa):0<=gj s.cs x↔D3 L.es x:=by
 rw[oo h.nd,g.es];constructor
 . rintro⟨j,c,hj,rfl⟩;exact⟨_,_,_,lM h.nd hj⟩
 . rintro⟨d,rs,k,hk⟩;rcases An s.cs x with q|q
   . rw[pX q]at hk;cases hk
   . exact q
theorem Lt{L:LS}{s:RS}(h:nv s)(g:DO L s){x:aa}(hx:gj s.cs x<0):dc (.str x) L.es=none:=by
 rw[g.es];exact pX ((pY h.nd).1 hx)
theorem Fs{α:Type}(P:α->Prop):∀(rs:List α),(∃x∈rs,P x)->∃(j:Nat) (x:α),rs[j]? =some x/\P x/\∀(i:Nat) (y:α),i<j->rs[i]? =some y->¬P y
 | [],⟨_,h,_⟩=>by cases h
 |a::rs,⟨x,hx,hp⟩=>by
  by_cases ha:P a
  . exact⟨0,a,rfl,ha,fun i _ hi=>absurd hi (Nat.not_lt_zero i)⟩
  . have:∃x∈rs,P x:=by
     rcases aE.1 hx with rfl|hx
     . exact absurd hp ha
     . exact⟨x,hx,hp⟩
    obtain⟨j,y,h1,h2,h3⟩:=Fs P rs this;refine⟨j+1,y,by simpa using h1,h2,fun i z hi hz=>?_⟩;cases i with
    |zero=>simp at hz;subst hz;exact ha
    |succ i=>exact h3 i z be (by simpa using hz)
section
variable{p:jm}{cS:List jF}{k:Nat}{l:List RS}
theorem rF.more(h:rF p cS k l)(r:jF)(a:VM (ga cS) r)(cO:Nat)(nw:(cW cS).length+r.bytes.length<=cO):
  rF (sC ((cW cS).length+r.bytes.length) cO (cW cS++r.bytes) (Int.ofNat (cW (cS.take k)).length) (By (iM cS) r).nx 0 (By (iM cS) r).es (By (iM cS) r).rt) (cS++[r]) k (l++[Ao (ga cS) r]):=by
 have e1:cW (cS++[r])=cW cS++r.bytes:=vo cS r;have e2:iM (cS++[r])=By (iM cS) r:=by unfold iM;rw[List.foldl_append];rfl
 have e3:(cS++[r]).take k=cS.take k:=bW h.kle;have mz:=og (r:=r);refine⟨.inr ⟨cO,be,by rw[e1,ax];exact nw,?_⟩,BD.2 ⟨h.val,a,trivial⟩,by rw[ax];have:=h.kle;simp;omega,by rw[h.fo,Jg h.kle]⟩;unfold V7;rw[e1,e2,e3,ax]
theorem wo(h:rF p cS k l)(hB:cS.length<=2500)(d:aa)(rs:List (aa))(hd:d.length<=60)(M2:rs.length<=3)(h32:∀x∈rs,x.length=32)(hz:cS=[]->rs.length<=1):
  ∃q qG,(p.lo=none\/q.lo≠none)/\Ak 15 [.str d,qJ rs] p (.eo [.str (kV (ga cS) d rs).dg,.int .i64 (kV (ga cS) d rs).er]) q/\rF q qG k (vt l (kV (ga cS) d rs))/\qG.length<=cS.length+1:=by
 obtain⟨hw,hg,rD,iA,Th⟩:=h.all be;by_cases hm:∃x∈rs,gj (ga cS).cs x<0
 . have hr:kV (ga cS) d rs=⟨ga cS,[],63,false⟩:=by unfold kV;rw[aG hm]
   rw[hr];refine⟨p,cS,?_,?_,by unfold vt;rw[aI Bool.false_ne_true];exact h,be⟩
   . rcases h.MT with⟨_,e⟩|⟨cO,_,_,e⟩
     . exact .inl (by rw[e];rfl)
     . exact .inr (by rw[e];intro z;cases z)
   . rcases h.MT with⟨e0,e⟩|⟨cO,sW,Bi,e⟩
     . rw[e];have h1:=hz e0;obtain⟨x,hx,_⟩:=hm
       match rs,h1,hx,h32 with
       | [y],_,hx,h32=>exact agn be (h32 y (by simp))
       | [],_,hx,_=>cases hx
       |_::_::_,h1,_,_=>simp at h1
     . rw[e];obtain⟨j,x,h1,h2,h3⟩:=Fs (fun x=>gj (ga cS).cs x<0) rs hm;exact agm be be h32 j x h1 (Lt hw hg h2) fun i y hi hy=>(tL hw hg y).1 (by have:=h3 i y hi hy;omega)
 . have uQ:∀x∈rs,0<=gj (ga cS).cs x:=fun x hx=>by
    by_cases q:0<=gj (ga cS).cs x
    . exact q
    . exact absurd ⟨x,hx,be⟩ hm
   by_cases hf:0<=gj (ga cS).cs (dJ d rs)
   . have hr:kV (ga cS) d rs=⟨ga cS,dJ d rs,0,false⟩:=by unfold kV;rw[aI hm,aG hf]
     rw[hr];refine⟨p,cS,?_,?_,by unfold vt;rw[aI Bool.false_ne_true];exact h,be⟩
     . rcases h.MT with⟨_,e⟩|⟨cO,_,_,e⟩
       . exact .inl (by rw[e];rfl)
       . exact .inr (by rw[e];intro z;cases z)
     . rcases h.MT with⟨e0,e⟩|⟨cO,sW,Bi,e⟩
       . exact absurd hf (by rw[e0];show ¬(0:Int)<= -1;decide)
       . rw[e];exact agk be be h32 (fun x hx=>(tL hw hg x).1 (uQ x hx)) ((tL hw hg _).1 hf)
   . have hr:kV (ga cS) d rs=⟨⟨(ga cS).cs++[⟨dJ d rs,d,rs⟩],(ga cS).ro⟩,dJ d rs,0,true⟩:=by unfold kV;rw[aI hm,aI hf]
     rw[hr];have ha:VM (ga cS) (.chunk d rs):=⟨hd,M2,uQ,be⟩;have N8:(gJ d rs).length<=180:=(Lr hw ha).2;have hu:vt l ⟨⟨(ga cS).cs++[⟨dJ d rs,d,rs⟩],(ga cS).ro⟩,dJ d rs,0,true⟩=l++[Ao (ga cS) (.chunk d rs)]:=by unfold vt;rw[aG rfl];rfl
     rw[hu];have hs:=h.more (.chunk d rs) ha ((cW cS).length+(gJ d rs).length) (aA _);refine⟨_,cS++[.chunk d rs],.inr (fun z=>by cases z),?_,hs,by rw[ax];exact aA _⟩;rcases h.MT with⟨e0,e⟩|⟨cO,sW,Bi,e⟩
     . have aou:rs=[]:=by
        cases rs with
        |nil=>rfl
        |cons x rs=>exact absurd (uQ x (by simp)) (by rw[e0];show ¬(0:Int)<= -1;decide)
       have OJ:k=0:=by have:=h.kle;rw[e0]at this;simpa using this
       subst e0 aou OJ;rw[e];have:=VU (fl:=0) (nx:=0) (lf:=0) (d:=d) be;have e1:(cW []).length+(jF.chunk d []).bytes.length=(gJ d []).length:=bH _;have e2:cW []++(jF.chunk d []).bytes=gJ d []:=rfl;have e3:(cW []).length+(gJ d []).length=(gJ d []).length:=bH _;rw[e1,e2,e3];exact this
     . rw[e];exact agl be be h32 (fun x hx=>(tL hw hg x).1 (uQ x hx)) (Lt hw hg be) sW rfl be
end
section
variable{L:LS}{p:jm}{s:RS}{cS:List jF}{k:Nat}{l:List RS}
theorem V9(g:DO L s):RtE L.rt:=fun n=>by
 rw[g.lk n];split
 . exact .inl rfl
 . exact .inr ⟨_,rfl⟩
theorem Jh(h:rF p cS k l)(hB:cS.length<=2500){nm:aa}(hy:nmO nm)(x:aa)(hx:x=[]\/x.length=32):
  ∃q qG,(p.lo=none\/q.lo≠none)/\Ak 16 [.str nm,.str x] p (.int .i64 (oL (ga cS) nm x).er) q/\rF q qG k (vt l (oL (ga cS) nm x))/\qG.length<=cS.length+1:=by
 obtain⟨hw,hg,rD,iA,Th⟩:=h.all be;have hn:=hy.ok;have LB:=hn.2;have yp:p.lo=none\/p.lo≠none:=by
  cases e:p.lo with
  |none=>exact .inl rfl
  |some _=>exact .inr (by simp)
 by_cases c1:x≠[]/\gj (ga cS).cs x<0
 . have hr:oL (ga cS) nm x=⟨ga cS,[],62,false⟩:=by unfold oL;rw[aG c1]
   rw[hr];refine⟨p,cS,yp,?_,by unfold vt;rw[aI Bool.false_ne_true];exact h,be⟩;rcases h.MT with⟨e0,e⟩|⟨cO,sW,Bi,e⟩
   . rw[e];exact VW hn c1.1
   . rw[e];exact SH (KY _ _ _ _ _ _ _ _ _ _ (V9 hg) hn c1.1 (Lt hw hg c1.2))
 . have hfx:x=[]\/0<=gj (ga cS).cs x:=by
    by_cases q:x=[]
    . exact .inl q
    . exact .inr (by
       by_cases z:0<=gj (ga cS).cs x
       . exact z
       . exact absurd ⟨q,be⟩ c1)
   by_cases c2:x=gG nm (ga cS).ro
   . have hr:oL (ga cS) nm x=⟨ga cS,[],0,false⟩:=by unfold oL;rw[aI c1,aG c2]
     rw[hr];refine⟨p,cS,yp,?_,by unfold vt;rw[aI Bool.false_ne_true];exact h,be⟩;rcases h.MT with⟨e0,e⟩|⟨cO,sW,Bi,e⟩
     . have:x=[]:=by rw[c2,e0];rfl
       rw[e,this];exact VV hn
     . rw[e];have hl:=hg.lk nm;rw[<- c2]at hl;by_cases q:x=[]
       . rw[aG q]at hl;subst q;exact SH (Oc _ _ _ _ _ _ _ _ _ hn hl)
       . rw[aI q]at hl;have hf:0<=gj (ga cS).cs x:=hfx.resolve_left q;exact SH (Oa _ _ _ _ _ _ _ _ _ _ hn q ((tL hw hg x).1 hf) hl)
   . have hr:oL (ga cS) nm x=⟨⟨(ga cS).cs,lJ nm x (eE x []) (ga cS).ro⟩,[],0,true⟩:=by unfold oL;rw[aI c1,aI c2]
     rw[hr];have ha:VM (ga cS) (.root nm x):=⟨hy,hfx,c2⟩;have N8:(kN nm x).length<=180:=(Lr hw ha).2;have hu:vt l ⟨⟨(ga cS).cs,lJ nm x (eE x []) (ga cS).ro⟩,[],0,true⟩=l++[Ao (ga cS) (.root nm x)]:=by unfold vt;rw[aG rfl];rfl
     rw[hu];have hs:=h.more (.root nm x) ha ((cW cS).length+(kN nm x).length) (aA _);refine⟨_,cS++[.root nm x],.inr (fun z=>by cases z),?_,hs,by rw[ax];exact aA _⟩;rcases h.MT with⟨e0,e⟩|⟨cO,sW,Bi,e⟩
     . exfalso;rcases hfx with q|q
       . exact c2 (by rw[q,e0];rfl)
       . rw[e0]at q;exact absurd q (by show ¬(0:Int)<= -1;decide)
     . rw[e];have hl:=hg.lk nm;have wR:(iM cS).rt.length<64:=by have:=vw hw hg;have:=hw.ro5;omega
       by_cases q:x=[]
       . subst q;have fL:gG nm (ga cS).ro≠[]:=fun z=>c2 z.symm;rw[aI fL]at hl;have ea:(By (iM cS) (.root nm []))=⟨(iM cS).nx,(iM cS).es,lB (.str nm) (iM cS).rt⟩:=rfl;rw[ea];exact Ls (Rp _ _ _ _ _ _ _ _ _ _ hn hl fL sW rfl be)
       . have hf:0<=gj (ga cS).cs x:=hfx.resolve_left q;have h32:x.length=32:=hx.resolve_left q;have ea:(By (iM cS) (.root nm x))=⟨(iM cS).nx,(iM cS).es,gY (.str nm) (.str x) (iM cS).rt⟩:=by
          show LS.mk _ _ (if x=[]then _ else _)=_;rw[aI q]
         rw[ea];by_cases w:gG nm (ga cS).ro=[]
         . rw[aG w]at hl;exact Ls (Rn _ _ _ _ _ _ _ _ _ _ hn q be ((tL hw hg x).1 hf) hl wR sW rfl be)
         . rw[aI w]at hl;exact Ls (Ro _ _ _ _ _ _ _ _ _ _ _ hn q be ((tL hw hg x).1 hf) hl c2 sW rfl be)
theorem OC(h:rF p cS k l):∃q,(p.lo=none\/q.lo≠none)/\Ak 66 [] p (.int .i64 0) q/\rF q cS cS.length [ga cS]:=by
 rcases h.MT with⟨e0,e⟩|⟨cO,sW,Bi,e⟩
 . refine⟨sZ 0 0 0,.inl (by rw[e];rfl),by rw[e];exact VY,⟨.inl ⟨e0,rfl⟩,h.val,aA _,(qF cS).symm⟩⟩
 . refine⟨_,.inr (fun z=>?_),by rw[e];exact VX,⟨.inr ⟨cO,sW,Bi,?_⟩,h.val,aA _,(qF cS).symm⟩⟩
   . cases z
   . rw[aT]
theorem Ji(cs:List gK)(bs:List Bool):(kU cs bs).length<=cs.length:=(pZ cs bs).length_le
theorem SL(h:nv s)(e:s.ro=[]):(iF s).cs=[]:=by
 cases q:(iF s).cs with
 |nil=>rfl
 |cons c l=>
  have h0:(kU s.cs (fc s))[0]? =some c:=by
   have:kU s.cs (fc s)=c::l:=q;rw[this];rfl
  obtain⟨m,h1,h2,_⟩:=sE _ _ _ _ h0;obtain⟨_,_,p,hp,_⟩:=(kept h h1).1 h2;rw[e]at hp;cases hp
theorem GW(h:nv s){m:Nat}{c:gK}(hc:s.cs[m]? =some c):jE (oh s.cs 0) c.dg=(m:Int):=by
 unfold jE;rw[lM h.nd hc,bH];rfl
theorem SM(h:nv s):(s.cs.map gK.dg).Pairwise fun a b=>jE (oh s.cs 0) a<jE (oh s.cs 0) b:=by
 rw[List.pairwise_iff_getElem];intro i j hi hj OM;rw[aY]at hi hj;rw[List.getElem_map,List.getElem_map,GW h (ay hi),GW h (ay hj)];omega
theorem Dy(h:nv s)(hl:s.cs.length<=1000000)(x:aa):0<=jE (oh s.cs 0) x/\jE (oh s.cs 0) x<1000000000:=by
 rcases An s.cs x with q|⟨j,c,hj,rfl⟩
 . unfold jE;rw[pX q];exact⟨dN,dN⟩
 . rw[GW h hj];have:=(aF.1 hj).1;omega
theorem SN(h:nv s):Xv (oh s.cs 0):=fun x=>by
 rcases An s.cs x with q|⟨j,c,hj,rfl⟩
 . exact .inl (pX q)
 . exact .inr ⟨_,_,_,lM h.nd hj⟩
theorem Dz(h:nv s)(x:aa):x∈(iF s).cs.map gK.dg↔∃m c,s.cs[m]? =some c/\c.dg=x/\RI s m:=by
 rw[bA];constructor
 . rintro⟨c,hc,rfl⟩;obtain⟨i,hi⟩:=bT.1 hc;obtain⟨m,h1,h2,_⟩:=sE s.cs (fc s) i c hi;exact⟨m,c,h1,rfl,(kept h h1).1 h2⟩
 . rintro⟨m,c,hm,rfl,hr⟩;exact⟨c,Ap hm ((kept h hm).2 hr),rfl⟩
theorem OD(h:nv s)(g:DO L s):List.Perm ((iF s).cs.map gK.dg) (pQ L.es L.rt (s.cs.length+1)):=by
 refine GV (MQ h).nd ((I8 (vy h g)).nd List.nodup_nil) fun x=>?_;rw[Dz h,I9 (vy h g),g.es];constructor
 . rintro⟨m,c,hm,rfl,c',h1,p,hp,q⟩;rw[hm]at h1;cases h1;exact⟨p.2,(vx h g _).2 ⟨p,hp,rfl⟩,q⟩
 . rintro⟨d,hd,q⟩;obtain⟨p,hp,rfl⟩:=(vx h g d).1 hd;obtain⟨c,hc,rfl⟩:=Su h q (h.rv p hp).2;obtain⟨m,hm⟩:=bT.1 hc;exact⟨m,c,hm,rfl,c,hm,p,hp,q⟩
theorem OE(h:nv s)(g:DO L s):nG L.es L.rt ((iF s).cs.map gK.dg)=lT (iF s):=by
 unfold nG lT;congr 1
 . rw[List.map_map];refine List.map_congr_left fun c hc=>?_;obtain⟨j,hj⟩:=bT.1 ((pZ s.cs (fc s)).subset hc);show zb L.es c.dg=_;rw[g.es];exact GM (lM h.nd hj)
 . rw[zu h g,List.map_map];refine List.map_congr_left fun p hp=>?_;have hp:p∈s.ro:=hp;show jF.root p.1 (rcV L.rt p.1)=_;unfold rcV;rw[g.lk,tK h hp,aI (h.wm hp)]
end
theorem DA(t:RS):(lT t).length=t.cs.length+t.ro.length:=by unfold lT;rw[ax,aY,aY]
theorem Jj{p:jm}{cS:List jF}{k:Nat}{l:List RS}(h:rF p cS k l)(hB:cS.length<=2500):
  ∃q,Ak 19 [] p (.int .i64 0) q/\rF q (lT (iF (ga cS))) (lT (iF (ga cS))).length [iF (ga cS)]/\(lT (iF (ga cS))).length<=cS.length+18:=by
 obtain⟨hw,hg,rD,iA,Th⟩:=h.all be;have hwc:=MQ hw;have hv:=aa8 hwc;have iQ:(lT (iF (ga cS))).length<=cS.length+18:=by
  rw[DA];have h1:(iF (ga cS)).cs.length<=(ga cS).cs.length:=Ji _ _;have h2:=hwc.ro5;omega
 have XX:[iF (ga cS)]=oq (lT (iF (ga cS))) (lT (iF (ga cS))).length:=by rw[qF,hv.2]
 by_cases AP:(ga cS).ro=[]
 . have hcn:iF (ga cS)=⟨[],[]⟩:=by
    have h1:=SL hw AP;have h2:(iF (ga cS)).ro=[]:=AP;cases q:iF (ga cS)with
    |mk a b=>rw[q]at h1 h2;simp only at h1 h2;rw[h1,h2]
   have TC:lT (iF (ga cS))=[]:=by rw[hcn];rfl
   have Js:(iM cS).rt=[]:=by
    have:=vw hw hg;rw[AP]at this;exact cG.1 this
   refine⟨sZ 0 0 0,?_,⟨.inl ⟨TC,rfl⟩,hv.1,aA _,XX⟩,iQ⟩;rcases h.MT with⟨e0,e⟩|⟨cO,sW,Bi,e⟩
   . rw[e];exact abe 0 0 0
   . rw[e];unfold V7;rw[Js];exact V2 (by rw[hg.es];exact SN hw) (by rw[hg.es];exact Dy hw be)
 . rcases h.MT with⟨e0,e⟩|⟨cO,sW,Bi,e⟩
   . exact absurd (by rw[e0];rfl) AP
   . have asR:=(BE hv.1 wf0 aa6 (by show 0+_<=1000000;omega)).2.2.2;have U4:=OD hw hg;have XY:=OE hw hg;have asS:((iF (ga cS)).cs.map gK.dg).length<=cS.length:=by
      rw[aY];exact bU (Ji _ _) rD
     have Yf:(iF (ga cS)).cs.map gK.dg≠[]:=by
      obtain⟨pr,rest,hpr⟩:=List.exists_cons_of_ne_nil AP;have hp:pr∈(ga cS).ro:=by rw[hpr];simp
      obtain⟨c,hc,e2⟩:=(hw.rv pr hp).2;obtain⟨j,hj⟩:=bT.1 hc;have:c.dg∈(iF (ga cS)).cs.map gK.dg:=(Dz hw _).2 ⟨j,c,hj,rfl,(GU hw hj).2 (.inl ((Du _ _).2 ⟨pr,hp,e2.symm⟩))⟩;exact fun z=>by rw[z]at this;cases this
     have hc:=U6 (cW cS).length cO (cW cS) (Int.ofNat (cW (cS.take k)).length) (iM cS).nx 0 (iM cS).es (iM cS).rt ((ga cS).cs.length+1) ((iF (ga cS)).cs.map gK.dg) hg.key (vy hw hg)
      (by rw[<- U4.length_eq];omega) (by rw[hg.es];exact SN hw) (by rw[hg.es];exact Dy hw be) U4
      (by rw[hg.es];exact(SM hw).sublist ((pZ _ _).map _))
      (fun x hx=>by
       obtain⟨m,c,hm,rfl,_⟩:=(Dz hw x).1 hx;have hl:=lM (i:=0) hw.nd hm;rw[<- hg.es]at hl;refine⟨⟨_,_,_,hl⟩,?_⟩;rw[GM hl];obtain⟨n1,n2,n3⟩:=hw.nm c (aZ hm);exact⟨be,be,fun r hr=>by
        obtain⟨j,c',_,hj,e3⟩:=hw.ref m c hm r hr;rw[<- e3];exact hw.Fo (aZ hj)⟩)
      (fun nm hnm=>by
       rw[zu hw hg]at hnm;obtain⟨pr,hp,rfl⟩:=bA.1 hnm;have hl:=hg.lk pr.1;rw[tK hw hp,aI (hw.wm hp)]at hl;refine⟨⟨_,hl⟩,?_⟩;have:C8 (iM cS).rt pr.1= .root pr.1 pr.2:=by unfold C8 rcV;rw[hl]
       rw[this];obtain⟨⟨y,hy,_⟩,c,hcm,e3⟩:=hw.rv pr hp;have:[y].length=1:=rfl;have h32:=hw.Fo hcm;exact⟨by rw[hy];omega,by rw[<- e3];omega⟩)
      (by rw[vw hw hg];have:=hw.ro5;omega) (by rw[XY];omega) Yf (fun z=>AP (by
       have:=vw hw hg;rw[z]at this;exact cG.1 this.symm))
     rw[XY]at hc;refine⟨_,by rw[e];exact abf hc,⟨.inr ⟨(cW (lT (iF (ga cS)))).length,?_,aA _,?_⟩,hv.1,aA _,XX⟩,iQ⟩
     . have fL:lT (iF (ga cS))≠[]:=fun z=>Yf (by
        have:=aN List.length z;rw[DA]at this;exact cG.1 (by rw[aY];simp at this;exact this.1▸rfl))
       obtain⟨r,rest,hr⟩:=List.exists_cons_of_ne_nil fL;rw[hr,kf,ax];have:=og (r:=r);omega
     . rw[aT]
abbrev lvS(cS:List jF):aa->Bool:=fun d=>decide (d∈pQ (iM cS).es (iM cS).rt ((ga cS).cs.length+1))
abbrev yvS(cS:List jF):aa->aa:=fun x=>gG x (ga cS).ro
theorem GX{p:jm}{cS:List jF}{k:Nat}{l:List RS}(h:rF p cS k l)(hB:cS.length<=3000):Obs p (ga cS).cs.length ((ga cS).ro.map Prod.fst) (ga cS).cs (lvS cS) (yvS cS):=by
 obtain⟨hw,hg,rD,iA,Th⟩:=h.all be;rcases h.MT with⟨e0,e⟩|⟨cO,sW,Bi,e⟩
 . subst e0;rw[e];exact agr 0 0 0 _ _
 . rw[e,<- zu hw hg];have iQ:(ga cS).cs.length=(iM cS).es.length:=by rw[hg.es,I5]
   have DI:za (iM cS).rt:=fun e he=>by obtain⟨n,d,rfl⟩:=hg.key e he;exact⟨n,rfl⟩
   have:=agq (cW cS).length cO (cW cS) (Int.ofNat (cW (cS.take k)).length) (iM cS).nx 0 (iM cS).es (iM cS).rt (ga cS).cs ((ga cS).cs.length+1) (yvS cS) DI (by rw[vw hw hg];have:=hw.ro5;omega) hg.key (vy hw hg)
    (fun c hc=>by
     obtain⟨j,hj⟩:=bT.1 hc;refine⟨by have:=(hw.nm c hc).2.2;omega,((0+j:Nat):Int),?_⟩;rw[hg.es];exact lM hw.nd hj)
    (fun x hx=>by
     rw[zu hw hg]at hx;obtain⟨pr,hp,rfl⟩:=bA.1 hx;rw[hg.lk,tK hw hp,aI (hw.wm hp)];show some (D.str pr.2)=some (D.str (gG pr.1 (ga cS).ro));rw[tK hw hp])
   rw[<- iQ]at this;exact this
theorem Ft:∀(l:List jF) (s:RS),s.cs <+: (l.foldl Ao s).cs
 | [],s=>List.prefix_refl _
 |r::l,s=>by
  refine List.IsPrefix.trans ?_ (Ft l (Ao s r));cases r with
  |chunk d rs=>exact List.prefix_append _ _
  |root n x=>exact List.prefix_refl _
theorem AZ(cS:List jF)(i:Nat):(ga (cS.take i)).cs <+: (ga cS).cs:=by
 have:ga cS=(cS.drop i).foldl Ao (ga (cS.take i)):=by
  unfold ga;rw[<- List.foldl_append,ck]
 rw[this];exact Ft _ _
theorem Wa{cS:List jF}{i j:Nat}(h:(ga (cS.take j)).cs.length=(ga (cS.take i)).cs.length):(ga (cS.take i)).cs=(ga (cS.take j)).cs:=by
 have h1:=AZ cS i;have h2:=AZ cS j;exact(List.prefix_of_prefix_length_le h1 h2 be).eq_of_length h.symm
theorem SO{L:LS}{t:RS}(hw:nv t)(hg:DO L t):t.cs.map (fun c=>decide (c.dg∈pQ L.es L.rt (t.cs.length+1)))=fc t:=by
 refine List.ext_getElem? fun i=>?_;rw[br];by_cases h:i<t.cs.length
 . have hc:t.cs[i]? =some t.cs[i]:=ay h;have hr:(fc t)[i]? =some ((fc t)[i]'(by rw[wT hw];exact h)):=ay _;have hl:=SB hw hg hc;rw[aM,hr]at hl;rw[hc,hr];exact aN some hl.symm
 . rw[bP be,bP (by rw[wT hw];omega)];rfl
section
variable{p:jm}{cS:List jF}{k:Nat}{l:List RS}
theorem SP{t:RS}(hw:nv t):(t.ro.map Prod.fst).map (fun x=>(x,gG x t.ro))=t.ro:=by
 rw[List.map_map];have:∀p∈t.ro,((fun x=>(x,gG x t.ro)) ∘ Prod.fst) p=p:=fun p hp=>by
  show(p.1,gG p.1 t.ro)=p;rw[tK hw hp]
 rw[List.map_congr_left this,List.map_id']
theorem SQ(hw:nv (ga cS))(hg:DO (iM cS) (ga cS)){w:RS}(DB:(ga cS).cs.length=w.cs.length->w.cs=(ga cS).cs):
  sA (ga cS).cs.length ((ga cS).ro.map Prod.fst) (lvS cS) (yvS cS) w=true↔w=ga cS:=by
 unfold sA;rw[aC,aC,aC,decide_eq_true_iff,decide_eq_true_iff,decide_eq_true_iff,decide_eq_true_iff];have hrm:=SP hw;constructor
 . rintro⟨h1,_,_,h4⟩;have h5:=DB h1;have h4:(ga cS).ro=w.ro:=hrm.symm.trans h4;cases w with
   |mk a b=>simp only at h5 h4;rw[h5,<- h4]
 . rintro rfl;exact⟨rfl,by rw[aY],SO hw hg,hrm⟩
theorem Jk(hw:nv (ga cS))(hg:DO (iM cS) (ga cS)){w:RS}(DB:(ga cS).cs.length=w.cs.length->w.cs=(ga cS).cs)(b:Prop)[Decidable b](hb:w=ga cS↔b):
  sA (ga cS).cs.length ((ga cS).ro.map Prod.fst) (lvS cS) (yvS cS) w=decide b:=by
 have h:=SQ hw hg DB;by_cases c:b
 . rw[bL c];exact h.2 (hb.2 c)
 . rw[bC c];cases q:sA (ga cS).cs.length ((ga cS).ro.map Prod.fst) (lvS cS) (yvS cS) w with
   |false=>rfl
   |true=>exact absurd (hb.1 (h.1 q)) c
theorem Jl{s:RS}(h:MP s cS)(i:Nat):MP s (cS.take i):=by
 rw[<- ck i cS]at h;exact(BD.1 h).1
theorem Wb{α:Type}(P:α->Prop)(l:List α)(T i0:Nat)(a0:α)(h0:l[i0]? =some a0)(hp:P a0)(hT:i0<T):∃(j:Nat) (a:α),i0<=j/\j<T/\l[j]? =some a/\P a/\∀(i:Nat) (b:α),j<i->i<T->l[i]? =some b->¬P b:=by
 induction T with
 |zero=>omega
 |succ T ih=>
  by_cases hq:∃b,l[T]? =some b/\P b
  . obtain⟨b,h1,h2⟩:=hq;exact⟨T,b,be,be,h1,h2,fun i c hi zw=>by omega⟩
  . have fL:i0≠T:=fun e=>hq ⟨a0,by rw[<- e];exact h0,hp⟩;obtain⟨j,a,h1,h2,h3,h4,h5⟩:=ih be;refine⟨j,a,h1,be,h3,h4,fun i b hi zw hb=>?_⟩;by_cases e:i=T
    . subst e;exact fun z=>hq ⟨b,hb,z⟩
    . exact h5 i b hi be hb
theorem abi{n f t0:Nat}(hf:f<=n)(hn:n<=1000000)(ht:t0<=255):V.int aj (IntKind.i64.wrap (Int.ofNat f+IntKind.i64.wrap ((IntKind.i64.wrap (IntKind.i64.wrap ((Int.ofNat n)-Int.ofNat f)*Int.ofNat t0)).tdiv (255:Int))))=iW (f+(n-f)*t0/255)/\f+(n-f)*t0/255<=n:=by
 have h1:(n-f)*t0<=(n-f)*255:=Nat.mul_le_mul_left _ ht;have h2:(n-f)*t0/255<=n-f:=Nat.div_le_of_le_mul (by rw[Nat.mul_comm 255];exact h1);refine⟨?_,be⟩;have e1:IntKind.i64.wrap ((Int.ofNat n)-Int.ofNat f)=((n-f:Nat):Int):=by
  rw[fC de de,lA,lA];omega
 have e2:((n-f:Nat):Int)*Int.ofNat t0=(((n-f)*t0:Nat):Int):=by rw[lA];exact(Int.natCast_mul _ _).symm
 rw[e1,e2,lq be];have e3:((((n-f)*t0:Nat):Int)).tdiv 255=(((n-f)*t0/255:Nat):Int):=by
  rw[Int.tdiv_eq_ediv_of_nonneg be];rfl
 rw[e3,lq be];exact aN _ (by rw[lA,fC be be,lA];omega)
def Wc(cS:List jF)(k kk:Nat):Nat:=(cW (cS.take k)).length+((cW cS).length-(cW (cS.take k)).length)*(kk%256)/255
theorem Wd(h:rF p cS k l)(hB:cS.length<=2500)(kk:Nat)(hk:kk<=1000000):
  ∃(q:jm) (j:Nat),(p.lo=none\/q.lo≠none)/\IsC (kk:Int) p q/\j<=cS.length/\k<=j/\rF q (cS.take j) j [ga (cS.take j)]/\(cW (cS.take j)).length<=Wc cS k kk/\∀i,i<=cS.length->(cW (cS.take i)).length<=Wc cS k kk->i<=j:=by
 obtain⟨hw,hg,rD,iA,Th⟩:=h.all be;have OT:=h.kle;have agu:kk%256<=255:=by have:=Nat.mod_lt kk (show 0<256 by decide);omega
 have S6:=vz cS OT;rw[aT]at S6;rcases h.MT with⟨e0,e⟩|⟨cO,sW,Bi,e⟩
 . have OJ:k=0:=by rw[e0]at OT;simpa using OT
   exact⟨sZ 0 0 0,0,.inl (by rw[e];rfl),by rw[e];exact V4 kk hk,aW _,be,⟨.inl ⟨rfl,rfl⟩,trivial,aA _,(qF []).symm⟩,aW _,fun i hi _=>by rw[e0]at hi;exact hi⟩
 . obtain⟨c1,c2⟩:=abi (n:=(cW cS).length) (f:=(cW (cS.take k)).length) (t0:=kk%256) S6 be agu;obtain⟨j,x,h1,h2,h3,h4,h5⟩:=SE iA c2;have WK:k<=j:=h4 k OT be;have aov:∀r∈cS.take j,r.ok:=fun r hr=>iA r (List.mem_of_mem_take hr);have Ek:=V3 (n:=(cW cS).length) (cO:=cO) (b:=cW cS) (fl:=Int.ofNat (cW (cS.take k)).length) (nx:=(iM cS).nx) (lf:=0) (es:=(iM cS).es) (rt:=(iM cS).rt) kk hk _ (cS.take j) x c1 c2 be aov h2 h3 be;have OL:(cS.take j).length=j:=by rw[bg];omega
   refine⟨V7 (cS.take j) (cW (cS.take j)).length cO,j,.inr (fun z=>by cases z),by rw[e];exact Ek,h1,WK,⟨.inr ⟨cO,sW,be,?_⟩,Jl h.val j,be,?_⟩,h5,h4⟩
   . rw[show(cS.take j).take j=cS.take j from bq be]
   . rw[show oq (cS.take j) j=oq (cS.take j) (cS.take j).length by rw[OL]];exact(qF _).symm
theorem OF{j:Nat}(hj:j<=cS.length)(hk:k<=j)(h:(cW (cS.take j)).length<=(cW (cS.take k)).length):j=k:=by
 by_cases c:k<j
 . exfalso;have hm:=vz cS (i:=k+1) (j:=j) c;have hs:cW (cS.take (k+1))=cW (cS.take k)++(cS[k]'(by omega)).bytes:=AS be;have hb:=og (r:=cS[k]'(by omega));rw[hs,ax]at hm;omega
 . omega
theorem Fu(h:rF p cS k l)(hB:cS.length<=2500)(kk:Nat)(hk:kk<=1000000):
  ∃(q:jm) (j j0:Nat),(p.lo=none\/q.lo≠none)/\IsC (kk:Int) p q/\j<=cS.length/\k<=j/\rF q (cS.take j) j [ga (cS.take j)]/\XS kk l<=j0/\j0<Fj kk l/\l[j0]? =some (ga (cS.take j))/\
   ∀(i:Nat) (w:RS),l[i]? =some w->j0<=i->i<Fj kk l->(w=ga (cS.take j)↔i=j0):=by
 have OT:=h.kle;have agu:kk%256<=255:=by have:=Nat.mod_lt kk (show 0<256 by decide);omega
 have hll:l.length=cS.length-k+1:=by rw[h.fo,Dw]
 have S6:=vz cS OT;rw[aT]at S6;obtain⟨q,j,k1,k2,k3,k4,k5,u1,u2⟩:=Wd h hB kk hk;have k6:kk%256=0->j=k:=fun h0=>OF k3 k4 (by unfold Wc at u1;rw[h0,Nat.mul_zero,Nat.zero_div,Nat.add_zero]at u1;exact u1);have k7:kk%256=255->j=cS.length:=fun h0=>by
  have:cS.length<=j:=u2 cS.length (aA _) (by unfold Wc;rw[aT,h0,Nat.mul_div_cancel _ dN];omega);omega
 have hT:Fj kk l<=l.length:=by unfold Fj;split<;>omega
 have hjT:XS kk l<=j-k/\j-k<Fj kk l:=by
  unfold XS Fj;by_cases a:kk%256=0
  . have:=k6 a;rw[aG a,aI be];omega
  . rw[aI a];by_cases b:kk%256=255
    . have:=k7 b;rw[aG b];omega
    . rw[aI b];omega
 have kH:l[j-k]? =some (ga (cS.take j)):=by
  rw[h.fo,Dx OT be,show k+(j-k)=j by omega]
 obtain⟨j0,a,b1,b2,b3,b4,b5⟩:=Wb (fun w=>w=ga (cS.take j)) l (Fj kk l) (j-k) _ kH rfl hjT.2;refine⟨q,j,j0,k1,k2,k3,k4,k5,be,b2,by rw[b3,b4],fun i w hi h1 h2=>?_⟩;constructor
 . intro e;by_cases c:i=j0
   . exact c
   . exact absurd e (b5 i w be h2 hi)
 . rintro rfl;rw[b3]at hi;cases hi;exact b4
end
section
variable{p:jm}{cS:List jF}{k:Nat}{l:List RS}
theorem We(h:rF p cS k l)(hB:cS.length<=3000){i:Nat}{w:RS}(hi:l[i]? =some w):k+i<=cS.length/\w=ga (cS.take (k+i))/\nv w/\w.cs.length<=cS.length:=by
 have OT:=h.kle;have fE:i<l.length:=(aF.1 hi).1;rw[h.fo,Dw]at fE;have e:w=ga (cS.take (k+i)):=by
  rw[h.fo,Dx OT be]at hi;exact(cC hi).symm
 have hv:=BE (Jl h.val (k+i)) wf0 aa6 (by show 0+_<=1000000;rw[bg];omega);refine⟨be,e,by rw[e];exact hv.1,?_⟩;rw[e];have h2:=hv.2.2.1;have h3:(jI.cs.length)=0:=rfl;rw[h3,bg]at h2;exact bU h2 be
theorem Wf(h:rF p cS k l)(hB:cS.length<=2500)(hl:l.length<=900)(x y z:Nat)(d:aa)(hy:y<=255)(hz:z<=255):
  ∃q qG k' l',cT ak 27 [P3,rC x y z d] (hL (gq p l)) 9 (.bool true) (hL (AW q l')) (nR q)/\rF q qG k' l'/\qG.length<=cS.length+18/\l'.length<=l.length+1:=by
 obtain⟨hw,hg,rD,iA,Th⟩:=h.all be;have h32:∀c∈(ga cS).cs,c.dg.length=32:=fun c hc=>hw.Fo hc;have h5:=hw.ro5;have M2:∀c∈(ga cS).cs,c.rs.length<=100000:=fun c hc=>by have:=(hw.nm c hc).2.2;omega
 have o7:l=pn cS k++[ga cS]:=h.fo;have hpi:(pn cS k).length<=900:=by
  have:=aN List.length o7;rw[ax]at this;omega
 have Pr:∀r:RR,(vt l r).length<=l.length+1:=fun r=>by
  unfold vt;split
  . rw[ax];exact aA _
  . exact Nat.le_succ _
 have hx:x%10<10:=Nat.mod_lt _ dN;rcases(by omega:x%10<=3\/(4<=x%10/\x%10<=6)\/x%10=7\/x%10=8\/x%10=9)with c|⟨c,c2⟩|c|c|c
 . have G1:=Fi h32 y z;obtain⟨q,qG,a1,a2,a3,a4⟩:=wo h hB (d.take 60) (kr (ga cS) y z) (by rw[bg];omega) be G1.2 (fun e0=>by
    have:(ga cS).cs.length=0:=by rw[e0];rfl
    unfold kr;rw[aI be,cD];split<;>simp)
   have:=anV p q _ _ x y z d c (m64 p q (pn cS k) (ga cS) x y z d hy hz be be h32 be a2);rw[<- o7]at this;exact⟨q,qG,k,_,this,a3,be,Pr _⟩
 . obtain⟨q,qG,a1,a2,a3,a4⟩:=Jh h hB (V8 y) (tR (ga cS) y z) (by
    unfold tR;split
    . exact .inl rfl
    . exact .inr (Al h32 z))
   have:=anW p q _ _ x y z d c c2 (m65 p q (pn cS k) (ga cS) x y z d hy hz be be be a2);rw[<- o7]at this;exact⟨q,qG,k,_,this,a3,be,Pr _⟩
 . obtain⟨q,a1,a2,a3⟩:=OC h;have:=anY p q (pn cS k) x y z d (ga cS) c be a2;rw[<- o7]at this;exact⟨q,cS,cS.length,_,this,a3,be,by simp⟩
 . obtain⟨q,a2,a3,a4⟩:=Jj h hB;have:=anZ p q (pn cS k) (ga cS) x y z d c be be be M2 a2;rw[<- o7]at this;exact⟨q,_,_,_,this,a3,be,by simp⟩
 . have Eo:VJ y z<=1000000:=by
    unfold VJ;have:1+z%2*3<=4:=by omega
    exact bU (Nat.mul_le_mul hy this) dN
   obtain⟨q,j,j0,a1,a2,a3,a4,a5,a6,a7,a8,a9⟩:=Fu h hB (VJ y z) Eo;have vJ:0<l.length:=by rw[o7,ax];simp
   have OL:(cS.take j).length=j:=by rw[bg];omega
   obtain⟨OO,hg2,Bi,_,_⟩:=a5.all be;have aow:=GX a5 be;have hsm:∀(i:Nat) (w:RS),l[i]? =some w->j0<=i->i<Fj (VJ y z) l->cT ak 28 [P3,w.v] (hL (gq q l)) 9 (.bool (decide (i=j0))) (hL (gq q l)) 9:=by
    intro i w hi h1 h2;obtain⟨b1,b2,b3,b4⟩:=We h be hi;have DB:(ga (cS.take j)).cs.length=w.cs.length->w.cs=(ga (cS.take j)).cs:=fun e=>by
     rw[b2]at e ⊢;exact Wa e
    have:=m28 q l w aow DB (by rw[aY];have:=OO.ro5;omega) be (fun c hc=>by have:=(b3.nm c hc).2.2;omega);rw[Jk OO hg2 DB (i=j0) (a9 i w hi h1 h2)]at this;exact this
   exact⟨q,cS.take j,j,_,anX p q _ _ x y z d c hy (c67 p q l _ Eo be vJ j0 _ ⟨a6,a7⟩ a8 a2 hsm),a5,be,by simp⟩
end
theorem cT.abj{f:FuncId}{a b:V}{h h1:Tr O}{n n1:Nat}{v:V}(c:cT ak f [a,b,.dL false 0 []] h n v h1 n1):cT ak f [a,b,eH] h n v h1 n1:=by
 intro E w c7 ra g hd;obtain⟨a',_,ha,⟨b',_,hb,⟨x',_,hx,hn,rfl⟩,rfl⟩,rfl⟩:=ra;obtain⟨_,_,rfl⟩:0=0/\0=0/\x'= .slice none 0 0:=hx;exact c E w _ ⟨a',_,ha,⟨b',_,hb,⟨_,_,⟨⟨none,0,[],rfl,aA _,rfl,fun _=>rfl,fun h=>absurd h (cE _)⟩,fun _=>⟨none,rfl⟩⟩,hn,rfl⟩,rfl⟩,rfl⟩ g hd
section
variable{p:jm}{cS:List jF}{k:Nat}{l:List RS}
theorem rF.last{s:RS}(h:rF p cS k (l++[s])):ga cS=s:=by
 have:=(List.append_inj' h.fo rfl).2;cases this;rfl
theorem rF.log(h:rF p cS k l)(fL:ga cS≠jI):∃q n j b,p=pc q n j b:=by
 rcases h.MT with⟨e,_⟩|⟨cO,_,_,e⟩
 . subst e;exact absurd rfl fL
 . exact⟨_,_,_,_,e⟩
end
noncomputable abbrev Tm(k:Nat):Code:=dO (dh k Up)
theorem y_1:c5 AR [] 3 Tryz.f13 [1] (eR 2 Up) (cR [] (DK gS gR) 3) [([],[],.to .normal (eG [(1,P3)] (hL [(0,.ints .u32 gS),(1,.ints .u32 gR),(3,.cells [.di none 0 0 0,.int .i64 0,.map (some 4),.map (some 5),.int .i64 0,.bool false,.bool false,.int .i64 0]),(4,.map [] 0),(5,.map [] 0)]) 6))]:=
 cP.of U U U
section
variable(p q:jm)(n k m j:Nat)(b u:aa)(a:aa)
theorem y_2:c5 (fK AR 15 [P3,.str [120],eH] (QL 0 0 0 [] []) 6 (.eo [.str a,tZ],hL (Ee 6 7 8 (pc q m j u)),9)) [] 3 Tryz.f13 [1,2,3] (Tm 2) (eG [(1,P3)] (QL 0 0 0 [] []) 6) [([],[fG [P3,.str [120],eH] (QL 0 0 0 [] []) 6],.to .normal (EU [(2,.str a),(3,tZ)] (pc q m j u)))]:=
 cP.of U U U
theorem y_3(d:aa):c5 (fK AR 15 [P3,.str [121],.di (some (7,0)) 1 1 1] (hL (eN (pc p n k b)++[(7,.cells [.str a])])) 8 (.eo [.str d,tZ],hL (Ee 8 9 10 (pc q m j u)),11)) [] 3 Tryz.f13 [1,3,4,5] (Tm 3) (EU [(2,.str a),(3,tZ)] (pc p n k b)) [([],[fG [P3,.str [121],.di (some (7,0)) 1 1 1] (hL (eN (pc p n k b)++[(7,.cells [.str a])])) 8],.to .normal (EU [(3,tZ),(4,.str d),(5,tZ)] (pc q m j u)))]:=
 cP.of U U U
theorem y_4:c5 (fK AR 16 [P3,.str [114],.str a] (eu (pc p n k b)) 7 (tZ,hL (stR (pc q m j u)),10)) [] 3 Tryz.f13 [1,3,5,6] (Tm 4) (EU [(3,tZ),(4,.str a),(5,tZ)] (pc p n k b)) [([],[fG [P3,.str [114],.str a] (eu (pc p n k b)) 7],.to .normal (EU [(3,tZ),(5,tZ),(6,tZ)] (pc q m j u)))]:=
 cP.of U U U
theorem y_5:c5 (fK AR 15 [P3,.str [122],eH] (eu (pc p n k b)) 7 (.eo [.str a,tZ],hL (stR (pc q m j u)),10)) [] 3 Tryz.f13 [1,3,5,6,8] (Tm 5) (EU [(3,tZ),(5,tZ),(6,tZ)] (pc p n k b)) [([],[fG [P3,.str [122],eH] (eu (pc p n k b)) 7],.to .normal (EU [(3,tZ),(5,tZ),(6,tZ),(8,tZ)] (pc q m j u)))]:=
 cP.of U U U
noncomputable abbrev csY(v:V):eX:=fK AR 20 [P3] (eu (pc p n k b)) 7 (v,eu (pc p n k b),7)
abbrev frY:List (Nat×V):=[(3,tZ),(5,tZ),(6,tZ),(8,tZ)]
theorem y_6:c5 (csY p n k b (.int .i64 3)) [] 3 Tryz.f13 [1,3,5,6,8,9] (Tm 6) (EU frY (pc p n k b)) [([],[fG [P3] (eu (pc p n k b)) 7],.to .normal (EU (frY++[(9,.int .i64 3)]) (pc p n k b)))]:=
 cP.of U U U
theorem y_7:c5 (fK AR 19 [P3] (eu (pc p n k b)) 7 (tZ,hL (stR (pc q m j u)),10)) [] 3 Tryz.f13 [1,3,5,6,8,9,10] (Tm 7) (EU (frY++[(9,.int .i64 3)]) (pc p n k b)) [([],[fG [P3] (eu (pc p n k b)) 7],.to .normal (EU (frY++[(9,.int .i64 3),(10,tZ)]) (pc q m j u)))]:=
 cP.of U U U
abbrev XZ:List (Nat×V):=frY++[(9,.int .i64 3),(10,tZ),(11,.int .i64 2)]
theorem y_8:c5 (csY p n k b (.int .i64 2)) [] 3 Tryz.f13 [1,3,5,6,8,9,10,11] (Tm 8) (EU (frY++[(9,.int .i64 3),(10,tZ)]) (pc p n k b)) [([],[fG [P3] (eu (pc p n k b)) 7],.to .normal (EU XZ (pc p n k b)))]:=
 cP.of U U U
theorem y_9:c5 (fK AR 15 [P3,.str [119],eH] (eu (pc p n k b)) 7 (.eo [.str a,tZ],hL (stR (pc q m j u)),10)) [] 3 Tryz.f13 [1,3,5,6,8,9,10,11,13] (Tm 9) (EU XZ (pc p n k b)) [([],[fG [P3,.str [119],eH] (eu (pc p n k b)) 7],.to .normal (EU (XZ++[(13,tZ)]) (pc q m j u)))]:=
 cP.of U U U
theorem aoy:c5 (fK AR 31 [P3,.di (some (7,0)) 1 1 1] (hL (eN (pc p n k b)++[(7,.cells [.int .i64 0])])) 8 (.eo [],hL (crR (pc q m j u)),11)) [] 3 Tryz.f13 [1,3,5,6,8,9,10,11,13] (Tm 10) (EU (XZ++[(13,tZ)]) (pc p n k b)) [([],[fG [P3,.di (some (7,0)) 1 1 1] (hL (eN (pc p n k b)++[(7,.cells [.int .i64 0])])) 8],.to .normal (EU (XZ++[(13,tZ)]) (pc q m j u)))]:=
 cP.of U U U
theorem aoz:c5 (fK AR 15 [P3,.str [119],.di (some (7,0)) 1 1 1] (hL (eN (pc p n k b)++[(7,.cells [.str (D2 [113])])])) 8 (.eo [.str [],.int .i64 63],hL (Ee 8 9 10 (pc q m j u)),11)) [] 3 Tryz.f13 [1,3,5,6,8,9,10,11,13,15] (Tm 11) (EU (XZ++[(13,tZ)]) (pc p n k b)) [([],[gS=gS,gR=gR,1<=1000000000,fG [P3,.str [119],.di (some (7,0)) 1 1 1] (hL (eN (pc p n k b)++[(7,.cells [.str (D2 [113])])])) 8],.to .normal (EU (XZ++[(13,tZ),(15,.int .i64 63)]) (pc q m j u)))]:=
 cP.of U U U
theorem aoA:c5 (csY p n k b (.int .i64 2)) [] 3 Tryz.f13 [] (dh 12 Up) (EU (XZ++[(13,tZ),(15,.int .i64 63)]) (pc p n k b)) [([],[fG [P3] (eu (pc p n k b)) 7],.ret (.bool true) (hL [(0,.ints .u32 gS),(1,.ints .u32 gR)]) 3)]:=
 cP.of U U U
end
abbrev s1R:RS:=⟨[⟨dA,[120],[]⟩],[]⟩
abbrev s2R:RS:=⟨[⟨dA,[120],[]⟩,⟨dB,[121],[dA]⟩],[]⟩
abbrev Wg:RS:=⟨[⟨dA,[120],[]⟩,⟨dB,[121],[dA]⟩],[([114],dB)]⟩
abbrev s4R:RS:=⟨[⟨dA,[120],[]⟩,⟨dB,[121],[dA]⟩,⟨dZ,[122],[]⟩],[([114],dB)]⟩
abbrev s6R:RS:=⟨[⟨dA,[120],[]⟩,⟨dB,[121],[dA]⟩,⟨dW,[119],[]⟩],[([114],dB)]⟩
theorem agw:kV jI [120] []=⟨s1R,dA,0,true⟩:=by unfold kV;rw[adY];kernel_rfl
theorem agx:kV s1R [121] [dA]=⟨s2R,dB,0,true⟩:=by unfold kV;rw[Xs];kernel_rfl
theorem agy:oL s2R [114] dB=⟨Wg,[],0,true⟩:=by kernel_rfl
theorem agz:kV Wg [122] []=⟨s4R,dZ,0,true⟩:=by unfold kV;rw[adZ];kernel_rfl
theorem agA:iF s4R=Wg:=by kernel_rfl
theorem agB:kV Wg [119] []=⟨s6R,dW,0,true⟩:=by unfold kV;rw[ad0];kernel_rfl
theorem agC:kV Wg [119] [D2 [113]]=⟨Wg,[],63,false⟩:=by rw[Xt];unfold kV;kernel_rfl
section
variable{p:jm}{cS:List jF}{k:Nat}{l:List RS}{s:RS}
theorem rF.to(h:rF p cS k (l++[s]))(hs:0<s.cs.length):ga cS=s/\∃q n j b,p=pc q n j b:=
 ⟨h.last,h.log fun z=>by rw[<- h.last,z]at hs;exact absurd hs (cE 0)⟩
theorem rF.yE(h:rF p cS k l)(hB:cS.length<=3000)(e:ga cS=s):cT ak 20 [P3] (eu p) 7 (.int .i64 (Int.ofNat s.cs.length)) (eu p) 7:=e▸(GX h hB).h20
theorem MU{q:jm}{n k m j:Nat}{b u d a x:aa}{z:Int}(c:Ak 15 [.str d,qJ [a]] (pc p n k b) (.eo [.str x,.int .i64 z]) (pc q m j u)):
  cT ak 15 [P3,.str d,.di (some (7,0)) 1 1 1] (hL (eN (pc p n k b)++[(7,.cells [.str a])])) 8 (.eo [.str x,.int .i64 z]) (hL (Ee 8 9 10 (pc q m j u))) 11:=by
 have e:cT ak 15 [P3,.str d,qJ [a]] (hL (eN (pc p n k b))) 8 (.eo [.str x,.int .i64 z]) (hL (Ee 8 9 10 (pc q m j u))) 11:=Dk (ns:=ns7) (l1:=eN (pc p n k b)) c 8 U;refine cT.ZV (ms:=[7]) (A:=[[D.str a].length=1*1]) (qW:=[P3,.str d,qJ [a]]) (h2:=((hL (eN (pc p n k b))).set 7 (some (.cells [.str a]))).set 7 none) U U (e9 rfl) (cT.ext (fun i=>?_) (fun _=>rfl) e);by_cases hi:i=7
 . subst hi;rw[Tr.mS _ _ dN];rfl
 . rw[Tr.qe _ _ dN hi,Tr.qe _ _ dN hi]
end
theorem aoB:TG ak 3 Tryz.f13.ntmps Up (cR [] (DK gS gR) 3) (fB ak 3 Tryz.f13 fun u _ _=>u= .bool true):=by
 refine iJ  2 XT y_1 cQ ?_;refine z7 [(4,none),(5,none)] (s2:=eG [(1,P3)] (QL 0 0 0 [] []) 6) U ?_;obtain⟨p,r1,_,c,h1,n1⟩:=wo ags dN [120] [] dN dN (fun x hx=>by cases hx) (fun _=>aW _);rw[show ga []=jI from rfl,agw]at c h1;have n1:r1.length<=1:=n1;obtain⟨e,p,n,k,b,rfl⟩:=rF.to (l:=[jI]) h1 dN;refine cV U ?_;have c0:cT ak 15 [P3,.str [120],eH] (QL 0 0 0 [] []) 6 (.eo [.str dA,tZ]) (hL (Ee 6 7 8 (pc p n k b))) 9:=
  Dk (ns:=[some 0,some 1,some 2,some 3,none,some 4,some 5]) (l1:=eN (sZ 0 0 0)) (cT.abj c) 6 U
 refine fV (XT.ko Fh c0) (y_2 p n k b dA) (dI ?_);refine⟨e9 ⟨rfl,rfl,rfl⟩,fun s' dX=>c6 dX ?_⟩;obtain⟨q,r2,_,c,h2,n2⟩:=wo h1 be [121] [dA] dN dN (fun x hx=>by rw[aq]at hx;subst hx;rfl) (fun _=>aA _);rw[e,agx]at c h2;obtain⟨e2,q,m,j,u,rfl⟩:=rF.to (l:=[jI,s1R]) h2 dN;refine cV U ?_;refine fV (XT.ko Fh (MU c)) (y_3 p q n k m j b u dA dB) (dI ?_);refine⟨e9 ⟨rfl,rfl,rfl⟩,fun s' dX=>c6 dX ?_⟩;clear c0 c h1;obtain⟨p,r3,_,c,h3,n3⟩:=Jh h2 be (nm:=[114]) ⟨114,rfl,dN,dN⟩ dB (.inr rfl);rw[e2,agy]at c h3;obtain⟨e3,p,n,k,b,rfl⟩:=rF.to (l:=[jI,s1R,s2R]) h3 dN;refine cV U ?_;refine fV (XT.ko Xy c) (y_4 q p m j n k u b dB) (dI ?_);refine⟨e9 ⟨rfl,rfl,rfl⟩,fun s' dX=>c6 dX ?_⟩;obtain⟨q,r4,_,c,h4,n4⟩:=wo h3 be [122] [] dN dN (fun x hx=>by cases hx) (fun _=>aW _);rw[e3,agz]at c h4;obtain⟨e4,q,m,j,u,rfl⟩:=rF.to (l:=[jI,s1R,s2R,Wg]) h4 dN;refine cV U ?_;refine fV (XT.ko Fh (cT.abj c)) (y_5 p q n k m j b u dZ) (dI ?_);refine⟨e9 ⟨rfl,rfl,rfl⟩,fun s' dX=>c6 dX ?_⟩;refine cV U ?_;refine fV (XT.ko MH (h4.yE be e4)) (y_6 q m j u) (dI ?_);refine⟨e9 ⟨rfl,rfl,rfl⟩,fun s' dX=>c6 dX ?_⟩;obtain⟨p,c,h5,n5⟩:=Jj h4 be;rw[e4,agA]at h5 n5;obtain⟨e5,p,n,k,b,rfl⟩:=rF.to (l:=[]) h5 dN;refine cV U ?_;refine fV (XT.ko XV c) (y_7 q p m j n k u b) (dI ?_);refine⟨e9 ⟨rfl,rfl,rfl⟩,fun s' dX=>c6 dX ?_⟩;refine cV U ?_;refine fV (XT.ko MH (h5.yE be e5)) (y_8 p n k b) (dI ?_);refine⟨e9 ⟨rfl,rfl,rfl⟩,fun s' dX=>c6 dX ?_⟩;obtain⟨q,r6,_,c,h6,n6⟩:=wo h5 be [119] [] dN dN (fun x hx=>by cases hx) (fun _=>aW _);rw[e5,agB]at c h6;obtain⟨e6,q,m,j,u,rfl⟩:=rF.to (l:=[Wg]) h6 dN;refine cV U ?_;refine fV (XT.ko Fh (cT.abj c)) (y_9 p q n k m j b u dW) (dI ?_);refine⟨e9 ⟨rfl,rfl,rfl⟩,fun s' dX=>c6 dX ?_⟩;obtain⟨p,i,j0,_,c,i1,i2,h7,i3,i4,i5,_⟩:=Fu h6 be 0 dN;obtain rfl:j0=0:=Nat.lt_one_iff.1 i4;have i5:some Wg=some (ga (r6.take i)):=i5;rw[<- cC i5]at h7;obtain⟨e7,p,n,k,b,rfl⟩:=rF.to (l:=[]) h7 dN;refine cV U ?_;refine fV (XT.ko XR c) (aoy q p m j n k u b) (dI ?_);refine⟨e9 ⟨rfl,rfl,rfl⟩,fun s' dX=>c6 dX ?_⟩;have h32:(D2 [113]).length=32:=by rw[Xt];rfl
 have n7:(r6.take i).length<=2400:=by rw[bg];omega
 obtain⟨q,r8,_,c,h8,n8⟩:=wo h7 be [119] [D2 [113]] dN dN (fun x hx=>by rw[aq]at hx;subst hx;exact h32) (fun _=>aA _);rw[e7,agC]at c h8;obtain⟨e8,q,m,j,u,rfl⟩:=rF.to (l:=[]) h8 dN;refine cV U ?_;refine fV (XT.ko Fh (MU c)) (aoz p q n k m j b u) (dI ?_);refine⟨fm rfl (fm rfl (fm dN (e9 ⟨rfl,rfl,rfl⟩))),fun s' dX=>c6 dX ?_⟩;refine fu (XT.ko MH (h8.yE be e8)) (aoA q m j u) (dI ?_);exact⟨e9 ⟨rfl,rfl,rfl⟩,_,_,_,rfl,rfl⟩
def Lu:ai->Option (ah×V)
 | []=>some ([],.bool true)
 |_=>none
theorem abk:jC ak 13 (tW Lu):=by
 refine Qw (au U) fun args A v e hA=>?_;unfold Lu at e;split at e
 . obtain⟨rfl,rfl⟩:=eY e;exact xA Tryz.func13 U U rfl rfl (fb aoB fun y s h=>jW h)
 . cases e
noncomputable abbrev W29:jJ:=kj 13 (tW Lu) W28
theorem abl:fU ak W29:=fe abk Sh
noncomputable abbrev aoC:eX:=gC ak W29 H0 1000 40
noncomputable abbrev X29:CX ak:=CX.of mo po abl H0 1000 40
structure GY where
 x:Nat
 y:Nat
 z:Nat
 d:aa
 hx:x<=255
 hy:y<=255
 hz:z<=255
section
variable(l:List GY)(o:GY)
def GY.c:ai:=[.int .u8 (o.x:Int),.int .u8 (o.y:Int),.int .u8 (o.z:Int),.str o.d]
def GY.v:V:=rC o.x o.y o.z o.d
def DC:ai:=(l.map GY.c).flatten
theorem SR:(DC l).length=l.length*4:=sk (f:=GY.c) (w:=4) (fun _=>rfl) l
theorem Wh(i:Nat)(h:i<l.length):dw (DC l) (i*4) 4=l[i].c:=vr (f:=GY.c) (w:=4) (fun _=>rfl) l i h
abbrev abm:V:=.dL false l.length (DC l)
end
theorem SS{n0:Nat}{s s2:St}(l:List (Nat×Option IntKind))(e:Qi l s=some s2):Step n0 s s2:=by
 unfold Qi at e;split at e
 case h_2=>cases e
 rename_i h2 hh;obtain rfl:=ek e;exact Step.mem fun E w g=>z6 l s.h h2 hh g
theorem Wi:cT ak 26 [] (DK gS gR) 3 P3 (hL (moG 0 5 6 7 (sZ 0 0 0) [jI])) 8:=by
 have key:cT ak 26 [] (DK gS gR) 3 P3 (hL [(0,.ints .u32 gS),(1,.ints .u32 gR),(3,.cells [.ptr (some (4,0)),.di (some (7,0)) 1 1 2]),(4,.cells [.di none 0 0 0,.int .i64 0,.map (some 5),.map (some 6),.int .i64 0,.bool false,.bool false,.int .i64 0]),(5,.map [] 0),(6,.map [] 0),(7,.cells [.di none 0 0 0,.di none 0 0 0])]) 8:=by
  refine cZ Tryz.func26 (code:=dU Tryz.f26) U U ?_;refine fu X27 anC (dI ?_);exact⟨cQ,_,_,_,rfl,rfl,rfl,rfl⟩
 exact key.step ((SS [(5,none),(6,none)] rfl).trans (.deep [7] U))
noncomputable abbrev Jm:Code:=dU Tryz.f8
noncomputable abbrev abn:Code:=dO (dh 3 Jm)
noncomputable abbrev SU:Code:=dr (dr (dY abn))
noncomputable abbrev agD:Code:=dr (dO (dY SU))
section
variable(p:jm)(ops:List GY)(l:List RS)(i:Nat)
theorem aoD:c5 (fK aoC 26 [] (DK gS gR) 3 (P3,hL (moG 0 5 6 7 (sZ 0 0 0) [jI]),8)) [] 3 Tryz.f8 [0,3,4] (eR 3 Jm) (cR [abm ops] (DK gS gR) 3) [([],
   [(gS=gS),(gR=gR),fG [] (hL [(0,.ints .u32 gS),(1,.ints .u32 gR)]) 3],
   .to .normal (eG [(0,.dL false (ops.length) (DC ops)),(3,.bool true),(4,.ptr (some (3,0)))] (hL [(0,.ints .u32 gS),(1,.ints .u32 gR),(3,.cells [.ptr (some (4,0)),.di (some (7,0)) 1 1 2]),(4,.cells [.di none 0 0 0,.int .i64 0,.map (some 5),.map (some 6),.int .i64 0,.bool false,.bool false,.int .i64 0]),(5,.dD none []),(6,.dD none []),(7,.deep [.dL 0 [],.dL 0 []])]) 8))]
 :=cP.of U U U
def lL:af:=Lo 5 p l
def sL(r:List (Nat×V)):St:=eG ([(0,abm ops),(3,.bool true),(4,P3)]++r) (hL (lL p l)) (8+sh p)
theorem aoE:c5 iw [] 3 Tryz.f8 [0,3,4,5] (dO abn) (sL p ops l []) [([],
   [],
   .to .normal (sL p ops l [(5,iW 0)]))]
 :=by rcases p with⟨_|⟨_,_,_⟩,_⟩<;>exact cP.of U U U
theorem aoF:c5 iw [(11,.split),(14,.split)] 3 Tryz.f8 [0,3,4,5] (dO SU) (sL p ops l [(5,iW i)]) [([((decide (Int.ofNat i<(Int.ofNat ops.length))),true),((decide (Int.ofNat i<(40:Int))),true)],
   [],
   .to .normal (sL p ops l [(5,iW i)])),
  ([((decide (Int.ofNat i<(Int.ofNat ops.length))),true),((decide (Int.ofNat i<(40:Int))),false)],
   [],
   .to (.exit 0) (sL p ops l [(5,iW i)])),
  ([((decide (Int.ofNat i<(Int.ofNat ops.length))),false)],
   [],
   .to (.exit 0) (sL p ops l [(5,iW i)]))]
 :=by rcases p with⟨_|⟨_,_,_⟩,_⟩<;>exact cP.of U U U
theorem aoG(q:jm)(ops:List GY)(l l1:List RS)(i:Nat)(o:GY)(w:RS):c5 (fK (fK (fK iw 27 [P3,o.v] (hL (lL p l)) (8+sh p) (.bool true,hL (Lo (8+sh p) q l1),(11+sh p+sh q))) 29 [P3] (hL (Lo (8+sh p) q l1)) (11+sh p+sh q) (w.v,hL (Lo (8+sh p) q l1),(11+sh p+sh q))) 28 [P3,w.v] (hL (Lo (8+sh p) q l1)) (11+sh p+sh q) (.bool true,hL (Lo (8+sh p) q l1),(11+sh p+sh q))) [(21,.c9 (.dm o.c))] 3 Tryz.f8 [0,3,4,5] (agD) (sL p ops l [(5,iW i)]) [([],
   [((0:Int)<=Int.ofNat i/\Int.ofNat i<(Int.ofNat ops.length)),((DC ops).length=ops.length*4),(V.dm (dw (DC ops) (i*4) 4)=V.dm o.c),fG [P3,o.v] (hL (lL p l)) (8+sh p),fG [P3] (hL (Lo (8+sh p) q l1)) (11+sh p+sh q),fG [P3,w.v] (hL (Lo (8+sh p) q l1)) (11+sh p+sh q)],
   .to .normal (sL q ops l1 [(5,iW i)]))]
 :=by rcases p with⟨_|⟨_,_,_⟩,_⟩<;>rcases q with⟨_|⟨_,_,_⟩,_⟩<;>exact cP.of U U U
theorem aoH:c5 iw [(17,.c9 (iW (i+1)))] 3 Tryz.f8 [0,3,4,5] (dY (dY SU)) (sL p ops l [(5,iW i)]) [([],
   [(V.int aj (IntKind.i64.wrap (Int.ofNat i+(1:Int)))=iW (i+1))],
   .to .normal (sL p ops l [(5,iW (i+1))]))]
 :=by rcases p with⟨_|⟨_,_,_⟩,_⟩<;>exact cP.of U U U
theorem aoI:c5 iw [] 3 Tryz.f8 [] (dh 4 Jm) (sL p ops l [(5,iW i)]) [([],
   [],
   .ret (.bool true) (hL [(0,.ints .u32 gS),(1,.ints .u32 gR)]) 3)]
 :=by rcases p with⟨_|⟨_,_,_⟩,_⟩<;>exact cP.of U U U
end
theorem agE:26<Tryz.prog.funcs.size:=au U
theorem agF:27<Tryz.prog.funcs.size:=au U
theorem agG{ops:List GY}{i:Nat}{o:GY}(h:ops[i]? =some o):((0:Int)<=Int.ofNat i/\Int.ofNat i<(Int.ofNat ops.length))/\(DC ops).length=ops.length*4/\V.dm (dw (DC ops) (i*4) 4)=V.dm o.c:=by
 obtain⟨h1,h2⟩:=aF.1 h;refine⟨⟨az _,de⟩,SR ops,?_⟩;rw[<- h2];exact aN V.dm (Wh ops i h1)
section
variable(p:jm)(ops:List GY)(l:List RS)(i:Nat){Q':Exit->St->Prop}
theorem Wj(q:jm)(ops:List GY)(l l1:List RS)(i:Nat)(o:GY)(w:RS)(hi:ops[i]? =some o)(hd:cT ak 27 [P3,o.v] (hL (gq p l)) 9 (.bool true) (hL (AW q l1)) (nR q))
  (h29:cT ak 29 [P3] (hL (gq q l1)) 9 w.v (hL (gq q l1)) 9) (h28:cT ak 28 [P3,w.v] (hL (gq q l1)) 9 (.bool true) (hL (gq q l1)) 9) {Q':Exit->St->Prop}
  (hn:∀s',gy ak 3 Tryz.f8.ntmps s' (sL q ops l1 [(5,iW i)])->Q' .normal s'):TG ak 3 Tryz.f8.ntmps agD (sL p ops l [(5,iW i)]) Q':=by
 obtain⟨a1,a2,a3⟩:=agG hi;have k27:cT ak 27 [P3,o.v] (hL (lL p l)) (8+sh p) (.bool true) (hL (Lo (8+sh p) q l1)) (11+sh p+sh q):=
  Dk (ns:=nsA 5 p) hd (8+sh p) (by rcases p with⟨_|⟨_,_,_⟩,_⟩<;>rcases q with⟨_|⟨_,_,_⟩,_⟩<;>kernel_rfl)
 have k29:cT ak 29 [P3] (hL (Lo (8+sh p) q l1)) (11+sh p+sh q) w.v (hL (Lo (8+sh p) q l1)) (11+sh p+sh q):=
  wz (ns:=nsA (8+sh p) q) h29 (by rcases p with⟨_|⟨_,_,_⟩,_⟩<;>rcases q with⟨_|⟨_,_,_⟩,_⟩<;>kernel_rfl)
 have k28:cT ak 28 [P3,w.v] (hL (Lo (8+sh p) q l1)) (11+sh p+sh q) (.bool true) (hL (Lo (8+sh p) q l1)) (11+sh p+sh q):=
  wz (ns:=nsA (8+sh p) q) h28 (by rcases p with⟨_|⟨_,_,_⟩,_⟩<;>rcases q with⟨_|⟨_,_,_⟩,_⟩<;>kernel_rfl)
 refine fV (((nu.ko agF k27).ko Dh k29).ko Sq k28) (aoG p q ops l l1 i o w) (dI ?_);exact⟨fm a1 (fm a2 (fm a3 (fm ⟨rfl,rfl,rfl⟩ (fm ⟨rfl,rfl,rfl⟩ (e9 ⟨rfl,rfl,rfl⟩))))),fun s' dX=>hn s' (.norm dX)⟩
theorem Wk(h1:i<ops.length->i<40->∀s',gy ak 3 Tryz.f8.ntmps s' (sL p ops l [(5,iW i)])->Q' .normal s')(h2:∀s',gy ak 3 Tryz.f8.ntmps s' (sL p ops l [(5,iW i)])->Q' (.exit 0) s'):
  TG ak 3 Tryz.f8.ntmps (dO SU) (sL p ops l [(5,iW i)]) Q':=by
 refine fV nu (aoF p ops l i) fun g hg hc=>?_;rcases xH hg with rfl|rfl|rfl
 . have c1:=aH (hc _ (aP ..));have c2:=aH (hc _ (aJ _ (aq.2 rfl)));exact⟨cQ,fun s' dX=>h1 (by rw[lA,lA]at c1;omega) (by rw[lA]at c2;omega) s' (.norm dX)⟩
 . exact⟨cQ,fun s' dX=>h2 s' (.norm dX)⟩
 . exact⟨cQ,fun s' dX=>h2 s' (.norm dX)⟩
theorem Wl(hi:i<=40){Q':Exit->St->Prop}(h:∀s',gy ak 3 Tryz.f8.ntmps s' (sL p ops l [(5,iW (i+1))])->Q' .normal s'):TG ak 3 Tryz.f8.ntmps (dY (dY SU)) (sL p ops l [(5,iW i)]) Q':=by
 refine fV nu (aoH p ops l i) fun g hg hc=>?_;obtain rfl:=aeh hg;exact⟨e9 (pP de be),fun s' dX=>h s' (.norm dX)⟩
theorem Wm:TG ak 3 Tryz.f8.ntmps (dh 4 Jm) (sL p ops l [(5,iW i)]) (fB ak 3 Tryz.f8 fun u _ _=>u= .bool true):=by
 refine fu nu (aoI p ops l i) (dI ?_);exact⟨cQ,_,_,_,rfl,rfl⟩
theorem Wn(h:∀s',gy ak 3 Tryz.f8.ntmps s' (sL p ops l [(5,iW 0)])->TG ak 3 Tryz.f8.ntmps (dY abn) s' (andThen (fun s'=>TG ak 3 Tryz.f8.ntmps (dh 4 Jm) s' Q') Q')):
  TG ak 3 Tryz.f8.ntmps (dh 3 Jm) (sL p ops l []) Q':=by
 refine cV U ?_;refine cV U ?_;refine fV nu (aoE p ops l) (dI ?_);exact⟨cQ,fun s' dX=>h s' (.norm dX)⟩
end
def IvG(a:jm×List RS×Nat):Prop:=a.2.2<=40/\∃cS k,rF a.1 cS k a.2.1/\cS.length<=18*a.2.2/\a.2.1.length<=a.2.2+1
theorem iv0:IvG (sZ 0 0 0,[jI],0):=⟨aW _,[],0,ags,aW _,aA _⟩
section
variable{p:jm}{l:List RS}{i:Nat}
theorem Wo(h:IvG (p,l,i))(hi:i<40)(o:GY):∃q l',cT ak 27 [P3,o.v] (hL (gq p l)) 9 (.bool true) (hL (AW q l')) (nR q)/\IvG (q,l',i+1):=by
 obtain⟨_,cS,k,hs,h1,h2⟩:=h;have hs:rF p cS k l:=hs;have h1:cS.length<=18*i:=h1;have h2:l.length<=i+1:=h2;obtain⟨q,qG,k',l',a1,a2,a3,a4⟩:=Wf hs be be o.x o.y o.z o.d o.hy o.hz;exact⟨q,l',a1,hi,qG,k',a2,by show qG.length<=18*(i+1);omega,by show l'.length<=i+1+1;omega⟩
theorem Wp{cS:List jF}{k:Nat}{l:List RS}(h:rF p cS k l)(hB:cS.length<=2500)(l1:List RS){w:RS}(Ej:nv w)(rD:w.cs.length<=100000)(DB:(ga cS).cs.length=w.cs.length->w.cs=(ga cS).cs)(b:Prop)[Decidable b](hb:w=ga cS↔b):
  cT ak 28 [P3,w.v] (hL (gq p l1)) 9 (.bool (decide b)) (hL (gq p l1)) 9:=by
 obtain⟨hw,hg,_,_,_⟩:=h.all be;have:=m28 p l1 w (GX h be) DB (by rw[aY];have:=hw.ro5;omega) rD (fun c hc=>by have:=(Ej.nm c hc).2.2;omega);rw[Jk hw hg DB b hb]at this;exact this
theorem abo(h:IvG (p,l,i)):∃w:RS,cT ak 29 [P3] (hL (gq p l)) 9 w.v (hL (gq p l)) 9/\cT ak 28 [P3,w.v] (hL (gq p l)) 9 (.bool true) (hL (gq p l)) 9:=by
 obtain⟨h0,cS,k,hs,h1,h2⟩:=h;have h0:i<=40:=h0;have hs:rF p cS k l:=hs;have h1:cS.length<=18*i:=h1;have h2:l.length<=i+1:=h2;obtain⟨hw,_,rD,_,_⟩:=hs.all be;have hn:=m29 p (pn cS k) (ga cS) (by rw[Aq];omega);have hp:l=pn cS k++[ga cS]:=hs.fo;rw[<- hp]at hn;have:=Wp hs be l hw be (fun _=>rfl) True ⟨fun _=>trivial,fun _=>rfl⟩;rw[bL trivial]at this;exact⟨ga cS,hn,this⟩
end
theorem aoJ(ops:List GY):TG ak 3 Tryz.f8.ntmps Jm (cR [abm ops] (DK gS gR) 3) (fB ak 3 Tryz.f8 fun u _ _=>u= .bool true):=by
 refine iJ  3 (X29.ko agE Wi) (aoD ops) (fm rfl (fm rfl (e9 ⟨rfl,rfl,rfl⟩))) ?_;show TG ak 3 Tryz.f8.ntmps (dh 3 Jm) (sL (sZ 0 0 0) ops [jI] []) _;refine Wn (sZ 0 0 0) ops [jI] fun s' dX=>?_;refine js (α:=jm×List RS×Nat) 0 (fun a=>40-a.2.2) IvG (fun a=>sL a.1 ops a.2.1 [(5,iW a.2.2)]) U U (sZ 0 0 0,[jI],0) iv0 dX fun a hI=>?_;obtain⟨p,l,i⟩:=a;have h40:i<=40:=hI.1;refine cV U ?_;refine Wk p ops l i (fun h1 h2 s1 fP=>fP _ _ ?_) (fun s1 fP=>?_)
 . refine cV U ?_;refine fh (i:=1) U ?_;have ho:ops[i]? =some ops[i]:=ay h1;obtain⟨q,l',a1,a2⟩:=Wo hI h2 ops[i];obtain⟨w,w1,w2⟩:=abo a2;refine Wj p q ops l l' i ops[i] w ho a1 w1 w2 fun s2 jd=>?_;show TG _ _ _ _ _ _;refine jd _ _ ?_;exact Wl q ops l' i h40 fun s3 xW=>⟨(q,l',i+1),by show 40-(i+1)<40-i;omega,a2,xW⟩
 . simp only[andThen,dV];exact fP _ _ (Wm p ops l i)
end Go.Proofs.YtfihojpgobmmdaaGreatDoor
