/- The Chunk laws: the reference model: SetRoot. No conditions. -/
import Derived.Test.YtfihojpgobmmdaaGreatDoorJointW18
set_option linter.unusedVariables false
set_option linter.unusedSimpArgs false
set_option linter.unusedSectionVars false
set_option maxRecDepth 20000
namespace Go.Proofs.YtfihojpgobmmdaaGreatDoor
open Go Go.Eng
theorem abB{α:Type}{g a b c d e:α}(h:g∈[a,b,c,d,e]):g=a\/g=b\/g=c\/g=d\/g=e:=(aE.1 h).imp id fun h=>afj h
def lU(n x:aa):Bool->List (aa×aa)->List (aa×aa)
 |dn,[]=>if dn=true then[]else[(n,x)]
 |dn,p::l=>(if dn=false/\ye n p.1=true then[(n,x)]else[])++((if p.1=n then[]else[p])++lU n x (dn||ye n p.1) l)
def oP(s:RS)(n x:aa):RR:=
 if x≠[]/\gp s.cs x<0 then⟨s,[],62,false⟩
 else if x=gK n s.ro then⟨s,[],0,false⟩
 else⟨⟨s.cs,lU n x (eG x []) s.ro⟩,[],0,true⟩
theorem Wg(a b:List (aa×aa)):fo (a++b)=fo a++fo b:=by unfold fo;rw[aZ,cr]
theorem zy{gq:List (aa×aa)}(p q:aa):List.take (gq.length*2) (List.drop 0 (fo gq))++[D.str p,D.str q]=fo (gq++[(p,q)]):=by
 rw[bu,bq (by rw[nv];omega),Wg];rfl
theorem sH{k:Nat}(h:k<=1000000):eT k 2 32=true:=by
 unfold eT;exact bM ⟨be,be⟩
section
variable(s:RS)(n x:aa)
abbrev Eu(gq:List (aa×aa))(dn:Bool)(i:Nat):St:=Wf s n x gq.length (.deep (fo gq)) dn [(10,iW i)]
theorem aor(h1:s.cs.length<=1000000)(h2:s.ro.length<=100000)(dn0:Bool):TG ak 3 Tryz.f90.ntmps (de 5 zx) (Wf s n x 0 (.deep (fo [])) dn0 []) (fH ak 3 Tryz.f90 (nB (RR.v ⟨⟨s.cs,lU n x dn0 s.ro⟩,[],0,true⟩))):=by
 refine cV U ?_;refine cV U ?_;refine fR D3 (aoq s n x 0 (fo []) dn0) (dG ?_);refine⟨cR,fun s' dL=>?_⟩;refine j9 (α:=List (aa×aa)×Bool×Nat) 1 (fun a=>s.ro.length-a.2.2) (fun a=>a.2.2<=s.ro.length/\a.1.length<=2*a.2.2/\a.1++lU n x a.2.1 (s.ro.drop a.2.2)=lU n x dn0 s.ro) (fun a=>Eu s n x a.1 a.2.1 a.2.2) U U ([],dn0,0) ⟨aY _,aY _,by rw[bu];rfl⟩ (.norm dL) fun a ⟨hi,hl,he⟩=>?_;obtain⟨gq,dn,i⟩:=a;simp only at hi hl he;have Qh:(fo gq).length=gq.length*2:=nv gq;rcases bN i s.ro.length with fJ|Ae
 . have iY:=aN V.dw (Dv s.ro i fJ);rw[bF fJ]at he;generalize s.ro[i]=pq at iY he;obtain⟨p,q⟩:=pq;have hb:((0:Int)<=Int.ofNat i/\Int.ofNat i<(Int.ofNat s.ro.length)):=⟨az _,dh⟩;have zz:V.int aj (IntKind.i64.wrap (Int.ofNat i+(1:Int)))=iW (i+1):=pb dh be;have w7:=nv s.ro;have hm:s.ro.length-(i+1)<s.ro.length-i:=by omega
   cases dn with
   |true=>
    refine fR D3 (Yz s n x gq.length (fo gq) i p q) fun g hg hc=>?_;rcases xQ hg with rfl|rfl|rfl
    . have h3:=hc _ (aK _ (aq.2 rfl));dsimp only at h3;have fP:p≠n:=oO (by simpa using h3);refine⟨fm (hb) (fm (w7) (fm (iY) (fm (hb) (fm (w7) (fm (iY) (fm be (fm dP (fm (sH be) (eR (zz)))))))))),fun s2 jd=>⟨(gq++[(p,q)],true,i+1),hm,⟨by show i+1<=_;omega,by show(gq++[(p,q)]).length<=2*(i+1);rw[ax];simp;omega,?_⟩,?_⟩⟩
      . simp only[lU,aI fP,Bool.true_or]at he;simpa using he
      . rw[zy]at jd;show gu _ _ _ _ (Eu s n x (gq++[(p,q)]) true (i+1));unfold Eu;rw[ax];exact .norm jd
    . have h3:=hc _ (aK _ (aq.2 rfl));dsimp only at h3;have KC:p=n:=kM (by simpa using h3);refine⟨fm (hb) (fm (w7) (fm (iY) (eR (zz)))),fun s2 jd=>⟨(gq,true,i+1),hm,⟨by show i+1<=_;omega,by show gq.length<=2*(i+1);omega,?_⟩,.norm jd⟩⟩;simp only[lU,aG KC,Bool.true_or]at he;simpa using he
    . exact absurd (aJ (hc _ (aq.2 rfl))) dh
   |false=>
    obtain⟨L5,ue⟩:=YA s n x gq.length (fo gq) i p q;have e1:(List.take (gq.length*2) (List.drop 0 (fo gq))++[D.str n,D.str x])=fo (gq++[(n,x)]):=zy n x;have e2:List.take ((gq.length+1)*2) (List.drop 0 (fo (gq++[(n,x)])))++[D.str p,D.str q]=fo (gq++[(n,x)]++[(p,q)]):=by
     have:=zy (gq:=gq++[(n,x)]) p q;rwa [ax]at this
    have e3:=zy (gq:=gq) p q;have HB:(fo (gq++[(n,x)])).length=(gq.length+1)*2:=by rw[nv,ax];simp
    rw[e1,e2,e3]at ue;refine gy D3 mo lT U ue fun g hg hc=>?_;rcases abB hg with rfl|rfl|rfl|rfl|rfl
    . have h2:=hc _ (aK _ (aP ..));have h3:=hc _ (aK _ (aK _ (aq.2 rfl)));dsimp only at h2 h3;have fP:p≠n:=oO (by simpa using h3);refine⟨fm (hb) (fm (w7) (fm (iY) (fm be (fm dP (fm (sH be) (fm (hb) (fm (w7) (fm (iY) (fm (hb) (fm (w7) (fm (iY) (fm be (fm dP (fm (sH be) (eR (zz)))))))))))))))),fun s2 jd=>⟨(gq++[(n,x)]++[(p,q)],true,i+1),hm,⟨by show i+1<=_;omega,by show(gq++[(n,x)]++[(p,q)]).length<=2*(i+1);rw[ax,ax];simp;omega,?_⟩,?_⟩⟩
      . simp only[lU,aI fP,h2]at he;simpa using he
      . show gu _ _ _ _ (Eu s n x (gq++[(n,x)]++[(p,q)]) true (i+1));unfold Eu;rw[ax,ax];exact .norm jd
    . have h2:=hc _ (aK _ (aP ..));have h3:=hc _ (aK _ (aK _ (aq.2 rfl)));dsimp only at h2 h3;have KC:p=n:=kM (by simpa using h3);refine⟨fm (hb) (fm (w7) (fm (iY) (fm be (fm dP (fm (sH be) (fm (hb) (fm (w7) (fm (iY) (eR (zz)))))))))),fun s2 jd=>⟨(gq++[(n,x)],true,i+1),hm,⟨by show i+1<=_;omega,by show(gq++[(n,x)]).length<=2*(i+1);rw[ax];simp;omega,?_⟩,?_⟩⟩
      . simp only[lU,aG KC,h2]at he;simpa using he
      . show gu _ _ _ _ (Eu s n x (gq++[(n,x)]) true (i+1));unfold Eu;rw[ax];exact .norm jd
    . have h2:=hc _ (aK _ (aP ..));have h3:=hc _ (aK _ (aK _ (aq.2 rfl)));dsimp only at h2 h3;have fP:p≠n:=oO (by simpa using h3);refine⟨fm (hb) (fm (w7) (fm (iY) (fm (hb) (fm (w7) (fm (iY) (fm (hb) (fm (w7) (fm (iY) (fm be (fm dP (fm (sH be) (eR (zz))))))))))))),fun s2 jd=>⟨(gq++[(p,q)],false,i+1),hm,⟨by show i+1<=_;omega,by show(gq++[(p,q)]).length<=2*(i+1);rw[ax];simp;omega,?_⟩,?_⟩⟩
      . simp only[lU,aI fP,h2]at he;simpa using he
      . show gu _ _ _ _ (Eu s n x (gq++[(p,q)]) false (i+1));unfold Eu;rw[ax];exact .norm jd
    . have h2:=hc _ (aK _ (aP ..));have h3:=hc _ (aK _ (aK _ (aq.2 rfl)));dsimp only at h2 h3;have KC:p=n:=kM (by simpa using h3);refine⟨fm (hb) (fm (w7) (fm (iY) (fm (hb) (fm (w7) (fm (iY) (eR (zz))))))),fun s2 jd=>⟨(gq,false,i+1),hm,⟨by show i+1<=_;omega,by show gq.length<=2*(i+1);omega,?_⟩,.norm jd⟩⟩;simp only[lU,aG KC,h2]at he;simpa using he
    . exact absurd (aJ (hc _ (aq.2 rfl))) dh
 . obtain rfl:i=s.ro.length:=by omega
   rw[List.drop_length]at he;have rE:∀s2,gu ak 3 Tryz.f90.ntmps s2 (Eu s n x gq dn s.ro.length)->TG ak 3 Tryz.f90.ntmps (de 6 zx) s2 (fH ak 3 Tryz.f90 (nB (RR.v ⟨⟨s.cs,lU n x dn0 s.ro⟩,[],0,true⟩))):=fun s2 jd=>by
    refine jd _ _ ?_;rw[<- he];have BD:∀ro:List (aa×aa),nB (RR.v ⟨⟨s.cs,ro⟩,[],0,true⟩) (.agg [.dM false s.cs.length (fD s.cs),.di (some (3,0)) ro.length ro.length 2,.str [],.int .i64 0,.bool true]) (hL [(3,.deep (fo ro))]) 4:=fun ro=>
     ⟨[[3]],[(fo ro).length=ro.length*2],{ fr:=Tr.nil.set 0 (some (RR.v ⟨⟨s.cs,ro⟩,[],0,true⟩)),h:=(hL [(3,.deep (fo ro))]).set 3 none,n:=4,gz:=[] },U,eR (nv _),U⟩
    cases dn with
    |true=>
     refine fu D3 (agA s n x gq.length (fo gq) s.ro.length) (dG ?_);refine⟨cR,_,_,_,rfl,?_⟩;have:=BD gq;simpa[lU]using this
    |false=>
     obtain⟨L6,HC⟩:=agB s n x gq.length (fo gq) s.ro.length;rw[zy]at HC;refine iq D3 mo _ U HC (dG ?_);refine⟨fm be (fm dP (eR (sH be))),_,_,_,rfl,?_⟩;have:=BD (gq++[(n,x)]);rw[ax]at this;exact this
   cases dn with
   |true=>
    refine fR D3 (Yz s n x gq.length (fo gq) s.ro.length [] []) fun g hg hc=>?_;rcases xQ hg with rfl|rfl|rfl
    . exact absurd (aH (hc _ (aP ..))) dh
    . exact absurd (aH (hc _ (aP ..))) dh
    . refine⟨cR,fun s2 jd=>?_⟩;simp only[andThen,dY];exact rE s2 (.norm jd)
   |false=>
    refine fR D3 (YA s n x gq.length (fo gq) s.ro.length [] []) fun g hg hc=>?_;rcases abB hg with rfl|rfl|rfl|rfl|rfl
    . exact absurd (aH (hc _ (aP ..))) dh
    . exact absurd (aH (hc _ (aP ..))) dh
    . exact absurd (aH (hc _ (aP ..))) dh
    . exact absurd (aH (hc _ (aP ..))) dh
    . refine⟨cR,fun s2 jd=>?_⟩;simp only[andThen,dY];exact rE s2 (.norm jd)
end
section
variable(s:RS)(n x:aa)
theorem aos(h1:s.cs.length<=1000000)(h2:s.ro.length<64)(hn:n≠[])(Mp:n.length<=64):TG ak 3 Tryz.f90.ntmps zx (cT [s.v,.str n,.str x] .nil 3) (fH ak 3 Tryz.f90 (nB (oP s n x).v)):=by
 have Af:∀a∈[True,True,True,True,s.cs.length<=1000000,s.ro.length<=1000000],a:=fm trivial (fm trivial (fm trivial (fm trivial (fm h1 (eR be)))));have hN:V.bool (eG n ([]:aa))=V.bool false:=zo hn;have hL:V.bool (decide ((Int.ofNat n.length)>(64:Int)))=V.bool false:=G6 Mp;have hR:V.bool (decide ((Int.ofNat s.ro.length)>=(64:Int)))=V.bool false:=aN V.bool (bw dh);obtain⟨L1,AR⟩:=aoo s n x;simp only[rF,jM]at AR;refine kV 2 D3 mo U AR Af ?_;show TG _ _ _ (de 2 zx) (sSr s n x [(7,.str (gK n s.ro))]) _;have Na:∀s',eX 3 [1,2,3,6] s'=some (sSr s n x [])->¬(x≠[]/\gp s.cs x<0)->x≠gK n s.ro->TG ak 3 Tryz.f90.ntmps (de 3 zx) s' (fH ak 3 Tryz.f90 (nB (oP s n x).v)):=fun s' dL hf hw=>by
  refine c6 dL ?_;unfold oP;rw[aI hf,aI hw];refine iO  2 D3 (aop s n x (eG x [])) (eR rfl) ?_;refine(gu.deep [5] (S:=Wf s n x 0 (.deep (fo [])) (eG x []) []) U) _ _ ?_;exact aor s n x h1 be (eG x [])
 generalize abC:gK n s.ro=rK at Na ⊢;refine cV U ?_;by_cases hx:x=[]
 . subst hx;have hf:¬(([]:aa)≠[]/\gp s.cs []<0):=fun h=>h.1 rfl;obtain⟨L2,Fc⟩:=agz s n rK;refine gy D3 mo (nB (oP s n []).v) U Fc fun g hg hc=>?_;rcases iV hg with rfl|rfl
   . have h3:=kM (hc _ (aq.2 rfl));refine⟨fm hN (eR hL),?_,fun s1 fQ=>fQ⟩;unfold oP;rw[aI hf,aG (by rw[abC];exact h3)];exact nB.self
   . have h3:=oO (hc _ (aq.2 rfl));exact⟨fm hN (eR hL),fun s1 fQ=>Na s1 fQ hf h3⟩
 . have hX:(V.bool !eG x ([]:aa))=V.bool true:=G5 hx;obtain⟨L2,Fc⟩:=agy s n x rK;simp only[jM,rF]at Fc;refine gy D3 mo (nB (oP s n x).v) U Fc fun g hg hc=>?_;have hA:∀a∈[V.bool (eG n ([]:aa))=V.bool false,V.bool (decide ((Int.ofNat n.length)>(64:Int)))=V.bool false,(V.bool !eG x ([]:aa))=V.bool true],a:=fm hN (fm hL (eR hX));rcases abB hg with rfl|rfl|rfl|rfl|rfl
   . have h3:=aH (hc _ (aq.2 rfl));refine⟨jB (a:=[_,_,_]) hA Af,?_,fun s1 fQ=>fQ⟩;unfold oP;rw[aG ⟨hx,h3⟩];exact nB.self
   all_goals
    have h3:=aJ (hc _ (aP ..));have hf:¬(x≠[]/\gp s.cs x<0):=fun h=>h3 h.2
   . have h4:=kM (hc _ (aK _ (aK _ (aq.2 rfl))));refine⟨jB (a:=[_,_,_]) hA (jB (a:=[_,_,_,_,_,_]) Af (fm hX (eR hR))),?_,fun s1 fQ=>fQ⟩;unfold oP;rw[aI hf,aG (by rw[abC];exact h4)];exact nB.self
   . have h4:=oO (hc _ (aK _ (aK _ (aq.2 rfl))));exact⟨jB (a:=[_,_,_]) hA (jB (a:=[_,_,_,_,_,_]) Af (fm hX (eR hR))),fun s1 fQ=>Na s1 fQ hf h4⟩
   . have h4:=kM (hc _ (aK _ (aK _ (aq.2 rfl))));refine⟨jB (a:=[_,_,_]) hA (jB (a:=[_,_,_,_,_,_]) Af (eR hX)),?_,fun s1 fQ=>fQ⟩;unfold oP;rw[aI hf,aG (by rw[abC];exact h4)];exact nB.self
   . have h4:=oO (hc _ (aK _ (aK _ (aq.2 rfl))));exact⟨jB (a:=[_,_,_]) hA (jB (a:=[_,_,_,_,_,_]) Af (eR hX)),fun s1 fQ=>Na s1 fQ hf h4⟩
end
def LU:ai->Option (ah×V)
 | [.agg [.dM n cs,.dM m rs],.str d,.dM k us]=>some (Jh n cs m rs++[n<=100000,us=strs (dH us),k=(dH us).length,d.length<=65536,k<=1024,∀x∈dH us,x.length=32],(ld ⟨gw cs,pg rs⟩ d (dH us)).v)
 |_=>none
def LV:ai->Option (ah×V)
 | [.agg [.dM n cs,.dM m rs],.str a,.str x]=>some (Jh n cs m rs++[m<64,a≠[],a.length<=64],(oP ⟨gw cs,pg rs⟩ a x).v)
 |_=>none
theorem Ji(r:RR):r.v.deep=true:=rfl
theorem SF:jG ak 37 (Go.Eng.dW LU):=by
 refine vl (au U) fun args A v e hA=>?_;unfold LU at e;split at e
 case h_2=>cases e
 rename_i n cs m rs d k us;simp only[an,aB]at e;obtain⟨rfl,rfl⟩:=e;have hB:=fun a ha=>hA a (bZ _ ha);have hC:=fun a ha=>hA a (cJ _ ha);obtain⟨s,h1,h2,h3,h4,h5,h6,h7,h8⟩:=tL hC;have b1:n<=100000:=hB (n<=100000) (by simp);have b2:us=strs (dH us):=hB _ (by simp);have b3:k=(dH us).length:=hB (k=(dH us).length) (by simp);have b4:d.length<=65536:=hB (d.length<=65536) (by simp);have b5:k<=1024:=hB (k<=1024) (by simp);have b6:∀x∈dH us,x.length=32:=hB (∀x∈dH us,x.length=32) (by simp);rw[h7,h8];clear h7 h8 hA hB hC;generalize dH us=ps at *;subst h1 h2 h3 h4 b2 b3;exact gU mo po Tryz.func37 U U rfl (Ji _) (aon s d ps b1 h6 b4 b5 b6)
theorem SG:jG ak 90 (Go.Eng.dW LV):=by
 refine vl (au U) fun args A v e hA=>?_;unfold LV at e;split at e
 case h_2=>cases e
 rename_i n cs m rs a x;simp only[an,aB]at e;obtain⟨rfl,rfl⟩:=e;have hB:=fun a ha=>hA a (bZ _ ha);have hC:=fun a ha=>hA a (cJ _ ha);obtain⟨s,h1,h2,h3,h4,h5,h6,h7,h8⟩:=tL hC;have b1:m<64:=hB (m<64) (by simp);have b2:a≠[]:=hB (a≠[]) (by simp);have b3:a.length<=64:=hB (a.length<=64) (by simp);rw[h7,h8];clear h7 h8 hA hB hC;subst h1 h2 h3 h4;exact gU mo po Tryz.func90 U U rfl (Ji _) (aos s a x h5 b1 b2 b3)
noncomputable abbrev W25:jL:=kA 90 (Go.Eng.dW LV) (kA 37 (Go.Eng.dW LU) W24)
theorem SH:gd ak W25:=fk SG (fk SF SE)
noncomputable abbrev xZ:e9:=gG ak W25 H0 1000 40
noncomputable abbrev Jj:CX ak:=CX.of mo po SH H0 1000 40
noncomputable abbrev O7:Code:=dS Tryz.f68
noncomputable abbrev Wh:Code:=dx (dx (dV (dK (de 2 O7))))
section
variable(s:RS)(bs:List Bool)(i:Nat)(r:List (Nat×V))(z:Int)(j:Nat)
noncomputable abbrev abD:Code:=dx (dK (dV Wh))
noncomputable abbrev Wi:Code:=dK abD
noncomputable abbrev SI:Code:=de 2 abD
def lN:ai:=bs.map .bool
def q8:St:=eF ([(1,.ptr (some (3,0))),(3,.di (some (4,0)) bs.length bs.length 1)]++r) (hL [(3,bx s),(4,.deep (lN bs))]) 5
def SJ(k:Nat)(ds:ai)(r:List (Nat×V)):St:=eF ([(1,.ptr (some (3,0))),(3,.di (some (4,0)) k k 1)]++r) (hL [(3,bx s),(4,.deep ds)]) 5
theorem aou:c7 xZ [] 3 Tryz.f68 [1,3] (eO 2 O7) (cT [s.v] .nil 3) [([],
   [((0:Int)<=IntKind.i64.wrap (Int.ofNat s.cs.length)/\IntKind.i64.wrap (Int.ofNat s.cs.length)<=IntKind.i64.wrap (Int.ofNat s.cs.length)/\(1:Int)*IntKind.i64.wrap (Int.ofNat s.cs.length)<=(281474976710656:Int))],
   .to .normal (SJ s (IntKind.i64.wrap (Int.ofNat s.cs.length)).toNat (Bq [D.bool false] (IntKind.i64.wrap (Int.ofNat s.cs.length)).toNat) []))]
 :=cQ.of U U U
theorem aov:c7 xZ [(15,.dc (.int .i64 z))] 3 Tryz.f68 [1,3,4] (dK (dK (de 2 O7))) (q8 s bs []) [([],
   [(V.int aj (IntKind.i64.wrap ((Int.ofNat s.cs.length)-(1:Int)))=V.int aj z)],
   .to .normal (q8 s bs [(4,.int .i64 z)]))]
 :=cQ.of U U U
theorem aow:c7 xZ [(17,.dc (.bool true))] 3 Tryz.f68 [1,3,4] (dK Wh) (q8 s bs [(4,iW i)]) [([],
   [(V.bool (decide (Int.ofNat i>=(0:Int)))=V.bool true)],
   .to .normal (q8 s bs [(4,iW i)]))]
 :=cQ.of U U U
theorem agC:c7 xZ [] 3 Tryz.f68 [1,3,4] (dK Wh) (q8 s bs [(4,.int .i64 (-1))]) [([],
   [],
   .to (.exit 0) (q8 s bs [(4,.int .i64 (-1))]))]
 :=cQ.of U U U
theorem aox:c7 xZ [] 3 Tryz.f68 [1,3,4,5] (dK Wi) (q8 s bs [(4,iW i)]) [([],
   [],
   .to .normal (q8 s bs [(4,iW i),(5,iW 0)]))]
 :=cQ.of U U U
theorem YB:c7 xZ [(24,.split),(32,.dc (.bool true)),(26,.dc (iW (j+1)))] 3 Tryz.f68 [1,3,4,5] (dx (dx (dV Wi))) (q8 s bs [(4,iW i),(5,iW j)]) [([((decide (Int.ofNat j<(Int.ofNat s.ro.length))),true)],
   [((0:Int)<=Int.ofNat i/\Int.ofNat i<(Int.ofNat bs.length)),(0+i*1<(lN bs).length),(((lN bs).getD (0+i*1) D.uz).iL=V.bool true),((0:Int)<=Int.ofNat i/\Int.ofNat i<(Int.ofNat bs.length)),(0+i*1+1<=(lN bs).length),(V.int aj (IntKind.i64.wrap (Int.ofNat j+(1:Int)))=iW (j+1))],
   .to .normal (SJ s bs.length (wL (lN bs) (0+i*1) [D.bool true]) [(4,iW i),(5,iW (j+1))])),
  ([((decide (Int.ofNat j<(Int.ofNat s.ro.length))),false)],
   [],
   .to (.exit 2) (q8 s bs [(4,iW i),(5,iW j)]))]
 :=cQ.of U U U
theorem YC(p q:aa)(c:gP):c7 xZ [(24,.split),(32,.dc (.bool false)),(37,.dc (.dw [.str p,.str q])),(43,.dc (.dw c.d)),(26,.dc (iW (j+1)))] 3 Tryz.f68 [1,3,4,5] (dx (dx (dV Wi))) (q8 s bs [(4,iW i),(5,iW j)]) [([((decide (Int.ofNat j<(Int.ofNat s.ro.length))),true)],
   [((0:Int)<=Int.ofNat i/\Int.ofNat i<(Int.ofNat bs.length)),(0+i*1<(lN bs).length),(((lN bs).getD (0+i*1) D.uz).iL=V.bool false),((0:Int)<=Int.ofNat j/\Int.ofNat j<(Int.ofNat s.ro.length)),((fo s.ro).length=s.ro.length*2),(V.dw (dm (fo s.ro) (j*2) 2)=V.dw [D.str p,D.str q]),((0:Int)<=Int.ofNat i/\Int.ofNat i<(Int.ofNat s.cs.length)),((fD s.cs).length=s.cs.length*3),(V.dw (dm (fD s.cs) (i*3) 3)=V.dw c.d),((0:Int)<=Int.ofNat i/\Int.ofNat i<(Int.ofNat bs.length)),(0+i*1+1<=(lN bs).length),(V.int aj (IntKind.i64.wrap (Int.ofNat j+(1:Int)))=iW (j+1))],
   .to .normal (SJ s bs.length (wL (lN bs) (0+i*1) [D.bool (eG q c.dg)]) [(4,iW i),(5,iW (j+1))])),
  ([((decide (Int.ofNat j<(Int.ofNat s.ro.length))),false)],
   [],
   .to (.exit 2) (q8 s bs [(4,iW i),(5,iW j)]))]
 :=cQ.of U U U
theorem aoy:c7 xZ [] 3 Tryz.f68 [1,3,4,6] (eO 1 (de 1 abD)) (q8 s bs [(4,iW i),(5,iW j)]) [([],
   [],
   .to .normal (q8 s bs [(4,iW i),(6,iW 0)]))]
 :=cQ.of U U U
theorem aoz(c:gP)(b:Bool):c7 xZ [(53,.dc (.dw c.d)),(57,.split),(62,.dc (.bool b)),(63,.split)] 3 Tryz.f68 [1,3,4,6] (dK (dx (dx SI))) (q8 s bs [(4,iW i),(6,iW j)]) [([((decide (Int.ofNat j<(Int.ofNat c.rs.length))),true),(b,true)],
   [((0:Int)<=Int.ofNat i/\Int.ofNat i<(Int.ofNat s.cs.length)),((fD s.cs).length=s.cs.length*3),(V.dw (dm (fD s.cs) (i*3) 3)=V.dw c.d),((0:Int)<=Int.ofNat i/\Int.ofNat i<(Int.ofNat bs.length)),(0+i*1<(lN bs).length),(((lN bs).getD (0+i*1) D.uz).iL=V.bool b)],
   .to .normal (q8 s bs [(4,iW i),(6,iW j)])),
  ([((decide (Int.ofNat j<(Int.ofNat c.rs.length))),true),(b,false)],
   [((0:Int)<=Int.ofNat i/\Int.ofNat i<(Int.ofNat s.cs.length)),((fD s.cs).length=s.cs.length*3),(V.dw (dm (fD s.cs) (i*3) 3)=V.dw c.d),((0:Int)<=Int.ofNat i/\Int.ofNat i<(Int.ofNat bs.length)),(0+i*1<(lN bs).length),(((lN bs).getD (0+i*1) D.uz).iL=V.bool b)],
   .to (.exit 4) (q8 s bs [(4,iW i),(6,iW j)])),
  ([((decide (Int.ofNat j<(Int.ofNat c.rs.length))),false),(false,true)],
   [((0:Int)<=Int.ofNat i/\Int.ofNat i<(Int.ofNat s.cs.length)),((fD s.cs).length=s.cs.length*3),(V.dw (dm (fD s.cs) (i*3) 3)=V.dw c.d)],
   .to .normal (q8 s bs [(4,iW i),(6,iW j)])),
  ([((decide (Int.ofNat j<(Int.ofNat c.rs.length))),false),(false,false)],
   [((0:Int)<=Int.ofNat i/\Int.ofNat i<(Int.ofNat s.cs.length)),((fD s.cs).length=s.cs.length*3),(V.dw (dm (fD s.cs) (i*3) 3)=V.dw c.d)],
   .to (.exit 4) (eF [(1,.ptr (some (3,0))),(3,.di (some (4,0)) (bs.length) (bs.length) 1),(4,.int .i64 (Int.ofNat i)),(6,.int .i64 (Int.ofNat j))] (hL [(3,.cells [.dM false (s.cs.length) (fD s.cs),.dM false (s.ro.length) (fo s.ro)]),(4,.deep (lN bs))]) 5))]
 :=cQ.of U U U
noncomputable abbrev abE:Code:=dK (dV (dx (dx SI)))
theorem aoA(c:gP)(r:aa):c7 xZ [(70,.dc (.dw c.d)),(74,.dc (.dw [.str r]))] 3 Tryz.f68 [1,3,4,6,7] (dK (dx abE)) (q8 s bs [(4,iW i),(6,iW j)]) [([],
   [((0:Int)<=Int.ofNat i/\Int.ofNat i<(Int.ofNat s.cs.length)),((fD s.cs).length=s.cs.length*3),(V.dw (dm (fD s.cs) (i*3) 3)=V.dw c.d),((0:Int)<=Int.ofNat j/\Int.ofNat j<(Int.ofNat c.rs.length)),((strs c.rs).length=c.rs.length*1),(V.dw (dm (strs c.rs) (j*1) 1)=V.dw [D.str r]),(fD s.cs=fD (gw (fD s.cs))),(s.cs.length=(gw (fD s.cs)).length),(fo s.ro=fo (pg (fo s.ro))),(s.ro.length=(pg (fo s.ro)).length),(s.cs.length<=1000000),(s.ro.length<=1000000)],
   .to .normal (eF [(1,.ptr (some (3,0))),(3,.di (some (4,0)) (bs.length) (bs.length) 1),(4,.int .i64 (Int.ofNat i)),(6,.int .i64 (Int.ofNat j)),(7,.int .i64 (gp (gw (fD s.cs)) r))] (hL [(3,.cells [.dM false (s.cs.length) (fD s.cs),.dM false (s.ro.length) (fo s.ro)]),(4,.deep (lN bs))]) 5))]
 :=cQ.of U U U
theorem agD(m:Nat):c7 xZ [(78,.dc (.bool true))] 3 Tryz.f68 [1,3,4,6] (dV (dx abE)) (q8 s bs [(4,iW i),(6,iW j),(7,iW m)]) [([],
   [(V.bool (decide (Int.ofNat m>=(0:Int)))=V.bool true),((0:Int)<=Int.ofNat m/\Int.ofNat m<(Int.ofNat bs.length)),(0+m*1+1<=(lN bs).length)],
   .to .normal (SJ s bs.length (wL (lN bs) (0+m*1) [D.bool true]) [(4,iW i),(6,iW j)]))]
 :=cQ.of U U U
theorem agE:c7 xZ [] 3 Tryz.f68 [1,3,4,6] (dV (dx abE)) (q8 s bs [(4,iW i),(6,iW j),(7,.int .i64 (-1))]) [([],
   [],
   .to .normal (q8 s bs [(4,iW i),(6,iW j)]))]
 :=cQ.of U U U
theorem agF:c7 xZ [(65,.dc (iW (j+1)))] 3 Tryz.f68 [1,3,4,6] (dV (dV (dx (dx SI)))) (q8 s bs [(4,iW i),(6,iW j)]) [([],
   [(V.int aj (IntKind.i64.wrap (Int.ofNat j+(1:Int)))=iW (j+1))],
   .to .normal (q8 s bs [(4,iW i),(6,iW (j+1))]))]
 :=cQ.of U U U
theorem aoB:c7 xZ [(19,.dc (.int .i64 z))] 3 Tryz.f68 [1,3,4] (dV (dV Wh)) (q8 s bs [(4,iW i)]) [([],
   [(V.int aj (IntKind.i64.wrap (Int.ofNat i-(1:Int)))=V.int aj z)],
   .to .normal (q8 s bs [(4,.int .i64 z)]))]
 :=cQ.of U U U
theorem agG:c7 xZ [] 3 Tryz.f68 [] (dV (de 2 O7)) (q8 s bs [(4,.int .i64 (-1))]) [([],
   [],
   .ret (.di (some (3,0)) (bs.length) (bs.length) 1) (hL [(3,.deep (lN bs))]) 4)]
 :=cQ.of U U U
end
def Ev(ro:List (aa×aa))(c:gP):Bool:=ro.any fun p=>eG p.2 c.dg
section
variable(s:RS)(bs:List Bool)(i:Nat)
def jC(r:aa):List Bool:=if gp s.cs r<0 then bs else bs.set (gp s.cs r).toNat true
def kS(c:gP):List Bool:=bs.set i (bs.getD i false||Ev s.ro c)
def zA(c:gP):List Bool:=if(kS s bs i c).getD i false=true then c.rs.foldl (jC s) (kS s bs i c)else kS s bs i c
end
def SL(s:RS):Nat->List Bool->List Bool
 |0,bs=>bs
 |i+1,bs=>SL s i (zA s bs i (s.cs.getD i ⟨[],[],[]⟩))
def fh(s:RS):List Bool:=SL s s.cs.length (List.replicate s.cs.length false)
theorem Bi(x:aa):∀(l:List gP) (i:Nat),sG x l i= -1\/∃m,m<i+l.length/\sG x l i=Int.ofNat m
 | [],_=>.inl rfl
 |c::l,i=>by
  unfold sG;split
  . exact .inr ⟨i,by simp,rfl⟩
  . rcases Bi x l (i+1)with h|⟨m,hm,h⟩
    . exact .inl h
    . exact .inr ⟨m,by rw[aT];omega,h⟩
theorem Jk(l:List gP)(x:aa):gp l x= -1\/∃m,m<l.length/\gp l x=Int.ofNat m:=by
 have:=Bi x l 0;rw[bE]at this;exact this
theorem Fx(s:RS)(bs:List Bool)(r:aa):(jC s bs r).length=bs.length:=by
 unfold jC;split
 . rfl
 . rw[List.length_set]
theorem Jl(s:RS):∀(l:List (aa)) (bs:List Bool),(l.foldl (jC s) bs).length=bs.length
 | [],_=>rfl
 |r::l,bs=>by rw[List.foldl_cons,Jl s l,Fx]
section
variable(s:RS)(bs:List Bool)(i:Nat)
theorem x4(c:gP):(kS s bs i c).length=bs.length:=by unfold kS;rw[List.length_set]
theorem Fy(c:gP):(zA s bs i c).length=bs.length:=by
 unfold zA;split
 . rw[Jl,x4]
 . rw[x4]
end
theorem Nb(s:RS):∀(k:Nat) (bs:List Bool),(SL s k bs).length=bs.length
 |0,_=>rfl
 |k+1,bs=>by rw[SL,Nb s k,Fy]
theorem q9(bs:List Bool):(lN bs).length=bs.length:=by unfold lN;rw[aW]
section
variable{bs:List Bool}{i:Nat}
theorem Nc(h:i<bs.length):0+i*1<(lN bs).length/\((lN bs).getD (0+i*1) D.uz).iL=V.bool (bs.getD i false):=by
 refine⟨by rw[q9];omega,?_⟩;unfold lN;rw[bE,bj,aL,br,ay h,aL,ay h];rfl
theorem Hh(h:i<bs.length)(b:Bool):wL (lN bs) (0+i*1) [D.bool b]=lN (bs.set i b):=by
 unfold wL lN;rw[bE,bj,List.set_eq_take_append_cons_drop,aG h,aZ,bW,cL,List.map_drop];rfl
end
theorem BV(s:RS)(bs:List Bool)(k:Nat)(hk:k=bs.length)(r:List (Nat×V)):SJ s k (lN bs) r=q8 s bs r:=by subst hk;rfl
section
variable(s:RS)
theorem agH(h1:s.cs.length<=100000)(h2:s.ro.length<=1000000)(i:Nat)(hi:i<s.cs.length)(bs:List Bool)(hl:bs.length=s.cs.length){st:St}{Q:Exit->St->Prop}
  (hs:gu ak 3 Tryz.f68.ntmps st (q8 s bs [(4,iW i),(6,iW 0)])) (w7:(s.cs[i]).rs.length<=100000)
  (h:∀s' j,gu ak 3 Tryz.f68.ntmps s' (q8 s (if bs.getD i false=true then(s.cs[i]).rs.foldl (jC s) bs else bs) [(4,iW i),(6,iW j)])->Q .normal s'):TG ak 3 Tryz.f68.ntmps SI st Q:=by
 have Af:∀a∈[True,True,True,True,s.cs.length<=1000000,s.ro.length<=1000000],a:=fm trivial (fm trivial (fm trivial (fm trivial (fm be (eR h2)))));have iY:=aN V.dw (xX s.cs i hi);have Lp:((0:Int)<=Int.ofNat i/\Int.ofNat i<(Int.ofNat s.cs.length)):=⟨az _,dh⟩;have rT:=k8 s.cs;generalize s.cs[i]=c at iY w7 h;refine j9 (α:=List Bool×Nat) 4 (fun a=>c.rs.length-a.2) (fun a=>a.2<=c.rs.length/\a.1.length=s.cs.length/\(bs.getD i false=true->a.1.getD i false=true)/\(bs.getD i false=false->a.1=bs)/\(if bs.getD i false=true then(c.rs.drop a.2).foldl (jC s) a.1 else bs)=(if bs.getD i false=true then c.rs.foldl (jC s) bs else bs)) (fun a=>q8 s a.1 [(4,iW i),(6,iW a.2)]) U U (bs,0) ⟨aY _,hl,id,fun _=>rfl,by rw[bu]⟩ hs fun a ⟨a1,a2,a3,a4,a5⟩=>?_;obtain⟨ds,j⟩:=a;simp only at a1 a2 a3 a4 a5;have hg:=Nc (bs:=ds) (i:=i) be;have hbd:((0:Int)<=Int.ofNat i/\Int.ofNat i<(Int.ofNat ds.length)):=⟨az _,dh⟩;refine cV U ?_;refine fR Jj (aoz s ds i j c (ds.getD i false)) fun g uq hc=>?_;rcases afj uq with rfl|rfl|rfl|rfl
 . have c1:=aH (hc _ (aP ..));have c2:ds.getD i false=true:=hc _ (aK _ (aq.2 rfl));rw[kZ,kZ]at c1;have hj:j<c.rs.length:=by omega
   refine⟨fm (Lp) (fm (rT) (fm (iY) (fm (hbd) (fm (hg.1) (eR (hg.2)))))),fun s1 fQ=>c6 fQ ?_⟩;have hb:bs.getD i false=true:=by
    cases hq:bs.getD i false with
    |true=>rfl
    |false=>rw[a4 hq,hq]at c2;cases c2
   refine cV U ?_;refine fg (i:=5) U ?_;refine cV U ?_;have LW:=aN V.dw (fI (ay hj));obtain⟨L8,hr8⟩:=aoA s ds i j c c.rs[j];simp only[jM,rF]at hr8;refine gy Jj mo lT U hr8 fun g uq _=>?_;rw[aq]at uq;subst uq;refine⟨jB (a:=[_,_,_,_,_,_]) (fm (Lp) (fm (rT) (fm (iY) (fm (⟨az _,dh⟩) (fm (by rw[eJ];omega) (eR (LW))))))) Af,fun s2 jd=>c6 jd ?_⟩;rw[aG hb,aG hb,bF hj,List.foldl_cons]at a5;have zz:V.int aj (IntKind.i64.wrap (Int.ofNat j+(1:Int)))=iW (j+1):=pb dh be;have pF:∀s3,gu ak 3 Tryz.f68.ntmps s3 (q8 s (jC s ds c.rs[j]) [(4,iW i),(6,iW j)])->TG ak 3 Tryz.f68.ntmps (dV (dV (dx (dx SI)))) s3 (andThen (fun s'=>∃x':List Bool×Nat,c.rs.length-x'.2<c.rs.length-j/\(x'.2<=c.rs.length/\x'.1.length=s.cs.length/\(bs.getD i false=true->x'.1.getD i false=true)/\(bs.getD i false=false->x'.1=bs)/\(if bs.getD i false=true then(c.rs.drop x'.2).foldl (jC s) x'.1 else bs)=(if bs.getD i false=true then c.rs.foldl (jC s) bs else bs))/\gu ak 3 Tryz.f68.ntmps s' (q8 s x'.1 [(4,iW i),(6,iW x'.2)])) (mj 4 Q)):=fun s3 yb=>by
    refine yb _ _ ?_;refine fR Jj (agF s (jC s ds c.rs[j]) i j) fun g uq _=>?_;rw[aq]at uq;subst uq;refine⟨eR zz,fun s4 Jf=>⟨(jC s ds c.rs[j],j+1),by show c.rs.length-(j+1)<_;omega,⟨by show j+1<=_;omega,by show(jC s ds c.rs[j]).length=_;rw[Fx,a2],fun _=>?_,fun hq=>?_,?_⟩,.norm Jf⟩⟩
    . show(jC s ds c.rs[j]).getD i false=true;unfold jC;split
      . exact c2
      . rw[aL,List.getElem?_set];rw[aL]at c2;split
        . rw[aG be];rfl
        . exact c2
    . rw[hb]at hq;cases hq
    . rw[aG hb,aG hb];exact a5
   rcases Jk s.cs c.rs[j]with hf|⟨m,hm,hf⟩
   . have hmk:jC s ds c.rs[j]=ds:=by unfold jC;rw[hf];rfl
     rw[hf];refine fR Jj (agE s ds i j) fun g uq _=>?_;rw[aq]at uq;subst uq;rw[hmk]at pF;exact⟨cR,fun s3 yb=>pF s3 (.norm yb)⟩
   . have hmk:jC s ds c.rs[j]=ds.set m true:=by
      unfold jC;rw[hf,aI dh];rfl
     rw[hf];refine fR Jj (agD s ds i j m) fun g uq _=>?_;rw[aq]at uq;subst uq;refine⟨fm (aN V.bool (bM dh)) (fm (⟨az _,dh⟩) (eR (by rw[q9];omega))),fun s3 yb=>?_⟩;rw[Hh be,BV s _ _ (by rw[List.length_set])]at yb;rw[hmk]at pF;exact pF s3 (.norm yb)
 . have c1:=aH (hc _ (aP ..));have c2:ds.getD i false=false:=hc _ (aK _ (aq.2 rfl));refine⟨fm (Lp) (fm (rT) (fm (iY) (fm (hbd) (fm (hg.1) (eR (hg.2)))))),fun s1 fQ=>?_⟩;have hb:bs.getD i false=false:=by
    cases hq:bs.getD i false with
    |false=>rfl
    |true=>rw[a3 hq]at c2;cases c2
   simp only[andThen,dY];refine h s1 j ?_;rw[a4 hb]at fQ;rw[aI (by rw[hb];decide)];exact .norm fQ
 . have:=hc _ (aK _ (aq.2 rfl));cases this
 . have c1:=aJ (hc _ (aP ..));rw[kZ,kZ]at c1;obtain rfl:j=c.rs.length:=by omega
   refine⟨fm (Lp) (fm (rT) (eR (iY))),fun s1 fQ=>?_⟩;simp only[andThen,dY];refine h s1 c.rs.length ?_;rw[<- a5,List.drop_length,List.foldl_nil];cases hq:bs.getD i false with
   |true=>exact .norm fQ
   |false=>
    rw[a4 hq]at fQ;exact .norm fQ
end
section
variable(s:RS)
section
variable(bs:List Bool)
def DA(i:Nat)(c:gP)(j:Nat):List Bool:=bs.set i (bs.getD i false||Ev (s.ro.take j) c)
theorem SM{bs:List Bool}{i:Nat}(h:i<bs.length)(b:Bool):(bs.set i b).getD i false=b:=by
 rw[aL,List.getElem?_set,aG rfl,aG h];rfl
theorem Wj(i:Nat)(c:gP)(j:Nat):(DA s bs i c j).length=bs.length:=by unfold DA;rw[List.length_set]
theorem O8(c:gP){j:Nat}(h:j<s.ro.length):Ev (s.ro.take (j+1)) c=(Ev (s.ro.take j) c||eG (s.ro[j]).2 c.dg):=by
 unfold Ev;rw[bI,ay h,cB,List.any_append];simp
theorem SN{i:Nat}(h:i<s.cs.length):SL s (i+1) bs=SL s i (zA s bs i s.cs[i]):=by
 show SL s i (zA s bs i (s.cs.getD i ⟨[],[],[]⟩))=_;rw[aL,ay h];rfl
theorem agJ(h1:s.cs.length<=100000)(h2:s.ro.length<=1000000)(i:Nat)(hi:i<s.cs.length)(bs:List Bool)(hl:bs.length=s.cs.length){Q:Exit->St->Prop}{st:St}(hs:gu ak 3 Tryz.f68.ntmps st (q8 s bs [(4,iW i),(5,iW 0)]))
  (h:∀s' j,gu ak 3 Tryz.f68.ntmps s' (q8 s (kS s bs i s.cs[i]) [(4,iW i),(5,iW j)])->Q .normal s'):TG ak 3 Tryz.f68.ntmps (dV Wi) st Q:=by
 have iY:=aN V.dw (xX s.cs i hi);have Lp:((0:Int)<=Int.ofNat i/\Int.ofNat i<(Int.ofNat s.cs.length)):=⟨az _,dh⟩;have rT:=k8 s.cs;have w7:=nv s.ro;generalize s.cs[i]=c at iY h;have h0:DA s bs i c 0=bs:=by
  unfold DA;rw[List.take_zero,show Ev [] c=false from rfl,Bool.or_false,aL,ay be];exact List.set_getElem_self be
 refine jj 2 s.ro.length (fun j=>q8 s (DA s bs i c j) [(4,iW i),(5,iW j)]) U U (by rw[h0];exact hs) (fun j hj=>?_) ?_
 . have OV:=Wj s bs i c j;have hg:=Nc (bs:=DA s bs i c j) (i:=i) be;have hgv:(DA s bs i c j).getD i false=(bs.getD i false||Ev (s.ro.take j) c):=SM be _;have hbd:((0:Int)<=Int.ofNat i/\Int.ofNat i<(Int.ofNat (DA s bs i c j).length)):=⟨az _,dh⟩;have zz:V.int aj (IntKind.i64.wrap (Int.ofNat j+(1:Int)))=iW (j+1):=pb dh be;have hn:=O8 s c hj;show TG _ _ _ _ _ (andThen (fun s'=>gu ak 3 Tryz.f68.ntmps s' (q8 s (DA s bs i c (j+1)) [(4,iW i),(5,iW (j+1))])) _);cases hq:(DA s bs i c j).getD i false with
   |true=>
    rw[hq]at hg;refine fR Jj (YB s (DA s bs i c j) i j) fun g uq hc=>?_;rcases iV uq with rfl|rfl
    . refine⟨fm (hbd) (fm (hg.1) (fm (hg.2) (fm (hbd) (fm (by rw[q9];omega) (eR (zz)))))),fun s1 fQ=>?_⟩;rw[Hh be,BV s _ _ (by rw[List.length_set])]at fQ;have e:(DA s bs i c j).set i true=DA s bs i c (j+1):=by
       rw[hgv]at hq;unfold DA;rw[List.set_set,hn,<- Bool.or_assoc,hq,Bool.true_or]
      rw[e]at fQ;exact .norm fQ
    . exact absurd (aJ (hc _ (aq.2 rfl))) dh
   |false=>
    rw[hq]at hg;have LW:=aN V.dw (Dv s.ro j hj);refine fR Jj (YC s (DA s bs i c j) i j (s.ro[j]).1 (s.ro[j]).2 c) fun g uq hc=>?_;rcases iV uq with rfl|rfl
    . refine⟨fm (hbd) (fm (hg.1) (fm (hg.2) (fm (⟨az _,dh⟩) (fm (w7) (fm (LW) (fm (Lp) (fm (rT) (fm (iY) (fm (hbd) (fm (by rw[q9];omega) (eR (zz)))))))))))),fun s1 fQ=>?_⟩;rw[Hh be,BV s _ _ (by rw[List.length_set])]at fQ;have e:(DA s bs i c j).set i (eG (s.ro[j]).2 c.dg)=DA s bs i c (j+1):=by
       rw[hgv]at hq;unfold DA;rw[List.set_set,hn,<- Bool.or_assoc,hq,Bool.false_or]
      rw[e]at fQ;exact .norm fQ
    . exact absurd (aJ (hc _ (aq.2 rfl))) dh
 . have rE:∀s1,gu ak 3 Tryz.f68.ntmps s1 (q8 s (DA s bs i c s.ro.length) [(4,iW i),(5,iW s.ro.length)])->Q .normal s1:=fun s1 fQ=>by
    refine h s1 s.ro.length ?_;unfold DA at fQ;rw[aS]at fQ;exact fQ
   cases hq:(DA s bs i c s.ro.length).getD i false with
   |true=>
    refine fR Jj (YB s (DA s bs i c s.ro.length) i s.ro.length) fun g uq hc=>?_;rcases iV uq with rfl|rfl
    . exact absurd (aH (hc _ (aq.2 rfl))) dh
    . refine⟨cR,fun s1 fQ=>⟨by simp,?_⟩⟩;rw[dY];exact rE s1 (.norm fQ)
   |false=>
    refine fR Jj (YC s (DA s bs i c s.ro.length) i s.ro.length [] [] c) fun g uq hc=>?_;rcases iV uq with rfl|rfl
    . exact absurd (aH (hc _ (aq.2 rfl))) dh
    . refine⟨cR,fun s1 fQ=>⟨by simp,?_⟩⟩;rw[dY];exact rE s1 (.norm fQ)
def spD:Nat->St
 |0=>q8 s bs [(4,.int .i64 (-1))]
 |i+1=>q8 s bs [(4,iW i)]
theorem Nd{k:Nat}{z:Int}(hz:z=(k:Int)-1):q8 s bs [(4,.int .i64 z)]=spD s bs k:=by
 subst hz;cases k with
 |zero=>rfl
 |succ i=>
  have e:((i+1:Nat):Int)-1=Int.ofNat i:=by rw[kZ];omega
  rw[e];rfl
end
theorem aoD(h1:s.cs.length<=100000)(h2:s.ro.length<=1000000)(h3:∀c∈s.cs,c.rs.length<=100000):TG ak 3 Tryz.f68.ntmps O7 (cT [s.v] .nil 3) (fH ak 3 Tryz.f68 (nB (.dM false s.cs.length (lN (fh s))))):=by
 have hw:IntKind.i64.wrap (Int.ofNat s.cs.length)=Int.ofNat s.cs.length:=fE dh dh;refine iO  2 Jj (aou s) (eR ⟨by rw[hw,kZ];omega,Int.le_refl _,by rw[hw,kZ];omega⟩) ?_;have hrp:∀m:Nat,Bq [D.bool false] m=lN (List.replicate m false):=fun m=>by
  induction m with
  |zero=>rfl
  |succ m ih=>show[D.bool false]++Bq [D.bool false] m=_;rw[ih];rfl
 rw[hw,show(Int.ofNat s.cs.length).toNat=s.cs.length from rfl,hrp,BV s _ _ (by rw[bJ])];show TG _ _ _ (de 2 O7) _ _;refine cV U ?_;refine cV U ?_;refine fR Jj (aov s (List.replicate s.cs.length false) ((s.cs.length:Int)-1)) (dG ?_);refine⟨eR (aN _ (fE dh dh)),fun s' dL=>?_⟩;rw[Nd s _ (k:=s.cs.length) rfl]at dL;refine j9 (α:=List Bool×Nat) 0 (fun a=>a.2) (fun a=>a.2<=s.cs.length/\a.1.length=s.cs.length/\SL s a.2 a.1=fh s) (fun a=>spD s a.1 a.2) U U (List.replicate s.cs.length false,s.cs.length) ⟨aA _,bJ,rfl⟩ (.norm dL) fun a ⟨a1,a2,a3⟩=>?_;obtain⟨bs,k⟩:=a;simp only at a1 a2 a3;refine cV U ?_;cases k with
 |zero=>
  show TG _ _ _ _ (q8 s bs [(4,.int .i64 (-1))]) _;refine fR Jj (agC s bs) (dG ?_);refine⟨cR,fun s1 fQ=>?_⟩;simp only[andThen,dY];refine c6 fQ ?_;refine fu Jj (agG s bs) (dG ?_);refine⟨cR,_,_,_,rfl,?_⟩;rw[<- a3,<- a2];show nB (.dM false bs.length (lN bs)) _ _ _;exact⟨[[3]],[(lN bs).length=bs.length*1],{ fr:=Tr.nil.set 0 (some (.dM false bs.length (lN bs))),h:=(hL [(3,.deep (lN bs))]).set 3 none,n:=4,gz:=[] },U,eR (by rw[q9,bj]),U⟩
 |succ i=>
  have hi:i<s.cs.length:=by omega
  show TG _ _ _ _ (q8 s bs [(4,iW i)]) _;refine fR Jj (aow s bs i) (dG ?_);refine⟨eR (aN V.bool (bM dh)),fun s1 fQ=>c6 fQ ?_⟩;refine cV U ?_;refine fg (i:=1) U ?_;refine cV U ?_;refine cV U ?_;refine fR Jj (aox s bs i) (dG ?_);refine⟨cR,fun s2 jd=>?_⟩;refine agJ s h1 h2 i hi bs a2 (.norm jd) fun s3 j yb=>?_;simp only[andThen];refine yb _ _ ?_;refine iO  1 Jj (aoy s (kS s bs i s.cs[i]) i j) cR ?_;refine agH s h1 h2 i hi (kS s bs i s.cs[i]) (by rw[x4,a2]) .refl (h3 _ (bY hi)) fun s4 j4 Jf=>?_;rw[show(if(kS s bs i s.cs[i]).getD i false=true then(s.cs[i]).rs.foldl (jC s) (kS s bs i s.cs[i])else kS s bs i s.cs[i])=zA s bs i s.cs[i]from rfl]at Jf;show TG _ _ _ _ _ _;have hsl:=Fy s bs i s.cs[i];have uc:=SN s bs hi;generalize zA s bs i s.cs[i]=ds at Jf hsl uc;refine(Jf.trans (.norm (live:=[1,3,4]) (S:=q8 s ds [(4,iW i)]) U)) _ _ ?_;refine fR Jj (aoB s ds i ((i:Int)-1)) (dG ?_);refine⟨eR (aN _ (fE dh dh)),fun s5 hs5=>⟨(ds,i),Nat.lt_succ_self i,⟨by show i<=_;omega,by show ds.length=_;rw[hsl,a2],by show SL s i ds=_;rw[<- uc,a3]⟩,?_⟩⟩;rw[Nd s _ (k:=i) rfl]at hs5;exact .norm hs5
end
def LX:ai->Option (ah×V)
 | [.agg [.dM n cs,.dM m rs]]=>some (Jh n cs m rs++[n<=100000,∀c∈gw cs,c.rs.length<=100000],.dM false n (lN (fh ⟨gw cs,pg rs⟩)))
 |_=>none
theorem SO(bs:List Bool)(n:Nat):(V.dM false n (lN bs)).deep=true:=rfl
theorem SP:jG ak 68 (Go.Eng.dW LX):=by
 refine vl (au U) fun args A v e hA=>?_;unfold LX at e;split at e
 case h_2=>cases e
 rename_i n cs m rs;simp only[an,aB]at e;obtain⟨rfl,rfl⟩:=e;have hB:=fun a ha=>hA a (bZ _ ha);have hC:=fun a ha=>hA a (cJ _ ha);obtain⟨s,h1,h2,h3,h4,h5,h6,h7,h8⟩:=tL hC;have b1:n<=100000:=hB (n<=100000) (by simp);have b2:∀c∈gw cs,c.rs.length<=100000:=hB (∀c∈gw cs,c.rs.length<=100000) (by simp);rw[h7]at b2;rw[h7,h8];clear h7 h8 hA hB hC;subst h1 h2 h3 h4;exact gU mo po Tryz.func68 U U rfl (SO _ _) (aoD s b1 h6 b2)
noncomputable abbrev W26:jL:=kA 68 (Go.Eng.dW LX) W25
theorem SQ:gd ak W26:=fk SP SH
noncomputable abbrev Ew:e9:=gG ak W26 H0 1000 40
noncomputable abbrev O9:CX ak:=CX.of mo po SQ H0 1000 40
noncomputable abbrev Pa:Code:=dS Tryz.f32
noncomputable abbrev aoF:Code:=dx (dx (dV (dK (de 3 Pa))))
noncomputable abbrev Hi:Code:=dS Tryz.f33
section
variable(s:RS)(bs:List Bool)(n:Nat)
def o58:O:=.cells [.di none 0 0 0,.di none 0 0 0]
def sKm(m:Nat)(cs:ai)(r:List (Nat×V)):St:=eF ([(1,.ptr (some (3,0))),(2,.ptr (some (4,0))),(3,.dM false n (lN bs)),(4,.di (some (5,0)) m m 3)]++r) (hL [(3,bx s),(4,o58),(5,.deep cs)]) 6
def Pb(u:Int)(r:List (Nat×V)):St:=eF ([(1,.ptr (some (3,0))),(3,.int .i64 u)]++r) (hL [(3,bx s)]) 4
end
theorem aoG(s:RS):c7 Ew [] 3 Tryz.f32 [1,2,3,4] (eO 3 Pa) (cT [s.v] .nil 3) [([],
   [(fD s.cs=fD (gw (fD s.cs))),(s.cs.length=(gw (fD s.cs)).length),(fo s.ro=fo (pg (fo s.ro))),(s.ro.length=(pg (fo s.ro)).length),(s.cs.length<=1000000),(s.ro.length<=1000000),(s.cs.length<=100000),(∀(c:gP),c∈gw (fD s.cs)->c.rs.length<=100000)],
   .to .normal (eF [(1,.ptr (some (3,0))),(2,.ptr (some (4,0))),(3,.dM false (s.cs.length) (lN (fh { cs:=gw (fD s.cs),ro:=pg (fo s.ro) }))),(4,.di (some (5,0)) 0 0 3)] (hL [(3,.cells [.dM false (s.cs.length) (fD s.cs),.dM false (s.ro.length) (fo s.ro)]),(4,.cells [.di none 0 0 0,.di none 0 0 0]),(5,.cells [])]) 6))]
 :=cQ.of U U U
section
variable(s:RS)(u:Int)(bs:List Bool)(n i m:Nat)(cs:ai)
theorem aoH:c7 Ew [] 3 Tryz.f32 [1,2,3,4,5] (dK (dK (de 3 Pa))) (sKm s bs n m cs []) [([],
   [],
   .to .normal (sKm s bs n m cs [(5,iW 0)]))]
 :=cQ.of U U U
abbrev SR:Prop:=V.int aj (IntKind.i64.wrap (Int.ofNat i+(1:Int)))=iW (i+1)
theorem agK(i:Nat)(c:gP)(b:Bool):c7 Ew [(13,.split),(18,.dc (.dw [.bool b])),(19,.split),(24,.dc (.dw c.d)),(15,.dc (iW (i+1)))] 3 Tryz.f32 [1,2,3,4,5] (aoF) (sKm s bs n m cs [(5,iW i)]) [([((decide (Int.ofNat i<(Int.ofNat s.cs.length))),true),(b,true)],
   [((0:Int)<=Int.ofNat i/\Int.ofNat i<(Int.ofNat n)),((lN bs).length=n*1),(V.dw (dm (lN bs) (i*1) 1)=V.dw [D.bool b]),((0:Int)<=Int.ofNat i/\Int.ofNat i<(Int.ofNat s.cs.length)),((fD s.cs).length=s.cs.length*3),(V.dw (dm (fD s.cs) (i*3) 3)=V.dw c.d),(0+m*3<=cs.length),(0<1),(eT (m+1) 3 56=true),SR i],
   .to .normal (eF [(1,.ptr (some (3,0))),(2,.ptr (some (4,0))),(3,.dM false n (lN bs)),(4,.di (some (5,0)) (m+1) (m+1) 3),(5,.int .i64 (Int.ofNat (i+1)))] (hL [(3,.cells [.dM false (s.cs.length) (fD s.cs),.dM false (s.ro.length) (fo s.ro)]),(4,.cells [.di none 0 0 0,.di none 0 0 0]),(5,.deep (List.take (m*3) (List.drop 0 cs)++[D.str c.dg,D.str c.da,D.dM c.rs.length (strs c.rs)]))]) 6)),
  ([((decide (Int.ofNat i<(Int.ofNat s.cs.length))),true),(b,false)],
   [((0:Int)<=Int.ofNat i/\Int.ofNat i<(Int.ofNat n)),((lN bs).length=n*1),(V.dw (dm (lN bs) (i*1) 1)=V.dw [D.bool b]),SR i],
   .to .normal (eF [(1,.ptr (some (3,0))),(2,.ptr (some (4,0))),(3,.dM false n (lN bs)),(4,.di (some (5,0)) m m 3),(5,.int .i64 (Int.ofNat (i+1)))] (hL [(3,.cells [.dM false (s.cs.length) (fD s.cs),.dM false (s.ro.length) (fo s.ro)]),(4,.cells [.di none 0 0 0,.di none 0 0 0]),(5,.deep cs)]) 6)),
  ([((decide (Int.ofNat i<(Int.ofNat s.cs.length))),false)],
   [],
   .to (.exit 0) (eF [(1,.ptr (some (3,0))),(2,.ptr (some (4,0))),(3,.dM false n (lN bs)),(4,.di (some (5,0)) m m 3),(5,.int .i64 (Int.ofNat i))] (hL [(3,.cells [.dM false (s.cs.length) (fD s.cs),.dM false (s.ro.length) (fo s.ro)]),(4,.cells [.di none 0 0 0,.di none 0 0 0]),(5,.deep cs)]) 6))]
 :=cQ.of U U U
theorem aoI(i:Nat):c7 Ew [] 3 Tryz.f32 [] (dV (de 3 Pa)) (sKm s bs n m cs [(5,iW i)]) [([],
   [],
   .ret (.agg [.di (some (3,0)) m m 3,.dM false (s.ro.length) (fo s.ro)]) (hL [(3,.deep cs)]) 4)]
 :=cQ.of U U U
theorem aoJ:c7 Ew [] 3 Tryz.f33 [1,3] (eO 2 Hi) (cT [s.v] .nil 3) [([],
   [],
   .to .normal (Pb s 0 []))]
 :=cQ.of U U U
theorem aoK:c7 Ew [] 3 Tryz.f33 [1,3,4] (dK (dK (de 2 Hi))) (Pb s u []) [([],
   [],
   .to .normal (Pb s u [(4,iW 0)]))]
 :=cQ.of U U U
theorem agL(c:gP):c7 Ew [(10,.split),(18,.dc (.dw c.d)),(26,.dc (.dw c.d)),(12,.dc (iW (i+1)))] 3 Tryz.f33 [1,3,4] (dx (dx (dV (dK (de 2 Hi))))) (Pb s u [(4,iW i)]) [([((decide (Int.ofNat i<(Int.ofNat s.cs.length))),true)],
   [((0:Int)<=Int.ofNat i/\Int.ofNat i<(Int.ofNat s.cs.length)),((fD s.cs).length=s.cs.length*3),(V.dw (dm (fD s.cs) (i*3) 3)=V.dw c.d),((0:Int)<=Int.ofNat i/\Int.ofNat i<(Int.ofNat s.cs.length)),((fD s.cs).length=s.cs.length*3),(V.dw (dm (fD s.cs) (i*3) 3)=V.dw c.d),(V.int aj (IntKind.i64.wrap (Int.ofNat i+(1:Int)))=iW (i+1))],
   .to .normal (eF [(1,.ptr (some (3,0))),(3,.int .i64 (IntKind.i64.wrap (IntKind.i64.wrap (IntKind.i64.wrap (u+(64:Int))+(Int.ofNat c.da.length))+IntKind.i64.wrap ((32:Int)*(Int.ofNat c.rs.length))))),(4,.int .i64 (Int.ofNat (i+1)))] (hL [(3,.cells [.dM false (s.cs.length) (fD s.cs),.dM false (s.ro.length) (fo s.ro)])]) 4)),
  ([((decide (Int.ofNat i<(Int.ofNat s.cs.length))),false)],
   [],
   .to (.exit 0) (eF [(1,.ptr (some (3,0))),(3,.int .i64 u),(4,.int .i64 (Int.ofNat i))] (hL [(3,.cells [.dM false (s.cs.length) (fD s.cs),.dM false (s.ro.length) (fo s.ro)])]) 4))]
 :=cQ.of U U U
theorem aoL:c7 Ew [] 3 Tryz.f33 [1,3,5] (dK (dK (de 3 Hi))) (Pb s u [(4,iW i)]) [([],
   [],
   .to .normal (Pb s u [(5,iW 0)]))]
 :=cQ.of U U U
theorem agM(p q:aa):c7 Ew [(36,.split),(44,.dc (.dw [.str p,.str q])),(38,.dc (iW (i+1)))] 3 Tryz.f33 [1,3,5] (dx (dx (dV (dK (de 3 Hi))))) (Pb s u [(5,iW i)]) [([((decide (Int.ofNat i<(Int.ofNat s.ro.length))),true)],
   [((0:Int)<=Int.ofNat i/\Int.ofNat i<(Int.ofNat s.ro.length)),((fo s.ro).length=s.ro.length*2),(V.dw (dm (fo s.ro) (i*2) 2)=V.dw [D.str p,D.str q]),(V.int aj (IntKind.i64.wrap (Int.ofNat i+(1:Int)))=iW (i+1))],
   .to .normal (eF [(1,.ptr (some (3,0))),(3,.int .i64 (IntKind.i64.wrap (IntKind.i64.wrap (u+(96:Int))+(Int.ofNat p.length)))),(5,.int .i64 (Int.ofNat (i+1)))] (hL [(3,.cells [.dM false (s.cs.length) (fD s.cs),.dM false (s.ro.length) (fo s.ro)])]) 4)),
  ([((decide (Int.ofNat i<(Int.ofNat s.ro.length))),false)],
   [],
   .to (.exit 2) (eF [(1,.ptr (some (3,0))),(3,.int .i64 u),(5,.int .i64 (Int.ofNat i))] (hL [(3,.cells [.dM false (s.cs.length) (fD s.cs),.dM false (s.ro.length) (fo s.ro)])]) 4))]
 :=cQ.of U U U
theorem aoM:c7 Ew [] 3 Tryz.f33 [] (de 4 Hi) (Pb s u [(5,iW i)]) [([],
   [],
   .ret (.int .i64 u) (hL []) 3)]
 :=cQ.of U U U
end
def k9:List gP->List Bool->List gP
 |c::l,b::bs=>if b=true then c::k9 l bs else k9 l bs
 |_,_=>[]
def iJ(s:RS):RS:=⟨k9 s.cs (fh s),s.ro⟩
def zB(c:gP):Int:=64+c.da.length+32*c.rs.length
def AB(p:aa×aa):Int:=96+p.1.length
def LY(s:RS):Int:=(s.cs.map zB).sum+(s.ro.map AB).sum
theorem zC(s:RS):(fh s).length=s.cs.length:=by unfold fh;rw[Nb,bJ]
theorem DB{bs:List Bool}{i:Nat}(h:i<bs.length):dm (lN bs) (i*1) 1=[D.bool bs[i]]:=by
 unfold dm lN;rw[bj,<- List.map_drop,bF h];rfl
theorem Wk{gq:List gP}(c:gP):List.take (gq.length*3) (List.drop 0 (fD gq))++[D.str c.dg,D.str c.da,D.dM c.rs.length (strs c.rs)]=fD (gq++[c]):=by
 rw[bu,bq (by rw[k8];omega),M8];rfl
section
variable(s:RS)
theorem aoN(h1:s.cs.length<=100000)(h2:s.ro.length<=1000000)(h3:∀c∈s.cs,c.rs.length<=100000):TG ak 3 Tryz.f32.ntmps Pa (cT [s.v] .nil 3) (fH ak 3 Tryz.f32 (nB (iJ s).v)):=by
 have Af:∀a∈[True,True,True,True,s.cs.length<=1000000,s.ro.length<=1000000,s.cs.length<=100000,∀(c:gP),c∈s.cs->c.rs.length<=100000],a:=fm trivial (fm trivial (fm trivial (fm trivial (fm be (fm h2 (fm h1 (eR h3)))))));obtain⟨L1,AR⟩:=aoG s;simp only[jM,rF]at AR;refine kV 3 O9 mo U AR Af ?_;have hkr:(iJ s).v=RS.v ⟨k9 s.cs (fh s),s.ro⟩:=rfl;rw[hkr];have OV:=zC s;show TG _ _ _ _ (eF [(1,.ptr (some (3,0))),(2,.ptr (some (4,0))),(3,.dM false s.cs.length (lN (fh s))),(4,.di (some (5,0)) 0 0 3)] (hL [(3,bx s),(4,o58),(5,.cells [])]) 6) _;generalize fh s=bs at OV ⊢;refine(gu.deep [5] (S:=sKm s bs s.cs.length 0 (fD []) []) U) _ _ ?_;show TG _ _ _ (de 3 Pa) _ _;refine cV U ?_;refine cV U ?_;refine fR O9 (aoH s bs s.cs.length 0 (fD [])) (dG ?_);refine⟨cR,fun s' dL=>?_⟩;refine j9 (α:=List gP×Nat) 0 (fun a=>s.cs.length-a.2) (fun a=>a.2<=s.cs.length/\a.1.length<=a.2/\a.1++k9 (s.cs.drop a.2) (bs.drop a.2)=k9 s.cs bs) (fun a=>sKm s bs s.cs.length a.1.length (fD a.1) [(5,iW a.2)]) U U ([],0) ⟨aY _,aA _,by rw[bu,bu];rfl⟩ (.norm dL) fun a ⟨a1,a2,a3⟩=>?_;obtain⟨gq,i⟩:=a;simp only at a1 a2 a3;have rT:=k8 s.cs;have Qh:=k8 gq;rcases bN i s.cs.length with hi|Ae
 . have iY:=aN V.dw (xX s.cs i hi);have LW:=aN V.dw (DB (bs:=bs) (i:=i) be);rw[bF hi,bF (show i<bs.length by omega)]at a3;generalize s.cs[i]=c at iY a3;generalize bs[i]'(by omega)=b at LW a3;have hb:((0:Int)<=Int.ofNat i/\Int.ofNat i<(Int.ofNat s.cs.length)):=⟨az _,dh⟩;have zz:V.int aj (IntKind.i64.wrap (Int.ofNat i+(1:Int)))=iW (i+1):=pb dh be;obtain⟨L3,wv⟩:=agK s bs s.cs.length gq.length (fD gq) i c b;rw[Wk]at wv;refine gy O9 mo lT U wv fun g hg hc=>?_;rcases xQ hg with rfl|rfl|rfl
   . have c2:b=true:=hc _ (aK _ (aq.2 rfl));rw[k9,aG c2]at a3;refine⟨fm (hb) (fm (by rw[q9];omega) (fm (LW) (fm (hb) (fm (rT) (fm (iY) (fm be (fm dP (fm (Dy be) (eR (zz)))))))))),fun s1 fQ=>⟨(gq++[c],i+1),by show s.cs.length-(i+1)<_;omega,⟨by show i+1<=_;omega,by show(gq++[c]).length<=i+1;rw[ax];simp;omega,by rw[<- a3,bA];rfl⟩,?_⟩⟩;show gu _ _ _ _ (sKm s bs s.cs.length (gq++[c]).length (fD (gq++[c])) [(5,iW (i+1))]);rw[ax];exact .norm fQ
   . have c2:b=false:=hc _ (aK _ (aq.2 rfl));rw[k9,aI (by rw[c2];decide)]at a3;exact⟨fm (hb) (fm (by rw[q9];omega) (fm (LW) (eR (zz)))),fun s1 fQ=>⟨(gq,i+1),by show s.cs.length-(i+1)<_;omega,⟨by show i+1<=_;omega,by show gq.length<=i+1;omega,a3⟩,.norm fQ⟩⟩
   . exact absurd (aJ (hc _ (aq.2 rfl))) dh
 . obtain rfl:i=s.cs.length:=by omega
   rw[List.drop_length,show k9 [] (bs.drop s.cs.length)=[]from rfl,ct]at a3;refine fR O9 (agK s bs s.cs.length gq.length (fD gq) s.cs.length ⟨[],[],[]⟩ true) fun g hg hc=>?_;rcases xQ hg with rfl|rfl|rfl
   . exact absurd (aH (hc _ (aP ..))) dh
   . exact absurd (aH (hc _ (aP ..))) dh
   refine⟨cR,fun s1 fQ=>?_⟩;simp only[andThen,dY];refine c6 fQ ?_;rw[<- a3];refine fu O9 (aoI s bs s.cs.length gq.length (fD gq) s.cs.length) (dG ?_);exact⟨cR,_,_,_,rfl,[[3]],[(fD gq).length=gq.length*3],{ fr:=Tr.nil.set 0 (some (RS.v ⟨gq,s.ro⟩)),h:=(hL [(3,.deep (fD gq))]).set 3 none,n:=4,gz:=[] },U,eR (k8 _),U⟩
theorem Jm{α:Type}{f:α->Int}{l:List α}{i:Nat}(h:i<l.length):((l.take (i+1)).map f).sum=((l.take i).map f).sum+f l[i]:=by
 rw[bI,ay h,cB,aZ,List.sum_append];simp
theorem AD{α:Type}{f:α->Int}{B:Int}(hB:0<=B):∀{l:List α},(∀x∈l,0<=f x/\f x<=B)->0<=(l.map f).sum/\(l.map f).sum<=B*l.length
 | [],_=>by simp
 |x::l,h=>by
  have ih:=AD hB (l:=l) fun y hy=>h y (aK _ hy);have h1:=h x (aP ..);rw[bW,List.sum_cons,aT];have:B*((l.length+1:Nat):Int)=B*l.length+B:=by rw[Int.natCast_add,Int.mul_add];simp
  omega
theorem aoO(h1:s.cs.length<=100000)(h2:s.ro.length<=100000)(h3:∀c∈s.cs,c.da.length<=100000/\c.rs.length<=2000)(h4:∀p∈s.ro,p.1.length<=100000):TG ak 3 Tryz.f33.ntmps Hi (cT [s.v] .nil 3) (fH ak 3 Tryz.f33 fun u _ _=>u= .int .i64 (LY s)):=by
 have hC:∀i,0<=((s.cs.take i).map zB).sum/\((s.cs.take i).map zB).sum<=20000000000:=fun i=>by
  have hb:=AD (f:=zB) (B:=200000) dP (l:=s.cs.take i) fun c hc=>by
   have:=h3 c (List.mem_of_mem_take hc);unfold zB;omega
  have:(s.cs.take i).length<=100000:=by rw[aX];omega
  omega
 have hE:∀i,0<=((s.ro.take i).map AB).sum/\((s.ro.take i).map AB).sum<=20000000000:=fun i=>by
  have hb:=AD (f:=AB) (B:=200000) dP (l:=s.ro.take i) fun c hc=>by
   have:=h4 c (List.mem_of_mem_take hc);unfold AB;omega
  have:(s.ro.take i).length<=100000:=by rw[aX];omega
  omega
 refine iO  2 O9 (aoJ s) cR ?_;show TG _ _ _ (de 2 Hi) _ _;refine cV U ?_;refine cV U ?_;refine fR O9 (aoK s 0) (dG ?_);refine⟨cR,fun s' dL=>?_⟩;refine jj 0 s.cs.length (fun i=>Pb s ((s.cs.take i).map zB).sum [(4,iW i)]) U U (.norm dL) (fun i hi=>?_) ?_
 . have iY:=aN V.dw (xX s.cs i hi);have hn:=Jm (f:=zB) hi;have yD:=hC i;have HT:=hC (i+1);have hm:=h3 _ (bY hi);show TG _ _ _ _ _ (andThen (fun s'=>gu ak 3 Tryz.f33.ntmps s' (Pb s ((s.cs.take (i+1)).map zB).sum [(4,iW (i+1))])) _);rw[hn]at HT ⊢;generalize s.cs[i]=c at iY hm HT ⊢;generalize ((s.cs.take i).map zB).sum=u at yD HT ⊢;have hb:((0:Int)<=Int.ofNat i/\Int.ofNat i<(Int.ofNat s.cs.length)):=⟨az _,dh⟩;obtain⟨L3,wv⟩:=agL s u i c;have e:IntKind.i64.wrap (IntKind.i64.wrap (IntKind.i64.wrap (u+(64:Int))+(Int.ofNat c.da.length))+IntKind.i64.wrap ((32:Int)*(Int.ofNat c.rs.length)))=u+zB c:=by
    unfold zB at *;simp only[kZ];rw[fE (x:=u+64) be be,fE (x:=u+64+_) be be,fE (x:=32*_) be be,fE be be];omega
   rw[e]at wv;refine gy O9 mo lT U wv fun g hg hc=>?_;rcases iV hg with rfl|rfl
   . exact⟨fm (hb) (fm (k8 _) (fm (iY) (fm (hb) (fm (k8 _) (fm (iY) (eR (pb dh be))))))),fun s1 fQ=>.norm fQ⟩
   . exact absurd (aJ (hc _ (aq.2 rfl))) dh
 refine fR O9 (agL s ((s.cs.take s.cs.length).map zB).sum s.cs.length ⟨[],[],[]⟩) fun g hg hc=>?_;rcases iV hg with rfl|rfl
 . exact absurd (aH (hc _ (aq.2 rfl))) dh
 refine⟨cR,fun s1 fQ=>⟨by simp,?_⟩⟩;rw[dY];have Hz:=hC s.cs.length;rw[aS]at fQ Hz;refine(gu.norm (S:=Pb s (s.cs.map zB).sum [(4,iW s.cs.length)]) fQ) _ _ ?_;unfold LY;generalize (s.cs.map zB).sum=u0 at Hz ⊢;show TG _ _ _ (de 3 Hi) _ _;refine cV U ?_;refine cV U ?_;refine fR O9 (aoL s u0 s.cs.length) (dG ?_);refine⟨cR,fun s2 jd=>?_⟩;refine jj 2 s.ro.length (fun i=>Pb s (u0+((s.ro.take i).map AB).sum) [(5,iW i)]) U U (.norm (by rw[jd];simp)) (fun i hi=>?_) ?_
 . have iY:=aN V.dw (Dv s.ro i hi);have hn:=Jm (f:=AB) hi;have yD:=hE i;have HT:=hE (i+1);have hm:=h4 _ (bY hi);show TG _ _ _ _ _ (andThen (fun s'=>gu ak 3 Tryz.f33.ntmps s' (Pb s (u0+((s.ro.take (i+1)).map AB).sum) [(5,iW (i+1))])) _);rw[hn]at HT ⊢;generalize s.ro[i]=p at iY hm HT ⊢;generalize ((s.ro.take i).map AB).sum=u at yD HT ⊢;have hb:((0:Int)<=Int.ofNat i/\Int.ofNat i<(Int.ofNat s.ro.length)):=⟨az _,dh⟩;obtain⟨L5,ue⟩:=agM s (u0+u) i p.1 p.2;have e:IntKind.i64.wrap (IntKind.i64.wrap (u0+u+(96:Int))+(Int.ofNat p.1.length))=u0+(u+AB p):=by
    unfold AB at *;simp only[kZ];rw[fE (x:=u0+u+96) be be,fE be be];omega
   rw[e]at ue;refine gy O9 mo lT U ue fun g hg hc=>?_;rcases iV hg with rfl|rfl
   . exact⟨fm (hb) (fm (nv _) (fm (iY) (eR (pb dh be)))),fun s3 yb=>.norm yb⟩
   . exact absurd (aJ (hc _ (aq.2 rfl))) dh
 refine fR O9 (agM s (u0+((s.ro.take s.ro.length).map AB).sum) s.ro.length [] []) fun g hg hc=>?_;rcases iV hg with rfl|rfl
 . exact absurd (aH (hc _ (aq.2 rfl))) dh
 refine⟨cR,fun s3 yb=>⟨by simp,?_⟩⟩;rw[dY];refine c6 yb ?_;refine fu O9 (aoM s (u0+((s.ro.take s.ro.length).map AB).sum) s.ro.length) (dG ?_);exact⟨cR,_,_,_,rfl,by rw[aS]⟩
end
def LZ:ai->Option (ah×V)
 | [.agg [.dM n cs,.dM m rs]]=>some (Jh n cs m rs++[n<=100000,∀c∈gw cs,c.rs.length<=100000],(iJ ⟨gw cs,pg rs⟩).v)
 |_=>none
def L0:ai->Option (ah×V)
 | [.agg [.dM n cs,.dM m rs]]=>some (Jh n cs m rs++[n<=100000,m<=100000,∀c∈gw cs,c.da.length<=100000/\c.rs.length<=2000,∀p∈pg rs,p.1.length<=100000],.int .i64 (LY ⟨gw cs,pg rs⟩))
 |_=>none
theorem SS(s:RS):s.v.deep=true:=rfl
theorem SU:jG ak 32 (Go.Eng.dW LZ):=by
 refine vl (au U) fun args A v e hA=>?_;unfold LZ at e;split at e
 case h_2=>cases e
 rename_i n cs m rs;simp only[an,aB]at e;obtain⟨rfl,rfl⟩:=e;have hB:=fun a ha=>hA a (bZ _ ha);have hC:=fun a ha=>hA a (cJ _ ha);obtain⟨s,h1,h2,h3,h4,h5,h6,h7,h8⟩:=tL hC;have b1:n<=100000:=hB (n<=100000) (by simp);have b2:∀c∈gw cs,c.rs.length<=100000:=hB (∀c∈gw cs,c.rs.length<=100000) (by simp);rw[h7]at b2;rw[h7,h8];clear h7 h8 hA hB hC;subst h1 h2 h3 h4;exact gU mo po Tryz.func32 U U rfl (SS _) (aoN s b1 h6 b2)
theorem abH:jG ak 33 (Go.Eng.dW L0):=by
 refine vl (au U) fun args A v e hA=>?_;unfold L0 at e;split at e
 case h_2=>cases e
 rename_i n cs m rs;simp only[an,aB]at e;obtain⟨rfl,rfl⟩:=e;have hB:=fun a ha=>hA a (bZ _ ha);have hC:=fun a ha=>hA a (cJ _ ha);obtain⟨s,h1,h2,h3,h4,h5,h6,h7,h8⟩:=tL hC;have b1:n<=100000:=hB (n<=100000) (by simp);have b2:m<=100000:=hB (m<=100000) (by simp);have b3:∀c∈gw cs,c.da.length<=100000/\c.rs.length<=2000:=hB (∀c∈gw cs,c.da.length<=100000/\c.rs.length<=2000) (by simp);have b4:∀p∈pg rs,p.1.length<=100000:=hB (∀p∈pg rs,p.1.length<=100000) (by simp);rw[h7]at b3;rw[h8]at b4;rw[h7,h8];clear h7 h8 hA hB hC;subst h1 h2 h3 h4;exact gU mo po Tryz.func33 U U rfl rfl (fe (aoO s b1 b2 b3 b4) fun y s h=>jZ h)
noncomputable abbrev W27:jL:=kA 33 (Go.Eng.dW L0) (kA 32 (Go.Eng.dW LZ) W26)
theorem SV:gd ak W27:=fk abH (fk SU SQ)
noncomputable abbrev agN:e9:=gG ak W27 H0 1000 40
noncomputable abbrev X27:CX ak:=CX.of mo po SV H0 1000 40
theorem aoQ:c7 agN [] 3 Tryz.f26 [] (dS Tryz.f26) (cT [] (Ej gS gR) 3) [([],
   [],
   .ret (.ptr (some (3,0))) (hL [(0,.ints .u32 gS),(1,.ints .u32 gR),(3,.cells [.ptr (some (4,0)),.di (some (7,0)) 1 1 2]),(4,.cells [.di none 0 0 0,.int .i64 0,.map (some 5),.map (some 6),.int .i64 0,.bool false,.bool false,.int .i64 0]),(5,.map [] 0),(6,.map [] 0),(7,.cells [.di none 0 0 0,.di none 0 0 0])]) 8)]
 :=cQ.of U U U
theorem aoR(z:Int)(m:Nat):c7 agN [(4,.dc (.int .u8 (Int.ofNat m))),(6,.dc (.int .u8 (Int.ofNat m))),(7,.dc (.int .u8 (Int.ofNat (m+1))))] 3 Tryz.f91 [] (dS Tryz.f91) (cT [.int .u8 z] .nil 3) [([],
   [(V.int IntKind.u8 (z.tmod (5:Int))=V.int IntKind.u8 (Int.ofNat m)),(V.int IntKind.u8 (z.tmod (5:Int))=V.int IntKind.u8 (Int.ofNat m)),(V.int IntKind.u8 (IntKind.u8.wrap (Int.ofNat m+(1:Int)))=V.int IntKind.u8 (Int.ofNat (m+1))),((0:Int)<=Int.ofNat (m+1)/\Int.ofNat (m+1)<=(5:Int)),((0:Int)<=Int.ofNat m/\Int.ofNat m<=(Int.ofNat (m+1)))],
   .ret (.str (List.drop m (List.take (m+1) ([(97:UInt8),(98:UInt8),(99:UInt8),(100:UInt8),(101:UInt8)]:aa)))) (hL []) 3)]
 :=cQ.of U U U
def RS.cells(s:RS):ai:=[.dM s.cs.length (fD s.cs),.dM s.ro.length (fo s.ro)]
def ff(l:List RS):ai:=(l.map RS.cells).flatten
section
variable(cO cP:Nat)(lg:aa)(fl nx:Int)(es rt:ae)(l:List RS)
end
def SX:aa:=[109,105,115,115,105,110,103]
theorem Fz:29<Tryz.prog.funcs.size:=au U
theorem YD:69<Tryz.prog.funcs.size:=au U
section
variable(l:List RS)(s:RS)
theorem qa:(ff l).length=l.length*2:=sF (f:=RS.cells) (w:=2) (fun _=>rfl) l
theorem zD(i:Nat)(h:i<l.length):dm (ff l) (i*2) 2=l[i].cells:=vA (f:=RS.cells) (w:=2) (fun _=>rfl) l i h
theorem DC:0+l.length*2+2<=(ff (l++[s])).length/\V.agg (D.jO (dm (ff (l++[s])) (0+l.length*2) 2))=s.v:=by
 refine⟨by rw[qa,ax];simp;omega,?_⟩;rw[bE,zD _ l.length (by rw[ax];simp),List.getElem_append_right (aA _)];simp only[Nat.sub_self,List.getElem_cons_zero];rfl
theorem SY(hl:l.length<=1000000):V.int aj (IntKind.i64.wrap ((Int.ofNat (l++[s]).length)-(1:Int)))=iW l.length/\((0:Int)<=Int.ofNat l.length/\Int.ofNat l.length<(Int.ofNat (l++[s]).length)):=by
 have e:(l++[s]).length=l.length+1:=by rw[ax];rfl
 rw[e];exact⟨aN _ (by rw[fE dh dh,kZ,kZ];omega),az _,dh⟩
def Pc:aa:=dN SX (dH [])
theorem SZ:Pc.length=32:=KY _ _
theorem Wl(h:Tr O)(n:Nat):cU ak 69 [.str SX,eI] h n (.str Pc) h n:=by
 intro E w c9 ra g hd;refine SD.2 _ h n [([]:ai)=strs (dH []),0=(dH []).length,0<=100000,(eH (SX::dH [])).length<=1000000000] _ _ _ rfl ?_ E w c9 ra g hd U;exact fm rfl (fm rfl (fm (aY _) (eR (au U))))
def kI(z:Nat):aa:=if h:z%(s.cs.length+1)<s.cs.length then(s.cs[z%(s.cs.length+1)]).dg else Pc
end
section
variable(cO cP:Nat)(lg:aa)(fl nx:Int)(es rt:ae)(l:List RS)(s:RS)
theorem Wm{z:Nat}(hz:z<=255)(hs:s.cs.length<=1000000):V.int aj (IntKind.i64.wrap ((Int.ofNat s.cs.length)+(1:Int)))=iW (s.cs.length+1)/\Int.ofNat (s.cs.length+1)≠(0:Int)/\V.int aj ((IntKind.i64.wrap (z:Int)).tmod (Int.ofNat (s.cs.length+1)))=iW (z%(s.cs.length+1)):=by
 refine⟨pb dh be,dh,aN (V.int aj) ?_⟩;rw[fE be be,kZ,cz be];rfl
end
theorem agO:66<Tryz.prog.funcs.size:=au U
theorem abI(cO cP:Nat)(b:aa)(fl nx lf:Int)(es rt:ae):cU ak 66 [P3] (eu (pS cO cP b fl nx lf es rt)) 7 (.int .i64 0) (eu (pS cO cP b (Int.ofNat cO) nx lf es rt)) 7:=by
 refine c5 Tryz.func66 (code:=Vz) U U ?_;refine fu uo (amA cO cP b fl nx lf es rt) (dG ?_);exact⟨cR,_,_,_,rfl,rfl,rfl,rfl⟩
theorem Wn(fl nx lf:Int)(es rt:ae):cU ak 66 [P3] (eu (pN fl nx lf es rt)) 7 (.int .i64 0) (eu (pN 0 nx lf es rt)) 7:=by
 refine c5 Tryz.func66 (code:=Vz) U U ?_;refine fu uo (amB fl nx lf es rt) (dG ?_);exact⟨cR,_,_,_,rfl,rfl,rfl,rfl⟩
section
variable(l:List RS)(s:RS)
end
def Nf(k:Nat):aa:=List.drop (k%5) (List.take (k%5+1) [97,98,99,100,101])
theorem Wo(k:Nat):(Nf k).length=1:=by
 unfold Nf;rw[bX,aX];have:=Nat.mod_lt k (show 0<5 by decide);show min (k%5+1) 5-k%5=1;omega
def Ma:ag->Option (ah×V)
 | [.int .u8 z]=>some ([0<=z/\z<=255],.str (Nf z.toNat))
 |_=>none
theorem S0:jG ak 91 (jJ Ma):=by
 refine jY (au U) fun args A v e=>?_;unfold Ma at e;split at e
 . rename_i z;obtain⟨rfl,rfl⟩:=fa e;refine⟨rfl,rfl,fun hA=>gT mo po Tryz.func91 (code:=dS Tryz.f91) U U rfl ?_⟩;have hz:=hA (0<=z/\z<=255) (by simp);obtain⟨k,rfl⟩:=Int.eq_ofNat_of_zero_le hz.1;have hm:=Nat.mod_lt k (show 0<5 by decide);obtain⟨L,hr⟩:=aoR k (k%5);have e1:V.int IntKind.u8 ((k:Int).tmod (5:Int))=V.int IntKind.u8 (Int.ofNat (k%5)):=aN _ (by rw[cz be];rfl);have e2:V.int IntKind.u8 (IntKind.u8.wrap (Int.ofNat (k%5)+(1:Int)))=V.int IntKind.u8 (Int.ofNat (k%5+1)):=aN _ (by
    show(Int.ofNat (k%5)+1)%256=_;rw[kZ,kZ];omega)
   refine iq X27 mo _ U hr (dG ?_);exact⟨fm e1 (fm e1 (fm e2 (fm ⟨az _,dh⟩ (eR ⟨az _,dh⟩)))),_,_,_,rfl,rfl⟩
 . cases e
noncomputable abbrev W28:jL:=kA 91 (jJ Ma) W27
theorem S1:gd ak W28:=fk S0 SV
noncomputable abbrev fV:e9:=gG ak W28 H0 1000 40
noncomputable abbrev ki:CX ak:=CX.of mo po S1 H0 1000 40
noncomputable abbrev tM:Code:=dS Tryz.f64
def rI(a b c:Int)(d:aa):V:=.agg [.int .u8 a,.int .u8 b,.int .u8 c,.str d]
def l8(a b c:Int)(d:aa):O:=.cells [.int .u8 a,.int .u8 b,.int .u8 c,.str d]
section
variable(cO cP:Nat)(lg:aa)(fl nx:Int)(es rt:ae)(l:List RS)(a b c:Int)(d:aa)(ps:List (aa))
end
end Go.Proofs.YtfihojpgobmmdaaGreatDoor
