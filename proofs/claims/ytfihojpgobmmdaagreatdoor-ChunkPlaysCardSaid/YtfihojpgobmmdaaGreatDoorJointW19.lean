/- The Chunk laws: the reference model: SetRoot. No conditions. -/
import Derived.Test.YtfihojpgobmmdaaGreatDoorJointW18
set_option linter.unusedVariables false
set_option linter.unusedSimpArgs false
set_option linter.unusedSectionVars false
set_option maxRecDepth 20000
namespace Go.Proofs.YtfihojpgobmmdaaGreatDoor
open Go Go.Eng
theorem aaL{α:Type}{g a b c d e:α}(h:g∈[a,b,c,d,e]):g=a\/g=b\/g=c\/g=d\/g=e:=(aE.1 h).imp id fun h=>aei h
def lJ(n x:aa):Bool->List (aa×aa)->List (aa×aa)
 |dn,[]=>if dn=true then[]else[(n,x)]
 |dn,p::l=>(if dn=false/\xZ n p.1=true then[(n,x)]else[])++((if p.1=n then[]else[p])++lJ n x (dn||xZ n p.1) l)
def oL(s:RS)(n x:aa):RR:=
 if x≠[]/\gj s.cs x<0 then⟨s,[],62,false⟩
 else if x=gG n s.ro then⟨s,[],0,false⟩
 else⟨⟨s.cs,lJ n x (eE x []) s.ro⟩,[],0,true⟩
theorem Vt(a b:List (aa×aa)):ff (a++b)=ff a++ff b:=by unfold ff;rw[aX,cr]
theorem zh{gl:List (aa×aa)}(p q:aa):List.take (gl.length*2) (List.drop 0 (ff gl))++[D.str p,D.str q]=ff (gl++[(p,q)]):=by
 rw[bu,bq (by rw[nl];omega),Vt];rfl
theorem su{k:Nat}(h:k<=1000000):eP k 2 32=true:=by
 unfold eP;exact bL ⟨be,be⟩
section
variable(s:RS)(n x:aa)
abbrev Eb(gl:List (aa×aa))(dn:Bool)(i:Nat):St:=Vs s n x gl.length (.deep (ff gl)) dn [(10,iW i)]
theorem ana(h1:s.cs.length<=1000000)(h2:s.ro.length<=100000)(dn0:Bool):TG ak 3 Tryz.f90.ntmps (dh 5 zg) (Vs s n x 0 (.deep (ff [])) dn0 []) (fB ak 3 Tryz.f90 (ny (RR.v ⟨⟨s.cs,lJ n x dn0 s.ro⟩,[],0,true⟩))):=by
 refine cV U ?_;refine cV U ?_;refine fV DN (am9 s n x 0 (ff []) dn0) (dI ?_);refine⟨cQ,fun s' dX=>?_⟩;refine js (α:=List (aa×aa)×Bool×Nat) 1 (fun a=>s.ro.length-a.2.2) (fun a=>a.2.2<=s.ro.length/\a.1.length<=2*a.2.2/\a.1++lJ n x a.2.1 (s.ro.drop a.2.2)=lJ n x dn0 s.ro) (fun a=>Eb s n x a.1 a.2.1 a.2.2) U U ([],dn0,0) ⟨aW _,aW _,by rw[bu];rfl⟩ (.norm dX) fun a ⟨hi,hl,he⟩=>?_;obtain⟨gl,dn,i⟩:=a;simp only at hi hl he;have hal:(ff gl).length=gl.length*2:=nl gl;rcases bN i s.ro.length with fE|zO
 . have kH:=aN V.dm (Da s.ro i fE);rw[bE fE]at he;generalize s.ro[i]=pq at kH he;obtain⟨p,q⟩:=pq;have hb:((0:Int)<=Int.ofNat i/\Int.ofNat i<(Int.ofNat s.ro.length)):=⟨az _,de⟩;have zi:V.int aj (IntKind.i64.wrap (Int.ofNat i+(1:Int)))=iW (i+1):=pP de be;have wR:=nl s.ro;have hm:s.ro.length-(i+1)<s.ro.length-i:=by omega
   cases dn with
   |true=>
    refine fV DN (XG s n x gl.length (ff gl) i p q) fun g hg hc=>?_;rcases xH hg with rfl|rfl|rfl
    . have h3:=hc _ (aJ _ (aq.2 rfl));dsimp only at h3;have fL:p≠n:=oK (by simpa using h3);refine⟨fm (hb) (fm (wR) (fm (kH) (fm (hb) (fm (wR) (fm (kH) (fm be (fm dN (fm (su be) (e9 (zi)))))))))),fun s2 jd=>⟨(gl++[(p,q)],true,i+1),hm,⟨by show i+1<=_;omega,by show(gl++[(p,q)]).length<=2*(i+1);rw[ax];simp;omega,?_⟩,?_⟩⟩
      . simp only[lJ,aI fL,Bool.true_or]at he;simpa using he
      . rw[zh]at jd;show gy _ _ _ _ (Eb s n x (gl++[(p,q)]) true (i+1));unfold Eb;rw[ax];exact .norm jd
    . have h3:=hc _ (aJ _ (aq.2 rfl));dsimp only at h3;have J4:p=n:=kJ (by simpa using h3);refine⟨fm (hb) (fm (wR) (fm (kH) (e9 (zi)))),fun s2 jd=>⟨(gl,true,i+1),hm,⟨by show i+1<=_;omega,by show gl.length<=2*(i+1);omega,?_⟩,.norm jd⟩⟩;simp only[lJ,aG J4,Bool.true_or]at he;simpa using he
    . exact absurd (aK (hc _ (aq.2 rfl))) de
   |false=>
    obtain⟨L5,vY⟩:=XH s n x gl.length (ff gl) i p q;have e1:(List.take (gl.length*2) (List.drop 0 (ff gl))++[D.str n,D.str x])=ff (gl++[(n,x)]):=zh n x;have e2:List.take ((gl.length+1)*2) (List.drop 0 (ff (gl++[(n,x)])))++[D.str p,D.str q]=ff (gl++[(n,x)]++[(p,q)]):=by
     have:=zh (gl:=gl++[(n,x)]) p q;rwa [ax]at this
    have e3:=zh (gl:=gl) p q;have G2:(ff (gl++[(n,x)])).length=(gl.length+1)*2:=by rw[nl,ax];simp
    rw[e1,e2,e3]at vY;refine gT DN mo nZ U vY fun g hg hc=>?_;rcases aaL hg with rfl|rfl|rfl|rfl|rfl
    . have h2:=hc _ (aJ _ (aP ..));have h3:=hc _ (aJ _ (aJ _ (aq.2 rfl)));dsimp only at h2 h3;have fL:p≠n:=oK (by simpa using h3);refine⟨fm (hb) (fm (wR) (fm (kH) (fm be (fm dN (fm (su be) (fm (hb) (fm (wR) (fm (kH) (fm (hb) (fm (wR) (fm (kH) (fm be (fm dN (fm (su be) (e9 (zi)))))))))))))))),fun s2 jd=>⟨(gl++[(n,x)]++[(p,q)],true,i+1),hm,⟨by show i+1<=_;omega,by show(gl++[(n,x)]++[(p,q)]).length<=2*(i+1);rw[ax,ax];simp;omega,?_⟩,?_⟩⟩
      . simp only[lJ,aI fL,h2]at he;simpa using he
      . show gy _ _ _ _ (Eb s n x (gl++[(n,x)]++[(p,q)]) true (i+1));unfold Eb;rw[ax,ax];exact .norm jd
    . have h2:=hc _ (aJ _ (aP ..));have h3:=hc _ (aJ _ (aJ _ (aq.2 rfl)));dsimp only at h2 h3;have J4:p=n:=kJ (by simpa using h3);refine⟨fm (hb) (fm (wR) (fm (kH) (fm be (fm dN (fm (su be) (fm (hb) (fm (wR) (fm (kH) (e9 (zi)))))))))),fun s2 jd=>⟨(gl++[(n,x)],true,i+1),hm,⟨by show i+1<=_;omega,by show(gl++[(n,x)]).length<=2*(i+1);rw[ax];simp;omega,?_⟩,?_⟩⟩
      . simp only[lJ,aG J4,h2]at he;simpa using he
      . show gy _ _ _ _ (Eb s n x (gl++[(n,x)]) true (i+1));unfold Eb;rw[ax];exact .norm jd
    . have h2:=hc _ (aJ _ (aP ..));have h3:=hc _ (aJ _ (aJ _ (aq.2 rfl)));dsimp only at h2 h3;have fL:p≠n:=oK (by simpa using h3);refine⟨fm (hb) (fm (wR) (fm (kH) (fm (hb) (fm (wR) (fm (kH) (fm (hb) (fm (wR) (fm (kH) (fm be (fm dN (fm (su be) (e9 (zi))))))))))))),fun s2 jd=>⟨(gl++[(p,q)],false,i+1),hm,⟨by show i+1<=_;omega,by show(gl++[(p,q)]).length<=2*(i+1);rw[ax];simp;omega,?_⟩,?_⟩⟩
      . simp only[lJ,aI fL,h2]at he;simpa using he
      . show gy _ _ _ _ (Eb s n x (gl++[(p,q)]) false (i+1));unfold Eb;rw[ax];exact .norm jd
    . have h2:=hc _ (aJ _ (aP ..));have h3:=hc _ (aJ _ (aJ _ (aq.2 rfl)));dsimp only at h2 h3;have J4:p=n:=kJ (by simpa using h3);refine⟨fm (hb) (fm (wR) (fm (kH) (fm (hb) (fm (wR) (fm (kH) (e9 (zi))))))),fun s2 jd=>⟨(gl,false,i+1),hm,⟨by show i+1<=_;omega,by show gl.length<=2*(i+1);omega,?_⟩,.norm jd⟩⟩;simp only[lJ,aG J4,h2]at he;simpa using he
    . exact absurd (aK (hc _ (aq.2 rfl))) de
 . obtain rfl:i=s.ro.length:=by omega
   rw[List.drop_length]at he;have rq:∀s2,gy ak 3 Tryz.f90.ntmps s2 (Eb s n x gl dn s.ro.length)->TG ak 3 Tryz.f90.ntmps (dh 6 zg) s2 (fB ak 3 Tryz.f90 (ny (RR.v ⟨⟨s.cs,lJ n x dn0 s.ro⟩,[],0,true⟩))):=fun s2 jd=>by
    refine jd _ _ ?_;rw[<- he];have Bk:∀ro:List (aa×aa),ny (RR.v ⟨⟨s.cs,ro⟩,[],0,true⟩) (.agg [.dL false s.cs.length (fq s.cs),.di (some (3,0)) ro.length ro.length 2,.str [],.int .i64 0,.bool true]) (hL [(3,.deep (ff ro))]) 4:=fun ro=>
     ⟨[[3]],[(ff ro).length=ro.length*2],{ fr:=Tr.nil.set 0 (some (RR.v ⟨⟨s.cs,ro⟩,[],0,true⟩)),h:=(hL [(3,.deep (ff ro))]).set 3 none,n:=4,gu:=[] },U,e9 (nl _),U⟩
    cases dn with
    |true=>
     refine fu DN (afy s n x gl.length (ff gl) s.ro.length) (dI ?_);refine⟨cQ,_,_,_,rfl,?_⟩;have:=Bk gl;simpa[lJ]using this
    |false=>
     obtain⟨L6,KW⟩:=afz s n x gl.length (ff gl) s.ro.length;rw[zh]at KW;refine ia DN mo _ U KW (dI ?_);refine⟨fm be (fm dN (e9 (su be))),_,_,_,rfl,?_⟩;have:=Bk (gl++[(n,x)]);rw[ax]at this;exact this
   cases dn with
   |true=>
    refine fV DN (XG s n x gl.length (ff gl) s.ro.length [] []) fun g hg hc=>?_;rcases xH hg with rfl|rfl|rfl
    . exact absurd (aH (hc _ (aP ..))) de
    . exact absurd (aH (hc _ (aP ..))) de
    . refine⟨cQ,fun s2 jd=>?_⟩;simp only[andThen,dV];exact rq s2 (.norm jd)
   |false=>
    refine fV DN (XH s n x gl.length (ff gl) s.ro.length [] []) fun g hg hc=>?_;rcases aaL hg with rfl|rfl|rfl|rfl|rfl
    . exact absurd (aH (hc _ (aP ..))) de
    . exact absurd (aH (hc _ (aP ..))) de
    . exact absurd (aH (hc _ (aP ..))) de
    . exact absurd (aH (hc _ (aP ..))) de
    . refine⟨cQ,fun s2 jd=>?_⟩;simp only[andThen,dV];exact rq s2 (.norm jd)
end
section
variable(s:RS)(n x:aa)
theorem anb(h1:s.cs.length<=1000000)(h2:s.ro.length<64)(hn:n≠[])(LB:n.length<=64):TG ak 3 Tryz.f90.ntmps zg (cR [s.v,.str n,.str x] .nil 3) (fB ak 3 Tryz.f90 (ny (oL s n x).v)):=by
 have zP:∀a∈[True,True,True,True,s.cs.length<=1000000,s.ro.length<=1000000],a:=fm trivial (fm trivial (fm trivial (fm trivial (fm h1 (e9 be)))));have hN:V.bool (eE n ([]:aa))=V.bool false:=y9 hn;have hL:V.bool (decide ((Int.ofNat n.length)>(64:Int)))=V.bool false:=GI LB;have hR:V.bool (decide ((Int.ofNat s.ro.length)>=(64:Int)))=V.bool false:=aN V.bool (bC de);obtain⟨L1,DT⟩:=am7 s n x;simp only[rz,jK]at DT;refine nh 2 DN mo U DT zP ?_;show TG _ _ _ (dh 2 zg) (sSr s n x [(7,.str (gG n s.ro))]) _;have Mz:∀s',eU 3 [1,2,3,6] s'=some (sSr s n x [])->¬(x≠[]/\gj s.cs x<0)->x≠gG n s.ro->TG ak 3 Tryz.f90.ntmps (dh 3 zg) s' (fB ak 3 Tryz.f90 (ny (oL s n x).v)):=fun s' dX hf hw=>by
  refine c6 dX ?_;unfold oL;rw[aI hf,aI hw];refine iJ  2 DN (am8 s n x (eE x [])) (e9 rfl) ?_;refine(gy.deep [5] (S:=Vs s n x 0 (.deep (ff [])) (eE x []) []) U) _ _ ?_;exact ana s n x h1 be (eE x [])
 generalize aaM:gG n s.ro=rE at Mz ⊢;refine cV U ?_;by_cases hx:x=[]
 . subst hx;have hf:¬(([]:aa)≠[]/\gj s.cs []<0):=fun h=>h.1 rfl;obtain⟨L2,Ip⟩:=afx s n rE;refine gT DN mo (ny (oL s n []).v) U Ip fun g hg hc=>?_;rcases jk hg with rfl|rfl
   . have h3:=kJ (hc _ (aq.2 rfl));refine⟨fm hN (e9 hL),?_,fun s1 fP=>fP⟩;unfold oL;rw[aI hf,aG (by rw[aaM];exact h3)];exact ny.self
   . have h3:=oK (hc _ (aq.2 rfl));exact⟨fm hN (e9 hL),fun s1 fP=>Mz s1 fP hf h3⟩
 . have hX:(V.bool !eE x ([]:aa))=V.bool true:=GH hx;obtain⟨L2,Ip⟩:=afw s n x rE;simp only[jK,rz]at Ip;refine gT DN mo (ny (oL s n x).v) U Ip fun g hg hc=>?_;have hA:∀a∈[V.bool (eE n ([]:aa))=V.bool false,V.bool (decide ((Int.ofNat n.length)>(64:Int)))=V.bool false,(V.bool !eE x ([]:aa))=V.bool true],a:=fm hN (fm hL (e9 hX));rcases aaL hg with rfl|rfl|rfl|rfl|rfl
   . have h3:=aH (hc _ (aq.2 rfl));refine⟨jx (a:=[_,_,_]) hA zP,?_,fun s1 fP=>fP⟩;unfold oL;rw[aG ⟨hx,h3⟩];exact ny.self
   all_goals
    have h3:=aK (hc _ (aP ..));have hf:¬(x≠[]/\gj s.cs x<0):=fun h=>h3 h.2
   . have h4:=kJ (hc _ (aJ _ (aJ _ (aq.2 rfl))));refine⟨jx (a:=[_,_,_]) hA (jx (a:=[_,_,_,_,_,_]) zP (fm hX (e9 hR))),?_,fun s1 fP=>fP⟩;unfold oL;rw[aI hf,aG (by rw[aaM];exact h4)];exact ny.self
   . have h4:=oK (hc _ (aJ _ (aJ _ (aq.2 rfl))));exact⟨jx (a:=[_,_,_]) hA (jx (a:=[_,_,_,_,_,_]) zP (fm hX (e9 hR))),fun s1 fP=>Mz s1 fP hf h4⟩
   . have h4:=kJ (hc _ (aJ _ (aJ _ (aq.2 rfl))));refine⟨jx (a:=[_,_,_]) hA (jx (a:=[_,_,_,_,_,_]) zP (e9 hX)),?_,fun s1 fP=>fP⟩;unfold oL;rw[aI hf,aG (by rw[aaM];exact h4)];exact ny.self
   . have h4:=oK (hc _ (aJ _ (aJ _ (aq.2 rfl))));exact⟨jx (a:=[_,_,_]) hA (jx (a:=[_,_,_,_,_,_]) zP (e9 hX)),fun s1 fP=>Mz s1 fP hf h4⟩
end
def Lf:ai->Option (ah×V)
 | [.agg [.dL n cs,.dL m rs],.str d,.dL k us]=>some (IQ n cs m rs++[n<=100000,us=strs (dF us),k=(dF us).length,d.length<=65536,k<=1024,∀x∈dF us,x.length=32],(kV ⟨gp cs,o5 rs⟩ d (dF us)).v)
 |_=>none
def Lg:ai->Option (ah×V)
 | [.agg [.dL n cs,.dL m rs],.str a,.str x]=>some (IQ n cs m rs++[m<64,a≠[],a.length<=64],(oL ⟨gp cs,o5 rs⟩ a x).v)
 |_=>none
theorem IS(r:RR):r.v.deep=true:=rfl
theorem RX:jC ak 37 (Go.Eng.dW Lf):=by
 refine vc (au U) fun args A v e hA=>?_;unfold Lf at e;split at e
 case h_2=>cases e
 rename_i n cs m rs d k us;simp only[an,aB]at e;obtain⟨rfl,rfl⟩:=e;have hB:=fun a ha=>hA a (bZ _ ha);have hC:=fun a ha=>hA a (cI _ ha);obtain⟨s,h1,h2,h3,h4,h5,h6,h7,h8⟩:=tG hC;have b1:n<=100000:=hB (n<=100000) (by simp);have b2:us=strs (dF us):=hB _ (by simp);have b3:k=(dF us).length:=hB (k=(dF us).length) (by simp);have b4:d.length<=65536:=hB (d.length<=65536) (by simp);have b5:k<=1024:=hB (k<=1024) (by simp);have b6:∀x∈dF us,x.length=32:=hB (∀x∈dF us,x.length=32) (by simp);rw[h7,h8];clear h7 h8 hA hB hC;generalize dF us=ps at *;subst h1 h2 h3 h4 b2 b3;exact gO mo po Tryz.func37 U U rfl (IS _) (am5 s d ps b1 h6 b4 b5 b6)
theorem RY:jC ak 90 (Go.Eng.dW Lg):=by
 refine vc (au U) fun args A v e hA=>?_;unfold Lg at e;split at e
 case h_2=>cases e
 rename_i n cs m rs a x;simp only[an,aB]at e;obtain⟨rfl,rfl⟩:=e;have hB:=fun a ha=>hA a (bZ _ ha);have hC:=fun a ha=>hA a (cI _ ha);obtain⟨s,h1,h2,h3,h4,h5,h6,h7,h8⟩:=tG hC;have b1:m<64:=hB (m<64) (by simp);have b2:a≠[]:=hB (a≠[]) (by simp);have b3:a.length<=64:=hB (a.length<=64) (by simp);rw[h7,h8];clear h7 h8 hA hB hC;subst h1 h2 h3 h4;exact gO mo po Tryz.func90 U U rfl (IS _) (anb s a x h5 b1 b2 b3)
noncomputable abbrev W25:jJ:=kj 90 (Go.Eng.dW Lg) (kj 37 (Go.Eng.dW Lf) W24)
theorem RZ:fU ak W25:=fe RY (fe RX RW)
noncomputable abbrev xQ:eX:=gC ak W25 H0 1000 40
noncomputable abbrev IT:CX ak:=CX.of mo po RZ H0 1000 40
noncomputable abbrev Om:Code:=dU Tryz.f68
noncomputable abbrev Vu:Code:=dr (dr (dY (dO (dh 2 Om))))
section
variable(s:RS)(bs:List Bool)(i:Nat)(r:List (Nat×V))(z:Int)(j:Nat)
noncomputable abbrev aaN:Code:=dr (dO (dY Vu))
noncomputable abbrev Vv:Code:=dO aaN
noncomputable abbrev R1:Code:=dh 2 aaN
def lz:ai:=bs.map .bool
def qX:St:=eG ([(1,.ptr (some (3,0))),(3,.di (some (4,0)) bs.length bs.length 1)]++r) (hL [(3,bx s),(4,.deep (lz bs))]) 5
def R2(k:Nat)(ds:ai)(r:List (Nat×V)):St:=eG ([(1,.ptr (some (3,0))),(3,.di (some (4,0)) k k 1)]++r) (hL [(3,bx s),(4,.deep ds)]) 5
theorem anf:c5 xQ [] 3 Tryz.f68 [1,3] (eR 2 Om) (cR [s.v] .nil 3) [([],
   [((0:Int)<=IntKind.i64.wrap (Int.ofNat s.cs.length)/\IntKind.i64.wrap (Int.ofNat s.cs.length)<=IntKind.i64.wrap (Int.ofNat s.cs.length)/\(1:Int)*IntKind.i64.wrap (Int.ofNat s.cs.length)<=(281474976710656:Int))],
   .to .normal (R2 s (IntKind.i64.wrap (Int.ofNat s.cs.length)).toNat (A4 [D.bool false] (IntKind.i64.wrap (Int.ofNat s.cs.length)).toNat) []))]
 :=cP.of U U U
theorem ang:c5 xQ [(15,.c9 (.int .i64 z))] 3 Tryz.f68 [1,3,4] (dO (dO (dh 2 Om))) (qX s bs []) [([],
   [(V.int aj (IntKind.i64.wrap ((Int.ofNat s.cs.length)-(1:Int)))=V.int aj z)],
   .to .normal (qX s bs [(4,.int .i64 z)]))]
 :=cP.of U U U
theorem anh:c5 xQ [(17,.c9 (.bool true))] 3 Tryz.f68 [1,3,4] (dO Vu) (qX s bs [(4,iW i)]) [([],
   [(V.bool (decide (Int.ofNat i>=(0:Int)))=V.bool true)],
   .to .normal (qX s bs [(4,iW i)]))]
 :=cP.of U U U
theorem afA:c5 xQ [] 3 Tryz.f68 [1,3,4] (dO Vu) (qX s bs [(4,.int .i64 (-1))]) [([],
   [],
   .to (.exit 0) (qX s bs [(4,.int .i64 (-1))]))]
 :=cP.of U U U
theorem ani:c5 xQ [] 3 Tryz.f68 [1,3,4,5] (dO Vv) (qX s bs [(4,iW i)]) [([],
   [],
   .to .normal (qX s bs [(4,iW i),(5,iW 0)]))]
 :=cP.of U U U
theorem XI:c5 xQ [(24,.split),(32,.c9 (.bool true)),(26,.c9 (iW (j+1)))] 3 Tryz.f68 [1,3,4,5] (dr (dr (dY Vv))) (qX s bs [(4,iW i),(5,iW j)]) [([((decide (Int.ofNat j<(Int.ofNat s.ro.length))),true)],
   [((0:Int)<=Int.ofNat i/\Int.ofNat i<(Int.ofNat bs.length)),(0+i*1<(lz bs).length),(((lz bs).getD (0+i*1) D.um).iH=V.bool true),((0:Int)<=Int.ofNat i/\Int.ofNat i<(Int.ofNat bs.length)),(0+i*1+1<=(lz bs).length),(V.int aj (IntKind.i64.wrap (Int.ofNat j+(1:Int)))=iW (j+1))],
   .to .normal (R2 s bs.length (wA (lz bs) (0+i*1) [D.bool true]) [(4,iW i),(5,iW (j+1))])),
  ([((decide (Int.ofNat j<(Int.ofNat s.ro.length))),false)],
   [],
   .to (.exit 2) (qX s bs [(4,iW i),(5,iW j)]))]
 :=cP.of U U U
theorem XJ(p q:aa)(c:gK):c5 xQ [(24,.split),(32,.c9 (.bool false)),(37,.c9 (.dm [.str p,.str q])),(43,.c9 (.dm c.d)),(26,.c9 (iW (j+1)))] 3 Tryz.f68 [1,3,4,5] (dr (dr (dY Vv))) (qX s bs [(4,iW i),(5,iW j)]) [([((decide (Int.ofNat j<(Int.ofNat s.ro.length))),true)],
   [((0:Int)<=Int.ofNat i/\Int.ofNat i<(Int.ofNat bs.length)),(0+i*1<(lz bs).length),(((lz bs).getD (0+i*1) D.um).iH=V.bool false),((0:Int)<=Int.ofNat j/\Int.ofNat j<(Int.ofNat s.ro.length)),((ff s.ro).length=s.ro.length*2),(V.dm (dw (ff s.ro) (j*2) 2)=V.dm [D.str p,D.str q]),((0:Int)<=Int.ofNat i/\Int.ofNat i<(Int.ofNat s.cs.length)),((fq s.cs).length=s.cs.length*3),(V.dm (dw (fq s.cs) (i*3) 3)=V.dm c.d),((0:Int)<=Int.ofNat i/\Int.ofNat i<(Int.ofNat bs.length)),(0+i*1+1<=(lz bs).length),(V.int aj (IntKind.i64.wrap (Int.ofNat j+(1:Int)))=iW (j+1))],
   .to .normal (R2 s bs.length (wA (lz bs) (0+i*1) [D.bool (eE q c.dg)]) [(4,iW i),(5,iW (j+1))])),
  ([((decide (Int.ofNat j<(Int.ofNat s.ro.length))),false)],
   [],
   .to (.exit 2) (qX s bs [(4,iW i),(5,iW j)]))]
 :=cP.of U U U
theorem anj:c5 xQ [] 3 Tryz.f68 [1,3,4,6] (eR 1 (dh 1 aaN)) (qX s bs [(4,iW i),(5,iW j)]) [([],
   [],
   .to .normal (qX s bs [(4,iW i),(6,iW 0)]))]
 :=cP.of U U U
theorem ank(c:gK)(b:Bool):c5 xQ [(53,.c9 (.dm c.d)),(57,.split),(62,.c9 (.bool b)),(63,.split)] 3 Tryz.f68 [1,3,4,6] (dO (dr (dr R1))) (qX s bs [(4,iW i),(6,iW j)]) [([((decide (Int.ofNat j<(Int.ofNat c.rs.length))),true),(b,true)],
   [((0:Int)<=Int.ofNat i/\Int.ofNat i<(Int.ofNat s.cs.length)),((fq s.cs).length=s.cs.length*3),(V.dm (dw (fq s.cs) (i*3) 3)=V.dm c.d),((0:Int)<=Int.ofNat i/\Int.ofNat i<(Int.ofNat bs.length)),(0+i*1<(lz bs).length),(((lz bs).getD (0+i*1) D.um).iH=V.bool b)],
   .to .normal (qX s bs [(4,iW i),(6,iW j)])),
  ([((decide (Int.ofNat j<(Int.ofNat c.rs.length))),true),(b,false)],
   [((0:Int)<=Int.ofNat i/\Int.ofNat i<(Int.ofNat s.cs.length)),((fq s.cs).length=s.cs.length*3),(V.dm (dw (fq s.cs) (i*3) 3)=V.dm c.d),((0:Int)<=Int.ofNat i/\Int.ofNat i<(Int.ofNat bs.length)),(0+i*1<(lz bs).length),(((lz bs).getD (0+i*1) D.um).iH=V.bool b)],
   .to (.exit 4) (qX s bs [(4,iW i),(6,iW j)])),
  ([((decide (Int.ofNat j<(Int.ofNat c.rs.length))),false),(false,true)],
   [((0:Int)<=Int.ofNat i/\Int.ofNat i<(Int.ofNat s.cs.length)),((fq s.cs).length=s.cs.length*3),(V.dm (dw (fq s.cs) (i*3) 3)=V.dm c.d)],
   .to .normal (qX s bs [(4,iW i),(6,iW j)])),
  ([((decide (Int.ofNat j<(Int.ofNat c.rs.length))),false),(false,false)],
   [((0:Int)<=Int.ofNat i/\Int.ofNat i<(Int.ofNat s.cs.length)),((fq s.cs).length=s.cs.length*3),(V.dm (dw (fq s.cs) (i*3) 3)=V.dm c.d)],
   .to (.exit 4) (eG [(1,.ptr (some (3,0))),(3,.di (some (4,0)) (bs.length) (bs.length) 1),(4,.int .i64 (Int.ofNat i)),(6,.int .i64 (Int.ofNat j))] (hL [(3,.cells [.dL false (s.cs.length) (fq s.cs),.dL false (s.ro.length) (ff s.ro)]),(4,.deep (lz bs))]) 5))]
 :=cP.of U U U
noncomputable abbrev aaO:Code:=dO (dY (dr (dr R1)))
theorem anl(c:gK)(r:aa):c5 xQ [(70,.c9 (.dm c.d)),(74,.c9 (.dm [.str r]))] 3 Tryz.f68 [1,3,4,6,7] (dO (dr aaO)) (qX s bs [(4,iW i),(6,iW j)]) [([],
   [((0:Int)<=Int.ofNat i/\Int.ofNat i<(Int.ofNat s.cs.length)),((fq s.cs).length=s.cs.length*3),(V.dm (dw (fq s.cs) (i*3) 3)=V.dm c.d),((0:Int)<=Int.ofNat j/\Int.ofNat j<(Int.ofNat c.rs.length)),((strs c.rs).length=c.rs.length*1),(V.dm (dw (strs c.rs) (j*1) 1)=V.dm [D.str r]),(fq s.cs=fq (gp (fq s.cs))),(s.cs.length=(gp (fq s.cs)).length),(ff s.ro=ff (o5 (ff s.ro))),(s.ro.length=(o5 (ff s.ro)).length),(s.cs.length<=1000000),(s.ro.length<=1000000)],
   .to .normal (eG [(1,.ptr (some (3,0))),(3,.di (some (4,0)) (bs.length) (bs.length) 1),(4,.int .i64 (Int.ofNat i)),(6,.int .i64 (Int.ofNat j)),(7,.int .i64 (gj (gp (fq s.cs)) r))] (hL [(3,.cells [.dL false (s.cs.length) (fq s.cs),.dL false (s.ro.length) (ff s.ro)]),(4,.deep (lz bs))]) 5))]
 :=cP.of U U U
theorem afB(m:Nat):c5 xQ [(78,.c9 (.bool true))] 3 Tryz.f68 [1,3,4,6] (dY (dr aaO)) (qX s bs [(4,iW i),(6,iW j),(7,iW m)]) [([],
   [(V.bool (decide (Int.ofNat m>=(0:Int)))=V.bool true),((0:Int)<=Int.ofNat m/\Int.ofNat m<(Int.ofNat bs.length)),(0+m*1+1<=(lz bs).length)],
   .to .normal (R2 s bs.length (wA (lz bs) (0+m*1) [D.bool true]) [(4,iW i),(6,iW j)]))]
 :=cP.of U U U
theorem afC:c5 xQ [] 3 Tryz.f68 [1,3,4,6] (dY (dr aaO)) (qX s bs [(4,iW i),(6,iW j),(7,.int .i64 (-1))]) [([],
   [],
   .to .normal (qX s bs [(4,iW i),(6,iW j)]))]
 :=cP.of U U U
theorem afD:c5 xQ [(65,.c9 (iW (j+1)))] 3 Tryz.f68 [1,3,4,6] (dY (dY (dr (dr R1)))) (qX s bs [(4,iW i),(6,iW j)]) [([],
   [(V.int aj (IntKind.i64.wrap (Int.ofNat j+(1:Int)))=iW (j+1))],
   .to .normal (qX s bs [(4,iW i),(6,iW (j+1))]))]
 :=cP.of U U U
theorem anm:c5 xQ [(19,.c9 (.int .i64 z))] 3 Tryz.f68 [1,3,4] (dY (dY Vu)) (qX s bs [(4,iW i)]) [([],
   [(V.int aj (IntKind.i64.wrap (Int.ofNat i-(1:Int)))=V.int aj z)],
   .to .normal (qX s bs [(4,.int .i64 z)]))]
 :=cP.of U U U
theorem afE:c5 xQ [] 3 Tryz.f68 [] (dY (dh 2 Om)) (qX s bs [(4,.int .i64 (-1))]) [([],
   [],
   .ret (.di (some (3,0)) (bs.length) (bs.length) 1) (hL [(3,.deep (lz bs))]) 4)]
 :=cP.of U U U
end
def Ec(ro:List (aa×aa))(c:gK):Bool:=ro.any fun p=>eE p.2 c.dg
section
variable(s:RS)(bs:List Bool)(i:Nat)
def jy(r:aa):List Bool:=if gj s.cs r<0 then bs else bs.set (gj s.cs r).toNat true
def kO(c:gK):List Bool:=bs.set i (bs.getD i false||Ec s.ro c)
def zj(c:gK):List Bool:=if(kO s bs i c).getD i false=true then c.rs.foldl (jy s) (kO s bs i c)else kO s bs i c
end
def R3(s:RS):Nat->List Bool->List Bool
 |0,bs=>bs
 |i+1,bs=>R3 s i (zj s bs i (s.cs.getD i ⟨[],[],[]⟩))
def fc(s:RS):List Bool:=R3 s s.cs.length (List.replicate s.cs.length false)
theorem AV(x:aa):∀(l:List gK) (i:Nat),sq x l i= -1\/∃m,m<i+l.length/\sq x l i=Int.ofNat m
 | [],_=>.inl rfl
 |c::l,i=>by
  unfold sq;split
  . exact .inr ⟨i,by simp,rfl⟩
  . rcases AV x l (i+1)with h|⟨m,hm,h⟩
    . exact .inl h
    . exact .inr ⟨m,by rw[aS];omega,h⟩
theorem IU(l:List gK)(x:aa):gj l x= -1\/∃m,m<l.length/\gj l x=Int.ofNat m:=by
 have:=AV x l 0;rw[bH]at this;exact this
theorem Fc(s:RS)(bs:List Bool)(r:aa):(jy s bs r).length=bs.length:=by
 unfold jy;split
 . rfl
 . rw[List.length_set]
theorem IV(s:RS):∀(l:List (aa)) (bs:List Bool),(l.foldl (jy s) bs).length=bs.length
 | [],_=>rfl
 |r::l,bs=>by rw[List.foldl_cons,IV s l,Fc]
section
variable(s:RS)(bs:List Bool)(i:Nat)
theorem xS(c:gK):(kO s bs i c).length=bs.length:=by unfold kO;rw[List.length_set]
theorem Fe(c:gK):(zj s bs i c).length=bs.length:=by
 unfold zj;split
 . rw[IV,xS]
 . rw[xS]
end
theorem MA(s:RS):∀(k:Nat) (bs:List Bool),(R3 s k bs).length=bs.length
 |0,_=>rfl
 |k+1,bs=>by rw[R3,MA s k,Fe]
theorem qY(bs:List Bool):(lz bs).length=bs.length:=by unfold lz;rw[aY]
section
variable{bs:List Bool}{i:Nat}
theorem MB(h:i<bs.length):0+i*1<(lz bs).length/\((lz bs).getD (0+i*1) D.um).iH=V.bool (bs.getD i false):=by
 refine⟨by rw[qY];omega,?_⟩;unfold lz;rw[bH,bj,aM,br,ay h,aM,ay h];rfl
theorem GP(h:i<bs.length)(b:Bool):wA (lz bs) (0+i*1) [D.bool b]=lz (bs.set i b):=by
 unfold wA lz;rw[bH,bj,List.set_eq_take_append_cons_drop,aG h,aX,bV,cK,List.map_drop];rfl
end
theorem BB(s:RS)(bs:List Bool)(k:Nat)(hk:k=bs.length)(r:List (Nat×V)):R2 s k (lz bs) r=qX s bs r:=by subst hk;rfl
section
variable(s:RS)
theorem afF(h1:s.cs.length<=100000)(h2:s.ro.length<=1000000)(i:Nat)(hi:i<s.cs.length)(bs:List Bool)(hl:bs.length=s.cs.length){st:St}{Q:Exit->St->Prop}
  (hs:gy ak 3 Tryz.f68.ntmps st (qX s bs [(4,iW i),(6,iW 0)])) (wR:(s.cs[i]).rs.length<=100000)
  (h:∀s' j,gy ak 3 Tryz.f68.ntmps s' (qX s (if bs.getD i false=true then(s.cs[i]).rs.foldl (jy s) bs else bs) [(4,iW i),(6,iW j)])->Q .normal s'):TG ak 3 Tryz.f68.ntmps R1 st Q:=by
 have zP:∀a∈[True,True,True,True,s.cs.length<=1000000,s.ro.length<=1000000],a:=fm trivial (fm trivial (fm trivial (fm trivial (fm be (e9 h2)))));have kH:=aN V.dm (xO s.cs i hi);have KQ:((0:Int)<=Int.ofNat i/\Int.ofNat i<(Int.ofNat s.cs.length)):=⟨az _,de⟩;have rD:=kT s.cs;generalize s.cs[i]=c at kH wR h;refine js (α:=List Bool×Nat) 4 (fun a=>c.rs.length-a.2) (fun a=>a.2<=c.rs.length/\a.1.length=s.cs.length/\(bs.getD i false=true->a.1.getD i false=true)/\(bs.getD i false=false->a.1=bs)/\(if bs.getD i false=true then(c.rs.drop a.2).foldl (jy s) a.1 else bs)=(if bs.getD i false=true then c.rs.foldl (jy s) bs else bs)) (fun a=>qX s a.1 [(4,iW i),(6,iW a.2)]) U U (bs,0) ⟨aW _,hl,id,fun _=>rfl,by rw[bu]⟩ hs fun a ⟨a1,a2,a3,a4,a5⟩=>?_;obtain⟨ds,j⟩:=a;simp only at a1 a2 a3 a4 a5;have hg:=MB (bs:=ds) (i:=i) be;have hbd:((0:Int)<=Int.ofNat i/\Int.ofNat i<(Int.ofNat ds.length)):=⟨az _,de⟩;refine cV U ?_;refine fV IT (ank s ds i j c (ds.getD i false)) fun g ud hc=>?_;rcases aei ud with rfl|rfl|rfl|rfl
 . have c1:=aH (hc _ (aP ..));have c2:ds.getD i false=true:=hc _ (aJ _ (aq.2 rfl));rw[lA,lA]at c1;have hj:j<c.rs.length:=by omega
   refine⟨fm (KQ) (fm (rD) (fm (kH) (fm (hbd) (fm (hg.1) (e9 (hg.2)))))),fun s1 fP=>c6 fP ?_⟩;have hb:bs.getD i false=true:=by
    cases hq:bs.getD i false with
    |true=>rfl
    |false=>rw[a4 hq,hq]at c2;cases c2
   refine cV U ?_;refine fh (i:=5) U ?_;refine cV U ?_;have Lh:=aN V.dm (fD (ay hj));obtain⟨L8,hr8⟩:=anl s ds i j c c.rs[j];simp only[jK,rz]at hr8;refine gT IT mo nZ U hr8 fun g ud _=>?_;rw[aq]at ud;subst ud;refine⟨jx (a:=[_,_,_,_,_,_]) (fm (KQ) (fm (rD) (fm (kH) (fm (⟨az _,de⟩) (fm (by rw[eI];omega) (e9 (Lh))))))) zP,fun s2 jd=>c6 jd ?_⟩;rw[aG hb,aG hb,bE hj,List.foldl_cons]at a5;have zi:V.int aj (IntKind.i64.wrap (Int.ofNat j+(1:Int)))=iW (j+1):=pP de be;have pg:∀s3,gy ak 3 Tryz.f68.ntmps s3 (qX s (jy s ds c.rs[j]) [(4,iW i),(6,iW j)])->TG ak 3 Tryz.f68.ntmps (dY (dY (dr (dr R1)))) s3 (andThen (fun s'=>∃x':List Bool×Nat,c.rs.length-x'.2<c.rs.length-j/\(x'.2<=c.rs.length/\x'.1.length=s.cs.length/\(bs.getD i false=true->x'.1.getD i false=true)/\(bs.getD i false=false->x'.1=bs)/\(if bs.getD i false=true then(c.rs.drop x'.2).foldl (jy s) x'.1 else bs)=(if bs.getD i false=true then c.rs.foldl (jy s) bs else bs))/\gy ak 3 Tryz.f68.ntmps s' (qX s x'.1 [(4,iW i),(6,iW x'.2)])) (mK 4 Q)):=fun s3 xW=>by
    refine xW _ _ ?_;refine fV IT (afD s (jy s ds c.rs[j]) i j) fun g ud _=>?_;rw[aq]at ud;subst ud;refine⟨e9 zi,fun s4 IN=>⟨(jy s ds c.rs[j],j+1),by show c.rs.length-(j+1)<_;omega,⟨by show j+1<=_;omega,by show(jy s ds c.rs[j]).length=_;rw[Fc,a2],fun _=>?_,fun hq=>?_,?_⟩,.norm IN⟩⟩
    . show(jy s ds c.rs[j]).getD i false=true;unfold jy;split
      . exact c2
      . rw[aM,List.getElem?_set];rw[aM]at c2;split
        . rw[aG be];rfl
        . exact c2
    . rw[hb]at hq;cases hq
    . rw[aG hb,aG hb];exact a5
   rcases IU s.cs c.rs[j]with hf|⟨m,hm,hf⟩
   . have hmk:jy s ds c.rs[j]=ds:=by unfold jy;rw[hf];rfl
     rw[hf];refine fV IT (afC s ds i j) fun g ud _=>?_;rw[aq]at ud;subst ud;rw[hmk]at pg;exact⟨cQ,fun s3 xW=>pg s3 (.norm xW)⟩
   . have hmk:jy s ds c.rs[j]=ds.set m true:=by
      unfold jy;rw[hf,aI de];rfl
     rw[hf];refine fV IT (afB s ds i j m) fun g ud _=>?_;rw[aq]at ud;subst ud;refine⟨fm (aN V.bool (bL de)) (fm (⟨az _,de⟩) (e9 (by rw[qY];omega))),fun s3 xW=>?_⟩;rw[GP be,BB s _ _ (by rw[List.length_set])]at xW;rw[hmk]at pg;exact pg s3 (.norm xW)
 . have c1:=aH (hc _ (aP ..));have c2:ds.getD i false=false:=hc _ (aJ _ (aq.2 rfl));refine⟨fm (KQ) (fm (rD) (fm (kH) (fm (hbd) (fm (hg.1) (e9 (hg.2)))))),fun s1 fP=>?_⟩;have hb:bs.getD i false=false:=by
    cases hq:bs.getD i false with
    |false=>rfl
    |true=>rw[a3 hq]at c2;cases c2
   simp only[andThen,dV];refine h s1 j ?_;rw[a4 hb]at fP;rw[aI (by rw[hb];decide)];exact .norm fP
 . have:=hc _ (aJ _ (aq.2 rfl));cases this
 . have c1:=aK (hc _ (aP ..));rw[lA,lA]at c1;obtain rfl:j=c.rs.length:=by omega
   refine⟨fm (KQ) (fm (rD) (e9 (kH))),fun s1 fP=>?_⟩;simp only[andThen,dV];refine h s1 c.rs.length ?_;rw[<- a5,List.drop_length,List.foldl_nil];cases hq:bs.getD i false with
   |true=>exact .norm fP
   |false=>
    rw[a4 hq]at fP;exact .norm fP
end
section
variable(s:RS)
section
variable(bs:List Bool)
def Df(i:Nat)(c:gK)(j:Nat):List Bool:=bs.set i (bs.getD i false||Ec (s.ro.take j) c)
theorem R4{bs:List Bool}{i:Nat}(h:i<bs.length)(b:Bool):(bs.set i b).getD i false=b:=by
 rw[aM,List.getElem?_set,aG rfl,aG h];rfl
theorem Vw(i:Nat)(c:gK)(j:Nat):(Df s bs i c j).length=bs.length:=by unfold Df;rw[List.length_set]
theorem On(c:gK){j:Nat}(h:j<s.ro.length):Ec (s.ro.take (j+1)) c=(Ec (s.ro.take j) c||eE (s.ro[j]).2 c.dg):=by
 unfold Ec;rw[bI,ay h,cB,List.any_append];simp
theorem R5{i:Nat}(h:i<s.cs.length):R3 s (i+1) bs=R3 s i (zj s bs i s.cs[i]):=by
 show R3 s i (zj s bs i (s.cs.getD i ⟨[],[],[]⟩))=_;rw[aM,ay h];rfl
theorem afG(h1:s.cs.length<=100000)(h2:s.ro.length<=1000000)(i:Nat)(hi:i<s.cs.length)(bs:List Bool)(hl:bs.length=s.cs.length){Q:Exit->St->Prop}{st:St}(hs:gy ak 3 Tryz.f68.ntmps st (qX s bs [(4,iW i),(5,iW 0)]))
  (h:∀s' j,gy ak 3 Tryz.f68.ntmps s' (qX s (kO s bs i s.cs[i]) [(4,iW i),(5,iW j)])->Q .normal s'):TG ak 3 Tryz.f68.ntmps (dY Vv) st Q:=by
 have kH:=aN V.dm (xO s.cs i hi);have KQ:((0:Int)<=Int.ofNat i/\Int.ofNat i<(Int.ofNat s.cs.length)):=⟨az _,de⟩;have rD:=kT s.cs;have wR:=nl s.ro;generalize s.cs[i]=c at kH h;have h0:Df s bs i c 0=bs:=by
  unfold Df;rw[List.take_zero,show Ec [] c=false from rfl,Bool.or_false,aM,ay be];exact List.set_getElem_self be
 refine jv 2 s.ro.length (fun j=>qX s (Df s bs i c j) [(4,iW i),(5,iW j)]) U U (by rw[h0];exact hs) (fun j hj=>?_) ?_
 . have N8:=Vw s bs i c j;have hg:=MB (bs:=Df s bs i c j) (i:=i) be;have hgv:(Df s bs i c j).getD i false=(bs.getD i false||Ec (s.ro.take j) c):=R4 be _;have hbd:((0:Int)<=Int.ofNat i/\Int.ofNat i<(Int.ofNat (Df s bs i c j).length)):=⟨az _,de⟩;have zi:V.int aj (IntKind.i64.wrap (Int.ofNat j+(1:Int)))=iW (j+1):=pP de be;have hn:=On s c hj;show TG _ _ _ _ _ (andThen (fun s'=>gy ak 3 Tryz.f68.ntmps s' (qX s (Df s bs i c (j+1)) [(4,iW i),(5,iW (j+1))])) _);cases hq:(Df s bs i c j).getD i false with
   |true=>
    rw[hq]at hg;refine fV IT (XI s (Df s bs i c j) i j) fun g ud hc=>?_;rcases jk ud with rfl|rfl
    . refine⟨fm (hbd) (fm (hg.1) (fm (hg.2) (fm (hbd) (fm (by rw[qY];omega) (e9 (zi)))))),fun s1 fP=>?_⟩;rw[GP be,BB s _ _ (by rw[List.length_set])]at fP;have e:(Df s bs i c j).set i true=Df s bs i c (j+1):=by
       rw[hgv]at hq;unfold Df;rw[List.set_set,hn,<- Bool.or_assoc,hq,Bool.true_or]
      rw[e]at fP;exact .norm fP
    . exact absurd (aK (hc _ (aq.2 rfl))) de
   |false=>
    rw[hq]at hg;have Lh:=aN V.dm (Da s.ro j hj);refine fV IT (XJ s (Df s bs i c j) i j (s.ro[j]).1 (s.ro[j]).2 c) fun g ud hc=>?_;rcases jk ud with rfl|rfl
    . refine⟨fm (hbd) (fm (hg.1) (fm (hg.2) (fm (⟨az _,de⟩) (fm (wR) (fm (Lh) (fm (KQ) (fm (rD) (fm (kH) (fm (hbd) (fm (by rw[qY];omega) (e9 (zi)))))))))))),fun s1 fP=>?_⟩;rw[GP be,BB s _ _ (by rw[List.length_set])]at fP;have e:(Df s bs i c j).set i (eE (s.ro[j]).2 c.dg)=Df s bs i c (j+1):=by
       rw[hgv]at hq;unfold Df;rw[List.set_set,hn,<- Bool.or_assoc,hq,Bool.false_or]
      rw[e]at fP;exact .norm fP
    . exact absurd (aK (hc _ (aq.2 rfl))) de
 . have rq:∀s1,gy ak 3 Tryz.f68.ntmps s1 (qX s (Df s bs i c s.ro.length) [(4,iW i),(5,iW s.ro.length)])->Q .normal s1:=fun s1 fP=>by
    refine h s1 s.ro.length ?_;unfold Df at fP;rw[aT]at fP;exact fP
   cases hq:(Df s bs i c s.ro.length).getD i false with
   |true=>
    refine fV IT (XI s (Df s bs i c s.ro.length) i s.ro.length) fun g ud hc=>?_;rcases jk ud with rfl|rfl
    . exact absurd (aH (hc _ (aq.2 rfl))) de
    . refine⟨cQ,fun s1 fP=>⟨by simp,?_⟩⟩;rw[dV];exact rq s1 (.norm fP)
   |false=>
    refine fV IT (XJ s (Df s bs i c s.ro.length) i s.ro.length [] [] c) fun g ud hc=>?_;rcases jk ud with rfl|rfl
    . exact absurd (aH (hc _ (aq.2 rfl))) de
    . refine⟨cQ,fun s1 fP=>⟨by simp,?_⟩⟩;rw[dV];exact rq s1 (.norm fP)
def spD:Nat->St
 |0=>qX s bs [(4,.int .i64 (-1))]
 |i+1=>qX s bs [(4,iW i)]
theorem MC{k:Nat}{z:Int}(hz:z=(k:Int)-1):qX s bs [(4,.int .i64 z)]=spD s bs k:=by
 subst hz;cases k with
 |zero=>rfl
 |succ i=>
  have e:((i+1:Nat):Int)-1=Int.ofNat i:=by rw[lA];omega
  rw[e];rfl
end
theorem ano(h1:s.cs.length<=100000)(h2:s.ro.length<=1000000)(h3:∀c∈s.cs,c.rs.length<=100000):TG ak 3 Tryz.f68.ntmps Om (cR [s.v] .nil 3) (fB ak 3 Tryz.f68 (ny (.dL false s.cs.length (lz (fc s))))):=by
 have hw:IntKind.i64.wrap (Int.ofNat s.cs.length)=Int.ofNat s.cs.length:=fC de de;refine iJ  2 IT (anf s) (e9 ⟨by rw[hw,lA];omega,Int.le_refl _,by rw[hw,lA];omega⟩) ?_;have hrp:∀m:Nat,A4 [D.bool false] m=lz (List.replicate m false):=fun m=>by
  induction m with
  |zero=>rfl
  |succ m ih=>show[D.bool false]++A4 [D.bool false] m=_;rw[ih];rfl
 rw[hw,show(Int.ofNat s.cs.length).toNat=s.cs.length from rfl,hrp,BB s _ _ (by rw[bJ])];show TG _ _ _ (dh 2 Om) _ _;refine cV U ?_;refine cV U ?_;refine fV IT (ang s (List.replicate s.cs.length false) ((s.cs.length:Int)-1)) (dI ?_);refine⟨e9 (aN _ (fC de de)),fun s' dX=>?_⟩;rw[MC s _ (k:=s.cs.length) rfl]at dX;refine js (α:=List Bool×Nat) 0 (fun a=>a.2) (fun a=>a.2<=s.cs.length/\a.1.length=s.cs.length/\R3 s a.2 a.1=fc s) (fun a=>spD s a.1 a.2) U U (List.replicate s.cs.length false,s.cs.length) ⟨aA _,bJ,rfl⟩ (.norm dX) fun a ⟨a1,a2,a3⟩=>?_;obtain⟨bs,k⟩:=a;simp only at a1 a2 a3;refine cV U ?_;cases k with
 |zero=>
  show TG _ _ _ _ (qX s bs [(4,.int .i64 (-1))]) _;refine fV IT (afA s bs) (dI ?_);refine⟨cQ,fun s1 fP=>?_⟩;simp only[andThen,dV];refine c6 fP ?_;refine fu IT (afE s bs) (dI ?_);refine⟨cQ,_,_,_,rfl,?_⟩;rw[<- a3,<- a2];show ny (.dL false bs.length (lz bs)) _ _ _;exact⟨[[3]],[(lz bs).length=bs.length*1],{ fr:=Tr.nil.set 0 (some (.dL false bs.length (lz bs))),h:=(hL [(3,.deep (lz bs))]).set 3 none,n:=4,gu:=[] },U,e9 (by rw[qY,bj]),U⟩
 |succ i=>
  have hi:i<s.cs.length:=by omega
  show TG _ _ _ _ (qX s bs [(4,iW i)]) _;refine fV IT (anh s bs i) (dI ?_);refine⟨e9 (aN V.bool (bL de)),fun s1 fP=>c6 fP ?_⟩;refine cV U ?_;refine fh (i:=1) U ?_;refine cV U ?_;refine cV U ?_;refine fV IT (ani s bs i) (dI ?_);refine⟨cQ,fun s2 jd=>?_⟩;refine afG s h1 h2 i hi bs a2 (.norm jd) fun s3 j xW=>?_;simp only[andThen];refine xW _ _ ?_;refine iJ  1 IT (anj s (kO s bs i s.cs[i]) i j) cQ ?_;refine afF s h1 h2 i hi (kO s bs i s.cs[i]) (by rw[xS,a2]) .refl (h3 _ (bY hi)) fun s4 j4 IN=>?_;rw[show(if(kO s bs i s.cs[i]).getD i false=true then(s.cs[i]).rs.foldl (jy s) (kO s bs i s.cs[i])else kO s bs i s.cs[i])=zj s bs i s.cs[i]from rfl]at IN;show TG _ _ _ _ _ _;have hsl:=Fe s bs i s.cs[i];have tU:=R5 s bs hi;generalize zj s bs i s.cs[i]=ds at IN hsl tU;refine(IN.trans (.norm (live:=[1,3,4]) (S:=qX s ds [(4,iW i)]) U)) _ _ ?_;refine fV IT (anm s ds i ((i:Int)-1)) (dI ?_);refine⟨e9 (aN _ (fC de de)),fun s5 hs5=>⟨(ds,i),Nat.lt_succ_self i,⟨by show i<=_;omega,by show ds.length=_;rw[hsl,a2],by show R3 s i ds=_;rw[<- tU,a3]⟩,?_⟩⟩;rw[MC s _ (k:=i) rfl]at hs5;exact .norm hs5
end
def Li:ai->Option (ah×V)
 | [.agg [.dL n cs,.dL m rs]]=>some (IQ n cs m rs++[n<=100000,∀c∈gp cs,c.rs.length<=100000],.dL false n (lz (fc ⟨gp cs,o5 rs⟩)))
 |_=>none
theorem R6(bs:List Bool)(n:Nat):(V.dL false n (lz bs)).deep=true:=rfl
theorem R7:jC ak 68 (Go.Eng.dW Li):=by
 refine vc (au U) fun args A v e hA=>?_;unfold Li at e;split at e
 case h_2=>cases e
 rename_i n cs m rs;simp only[an,aB]at e;obtain⟨rfl,rfl⟩:=e;have hB:=fun a ha=>hA a (bZ _ ha);have hC:=fun a ha=>hA a (cI _ ha);obtain⟨s,h1,h2,h3,h4,h5,h6,h7,h8⟩:=tG hC;have b1:n<=100000:=hB (n<=100000) (by simp);have b2:∀c∈gp cs,c.rs.length<=100000:=hB (∀c∈gp cs,c.rs.length<=100000) (by simp);rw[h7]at b2;rw[h7,h8];clear h7 h8 hA hB hC;subst h1 h2 h3 h4;exact gO mo po Tryz.func68 U U rfl (R6 _ _) (ano s b1 h6 b2)
noncomputable abbrev W26:jJ:=kj 68 (Go.Eng.dW Li) W25
theorem R8:fU ak W26:=fe R7 RZ
noncomputable abbrev Ed:eX:=gC ak W26 H0 1000 40
noncomputable abbrev Oo:CX ak:=CX.of mo po R8 H0 1000 40
noncomputable abbrev Oq:Code:=dU Tryz.f32
noncomputable abbrev anq:Code:=dr (dr (dY (dO (dh 3 Oq))))
noncomputable abbrev GQ:Code:=dU Tryz.f33
section
variable(s:RS)(bs:List Bool)(n:Nat)
def o58:O:=.cells [.di none 0 0 0,.di none 0 0 0]
def sKm(m:Nat)(cs:ai)(r:List (Nat×V)):St:=eG ([(1,.ptr (some (3,0))),(2,.ptr (some (4,0))),(3,.dL false n (lz bs)),(4,.di (some (5,0)) m m 3)]++r) (hL [(3,bx s),(4,o58),(5,.deep cs)]) 6
def Ot(u:Int)(r:List (Nat×V)):St:=eG ([(1,.ptr (some (3,0))),(3,.int .i64 u)]++r) (hL [(3,bx s)]) 4
end
theorem anr(s:RS):c5 Ed [] 3 Tryz.f32 [1,2,3,4] (eR 3 Oq) (cR [s.v] .nil 3) [([],
   [(fq s.cs=fq (gp (fq s.cs))),(s.cs.length=(gp (fq s.cs)).length),(ff s.ro=ff (o5 (ff s.ro))),(s.ro.length=(o5 (ff s.ro)).length),(s.cs.length<=1000000),(s.ro.length<=1000000),(s.cs.length<=100000),(∀(c:gK),c∈gp (fq s.cs)->c.rs.length<=100000)],
   .to .normal (eG [(1,.ptr (some (3,0))),(2,.ptr (some (4,0))),(3,.dL false (s.cs.length) (lz (fc { cs:=gp (fq s.cs),ro:=o5 (ff s.ro) }))),(4,.di (some (5,0)) 0 0 3)] (hL [(3,.cells [.dL false (s.cs.length) (fq s.cs),.dL false (s.ro.length) (ff s.ro)]),(4,.cells [.di none 0 0 0,.di none 0 0 0]),(5,.cells [])]) 6))]
 :=cP.of U U U
section
variable(s:RS)(u:Int)(bs:List Bool)(n i m:Nat)(cs:ai)
theorem ans:c5 Ed [] 3 Tryz.f32 [1,2,3,4,5] (dO (dO (dh 3 Oq))) (sKm s bs n m cs []) [([],
   [],
   .to .normal (sKm s bs n m cs [(5,iW 0)]))]
 :=cP.of U U U
abbrev R9:Prop:=V.int aj (IntKind.i64.wrap (Int.ofNat i+(1:Int)))=iW (i+1)
theorem afH(i:Nat)(c:gK)(b:Bool):c5 Ed [(13,.split),(18,.c9 (.dm [.bool b])),(19,.split),(24,.c9 (.dm c.d)),(15,.c9 (iW (i+1)))] 3 Tryz.f32 [1,2,3,4,5] (anq) (sKm s bs n m cs [(5,iW i)]) [([((decide (Int.ofNat i<(Int.ofNat s.cs.length))),true),(b,true)],
   [((0:Int)<=Int.ofNat i/\Int.ofNat i<(Int.ofNat n)),((lz bs).length=n*1),(V.dm (dw (lz bs) (i*1) 1)=V.dm [D.bool b]),((0:Int)<=Int.ofNat i/\Int.ofNat i<(Int.ofNat s.cs.length)),((fq s.cs).length=s.cs.length*3),(V.dm (dw (fq s.cs) (i*3) 3)=V.dm c.d),(0+m*3<=cs.length),(0<1),(eP (m+1) 3 56=true),R9 i],
   .to .normal (eG [(1,.ptr (some (3,0))),(2,.ptr (some (4,0))),(3,.dL false n (lz bs)),(4,.di (some (5,0)) (m+1) (m+1) 3),(5,.int .i64 (Int.ofNat (i+1)))] (hL [(3,.cells [.dL false (s.cs.length) (fq s.cs),.dL false (s.ro.length) (ff s.ro)]),(4,.cells [.di none 0 0 0,.di none 0 0 0]),(5,.deep (List.take (m*3) (List.drop 0 cs)++[D.str c.dg,D.str c.da,D.dL c.rs.length (strs c.rs)]))]) 6)),
  ([((decide (Int.ofNat i<(Int.ofNat s.cs.length))),true),(b,false)],
   [((0:Int)<=Int.ofNat i/\Int.ofNat i<(Int.ofNat n)),((lz bs).length=n*1),(V.dm (dw (lz bs) (i*1) 1)=V.dm [D.bool b]),R9 i],
   .to .normal (eG [(1,.ptr (some (3,0))),(2,.ptr (some (4,0))),(3,.dL false n (lz bs)),(4,.di (some (5,0)) m m 3),(5,.int .i64 (Int.ofNat (i+1)))] (hL [(3,.cells [.dL false (s.cs.length) (fq s.cs),.dL false (s.ro.length) (ff s.ro)]),(4,.cells [.di none 0 0 0,.di none 0 0 0]),(5,.deep cs)]) 6)),
  ([((decide (Int.ofNat i<(Int.ofNat s.cs.length))),false)],
   [],
   .to (.exit 0) (eG [(1,.ptr (some (3,0))),(2,.ptr (some (4,0))),(3,.dL false n (lz bs)),(4,.di (some (5,0)) m m 3),(5,.int .i64 (Int.ofNat i))] (hL [(3,.cells [.dL false (s.cs.length) (fq s.cs),.dL false (s.ro.length) (ff s.ro)]),(4,.cells [.di none 0 0 0,.di none 0 0 0]),(5,.deep cs)]) 6))]
 :=cP.of U U U
theorem ant(i:Nat):c5 Ed [] 3 Tryz.f32 [] (dY (dh 3 Oq)) (sKm s bs n m cs [(5,iW i)]) [([],
   [],
   .ret (.agg [.di (some (3,0)) m m 3,.dL false (s.ro.length) (ff s.ro)]) (hL [(3,.deep cs)]) 4)]
 :=cP.of U U U
theorem anu:c5 Ed [] 3 Tryz.f33 [1,3] (eR 2 GQ) (cR [s.v] .nil 3) [([],
   [],
   .to .normal (Ot s 0 []))]
 :=cP.of U U U
theorem anv:c5 Ed [] 3 Tryz.f33 [1,3,4] (dO (dO (dh 2 GQ))) (Ot s u []) [([],
   [],
   .to .normal (Ot s u [(4,iW 0)]))]
 :=cP.of U U U
theorem afI(c:gK):c5 Ed [(10,.split),(18,.c9 (.dm c.d)),(26,.c9 (.dm c.d)),(12,.c9 (iW (i+1)))] 3 Tryz.f33 [1,3,4] (dr (dr (dY (dO (dh 2 GQ))))) (Ot s u [(4,iW i)]) [([((decide (Int.ofNat i<(Int.ofNat s.cs.length))),true)],
   [((0:Int)<=Int.ofNat i/\Int.ofNat i<(Int.ofNat s.cs.length)),((fq s.cs).length=s.cs.length*3),(V.dm (dw (fq s.cs) (i*3) 3)=V.dm c.d),((0:Int)<=Int.ofNat i/\Int.ofNat i<(Int.ofNat s.cs.length)),((fq s.cs).length=s.cs.length*3),(V.dm (dw (fq s.cs) (i*3) 3)=V.dm c.d),(V.int aj (IntKind.i64.wrap (Int.ofNat i+(1:Int)))=iW (i+1))],
   .to .normal (eG [(1,.ptr (some (3,0))),(3,.int .i64 (IntKind.i64.wrap (IntKind.i64.wrap (IntKind.i64.wrap (u+(64:Int))+(Int.ofNat c.da.length))+IntKind.i64.wrap ((32:Int)*(Int.ofNat c.rs.length))))),(4,.int .i64 (Int.ofNat (i+1)))] (hL [(3,.cells [.dL false (s.cs.length) (fq s.cs),.dL false (s.ro.length) (ff s.ro)])]) 4)),
  ([((decide (Int.ofNat i<(Int.ofNat s.cs.length))),false)],
   [],
   .to (.exit 0) (eG [(1,.ptr (some (3,0))),(3,.int .i64 u),(4,.int .i64 (Int.ofNat i))] (hL [(3,.cells [.dL false (s.cs.length) (fq s.cs),.dL false (s.ro.length) (ff s.ro)])]) 4))]
 :=cP.of U U U
theorem anw:c5 Ed [] 3 Tryz.f33 [1,3,5] (dO (dO (dh 3 GQ))) (Ot s u [(4,iW i)]) [([],
   [],
   .to .normal (Ot s u [(5,iW 0)]))]
 :=cP.of U U U
theorem afJ(p q:aa):c5 Ed [(36,.split),(44,.c9 (.dm [.str p,.str q])),(38,.c9 (iW (i+1)))] 3 Tryz.f33 [1,3,5] (dr (dr (dY (dO (dh 3 GQ))))) (Ot s u [(5,iW i)]) [([((decide (Int.ofNat i<(Int.ofNat s.ro.length))),true)],
   [((0:Int)<=Int.ofNat i/\Int.ofNat i<(Int.ofNat s.ro.length)),((ff s.ro).length=s.ro.length*2),(V.dm (dw (ff s.ro) (i*2) 2)=V.dm [D.str p,D.str q]),(V.int aj (IntKind.i64.wrap (Int.ofNat i+(1:Int)))=iW (i+1))],
   .to .normal (eG [(1,.ptr (some (3,0))),(3,.int .i64 (IntKind.i64.wrap (IntKind.i64.wrap (u+(96:Int))+(Int.ofNat p.length)))),(5,.int .i64 (Int.ofNat (i+1)))] (hL [(3,.cells [.dL false (s.cs.length) (fq s.cs),.dL false (s.ro.length) (ff s.ro)])]) 4)),
  ([((decide (Int.ofNat i<(Int.ofNat s.ro.length))),false)],
   [],
   .to (.exit 2) (eG [(1,.ptr (some (3,0))),(3,.int .i64 u),(5,.int .i64 (Int.ofNat i))] (hL [(3,.cells [.dL false (s.cs.length) (fq s.cs),.dL false (s.ro.length) (ff s.ro)])]) 4))]
 :=cP.of U U U
theorem anx:c5 Ed [] 3 Tryz.f33 [] (dh 4 GQ) (Ot s u [(5,iW i)]) [([],
   [],
   .ret (.int .i64 u) (hL []) 3)]
 :=cP.of U U U
end
def kU:List gK->List Bool->List gK
 |c::l,b::bs=>if b=true then c::kU l bs else kU l bs
 |_,_=>[]
def iF(s:RS):RS:=⟨kU s.cs (fc s),s.ro⟩
def zk(c:gK):Int:=64+c.da.length+32*c.rs.length
def Ai(p:aa×aa):Int:=96+p.1.length
def Lj(s:RS):Int:=(s.cs.map zk).sum+(s.ro.map Ai).sum
theorem zl(s:RS):(fc s).length=s.cs.length:=by unfold fc;rw[MA,bJ]
theorem Dg{bs:List Bool}{i:Nat}(h:i<bs.length):dw (lz bs) (i*1) 1=[D.bool bs[i]]:=by
 unfold dw lz;rw[bj,<- List.map_drop,bE h];rfl
theorem Vx{gl:List gK}(c:gK):List.take (gl.length*3) (List.drop 0 (fq gl))++[D.str c.dg,D.str c.da,D.dL c.rs.length (strs c.rs)]=fq (gl++[c]):=by
 rw[bu,bq (by rw[kT];omega),Mx];rfl
section
variable(s:RS)
theorem anz(h1:s.cs.length<=100000)(h2:s.ro.length<=1000000)(h3:∀c∈s.cs,c.rs.length<=100000):TG ak 3 Tryz.f32.ntmps Oq (cR [s.v] .nil 3) (fB ak 3 Tryz.f32 (ny (iF s).v)):=by
 have zP:∀a∈[True,True,True,True,s.cs.length<=1000000,s.ro.length<=1000000,s.cs.length<=100000,∀(c:gK),c∈s.cs->c.rs.length<=100000],a:=fm trivial (fm trivial (fm trivial (fm trivial (fm be (fm h2 (fm h1 (e9 h3)))))));obtain⟨L1,DT⟩:=anr s;simp only[jK,rz]at DT;refine nh 3 Oo mo U DT zP ?_;have hkr:(iF s).v=RS.v ⟨kU s.cs (fc s),s.ro⟩:=rfl;rw[hkr];have N8:=zl s;show TG _ _ _ _ (eG [(1,.ptr (some (3,0))),(2,.ptr (some (4,0))),(3,.dL false s.cs.length (lz (fc s))),(4,.di (some (5,0)) 0 0 3)] (hL [(3,bx s),(4,o58),(5,.cells [])]) 6) _;generalize fc s=bs at N8 ⊢;refine(gy.deep [5] (S:=sKm s bs s.cs.length 0 (fq []) []) U) _ _ ?_;show TG _ _ _ (dh 3 Oq) _ _;refine cV U ?_;refine cV U ?_;refine fV Oo (ans s bs s.cs.length 0 (fq [])) (dI ?_);refine⟨cQ,fun s' dX=>?_⟩;refine js (α:=List gK×Nat) 0 (fun a=>s.cs.length-a.2) (fun a=>a.2<=s.cs.length/\a.1.length<=a.2/\a.1++kU (s.cs.drop a.2) (bs.drop a.2)=kU s.cs bs) (fun a=>sKm s bs s.cs.length a.1.length (fq a.1) [(5,iW a.2)]) U U ([],0) ⟨aW _,aA _,by rw[bu,bu];rfl⟩ (.norm dX) fun a ⟨a1,a2,a3⟩=>?_;obtain⟨gl,i⟩:=a;simp only at a1 a2 a3;have rD:=kT s.cs;have hal:=kT gl;rcases bN i s.cs.length with hi|zO
 . have kH:=aN V.dm (xO s.cs i hi);have Lh:=aN V.dm (Dg (bs:=bs) (i:=i) be);rw[bE hi,bE (show i<bs.length by omega)]at a3;generalize s.cs[i]=c at kH a3;generalize bs[i]'(by omega)=b at Lh a3;have hb:((0:Int)<=Int.ofNat i/\Int.ofNat i<(Int.ofNat s.cs.length)):=⟨az _,de⟩;have zi:V.int aj (IntKind.i64.wrap (Int.ofNat i+(1:Int)))=iW (i+1):=pP de be;obtain⟨L3,xI⟩:=afH s bs s.cs.length gl.length (fq gl) i c b;rw[Vx]at xI;refine gT Oo mo nZ U xI fun g hg hc=>?_;rcases xH hg with rfl|rfl|rfl
   . have c2:b=true:=hc _ (aJ _ (aq.2 rfl));rw[kU,aG c2]at a3;refine⟨fm (hb) (fm (by rw[qY];omega) (fm (Lh) (fm (hb) (fm (rD) (fm (kH) (fm be (fm dN (fm (Dd be) (e9 (zi)))))))))),fun s1 fP=>⟨(gl++[c],i+1),by show s.cs.length-(i+1)<_;omega,⟨by show i+1<=_;omega,by show(gl++[c]).length<=i+1;rw[ax];simp;omega,by rw[<- a3,bz];rfl⟩,?_⟩⟩;show gy _ _ _ _ (sKm s bs s.cs.length (gl++[c]).length (fq (gl++[c])) [(5,iW (i+1))]);rw[ax];exact .norm fP
   . have c2:b=false:=hc _ (aJ _ (aq.2 rfl));rw[kU,aI (by rw[c2];decide)]at a3;exact⟨fm (hb) (fm (by rw[qY];omega) (fm (Lh) (e9 (zi)))),fun s1 fP=>⟨(gl,i+1),by show s.cs.length-(i+1)<_;omega,⟨by show i+1<=_;omega,by show gl.length<=i+1;omega,a3⟩,.norm fP⟩⟩
   . exact absurd (aK (hc _ (aq.2 rfl))) de
 . obtain rfl:i=s.cs.length:=by omega
   rw[List.drop_length,show kU [] (bs.drop s.cs.length)=[]from rfl,ct]at a3;refine fV Oo (afH s bs s.cs.length gl.length (fq gl) s.cs.length ⟨[],[],[]⟩ true) fun g hg hc=>?_;rcases xH hg with rfl|rfl|rfl
   . exact absurd (aH (hc _ (aP ..))) de
   . exact absurd (aH (hc _ (aP ..))) de
   refine⟨cQ,fun s1 fP=>?_⟩;simp only[andThen,dV];refine c6 fP ?_;rw[<- a3];refine fu Oo (ant s bs s.cs.length gl.length (fq gl) s.cs.length) (dI ?_);exact⟨cQ,_,_,_,rfl,[[3]],[(fq gl).length=gl.length*3],{ fr:=Tr.nil.set 0 (some (RS.v ⟨gl,s.ro⟩)),h:=(hL [(3,.deep (fq gl))]).set 3 none,n:=4,gu:=[] },U,e9 (kT _),U⟩
theorem IW{α:Type}{f:α->Int}{l:List α}{i:Nat}(h:i<l.length):((l.take (i+1)).map f).sum=((l.take i).map f).sum+f l[i]:=by
 rw[bI,ay h,cB,aX,List.sum_append];simp
theorem Aj{α:Type}{f:α->Int}{B:Int}(hB:0<=B):∀{l:List α},(∀x∈l,0<=f x/\f x<=B)->0<=(l.map f).sum/\(l.map f).sum<=B*l.length
 | [],_=>by simp
 |x::l,h=>by
  have ih:=Aj hB (l:=l) fun y hy=>h y (aJ _ hy);have h1:=h x (aP ..);rw[bV,List.sum_cons,aS];have:B*((l.length+1:Nat):Int)=B*l.length+B:=by rw[Int.natCast_add,Int.mul_add];simp
  omega
theorem anA(h1:s.cs.length<=100000)(h2:s.ro.length<=100000)(h3:∀c∈s.cs,c.da.length<=100000/\c.rs.length<=2000)(h4:∀p∈s.ro,p.1.length<=100000):TG ak 3 Tryz.f33.ntmps GQ (cR [s.v] .nil 3) (fB ak 3 Tryz.f33 fun u _ _=>u= .int .i64 (Lj s)):=by
 have hC:∀i,0<=((s.cs.take i).map zk).sum/\((s.cs.take i).map zk).sum<=20000000000:=fun i=>by
  have hb:=Aj (f:=zk) (B:=200000) dN (l:=s.cs.take i) fun c hc=>by
   have:=h3 c (List.mem_of_mem_take hc);unfold zk;omega
  have:(s.cs.take i).length<=100000:=by rw[bg];omega
  omega
 have hE:∀i,0<=((s.ro.take i).map Ai).sum/\((s.ro.take i).map Ai).sum<=20000000000:=fun i=>by
  have hb:=Aj (f:=Ai) (B:=200000) dN (l:=s.ro.take i) fun c hc=>by
   have:=h4 c (List.mem_of_mem_take hc);unfold Ai;omega
  have:(s.ro.take i).length<=100000:=by rw[bg];omega
  omega
 refine iJ  2 Oo (anu s) cQ ?_;show TG _ _ _ (dh 2 GQ) _ _;refine cV U ?_;refine cV U ?_;refine fV Oo (anv s 0) (dI ?_);refine⟨cQ,fun s' dX=>?_⟩;refine jv 0 s.cs.length (fun i=>Ot s ((s.cs.take i).map zk).sum [(4,iW i)]) U U (.norm dX) (fun i hi=>?_) ?_
 . have kH:=aN V.dm (xO s.cs i hi);have hn:=IW (f:=zk) hi;have yn:=hC i;have Hq:=hC (i+1);have hm:=h3 _ (bY hi);show TG _ _ _ _ _ (andThen (fun s'=>gy ak 3 Tryz.f33.ntmps s' (Ot s ((s.cs.take (i+1)).map zk).sum [(4,iW (i+1))])) _);rw[hn]at Hq ⊢;generalize s.cs[i]=c at kH hm Hq ⊢;generalize ((s.cs.take i).map zk).sum=u at yn Hq ⊢;have hb:((0:Int)<=Int.ofNat i/\Int.ofNat i<(Int.ofNat s.cs.length)):=⟨az _,de⟩;obtain⟨L3,xI⟩:=afI s u i c;have e:IntKind.i64.wrap (IntKind.i64.wrap (IntKind.i64.wrap (u+(64:Int))+(Int.ofNat c.da.length))+IntKind.i64.wrap ((32:Int)*(Int.ofNat c.rs.length)))=u+zk c:=by
    unfold zk at *;simp only[lA];rw[fC (x:=u+64) be be,fC (x:=u+64+_) be be,fC (x:=32*_) be be,fC be be];omega
   rw[e]at xI;refine gT Oo mo nZ U xI fun g hg hc=>?_;rcases jk hg with rfl|rfl
   . exact⟨fm (hb) (fm (kT _) (fm (kH) (fm (hb) (fm (kT _) (fm (kH) (e9 (pP de be))))))),fun s1 fP=>.norm fP⟩
   . exact absurd (aK (hc _ (aq.2 rfl))) de
 refine fV Oo (afI s ((s.cs.take s.cs.length).map zk).sum s.cs.length ⟨[],[],[]⟩) fun g hg hc=>?_;rcases jk hg with rfl|rfl
 . exact absurd (aH (hc _ (aq.2 rfl))) de
 refine⟨cQ,fun s1 fP=>⟨by simp,?_⟩⟩;rw[dV];have G0:=hC s.cs.length;rw[aT]at fP G0;refine(gy.norm (S:=Ot s (s.cs.map zk).sum [(4,iW s.cs.length)]) fP) _ _ ?_;unfold Lj;generalize (s.cs.map zk).sum=u0 at G0 ⊢;show TG _ _ _ (dh 3 GQ) _ _;refine cV U ?_;refine cV U ?_;refine fV Oo (anw s u0 s.cs.length) (dI ?_);refine⟨cQ,fun s2 jd=>?_⟩;refine jv 2 s.ro.length (fun i=>Ot s (u0+((s.ro.take i).map Ai).sum) [(5,iW i)]) U U (.norm (by rw[jd];simp)) (fun i hi=>?_) ?_
 . have kH:=aN V.dm (Da s.ro i hi);have hn:=IW (f:=Ai) hi;have yn:=hE i;have Hq:=hE (i+1);have hm:=h4 _ (bY hi);show TG _ _ _ _ _ (andThen (fun s'=>gy ak 3 Tryz.f33.ntmps s' (Ot s (u0+((s.ro.take (i+1)).map Ai).sum) [(5,iW (i+1))])) _);rw[hn]at Hq ⊢;generalize s.ro[i]=p at kH hm Hq ⊢;generalize ((s.ro.take i).map Ai).sum=u at yn Hq ⊢;have hb:((0:Int)<=Int.ofNat i/\Int.ofNat i<(Int.ofNat s.ro.length)):=⟨az _,de⟩;obtain⟨L5,vY⟩:=afJ s (u0+u) i p.1 p.2;have e:IntKind.i64.wrap (IntKind.i64.wrap (u0+u+(96:Int))+(Int.ofNat p.1.length))=u0+(u+Ai p):=by
    unfold Ai at *;simp only[lA];rw[fC (x:=u0+u+96) be be,fC be be];omega
   rw[e]at vY;refine gT Oo mo nZ U vY fun g hg hc=>?_;rcases jk hg with rfl|rfl
   . exact⟨fm (hb) (fm (nl _) (fm (kH) (e9 (pP de be)))),fun s3 xW=>.norm xW⟩
   . exact absurd (aK (hc _ (aq.2 rfl))) de
 refine fV Oo (afJ s (u0+((s.ro.take s.ro.length).map Ai).sum) s.ro.length [] []) fun g hg hc=>?_;rcases jk hg with rfl|rfl
 . exact absurd (aH (hc _ (aq.2 rfl))) de
 refine⟨cQ,fun s3 xW=>⟨by simp,?_⟩⟩;rw[dV];refine c6 xW ?_;refine fu Oo (anx s (u0+((s.ro.take s.ro.length).map Ai).sum) s.ro.length) (dI ?_);exact⟨cQ,_,_,_,rfl,by rw[aT]⟩
end
def Ll:ai->Option (ah×V)
 | [.agg [.dL n cs,.dL m rs]]=>some (IQ n cs m rs++[n<=100000,∀c∈gp cs,c.rs.length<=100000],(iF ⟨gp cs,o5 rs⟩).v)
 |_=>none
def Lm:ai->Option (ah×V)
 | [.agg [.dL n cs,.dL m rs]]=>some (IQ n cs m rs++[n<=100000,m<=100000,∀c∈gp cs,c.da.length<=100000/\c.rs.length<=2000,∀p∈o5 rs,p.1.length<=100000],.int .i64 (Lj ⟨gp cs,o5 rs⟩))
 |_=>none
theorem Sa(s:RS):s.v.deep=true:=rfl
theorem Sb:jC ak 32 (Go.Eng.dW Ll):=by
 refine vc (au U) fun args A v e hA=>?_;unfold Ll at e;split at e
 case h_2=>cases e
 rename_i n cs m rs;simp only[an,aB]at e;obtain⟨rfl,rfl⟩:=e;have hB:=fun a ha=>hA a (bZ _ ha);have hC:=fun a ha=>hA a (cI _ ha);obtain⟨s,h1,h2,h3,h4,h5,h6,h7,h8⟩:=tG hC;have b1:n<=100000:=hB (n<=100000) (by simp);have b2:∀c∈gp cs,c.rs.length<=100000:=hB (∀c∈gp cs,c.rs.length<=100000) (by simp);rw[h7]at b2;rw[h7,h8];clear h7 h8 hA hB hC;subst h1 h2 h3 h4;exact gO mo po Tryz.func32 U U rfl (Sa _) (anz s b1 h6 b2)
theorem aaR:jC ak 33 (Go.Eng.dW Lm):=by
 refine vc (au U) fun args A v e hA=>?_;unfold Lm at e;split at e
 case h_2=>cases e
 rename_i n cs m rs;simp only[an,aB]at e;obtain⟨rfl,rfl⟩:=e;have hB:=fun a ha=>hA a (bZ _ ha);have hC:=fun a ha=>hA a (cI _ ha);obtain⟨s,h1,h2,h3,h4,h5,h6,h7,h8⟩:=tG hC;have b1:n<=100000:=hB (n<=100000) (by simp);have b2:m<=100000:=hB (m<=100000) (by simp);have b3:∀c∈gp cs,c.da.length<=100000/\c.rs.length<=2000:=hB (∀c∈gp cs,c.da.length<=100000/\c.rs.length<=2000) (by simp);have b4:∀p∈o5 rs,p.1.length<=100000:=hB (∀p∈o5 rs,p.1.length<=100000) (by simp);rw[h7]at b3;rw[h8]at b4;rw[h7,h8];clear h7 h8 hA hB hC;subst h1 h2 h3 h4;exact gO mo po Tryz.func33 U U rfl rfl (fb (anA s b1 b2 b3 b4) fun y s h=>jW h)
noncomputable abbrev W27:jJ:=kj 33 (Go.Eng.dW Lm) (kj 32 (Go.Eng.dW Ll) W26)
theorem Sc:fU ak W27:=fe aaR (fe Sb R8)
noncomputable abbrev afK:eX:=gC ak W27 H0 1000 40
noncomputable abbrev X27:CX ak:=CX.of mo po Sc H0 1000 40
theorem anC:c5 afK [] 3 Tryz.f26 [] (dU Tryz.f26) (cR [] (DK gS gR) 3) [([],
   [],
   .ret (.ptr (some (3,0))) (hL [(0,.ints .u32 gS),(1,.ints .u32 gR),(3,.cells [.ptr (some (4,0)),.di (some (7,0)) 1 1 2]),(4,.cells [.di none 0 0 0,.int .i64 0,.map (some 5),.map (some 6),.int .i64 0,.bool false,.bool false,.int .i64 0]),(5,.map [] 0),(6,.map [] 0),(7,.cells [.di none 0 0 0,.di none 0 0 0])]) 8)]
 :=cP.of U U U
theorem anD(z:Int)(m:Nat):c5 afK [(4,.c9 (.int .u8 (Int.ofNat m))),(6,.c9 (.int .u8 (Int.ofNat m))),(7,.c9 (.int .u8 (Int.ofNat (m+1))))] 3 Tryz.f91 [] (dU Tryz.f91) (cR [.int .u8 z] .nil 3) [([],
   [(V.int IntKind.u8 (z.tmod (5:Int))=V.int IntKind.u8 (Int.ofNat m)),(V.int IntKind.u8 (z.tmod (5:Int))=V.int IntKind.u8 (Int.ofNat m)),(V.int IntKind.u8 (IntKind.u8.wrap (Int.ofNat m+(1:Int)))=V.int IntKind.u8 (Int.ofNat (m+1))),((0:Int)<=Int.ofNat (m+1)/\Int.ofNat (m+1)<=(5:Int)),((0:Int)<=Int.ofNat m/\Int.ofNat m<=(Int.ofNat (m+1)))],
   .ret (.str (List.drop m (List.take (m+1) ([(97:UInt8),(98:UInt8),(99:UInt8),(100:UInt8),(101:UInt8)]:aa)))) (hL []) 3)]
 :=cP.of U U U
def RS.cells(s:RS):ai:=[.dL s.cs.length (fq s.cs),.dL s.ro.length (ff s.ro)]
def gk(l:List RS):ai:=(l.map RS.cells).flatten
section
variable(cN cO:Nat)(lg:aa)(fl nx:Int)(es rt:ae)(l:List RS)
end
def Sd:aa:=[109,105,115,115,105,110,103]
theorem Dh:29<Tryz.prog.funcs.size:=au U
theorem XK:69<Tryz.prog.funcs.size:=au U
section
variable(l:List RS)(s:RS)
theorem sw:(gk l).length=l.length*2:=sk (f:=RS.cells) (w:=2) (fun _=>rfl) l
theorem Di(i:Nat)(h:i<l.length):dw (gk l) (i*2) 2=l[i].cells:=vr (f:=RS.cells) (w:=2) (fun _=>rfl) l i h
theorem Dj:0+l.length*2+2<=(gk (l++[s])).length/\V.agg (D.lN (dw (gk (l++[s])) (0+l.length*2) 2))=s.v:=by
 refine⟨by rw[sw,ax];simp;omega,?_⟩;rw[bH,Di _ l.length (by rw[ax];simp),List.getElem_append_right (aA _)];simp only[Nat.sub_self,List.getElem_cons_zero];rfl
theorem Se(hl:l.length<=1000000):V.int aj (IntKind.i64.wrap ((Int.ofNat (l++[s]).length)-(1:Int)))=iW l.length/\((0:Int)<=Int.ofNat l.length/\Int.ofNat l.length<(Int.ofNat (l++[s]).length)):=by
 have e:(l++[s]).length=l.length+1:=by rw[ax];rfl
 rw[e];exact⟨aN _ (by rw[fC de de,lA,lA];omega),az _,de⟩
def Ou:aa:=dJ Sd (dF [])
theorem Sf:Ou.length=32:=Kr _ _
theorem Vy(h:Tr O)(n:Nat):cT ak 69 [.str Sd,eH] h n (.str Ou) h n:=by
 intro E w c7 ra g hd;refine RV.2 _ h n [([]:ai)=strs (dF []),0=(dF []).length,0<=100000,(eF (Sd::dF [])).length<=1000000000] _ _ _ rfl ?_ E w c7 ra g hd U;exact fm rfl (fm rfl (fm (aW _) (e9 (au U))))
def kE(z:Nat):aa:=if h:z%(s.cs.length+1)<s.cs.length then(s.cs[z%(s.cs.length+1)]).dg else Ou
end
section
variable(cN cO:Nat)(lg:aa)(fl nx:Int)(es rt:ae)(l:List RS)(s:RS)
theorem Vz{z:Nat}(hz:z<=255)(hs:s.cs.length<=1000000):V.int aj (IntKind.i64.wrap ((Int.ofNat s.cs.length)+(1:Int)))=iW (s.cs.length+1)/\Int.ofNat (s.cs.length+1)≠(0:Int)/\V.int aj ((IntKind.i64.wrap (z:Int)).tmod (Int.ofNat (s.cs.length+1)))=iW (z%(s.cs.length+1)):=by
 refine⟨pP de be,de,aN (V.int aj) ?_⟩;rw[fC be be,lA,cz be];rfl
end
theorem afL:66<Tryz.prog.funcs.size:=au U
theorem aaS(cN cO:Nat)(b:aa)(fl nx lf:Int)(es rt:ae):cT ak 66 [P3] (eu (pS cN cO b fl nx lf es rt)) 7 (.int .i64 0) (eu (pS cN cO b (Int.ofNat cN) nx lf es rt)) 7:=by
 refine cZ Tryz.func66 (code:=UL) U U ?_;refine fu uc (ali cN cO b fl nx lf es rt) (dI ?_);exact⟨cQ,_,_,_,rfl,rfl,rfl,rfl⟩
theorem VA(fl nx lf:Int)(es rt:ae):cT ak 66 [P3] (eu (pN fl nx lf es rt)) 7 (.int .i64 0) (eu (pN 0 nx lf es rt)) 7:=by
 refine cZ Tryz.func66 (code:=UL) U U ?_;refine fu uc (alj fl nx lf es rt) (dI ?_);exact⟨cQ,_,_,_,rfl,rfl,rfl,rfl⟩
section
variable(l:List RS)(s:RS)
end
def MD(k:Nat):aa:=List.drop (k%5) (List.take (k%5+1) [97,98,99,100,101])
theorem VB(k:Nat):(MD k).length=1:=by
 unfold MD;rw[bX,bg];have:=Nat.mod_lt k (show 0<5 by decide);show min (k%5+1) 5-k%5=1;omega
def Ln:ag->Option (ah×V)
 | [.int .u8 z]=>some ([0<=z/\z<=255],.str (MD z.toNat))
 |_=>none
theorem Sg:jC ak 91 (jG Ln):=by
 refine jV (au U) fun args A v e=>?_;unfold Ln at e;split at e
 . rename_i z;obtain⟨rfl,rfl⟩:=eY e;refine⟨rfl,rfl,fun hA=>gM mo po Tryz.func91 (code:=dU Tryz.f91) U U rfl ?_⟩;have hz:=hA (0<=z/\z<=255) (by simp);obtain⟨k,rfl⟩:=Int.eq_ofNat_of_zero_le hz.1;have hm:=Nat.mod_lt k (show 0<5 by decide);obtain⟨L,hr⟩:=anD k (k%5);have e1:V.int IntKind.u8 ((k:Int).tmod (5:Int))=V.int IntKind.u8 (Int.ofNat (k%5)):=aN _ (by rw[cz be];rfl);have e2:V.int IntKind.u8 (IntKind.u8.wrap (Int.ofNat (k%5)+(1:Int)))=V.int IntKind.u8 (Int.ofNat (k%5+1)):=aN _ (by
    show(Int.ofNat (k%5)+1)%256=_;rw[lA,lA];omega)
   refine ia X27 mo _ U hr (dI ?_);exact⟨fm e1 (fm e1 (fm e2 (fm ⟨az _,de⟩ (e9 ⟨az _,de⟩)))),_,_,_,rfl,rfl⟩
 . cases e
noncomputable abbrev W28:jJ:=kj 91 (jG Ln) W27
theorem Sh:fU ak W28:=fe Sg Sc
noncomputable abbrev iw:eX:=gC ak W28 H0 1000 40
noncomputable abbrev nu:CX ak:=CX.of mo po Sh H0 1000 40
noncomputable abbrev tH:Code:=dU Tryz.f64
def rC(a b c:Int)(d:aa):V:=.agg [.int .u8 a,.int .u8 b,.int .u8 c,.str d]
def lW(a b c:Int)(d:aa):O:=.cells [.int .u8 a,.int .u8 b,.int .u8 c,.str d]
section
variable(cN cO:Nat)(lg:aa)(fl nx:Int)(es rt:ae)(l:List RS)(a b c:Int)(d:aa)(ps:List (aa))
end
end Go.Proofs.YtfihojpgobmmdaaGreatDoor
