/- The Chunk laws: the reference model: SetRoot. No conditions. -/
import Derived.Test.YtfihojpgobmmdaaGreatDoorJointW18
set_option linter.unusedVariables false
set_option linter.unusedSimpArgs false
set_option linter.unusedSectionVars false
set_option maxRecDepth 20000
namespace Go.Proofs.YtfihojpgobmmdaaGreatDoor
open Go Go.Eng
theorem abl{α:Type}{g a b c d e:α}(h:g∈[a,b,c,d,e]):g=a\/g=b\/g=c\/g=d\/g=e:=(aE.1 h).imp id fun h=>ae1 h
def lP(n x:aa):Bool->List (aa×aa)->List (aa×aa)
 |dn,[]=>if dn=true then[]else[(n,x)]
 |dn,p::l=>(if dn=false/\yc n p.1=true then[(n,x)]else[])++((if p.1=n then[]else[p])++lP n x (dn||yc n p.1) l)
def oT(s:RS)(n x:aa):RR:=
 if x≠[]/\fU s.cs x<0 then⟨s,[],62,false⟩
 else if x=gM n s.ro then⟨s,[],0,false⟩
 else⟨⟨s.cs,lP n x (eG x []) s.ro⟩,[],0,true⟩
theorem V1(a b:List (aa×aa)):fh (a++b)=fh a++fh b:=by unfold fh;rw[aX,cn]
theorem zu{gr:List (aa×aa)}(p q:aa):List.take (gr.length*2) (List.drop 0 (fh gr))++[D.str p,D.str q]=fh (gr++[(p,q)]):=by
 rw[bw,br (by rw[ny];omega),V1];rfl
theorem sB{k:Nat}(h:k<=1000000):eT k 2 32=true:=by
 unfold eT;exact bM ⟨be,be⟩
section
variable(s:RS)(n x:aa)
abbrev Et(gr:List (aa×aa))(dn:Bool)(i:Nat):St:=V0 s n x gr.length (.deep (fh gr)) dn [(10,iW i)]
theorem aoa(h1:s.cs.length<=1000000)(h2:s.ro.length<=100000)(dn0:Bool):TG ak 3 Tryz.f90.ntmps (de 5 zq) (V0 s n x 0 (.deep (fh [])) dn0 []) (fG ak 3 Tryz.f90 (nG (RR.v ⟨⟨s.cs,lP n x dn0 s.ro⟩,[],0,true⟩))):=by
 refine cV U ?_;refine cV U ?_;refine fZ D3 (an9 s n x 0 (fh []) dn0) (dG ?_);refine⟨cR,fun s' dL=>?_⟩;refine jC (α:=List (aa×aa)×Bool×Nat) 1 (fun a=>s.ro.length-a.2.2) (fun a=>a.2.2<=s.ro.length/\a.1.length<=2*a.2.2/\a.1++lP n x a.2.1 (s.ro.drop a.2.2)=lP n x dn0 s.ro) (fun a=>Et s n x a.1 a.2.1 a.2.2) U U ([],dn0,0) ⟨aZ _,aZ _,by rw[bw];rfl⟩ (.norm dL) fun a ⟨hi,hl,he⟩=>?_;obtain⟨gr,dn,i⟩:=a;simp only at hi hl he;have hal:(fh gr).length=gr.length*2:=ny gr;rcases bP i s.ro.length with fF|zJ
 . have kj:=aM V.dm (Dt s.ro i fF);rw[bF fF]at he;generalize s.ro[i]=pq at kj he;obtain⟨p,q⟩:=pq;have hb:((0:Int)<=Int.ofNat i/\Int.ofNat i<(Int.ofNat s.ro.length)):=⟨az _,dh⟩;have zv:V.int aj (IntKind.i64.wrap (Int.ofNat i+(1:Int)))=iW (i+1):=pA dh be;have wZ:=ny s.ro;have hm:s.ro.length-(i+1)<s.ro.length-i:=by omega
   cases dn with
   |true=>
    refine fZ D3 (Ys s n x gr.length (fh gr) i p q) fun g hg hc=>?_;rcases xP hg with rfl|rfl|rfl
    . have h3:=hc _ (aJ _ (aq.2 rfl));dsimp only at h3;have fN:p≠n:=oQ (by simpa using h3);refine⟨fm (hb) (fm (wZ) (fm (kj) (fm (hb) (fm (wZ) (fm (kj) (fm be (fm dU (fm (sB be) (eU (zv)))))))))),fun s2 jg=>⟨(gr++[(p,q)],true,i+1),hm,⟨by show i+1<=_;omega,by show(gr++[(p,q)]).length<=2*(i+1);rw[ax];simp;omega,?_⟩,?_⟩⟩
      . simp only[lP,aI fN,Bool.true_or]at he;simpa using he
      . rw[zu]at jg;show gC _ _ _ _ (Et s n x (gr++[(p,q)]) true (i+1));unfold Et;rw[ax];exact .norm jg
    . have h3:=hc _ (aJ _ (aq.2 rfl));dsimp only at h3;have Ko:p=n:=kP (by simpa using h3);refine⟨fm (hb) (fm (wZ) (fm (kj) (eU (zv)))),fun s2 jg=>⟨(gr,true,i+1),hm,⟨by show i+1<=_;omega,by show gr.length<=2*(i+1);omega,?_⟩,.norm jg⟩⟩;simp only[lP,aG Ko,Bool.true_or]at he;simpa using he
    . exact absurd (aK (hc _ (aq.2 rfl))) dh
   |false=>
    obtain⟨L5,uj⟩:=Yt s n x gr.length (fh gr) i p q;have e1:(List.take (gr.length*2) (List.drop 0 (fh gr))++[D.str n,D.str x])=fh (gr++[(n,x)]):=zu n x;have e2:List.take ((gr.length+1)*2) (List.drop 0 (fh (gr++[(n,x)])))++[D.str p,D.str q]=fh (gr++[(n,x)]++[(p,q)]):=by
     have:=zu (gr:=gr++[(n,x)]) p q;rwa [ax]at this
    have e3:=zu (gr:=gr) p q;have Hp:(fh (gr++[(n,x)])).length=(gr.length+1)*2:=by rw[ny,ax];simp
    rw[e1,e2,e3]at uj;refine gh D3 mo kS U uj fun g hg hc=>?_;rcases abl hg with rfl|rfl|rfl|rfl|rfl
    . have h2:=hc _ (aJ _ (aP ..));have h3:=hc _ (aJ _ (aJ _ (aq.2 rfl)));dsimp only at h2 h3;have fN:p≠n:=oQ (by simpa using h3);refine⟨fm (hb) (fm (wZ) (fm (kj) (fm be (fm dU (fm (sB be) (fm (hb) (fm (wZ) (fm (kj) (fm (hb) (fm (wZ) (fm (kj) (fm be (fm dU (fm (sB be) (eU (zv)))))))))))))))),fun s2 jg=>⟨(gr++[(n,x)]++[(p,q)],true,i+1),hm,⟨by show i+1<=_;omega,by show(gr++[(n,x)]++[(p,q)]).length<=2*(i+1);rw[ax,ax];simp;omega,?_⟩,?_⟩⟩
      . simp only[lP,aI fN,h2]at he;simpa using he
      . show gC _ _ _ _ (Et s n x (gr++[(n,x)]++[(p,q)]) true (i+1));unfold Et;rw[ax,ax];exact .norm jg
    . have h2:=hc _ (aJ _ (aP ..));have h3:=hc _ (aJ _ (aJ _ (aq.2 rfl)));dsimp only at h2 h3;have Ko:p=n:=kP (by simpa using h3);refine⟨fm (hb) (fm (wZ) (fm (kj) (fm be (fm dU (fm (sB be) (fm (hb) (fm (wZ) (fm (kj) (eU (zv)))))))))),fun s2 jg=>⟨(gr++[(n,x)],true,i+1),hm,⟨by show i+1<=_;omega,by show(gr++[(n,x)]).length<=2*(i+1);rw[ax];simp;omega,?_⟩,?_⟩⟩
      . simp only[lP,aG Ko,h2]at he;simpa using he
      . show gC _ _ _ _ (Et s n x (gr++[(n,x)]) true (i+1));unfold Et;rw[ax];exact .norm jg
    . have h2:=hc _ (aJ _ (aP ..));have h3:=hc _ (aJ _ (aJ _ (aq.2 rfl)));dsimp only at h2 h3;have fN:p≠n:=oQ (by simpa using h3);refine⟨fm (hb) (fm (wZ) (fm (kj) (fm (hb) (fm (wZ) (fm (kj) (fm (hb) (fm (wZ) (fm (kj) (fm be (fm dU (fm (sB be) (eU (zv))))))))))))),fun s2 jg=>⟨(gr++[(p,q)],false,i+1),hm,⟨by show i+1<=_;omega,by show(gr++[(p,q)]).length<=2*(i+1);rw[ax];simp;omega,?_⟩,?_⟩⟩
      . simp only[lP,aI fN,h2]at he;simpa using he
      . show gC _ _ _ _ (Et s n x (gr++[(p,q)]) false (i+1));unfold Et;rw[ax];exact .norm jg
    . have h2:=hc _ (aJ _ (aP ..));have h3:=hc _ (aJ _ (aJ _ (aq.2 rfl)));dsimp only at h2 h3;have Ko:p=n:=kP (by simpa using h3);refine⟨fm (hb) (fm (wZ) (fm (kj) (fm (hb) (fm (wZ) (fm (kj) (eU (zv))))))),fun s2 jg=>⟨(gr,false,i+1),hm,⟨by show i+1<=_;omega,by show gr.length<=2*(i+1);omega,?_⟩,.norm jg⟩⟩;simp only[lP,aG Ko,h2]at he;simpa using he
    . exact absurd (aK (hc _ (aq.2 rfl))) dh
 . obtain rfl:i=s.ro.length:=by omega
   rw[List.drop_length]at he;have rE:∀s2,gC ak 3 Tryz.f90.ntmps s2 (Et s n x gr dn s.ro.length)->TG ak 3 Tryz.f90.ntmps (de 6 zq) s2 (fG ak 3 Tryz.f90 (nG (RR.v ⟨⟨s.cs,lP n x dn0 s.ro⟩,[],0,true⟩))):=fun s2 jg=>by
    refine jg _ _ ?_;rw[<- he];have Bz:∀ro:List (aa×aa),nG (RR.v ⟨⟨s.cs,ro⟩,[],0,true⟩) (.agg [.dO false s.cs.length (fq s.cs),.dj (some (3,0)) ro.length ro.length 2,.str [],.int .i64 0,.bool true]) (hL [(3,.deep (fh ro))]) 4:=fun ro=>
     ⟨[[3]],[(fh ro).length=ro.length*2],{ fr:=Tr.nil.set 0 (some (RR.v ⟨⟨s.cs,ro⟩,[],0,true⟩)),h:=(hL [(3,.deep (fh ro))]).set 3 none,n:=4,gz:=[] },U,eU (ny _),U⟩
    cases dn with
    |true=>
     refine fB D3 (agi s n x gr.length (fh gr) s.ro.length) (dG ?_);refine⟨cR,_,_,_,rfl,?_⟩;have:=Bz gr;simpa[lP]using this
    |false=>
     obtain⟨L6,Hr⟩:=agj s n x gr.length (fh gr) s.ro.length;rw[zu]at Hr;refine gY D3 mo _ U Hr (dG ?_);refine⟨fm be (fm dU (eU (sB be))),_,_,_,rfl,?_⟩;have:=Bz (gr++[(n,x)]);rw[ax]at this;exact this
   cases dn with
   |true=>
    refine fZ D3 (Ys s n x gr.length (fh gr) s.ro.length [] []) fun g hg hc=>?_;rcases xP hg with rfl|rfl|rfl
    . exact absurd (aH (hc _ (aP ..))) dh
    . exact absurd (aH (hc _ (aP ..))) dh
    . refine⟨cR,fun s2 jg=>?_⟩;simp only[andThen,dX];exact rE s2 (.norm jg)
   |false=>
    refine fZ D3 (Yt s n x gr.length (fh gr) s.ro.length [] []) fun g hg hc=>?_;rcases abl hg with rfl|rfl|rfl|rfl|rfl
    . exact absurd (aH (hc _ (aP ..))) dh
    . exact absurd (aH (hc _ (aP ..))) dh
    . exact absurd (aH (hc _ (aP ..))) dh
    . exact absurd (aH (hc _ (aP ..))) dh
    . refine⟨cR,fun s2 jg=>?_⟩;simp only[andThen,dX];exact rE s2 (.norm jg)
end
section
variable(s:RS)(n x:aa)
theorem aob(h1:s.cs.length<=1000000)(h2:s.ro.length<64)(hn:n≠[])(JJ:n.length<=64):TG ak 3 Tryz.f90.ntmps zq (cS [s.v,.str n,.str x] .nil 3) (fG ak 3 Tryz.f90 (nG (oT s n x).v)):=by
 have z8:∀a∈[True,True,True,True,s.cs.length<=1000000,s.ro.length<=1000000],a:=fm trivial (fm trivial (fm trivial (fm trivial (fm h1 (eU be)))));have hN:V.bool (eG n ([]:aa))=V.bool false:=zk hn;have hL:V.bool (decide ((Int.ofNat n.length)>(64:Int)))=V.bool false:=GZ JJ;have hR:V.bool (decide ((Int.ofNat s.ro.length)>=(64:Int)))=V.bool false:=aM V.bool (bD dh);obtain⟨L1,BA⟩:=an7 s n x;simp only[pC,jr]at BA;refine mA 2 D3 mo U BA z8 ?_;show TG _ _ _ (de 2 zq) (sSr s n x [(7,.str (gM n s.ro))]) _;have MU:∀s',e9 3 [1,2,3,6] s'=some (sSr s n x [])->¬(x≠[]/\fU s.cs x<0)->x≠gM n s.ro->TG ak 3 Tryz.f90.ntmps (de 3 zq) s' (fG ak 3 Tryz.f90 (nG (oT s n x).v)):=fun s' dL hf hw=>by
  refine c5 dL ?_;unfold oT;rw[aI hf,aI hw];refine iL  2 D3 (an8 s n x (eG x [])) (eU rfl) ?_;refine(gC.deep [5] (S:=V0 s n x 0 (.deep (fh [])) (eG x []) []) U) _ _ ?_;exact aoa s n x h1 be (eG x [])
 generalize abm:gM n s.ro=rK at MU ⊢;refine cV U ?_;by_cases hx:x=[]
 . subst hx;have hf:¬(([]:aa)≠[]/\fU s.cs []<0):=fun h=>h.1 rfl;obtain⟨L2,Fc⟩:=agh s n rK;refine gh D3 mo (nG (oT s n []).v) U Fc fun g hg hc=>?_;rcases jk hg with rfl|rfl
   . have h3:=kP (hc _ (aq.2 rfl));refine⟨fm hN (eU hL),?_,fun s1 fS=>fS⟩;unfold oT;rw[aI hf,aG (by rw[abm];exact h3)];exact nG.self
   . have h3:=oQ (hc _ (aq.2 rfl));exact⟨fm hN (eU hL),fun s1 fS=>MU s1 fS hf h3⟩
 . have hX:(V.bool !eG x ([]:aa))=V.bool true:=GY hx;obtain⟨L2,Fc⟩:=agf s n x rK;simp only[jr,pC]at Fc;refine gh D3 mo (nG (oT s n x).v) U Fc fun g hg hc=>?_;have hA:∀a∈[V.bool (eG n ([]:aa))=V.bool false,V.bool (decide ((Int.ofNat n.length)>(64:Int)))=V.bool false,(V.bool !eG x ([]:aa))=V.bool true],a:=fm hN (fm hL (eU hX));rcases abl hg with rfl|rfl|rfl|rfl|rfl
   . have h3:=aH (hc _ (aq.2 rfl));refine⟨js (a:=[_,_,_]) hA z8,?_,fun s1 fS=>fS⟩;unfold oT;rw[aG ⟨hx,h3⟩];exact nG.self
   all_goals
    have h3:=aK (hc _ (aP ..));have hf:¬(x≠[]/\fU s.cs x<0):=fun h=>h3 h.2
   . have h4:=kP (hc _ (aJ _ (aJ _ (aq.2 rfl))));refine⟨js (a:=[_,_,_]) hA (js (a:=[_,_,_,_,_,_]) z8 (fm hX (eU hR))),?_,fun s1 fS=>fS⟩;unfold oT;rw[aI hf,aG (by rw[abm];exact h4)];exact nG.self
   . have h4:=oQ (hc _ (aJ _ (aJ _ (aq.2 rfl))));exact⟨js (a:=[_,_,_]) hA (js (a:=[_,_,_,_,_,_]) z8 (fm hX (eU hR))),fun s1 fS=>MU s1 fS hf h4⟩
   . have h4:=kP (hc _ (aJ _ (aJ _ (aq.2 rfl))));refine⟨js (a:=[_,_,_]) hA (js (a:=[_,_,_,_,_,_]) z8 (eU hX)),?_,fun s1 fS=>fS⟩;unfold oT;rw[aI hf,aG (by rw[abm];exact h4)];exact nG.self
   . have h4:=oQ (hc _ (aJ _ (aJ _ (aq.2 rfl))));exact⟨js (a:=[_,_,_]) hA (js (a:=[_,_,_,_,_,_]) z8 (eU hX)),fun s1 fS=>MU s1 fS hf h4⟩
end
def Lz:ai->Option (ah×V)
 | [.agg [.dO n cs,.dO m rs],.str d,.dO k us]=>some (I7 n cs m rs++[n<=100000,us=strs (dH us),k=(dH us).length,d.length<=65536,k<=1024,∀x∈dH us,x.length=32],(jv ⟨gp cs,oS rs⟩ d (dH us)).v)
 |_=>none
def LB:ai->Option (ah×V)
 | [.agg [.dO n cs,.dO m rs],.str a,.str x]=>some (I7 n cs m rs++[m<64,a≠[],a.length<=64],(oT ⟨gp cs,oS rs⟩ a x).v)
 |_=>none
theorem I8(r:RR):r.v.deep=true:=rfl
theorem Sm:jL ak 37 (Go.Eng.dW Lz):=by
 refine vk (au U) fun args A v e hA=>?_;unfold Lz at e;split at e
 case h_2=>cases e
 rename_i n cs m rs d k us;simp only[an,aB]at e;obtain⟨rfl,rfl⟩:=e;have hB:=fun a ha=>hA a (bZ _ ha);have hC:=fun a ha=>hA a (cJ _ ha);obtain⟨s,h1,h2,h3,h4,h5,h6,h7,h8⟩:=tL hC;have b1:n<=100000:=hB (n<=100000) (by simp);have b2:us=strs (dH us):=hB _ (by simp);have b3:k=(dH us).length:=hB (k=(dH us).length) (by simp);have b4:d.length<=65536:=hB (d.length<=65536) (by simp);have b5:k<=1024:=hB (k<=1024) (by simp);have b6:∀x∈dH us,x.length=32:=hB (∀x∈dH us,x.length=32) (by simp);rw[h7,h8];clear h7 h8 hA hB hC;generalize dH us=ps at *;subst h1 h2 h3 h4 b2 b3;exact gU mo po Tryz.func37 U U rfl (I8 _) (an6 s d ps b1 h6 b4 b5 b6)
theorem Sn:jL ak 90 (Go.Eng.dW LB):=by
 refine vk (au U) fun args A v e hA=>?_;unfold LB at e;split at e
 case h_2=>cases e
 rename_i n cs m rs a x;simp only[an,aB]at e;obtain⟨rfl,rfl⟩:=e;have hB:=fun a ha=>hA a (bZ _ ha);have hC:=fun a ha=>hA a (cJ _ ha);obtain⟨s,h1,h2,h3,h4,h5,h6,h7,h8⟩:=tL hC;have b1:m<64:=hB (m<64) (by simp);have b2:a≠[]:=hB (a≠[]) (by simp);have b3:a.length<=64:=hB (a.length<=64) (by simp);rw[h7,h8];clear h7 h8 hA hB hC;subst h1 h2 h3 h4;exact gU mo po Tryz.func90 U U rfl (I8 _) (aob s a x h5 b1 b2 b3)
noncomputable abbrev W25:jQ:=kB 90 (Go.Eng.dW LB) (kB 37 (Go.Eng.dW Lz) W24)
theorem Sp:gd ak W25:=fk Sn (fk Sm Sl)
noncomputable abbrev xX:fb:=gI ak W25 H0 1000 40
noncomputable abbrev I9:CX ak:=CX.of mo po Sp H0 1000 40
noncomputable abbrev OL:Code:=dP Tryz.f68
noncomputable abbrev V2:Code:=dw (dw (ee (dK (de 2 OL))))
section
variable(s:RS)(bs:List Bool)(i:Nat)(r:List (Nat×V))(z:Int)(j:Nat)
noncomputable abbrev abn:Code:=dw (dK (ee V2))
noncomputable abbrev V3:Code:=dK abn
noncomputable abbrev Sq:Code:=de 2 abn
def lJ:ai:=bs.map .bool
def q9:St:=eF ([(1,.ptr (some (3,0))),(3,.dj (some (4,0)) bs.length bs.length 1)]++r) (hL [(3,bx s),(4,.deep (lJ bs))]) 5
def Sr(k:Nat)(ds:ai)(r:List (Nat×V)):St:=eF ([(1,.ptr (some (3,0))),(3,.dj (some (4,0)) k k 1)]++r) (hL [(3,bx s),(4,.deep ds)]) 5
theorem aod:c6 xX [] 3 Tryz.f68 [1,3] (eR 2 OL) (cS [s.v] .nil 3) [([],
   [((0:Int)<=IntKind.i64.wrap (Int.ofNat s.cs.length)/\IntKind.i64.wrap (Int.ofNat s.cs.length)<=IntKind.i64.wrap (Int.ofNat s.cs.length)/\(1:Int)*IntKind.i64.wrap (Int.ofNat s.cs.length)<=(281474976710656:Int))],
   .to .normal (Sr s (IntKind.i64.wrap (Int.ofNat s.cs.length)).toNat (Bk [D.bool false] (IntKind.i64.wrap (Int.ofNat s.cs.length)).toNat) []))]
 :=cQ.of U U U
theorem aoe:c6 xX [(15,.dc (.int .i64 z))] 3 Tryz.f68 [1,3,4] (dK (dK (de 2 OL))) (q9 s bs []) [([],
   [(V.int aj (IntKind.i64.wrap ((Int.ofNat s.cs.length)-(1:Int)))=V.int aj z)],
   .to .normal (q9 s bs [(4,.int .i64 z)]))]
 :=cQ.of U U U
theorem aof:c6 xX [(17,.dc (.bool true))] 3 Tryz.f68 [1,3,4] (dK V2) (q9 s bs [(4,iW i)]) [([],
   [(V.bool (decide (Int.ofNat i>=(0:Int)))=V.bool true)],
   .to .normal (q9 s bs [(4,iW i)]))]
 :=cQ.of U U U
theorem agk:c6 xX [] 3 Tryz.f68 [1,3,4] (dK V2) (q9 s bs [(4,.int .i64 (-1))]) [([],
   [],
   .to (.exit 0) (q9 s bs [(4,.int .i64 (-1))]))]
 :=cQ.of U U U
theorem aog:c6 xX [] 3 Tryz.f68 [1,3,4,5] (dK V3) (q9 s bs [(4,iW i)]) [([],
   [],
   .to .normal (q9 s bs [(4,iW i),(5,iW 0)]))]
 :=cQ.of U U U
theorem Yu:c6 xX [(24,.split),(32,.dc (.bool true)),(26,.dc (iW (j+1)))] 3 Tryz.f68 [1,3,4,5] (dw (dw (ee V3))) (q9 s bs [(4,iW i),(5,iW j)]) [([((decide (Int.ofNat j<(Int.ofNat s.ro.length))),true)],
   [((0:Int)<=Int.ofNat i/\Int.ofNat i<(Int.ofNat bs.length)),(0+i*1<(lJ bs).length),(((lJ bs).getD (0+i*1) D.uz).iJ=V.bool true),((0:Int)<=Int.ofNat i/\Int.ofNat i<(Int.ofNat bs.length)),(0+i*1+1<=(lJ bs).length),(V.int aj (IntKind.i64.wrap (Int.ofNat j+(1:Int)))=iW (j+1))],
   .to .normal (Sr s bs.length (wJ (lJ bs) (0+i*1) [D.bool true]) [(4,iW i),(5,iW (j+1))])),
  ([((decide (Int.ofNat j<(Int.ofNat s.ro.length))),false)],
   [],
   .to (.exit 2) (q9 s bs [(4,iW i),(5,iW j)]))]
 :=cQ.of U U U
theorem Yv(p q:aa)(c:gH):c6 xX [(24,.split),(32,.dc (.bool false)),(37,.dc (.dm [.str p,.str q])),(43,.dc (.dm c.d)),(26,.dc (iW (j+1)))] 3 Tryz.f68 [1,3,4,5] (dw (dw (ee V3))) (q9 s bs [(4,iW i),(5,iW j)]) [([((decide (Int.ofNat j<(Int.ofNat s.ro.length))),true)],
   [((0:Int)<=Int.ofNat i/\Int.ofNat i<(Int.ofNat bs.length)),(0+i*1<(lJ bs).length),(((lJ bs).getD (0+i*1) D.uz).iJ=V.bool false),((0:Int)<=Int.ofNat j/\Int.ofNat j<(Int.ofNat s.ro.length)),((fh s.ro).length=s.ro.length*2),(V.dm (dx (fh s.ro) (j*2) 2)=V.dm [D.str p,D.str q]),((0:Int)<=Int.ofNat i/\Int.ofNat i<(Int.ofNat s.cs.length)),((fq s.cs).length=s.cs.length*3),(V.dm (dx (fq s.cs) (i*3) 3)=V.dm c.d),((0:Int)<=Int.ofNat i/\Int.ofNat i<(Int.ofNat bs.length)),(0+i*1+1<=(lJ bs).length),(V.int aj (IntKind.i64.wrap (Int.ofNat j+(1:Int)))=iW (j+1))],
   .to .normal (Sr s bs.length (wJ (lJ bs) (0+i*1) [D.bool (eG q c.dg)]) [(4,iW i),(5,iW (j+1))])),
  ([((decide (Int.ofNat j<(Int.ofNat s.ro.length))),false)],
   [],
   .to (.exit 2) (q9 s bs [(4,iW i),(5,iW j)]))]
 :=cQ.of U U U
theorem aoh:c6 xX [] 3 Tryz.f68 [1,3,4,6] (eR 1 (de 1 abn)) (q9 s bs [(4,iW i),(5,iW j)]) [([],
   [],
   .to .normal (q9 s bs [(4,iW i),(6,iW 0)]))]
 :=cQ.of U U U
theorem aoi(c:gH)(b:Bool):c6 xX [(53,.dc (.dm c.d)),(57,.split),(62,.dc (.bool b)),(63,.split)] 3 Tryz.f68 [1,3,4,6] (dK (dw (dw Sq))) (q9 s bs [(4,iW i),(6,iW j)]) [([((decide (Int.ofNat j<(Int.ofNat c.rs.length))),true),(b,true)],
   [((0:Int)<=Int.ofNat i/\Int.ofNat i<(Int.ofNat s.cs.length)),((fq s.cs).length=s.cs.length*3),(V.dm (dx (fq s.cs) (i*3) 3)=V.dm c.d),((0:Int)<=Int.ofNat i/\Int.ofNat i<(Int.ofNat bs.length)),(0+i*1<(lJ bs).length),(((lJ bs).getD (0+i*1) D.uz).iJ=V.bool b)],
   .to .normal (q9 s bs [(4,iW i),(6,iW j)])),
  ([((decide (Int.ofNat j<(Int.ofNat c.rs.length))),true),(b,false)],
   [((0:Int)<=Int.ofNat i/\Int.ofNat i<(Int.ofNat s.cs.length)),((fq s.cs).length=s.cs.length*3),(V.dm (dx (fq s.cs) (i*3) 3)=V.dm c.d),((0:Int)<=Int.ofNat i/\Int.ofNat i<(Int.ofNat bs.length)),(0+i*1<(lJ bs).length),(((lJ bs).getD (0+i*1) D.uz).iJ=V.bool b)],
   .to (.exit 4) (q9 s bs [(4,iW i),(6,iW j)])),
  ([((decide (Int.ofNat j<(Int.ofNat c.rs.length))),false),(false,true)],
   [((0:Int)<=Int.ofNat i/\Int.ofNat i<(Int.ofNat s.cs.length)),((fq s.cs).length=s.cs.length*3),(V.dm (dx (fq s.cs) (i*3) 3)=V.dm c.d)],
   .to .normal (q9 s bs [(4,iW i),(6,iW j)])),
  ([((decide (Int.ofNat j<(Int.ofNat c.rs.length))),false),(false,false)],
   [((0:Int)<=Int.ofNat i/\Int.ofNat i<(Int.ofNat s.cs.length)),((fq s.cs).length=s.cs.length*3),(V.dm (dx (fq s.cs) (i*3) 3)=V.dm c.d)],
   .to (.exit 4) (eF [(1,.ptr (some (3,0))),(3,.dj (some (4,0)) (bs.length) (bs.length) 1),(4,.int .i64 (Int.ofNat i)),(6,.int .i64 (Int.ofNat j))] (hL [(3,.cells [.dO false (s.cs.length) (fq s.cs),.dO false (s.ro.length) (fh s.ro)]),(4,.deep (lJ bs))]) 5))]
 :=cQ.of U U U
noncomputable abbrev abo:Code:=dK (ee (dw (dw Sq)))
theorem aoj(c:gH)(r:aa):c6 xX [(70,.dc (.dm c.d)),(74,.dc (.dm [.str r]))] 3 Tryz.f68 [1,3,4,6,7] (dK (dw abo)) (q9 s bs [(4,iW i),(6,iW j)]) [([],
   [((0:Int)<=Int.ofNat i/\Int.ofNat i<(Int.ofNat s.cs.length)),((fq s.cs).length=s.cs.length*3),(V.dm (dx (fq s.cs) (i*3) 3)=V.dm c.d),((0:Int)<=Int.ofNat j/\Int.ofNat j<(Int.ofNat c.rs.length)),((strs c.rs).length=c.rs.length*1),(V.dm (dx (strs c.rs) (j*1) 1)=V.dm [D.str r]),(fq s.cs=fq (gp (fq s.cs))),(s.cs.length=(gp (fq s.cs)).length),(fh s.ro=fh (oS (fh s.ro))),(s.ro.length=(oS (fh s.ro)).length),(s.cs.length<=1000000),(s.ro.length<=1000000)],
   .to .normal (eF [(1,.ptr (some (3,0))),(3,.dj (some (4,0)) (bs.length) (bs.length) 1),(4,.int .i64 (Int.ofNat i)),(6,.int .i64 (Int.ofNat j)),(7,.int .i64 (fU (gp (fq s.cs)) r))] (hL [(3,.cells [.dO false (s.cs.length) (fq s.cs),.dO false (s.ro.length) (fh s.ro)]),(4,.deep (lJ bs))]) 5))]
 :=cQ.of U U U
theorem agl(m:Nat):c6 xX [(78,.dc (.bool true))] 3 Tryz.f68 [1,3,4,6] (ee (dw abo)) (q9 s bs [(4,iW i),(6,iW j),(7,iW m)]) [([],
   [(V.bool (decide (Int.ofNat m>=(0:Int)))=V.bool true),((0:Int)<=Int.ofNat m/\Int.ofNat m<(Int.ofNat bs.length)),(0+m*1+1<=(lJ bs).length)],
   .to .normal (Sr s bs.length (wJ (lJ bs) (0+m*1) [D.bool true]) [(4,iW i),(6,iW j)]))]
 :=cQ.of U U U
theorem agm:c6 xX [] 3 Tryz.f68 [1,3,4,6] (ee (dw abo)) (q9 s bs [(4,iW i),(6,iW j),(7,.int .i64 (-1))]) [([],
   [],
   .to .normal (q9 s bs [(4,iW i),(6,iW j)]))]
 :=cQ.of U U U
theorem agn:c6 xX [(65,.dc (iW (j+1)))] 3 Tryz.f68 [1,3,4,6] (ee (ee (dw (dw Sq)))) (q9 s bs [(4,iW i),(6,iW j)]) [([],
   [(V.int aj (IntKind.i64.wrap (Int.ofNat j+(1:Int)))=iW (j+1))],
   .to .normal (q9 s bs [(4,iW i),(6,iW (j+1))]))]
 :=cQ.of U U U
theorem aok:c6 xX [(19,.dc (.int .i64 z))] 3 Tryz.f68 [1,3,4] (ee (ee V2)) (q9 s bs [(4,iW i)]) [([],
   [(V.int aj (IntKind.i64.wrap (Int.ofNat i-(1:Int)))=V.int aj z)],
   .to .normal (q9 s bs [(4,.int .i64 z)]))]
 :=cQ.of U U U
theorem ago:c6 xX [] 3 Tryz.f68 [] (ee (de 2 OL)) (q9 s bs [(4,.int .i64 (-1))]) [([],
   [],
   .ret (.dj (some (3,0)) (bs.length) (bs.length) 1) (hL [(3,.deep (lJ bs))]) 4)]
 :=cQ.of U U U
end
def Eu(ro:List (aa×aa))(c:gH):Bool:=ro.any fun p=>eG p.2 c.dg
section
variable(s:RS)(bs:List Bool)(i:Nat)
def jG(r:aa):List Bool:=if fU s.cs r<0 then bs else bs.set (fU s.cs r).toNat true
def kV(c:gH):List Bool:=bs.set i (bs.getD i false||Eu s.ro c)
def zw(c:gH):List Bool:=if(kV s bs i c).getD i false=true then c.rs.foldl (jG s) (kV s bs i c)else kV s bs i c
end
def Ss(s:RS):Nat->List Bool->List Bool
 |0,bs=>bs
 |i+1,bs=>Ss s i (zw s bs i (s.cs.getD i ⟨[],[],[]⟩))
def eV(s:RS):List Bool:=Ss s s.cs.length (List.replicate s.cs.length false)
theorem Bd(x:aa):∀(l:List gH) (i:Nat),sA x l i= -1\/∃m,m<i+l.length/\sA x l i=Int.ofNat m
 | [],_=>.inl rfl
 |c::l,i=>by
  unfold sA;split
  . exact .inr ⟨i,by simp,rfl⟩
  . rcases Bd x l (i+1)with h|⟨m,hm,h⟩
    . exact .inl h
    . exact .inr ⟨m,by rw[aS];omega,h⟩
theorem Ja(l:List gH)(x:aa):fU l x= -1\/∃m,m<l.length/\fU l x=Int.ofNat m:=by
 have:=Bd x l 0;rw[bI]at this;exact this
theorem Fw(s:RS)(bs:List Bool)(r:aa):(jG s bs r).length=bs.length:=by
 unfold jG;split
 . rfl
 . rw[List.length_set]
theorem Jb(s:RS):∀(l:List (aa)) (bs:List Bool),(l.foldl (jG s) bs).length=bs.length
 | [],_=>rfl
 |r::l,bs=>by rw[List.foldl_cons,Jb s l,Fw]
section
variable(s:RS)(bs:List Bool)(i:Nat)
theorem xY(c:gH):(kV s bs i c).length=bs.length:=by unfold kV;rw[List.length_set]
theorem Fx(c:gH):(zw s bs i c).length=bs.length:=by
 unfold zw;split
 . rw[Jb,xY]
 . rw[xY]
end
theorem MV(s:RS):∀(k:Nat) (bs:List Bool),(Ss s k bs).length=bs.length
 |0,_=>rfl
 |k+1,bs=>by rw[Ss,MV s k,Fx]
theorem rj(bs:List Bool):(lJ bs).length=bs.length:=by unfold lJ;rw[aY]
section
variable{bs:List Bool}{i:Nat}
theorem MW(h:i<bs.length):0+i*1<(lJ bs).length/\((lJ bs).getD (0+i*1) D.uz).iJ=V.bool (bs.getD i false):=by
 refine⟨by rw[rj];omega,?_⟩;unfold lJ;rw[bI,bk,aN,bt,ay h,aN,ay h];rfl
theorem G6(h:i<bs.length)(b:Bool):wJ (lJ bs) (0+i*1) [D.bool b]=lJ (bs.set i b):=by
 unfold wJ lJ;rw[bI,bk,List.set_eq_take_append_cons_drop,aG h,aX,bN,cL,List.map_drop];rfl
end
theorem BR(s:RS)(bs:List Bool)(k:Nat)(hk:k=bs.length)(r:List (Nat×V)):Sr s k (lJ bs) r=q9 s bs r:=by subst hk;rfl
section
variable(s:RS)
theorem agp(h1:s.cs.length<=100000)(h2:s.ro.length<=1000000)(i:Nat)(hi:i<s.cs.length)(bs:List Bool)(hl:bs.length=s.cs.length){st:St}{Q:Exit->St->Prop}
  (hs:gC ak 3 Tryz.f68.ntmps st (q9 s bs [(4,iW i),(6,iW 0)])) (wZ:(s.cs[i]).rs.length<=100000)
  (h:∀s' j,gC ak 3 Tryz.f68.ntmps s' (q9 s (if bs.getD i false=true then(s.cs[i]).rs.foldl (jG s) bs else bs) [(4,iW i),(6,iW j)])->Q .normal s'):TG ak 3 Tryz.f68.ntmps Sq st Q:=by
 have z8:∀a∈[True,True,True,True,s.cs.length<=1000000,s.ro.length<=1000000],a:=fm trivial (fm trivial (fm trivial (fm trivial (fm be (eU h2)))));have kj:=aM V.dm (vB s.cs i hi);have K9:((0:Int)<=Int.ofNat i/\Int.ofNat i<(Int.ofNat s.cs.length)):=⟨az _,dh⟩;have rJ:=kC s.cs;generalize s.cs[i]=c at kj wZ h;refine jC (α:=List Bool×Nat) 4 (fun a=>c.rs.length-a.2) (fun a=>a.2<=c.rs.length/\a.1.length=s.cs.length/\(bs.getD i false=true->a.1.getD i false=true)/\(bs.getD i false=false->a.1=bs)/\(if bs.getD i false=true then(c.rs.drop a.2).foldl (jG s) a.1 else bs)=(if bs.getD i false=true then c.rs.foldl (jG s) bs else bs)) (fun a=>q9 s a.1 [(4,iW i),(6,iW a.2)]) U U (bs,0) ⟨aZ _,hl,id,fun _=>rfl,by rw[bw]⟩ hs fun a ⟨a1,a2,a3,a4,a5⟩=>?_;obtain⟨ds,j⟩:=a;simp only at a1 a2 a3 a4 a5;have hg:=MW (bs:=ds) (i:=i) be;have hbd:((0:Int)<=Int.ofNat i/\Int.ofNat i<(Int.ofNat ds.length)):=⟨az _,dh⟩;refine cV U ?_;refine fZ I9 (aoi s ds i j c (ds.getD i false)) fun g ur hc=>?_;rcases ae1 ur with rfl|rfl|rfl|rfl
 . have c1:=aH (hc _ (aP ..));have c2:ds.getD i false=true:=hc _ (aJ _ (aq.2 rfl));rw[kU,kU]at c1;have hj:j<c.rs.length:=by omega
   refine⟨fm (K9) (fm (rJ) (fm (kj) (fm (hbd) (fm (hg.1) (eU (hg.2)))))),fun s1 fS=>c5 fS ?_⟩;have hb:bs.getD i false=true:=by
    cases hq:bs.getD i false with
    |true=>rfl
    |false=>rw[a4 hq,hq]at c2;cases c2
   refine cV U ?_;refine fg (i:=5) U ?_;refine cV U ?_;have LD:=aM V.dm (fI (ay hj));obtain⟨L8,hr8⟩:=aoj s ds i j c c.rs[j];simp only[jr,pC]at hr8;refine gh I9 mo kS U hr8 fun g ur _=>?_;rw[aq]at ur;subst ur;refine⟨js (a:=[_,_,_,_,_,_]) (fm (K9) (fm (rJ) (fm (kj) (fm (⟨az _,dh⟩) (fm (by rw[eJ];omega) (eU (LD))))))) z8,fun s2 jg=>c5 jg ?_⟩;rw[aG hb,aG hb,bF hj,List.foldl_cons]at a5;have zv:V.int aj (IntKind.i64.wrap (Int.ofNat j+(1:Int)))=iW (j+1):=pA dh be;have pG:∀s3,gC ak 3 Tryz.f68.ntmps s3 (q9 s (jG s ds c.rs[j]) [(4,iW i),(6,iW j)])->TG ak 3 Tryz.f68.ntmps (ee (ee (dw (dw Sq)))) s3 (andThen (fun s'=>∃x':List Bool×Nat,c.rs.length-x'.2<c.rs.length-j/\(x'.2<=c.rs.length/\x'.1.length=s.cs.length/\(bs.getD i false=true->x'.1.getD i false=true)/\(bs.getD i false=false->x'.1=bs)/\(if bs.getD i false=true then(c.rs.drop x'.2).foldl (jG s) x'.1 else bs)=(if bs.getD i false=true then c.rs.foldl (jG s) bs else bs))/\gC ak 3 Tryz.f68.ntmps s' (q9 s x'.1 [(4,iW i),(6,iW x'.2)])) (mQ 4 Q)):=fun s3 x9=>by
    refine x9 _ _ ?_;refine fZ I9 (agn s (jG s ds c.rs[j]) i j) fun g ur _=>?_;rw[aq]at ur;subst ur;refine⟨eU zv,fun s4 I5=>⟨(jG s ds c.rs[j],j+1),by show c.rs.length-(j+1)<_;omega,⟨by show j+1<=_;omega,by show(jG s ds c.rs[j]).length=_;rw[Fw,a2],fun _=>?_,fun hq=>?_,?_⟩,.norm I5⟩⟩
    . show(jG s ds c.rs[j]).getD i false=true;unfold jG;split
      . exact c2
      . rw[aN,List.getElem?_set];rw[aN]at c2;split
        . rw[aG be];rfl
        . exact c2
    . rw[hb]at hq;cases hq
    . rw[aG hb,aG hb];exact a5
   rcases Ja s.cs c.rs[j]with hf|⟨m,hm,hf⟩
   . have hmk:jG s ds c.rs[j]=ds:=by unfold jG;rw[hf];rfl
     rw[hf];refine fZ I9 (agm s ds i j) fun g ur _=>?_;rw[aq]at ur;subst ur;rw[hmk]at pG;exact⟨cR,fun s3 x9=>pG s3 (.norm x9)⟩
   . have hmk:jG s ds c.rs[j]=ds.set m true:=by
      unfold jG;rw[hf,aI dh];rfl
     rw[hf];refine fZ I9 (agl s ds i j m) fun g ur _=>?_;rw[aq]at ur;subst ur;refine⟨fm (aM V.bool (bM dh)) (fm (⟨az _,dh⟩) (eU (by rw[rj];omega))),fun s3 x9=>?_⟩;rw[G6 be,BR s _ _ (by rw[List.length_set])]at x9;rw[hmk]at pG;exact pG s3 (.norm x9)
 . have c1:=aH (hc _ (aP ..));have c2:ds.getD i false=false:=hc _ (aJ _ (aq.2 rfl));refine⟨fm (K9) (fm (rJ) (fm (kj) (fm (hbd) (fm (hg.1) (eU (hg.2)))))),fun s1 fS=>?_⟩;have hb:bs.getD i false=false:=by
    cases hq:bs.getD i false with
    |false=>rfl
    |true=>rw[a3 hq]at c2;cases c2
   simp only[andThen,dX];refine h s1 j ?_;rw[a4 hb]at fS;rw[aI (by rw[hb];decide)];exact .norm fS
 . have:=hc _ (aJ _ (aq.2 rfl));cases this
 . have c1:=aK (hc _ (aP ..));rw[kU,kU]at c1;obtain rfl:j=c.rs.length:=by omega
   refine⟨fm (K9) (fm (rJ) (eU (kj))),fun s1 fS=>?_⟩;simp only[andThen,dX];refine h s1 c.rs.length ?_;rw[<- a5,List.drop_length,List.foldl_nil];cases hq:bs.getD i false with
   |true=>exact .norm fS
   |false=>
    rw[a4 hq]at fS;exact .norm fS
end
section
variable(s:RS)
section
variable(bs:List Bool)
def Dx(i:Nat)(c:gH)(j:Nat):List Bool:=bs.set i (bs.getD i false||Eu (s.ro.take j) c)
theorem Su{bs:List Bool}{i:Nat}(h:i<bs.length)(b:Bool):(bs.set i b).getD i false=b:=by
 rw[aN,List.getElem?_set,aG rfl,aG h];rfl
theorem V4(i:Nat)(c:gH)(j:Nat):(Dx s bs i c j).length=bs.length:=by unfold Dx;rw[List.length_set]
theorem OM(c:gH){j:Nat}(h:j<s.ro.length):Eu (s.ro.take (j+1)) c=(Eu (s.ro.take j) c||eG (s.ro[j]).2 c.dg):=by
 unfold Eu;rw[bJ,ay h,cD,List.any_append];simp
theorem Sv{i:Nat}(h:i<s.cs.length):Ss s (i+1) bs=Ss s i (zw s bs i s.cs[i]):=by
 show Ss s i (zw s bs i (s.cs.getD i ⟨[],[],[]⟩))=_;rw[aN,ay h];rfl
theorem agr(h1:s.cs.length<=100000)(h2:s.ro.length<=1000000)(i:Nat)(hi:i<s.cs.length)(bs:List Bool)(hl:bs.length=s.cs.length){Q:Exit->St->Prop}{st:St}(hs:gC ak 3 Tryz.f68.ntmps st (q9 s bs [(4,iW i),(5,iW 0)]))
  (h:∀s' j,gC ak 3 Tryz.f68.ntmps s' (q9 s (kV s bs i s.cs[i]) [(4,iW i),(5,iW j)])->Q .normal s'):TG ak 3 Tryz.f68.ntmps (ee V3) st Q:=by
 have kj:=aM V.dm (vB s.cs i hi);have K9:((0:Int)<=Int.ofNat i/\Int.ofNat i<(Int.ofNat s.cs.length)):=⟨az _,dh⟩;have rJ:=kC s.cs;have wZ:=ny s.ro;generalize s.cs[i]=c at kj h;have h0:Dx s bs i c 0=bs:=by
  unfold Dx;rw[List.take_zero,show Eu [] c=false from rfl,Bool.or_false,aN,ay be];exact List.set_getElem_self be
 refine jq 2 s.ro.length (fun j=>q9 s (Dx s bs i c j) [(4,iW i),(5,iW j)]) U U (by rw[h0];exact hs) (fun j hj=>?_) ?_
 . have Oz:=V4 s bs i c j;have hg:=MW (bs:=Dx s bs i c j) (i:=i) be;have hgv:(Dx s bs i c j).getD i false=(bs.getD i false||Eu (s.ro.take j) c):=Su be _;have hbd:((0:Int)<=Int.ofNat i/\Int.ofNat i<(Int.ofNat (Dx s bs i c j).length)):=⟨az _,dh⟩;have zv:V.int aj (IntKind.i64.wrap (Int.ofNat j+(1:Int)))=iW (j+1):=pA dh be;have hn:=OM s c hj;show TG _ _ _ _ _ (andThen (fun s'=>gC ak 3 Tryz.f68.ntmps s' (q9 s (Dx s bs i c (j+1)) [(4,iW i),(5,iW (j+1))])) _);cases hq:(Dx s bs i c j).getD i false with
   |true=>
    rw[hq]at hg;refine fZ I9 (Yu s (Dx s bs i c j) i j) fun g ur hc=>?_;rcases jk ur with rfl|rfl
    . refine⟨fm (hbd) (fm (hg.1) (fm (hg.2) (fm (hbd) (fm (by rw[rj];omega) (eU (zv)))))),fun s1 fS=>?_⟩;rw[G6 be,BR s _ _ (by rw[List.length_set])]at fS;have e:(Dx s bs i c j).set i true=Dx s bs i c (j+1):=by
       rw[hgv]at hq;unfold Dx;rw[List.set_set,hn,<- Bool.or_assoc,hq,Bool.true_or]
      rw[e]at fS;exact .norm fS
    . exact absurd (aK (hc _ (aq.2 rfl))) dh
   |false=>
    rw[hq]at hg;have LD:=aM V.dm (Dt s.ro j hj);refine fZ I9 (Yv s (Dx s bs i c j) i j (s.ro[j]).1 (s.ro[j]).2 c) fun g ur hc=>?_;rcases jk ur with rfl|rfl
    . refine⟨fm (hbd) (fm (hg.1) (fm (hg.2) (fm (⟨az _,dh⟩) (fm (wZ) (fm (LD) (fm (K9) (fm (rJ) (fm (kj) (fm (hbd) (fm (by rw[rj];omega) (eU (zv)))))))))))),fun s1 fS=>?_⟩;rw[G6 be,BR s _ _ (by rw[List.length_set])]at fS;have e:(Dx s bs i c j).set i (eG (s.ro[j]).2 c.dg)=Dx s bs i c (j+1):=by
       rw[hgv]at hq;unfold Dx;rw[List.set_set,hn,<- Bool.or_assoc,hq,Bool.false_or]
      rw[e]at fS;exact .norm fS
    . exact absurd (aK (hc _ (aq.2 rfl))) dh
 . have rE:∀s1,gC ak 3 Tryz.f68.ntmps s1 (q9 s (Dx s bs i c s.ro.length) [(4,iW i),(5,iW s.ro.length)])->Q .normal s1:=fun s1 fS=>by
    refine h s1 s.ro.length ?_;unfold Dx at fS;rw[aW]at fS;exact fS
   cases hq:(Dx s bs i c s.ro.length).getD i false with
   |true=>
    refine fZ I9 (Yu s (Dx s bs i c s.ro.length) i s.ro.length) fun g ur hc=>?_;rcases jk ur with rfl|rfl
    . exact absurd (aH (hc _ (aq.2 rfl))) dh
    . refine⟨cR,fun s1 fS=>⟨by simp,?_⟩⟩;rw[dX];exact rE s1 (.norm fS)
   |false=>
    refine fZ I9 (Yv s (Dx s bs i c s.ro.length) i s.ro.length [] [] c) fun g ur hc=>?_;rcases jk ur with rfl|rfl
    . exact absurd (aH (hc _ (aq.2 rfl))) dh
    . refine⟨cR,fun s1 fS=>⟨by simp,?_⟩⟩;rw[dX];exact rE s1 (.norm fS)
def spD:Nat->St
 |0=>q9 s bs [(4,.int .i64 (-1))]
 |i+1=>q9 s bs [(4,iW i)]
theorem MX{k:Nat}{z:Int}(hz:z=(k:Int)-1):q9 s bs [(4,.int .i64 z)]=spD s bs k:=by
 subst hz;cases k with
 |zero=>rfl
 |succ i=>
  have e:((i+1:Nat):Int)-1=Int.ofNat i:=by rw[kU];omega
  rw[e];rfl
end
theorem aom(h1:s.cs.length<=100000)(h2:s.ro.length<=1000000)(h3:∀c∈s.cs,c.rs.length<=100000):TG ak 3 Tryz.f68.ntmps OL (cS [s.v] .nil 3) (fG ak 3 Tryz.f68 (nG (.dO false s.cs.length (lJ (eV s))))):=by
 have hw:IntKind.i64.wrap (Int.ofNat s.cs.length)=Int.ofNat s.cs.length:=fH dh dh;refine iL  2 I9 (aod s) (eU ⟨by rw[hw,kU];omega,Int.le_refl _,by rw[hw,kU];omega⟩) ?_;have hrp:∀m:Nat,Bk [D.bool false] m=lJ (List.replicate m false):=fun m=>by
  induction m with
  |zero=>rfl
  |succ m ih=>show[D.bool false]++Bk [D.bool false] m=_;rw[ih];rfl
 rw[hw,show(Int.ofNat s.cs.length).toNat=s.cs.length from rfl,hrp,BR s _ _ (by rw[bK])];show TG _ _ _ (de 2 OL) _ _;refine cV U ?_;refine cV U ?_;refine fZ I9 (aoe s (List.replicate s.cs.length false) ((s.cs.length:Int)-1)) (dG ?_);refine⟨eU (aM _ (fH dh dh)),fun s' dL=>?_⟩;rw[MX s _ (k:=s.cs.length) rfl]at dL;refine jC (α:=List Bool×Nat) 0 (fun a=>a.2) (fun a=>a.2<=s.cs.length/\a.1.length=s.cs.length/\Ss s a.2 a.1=eV s) (fun a=>spD s a.1 a.2) U U (List.replicate s.cs.length false,s.cs.length) ⟨aA _,bK,rfl⟩ (.norm dL) fun a ⟨a1,a2,a3⟩=>?_;obtain⟨bs,k⟩:=a;simp only at a1 a2 a3;refine cV U ?_;cases k with
 |zero=>
  show TG _ _ _ _ (q9 s bs [(4,.int .i64 (-1))]) _;refine fZ I9 (agk s bs) (dG ?_);refine⟨cR,fun s1 fS=>?_⟩;simp only[andThen,dX];refine c5 fS ?_;refine fB I9 (ago s bs) (dG ?_);refine⟨cR,_,_,_,rfl,?_⟩;rw[<- a3,<- a2];show nG (.dO false bs.length (lJ bs)) _ _ _;exact⟨[[3]],[(lJ bs).length=bs.length*1],{ fr:=Tr.nil.set 0 (some (.dO false bs.length (lJ bs))),h:=(hL [(3,.deep (lJ bs))]).set 3 none,n:=4,gz:=[] },U,eU (by rw[rj,bk]),U⟩
 |succ i=>
  have hi:i<s.cs.length:=by omega
  show TG _ _ _ _ (q9 s bs [(4,iW i)]) _;refine fZ I9 (aof s bs i) (dG ?_);refine⟨eU (aM V.bool (bM dh)),fun s1 fS=>c5 fS ?_⟩;refine cV U ?_;refine fg (i:=1) U ?_;refine cV U ?_;refine cV U ?_;refine fZ I9 (aog s bs i) (dG ?_);refine⟨cR,fun s2 jg=>?_⟩;refine agr s h1 h2 i hi bs a2 (.norm jg) fun s3 j x9=>?_;simp only[andThen];refine x9 _ _ ?_;refine iL  1 I9 (aoh s (kV s bs i s.cs[i]) i j) cR ?_;refine agp s h1 h2 i hi (kV s bs i s.cs[i]) (by rw[xY,a2]) .refl (h3 _ (bY hi)) fun s4 j4 I5=>?_;rw[show(if(kV s bs i s.cs[i]).getD i false=true then(s.cs[i]).rs.foldl (jG s) (kV s bs i s.cs[i])else kV s bs i s.cs[i])=zw s bs i s.cs[i]from rfl]at I5;show TG _ _ _ _ _ _;have hsl:=Fx s bs i s.cs[i];have ug:=Sv s bs hi;generalize zw s bs i s.cs[i]=ds at I5 hsl ug;refine(I5.trans (.norm (live:=[1,3,4]) (S:=q9 s ds [(4,iW i)]) U)) _ _ ?_;refine fZ I9 (aok s ds i ((i:Int)-1)) (dG ?_);refine⟨eU (aM _ (fH dh dh)),fun s5 hs5=>⟨(ds,i),Nat.lt_succ_self i,⟨by show i<=_;omega,by show ds.length=_;rw[hsl,a2],by show Ss s i ds=_;rw[<- ug,a3]⟩,?_⟩⟩;rw[MX s _ (k:=i) rfl]at hs5;exact .norm hs5
end
def LF:ai->Option (ah×V)
 | [.agg [.dO n cs,.dO m rs]]=>some (I7 n cs m rs++[n<=100000,∀c∈gp cs,c.rs.length<=100000],.dO false n (lJ (eV ⟨gp cs,oS rs⟩)))
 |_=>none
theorem Sw(bs:List Bool)(n:Nat):(V.dO false n (lJ bs)).deep=true:=rfl
theorem Sx:jL ak 68 (Go.Eng.dW LF):=by
 refine vk (au U) fun args A v e hA=>?_;unfold LF at e;split at e
 case h_2=>cases e
 rename_i n cs m rs;simp only[an,aB]at e;obtain⟨rfl,rfl⟩:=e;have hB:=fun a ha=>hA a (bZ _ ha);have hC:=fun a ha=>hA a (cJ _ ha);obtain⟨s,h1,h2,h3,h4,h5,h6,h7,h8⟩:=tL hC;have b1:n<=100000:=hB (n<=100000) (by simp);have b2:∀c∈gp cs,c.rs.length<=100000:=hB (∀c∈gp cs,c.rs.length<=100000) (by simp);rw[h7]at b2;rw[h7,h8];clear h7 h8 hA hB hC;subst h1 h2 h3 h4;exact gU mo po Tryz.func68 U U rfl (Sw _ _) (aom s b1 h6 b2)
noncomputable abbrev W26:jQ:=kB 68 (Go.Eng.dW LF) W25
theorem Sy:gd ak W26:=fk Sx Sp
noncomputable abbrev Ev:fb:=gI ak W26 H0 1000 40
noncomputable abbrev ON:CX ak:=CX.of mo po Sy H0 1000 40
noncomputable abbrev OO:Code:=dP Tryz.f32
noncomputable abbrev aoo:Code:=dw (dw (ee (dK (de 3 OO))))
noncomputable abbrev G7:Code:=dP Tryz.f33
section
variable(s:RS)(bs:List Bool)(n:Nat)
def o58:O:=.cells [.dj none 0 0 0,.dj none 0 0 0]
def sKm(m:Nat)(cs:ai)(r:List (Nat×V)):St:=eF ([(1,.ptr (some (3,0))),(2,.ptr (some (4,0))),(3,.dO false n (lJ bs)),(4,.dj (some (5,0)) m m 3)]++r) (hL [(3,bx s),(4,o58),(5,.deep cs)]) 6
def OP(u:Int)(r:List (Nat×V)):St:=eF ([(1,.ptr (some (3,0))),(3,.int .i64 u)]++r) (hL [(3,bx s)]) 4
end
theorem aop(s:RS):c6 Ev [] 3 Tryz.f32 [1,2,3,4] (eR 3 OO) (cS [s.v] .nil 3) [([],
   [(fq s.cs=fq (gp (fq s.cs))),(s.cs.length=(gp (fq s.cs)).length),(fh s.ro=fh (oS (fh s.ro))),(s.ro.length=(oS (fh s.ro)).length),(s.cs.length<=1000000),(s.ro.length<=1000000),(s.cs.length<=100000),(∀(c:gH),c∈gp (fq s.cs)->c.rs.length<=100000)],
   .to .normal (eF [(1,.ptr (some (3,0))),(2,.ptr (some (4,0))),(3,.dO false (s.cs.length) (lJ (eV { cs:=gp (fq s.cs),ro:=oS (fh s.ro) }))),(4,.dj (some (5,0)) 0 0 3)] (hL [(3,.cells [.dO false (s.cs.length) (fq s.cs),.dO false (s.ro.length) (fh s.ro)]),(4,.cells [.dj none 0 0 0,.dj none 0 0 0]),(5,.cells [])]) 6))]
 :=cQ.of U U U
section
variable(s:RS)(u:Int)(bs:List Bool)(n i m:Nat)(cs:ai)
theorem aoq:c6 Ev [] 3 Tryz.f32 [1,2,3,4,5] (dK (dK (de 3 OO))) (sKm s bs n m cs []) [([],
   [],
   .to .normal (sKm s bs n m cs [(5,iW 0)]))]
 :=cQ.of U U U
abbrev Sz:Prop:=V.int aj (IntKind.i64.wrap (Int.ofNat i+(1:Int)))=iW (i+1)
theorem ags(i:Nat)(c:gH)(b:Bool):c6 Ev [(13,.split),(18,.dc (.dm [.bool b])),(19,.split),(24,.dc (.dm c.d)),(15,.dc (iW (i+1)))] 3 Tryz.f32 [1,2,3,4,5] (aoo) (sKm s bs n m cs [(5,iW i)]) [([((decide (Int.ofNat i<(Int.ofNat s.cs.length))),true),(b,true)],
   [((0:Int)<=Int.ofNat i/\Int.ofNat i<(Int.ofNat n)),((lJ bs).length=n*1),(V.dm (dx (lJ bs) (i*1) 1)=V.dm [D.bool b]),((0:Int)<=Int.ofNat i/\Int.ofNat i<(Int.ofNat s.cs.length)),((fq s.cs).length=s.cs.length*3),(V.dm (dx (fq s.cs) (i*3) 3)=V.dm c.d),(0+m*3<=cs.length),(0<1),(eT (m+1) 3 56=true),Sz i],
   .to .normal (eF [(1,.ptr (some (3,0))),(2,.ptr (some (4,0))),(3,.dO false n (lJ bs)),(4,.dj (some (5,0)) (m+1) (m+1) 3),(5,.int .i64 (Int.ofNat (i+1)))] (hL [(3,.cells [.dO false (s.cs.length) (fq s.cs),.dO false (s.ro.length) (fh s.ro)]),(4,.cells [.dj none 0 0 0,.dj none 0 0 0]),(5,.deep (List.take (m*3) (List.drop 0 cs)++[D.str c.dg,D.str c.da,D.dO c.rs.length (strs c.rs)]))]) 6)),
  ([((decide (Int.ofNat i<(Int.ofNat s.cs.length))),true),(b,false)],
   [((0:Int)<=Int.ofNat i/\Int.ofNat i<(Int.ofNat n)),((lJ bs).length=n*1),(V.dm (dx (lJ bs) (i*1) 1)=V.dm [D.bool b]),Sz i],
   .to .normal (eF [(1,.ptr (some (3,0))),(2,.ptr (some (4,0))),(3,.dO false n (lJ bs)),(4,.dj (some (5,0)) m m 3),(5,.int .i64 (Int.ofNat (i+1)))] (hL [(3,.cells [.dO false (s.cs.length) (fq s.cs),.dO false (s.ro.length) (fh s.ro)]),(4,.cells [.dj none 0 0 0,.dj none 0 0 0]),(5,.deep cs)]) 6)),
  ([((decide (Int.ofNat i<(Int.ofNat s.cs.length))),false)],
   [],
   .to (.exit 0) (eF [(1,.ptr (some (3,0))),(2,.ptr (some (4,0))),(3,.dO false n (lJ bs)),(4,.dj (some (5,0)) m m 3),(5,.int .i64 (Int.ofNat i))] (hL [(3,.cells [.dO false (s.cs.length) (fq s.cs),.dO false (s.ro.length) (fh s.ro)]),(4,.cells [.dj none 0 0 0,.dj none 0 0 0]),(5,.deep cs)]) 6))]
 :=cQ.of U U U
theorem aor(i:Nat):c6 Ev [] 3 Tryz.f32 [] (ee (de 3 OO)) (sKm s bs n m cs [(5,iW i)]) [([],
   [],
   .ret (.agg [.dj (some (3,0)) m m 3,.dO false (s.ro.length) (fh s.ro)]) (hL [(3,.deep cs)]) 4)]
 :=cQ.of U U U
theorem aos:c6 Ev [] 3 Tryz.f33 [1,3] (eR 2 G7) (cS [s.v] .nil 3) [([],
   [],
   .to .normal (OP s 0 []))]
 :=cQ.of U U U
theorem aot:c6 Ev [] 3 Tryz.f33 [1,3,4] (dK (dK (de 2 G7))) (OP s u []) [([],
   [],
   .to .normal (OP s u [(4,iW 0)]))]
 :=cQ.of U U U
theorem agt(c:gH):c6 Ev [(10,.split),(18,.dc (.dm c.d)),(26,.dc (.dm c.d)),(12,.dc (iW (i+1)))] 3 Tryz.f33 [1,3,4] (dw (dw (ee (dK (de 2 G7))))) (OP s u [(4,iW i)]) [([((decide (Int.ofNat i<(Int.ofNat s.cs.length))),true)],
   [((0:Int)<=Int.ofNat i/\Int.ofNat i<(Int.ofNat s.cs.length)),((fq s.cs).length=s.cs.length*3),(V.dm (dx (fq s.cs) (i*3) 3)=V.dm c.d),((0:Int)<=Int.ofNat i/\Int.ofNat i<(Int.ofNat s.cs.length)),((fq s.cs).length=s.cs.length*3),(V.dm (dx (fq s.cs) (i*3) 3)=V.dm c.d),(V.int aj (IntKind.i64.wrap (Int.ofNat i+(1:Int)))=iW (i+1))],
   .to .normal (eF [(1,.ptr (some (3,0))),(3,.int .i64 (IntKind.i64.wrap (IntKind.i64.wrap (IntKind.i64.wrap (u+(64:Int))+(Int.ofNat c.da.length))+IntKind.i64.wrap ((32:Int)*(Int.ofNat c.rs.length))))),(4,.int .i64 (Int.ofNat (i+1)))] (hL [(3,.cells [.dO false (s.cs.length) (fq s.cs),.dO false (s.ro.length) (fh s.ro)])]) 4)),
  ([((decide (Int.ofNat i<(Int.ofNat s.cs.length))),false)],
   [],
   .to (.exit 0) (eF [(1,.ptr (some (3,0))),(3,.int .i64 u),(4,.int .i64 (Int.ofNat i))] (hL [(3,.cells [.dO false (s.cs.length) (fq s.cs),.dO false (s.ro.length) (fh s.ro)])]) 4))]
 :=cQ.of U U U
theorem aou:c6 Ev [] 3 Tryz.f33 [1,3,5] (dK (dK (de 3 G7))) (OP s u [(4,iW i)]) [([],
   [],
   .to .normal (OP s u [(5,iW 0)]))]
 :=cQ.of U U U
theorem agu(p q:aa):c6 Ev [(36,.split),(44,.dc (.dm [.str p,.str q])),(38,.dc (iW (i+1)))] 3 Tryz.f33 [1,3,5] (dw (dw (ee (dK (de 3 G7))))) (OP s u [(5,iW i)]) [([((decide (Int.ofNat i<(Int.ofNat s.ro.length))),true)],
   [((0:Int)<=Int.ofNat i/\Int.ofNat i<(Int.ofNat s.ro.length)),((fh s.ro).length=s.ro.length*2),(V.dm (dx (fh s.ro) (i*2) 2)=V.dm [D.str p,D.str q]),(V.int aj (IntKind.i64.wrap (Int.ofNat i+(1:Int)))=iW (i+1))],
   .to .normal (eF [(1,.ptr (some (3,0))),(3,.int .i64 (IntKind.i64.wrap (IntKind.i64.wrap (u+(96:Int))+(Int.ofNat p.length)))),(5,.int .i64 (Int.ofNat (i+1)))] (hL [(3,.cells [.dO false (s.cs.length) (fq s.cs),.dO false (s.ro.length) (fh s.ro)])]) 4)),
  ([((decide (Int.ofNat i<(Int.ofNat s.ro.length))),false)],
   [],
   .to (.exit 2) (eF [(1,.ptr (some (3,0))),(3,.int .i64 u),(5,.int .i64 (Int.ofNat i))] (hL [(3,.cells [.dO false (s.cs.length) (fq s.cs),.dO false (s.ro.length) (fh s.ro)])]) 4))]
 :=cQ.of U U U
theorem aov:c6 Ev [] 3 Tryz.f33 [] (de 4 G7) (OP s u [(5,iW i)]) [([],
   [],
   .ret (.int .i64 u) (hL []) 3)]
 :=cQ.of U U U
end
def jH:List gH->List Bool->List gH
 |c::l,b::bs=>if b=true then c::jH l bs else jH l bs
 |_,_=>[]
def eS(s:RS):RS:=⟨jH s.cs (eV s),s.ro⟩
def wI(c:gH):Int:=64+c.da.length+32*c.rs.length
def xZ(p:aa×aa):Int:=96+p.1.length
def tM(s:RS):Int:=(s.cs.map wI).sum+(s.ro.map xZ).sum
theorem zx(s:RS):(eV s).length=s.cs.length:=by unfold eV;rw[MV,bK]
theorem Dy{bs:List Bool}{i:Nat}(h:i<bs.length):dx (lJ bs) (i*1) 1=[D.bool bs[i]]:=by
 unfold dx lJ;rw[bk,<- List.map_drop,bF h];rfl
theorem V5{gr:List gH}(c:gH):List.take (gr.length*3) (List.drop 0 (fq gr))++[D.str c.dg,D.str c.da,D.dO c.rs.length (strs c.rs)]=fq (gr++[c]):=by
 rw[bw,br (by rw[kC];omega),MS];rfl
section
variable(s:RS)
theorem aow(h1:s.cs.length<=100000)(h2:s.ro.length<=1000000)(h3:∀c∈s.cs,c.rs.length<=100000):TG ak 3 Tryz.f32.ntmps OO (cS [s.v] .nil 3) (fG ak 3 Tryz.f32 (nG (eS s).v)):=by
 have z8:∀a∈[True,True,True,True,s.cs.length<=1000000,s.ro.length<=1000000,s.cs.length<=100000,∀(c:gH),c∈s.cs->c.rs.length<=100000],a:=fm trivial (fm trivial (fm trivial (fm trivial (fm be (fm h2 (fm h1 (eU h3)))))));obtain⟨L1,BA⟩:=aop s;simp only[jr,pC]at BA;refine mA 3 ON mo U BA z8 ?_;have hkr:(eS s).v=RS.v ⟨jH s.cs (eV s),s.ro⟩:=rfl;rw[hkr];have Oz:=zx s;show TG _ _ _ _ (eF [(1,.ptr (some (3,0))),(2,.ptr (some (4,0))),(3,.dO false s.cs.length (lJ (eV s))),(4,.dj (some (5,0)) 0 0 3)] (hL [(3,bx s),(4,o58),(5,.cells [])]) 6) _;generalize eV s=bs at Oz ⊢;refine(gC.deep [5] (S:=sKm s bs s.cs.length 0 (fq []) []) U) _ _ ?_;show TG _ _ _ (de 3 OO) _ _;refine cV U ?_;refine cV U ?_;refine fZ ON (aoq s bs s.cs.length 0 (fq [])) (dG ?_);refine⟨cR,fun s' dL=>?_⟩;refine jC (α:=List gH×Nat) 0 (fun a=>s.cs.length-a.2) (fun a=>a.2<=s.cs.length/\a.1.length<=a.2/\a.1++jH (s.cs.drop a.2) (bs.drop a.2)=jH s.cs bs) (fun a=>sKm s bs s.cs.length a.1.length (fq a.1) [(5,iW a.2)]) U U ([],0) ⟨aZ _,aA _,by rw[bw,bw];rfl⟩ (.norm dL) fun a ⟨a1,a2,a3⟩=>?_;obtain⟨gr,i⟩:=a;simp only at a1 a2 a3;have rJ:=kC s.cs;have hal:=kC gr;rcases bP i s.cs.length with hi|zJ
 . have kj:=aM V.dm (vB s.cs i hi);have LD:=aM V.dm (Dy (bs:=bs) (i:=i) be);rw[bF hi,bF (show i<bs.length by omega)]at a3;generalize s.cs[i]=c at kj a3;generalize bs[i]'(by omega)=b at LD a3;have hb:((0:Int)<=Int.ofNat i/\Int.ofNat i<(Int.ofNat s.cs.length)):=⟨az _,dh⟩;have zv:V.int aj (IntKind.i64.wrap (Int.ofNat i+(1:Int)))=iW (i+1):=pA dh be;obtain⟨L3,wv⟩:=ags s bs s.cs.length gr.length (fq gr) i c b;rw[V5]at wv;refine gh ON mo kS U wv fun g hg hc=>?_;rcases xP hg with rfl|rfl|rfl
   . have c2:b=true:=hc _ (aJ _ (aq.2 rfl));rw[jH,aG c2]at a3;refine⟨fm (hb) (fm (by rw[rj];omega) (fm (LD) (fm (hb) (fm (rJ) (fm (kj) (fm be (fm dU (fm (Dw be) (eU (zv)))))))))),fun s1 fS=>⟨(gr++[c],i+1),by show s.cs.length-(i+1)<_;omega,⟨by show i+1<=_;omega,by show(gr++[c]).length<=i+1;rw[ax];simp;omega,by rw[<- a3,bB];rfl⟩,?_⟩⟩;show gC _ _ _ _ (sKm s bs s.cs.length (gr++[c]).length (fq (gr++[c])) [(5,iW (i+1))]);rw[ax];exact .norm fS
   . have c2:b=false:=hc _ (aJ _ (aq.2 rfl));rw[jH,aI (by rw[c2];decide)]at a3;exact⟨fm (hb) (fm (by rw[rj];omega) (fm (LD) (eU (zv)))),fun s1 fS=>⟨(gr,i+1),by show s.cs.length-(i+1)<_;omega,⟨by show i+1<=_;omega,by show gr.length<=i+1;omega,a3⟩,.norm fS⟩⟩
   . exact absurd (aK (hc _ (aq.2 rfl))) dh
 . obtain rfl:i=s.cs.length:=by omega
   rw[List.drop_length,show jH [] (bs.drop s.cs.length)=[]from rfl,cu]at a3;refine fZ ON (ags s bs s.cs.length gr.length (fq gr) s.cs.length ⟨[],[],[]⟩ true) fun g hg hc=>?_;rcases xP hg with rfl|rfl|rfl
   . exact absurd (aH (hc _ (aP ..))) dh
   . exact absurd (aH (hc _ (aP ..))) dh
   refine⟨cR,fun s1 fS=>?_⟩;simp only[andThen,dX];refine c5 fS ?_;rw[<- a3];refine fB ON (aor s bs s.cs.length gr.length (fq gr) s.cs.length) (dG ?_);exact⟨cR,_,_,_,rfl,[[3]],[(fq gr).length=gr.length*3],{ fr:=Tr.nil.set 0 (some (RS.v ⟨gr,s.ro⟩)),h:=(hL [(3,.deep (fq gr))]).set 3 none,n:=4,gz:=[] },U,eU (kC _),U⟩
theorem Jc{α:Type}{f:α->Int}{l:List α}{i:Nat}(h:i<l.length):((l.take (i+1)).map f).sum=((l.take i).map f).sum+f l[i]:=by
 rw[bJ,ay h,cD,aX,List.sum_append];simp
theorem Ax{α:Type}{f:α->Int}{B:Int}(hB:0<=B):∀{l:List α},(∀x∈l,0<=f x/\f x<=B)->0<=(l.map f).sum/\(l.map f).sum<=B*l.length
 | [],_=>by simp
 |x::l,h=>by
  have ih:=Ax hB (l:=l) fun y hy=>h y (aJ _ hy);have h1:=h x (aP ..);rw[bN,List.sum_cons,aS];have:B*((l.length+1:Nat):Int)=B*l.length+B:=by rw[Int.natCast_add,Int.mul_add];simp
  omega
theorem aox(h1:s.cs.length<=100000)(h2:s.ro.length<=100000)(h3:∀c∈s.cs,c.da.length<=100000/\c.rs.length<=2000)(h4:∀p∈s.ro,p.1.length<=100000):TG ak 3 Tryz.f33.ntmps G7 (cS [s.v] .nil 3) (fG ak 3 Tryz.f33 fun u _ _=>u= .int .i64 (tM s)):=by
 have hC:∀i,0<=((s.cs.take i).map wI).sum/\((s.cs.take i).map wI).sum<=20000000000:=fun i=>by
  have hb:=Ax (f:=wI) (B:=200000) dU (l:=s.cs.take i) fun c hc=>by
   have:=h3 c (List.mem_of_mem_take hc);unfold wI;omega
  have:(s.cs.take i).length<=100000:=by rw[bg];omega
  omega
 have hE:∀i,0<=((s.ro.take i).map xZ).sum/\((s.ro.take i).map xZ).sum<=20000000000:=fun i=>by
  have hb:=Ax (f:=xZ) (B:=200000) dU (l:=s.ro.take i) fun c hc=>by
   have:=h4 c (List.mem_of_mem_take hc);unfold xZ;omega
  have:(s.ro.take i).length<=100000:=by rw[bg];omega
  omega
 refine iL  2 ON (aos s) cR ?_;show TG _ _ _ (de 2 G7) _ _;refine cV U ?_;refine cV U ?_;refine fZ ON (aot s 0) (dG ?_);refine⟨cR,fun s' dL=>?_⟩;refine jq 0 s.cs.length (fun i=>OP s ((s.cs.take i).map wI).sum [(4,iW i)]) U U (.norm dL) (fun i hi=>?_) ?_
 . have kj:=aM V.dm (vB s.cs i hi);have hn:=Jc (f:=wI) hi;have yA:=hC i;have HG:=hC (i+1);have hm:=h3 _ (bY hi);show TG _ _ _ _ _ (andThen (fun s'=>gC ak 3 Tryz.f33.ntmps s' (OP s ((s.cs.take (i+1)).map wI).sum [(4,iW (i+1))])) _);rw[hn]at HG ⊢;generalize s.cs[i]=c at kj hm HG ⊢;generalize ((s.cs.take i).map wI).sum=u at yA HG ⊢;have hb:((0:Int)<=Int.ofNat i/\Int.ofNat i<(Int.ofNat s.cs.length)):=⟨az _,dh⟩;obtain⟨L3,wv⟩:=agt s u i c;have e:IntKind.i64.wrap (IntKind.i64.wrap (IntKind.i64.wrap (u+(64:Int))+(Int.ofNat c.da.length))+IntKind.i64.wrap ((32:Int)*(Int.ofNat c.rs.length)))=u+wI c:=by
    unfold wI at *;simp only[kU];rw[fH (x:=u+64) be be,fH (x:=u+64+_) be be,fH (x:=32*_) be be,fH be be];omega
   rw[e]at wv;refine gh ON mo kS U wv fun g hg hc=>?_;rcases jk hg with rfl|rfl
   . exact⟨fm (hb) (fm (kC _) (fm (kj) (fm (hb) (fm (kC _) (fm (kj) (eU (pA dh be))))))),fun s1 fS=>.norm fS⟩
   . exact absurd (aK (hc _ (aq.2 rfl))) dh
 refine fZ ON (agt s ((s.cs.take s.cs.length).map wI).sum s.cs.length ⟨[],[],[]⟩) fun g hg hc=>?_;rcases jk hg with rfl|rfl
 . exact absurd (aH (hc _ (aq.2 rfl))) dh
 refine⟨cR,fun s1 fS=>⟨by simp,?_⟩⟩;rw[dX];have Hl:=hC s.cs.length;rw[aW]at fS Hl;refine(gC.norm (S:=OP s (s.cs.map wI).sum [(4,iW s.cs.length)]) fS) _ _ ?_;unfold tM;generalize (s.cs.map wI).sum=u0 at Hl ⊢;show TG _ _ _ (de 3 G7) _ _;refine cV U ?_;refine cV U ?_;refine fZ ON (aou s u0 s.cs.length) (dG ?_);refine⟨cR,fun s2 jg=>?_⟩;refine jq 2 s.ro.length (fun i=>OP s (u0+((s.ro.take i).map xZ).sum) [(5,iW i)]) U U (.norm (by rw[jg];simp)) (fun i hi=>?_) ?_
 . have kj:=aM V.dm (Dt s.ro i hi);have hn:=Jc (f:=xZ) hi;have yA:=hE i;have HG:=hE (i+1);have hm:=h4 _ (bY hi);show TG _ _ _ _ _ (andThen (fun s'=>gC ak 3 Tryz.f33.ntmps s' (OP s (u0+((s.ro.take (i+1)).map xZ).sum) [(5,iW (i+1))])) _);rw[hn]at HG ⊢;generalize s.ro[i]=p at kj hm HG ⊢;generalize ((s.ro.take i).map xZ).sum=u at yA HG ⊢;have hb:((0:Int)<=Int.ofNat i/\Int.ofNat i<(Int.ofNat s.ro.length)):=⟨az _,dh⟩;obtain⟨L5,uj⟩:=agu s (u0+u) i p.1 p.2;have e:IntKind.i64.wrap (IntKind.i64.wrap (u0+u+(96:Int))+(Int.ofNat p.1.length))=u0+(u+xZ p):=by
    unfold xZ at *;simp only[kU];rw[fH (x:=u0+u+96) be be,fH be be];omega
   rw[e]at uj;refine gh ON mo kS U uj fun g hg hc=>?_;rcases jk hg with rfl|rfl
   . exact⟨fm (hb) (fm (ny _) (fm (kj) (eU (pA dh be)))),fun s3 x9=>.norm x9⟩
   . exact absurd (aK (hc _ (aq.2 rfl))) dh
 refine fZ ON (agu s (u0+((s.ro.take s.ro.length).map xZ).sum) s.ro.length [] []) fun g hg hc=>?_;rcases jk hg with rfl|rfl
 . exact absurd (aH (hc _ (aq.2 rfl))) dh
 refine⟨cR,fun s3 x9=>⟨by simp,?_⟩⟩;rw[dX];refine c5 x9 ?_;refine fB ON (aov s (u0+((s.ro.take s.ro.length).map xZ).sum) s.ro.length) (dG ?_);exact⟨cR,_,_,_,rfl,by rw[aW]⟩
end
def LG:ai->Option (ah×V)
 | [.agg [.dO n cs,.dO m rs]]=>some (I7 n cs m rs++[n<=100000,∀c∈gp cs,c.rs.length<=100000],(eS ⟨gp cs,oS rs⟩).v)
 |_=>none
def LH:ai->Option (ah×V)
 | [.agg [.dO n cs,.dO m rs]]=>some (I7 n cs m rs++[n<=100000,m<=100000,∀c∈gp cs,c.da.length<=100000/\c.rs.length<=2000,∀p∈oS rs,p.1.length<=100000],.int .i64 (tM ⟨gp cs,oS rs⟩))
 |_=>none
theorem SA(s:RS):s.v.deep=true:=rfl
theorem SB:jL ak 32 (Go.Eng.dW LG):=by
 refine vk (au U) fun args A v e hA=>?_;unfold LG at e;split at e
 case h_2=>cases e
 rename_i n cs m rs;simp only[an,aB]at e;obtain⟨rfl,rfl⟩:=e;have hB:=fun a ha=>hA a (bZ _ ha);have hC:=fun a ha=>hA a (cJ _ ha);obtain⟨s,h1,h2,h3,h4,h5,h6,h7,h8⟩:=tL hC;have b1:n<=100000:=hB (n<=100000) (by simp);have b2:∀c∈gp cs,c.rs.length<=100000:=hB (∀c∈gp cs,c.rs.length<=100000) (by simp);rw[h7]at b2;rw[h7,h8];clear h7 h8 hA hB hC;subst h1 h2 h3 h4;exact gU mo po Tryz.func32 U U rfl (SA _) (aow s b1 h6 b2)
theorem SC:jL ak 33 (Go.Eng.dW LH):=by
 refine vk (au U) fun args A v e hA=>?_;unfold LH at e;split at e
 case h_2=>cases e
 rename_i n cs m rs;simp only[an,aB]at e;obtain⟨rfl,rfl⟩:=e;have hB:=fun a ha=>hA a (bZ _ ha);have hC:=fun a ha=>hA a (cJ _ ha);obtain⟨s,h1,h2,h3,h4,h5,h6,h7,h8⟩:=tL hC;have b1:n<=100000:=hB (n<=100000) (by simp);have b2:m<=100000:=hB (m<=100000) (by simp);have b3:∀c∈gp cs,c.da.length<=100000/\c.rs.length<=2000:=hB (∀c∈gp cs,c.da.length<=100000/\c.rs.length<=2000) (by simp);have b4:∀p∈oS rs,p.1.length<=100000:=hB (∀p∈oS rs,p.1.length<=100000) (by simp);rw[h7]at b3;rw[h8]at b4;rw[h7,h8];clear h7 h8 hA hB hC;subst h1 h2 h3 h4;exact gU mo po Tryz.func33 U U rfl rfl (ff (aox s b1 b2 b3 b4) fun y s h=>kg h)
noncomputable abbrev W27:jQ:=kB 33 (Go.Eng.dW LH) (kB 32 (Go.Eng.dW LG) W26)
theorem SD:gd ak W27:=fk SC (fk SB Sy)
noncomputable abbrev agv:fb:=gI ak W27 H0 1000 40
noncomputable abbrev X27:CX ak:=CX.of mo po SD H0 1000 40
theorem aoz:c6 agv [] 3 Tryz.f26 [] (dP Tryz.f26) (cS [] (D0 gS gR) 3) [([],
   [],
   .ret (.ptr (some (3,0))) (hL [(0,.ints .u32 gS),(1,.ints .u32 gR),(3,.cells [.ptr (some (4,0)),.dj (some (7,0)) 1 1 2]),(4,.cells [.dj none 0 0 0,.int .i64 0,.map (some 5),.map (some 6),.int .i64 0,.bool false,.bool false,.int .i64 0]),(5,.map [] 0),(6,.map [] 0),(7,.cells [.dj none 0 0 0,.dj none 0 0 0])]) 8)]
 :=cQ.of U U U
theorem aoA(z:Int)(m:Nat):c6 agv [(4,.dc (.int .u8 (Int.ofNat m))),(6,.dc (.int .u8 (Int.ofNat m))),(7,.dc (.int .u8 (Int.ofNat (m+1))))] 3 Tryz.f91 [] (dP Tryz.f91) (cS [.int .u8 z] .nil 3) [([],
   [(V.int IntKind.u8 (z.tmod (5:Int))=V.int IntKind.u8 (Int.ofNat m)),(V.int IntKind.u8 (z.tmod (5:Int))=V.int IntKind.u8 (Int.ofNat m)),(V.int IntKind.u8 (IntKind.u8.wrap (Int.ofNat m+(1:Int)))=V.int IntKind.u8 (Int.ofNat (m+1))),((0:Int)<=Int.ofNat (m+1)/\Int.ofNat (m+1)<=(5:Int)),((0:Int)<=Int.ofNat m/\Int.ofNat m<=(Int.ofNat (m+1)))],
   .ret (.str (List.drop m (List.take (m+1) ([(97:UInt8),(98:UInt8),(99:UInt8),(100:UInt8),(101:UInt8)]:aa)))) (hL []) 3)]
 :=cQ.of U U U
def RS.cells(s:RS):ai:=[.dO s.cs.length (fq s.cs),.dO s.ro.length (fh s.ro)]
def gq(l:List RS):ai:=(l.map RS.cells).flatten
section
variable(cO cP:Nat)(lg:aa)(fl nx:Int)(es rt:ae)(l:List RS)
end
def SE:aa:=[109,105,115,115,105,110,103]
theorem Dz:29<Tryz.prog.funcs.size:=au U
theorem Yw:69<Tryz.prog.funcs.size:=au U
section
variable(l:List RS)(s:RS)
theorem sE:(gq l).length=l.length*2:=sw (f:=RS.cells) (w:=2) (fun _=>rfl) l
theorem DA(i:Nat)(h:i<l.length):dx (gq l) (i*2) 2=l[i].cells:=vA (f:=RS.cells) (w:=2) (fun _=>rfl) l i h
theorem DB:0+l.length*2+2<=(gq (l++[s])).length/\V.agg (D.lT (dx (gq (l++[s])) (0+l.length*2) 2))=s.v:=by
 refine⟨by rw[sE,ax];simp;omega,?_⟩;rw[bI,DA _ l.length (by rw[ax];simp),List.getElem_append_right (aA _)];simp only[Nat.sub_self,List.getElem_cons_zero];rfl
theorem SF(hl:l.length<=1000000):V.int aj (IntKind.i64.wrap ((Int.ofNat (l++[s]).length)-(1:Int)))=iW l.length/\((0:Int)<=Int.ofNat l.length/\Int.ofNat l.length<(Int.ofNat (l++[s]).length)):=by
 have e:(l++[s]).length=l.length+1:=by rw[ax];rfl
 rw[e];exact⟨aM _ (by rw[fH dh dh,kU,kU];omega),az _,dh⟩
def OQ:aa:=dM SE (dH [])
theorem SG:OQ.length=32:=KK _ _
theorem V6(h:Tr O)(n:Nat):cU ak 69 [.str SE,eI] h n (.str OQ) h n:=by
 intro E w c9 ra g hd;refine Sk.2 _ h n [([]:ai)=strs (dH []),0=(dH []).length,0<=100000,(eH (SE::dH [])).length<=1000000000] _ _ _ rfl ?_ E w c9 ra g hd U;exact fm rfl (fm rfl (fm (aZ _) (eU (au U))))
def kL(z:Nat):aa:=if h:z%(s.cs.length+1)<s.cs.length then(s.cs[z%(s.cs.length+1)]).dg else OQ
end
section
variable(cO cP:Nat)(lg:aa)(fl nx:Int)(es rt:ae)(l:List RS)(s:RS)
theorem V7{z:Nat}(hz:z<=255)(hs:s.cs.length<=1000000):V.int aj (IntKind.i64.wrap ((Int.ofNat s.cs.length)+(1:Int)))=iW (s.cs.length+1)/\Int.ofNat (s.cs.length+1)≠(0:Int)/\V.int aj ((IntKind.i64.wrap (z:Int)).tmod (Int.ofNat (s.cs.length+1)))=iW (z%(s.cs.length+1)):=by
 refine⟨pA dh be,dh,aM (V.int aj) ?_⟩;rw[fH be be,kU,cB be];rfl
end
theorem agw:66<Tryz.prog.funcs.size:=au U
theorem abr(cO cP:Nat)(b:aa)(fl nx lf:Int)(es rt:ae):cU ak 66 [P3] (eu (pS cO cP b fl nx lf es rt)) 7 (.int .i64 0) (eu (pS cO cP b (Int.ofNat cO) nx lf es rt)) 7:=by
 refine c7 Tryz.func66 (code:=Vk) U U ?_;refine fB uq (ami cO cP b fl nx lf es rt) (dG ?_);exact⟨cR,_,_,_,rfl,rfl,rfl,rfl⟩
theorem V8(fl nx lf:Int)(es rt:ae):cU ak 66 [P3] (eu (pN fl nx lf es rt)) 7 (.int .i64 0) (eu (pN 0 nx lf es rt)) 7:=by
 refine c7 Tryz.func66 (code:=Vk) U U ?_;refine fB uq (amj fl nx lf es rt) (dG ?_);exact⟨cR,_,_,_,rfl,rfl,rfl,rfl⟩
section
variable(l:List RS)(s:RS)
end
def MY(k:Nat):aa:=List.drop (k%5) (List.take (k%5+1) [97,98,99,100,101])
theorem V9(k:Nat):(MY k).length=1:=by
 unfold MY;rw[bX,bg];have:=Nat.mod_lt k (show 0<5 by decide);show min (k%5+1) 5-k%5=1;omega
def LI:ag->Option (ah×V)
 | [.int .u8 z]=>some ([0<=z/\z<=255],.str (MY z.toNat))
 |_=>none
theorem SH:jL ak 91 (jO LI):=by
 refine kf (au U) fun args A v e=>?_;unfold LI at e;split at e
 . rename_i z;obtain⟨rfl,rfl⟩:=fc e;refine⟨rfl,rfl,fun hA=>gT mo po Tryz.func91 (code:=dP Tryz.f91) U U rfl ?_⟩;have hz:=hA (0<=z/\z<=255) (by simp);obtain⟨k,rfl⟩:=Int.eq_ofNat_of_zero_le hz.1;have hm:=Nat.mod_lt k (show 0<5 by decide);obtain⟨L,hr⟩:=aoA k (k%5);have e1:V.int IntKind.u8 ((k:Int).tmod (5:Int))=V.int IntKind.u8 (Int.ofNat (k%5)):=aM _ (by rw[cB be];rfl);have e2:V.int IntKind.u8 (IntKind.u8.wrap (Int.ofNat (k%5)+(1:Int)))=V.int IntKind.u8 (Int.ofNat (k%5+1)):=aM _ (by
    show(Int.ofNat (k%5)+1)%256=_;rw[kU,kU];omega)
   refine gY X27 mo _ U hr (dG ?_);exact⟨fm e1 (fm e1 (fm e2 (fm ⟨az _,dh⟩ (eU ⟨az _,dh⟩)))),_,_,_,rfl,rfl⟩
 . cases e
noncomputable abbrev W28:jQ:=kB 91 (jO LI) W27
theorem SI:gd ak W28:=fk SH SD
noncomputable abbrev gu:fb:=gI ak W28 H0 1000 40
noncomputable abbrev k9:CX ak:=CX.of mo po SI H0 1000 40
noncomputable abbrev tN:Code:=dP Tryz.f64
def rI(a b c:Int)(d:aa):V:=.agg [.int .u8 a,.int .u8 b,.int .u8 c,.str d]
def l5(a b c:Int)(d:aa):O:=.cells [.int .u8 a,.int .u8 b,.int .u8 c,.str d]
section
variable(cO cP:Nat)(lg:aa)(fl nx:Int)(es rt:ae)(l:List RS)(a b c:Int)(d:aa)(ps:List (aa))
end
end Go.Proofs.YtfihojpgobmmdaaGreatDoor
