/- Lemmas on the chunk store. No conditions. -/
import Derived.Test.YtfihojpgobmmdaaGreatDoorJointW16
import Derived.Test.YtfihojpgobmmdaaGreatDoorJointW15
import Derived.Shelf.SlicesG.Clone
set_option linter.unusedVariables false
set_option linter.unusedSimpArgs false
set_option linter.unusedSectionVars false
set_option maxRecDepth 20000
namespace Go.Proofs.YtfihojpgobmmdaaGreatDoor
open Go Go.Eng
noncomputable abbrev OR:Code:=dN Tryz.f110
noncomputable abbrev VE:Code:=dh 3 OR
noncomputable abbrev afF:Code:=dP VE
noncomputable abbrev amB:Code:=dz (dz (dY afF))
abbrev PF:V:=.ptr (some (3,0))
section
variable(s:L)(a:Nat)(u:Int)(m i:Nat)(b:UInt8)
abbrev G7(f:Bool):ag:=[.str s,.int .i64 (Int.ofNat a),.bool f]
def uS(i:Nat):Int:=IntKind.u64.wrap (Int.ofNat (BitVec.ofInt 64 u|||BitVec.ofInt 64 (IntKind.u64.wrap (IntKind.u64.wrap (IntKind.u8.wrap (Int.ofNat (BitVec.ofInt 8 (Int.ofNat b.toNat)&&&BitVec.ofInt 8 (127:Int)).toNat))*(2:Int)^min (Int.ofNat (7*i)).toNat 64))).toNat)
def YX:St:=eG [(0,PF),(3,.int .u64 u),(16,.int .i64 (Int.ofNat m)),(17,.int .i64 (Int.ofNat i))] (hP (G7 s a false)) 4
theorem afG(a:Int):c9 (kS []) [] 4 Tryz.f110 [] (OR) (cU [PF] (hP [.str s,.int .i64 a,.bool true]) 4) [([],
   [],
   .ret (.int .i64 0) (J [(3,.cells [.str s,.int .i64 a,.bool true])]) 4)]
 :=cR.of U U U
theorem afH:c9 (kS []) [] 4 Tryz.f110 [0,3] (eV 3 OR) (cU [PF] (hP (G7 s a false)) 4) [([],
   [],
   .to .normal (eG [(0,.ptr (some (3,0))),(3,.int .u64 0)] (J [(3,.cells [.str s,.int .i64 (Int.ofNat a),.bool false])]) 4))]
 :=cR.of U U U
theorem afI:c9 (kS []) [(16,.di (.int .i64 (Int.ofNat m))),(17,.di (.int .i64 (Int.ofNat 0)))] 4 Tryz.f110 [0,3,16,17] (dP afF) (eG [(0,PF),(3,.int .u64 0)] (hP (G7 s a false)) 4) [([],
   [(V.int aj (if IntKind.i64.wrap ((Int.ofNat s.length)-Int.ofNat a)<(10:Int)then IntKind.i64.wrap ((Int.ofNat s.length)-Int.ofNat a)else(10:Int))=V.int aj (Int.ofNat m)),(V.int aj (0:Int)=V.int aj (0:Int))],
   .to .normal (eG [(0,.ptr (some (3,0))),(3,.int .u64 0),(16,.int .i64 (Int.ofNat m)),(17,.int .i64 0)] (J [(3,.cells [.str s,.int .i64 (Int.ofNat a),.bool false])]) 4))]
 :=cR.of U U U
abbrev lj(u:Int)(b:UInt8):Prop:=V.int IntKind.u64 (IntKind.u64.wrap (Int.ofNat (BitVec.ofInt 64 u|||BitVec.ofInt 64 (IntKind.u64.wrap (IntKind.u64.wrap (IntKind.u8.wrap (Int.ofNat (BitVec.ofInt 8 (Int.ofNat b.toNat)&&&BitVec.ofInt 8 (127:Int)).toNat))*(2:Int)^min (7*i) 64))).toNat))=V.int IntKind.u64 (uS u b i)
abbrev lq:Prop:=V.int IntKind.u8 (Int.ofNat (s.getD (a+i) (0:UInt8)).toNat)=V.int IntKind.u8 (Int.ofNat b.toNat)
theorem afJ(u:Int)(b:UInt8):c9 (kS []) [(18,.split),(29,.di (.int .i64 (Int.ofNat (a+i)))),(30,.di (.int .u8 (Int.ofNat b.toNat))),(36,.di (.int .i64 (Int.ofNat (7*i)))),(38,.di (.int .u64 (uS u b i))),(40,.split),(43,.split),(47,.split),(50,.split),(54,.split),(61,.di (.int .i64 (Int.ofNat (a+(i+1))))),(66,.di (.int .i64 (Int.ofNat (i+1))))] 4 Tryz.f110 [0,3,16,17] (amB) (YX s a u m i) [([((decide (Int.ofNat i<Int.ofNat m)),true),((decide (Int.ofNat b.toNat>=(128:Int))),true)],
   [kY (Int.ofNat a+Int.ofNat i) (a+i),((0:Int)<=Int.ofNat (a+i)/\(a+i)<s.length),lq s a i b,kY ((7:Int)*Int.ofNat i) (7*i),lj i u b,kY (Int.ofNat i+(1:Int)) (i+1)],
   .to .normal (eG [(0,.ptr (some (3,0))),(3,.int .u64 (uS u b i)),(16,.int .i64 (Int.ofNat m)),(17,.int .i64 (Int.ofNat (i+1)))] (J [(3,.cells [.str s,.int .i64 (Int.ofNat a),.bool false])]) 4)),
  ([((decide (Int.ofNat i<Int.ofNat m)),true),((decide (Int.ofNat b.toNat>=(128:Int))),false),((decide (Int.ofNat i>(0:Int))),true),((Int.ofNat b.toNat==(0:Int)),true),(true,true)],
   [kY (Int.ofNat a+Int.ofNat i) (a+i),((0:Int)<=Int.ofNat (a+i)/\(a+i)<s.length),lq s a i b,kY ((7:Int)*Int.ofNat i) (7*i),lj i u b],
   .to (.exit 0) (eG [(0,.ptr (some (3,0))),(3,.int .u64 (uS u b i)),(16,.int .i64 (Int.ofNat m)),(17,.int .i64 (Int.ofNat i))] (J [(3,.cells [.str s,.int .i64 (Int.ofNat a),.bool false])]) 4)),
  ([((decide (Int.ofNat i<Int.ofNat m)),true),((decide (Int.ofNat b.toNat>=(128:Int))),false),((decide (Int.ofNat i>(0:Int))),true),((Int.ofNat b.toNat==(0:Int)),true),(true,false)],
   [kY (Int.ofNat a+Int.ofNat i) (a+i),((0:Int)<=Int.ofNat (a+i)/\(a+i)<s.length),lq s a i b,kY ((7:Int)*Int.ofNat i) (7*i),lj i u b,kY (Int.ofNat a+IntKind.i64.wrap (Int.ofNat i+(1:Int))) (a+(i+1))],
   .ret (.int .i64 (IntKind.i64.wrap (uS u b i))) (J [(3,.cells [.str s,.int .i64 (Int.ofNat (a+(i+1))),.bool false])]) 4),
  ([((decide (Int.ofNat i<Int.ofNat m)),true),((decide (Int.ofNat b.toNat>=(128:Int))),false),((decide (Int.ofNat i>(0:Int))),true),((Int.ofNat b.toNat==(0:Int)),false),((Int.ofNat i==(9:Int)),true),((decide (Int.ofNat b.toNat>(1:Int))),true)],
   [kY (Int.ofNat a+Int.ofNat i) (a+i),((0:Int)<=Int.ofNat (a+i)/\(a+i)<s.length),lq s a i b,kY ((7:Int)*Int.ofNat i) (7*i),lj i u b],
   .to (.exit 0) (eG [(0,.ptr (some (3,0))),(3,.int .u64 (uS u b i)),(16,.int .i64 (Int.ofNat m)),(17,.int .i64 (Int.ofNat i))] (J [(3,.cells [.str s,.int .i64 (Int.ofNat a),.bool false])]) 4)),
  ([((decide (Int.ofNat i<Int.ofNat m)),true),((decide (Int.ofNat b.toNat>=(128:Int))),false),((decide (Int.ofNat i>(0:Int))),true),((Int.ofNat b.toNat==(0:Int)),false),((Int.ofNat i==(9:Int)),true),((decide (Int.ofNat b.toNat>(1:Int))),false)],
   [kY (Int.ofNat a+Int.ofNat i) (a+i),((0:Int)<=Int.ofNat (a+i)/\(a+i)<s.length),lq s a i b,kY ((7:Int)*Int.ofNat i) (7*i),lj i u b,kY (Int.ofNat a+IntKind.i64.wrap (Int.ofNat i+(1:Int))) (a+(i+1))],
   .ret (.int .i64 (IntKind.i64.wrap (uS u b i))) (J [(3,.cells [.str s,.int .i64 (Int.ofNat (a+(i+1))),.bool false])]) 4),
  ([((decide (Int.ofNat i<Int.ofNat m)),true),((decide (Int.ofNat b.toNat>=(128:Int))),false),((decide (Int.ofNat i>(0:Int))),true),((Int.ofNat b.toNat==(0:Int)),false),((Int.ofNat i==(9:Int)),false),(false,true)],
   [kY (Int.ofNat a+Int.ofNat i) (a+i),((0:Int)<=Int.ofNat (a+i)/\(a+i)<s.length),lq s a i b,kY ((7:Int)*Int.ofNat i) (7*i),lj i u b],
   .to (.exit 0) (eG [(0,.ptr (some (3,0))),(3,.int .u64 (uS u b i)),(16,.int .i64 (Int.ofNat m)),(17,.int .i64 (Int.ofNat i))] (J [(3,.cells [.str s,.int .i64 (Int.ofNat a),.bool false])]) 4)),
  ([((decide (Int.ofNat i<Int.ofNat m)),true),((decide (Int.ofNat b.toNat>=(128:Int))),false),((decide (Int.ofNat i>(0:Int))),true),((Int.ofNat b.toNat==(0:Int)),false),((Int.ofNat i==(9:Int)),false),(false,false)],
   [kY (Int.ofNat a+Int.ofNat i) (a+i),((0:Int)<=Int.ofNat (a+i)/\(a+i)<s.length),lq s a i b,kY ((7:Int)*Int.ofNat i) (7*i),lj i u b,kY (Int.ofNat a+IntKind.i64.wrap (Int.ofNat i+(1:Int))) (a+(i+1))],
   .ret (.int .i64 (IntKind.i64.wrap (uS u b i))) (J [(3,.cells [.str s,.int .i64 (Int.ofNat (a+(i+1))),.bool false])]) 4),
  ([((decide (Int.ofNat i<Int.ofNat m)),true),((decide (Int.ofNat b.toNat>=(128:Int))),false),((decide (Int.ofNat i>(0:Int))),false),(false,true),(true,true)],
   [kY (Int.ofNat a+Int.ofNat i) (a+i),((0:Int)<=Int.ofNat (a+i)/\(a+i)<s.length),lq s a i b,kY ((7:Int)*Int.ofNat i) (7*i),lj i u b],
   .to (.exit 0) (eG [(0,.ptr (some (3,0))),(3,.int .u64 (uS u b i)),(16,.int .i64 (Int.ofNat m)),(17,.int .i64 (Int.ofNat i))] (J [(3,.cells [.str s,.int .i64 (Int.ofNat a),.bool false])]) 4)),
  ([((decide (Int.ofNat i<Int.ofNat m)),true),((decide (Int.ofNat b.toNat>=(128:Int))),false),((decide (Int.ofNat i>(0:Int))),false),(false,true),(true,false)],
   [kY (Int.ofNat a+Int.ofNat i) (a+i),((0:Int)<=Int.ofNat (a+i)/\(a+i)<s.length),lq s a i b,kY ((7:Int)*Int.ofNat i) (7*i),lj i u b,kY (Int.ofNat a+IntKind.i64.wrap (Int.ofNat i+(1:Int))) (a+(i+1))],
   .ret (.int .i64 (IntKind.i64.wrap (uS u b i))) (J [(3,.cells [.str s,.int .i64 (Int.ofNat (a+(i+1))),.bool false])]) 4),
  ([((decide (Int.ofNat i<Int.ofNat m)),true),((decide (Int.ofNat b.toNat>=(128:Int))),false),((decide (Int.ofNat i>(0:Int))),false),(false,false),((Int.ofNat i==(9:Int)),true),((decide (Int.ofNat b.toNat>(1:Int))),true)],
   [kY (Int.ofNat a+Int.ofNat i) (a+i),((0:Int)<=Int.ofNat (a+i)/\(a+i)<s.length),lq s a i b,kY ((7:Int)*Int.ofNat i) (7*i),lj i u b],
   .to (.exit 0) (eG [(0,.ptr (some (3,0))),(3,.int .u64 (uS u b i)),(16,.int .i64 (Int.ofNat m)),(17,.int .i64 (Int.ofNat i))] (J [(3,.cells [.str s,.int .i64 (Int.ofNat a),.bool false])]) 4)),
  ([((decide (Int.ofNat i<Int.ofNat m)),true),((decide (Int.ofNat b.toNat>=(128:Int))),false),((decide (Int.ofNat i>(0:Int))),false),(false,false),((Int.ofNat i==(9:Int)),true),((decide (Int.ofNat b.toNat>(1:Int))),false)],
   [kY (Int.ofNat a+Int.ofNat i) (a+i),((0:Int)<=Int.ofNat (a+i)/\(a+i)<s.length),lq s a i b,kY ((7:Int)*Int.ofNat i) (7*i),lj i u b,kY (Int.ofNat a+IntKind.i64.wrap (Int.ofNat i+(1:Int))) (a+(i+1))],
   .ret (.int .i64 (IntKind.i64.wrap (uS u b i))) (J [(3,.cells [.str s,.int .i64 (Int.ofNat (a+(i+1))),.bool false])]) 4),
  ([((decide (Int.ofNat i<Int.ofNat m)),true),((decide (Int.ofNat b.toNat>=(128:Int))),false),((decide (Int.ofNat i>(0:Int))),false),(false,false),((Int.ofNat i==(9:Int)),false),(false,true)],
   [kY (Int.ofNat a+Int.ofNat i) (a+i),((0:Int)<=Int.ofNat (a+i)/\(a+i)<s.length),lq s a i b,kY ((7:Int)*Int.ofNat i) (7*i),lj i u b],
   .to (.exit 0) (eG [(0,.ptr (some (3,0))),(3,.int .u64 (uS u b i)),(16,.int .i64 (Int.ofNat m)),(17,.int .i64 (Int.ofNat i))] (J [(3,.cells [.str s,.int .i64 (Int.ofNat a),.bool false])]) 4)),
  ([((decide (Int.ofNat i<Int.ofNat m)),true),((decide (Int.ofNat b.toNat>=(128:Int))),false),((decide (Int.ofNat i>(0:Int))),false),(false,false),((Int.ofNat i==(9:Int)),false),(false,false)],
   [kY (Int.ofNat a+Int.ofNat i) (a+i),((0:Int)<=Int.ofNat (a+i)/\(a+i)<s.length),lq s a i b,kY ((7:Int)*Int.ofNat i) (7*i),lj i u b,kY (Int.ofNat a+IntKind.i64.wrap (Int.ofNat i+(1:Int))) (a+(i+1))],
   .ret (.int .i64 (IntKind.i64.wrap (uS u b i))) (J [(3,.cells [.str s,.int .i64 (Int.ofNat (a+(i+1))),.bool false])]) 4),
  ([((decide (Int.ofNat i<Int.ofNat m)),false)],
   [],
   .to (.exit 0) (eG [(0,.ptr (some (3,0))),(3,.int .u64 u),(16,.int .i64 (Int.ofNat m)),(17,.int .i64 (Int.ofNat i))] (J [(3,.cells [.str s,.int .i64 (Int.ofNat a),.bool false])]) 4))]
 :=cR.of U U U
theorem afK(u:Int):c9 (kS []) [] 4 Tryz.f110 [] (dY VE) (YX s a u m i) [([],
   [],
   .ret (.int .i64 0) (J [(3,.cells [.str s,.int .i64 (Int.ofNat a),.bool true])]) 4)]
 :=cR.of U U U
end
theorem VF:aa9:=by
 refine⟨dU,fun j hj=>?_,au rfl⟩;rcases j with _|_|_|j
 . exact⟨(0,0),by simp[jU],rfl⟩
 . exact⟨(1,1),by simp[jU],rfl⟩
 . exact⟨(2,2),by simp[jU],rfl⟩
 . have:gN=3:=rfl;omega
def OS(s:L)(a:Nat):Nat->Nat->Int->Option (Int×Nat)
 |0,_,_=>none
 |k+1,i,u=>if 128<=(s.getD (a+i) 0).toNat then OS s a k (i+1) (uS u (s.getD (a+i) 0) i)
  else if(0<i/\(s.getD (a+i) 0).toNat=0)\/(i=9/\1<(s.getD (a+i) 0).toNat)then none else some (IntKind.i64.wrap (uS u (s.getD (a+i) 0) i),i+1)
def xx(s:L)(a:Nat):Nat:=min 10 (s.length-a)
section
variable(s:L)(a:Nat)
def xy:Option (Int×Nat):=OS s a (xx s a) 0 0
def PG:Int×Nat×Bool:=match xy s a with
 |some (v,k)=>(v,a+k,false)
 |none=>(0,a,true)
theorem lO{n:Nat}(h:n<=9000000000000000000):IntKind.i64.wrap (n:Int)=(n:Int):=fK K K
theorem kr:∀n:Nat,Int.ofNat n=(n:Int):=fun _=>rfl
abbrev VG(v:V)(h:H lf)(n:Nat):Prop:=v= .int .i64 (PG s a).1/\h=hP (G7 s (PG s a).2.1 (PG s a).2.2)/\n=4
theorem amC(ha:a<=s.length)(hs:s.length<=1000000000):TG ak 4 Tryz.f110.ntmps OR (cU [PF] (hP (G7 s a false)) 4) (fJ ak 4 Tryz.f110 (VG s a)):=by
 refine iF  3 (XQ []) (afH s a) cT ?_;refine cZ U ?_;refine cZ U ?_;obtain⟨L2,Ee⟩:=afI s a (xx s a);have W:xx s a<=10/\xx s a<=s.length-a:=⟨Nat.min_le_left _ _,Nat.min_le_right _ _⟩;have UC:(if IntKind.i64.wrap ((Int.ofNat s.length)-Int.ofNat a)<(10:Int)then IntKind.i64.wrap ((Int.ofNat s.length)-Int.ofNat a)else(10:Int))=Int.ofNat (xx s a):=by
  have hw:IntKind.i64.wrap ((Int.ofNat s.length)-Int.ofNat a)=((s.length-a:Nat):Int):=by
   have:(Int.ofNat s.length)-Int.ofNat a=((s.length-a:Nat):Int):=by rw[kr,kr];omega
   rw[this];exact lO K
  rw[hw,kr];unfold xx;split<;>omega
 refine gC (XQ []) mo l9 U Ee (dG ?_);refine⟨cu.2 ⟨by rw[UC],cu.2 ⟨rfl,cT⟩⟩,fun s' dO=>?_⟩;have Oc:∀u i,xy s a=none->TG ak 4 Tryz.f110.ntmps (dY VE) (YX s a u (xx s a) i) (fJ ak 4 Tryz.f110 (VG s a)):=by
  intro u i hn;refine fh (XQ []) (afK s a (xx s a) i u) (dG ?_);refine⟨cT,_,_,_,rfl,?_⟩;unfold VG PG;rw[hn];exact⟨rfl,rfl,rfl⟩
 refine iq (α:=Nat×Int) 0 (fun x=>xx s a-x.1) (fun x=>x.1<=xx s a/\xy s a=OS s a (xx s a-x.1) x.1 x.2) (fun x=>YX s a x.2 (xx s a) x.1) U U (0,0) ⟨aX _,rfl⟩ (.norm dO) ?_;rintro⟨i,u⟩ ⟨hi,hv⟩;simp only at hi hv ⊢;have amD:∀b:UInt8,b.toNat<256:=fun b=>b.toNat_lt;obtain⟨L3,wR⟩:=afJ s a (xx s a) i u (s.getD (a+i) 0);refine gC (XQ []) mo (VG s a) U wR fun g hg I=>?_;have hA:∀k,i<xx s a->k<1000000000->(0:Int)<=Int.ofNat (a+i)/\(Int.ofNat (a+i)).toNat<s.length:=fun k h _=>by rw[kr];constructor<;>omega
 by_cases fI:i<xx s a
 case neg=>
  have hn:xy s a=none:=by rw[hv,show xx s a-i=0 by omega];rfl
  simp only[aF,aL,bw]at hg;have hf:decide (Int.ofNat i<Int.ofNat (xx s a))=false:=bC dm;rcases hg with rfl|rfl|rfl|rfl|rfl|rfl|rfl|rfl|rfl|rfl|rfl|rfl|rfl|rfl
  all_goals first
   |(have:=I _ (aP ..);simp only[hf]at this;cases this;done)
   |skip
  exact⟨cT,fun s' dO=>by simp only[andThen,dV];exact c6 dO (Oc u i hn)⟩
 case pos=>
 have e1:kY (Int.ofNat a+Int.ofNat i) (a+i):=fL dm K;have e2:=hA 0 fI dU;have e3:lq s a i (s.getD (a+i) 0):=rfl;have e4:kY ((7:Int)*Int.ofNat i) (7*i):=fL dm K;have e5:lj i u (s.getD (a+i) 0):=rfl;have e6:kY (Int.ofNat i+(1:Int)) (i+1):=fL dm K;have e7:kY (Int.ofNat a+IntKind.i64.wrap (Int.ofNat i+(1:Int))) (a+(i+1)):=by
  have:IntKind.i64.wrap (Int.ofNat i+(1:Int))=((i+1:Nat):Int):=by
   have:Int.ofNat i+1=((i+1:Nat):Int):=by rw[kr];omega
   rw[this];exact lO K
  exact fL (by rw[this,kr];omega) K
 have I8:xy s a=if 128<=(s.getD (a+i) 0).toNat then OS s a (xx s a-(i+1)) (i+1) (uS u (s.getD (a+i) 0) i)
  else if(0<i/\(s.getD (a+i) 0).toNat=0)\/(i=9/\1<(s.getD (a+i) 0).toNat)then none else some (IntKind.i64.wrap (uS u (s.getD (a+i) 0) i),i+1):=by
  rw[hv,show xx s a-i=(xx s a-(i+1))+1 by omega];rfl
 generalize s.getD (a+i) 0=b at *;have uA:128<=b.toNat->∀s',fa 4 [0,3,16,17] s'=some (YX s a (uS u b i) (xx s a) (i+1))->∃x':Nat×Int,xx s a-x'.1<xx s a-i/\(x'.1<=xx s a/\xy s a=OS s a (xx s a-x'.1) x'.1 x'.2)/\gF ak 4 Tryz.f110.ntmps s' (YX s a x'.2 (xx s a) x'.1):=fun h s' dO=>
  ⟨(i+1,uS u b i),by simp only;omega,⟨by simp only;omega,by rw[I8,aH h]⟩,.norm dO⟩
 have R5:¬128<=b.toNat->((0<i/\b.toNat=0)\/(i=9/\1<b.toNat))->∀s',fa 4 [0,3,16,17] s'=some (YX s a (uS u b i) (xx s a) i)->TG ak 4 Tryz.f110.ntmps (dY VE) s' (fJ ak 4 Tryz.f110 (VG s a)):=fun N B s' dO=>
  c6 dO (Oc _ _ (by rw[I8,aI N,aH B]))
 have Lx:¬128<=b.toNat->¬((0<i/\b.toNat=0)\/(i=9/\1<b.toNat))->VG s a (.int .i64 (IntKind.i64.wrap (uS u b i))) (J [(3,.cells [.str s,.int .i64 (Int.ofNat (a+(i+1))),.bool false])]) 4:=fun N B=>by
  unfold VG PG;rw[I8,aI N,aI B];exact⟨rfl,rfl,rfl⟩
 have q1:(decide (Int.ofNat b.toNat>=(128:Int)))=decide (128<=b.toNat):=by rw[kr];exact decide_eq_decide.2 K
 have q2:(decide (Int.ofNat i>(0:Int)))=decide (0<i):=by rw[kr];exact decide_eq_decide.2 K
 have q3:(Int.ofNat b.toNat==(0:Int))=decide (b.toNat=0):=by
  rw[kr];by_cases h:b.toNat=0
  . simp[h]
  . rw[bC h];simpa using h
 have q4:(Int.ofNat i==(9:Int))=decide (i=9):=by
  rw[kr];by_cases h:i=9
  . simp[h]
  . rw[bC h];exact beq_false_of_ne K
 have q5:(decide (Int.ofNat b.toNat>(1:Int)))=decide (1<b.toNat):=by rw[kr];exact decide_eq_decide.2 K
 simp only[aF,aL,bw]at hg;rw[q1,q2,q3,q4,q5]at hg;have A5:=fm e1 (fm e2 (fm e3 (fm e4 (eX e5))));have A6:=fm e1 (fm e2 (fm e3 (fm e4 (fm e5 (eX e6)))));have A7:=fm e1 (fm e2 (fm e3 (fm e4 (fm e5 (eX e7)))));have R5:¬128<=b.toNat->((0<i/\b.toNat=0)\/(i=9/\1<b.toNat))->∀(Q1:St->Prop) (s':St),fa 4 [0,3,16,17] s'=some (YX s a (uS u b i) (xx s a) i)->andThen Q1 (mY 0 (andThen (fun s'=>TG ak 4 Tryz.f110.ntmps (dY (dh 3 OR)) s' (fJ ak 4 Tryz.f110 (VG s a))) (fJ ak 4 Tryz.f110 (VG s a)))) (.exit 0) s':=fun N B Q1 s' dO=>by
  simp only[andThen,dV];exact R5 N B s' dO
 rcases hg with rfl|rfl|rfl|rfl|rfl|rfl|rfl|rfl|rfl|rfl|rfl|rfl|rfl|rfl
 all_goals
  simp only[aF,aL,bw,forall_eq_or_imp,forall_eq,bD,decide_eq_false_iff_not,reduceCtorEq,and_false,and_true]at I
 all_goals first|exact I.elim|skip
 . exact⟨A6,fun s' dO=>uA I.2 s' dO⟩
 . exact⟨A5,fun s' dO=>R5 I.2.1 K _ s' dO⟩
 . exact⟨A5,fun s' dO=>R5 I.2.1 K _ s' dO⟩
 all_goals first
  |exact⟨A7,Lx I.2.1 K,fun s' dO=>dO⟩
  |exact⟨A5,fun s' dO=>R5 I.2.1 K _ s' dO⟩
  |exact absurd fI (by rw[kr,kr]at I;omega)
end
section
variable(s:L)(a:Nat)(n:Int)
def iL(f:Bool):Int×Nat×Bool:=if f then(0,a,true)else PG s a
theorem abc(h:a<=s.length):(PG s a).2.1<=s.length/\a<=(PG s a).2.1:=by
 have key:∀k i u v n,i+k<=s.length-a->OS s a k i u=some (v,n)->n<=s.length-a:=by
  intro k
  induction k with
  |zero=>intro i u v n _ e;cases e
  |succ k ih=>
   intro i u v n hi e;unfold OS at e;split at e
   . exact ih _ _ _ _ K e
   . split at e
     . cases e
     . simp only[an,aB]at e;omega
 unfold PG;have W:xx s a<=s.length-a:=Nat.min_le_right _ _;cases e:xy s a with
 |none=>exact⟨h,aA _⟩
 |some p=>
  have:=key _ _ _ _ _ K e;exact⟨by simp only;omega,by simp only;omega⟩
def spV:ag->ag->Option (ah×V×ag)
 | [.str s,.int .i64 x,.bool f],[]=>some ([0<=x/\x.toNat<=s.length,s.length<=1000000000],.int .i64 (iL s x.toNat f).1,G7 s (iL s x.toNat f).2.1 (iL s x.toNat f).2.2)
 |_,_=>none
theorem abd:jv ak 110 (EC spV):=by
 refine B4 mo po VF (au U) Tryz.func110 (code:=OR) U fun C args cS v vw e hA=>⟨?_,?_⟩
 all_goals
  unfold spV at e;split at e
  case h_2=>cases e
  rename_i s x f;simp only[an,aB]at e;obtain⟨rfl,rfl,rfl⟩:=e
 . kernel_rfl
 obtain⟨a1,a2⟩:=hA _ (aP ..);have a3:s.length<=1000000000:=hA (s.length<=1000000000) (by simp);obtain⟨a,rfl⟩:∃a:Nat,x=Int.ofNat a:=⟨x.toNat,(Int.toNat_of_nonneg a1).symm⟩;have a2:a<=s.length:=a2;cases f with
 |false=>exact amC s a a2 a3
 |true=>
  refine fh (XQ []) (afG s (Int.ofNat a)) (dG ?_);exact⟨cT,_,_,_,rfl,rfl,rfl,rfl⟩
noncomputable abbrev W17:jQ:=jD 110 (EC spV) W14
theorem R6:gl ak W17:=e9 abd Lp
noncomputable abbrev amG:fb:=gP ak W17 H0 1000 40
noncomputable abbrev X17:CX ak:=CX.of mo po R6 H0 1000 40
noncomputable abbrev abe:Code:=dN Tryz.f111
theorem amH:c9 amG [] 4 Tryz.f111 [] (abe) (cU [PF,.int .i64 n] (hP (G7 s a true)) 4) [([],
   [],
   .ret (.str []) (J [(3,.cells [.str s,.int .i64 (Int.ofNat a),.bool true])]) 4)]
 :=cR.of U U U
abbrev R7:Prop:=(0:Int)<=Int.ofNat (a+n.toNat)/\Int.ofNat (a+n.toNat)<=(Int.ofNat s.length)
theorem amI(l:Nat)(n:Int):c9 (kS [(105,[(14,.di (.int .i64 (Int.ofNat l)))])]) [(17,.split),(22,.split),(33,.di (.int .i64 (Int.ofNat (a+n.toNat)))),(45,.di (.int .i64 (Int.ofNat a)))] 4 Tryz.f111 [] (abe) (cU [PF,.int .i64 n] (hP (G7 s a false)) 4) [([((decide (n<(0:Int))),true),(true,true)],
   [],
   .ret (.str []) (J [(3,.cells [.str s,.int .i64 (Int.ofNat a),.bool true])]) 4),
  ([((decide (n<(0:Int))),true),(true,false)],
   [kY (Int.ofNat a+n) (a+n.toNat),kY (Int.ofNat (a+n.toNat)-n) a,R7 s a n,((0:Int)<=Int.ofNat a/\Int.ofNat a<=(Int.ofNat (a+n.toNat)))],
   .ret (.str (List.drop a (List.take (a+n.toNat) s))) (J [(3,.cells [.str s,.int .i64 (Int.ofNat (a+n.toNat)),.bool false])]) 4),
  ([((decide (n<(0:Int))),false),((decide (n>Int.ofNat l)),true)],
   [kY ((Int.ofNat s.length)-Int.ofNat a) l],
   .ret (.str []) (J [(3,.cells [.str s,.int .i64 (Int.ofNat a),.bool true])]) 4),
  ([((decide (n<(0:Int))),false),((decide (n>Int.ofNat l)),false)],
   [kY ((Int.ofNat s.length)-Int.ofNat a) l,kY (Int.ofNat a+n) (a+n.toNat),kY (Int.ofNat (a+n.toNat)-n) a,R7 s a n,((0:Int)<=Int.ofNat a/\Int.ofNat a<=(Int.ofNat (a+n.toNat)))],
   .ret (.str (List.drop a (List.take (a+n.toNat) s))) (J [(3,.cells [.str s,.int .i64 (Int.ofNat (a+n.toNat)),.bool false])]) 4)]
 :=cR.of U U U
end
section
variable(s:L)(a k:Nat)(f:Bool)(n:Int)(b:UInt8)(t:L)(i:Nat)
def rj:L×Nat×Bool:=if f=true\/n<0\/((s.length-a:Nat):Int)<n then([],a,true)else((s.drop a).take n.toNat,a+n.toNat,false)
theorem abf(h:a<=s.length):(rj s a f n).2.1<=s.length:=by
 unfold rj;split
 . exact h
 . rename_i hn;simp only;omega
def spT:ag->ag->Option (ah×V×ag)
 | [.str s,.int .i64 x,.bool f],[.int .i64 n]=>some ([0<=x/\x.toNat<=s.length,s.length<=1000000000],.str (rj s x.toNat f n).1,G7 s (rj s x.toNat f n).2.1 (rj s x.toNat f n).2.2)
 |_,_=>none
theorem abg:jv ak 111 (EC spT):=by
 refine B4 mo po VF (au U) Tryz.func111 (code:=abe) U fun C args cS v vw e hA=>⟨?_,?_⟩
 all_goals
  unfold spT at e;split at e
  case h_2=>cases e
  rename_i s x f n;simp only[an,aB]at e;obtain⟨rfl,rfl,rfl⟩:=e
 . kernel_rfl
 obtain⟨a1,a2⟩:=hA _ (aP ..);have a3:s.length<=1000000000:=hA (s.length<=1000000000) (by simp);obtain⟨a,rfl⟩:∃a:Nat,x=Int.ofNat a:=⟨x.toNat,(Int.toNat_of_nonneg a1).symm⟩;have a2:a<=s.length:=a2;rw[show(Int.ofNat a).toNat=a from rfl];cases f with
 |true=>
  refine fh X17 (amH s a n) (dG ?_);exact⟨cT,_,_,_,rfl,rfl,rfl,rfl⟩
 |false=>
  obtain⟨aa,hr⟩:=amI s a (s.length-a) n;have hl:kY ((Int.ofNat s.length)-Int.ofNat a) (s.length-a):=fL dm K;refine gA (XQ [(105,[(14,.di (.int .i64 (Int.ofNat (s.length-a))))])]) mo _ U hr fun g hg I=>?_;simp only[aF,aL,bw]at hg;rcases hg with rfl|rfl|rfl|rfl
  all_goals
   simp only[aF,aL,bw,forall_eq_or_imp,forall_eq,bD,decide_eq_false_iff_not,reduceCtorEq,and_false,and_true,kr]at I
  . refine⟨cT,_,_,_,rfl,?_⟩;unfold rj;rw[aH (.inr (.inl I))];exact⟨rfl,rfl,rfl⟩
  . refine⟨eX hl,_,_,_,rfl,?_⟩;unfold rj;rw[aH (.inr (.inr K))];exact⟨rfl,rfl,rfl⟩
  . obtain⟨N,B⟩:=I;have hn:((n.toNat:Nat):Int)=n:=Int.toNat_of_nonneg K;refine⟨fm hl (fm (fL dm K) (fm (fL dm K) (fm ⟨az _,dm⟩ (eX ⟨az _,dm⟩)))),_,_,_,rfl,?_⟩;unfold rj;rw[aI (by simp only[aO,false_or];omega)];rw[List.drop_take,Nat.add_sub_cancel_left];exact⟨rfl,rfl,rfl⟩
noncomputable abbrev W18:jQ:=jD 111 (EC spT) W17
theorem Lz:gl ak W18:=e9 abg R6
noncomputable abbrev VH:fb:=gP ak W18 H0 1000 40
noncomputable abbrev X18:CX ak:=CX.of mo po Lz H0 1000 40
noncomputable abbrev afM:Code:=dN Tryz.f106
noncomputable abbrev VI:Code:=dN Tryz.f107
noncomputable abbrev afN:Code:=dh 2 VI
noncomputable abbrev afO:Code:=dP afN
def sRN:St:=eG [(0,PF),(5,.int .i64 n),(12,.dj (some (4,0)) t.length t.length 1),(13,.int .i64 (Int.ofNat t.length)),(14,.int .i64 (Int.ofNat i))] (J [(3,.cells (G7 s a f)),(4,.own .u8 (ef t))]) 5
noncomputable abbrev afP:fb:=gP ak W18 (qY [(85,[(5,.di (.int .i64 (Int.ofNat k)))])]) 1000 40
noncomputable abbrev amK:CX ak:=CX.of mo po Lz (qY [(85,[(5,.di (.int .i64 (Int.ofNat k)))])]) 1000 40
def zy:Int:=IntKind.i64.wrap (Int.ofNat (BitVec.ofInt 64 (IntKind.i64.wrap (n*(256:Int)))|||BitVec.ofInt 64 (IntKind.i64.wrap (Int.ofNat b.toNat))).toNat)
abbrev R8:Prop:=(0:Int)<=Int.ofNat (iL s a f).2.1/\(Int.ofNat (iL s a f).2.1).toNat<=s.length
theorem amL:c9 VH [(21,.split)] 4 Tryz.f106 [] (afM) (cU [PF] (hP (G7 s a f)) 4) [([(((rj s (Int.ofNat (iL s a f).2.1).toNat (iL s a f).2.2 (iL s a f).1).2.2),true)],
   [((0:Int)<=Int.ofNat a/\a<=s.length),(s.length<=1000000000),R8 s a f,(s.length<=1000000000)],
   .ret (.str ((rj s (Int.ofNat (iL s a f).2.1).toNat (iL s a f).2.2 (iL s a f).1).1)) (J [(3,.cells [.str s,.int .i64 (Int.ofNat a),.bool ((rj s (Int.ofNat (iL s a f).2.1).toNat (iL s a f).2.2 (iL s a f).1).2.2)])]) 4),
  ([(((rj s (Int.ofNat (iL s a f).2.1).toNat (iL s a f).2.2 (iL s a f).1).2.2),false)],
   [((0:Int)<=Int.ofNat a/\a<=s.length),(s.length<=1000000000),R8 s a f,(s.length<=1000000000)],
   .ret (.str ((rj s (Int.ofNat (iL s a f).2.1).toNat (iL s a f).2.2 (iL s a f).1).1)) (J [(3,.cells [.str s,.int .i64 (Int.ofNat (rj s (Int.ofNat (iL s a f).2.1).toNat (iL s a f).2.2 (iL s a f).1).2.1),.bool ((rj s (Int.ofNat (iL s a f).2.1).toNat (iL s a f).2.2 (iL s a f).1).2.2)])]) 4)]
 :=cR.of U U U
theorem amM(k:Nat):c9 VH [] 4 Tryz.f107 [0,1,5] (eV 2 VI) (cU [PF,.int .i64 (Int.ofNat k)] (hP (G7 s a f)) 4) [([],
   [],
   .to .normal (eG [(0,.ptr (some (3,0))),(1,.int .i64 (Int.ofNat k)),(5,.int .i64 0)] (J [(3,.cells [.str s,.int .i64 (Int.ofNat a),.bool f])]) 4))]
 :=cR.of U U U
theorem amN(k:Nat):c9 (afP k) [(14,.di (.int .i64 (Int.ofNat 0)))] 4 Tryz.f107 [0,5,12,13,14] (dP afO) (eG [(0,PF),(1,.int .i64 (Int.ofNat k)),(5,.int .i64 0)] (hP (G7 s a f)) 4) [([],
   [(V.int aj (if(if(8:Int)<Int.ofNat k then(8:Int)else Int.ofNat k)>(0:Int)then if(8:Int)<Int.ofNat k then(8:Int)else Int.ofNat k else(0:Int))=V.int aj (Int.ofNat k)),((0:Int)<=Int.ofNat a/\a<=s.length),(s.length<=1000000000),(V.int aj (0:Int)=V.int aj (0:Int))],
   .to .normal (eG [(0,.ptr (some (3,0))),(5,.int .i64 0),(12,.dj (some (4,0)) ((rj s a f (Int.ofNat k)).1.length) ((rj s a f (Int.ofNat k)).1.length) 1),(13,.int .i64 ((Int.ofNat (rj s a f (Int.ofNat k)).1.length))),(14,.int .i64 0)] (J [(3,.cells [.str s,.int .i64 (Int.ofNat (rj s a f (Int.ofNat k)).2.1),.bool ((rj s a f (Int.ofNat k)).2.2)]),(4,.own .u8 (ef (rj s a f (Int.ofNat k)).1))]) 5))]
 :=cR.of U U U
theorem afQ(b:UInt8):c9 VH [(15,.split),(17,.di (.int .u8 (Int.ofNat b.toNat))),(22,.di (.int .i64 (zy n b))),(23,.di (.int .i64 (Int.ofNat (i+1))))] 4 Tryz.f107 [0,5,12,13,14] (dz (dz (dY afO))) (sRN s a f n t i) [([((decide (Int.ofNat i<Int.ofNat t.length)),true)],
   [((0:Int)<=Int.ofNat i/\Int.ofNat i<(Int.ofNat t.length)),(0+i*1<(ef t).length),(V.int IntKind.u8 ((ef t).getD (0+i*1) (0:Int))=V.int IntKind.u8 (Int.ofNat b.toNat)),(V.int aj (IntKind.i64.wrap (Int.ofNat (BitVec.ofInt 64 (IntKind.i64.wrap (n*(256:Int)))|||BitVec.ofInt 64 (IntKind.i64.wrap (Int.ofNat b.toNat))).toNat))=V.int aj (zy n b)),kY (Int.ofNat i+(1:Int)) (i+1)],
   .to .normal (eG [(0,.ptr (some (3,0))),(5,.int .i64 (zy n b)),(12,.dj (some (4,0)) (t.length) (t.length) 1),(13,.int .i64 (Int.ofNat t.length)),(14,.int .i64 (Int.ofNat (i+1)))] (J [(3,.cells [.str s,.int .i64 (Int.ofNat a),.bool f]),(4,.own .u8 (ef t))]) 5)),
  ([((decide (Int.ofNat i<Int.ofNat t.length)),false)],
   [],
   .to (.exit 0) (eG [(0,.ptr (some (3,0))),(5,.int .i64 n),(12,.dj (some (4,0)) (t.length) (t.length) 1),(13,.int .i64 (Int.ofNat t.length)),(14,.int .i64 (Int.ofNat i))] (J [(3,.cells [.str s,.int .i64 (Int.ofNat a),.bool f]),(4,.own .u8 (ef t))]) 5))]
 :=cR.of U U U
theorem amO:c9 VH [] 4 Tryz.f107 [] (dY afN) (sRN s a f n t i) [([],
   [],
   .ret (.int .i64 n) (J [(3,.cells [.str s,.int .i64 (Int.ofNat a),.bool f])]) 4)]
 :=cR.of U U U
end
section
variable(s:L)(a:Nat)(f:Bool)(k:Nat)
theorem M0(h:a<=s.length):(iL s a f).2.1<=s.length:=by
 unfold iL;split
 . exact h
 . exact(abc s a h).1
def iB:L×Nat×Bool:=
 ((rj s (iL s a f).2.1 (iL s a f).2.2 (iL s a f).1).1,if(rj s (iL s a f).2.1 (iL s a f).2.2 (iL s a f).1).2.2 then a else(rj s (iL s a f).2.1 (iL s a f).2.2 (iL s a f).1).2.1,(rj s (iL s a f).2.1 (iL s a f).2.2 (iL s a f).1).2.2)
theorem VJ(h:a<=s.length):(iB s a f).2.1<=s.length:=by
 unfold iB;simp only;split
 . exact h
 . exact abf _ _ _ _ (M0 s a f h)
def spX:ag->ag->Option (ah×V×ag)
 | [.str s,.int .i64 x,.bool f],[]=>some ([0<=x/\x.toNat<=s.length,s.length<=1000000000],.str (iB s x.toNat f).1,G7 s (iB s x.toNat f).2.1 (iB s x.toNat f).2.2)
 |_,_=>none
theorem abh:jv ak 106 (EC spX):=by
 refine B4 mo po VF (au U) Tryz.func106 (code:=afM) U fun C args cS v vw e hA=>⟨?_,?_⟩
 all_goals
  unfold spX at e;split at e
  case h_2=>cases e
  rename_i s x f;simp only[an,aB]at e;obtain⟨rfl,rfl,rfl⟩:=e
 . kernel_rfl
 obtain⟨a1,a2⟩:=hA _ (aP ..);have a3:s.length<=1000000000:=hA (s.length<=1000000000) (by simp);obtain⟨a,rfl⟩:∃a:Nat,x=Int.ofNat a:=⟨x.toNat,(Int.toNat_of_nonneg a1).symm⟩;have a2:a<=s.length:=a2;rw[show(Int.ofNat a).toNat=a from rfl];obtain⟨aa,hr⟩:=amL s a f;have N:=M0 s a f a2;refine gA X18 mo _ U hr fun g hg I=>?_;simp only[aF,aL,bw]at hg;have cS:∀p∈[((0:Int)<=Int.ofNat a/\a<=s.length),(s.length<=1000000000),((0:Int)<=Int.ofNat (iL s a f).2.1/\(Int.ofNat (iL s a f).2.1).toNat<=s.length),(s.length<=1000000000)],p:=
  fm ⟨az _,a2⟩ (fm a3 (fm ⟨az _,N⟩ (eX a3)))
 rcases hg with rfl|rfl
 all_goals
  have q:=I _ (aq.2 rfl);refine⟨cS,_,_,_,rfl,rfl,?_,rfl⟩;have q:(iB s a f).2.2=_:=q;have q':(iB s a f).2.1=if(iB s a f).2.2 then a else(rj s (iL s a f).2.1 (iL s a f).2.2 (iL s a f).1).2.1:=rfl
  rw[q]at q';rw[q'];rfl
def yu:Int×Nat×Bool:=((rj s a f (Int.ofNat k)).1.foldl zy 0,(rj s a f (Int.ofNat k)).2.1,(rj s a f (Int.ofNat k)).2.2)
theorem LB{t:L}{i:Nat}{b:UInt8}(h:t[i]? =some b):(ef t).getD (0+i*1) 0=Int.ofNat b.toNat:=by
 unfold ef;rw[aM,bE,bk,bu,h];rfl
theorem amQ(f:Bool)(ha:a<=s.length)(hs:s.length<=1000000000)(hk:k<=8):TG ak 4 Tryz.f107.ntmps VI (cU [PF,.int .i64 (Int.ofNat k)] (hP (G7 s a f)) 4)
  (fJ ak 4 Tryz.f107 fun v h n=>v= .int .i64 (yu s a f k).1/\h=hP (G7 s (yu s a f k).2.1 (yu s a f k).2.2)/\n=4):=by
 refine iF  2 X18 (amM s a f k) cT ?_;refine cZ U ?_;refine cZ U ?_;refine fO (amK k) (amN s a f k) (dG ?_);refine⟨fm (aN (V.int aj) ?_) (fm ⟨az _,ha⟩ (fm hs (eX rfl))),fun s' dO=>?_⟩
 . simp only[kr];split<;>split<;>omega
 have iQ:(rj s a f (Int.ofNat k)).1.length<=8:=by
  unfold rj;split
  . simp
  . simp only[aZ,kr,Int.toNat_natCast];omega
 unfold yu;generalize hT:rj s a f (Int.ofNat k)=cQ at dO iQ ⊢;obtain⟨t,a1,f1⟩:=cQ;have dO:fa 4 [0,5,12,13,14] s'=some (sRN s a1 f1 ((t.take 0).foldl zy 0) t 0):=dO;simp only at iQ ⊢;refine jx 0 t.length (fun i=>sRN s a1 f1 ((t.take i).foldl zy 0) t i) U U (.norm dO) (fun i hi=>?_) ?_
 . obtain⟨b,hb⟩:∃b,t[i]? =some b:=⟨_,ay hi⟩;refine fO X18 (afQ s a1 f1 ((t.take i).foldl zy 0) t i b) fun g hg I=>?_;simp only[aF,aL,bw]at hg;rcases hg with rfl|rfl
   . refine⟨fm ⟨az _,dm⟩ (fm (by simp only[ef,aT];omega) (fm (aN _ (LB hb)) (fm rfl (eX (fL dm K))))),fun s' dO=>.norm (live:=[0,5,12,13,14]) ?_⟩;show _=some (sRN s a1 f1 ((t.take (i+1)).foldl zy 0) t (i+1));rw[bG,hb,cE,List.foldl_append];exact dO
   . exact absurd (aJ (I _ (aq.2 rfl))) dm
 . refine fO X18 (afQ s a1 f1 ((t.take t.length).foldl zy 0) t t.length 0) fun g hg I=>?_;simp only[aF,aL,bw]at hg;rcases hg with rfl|rfl
   . exact absurd (aE (I _ (aq.2 rfl))) K
   . refine⟨cT,fun s' dO=>⟨by simp,?_⟩⟩;rw[dV];simp only[andThen];have dO:fa 4 [0,5,12,13,14] s'=some (sRN s a1 f1 ((t.take t.length).foldl zy 0) t t.length):=dO;refine c6 dO ?_;refine fh X18 (amO s a1 f1 ((t.take t.length).foldl zy 0) t t.length) (dG ?_);exact⟨cT,_,_,_,rfl,by rw[aU],rfl,rfl⟩
end
def spN:ag->ag->Option (ah×V×ag)
 | [.str s,.int .i64 x,.bool f],[.int .i64 k]=>some ([0<=x/\x.toNat<=s.length,s.length<=1000000000,0<=k/\k.toNat<=8],.int .i64 (yu s x.toNat f k.toNat).1,G7 s (yu s x.toNat f k.toNat).2.1 (yu s x.toNat f k.toNat).2.2)
 |_,_=>none
theorem abi:jv ak 107 (EC spN):=by
 refine B4 mo po VF (au U) Tryz.func107 (code:=VI) U fun C args cS v vw e hA=>⟨?_,?_⟩
 all_goals
  unfold spN at e;split at e
  case h_2=>cases e
  rename_i s x f k;simp only[an,aB]at e;obtain⟨rfl,rfl,rfl⟩:=e
 . kernel_rfl
 obtain⟨a1,a2⟩:=hA _ (aP ..);have a3:s.length<=1000000000:=hA (s.length<=1000000000) (by simp);obtain⟨a4,a5⟩:0<=k/\k.toNat<=8:=hA (0<=k/\k.toNat<=8) (by simp);obtain⟨a,rfl⟩:∃a:Nat,x=Int.ofNat a:=⟨x.toNat,(Int.toNat_of_nonneg a1).symm⟩;obtain⟨k,rfl⟩:∃a:Nat,k=Int.ofNat a:=⟨k.toNat,(Int.toNat_of_nonneg a4).symm⟩;exact amQ s a k f a2 a3 a5
noncomputable abbrev W19:jQ:=jD 106 (EC spX) (jD 107 (EC spN) W18)
theorem G8:gl ak W19:=e9 abh (e9 abi Lz)
noncomputable abbrev me:fb:=gP ak W19 H0 1000 40
noncomputable abbrev uJ:CX ak:=CX.of mo po G8 H0 1000 40
theorem afS:∀x:Nat,x<256->x|||128=x%128+128:=by decide
section
variable(u n:Nat){s:L}{q:Nat}{b:UInt8}{r:L}
theorem u8w:IntKind.u8.wrap (n:Int)=((n%256:Nat):Int):=by
 simp only[IntKind.wrap,IntKind.bits,IntKind.signed];simp
theorem VK:IntKind.u64.wrap (n:Int)=((n%18446744073709551616:Nat):Int):=by
 simp only[IntKind.wrap,IntKind.bits,IntKind.signed];simp
theorem M1:Uk (u:Int)=((u%128+128:Nat):Int):=by
 unfold Uk;rw[u8w];have N:(BitVec.ofInt 8 ((u%256:Nat):Int)|||BitVec.ofInt 8 (128:Int)).toNat=u%128+128:=by
  rw[BitVec.toNat_or];have e1:(BitVec.ofInt 8 ((u%256:Nat):Int)).toNat=u%256:=by
   rw[BitVec.ofInt_natCast,BitVec.toNat_ofNat];omega
  have e2:(BitVec.ofInt 8 (128:Int)).toNat=128:=rfl;rw[e1,e2,afS _ K];omega
 rw[N,kr,u8w];congr 1;omega
theorem M2(h:u<128):loB (u:Int)=(u:Int):=by
 unfold loB;rw[u8w];congr 1;omega
theorem DB:(u:Int).fdiv 128=((u/128:Nat):Int):=by
 rw[cM _ dU];rfl
theorem R9{n:Nat}(h:n<256):(UInt8.ofNat n).toNat=n:=by
 rw[UInt8.toNat_ofNat'];omega
theorem Sa(gy:Nat)(b:UInt8)(i:Nat)(ha:gy<2^(7*i))(hi:i<=7):uS (gy:Int) b i=((gy+b.toNat%128*2^(7*i):Nat):Int):=by
 have hb:b.toNat<256:=b.toNat_lt;unfold uS;have e1:(BitVec.ofInt 8 (Int.ofNat b.toNat)&&&BitVec.ofInt 8 (127:Int)).toNat=b.toNat%128:=by
  rw[BitVec.toNat_and];have e2:(BitVec.ofInt 8 (127:Int)).toNat=2^7-1:=rfl;have e3:(BitVec.ofInt 8 (Int.ofNat b.toNat)).toNat=b.toNat:=by
   rw[kr,BitVec.ofInt_natCast,BitVec.toNat_ofNat];omega
  rw[e2,e3,Nat.and_two_pow_sub_one_eq_mod]
 have hp:2^(7*i)<=2^49:=Nat.pow_le_pow_right dU K;have aum:b.toNat%128*2^(7*i)<128*2^49:=by
  have:b.toNat%128<128:=by omega
  calc b.toNat%128*2^(7*i)<=127*2^(7*i):=ct _ K
   _<=127*2^49:=Nat.mul_le_mul_left _ hp
   _<128*2^49:=by decide
 rw[e1];simp only[kr];rw[u8w,VK (b.toNat%128%256),Int.toNat_natCast,show min (7*i) 64=7*i by omega];have e4:(((b.toNat%128%256%18446744073709551616:Nat):Int)*(2:Int)^(7*i))=((b.toNat%128*2^(7*i):Nat):Int):=by
  rw[show b.toNat%128%256%18446744073709551616=b.toNat%128 by omega];simp[Int.natCast_mul,Int.natCast_pow]
 rw[e4,VK (b.toNat%128*2^(7*i)),BitVec.toNat_or,BitVec.ofInt_natCast,BitVec.ofInt_natCast,BitVec.toNat_ofNat,BitVec.toNat_ofNat];have h64:(2:Nat)^64=18446744073709551616:=by decide
 have h49:(128:Nat)*2^49<18446744073709551616:=by decide
 have aun:(2:Nat)^49<18446744073709551616:=by decide
 rw[h64,Nat.mod_mod,Nat.mod_eq_of_lt (a:=gy) K,Nat.mod_eq_of_lt (a:=b.toNat%128*2^(7*i)) K];have h5:gy|||b.toNat%128*2^(7*i)=gy+b.toNat%128*2^(7*i):=by
  rw[Nat.or_comm,Nat.mul_comm,<- Nat.two_pow_add_eq_or_of_lt ha,Nat.add_comm]
 rw[h5,VK];have:gy+b.toNat%128*2^(7*i)<18446744073709551616:=by
  have h6:gy<2^49:=by omega
  have h7:(128:Nat)*2^49+2^49<18446744073709551616:=by decide
  omega
 rw[Nat.mod_eq_of_lt this]
theorem zz(h:s.drop q=b::r):s.getD q 0=b:=by
 have:(s.drop q)[0]? =some b:=by rw[h];rfl
 rw[bJ,Nat.add_zero]at this;rw[aM,this];rfl
theorem OT(h:s.drop q=b::r):s.drop (q+1)=r:=by
 rw[<- List.drop_drop,h];rfl
theorem u8I{n:Nat}(h:n<256):(UInt8.ofNat (n:Int).toNat).toNat=n:=by rw[Int.toNat_natCast,R9 h]
end
theorem Jh:∀(k m i gy u:Nat) (s:L) (a:Nat) (r:L),u<128^(k+1)->i+k<=7->gy<2^(7*i)->(0<i->0<u)->s.drop (a+i)=eT (oD k (u:Int))++r->(oD k (u:Int)).length<=m->
  OS s a m i (gy:Int)=some (((gy+u*2^(7*i):Nat):Int),i+(oD k (u:Int)).length)
 |k,0,_,_,u,_,_,_,_,_,_,_,_,W=>by have:=(Dp k (u:Int)).1;omega
 |k,m+1,i,gy,u,s,a,r,hu,hi,ha,h0,hs,W=>by
  have last:u<128->s.drop (a+i)=UInt8.ofNat (u:Int).toNat::r->OS s a (m+1) i (gy:Int)=some (((gy+u*2^(7*i):Nat):Int),i+1):=by
   intro fI hd;unfold OS;rw[zz hd,u8I K,aI K,aI K,Sa _ _ _ ha K,u8I K,show u%128=u by omega];have hp:2^(7*i)<=2^49:=Nat.pow_le_pow_right dU K;have hm2:u*2^(7*i)<=127*2^49:=bX (ct _ K) (Nat.mul_le_mul_left _ hp);have h9:(127:Nat)*2^49+2^49<=9000000000000000000:=by decide
   rw[lO K]
  cases k with
  |zero=>
   simp only[oD]at hs ⊢;rw[M2 u K]at hs;exact last K hs
  |succ k=>
   unfold oD at hs W ⊢;by_cases h128:(128:Int)<=(u:Int)
   . rw[aH h128]at hs W ⊢;rw[M1,DB]at hs;rw[DB]at W ⊢;have hs:s.drop (a+i)=UInt8.ofNat ((u%128+128:Nat):Int).toNat::(eT (oD k ((u/128:Nat):Int))++r):=hs;have hb:=u8I (n:=u%128+128) K;unfold OS;rw[zz hs,hb,aH K,Sa _ _ _ ha K,hb];have e1:(u%128+128)%128=u%128:=by omega
     rw[e1];have afV:(2:Nat)^(7*(i+1))=128*2^(7*i):=by rw[show 7*(i+1)=7+7*i by omega,Nat.pow_add]
     have fI:u%128*2^(7*i)<=127*2^(7*i):=ct _ K;have hu2:u/128<128^(k+1):=by
      rw[Nat.pow_succ]at hu;exact Nat.div_lt_of_lt_mul (by rw[Nat.mul_comm];exact hu)
     have ih:=Jh k m (i+1) (gy+u%128*2^(7*i)) (u/128) s a r hu2 K (by rw[afV];omega) K (OT hs) (by simpa using W);rw[ih,afV];have e2:gy+u%128*2^(7*i)+u/128*(128*2^(7*i))=gy+u*2^(7*i):=by
      rw[cD,<- Nat.mul_assoc,<- cP];congr 2;omega
     rw[e2,aS,cD,Nat.add_comm 1]
   . rw[aI h128]at hs W ⊢;rw[M2 u K]at hs;exact last K hs
section
variable{s:L}(x:Nat){a:Nat}{t r:L}
theorem ve(l:List Int):(eT l).length=l.length:=by unfold eT;rw[aT]
theorem G9{n:Nat}{r:L}(hn:n<34359738368)(h:s.drop a=jw (Int.ofNat n)++r):PG s a=((n:Int),a+(jw (Int.ofNat n)).length,false):=by
 have hl:(jw (Int.ofNat n)).length=(oD 4 (n:Int)).length:=ve _;have h5:=mE (Int.ofNat n);have hd:s.length-a=(jw (Int.ofNat n)).length+r.length:=by rw[<- bV,h,ax]
 have:=Jh 4 (xx s a) 0 0 n s a r K K dU K h (by unfold xx;omega);simp only[bE,Nat.mul_zero,Nat.pow_zero,bk]at this;unfold PG xy;rw[show((0:Nat):Int)=0 from rfl]at this;rw[this,hl]
theorem He(h:s.drop a=t++r):rj s a false (t.length:Int)=(t,a+t.length,false):=by
 have hd:s.length-a=t.length+r.length:=by rw[<- bV,h,ax]
 unfold rj;rw[aI (by simp only[aO,false_or];omega),h,Int.toNat_natCast,List.take_left'];rfl
theorem zA(ht:t.length<34359738368)(h:s.drop a=jz t++r):iB s a false=(t,a+(jz t).length,false):=by
 have N:s.drop a=jw (Int.ofNat t.length)++(t++r):=by rw[h];unfold jz;rw[bB]
 have e1:=G9 ht N;have B:s.drop (a+(jw (Int.ofNat t.length)).length)=t++r:=by rw[<- List.drop_drop,N,List.drop_left'];rfl
 have e2:=He B;unfold iB iL;simp only[aO,cI,e1,e2];unfold jz;rw[ax,cD]
theorem vL(n:Nat)(b:UInt8)(h:n<1099511627776):zy (n:Int) b=((n*256+b.toNat:Nat):Int):=by
 have hb:b.toNat<256:=b.toNat_lt;unfold zy;have e1:(n:Int)*(256:Int)=((n*256:Nat):Int):=by simp
 rw[e1,lO K,kr b.toNat,lO K,BitVec.toNat_or,BitVec.ofInt_natCast,BitVec.ofInt_natCast,BitVec.toNat_ofNat,BitVec.toNat_ofNat];have h64:(2:Nat)^64=18446744073709551616:=by decide
 rw[h64,Nat.mod_eq_of_lt (a:=n*256) K,Nat.mod_eq_of_lt (a:=b.toNat) K];have h5:n*256|||b.toNat=n*256+b.toNat:=by
  rw[Nat.mul_comm n 256,show(256:Nat)=2^8 by decide,<- Nat.two_pow_add_eq_or_of_lt K]
 rw[h5,kr,lO K]
theorem DC(d:Nat)(G:x<18446744073709551616):(pB (x:Int) (d:Int)).toNat=x/d%256:=by
 unfold pB;rw[VK,Nat.mod_eq_of_lt G,cM _ (az _)];rw[show(x:Int)/(d:Int)=((x/d:Nat):Int)from rfl,u8w,u8I K]
theorem OU(G:x<4294967296):(dX (x:Int)).foldl zy 0=(x:Int):=by
 unfold dX;simp only[List.foldl_cons,List.foldl_nil];have c1:=DC x 16777216 K;have c2:=DC x 65536 K;have c3:=DC x 256 K;have c4:=DC x 1 K;have e1:=vL 0 (pB (x:Int) 16777216) K;rw[show((0:Nat):Int)=0 from rfl]at e1;rw[e1,show(pB (x:Int) 16777216).toNat=_ from c1];rw[vL _ _ K,show(pB (x:Int) 65536).toNat=_ from c2];rw[vL _ _ K,show(pB (x:Int) 256).toNat=_ from c3];rw[vL _ _ K,show(pB (x:Int) 1).toNat=_ from c4];congr 1;omega
theorem VL(s:L):∃c:Nat,c<4294967296/\qX s=(c:Int):=by
 unfold qX nH w32;refine⟨(BitVec.ofInt 32 4294967295^^^BitVec.ofInt 32 (Ds (w256 zo) s s.length)).toNat,BitVec.isLt _,?_⟩;have h:=(BitVec.ofInt 32 4294967295^^^BitVec.ofInt 32 (Ds (w256 zo) s s.length)).isLt;generalize (BitVec.ofInt 32 4294967295^^^BitVec.ofInt 32 (Ds (w256 zo) s s.length)).toNat=c at h;simp only[IntKind.wrap,IntKind.bits,IntKind.signed];simp;omega
theorem Sb{b:L}{a:Nat}{r:L}(h:s.drop a=dX (IntKind.i64.wrap (qX b))++r):yu s a false 4=(IntKind.i64.wrap (qX b),a+4,false):=by
 obtain⟨c,I,e⟩:=VL b;have e1:=He h;have hl:(dX (IntKind.i64.wrap (qX b))).length=4:=rfl;rw[hl]at e1;unfold yu;rw[show(Int.ofNat 4)=((4:Nat):Int)from rfl,e1];simp only;rw[e,lO K,OU c I]
theorem M3{k:Nat}{r:L}(hk:k<256)(h:s.drop a=pR (k:Int)++r):yu s a false 1=((k:Int),a+1,false):=by
 have e1:=He h;have hl:(pR (k:Int)).length=1:=rfl;rw[hl]at e1;unfold yu;rw[show(Int.ofNat 1)=((1:Nat):Int)from rfl,e1];have e2:=vL 0 (pB (k:Int) 1) K;rw[show((0:Nat):Int)=0 from rfl]at e2;have c1:=DC k 1 K;unfold pR;simp only[List.foldl_cons,List.foldl_nil,e2];rw[show(pB (k:Int) 1).toNat=_ from c1];congr 2;omega
end
abbrev P3:V:=.ptr (some (3,0))
abbrev eM:V:=.dj none 0 0 0
def hJ(d:L)(p:gZ):H lf:=(eu p).set 7 (some (.cells [.str d]))
def iW(i:Nat):V:=.int .i64 (Int.ofNat i)
theorem nL{x:Int}{n:Nat}(h:x=(n:Int))(hb:n<1000000000000):V.int aj (IntKind.i64.wrap x)=iW n:=fL h hb
theorem YY:16<Tryz.prog.funcs.size:=au U
theorem afW:17<Tryz.prog.funcs.size:=au U
theorem afX:18<Tryz.prog.funcs.size:=au U
noncomputable abbrev abj:Code:=dP (dh 2 Jc)
noncomputable abbrev abk:Code:=dY (dh 2 Jc)
noncomputable abbrev abl:Code:=Ys (dY Lt)
section
variable(T A:Nat)(b:L)(X R O:Int)(Q F:ae)
section
variable(s:L)(a:Nat)(f:Bool)
def LD(RV:af):H lf:=J (eK (pS T A b X R O Q F)++(7,.cells (G7 s a f))::RV)
def sA0(d:L)(n i:Nat):St:=eG [(0,P3),(4,.ptr (some (7,0))),(5,.str d),(6,eM),(17,.int .i64 (Int.ofNat n)),(18,.int .i64 (Int.ofNat i))] (LD T A b X R O Q F s a f []) 8
def sA1(d:L)(n i k:Nat)(C:ai):St:=eG [(0,P3),(4,.ptr (some (7,0))),(5,.str d),(6,.dj (some (8,0)) k k 1),(17,.int .i64 (Int.ofNat n)),(18,.int .i64 (Int.ofNat i))] (LD T A b X R O Q F s a f [(8,.deep C)]) 9
end
end
section
variable(T A:Nat)(b:L)(X R O:Int)(Q F:ae)(s:L)(a:Nat)(f:Bool)
theorem afZ:c9 me [] 7 Tryz.f83 [0,4,11] (eV 2 Ls) (cU [P3,.str s] (eu (pS T A b X R O Q F)) 7) [([],
   [((0:Int)<=(0:Int)/\0<=s.length),(s.length<=1000000000),((0:Int)<=(1:Int)/\1<=8)],
   .to .normal (eG [(0,.ptr (some (3,0))),(4,.ptr (some (7,0))),(11,.int .i64 ((yu s 0 false 1).1))] (J (eK (pS T A b X R O Q F)++[(7,.cells [.str s,.int .i64 (Int.ofNat (yu s 0 false 1).2.1),.bool ((yu s 0 false 1).2.2)])])) 8))]
 :=cR.of U U U
theorem af0(k:Int):c9 me [(12,.split)] 7 Tryz.f83 [0,4,11,12] (dP Lt) (eG [(0,P3),(4,.ptr (some (7,0))),(11,.int .i64 k)] (LD T A b X R O Q F s a f []) 8) [([((k==(1:Int)),true)],
   [],
   .to .normal (eG [(0,.ptr (some (3,0))),(4,.ptr (some (7,0))),(11,.int .i64 k),(12,.bool true)] (J (eK (pS T A b X R O Q F)++[(7,.cells [.str s,.int .i64 (Int.ofNat a),.bool f])])) 8)),
  ([((k==(1:Int)),false)],
   [],
   .to .normal (eG [(0,.ptr (some (3,0))),(4,.ptr (some (7,0))),(11,.int .i64 k),(12,.bool false)] (J (eK (pS T A b X R O Q F)++[(7,.cells [.str s,.int .i64 (Int.ofNat a),.bool f])])) 8))]
 :=cR.of U U U
theorem amU:c9 me [] 7 Tryz.f83 [0,4,5,6] (eV 2 Jc) (eG [(0,P3),(4,.ptr (some (7,0)))] (LD T A b X R O Q F s a f []) 8) [([],
   [((0:Int)<=Int.ofNat a/\a<=s.length),(s.length<=1000000000)],
   .to .normal (eG [(0,.ptr (some (3,0))),(4,.ptr (some (7,0))),(5,.str ((iB s a f).1)),(6,.dj none 0 0 0)] (J (eK (pS T A b X R O Q F)++[(7,.cells [.str s,.int .i64 (Int.ofNat (iB s a f).2.1),.bool ((iB s a f).2.2)])])) 8))]
 :=cR.of U U U
theorem amV(d:L):c9 me [(18,.di (.int .i64 (Int.ofNat 0)))] 7 Tryz.f83 [0,4,5,6,17,18] (dP abj) (eG [(0,P3),(4,.ptr (some (7,0))),(5,.str d),(6,eM)] (LD T A b X R O Q F s a f []) 8) [([],
   [((0:Int)<=Int.ofNat a/\a<=s.length),(s.length<=1000000000),(V.int aj (0:Int)=V.int aj (0:Int))],
   .to .normal (eG [(0,.ptr (some (3,0))),(4,.ptr (some (7,0))),(5,.str d),(6,.dj none 0 0 0),(17,.int .i64 ((iL s a f).1)),(18,.int .i64 0)] (J (eK (pS T A b X R O Q F)++[(7,.cells [.str s,.int .i64 (Int.ofNat (iL s a f).2.1),.bool ((iL s a f).2.2)])])) 8))]
 :=cR.of U U U
theorem af1(d:L)(n i:Nat):c9 me [(19,.split),(25,.di (.int .i64 (Int.ofNat (i+1))))] 7 Tryz.f83 [0,4,5,6,17,18] (dz (dz (dY abj))) (sA0 T A b X R O Q F s a f d n i) [([((decide (Int.ofNat i<Int.ofNat n)),true)],
   [((0:Int)<=Int.ofNat a/\a<=s.length),(s.length<=1000000000),kY (Int.ofNat i+(1:Int)) (i+1)],
   .to .normal (eG [(0,.ptr (some (3,0))),(4,.ptr (some (7,0))),(5,.str d),(6,.dj (some (8,0)) 1 1 1),(17,.int .i64 (Int.ofNat n)),(18,.int .i64 (Int.ofNat (i+1)))] (J (eK (pS T A b X R O Q F)++[(7,.cells [.str s,.int .i64 (Int.ofNat (rj s a f (32:Int)).2.1),.bool ((rj s a f (32:Int)).2.2)]),(8,.cells [.str ((rj s a f (32:Int)).1)])])) 9)),
  ([((decide (Int.ofNat i<Int.ofNat n)),false)],
   [],
   .to (.exit 1) (eG [(0,.ptr (some (3,0))),(4,.ptr (some (7,0))),(5,.str d),(6,.dj none 0 0 0),(17,.int .i64 (Int.ofNat n)),(18,.int .i64 (Int.ofNat i))] (J (eK (pS T A b X R O Q F)++[(7,.cells [.str s,.int .i64 (Int.ofNat a),.bool f])])) 8))]
 :=cR.of U U U
theorem af2(d:L)(n i k:Nat)(C:ai):c9 me [(19,.split),(25,.di (.int .i64 (Int.ofNat (i+1))))] 7 Tryz.f83 [0,4,5,6,17,18] (dz (dz (dY abj))) (sA1 T A b X R O Q F s a f d n i k C) [([((decide (Int.ofNat i<Int.ofNat n)),true)],
   [((0:Int)<=Int.ofNat a/\a<=s.length),(s.length<=1000000000),(0+k*1<=C.length),(0<1),(eU (k+1) 1 16=true),kY (Int.ofNat i+(1:Int)) (i+1)],
   .to .normal (eG [(0,.ptr (some (3,0))),(4,.ptr (some (7,0))),(5,.str d),(6,.dj (some (8,0)) (k+1) (k+1) 1),(17,.int .i64 (Int.ofNat n)),(18,.int .i64 (Int.ofNat (i+1)))] (J (eK (pS T A b X R O Q F)++[(7,.cells [.str s,.int .i64 (Int.ofNat (rj s a f (32:Int)).2.1),.bool ((rj s a f (32:Int)).2.2)]),(8,.deep (List.take (k*1) (List.drop 0 C)++[rs.str (rj s a f (32:Int)).1]))])) 9)),
  ([((decide (Int.ofNat i<Int.ofNat n)),false)],
   [],
   .to (.exit 1) (eG [(0,.ptr (some (3,0))),(4,.ptr (some (7,0))),(5,.str d),(6,.dj (some (8,0)) k k 1),(17,.int .i64 (Int.ofNat n)),(18,.int .i64 (Int.ofNat i))] (J (eK (pS T A b X R O Q F)++[(7,.cells [.str s,.int .i64 (Int.ofNat a),.bool f]),(8,.deep C)])) 9))]
 :=cR.of U U U
theorem amW(d:L):vJ ak me [] 1000 7 Tryz.f83 (abk) (eG [(0,P3),(5,.str d),(6,eM)] (eu (pS T A b X R O Q F)) 7)
  [([],
   [(gS=gS),(gR=gR),([]=strs (dy [])),(0=0),(0<=1000000),((eI (d::dy [])).length<=1000000000)],
   .ret (.ew []) (eu (pS T A b X (IntKind.i64.wrap (R+(1:Int))) O (ir (rs.str (dw d (dy []))) (rs.agg [rs.str d,rs.dS 0 [],rs.int aj R]) Q) F)) 7)]
 :=⟨U,U,U⟩
theorem amX(d:L)(n:Nat)(C:ai):vJ ak me [] 1000 7 Tryz.f83 (abk) (eG [(0,P3),(5,.str d),(6,.dS false n C)] (eu (pS T A b X R O Q F)) 7)
  [([],
   [(gS=gS),(gR=gR),(C=strs (dy C)),(n=(dy C).length),(n<=1000000),((eI (d::dy C)).length<=1000000000),(0<n),(C.length=n),(n<=1000000)],
   .ret (.ew []) (eu (pS T A b X (IntKind.i64.wrap (R+(1:Int))) O (ir (rs.str (dw d (dy C))) (rs.agg [rs.str d,rs.dS n C,rs.int aj R]) Q) F)) 7)]
 :=⟨U,U,U⟩
theorem amY:c9 me [] 7 Tryz.f83 [0,4,33] (dP abl) (eG [(0,P3),(4,.ptr (some (7,0))),(11,.int .i64 2)] (LD T A b X R O Q F s a f []) 8) [([],
   [],
   .to .normal (eG [(0,.ptr (some (3,0))),(4,.ptr (some (7,0))),(33,.bool true)] (J (eK (pS T A b X R O Q F)++[(7,.cells [.str s,.int .i64 (Int.ofNat a),.bool f])])) 8))]
 :=cR.of U U U
theorem af3:c9 me [] 7 Tryz.f83 [0,4,7] (dP (MC (dY abl))) (eG [(0,P3),(4,.ptr (some (7,0)))] (LD T A b X R O Q F s a f []) 8) [([],
   [((0:Int)<=Int.ofNat a/\a<=s.length),(s.length<=1000000000)],
   .to .normal (eG [(0,.ptr (some (3,0))),(4,.ptr (some (7,0))),(7,.str ((iB s a f).1))] (J (eK (pS T A b X R O Q F)++[(7,.cells [.str s,.int .i64 (Int.ofNat (iB s a f).2.1),.bool ((iB s a f).2.2)])])) 8))]
 :=cR.of U U U
end
noncomputable abbrev af4:fb:=gP ak W19 (qY [(50,[(7,.split)])]) 1000 40
noncomputable abbrev amZ:CX ak:=CX.of mo po G8 (qY [(50,[(7,.split)])]) 1000 40
theorem af5(T A:Nat)(b:L)(X R O:Int)(Q F:ae)(s n:L)(a:Nat)(f:Bool):vJ ak af4 [] 1000 7 Tryz.f83 (dY (MC (dY abl))) (eG [(0,P3),(4,.ptr (some (7,0))),(7,.str n)] (LD T A b X R O Q F s a f []) 8)
  [([((eJ (iB s a f).1 ([]:L)),true)],
   [((0:Int)<=Int.ofNat a/\a<=s.length),(s.length<=1000000000)],
   .ret (.ew []) (eu (pS T A b X R O Q (lT (rs.str n) F))) 7),
  ([((eJ (iB s a f).1 ([]:L)),false)],
   [((0:Int)<=Int.ofNat a/\a<=s.length),(s.length<=1000000000)],
   .ret (.ew []) (eu (pS T A b X R O Q (ir (rs.str n) (rs.str (iB s a f).1) F))) 7)]
 :=⟨U,U,U⟩
theorem qZ{α:Type}{s p r:List α}{a:Nat}(h:s.drop a=p++r):s.drop (a+p.length)=r:=by rw[<- List.drop_drop,h,List.drop_left'];rfl
section
variable(T A:Nat)(b:L)(X R O:Int)(Q F:ae)
theorem VM(d:L)(D:List (L))(hd:d.length<=65536)(hn:D.length<=1024)(h32:∀x∈D,x.length=32):
  cW ak 83 [P3,.str (vH d D.length++D.flatten)] (eu (pS T A b X R O Q F)) 7 (.ew []) (eu (pS T A b X (IntKind.i64.wrap (R+1)) O (ir (.str (dw d D)) (oF d D R) Q) F)) 7:=by
 have QT:=sN h32;have hhl:=wL d D.length;obtain⟨s,hs⟩:∃s,s=vH d D.length++D.flatten:=⟨_,rfl⟩;rw[<- hs];have PI:s.length<=1000000:=by rw[hs,ax];omega
 have d0:s.drop 0=pR ((1:Nat):Int)++(jz d++(jw (Int.ofNat D.length)++D.flatten)):=by
  rw[hs,bn];unfold vH;simp only[bB];rfl
 have d1:=qZ d0;rw[show 0+(pR ((1:Nat):Int)).length=1 from rfl]at d1;have d2:=qZ d1;have d3:=qZ d2;have r1:=M3 dU d0;have r2:=zA K d1;have r3:=G9 K d2;have hv:=mE (Int.ofNat D.length);have l3:1+(jz d).length+(jw (Int.ofNat D.length)).length+D.flatten.length=s.length:=by
  have e:=aN List.length d0;simp only[ax,bn]at e;rw[show(pR ((1:Nat):Int)).length=1 from rfl]at e;omega
 rw[show 1+(jz d).length=(jz d).length+1 by omega]at *;refine c5 Tryz.func83 (code:=Ls) U U ?_;obtain⟨L1,BQ⟩:=afZ T A b X R O Q F s;rw[r1]at BQ;refine lX 2 uJ mo U BQ (fm ⟨dU,K⟩ (fm K (eX ⟨dU,dU⟩))) ?_;refine fB (i:=0) U ?_;refine fA (Q1:=fJ ak 7 Tryz.f83 fun v h n=>v= .ew []/\h=eu (pS T A b X (IntKind.i64.wrap (R+1)) O (ir (.str (dw d D)) (oF d D R) Q) F)/\n=7) ?_ fun y s h=>x9 h;show TG ak 7 Tryz.f83.ntmps Lt (eG [(0,P3),(4,.ptr (some (7,0))),(11,.int .i64 1)] (LD T A b X R O Q F s 1 false []) 8) _;refine cZ U ?_;refine fO uJ (af0 T A b X R O Q F s 1 false 1) fun g hg I=>?_;simp only[aF,aL,bw]at hg;rcases hg with rfl|rfl
 case inr=>exact absurd (I _ (aq.2 rfl)) dU
 refine⟨cT,fun s' dO=>c6 dO ?_⟩;refine BZ (t:=true) U U (fun _=>?_) (fun h=>by cases h);refine c6 (live:=[0,4]) (s2:=eG [(0,P3),(4,.ptr (some (7,0)))] (LD T A b X R O Q F s 1 false []) 8) U ?_;obtain⟨L3,wR⟩:=amU T A b X R O Q F s 1 false;rw[r2]at wR;refine lX 2 uJ mo U wR (fm ⟨dU,K⟩ (eX K)) ?_;refine cZ U ?_;refine cZ U ?_;have r3f:iL s ((jz d).length+1) false=_:=r3;obtain⟨L4,HK⟩:=amV T A b X R O Q F s ((jz d).length+1) false d;rw[r3f]at HK;refine gC uJ mo l9 U HK (dG ?_);refine⟨fm ⟨az _,K⟩ (fm K (eX rfl)),fun s' dO=>?_⟩;obtain⟨a,ha⟩:∃a,a=(jz d).length+1+(jw (Int.ofNat D.length)).length:=⟨_,rfl⟩;rw[<- ha]at dO d3 l3;have mL:∀i,i<=D.length->s.drop (a+32*i)=(D.drop i).flatten:=by
  intro i
  induction i with
  |zero=>intro _;simpa using d3
  |succ i ih=>
   intro hi;have ih:=ih K;rw[bH (l:=D) K,List.flatten_cons]at ih;have B:=qZ ih;rw[h32 _ (b7 _)]at B;rw[show a+32*(i+1)=a+32*i+32 by omega];exact B
 have htk:∀i (hi:i<D.length),rj s (a+32*i) false (32:Int)=(D[i],a+32*i+32,false):=by
  intro i hi;have N:=mL i K;rw[bH hi,List.flatten_cons]at N;have B:=He N;rw[h32 _ (b7 _)]at B;exact B
 have ku:∀i,i<=D.length->a+32*i<=s.length:=fun i hi=>by omega
 let fr:Nat->St:=fun i=>match i with
  |0=>sA0 T A b X R O Q F s a false d D.length 0
  |i+1=>sA1 T A b X R O Q F s (a+32*(i+1)) false d D.length (i+1) (i+1) (strs (D.take (i+1)))
 have tail:∀s',gF ak 7 Tryz.f83.ntmps s' (fr D.length)->TG ak 7 Tryz.f83.ntmps abk s' (fJ ak 7 Tryz.f83 fun v h n=>v= .ew []/\h=eu (pS T A b X (IntKind.i64.wrap (R+1)) O (ir (.str (dw d D)) (oF d D R) Q) F)/\n=7):=by
  intro s' dO;refine dO _ _ ?_;have hj:=hU d D h32;rcases Nat.eq_zero_or_pos D.length with h0|h0
  . have:D=[]:=List.eq_nil_of_length_eq_zero h0;subst this;refine c6 (live:=[0,5,6]) (s2:=eG [(0,P3),(5,.str d),(6,eM)] (eu (pS T A b X R O Q F)) 7) U ?_;refine r7 uJ mo _ U (amW T A b X R O Q F d) (dG ?_);refine⟨fm rfl (fm rfl (fm rfl (fm rfl (fm dU (eX ?_))))),_,_,_,rfl,rfl,rfl,rfl⟩;show(eI [d]).length<=_;simp only[bR]at hj;omega
  . have hS:fr D.length=sA1 T A b X R O Q F s (a+32*D.length) false d D.length D.length D.length (strs D):=by
     obtain⟨k,hk⟩:∃k,D.length=k+1:=⟨D.length-1,K⟩;show(match D.length with|0=>_|i+1=>_)=_;have e:D.take (k+1)=D:=by rw[<- hk,aU]
     rw[hk];simp only[e]
    rw[hS];refine tV [8] (cS:=[(strs D).length=D.length*1]) (s2:={ eG [(0,P3),(4,.ptr (some (7,0))),(5,.str d),(6,.dS false D.length (strs D)),(17,.int .i64 (Int.ofNat D.length)),(18,.int .i64 (Int.ofNat D.length))] (LD T A b X R O Q F s (a+32*D.length) false [(8,.deep (strs D))]) 9 with h:=(LD T A b X R O Q F s (a+32*D.length) false [(8,.deep (strs D))]).set 8 none }) U (eX (by rw[eN,bk])) ?_;refine c6 (live:=[0,5,6]) (s2:=eG [(0,P3),(5,.str d),(6,.dS false D.length (strs D))] (eu (pS T A b X R O Q F)) 7) U ?_;have hr:=amX T A b X R O Q F d D.length (strs D);rw[fR]at hr;refine r7 uJ mo _ U hr (dG ?_);exact⟨fm rfl (fm rfl (fm rfl (fm rfl (fm K (fm K (fm h0 (fm (eN D) (eX K)))))))),_,_,_,rfl,rfl,rfl,rfl⟩
 refine jx 1 D.length fr U U (.norm dO) (fun i hi=>?_) ?_
 . have ht:=htk i hi;cases i with
   |zero=>
    obtain⟨L5,wK⟩:=af1 T A b X R O Q F s a false d D.length 0;rw[show a+32*0=a by omega]at ht;rw[ht]at wK;refine gC uJ mo l9 U wK fun g hg I=>?_;simp only[aF,aL,bw]at hg;rcases hg with rfl|rfl
    case inr=>exact absurd (aJ (I _ (aq.2 rfl))) dm
    refine⟨fm ⟨az _,K⟩ (fm K (eX (fL dm K))),fun s' dO=>?_⟩;have e:D.take 1=[D[0]]:=by
     rw[bG,ay hi];rfl
    refine(gF.norm dO).trans ?_;show gF _ _ _ _ (sA1 T A b X R O Q F s (a+32*1) false d D.length 1 1 (strs (D.take 1)));rw[e];exact .deep [8] U
   |succ i=>
    obtain⟨L5,wK⟩:=af2 T A b X R O Q F s (a+32*(i+1)) false d D.length (i+1) (i+1) (strs (D.take (i+1)));rw[ht]at wK;refine gC uJ mo l9 U wK fun g hg I=>?_;simp only[aF,aL,bw]at hg;rcases hg with rfl|rfl
    case inr=>exact absurd (aJ (I _ (aq.2 rfl))) dm
    have hl:(strs (D.take (i+1))).length=i+1:=by rw[eN,aZ];omega
    refine⟨fm ⟨az _,ku _ K⟩ (fm K (fm K (fm dU (fm (lZ K) (eX (fL dm K)))))),fun s' dO=>?_⟩;have e:List.take ((i+1)*1) (List.drop 0 (strs (D.take (i+1))))++[rs.str D[i+1]]=strs (D.take (i+1+1)):=by
     rw[bn,bk,bq K];rw[bG (i:=i+1),ay hi];unfold strs;rw[aY];rfl
    rw[e]at dO;exact .norm dO
 . rcases Nat.eq_zero_or_pos D.length with h0|h0
   . have N:fr D.length=sA0 T A b X R O Q F s a false d D.length 0:=by
      show(match D.length with|0=>_|i+1=>_)=_;rw[h0]
     rw[N]at tail ⊢;refine fO uJ (af1 T A b X R O Q F s a false d D.length 0) fun g hg I=>?_;simp only[aF,aL,bw]at hg;rcases hg with rfl|rfl
     . exact absurd (aE (I _ (aq.2 rfl))) dm
     . exact⟨cT,fun s' dO=>⟨by simp,by simp only[dV,andThen];exact tail s' (.norm dO)⟩⟩
   . have N:fr D.length=sA1 T A b X R O Q F s (a+32*D.length) false d D.length D.length D.length (strs D):=by
      obtain⟨k,hk⟩:∃k,D.length=k+1:=⟨D.length-1,K⟩;show(match D.length with|0=>_|i+1=>_)=_;have e:D.take (k+1)=D:=by rw[<- hk,aU]
      rw[hk];simp only[e]
     rw[N]at tail ⊢;refine fO uJ (af2 T A b X R O Q F s (a+32*D.length) false d D.length D.length D.length (strs D)) fun g hg I=>?_;simp only[aF,aL,bw]at hg;rcases hg with rfl|rfl
     . exact absurd (aE (I _ (aq.2 rfl))) K
     . exact⟨cT,fun s' dO=>⟨by simp,by simp only[dV,andThen];exact tail s' (.norm dO)⟩⟩
theorem VN(n dd:L)(hn:n.length<=1000000)(hd:dd.length<=1000000):
  cW ak 83 [P3,.str (pR 2++jz n++jz dd)] (eu (pS T A b X R O Q F)) 7 (.ew []) (eu (pS T A b X R O Q (if dd=[]then lT (.str n) F else ir (.str n) (.str dd) F))) 7:=by
 obtain⟨s,hs⟩:∃s,s=pR 2++jz n++jz dd:=⟨_,rfl⟩;rw[<- hs];have t1:=o9 n;have t2:=o9 dd;have PI:s.length<=3000000:=by
  rw[hs,ax,ax,show(pR 2).length=1 from rfl];omega
 have d0:s.drop 0=pR ((2:Nat):Int)++(jz n++(jz dd++[])):=by
  rw[hs,bn];simp only[bB,cA];rfl
 have d1:=qZ d0;rw[show 0+(pR ((2:Nat):Int)).length=1 from rfl]at d1;have d2:=qZ d1;have r1:=M3 dU d0;have r2:=zA K d1;have r3:=zA K d2;have l3:1+(jz n).length+(jz dd).length=s.length:=by
  have e:=aN List.length d0;simp only[ax,bn,bR]at e;rw[show(pR ((2:Nat):Int)).length=1 from rfl]at e;omega
 refine c5 Tryz.func83 (code:=Ls) U U ?_;obtain⟨L1,BQ⟩:=afZ T A b X R O Q F s;rw[r1]at BQ;refine lX 2 uJ mo U BQ (fm ⟨dU,K⟩ (fm K (eX ⟨dU,dU⟩))) ?_;refine fB (i:=0) U ?_;refine fA (Q1:=fJ ak 7 Tryz.f83 fun v h k=>v= .ew []/\h=eu (pS T A b X R O Q (if dd=[]then lT (.str n) F else ir (.str n) (.str dd) F))/\k=7) ?_ fun y s h=>x9 h;show TG ak 7 Tryz.f83.ntmps Lt (eG [(0,P3),(4,.ptr (some (7,0))),(11,.int .i64 2)] (LD T A b X R O Q F s 1 false []) 8) _;refine cZ U ?_;refine fO uJ (af0 T A b X R O Q F s 1 false 2) fun g hg I=>?_;simp only[aF,aL,bw]at hg;rcases hg with rfl|rfl
 . exact absurd (I _ (aq.2 rfl)) dU
 refine⟨cT,fun s' dO=>c6 dO ?_⟩;refine BZ (t:=false) U U (fun h=>by cases h) (fun _=>?_);refine c6 (live:=[0,4,11]) (s2:=eG [(0,P3),(4,.ptr (some (7,0))),(11,.int .i64 2)] (LD T A b X R O Q F s 1 false []) 8) U ?_;refine cZ U ?_;refine fO uJ (amY T A b X R O Q F s 1 false) (dG ?_);refine⟨cT,fun s' dO=>c6 dO ?_⟩;refine BZ (t:=true) U U (fun _=>?_) (fun h=>by cases h);refine c6 (live:=[0,4]) (s2:=eG [(0,P3),(4,.ptr (some (7,0)))] (LD T A b X R O Q F s 1 false []) 8) U ?_;refine cZ U ?_;obtain⟨L4,HK⟩:=af3 T A b X R O Q F s 1 false;rw[r2]at HK;refine gC uJ mo l9 U HK (dG ?_);refine⟨fm ⟨dU,K⟩ (eX K),fun s' dO=>?_⟩;have wK:=af5 T A b X R O Q F s n (1+(jz n).length) false;rw[r3]at wK;refine c6 dO ?_;refine r7 amZ mo _ U wK fun g hg I=>?_;simp only[aF,aL,bw]at hg;have cS:∀p∈[((0:Int)<=Int.ofNat (1+(jz n).length)/\1+(jz n).length<=s.length),(s.length<=1000000000)],p:=fm ⟨az _,K⟩ (eX K);have hb:eJ dd []=decide (dd=[]):=by
  rw[fV];cases dd<;>rfl
 rcases hg with rfl|rfl
 all_goals
  have q:=I _ (aq.2 rfl);have q:eJ dd []=_:=q;rw[hb]at q;refine⟨cS,_,_,_,rfl,rfl,?_,rfl⟩
 . rw[aH (aE q)]
 . rw[aI (aJ q)]
end
noncomputable abbrev abm:Code:=dN Tryz.f103
noncomputable abbrev am0:Code:=dh 1 abm
noncomputable abbrev abn:Code:=dz (dz am0)
section
variable(T A:Nat)(b:L)(X O:Int)(Q F:ae)(lg:L)
def sRw:St:=eG [(1,.ptr (some (9,0))),(2,.ptr (some (10,0))),(12,v103)] (J (lRv T A b X O Q F 0 [] [] 0++[(11,.cells [.str lg])])) 12
noncomputable def oRw:lf:=.loop true none (sRw T A b X O Q F lg).S [13,14] afu afv
noncomputable def OV(R:Int)(mQ nj:ae)(en:Int):H lf:=J (lRv T A b X O Q F R mQ nj en++[(11,.cells [.str lg]),(12,.mF),(13,oRw T A b X O Q F lg)])
noncomputable def mRc(R:Int)(mQ nj:ae)(en:Int)(a:Nat)(f:Bool):H lf:=J (lRv T A b X O Q F R mQ nj en++[(11,.cells [.str lg]),(12,.mF),(13,oRw T A b X O Q F lg),(14,.cells (G7 lg a f))])
noncomputable def PJ(R:Int)(mQ nj:ae)(en:Int)(a:Nat)(f:Bool):St:=eG [(0,.fn (.yield 13) [] []),(3,.ptr (some (14,0)))] (mRc T A b X O Q F lg R mQ nj en a f) 15
end
noncomputable abbrev am2(args:ag)(h:H lf)(n:Nat)(v:V)(N:H lf)(n1:Nat):fb:=gP ak (VC 83 args h n v N n1 W19) H0 1000 40
theorem am3(T A:Nat)(b:L)(X O:Int)(Q F:ae)(lg:L):c9 me [] 14 Tryz.f103 [0,3] (eV 1 abm) (cU [.fn (.yield 13) [] [],.ptr (some (11,0))] (OV T A b X O Q F lg 0 [] [] 0) 14) [([],
   [],
   .to .normal (PJ T A b X O Q F lg 0 [] [] 0 0 false))]
 :=cR.of U U U
section
variable(T A:Nat)(b:L)(X O:Int)(Q F:ae)(lg:L)
noncomputable def mRd(R:Int)(mQ nj:ae)(en:Int)(a:Nat):H lf:=(mRc T A b X O Q F lg R mQ nj en a false).set 13 none
noncomputable def sRe(R:Int)(mQ nj:ae)(en:Int)(t:L)(k:Int)(a:Nat)(f:Bool):St:=eG [(0,.fn (.yield 13) [] []),(3,.ptr (some (14,0))),(4,.str t),(5,.int .i64 k)] (mRc T A b X O Q F lg R mQ nj en a f) 15
end
noncomputable abbrev abo:Code:=dz (dY abn)
section
variable(T A:Nat)(b:L)(X O:Int)(Q F:ae)
theorem am5(lg:L)(R:Int)(mQ nj:ae)(en:Int)(a:Nat):c9 me [(10,.split)] 14 Tryz.f103 [0,3] (dP abn) (PJ T A b X O Q F lg R mQ nj en a false) [([((decide (IntKind.i64.wrap ((Int.ofNat lg.length)-Int.ofNat a)>(0:Int))),true)],
   [],
   .to .normal (PJ T A b X O Q F lg R mQ nj en a false)),
  ([((decide (IntKind.i64.wrap ((Int.ofNat lg.length)-Int.ofNat a)>(0:Int))),false)],
   [],
   .to (.exit 0) (PJ T A b X O Q F lg R mQ nj en a false))]
 :=cR.of U U U
theorem am6(lg:L)(R:Int)(mQ nj:ae)(en:Int)(a:Nat):c9 me [] 14 Tryz.f103 [0,3,4,5] (eV 2 abo) (PJ T A b X O Q F lg R mQ nj en a false) [([],
   [((0:Int)<=Int.ofNat a/\a<=lg.length),(lg.length<=1000000000),((0:Int)<=Int.ofNat (iB lg a false).2.1/\(Int.ofNat (iB lg a false).2.1).toNat<=lg.length),(lg.length<=1000000000),((0:Int)<=(4:Int)/\4<=8)],
   .to .normal (sRe T A b X O Q F lg R mQ nj en (iB lg a false).1 (yu lg (iB lg a false).2.1 (iB lg a false).2.2 4).1 (yu lg (iB lg a false).2.1 (iB lg a false).2.2 4).2.1 (yu lg (iB lg a false).2.1 (iB lg a false).2.2 4).2.2))]
 :=cR.of U U U
theorem am7(lg:L)(R:Int)(mQ nj:ae)(en:Int)(t:L)(k:Int)(a:Nat)(nx2:Int)(uv rt2:ae):c9 (am2 [P3,.str t] (mRd T A b X O Q F lg R mQ nj en a) 15 (.ew []) (mRd T A b X O Q F lg nx2 uv rt2 en a) 15) [(24,.di (.bool false))] 14 Tryz.f103 [0,3] (dh 2 abo) (sRe T A b X O Q F lg R mQ nj en t k a false) [([],
   [(t.length<1000000000),(V.bool (k !=IntKind.i64.wrap (qX t))=V.bool false),(fC [.ptr (some (3,0)),.str t] (mRd T A b X O Q F lg R mQ nj en a) 15)],
   .to .normal (PJ T A b X O Q F lg nx2 uv rt2 (Int.ofNat a) a false))]
 :=cR.of U U U
--@ aup (T A:Nat) (b:L) (X O:Int) (Q F:ae) (lg:L) (R:Int) (mQ nj:ae) (en:Int) (t:L) (k:Int) (a:Nat) (f:Bool)|me | [(17,.split),(24,.di (.bool true))]|14|Tryz.f103 | []|dh 2 abo|sRe T A b X O Q F lg R mQ nj en t k a f | [afu,afv] | | | OV T A b X O Q F lg R mQ nj en ;;OV T A b X O Q F lg R mQ nj en
abbrev Sc(lg:L)(a:Nat):Prop:=(0:Int)<=Int.ofNat (iB lg a false).2.1/\(Int.ofNat (iB lg a false).2.1).toNat<=lg.length
theorem am8(lg:L)(R:Int)(mQ nj:ae)(en:Int)(a:Nat):∃aa,zx ak me [(10,.split),(17,.split),(24,.di (.bool true))] 1000 14 Tryz.f103 [0,3] 0 (abn) (PJ T A b X O Q F lg R mQ nj en a false) aa
  [([((decide (IntKind.i64.wrap ((Int.ofNat lg.length)-Int.ofNat a)>(0:Int))),true),(((yu lg (Int.ofNat (iB lg a false).2.1).toNat (iB lg a false).2.2 4).2.2),true)],
   [((0:Int)<=Int.ofNat a/\a<=lg.length),(lg.length<=1000000000),Sc lg a,(lg.length<=1000000000),((0:Int)<=(4:Int)/\4<=8),(V.bool true=V.bool true)],
   .ret (.ew []) (OV T A b X O Q F lg R mQ nj en) 14),
  ([((decide (IntKind.i64.wrap ((Int.ofNat lg.length)-Int.ofNat a)>(0:Int))),true),(((yu lg (Int.ofNat (iB lg a false).2.1).toNat (iB lg a false).2.2 4).2.2),false)],
   [((0:Int)<=Int.ofNat a/\a<=lg.length),(lg.length<=1000000000),Sc lg a,(lg.length<=1000000000),((0:Int)<=(4:Int)/\4<=8),((iB lg a false).1.length<1000000000),(V.bool ((yu lg (Int.ofNat (iB lg a false).2.1).toNat (iB lg a false).2.2 4).1 !=IntKind.i64.wrap (qX (iB lg a false).1))=V.bool true)],
   .ret (.ew []) (OV T A b X O Q F lg R mQ nj en) 14),
  ([((decide (IntKind.i64.wrap ((Int.ofNat lg.length)-Int.ofNat a)>(0:Int))),false)],
   [],
   .ret (.ew []) (OV T A b X O Q F lg R mQ nj en) 14)]
 :=zx.of U U U
end
inductive jB where
 |chunk (d:L) (D:List (L))
 |root (n dd:L)
def jB.body:jB->L
 | .chunk d D=>vH d D.length++D.flatten
 | .root n dd=>pR 2++jz n++jz dd
def jB.bytes(r:jB):L:=nI r.body
def jB.ok:jB->Prop
 | .chunk d D=>d.length<=65536/\D.length<=1024/\∀x∈D,x.length=32
 | .root n dd=>n.length<=1000/\dd.length<=1000
theorem jB.DD{r:jB}(h:r.ok):r.body.length<=200000:=by
 cases r with
 |chunk d D=>
  obtain⟨N,B,h3⟩:=h;have:=wL d D.length;have:=sN h3;simp only[jB.body,ax];omega
 |root n dd=>
  obtain⟨N,B⟩:=h;have:=o9 n;have:=o9 dd;simp only[jB.body,ax,show(pR 2).length=1 from rfl];omega
structure LS where
 R:Int
 Q:ae
 F:ae
def B5(s:LS):jB->LS
 | .chunk d D=>⟨IntKind.i64.wrap (s.R+1),ir (.str (dw d D)) (oF d D s.R) s.Q,s.F⟩
 | .root n dd=>⟨s.R,s.Q,if dd=[]then lT (.str n) s.F else ir (.str n) (.str dd) s.F⟩
def ls0:LS:=⟨0,[],[]⟩
abbrev jc(l:List jB):LS:=l.foldl B5 ls0
def dc(l:List jB):L:=(l.map jB.bytes).flatten
theorem abp(T A:Nat)(b:L)(X R O:Int)(Q F:ae)(r:jB)(h:r.ok):cW ak 83 [P3,.str r.body] (eu (pS T A b X R O Q F)) 7 (.ew []) (eu (pS T A b X (B5 ⟨R,Q,F⟩ r).R O (B5 ⟨R,Q,F⟩ r).Q (B5 ⟨R,Q,F⟩ r).F)) 7:=by
 cases r with
 |chunk d D=>exact VM T A b X R O Q F d D h.1 h.2.1 h.2.2
 |root n dd=>exact VN T A b X R O Q F n dd (by have:=h.1;omega) (by have:=h.2;omega)
def nsR:List (Option Nat):=[some 0,some 1,some 2,some 3,some 4,some 7,some 8]
section
variable(T A:Nat)(b:L)(X O:Int)(Q F:ae)(lg:L)
theorem VO(R:Int)(mQ nj:ae)(en:Int)(a:Nat)(r:jB)(h:r.ok):cW ak 83 [P3,.str r.body] (mRd T A b X O Q F lg R mQ nj en a) 15 (.ew [])
  (mRd T A b X O Q F lg (B5 ⟨R,mQ,nj⟩ r).R (B5 ⟨R,mQ,nj⟩ r).Q (B5 ⟨R,mQ,nj⟩ r).F en a) 15:=by
 have I:=abp T A b X R O mQ nj r h;generalize B5 ⟨R,mQ,nj⟩ r=q at I ⊢;obtain⟨nx2,uv,rt2⟩:=q;generalize r.body=t at I ⊢;have BC:Fu (mRd T A b X O Q F lg R mQ nj en a) 3=some (nsR,pS T A b X R O mQ nj):=by kernel_rfl
 exact gm (ns:=nsR) (Dv BC U U).1 U U I
def Stop(lg:L)(a:Nat):Prop:=a=lg.length\/(yu lg (iB lg a false).2.1 (iB lg a false).2.2 4).2.2=true\/(yu lg (iB lg a false).2.1 (iB lg a false).2.2 4).1≠IntKind.i64.wrap (qX (iB lg a false).1)
theorem oI{r:jB}:0<r.bytes.length:=by
 have:=x7 r.body;unfold jB.bytes;omega
section
variable{l:List jB}{i:Nat}
theorem Br(h:i<l.length):dc (l.take (i+1))=dc (l.take i)++(l[i]).bytes:=by
 unfold dc;rw[bG,ay h,cE,aY,cz];simp
theorem Ji(h:i<l.length):dc (l.drop i)=(l[i]).bytes++dc (l.drop (i+1)):=by
 unfold dc;rw[bH h,bY,List.flatten_cons]
theorem uc(l:List jB)(i:Nat):dc l=dc (l.take i)++dc (l.drop i):=by
 unfold dc;rw[<- cz,<- aY,cn]
theorem Sd(h:i<l.length):jc (l.take (i+1))=B5 (jc (l.take i)) l[i]:=by
 unfold jc;rw[bG,ay h,cE,List.foldl_append];rfl
end
theorem Se{lg:L}{a:Nat}{r:jB}{x:L}(hr:r.ok)(h:lg.drop a=r.bytes++x):
  iB lg a false=(r.body,a+(jz r.body).length,false)/\yu lg (a+(jz r.body).length) false 4=(IntKind.i64.wrap (qX r.body),a+r.bytes.length,false):=by
 have hl:=jB.DD hr;have N:lg.drop a=jz r.body++(dX (IntKind.i64.wrap (qX r.body))++x):=by
  rw[h];unfold jB.bytes nI;rw[bB]
 refine⟨zA K N,?_⟩;rw[Sb (qZ N)];unfold jB.bytes nI;rw[ax,cD];rfl
theorem Sf(s:L)(a:Nat)(f:Bool):(iB s a f).1.length<=s.length:=by
 unfold iB rj;simp only;split
 . simp
 . simp only[aZ,bV];omega
theorem Sg(l:List jB)(x:L)(hl:∀r∈l,r.ok)(HJ:lg=dc l++x)(BC:Stop lg (dc l).length)(l8:lg.length<1000000000):
  cW ak 103 [.fn (.yield 13) [] [],.ptr (some (11,0))] (OV T A b X O Q F lg 0 [] [] 0) 14 (.ew []) (OV T A b X O Q F lg (jc l).R (jc l).Q (jc l).F (Int.ofNat (dc l).length)) 14:=by
 refine c5 Tryz.func103 (code:=abm) U U ?_;refine iF  1 uJ (am3 T A b X O Q F lg) cT ?_
 let fr:Nat->St:=fun i=>PJ T A b X O Q F lg (jc (l.take i)).R (jc (l.take i)).Q (jc (l.take i)).F (Int.ofNat (dc (l.take i)).length) (dc (l.take i)).length false
 have mL:∀i,i<=l.length->lg.drop (dc (l.take i)).length=dc (l.drop i)++x:=by
  intro i hi;have:lg=dc (l.take i)++(dc (l.drop i)++x):=by rw[HJ,uc l i,bB]
  rw[this,List.drop_left'];rfl
 have ku:∀i,i<=l.length->(dc (l.take i)).length+(dc (l.drop i)).length+x.length=lg.length:=by
  intro i hi;have N:=aN List.length (mL i hi);have B:=aN List.length (uc l i);rw[ax]at B;rw[HJ,ax];omega
 refine jx 0 l.length fr U U .refl (fun i hi=>?_) ?_
 . have iy:=hl _ (b7 hi);have hp:=mL i K;have fI:=ku i K;rw[Ji hi]at hp fI;rw[bB]at hp;have M4:=oI (r:=l[i]);obtain⟨q1,q2⟩:=Se iy hp;rw[ax]at fI;have hbo:=jB.DD iy;have yp:(jz (l[i]).body).length<=(l[i]).bytes.length:=by unfold jB.bytes nI;rw[ax];omega
   refine cZ U ?_;refine fO uJ (am5 T A b X O Q F lg (jc (l.take i)).R (jc (l.take i)).Q (jc (l.take i)).F (Int.ofNat (dc (l.take i)).length) (dc (l.take i)).length) fun g hg I=>?_;simp only[aF,aL,bw]at hg;have hw:IntKind.i64.wrap ((Int.ofNat lg.length)-Int.ofNat (dc (l.take i)).length)=((lg.length-(dc (l.take i)).length:Nat):Int):=by
    rw[show(Int.ofNat lg.length)-Int.ofNat (dc (l.take i)).length=((lg.length-(dc (l.take i)).length:Nat):Int)by rw[kr,kr];omega];exact lO K
   rcases hg with rfl|rfl
   case inr=>exact absurd (aJ (I _ (aq.2 rfl))) (by rw[hw];omega)
   refine⟨cT,fun s' dO=>c6 dO ?_⟩;refine fB (i:=1) U ?_;obtain⟨L3,wR⟩:=am6 T A b X O Q F lg (jc (l.take i)).R (jc (l.take i)).Q (jc (l.take i)).F (Int.ofNat (dc (l.take i)).length) (dc (l.take i)).length;rw[q1]at wR;have q2':yu lg (l[i].body,(dc (l.take i)).length+(jz (l[i]).body).length,false).2.1 (l[i].body,(dc (l.take i)).length+(jz (l[i]).body).length,false).2.2 4=_:=q2;rw[q2']at wR;refine lX 2 uJ mo U wR (fm ⟨az _,K⟩ (fm K (fm ⟨az _,by show(dc (l.take i)).length+(jz (l[i]).body).length<=_;omega⟩ (fm K (eX ⟨dU,dU⟩))))) ?_;have Qs:=VO T A b X O Q F lg (jc (l.take i)).R (jc (l.take i)).Q (jc (l.take i)).F (Int.ofNat (dc (l.take i)).length) ((dc (l.take i)).length+(l[i]).bytes.length) l[i] iy;refine fO (CX.of mo po (MX (au U) Qs G8) H0 1000 40) (am7 T A b X O Q F lg (jc (l.take i)).R (jc (l.take i)).Q (jc (l.take i)).F (Int.ofNat (dc (l.take i)).length) (l[i]).body (IntKind.i64.wrap (qX (l[i]).body)) ((dc (l.take i)).length+(l[i]).bytes.length) (B5 (jc (l.take i)) l[i]).R (B5 (jc (l.take i)) l[i]).Q (B5 (jc (l.take i)) l[i]).F) (dG ?_);refine⟨fm K (fm (by simp) (eX ⟨rfl,rfl,rfl⟩)),fun s' dO=>?_⟩;show gF ak 14 Tryz.f103.ntmps s' (fr (i+1));have e1:fr (i+1)=PJ T A b X O Q F lg (B5 (jc (l.take i)) l[i]).R (B5 (jc (l.take i)) l[i]).Q (B5 (jc (l.take i)) l[i]).F (Int.ofNat ((dc (l.take i)).length+(l[i]).bytes.length)) ((dc (l.take i)).length+(l[i]).bytes.length) false:=by
    show PJ _ _ _ _ _ _ _ _ _ _ _ _ _ _=_;rw[Sd hi,Br hi,ax]
   rw[e1];exact .norm dO
 . have N:fr l.length=PJ T A b X O Q F lg (jc l).R (jc l).Q (jc l).F (Int.ofNat (dc l).length) (dc l).length false:=by
    show PJ _ _ _ _ _ _ _ _ _ _ _ _ _ _=_;rw[aU]
   rw[N];have B:=ku l.length (aA _);rw[aU]at B;generalize (dc l).length=a at *;have x1:=VJ lg a false K;have x2:=Sf lg a false;obtain⟨L6,LF⟩:=am8 T A b X O Q F lg (jc l).R (jc l).Q (jc l).F (Int.ofNat a) a;refine R4 0 uJ mo (fun v h n=>v= .ew []/\h=OV T A b X O Q F lg (jc l).R (jc l).Q (jc l).F (Int.ofNat a)/\n=14) U LF (fun s' dO=>⟨by simp,by rw[dV];exact dO⟩) fun g hg I=>?_;simp only[aF,aL,bw]at hg;have q1:(0:Int)<=Int.ofNat a/\a<=lg.length:=⟨az _,K⟩;have q2:lg.length<=1000000000:=by omega
   have q3:(0:Int)<=Int.ofNat (iB lg a false).2.1/\(Int.ofNat (iB lg a false).2.1).toNat<=lg.length:=⟨az _,x1⟩;have q4:(0:Int)<=(4:Int)/\4<=8:=⟨dU,dU⟩;have Lx:∀s',fJ ak 14 Tryz.f103 (fun v h n=>v= .ew []/\h=OV T A b X O Q F lg (jc l).R (jc l).Q (jc l).F (Int.ofNat a)/\n=14) .ret s'->(Exit.ret≠ .normal/\mY 0 (fJ ak 14 Tryz.f103 (fun v h n=>v= .ew []/\h=OV T A b X O Q F lg (jc l).R (jc l).Q (jc l).F (Int.ofNat a)/\n=14)) .ret s'):=fun s' h=>⟨by simp,h⟩;have hw:IntKind.i64.wrap ((Int.ofNat lg.length)-Int.ofNat a)=((lg.length-a:Nat):Int):=by
    rw[show(Int.ofNat lg.length)-Int.ofNat a=((lg.length-a:Nat):Int)by rw[kr,kr];omega];exact lO K
   rcases hg with rfl|rfl|rfl
   . exact⟨fm q1 (fm q2 (fm q3 (fm q2 (fm q4 (eX trivial))))),⟨rfl,rfl,rfl⟩,Lx⟩
   . have c1:=aE (I _ (aP ..));have c2:=I _ (aK _ (aq.2 rfl));have fU:(yu lg (iB lg a false).2.1 (iB lg a false).2.2 4).1≠IntKind.i64.wrap (qX (iB lg a false).1):=by
      rcases BC with h|h|h
      . rw[hw]at c1;omega
      . have c2:(yu lg (iB lg a false).2.1 (iB lg a false).2.2 4).2.2=false:=c2;rw[h]at c2;cases c2
      . exact h
     exact⟨fm q1 (fm q2 (fm q3 (fm q2 (fm q4 (fm (Nat.lt_of_le_of_lt x2 l8) (eX (aN V.bool (bne_iff_ne.2 fU)))))))),⟨rfl,rfl,rfl⟩,Lx⟩
   . exact⟨cT,⟨rfl,rfl,rfl⟩,Lx⟩
end
section
variable(T A:Nat)(b:L)(X R O:Int)(Q F mQ nj:ae)
def hRg(lw:V)(o4:af)(X R:Int):H lf:=J ([(0,.ints .u32 gS),(1,.ints .u32 gR),(3,.cells [lw,.int .i64 X,.map (some 7),.map (some 8),.int .i64 R,.bool false,.bool false,.int .i64 O])]++o4++[(5,.dI none Q),(6,.dI none F),(7,.dI none mQ),(8,.dI none nj)])
end
section
variable(T A:Nat)(b:L)(X O:Int)(Q F:ae)(lg:L)
theorem am9:c9 me [(11,.di (.str lg))] 7 Tryz.f57 [1,2,12] (dP (dP ON)) (eG [(1,.ptr (some (9,0))),(2,.ptr (some (10,0)))] (J (lRv T A b X O Q F 0 [] [] 0)) 11) [([],
   [(0+T<=b.length),(V.str (List.take T (List.drop 0 b))=V.str lg)],
   .to .normal (sRw T A b X O Q F lg))]
 :=cR.of U U U
theorem ana(R:Int)(mQ nj:ae)(e:Nat):vJ ak me [] 1000 7 Tryz.f57 (dY ON) (tT (sRw T A b X O Q F lg) (OV T A b X O Q F lg R mQ nj (Int.ofNat e)) 14)
  [([],
   [((0:Int)<=Int.ofNat e/\Int.ofNat e<=(Int.ofNat A))],
   .ret (.ew []) (hRg O Q F mQ nj (.dj (some (4,0)) e A 1) [(4,.jf 5 false b)] (Int.ofNat e) R) 9)]
 :=⟨U,U,U⟩
end
section
variable(X R O:Int)(Q F:ae)
def lRn(X R:Int):af:=[(0,.ints .u32 gS),(1,.ints .u32 gR),(3,.cells [eM,.int .i64 X,.map (some 7),.map (some 8),.int .i64 R,.bool false,.bool false,.int .i64 O]),(5,.dI none Q),(6,.dI none F),(7,.dI none []),(8,.dI none []),(9,.cells [P3]),(10,.cells [.int .i64 0])]
def sRn(X:Int):St:=eG [(1,.ptr (some (9,0))),(2,.ptr (some (10,0)))] (J (lRn O Q F X 0)) 11
end
theorem af6(X R O:Int)(Q F:ae):c9 me [] 7 Tryz.f57 [1,2] (eV 3 RX) (cU [P3] (eu (pN X R O Q F)) 7) [([],
   [],
   .to .normal (eG [(1,.ptr (some (9,0))),(2,.ptr (some (10,0)))] (J [(0,.ints .u32 gS),(1,.ints .u32 gR),(3,.cells [eM,.int .i64 X,.map (some 7),.map (some 8),.int .i64 0,.bool false,.bool false,.int .i64 O]),(5,.dI none Q),(6,.dI none F),(7,.map [] 0),(8,.map [] 0),(9,.cells [P3]),(10,.cells [.int .i64 0])]) 11))]
 :=cR.of U U U
theorem af7(X O:Int)(Q F:ae):vJ ak me [] 1000 7 Tryz.f57 (ON) (sRn O Q F X)
  [([],
   [((0:Int)<=(0:Int)/\(0:Int)<=(0:Int))],
   .ret (.ew []) (hRg O Q F [] [] eM [] 0 0) 9)]
 :=⟨U,U,U⟩
theorem M5(T A:Nat)(b:L)(X R O:Int)(Q F:ae)(l:List jB)(x:L)(hb:T<=b.length)(iy:∀r∈l,r.ok)(HJ:b.take T=dc l++x)(BC:Stop (b.take T) (dc l).length)(I:T<=A)(l8:T<1000000000):
  cW ak 57 [P3] (eu (pS T A b X R O Q F)) 7 (.ew []) (hRg O Q F (jc l).Q (jc l).F (.dj (some (4,0)) (dc l).length A 1) [(4,.jf 5 false b)] (Int.ofNat (dc l).length) (jc l).R) 9:=by
 refine c5 Tryz.func57 (code:=RX) U U ?_;refine iF  3 XT (afx T A b X R O Q F) cT ?_;refine Az [(7,none),(8,none)] (s2:=eG [(1,.ptr (some (9,0))),(2,.ptr (some (10,0)))] (J (lRv T A b X O Q F 0 [] [] 0)) 11) U ?_;show TG ak 7 Tryz.f57.ntmps ON _ _;refine cZ U ?_;refine cZ U ?_;have HI:(dc l).length+x.length=T:=by
  have:=aN List.length HJ;rw[aZ,ax]at this;omega
 refine fO uJ (am9 T A b X O Q F (b.take T)) (dG ?_);refine⟨fm K (eX rfl),fun s' dO=>c6 dO ?_⟩;refine fB (i:=0) U ?_;refine oH (gf:=103) (lb:=[.ptr (some (11,0))]) U U U U U (Sg T A b X O Q F (b.take T) l x iy HJ BC (by rw[aZ];omega)).one ?_;rintro v h n ⟨rfl,rfl,rfl⟩;refine⟨U,?_⟩;show TG ak 7 Tryz.f57.ntmps (dY ON) (tT (sRw T A b X O Q F (b.take T)) (OV T A b X O Q F (b.take T) (jc l).R (jc l).Q (jc l).F (Int.ofNat (dc l).length)) 14) _;refine r7 uJ mo _ U (ana T A b X O Q F (b.take T) (jc l).R (jc l).Q (jc l).F (dc l).length) (dG ?_);exact⟨eX ⟨az _,dm⟩,_,_,_,rfl,rfl,rfl,rfl⟩
theorem Hf(X R O:Int)(Q F:ae):cW ak 57 [P3] (eu (pN X R O Q F)) 7 (.ew []) (hRg O Q F [] [] eM [] 0 0) 9:=by
 refine c5 Tryz.func57 (code:=RX) U U ?_;refine iF  3 uJ (af6 X R O Q F) cT ?_;refine Az [(7,none),(8,none)] (s2:=sRn O Q F X) U ?_;refine r7 uJ mo _ U (af7 X O Q F) (dG ?_);exact⟨eX ⟨dU,dU⟩,_,_,_,rfl,rfl,rfl,rfl⟩
noncomputable abbrev VP:Code:=dN Tryz.f77
noncomputable abbrev abq:Code:=dh 2 VP
abbrev P8:V:=.ptr (some (8,0))
abbrev OW:V:=.ptr (some (10,0))
abbrev P11:V:=.ptr (some (11,0))
abbrev aV(x:L):ag:=[.str x,P8,P11,OW]
abbrev f78:V:=.fn (.func 78) [] [.ptr (some (7,0))]
section
variable(T A:Nat)(b:L)(X R O:Int)(Q F:ae)
section
variable(sn:ae)
def lV:af:=eK (pS T A b X R O Q F)++[(7,.cells [.map (some 6)]),(8,.cells [.map (some 9)]),(9,.dI none sn),(10,.cells [.fn (.func 77) [] [P8,P11,OW]]),(11,.cells [P3])]
def VQ:St:=eG [(5,P8),(6,OW),(10,f78)] (J (lV T A b X R O Q F [])) 12
noncomputable def lVx:af:=lV T A b X R O Q F sn++[(12,.mF),(13,.loop true none (VQ T A b X R O Q F).S [11] aa2 aa3)]
noncomputable def M6:H lf:=J (lVx T A b X R O Q F sn)
def lMv:af:=[(0,.ints .u32 gS),(1,.ints .u32 gR),(3,.cells (vI 4 5 6 (pS T A b X R O Q F))),(4,.jf 5 false b),(5,.dI none Q),(7,.cells [.map (some 6)]),(8,.cells [.map (some 9)]),(9,.dI none sn),(10,.cells [.fn (.func 77) [] [P8,P11,OW]]),(11,.cells [P3]),(12,.mF)]
def mV:H lf:=J (lMv T A b X R O Q F sn)
noncomputable def YZ:H lf:=((M6 T A b X R O Q F sn).set 6 none).set 13 none
def sVi(D:List (L))(i:Nat):St:=eG [(1,P8),(2,P11),(3,OW),(18,.dS false D.length (strs D)),(19,.int .i64 (Int.ofNat D.length)),(20,.int .i64 (Int.ofNat i))] (mV T A b X R O Q F sn) 15
end
end
section
variable(T A:Nat)(b:L)(X R O:Int)(Q F:ae)(x:L)(sn:ae)(D:List (L))(i:Nat)
theorem anb:c9 me [(9,.di (.bool true))] 15 Tryz.f77 [] (VP) (cU (aV x) (mV T A b X R O Q F sn) 15) [([],
   [((if false=true then V.ew [rs.fW (V.bool false) (dr (rs.str x) sn),V.bool (dr (rs.str x) sn).isSome]else rs.fW (V.bool false) (dr (rs.str x) sn))=V.bool true)],
   .ret (.ew []) (mV T A b X R O Q F sn) 15)]
 :=cR.of U U U
theorem ane:c9 me [(9,.di (.bool false))] 15 Tryz.f77 [0,1,2,3] (eV 2 VP) (cU (aV x) (mV T A b X R O Q F sn) 15) [([],
   [((if false=true then V.ew [rs.fW (V.bool false) (dr (rs.str x) sn),V.bool (dr (rs.str x) sn).isSome]else rs.fW (V.bool false) (dr (rs.str x) sn))=V.bool false)],
   .to .normal (eG [(0,.str x),(1,P8),(2,P11),(3,OW)] (mV T A b X R O Q F (ir (.str x) (.bool true) sn)) 15))]
 :=cR.of U U U
theorem anf(d:L)(D:List (L))(k:Int):c9 me [(17,.di (nJ d D k)),(20,.di (.int .i64 (Int.ofNat 0)))] 15 Tryz.f77 [1,2,3,18,19,20] (dP abq) (eG [(0,.str x),(1,P8),(2,P11),(3,OW)] (mV T A b X R O Q F sn) 15) [([],
   [((if false=true then V.ew [rs.fW (V.agg [V.str ([]:L),V.dj none 0 0 0,V.int aj (0:Int)]) (dr (rs.str x) Q),V.bool (dr (rs.str x) Q).isSome]else rs.fW (V.agg [V.str ([]:L),V.dj none 0 0 0,V.int aj (0:Int)]) (dr (rs.str x) Q))=nJ d D k),(V.int aj (0:Int)=V.int aj (0:Int))],
   .to .normal (eG [(1,.ptr (some (8,0))),(2,.ptr (some (11,0))),(3,.ptr (some (10,0))),(18,.dS false (D.length) (strs D)),(19,.int .i64 ((Int.ofNat D.length))),(20,.int .i64 0)] (J [(0,.ints .u32 gS),(1,.ints .u32 gR),(3,.cells [.dj (some (4,0)) T A 1,.int .i64 X,.map (some 5),.map (some 6),.int .i64 R,.bool false,.bool false,.int .i64 O]),(4,.jf 5 false b),(5,.dI none Q),(7,.cells [.map (some 6)]),(8,.cells [.map (some 9)]),(9,.dI none sn),(10,.cells [.fn (.func 77) [] [.ptr (some (8,0)),.ptr (some (11,0)),.ptr (some (10,0))]]),(11,.cells [.ptr (some (3,0))]),(12,.mF)]) 15))]
 :=cR.of U U U
theorem ang(sn2:ae)(D:List (L))(i:Nat)(p:L):c9 (fG me 77 (aV p) (mV T A b X R O Q F sn) 15 (.ew [],mV T A b X R O Q F sn2,15)) [(21,.split),(22,.di (.dx [.str p])),(27,.di (.int .i64 (Int.ofNat (i+1))))] 15 Tryz.f77 [1,2,3,18,19,20] (dz (dz (dY abq))) (sVi T A b X R O Q F sn D i) [([((decide (Int.ofNat i<Int.ofNat D.length)),true)],
   [((0:Int)<=Int.ofNat i/\Int.ofNat i<(Int.ofNat D.length)),((strs D).length=D.length*1),(V.dx (dF (strs D) (i*1) 1)=V.dx [rs.str p]),(aV p=aV p/\mV T A b X R O Q F sn=mV T A b X R O Q F sn/\15=15),kY (Int.ofNat i+(1:Int)) (i+1)],
   .to .normal (sVi T A b X R O Q F sn2 D (i+1))),
  ([((decide (Int.ofNat i<Int.ofNat D.length)),false)],
   [],
   .to (.exit 0) (sVi T A b X R O Q F sn D i))]
 :=cR.of U U U
theorem anh:∃aa,zx ak me [(21,.di (.bool false))] 1000 15 Tryz.f77 [1,2,3,18,19,20] 0 (dz (dz (dY abq))) (sVi T A b X R O Q F sn D i) aa
  [([],
   [(V.bool (decide (Int.ofNat i<Int.ofNat D.length))=V.bool false)],
   .ret (.ew []) (mV T A b X R O Q F sn) 15)]
 :=zx.of U U U
end
def nZ(ks:List (L)):ae:=ks.map fun k=>(.str k,.bool true)
theorem zB(x:L):∀ks:List (L),dr (.str x) (nZ ks)=if x∈ks then some (.bool true)else none
 | []=>rfl
 |k::ks=>by
  have ih:=zB x ks;unfold nZ at ih ⊢;rw[bY,gx,ih];by_cases h:k=x
  . subst h;simp
  . have N:¬(rs.str k=rs.str x):=fun e=>h (by cases e;rfl);have B:¬x=k:=fun e=>h e.symm;simp only[N,cI,aF,B,false_or]
theorem VR{x:L}{ks:List (L)}(h:x∉ks):ir (.str x) (.bool true) (nZ ks)=nZ (ks++[x]):=by
 rw[vK _ (by rw[zB,aI h])];unfold nZ;rw[aY];rfl
def pY(Q:ae)(x:L):List (L):=match dr (.str x) Q with
 |some (.agg [_,.dS _ C,_])=>dy C
 |_=>[]
theorem FA{Q:ae}{x d:L}{D:List (L)}{k:Int}(h:dr (.str x) Q=some (oF d D k)):pY Q x=D:=by
 unfold pY;rw[h];exact fR D
def mh(Q:ae):Nat->L->List (L)->List (L)
 |0,_,ks=>ks
 |k+1,x,ks=>if x∈ks then ks else(pY Q x).foldl (fun a r=>mh Q k r a) (ks++[x])
def Ends(Q:ae):Nat->L->Prop
 |0,_=>False
 |k+1,x=>uC Q x/\(pY Q x).length<=1000000/\∀r∈pY Q x,Ends Q k r
section
variable(T A:Nat)(b:L)(X R O:Int)(Q F:ae)
section
variable{x:L}{ks:List (L)}
theorem FB(h:x∈ks):(if false=true then V.ew [rs.fW (V.bool false) (dr (rs.str x) (nZ ks)),V.bool (dr (rs.str x) (nZ ks)).isSome]else rs.fW (V.bool false) (dr (rs.str x) (nZ ks)))=V.bool true:=by
 rw[zB,aH h];rfl
theorem DE(h:x∉ks):(if false=true then V.ew [rs.fW (V.bool false) (dr (rs.str x) (nZ ks)),V.bool (dr (rs.str x) (nZ ks)).isSome]else rs.fW (V.bool false) (dr (rs.str x) (nZ ks)))=V.bool false:=by
 rw[zB,aI h];rfl
theorem vM{d:L}{D:List (L)}{k:Int}(h:dr (.str x) Q=some (oF d D k)):(if false=true then V.ew [rs.fW (V.agg [V.str ([]:L),V.dj none 0 0 0,V.int aj (0:Int)]) (dr (rs.str x) Q),V.bool (dr (rs.str x) Q).isSome]else rs.fW (V.agg [V.str ([]:L),V.dj none 0 0 0,V.int aj (0:Int)]) (dr (rs.str x) Q))=nJ d D k:=by
 rw[h];rfl
end
theorem af9:77<Tryz.prog.funcs.size:=au U
theorem Sh:∀(k:Nat) (x:L) (ks:List (L)),Ends Q k x->cW ak 77 (aV x) (mV T A b X R O Q F (nZ ks)) 15 (.ew []) (mV T A b X R O Q F (nZ (mh Q k x ks))) 15
 |0,_,_,h=>h.elim
 |k+1,x,ks,h=>by
  obtain⟨⟨d,D,n,he⟩,hn,hr⟩:=h;refine c5 Tryz.func77 (code:=VP) U U ?_;unfold mh;by_cases G:x∈ks
  . rw[aH G];refine fh uJ (anb T A b X R O Q F x (nZ ks)) (dG ?_);exact⟨eX (FB G),_,_,_,rfl,rfl,rfl,rfl⟩
  . rw[aI G];refine iF  2 uJ (ane T A b X R O Q F x (nZ ks)) (eX (DE G)) ?_;rw[VR G];rw[FA he]at hn hr ⊢;refine cZ U ?_;refine fO uJ (anf T A b X R O Q F x (nZ (ks++[x])) d D n) (dG ?_);refine⟨fm (vM Q he) (eX rfl),fun s' dO=>?_⟩;have dO:fa 15 [1,2,3,18,19,20] s'=some (sVi T A b X R O Q F (nZ ((D.take 0).foldl (fun a r=>mh Q k r a) (ks++[x]))) D 0):=dO;refine jx 0 D.length (fun i=>sVi T A b X R O Q F (nZ ((D.take i).foldl (fun a r=>mh Q k r a) (ks++[x]))) D i) U U (.norm dO) (fun i hi=>?_) ?_
    . have I:=Sh k D[i] ((D.take i).foldl (fun a r=>mh Q k r a) (ks++[x])) (hr _ (b7 hi));generalize hK:(D.take i).foldl (fun a r=>mh Q k r a) (ks++[x])=be at I;have pZ:(D.take (i+1)).foldl (fun a r=>mh Q k r a) (ks++[x])=mh Q k D[i] be:=by
       rw[bG,ay hi,cE,List.foldl_append,hK];rfl
      obtain⟨L3,wR⟩:=ang T A b X R O Q F (nZ be) (nZ (mh Q k D[i] be)) D i D[i];simp only[pZ,hK];refine gC (uJ.jA af9 I) mo l9 U wR fun g hg I=>?_;rcases iU hg with rfl|rfl
      . exact⟨fm ⟨az _,dm⟩ (fm (by rw[eN,bk]) (fm (aN V.dx (fM (ay hi))) (fm ⟨rfl,rfl,rfl⟩ (eX (fL dm K))))),fun s' dO=>.norm dO⟩
      . exact absurd (aJ (I _ (aq.2 rfl))) dm
    . obtain⟨L3,wR⟩:=anh T A b X R O Q F (nZ ((D.take D.length).foldl (fun a r=>mh Q k r a) (ks++[x]))) D D.length;refine R4 0 uJ mo (fun v h n=>v= .ew []/\h=mV T A b X R O Q F (nZ (D.foldl (fun a r=>mh Q k r a) (ks++[x])))/\n=15) U wR (fun s' dO=>⟨by simp,by rw[dV];exact dO⟩) (dG ?_);exact⟨eX (aN V.bool (bC K)),⟨rfl,by rw[aU],rfl⟩,fun s' dO=>⟨by simp,dO⟩⟩
end
def lP(Q:ae)(k:Nat)(ds:List (L)):List (L):=ds.foldl (fun a d=>mh Q k d a) []
inductive Y0(Q:ae):L->L->Prop where
 |self (x):Y0 Q x x
 |step (x y z):y∈pY Q x->Y0 Q y z->Y0 Q x z
variable{Q:ae}
def Grow(Q:ae)(ks fr:List (L)):Prop:=(∀y∈ks,y∈fr)/\(∀y∈fr,y∉ks->∀r∈pY Q y,r∈fr)/\(ks.Nodup->fr.Nodup)
theorem Grow.refl(ks:List (L)):Grow Q ks ks:=⟨fun _ h=>h,fun _ N B=>absurd N B,id⟩
theorem Grow.trans{a b c:List (L)}(N:Grow Q a b)(B:Grow Q b c):Grow Q a c:=
 ⟨fun y h=>B.1 y (N.1 y h),fun y hy hn r hr=>by
  by_cases hb:y∈b
  . exact B.1 r (N.2.1 y hb hn r hr)
  . exact B.2.1 y hy hb r hr,fun h=>B.2.2 (N.2.2 h)⟩
theorem wS{f:List (L)->L->List (L)}:∀(l:List (L)) (ks:List (L)),(∀r∈l,∀a,Grow Q a (f a r)/\r∈f a r)->Grow Q ks (l.foldl f ks)/\∀r∈l,r∈l.foldl f ks
 | [],ks,_=>⟨.refl ks,fun _ h=>by cases h⟩
 |x::l,ks,h=>by
  obtain⟨g1,g2⟩:=h x (by simp) ks;obtain⟨g3,g4⟩:=wS l (f ks x) fun r hr=>h r (by simp[hr]);refine⟨g1.trans g3,fun r hr=>?_⟩;rcases aF.1 hr with rfl|hr
  . exact g3.1 _ g2
  . exact g4 r hr
theorem DF:∀(k:Nat) (x:L) (ks:List (L)),Ends Q k x->Grow Q ks (mh Q k x ks)/\x∈mh Q k x ks
 |0,_,_,h=>h.elim
 |k+1,x,ks,h=>by
  unfold mh;split
  . rename_i G;exact⟨.refl ks,G⟩
  . rename_i G;obtain⟨g1,g2⟩:=wS (Q:=Q) (f:=fun a r=>mh Q k r a) (pY Q x) (ks++[x]) fun r hr a=>DF k r a (h.2.2 r hr);have PB:=g1.1 x (by simp);refine⟨⟨fun y hy=>g1.1 y (by simp[hy]),fun y hy hn r hr=>?_,fun hn=>g1.2.2 ?_⟩,PB⟩
    . by_cases e:y=x
      . subst e;exact g2 r hr
      . exact g1.2.1 y hy (by simp[hn,e]) r hr
    . exact List.nodup_append.2 ⟨hn,by simp,fun a ha b hb=>by rw[aq]at hb;subst hb;intro e;subst e;exact G ha⟩
theorem yc{f:List (L)->L->List (L)}{P:L->Prop}:∀(l:List (L)) (ks:List (L)),(∀r∈l,∀a,∀y∈f a r,y∈a\/P y)->∀y∈l.foldl f ks,y∈ks\/P y
 | [],_,_,y,hy=>.inl hy
 |x::l,ks,h,y,hy=>by
  rcases yc l (f ks x) (fun r hr=>h r (by simp[hr])) y hy with N|N
  . exact h x (by simp) ks y N
  . exact .inr N
theorem FC:∀(k:Nat) (x:L) (ks:List (L)),∀y∈mh Q k x ks,y∈ks\/Y0 Q x y
 |0,_,_,_,h=>.inl h
 |k+1,x,ks,y,h=>by
  unfold mh at h;split at h
  . exact .inl h
  . rcases yc (P:=Y0 Q x) (pY Q x) (ks++[x]) (fun r hr a z hz=>(FC k r a z hz).imp id fun q=>.step x r z hr q) y h with N|N
    . rcases aW.1 N with B|B
      . exact .inl B
      . rw[aq]at B;subst B;exact .inr (.self _)
    . exact .inr N
theorem Hg{fr:List (L)}(hS:∀y∈fr,∀r∈pY Q y,r∈fr){x y:L}(h:Y0 Q x y):x∈fr->y∈fr:=by
 induction h with
 |self x=>exact id
 |step x y z hr _ ih=>exact fun G=>ih (hS x G y hr)
section
variable{k:Nat}{ds:List (L)}
theorem DG(he:∀d∈ds,Ends Q k d)(y:L):y∈lP Q k ds↔∃d∈ds,Y0 Q d y:=by
 obtain⟨g1,g2⟩:=wS (Q:=Q) (f:=fun a d=>mh Q k d a) ds [] fun r hr a=>DF k r a (he r hr);constructor
 . intro h;rcases yc (P:=fun y=>∃d∈ds,Y0 Q d y) ds [] (fun r hr a z hz=>(FC k r a z hz).imp id fun q=>⟨r,hr,q⟩) y h with N|N
   . cases N
   . exact N
 . rintro⟨d,hd,hr⟩;exact Hg (fun y hy r hr=>g1.2.1 y hy (by simp) r hr) hr (g2 d hd)
theorem zC(he:∀d∈ds,Ends Q k d):(lP Q k ds).Nodup:=
 (wS (Q:=Q) (f:=fun a d=>mh Q k d a) ds [] fun r hr a=>DF k r a (he r hr)).1.2.2 List.nodup_nil
theorem Jj{a b:List (L)}(hp:List.Perm a b)(he:∀d∈b,Ends Q k d):List.Perm (lP Q k a) (lP Q k b):=by
 have ha:∀d∈a,Ends Q k d:=fun d h=>he d (hp.mem_iff.1 h);refine(List.perm_ext_iff_of_nodup (zC ha) (zC he)).2 fun y=>?_;rw[DG ha,DG he];exact⟨fun⟨d,h,r⟩=>⟨d,hp.mem_iff.1 h,r⟩,fun⟨d,h,r⟩=>⟨d,hp.mem_iff.2 h,r⟩⟩
end
section
variable(T A:Nat)(b:L)(X R O:Int)(Q F:ae)
section
variable(sn:ae)
noncomputable def Si:St:=eG [(0,.fn (.yield 13) [] []),(6,.ptr (some (14,0)))] ((M6 T A b X R O Q F sn).set 6 none) 15
noncomputable def s4x(kn d:L):St:={ Si T A b X R O Q F sn with S:=(((((Si T A b X R O Q F sn).S.set 7 (some (.ew [.bool true,.str kn,.str d]))).set 8 (some (.bool true))).set 9 (some (.ew [.str kn,.str d]))).set 10 (some (.str d))).set 4 (some (.str d)) }
def lR7:af:=eK (pS T A b X R O Q F)++[(7,.cells [.map (some 6)])]
def hRx:H lf:=J (lR7 T A b X R O Q F++[(8,.dI none sn)])
end
end
noncomputable abbrev anj(args:ag)(h:H lf)(n:Nat)(v:V)(N:H lf)(n1:Nat):fb:=gP ak (VC 77 args h n v N n1 W19) H0 1000 40
section
variable(T A:Nat)(b:L)(X R O:Int)
theorem ank(Q F:ae)(sn sn2:ae)(kn d:L):c9 (anj (aV d) (YZ T A b X R O Q F sn) 15 (.ew []) (YZ T A b X R O Q F sn2) 15) [] 15 Tryz.f78 [0,6] ((sO GZ).rest) (s4x T A b X R O Q F sn kn d) [([],
   [(aV d=aV d/\YZ T A b X R O Q F sn=YZ T A b X R O Q F sn/\15=15)],
   .to .normal (Si T A b X R O Q F sn2))]
 :=cR.of U U U
theorem anl(Q F:ae):c9 me [] 8 Tryz.f51 [1,5,6] (eV 4 RP) (cU [P3,f78] (J (lR7 T A b X R O Q F)) 8) [([],
   [],
   .to .normal (eG [(1,.fn (.func 78) [] [.ptr (some (7,0))]),(5,.ptr (some (8,0))),(6,.ptr (some (10,0)))] (J (eK (pS T A b X R O Q F)++[(7,.cells [.map (some 6)]),(8,.cells [.map (some 9)]),(9,.map [] 0),(10,.cells [.fn (.func 77) [] [.ptr (some (8,0)),.ptr (some (11,0)),.ptr (some (10,0))]]),(11,.cells [.ptr (some (3,0))])])) 12))]
 :=cR.of U U U
theorem anm(Q F:ae):c9 me [] 8 Tryz.f51 [5,6,10] (dP (dP GY)) (eG [(1,f78),(5,P8),(6,OW)] (J (lV T A b X R O Q F [])) 12) [([],
   [],
   .to .normal (VQ T A b X R O Q F))]
 :=cR.of U U U
theorem ann(Q F sn:ae):vJ ak me [] 1000 8 Tryz.f51 (dY GY) (tT (VQ T A b X R O Q F) (M6 T A b X R O Q F sn) 14)
  [([],
   [],
   .ret (.map (some 8)) (hRx T A b X R O Q F sn) 9)]
 :=⟨U,U,U⟩
end
def Eg(F:ae):Prop:=∀e∈F,∃n d,e=(.str n,.str d)
def iV(F:ae):List (L):=F.map fun e=>rs.aas e.2
section
variable(T A:Nat)(b:L)(X R O:Int)(Q F:ae)
theorem M7(sn:ae):∀k,(YZ T A b X R O Q F sn).get k=(mV T A b X R O Q F sn).get k:=by
 have key:∀k,k<15->(YZ T A b X R O Q F sn).get k=(mV T A b X R O Q F sn).get k:=by
  intro k hk;rcases(by omega:k=0\/k=1\/k=2\/k=3\/k=4\/k=5\/k=6\/k=7\/k=8\/k=9\/k=10\/k=11\/k=12\/k=13\/k=14)with rfl|rfl|rfl|rfl|rfl|rfl|rfl|rfl|rfl|rfl|rfl|rfl|rfl|rfl|rfl<;>kernel_rfl
 exact VD (l:=lVx T A b X R O Q F sn) (l0:=lMv T A b X R O Q F sn) (a:=6) (b:=13) (h1:=15) U U dU dU dU key
section
variable(k:Nat)
theorem VS(x:L)(ks:List (L))(h:Ends Q k x):cW ak 77 (aV x) (YZ T A b X R O Q F (nZ ks)) 15 (.ew []) (YZ T A b X R O Q F (nZ (mh Q k x ks))) 15:=
 cW.ext (M7 T A b X R O Q F _) (M7 T A b X R O Q F _) (Sh T A b X R O Q F k x ks h)
abbrev RVx(v:V)(h:H lf)(n:Nat):Prop:=∃iO,List.Perm iO F/\v= .ew []/\h=M6 T A b X R O Q F (nZ (lP Q k (iV iO)))/\n=14
theorem VT(J5:Eg F)(he:∀d∈iV F,Ends Q k d):gh ak 78 [.fn (.yield 13) [] [],.ptr (some (7,0))] (M6 T A b X R O Q F (nZ [])) 14 (RVx T A b X R O Q F k):=by
 refine gO mo po Tryz.func78 (code:=GZ) U U ?_;rw[afi];refine zu (v0:=.map (some 6)) (kA:=(cU [.fn (.yield 13) [] [],.ptr (some (7,0))] (M6 T A b X R O Q F (nZ [])) 14).S.set 5 (some (.map (some 6)))) (Aa:=((cU [.fn (.yield 13) [] [],.ptr (some (7,0))] (M6 T A b X R O Q F (nZ [])) 14).S.set 5 (some (.map (some 6)))).set 6 (some (.ptr (some (14,0))))) (m:=6) (kd:=none) (Q:=F) mo MQ
  U U U U (au rfl) U (fun iO s1=>fa 15 [0,6] s1=some (Si T A b X R O Q F (nZ (lP Q k (iV iO))))) U ?_
 rintro iO left s1 hs hp;refine⟨[0,6],_,hs,U,fun hl=>?_,fun e kD he2=>?_⟩
 . subst hl;rw[cA]at hp;refine⟨(Si T A b X R O Q F (nZ (lP Q k (iV iO)))).S.set 7 (some (.ew [.bool false])),{ Si T A b X R O Q F (nZ (lP Q k (iV iO)))with S:=((Si T A b X R O Q F (nZ (lP Q k (iV iO)))).S.set 7 (some (.ew [.bool false]))).set 8 (some (.bool false)) },U,U,U,.inl rfl,.ew [],M6 T A b X R O Q F (nZ (lP Q k (iV iO))),14,U,iO,hp,rfl,rfl,rfl⟩
 . have xW:e∈F:=hp.mem_iff.1 (b9 _ (he2.mem_iff.2 (by simp)));obtain⟨kn,d,rfl⟩:=J5 e xW;have hd:Ends Q k d:=he d (bA.2 ⟨_,xW,rfl⟩);have pZ:lP Q k (iV (iO++[(.str kn,.str d)]))=mh Q k d (lP Q k (iV iO)):=by
    unfold lP iV;rw[aY,List.foldl_append];rfl
   rw[pZ];generalize lP Q k (iV iO)=ks at *;refine⟨(Si T A b X R O Q F (nZ ks)).S.set 7 (some (.ew [.bool true,.str kn,.str d])),{ Si T A b X R O Q F (nZ ks)with S:=((Si T A b X R O Q F (nZ ks)).S.set 7 (some (.ew [.bool true,.str kn,.str d]))).set 8 (some (.bool true)) },
    (((Si T A b X R O Q F (nZ ks)).S.set 7 (some (.ew [.bool true,.str kn,.str d]))).set 8 (some (.bool true))).set 9 (some (.ew [.str kn,.str d])),s4x T A b X R O Q F (nZ ks) kn d,U,U,U,U,U,U,U,U,?_⟩
   refine fO (CX.of mo po (MX af9 (VS T A b X R O Q F k d ks hd) G8) H0 1000 40) (ank T A b X R O Q F (nZ ks) (nZ (mh Q k d ks)) kn d) (dG ?_);exact⟨eX ⟨rfl,rfl,rfl⟩,fun s' dO=>dO⟩
def qj(Q F:ae)(k:Nat):List (L):=lP Q k (iV F)
theorem M8(J5:Eg F)(he:∀d∈iV F,Ends Q k d):cW ak 51 [P3,f78] (J (lR7 T A b X R O Q F)) 8 (.map (some 8)) (hRx T A b X R O Q F (nZ (qj Q F k))) 9:=by
 refine c5 Tryz.func51 (code:=RP) U U ?_;refine iF  4 uJ (anl T A b X R O Q F) cT ?_;refine Az [(9,none)] (s2:=eG [(1,f78),(5,P8),(6,OW)] (J (lV T A b X R O Q F [])) 12) U ?_;show TG ak 8 Tryz.f51.ntmps GY _ _;refine cZ U ?_;refine cZ U ?_;refine fO uJ (anm T A b X R O Q F) (dG ?_);refine⟨cT,fun s' dO=>c6 dO ?_⟩;refine fB (i:=0) U ?_;refine oH (gf:=78) (lb:=[.ptr (some (7,0))]) U U U U U (VT T A b X R O Q F k J5 he) ?_;rintro v h n ⟨iO,hp,rfl,rfl,rfl⟩;have Ft:List.Perm (nZ (lP Q k (iV iO))) (nZ (qj Q F k)):=(Jj (hp.map _) he).map _;generalize nZ (lP Q k (iV iO))=sn at Ft ⊢;generalize nZ (qj Q F k)=sn0 at Ft ⊢;refine⟨U,?_⟩;show TG ak 8 Tryz.f51.ntmps (dY GY) (tT (VQ T A b X R O Q F) (M6 T A b X R O Q F sn) 14) _;have hg:(tT (VQ T A b X R O Q F) (M6 T A b X R O Q F sn) 14).h.get 9=some (.dI none sn):=by kernel_rfl
 refine KV (B:=(tT (VQ T A b X R O Q F) (M6 T A b X R O Q F sn) 14).h.set 9 (some (.dI none sn0))) (fun E w g=>sL dU hg rfl (fun b s _ r=>Oy Ft r) g) ?_;have e:({ tT (VQ T A b X R O Q F) (M6 T A b X R O Q F sn) 14 with h:=(tT (VQ T A b X R O Q F) (M6 T A b X R O Q F sn) 14).h.set 9 (some (.dI none sn0)) }:St)=tT (VQ T A b X R O Q F) (M6 T A b X R O Q F sn0) 14:=by kernel_rfl
 rw[e];refine r7 uJ mo _ U (ann T A b X R O Q F sn0) (dG ?_);exact⟨cT,_,_,_,rfl,rfl,rfl,rfl⟩
end
end
noncomputable abbrev agb:Code:=dN Tryz.f17
noncomputable abbrev VU:Code:=dN Tryz.f66
section
variable(T A:Nat)(b:L)(X R O:Int)
theorem ano(Q F sn:ae)(d:L)(c:Bool):c9 (fG me 51 [P3,f78] (J (lR7 T A b X R O Q F)) 8 (.map (some 8),hRx T A b X R O Q F sn,9)) [(17,.di (.bool c))] 7 Tryz.f17 [] (agb) (cU [P3,.str d] (eu (pS T A b X R O Q F)) 7) [([],
   [([P3,f78]=[P3,f78]/\J (lR7 T A b X R O Q F)=J (lR7 T A b X R O Q F)/\8=8),((if false=true then V.ew [rs.fW (V.bool false) (dr (rs.str d) sn),V.bool (dr (rs.str d) sn).isSome]else rs.fW (V.bool false) (dr (rs.str d) sn))=V.bool c)],
   .ret (.bool c) (eu (pS T A b X R O Q F)) 7)]
 :=cR.of U U U
theorem anp(Q F:ae):c9 me [] 7 Tryz.f66 [] (VU) (cU [P3] (eu (pS T A b X R O Q F)) 7) [([],
   [],
   .ret (.int .i64 0) (eu (pS T A b (Int.ofNat T) R O Q F)) 7)]
 :=cR.of U U U
end
theorem anq(X R O:Int)(Q F:ae):c9 me [] 7 Tryz.f66 [] (VU) (cU [P3] (eu (pN X R O Q F)) 7) [([],
   [],
   .ret (.int .i64 0) (eu (pN 0 R O Q F)) 7)]
 :=cR.of U U U
noncomputable abbrev w9:Code:=dN Tryz.f16
section
variable(n:L)(l:List (Nat×List (Nat×oZ)))(si:L)(T A:Nat)(b:L)(X R O:Int)
noncomputable abbrev Y1:fb:=gP ak W16 (qY l) 1000 40
noncomputable abbrev XU:CX ak:=CX.of mo po G1 (qY l) 1000 40
def hRn(d0:L)(gM:List (L))(k:Int):List (Nat×List (Nat×oZ)):=[(18,[(15,.di (.ew [nJ d0 gM k,.bool true]))]),(46,[(13,.di (.bool false))]),(50,[(7,.di (.bool false))])]
def hRt(ex b1 b2 b3 b4 b5 b6:Bool):List (Nat×oZ):=[(18,.di (.ew [.str si,.bool ex])),(23,.di (.bool b1)),(27,.di (.bool b2)),(31,.di (.bool b3)),(36,.di (.bool b4)),(40,.di (.bool b3)),(51,.di (.bool b5)),(56,.di (.bool b6))]
theorem Sj(d si:L)(ex:Bool)(T A:Nat)(b:L)(X R O:Int)(Q F:ae):c9 (Y1 [(18,[(15,.di (.ew [zw,.bool false]))])]) (hRt si ex false false true true false false) 7 Tryz.f16 [] (w9) (cU [P3,.str n,.str d] (eu (pS T A b X R O Q F)) 7) [([],
   [((if true=true then V.ew [rs.fW (V.str ([]:L)) (dr (rs.str n) F),V.bool (dr (rs.str n) F).isSome]else rs.fW (V.str ([]:L)) (dr (rs.str n) F))=V.ew [V.str si,V.bool ex]),(V.bool (eJ n ([]:L))=V.bool false),(V.bool (decide ((Int.ofNat n.length)>(64:Int)))=V.bool false),((V.bool !eJ d ([]:L))=V.bool true),((if true=true then V.ew [rs.fW (V.agg [V.str ([]:L),V.dj none 0 0 0,V.int aj (0:Int)]) (dr (rs.str d) Q),V.bool (dr (rs.str d) Q).isSome]else rs.fW (V.agg [V.str ([]:L),V.dj none 0 0 0,V.int aj (0:Int)]) (dr (rs.str d) Q))=V.ew [zw,V.bool false]),((V.bool !false)=V.bool true)],
   .ret (.int .i64 62) (eu (pS T A b X R O Q F)) 7)]
 :=cR.of U U U
theorem VV(d d0:L)(gM:List (L))(k:Int)(T A:Nat)(b:L)(X R O:Int)(Q F:ae):c9 (Y1 (OJ d0 gM k)) (hRt d true false false true false false true) 7 Tryz.f16 [] (w9) (cU [P3,.str n,.str d] (eu (pS T A b X R O Q F)) 7) [([],
   [((if true=true then V.ew [rs.fW (V.str ([]:L)) (dr (rs.str n) F),V.bool (dr (rs.str n) F).isSome]else rs.fW (V.str ([]:L)) (dr (rs.str n) F))=V.ew [V.str d,V.bool true]),(V.bool (eJ n ([]:L))=V.bool false),(V.bool (decide ((Int.ofNat n.length)>(64:Int)))=V.bool false),((V.bool !eJ d ([]:L))=V.bool true),((if true=true then V.ew [rs.fW (V.agg [V.str ([]:L),V.dj none 0 0 0,V.int aj (0:Int)]) (dr (rs.str d) Q),V.bool (dr (rs.str d) Q).isSome]else rs.fW (V.agg [V.str ([]:L),V.dj none 0 0 0,V.int aj (0:Int)]) (dr (rs.str d) Q))=V.ew [nJ d0 gM k,V.bool true]),((V.bool !true)=V.bool false),((V.bool !eJ d ([]:L))=V.bool true),(V.bool (eJ d d)=V.bool true)],
   .ret (.int .i64 0) (eu (pS T A b X R O Q F)) 7)]
 :=cR.of U U U
theorem VW(Q F:ae):c9 (Y1 []) (hRt [] false false false false false false true) 7 Tryz.f16 [] (w9) (cU [P3,.str n,.str []] (eu (pS T A b X R O Q F)) 7) [([],
   [((if true=true then V.ew [rs.fW (V.str ([]:L)) (dr (rs.str n) F),V.bool (dr (rs.str n) F).isSome]else rs.fW (V.str ([]:L)) (dr (rs.str n) F))=V.ew [V.str [],V.bool false]),(V.bool (eJ n ([]:L))=V.bool false),(V.bool (decide ((Int.ofNat n.length)>(64:Int)))=V.bool false),((V.bool !eJ [] ([]:L))=V.bool false),((V.bool !eJ [] ([]:L))=V.bool false),(V.bool (eJ [] [])=V.bool true)],
   .ret (.int .i64 0) (eu (pS T A b X R O Q F)) 7)]
 :=cR.of U U U
theorem abt(d d0:L)(gM:List (L))(k:Int)(T A:Nat)(b:L)(X R O:Int)(Q F:ae):c9 (Y1 (hRn d0 gM k)) (hRt [] false false false true false false false) 7 Tryz.f16 [] (w9) (cU [P3,.str n,.str d] (eu (pS T A b X R O Q F)) 7) [([],
   [((if true=true then V.ew [rs.fW (V.str ([]:L)) (dr (rs.str n) F),V.bool (dr (rs.str n) F).isSome]else rs.fW (V.str ([]:L)) (dr (rs.str n) F))=V.ew [V.str [],V.bool false]),(V.bool (eJ n ([]:L))=V.bool false),(V.bool (decide ((Int.ofNat n.length)>(64:Int)))=V.bool false),((V.bool !eJ d ([]:L))=V.bool true),((if true=true then V.ew [rs.fW (V.agg [V.str ([]:L),V.dj none 0 0 0,V.int aj (0:Int)]) (dr (rs.str d) Q),V.bool (dr (rs.str d) Q).isSome]else rs.fW (V.agg [V.str ([]:L),V.dj none 0 0 0,V.int aj (0:Int)]) (dr (rs.str d) Q))=V.ew [nJ d0 gM k,V.bool true]),((V.bool !true)=V.bool false),((V.bool !eJ d ([]:L))=V.bool true),(V.bool (decide ((Int.ofNat F.length)>=(64:Int)))=V.bool false),(V.bool (eJ d [])=V.bool false),(n.length<100000000),(d.length<100000000),(V.bool (decide (IntKind.i64.wrap ((Int.ofNat T)+(Int.ofNat (kZ n d).length))>(1048576:Int)))=V.bool false),(0<A),(T=b.length),(eU (T+(kZ n d).length) 1 1=true),(V.bool (eJ d ([]:L))=V.bool false)],
   .ret (.int .i64 0) (J [(0,.ints .u32 gS),(1,.ints .u32 gR),(3,.cells [.dj (some (7,0)) (T+(kZ n d).length) (T+(kZ n d).length) 1,.int .i64 X,.map (some 5),.map (some 6),.int .i64 R,.bool false,.bool false,.int .i64 O]),(5,.dI none Q),(6,.dI none (ir (rs.str n) (rs.str d) F)),(7,.jf 5 false (b++eT (ef (kZ n d))))]) 8)]
 :=cR.of U U U
theorem abu(d si d0:L)(gM:List (L))(k:Int)(T A:Nat)(b:L)(X R O:Int)(Q F:ae):c9 (Y1 (hRn d0 gM k)) (hRt si true false false true false false false) 7 Tryz.f16 [] (w9) (cU [P3,.str n,.str d] (eu (pS T A b X R O Q F)) 7) [([],
   [((if true=true then V.ew [rs.fW (V.str ([]:L)) (dr (rs.str n) F),V.bool (dr (rs.str n) F).isSome]else rs.fW (V.str ([]:L)) (dr (rs.str n) F))=V.ew [V.str si,V.bool true]),(V.bool (eJ n ([]:L))=V.bool false),(V.bool (decide ((Int.ofNat n.length)>(64:Int)))=V.bool false),((V.bool !eJ d ([]:L))=V.bool true),((if true=true then V.ew [rs.fW (V.agg [V.str ([]:L),V.dj none 0 0 0,V.int aj (0:Int)]) (dr (rs.str d) Q),V.bool (dr (rs.str d) Q).isSome]else rs.fW (V.agg [V.str ([]:L),V.dj none 0 0 0,V.int aj (0:Int)]) (dr (rs.str d) Q))=V.ew [nJ d0 gM k,V.bool true]),((V.bool !true)=V.bool false),((V.bool !eJ d ([]:L))=V.bool true),(V.bool (eJ d si)=V.bool false),(n.length<100000000),(d.length<100000000),(V.bool (decide (IntKind.i64.wrap ((Int.ofNat T)+(Int.ofNat (kZ n d).length))>(1048576:Int)))=V.bool false),(0<A),(T=b.length),(eU (T+(kZ n d).length) 1 1=true),(V.bool (eJ d ([]:L))=V.bool false)],
   .ret (.int .i64 0) (J [(0,.ints .u32 gS),(1,.ints .u32 gR),(3,.cells [.dj (some (7,0)) (T+(kZ n d).length) (T+(kZ n d).length) 1,.int .i64 X,.map (some 5),.map (some 6),.int .i64 R,.bool false,.bool false,.int .i64 O]),(5,.dI none Q),(6,.dI none (ir (rs.str n) (rs.str d) F)),(7,.jf 5 false (b++eT (ef (kZ n d))))]) 8)]
 :=cR.of U U U
theorem abv(Q F:ae):c9 (Y1 [(46,[(13,.di (.bool false))]),(50,[(7,.di (.bool true))])]) (hRt si true false false false false false false) 7 Tryz.f16 [] (w9) (cU [P3,.str n,.str []] (eu (pS T A b X R O Q F)) 7) [([],
   [((if true=true then V.ew [rs.fW (V.str ([]:L)) (dr (rs.str n) F),V.bool (dr (rs.str n) F).isSome]else rs.fW (V.str ([]:L)) (dr (rs.str n) F))=V.ew [V.str si,V.bool true]),(V.bool (eJ n ([]:L))=V.bool false),(V.bool (decide ((Int.ofNat n.length)>(64:Int)))=V.bool false),((V.bool !eJ [] ([]:L))=V.bool false),((V.bool !eJ [] ([]:L))=V.bool false),(V.bool (eJ [] si)=V.bool false),(n.length<100000000),(0<100000000),(V.bool (decide (IntKind.i64.wrap ((Int.ofNat T)+(Int.ofNat (kZ n []).length))>(1048576:Int)))=V.bool false),(0<A),(T=b.length),(eU (T+(kZ n []).length) 1 1=true),(V.bool (eJ [] ([]:L))=V.bool true)],
   .ret (.int .i64 0) (J [(0,.ints .u32 gS),(1,.ints .u32 gR),(3,.cells [.dj (some (7,0)) (T+(kZ n []).length) (T+(kZ n []).length) 1,.int .i64 X,.map (some 5),.map (some 6),.int .i64 R,.bool false,.bool false,.int .i64 O]),(5,.dI none Q),(6,.dI none (lT (rs.str n) F)),(7,.jf 5 false (b++eT (ef (kZ n []))))]) 8)]
 :=cR.of U U U
end
section
variable{a:L}{F:ae}{n b:L}
theorem zD{si:L}(h:dr (.str n) F=some (.str si)):(if true=true then V.ew [rs.fW (V.str ([]:L)) (dr (rs.str n) F),V.bool (dr (rs.str n) F).isSome]else rs.fW (V.str ([]:L)) (dr (rs.str n) F))=V.ew [V.str si,V.bool true]:=by
 rw[h];rfl
theorem LG(h:dr (.str n) F=none):(if true=true then V.ew [rs.fW (V.str ([]:L)) (dr (rs.str n) F),V.bool (dr (rs.str n) F).isSome]else rs.fW (V.str ([]:L)) (dr (rs.str n) F))=V.ew [V.str [],V.bool false]:=by
 rw[h];rfl
theorem anr{p:Prop}[Decidable p](h:p):V.bool (decide p)=V.bool true:=by rw[bQ h]
theorem agc{p:Prop}[Decidable p](h:¬p):V.bool (decide p)=V.bool false:=by rw[bC h]
theorem ans(h:a=b):V.bool (eJ a b)=V.bool true:=by rw[fV,beq_iff_eq.2 h]
theorem zE(h:a≠b):V.bool (eJ a b)=V.bool false:=by rw[fV,beq_eq_false_iff_ne.2 h]
theorem Hh(h:a≠b):(V.bool !eJ a b)=V.bool true:=by rw[fV,beq_eq_false_iff_ne.2 h];rfl
theorem Hi(h:n.length<=64):V.bool (decide ((Int.ofNat n.length)>(64:Int)))=V.bool false:=agc (by rw[show Int.ofNat n.length=(n.length:Int)from rfl];omega)
end
def RtE(F:ae):Prop:=∀n,dr (.str n) F=none\/∃d,dr (.str n) F=some (.str d)
section
variable(n d:L)(T A:Nat)(b:L)(X R O:Int)(Q F:ae)
abbrev VX:Prop:=n≠[]/\n.length<=64
abbrev M9(m:Nat)(b':L)(rt':ae):H lf:=RL m b' X R O Q rt'
theorem LH(J5:RtE F)(hn:VX n)(hd:d≠[])(hk:dr (.str d) Q=none):cW ak 16 [P3,.str n,.str d] (eu (pS T A b X R O Q F)) 7 (.int .i64 62) (eu (pS T A b X R O Q F)) 7:=by
 have hO:∀n:Nat,Int.ofNat n=(n:Int):=fun _=>rfl;have hw:∃si ex,(if true=true then V.ew [rs.fW (V.str ([]:L)) (dr (rs.str n) F),V.bool (dr (rs.str n) F).isSome]else rs.fW (V.str ([]:L)) (dr (rs.str n) F))=V.ew [V.str si,V.bool ex]:=by
  rcases J5 n with h|⟨w,h⟩
  . exact⟨_,_,LG h⟩
  . exact⟨_,_,zD h⟩
 obtain⟨si,ex,hw⟩:=hw;refine c5 Tryz.func16 (code:=w9) U U ?_;refine fh (XU [(18,[(15,.di (.ew [zw,.bool false]))])]) (Sj n d si ex T A b X R O Q F) (dG ?_);refine⟨?_,_,_,_,rfl,rfl,rfl,rfl⟩
 repeat' (first|exact cT|refine iI ?_ ?_)
 . exact hw
 . exact zE hn.1
 . exact Hi hn.2
 . exact Hh hd
 . exact oG hk
 . rfl
theorem OX(hn:VX n)(hd:d≠[])(hk:uC Q d)(sB:dr (.str n) F=some (.str d)):cW ak 16 [P3,.str n,.str d] (eu (pS T A b X R O Q F)) 7 (.int .i64 0) (eu (pS T A b X R O Q F)) 7:=by
 have hO:∀n:Nat,Int.ofNat n=(n:Int):=fun _=>rfl;obtain⟨d0,gM,k,hk⟩:=hk;refine c5 Tryz.func16 (code:=w9) U U ?_;refine fh (XU (OJ d0 gM k)) (VV n d d0 gM k T A b X R O Q F) (dG ?_);refine⟨?_,_,_,_,rfl,rfl,rfl,rfl⟩
 repeat' (first|exact cT|refine iI ?_ ?_)
 . exact zD sB
 . exact zE hn.1
 . exact Hi hn.2
 . exact Hh hd
 . exact kM hk
 . rfl
 . exact Hh hd
 . exact ans rfl
theorem OY(hn:VX n)(sB:dr (.str n) F=none):cW ak 16 [P3,.str n,.str []] (eu (pS T A b X R O Q F)) 7 (.int .i64 0) (eu (pS T A b X R O Q F)) 7:=by
 have hO:∀n:Nat,Int.ofNat n=(n:Int):=fun _=>rfl;refine c5 Tryz.func16 (code:=w9) U U ?_;refine fh (XU []) (VW n T A b X R O Q F) (dG ?_);refine⟨?_,_,_,_,rfl,rfl,rfl,rfl⟩
 repeat' (first|exact cT|refine iI ?_ ?_)
 . exact LG sB
 . exact zE hn.1
 . exact Hi hn.2
 all_goals first|rfl|trivial
theorem Sk(hn:VX n)(hd:d≠[])(hdl:d.length<=100)(hk:uC Q d)(sB:dr (.str n) F=none)(h64:F.length<64)(I:0<A)(hl:T=b.length)(Gi:T+(kZ n d).length<=1048576):
  cW ak 16 [P3,.str n,.str d] (eu (pS T A b X R O Q F)) 7 (.int .i64 0) (M9 X R O Q (T+(kZ n d).length) (b++kZ n d) (ir (.str n) (.str d) F)) 8:=by
 have hO:∀n:Nat,Int.ofNat n=(n:Int):=fun _=>rfl;obtain⟨d0,gM,k,hk⟩:=hk;refine c5 Tryz.func16 (code:=w9) U U ?_;obtain⟨aa,hr⟩:=abt n d d0 gM k T A b X R O Q F;simp only[gk]at hr;refine gA (XU (hRn d0 gM k)) mo _ U hr (dG ?_);refine⟨?_,_,_,_,rfl,rfl,rfl,rfl⟩
 repeat' (first|exact cT|refine iI ?_ ?_)
 . exact LG sB
 . exact zE hn.1
 . exact Hi hn.2
 . exact Hh hd
 . exact kM hk
 . rfl
 . exact Hh hd
 . exact agc dm
 . exact zE hd
 . exact Nat.lt_of_le_of_lt hn.2 dU
 . omega
 . rw[fK dm dm];exact gD dm
 . exact I
 . exact hl
 . exact jk K
 . exact zE hd
theorem Sl(si:L)(hn:VX n)(hd:d≠[])(hdl:d.length<=100)(hk:uC Q d)(sB:dr (.str n) F=some (.str si))(fU:d≠si)(I:0<A)(hl:T=b.length)(Gi:T+(kZ n d).length<=1048576):
  cW ak 16 [P3,.str n,.str d] (eu (pS T A b X R O Q F)) 7 (.int .i64 0) (M9 X R O Q (T+(kZ n d).length) (b++kZ n d) (ir (.str n) (.str d) F)) 8:=by
 have hO:∀n:Nat,Int.ofNat n=(n:Int):=fun _=>rfl;obtain⟨d0,gM,k,hk⟩:=hk;refine c5 Tryz.func16 (code:=w9) U U ?_;obtain⟨aa,hr⟩:=abu n d si d0 gM k T A b X R O Q F;simp only[gk]at hr;refine gA (XU (hRn d0 gM k)) mo _ U hr (dG ?_);refine⟨?_,_,_,_,rfl,rfl,rfl,rfl⟩
 repeat' (first|exact cT|refine iI ?_ ?_)
 . exact zD sB
 . exact zE hn.1
 . exact Hi hn.2
 . exact Hh hd
 . exact kM hk
 . rfl
 . exact Hh hd
 . exact zE fU
 . exact Nat.lt_of_le_of_lt hn.2 dU
 . omega
 . rw[fK dm dm];exact gD dm
 . exact I
 . exact hl
 . exact jk K
 . exact zE hd
theorem Sm(si:L)(hn:VX n)(sB:dr (.str n) F=some (.str si))(fU:si≠[])(I:0<A)(hl:T=b.length)(Gi:T+(kZ n []).length<=1048576):
  cW ak 16 [P3,.str n,.str []] (eu (pS T A b X R O Q F)) 7 (.int .i64 0) (M9 X R O Q (T+(kZ n []).length) (b++kZ n []) (lT (.str n) F)) 8:=by
 have hO:∀n:Nat,Int.ofNat n=(n:Int):=fun _=>rfl;refine c5 Tryz.func16 (code:=w9) U U ?_;obtain⟨aa,hr⟩:=abv n si T A b X R O Q F;simp only[gk]at hr;refine gA (XU [(46,[(13,.di (.bool false))]),(50,[(7,.di (.bool true))])]) mo _ U hr (dG ?_);refine⟨?_,_,_,_,rfl,rfl,rfl,rfl⟩
 repeat' (first|exact cT|refine iI ?_ ?_)
 . exact zD sB
 . exact zE hn.1
 . exact Hi hn.2
 . rfl
 . rfl
 . exact zE fU.symm
 . exact Nat.lt_of_le_of_lt hn.2 dU
 . decide
 . rw[fK dm dm];exact gD dm
 . exact I
 . exact hl
 . exact jk K
 . rfl
end
open Go.Shelf Go.RowKit
def agd:Go.Shelf.Ren:=⟨fun|42=>63|n=>n,fun n=>n,fun n=>n⟩
theorem Sn:SlLaysN.n42 ak agd:={
 mixed:=mo
 f42:=⟨"slices.Clone[[]gouache/api.Digest,gouache/api.Digest]",dU,Tryz.func63.trans (aN some U)⟩
 t4:=Tryz.underlying4
 a4:=Tryz.isAgg4
 z4:=Tryz.sizeOf4
 v4:=Tryz.zeroValue4
 t25:=Tryz.underlying25
 a25:=Tryz.isAgg25
 z25:=Tryz.sizeOf25
 v25:=Tryz.zeroValue25
 t26:=Tryz.underlying26
 a26:=Tryz.isAgg26
 z26:=Tryz.sizeOf26
 v26:=Tryz.zeroValue26
 i26:=by kernel_rfl }
def LI:ag->Option (ah×V)
 | [.dS _ 0 []]=>some ([],.dS false 0 [])
 |_=>none
theorem Sp:jv ak 63 (jS LI):=by
 refine kj (au U) fun args cS v e=>?_;unfold LI at e;split at e
 . obtain⟨rfl,rfl⟩:=fg e;refine⟨rfl,rfl,fun _ E w de _ ra=>?_⟩;obtain⟨y,ys,r0,D,rfl⟩:=ra;have D:ys=[]:=D;subst D;obtain⟨⟨a,A,vs,rfl,_,hv,_,_⟩,_⟩:=r0;cases a with
   |none=>
    refine(AnyG.slices_Clone_string_nil Sn 0 A w).mono fun en w' ⟨he,hw⟩=>?_;subst he;subst hw;exact⟨⟨E,⟨none,0,[],rfl,aA _,rfl,fun _=>rfl,fun h=>absurd h (cG _)⟩,fun h=>by cases h⟩,Below.refl _ _⟩
   |some a=>
    refine(AnyG.slices_Clone_string_zero Sn a A w).mono fun en w' ⟨v',he,ant,_,hw⟩=>?_;subst he;have hv':∃a c,v'= .slice a 0 c:=by
     obtain⟨_,h⟩:=ant;rcases h with⟨h,_⟩|⟨g,A,cur,h,_⟩
     . exact⟨none,0,h⟩
     . exact⟨_,_,h⟩
    obtain⟨a2,c2,rfl⟩:=hv';exact⟨⟨E,⟨a2,c2,[],rfl,aX _,rfl,fun _=>rfl,fun h=>absurd h (cG _)⟩,fun h=>by cases h⟩,hw⟩
 . cases e
theorem abw(f:Bool)(h:H lf)(n:Nat):cW ak 63 [.dS f 0 []] h n (.dS false 0 []) h n:=fun E w de ra g hd=>
 Sp.2 _ _ _ [] _ _ _ rfl cT E w de ra g hd U
noncomputable abbrev csV(q:ag->Bool)(g:V)(l:List (Nat×List (Nat×oZ)))(h:H lf)(f:Bool)(D:List (L)):fb:=Bp (kS l) 43 q [.dS f D.length (strs D),g] h 8 (.bool true,h,8)
theorem abx(d:L)(f:Bool)(D:List (L))(T A:Nat)(b:L)(X R O:Int)(Q F:ae):c9 (csV BM f44 [] (hB T A b X R O Q F) f D) [(16,.di (.bool false)),(20,.di (.bool false))] 7 Tryz.f15 [] (uD) (cU [P3,.str d,.dS f D.length (strs D)] (eu (pS T A b X R O Q F)) 7) [([],
   [(V.bool (decide ((Int.ofNat d.length)>(65536:Int)))=V.bool false),(V.bool (decide ((Int.ofNat D.length)>(1024:Int)))=V.bool false),(strs D=strs (dy (strs D))),(D.length=(dy (strs D)).length),(D.length<=1000000),(∀(x:L),x∈dy (strs D)->x.length=32),fC [.dS f (D.length) (strs D),.fn (.func 44) [] [.ptr (some (7,0))]] (J (eK (pS T A b X R O Q F)++[(7,.cells [.ptr (some (3,0))])])) 8],
   .ret (.ew [.str [],.int .i64 63]) (eu (pS T A b X R O Q F)) 7)]
 :=cR.of U U U
theorem aby(d d0:L)(gM:List (L))(k:Int)(T A:Nat)(b:L)(X R O:Int)(Q F:ae):c9 (kS []) [(17,.di (.ew [nJ d0 gM k,.bool true]))] 7 Tryz.f25 [] (dN Tryz.f25) (cU [P3,.str d] (eu (pS T A b X R O Q F)) 7) [([],
   [((if true=true then V.ew [rs.fW (V.agg [V.str ([]:L),V.dj none 0 0 0,V.int aj (0:Int)]) (dr (rs.str d) Q),V.bool (dr (rs.str d) Q).isSome]else rs.fW (V.agg [V.str ([]:L),V.dj none 0 0 0,V.int aj (0:Int)]) (dr (rs.str d) Q))=V.ew [nJ d0 gM k,V.bool true]),(0<gM.length),((strs gM).length=gM.length),(gM.length<=1000000)],
   .ret (.ew [.str d0,.dS false (gM.length) (strs gM),.int .i64 0]) (eu (pS T A b X R O Q F)) 7)]
 :=cR.of U U U
def hG(d0:L)(k:Int)(p:gZ):H lf:=(eu p).set 7 (some (.cells [.str d0,.dS false 0 [],.int .i64 k]))
theorem VY(d d0:L)(k:Int)(T A:Nat)(b:L)(X R O:Int)(Q F:ae):c9 (fG (kS []) 63 [.dS false 0 []] (hG d0 k (pS T A b X R O Q F)) 16 (.dS false 0 [],hG d0 k (pS T A b X R O Q F),16)) [(17,.di (.ew [nJ d0 [] k,.bool true]))] 7 Tryz.f25 [] (dN Tryz.f25) (cU [P3,.str d] (eu (pS T A b X R O Q F)) 7) [([],
   [((if true=true then V.ew [rs.fW (V.agg [V.str ([]:L),V.dj none 0 0 0,V.int aj (0:Int)]) (dr (rs.str d) Q),V.bool (dr (rs.str d) Q).isSome]else rs.fW (V.agg [V.str ([]:L),V.dj none 0 0 0,V.int aj (0:Int)]) (dr (rs.str d) Q))=V.ew [nJ d0 [] k,V.bool true]),fC [.dS false 0 []] (J (eK (pS T A b X R O Q F)++[(7,.cells [.str d0,.dS false 0 [],.int .i64 k])])) 16],
   .ret (.ew [.str d0,.dS false 0 [],.int .i64 0]) (eu (pS T A b X R O Q F)) 7)]
 :=cR.of U U U
theorem age(d:L)(T A:Nat)(b:L)(X R O:Int)(Q F:ae):c9 (kS []) [(15,.di (.ew [zw,.bool false]))] 7 Tryz.f18 [] (dN Tryz.f18) (cU [P3,.str d] (eu (pS T A b X R O Q F)) 7) [([],
   [((if true=true then V.ew [rs.fW (V.agg [V.str ([]:L),V.dj none 0 0 0,V.int aj (0:Int)]) (dr (rs.str d) Q),V.bool (dr (rs.str d) Q).isSome]else rs.fW (V.agg [V.str ([]:L),V.dj none 0 0 0,V.int aj (0:Int)]) (dr (rs.str d) Q))=V.ew [zw,V.bool false])],
   .ret (.bool false) (eu (pS T A b X R O Q F)) 7)]
 :=cR.of U U U
theorem Sq(d d0:L)(gM:List (L))(k:Int)(T A:Nat)(b:L)(X R O:Int)(Q F:ae):c9 (kS []) [(15,.di (.ew [nJ d0 gM k,.bool true]))] 7 Tryz.f18 [] (dN Tryz.f18) (cU [P3,.str d] (eu (pS T A b X R O Q F)) 7) [([],
   [((if true=true then V.ew [rs.fW (V.agg [V.str ([]:L),V.dj none 0 0 0,V.int aj (0:Int)]) (dr (rs.str d) Q),V.bool (dr (rs.str d) Q).isSome]else rs.fW (V.agg [V.str ([]:L),V.dj none 0 0 0,V.int aj (0:Int)]) (dr (rs.str d) Q))=V.ew [nJ d0 gM k,V.bool true])],
   .ret (.bool true) (eu (pS T A b X R O Q F)) 7)]
 :=cR.of U U U
theorem abz(n d:L)(T A:Nat)(b:L)(X R O:Int)(Q F:ae):c9 (kS []) [(16,.di (.ew [.str d,.bool true]))] 7 Tryz.f24 [] (dN Tryz.f24) (cU [P3,.str n] (eu (pS T A b X R O Q F)) 7) [([],
   [((if true=true then V.ew [rs.fW (V.str ([]:L)) (dr (rs.str n) F),V.bool (dr (rs.str n) F).isSome]else rs.fW (V.str ([]:L)) (dr (rs.str n) F))=V.ew [V.str d,V.bool true])],
   .ret (.ew [.str d,.bool true]) (eu (pS T A b X R O Q F)) 7)]
 :=cR.of U U U
section
variable(f:Bool)(D:List (L))(i T A:Nat)(b:L)(X R O:Int)
theorem abA(Q F:ae):c9 (Bp (kS []) 73 BM [.dS f D.length (strs D),f44] (hB T A b X R O Q F) 8 (.int .i64 (Int.ofNat i),hB T A b X R O Q F,8)) [(8,.di (.bool true))] 8 Tryz.f43 [] (Vo) (cU [.dS f D.length (strs D),f44] (hB T A b X R O Q F) 8) [([],
   [fC [.dS f (D.length) (strs D),.fn (.func 44) [] [.ptr (some (7,0))]] (J (eK (pS T A b X R O Q F)++[(7,.cells [.ptr (some (3,0))])])) 8,(V.bool (decide (Int.ofNat i>=(0:Int)))=V.bool true)],
   .ret (.bool true) (J (eK (pS T A b X R O Q F)++[(7,.cells [.ptr (some (3,0))])])) 8)]
 :=cR.of U U U
theorem auu(x:L)(i:Nat)(T A:Nat)(b:L)(X R O:Int)(Q F:ae):c9 I9 [(9,.split),(14,.di (.dx [.str x])),(16,.split),(18,.di (.int .i64 (Int.ofNat (i+1))))] 8 Tryz.f73 [0,1,7,8] (dz (dz (dY GW))) (Ef (hB T A b X R O Q F) 8 f41 f D i) [([((decide (Int.ofNat i<Int.ofNat D.length)),true),((!(Int.ofNat x.length)==(32:Int)),true)],
   [((0:Int)<=Int.ofNat i/\Int.ofNat i<(Int.ofNat D.length)),((strs D).length=D.length*1),(V.dx (dF (strs D) ((Int.ofNat i).toNat*1) 1)=V.dx [rs.str x])],
   .ret (.int .i64 (Int.ofNat i)) (J (eK (pS T A b X R O Q F)++[(7,.cells [.ptr (some (3,0))])])) 8),
  ([((decide (Int.ofNat i<Int.ofNat D.length)),true),((!(Int.ofNat x.length)==(32:Int)),false)],
   [((0:Int)<=Int.ofNat i/\Int.ofNat i<(Int.ofNat D.length)),((strs D).length=D.length*1),(V.dx (dF (strs D) ((Int.ofNat i).toNat*1) 1)=V.dx [rs.str x]),(V.int aj (IntKind.i64.wrap (Int.ofNat i+(1:Int)))=V.int aj (Int.ofNat (i+1)))],
   .to .normal (eG [(0,.dS f (D.length) (strs D)),(1,.fn (.func 41) [] []),(7,.int .i64 (Int.ofNat D.length)),(8,.int .i64 (Int.ofNat (i+1)))] (J (eK (pS T A b X R O Q F)++[(7,.cells [.ptr (some (3,0))])])) 8)),
  ([((decide (Int.ofNat i<Int.ofNat D.length)),false)],
   [],
   .to (.exit 0) (eG [(0,.dS f (D.length) (strs D)),(1,.fn (.func 41) [] []),(7,.int .i64 (Int.ofNat D.length)),(8,.int .i64 (Int.ofNat i))] (J (eK (pS T A b X R O Q F)++[(7,.cells [.ptr (some (3,0))])])) 8))]
 :=cR.of U U U
end
theorem agf{M:Nat}{h:H lf}{gv:V}{f:Bool}{D:List (L)}{nx:V->H lf->Nat->Prop}(j:Nat)
  (h0:TG ak M Tryz.f73.ntmps (dP GW) (Vp h M gv f D) (andThen (fun s'=>fa M [0,1,7,8] s'=some (Ef h M gv f D 0)) fun _ _=>False))
  (hr:∀i,i<j->TG ak M Tryz.f73.ntmps Vq (Ef h M gv f D i) (andThen (fun s'=>fa M [0,1,7,8] s'=some (Ef h M gv f D (i+1))) fun _ _=>False))
  (he:TG ak M Tryz.f73.ntmps Vq (Ef h M gv f D j) fun y s'=>y= .ret/\fJ ak M Tryz.f73 nx .ret s'):TG ak M Tryz.f73.ntmps Lo (Vp h M gv f D) (fJ ak M Tryz.f73 nx):=by
 refine cZ U ?_;refine cZ U ?_;refine fA h0 fun y s' dO=>?_;cases y<;>first|exact dO.elim|skip
 have dO:fa M [0,1,7,8] s'=some (Ef h M gv f D 0):=dO;refine fB (i:=0) U (fA (Q1:=fun z s'=>z= .ret/\fJ ak M Tryz.f73 nx .ret s') (gw (fun k' s=>∃i,k'=j-i/\i<=j/\fa M [0,1,7,8] s=some (Ef h M gv f D i)) U ?_ j ⟨0,rfl,aX _,dO⟩) ?_)
 . rintro k' s1 ⟨i,hk,hi,gi⟩;refine c6 gi ?_;rcases bK i j with fI|y6
   . refine fA (hr i fI) fun y s2 jr=>?_;cases y<;>first|exact jr.elim|skip
     exact⟨j-(i+1),K,i+1,rfl,K,jr⟩
   . obtain rfl:i=j:=by omega
     refine fA he fun y s2 jr=>?_;obtain⟨rfl,jr⟩:=jr;exact⟨rfl,jr⟩
 rintro y s2 ⟨rfl,jr⟩;exact jr
section
variable(f:Bool)(D:List (L))(T A:Nat)(b:L)(X R O:Int)(Q F:ae)
theorem VZ(hl:D.length<=1000000)(j:Nat)(x:L)(hj:D[j]? =some x)(G:dr (.str x) Q=none)(hg:∀i y,i<j->D[i]? =some y->uC Q y):
  TG ak 8 Tryz.f73.ntmps OI (cU [.dS f D.length (strs D),f44] (hB T A b X R O Q F) 8) (fJ ak 8 Tryz.f73 fun a b' c=>a= .int .i64 (Int.ofNat j)/\b'=hB T A b X R O Q F/\c=8):=by
 have hO:∀n:Nat,Int.ofNat n=(n:Int):=fun _=>rfl;have Pz:j<D.length:=(aG.1 hj).1;refine iF  1 Ul (MO T A b X R O Q F f D) cT ?_;show TG ak 8 Tryz.f73.ntmps Lo (Vp (hB T A b X R O Q F) 8 f44 f D) _;refine agf j ?_ (fun i PA=>?_) ?_
 . refine fO Ul (RG T A b X R O Q F f D) (dG ?_);exact⟨fun p hp=>by rw[aq]at hp;subst hp;rfl,fun s' dO=>dO⟩
 . obtain⟨y,hy⟩:∃y,D[i]? =some y:=⟨_,ay K⟩;obtain⟨d0,gM,k,hk⟩:=hg i y PA hy;refine fO (XP [(18,[(15,.di (.ew [nJ d0 gM k,.bool true]))])]) (afa f D y i T A b d0 gM k X R O Q F) fun g hg I=>?_;simp only[aF,aL,bw]at hg;rcases hg with rfl|rfl
   . refine⟨?_,fun s' dO=>dO⟩
     repeat' (first|exact cT|refine iI ?_ ?_)
     . exact⟨az _,dm⟩
     . rw[eN,bk]
     . exact aN V.dx (fM hy)
     . exact kM hk
     . exact fL dm K
   . exact absurd (aJ (I _ (aq.2 rfl))) dm
 . obtain⟨L3,wR⟩:=afb f D x j T A b X R O Q F;refine gC (XP [(18,[(15,.di (.ew [zw,.bool false]))])]) mo (fun a b' c=>a= .int .i64 (Int.ofNat j)/\b'=hB T A b X R O Q F/\c=8) U wR fun g hg I=>?_;simp only[aF,aL,bw]at hg;rcases hg with rfl|rfl
   . refine⟨?_,⟨rfl,rfl,rfl⟩,fun s' dO=>⟨rfl,dO⟩⟩
     repeat' (first|exact cT|refine iI ?_ ?_)
     . exact⟨az _,dm⟩
     . rw[eN,bk]
     . exact aN V.dx (fM hj)
     . exact oG G
   . exact absurd (aJ (I _ (aq.2 rfl))) dm
theorem V0(hl:D.length<=1000000)(j:Nat)(x:L)(hj:D[j]? =some x)(G:dr (.str x) Q=none)(hg:∀i y,i<j->D[i]? =some y->uC Q y):
  cW ak 43 [.dS f D.length (strs D),f44] (hB T A b X R O Q F) 8 (.bool true) (hB T A b X R O Q F) 8:=by
 have h73:cW ak 73 [.dS f D.length (strs D),f44] (hB T A b X R O Q F) 8 (.int .i64 (Int.ofNat j)) (hB T A b X R O Q F) 8:=
  c5 Tryz.func73 U U (VZ f D T A b X R O Q F hl j x hj G hg)
 refine c5 Tryz.func43 (code:=Vo) U U ?_;refine fh ((XQ []).Le BM (au U) h73) (abA f D j T A b X R O Q F) (dG ?_);refine⟨?_,_,_,_,rfl,rfl,rfl,rfl⟩
 repeat' (first|exact cT|refine iI ?_ ?_)
 . exact⟨rfl,rfl,rfl⟩
 . exact anr (az _)
abbrev V1(e:Int):V:=.ew [.str [],.int .i64 e]
theorem V2(d:L)(hd:d.length<=65536)(hn:D.length<=1024)(h32:∀x∈D,x.length=32)(j:Nat)(x:L)(hj:D[j]? =some x)(G:dr (.str x) Q=none)(hg:∀i y,i<j->D[i]? =some y->uC Q y):
  cW ak 15 [P3,.str d,.dS f D.length (strs D)] (eu (pS T A b X R O Q F)) 7 (V1 63) (eu (pS T A b X R O Q F)) 7:=by
 have hO:∀n:Nat,Int.ofNat n=(n:Int):=fun _=>rfl;refine c5 Tryz.func15 (code:=uD) U U ?_;obtain⟨aa,hr⟩:=abx d f D T A b X R O Q F;simp only[fR]at hr;refine gA ((XQ []).Le BM (au U) (V0 f D T A b X R O Q F K j x hj G hg)) mo _ U hr (dG ?_);refine⟨?_,_,_,_,rfl,rfl,rfl,rfl⟩
 repeat' (first|exact cT|refine iI ?_ ?_)
 . exact gD dm
 . exact gD dm
 . first|rfl|trivial
 . first|rfl|trivial
 . omega
 . exact h32
 . first|exact⟨rfl,rfl,rfl⟩|exact⟨trivial,trivial,rfl⟩|exact⟨trivial,trivial,trivial⟩|trivial
theorem V3(d d0:L)(gM:List (L))(k:Int)(G:dr (.str d) Q=some (oF d0 gM k))(hn:gM.length<=1000000):
  cW ak 25 [P3,.str d] (eu (pS T A b X R O Q F)) 7 (.ew [.str d0,.dS false gM.length (strs gM),.int .i64 0]) (eu (pS T A b X R O Q F)) 7:=by
 refine c5 Tryz.func25 (code:=dN Tryz.f25) U U ?_;rcases gM with _|⟨r,gM⟩
 . refine fh ((XQ []).jA (au U) (abw false _ _)) (VY d d0 k T A b X R O Q F) (dG ?_);refine⟨?_,_,_,_,rfl,rfl,rfl,rfl⟩
   repeat' (first|exact cT|refine iI ?_ ?_)
   . exact kM G
   . exact⟨rfl,rfl,rfl⟩
 . refine fh (XQ []) (aby d d0 (r::gM) k T A b X R O Q F) (dG ?_);refine⟨?_,_,_,_,rfl,rfl,rfl,rfl⟩
   repeat' (first|exact cT|refine iI ?_ ?_)
   . exact kM G
   . exact Nat.succ_pos _
   . exact eN _
   . exact hn
theorem V4(d:L)(G:uC Q d):cW ak 18 [P3,.str d] (eu (pS T A b X R O Q F)) 7 (.bool true) (eu (pS T A b X R O Q F)) 7:=by
 obtain⟨d0,gM,k,G⟩:=G;refine c5 Tryz.func18 (code:=dN Tryz.f18) U U ?_;refine fh (XQ []) (Sq d d0 gM k T A b X R O Q F) (dG ?_);refine⟨fun a ha=>?_,_,_,_,rfl,rfl,rfl,rfl⟩;rw[aq]at ha;subst ha;exact kM G
theorem LJ(n d:L)(G:dr (.str n) F=some (.str d)):cW ak 24 [P3,.str n] (eu (pS T A b X R O Q F)) 7 (.ew [.str d,.bool true]) (eu (pS T A b X R O Q F)) 7:=by
 refine c5 Tryz.func24 (code:=dN Tryz.f24) U U ?_;refine fh (XQ []) (abz n d T A b X R O Q F) (dG ?_);refine⟨fun a ha=>?_,_,_,_,rfl,rfl,rfl,rfl⟩;rw[aq]at ha;subst ha;exact zD G
end
def w88:V:=.fn (.func 88) [] [.ptr (some (7,0))]
section
variable(T A:Nat)(b:L)(X R O:Int)(Q F:ae)
def lK:af:=eK (pS T A b X R O Q F)++[(7,.cells [.map (some 6)])]
def lKg:af:=[(0,.ints .u32 gS),(1,.ints .u32 gR),(3,.cells (vI 4 5 6 (pS T A b X R O Q F))),(4,.jf 5 false b),(5,.dI none Q),(7,.cells [.map (some 6)])]
def sKa:St:=eG [(2,.ptr (some (8,0))),(6,w88)] (J (lK T A b X R O Q F++[(8,.cells [.dj none 0 0 0])])) 9
noncomputable def oKa:lf:=.loop true none (sKa T A b X R O Q F).S [7] Vu Vv
noncomputable def hK(sl:V)(row:af):H lf:=J (lK T A b X R O Q F++[(8,.cells [sl]),(9,.mF),(10,oKa T A b X R O Q F)]++row)
noncomputable def SK(sl:V)(row:af)(n:Nat):St:=eG [(0,.fn (.yield 10) [] []),(5,.ptr (some (11,0)))] (J (lKg T A b X R O Q F++[(8,.cells [sl]),(9,.mF),(10,oKa T A b X R O Q F)]++row)) n
end
abbrev P(m:Nat):V:=.ptr (some (m,0))
section
variable(T A:Nat)(b:L)(X R O:Int)
theorem anu(Q F:ae)(k:L)(v:V):c9 (kS []) [] 12 Tryz.f88 [0,5] ((sO Ez).rest) (Um (SK T A b X R O Q F eM [] 12) k v) [([],
   [],
   .to .normal (eG [(0,.fn (.yield 10) [] []),(5,.ptr (some (11,0)))] (J [(0,.ints .u32 gS),(1,.ints .u32 gR),(3,.cells [.dj (some (4,0)) T A 1,.int .i64 X,.map (some 5),.map (some 6),.int .i64 R,.bool false,.bool false,.int .i64 O]),(4,.jf 5 false b),(5,.dI none Q),(7,.cells [.map (some 6)]),(8,.cells [.dj (some (12,0)) 1 1 1]),(9,.mF),(10,.loop true none (Eng.Bm [(2,.ptr (some (8,0))),(6,.fn (.func 88) [] [.ptr (some (7,0))])]) [7] Vu Vv),(12,.cells [.str k])]) 13))]
 :=cR.of U U U
theorem agi(Q F:ae)(k:L)(v:V)(n:Nat)(C:ai):c9 (kS []) [] 12 Tryz.f88 [0,5] ((sO Ez).rest) (Um (SK T A b X R O Q F (.dj (some (12,0)) n n 1) [(12,.deep C)] 13) k v) [([],
   [(0+n*1<=C.length),(0<1),(eU (n+1) 1 16=true)],
   .to .normal (eG [(0,.fn (.yield 10) [] []),(5,.ptr (some (11,0)))] (J [(0,.ints .u32 gS),(1,.ints .u32 gR),(3,.cells [.dj (some (4,0)) T A 1,.int .i64 X,.map (some 5),.map (some 6),.int .i64 R,.bool false,.bool false,.int .i64 O]),(4,.jf 5 false b),(5,.dI none Q),(7,.cells [.map (some 6)]),(8,.cells [.dj (some (12,0)) (n+1) (n+1) 1]),(9,.mF),(10,.loop true none (Eng.Bm [(2,.ptr (some (8,0))),(6,.fn (.func 88) [] [.ptr (some (7,0))])]) [7] Vu Vv),(12,.deep (List.take (n*1) (List.drop 0 C)++[rs.str k]))]) 13))]
 :=cR.of U U U
theorem anv(Q F:ae):c9 (kS []) [] 8 Tryz.f113 [1,2] (eV 1 RT) (cU [eM,w88] (J (lK T A b X R O Q F)) 8) [([],
   [],
   .to .normal (eG [(1,.fn (.func 88) [] [.ptr (some (7,0))]),(2,.ptr (some (8,0)))] (J (eK (pS T A b X R O Q F)++[(7,.cells [.map (some 6)]),(8,.cells [.dj none 0 0 0])])) 9))]
 :=cR.of U U U
theorem anw(Q F:ae):c9 (kS []) [] 8 Tryz.f113 [2,6] (dP (dP AJ)) (eG [(1,w88),(2,P 8)] (J (lK T A b X R O Q F++[(8,.cells [eM])])) 9) [([],
   [],
   .to .normal (eG [(2,.ptr (some (8,0))),(6,.fn (.func 88) [] [.ptr (some (7,0))])] (J (eK (pS T A b X R O Q F)++[(7,.cells [.map (some 6)]),(8,.cells [.dj none 0 0 0])])) 9))]
 :=cR.of U U U
theorem anx(Q F:ae)(n:Nat)(C:ai):c9 (kS []) [] 8 Tryz.f113 [] (dY AJ) (tT (sKa T A b X R O Q F) (hK T A b X R O Q F (.dj (some (11,0)) n n 1) [(11,.deep C)]) 12) [([],
   [],
   .ret (.dj (some (8,0)) n n 1) (J (eK (pS T A b X R O Q F)++[(7,.cells [.map (some 6)]),(8,.deep C)])) 9)]
 :=cR.of U U U
theorem anz(Q F:ae):c9 (kS []) [] 8 Tryz.f113 [] (dY AJ) (tT (sKa T A b X R O Q F) (hK T A b X R O Q F eM []) 11) [([],
   [],
   .ret (.dj none 0 0 0) (J (eK (pS T A b X R O Q F)++[(7,.cells [.map (some 6)])])) 8)]
 :=cR.of U U U
end
def yd(F:ae):Prop:=∀e∈F,∃k,e.1= .str k
def dM(F:ae):List (L):=F.map fun e=>rs.aas e.1
theorem DH(a b:List (L)):strs (a++b)=strs a++strs b:=by unfold strs;rw[aY]
section
variable(T A:Nat)(b:L)(X R O:Int)(Q F:ae)
def Bs(m:Nat):List (L)->af
 | []=>[]
 | [x]=>[(m,.cells [.str x])]
 |ks=>[(m,.deep (strs ks))]
def Hj(m:Nat):List (L)->V
 | []=>eM
 |ks=>.dj (some (m,0)) ks.length ks.length 1
def nK(m:Nat):List (L)->Nat
 | []=>m
 |_=>m+1
def JKa(iO:ae)(s1:St):Prop:=yd iO/\fa 12 [0,5] s1=some (SK T A b X R O Q F (Hj 12 (dM iO)) (Bs 12 (dM iO)) (nK 12 (dM iO)))
theorem V5(hk:yd F)(hl:F.length<=1000000):gh ak 88 [.fn (.yield 10) [] [],.ptr (some (7,0))] (hK T A b X R O Q F eM []) 11 fun v h n=>∃iO,List.Perm iO F/\v= .ew []/\h=hK T A b X R O Q F (Hj 11 (dM iO)) (Bs 11 (dM iO))/\n=nK 11 (dM iO):=by
 refine gO mo po Tryz.func88 (code:=Ez) U U ?_;rw[afr];refine zu (v0:=.map (some 6)) (kA:=(cU [.fn (.yield 10) [] [],.ptr (some (7,0))] (hK T A b X R O Q F eM []) 11).S.set 4 (some (.map (some 6)))) (Aa:=((cU [.fn (.yield 10) [] [],.ptr (some (7,0))] (hK T A b X R O Q F eM []) 11).S.set 4 (some (.map (some 6)))).set 5 (some (.ptr (some (11,0))))) (m:=6) (kd:=none) (Q:=F) mo MS
  U U U U (au rfl) U (JKa T A b X R O Q F) ⟨(fun _ h=>by cases h),U⟩ ?_
 rintro iO left s1 ⟨hv,hs⟩ hp;have iQ:iO.length<=1000000:=by
  have:=hp.length_eq;rw[ax]at this;omega
 match iO,hv,hs,hp,iQ with
 | [],hv,hs,hp,_=>
   refine⟨[0,5],SK T A b X R O Q F eM [] 12,hs,U,fun wj=>?_,fun e kD he=>?_⟩
   . subst wj;rw[cA]at hp;refine⟨(SK T A b X R O Q F eM [] 12).S.set 6 (some (.ew [.bool false])),{ SK T A b X R O Q F eM [] 12 with S:=((SK T A b X R O Q F eM [] 12).S.set 6 (some (.ew [.bool false]))).set 7 (some (.bool false)) },U,U,U,.inl rfl,.ew [],hK T A b X R O Q F eM [],11,U,[],hp,rfl,rfl,rfl⟩
   . obtain⟨k,Sr⟩:=hk e (hp.mem_iff.1 (he.mem_iff.2 (by simp)));obtain⟨e1,e2⟩:=e;have Sr:e1= .str k:=Sr;subst Sr;refine⟨(SK T A b X R O Q F eM [] 12).S.set 6 (some (.ew [.bool true,.str k,e2.iZ])),{ SK T A b X R O Q F eM [] 12 with S:=((SK T A b X R O Q F eM [] 12).S.set 6 (some (.ew [.bool true,.str k,e2.iZ]))).set 7 (some (.bool true)) },
      (((SK T A b X R O Q F eM [] 12).S.set 6 (some (.ew [.bool true,.str k,e2.iZ]))).set 7 (some (.bool true))).set 8 (some (.ew [.str k,e2.iZ])),Um (SK T A b X R O Q F eM [] 12) k e2.iZ,U,U,U,U,U,U,U,U,?_⟩
     refine fO (XQ []) (anu T A b X R O Q F k e2.iZ) (dG ?_);exact⟨cT,fun s' dO=>⟨fun x G=>by rw[ck,aq]at G;exact⟨k,by rw[G]⟩,dO⟩⟩
 | [x],hv,hs,hp,_=>
   obtain⟨x1,x2⟩:=x;obtain⟨kx,hkx⟩:=hv _ (aq.2 rfl);have hkx:x1= .str kx:=hkx;subst hkx;refine⟨[0,5],SK T A b X R O Q F (.dj (some (12,0)) 1 1 1) [(12,.cells [.str kx])] 13,hs,U,fun wj=>?_,fun e kD he=>?_⟩
   . subst wj;rw[cA]at hp;refine⟨(SK T A b X R O Q F (.dj (some (12,0)) 1 1 1) [(12,.cells [.str kx])] 13).S.set 6 (some (.ew [.bool false])),{ SK T A b X R O Q F (.dj (some (12,0)) 1 1 1) [(12,.cells [.str kx])] 13 with S:=((SK T A b X R O Q F (.dj (some (12,0)) 1 1 1) [(12,.cells [.str kx])] 13).S.set 6 (some (.ew [.bool false]))).set 7 (some (.bool false)) },U,U,U,.inl rfl,.ew [],hK T A b X R O Q F (.dj (some (11,0)) 1 1 1) [(11,.cells [.str kx])],12,U,_,hp,rfl,rfl,rfl⟩
   . obtain⟨k,Sr⟩:=hk e (hp.mem_iff.1 (b9 _ (he.mem_iff.2 (by simp))));obtain⟨e1,e2⟩:=e;have Sr:e1= .str k:=Sr;subst Sr
     let fr:=SK T A b X R O Q F (.dj (some (12,0)) 1 1 1) [(12,.cells [.str kx])] 13
     refine⟨fr.S.set 6 (some (.ew [.bool true,.str k,e2.iZ])),{ fr with S:=(fr.S.set 6 (some (.ew [.bool true,.str k,e2.iZ]))).set 7 (some (.bool true)) },
      ((fr.S.set 6 (some (.ew [.bool true,.str k,e2.iZ]))).set 7 (some (.bool true))).set 8 (some (.ew [.str k,e2.iZ])),Um fr k e2.iZ,U,U,U,U,U,U,U,U,?_⟩
     refine tX [12] (s2:=Um (SK T A b X R O Q F (.dj (some (12,0)) 1 1 1) [(12,.deep [.str kx])] 13) k e2.iZ) U ?_;refine fO (XQ []) (agi T A b X R O Q F k e2.iZ 1 [.str kx]) (dG ?_);refine⟨?_,fun s' dO=>⟨fun x G=>?_,dO⟩⟩
     . exact cu.2 ⟨aA _,cu.2 ⟨dU,cu.2 ⟨dU,cT⟩⟩⟩
     . simp only[List.cons_append,ck,aF,aL,bw]at G;rcases G with rfl|rfl
       . exact⟨kx,rfl⟩
       . exact⟨k,rfl⟩
 |x::y::iO,hv,hs,hp,iQ=>
  have vc:∀m,Bs m (dM (x::y::iO))=[(m,.deep (strs (dM (x::y::iO))))]:=fun m=>rfl;have PI:∀m,Hj m (dM (x::y::iO))= .dj (some (m,0)) (dM (x::y::iO)).length (dM (x::y::iO)).length 1:=fun m=>rfl;have hnk:∀m,nK m (dM (x::y::iO))=m+1:=fun m=>rfl;have PK:(dM (x::y::iO)).length=(x::y::iO).length:=by unfold dM;rw[aT]
  rw[vc,PI,hnk]at hs;have hL2:∀l2,Hj 11 (dM (x::y::iO))=l2->l2= .dj (some (11,0)) (dM (x::y::iO)).length (dM (x::y::iO)).length 1:=fun l2 h=>h▸rfl;refine⟨[0,5],_,hs,U,fun wj=>?_,fun e kD he=>?_⟩
  . subst wj;rw[cA]at hp;refine⟨(SK T A b X R O Q F (.dj (some (12,0)) (dM (x::y::iO)).length (dM (x::y::iO)).length 1) [(12,.deep (strs (dM (x::y::iO))))] 13).S.set 6 (some (.ew [.bool false])),{ SK T A b X R O Q F (.dj (some (12,0)) (dM (x::y::iO)).length (dM (x::y::iO)).length 1) [(12,.deep (strs (dM (x::y::iO))))] 13 with S:=((SK T A b X R O Q F (.dj (some (12,0)) (dM (x::y::iO)).length (dM (x::y::iO)).length 1) [(12,.deep (strs (dM (x::y::iO))))] 13).S.set 6 (some (.ew [.bool false]))).set 7 (some (.bool false)) },U,U,U,.inl rfl,.ew [],hK T A b X R O Q F (.dj (some (11,0)) (dM (x::y::iO)).length (dM (x::y::iO)).length 1) [(11,.deep (strs (dM (x::y::iO))))],12,?_,_,hp,rfl,rfl,rfl⟩;generalize dM (x::y::iO)=ks;kernel_rfl
  . obtain⟨k,Sr⟩:=hk e (hp.mem_iff.1 (b9 _ (he.mem_iff.2 (by simp))));obtain⟨e1,e2⟩:=e;have Sr:e1= .str k:=Sr;subst Sr;have pZ:dM ((x::y::iO)++[(.str k,e2)])=dM (x::y::iO)++[k]:=by unfold dM;rw[aY];rfl
    have tc:yd ((x::y::iO)++[(.str k,e2)]):=fun z hz=>by
     rcases aW.1 hz with hz|hz
     . exact hv z hz
     . rw[aq]at hz;subst hz;exact⟨k,rfl⟩
    have B:2<=(dM (x::y::iO)).length:=by rw[PK];simp
    have hJ:∀s',fa 12 [0,5] s'=some (SK T A b X R O Q F (.dj (some (12,0)) (dM (x::y::iO)++[k]).length (dM (x::y::iO)++[k]).length 1) [(12,.deep (strs (dM (x::y::iO)++[k])))] 13)->JKa T A b X R O Q F ((x::y::iO)++[(.str k,e2)]) s':=by
     intro s' dO;refine⟨tc,?_⟩;rw[pZ,dO];unfold dM;rfl
    generalize hK0:dM (x::y::iO)=ks at *
    let fr:=SK T A b X R O Q F (.dj (some (12,0)) ks.length ks.length 1) [(12,.deep (strs ks))] 13
    refine⟨fr.S.set 6 (some (.ew [.bool true,.str k,e2.iZ])),{ fr with S:=(fr.S.set 6 (some (.ew [.bool true,.str k,e2.iZ]))).set 7 (some (.bool true)) },
     ((fr.S.set 6 (some (.ew [.bool true,.str k,e2.iZ]))).set 7 (some (.bool true))).set 8 (some (.ew [.str k,e2.iZ])),Um fr k e2.iZ,U,U,U,U,U,U,U,U,?_⟩
    refine fO (XQ []) (agi T A b X R O Q F k e2.iZ ks.length (strs ks)) (dG ?_);refine⟨?_,fun s' dO=>hJ s' ?_⟩
    . exact cu.2 ⟨by rw[eN];omega,cu.2 ⟨dU,cu.2 ⟨lZ K,cT⟩⟩⟩
    . refine Eq.trans dO ?_;have e3:List.take (ks.length*1) (List.drop 0 (strs ks))++[rs.str k]=strs (ks++[k]):=by
       rw[bn,bk,bq (by rw[eN];exact aA _),DH];rfl
      rw[e3,ax];rfl
end
section
variable(T A:Nat)(b:L)(X R O:Int)(Q F:ae)
def ye(row:af):H lf:=J (lK T A b X R O Q F++row)
end
section
variable(T:Nat)(h:H lf)(A:Nat)(b:L)(X R O:Int)(n:Nat)
def sC2(v:V):St:={ S:=((((Bm [(0,w88)]).set 3 (some w88)).set 4 (some v)).set 2 (some v)),h:=h,n:=n,gG:=[] }
theorem anB(Q F:ae)(x:L):c9 (kS []) [] 8 Tryz.f113 [] (dY AJ) (tT (sKa T A b X R O Q F) (hK T A b X R O Q F (.dj (some (11,0)) 1 1 1) [(11,.cells [.str x])]) 12) [([],
   [],
   .ret (.dj (some (8,0)) 1 1 1) (J (eK (pS T A b X R O Q F)++[(7,.cells [.map (some 6)]),(8,.cells [.str x])])) 9)]
 :=cR.of U U U
theorem anC(Q F:ae):c9 (kS []) [] 8 Tryz.f86 [0] (eV 1 EB) (cU [w88] (ye T A b X R O Q F []) 8) [([],
   [],
   .to .normal (eG [(0,.fn (.func 88) [] [.ptr (some (7,0))])] (J (eK (pS T A b X R O Q F)++[(7,.cells [.map (some 6)])])) 8))]
 :=cR.of U U U
theorem anD(Q F:ae)(n:Nat)(C:ai):c9 (kS []) [] 8 Tryz.f86 [] (dY (dh 1 EB)) (sC2 (ye T A b X R O Q F [(8,.deep C)]) 9 (.dj (some (8,0)) n n 1)) [([],
   [],
   .ret (.dj (some (8,0)) n n 1) (J (eK (pS T A b X R O Q F)++[(7,.cells [.map (some 6)]),(8,.deep C)])) 9)]
 :=cR.of U U U
theorem anE(Q F:ae):c9 (kS []) [] 8 Tryz.f86 [] (dY (dh 1 EB)) (sC2 (ye T A b X R O Q F []) 8 eM) [([],
   [],
   .ret (.dj none 0 0 0) (J (eK (pS T A b X R O Q F)++[(7,.cells [.map (some 6)])])) 8)]
 :=cR.of U U U
theorem anF(Q F:ae)(x:L):c9 (kS []) [] 8 Tryz.f86 [] (dY (dh 1 EB)) (sC2 (ye T A b X R O Q F [(8,.cells [.str x])]) 9 (.dj (some (8,0)) 1 1 1)) [([],
   [],
   .ret (.dj (some (8,0)) 1 1 1) (J (eK (pS T A b X R O Q F)++[(7,.cells [.map (some 6)]),(8,.cells [.str x])])) 9)]
 :=cR.of U U U
theorem anG(Q F:ae):c9 (kS []) [] 8 Tryz.f61 [0] (eV 1 EA) (cU [w88] (ye T A b X R O Q F []) 8) [([],
   [],
   .to .normal (eG [(0,.fn (.func 88) [] [.ptr (some (7,0))])] (J (eK (pS T A b X R O Q F)++[(7,.cells [.map (some 6)])])) 8))]
 :=cR.of U U U
def sS2(v:V):St:={ S:=((((Bm [(0,w88)]).set 4 (some w88)).set 5 (some v)).set 3 (some v)),h:=h,n:=n,gG:=[] }
theorem anH(Q F:ae)(n:Nat)(C vw:ai):c9 (fG (kS []) 87 [.dj (some (8,0)) n n 1] (ye T A b X R O Q F [(8,.deep C)]) 9 (.ew [],(ye T A b X R O Q F [(8,.deep C)]).set 8 (some (.deep vw)),9)) [] 8 Tryz.f61 [] (dh 2 EA) (sS2 (ye T A b X R O Q F [(8,.deep C)]) 9 (.dj (some (8,0)) n n 1)) [([],
   [fC [.dj (some (8,0)) n n 1] (J (eK (pS T A b X R O Q F)++[(7,.cells [.map (some 6)]),(8,.deep C)])) 9],
   .ret (.dj (some (8,0)) n n 1) (J (eK (pS T A b X R O Q F)++[(7,.cells [.map (some 6)]),(8,.deep vw)])) 9)]
 :=cR.of U U U
theorem anI(Q F:ae):c9 (kS []) [] 8 Tryz.f61 [] (dh 2 EA) (sS2 (ye T A b X R O Q F []) 8 eM) [([],
   [((0:Int)<=(0:Int)/\0<256)],
   .ret (.dj none 0 0 0) (J (eK (pS T A b X R O Q F)++[(7,.cells [.map (some 6)])])) 8)]
 :=cR.of U U U
theorem anJ(Q F:ae)(x:L):c9 (kS []) [] 8 Tryz.f61 [] (dh 2 EA) (sS2 (ye T A b X R O Q F [(8,.cells [.str x])]) 9 (.dj (some (8,0)) 1 1 1)) [([],
   [((0:Int)<=(1:Int)/\1<256)],
   .ret (.dj (some (8,0)) 1 1 1) (J (eK (pS T A b X R O Q F)++[(7,.cells [.map (some 6)]),(8,.cells [.str x])])) 9)]
 :=cR.of U U U
def hKf(Q F:ae)(row:af):H lf:=J (eK (pS T A b X R O Q F)++row)
theorem agk(Q F:ae)(n:Nat)(C:ai):c9 (fG (kS []) 61 [w88] (ye T A b X R O Q F []) 8 (.dj (some (8,0)) n n 1,ye T A b X R O Q F [(8,.deep C)],9)) [] 7 Tryz.f23 [] (OM) (cU [P3] (eu (pS T A b X R O Q F)) 7) [([],
   [fC [.fn (.func 88) [] [.ptr (some (7,0))]] (J (eK (pS T A b X R O Q F)++[(7,.cells [.map (some 6)])])) 8],
   .ret (.dj (some (7,0)) n n 1) (J (eK (pS T A b X R O Q F)++[(7,.deep C)])) 8)]
 :=cR.of U U U
theorem agl(Q F:ae):c9 (fG (kS []) 61 [w88] (ye T A b X R O Q F []) 8 (eM,ye T A b X R O Q F [],8)) [] 7 Tryz.f23 [] (OM) (cU [P3] (eu (pS T A b X R O Q F)) 7) [([],
   [fC [.fn (.func 88) [] [.ptr (some (7,0))]] (J (eK (pS T A b X R O Q F)++[(7,.cells [.map (some 6)])])) 8],
   .ret (.dj none 0 0 0) (eu (pS T A b X R O Q F)) 7)]
 :=cR.of U U U
theorem agm(Q F:ae)(x:L):c9 (fG (kS []) 61 [w88] (ye T A b X R O Q F []) 8 (.dj (some (8,0)) 1 1 1,ye T A b X R O Q F [(8,.cells [.str x])],9)) [] 7 Tryz.f23 [] (OM) (cU [P3] (eu (pS T A b X R O Q F)) 7) [([],
   [fC [.fn (.func 88) [] [.ptr (some (7,0))]] (J (eK (pS T A b X R O Q F)++[(7,.cells [.map (some 6)])])) 8],
   .ret (.dj (some (7,0)) 1 1 1) (J (eK (pS T A b X R O Q F)++[(7,.cells [.str x])])) 8)]
 :=cR.of U U U
end
end Go.Proofs.YtfihojpgobmmdaaGreatDoor
