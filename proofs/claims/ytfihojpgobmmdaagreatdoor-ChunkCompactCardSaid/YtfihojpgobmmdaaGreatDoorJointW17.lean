/- The Chunk laws: octet.Reader: Var: pieces. No conditions. -/
import Derived.Test.YtfihojpgobmmdaaGreatDoorJointW07
import Derived.Test.YtfihojpgobmmdaaGreatDoorJointW16
import Derived.Test.YtfihojpgobmmdaaGreatDoorJointW13
import Derived.Test.YtfihojpgobmmdaaGreatDoorJointW14
import Derived.Test.YtfihojpgobmmdaaGreatDoorJointW11
import Derived.Test.YtfihojpgobmmdaaGreatDoorJointW15
import Derived.Shelf.SlicesG.Clone
set_option linter.unusedVariables false
set_option linter.unusedSimpArgs false
set_option linter.unusedSectionVars false
set_option maxRecDepth 20000
namespace Go.Proofs.YtfihojpgobmmdaaGreatDoor
open Go Go.Eng
noncomputable abbrev Ou:Code:=dP Tryz.f110
noncomputable abbrev U4:Code:=de 3 Ou
noncomputable abbrev ae2:Code:=dK U4
noncomputable abbrev alw:Code:=dw (dw (ee ae2))
abbrev Pf:V:=.ptr (some (3,0))
section
variable(s:aa)(a:Nat)(u:Int)(m i:Nat)(b:UInt8)
abbrev GR(f:Bool):ag:=[.str s,.int .i64 (Int.ofNat a),.bool f]
def uS(i:Nat):Int:=IntKind.u64.wrap (Int.ofNat (BitVec.ofInt 64 u|||BitVec.ofInt 64 (IntKind.u64.wrap (IntKind.u64.wrap (IntKind.u8.wrap (Int.ofNat (BitVec.ofInt 8 (Int.ofNat b.toNat)&&&BitVec.ofInt 8 (127:Int)).toNat))*(2:Int)^min (Int.ofNat (7*i)).toNat 64))).toNat)
def Yk:St:=eF [(0,Pf),(3,.int .u64 u),(16,.int .i64 (Int.ofNat m)),(17,.int .i64 (Int.ofNat i))] (hP (GR s a false)) 4
theorem ae3(a:Int):c6 (kY []) [] 4 Tryz.f110 [] (Ou) (cS [Pf] (hP [.str s,.int .i64 a,.bool true]) 4) [([],
   [],
   .ret (.int .i64 0) (hL [(3,.cells [.str s,.int .i64 a,.bool true])]) 4)]
 :=cQ.of U U U
theorem ae4:c6 (kY []) [] 4 Tryz.f110 [0,3] (eR 3 Ou) (cS [Pf] (hP (GR s a false)) 4) [([],
   [],
   .to .normal (eF [(0,.ptr (some (3,0))),(3,.int .u64 0)] (hL [(3,.cells [.str s,.int .i64 (Int.ofNat a),.bool false])]) 4))]
 :=cQ.of U U U
theorem ae5:c6 (kY []) [(16,.dc (.int .i64 (Int.ofNat m))),(17,.dc (.int .i64 (Int.ofNat 0)))] 4 Tryz.f110 [0,3,16,17] (dK ae2) (eF [(0,Pf),(3,.int .u64 0)] (hP (GR s a false)) 4) [([],
   [(V.int aj (if IntKind.i64.wrap ((Int.ofNat s.length)-Int.ofNat a)<(10:Int)then IntKind.i64.wrap ((Int.ofNat s.length)-Int.ofNat a)else(10:Int))=V.int aj (Int.ofNat m)),(V.int aj (0:Int)=V.int aj (0:Int))],
   .to .normal (eF [(0,.ptr (some (3,0))),(3,.int .u64 0),(16,.int .i64 (Int.ofNat m)),(17,.int .i64 0)] (hL [(3,.cells [.str s,.int .i64 (Int.ofNat a),.bool false])]) 4))]
 :=cQ.of U U U
abbrev kZ(u:Int)(b:UInt8):Prop:=V.int IntKind.u64 (IntKind.u64.wrap (Int.ofNat (BitVec.ofInt 64 u|||BitVec.ofInt 64 (IntKind.u64.wrap (IntKind.u64.wrap (IntKind.u8.wrap (Int.ofNat (BitVec.ofInt 8 (Int.ofNat b.toNat)&&&BitVec.ofInt 8 (127:Int)).toNat))*(2:Int)^min (7*i) 64))).toNat))=V.int IntKind.u64 (uS u b i)
abbrev k8:Prop:=V.int IntKind.u8 (Int.ofNat (s.getD (a+i) (0:UInt8)).toNat)=V.int IntKind.u8 (Int.ofNat b.toNat)
theorem ae6(u:Int)(b:UInt8):c6 (kY []) [(18,.split),(29,.dc (.int .i64 (Int.ofNat (a+i)))),(30,.dc (.int .u8 (Int.ofNat b.toNat))),(36,.dc (.int .i64 (Int.ofNat (7*i)))),(38,.dc (.int .u64 (uS u b i))),(40,.split),(43,.split),(47,.split),(50,.split),(54,.split),(61,.dc (.int .i64 (Int.ofNat (a+(i+1))))),(66,.dc (.int .i64 (Int.ofNat (i+1))))] 4 Tryz.f110 [0,3,16,17] (alw) (Yk s a u m i) [([((decide (Int.ofNat i<Int.ofNat m)),true),((decide (Int.ofNat b.toNat>=(128:Int))),true)],
   [kT (Int.ofNat a+Int.ofNat i) (a+i),((0:Int)<=Int.ofNat (a+i)/\(a+i)<s.length),k8 s a i b,kT ((7:Int)*Int.ofNat i) (7*i),kZ i u b,kT (Int.ofNat i+(1:Int)) (i+1)],
   .to .normal (eF [(0,.ptr (some (3,0))),(3,.int .u64 (uS u b i)),(16,.int .i64 (Int.ofNat m)),(17,.int .i64 (Int.ofNat (i+1)))] (hL [(3,.cells [.str s,.int .i64 (Int.ofNat a),.bool false])]) 4)),
  ([((decide (Int.ofNat i<Int.ofNat m)),true),((decide (Int.ofNat b.toNat>=(128:Int))),false),((decide (Int.ofNat i>(0:Int))),true),((Int.ofNat b.toNat==(0:Int)),true),(true,true)],
   [kT (Int.ofNat a+Int.ofNat i) (a+i),((0:Int)<=Int.ofNat (a+i)/\(a+i)<s.length),k8 s a i b,kT ((7:Int)*Int.ofNat i) (7*i),kZ i u b],
   .to (.exit 0) (eF [(0,.ptr (some (3,0))),(3,.int .u64 (uS u b i)),(16,.int .i64 (Int.ofNat m)),(17,.int .i64 (Int.ofNat i))] (hL [(3,.cells [.str s,.int .i64 (Int.ofNat a),.bool false])]) 4)),
  ([((decide (Int.ofNat i<Int.ofNat m)),true),((decide (Int.ofNat b.toNat>=(128:Int))),false),((decide (Int.ofNat i>(0:Int))),true),((Int.ofNat b.toNat==(0:Int)),true),(true,false)],
   [kT (Int.ofNat a+Int.ofNat i) (a+i),((0:Int)<=Int.ofNat (a+i)/\(a+i)<s.length),k8 s a i b,kT ((7:Int)*Int.ofNat i) (7*i),kZ i u b,kT (Int.ofNat a+IntKind.i64.wrap (Int.ofNat i+(1:Int))) (a+(i+1))],
   .ret (.int .i64 (IntKind.i64.wrap (uS u b i))) (hL [(3,.cells [.str s,.int .i64 (Int.ofNat (a+(i+1))),.bool false])]) 4),
  ([((decide (Int.ofNat i<Int.ofNat m)),true),((decide (Int.ofNat b.toNat>=(128:Int))),false),((decide (Int.ofNat i>(0:Int))),true),((Int.ofNat b.toNat==(0:Int)),false),((Int.ofNat i==(9:Int)),true),((decide (Int.ofNat b.toNat>(1:Int))),true)],
   [kT (Int.ofNat a+Int.ofNat i) (a+i),((0:Int)<=Int.ofNat (a+i)/\(a+i)<s.length),k8 s a i b,kT ((7:Int)*Int.ofNat i) (7*i),kZ i u b],
   .to (.exit 0) (eF [(0,.ptr (some (3,0))),(3,.int .u64 (uS u b i)),(16,.int .i64 (Int.ofNat m)),(17,.int .i64 (Int.ofNat i))] (hL [(3,.cells [.str s,.int .i64 (Int.ofNat a),.bool false])]) 4)),
  ([((decide (Int.ofNat i<Int.ofNat m)),true),((decide (Int.ofNat b.toNat>=(128:Int))),false),((decide (Int.ofNat i>(0:Int))),true),((Int.ofNat b.toNat==(0:Int)),false),((Int.ofNat i==(9:Int)),true),((decide (Int.ofNat b.toNat>(1:Int))),false)],
   [kT (Int.ofNat a+Int.ofNat i) (a+i),((0:Int)<=Int.ofNat (a+i)/\(a+i)<s.length),k8 s a i b,kT ((7:Int)*Int.ofNat i) (7*i),kZ i u b,kT (Int.ofNat a+IntKind.i64.wrap (Int.ofNat i+(1:Int))) (a+(i+1))],
   .ret (.int .i64 (IntKind.i64.wrap (uS u b i))) (hL [(3,.cells [.str s,.int .i64 (Int.ofNat (a+(i+1))),.bool false])]) 4),
  ([((decide (Int.ofNat i<Int.ofNat m)),true),((decide (Int.ofNat b.toNat>=(128:Int))),false),((decide (Int.ofNat i>(0:Int))),true),((Int.ofNat b.toNat==(0:Int)),false),((Int.ofNat i==(9:Int)),false),(false,true)],
   [kT (Int.ofNat a+Int.ofNat i) (a+i),((0:Int)<=Int.ofNat (a+i)/\(a+i)<s.length),k8 s a i b,kT ((7:Int)*Int.ofNat i) (7*i),kZ i u b],
   .to (.exit 0) (eF [(0,.ptr (some (3,0))),(3,.int .u64 (uS u b i)),(16,.int .i64 (Int.ofNat m)),(17,.int .i64 (Int.ofNat i))] (hL [(3,.cells [.str s,.int .i64 (Int.ofNat a),.bool false])]) 4)),
  ([((decide (Int.ofNat i<Int.ofNat m)),true),((decide (Int.ofNat b.toNat>=(128:Int))),false),((decide (Int.ofNat i>(0:Int))),true),((Int.ofNat b.toNat==(0:Int)),false),((Int.ofNat i==(9:Int)),false),(false,false)],
   [kT (Int.ofNat a+Int.ofNat i) (a+i),((0:Int)<=Int.ofNat (a+i)/\(a+i)<s.length),k8 s a i b,kT ((7:Int)*Int.ofNat i) (7*i),kZ i u b,kT (Int.ofNat a+IntKind.i64.wrap (Int.ofNat i+(1:Int))) (a+(i+1))],
   .ret (.int .i64 (IntKind.i64.wrap (uS u b i))) (hL [(3,.cells [.str s,.int .i64 (Int.ofNat (a+(i+1))),.bool false])]) 4),
  ([((decide (Int.ofNat i<Int.ofNat m)),true),((decide (Int.ofNat b.toNat>=(128:Int))),false),((decide (Int.ofNat i>(0:Int))),false),(false,true),(true,true)],
   [kT (Int.ofNat a+Int.ofNat i) (a+i),((0:Int)<=Int.ofNat (a+i)/\(a+i)<s.length),k8 s a i b,kT ((7:Int)*Int.ofNat i) (7*i),kZ i u b],
   .to (.exit 0) (eF [(0,.ptr (some (3,0))),(3,.int .u64 (uS u b i)),(16,.int .i64 (Int.ofNat m)),(17,.int .i64 (Int.ofNat i))] (hL [(3,.cells [.str s,.int .i64 (Int.ofNat a),.bool false])]) 4)),
  ([((decide (Int.ofNat i<Int.ofNat m)),true),((decide (Int.ofNat b.toNat>=(128:Int))),false),((decide (Int.ofNat i>(0:Int))),false),(false,true),(true,false)],
   [kT (Int.ofNat a+Int.ofNat i) (a+i),((0:Int)<=Int.ofNat (a+i)/\(a+i)<s.length),k8 s a i b,kT ((7:Int)*Int.ofNat i) (7*i),kZ i u b,kT (Int.ofNat a+IntKind.i64.wrap (Int.ofNat i+(1:Int))) (a+(i+1))],
   .ret (.int .i64 (IntKind.i64.wrap (uS u b i))) (hL [(3,.cells [.str s,.int .i64 (Int.ofNat (a+(i+1))),.bool false])]) 4),
  ([((decide (Int.ofNat i<Int.ofNat m)),true),((decide (Int.ofNat b.toNat>=(128:Int))),false),((decide (Int.ofNat i>(0:Int))),false),(false,false),((Int.ofNat i==(9:Int)),true),((decide (Int.ofNat b.toNat>(1:Int))),true)],
   [kT (Int.ofNat a+Int.ofNat i) (a+i),((0:Int)<=Int.ofNat (a+i)/\(a+i)<s.length),k8 s a i b,kT ((7:Int)*Int.ofNat i) (7*i),kZ i u b],
   .to (.exit 0) (eF [(0,.ptr (some (3,0))),(3,.int .u64 (uS u b i)),(16,.int .i64 (Int.ofNat m)),(17,.int .i64 (Int.ofNat i))] (hL [(3,.cells [.str s,.int .i64 (Int.ofNat a),.bool false])]) 4)),
  ([((decide (Int.ofNat i<Int.ofNat m)),true),((decide (Int.ofNat b.toNat>=(128:Int))),false),((decide (Int.ofNat i>(0:Int))),false),(false,false),((Int.ofNat i==(9:Int)),true),((decide (Int.ofNat b.toNat>(1:Int))),false)],
   [kT (Int.ofNat a+Int.ofNat i) (a+i),((0:Int)<=Int.ofNat (a+i)/\(a+i)<s.length),k8 s a i b,kT ((7:Int)*Int.ofNat i) (7*i),kZ i u b,kT (Int.ofNat a+IntKind.i64.wrap (Int.ofNat i+(1:Int))) (a+(i+1))],
   .ret (.int .i64 (IntKind.i64.wrap (uS u b i))) (hL [(3,.cells [.str s,.int .i64 (Int.ofNat (a+(i+1))),.bool false])]) 4),
  ([((decide (Int.ofNat i<Int.ofNat m)),true),((decide (Int.ofNat b.toNat>=(128:Int))),false),((decide (Int.ofNat i>(0:Int))),false),(false,false),((Int.ofNat i==(9:Int)),false),(false,true)],
   [kT (Int.ofNat a+Int.ofNat i) (a+i),((0:Int)<=Int.ofNat (a+i)/\(a+i)<s.length),k8 s a i b,kT ((7:Int)*Int.ofNat i) (7*i),kZ i u b],
   .to (.exit 0) (eF [(0,.ptr (some (3,0))),(3,.int .u64 (uS u b i)),(16,.int .i64 (Int.ofNat m)),(17,.int .i64 (Int.ofNat i))] (hL [(3,.cells [.str s,.int .i64 (Int.ofNat a),.bool false])]) 4)),
  ([((decide (Int.ofNat i<Int.ofNat m)),true),((decide (Int.ofNat b.toNat>=(128:Int))),false),((decide (Int.ofNat i>(0:Int))),false),(false,false),((Int.ofNat i==(9:Int)),false),(false,false)],
   [kT (Int.ofNat a+Int.ofNat i) (a+i),((0:Int)<=Int.ofNat (a+i)/\(a+i)<s.length),k8 s a i b,kT ((7:Int)*Int.ofNat i) (7*i),kZ i u b,kT (Int.ofNat a+IntKind.i64.wrap (Int.ofNat i+(1:Int))) (a+(i+1))],
   .ret (.int .i64 (IntKind.i64.wrap (uS u b i))) (hL [(3,.cells [.str s,.int .i64 (Int.ofNat (a+(i+1))),.bool false])]) 4),
  ([((decide (Int.ofNat i<Int.ofNat m)),false)],
   [],
   .to (.exit 0) (eF [(0,.ptr (some (3,0))),(3,.int .u64 u),(16,.int .i64 (Int.ofNat m)),(17,.int .i64 (Int.ofNat i))] (hL [(3,.cells [.str s,.int .i64 (Int.ofNat a),.bool false])]) 4))]
 :=cQ.of U U U
theorem ae7(u:Int):c6 (kY []) [] 4 Tryz.f110 [] (ee U4) (Yk s a u m i) [([],
   [],
   .ret (.int .i64 0) (hL [(3,.cells [.str s,.int .i64 (Int.ofNat a),.bool true])]) 4)]
 :=cQ.of U U U
end
theorem U5:aax:=by
 refine⟨dU,fun j hj=>?_,au rfl⟩;rcases j with _|_|_|j
 . exact⟨(0,0),by simp[jR],rfl⟩
 . exact⟨(1,1),by simp[jR],rfl⟩
 . exact⟨(2,2),by simp[jR],rfl⟩
 . have:gN=3:=rfl;omega
def Ov(s:aa)(a:Nat):Nat->Nat->Int->Option (Int×Nat)
 |0,_,_=>none
 |k+1,i,u=>if 128<=(s.getD (a+i) 0).toNat then Ov s a k (i+1) (uS u (s.getD (a+i) 0) i)
  else if(0<i/\(s.getD (a+i) 0).toNat=0)\/(i=9/\1<(s.getD (a+i) 0).toNat)then none else some (IntKind.i64.wrap (uS u (s.getD (a+i) 0) i),i+1)
def wW(s:aa)(a:Nat):Nat:=min 10 (s.length-a)
section
variable(s:aa)(a:Nat)
def wX:Option (Int×Nat):=Ov s a (wW s a) 0 0
def Pg:Int×Nat×Bool:=match wX s a with
 |some (v,k)=>(v,a+k,false)
 |none=>(0,a,true)
theorem lH{n:Nat}(h:n<=9000000000000000000):IntKind.i64.wrap (n:Int)=(n:Int):=fH be be
theorem kU:∀n:Nat,Int.ofNat n=(n:Int):=fun _=>rfl
abbrev U6(v:V)(h:Tr O)(n:Nat):Prop:=v= .int .i64 (Pg s a).1/\h=hP (GR s (Pg s a).2.1 (Pg s a).2.2)/\n=4
theorem alx(ha:a<=s.length)(hs:s.length<=1000000000):TG ak 4 Tryz.f110.ntmps Ou (cS [Pf] (hP (GR s a false)) 4) (fG ak 4 Tryz.f110 (U6 s a)):=by
 refine iL  3 (XQ []) (ae4 s a) cR ?_;refine cV U ?_;refine cV U ?_;obtain⟨L2,Fc⟩:=ae5 s a (wW s a);have hm:wW s a<=10/\wW s a<=s.length-a:=⟨Nat.min_le_left _ _,Nat.min_le_right _ _⟩;have TZ:(if IntKind.i64.wrap ((Int.ofNat s.length)-Int.ofNat a)<(10:Int)then IntKind.i64.wrap ((Int.ofNat s.length)-Int.ofNat a)else(10:Int))=Int.ofNat (wW s a):=by
  have hw:IntKind.i64.wrap ((Int.ofNat s.length)-Int.ofNat a)=((s.length-a:Nat):Int):=by
   have:(Int.ofNat s.length)-Int.ofNat a=((s.length-a:Nat):Int):=by rw[kU,kU];omega
   rw[this];exact lH be
  rw[hw,kU];unfold wW;split<;>omega
 refine gh (XQ []) mo kS U Fc (dG ?_);refine⟨cr.2 ⟨by rw[TZ],cr.2 ⟨rfl,cR⟩⟩,fun s' dL=>?_⟩;have NN:∀u i,wX s a=none->TG ak 4 Tryz.f110.ntmps (ee U4) (Yk s a u (wW s a) i) (fG ak 4 Tryz.f110 (U6 s a)):=by
  intro u i hn;refine fB (XQ []) (ae7 s a (wW s a) i u) (dG ?_);refine⟨cR,_,_,_,rfl,?_⟩;unfold U6 Pg;rw[hn];exact⟨rfl,rfl,rfl⟩
 refine jC (α:=Nat×Int) 0 (fun x=>wW s a-x.1) (fun x=>x.1<=wW s a/\wX s a=Ov s a (wW s a-x.1) x.1 x.2) (fun x=>Yk s a x.2 (wW s a) x.1) U U (0,0) ⟨aZ _,rfl⟩ (.norm dL) ?_;rintro⟨i,u⟩ ⟨hi,hv⟩;simp only at hi hv ⊢;have aly:∀b:UInt8,b.toNat<256:=fun b=>b.toNat_lt;obtain⟨L3,wv⟩:=ae6 s a (wW s a) i u (s.getD (a+i) 0);refine gh (XQ []) mo (U6 s a) U wv fun g hg hc=>?_;have hA:∀k,i<wW s a->k<1000000000->(0:Int)<=Int.ofNat (a+i)/\(Int.ofNat (a+i)).toNat<s.length:=fun k h _=>by rw[kU];constructor<;>omega
 by_cases fF:i<wW s a
 case neg=>
  have hn:wX s a=none:=by rw[hv,show wW s a-i=0 by omega];rfl
  simp only[aE,aL,bu]at hg;have hf:decide (Int.ofNat i<Int.ofNat (wW s a))=false:=bD dh;rcases hg with rfl|rfl|rfl|rfl|rfl|rfl|rfl|rfl|rfl|rfl|rfl|rfl|rfl|rfl
  all_goals first
   |(have:=hc _ (aP ..);simp only[hf]at this;cases this;done)
   |skip
  exact⟨cR,fun s' dL=>by simp only[andThen,dX];exact c5 dL (NN u i hn)⟩
 case pos=>
 have e1:kT (Int.ofNat a+Int.ofNat i) (a+i):=fE dh be;have e2:=hA 0 fF dU;have e3:k8 s a i (s.getD (a+i) 0):=rfl;have e4:kT ((7:Int)*Int.ofNat i) (7*i):=fE dh be;have e5:kZ i u (s.getD (a+i) 0):=rfl;have e6:kT (Int.ofNat i+(1:Int)) (i+1):=fE dh be;have e7:kT (Int.ofNat a+IntKind.i64.wrap (Int.ofNat i+(1:Int))) (a+(i+1)):=by
  have:IntKind.i64.wrap (Int.ofNat i+(1:Int))=((i+1:Nat):Int):=by
   have:Int.ofNat i+1=((i+1:Nat):Int):=by rw[kU];omega
   rw[this];exact lH be
  exact fE (by rw[this,kU];omega) be
 have IN:wX s a=if 128<=(s.getD (a+i) 0).toNat then Ov s a (wW s a-(i+1)) (i+1) (uS u (s.getD (a+i) 0) i)
  else if(0<i/\(s.getD (a+i) 0).toNat=0)\/(i=9/\1<(s.getD (a+i) 0).toNat)then none else some (IntKind.i64.wrap (uS u (s.getD (a+i) 0) i),i+1):=by
  rw[hv,show wW s a-i=(wW s a-(i+1))+1 by omega];rfl
 generalize s.getD (a+i) 0=b at *;have ug:128<=b.toNat->∀s',e9 4 [0,3,16,17] s'=some (Yk s a (uS u b i) (wW s a) (i+1))->∃x':Nat×Int,wW s a-x'.1<wW s a-i/\(x'.1<=wW s a/\wX s a=Ov s a (wW s a-x'.1) x'.1 x'.2)/\gC ak 4 Tryz.f110.ntmps s' (Yk s a x'.2 (wW s a) x'.1):=fun h s' dL=>
  ⟨(i+1,uS u b i),by simp only;omega,⟨by simp only;omega,by rw[IN,aG h]⟩,.norm dL⟩
 have Rw:¬128<=b.toNat->((0<i/\b.toNat=0)\/(i=9/\1<b.toNat))->∀s',e9 4 [0,3,16,17] s'=some (Yk s a (uS u b i) (wW s a) i)->TG ak 4 Tryz.f110.ntmps (ee U4) s' (fG ak 4 Tryz.f110 (U6 s a)):=fun h1 h2 s' dL=>
  c5 dL (NN _ _ (by rw[IN,aI h1,aG h2]))
 have Lb:¬128<=b.toNat->¬((0<i/\b.toNat=0)\/(i=9/\1<b.toNat))->U6 s a (.int .i64 (IntKind.i64.wrap (uS u b i))) (hL [(3,.cells [.str s,.int .i64 (Int.ofNat (a+(i+1))),.bool false])]) 4:=fun h1 h2=>by
  unfold U6 Pg;rw[IN,aI h1,aI h2];exact⟨rfl,rfl,rfl⟩
 have q1:(decide (Int.ofNat b.toNat>=(128:Int)))=decide (128<=b.toNat):=by rw[kU];exact decide_eq_decide.2 be
 have q2:(decide (Int.ofNat i>(0:Int)))=decide (0<i):=by rw[kU];exact decide_eq_decide.2 be
 have q3:(Int.ofNat b.toNat==(0:Int))=decide (b.toNat=0):=by
  rw[kU];by_cases h:b.toNat=0
  . simp[h]
  . rw[bD h];simpa using h
 have q4:(Int.ofNat i==(9:Int))=decide (i=9):=by
  rw[kU];by_cases h:i=9
  . simp[h]
  . rw[bD h];exact beq_false_of_ne be
 have q5:(decide (Int.ofNat b.toNat>(1:Int)))=decide (1<b.toNat):=by rw[kU];exact decide_eq_decide.2 be
 simp only[aE,aL,bu]at hg;rw[q1,q2,q3,q4,q5]at hg;have A5:=fm e1 (fm e2 (fm e3 (fm e4 (eU e5))));have A6:=fm e1 (fm e2 (fm e3 (fm e4 (fm e5 (eU e6)))));have A7:=fm e1 (fm e2 (fm e3 (fm e4 (fm e5 (eU e7)))));have Rw:¬128<=b.toNat->((0<i/\b.toNat=0)\/(i=9/\1<b.toNat))->∀(Q1:St->Prop) (s':St),e9 4 [0,3,16,17] s'=some (Yk s a (uS u b i) (wW s a) i)->andThen Q1 (mQ 0 (andThen (fun s'=>TG ak 4 Tryz.f110.ntmps (ee (de 3 Ou)) s' (fG ak 4 Tryz.f110 (U6 s a))) (fG ak 4 Tryz.f110 (U6 s a)))) (.exit 0) s':=fun h1 h2 Q1 s' dL=>by
  simp only[andThen,dX];exact Rw h1 h2 s' dL
 rcases hg with rfl|rfl|rfl|rfl|rfl|rfl|rfl|rfl|rfl|rfl|rfl|rfl|rfl|rfl
 all_goals
  simp only[aE,aL,bu,forall_eq_or_imp,forall_eq,bC,decide_eq_false_iff_not,reduceCtorEq,and_false,and_true]at hc
 all_goals first|exact hc.elim|skip
 . exact⟨A6,fun s' dL=>ug hc.2 s' dL⟩
 . exact⟨A5,fun s' dL=>Rw hc.2.1 be _ s' dL⟩
 . exact⟨A5,fun s' dL=>Rw hc.2.1 be _ s' dL⟩
 all_goals first
  |exact⟨A7,Lb hc.2.1 be,fun s' dL=>dL⟩
  |exact⟨A5,fun s' dL=>Rw hc.2.1 be _ s' dL⟩
  |exact absurd fF (by rw[kU,kU]at hc;omega)
end
section
variable(s:aa)(a:Nat)(n:Int)
def iA(f:Bool):Int×Nat×Bool:=if f then(0,a,true)else Pg s a
theorem aaz(h:a<=s.length):(Pg s a).2.1<=s.length/\a<=(Pg s a).2.1:=by
 have key:∀k i u v n,i+k<=s.length-a->Ov s a k i u=some (v,n)->n<=s.length-a:=by
  intro k
  induction k with
  |zero=>intro i u v n _ e;cases e
  |succ k ih=>
   intro i u v n hi e;unfold Ov at e;split at e
   . exact ih _ _ _ _ be e
   . split at e
     . cases e
     . simp only[an,aB]at e;omega
 unfold Pg;have hm:wW s a<=s.length-a:=Nat.min_le_right _ _;cases e:wX s a with
 |none=>exact⟨h,aA _⟩
 |some p=>
  have:=key _ _ _ _ _ be e;exact⟨by simp only;omega,by simp only;omega⟩
def spV:ag->ag->Option (ah×V×ag)
 | [.str s,.int .i64 x,.bool f],[]=>some ([0<=x/\x.toNat<=s.length,s.length<=1000000000],.int .i64 (iA s x.toNat f).1,GR s (iA s x.toNat f).2.1 (iA s x.toNat f).2.2)
 |_,_=>none
theorem aaA:jL ak 110 (Ep spV):=by
 refine BN mo po U5 (au U) Tryz.func110 (code:=Ou) U fun cs args A v vc e hA=>⟨?_,?_⟩
 all_goals
  unfold spV at e;split at e
  case h_2=>cases e
  rename_i s x f;simp only[an,aB]at e;obtain⟨rfl,rfl,rfl⟩:=e
 . kernel_rfl
 obtain⟨a1,a2⟩:=hA _ (aP ..);have a3:s.length<=1000000000:=hA (s.length<=1000000000) (by simp);obtain⟨a,rfl⟩:∃a:Nat,x=Int.ofNat a:=⟨x.toNat,(Int.toNat_of_nonneg a1).symm⟩;have a2:a<=s.length:=a2;cases f with
 |false=>exact alx s a a2 a3
 |true=>
  refine fB (XQ []) (ae3 s (Int.ofNat a)) (dG ?_);exact⟨cR,_,_,_,rfl,rfl,rfl,rfl⟩
noncomputable abbrev W17:jQ:=kB 110 (Ep spV) W14
theorem Rx:gd ak W17:=fk aaA K3
noncomputable abbrev alB:fb:=gI ak W17 H0 1000 40
noncomputable abbrev X17:CX ak:=CX.of mo po Rx H0 1000 40
noncomputable abbrev aaB:Code:=dP Tryz.f111
theorem alC:c6 alB [] 4 Tryz.f111 [] (aaB) (cS [Pf,.int .i64 n] (hP (GR s a true)) 4) [([],
   [],
   .ret (.str []) (hL [(3,.cells [.str s,.int .i64 (Int.ofNat a),.bool true])]) 4)]
 :=cQ.of U U U
abbrev Ry:Prop:=(0:Int)<=Int.ofNat (a+n.toNat)/\Int.ofNat (a+n.toNat)<=(Int.ofNat s.length)
theorem alD(l:Nat)(n:Int):c6 (kY [(105,[(14,.dc (.int .i64 (Int.ofNat l)))])]) [(17,.split),(22,.split),(33,.dc (.int .i64 (Int.ofNat (a+n.toNat)))),(45,.dc (.int .i64 (Int.ofNat a)))] 4 Tryz.f111 [] (aaB) (cS [Pf,.int .i64 n] (hP (GR s a false)) 4) [([((decide (n<(0:Int))),true),(true,true)],
   [],
   .ret (.str []) (hL [(3,.cells [.str s,.int .i64 (Int.ofNat a),.bool true])]) 4),
  ([((decide (n<(0:Int))),true),(true,false)],
   [kT (Int.ofNat a+n) (a+n.toNat),kT (Int.ofNat (a+n.toNat)-n) a,Ry s a n,((0:Int)<=Int.ofNat a/\Int.ofNat a<=(Int.ofNat (a+n.toNat)))],
   .ret (.str (List.drop a (List.take (a+n.toNat) s))) (hL [(3,.cells [.str s,.int .i64 (Int.ofNat (a+n.toNat)),.bool false])]) 4),
  ([((decide (n<(0:Int))),false),((decide (n>Int.ofNat l)),true)],
   [kT ((Int.ofNat s.length)-Int.ofNat a) l],
   .ret (.str []) (hL [(3,.cells [.str s,.int .i64 (Int.ofNat a),.bool true])]) 4),
  ([((decide (n<(0:Int))),false),((decide (n>Int.ofNat l)),false)],
   [kT ((Int.ofNat s.length)-Int.ofNat a) l,kT (Int.ofNat a+n) (a+n.toNat),kT (Int.ofNat (a+n.toNat)-n) a,Ry s a n,((0:Int)<=Int.ofNat a/\Int.ofNat a<=(Int.ofNat (a+n.toNat)))],
   .ret (.str (List.drop a (List.take (a+n.toNat) s))) (hL [(3,.cells [.str s,.int .i64 (Int.ofNat (a+n.toNat)),.bool false])]) 4)]
 :=cQ.of U U U
end
section
variable(s:aa)(a k:Nat)(f:Bool)(n:Int)(b:UInt8)(t:aa)(i:Nat)
def qO:aa×Nat×Bool:=if f=true\/n<0\/((s.length-a:Nat):Int)<n then([],a,true)else((s.drop a).take n.toNat,a+n.toNat,false)
theorem aaC(h:a<=s.length):(qO s a f n).2.1<=s.length:=by
 unfold qO;split
 . exact h
 . rename_i hn;simp only;omega
def spT:ag->ag->Option (ah×V×ag)
 | [.str s,.int .i64 x,.bool f],[.int .i64 n]=>some ([0<=x/\x.toNat<=s.length,s.length<=1000000000],.str (qO s x.toNat f n).1,GR s (qO s x.toNat f n).2.1 (qO s x.toNat f n).2.2)
 |_,_=>none
theorem aaD:jL ak 111 (Ep spT):=by
 refine BN mo po U5 (au U) Tryz.func111 (code:=aaB) U fun cs args A v vc e hA=>⟨?_,?_⟩
 all_goals
  unfold spT at e;split at e
  case h_2=>cases e
  rename_i s x f n;simp only[an,aB]at e;obtain⟨rfl,rfl,rfl⟩:=e
 . kernel_rfl
 obtain⟨a1,a2⟩:=hA _ (aP ..);have a3:s.length<=1000000000:=hA (s.length<=1000000000) (by simp);obtain⟨a,rfl⟩:∃a:Nat,x=Int.ofNat a:=⟨x.toNat,(Int.toNat_of_nonneg a1).symm⟩;have a2:a<=s.length:=a2;rw[show(Int.ofNat a).toNat=a from rfl];cases f with
 |true=>
  refine fB X17 (alC s a n) (dG ?_);exact⟨cR,_,_,_,rfl,rfl,rfl,rfl⟩
 |false=>
  obtain⟨L,hr⟩:=alD s a (s.length-a) n;have hl:kT ((Int.ofNat s.length)-Int.ofNat a) (s.length-a):=fE dh be;refine gY (XQ [(105,[(14,.dc (.int .i64 (Int.ofNat (s.length-a))))])]) mo _ U hr fun g hg hc=>?_;simp only[aE,aL,bu]at hg;rcases hg with rfl|rfl|rfl|rfl
  all_goals
   simp only[aE,aL,bu,forall_eq_or_imp,forall_eq,bC,decide_eq_false_iff_not,reduceCtorEq,and_false,and_true,kU]at hc
  . refine⟨cR,_,_,_,rfl,?_⟩;unfold qO;rw[aG (.inr (.inl hc))];exact⟨rfl,rfl,rfl⟩
  . refine⟨eU hl,_,_,_,rfl,?_⟩;unfold qO;rw[aG (.inr (.inr be))];exact⟨rfl,rfl,rfl⟩
  . obtain⟨h1,h2⟩:=hc;have hn:((n.toNat:Nat):Int)=n:=Int.toNat_of_nonneg be;refine⟨fm hl (fm (fE dh be) (fm (fE dh be) (fm ⟨az _,dh⟩ (eU ⟨az _,dh⟩)))),_,_,_,rfl,?_⟩;unfold qO;rw[aI (by simp only[aO,false_or];omega)];rw[List.drop_take,Nat.add_sub_cancel_left];exact⟨rfl,rfl,rfl⟩
noncomputable abbrev W18:jQ:=kB 111 (Ep spT) W17
theorem Lc:gd ak W18:=fk aaD Rx
noncomputable abbrev U7:fb:=gI ak W18 H0 1000 40
noncomputable abbrev X18:CX ak:=CX.of mo po Lc H0 1000 40
noncomputable abbrev ae9:Code:=dP Tryz.f106
noncomputable abbrev U8:Code:=dP Tryz.f107
noncomputable abbrev afa:Code:=de 2 U8
noncomputable abbrev afb:Code:=dK afa
def sRN:St:=eF [(0,Pf),(5,.int .i64 n),(12,.dj (some (4,0)) t.length t.length 1),(13,.int .i64 (Int.ofNat t.length)),(14,.int .i64 (Int.ofNat i))] (hL [(3,.cells (GR s a f)),(4,.own .u8 (dV t))]) 5
noncomputable abbrev afc:fb:=gI ak W18 (sk [(85,[(5,.dc (.int .i64 (Int.ofNat k)))])]) 1000 40
noncomputable abbrev alF:CX ak:=CX.of mo po Lc (sk [(85,[(5,.dc (.int .i64 (Int.ofNat k)))])]) 1000 40
def ze:Int:=IntKind.i64.wrap (Int.ofNat (BitVec.ofInt 64 (IntKind.i64.wrap (n*(256:Int)))|||BitVec.ofInt 64 (IntKind.i64.wrap (Int.ofNat b.toNat))).toNat)
abbrev Rz:Prop:=(0:Int)<=Int.ofNat (iA s a f).2.1/\(Int.ofNat (iA s a f).2.1).toNat<=s.length
theorem alG:c6 U7 [(21,.split)] 4 Tryz.f106 [] (ae9) (cS [Pf] (hP (GR s a f)) 4) [([(((qO s (Int.ofNat (iA s a f).2.1).toNat (iA s a f).2.2 (iA s a f).1).2.2),true)],
   [((0:Int)<=Int.ofNat a/\a<=s.length),(s.length<=1000000000),Rz s a f,(s.length<=1000000000)],
   .ret (.str ((qO s (Int.ofNat (iA s a f).2.1).toNat (iA s a f).2.2 (iA s a f).1).1)) (hL [(3,.cells [.str s,.int .i64 (Int.ofNat a),.bool ((qO s (Int.ofNat (iA s a f).2.1).toNat (iA s a f).2.2 (iA s a f).1).2.2)])]) 4),
  ([(((qO s (Int.ofNat (iA s a f).2.1).toNat (iA s a f).2.2 (iA s a f).1).2.2),false)],
   [((0:Int)<=Int.ofNat a/\a<=s.length),(s.length<=1000000000),Rz s a f,(s.length<=1000000000)],
   .ret (.str ((qO s (Int.ofNat (iA s a f).2.1).toNat (iA s a f).2.2 (iA s a f).1).1)) (hL [(3,.cells [.str s,.int .i64 (Int.ofNat (qO s (Int.ofNat (iA s a f).2.1).toNat (iA s a f).2.2 (iA s a f).1).2.1),.bool ((qO s (Int.ofNat (iA s a f).2.1).toNat (iA s a f).2.2 (iA s a f).1).2.2)])]) 4)]
 :=cQ.of U U U
theorem alH(k:Nat):c6 U7 [] 4 Tryz.f107 [0,1,5] (eR 2 U8) (cS [Pf,.int .i64 (Int.ofNat k)] (hP (GR s a f)) 4) [([],
   [],
   .to .normal (eF [(0,.ptr (some (3,0))),(1,.int .i64 (Int.ofNat k)),(5,.int .i64 0)] (hL [(3,.cells [.str s,.int .i64 (Int.ofNat a),.bool f])]) 4))]
 :=cQ.of U U U
theorem alI(k:Nat):c6 (afc k) [(14,.dc (.int .i64 (Int.ofNat 0)))] 4 Tryz.f107 [0,5,12,13,14] (dK afb) (eF [(0,Pf),(1,.int .i64 (Int.ofNat k)),(5,.int .i64 0)] (hP (GR s a f)) 4) [([],
   [(V.int aj (if(if(8:Int)<Int.ofNat k then(8:Int)else Int.ofNat k)>(0:Int)then if(8:Int)<Int.ofNat k then(8:Int)else Int.ofNat k else(0:Int))=V.int aj (Int.ofNat k)),((0:Int)<=Int.ofNat a/\a<=s.length),(s.length<=1000000000),(V.int aj (0:Int)=V.int aj (0:Int))],
   .to .normal (eF [(0,.ptr (some (3,0))),(5,.int .i64 0),(12,.dj (some (4,0)) ((qO s a f (Int.ofNat k)).1.length) ((qO s a f (Int.ofNat k)).1.length) 1),(13,.int .i64 ((Int.ofNat (qO s a f (Int.ofNat k)).1.length))),(14,.int .i64 0)] (hL [(3,.cells [.str s,.int .i64 (Int.ofNat (qO s a f (Int.ofNat k)).2.1),.bool ((qO s a f (Int.ofNat k)).2.2)]),(4,.own .u8 (dV (qO s a f (Int.ofNat k)).1))]) 5))]
 :=cQ.of U U U
theorem afd(b:UInt8):c6 U7 [(15,.split),(17,.dc (.int .u8 (Int.ofNat b.toNat))),(22,.dc (.int .i64 (ze n b))),(23,.dc (.int .i64 (Int.ofNat (i+1))))] 4 Tryz.f107 [0,5,12,13,14] (dw (dw (ee afb))) (sRN s a f n t i) [([((decide (Int.ofNat i<Int.ofNat t.length)),true)],
   [((0:Int)<=Int.ofNat i/\Int.ofNat i<(Int.ofNat t.length)),(0+i*1<(dV t).length),(V.int IntKind.u8 ((dV t).getD (0+i*1) (0:Int))=V.int IntKind.u8 (Int.ofNat b.toNat)),(V.int aj (IntKind.i64.wrap (Int.ofNat (BitVec.ofInt 64 (IntKind.i64.wrap (n*(256:Int)))|||BitVec.ofInt 64 (IntKind.i64.wrap (Int.ofNat b.toNat))).toNat))=V.int aj (ze n b)),kT (Int.ofNat i+(1:Int)) (i+1)],
   .to .normal (eF [(0,.ptr (some (3,0))),(5,.int .i64 (ze n b)),(12,.dj (some (4,0)) (t.length) (t.length) 1),(13,.int .i64 (Int.ofNat t.length)),(14,.int .i64 (Int.ofNat (i+1)))] (hL [(3,.cells [.str s,.int .i64 (Int.ofNat a),.bool f]),(4,.own .u8 (dV t))]) 5)),
  ([((decide (Int.ofNat i<Int.ofNat t.length)),false)],
   [],
   .to (.exit 0) (eF [(0,.ptr (some (3,0))),(5,.int .i64 n),(12,.dj (some (4,0)) (t.length) (t.length) 1),(13,.int .i64 (Int.ofNat t.length)),(14,.int .i64 (Int.ofNat i))] (hL [(3,.cells [.str s,.int .i64 (Int.ofNat a),.bool f]),(4,.own .u8 (dV t))]) 5))]
 :=cQ.of U U U
theorem alJ:c6 U7 [] 4 Tryz.f107 [] (ee afa) (sRN s a f n t i) [([],
   [],
   .ret (.int .i64 n) (hL [(3,.cells [.str s,.int .i64 (Int.ofNat a),.bool f])]) 4)]
 :=cQ.of U U U
end
section
variable(s:aa)(a:Nat)(f:Bool)(k:Nat)
theorem ME(h:a<=s.length):(iA s a f).2.1<=s.length:=by
 unfold iA;split
 . exact h
 . exact(aaz s a h).1
def hU:aa×Nat×Bool:=
 ((qO s (iA s a f).2.1 (iA s a f).2.2 (iA s a f).1).1,if(qO s (iA s a f).2.1 (iA s a f).2.2 (iA s a f).1).2.2 then a else(qO s (iA s a f).2.1 (iA s a f).2.2 (iA s a f).1).2.1,(qO s (iA s a f).2.1 (iA s a f).2.2 (iA s a f).1).2.2)
theorem U9(h:a<=s.length):(hU s a f).2.1<=s.length:=by
 unfold hU;simp only;split
 . exact h
 . exact aaC _ _ _ _ (ME s a f h)
def spX:ag->ag->Option (ah×V×ag)
 | [.str s,.int .i64 x,.bool f],[]=>some ([0<=x/\x.toNat<=s.length,s.length<=1000000000],.str (hU s x.toNat f).1,GR s (hU s x.toNat f).2.1 (hU s x.toNat f).2.2)
 |_,_=>none
theorem aaE:jL ak 106 (Ep spX):=by
 refine BN mo po U5 (au U) Tryz.func106 (code:=ae9) U fun cs args A v vc e hA=>⟨?_,?_⟩
 all_goals
  unfold spX at e;split at e
  case h_2=>cases e
  rename_i s x f;simp only[an,aB]at e;obtain⟨rfl,rfl,rfl⟩:=e
 . kernel_rfl
 obtain⟨a1,a2⟩:=hA _ (aP ..);have a3:s.length<=1000000000:=hA (s.length<=1000000000) (by simp);obtain⟨a,rfl⟩:∃a:Nat,x=Int.ofNat a:=⟨x.toNat,(Int.toNat_of_nonneg a1).symm⟩;have a2:a<=s.length:=a2;rw[show(Int.ofNat a).toNat=a from rfl];obtain⟨L,hr⟩:=alG s a f;have h1:=ME s a f a2;refine gY X18 mo _ U hr fun g hg hc=>?_;simp only[aE,aL,bu]at hg;have A:∀p∈[((0:Int)<=Int.ofNat a/\a<=s.length),(s.length<=1000000000),((0:Int)<=Int.ofNat (iA s a f).2.1/\(Int.ofNat (iA s a f).2.1).toNat<=s.length),(s.length<=1000000000)],p:=
  fm ⟨az _,a2⟩ (fm a3 (fm ⟨az _,h1⟩ (eU a3)))
 rcases hg with rfl|rfl
 all_goals
  have q:=hc _ (aq.2 rfl);refine⟨A,_,_,_,rfl,rfl,?_,rfl⟩;have q:(hU s a f).2.2=_:=q;have q':(hU s a f).2.1=if(hU s a f).2.2 then a else(qO s (iA s a f).2.1 (iA s a f).2.2 (iA s a f).1).2.1:=rfl
  rw[q]at q';rw[q'];rfl
def ya:Int×Nat×Bool:=((qO s a f (Int.ofNat k)).1.foldl ze 0,(qO s a f (Int.ofNat k)).2.1,(qO s a f (Int.ofNat k)).2.2)
theorem Ld{t:aa}{i:Nat}{b:UInt8}(h:t[i]? =some b):(dV t).getD (0+i*1) 0=Int.ofNat b.toNat:=by
 unfold dV;rw[aN,bI,bk,bt,h];rfl
theorem alL(f:Bool)(ha:a<=s.length)(hs:s.length<=1000000000)(hk:k<=8):TG ak 4 Tryz.f107.ntmps U8 (cS [Pf,.int .i64 (Int.ofNat k)] (hP (GR s a f)) 4)
  (fG ak 4 Tryz.f107 fun v h n=>v= .int .i64 (ya s a f k).1/\h=hP (GR s (ya s a f k).2.1 (ya s a f k).2.2)/\n=4):=by
 refine iL  2 X18 (alH s a f k) cR ?_;refine cV U ?_;refine cV U ?_;refine fZ (alF k) (alI s a f k) (dG ?_);refine⟨fm (aM (V.int aj) ?_) (fm ⟨az _,ha⟩ (fm hs (eU rfl))),fun s' dL=>?_⟩
 . simp only[kU];split<;>split<;>omega
 have iS:(qO s a f (Int.ofNat k)).1.length<=8:=by
  unfold qO;split
  . simp
  . simp only[bg,kU,Int.toNat_natCast];omega
 unfold ya;generalize hT:qO s a f (Int.ofNat k)=T at dL iS ⊢;obtain⟨t,a1,f1⟩:=T;have dL:e9 4 [0,5,12,13,14] s'=some (sRN s a1 f1 ((t.take 0).foldl ze 0) t 0):=dL;simp only at iS ⊢;refine jq 0 t.length (fun i=>sRN s a1 f1 ((t.take i).foldl ze 0) t i) U U (.norm dL) (fun i hi=>?_) ?_
 . obtain⟨b,hb⟩:∃b,t[i]? =some b:=⟨_,ay hi⟩;refine fZ X18 (afd s a1 f1 ((t.take i).foldl ze 0) t i b) fun g hg hc=>?_;simp only[aE,aL,bu]at hg;rcases hg with rfl|rfl
   . refine⟨fm ⟨az _,dh⟩ (fm (by simp only[dV,aY];omega) (fm (aM _ (Ld hb)) (fm rfl (eU (fE dh be))))),fun s' dL=>.norm (live:=[0,5,12,13,14]) ?_⟩;show _=some (sRN s a1 f1 ((t.take (i+1)).foldl ze 0) t (i+1));rw[bJ,hb,cD,List.foldl_append];exact dL
   . exact absurd (aK (hc _ (aq.2 rfl))) dh
 . refine fZ X18 (afd s a1 f1 ((t.take t.length).foldl ze 0) t t.length 0) fun g hg hc=>?_;simp only[aE,aL,bu]at hg;rcases hg with rfl|rfl
   . exact absurd (aH (hc _ (aq.2 rfl))) be
   . refine⟨cR,fun s' dL=>⟨by simp,?_⟩⟩;rw[dX];simp only[andThen];have dL:e9 4 [0,5,12,13,14] s'=some (sRN s a1 f1 ((t.take t.length).foldl ze 0) t t.length):=dL;refine c5 dL ?_;refine fB X18 (alJ s a1 f1 ((t.take t.length).foldl ze 0) t t.length) (dG ?_);exact⟨cR,_,_,_,rfl,by rw[aW],rfl,rfl⟩
end
def spN:ag->ag->Option (ah×V×ag)
 | [.str s,.int .i64 x,.bool f],[.int .i64 k]=>some ([0<=x/\x.toNat<=s.length,s.length<=1000000000,0<=k/\k.toNat<=8],.int .i64 (ya s x.toNat f k.toNat).1,GR s (ya s x.toNat f k.toNat).2.1 (ya s x.toNat f k.toNat).2.2)
 |_,_=>none
theorem aaF:jL ak 107 (Ep spN):=by
 refine BN mo po U5 (au U) Tryz.func107 (code:=U8) U fun cs args A v vc e hA=>⟨?_,?_⟩
 all_goals
  unfold spN at e;split at e
  case h_2=>cases e
  rename_i s x f k;simp only[an,aB]at e;obtain⟨rfl,rfl,rfl⟩:=e
 . kernel_rfl
 obtain⟨a1,a2⟩:=hA _ (aP ..);have a3:s.length<=1000000000:=hA (s.length<=1000000000) (by simp);obtain⟨a4,a5⟩:0<=k/\k.toNat<=8:=hA (0<=k/\k.toNat<=8) (by simp);obtain⟨a,rfl⟩:∃a:Nat,x=Int.ofNat a:=⟨x.toNat,(Int.toNat_of_nonneg a1).symm⟩;obtain⟨k,rfl⟩:∃a:Nat,k=Int.ofNat a:=⟨k.toNat,(Int.toNat_of_nonneg a4).symm⟩;exact alL s a k f a2 a3 a5
noncomputable abbrev W19:jQ:=kB 106 (Ep spX) (kB 107 (Ep spN) W18)
theorem GS:gd ak W19:=fk aaE (fk aaF Lc)
noncomputable abbrev lX:fb:=gI ak W19 H0 1000 40
noncomputable abbrev uq:CX ak:=CX.of mo po GS H0 1000 40
theorem aff:∀x:Nat,x<256->x|||128=x%128+128:=by decide
section
variable(u n:Nat){s:aa}{q:Nat}{b:UInt8}{r:aa}
theorem u8w:IntKind.u8.wrap (n:Int)=((n%256:Nat):Int):=by
 simp only[IntKind.wrap,IntKind.bits,IntKind.signed];simp
theorem Va:IntKind.u64.wrap (n:Int)=((n%18446744073709551616:Nat):Int):=by
 simp only[IntKind.wrap,IntKind.bits,IntKind.signed];simp
theorem MF:TK (u:Int)=((u%128+128:Nat):Int):=by
 unfold TK;rw[u8w];have h1:(BitVec.ofInt 8 ((u%256:Nat):Int)|||BitVec.ofInt 8 (128:Int)).toNat=u%128+128:=by
  rw[BitVec.toNat_or];have e1:(BitVec.ofInt 8 ((u%256:Nat):Int)).toNat=u%256:=by
   rw[BitVec.ofInt_natCast,BitVec.toNat_ofNat];omega
  have e2:(BitVec.ofInt 8 (128:Int)).toNat=128:=rfl;rw[e1,e2,aff _ be];omega
 rw[h1,kU,u8w];congr 1;omega
theorem MG(h:u<128):ZU (u:Int)=(u:Int):=by
 unfold ZU;rw[u8w];congr 1;omega
theorem Di:(u:Int).fdiv 128=((u/128:Nat):Int):=by
 rw[cK _ dU];rfl
theorem RA{n:Nat}(h:n<256):(UInt8.ofNat n).toNat=n:=by
 rw[UInt8.toNat_ofNat'];omega
theorem RB(gr:Nat)(b:UInt8)(i:Nat)(ha:gr<2^(7*i))(hi:i<=7):uS (gr:Int) b i=((gr+b.toNat%128*2^(7*i):Nat):Int):=by
 have hb:b.toNat<256:=b.toNat_lt;unfold uS;have e1:(BitVec.ofInt 8 (Int.ofNat b.toNat)&&&BitVec.ofInt 8 (127:Int)).toNat=b.toNat%128:=by
  rw[BitVec.toNat_and];have e2:(BitVec.ofInt 8 (127:Int)).toNat=2^7-1:=rfl;have e3:(BitVec.ofInt 8 (Int.ofNat b.toNat)).toNat=b.toNat:=by
   rw[kU,BitVec.ofInt_natCast,BitVec.toNat_ofNat];omega
  rw[e2,e3,Nat.and_two_pow_sub_one_eq_mod]
 have hp:2^(7*i)<=2^49:=Nat.pow_le_pow_right dU be;have asX:b.toNat%128*2^(7*i)<128*2^49:=by
  have:b.toNat%128<128:=by omega
  calc b.toNat%128*2^(7*i)<=127*2^(7*i):=cq _ be
   _<=127*2^49:=Nat.mul_le_mul_left _ hp
   _<128*2^49:=by decide
 rw[e1];simp only[kU];rw[u8w,Va (b.toNat%128%256),Int.toNat_natCast,show min (7*i) 64=7*i by omega];have e4:(((b.toNat%128%256%18446744073709551616:Nat):Int)*(2:Int)^(7*i))=((b.toNat%128*2^(7*i):Nat):Int):=by
  rw[show b.toNat%128%256%18446744073709551616=b.toNat%128 by omega];simp[Int.natCast_mul,Int.natCast_pow]
 rw[e4,Va (b.toNat%128*2^(7*i)),BitVec.toNat_or,BitVec.ofInt_natCast,BitVec.ofInt_natCast,BitVec.toNat_ofNat,BitVec.toNat_ofNat];have h64:(2:Nat)^64=18446744073709551616:=by decide
 have h49:(128:Nat)*2^49<18446744073709551616:=by decide
 have asY:(2:Nat)^49<18446744073709551616:=by decide
 rw[h64,Nat.mod_mod,Nat.mod_eq_of_lt (a:=gr) be,Nat.mod_eq_of_lt (a:=b.toNat%128*2^(7*i)) be];have h5:gr|||b.toNat%128*2^(7*i)=gr+b.toNat%128*2^(7*i):=by
  rw[Nat.or_comm,Nat.mul_comm,<- Nat.two_pow_add_eq_or_of_lt ha,Nat.add_comm]
 rw[h5,Va];have:gr+b.toNat%128*2^(7*i)<18446744073709551616:=by
  have h6:gr<2^49:=by omega
  have h7:(128:Nat)*2^49+2^49<18446744073709551616:=by decide
  omega
 rw[Nat.mod_eq_of_lt this]
theorem zf(h:s.drop q=b::r):s.getD q 0=b:=by
 have:(s.drop q)[0]? =some b:=by rw[h];rfl
 rw[bH,Nat.add_zero]at this;rw[aN,this];rfl
theorem Ow(h:s.drop q=b::r):s.drop (q+1)=r:=by
 rw[<- List.drop_drop,h];rfl
theorem u8I{n:Nat}(h:n<256):(UInt8.ofNat (n:Int).toNat).toNat=n:=by rw[Int.toNat_natCast,RA h]
end
theorem IZ:∀(k m i gr u:Nat) (s:aa) (a:Nat) (r:aa),u<128^(k+1)->i+k<=7->gr<2^(7*i)->(0<i->0<u)->s.drop (a+i)=eN (oq k (u:Int))++r->(oq k (u:Int)).length<=m->
  Ov s a m i (gr:Int)=some (((gr+u*2^(7*i):Nat):Int),i+(oq k (u:Int)).length)
 |k,0,_,_,u,_,_,_,_,_,_,_,_,hm=>by have:=(C7 k (u:Int)).1;omega
 |k,m+1,i,gr,u,s,a,r,hu,hi,ha,h0,hs,hm=>by
  have last:u<128->s.drop (a+i)=UInt8.ofNat (u:Int).toNat::r->Ov s a (m+1) i (gr:Int)=some (((gr+u*2^(7*i):Nat):Int),i+1):=by
   intro fF hd;unfold Ov;rw[zf hd,u8I be,aI be,aI be,RB _ _ _ ha be,u8I be,show u%128=u by omega];have hp:2^(7*i)<=2^49:=Nat.pow_le_pow_right dU be;have hm2:u*2^(7*i)<=127*2^49:=bV (cq _ be) (Nat.mul_le_mul_left _ hp);have h9:(127:Nat)*2^49+2^49<=9000000000000000000:=by decide
   rw[lH be]
  cases k with
  |zero=>
   simp only[oq]at hs ⊢;rw[MG u be]at hs;exact last be hs
  |succ k=>
   unfold oq at hs hm ⊢;by_cases h128:(128:Int)<=(u:Int)
   . rw[aG h128]at hs hm ⊢;rw[MF,Di]at hs;rw[Di]at hm ⊢;have hs:s.drop (a+i)=UInt8.ofNat ((u%128+128:Nat):Int).toNat::(eN (oq k ((u/128:Nat):Int))++r):=hs;have hb:=u8I (n:=u%128+128) be;unfold Ov;rw[zf hs,hb,aG be,RB _ _ _ ha be,hb];have e1:(u%128+128)%128=u%128:=by omega
     rw[e1];have afi:(2:Nat)^(7*(i+1))=128*2^(7*i):=by rw[show 7*(i+1)=7+7*i by omega,Nat.pow_add]
     have fF:u%128*2^(7*i)<=127*2^(7*i):=cq _ be;have hu2:u/128<128^(k+1):=by
      rw[Nat.pow_succ]at hu;exact Nat.div_lt_of_lt_mul (by rw[Nat.mul_comm];exact hu)
     have ih:=IZ k m (i+1) (gr+u%128*2^(7*i)) (u/128) s a r hu2 be (by rw[afi];omega) be (Ow hs) (by simpa using hm);rw[ih,afi];have e2:gr+u%128*2^(7*i)+u/128*(128*2^(7*i))=gr+u*2^(7*i):=by
      rw[cC,<- Nat.mul_assoc,<- cN];congr 2;omega
     rw[e2,aS,cC,Nat.add_comm 1]
   . rw[aI h128]at hs hm ⊢;rw[MG u be]at hs;exact last be hs
section
variable{s:aa}(x:Nat){a:Nat}{t r:aa}
theorem uN(l:List Int):(eN l).length=l.length:=by unfold eN;rw[aY]
theorem GU{n:Nat}{r:aa}(hn:n<34359738368)(h:s.drop a=jo (Int.ofNat n)++r):Pg s a=((n:Int),a+(jo (Int.ofNat n)).length,false):=by
 have hl:(jo (Int.ofNat n)).length=(oq 4 (n:Int)).length:=uN _;have h5:=mj (Int.ofNat n);have hd:s.length-a=(jo (Int.ofNat n)).length+r.length:=by rw[<- bX,h,ax]
 have:=IZ 4 (wW s a) 0 0 n s a r be be dU be h (by unfold wW;omega);simp only[bI,Nat.mul_zero,Nat.pow_zero,bk]at this;unfold Pg wX;rw[show((0:Nat):Int)=0 from rfl]at this;rw[this,hl]
theorem GV(h:s.drop a=t++r):qO s a false (t.length:Int)=(t,a+t.length,false):=by
 have hd:s.length-a=t.length+r.length:=by rw[<- bX,h,ax]
 unfold qO;rw[aI (by simp only[aO,false_or];omega),h,Int.toNat_natCast,List.take_left'];rfl
theorem zg(ht:t.length<34359738368)(h:s.drop a=jt t++r):hU s a false=(t,a+(jt t).length,false):=by
 have h1:s.drop a=jo (Int.ofNat t.length)++(t++r):=by rw[h];unfold jt;rw[bB]
 have e1:=GU ht h1;have h2:s.drop (a+(jo (Int.ofNat t.length)).length)=t++r:=by rw[<- List.drop_drop,h1,List.drop_left'];rfl
 have e2:=GV h2;unfold hU iA;simp only[aO,cG,e1,e2];unfold jt;rw[ax,cC]
theorem vw(n:Nat)(b:UInt8)(h:n<1099511627776):ze (n:Int) b=((n*256+b.toNat:Nat):Int):=by
 have hb:b.toNat<256:=b.toNat_lt;unfold ze;have e1:(n:Int)*(256:Int)=((n*256:Nat):Int):=by simp
 rw[e1,lH be,kU b.toNat,lH be,BitVec.toNat_or,BitVec.ofInt_natCast,BitVec.ofInt_natCast,BitVec.toNat_ofNat,BitVec.toNat_ofNat];have h64:(2:Nat)^64=18446744073709551616:=by decide
 rw[h64,Nat.mod_eq_of_lt (a:=n*256) be,Nat.mod_eq_of_lt (a:=b.toNat) be];have h5:n*256|||b.toNat=n*256+b.toNat:=by
  rw[Nat.mul_comm n 256,show(256:Nat)=2^8 by decide,<- Nat.two_pow_add_eq_or_of_lt be]
 rw[h5,kU,lH be]
theorem Dj(d:Nat)(hx:x<18446744073709551616):(pB (x:Int) (d:Int)).toNat=x/d%256:=by
 unfold pB;rw[Va,Nat.mod_eq_of_lt hx,cK _ (az _)];rw[show(x:Int)/(d:Int)=((x/d:Nat):Int)from rfl,u8w,u8I be]
theorem Ox(hx:x<4294967296):(dN (x:Int)).foldl ze 0=(x:Int):=by
 unfold dN;simp only[List.foldl_cons,List.foldl_nil];have c1:=Dj x 16777216 be;have c2:=Dj x 65536 be;have c3:=Dj x 256 be;have c4:=Dj x 1 be;have e1:=vw 0 (pB (x:Int) 16777216) be;rw[show((0:Nat):Int)=0 from rfl]at e1;rw[e1,show(pB (x:Int) 16777216).toNat=_ from c1];rw[vw _ _ be,show(pB (x:Int) 65536).toNat=_ from c2];rw[vw _ _ be,show(pB (x:Int) 256).toNat=_ from c3];rw[vw _ _ be,show(pB (x:Int) 1).toNat=_ from c4];congr 1;omega
theorem Vb(s:aa):∃c:Nat,c<4294967296/\qH s=(c:Int):=by
 unfold qH nv w32;refine⟨(BitVec.ofInt 32 4294967295^^^BitVec.ofInt 32 (C9 (w256 y8) s s.length)).toNat,BitVec.isLt _,?_⟩;have h:=(BitVec.ofInt 32 4294967295^^^BitVec.ofInt 32 (C9 (w256 y8) s s.length)).isLt;generalize (BitVec.ofInt 32 4294967295^^^BitVec.ofInt 32 (C9 (w256 y8) s s.length)).toNat=c at h;simp only[IntKind.wrap,IntKind.bits,IntKind.signed];simp;omega
theorem RC{b:aa}{a:Nat}{r:aa}(h:s.drop a=dN (IntKind.i64.wrap (qH b))++r):ya s a false 4=(IntKind.i64.wrap (qH b),a+4,false):=by
 obtain⟨c,hc,e⟩:=Vb b;have e1:=GV h;have hl:(dN (IntKind.i64.wrap (qH b))).length=4:=rfl;rw[hl]at e1;unfold ya;rw[show(Int.ofNat 4)=((4:Nat):Int)from rfl,e1];simp only;rw[e,lH be,Ox c hc]
theorem MH{k:Nat}{r:aa}(hk:k<256)(h:s.drop a=pn (k:Int)++r):ya s a false 1=((k:Int),a+1,false):=by
 have e1:=GV h;have hl:(pn (k:Int)).length=1:=rfl;rw[hl]at e1;unfold ya;rw[show(Int.ofNat 1)=((1:Nat):Int)from rfl,e1];have e2:=vw 0 (pB (k:Int) 1) be;rw[show((0:Nat):Int)=0 from rfl]at e2;have c1:=Dj k 1 be;unfold pn;simp only[List.foldl_cons,List.foldl_nil,e2];rw[show(pB (k:Int) 1).toNat=_ from c1];congr 2;omega
end
abbrev P3:V:=.ptr (some (3,0))
abbrev eI:V:=.dj none 0 0 0
def hJ(d:aa)(p:iw):Tr O:=(eu p).set 7 (some (.cells [.str d]))
def iW(i:Nat):V:=.int .i64 (Int.ofNat i)
theorem pA{x:Int}{n:Nat}(h:x=(n:Int))(hb:n<1000000000000):V.int aj (IntKind.i64.wrap x)=iW n:=fE h hb
theorem Yl:16<Tryz.prog.funcs.size:=au U
theorem afj:17<Tryz.prog.funcs.size:=au U
theorem afk:18<Tryz.prog.funcs.size:=au U
noncomputable abbrev aaG:Code:=dK (de 2 IU)
noncomputable abbrev aaH:Code:=ee (de 2 IU)
noncomputable abbrev aaI:Code:=Xz (ee K7)
section
variable(cO cP:Nat)(b:aa)(fl nx lf:Int)(es rt:ae)
section
variable(s:aa)(a:Nat)(f:Bool)
def Le(Rn:af):Tr O:=hL (eO (pS cO cP b fl nx lf es rt)++(7,.cells (GR s a f))::Rn)
def sA0(d:aa)(n i:Nat):St:=eF [(0,P3),(4,.ptr (some (7,0))),(5,.str d),(6,eI),(17,.int .i64 (Int.ofNat n)),(18,.int .i64 (Int.ofNat i))] (Le cO cP b fl nx lf es rt s a f []) 8
def sA1(d:aa)(n i k:Nat)(cs:ai):St:=eF [(0,P3),(4,.ptr (some (7,0))),(5,.str d),(6,.dj (some (8,0)) k k 1),(17,.int .i64 (Int.ofNat n)),(18,.int .i64 (Int.ofNat i))] (Le cO cP b fl nx lf es rt s a f [(8,.deep cs)]) 9
end
end
section
variable(cO cP:Nat)(b:aa)(fl nx lf:Int)(es rt:ae)(s:aa)(a:Nat)(f:Bool)
theorem afm:c6 lX [] 7 Tryz.f83 [0,4,11] (eR 2 K6) (cS [P3,.str s] (eu (pS cO cP b fl nx lf es rt)) 7) [([],
   [((0:Int)<=(0:Int)/\0<=s.length),(s.length<=1000000000),((0:Int)<=(1:Int)/\1<=8)],
   .to .normal (eF [(0,.ptr (some (3,0))),(4,.ptr (some (7,0))),(11,.int .i64 ((ya s 0 false 1).1))] (hL (eO (pS cO cP b fl nx lf es rt)++[(7,.cells [.str s,.int .i64 (Int.ofNat (ya s 0 false 1).2.1),.bool ((ya s 0 false 1).2.2)])])) 8))]
 :=cQ.of U U U
theorem afn(k:Int):c6 lX [(12,.split)] 7 Tryz.f83 [0,4,11,12] (dK K7) (eF [(0,P3),(4,.ptr (some (7,0))),(11,.int .i64 k)] (Le cO cP b fl nx lf es rt s a f []) 8) [([((k==(1:Int)),true)],
   [],
   .to .normal (eF [(0,.ptr (some (3,0))),(4,.ptr (some (7,0))),(11,.int .i64 k),(12,.bool true)] (hL (eO (pS cO cP b fl nx lf es rt)++[(7,.cells [.str s,.int .i64 (Int.ofNat a),.bool f])])) 8)),
  ([((k==(1:Int)),false)],
   [],
   .to .normal (eF [(0,.ptr (some (3,0))),(4,.ptr (some (7,0))),(11,.int .i64 k),(12,.bool false)] (hL (eO (pS cO cP b fl nx lf es rt)++[(7,.cells [.str s,.int .i64 (Int.ofNat a),.bool f])])) 8))]
 :=cQ.of U U U
theorem alP:c6 lX [] 7 Tryz.f83 [0,4,5,6] (eR 2 IU) (eF [(0,P3),(4,.ptr (some (7,0)))] (Le cO cP b fl nx lf es rt s a f []) 8) [([],
   [((0:Int)<=Int.ofNat a/\a<=s.length),(s.length<=1000000000)],
   .to .normal (eF [(0,.ptr (some (3,0))),(4,.ptr (some (7,0))),(5,.str ((hU s a f).1)),(6,.dj none 0 0 0)] (hL (eO (pS cO cP b fl nx lf es rt)++[(7,.cells [.str s,.int .i64 (Int.ofNat (hU s a f).2.1),.bool ((hU s a f).2.2)])])) 8))]
 :=cQ.of U U U
theorem alQ(d:aa):c6 lX [(18,.dc (.int .i64 (Int.ofNat 0)))] 7 Tryz.f83 [0,4,5,6,17,18] (dK aaG) (eF [(0,P3),(4,.ptr (some (7,0))),(5,.str d),(6,eI)] (Le cO cP b fl nx lf es rt s a f []) 8) [([],
   [((0:Int)<=Int.ofNat a/\a<=s.length),(s.length<=1000000000),(V.int aj (0:Int)=V.int aj (0:Int))],
   .to .normal (eF [(0,.ptr (some (3,0))),(4,.ptr (some (7,0))),(5,.str d),(6,.dj none 0 0 0),(17,.int .i64 ((iA s a f).1)),(18,.int .i64 0)] (hL (eO (pS cO cP b fl nx lf es rt)++[(7,.cells [.str s,.int .i64 (Int.ofNat (iA s a f).2.1),.bool ((iA s a f).2.2)])])) 8))]
 :=cQ.of U U U
theorem afo(d:aa)(n i:Nat):c6 lX [(19,.split),(25,.dc (.int .i64 (Int.ofNat (i+1))))] 7 Tryz.f83 [0,4,5,6,17,18] (dw (dw (ee aaG))) (sA0 cO cP b fl nx lf es rt s a f d n i) [([((decide (Int.ofNat i<Int.ofNat n)),true)],
   [((0:Int)<=Int.ofNat a/\a<=s.length),(s.length<=1000000000),kT (Int.ofNat i+(1:Int)) (i+1)],
   .to .normal (eF [(0,.ptr (some (3,0))),(4,.ptr (some (7,0))),(5,.str d),(6,.dj (some (8,0)) 1 1 1),(17,.int .i64 (Int.ofNat n)),(18,.int .i64 (Int.ofNat (i+1)))] (hL (eO (pS cO cP b fl nx lf es rt)++[(7,.cells [.str s,.int .i64 (Int.ofNat (qO s a f (32:Int)).2.1),.bool ((qO s a f (32:Int)).2.2)]),(8,.cells [.str ((qO s a f (32:Int)).1)])])) 9)),
  ([((decide (Int.ofNat i<Int.ofNat n)),false)],
   [],
   .to (.exit 1) (eF [(0,.ptr (some (3,0))),(4,.ptr (some (7,0))),(5,.str d),(6,.dj none 0 0 0),(17,.int .i64 (Int.ofNat n)),(18,.int .i64 (Int.ofNat i))] (hL (eO (pS cO cP b fl nx lf es rt)++[(7,.cells [.str s,.int .i64 (Int.ofNat a),.bool f])])) 8))]
 :=cQ.of U U U
theorem afp(d:aa)(n i k:Nat)(cs:ai):c6 lX [(19,.split),(25,.dc (.int .i64 (Int.ofNat (i+1))))] 7 Tryz.f83 [0,4,5,6,17,18] (dw (dw (ee aaG))) (sA1 cO cP b fl nx lf es rt s a f d n i k cs) [([((decide (Int.ofNat i<Int.ofNat n)),true)],
   [((0:Int)<=Int.ofNat a/\a<=s.length),(s.length<=1000000000),(0+k*1<=cs.length),(0<1),(eT (k+1) 1 16=true),kT (Int.ofNat i+(1:Int)) (i+1)],
   .to .normal (eF [(0,.ptr (some (3,0))),(4,.ptr (some (7,0))),(5,.str d),(6,.dj (some (8,0)) (k+1) (k+1) 1),(17,.int .i64 (Int.ofNat n)),(18,.int .i64 (Int.ofNat (i+1)))] (hL (eO (pS cO cP b fl nx lf es rt)++[(7,.cells [.str s,.int .i64 (Int.ofNat (qO s a f (32:Int)).2.1),.bool ((qO s a f (32:Int)).2.2)]),(8,.deep (List.take (k*1) (List.drop 0 cs)++[D.str (qO s a f (32:Int)).1]))])) 9)),
  ([((decide (Int.ofNat i<Int.ofNat n)),false)],
   [],
   .to (.exit 1) (eF [(0,.ptr (some (3,0))),(4,.ptr (some (7,0))),(5,.str d),(6,.dj (some (8,0)) k k 1),(17,.int .i64 (Int.ofNat n)),(18,.int .i64 (Int.ofNat i))] (hL (eO (pS cO cP b fl nx lf es rt)++[(7,.cells [.str s,.int .i64 (Int.ofNat a),.bool f]),(8,.deep cs)])) 9))]
 :=cQ.of U U U
theorem alR(d:aa):vt ak lX [] 1000 7 Tryz.f83 (aaH) (eF [(0,P3),(5,.str d),(6,eI)] (eu (pS cO cP b fl nx lf es rt)) 7)
  [([],
   [(gS=gS),(gR=gR),([]=strs (dH [])),(0=0),(0<=1000000),((eH (d::dH [])).length<=1000000000)],
   .ret (.ew []) (eu (pS cO cP b fl (IntKind.i64.wrap (nx+(1:Int))) lf (ic (D.str (dM d (dH []))) (D.agg [D.str d,D.dO 0 [],D.int aj nx]) es) rt)) 7)]
 :=⟨U,U,U⟩
theorem alS(d:aa)(n:Nat)(cs:ai):vt ak lX [] 1000 7 Tryz.f83 (aaH) (eF [(0,P3),(5,.str d),(6,.dO false n cs)] (eu (pS cO cP b fl nx lf es rt)) 7)
  [([],
   [(gS=gS),(gR=gR),(cs=strs (dH cs)),(n=(dH cs).length),(n<=1000000),((eH (d::dH cs)).length<=1000000000),(0<n),(cs.length=n),(n<=1000000)],
   .ret (.ew []) (eu (pS cO cP b fl (IntKind.i64.wrap (nx+(1:Int))) lf (ic (D.str (dM d (dH cs))) (D.agg [D.str d,D.dO n cs,D.int aj nx]) es) rt)) 7)]
 :=⟨U,U,U⟩
theorem alT:c6 lX [] 7 Tryz.f83 [0,4,33] (dK aaI) (eF [(0,P3),(4,.ptr (some (7,0))),(11,.int .i64 2)] (Le cO cP b fl nx lf es rt s a f []) 8) [([],
   [],
   .to .normal (eF [(0,.ptr (some (3,0))),(4,.ptr (some (7,0))),(33,.bool true)] (hL (eO (pS cO cP b fl nx lf es rt)++[(7,.cells [.str s,.int .i64 (Int.ofNat a),.bool f])])) 8))]
 :=cQ.of U U U
theorem afq:c6 lX [] 7 Tryz.f83 [0,4,7] (dK (Mh (ee aaI))) (eF [(0,P3),(4,.ptr (some (7,0)))] (Le cO cP b fl nx lf es rt s a f []) 8) [([],
   [((0:Int)<=Int.ofNat a/\a<=s.length),(s.length<=1000000000)],
   .to .normal (eF [(0,.ptr (some (3,0))),(4,.ptr (some (7,0))),(7,.str ((hU s a f).1))] (hL (eO (pS cO cP b fl nx lf es rt)++[(7,.cells [.str s,.int .i64 (Int.ofNat (hU s a f).2.1),.bool ((hU s a f).2.2)])])) 8))]
 :=cQ.of U U U
end
noncomputable abbrev afr:fb:=gI ak W19 (sk [(50,[(7,.split)])]) 1000 40
noncomputable abbrev alU:CX ak:=CX.of mo po GS (sk [(50,[(7,.split)])]) 1000 40
theorem afs(cO cP:Nat)(b:aa)(fl nx lf:Int)(es rt:ae)(s n:aa)(a:Nat)(f:Bool):vt ak afr [] 1000 7 Tryz.f83 (ee (Mh (ee aaI))) (eF [(0,P3),(4,.ptr (some (7,0))),(7,.str n)] (Le cO cP b fl nx lf es rt s a f []) 8)
  [([((eG (hU s a f).1 ([]:aa)),true)],
   [((0:Int)<=Int.ofNat a/\a<=s.length),(s.length<=1000000000)],
   .ret (.ew []) (eu (pS cO cP b fl nx lf es (lM (D.str n) rt))) 7),
  ([((eG (hU s a f).1 ([]:aa)),false)],
   [((0:Int)<=Int.ofNat a/\a<=s.length),(s.length<=1000000000)],
   .ret (.ew []) (eu (pS cO cP b fl nx lf es (ic (D.str n) (D.str (hU s a f).1) rt))) 7)]
 :=⟨U,U,U⟩
theorem qK{α:Type}{s p r:List α}{a:Nat}(h:s.drop a=p++r):s.drop (a+p.length)=r:=by rw[<- List.drop_drop,h,List.drop_left'];rfl
section
variable(cO cP:Nat)(b:aa)(fl nx lf:Int)(es rt:ae)
theorem Vc(d:aa)(rs:List (aa))(hd:d.length<=65536)(hn:rs.length<=1024)(h32:∀x∈rs,x.length=32):
  cU ak 83 [P3,.str (vp d rs.length++rs.flatten)] (eu (pS cO cP b fl nx lf es rt)) 7 (.ew []) (eu (pS cO cP b fl (IntKind.i64.wrap (nx+1)) lf (ic (.str (dM d rs)) (pW d rs nx) es) rt)) 7:=by
 have TI:=vr h32;have hhl:=wm d rs.length;obtain⟨s,hs⟩:∃s,s=vp d rs.length++rs.flatten:=⟨_,rfl⟩;rw[<- hs];have hsl:s.length<=1000000:=by rw[hs,ax];omega
 have d0:s.drop 0=pn ((1:Nat):Int)++(jt d++(jo (Int.ofNat rs.length)++rs.flatten)):=by
  rw[hs,bw];unfold vp;simp only[bB];rfl
 have d1:=qK d0;rw[show 0+(pn ((1:Nat):Int)).length=1 from rfl]at d1;have d2:=qK d1;have d3:=qK d2;have r1:=MH dU d0;have r2:=zg be d1;have r3:=GU be d2;have hv:=mj (Int.ofNat rs.length);have l3:1+(jt d).length+(jo (Int.ofNat rs.length)).length+rs.flatten.length=s.length:=by
  have e:=aM List.length d0;simp only[ax,bw]at e;rw[show(pn ((1:Nat):Int)).length=1 from rfl]at e;omega
 rw[show 1+(jt d).length=(jt d).length+1 by omega]at *;refine c7 Tryz.func83 (code:=K6) U U ?_;obtain⟨L1,BA⟩:=afm cO cP b fl nx lf es rt s;rw[r1]at BA;refine mA 2 uq mo U BA (fm ⟨dU,be⟩ (fm be (eU ⟨dU,dU⟩))) ?_;refine fg (i:=0) U ?_;refine ff (Q1:=fG ak 7 Tryz.f83 fun v h n=>v= .ew []/\h=eu (pS cO cP b fl (IntKind.i64.wrap (nx+1)) lf (ic (.str (dM d rs)) (pW d rs nx) es) rt)/\n=7) ?_ fun y s h=>xM h;show TG ak 7 Tryz.f83.ntmps K7 (eF [(0,P3),(4,.ptr (some (7,0))),(11,.int .i64 1)] (Le cO cP b fl nx lf es rt s 1 false []) 8) _;refine cV U ?_;refine fZ uq (afn cO cP b fl nx lf es rt s 1 false 1) fun g hg hc=>?_;simp only[aE,aL,bu]at hg;rcases hg with rfl|rfl
 case inr=>exact absurd (hc _ (aq.2 rfl)) dU
 refine⟨cR,fun s' dL=>c5 dL ?_⟩;refine BJ (t:=true) U U (fun _=>?_) (fun h=>by cases h);refine c5 (live:=[0,4]) (s2:=eF [(0,P3),(4,.ptr (some (7,0)))] (Le cO cP b fl nx lf es rt s 1 false []) 8) U ?_;obtain⟨L3,wv⟩:=alP cO cP b fl nx lf es rt s 1 false;rw[r2]at wv;refine mA 2 uq mo U wv (fm ⟨dU,be⟩ (eU be)) ?_;refine cV U ?_;refine cV U ?_;have r3f:iA s ((jt d).length+1) false=_:=r3;obtain⟨L4,Ef⟩:=alQ cO cP b fl nx lf es rt s ((jt d).length+1) false d;rw[r3f]at Ef;refine gh uq mo kS U Ef (dG ?_);refine⟨fm ⟨az _,be⟩ (fm be (eU rfl)),fun s' dL=>?_⟩;obtain⟨a,ha⟩:∃a,a=(jt d).length+1+(jo (Int.ofNat rs.length)).length:=⟨_,rfl⟩;rw[<- ha]at dL d3 l3;have mF:∀i,i<=rs.length->s.drop (a+32*i)=(rs.drop i).flatten:=by
  intro i
  induction i with
  |zero=>intro _;simpa using d3
  |succ i ih=>
   intro hi;have ih:=ih be;rw[bF (l:=rs) be,List.flatten_cons]at ih;have h2:=qK ih;rw[h32 _ (bY _)]at h2;rw[show a+32*(i+1)=a+32*i+32 by omega];exact h2
 have htk:∀i (hi:i<rs.length),qO s (a+32*i) false (32:Int)=(rs[i],a+32*i+32,false):=by
  intro i hi;have h1:=mF i be;rw[bF hi,List.flatten_cons]at h1;have h2:=GV h1;rw[h32 _ (bY _)]at h2;exact h2
 have kE:∀i,i<=rs.length->a+32*i<=s.length:=fun i hi=>by omega
 let S:Nat->St:=fun i=>match i with
  |0=>sA0 cO cP b fl nx lf es rt s a false d rs.length 0
  |i+1=>sA1 cO cP b fl nx lf es rt s (a+32*(i+1)) false d rs.length (i+1) (i+1) (strs (rs.take (i+1)))
 have tail:∀s',gC ak 7 Tryz.f83.ntmps s' (S rs.length)->TG ak 7 Tryz.f83.ntmps aaH s' (fG ak 7 Tryz.f83 fun v h n=>v= .ew []/\h=eu (pS cO cP b fl (IntKind.i64.wrap (nx+1)) lf (ic (.str (dM d rs)) (pW d rs nx) es) rt)/\n=7):=by
  intro s' dL;refine dL _ _ ?_;have hj:=jM d rs h32;rcases Nat.eq_zero_or_pos rs.length with h0|h0
  . have:rs=[]:=List.eq_nil_of_length_eq_zero h0;subst this;refine c5 (live:=[0,5,6]) (s2:=eF [(0,P3),(5,.str d),(6,eI)] (eu (pS cO cP b fl nx lf es rt)) 7) U ?_;refine rF uq mo _ U (alR cO cP b fl nx lf es rt d) (dG ?_);refine⟨fm rfl (fm rfl (fm rfl (fm rfl (fm dU (eU ?_))))),_,_,_,rfl,rfl,rfl,rfl⟩;show(eH [d]).length<=_;simp only[bQ]at hj;omega
  . have hS:S rs.length=sA1 cO cP b fl nx lf es rt s (a+32*rs.length) false d rs.length rs.length rs.length (strs rs):=by
     obtain⟨k,hk⟩:∃k,rs.length=k+1:=⟨rs.length-1,be⟩;show(match rs.length with|0=>_|i+1=>_)=_;have e:rs.take (k+1)=rs:=by rw[<- hk,aW]
     rw[hk];simp only[e]
    rw[hS];refine xH [8] (A:=[(strs rs).length=rs.length*1]) (s2:={ eF [(0,P3),(4,.ptr (some (7,0))),(5,.str d),(6,.dO false rs.length (strs rs)),(17,.int .i64 (Int.ofNat rs.length)),(18,.int .i64 (Int.ofNat rs.length))] (Le cO cP b fl nx lf es rt s (a+32*rs.length) false [(8,.deep (strs rs))]) 9 with h:=(Le cO cP b fl nx lf es rt s (a+32*rs.length) false [(8,.deep (strs rs))]).set 8 none }) U (eU (by rw[eJ,bk])) ?_;refine c5 (live:=[0,5,6]) (s2:=eF [(0,P3),(5,.str d),(6,.dO false rs.length (strs rs))] (eu (pS cO cP b fl nx lf es rt)) 7) U ?_;have hr:=alS cO cP b fl nx lf es rt d rs.length (strs rs);rw[ik]at hr;refine rF uq mo _ U hr (dG ?_);exact⟨fm rfl (fm rfl (fm rfl (fm rfl (fm be (fm be (fm h0 (fm (eJ rs) (eU be)))))))),_,_,_,rfl,rfl,rfl,rfl⟩
 refine jq 1 rs.length S U U (.norm dL) (fun i hi=>?_) ?_
 . have ht:=htk i hi;cases i with
   |zero=>
    obtain⟨L5,uj⟩:=afo cO cP b fl nx lf es rt s a false d rs.length 0;rw[show a+32*0=a by omega]at ht;rw[ht]at uj;refine gh uq mo kS U uj fun g hg hc=>?_;simp only[aE,aL,bu]at hg;rcases hg with rfl|rfl
    case inr=>exact absurd (aK (hc _ (aq.2 rfl))) dh
    refine⟨fm ⟨az _,be⟩ (fm be (eU (fE dh be))),fun s' dL=>?_⟩;have e:rs.take 1=[rs[0]]:=by
     rw[bJ,ay hi];rfl
    refine(gC.norm dL).trans ?_;show gC _ _ _ _ (sA1 cO cP b fl nx lf es rt s (a+32*1) false d rs.length 1 1 (strs (rs.take 1)));rw[e];exact .deep [8] U
   |succ i=>
    obtain⟨L5,uj⟩:=afp cO cP b fl nx lf es rt s (a+32*(i+1)) false d rs.length (i+1) (i+1) (strs (rs.take (i+1)));rw[ht]at uj;refine gh uq mo kS U uj fun g hg hc=>?_;simp only[aE,aL,bu]at hg;rcases hg with rfl|rfl
    case inr=>exact absurd (aK (hc _ (aq.2 rfl))) dh
    have hl:(strs (rs.take (i+1))).length=i+1:=by rw[eJ,bg];omega
    refine⟨fm ⟨az _,kE _ be⟩ (fm be (fm be (fm dU (fm (pV be) (eU (fE dh be)))))),fun s' dL=>?_⟩;have e:List.take ((i+1)*1) (List.drop 0 (strs (rs.take (i+1))))++[D.str rs[i+1]]=strs (rs.take (i+1+1)):=by
     rw[bw,bk,br be];rw[bJ (i:=i+1),ay hi];unfold strs;rw[aX];rfl
    rw[e]at dL;exact .norm dL
 . rcases Nat.eq_zero_or_pos rs.length with h0|h0
   . have h1:S rs.length=sA0 cO cP b fl nx lf es rt s a false d rs.length 0:=by
      show(match rs.length with|0=>_|i+1=>_)=_;rw[h0]
     rw[h1]at tail ⊢;refine fZ uq (afo cO cP b fl nx lf es rt s a false d rs.length 0) fun g hg hc=>?_;simp only[aE,aL,bu]at hg;rcases hg with rfl|rfl
     . exact absurd (aH (hc _ (aq.2 rfl))) dh
     . exact⟨cR,fun s' dL=>⟨by simp,by simp only[dX,andThen];exact tail s' (.norm dL)⟩⟩
   . have h1:S rs.length=sA1 cO cP b fl nx lf es rt s (a+32*rs.length) false d rs.length rs.length rs.length (strs rs):=by
      obtain⟨k,hk⟩:∃k,rs.length=k+1:=⟨rs.length-1,be⟩;show(match rs.length with|0=>_|i+1=>_)=_;have e:rs.take (k+1)=rs:=by rw[<- hk,aW]
      rw[hk];simp only[e]
     rw[h1]at tail ⊢;refine fZ uq (afp cO cP b fl nx lf es rt s (a+32*rs.length) false d rs.length rs.length rs.length (strs rs)) fun g hg hc=>?_;simp only[aE,aL,bu]at hg;rcases hg with rfl|rfl
     . exact absurd (aH (hc _ (aq.2 rfl))) be
     . exact⟨cR,fun s' dL=>⟨by simp,by simp only[dX,andThen];exact tail s' (.norm dL)⟩⟩
theorem Vd(n dd:aa)(hn:n.length<=1000000)(hd:dd.length<=1000000):
  cU ak 83 [P3,.str (pn 2++jt n++jt dd)] (eu (pS cO cP b fl nx lf es rt)) 7 (.ew []) (eu (pS cO cP b fl nx lf es (if dd=[]then lM (.str n) rt else ic (.str n) (.str dd) rt))) 7:=by
 obtain⟨s,hs⟩:∃s,s=pn 2++jt n++jt dd:=⟨_,rfl⟩;rw[<- hs];have t1:=oM n;have t2:=oM dd;have hsl:s.length<=3000000:=by
  rw[hs,ax,ax,show(pn 2).length=1 from rfl];omega
 have d0:s.drop 0=pn ((2:Nat):Int)++(jt n++(jt dd++[])):=by
  rw[hs,bw];simp only[bB,cu];rfl
 have d1:=qK d0;rw[show 0+(pn ((2:Nat):Int)).length=1 from rfl]at d1;have d2:=qK d1;have r1:=MH dU d0;have r2:=zg be d1;have r3:=zg be d2;have l3:1+(jt n).length+(jt dd).length=s.length:=by
  have e:=aM List.length d0;simp only[ax,bw,bQ]at e;rw[show(pn ((2:Nat):Int)).length=1 from rfl]at e;omega
 refine c7 Tryz.func83 (code:=K6) U U ?_;obtain⟨L1,BA⟩:=afm cO cP b fl nx lf es rt s;rw[r1]at BA;refine mA 2 uq mo U BA (fm ⟨dU,be⟩ (fm be (eU ⟨dU,dU⟩))) ?_;refine fg (i:=0) U ?_;refine ff (Q1:=fG ak 7 Tryz.f83 fun v h k=>v= .ew []/\h=eu (pS cO cP b fl nx lf es (if dd=[]then lM (.str n) rt else ic (.str n) (.str dd) rt))/\k=7) ?_ fun y s h=>xM h;show TG ak 7 Tryz.f83.ntmps K7 (eF [(0,P3),(4,.ptr (some (7,0))),(11,.int .i64 2)] (Le cO cP b fl nx lf es rt s 1 false []) 8) _;refine cV U ?_;refine fZ uq (afn cO cP b fl nx lf es rt s 1 false 2) fun g hg hc=>?_;simp only[aE,aL,bu]at hg;rcases hg with rfl|rfl
 . exact absurd (hc _ (aq.2 rfl)) dU
 refine⟨cR,fun s' dL=>c5 dL ?_⟩;refine BJ (t:=false) U U (fun h=>by cases h) (fun _=>?_);refine c5 (live:=[0,4,11]) (s2:=eF [(0,P3),(4,.ptr (some (7,0))),(11,.int .i64 2)] (Le cO cP b fl nx lf es rt s 1 false []) 8) U ?_;refine cV U ?_;refine fZ uq (alT cO cP b fl nx lf es rt s 1 false) (dG ?_);refine⟨cR,fun s' dL=>c5 dL ?_⟩;refine BJ (t:=true) U U (fun _=>?_) (fun h=>by cases h);refine c5 (live:=[0,4]) (s2:=eF [(0,P3),(4,.ptr (some (7,0)))] (Le cO cP b fl nx lf es rt s 1 false []) 8) U ?_;refine cV U ?_;obtain⟨L4,Ef⟩:=afq cO cP b fl nx lf es rt s 1 false;rw[r2]at Ef;refine gh uq mo kS U Ef (dG ?_);refine⟨fm ⟨dU,be⟩ (eU be),fun s' dL=>?_⟩;have uj:=afs cO cP b fl nx lf es rt s n (1+(jt n).length) false;rw[r3]at uj;refine c5 dL ?_;refine rF alU mo _ U uj fun g hg hc=>?_;simp only[aE,aL,bu]at hg;have A:∀p∈[((0:Int)<=Int.ofNat (1+(jt n).length)/\1+(jt n).length<=s.length),(s.length<=1000000000)],p:=fm ⟨az _,be⟩ (eU be);have hb:eG dd []=decide (dd=[]):=by
  rw[fR];cases dd<;>rfl
 rcases hg with rfl|rfl
 all_goals
  have q:=hc _ (aq.2 rfl);have q:eG dd []=_:=q;rw[hb]at q;refine⟨A,_,_,_,rfl,rfl,?_,rfl⟩
 . rw[aG (aH q)]
 . rw[aI (aK q)]
end
noncomputable abbrev aaJ:Code:=dP Tryz.f103
noncomputable abbrev alV:Code:=de 1 aaJ
noncomputable abbrev aaK:Code:=dw (dw alV)
section
variable(cO cP:Nat)(b:aa)(fl lf:Int)(es rt:ae)(lg:aa)
def sRw:St:=eF [(1,.ptr (some (9,0))),(2,.ptr (some (10,0))),(12,v103)] (hL (lRv cO cP b fl lf es rt 0 [] [] 0++[(11,.cells [.str lg])])) 12
noncomputable def oRw:O:=.loop true none (sRw cO cP b fl lf es rt lg).fr [13,14] aeQ aeR
noncomputable def Oy(nx:Int)(mK mX:ae)(en:Int):Tr O:=hL (lRv cO cP b fl lf es rt nx mK mX en++[(11,.cells [.str lg]),(12,.my),(13,oRw cO cP b fl lf es rt lg)])
noncomputable def mRc(nx:Int)(mK mX:ae)(en:Int)(a:Nat)(f:Bool):Tr O:=hL (lRv cO cP b fl lf es rt nx mK mX en++[(11,.cells [.str lg]),(12,.my),(13,oRw cO cP b fl lf es rt lg),(14,.cells (GR lg a f))])
noncomputable def Ph(nx:Int)(mK mX:ae)(en:Int)(a:Nat)(f:Bool):St:=eF [(0,.fn (.yield 13) [] []),(3,.ptr (some (14,0)))] (mRc cO cP b fl lf es rt lg nx mK mX en a f) 15
end
noncomputable abbrev alX(args:ag)(h:Tr O)(n:Nat)(v:V)(h1:Tr O)(n1:Nat):fb:=gI ak (U2 83 args h n v h1 n1 W19) H0 1000 40
theorem alY(cO cP:Nat)(b:aa)(fl lf:Int)(es rt:ae)(lg:aa):c6 lX [] 14 Tryz.f103 [0,3] (eR 1 aaJ) (cS [.fn (.yield 13) [] [],.ptr (some (11,0))] (Oy cO cP b fl lf es rt lg 0 [] [] 0) 14) [([],
   [],
   .to .normal (Ph cO cP b fl lf es rt lg 0 [] [] 0 0 false))]
 :=cQ.of U U U
section
variable(cO cP:Nat)(b:aa)(fl lf:Int)(es rt:ae)(lg:aa)
noncomputable def mRd(nx:Int)(mK mX:ae)(en:Int)(a:Nat):Tr O:=(mRc cO cP b fl lf es rt lg nx mK mX en a false).set 13 none
noncomputable def sRe(nx:Int)(mK mX:ae)(en:Int)(t:aa)(k:Int)(a:Nat)(f:Bool):St:=eF [(0,.fn (.yield 13) [] []),(3,.ptr (some (14,0))),(4,.str t),(5,.int .i64 k)] (mRc cO cP b fl lf es rt lg nx mK mX en a f) 15
end
noncomputable abbrev aaL:Code:=dw (ee aaK)
section
variable(cO cP:Nat)(b:aa)(fl lf:Int)(es rt:ae)
theorem al0(lg:aa)(nx:Int)(mK mX:ae)(en:Int)(a:Nat):c6 lX [(10,.split)] 14 Tryz.f103 [0,3] (dK aaK) (Ph cO cP b fl lf es rt lg nx mK mX en a false) [([((decide (IntKind.i64.wrap ((Int.ofNat lg.length)-Int.ofNat a)>(0:Int))),true)],
   [],
   .to .normal (Ph cO cP b fl lf es rt lg nx mK mX en a false)),
  ([((decide (IntKind.i64.wrap ((Int.ofNat lg.length)-Int.ofNat a)>(0:Int))),false)],
   [],
   .to (.exit 0) (Ph cO cP b fl lf es rt lg nx mK mX en a false))]
 :=cQ.of U U U
theorem al1(lg:aa)(nx:Int)(mK mX:ae)(en:Int)(a:Nat):c6 lX [] 14 Tryz.f103 [0,3,4,5] (eR 2 aaL) (Ph cO cP b fl lf es rt lg nx mK mX en a false) [([],
   [((0:Int)<=Int.ofNat a/\a<=lg.length),(lg.length<=1000000000),((0:Int)<=Int.ofNat (hU lg a false).2.1/\(Int.ofNat (hU lg a false).2.1).toNat<=lg.length),(lg.length<=1000000000),((0:Int)<=(4:Int)/\4<=8)],
   .to .normal (sRe cO cP b fl lf es rt lg nx mK mX en (hU lg a false).1 (ya lg (hU lg a false).2.1 (hU lg a false).2.2 4).1 (ya lg (hU lg a false).2.1 (hU lg a false).2.2 4).2.1 (ya lg (hU lg a false).2.1 (hU lg a false).2.2 4).2.2))]
 :=cQ.of U U U
theorem al2(lg:aa)(nx:Int)(mK mX:ae)(en:Int)(t:aa)(k:Int)(a:Nat)(nx2:Int)(tX rt2:ae):c6 (alX [P3,.str t] (mRd cO cP b fl lf es rt lg nx mK mX en a) 15 (.ew []) (mRd cO cP b fl lf es rt lg nx2 tX rt2 en a) 15) [(24,.dc (.bool false))] 14 Tryz.f103 [0,3] (de 2 aaL) (sRe cO cP b fl lf es rt lg nx mK mX en t k a false) [([],
   [(t.length<1000000000),(V.bool (k !=IntKind.i64.wrap (qH t))=V.bool false),(fo [.ptr (some (3,0)),.str t] (mRd cO cP b fl lf es rt lg nx mK mX en a) 15)],
   .to .normal (Ph cO cP b fl lf es rt lg nx2 tX rt2 (Int.ofNat a) a false))]
 :=cQ.of U U U
--@ as0 (cO cP:Nat) (b:aa) (fl lf:Int) (es rt:ae) (lg:aa) (nx:Int) (mK mX:ae) (en:Int) (t:aa) (k:Int) (a:Nat) (f:Bool)|lX | [(17,.split),(24,.dc (.bool true))]|14|Tryz.f103 | []|de 2 aaL|sRe cO cP b fl lf es rt lg nx mK mX en t k a f | [aeQ,aeR] | | | Oy cO cP b fl lf es rt lg nx mK mX en ;;Oy cO cP b fl lf es rt lg nx mK mX en
abbrev RD(lg:aa)(a:Nat):Prop:=(0:Int)<=Int.ofNat (hU lg a false).2.1/\(Int.ofNat (hU lg a false).2.1).toNat<=lg.length
theorem al3(lg:aa)(nx:Int)(mK mX:ae)(en:Int)(a:Nat):∃L,zb ak lX [(10,.split),(17,.split),(24,.dc (.bool true))] 1000 14 Tryz.f103 [0,3] 0 (aaK) (Ph cO cP b fl lf es rt lg nx mK mX en a false) L
  [([((decide (IntKind.i64.wrap ((Int.ofNat lg.length)-Int.ofNat a)>(0:Int))),true),(((ya lg (Int.ofNat (hU lg a false).2.1).toNat (hU lg a false).2.2 4).2.2),true)],
   [((0:Int)<=Int.ofNat a/\a<=lg.length),(lg.length<=1000000000),RD lg a,(lg.length<=1000000000),((0:Int)<=(4:Int)/\4<=8),(V.bool true=V.bool true)],
   .ret (.ew []) (Oy cO cP b fl lf es rt lg nx mK mX en) 14),
  ([((decide (IntKind.i64.wrap ((Int.ofNat lg.length)-Int.ofNat a)>(0:Int))),true),(((ya lg (Int.ofNat (hU lg a false).2.1).toNat (hU lg a false).2.2 4).2.2),false)],
   [((0:Int)<=Int.ofNat a/\a<=lg.length),(lg.length<=1000000000),RD lg a,(lg.length<=1000000000),((0:Int)<=(4:Int)/\4<=8),((hU lg a false).1.length<1000000000),(V.bool ((ya lg (Int.ofNat (hU lg a false).2.1).toNat (hU lg a false).2.2 4).1 !=IntKind.i64.wrap (qH (hU lg a false).1))=V.bool true)],
   .ret (.ew []) (Oy cO cP b fl lf es rt lg nx mK mX en) 14),
  ([((decide (IntKind.i64.wrap ((Int.ofNat lg.length)-Int.ofNat a)>(0:Int))),false)],
   [],
   .ret (.ew []) (Oy cO cP b fl lf es rt lg nx mK mX en) 14)]
 :=zb.of U U U
end
inductive ju where
 |chunk (d:aa) (rs:List (aa))
 |root (n dd:aa)
def ju.body:ju->aa
 | .chunk d rs=>vp d rs.length++rs.flatten
 | .root n dd=>pn 2++jt n++jt dd
def ju.bytes(r:ju):aa:=nw r.body
def ju.ok:ju->Prop
 | .chunk d rs=>d.length<=65536/\rs.length<=1024/\∀x∈rs,x.length=32
 | .root n dd=>n.length<=1000/\dd.length<=1000
theorem ju.Dk{r:ju}(h:r.ok):r.body.length<=200000:=by
 cases r with
 |chunk d rs=>
  obtain⟨h1,h2,h3⟩:=h;have:=wm d rs.length;have:=vr h3;simp only[ju.body,ax];omega
 |root n dd=>
  obtain⟨h1,h2⟩:=h;have:=oM n;have:=oM dd;simp only[ju.body,ax,show(pn 2).length=1 from rfl];omega
structure LS where
 nx:Int
 es:ae
 rt:ae
def BO(s:LS):ju->LS
 | .chunk d rs=>⟨IntKind.i64.wrap (s.nx+1),ic (.str (dM d rs)) (pW d rs s.nx) s.es,s.rt⟩
 | .root n dd=>⟨s.nx,s.es,if dd=[]then lM (.str n) s.rt else ic (.str n) (.str dd) s.rt⟩
def ls0:LS:=⟨0,[],[]⟩
abbrev iP(l:List ju):LS:=l.foldl BO ls0
def cZ(l:List ju):aa:=(l.map ju.bytes).flatten
theorem aaM(cO cP:Nat)(b:aa)(fl nx lf:Int)(es rt:ae)(r:ju)(h:r.ok):cU ak 83 [P3,.str r.body] (eu (pS cO cP b fl nx lf es rt)) 7 (.ew []) (eu (pS cO cP b fl (BO ⟨nx,es,rt⟩ r).nx lf (BO ⟨nx,es,rt⟩ r).es (BO ⟨nx,es,rt⟩ r).rt)) 7:=by
 cases r with
 |chunk d rs=>exact Vc cO cP b fl nx lf es rt d rs h.1 h.2.1 h.2.2
 |root n dd=>exact Vd cO cP b fl nx lf es rt n dd (by have:=h.1;omega) (by have:=h.2;omega)
def nsR:List (Option Nat):=[some 0,some 1,some 2,some 3,some 4,some 7,some 8]
section
variable(cO cP:Nat)(b:aa)(fl lf:Int)(es rt:ae)(lg:aa)
theorem Ve(nx:Int)(mK mX:ae)(en:Int)(a:Nat)(r:ju)(h:r.ok):cU ak 83 [P3,.str r.body] (mRd cO cP b fl lf es rt lg nx mK mX en a) 15 (.ew [])
  (mRd cO cP b fl lf es rt lg (BO ⟨nx,mK,mX⟩ r).nx (BO ⟨nx,mK,mX⟩ r).es (BO ⟨nx,mK,mX⟩ r).rt en a) 15:=by
 have hc:=aaM cO cP b fl nx lf mK mX r h;generalize BO ⟨nx,mK,mX⟩ r=q at hc ⊢;obtain⟨nx2,tX,rt2⟩:=q;generalize r.body=t at hc ⊢;have Bm:IP (mRd cO cP b fl lf es rt lg nx mK mX en a) 3=some (nsR,pS cO cP b fl nx lf mK mX):=by kernel_rfl
 exact fV (ns:=nsR) (IQ Bm U U).1 U U hc
def Stop(lg:aa)(a:Nat):Prop:=a=lg.length\/(ya lg (hU lg a false).2.1 (hU lg a false).2.2 4).2.2=true\/(ya lg (hU lg a false).2.1 (hU lg a false).2.2 4).1≠IntKind.i64.wrap (qH (hU lg a false).1)
theorem ow{r:ju}:0<r.bytes.length:=by
 have:=xJ r.body;unfold ju.bytes;omega
section
variable{l:List ju}{i:Nat}
theorem Ba(h:i<l.length):cZ (l.take (i+1))=cZ (l.take i)++(l[i]).bytes:=by
 unfold cZ;rw[bJ,ay h,cD,aX,cn];simp
theorem I0(h:i<l.length):cZ (l.drop i)=(l[i]).bytes++cZ (l.drop (i+1)):=by
 unfold cZ;rw[bF h,bN,List.flatten_cons]
theorem tJ(l:List ju)(i:Nat):cZ l=cZ (l.take i)++cZ (l.drop i):=by
 unfold cZ;rw[<- cn,<- aX,ck]
theorem RE(h:i<l.length):iP (l.take (i+1))=BO (iP (l.take i)) l[i]:=by
 unfold iP;rw[bJ,ay h,cD,List.foldl_append];rfl
end
theorem RF{lg:aa}{a:Nat}{r:ju}{x:aa}(hr:r.ok)(h:lg.drop a=r.bytes++x):
  hU lg a false=(r.body,a+(jt r.body).length,false)/\ya lg (a+(jt r.body).length) false 4=(IntKind.i64.wrap (qH r.body),a+r.bytes.length,false):=by
 have hl:=ju.Dk hr;have h1:lg.drop a=jt r.body++(dN (IntKind.i64.wrap (qH r.body))++x):=by
  rw[h];unfold ju.bytes nw;rw[bB]
 refine⟨zg be h1,?_⟩;rw[RC (qK h1)];unfold ju.bytes nw;rw[ax,cC];rfl
theorem RG(s:aa)(a:Nat)(f:Bool):(hU s a f).1.length<=s.length:=by
 unfold hU qO;simp only;split
 . simp
 . simp only[bg,bX];omega
theorem RH(l:List ju)(x:aa)(hl:∀r∈l,r.ok)(Hq:lg=cZ l++x)(Bm:Stop lg (cZ l).length)(lW:lg.length<1000000000):
  cU ak 103 [.fn (.yield 13) [] [],.ptr (some (11,0))] (Oy cO cP b fl lf es rt lg 0 [] [] 0) 14 (.ew []) (Oy cO cP b fl lf es rt lg (iP l).nx (iP l).es (iP l).rt (Int.ofNat (cZ l).length)) 14:=by
 refine c7 Tryz.func103 (code:=aaJ) U U ?_;refine iL  1 uq (alY cO cP b fl lf es rt lg) cR ?_
 let S:Nat->St:=fun i=>Ph cO cP b fl lf es rt lg (iP (l.take i)).nx (iP (l.take i)).es (iP (l.take i)).rt (Int.ofNat (cZ (l.take i)).length) (cZ (l.take i)).length false
 have mF:∀i,i<=l.length->lg.drop (cZ (l.take i)).length=cZ (l.drop i)++x:=by
  intro i hi;have:lg=cZ (l.take i)++(cZ (l.drop i)++x):=by rw[Hq,tJ l i,bB]
  rw[this,List.drop_left'];rfl
 have kE:∀i,i<=l.length->(cZ (l.take i)).length+(cZ (l.drop i)).length+x.length=lg.length:=by
  intro i hi;have h1:=aM List.length (mF i hi);have h2:=aM List.length (tJ l i);rw[ax]at h2;rw[Hq,ax];omega
 refine jq 0 l.length S U U .refl (fun i hi=>?_) ?_
 . have iD:=hl _ (bY hi);have hp:=mF i be;have fF:=kE i be;rw[I0 hi]at hp fF;rw[bB]at hp;have Oz:=ow (r:=l[i]);obtain⟨q1,q2⟩:=RF iD hp;rw[ax]at fF;have hbo:=ju.Dk iD;have x8:(jt (l[i]).body).length<=(l[i]).bytes.length:=by unfold ju.bytes nw;rw[ax];omega
   refine cV U ?_;refine fZ uq (al0 cO cP b fl lf es rt lg (iP (l.take i)).nx (iP (l.take i)).es (iP (l.take i)).rt (Int.ofNat (cZ (l.take i)).length) (cZ (l.take i)).length) fun g hg hc=>?_;simp only[aE,aL,bu]at hg;have hw:IntKind.i64.wrap ((Int.ofNat lg.length)-Int.ofNat (cZ (l.take i)).length)=((lg.length-(cZ (l.take i)).length:Nat):Int):=by
    rw[show(Int.ofNat lg.length)-Int.ofNat (cZ (l.take i)).length=((lg.length-(cZ (l.take i)).length:Nat):Int)by rw[kU,kU];omega];exact lH be
   rcases hg with rfl|rfl
   case inr=>exact absurd (aK (hc _ (aq.2 rfl))) (by rw[hw];omega)
   refine⟨cR,fun s' dL=>c5 dL ?_⟩;refine fg (i:=1) U ?_;obtain⟨L3,wv⟩:=al1 cO cP b fl lf es rt lg (iP (l.take i)).nx (iP (l.take i)).es (iP (l.take i)).rt (Int.ofNat (cZ (l.take i)).length) (cZ (l.take i)).length;rw[q1]at wv;have q2':ya lg (l[i].body,(cZ (l.take i)).length+(jt (l[i]).body).length,false).2.1 (l[i].body,(cZ (l.take i)).length+(jt (l[i]).body).length,false).2.2 4=_:=q2;rw[q2']at wv;refine mA 2 uq mo U wv (fm ⟨az _,be⟩ (fm be (fm ⟨az _,by show(cZ (l.take i)).length+(jt (l[i]).body).length<=_;omega⟩ (fm be (eU ⟨dU,dU⟩))))) ?_;have PY:=Ve cO cP b fl lf es rt lg (iP (l.take i)).nx (iP (l.take i)).es (iP (l.take i)).rt (Int.ofNat (cZ (l.take i)).length) ((cZ (l.take i)).length+(l[i]).bytes.length) l[i] iD;refine fZ (CX.of mo po (MB (au U) PY GS) H0 1000 40) (al2 cO cP b fl lf es rt lg (iP (l.take i)).nx (iP (l.take i)).es (iP (l.take i)).rt (Int.ofNat (cZ (l.take i)).length) (l[i]).body (IntKind.i64.wrap (qH (l[i]).body)) ((cZ (l.take i)).length+(l[i]).bytes.length) (BO (iP (l.take i)) l[i]).nx (BO (iP (l.take i)) l[i]).es (BO (iP (l.take i)) l[i]).rt) (dG ?_);refine⟨fm be (fm (by simp) (eU ⟨rfl,rfl,rfl⟩)),fun s' dL=>?_⟩;show gC ak 14 Tryz.f103.ntmps s' (S (i+1));have e1:S (i+1)=Ph cO cP b fl lf es rt lg (BO (iP (l.take i)) l[i]).nx (BO (iP (l.take i)) l[i]).es (BO (iP (l.take i)) l[i]).rt (Int.ofNat ((cZ (l.take i)).length+(l[i]).bytes.length)) ((cZ (l.take i)).length+(l[i]).bytes.length) false:=by
    show Ph _ _ _ _ _ _ _ _ _ _ _ _ _ _=_;rw[RE hi,Ba hi,ax]
   rw[e1];exact .norm dL
 . have h1:S l.length=Ph cO cP b fl lf es rt lg (iP l).nx (iP l).es (iP l).rt (Int.ofNat (cZ l).length) (cZ l).length false:=by
    show Ph _ _ _ _ _ _ _ _ _ _ _ _ _ _=_;rw[aW]
   rw[h1];have h2:=kE l.length (aA _);rw[aW]at h2;generalize (cZ l).length=a at *;have x1:=U9 lg a false be;have x2:=RG lg a false;obtain⟨L6,Hr⟩:=al3 cO cP b fl lf es rt lg (iP l).nx (iP l).es (iP l).rt (Int.ofNat a) a;refine Rv 0 uq mo (fun v h n=>v= .ew []/\h=Oy cO cP b fl lf es rt lg (iP l).nx (iP l).es (iP l).rt (Int.ofNat a)/\n=14) U Hr (fun s' dL=>⟨by simp,by rw[dX];exact dL⟩) fun g hg hc=>?_;simp only[aE,aL,bu]at hg;have q1:(0:Int)<=Int.ofNat a/\a<=lg.length:=⟨az _,be⟩;have q2:lg.length<=1000000000:=by omega
   have q3:(0:Int)<=Int.ofNat (hU lg a false).2.1/\(Int.ofNat (hU lg a false).2.1).toNat<=lg.length:=⟨az _,x1⟩;have q4:(0:Int)<=(4:Int)/\4<=8:=⟨dU,dU⟩;have Lb:∀s',fG ak 14 Tryz.f103 (fun v h n=>v= .ew []/\h=Oy cO cP b fl lf es rt lg (iP l).nx (iP l).es (iP l).rt (Int.ofNat a)/\n=14) .ret s'->(Exit.ret≠ .normal/\mQ 0 (fG ak 14 Tryz.f103 (fun v h n=>v= .ew []/\h=Oy cO cP b fl lf es rt lg (iP l).nx (iP l).es (iP l).rt (Int.ofNat a)/\n=14)) .ret s'):=fun s' h=>⟨by simp,h⟩;have hw:IntKind.i64.wrap ((Int.ofNat lg.length)-Int.ofNat a)=((lg.length-a:Nat):Int):=by
    rw[show(Int.ofNat lg.length)-Int.ofNat a=((lg.length-a:Nat):Int)by rw[kU,kU];omega];exact lH be
   rcases hg with rfl|rfl|rfl
   . exact⟨fm q1 (fm q2 (fm q3 (fm q2 (fm q4 (eU trivial))))),⟨rfl,rfl,rfl⟩,Lb⟩
   . have c1:=aH (hc _ (aP ..));have c2:=hc _ (aJ _ (aq.2 rfl));have fN:(ya lg (hU lg a false).2.1 (hU lg a false).2.2 4).1≠IntKind.i64.wrap (qH (hU lg a false).1):=by
      rcases Bm with h|h|h
      . rw[hw]at c1;omega
      . have c2:(ya lg (hU lg a false).2.1 (hU lg a false).2.2 4).2.2=false:=c2;rw[h]at c2;cases c2
      . exact h
     exact⟨fm q1 (fm q2 (fm q3 (fm q2 (fm q4 (fm (Nat.lt_of_le_of_lt x2 lW) (eU (aM V.bool (bne_iff_ne.2 fN)))))))),⟨rfl,rfl,rfl⟩,Lb⟩
   . exact⟨cR,⟨rfl,rfl,rfl⟩,Lb⟩
end
section
variable(cO cP:Nat)(b:aa)(fl nx lf:Int)(es rt mK mX:ae)
def hRg(lw:V)(o4:af)(fl nx:Int):Tr O:=hL ([(0,.ints .u32 gS),(1,.ints .u32 gR),(3,.cells [lw,.int .i64 fl,.map (some 7),.map (some 8),.int .i64 nx,.bool false,.bool false,.int .i64 lf])]++o4++[(5,.dF none es),(6,.dF none rt),(7,.dF none mK),(8,.dF none mX)])
end
section
variable(cO cP:Nat)(b:aa)(fl lf:Int)(es rt:ae)(lg:aa)
theorem al4:c6 lX [(11,.dc (.str lg))] 7 Tryz.f57 [1,2,12] (dK (dK On)) (eF [(1,.ptr (some (9,0))),(2,.ptr (some (10,0)))] (hL (lRv cO cP b fl lf es rt 0 [] [] 0)) 11) [([],
   [(0+cO<=b.length),(V.str (List.take cO (List.drop 0 b))=V.str lg)],
   .to .normal (sRw cO cP b fl lf es rt lg))]
 :=cQ.of U U U
theorem al5(nx:Int)(mK mX:ae)(e:Nat):vt ak lX [] 1000 7 Tryz.f57 (ee On) (tD (sRw cO cP b fl lf es rt lg) (Oy cO cP b fl lf es rt lg nx mK mX (Int.ofNat e)) 14)
  [([],
   [((0:Int)<=Int.ofNat e/\Int.ofNat e<=(Int.ofNat cP))],
   .ret (.ew []) (hRg lf es rt mK mX (.dj (some (4,0)) e cP 1) [(4,.iU 5 false b)] (Int.ofNat e) nx) 9)]
 :=⟨U,U,U⟩
end
section
variable(fl nx lf:Int)(es rt:ae)
def lRn(fl nx:Int):af:=[(0,.ints .u32 gS),(1,.ints .u32 gR),(3,.cells [eI,.int .i64 fl,.map (some 7),.map (some 8),.int .i64 nx,.bool false,.bool false,.int .i64 lf]),(5,.dF none es),(6,.dF none rt),(7,.dF none []),(8,.dF none []),(9,.cells [P3]),(10,.cells [.int .i64 0])]
def sRn(fl:Int):St:=eF [(1,.ptr (some (9,0))),(2,.ptr (some (10,0)))] (hL (lRn lf es rt fl 0)) 11
end
theorem aft(fl nx lf:Int)(es rt:ae):c6 lX [] 7 Tryz.f57 [1,2] (eR 3 Rp) (cS [P3] (eu (pN fl nx lf es rt)) 7) [([],
   [],
   .to .normal (eF [(1,.ptr (some (9,0))),(2,.ptr (some (10,0)))] (hL [(0,.ints .u32 gS),(1,.ints .u32 gR),(3,.cells [eI,.int .i64 fl,.map (some 7),.map (some 8),.int .i64 0,.bool false,.bool false,.int .i64 lf]),(5,.dF none es),(6,.dF none rt),(7,.map [] 0),(8,.map [] 0),(9,.cells [P3]),(10,.cells [.int .i64 0])]) 11))]
 :=cQ.of U U U
theorem afu(fl lf:Int)(es rt:ae):vt ak lX [] 1000 7 Tryz.f57 (On) (sRn lf es rt fl)
  [([],
   [((0:Int)<=(0:Int)/\(0:Int)<=(0:Int))],
   .ret (.ew []) (hRg lf es rt [] [] eI [] 0 0) 9)]
 :=⟨U,U,U⟩
theorem MI(cO cP:Nat)(b:aa)(fl nx lf:Int)(es rt:ae)(l:List ju)(x:aa)(hb:cO<=b.length)(iD:∀r∈l,r.ok)(Hq:b.take cO=cZ l++x)(Bm:Stop (b.take cO) (cZ l).length)(hc:cO<=cP)(lW:cO<1000000000):
  cU ak 57 [P3] (eu (pS cO cP b fl nx lf es rt)) 7 (.ew []) (hRg lf es rt (iP l).es (iP l).rt (.dj (some (4,0)) (cZ l).length cP 1) [(4,.iU 5 false b)] (Int.ofNat (cZ l).length) (iP l).nx) 9:=by
 refine c7 Tryz.func57 (code:=Rp) U U ?_;refine iL  3 XT (aeT cO cP b fl nx lf es rt) cR ?_;refine Ak [(7,none),(8,none)] (s2:=eF [(1,.ptr (some (9,0))),(2,.ptr (some (10,0)))] (hL (lRv cO cP b fl lf es rt 0 [] [] 0)) 11) U ?_;show TG ak 7 Tryz.f57.ntmps On _ _;refine cV U ?_;refine cV U ?_;have Hp:(cZ l).length+x.length=cO:=by
  have:=aM List.length Hq;rw[bg,ax]at this;omega
 refine fZ uq (al4 cO cP b fl lf es rt (b.take cO)) (dG ?_);refine⟨fm be (eU rfl),fun s' dL=>c5 dL ?_⟩;refine fg (i:=0) U ?_;refine ou (gf:=103) (lb:=[.ptr (some (11,0))]) U U U U U (RH cO cP b fl lf es rt (b.take cO) l x iD Hq Bm (by rw[bg];omega)).one ?_;rintro v h n ⟨rfl,rfl,rfl⟩;refine⟨U,?_⟩;show TG ak 7 Tryz.f57.ntmps (ee On) (tD (sRw cO cP b fl lf es rt (b.take cO)) (Oy cO cP b fl lf es rt (b.take cO) (iP l).nx (iP l).es (iP l).rt (Int.ofNat (cZ l).length)) 14) _;refine rF uq mo _ U (al5 cO cP b fl lf es rt (b.take cO) (iP l).nx (iP l).es (iP l).rt (cZ l).length) (dG ?_);exact⟨eU ⟨az _,dh⟩,_,_,_,rfl,rfl,rfl,rfl⟩
theorem GW(fl nx lf:Int)(es rt:ae):cU ak 57 [P3] (eu (pN fl nx lf es rt)) 7 (.ew []) (hRg lf es rt [] [] eI [] 0 0) 9:=by
 refine c7 Tryz.func57 (code:=Rp) U U ?_;refine iL  3 uq (aft fl nx lf es rt) cR ?_;refine Ak [(7,none),(8,none)] (s2:=sRn lf es rt fl) U ?_;refine rF uq mo _ U (afu fl lf es rt) (dG ?_);exact⟨eU ⟨dU,dU⟩,_,_,_,rfl,rfl,rfl,rfl⟩
noncomputable abbrev Vf:Code:=dP Tryz.f77
noncomputable abbrev aaN:Code:=de 2 Vf
abbrev P8:V:=.ptr (some (8,0))
abbrev OA:V:=.ptr (some (10,0))
abbrev P11:V:=.ptr (some (11,0))
abbrev aV(x:aa):ag:=[.str x,P8,P11,OA]
abbrev f78:V:=.fn (.func 78) [] [.ptr (some (7,0))]
section
variable(cO cP:Nat)(b:aa)(fl nx lf:Int)(es rt:ae)
section
variable(sn:ae)
def lV:af:=eO (pS cO cP b fl nx lf es rt)++[(7,.cells [.map (some 6)]),(8,.cells [.map (some 9)]),(9,.dF none sn),(10,.cells [.fn (.func 77) [] [P8,P11,OA]]),(11,.cells [P3])]
def Vg:St:=eF [(5,P8),(6,OA),(10,f78)] (hL (lV cO cP b fl nx lf es rt [])) 12
noncomputable def lVx:af:=lV cO cP b fl nx lf es rt sn++[(12,.my),(13,.loop true none (Vg cO cP b fl nx lf es rt).fr [11] aap aaq)]
noncomputable def MJ:Tr O:=hL (lVx cO cP b fl nx lf es rt sn)
def lMv:af:=[(0,.ints .u32 gS),(1,.ints .u32 gR),(3,.cells (xK 4 5 6 (pS cO cP b fl nx lf es rt))),(4,.iU 5 false b),(5,.dF none es),(7,.cells [.map (some 6)]),(8,.cells [.map (some 9)]),(9,.dF none sn),(10,.cells [.fn (.func 77) [] [P8,P11,OA]]),(11,.cells [P3]),(12,.my)]
def mV:Tr O:=hL (lMv cO cP b fl nx lf es rt sn)
noncomputable def Ym:Tr O:=((MJ cO cP b fl nx lf es rt sn).set 6 none).set 13 none
def sVi(rs:List (aa))(i:Nat):St:=eF [(1,P8),(2,P11),(3,OA),(18,.dO false rs.length (strs rs)),(19,.int .i64 (Int.ofNat rs.length)),(20,.int .i64 (Int.ofNat i))] (mV cO cP b fl nx lf es rt sn) 15
end
end
section
variable(cO cP:Nat)(b:aa)(fl nx lf:Int)(es rt:ae)(x:aa)(sn:ae)(rs:List (aa))(i:Nat)
theorem al6:c6 lX [(9,.dc (.bool true))] 15 Tryz.f77 [] (Vf) (cS (aV x) (mV cO cP b fl nx lf es rt sn) 15) [([],
   [((if false=true then V.ew [D.ga (V.bool false) (di (D.str x) sn),V.bool (di (D.str x) sn).isSome]else D.ga (V.bool false) (di (D.str x) sn))=V.bool true)],
   .ret (.ew []) (mV cO cP b fl nx lf es rt sn) 15)]
 :=cQ.of U U U
theorem al7:c6 lX [(9,.dc (.bool false))] 15 Tryz.f77 [0,1,2,3] (eR 2 Vf) (cS (aV x) (mV cO cP b fl nx lf es rt sn) 15) [([],
   [((if false=true then V.ew [D.ga (V.bool false) (di (D.str x) sn),V.bool (di (D.str x) sn).isSome]else D.ga (V.bool false) (di (D.str x) sn))=V.bool false)],
   .to .normal (eF [(0,.str x),(1,P8),(2,P11),(3,OA)] (mV cO cP b fl nx lf es rt (ic (.str x) (.bool true) sn)) 15))]
 :=cQ.of U U U
theorem al8(d:aa)(rs:List (aa))(k:Int):c6 lX [(17,.dc (ot d rs k)),(20,.dc (.int .i64 (Int.ofNat 0)))] 15 Tryz.f77 [1,2,3,18,19,20] (dK aaN) (eF [(0,.str x),(1,P8),(2,P11),(3,OA)] (mV cO cP b fl nx lf es rt sn) 15) [([],
   [((if false=true then V.ew [D.ga (V.agg [V.str ([]:aa),V.dj none 0 0 0,V.int aj (0:Int)]) (di (D.str x) es),V.bool (di (D.str x) es).isSome]else D.ga (V.agg [V.str ([]:aa),V.dj none 0 0 0,V.int aj (0:Int)]) (di (D.str x) es))=ot d rs k),(V.int aj (0:Int)=V.int aj (0:Int))],
   .to .normal (eF [(1,.ptr (some (8,0))),(2,.ptr (some (11,0))),(3,.ptr (some (10,0))),(18,.dO false (rs.length) (strs rs)),(19,.int .i64 ((Int.ofNat rs.length))),(20,.int .i64 0)] (hL [(0,.ints .u32 gS),(1,.ints .u32 gR),(3,.cells [.dj (some (4,0)) cO cP 1,.int .i64 fl,.map (some 5),.map (some 6),.int .i64 nx,.bool false,.bool false,.int .i64 lf]),(4,.iU 5 false b),(5,.dF none es),(7,.cells [.map (some 6)]),(8,.cells [.map (some 9)]),(9,.dF none sn),(10,.cells [.fn (.func 77) [] [.ptr (some (8,0)),.ptr (some (11,0)),.ptr (some (10,0))]]),(11,.cells [.ptr (some (3,0))]),(12,.my)]) 15))]
 :=cQ.of U U U
theorem al9(sn2:ae)(rs:List (aa))(i:Nat)(p:aa):c6 (fD lX 77 (aV p) (mV cO cP b fl nx lf es rt sn) 15 (.ew [],mV cO cP b fl nx lf es rt sn2,15)) [(21,.split),(22,.dc (.dm [.str p])),(27,.dc (.int .i64 (Int.ofNat (i+1))))] 15 Tryz.f77 [1,2,3,18,19,20] (dw (dw (ee aaN))) (sVi cO cP b fl nx lf es rt sn rs i) [([((decide (Int.ofNat i<Int.ofNat rs.length)),true)],
   [((0:Int)<=Int.ofNat i/\Int.ofNat i<(Int.ofNat rs.length)),((strs rs).length=rs.length*1),(V.dm (dx (strs rs) (i*1) 1)=V.dm [D.str p]),(aV p=aV p/\mV cO cP b fl nx lf es rt sn=mV cO cP b fl nx lf es rt sn/\15=15),kT (Int.ofNat i+(1:Int)) (i+1)],
   .to .normal (sVi cO cP b fl nx lf es rt sn2 rs (i+1))),
  ([((decide (Int.ofNat i<Int.ofNat rs.length)),false)],
   [],
   .to (.exit 0) (sVi cO cP b fl nx lf es rt sn rs i))]
 :=cQ.of U U U
theorem ama:∃L,zb ak lX [(21,.dc (.bool false))] 1000 15 Tryz.f77 [1,2,3,18,19,20] 0 (dw (dw (ee aaN))) (sVi cO cP b fl nx lf es rt sn rs i) L
  [([],
   [(V.bool (decide (Int.ofNat i<Int.ofNat rs.length))=V.bool false)],
   .ret (.ew []) (mV cO cP b fl nx lf es rt sn) 15)]
 :=zb.of U U U
end
def nM(ks:List (aa)):ae:=ks.map fun k=>(.str k,.bool true)
theorem zh(x:aa):∀ks:List (aa),di (.str x) (nM ks)=if x∈ks then some (.bool true)else none
 | []=>rfl
 |k::ks=>by
  have ih:=zh x ks;unfold nM at ih ⊢;rw[bN,gm,ih];by_cases h:k=x
  . subst h;simp
  . have h1:¬(D.str k=D.str x):=fun e=>h (by cases e;rfl);have h2:¬x=k:=fun e=>h e.symm;simp only[h1,cG,aE,h2,false_or]
theorem Vh{x:aa}{ks:List (aa)}(h:x∉ks):ic (.str x) (.bool true) (nM ks)=nM (ks++[x]):=by
 rw[vu _ (by rw[zh,aI h])];unfold nM;rw[aX];rfl
def pF(es:ae)(x:aa):List (aa):=match di (.str x) es with
 |some (.agg [_,.dO _ cs,_])=>dH cs
 |_=>[]
theorem Fo{es:ae}{x d:aa}{rs:List (aa)}{k:Int}(h:di (.str x) es=some (pW d rs k)):pF es x=rs:=by
 unfold pF;rw[h];exact ik rs
def lY(es:ae):Nat->aa->List (aa)->List (aa)
 |0,_,ks=>ks
 |k+1,x,ks=>if x∈ks then ks else(pF es x).foldl (fun a r=>lY es k r a) (ks++[x])
def Ends(es:ae):Nat->aa->Prop
 |0,_=>False
 |k+1,x=>Ek es x/\(pF es x).length<=1000000/\∀r∈pF es x,Ends es k r
section
variable(cO cP:Nat)(b:aa)(fl nx lf:Int)(es rt:ae)
section
variable{x:aa}{ks:List (aa)}
theorem Fp(h:x∈ks):(if false=true then V.ew [D.ga (V.bool false) (di (D.str x) (nM ks)),V.bool (di (D.str x) (nM ks)).isSome]else D.ga (V.bool false) (di (D.str x) (nM ks)))=V.bool true:=by
 rw[zh,aG h];rfl
theorem Dl(h:x∉ks):(if false=true then V.ew [D.ga (V.bool false) (di (D.str x) (nM ks)),V.bool (di (D.str x) (nM ks)).isSome]else D.ga (V.bool false) (di (D.str x) (nM ks)))=V.bool false:=by
 rw[zh,aI h];rfl
theorem vx{d:aa}{rs:List (aa)}{k:Int}(h:di (.str x) es=some (pW d rs k)):(if false=true then V.ew [D.ga (V.agg [V.str ([]:aa),V.dj none 0 0 0,V.int aj (0:Int)]) (di (D.str x) es),V.bool (di (D.str x) es).isSome]else D.ga (V.agg [V.str ([]:aa),V.dj none 0 0 0,V.int aj (0:Int)]) (di (D.str x) es))=ot d rs k:=by
 rw[h];rfl
end
theorem afw:77<Tryz.prog.funcs.size:=au U
theorem RJ:∀(k:Nat) (x:aa) (ks:List (aa)),Ends es k x->cU ak 77 (aV x) (mV cO cP b fl nx lf es rt (nM ks)) 15 (.ew []) (mV cO cP b fl nx lf es rt (nM (lY es k x ks))) 15
 |0,_,_,h=>h.elim
 |k+1,x,ks,h=>by
  obtain⟨⟨d,rs,n,he⟩,hn,hr⟩:=h;refine c7 Tryz.func77 (code:=Vf) U U ?_;unfold lY;by_cases hx:x∈ks
  . rw[aG hx];refine fB uq (al6 cO cP b fl nx lf es rt x (nM ks)) (dG ?_);exact⟨eU (Fp hx),_,_,_,rfl,rfl,rfl,rfl⟩
  . rw[aI hx];refine iL  2 uq (al7 cO cP b fl nx lf es rt x (nM ks)) (eU (Dl hx)) ?_;rw[Vh hx];rw[Fo he]at hn hr ⊢;refine cV U ?_;refine fZ uq (al8 cO cP b fl nx lf es rt x (nM (ks++[x])) d rs n) (dG ?_);refine⟨fm (vx es he) (eU rfl),fun s' dL=>?_⟩;have dL:e9 15 [1,2,3,18,19,20] s'=some (sVi cO cP b fl nx lf es rt (nM ((rs.take 0).foldl (fun a r=>lY es k r a) (ks++[x]))) rs 0):=dL;refine jq 0 rs.length (fun i=>sVi cO cP b fl nx lf es rt (nM ((rs.take i).foldl (fun a r=>lY es k r a) (ks++[x]))) rs i) U U (.norm dL) (fun i hi=>?_) ?_
    . have hc:=RJ k rs[i] ((rs.take i).foldl (fun a r=>lY es k r a) (ks++[x])) (hr _ (bY hi));generalize hK:(rs.take i).foldl (fun a r=>lY es k r a) (ks++[x])=K at hc;have pG:(rs.take (i+1)).foldl (fun a r=>lY es k r a) (ks++[x])=lY es k rs[i] K:=by
       rw[bJ,ay hi,cD,List.foldl_append,hK];rfl
      obtain⟨L3,wv⟩:=al9 cO cP b fl nx lf es rt (nM K) (nM (lY es k rs[i] K)) rs i rs[i];simp only[pG,hK];refine gh (uq.jy afw hc) mo kS U wv fun g hg hc=>?_;rcases jk hg with rfl|rfl
      . exact⟨fm ⟨az _,dh⟩ (fm (by rw[eJ,bk]) (fm (aM V.dm (fI (ay hi))) (fm ⟨rfl,rfl,rfl⟩ (eU (fE dh be))))),fun s' dL=>.norm dL⟩
      . exact absurd (aK (hc _ (aq.2 rfl))) dh
    . obtain⟨L3,wv⟩:=ama cO cP b fl nx lf es rt (nM ((rs.take rs.length).foldl (fun a r=>lY es k r a) (ks++[x]))) rs rs.length;refine Rv 0 uq mo (fun v h n=>v= .ew []/\h=mV cO cP b fl nx lf es rt (nM (rs.foldl (fun a r=>lY es k r a) (ks++[x])))/\n=15) U wv (fun s' dL=>⟨by simp,by rw[dX];exact dL⟩) (dG ?_);exact⟨eU (aM V.bool (bD be)),⟨rfl,by rw[aW],rfl⟩,fun s' dL=>⟨by simp,dL⟩⟩
end
def lI(es:ae)(k:Nat)(ds:List (aa)):List (aa):=ds.foldl (fun a d=>lY es k d a) []
inductive Yn(es:ae):aa->aa->Prop where
 |self (x):Yn es x x
 |step (x y z):y∈pF es x->Yn es y z->Yn es x z
variable{es:ae}
def Grow(es:ae)(ks S:List (aa)):Prop:=(∀y∈ks,y∈S)/\(∀y∈S,y∉ks->∀r∈pF es y,r∈S)/\(ks.Nodup->S.Nodup)
theorem Grow.refl(ks:List (aa)):Grow es ks ks:=⟨fun _ h=>h,fun _ h1 h2=>absurd h1 h2,id⟩
theorem Grow.trans{a b c:List (aa)}(h1:Grow es a b)(h2:Grow es b c):Grow es a c:=
 ⟨fun y h=>h2.1 y (h1.1 y h),fun y hy hn r hr=>by
  by_cases hb:y∈b
  . exact h2.1 r (h1.2.1 y hb hn r hr)
  . exact h2.2.1 y hy hb r hr,fun h=>h2.2.2 (h1.2.2 h)⟩
theorem wz{f:List (aa)->aa->List (aa)}:∀(l:List (aa)) (ks:List (aa)),(∀r∈l,∀a,Grow es a (f a r)/\r∈f a r)->Grow es ks (l.foldl f ks)/\∀r∈l,r∈l.foldl f ks
 | [],ks,_=>⟨.refl ks,fun _ h=>by cases h⟩
 |x::l,ks,h=>by
  obtain⟨g1,g2⟩:=h x (by simp) ks;obtain⟨g3,g4⟩:=wz l (f ks x) fun r hr=>h r (by simp[hr]);refine⟨g1.trans g3,fun r hr=>?_⟩;rcases aE.1 hr with rfl|hr
  . exact g3.1 _ g2
  . exact g4 r hr
theorem Dm:∀(k:Nat) (x:aa) (ks:List (aa)),Ends es k x->Grow es ks (lY es k x ks)/\x∈lY es k x ks
 |0,_,_,h=>h.elim
 |k+1,x,ks,h=>by
  unfold lY;split
  . rename_i hx;exact⟨.refl ks,hx⟩
  . rename_i hx;obtain⟨g1,g2⟩:=wz (es:=es) (f:=fun a r=>lY es k r a) (pF es x) (ks++[x]) fun r hr a=>Dm k r a (h.2.2 r hr);have Pc:=g1.1 x (by simp);refine⟨⟨fun y hy=>g1.1 y (by simp[hy]),fun y hy hn r hr=>?_,fun hn=>g1.2.2 ?_⟩,Pc⟩
    . by_cases e:y=x
      . subst e;exact g2 r hr
      . exact g1.2.1 y hy (by simp[hn,e]) r hr
    . exact List.nodup_append.2 ⟨hn,by simp,fun a ha b hb=>by rw[aq]at hb;subst hb;intro e;subst e;exact hx ha⟩
theorem xQ{f:List (aa)->aa->List (aa)}{P:aa->Prop}:∀(l:List (aa)) (ks:List (aa)),(∀r∈l,∀a,∀y∈f a r,y∈a\/P y)->∀y∈l.foldl f ks,y∈ks\/P y
 | [],_,_,y,hy=>.inl hy
 |x::l,ks,h,y,hy=>by
  rcases xQ l (f ks x) (fun r hr=>h r (by simp[hr])) y hy with h1|h1
  . exact h x (by simp) ks y h1
  . exact .inr h1
theorem Fq:∀(k:Nat) (x:aa) (ks:List (aa)),∀y∈lY es k x ks,y∈ks\/Yn es x y
 |0,_,_,_,h=>.inl h
 |k+1,x,ks,y,h=>by
  unfold lY at h;split at h
  . exact .inl h
  . rcases xQ (P:=Yn es x) (pF es x) (ks++[x]) (fun r hr a z hz=>(Fq k r a z hz).imp id fun q=>.step x r z hr q) y h with h1|h1
    . rcases aT.1 h1 with h2|h2
      . exact .inl h2
      . rw[aq]at h2;subst h2;exact .inr (.self _)
    . exact .inr h1
theorem GX{S:List (aa)}(hS:∀y∈S,∀r∈pF es y,r∈S){x y:aa}(h:Yn es x y):x∈S->y∈S:=by
 induction h with
 |self x=>exact id
 |step x y z hr _ ih=>exact fun hx=>ih (hS x hx y hr)
section
variable{k:Nat}{ds:List (aa)}
theorem Dn(he:∀d∈ds,Ends es k d)(y:aa):y∈lI es k ds↔∃d∈ds,Yn es d y:=by
 obtain⟨g1,g2⟩:=wz (es:=es) (f:=fun a d=>lY es k d a) ds [] fun r hr a=>Dm k r a (he r hr);constructor
 . intro h;rcases xQ (P:=fun y=>∃d∈ds,Yn es d y) ds [] (fun r hr a z hz=>(Fq k r a z hz).imp id fun q=>⟨r,hr,q⟩) y h with h1|h1
   . cases h1
   . exact h1
 . rintro⟨d,hd,hr⟩;exact GX (fun y hy r hr=>g1.2.1 y hy (by simp) r hr) hr (g2 d hd)
theorem zi(he:∀d∈ds,Ends es k d):(lI es k ds).Nodup:=
 (wz (es:=es) (f:=fun a d=>lY es k d a) ds [] fun r hr a=>Dm k r a (he r hr)).1.2.2 List.nodup_nil
theorem I1{a b:List (aa)}(hp:List.Perm a b)(he:∀d∈b,Ends es k d):List.Perm (lI es k a) (lI es k b):=by
 have ha:∀d∈a,Ends es k d:=fun d h=>he d (hp.mem_iff.1 h);refine(List.perm_ext_iff_of_nodup (zi ha) (zi he)).2 fun y=>?_;rw[Dn ha,Dn he];exact⟨fun⟨d,h,r⟩=>⟨d,hp.mem_iff.1 h,r⟩,fun⟨d,h,r⟩=>⟨d,hp.mem_iff.2 h,r⟩⟩
end
section
variable(cO cP:Nat)(b:aa)(fl nx lf:Int)(es rt:ae)
section
variable(sn:ae)
noncomputable def RK:St:=eF [(0,.fn (.yield 13) [] []),(6,.ptr (some (14,0)))] ((MJ cO cP b fl nx lf es rt sn).set 6 none) 15
noncomputable def s4x(kn d:aa):St:={ RK cO cP b fl nx lf es rt sn with fr:=(((((RK cO cP b fl nx lf es rt sn).fr.set 7 (some (.ew [.bool true,.str kn,.str d]))).set 8 (some (.bool true))).set 9 (some (.ew [.str kn,.str d]))).set 10 (some (.str d))).set 4 (some (.str d)) }
def lR7:af:=eO (pS cO cP b fl nx lf es rt)++[(7,.cells [.map (some 6)])]
def hRx:Tr O:=hL (lR7 cO cP b fl nx lf es rt++[(8,.dF none sn)])
end
end
noncomputable abbrev amc(args:ag)(h:Tr O)(n:Nat)(v:V)(h1:Tr O)(n1:Nat):fb:=gI ak (U2 77 args h n v h1 n1 W19) H0 1000 40
section
variable(cO cP:Nat)(b:aa)(fl nx lf:Int)
theorem amd(es rt:ae)(sn sn2:ae)(kn d:aa):c6 (amc (aV d) (Ym cO cP b fl nx lf es rt sn) 15 (.ew []) (Ym cO cP b fl nx lf es rt sn2) 15) [] 15 Tryz.f78 [0,6] ((sq GJ).rest) (s4x cO cP b fl nx lf es rt sn kn d) [([],
   [(aV d=aV d/\Ym cO cP b fl nx lf es rt sn=Ym cO cP b fl nx lf es rt sn/\15=15)],
   .to .normal (RK cO cP b fl nx lf es rt sn2))]
 :=cQ.of U U U
theorem ame(es rt:ae):c6 lX [] 8 Tryz.f51 [1,5,6] (eR 4 Rj) (cS [P3,f78] (hL (lR7 cO cP b fl nx lf es rt)) 8) [([],
   [],
   .to .normal (eF [(1,.fn (.func 78) [] [.ptr (some (7,0))]),(5,.ptr (some (8,0))),(6,.ptr (some (10,0)))] (hL (eO (pS cO cP b fl nx lf es rt)++[(7,.cells [.map (some 6)]),(8,.cells [.map (some 9)]),(9,.map [] 0),(10,.cells [.fn (.func 77) [] [.ptr (some (8,0)),.ptr (some (11,0)),.ptr (some (10,0))]]),(11,.cells [.ptr (some (3,0))])])) 12))]
 :=cQ.of U U U
theorem amf(es rt:ae):c6 lX [] 8 Tryz.f51 [5,6,10] (dK (dK GI)) (eF [(1,f78),(5,P8),(6,OA)] (hL (lV cO cP b fl nx lf es rt [])) 12) [([],
   [],
   .to .normal (Vg cO cP b fl nx lf es rt))]
 :=cQ.of U U U
theorem amg(es rt sn:ae):vt ak lX [] 1000 8 Tryz.f51 (ee GI) (tD (Vg cO cP b fl nx lf es rt) (MJ cO cP b fl nx lf es rt sn) 14)
  [([],
   [],
   .ret (.map (some 8)) (hRx cO cP b fl nx lf es rt sn) 9)]
 :=⟨U,U,U⟩
end
def D2(rt:ae):Prop:=∀e∈rt,∃n d,e=(.str n,.str d)
def iH(rt:ae):List (aa):=rt.map fun e=>D.ZN e.2
section
variable(cO cP:Nat)(b:aa)(fl nx lf:Int)(es rt:ae)
theorem MK(sn:ae):∀k,(Ym cO cP b fl nx lf es rt sn).get k=(mV cO cP b fl nx lf es rt sn).get k:=by
 have key:∀k,k<15->(Ym cO cP b fl nx lf es rt sn).get k=(mV cO cP b fl nx lf es rt sn).get k:=by
  intro k hk;rcases(by omega:k=0\/k=1\/k=2\/k=3\/k=4\/k=5\/k=6\/k=7\/k=8\/k=9\/k=10\/k=11\/k=12\/k=13\/k=14)with rfl|rfl|rfl|rfl|rfl|rfl|rfl|rfl|rfl|rfl|rfl|rfl|rfl|rfl|rfl<;>kernel_rfl
 exact U3 (l:=lVx cO cP b fl nx lf es rt sn) (l0:=lMv cO cP b fl nx lf es rt sn) (a:=6) (b:=13) (N:=15) U U dU dU dU key
section
variable(k:Nat)
theorem Vi(x:aa)(ks:List (aa))(h:Ends es k x):cU ak 77 (aV x) (Ym cO cP b fl nx lf es rt (nM ks)) 15 (.ew []) (Ym cO cP b fl nx lf es rt (nM (lY es k x ks))) 15:=
 cU.ext (MK cO cP b fl nx lf es rt _) (MK cO cP b fl nx lf es rt _) (RJ cO cP b fl nx lf es rt k x ks h)
abbrev RVx(v:V)(h:Tr O)(n:Nat):Prop:=∃iB,List.Perm iB rt/\v= .ew []/\h=MJ cO cP b fl nx lf es rt (nM (lI es k (iH iB)))/\n=14
theorem Vj(JL:D2 rt)(he:∀d∈iH rt,Ends es k d):fQ ak 78 [.fn (.yield 13) [] [],.ptr (some (7,0))] (MJ cO cP b fl nx lf es rt (nM [])) 14 (RVx cO cP b fl nx lf es rt k):=by
 refine gG mo po Tryz.func78 (code:=GJ) U U ?_;rw[aeE];refine y9 (v0:=.map (some 6)) (ko:=(cS [.fn (.yield 13) [] [],.ptr (some (7,0))] (MJ cO cP b fl nx lf es rt (nM [])) 14).fr.set 5 (some (.map (some 6)))) (zO:=((cS [.fn (.yield 13) [] [],.ptr (some (7,0))] (MJ cO cP b fl nx lf es rt (nM [])) 14).fr.set 5 (some (.map (some 6)))).set 6 (some (.ptr (some (14,0))))) (m:=6) (kd:=none) (es:=rt) mo Mu
  U U U U (au rfl) U (fun iB s1=>e9 15 [0,6] s1=some (RK cO cP b fl nx lf es rt (nM (lI es k (iH iB))))) U ?_
 rintro iB left s1 hs hp;refine⟨[0,6],_,hs,U,fun hl=>?_,fun e ku he2=>?_⟩
 . subst hl;rw[cu]at hp;refine⟨(RK cO cP b fl nx lf es rt (nM (lI es k (iH iB)))).fr.set 7 (some (.ew [.bool false])),{ RK cO cP b fl nx lf es rt (nM (lI es k (iH iB)))with fr:=((RK cO cP b fl nx lf es rt (nM (lI es k (iH iB)))).fr.set 7 (some (.ew [.bool false]))).set 8 (some (.bool false)) },U,U,U,.inl rfl,.ew [],MJ cO cP b fl nx lf es rt (nM (lI es k (iH iB))),14,U,iB,hp,rfl,rfl,rfl⟩
 . have xA:e∈rt:=hp.mem_iff.1 (bZ _ (he2.mem_iff.2 (by simp)));obtain⟨kn,d,rfl⟩:=JL e xA;have hd:Ends es k d:=he d (bj.2 ⟨_,xA,rfl⟩);have pG:lI es k (iH (iB++[(.str kn,.str d)]))=lY es k d (lI es k (iH iB)):=by
    unfold lI iH;rw[aX,List.foldl_append];rfl
   rw[pG];generalize lI es k (iH iB)=ks at *;refine⟨(RK cO cP b fl nx lf es rt (nM ks)).fr.set 7 (some (.ew [.bool true,.str kn,.str d])),{ RK cO cP b fl nx lf es rt (nM ks)with fr:=((RK cO cP b fl nx lf es rt (nM ks)).fr.set 7 (some (.ew [.bool true,.str kn,.str d]))).set 8 (some (.bool true)) },
    (((RK cO cP b fl nx lf es rt (nM ks)).fr.set 7 (some (.ew [.bool true,.str kn,.str d]))).set 8 (some (.bool true))).set 9 (some (.ew [.str kn,.str d])),s4x cO cP b fl nx lf es rt (nM ks) kn d,U,U,U,U,U,U,U,U,?_⟩
   refine fZ (CX.of mo po (MB afw (Vi cO cP b fl nx lf es rt k d ks hd) GS) H0 1000 40) (amd cO cP b fl nx lf es rt (nM ks) (nM (lY es k d ks)) kn d) (dG ?_);exact⟨eU ⟨rfl,rfl,rfl⟩,fun s' dL=>dL⟩
def pX(es rt:ae)(k:Nat):List (aa):=lI es k (iH rt)
theorem ML(JL:D2 rt)(he:∀d∈iH rt,Ends es k d):cU ak 51 [P3,f78] (hL (lR7 cO cP b fl nx lf es rt)) 8 (.map (some 8)) (hRx cO cP b fl nx lf es rt (nM (pX es rt k))) 9:=by
 refine c7 Tryz.func51 (code:=Rj) U U ?_;refine iL  4 uq (ame cO cP b fl nx lf es rt) cR ?_;refine Ak [(9,none)] (s2:=eF [(1,f78),(5,P8),(6,OA)] (hL (lV cO cP b fl nx lf es rt [])) 12) U ?_;show TG ak 8 Tryz.f51.ntmps GI _ _;refine cV U ?_;refine cV U ?_;refine fZ uq (amf cO cP b fl nx lf es rt) (dG ?_);refine⟨cR,fun s' dL=>c5 dL ?_⟩;refine fg (i:=0) U ?_;refine ou (gf:=78) (lb:=[.ptr (some (7,0))]) U U U U U (Vj cO cP b fl nx lf es rt k JL he) ?_;rintro v h n ⟨iB,hp,rfl,rfl,rfl⟩;have Fi:List.Perm (nM (lI es k (iH iB))) (nM (pX es rt k)):=(I1 (hp.map _) he).map _;generalize nM (lI es k (iH iB))=sn at Fi ⊢;generalize nM (pX es rt k)=sn0 at Fi ⊢;refine⟨U,?_⟩;show TG ak 8 Tryz.f51.ntmps (ee GI) (tD (Vg cO cP b fl nx lf es rt) (MJ cO cP b fl nx lf es rt sn) 14) _;have hg:(tD (Vg cO cP b fl nx lf es rt) (MJ cO cP b fl nx lf es rt sn) 14).h.get 9=some (.dF none sn):=by kernel_rfl
 refine Ky (h2:=(tD (Vg cO cP b fl nx lf es rt) (MJ cO cP b fl nx lf es rt sn) 14).h.set 9 (some (.dF none sn0))) (fun E w g=>si dU hg rfl (fun b s _ r=>N6 Fi r) g) ?_;have e:({ tD (Vg cO cP b fl nx lf es rt) (MJ cO cP b fl nx lf es rt sn) 14 with h:=(tD (Vg cO cP b fl nx lf es rt) (MJ cO cP b fl nx lf es rt sn) 14).h.set 9 (some (.dF none sn0)) }:St)=tD (Vg cO cP b fl nx lf es rt) (MJ cO cP b fl nx lf es rt sn0) 14:=by kernel_rfl
 rw[e];refine rF uq mo _ U (amg cO cP b fl nx lf es rt sn0) (dG ?_);exact⟨cR,_,_,_,rfl,rfl,rfl,rfl⟩
end
end
noncomputable abbrev afy:Code:=dP Tryz.f17
noncomputable abbrev Vk:Code:=dP Tryz.f66
section
variable(cO cP:Nat)(b:aa)(fl nx lf:Int)
theorem amh(es rt sn:ae)(d:aa)(c:Bool):c6 (fD lX 51 [P3,f78] (hL (lR7 cO cP b fl nx lf es rt)) 8 (.map (some 8),hRx cO cP b fl nx lf es rt sn,9)) [(17,.dc (.bool c))] 7 Tryz.f17 [] (afy) (cS [P3,.str d] (eu (pS cO cP b fl nx lf es rt)) 7) [([],
   [([P3,f78]=[P3,f78]/\hL (lR7 cO cP b fl nx lf es rt)=hL (lR7 cO cP b fl nx lf es rt)/\8=8),((if false=true then V.ew [D.ga (V.bool false) (di (D.str d) sn),V.bool (di (D.str d) sn).isSome]else D.ga (V.bool false) (di (D.str d) sn))=V.bool c)],
   .ret (.bool c) (eu (pS cO cP b fl nx lf es rt)) 7)]
 :=cQ.of U U U
theorem ami(es rt:ae):c6 lX [] 7 Tryz.f66 [] (Vk) (cS [P3] (eu (pS cO cP b fl nx lf es rt)) 7) [([],
   [],
   .ret (.int .i64 0) (eu (pS cO cP b (Int.ofNat cO) nx lf es rt)) 7)]
 :=cQ.of U U U
end
theorem amj(fl nx lf:Int)(es rt:ae):c6 lX [] 7 Tryz.f66 [] (Vk) (cS [P3] (eu (pN fl nx lf es rt)) 7) [([],
   [],
   .ret (.int .i64 0) (eu (pN 0 nx lf es rt)) 7)]
 :=cQ.of U U U
noncomputable abbrev wH:Code:=dP Tryz.f16
section
variable(n:aa)(l:List (Nat×List (Nat×o8)))(rK:aa)(cO cP:Nat)(b:aa)(fl nx lf:Int)
noncomputable abbrev Yo:fb:=gI ak W16 (sk l) 1000 40
noncomputable abbrev XU:CX ak:=CX.of mo po GL (sk l) 1000 40
def hRn(d0:aa)(jB:List (aa))(k:Int):List (Nat×List (Nat×o8)):=[(18,[(15,.dc (.ew [ot d0 jB k,.bool true]))]),(46,[(13,.dc (.bool false))]),(50,[(7,.dc (.bool false))])]
def hRt(ex b1 b2 b3 b4 b5 b6:Bool):List (Nat×o8):=[(18,.dc (.ew [.str rK,.bool ex])),(23,.dc (.bool b1)),(27,.dc (.bool b2)),(31,.dc (.bool b3)),(36,.dc (.bool b4)),(40,.dc (.bool b3)),(51,.dc (.bool b5)),(56,.dc (.bool b6))]
theorem RL(d rK:aa)(ex:Bool)(cO cP:Nat)(b:aa)(fl nx lf:Int)(es rt:ae):c6 (Yo [(18,[(15,.dc (.ew [Bv,.bool false]))])]) (hRt rK ex false false true true false false) 7 Tryz.f16 [] (wH) (cS [P3,.str n,.str d] (eu (pS cO cP b fl nx lf es rt)) 7) [([],
   [((if true=true then V.ew [D.ga (V.str ([]:aa)) (di (D.str n) rt),V.bool (di (D.str n) rt).isSome]else D.ga (V.str ([]:aa)) (di (D.str n) rt))=V.ew [V.str rK,V.bool ex]),(V.bool (eG n ([]:aa))=V.bool false),(V.bool (decide ((Int.ofNat n.length)>(64:Int)))=V.bool false),((V.bool !eG d ([]:aa))=V.bool true),((if true=true then V.ew [D.ga (V.agg [V.str ([]:aa),V.dj none 0 0 0,V.int aj (0:Int)]) (di (D.str d) es),V.bool (di (D.str d) es).isSome]else D.ga (V.agg [V.str ([]:aa),V.dj none 0 0 0,V.int aj (0:Int)]) (di (D.str d) es))=V.ew [Bv,V.bool false]),((V.bool !false)=V.bool true)],
   .ret (.int .i64 62) (eu (pS cO cP b fl nx lf es rt)) 7)]
 :=cQ.of U U U
theorem Vl(d d0:aa)(jB:List (aa))(k:Int)(cO cP:Nat)(b:aa)(fl nx lf:Int)(es rt:ae):c6 (Yo (Oh d0 jB k)) (hRt d true false false true false false true) 7 Tryz.f16 [] (wH) (cS [P3,.str n,.str d] (eu (pS cO cP b fl nx lf es rt)) 7) [([],
   [((if true=true then V.ew [D.ga (V.str ([]:aa)) (di (D.str n) rt),V.bool (di (D.str n) rt).isSome]else D.ga (V.str ([]:aa)) (di (D.str n) rt))=V.ew [V.str d,V.bool true]),(V.bool (eG n ([]:aa))=V.bool false),(V.bool (decide ((Int.ofNat n.length)>(64:Int)))=V.bool false),((V.bool !eG d ([]:aa))=V.bool true),((if true=true then V.ew [D.ga (V.agg [V.str ([]:aa),V.dj none 0 0 0,V.int aj (0:Int)]) (di (D.str d) es),V.bool (di (D.str d) es).isSome]else D.ga (V.agg [V.str ([]:aa),V.dj none 0 0 0,V.int aj (0:Int)]) (di (D.str d) es))=V.ew [ot d0 jB k,V.bool true]),((V.bool !true)=V.bool false),((V.bool !eG d ([]:aa))=V.bool true),(V.bool (eG d d)=V.bool true)],
   .ret (.int .i64 0) (eu (pS cO cP b fl nx lf es rt)) 7)]
 :=cQ.of U U U
theorem Vm(es rt:ae):c6 (Yo []) (hRt [] false false false false false false true) 7 Tryz.f16 [] (wH) (cS [P3,.str n,.str []] (eu (pS cO cP b fl nx lf es rt)) 7) [([],
   [((if true=true then V.ew [D.ga (V.str ([]:aa)) (di (D.str n) rt),V.bool (di (D.str n) rt).isSome]else D.ga (V.str ([]:aa)) (di (D.str n) rt))=V.ew [V.str [],V.bool false]),(V.bool (eG n ([]:aa))=V.bool false),(V.bool (decide ((Int.ofNat n.length)>(64:Int)))=V.bool false),((V.bool !eG [] ([]:aa))=V.bool false),((V.bool !eG [] ([]:aa))=V.bool false),(V.bool (eG [] [])=V.bool true)],
   .ret (.int .i64 0) (eu (pS cO cP b fl nx lf es rt)) 7)]
 :=cQ.of U U U
theorem aaP(d d0:aa)(jB:List (aa))(k:Int)(cO cP:Nat)(b:aa)(fl nx lf:Int)(es rt:ae):c6 (Yo (hRn d0 jB k)) (hRt [] false false false true false false false) 7 Tryz.f16 [] (wH) (cS [P3,.str n,.str d] (eu (pS cO cP b fl nx lf es rt)) 7) [([],
   [((if true=true then V.ew [D.ga (V.str ([]:aa)) (di (D.str n) rt),V.bool (di (D.str n) rt).isSome]else D.ga (V.str ([]:aa)) (di (D.str n) rt))=V.ew [V.str [],V.bool false]),(V.bool (eG n ([]:aa))=V.bool false),(V.bool (decide ((Int.ofNat n.length)>(64:Int)))=V.bool false),((V.bool !eG d ([]:aa))=V.bool true),((if true=true then V.ew [D.ga (V.agg [V.str ([]:aa),V.dj none 0 0 0,V.int aj (0:Int)]) (di (D.str d) es),V.bool (di (D.str d) es).isSome]else D.ga (V.agg [V.str ([]:aa),V.dj none 0 0 0,V.int aj (0:Int)]) (di (D.str d) es))=V.ew [ot d0 jB k,V.bool true]),((V.bool !true)=V.bool false),((V.bool !eG d ([]:aa))=V.bool true),(V.bool (decide ((Int.ofNat rt.length)>=(64:Int)))=V.bool false),(V.bool (eG d [])=V.bool false),(n.length<100000000),(d.length<100000000),(V.bool (decide (IntKind.i64.wrap ((Int.ofNat cO)+(Int.ofNat (kK n d).length))>(1048576:Int)))=V.bool false),(0<cP),(cO=b.length),(eT (cO+(kK n d).length) 1 1=true),(V.bool (eG d ([]:aa))=V.bool false)],
   .ret (.int .i64 0) (hL [(0,.ints .u32 gS),(1,.ints .u32 gR),(3,.cells [.dj (some (7,0)) (cO+(kK n d).length) (cO+(kK n d).length) 1,.int .i64 fl,.map (some 5),.map (some 6),.int .i64 nx,.bool false,.bool false,.int .i64 lf]),(5,.dF none es),(6,.dF none (ic (D.str n) (D.str d) rt)),(7,.iU 5 false (b++eN (dV (kK n d))))]) 8)]
 :=cQ.of U U U
theorem aaQ(d rK d0:aa)(jB:List (aa))(k:Int)(cO cP:Nat)(b:aa)(fl nx lf:Int)(es rt:ae):c6 (Yo (hRn d0 jB k)) (hRt rK true false false true false false false) 7 Tryz.f16 [] (wH) (cS [P3,.str n,.str d] (eu (pS cO cP b fl nx lf es rt)) 7) [([],
   [((if true=true then V.ew [D.ga (V.str ([]:aa)) (di (D.str n) rt),V.bool (di (D.str n) rt).isSome]else D.ga (V.str ([]:aa)) (di (D.str n) rt))=V.ew [V.str rK,V.bool true]),(V.bool (eG n ([]:aa))=V.bool false),(V.bool (decide ((Int.ofNat n.length)>(64:Int)))=V.bool false),((V.bool !eG d ([]:aa))=V.bool true),((if true=true then V.ew [D.ga (V.agg [V.str ([]:aa),V.dj none 0 0 0,V.int aj (0:Int)]) (di (D.str d) es),V.bool (di (D.str d) es).isSome]else D.ga (V.agg [V.str ([]:aa),V.dj none 0 0 0,V.int aj (0:Int)]) (di (D.str d) es))=V.ew [ot d0 jB k,V.bool true]),((V.bool !true)=V.bool false),((V.bool !eG d ([]:aa))=V.bool true),(V.bool (eG d rK)=V.bool false),(n.length<100000000),(d.length<100000000),(V.bool (decide (IntKind.i64.wrap ((Int.ofNat cO)+(Int.ofNat (kK n d).length))>(1048576:Int)))=V.bool false),(0<cP),(cO=b.length),(eT (cO+(kK n d).length) 1 1=true),(V.bool (eG d ([]:aa))=V.bool false)],
   .ret (.int .i64 0) (hL [(0,.ints .u32 gS),(1,.ints .u32 gR),(3,.cells [.dj (some (7,0)) (cO+(kK n d).length) (cO+(kK n d).length) 1,.int .i64 fl,.map (some 5),.map (some 6),.int .i64 nx,.bool false,.bool false,.int .i64 lf]),(5,.dF none es),(6,.dF none (ic (D.str n) (D.str d) rt)),(7,.iU 5 false (b++eN (dV (kK n d))))]) 8)]
 :=cQ.of U U U
theorem aaR(es rt:ae):c6 (Yo [(46,[(13,.dc (.bool false))]),(50,[(7,.dc (.bool true))])]) (hRt rK true false false false false false false) 7 Tryz.f16 [] (wH) (cS [P3,.str n,.str []] (eu (pS cO cP b fl nx lf es rt)) 7) [([],
   [((if true=true then V.ew [D.ga (V.str ([]:aa)) (di (D.str n) rt),V.bool (di (D.str n) rt).isSome]else D.ga (V.str ([]:aa)) (di (D.str n) rt))=V.ew [V.str rK,V.bool true]),(V.bool (eG n ([]:aa))=V.bool false),(V.bool (decide ((Int.ofNat n.length)>(64:Int)))=V.bool false),((V.bool !eG [] ([]:aa))=V.bool false),((V.bool !eG [] ([]:aa))=V.bool false),(V.bool (eG [] rK)=V.bool false),(n.length<100000000),(0<100000000),(V.bool (decide (IntKind.i64.wrap ((Int.ofNat cO)+(Int.ofNat (kK n []).length))>(1048576:Int)))=V.bool false),(0<cP),(cO=b.length),(eT (cO+(kK n []).length) 1 1=true),(V.bool (eG [] ([]:aa))=V.bool true)],
   .ret (.int .i64 0) (hL [(0,.ints .u32 gS),(1,.ints .u32 gR),(3,.cells [.dj (some (7,0)) (cO+(kK n []).length) (cO+(kK n []).length) 1,.int .i64 fl,.map (some 5),.map (some 6),.int .i64 nx,.bool false,.bool false,.int .i64 lf]),(5,.dF none es),(6,.dF none (lM (D.str n) rt)),(7,.iU 5 false (b++eN (dV (kK n []))))]) 8)]
 :=cQ.of U U U
end
section
variable{a:aa}{rt:ae}{n b:aa}
theorem zj{rK:aa}(h:di (.str n) rt=some (.str rK)):(if true=true then V.ew [D.ga (V.str ([]:aa)) (di (D.str n) rt),V.bool (di (D.str n) rt).isSome]else D.ga (V.str ([]:aa)) (di (D.str n) rt))=V.ew [V.str rK,V.bool true]:=by
 rw[h];rfl
theorem Lf(h:di (.str n) rt=none):(if true=true then V.ew [D.ga (V.str ([]:aa)) (di (D.str n) rt),V.bool (di (D.str n) rt).isSome]else D.ga (V.str ([]:aa)) (di (D.str n) rt))=V.ew [V.str [],V.bool false]:=by
 rw[h];rfl
theorem amk{p:Prop}[Decidable p](h:p):V.bool (decide p)=V.bool true:=by rw[bM h]
theorem afz{p:Prop}[Decidable p](h:¬p):V.bool (decide p)=V.bool false:=by rw[bD h]
theorem aml(h:a=b):V.bool (eG a b)=V.bool true:=by rw[fR,beq_iff_eq.2 h]
theorem zk(h:a≠b):V.bool (eG a b)=V.bool false:=by rw[fR,beq_eq_false_iff_ne.2 h]
theorem GY(h:a≠b):(V.bool !eG a b)=V.bool true:=by rw[fR,beq_eq_false_iff_ne.2 h];rfl
theorem GZ(h:n.length<=64):V.bool (decide ((Int.ofNat n.length)>(64:Int)))=V.bool false:=afz (by rw[show Int.ofNat n.length=(n.length:Int)from rfl];omega)
end
def RtE(rt:ae):Prop:=∀n,di (.str n) rt=none\/∃d,di (.str n) rt=some (.str d)
section
variable(n d:aa)(cO cP:Nat)(b:aa)(fl nx lf:Int)(es rt:ae)
abbrev Vn:Prop:=n≠[]/\n.length<=64
abbrev MM(m:Nat)(b':aa)(rt':ae):Tr O:=Rf m b' fl nx lf es rt'
theorem Lg(JL:RtE rt)(hn:Vn n)(hd:d≠[])(hk:di (.str d) es=none):cU ak 16 [P3,.str n,.str d] (eu (pS cO cP b fl nx lf es rt)) 7 (.int .i64 62) (eu (pS cO cP b fl nx lf es rt)) 7:=by
 have hO:∀n:Nat,Int.ofNat n=(n:Int):=fun _=>rfl;have hw:∃rK ex,(if true=true then V.ew [D.ga (V.str ([]:aa)) (di (D.str n) rt),V.bool (di (D.str n) rt).isSome]else D.ga (V.str ([]:aa)) (di (D.str n) rt))=V.ew [V.str rK,V.bool ex]:=by
  rcases JL n with h|⟨w,h⟩
  . exact⟨_,_,Lf h⟩
  . exact⟨_,_,zj h⟩
 obtain⟨rK,ex,hw⟩:=hw;refine c7 Tryz.func16 (code:=wH) U U ?_;refine fB (XU [(18,[(15,.dc (.ew [Bv,.bool false]))])]) (RL n d rK ex cO cP b fl nx lf es rt) (dG ?_);refine⟨?_,_,_,_,rfl,rfl,rfl,rfl⟩
 repeat' (first|exact cR|refine jw ?_ ?_)
 . exact hw
 . exact zk hn.1
 . exact GZ hn.2
 . exact GY hd
 . exact qI hk
 . rfl
theorem OB(hn:Vn n)(hd:d≠[])(hk:Ek es d)(tV:di (.str n) rt=some (.str d)):cU ak 16 [P3,.str n,.str d] (eu (pS cO cP b fl nx lf es rt)) 7 (.int .i64 0) (eu (pS cO cP b fl nx lf es rt)) 7:=by
 have hO:∀n:Nat,Int.ofNat n=(n:Int):=fun _=>rfl;obtain⟨d0,jB,k,hk⟩:=hk;refine c7 Tryz.func16 (code:=wH) U U ?_;refine fB (XU (Oh d0 jB k)) (Vl n d d0 jB k cO cP b fl nx lf es rt) (dG ?_);refine⟨?_,_,_,_,rfl,rfl,rfl,rfl⟩
 repeat' (first|exact cR|refine jw ?_ ?_)
 . exact zj tV
 . exact zk hn.1
 . exact GZ hn.2
 . exact GY hd
 . exact mq hk
 . rfl
 . exact GY hd
 . exact aml rfl
theorem OC(hn:Vn n)(tV:di (.str n) rt=none):cU ak 16 [P3,.str n,.str []] (eu (pS cO cP b fl nx lf es rt)) 7 (.int .i64 0) (eu (pS cO cP b fl nx lf es rt)) 7:=by
 have hO:∀n:Nat,Int.ofNat n=(n:Int):=fun _=>rfl;refine c7 Tryz.func16 (code:=wH) U U ?_;refine fB (XU []) (Vm n cO cP b fl nx lf es rt) (dG ?_);refine⟨?_,_,_,_,rfl,rfl,rfl,rfl⟩
 repeat' (first|exact cR|refine jw ?_ ?_)
 . exact Lf tV
 . exact zk hn.1
 . exact GZ hn.2
 all_goals first|rfl|trivial
theorem RM(hn:Vn n)(hd:d≠[])(hdl:d.length<=100)(hk:Ek es d)(tV:di (.str n) rt=none)(h64:rt.length<64)(hc:0<cP)(hl:cO=b.length)(Nx:cO+(kK n d).length<=1048576):
  cU ak 16 [P3,.str n,.str d] (eu (pS cO cP b fl nx lf es rt)) 7 (.int .i64 0) (MM fl nx lf es (cO+(kK n d).length) (b++kK n d) (ic (.str n) (.str d) rt)) 8:=by
 have hO:∀n:Nat,Int.ofNat n=(n:Int):=fun _=>rfl;obtain⟨d0,jB,k,hk⟩:=hk;refine c7 Tryz.func16 (code:=wH) U U ?_;obtain⟨L,hr⟩:=aaP n d d0 jB k cO cP b fl nx lf es rt;simp only[gk]at hr;refine gY (XU (hRn d0 jB k)) mo _ U hr (dG ?_);refine⟨?_,_,_,_,rfl,rfl,rfl,rfl⟩
 repeat' (first|exact cR|refine jw ?_ ?_)
 . exact Lf tV
 . exact zk hn.1
 . exact GZ hn.2
 . exact GY hd
 . exact mq hk
 . rfl
 . exact GY hd
 . exact afz dh
 . exact zk hd
 . exact Nat.lt_of_le_of_lt hn.2 dU
 . omega
 . rw[fH dh dh];exact iZ dh
 . exact hc
 . exact hl
 . exact jn be
 . exact zk hd
theorem RN(rK:aa)(hn:Vn n)(hd:d≠[])(hdl:d.length<=100)(hk:Ek es d)(tV:di (.str n) rt=some (.str rK))(fN:d≠rK)(hc:0<cP)(hl:cO=b.length)(Nx:cO+(kK n d).length<=1048576):
  cU ak 16 [P3,.str n,.str d] (eu (pS cO cP b fl nx lf es rt)) 7 (.int .i64 0) (MM fl nx lf es (cO+(kK n d).length) (b++kK n d) (ic (.str n) (.str d) rt)) 8:=by
 have hO:∀n:Nat,Int.ofNat n=(n:Int):=fun _=>rfl;obtain⟨d0,jB,k,hk⟩:=hk;refine c7 Tryz.func16 (code:=wH) U U ?_;obtain⟨L,hr⟩:=aaQ n d rK d0 jB k cO cP b fl nx lf es rt;simp only[gk]at hr;refine gY (XU (hRn d0 jB k)) mo _ U hr (dG ?_);refine⟨?_,_,_,_,rfl,rfl,rfl,rfl⟩
 repeat' (first|exact cR|refine jw ?_ ?_)
 . exact zj tV
 . exact zk hn.1
 . exact GZ hn.2
 . exact GY hd
 . exact mq hk
 . rfl
 . exact GY hd
 . exact zk fN
 . exact Nat.lt_of_le_of_lt hn.2 dU
 . omega
 . rw[fH dh dh];exact iZ dh
 . exact hc
 . exact hl
 . exact jn be
 . exact zk hd
theorem RO(rK:aa)(hn:Vn n)(tV:di (.str n) rt=some (.str rK))(fN:rK≠[])(hc:0<cP)(hl:cO=b.length)(Nx:cO+(kK n []).length<=1048576):
  cU ak 16 [P3,.str n,.str []] (eu (pS cO cP b fl nx lf es rt)) 7 (.int .i64 0) (MM fl nx lf es (cO+(kK n []).length) (b++kK n []) (lM (.str n) rt)) 8:=by
 have hO:∀n:Nat,Int.ofNat n=(n:Int):=fun _=>rfl;refine c7 Tryz.func16 (code:=wH) U U ?_;obtain⟨L,hr⟩:=aaR n rK cO cP b fl nx lf es rt;simp only[gk]at hr;refine gY (XU [(46,[(13,.dc (.bool false))]),(50,[(7,.dc (.bool true))])]) mo _ U hr (dG ?_);refine⟨?_,_,_,_,rfl,rfl,rfl,rfl⟩
 repeat' (first|exact cR|refine jw ?_ ?_)
 . exact zj tV
 . exact zk hn.1
 . exact GZ hn.2
 . rfl
 . rfl
 . exact zk fN.symm
 . exact Nat.lt_of_le_of_lt hn.2 dU
 . decide
 . rw[fH dh dh];exact iZ dh
 . exact hc
 . exact hl
 . exact jn be
 . rfl
end
open Go.Shelf Go.RowKit
def afA:Go.Shelf.Ren:=⟨fun|42=>63|n=>n,fun n=>n,fun n=>n⟩
theorem RP:SlLaysN.n42 ak afA:={
 mixed:=mo
 f42:=⟨"slices.Clone[[]gouache/api.Digest,gouache/api.Digest]",dU,Tryz.func63.trans (aM some U)⟩
 t4:=Tryz.underlying4
 a4:=Tryz.isAgg4
 z4:=Tryz.sizeOf4
 v4:=Tryz.zeroValue4
 t25:=Tryz.underlying25
 a25:=Tryz.isAgg25
 z25:=Tryz.sizeOf25
 v25:=Tryz.zeroValue25
 t26:=Tryz.underlying26
 a26:=Tryz.isAgg26
 z26:=Tryz.sizeOf26
 v26:=Tryz.zeroValue26
 i26:=by kernel_rfl }
def Lh:ag->Option (ah×V)
 | [.dO _ 0 []]=>some ([],.dO false 0 [])
 |_=>none
theorem RQ:jL ak 63 (jO Lh):=by
 refine kf (au U) fun args A v e=>?_;unfold Lh at e;split at e
 . obtain⟨rfl,rfl⟩:=fc e;refine⟨rfl,rfl,fun _ E w c9 _ ra=>?_⟩;obtain⟨y,ys,r0,rs,rfl⟩:=ra;have rs:ys=[]:=rs;subst rs;obtain⟨⟨a,cP,vs,rfl,_,hv,_,_⟩,_⟩:=r0;cases a with
   |none=>
    refine(AnyG.slices_Clone_string_nil RP 0 cP w).mono fun en w' ⟨he,hw⟩=>?_;subst he;subst hw;exact⟨⟨E,⟨none,0,[],rfl,aA _,rfl,fun _=>rfl,fun h=>absurd h (cF _)⟩,fun h=>by cases h⟩,Below.refl _ _⟩
   |some a=>
    refine(AnyG.slices_Clone_string_zero RP a cP w).mono fun en w' ⟨v',he,amm,_,hw⟩=>?_;subst he;have hv':∃a c,v'= .slice a 0 c:=by
     obtain⟨_,h⟩:=amm;rcases h with⟨h,_⟩|⟨g,cP,cur,h,_⟩
     . exact⟨none,0,h⟩
     . exact⟨_,_,h⟩
    obtain⟨a2,c2,rfl⟩:=hv';exact⟨⟨E,⟨a2,c2,[],rfl,aZ _,rfl,fun _=>rfl,fun h=>absurd h (cF _)⟩,fun h=>by cases h⟩,hw⟩
 . cases e
theorem aaS(f:Bool)(h:Tr O)(n:Nat):cU ak 63 [.dO f 0 []] h n (.dO false 0 []) h n:=fun E w c9 ra g hd=>
 RQ.2 _ _ _ [] _ _ _ rfl cR E w c9 ra g hd U
noncomputable abbrev csV(q:ag->Bool)(g:V)(l:List (Nat×List (Nat×o8)))(h:Tr O)(f:Bool)(rs:List (aa)):fb:=Da (kY l) 43 q [.dO f rs.length (strs rs),g] h 8 (.bool true,h,8)
theorem aaT(d:aa)(f:Bool)(rs:List (aa))(cO cP:Nat)(b:aa)(fl nx lf:Int)(es rt:ae):c6 (csV GH f44 [] (hB cO cP b fl nx lf es rt) f rs) [(16,.dc (.bool false)),(20,.dc (.bool false))] 7 Tryz.f15 [] (za) (cS [P3,.str d,.dO f rs.length (strs rs)] (eu (pS cO cP b fl nx lf es rt)) 7) [([],
   [(V.bool (decide ((Int.ofNat d.length)>(65536:Int)))=V.bool false),(V.bool (decide ((Int.ofNat rs.length)>(1024:Int)))=V.bool false),(strs rs=strs (dH (strs rs))),(rs.length=(dH (strs rs)).length),(rs.length<=1000000),(∀(x:aa),x∈dH (strs rs)->x.length=32),fo [.dO f (rs.length) (strs rs),.fn (.func 44) [] [.ptr (some (7,0))]] (hL (eO (pS cO cP b fl nx lf es rt)++[(7,.cells [.ptr (some (3,0))])])) 8],
   .ret (.ew [.str [],.int .i64 63]) (eu (pS cO cP b fl nx lf es rt)) 7)]
 :=cQ.of U U U
theorem aaU(d d0:aa)(jB:List (aa))(k:Int)(cO cP:Nat)(b:aa)(fl nx lf:Int)(es rt:ae):c6 (kY []) [(17,.dc (.ew [ot d0 jB k,.bool true]))] 7 Tryz.f25 [] (dP Tryz.f25) (cS [P3,.str d] (eu (pS cO cP b fl nx lf es rt)) 7) [([],
   [((if true=true then V.ew [D.ga (V.agg [V.str ([]:aa),V.dj none 0 0 0,V.int aj (0:Int)]) (di (D.str d) es),V.bool (di (D.str d) es).isSome]else D.ga (V.agg [V.str ([]:aa),V.dj none 0 0 0,V.int aj (0:Int)]) (di (D.str d) es))=V.ew [ot d0 jB k,V.bool true]),(0<jB.length),((strs jB).length=jB.length),(jB.length<=1000000)],
   .ret (.ew [.str d0,.dO false (jB.length) (strs jB),.int .i64 0]) (eu (pS cO cP b fl nx lf es rt)) 7)]
 :=cQ.of U U U
def hG(d0:aa)(k:Int)(p:iw):Tr O:=(eu p).set 7 (some (.cells [.str d0,.dO false 0 [],.int .i64 k]))
theorem Vo(d d0:aa)(k:Int)(cO cP:Nat)(b:aa)(fl nx lf:Int)(es rt:ae):c6 (fD (kY []) 63 [.dO false 0 []] (hG d0 k (pS cO cP b fl nx lf es rt)) 16 (.dO false 0 [],hG d0 k (pS cO cP b fl nx lf es rt),16)) [(17,.dc (.ew [ot d0 [] k,.bool true]))] 7 Tryz.f25 [] (dP Tryz.f25) (cS [P3,.str d] (eu (pS cO cP b fl nx lf es rt)) 7) [([],
   [((if true=true then V.ew [D.ga (V.agg [V.str ([]:aa),V.dj none 0 0 0,V.int aj (0:Int)]) (di (D.str d) es),V.bool (di (D.str d) es).isSome]else D.ga (V.agg [V.str ([]:aa),V.dj none 0 0 0,V.int aj (0:Int)]) (di (D.str d) es))=V.ew [ot d0 [] k,V.bool true]),fo [.dO false 0 []] (hL (eO (pS cO cP b fl nx lf es rt)++[(7,.cells [.str d0,.dO false 0 [],.int .i64 k])])) 16],
   .ret (.ew [.str d0,.dO false 0 [],.int .i64 0]) (eu (pS cO cP b fl nx lf es rt)) 7)]
 :=cQ.of U U U
theorem aaV(d d0:aa)(jB:List (aa))(k:Int)(cO cP:Nat)(b:aa)(fl nx lf:Int)(es rt:ae):c6 (kY []) [(15,.dc (.ew [ot d0 jB k,.bool true]))] 7 Tryz.f18 [] (dP Tryz.f18) (cS [P3,.str d] (eu (pS cO cP b fl nx lf es rt)) 7) [([],
   [((if true=true then V.ew [D.ga (V.agg [V.str ([]:aa),V.dj none 0 0 0,V.int aj (0:Int)]) (di (D.str d) es),V.bool (di (D.str d) es).isSome]else D.ga (V.agg [V.str ([]:aa),V.dj none 0 0 0,V.int aj (0:Int)]) (di (D.str d) es))=V.ew [ot d0 jB k,V.bool true])],
   .ret (.bool true) (eu (pS cO cP b fl nx lf es rt)) 7)]
 :=cQ.of U U U
theorem aaW(n d:aa)(cO cP:Nat)(b:aa)(fl nx lf:Int)(es rt:ae):c6 (kY []) [(16,.dc (.ew [.str d,.bool true]))] 7 Tryz.f24 [] (dP Tryz.f24) (cS [P3,.str n] (eu (pS cO cP b fl nx lf es rt)) 7) [([],
   [((if true=true then V.ew [D.ga (V.str ([]:aa)) (di (D.str n) rt),V.bool (di (D.str n) rt).isSome]else D.ga (V.str ([]:aa)) (di (D.str n) rt))=V.ew [V.str d,V.bool true])],
   .ret (.ew [.str d,.bool true]) (eu (pS cO cP b fl nx lf es rt)) 7)]
 :=cQ.of U U U
section
variable(f:Bool)(rs:List (aa))(i cO cP:Nat)(b:aa)(fl nx lf:Int)
theorem aaX(es rt:ae):c6 (Da (kY []) 73 GH [.dO f rs.length (strs rs),f44] (hB cO cP b fl nx lf es rt) 8 (.int .i64 (Int.ofNat i),hB cO cP b fl nx lf es rt,8)) [(8,.dc (.bool true))] 8 Tryz.f43 [] (UN) (cS [.dO f rs.length (strs rs),f44] (hB cO cP b fl nx lf es rt) 8) [([],
   [fo [.dO f (rs.length) (strs rs),.fn (.func 44) [] [.ptr (some (7,0))]] (hL (eO (pS cO cP b fl nx lf es rt)++[(7,.cells [.ptr (some (3,0))])])) 8,(V.bool (decide (Int.ofNat i>=(0:Int)))=V.bool true)],
   .ret (.bool true) (hL (eO (pS cO cP b fl nx lf es rt)++[(7,.cells [.ptr (some (3,0))])])) 8)]
 :=cQ.of U U U
theorem as5(x:aa)(i:Nat)(cO cP:Nat)(b:aa)(fl nx lf:Int)(es rt:ae):c6 IS [(9,.split),(14,.dc (.dm [.str x])),(16,.split),(18,.dc (.int .i64 (Int.ofNat (i+1))))] 8 Tryz.f73 [0,1,7,8] (dw (dw (ee GG))) (D1 (hB cO cP b fl nx lf es rt) 8 f41 f rs i) [([((decide (Int.ofNat i<Int.ofNat rs.length)),true),((!(Int.ofNat x.length)==(32:Int)),true)],
   [((0:Int)<=Int.ofNat i/\Int.ofNat i<(Int.ofNat rs.length)),((strs rs).length=rs.length*1),(V.dm (dx (strs rs) ((Int.ofNat i).toNat*1) 1)=V.dm [D.str x])],
   .ret (.int .i64 (Int.ofNat i)) (hL (eO (pS cO cP b fl nx lf es rt)++[(7,.cells [.ptr (some (3,0))])])) 8),
  ([((decide (Int.ofNat i<Int.ofNat rs.length)),true),((!(Int.ofNat x.length)==(32:Int)),false)],
   [((0:Int)<=Int.ofNat i/\Int.ofNat i<(Int.ofNat rs.length)),((strs rs).length=rs.length*1),(V.dm (dx (strs rs) ((Int.ofNat i).toNat*1) 1)=V.dm [D.str x]),(V.int aj (IntKind.i64.wrap (Int.ofNat i+(1:Int)))=V.int aj (Int.ofNat (i+1)))],
   .to .normal (eF [(0,.dO f (rs.length) (strs rs)),(1,.fn (.func 41) [] []),(7,.int .i64 (Int.ofNat rs.length)),(8,.int .i64 (Int.ofNat (i+1)))] (hL (eO (pS cO cP b fl nx lf es rt)++[(7,.cells [.ptr (some (3,0))])])) 8)),
  ([((decide (Int.ofNat i<Int.ofNat rs.length)),false)],
   [],
   .to (.exit 0) (eF [(0,.dO f (rs.length) (strs rs)),(1,.fn (.func 41) [] []),(7,.int .i64 (Int.ofNat rs.length)),(8,.int .i64 (Int.ofNat i))] (hL (eO (pS cO cP b fl nx lf es rt)++[(7,.cells [.ptr (some (3,0))])])) 8))]
 :=cQ.of U U U
end
theorem afB{n0:Nat}{h:Tr O}{gv:V}{f:Bool}{rs:List (aa)}{R:V->Tr O->Nat->Prop}(j:Nat)
  (h0:TG ak n0 Tryz.f73.ntmps (dK GG) (UO h n0 gv f rs) (andThen (fun s'=>e9 n0 [0,1,7,8] s'=some (D1 h n0 gv f rs 0)) fun _ _=>False))
  (hr:∀i,i<j->TG ak n0 Tryz.f73.ntmps UP (D1 h n0 gv f rs i) (andThen (fun s'=>e9 n0 [0,1,7,8] s'=some (D1 h n0 gv f rs (i+1))) fun _ _=>False))
  (he:TG ak n0 Tryz.f73.ntmps UP (D1 h n0 gv f rs j) fun y s'=>y= .ret/\fG ak n0 Tryz.f73 R .ret s'):TG ak n0 Tryz.f73.ntmps K1 (UO h n0 gv f rs) (fG ak n0 Tryz.f73 R):=by
 refine cV U ?_;refine cV U ?_;refine ff h0 fun y s' dL=>?_;cases y<;>first|exact dL.elim|skip
 have dL:e9 n0 [0,1,7,8] s'=some (D1 h n0 gv f rs 0):=dL;refine fg (i:=0) U (ff (Q1:=fun z s'=>z= .ret/\fG ak n0 Tryz.f73 R .ret s') (gl (fun k' s=>∃i,k'=j-i/\i<=j/\e9 n0 [0,1,7,8] s=some (D1 h n0 gv f rs i)) U ?_ j ⟨0,rfl,aZ _,dL⟩) ?_)
 . rintro k' s1 ⟨i,hk,hi,fS⟩;refine c5 fS ?_;rcases bP i j with fF|zJ
   . refine ff (hr i fF) fun y s2 jg=>?_;cases y<;>first|exact jg.elim|skip
     exact⟨j-(i+1),be,i+1,rfl,be,jg⟩
   . obtain rfl:i=j:=by omega
     refine ff he fun y s2 jg=>?_;obtain⟨rfl,jg⟩:=jg;exact⟨rfl,jg⟩
 rintro y s2 ⟨rfl,jg⟩;exact jg
section
variable(f:Bool)(rs:List (aa))(cO cP:Nat)(b:aa)(fl nx lf:Int)(es rt:ae)
theorem Vp(hl:rs.length<=1000000)(j:Nat)(x:aa)(hj:rs[j]? =some x)(hx:di (.str x) es=none)(hg:∀i y,i<j->rs[i]? =some y->Ek es y):
  TG ak 8 Tryz.f73.ntmps Og (cS [.dO f rs.length (strs rs),f44] (hB cO cP b fl nx lf es rt) 8) (fG ak 8 Tryz.f73 fun a b' c=>a= .int .i64 (Int.ofNat j)/\b'=hB cO cP b fl nx lf es rt/\c=8):=by
 have hO:∀n:Nat,Int.ofNat n=(n:Int):=fun _=>rfl;have Pa:j<rs.length:=(aF.1 hj).1;refine iL  1 TL (Ms cO cP b fl nx lf es rt f rs) cR ?_;show TG ak 8 Tryz.f73.ntmps K1 (UO (hB cO cP b fl nx lf es rt) 8 f44 f rs) _;refine afB j ?_ (fun i Pb=>?_) ?_
 . refine fZ TL (Rb cO cP b fl nx lf es rt f rs) (dG ?_);exact⟨fun p hp=>by rw[aq]at hp;subst hp;rfl,fun s' dL=>dL⟩
 . obtain⟨y,hy⟩:∃y,rs[i]? =some y:=⟨_,ay be⟩;obtain⟨d0,jB,k,hk⟩:=hg i y Pb hy;refine fZ (XP [(18,[(15,.dc (.ew [ot d0 jB k,.bool true]))])]) (aew f rs y i cO cP b d0 jB k fl nx lf es rt) fun g hg hc=>?_;simp only[aE,aL,bu]at hg;rcases hg with rfl|rfl
   . refine⟨?_,fun s' dL=>dL⟩
     repeat' (first|exact cR|refine jw ?_ ?_)
     . exact⟨az _,dh⟩
     . rw[eJ,bk]
     . exact aM V.dm (fI hy)
     . exact mq hk
     . exact fE dh be
   . exact absurd (aK (hc _ (aq.2 rfl))) dh
 . obtain⟨L3,wv⟩:=aex f rs x j cO cP b fl nx lf es rt;refine gh (XP [(18,[(15,.dc (.ew [Bv,.bool false]))])]) mo (fun a b' c=>a= .int .i64 (Int.ofNat j)/\b'=hB cO cP b fl nx lf es rt/\c=8) U wv fun g hg hc=>?_;simp only[aE,aL,bu]at hg;rcases hg with rfl|rfl
   . refine⟨?_,⟨rfl,rfl,rfl⟩,fun s' dL=>⟨rfl,dL⟩⟩
     repeat' (first|exact cR|refine jw ?_ ?_)
     . exact⟨az _,dh⟩
     . rw[eJ,bk]
     . exact aM V.dm (fI hj)
     . exact qI hx
   . exact absurd (aK (hc _ (aq.2 rfl))) dh
theorem Vq(hl:rs.length<=1000000)(j:Nat)(x:aa)(hj:rs[j]? =some x)(hx:di (.str x) es=none)(hg:∀i y,i<j->rs[i]? =some y->Ek es y):
  cU ak 43 [.dO f rs.length (strs rs),f44] (hB cO cP b fl nx lf es rt) 8 (.bool true) (hB cO cP b fl nx lf es rt) 8:=by
 have h73:cU ak 73 [.dO f rs.length (strs rs),f44] (hB cO cP b fl nx lf es rt) 8 (.int .i64 (Int.ofNat j)) (hB cO cP b fl nx lf es rt) 8:=
  c7 Tryz.func73 U U (Vp f rs cO cP b fl nx lf es rt hl j x hj hx hg)
 refine c7 Tryz.func43 (code:=UN) U U ?_;refine fB ((XQ []).Q8 GH (au U) h73) (aaX f rs j cO cP b fl nx lf es rt) (dG ?_);refine⟨?_,_,_,_,rfl,rfl,rfl,rfl⟩
 repeat' (first|exact cR|refine jw ?_ ?_)
 . exact⟨rfl,rfl,rfl⟩
 . exact amk (az _)
abbrev Vr(e:Int):V:=.ew [.str [],.int .i64 e]
theorem Vs(d:aa)(hd:d.length<=65536)(hn:rs.length<=1024)(h32:∀x∈rs,x.length=32)(j:Nat)(x:aa)(hj:rs[j]? =some x)(hx:di (.str x) es=none)(hg:∀i y,i<j->rs[i]? =some y->Ek es y):
  cU ak 15 [P3,.str d,.dO f rs.length (strs rs)] (eu (pS cO cP b fl nx lf es rt)) 7 (Vr 63) (eu (pS cO cP b fl nx lf es rt)) 7:=by
 have hO:∀n:Nat,Int.ofNat n=(n:Int):=fun _=>rfl;refine c7 Tryz.func15 (code:=za) U U ?_;obtain⟨L,hr⟩:=aaT d f rs cO cP b fl nx lf es rt;simp only[ik]at hr;refine gY ((XQ []).Q8 GH (au U) (Vq f rs cO cP b fl nx lf es rt be j x hj hx hg)) mo _ U hr (dG ?_);refine⟨?_,_,_,_,rfl,rfl,rfl,rfl⟩
 repeat' (first|exact cR|refine jw ?_ ?_)
 . exact iZ dh
 . exact iZ dh
 . first|rfl|trivial
 . first|rfl|trivial
 . omega
 . exact h32
 . first|exact⟨rfl,rfl,rfl⟩|exact⟨trivial,trivial,rfl⟩|exact⟨trivial,trivial,trivial⟩|trivial
theorem Vt(d d0:aa)(jB:List (aa))(k:Int)(hx:di (.str d) es=some (pW d0 jB k))(hn:jB.length<=1000000):
  cU ak 25 [P3,.str d] (eu (pS cO cP b fl nx lf es rt)) 7 (.ew [.str d0,.dO false jB.length (strs jB),.int .i64 0]) (eu (pS cO cP b fl nx lf es rt)) 7:=by
 refine c7 Tryz.func25 (code:=dP Tryz.f25) U U ?_;rcases jB with _|⟨r,jB⟩
 . refine fB ((XQ []).jy (au U) (aaS false _ _)) (Vo d d0 k cO cP b fl nx lf es rt) (dG ?_);refine⟨?_,_,_,_,rfl,rfl,rfl,rfl⟩
   repeat' (first|exact cR|refine jw ?_ ?_)
   . exact mq hx
   . exact⟨rfl,rfl,rfl⟩
 . refine fB (XQ []) (aaU d d0 (r::jB) k cO cP b fl nx lf es rt) (dG ?_);refine⟨?_,_,_,_,rfl,rfl,rfl,rfl⟩
   repeat' (first|exact cR|refine jw ?_ ?_)
   . exact mq hx
   . exact Nat.succ_pos _
   . exact eJ _
   . exact hn
theorem Vu(d:aa)(hx:Ek es d):cU ak 18 [P3,.str d] (eu (pS cO cP b fl nx lf es rt)) 7 (.bool true) (eu (pS cO cP b fl nx lf es rt)) 7:=by
 obtain⟨d0,jB,k,hx⟩:=hx;refine c7 Tryz.func18 (code:=dP Tryz.f18) U U ?_;refine fB (XQ []) (aaV d d0 jB k cO cP b fl nx lf es rt) (dG ?_);refine⟨fun a ha=>?_,_,_,_,rfl,rfl,rfl,rfl⟩;rw[aq]at ha;subst ha;exact mq hx
theorem Li(n d:aa)(hx:di (.str n) rt=some (.str d)):cU ak 24 [P3,.str n] (eu (pS cO cP b fl nx lf es rt)) 7 (.ew [.str d,.bool true]) (eu (pS cO cP b fl nx lf es rt)) 7:=by
 refine c7 Tryz.func24 (code:=dP Tryz.f24) U U ?_;refine fB (XQ []) (aaW n d cO cP b fl nx lf es rt) (dG ?_);refine⟨fun a ha=>?_,_,_,_,rfl,rfl,rfl,rfl⟩;rw[aq]at ha;subst ha;exact zj hx
end
def w88:V:=.fn (.func 88) [] [.ptr (some (7,0))]
section
variable(cO cP:Nat)(b:aa)(fl nx lf:Int)(es rt:ae)
def lK:af:=eO (pS cO cP b fl nx lf es rt)++[(7,.cells [.map (some 6)])]
def lKg:af:=[(0,.ints .u32 gS),(1,.ints .u32 gR),(3,.cells (xK 4 5 6 (pS cO cP b fl nx lf es rt))),(4,.iU 5 false b),(5,.dF none es),(7,.cells [.map (some 6)])]
def sKa:St:=eF [(2,.ptr (some (8,0))),(6,w88)] (hL (lK cO cP b fl nx lf es rt++[(8,.cells [.dj none 0 0 0])])) 9
noncomputable def oKa:O:=.loop true none (sKa cO cP b fl nx lf es rt).fr [7] UT UU
noncomputable def hK(sl:V)(row:af):Tr O:=hL (lK cO cP b fl nx lf es rt++[(8,.cells [sl]),(9,.my),(10,oKa cO cP b fl nx lf es rt)]++row)
noncomputable def SK(sl:V)(row:af)(n:Nat):St:=eF [(0,.fn (.yield 10) [] []),(5,.ptr (some (11,0)))] (hL (lKg cO cP b fl nx lf es rt++[(8,.cells [sl]),(9,.my),(10,oKa cO cP b fl nx lf es rt)]++row)) n
end
abbrev P(m:Nat):V:=.ptr (some (m,0))
section
variable(cO cP:Nat)(b:aa)(fl nx lf:Int)
theorem amn(es rt:ae)(k:aa)(v:V):c6 (kY []) [] 12 Tryz.f88 [0,5] ((sq Em).rest) (TM (SK cO cP b fl nx lf es rt eI [] 12) k v) [([],
   [],
   .to .normal (eF [(0,.fn (.yield 10) [] []),(5,.ptr (some (11,0)))] (hL [(0,.ints .u32 gS),(1,.ints .u32 gR),(3,.cells [.dj (some (4,0)) cO cP 1,.int .i64 fl,.map (some 5),.map (some 6),.int .i64 nx,.bool false,.bool false,.int .i64 lf]),(4,.iU 5 false b),(5,.dF none es),(7,.cells [.map (some 6)]),(8,.cells [.dj (some (12,0)) 1 1 1]),(9,.my),(10,.loop true none (Eng.A3 [(2,.ptr (some (8,0))),(6,.fn (.func 88) [] [.ptr (some (7,0))])]) [7] UT UU),(12,.cells [.str k])]) 13))]
 :=cQ.of U U U
theorem afD(es rt:ae)(k:aa)(v:V)(n:Nat)(cs:ai):c6 (kY []) [] 12 Tryz.f88 [0,5] ((sq Em).rest) (TM (SK cO cP b fl nx lf es rt (.dj (some (12,0)) n n 1) [(12,.deep cs)] 13) k v) [([],
   [(0+n*1<=cs.length),(0<1),(eT (n+1) 1 16=true)],
   .to .normal (eF [(0,.fn (.yield 10) [] []),(5,.ptr (some (11,0)))] (hL [(0,.ints .u32 gS),(1,.ints .u32 gR),(3,.cells [.dj (some (4,0)) cO cP 1,.int .i64 fl,.map (some 5),.map (some 6),.int .i64 nx,.bool false,.bool false,.int .i64 lf]),(4,.iU 5 false b),(5,.dF none es),(7,.cells [.map (some 6)]),(8,.cells [.dj (some (12,0)) (n+1) (n+1) 1]),(9,.my),(10,.loop true none (Eng.A3 [(2,.ptr (some (8,0))),(6,.fn (.func 88) [] [.ptr (some (7,0))])]) [7] UT UU),(12,.deep (List.take (n*1) (List.drop 0 cs)++[D.str k]))]) 13))]
 :=cQ.of U U U
theorem amo(es rt:ae):c6 (kY []) [] 8 Tryz.f113 [1,2] (eR 1 Rl) (cS [eI,w88] (hL (lK cO cP b fl nx lf es rt)) 8) [([],
   [],
   .to .normal (eF [(1,.fn (.func 88) [] [.ptr (some (7,0))]),(2,.ptr (some (8,0)))] (hL (eO (pS cO cP b fl nx lf es rt)++[(7,.cells [.map (some 6)]),(8,.cells [.dj none 0 0 0])])) 9))]
 :=cQ.of U U U
theorem amq(es rt:ae):c6 (kY []) [] 8 Tryz.f113 [2,6] (dK (dK Au)) (eF [(1,w88),(2,P 8)] (hL (lK cO cP b fl nx lf es rt++[(8,.cells [eI])])) 9) [([],
   [],
   .to .normal (eF [(2,.ptr (some (8,0))),(6,.fn (.func 88) [] [.ptr (some (7,0))])] (hL (eO (pS cO cP b fl nx lf es rt)++[(7,.cells [.map (some 6)]),(8,.cells [.dj none 0 0 0])])) 9))]
 :=cQ.of U U U
theorem amr(es rt:ae)(n:Nat)(cs:ai):c6 (kY []) [] 8 Tryz.f113 [] (ee Au) (tD (sKa cO cP b fl nx lf es rt) (hK cO cP b fl nx lf es rt (.dj (some (11,0)) n n 1) [(11,.deep cs)]) 12) [([],
   [],
   .ret (.dj (some (8,0)) n n 1) (hL (eO (pS cO cP b fl nx lf es rt)++[(7,.cells [.map (some 6)]),(8,.deep cs)])) 9)]
 :=cQ.of U U U
theorem ams(es rt:ae):c6 (kY []) [] 8 Tryz.f113 [] (ee Au) (tD (sKa cO cP b fl nx lf es rt) (hK cO cP b fl nx lf es rt eI []) 11) [([],
   [],
   .ret (.dj none 0 0 0) (hL (eO (pS cO cP b fl nx lf es rt)++[(7,.cells [.map (some 6)])])) 8)]
 :=cQ.of U U U
end
def zl(rt:ae):Prop:=∀e∈rt,∃k,e.1= .str k
def dJ(rt:ae):List (aa):=rt.map fun e=>D.ZN e.1
theorem Dp(a b:List (aa)):strs (a++b)=strs a++strs b:=by unfold strs;rw[aX]
section
variable(cO cP:Nat)(b:aa)(fl nx lf:Int)(es rt:ae)
def Bb(m:Nat):List (aa)->af
 | []=>[]
 | [x]=>[(m,.cells [.str x])]
 |ks=>[(m,.deep (strs ks))]
def G0(m:Nat):List (aa)->V
 | []=>eI
 |ks=>.dj (some (m,0)) ks.length ks.length 1
def nK(m:Nat):List (aa)->Nat
 | []=>m
 |_=>m+1
def JKa(iB:ae)(s1:St):Prop:=zl iB/\e9 12 [0,5] s1=some (SK cO cP b fl nx lf es rt (G0 12 (dJ iB)) (Bb 12 (dJ iB)) (nK 12 (dJ iB)))
theorem Vv(hk:zl rt)(hl:rt.length<=1000000):fQ ak 88 [.fn (.yield 10) [] [],.ptr (some (7,0))] (hK cO cP b fl nx lf es rt eI []) 11 fun v h n=>∃iB,List.Perm iB rt/\v= .ew []/\h=hK cO cP b fl nx lf es rt (G0 11 (dJ iB)) (Bb 11 (dJ iB))/\n=nK 11 (dJ iB):=by
 refine gG mo po Tryz.func88 (code:=Em) U U ?_;rw[aeN];refine y9 (v0:=.map (some 6)) (ko:=(cS [.fn (.yield 10) [] [],.ptr (some (7,0))] (hK cO cP b fl nx lf es rt eI []) 11).fr.set 4 (some (.map (some 6)))) (zO:=((cS [.fn (.yield 10) [] [],.ptr (some (7,0))] (hK cO cP b fl nx lf es rt eI []) 11).fr.set 4 (some (.map (some 6)))).set 5 (some (.ptr (some (11,0))))) (m:=6) (kd:=none) (es:=rt) mo Mw
  U U U U (au rfl) U (JKa cO cP b fl nx lf es rt) ⟨(fun _ h=>by cases h),U⟩ ?_
 rintro iB left s1 ⟨hv,hs⟩ hp;have iS:iB.length<=1000000:=by
  have:=hp.length_eq;rw[ax]at this;omega
 match iB,hv,hs,hp,iS with
 | [],hv,hs,hp,_=>
   refine⟨[0,5],SK cO cP b fl nx lf es rt eI [] 12,hs,U,fun vS=>?_,fun e ku he=>?_⟩
   . subst vS;rw[cu]at hp;refine⟨(SK cO cP b fl nx lf es rt eI [] 12).fr.set 6 (some (.ew [.bool false])),{ SK cO cP b fl nx lf es rt eI [] 12 with fr:=((SK cO cP b fl nx lf es rt eI [] 12).fr.set 6 (some (.ew [.bool false]))).set 7 (some (.bool false)) },U,U,U,.inl rfl,.ew [],hK cO cP b fl nx lf es rt eI [],11,U,[],hp,rfl,rfl,rfl⟩
   . obtain⟨k,RT⟩:=hk e (hp.mem_iff.1 (he.mem_iff.2 (by simp)));obtain⟨e1,e2⟩:=e;have RT:e1= .str k:=RT;subst RT;refine⟨(SK cO cP b fl nx lf es rt eI [] 12).fr.set 6 (some (.ew [.bool true,.str k,e2.iJ])),{ SK cO cP b fl nx lf es rt eI [] 12 with fr:=((SK cO cP b fl nx lf es rt eI [] 12).fr.set 6 (some (.ew [.bool true,.str k,e2.iJ]))).set 7 (some (.bool true)) },
      (((SK cO cP b fl nx lf es rt eI [] 12).fr.set 6 (some (.ew [.bool true,.str k,e2.iJ]))).set 7 (some (.bool true))).set 8 (some (.ew [.str k,e2.iJ])),TM (SK cO cP b fl nx lf es rt eI [] 12) k e2.iJ,U,U,U,U,U,U,U,U,?_⟩
     refine fZ (XQ []) (amn cO cP b fl nx lf es rt k e2.iJ) (dG ?_);exact⟨cR,fun s' dL=>⟨fun x hx=>by rw[cE,aq]at hx;exact⟨k,by rw[hx]⟩,dL⟩⟩
 | [x],hv,hs,hp,_=>
   obtain⟨x1,x2⟩:=x;obtain⟨kx,hkx⟩:=hv _ (aq.2 rfl);have hkx:x1= .str kx:=hkx;subst hkx;refine⟨[0,5],SK cO cP b fl nx lf es rt (.dj (some (12,0)) 1 1 1) [(12,.cells [.str kx])] 13,hs,U,fun vS=>?_,fun e ku he=>?_⟩
   . subst vS;rw[cu]at hp;refine⟨(SK cO cP b fl nx lf es rt (.dj (some (12,0)) 1 1 1) [(12,.cells [.str kx])] 13).fr.set 6 (some (.ew [.bool false])),{ SK cO cP b fl nx lf es rt (.dj (some (12,0)) 1 1 1) [(12,.cells [.str kx])] 13 with fr:=((SK cO cP b fl nx lf es rt (.dj (some (12,0)) 1 1 1) [(12,.cells [.str kx])] 13).fr.set 6 (some (.ew [.bool false]))).set 7 (some (.bool false)) },U,U,U,.inl rfl,.ew [],hK cO cP b fl nx lf es rt (.dj (some (11,0)) 1 1 1) [(11,.cells [.str kx])],12,U,_,hp,rfl,rfl,rfl⟩
   . obtain⟨k,RT⟩:=hk e (hp.mem_iff.1 (bZ _ (he.mem_iff.2 (by simp))));obtain⟨e1,e2⟩:=e;have RT:e1= .str k:=RT;subst RT
     let S:=SK cO cP b fl nx lf es rt (.dj (some (12,0)) 1 1 1) [(12,.cells [.str kx])] 13
     refine⟨S.fr.set 6 (some (.ew [.bool true,.str k,e2.iJ])),{ S with fr:=(S.fr.set 6 (some (.ew [.bool true,.str k,e2.iJ]))).set 7 (some (.bool true)) },
      ((S.fr.set 6 (some (.ew [.bool true,.str k,e2.iJ]))).set 7 (some (.bool true))).set 8 (some (.ew [.str k,e2.iJ])),TM S k e2.iJ,U,U,U,U,U,U,U,U,?_⟩
     refine tF [12] (s2:=TM (SK cO cP b fl nx lf es rt (.dj (some (12,0)) 1 1 1) [(12,.deep [.str kx])] 13) k e2.iJ) U ?_;refine fZ (XQ []) (afD cO cP b fl nx lf es rt k e2.iJ 1 [.str kx]) (dG ?_);refine⟨?_,fun s' dL=>⟨fun x hx=>?_,dL⟩⟩
     . exact cr.2 ⟨aA _,cr.2 ⟨dU,cr.2 ⟨dU,cR⟩⟩⟩
     . simp only[List.cons_append,cE,aE,aL,bu]at hx;rcases hx with rfl|rfl
       . exact⟨kx,rfl⟩
       . exact⟨k,rfl⟩
 |x::y::iB,hv,hs,hp,iS=>
  have xm:∀m,Bb m (dJ (x::y::iB))=[(m,.deep (strs (dJ (x::y::iB))))]:=fun m=>rfl;have hsl:∀m,G0 m (dJ (x::y::iB))= .dj (some (m,0)) (dJ (x::y::iB)).length (dJ (x::y::iB)).length 1:=fun m=>rfl;have hnk:∀m,nK m (dJ (x::y::iB))=m+1:=fun m=>rfl;have Pj:(dJ (x::y::iB)).length=(x::y::iB).length:=by unfold dJ;rw[aY]
  rw[xm,hsl,hnk]at hs;have hL2:∀l2,G0 11 (dJ (x::y::iB))=l2->l2= .dj (some (11,0)) (dJ (x::y::iB)).length (dJ (x::y::iB)).length 1:=fun l2 h=>h▸rfl;refine⟨[0,5],_,hs,U,fun vS=>?_,fun e ku he=>?_⟩
  . subst vS;rw[cu]at hp;refine⟨(SK cO cP b fl nx lf es rt (.dj (some (12,0)) (dJ (x::y::iB)).length (dJ (x::y::iB)).length 1) [(12,.deep (strs (dJ (x::y::iB))))] 13).fr.set 6 (some (.ew [.bool false])),{ SK cO cP b fl nx lf es rt (.dj (some (12,0)) (dJ (x::y::iB)).length (dJ (x::y::iB)).length 1) [(12,.deep (strs (dJ (x::y::iB))))] 13 with fr:=((SK cO cP b fl nx lf es rt (.dj (some (12,0)) (dJ (x::y::iB)).length (dJ (x::y::iB)).length 1) [(12,.deep (strs (dJ (x::y::iB))))] 13).fr.set 6 (some (.ew [.bool false]))).set 7 (some (.bool false)) },U,U,U,.inl rfl,.ew [],hK cO cP b fl nx lf es rt (.dj (some (11,0)) (dJ (x::y::iB)).length (dJ (x::y::iB)).length 1) [(11,.deep (strs (dJ (x::y::iB))))],12,?_,_,hp,rfl,rfl,rfl⟩;generalize dJ (x::y::iB)=ks;kernel_rfl
  . obtain⟨k,RT⟩:=hk e (hp.mem_iff.1 (bZ _ (he.mem_iff.2 (by simp))));obtain⟨e1,e2⟩:=e;have RT:e1= .str k:=RT;subst RT;have pG:dJ ((x::y::iB)++[(.str k,e2)])=dJ (x::y::iB)++[k]:=by unfold dJ;rw[aX];rfl
    have DY:zl ((x::y::iB)++[(.str k,e2)]):=fun z hz=>by
     rcases aT.1 hz with hz|hz
     . exact hv z hz
     . rw[aq]at hz;subst hz;exact⟨k,rfl⟩
    have h2:2<=(dJ (x::y::iB)).length:=by rw[Pj];simp
    have hJ:∀s',e9 12 [0,5] s'=some (SK cO cP b fl nx lf es rt (.dj (some (12,0)) (dJ (x::y::iB)++[k]).length (dJ (x::y::iB)++[k]).length 1) [(12,.deep (strs (dJ (x::y::iB)++[k])))] 13)->JKa cO cP b fl nx lf es rt ((x::y::iB)++[(.str k,e2)]) s':=by
     intro s' dL;refine⟨DY,?_⟩;rw[pG,dL];unfold dJ;rfl
    generalize hK0:dJ (x::y::iB)=ks at *
    let S:=SK cO cP b fl nx lf es rt (.dj (some (12,0)) ks.length ks.length 1) [(12,.deep (strs ks))] 13
    refine⟨S.fr.set 6 (some (.ew [.bool true,.str k,e2.iJ])),{ S with fr:=(S.fr.set 6 (some (.ew [.bool true,.str k,e2.iJ]))).set 7 (some (.bool true)) },
     ((S.fr.set 6 (some (.ew [.bool true,.str k,e2.iJ]))).set 7 (some (.bool true))).set 8 (some (.ew [.str k,e2.iJ])),TM S k e2.iJ,U,U,U,U,U,U,U,U,?_⟩
    refine fZ (XQ []) (afD cO cP b fl nx lf es rt k e2.iJ ks.length (strs ks)) (dG ?_);refine⟨?_,fun s' dL=>hJ s' ?_⟩
    . exact cr.2 ⟨by rw[eJ];omega,cr.2 ⟨dU,cr.2 ⟨pV be,cR⟩⟩⟩
    . refine Eq.trans dL ?_;have e3:List.take (ks.length*1) (List.drop 0 (strs ks))++[D.str k]=strs (ks++[k]):=by
       rw[bw,bk,br (by rw[eJ];exact aA _),Dp];rfl
      rw[e3,ax];rfl
end
section
variable(cO cP:Nat)(b:aa)(fl nx lf:Int)(es rt:ae)
def xS(row:af):Tr O:=hL (lK cO cP b fl nx lf es rt++row)
end
section
variable(cO:Nat)(h:Tr O)(cP:Nat)(b:aa)(fl nx lf:Int)(n:Nat)
def sC2(v:V):St:={ fr:=((((A3 [(0,w88)]).set 3 (some w88)).set 4 (some v)).set 2 (some v)),h:=h,n:=n,gz:=[] }
theorem amu(es rt:ae)(x:aa):c6 (kY []) [] 8 Tryz.f113 [] (ee Au) (tD (sKa cO cP b fl nx lf es rt) (hK cO cP b fl nx lf es rt (.dj (some (11,0)) 1 1 1) [(11,.cells [.str x])]) 12) [([],
   [],
   .ret (.dj (some (8,0)) 1 1 1) (hL (eO (pS cO cP b fl nx lf es rt)++[(7,.cells [.map (some 6)]),(8,.cells [.str x])])) 9)]
 :=cQ.of U U U
theorem amv(es rt:ae):c6 (kY []) [] 8 Tryz.f86 [0] (eR 1 Eo) (cS [w88] (xS cO cP b fl nx lf es rt []) 8) [([],
   [],
   .to .normal (eF [(0,.fn (.func 88) [] [.ptr (some (7,0))])] (hL (eO (pS cO cP b fl nx lf es rt)++[(7,.cells [.map (some 6)])])) 8))]
 :=cQ.of U U U
theorem amw(es rt:ae)(n:Nat)(cs:ai):c6 (kY []) [] 8 Tryz.f86 [] (ee (de 1 Eo)) (sC2 (xS cO cP b fl nx lf es rt [(8,.deep cs)]) 9 (.dj (some (8,0)) n n 1)) [([],
   [],
   .ret (.dj (some (8,0)) n n 1) (hL (eO (pS cO cP b fl nx lf es rt)++[(7,.cells [.map (some 6)]),(8,.deep cs)])) 9)]
 :=cQ.of U U U
theorem amx(es rt:ae):c6 (kY []) [] 8 Tryz.f86 [] (ee (de 1 Eo)) (sC2 (xS cO cP b fl nx lf es rt []) 8 eI) [([],
   [],
   .ret (.dj none 0 0 0) (hL (eO (pS cO cP b fl nx lf es rt)++[(7,.cells [.map (some 6)])])) 8)]
 :=cQ.of U U U
theorem amy(es rt:ae)(x:aa):c6 (kY []) [] 8 Tryz.f86 [] (ee (de 1 Eo)) (sC2 (xS cO cP b fl nx lf es rt [(8,.cells [.str x])]) 9 (.dj (some (8,0)) 1 1 1)) [([],
   [],
   .ret (.dj (some (8,0)) 1 1 1) (hL (eO (pS cO cP b fl nx lf es rt)++[(7,.cells [.map (some 6)]),(8,.cells [.str x])])) 9)]
 :=cQ.of U U U
theorem amz(es rt:ae):c6 (kY []) [] 8 Tryz.f61 [0] (eR 1 En) (cS [w88] (xS cO cP b fl nx lf es rt []) 8) [([],
   [],
   .to .normal (eF [(0,.fn (.func 88) [] [.ptr (some (7,0))])] (hL (eO (pS cO cP b fl nx lf es rt)++[(7,.cells [.map (some 6)])])) 8))]
 :=cQ.of U U U
def sS2(v:V):St:={ fr:=((((A3 [(0,w88)]).set 4 (some w88)).set 5 (some v)).set 3 (some v)),h:=h,n:=n,gz:=[] }
theorem amA(es rt:ae)(n:Nat)(cs vc:ai):c6 (fD (kY []) 87 [.dj (some (8,0)) n n 1] (xS cO cP b fl nx lf es rt [(8,.deep cs)]) 9 (.ew [],(xS cO cP b fl nx lf es rt [(8,.deep cs)]).set 8 (some (.deep vc)),9)) [] 8 Tryz.f61 [] (de 2 En) (sS2 (xS cO cP b fl nx lf es rt [(8,.deep cs)]) 9 (.dj (some (8,0)) n n 1)) [([],
   [fo [.dj (some (8,0)) n n 1] (hL (eO (pS cO cP b fl nx lf es rt)++[(7,.cells [.map (some 6)]),(8,.deep cs)])) 9],
   .ret (.dj (some (8,0)) n n 1) (hL (eO (pS cO cP b fl nx lf es rt)++[(7,.cells [.map (some 6)]),(8,.deep vc)])) 9)]
 :=cQ.of U U U
theorem amB(es rt:ae):c6 (kY []) [] 8 Tryz.f61 [] (de 2 En) (sS2 (xS cO cP b fl nx lf es rt []) 8 eI) [([],
   [((0:Int)<=(0:Int)/\0<256)],
   .ret (.dj none 0 0 0) (hL (eO (pS cO cP b fl nx lf es rt)++[(7,.cells [.map (some 6)])])) 8)]
 :=cQ.of U U U
theorem amC(es rt:ae)(x:aa):c6 (kY []) [] 8 Tryz.f61 [] (de 2 En) (sS2 (xS cO cP b fl nx lf es rt [(8,.cells [.str x])]) 9 (.dj (some (8,0)) 1 1 1)) [([],
   [((0:Int)<=(1:Int)/\1<256)],
   .ret (.dj (some (8,0)) 1 1 1) (hL (eO (pS cO cP b fl nx lf es rt)++[(7,.cells [.map (some 6)]),(8,.cells [.str x])])) 9)]
 :=cQ.of U U U
def hKf(es rt:ae)(row:af):Tr O:=hL (eO (pS cO cP b fl nx lf es rt)++row)
theorem afE(es rt:ae)(n:Nat)(cs:ai):c6 (fD (kY []) 61 [w88] (xS cO cP b fl nx lf es rt []) 8 (.dj (some (8,0)) n n 1,xS cO cP b fl nx lf es rt [(8,.deep cs)],9)) [] 7 Tryz.f23 [] (Om) (cS [P3] (eu (pS cO cP b fl nx lf es rt)) 7) [([],
   [fo [.fn (.func 88) [] [.ptr (some (7,0))]] (hL (eO (pS cO cP b fl nx lf es rt)++[(7,.cells [.map (some 6)])])) 8],
   .ret (.dj (some (7,0)) n n 1) (hL (eO (pS cO cP b fl nx lf es rt)++[(7,.deep cs)])) 8)]
 :=cQ.of U U U
theorem afF(es rt:ae):c6 (fD (kY []) 61 [w88] (xS cO cP b fl nx lf es rt []) 8 (eI,xS cO cP b fl nx lf es rt [],8)) [] 7 Tryz.f23 [] (Om) (cS [P3] (eu (pS cO cP b fl nx lf es rt)) 7) [([],
   [fo [.fn (.func 88) [] [.ptr (some (7,0))]] (hL (eO (pS cO cP b fl nx lf es rt)++[(7,.cells [.map (some 6)])])) 8],
   .ret (.dj none 0 0 0) (eu (pS cO cP b fl nx lf es rt)) 7)]
 :=cQ.of U U U
theorem afG(es rt:ae)(x:aa):c6 (fD (kY []) 61 [w88] (xS cO cP b fl nx lf es rt []) 8 (.dj (some (8,0)) 1 1 1,xS cO cP b fl nx lf es rt [(8,.cells [.str x])],9)) [] 7 Tryz.f23 [] (Om) (cS [P3] (eu (pS cO cP b fl nx lf es rt)) 7) [([],
   [fo [.fn (.func 88) [] [.ptr (some (7,0))]] (hL (eO (pS cO cP b fl nx lf es rt)++[(7,.cells [.map (some 6)])])) 8],
   .ret (.dj (some (7,0)) 1 1 1) (hL (eO (pS cO cP b fl nx lf es rt)++[(7,.cells [.str x])])) 8)]
 :=cQ.of U U U
end
end Go.Proofs.YtfihojpgobmmdaaGreatDoor
