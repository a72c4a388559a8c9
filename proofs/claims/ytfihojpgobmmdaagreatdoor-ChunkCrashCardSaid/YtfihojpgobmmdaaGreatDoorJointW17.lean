/- The Chunk laws: octet.Reader: Var: pieces. No conditions. -/
import Derived.Test.YtfihojpgobmmdaaGreatDoorJointW07
import Derived.Test.YtfihojpgobmmdaaGreatDoorJointW16
import Derived.Test.YtfihojpgobmmdaaGreatDoorJointW13
import Derived.Test.YtfihojpgobmmdaaGreatDoorJointW14
import Derived.Test.YtfihojpgobmmdaaGreatDoorJointW11
import Derived.Test.YtfihojpgobmmdaaGreatDoorJointW15
import Derived.Shelf.SlicesG.Clone
set_option linter.unusedVariables false
set_option linter.unusedSimpArgs false
set_option linter.unusedSectionVars false
set_option maxRecDepth 20000
namespace Go.Proofs.YtfihojpgobmmdaaGreatDoor
open Go Go.Eng
noncomputable abbrev OQ:Code:=dS Tryz.f110
noncomputable abbrev Vj:Code:=de 3 OQ
noncomputable abbrev afk:Code:=dK Vj
noncomputable abbrev alN:Code:=dx (dx (dV afk))
abbrev Px:V:=.ptr (some (3,0))
section
variable(s:aa)(a:Nat)(u:Int)(m i:Nat)(b:UInt8)
abbrev GZ(f:Bool):ag:=[.str s,.int .i64 (Int.ofNat a),.bool f]
def uS(i:Nat):Int:=IntKind.u64.wrap (Int.ofNat (BitVec.ofInt 64 u|||BitVec.ofInt 64 (IntKind.u64.wrap (IntKind.u64.wrap (IntKind.u8.wrap (Int.ofNat (BitVec.ofInt 8 (Int.ofNat b.toNat)&&&BitVec.ofInt 8 (127:Int)).toNat))*(2:Int)^min (Int.ofNat (7*i)).toNat 64))).toNat)
def Yr:St:=eF [(0,Px),(3,.int .u64 u),(16,.int .i64 (Int.ofNat m)),(17,.int .i64 (Int.ofNat i))] (hP (GZ s a false)) 4
theorem afl(a:Int):c7 (kW []) [] 4 Tryz.f110 [] (OQ) (cT [Px] (hP [.str s,.int .i64 a,.bool true]) 4) [([],
   [],
   .ret (.int .i64 0) (hL [(3,.cells [.str s,.int .i64 a,.bool true])]) 4)]
 :=cQ.of U U U
theorem afm:c7 (kW []) [] 4 Tryz.f110 [0,3] (eO 3 OQ) (cT [Px] (hP (GZ s a false)) 4) [([],
   [],
   .to .normal (eF [(0,.ptr (some (3,0))),(3,.int .u64 0)] (hL [(3,.cells [.str s,.int .i64 (Int.ofNat a),.bool false])]) 4))]
 :=cQ.of U U U
theorem afn:c7 (kW []) [(16,.dc (.int .i64 (Int.ofNat m))),(17,.dc (.int .i64 (Int.ofNat 0)))] 4 Tryz.f110 [0,3,16,17] (dK afk) (eF [(0,Px),(3,.int .u64 0)] (hP (GZ s a false)) 4) [([],
   [(V.int aj (if IntKind.i64.wrap ((Int.ofNat s.length)-Int.ofNat a)<(10:Int)then IntKind.i64.wrap ((Int.ofNat s.length)-Int.ofNat a)else(10:Int))=V.int aj (Int.ofNat m)),(V.int aj (0:Int)=V.int aj (0:Int))],
   .to .normal (eF [(0,.ptr (some (3,0))),(3,.int .u64 0),(16,.int .i64 (Int.ofNat m)),(17,.int .i64 0)] (hL [(3,.cells [.str s,.int .i64 (Int.ofNat a),.bool false])]) 4))]
 :=cQ.of U U U
abbrev kX(u:Int)(b:UInt8):Prop:=V.int IntKind.u64 (IntKind.u64.wrap (Int.ofNat (BitVec.ofInt 64 u|||BitVec.ofInt 64 (IntKind.u64.wrap (IntKind.u64.wrap (IntKind.u8.wrap (Int.ofNat (BitVec.ofInt 8 (Int.ofNat b.toNat)&&&BitVec.ofInt 8 (127:Int)).toNat))*(2:Int)^min (7*i) 64))).toNat))=V.int IntKind.u64 (uS u b i)
abbrev kY:Prop:=V.int IntKind.u8 (Int.ofNat (s.getD (a+i) (0:UInt8)).toNat)=V.int IntKind.u8 (Int.ofNat b.toNat)
theorem afo(u:Int)(b:UInt8):c7 (kW []) [(18,.split),(29,.dc (.int .i64 (Int.ofNat (a+i)))),(30,.dc (.int .u8 (Int.ofNat b.toNat))),(36,.dc (.int .i64 (Int.ofNat (7*i)))),(38,.dc (.int .u64 (uS u b i))),(40,.split),(43,.split),(47,.split),(50,.split),(54,.split),(61,.dc (.int .i64 (Int.ofNat (a+(i+1))))),(66,.dc (.int .i64 (Int.ofNat (i+1))))] 4 Tryz.f110 [0,3,16,17] (alN) (Yr s a u m i) [([((decide (Int.ofNat i<Int.ofNat m)),true),((decide (Int.ofNat b.toNat>=(128:Int))),true)],
   [kQ (Int.ofNat a+Int.ofNat i) (a+i),((0:Int)<=Int.ofNat (a+i)/\(a+i)<s.length),kY s a i b,kQ ((7:Int)*Int.ofNat i) (7*i),kX i u b,kQ (Int.ofNat i+(1:Int)) (i+1)],
   .to .normal (eF [(0,.ptr (some (3,0))),(3,.int .u64 (uS u b i)),(16,.int .i64 (Int.ofNat m)),(17,.int .i64 (Int.ofNat (i+1)))] (hL [(3,.cells [.str s,.int .i64 (Int.ofNat a),.bool false])]) 4)),
  ([((decide (Int.ofNat i<Int.ofNat m)),true),((decide (Int.ofNat b.toNat>=(128:Int))),false),((decide (Int.ofNat i>(0:Int))),true),((Int.ofNat b.toNat==(0:Int)),true),(true,true)],
   [kQ (Int.ofNat a+Int.ofNat i) (a+i),((0:Int)<=Int.ofNat (a+i)/\(a+i)<s.length),kY s a i b,kQ ((7:Int)*Int.ofNat i) (7*i),kX i u b],
   .to (.exit 0) (eF [(0,.ptr (some (3,0))),(3,.int .u64 (uS u b i)),(16,.int .i64 (Int.ofNat m)),(17,.int .i64 (Int.ofNat i))] (hL [(3,.cells [.str s,.int .i64 (Int.ofNat a),.bool false])]) 4)),
  ([((decide (Int.ofNat i<Int.ofNat m)),true),((decide (Int.ofNat b.toNat>=(128:Int))),false),((decide (Int.ofNat i>(0:Int))),true),((Int.ofNat b.toNat==(0:Int)),true),(true,false)],
   [kQ (Int.ofNat a+Int.ofNat i) (a+i),((0:Int)<=Int.ofNat (a+i)/\(a+i)<s.length),kY s a i b,kQ ((7:Int)*Int.ofNat i) (7*i),kX i u b,kQ (Int.ofNat a+IntKind.i64.wrap (Int.ofNat i+(1:Int))) (a+(i+1))],
   .ret (.int .i64 (IntKind.i64.wrap (uS u b i))) (hL [(3,.cells [.str s,.int .i64 (Int.ofNat (a+(i+1))),.bool false])]) 4),
  ([((decide (Int.ofNat i<Int.ofNat m)),true),((decide (Int.ofNat b.toNat>=(128:Int))),false),((decide (Int.ofNat i>(0:Int))),true),((Int.ofNat b.toNat==(0:Int)),false),((Int.ofNat i==(9:Int)),true),((decide (Int.ofNat b.toNat>(1:Int))),true)],
   [kQ (Int.ofNat a+Int.ofNat i) (a+i),((0:Int)<=Int.ofNat (a+i)/\(a+i)<s.length),kY s a i b,kQ ((7:Int)*Int.ofNat i) (7*i),kX i u b],
   .to (.exit 0) (eF [(0,.ptr (some (3,0))),(3,.int .u64 (uS u b i)),(16,.int .i64 (Int.ofNat m)),(17,.int .i64 (Int.ofNat i))] (hL [(3,.cells [.str s,.int .i64 (Int.ofNat a),.bool false])]) 4)),
  ([((decide (Int.ofNat i<Int.ofNat m)),true),((decide (Int.ofNat b.toNat>=(128:Int))),false),((decide (Int.ofNat i>(0:Int))),true),((Int.ofNat b.toNat==(0:Int)),false),((Int.ofNat i==(9:Int)),true),((decide (Int.ofNat b.toNat>(1:Int))),false)],
   [kQ (Int.ofNat a+Int.ofNat i) (a+i),((0:Int)<=Int.ofNat (a+i)/\(a+i)<s.length),kY s a i b,kQ ((7:Int)*Int.ofNat i) (7*i),kX i u b,kQ (Int.ofNat a+IntKind.i64.wrap (Int.ofNat i+(1:Int))) (a+(i+1))],
   .ret (.int .i64 (IntKind.i64.wrap (uS u b i))) (hL [(3,.cells [.str s,.int .i64 (Int.ofNat (a+(i+1))),.bool false])]) 4),
  ([((decide (Int.ofNat i<Int.ofNat m)),true),((decide (Int.ofNat b.toNat>=(128:Int))),false),((decide (Int.ofNat i>(0:Int))),true),((Int.ofNat b.toNat==(0:Int)),false),((Int.ofNat i==(9:Int)),false),(false,true)],
   [kQ (Int.ofNat a+Int.ofNat i) (a+i),((0:Int)<=Int.ofNat (a+i)/\(a+i)<s.length),kY s a i b,kQ ((7:Int)*Int.ofNat i) (7*i),kX i u b],
   .to (.exit 0) (eF [(0,.ptr (some (3,0))),(3,.int .u64 (uS u b i)),(16,.int .i64 (Int.ofNat m)),(17,.int .i64 (Int.ofNat i))] (hL [(3,.cells [.str s,.int .i64 (Int.ofNat a),.bool false])]) 4)),
  ([((decide (Int.ofNat i<Int.ofNat m)),true),((decide (Int.ofNat b.toNat>=(128:Int))),false),((decide (Int.ofNat i>(0:Int))),true),((Int.ofNat b.toNat==(0:Int)),false),((Int.ofNat i==(9:Int)),false),(false,false)],
   [kQ (Int.ofNat a+Int.ofNat i) (a+i),((0:Int)<=Int.ofNat (a+i)/\(a+i)<s.length),kY s a i b,kQ ((7:Int)*Int.ofNat i) (7*i),kX i u b,kQ (Int.ofNat a+IntKind.i64.wrap (Int.ofNat i+(1:Int))) (a+(i+1))],
   .ret (.int .i64 (IntKind.i64.wrap (uS u b i))) (hL [(3,.cells [.str s,.int .i64 (Int.ofNat (a+(i+1))),.bool false])]) 4),
  ([((decide (Int.ofNat i<Int.ofNat m)),true),((decide (Int.ofNat b.toNat>=(128:Int))),false),((decide (Int.ofNat i>(0:Int))),false),(false,true),(true,true)],
   [kQ (Int.ofNat a+Int.ofNat i) (a+i),((0:Int)<=Int.ofNat (a+i)/\(a+i)<s.length),kY s a i b,kQ ((7:Int)*Int.ofNat i) (7*i),kX i u b],
   .to (.exit 0) (eF [(0,.ptr (some (3,0))),(3,.int .u64 (uS u b i)),(16,.int .i64 (Int.ofNat m)),(17,.int .i64 (Int.ofNat i))] (hL [(3,.cells [.str s,.int .i64 (Int.ofNat a),.bool false])]) 4)),
  ([((decide (Int.ofNat i<Int.ofNat m)),true),((decide (Int.ofNat b.toNat>=(128:Int))),false),((decide (Int.ofNat i>(0:Int))),false),(false,true),(true,false)],
   [kQ (Int.ofNat a+Int.ofNat i) (a+i),((0:Int)<=Int.ofNat (a+i)/\(a+i)<s.length),kY s a i b,kQ ((7:Int)*Int.ofNat i) (7*i),kX i u b,kQ (Int.ofNat a+IntKind.i64.wrap (Int.ofNat i+(1:Int))) (a+(i+1))],
   .ret (.int .i64 (IntKind.i64.wrap (uS u b i))) (hL [(3,.cells [.str s,.int .i64 (Int.ofNat (a+(i+1))),.bool false])]) 4),
  ([((decide (Int.ofNat i<Int.ofNat m)),true),((decide (Int.ofNat b.toNat>=(128:Int))),false),((decide (Int.ofNat i>(0:Int))),false),(false,false),((Int.ofNat i==(9:Int)),true),((decide (Int.ofNat b.toNat>(1:Int))),true)],
   [kQ (Int.ofNat a+Int.ofNat i) (a+i),((0:Int)<=Int.ofNat (a+i)/\(a+i)<s.length),kY s a i b,kQ ((7:Int)*Int.ofNat i) (7*i),kX i u b],
   .to (.exit 0) (eF [(0,.ptr (some (3,0))),(3,.int .u64 (uS u b i)),(16,.int .i64 (Int.ofNat m)),(17,.int .i64 (Int.ofNat i))] (hL [(3,.cells [.str s,.int .i64 (Int.ofNat a),.bool false])]) 4)),
  ([((decide (Int.ofNat i<Int.ofNat m)),true),((decide (Int.ofNat b.toNat>=(128:Int))),false),((decide (Int.ofNat i>(0:Int))),false),(false,false),((Int.ofNat i==(9:Int)),true),((decide (Int.ofNat b.toNat>(1:Int))),false)],
   [kQ (Int.ofNat a+Int.ofNat i) (a+i),((0:Int)<=Int.ofNat (a+i)/\(a+i)<s.length),kY s a i b,kQ ((7:Int)*Int.ofNat i) (7*i),kX i u b,kQ (Int.ofNat a+IntKind.i64.wrap (Int.ofNat i+(1:Int))) (a+(i+1))],
   .ret (.int .i64 (IntKind.i64.wrap (uS u b i))) (hL [(3,.cells [.str s,.int .i64 (Int.ofNat (a+(i+1))),.bool false])]) 4),
  ([((decide (Int.ofNat i<Int.ofNat m)),true),((decide (Int.ofNat b.toNat>=(128:Int))),false),((decide (Int.ofNat i>(0:Int))),false),(false,false),((Int.ofNat i==(9:Int)),false),(false,true)],
   [kQ (Int.ofNat a+Int.ofNat i) (a+i),((0:Int)<=Int.ofNat (a+i)/\(a+i)<s.length),kY s a i b,kQ ((7:Int)*Int.ofNat i) (7*i),kX i u b],
   .to (.exit 0) (eF [(0,.ptr (some (3,0))),(3,.int .u64 (uS u b i)),(16,.int .i64 (Int.ofNat m)),(17,.int .i64 (Int.ofNat i))] (hL [(3,.cells [.str s,.int .i64 (Int.ofNat a),.bool false])]) 4)),
  ([((decide (Int.ofNat i<Int.ofNat m)),true),((decide (Int.ofNat b.toNat>=(128:Int))),false),((decide (Int.ofNat i>(0:Int))),false),(false,false),((Int.ofNat i==(9:Int)),false),(false,false)],
   [kQ (Int.ofNat a+Int.ofNat i) (a+i),((0:Int)<=Int.ofNat (a+i)/\(a+i)<s.length),kY s a i b,kQ ((7:Int)*Int.ofNat i) (7*i),kX i u b,kQ (Int.ofNat a+IntKind.i64.wrap (Int.ofNat i+(1:Int))) (a+(i+1))],
   .ret (.int .i64 (IntKind.i64.wrap (uS u b i))) (hL [(3,.cells [.str s,.int .i64 (Int.ofNat (a+(i+1))),.bool false])]) 4),
  ([((decide (Int.ofNat i<Int.ofNat m)),false)],
   [],
   .to (.exit 0) (eF [(0,.ptr (some (3,0))),(3,.int .u64 u),(16,.int .i64 (Int.ofNat m)),(17,.int .i64 (Int.ofNat i))] (hL [(3,.cells [.str s,.int .i64 (Int.ofNat a),.bool false])]) 4))]
 :=cQ.of U U U
theorem afp(u:Int):c7 (kW []) [] 4 Tryz.f110 [] (dV Vj) (Yr s a u m i) [([],
   [],
   .ret (.int .i64 0) (hL [(3,.cells [.str s,.int .i64 (Int.ofNat a),.bool true])]) 4)]
 :=cQ.of U U U
end
theorem Vk:aaM:=by
 refine⟨dP,fun j hj=>?_,au rfl⟩;rcases j with _|_|_|j
 . exact⟨(0,0),by simp[jN],rfl⟩
 . exact⟨(1,1),by simp[jN],rfl⟩
 . exact⟨(2,2),by simp[jN],rfl⟩
 . have:gN=3:=rfl;omega
def OR(s:aa)(a:Nat):Nat->Nat->Int->Option (Int×Nat)
 |0,_,_=>none
 |k+1,i,u=>if 128<=(s.getD (a+i) 0).toNat then OR s a k (i+1) (uS u (s.getD (a+i) 0) i)
  else if(0<i/\(s.getD (a+i) 0).toNat=0)\/(i=9/\1<(s.getD (a+i) 0).toNat)then none else some (IntKind.i64.wrap (uS u (s.getD (a+i) 0) i),i+1)
def wY(s:aa)(a:Nat):Nat:=min 10 (s.length-a)
section
variable(s:aa)(a:Nat)
def wZ:Option (Int×Nat):=OR s a (wY s a) 0 0
def Py:Int×Nat×Bool:=match wZ s a with
 |some (v,k)=>(v,a+k,false)
 |none=>(0,a,true)
theorem lJ{n:Nat}(h:n<=9000000000000000000):IntKind.i64.wrap (n:Int)=(n:Int):=fE be be
theorem kZ:∀n:Nat,Int.ofNat n=(n:Int):=fun _=>rfl
abbrev Vl(v:V)(h:Tr O)(n:Nat):Prop:=v= .int .i64 (Py s a).1/\h=hP (GZ s (Py s a).2.1 (Py s a).2.2)/\n=4
theorem alO(ha:a<=s.length)(hs:s.length<=1000000000):TG ak 4 Tryz.f110.ntmps OQ (cT [Px] (hP (GZ s a false)) 4) (fH ak 4 Tryz.f110 (Vl s a)):=by
 refine iO  3 (XQ []) (afm s a) cR ?_;refine cV U ?_;refine cV U ?_;obtain⟨L2,Fc⟩:=afn s a (wY s a);have hm:wY s a<=10/\wY s a<=s.length-a:=⟨Nat.min_le_left _ _,Nat.min_le_right _ _⟩;have Uf:(if IntKind.i64.wrap ((Int.ofNat s.length)-Int.ofNat a)<(10:Int)then IntKind.i64.wrap ((Int.ofNat s.length)-Int.ofNat a)else(10:Int))=Int.ofNat (wY s a):=by
  have hw:IntKind.i64.wrap ((Int.ofNat s.length)-Int.ofNat a)=((s.length-a:Nat):Int):=by
   have:(Int.ofNat s.length)-Int.ofNat a=((s.length-a:Nat):Int):=by rw[kZ,kZ];omega
   rw[this];exact lJ be
  rw[hw,kZ];unfold wY;split<;>omega
 refine gy (XQ []) mo lT U Fc (dG ?_);refine⟨cq.2 ⟨by rw[Uf],cq.2 ⟨rfl,cR⟩⟩,fun s' dL=>?_⟩;have N9:∀u i,wZ s a=none->TG ak 4 Tryz.f110.ntmps (dV Vj) (Yr s a u (wY s a) i) (fH ak 4 Tryz.f110 (Vl s a)):=by
  intro u i hn;refine fu (XQ []) (afp s a (wY s a) i u) (dG ?_);refine⟨cR,_,_,_,rfl,?_⟩;unfold Vl Py;rw[hn];exact⟨rfl,rfl,rfl⟩
 refine j9 (α:=Nat×Int) 0 (fun x=>wY s a-x.1) (fun x=>x.1<=wY s a/\wZ s a=OR s a (wY s a-x.1) x.1 x.2) (fun x=>Yr s a x.2 (wY s a) x.1) U U (0,0) ⟨aY _,rfl⟩ (.norm dL) ?_;rintro⟨i,u⟩ ⟨hi,hv⟩;simp only at hi hv ⊢;have alP:∀b:UInt8,b.toNat<256:=fun b=>b.toNat_lt;obtain⟨L3,wv⟩:=afo s a (wY s a) i u (s.getD (a+i) 0);refine gy (XQ []) mo (Vl s a) U wv fun g hg hc=>?_;have hA:∀k,i<wY s a->k<1000000000->(0:Int)<=Int.ofNat (a+i)/\(Int.ofNat (a+i)).toNat<s.length:=fun k h _=>by rw[kZ];constructor<;>omega
 by_cases fJ:i<wY s a
 case neg=>
  have hn:wZ s a=none:=by rw[hv,show wY s a-i=0 by omega];rfl
  simp only[aE,aM,bt]at hg;have hf:decide (Int.ofNat i<Int.ofNat (wY s a))=false:=bw dh;rcases hg with rfl|rfl|rfl|rfl|rfl|rfl|rfl|rfl|rfl|rfl|rfl|rfl|rfl|rfl
  all_goals first
   |(have:=hc _ (aP ..);simp only[hf]at this;cases this;done)
   |skip
  exact⟨cR,fun s' dL=>by simp only[andThen,dY];exact c6 dL (N9 u i hn)⟩
 case pos=>
 have e1:kQ (Int.ofNat a+Int.ofNat i) (a+i):=fG dh be;have e2:=hA 0 fJ dP;have e3:kY s a i (s.getD (a+i) 0):=rfl;have e4:kQ ((7:Int)*Int.ofNat i) (7*i):=fG dh be;have e5:kX i u (s.getD (a+i) 0):=rfl;have e6:kQ (Int.ofNat i+(1:Int)) (i+1):=fG dh be;have e7:kQ (Int.ofNat a+IntKind.i64.wrap (Int.ofNat i+(1:Int))) (a+(i+1)):=by
  have:IntKind.i64.wrap (Int.ofNat i+(1:Int))=((i+1:Nat):Int):=by
   have:Int.ofNat i+1=((i+1:Nat):Int):=by rw[kZ];omega
   rw[this];exact lJ be
  exact fG (by rw[this,kZ];omega) be
 have I0:wZ s a=if 128<=(s.getD (a+i) 0).toNat then OR s a (wY s a-(i+1)) (i+1) (uS u (s.getD (a+i) 0) i)
  else if(0<i/\(s.getD (a+i) 0).toNat=0)\/(i=9/\1<(s.getD (a+i) 0).toNat)then none else some (IntKind.i64.wrap (uS u (s.getD (a+i) 0) i),i+1):=by
  rw[hv,show wY s a-i=(wY s a-(i+1))+1 by omega];rfl
 generalize s.getD (a+i) 0=b at *;have uc:128<=b.toNat->∀s',eX 4 [0,3,16,17] s'=some (Yr s a (uS u b i) (wY s a) (i+1))->∃x':Nat×Int,wY s a-x'.1<wY s a-i/\(x'.1<=wY s a/\wZ s a=OR s a (wY s a-x'.1) x'.1 x'.2)/\gu ak 4 Tryz.f110.ntmps s' (Yr s a x'.2 (wY s a) x'.1):=fun h s' dL=>
  ⟨(i+1,uS u b i),by simp only;omega,⟨by simp only;omega,by rw[I0,aG h]⟩,.norm dL⟩
 have RN:¬128<=b.toNat->((0<i/\b.toNat=0)\/(i=9/\1<b.toNat))->∀s',eX 4 [0,3,16,17] s'=some (Yr s a (uS u b i) (wY s a) i)->TG ak 4 Tryz.f110.ntmps (dV Vj) s' (fH ak 4 Tryz.f110 (Vl s a)):=fun h1 h2 s' dL=>
  c6 dL (N9 _ _ (by rw[I0,aI h1,aG h2]))
 have Lr:¬128<=b.toNat->¬((0<i/\b.toNat=0)\/(i=9/\1<b.toNat))->Vl s a (.int .i64 (IntKind.i64.wrap (uS u b i))) (hL [(3,.cells [.str s,.int .i64 (Int.ofNat (a+(i+1))),.bool false])]) 4:=fun h1 h2=>by
  unfold Vl Py;rw[I0,aI h1,aI h2];exact⟨rfl,rfl,rfl⟩
 have q1:(decide (Int.ofNat b.toNat>=(128:Int)))=decide (128<=b.toNat):=by rw[kZ];exact decide_eq_decide.2 be
 have q2:(decide (Int.ofNat i>(0:Int)))=decide (0<i):=by rw[kZ];exact decide_eq_decide.2 be
 have q3:(Int.ofNat b.toNat==(0:Int))=decide (b.toNat=0):=by
  rw[kZ];by_cases h:b.toNat=0
  . simp[h]
  . rw[bw h];simpa using h
 have q4:(Int.ofNat i==(9:Int))=decide (i=9):=by
  rw[kZ];by_cases h:i=9
  . simp[h]
  . rw[bw h];exact beq_false_of_ne be
 have q5:(decide (Int.ofNat b.toNat>(1:Int)))=decide (1<b.toNat):=by rw[kZ];exact decide_eq_decide.2 be
 simp only[aE,aM,bt]at hg;rw[q1,q2,q3,q4,q5]at hg;have A5:=fm e1 (fm e2 (fm e3 (fm e4 (eR e5))));have A6:=fm e1 (fm e2 (fm e3 (fm e4 (fm e5 (eR e6)))));have A7:=fm e1 (fm e2 (fm e3 (fm e4 (fm e5 (eR e7)))));have RN:¬128<=b.toNat->((0<i/\b.toNat=0)\/(i=9/\1<b.toNat))->∀(Q1:St->Prop) (s':St),eX 4 [0,3,16,17] s'=some (Yr s a (uS u b i) (wY s a) i)->andThen Q1 (mj 0 (andThen (fun s'=>TG ak 4 Tryz.f110.ntmps (dV (de 3 OQ)) s' (fH ak 4 Tryz.f110 (Vl s a))) (fH ak 4 Tryz.f110 (Vl s a)))) (.exit 0) s':=fun h1 h2 Q1 s' dL=>by
  simp only[andThen,dY];exact RN h1 h2 s' dL
 rcases hg with rfl|rfl|rfl|rfl|rfl|rfl|rfl|rfl|rfl|rfl|rfl|rfl|rfl|rfl
 all_goals
  simp only[aE,aM,bt,forall_eq_or_imp,forall_eq,bC,decide_eq_false_iff_not,reduceCtorEq,and_false,and_true]at hc
 all_goals first|exact hc.elim|skip
 . exact⟨A6,fun s' dL=>uc hc.2 s' dL⟩
 . exact⟨A5,fun s' dL=>RN hc.2.1 be _ s' dL⟩
 . exact⟨A5,fun s' dL=>RN hc.2.1 be _ s' dL⟩
 all_goals first
  |exact⟨A7,Lr hc.2.1 be,fun s' dL=>dL⟩
  |exact⟨A5,fun s' dL=>RN hc.2.1 be _ s' dL⟩
  |exact absurd fJ (by rw[kZ,kZ]at hc;omega)
end
section
variable(s:aa)(a:Nat)(n:Int)
def iC(f:Bool):Int×Nat×Bool:=if f then(0,a,true)else Py s a
theorem aaO(h:a<=s.length):(Py s a).2.1<=s.length/\a<=(Py s a).2.1:=by
 have key:∀k i u v n,i+k<=s.length-a->OR s a k i u=some (v,n)->n<=s.length-a:=by
  intro k
  induction k with
  |zero=>intro i u v n _ e;cases e
  |succ k ih=>
   intro i u v n hi e;unfold OR at e;split at e
   . exact ih _ _ _ _ be e
   . split at e
     . cases e
     . simp only[an,aB]at e;omega
 unfold Py;have hm:wY s a<=s.length-a:=Nat.min_le_right _ _;cases e:wZ s a with
 |none=>exact⟨h,aA _⟩
 |some p=>
  have:=key _ _ _ _ _ be e;exact⟨by simp only;omega,by simp only;omega⟩
def spV:ag->ag->Option (ah×V×ag)
 | [.str s,.int .i64 x,.bool f],[]=>some ([0<=x/\x.toNat<=s.length,s.length<=1000000000],.int .i64 (iC s x.toNat f).1,GZ s (iC s x.toNat f).2.1 (iC s x.toNat f).2.2)
 |_,_=>none
theorem aaP:jG ak 110 (Er spV):=by
 refine BQ mo po Vk (au U) Tryz.func110 (code:=OQ) U fun cs args A v ve e hA=>⟨?_,?_⟩
 all_goals
  unfold spV at e;split at e
  case h_2=>cases e
  rename_i s x f;simp only[an,aB]at e;obtain⟨rfl,rfl,rfl⟩:=e
 . kernel_rfl
 obtain⟨a1,a2⟩:=hA _ (aP ..);have a3:s.length<=1000000000:=hA (s.length<=1000000000) (by simp);obtain⟨a,rfl⟩:∃a:Nat,x=Int.ofNat a:=⟨x.toNat,(Int.toNat_of_nonneg a1).symm⟩;have a2:a<=s.length:=a2;cases f with
 |false=>exact alO s a a2 a3
 |true=>
  refine fu (XQ []) (afl s (Int.ofNat a)) (dG ?_);exact⟨cR,_,_,_,rfl,rfl,rfl,rfl⟩
noncomputable abbrev W17:jL:=kA 110 (Er spV) W14
theorem RO:gd ak W17:=fk aaP Li
noncomputable abbrev alS:e9:=gG ak W17 H0 1000 40
noncomputable abbrev X17:CX ak:=CX.of mo po RO H0 1000 40
noncomputable abbrev aaQ:Code:=dS Tryz.f111
theorem alT:c7 alS [] 4 Tryz.f111 [] (aaQ) (cT [Px,.int .i64 n] (hP (GZ s a true)) 4) [([],
   [],
   .ret (.str []) (hL [(3,.cells [.str s,.int .i64 (Int.ofNat a),.bool true])]) 4)]
 :=cQ.of U U U
abbrev RP:Prop:=(0:Int)<=Int.ofNat (a+n.toNat)/\Int.ofNat (a+n.toNat)<=(Int.ofNat s.length)
theorem alU(l:Nat)(n:Int):c7 (kW [(105,[(14,.dc (.int .i64 (Int.ofNat l)))])]) [(17,.split),(22,.split),(33,.dc (.int .i64 (Int.ofNat (a+n.toNat)))),(45,.dc (.int .i64 (Int.ofNat a)))] 4 Tryz.f111 [] (aaQ) (cT [Px,.int .i64 n] (hP (GZ s a false)) 4) [([((decide (n<(0:Int))),true),(true,true)],
   [],
   .ret (.str []) (hL [(3,.cells [.str s,.int .i64 (Int.ofNat a),.bool true])]) 4),
  ([((decide (n<(0:Int))),true),(true,false)],
   [kQ (Int.ofNat a+n) (a+n.toNat),kQ (Int.ofNat (a+n.toNat)-n) a,RP s a n,((0:Int)<=Int.ofNat a/\Int.ofNat a<=(Int.ofNat (a+n.toNat)))],
   .ret (.str (List.drop a (List.take (a+n.toNat) s))) (hL [(3,.cells [.str s,.int .i64 (Int.ofNat (a+n.toNat)),.bool false])]) 4),
  ([((decide (n<(0:Int))),false),((decide (n>Int.ofNat l)),true)],
   [kQ ((Int.ofNat s.length)-Int.ofNat a) l],
   .ret (.str []) (hL [(3,.cells [.str s,.int .i64 (Int.ofNat a),.bool true])]) 4),
  ([((decide (n<(0:Int))),false),((decide (n>Int.ofNat l)),false)],
   [kQ ((Int.ofNat s.length)-Int.ofNat a) l,kQ (Int.ofNat a+n) (a+n.toNat),kQ (Int.ofNat (a+n.toNat)-n) a,RP s a n,((0:Int)<=Int.ofNat a/\Int.ofNat a<=(Int.ofNat (a+n.toNat)))],
   .ret (.str (List.drop a (List.take (a+n.toNat) s))) (hL [(3,.cells [.str s,.int .i64 (Int.ofNat (a+n.toNat)),.bool false])]) 4)]
 :=cQ.of U U U
end
section
variable(s:aa)(a k:Nat)(f:Bool)(n:Int)(b:UInt8)(t:aa)(i:Nat)
def qM:aa×Nat×Bool:=if f=true\/n<0\/((s.length-a:Nat):Int)<n then([],a,true)else((s.drop a).take n.toNat,a+n.toNat,false)
theorem aaR(h:a<=s.length):(qM s a f n).2.1<=s.length:=by
 unfold qM;split
 . exact h
 . rename_i hn;simp only;omega
def spT:ag->ag->Option (ah×V×ag)
 | [.str s,.int .i64 x,.bool f],[.int .i64 n]=>some ([0<=x/\x.toNat<=s.length,s.length<=1000000000],.str (qM s x.toNat f n).1,GZ s (qM s x.toNat f n).2.1 (qM s x.toNat f n).2.2)
 |_,_=>none
theorem aaS:jG ak 111 (Er spT):=by
 refine BQ mo po Vk (au U) Tryz.func111 (code:=aaQ) U fun cs args A v ve e hA=>⟨?_,?_⟩
 all_goals
  unfold spT at e;split at e
  case h_2=>cases e
  rename_i s x f n;simp only[an,aB]at e;obtain⟨rfl,rfl,rfl⟩:=e
 . kernel_rfl
 obtain⟨a1,a2⟩:=hA _ (aP ..);have a3:s.length<=1000000000:=hA (s.length<=1000000000) (by simp);obtain⟨a,rfl⟩:∃a:Nat,x=Int.ofNat a:=⟨x.toNat,(Int.toNat_of_nonneg a1).symm⟩;have a2:a<=s.length:=a2;rw[show(Int.ofNat a).toNat=a from rfl];cases f with
 |true=>
  refine fu X17 (alT s a n) (dG ?_);exact⟨cR,_,_,_,rfl,rfl,rfl,rfl⟩
 |false=>
  obtain⟨L,hr⟩:=alU s a (s.length-a) n;have hl:kQ ((Int.ofNat s.length)-Int.ofNat a) (s.length-a):=fG dh be;refine iq (XQ [(105,[(14,.dc (.int .i64 (Int.ofNat (s.length-a))))])]) mo _ U hr fun g hg hc=>?_;simp only[aE,aM,bt]at hg;rcases hg with rfl|rfl|rfl|rfl
  all_goals
   simp only[aE,aM,bt,forall_eq_or_imp,forall_eq,bC,decide_eq_false_iff_not,reduceCtorEq,and_false,and_true,kZ]at hc
  . refine⟨cR,_,_,_,rfl,?_⟩;unfold qM;rw[aG (.inr (.inl hc))];exact⟨rfl,rfl,rfl⟩
  . refine⟨eR hl,_,_,_,rfl,?_⟩;unfold qM;rw[aG (.inr (.inr be))];exact⟨rfl,rfl,rfl⟩
  . obtain⟨h1,h2⟩:=hc;have hn:((n.toNat:Nat):Int)=n:=Int.toNat_of_nonneg be;refine⟨fm hl (fm (fG dh be) (fm (fG dh be) (fm ⟨az _,dh⟩ (eR ⟨az _,dh⟩)))),_,_,_,rfl,?_⟩;unfold qM;rw[aI (by simp only[aO,false_or];omega)];rw[List.drop_take,Nat.add_sub_cancel_left];exact⟨rfl,rfl,rfl⟩
noncomputable abbrev W18:jL:=kA 111 (Er spT) W17
theorem Ls:gd ak W18:=fk aaS RO
noncomputable abbrev Vm:e9:=gG ak W18 H0 1000 40
noncomputable abbrev X18:CX ak:=CX.of mo po Ls H0 1000 40
noncomputable abbrev afr:Code:=dS Tryz.f106
noncomputable abbrev Vn:Code:=dS Tryz.f107
noncomputable abbrev afs:Code:=de 2 Vn
noncomputable abbrev aft:Code:=dK afs
def sRN:St:=eF [(0,Px),(5,.int .i64 n),(12,.di (some (4,0)) t.length t.length 1),(13,.int .i64 (Int.ofNat t.length)),(14,.int .i64 (Int.ofNat i))] (hL [(3,.cells (GZ s a f)),(4,.own .u8 (dX t))]) 5
noncomputable abbrev afu:e9:=gG ak W18 (sw [(85,[(5,.dc (.int .i64 (Int.ofNat k)))])]) 1000 40
noncomputable abbrev alW:CX ak:=CX.of mo po Ls (sw [(85,[(5,.dc (.int .i64 (Int.ofNat k)))])]) 1000 40
def zi:Int:=IntKind.i64.wrap (Int.ofNat (BitVec.ofInt 64 (IntKind.i64.wrap (n*(256:Int)))|||BitVec.ofInt 64 (IntKind.i64.wrap (Int.ofNat b.toNat))).toNat)
abbrev RQ:Prop:=(0:Int)<=Int.ofNat (iC s a f).2.1/\(Int.ofNat (iC s a f).2.1).toNat<=s.length
theorem alX:c7 Vm [(21,.split)] 4 Tryz.f106 [] (afr) (cT [Px] (hP (GZ s a f)) 4) [([(((qM s (Int.ofNat (iC s a f).2.1).toNat (iC s a f).2.2 (iC s a f).1).2.2),true)],
   [((0:Int)<=Int.ofNat a/\a<=s.length),(s.length<=1000000000),RQ s a f,(s.length<=1000000000)],
   .ret (.str ((qM s (Int.ofNat (iC s a f).2.1).toNat (iC s a f).2.2 (iC s a f).1).1)) (hL [(3,.cells [.str s,.int .i64 (Int.ofNat a),.bool ((qM s (Int.ofNat (iC s a f).2.1).toNat (iC s a f).2.2 (iC s a f).1).2.2)])]) 4),
  ([(((qM s (Int.ofNat (iC s a f).2.1).toNat (iC s a f).2.2 (iC s a f).1).2.2),false)],
   [((0:Int)<=Int.ofNat a/\a<=s.length),(s.length<=1000000000),RQ s a f,(s.length<=1000000000)],
   .ret (.str ((qM s (Int.ofNat (iC s a f).2.1).toNat (iC s a f).2.2 (iC s a f).1).1)) (hL [(3,.cells [.str s,.int .i64 (Int.ofNat (qM s (Int.ofNat (iC s a f).2.1).toNat (iC s a f).2.2 (iC s a f).1).2.1),.bool ((qM s (Int.ofNat (iC s a f).2.1).toNat (iC s a f).2.2 (iC s a f).1).2.2)])]) 4)]
 :=cQ.of U U U
theorem alY(k:Nat):c7 Vm [] 4 Tryz.f107 [0,1,5] (eO 2 Vn) (cT [Px,.int .i64 (Int.ofNat k)] (hP (GZ s a f)) 4) [([],
   [],
   .to .normal (eF [(0,.ptr (some (3,0))),(1,.int .i64 (Int.ofNat k)),(5,.int .i64 0)] (hL [(3,.cells [.str s,.int .i64 (Int.ofNat a),.bool f])]) 4))]
 :=cQ.of U U U
theorem alZ(k:Nat):c7 (afu k) [(14,.dc (.int .i64 (Int.ofNat 0)))] 4 Tryz.f107 [0,5,12,13,14] (dK aft) (eF [(0,Px),(1,.int .i64 (Int.ofNat k)),(5,.int .i64 0)] (hP (GZ s a f)) 4) [([],
   [(V.int aj (if(if(8:Int)<Int.ofNat k then(8:Int)else Int.ofNat k)>(0:Int)then if(8:Int)<Int.ofNat k then(8:Int)else Int.ofNat k else(0:Int))=V.int aj (Int.ofNat k)),((0:Int)<=Int.ofNat a/\a<=s.length),(s.length<=1000000000),(V.int aj (0:Int)=V.int aj (0:Int))],
   .to .normal (eF [(0,.ptr (some (3,0))),(5,.int .i64 0),(12,.di (some (4,0)) ((qM s a f (Int.ofNat k)).1.length) ((qM s a f (Int.ofNat k)).1.length) 1),(13,.int .i64 ((Int.ofNat (qM s a f (Int.ofNat k)).1.length))),(14,.int .i64 0)] (hL [(3,.cells [.str s,.int .i64 (Int.ofNat (qM s a f (Int.ofNat k)).2.1),.bool ((qM s a f (Int.ofNat k)).2.2)]),(4,.own .u8 (dX (qM s a f (Int.ofNat k)).1))]) 5))]
 :=cQ.of U U U
theorem afv(b:UInt8):c7 Vm [(15,.split),(17,.dc (.int .u8 (Int.ofNat b.toNat))),(22,.dc (.int .i64 (zi n b))),(23,.dc (.int .i64 (Int.ofNat (i+1))))] 4 Tryz.f107 [0,5,12,13,14] (dx (dx (dV aft))) (sRN s a f n t i) [([((decide (Int.ofNat i<Int.ofNat t.length)),true)],
   [((0:Int)<=Int.ofNat i/\Int.ofNat i<(Int.ofNat t.length)),(0+i*1<(dX t).length),(V.int IntKind.u8 ((dX t).getD (0+i*1) (0:Int))=V.int IntKind.u8 (Int.ofNat b.toNat)),(V.int aj (IntKind.i64.wrap (Int.ofNat (BitVec.ofInt 64 (IntKind.i64.wrap (n*(256:Int)))|||BitVec.ofInt 64 (IntKind.i64.wrap (Int.ofNat b.toNat))).toNat))=V.int aj (zi n b)),kQ (Int.ofNat i+(1:Int)) (i+1)],
   .to .normal (eF [(0,.ptr (some (3,0))),(5,.int .i64 (zi n b)),(12,.di (some (4,0)) (t.length) (t.length) 1),(13,.int .i64 (Int.ofNat t.length)),(14,.int .i64 (Int.ofNat (i+1)))] (hL [(3,.cells [.str s,.int .i64 (Int.ofNat a),.bool f]),(4,.own .u8 (dX t))]) 5)),
  ([((decide (Int.ofNat i<Int.ofNat t.length)),false)],
   [],
   .to (.exit 0) (eF [(0,.ptr (some (3,0))),(5,.int .i64 n),(12,.di (some (4,0)) (t.length) (t.length) 1),(13,.int .i64 (Int.ofNat t.length)),(14,.int .i64 (Int.ofNat i))] (hL [(3,.cells [.str s,.int .i64 (Int.ofNat a),.bool f]),(4,.own .u8 (dX t))]) 5))]
 :=cQ.of U U U
theorem al0:c7 Vm [] 4 Tryz.f107 [] (dV afs) (sRN s a f n t i) [([],
   [],
   .ret (.int .i64 n) (hL [(3,.cells [.str s,.int .i64 (Int.ofNat a),.bool f])]) 4)]
 :=cQ.of U U U
end
section
variable(s:aa)(a:Nat)(f:Bool)(k:Nat)
theorem MV(h:a<=s.length):(iC s a f).2.1<=s.length:=by
 unfold iC;split
 . exact h
 . exact(aaO s a h).1
def hU:aa×Nat×Bool:=
 ((qM s (iC s a f).2.1 (iC s a f).2.2 (iC s a f).1).1,if(qM s (iC s a f).2.1 (iC s a f).2.2 (iC s a f).1).2.2 then a else(qM s (iC s a f).2.1 (iC s a f).2.2 (iC s a f).1).2.1,(qM s (iC s a f).2.1 (iC s a f).2.2 (iC s a f).1).2.2)
theorem Vo(h:a<=s.length):(hU s a f).2.1<=s.length:=by
 unfold hU;simp only;split
 . exact h
 . exact aaR _ _ _ _ (MV s a f h)
def spX:ag->ag->Option (ah×V×ag)
 | [.str s,.int .i64 x,.bool f],[]=>some ([0<=x/\x.toNat<=s.length,s.length<=1000000000],.str (hU s x.toNat f).1,GZ s (hU s x.toNat f).2.1 (hU s x.toNat f).2.2)
 |_,_=>none
theorem aaT:jG ak 106 (Er spX):=by
 refine BQ mo po Vk (au U) Tryz.func106 (code:=afr) U fun cs args A v ve e hA=>⟨?_,?_⟩
 all_goals
  unfold spX at e;split at e
  case h_2=>cases e
  rename_i s x f;simp only[an,aB]at e;obtain⟨rfl,rfl,rfl⟩:=e
 . kernel_rfl
 obtain⟨a1,a2⟩:=hA _ (aP ..);have a3:s.length<=1000000000:=hA (s.length<=1000000000) (by simp);obtain⟨a,rfl⟩:∃a:Nat,x=Int.ofNat a:=⟨x.toNat,(Int.toNat_of_nonneg a1).symm⟩;have a2:a<=s.length:=a2;rw[show(Int.ofNat a).toNat=a from rfl];obtain⟨L,hr⟩:=alX s a f;have h1:=MV s a f a2;refine iq X18 mo _ U hr fun g hg hc=>?_;simp only[aE,aM,bt]at hg;have A:∀p∈[((0:Int)<=Int.ofNat a/\a<=s.length),(s.length<=1000000000),((0:Int)<=Int.ofNat (iC s a f).2.1/\(Int.ofNat (iC s a f).2.1).toNat<=s.length),(s.length<=1000000000)],p:=
  fm ⟨az _,a2⟩ (fm a3 (fm ⟨az _,h1⟩ (eR a3)))
 rcases hg with rfl|rfl
 all_goals
  have q:=hc _ (aq.2 rfl);refine⟨A,_,_,_,rfl,rfl,?_,rfl⟩;have q:(hU s a f).2.2=_:=q;have q':(hU s a f).2.1=if(hU s a f).2.2 then a else(qM s (iC s a f).2.1 (iC s a f).2.2 (iC s a f).1).2.1:=rfl
  rw[q]at q';rw[q'];rfl
def yc:Int×Nat×Bool:=((qM s a f (Int.ofNat k)).1.foldl zi 0,(qM s a f (Int.ofNat k)).2.1,(qM s a f (Int.ofNat k)).2.2)
theorem Lt{t:aa}{i:Nat}{b:UInt8}(h:t[i]? =some b):(dX t).getD (0+i*1) 0=Int.ofNat b.toNat:=by
 unfold dX;rw[aL,bE,bj,br,h];rfl
theorem al2(f:Bool)(ha:a<=s.length)(hs:s.length<=1000000000)(hk:k<=8):TG ak 4 Tryz.f107.ntmps Vn (cT [Px,.int .i64 (Int.ofNat k)] (hP (GZ s a f)) 4)
  (fH ak 4 Tryz.f107 fun v h n=>v= .int .i64 (yc s a f k).1/\h=hP (GZ s (yc s a f k).2.1 (yc s a f k).2.2)/\n=4):=by
 refine iO  2 X18 (alY s a f k) cR ?_;refine cV U ?_;refine cV U ?_;refine fR (alW k) (alZ s a f k) (dG ?_);refine⟨fm (aN (V.int aj) ?_) (fm ⟨az _,ha⟩ (fm hs (eR rfl))),fun s' dL=>?_⟩
 . simp only[kZ];split<;>split<;>omega
 have iT:(qM s a f (Int.ofNat k)).1.length<=8:=by
  unfold qM;split
  . simp
  . simp only[aX,kZ,Int.toNat_natCast];omega
 unfold yc;generalize hT:qM s a f (Int.ofNat k)=T at dL iT ⊢;obtain⟨t,a1,f1⟩:=T;have dL:eX 4 [0,5,12,13,14] s'=some (sRN s a1 f1 ((t.take 0).foldl zi 0) t 0):=dL;simp only at iT ⊢;refine jj 0 t.length (fun i=>sRN s a1 f1 ((t.take i).foldl zi 0) t i) U U (.norm dL) (fun i hi=>?_) ?_
 . obtain⟨b,hb⟩:∃b,t[i]? =some b:=⟨_,ay hi⟩;refine fR X18 (afv s a1 f1 ((t.take i).foldl zi 0) t i b) fun g hg hc=>?_;simp only[aE,aM,bt]at hg;rcases hg with rfl|rfl
   . refine⟨fm ⟨az _,dh⟩ (fm (by simp only[dX,aW];omega) (fm (aN _ (Lt hb)) (fm rfl (eR (fG dh be))))),fun s' dL=>.norm (live:=[0,5,12,13,14]) ?_⟩;show _=some (sRN s a1 f1 ((t.take (i+1)).foldl zi 0) t (i+1));rw[bI,hb,cB,List.foldl_append];exact dL
   . exact absurd (aJ (hc _ (aq.2 rfl))) dh
 . refine fR X18 (afv s a1 f1 ((t.take t.length).foldl zi 0) t t.length 0) fun g hg hc=>?_;simp only[aE,aM,bt]at hg;rcases hg with rfl|rfl
   . exact absurd (aH (hc _ (aq.2 rfl))) be
   . refine⟨cR,fun s' dL=>⟨by simp,?_⟩⟩;rw[dY];simp only[andThen];have dL:eX 4 [0,5,12,13,14] s'=some (sRN s a1 f1 ((t.take t.length).foldl zi 0) t t.length):=dL;refine c6 dL ?_;refine fu X18 (al0 s a1 f1 ((t.take t.length).foldl zi 0) t t.length) (dG ?_);exact⟨cR,_,_,_,rfl,by rw[aS],rfl,rfl⟩
end
def spN:ag->ag->Option (ah×V×ag)
 | [.str s,.int .i64 x,.bool f],[.int .i64 k]=>some ([0<=x/\x.toNat<=s.length,s.length<=1000000000,0<=k/\k.toNat<=8],.int .i64 (yc s x.toNat f k.toNat).1,GZ s (yc s x.toNat f k.toNat).2.1 (yc s x.toNat f k.toNat).2.2)
 |_,_=>none
theorem aaU:jG ak 107 (Er spN):=by
 refine BQ mo po Vk (au U) Tryz.func107 (code:=Vn) U fun cs args A v ve e hA=>⟨?_,?_⟩
 all_goals
  unfold spN at e;split at e
  case h_2=>cases e
  rename_i s x f k;simp only[an,aB]at e;obtain⟨rfl,rfl,rfl⟩:=e
 . kernel_rfl
 obtain⟨a1,a2⟩:=hA _ (aP ..);have a3:s.length<=1000000000:=hA (s.length<=1000000000) (by simp);obtain⟨a4,a5⟩:0<=k/\k.toNat<=8:=hA (0<=k/\k.toNat<=8) (by simp);obtain⟨a,rfl⟩:∃a:Nat,x=Int.ofNat a:=⟨x.toNat,(Int.toNat_of_nonneg a1).symm⟩;obtain⟨k,rfl⟩:∃a:Nat,k=Int.ofNat a:=⟨k.toNat,(Int.toNat_of_nonneg a4).symm⟩;exact al2 s a k f a2 a3 a5
noncomputable abbrev W19:jL:=kA 106 (Er spX) (kA 107 (Er spN) W18)
theorem G0:gd ak W19:=fk aaT (fk aaU Ls)
noncomputable abbrev lZ:e9:=gG ak W19 H0 1000 40
noncomputable abbrev uo:CX ak:=CX.of mo po G0 H0 1000 40
theorem afx:∀x:Nat,x<256->x|||128=x%128+128:=by decide
section
variable(u n:Nat){s:aa}{q:Nat}{b:UInt8}{r:aa}
theorem u8w:IntKind.u8.wrap (n:Int)=((n%256:Nat):Int):=by
 simp only[IntKind.wrap,IntKind.bits,IntKind.signed];simp
theorem Vp:IntKind.u64.wrap (n:Int)=((n%18446744073709551616:Nat):Int):=by
 simp only[IntKind.wrap,IntKind.bits,IntKind.signed];simp
theorem MW:T1 (u:Int)=((u%128+128:Nat):Int):=by
 unfold T1;rw[u8w];have h1:(BitVec.ofInt 8 ((u%256:Nat):Int)|||BitVec.ofInt 8 (128:Int)).toNat=u%128+128:=by
  rw[BitVec.toNat_or];have e1:(BitVec.ofInt 8 ((u%256:Nat):Int)).toNat=u%256:=by
   rw[BitVec.ofInt_natCast,BitVec.toNat_ofNat];omega
  have e2:(BitVec.ofInt 8 (128:Int)).toNat=128:=rfl;rw[e1,e2,afx _ be];omega
 rw[h1,kZ,u8w];congr 1;omega
theorem MX(h:u<128):Z8 (u:Int)=(u:Int):=by
 unfold Z8;rw[u8w];congr 1;omega
theorem Dk:(u:Int).fdiv 128=((u/128:Nat):Int):=by
 rw[cK _ dP];rfl
theorem RT{n:Nat}(h:n<256):(UInt8.ofNat n).toNat=n:=by
 rw[UInt8.toNat_ofNat'];omega
theorem RU(gq:Nat)(b:UInt8)(i:Nat)(ha:gq<2^(7*i))(hi:i<=7):uS (gq:Int) b i=((gq+b.toNat%128*2^(7*i):Nat):Int):=by
 have hb:b.toNat<256:=b.toNat_lt;unfold uS;have e1:(BitVec.ofInt 8 (Int.ofNat b.toNat)&&&BitVec.ofInt 8 (127:Int)).toNat=b.toNat%128:=by
  rw[BitVec.toNat_and];have e2:(BitVec.ofInt 8 (127:Int)).toNat=2^7-1:=rfl;have e3:(BitVec.ofInt 8 (Int.ofNat b.toNat)).toNat=b.toNat:=by
   rw[kZ,BitVec.ofInt_natCast,BitVec.toNat_ofNat];omega
  rw[e2,e3,Nat.and_two_pow_sub_one_eq_mod]
 have hp:2^(7*i)<=2^49:=Nat.pow_le_pow_right dP be;have ath:b.toNat%128*2^(7*i)<128*2^49:=by
  have:b.toNat%128<128:=by omega
  calc b.toNat%128*2^(7*i)<=127*2^(7*i):=cn _ be
   _<=127*2^49:=Nat.mul_le_mul_left _ hp
   _<128*2^49:=by decide
 rw[e1];simp only[kZ];rw[u8w,Vp (b.toNat%128%256),Int.toNat_natCast,show min (7*i) 64=7*i by omega];have e4:(((b.toNat%128%256%18446744073709551616:Nat):Int)*(2:Int)^(7*i))=((b.toNat%128*2^(7*i):Nat):Int):=by
  rw[show b.toNat%128%256%18446744073709551616=b.toNat%128 by omega];simp[Int.natCast_mul,Int.natCast_pow]
 rw[e4,Vp (b.toNat%128*2^(7*i)),BitVec.toNat_or,BitVec.ofInt_natCast,BitVec.ofInt_natCast,BitVec.toNat_ofNat,BitVec.toNat_ofNat];have h64:(2:Nat)^64=18446744073709551616:=by decide
 have h49:(128:Nat)*2^49<18446744073709551616:=by decide
 have ati:(2:Nat)^49<18446744073709551616:=by decide
 rw[h64,Nat.mod_mod,Nat.mod_eq_of_lt (a:=gq) be,Nat.mod_eq_of_lt (a:=b.toNat%128*2^(7*i)) be];have h5:gq|||b.toNat%128*2^(7*i)=gq+b.toNat%128*2^(7*i):=by
  rw[Nat.or_comm,Nat.mul_comm,<- Nat.two_pow_add_eq_or_of_lt ha,Nat.add_comm]
 rw[h5,Vp];have:gq+b.toNat%128*2^(7*i)<18446744073709551616:=by
  have h6:gq<2^49:=by omega
  have h7:(128:Nat)*2^49+2^49<18446744073709551616:=by decide
  omega
 rw[Nat.mod_eq_of_lt this]
theorem zj(h:s.drop q=b::r):s.getD q 0=b:=by
 have:(s.drop q)[0]? =some b:=by rw[h];rfl
 rw[bH,Nat.add_zero]at this;rw[aL,this];rfl
theorem OS(h:s.drop q=b::r):s.drop (q+1)=r:=by
 rw[<- List.drop_drop,h];rfl
theorem u8I{n:Nat}(h:n<256):(UInt8.ofNat (n:Int).toNat).toNat=n:=by rw[Int.toNat_natCast,RT h]
end
theorem Ja:∀(k m i gq u:Nat) (s:aa) (a:Nat) (r:aa),u<128^(k+1)->i+k<=7->gq<2^(7*i)->(0<i->0<u)->s.drop (a+i)=eN (oe k (u:Int))++r->(oe k (u:Int)).length<=m->
  OR s a m i (gq:Int)=some (((gq+u*2^(7*i):Nat):Int),i+(oe k (u:Int)).length)
 |k,0,_,_,u,_,_,_,_,_,_,_,_,hm=>by have:=(Da k (u:Int)).1;omega
 |k,m+1,i,gq,u,s,a,r,hu,hi,ha,h0,hs,hm=>by
  have last:u<128->s.drop (a+i)=UInt8.ofNat (u:Int).toNat::r->OR s a (m+1) i (gq:Int)=some (((gq+u*2^(7*i):Nat):Int),i+1):=by
   intro fJ hd;unfold OR;rw[zj hd,u8I be,aI be,aI be,RU _ _ _ ha be,u8I be,show u%128=u by omega];have hp:2^(7*i)<=2^49:=Nat.pow_le_pow_right dP be;have hm2:u*2^(7*i)<=127*2^49:=bU (cn _ be) (Nat.mul_le_mul_left _ hp);have h9:(127:Nat)*2^49+2^49<=9000000000000000000:=by decide
   rw[lJ be]
  cases k with
  |zero=>
   simp only[oe]at hs ⊢;rw[MX u be]at hs;exact last be hs
  |succ k=>
   unfold oe at hs hm ⊢;by_cases h128:(128:Int)<=(u:Int)
   . rw[aG h128]at hs hm ⊢;rw[MW,Dk]at hs;rw[Dk]at hm ⊢;have hs:s.drop (a+i)=UInt8.ofNat ((u%128+128:Nat):Int).toNat::(eN (oe k ((u/128:Nat):Int))++r):=hs;have hb:=u8I (n:=u%128+128) be;unfold OR;rw[zj hs,hb,aG be,RU _ _ _ ha be,hb];have e1:(u%128+128)%128=u%128:=by omega
     rw[e1];have afA:(2:Nat)^(7*(i+1))=128*2^(7*i):=by rw[show 7*(i+1)=7+7*i by omega,Nat.pow_add]
     have fJ:u%128*2^(7*i)<=127*2^(7*i):=cn _ be;have hu2:u/128<128^(k+1):=by
      rw[Nat.pow_succ]at hu;exact Nat.div_lt_of_lt_mul (by rw[Nat.mul_comm];exact hu)
     have ih:=Ja k m (i+1) (gq+u%128*2^(7*i)) (u/128) s a r hu2 be (by rw[afA];omega) be (OS hs) (by simpa using hm);rw[ih,afA];have e2:gq+u%128*2^(7*i)+u/128*(128*2^(7*i))=gq+u*2^(7*i):=by
      rw[cA,<- Nat.mul_assoc,<- cN];congr 2;omega
     rw[e2,aT,cA,Nat.add_comm 1]
   . rw[aI h128]at hs hm ⊢;rw[MX u be]at hs;exact last be hs
section
variable{s:aa}(x:Nat){a:Nat}{t r:aa}
theorem uN(l:List Int):(eN l).length=l.length:=by unfold eN;rw[aW]
theorem G1{n:Nat}{r:aa}(hn:n<34359738368)(h:s.drop a=jr (Int.ofNat n)++r):Py s a=((n:Int),a+(jr (Int.ofNat n)).length,false):=by
 have hl:(jr (Int.ofNat n)).length=(oe 4 (n:Int)).length:=uN _;have h5:=my (Int.ofNat n);have hd:s.length-a=(jr (Int.ofNat n)).length+r.length:=by rw[<- bX,h,ax]
 have:=Ja 4 (wY s a) 0 0 n s a r be be dP be h (by unfold wY;omega);simp only[bE,Nat.mul_zero,Nat.pow_zero,bj]at this;unfold Py wZ;rw[show((0:Nat):Int)=0 from rfl]at this;rw[this,hl]
theorem G2(h:s.drop a=t++r):qM s a false (t.length:Int)=(t,a+t.length,false):=by
 have hd:s.length-a=t.length+r.length:=by rw[<- bX,h,ax]
 unfold qM;rw[aI (by simp only[aO,false_or];omega),h,Int.toNat_natCast,List.take_left'];rfl
theorem zk(ht:t.length<34359738368)(h:s.drop a=js t++r):hU s a false=(t,a+(js t).length,false):=by
 have h1:s.drop a=jr (Int.ofNat t.length)++(t++r):=by rw[h];unfold js;rw[bA]
 have e1:=G1 ht h1;have h2:s.drop (a+(jr (Int.ofNat t.length)).length)=t++r:=by rw[<- List.drop_drop,h1,List.drop_left'];rfl
 have e2:=G2 h2;unfold hU iC;simp only[aO,cG,e1,e2];unfold js;rw[ax,cA]
theorem vw(n:Nat)(b:UInt8)(h:n<1099511627776):zi (n:Int) b=((n*256+b.toNat:Nat):Int):=by
 have hb:b.toNat<256:=b.toNat_lt;unfold zi;have e1:(n:Int)*(256:Int)=((n*256:Nat):Int):=by simp
 rw[e1,lJ be,kZ b.toNat,lJ be,BitVec.toNat_or,BitVec.ofInt_natCast,BitVec.ofInt_natCast,BitVec.toNat_ofNat,BitVec.toNat_ofNat];have h64:(2:Nat)^64=18446744073709551616:=by decide
 rw[h64,Nat.mod_eq_of_lt (a:=n*256) be,Nat.mod_eq_of_lt (a:=b.toNat) be];have h5:n*256|||b.toNat=n*256+b.toNat:=by
  rw[Nat.mul_comm n 256,show(256:Nat)=2^8 by decide,<- Nat.two_pow_add_eq_or_of_lt be]
 rw[h5,kZ,lJ be]
theorem Dl(d:Nat)(hx:x<18446744073709551616):(pB (x:Int) (d:Int)).toNat=x/d%256:=by
 unfold pB;rw[Vp,Nat.mod_eq_of_lt hx,cK _ (az _)];rw[show(x:Int)/(d:Int)=((x/d:Nat):Int)from rfl,u8w,u8I be]
theorem OT(hx:x<4294967296):(dO (x:Int)).foldl zi 0=(x:Int):=by
 unfold dO;simp only[List.foldl_cons,List.foldl_nil];have c1:=Dl x 16777216 be;have c2:=Dl x 65536 be;have c3:=Dl x 256 be;have c4:=Dl x 1 be;have e1:=vw 0 (pB (x:Int) 16777216) be;rw[show((0:Nat):Int)=0 from rfl]at e1;rw[e1,show(pB (x:Int) 16777216).toNat=_ from c1];rw[vw _ _ be,show(pB (x:Int) 65536).toNat=_ from c2];rw[vw _ _ be,show(pB (x:Int) 256).toNat=_ from c3];rw[vw _ _ be,show(pB (x:Int) 1).toNat=_ from c4];congr 1;omega
theorem Vq(s:aa):∃c:Nat,c<4294967296/\qG s=(c:Int):=by
 unfold qG nt w32;refine⟨(BitVec.ofInt 32 4294967295^^^BitVec.ofInt 32 (Dc (w256 zb) s s.length)).toNat,BitVec.isLt _,?_⟩;have h:=(BitVec.ofInt 32 4294967295^^^BitVec.ofInt 32 (Dc (w256 zb) s s.length)).isLt;generalize (BitVec.ofInt 32 4294967295^^^BitVec.ofInt 32 (Dc (w256 zb) s s.length)).toNat=c at h;simp only[IntKind.wrap,IntKind.bits,IntKind.signed];simp;omega
theorem RV{b:aa}{a:Nat}{r:aa}(h:s.drop a=dO (IntKind.i64.wrap (qG b))++r):yc s a false 4=(IntKind.i64.wrap (qG b),a+4,false):=by
 obtain⟨c,hc,e⟩:=Vq b;have e1:=G2 h;have hl:(dO (IntKind.i64.wrap (qG b))).length=4:=rfl;rw[hl]at e1;unfold yc;rw[show(Int.ofNat 4)=((4:Nat):Int)from rfl,e1];simp only;rw[e,lJ be,OT c hc]
theorem MY{k:Nat}{r:aa}(hk:k<256)(h:s.drop a=o8 (k:Int)++r):yc s a false 1=((k:Int),a+1,false):=by
 have e1:=G2 h;have hl:(o8 (k:Int)).length=1:=rfl;rw[hl]at e1;unfold yc;rw[show(Int.ofNat 1)=((1:Nat):Int)from rfl,e1];have e2:=vw 0 (pB (k:Int) 1) be;rw[show((0:Nat):Int)=0 from rfl]at e2;have c1:=Dl k 1 be;unfold o8;simp only[List.foldl_cons,List.foldl_nil,e2];rw[show(pB (k:Int) 1).toNat=_ from c1];congr 2;omega
end
abbrev P3:V:=.ptr (some (3,0))
abbrev eI:V:=.di none 0 0 0
def hJ(d:aa)(p:gX):Tr O:=(eu p).set 7 (some (.cells [.str d]))
def iW(i:Nat):V:=.int .i64 (Int.ofNat i)
theorem pb{x:Int}{n:Nat}(h:x=(n:Int))(hb:n<1000000000000):V.int aj (IntKind.i64.wrap x)=iW n:=fG h hb
theorem Ys:16<Tryz.prog.funcs.size:=au U
theorem afB:17<Tryz.prog.funcs.size:=au U
theorem afC:18<Tryz.prog.funcs.size:=au U
noncomputable abbrev aaV:Code:=dK (de 2 I5)
noncomputable abbrev aaW:Code:=dV (de 2 I5)
noncomputable abbrev aaX:Code:=XI (dV Ln)
section
variable(cO cP:Nat)(b:aa)(fl nx lf:Int)(es rt:ae)
section
variable(s:aa)(a:Nat)(f:Bool)
def Lu(RD:af):Tr O:=hL (eP (pS cO cP b fl nx lf es rt)++(7,.cells (GZ s a f))::RD)
def sA0(d:aa)(n i:Nat):St:=eF [(0,P3),(4,.ptr (some (7,0))),(5,.str d),(6,eI),(17,.int .i64 (Int.ofNat n)),(18,.int .i64 (Int.ofNat i))] (Lu cO cP b fl nx lf es rt s a f []) 8
def sA1(d:aa)(n i k:Nat)(cs:ai):St:=eF [(0,P3),(4,.ptr (some (7,0))),(5,.str d),(6,.di (some (8,0)) k k 1),(17,.int .i64 (Int.ofNat n)),(18,.int .i64 (Int.ofNat i))] (Lu cO cP b fl nx lf es rt s a f [(8,.deep cs)]) 9
end
end
section
variable(cO cP:Nat)(b:aa)(fl nx lf:Int)(es rt:ae)(s:aa)(a:Nat)(f:Bool)
theorem afE:c7 lZ [] 7 Tryz.f83 [0,4,11] (eO 2 Lm) (cT [P3,.str s] (eu (pS cO cP b fl nx lf es rt)) 7) [([],
   [((0:Int)<=(0:Int)/\0<=s.length),(s.length<=1000000000),((0:Int)<=(1:Int)/\1<=8)],
   .to .normal (eF [(0,.ptr (some (3,0))),(4,.ptr (some (7,0))),(11,.int .i64 ((yc s 0 false 1).1))] (hL (eP (pS cO cP b fl nx lf es rt)++[(7,.cells [.str s,.int .i64 (Int.ofNat (yc s 0 false 1).2.1),.bool ((yc s 0 false 1).2.2)])])) 8))]
 :=cQ.of U U U
theorem afF(k:Int):c7 lZ [(12,.split)] 7 Tryz.f83 [0,4,11,12] (dK Ln) (eF [(0,P3),(4,.ptr (some (7,0))),(11,.int .i64 k)] (Lu cO cP b fl nx lf es rt s a f []) 8) [([((k==(1:Int)),true)],
   [],
   .to .normal (eF [(0,.ptr (some (3,0))),(4,.ptr (some (7,0))),(11,.int .i64 k),(12,.bool true)] (hL (eP (pS cO cP b fl nx lf es rt)++[(7,.cells [.str s,.int .i64 (Int.ofNat a),.bool f])])) 8)),
  ([((k==(1:Int)),false)],
   [],
   .to .normal (eF [(0,.ptr (some (3,0))),(4,.ptr (some (7,0))),(11,.int .i64 k),(12,.bool false)] (hL (eP (pS cO cP b fl nx lf es rt)++[(7,.cells [.str s,.int .i64 (Int.ofNat a),.bool f])])) 8))]
 :=cQ.of U U U
theorem al6:c7 lZ [] 7 Tryz.f83 [0,4,5,6] (eO 2 I5) (eF [(0,P3),(4,.ptr (some (7,0)))] (Lu cO cP b fl nx lf es rt s a f []) 8) [([],
   [((0:Int)<=Int.ofNat a/\a<=s.length),(s.length<=1000000000)],
   .to .normal (eF [(0,.ptr (some (3,0))),(4,.ptr (some (7,0))),(5,.str ((hU s a f).1)),(6,.di none 0 0 0)] (hL (eP (pS cO cP b fl nx lf es rt)++[(7,.cells [.str s,.int .i64 (Int.ofNat (hU s a f).2.1),.bool ((hU s a f).2.2)])])) 8))]
 :=cQ.of U U U
theorem al7(d:aa):c7 lZ [(18,.dc (.int .i64 (Int.ofNat 0)))] 7 Tryz.f83 [0,4,5,6,17,18] (dK aaV) (eF [(0,P3),(4,.ptr (some (7,0))),(5,.str d),(6,eI)] (Lu cO cP b fl nx lf es rt s a f []) 8) [([],
   [((0:Int)<=Int.ofNat a/\a<=s.length),(s.length<=1000000000),(V.int aj (0:Int)=V.int aj (0:Int))],
   .to .normal (eF [(0,.ptr (some (3,0))),(4,.ptr (some (7,0))),(5,.str d),(6,.di none 0 0 0),(17,.int .i64 ((iC s a f).1)),(18,.int .i64 0)] (hL (eP (pS cO cP b fl nx lf es rt)++[(7,.cells [.str s,.int .i64 (Int.ofNat (iC s a f).2.1),.bool ((iC s a f).2.2)])])) 8))]
 :=cQ.of U U U
theorem afG(d:aa)(n i:Nat):c7 lZ [(19,.split),(25,.dc (.int .i64 (Int.ofNat (i+1))))] 7 Tryz.f83 [0,4,5,6,17,18] (dx (dx (dV aaV))) (sA0 cO cP b fl nx lf es rt s a f d n i) [([((decide (Int.ofNat i<Int.ofNat n)),true)],
   [((0:Int)<=Int.ofNat a/\a<=s.length),(s.length<=1000000000),kQ (Int.ofNat i+(1:Int)) (i+1)],
   .to .normal (eF [(0,.ptr (some (3,0))),(4,.ptr (some (7,0))),(5,.str d),(6,.di (some (8,0)) 1 1 1),(17,.int .i64 (Int.ofNat n)),(18,.int .i64 (Int.ofNat (i+1)))] (hL (eP (pS cO cP b fl nx lf es rt)++[(7,.cells [.str s,.int .i64 (Int.ofNat (qM s a f (32:Int)).2.1),.bool ((qM s a f (32:Int)).2.2)]),(8,.cells [.str ((qM s a f (32:Int)).1)])])) 9)),
  ([((decide (Int.ofNat i<Int.ofNat n)),false)],
   [],
   .to (.exit 1) (eF [(0,.ptr (some (3,0))),(4,.ptr (some (7,0))),(5,.str d),(6,.di none 0 0 0),(17,.int .i64 (Int.ofNat n)),(18,.int .i64 (Int.ofNat i))] (hL (eP (pS cO cP b fl nx lf es rt)++[(7,.cells [.str s,.int .i64 (Int.ofNat a),.bool f])])) 8))]
 :=cQ.of U U U
theorem afH(d:aa)(n i k:Nat)(cs:ai):c7 lZ [(19,.split),(25,.dc (.int .i64 (Int.ofNat (i+1))))] 7 Tryz.f83 [0,4,5,6,17,18] (dx (dx (dV aaV))) (sA1 cO cP b fl nx lf es rt s a f d n i k cs) [([((decide (Int.ofNat i<Int.ofNat n)),true)],
   [((0:Int)<=Int.ofNat a/\a<=s.length),(s.length<=1000000000),(0+k*1<=cs.length),(0<1),(eT (k+1) 1 16=true),kQ (Int.ofNat i+(1:Int)) (i+1)],
   .to .normal (eF [(0,.ptr (some (3,0))),(4,.ptr (some (7,0))),(5,.str d),(6,.di (some (8,0)) (k+1) (k+1) 1),(17,.int .i64 (Int.ofNat n)),(18,.int .i64 (Int.ofNat (i+1)))] (hL (eP (pS cO cP b fl nx lf es rt)++[(7,.cells [.str s,.int .i64 (Int.ofNat (qM s a f (32:Int)).2.1),.bool ((qM s a f (32:Int)).2.2)]),(8,.deep (List.take (k*1) (List.drop 0 cs)++[D.str (qM s a f (32:Int)).1]))])) 9)),
  ([((decide (Int.ofNat i<Int.ofNat n)),false)],
   [],
   .to (.exit 1) (eF [(0,.ptr (some (3,0))),(4,.ptr (some (7,0))),(5,.str d),(6,.di (some (8,0)) k k 1),(17,.int .i64 (Int.ofNat n)),(18,.int .i64 (Int.ofNat i))] (hL (eP (pS cO cP b fl nx lf es rt)++[(7,.cells [.str s,.int .i64 (Int.ofNat a),.bool f]),(8,.deep cs)])) 9))]
 :=cQ.of U U U
theorem al8(d:aa):sB ak lZ [] 1000 7 Tryz.f83 (aaW) (eF [(0,P3),(5,.str d),(6,eI)] (eu (pS cO cP b fl nx lf es rt)) 7)
  [([],
   [(gS=gS),(gR=gR),([]=strs (dH [])),(0=0),(0<=1000000),((eH (d::dH [])).length<=1000000000)],
   .ret (.ef []) (eu (pS cO cP b fl (IntKind.i64.wrap (nx+(1:Int))) lf (ig (D.str (dN d (dH []))) (D.agg [D.str d,D.dM 0 [],D.int aj nx]) es) rt)) 7)]
 :=⟨U,U,U⟩
theorem al9(d:aa)(n:Nat)(cs:ai):sB ak lZ [] 1000 7 Tryz.f83 (aaW) (eF [(0,P3),(5,.str d),(6,.dM false n cs)] (eu (pS cO cP b fl nx lf es rt)) 7)
  [([],
   [(gS=gS),(gR=gR),(cs=strs (dH cs)),(n=(dH cs).length),(n<=1000000),((eH (d::dH cs)).length<=1000000000),(0<n),(cs.length=n),(n<=1000000)],
   .ret (.ef []) (eu (pS cO cP b fl (IntKind.i64.wrap (nx+(1:Int))) lf (ig (D.str (dN d (dH cs))) (D.agg [D.str d,D.dM n cs,D.int aj nx]) es) rt)) 7)]
 :=⟨U,U,U⟩
theorem ama:c7 lZ [] 7 Tryz.f83 [0,4,33] (dK aaX) (eF [(0,P3),(4,.ptr (some (7,0))),(11,.int .i64 2)] (Lu cO cP b fl nx lf es rt s a f []) 8) [([],
   [],
   .to .normal (eF [(0,.ptr (some (3,0))),(4,.ptr (some (7,0))),(33,.bool true)] (hL (eP (pS cO cP b fl nx lf es rt)++[(7,.cells [.str s,.int .i64 (Int.ofNat a),.bool f])])) 8))]
 :=cQ.of U U U
theorem afI:c7 lZ [] 7 Tryz.f83 [0,4,7] (dK (My (dV aaX))) (eF [(0,P3),(4,.ptr (some (7,0)))] (Lu cO cP b fl nx lf es rt s a f []) 8) [([],
   [((0:Int)<=Int.ofNat a/\a<=s.length),(s.length<=1000000000)],
   .to .normal (eF [(0,.ptr (some (3,0))),(4,.ptr (some (7,0))),(7,.str ((hU s a f).1))] (hL (eP (pS cO cP b fl nx lf es rt)++[(7,.cells [.str s,.int .i64 (Int.ofNat (hU s a f).2.1),.bool ((hU s a f).2.2)])])) 8))]
 :=cQ.of U U U
end
noncomputable abbrev afJ:e9:=gG ak W19 (sw [(50,[(7,.split)])]) 1000 40
noncomputable abbrev amb:CX ak:=CX.of mo po G0 (sw [(50,[(7,.split)])]) 1000 40
theorem afK(cO cP:Nat)(b:aa)(fl nx lf:Int)(es rt:ae)(s n:aa)(a:Nat)(f:Bool):sB ak afJ [] 1000 7 Tryz.f83 (dV (My (dV aaX))) (eF [(0,P3),(4,.ptr (some (7,0))),(7,.str n)] (Lu cO cP b fl nx lf es rt s a f []) 8)
  [([((eG (hU s a f).1 ([]:aa)),true)],
   [((0:Int)<=Int.ofNat a/\a<=s.length),(s.length<=1000000000)],
   .ret (.ef []) (eu (pS cO cP b fl nx lf es (lO (D.str n) rt))) 7),
  ([((eG (hU s a f).1 ([]:aa)),false)],
   [((0:Int)<=Int.ofNat a/\a<=s.length),(s.length<=1000000000)],
   .ret (.ef []) (eu (pS cO cP b fl nx lf es (ig (D.str n) (D.str (hU s a f).1) rt))) 7)]
 :=⟨U,U,U⟩
theorem qI{α:Type}{s p r:List α}{a:Nat}(h:s.drop a=p++r):s.drop (a+p.length)=r:=by rw[<- List.drop_drop,h,List.drop_left'];rfl
section
variable(cO cP:Nat)(b:aa)(fl nx lf:Int)(es rt:ae)
theorem Vr(d:aa)(rs:List (aa))(hd:d.length<=65536)(hn:rs.length<=1024)(h32:∀x∈rs,x.length=32):
  cU ak 83 [P3,.str (vr d rs.length++rs.flatten)] (eu (pS cO cP b fl nx lf es rt)) 7 (.ef []) (eu (pS cO cP b fl (IntKind.i64.wrap (nx+1)) lf (ig (.str (dN d rs)) (pU d rs nx) es) rt)) 7:=by
 have TZ:=vt h32;have hhl:=wm d rs.length;obtain⟨s,hs⟩:∃s,s=vr d rs.length++rs.flatten:=⟨_,rfl⟩;rw[<- hs];have hsl:s.length<=1000000:=by rw[hs,ax];omega
 have d0:s.drop 0=o8 ((1:Nat):Int)++(js d++(jr (Int.ofNat rs.length)++rs.flatten)):=by
  rw[hs,bu];unfold vr;simp only[bA];rfl
 have d1:=qI d0;rw[show 0+(o8 ((1:Nat):Int)).length=1 from rfl]at d1;have d2:=qI d1;have d3:=qI d2;have r1:=MY dP d0;have r2:=zk be d1;have r3:=G1 be d2;have hv:=my (Int.ofNat rs.length);have l3:1+(js d).length+(jr (Int.ofNat rs.length)).length+rs.flatten.length=s.length:=by
  have e:=aN List.length d0;simp only[ax,bu]at e;rw[show(o8 ((1:Nat):Int)).length=1 from rfl]at e;omega
 rw[show 1+(js d).length=(js d).length+1 by omega]at *;refine c5 Tryz.func83 (code:=Lm) U U ?_;obtain⟨L1,AR⟩:=afE cO cP b fl nx lf es rt s;rw[r1]at AR;refine kV 2 uo mo U AR (fm ⟨dP,be⟩ (fm be (eR ⟨dP,dP⟩))) ?_;refine fg (i:=0) U ?_;refine fe (Q1:=fH ak 7 Tryz.f83 fun v h n=>v= .ef []/\h=eu (pS cO cP b fl (IntKind.i64.wrap (nx+1)) lf (ig (.str (dN d rs)) (pU d rs nx) es) rt)/\n=7) ?_ fun y s h=>xN h;show TG ak 7 Tryz.f83.ntmps Ln (eF [(0,P3),(4,.ptr (some (7,0))),(11,.int .i64 1)] (Lu cO cP b fl nx lf es rt s 1 false []) 8) _;refine cV U ?_;refine fR uo (afF cO cP b fl nx lf es rt s 1 false 1) fun g hg hc=>?_;simp only[aE,aM,bt]at hg;rcases hg with rfl|rfl
 case inr=>exact absurd (hc _ (aq.2 rfl)) dP
 refine⟨cR,fun s' dL=>c6 dL ?_⟩;refine BM (t:=true) U U (fun _=>?_) (fun h=>by cases h);refine c6 (live:=[0,4]) (s2:=eF [(0,P3),(4,.ptr (some (7,0)))] (Lu cO cP b fl nx lf es rt s 1 false []) 8) U ?_;obtain⟨L3,wv⟩:=al6 cO cP b fl nx lf es rt s 1 false;rw[r2]at wv;refine kV 2 uo mo U wv (fm ⟨dP,be⟩ (eR be)) ?_;refine cV U ?_;refine cV U ?_;have r3f:iC s ((js d).length+1) false=_:=r3;obtain⟨L4,Ef⟩:=al7 cO cP b fl nx lf es rt s ((js d).length+1) false d;rw[r3f]at Ef;refine gy uo mo lT U Ef (dG ?_);refine⟨fm ⟨az _,be⟩ (fm be (eR rfl)),fun s' dL=>?_⟩;obtain⟨a,ha⟩:∃a,a=(js d).length+1+(jr (Int.ofNat rs.length)).length:=⟨_,rfl⟩;rw[<- ha]at dL d3 l3;have mG:∀i,i<=rs.length->s.drop (a+32*i)=(rs.drop i).flatten:=by
  intro i
  induction i with
  |zero=>intro _;simpa using d3
  |succ i ih=>
   intro hi;have ih:=ih be;rw[bF (l:=rs) be,List.flatten_cons]at ih;have h2:=qI ih;rw[h32 _ (bY _)]at h2;rw[show a+32*(i+1)=a+32*i+32 by omega];exact h2
 have htk:∀i (hi:i<rs.length),qM s (a+32*i) false (32:Int)=(rs[i],a+32*i+32,false):=by
  intro i hi;have h1:=mG i be;rw[bF hi,List.flatten_cons]at h1;have h2:=G2 h1;rw[h32 _ (bY _)]at h2;exact h2
 have kC:∀i,i<=rs.length->a+32*i<=s.length:=fun i hi=>by omega
 let S:Nat->St:=fun i=>match i with
  |0=>sA0 cO cP b fl nx lf es rt s a false d rs.length 0
  |i+1=>sA1 cO cP b fl nx lf es rt s (a+32*(i+1)) false d rs.length (i+1) (i+1) (strs (rs.take (i+1)))
 have tail:∀s',gu ak 7 Tryz.f83.ntmps s' (S rs.length)->TG ak 7 Tryz.f83.ntmps aaW s' (fH ak 7 Tryz.f83 fun v h n=>v= .ef []/\h=eu (pS cO cP b fl (IntKind.i64.wrap (nx+1)) lf (ig (.str (dN d rs)) (pU d rs nx) es) rt)/\n=7):=by
  intro s' dL;refine dL _ _ ?_;have hj:=jH d rs h32;rcases Nat.eq_zero_or_pos rs.length with h0|h0
  . have:rs=[]:=List.eq_nil_of_length_eq_zero h0;subst this;refine c6 (live:=[0,5,6]) (s2:=eF [(0,P3),(5,.str d),(6,eI)] (eu (pS cO cP b fl nx lf es rt)) 7) U ?_;refine o9 uo mo _ U (al8 cO cP b fl nx lf es rt d) (dG ?_);refine⟨fm rfl (fm rfl (fm rfl (fm rfl (fm dP (eR ?_))))),_,_,_,rfl,rfl,rfl,rfl⟩;show(eH [d]).length<=_;simp only[bO]at hj;omega
  . have hS:S rs.length=sA1 cO cP b fl nx lf es rt s (a+32*rs.length) false d rs.length rs.length rs.length (strs rs):=by
     obtain⟨k,hk⟩:∃k,rs.length=k+1:=⟨rs.length-1,be⟩;show(match rs.length with|0=>_|i+1=>_)=_;have e:rs.take (k+1)=rs:=by rw[<- hk,aS]
     rw[hk];simp only[e]
    rw[hS];refine xJ [8] (A:=[(strs rs).length=rs.length*1]) (s2:={ eF [(0,P3),(4,.ptr (some (7,0))),(5,.str d),(6,.dM false rs.length (strs rs)),(17,.int .i64 (Int.ofNat rs.length)),(18,.int .i64 (Int.ofNat rs.length))] (Lu cO cP b fl nx lf es rt s (a+32*rs.length) false [(8,.deep (strs rs))]) 9 with h:=(Lu cO cP b fl nx lf es rt s (a+32*rs.length) false [(8,.deep (strs rs))]).set 8 none }) U (eR (by rw[eJ,bj])) ?_;refine c6 (live:=[0,5,6]) (s2:=eF [(0,P3),(5,.str d),(6,.dM false rs.length (strs rs))] (eu (pS cO cP b fl nx lf es rt)) 7) U ?_;have hr:=al9 cO cP b fl nx lf es rt d rs.length (strs rs);rw[ir]at hr;refine o9 uo mo _ U hr (dG ?_);exact⟨fm rfl (fm rfl (fm rfl (fm rfl (fm be (fm be (fm h0 (fm (eJ rs) (eR be)))))))),_,_,_,rfl,rfl,rfl,rfl⟩
 refine jj 1 rs.length S U U (.norm dL) (fun i hi=>?_) ?_
 . have ht:=htk i hi;cases i with
   |zero=>
    obtain⟨L5,ue⟩:=afG cO cP b fl nx lf es rt s a false d rs.length 0;rw[show a+32*0=a by omega]at ht;rw[ht]at ue;refine gy uo mo lT U ue fun g hg hc=>?_;simp only[aE,aM,bt]at hg;rcases hg with rfl|rfl
    case inr=>exact absurd (aJ (hc _ (aq.2 rfl))) dh
    refine⟨fm ⟨az _,be⟩ (fm be (eR (fG dh be))),fun s' dL=>?_⟩;have e:rs.take 1=[rs[0]]:=by
     rw[bI,ay hi];rfl
    refine(gu.norm dL).trans ?_;show gu _ _ _ _ (sA1 cO cP b fl nx lf es rt s (a+32*1) false d rs.length 1 1 (strs (rs.take 1)));rw[e];exact .deep [8] U
   |succ i=>
    obtain⟨L5,ue⟩:=afH cO cP b fl nx lf es rt s (a+32*(i+1)) false d rs.length (i+1) (i+1) (strs (rs.take (i+1)));rw[ht]at ue;refine gy uo mo lT U ue fun g hg hc=>?_;simp only[aE,aM,bt]at hg;rcases hg with rfl|rfl
    case inr=>exact absurd (aJ (hc _ (aq.2 rfl))) dh
    have hl:(strs (rs.take (i+1))).length=i+1:=by rw[eJ,aX];omega
    refine⟨fm ⟨az _,kC _ be⟩ (fm be (fm be (fm dP (fm (pT be) (eR (fG dh be)))))),fun s' dL=>?_⟩;have e:List.take ((i+1)*1) (List.drop 0 (strs (rs.take (i+1))))++[D.str rs[i+1]]=strs (rs.take (i+1+1)):=by
     rw[bu,bj,bq be];rw[bI (i:=i+1),ay hi];unfold strs;rw[aZ];rfl
    rw[e]at dL;exact .norm dL
 . rcases Nat.eq_zero_or_pos rs.length with h0|h0
   . have h1:S rs.length=sA0 cO cP b fl nx lf es rt s a false d rs.length 0:=by
      show(match rs.length with|0=>_|i+1=>_)=_;rw[h0]
     rw[h1]at tail ⊢;refine fR uo (afG cO cP b fl nx lf es rt s a false d rs.length 0) fun g hg hc=>?_;simp only[aE,aM,bt]at hg;rcases hg with rfl|rfl
     . exact absurd (aH (hc _ (aq.2 rfl))) dh
     . exact⟨cR,fun s' dL=>⟨by simp,by simp only[dY,andThen];exact tail s' (.norm dL)⟩⟩
   . have h1:S rs.length=sA1 cO cP b fl nx lf es rt s (a+32*rs.length) false d rs.length rs.length rs.length (strs rs):=by
      obtain⟨k,hk⟩:∃k,rs.length=k+1:=⟨rs.length-1,be⟩;show(match rs.length with|0=>_|i+1=>_)=_;have e:rs.take (k+1)=rs:=by rw[<- hk,aS]
      rw[hk];simp only[e]
     rw[h1]at tail ⊢;refine fR uo (afH cO cP b fl nx lf es rt s (a+32*rs.length) false d rs.length rs.length rs.length (strs rs)) fun g hg hc=>?_;simp only[aE,aM,bt]at hg;rcases hg with rfl|rfl
     . exact absurd (aH (hc _ (aq.2 rfl))) be
     . exact⟨cR,fun s' dL=>⟨by simp,by simp only[dY,andThen];exact tail s' (.norm dL)⟩⟩
theorem Vs(n dd:aa)(hn:n.length<=1000000)(hd:dd.length<=1000000):
  cU ak 83 [P3,.str (o8 2++js n++js dd)] (eu (pS cO cP b fl nx lf es rt)) 7 (.ef []) (eu (pS cO cP b fl nx lf es (if dd=[]then lO (.str n) rt else ig (.str n) (.str dd) rt))) 7:=by
 obtain⟨s,hs⟩:∃s,s=o8 2++js n++js dd:=⟨_,rfl⟩;rw[<- hs];have t1:=oK n;have t2:=oK dd;have hsl:s.length<=3000000:=by
  rw[hs,ax,ax,show(o8 2).length=1 from rfl];omega
 have d0:s.drop 0=o8 ((2:Nat):Int)++(js n++(js dd++[])):=by
  rw[hs,bu];simp only[bA,ct];rfl
 have d1:=qI d0;rw[show 0+(o8 ((2:Nat):Int)).length=1 from rfl]at d1;have d2:=qI d1;have r1:=MY dP d0;have r2:=zk be d1;have r3:=zk be d2;have l3:1+(js n).length+(js dd).length=s.length:=by
  have e:=aN List.length d0;simp only[ax,bu,bO]at e;rw[show(o8 ((2:Nat):Int)).length=1 from rfl]at e;omega
 refine c5 Tryz.func83 (code:=Lm) U U ?_;obtain⟨L1,AR⟩:=afE cO cP b fl nx lf es rt s;rw[r1]at AR;refine kV 2 uo mo U AR (fm ⟨dP,be⟩ (fm be (eR ⟨dP,dP⟩))) ?_;refine fg (i:=0) U ?_;refine fe (Q1:=fH ak 7 Tryz.f83 fun v h k=>v= .ef []/\h=eu (pS cO cP b fl nx lf es (if dd=[]then lO (.str n) rt else ig (.str n) (.str dd) rt))/\k=7) ?_ fun y s h=>xN h;show TG ak 7 Tryz.f83.ntmps Ln (eF [(0,P3),(4,.ptr (some (7,0))),(11,.int .i64 2)] (Lu cO cP b fl nx lf es rt s 1 false []) 8) _;refine cV U ?_;refine fR uo (afF cO cP b fl nx lf es rt s 1 false 2) fun g hg hc=>?_;simp only[aE,aM,bt]at hg;rcases hg with rfl|rfl
 . exact absurd (hc _ (aq.2 rfl)) dP
 refine⟨cR,fun s' dL=>c6 dL ?_⟩;refine BM (t:=false) U U (fun h=>by cases h) (fun _=>?_);refine c6 (live:=[0,4,11]) (s2:=eF [(0,P3),(4,.ptr (some (7,0))),(11,.int .i64 2)] (Lu cO cP b fl nx lf es rt s 1 false []) 8) U ?_;refine cV U ?_;refine fR uo (ama cO cP b fl nx lf es rt s 1 false) (dG ?_);refine⟨cR,fun s' dL=>c6 dL ?_⟩;refine BM (t:=true) U U (fun _=>?_) (fun h=>by cases h);refine c6 (live:=[0,4]) (s2:=eF [(0,P3),(4,.ptr (some (7,0)))] (Lu cO cP b fl nx lf es rt s 1 false []) 8) U ?_;refine cV U ?_;obtain⟨L4,Ef⟩:=afI cO cP b fl nx lf es rt s 1 false;rw[r2]at Ef;refine gy uo mo lT U Ef (dG ?_);refine⟨fm ⟨dP,be⟩ (eR be),fun s' dL=>?_⟩;have ue:=afK cO cP b fl nx lf es rt s n (1+(js n).length) false;rw[r3]at ue;refine c6 dL ?_;refine o9 amb mo _ U ue fun g hg hc=>?_;simp only[aE,aM,bt]at hg;have A:∀p∈[((0:Int)<=Int.ofNat (1+(js n).length)/\1+(js n).length<=s.length),(s.length<=1000000000)],p:=fm ⟨az _,be⟩ (eR be);have hb:eG dd []=decide (dd=[]):=by
  rw[ga];cases dd<;>rfl
 rcases hg with rfl|rfl
 all_goals
  have q:=hc _ (aq.2 rfl);have q:eG dd []=_:=q;rw[hb]at q;refine⟨A,_,_,_,rfl,rfl,?_,rfl⟩
 . rw[aG (aH q)]
 . rw[aI (aJ q)]
end
noncomputable abbrev aaZ:Code:=dS Tryz.f103
noncomputable abbrev amc:Code:=de 1 aaZ
noncomputable abbrev aa0:Code:=dx (dx amc)
section
variable(cO cP:Nat)(b:aa)(fl lf:Int)(es rt:ae)(lg:aa)
def sRw:St:=eF [(1,.ptr (some (9,0))),(2,.ptr (some (10,0))),(12,v103)] (hL (lRv cO cP b fl lf es rt 0 [] [] 0++[(11,.cells [.str lg])])) 12
noncomputable def oRw:O:=.loop true none (sRw cO cP b fl lf es rt lg).fr [13,14] ae9 afa
noncomputable def OU(nx:Int)(lI lX:ae)(en:Int):Tr O:=hL (lRv cO cP b fl lf es rt nx lI lX en++[(11,.cells [.str lg]),(12,.mA),(13,oRw cO cP b fl lf es rt lg)])
noncomputable def mRc(nx:Int)(lI lX:ae)(en:Int)(a:Nat)(f:Bool):Tr O:=hL (lRv cO cP b fl lf es rt nx lI lX en++[(11,.cells [.str lg]),(12,.mA),(13,oRw cO cP b fl lf es rt lg),(14,.cells (GZ lg a f))])
noncomputable def Pz(nx:Int)(lI lX:ae)(en:Int)(a:Nat)(f:Bool):St:=eF [(0,.fn (.yield 13) [] []),(3,.ptr (some (14,0)))] (mRc cO cP b fl lf es rt lg nx lI lX en a f) 15
end
noncomputable abbrev ame(args:ag)(h:Tr O)(n:Nat)(v:V)(h1:Tr O)(n1:Nat):e9:=gG ak (Vh 83 args h n v h1 n1 W19) H0 1000 40
theorem amf(cO cP:Nat)(b:aa)(fl lf:Int)(es rt:ae)(lg:aa):c7 lZ [] 14 Tryz.f103 [0,3] (eO 1 aaZ) (cT [.fn (.yield 13) [] [],.ptr (some (11,0))] (OU cO cP b fl lf es rt lg 0 [] [] 0) 14) [([],
   [],
   .to .normal (Pz cO cP b fl lf es rt lg 0 [] [] 0 0 false))]
 :=cQ.of U U U
section
variable(cO cP:Nat)(b:aa)(fl lf:Int)(es rt:ae)(lg:aa)
noncomputable def mRd(nx:Int)(lI lX:ae)(en:Int)(a:Nat):Tr O:=(mRc cO cP b fl lf es rt lg nx lI lX en a false).set 13 none
noncomputable def sRe(nx:Int)(lI lX:ae)(en:Int)(t:aa)(k:Int)(a:Nat)(f:Bool):St:=eF [(0,.fn (.yield 13) [] []),(3,.ptr (some (14,0))),(4,.str t),(5,.int .i64 k)] (mRc cO cP b fl lf es rt lg nx lI lX en a f) 15
end
noncomputable abbrev aa1:Code:=dx (dV aa0)
section
variable(cO cP:Nat)(b:aa)(fl lf:Int)(es rt:ae)
theorem amh(lg:aa)(nx:Int)(lI lX:ae)(en:Int)(a:Nat):c7 lZ [(10,.split)] 14 Tryz.f103 [0,3] (dK aa0) (Pz cO cP b fl lf es rt lg nx lI lX en a false) [([((decide (IntKind.i64.wrap ((Int.ofNat lg.length)-Int.ofNat a)>(0:Int))),true)],
   [],
   .to .normal (Pz cO cP b fl lf es rt lg nx lI lX en a false)),
  ([((decide (IntKind.i64.wrap ((Int.ofNat lg.length)-Int.ofNat a)>(0:Int))),false)],
   [],
   .to (.exit 0) (Pz cO cP b fl lf es rt lg nx lI lX en a false))]
 :=cQ.of U U U
theorem ami(lg:aa)(nx:Int)(lI lX:ae)(en:Int)(a:Nat):c7 lZ [] 14 Tryz.f103 [0,3,4,5] (eO 2 aa1) (Pz cO cP b fl lf es rt lg nx lI lX en a false) [([],
   [((0:Int)<=Int.ofNat a/\a<=lg.length),(lg.length<=1000000000),((0:Int)<=Int.ofNat (hU lg a false).2.1/\(Int.ofNat (hU lg a false).2.1).toNat<=lg.length),(lg.length<=1000000000),((0:Int)<=(4:Int)/\4<=8)],
   .to .normal (sRe cO cP b fl lf es rt lg nx lI lX en (hU lg a false).1 (yc lg (hU lg a false).2.1 (hU lg a false).2.2 4).1 (yc lg (hU lg a false).2.1 (hU lg a false).2.2 4).2.1 (yc lg (hU lg a false).2.1 (hU lg a false).2.2 4).2.2))]
 :=cQ.of U U U
theorem amj(lg:aa)(nx:Int)(lI lX:ae)(en:Int)(t:aa)(k:Int)(a:Nat)(nx2:Int)(tU rt2:ae):c7 (ame [P3,.str t] (mRd cO cP b fl lf es rt lg nx lI lX en a) 15 (.ef []) (mRd cO cP b fl lf es rt lg nx2 tU rt2 en a) 15) [(24,.dc (.bool false))] 14 Tryz.f103 [0,3] (de 2 aa1) (sRe cO cP b fl lf es rt lg nx lI lX en t k a false) [([],
   [(t.length<1000000000),(V.bool (k !=IntKind.i64.wrap (qG t))=V.bool false),(fb [.ptr (some (3,0)),.str t] (mRd cO cP b fl lf es rt lg nx lI lX en a) 15)],
   .to .normal (Pz cO cP b fl lf es rt lg nx2 tU rt2 (Int.ofNat a) a false))]
 :=cQ.of U U U
--@ atk (cO cP:Nat) (b:aa) (fl lf:Int) (es rt:ae) (lg:aa) (nx:Int) (lI lX:ae) (en:Int) (t:aa) (k:Int) (a:Nat) (f:Bool)|lZ | [(17,.split),(24,.dc (.bool true))]|14|Tryz.f103 | []|de 2 aa1|sRe cO cP b fl lf es rt lg nx lI lX en t k a f | [ae9,afa] | | | OU cO cP b fl lf es rt lg nx lI lX en ;;OU cO cP b fl lf es rt lg nx lI lX en
abbrev RW(lg:aa)(a:Nat):Prop:=(0:Int)<=Int.ofNat (hU lg a false).2.1/\(Int.ofNat (hU lg a false).2.1).toNat<=lg.length
theorem amk(lg:aa)(nx:Int)(lI lX:ae)(en:Int)(a:Nat):∃L,zh ak lZ [(10,.split),(17,.split),(24,.dc (.bool true))] 1000 14 Tryz.f103 [0,3] 0 (aa0) (Pz cO cP b fl lf es rt lg nx lI lX en a false) L
  [([((decide (IntKind.i64.wrap ((Int.ofNat lg.length)-Int.ofNat a)>(0:Int))),true),(((yc lg (Int.ofNat (hU lg a false).2.1).toNat (hU lg a false).2.2 4).2.2),true)],
   [((0:Int)<=Int.ofNat a/\a<=lg.length),(lg.length<=1000000000),RW lg a,(lg.length<=1000000000),((0:Int)<=(4:Int)/\4<=8),(V.bool true=V.bool true)],
   .ret (.ef []) (OU cO cP b fl lf es rt lg nx lI lX en) 14),
  ([((decide (IntKind.i64.wrap ((Int.ofNat lg.length)-Int.ofNat a)>(0:Int))),true),(((yc lg (Int.ofNat (hU lg a false).2.1).toNat (hU lg a false).2.2 4).2.2),false)],
   [((0:Int)<=Int.ofNat a/\a<=lg.length),(lg.length<=1000000000),RW lg a,(lg.length<=1000000000),((0:Int)<=(4:Int)/\4<=8),((hU lg a false).1.length<1000000000),(V.bool ((yc lg (Int.ofNat (hU lg a false).2.1).toNat (hU lg a false).2.2 4).1 !=IntKind.i64.wrap (qG (hU lg a false).1))=V.bool true)],
   .ret (.ef []) (OU cO cP b fl lf es rt lg nx lI lX en) 14),
  ([((decide (IntKind.i64.wrap ((Int.ofNat lg.length)-Int.ofNat a)>(0:Int))),false)],
   [],
   .ret (.ef []) (OU cO cP b fl lf es rt lg nx lI lX en) 14)]
 :=zh.of U U U
end
inductive jw where
 |chunk (d:aa) (rs:List (aa))
 |root (n dd:aa)
def jw.body:jw->aa
 | .chunk d rs=>vr d rs.length++rs.flatten
 | .root n dd=>o8 2++js n++js dd
def jw.bytes(r:jw):aa:=nu r.body
def jw.ok:jw->Prop
 | .chunk d rs=>d.length<=65536/\rs.length<=1024/\∀x∈rs,x.length=32
 | .root n dd=>n.length<=1000/\dd.length<=1000
theorem jw.Dm{r:jw}(h:r.ok):r.body.length<=200000:=by
 cases r with
 |chunk d rs=>
  obtain⟨h1,h2,h3⟩:=h;have:=wm d rs.length;have:=vt h3;simp only[jw.body,ax];omega
 |root n dd=>
  obtain⟨h1,h2⟩:=h;have:=oK n;have:=oK dd;simp only[jw.body,ax,show(o8 2).length=1 from rfl];omega
structure LS where
 nx:Int
 es:ae
 rt:ae
def BR(s:LS):jw->LS
 | .chunk d rs=>⟨IntKind.i64.wrap (s.nx+1),ig (.str (dN d rs)) (pU d rs s.nx) s.es,s.rt⟩
 | .root n dd=>⟨s.nx,s.es,if dd=[]then lO (.str n) s.rt else ig (.str n) (.str dd) s.rt⟩
def ls0:LS:=⟨0,[],[]⟩
abbrev iu(l:List jw):LS:=l.foldl BR ls0
def cW(l:List jw):aa:=(l.map jw.bytes).flatten
theorem aa2(cO cP:Nat)(b:aa)(fl nx lf:Int)(es rt:ae)(r:jw)(h:r.ok):cU ak 83 [P3,.str r.body] (eu (pS cO cP b fl nx lf es rt)) 7 (.ef []) (eu (pS cO cP b fl (BR ⟨nx,es,rt⟩ r).nx lf (BR ⟨nx,es,rt⟩ r).es (BR ⟨nx,es,rt⟩ r).rt)) 7:=by
 cases r with
 |chunk d rs=>exact Vr cO cP b fl nx lf es rt d rs h.1 h.2.1 h.2.2
 |root n dd=>exact Vs cO cP b fl nx lf es rt n dd (by have:=h.1;omega) (by have:=h.2;omega)
def nsR:List (Option Nat):=[some 0,some 1,some 2,some 3,some 4,some 7,some 8]
section
variable(cO cP:Nat)(b:aa)(fl lf:Int)(es rt:ae)(lg:aa)
theorem Vt(nx:Int)(lI lX:ae)(en:Int)(a:Nat)(r:jw)(h:r.ok):cU ak 83 [P3,.str r.body] (mRd cO cP b fl lf es rt lg nx lI lX en a) 15 (.ef [])
  (mRd cO cP b fl lf es rt lg (BR ⟨nx,lI,lX⟩ r).nx (BR ⟨nx,lI,lX⟩ r).es (BR ⟨nx,lI,lX⟩ r).rt en a) 15:=by
 have hc:=aa2 cO cP b fl nx lf lI lX r h;generalize BR ⟨nx,lI,lX⟩ r=q at hc ⊢;obtain⟨nx2,tU,rt2⟩:=q;generalize r.body=t at hc ⊢;have z6:I1 (mRd cO cP b fl lf es rt lg nx lI lX en a) 3=some (nsR,pS cO cP b fl nx lf lI lX):=by kernel_rfl
 exact fL (ns:=nsR) (I2 z6 U U).1 U U hc
def Stop(lg:aa)(a:Nat):Prop:=a=lg.length\/(yc lg (hU lg a false).2.1 (hU lg a false).2.2 4).2.2=true\/(yc lg (hU lg a false).2.1 (hU lg a false).2.2 4).1≠IntKind.i64.wrap (qG (hU lg a false).1)
theorem oo{r:jw}:0<r.bytes.length:=by
 have:=xL r.body;unfold jw.bytes;omega
section
variable{l:List jw}{i:Nat}
theorem Bf(h:i<l.length):cW (l.take (i+1))=cW (l.take i)++(l[i]).bytes:=by
 unfold cW;rw[bI,ay h,cB,aZ,cr];simp
theorem Jb(h:i<l.length):cW (l.drop i)=(l[i]).bytes++cW (l.drop (i+1)):=by
 unfold cW;rw[bF h,bW,List.flatten_cons]
theorem tJ(l:List jw)(i:Nat):cW l=cW (l.take i)++cW (l.drop i):=by
 unfold cW;rw[<- cr,<- aZ,ck]
theorem RX(h:i<l.length):iu (l.take (i+1))=BR (iu (l.take i)) l[i]:=by
 unfold iu;rw[bI,ay h,cB,List.foldl_append];rfl
end
theorem RY{lg:aa}{a:Nat}{r:jw}{x:aa}(hr:r.ok)(h:lg.drop a=r.bytes++x):
  hU lg a false=(r.body,a+(js r.body).length,false)/\yc lg (a+(js r.body).length) false 4=(IntKind.i64.wrap (qG r.body),a+r.bytes.length,false):=by
 have hl:=jw.Dm hr;have h1:lg.drop a=js r.body++(dO (IntKind.i64.wrap (qG r.body))++x):=by
  rw[h];unfold jw.bytes nu;rw[bA]
 refine⟨zk be h1,?_⟩;rw[RV (qI h1)];unfold jw.bytes nu;rw[ax,cA];rfl
theorem RZ(s:aa)(a:Nat)(f:Bool):(hU s a f).1.length<=s.length:=by
 unfold hU qM;simp only;split
 . simp
 . simp only[aX,bX];omega
theorem R1(l:List jw)(x:aa)(hl:∀r∈l,r.ok)(DZ:lg=cW l++x)(z6:Stop lg (cW l).length)(lQ:lg.length<1000000000):
  cU ak 103 [.fn (.yield 13) [] [],.ptr (some (11,0))] (OU cO cP b fl lf es rt lg 0 [] [] 0) 14 (.ef []) (OU cO cP b fl lf es rt lg (iu l).nx (iu l).es (iu l).rt (Int.ofNat (cW l).length)) 14:=by
 refine c5 Tryz.func103 (code:=aaZ) U U ?_;refine iO  1 uo (amf cO cP b fl lf es rt lg) cR ?_
 let S:Nat->St:=fun i=>Pz cO cP b fl lf es rt lg (iu (l.take i)).nx (iu (l.take i)).es (iu (l.take i)).rt (Int.ofNat (cW (l.take i)).length) (cW (l.take i)).length false
 have mG:∀i,i<=l.length->lg.drop (cW (l.take i)).length=cW (l.drop i)++x:=by
  intro i hi;have:lg=cW (l.take i)++(cW (l.drop i)++x):=by rw[DZ,tJ l i,bA]
  rw[this,List.drop_left'];rfl
 have kC:∀i,i<=l.length->(cW (l.take i)).length+(cW (l.drop i)).length+x.length=lg.length:=by
  intro i hi;have h1:=aN List.length (mG i hi);have h2:=aN List.length (tJ l i);rw[ax]at h2;rw[DZ,ax];omega
 refine jj 0 l.length S U U .refl (fun i hi=>?_) ?_
 . have ic:=hl _ (bY hi);have hp:=mG i be;have fJ:=kC i be;rw[Jb hi]at hp fJ;rw[bA]at hp;have OV:=oo (r:=l[i]);obtain⟨q1,q2⟩:=RY ic hp;rw[ax]at fJ;have hbo:=jw.Dm ic;have ya:(js (l[i]).body).length<=(l[i]).bytes.length:=by unfold jw.bytes nu;rw[ax];omega
   refine cV U ?_;refine fR uo (amh cO cP b fl lf es rt lg (iu (l.take i)).nx (iu (l.take i)).es (iu (l.take i)).rt (Int.ofNat (cW (l.take i)).length) (cW (l.take i)).length) fun g hg hc=>?_;simp only[aE,aM,bt]at hg;have hw:IntKind.i64.wrap ((Int.ofNat lg.length)-Int.ofNat (cW (l.take i)).length)=((lg.length-(cW (l.take i)).length:Nat):Int):=by
    rw[show(Int.ofNat lg.length)-Int.ofNat (cW (l.take i)).length=((lg.length-(cW (l.take i)).length:Nat):Int)by rw[kZ,kZ];omega];exact lJ be
   rcases hg with rfl|rfl
   case inr=>exact absurd (aJ (hc _ (aq.2 rfl))) (by rw[hw];omega)
   refine⟨cR,fun s' dL=>c6 dL ?_⟩;refine fg (i:=1) U ?_;obtain⟨L3,wv⟩:=ami cO cP b fl lf es rt lg (iu (l.take i)).nx (iu (l.take i)).es (iu (l.take i)).rt (Int.ofNat (cW (l.take i)).length) (cW (l.take i)).length;rw[q1]at wv;have q2':yc lg (l[i].body,(cW (l.take i)).length+(js (l[i]).body).length,false).2.1 (l[i].body,(cW (l.take i)).length+(js (l[i]).body).length,false).2.2 4=_:=q2;rw[q2']at wv;refine kV 2 uo mo U wv (fm ⟨az _,be⟩ (fm be (fm ⟨az _,by show(cW (l.take i)).length+(js (l[i]).body).length<=_;omega⟩ (fm be (eR ⟨dP,dP⟩))))) ?_;have Qi:=Vt cO cP b fl lf es rt lg (iu (l.take i)).nx (iu (l.take i)).es (iu (l.take i)).rt (Int.ofNat (cW (l.take i)).length) ((cW (l.take i)).length+(l[i]).bytes.length) l[i] ic;refine fR (CX.of mo po (MS (au U) Qi G0) H0 1000 40) (amj cO cP b fl lf es rt lg (iu (l.take i)).nx (iu (l.take i)).es (iu (l.take i)).rt (Int.ofNat (cW (l.take i)).length) (l[i]).body (IntKind.i64.wrap (qG (l[i]).body)) ((cW (l.take i)).length+(l[i]).bytes.length) (BR (iu (l.take i)) l[i]).nx (BR (iu (l.take i)) l[i]).es (BR (iu (l.take i)) l[i]).rt) (dG ?_);refine⟨fm be (fm (by simp) (eR ⟨rfl,rfl,rfl⟩)),fun s' dL=>?_⟩;show gu ak 14 Tryz.f103.ntmps s' (S (i+1));have e1:S (i+1)=Pz cO cP b fl lf es rt lg (BR (iu (l.take i)) l[i]).nx (BR (iu (l.take i)) l[i]).es (BR (iu (l.take i)) l[i]).rt (Int.ofNat ((cW (l.take i)).length+(l[i]).bytes.length)) ((cW (l.take i)).length+(l[i]).bytes.length) false:=by
    show Pz _ _ _ _ _ _ _ _ _ _ _ _ _ _=_;rw[RX hi,Bf hi,ax]
   rw[e1];exact .norm dL
 . have h1:S l.length=Pz cO cP b fl lf es rt lg (iu l).nx (iu l).es (iu l).rt (Int.ofNat (cW l).length) (cW l).length false:=by
    show Pz _ _ _ _ _ _ _ _ _ _ _ _ _ _=_;rw[aS]
   rw[h1];have h2:=kC l.length (aA _);rw[aS]at h2;generalize (cW l).length=a at *;have x1:=Vo lg a false be;have x2:=RZ lg a false;obtain⟨L6,HC⟩:=amk cO cP b fl lf es rt lg (iu l).nx (iu l).es (iu l).rt (Int.ofNat a) a;refine RM 0 uo mo (fun v h n=>v= .ef []/\h=OU cO cP b fl lf es rt lg (iu l).nx (iu l).es (iu l).rt (Int.ofNat a)/\n=14) U HC (fun s' dL=>⟨by simp,by rw[dY];exact dL⟩) fun g hg hc=>?_;simp only[aE,aM,bt]at hg;have q1:(0:Int)<=Int.ofNat a/\a<=lg.length:=⟨az _,be⟩;have q2:lg.length<=1000000000:=by omega
   have q3:(0:Int)<=Int.ofNat (hU lg a false).2.1/\(Int.ofNat (hU lg a false).2.1).toNat<=lg.length:=⟨az _,x1⟩;have q4:(0:Int)<=(4:Int)/\4<=8:=⟨dP,dP⟩;have Lr:∀s',fH ak 14 Tryz.f103 (fun v h n=>v= .ef []/\h=OU cO cP b fl lf es rt lg (iu l).nx (iu l).es (iu l).rt (Int.ofNat a)/\n=14) .ret s'->(Exit.ret≠ .normal/\mj 0 (fH ak 14 Tryz.f103 (fun v h n=>v= .ef []/\h=OU cO cP b fl lf es rt lg (iu l).nx (iu l).es (iu l).rt (Int.ofNat a)/\n=14)) .ret s'):=fun s' h=>⟨by simp,h⟩;have hw:IntKind.i64.wrap ((Int.ofNat lg.length)-Int.ofNat a)=((lg.length-a:Nat):Int):=by
    rw[show(Int.ofNat lg.length)-Int.ofNat a=((lg.length-a:Nat):Int)by rw[kZ,kZ];omega];exact lJ be
   rcases hg with rfl|rfl|rfl
   . exact⟨fm q1 (fm q2 (fm q3 (fm q2 (fm q4 (eR trivial))))),⟨rfl,rfl,rfl⟩,Lr⟩
   . have c1:=aH (hc _ (aP ..));have c2:=hc _ (aK _ (aq.2 rfl));have fP:(yc lg (hU lg a false).2.1 (hU lg a false).2.2 4).1≠IntKind.i64.wrap (qG (hU lg a false).1):=by
      rcases z6 with h|h|h
      . rw[hw]at c1;omega
      . have c2:(yc lg (hU lg a false).2.1 (hU lg a false).2.2 4).2.2=false:=c2;rw[h]at c2;cases c2
      . exact h
     exact⟨fm q1 (fm q2 (fm q3 (fm q2 (fm q4 (fm (Nat.lt_of_le_of_lt x2 lQ) (eR (aN V.bool (bne_iff_ne.2 fP)))))))),⟨rfl,rfl,rfl⟩,Lr⟩
   . exact⟨cR,⟨rfl,rfl,rfl⟩,Lr⟩
end
section
variable(cO cP:Nat)(b:aa)(fl nx lf:Int)(es rt lI lX:ae)
def hRg(lw:V)(o4:af)(fl nx:Int):Tr O:=hL ([(0,.ints .u32 gS),(1,.ints .u32 gR),(3,.cells [lw,.int .i64 fl,.map (some 7),.map (some 8),.int .i64 nx,.bool false,.bool false,.int .i64 lf])]++o4++[(5,.dy none es),(6,.dy none rt),(7,.dy none lI),(8,.dy none lX)])
end
section
variable(cO cP:Nat)(b:aa)(fl lf:Int)(es rt:ae)(lg:aa)
theorem aml:c7 lZ [(11,.dc (.str lg))] 7 Tryz.f57 [1,2,12] (dK (dK OM)) (eF [(1,.ptr (some (9,0))),(2,.ptr (some (10,0)))] (hL (lRv cO cP b fl lf es rt 0 [] [] 0)) 11) [([],
   [(0+cO<=b.length),(V.str (List.take cO (List.drop 0 b))=V.str lg)],
   .to .normal (sRw cO cP b fl lf es rt lg))]
 :=cQ.of U U U
theorem amm(nx:Int)(lI lX:ae)(e:Nat):sB ak lZ [] 1000 7 Tryz.f57 (dV OM) (tD (sRw cO cP b fl lf es rt lg) (OU cO cP b fl lf es rt lg nx lI lX (Int.ofNat e)) 14)
  [([],
   [((0:Int)<=Int.ofNat e/\Int.ofNat e<=(Int.ofNat cP))],
   .ret (.ef []) (hRg lf es rt lI lX (.di (some (4,0)) e cP 1) [(4,.iX 5 false b)] (Int.ofNat e) nx) 9)]
 :=⟨U,U,U⟩
end
section
variable(fl nx lf:Int)(es rt:ae)
def lRn(fl nx:Int):af:=[(0,.ints .u32 gS),(1,.ints .u32 gR),(3,.cells [eI,.int .i64 fl,.map (some 7),.map (some 8),.int .i64 nx,.bool false,.bool false,.int .i64 lf]),(5,.dy none es),(6,.dy none rt),(7,.dy none []),(8,.dy none []),(9,.cells [P3]),(10,.cells [.int .i64 0])]
def sRn(fl:Int):St:=eF [(1,.ptr (some (9,0))),(2,.ptr (some (10,0)))] (hL (lRn lf es rt fl 0)) 11
end
theorem afL(fl nx lf:Int)(es rt:ae):c7 lZ [] 7 Tryz.f57 [1,2] (eO 3 RF) (cT [P3] (eu (pN fl nx lf es rt)) 7) [([],
   [],
   .to .normal (eF [(1,.ptr (some (9,0))),(2,.ptr (some (10,0)))] (hL [(0,.ints .u32 gS),(1,.ints .u32 gR),(3,.cells [eI,.int .i64 fl,.map (some 7),.map (some 8),.int .i64 0,.bool false,.bool false,.int .i64 lf]),(5,.dy none es),(6,.dy none rt),(7,.map [] 0),(8,.map [] 0),(9,.cells [P3]),(10,.cells [.int .i64 0])]) 11))]
 :=cQ.of U U U
theorem afM(fl lf:Int)(es rt:ae):sB ak lZ [] 1000 7 Tryz.f57 (OM) (sRn lf es rt fl)
  [([],
   [((0:Int)<=(0:Int)/\(0:Int)<=(0:Int))],
   .ret (.ef []) (hRg lf es rt [] [] eI [] 0 0) 9)]
 :=⟨U,U,U⟩
theorem G3(cO cP:Nat)(b:aa)(fl nx lf:Int)(es rt:ae)(l:List jw)(x:aa)(hb:cO<=b.length)(ic:∀r∈l,r.ok)(DZ:b.take cO=cW l++x)(z6:Stop (b.take cO) (cW l).length)(hc:cO<=cP)(lQ:cO<1000000000):
  cU ak 57 [P3] (eu (pS cO cP b fl nx lf es rt)) 7 (.ef []) (hRg lf es rt (iu l).es (iu l).rt (.di (some (4,0)) (cW l).length cP 1) [(4,.iX 5 false b)] (Int.ofNat (cW l).length) (iu l).nx) 9:=by
 refine c5 Tryz.func57 (code:=RF) U U ?_;refine iO  3 XT (afc cO cP b fl nx lf es rt) cR ?_;refine Aq [(7,none),(8,none)] (s2:=eF [(1,.ptr (some (9,0))),(2,.ptr (some (10,0)))] (hL (lRv cO cP b fl lf es rt 0 [] [] 0)) 11) U ?_;show TG ak 7 Tryz.f57.ntmps OM _ _;refine cV U ?_;refine cV U ?_;have HB:(cW l).length+x.length=cO:=by
  have:=aN List.length DZ;rw[aX,ax]at this;omega
 refine fR uo (aml cO cP b fl lf es rt (b.take cO)) (dG ?_);refine⟨fm be (eR rfl),fun s' dL=>c6 dL ?_⟩;refine fg (i:=0) U ?_;refine oh (gf:=103) (lb:=[.ptr (some (11,0))]) U U U U U (R1 cO cP b fl lf es rt (b.take cO) l x ic DZ z6 (by rw[aX];omega)).one ?_;rintro v h n ⟨rfl,rfl,rfl⟩;refine⟨U,?_⟩;show TG ak 7 Tryz.f57.ntmps (dV OM) (tD (sRw cO cP b fl lf es rt (b.take cO)) (OU cO cP b fl lf es rt (b.take cO) (iu l).nx (iu l).es (iu l).rt (Int.ofNat (cW l).length)) 14) _;refine o9 uo mo _ U (amm cO cP b fl lf es rt (b.take cO) (iu l).nx (iu l).es (iu l).rt (cW l).length) (dG ?_);exact⟨eR ⟨az _,dh⟩,_,_,_,rfl,rfl,rfl,rfl⟩
theorem BS(fl nx lf:Int)(es rt:ae):cU ak 57 [P3] (eu (pN fl nx lf es rt)) 7 (.ef []) (hRg lf es rt [] [] eI [] 0 0) 9:=by
 refine c5 Tryz.func57 (code:=RF) U U ?_;refine iO  3 uo (afL fl nx lf es rt) cR ?_;refine Aq [(7,none),(8,none)] (s2:=sRn lf es rt fl) U ?_;refine o9 uo mo _ U (afM fl lf es rt) (dG ?_);exact⟨eR ⟨dP,dP⟩,_,_,_,rfl,rfl,rfl,rfl⟩
noncomputable abbrev Vu:Code:=dS Tryz.f77
noncomputable abbrev aa3:Code:=de 2 Vu
abbrev P8:V:=.ptr (some (8,0))
abbrev OW:V:=.ptr (some (10,0))
abbrev P11:V:=.ptr (some (11,0))
abbrev aV(x:aa):ag:=[.str x,P8,P11,OW]
abbrev f78:V:=.fn (.func 78) [] [.ptr (some (7,0))]
section
variable(cO cP:Nat)(b:aa)(fl nx lf:Int)(es rt:ae)
section
variable(sn:ae)
def lV:af:=eP (pS cO cP b fl nx lf es rt)++[(7,.cells [.map (some 6)]),(8,.cells [.map (some 9)]),(9,.dy none sn),(10,.cells [.fn (.func 77) [] [P8,P11,OW]]),(11,.cells [P3])]
def Vv:St:=eF [(5,P8),(6,OW),(10,f78)] (hL (lV cO cP b fl nx lf es rt [])) 12
noncomputable def lVx:af:=lV cO cP b fl nx lf es rt sn++[(12,.mA),(13,.loop true none (Vv cO cP b fl nx lf es rt).fr [11] aaD aaE)]
noncomputable def MZ:Tr O:=hL (lVx cO cP b fl nx lf es rt sn)
def lMv:af:=[(0,.ints .u32 gS),(1,.ints .u32 gR),(3,.cells (wI 4 5 6 (pS cO cP b fl nx lf es rt))),(4,.iX 5 false b),(5,.dy none es),(7,.cells [.map (some 6)]),(8,.cells [.map (some 9)]),(9,.dy none sn),(10,.cells [.fn (.func 77) [] [P8,P11,OW]]),(11,.cells [P3]),(12,.mA)]
def mV:Tr O:=hL (lMv cO cP b fl nx lf es rt sn)
noncomputable def Yt:Tr O:=((MZ cO cP b fl nx lf es rt sn).set 6 none).set 13 none
def sVi(rs:List (aa))(i:Nat):St:=eF [(1,P8),(2,P11),(3,OW),(18,.dM false rs.length (strs rs)),(19,.int .i64 (Int.ofNat rs.length)),(20,.int .i64 (Int.ofNat i))] (mV cO cP b fl nx lf es rt sn) 15
end
end
section
variable(cO cP:Nat)(b:aa)(fl nx lf:Int)(es rt:ae)(x:aa)(sn:ae)(rs:List (aa))(i:Nat)
theorem amn:c7 lZ [(9,.dc (.bool true))] 15 Tryz.f77 [] (Vu) (cT (aV x) (mV cO cP b fl nx lf es rt sn) 15) [([],
   [((if false=true then V.ef [D.fZ (V.bool false) (dj (D.str x) sn),V.bool (dj (D.str x) sn).isSome]else D.fZ (V.bool false) (dj (D.str x) sn))=V.bool true)],
   .ret (.ef []) (mV cO cP b fl nx lf es rt sn) 15)]
 :=cQ.of U U U
theorem amo:c7 lZ [(9,.dc (.bool false))] 15 Tryz.f77 [0,1,2,3] (eO 2 Vu) (cT (aV x) (mV cO cP b fl nx lf es rt sn) 15) [([],
   [((if false=true then V.ef [D.fZ (V.bool false) (dj (D.str x) sn),V.bool (dj (D.str x) sn).isSome]else D.fZ (V.bool false) (dj (D.str x) sn))=V.bool false)],
   .to .normal (eF [(0,.str x),(1,P8),(2,P11),(3,OW)] (mV cO cP b fl nx lf es rt (ig (.str x) (.bool true) sn)) 15))]
 :=cQ.of U U U
theorem amq(d:aa)(rs:List (aa))(k:Int):c7 lZ [(17,.dc (og d rs k)),(20,.dc (.int .i64 (Int.ofNat 0)))] 15 Tryz.f77 [1,2,3,18,19,20] (dK aa3) (eF [(0,.str x),(1,P8),(2,P11),(3,OW)] (mV cO cP b fl nx lf es rt sn) 15) [([],
   [((if false=true then V.ef [D.fZ (V.agg [V.str ([]:aa),V.di none 0 0 0,V.int aj (0:Int)]) (dj (D.str x) es),V.bool (dj (D.str x) es).isSome]else D.fZ (V.agg [V.str ([]:aa),V.di none 0 0 0,V.int aj (0:Int)]) (dj (D.str x) es))=og d rs k),(V.int aj (0:Int)=V.int aj (0:Int))],
   .to .normal (eF [(1,.ptr (some (8,0))),(2,.ptr (some (11,0))),(3,.ptr (some (10,0))),(18,.dM false (rs.length) (strs rs)),(19,.int .i64 ((Int.ofNat rs.length))),(20,.int .i64 0)] (hL [(0,.ints .u32 gS),(1,.ints .u32 gR),(3,.cells [.di (some (4,0)) cO cP 1,.int .i64 fl,.map (some 5),.map (some 6),.int .i64 nx,.bool false,.bool false,.int .i64 lf]),(4,.iX 5 false b),(5,.dy none es),(7,.cells [.map (some 6)]),(8,.cells [.map (some 9)]),(9,.dy none sn),(10,.cells [.fn (.func 77) [] [.ptr (some (8,0)),.ptr (some (11,0)),.ptr (some (10,0))]]),(11,.cells [.ptr (some (3,0))]),(12,.mA)]) 15))]
 :=cQ.of U U U
theorem amr(sn2:ae)(rs:List (aa))(i:Nat)(p:aa):c7 (fC lZ 77 (aV p) (mV cO cP b fl nx lf es rt sn) 15 (.ef [],mV cO cP b fl nx lf es rt sn2,15)) [(21,.split),(22,.dc (.dw [.str p])),(27,.dc (.int .i64 (Int.ofNat (i+1))))] 15 Tryz.f77 [1,2,3,18,19,20] (dx (dx (dV aa3))) (sVi cO cP b fl nx lf es rt sn rs i) [([((decide (Int.ofNat i<Int.ofNat rs.length)),true)],
   [((0:Int)<=Int.ofNat i/\Int.ofNat i<(Int.ofNat rs.length)),((strs rs).length=rs.length*1),(V.dw (dm (strs rs) (i*1) 1)=V.dw [D.str p]),(aV p=aV p/\mV cO cP b fl nx lf es rt sn=mV cO cP b fl nx lf es rt sn/\15=15),kQ (Int.ofNat i+(1:Int)) (i+1)],
   .to .normal (sVi cO cP b fl nx lf es rt sn2 rs (i+1))),
  ([((decide (Int.ofNat i<Int.ofNat rs.length)),false)],
   [],
   .to (.exit 0) (sVi cO cP b fl nx lf es rt sn rs i))]
 :=cQ.of U U U
theorem ams:∃L,zh ak lZ [(21,.dc (.bool false))] 1000 15 Tryz.f77 [1,2,3,18,19,20] 0 (dx (dx (dV aa3))) (sVi cO cP b fl nx lf es rt sn rs i) L
  [([],
   [(V.bool (decide (Int.ofNat i<Int.ofNat rs.length))=V.bool false)],
   .ret (.ef []) (mV cO cP b fl nx lf es rt sn) 15)]
 :=zh.of U U U
end
def nI(ks:List (aa)):ae:=ks.map fun k=>(.str k,.bool true)
theorem zl(x:aa):∀ks:List (aa),dj (.str x) (nI ks)=if x∈ks then some (.bool true)else none
 | []=>rfl
 |k::ks=>by
  have ih:=zl x ks;unfold nI at ih ⊢;rw[bW,gm,ih];by_cases h:k=x
  . subst h;simp
  . have h1:¬(D.str k=D.str x):=fun e=>h (by cases e;rfl);have h2:¬x=k:=fun e=>h e.symm;simp only[h1,cG,aE,h2,false_or]
theorem Vw{x:aa}{ks:List (aa)}(h:x∉ks):ig (.str x) (.bool true) (nI ks)=nI (ks++[x]):=by
 rw[vu _ (by rw[zl,aI h])];unfold nI;rw[aZ];rfl
def pE(es:ae)(x:aa):List (aa):=match dj (.str x) es with
 |some (.agg [_,.dM _ cs,_])=>dH cs
 |_=>[]
theorem Fp{es:ae}{x d:aa}{rs:List (aa)}{k:Int}(h:dj (.str x) es=some (pU d rs k)):pE es x=rs:=by
 unfold pE;rw[h];exact ir rs
def l5(es:ae):Nat->aa->List (aa)->List (aa)
 |0,_,ks=>ks
 |k+1,x,ks=>if x∈ks then ks else(pE es x).foldl (fun a r=>l5 es k r a) (ks++[x])
def Ends(es:ae):Nat->aa->Prop
 |0,_=>False
 |k+1,x=>El es x/\(pE es x).length<=1000000/\∀r∈pE es x,Ends es k r
section
variable(cO cP:Nat)(b:aa)(fl nx lf:Int)(es rt:ae)
section
variable{x:aa}{ks:List (aa)}
theorem Fq(h:x∈ks):(if false=true then V.ef [D.fZ (V.bool false) (dj (D.str x) (nI ks)),V.bool (dj (D.str x) (nI ks)).isSome]else D.fZ (V.bool false) (dj (D.str x) (nI ks)))=V.bool true:=by
 rw[zl,aG h];rfl
theorem Dn(h:x∉ks):(if false=true then V.ef [D.fZ (V.bool false) (dj (D.str x) (nI ks)),V.bool (dj (D.str x) (nI ks)).isSome]else D.fZ (V.bool false) (dj (D.str x) (nI ks)))=V.bool false:=by
 rw[zl,aI h];rfl
theorem vx{d:aa}{rs:List (aa)}{k:Int}(h:dj (.str x) es=some (pU d rs k)):(if false=true then V.ef [D.fZ (V.agg [V.str ([]:aa),V.di none 0 0 0,V.int aj (0:Int)]) (dj (D.str x) es),V.bool (dj (D.str x) es).isSome]else D.fZ (V.agg [V.str ([]:aa),V.di none 0 0 0,V.int aj (0:Int)]) (dj (D.str x) es))=og d rs k:=by
 rw[h];rfl
end
theorem afO:77<Tryz.prog.funcs.size:=au U
theorem R2:∀(k:Nat) (x:aa) (ks:List (aa)),Ends es k x->cU ak 77 (aV x) (mV cO cP b fl nx lf es rt (nI ks)) 15 (.ef []) (mV cO cP b fl nx lf es rt (nI (l5 es k x ks))) 15
 |0,_,_,h=>h.elim
 |k+1,x,ks,h=>by
  obtain⟨⟨d,rs,n,he⟩,hn,hr⟩:=h;refine c5 Tryz.func77 (code:=Vu) U U ?_;unfold l5;by_cases hx:x∈ks
  . rw[aG hx];refine fu uo (amn cO cP b fl nx lf es rt x (nI ks)) (dG ?_);exact⟨eR (Fq hx),_,_,_,rfl,rfl,rfl,rfl⟩
  . rw[aI hx];refine iO  2 uo (amo cO cP b fl nx lf es rt x (nI ks)) (eR (Dn hx)) ?_;rw[Vw hx];rw[Fp he]at hn hr ⊢;refine cV U ?_;refine fR uo (amq cO cP b fl nx lf es rt x (nI (ks++[x])) d rs n) (dG ?_);refine⟨fm (vx es he) (eR rfl),fun s' dL=>?_⟩;have dL:eX 15 [1,2,3,18,19,20] s'=some (sVi cO cP b fl nx lf es rt (nI ((rs.take 0).foldl (fun a r=>l5 es k r a) (ks++[x]))) rs 0):=dL;refine jj 0 rs.length (fun i=>sVi cO cP b fl nx lf es rt (nI ((rs.take i).foldl (fun a r=>l5 es k r a) (ks++[x]))) rs i) U U (.norm dL) (fun i hi=>?_) ?_
    . have hc:=R2 k rs[i] ((rs.take i).foldl (fun a r=>l5 es k r a) (ks++[x])) (hr _ (bY hi));generalize hK:(rs.take i).foldl (fun a r=>l5 es k r a) (ks++[x])=K at hc;have pF:(rs.take (i+1)).foldl (fun a r=>l5 es k r a) (ks++[x])=l5 es k rs[i] K:=by
       rw[bI,ay hi,cB,List.foldl_append,hK];rfl
      obtain⟨L3,wv⟩:=amr cO cP b fl nx lf es rt (nI K) (nI (l5 es k rs[i] K)) rs i rs[i];simp only[pF,hK];refine gy (uo.jt afO hc) mo lT U wv fun g hg hc=>?_;rcases iV hg with rfl|rfl
      . exact⟨fm ⟨az _,dh⟩ (fm (by rw[eJ,bj]) (fm (aN V.dw (fI (ay hi))) (fm ⟨rfl,rfl,rfl⟩ (eR (fG dh be))))),fun s' dL=>.norm dL⟩
      . exact absurd (aJ (hc _ (aq.2 rfl))) dh
    . obtain⟨L3,wv⟩:=ams cO cP b fl nx lf es rt (nI ((rs.take rs.length).foldl (fun a r=>l5 es k r a) (ks++[x]))) rs rs.length;refine RM 0 uo mo (fun v h n=>v= .ef []/\h=mV cO cP b fl nx lf es rt (nI (rs.foldl (fun a r=>l5 es k r a) (ks++[x])))/\n=15) U wv (fun s' dL=>⟨by simp,by rw[dY];exact dL⟩) (dG ?_);exact⟨eR (aN V.bool (bw be)),⟨rfl,by rw[aS],rfl⟩,fun s' dL=>⟨by simp,dL⟩⟩
end
def lM(es:ae)(k:Nat)(ds:List (aa)):List (aa):=ds.foldl (fun a d=>l5 es k d a) []
inductive Yu(es:ae):aa->aa->Prop where
 |self (x):Yu es x x
 |step (x y z):y∈pE es x->Yu es y z->Yu es x z
variable{es:ae}
def Grow(es:ae)(ks S:List (aa)):Prop:=(∀y∈ks,y∈S)/\(∀y∈S,y∉ks->∀r∈pE es y,r∈S)/\(ks.Nodup->S.Nodup)
theorem Grow.refl(ks:List (aa)):Grow es ks ks:=⟨fun _ h=>h,fun _ h1 h2=>absurd h1 h2,id⟩
theorem Grow.trans{a b c:List (aa)}(h1:Grow es a b)(h2:Grow es b c):Grow es a c:=
 ⟨fun y h=>h2.1 y (h1.1 y h),fun y hy hn r hr=>by
  by_cases hb:y∈b
  . exact h2.1 r (h1.2.1 y hb hn r hr)
  . exact h2.2.1 y hy hb r hr,fun h=>h2.2.2 (h1.2.2 h)⟩
theorem wz{f:List (aa)->aa->List (aa)}:∀(l:List (aa)) (ks:List (aa)),(∀r∈l,∀a,Grow es a (f a r)/\r∈f a r)->Grow es ks (l.foldl f ks)/\∀r∈l,r∈l.foldl f ks
 | [],ks,_=>⟨.refl ks,fun _ h=>by cases h⟩
 |x::l,ks,h=>by
  obtain⟨g1,g2⟩:=h x (by simp) ks;obtain⟨g3,g4⟩:=wz l (f ks x) fun r hr=>h r (by simp[hr]);refine⟨g1.trans g3,fun r hr=>?_⟩;rcases aE.1 hr with rfl|hr
  . exact g3.1 _ g2
  . exact g4 r hr
theorem Dp:∀(k:Nat) (x:aa) (ks:List (aa)),Ends es k x->Grow es ks (l5 es k x ks)/\x∈l5 es k x ks
 |0,_,_,h=>h.elim
 |k+1,x,ks,h=>by
  unfold l5;split
  . rename_i hx;exact⟨.refl ks,hx⟩
  . rename_i hx;obtain⟨g1,g2⟩:=wz (es:=es) (f:=fun a r=>l5 es k r a) (pE es x) (ks++[x]) fun r hr a=>Dp k r a (h.2.2 r hr);have Pv:=g1.1 x (by simp);refine⟨⟨fun y hy=>g1.1 y (by simp[hy]),fun y hy hn r hr=>?_,fun hn=>g1.2.2 ?_⟩,Pv⟩
    . by_cases e:y=x
      . subst e;exact g2 r hr
      . exact g1.2.1 y hy (by simp[hn,e]) r hr
    . exact List.nodup_append.2 ⟨hn,by simp,fun a ha b hb=>by rw[aq]at hb;subst hb;intro e;subst e;exact hx ha⟩
theorem xS{f:List (aa)->aa->List (aa)}{P:aa->Prop}:∀(l:List (aa)) (ks:List (aa)),(∀r∈l,∀a,∀y∈f a r,y∈a\/P y)->∀y∈l.foldl f ks,y∈ks\/P y
 | [],_,_,y,hy=>.inl hy
 |x::l,ks,h,y,hy=>by
  rcases xS l (f ks x) (fun r hr=>h r (by simp[hr])) y hy with h1|h1
  . exact h x (by simp) ks y h1
  . exact .inr h1
theorem Fs:∀(k:Nat) (x:aa) (ks:List (aa)),∀y∈l5 es k x ks,y∈ks\/Yu es x y
 |0,_,_,_,h=>.inl h
 |k+1,x,ks,y,h=>by
  unfold l5 at h;split at h
  . exact .inl h
  . rcases xS (P:=Yu es x) (pE es x) (ks++[x]) (fun r hr a z hz=>(Fs k r a z hz).imp id fun q=>.step x r z hr q) y h with h1|h1
    . rcases aU.1 h1 with h2|h2
      . exact .inl h2
      . rw[aq]at h2;subst h2;exact .inr (.self _)
    . exact .inr h1
theorem G4{S:List (aa)}(hS:∀y∈S,∀r∈pE es y,r∈S){x y:aa}(h:Yu es x y):x∈S->y∈S:=by
 induction h with
 |self x=>exact id
 |step x y z hr _ ih=>exact fun hx=>ih (hS x hx y hr)
section
variable{k:Nat}{ds:List (aa)}
theorem Dq(he:∀d∈ds,Ends es k d)(y:aa):y∈lM es k ds↔∃d∈ds,Yu es d y:=by
 obtain⟨g1,g2⟩:=wz (es:=es) (f:=fun a d=>l5 es k d a) ds [] fun r hr a=>Dp k r a (he r hr);constructor
 . intro h;rcases xS (P:=fun y=>∃d∈ds,Yu es d y) ds [] (fun r hr a z hz=>(Fs k r a z hz).imp id fun q=>⟨r,hr,q⟩) y h with h1|h1
   . cases h1
   . exact h1
 . rintro⟨d,hd,hr⟩;exact G4 (fun y hy r hr=>g1.2.1 y hy (by simp) r hr) hr (g2 d hd)
theorem zm(he:∀d∈ds,Ends es k d):(lM es k ds).Nodup:=
 (wz (es:=es) (f:=fun a d=>l5 es k d a) ds [] fun r hr a=>Dp k r a (he r hr)).1.2.2 List.nodup_nil
theorem Jc{a b:List (aa)}(hp:List.Perm a b)(he:∀d∈b,Ends es k d):List.Perm (lM es k a) (lM es k b):=by
 have ha:∀d∈a,Ends es k d:=fun d h=>he d (hp.mem_iff.1 h);refine(List.perm_ext_iff_of_nodup (zm ha) (zm he)).2 fun y=>?_;rw[Dq ha,Dq he];exact⟨fun⟨d,h,r⟩=>⟨d,hp.mem_iff.1 h,r⟩,fun⟨d,h,r⟩=>⟨d,hp.mem_iff.2 h,r⟩⟩
end
section
variable(cO cP:Nat)(b:aa)(fl nx lf:Int)(es rt:ae)
section
variable(sn:ae)
noncomputable def R3:St:=eF [(0,.fn (.yield 13) [] []),(6,.ptr (some (14,0)))] ((MZ cO cP b fl nx lf es rt sn).set 6 none) 15
noncomputable def s4x(kn d:aa):St:={ R3 cO cP b fl nx lf es rt sn with fr:=(((((R3 cO cP b fl nx lf es rt sn).fr.set 7 (some (.ef [.bool true,.str kn,.str d]))).set 8 (some (.bool true))).set 9 (some (.ef [.str kn,.str d]))).set 10 (some (.str d))).set 4 (some (.str d)) }
def lR7:af:=eP (pS cO cP b fl nx lf es rt)++[(7,.cells [.map (some 6)])]
def hRx:Tr O:=hL (lR7 cO cP b fl nx lf es rt++[(8,.dy none sn)])
end
end
noncomputable abbrev amu(args:ag)(h:Tr O)(n:Nat)(v:V)(h1:Tr O)(n1:Nat):e9:=gG ak (Vh 77 args h n v h1 n1 W19) H0 1000 40
section
variable(cO cP:Nat)(b:aa)(fl nx lf:Int)
theorem amv(es rt:ae)(sn sn2:ae)(kn d:aa):c7 (amu (aV d) (Yt cO cP b fl nx lf es rt sn) 15 (.ef []) (Yt cO cP b fl nx lf es rt sn2) 15) [] 15 Tryz.f78 [0,6] ((sA GQ).rest) (s4x cO cP b fl nx lf es rt sn kn d) [([],
   [(aV d=aV d/\Yt cO cP b fl nx lf es rt sn=Yt cO cP b fl nx lf es rt sn/\15=15)],
   .to .normal (R3 cO cP b fl nx lf es rt sn2))]
 :=cQ.of U U U
theorem amw(es rt:ae):c7 lZ [] 8 Tryz.f51 [1,5,6] (eO 4 Rz) (cT [P3,f78] (hL (lR7 cO cP b fl nx lf es rt)) 8) [([],
   [],
   .to .normal (eF [(1,.fn (.func 78) [] [.ptr (some (7,0))]),(5,.ptr (some (8,0))),(6,.ptr (some (10,0)))] (hL (eP (pS cO cP b fl nx lf es rt)++[(7,.cells [.map (some 6)]),(8,.cells [.map (some 9)]),(9,.map [] 0),(10,.cells [.fn (.func 77) [] [.ptr (some (8,0)),.ptr (some (11,0)),.ptr (some (10,0))]]),(11,.cells [.ptr (some (3,0))])])) 12))]
 :=cQ.of U U U
theorem amx(es rt:ae):c7 lZ [] 8 Tryz.f51 [5,6,10] (dK (dK GP)) (eF [(1,f78),(5,P8),(6,OW)] (hL (lV cO cP b fl nx lf es rt [])) 12) [([],
   [],
   .to .normal (Vv cO cP b fl nx lf es rt))]
 :=cQ.of U U U
theorem amy(es rt sn:ae):sB ak lZ [] 1000 8 Tryz.f51 (dV GP) (tD (Vv cO cP b fl nx lf es rt) (MZ cO cP b fl nx lf es rt sn) 14)
  [([],
   [],
   .ret (.map (some 8)) (hRx cO cP b fl nx lf es rt sn) 9)]
 :=⟨U,U,U⟩
end
def D2(rt:ae):Prop:=∀e∈rt,∃n d,e=(.str n,.str d)
def iI(rt:ae):List (aa):=rt.map fun e=>D.Z1 e.2
section
variable(cO cP:Nat)(b:aa)(fl nx lf:Int)(es rt:ae)
theorem M0(sn:ae):∀k,(Yt cO cP b fl nx lf es rt sn).get k=(mV cO cP b fl nx lf es rt sn).get k:=by
 have key:∀k,k<15->(Yt cO cP b fl nx lf es rt sn).get k=(mV cO cP b fl nx lf es rt sn).get k:=by
  intro k hk;rcases(by omega:k=0\/k=1\/k=2\/k=3\/k=4\/k=5\/k=6\/k=7\/k=8\/k=9\/k=10\/k=11\/k=12\/k=13\/k=14)with rfl|rfl|rfl|rfl|rfl|rfl|rfl|rfl|rfl|rfl|rfl|rfl|rfl|rfl|rfl<;>kernel_rfl
 exact Vi (l:=lVx cO cP b fl nx lf es rt sn) (l0:=lMv cO cP b fl nx lf es rt sn) (a:=6) (b:=13) (N:=15) U U dP dP dP key
section
variable(k:Nat)
theorem Vx(x:aa)(ks:List (aa))(h:Ends es k x):cU ak 77 (aV x) (Yt cO cP b fl nx lf es rt (nI ks)) 15 (.ef []) (Yt cO cP b fl nx lf es rt (nI (l5 es k x ks))) 15:=
 cU.ext (M0 cO cP b fl nx lf es rt _) (M0 cO cP b fl nx lf es rt _) (R2 cO cP b fl nx lf es rt k x ks h)
abbrev RVx(v:V)(h:Tr O)(n:Nat):Prop:=∃iD,List.Perm iD rt/\v= .ef []/\h=MZ cO cP b fl nx lf es rt (nI (lM es k (iI iD)))/\n=14
theorem Vy(JW:D2 rt)(he:∀d∈iI rt,Ends es k d):fU ak 78 [.fn (.yield 13) [] [],.ptr (some (7,0))] (MZ cO cP b fl nx lf es rt (nI [])) 14 (RVx cO cP b fl nx lf es rt k):=by
 refine gF mo po Tryz.func78 (code:=GQ) U U ?_;rw[aeX];refine zf (v0:=.map (some 6)) (kg:=(cT [.fn (.yield 13) [] [],.ptr (some (7,0))] (MZ cO cP b fl nx lf es rt (nI [])) 14).fr.set 5 (some (.map (some 6)))) (zS:=((cT [.fn (.yield 13) [] [],.ptr (some (7,0))] (MZ cO cP b fl nx lf es rt (nI [])) 14).fr.set 5 (some (.map (some 6)))).set 6 (some (.ptr (some (14,0))))) (m:=6) (kd:=none) (es:=rt) mo ML
  U U U U (au rfl) U (fun iD s1=>eX 15 [0,6] s1=some (R3 cO cP b fl nx lf es rt (nI (lM es k (iI iD))))) U ?_
 rintro iD left s1 hs hp;refine⟨[0,6],_,hs,U,fun hl=>?_,fun e ko he2=>?_⟩
 . subst hl;rw[ct]at hp;refine⟨(R3 cO cP b fl nx lf es rt (nI (lM es k (iI iD)))).fr.set 7 (some (.ef [.bool false])),{ R3 cO cP b fl nx lf es rt (nI (lM es k (iI iD)))with fr:=((R3 cO cP b fl nx lf es rt (nI (lM es k (iI iD)))).fr.set 7 (some (.ef [.bool false]))).set 8 (some (.bool false)) },U,U,U,.inl rfl,.ef [],MZ cO cP b fl nx lf es rt (nI (lM es k (iI iD))),14,U,iD,hp,rfl,rfl,rfl⟩
 . have xC:e∈rt:=hp.mem_iff.1 (bZ _ (he2.mem_iff.2 (by simp)));obtain⟨kn,d,rfl⟩:=JW e xC;have hd:Ends es k d:=he d (bB.2 ⟨_,xC,rfl⟩);have pF:lM es k (iI (iD++[(.str kn,.str d)]))=l5 es k d (lM es k (iI iD)):=by
    unfold lM iI;rw[aZ,List.foldl_append];rfl
   rw[pF];generalize lM es k (iI iD)=ks at *;refine⟨(R3 cO cP b fl nx lf es rt (nI ks)).fr.set 7 (some (.ef [.bool true,.str kn,.str d])),{ R3 cO cP b fl nx lf es rt (nI ks)with fr:=((R3 cO cP b fl nx lf es rt (nI ks)).fr.set 7 (some (.ef [.bool true,.str kn,.str d]))).set 8 (some (.bool true)) },
    (((R3 cO cP b fl nx lf es rt (nI ks)).fr.set 7 (some (.ef [.bool true,.str kn,.str d]))).set 8 (some (.bool true))).set 9 (some (.ef [.str kn,.str d])),s4x cO cP b fl nx lf es rt (nI ks) kn d,U,U,U,U,U,U,U,U,?_⟩
   refine fR (CX.of mo po (MS afO (Vx cO cP b fl nx lf es rt k d ks hd) G0) H0 1000 40) (amv cO cP b fl nx lf es rt (nI ks) (nI (l5 es k d ks)) kn d) (dG ?_);exact⟨eR ⟨rfl,rfl,rfl⟩,fun s' dL=>dL⟩
def pV(es rt:ae)(k:Nat):List (aa):=lM es k (iI rt)
theorem M1(JW:D2 rt)(he:∀d∈iI rt,Ends es k d):cU ak 51 [P3,f78] (hL (lR7 cO cP b fl nx lf es rt)) 8 (.map (some 8)) (hRx cO cP b fl nx lf es rt (nI (pV es rt k))) 9:=by
 refine c5 Tryz.func51 (code:=Rz) U U ?_;refine iO  4 uo (amw cO cP b fl nx lf es rt) cR ?_;refine Aq [(9,none)] (s2:=eF [(1,f78),(5,P8),(6,OW)] (hL (lV cO cP b fl nx lf es rt [])) 12) U ?_;show TG ak 8 Tryz.f51.ntmps GP _ _;refine cV U ?_;refine cV U ?_;refine fR uo (amx cO cP b fl nx lf es rt) (dG ?_);refine⟨cR,fun s' dL=>c6 dL ?_⟩;refine fg (i:=0) U ?_;refine oh (gf:=78) (lb:=[.ptr (some (7,0))]) U U U U U (Vy cO cP b fl nx lf es rt k JW he) ?_;rintro v h n ⟨iD,hp,rfl,rfl,rfl⟩;have Fi:List.Perm (nI (lM es k (iI iD))) (nI (pV es rt k)):=(Jc (hp.map _) he).map _;generalize nI (lM es k (iI iD))=sn at Fi ⊢;generalize nI (pV es rt k)=sn0 at Fi ⊢;refine⟨U,?_⟩;show TG ak 8 Tryz.f51.ntmps (dV GP) (tD (Vv cO cP b fl nx lf es rt) (MZ cO cP b fl nx lf es rt sn) 14) _;have hg:(tD (Vv cO cP b fl nx lf es rt) (MZ cO cP b fl nx lf es rt sn) 14).h.get 9=some (.dy none sn):=by kernel_rfl
 refine KM (h2:=(tD (Vv cO cP b fl nx lf es rt) (MZ cO cP b fl nx lf es rt sn) 14).h.set 9 (some (.dy none sn0))) (fun E w g=>sq dP hg rfl (fun b s _ r=>Ox Fi r) g) ?_;have e:({ tD (Vv cO cP b fl nx lf es rt) (MZ cO cP b fl nx lf es rt sn) 14 with h:=(tD (Vv cO cP b fl nx lf es rt) (MZ cO cP b fl nx lf es rt sn) 14).h.set 9 (some (.dy none sn0)) }:St)=tD (Vv cO cP b fl nx lf es rt) (MZ cO cP b fl nx lf es rt sn0) 14:=by kernel_rfl
 rw[e];refine o9 uo mo _ U (amy cO cP b fl nx lf es rt sn0) (dG ?_);exact⟨cR,_,_,_,rfl,rfl,rfl,rfl⟩
end
end
noncomputable abbrev afQ:Code:=dS Tryz.f17
noncomputable abbrev Vz:Code:=dS Tryz.f66
section
variable(cO cP:Nat)(b:aa)(fl nx lf:Int)
theorem amz(es rt sn:ae)(d:aa)(c:Bool):c7 (fC lZ 51 [P3,f78] (hL (lR7 cO cP b fl nx lf es rt)) 8 (.map (some 8),hRx cO cP b fl nx lf es rt sn,9)) [(17,.dc (.bool c))] 7 Tryz.f17 [] (afQ) (cT [P3,.str d] (eu (pS cO cP b fl nx lf es rt)) 7) [([],
   [([P3,f78]=[P3,f78]/\hL (lR7 cO cP b fl nx lf es rt)=hL (lR7 cO cP b fl nx lf es rt)/\8=8),((if false=true then V.ef [D.fZ (V.bool false) (dj (D.str d) sn),V.bool (dj (D.str d) sn).isSome]else D.fZ (V.bool false) (dj (D.str d) sn))=V.bool c)],
   .ret (.bool c) (eu (pS cO cP b fl nx lf es rt)) 7)]
 :=cQ.of U U U
theorem amA(es rt:ae):c7 lZ [] 7 Tryz.f66 [] (Vz) (cT [P3] (eu (pS cO cP b fl nx lf es rt)) 7) [([],
   [],
   .ret (.int .i64 0) (eu (pS cO cP b (Int.ofNat cO) nx lf es rt)) 7)]
 :=cQ.of U U U
end
theorem amB(fl nx lf:Int)(es rt:ae):c7 lZ [] 7 Tryz.f66 [] (Vz) (cT [P3] (eu (pN fl nx lf es rt)) 7) [([],
   [],
   .ret (.int .i64 0) (eu (pN 0 nx lf es rt)) 7)]
 :=cQ.of U U U
noncomputable abbrev wJ:Code:=dS Tryz.f16
section
variable(n:aa)(l:List (Nat×List (Nat×oZ)))(rK:aa)(cO cP:Nat)(b:aa)(fl nx lf:Int)
noncomputable abbrev Yv:e9:=gG ak W16 (sw l) 1000 40
noncomputable abbrev XU:CX ak:=CX.of mo po GS (sw l) 1000 40
def hRn(d0:aa)(gJ:List (aa))(k:Int):List (Nat×List (Nat×oZ)):=[(18,[(15,.dc (.ef [og d0 gJ k,.bool true]))]),(46,[(13,.dc (.bool false))]),(50,[(7,.dc (.bool false))])]
def hRt(ex b1 b2 b3 b4 b5 b6:Bool):List (Nat×oZ):=[(18,.dc (.ef [.str rK,.bool ex])),(23,.dc (.bool b1)),(27,.dc (.bool b2)),(31,.dc (.bool b3)),(36,.dc (.bool b4)),(40,.dc (.bool b3)),(51,.dc (.bool b5)),(56,.dc (.bool b6))]
theorem R4(d rK:aa)(ex:Bool)(cO cP:Nat)(b:aa)(fl nx lf:Int)(es rt:ae):c7 (Yv [(18,[(15,.dc (.ef [BA,.bool false]))])]) (hRt rK ex false false true true false false) 7 Tryz.f16 [] (wJ) (cT [P3,.str n,.str d] (eu (pS cO cP b fl nx lf es rt)) 7) [([],
   [((if true=true then V.ef [D.fZ (V.str ([]:aa)) (dj (D.str n) rt),V.bool (dj (D.str n) rt).isSome]else D.fZ (V.str ([]:aa)) (dj (D.str n) rt))=V.ef [V.str rK,V.bool ex]),(V.bool (eG n ([]:aa))=V.bool false),(V.bool (decide ((Int.ofNat n.length)>(64:Int)))=V.bool false),((V.bool !eG d ([]:aa))=V.bool true),((if true=true then V.ef [D.fZ (V.agg [V.str ([]:aa),V.di none 0 0 0,V.int aj (0:Int)]) (dj (D.str d) es),V.bool (dj (D.str d) es).isSome]else D.fZ (V.agg [V.str ([]:aa),V.di none 0 0 0,V.int aj (0:Int)]) (dj (D.str d) es))=V.ef [BA,V.bool false]),((V.bool !false)=V.bool true)],
   .ret (.int .i64 62) (eu (pS cO cP b fl nx lf es rt)) 7)]
 :=cQ.of U U U
theorem VA(d d0:aa)(gJ:List (aa))(k:Int)(cO cP:Nat)(b:aa)(fl nx lf:Int)(es rt:ae):c7 (Yv (OH d0 gJ k)) (hRt d true false false true false false true) 7 Tryz.f16 [] (wJ) (cT [P3,.str n,.str d] (eu (pS cO cP b fl nx lf es rt)) 7) [([],
   [((if true=true then V.ef [D.fZ (V.str ([]:aa)) (dj (D.str n) rt),V.bool (dj (D.str n) rt).isSome]else D.fZ (V.str ([]:aa)) (dj (D.str n) rt))=V.ef [V.str d,V.bool true]),(V.bool (eG n ([]:aa))=V.bool false),(V.bool (decide ((Int.ofNat n.length)>(64:Int)))=V.bool false),((V.bool !eG d ([]:aa))=V.bool true),((if true=true then V.ef [D.fZ (V.agg [V.str ([]:aa),V.di none 0 0 0,V.int aj (0:Int)]) (dj (D.str d) es),V.bool (dj (D.str d) es).isSome]else D.fZ (V.agg [V.str ([]:aa),V.di none 0 0 0,V.int aj (0:Int)]) (dj (D.str d) es))=V.ef [og d0 gJ k,V.bool true]),((V.bool !true)=V.bool false),((V.bool !eG d ([]:aa))=V.bool true),(V.bool (eG d d)=V.bool true)],
   .ret (.int .i64 0) (eu (pS cO cP b fl nx lf es rt)) 7)]
 :=cQ.of U U U
theorem VB(es rt:ae):c7 (Yv []) (hRt [] false false false false false false true) 7 Tryz.f16 [] (wJ) (cT [P3,.str n,.str []] (eu (pS cO cP b fl nx lf es rt)) 7) [([],
   [((if true=true then V.ef [D.fZ (V.str ([]:aa)) (dj (D.str n) rt),V.bool (dj (D.str n) rt).isSome]else D.fZ (V.str ([]:aa)) (dj (D.str n) rt))=V.ef [V.str [],V.bool false]),(V.bool (eG n ([]:aa))=V.bool false),(V.bool (decide ((Int.ofNat n.length)>(64:Int)))=V.bool false),((V.bool !eG [] ([]:aa))=V.bool false),((V.bool !eG [] ([]:aa))=V.bool false),(V.bool (eG [] [])=V.bool true)],
   .ret (.int .i64 0) (eu (pS cO cP b fl nx lf es rt)) 7)]
 :=cQ.of U U U
theorem aa5(d d0:aa)(gJ:List (aa))(k:Int)(cO cP:Nat)(b:aa)(fl nx lf:Int)(es rt:ae):c7 (Yv (hRn d0 gJ k)) (hRt [] false false false true false false false) 7 Tryz.f16 [] (wJ) (cT [P3,.str n,.str d] (eu (pS cO cP b fl nx lf es rt)) 7) [([],
   [((if true=true then V.ef [D.fZ (V.str ([]:aa)) (dj (D.str n) rt),V.bool (dj (D.str n) rt).isSome]else D.fZ (V.str ([]:aa)) (dj (D.str n) rt))=V.ef [V.str [],V.bool false]),(V.bool (eG n ([]:aa))=V.bool false),(V.bool (decide ((Int.ofNat n.length)>(64:Int)))=V.bool false),((V.bool !eG d ([]:aa))=V.bool true),((if true=true then V.ef [D.fZ (V.agg [V.str ([]:aa),V.di none 0 0 0,V.int aj (0:Int)]) (dj (D.str d) es),V.bool (dj (D.str d) es).isSome]else D.fZ (V.agg [V.str ([]:aa),V.di none 0 0 0,V.int aj (0:Int)]) (dj (D.str d) es))=V.ef [og d0 gJ k,V.bool true]),((V.bool !true)=V.bool false),((V.bool !eG d ([]:aa))=V.bool true),(V.bool (decide ((Int.ofNat rt.length)>=(64:Int)))=V.bool false),(V.bool (eG d [])=V.bool false),(n.length<100000000),(d.length<100000000),(V.bool (decide (IntKind.i64.wrap ((Int.ofNat cO)+(Int.ofNat (kR n d).length))>(1048576:Int)))=V.bool false),(0<cP),(cO=b.length),(eT (cO+(kR n d).length) 1 1=true),(V.bool (eG d ([]:aa))=V.bool false)],
   .ret (.int .i64 0) (hL [(0,.ints .u32 gS),(1,.ints .u32 gR),(3,.cells [.di (some (7,0)) (cO+(kR n d).length) (cO+(kR n d).length) 1,.int .i64 fl,.map (some 5),.map (some 6),.int .i64 nx,.bool false,.bool false,.int .i64 lf]),(5,.dy none es),(6,.dy none (ig (D.str n) (D.str d) rt)),(7,.iX 5 false (b++eN (dX (kR n d))))]) 8)]
 :=cQ.of U U U
theorem aa6(d rK d0:aa)(gJ:List (aa))(k:Int)(cO cP:Nat)(b:aa)(fl nx lf:Int)(es rt:ae):c7 (Yv (hRn d0 gJ k)) (hRt rK true false false true false false false) 7 Tryz.f16 [] (wJ) (cT [P3,.str n,.str d] (eu (pS cO cP b fl nx lf es rt)) 7) [([],
   [((if true=true then V.ef [D.fZ (V.str ([]:aa)) (dj (D.str n) rt),V.bool (dj (D.str n) rt).isSome]else D.fZ (V.str ([]:aa)) (dj (D.str n) rt))=V.ef [V.str rK,V.bool true]),(V.bool (eG n ([]:aa))=V.bool false),(V.bool (decide ((Int.ofNat n.length)>(64:Int)))=V.bool false),((V.bool !eG d ([]:aa))=V.bool true),((if true=true then V.ef [D.fZ (V.agg [V.str ([]:aa),V.di none 0 0 0,V.int aj (0:Int)]) (dj (D.str d) es),V.bool (dj (D.str d) es).isSome]else D.fZ (V.agg [V.str ([]:aa),V.di none 0 0 0,V.int aj (0:Int)]) (dj (D.str d) es))=V.ef [og d0 gJ k,V.bool true]),((V.bool !true)=V.bool false),((V.bool !eG d ([]:aa))=V.bool true),(V.bool (eG d rK)=V.bool false),(n.length<100000000),(d.length<100000000),(V.bool (decide (IntKind.i64.wrap ((Int.ofNat cO)+(Int.ofNat (kR n d).length))>(1048576:Int)))=V.bool false),(0<cP),(cO=b.length),(eT (cO+(kR n d).length) 1 1=true),(V.bool (eG d ([]:aa))=V.bool false)],
   .ret (.int .i64 0) (hL [(0,.ints .u32 gS),(1,.ints .u32 gR),(3,.cells [.di (some (7,0)) (cO+(kR n d).length) (cO+(kR n d).length) 1,.int .i64 fl,.map (some 5),.map (some 6),.int .i64 nx,.bool false,.bool false,.int .i64 lf]),(5,.dy none es),(6,.dy none (ig (D.str n) (D.str d) rt)),(7,.iX 5 false (b++eN (dX (kR n d))))]) 8)]
 :=cQ.of U U U
theorem aa7(es rt:ae):c7 (Yv [(46,[(13,.dc (.bool false))]),(50,[(7,.dc (.bool true))])]) (hRt rK true false false false false false false) 7 Tryz.f16 [] (wJ) (cT [P3,.str n,.str []] (eu (pS cO cP b fl nx lf es rt)) 7) [([],
   [((if true=true then V.ef [D.fZ (V.str ([]:aa)) (dj (D.str n) rt),V.bool (dj (D.str n) rt).isSome]else D.fZ (V.str ([]:aa)) (dj (D.str n) rt))=V.ef [V.str rK,V.bool true]),(V.bool (eG n ([]:aa))=V.bool false),(V.bool (decide ((Int.ofNat n.length)>(64:Int)))=V.bool false),((V.bool !eG [] ([]:aa))=V.bool false),((V.bool !eG [] ([]:aa))=V.bool false),(V.bool (eG [] rK)=V.bool false),(n.length<100000000),(0<100000000),(V.bool (decide (IntKind.i64.wrap ((Int.ofNat cO)+(Int.ofNat (kR n []).length))>(1048576:Int)))=V.bool false),(0<cP),(cO=b.length),(eT (cO+(kR n []).length) 1 1=true),(V.bool (eG [] ([]:aa))=V.bool true)],
   .ret (.int .i64 0) (hL [(0,.ints .u32 gS),(1,.ints .u32 gR),(3,.cells [.di (some (7,0)) (cO+(kR n []).length) (cO+(kR n []).length) 1,.int .i64 fl,.map (some 5),.map (some 6),.int .i64 nx,.bool false,.bool false,.int .i64 lf]),(5,.dy none es),(6,.dy none (lO (D.str n) rt)),(7,.iX 5 false (b++eN (dX (kR n []))))]) 8)]
 :=cQ.of U U U
end
section
variable{a:aa}{rt:ae}{n b:aa}
theorem zn{rK:aa}(h:dj (.str n) rt=some (.str rK)):(if true=true then V.ef [D.fZ (V.str ([]:aa)) (dj (D.str n) rt),V.bool (dj (D.str n) rt).isSome]else D.fZ (V.str ([]:aa)) (dj (D.str n) rt))=V.ef [V.str rK,V.bool true]:=by
 rw[h];rfl
theorem Lv(h:dj (.str n) rt=none):(if true=true then V.ef [D.fZ (V.str ([]:aa)) (dj (D.str n) rt),V.bool (dj (D.str n) rt).isSome]else D.fZ (V.str ([]:aa)) (dj (D.str n) rt))=V.ef [V.str [],V.bool false]:=by
 rw[h];rfl
theorem amC{p:Prop}[Decidable p](h:p):V.bool (decide p)=V.bool true:=by rw[bM h]
theorem afR{p:Prop}[Decidable p](h:¬p):V.bool (decide p)=V.bool false:=by rw[bw h]
theorem amD(h:a=b):V.bool (eG a b)=V.bool true:=by rw[ga,beq_iff_eq.2 h]
theorem zo(h:a≠b):V.bool (eG a b)=V.bool false:=by rw[ga,beq_eq_false_iff_ne.2 h]
theorem G5(h:a≠b):(V.bool !eG a b)=V.bool true:=by rw[ga,beq_eq_false_iff_ne.2 h];rfl
theorem G6(h:n.length<=64):V.bool (decide ((Int.ofNat n.length)>(64:Int)))=V.bool false:=afR (by rw[show Int.ofNat n.length=(n.length:Int)from rfl];omega)
end
def RtE(rt:ae):Prop:=∀n,dj (.str n) rt=none\/∃d,dj (.str n) rt=some (.str d)
section
variable(n d:aa)(cO cP:Nat)(b:aa)(fl nx lf:Int)(es rt:ae)
abbrev VC:Prop:=n≠[]/\n.length<=64
abbrev M2(m:Nat)(b':aa)(rt':ae):Tr O:=Rv m b' fl nx lf es rt'
theorem Lw(JW:RtE rt)(hn:VC n)(hd:d≠[])(hk:dj (.str d) es=none):cU ak 16 [P3,.str n,.str d] (eu (pS cO cP b fl nx lf es rt)) 7 (.int .i64 62) (eu (pS cO cP b fl nx lf es rt)) 7:=by
 have hO:∀n:Nat,Int.ofNat n=(n:Int):=fun _=>rfl;have hw:∃rK ex,(if true=true then V.ef [D.fZ (V.str ([]:aa)) (dj (D.str n) rt),V.bool (dj (D.str n) rt).isSome]else D.fZ (V.str ([]:aa)) (dj (D.str n) rt))=V.ef [V.str rK,V.bool ex]:=by
  rcases JW n with h|⟨w,h⟩
  . exact⟨_,_,Lv h⟩
  . exact⟨_,_,zn h⟩
 obtain⟨rK,ex,hw⟩:=hw;refine c5 Tryz.func16 (code:=wJ) U U ?_;refine fu (XU [(18,[(15,.dc (.ef [BA,.bool false]))])]) (R4 n d rK ex cO cP b fl nx lf es rt) (dG ?_);refine⟨?_,_,_,_,rfl,rfl,rfl,rfl⟩
 repeat' (first|exact cR|refine ju ?_ ?_)
 . exact hw
 . exact zo hn.1
 . exact G6 hn.2
 . exact G5 hd
 . exact qH hk
 . rfl
theorem OX(hn:VC n)(hd:d≠[])(hk:El es d)(rU:dj (.str n) rt=some (.str d)):cU ak 16 [P3,.str n,.str d] (eu (pS cO cP b fl nx lf es rt)) 7 (.int .i64 0) (eu (pS cO cP b fl nx lf es rt)) 7:=by
 have hO:∀n:Nat,Int.ofNat n=(n:Int):=fun _=>rfl;obtain⟨d0,gJ,k,hk⟩:=hk;refine c5 Tryz.func16 (code:=wJ) U U ?_;refine fu (XU (OH d0 gJ k)) (VA n d d0 gJ k cO cP b fl nx lf es rt) (dG ?_);refine⟨?_,_,_,_,rfl,rfl,rfl,rfl⟩
 repeat' (first|exact cR|refine ju ?_ ?_)
 . exact zn rU
 . exact zo hn.1
 . exact G6 hn.2
 . exact G5 hd
 . exact mz hk
 . rfl
 . exact G5 hd
 . exact amD rfl
theorem OY(hn:VC n)(rU:dj (.str n) rt=none):cU ak 16 [P3,.str n,.str []] (eu (pS cO cP b fl nx lf es rt)) 7 (.int .i64 0) (eu (pS cO cP b fl nx lf es rt)) 7:=by
 have hO:∀n:Nat,Int.ofNat n=(n:Int):=fun _=>rfl;refine c5 Tryz.func16 (code:=wJ) U U ?_;refine fu (XU []) (VB n cO cP b fl nx lf es rt) (dG ?_);refine⟨?_,_,_,_,rfl,rfl,rfl,rfl⟩
 repeat' (first|exact cR|refine ju ?_ ?_)
 . exact Lv rU
 . exact zo hn.1
 . exact G6 hn.2
 all_goals first|rfl|trivial
theorem R5(hn:VC n)(hd:d≠[])(hdl:d.length<=100)(hk:El es d)(rU:dj (.str n) rt=none)(h64:rt.length<64)(hc:0<cP)(hl:cO=b.length)(NT:cO+(kR n d).length<=1048576):
  cU ak 16 [P3,.str n,.str d] (eu (pS cO cP b fl nx lf es rt)) 7 (.int .i64 0) (M2 fl nx lf es (cO+(kR n d).length) (b++kR n d) (ig (.str n) (.str d) rt)) 8:=by
 have hO:∀n:Nat,Int.ofNat n=(n:Int):=fun _=>rfl;obtain⟨d0,gJ,k,hk⟩:=hk;refine c5 Tryz.func16 (code:=wJ) U U ?_;obtain⟨L,hr⟩:=aa5 n d d0 gJ k cO cP b fl nx lf es rt;simp only[gk]at hr;refine iq (XU (hRn d0 gJ k)) mo _ U hr (dG ?_);refine⟨?_,_,_,_,rfl,rfl,rfl,rfl⟩
 repeat' (first|exact cR|refine ju ?_ ?_)
 . exact Lv rU
 . exact zo hn.1
 . exact G6 hn.2
 . exact G5 hd
 . exact mz hk
 . rfl
 . exact G5 hd
 . exact afR dh
 . exact zo hd
 . exact Nat.lt_of_le_of_lt hn.2 dP
 . omega
 . rw[fE dh dh];exact jc dh
 . exact hc
 . exact hl
 . exact jq be
 . exact zo hd
theorem R6(rK:aa)(hn:VC n)(hd:d≠[])(hdl:d.length<=100)(hk:El es d)(rU:dj (.str n) rt=some (.str rK))(fP:d≠rK)(hc:0<cP)(hl:cO=b.length)(NT:cO+(kR n d).length<=1048576):
  cU ak 16 [P3,.str n,.str d] (eu (pS cO cP b fl nx lf es rt)) 7 (.int .i64 0) (M2 fl nx lf es (cO+(kR n d).length) (b++kR n d) (ig (.str n) (.str d) rt)) 8:=by
 have hO:∀n:Nat,Int.ofNat n=(n:Int):=fun _=>rfl;obtain⟨d0,gJ,k,hk⟩:=hk;refine c5 Tryz.func16 (code:=wJ) U U ?_;obtain⟨L,hr⟩:=aa6 n d rK d0 gJ k cO cP b fl nx lf es rt;simp only[gk]at hr;refine iq (XU (hRn d0 gJ k)) mo _ U hr (dG ?_);refine⟨?_,_,_,_,rfl,rfl,rfl,rfl⟩
 repeat' (first|exact cR|refine ju ?_ ?_)
 . exact zn rU
 . exact zo hn.1
 . exact G6 hn.2
 . exact G5 hd
 . exact mz hk
 . rfl
 . exact G5 hd
 . exact zo fP
 . exact Nat.lt_of_le_of_lt hn.2 dP
 . omega
 . rw[fE dh dh];exact jc dh
 . exact hc
 . exact hl
 . exact jq be
 . exact zo hd
theorem R7(rK:aa)(hn:VC n)(rU:dj (.str n) rt=some (.str rK))(fP:rK≠[])(hc:0<cP)(hl:cO=b.length)(NT:cO+(kR n []).length<=1048576):
  cU ak 16 [P3,.str n,.str []] (eu (pS cO cP b fl nx lf es rt)) 7 (.int .i64 0) (M2 fl nx lf es (cO+(kR n []).length) (b++kR n []) (lO (.str n) rt)) 8:=by
 have hO:∀n:Nat,Int.ofNat n=(n:Int):=fun _=>rfl;refine c5 Tryz.func16 (code:=wJ) U U ?_;obtain⟨L,hr⟩:=aa7 n rK cO cP b fl nx lf es rt;simp only[gk]at hr;refine iq (XU [(46,[(13,.dc (.bool false))]),(50,[(7,.dc (.bool true))])]) mo _ U hr (dG ?_);refine⟨?_,_,_,_,rfl,rfl,rfl,rfl⟩
 repeat' (first|exact cR|refine ju ?_ ?_)
 . exact zn rU
 . exact zo hn.1
 . exact G6 hn.2
 . rfl
 . rfl
 . exact zo fP.symm
 . exact Nat.lt_of_le_of_lt hn.2 dP
 . decide
 . rw[fE dh dh];exact jc dh
 . exact hc
 . exact hl
 . exact jq be
 . rfl
end
open Go.Shelf Go.RowKit
def afS:Go.Shelf.Ren:=⟨fun|42=>63|n=>n,fun n=>n,fun n=>n⟩
theorem R8:SlLaysN.n42 ak afS:={
 mixed:=mo
 f42:=⟨"slices.Clone[[]gouache/api.Digest,gouache/api.Digest]",dP,Tryz.func63.trans (aN some U)⟩
 t4:=Tryz.underlying4
 a4:=Tryz.isAgg4
 z4:=Tryz.sizeOf4
 v4:=Tryz.zeroValue4
 t25:=Tryz.underlying25
 a25:=Tryz.isAgg25
 z25:=Tryz.sizeOf25
 v25:=Tryz.zeroValue25
 t26:=Tryz.underlying26
 a26:=Tryz.isAgg26
 z26:=Tryz.sizeOf26
 v26:=Tryz.zeroValue26
 i26:=by kernel_rfl }
def Lx:ag->Option (ah×V)
 | [.dM _ 0 []]=>some ([],.dM false 0 [])
 |_=>none
theorem R9:jG ak 63 (jJ Lx):=by
 refine jY (au U) fun args A v e=>?_;unfold Lx at e;split at e
 . obtain⟨rfl,rfl⟩:=fa e;refine⟨rfl,rfl,fun _ E w c9 _ ra=>?_⟩;obtain⟨y,ys,r0,rs,rfl⟩:=ra;have rs:ys=[]:=rs;subst rs;obtain⟨⟨a,cP,vs,rfl,_,hv,_,_⟩,_⟩:=r0;cases a with
   |none=>
    refine(AnyG.slices_Clone_string_nil R8 0 cP w).mono fun en w' ⟨he,hw⟩=>?_;subst he;subst hw;exact⟨⟨E,⟨none,0,[],rfl,aA _,rfl,fun _=>rfl,fun h=>absurd h (cF _)⟩,fun h=>by cases h⟩,Below.refl _ _⟩
   |some a=>
    refine(AnyG.slices_Clone_string_zero R8 a cP w).mono fun en w' ⟨v',he,amE,_,hw⟩=>?_;subst he;have hv':∃a c,v'= .slice a 0 c:=by
     obtain⟨_,h⟩:=amE;rcases h with⟨h,_⟩|⟨g,cP,cur,h,_⟩
     . exact⟨none,0,h⟩
     . exact⟨_,_,h⟩
    obtain⟨a2,c2,rfl⟩:=hv';exact⟨⟨E,⟨a2,c2,[],rfl,aY _,rfl,fun _=>rfl,fun h=>absurd h (cF _)⟩,fun h=>by cases h⟩,hw⟩
 . cases e
theorem aa8(f:Bool)(h:Tr O)(n:Nat):cU ak 63 [.dM f 0 []] h n (.dM false 0 []) h n:=fun E w c9 ra g hd=>
 R9.2 _ _ _ [] _ _ _ rfl cR E w c9 ra g hd U
noncomputable abbrev csV(q:ag->Bool)(g:V)(l:List (Nat×List (Nat×oZ)))(h:Tr O)(f:Bool)(rs:List (aa)):e9:=ze (kW l) 43 q [.dM f rs.length (strs rs),g] h 8 (.bool true,h,8)
theorem aa9(d:aa)(f:Bool)(rs:List (aa))(cO cP:Nat)(b:aa)(fl nx lf:Int)(es rt:ae):c7 (csV GO f44 [] (hB cO cP b fl nx lf es rt) f rs) [(16,.dc (.bool false)),(20,.dc (.bool false))] 7 Tryz.f15 [] (zg) (cT [P3,.str d,.dM f rs.length (strs rs)] (eu (pS cO cP b fl nx lf es rt)) 7) [([],
   [(V.bool (decide ((Int.ofNat d.length)>(65536:Int)))=V.bool false),(V.bool (decide ((Int.ofNat rs.length)>(1024:Int)))=V.bool false),(strs rs=strs (dH (strs rs))),(rs.length=(dH (strs rs)).length),(rs.length<=1000000),(∀(x:aa),x∈dH (strs rs)->x.length=32),fb [.dM f (rs.length) (strs rs),.fn (.func 44) [] [.ptr (some (7,0))]] (hL (eP (pS cO cP b fl nx lf es rt)++[(7,.cells [.ptr (some (3,0))])])) 8],
   .ret (.ef [.str [],.int .i64 63]) (eu (pS cO cP b fl nx lf es rt)) 7)]
 :=cQ.of U U U
theorem aba(d d0:aa)(gJ:List (aa))(k:Int)(cO cP:Nat)(b:aa)(fl nx lf:Int)(es rt:ae):c7 (kW []) [(17,.dc (.ef [og d0 gJ k,.bool true]))] 7 Tryz.f25 [] (dS Tryz.f25) (cT [P3,.str d] (eu (pS cO cP b fl nx lf es rt)) 7) [([],
   [((if true=true then V.ef [D.fZ (V.agg [V.str ([]:aa),V.di none 0 0 0,V.int aj (0:Int)]) (dj (D.str d) es),V.bool (dj (D.str d) es).isSome]else D.fZ (V.agg [V.str ([]:aa),V.di none 0 0 0,V.int aj (0:Int)]) (dj (D.str d) es))=V.ef [og d0 gJ k,V.bool true]),(0<gJ.length),((strs gJ).length=gJ.length),(gJ.length<=1000000)],
   .ret (.ef [.str d0,.dM false (gJ.length) (strs gJ),.int .i64 0]) (eu (pS cO cP b fl nx lf es rt)) 7)]
 :=cQ.of U U U
def hG(d0:aa)(k:Int)(p:gX):Tr O:=(eu p).set 7 (some (.cells [.str d0,.dM false 0 [],.int .i64 k]))
theorem VD(d d0:aa)(k:Int)(cO cP:Nat)(b:aa)(fl nx lf:Int)(es rt:ae):c7 (fC (kW []) 63 [.dM false 0 []] (hG d0 k (pS cO cP b fl nx lf es rt)) 16 (.dM false 0 [],hG d0 k (pS cO cP b fl nx lf es rt),16)) [(17,.dc (.ef [og d0 [] k,.bool true]))] 7 Tryz.f25 [] (dS Tryz.f25) (cT [P3,.str d] (eu (pS cO cP b fl nx lf es rt)) 7) [([],
   [((if true=true then V.ef [D.fZ (V.agg [V.str ([]:aa),V.di none 0 0 0,V.int aj (0:Int)]) (dj (D.str d) es),V.bool (dj (D.str d) es).isSome]else D.fZ (V.agg [V.str ([]:aa),V.di none 0 0 0,V.int aj (0:Int)]) (dj (D.str d) es))=V.ef [og d0 [] k,V.bool true]),fb [.dM false 0 []] (hL (eP (pS cO cP b fl nx lf es rt)++[(7,.cells [.str d0,.dM false 0 [],.int .i64 k])])) 16],
   .ret (.ef [.str d0,.dM false 0 [],.int .i64 0]) (eu (pS cO cP b fl nx lf es rt)) 7)]
 :=cQ.of U U U
theorem abb(d d0:aa)(gJ:List (aa))(k:Int)(cO cP:Nat)(b:aa)(fl nx lf:Int)(es rt:ae):c7 (kW []) [(15,.dc (.ef [og d0 gJ k,.bool true]))] 7 Tryz.f18 [] (dS Tryz.f18) (cT [P3,.str d] (eu (pS cO cP b fl nx lf es rt)) 7) [([],
   [((if true=true then V.ef [D.fZ (V.agg [V.str ([]:aa),V.di none 0 0 0,V.int aj (0:Int)]) (dj (D.str d) es),V.bool (dj (D.str d) es).isSome]else D.fZ (V.agg [V.str ([]:aa),V.di none 0 0 0,V.int aj (0:Int)]) (dj (D.str d) es))=V.ef [og d0 gJ k,V.bool true])],
   .ret (.bool true) (eu (pS cO cP b fl nx lf es rt)) 7)]
 :=cQ.of U U U
theorem abc(n d:aa)(cO cP:Nat)(b:aa)(fl nx lf:Int)(es rt:ae):c7 (kW []) [(16,.dc (.ef [.str d,.bool true]))] 7 Tryz.f24 [] (dS Tryz.f24) (cT [P3,.str n] (eu (pS cO cP b fl nx lf es rt)) 7) [([],
   [((if true=true then V.ef [D.fZ (V.str ([]:aa)) (dj (D.str n) rt),V.bool (dj (D.str n) rt).isSome]else D.fZ (V.str ([]:aa)) (dj (D.str n) rt))=V.ef [V.str d,V.bool true])],
   .ret (.ef [.str d,.bool true]) (eu (pS cO cP b fl nx lf es rt)) 7)]
 :=cQ.of U U U
section
variable(f:Bool)(rs:List (aa))(i cO cP:Nat)(b:aa)(fl nx lf:Int)
theorem abd(es rt:ae):c7 (ze (kW []) 73 GO [.dM f rs.length (strs rs),f44] (hB cO cP b fl nx lf es rt) 8 (.int .i64 (Int.ofNat i),hB cO cP b fl nx lf es rt,8)) [(8,.dc (.bool true))] 8 Tryz.f43 [] (U3) (cT [.dM f rs.length (strs rs),f44] (hB cO cP b fl nx lf es rt) 8) [([],
   [fb [.dM f (rs.length) (strs rs),.fn (.func 44) [] [.ptr (some (7,0))]] (hL (eP (pS cO cP b fl nx lf es rt)++[(7,.cells [.ptr (some (3,0))])])) 8,(V.bool (decide (Int.ofNat i>=(0:Int)))=V.bool true)],
   .ret (.bool true) (hL (eP (pS cO cP b fl nx lf es rt)++[(7,.cells [.ptr (some (3,0))])])) 8)]
 :=cQ.of U U U
theorem atp(x:aa)(i:Nat)(cO cP:Nat)(b:aa)(fl nx lf:Int)(es rt:ae):c7 I3 [(9,.split),(14,.dc (.dw [.str x])),(16,.split),(18,.dc (.int .i64 (Int.ofNat (i+1))))] 8 Tryz.f73 [0,1,7,8] (dx (dx (dV GN))) (D1 (hB cO cP b fl nx lf es rt) 8 f41 f rs i) [([((decide (Int.ofNat i<Int.ofNat rs.length)),true),((!(Int.ofNat x.length)==(32:Int)),true)],
   [((0:Int)<=Int.ofNat i/\Int.ofNat i<(Int.ofNat rs.length)),((strs rs).length=rs.length*1),(V.dw (dm (strs rs) ((Int.ofNat i).toNat*1) 1)=V.dw [D.str x])],
   .ret (.int .i64 (Int.ofNat i)) (hL (eP (pS cO cP b fl nx lf es rt)++[(7,.cells [.ptr (some (3,0))])])) 8),
  ([((decide (Int.ofNat i<Int.ofNat rs.length)),true),((!(Int.ofNat x.length)==(32:Int)),false)],
   [((0:Int)<=Int.ofNat i/\Int.ofNat i<(Int.ofNat rs.length)),((strs rs).length=rs.length*1),(V.dw (dm (strs rs) ((Int.ofNat i).toNat*1) 1)=V.dw [D.str x]),(V.int aj (IntKind.i64.wrap (Int.ofNat i+(1:Int)))=V.int aj (Int.ofNat (i+1)))],
   .to .normal (eF [(0,.dM f (rs.length) (strs rs)),(1,.fn (.func 41) [] []),(7,.int .i64 (Int.ofNat rs.length)),(8,.int .i64 (Int.ofNat (i+1)))] (hL (eP (pS cO cP b fl nx lf es rt)++[(7,.cells [.ptr (some (3,0))])])) 8)),
  ([((decide (Int.ofNat i<Int.ofNat rs.length)),false)],
   [],
   .to (.exit 0) (eF [(0,.dM f (rs.length) (strs rs)),(1,.fn (.func 41) [] []),(7,.int .i64 (Int.ofNat rs.length)),(8,.int .i64 (Int.ofNat i))] (hL (eP (pS cO cP b fl nx lf es rt)++[(7,.cells [.ptr (some (3,0))])])) 8))]
 :=cQ.of U U U
end
theorem afT{n0:Nat}{h:Tr O}{gv:V}{f:Bool}{rs:List (aa)}{R:V->Tr O->Nat->Prop}(j:Nat)
  (h0:TG ak n0 Tryz.f73.ntmps (dK GN) (U4 h n0 gv f rs) (andThen (fun s'=>eX n0 [0,1,7,8] s'=some (D1 h n0 gv f rs 0)) fun _ _=>False))
  (hr:∀i,i<j->TG ak n0 Tryz.f73.ntmps U5 (D1 h n0 gv f rs i) (andThen (fun s'=>eX n0 [0,1,7,8] s'=some (D1 h n0 gv f rs (i+1))) fun _ _=>False))
  (he:TG ak n0 Tryz.f73.ntmps U5 (D1 h n0 gv f rs j) fun y s'=>y= .ret/\fH ak n0 Tryz.f73 R .ret s'):TG ak n0 Tryz.f73.ntmps Lg (U4 h n0 gv f rs) (fH ak n0 Tryz.f73 R):=by
 refine cV U ?_;refine cV U ?_;refine fe h0 fun y s' dL=>?_;cases y<;>first|exact dL.elim|skip
 have dL:eX n0 [0,1,7,8] s'=some (D1 h n0 gv f rs 0):=dL;refine fg (i:=0) U (fe (Q1:=fun z s'=>z= .ret/\fH ak n0 Tryz.f73 R .ret s') (gl (fun k' s=>∃i,k'=j-i/\i<=j/\eX n0 [0,1,7,8] s=some (D1 h n0 gv f rs i)) U ?_ j ⟨0,rfl,aY _,dL⟩) ?_)
 . rintro k' s1 ⟨i,hk,hi,fQ⟩;refine c6 fQ ?_;rcases bN i j with fJ|Ae
   . refine fe (hr i fJ) fun y s2 jd=>?_;cases y<;>first|exact jd.elim|skip
     exact⟨j-(i+1),be,i+1,rfl,be,jd⟩
   . obtain rfl:i=j:=by omega
     refine fe he fun y s2 jd=>?_;obtain⟨rfl,jd⟩:=jd;exact⟨rfl,jd⟩
 rintro y s2 ⟨rfl,jd⟩;exact jd
section
variable(f:Bool)(rs:List (aa))(cO cP:Nat)(b:aa)(fl nx lf:Int)(es rt:ae)
theorem VE(hl:rs.length<=1000000)(j:Nat)(x:aa)(hj:rs[j]? =some x)(hx:dj (.str x) es=none)(hg:∀i y,i<j->rs[i]? =some y->El es y):
  TG ak 8 Tryz.f73.ntmps OG (cT [.dM f rs.length (strs rs),f44] (hB cO cP b fl nx lf es rt) 8) (fH ak 8 Tryz.f73 fun a b' c=>a= .int .i64 (Int.ofNat j)/\b'=hB cO cP b fl nx lf es rt/\c=8):=by
 have hO:∀n:Nat,Int.ofNat n=(n:Int):=fun _=>rfl;have NV:j<rs.length:=(aF.1 hj).1;refine iO  1 T2 (MJ cO cP b fl nx lf es rt f rs) cR ?_;show TG ak 8 Tryz.f73.ntmps Lg (U4 (hB cO cP b fl nx lf es rt) 8 f44 f rs) _;refine afT j ?_ (fun i Pu=>?_) ?_
 . refine fR T2 (Rs cO cP b fl nx lf es rt f rs) (dG ?_);exact⟨fun p hp=>by rw[aq]at hp;subst hp;rfl,fun s' dL=>dL⟩
 . obtain⟨y,hy⟩:∃y,rs[i]? =some y:=⟨_,ay be⟩;obtain⟨d0,gJ,k,hk⟩:=hg i y Pu hy;refine fR (XP [(18,[(15,.dc (.ef [og d0 gJ k,.bool true]))])]) (aeP f rs y i cO cP b d0 gJ k fl nx lf es rt) fun g hg hc=>?_;simp only[aE,aM,bt]at hg;rcases hg with rfl|rfl
   . refine⟨?_,fun s' dL=>dL⟩
     repeat' (first|exact cR|refine ju ?_ ?_)
     . exact⟨az _,dh⟩
     . rw[eJ,bj]
     . exact aN V.dw (fI hy)
     . exact mz hk
     . exact fG dh be
   . exact absurd (aJ (hc _ (aq.2 rfl))) dh
 . obtain⟨L3,wv⟩:=aeQ f rs x j cO cP b fl nx lf es rt;refine gy (XP [(18,[(15,.dc (.ef [BA,.bool false]))])]) mo (fun a b' c=>a= .int .i64 (Int.ofNat j)/\b'=hB cO cP b fl nx lf es rt/\c=8) U wv fun g hg hc=>?_;simp only[aE,aM,bt]at hg;rcases hg with rfl|rfl
   . refine⟨?_,⟨rfl,rfl,rfl⟩,fun s' dL=>⟨rfl,dL⟩⟩
     repeat' (first|exact cR|refine ju ?_ ?_)
     . exact⟨az _,dh⟩
     . rw[eJ,bj]
     . exact aN V.dw (fI hj)
     . exact qH hx
   . exact absurd (aJ (hc _ (aq.2 rfl))) dh
theorem VF(hl:rs.length<=1000000)(j:Nat)(x:aa)(hj:rs[j]? =some x)(hx:dj (.str x) es=none)(hg:∀i y,i<j->rs[i]? =some y->El es y):
  cU ak 43 [.dM f rs.length (strs rs),f44] (hB cO cP b fl nx lf es rt) 8 (.bool true) (hB cO cP b fl nx lf es rt) 8:=by
 have h73:cU ak 73 [.dM f rs.length (strs rs),f44] (hB cO cP b fl nx lf es rt) 8 (.int .i64 (Int.ofNat j)) (hB cO cP b fl nx lf es rt) 8:=
  c5 Tryz.func73 U U (VE f rs cO cP b fl nx lf es rt hl j x hj hx hg)
 refine c5 Tryz.func43 (code:=U3) U U ?_;refine fu ((XQ []).K9 GO (au U) h73) (abd f rs j cO cP b fl nx lf es rt) (dG ?_);refine⟨?_,_,_,_,rfl,rfl,rfl,rfl⟩
 repeat' (first|exact cR|refine ju ?_ ?_)
 . exact⟨rfl,rfl,rfl⟩
 . exact amC (az _)
abbrev VG(e:Int):V:=.ef [.str [],.int .i64 e]
theorem VH(d:aa)(hd:d.length<=65536)(hn:rs.length<=1024)(h32:∀x∈rs,x.length=32)(j:Nat)(x:aa)(hj:rs[j]? =some x)(hx:dj (.str x) es=none)(hg:∀i y,i<j->rs[i]? =some y->El es y):
  cU ak 15 [P3,.str d,.dM f rs.length (strs rs)] (eu (pS cO cP b fl nx lf es rt)) 7 (VG 63) (eu (pS cO cP b fl nx lf es rt)) 7:=by
 have hO:∀n:Nat,Int.ofNat n=(n:Int):=fun _=>rfl;refine c5 Tryz.func15 (code:=zg) U U ?_;obtain⟨L,hr⟩:=aa9 d f rs cO cP b fl nx lf es rt;simp only[ir]at hr;refine iq ((XQ []).K9 GO (au U) (VF f rs cO cP b fl nx lf es rt be j x hj hx hg)) mo _ U hr (dG ?_);refine⟨?_,_,_,_,rfl,rfl,rfl,rfl⟩
 repeat' (first|exact cR|refine ju ?_ ?_)
 . exact jc dh
 . exact jc dh
 . first|rfl|trivial
 . first|rfl|trivial
 . omega
 . exact h32
 . first|exact⟨rfl,rfl,rfl⟩|exact⟨trivial,trivial,rfl⟩|exact⟨trivial,trivial,trivial⟩|trivial
theorem VI(d d0:aa)(gJ:List (aa))(k:Int)(hx:dj (.str d) es=some (pU d0 gJ k))(hn:gJ.length<=1000000):
  cU ak 25 [P3,.str d] (eu (pS cO cP b fl nx lf es rt)) 7 (.ef [.str d0,.dM false gJ.length (strs gJ),.int .i64 0]) (eu (pS cO cP b fl nx lf es rt)) 7:=by
 refine c5 Tryz.func25 (code:=dS Tryz.f25) U U ?_;rcases gJ with _|⟨r,gJ⟩
 . refine fu ((XQ []).jt (au U) (aa8 false _ _)) (VD d d0 k cO cP b fl nx lf es rt) (dG ?_);refine⟨?_,_,_,_,rfl,rfl,rfl,rfl⟩
   repeat' (first|exact cR|refine ju ?_ ?_)
   . exact mz hx
   . exact⟨rfl,rfl,rfl⟩
 . refine fu (XQ []) (aba d d0 (r::gJ) k cO cP b fl nx lf es rt) (dG ?_);refine⟨?_,_,_,_,rfl,rfl,rfl,rfl⟩
   repeat' (first|exact cR|refine ju ?_ ?_)
   . exact mz hx
   . exact Nat.succ_pos _
   . exact eJ _
   . exact hn
theorem VJ(d:aa)(hx:El es d):cU ak 18 [P3,.str d] (eu (pS cO cP b fl nx lf es rt)) 7 (.bool true) (eu (pS cO cP b fl nx lf es rt)) 7:=by
 obtain⟨d0,gJ,k,hx⟩:=hx;refine c5 Tryz.func18 (code:=dS Tryz.f18) U U ?_;refine fu (XQ []) (abb d d0 gJ k cO cP b fl nx lf es rt) (dG ?_);refine⟨fun a ha=>?_,_,_,_,rfl,rfl,rfl,rfl⟩;rw[aq]at ha;subst ha;exact mz hx
theorem Lz(n d:aa)(hx:dj (.str n) rt=some (.str d)):cU ak 24 [P3,.str n] (eu (pS cO cP b fl nx lf es rt)) 7 (.ef [.str d,.bool true]) (eu (pS cO cP b fl nx lf es rt)) 7:=by
 refine c5 Tryz.func24 (code:=dS Tryz.f24) U U ?_;refine fu (XQ []) (abc n d cO cP b fl nx lf es rt) (dG ?_);refine⟨fun a ha=>?_,_,_,_,rfl,rfl,rfl,rfl⟩;rw[aq]at ha;subst ha;exact zn hx
end
def w88:V:=.fn (.func 88) [] [.ptr (some (7,0))]
section
variable(cO cP:Nat)(b:aa)(fl nx lf:Int)(es rt:ae)
def lK:af:=eP (pS cO cP b fl nx lf es rt)++[(7,.cells [.map (some 6)])]
def lKg:af:=[(0,.ints .u32 gS),(1,.ints .u32 gR),(3,.cells (wI 4 5 6 (pS cO cP b fl nx lf es rt))),(4,.iX 5 false b),(5,.dy none es),(7,.cells [.map (some 6)])]
def sKa:St:=eF [(2,.ptr (some (8,0))),(6,w88)] (hL (lK cO cP b fl nx lf es rt++[(8,.cells [.di none 0 0 0])])) 9
noncomputable def oKa:O:=.loop true none (sKa cO cP b fl nx lf es rt).fr [7] U9 Va
noncomputable def hK(sl:V)(row:af):Tr O:=hL (lK cO cP b fl nx lf es rt++[(8,.cells [sl]),(9,.mA),(10,oKa cO cP b fl nx lf es rt)]++row)
noncomputable def SK(sl:V)(row:af)(n:Nat):St:=eF [(0,.fn (.yield 10) [] []),(5,.ptr (some (11,0)))] (hL (lKg cO cP b fl nx lf es rt++[(8,.cells [sl]),(9,.mA),(10,oKa cO cP b fl nx lf es rt)]++row)) n
end
abbrev P(m:Nat):V:=.ptr (some (m,0))
section
variable(cO cP:Nat)(b:aa)(fl nx lf:Int)
theorem amF(es rt:ae)(k:aa)(v:V):c7 (kW []) [] 12 Tryz.f88 [0,5] ((sA En).rest) (T3 (SK cO cP b fl nx lf es rt eI [] 12) k v) [([],
   [],
   .to .normal (eF [(0,.fn (.yield 10) [] []),(5,.ptr (some (11,0)))] (hL [(0,.ints .u32 gS),(1,.ints .u32 gR),(3,.cells [.di (some (4,0)) cO cP 1,.int .i64 fl,.map (some 5),.map (some 6),.int .i64 nx,.bool false,.bool false,.int .i64 lf]),(4,.iX 5 false b),(5,.dy none es),(7,.cells [.map (some 6)]),(8,.cells [.di (some (12,0)) 1 1 1]),(9,.mA),(10,.loop true none (Eng.Bb [(2,.ptr (some (8,0))),(6,.fn (.func 88) [] [.ptr (some (7,0))])]) [7] U9 Va),(12,.cells [.str k])]) 13))]
 :=cQ.of U U U
theorem afV(es rt:ae)(k:aa)(v:V)(n:Nat)(cs:ai):c7 (kW []) [] 12 Tryz.f88 [0,5] ((sA En).rest) (T3 (SK cO cP b fl nx lf es rt (.di (some (12,0)) n n 1) [(12,.deep cs)] 13) k v) [([],
   [(0+n*1<=cs.length),(0<1),(eT (n+1) 1 16=true)],
   .to .normal (eF [(0,.fn (.yield 10) [] []),(5,.ptr (some (11,0)))] (hL [(0,.ints .u32 gS),(1,.ints .u32 gR),(3,.cells [.di (some (4,0)) cO cP 1,.int .i64 fl,.map (some 5),.map (some 6),.int .i64 nx,.bool false,.bool false,.int .i64 lf]),(4,.iX 5 false b),(5,.dy none es),(7,.cells [.map (some 6)]),(8,.cells [.di (some (12,0)) (n+1) (n+1) 1]),(9,.mA),(10,.loop true none (Eng.Bb [(2,.ptr (some (8,0))),(6,.fn (.func 88) [] [.ptr (some (7,0))])]) [7] U9 Va),(12,.deep (List.take (n*1) (List.drop 0 cs)++[D.str k]))]) 13))]
 :=cQ.of U U U
theorem amG(es rt:ae):c7 (kW []) [] 8 Tryz.f113 [1,2] (eO 1 RB) (cT [eI,w88] (hL (lK cO cP b fl nx lf es rt)) 8) [([],
   [],
   .to .normal (eF [(1,.fn (.func 88) [] [.ptr (some (7,0))]),(2,.ptr (some (8,0)))] (hL (eP (pS cO cP b fl nx lf es rt)++[(7,.cells [.map (some 6)]),(8,.cells [.di none 0 0 0])])) 9))]
 :=cQ.of U U U
theorem amH(es rt:ae):c7 (kW []) [] 8 Tryz.f113 [2,6] (dK (dK Az)) (eF [(1,w88),(2,P 8)] (hL (lK cO cP b fl nx lf es rt++[(8,.cells [eI])])) 9) [([],
   [],
   .to .normal (eF [(2,.ptr (some (8,0))),(6,.fn (.func 88) [] [.ptr (some (7,0))])] (hL (eP (pS cO cP b fl nx lf es rt)++[(7,.cells [.map (some 6)]),(8,.cells [.di none 0 0 0])])) 9))]
 :=cQ.of U U U
theorem amI(es rt:ae)(n:Nat)(cs:ai):c7 (kW []) [] 8 Tryz.f113 [] (dV Az) (tD (sKa cO cP b fl nx lf es rt) (hK cO cP b fl nx lf es rt (.di (some (11,0)) n n 1) [(11,.deep cs)]) 12) [([],
   [],
   .ret (.di (some (8,0)) n n 1) (hL (eP (pS cO cP b fl nx lf es rt)++[(7,.cells [.map (some 6)]),(8,.deep cs)])) 9)]
 :=cQ.of U U U
theorem amJ(es rt:ae):c7 (kW []) [] 8 Tryz.f113 [] (dV Az) (tD (sKa cO cP b fl nx lf es rt) (hK cO cP b fl nx lf es rt eI []) 11) [([],
   [],
   .ret (.di none 0 0 0) (hL (eP (pS cO cP b fl nx lf es rt)++[(7,.cells [.map (some 6)])])) 8)]
 :=cQ.of U U U
end
def zq(rt:ae):Prop:=∀e∈rt,∃k,e.1= .str k
def dJ(rt:ae):List (aa):=rt.map fun e=>D.Z1 e.1
theorem Ds(a b:List (aa)):strs (a++b)=strs a++strs b:=by unfold strs;rw[aZ]
section
variable(cO cP:Nat)(b:aa)(fl nx lf:Int)(es rt:ae)
def Bg(m:Nat):List (aa)->af
 | []=>[]
 | [x]=>[(m,.cells [.str x])]
 |ks=>[(m,.deep (strs ks))]
def G7(m:Nat):List (aa)->V
 | []=>eI
 |ks=>.di (some (m,0)) ks.length ks.length 1
def nK(m:Nat):List (aa)->Nat
 | []=>m
 |_=>m+1
def JKa(iD:ae)(s1:St):Prop:=zq iD/\eX 12 [0,5] s1=some (SK cO cP b fl nx lf es rt (G7 12 (dJ iD)) (Bg 12 (dJ iD)) (nK 12 (dJ iD)))
theorem VK(hk:zq rt)(hl:rt.length<=1000000):fU ak 88 [.fn (.yield 10) [] [],.ptr (some (7,0))] (hK cO cP b fl nx lf es rt eI []) 11 fun v h n=>∃iD,List.Perm iD rt/\v= .ef []/\h=hK cO cP b fl nx lf es rt (G7 11 (dJ iD)) (Bg 11 (dJ iD))/\n=nK 11 (dJ iD):=by
 refine gF mo po Tryz.func88 (code:=En) U U ?_;rw[ae6];refine zf (v0:=.map (some 6)) (kg:=(cT [.fn (.yield 10) [] [],.ptr (some (7,0))] (hK cO cP b fl nx lf es rt eI []) 11).fr.set 4 (some (.map (some 6)))) (zS:=((cT [.fn (.yield 10) [] [],.ptr (some (7,0))] (hK cO cP b fl nx lf es rt eI []) 11).fr.set 4 (some (.map (some 6)))).set 5 (some (.ptr (some (11,0))))) (m:=6) (kd:=none) (es:=rt) mo MN
  U U U U (au rfl) U (JKa cO cP b fl nx lf es rt) ⟨(fun _ h=>by cases h),U⟩ ?_
 rintro iD left s1 ⟨hv,hs⟩ hp;have iT:iD.length<=1000000:=by
  have:=hp.length_eq;rw[ax]at this;omega
 match iD,hv,hs,hp,iT with
 | [],hv,hs,hp,_=>
   refine⟨[0,5],SK cO cP b fl nx lf es rt eI [] 12,hs,U,fun vR=>?_,fun e ko he=>?_⟩
   . subst vR;rw[ct]at hp;refine⟨(SK cO cP b fl nx lf es rt eI [] 12).fr.set 6 (some (.ef [.bool false])),{ SK cO cP b fl nx lf es rt eI [] 12 with fr:=((SK cO cP b fl nx lf es rt eI [] 12).fr.set 6 (some (.ef [.bool false]))).set 7 (some (.bool false)) },U,U,U,.inl rfl,.ef [],hK cO cP b fl nx lf es rt eI [],11,U,[],hp,rfl,rfl,rfl⟩
   . obtain⟨k,Sa⟩:=hk e (hp.mem_iff.1 (he.mem_iff.2 (by simp)));obtain⟨e1,e2⟩:=e;have Sa:e1= .str k:=Sa;subst Sa;refine⟨(SK cO cP b fl nx lf es rt eI [] 12).fr.set 6 (some (.ef [.bool true,.str k,e2.iL])),{ SK cO cP b fl nx lf es rt eI [] 12 with fr:=((SK cO cP b fl nx lf es rt eI [] 12).fr.set 6 (some (.ef [.bool true,.str k,e2.iL]))).set 7 (some (.bool true)) },
      (((SK cO cP b fl nx lf es rt eI [] 12).fr.set 6 (some (.ef [.bool true,.str k,e2.iL]))).set 7 (some (.bool true))).set 8 (some (.ef [.str k,e2.iL])),T3 (SK cO cP b fl nx lf es rt eI [] 12) k e2.iL,U,U,U,U,U,U,U,U,?_⟩
     refine fR (XQ []) (amF cO cP b fl nx lf es rt k e2.iL) (dG ?_);exact⟨cR,fun s' dL=>⟨fun x hx=>by rw[cD,aq]at hx;exact⟨k,by rw[hx]⟩,dL⟩⟩
 | [x],hv,hs,hp,_=>
   obtain⟨x1,x2⟩:=x;obtain⟨kx,hkx⟩:=hv _ (aq.2 rfl);have hkx:x1= .str kx:=hkx;subst hkx;refine⟨[0,5],SK cO cP b fl nx lf es rt (.di (some (12,0)) 1 1 1) [(12,.cells [.str kx])] 13,hs,U,fun vR=>?_,fun e ko he=>?_⟩
   . subst vR;rw[ct]at hp;refine⟨(SK cO cP b fl nx lf es rt (.di (some (12,0)) 1 1 1) [(12,.cells [.str kx])] 13).fr.set 6 (some (.ef [.bool false])),{ SK cO cP b fl nx lf es rt (.di (some (12,0)) 1 1 1) [(12,.cells [.str kx])] 13 with fr:=((SK cO cP b fl nx lf es rt (.di (some (12,0)) 1 1 1) [(12,.cells [.str kx])] 13).fr.set 6 (some (.ef [.bool false]))).set 7 (some (.bool false)) },U,U,U,.inl rfl,.ef [],hK cO cP b fl nx lf es rt (.di (some (11,0)) 1 1 1) [(11,.cells [.str kx])],12,U,_,hp,rfl,rfl,rfl⟩
   . obtain⟨k,Sa⟩:=hk e (hp.mem_iff.1 (bZ _ (he.mem_iff.2 (by simp))));obtain⟨e1,e2⟩:=e;have Sa:e1= .str k:=Sa;subst Sa
     let S:=SK cO cP b fl nx lf es rt (.di (some (12,0)) 1 1 1) [(12,.cells [.str kx])] 13
     refine⟨S.fr.set 6 (some (.ef [.bool true,.str k,e2.iL])),{ S with fr:=(S.fr.set 6 (some (.ef [.bool true,.str k,e2.iL]))).set 7 (some (.bool true)) },
      ((S.fr.set 6 (some (.ef [.bool true,.str k,e2.iL]))).set 7 (some (.bool true))).set 8 (some (.ef [.str k,e2.iL])),T3 S k e2.iL,U,U,U,U,U,U,U,U,?_⟩
     refine tF [12] (s2:=T3 (SK cO cP b fl nx lf es rt (.di (some (12,0)) 1 1 1) [(12,.deep [.str kx])] 13) k e2.iL) U ?_;refine fR (XQ []) (afV cO cP b fl nx lf es rt k e2.iL 1 [.str kx]) (dG ?_);refine⟨?_,fun s' dL=>⟨fun x hx=>?_,dL⟩⟩
     . exact cq.2 ⟨aA _,cq.2 ⟨dP,cq.2 ⟨dP,cR⟩⟩⟩
     . simp only[List.cons_append,cD,aE,aM,bt]at hx;rcases hx with rfl|rfl
       . exact⟨kx,rfl⟩
       . exact⟨k,rfl⟩
 |x::y::iD,hv,hs,hp,iT=>
  have xo:∀m,Bg m (dJ (x::y::iD))=[(m,.deep (strs (dJ (x::y::iD))))]:=fun m=>rfl;have hsl:∀m,G7 m (dJ (x::y::iD))= .di (some (m,0)) (dJ (x::y::iD)).length (dJ (x::y::iD)).length 1:=fun m=>rfl;have hnk:∀m,nK m (dJ (x::y::iD))=m+1:=fun m=>rfl;have LB:(dJ (x::y::iD)).length=(x::y::iD).length:=by unfold dJ;rw[aW]
  rw[xo,hsl,hnk]at hs;have hL2:∀l2,G7 11 (dJ (x::y::iD))=l2->l2= .di (some (11,0)) (dJ (x::y::iD)).length (dJ (x::y::iD)).length 1:=fun l2 h=>h▸rfl;refine⟨[0,5],_,hs,U,fun vR=>?_,fun e ko he=>?_⟩
  . subst vR;rw[ct]at hp;refine⟨(SK cO cP b fl nx lf es rt (.di (some (12,0)) (dJ (x::y::iD)).length (dJ (x::y::iD)).length 1) [(12,.deep (strs (dJ (x::y::iD))))] 13).fr.set 6 (some (.ef [.bool false])),{ SK cO cP b fl nx lf es rt (.di (some (12,0)) (dJ (x::y::iD)).length (dJ (x::y::iD)).length 1) [(12,.deep (strs (dJ (x::y::iD))))] 13 with fr:=((SK cO cP b fl nx lf es rt (.di (some (12,0)) (dJ (x::y::iD)).length (dJ (x::y::iD)).length 1) [(12,.deep (strs (dJ (x::y::iD))))] 13).fr.set 6 (some (.ef [.bool false]))).set 7 (some (.bool false)) },U,U,U,.inl rfl,.ef [],hK cO cP b fl nx lf es rt (.di (some (11,0)) (dJ (x::y::iD)).length (dJ (x::y::iD)).length 1) [(11,.deep (strs (dJ (x::y::iD))))],12,?_,_,hp,rfl,rfl,rfl⟩;generalize dJ (x::y::iD)=ks;kernel_rfl
  . obtain⟨k,Sa⟩:=hk e (hp.mem_iff.1 (bZ _ (he.mem_iff.2 (by simp))));obtain⟨e1,e2⟩:=e;have Sa:e1= .str k:=Sa;subst Sa;have pF:dJ ((x::y::iD)++[(.str k,e2)])=dJ (x::y::iD)++[k]:=by unfold dJ;rw[aZ];rfl
    have DY:zq ((x::y::iD)++[(.str k,e2)]):=fun z hz=>by
     rcases aU.1 hz with hz|hz
     . exact hv z hz
     . rw[aq]at hz;subst hz;exact⟨k,rfl⟩
    have h2:2<=(dJ (x::y::iD)).length:=by rw[LB];simp
    have hJ:∀s',eX 12 [0,5] s'=some (SK cO cP b fl nx lf es rt (.di (some (12,0)) (dJ (x::y::iD)++[k]).length (dJ (x::y::iD)++[k]).length 1) [(12,.deep (strs (dJ (x::y::iD)++[k])))] 13)->JKa cO cP b fl nx lf es rt ((x::y::iD)++[(.str k,e2)]) s':=by
     intro s' dL;refine⟨DY,?_⟩;rw[pF,dL];unfold dJ;rfl
    generalize hK0:dJ (x::y::iD)=ks at *
    let S:=SK cO cP b fl nx lf es rt (.di (some (12,0)) ks.length ks.length 1) [(12,.deep (strs ks))] 13
    refine⟨S.fr.set 6 (some (.ef [.bool true,.str k,e2.iL])),{ S with fr:=(S.fr.set 6 (some (.ef [.bool true,.str k,e2.iL]))).set 7 (some (.bool true)) },
     ((S.fr.set 6 (some (.ef [.bool true,.str k,e2.iL]))).set 7 (some (.bool true))).set 8 (some (.ef [.str k,e2.iL])),T3 S k e2.iL,U,U,U,U,U,U,U,U,?_⟩
    refine fR (XQ []) (afV cO cP b fl nx lf es rt k e2.iL ks.length (strs ks)) (dG ?_);refine⟨?_,fun s' dL=>hJ s' ?_⟩
    . exact cq.2 ⟨by rw[eJ];omega,cq.2 ⟨dP,cq.2 ⟨pT be,cR⟩⟩⟩
    . refine Eq.trans dL ?_;have e3:List.take (ks.length*1) (List.drop 0 (strs ks))++[D.str k]=strs (ks++[k]):=by
       rw[bu,bj,bq (by rw[eJ];exact aA _),Ds];rfl
      rw[e3,ax];rfl
end
section
variable(cO cP:Nat)(b:aa)(fl nx lf:Int)(es rt:ae)
def xT(row:af):Tr O:=hL (lK cO cP b fl nx lf es rt++row)
end
section
variable(cO:Nat)(h:Tr O)(cP:Nat)(b:aa)(fl nx lf:Int)(n:Nat)
def sC2(v:V):St:={ fr:=((((Bb [(0,w88)]).set 3 (some w88)).set 4 (some v)).set 2 (some v)),h:=h,n:=n,gz:=[] }
theorem amL(es rt:ae)(x:aa):c7 (kW []) [] 8 Tryz.f113 [] (dV Az) (tD (sKa cO cP b fl nx lf es rt) (hK cO cP b fl nx lf es rt (.di (some (11,0)) 1 1 1) [(11,.cells [.str x])]) 12) [([],
   [],
   .ret (.di (some (8,0)) 1 1 1) (hL (eP (pS cO cP b fl nx lf es rt)++[(7,.cells [.map (some 6)]),(8,.cells [.str x])])) 9)]
 :=cQ.of U U U
theorem amM(es rt:ae):c7 (kW []) [] 8 Tryz.f86 [0] (eO 1 Ep) (cT [w88] (xT cO cP b fl nx lf es rt []) 8) [([],
   [],
   .to .normal (eF [(0,.fn (.func 88) [] [.ptr (some (7,0))])] (hL (eP (pS cO cP b fl nx lf es rt)++[(7,.cells [.map (some 6)])])) 8))]
 :=cQ.of U U U
theorem amN(es rt:ae)(n:Nat)(cs:ai):c7 (kW []) [] 8 Tryz.f86 [] (dV (de 1 Ep)) (sC2 (xT cO cP b fl nx lf es rt [(8,.deep cs)]) 9 (.di (some (8,0)) n n 1)) [([],
   [],
   .ret (.di (some (8,0)) n n 1) (hL (eP (pS cO cP b fl nx lf es rt)++[(7,.cells [.map (some 6)]),(8,.deep cs)])) 9)]
 :=cQ.of U U U
theorem amO(es rt:ae):c7 (kW []) [] 8 Tryz.f86 [] (dV (de 1 Ep)) (sC2 (xT cO cP b fl nx lf es rt []) 8 eI) [([],
   [],
   .ret (.di none 0 0 0) (hL (eP (pS cO cP b fl nx lf es rt)++[(7,.cells [.map (some 6)])])) 8)]
 :=cQ.of U U U
theorem amP(es rt:ae)(x:aa):c7 (kW []) [] 8 Tryz.f86 [] (dV (de 1 Ep)) (sC2 (xT cO cP b fl nx lf es rt [(8,.cells [.str x])]) 9 (.di (some (8,0)) 1 1 1)) [([],
   [],
   .ret (.di (some (8,0)) 1 1 1) (hL (eP (pS cO cP b fl nx lf es rt)++[(7,.cells [.map (some 6)]),(8,.cells [.str x])])) 9)]
 :=cQ.of U U U
theorem amQ(es rt:ae):c7 (kW []) [] 8 Tryz.f61 [0] (eO 1 Eo) (cT [w88] (xT cO cP b fl nx lf es rt []) 8) [([],
   [],
   .to .normal (eF [(0,.fn (.func 88) [] [.ptr (some (7,0))])] (hL (eP (pS cO cP b fl nx lf es rt)++[(7,.cells [.map (some 6)])])) 8))]
 :=cQ.of U U U
def sS2(v:V):St:={ fr:=((((Bb [(0,w88)]).set 4 (some w88)).set 5 (some v)).set 3 (some v)),h:=h,n:=n,gz:=[] }
theorem amR(es rt:ae)(n:Nat)(cs ve:ai):c7 (fC (kW []) 87 [.di (some (8,0)) n n 1] (xT cO cP b fl nx lf es rt [(8,.deep cs)]) 9 (.ef [],(xT cO cP b fl nx lf es rt [(8,.deep cs)]).set 8 (some (.deep ve)),9)) [] 8 Tryz.f61 [] (de 2 Eo) (sS2 (xT cO cP b fl nx lf es rt [(8,.deep cs)]) 9 (.di (some (8,0)) n n 1)) [([],
   [fb [.di (some (8,0)) n n 1] (hL (eP (pS cO cP b fl nx lf es rt)++[(7,.cells [.map (some 6)]),(8,.deep cs)])) 9],
   .ret (.di (some (8,0)) n n 1) (hL (eP (pS cO cP b fl nx lf es rt)++[(7,.cells [.map (some 6)]),(8,.deep ve)])) 9)]
 :=cQ.of U U U
theorem amS(es rt:ae):c7 (kW []) [] 8 Tryz.f61 [] (de 2 Eo) (sS2 (xT cO cP b fl nx lf es rt []) 8 eI) [([],
   [((0:Int)<=(0:Int)/\0<256)],
   .ret (.di none 0 0 0) (hL (eP (pS cO cP b fl nx lf es rt)++[(7,.cells [.map (some 6)])])) 8)]
 :=cQ.of U U U
theorem amT(es rt:ae)(x:aa):c7 (kW []) [] 8 Tryz.f61 [] (de 2 Eo) (sS2 (xT cO cP b fl nx lf es rt [(8,.cells [.str x])]) 9 (.di (some (8,0)) 1 1 1)) [([],
   [((0:Int)<=(1:Int)/\1<256)],
   .ret (.di (some (8,0)) 1 1 1) (hL (eP (pS cO cP b fl nx lf es rt)++[(7,.cells [.map (some 6)]),(8,.cells [.str x])])) 9)]
 :=cQ.of U U U
def hKf(es rt:ae)(row:af):Tr O:=hL (eP (pS cO cP b fl nx lf es rt)++row)
theorem afW(es rt:ae)(n:Nat)(cs:ai):c7 (fC (kW []) 61 [w88] (xT cO cP b fl nx lf es rt []) 8 (.di (some (8,0)) n n 1,xT cO cP b fl nx lf es rt [(8,.deep cs)],9)) [] 7 Tryz.f23 [] (OL) (cT [P3] (eu (pS cO cP b fl nx lf es rt)) 7) [([],
   [fb [.fn (.func 88) [] [.ptr (some (7,0))]] (hL (eP (pS cO cP b fl nx lf es rt)++[(7,.cells [.map (some 6)])])) 8],
   .ret (.di (some (7,0)) n n 1) (hL (eP (pS cO cP b fl nx lf es rt)++[(7,.deep cs)])) 8)]
 :=cQ.of U U U
theorem afX(es rt:ae):c7 (fC (kW []) 61 [w88] (xT cO cP b fl nx lf es rt []) 8 (eI,xT cO cP b fl nx lf es rt [],8)) [] 7 Tryz.f23 [] (OL) (cT [P3] (eu (pS cO cP b fl nx lf es rt)) 7) [([],
   [fb [.fn (.func 88) [] [.ptr (some (7,0))]] (hL (eP (pS cO cP b fl nx lf es rt)++[(7,.cells [.map (some 6)])])) 8],
   .ret (.di none 0 0 0) (eu (pS cO cP b fl nx lf es rt)) 7)]
 :=cQ.of U U U
theorem afY(es rt:ae)(x:aa):c7 (fC (kW []) 61 [w88] (xT cO cP b fl nx lf es rt []) 8 (.di (some (8,0)) 1 1 1,xT cO cP b fl nx lf es rt [(8,.cells [.str x])],9)) [] 7 Tryz.f23 [] (OL) (cT [P3] (eu (pS cO cP b fl nx lf es rt)) 7) [([],
   [fb [.fn (.func 88) [] [.ptr (some (7,0))]] (hL (eP (pS cO cP b fl nx lf es rt)++[(7,.cells [.map (some 6)])])) 8],
   .ret (.di (some (7,0)) 1 1 1) (hL (eP (pS cO cP b fl nx lf es rt)++[(7,.cells [.str x])])) 8)]
 :=cQ.of U U U
end
end Go.Proofs.YtfihojpgobmmdaaGreatDoor
