/- The Chunk laws: octet.Reader: Var: pieces. No conditions. -/
import Derived.Test.YtfihojpgobmmdaaGreatDoorJointW07
import Derived.Test.YtfihojpgobmmdaaGreatDoorJointW16
import Derived.Test.YtfihojpgobmmdaaGreatDoorJointW13
import Derived.Test.YtfihojpgobmmdaaGreatDoorJointW14
import Derived.Test.YtfihojpgobmmdaaGreatDoorJointW11
import Derived.Test.YtfihojpgobmmdaaGreatDoorJointW15
import Derived.Shelf.SlicesG.Clone
set_option linter.unusedVariables false
set_option linter.unusedSimpArgs false
set_option linter.unusedSectionVars false
set_option maxRecDepth 20000
namespace Go.Proofs.YtfihojpgobmmdaaGreatDoor
open Go Go.Eng
noncomputable abbrev N3:Code:=dU Tryz.f110
noncomputable abbrev Uv:Code:=dh 3 N3
noncomputable abbrev aej:Code:=dO Uv
noncomputable abbrev akw:Code:=dr (dr (dY aej))
abbrev OQ:V:=.ptr (some (3,0))
section
variable(s:aa)(a:Nat)(u:Int)(m i:Nat)(b:UInt8)
abbrev GA(f:Bool):ag:=[.str s,.int .i64 (Int.ofNat a),.bool f]
def uS(i:Nat):Int:=IntKind.u64.wrap (Int.ofNat (BitVec.ofInt 64 u|||BitVec.ofInt 64 (IntKind.u64.wrap (IntKind.u64.wrap (IntKind.u8.wrap (Int.ofNat (BitVec.ofInt 8 (Int.ofNat b.toNat)&&&BitVec.ofInt 8 (127:Int)).toNat))*(2:Int)^min (Int.ofNat (7*i)).toNat 64))).toNat)
def Xx:St:=eG [(0,OQ),(3,.int .u64 u),(16,.int .i64 (Int.ofNat m)),(17,.int .i64 (Int.ofNat i))] (hP (GA s a false)) 4
theorem aek(a:Int):c5 (kW []) [] 4 Tryz.f110 [] (N3) (cR [OQ] (hP [.str s,.int .i64 a,.bool true]) 4) [([],
   [],
   .ret (.int .i64 0) (hL [(3,.cells [.str s,.int .i64 a,.bool true])]) 4)]
 :=cP.of U U U
theorem ael:c5 (kW []) [] 4 Tryz.f110 [0,3] (eR 3 N3) (cR [OQ] (hP (GA s a false)) 4) [([],
   [],
   .to .normal (eG [(0,.ptr (some (3,0))),(3,.int .u64 0)] (hL [(3,.cells [.str s,.int .i64 (Int.ofNat a),.bool false])]) 4))]
 :=cP.of U U U
theorem aem:c5 (kW []) [(16,.c9 (.int .i64 (Int.ofNat m))),(17,.c9 (.int .i64 (Int.ofNat 0)))] 4 Tryz.f110 [0,3,16,17] (dO aej) (eG [(0,OQ),(3,.int .u64 0)] (hP (GA s a false)) 4) [([],
   [(V.int aj (if IntKind.i64.wrap ((Int.ofNat s.length)-Int.ofNat a)<(10:Int)then IntKind.i64.wrap ((Int.ofNat s.length)-Int.ofNat a)else(10:Int))=V.int aj (Int.ofNat m)),(V.int aj (0:Int)=V.int aj (0:Int))],
   .to .normal (eG [(0,.ptr (some (3,0))),(3,.int .u64 0),(16,.int .i64 (Int.ofNat m)),(17,.int .i64 0)] (hL [(3,.cells [.str s,.int .i64 (Int.ofNat a),.bool false])]) 4))]
 :=cP.of U U U
abbrev kR(u:Int)(b:UInt8):Prop:=V.int IntKind.u64 (IntKind.u64.wrap (Int.ofNat (BitVec.ofInt 64 u|||BitVec.ofInt 64 (IntKind.u64.wrap (IntKind.u64.wrap (IntKind.u8.wrap (Int.ofNat (BitVec.ofInt 8 (Int.ofNat b.toNat)&&&BitVec.ofInt 8 (127:Int)).toNat))*(2:Int)^min (7*i) 64))).toNat))=V.int IntKind.u64 (uS u b i)
abbrev kS:Prop:=V.int IntKind.u8 (Int.ofNat (s.getD (a+i) (0:UInt8)).toNat)=V.int IntKind.u8 (Int.ofNat b.toNat)
theorem aen(u:Int)(b:UInt8):c5 (kW []) [(18,.split),(29,.c9 (.int .i64 (Int.ofNat (a+i)))),(30,.c9 (.int .u8 (Int.ofNat b.toNat))),(36,.c9 (.int .i64 (Int.ofNat (7*i)))),(38,.c9 (.int .u64 (uS u b i))),(40,.split),(43,.split),(47,.split),(50,.split),(54,.split),(61,.c9 (.int .i64 (Int.ofNat (a+(i+1))))),(66,.c9 (.int .i64 (Int.ofNat (i+1))))] 4 Tryz.f110 [0,3,16,17] (akw) (Xx s a u m i) [([((decide (Int.ofNat i<Int.ofNat m)),true),((decide (Int.ofNat b.toNat>=(128:Int))),true)],
   [kM (Int.ofNat a+Int.ofNat i) (a+i),((0:Int)<=Int.ofNat (a+i)/\(a+i)<s.length),kS s a i b,kM ((7:Int)*Int.ofNat i) (7*i),kR i u b,kM (Int.ofNat i+(1:Int)) (i+1)],
   .to .normal (eG [(0,.ptr (some (3,0))),(3,.int .u64 (uS u b i)),(16,.int .i64 (Int.ofNat m)),(17,.int .i64 (Int.ofNat (i+1)))] (hL [(3,.cells [.str s,.int .i64 (Int.ofNat a),.bool false])]) 4)),
  ([((decide (Int.ofNat i<Int.ofNat m)),true),((decide (Int.ofNat b.toNat>=(128:Int))),false),((decide (Int.ofNat i>(0:Int))),true),((Int.ofNat b.toNat==(0:Int)),true),(true,true)],
   [kM (Int.ofNat a+Int.ofNat i) (a+i),((0:Int)<=Int.ofNat (a+i)/\(a+i)<s.length),kS s a i b,kM ((7:Int)*Int.ofNat i) (7*i),kR i u b],
   .to (.exit 0) (eG [(0,.ptr (some (3,0))),(3,.int .u64 (uS u b i)),(16,.int .i64 (Int.ofNat m)),(17,.int .i64 (Int.ofNat i))] (hL [(3,.cells [.str s,.int .i64 (Int.ofNat a),.bool false])]) 4)),
  ([((decide (Int.ofNat i<Int.ofNat m)),true),((decide (Int.ofNat b.toNat>=(128:Int))),false),((decide (Int.ofNat i>(0:Int))),true),((Int.ofNat b.toNat==(0:Int)),true),(true,false)],
   [kM (Int.ofNat a+Int.ofNat i) (a+i),((0:Int)<=Int.ofNat (a+i)/\(a+i)<s.length),kS s a i b,kM ((7:Int)*Int.ofNat i) (7*i),kR i u b,kM (Int.ofNat a+IntKind.i64.wrap (Int.ofNat i+(1:Int))) (a+(i+1))],
   .ret (.int .i64 (IntKind.i64.wrap (uS u b i))) (hL [(3,.cells [.str s,.int .i64 (Int.ofNat (a+(i+1))),.bool false])]) 4),
  ([((decide (Int.ofNat i<Int.ofNat m)),true),((decide (Int.ofNat b.toNat>=(128:Int))),false),((decide (Int.ofNat i>(0:Int))),true),((Int.ofNat b.toNat==(0:Int)),false),((Int.ofNat i==(9:Int)),true),((decide (Int.ofNat b.toNat>(1:Int))),true)],
   [kM (Int.ofNat a+Int.ofNat i) (a+i),((0:Int)<=Int.ofNat (a+i)/\(a+i)<s.length),kS s a i b,kM ((7:Int)*Int.ofNat i) (7*i),kR i u b],
   .to (.exit 0) (eG [(0,.ptr (some (3,0))),(3,.int .u64 (uS u b i)),(16,.int .i64 (Int.ofNat m)),(17,.int .i64 (Int.ofNat i))] (hL [(3,.cells [.str s,.int .i64 (Int.ofNat a),.bool false])]) 4)),
  ([((decide (Int.ofNat i<Int.ofNat m)),true),((decide (Int.ofNat b.toNat>=(128:Int))),false),((decide (Int.ofNat i>(0:Int))),true),((Int.ofNat b.toNat==(0:Int)),false),((Int.ofNat i==(9:Int)),true),((decide (Int.ofNat b.toNat>(1:Int))),false)],
   [kM (Int.ofNat a+Int.ofNat i) (a+i),((0:Int)<=Int.ofNat (a+i)/\(a+i)<s.length),kS s a i b,kM ((7:Int)*Int.ofNat i) (7*i),kR i u b,kM (Int.ofNat a+IntKind.i64.wrap (Int.ofNat i+(1:Int))) (a+(i+1))],
   .ret (.int .i64 (IntKind.i64.wrap (uS u b i))) (hL [(3,.cells [.str s,.int .i64 (Int.ofNat (a+(i+1))),.bool false])]) 4),
  ([((decide (Int.ofNat i<Int.ofNat m)),true),((decide (Int.ofNat b.toNat>=(128:Int))),false),((decide (Int.ofNat i>(0:Int))),true),((Int.ofNat b.toNat==(0:Int)),false),((Int.ofNat i==(9:Int)),false),(false,true)],
   [kM (Int.ofNat a+Int.ofNat i) (a+i),((0:Int)<=Int.ofNat (a+i)/\(a+i)<s.length),kS s a i b,kM ((7:Int)*Int.ofNat i) (7*i),kR i u b],
   .to (.exit 0) (eG [(0,.ptr (some (3,0))),(3,.int .u64 (uS u b i)),(16,.int .i64 (Int.ofNat m)),(17,.int .i64 (Int.ofNat i))] (hL [(3,.cells [.str s,.int .i64 (Int.ofNat a),.bool false])]) 4)),
  ([((decide (Int.ofNat i<Int.ofNat m)),true),((decide (Int.ofNat b.toNat>=(128:Int))),false),((decide (Int.ofNat i>(0:Int))),true),((Int.ofNat b.toNat==(0:Int)),false),((Int.ofNat i==(9:Int)),false),(false,false)],
   [kM (Int.ofNat a+Int.ofNat i) (a+i),((0:Int)<=Int.ofNat (a+i)/\(a+i)<s.length),kS s a i b,kM ((7:Int)*Int.ofNat i) (7*i),kR i u b,kM (Int.ofNat a+IntKind.i64.wrap (Int.ofNat i+(1:Int))) (a+(i+1))],
   .ret (.int .i64 (IntKind.i64.wrap (uS u b i))) (hL [(3,.cells [.str s,.int .i64 (Int.ofNat (a+(i+1))),.bool false])]) 4),
  ([((decide (Int.ofNat i<Int.ofNat m)),true),((decide (Int.ofNat b.toNat>=(128:Int))),false),((decide (Int.ofNat i>(0:Int))),false),(false,true),(true,true)],
   [kM (Int.ofNat a+Int.ofNat i) (a+i),((0:Int)<=Int.ofNat (a+i)/\(a+i)<s.length),kS s a i b,kM ((7:Int)*Int.ofNat i) (7*i),kR i u b],
   .to (.exit 0) (eG [(0,.ptr (some (3,0))),(3,.int .u64 (uS u b i)),(16,.int .i64 (Int.ofNat m)),(17,.int .i64 (Int.ofNat i))] (hL [(3,.cells [.str s,.int .i64 (Int.ofNat a),.bool false])]) 4)),
  ([((decide (Int.ofNat i<Int.ofNat m)),true),((decide (Int.ofNat b.toNat>=(128:Int))),false),((decide (Int.ofNat i>(0:Int))),false),(false,true),(true,false)],
   [kM (Int.ofNat a+Int.ofNat i) (a+i),((0:Int)<=Int.ofNat (a+i)/\(a+i)<s.length),kS s a i b,kM ((7:Int)*Int.ofNat i) (7*i),kR i u b,kM (Int.ofNat a+IntKind.i64.wrap (Int.ofNat i+(1:Int))) (a+(i+1))],
   .ret (.int .i64 (IntKind.i64.wrap (uS u b i))) (hL [(3,.cells [.str s,.int .i64 (Int.ofNat (a+(i+1))),.bool false])]) 4),
  ([((decide (Int.ofNat i<Int.ofNat m)),true),((decide (Int.ofNat b.toNat>=(128:Int))),false),((decide (Int.ofNat i>(0:Int))),false),(false,false),((Int.ofNat i==(9:Int)),true),((decide (Int.ofNat b.toNat>(1:Int))),true)],
   [kM (Int.ofNat a+Int.ofNat i) (a+i),((0:Int)<=Int.ofNat (a+i)/\(a+i)<s.length),kS s a i b,kM ((7:Int)*Int.ofNat i) (7*i),kR i u b],
   .to (.exit 0) (eG [(0,.ptr (some (3,0))),(3,.int .u64 (uS u b i)),(16,.int .i64 (Int.ofNat m)),(17,.int .i64 (Int.ofNat i))] (hL [(3,.cells [.str s,.int .i64 (Int.ofNat a),.bool false])]) 4)),
  ([((decide (Int.ofNat i<Int.ofNat m)),true),((decide (Int.ofNat b.toNat>=(128:Int))),false),((decide (Int.ofNat i>(0:Int))),false),(false,false),((Int.ofNat i==(9:Int)),true),((decide (Int.ofNat b.toNat>(1:Int))),false)],
   [kM (Int.ofNat a+Int.ofNat i) (a+i),((0:Int)<=Int.ofNat (a+i)/\(a+i)<s.length),kS s a i b,kM ((7:Int)*Int.ofNat i) (7*i),kR i u b,kM (Int.ofNat a+IntKind.i64.wrap (Int.ofNat i+(1:Int))) (a+(i+1))],
   .ret (.int .i64 (IntKind.i64.wrap (uS u b i))) (hL [(3,.cells [.str s,.int .i64 (Int.ofNat (a+(i+1))),.bool false])]) 4),
  ([((decide (Int.ofNat i<Int.ofNat m)),true),((decide (Int.ofNat b.toNat>=(128:Int))),false),((decide (Int.ofNat i>(0:Int))),false),(false,false),((Int.ofNat i==(9:Int)),false),(false,true)],
   [kM (Int.ofNat a+Int.ofNat i) (a+i),((0:Int)<=Int.ofNat (a+i)/\(a+i)<s.length),kS s a i b,kM ((7:Int)*Int.ofNat i) (7*i),kR i u b],
   .to (.exit 0) (eG [(0,.ptr (some (3,0))),(3,.int .u64 (uS u b i)),(16,.int .i64 (Int.ofNat m)),(17,.int .i64 (Int.ofNat i))] (hL [(3,.cells [.str s,.int .i64 (Int.ofNat a),.bool false])]) 4)),
  ([((decide (Int.ofNat i<Int.ofNat m)),true),((decide (Int.ofNat b.toNat>=(128:Int))),false),((decide (Int.ofNat i>(0:Int))),false),(false,false),((Int.ofNat i==(9:Int)),false),(false,false)],
   [kM (Int.ofNat a+Int.ofNat i) (a+i),((0:Int)<=Int.ofNat (a+i)/\(a+i)<s.length),kS s a i b,kM ((7:Int)*Int.ofNat i) (7*i),kR i u b,kM (Int.ofNat a+IntKind.i64.wrap (Int.ofNat i+(1:Int))) (a+(i+1))],
   .ret (.int .i64 (IntKind.i64.wrap (uS u b i))) (hL [(3,.cells [.str s,.int .i64 (Int.ofNat (a+(i+1))),.bool false])]) 4),
  ([((decide (Int.ofNat i<Int.ofNat m)),false)],
   [],
   .to (.exit 0) (eG [(0,.ptr (some (3,0))),(3,.int .u64 u),(16,.int .i64 (Int.ofNat m)),(17,.int .i64 (Int.ofNat i))] (hL [(3,.cells [.str s,.int .i64 (Int.ofNat a),.bool false])]) 4))]
 :=cP.of U U U
theorem aeo(u:Int):c5 (kW []) [] 4 Tryz.f110 [] (dY Uv) (Xx s a u m i) [([],
   [],
   .ret (.int .i64 0) (hL [(3,.cells [.str s,.int .i64 (Int.ofNat a),.bool true])]) 4)]
 :=cP.of U U U
end
theorem Uw:ZY:=by
 refine⟨dN,fun j hj=>?_,au rfl⟩;rcases j with _|_|_|j
 . exact⟨(0,0),by simp[jL],rfl⟩
 . exact⟨(1,1),by simp[jL],rfl⟩
 . exact⟨(2,2),by simp[jL],rfl⟩
 . have:gN=3:=rfl;omega
def N4(s:aa)(a:Nat):Nat->Nat->Int->Option (Int×Nat)
 |0,_,_=>none
 |k+1,i,u=>if 128<=(s.getD (a+i) 0).toNat then N4 s a k (i+1) (uS u (s.getD (a+i) 0) i)
  else if(0<i/\(s.getD (a+i) 0).toNat=0)\/(i=9/\1<(s.getD (a+i) 0).toNat)then none else some (IntKind.i64.wrap (uS u (s.getD (a+i) 0) i),i+1)
def wO(s:aa)(a:Nat):Nat:=min 10 (s.length-a)
section
variable(s:aa)(a:Nat)
def wP:Option (Int×Nat):=N4 s a (wO s a) 0 0
def OR:Int×Nat×Bool:=match wP s a with
 |some (v,k)=>(v,a+k,false)
 |none=>(0,a,true)
theorem lq{n:Nat}(h:n<=9000000000000000000):IntKind.i64.wrap (n:Int)=(n:Int):=fC be be
theorem lA:∀n:Nat,Int.ofNat n=(n:Int):=fun _=>rfl
abbrev Ux(v:V)(h:Tr O)(n:Nat):Prop:=v= .int .i64 (OR s a).1/\h=hP (GA s (OR s a).2.1 (OR s a).2.2)/\n=4
theorem akx(ha:a<=s.length)(hs:s.length<=1000000000):TG ak 4 Tryz.f110.ntmps N3 (cR [OQ] (hP (GA s a false)) 4) (fB ak 4 Tryz.f110 (Ux s a)):=by
 refine iJ  3 (XQ []) (ael s a) cQ ?_;refine cV U ?_;refine cV U ?_;obtain⟨L2,Ip⟩:=aem s a (wO s a);have hm:wO s a<=10/\wO s a<=s.length-a:=⟨Nat.min_le_left _ _,Nat.min_le_right _ _⟩;have Tq:(if IntKind.i64.wrap ((Int.ofNat s.length)-Int.ofNat a)<(10:Int)then IntKind.i64.wrap ((Int.ofNat s.length)-Int.ofNat a)else(10:Int))=Int.ofNat (wO s a):=by
  have hw:IntKind.i64.wrap ((Int.ofNat s.length)-Int.ofNat a)=((s.length-a:Nat):Int):=by
   have:(Int.ofNat s.length)-Int.ofNat a=((s.length-a:Nat):Int):=by rw[lA,lA];omega
   rw[this];exact lq be
  rw[hw,lA];unfold wO;split<;>omega
 refine gT (XQ []) mo nZ U Ip (dI ?_);refine⟨cq.2 ⟨by rw[Tq],cq.2 ⟨rfl,cQ⟩⟩,fun s' dX=>?_⟩;have Nq:∀u i,wP s a=none->TG ak 4 Tryz.f110.ntmps (dY Uv) (Xx s a u (wO s a) i) (fB ak 4 Tryz.f110 (Ux s a)):=by
  intro u i hn;refine fu (XQ []) (aeo s a (wO s a) i u) (dI ?_);refine⟨cQ,_,_,_,rfl,?_⟩;unfold Ux OR;rw[hn];exact⟨rfl,rfl,rfl⟩
 refine js (α:=Nat×Int) 0 (fun x=>wO s a-x.1) (fun x=>x.1<=wO s a/\wP s a=N4 s a (wO s a-x.1) x.1 x.2) (fun x=>Xx s a x.2 (wO s a) x.1) U U (0,0) ⟨aW _,rfl⟩ (.norm dX) ?_;rintro⟨i,u⟩ ⟨hi,hv⟩;simp only at hi hv ⊢;have aky:∀b:UInt8,b.toNat<256:=fun b=>b.toNat_lt;obtain⟨L3,xI⟩:=aen s a (wO s a) i u (s.getD (a+i) 0);refine gT (XQ []) mo (Ux s a) U xI fun g hg hc=>?_;have hA:∀k,i<wO s a->k<1000000000->(0:Int)<=Int.ofNat (a+i)/\(Int.ofNat (a+i)).toNat<s.length:=fun k h _=>by rw[lA];constructor<;>omega
 by_cases fE:i<wO s a
 case neg=>
  have hn:wP s a=none:=by rw[hv,show wO s a-i=0 by omega];rfl
  simp only[aE,aL,bt]at hg;have hf:decide (Int.ofNat i<Int.ofNat (wO s a))=false:=bC de;rcases hg with rfl|rfl|rfl|rfl|rfl|rfl|rfl|rfl|rfl|rfl|rfl|rfl|rfl|rfl
  all_goals first
   |(have:=hc _ (aP ..);simp only[hf]at this;cases this;done)
   |skip
  exact⟨cQ,fun s' dX=>by simp only[andThen,dV];exact c6 dX (Nq u i hn)⟩
 case pos=>
 have e1:kM (Int.ofNat a+Int.ofNat i) (a+i):=fA de be;have e2:=hA 0 fE dN;have e3:kS s a i (s.getD (a+i) 0):=rfl;have e4:kM ((7:Int)*Int.ofNat i) (7*i):=fA de be;have e5:kR i u (s.getD (a+i) 0):=rfl;have e6:kM (Int.ofNat i+(1:Int)) (i+1):=fA de be;have e7:kM (Int.ofNat a+IntKind.i64.wrap (Int.ofNat i+(1:Int))) (a+(i+1)):=by
  have:IntKind.i64.wrap (Int.ofNat i+(1:Int))=((i+1:Nat):Int):=by
   have:Int.ofNat i+1=((i+1:Nat):Int):=by rw[lA];omega
   rw[this];exact lq be
  exact fA (by rw[this,lA];omega) be
 have Iw:wP s a=if 128<=(s.getD (a+i) 0).toNat then N4 s a (wO s a-(i+1)) (i+1) (uS u (s.getD (a+i) 0) i)
  else if(0<i/\(s.getD (a+i) 0).toNat=0)\/(i=9/\1<(s.getD (a+i) 0).toNat)then none else some (IntKind.i64.wrap (uS u (s.getD (a+i) 0) i),i+1):=by
  rw[hv,show wO s a-i=(wO s a-(i+1))+1 by omega];rfl
 generalize s.getD (a+i) 0=b at *;have tU:128<=b.toNat->∀s',eU 4 [0,3,16,17] s'=some (Xx s a (uS u b i) (wO s a) (i+1))->∃x':Nat×Int,wO s a-x'.1<wO s a-i/\(x'.1<=wO s a/\wP s a=N4 s a (wO s a-x'.1) x'.1 x'.2)/\gy ak 4 Tryz.f110.ntmps s' (Xx s a x'.2 (wO s a) x'.1):=fun h s' dX=>
  ⟨(i+1,uS u b i),by simp only;omega,⟨by simp only;omega,by rw[Iw,aG h]⟩,.norm dX⟩
 have Q7:¬128<=b.toNat->((0<i/\b.toNat=0)\/(i=9/\1<b.toNat))->∀s',eU 4 [0,3,16,17] s'=some (Xx s a (uS u b i) (wO s a) i)->TG ak 4 Tryz.f110.ntmps (dY Uv) s' (fB ak 4 Tryz.f110 (Ux s a)):=fun h1 h2 s' dX=>
  c6 dX (Nq _ _ (by rw[Iw,aI h1,aG h2]))
 have KS:¬128<=b.toNat->¬((0<i/\b.toNat=0)\/(i=9/\1<b.toNat))->Ux s a (.int .i64 (IntKind.i64.wrap (uS u b i))) (hL [(3,.cells [.str s,.int .i64 (Int.ofNat (a+(i+1))),.bool false])]) 4:=fun h1 h2=>by
  unfold Ux OR;rw[Iw,aI h1,aI h2];exact⟨rfl,rfl,rfl⟩
 have q1:(decide (Int.ofNat b.toNat>=(128:Int)))=decide (128<=b.toNat):=by rw[lA];exact decide_eq_decide.2 be
 have q2:(decide (Int.ofNat i>(0:Int)))=decide (0<i):=by rw[lA];exact decide_eq_decide.2 be
 have q3:(Int.ofNat b.toNat==(0:Int))=decide (b.toNat=0):=by
  rw[lA];by_cases h:b.toNat=0
  . simp[h]
  . rw[bC h];simpa using h
 have q4:(Int.ofNat i==(9:Int))=decide (i=9):=by
  rw[lA];by_cases h:i=9
  . simp[h]
  . rw[bC h];exact beq_false_of_ne be
 have q5:(decide (Int.ofNat b.toNat>(1:Int)))=decide (1<b.toNat):=by rw[lA];exact decide_eq_decide.2 be
 simp only[aE,aL,bt]at hg;rw[q1,q2,q3,q4,q5]at hg;have A5:=fm e1 (fm e2 (fm e3 (fm e4 (e9 e5))));have A6:=fm e1 (fm e2 (fm e3 (fm e4 (fm e5 (e9 e6)))));have A7:=fm e1 (fm e2 (fm e3 (fm e4 (fm e5 (e9 e7)))));have Q7:¬128<=b.toNat->((0<i/\b.toNat=0)\/(i=9/\1<b.toNat))->∀(Q1:St->Prop) (s':St),eU 4 [0,3,16,17] s'=some (Xx s a (uS u b i) (wO s a) i)->andThen Q1 (mK 0 (andThen (fun s'=>TG ak 4 Tryz.f110.ntmps (dY (dh 3 N3)) s' (fB ak 4 Tryz.f110 (Ux s a))) (fB ak 4 Tryz.f110 (Ux s a)))) (.exit 0) s':=fun h1 h2 Q1 s' dX=>by
  simp only[andThen,dV];exact Q7 h1 h2 s' dX
 rcases hg with rfl|rfl|rfl|rfl|rfl|rfl|rfl|rfl|rfl|rfl|rfl|rfl|rfl|rfl
 all_goals
  simp only[aE,aL,bt,forall_eq_or_imp,forall_eq,bB,decide_eq_false_iff_not,reduceCtorEq,and_false,and_true]at hc
 all_goals first|exact hc.elim|skip
 . exact⟨A6,fun s' dX=>tU hc.2 s' dX⟩
 . exact⟨A5,fun s' dX=>Q7 hc.2.1 be _ s' dX⟩
 . exact⟨A5,fun s' dX=>Q7 hc.2.1 be _ s' dX⟩
 all_goals first
  |exact⟨A7,KS hc.2.1 be,fun s' dX=>dX⟩
  |exact⟨A5,fun s' dX=>Q7 hc.2.1 be _ s' dX⟩
  |exact absurd fE (by rw[lA,lA]at hc;omega)
end
section
variable(s:aa)(a:Nat)(n:Int)
def iu(f:Bool):Int×Nat×Bool:=if f then(0,a,true)else OR s a
theorem Z0(h:a<=s.length):(OR s a).2.1<=s.length/\a<=(OR s a).2.1:=by
 have key:∀k i u v n,i+k<=s.length-a->N4 s a k i u=some (v,n)->n<=s.length-a:=by
  intro k
  induction k with
  |zero=>intro i u v n _ e;cases e
  |succ k ih=>
   intro i u v n hi e;unfold N4 at e;split at e
   . exact ih _ _ _ _ be e
   . split at e
     . cases e
     . simp only[an,aB]at e;omega
 unfold OR;have hm:wO s a<=s.length-a:=Nat.min_le_right _ _;cases e:wP s a with
 |none=>exact⟨h,aA _⟩
 |some p=>
  have:=key _ _ _ _ _ be e;exact⟨by simp only;omega,by simp only;omega⟩
def spV:ag->ag->Option (ah×V×ag)
 | [.str s,.int .i64 x,.bool f],[]=>some ([0<=x/\x.toNat<=s.length,s.length<=1000000000],.int .i64 (iu s x.toNat f).1,GA s (iu s x.toNat f).2.1 (iu s x.toNat f).2.2)
 |_,_=>none
theorem Z1:jC ak 110 (D8 spV):=by
 refine Bx mo po Uw (au U) Tryz.func110 (code:=N3) U fun cs args A v uW e hA=>⟨?_,?_⟩
 all_goals
  unfold spV at e;split at e
  case h_2=>cases e
  rename_i s x f;simp only[an,aB]at e;obtain⟨rfl,rfl,rfl⟩:=e
 . kernel_rfl
 obtain⟨a1,a2⟩:=hA _ (aP ..);have a3:s.length<=1000000000:=hA (s.length<=1000000000) (by simp);obtain⟨a,rfl⟩:∃a:Nat,x=Int.ofNat a:=⟨x.toNat,(Int.toNat_of_nonneg a1).symm⟩;have a2:a<=s.length:=a2;cases f with
 |false=>exact akx s a a2 a3
 |true=>
  refine fu (XQ []) (aek s (Int.ofNat a)) (dI ?_);exact⟨cQ,_,_,_,rfl,rfl,rfl,rfl⟩
noncomputable abbrev W17:jJ:=kj 110 (D8 spV) W14
theorem Q8:fU ak W17:=fe Z1 KK
noncomputable abbrev akB:eX:=gC ak W17 H0 1000 40
noncomputable abbrev X17:CX ak:=CX.of mo po Q8 H0 1000 40
noncomputable abbrev Z2:Code:=dU Tryz.f111
theorem akC:c5 akB [] 4 Tryz.f111 [] (Z2) (cR [OQ,.int .i64 n] (hP (GA s a true)) 4) [([],
   [],
   .ret (.str []) (hL [(3,.cells [.str s,.int .i64 (Int.ofNat a),.bool true])]) 4)]
 :=cP.of U U U
abbrev Q9:Prop:=(0:Int)<=Int.ofNat (a+n.toNat)/\Int.ofNat (a+n.toNat)<=(Int.ofNat s.length)
theorem akD(l:Nat)(n:Int):c5 (kW [(105,[(14,.c9 (.int .i64 (Int.ofNat l)))])]) [(17,.split),(22,.split),(33,.c9 (.int .i64 (Int.ofNat (a+n.toNat)))),(45,.c9 (.int .i64 (Int.ofNat a)))] 4 Tryz.f111 [] (Z2) (cR [OQ,.int .i64 n] (hP (GA s a false)) 4) [([((decide (n<(0:Int))),true),(true,true)],
   [],
   .ret (.str []) (hL [(3,.cells [.str s,.int .i64 (Int.ofNat a),.bool true])]) 4),
  ([((decide (n<(0:Int))),true),(true,false)],
   [kM (Int.ofNat a+n) (a+n.toNat),kM (Int.ofNat (a+n.toNat)-n) a,Q9 s a n,((0:Int)<=Int.ofNat a/\Int.ofNat a<=(Int.ofNat (a+n.toNat)))],
   .ret (.str (List.drop a (List.take (a+n.toNat) s))) (hL [(3,.cells [.str s,.int .i64 (Int.ofNat (a+n.toNat)),.bool false])]) 4),
  ([((decide (n<(0:Int))),false),((decide (n>Int.ofNat l)),true)],
   [kM ((Int.ofNat s.length)-Int.ofNat a) l],
   .ret (.str []) (hL [(3,.cells [.str s,.int .i64 (Int.ofNat a),.bool true])]) 4),
  ([((decide (n<(0:Int))),false),((decide (n>Int.ofNat l)),false)],
   [kM ((Int.ofNat s.length)-Int.ofNat a) l,kM (Int.ofNat a+n) (a+n.toNat),kM (Int.ofNat (a+n.toNat)-n) a,Q9 s a n,((0:Int)<=Int.ofNat a/\Int.ofNat a<=(Int.ofNat (a+n.toNat)))],
   .ret (.str (List.drop a (List.take (a+n.toNat) s))) (hL [(3,.cells [.str s,.int .i64 (Int.ofNat (a+n.toNat)),.bool false])]) 4)]
 :=cP.of U U U
end
section
variable(s:aa)(a k:Nat)(f:Bool)(n:Int)(b:UInt8)(t:aa)(i:Nat)
def qI:aa×Nat×Bool:=if f=true\/n<0\/((s.length-a:Nat):Int)<n then([],a,true)else((s.drop a).take n.toNat,a+n.toNat,false)
theorem Z3(h:a<=s.length):(qI s a f n).2.1<=s.length:=by
 unfold qI;split
 . exact h
 . rename_i hn;simp only;omega
def spT:ag->ag->Option (ah×V×ag)
 | [.str s,.int .i64 x,.bool f],[.int .i64 n]=>some ([0<=x/\x.toNat<=s.length,s.length<=1000000000],.str (qI s x.toNat f n).1,GA s (qI s x.toNat f n).2.1 (qI s x.toNat f n).2.2)
 |_,_=>none
theorem Z4:jC ak 111 (D8 spT):=by
 refine Bx mo po Uw (au U) Tryz.func111 (code:=Z2) U fun cs args A v uW e hA=>⟨?_,?_⟩
 all_goals
  unfold spT at e;split at e
  case h_2=>cases e
  rename_i s x f n;simp only[an,aB]at e;obtain⟨rfl,rfl,rfl⟩:=e
 . kernel_rfl
 obtain⟨a1,a2⟩:=hA _ (aP ..);have a3:s.length<=1000000000:=hA (s.length<=1000000000) (by simp);obtain⟨a,rfl⟩:∃a:Nat,x=Int.ofNat a:=⟨x.toNat,(Int.toNat_of_nonneg a1).symm⟩;have a2:a<=s.length:=a2;rw[show(Int.ofNat a).toNat=a from rfl];cases f with
 |true=>
  refine fu X17 (akC s a n) (dI ?_);exact⟨cQ,_,_,_,rfl,rfl,rfl,rfl⟩
 |false=>
  obtain⟨L,hr⟩:=akD s a (s.length-a) n;have hl:kM ((Int.ofNat s.length)-Int.ofNat a) (s.length-a):=fA de be;refine ia (XQ [(105,[(14,.c9 (.int .i64 (Int.ofNat (s.length-a))))])]) mo _ U hr fun g hg hc=>?_;simp only[aE,aL,bt]at hg;rcases hg with rfl|rfl|rfl|rfl
  all_goals
   simp only[aE,aL,bt,forall_eq_or_imp,forall_eq,bB,decide_eq_false_iff_not,reduceCtorEq,and_false,and_true,lA]at hc
  . refine⟨cQ,_,_,_,rfl,?_⟩;unfold qI;rw[aG (.inr (.inl hc))];exact⟨rfl,rfl,rfl⟩
  . refine⟨e9 hl,_,_,_,rfl,?_⟩;unfold qI;rw[aG (.inr (.inr be))];exact⟨rfl,rfl,rfl⟩
  . obtain⟨h1,h2⟩:=hc;have hn:((n.toNat:Nat):Int)=n:=Int.toNat_of_nonneg be;refine⟨fm hl (fm (fA de be) (fm (fA de be) (fm ⟨az _,de⟩ (e9 ⟨az _,de⟩)))),_,_,_,rfl,?_⟩;unfold qI;rw[aI (by simp only[aO,false_or];omega)];rw[List.drop_take,Nat.add_sub_cancel_left];exact⟨rfl,rfl,rfl⟩
noncomputable abbrev W18:jJ:=kj 111 (D8 spT) W17
theorem KT:fU ak W18:=fe Z4 Q8
noncomputable abbrev Uy:eX:=gC ak W18 H0 1000 40
noncomputable abbrev X18:CX ak:=CX.of mo po KT H0 1000 40
noncomputable abbrev aeq:Code:=dU Tryz.f106
noncomputable abbrev Uz:Code:=dU Tryz.f107
noncomputable abbrev aer:Code:=dh 2 Uz
noncomputable abbrev aes:Code:=dO aer
def sRN:St:=eG [(0,OQ),(5,.int .i64 n),(12,.di (some (4,0)) t.length t.length 1),(13,.int .i64 (Int.ofNat t.length)),(14,.int .i64 (Int.ofNat i))] (hL [(3,.cells (GA s a f)),(4,.own .u8 (dP t))]) 5
noncomputable abbrev aet:eX:=gC ak W18 (sg [(85,[(5,.c9 (.int .i64 (Int.ofNat k)))])]) 1000 40
noncomputable abbrev akF:CX ak:=CX.of mo po KT (sg [(85,[(5,.c9 (.int .i64 (Int.ofNat k)))])]) 1000 40
def yZ:Int:=IntKind.i64.wrap (Int.ofNat (BitVec.ofInt 64 (IntKind.i64.wrap (n*(256:Int)))|||BitVec.ofInt 64 (IntKind.i64.wrap (Int.ofNat b.toNat))).toNat)
abbrev Ra:Prop:=(0:Int)<=Int.ofNat (iu s a f).2.1/\(Int.ofNat (iu s a f).2.1).toNat<=s.length
theorem akG:c5 Uy [(21,.split)] 4 Tryz.f106 [] (aeq) (cR [OQ] (hP (GA s a f)) 4) [([(((qI s (Int.ofNat (iu s a f).2.1).toNat (iu s a f).2.2 (iu s a f).1).2.2),true)],
   [((0:Int)<=Int.ofNat a/\a<=s.length),(s.length<=1000000000),Ra s a f,(s.length<=1000000000)],
   .ret (.str ((qI s (Int.ofNat (iu s a f).2.1).toNat (iu s a f).2.2 (iu s a f).1).1)) (hL [(3,.cells [.str s,.int .i64 (Int.ofNat a),.bool ((qI s (Int.ofNat (iu s a f).2.1).toNat (iu s a f).2.2 (iu s a f).1).2.2)])]) 4),
  ([(((qI s (Int.ofNat (iu s a f).2.1).toNat (iu s a f).2.2 (iu s a f).1).2.2),false)],
   [((0:Int)<=Int.ofNat a/\a<=s.length),(s.length<=1000000000),Ra s a f,(s.length<=1000000000)],
   .ret (.str ((qI s (Int.ofNat (iu s a f).2.1).toNat (iu s a f).2.2 (iu s a f).1).1)) (hL [(3,.cells [.str s,.int .i64 (Int.ofNat (qI s (Int.ofNat (iu s a f).2.1).toNat (iu s a f).2.2 (iu s a f).1).2.1),.bool ((qI s (Int.ofNat (iu s a f).2.1).toNat (iu s a f).2.2 (iu s a f).1).2.2)])]) 4)]
 :=cP.of U U U
theorem akH(k:Nat):c5 Uy [] 4 Tryz.f107 [0,1,5] (eR 2 Uz) (cR [OQ,.int .i64 (Int.ofNat k)] (hP (GA s a f)) 4) [([],
   [],
   .to .normal (eG [(0,.ptr (some (3,0))),(1,.int .i64 (Int.ofNat k)),(5,.int .i64 0)] (hL [(3,.cells [.str s,.int .i64 (Int.ofNat a),.bool f])]) 4))]
 :=cP.of U U U
theorem akI(k:Nat):c5 (aet k) [(14,.c9 (.int .i64 (Int.ofNat 0)))] 4 Tryz.f107 [0,5,12,13,14] (dO aes) (eG [(0,OQ),(1,.int .i64 (Int.ofNat k)),(5,.int .i64 0)] (hP (GA s a f)) 4) [([],
   [(V.int aj (if(if(8:Int)<Int.ofNat k then(8:Int)else Int.ofNat k)>(0:Int)then if(8:Int)<Int.ofNat k then(8:Int)else Int.ofNat k else(0:Int))=V.int aj (Int.ofNat k)),((0:Int)<=Int.ofNat a/\a<=s.length),(s.length<=1000000000),(V.int aj (0:Int)=V.int aj (0:Int))],
   .to .normal (eG [(0,.ptr (some (3,0))),(5,.int .i64 0),(12,.di (some (4,0)) ((qI s a f (Int.ofNat k)).1.length) ((qI s a f (Int.ofNat k)).1.length) 1),(13,.int .i64 ((Int.ofNat (qI s a f (Int.ofNat k)).1.length))),(14,.int .i64 0)] (hL [(3,.cells [.str s,.int .i64 (Int.ofNat (qI s a f (Int.ofNat k)).2.1),.bool ((qI s a f (Int.ofNat k)).2.2)]),(4,.own .u8 (dP (qI s a f (Int.ofNat k)).1))]) 5))]
 :=cP.of U U U
theorem aeu(b:UInt8):c5 Uy [(15,.split),(17,.c9 (.int .u8 (Int.ofNat b.toNat))),(22,.c9 (.int .i64 (yZ n b))),(23,.c9 (.int .i64 (Int.ofNat (i+1))))] 4 Tryz.f107 [0,5,12,13,14] (dr (dr (dY aes))) (sRN s a f n t i) [([((decide (Int.ofNat i<Int.ofNat t.length)),true)],
   [((0:Int)<=Int.ofNat i/\Int.ofNat i<(Int.ofNat t.length)),(0+i*1<(dP t).length),(V.int IntKind.u8 ((dP t).getD (0+i*1) (0:Int))=V.int IntKind.u8 (Int.ofNat b.toNat)),(V.int aj (IntKind.i64.wrap (Int.ofNat (BitVec.ofInt 64 (IntKind.i64.wrap (n*(256:Int)))|||BitVec.ofInt 64 (IntKind.i64.wrap (Int.ofNat b.toNat))).toNat))=V.int aj (yZ n b)),kM (Int.ofNat i+(1:Int)) (i+1)],
   .to .normal (eG [(0,.ptr (some (3,0))),(5,.int .i64 (yZ n b)),(12,.di (some (4,0)) (t.length) (t.length) 1),(13,.int .i64 (Int.ofNat t.length)),(14,.int .i64 (Int.ofNat (i+1)))] (hL [(3,.cells [.str s,.int .i64 (Int.ofNat a),.bool f]),(4,.own .u8 (dP t))]) 5)),
  ([((decide (Int.ofNat i<Int.ofNat t.length)),false)],
   [],
   .to (.exit 0) (eG [(0,.ptr (some (3,0))),(5,.int .i64 n),(12,.di (some (4,0)) (t.length) (t.length) 1),(13,.int .i64 (Int.ofNat t.length)),(14,.int .i64 (Int.ofNat i))] (hL [(3,.cells [.str s,.int .i64 (Int.ofNat a),.bool f]),(4,.own .u8 (dP t))]) 5))]
 :=cP.of U U U
theorem akJ:c5 Uy [] 4 Tryz.f107 [] (dY aer) (sRN s a f n t i) [([],
   [],
   .ret (.int .i64 n) (hL [(3,.cells [.str s,.int .i64 (Int.ofNat a),.bool f])]) 4)]
 :=cP.of U U U
end
section
variable(s:aa)(a:Nat)(f:Bool)(k:Nat)
theorem Mj(h:a<=s.length):(iu s a f).2.1<=s.length:=by
 unfold iu;split
 . exact h
 . exact(Z0 s a h).1
def gV:aa×Nat×Bool:=
 ((qI s (iu s a f).2.1 (iu s a f).2.2 (iu s a f).1).1,if(qI s (iu s a f).2.1 (iu s a f).2.2 (iu s a f).1).2.2 then a else(qI s (iu s a f).2.1 (iu s a f).2.2 (iu s a f).1).2.1,(qI s (iu s a f).2.1 (iu s a f).2.2 (iu s a f).1).2.2)
theorem UA(h:a<=s.length):(gV s a f).2.1<=s.length:=by
 unfold gV;simp only;split
 . exact h
 . exact Z3 _ _ _ _ (Mj s a f h)
def spX:ag->ag->Option (ah×V×ag)
 | [.str s,.int .i64 x,.bool f],[]=>some ([0<=x/\x.toNat<=s.length,s.length<=1000000000],.str (gV s x.toNat f).1,GA s (gV s x.toNat f).2.1 (gV s x.toNat f).2.2)
 |_,_=>none
theorem Z5:jC ak 106 (D8 spX):=by
 refine Bx mo po Uw (au U) Tryz.func106 (code:=aeq) U fun cs args A v uW e hA=>⟨?_,?_⟩
 all_goals
  unfold spX at e;split at e
  case h_2=>cases e
  rename_i s x f;simp only[an,aB]at e;obtain⟨rfl,rfl,rfl⟩:=e
 . kernel_rfl
 obtain⟨a1,a2⟩:=hA _ (aP ..);have a3:s.length<=1000000000:=hA (s.length<=1000000000) (by simp);obtain⟨a,rfl⟩:∃a:Nat,x=Int.ofNat a:=⟨x.toNat,(Int.toNat_of_nonneg a1).symm⟩;have a2:a<=s.length:=a2;rw[show(Int.ofNat a).toNat=a from rfl];obtain⟨L,hr⟩:=akG s a f;have h1:=Mj s a f a2;refine ia X18 mo _ U hr fun g hg hc=>?_;simp only[aE,aL,bt]at hg;have A:∀p∈[((0:Int)<=Int.ofNat a/\a<=s.length),(s.length<=1000000000),((0:Int)<=Int.ofNat (iu s a f).2.1/\(Int.ofNat (iu s a f).2.1).toNat<=s.length),(s.length<=1000000000)],p:=
  fm ⟨az _,a2⟩ (fm a3 (fm ⟨az _,h1⟩ (e9 a3)))
 rcases hg with rfl|rfl
 all_goals
  have q:=hc _ (aq.2 rfl);refine⟨A,_,_,_,rfl,rfl,?_,rfl⟩;have q:(gV s a f).2.2=_:=q;have q':(gV s a f).2.1=if(gV s a f).2.2 then a else(qI s (iu s a f).2.1 (iu s a f).2.2 (iu s a f).1).2.1:=rfl
  rw[q]at q';rw[q'];rfl
def xX:Int×Nat×Bool:=((qI s a f (Int.ofNat k)).1.foldl yZ 0,(qI s a f (Int.ofNat k)).2.1,(qI s a f (Int.ofNat k)).2.2)
theorem KU{t:aa}{i:Nat}{b:UInt8}(h:t[i]? =some b):(dP t).getD (0+i*1) 0=Int.ofNat b.toNat:=by
 unfold dP;rw[aM,bH,bj,br,h];rfl
theorem akL(f:Bool)(ha:a<=s.length)(hs:s.length<=1000000000)(hk:k<=8):TG ak 4 Tryz.f107.ntmps Uz (cR [OQ,.int .i64 (Int.ofNat k)] (hP (GA s a f)) 4)
  (fB ak 4 Tryz.f107 fun v h n=>v= .int .i64 (xX s a f k).1/\h=hP (GA s (xX s a f k).2.1 (xX s a f k).2.2)/\n=4):=by
 refine iJ  2 X18 (akH s a f k) cQ ?_;refine cV U ?_;refine cV U ?_;refine fV (akF k) (akI s a f k) (dI ?_);refine⟨fm (aN (V.int aj) ?_) (fm ⟨az _,ha⟩ (fm hs (e9 rfl))),fun s' dX=>?_⟩
 . simp only[lA];split<;>split<;>omega
 have iQ:(qI s a f (Int.ofNat k)).1.length<=8:=by
  unfold qI;split
  . simp
  . simp only[bg,lA,Int.toNat_natCast];omega
 unfold xX;generalize hT:qI s a f (Int.ofNat k)=T at dX iQ ⊢;obtain⟨t,a1,f1⟩:=T;have dX:eU 4 [0,5,12,13,14] s'=some (sRN s a1 f1 ((t.take 0).foldl yZ 0) t 0):=dX;simp only at iQ ⊢;refine jv 0 t.length (fun i=>sRN s a1 f1 ((t.take i).foldl yZ 0) t i) U U (.norm dX) (fun i hi=>?_) ?_
 . obtain⟨b,hb⟩:∃b,t[i]? =some b:=⟨_,ay hi⟩;refine fV X18 (aeu s a1 f1 ((t.take i).foldl yZ 0) t i b) fun g hg hc=>?_;simp only[aE,aL,bt]at hg;rcases hg with rfl|rfl
   . refine⟨fm ⟨az _,de⟩ (fm (by simp only[dP,aY];omega) (fm (aN _ (KU hb)) (fm rfl (e9 (fA de be))))),fun s' dX=>.norm (live:=[0,5,12,13,14]) ?_⟩;show _=some (sRN s a1 f1 ((t.take (i+1)).foldl yZ 0) t (i+1));rw[bI,hb,cB,List.foldl_append];exact dX
   . exact absurd (aK (hc _ (aq.2 rfl))) de
 . refine fV X18 (aeu s a1 f1 ((t.take t.length).foldl yZ 0) t t.length 0) fun g hg hc=>?_;simp only[aE,aL,bt]at hg;rcases hg with rfl|rfl
   . exact absurd (aH (hc _ (aq.2 rfl))) be
   . refine⟨cQ,fun s' dX=>⟨by simp,?_⟩⟩;rw[dV];simp only[andThen];have dX:eU 4 [0,5,12,13,14] s'=some (sRN s a1 f1 ((t.take t.length).foldl yZ 0) t t.length):=dX;refine c6 dX ?_;refine fu X18 (akJ s a1 f1 ((t.take t.length).foldl yZ 0) t t.length) (dI ?_);exact⟨cQ,_,_,_,rfl,by rw[aT],rfl,rfl⟩
end
def spN:ag->ag->Option (ah×V×ag)
 | [.str s,.int .i64 x,.bool f],[.int .i64 k]=>some ([0<=x/\x.toNat<=s.length,s.length<=1000000000,0<=k/\k.toNat<=8],.int .i64 (xX s x.toNat f k.toNat).1,GA s (xX s x.toNat f k.toNat).2.1 (xX s x.toNat f k.toNat).2.2)
 |_,_=>none
theorem Z6:jC ak 107 (D8 spN):=by
 refine Bx mo po Uw (au U) Tryz.func107 (code:=Uz) U fun cs args A v uW e hA=>⟨?_,?_⟩
 all_goals
  unfold spN at e;split at e
  case h_2=>cases e
  rename_i s x f k;simp only[an,aB]at e;obtain⟨rfl,rfl,rfl⟩:=e
 . kernel_rfl
 obtain⟨a1,a2⟩:=hA _ (aP ..);have a3:s.length<=1000000000:=hA (s.length<=1000000000) (by simp);obtain⟨a4,a5⟩:0<=k/\k.toNat<=8:=hA (0<=k/\k.toNat<=8) (by simp);obtain⟨a,rfl⟩:∃a:Nat,x=Int.ofNat a:=⟨x.toNat,(Int.toNat_of_nonneg a1).symm⟩;obtain⟨k,rfl⟩:∃a:Nat,k=Int.ofNat a:=⟨k.toNat,(Int.toNat_of_nonneg a4).symm⟩;exact akL s a k f a2 a3 a5
noncomputable abbrev W19:jJ:=kj 106 (D8 spX) (kj 107 (D8 spN) W18)
theorem GB:fU ak W19:=fe Z5 (fe Z6 KT)
noncomputable abbrev lQ:eX:=gC ak W19 H0 1000 40
noncomputable abbrev uc:CX ak:=CX.of mo po GB H0 1000 40
theorem aew:∀x:Nat,x<256->x|||128=x%128+128:=by decide
section
variable(u n:Nat){s:aa}{q:Nat}{b:UInt8}{r:aa}
theorem u8w:IntKind.u8.wrap (n:Int)=((n%256:Nat):Int):=by
 simp only[IntKind.wrap,IntKind.bits,IntKind.signed];simp
theorem UB:IntKind.u64.wrap (n:Int)=((n%18446744073709551616:Nat):Int):=by
 simp only[IntKind.wrap,IntKind.bits,IntKind.signed];simp
theorem Mk:Tb (u:Int)=((u%128+128:Nat):Int):=by
 unfold Tb;rw[u8w];have h1:(BitVec.ofInt 8 ((u%256:Nat):Int)|||BitVec.ofInt 8 (128:Int)).toNat=u%128+128:=by
  rw[BitVec.toNat_or];have e1:(BitVec.ofInt 8 ((u%256:Nat):Int)).toNat=u%256:=by
   rw[BitVec.ofInt_natCast,BitVec.toNat_ofNat];omega
  have e2:(BitVec.ofInt 8 (128:Int)).toNat=128:=rfl;rw[e1,e2,aew _ be];omega
 rw[h1,lA,u8w];congr 1;omega
theorem Ml(h:u<128):Zl (u:Int)=(u:Int):=by
 unfold Zl;rw[u8w];congr 1;omega
theorem C0:(u:Int).fdiv 128=((u/128:Nat):Int):=by
 rw[cJ _ dN];rfl
theorem Rb{n:Nat}(h:n<256):(UInt8.ofNat n).toNat=n:=by
 rw[UInt8.toNat_ofNat'];omega
theorem Rc(gl:Nat)(b:UInt8)(i:Nat)(ha:gl<2^(7*i))(hi:i<=7):uS (gl:Int) b i=((gl+b.toNat%128*2^(7*i):Nat):Int):=by
 have hb:b.toNat<256:=b.toNat_lt;unfold uS;have e1:(BitVec.ofInt 8 (Int.ofNat b.toNat)&&&BitVec.ofInt 8 (127:Int)).toNat=b.toNat%128:=by
  rw[BitVec.toNat_and];have e2:(BitVec.ofInt 8 (127:Int)).toNat=2^7-1:=rfl;have e3:(BitVec.ofInt 8 (Int.ofNat b.toNat)).toNat=b.toNat:=by
   rw[lA,BitVec.ofInt_natCast,BitVec.toNat_ofNat];omega
  rw[e2,e3,Nat.and_two_pow_sub_one_eq_mod]
 have hp:2^(7*i)<=2^49:=Nat.pow_le_pow_right dN be;have arL:b.toNat%128*2^(7*i)<128*2^49:=by
  have:b.toNat%128<128:=by omega
  calc b.toNat%128*2^(7*i)<=127*2^(7*i):=cn _ be
   _<=127*2^49:=Nat.mul_le_mul_left _ hp
   _<128*2^49:=by decide
 rw[e1];simp only[lA];rw[u8w,UB (b.toNat%128%256),Int.toNat_natCast,show min (7*i) 64=7*i by omega];have e4:(((b.toNat%128%256%18446744073709551616:Nat):Int)*(2:Int)^(7*i))=((b.toNat%128*2^(7*i):Nat):Int):=by
  rw[show b.toNat%128%256%18446744073709551616=b.toNat%128 by omega];simp[Int.natCast_mul,Int.natCast_pow]
 rw[e4,UB (b.toNat%128*2^(7*i)),BitVec.toNat_or,BitVec.ofInt_natCast,BitVec.ofInt_natCast,BitVec.toNat_ofNat,BitVec.toNat_ofNat];have h64:(2:Nat)^64=18446744073709551616:=by decide
 have h49:(128:Nat)*2^49<18446744073709551616:=by decide
 have arM:(2:Nat)^49<18446744073709551616:=by decide
 rw[h64,Nat.mod_mod,Nat.mod_eq_of_lt (a:=gl) be,Nat.mod_eq_of_lt (a:=b.toNat%128*2^(7*i)) be];have h5:gl|||b.toNat%128*2^(7*i)=gl+b.toNat%128*2^(7*i):=by
  rw[Nat.or_comm,Nat.mul_comm,<- Nat.two_pow_add_eq_or_of_lt ha,Nat.add_comm]
 rw[h5,UB];have:gl+b.toNat%128*2^(7*i)<18446744073709551616:=by
  have h6:gl<2^49:=by omega
  have h7:(128:Nat)*2^49+2^49<18446744073709551616:=by decide
  omega
 rw[Nat.mod_eq_of_lt this]
theorem y4(h:s.drop q=b::r):s.getD q 0=b:=by
 have:(s.drop q)[0]? =some b:=by rw[h];rfl
 rw[bG,Nat.add_zero]at this;rw[aM,this];rfl
theorem N5(h:s.drop q=b::r):s.drop (q+1)=r:=by
 rw[<- List.drop_drop,h];rfl
theorem u8I{n:Nat}(h:n<256):(UInt8.ofNat (n:Int).toNat).toNat=n:=by rw[Int.toNat_natCast,Rb h]
end
theorem IG:∀(k m i gl u:Nat) (s:aa) (a:Nat) (r:aa),u<128^(k+1)->i+k<=7->gl<2^(7*i)->(0<i->0<u)->s.drop (a+i)=eM (oc k (u:Int))++r->(oc k (u:Int)).length<=m->
  N4 s a m i (gl:Int)=some (((gl+u*2^(7*i):Nat):Int),i+(oc k (u:Int)).length)
 |k,0,_,_,u,_,_,_,_,_,_,_,_,hm=>by have:=(CO k (u:Int)).1;omega
 |k,m+1,i,gl,u,s,a,r,hu,hi,ha,h0,hs,hm=>by
  have last:u<128->s.drop (a+i)=UInt8.ofNat (u:Int).toNat::r->N4 s a (m+1) i (gl:Int)=some (((gl+u*2^(7*i):Nat):Int),i+1):=by
   intro fE hd;unfold N4;rw[y4 hd,u8I be,aI be,aI be,Rc _ _ _ ha be,u8I be,show u%128=u by omega];have hp:2^(7*i)<=2^49:=Nat.pow_le_pow_right dN be;have hm2:u*2^(7*i)<=127*2^49:=bU (cn _ be) (Nat.mul_le_mul_left _ hp);have h9:(127:Nat)*2^49+2^49<=9000000000000000000:=by decide
   rw[lq be]
  cases k with
  |zero=>
   simp only[oc]at hs ⊢;rw[Ml u be]at hs;exact last be hs
  |succ k=>
   unfold oc at hs hm ⊢;by_cases h128:(128:Int)<=(u:Int)
   . rw[aG h128]at hs hm ⊢;rw[Mk,C0]at hs;rw[C0]at hm ⊢;have hs:s.drop (a+i)=UInt8.ofNat ((u%128+128:Nat):Int).toNat::(eM (oc k ((u/128:Nat):Int))++r):=hs;have hb:=u8I (n:=u%128+128) be;unfold N4;rw[y4 hs,hb,aG be,Rc _ _ _ ha be,hb];have e1:(u%128+128)%128=u%128:=by omega
     rw[e1];have aez:(2:Nat)^(7*(i+1))=128*2^(7*i):=by rw[show 7*(i+1)=7+7*i by omega,Nat.pow_add]
     have fE:u%128*2^(7*i)<=127*2^(7*i):=cn _ be;have hu2:u/128<128^(k+1):=by
      rw[Nat.pow_succ]at hu;exact Nat.div_lt_of_lt_mul (by rw[Nat.mul_comm];exact hu)
     have ih:=IG k m (i+1) (gl+u%128*2^(7*i)) (u/128) s a r hu2 be (by rw[aez];omega) be (N5 hs) (by simpa using hm);rw[ih,aez];have e2:gl+u%128*2^(7*i)+u/128*(128*2^(7*i))=gl+u*2^(7*i):=by
      rw[cA,<- Nat.mul_assoc,<- cM];congr 2;omega
     rw[e2,aS,cA,Nat.add_comm 1]
   . rw[aI h128]at hs hm ⊢;rw[Ml u be]at hs;exact last be hs
section
variable{s:aa}(x:Nat){a:Nat}{t r:aa}
theorem uE(l:List Int):(eM l).length=l.length:=by unfold eM;rw[aY]
theorem GC{n:Nat}{r:aa}(hn:n<34359738368)(h:s.drop a=jj (Int.ofNat n)++r):OR s a=((n:Int),a+(jj (Int.ofNat n)).length,false):=by
 have hl:(jj (Int.ofNat n)).length=(oc 4 (n:Int)).length:=uE _;have h5:=l8 (Int.ofNat n);have hd:s.length-a=(jj (Int.ofNat n)).length+r.length:=by rw[<- bX,h,ax]
 have:=IG 4 (wO s a) 0 0 n s a r be be dN be h (by unfold wO;omega);simp only[bH,Nat.mul_zero,Nat.pow_zero,bj]at this;unfold OR wP;rw[show((0:Nat):Int)=0 from rfl]at this;rw[this,hl]
theorem GD(h:s.drop a=t++r):qI s a false (t.length:Int)=(t,a+t.length,false):=by
 have hd:s.length-a=t.length+r.length:=by rw[<- bX,h,ax]
 unfold qI;rw[aI (by simp only[aO,false_or];omega),h,Int.toNat_natCast,List.take_left'];rfl
theorem y5(ht:t.length<34359738368)(h:s.drop a=jl t++r):gV s a false=(t,a+(jl t).length,false):=by
 have h1:s.drop a=jj (Int.ofNat t.length)++(t++r):=by rw[h];unfold jl;rw[bz]
 have e1:=GC ht h1;have h2:s.drop (a+(jj (Int.ofNat t.length)).length)=t++r:=by rw[<- List.drop_drop,h1,List.drop_left'];rfl
 have e2:=GD h2;unfold gV iu;simp only[aO,cF,e1,e2];unfold jl;rw[ax,cA]
theorem vl(n:Nat)(b:UInt8)(h:n<1099511627776):yZ (n:Int) b=((n*256+b.toNat:Nat):Int):=by
 have hb:b.toNat<256:=b.toNat_lt;unfold yZ;have e1:(n:Int)*(256:Int)=((n*256:Nat):Int):=by simp
 rw[e1,lq be,lA b.toNat,lq be,BitVec.toNat_or,BitVec.ofInt_natCast,BitVec.ofInt_natCast,BitVec.toNat_ofNat,BitVec.toNat_ofNat];have h64:(2:Nat)^64=18446744073709551616:=by decide
 rw[h64,Nat.mod_eq_of_lt (a:=n*256) be,Nat.mod_eq_of_lt (a:=b.toNat) be];have h5:n*256|||b.toNat=n*256+b.toNat:=by
  rw[Nat.mul_comm n 256,show(256:Nat)=2^8 by decide,<- Nat.two_pow_add_eq_or_of_lt be]
 rw[h5,lA,lq be]
theorem C2(d:Nat)(hx:x<18446744073709551616):(pB (x:Int) (d:Int)).toNat=x/d%256:=by
 unfold pB;rw[UB,Nat.mod_eq_of_lt hx,cJ _ (az _)];rw[show(x:Int)/(d:Int)=((x/d:Nat):Int)from rfl,u8w,u8I be]
theorem N6(hx:x<4294967296):(dK (x:Int)).foldl yZ 0=(x:Int):=by
 unfold dK;simp only[List.foldl_cons,List.foldl_nil];have c1:=C2 x 16777216 be;have c2:=C2 x 65536 be;have c3:=C2 x 256 be;have c4:=C2 x 1 be;have e1:=vl 0 (pB (x:Int) 16777216) be;rw[show((0:Nat):Int)=0 from rfl]at e1;rw[e1,show(pB (x:Int) 16777216).toNat=_ from c1];rw[vl _ _ be,show(pB (x:Int) 65536).toNat=_ from c2];rw[vl _ _ be,show(pB (x:Int) 256).toNat=_ from c3];rw[vl _ _ be,show(pB (x:Int) 1).toNat=_ from c4];congr 1;omega
theorem UC(s:aa):∃c:Nat,c<4294967296/\qB s=(c:Int):=by
 unfold qB nj w32;refine⟨(BitVec.ofInt 32 4294967295^^^BitVec.ofInt 32 (CQ (w256 yV) s s.length)).toNat,BitVec.isLt _,?_⟩;have h:=(BitVec.ofInt 32 4294967295^^^BitVec.ofInt 32 (CQ (w256 yV) s s.length)).isLt;generalize (BitVec.ofInt 32 4294967295^^^BitVec.ofInt 32 (CQ (w256 yV) s s.length)).toNat=c at h;simp only[IntKind.wrap,IntKind.bits,IntKind.signed];simp;omega
theorem Re{b:aa}{a:Nat}{r:aa}(h:s.drop a=dK (IntKind.i64.wrap (qB b))++r):xX s a false 4=(IntKind.i64.wrap (qB b),a+4,false):=by
 obtain⟨c,hc,e⟩:=UC b;have e1:=GD h;have hl:(dK (IntKind.i64.wrap (qB b))).length=4:=rfl;rw[hl]at e1;unfold xX;rw[show(Int.ofNat 4)=((4:Nat):Int)from rfl,e1];simp only;rw[e,lq be,N6 c hc]
theorem Mm{k:Nat}{r:aa}(hk:k<256)(h:s.drop a=oZ (k:Int)++r):xX s a false 1=((k:Int),a+1,false):=by
 have e1:=GD h;have hl:(oZ (k:Int)).length=1:=rfl;rw[hl]at e1;unfold xX;rw[show(Int.ofNat 1)=((1:Nat):Int)from rfl,e1];have e2:=vl 0 (pB (k:Int) 1) be;rw[show((0:Nat):Int)=0 from rfl]at e2;have c1:=C2 k 1 be;unfold oZ;simp only[List.foldl_cons,List.foldl_nil,e2];rw[show(pB (k:Int) 1).toNat=_ from c1];congr 2;omega
end
abbrev P3:V:=.ptr (some (3,0))
abbrev eH:V:=.di none 0 0 0
def hJ(d:aa)(p:jm):Tr O:=(eu p).set 7 (some (.cells [.str d]))
def iW(i:Nat):V:=.int .i64 (Int.ofNat i)
theorem pP{x:Int}{n:Nat}(h:x=(n:Int))(hb:n<1000000000000):V.int aj (IntKind.i64.wrap x)=iW n:=fA h hb
theorem Xy:16<Tryz.prog.funcs.size:=au U
theorem aeA:17<Tryz.prog.funcs.size:=au U
theorem aeB:18<Tryz.prog.funcs.size:=au U
noncomputable abbrev Z7:Code:=dO (dh 2 IB)
noncomputable abbrev Z8:Code:=dY (dh 2 IB)
noncomputable abbrev Z9:Code:=WT (dY KO)
section
variable(cN cO:Nat)(b:aa)(fl nx lf:Int)(es rt:ae)
section
variable(s:aa)(a:Nat)(f:Bool)
def KV(QX:af):Tr O:=hL (eN (pS cN cO b fl nx lf es rt)++(7,.cells (GA s a f))::QX)
def sA0(d:aa)(n i:Nat):St:=eG [(0,P3),(4,.ptr (some (7,0))),(5,.str d),(6,eH),(17,.int .i64 (Int.ofNat n)),(18,.int .i64 (Int.ofNat i))] (KV cN cO b fl nx lf es rt s a f []) 8
def sA1(d:aa)(n i k:Nat)(cs:ai):St:=eG [(0,P3),(4,.ptr (some (7,0))),(5,.str d),(6,.di (some (8,0)) k k 1),(17,.int .i64 (Int.ofNat n)),(18,.int .i64 (Int.ofNat i))] (KV cN cO b fl nx lf es rt s a f [(8,.deep cs)]) 9
end
end
section
variable(cN cO:Nat)(b:aa)(fl nx lf:Int)(es rt:ae)(s:aa)(a:Nat)(f:Bool)
theorem aeD:c5 lQ [] 7 Tryz.f83 [0,4,11] (eR 2 KN) (cR [P3,.str s] (eu (pS cN cO b fl nx lf es rt)) 7) [([],
   [((0:Int)<=(0:Int)/\0<=s.length),(s.length<=1000000000),((0:Int)<=(1:Int)/\1<=8)],
   .to .normal (eG [(0,.ptr (some (3,0))),(4,.ptr (some (7,0))),(11,.int .i64 ((xX s 0 false 1).1))] (hL (eN (pS cN cO b fl nx lf es rt)++[(7,.cells [.str s,.int .i64 (Int.ofNat (xX s 0 false 1).2.1),.bool ((xX s 0 false 1).2.2)])])) 8))]
 :=cP.of U U U
theorem aeE(k:Int):c5 lQ [(12,.split)] 7 Tryz.f83 [0,4,11,12] (dO KO) (eG [(0,P3),(4,.ptr (some (7,0))),(11,.int .i64 k)] (KV cN cO b fl nx lf es rt s a f []) 8) [([((k==(1:Int)),true)],
   [],
   .to .normal (eG [(0,.ptr (some (3,0))),(4,.ptr (some (7,0))),(11,.int .i64 k),(12,.bool true)] (hL (eN (pS cN cO b fl nx lf es rt)++[(7,.cells [.str s,.int .i64 (Int.ofNat a),.bool f])])) 8)),
  ([((k==(1:Int)),false)],
   [],
   .to .normal (eG [(0,.ptr (some (3,0))),(4,.ptr (some (7,0))),(11,.int .i64 k),(12,.bool false)] (hL (eN (pS cN cO b fl nx lf es rt)++[(7,.cells [.str s,.int .i64 (Int.ofNat a),.bool f])])) 8))]
 :=cP.of U U U
theorem akP:c5 lQ [] 7 Tryz.f83 [0,4,5,6] (eR 2 IB) (eG [(0,P3),(4,.ptr (some (7,0)))] (KV cN cO b fl nx lf es rt s a f []) 8) [([],
   [((0:Int)<=Int.ofNat a/\a<=s.length),(s.length<=1000000000)],
   .to .normal (eG [(0,.ptr (some (3,0))),(4,.ptr (some (7,0))),(5,.str ((gV s a f).1)),(6,.di none 0 0 0)] (hL (eN (pS cN cO b fl nx lf es rt)++[(7,.cells [.str s,.int .i64 (Int.ofNat (gV s a f).2.1),.bool ((gV s a f).2.2)])])) 8))]
 :=cP.of U U U
theorem akQ(d:aa):c5 lQ [(18,.c9 (.int .i64 (Int.ofNat 0)))] 7 Tryz.f83 [0,4,5,6,17,18] (dO Z7) (eG [(0,P3),(4,.ptr (some (7,0))),(5,.str d),(6,eH)] (KV cN cO b fl nx lf es rt s a f []) 8) [([],
   [((0:Int)<=Int.ofNat a/\a<=s.length),(s.length<=1000000000),(V.int aj (0:Int)=V.int aj (0:Int))],
   .to .normal (eG [(0,.ptr (some (3,0))),(4,.ptr (some (7,0))),(5,.str d),(6,.di none 0 0 0),(17,.int .i64 ((iu s a f).1)),(18,.int .i64 0)] (hL (eN (pS cN cO b fl nx lf es rt)++[(7,.cells [.str s,.int .i64 (Int.ofNat (iu s a f).2.1),.bool ((iu s a f).2.2)])])) 8))]
 :=cP.of U U U
theorem aeF(d:aa)(n i:Nat):c5 lQ [(19,.split),(25,.c9 (.int .i64 (Int.ofNat (i+1))))] 7 Tryz.f83 [0,4,5,6,17,18] (dr (dr (dY Z7))) (sA0 cN cO b fl nx lf es rt s a f d n i) [([((decide (Int.ofNat i<Int.ofNat n)),true)],
   [((0:Int)<=Int.ofNat a/\a<=s.length),(s.length<=1000000000),kM (Int.ofNat i+(1:Int)) (i+1)],
   .to .normal (eG [(0,.ptr (some (3,0))),(4,.ptr (some (7,0))),(5,.str d),(6,.di (some (8,0)) 1 1 1),(17,.int .i64 (Int.ofNat n)),(18,.int .i64 (Int.ofNat (i+1)))] (hL (eN (pS cN cO b fl nx lf es rt)++[(7,.cells [.str s,.int .i64 (Int.ofNat (qI s a f (32:Int)).2.1),.bool ((qI s a f (32:Int)).2.2)]),(8,.cells [.str ((qI s a f (32:Int)).1)])])) 9)),
  ([((decide (Int.ofNat i<Int.ofNat n)),false)],
   [],
   .to (.exit 1) (eG [(0,.ptr (some (3,0))),(4,.ptr (some (7,0))),(5,.str d),(6,.di none 0 0 0),(17,.int .i64 (Int.ofNat n)),(18,.int .i64 (Int.ofNat i))] (hL (eN (pS cN cO b fl nx lf es rt)++[(7,.cells [.str s,.int .i64 (Int.ofNat a),.bool f])])) 8))]
 :=cP.of U U U
theorem aeG(d:aa)(n i k:Nat)(cs:ai):c5 lQ [(19,.split),(25,.c9 (.int .i64 (Int.ofNat (i+1))))] 7 Tryz.f83 [0,4,5,6,17,18] (dr (dr (dY Z7))) (sA1 cN cO b fl nx lf es rt s a f d n i k cs) [([((decide (Int.ofNat i<Int.ofNat n)),true)],
   [((0:Int)<=Int.ofNat a/\a<=s.length),(s.length<=1000000000),(0+k*1<=cs.length),(0<1),(eP (k+1) 1 16=true),kM (Int.ofNat i+(1:Int)) (i+1)],
   .to .normal (eG [(0,.ptr (some (3,0))),(4,.ptr (some (7,0))),(5,.str d),(6,.di (some (8,0)) (k+1) (k+1) 1),(17,.int .i64 (Int.ofNat n)),(18,.int .i64 (Int.ofNat (i+1)))] (hL (eN (pS cN cO b fl nx lf es rt)++[(7,.cells [.str s,.int .i64 (Int.ofNat (qI s a f (32:Int)).2.1),.bool ((qI s a f (32:Int)).2.2)]),(8,.deep (List.take (k*1) (List.drop 0 cs)++[D.str (qI s a f (32:Int)).1]))])) 9)),
  ([((decide (Int.ofNat i<Int.ofNat n)),false)],
   [],
   .to (.exit 1) (eG [(0,.ptr (some (3,0))),(4,.ptr (some (7,0))),(5,.str d),(6,.di (some (8,0)) k k 1),(17,.int .i64 (Int.ofNat n)),(18,.int .i64 (Int.ofNat i))] (hL (eN (pS cN cO b fl nx lf es rt)++[(7,.cells [.str s,.int .i64 (Int.ofNat a),.bool f]),(8,.deep cs)])) 9))]
 :=cP.of U U U
theorem akR(d:aa):vj ak lQ [] 1000 7 Tryz.f83 (Z8) (eG [(0,P3),(5,.str d),(6,eH)] (eu (pS cN cO b fl nx lf es rt)) 7)
  [([],
   [(gS=gS),(gR=gR),([]=strs (dF [])),(0=0),(0<=1000000),((eF (d::dF [])).length<=1000000000)],
   .ret (.eo []) (eu (pS cN cO b fl (IntKind.i64.wrap (nx+(1:Int))) lf (gY (D.str (dJ d (dF []))) (D.agg [D.str d,D.dL 0 [],D.int aj nx]) es) rt)) 7)]
 :=⟨U,U,U⟩
theorem akS(d:aa)(n:Nat)(cs:ai):vj ak lQ [] 1000 7 Tryz.f83 (Z8) (eG [(0,P3),(5,.str d),(6,.dL false n cs)] (eu (pS cN cO b fl nx lf es rt)) 7)
  [([],
   [(gS=gS),(gR=gR),(cs=strs (dF cs)),(n=(dF cs).length),(n<=1000000),((eF (d::dF cs)).length<=1000000000),(0<n),(cs.length=n),(n<=1000000)],
   .ret (.eo []) (eu (pS cN cO b fl (IntKind.i64.wrap (nx+(1:Int))) lf (gY (D.str (dJ d (dF cs))) (D.agg [D.str d,D.dL n cs,D.int aj nx]) es) rt)) 7)]
 :=⟨U,U,U⟩
theorem akT:c5 lQ [] 7 Tryz.f83 [0,4,33] (dO Z9) (eG [(0,P3),(4,.ptr (some (7,0))),(11,.int .i64 2)] (KV cN cO b fl nx lf es rt s a f []) 8) [([],
   [],
   .to .normal (eG [(0,.ptr (some (3,0))),(4,.ptr (some (7,0))),(33,.bool true)] (hL (eN (pS cN cO b fl nx lf es rt)++[(7,.cells [.str s,.int .i64 (Int.ofNat a),.bool f])])) 8))]
 :=cP.of U U U
theorem aeH:c5 lQ [] 7 Tryz.f83 [0,4,7] (dO (LM (dY Z9))) (eG [(0,P3),(4,.ptr (some (7,0)))] (KV cN cO b fl nx lf es rt s a f []) 8) [([],
   [((0:Int)<=Int.ofNat a/\a<=s.length),(s.length<=1000000000)],
   .to .normal (eG [(0,.ptr (some (3,0))),(4,.ptr (some (7,0))),(7,.str ((gV s a f).1))] (hL (eN (pS cN cO b fl nx lf es rt)++[(7,.cells [.str s,.int .i64 (Int.ofNat (gV s a f).2.1),.bool ((gV s a f).2.2)])])) 8))]
 :=cP.of U U U
end
noncomputable abbrev aeI:eX:=gC ak W19 (sg [(50,[(7,.split)])]) 1000 40
noncomputable abbrev akU:CX ak:=CX.of mo po GB (sg [(50,[(7,.split)])]) 1000 40
theorem aeJ(cN cO:Nat)(b:aa)(fl nx lf:Int)(es rt:ae)(s n:aa)(a:Nat)(f:Bool):vj ak aeI [] 1000 7 Tryz.f83 (dY (LM (dY Z9))) (eG [(0,P3),(4,.ptr (some (7,0))),(7,.str n)] (KV cN cO b fl nx lf es rt s a f []) 8)
  [([((eE (gV s a f).1 ([]:aa)),true)],
   [((0:Int)<=Int.ofNat a/\a<=s.length),(s.length<=1000000000)],
   .ret (.eo []) (eu (pS cN cO b fl nx lf es (lB (D.str n) rt))) 7),
  ([((eE (gV s a f).1 ([]:aa)),false)],
   [((0:Int)<=Int.ofNat a/\a<=s.length),(s.length<=1000000000)],
   .ret (.eo []) (eu (pS cN cO b fl nx lf es (gY (D.str n) (D.str (gV s a f).1) rt))) 7)]
 :=⟨U,U,U⟩
theorem qD{α:Type}{s p r:List α}{a:Nat}(h:s.drop a=p++r):s.drop (a+p.length)=r:=by rw[<- List.drop_drop,h,List.drop_left'];rfl
section
variable(cN cO:Nat)(b:aa)(fl nx lf:Int)(es rt:ae)
theorem UD(d:aa)(rs:List (aa))(hd:d.length<=65536)(hn:rs.length<=1024)(h32:∀x∈rs,x.length=32):
  cT ak 83 [P3,.str (vh d rs.length++rs.flatten)] (eu (pS cN cO b fl nx lf es rt)) 7 (.eo []) (eu (pS cN cO b fl (IntKind.i64.wrap (nx+1)) lf (gY (.str (dJ d rs)) (pO d rs nx) es) rt)) 7:=by
 have S9:=vi h32;have hhl:=vZ d rs.length;obtain⟨s,hs⟩:∃s,s=vh d rs.length++rs.flatten:=⟨_,rfl⟩;rw[<- hs];have hsl:s.length<=1000000:=by rw[hs,ax];omega
 have d0:s.drop 0=oZ ((1:Nat):Int)++(jl d++(jj (Int.ofNat rs.length)++rs.flatten)):=by
  rw[hs,bu];unfold vh;simp only[bz];rfl
 have d1:=qD d0;rw[show 0+(oZ ((1:Nat):Int)).length=1 from rfl]at d1;have d2:=qD d1;have d3:=qD d2;have r1:=Mm dN d0;have r2:=y5 be d1;have r3:=GC be d2;have hv:=l8 (Int.ofNat rs.length);have l3:1+(jl d).length+(jj (Int.ofNat rs.length)).length+rs.flatten.length=s.length:=by
  have e:=aN List.length d0;simp only[ax,bu]at e;rw[show(oZ ((1:Nat):Int)).length=1 from rfl]at e;omega
 rw[show 1+(jl d).length=(jl d).length+1 by omega]at *;refine cZ Tryz.func83 (code:=KN) U U ?_;obtain⟨L1,DT⟩:=aeD cN cO b fl nx lf es rt s;rw[r1]at DT;refine nh 2 uc mo U DT (fm ⟨dN,be⟩ (fm be (e9 ⟨dN,dN⟩))) ?_;refine fh (i:=0) U ?_;refine fb (Q1:=fB ak 7 Tryz.f83 fun v h n=>v= .eo []/\h=eu (pS cN cO b fl (IntKind.i64.wrap (nx+1)) lf (gY (.str (dJ d rs)) (pO d rs nx) es) rt)/\n=7) ?_ fun y s h=>xE h;show TG ak 7 Tryz.f83.ntmps KO (eG [(0,P3),(4,.ptr (some (7,0))),(11,.int .i64 1)] (KV cN cO b fl nx lf es rt s 1 false []) 8) _;refine cV U ?_;refine fV uc (aeE cN cO b fl nx lf es rt s 1 false 1) fun g hg hc=>?_;simp only[aE,aL,bt]at hg;rcases hg with rfl|rfl
 case inr=>exact absurd (hc _ (aq.2 rfl)) dN
 refine⟨cQ,fun s' dX=>c6 dX ?_⟩;refine Bt (t:=true) U U (fun _=>?_) (fun h=>by cases h);refine c6 (live:=[0,4]) (s2:=eG [(0,P3),(4,.ptr (some (7,0)))] (KV cN cO b fl nx lf es rt s 1 false []) 8) U ?_;obtain⟨L3,xI⟩:=akP cN cO b fl nx lf es rt s 1 false;rw[r2]at xI;refine nh 2 uc mo U xI (fm ⟨dN,be⟩ (e9 be)) ?_;refine cV U ?_;refine cV U ?_;have r3f:iu s ((jl d).length+1) false=_:=r3;obtain⟨L4,G4⟩:=akQ cN cO b fl nx lf es rt s ((jl d).length+1) false d;rw[r3f]at G4;refine gT uc mo nZ U G4 (dI ?_);refine⟨fm ⟨az _,be⟩ (fm be (e9 rfl)),fun s' dX=>?_⟩;obtain⟨a,ha⟩:∃a,a=(jl d).length+1+(jj (Int.ofNat rs.length)).length:=⟨_,rfl⟩;rw[<- ha]at dX d3 l3;have mz:∀i,i<=rs.length->s.drop (a+32*i)=(rs.drop i).flatten:=by
  intro i
  induction i with
  |zero=>intro _;simpa using d3
  |succ i ih=>
   intro hi;have ih:=ih be;rw[bE (l:=rs) be,List.flatten_cons]at ih;have h2:=qD ih;rw[h32 _ (bY _)]at h2;rw[show a+32*(i+1)=a+32*i+32 by omega];exact h2
 have htk:∀i (hi:i<rs.length),qI s (a+32*i) false (32:Int)=(rs[i],a+32*i+32,false):=by
  intro i hi;have h1:=mz i be;rw[bE hi,List.flatten_cons]at h1;have h2:=GD h1;rw[h32 _ (bY _)]at h2;exact h2
 have ku:∀i,i<=rs.length->a+32*i<=s.length:=fun i hi=>by omega
 let S:Nat->St:=fun i=>match i with
  |0=>sA0 cN cO b fl nx lf es rt s a false d rs.length 0
  |i+1=>sA1 cN cO b fl nx lf es rt s (a+32*(i+1)) false d rs.length (i+1) (i+1) (strs (rs.take (i+1)))
 have tail:∀s',gy ak 7 Tryz.f83.ntmps s' (S rs.length)->TG ak 7 Tryz.f83.ntmps Z8 s' (fB ak 7 Tryz.f83 fun v h n=>v= .eo []/\h=eu (pS cN cO b fl (IntKind.i64.wrap (nx+1)) lf (gY (.str (dJ d rs)) (pO d rs nx) es) rt)/\n=7):=by
  intro s' dX;refine dX _ _ ?_;have hj:=jD d rs h32;rcases Nat.eq_zero_or_pos rs.length with h0|h0
  . have:rs=[]:=List.eq_nil_of_length_eq_zero h0;subst this;refine c6 (live:=[0,5,6]) (s2:=eG [(0,P3),(5,.str d),(6,eH)] (eu (pS cN cO b fl nx lf es rt)) 7) U ?_;refine ru uc mo _ U (akR cN cO b fl nx lf es rt d) (dI ?_);refine⟨fm rfl (fm rfl (fm rfl (fm rfl (fm dN (e9 ?_))))),_,_,_,rfl,rfl,rfl,rfl⟩;show(eF [d]).length<=_;simp only[bO]at hj;omega
  . have hS:S rs.length=sA1 cN cO b fl nx lf es rt s (a+32*rs.length) false d rs.length rs.length rs.length (strs rs):=by
     obtain⟨k,hk⟩:∃k,rs.length=k+1:=⟨rs.length-1,be⟩;show(match rs.length with|0=>_|i+1=>_)=_;have e:rs.take (k+1)=rs:=by rw[<- hk,aT]
     rw[hk];simp only[e]
    rw[hS];refine xz [8] (A:=[(strs rs).length=rs.length*1]) (s2:={ eG [(0,P3),(4,.ptr (some (7,0))),(5,.str d),(6,.dL false rs.length (strs rs)),(17,.int .i64 (Int.ofNat rs.length)),(18,.int .i64 (Int.ofNat rs.length))] (KV cN cO b fl nx lf es rt s (a+32*rs.length) false [(8,.deep (strs rs))]) 9 with h:=(KV cN cO b fl nx lf es rt s (a+32*rs.length) false [(8,.deep (strs rs))]).set 8 none }) U (e9 (by rw[eI,bj])) ?_;refine c6 (live:=[0,5,6]) (s2:=eG [(0,P3),(5,.str d),(6,.dL false rs.length (strs rs))] (eu (pS cN cO b fl nx lf es rt)) 7) U ?_;have hr:=akS cN cO b fl nx lf es rt d rs.length (strs rs);rw[ic]at hr;refine ru uc mo _ U hr (dI ?_);exact⟨fm rfl (fm rfl (fm rfl (fm rfl (fm be (fm be (fm h0 (fm (eI rs) (e9 be)))))))),_,_,_,rfl,rfl,rfl,rfl⟩
 refine jv 1 rs.length S U U (.norm dX) (fun i hi=>?_) ?_
 . have ht:=htk i hi;cases i with
   |zero=>
    obtain⟨L5,vY⟩:=aeF cN cO b fl nx lf es rt s a false d rs.length 0;rw[show a+32*0=a by omega]at ht;rw[ht]at vY;refine gT uc mo nZ U vY fun g hg hc=>?_;simp only[aE,aL,bt]at hg;rcases hg with rfl|rfl
    case inr=>exact absurd (aK (hc _ (aq.2 rfl))) de
    refine⟨fm ⟨az _,be⟩ (fm be (e9 (fA de be))),fun s' dX=>?_⟩;have e:rs.take 1=[rs[0]]:=by
     rw[bI,ay hi];rfl
    refine(gy.norm dX).trans ?_;show gy _ _ _ _ (sA1 cN cO b fl nx lf es rt s (a+32*1) false d rs.length 1 1 (strs (rs.take 1)));rw[e];exact .deep [8] U
   |succ i=>
    obtain⟨L5,vY⟩:=aeG cN cO b fl nx lf es rt s (a+32*(i+1)) false d rs.length (i+1) (i+1) (strs (rs.take (i+1)));rw[ht]at vY;refine gT uc mo nZ U vY fun g hg hc=>?_;simp only[aE,aL,bt]at hg;rcases hg with rfl|rfl
    case inr=>exact absurd (aK (hc _ (aq.2 rfl))) de
    have hl:(strs (rs.take (i+1))).length=i+1:=by rw[eI,bg];omega
    refine⟨fm ⟨az _,ku _ be⟩ (fm be (fm be (fm dN (fm (pM be) (e9 (fA de be)))))),fun s' dX=>?_⟩;have e:List.take ((i+1)*1) (List.drop 0 (strs (rs.take (i+1))))++[D.str rs[i+1]]=strs (rs.take (i+1+1)):=by
     rw[bu,bj,bq be];rw[bI (i:=i+1),ay hi];unfold strs;rw[aX];rfl
    rw[e]at dX;exact .norm dX
 . rcases Nat.eq_zero_or_pos rs.length with h0|h0
   . have h1:S rs.length=sA0 cN cO b fl nx lf es rt s a false d rs.length 0:=by
      show(match rs.length with|0=>_|i+1=>_)=_;rw[h0]
     rw[h1]at tail ⊢;refine fV uc (aeF cN cO b fl nx lf es rt s a false d rs.length 0) fun g hg hc=>?_;simp only[aE,aL,bt]at hg;rcases hg with rfl|rfl
     . exact absurd (aH (hc _ (aq.2 rfl))) de
     . exact⟨cQ,fun s' dX=>⟨by simp,by simp only[dV,andThen];exact tail s' (.norm dX)⟩⟩
   . have h1:S rs.length=sA1 cN cO b fl nx lf es rt s (a+32*rs.length) false d rs.length rs.length rs.length (strs rs):=by
      obtain⟨k,hk⟩:∃k,rs.length=k+1:=⟨rs.length-1,be⟩;show(match rs.length with|0=>_|i+1=>_)=_;have e:rs.take (k+1)=rs:=by rw[<- hk,aT]
      rw[hk];simp only[e]
     rw[h1]at tail ⊢;refine fV uc (aeG cN cO b fl nx lf es rt s (a+32*rs.length) false d rs.length rs.length rs.length (strs rs)) fun g hg hc=>?_;simp only[aE,aL,bt]at hg;rcases hg with rfl|rfl
     . exact absurd (aH (hc _ (aq.2 rfl))) be
     . exact⟨cQ,fun s' dX=>⟨by simp,by simp only[dV,andThen];exact tail s' (.norm dX)⟩⟩
theorem UE(n dd:aa)(hn:n.length<=1000000)(hd:dd.length<=1000000):
  cT ak 83 [P3,.str (oZ 2++jl n++jl dd)] (eu (pS cN cO b fl nx lf es rt)) 7 (.eo []) (eu (pS cN cO b fl nx lf es (if dd=[]then lB (.str n) rt else gY (.str n) (.str dd) rt))) 7:=by
 obtain⟨s,hs⟩:∃s,s=oZ 2++jl n++jl dd:=⟨_,rfl⟩;rw[<- hs];have t1:=oH n;have t2:=oH dd;have hsl:s.length<=3000000:=by
  rw[hs,ax,ax,show(oZ 2).length=1 from rfl];omega
 have d0:s.drop 0=oZ ((2:Nat):Int)++(jl n++(jl dd++[])):=by
  rw[hs,bu];simp only[bz,ct];rfl
 have d1:=qD d0;rw[show 0+(oZ ((2:Nat):Int)).length=1 from rfl]at d1;have d2:=qD d1;have r1:=Mm dN d0;have r2:=y5 be d1;have r3:=y5 be d2;have l3:1+(jl n).length+(jl dd).length=s.length:=by
  have e:=aN List.length d0;simp only[ax,bu,bO]at e;rw[show(oZ ((2:Nat):Int)).length=1 from rfl]at e;omega
 refine cZ Tryz.func83 (code:=KN) U U ?_;obtain⟨L1,DT⟩:=aeD cN cO b fl nx lf es rt s;rw[r1]at DT;refine nh 2 uc mo U DT (fm ⟨dN,be⟩ (fm be (e9 ⟨dN,dN⟩))) ?_;refine fh (i:=0) U ?_;refine fb (Q1:=fB ak 7 Tryz.f83 fun v h k=>v= .eo []/\h=eu (pS cN cO b fl nx lf es (if dd=[]then lB (.str n) rt else gY (.str n) (.str dd) rt))/\k=7) ?_ fun y s h=>xE h;show TG ak 7 Tryz.f83.ntmps KO (eG [(0,P3),(4,.ptr (some (7,0))),(11,.int .i64 2)] (KV cN cO b fl nx lf es rt s 1 false []) 8) _;refine cV U ?_;refine fV uc (aeE cN cO b fl nx lf es rt s 1 false 2) fun g hg hc=>?_;simp only[aE,aL,bt]at hg;rcases hg with rfl|rfl
 . exact absurd (hc _ (aq.2 rfl)) dN
 refine⟨cQ,fun s' dX=>c6 dX ?_⟩;refine Bt (t:=false) U U (fun h=>by cases h) (fun _=>?_);refine c6 (live:=[0,4,11]) (s2:=eG [(0,P3),(4,.ptr (some (7,0))),(11,.int .i64 2)] (KV cN cO b fl nx lf es rt s 1 false []) 8) U ?_;refine cV U ?_;refine fV uc (akT cN cO b fl nx lf es rt s 1 false) (dI ?_);refine⟨cQ,fun s' dX=>c6 dX ?_⟩;refine Bt (t:=true) U U (fun _=>?_) (fun h=>by cases h);refine c6 (live:=[0,4]) (s2:=eG [(0,P3),(4,.ptr (some (7,0)))] (KV cN cO b fl nx lf es rt s 1 false []) 8) U ?_;refine cV U ?_;obtain⟨L4,G4⟩:=aeH cN cO b fl nx lf es rt s 1 false;rw[r2]at G4;refine gT uc mo nZ U G4 (dI ?_);refine⟨fm ⟨dN,be⟩ (e9 be),fun s' dX=>?_⟩;have vY:=aeJ cN cO b fl nx lf es rt s n (1+(jl n).length) false;rw[r3]at vY;refine c6 dX ?_;refine ru akU mo _ U vY fun g hg hc=>?_;simp only[aE,aL,bt]at hg;have A:∀p∈[((0:Int)<=Int.ofNat (1+(jl n).length)/\1+(jl n).length<=s.length),(s.length<=1000000000)],p:=fm ⟨az _,be⟩ (e9 be);have hb:eE dd []=decide (dd=[]):=by
  rw[fT];cases dd<;>rfl
 rcases hg with rfl|rfl
 all_goals
  have q:=hc _ (aq.2 rfl);have q:eE dd []=_:=q;rw[hb]at q;refine⟨A,_,_,_,rfl,rfl,?_,rfl⟩
 . rw[aG (aH q)]
 . rw[aI (aK q)]
end
noncomputable abbrev aaa:Code:=dU Tryz.f103
noncomputable abbrev akV:Code:=dh 1 aaa
noncomputable abbrev aab:Code:=dr (dr akV)
section
variable(cN cO:Nat)(b:aa)(fl lf:Int)(es rt:ae)(lg:aa)
def sRw:St:=eG [(1,.ptr (some (9,0))),(2,.ptr (some (10,0))),(12,v103)] (hL (lRv cN cO b fl lf es rt 0 [] [] 0++[(11,.cells [.str lg])])) 12
noncomputable def oRw:O:=.loop true none (sRw cN cO b fl lf es rt lg).fr [13,14] ad8 ad9
noncomputable def N7(nx:Int)(mE mP:ae)(en:Int):Tr O:=hL (lRv cN cO b fl lf es rt nx mE mP en++[(11,.cells [.str lg]),(12,.me),(13,oRw cN cO b fl lf es rt lg)])
noncomputable def mRc(nx:Int)(mE mP:ae)(en:Int)(a:Nat)(f:Bool):Tr O:=hL (lRv cN cO b fl lf es rt nx mE mP en++[(11,.cells [.str lg]),(12,.me),(13,oRw cN cO b fl lf es rt lg),(14,.cells (GA lg a f))])
noncomputable def OS(nx:Int)(mE mP:ae)(en:Int)(a:Nat)(f:Bool):St:=eG [(0,.fn (.yield 13) [] []),(3,.ptr (some (14,0)))] (mRc cN cO b fl lf es rt lg nx mE mP en a f) 15
end
noncomputable abbrev akX(args:ag)(h:Tr O)(n:Nat)(v:V)(h1:Tr O)(n1:Nat):eX:=gC ak (Ut 83 args h n v h1 n1 W19) H0 1000 40
theorem akY(cN cO:Nat)(b:aa)(fl lf:Int)(es rt:ae)(lg:aa):c5 lQ [] 14 Tryz.f103 [0,3] (eR 1 aaa) (cR [.fn (.yield 13) [] [],.ptr (some (11,0))] (N7 cN cO b fl lf es rt lg 0 [] [] 0) 14) [([],
   [],
   .to .normal (OS cN cO b fl lf es rt lg 0 [] [] 0 0 false))]
 :=cP.of U U U
section
variable(cN cO:Nat)(b:aa)(fl lf:Int)(es rt:ae)(lg:aa)
noncomputable def mRd(nx:Int)(mE mP:ae)(en:Int)(a:Nat):Tr O:=(mRc cN cO b fl lf es rt lg nx mE mP en a false).set 13 none
noncomputable def sRe(nx:Int)(mE mP:ae)(en:Int)(t:aa)(k:Int)(a:Nat)(f:Bool):St:=eG [(0,.fn (.yield 13) [] []),(3,.ptr (some (14,0))),(4,.str t),(5,.int .i64 k)] (mRc cN cO b fl lf es rt lg nx mE mP en a f) 15
end
noncomputable abbrev aac:Code:=dr (dY aab)
section
variable(cN cO:Nat)(b:aa)(fl lf:Int)(es rt:ae)
theorem ak0(lg:aa)(nx:Int)(mE mP:ae)(en:Int)(a:Nat):c5 lQ [(10,.split)] 14 Tryz.f103 [0,3] (dO aab) (OS cN cO b fl lf es rt lg nx mE mP en a false) [([((decide (IntKind.i64.wrap ((Int.ofNat lg.length)-Int.ofNat a)>(0:Int))),true)],
   [],
   .to .normal (OS cN cO b fl lf es rt lg nx mE mP en a false)),
  ([((decide (IntKind.i64.wrap ((Int.ofNat lg.length)-Int.ofNat a)>(0:Int))),false)],
   [],
   .to (.exit 0) (OS cN cO b fl lf es rt lg nx mE mP en a false))]
 :=cP.of U U U
theorem ak1(lg:aa)(nx:Int)(mE mP:ae)(en:Int)(a:Nat):c5 lQ [] 14 Tryz.f103 [0,3,4,5] (eR 2 aac) (OS cN cO b fl lf es rt lg nx mE mP en a false) [([],
   [((0:Int)<=Int.ofNat a/\a<=lg.length),(lg.length<=1000000000),((0:Int)<=Int.ofNat (gV lg a false).2.1/\(Int.ofNat (gV lg a false).2.1).toNat<=lg.length),(lg.length<=1000000000),((0:Int)<=(4:Int)/\4<=8)],
   .to .normal (sRe cN cO b fl lf es rt lg nx mE mP en (gV lg a false).1 (xX lg (gV lg a false).2.1 (gV lg a false).2.2 4).1 (xX lg (gV lg a false).2.1 (gV lg a false).2.2 4).2.1 (xX lg (gV lg a false).2.1 (gV lg a false).2.2 4).2.2))]
 :=cP.of U U U
theorem ak2(lg:aa)(nx:Int)(mE mP:ae)(en:Int)(t:aa)(k:Int)(a:Nat)(nx2:Int)(tP rt2:ae):c5 (akX [P3,.str t] (mRd cN cO b fl lf es rt lg nx mE mP en a) 15 (.eo []) (mRd cN cO b fl lf es rt lg nx2 tP rt2 en a) 15) [(24,.c9 (.bool false))] 14 Tryz.f103 [0,3] (dh 2 aac) (sRe cN cO b fl lf es rt lg nx mE mP en t k a false) [([],
   [(t.length<1000000000),(V.bool (k !=IntKind.i64.wrap (qB t))=V.bool false),(fG [.ptr (some (3,0)),.str t] (mRd cN cO b fl lf es rt lg nx mE mP en a) 15)],
   .to .normal (OS cN cO b fl lf es rt lg nx2 tP rt2 (Int.ofNat a) a false))]
 :=cP.of U U U
--@ arO (cN cO:Nat) (b:aa) (fl lf:Int) (es rt:ae) (lg:aa) (nx:Int) (mE mP:ae) (en:Int) (t:aa) (k:Int) (a:Nat) (f:Bool)|lQ | [(17,.split),(24,.c9 (.bool true))]|14|Tryz.f103 | []|dh 2 aac|sRe cN cO b fl lf es rt lg nx mE mP en t k a f | [ad8,ad9] | | | N7 cN cO b fl lf es rt lg nx mE mP en ;;N7 cN cO b fl lf es rt lg nx mE mP en
abbrev Rf(lg:aa)(a:Nat):Prop:=(0:Int)<=Int.ofNat (gV lg a false).2.1/\(Int.ofNat (gV lg a false).2.1).toNat<=lg.length
theorem ak3(lg:aa)(nx:Int)(mE mP:ae)(en:Int)(a:Nat):∃L,yY ak lQ [(10,.split),(17,.split),(24,.c9 (.bool true))] 1000 14 Tryz.f103 [0,3] 0 (aab) (OS cN cO b fl lf es rt lg nx mE mP en a false) L
  [([((decide (IntKind.i64.wrap ((Int.ofNat lg.length)-Int.ofNat a)>(0:Int))),true),(((xX lg (Int.ofNat (gV lg a false).2.1).toNat (gV lg a false).2.2 4).2.2),true)],
   [((0:Int)<=Int.ofNat a/\a<=lg.length),(lg.length<=1000000000),Rf lg a,(lg.length<=1000000000),((0:Int)<=(4:Int)/\4<=8),(V.bool true=V.bool true)],
   .ret (.eo []) (N7 cN cO b fl lf es rt lg nx mE mP en) 14),
  ([((decide (IntKind.i64.wrap ((Int.ofNat lg.length)-Int.ofNat a)>(0:Int))),true),(((xX lg (Int.ofNat (gV lg a false).2.1).toNat (gV lg a false).2.2 4).2.2),false)],
   [((0:Int)<=Int.ofNat a/\a<=lg.length),(lg.length<=1000000000),Rf lg a,(lg.length<=1000000000),((0:Int)<=(4:Int)/\4<=8),((gV lg a false).1.length<1000000000),(V.bool ((xX lg (Int.ofNat (gV lg a false).2.1).toNat (gV lg a false).2.2 4).1 !=IntKind.i64.wrap (qB (gV lg a false).1))=V.bool true)],
   .ret (.eo []) (N7 cN cO b fl lf es rt lg nx mE mP en) 14),
  ([((decide (IntKind.i64.wrap ((Int.ofNat lg.length)-Int.ofNat a)>(0:Int))),false)],
   [],
   .ret (.eo []) (N7 cN cO b fl lf es rt lg nx mE mP en) 14)]
 :=yY.of U U U
end
inductive jF where
 |chunk (d:aa) (rs:List (aa))
 |root (n dd:aa)
def jF.body:jF->aa
 | .chunk d rs=>vh d rs.length++rs.flatten
 | .root n dd=>oZ 2++jl n++jl dd
def jF.bytes(r:jF):aa:=nk r.body
def jF.ok:jF->Prop
 | .chunk d rs=>d.length<=65536/\rs.length<=1024/\∀x∈rs,x.length=32
 | .root n dd=>n.length<=1000/\dd.length<=1000
theorem jF.C3{r:jF}(h:r.ok):r.body.length<=200000:=by
 cases r with
 |chunk d rs=>
  obtain⟨h1,h2,h3⟩:=h;have:=vZ d rs.length;have:=vi h3;simp only[jF.body,ax];omega
 |root n dd=>
  obtain⟨h1,h2⟩:=h;have:=oH n;have:=oH dd;simp only[jF.body,ax,show(oZ 2).length=1 from rfl];omega
structure LS where
 nx:Int
 es:ae
 rt:ae
def By(s:LS):jF->LS
 | .chunk d rs=>⟨IntKind.i64.wrap (s.nx+1),gY (.str (dJ d rs)) (pO d rs s.nx) s.es,s.rt⟩
 | .root n dd=>⟨s.nx,s.es,if dd=[]then lB (.str n) s.rt else gY (.str n) (.str dd) s.rt⟩
def ls0:LS:=⟨0,[],[]⟩
abbrev iM(l:List jF):LS:=l.foldl By ls0
def cW(l:List jF):aa:=(l.map jF.bytes).flatten
theorem aad(cN cO:Nat)(b:aa)(fl nx lf:Int)(es rt:ae)(r:jF)(h:r.ok):cT ak 83 [P3,.str r.body] (eu (pS cN cO b fl nx lf es rt)) 7 (.eo []) (eu (pS cN cO b fl (By ⟨nx,es,rt⟩ r).nx lf (By ⟨nx,es,rt⟩ r).es (By ⟨nx,es,rt⟩ r).rt)) 7:=by
 cases r with
 |chunk d rs=>exact UD cN cO b fl nx lf es rt d rs h.1 h.2.1 h.2.2
 |root n dd=>exact UE cN cO b fl nx lf es rt n dd (by have:=h.1;omega) (by have:=h.2;omega)
def nsR:List (Option Nat):=[some 0,some 1,some 2,some 3,some 4,some 7,some 8]
section
variable(cN cO:Nat)(b:aa)(fl lf:Int)(es rt:ae)(lg:aa)
theorem UF(nx:Int)(mE mP:ae)(en:Int)(a:Nat)(r:jF)(h:r.ok):cT ak 83 [P3,.str r.body] (mRd cN cO b fl lf es rt lg nx mE mP en a) 15 (.eo [])
  (mRd cN cO b fl lf es rt lg (By ⟨nx,mE,mP⟩ r).nx (By ⟨nx,mE,mP⟩ r).es (By ⟨nx,mE,mP⟩ r).rt en a) 15:=by
 have hc:=aad cN cO b fl nx lf mE mP r h;generalize By ⟨nx,mE,mP⟩ r=q at hc ⊢;obtain⟨nx2,tP,rt2⟩:=q;generalize r.body=t at hc ⊢;have BW:Ix (mRd cN cO b fl lf es rt lg nx mE mP en a) 3=some (nsR,pS cN cO b fl nx lf mE mP):=by kernel_rfl
 exact fR (ns:=nsR) (Iy BW U U).1 U U hc
def Stop(lg:aa)(a:Nat):Prop:=a=lg.length\/(xX lg (gV lg a false).2.1 (gV lg a false).2.2 4).2.2=true\/(xX lg (gV lg a false).2.1 (gV lg a false).2.2 4).1≠IntKind.i64.wrap (qB (gV lg a false).1)
theorem og{r:jF}:0<r.bytes.length:=by
 have:=xB r.body;unfold jF.bytes;omega
section
variable{l:List jF}{i:Nat}
theorem AS(h:i<l.length):cW (l.take (i+1))=cW (l.take i)++(l[i]).bytes:=by
 unfold cW;rw[bI,ay h,cB,aX,cr];simp
theorem II(h:i<l.length):cW (l.drop i)=(l[i]).bytes++cW (l.drop (i+1)):=by
 unfold cW;rw[bE h,bV,List.flatten_cons]
theorem tE(l:List jF)(i:Nat):cW l=cW (l.take i)++cW (l.drop i):=by
 unfold cW;rw[<- cr,<- aX,ck]
theorem Rg(h:i<l.length):iM (l.take (i+1))=By (iM (l.take i)) l[i]:=by
 unfold iM;rw[bI,ay h,cB,List.foldl_append];rfl
end
theorem Rh{lg:aa}{a:Nat}{r:jF}{x:aa}(hr:r.ok)(h:lg.drop a=r.bytes++x):
  gV lg a false=(r.body,a+(jl r.body).length,false)/\xX lg (a+(jl r.body).length) false 4=(IntKind.i64.wrap (qB r.body),a+r.bytes.length,false):=by
 have hl:=jF.C3 hr;have h1:lg.drop a=jl r.body++(dK (IntKind.i64.wrap (qB r.body))++x):=by
  rw[h];unfold jF.bytes nk;rw[bz]
 refine⟨y5 be h1,?_⟩;rw[Re (qD h1)];unfold jF.bytes nk;rw[ax,cA];rfl
theorem Ri(s:aa)(a:Nat)(f:Bool):(gV s a f).1.length<=s.length:=by
 unfold gV qI;simp only;split
 . simp
 . simp only[bg,bX];omega
theorem Rj(l:List jF)(x:aa)(hl:∀r∈l,r.ok)(G3:lg=cW l++x)(BW:Stop lg (cW l).length)(lP:lg.length<1000000000):
  cT ak 103 [.fn (.yield 13) [] [],.ptr (some (11,0))] (N7 cN cO b fl lf es rt lg 0 [] [] 0) 14 (.eo []) (N7 cN cO b fl lf es rt lg (iM l).nx (iM l).es (iM l).rt (Int.ofNat (cW l).length)) 14:=by
 refine cZ Tryz.func103 (code:=aaa) U U ?_;refine iJ  1 uc (akY cN cO b fl lf es rt lg) cQ ?_
 let S:Nat->St:=fun i=>OS cN cO b fl lf es rt lg (iM (l.take i)).nx (iM (l.take i)).es (iM (l.take i)).rt (Int.ofNat (cW (l.take i)).length) (cW (l.take i)).length false
 have mz:∀i,i<=l.length->lg.drop (cW (l.take i)).length=cW (l.drop i)++x:=by
  intro i hi;have:lg=cW (l.take i)++(cW (l.drop i)++x):=by rw[G3,tE l i,bz]
  rw[this,List.drop_left'];rfl
 have ku:∀i,i<=l.length->(cW (l.take i)).length+(cW (l.drop i)).length+x.length=lg.length:=by
  intro i hi;have h1:=aN List.length (mz i hi);have h2:=aN List.length (tE l i);rw[ax]at h2;rw[G3,ax];omega
 refine jv 0 l.length S U U .refl (fun i hi=>?_) ?_
 . have iA:=hl _ (bY hi);have hp:=mz i be;have fE:=ku i be;rw[II hi]at hp fE;rw[bz]at hp;have N8:=og (r:=l[i]);obtain⟨q1,q2⟩:=Rh iA hp;rw[ax]at fE;have hbo:=jF.C3 iA;have xV:(jl (l[i]).body).length<=(l[i]).bytes.length:=by unfold jF.bytes nk;rw[ax];omega
   refine cV U ?_;refine fV uc (ak0 cN cO b fl lf es rt lg (iM (l.take i)).nx (iM (l.take i)).es (iM (l.take i)).rt (Int.ofNat (cW (l.take i)).length) (cW (l.take i)).length) fun g hg hc=>?_;simp only[aE,aL,bt]at hg;have hw:IntKind.i64.wrap ((Int.ofNat lg.length)-Int.ofNat (cW (l.take i)).length)=((lg.length-(cW (l.take i)).length:Nat):Int):=by
    rw[show(Int.ofNat lg.length)-Int.ofNat (cW (l.take i)).length=((lg.length-(cW (l.take i)).length:Nat):Int)by rw[lA,lA];omega];exact lq be
   rcases hg with rfl|rfl
   case inr=>exact absurd (aK (hc _ (aq.2 rfl))) (by rw[hw];omega)
   refine⟨cQ,fun s' dX=>c6 dX ?_⟩;refine fh (i:=1) U ?_;obtain⟨L3,xI⟩:=ak1 cN cO b fl lf es rt lg (iM (l.take i)).nx (iM (l.take i)).es (iM (l.take i)).rt (Int.ofNat (cW (l.take i)).length) (cW (l.take i)).length;rw[q1]at xI;have q2':xX lg (l[i].body,(cW (l.take i)).length+(jl (l[i]).body).length,false).2.1 (l[i].body,(cW (l.take i)).length+(jl (l[i]).body).length,false).2.2 4=_:=q2;rw[q2']at xI;refine nh 2 uc mo U xI (fm ⟨az _,be⟩ (fm be (fm ⟨az _,by show(cW (l.take i)).length+(jl (l[i]).body).length<=_;omega⟩ (fm be (e9 ⟨dN,dN⟩))))) ?_;have Pw:=UF cN cO b fl lf es rt lg (iM (l.take i)).nx (iM (l.take i)).es (iM (l.take i)).rt (Int.ofNat (cW (l.take i)).length) ((cW (l.take i)).length+(l[i]).bytes.length) l[i] iA;refine fV (CX.of mo po (Mg (au U) Pw GB) H0 1000 40) (ak2 cN cO b fl lf es rt lg (iM (l.take i)).nx (iM (l.take i)).es (iM (l.take i)).rt (Int.ofNat (cW (l.take i)).length) (l[i]).body (IntKind.i64.wrap (qB (l[i]).body)) ((cW (l.take i)).length+(l[i]).bytes.length) (By (iM (l.take i)) l[i]).nx (By (iM (l.take i)) l[i]).es (By (iM (l.take i)) l[i]).rt) (dI ?_);refine⟨fm be (fm (by simp) (e9 ⟨rfl,rfl,rfl⟩)),fun s' dX=>?_⟩;show gy ak 14 Tryz.f103.ntmps s' (S (i+1));have e1:S (i+1)=OS cN cO b fl lf es rt lg (By (iM (l.take i)) l[i]).nx (By (iM (l.take i)) l[i]).es (By (iM (l.take i)) l[i]).rt (Int.ofNat ((cW (l.take i)).length+(l[i]).bytes.length)) ((cW (l.take i)).length+(l[i]).bytes.length) false:=by
    show OS _ _ _ _ _ _ _ _ _ _ _ _ _ _=_;rw[Rg hi,AS hi,ax]
   rw[e1];exact .norm dX
 . have h1:S l.length=OS cN cO b fl lf es rt lg (iM l).nx (iM l).es (iM l).rt (Int.ofNat (cW l).length) (cW l).length false:=by
    show OS _ _ _ _ _ _ _ _ _ _ _ _ _ _=_;rw[aT]
   rw[h1];have h2:=ku l.length (aA _);rw[aT]at h2;generalize (cW l).length=a at *;have x1:=UA lg a false be;have x2:=Ri lg a false;obtain⟨L6,KW⟩:=ak3 cN cO b fl lf es rt lg (iM l).nx (iM l).es (iM l).rt (Int.ofNat a) a;refine Q6 0 uc mo (fun v h n=>v= .eo []/\h=N7 cN cO b fl lf es rt lg (iM l).nx (iM l).es (iM l).rt (Int.ofNat a)/\n=14) U KW (fun s' dX=>⟨by simp,by rw[dV];exact dX⟩) fun g hg hc=>?_;simp only[aE,aL,bt]at hg;have q1:(0:Int)<=Int.ofNat a/\a<=lg.length:=⟨az _,be⟩;have q2:lg.length<=1000000000:=by omega
   have q3:(0:Int)<=Int.ofNat (gV lg a false).2.1/\(Int.ofNat (gV lg a false).2.1).toNat<=lg.length:=⟨az _,x1⟩;have q4:(0:Int)<=(4:Int)/\4<=8:=⟨dN,dN⟩;have KS:∀s',fB ak 14 Tryz.f103 (fun v h n=>v= .eo []/\h=N7 cN cO b fl lf es rt lg (iM l).nx (iM l).es (iM l).rt (Int.ofNat a)/\n=14) .ret s'->(Exit.ret≠ .normal/\mK 0 (fB ak 14 Tryz.f103 (fun v h n=>v= .eo []/\h=N7 cN cO b fl lf es rt lg (iM l).nx (iM l).es (iM l).rt (Int.ofNat a)/\n=14)) .ret s'):=fun s' h=>⟨by simp,h⟩;have hw:IntKind.i64.wrap ((Int.ofNat lg.length)-Int.ofNat a)=((lg.length-a:Nat):Int):=by
    rw[show(Int.ofNat lg.length)-Int.ofNat a=((lg.length-a:Nat):Int)by rw[lA,lA];omega];exact lq be
   rcases hg with rfl|rfl|rfl
   . exact⟨fm q1 (fm q2 (fm q3 (fm q2 (fm q4 (e9 trivial))))),⟨rfl,rfl,rfl⟩,KS⟩
   . have c1:=aH (hc _ (aP ..));have c2:=hc _ (aJ _ (aq.2 rfl));have fL:(xX lg (gV lg a false).2.1 (gV lg a false).2.2 4).1≠IntKind.i64.wrap (qB (gV lg a false).1):=by
      rcases BW with h|h|h
      . rw[hw]at c1;omega
      . have c2:(xX lg (gV lg a false).2.1 (gV lg a false).2.2 4).2.2=false:=c2;rw[h]at c2;cases c2
      . exact h
     exact⟨fm q1 (fm q2 (fm q3 (fm q2 (fm q4 (fm (Nat.lt_of_le_of_lt x2 lP) (e9 (aN V.bool (bne_iff_ne.2 fL)))))))),⟨rfl,rfl,rfl⟩,KS⟩
   . exact⟨cQ,⟨rfl,rfl,rfl⟩,KS⟩
end
section
variable(cN cO:Nat)(b:aa)(fl nx lf:Int)(es rt mE mP:ae)
def hRg(lw:V)(o4:af)(fl nx:Int):Tr O:=hL ([(0,.ints .u32 gS),(1,.ints .u32 gR),(3,.cells [lw,.int .i64 fl,.map (some 7),.map (some 8),.int .i64 nx,.bool false,.bool false,.int .i64 lf])]++o4++[(5,.dD none es),(6,.dD none rt),(7,.dD none mE),(8,.dD none mP)])
end
section
variable(cN cO:Nat)(b:aa)(fl lf:Int)(es rt:ae)(lg:aa)
theorem ak4:c5 lQ [(11,.c9 (.str lg))] 7 Tryz.f57 [1,2,12] (dO (dO NZ)) (eG [(1,.ptr (some (9,0))),(2,.ptr (some (10,0)))] (hL (lRv cN cO b fl lf es rt 0 [] [] 0)) 11) [([],
   [(0+cN<=b.length),(V.str (List.take cN (List.drop 0 b))=V.str lg)],
   .to .normal (sRw cN cO b fl lf es rt lg))]
 :=cP.of U U U
theorem ak5(nx:Int)(mE mP:ae)(e:Nat):vj ak lQ [] 1000 7 Tryz.f57 (dY NZ) (tx (sRw cN cO b fl lf es rt lg) (N7 cN cO b fl lf es rt lg nx mE mP (Int.ofNat e)) 14)
  [([],
   [((0:Int)<=Int.ofNat e/\Int.ofNat e<=(Int.ofNat cO))],
   .ret (.eo []) (hRg lf es rt mE mP (.di (some (4,0)) e cO 1) [(4,.iS 5 false b)] (Int.ofNat e) nx) 9)]
 :=⟨U,U,U⟩
end
section
variable(fl nx lf:Int)(es rt:ae)
def lRn(fl nx:Int):af:=[(0,.ints .u32 gS),(1,.ints .u32 gR),(3,.cells [eH,.int .i64 fl,.map (some 7),.map (some 8),.int .i64 nx,.bool false,.bool false,.int .i64 lf]),(5,.dD none es),(6,.dD none rt),(7,.dD none []),(8,.dD none []),(9,.cells [P3]),(10,.cells [.int .i64 0])]
def sRn(fl:Int):St:=eG [(1,.ptr (some (9,0))),(2,.ptr (some (10,0)))] (hL (lRn lf es rt fl 0)) 11
end
theorem aeK(fl nx lf:Int)(es rt:ae):c5 lQ [] 7 Tryz.f57 [1,2] (eR 3 QZ) (cR [P3] (eu (pN fl nx lf es rt)) 7) [([],
   [],
   .to .normal (eG [(1,.ptr (some (9,0))),(2,.ptr (some (10,0)))] (hL [(0,.ints .u32 gS),(1,.ints .u32 gR),(3,.cells [eH,.int .i64 fl,.map (some 7),.map (some 8),.int .i64 0,.bool false,.bool false,.int .i64 lf]),(5,.dD none es),(6,.dD none rt),(7,.map [] 0),(8,.map [] 0),(9,.cells [P3]),(10,.cells [.int .i64 0])]) 11))]
 :=cP.of U U U
theorem aeL(fl lf:Int)(es rt:ae):vj ak lQ [] 1000 7 Tryz.f57 (NZ) (sRn lf es rt fl)
  [([],
   [((0:Int)<=(0:Int)/\(0:Int)<=(0:Int))],
   .ret (.eo []) (hRg lf es rt [] [] eH [] 0 0) 9)]
 :=⟨U,U,U⟩
theorem Mn(cN cO:Nat)(b:aa)(fl nx lf:Int)(es rt:ae)(l:List jF)(x:aa)(hb:cN<=b.length)(iA:∀r∈l,r.ok)(G3:b.take cN=cW l++x)(BW:Stop (b.take cN) (cW l).length)(hc:cN<=cO)(lP:cN<1000000000):
  cT ak 57 [P3] (eu (pS cN cO b fl nx lf es rt)) 7 (.eo []) (hRg lf es rt (iM l).es (iM l).rt (.di (some (4,0)) (cW l).length cO 1) [(4,.iS 5 false b)] (Int.ofNat (cW l).length) (iM l).nx) 9:=by
 refine cZ Tryz.func57 (code:=QZ) U U ?_;refine iJ  3 XT (aeb cN cO b fl nx lf es rt) cQ ?_;refine z7 [(7,none),(8,none)] (s2:=eG [(1,.ptr (some (9,0))),(2,.ptr (some (10,0)))] (hL (lRv cN cO b fl lf es rt 0 [] [] 0)) 11) U ?_;show TG ak 7 Tryz.f57.ntmps NZ _ _;refine cV U ?_;refine cV U ?_;have G2:(cW l).length+x.length=cN:=by
  have:=aN List.length G3;rw[bg,ax]at this;omega
 refine fV uc (ak4 cN cO b fl lf es rt (b.take cN)) (dI ?_);refine⟨fm be (e9 rfl),fun s' dX=>c6 dX ?_⟩;refine fh (i:=0) U ?_;refine oe (gf:=103) (lb:=[.ptr (some (11,0))]) U U U U U (Rj cN cO b fl lf es rt (b.take cN) l x iA G3 BW (by rw[bg];omega)).one ?_;rintro v h n ⟨rfl,rfl,rfl⟩;refine⟨U,?_⟩;show TG ak 7 Tryz.f57.ntmps (dY NZ) (tx (sRw cN cO b fl lf es rt (b.take cN)) (N7 cN cO b fl lf es rt (b.take cN) (iM l).nx (iM l).es (iM l).rt (Int.ofNat (cW l).length)) 14) _;refine ru uc mo _ U (ak5 cN cO b fl lf es rt (b.take cN) (iM l).nx (iM l).es (iM l).rt (cW l).length) (dI ?_);exact⟨e9 ⟨az _,de⟩,_,_,_,rfl,rfl,rfl,rfl⟩
theorem GF(fl nx lf:Int)(es rt:ae):cT ak 57 [P3] (eu (pN fl nx lf es rt)) 7 (.eo []) (hRg lf es rt [] [] eH [] 0 0) 9:=by
 refine cZ Tryz.func57 (code:=QZ) U U ?_;refine iJ  3 uc (aeK fl nx lf es rt) cQ ?_;refine z7 [(7,none),(8,none)] (s2:=sRn lf es rt fl) U ?_;refine ru uc mo _ U (aeL fl lf es rt) (dI ?_);exact⟨e9 ⟨dN,dN⟩,_,_,_,rfl,rfl,rfl,rfl⟩
noncomputable abbrev UG:Code:=dU Tryz.f77
noncomputable abbrev aae:Code:=dh 2 UG
abbrev P8:V:=.ptr (some (8,0))
abbrev N9:V:=.ptr (some (10,0))
abbrev P11:V:=.ptr (some (11,0))
abbrev aV(x:aa):ag:=[.str x,P8,P11,N9]
abbrev f78:V:=.fn (.func 78) [] [.ptr (some (7,0))]
section
variable(cN cO:Nat)(b:aa)(fl nx lf:Int)(es rt:ae)
section
variable(sn:ae)
def lV:af:=eN (pS cN cO b fl nx lf es rt)++[(7,.cells [.map (some 6)]),(8,.cells [.map (some 9)]),(9,.dD none sn),(10,.cells [.fn (.func 77) [] [P8,P11,N9]]),(11,.cells [P3])]
def UH:St:=eG [(5,P8),(6,N9),(10,f78)] (hL (lV cN cO b fl nx lf es rt [])) 12
noncomputable def lVx:af:=lV cN cO b fl nx lf es rt sn++[(12,.me),(13,.loop true none (UH cN cO b fl nx lf es rt).fr [11] ZQ ZR)]
noncomputable def Mo:Tr O:=hL (lVx cN cO b fl nx lf es rt sn)
def lMv:af:=[(0,.ints .u32 gS),(1,.ints .u32 gR),(3,.cells (xC 4 5 6 (pS cN cO b fl nx lf es rt))),(4,.iS 5 false b),(5,.dD none es),(7,.cells [.map (some 6)]),(8,.cells [.map (some 9)]),(9,.dD none sn),(10,.cells [.fn (.func 77) [] [P8,P11,N9]]),(11,.cells [P3]),(12,.me)]
def mV:Tr O:=hL (lMv cN cO b fl nx lf es rt sn)
noncomputable def Xz:Tr O:=((Mo cN cO b fl nx lf es rt sn).set 6 none).set 13 none
def sVi(rs:List (aa))(i:Nat):St:=eG [(1,P8),(2,P11),(3,N9),(18,.dL false rs.length (strs rs)),(19,.int .i64 (Int.ofNat rs.length)),(20,.int .i64 (Int.ofNat i))] (mV cN cO b fl nx lf es rt sn) 15
end
end
section
variable(cN cO:Nat)(b:aa)(fl nx lf:Int)(es rt:ae)(x:aa)(sn:ae)(rs:List (aa))(i:Nat)
theorem ak6:c5 lQ [(9,.c9 (.bool true))] 15 Tryz.f77 [] (UG) (cR (aV x) (mV cN cO b fl nx lf es rt sn) 15) [([],
   [((if false=true then V.eo [D.fS (V.bool false) (dc (D.str x) sn),V.bool (dc (D.str x) sn).isSome]else D.fS (V.bool false) (dc (D.str x) sn))=V.bool true)],
   .ret (.eo []) (mV cN cO b fl nx lf es rt sn) 15)]
 :=cP.of U U U
theorem ak7:c5 lQ [(9,.c9 (.bool false))] 15 Tryz.f77 [0,1,2,3] (eR 2 UG) (cR (aV x) (mV cN cO b fl nx lf es rt sn) 15) [([],
   [((if false=true then V.eo [D.fS (V.bool false) (dc (D.str x) sn),V.bool (dc (D.str x) sn).isSome]else D.fS (V.bool false) (dc (D.str x) sn))=V.bool false)],
   .to .normal (eG [(0,.str x),(1,P8),(2,P11),(3,N9)] (mV cN cO b fl nx lf es rt (gY (.str x) (.bool true) sn)) 15))]
 :=cP.of U U U
theorem ak8(d:aa)(rs:List (aa))(k:Int):c5 lQ [(17,.c9 (od d rs k)),(20,.c9 (.int .i64 (Int.ofNat 0)))] 15 Tryz.f77 [1,2,3,18,19,20] (dO aae) (eG [(0,.str x),(1,P8),(2,P11),(3,N9)] (mV cN cO b fl nx lf es rt sn) 15) [([],
   [((if false=true then V.eo [D.fS (V.agg [V.str ([]:aa),V.di none 0 0 0,V.int aj (0:Int)]) (dc (D.str x) es),V.bool (dc (D.str x) es).isSome]else D.fS (V.agg [V.str ([]:aa),V.di none 0 0 0,V.int aj (0:Int)]) (dc (D.str x) es))=od d rs k),(V.int aj (0:Int)=V.int aj (0:Int))],
   .to .normal (eG [(1,.ptr (some (8,0))),(2,.ptr (some (11,0))),(3,.ptr (some (10,0))),(18,.dL false (rs.length) (strs rs)),(19,.int .i64 ((Int.ofNat rs.length))),(20,.int .i64 0)] (hL [(0,.ints .u32 gS),(1,.ints .u32 gR),(3,.cells [.di (some (4,0)) cN cO 1,.int .i64 fl,.map (some 5),.map (some 6),.int .i64 nx,.bool false,.bool false,.int .i64 lf]),(4,.iS 5 false b),(5,.dD none es),(7,.cells [.map (some 6)]),(8,.cells [.map (some 9)]),(9,.dD none sn),(10,.cells [.fn (.func 77) [] [.ptr (some (8,0)),.ptr (some (11,0)),.ptr (some (10,0))]]),(11,.cells [.ptr (some (3,0))]),(12,.me)]) 15))]
 :=cP.of U U U
theorem ak9(sn2:ae)(rs:List (aa))(i:Nat)(p:aa):c5 (fK lQ 77 (aV p) (mV cN cO b fl nx lf es rt sn) 15 (.eo [],mV cN cO b fl nx lf es rt sn2,15)) [(21,.split),(22,.c9 (.dm [.str p])),(27,.c9 (.int .i64 (Int.ofNat (i+1))))] 15 Tryz.f77 [1,2,3,18,19,20] (dr (dr (dY aae))) (sVi cN cO b fl nx lf es rt sn rs i) [([((decide (Int.ofNat i<Int.ofNat rs.length)),true)],
   [((0:Int)<=Int.ofNat i/\Int.ofNat i<(Int.ofNat rs.length)),((strs rs).length=rs.length*1),(V.dm (dw (strs rs) (i*1) 1)=V.dm [D.str p]),(aV p=aV p/\mV cN cO b fl nx lf es rt sn=mV cN cO b fl nx lf es rt sn/\15=15),kM (Int.ofNat i+(1:Int)) (i+1)],
   .to .normal (sVi cN cO b fl nx lf es rt sn2 rs (i+1))),
  ([((decide (Int.ofNat i<Int.ofNat rs.length)),false)],
   [],
   .to (.exit 0) (sVi cN cO b fl nx lf es rt sn rs i))]
 :=cP.of U U U
theorem ala:∃L,yY ak lQ [(21,.c9 (.bool false))] 1000 15 Tryz.f77 [1,2,3,18,19,20] 0 (dr (dr (dY aae))) (sVi cN cO b fl nx lf es rt sn rs i) L
  [([],
   [(V.bool (decide (Int.ofNat i<Int.ofNat rs.length))=V.bool false)],
   .ret (.eo []) (mV cN cO b fl nx lf es rt sn) 15)]
 :=yY.of U U U
end
def nF(ks:List (aa)):ae:=ks.map fun k=>(.str k,.bool true)
theorem y6(x:aa):∀ks:List (aa),dc (.str x) (nF ks)=if x∈ks then some (.bool true)else none
 | []=>rfl
 |k::ks=>by
  have ih:=y6 x ks;unfold nF at ih ⊢;rw[bV,gi,ih];by_cases h:k=x
  . subst h;simp
  . have h1:¬(D.str k=D.str x):=fun e=>h (by cases e;rfl);have h2:¬x=k:=fun e=>h e.symm;simp only[h1,cF,aE,h2,false_or]
theorem UI{x:aa}{ks:List (aa)}(h:x∉ks):gY (.str x) (.bool true) (nF ks)=nF (ks++[x]):=by
 rw[vk _ (by rw[y6,aI h])];unfold nF;rw[aX];rfl
def pb(es:ae)(x:aa):List (aa):=match dc (.str x) es with
 |some (.agg [_,.dL _ cs,_])=>dF cs
 |_=>[]
theorem EZ{es:ae}{x d:aa}{rs:List (aa)}{k:Int}(h:dc (.str x) es=some (pO d rs k)):pb es x=rs:=by
 unfold pb;rw[h];exact ic rs
def lR(es:ae):Nat->aa->List (aa)->List (aa)
 |0,_,ks=>ks
 |k+1,x,ks=>if x∈ks then ks else(pb es x).foldl (fun a r=>lR es k r a) (ks++[x])
def Ends(es:ae):Nat->aa->Prop
 |0,_=>False
 |k+1,x=>D3 es x/\(pb es x).length<=1000000/\∀r∈pb es x,Ends es k r
section
variable(cN cO:Nat)(b:aa)(fl nx lf:Int)(es rt:ae)
section
variable{x:aa}{ks:List (aa)}
theorem E5(h:x∈ks):(if false=true then V.eo [D.fS (V.bool false) (dc (D.str x) (nF ks)),V.bool (dc (D.str x) (nF ks)).isSome]else D.fS (V.bool false) (dc (D.str x) (nF ks)))=V.bool true:=by
 rw[y6,aG h];rfl
theorem C4(h:x∉ks):(if false=true then V.eo [D.fS (V.bool false) (dc (D.str x) (nF ks)),V.bool (dc (D.str x) (nF ks)).isSome]else D.fS (V.bool false) (dc (D.str x) (nF ks)))=V.bool false:=by
 rw[y6,aI h];rfl
theorem vn{d:aa}{rs:List (aa)}{k:Int}(h:dc (.str x) es=some (pO d rs k)):(if false=true then V.eo [D.fS (V.agg [V.str ([]:aa),V.di none 0 0 0,V.int aj (0:Int)]) (dc (D.str x) es),V.bool (dc (D.str x) es).isSome]else D.fS (V.agg [V.str ([]:aa),V.di none 0 0 0,V.int aj (0:Int)]) (dc (D.str x) es))=od d rs k:=by
 rw[h];rfl
end
theorem aeN:77<Tryz.prog.funcs.size:=au U
theorem Rk:∀(k:Nat) (x:aa) (ks:List (aa)),Ends es k x->cT ak 77 (aV x) (mV cN cO b fl nx lf es rt (nF ks)) 15 (.eo []) (mV cN cO b fl nx lf es rt (nF (lR es k x ks))) 15
 |0,_,_,h=>h.elim
 |k+1,x,ks,h=>by
  obtain⟨⟨d,rs,n,he⟩,hn,hr⟩:=h;refine cZ Tryz.func77 (code:=UG) U U ?_;unfold lR;by_cases hx:x∈ks
  . rw[aG hx];refine fu uc (ak6 cN cO b fl nx lf es rt x (nF ks)) (dI ?_);exact⟨e9 (E5 hx),_,_,_,rfl,rfl,rfl,rfl⟩
  . rw[aI hx];refine iJ  2 uc (ak7 cN cO b fl nx lf es rt x (nF ks)) (e9 (C4 hx)) ?_;rw[UI hx];rw[EZ he]at hn hr ⊢;refine cV U ?_;refine fV uc (ak8 cN cO b fl nx lf es rt x (nF (ks++[x])) d rs n) (dI ?_);refine⟨fm (vn es he) (e9 rfl),fun s' dX=>?_⟩;have dX:eU 15 [1,2,3,18,19,20] s'=some (sVi cN cO b fl nx lf es rt (nF ((rs.take 0).foldl (fun a r=>lR es k r a) (ks++[x]))) rs 0):=dX;refine jv 0 rs.length (fun i=>sVi cN cO b fl nx lf es rt (nF ((rs.take i).foldl (fun a r=>lR es k r a) (ks++[x]))) rs i) U U (.norm dX) (fun i hi=>?_) ?_
    . have hc:=Rk k rs[i] ((rs.take i).foldl (fun a r=>lR es k r a) (ks++[x])) (hr _ (bY hi));generalize hK:(rs.take i).foldl (fun a r=>lR es k r a) (ks++[x])=K at hc;have pg:(rs.take (i+1)).foldl (fun a r=>lR es k r a) (ks++[x])=lR es k rs[i] K:=by
       rw[bI,ay hi,cB,List.foldl_append,hK];rfl
      obtain⟨L3,xI⟩:=ak9 cN cO b fl nx lf es rt (nF K) (nF (lR es k rs[i] K)) rs i rs[i];simp only[pg,hK];refine gT (uc.ko aeN hc) mo nZ U xI fun g hg hc=>?_;rcases jk hg with rfl|rfl
      . exact⟨fm ⟨az _,de⟩ (fm (by rw[eI,bj]) (fm (aN V.dm (fD (ay hi))) (fm ⟨rfl,rfl,rfl⟩ (e9 (fA de be))))),fun s' dX=>.norm dX⟩
      . exact absurd (aK (hc _ (aq.2 rfl))) de
    . obtain⟨L3,xI⟩:=ala cN cO b fl nx lf es rt (nF ((rs.take rs.length).foldl (fun a r=>lR es k r a) (ks++[x]))) rs rs.length;refine Q6 0 uc mo (fun v h n=>v= .eo []/\h=mV cN cO b fl nx lf es rt (nF (rs.foldl (fun a r=>lR es k r a) (ks++[x])))/\n=15) U xI (fun s' dX=>⟨by simp,by rw[dV];exact dX⟩) (dI ?_);exact⟨e9 (aN V.bool (bC be)),⟨rfl,by rw[aT],rfl⟩,fun s' dX=>⟨by simp,dX⟩⟩
end
def lu(es:ae)(k:Nat)(ds:List (aa)):List (aa):=ds.foldl (fun a d=>lR es k d a) []
inductive XA(es:ae):aa->aa->Prop where
 |self (x):XA es x x
 |step (x y z):y∈pb es x->XA es y z->XA es x z
variable{es:ae}
def Grow(es:ae)(ks S:List (aa)):Prop:=(∀y∈ks,y∈S)/\(∀y∈S,y∉ks->∀r∈pb es y,r∈S)/\(ks.Nodup->S.Nodup)
theorem Grow.refl(ks:List (aa)):Grow es ks ks:=⟨fun _ h=>h,fun _ h1 h2=>absurd h1 h2,id⟩
theorem Grow.trans{a b c:List (aa)}(h1:Grow es a b)(h2:Grow es b c):Grow es a c:=
 ⟨fun y h=>h2.1 y (h1.1 y h),fun y hy hn r hr=>by
  by_cases hb:y∈b
  . exact h2.1 r (h1.2.1 y hb hn r hr)
  . exact h2.2.1 y hy hb r hr,fun h=>h2.2.2 (h1.2.2 h)⟩
theorem we{f:List (aa)->aa->List (aa)}:∀(l:List (aa)) (ks:List (aa)),(∀r∈l,∀a,Grow es a (f a r)/\r∈f a r)->Grow es ks (l.foldl f ks)/\∀r∈l,r∈l.foldl f ks
 | [],ks,_=>⟨.refl ks,fun _ h=>by cases h⟩
 |x::l,ks,h=>by
  obtain⟨g1,g2⟩:=h x (by simp) ks;obtain⟨g3,g4⟩:=we l (f ks x) fun r hr=>h r (by simp[hr]);refine⟨g1.trans g3,fun r hr=>?_⟩;rcases aE.1 hr with rfl|hr
  . exact g3.1 _ g2
  . exact g4 r hr
theorem C5:∀(k:Nat) (x:aa) (ks:List (aa)),Ends es k x->Grow es ks (lR es k x ks)/\x∈lR es k x ks
 |0,_,_,h=>h.elim
 |k+1,x,ks,h=>by
  unfold lR;split
  . rename_i hx;exact⟨.refl ks,hx⟩
  . rename_i hx;obtain⟨g1,g2⟩:=we (es:=es) (f:=fun a r=>lR es k r a) (pb es x) (ks++[x]) fun r hr a=>C5 k r a (h.2.2 r hr);have ON:=g1.1 x (by simp);refine⟨⟨fun y hy=>g1.1 y (by simp[hy]),fun y hy hn r hr=>?_,fun hn=>g1.2.2 ?_⟩,ON⟩
    . by_cases e:y=x
      . subst e;exact g2 r hr
      . exact g1.2.1 y hy (by simp[hn,e]) r hr
    . exact List.nodup_append.2 ⟨hn,by simp,fun a ha b hb=>by rw[aq]at hb;subst hb;intro e;subst e;exact hx ha⟩
theorem xJ{f:List (aa)->aa->List (aa)}{P:aa->Prop}:∀(l:List (aa)) (ks:List (aa)),(∀r∈l,∀a,∀y∈f a r,y∈a\/P y)->∀y∈l.foldl f ks,y∈ks\/P y
 | [],_,_,y,hy=>.inl hy
 |x::l,ks,h,y,hy=>by
  rcases xJ l (f ks x) (fun r hr=>h r (by simp[hr])) y hy with h1|h1
  . exact h x (by simp) ks y h1
  . exact .inr h1
theorem E6:∀(k:Nat) (x:aa) (ks:List (aa)),∀y∈lR es k x ks,y∈ks\/XA es x y
 |0,_,_,_,h=>.inl h
 |k+1,x,ks,y,h=>by
  unfold lR at h;split at h
  . exact .inl h
  . rcases xJ (P:=XA es x) (pb es x) (ks++[x]) (fun r hr a z hz=>(E6 k r a z hz).imp id fun q=>.step x r z hr q) y h with h1|h1
    . rcases aU.1 h1 with h2|h2
      . exact .inl h2
      . rw[aq]at h2;subst h2;exact .inr (.self _)
    . exact .inr h1
theorem GG{S:List (aa)}(hS:∀y∈S,∀r∈pb es y,r∈S){x y:aa}(h:XA es x y):x∈S->y∈S:=by
 induction h with
 |self x=>exact id
 |step x y z hr _ ih=>exact fun hx=>ih (hS x hx y hr)
section
variable{k:Nat}{ds:List (aa)}
theorem C6(he:∀d∈ds,Ends es k d)(y:aa):y∈lu es k ds↔∃d∈ds,XA es d y:=by
 obtain⟨g1,g2⟩:=we (es:=es) (f:=fun a d=>lR es k d a) ds [] fun r hr a=>C5 k r a (he r hr);constructor
 . intro h;rcases xJ (P:=fun y=>∃d∈ds,XA es d y) ds [] (fun r hr a z hz=>(E6 k r a z hz).imp id fun q=>⟨r,hr,q⟩) y h with h1|h1
   . cases h1
   . exact h1
 . rintro⟨d,hd,hr⟩;exact GG (fun y hy r hr=>g1.2.1 y hy (by simp) r hr) hr (g2 d hd)
theorem y7(he:∀d∈ds,Ends es k d):(lu es k ds).Nodup:=
 (we (es:=es) (f:=fun a d=>lR es k d a) ds [] fun r hr a=>C5 k r a (he r hr)).1.2.2 List.nodup_nil
theorem IJ{a b:List (aa)}(hp:List.Perm a b)(he:∀d∈b,Ends es k d):List.Perm (lu es k a) (lu es k b):=by
 have ha:∀d∈a,Ends es k d:=fun d h=>he d (hp.mem_iff.1 h);refine(List.perm_ext_iff_of_nodup (y7 ha) (y7 he)).2 fun y=>?_;rw[C6 ha,C6 he];exact⟨fun⟨d,h,r⟩=>⟨d,hp.mem_iff.1 h,r⟩,fun⟨d,h,r⟩=>⟨d,hp.mem_iff.2 h,r⟩⟩
end
section
variable(cN cO:Nat)(b:aa)(fl nx lf:Int)(es rt:ae)
section
variable(sn:ae)
noncomputable def Rl:St:=eG [(0,.fn (.yield 13) [] []),(6,.ptr (some (14,0)))] ((Mo cN cO b fl nx lf es rt sn).set 6 none) 15
noncomputable def s4x(kn d:aa):St:={ Rl cN cO b fl nx lf es rt sn with fr:=(((((Rl cN cO b fl nx lf es rt sn).fr.set 7 (some (.eo [.bool true,.str kn,.str d]))).set 8 (some (.bool true))).set 9 (some (.eo [.str kn,.str d]))).set 10 (some (.str d))).set 4 (some (.str d)) }
def lR7:af:=eN (pS cN cO b fl nx lf es rt)++[(7,.cells [.map (some 6)])]
def hRx:Tr O:=hL (lR7 cN cO b fl nx lf es rt++[(8,.dD none sn)])
end
end
noncomputable abbrev alc(args:ag)(h:Tr O)(n:Nat)(v:V)(h1:Tr O)(n1:Nat):eX:=gC ak (Ut 77 args h n v h1 n1 W19) H0 1000 40
section
variable(cN cO:Nat)(b:aa)(fl nx lf:Int)
theorem ald(es rt:ae)(sn sn2:ae)(kn d:aa):c5 (alc (aV d) (Xz cN cO b fl nx lf es rt sn) 15 (.eo []) (Xz cN cO b fl nx lf es rt sn2) 15) [] 15 Tryz.f78 [0,6] ((si Gs).rest) (s4x cN cO b fl nx lf es rt sn kn d) [([],
   [(aV d=aV d/\Xz cN cO b fl nx lf es rt sn=Xz cN cO b fl nx lf es rt sn/\15=15)],
   .to .normal (Rl cN cO b fl nx lf es rt sn2))]
 :=cP.of U U U
theorem ale(es rt:ae):c5 lQ [] 8 Tryz.f51 [1,5,6] (eR 4 QT) (cR [P3,f78] (hL (lR7 cN cO b fl nx lf es rt)) 8) [([],
   [],
   .to .normal (eG [(1,.fn (.func 78) [] [.ptr (some (7,0))]),(5,.ptr (some (8,0))),(6,.ptr (some (10,0)))] (hL (eN (pS cN cO b fl nx lf es rt)++[(7,.cells [.map (some 6)]),(8,.cells [.map (some 9)]),(9,.map [] 0),(10,.cells [.fn (.func 77) [] [.ptr (some (8,0)),.ptr (some (11,0)),.ptr (some (10,0))]]),(11,.cells [.ptr (some (3,0))])])) 12))]
 :=cP.of U U U
theorem alf(es rt:ae):c5 lQ [] 8 Tryz.f51 [5,6,10] (dO (dO Gr)) (eG [(1,f78),(5,P8),(6,N9)] (hL (lV cN cO b fl nx lf es rt [])) 12) [([],
   [],
   .to .normal (UH cN cO b fl nx lf es rt))]
 :=cP.of U U U
theorem alg(es rt sn:ae):vj ak lQ [] 1000 8 Tryz.f51 (dY Gr) (tx (UH cN cO b fl nx lf es rt) (Mo cN cO b fl nx lf es rt sn) 14)
  [([],
   [],
   .ret (.map (some 8)) (hRx cN cO b fl nx lf es rt sn) 9)]
 :=⟨U,U,U⟩
end
def DM(rt:ae):Prop:=∀e∈rt,∃n d,e=(.str n,.str d)
def iE(rt:ae):List (aa):=rt.map fun e=>D.Ze e.2
section
variable(cN cO:Nat)(b:aa)(fl nx lf:Int)(es rt:ae)
theorem Mp(sn:ae):∀k,(Xz cN cO b fl nx lf es rt sn).get k=(mV cN cO b fl nx lf es rt sn).get k:=by
 have key:∀k,k<15->(Xz cN cO b fl nx lf es rt sn).get k=(mV cN cO b fl nx lf es rt sn).get k:=by
  intro k hk;rcases(by omega:k=0\/k=1\/k=2\/k=3\/k=4\/k=5\/k=6\/k=7\/k=8\/k=9\/k=10\/k=11\/k=12\/k=13\/k=14)with rfl|rfl|rfl|rfl|rfl|rfl|rfl|rfl|rfl|rfl|rfl|rfl|rfl|rfl|rfl<;>kernel_rfl
 exact Uu (l:=lVx cN cO b fl nx lf es rt sn) (l0:=lMv cN cO b fl nx lf es rt sn) (a:=6) (b:=13) (N:=15) U U dN dN dN key
section
variable(k:Nat)
theorem UJ(x:aa)(ks:List (aa))(h:Ends es k x):cT ak 77 (aV x) (Xz cN cO b fl nx lf es rt (nF ks)) 15 (.eo []) (Xz cN cO b fl nx lf es rt (nF (lR es k x ks))) 15:=
 cT.ext (Mp cN cO b fl nx lf es rt _) (Mp cN cO b fl nx lf es rt _) (Rk cN cO b fl nx lf es rt k x ks h)
abbrev RVx(v:V)(h:Tr O)(n:Nat):Prop:=∃iy,List.Perm iy rt/\v= .eo []/\h=Mo cN cO b fl nx lf es rt (nF (lu es k (iE iy)))/\n=14
theorem UK(Js:DM rt)(he:∀d∈iE rt,Ends es k d):fO ak 78 [.fn (.yield 13) [] [],.ptr (some (7,0))] (Mo cN cO b fl nx lf es rt (nF [])) 14 (RVx cN cO b fl nx lf es rt k):=by
 refine gB mo po Tryz.func78 (code:=Gs) U U ?_;rw[adW];refine yW (v0:=.map (some 6)) (jY:=(cR [.fn (.yield 13) [] [],.ptr (some (7,0))] (Mo cN cO b fl nx lf es rt (nF [])) 14).fr.set 5 (some (.map (some 6)))) (zB:=((cR [.fn (.yield 13) [] [],.ptr (some (7,0))] (Mo cN cO b fl nx lf es rt (nF [])) 14).fr.set 5 (some (.map (some 6)))).set 6 (some (.ptr (some (14,0))))) (m:=6) (kd:=none) (es:=rt) mo L9
  U U U U (au rfl) U (fun iy s1=>eU 15 [0,6] s1=some (Rl cN cO b fl nx lf es rt (nF (lu es k (iE iy))))) U ?_
 rintro iy left s1 hs hp;refine⟨[0,6],_,hs,U,fun hl=>?_,fun e j9 he2=>?_⟩
 . subst hl;rw[ct]at hp;refine⟨(Rl cN cO b fl nx lf es rt (nF (lu es k (iE iy)))).fr.set 7 (some (.eo [.bool false])),{ Rl cN cO b fl nx lf es rt (nF (lu es k (iE iy)))with fr:=((Rl cN cO b fl nx lf es rt (nF (lu es k (iE iy)))).fr.set 7 (some (.eo [.bool false]))).set 8 (some (.bool false)) },U,U,U,.inl rfl,.eo [],Mo cN cO b fl nx lf es rt (nF (lu es k (iE iy))),14,U,iy,hp,rfl,rfl,rfl⟩
 . have xo:e∈rt:=hp.mem_iff.1 (bZ _ (he2.mem_iff.2 (by simp)));obtain⟨kn,d,rfl⟩:=Js e xo;have hd:Ends es k d:=he d (bA.2 ⟨_,xo,rfl⟩);have pg:lu es k (iE (iy++[(.str kn,.str d)]))=lR es k d (lu es k (iE iy)):=by
    unfold lu iE;rw[aX,List.foldl_append];rfl
   rw[pg];generalize lu es k (iE iy)=ks at *;refine⟨(Rl cN cO b fl nx lf es rt (nF ks)).fr.set 7 (some (.eo [.bool true,.str kn,.str d])),{ Rl cN cO b fl nx lf es rt (nF ks)with fr:=((Rl cN cO b fl nx lf es rt (nF ks)).fr.set 7 (some (.eo [.bool true,.str kn,.str d]))).set 8 (some (.bool true)) },
    (((Rl cN cO b fl nx lf es rt (nF ks)).fr.set 7 (some (.eo [.bool true,.str kn,.str d]))).set 8 (some (.bool true))).set 9 (some (.eo [.str kn,.str d])),s4x cN cO b fl nx lf es rt (nF ks) kn d,U,U,U,U,U,U,U,U,?_⟩
   refine fV (CX.of mo po (Mg aeN (UJ cN cO b fl nx lf es rt k d ks hd) GB) H0 1000 40) (ald cN cO b fl nx lf es rt (nF ks) (nF (lR es k d ks)) kn d) (dI ?_);exact⟨e9 ⟨rfl,rfl,rfl⟩,fun s' dX=>dX⟩
def pQ(es rt:ae)(k:Nat):List (aa):=lu es k (iE rt)
theorem Mq(Js:DM rt)(he:∀d∈iE rt,Ends es k d):cT ak 51 [P3,f78] (hL (lR7 cN cO b fl nx lf es rt)) 8 (.map (some 8)) (hRx cN cO b fl nx lf es rt (nF (pQ es rt k))) 9:=by
 refine cZ Tryz.func51 (code:=QT) U U ?_;refine iJ  4 uc (ale cN cO b fl nx lf es rt) cQ ?_;refine z7 [(9,none)] (s2:=eG [(1,f78),(5,P8),(6,N9)] (hL (lV cN cO b fl nx lf es rt [])) 12) U ?_;show TG ak 8 Tryz.f51.ntmps Gr _ _;refine cV U ?_;refine cV U ?_;refine fV uc (alf cN cO b fl nx lf es rt) (dI ?_);refine⟨cQ,fun s' dX=>c6 dX ?_⟩;refine fh (i:=0) U ?_;refine oe (gf:=78) (lb:=[.ptr (some (7,0))]) U U U U U (UK cN cO b fl nx lf es rt k Js he) ?_;rintro v h n ⟨iy,hp,rfl,rfl,rfl⟩;have ES:List.Perm (nF (lu es k (iE iy))) (nF (pQ es rt k)):=(IJ (hp.map _) he).map _;generalize nF (lu es k (iE iy))=sn at ES ⊢;generalize nF (pQ es rt k)=sn0 at ES ⊢;refine⟨U,?_⟩;show TG ak 8 Tryz.f51.ntmps (dY Gr) (tx (UH cN cO b fl nx lf es rt) (Mo cN cO b fl nx lf es rt sn) 14) _;have hg:(tx (UH cN cO b fl nx lf es rt) (Mo cN cO b fl nx lf es rt sn) 14).h.get 9=some (.dD none sn):=by kernel_rfl
 refine Kf (h2:=(tx (UH cN cO b fl nx lf es rt) (Mo cN cO b fl nx lf es rt sn) 14).h.set 9 (some (.dD none sn0))) (fun E w g=>r7 dN hg rfl (fun b s _ r=>NK ES r) g) ?_;have e:({ tx (UH cN cO b fl nx lf es rt) (Mo cN cO b fl nx lf es rt sn) 14 with h:=(tx (UH cN cO b fl nx lf es rt) (Mo cN cO b fl nx lf es rt sn) 14).h.set 9 (some (.dD none sn0)) }:St)=tx (UH cN cO b fl nx lf es rt) (Mo cN cO b fl nx lf es rt sn0) 14:=by kernel_rfl
 rw[e];refine ru uc mo _ U (alg cN cO b fl nx lf es rt sn0) (dI ?_);exact⟨cQ,_,_,_,rfl,rfl,rfl,rfl⟩
end
end
noncomputable abbrev aeP:Code:=dU Tryz.f17
noncomputable abbrev UL:Code:=dU Tryz.f66
section
variable(cN cO:Nat)(b:aa)(fl nx lf:Int)
theorem alh(es rt sn:ae)(d:aa)(c:Bool):c5 (fK lQ 51 [P3,f78] (hL (lR7 cN cO b fl nx lf es rt)) 8 (.map (some 8),hRx cN cO b fl nx lf es rt sn,9)) [(17,.c9 (.bool c))] 7 Tryz.f17 [] (aeP) (cR [P3,.str d] (eu (pS cN cO b fl nx lf es rt)) 7) [([],
   [([P3,f78]=[P3,f78]/\hL (lR7 cN cO b fl nx lf es rt)=hL (lR7 cN cO b fl nx lf es rt)/\8=8),((if false=true then V.eo [D.fS (V.bool false) (dc (D.str d) sn),V.bool (dc (D.str d) sn).isSome]else D.fS (V.bool false) (dc (D.str d) sn))=V.bool c)],
   .ret (.bool c) (eu (pS cN cO b fl nx lf es rt)) 7)]
 :=cP.of U U U
theorem ali(es rt:ae):c5 lQ [] 7 Tryz.f66 [] (UL) (cR [P3] (eu (pS cN cO b fl nx lf es rt)) 7) [([],
   [],
   .ret (.int .i64 0) (eu (pS cN cO b (Int.ofNat cN) nx lf es rt)) 7)]
 :=cP.of U U U
end
theorem alj(fl nx lf:Int)(es rt:ae):c5 lQ [] 7 Tryz.f66 [] (UL) (cR [P3] (eu (pN fl nx lf es rt)) 7) [([],
   [],
   .ret (.int .i64 0) (eu (pN 0 nx lf es rt)) 7)]
 :=cP.of U U U
noncomputable abbrev wv:Code:=dU Tryz.f16
section
variable(n:aa)(l:List (Nat×List (Nat×oT)))(rE:aa)(cN cO:Nat)(b:aa)(fl nx lf:Int)
noncomputable abbrev XB:eX:=gC ak W16 (sg l) 1000 40
noncomputable abbrev XU:CX ak:=CX.of mo po Gu (sg l) 1000 40
def hRn(d0:aa)(jI:List (aa))(k:Int):List (Nat×List (Nat×oT)):=[(18,[(15,.c9 (.eo [od d0 jI k,.bool true]))]),(46,[(13,.c9 (.bool false))]),(50,[(7,.c9 (.bool false))])]
def hRt(ex b1 b2 b3 b4 b5 b6:Bool):List (Nat×oT):=[(18,.c9 (.eo [.str rE,.bool ex])),(23,.c9 (.bool b1)),(27,.c9 (.bool b2)),(31,.c9 (.bool b3)),(36,.c9 (.bool b4)),(40,.c9 (.bool b3)),(51,.c9 (.bool b5)),(56,.c9 (.bool b6))]
theorem Rm(d rE:aa)(ex:Bool)(cN cO:Nat)(b:aa)(fl nx lf:Int)(es rt:ae):c5 (XB [(18,[(15,.c9 (.eo [Bh,.bool false]))])]) (hRt rE ex false false true true false false) 7 Tryz.f16 [] (wv) (cR [P3,.str n,.str d] (eu (pS cN cO b fl nx lf es rt)) 7) [([],
   [((if true=true then V.eo [D.fS (V.str ([]:aa)) (dc (D.str n) rt),V.bool (dc (D.str n) rt).isSome]else D.fS (V.str ([]:aa)) (dc (D.str n) rt))=V.eo [V.str rE,V.bool ex]),(V.bool (eE n ([]:aa))=V.bool false),(V.bool (decide ((Int.ofNat n.length)>(64:Int)))=V.bool false),((V.bool !eE d ([]:aa))=V.bool true),((if true=true then V.eo [D.fS (V.agg [V.str ([]:aa),V.di none 0 0 0,V.int aj (0:Int)]) (dc (D.str d) es),V.bool (dc (D.str d) es).isSome]else D.fS (V.agg [V.str ([]:aa),V.di none 0 0 0,V.int aj (0:Int)]) (dc (D.str d) es))=V.eo [Bh,V.bool false]),((V.bool !false)=V.bool true)],
   .ret (.int .i64 62) (eu (pS cN cO b fl nx lf es rt)) 7)]
 :=cP.of U U U
theorem UM(d d0:aa)(jI:List (aa))(k:Int)(cN cO:Nat)(b:aa)(fl nx lf:Int)(es rt:ae):c5 (XB (NU d0 jI k)) (hRt d true false false true false false true) 7 Tryz.f16 [] (wv) (cR [P3,.str n,.str d] (eu (pS cN cO b fl nx lf es rt)) 7) [([],
   [((if true=true then V.eo [D.fS (V.str ([]:aa)) (dc (D.str n) rt),V.bool (dc (D.str n) rt).isSome]else D.fS (V.str ([]:aa)) (dc (D.str n) rt))=V.eo [V.str d,V.bool true]),(V.bool (eE n ([]:aa))=V.bool false),(V.bool (decide ((Int.ofNat n.length)>(64:Int)))=V.bool false),((V.bool !eE d ([]:aa))=V.bool true),((if true=true then V.eo [D.fS (V.agg [V.str ([]:aa),V.di none 0 0 0,V.int aj (0:Int)]) (dc (D.str d) es),V.bool (dc (D.str d) es).isSome]else D.fS (V.agg [V.str ([]:aa),V.di none 0 0 0,V.int aj (0:Int)]) (dc (D.str d) es))=V.eo [od d0 jI k,V.bool true]),((V.bool !true)=V.bool false),((V.bool !eE d ([]:aa))=V.bool true),(V.bool (eE d d)=V.bool true)],
   .ret (.int .i64 0) (eu (pS cN cO b fl nx lf es rt)) 7)]
 :=cP.of U U U
theorem UN(es rt:ae):c5 (XB []) (hRt [] false false false false false false true) 7 Tryz.f16 [] (wv) (cR [P3,.str n,.str []] (eu (pS cN cO b fl nx lf es rt)) 7) [([],
   [((if true=true then V.eo [D.fS (V.str ([]:aa)) (dc (D.str n) rt),V.bool (dc (D.str n) rt).isSome]else D.fS (V.str ([]:aa)) (dc (D.str n) rt))=V.eo [V.str [],V.bool false]),(V.bool (eE n ([]:aa))=V.bool false),(V.bool (decide ((Int.ofNat n.length)>(64:Int)))=V.bool false),((V.bool !eE [] ([]:aa))=V.bool false),((V.bool !eE [] ([]:aa))=V.bool false),(V.bool (eE [] [])=V.bool true)],
   .ret (.int .i64 0) (eu (pS cN cO b fl nx lf es rt)) 7)]
 :=cP.of U U U
theorem aag(d d0:aa)(jI:List (aa))(k:Int)(cN cO:Nat)(b:aa)(fl nx lf:Int)(es rt:ae):c5 (XB (hRn d0 jI k)) (hRt [] false false false true false false false) 7 Tryz.f16 [] (wv) (cR [P3,.str n,.str d] (eu (pS cN cO b fl nx lf es rt)) 7) [([],
   [((if true=true then V.eo [D.fS (V.str ([]:aa)) (dc (D.str n) rt),V.bool (dc (D.str n) rt).isSome]else D.fS (V.str ([]:aa)) (dc (D.str n) rt))=V.eo [V.str [],V.bool false]),(V.bool (eE n ([]:aa))=V.bool false),(V.bool (decide ((Int.ofNat n.length)>(64:Int)))=V.bool false),((V.bool !eE d ([]:aa))=V.bool true),((if true=true then V.eo [D.fS (V.agg [V.str ([]:aa),V.di none 0 0 0,V.int aj (0:Int)]) (dc (D.str d) es),V.bool (dc (D.str d) es).isSome]else D.fS (V.agg [V.str ([]:aa),V.di none 0 0 0,V.int aj (0:Int)]) (dc (D.str d) es))=V.eo [od d0 jI k,V.bool true]),((V.bool !true)=V.bool false),((V.bool !eE d ([]:aa))=V.bool true),(V.bool (decide ((Int.ofNat rt.length)>=(64:Int)))=V.bool false),(V.bool (eE d [])=V.bool false),(n.length<100000000),(d.length<100000000),(V.bool (decide (IntKind.i64.wrap ((Int.ofNat cN)+(Int.ofNat (kN n d).length))>(1048576:Int)))=V.bool false),(0<cO),(cN=b.length),(eP (cN+(kN n d).length) 1 1=true),(V.bool (eE d ([]:aa))=V.bool false)],
   .ret (.int .i64 0) (hL [(0,.ints .u32 gS),(1,.ints .u32 gR),(3,.cells [.di (some (7,0)) (cN+(kN n d).length) (cN+(kN n d).length) 1,.int .i64 fl,.map (some 5),.map (some 6),.int .i64 nx,.bool false,.bool false,.int .i64 lf]),(5,.dD none es),(6,.dD none (gY (D.str n) (D.str d) rt)),(7,.iS 5 false (b++eM (dP (kN n d))))]) 8)]
 :=cP.of U U U
theorem aah(d rE d0:aa)(jI:List (aa))(k:Int)(cN cO:Nat)(b:aa)(fl nx lf:Int)(es rt:ae):c5 (XB (hRn d0 jI k)) (hRt rE true false false true false false false) 7 Tryz.f16 [] (wv) (cR [P3,.str n,.str d] (eu (pS cN cO b fl nx lf es rt)) 7) [([],
   [((if true=true then V.eo [D.fS (V.str ([]:aa)) (dc (D.str n) rt),V.bool (dc (D.str n) rt).isSome]else D.fS (V.str ([]:aa)) (dc (D.str n) rt))=V.eo [V.str rE,V.bool true]),(V.bool (eE n ([]:aa))=V.bool false),(V.bool (decide ((Int.ofNat n.length)>(64:Int)))=V.bool false),((V.bool !eE d ([]:aa))=V.bool true),((if true=true then V.eo [D.fS (V.agg [V.str ([]:aa),V.di none 0 0 0,V.int aj (0:Int)]) (dc (D.str d) es),V.bool (dc (D.str d) es).isSome]else D.fS (V.agg [V.str ([]:aa),V.di none 0 0 0,V.int aj (0:Int)]) (dc (D.str d) es))=V.eo [od d0 jI k,V.bool true]),((V.bool !true)=V.bool false),((V.bool !eE d ([]:aa))=V.bool true),(V.bool (eE d rE)=V.bool false),(n.length<100000000),(d.length<100000000),(V.bool (decide (IntKind.i64.wrap ((Int.ofNat cN)+(Int.ofNat (kN n d).length))>(1048576:Int)))=V.bool false),(0<cO),(cN=b.length),(eP (cN+(kN n d).length) 1 1=true),(V.bool (eE d ([]:aa))=V.bool false)],
   .ret (.int .i64 0) (hL [(0,.ints .u32 gS),(1,.ints .u32 gR),(3,.cells [.di (some (7,0)) (cN+(kN n d).length) (cN+(kN n d).length) 1,.int .i64 fl,.map (some 5),.map (some 6),.int .i64 nx,.bool false,.bool false,.int .i64 lf]),(5,.dD none es),(6,.dD none (gY (D.str n) (D.str d) rt)),(7,.iS 5 false (b++eM (dP (kN n d))))]) 8)]
 :=cP.of U U U
theorem aai(es rt:ae):c5 (XB [(46,[(13,.c9 (.bool false))]),(50,[(7,.c9 (.bool true))])]) (hRt rE true false false false false false false) 7 Tryz.f16 [] (wv) (cR [P3,.str n,.str []] (eu (pS cN cO b fl nx lf es rt)) 7) [([],
   [((if true=true then V.eo [D.fS (V.str ([]:aa)) (dc (D.str n) rt),V.bool (dc (D.str n) rt).isSome]else D.fS (V.str ([]:aa)) (dc (D.str n) rt))=V.eo [V.str rE,V.bool true]),(V.bool (eE n ([]:aa))=V.bool false),(V.bool (decide ((Int.ofNat n.length)>(64:Int)))=V.bool false),((V.bool !eE [] ([]:aa))=V.bool false),((V.bool !eE [] ([]:aa))=V.bool false),(V.bool (eE [] rE)=V.bool false),(n.length<100000000),(0<100000000),(V.bool (decide (IntKind.i64.wrap ((Int.ofNat cN)+(Int.ofNat (kN n []).length))>(1048576:Int)))=V.bool false),(0<cO),(cN=b.length),(eP (cN+(kN n []).length) 1 1=true),(V.bool (eE [] ([]:aa))=V.bool true)],
   .ret (.int .i64 0) (hL [(0,.ints .u32 gS),(1,.ints .u32 gR),(3,.cells [.di (some (7,0)) (cN+(kN n []).length) (cN+(kN n []).length) 1,.int .i64 fl,.map (some 5),.map (some 6),.int .i64 nx,.bool false,.bool false,.int .i64 lf]),(5,.dD none es),(6,.dD none (lB (D.str n) rt)),(7,.iS 5 false (b++eM (dP (kN n []))))]) 8)]
 :=cP.of U U U
end
section
variable{a:aa}{rt:ae}{n b:aa}
theorem y8{rE:aa}(h:dc (.str n) rt=some (.str rE)):(if true=true then V.eo [D.fS (V.str ([]:aa)) (dc (D.str n) rt),V.bool (dc (D.str n) rt).isSome]else D.fS (V.str ([]:aa)) (dc (D.str n) rt))=V.eo [V.str rE,V.bool true]:=by
 rw[h];rfl
theorem KX(h:dc (.str n) rt=none):(if true=true then V.eo [D.fS (V.str ([]:aa)) (dc (D.str n) rt),V.bool (dc (D.str n) rt).isSome]else D.fS (V.str ([]:aa)) (dc (D.str n) rt))=V.eo [V.str [],V.bool false]:=by
 rw[h];rfl
theorem alk{p:Prop}[Decidable p](h:p):V.bool (decide p)=V.bool true:=by rw[bL h]
theorem aeQ{p:Prop}[Decidable p](h:¬p):V.bool (decide p)=V.bool false:=by rw[bC h]
theorem alm(h:a=b):V.bool (eE a b)=V.bool true:=by rw[fT,beq_iff_eq.2 h]
theorem y9(h:a≠b):V.bool (eE a b)=V.bool false:=by rw[fT,beq_eq_false_iff_ne.2 h]
theorem GH(h:a≠b):(V.bool !eE a b)=V.bool true:=by rw[fT,beq_eq_false_iff_ne.2 h];rfl
theorem GI(h:n.length<=64):V.bool (decide ((Int.ofNat n.length)>(64:Int)))=V.bool false:=aeQ (by rw[show Int.ofNat n.length=(n.length:Int)from rfl];omega)
end
def RtE(rt:ae):Prop:=∀n,dc (.str n) rt=none\/∃d,dc (.str n) rt=some (.str d)
section
variable(n d:aa)(cN cO:Nat)(b:aa)(fl nx lf:Int)(es rt:ae)
abbrev UO:Prop:=n≠[]/\n.length<=64
abbrev Mr(m:Nat)(b':aa)(rt':ae):Tr O:=QM m b' fl nx lf es rt'
theorem KY(Js:RtE rt)(hn:UO n)(hd:d≠[])(hk:dc (.str d) es=none):cT ak 16 [P3,.str n,.str d] (eu (pS cN cO b fl nx lf es rt)) 7 (.int .i64 62) (eu (pS cN cO b fl nx lf es rt)) 7:=by
 have hO:∀n:Nat,Int.ofNat n=(n:Int):=fun _=>rfl;have hw:∃rE ex,(if true=true then V.eo [D.fS (V.str ([]:aa)) (dc (D.str n) rt),V.bool (dc (D.str n) rt).isSome]else D.fS (V.str ([]:aa)) (dc (D.str n) rt))=V.eo [V.str rE,V.bool ex]:=by
  rcases Js n with h|⟨w,h⟩
  . exact⟨_,_,KX h⟩
  . exact⟨_,_,y8 h⟩
 obtain⟨rE,ex,hw⟩:=hw;refine cZ Tryz.func16 (code:=wv) U U ?_;refine fu (XU [(18,[(15,.c9 (.eo [Bh,.bool false]))])]) (Rm n d rE ex cN cO b fl nx lf es rt) (dI ?_);refine⟨?_,_,_,_,rfl,rfl,rfl,rfl⟩
 repeat' (first|exact cQ|refine jn ?_ ?_)
 . exact hw
 . exact y9 hn.1
 . exact GI hn.2
 . exact GH hd
 . exact qC hk
 . rfl
theorem Oa(hn:UO n)(hd:d≠[])(hk:D3 es d)(tO:dc (.str n) rt=some (.str d)):cT ak 16 [P3,.str n,.str d] (eu (pS cN cO b fl nx lf es rt)) 7 (.int .i64 0) (eu (pS cN cO b fl nx lf es rt)) 7:=by
 have hO:∀n:Nat,Int.ofNat n=(n:Int):=fun _=>rfl;obtain⟨d0,jI,k,hk⟩:=hk;refine cZ Tryz.func16 (code:=wv) U U ?_;refine fu (XU (NU d0 jI k)) (UM n d d0 jI k cN cO b fl nx lf es rt) (dI ?_);refine⟨?_,_,_,_,rfl,rfl,rfl,rfl⟩
 repeat' (first|exact cQ|refine jn ?_ ?_)
 . exact y8 tO
 . exact y9 hn.1
 . exact GI hn.2
 . exact GH hd
 . exact l9 hk
 . rfl
 . exact GH hd
 . exact alm rfl
theorem Oc(hn:UO n)(tO:dc (.str n) rt=none):cT ak 16 [P3,.str n,.str []] (eu (pS cN cO b fl nx lf es rt)) 7 (.int .i64 0) (eu (pS cN cO b fl nx lf es rt)) 7:=by
 have hO:∀n:Nat,Int.ofNat n=(n:Int):=fun _=>rfl;refine cZ Tryz.func16 (code:=wv) U U ?_;refine fu (XU []) (UN n cN cO b fl nx lf es rt) (dI ?_);refine⟨?_,_,_,_,rfl,rfl,rfl,rfl⟩
 repeat' (first|exact cQ|refine jn ?_ ?_)
 . exact KX tO
 . exact y9 hn.1
 . exact GI hn.2
 all_goals first|rfl|trivial
theorem Rn(hn:UO n)(hd:d≠[])(hdl:d.length<=100)(hk:D3 es d)(tO:dc (.str n) rt=none)(h64:rt.length<64)(hc:0<cO)(hl:cN=b.length)(M9:cN+(kN n d).length<=1048576):
  cT ak 16 [P3,.str n,.str d] (eu (pS cN cO b fl nx lf es rt)) 7 (.int .i64 0) (Mr fl nx lf es (cN+(kN n d).length) (b++kN n d) (gY (.str n) (.str d) rt)) 8:=by
 have hO:∀n:Nat,Int.ofNat n=(n:Int):=fun _=>rfl;obtain⟨d0,jI,k,hk⟩:=hk;refine cZ Tryz.func16 (code:=wv) U U ?_;obtain⟨L,hr⟩:=aag n d d0 jI k cN cO b fl nx lf es rt;simp only[gd]at hr;refine ia (XU (hRn d0 jI k)) mo _ U hr (dI ?_);refine⟨?_,_,_,_,rfl,rfl,rfl,rfl⟩
 repeat' (first|exact cQ|refine jn ?_ ?_)
 . exact KX tO
 . exact y9 hn.1
 . exact GI hn.2
 . exact GH hd
 . exact l9 hk
 . rfl
 . exact GH hd
 . exact aeQ de
 . exact y9 hd
 . exact Nat.lt_of_le_of_lt hn.2 dN
 . omega
 . rw[fC de de];exact iX de
 . exact hc
 . exact hl
 . exact ji be
 . exact y9 hd
theorem Ro(rE:aa)(hn:UO n)(hd:d≠[])(hdl:d.length<=100)(hk:D3 es d)(tO:dc (.str n) rt=some (.str rE))(fL:d≠rE)(hc:0<cO)(hl:cN=b.length)(M9:cN+(kN n d).length<=1048576):
  cT ak 16 [P3,.str n,.str d] (eu (pS cN cO b fl nx lf es rt)) 7 (.int .i64 0) (Mr fl nx lf es (cN+(kN n d).length) (b++kN n d) (gY (.str n) (.str d) rt)) 8:=by
 have hO:∀n:Nat,Int.ofNat n=(n:Int):=fun _=>rfl;obtain⟨d0,jI,k,hk⟩:=hk;refine cZ Tryz.func16 (code:=wv) U U ?_;obtain⟨L,hr⟩:=aah n d rE d0 jI k cN cO b fl nx lf es rt;simp only[gd]at hr;refine ia (XU (hRn d0 jI k)) mo _ U hr (dI ?_);refine⟨?_,_,_,_,rfl,rfl,rfl,rfl⟩
 repeat' (first|exact cQ|refine jn ?_ ?_)
 . exact y8 tO
 . exact y9 hn.1
 . exact GI hn.2
 . exact GH hd
 . exact l9 hk
 . rfl
 . exact GH hd
 . exact y9 fL
 . exact Nat.lt_of_le_of_lt hn.2 dN
 . omega
 . rw[fC de de];exact iX de
 . exact hc
 . exact hl
 . exact ji be
 . exact y9 hd
theorem Rp(rE:aa)(hn:UO n)(tO:dc (.str n) rt=some (.str rE))(fL:rE≠[])(hc:0<cO)(hl:cN=b.length)(M9:cN+(kN n []).length<=1048576):
  cT ak 16 [P3,.str n,.str []] (eu (pS cN cO b fl nx lf es rt)) 7 (.int .i64 0) (Mr fl nx lf es (cN+(kN n []).length) (b++kN n []) (lB (.str n) rt)) 8:=by
 have hO:∀n:Nat,Int.ofNat n=(n:Int):=fun _=>rfl;refine cZ Tryz.func16 (code:=wv) U U ?_;obtain⟨L,hr⟩:=aai n rE cN cO b fl nx lf es rt;simp only[gd]at hr;refine ia (XU [(46,[(13,.c9 (.bool false))]),(50,[(7,.c9 (.bool true))])]) mo _ U hr (dI ?_);refine⟨?_,_,_,_,rfl,rfl,rfl,rfl⟩
 repeat' (first|exact cQ|refine jn ?_ ?_)
 . exact y8 tO
 . exact y9 hn.1
 . exact GI hn.2
 . rfl
 . rfl
 . exact y9 fL.symm
 . exact Nat.lt_of_le_of_lt hn.2 dN
 . decide
 . rw[fC de de];exact iX de
 . exact hc
 . exact hl
 . exact ji be
 . rfl
end
open Go.Shelf Go.RowKit
def aeR:Go.Shelf.Ren:=⟨fun|42=>63|n=>n,fun n=>n,fun n=>n⟩
theorem Rq:SlLaysN.n42 ak aeR:={
 mixed:=mo
 f42:=⟨"slices.Clone[[]gouache/api.Digest,gouache/api.Digest]",dN,Tryz.func63.trans (aN some U)⟩
 t4:=Tryz.underlying4
 a4:=Tryz.isAgg4
 z4:=Tryz.sizeOf4
 v4:=Tryz.zeroValue4
 t25:=Tryz.underlying25
 a25:=Tryz.isAgg25
 z25:=Tryz.sizeOf25
 v25:=Tryz.zeroValue25
 t26:=Tryz.underlying26
 a26:=Tryz.isAgg26
 z26:=Tryz.sizeOf26
 v26:=Tryz.zeroValue26
 i26:=by kernel_rfl }
def KZ:ag->Option (ah×V)
 | [.dL _ 0 []]=>some ([],.dL false 0 [])
 |_=>none
theorem Rr:jC ak 63 (jG KZ):=by
 refine jV (au U) fun args A v e=>?_;unfold KZ at e;split at e
 . obtain⟨rfl,rfl⟩:=eY e;refine⟨rfl,rfl,fun _ E w c7 _ ra=>?_⟩;obtain⟨y,ys,r0,rs,rfl⟩:=ra;have rs:ys=[]:=rs;subst rs;obtain⟨⟨a,cO,vs,rfl,_,hv,_,_⟩,_⟩:=r0;cases a with
   |none=>
    refine(AnyG.slices_Clone_string_nil Rq 0 cO w).mono fun en w' ⟨he,hw⟩=>?_;subst he;subst hw;exact⟨⟨E,⟨none,0,[],rfl,aA _,rfl,fun _=>rfl,fun h=>absurd h (cE _)⟩,fun h=>by cases h⟩,Below.refl _ _⟩
   |some a=>
    refine(AnyG.slices_Clone_string_zero Rq a cO w).mono fun en w' ⟨v',he,aln,_,hw⟩=>?_;subst he;have hv':∃a c,v'= .slice a 0 c:=by
     obtain⟨_,h⟩:=aln;rcases h with⟨h,_⟩|⟨g,cO,cur,h,_⟩
     . exact⟨none,0,h⟩
     . exact⟨_,_,h⟩
    obtain⟨a2,c2,rfl⟩:=hv';exact⟨⟨E,⟨a2,c2,[],rfl,aW _,rfl,fun _=>rfl,fun h=>absurd h (cE _)⟩,fun h=>by cases h⟩,hw⟩
 . cases e
theorem aaj(f:Bool)(h:Tr O)(n:Nat):cT ak 63 [.dL f 0 []] h n (.dL false 0 []) h n:=fun E w c7 ra g hd=>
 Rr.2 _ _ _ [] _ _ _ rfl cQ E w c7 ra g hd U
noncomputable abbrev csV(q:ag->Bool)(g:V)(l:List (Nat×List (Nat×oT)))(h:Tr O)(f:Bool)(rs:List (aa)):eX:=CR (kW l) 43 q [.dL f rs.length (strs rs),g] h 8 (.bool true,h,8)
theorem aak(d:aa)(f:Bool)(rs:List (aa))(cN cO:Nat)(b:aa)(fl nx lf:Int)(es rt:ae):c5 (csV Gq f44 [] (hB cN cO b fl nx lf es rt) f rs) [(16,.c9 (.bool false)),(20,.c9 (.bool false))] 7 Tryz.f15 [] (yX) (cR [P3,.str d,.dL f rs.length (strs rs)] (eu (pS cN cO b fl nx lf es rt)) 7) [([],
   [(V.bool (decide ((Int.ofNat d.length)>(65536:Int)))=V.bool false),(V.bool (decide ((Int.ofNat rs.length)>(1024:Int)))=V.bool false),(strs rs=strs (dF (strs rs))),(rs.length=(dF (strs rs)).length),(rs.length<=1000000),(∀(x:aa),x∈dF (strs rs)->x.length=32),fG [.dL f (rs.length) (strs rs),.fn (.func 44) [] [.ptr (some (7,0))]] (hL (eN (pS cN cO b fl nx lf es rt)++[(7,.cells [.ptr (some (3,0))])])) 8],
   .ret (.eo [.str [],.int .i64 63]) (eu (pS cN cO b fl nx lf es rt)) 7)]
 :=cP.of U U U
theorem aal(d d0:aa)(jI:List (aa))(k:Int)(cN cO:Nat)(b:aa)(fl nx lf:Int)(es rt:ae):c5 (kW []) [(17,.c9 (.eo [od d0 jI k,.bool true]))] 7 Tryz.f25 [] (dU Tryz.f25) (cR [P3,.str d] (eu (pS cN cO b fl nx lf es rt)) 7) [([],
   [((if true=true then V.eo [D.fS (V.agg [V.str ([]:aa),V.di none 0 0 0,V.int aj (0:Int)]) (dc (D.str d) es),V.bool (dc (D.str d) es).isSome]else D.fS (V.agg [V.str ([]:aa),V.di none 0 0 0,V.int aj (0:Int)]) (dc (D.str d) es))=V.eo [od d0 jI k,V.bool true]),(0<jI.length),((strs jI).length=jI.length),(jI.length<=1000000)],
   .ret (.eo [.str d0,.dL false (jI.length) (strs jI),.int .i64 0]) (eu (pS cN cO b fl nx lf es rt)) 7)]
 :=cP.of U U U
def hG(d0:aa)(k:Int)(p:jm):Tr O:=(eu p).set 7 (some (.cells [.str d0,.dL false 0 [],.int .i64 k]))
theorem UP(d d0:aa)(k:Int)(cN cO:Nat)(b:aa)(fl nx lf:Int)(es rt:ae):c5 (fK (kW []) 63 [.dL false 0 []] (hG d0 k (pS cN cO b fl nx lf es rt)) 16 (.dL false 0 [],hG d0 k (pS cN cO b fl nx lf es rt),16)) [(17,.c9 (.eo [od d0 [] k,.bool true]))] 7 Tryz.f25 [] (dU Tryz.f25) (cR [P3,.str d] (eu (pS cN cO b fl nx lf es rt)) 7) [([],
   [((if true=true then V.eo [D.fS (V.agg [V.str ([]:aa),V.di none 0 0 0,V.int aj (0:Int)]) (dc (D.str d) es),V.bool (dc (D.str d) es).isSome]else D.fS (V.agg [V.str ([]:aa),V.di none 0 0 0,V.int aj (0:Int)]) (dc (D.str d) es))=V.eo [od d0 [] k,V.bool true]),fG [.dL false 0 []] (hL (eN (pS cN cO b fl nx lf es rt)++[(7,.cells [.str d0,.dL false 0 [],.int .i64 k])])) 16],
   .ret (.eo [.str d0,.dL false 0 [],.int .i64 0]) (eu (pS cN cO b fl nx lf es rt)) 7)]
 :=cP.of U U U
theorem aam(d d0:aa)(jI:List (aa))(k:Int)(cN cO:Nat)(b:aa)(fl nx lf:Int)(es rt:ae):c5 (kW []) [(15,.c9 (.eo [od d0 jI k,.bool true]))] 7 Tryz.f18 [] (dU Tryz.f18) (cR [P3,.str d] (eu (pS cN cO b fl nx lf es rt)) 7) [([],
   [((if true=true then V.eo [D.fS (V.agg [V.str ([]:aa),V.di none 0 0 0,V.int aj (0:Int)]) (dc (D.str d) es),V.bool (dc (D.str d) es).isSome]else D.fS (V.agg [V.str ([]:aa),V.di none 0 0 0,V.int aj (0:Int)]) (dc (D.str d) es))=V.eo [od d0 jI k,V.bool true])],
   .ret (.bool true) (eu (pS cN cO b fl nx lf es rt)) 7)]
 :=cP.of U U U
theorem aan(n d:aa)(cN cO:Nat)(b:aa)(fl nx lf:Int)(es rt:ae):c5 (kW []) [(16,.c9 (.eo [.str d,.bool true]))] 7 Tryz.f24 [] (dU Tryz.f24) (cR [P3,.str n] (eu (pS cN cO b fl nx lf es rt)) 7) [([],
   [((if true=true then V.eo [D.fS (V.str ([]:aa)) (dc (D.str n) rt),V.bool (dc (D.str n) rt).isSome]else D.fS (V.str ([]:aa)) (dc (D.str n) rt))=V.eo [V.str d,V.bool true])],
   .ret (.eo [.str d,.bool true]) (eu (pS cN cO b fl nx lf es rt)) 7)]
 :=cP.of U U U
section
variable(f:Bool)(rs:List (aa))(i cN cO:Nat)(b:aa)(fl nx lf:Int)
theorem aao(es rt:ae):c5 (CR (kW []) 73 Gq [.dL f rs.length (strs rs),f44] (hB cN cO b fl nx lf es rt) 8 (.int .i64 (Int.ofNat i),hB cN cO b fl nx lf es rt,8)) [(8,.c9 (.bool true))] 8 Tryz.f43 [] (Uf) (cR [.dL f rs.length (strs rs),f44] (hB cN cO b fl nx lf es rt) 8) [([],
   [fG [.dL f (rs.length) (strs rs),.fn (.func 44) [] [.ptr (some (7,0))]] (hL (eN (pS cN cO b fl nx lf es rt)++[(7,.cells [.ptr (some (3,0))])])) 8,(V.bool (decide (Int.ofNat i>=(0:Int)))=V.bool true)],
   .ret (.bool true) (hL (eN (pS cN cO b fl nx lf es rt)++[(7,.cells [.ptr (some (3,0))])])) 8)]
 :=cP.of U U U
theorem arT(x:aa)(i:Nat)(cN cO:Nat)(b:aa)(fl nx lf:Int)(es rt:ae):c5 Iz [(9,.split),(14,.c9 (.dm [.str x])),(16,.split),(18,.c9 (.int .i64 (Int.ofNat (i+1))))] 8 Tryz.f73 [0,1,7,8] (dr (dr (dY Gp))) (DL (hB cN cO b fl nx lf es rt) 8 f41 f rs i) [([((decide (Int.ofNat i<Int.ofNat rs.length)),true),((!(Int.ofNat x.length)==(32:Int)),true)],
   [((0:Int)<=Int.ofNat i/\Int.ofNat i<(Int.ofNat rs.length)),((strs rs).length=rs.length*1),(V.dm (dw (strs rs) ((Int.ofNat i).toNat*1) 1)=V.dm [D.str x])],
   .ret (.int .i64 (Int.ofNat i)) (hL (eN (pS cN cO b fl nx lf es rt)++[(7,.cells [.ptr (some (3,0))])])) 8),
  ([((decide (Int.ofNat i<Int.ofNat rs.length)),true),((!(Int.ofNat x.length)==(32:Int)),false)],
   [((0:Int)<=Int.ofNat i/\Int.ofNat i<(Int.ofNat rs.length)),((strs rs).length=rs.length*1),(V.dm (dw (strs rs) ((Int.ofNat i).toNat*1) 1)=V.dm [D.str x]),(V.int aj (IntKind.i64.wrap (Int.ofNat i+(1:Int)))=V.int aj (Int.ofNat (i+1)))],
   .to .normal (eG [(0,.dL f (rs.length) (strs rs)),(1,.fn (.func 41) [] []),(7,.int .i64 (Int.ofNat rs.length)),(8,.int .i64 (Int.ofNat (i+1)))] (hL (eN (pS cN cO b fl nx lf es rt)++[(7,.cells [.ptr (some (3,0))])])) 8)),
  ([((decide (Int.ofNat i<Int.ofNat rs.length)),false)],
   [],
   .to (.exit 0) (eG [(0,.dL f (rs.length) (strs rs)),(1,.fn (.func 41) [] []),(7,.int .i64 (Int.ofNat rs.length)),(8,.int .i64 (Int.ofNat i))] (hL (eN (pS cN cO b fl nx lf es rt)++[(7,.cells [.ptr (some (3,0))])])) 8))]
 :=cP.of U U U
end
theorem aeS{n0:Nat}{h:Tr O}{gv:V}{f:Bool}{rs:List (aa)}{R:V->Tr O->Nat->Prop}(j:Nat)
  (h0:TG ak n0 Tryz.f73.ntmps (dO Gp) (Ug h n0 gv f rs) (andThen (fun s'=>eU n0 [0,1,7,8] s'=some (DL h n0 gv f rs 0)) fun _ _=>False))
  (hr:∀i,i<j->TG ak n0 Tryz.f73.ntmps Uh (DL h n0 gv f rs i) (andThen (fun s'=>eU n0 [0,1,7,8] s'=some (DL h n0 gv f rs (i+1))) fun _ _=>False))
  (he:TG ak n0 Tryz.f73.ntmps Uh (DL h n0 gv f rs j) fun y s'=>y= .ret/\fB ak n0 Tryz.f73 R .ret s'):TG ak n0 Tryz.f73.ntmps KI (Ug h n0 gv f rs) (fB ak n0 Tryz.f73 R):=by
 refine cV U ?_;refine cV U ?_;refine fb h0 fun y s' dX=>?_;cases y<;>first|exact dX.elim|skip
 have dX:eU n0 [0,1,7,8] s'=some (DL h n0 gv f rs 0):=dX;refine fh (i:=0) U (fb (Q1:=fun z s'=>z= .ret/\fB ak n0 Tryz.f73 R .ret s') (gh (fun k' s=>∃i,k'=j-i/\i<=j/\eU n0 [0,1,7,8] s=some (DL h n0 gv f rs i)) U ?_ j ⟨0,rfl,aW _,dX⟩) ?_)
 . rintro k' s1 ⟨i,hk,hi,fP⟩;refine c6 fP ?_;rcases bN i j with fE|zO
   . refine fb (hr i fE) fun y s2 jd=>?_;cases y<;>first|exact jd.elim|skip
     exact⟨j-(i+1),be,i+1,rfl,be,jd⟩
   . obtain rfl:i=j:=by omega
     refine fb he fun y s2 jd=>?_;obtain⟨rfl,jd⟩:=jd;exact⟨rfl,jd⟩
 rintro y s2 ⟨rfl,jd⟩;exact jd
section
variable(f:Bool)(rs:List (aa))(cN cO:Nat)(b:aa)(fl nx lf:Int)(es rt:ae)
theorem UQ(hl:rs.length<=1000000)(j:Nat)(x:aa)(hj:rs[j]? =some x)(hx:dc (.str x) es=none)(hg:∀i y,i<j->rs[i]? =some y->D3 es y):
  TG ak 8 Tryz.f73.ntmps NT (cR [.dL f rs.length (strs rs),f44] (hB cN cO b fl nx lf es rt) 8) (fB ak 8 Tryz.f73 fun a b' c=>a= .int .i64 (Int.ofNat j)/\b'=hB cN cO b fl nx lf es rt/\c=8):=by
 have hO:∀n:Nat,Int.ofNat n=(n:Int):=fun _=>rfl;have OL:j<rs.length:=(aF.1 hj).1;refine iJ  1 Tc (LZ cN cO b fl nx lf es rt f rs) cQ ?_;show TG ak 8 Tryz.f73.ntmps KI (Ug (hB cN cO b fl nx lf es rt) 8 f44 f rs) _;refine aeS j ?_ (fun i OM=>?_) ?_
 . refine fV Tc (QJ cN cO b fl nx lf es rt f rs) (dI ?_);exact⟨fun p hp=>by rw[aq]at hp;subst hp;rfl,fun s' dX=>dX⟩
 . obtain⟨y,hy⟩:∃y,rs[i]? =some y:=⟨_,ay be⟩;obtain⟨d0,jI,k,hk⟩:=hg i y OM hy;refine fV (XP [(18,[(15,.c9 (.eo [od d0 jI k,.bool true]))])]) (adO f rs y i cN cO b d0 jI k fl nx lf es rt) fun g hg hc=>?_;simp only[aE,aL,bt]at hg;rcases hg with rfl|rfl
   . refine⟨?_,fun s' dX=>dX⟩
     repeat' (first|exact cQ|refine jn ?_ ?_)
     . exact⟨az _,de⟩
     . rw[eI,bj]
     . exact aN V.dm (fD hy)
     . exact l9 hk
     . exact fA de be
   . exact absurd (aK (hc _ (aq.2 rfl))) de
 . obtain⟨L3,xI⟩:=adP f rs x j cN cO b fl nx lf es rt;refine gT (XP [(18,[(15,.c9 (.eo [Bh,.bool false]))])]) mo (fun a b' c=>a= .int .i64 (Int.ofNat j)/\b'=hB cN cO b fl nx lf es rt/\c=8) U xI fun g hg hc=>?_;simp only[aE,aL,bt]at hg;rcases hg with rfl|rfl
   . refine⟨?_,⟨rfl,rfl,rfl⟩,fun s' dX=>⟨rfl,dX⟩⟩
     repeat' (first|exact cQ|refine jn ?_ ?_)
     . exact⟨az _,de⟩
     . rw[eI,bj]
     . exact aN V.dm (fD hj)
     . exact qC hx
   . exact absurd (aK (hc _ (aq.2 rfl))) de
theorem UR(hl:rs.length<=1000000)(j:Nat)(x:aa)(hj:rs[j]? =some x)(hx:dc (.str x) es=none)(hg:∀i y,i<j->rs[i]? =some y->D3 es y):
  cT ak 43 [.dL f rs.length (strs rs),f44] (hB cN cO b fl nx lf es rt) 8 (.bool true) (hB cN cO b fl nx lf es rt) 8:=by
 have h73:cT ak 73 [.dL f rs.length (strs rs),f44] (hB cN cO b fl nx lf es rt) 8 (.int .i64 (Int.ofNat j)) (hB cN cO b fl nx lf es rt) 8:=
  cZ Tryz.func73 U U (UQ f rs cN cO b fl nx lf es rt hl j x hj hx hg)
 refine cZ Tryz.func43 (code:=Uf) U U ?_;refine fu ((XQ []).QG Gq (au U) h73) (aao f rs j cN cO b fl nx lf es rt) (dI ?_);refine⟨?_,_,_,_,rfl,rfl,rfl,rfl⟩
 repeat' (first|exact cQ|refine jn ?_ ?_)
 . exact⟨rfl,rfl,rfl⟩
 . exact alk (az _)
abbrev US(e:Int):V:=.eo [.str [],.int .i64 e]
theorem UT(d:aa)(hd:d.length<=65536)(hn:rs.length<=1024)(h32:∀x∈rs,x.length=32)(j:Nat)(x:aa)(hj:rs[j]? =some x)(hx:dc (.str x) es=none)(hg:∀i y,i<j->rs[i]? =some y->D3 es y):
  cT ak 15 [P3,.str d,.dL f rs.length (strs rs)] (eu (pS cN cO b fl nx lf es rt)) 7 (US 63) (eu (pS cN cO b fl nx lf es rt)) 7:=by
 have hO:∀n:Nat,Int.ofNat n=(n:Int):=fun _=>rfl;refine cZ Tryz.func15 (code:=yX) U U ?_;obtain⟨L,hr⟩:=aak d f rs cN cO b fl nx lf es rt;simp only[ic]at hr;refine ia ((XQ []).QG Gq (au U) (UR f rs cN cO b fl nx lf es rt be j x hj hx hg)) mo _ U hr (dI ?_);refine⟨?_,_,_,_,rfl,rfl,rfl,rfl⟩
 repeat' (first|exact cQ|refine jn ?_ ?_)
 . exact iX de
 . exact iX de
 . first|rfl|trivial
 . first|rfl|trivial
 . omega
 . exact h32
 . first|exact⟨rfl,rfl,rfl⟩|exact⟨trivial,trivial,rfl⟩|exact⟨trivial,trivial,trivial⟩|trivial
theorem UU(d d0:aa)(jI:List (aa))(k:Int)(hx:dc (.str d) es=some (pO d0 jI k))(hn:jI.length<=1000000):
  cT ak 25 [P3,.str d] (eu (pS cN cO b fl nx lf es rt)) 7 (.eo [.str d0,.dL false jI.length (strs jI),.int .i64 0]) (eu (pS cN cO b fl nx lf es rt)) 7:=by
 refine cZ Tryz.func25 (code:=dU Tryz.f25) U U ?_;rcases jI with _|⟨r,jI⟩
 . refine fu ((XQ []).ko (au U) (aaj false _ _)) (UP d d0 k cN cO b fl nx lf es rt) (dI ?_);refine⟨?_,_,_,_,rfl,rfl,rfl,rfl⟩
   repeat' (first|exact cQ|refine jn ?_ ?_)
   . exact l9 hx
   . exact⟨rfl,rfl,rfl⟩
 . refine fu (XQ []) (aal d d0 (r::jI) k cN cO b fl nx lf es rt) (dI ?_);refine⟨?_,_,_,_,rfl,rfl,rfl,rfl⟩
   repeat' (first|exact cQ|refine jn ?_ ?_)
   . exact l9 hx
   . exact Nat.succ_pos _
   . exact eI _
   . exact hn
theorem UW(d:aa)(hx:D3 es d):cT ak 18 [P3,.str d] (eu (pS cN cO b fl nx lf es rt)) 7 (.bool true) (eu (pS cN cO b fl nx lf es rt)) 7:=by
 obtain⟨d0,jI,k,hx⟩:=hx;refine cZ Tryz.func18 (code:=dU Tryz.f18) U U ?_;refine fu (XQ []) (aam d d0 jI k cN cO b fl nx lf es rt) (dI ?_);refine⟨fun a ha=>?_,_,_,_,rfl,rfl,rfl,rfl⟩;rw[aq]at ha;subst ha;exact l9 hx
theorem K0(n d:aa)(hx:dc (.str n) rt=some (.str d)):cT ak 24 [P3,.str n] (eu (pS cN cO b fl nx lf es rt)) 7 (.eo [.str d,.bool true]) (eu (pS cN cO b fl nx lf es rt)) 7:=by
 refine cZ Tryz.func24 (code:=dU Tryz.f24) U U ?_;refine fu (XQ []) (aan n d cN cO b fl nx lf es rt) (dI ?_);refine⟨fun a ha=>?_,_,_,_,rfl,rfl,rfl,rfl⟩;rw[aq]at ha;subst ha;exact y8 hx
end
def w88:V:=.fn (.func 88) [] [.ptr (some (7,0))]
section
variable(cN cO:Nat)(b:aa)(fl nx lf:Int)(es rt:ae)
def lK:af:=eN (pS cN cO b fl nx lf es rt)++[(7,.cells [.map (some 6)])]
def lKg:af:=[(0,.ints .u32 gS),(1,.ints .u32 gR),(3,.cells (xC 4 5 6 (pS cN cO b fl nx lf es rt))),(4,.iS 5 false b),(5,.dD none es),(7,.cells [.map (some 6)])]
def sKa:St:=eG [(2,.ptr (some (8,0))),(6,w88)] (hL (lK cN cO b fl nx lf es rt++[(8,.cells [.di none 0 0 0])])) 9
noncomputable def oKa:O:=.loop true none (sKa cN cO b fl nx lf es rt).fr [7] Ul Um
noncomputable def hK(sl:V)(row:af):Tr O:=hL (lK cN cO b fl nx lf es rt++[(8,.cells [sl]),(9,.me),(10,oKa cN cO b fl nx lf es rt)]++row)
noncomputable def SK(sl:V)(row:af)(n:Nat):St:=eG [(0,.fn (.yield 10) [] []),(5,.ptr (some (11,0)))] (hL (lKg cN cO b fl nx lf es rt++[(8,.cells [sl]),(9,.me),(10,oKa cN cO b fl nx lf es rt)]++row)) n
end
abbrev P(m:Nat):V:=.ptr (some (m,0))
section
variable(cN cO:Nat)(b:aa)(fl nx lf:Int)
theorem alo(es rt:ae)(k:aa)(v:V):c5 (kW []) [] 12 Tryz.f88 [0,5] ((si D5).rest) (Td (SK cN cO b fl nx lf es rt eH [] 12) k v) [([],
   [],
   .to .normal (eG [(0,.fn (.yield 10) [] []),(5,.ptr (some (11,0)))] (hL [(0,.ints .u32 gS),(1,.ints .u32 gR),(3,.cells [.di (some (4,0)) cN cO 1,.int .i64 fl,.map (some 5),.map (some 6),.int .i64 nx,.bool false,.bool false,.int .i64 lf]),(4,.iS 5 false b),(5,.dD none es),(7,.cells [.map (some 6)]),(8,.cells [.di (some (12,0)) 1 1 1]),(9,.me),(10,.loop true none (Eng.AO [(2,.ptr (some (8,0))),(6,.fn (.func 88) [] [.ptr (some (7,0))])]) [7] Ul Um),(12,.cells [.str k])]) 13))]
 :=cP.of U U U
theorem aeU(es rt:ae)(k:aa)(v:V)(n:Nat)(cs:ai):c5 (kW []) [] 12 Tryz.f88 [0,5] ((si D5).rest) (Td (SK cN cO b fl nx lf es rt (.di (some (12,0)) n n 1) [(12,.deep cs)] 13) k v) [([],
   [(0+n*1<=cs.length),(0<1),(eP (n+1) 1 16=true)],
   .to .normal (eG [(0,.fn (.yield 10) [] []),(5,.ptr (some (11,0)))] (hL [(0,.ints .u32 gS),(1,.ints .u32 gR),(3,.cells [.di (some (4,0)) cN cO 1,.int .i64 fl,.map (some 5),.map (some 6),.int .i64 nx,.bool false,.bool false,.int .i64 lf]),(4,.iS 5 false b),(5,.dD none es),(7,.cells [.map (some 6)]),(8,.cells [.di (some (12,0)) (n+1) (n+1) 1]),(9,.me),(10,.loop true none (Eng.AO [(2,.ptr (some (8,0))),(6,.fn (.func 88) [] [.ptr (some (7,0))])]) [7] Ul Um),(12,.deep (List.take (n*1) (List.drop 0 cs)++[D.str k]))]) 13))]
 :=cP.of U U U
theorem alp(es rt:ae):c5 (kW []) [] 8 Tryz.f113 [1,2] (eR 1 QV) (cR [eH,w88] (hL (lK cN cO b fl nx lf es rt)) 8) [([],
   [],
   .to .normal (eG [(1,.fn (.func 88) [] [.ptr (some (7,0))]),(2,.ptr (some (8,0)))] (hL (eN (pS cN cO b fl nx lf es rt)++[(7,.cells [.map (some 6)]),(8,.cells [.di none 0 0 0])])) 9))]
 :=cP.of U U U
theorem alq(es rt:ae):c5 (kW []) [] 8 Tryz.f113 [2,6] (dO (dO Ag)) (eG [(1,w88),(2,P 8)] (hL (lK cN cO b fl nx lf es rt++[(8,.cells [eH])])) 9) [([],
   [],
   .to .normal (eG [(2,.ptr (some (8,0))),(6,.fn (.func 88) [] [.ptr (some (7,0))])] (hL (eN (pS cN cO b fl nx lf es rt)++[(7,.cells [.map (some 6)]),(8,.cells [.di none 0 0 0])])) 9))]
 :=cP.of U U U
theorem alr(es rt:ae)(n:Nat)(cs:ai):c5 (kW []) [] 8 Tryz.f113 [] (dY Ag) (tx (sKa cN cO b fl nx lf es rt) (hK cN cO b fl nx lf es rt (.di (some (11,0)) n n 1) [(11,.deep cs)]) 12) [([],
   [],
   .ret (.di (some (8,0)) n n 1) (hL (eN (pS cN cO b fl nx lf es rt)++[(7,.cells [.map (some 6)]),(8,.deep cs)])) 9)]
 :=cP.of U U U
theorem als(es rt:ae):c5 (kW []) [] 8 Tryz.f113 [] (dY Ag) (tx (sKa cN cO b fl nx lf es rt) (hK cN cO b fl nx lf es rt eH []) 11) [([],
   [],
   .ret (.di none 0 0 0) (hL (eN (pS cN cO b fl nx lf es rt)++[(7,.cells [.map (some 6)])])) 8)]
 :=cP.of U U U
end
def za(rt:ae):Prop:=∀e∈rt,∃k,e.1= .str k
def dH(rt:ae):List (aa):=rt.map fun e=>D.Ze e.1
theorem C7(a b:List (aa)):strs (a++b)=strs a++strs b:=by unfold strs;rw[aX]
section
variable(cN cO:Nat)(b:aa)(fl nx lf:Int)(es rt:ae)
def AT(m:Nat):List (aa)->af
 | []=>[]
 | [x]=>[(m,.cells [.str x])]
 |ks=>[(m,.deep (strs ks))]
def GJ(m:Nat):List (aa)->V
 | []=>eH
 |ks=>.di (some (m,0)) ks.length ks.length 1
def nK(m:Nat):List (aa)->Nat
 | []=>m
 |_=>m+1
def JKa(iy:ae)(s1:St):Prop:=za iy/\eU 12 [0,5] s1=some (SK cN cO b fl nx lf es rt (GJ 12 (dH iy)) (AT 12 (dH iy)) (nK 12 (dH iy)))
theorem UX(hk:za rt)(hl:rt.length<=1000000):fO ak 88 [.fn (.yield 10) [] [],.ptr (some (7,0))] (hK cN cO b fl nx lf es rt eH []) 11 fun v h n=>∃iy,List.Perm iy rt/\v= .eo []/\h=hK cN cO b fl nx lf es rt (GJ 11 (dH iy)) (AT 11 (dH iy))/\n=nK 11 (dH iy):=by
 refine gB mo po Tryz.func88 (code:=D5) U U ?_;rw[ad5];refine yW (v0:=.map (some 6)) (jY:=(cR [.fn (.yield 10) [] [],.ptr (some (7,0))] (hK cN cO b fl nx lf es rt eH []) 11).fr.set 4 (some (.map (some 6)))) (zB:=((cR [.fn (.yield 10) [] [],.ptr (some (7,0))] (hK cN cO b fl nx lf es rt eH []) 11).fr.set 4 (some (.map (some 6)))).set 5 (some (.ptr (some (11,0))))) (m:=6) (kd:=none) (es:=rt) mo Mb
  U U U U (au rfl) U (JKa cN cO b fl nx lf es rt) ⟨(fun _ h=>by cases h),U⟩ ?_
 rintro iy left s1 ⟨hv,hs⟩ hp;have iQ:iy.length<=1000000:=by
  have:=hp.length_eq;rw[ax]at this;omega
 match iy,hv,hs,hp,iQ with
 | [],hv,hs,hp,_=>
   refine⟨[0,5],SK cN cO b fl nx lf es rt eH [] 12,hs,U,fun vJ=>?_,fun e j9 he=>?_⟩
   . subst vJ;rw[ct]at hp;refine⟨(SK cN cO b fl nx lf es rt eH [] 12).fr.set 6 (some (.eo [.bool false])),{ SK cN cO b fl nx lf es rt eH [] 12 with fr:=((SK cN cO b fl nx lf es rt eH [] 12).fr.set 6 (some (.eo [.bool false]))).set 7 (some (.bool false)) },U,U,U,.inl rfl,.eo [],hK cN cO b fl nx lf es rt eH [],11,U,[],hp,rfl,rfl,rfl⟩
   . obtain⟨k,Rs⟩:=hk e (hp.mem_iff.1 (he.mem_iff.2 (by simp)));obtain⟨e1,e2⟩:=e;have Rs:e1= .str k:=Rs;subst Rs;refine⟨(SK cN cO b fl nx lf es rt eH [] 12).fr.set 6 (some (.eo [.bool true,.str k,e2.iH])),{ SK cN cO b fl nx lf es rt eH [] 12 with fr:=((SK cN cO b fl nx lf es rt eH [] 12).fr.set 6 (some (.eo [.bool true,.str k,e2.iH]))).set 7 (some (.bool true)) },
      (((SK cN cO b fl nx lf es rt eH [] 12).fr.set 6 (some (.eo [.bool true,.str k,e2.iH]))).set 7 (some (.bool true))).set 8 (some (.eo [.str k,e2.iH])),Td (SK cN cO b fl nx lf es rt eH [] 12) k e2.iH,U,U,U,U,U,U,U,U,?_⟩
     refine fV (XQ []) (alo cN cO b fl nx lf es rt k e2.iH) (dI ?_);exact⟨cQ,fun s' dX=>⟨fun x hx=>by rw[cD,aq]at hx;exact⟨k,by rw[hx]⟩,dX⟩⟩
 | [x],hv,hs,hp,_=>
   obtain⟨x1,x2⟩:=x;obtain⟨kx,hkx⟩:=hv _ (aq.2 rfl);have hkx:x1= .str kx:=hkx;subst hkx;refine⟨[0,5],SK cN cO b fl nx lf es rt (.di (some (12,0)) 1 1 1) [(12,.cells [.str kx])] 13,hs,U,fun vJ=>?_,fun e j9 he=>?_⟩
   . subst vJ;rw[ct]at hp;refine⟨(SK cN cO b fl nx lf es rt (.di (some (12,0)) 1 1 1) [(12,.cells [.str kx])] 13).fr.set 6 (some (.eo [.bool false])),{ SK cN cO b fl nx lf es rt (.di (some (12,0)) 1 1 1) [(12,.cells [.str kx])] 13 with fr:=((SK cN cO b fl nx lf es rt (.di (some (12,0)) 1 1 1) [(12,.cells [.str kx])] 13).fr.set 6 (some (.eo [.bool false]))).set 7 (some (.bool false)) },U,U,U,.inl rfl,.eo [],hK cN cO b fl nx lf es rt (.di (some (11,0)) 1 1 1) [(11,.cells [.str kx])],12,U,_,hp,rfl,rfl,rfl⟩
   . obtain⟨k,Rs⟩:=hk e (hp.mem_iff.1 (bZ _ (he.mem_iff.2 (by simp))));obtain⟨e1,e2⟩:=e;have Rs:e1= .str k:=Rs;subst Rs
     let S:=SK cN cO b fl nx lf es rt (.di (some (12,0)) 1 1 1) [(12,.cells [.str kx])] 13
     refine⟨S.fr.set 6 (some (.eo [.bool true,.str k,e2.iH])),{ S with fr:=(S.fr.set 6 (some (.eo [.bool true,.str k,e2.iH]))).set 7 (some (.bool true)) },
      ((S.fr.set 6 (some (.eo [.bool true,.str k,e2.iH]))).set 7 (some (.bool true))).set 8 (some (.eo [.str k,e2.iH])),Td S k e2.iH,U,U,U,U,U,U,U,U,?_⟩
     refine tB [12] (s2:=Td (SK cN cO b fl nx lf es rt (.di (some (12,0)) 1 1 1) [(12,.deep [.str kx])] 13) k e2.iH) U ?_;refine fV (XQ []) (aeU cN cO b fl nx lf es rt k e2.iH 1 [.str kx]) (dI ?_);refine⟨?_,fun s' dX=>⟨fun x hx=>?_,dX⟩⟩
     . exact cq.2 ⟨aA _,cq.2 ⟨dN,cq.2 ⟨dN,cQ⟩⟩⟩
     . simp only[List.cons_append,cD,aE,aL,bt]at hx;rcases hx with rfl|rfl
       . exact⟨kx,rfl⟩
       . exact⟨k,rfl⟩
 |x::y::iy,hv,hs,hp,iQ=>
  have w9:∀m,AT m (dH (x::y::iy))=[(m,.deep (strs (dH (x::y::iy))))]:=fun m=>rfl;have hsl:∀m,GJ m (dH (x::y::iy))= .di (some (m,0)) (dH (x::y::iy)).length (dH (x::y::iy)).length 1:=fun m=>rfl;have hnk:∀m,nK m (dH (x::y::iy))=m+1:=fun m=>rfl;have OT:(dH (x::y::iy)).length=(x::y::iy).length:=by unfold dH;rw[aY]
  rw[w9,hsl,hnk]at hs;have hL2:∀l2,GJ 11 (dH (x::y::iy))=l2->l2= .di (some (11,0)) (dH (x::y::iy)).length (dH (x::y::iy)).length 1:=fun l2 h=>h▸rfl;refine⟨[0,5],_,hs,U,fun vJ=>?_,fun e j9 he=>?_⟩
  . subst vJ;rw[ct]at hp;refine⟨(SK cN cO b fl nx lf es rt (.di (some (12,0)) (dH (x::y::iy)).length (dH (x::y::iy)).length 1) [(12,.deep (strs (dH (x::y::iy))))] 13).fr.set 6 (some (.eo [.bool false])),{ SK cN cO b fl nx lf es rt (.di (some (12,0)) (dH (x::y::iy)).length (dH (x::y::iy)).length 1) [(12,.deep (strs (dH (x::y::iy))))] 13 with fr:=((SK cN cO b fl nx lf es rt (.di (some (12,0)) (dH (x::y::iy)).length (dH (x::y::iy)).length 1) [(12,.deep (strs (dH (x::y::iy))))] 13).fr.set 6 (some (.eo [.bool false]))).set 7 (some (.bool false)) },U,U,U,.inl rfl,.eo [],hK cN cO b fl nx lf es rt (.di (some (11,0)) (dH (x::y::iy)).length (dH (x::y::iy)).length 1) [(11,.deep (strs (dH (x::y::iy))))],12,?_,_,hp,rfl,rfl,rfl⟩;generalize dH (x::y::iy)=ks;kernel_rfl
  . obtain⟨k,Rs⟩:=hk e (hp.mem_iff.1 (bZ _ (he.mem_iff.2 (by simp))));obtain⟨e1,e2⟩:=e;have Rs:e1= .str k:=Rs;subst Rs;have pg:dH ((x::y::iy)++[(.str k,e2)])=dH (x::y::iy)++[k]:=by unfold dH;rw[aX];rfl
    have DI:za ((x::y::iy)++[(.str k,e2)]):=fun z hz=>by
     rcases aU.1 hz with hz|hz
     . exact hv z hz
     . rw[aq]at hz;subst hz;exact⟨k,rfl⟩
    have h2:2<=(dH (x::y::iy)).length:=by rw[OT];simp
    have hJ:∀s',eU 12 [0,5] s'=some (SK cN cO b fl nx lf es rt (.di (some (12,0)) (dH (x::y::iy)++[k]).length (dH (x::y::iy)++[k]).length 1) [(12,.deep (strs (dH (x::y::iy)++[k])))] 13)->JKa cN cO b fl nx lf es rt ((x::y::iy)++[(.str k,e2)]) s':=by
     intro s' dX;refine⟨DI,?_⟩;rw[pg,dX];unfold dH;rfl
    generalize hK0:dH (x::y::iy)=ks at *
    let S:=SK cN cO b fl nx lf es rt (.di (some (12,0)) ks.length ks.length 1) [(12,.deep (strs ks))] 13
    refine⟨S.fr.set 6 (some (.eo [.bool true,.str k,e2.iH])),{ S with fr:=(S.fr.set 6 (some (.eo [.bool true,.str k,e2.iH]))).set 7 (some (.bool true)) },
     ((S.fr.set 6 (some (.eo [.bool true,.str k,e2.iH]))).set 7 (some (.bool true))).set 8 (some (.eo [.str k,e2.iH])),Td S k e2.iH,U,U,U,U,U,U,U,U,?_⟩
    refine fV (XQ []) (aeU cN cO b fl nx lf es rt k e2.iH ks.length (strs ks)) (dI ?_);refine⟨?_,fun s' dX=>hJ s' ?_⟩
    . exact cq.2 ⟨by rw[eI];omega,cq.2 ⟨dN,cq.2 ⟨pM be,cQ⟩⟩⟩
    . refine Eq.trans dX ?_;have e3:List.take (ks.length*1) (List.drop 0 (strs ks))++[D.str k]=strs (ks++[k]):=by
       rw[bu,bj,bq (by rw[eI];exact aA _),C7];rfl
      rw[e3,ax];rfl
end
section
variable(cN cO:Nat)(b:aa)(fl nx lf:Int)(es rt:ae)
def xK(row:af):Tr O:=hL (lK cN cO b fl nx lf es rt++row)
end
section
variable(cN:Nat)(h:Tr O)(cO:Nat)(b:aa)(fl nx lf:Int)(n:Nat)
def sC2(v:V):St:={ fr:=((((AO [(0,w88)]).set 3 (some w88)).set 4 (some v)).set 2 (some v)),h:=h,n:=n,gu:=[] }
theorem alv(es rt:ae)(x:aa):c5 (kW []) [] 8 Tryz.f113 [] (dY Ag) (tx (sKa cN cO b fl nx lf es rt) (hK cN cO b fl nx lf es rt (.di (some (11,0)) 1 1 1) [(11,.cells [.str x])]) 12) [([],
   [],
   .ret (.di (some (8,0)) 1 1 1) (hL (eN (pS cN cO b fl nx lf es rt)++[(7,.cells [.map (some 6)]),(8,.cells [.str x])])) 9)]
 :=cP.of U U U
theorem alw(es rt:ae):c5 (kW []) [] 8 Tryz.f86 [0] (eR 1 D7) (cR [w88] (xK cN cO b fl nx lf es rt []) 8) [([],
   [],
   .to .normal (eG [(0,.fn (.func 88) [] [.ptr (some (7,0))])] (hL (eN (pS cN cO b fl nx lf es rt)++[(7,.cells [.map (some 6)])])) 8))]
 :=cP.of U U U
theorem alx(es rt:ae)(n:Nat)(cs:ai):c5 (kW []) [] 8 Tryz.f86 [] (dY (dh 1 D7)) (sC2 (xK cN cO b fl nx lf es rt [(8,.deep cs)]) 9 (.di (some (8,0)) n n 1)) [([],
   [],
   .ret (.di (some (8,0)) n n 1) (hL (eN (pS cN cO b fl nx lf es rt)++[(7,.cells [.map (some 6)]),(8,.deep cs)])) 9)]
 :=cP.of U U U
theorem aly(es rt:ae):c5 (kW []) [] 8 Tryz.f86 [] (dY (dh 1 D7)) (sC2 (xK cN cO b fl nx lf es rt []) 8 eH) [([],
   [],
   .ret (.di none 0 0 0) (hL (eN (pS cN cO b fl nx lf es rt)++[(7,.cells [.map (some 6)])])) 8)]
 :=cP.of U U U
theorem alz(es rt:ae)(x:aa):c5 (kW []) [] 8 Tryz.f86 [] (dY (dh 1 D7)) (sC2 (xK cN cO b fl nx lf es rt [(8,.cells [.str x])]) 9 (.di (some (8,0)) 1 1 1)) [([],
   [],
   .ret (.di (some (8,0)) 1 1 1) (hL (eN (pS cN cO b fl nx lf es rt)++[(7,.cells [.map (some 6)]),(8,.cells [.str x])])) 9)]
 :=cP.of U U U
theorem alA(es rt:ae):c5 (kW []) [] 8 Tryz.f61 [0] (eR 1 D6) (cR [w88] (xK cN cO b fl nx lf es rt []) 8) [([],
   [],
   .to .normal (eG [(0,.fn (.func 88) [] [.ptr (some (7,0))])] (hL (eN (pS cN cO b fl nx lf es rt)++[(7,.cells [.map (some 6)])])) 8))]
 :=cP.of U U U
def sS2(v:V):St:={ fr:=((((AO [(0,w88)]).set 4 (some w88)).set 5 (some v)).set 3 (some v)),h:=h,n:=n,gu:=[] }
theorem alB(es rt:ae)(n:Nat)(cs uW:ai):c5 (fK (kW []) 87 [.di (some (8,0)) n n 1] (xK cN cO b fl nx lf es rt [(8,.deep cs)]) 9 (.eo [],(xK cN cO b fl nx lf es rt [(8,.deep cs)]).set 8 (some (.deep uW)),9)) [] 8 Tryz.f61 [] (dh 2 D6) (sS2 (xK cN cO b fl nx lf es rt [(8,.deep cs)]) 9 (.di (some (8,0)) n n 1)) [([],
   [fG [.di (some (8,0)) n n 1] (hL (eN (pS cN cO b fl nx lf es rt)++[(7,.cells [.map (some 6)]),(8,.deep cs)])) 9],
   .ret (.di (some (8,0)) n n 1) (hL (eN (pS cN cO b fl nx lf es rt)++[(7,.cells [.map (some 6)]),(8,.deep uW)])) 9)]
 :=cP.of U U U
theorem alC(es rt:ae):c5 (kW []) [] 8 Tryz.f61 [] (dh 2 D6) (sS2 (xK cN cO b fl nx lf es rt []) 8 eH) [([],
   [((0:Int)<=(0:Int)/\0<256)],
   .ret (.di none 0 0 0) (hL (eN (pS cN cO b fl nx lf es rt)++[(7,.cells [.map (some 6)])])) 8)]
 :=cP.of U U U
theorem alD(es rt:ae)(x:aa):c5 (kW []) [] 8 Tryz.f61 [] (dh 2 D6) (sS2 (xK cN cO b fl nx lf es rt [(8,.cells [.str x])]) 9 (.di (some (8,0)) 1 1 1)) [([],
   [((0:Int)<=(1:Int)/\1<256)],
   .ret (.di (some (8,0)) 1 1 1) (hL (eN (pS cN cO b fl nx lf es rt)++[(7,.cells [.map (some 6)]),(8,.cells [.str x])])) 9)]
 :=cP.of U U U
def hKf(es rt:ae)(row:af):Tr O:=hL (eN (pS cN cO b fl nx lf es rt)++row)
theorem aeV(es rt:ae)(n:Nat)(cs:ai):c5 (fK (kW []) 61 [w88] (xK cN cO b fl nx lf es rt []) 8 (.di (some (8,0)) n n 1,xK cN cO b fl nx lf es rt [(8,.deep cs)],9)) [] 7 Tryz.f23 [] (NY) (cR [P3] (eu (pS cN cO b fl nx lf es rt)) 7) [([],
   [fG [.fn (.func 88) [] [.ptr (some (7,0))]] (hL (eN (pS cN cO b fl nx lf es rt)++[(7,.cells [.map (some 6)])])) 8],
   .ret (.di (some (7,0)) n n 1) (hL (eN (pS cN cO b fl nx lf es rt)++[(7,.deep cs)])) 8)]
 :=cP.of U U U
theorem aeW(es rt:ae):c5 (fK (kW []) 61 [w88] (xK cN cO b fl nx lf es rt []) 8 (eH,xK cN cO b fl nx lf es rt [],8)) [] 7 Tryz.f23 [] (NY) (cR [P3] (eu (pS cN cO b fl nx lf es rt)) 7) [([],
   [fG [.fn (.func 88) [] [.ptr (some (7,0))]] (hL (eN (pS cN cO b fl nx lf es rt)++[(7,.cells [.map (some 6)])])) 8],
   .ret (.di none 0 0 0) (eu (pS cN cO b fl nx lf es rt)) 7)]
 :=cP.of U U U
theorem aeX(es rt:ae)(x:aa):c5 (fK (kW []) 61 [w88] (xK cN cO b fl nx lf es rt []) 8 (.di (some (8,0)) 1 1 1,xK cN cO b fl nx lf es rt [(8,.cells [.str x])],9)) [] 7 Tryz.f23 [] (NY) (cR [P3] (eu (pS cN cO b fl nx lf es rt)) 7) [([],
   [fG [.fn (.func 88) [] [.ptr (some (7,0))]] (hL (eN (pS cN cO b fl nx lf es rt)++[(7,.cells [.map (some 6)])])) 8],
   .ret (.di (some (7,0)) 1 1 1) (hL (eN (pS cN cO b fl nx lf es rt)++[(7,.cells [.str x])])) 8)]
 :=cP.of U U U
end
end Go.Proofs.YtfihojpgobmmdaaGreatDoor
