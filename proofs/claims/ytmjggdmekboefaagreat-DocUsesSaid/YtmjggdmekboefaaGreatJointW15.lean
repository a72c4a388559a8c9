/- The Doc laws: the program's test of a layer's fields: contract. No conditions. -/
import Derived.Test.YtmjggdmekboefaaGreatJointW14
set_option linter.unusedVariables false
set_option linter.unusedSimpArgs false
set_option linter.unusedSectionVars false
namespace Go.Proofs.YtmjggdmekboefaaGreat
open Go Go.Eng
set_option maxRecDepth 10000
def zN(n:Int):Prop:= -9223372036854775808<=n/\n<=9223372036854775807
structure Kq(f:FL):Prop where
 k:zN f.k
 r:zN f.r
 dv:zN f.dv
 vl:zN f.vl
theorem Yx:kE ak 63 (Go.Eng.dW Kp):=by
 refine OB (az C) fun ds s' v e hA=>?_;unfold Kp at e;split at e
 case h_2=>cases e
 rename_i k r n eK dv vl m cu;obtain⟨rfl,rfl⟩:=sm e;have e1:eK=dM (dX eK):=hA _ (by simp);have e2:n=(dX eK).length:=hA (n=(dX eK).length) (by simp);have e3:n<=1000000:=hA (n<=1000000) (by simp);have e4:cu=dM (dX cu):=hA (cu=dM (dX cu)) (by simp);have e5:m=(dX cu).length:=hA (m=(dX cu).length) (by simp);have e6:m<=1000000:=hA (m<=1000000) (by simp);generalize dX eK=l at *;generalize dX cu=q at *;subst e1 e2 e4 e5;exact Pr ⟨k,r,l,dv,vl,q⟩ (by show l.length<=_;omega) (by show q.length<=_;omega)
theorem CO:eR ak ZI:=fQ Yx (dg _)
theorem mB(n:Int)(h:zN n)(t u:aa):dK n++t=0::u↔n=0/\t=u:=by
 obtain⟨Q,R⟩:=h;have hz:dK 0=[0]:=by decide
 constructor
 . intro e;have hw:IntKind.u64.wrap n=if n<0 then n+18446744073709551616 else n:=by
    unfold IntKind.wrap;have e1:(2^IntKind.u64.bits:Int)=18446744073709551616:=by decide
    have e3:IntKind.u64.signed=false:=rfl;simp only[e1,e3,aP,aM,cr];split<;>omega
   have hu:IntKind.u64.wrap n=0:=by
    unfold dK at e;generalize IntKind.u64.wrap n=u at e hw;have hu0:0<=u/\u<18446744073709551616:=by rw[hw];split<;>omega
    by_cases c:128<=u
    . exfalso;have:zo 9 u=M6 u::zo 8 (u.fdiv 128):=by
       show(if 128<=u then _ else _)=_;rw[aE c]
      rw[this]at e;have e:UInt8.ofNat (M6 u).toNat::_=0::_:=e;injection e with e _;have hh:128<=(M6 u).toNat/\(M6 u).toNat<256:=by
       unfold M6;generalize hb:BitVec.ofInt 8 (IntKind.u8.wrap u)=b;have MZ:BitVec.ofInt 8 (128:Int)=128#8:=by decide
       rw[MZ];have h3:128<=(b|||128#8).toNat:=by
        have:∀b:BitVec 8,128<=(b|||128#8).toNat:=by decide
        exact this b
       have h4:=(b|||128#8).isLt;generalize (b|||128#8).toNat=z at h3 h4;unfold IntKind.wrap;have e1:(2^IntKind.u8.bits:Int)=256:=by decide
       have e3:IntKind.u8.signed=false:=rfl;simp only[e1,e3,aP,aM,cr,gT];omega
      have e2:=aH UInt8.toNat e;simp[UInt8.toNat_ofNat']at e2;omega
    . rw[Hw c]at e;have e:UInt8.ofNat (Zn u).toNat::_=0::_:=e;injection e with e _;have e2:=aH UInt8.toNat e;unfold Zn at e2;have hw8:IntKind.u8.wrap u=u:=by
       unfold IntKind.wrap;have e1:(2^IntKind.u8.bits:Int)=256:=by decide
       have e3:IntKind.u8.signed=false:=rfl;simp only[e1,e3,aP,aM,cr];omega
      rw[hw8]at e2;simp[UInt8.toNat_ofNat']at e2;omega
   have hn:n=0:=by rw[hw]at hu;split at hu<;>omega
   subst hn;rw[hz]at e;injection e with _ e;exact⟨rfl,e⟩
 . rintro⟨rfl,rfl⟩;rw[hz];rfl
section
variable(x:eG)(f:FuncId){fn:Func}(rest:ag)(m:Bool)(p:Int×Int)
theorem Kr(a:Int)(l:List Int):fO (a::l)=dK a++fO l:=by unfold fO;simp
theorem tq(f:FL)(h:Kq f)(Q:f.eK.length<=1000000)(R:f.cu.length<=1000000):lK (fT f) (fT tJ)=th f:=by
 have hz:fT tJ=[0,0,0,0,0,0]:=by decide
 rw[kj,Bool.eq_iff_iff,cJ,hz];have e:fT f=dK f.k++(dK f.r++(dK (Int.ofNat f.eK.length)++(fO f.eK++(dK f.dv++(dK f.vl++(dK (Int.ofNat f.cu.length)++fO f.cu)))))):=by
  unfold fT;simp only[Kr,List.append_assoc];have:fO []=[]:=rfl;rw[this,cL,cL]
 have b1:zN (Int.ofNat f.eK.length):=by unfold zN;simp only[gT];omega
 have b2:zN (Int.ofNat f.cu.length):=by unfold zN;simp only[gT];omega
 rw[e,mB _ h.k,mB _ h.r,mB _ b1];unfold th nN;simp only[ay,cJ];constructor
 . rintro⟨k1,k2,k3,k4⟩;have Y:f.eK=[]:=cF.2 (by simp only[gT]at k3;omega);rw[Y,show fO []=[]from rfl,cL,mB _ h.dv,mB _ h.vl]at k4;have h3:=(mB _ b2 (fO f.cu) []).1 (by rw[k4.2.2]);exact⟨k1,k2,k4.1,k4.2.1,k3,h3.1⟩
 . rintro⟨k1,k2,k3,k4,k5,k6⟩;have Y:f.eK=[]:=cF.2 (by simp only[gT]at k5;omega);have K:f.cu=[]:=cF.2 (by simp only[gT]at k6;omega);refine⟨k1,k2,k5,?_⟩;rw[Y,K,show fO []=[]from rfl,cL,mB _ h.dv,mB _ h.vl];exact⟨k3,k4,fa⟩
def TP(d:Dc)(X:List (Eng.D×Eng.D))(v:V):Prop:=Qp ak f (wT (HZ rest d X v))
def QN(d:Dc)(X:List (Eng.D×Eng.D))(p:Int×Int):Prop:=(p.1=0->ng f rest d X (.gC []))/\(p.1≠0->TP f rest d X (C0 p))
def ad7:pn:=if p.1=0 then .ret (.gC [])else .ni (C0 p)
abbrev RX(fn:Func)(d:Dc)(X:List (Eng.D×Eng.D))(p:Int×Int):Exit->St->Prop:=FR ak 2 fn fun o b c=>o=ad7 p/\b=kI d X/\c=2
theorem U6{f:FuncId}{fn:Func}{rest:ag}{d:Dc}{X:List (Eng.D×Eng.D)}{p:Int×Int}(hf:Tryz.prog.funcs[f]? =some fn)(hT:TG ak 2 fn.ntmps (dG fn) (dw (pT::rest) (kI d X) 2) (RX fn d X p))
  (eM:Nat.blt f Tryz.prog.funcs.size=true:=by kernel_rfl) (hb:fn.body=some (dG fn):=by kernel_rfl) (l:(Nat.ble (pT::rest).length fn.ntmps&&Nat.blt fn.ntmps fV)=true:=by kernel_rfl):QN f rest d X p:=by
 have key:∀(v:V) (wr:V->pn),ad7 p=wr v->(∀args h k s' v' h' k',HZ rest d X v args h k=some (s',v',h',k')->(∀a∈s',a)->(Nat.ble args.length fn.ntmps&&Nat.blt fn.ntmps fV)=true/\TG ak k fn.ntmps (dG fn) (dw args h k) (FR ak k fn fun a b c=>a=wr v'/\b=h'/\c=k')):=fun v wr hw args h k s' v' h' k' e hA=>by
  simp only[HZ,aq,aF]at e;obtain⟨rfl,rfl,rfl,rfl⟩:=e;have Q:args=pT::rest:=hA _ (by simp);have R:h=kI d X:=hA (h=kI d X) (by simp);have h3:k=2:=hA (k=2) (by simp);subst Q R h3;exact⟨l,hw▸hT⟩
 refine⟨fun h=>?_,fun h=>?_⟩
 . exact Tn mo po .ret J8 (az eM) hf hb (key _ .ret (aE h))
 . exact Tn mo po .ni XQ (az eM) hf hb (key _ .ni (aB h))
theorem C5{hm:Bool->St}{β v:Bool}(h:β=v):jD.to .normal (hm v)=jD.to .normal (hm β):=by rw[h]
theorem oW{d:Dc}{X:List (Eng.D×Eng.D)}{p q:Int×Int}{s:St}{ch:List PanicEntry}(hp:AP (C0 q) ch)(e:Nh ak 2 fn s (.ni (C0 q) false)=some (.ni (C0 q),kI d X,2))(h:p=q)(h0:q.1≠0):RX fn d X p (.panic ch) s:=
 .CN hp e ⟨by rw[h];exact(aB h0).symm,rfl,rfl⟩
def opB:Bool:=!(decide (x.op<0)||(decide (x.op>255)||(decide (x.md<0)||decide (x.md>15))))
def mkB:Bool:=m&&(x.S||nN x.iD.length)
theorem ad8:ba x m=!(opB x&&mkB x m):=by
 unfold ba opB mkB nN;have:decide (Int.ofNat x.iD.length>0)=!(Int.ofNat x.iD.length==(0:Int)):=by
  rw[Bool.eq_iff_iff];simp only[aX,bP,bZ,gT];omega
 rw[this];generalize decide (x.op<0)=a;generalize decide (x.op>255)=b;generalize decide (x.md<0)=c;generalize decide (x.md>15)=e;generalize (Int.ofNat x.iD.length==(0:Int))=f;generalize x.S=g;cases a<;>cases b<;>cases c<;>cases e<;>cases f<;>cases g<;>cases m<;>rfl
def u51:Bool:=nN x.kids.length&&((x.of==(0:Int))&&(Ft x.fi&&nN x.gU.length))
theorem un1:Gb (eN x 1)=(u51 x&&th x.f):=by
 show Fv 1 x=_;unfold Fv u51;generalize uK x.pl=a;generalize (x.sp==(0:Int))=b;generalize nN x.fZ.length=c;generalize nN x.kids.length=e;generalize (x.of==(0:Int))=f;generalize th x.f=g;generalize nN x.gU.length=h;generalize Ft x.fi=i;cases a<;>cases b<;>cases c<;>cases e<;>cases f<;>cases g<;>cases h<;>cases i<;>rfl
def u52:Bool:=uK x.pl&&((x.sp==(0:Int))&&(nN x.fZ.length&&((x.of==(0:Int))&&(Ft x.fi&&nN x.gU.length))))
theorem un2:Gb (eN x 2)=(u52 x&&th x.f):=by
 show Fv 2 x=_;unfold Fv u52;generalize uK x.pl=a;generalize (x.sp==(0:Int))=b;generalize nN x.fZ.length=c;generalize nN x.kids.length=e;generalize (x.of==(0:Int))=f;generalize th x.f=g;generalize nN x.gU.length=h;generalize Ft x.fi=i;cases a<;>cases b<;>cases c<;>cases e<;>cases f<;>cases g<;>cases h<;>cases i<;>rfl
def u53:Bool:=uK x.pl&&((x.sp==(0:Int))&&(nN x.fZ.length&&(nN x.kids.length&&((x.of==(0:Int))&&(Ft x.fi&&nN x.gU.length)))))
theorem un3:Gb (eN x 3)=u53 x:=by
 show Fv 3 x=_;unfold Fv u53;generalize uK x.pl=a;generalize (x.sp==(0:Int))=b;generalize nN x.fZ.length=c;generalize nN x.kids.length=e;generalize (x.of==(0:Int))=f;generalize th x.f=g;generalize nN x.gU.length=h;generalize Ft x.fi=i;cases a<;>cases b<;>cases c<;>cases e<;>cases f<;>cases g<;>cases h<;>cases i<;>rfl
def u54:Bool:=(x.sp==(0:Int))&&(nN x.fZ.length&&(nN x.kids.length&&(Ft x.fi&&nN x.gU.length)))
theorem un4:Gb (eN x 4)=(u54 x&&th x.f):=by
 show Fv 4 x=_;unfold Fv u54;generalize uK x.pl=a;generalize (x.sp==(0:Int))=b;generalize nN x.fZ.length=c;generalize nN x.kids.length=e;generalize (x.of==(0:Int))=f;generalize th x.f=g;generalize nN x.gU.length=h;generalize Ft x.fi=i;cases a<;>cases b<;>cases c<;>cases e<;>cases f<;>cases g<;>cases h<;>cases i<;>rfl
def u55:Bool:=uK x.pl&&((x.sp==(0:Int))&&(nN x.fZ.length&&(nN x.kids.length&&(x.of==(0:Int)))))
theorem un5:Gb (eN x 5)=(u55 x&&th x.f):=by
 show Fv 5 x=_;unfold Fv u55;generalize uK x.pl=a;generalize (x.sp==(0:Int))=b;generalize nN x.fZ.length=c;generalize nN x.kids.length=e;generalize (x.of==(0:Int))=f;generalize th x.f=g;generalize nN x.gU.length=h;generalize Ft x.fi=i;cases a<;>cases b<;>cases c<;>cases e<;>cases f<;>cases g<;>cases h<;>cases i<;>rfl
end
section
variable{d:Dc}{X:List (Eng.D×Eng.D)}{p:Int×Int}
noncomputable abbrev NF:Nat:=Tryz.f93.ntmps
theorem QO(x:eG)(Y:∀e,bs d.sp.length x=true->e=23->p=(e,x.id))(h:bs d.sp.length x=false->TG ak 2 NF (dm 13 gk) (jk d X x []) (RX Tryz.f93 d X p)):TG ak 2 NF (dm 12 gk) (jk d X x []) (RX Tryz.f93 d X p):=by
 refine j9 (qY (dB (dm 12 gk))) (dg _) (!bs d.sp.length x) (fun b=>jk d X x [(198,.bool b),(200,L x.id)]) 23 x.id [0,3] (jk d X x []) (aoW d X x) ?_ (fun b=>by kernel_rfl) C (fun q=>h (by simpa using q)) (fun q ch hp=>oW hp C (Y 23 (by simpa using q) rfl) (show(23:Int)≠0 by decide))
 repeat' (first|exact gB|refine dz ?_ ?_)
 all_goals
  intro K;simp only[aD,aI,bh,aL,bg,aX,bt]at K;refine⟨all_nil,C5 (hm:=fun b=>jk d X x [(198,.bool b),(200,L x.id)]) ?_⟩;unfold bs
  first
  |(rw[aU G,aU G];rfl)
  |(rw[aU G,aY G];rfl)
  |(rw[aY G];rfl)
section
variable(x:eG)
noncomputable def b91:Bool:=cD (fc x.fZ)
theorem bc1:bc (eN x 1) (cD (fc x.fZ)) (iH x.f) (jw x.gU)=!b91 x:=by
 unfold b91;generalize cD (fc x.fZ)=a;generalize iH x.f=b;generalize jw x.gU=c;cases a<;>cases b<;>cases c<;>rfl
theorem ad9(hy:CY x)(Y:∀e,b91 x=false->e=1->p=(e,x.id))(h0:b91 x=true->p.1=0):TG ak 2 NF (dm 13 gk) (jk d X (eN x 1) []) (RX Tryz.f93 d X p):=by
 refine Ie (qY (dm 13 gk)) (fj (vk x.fZ hy.fZ) (dg _)) (b91 x) (fun b=>jk d X (eN x 1) [(224,.bool b),(226,L x.id)]) 1 x.id (o1:=.ret (.gC [])) (Q:=kI d X) (n1:=2) (adM d X x (cD (fc x.fZ))) ?_ (fun b=>by kernel_rfl) C (fun q=>⟨(aE (h0 q)).symm,rfl,rfl⟩) (fun q ch hp=>oW hp C (Y 1 q rfl) (show(1:Int)≠0 by decide))
 . repeat' (first|exact gB|refine dz ?_ ?_)
   all_goals
    intro K;simp only[aD,aI,bh,aL,bg]at K
    try exact absurd K.2 Bool.false_ne_true
   all_goals
    refine⟨by first|exact eC rfl|exact J rfl (eC rfl),C5 (hm:=fun b=>jk d X (eN x 1) [(224,.bool b),(226,L x.id)]) ?_⟩;unfold b91
    first
    |(rw[K,aN];done)
    |(rw[K,aP];done)
    |(rw[K];done)
    |(rw[K.1,K.2];done)
    |(rw[K.1,K.2];rfl)
    |(rw[K.1];rfl)
noncomputable def b92:Bool:=cD (fc x.fZ)
theorem bc2:bc (eN x 2) (cD (fc x.fZ)) (iH x.f) (jw x.gU)=!b92 x:=by
 unfold b92;generalize cD (fc x.fZ)=a;generalize iH x.f=b;generalize jw x.gU=c;cases a<;>cases b<;>cases c<;>rfl
theorem aea(hy:CY x)(Y:∀e,b92 x=false->e=1->p=(e,x.id))(h0:b92 x=true->p.1=0):TG ak 2 NF (dm 13 gk) (jk d X (eN x 2) []) (RX Tryz.f93 d X p):=by
 refine Ie (qY (dm 13 gk)) (fj (vk x.fZ hy.fZ) (dg _)) (b92 x) (fun b=>jk d X (eN x 2) [(224,.bool b),(226,L x.id)]) 1 x.id (o1:=.ret (.gC [])) (Q:=kI d X) (n1:=2) (adR d X x (cD (fc x.fZ))) ?_ (fun b=>by kernel_rfl) C (fun q=>⟨(aE (h0 q)).symm,rfl,rfl⟩) (fun q ch hp=>oW hp C (Y 1 q rfl) (show(1:Int)≠0 by decide))
 . repeat' (first|exact gB|refine dz ?_ ?_)
   all_goals
    intro K;simp only[aD,aI,bh,aL,bg]at K
    try exact absurd K.2 Bool.false_ne_true
   all_goals
    refine⟨by first|exact eC rfl|exact J rfl (eC rfl),C5 (hm:=fun b=>jk d X (eN x 2) [(224,.bool b),(226,L x.id)]) ?_⟩;unfold b92
    first
    |(rw[K,aN];done)
    |(rw[K,aP];done)
    |(rw[K];done)
    |(rw[K.1,K.2];done)
    |(rw[K.1,K.2];rfl)
    |(rw[K.1];rfl)
noncomputable def b93:Bool:=cD (fc x.fZ)&&iH x.f
theorem bc3:bc (eN x 3) (cD (fc x.fZ)) (iH x.f) (jw x.gU)=!b93 x:=by
 unfold b93;generalize cD (fc x.fZ)=a;generalize iH x.f=b;generalize jw x.gU=c;cases a<;>cases b<;>cases c<;>rfl
theorem aeb(hy:CY x)(Y:∀e,b93 x=false->e=1->p=(e,x.id))(h0:b93 x=true->p.1=0):TG ak 2 NF (dm 13 gk) (jk d X (eN x 3) []) (RX Tryz.f93 d X p):=by
 refine Ie (qY (dm 13 gk)) (fj (adp x.f hy.eK (bC hy.cu fa)) (fj (vk x.fZ hy.fZ) (dg _))) (b93 x) (fun b=>jk d X (eN x 3) [(224,.bool b),(226,L x.id)]) 1 x.id (o1:=.ret (.gC [])) (Q:=kI d X) (n1:=2) (adW d X x (cD (fc x.fZ)) (iH x.f)) ?_ (fun b=>by kernel_rfl) C (fun q=>⟨(aE (h0 q)).symm,rfl,rfl⟩) (fun q ch hp=>oW hp C (Y 1 q rfl) (show(1:Int)≠0 by decide))
 . repeat' (first|exact gB|refine dz ?_ ?_)
   all_goals
    intro K;simp only[aD,aI,bh,aL,bg]at K
    try exact absurd K.2 Bool.false_ne_true
   all_goals
    refine⟨by first|exact eC rfl|exact J rfl (eC rfl),C5 (hm:=fun b=>jk d X (eN x 3) [(224,.bool b),(226,L x.id)]) ?_⟩;unfold b93
    first
    |(rw[K,aN];done)
    |(rw[K,aP];done)
    |(rw[K];done)
    |(rw[K.1,K.2];done)
    |(rw[K.1,K.2];rfl)
    |(rw[K.1];rfl)
noncomputable def b94:Bool:=cD (fc x.fZ)
theorem bc4:bc (eN x 4) (cD (fc x.fZ)) (iH x.f) (jw x.gU)=!b94 x:=by
 unfold b94;generalize cD (fc x.fZ)=a;generalize iH x.f=b;generalize jw x.gU=c;cases a<;>cases b<;>cases c<;>rfl
theorem aec(hy:CY x)(Y:∀e,b94 x=false->e=1->p=(e,x.id))(h0:b94 x=true->p.1=0):TG ak 2 NF (dm 13 gk) (jk d X (eN x 4) []) (RX Tryz.f93 d X p):=by
 refine Ie (qY (dm 13 gk)) (fj (vk x.fZ hy.fZ) (dg _)) (b94 x) (fun b=>jk d X (eN x 4) [(224,.bool b),(226,L x.id)]) 1 x.id (o1:=.ret (.gC [])) (Q:=kI d X) (n1:=2) (ad1 d X x (cD (fc x.fZ))) ?_ (fun b=>by kernel_rfl) C (fun q=>⟨(aE (h0 q)).symm,rfl,rfl⟩) (fun q ch hp=>oW hp C (Y 1 q rfl) (show(1:Int)≠0 by decide))
 . repeat' (first|exact gB|refine dz ?_ ?_)
   all_goals
    intro K;simp only[aD,aI,bh,aL,bg]at K
    try exact absurd K.2 Bool.false_ne_true
   all_goals
    refine⟨by first|exact eC rfl|exact J rfl (eC rfl),C5 (hm:=fun b=>jk d X (eN x 4) [(224,.bool b),(226,L x.id)]) ?_⟩;unfold b94
    first
    |(rw[K,aN];done)
    |(rw[K,aP];done)
    |(rw[K];done)
    |(rw[K.1,K.2];done)
    |(rw[K.1,K.2];rfl)
    |(rw[K.1];rfl)
noncomputable def b95:Bool:=cD (fc x.fZ)&&jw x.gU
theorem bc5:bc (eN x 5) (cD (fc x.fZ)) (iH x.f) (jw x.gU)=!b95 x:=by
 unfold b95;generalize cD (fc x.fZ)=a;generalize iH x.f=b;generalize jw x.gU=c;cases a<;>cases b<;>cases c<;>rfl
theorem aed(hy:CY x)(Y:∀e,b95 x=false->e=1->p=(e,x.id))(h0:b95 x=true->p.1=0):TG ak 2 NF (dm 13 gk) (jk d X (eN x 5) []) (RX Tryz.f93 d X p):=by
 refine Ie (qY (dm 13 gk)) (fj (an4 x.gU hy.gU) (fj (vk x.fZ hy.fZ) (dg _))) (b95 x) (fun b=>jk d X (eN x 5) [(224,.bool b),(226,L x.id)]) 1 x.id (o1:=.ret (.gC [])) (Q:=kI d X) (n1:=2) (ad6 d X x (cD (fc x.fZ)) (jw x.gU)) ?_ (fun b=>by kernel_rfl) C (fun q=>⟨(aE (h0 q)).symm,rfl,rfl⟩) (fun q ch hp=>oW hp C (Y 1 q rfl) (show(1:Int)≠0 by decide))
 . repeat' (first|exact gB|refine dz ?_ ?_)
   all_goals
    intro K;simp only[aD,aI,bh,aL,bg]at K
    try exact absurd K.2 Bool.false_ne_true
   all_goals
    refine⟨by first|exact eC rfl|exact J rfl (eC rfl),C5 (hm:=fun b=>jk d X (eN x 5) [(224,.bool b),(226,L x.id)]) ?_⟩;unfold b95
    first
    |(rw[K,aN];done)
    |(rw[K,aP];done)
    |(rw[K];done)
    |(rw[K.1,K.2];done)
    |(rw[K.1,K.2];rfl)
    |(rw[K.1];rfl)
end
end
set_option maxRecDepth 10000
theorem yz(p:P7):(p.a==(0:Int)&&(p.b==(0:Int)&&(p.c==(0:Int)&&(p.d==(0:Int)&&(p.e==(0:Int)&&(p.f==(0:Int)&&(p.n==(0:Int)&&true)))))))=uK p:=rfl
theorem yA(p:C4):(p.r==(0:Int)&&(p.g==(0:Int)&&(p.b==(0:Int)&&(p.a==(0:Int)&&true))))=Ft p:=rfl
section
variable{d:Dc}{X:List (Eng.D×Eng.D)}{p:Int×Int}
section
variable(x:eG)
theorem aee(hy:CY x)(hb:Kq x.f)(h:p=(if Gb (eN x 1)=false then 41 else if bp (eN x 1) (Aq x.pl)=true then 44 else if bs d.sp.length (eN x 1)=true then 23 else if bc (eN x 1) (cD (fc x.fZ)) (iH x.f) (jw x.gU)=true then 1 else 0,x.id)):TG ak 2 NF (dm 5 gk) (jk d X (eN x 1) []) (RX Tryz.f93 d X p):=by
 rw[un1,bc1]at h;refine fu 4 (dg _) (adI d X x) all_nil ?_;refine j9 (qY (dB (dm 9 gk))) (dg _) (u51 x) (fun b=>mA d X (eN x 1) true (QM (eN x 1)) [(161,.bool b),(163,L x.id)]) 41 x.id [0,3,4,5] (mA d X (eN x 1) true (QM (eN x 1)) []) (adJ d X x) ?_ (fun b=>by kernel_rfl) C (fun q5=>?_) (fun q ch hp=>oW hp C (by rw[h,q];rfl) (show(41:Int)≠0 by decide))
 . repeat' (first|exact gB|refine dz ?_ ?_)
   all_goals
    intro K;simp only[aD,aI,bh,aL,bg,yz,yA]at K;refine⟨?_,C5 (hm:=(fun b=>mA d X (eN x 1) true (QM (eN x 1)) [(161,.bool b),(163,L x.id)])) ?_⟩
    . repeat' (first|exact all_nil|refine J ?_ ?_)
      all_goals exact aH V.bool (by simp)
    . unfold u51 nN;simp only[K,aN,aP,cq,cz]
 rw[q5]at h;have nx:th x.f=true->TG ak 2 NF (dm 11 gk) (vz d X (eN x 1) true []) (RX Tryz.f93 d X p):=fun q6=>by
  rw[q6]at h;refine j9 (qY (dB (dm 11 gk))) (fj (afD x.pl) (dg _)) (Aq x.pl) (fun b=>jk d X (eN x 1) [(181,.bool b),(183,L x.id)]) 44 x.id [0,3] (jk d X (eN x 1) []) (adL d X x (Aq x.pl)) (dA (g0 ⟨eC rfl,rfl⟩)) (fun b=>by kernel_rfl) C (fun q7=>?_) (fun q ch hp=>oW hp C (by rw[h];unfold bp;rw[q];rfl) (show(44:Int)≠0 by decide));have h7:bp (eN x 1) (Aq x.pl)=false:=by unfold bp;rw[q7];rfl
  rw[h7]at h;refine QO (eN x 1) (fun e q he=>?_) fun q9=>?_
  . rw[q]at h;rw[he];exact h
  . rw[q9]at h;refine ad9 x hy (fun e q he=>?_) fun q=>?_
    . rw[q]at h;rw[he];exact h
    . rw[q]at h;rw[h];rfl
 refine j9 (qY (dB (dm 10 gk))) CO (th x.f) (fun b=>vz d X (eN x 1) true [(171,.bool b),(173,L x.id)]) 41 x.id [0,3,5] (vz d X (eN x 1) true []) (adK d X x) ?_ (fun b=>by kernel_rfl) C nx (fun q ch hp=>oW hp C (by rw[h,q];rfl) (show(41:Int)≠0 by decide));have e1:dM x.f.eK=dM (dX (dM x.f.eK)):=by rw[fh]
 have e2:x.f.eK.length=(dX (dM x.f.eK)).length:=by rw[fh]
 have e3:dM x.f.cu=dM (dX (dM x.f.cu)):=by rw[fh]
 have e4:x.f.cu.length=(dX (dM x.f.cu)).length:=by rw[fh]
 have e5:lK (fT ⟨x.f.k,x.f.r,dX (dM x.f.eK),x.f.dv,x.f.vl,dX (dM x.f.cu)⟩) (fT ⟨0,0,dX [],0,0,dX []⟩)=th x.f:=by
  rw[fh,fh];exact tq x.f hb hy.eK hy.cu
 repeat' (first|exact gB|refine dz ?_ ?_)
 all_goals
  intro K;simp only[aD,aI,bh,aL,bg]at K;refine⟨?_,C5 (hm:=(fun b=>vz d X (eN x 1) true [(171,.bool b),(173,L x.id)])) (by rw[<- e5];exact K)⟩
  repeat' (first|exact all_nil|refine J ?_ ?_)
  all_goals first
   |exact e1
   |exact e2
   |exact e3
   |exact e4
   |exact hy.eK
   |exact hy.cu
   |rfl
   |exact aS _
theorem aef(hy:CY x)(hb:Kq x.f)(h:p=(if Gb (eN x 2)=false then 41 else if bp (eN x 2) (Aq x.pl)=true then 44 else if bs d.sp.length (eN x 2)=true then 23 else if bc (eN x 2) (cD (fc x.fZ)) (iH x.f) (jw x.gU)=true then 1 else 0,x.id)):TG ak 2 NF (dm 5 gk) (jk d X (eN x 2) []) (RX Tryz.f93 d X p):=by
 rw[un2,bc2]at h;refine fu 4 (dg _) (adN d X x) all_nil ?_;refine j9 (qY (dB (dm 9 gk))) (dg _) (u52 x) (fun b=>mA d X (eN x 2) false (MP (eN x 2)) [(161,.bool b),(163,L x.id)]) 41 x.id [0,3,4,5] (mA d X (eN x 2) false (MP (eN x 2)) []) (adO d X x) ?_ (fun b=>by kernel_rfl) C (fun q5=>?_) (fun q ch hp=>oW hp C (by rw[h,q];rfl) (show(41:Int)≠0 by decide))
 . repeat' (first|exact gB|refine dz ?_ ?_)
   all_goals
    intro K;simp only[aD,aI,bh,aL,bg,yz,yA]at K;refine⟨?_,C5 (hm:=(fun b=>mA d X (eN x 2) false (MP (eN x 2)) [(161,.bool b),(163,L x.id)])) ?_⟩
    . repeat' (first|exact all_nil|refine J ?_ ?_)
      all_goals exact aH V.bool (by simp)
    . unfold u52 nN;simp only[K,aN,aP,cq,cz]
 rw[q5]at h;have nx:th x.f=true->TG ak 2 NF (dm 11 gk) (vz d X (eN x 2) false []) (RX Tryz.f93 d X p):=fun q6=>by
  rw[q6]at h;refine j9 (qY (dB (dm 11 gk))) (dg _) (true) (fun b=>jk d X (eN x 2) [(181,.bool b),(183,L x.id)]) 44 x.id [0,3] (jk d X (eN x 2) []) (adQ d X x) (dA (g0 ⟨all_nil,rfl⟩)) (fun b=>by kernel_rfl) C (fun q7=>?_) (fun q ch hp=>absurd q fa);have h7:bp (eN x 2) (Aq x.pl)=false:=by unfold bp;rfl
  rw[h7]at h;refine QO (eN x 2) (fun e q he=>?_) fun q9=>?_
  . rw[q]at h;rw[he];exact h
  . rw[q9]at h;refine aea x hy (fun e q he=>?_) fun q=>?_
    . rw[q]at h;rw[he];exact h
    . rw[q]at h;rw[h];rfl
 refine j9 (qY (dB (dm 10 gk))) CO (th x.f) (fun b=>vz d X (eN x 2) false [(171,.bool b),(173,L x.id)]) 41 x.id [0,3,5] (vz d X (eN x 2) false []) (adP d X x) ?_ (fun b=>by kernel_rfl) C nx (fun q ch hp=>oW hp C (by rw[h,q];rfl) (show(41:Int)≠0 by decide));have e1:dM x.f.eK=dM (dX (dM x.f.eK)):=by rw[fh]
 have e2:x.f.eK.length=(dX (dM x.f.eK)).length:=by rw[fh]
 have e3:dM x.f.cu=dM (dX (dM x.f.cu)):=by rw[fh]
 have e4:x.f.cu.length=(dX (dM x.f.cu)).length:=by rw[fh]
 have e5:lK (fT ⟨x.f.k,x.f.r,dX (dM x.f.eK),x.f.dv,x.f.vl,dX (dM x.f.cu)⟩) (fT ⟨0,0,dX [],0,0,dX []⟩)=th x.f:=by
  rw[fh,fh];exact tq x.f hb hy.eK hy.cu
 repeat' (first|exact gB|refine dz ?_ ?_)
 all_goals
  intro K;simp only[aD,aI,bh,aL,bg]at K;refine⟨?_,C5 (hm:=(fun b=>vz d X (eN x 2) false [(171,.bool b),(173,L x.id)])) (by rw[<- e5];exact K)⟩
  repeat' (first|exact all_nil|refine J ?_ ?_)
  all_goals first
   |exact e1
   |exact e2
   |exact e3
   |exact e4
   |exact hy.eK
   |exact hy.cu
   |rfl
   |exact aS _
theorem aeg(hy:CY x)(hb:True)(h:p=(if Gb (eN x 3)=false then 41 else if bp (eN x 3) (Aq x.pl)=true then 44 else if bs d.sp.length (eN x 3)=true then 23 else if bc (eN x 3) (cD (fc x.fZ)) (iH x.f) (jw x.gU)=true then 1 else 0,x.id)):TG ak 2 NF (dm 5 gk) (jk d X (eN x 3) []) (RX Tryz.f93 d X p):=by
 rw[un3,bc3]at h;refine fu 4 (dg _) (adS d X x) all_nil ?_;refine j9 (qY (dB (dm 9 gk))) (dg _) (u53 x) (fun b=>mA d X (eN x 3) false (Lt (eN x 3)) [(161,.bool b),(163,L x.id)]) 41 x.id [0,3,4,5] (mA d X (eN x 3) false (Lt (eN x 3)) []) (adT d X x) ?_ (fun b=>by kernel_rfl) C (fun q5=>?_) (fun q ch hp=>oW hp C (by rw[h,q];rfl) (show(41:Int)≠0 by decide))
 . repeat' (first|exact gB|refine dz ?_ ?_)
   all_goals
    intro K;simp only[aD,aI,bh,aL,bg,yz,yA]at K;refine⟨?_,C5 (hm:=(fun b=>mA d X (eN x 3) false (Lt (eN x 3)) [(161,.bool b),(163,L x.id)])) ?_⟩
    . repeat' (first|exact all_nil|refine J ?_ ?_)
      all_goals exact aH V.bool (by simp)
    . unfold u53 nN;simp only[K,aN,aP,cq,cz]
 rw[q5]at h;have nx:true=true->TG ak 2 NF (dm 11 gk) (vz d X (eN x 3) false []) (RX Tryz.f93 d X p):=fun q6=>by
  skip
  refine j9 (qY (dB (dm 11 gk))) (dg _) (true) (fun b=>jk d X (eN x 3) [(181,.bool b),(183,L x.id)]) 44 x.id [0,3] (jk d X (eN x 3) []) (adV d X x) (dA (g0 ⟨all_nil,rfl⟩)) (fun b=>by kernel_rfl) C (fun q7=>?_) (fun q ch hp=>absurd q fa);have h7:bp (eN x 3) (Aq x.pl)=false:=by unfold bp;rfl
  rw[h7]at h;refine QO (eN x 3) (fun e q he=>?_) fun q9=>?_
  . rw[q]at h;rw[he];exact h
  . rw[q9]at h;refine aeb x hy (fun e q he=>?_) fun q=>?_
    . rw[q]at h;rw[he];exact h
    . rw[q]at h;rw[h];rfl
 refine j9 (qY (dB (dm 10 gk))) CO true (fun b=>vz d X (eN x 3) false [(171,.bool b),(173,L x.id)]) 41 x.id [0,3,5] (vz d X (eN x 3) false []) (adU d X x) (dA (g0 ⟨?_,rfl⟩)) (fun b=>by kernel_rfl) C (fun q=>nx q) (fun q ch hp=>absurd q fa);have e1:dM x.f.eK=dM (dX (dM x.f.eK)):=by rw[fh]
 have e2:x.f.eK.length=(dX (dM x.f.eK)).length:=by rw[fh]
 have e3:dM x.f.cu=dM (dX (dM x.f.cu)):=by rw[fh]
 have e4:x.f.cu.length=(dX (dM x.f.cu)).length:=by rw[fh]
 repeat' (first|exact all_nil|refine J ?_ ?_)
 all_goals first
  |exact e1
  |exact e2
  |exact e3
  |exact e4
  |exact hy.eK
  |exact hy.cu
  |exact aH V.bool (by rw[kj];exact beq_self_eq_true _)
theorem aeh(hy:CY x)(hb:Kq x.f)(h:p=(if Gb (eN x 4)=false then 41 else if bp (eN x 4) (Aq x.pl)=true then 44 else if bs d.sp.length (eN x 4)=true then 23 else if bc (eN x 4) (cD (fc x.fZ)) (iH x.f) (jw x.gU)=true then 1 else 0,x.id)):TG ak 2 NF (dm 5 gk) (jk d X (eN x 4) []) (RX Tryz.f93 d X p):=by
 rw[un4,bc4]at h;refine fu 4 (dg _) (adX d X x) all_nil ?_;refine j9 (qY (dB (dm 9 gk))) (dg _) (u54 x) (fun b=>mA d X (eN x 4) true (Ni (eN x 4)) [(161,.bool b),(163,L x.id)]) 41 x.id [0,3,4,5] (mA d X (eN x 4) true (Ni (eN x 4)) []) (adY d X x) ?_ (fun b=>by kernel_rfl) C (fun q5=>?_) (fun q ch hp=>oW hp C (by rw[h,q];rfl) (show(41:Int)≠0 by decide))
 . repeat' (first|exact gB|refine dz ?_ ?_)
   all_goals
    intro K;simp only[aD,aI,bh,aL,bg,yz,yA]at K;refine⟨?_,C5 (hm:=(fun b=>mA d X (eN x 4) true (Ni (eN x 4)) [(161,.bool b),(163,L x.id)])) ?_⟩
    . repeat' (first|exact all_nil|refine J ?_ ?_)
      all_goals exact aH V.bool (by simp)
    . unfold u54 nN;simp only[K,aN,aP,cq,cz]
 rw[q5]at h;have nx:th x.f=true->TG ak 2 NF (dm 11 gk) (vz d X (eN x 4) true []) (RX Tryz.f93 d X p):=fun q6=>by
  rw[q6]at h;refine j9 (qY (dB (dm 11 gk))) (fj (afD x.pl) (dg _)) (Aq x.pl) (fun b=>jk d X (eN x 4) [(181,.bool b),(183,L x.id)]) 44 x.id [0,3] (jk d X (eN x 4) []) (ad0 d X x (Aq x.pl)) (dA (g0 ⟨eC rfl,rfl⟩)) (fun b=>by kernel_rfl) C (fun q7=>?_) (fun q ch hp=>oW hp C (by rw[h];unfold bp;rw[q];rfl) (show(44:Int)≠0 by decide));have h7:bp (eN x 4) (Aq x.pl)=false:=by unfold bp;rw[q7];rfl
  rw[h7]at h;refine QO (eN x 4) (fun e q he=>?_) fun q9=>?_
  . rw[q]at h;rw[he];exact h
  . rw[q9]at h;refine aec x hy (fun e q he=>?_) fun q=>?_
    . rw[q]at h;rw[he];exact h
    . rw[q]at h;rw[h];rfl
 refine j9 (qY (dB (dm 10 gk))) CO (th x.f) (fun b=>vz d X (eN x 4) true [(171,.bool b),(173,L x.id)]) 41 x.id [0,3,5] (vz d X (eN x 4) true []) (adZ d X x) ?_ (fun b=>by kernel_rfl) C nx (fun q ch hp=>oW hp C (by rw[h,q];rfl) (show(41:Int)≠0 by decide));have e1:dM x.f.eK=dM (dX (dM x.f.eK)):=by rw[fh]
 have e2:x.f.eK.length=(dX (dM x.f.eK)).length:=by rw[fh]
 have e3:dM x.f.cu=dM (dX (dM x.f.cu)):=by rw[fh]
 have e4:x.f.cu.length=(dX (dM x.f.cu)).length:=by rw[fh]
 have e5:lK (fT ⟨x.f.k,x.f.r,dX (dM x.f.eK),x.f.dv,x.f.vl,dX (dM x.f.cu)⟩) (fT ⟨0,0,dX [],0,0,dX []⟩)=th x.f:=by
  rw[fh,fh];exact tq x.f hb hy.eK hy.cu
 repeat' (first|exact gB|refine dz ?_ ?_)
 all_goals
  intro K;simp only[aD,aI,bh,aL,bg]at K;refine⟨?_,C5 (hm:=(fun b=>vz d X (eN x 4) true [(171,.bool b),(173,L x.id)])) (by rw[<- e5];exact K)⟩
  repeat' (first|exact all_nil|refine J ?_ ?_)
  all_goals first
   |exact e1
   |exact e2
   |exact e3
   |exact e4
   |exact hy.eK
   |exact hy.cu
   |rfl
   |exact aS _
theorem aei(hy:CY x)(hb:Kq x.f)(h:p=(if Gb (eN x 5)=false then 41 else if bp (eN x 5) (Aq x.pl)=true then 44 else if bs d.sp.length (eN x 5)=true then 23 else if bc (eN x 5) (cD (fc x.fZ)) (iH x.f) (jw x.gU)=true then 1 else 0,x.id)):TG ak 2 NF (dm 5 gk) (jk d X (eN x 5) []) (RX Tryz.f93 d X p):=by
 rw[un5,bc5]at h;refine fu 4 (dg _) (ad2 d X x) all_nil ?_;refine j9 (qY (dB (dm 9 gk))) (dg _) (u55 x) (fun b=>mA d X (eN x 5) false (Nj (eN x 5)) [(161,.bool b),(163,L x.id)]) 41 x.id [0,3,4,5] (mA d X (eN x 5) false (Nj (eN x 5)) []) (ad3 d X x) ?_ (fun b=>by kernel_rfl) C (fun q5=>?_) (fun q ch hp=>oW hp C (by rw[h,q];rfl) (show(41:Int)≠0 by decide))
 . repeat' (first|exact gB|refine dz ?_ ?_)
   all_goals
    intro K;simp only[aD,aI,bh,aL,bg,yz,yA]at K;refine⟨?_,C5 (hm:=(fun b=>mA d X (eN x 5) false (Nj (eN x 5)) [(161,.bool b),(163,L x.id)])) ?_⟩
    . repeat' (first|exact all_nil|refine J ?_ ?_)
      all_goals exact aH V.bool (by simp)
    . unfold u55 nN;simp only[K,aN,aP,cq,cz]
 rw[q5]at h;have nx:th x.f=true->TG ak 2 NF (dm 11 gk) (vz d X (eN x 5) false []) (RX Tryz.f93 d X p):=fun q6=>by
  rw[q6]at h;refine j9 (qY (dB (dm 11 gk))) (dg _) (true) (fun b=>jk d X (eN x 5) [(181,.bool b),(183,L x.id)]) 44 x.id [0,3] (jk d X (eN x 5) []) (ad5 d X x) (dA (g0 ⟨all_nil,rfl⟩)) (fun b=>by kernel_rfl) C (fun q7=>?_) (fun q ch hp=>absurd q fa);have h7:bp (eN x 5) (Aq x.pl)=false:=by unfold bp;rfl
  rw[h7]at h;refine QO (eN x 5) (fun e q he=>?_) fun q9=>?_
  . rw[q]at h;rw[he];exact h
  . rw[q9]at h;refine aed x hy (fun e q he=>?_) fun q=>?_
    . rw[q]at h;rw[he];exact h
    . rw[q]at h;rw[h];rfl
 refine j9 (qY (dB (dm 10 gk))) CO (th x.f) (fun b=>vz d X (eN x 5) false [(171,.bool b),(173,L x.id)]) 41 x.id [0,3,5] (vz d X (eN x 5) false []) (ad4 d X x) ?_ (fun b=>by kernel_rfl) C nx (fun q ch hp=>oW hp C (by rw[h,q];rfl) (show(41:Int)≠0 by decide));have e1:dM x.f.eK=dM (dX (dM x.f.eK)):=by rw[fh]
 have e2:x.f.eK.length=(dX (dM x.f.eK)).length:=by rw[fh]
 have e3:dM x.f.cu=dM (dX (dM x.f.cu)):=by rw[fh]
 have e4:x.f.cu.length=(dX (dM x.f.cu)).length:=by rw[fh]
 have e5:lK (fT ⟨x.f.k,x.f.r,dX (dM x.f.eK),x.f.dv,x.f.vl,dX (dM x.f.cu)⟩) (fT ⟨0,0,dX [],0,0,dX []⟩)=th x.f:=by
  rw[fh,fh];exact tq x.f hb hy.eK hy.cu
 repeat' (first|exact gB|refine dz ?_ ?_)
 all_goals
  intro K;simp only[aD,aI,bh,aL,bg]at K;refine⟨?_,C5 (hm:=(fun b=>vz d X (eN x 5) false [(171,.bool b),(173,L x.id)])) (by rw[<- e5];exact K)⟩
  repeat' (first|exact all_nil|refine J ?_ ?_)
  all_goals first
   |exact e1
   |exact e2
   |exact e3
   |exact e4
   |exact hy.eK
   |exact hy.cu
   |rfl
   |exact aS _
theorem Yy(hy:CY x)(hb:x.kd≠3->Kq x.f):TG ak 2 NF gk (dw [pT,x.v] (kI d X) 2) (RX Tryz.f93 d X (vy d.sp.length x,x.id)):=by
 have h0:vy d.sp.length x=if bk x=true then 41 else if rU x.nm=false then 72 else if ba x (cD (fc x.iD))=true then 1 else if Gb x=false then 41 else if bp x (Aq x.pl)=true then 44 else if bs d.sp.length x=true then 23 else if bc x (cD (fc x.fZ)) (iH x.f) (jw x.gU)=true then 1 else 0:=rfl
 generalize vy d.sp.length x=e at *;refine fu 1 (dg _) (aoR d X x) all_nil ?_;refine j9 (qY (dB (dm 1 gk))) (dg _) (!bk x) (fun b=>jk d X x [(13,.bool b),(15,L x.id)]) 41 x.id [0,3] (jk d X x []) (aoS d X x) ?_ (fun b=>by kernel_rfl) C (fun q1=>?_) (fun q ch hp=>oW hp C (by rw[h0,aE (by simpa using q)]) (show(41:Int)≠0 by decide))
 . repeat' (first|exact gB|refine dz ?_ ?_)
   all_goals
    intro K;simp only[aD,aI,bh,aL,bg,aX,bt]at K;refine⟨all_nil,C5 (hm:=(fun b=>jk d X x [(13,.bool b),(15,L x.id)])) ?_⟩;unfold bk
    first
    |(rw[aU G,aU G];rfl)
    |(rw[aU G,aY G];rfl)
    |(rw[aY G];rfl)
 have q1:bk x=false:=by simpa using q1
 rw[aB (by rw[q1];decide)]at h0;refine j9 (qY (dB (dm 2 gk))) (fj (TO x.nm) (dg _)) (rU x.nm) (fun b=>jk d X x [(19,.bool b),(21,L x.id)]) 72 x.id [0,3] (jk d X x []) (aoT d X x (rU x.nm)) (dA (g0 ⟨eC rfl,rfl⟩)) (fun b=>by kernel_rfl) C (fun q2=>?_) (fun q ch hp=>oW hp C (by rw[h0,aE q]) (show(72:Int)≠0 by decide));rw[aB (by rw[q2];decide),ad8]at h0;refine j9 (qY (dB (dm 3 gk))) (dg _) (opB x) (fun b=>jk d X x [(40,.bool b),(42,L x.id)]) 1 x.id [0,3] (jk d X x []) (aoU d X x) ?_ (fun b=>by kernel_rfl) C (fun q3=>?_) (fun q ch hp=>oW hp C (by rw[h0,aE (by rw[q];rfl)]) (show(1:Int)≠0 by decide))
 . repeat' (first|exact gB|refine dz ?_ ?_)
   all_goals
    intro K;simp only[aD,aI,bh,aL,bg,aX,bt]at K;refine⟨all_nil,C5 (hm:=(fun b=>jk d X x [(40,.bool b),(42,L x.id)])) ?_⟩;unfold opB
    first
    |(rw[aU G,aU G,aU G,aU G];rfl)
    |(rw[aU G,aU G,aU G,aY G];rfl)
    |(rw[aU G,aU G,aY G];rfl)
    |(rw[aU G,aY G];rfl)
    |(rw[aY G];rfl)
 refine j9 (qY (dB (dm 4 gk))) (fj (vk x.iD hy.iD) (dg _)) (mkB x (cD (fc x.iD))) (fun b=>jk d X x [(57,.bool b),(59,L x.id)]) 1 x.id [0,3] (jk d X x []) (aoV d X x (cD (fc x.iD))) ?_ (fun b=>by kernel_rfl) C (fun q4=>?_) (fun q ch hp=>oW hp C (by rw[h0,aE (by rw[q,cz];rfl)]) (show(1:Int)≠0 by decide))
 . repeat' (first|exact gB|refine dz ?_ ?_)
   all_goals
    intro K;simp only[aD,aI,bh,aL,bg]at K;refine⟨eC rfl,C5 (hm:=(fun b=>jk d X x [(57,.bool b),(59,L x.id)])) ?_⟩;unfold mkB nN;simp only[K,aN,aP,cj,cm]
 rw[aB (by rw[q3,q4];decide)]at h0;have Y:x.kd=1\/x.kd=2\/x.kd=3\/x.kd=4\/x.kd=5:=by
  unfold bk at q1;rw[cI,bt,bt]at q1;omega
 have CD:∀k,x.kd=k->x=eN x k:=fun k h=>by obtain⟨a,b⟩:=x;simp only at h;subst h;rfl
 rcases Y with h|h|h|h|h
 . have ex:=CD 1 h;have:=aee (d:=d) (X:=X) (p:=(e,x.id)) x hy (hb G) (by rw[<- ex];exact aH (fun z=>(z,x.id)) h0);rw[<- ex]at this;exact this
 . have ex:=CD 2 h;have:=aef (d:=d) (X:=X) (p:=(e,x.id)) x hy (hb G) (by rw[<- ex];exact aH (fun z=>(z,x.id)) h0);rw[<- ex]at this;exact this
 . have ex:=CD 3 h;have:=aeg (d:=d) (X:=X) (p:=(e,x.id)) x hy trivial (by rw[<- ex];exact aH (fun z=>(z,x.id)) h0);rw[<- ex]at this;exact this
 . have ex:=CD 4 h;have:=aeh (d:=d) (X:=X) (p:=(e,x.id)) x hy (hb G) (by rw[<- ex];exact aH (fun z=>(z,x.id)) h0);rw[<- ex]at this;exact this
 . have ex:=CD 5 h;have:=aei (d:=d) (X:=X) (p:=(e,x.id)) x hy (hb G) (by rw[<- ex];exact aH (fun z=>(z,x.id)) h0);rw[<- ex]at this;exact this
end
end
theorem Il(d:Dc)(X:List (Eng.D×Eng.D))(x:eG)(hy:CY x)(hb:x.kd≠3->Kq x.f):QN 93 [x.v] d X (vy d.sp.length x,x.id):=U6 Tryz.func93 (Yy x hy hb)
set_option maxRecDepth 10000
noncomputable abbrev MQ:Code:=dG Tryz.f94
noncomputable abbrev Yz:Code:=dB (dm 1 MQ)
noncomputable abbrev YA:Code:=dD (dD (dP Yz))
noncomputable abbrev aej:Code:=dD (dB (dm 2 YA))
noncomputable abbrev aoX:Code:=dD (dD (dm 2 aej))
noncomputable abbrev YB:Code:=dB (dm 2 MQ)
noncomputable abbrev TQ:Code:=dD (dD (dP YB))
noncomputable abbrev MR:Code:=dD (dB (dm 2 TQ))
noncomputable abbrev aek:Code:=dB (dm 1 MR)
noncomputable abbrev YC:Code:=dD (dD (dP aek))
noncomputable abbrev YD:Code:=dD (dB (dm 2 YC))
noncomputable abbrev TS:Code:=dD (dD (dm 4 MQ))
noncomputable abbrev Im:Code:=dD (dB (dm 2 TS))
def hLq(d:Dc)(X cn:List (Eng.D×Eng.D))(q:af):I O:=W ([(0,.cells (d.T++[.map (some 1)])),(1,.gh (some .i64) X),(2,.gh (some .i64) cn)]++q)
def vA(d:Dc)(X cn:List (Eng.D×Eng.D))(r:List (Nat×V)):St:=ff ([(0,pT),(2,.map (some 2))]++r) (hLq d X cn []) 3
def C6(d:Dc)(X cn:List (Eng.D×Eng.D))(x:eG)(r:List (Nat×V)):St:=ff ([(0,pT),(2,.map (some 2)),(8,.ptr (some (3,0)))]++r) (hLq d X cn [(3,.cells x.T)]) 4
def Ge(d:Dc)(X:List (Eng.D×Eng.D))(r:List (Nat×V)):St:=ff ([(0,pT)]++r) (kI d X) 2
def sLt(d:Dc)(X:List (Eng.D×Eng.D))(x:eG)(r:List (Nat×V)):St:=ff ([(0,pT),(15,.ptr (some (2,0)))]++r) (W [(0,.cells (d.T++[.map (some 1)])),(1,.gh (some .i64) X),(2,.cells x.T)]) 3
def sLv(d:Dc)(X:List (Eng.D×Eng.D))(x:eG)(u:ag)(r:List (Nat×V)):St:=ff ([(0,pT),(15,.ptr (some (2,0))),(16,.ptr (some (3,0)))]++r) (W [(0,.cells (d.T++[.map (some 1)])),(1,.gh (some .i64) X),(2,.cells x.T),(3,.cells u)]) 4
abbrev jV(d:Dc)(a b c:Nat)(i:Nat):List (Nat×V):=[(a,.eo false d.ly.length (eX d.ly)),(b,M d.ly.length),(c,M i)]
abbrev DB(x:eG)(a b c:Nat)(j:Nat):List (Nat×V):=[(a,fg x.kids),(b,M x.kids.length),(c,M j)]
abbrev F0(k c:Int)(cn:List (Eng.D×Eng.D)):List (Eng.D×Eng.D):=nw (.int .i64 k) (.int .i64 c) cn
theorem aoY(d:Dc)(X:List (Eng.D×Eng.D)):dn (U dY []) [] 2 Tryz.f94 [0,2] (dN 1 MQ) (dw [pT] (kI d X) 2) [([],
   [],
   .to .normal (ff [(0,pT),(2,.map (some 2))] (W [(0,.cells (d.T++[.map (some 1)])),(1,.gh (some .i64) X),(2,.map [] 0)]) 3))]
 :=dh.of C C C
theorem aoZ(d:Dc)(X cn:List (Eng.D×Eng.D)):dn (U dY []) [] 2 Tryz.f94 [0,2,23,24,25] (dB Yz) (vA d X cn []) [([],
   [],
   .to .normal (vA d X cn (jV d 23 24 25 0)))]
 :=dh.of C C C
theorem ao0(d:Dc)(X cn:List (Eng.D×Eng.D))(i:Nat):dn (U dY []) [(26,.split)] 2 Tryz.f94 [0,2,23,24,25] (dN 2 YA) (vA d X cn (jV d 23 24 25 i)) [([((decide (Int.ofNat i<Int.ofNat d.ly.length)),true)],
   [],
   .to .normal (vA d X cn (jV d 23 24 25 i))),
  ([((decide (Int.ofNat i<Int.ofNat d.ly.length)),false)],
   [],
   .to (.exit 0) (vA d X cn (jV d 23 24 25 i)))]
 :=dh.of C C C
theorem ao1(d:Dc)(X cn:List (Eng.D×Eng.D))(i:Nat)(x:eG):dn (U dY []) [(27,.dy (.dr x.ds))] 2 Tryz.f94 [0,2,23,24,25,30,31,32] (dN 2 aej) (vA d X cn (jV d 23 24 25 i)) [([],
   [((0:Int)<=Int.ofNat i/\Int.ofNat i<(Int.ofNat d.ly.length)),((eX d.ly).length=d.ly.length*31),(V.dr (dj (eX d.ly) (i*31) 31)=V.dr x.ds)],
   .to .normal (vA d X cn (jV d 23 24 25 i++DB x 30 31 32 0)))]
 :=dh.of C C C
theorem ao2(d:Dc)(X cn:List (Eng.D×Eng.D))(i j:Nat)(x:eG)(k c c2:Int):dn (U dY []) [(33,.split),(34,.dy (.dr [.int .i64 k])),(38,.dy (L c)),(39,.dy (L c2)),(40,.dy (M (j+1)))] 2 Tryz.f94 [0,2,23,24,25,30,31,32] (aoX) (vA d X cn (jV d 23 24 25 i++DB x 30 31 32 j)) [([((decide (Int.ofNat j<Int.ofNat x.kids.length)),true)],
   [((0:Int)<=Int.ofNat j/\Int.ofNat j<(Int.ofNat x.kids.length)),((dM x.kids).length=x.kids.length*1),(V.dr (dj (dM x.kids) (j*1) 1)=V.dr [D.int B k]),((if false=true then V.gC [D.kA (V.int B (0:Int)) (fe (D.int B k) cn),V.bool (fe (D.int B k) cn).isSome]else D.kA (V.int B (0:Int)) (fe (D.int B k) cn))=L c),(V.int B (IntKind.i64.wrap (c+(1:Int)))=L c2),(V.int B (IntKind.i64.wrap (Int.ofNat j+(1:Int)))=M (j+1))],
   .to .normal (vA d X (F0 k c2 cn) (jV d 23 24 25 i++DB x 30 31 32 (j+1)))),
  ([((decide (Int.ofNat j<Int.ofNat x.kids.length)),false)],
   [],
   .to (.exit 2) (vA d X cn (jV d 23 24 25 i++DB x 30 31 32 j)))]
 :=dh.of C C C
theorem ao3(d:Dc)(X cn:List (Eng.D×Eng.D))(i j:Nat)(x:eG):dn (U dY []) [(41,.dy (M (i+1)))] 2 Tryz.f94 [0,2,23,24,25] (dm 3 YA) (vA d X cn (jV d 23 24 25 i++DB x 30 31 32 j)) [([],
   [(V.int B (IntKind.i64.wrap (Int.ofNat i+(1:Int)))=M (i+1))],
   .to .normal (vA d X cn (jV d 23 24 25 (i+1))))]
 :=dh.of C C C
theorem ao4(d:Dc)(X cn:List (Eng.D×Eng.D)):dn (U dY []) [] 2 Tryz.f94 [0,2,46,47,48] (dB YB) (vA d X cn []) [([],
   [],
   .to .normal (vA d X cn (jV d 46 47 48 0)))]
 :=dh.of C C C
theorem ao5(d:Dc)(X cn:List (Eng.D×Eng.D))(i:Nat):dn (U dY []) [(49,.split)] 2 Tryz.f94 [0,2,46,47,48] (dN 2 TQ) (vA d X cn (jV d 46 47 48 i)) [([((decide (Int.ofNat i<Int.ofNat d.ly.length)),true)],
   [],
   .to .normal (vA d X cn (jV d 46 47 48 i))),
  ([((decide (Int.ofNat i<Int.ofNat d.ly.length)),false)],
   [],
   .to (.exit 4) (vA d X cn (jV d 46 47 48 i)))]
 :=dh.of C C C
theorem ao6(d:Dc)(X cn:List (Eng.D×Eng.D))(i:Nat)(x:eG):dn (U dY []) [(50,.dy (.dr x.ds))] 2 Tryz.f94 [0,2,8,46,47,48] (dN 1 MR) (vA d X cn (jV d 46 47 48 i)) [([],
   [((0:Int)<=Int.ofNat i/\Int.ofNat i<(Int.ofNat d.ly.length)),((eX d.ly).length=d.ly.length*31),(V.dr (dj (eX d.ly) (i*31) 31)=V.dr x.ds)],
   .to .normal (C6 d X cn x (jV d 46 47 48 i)))]
 :=dh.of C C C
theorem ao7(d:Dc)(X cn:List (Eng.D×Eng.D))(i:Nat)(x:eG):dn (U dY []) [] 2 Tryz.f94 [0,2,8,46,47,48,53,54,55] (dB aek) (C6 d X cn x (jV d 46 47 48 i)) [([],
   [],
   .to .normal (C6 d X cn x (jV d 46 47 48 i++DB x 53 54 55 0)))]
 :=dh.of C C C
theorem ao8(d:Dc)(X cn:List (Eng.D×Eng.D))(i j:Nat)(x:eG):dn (U dY []) [(56,.split)] 2 Tryz.f94 [0,2,8,46,47,48,53,54,55] (dN 2 YC) (C6 d X cn x (jV d 46 47 48 i++DB x 53 54 55 j)) [([((decide (Int.ofNat j<Int.ofNat x.kids.length)),true)],
   [],
   .to .normal (C6 d X cn x (jV d 46 47 48 i++DB x 53 54 55 j))),
  ([((decide (Int.ofNat j<Int.ofNat x.kids.length)),false)],
   [],
   .to (.exit 6) (C6 d X cn x (jV d 46 47 48 i++DB x 53 54 55 j)))]
 :=dh.of C C C
theorem ao9(d:Dc)(X cn:List (Eng.D×Eng.D))(i j:Nat)(x:eG)(k n:Int)(b:Bool):dn (U dY []) [(57,.dy (.dr [.int .i64 k])),(65,.dy (.gC [L n,.bool b]))] 2 Tryz.f94 [0,2,8,46,47,48,53,54,55,12] (dN 2 YD) (C6 d X cn x (jV d 46 47 48 i++DB x 53 54 55 j)) [([],
   [((0:Int)<=Int.ofNat j/\Int.ofNat j<(Int.ofNat x.kids.length)),((dM x.kids).length=x.kids.length*1),(V.dr (dj (dM x.kids) (j*1) 1)=V.dr [D.int B k]),((if true=true then V.gC [D.kA (V.int B (0:Int)) (fe (D.int B k) X),V.bool (fe (D.int B k) X).isSome]else D.kA (V.int B (0:Int)) (fe (D.int B k) X))=V.gC [L n,V.bool b])],
   .to .normal (C6 d X cn x (jV d 46 47 48 i++DB x 53 54 55 j++[(12,.bool b)])))]
 :=dh.of C C C
theorem apa(d:Dc)(X cn:List (Eng.D×Eng.D))(i j:Nat)(x:eG)(b:Bool):dn (U dY []) [] 2 Tryz.f94 [0,2,8,46,47,48,53,54,55,68,70] (ku (dm 2 YD)) (C6 d X cn x (jV d 46 47 48 i++DB x 53 54 55 j++[(12,.bool b)])) [([],
   [],
   .to .normal (C6 d X cn x (jV d 46 47 48 i++DB x 53 54 55 j++[(68,.bool b),(70,L x.id)])))]
 :=dh.of C C C
theorem apb(d:Dc)(X cn:List (Eng.D×Eng.D))(i j:Nat)(x:eG):dn (U dY []) [(72,.dy (M (j+1)))] 2 Tryz.f94 [0,2,8,46,47,48,53,54,55] (dm 3 YC) (C6 d X cn x (jV d 46 47 48 i++DB x 53 54 55 j)) [([],
   [(V.int B (IntKind.i64.wrap (Int.ofNat j+(1:Int)))=M (j+1))],
   .to .normal (C6 d X cn x (jV d 46 47 48 i++DB x 53 54 55 (j+1))))]
 :=dh.of C C C
theorem apc(d:Dc)(X cn:List (Eng.D×Eng.D))(i j:Nat)(x:eG):dn (U dY []) [(80,.split)] 2 Tryz.f94 [0,2,8,13,46,47,48] (dN 2 (dm 2 MR)) (C6 d X cn x (jV d 46 47 48 i++DB x 53 54 55 j)) [([((x.id==d.root),true)],
   [],
   .to .normal (C6 d X cn x ((13,L 0)::jV d 46 47 48 i))),
  ([((x.id==d.root),false)],
   [],
   .to .normal (C6 d X cn x ((13,L 1)::jV d 46 47 48 i)))]
 :=dh.of C C C
theorem apd(d:Dc)(X cn:List (Eng.D×Eng.D))(i:Nat)(x:eG)(w c:Int):dn (U dY []) [(84,.dy (L c))] 2 Tryz.f94 [0,2,8,46,47,48,86,88] (ku (dm 4 MR)) (C6 d X cn x ((13,L w)::jV d 46 47 48 i)) [([],
   [((if false=true then V.gC [D.kA (V.int B (0:Int)) (fe (D.int B x.id) cn),V.bool (fe (D.int B x.id) cn).isSome]else D.kA (V.int B (0:Int)) (fe (D.int B x.id) cn))=L c)],
   .to .normal (C6 d X cn x (jV d 46 47 48 i++[(86,.bool (c==w)),(88,L x.id)])))]
 :=dh.of C C C
theorem ape(d:Dc)(X cn:List (Eng.D×Eng.D))(i:Nat):dn (U dY []) [(90,.dy (M (i+1)))] 2 Tryz.f94 [0,2,46,47,48] (dm 3 TQ) (vA d X cn (jV d 46 47 48 i)) [([],
   [(V.int B (IntKind.i64.wrap (Int.ofNat i+(1:Int)))=M (i+1))],
   .to .normal (vA d X cn (jV d 46 47 48 (i+1))))]
 :=dh.of C C C
theorem apf(d:Dc)(X cn:List (Eng.D×Eng.D))(i:Nat):dn (U dY []) [] 2 Tryz.f94 [0,95,96,97] (dN 1 (dm 3 MQ)) (vA d X cn []) [([],
   [],
   .to .normal (Ge d X (jV d 95 96 97 0)))]
 :=dh.of C C C
theorem apg(d:Dc)(X:List (Eng.D×Eng.D))(i:Nat):dn (U dY []) [(98,.split)] 2 Tryz.f94 [0,95,96,97] (dN 2 TS) (Ge d X (jV d 95 96 97 i)) [([((decide (Int.ofNat i<Int.ofNat d.ly.length)),true)],
   [],
   .to .normal (Ge d X (jV d 95 96 97 i))),
  ([((decide (Int.ofNat i<Int.ofNat d.ly.length)),false)],
   [],
   .to (.exit 8) (Ge d X (jV d 95 96 97 i)))]
 :=dh.of C C C
theorem aph(d:Dc)(X:List (Eng.D×Eng.D))(i:Nat)(x:eG):dn (U dY []) [(99,.dy (.dr x.ds)),(103,.split)] 2 Tryz.f94 [0,15,95,96,97,103] (dN 2 Im) (Ge d X (jV d 95 96 97 i)) [([((x.kd==(4:Int)),true)],
   [((0:Int)<=Int.ofNat i/\Int.ofNat i<(Int.ofNat d.ly.length)),((eX d.ly).length=d.ly.length*31),(V.dr (dj (eX d.ly) (i*31) 31)=V.dr x.ds)],
   .to .normal (sLt d X x (jV d 95 96 97 i++[(103,.bool true)]))),
  ([((x.kd==(4:Int)),false)],
   [((0:Int)<=Int.ofNat i/\Int.ofNat i<(Int.ofNat d.ly.length)),((eX d.ly).length=d.ly.length*31),(V.dr (dj (eX d.ly) (i*31) 31)=V.dr x.ds)],
   .to .normal (sLt d X x (jV d 95 96 97 i++[(103,.bool false)])))]
 :=dh.of C C C
theorem api(d:Dc)(X:List (Eng.D×Eng.D))(i:Nat)(x y:eG):dn (U (qg 44 [L x.of] d X (.gC [y.v,.bool true]) dY) []) [] 2 Tryz.f94 [0,15,16,17,95,96,97] (dN 1 (lH (dm 2 Im))) (sLt d X x (jV d 95 96 97 i++[(103,.bool true)])) [([],
   [([V.ptr (some (0,0)),V.int B x.of]=[pT,L x.of]),((I.nil.set 0 (some (O.cells [V.eo false d.sp.length (lT d.sp),V.int B d.root,V.int B d.nx,V.eo false d.ly.length (eX d.ly),V.map (some 1)]))).set 1 (some (O.gh (some B) X))=kI d X),(2=2)],
   .to .normal (sLv d X x y.T (jV d 95 96 97 i++[(17,.bool true)])))]
 :=dh.of C C C
theorem apj(d:Dc)(X:List (Eng.D×Eng.D))(i:Nat)(x:eG):dn (U (qg 44 [L x.of] d X (.gC [Te,.bool false]) dY) []) [] 2 Tryz.f94 [0,15,16,17,95,96,97] (dN 1 (lH (dm 2 Im))) (sLt d X x (jV d 95 96 97 i++[(103,.bool true)])) [([],
   [([V.ptr (some (0,0)),V.int B x.of]=[pT,L x.of]),((I.nil.set 0 (some (O.cells [V.eo false d.sp.length (lT d.sp),V.int B d.root,V.int B d.nx,V.eo false d.ly.length (eX d.ly),V.map (some 1)]))).set 1 (some (O.gh (some B) X))=kI d X),(2=2)],
   .to .normal (sLv d X x (M7 0 0 z7 0) (jV d 95 96 97 i++[(17,.bool false)])))]
 :=dh.of C C C
theorem apk(d:Dc)(X:List (Eng.D×Eng.D))(i:Nat)(x y:eG):dn (U dY []) [(115,.split)] 2 Tryz.f94 [0,95,96,97,116,118] (ku (dm 1 (lH (dm 2 Im)))) (sLv d X x y.T (jV d 95 96 97 i++[(17,.bool true)])) [([((y.kd !=(3:Int)),true)],
   [],
   .to .normal (Ge d X (jV d 95 96 97 i++[(116,.bool true),(118,L x.id)]))),
  ([((y.kd !=(3:Int)),false)],
   [],
   .to .normal (Ge d X (jV d 95 96 97 i++[(116,.bool false),(118,L x.id)])))]
 :=dh.of C C C
theorem apl(d:Dc)(X:List (Eng.D×Eng.D))(i:Nat)(x:eG):dn (U dY []) [] 2 Tryz.f94 [0,95,96,97,116,118] (ku (dm 1 (lH (dm 2 Im)))) (sLv d X x (M7 0 0 z7 0) (jV d 95 96 97 i++[(17,.bool false)])) [([],
   [],
   .to .normal (Ge d X (jV d 95 96 97 i++[(116,.bool false),(118,L x.id)])))]
 :=dh.of C C C
theorem apm(d:Dc)(X:List (Eng.D×Eng.D))(i:Nat)(x:eG):dn (U dY []) [] 2 Tryz.f94 [0,95,96,97] (oH (dm 2 Im)) (sLt d X x (jV d 95 96 97 i++[(103,.bool false)])) [([],
   [],
   .to .normal (Ge d X (jV d 95 96 97 i)))]
 :=dh.of C C C
theorem apn(d:Dc)(X:List (Eng.D×Eng.D))(i:Nat):dn (U dY []) [(120,.dy (M (i+1)))] 2 Tryz.f94 [0,95,96,97] (dm 3 TS) (Ge d X (jV d 95 96 97 i)) [([],
   [(V.int B (IntKind.i64.wrap (Int.ofNat i+(1:Int)))=M (i+1))],
   .to .normal (Ge d X (jV d 95 96 97 (i+1))))]
 :=dh.of C C C
set_option maxRecDepth 10000
section
variable{N n0:Nat}{c:Code}{s:St}{h1:Exit->St->Prop}{hL:gy}{hh:List (Nat×List (Nat×lI))}{hx:List (Nat×lI)}{fn:Func}{live:List Nat}{di:List (List (Bool×Bool)×ah×jD)}
theorem mE(k:Nat)(es:eR ak hL)(h2:V->I O->Nat->Prop)(hr:dn (U hL hh) hx N fn live (dN k c) s di)(h:∀g∈di,(∀b∈g.1,b.1=b.2)->(∀a∈g.2.1,a)/\SqQ ak N n0 fn live h2 (dm k c) h1 g.2.2)(K:eJ n0 c=true:=by kernel_rfl):TG ak N n0 c s h1:=by
 obtain⟨iX,hr⟩:=hr;obtain⟨e1,e2,e3⟩:=hr.parts;obtain⟨l,hl⟩:=bA.1 e1;unfold uG wF at e2;unfold Ci at e3;rw[hl]at e2 e3;simp only[tE]at e2 e3;obtain⟨⟨p,hp,ho⟩,R⟩:=jZ ak (XH es hh).T (XH es hh).cf hx (XH es hh).snd 1000 (dN k c) s l hl;obtain⟨hA,hT⟩:=h (p.1.conds,p.1.M4,nr ak N fn live p.2) (e3▸my hp) ho;have gi:=R p hp ho ⟨qt l e2 p hp,hA⟩;obtain⟨pp,x,A⟩:=p;simp only[nr]at hT;cases x with
 |normal=>
  simp only at hT;split at hT
  . rename_i s2 qV;exact xW (fr:=1000) (XH es hh).ok mo k K gi (fU qV hT)
  . exact hT.elim
 |ret=>
  simp only at hT;split at hT
  . rename_i v h' n' IN;exact qv (fr:=1000) (XH es hh).ok mo K (zn k c s _ A gi (by intro q;cases q)) rfl (hT.2 A ⟨.inr rfl,v,h',n',IN,hT.1⟩)
  . exact hT.elim
 |exit i=>
  simp only at hT;split at hT
  . rename_i s2 qV;exact qv (fr:=1000) (XH es hh).ok mo K (zn k c s _ A gi (by intro q;cases q)) rfl (hT A qV)
  . exact hT.elim
 |panic _=>exact hT.elim
end
def Gf(cn:Sn)(k:Int):Int:=match fe (.int .i64 k) cn with
 |some (.int .i64 n)=>n
 |_=>0
def Ks(cn:Sn):Prop:=∀k v,fe (.int .i64 k) cn=some v->∃n,v= .int .i64 n
def F1(cn:Sn)(ks:List Int):Sn:=ks.foldl (fun c k=>F0 k (Gf c k+1) c) cn
def Kt(ls:List eG):Sn:=F1 [] (k9 ls)
theorem TT(k y c:Int)(cn:Sn):Gf (F0 y c cn) k=if k=y then c else Gf cn k:=by
 unfold Gf F0;rw[rW];by_cases q:k=y
 . rw[aE q,aE q]
 . rw[aB q,aB q]
theorem QS{cn:Sn}(h:Ks cn)(y c:Int):Ks (F0 y c cn):=fun k v e=>by
 unfold F0 at e;rw[rW]at e;split at e
 . exact⟨c,(de e).symm⟩
 . exact h k v e
theorem F2:∀(ks:List Int) (cn:Sn),Ks cn->Ks (F1 cn ks)/\∀k,Gf (F1 cn ks) k=Gf cn k+(ks.count k:Int)
 | [],cn,h=>⟨h,fun k=>by rw[List.count_nil];simp[F1]⟩
 |y::ks,cn,h=>by
  obtain⟨Q,R⟩:=F2 ks (F0 y (Gf cn y+1) cn) (QS h _ _);refine⟨Q,fun k=>?_⟩;have e:F1 cn (y::ks)=F1 (F0 y (Gf cn y+1) cn) ks:=rfl;rw[e,R,TT,List.count_cons];by_cases q:k=y
  . subst q;simp;omega
  . rw[aB q];have:(y==k)=false:=by simpa using fun e=>q e.symm
    rw[this];simp
theorem apo:Ks []:=fun _ _ e=>by cases e
theorem F3(ls:List eG):Ks (Kt ls)/\∀k,Gf (Kt ls) k=(lU ls k:Int):=by
 obtain⟨Q,R⟩:=F2 (k9 ls) [] apo;refine⟨Q,fun k=>?_⟩;have:=R k;rw[yf];have e:Gf [] k=0:=rfl;rw[e,Int.zero_add]at this;exact this
theorem Lz{cn:Sn}(h:Ks cn)(k:Int):(if false=true then V.gC [D.kA (V.int B (0:Int)) (fe (D.int B k) cn),V.bool (fe (D.int B k) cn).isSome]else D.kA (V.int B (0:Int)) (fe (D.int B k) cn))=L (Gf cn k):=by
 unfold Gf;cases e:fe (.int .i64 k) cn with
 |none=>rfl
 |some v=>
  obtain⟨n,rfl⟩:=h k v e;rfl
theorem Ku{ls:List eG}{i:Nat}(h:i<ls.length):k9 (ls.take (i+1))=k9 (ls.take i)++(ls.getD i gG).kids:=by
 unfold k9;rw[b9,getD_some gG h,Option.toList_some,bR,List.flatten_append];simp
theorem LA(cn:Sn)(a b:List Int):F1 cn (a++b)=F1 (F1 cn a) b:=by unfold F1;rw[List.foldl_append]
theorem QT(cn:Sn){ks:List Int}{j:Nat}(h:j<ks.length):F1 cn (ks.take (j+1))=F0 (ks.getD j 0) (Gf (F1 cn (ks.take j)) (ks.getD j 0)+1) (F1 cn (ks.take j)):=by
 rw[b9,getD_some 0 h,Option.toList_some,LA];rfl
theorem TU{d:Dc}{i:Nat}(h:i<d.ly.length):Kt (d.ly.take (i+1))=F1 (Kt (d.ly.take i)) (d.at i).kids:=by
 unfold Kt;rw[Ku h,LA];rfl
def oI(d:Dc):Int×Int:=match lG (Be d) d.ly.length with
 |some i=>(40,(d.at i).id)
 |none=>match lG (zG d) d.ly.length with
  |some i=>(40,(d.at i).id)
  |none=>(0,0)
section
variable{d:Dc}{X:Sn}
noncomputable abbrev NL:Nat:=Tryz.f94.ntmps
theorem aem(hd:Fy d)(h40:d.ly.length<=1000){h1:Exit->St->Prop}(hQ:∀A,dZ ak 2 NL A (vA d X (Kt d.ly) [])->h1 .normal A):TG ak 2 NL Yz (vA d X [] []) h1:=by
 have zB:=hd.ly;refine dI C (gz (dg _) eH (aoZ d X []) (dA (g0 ⟨all_nil,fun A dU=>?_⟩)));simp only[andThen];refine iQ 0 d.ly.length (fun i=>vA d X (Kt (d.ly.take i)) (jV d 23 24 25 i)) (fun _=>false) (dZ.norm dU) (fun i hi hj Q' k1 k2 k3=>?_) (fun Q A dU=>hQ A ?_)
 . refine mE 2 (dg _) eH (ao0 d X _ i) (dz (g1 fun h=>⟨all_nil,?_⟩) (dA (g1 fun h=>⟨all_nil,fun A dU=>k2 (by have:=tF h;omega) A (dZ.norm dU)⟩)));have q:=ko h;have hA:V.dr (dj (eX d.ly) (i*31) 31)= .dr (d.at i).ds:=iq q;have Y:=hd.at q;change (d.at i).kids.length<=1000000 at Y;have KV:=TU q;have hbd:∀k,0<=Gf (Kt (d.ly.take i)) k/\Gf (Kt (d.ly.take i)) k<=1000000000:=fun k=>by
    rw[(F3 _).2];have:=Fz (d.ly.take i) k fun l hl=>hd.kids l (cB hl);rw[bn]at this;have:lU (d.ly.take i) k<=1000*1000000:=bC this (cA _ G);omega
   have hI:=(F3 (d.ly.take i)).1;generalize Kt (d.ly.take i)=cn at *;generalize d.at i=x at *;refine dI C (fB (i:=1) C ?_);refine mE 2 (dg _) eH (ao1 d X cn i x) (dA (g0 ⟨J (iM q) (J (fR _) (eC hA)),?_⟩));refine iQ 2 x.kids.length (fun j=>vA d X (F1 cn (x.kids.take j)) (jV d 23 24 25 i++DB x 30 31 32 j)) (fun _=>false) .refl (fun j hj hjj Q2 m1 m2 m3=>?_) (fun Q A dU=>?_)
   . have hI2:=(F2 (x.kids.take j) cn hI).1;have VM:=(F2 (x.kids.take j) cn hI).2 (x.kids.getD j 0);have vG:(x.kids.take j).count (x.kids.getD j 0)<=1000000:=bC List.count_le_length (by rw[bn];omega);have MZ:=hbd (x.kids.getD j 0);refine gz (dg _) eH (ao2 d X (F1 cn (x.kids.take j)) i j x (x.kids.getD j 0) (Gf (F1 cn (x.kids.take j)) (x.kids.getD j 0)) (Gf (F1 cn (x.kids.take j)) (x.kids.getD j 0)+1)) (dz (g1 fun h=>?_) (dA (g1 fun h=>⟨all_nil,fun A dU=>m2 (by have:=tF h;omega) A (dZ.norm dU)⟩)));have q2:=ko h;refine⟨J (iM q2) (J (ew _) (J (fJ q2) (J (Lz hI2 _) (J (aH (V.int .i64) (ik ?_ ?_)) (eC (gJ G)))))),fun A dU=>m1 q2 rfl A ?_⟩
     . omega
     . omega
     . show dZ _ _ _ _ (vA d X (F1 cn (x.kids.take (j+1))) (jV d 23 24 25 i++DB x 30 31 32 (j+1)));rw[QT cn q2];exact dZ.norm dU
   . simp only[gw,andThen];rw[bD]at dU;refine dU _ _ (gz (dg _) eH (ao3 d X _ i _ x) (dA (g0 ⟨eC (gJ G),fun A dU=>k1 q rfl A ?_⟩)));show dZ _ _ _ _ (vA d X (Kt (d.ly.take (i+1))) (jV d 23 24 25 (i+1)));rw[KV];exact dZ.norm dU
 . rw[bD]at dU;refine dU.trans ?_;exact .norm (live:=[0,2]) C
theorem YE{i:Nat}(hi:i<d.ly.length)(h:Be d i=true)(hj:∀j,j<i->Be d j=false):oI d=(40,(d.at i).id):=by
 unfold oI;rw[je hi h hj]
theorem YF{i:Nat}(hi:i<d.ly.length)(R:∀j,j<d.ly.length->Be d j=false)(h:zG d i=true)(hj:∀j,j<i->zG d j=false):oI d=(40,(d.at i).id):=by
 unfold oI;rw[gr R];simp only;rw[je hi h hj]
theorem aen(H:yl d X)(hd:Fy d)(h40:d.ly.length<=1000){h1:Exit->St->Prop}(hp:∀ch A,RX Tryz.f94 d X (oI d) (.panic ch) A->h1 (.panic ch) A)(hQ:(∀j,j<d.ly.length->Be d j=false)->∀A,lO 2 NL A (vA d X (Kt d.ly) [])->h1 .normal A):TG ak 2 NL YB (vA d X (Kt d.ly) []) h1:=by
 have zB:=hd.ly;have hI:=(F3 d.ly).1;have hC:=(F3 d.ly).2;generalize Kt d.ly=cn at *;refine dI C (gz (dg _) eH (ao4 d X cn) (dA (g0 ⟨all_nil,fun A dU=>?_⟩)));simp only[andThen];refine zL 4 d.ly.length (fun i=>vA d X cn (jV d 46 47 48 i)) (Be d) (lO.norm dU) (fun i hi hj Q' k1 k2 k3=>?_) (fun Q A dU=>hQ Q A (dU.trans (lO.norm (iX:=[0,2]) C)));refine mE 2 (dg _) eH (ao5 d X cn i) (dz (g1 fun h=>⟨all_nil,?_⟩) (dA (g1 fun h=>⟨all_nil,fun A dU=>k2 (by have:=tF h;omega) A (lO.norm dU)⟩)));have q:=ko h;have hA:V.dr (dj (eX d.ly) (i*31) 31)= .dr (d.at i).ds:=iq q;have Y:=hd.at q;change (d.at i).kids.length<=1000000 at Y;have ht:Be d i=!qP d (d.at i):=rfl;have uR:Be d i=true->oI d=(40,(d.at i).id):=fun h=>YE q h hj;generalize d.at i=x at *;refine dI C (fB (i:=5) C ?_);refine mE 1 (dg _) eH (ao6 d X cn i x) (dA (g0 ⟨J (iM q) (J (fR _) (eC hA)),?_⟩));refine dI C ?_;refine dI C (gz (dg _) eH (ao7 d X cn i x) (dA (g0 ⟨all_nil,fun A dU=>?_⟩)));simp only[andThen];refine zL 6 x.kids.length (fun j=>C6 d X cn x (jV d 46 47 48 i++DB x 53 54 55 j)) (fun j=>(kr d.ly (x.kids.getD j 0)).isNone) (lO.norm dU) (fun j hj hjj Q2 m1 m2 m3=>?_) (fun Q A dU=>?_)
 . refine mE 2 (dg _) eH (ao8 d X cn i j x) (dz (g1 fun h=>⟨all_nil,?_⟩) (dA (g1 fun h=>⟨all_nil,fun A dU=>m2 (by have:=tF h;omega) A (lO.norm dU)⟩)));have q2:=ko h;refine dI C (fB (i:=7) C ?_);have Zc:∃n,(if true=true then V.gC [D.kA (V.int B (0:Int)) (fe (D.int B (x.kids.getD j 0)) X),V.bool (fe (D.int B (x.kids.getD j 0)) X).isSome]else D.kA (V.int B (0:Int)) (fe (D.int B (x.kids.getD j 0)) X))= .gC [L n,.bool (kr d.ly (x.kids.getD j 0)).isSome]:=by
    rw[H (x.kids.getD j 0)];cases kr d.ly (x.kids.getD j 0)with
    |none=>exact⟨0,rfl⟩
    |some n=>exact⟨Int.ofNat n,rfl⟩
   obtain⟨n,hn⟩:=Zc;refine mE 2 (dg _) eH (ao9 d X cn i j x (x.kids.getD j 0) n (kr d.ly (x.kids.getD j 0)).isSome) (dA (g0 ⟨J (iM q2) (J (ew _) (J (fJ q2) (eC hn))),?_⟩));refine ML (qY (dm 2 YD)) (dg _) (kr d.ly (x.kids.getD j 0)).isSome (fun b=>C6 d X cn x (jV d 46 47 48 i++DB x 53 54 55 j++[(68,.bool b),(70,L x.id)])) 40 x.id [0,2,8,46,47,48,53,54,55] (C6 d X cn x (jV d 46 47 48 i++DB x 53 54 55 j)) (apa d X cn i j x _) (dA (g0 ⟨all_nil,rfl⟩)) (fun b=>by kernel_rfl) C (fun hb A dU=>?_) (fun hb ch F4=>?_)
   . simp only[gw,andThen];refine dU.xY _ _ (gz (dg _) eH (apb d X cn i j x) (dA (g0 ⟨eC (gJ G),fun A dU=>m1 q2 ?_ A (lO.norm dU)⟩)));show(kr d.ly (x.kids.getD j 0)).isNone=false;rw[<- Option.not_isSome,hb];rfl
   . refine m3 ch _ (k3 ch _ (hp ch _ (oW F4 C (uR ?_) (show(40:Int)≠0 by decide))));rw[ht];unfold qP;rw[Ee (d:=0) q2 (by rw[<- Option.not_isSome,hb];rfl)];rfl
 . simp only[gw,andThen];refine dU.xY _ _ ?_;have aeo:qP d x=(((x.id==d.root)&&(Int.ofNat (lU d.ly x.id)==(0:Int)))||((x.id !=d.root)&&(Int.ofNat (lU d.ly x.id)==(1:Int)))):=by unfold qP;rw[HI (d:=0) Q];rfl
   have pJ:∀w,(Int.ofNat (lU d.ly x.id)==w)=qP d x->TG ak 2 NL (dm 4 MR) (C6 d X cn x ((13,L w)::jV d 46 47 48 i)) (gw 5 (andThen (fun A=>TG ak 2 NL (dm 3 TQ) A Q') Q')):=fun w hw=>by
    have NW:Gf cn x.id=Int.ofNat (lU d.ly x.id):=hC x.id;refine ML (qY (dm 4 MR)) (dg _) (Int.ofNat (lU d.ly x.id)==w) (fun b=>C6 d X cn x (jV d 46 47 48 i++[(86,.bool b),(88,L x.id)])) 40 x.id [0,2,46,47,48] (vA d X cn (jV d 46 47 48 i)) (apd d X cn i x w (Int.ofNat (lU d.ly x.id))) (dA (g0 ⟨eC (by rw[Lz hI,NW]),rfl⟩)) (fun b=>by kernel_rfl) C (fun hb A dU=>?_) (fun hb ch F4=>?_)
    . simp only[gw,andThen];exact dU.xY _ _ (gz (dg _) eH (ape d X cn i) (dA (g0 ⟨eC (gJ G),fun A dU=>k1 q (by rw[ht,<- hw,hb];rfl) A (lO.norm dU)⟩)))
    . exact k3 ch _ (hp ch _ (oW F4 C (uR (by rw[ht,<- hw,hb];rfl)) (show(40:Int)≠0 by decide)))
   refine mE 2 (dg _) eH (apc d X cn i _ x) (dz (g1 fun h=>⟨all_nil,pJ 0 ?_⟩) (dA (g1 fun h=>⟨all_nil,pJ 1 ?_⟩)))
   . rw[aeo,h];unfold bne;rw[h];simp
   . rw[aeo,h];unfold bne;rw[h];simp
theorem R3{fn:Func}{p:Int×Int}{s:St}(e:Nh ak 2 fn s .ret=some (.ret (.gC []),kI d X,2))(h:p.1=0):RX fn d X p .normal s:=⟨.ret,trivial,_,_,_,e,(aE h).symm,rfl,rfl⟩
theorem aep(H:yl d X)(hd:Fy d)(h40:d.ly.length<=1000)(R:∀j,j<d.ly.length->Be d j=false):TG ak 2 NL (dm 3 MQ) (vA d X (Kt d.ly) []) (RX Tryz.f94 d X (oI d)):=by
 have zB:=hd.ly;refine fu 1 (dg _) (apf d X _ 0) all_nil ?_;have AJ:(∀j,j<d.ly.length->zG d j=false)->(oI d).1=0:=fun Q=>by
  unfold oI;rw[gr R];simp only;rw[gr Q]
 refine ada (zL 8 d.ly.length (fun i=>Ge d X (jV d 95 96 97 i)) (zG d) (fun E a w r hn=>⟨hn,E,r,kK.refl r.good⟩) (fun i hi hj Q' k1 k2 k3=>?_) (fun Q A dU=>⟨_,dU,R3 C (AJ Q)⟩));refine mE 2 (dg _) eH (apg d X i) (dz (g1 fun h=>⟨all_nil,?_⟩) (dA (g1 fun h=>⟨all_nil,fun A dU=>k2 (by have:=tF h;omega) A (lO.norm dU)⟩)));have q:=ko h;have hA:V.dr (dj (eX d.ly) (i*31) 31)= .dr (d.at i).ds:=iq q;have ht:zG d i=zF d (d.at i):=rfl;have uR:zG d i=true->oI d=(40,(d.at i).id):=fun h=>YF q R h hj;generalize d.at i=x at *;have nx:zG d i=false->∀A,lO 2 NL A (Ge d X (jV d 95 96 97 i))->TG ak 2 NL (dm 3 TS) A Q':=fun h3 A dU=>
  dU.xY _ _ (gz (dg _) eH (apn d X i) (dA (g0 ⟨eC (gJ G),fun A dU=>k1 q h3 A (lO.norm dU)⟩)))
 have hpn:∀ch (b:Bool),AP (C0 (40,x.id)) ch->zG d i=true->Q' (.panic ch) (Ge d X (jV d 95 96 97 i++[(116,.bool false),(118,L x.id)])):=fun ch b F4 h3=>k3 ch _ (RQ.of (oW F4 C (uR h3) (show(40:Int)≠0 by decide)));refine dI C (fB (i:=9) C ?_);refine mE 2 (dg _) eH (aph d X i x) (dz (g1 fun h=>⟨J (iM q) (J (fR _) (eC hA)),?_⟩) (dA (g1 fun h=>⟨J (iM q) (J (fR _) (eC hA)),?_⟩)))
 . refine jK (t:=true) C C (fun _=>?_) (fun q=>by cases q);cases hn:kr d.ly x.of with
   |some m=>
    have W:=mb H hn;have ZJ:zG d i=((d.at m).kd==3):=by rw[ht];unfold zF;rw[h,hn];rfl
    generalize d.at m=y at *;refine mE 1 (mz W (dg _)) eH (api d X i x y) (dA (g0 ⟨J rfl (J rfl (eC rfl)),?_⟩));refine ML (qY (dm 1 (lH (dm 2 Im)))) (dg _) (y.kd !=(3:Int)) (fun b=>Ge d X (jV d 95 96 97 i++[(116,.bool b),(118,L x.id)])) 40 x.id [0,95,96,97] (Ge d X (jV d 95 96 97 i)) (apk d X i x y) (dz (g1 fun h=>⟨all_nil,by rw[h]⟩) (dA (g1 fun h=>⟨all_nil,by rw[h]⟩))) (fun b=>by kernel_rfl) C (fun hb A dU=>?_) (fun hb ch F4=>?_)
    . simp only[gw,andThen];exact nx (by rw[ZJ];unfold bne at hb;simpa using hb) A dU
    . exact hpn ch true F4 (by rw[ZJ];unfold bne at hb;simpa using hb)
   |none=>
    have W:=wU H hn;have ZJ:zG d i=true:=by rw[ht];unfold zF;rw[h,hn];rfl
    refine mE 1 (mz W (dg _)) eH (apj d X i x) (dA (g0 ⟨J rfl (J rfl (eC rfl)),?_⟩));exact ML (qY (dm 1 (lH (dm 2 Im)))) (dg _) false (fun b=>Ge d X (jV d 95 96 97 i++[(116,.bool b),(118,L x.id)])) 40 x.id [0,95,96,97] (Ge d X (jV d 95 96 97 i)) (apl d X i x) (dA (g0 ⟨all_nil,rfl⟩)) (fun b=>by kernel_rfl) C (fun hb=>by cases hb) (fun hb ch F4=>hpn ch true F4 ZJ)
 . refine jK (t:=false) C C (fun q=>by cases q) (fun _=>?_);refine gz (dg _) eH (apm d X i x) (dA (g0 ⟨all_nil,fun A dU=>?_⟩));simp only[gw,andThen];exact nx (by rw[ht];unfold zF;rw[h];rfl) A (lO.norm dU)
end
theorem Kv(d:Dc)(X:Sn)(H:yl d X)(hd:Fy d)(h40:d.ly.length<=1000):QN 94 [] d X (oI d):=by
 refine U6 Tryz.func94 (fu 1 (dg _) (aoY d X) all_nil ?_);refine dZ.map [(2,some .i64)] (hm:=vA d X [] []) C _ _ ?_;refine dI C (aem hd h40 fun A dU=>?_);simp only[andThen];refine dU _ _ (dI C (aen H hd h40 (fun ch A h=>h) fun R A dU=>?_));simp only[andThen];exact dU.xY _ _ (aep H hd h40 R)
set_option maxRecDepth 10000
noncomputable def aeq(N:Nat)(fn:Func)(f0:Nat)(c:Code)(sp:ag->I O->Nat->Option (ah×V×I O×Nat))(s:St):Option (ah×V×I O×Nat):=match ld (qY c) c with
 | [o]=>match o.guard with
   |none=>match dO ak o s.F s.h s.n with
    |some (.call f args)=>match Nat.beq f f0 with
     |true=>match sp args s.h s.n with
      |some (s',v,R,n2)=>match v.free with
       |true=>match Nh ak N fn { s with h:=R,n:=n2 } (.ni v false)with
        |some (.ni v2,h3,n3)=>some (s',v2,h3,n3)
        |_=>none
       |false=>none
      |none=>none
     |false=>none
    |_=>none
   |some _=>none
 |_=>none
noncomputable def U7(_:Program)(sp:ag->I O->Nat->Option (ah×V×I O×Nat))(_:List (Nat×lI))(_ N:Nat)(fn:Func)(live:List Nat)(c:Code)(s:St):Option (ag×ag×List (List (Bool×Bool)×ah×jD)):=match aeq N fn (live.headD 0) c sp s with
 |some (s',v,h,n)=>some ([],[],[([],s',.ret v h n)])
 |none=>none
abbrev Er(P:Program)(sp:ag->I O->Nat->Option (ah×V×I O×Nat))(hx:List (Nat×lI))(fr N:Nat)(fn:Func)(live:List Nat)(c:Code)(s:St)(iX:ag)(di:List (List (Bool×Bool)×ah×jD)):Prop:=U7 P sp hx fr N fn live c s=some (iX,iX,di)
section
variable{N n0:Nat}{c:Code}{s:St}{h1:Exit->St->Prop}{hL:gy}{hh:List (Nat×List (Nat×lI))}{hx:List (Nat×lI)}{fn:Func}{live:List Nat}{di:List (List (Bool×Bool)×ah×jD)}
theorem aer(es:eR ak hL){A0 s':ah}{s1:St}{f:FuncId}{sp:ag->I O->Nat->Option (ah×V×I O×Nat)}{v:V}{h:I O}{n:Nat}{h2:pn->I O->Nat->Prop}(hr:dn (U hL hh) hx N fn live (ku c) s [([],A0,.to .normal s1)])(UQ:∀a∈A0,a)(hO:Qp ak f sp)
  (hp:∃iX,Er ak sp [] 1000 N fn [f] c s1 iX [([],s',.ret v h n)]) (hA:∀a∈s',a) (hR:h2 (.ni v) h n) (hQ:∀ch A,FR ak N fn h2 (.panic ch) A->h1 (.panic ch) A)
  (hs:(eJ n0 c&&(DA (qY c) c&&(ld (qY c) c).all fun o=>match o.dst with|some d=>decide (d<n0)|none=>true))=true:=by kernel_rfl):TG ak N n0 c s h1:=by
 simp only[ay]at hs;obtain⟨Q,R,h3⟩:=hs;obtain⟨iX,hr⟩:=hr;have hd:∀x∈ld (qY c) c,mU n0 x.dst:=fun x H d hd=>by
  have:=bq.1 h3 x H;rw[hd]at this;exact aW this
 refine Bh (qY c) (XH es hh) mo Q R hr (ZN ?_);refine⟨UQ,s1,rfl,?_⟩;obtain⟨L2,hp⟩:=hp;unfold Er U7 at hp;split at hp
 case h_2=>cases hp
 rename_i A1 v1 ot Jo e;simp only[aq,aF,List.cons.injEq,jD.ret.injEq,and_true,true_and]at hp;obtain⟨_,_,rfl,rfl,rfl,rfl⟩:=hp;unfold aeq at e;split at e
 case h_2=>cases e
 rename_i o ho;split at e
 case h_2=>cases e
 rename_i hg;split at e
 case h_2=>cases e
 rename_i f' args oQ;split at e
 case h_2=>cases e
 rename_i hf;have hf:=aA hf;simp only[List.headD_cons]at hf;subst hf;split at e
 case h_2=>cases e
 rename_i A2 v2 DL n2' Da;split at e
 case h_2=>cases e
 rename_i hv;split at e
 case h_2=>cases e
 rename_i v3 h3' n3' hl;simp only[aq,aF]at e;obtain⟨rfl,rfl,rfl,rfl⟩:=e;rw[ho]at hd ⊢;exact Bg hd hg oQ hO Da hA hv fun ch F4=>hQ ch _ (.CN F4 hl hR)
end
set_option maxRecDepth 10000
noncomputable abbrev oq:Code:=dG Tryz.f42
noncomputable abbrev YG:Code:=dB (dm 6 oq)
noncomputable abbrev YH:Code:=dD (dD (dP YG))
noncomputable abbrev TV:Code:=dD (dB (dm 2 YH))
noncomputable abbrev YI:Code:=dB (dm 9 oq)
noncomputable abbrev YJ:Code:=dD (dD (dP YI))
noncomputable abbrev TW:Code:=dD (dB (dm 2 YJ))
noncomputable abbrev YK:Code:=dB (dm 11 oq)
noncomputable abbrev YL:Code:=dD (dD (dP YK))
noncomputable abbrev YM:Code:=dD (dB (dm 2 YL))
def hCx(d:Dc)(X:List (Eng.D×Eng.D))(q:af):I O:=W ([(0,.cells d.T),(1,.cells (d.T++[.map (some 2)])),(2,.gh (some .i64) X)]++q)
def oC(d:Dc)(X:List (Eng.D×Eng.D))(r:List (Nat×V)):St:=ff ([(1,.ptr (some (0,0))),(3,.ptr (some (1,0)))]++r) (hCx d X []) 3
def TX(d:Dc)(X:List (Eng.D×Eng.D))(t:Nat)(u:ag)(r:List (Nat×V)):St:=ff ([(1,.ptr (some (0,0))),(3,.ptr (some (1,0))),(t,.ptr (some (3,0)))]++r) (hCx d X [(3,.cells u)]) 4
abbrev pT1:V:=.ptr (some (1,0))
def hCm(d:Dc)(l:List (Eng.D×Eng.D))(q:af):I O:=W ([(0,.cells d.T),(1,.cells (d.T++[.map (some 2)])),(2,.ow (some .i64) l)]++q)
def xe(d:Dc)(l:List (Eng.D×Eng.D))(r:List (Nat×V)):St:=ff ([(1,.ptr (some (0,0))),(3,.ptr (some (1,0)))]++r) (hCm d l []) 3
def TY(d:Dc)(l:List (Eng.D×Eng.D))(t:Nat)(u:ag)(r:List (Nat×V)):St:=ff ([(1,.ptr (some (0,0))),(3,.ptr (some (1,0))),(t,.ptr (some (3,0)))]++r) (hCm d l [(3,.cells u)]) 4
def sC0(d:Dc):St:=ff [(1,.ptr (some (0,0))),(3,.ptr (some (1,0)))] (W [(0,.cells d.T),(1,.cells (d.T++[.map (some 2)])),(2,.map [] 0)]) 3
theorem apq(d:Dc):dn (U dY []) [] 0 Tryz.f42 [1,3] (dN 2 oq) (dw [d.v] .nil 0) [([],
   [],
   .to .normal (sC0 d))]
 :=dh.of C C C
theorem apr(d:Dc)(l:List (Eng.D×Eng.D)):dn (U dY []) [(21,.split),(26,.split),(31,.split),(36,.split)] 0 Tryz.f42 [1,3,37] (ku (dB (dm 2 oq))) (xe d l []) [([((decide ((Int.ofNat d.sp.length)<=(8:Int))),true),((decide ((Int.ofNat d.ly.length)<=(40:Int))),true),((decide (d.nx>=(1:Int))),true),((decide (d.nx<=(1048576:Int))),true)],
   [],
   .to .normal (xe d l [(37,.bool true)])),
  ([((decide ((Int.ofNat d.sp.length)<=(8:Int))),true),((decide ((Int.ofNat d.ly.length)<=(40:Int))),true),((decide (d.nx>=(1:Int))),true),((decide (d.nx<=(1048576:Int))),false)],
   [],
   .to .normal (xe d l [(37,.bool false)])),
  ([((decide ((Int.ofNat d.sp.length)<=(8:Int))),true),((decide ((Int.ofNat d.ly.length)<=(40:Int))),true),((decide (d.nx>=(1:Int))),false)],
   [],
   .to .normal (xe d l [(37,.bool false)])),
  ([((decide ((Int.ofNat d.sp.length)<=(8:Int))),true),((decide ((Int.ofNat d.ly.length)<=(40:Int))),false)],
   [],
   .to .normal (xe d l [(37,.bool false)])),
  ([((decide ((Int.ofNat d.sp.length)<=(8:Int))),false)],
   [],
   .to .normal (xe d l [(37,.bool false)]))]
 :=dh.of C C C
theorem aps(d:Dc)(l:List (Eng.D×Eng.D)):dn (U dY []) [] 0 Tryz.f42 [1,3,4] (dN 1 (dm 3 oq)) (xe d l []) [([],
   [],
   .to .normal (xe d l [(4,mG 90)]))]
 :=dh.of C C C
theorem apt(d:Dc)(l:List (Eng.D×Eng.D))(b:Bool):dn (U (eZ 92 [.eo false d.sp.length (lT d.sp),mG 90] (.bool b) dY) []) [] 0 Tryz.f42 [1,3,43] (ku (dB (dm 4 oq))) (xe d l [(4,mG 90)]) [([],
   [(V.lE ([]++[V.eo false d.sp.length (lT d.sp),mG 90]++[])=[V.eo false d.sp.length (lT d.sp),mG 90])],
   .to .normal (xe d l [(43,.bool (!b))]))]
 :=dh.of C C C
theorem apu(d:Dc)(l:List (Eng.D×Eng.D)):dn (U dY []) [] 0 Tryz.f42 [1,3,5] (dN 1 (dm 5 oq)) (xe d l []) [([],
   [],
   .to .normal (xe d l [(5,L 0)]))]
 :=dh.of C C C
theorem apv(d:Dc)(l:List (Eng.D×Eng.D))(z:Int):dn (U dY []) [] 0 Tryz.f42 [1,3,5,46,47,48] (dB YG) (xe d l [(5,L z)]) [([],
   [],
   .to .normal (xe d l [(5,L z),(46,.eo false d.ly.length (eX d.ly)),(47,M d.ly.length),(48,M 0)]))]
 :=dh.of C C C
theorem apw(d:Dc)(l:List (Eng.D×Eng.D))(z:Int)(i:Nat):dn (U dY []) [(49,.split)] 0 Tryz.f42 [1,3,5,46,47,48] (dN 2 YH) (xe d l [(5,L z),(46,.eo false d.ly.length (eX d.ly)),(47,M d.ly.length),(48,M i)]) [([((decide (Int.ofNat i<Int.ofNat d.ly.length)),true)],
   [],
   .to .normal (xe d l [(5,L z),(46,.eo false d.ly.length (eX d.ly)),(47,M d.ly.length),(48,M i)])),
  ([((decide (Int.ofNat i<Int.ofNat d.ly.length)),false)],
   [],
   .to (.exit 0) (xe d l [(5,L z),(46,.eo false d.ly.length (eX d.ly)),(47,M d.ly.length),(48,M i)]))]
 :=dh.of C C C
theorem apx(d:Dc)(l:List (Eng.D×Eng.D))(z:Int)(i:Nat)(x:eG):dn (U dY []) [(51,.dy (.dr x.ds))] 0 Tryz.f42 [1,3,5,6,7,46,47,48] (dN 1 TV) (xe d l [(5,L z),(46,.eo false d.ly.length (eX d.ly)),(47,M d.ly.length),(48,M i)]) [([],
   [((0:Int)<=Int.ofNat i/\Int.ofNat i<(Int.ofNat d.ly.length)),((eX d.ly).length=d.ly.length*31),(V.dr (dj (eX d.ly) (i*31) 31)=V.dr x.ds)],
   .to .normal (TY d l 7 x.T [(5,L z),(6,M i),(46,.eo false d.ly.length (eX d.ly)),(47,M d.ly.length),(48,M i)]))]
 :=dh.of C C C
theorem apy(d:Dc)(l:List (Eng.D×Eng.D))(z:Int)(i:Nat)(x:eG):dn (U dY []) [(56,.split),(62,.split)] 0 Tryz.f42 [1,3,5,6,7,46,47,48,63,65] (ku (dB (dm 1 TV))) (TY d l 7 x.T [(5,L z),(6,M i),(46,.eo false d.ly.length (eX d.ly)),(47,M d.ly.length),(48,M i)]) [([((decide (x.id>z)),true),((decide (x.id<d.nx)),true)],
   [],
   .to .normal (TY d l 7 x.T [(5,L z),(6,M i),(46,.eo false d.ly.length (eX d.ly)),(47,M d.ly.length),(48,M i),(63,.bool true),(65,L x.id)])),
  ([((decide (x.id>z)),true),((decide (x.id<d.nx)),false)],
   [],
   .to .normal (TY d l 7 x.T [(5,L z),(6,M i),(46,.eo false d.ly.length (eX d.ly)),(47,M d.ly.length),(48,M i),(63,.bool false),(65,L x.id)])),
  ([((decide (x.id>z)),false)],
   [],
   .to .normal (TY d l 7 x.T [(5,L z),(6,M i),(46,.eo false d.ly.length (eX d.ly)),(47,M d.ly.length),(48,M i),(63,.bool false),(65,L x.id)]))]
 :=dh.of C C C
theorem apz(d:Dc)(l:List (Eng.D×Eng.D))(z:Int)(i:Nat)(x:eG):dn (U dY []) [] 0 Tryz.f42 [1,3,5,46,47,48] (dm 2 TV) (TY d l 7 x.T [(5,L z),(6,M i),(46,.eo false d.ly.length (eX d.ly)),(47,M d.ly.length),(48,M i)]) [([],
   [(fe (D.int B x.id) l=none),((0:Int)<=(Int.ofNat l.length)/\(Int.ofNat l.length)<(Int.ofNat (l++[(D.int B x.id,D.int B (0:Int))]).length))],
   .to .normal (xe d (iy (l++[(.int .i64 x.id,.int .i64 0)]) (l.length:Int).toNat fun e=>(e.1,.int .i64 (Int.ofNat i))) [(5,L x.id),(46,.eo false d.ly.length (eX d.ly)),(47,M d.ly.length),(48,M i)]))]
 :=dh.of C C C
theorem apA(d:Dc)(l:List (Eng.D×Eng.D))(z:Int)(i:Nat):dn (U dY []) [(78,.dy (M (i+1)))] 0 Tryz.f42 [1,3,5,46,47,48] (dm 3 YH) (xe d l [(5,L z),(46,.eo false d.ly.length (eX d.ly)),(47,M d.ly.length),(48,M i)]) [([],
   [(V.int B (IntKind.i64.wrap (Int.ofNat i+(1:Int)))=M (i+1))],
   .to .normal (xe d l [(5,L z),(46,.eo false d.ly.length (eX d.ly)),(47,M d.ly.length),(48,M (i+1))]))]
 :=dh.of C C C
theorem apB(d:Dc)(X:List (Eng.D×Eng.D))(x:eG):dn (U (qg 44 [L d.root] d X (.gC [x.v,.bool true]) dY) []) [] 0 Tryz.f42 [1,3,8,9] (dN 1 (dm 7 oq)) (oC d X []) [([],
   [([V.ptr (some (0,0)),V.int B d.root]=[pT,L d.root]),((I.nil.set 0 (some (O.cells [V.eo false d.sp.length (lT d.sp),V.int B d.root,V.int B d.nx,V.eo false d.ly.length (eX d.ly),V.map (some 1)]))).set 1 (some (O.gh (some B) X))=kI d X),(2=2)],
   .to .normal (TX d X 8 x.T [(9,.bool true)]))]
 :=dh.of C C C
theorem apC(d:Dc)(X:List (Eng.D×Eng.D)):dn (U (qg 44 [L d.root] d X (.gC [Te,.bool false]) dY) []) [] 0 Tryz.f42 [1,3,8,9] (dN 1 (dm 7 oq)) (oC d X []) [([],
   [([V.ptr (some (0,0)),V.int B d.root]=[pT,L d.root]),((I.nil.set 0 (some (O.cells [V.eo false d.sp.length (lT d.sp),V.int B d.root,V.int B d.nx,V.eo false d.ly.length (eX d.ly),V.map (some 1)]))).set 1 (some (O.gh (some B) X))=kI d X),(2=2)],
   .to .normal (TX d X 8 (M7 0 0 z7 0) [(9,.bool false)]))]
 :=dh.of C C C
theorem apE(d:Dc)(X:List (Eng.D×Eng.D))(x:eG):dn (U dY []) [(90,.split)] 0 Tryz.f42 [1,3,91,93] (ku (dB (dm 8 oq))) (TX d X 8 x.T [(9,.bool true)]) [([((x.kd==(2:Int)),true)],
   [],
   .to .normal (oC d X [(91,.bool true),(93,L d.root)])),
  ([((x.kd==(2:Int)),false)],
   [],
   .to .normal (oC d X [(91,.bool false),(93,L d.root)]))]
 :=dh.of C C C
theorem apF(d:Dc)(X:List (Eng.D×Eng.D)):dn (U dY []) [] 0 Tryz.f42 [1,3,91,93] (ku (dB (dm 8 oq))) (TX d X 8 (M7 0 0 z7 0) [(9,.bool false)]) [([],
   [],
   .to .normal (oC d X [(91,.bool false),(93,L d.root)]))]
 :=dh.of C C C
theorem apG(d:Dc)(X:List (Eng.D×Eng.D)):dn (U dY []) [] 0 Tryz.f42 [1,3,96,97,98] (dB YI) (oC d X []) [([],
   [],
   .to .normal (oC d X [(96,.eo false d.ly.length (eX d.ly)),(97,M d.ly.length),(98,M 0)]))]
 :=dh.of C C C
theorem apH(d:Dc)(X:List (Eng.D×Eng.D))(i:Nat):dn (U dY []) [(99,.split)] 0 Tryz.f42 [1,3,96,97,98] (dN 2 YJ) (oC d X [(96,.eo false d.ly.length (eX d.ly)),(97,M d.ly.length),(98,M i)]) [([((decide (Int.ofNat i<Int.ofNat d.ly.length)),true)],
   [],
   .to .normal (oC d X [(96,.eo false d.ly.length (eX d.ly)),(97,M d.ly.length),(98,M i)])),
  ([((decide (Int.ofNat i<Int.ofNat d.ly.length)),false)],
   [],
   .to (.exit 2) (oC d X [(96,.eo false d.ly.length (eX d.ly)),(97,M d.ly.length),(98,M i)]))]
 :=dh.of C C C
theorem apJ(d:Dc)(X:List (Eng.D×Eng.D))(i:Nat)(x:eG):dn (U dY []) [(100,.dy (.dr x.ds))] 0 Tryz.f42 [1,3,11,96,97,98] (dN 1 TW) (oC d X [(96,.eo false d.ly.length (eX d.ly)),(97,M d.ly.length),(98,M i)]) [([],
   [((0:Int)<=Int.ofNat i/\Int.ofNat i<(Int.ofNat d.ly.length)),((eX d.ly).length=d.ly.length*31),(V.dr (dj (eX d.ly) (i*31) 31)=V.dr x.ds)],
   .to .normal (TX d X 11 x.T [(96,.eo false d.ly.length (eX d.ly)),(97,M d.ly.length),(98,M i)]))]
 :=dh.of C C C
theorem apK(d:Dc)(X:List (Eng.D×Eng.D))(i:Nat)(x:eG):dn (U (qg 93 [x.v] d X (.gC []) dY) []) [] 0 Tryz.f42 [1,3,96,97,98] (dm 1 TW) (TX d X 11 x.T [(96,.eo false d.ly.length (eX d.ly)),(97,M d.ly.length),(98,M i)]) [([],
   [([V.ptr (some (0,0)),V.agg [V.int B x.id,V.int B x.kd,V.str x.nm,V.bool x.hid,V.int B x.op,V.int B x.md,V.bool x.clip,V.int B x.pl.a,V.int B x.pl.b,V.int B x.pl.c,V.int B x.pl.d,V.int B x.pl.e,V.int B x.pl.f,V.int B x.pl.n,V.int B x.sp,V.eo false x.kids.length (dM x.kids),V.int B x.of,V.int B x.f.k,V.int B x.f.r,V.eo false x.f.eK.length (dM x.f.eK),V.int B x.f.dv,V.int B x.f.vl,V.eo false x.f.cu.length (dM x.f.cu),V.int IntKind.u8 x.fi.r,V.int IntKind.u8 x.fi.g,V.int IntKind.u8 x.fi.b,V.int IntKind.u8 x.fi.a,V.eo false x.gU.length (qO x.gU),V.eo false x.fZ.length (jv x.fZ),V.bool x.S,V.eo false x.iD.length (jv x.iD)]]=[pT,x.v]),((I.nil.set 0 (some (O.cells [V.eo false d.sp.length (lT d.sp),V.int B d.root,V.int B d.nx,V.eo false d.ly.length (eX d.ly),V.map (some 1)]))).set 1 (some (O.gh (some B) X))=kI d X),(2=2)],
   .to .normal (oC d X [(96,.eo false d.ly.length (eX d.ly)),(97,M d.ly.length),(98,M i)]))]
 :=dh.of C C C
theorem apL(d:Dc)(X:List (Eng.D×Eng.D))(i:Nat)(x:eG):dn (U dY []) [] 0 Tryz.f42 [1,3,96,97,98,102,103] (ku (dm 1 TW)) (TX d X 11 x.T [(96,.eo false d.ly.length (eX d.ly)),(97,M d.ly.length),(98,M i)]) [([],
   [],
   .to .normal (oC d X [(96,.eo false d.ly.length (eX d.ly)),(97,M d.ly.length),(98,M i),(102,pT1),(103,x.v)]))]
 :=dh.of C C C
theorem apM(d:Dc)(X:List (Eng.D×Eng.D))(i:Nat)(x:eG)(p:Int×Int):∃iX,Er ak (wT (HZ [x.v] d X (C0 p))) [] 1000 0 Tryz.f42 [93] (dm 1 TW) (oC d X [(96,.eo false d.ly.length (eX d.ly)),(97,M d.ly.length),(98,M i),(102,pT1),(103,x.v)]) iX
  [([],
   [([V.ptr (some (0,0)),V.agg [V.int B x.id,V.int B x.kd,V.str x.nm,V.bool x.hid,V.int B x.op,V.int B x.md,V.bool x.clip,V.int B x.pl.a,V.int B x.pl.b,V.int B x.pl.c,V.int B x.pl.d,V.int B x.pl.e,V.int B x.pl.f,V.int B x.pl.n,V.int B x.sp,V.eo false x.kids.length (dM x.kids),V.int B x.of,V.int B x.f.k,V.int B x.f.r,V.eo false x.f.eK.length (dM x.f.eK),V.int B x.f.dv,V.int B x.f.vl,V.eo false x.f.cu.length (dM x.f.cu),V.int IntKind.u8 x.fi.r,V.int IntKind.u8 x.fi.g,V.int IntKind.u8 x.fi.b,V.int IntKind.u8 x.fi.a,V.eo false x.gU.length (qO x.gU),V.eo false x.fZ.length (jv x.fZ),V.bool x.S,V.eo false x.iD.length (jv x.iD)]]=[pT,x.v]),((I.nil.set 0 (some (O.cells [V.eo false d.sp.length (lT d.sp),V.int B d.root,V.int B d.nx,V.eo false d.ly.length (eX d.ly),V.map (some 1)]))).set 1 (some (O.gh (some B) X))=kI d X),(2=2)],
   .ret (.iface 99 (.agg [.int .i64 (p.1),.int .i64 (p.2)])) (W []) 0)]
 :=⟨[],by unfold Er;kernel_rfl⟩
theorem apN(d:Dc)(X:List (Eng.D×Eng.D))(i:Nat):dn (U dY []) [(105,.dy (M (i+1)))] 0 Tryz.f42 [1,3,96,97,98] (dm 3 YJ) (oC d X [(96,.eo false d.ly.length (eX d.ly)),(97,M d.ly.length),(98,M i)]) [([],
   [(V.int B (IntKind.i64.wrap (Int.ofNat i+(1:Int)))=M (i+1))],
   .to .normal (oC d X [(96,.eo false d.ly.length (eX d.ly)),(97,M d.ly.length),(98,M (i+1))]))]
 :=dh.of C C C
theorem apO(d:Dc)(X:List (Eng.D×Eng.D)):dn (U (qg 94 [] d X (.gC []) dY) []) [] 0 Tryz.f42 [1,3] (dB (dm 10 oq)) (oC d X []) [([],
   [([V.ptr (some (0,0))]=[pT]),((I.nil.set 0 (some (O.cells [V.eo false d.sp.length (lT d.sp),V.int B d.root,V.int B d.nx,V.eo false d.ly.length (eX d.ly),V.map (some 1)]))).set 1 (some (O.gh (some B) X))=kI d X),(2=2)],
   .to .normal (oC d X []))]
 :=dh.of C C C
theorem apP(d:Dc)(X:List (Eng.D×Eng.D)):dn (U dY []) [] 0 Tryz.f42 [1,3,106] (ku (dB (dm 10 oq))) (oC d X []) [([],
   [],
   .to .normal (oC d X [(106,pT1)]))]
 :=dh.of C C C
theorem apQ(d:Dc)(X:List (Eng.D×Eng.D))(p:Int×Int):∃iX,Er ak (wT (HZ [] d X (C0 p))) [] 1000 0 Tryz.f42 [94] (dB (dm 10 oq)) (oC d X [(106,pT1)]) iX
  [([],
   [([V.ptr (some (0,0))]=[pT]),((I.nil.set 0 (some (O.cells [V.eo false d.sp.length (lT d.sp),V.int B d.root,V.int B d.nx,V.eo false d.ly.length (eX d.ly),V.map (some 1)]))).set 1 (some (O.gh (some B) X))=kI d X),(2=2)],
   .ret (.iface 99 (.agg [.int .i64 (p.1),.int .i64 (p.2)])) (W []) 0)]
 :=⟨[],by unfold Er;kernel_rfl⟩
theorem apR(d:Dc)(X:List (Eng.D×Eng.D)):dn (U dY []) [] 0 Tryz.f42 [1,3,109,110,111] (dB YK) (oC d X []) [([],
   [],
   .to .normal (oC d X [(109,.eo false d.ly.length (eX d.ly)),(110,M d.ly.length),(111,M 0)]))]
 :=dh.of C C C
theorem apS(d:Dc)(X:List (Eng.D×Eng.D))(i:Nat):dn (U dY []) [(112,.split)] 0 Tryz.f42 [1,3,109,110,111] (dN 2 YL) (oC d X [(109,.eo false d.ly.length (eX d.ly)),(110,M d.ly.length),(111,M i)]) [([((decide (Int.ofNat i<Int.ofNat d.ly.length)),true)],
   [],
   .to .normal (oC d X [(109,.eo false d.ly.length (eX d.ly)),(110,M d.ly.length),(111,M i)])),
  ([((decide (Int.ofNat i<Int.ofNat d.ly.length)),false)],
   [],
   .to (.exit 4) (oC d X [(109,.eo false d.ly.length (eX d.ly)),(110,M d.ly.length),(111,M i)]))]
 :=dh.of C C C
theorem apT(d:Dc)(X:List (Eng.D×Eng.D))(i:Nat)(x:eG):dn (U dY []) [(113,.dy (.dr x.ds))] 0 Tryz.f42 [1,3,13,109,110,111] (dN 1 YM) (oC d X [(109,.eo false d.ly.length (eX d.ly)),(110,M d.ly.length),(111,M i)]) [([],
   [((0:Int)<=Int.ofNat i/\Int.ofNat i<(Int.ofNat d.ly.length)),((eX d.ly).length=d.ly.length*31),(V.dr (dj (eX d.ly) (i*31) 31)=V.dr x.ds)],
   .to .normal (TX d X 13 x.T [(109,.eo false d.ly.length (eX d.ly)),(110,M d.ly.length),(111,M i)]))]
 :=dh.of C C C
theorem apU(d:Dc)(X:List (Eng.D×Eng.D))(i:Nat)(x:eG)(b:Bool):dn (U (qg 45 [L x.id,L x.id,XL 95] d X (.bool b) dY) []) [] 0 Tryz.f42 [1,3,109,110,111,123,125] (ku (dm 1 YM)) (TX d X 13 x.T [(109,.eo false d.ly.length (eX d.ly)),(110,M d.ly.length),(111,M i)]) [([],
   [([V.ptr (some (0,0)),V.int B x.id,V.int B x.id,V.fn (Fn.func 95) [V.ptr (some (0,0))] []]=[pT,L x.id,L x.id,XL 95]),((I.nil.set 0 (some (O.cells [V.eo false d.sp.length (lT d.sp),V.int B d.root,V.int B d.nx,V.eo false d.ly.length (eX d.ly),V.map (some 1)]))).set 1 (some (O.gh (some B) X))=kI d X),(2=2)],
   .to .normal (oC d X [(109,.eo false d.ly.length (eX d.ly)),(110,M d.ly.length),(111,M i),(123,.bool (!b)),(125,L x.id)]))]
 :=dh.of C C C
theorem apV(d:Dc)(X:List (Eng.D×Eng.D))(i:Nat):dn (U dY []) [(127,.dy (M (i+1)))] 0 Tryz.f42 [1,3,109,110,111] (dm 3 YL) (oC d X [(109,.eo false d.ly.length (eX d.ly)),(110,M d.ly.length),(111,M i)]) [([],
   [(V.int B (IntKind.i64.wrap (Int.ofNat i+(1:Int)))=M (i+1))],
   .to .normal (oC d X [(109,.eo false d.ly.length (eX d.ly)),(110,M d.ly.length),(111,M (i+1))]))]
 :=dh.of C C C
theorem apW(d:Dc)(X:List (Eng.D×Eng.D))(a:Int):dn (U (qg 48 [L d.root] d X (L a) dY) []) [] 0 Tryz.f42 [3,132,134] (ku (dB (dm 12 oq))) (oC d X []) [([],
   [([V.ptr (some (0,0)),V.int B d.root]=[pT,L d.root]),((I.nil.set 0 (some (O.cells [V.eo false d.sp.length (lT d.sp),V.int B d.root,V.int B d.nx,V.eo false d.ly.length (eX d.ly),V.map (some 1)]))).set 1 (some (O.gh (some B) X))=kI d X),(2=2)],
   .to .normal (ff [(3,.ptr (some (0,0))),(132,.bool (decide (a<=(6:Int)))),(134,L d.root)] (kI d X) 2))]
 :=dh.of C C C
theorem apX(d:Dc)(X:List (Eng.D×Eng.D)):dn (U dY []) [] 0 Tryz.f42 [] (dm 13 oq) (ff [(3,.ptr (some (0,0)))] (kI d X) 2) [([],
   [],
   .ret (.ptr (some (0,0))) (W [(0,.cells [.eo false (d.sp.length) (lT d.sp),.int .i64 (d.root),.int .i64 (d.nx),.eo false (d.ly.length) (eX d.ly),.map (some 1)]),(1,.gh (some .i64) X)]) 2)]
 :=dh.of C C C
set_option maxRecDepth 10000
def dE(DC:List Int):List (Eng.D×Eng.D):=DC.zipIdx.map fun p=>(.int .i64 p.1,.int .i64 (Int.ofNat p.2))
theorem LB(k:Int):∀l:List (Int×Nat),(∀p∈l,p.1≠k)->fe (.int .i64 k) (l.map fun p=>(.int .i64 p.1,.int .i64 (Int.ofNat p.2)))=none
 | [],_=>rfl
 |p::l,h=>by
  have Q:=h p (by simp);simp only[cC,fe,gK,decide_true,aN];rw[aU fun e=>Q e.symm];exact LB k l fun p hp=>h p (by simp[hp])
theorem Kw{DC:List Int}{k:Int}(h:k∉DC):fe (.int .i64 k) (dE DC)=none:=
 LB k _ fun p hp e=>by
  obtain⟨k',j⟩:=p;obtain⟨_,_,h3⟩:=List.mem_zipIdx hp;simp only at e;subst e;exact h (h3▸bK _)
theorem Ax{α:Type}(f:α->α)(e:α):∀l:List α,iy (l++[e]) l.length f=l++[f e]
 | []=>rfl
 |x::l=>by simp only[List.cons_append,aR,iy,Ax f e l]
theorem TZ(DC:List Int)(x:Int){i:Nat}(h:DC.length=i):iy (dE DC++[(.int .i64 x,.int .i64 0)]) ((dE DC).length:Int).toNat (fun e=>(e.1,.int .i64 (Int.ofNat i)))=dE (DC++[x]):=by
 rw[Int.toNat_natCast,Ax];unfold dE;rw[List.zipIdx_append,bR];simp[List.zipIdx,h]
theorem LC(k:Int):∀(ls:List eG) (s:Nat),fe (.int .i64 k) (((ls.map (·.id)).zipIdx s).map fun p=>(.int .i64 p.1,.int .i64 (Int.ofNat p.2)))=(ls.findIdx? fun l=>l.id==k).map fun n=>.int .i64 (Int.ofNat (s+n))
 | [],_=>rfl
 |l::ls,s=>by
  simp only[cC,List.zipIdx_cons,fe,gK,List.findIdx?_cons,decide_true,aN];by_cases q:k=l.id
  . subst q;simp
  . rw[aU q,aB (by simpa using fun e=>q e.symm)];simp only;rw[LC k ls (s+1),Option.map_map];congr 1;funext n;simp only[Function.comp];congr 2;omega
theorem U8(d:Dc):yl d (dE (d.ly.map (·.id))):=fun k=>by
 have:=LC k d.ly 0;simp only[b5]at this;exact this
section
variable{N n0 m:Nat}{s:St}{kd:Option IntKind}
theorem YN(ht:Nat.blt m fV=true)(S:s.h.get m=some (.map [] 0)):lO N n0 s { s with h:=s.h.set m (some (.ow kd [])) }:=
 lO.mem fun _ _ g=>o9 (az ht) S rfl (fun _ _ _ ⟨hs,fG,Q,R⟩=>⟨hs,fG,Q,⟨R,List.nodup_nil,(fun e he=>by cases he),(by rw[show fG.toList=[]from R];rfl)⟩⟩) g
theorem YO{X:List (Eng.D×Eng.D)}(ht:Nat.blt m fV=true)(S:s.h.get m=some (.ow kd X)):lO N n0 s { s with h:=s.h.set m (some (.gh kd X)) }:=
 lO.mem fun _ _ g=>o9 (az ht) S rfl (fun _ _ _ ⟨hs,fG,Q,R⟩=>⟨hs,fG,_,Q,R.rel⟩) g
end
set_option maxRecDepth 10000
noncomputable abbrev NC:Nat:=Tryz.f42.ntmps
def MS(d:Dc)(i:Nat):List Int:=(d.ly.take i).map (·.id)
def qh(d:Dc):List (Eng.D×Eng.D):=dE (d.ly.map (·.id))
noncomputable def Kx(d:Dc):pn:=if(jf d).1=0 then .ret pT else .ni (C0 (jf d))
abbrev RC(d:Dc):Exit->St->Prop:=FR ak 0 Tryz.f42 fun o h n=>o=Kx d/\((jf d).1=0->h=kI d (qh d)/\n=2)
theorem MT{d:Dc}{q:Int×Int}{ch:List PanicEntry}{s:St}(hp:AP (C0 q) ch)(hl:Nh ak 0 Tryz.f42 s (.ni (C0 q) false)=some (.ni (C0 q),.nil,0))(K:jf d=q)(h0:q.1≠0):RC d (.panic ch) s:=
 .CN hp hl ⟨by unfold Kx;rw[K,aB h0],fun z=>absurd (by rw[K]at z;exact z) h0⟩
theorem YP{d:Dc}(h:wR d=true):¬((Int.ofNat d.sp.length)<=(8:Int)/\(Int.ofNat d.ly.length)<=(40:Int)/\d.nx>=(1:Int)/\d.nx<=(1048576:Int)):=by
 unfold wR at h;simp only[bV,aX]at h;omega
theorem T0{d:Dc}{i:Nat}(h:i<=d.ly.length):(MS d i).length=i:=by
 unfold MS;rw[bI,bn];omega
theorem Io{d:Dc}{i:Nat}(h:i<d.ly.length):MS d (i+1)=MS d i++[(d.at i).id]:=by
 unfold MS;rw[b9,getD_some gG h,Option.toList_some,bR];rfl
theorem QU{d:Dc}:∀{i:Nat},i<=d.ly.length->(∀j,j<i->tj d j=false)->(∀k∈MS d i,k<=uM d i)/\(MS d i).Nodup
 |0,_,_=>⟨(fun k Y=>by cases Y),List.nodup_nil⟩
 |i+1,h,hj=>by
  obtain⟨Q,R⟩:=QU (i:=i) G fun j UR=>hj j G;have hb:=hj i G;unfold tj at hb;rw[cI,bt]at hb;rw[Io G];refine⟨fun k Y=>?_,List.nodup_append.2 ⟨R,by simp,fun a ha b AV=>?_⟩⟩
  . show k<=(d.at i).id;rcases bf.1 Y with q|q
    . have:=Q k q;omega
    . rw[aG]at q;omega
  . rw[aG]at AV;subst AV;have:=Q a ha;omega
theorem YQ{ls:List eG}{x:eG}(h:x∈ls):∃n,kr ls x.id=some n:=by
 cases hn:kr ls x.id with
 |some n=>exact⟨n,rfl⟩
 |none=>
  unfold kr at hn;rw[cH]at hn;have:=hn x h;simp at this
section
variable{d:Dc}
theorem apY(RE:wR d=false)(uR:∀i,i<d.ly.length->tj d i=true->(∀j,j<i->tj d j=false)->jf d=(40,(d.at i).id)){h1:Exit->St->Prop}(hp:∀ch A,RC d (.panic ch) A->h1 (.panic ch) A)
  (hQ:(∀j,j<d.ly.length->tj d j=false)->∀A,lO 0 NC A (oC d (qh d) [])->h1 .normal A):TG ak 0 NC YG (xe d [] [(5,L 0)]) h1:=by
 have h40:=(CI RE).2.1;refine dI C (gz (dg _) eH (apv d [] 0) (dA (g0 ⟨all_nil,fun A dU=>?_⟩)));simp only[andThen];refine zL 0 d.ly.length (fun i=>xe d (dE (MS d i)) ((5,L (uM d i))::jV d 46 47 48 i)) (tj d) (lO.norm dU) (fun i hi hj Q' k1 k2 k3=>?_) (fun Q A dU=>hQ Q A ?_)
 . refine mE 2 (dg _) eH (apw d _ _ i) (dz (g1 fun h=>⟨all_nil,?_⟩) (dA (g1 fun h=>⟨all_nil,fun A dU=>k2 (by have:=tF h;omega) A (lO.norm dU)⟩)));have q:=ko h;have hA:V.dr (dj (eX d.ly) (i*31) 31)= .dr (d.at i).ds:=iq q;have hb:tj d i=(decide ((d.at i).id<=uM d i)||decide ((d.at i).id>=d.nx)):=rfl;have XA:=uR i q;have hl:=T0 hi;obtain⟨m1,m2⟩:=QU hi hj;have vr:=Io q;have Iv:=k1 q;have hpr:uM d (i+1)=(d.at i).id:=rfl;rw[vr,hpr]at Iv;clear k1;generalize uM d i=z at *;generalize MS d i=DC at *;generalize d.at i=x at *;refine dI C (fB (i:=1) C ?_);refine mE 1 (dg _) eH (apx d (dE DC) z i x) (dA (g0 ⟨J (iM q) (J (fR _) (eC hA)),?_⟩));refine j9 (qY (dB (dm 1 TV))) (dg _) (!tj d i) (fun b=>TY d (dE DC) 7 x.T ((5,L z)::(6,M i)::(jV d 46 47 48 i++[(63,.bool b),(65,L x.id)]))) 40 x.id [1,3,5,6,7,46,47,48] (TY d (dE DC) 7 x.T ((5,L z)::(6,M i)::jV d 46 47 48 i)) (apy d (dE DC) z i x) ?_ (fun b=>by kernel_rfl) C (fun ZK=>?_) (fun hbt ch F4=>?_)
   . repeat' (first|exact gB|refine dz ?_ ?_)
     all_goals
      intro K;simp only[aD,aI,bh,aL,bg,aX,bt]at K;refine⟨all_nil,C5 (hm:=fun b=>TY d (dE DC) 7 x.T ((5,L z)::(6,M i)::(jV d 46 47 48 i++[(63,.bool b),(65,L x.id)]))) ?_⟩;rw[hb]
      first
       |rw[aU G,aU G];rfl
       |rw[aY G];rfl
       |rw[Bool.or_comm,aY G];rfl
   . rw[bP]at ZK;have H:x.id∉DC:=fun S=>by
      rw[hb,cI,bt]at ZK;have:=m1 _ S;omega
     have hms:=TZ DC x.id hl;have hbn:(0:Int)<=((dE DC).length:Int)/\((dE DC).length:Int)<((dE DC++[(Eng.D.int .i64 x.id,Eng.D.int .i64 0)]).length:Int):=by rw[aJ,List.length_singleton];omega
     refine gz (dg _) eH (apz d (dE DC) z i x) (dA (g0 ⟨J (Kw H) (eC hbn),fun A dU=>?_⟩));rw[hms]at dU;simp only[gw,andThen];exact fU dU (gz (dg _) eH (apA d _ _ i) (dA (g0 ⟨eC (gJ G),fun A dU=>Iv ZK A (lO.norm dU)⟩)))
   . rw[Bool.not_eq_false']at hbt;exact k3 ch _ (hp ch _ (MT F4 C (XA hbt hj) (show(40:Int)≠0 by decide)))
 . have he:MS d d.ly.length=d.ly.map (·.id):=by unfold MS;rw[bD]
   refine dU.trans ((lO.norm (iX:=[1,3]) (hm:=xe d (dE (MS d d.ly.length)) []) C).trans ?_);have:=YO (N:=0) (n0:=NC) (m:=2) (s:=xe d (dE (MS d d.ly.length)) []) (kd:=some .i64) C rfl;unfold qh;rw[<- he];exact this
theorem apZ(hd:JQ d)(hb:∀x∈d.ly,x.kd≠3->Kq x.f)(h40:d.ly.length<=1000)(uR:∀i,i<d.ly.length->JP d i=true->(∀j,j<i->JP d j=false)->jf d=(vy d.sp.length (d.at i),(d.at i).id)){h1:Exit->St->Prop}(hp:∀ch A,RC d (.panic ch) A->h1 (.panic ch) A)
  (hQ:(∀j,j<d.ly.length->JP d j=false)->∀A,lO 0 NC A (oC d (qh d) [])->h1 .normal A):TG ak 0 NC YI (oC d (qh d) []) h1:=by
 generalize qh d=X at *;refine dI C (gz (dg _) eH (apG d X) (dA (g0 ⟨all_nil,fun A dU=>?_⟩)));simp only[andThen];refine zL 2 d.ly.length (fun i=>oC d X (jV d 96 97 98 i)) (JP d) (lO.norm dU) (fun i hi hj Q' k1 k2 k3=>?_) (fun Q A dU=>hQ Q A (dU.trans (lO.norm (iX:=[1,3]) C)));refine mE 2 (dg _) eH (apH d X i) (dz (g1 fun h=>⟨all_nil,?_⟩) (dA (g1 fun h=>⟨all_nil,fun A dU=>k2 (by have:=tF h;omega) A (lO.norm dU)⟩)));have q:=ko h;have hA:V.dr (dj (eX d.ly) (i*31) 31)= .dr (d.at i).ds:=iq q;have hF:=Il d X (d.at i) (hd.at i) (hb _ (p9 q));have ht:JP d i=(vy d.sp.length (d.at i) !=0):=rfl;have XA:=fun h=>uR i q h hj;have Iv:=k1 q;clear k1;generalize d.at i=x at *;refine dI C (fB (i:=3) C ?_);refine mE 1 (dg _) eH (apJ d X i x) (dA (g0 ⟨J (iM q) (J (fR _) (eC hA)),?_⟩));by_cases h0:vy d.sp.length x=0
 . refine gz (mz (hF.1 h0) (dg _)) eH (apK d X i x) (dA (g0 ⟨J rfl (J rfl (eC rfl)),fun A dU=>?_⟩));simp only[gw,andThen];exact fU dU (gz (dg _) eH (apN d X i) (dA (g0 ⟨eC (gJ G),fun A dU=>Iv (by rw[ht,h0];rfl) A (lO.norm dU)⟩)))
 . have K:=XA (by rw[ht];simpa using h0);exact aer (h2:=fun o h n=>o=Kx d/\((jf d).1=0->h=kI d (qh d)/\n=2)) (dg _) (apL d X i x) all_nil (hF.2 h0) (apM d X i x _) (J rfl (J rfl (eC rfl))) ⟨by unfold Kx;rw[K,aB h0];rfl,fun z=>absurd (by rw[K]at z;exact z) h0⟩ (fun ch A h=>k3 ch A (hp ch A h))
theorem ap0(H:yl d (qh d))(hd:JQ d)(h40:d.ly.length<=1000)(uR:(oI d).1≠0->jf d=oI d){h1:Exit->St->Prop}(hp:∀ch A,RC d (.panic ch) A->h1 (.panic ch) A)
  (hQ:(oI d).1=0->∀A,lO 0 NC A (oC d (qh d) [])->h1 .normal A):TG ak 0 NC (dB (dm 10 oq)) (oC d (qh d) []) h1:=by
 have hF:=Kv d (qh d) H hd.m h40;by_cases h0:(oI d).1=0
 . exact gz (mz (hF.1 h0) (dg _)) eH (apO d (qh d)) (dA (g0 ⟨J rfl (J rfl (eC rfl)),fun A dU=>hQ h0 A (lO.norm dU)⟩))
 . have K:=uR h0;exact aer (h2:=fun o h n=>o=Kx d/\((jf d).1=0->h=kI d (qh d)/\n=2)) (dg _) (apP d (qh d)) all_nil (hF.2 h0) (apQ d (qh d) _) (J rfl (J rfl (eC rfl))) ⟨by unfold Kx;rw[K,aB h0];rfl,fun z=>absurd (by rw[K]at z;exact z) h0⟩ hp
theorem ap1(H:yl d (qh d))(hd:JQ d)(h40:d.ly.length<=1000)(K:ZG d.ly)(uR:∀i,i<d.ly.length->MB d i=true->(∀j,j<i->MB d j=false)->jf d=(42,(d.at i).id)){h1:Exit->St->Prop}(hp:∀ch A,RC d (.panic ch) A->h1 (.panic ch) A)
  (hQ:(∀j,j<d.ly.length->MB d j=false)->∀A,lO 0 NC A (oC d (qh d) [])->h1 .normal A):TG ak 0 NC YK (oC d (qh d) []) h1:=by
 generalize qh d=X at *;refine dI C (gz (dg _) eH (apR d X) (dA (g0 ⟨all_nil,fun A dU=>?_⟩)));simp only[andThen];refine zL 4 d.ly.length (fun i=>oC d X (jV d 109 110 111 i)) (MB d) (lO.norm dU) (fun i hi hj Q' k1 k2 k3=>?_) (fun Q A dU=>hQ Q A (dU.trans (lO.norm (iX:=[1,3]) C)));refine mE 2 (dg _) eH (apS d X i) (dz (g1 fun h=>⟨all_nil,?_⟩) (dA (g1 fun h=>⟨all_nil,fun A dU=>k2 (by have:=tF h;omega) A (lO.norm dU)⟩)));have q:=ko h;have hA:V.dr (dj (eX d.ly) (i*31) 31)= .dr (d.at i).ds:=iq q;obtain⟨n,hn⟩:=YQ (p9 q);obtain⟨b,hB,hb⟩:=H8 d X H hd.m K (d.at i).id (d.at i).id hn;have ht:MB d i=b:=by
  rw[Bool.eq_iff_iff,hb,<- (jy d.ly false (d.at i).id).2];unfold MB;exact ck
 have XA:=fun h=>uR i q h hj;have Iv:=k1 q;clear k1 hn;generalize d.at i=x at *;refine dI C (fB (i:=5) C ?_);refine mE 1 (dg _) eH (apT d X i x) (dA (g0 ⟨J (iM q) (J (fR _) (eC hA)),?_⟩));refine ML (qY (dm 1 YM)) (mz hB (dg _)) (!b) (fun b=>oC d X (jV d 109 110 111 i++[(123,.bool b),(125,L x.id)])) 42 x.id [1,3,109,110,111] (oC d X (jV d 109 110 111 i)) (apU d X i x b) (dA (g0 ⟨J rfl (J rfl (eC rfl)),rfl⟩)) (fun b=>by kernel_rfl) C (fun ZK A dU=>?_) (fun hbt ch F4=>?_)
 . rw[bP]at ZK;simp only[gw,andThen];exact dU.xY _ _ (gz (dg _) eH (apV d X i) (dA (g0 ⟨eC (gJ G),fun A dU=>Iv (ht.trans ZK) A (lO.norm dU)⟩)))
 . rw[Bool.not_eq_false']at hbt;exact k3 ch _ (hp ch _ (MT F4 C (XA (ht.trans hbt)) (show(42:Int)≠0 by decide)))
theorem ap2(hD:ng 48 [L d.root] d (qh d) (L (jQ d.ly 100 d.root)))(uR:jf d=if jQ d.ly 100 d.root>6 then(43,d.root)else(0,0)):TG ak 0 NC (dm 12 oq) (oC d (qh d) []) (RC d):=by
 generalize jQ d.ly 100 d.root=a at *;refine j9 (qY (dB (dm 12 oq))) (mz hD (dg _)) (decide (a<=(6:Int))) (fun b=>ff [(3,.ptr (some (0,0))),(132,.bool b),(134,L d.root)] (kI d (qh d)) 2) 43 d.root [3] (ff [(3,.ptr (some (0,0)))] (kI d (qh d)) 2) (apW d (qh d) a) (dA (g0 ⟨J rfl (J rfl (eC rfl)),rfl⟩)) (fun b=>by kernel_rfl) C (fun q=>?_) (fun q ch F4=>?_)
 . have hq:=aW q;rw[aB G]at uR;refine qu (eI (dg _) (apX d (qh d)) (dA (g0 ⟨all_nil,_,_,_,rfl,?_⟩))) fun y A h=>FR.XP h;exact⟨by unfold Kx;rw[uR];rfl,fun _=>⟨rfl,rfl⟩⟩
 . have hq:=bx q;rw[aE G]at uR;exact MT F4 C uR (show(43:Int)≠0 by decide)
end
theorem YR{d:Dc}(Y:∀x∈d.ly,qP d x=true)(K:∀x∈d.ly,zF d x=false):ZG d.ly:=fun x H p hp=>by
 unfold fH at hp;split at hp
 . rename_i h4;rw[aG]at hp;subst hp;have:=K x H;unfold zF at this;rw[h4]at this;cases hn:kr d.ly x.of with
   |none=>rw[hn]at this;cases this
   |some n=>exact⟨n,rfl⟩
 . exact zE (Y x H) hp
theorem aet(d:Dc)(hd:JQ d)(hb:∀x∈d.ly,x.kd≠3->Kq x.f):TG ak 0 NC oq (dw [d.v] .nil 0) (RC d):=by
 have hw:∀q,ig d=q->q.1≠0->jf d=q:=fun q h h0=>by
  unfold jf;rw[aB (by rw[h];exact h0),h]
 refine fu 2 (dg _) (apq d) all_nil ?_;refine(YN (N:=0) (n0:=NC) (m:=2) (s:=sC0 d) (kd:=some .i64) C rfl).xY _ _ ?_;refine j9 (qY (dB (dm 2 oq))) (dg _) (!wR d) (fun b=>xe d [] [(37,.bool b)]) 2 0 [1,3] (xe d [] []) (apr d []) ?_ (fun b=>by kernel_rfl) C (fun q=>?_) (fun q ch hp=>?_)
 . repeat' (first|exact gB|refine dz ?_ ?_)
   all_goals
    intro K;simp only[aD,aI,bh,aL,bg,aX,bt]at K;refine⟨all_nil,C5 (hm:=fun b=>xe d [] [(37,.bool b)]) ?_⟩;cases hq:wR d with
    |true=>
     have:=YP hq
     first|rfl|(exfalso;simp only[gT]at K this;omega)
    |false=>
     have:=CI hq
     first|rfl|(exfalso;simp only[gT]at K;omega)
 rotate_left
 . rw[Bool.not_eq_false']at q;exact MT hp C (hw (2,0) (by unfold ig;rw[aE q]) (show(2:Int)≠0 by decide)) (show(2:Int)≠0 by decide)
 rw[bP]at q;obtain⟨h8,h40,_,_⟩:=CI q;refine fu 1 (dg _) (aps d []) all_nil ?_;refine j9 (qY (dB (dm 4 oq))) (fj (TH d.sp hd.s G) (dg _)) (!(d.sp.any fun s=>!Ar s)) (fun b=>xe d [] [(43,.bool b)]) 23 0 [1,3] (xe d [] []) (apt d [] _) (dA (g0 ⟨eC rfl,rfl⟩)) (fun b=>by kernel_rfl) C (fun q2=>?_) (fun q2 ch hp=>?_)
 rotate_left
 . rw[Bool.not_eq_false']at q2;refine MT hp C (hw (23,0) ?_ (show(23:Int)≠0 by decide)) (show(23:Int)≠0 by decide);unfold ig;rw[aB (by rw[q];decide)];cases hf:lG (fun i=>!Ar (d.sp.getD i Nc)) d.sp.length with
   |some i=>rfl
   |none=>
    exfalso;have:=oV hf;obtain⟨s,hs,qV⟩:=List.any_eq_true.1 q2;obtain⟨i,hi,rfl⟩:=bW hs;have:=this i hi;rw[ax,au hi]at this;rw[b7,qV]at this;cases this
 rw[bP]at q2;have Da:lG (fun i=>!Ar (d.sp.getD i Nc)) d.sp.length=none:=gr fun j hj=>by
  rw[cR]at q2;rw[ax,au hj,b7];have:=q2 _ (bK hj);simpa using this
 have YS:ig d=match lG (tj d) d.ly.length with
  |some i=>(40,(d.at i).id)
  |none=>if lV d=true then(40,d.root)else(0,0):=by
  unfold ig;rw[aB (by rw[q];decide),Da];rfl
 refine fu 1 (dg _) (apu d []) all_nil ?_;refine dI C (apY q (fun i hi Q hj=>hw _ (by rw[YS,je hi Q hj]) (show(40:Int)≠0 by decide)) (fun ch A h=>h) fun Q A dU=>?_);simp only[andThen];refine dU.xY _ _ ?_;rw[gr Q]at YS;simp only at YS;have H:=U8 d;have nx:lV d=false->TG ak 0 NC (dm 9 oq) (oC d (qh d) []) (RC d):=fun U9=>by
  rw[aB (by rw[U9];decide)]at YS;have Zj:(ig d).1=0:=by rw[YS]
  have tw:jf d=_:=aE Zj;refine dI C (apZ hd hb G (fun i hi Q hj=>by rw[tw,je hi Q hj]) (fun ch A h=>h) fun Q A dU=>?_);rw[gr Q]at tw;simp only[andThen];refine dU.xY _ _ ?_;have hl:oI d=match lG (Be d) d.ly.length with
   |some i=>(40,(d.at i).id)
   |none=>match lG (zG d) d.ly.length with
    |some i=>(40,(d.at i).id)
    |none=>(0,0):=rfl
  refine dI C (ap0 H hd G (fun h=>?_) (fun ch A h=>h) fun R A dU=>?_)
  . rw[tw,hl];rw[hl]at h;simp only;cases e2:lG (Be d) d.ly.length with
    |some i=>rfl
    |none=>
     rw[e2]at h;simp only at h ⊢;cases e3:lG (zG d) d.ly.length with
     |some i=>rfl
     |none=>rw[e3]at h;exact absurd rfl h
  have e2:lG (Be d) d.ly.length=none:=by
   cases e:lG (Be d) d.ly.length with
   |none=>rfl
   |some i=>rw[hl,e]at R;exact absurd R (show(40:Int)≠0 by decide)
  have e3:lG (zG d) d.ly.length=none:=by
   cases e:lG (zG d) d.ly.length with
   |none=>rfl
   |some i=>rw[hl,e2]at R;simp only at R;rw[e]at R;exact absurd R (show(40:Int)≠0 by decide)
  rw[e2]at tw;simp only at tw;rw[e3]at tw;simp only at tw;simp only[andThen];refine dU.xY _ _ ?_;have hK:∀x∈d.ly,qP d x=true:=fun x H=>by
   obtain⟨j,hj,rfl⟩:=zH H;have:=oV e2 j hj;unfold Be at this;simpa using this
  have vG:=YR hK fun x H=>by
   obtain⟨j,hj,rfl⟩:=zH H;exact oV e3 j hj
  refine dI C (ap1 H hd G vG (fun i hi Q hj=>by rw[tw,je hi Q hj]) (fun ch A h=>h) fun h4 A dU=>?_);rw[gr h4]at tw;simp only at tw;simp only[andThen];refine dU.xY _ _ ?_;have hac:Eg d.ly false:=fun x H=>by
   obtain⟨j,hj,rfl⟩:=zH H;exact h4 j hj
  have hN:=qF hK;have Qj:∃n,kr d.ly d.root=some n:=by
   cases hn:kr d.ly d.root with
   |some n=>exact⟨n,rfl⟩
   |none=>unfold lV at U9;rw[hn]at U9;cases U9
  obtain⟨n,hn⟩:=Qj;exact ap2 (JZ d (qh d) H hd.m vG (CZ d.ly false) (K7 hac) 100 fa d.root n hn (by unfold CZ;have:=qE d.ly false d.root;omega)) tw
 have bad:lV d=true->∀ch,AP (C0 (40,d.root)) ch->RC d (.panic ch) (oC d (qh d) [(91,.bool false),(93,L d.root)]):=fun h ch hp=>by
  rw[aE h]at YS;exact MT hp C (hw _ YS (show(40:Int)≠0 by decide)) (show(40:Int)≠0 by decide)
 cases hn:kr d.ly d.root with
 |some n=>
  have W:=mb H hn;have hr:lV d=((d.at n).kd !=2):=by unfold lV;rw[hn]
  generalize d.at n=y at *;refine mE 1 (mz W (dg _)) eH (apB d (qh d) y) (dA (g0 ⟨J rfl (J rfl (eC rfl)),?_⟩));refine j9 (qY (dB (dm 8 oq))) (dg _) (!lV d) (fun b=>oC d (qh d) [(91,.bool b),(93,L d.root)]) 40 d.root [1,3] (oC d (qh d) []) (apE d (qh d) y) (dz (g1 fun h=>⟨all_nil,C5 (hm:=fun b=>oC d (qh d) [(91,.bool b),(93,L d.root)]) ?_⟩) (dA (g1 fun h=>⟨all_nil,C5 (hm:=fun b=>oC d (qh d) [(91,.bool b),(93,L d.root)]) ?_⟩))) (fun b=>by kernel_rfl) C (fun q=>nx (by simpa using q)) (fun q ch hp=>bad (by simpa using q) ch hp)
  . rw[hr];unfold bne;rw[h];rfl
  . rw[hr];unfold bne;rw[h];rfl
 |none=>
  have W:=wU H hn;have hr:lV d=true:=by unfold lV;rw[hn]
  refine mE 1 (mz W (dg _)) eH (apC d (qh d)) (dA (g0 ⟨J rfl (J rfl (eC rfl)),?_⟩));exact j9 (qY (dB (dm 8 oq))) (dg _) false (fun b=>oC d (qh d) [(91,.bool b),(93,L d.root)]) 40 d.root [1,3] (oC d (qh d) []) (apF d (qh d)) (dA (g0 ⟨all_nil,rfl⟩)) (fun b=>by kernel_rfl) C (fun q=>by cases q) (fun q ch hp=>bad hr ch hp)
set_option maxRecDepth 10000
def QV(d:Dc)(v:V)(Q:I O)(n1:Nat):ag->I O->Nat->Option (ah×V×I O×Nat):=fun args h k=>some ([args=[d.v],h= .nil,k=0],v,Q,n1)
theorem QW{d:Dc}(hd:JQ d)(hb:∀x∈d.ly,x.kd≠3->Kq x.f)(h0:(jf d).1=0):kE ak 42 (wT (QV d pT (kI d (qh d)) 2)):=
 Tn mo po .ret J8 (az C) Tryz.func42 (code:=dG Tryz.f42) C fun args h k s' v h' k' e hA=>by
  simp only[QV,aq,aF]at e;obtain⟨rfl,rfl,rfl,rfl⟩:=e;have Q:args=[d.v]:=hA _ (by simp);have R:h= .nil:=hA (h= .nil) (by simp);have h3:k=0:=hA (k=0) (by simp);subst Q R h3;refine⟨C,qu (aet d hd hb) fun y s h=>?_⟩;obtain⟨m,S,o,h,n,e,q1,q2⟩:=h;exact⟨m,S,o,h,n,e,by rw[q1];exact aE h0,(q2 h0).1,(q2 h0).2⟩
theorem MU{d:Dc}(hd:JQ d)(hb:∀x∈d.ly,x.kd≠3->Kq x.f)(h0:(jf d).1≠0):Qq ak 42 [d.v] (C0 (jf d)):=
 Qr (o:=.ni (C0 (jf d))) mo po Tryz.func42 (code:=dG Tryz.f42) C C C rfl (qu (aet d hd hb) fun y s h=>by
  obtain⟨m,S,o,h,n,e,q1,q2⟩:=h;exact⟨m,S,o,h,n,e,by rw[q1];exact aB h0⟩)
noncomputable def cfN:fL:=fun _ _ _ _=>none
theorem F5:gq ak cfN:=fun _ _ _ _ _ _ _ e=>by cases e
section
variable{N n0:Nat}{c:Code}{s:St}{h1 Q1:Exit->St->Prop}{fn:Func}
theorem QX{ops:Array Oper}{o:Oper}{rest:List Oper}(h:Ng ak N n0 ops [o] s Q1)(Q:∀A,Q1 .normal A->Ng ak N n0 ops rest A h1)(R:∀y A,y≠ .normal->Q1 y A->h1 y A):Ng ak N n0 ops (o::rest) s h1:=fun E a w hc r hn k=>by
 show wpListIn (fz none) 0 ak ops hc ([o]++rest) a w;refine s8 _ ?_;refine h E a w _ r hn fun y A E' a' w' q u nV r'=>?_;cases y with
 |normal=>exact Q A q E' a' w' hc r' nV fun y s2 E2 a2 w2 q2 u2 o4 r2=>k y s2 E2 a2 w2 q2 (u.trans u2) o4 r2
 |_=>exact k _ A E' a' w' (R _ A (by intro z;cases z) q) u nV r'
noncomputable def toC(k:Nat)(c:Code)(s:St):Option St:=match gv ak cfN 20 (dN 2 c) s with
 |some (.normal,s1)=>match gv ak cfN 20 (Dz k (dB (dm 2 c))) s1 with
  |some (.normal,s2)=>some s2
  |_=>none
 |_=>none
noncomputable def frC(N:Nat)(fn:Func)(ops:Array Oper)(rest:List Oper)(c:Code)(s:St):Option (pn×I O×Nat):=match jg ak cfN ops rest s with
 |some (.normal,s3)=>match gv ak cfN 20 c s3 with
  |some (.ret,s4)=>Nh ak N fn s4 .ret
  |_=>none
 |_=>none
noncomputable def aev(N:Nat)(fn:Func)(f0 k:Nat)(c:Code)(sp:ag->I O->Nat->Option (ah×V×I O×Nat))(s:St):Option (ah×pn×I O×Nat):=match toC k c s with
 |some s2=>match ld k (dB (dm 2 c))with
  |o::rest=>match o.guard with
   |none=>match dO ak o s2.F s2.h s2.n with
    |some (.call f args)=>match Nat.beq f f0 with
     |true=>match sp args s2.h s2.n with
      |some (s',v,R,n2)=>match Go.Eng.jn s2.F o.dst v with
       |some F=>match frC N fn (MK (dB (dm 2 c))) rest (dP (dm 2 c)) { s2 with F:=F,h:=R,n:=n2 }with
        |some (o,h,n)=>some (s',o,h,n)
        |none=>none
       |none=>none
      |none=>none
     |false=>none
    |_=>none
   |some _=>none
  | []=>none
 |none=>none
noncomputable def aew(N:Nat)(fn:Func)(f0 k:Nat)(c:Code)(sp:ag->I O->Nat->Option (ah×V×I O×Nat))(s:St):Option (ah×pn×I O×Nat):=match toC k c s with
 |some s2=>match ld k (dB (dm 2 c))with
  |o::_=>match o.guard with
   |none=>match dO ak o s2.F s2.h s2.n with
    |some (.call f args)=>match Nat.beq f f0 with
     |true=>match sp args s2.h s2.n with
      |some (s',v,R,n2)=>match v.free with
       |true=>match Nh ak N fn { s2 with h:=R,n:=n2 } (.ni v false)with
        |some (o,h,n)=>some (s',o,h,n)
        |none=>none
       |false=>none
      |none=>none
     |false=>none
    |_=>none
   |some _=>none
  | []=>none
 |none=>none
def Ky(n0 k:Nat)(c:Code):Bool:=rK (dm 2 c)&&(eJ n0 c&&(eJ n0 (dB (dm 2 c))&&(eJ n0 (dP (dm 2 c))&&(DA k (dB (dm 2 c))&&(ld k (dB (dm 2 c))).all fun o=>match o.dst with|some d=>decide (d<n0)|none=>true))))
theorem QY{k:Nat}{s2:St}(e:toC k c s=some s2)(h:Ng ak N n0 (MK (dB (dm 2 c))) (ld k (dB (dm 2 c))) s2 (andThen (fun A=>TG ak N n0 (dP (dm 2 c)) A h1) h1))(hs:Ky n0 k c=true):TG ak N n0 c s h1:=by
 unfold Ky at hs;simp only[ay]at hs;obtain⟨Q,R,h3,_,h5,_⟩:=hs;unfold toC at e;split at e
 case h_2=>cases e
 rename_i s1 e1;split at e
 case h_2=>cases e
 rename_i s2' e2;obtain rfl:=eB e;refine xW (fr:=20) F5 mo 2 R e1 (dI Q (Ll (fr:=20) k F5 mo h3 h5 e2 h))
section
variable{f0 k:Nat}{sp:ag->I O->Nat->Option (ah×V×I O×Nat)}{s':ah}{o1:pn}{h:I O}{n:Nat}
theorem Ip(hs:Ky n0 k c=true):∀x∈ld k (dB (dm 2 c)),mU n0 x.dst:=fun x H d hd=>by
 unfold Ky at hs;simp only[ay]at hs;have:=bq.1 hs.2.2.2.2.2 x H;rw[hd]at this;exact aW this
theorem T1{h2:pn->I O->Nat->Prop}(hO:kE ak f0 sp)(e:aev N fn f0 k c sp s=some (s',o1,h,n))(hA:∀a∈s',a)(hR:h2 o1 h n)(hs:Ky n0 k c=true:=by kernel_rfl):TG ak N n0 c s (FR ak N fn h2):=by
 have hd:=Ip hs;have DJ:eJ n0 (dP (dm 2 c))=true:=by
  unfold Ky at hs;simp only[ay]at hs;exact hs.2.2.2.1
 unfold aev at e;split at e
 case h_2=>cases e
 rename_i s2 e2;refine QY e2 ?_ hs;split at e
 case h_2=>cases e
 rename_i o rest hl;rw[hl]at hd ⊢;split at e
 case h_2=>cases e
 rename_i hg;split at e
 case h_2=>cases e
 rename_i f args oQ;split at e
 case h_2=>cases e
 rename_i hf;have hf:=aA hf;subst hf;split at e
 case h_2=>cases e
 rename_i A2 v R n2 Da;split at e
 case h_2=>cases e
 rename_i F vb;split at e
 case h_2=>cases e
 rename_i o3 h3 n3 Va;simp only[aq,aF]at e;obtain⟨rfl,rfl,rfl,rfl⟩:=e;unfold frC at Va;split at Va
 case h_2=>cases Va
 rename_i s3 e3;split at Va
 case h_2=>cases Va
 rename_i s4 e4;refine QX (Q1:=fun y A=>y= .normal/\A={ s2 with F:=F,h:=R,n:=n2 }) (FQ (hd o (bz ..)) hg oQ hO Da hA vb ⟨rfl,rfl⟩) (fun A q=>?_) fun y A hy q=>absurd q.1 hy;obtain⟨_,rfl⟩:=q;refine CM F5 (fun x H=>hd x (bj _ H)) e3 rfl ?_;simp only[andThen];exact qv (fr:=20) F5 mo DJ e4 rfl ⟨.ret,trivial,_,_,_,Va,hR⟩
theorem T2{h2:pn->I O->Nat->Prop}(hO:Qp ak f0 sp)(e:aew N fn f0 k c sp s=some (s',o1,h,n))(hA:∀a∈s',a)(hR:h2 o1 h n)(hs:Ky n0 k c=true:=by kernel_rfl):TG ak N n0 c s (FR ak N fn h2):=by
 have hd:=Ip hs;unfold aew at e;split at e
 case h_2=>cases e
 rename_i s2 e2;refine QY e2 ?_ hs;split at e
 case h_2=>cases e
 rename_i o rest hl;rw[hl]at hd ⊢;split at e
 case h_2=>cases e
 rename_i hg;split at e
 case h_2=>cases e
 rename_i f args oQ;split at e
 case h_2=>cases e
 rename_i hf;have hf:=aA hf;subst hf;split at e
 case h_2=>cases e
 rename_i A2 v R n2 Da;split at e
 case h_2=>cases e
 rename_i hv;split at e
 case h_2=>cases e
 rename_i o3 h3 n3 Va;simp only[aq,aF]at e;obtain⟨rfl,rfl,rfl,rfl⟩:=e;exact Bg hd hg oQ hO Da hA hv fun ch F4=>FR.CN F4 Va hR
end
end
section
variable{d:Dc}(hd:JQ d)(hb:∀x∈d.ly,x.kd≠3->Kq x.f)
include hd hb
theorem QZ(h0:(jf d).1=0):kE ak 43 (wT (QV d pT (kI d (qh d)) 2)):=
 Tn mo po .ret J8 (az C) Tryz.func43 (code:=dG Tryz.f43) C fun args h k s' v h' k' e hA=>by
  simp only[QV,aq,aF]at e;obtain⟨rfl,rfl,rfl,rfl⟩:=e;have Q:args=[d.v]:=hA _ (by simp);have R:h= .nil:=hA (h= .nil) (by simp);have h3:k=0:=hA (k=0) (by simp);subst Q R h3;have hO:=QW hd hb h0;generalize qh d=X at *;exact⟨C,T1 (s':=[[d.v]=[d.v],(I.nil:I O)=I.nil,(0:Nat)=0]) (o1:=.ret pT) (h:=kI d X) (n:=2) (k:=1) hO C (J rfl (J rfl (eC rfl))) ⟨rfl,rfl,rfl⟩⟩
theorem Q0(h0:(jf d).1≠0):dS ak 43 [d.v] (.ptr none):=
 Qr (o:=.ret (.ptr none)) mo po Tryz.func43 (code:=dG Tryz.f43) C C C rfl (by
  have hO:=MU hd hb h0;generalize jf d=p at *;exact T2 (N:=0) (s':=[V.lE [d.v]=[d.v]]) (o1:=.ret (.ptr none)) (h:=.nil) (n:=0) (k:=1) (FT C hO) C (eC rfl) rfl)
end
set_option maxRecDepth 10000
theorem MV{l:List Int}{i j:Nat}{k:Int}(NR:i<j)(hj:j<l.length)(Q:l.getD i 0=k)(R:l.getD j 0=k):2<=l.count k:=by
 have e:l.count k=(l.take j).count k+(l.drop j).count k:=by rw[<- List.count_append,List.take_append_drop]
 have m1:k∈l.take j:=by
  rw[ax,au G,b7]at Q;rw[<- Q];exact List.mem_take_iff_getElem.2 ⟨i,G,rfl⟩
 have m2:k∈l.drop j:=by
  rw[ax,au hj,b7]at R;rw[<- R];exact List.mem_drop_iff_getElem.2 ⟨0,G,by simp⟩
 have:=List.count_pos_iff.2 m1;have:=List.count_pos_iff.2 m2;omega
theorem Q4{l:List Int}{j:Nat}{k:Int}(K:l.count k<=1)(hj:j<l.length)(h:l.getD j 0=k):l.findIdx? (. ==k)=some j:=by
 rw[bL];have hg:=h;rw[ax,au hj,b7]at hg;refine⟨hj,by simpa using hg,fun i hi q=>?_⟩;have q:=cJ.1 q;have:=MV hi hj (by rw[ax,au G,b7];exact q) h;omega
theorem Bl{l:List Int}{j:Nat}(hj:j<l.length):l.getD j 0∈l:=by
 rw[ax,au hj];exact bK hj
theorem CP{k:Int}{x:eG}{j:Nat}(R:x.kd=2)(hj:j<x.kids.length)(Y:x.kids.getD j 0=k):∀{ls:List eG},(k9 ls).count k=1->x∈ls->jj ls k=some (x.id,j)
 | [],_,H=>by cases H
 |y::ls,K,H=>by
  have e:(k9 (y::ls)).count k=y.kids.count k+(k9 ls).count k:=by
   have:k9 (y::ls)=y.kids++k9 ls:=rfl;rw[this,List.count_append]
  rw[e]at K;unfold jj;by_cases D2:x∈ls
  . have hp:0<(k9 ls).count k:=List.count_pos_iff.2 (List.mem_flatten.2 ⟨_,bQ.2 ⟨x,D2,rfl⟩,Y▸Bl hj⟩);have h0:y.kids.count k=0:=by omega
    have hn:y.kids.findIdx? (. ==k)=none:=by
     rw[cH];intro z hz;rw[List.count_eq_zero]at h0;exact bZ.2 fun q=>h0 (q▸hz)
    rw[hn];have:(if y.kd=2 then(none:Option Nat)else none)=none:=by split<;>rfl
    rw[this];exact CP R hj Y G D2
  . obtain rfl:x=y:=(aD.1 H).resolve_right D2;rw[aE R,Q4 G hj Y]
section
variable{d:Dc}(h:jR d)
include h
theorem jR.CV{k:Int}(Y:∃n,kr d.ly k=some n)(hr:k≠d.root):(k9 d.ly).count k=1:=by
 obtain⟨n,hn⟩:=Y;obtain⟨_,hid,S⟩:=jG hn;have:=Bd (h.k _ S);rw[hid,aB hr,yf]at this;exact this
theorem jR.par{k:Int}(Y:∃n,kr d.ly k=some n)(hr:k≠d.root):∃g∈d.ly,∃j,g.kd=2/\j<g.kids.length/\g.kids.getD j 0=k/\jj d.ly k=some (g.id,j):=by
 have K:=h.CV Y hr;obtain⟨ks,ES,hk2⟩:=List.mem_flatten.1 (List.count_pos_iff.1 (by omega:0<(k9 d.ly).count k));obtain⟨g,hg,rfl⟩:=bQ.1 ES;have R:g.kd=2:=by
  by_cases q:g.kd=2
  . exact q
  . rw[h.FO hg q]at hk2;cases hk2
 obtain⟨j,hj,e⟩:=bW hk2;have e2:g.kids.getD j 0=k:=by rw[ax,au hj];exact e
 exact⟨g,hg,j,R,hj,e2,CP R hj e2 K hg⟩
theorem jR.YT{g:eG}(hg:g∈d.ly){k:Int}(Y:k∈g.kids):g.kd=2/\(∃n,kr d.ly k=some n)/\k≠d.root:=by
 have R:g.kd=2:=by
  by_cases q:g.kd=2
  . exact q
  . rw[h.FO hg q]at Y;cases Y
 refine⟨R,zE (h.k _ hg) Y,fun e=>?_⟩;obtain⟨n,hn⟩:=zE (h.k _ hg) Y;obtain⟨_,hid,S⟩:=jG hn;have:=Bd (h.k _ S);rw[hid,aE e,yf,List.count_eq_zero]at this;exact this (List.mem_flatten.2 ⟨_,bQ.2 ⟨g,hg,rfl⟩,Y⟩)
theorem jR.ZL{g:eG}(hg:g∈d.ly):∃m,kr d.ly g.id=some m/\d.ly.getD m gG=g:=by
 obtain⟨m,Q,_,R⟩:=yd h.uniq hg;exact⟨m,Q,R⟩
omit h in
theorem vo{g:eG}{m:Nat}(S:kr d.ly g.id=some m)(hg:d.ly.getD m gG=g)(R:g.kd≠4){k:Int}(Y:k∈g.kids)(fK:Bool):k∈fC d.ly fK g.id:=by
 unfold fC;rw[S];simp only;refine cN _ ?_;rw[hg];unfold fH;rw[aB R];exact Y
omit h in
theorem Q5{g:eG}{m:Nat}(S:kr d.ly g.id=some m)(hg:d.ly.getD m gG=g)(h4:g.kd=4)(fK:Bool):g.of∈fC d.ly fK g.id:=by
 unfold fC;rw[S];simp only;refine cN _ ?_;rw[hg];unfold fH;rw[aE h4];exact aG.2 rfl
def Nk(d:Dc)(x:Int):Nat:=match kr d.ly x with
 |some n=>if(d.ly.getD n gG).kd=3 then match jj d.ly x with
   |some (g,j)=>(CZ d.ly false g-1)*((eW d.ly).length+2)+1+j
   |none=>0
  else CZ d.ly false x*((eW d.ly).length+2)
 |none=>0
theorem Q6{g:eG}(hg:g∈d.ly)(R:g.kd=2){i:Nat}(hi:i<g.kids.length):Nk d (g.kids.getD i 0)<=(CZ d.ly false g.id-1)*((eW d.ly).length+2)+1+i/\1<=CZ d.ly false g.id:=by
 have Y:=Bl hi;obtain⟨_,KO,hr⟩:=h.YT hg Y;obtain⟨m,Dv,EI⟩:=h.ZL hg;have eM:=K6 h.a (vo Dv EI G Y false);have hp:=CP R hi rfl (h.CV KO hr) hg;obtain⟨n,hn⟩:=KO;refine⟨?_,G⟩;unfold Nk;rw[hn];simp only;split
 . rw[hp];exact aK _
 . have:CZ d.ly false (g.kids.getD i 0)*((eW d.ly).length+2)<=(CZ d.ly false g.id-1)*((eW d.ly).length+2):=cA _ G;omega
theorem LD{x y:Int}(hy:y∈fC d.ly true x):Nk d y<Nk d x:=by
 have hyo:=hy;unfold fC at hy;split at hy
 case h_2=>cases hy
 rename_i n hn;obtain⟨_,hid,S⟩:=jG hn;rcases bf.1 hy with hp|hp
 . have h3:(d.ly.getD n gG).kd≠3:=fun q=>by
    rw[(h.fK _ S q).1]at hp;cases hp
   have H:Nk d x=CZ d.ly false x*((eW d.ly).length+2):=by
    unfold Nk;rw[hn];simp only;rw[aB h3]
   have eM:CZ d.ly false y<CZ d.ly false x:=K6 h.a (by unfold fC;rw[hn];exact cN _ hp);obtain⟨m,qe⟩:=h.clo _ S y hp;rw[H];by_cases q:(d.ly.getD m gG).kd=3
   . have h4:(d.ly.getD n gG).kd≠4:=fun q4=>by
      unfold fH at hp;rw[aE q4,aG]at hp;have:=h.c _ S;unfold zF at this;rw[q4,<- hp,qe]at this;simp only[Dc.at]at this;rw[q]at this;cases this
     unfold fH at hp;rw[aB h4]at hp;obtain⟨R,_,_⟩:=h.YT S hp;obtain⟨i,hi,e⟩:=bW hp;have e2:(d.ly.getD n gG).kids.getD i 0=y:=by rw[ax,au hi];exact e
     obtain⟨k1,k2⟩:=Q6 h S R hi;rw[e2,hid]at k1;rw[hid]at k2;have hl:=vj S;have:(CZ d.ly false x-1)*((eW d.ly).length+2)+((eW d.ly).length+2)=CZ d.ly false x*((eW d.ly).length+2):=by
      rw[<- Nat.succ_mul];congr 1;omega
     omega
   . have hy:Nk d y=CZ d.ly false y*((eW d.ly).length+2):=by
      unfold Nk;rw[qe];simp only;rw[aB q]
     rw[hy];exact Nat.mul_lt_mul_of_pos_right eM G
 . split at hp
   case isFalse=>cases hp
   rename_i q3;unfold gX at hp;split at hp
   case h_2=>cases hp
   rename_i g j hg;split at hp
   case h_2=>cases hp
   rename_i m qe;obtain⟨gx,hgx,e1,e2,e3,e4⟩:=yc hg;obtain⟨m2,k1,k2⟩:=h.ZL hgx;rw[e1,qe]at k1;obtain rfl:m=m2:=by simpa using k1
   rw[k2]at hp;obtain⟨i,hi,e⟩:=List.mem_take_iff_getElem.1 hp;have e5:gx.kids.getD i 0=y:=by rw[ax,au G];exact e
   obtain⟨r1,_⟩:=Q6 h hgx e2 (i:=i) G;rw[e5,e1]at r1;have H:Nk d x=(CZ d.ly false g-1)*((eW d.ly).length+2)+1+j:=by
    unfold Nk;rw[hn];simp only;rw[aE q3.2,hg]
   rw[H];omega
theorem T3{x y:Int}(hr:xb (fC d.ly true) x y):Nk d y<Nk d x:=by
 induction hr with
 |one hy=>exact LD h hy
 |tail _ hz ih=>exact Nat.lt_trans (LD h hz) ih
theorem Q7(x:Int):¬xb (fC d.ly true) x x:=fun q=>cZ _ (T3 h q)
theorem Es:∀(b:Nat) (k:Int),(eW d.ly).length+1<=b+CZ d.ly false k->(∃n,kr d.ly k=some n)->k≠d.root->xb (fC d.ly true) d.root k
 |0,k,hb,_,_=>by
  have:=qE d.ly false k;unfold CZ at hb;omega
 |b+1,k,hb,KO,hr=>by
  obtain⟨g,hg,j,R,hj,e,hp⟩:=h.par KO hr;obtain⟨m,Dv,EI⟩:=h.ZL hg;have Y:k∈g.kids:=e▸Bl hj;have hs:=vo Dv EI G Y true;have eM:=K6 h.a (vo Dv EI G Y false);by_cases q:g.id=d.root
  . rw[<- q];exact .one hs
  . exact .tail (Es b g.id G ⟨m,Dv⟩ q) hs
end
set_option maxRecDepth 10000
noncomputable abbrev YU:Code:=dG Tryz.f17
abbrev Sn2:=List (Eng.D×Eng.D)
abbrev W43(d:Dc)(X:Sn2)(hL:gy):gy:=lC 43 (wT (QV d pT (kI d X) 2)) hL
abbrev aV(d:Dc):ah:=[[d.v]=[d.v],(I.nil:I O)= .nil,(0:Nat)=0]
abbrev aQ(d:Dc)(X:Sn2)(r:ag):ah:=[pT::r=pT::r,kI d X=kI d X,(2:Nat)=2]
theorem aex(d:Dc)(X:Sn2)(a b:Int)(x:eG)(r:Bool):dn (U (W43 d X (qg 44 [L a] d X (.gC [x.v,.bool true]) (qg 45 [L a,L b,XL 46] d X (.bool r) dY))) []) [] 0 Tryz.f17 [] YU (dw [d.v,L a,L b] .nil 0)
  [([],aV d++(aQ d X [L a]++aQ d X [L a,L b,XL 46]),.ret (.bool r) .nil 0)]:=dh.of C C C
theorem aey(d:Dc)(X:Sn2)(a b:Int):dn (U (W43 d X (qg 44 [L a] d X (.gC [Te,.bool false]) dY)) []) [] 0 Tryz.f17 [] YU (dw [d.v,L a,L b] .nil 0)
  [([],aV d++aQ d X [L a],.ret (.bool false) .nil 0)]:=dh.of C C C
theorem aez(d:Dc)(a b:Int):dn (U (eZ 43 [d.v] (.ptr none) dY) []) [] 0 Tryz.f17 [] YU (dw [d.v,L a,L b] .nil 0)
  [([],[V.lE [d.v]=[d.v]],.ret (.bool false) .nil 0)]:=dh.of C C C
section
variable{d:Dc}
theorem jR.bd(h:jR d):∀x∈d.ly,x.kd≠3->Kq x.f:=fun x H h3=>by
 have Q:=(Li (h.f x H)).2.2.2.1;unfold Gb Fv at Q;simp only[ay]at Q;have R:=Q.2.2.2.2.1;rw[show(x.kd==3)=false by simpa using h3,cm]at R;unfold th at R;simp only[ay,cJ]at R;obtain⟨e1,e2,e3,e4,_⟩:=R;refine⟨?_,?_,?_,?_⟩
 . rw[e1];unfold zN;decide
 . rw[e2];unfold zN;decide
 . rw[e3];unfold zN;decide
 . rw[e4];unfold zN;decide
noncomputable def okB(d:Dc):Bool:=(jf d).1==0
noncomputable def jS(d:Dc)(a b:Int):Bool:=okB d&&((kr d.ly a).isSome&&(jx d.ly true a).contains b)
variable(hd:JQ d)(hb:∀x∈d.ly,x.kd≠3->Kq x.f)
include hd hb
theorem aeA(a b:Int):dS ak 17 [d.v,L a,L b] (.bool (jS d a b)):=by
 unfold jS okB;by_cases h0:(jf d).1=0
 . have hV:=QZ hd hb h0;have H:=U8 d;have h:=JY h0;change yl d (qh d)at H;rw[show((jf d).1==0)=true by simpa using h0,aN];cases hn:kr d.ly a with
   |none=>
    have W:=wU H hn;generalize qh d=X at *;exact eV Tryz.func17 (eI (fQ hV (mz W (dg _))) (aey d X a b) (dA (g0 ⟨J rfl (J rfl (J rfl (J rfl (J rfl (eC rfl))))),_,_,_,rfl,rfl⟩)))
   |some n=>
    have W:=mb H hn;obtain⟨r,hR,hr⟩:=FN d (qh d) H hd.m h.clo h.fK (fun x H k Y=>zE (h.k x H) Y) (by have:=qF h.k;have:=h.big;omega) b a hn;have e:(jx d.ly true a).contains b=r:=by
     rw[Bool.eq_iff_iff,hr,<- (jy d.ly true a).2];exact ck
    rw[Option.isSome_some,aN,e];generalize qh d=X at *;generalize d.at n=x at *;exact eV Tryz.func17 (eI (fQ hV (mz W (mz hR (dg _)))) (aex d X a b x r) (dA (g0 ⟨J rfl (J rfl (J rfl (J rfl (J rfl (J rfl (J rfl (J rfl (eC rfl)))))))),_,_,_,rfl,rfl⟩)))
 . have hV:=Q0 hd hb h0;rw[show((jf d).1==0)=false by simpa using h0];exact eV Tryz.func17 (eI (fj hV (dg _)) (aez d a b) (dA (g0 ⟨eC rfl,_,_,_,rfl,rfl⟩)))
end
set_option maxRecDepth 10000
noncomputable abbrev Kz:Code:=dG Tryz.f4
noncomputable abbrev T4:Code:=dD (dD (dP (dB (dm 4 Kz))))
noncomputable abbrev MW:Code:=dD (dB (dm 1 T4))
noncomputable abbrev kUz:Code:=dB (dm 2 MW)
noncomputable abbrev YV:Code:=dD (dD (dP kUz))
noncomputable abbrev T5:Code:=dD (dD (dm 4 MW))
noncomputable abbrev aeB:Code:=dD (dB (dm 1 T5))
noncomputable abbrev Q8:Code:=dD (dD (dm 2 aeB))
def mTz:List (FuncId×ag×V):=[(8,[],.bool true)]
theorem YW:eR ak (KM mTz):=Ol fun x H=>by
 simp only[mTz,aD,aI,bh]at H;subst H;exact san
noncomputable def ZM(d:Dc)(hm:gy):gy:=lC 17 (fun args h n=>match args with
 | [x,.int .i64 a,.int .i64 b]=>some ([x=d.v],.bool (jS d a b),h,n)
 |_=>none) hm
def Rr(d:Dc)(r:List (Nat×V)):St:=ff ([(3,.bool true),(4,.ptr (some (0,0))),(5,M d.ly.length)]++r) (W [(0,.cells d.T)]) 1
def qS(d:Dc)(x:eG)(r:List (Nat×V)):St:=ff ([(3,.bool true),(4,.ptr (some (0,0))),(5,M d.ly.length),(7,.ptr (some (1,0)))]++r) (W [(0,.cells d.T),(1,.cells x.T)]) 2
theorem ap5(xs:List Int)(d:Dc):dn (U (eZ 10 [fg xs] d.v (KM mTz)) []) [] 0 Tryz.f4 [3,4,5] (dN 4 Kz) (dw [fg xs] .nil 0) [([],
   [(V.lE ([]++[fg xs]++[])=[fg xs])],
   .to .normal (Rr d []))]
 :=dh.of C C C
theorem ap6(d:Dc):dn (U dY []) [] 0 Tryz.f4 [3,4,5,6] (dB (dB (dm 4 Kz))) (Rr d []) [([],
   [],
   .to .normal (Rr d [(6,M 0)]))]
 :=dh.of C C C
theorem ap7(d:Dc)(i:Nat):dn (U dY []) [(21,.split)] 0 Tryz.f4 [3,4,5,6] (dN 1 T4) (Rr d [(6,M i)]) [([((decide (Int.ofNat i<Int.ofNat d.ly.length)),true)],
   [],
   .to .normal (Rr d [(6,M i)])),
  ([((decide (Int.ofNat i<Int.ofNat d.ly.length)),false)],
   [],
   .to (.exit 0) (Rr d [(6,M i)]))]
 :=dh.of C C C
theorem ap8(d:Dc)(i:Nat)(x:eG):dn (U dY []) [(27,.dy (.dr x.ds))] 0 Tryz.f4 [3,4,5,6,7] (dN 1 MW) (Rr d [(6,M i)]) [([],
   [((0:Int)<=Int.ofNat i/\Int.ofNat i<(Int.ofNat d.ly.length)),((eX d.ly).length=d.ly.length*31),(V.dr (dj (eX d.ly) (i*31) 31)=V.dr x.ds)],
   .to .normal (qS d x [(6,M i)]))]
 :=dh.of C C C
theorem ap9(d:Dc)(i:Nat)(x:eG):dn (U (ZM d dY) []) [(34,.dy (.bool false)),(40,.split),(47,.dy (.bool true)),(54,.split),(61,.dy (.bool true))] 0 Tryz.f4 [3,4,5,6,7] (dN 1 (dm 1 MW)) (qS d x [(6,M i)])
  [([(x.id !=d.root,true),(x.kd==(4:Int),true)],[d.v=d.v,V.bool (jS d (x.id) (x.id))=V.bool false,d.v=d.v,V.bool (jS d (d.root) (x.id))=V.bool true,d.v=d.v,V.bool (jS d (x.id) (x.of))=V.bool true],.to .normal (qS d x [(6,M i)])),
  ([(x.id !=d.root,true),(x.kd==(4:Int),false)],[d.v=d.v,V.bool (jS d (x.id) (x.id))=V.bool false,d.v=d.v,V.bool (jS d (d.root) (x.id))=V.bool true],.to .normal (qS d x [(6,M i)])),
  ([(x.id !=d.root,false),(x.kd==(4:Int),true)],[d.v=d.v,V.bool (jS d (x.id) (x.id))=V.bool false,d.v=d.v,V.bool (jS d (x.id) (x.of))=V.bool true],.to .normal (qS d x [(6,M i)])),
  ([(x.id !=d.root,false),(x.kd==(4:Int),false)],[d.v=d.v,V.bool (jS d (x.id) (x.id))=V.bool false],.to .normal (qS d x [(6,M i)]))]:=dh.of C C C
theorem aqa(d:Dc)(i:Nat)(x:eG):dn (U dY []) [] 0 Tryz.f4 [3,4,5,6,7,8] (dB kUz) (qS d x [(6,M i)]) [([],
   [],
   .to .normal (qS d x [(6,M i),(8,M 0)]))]
 :=dh.of C C C
theorem aqb(d:Dc)(i j:Nat)(x:eG):dn (U dY []) [(69,.split)] 0 Tryz.f4 [3,4,5,6,7,8] (dN 1 YV) (qS d x [(6,M i),(8,M j)]) [([((decide (Int.ofNat j<(Int.ofNat x.kids.length))),true)],
   [],
   .to .normal (qS d x [(6,M i),(8,M j)])),
  ([((decide (Int.ofNat j<(Int.ofNat x.kids.length))),false)],
   [],
   .to (.exit 2) (qS d x [(6,M i),(8,M j)]))]
 :=dh.of C C C
theorem aqc(d:Dc)(i j:Nat)(x:eG)(k:Int):dn (U (ZM d dY) []) [(78,.dy (.dr [.int .i64 k])),(80,.dy (.bool true))] 0 Tryz.f4 [3,4,5,6,7,8] (dN 1 (dm 1 YV)) (qS d x [(6,M i),(8,M j)])
  [([],[(0:Int)<=Int.ofNat j/\Int.ofNat j<Int.ofNat x.kids.length,(dM x.kids).length=x.kids.length*1,V.dr (dj (dM x.kids) (j*1) 1)=V.dr [D.int .i64 k],d.v=d.v,V.bool (jS d (x.id) (k))=V.bool true],.to .normal (qS d x [(6,M i),(8,M j)]))]:=dh.of C C C
theorem aqd(d:Dc)(i j:Nat)(x:eG):dn (U dY []) [(71,.dy (M (j+1)))] 0 Tryz.f4 [3,4,5,6,7,8] (dm 2 YV) (qS d x [(6,M i),(8,M j)]) [([],
   [(V.int B (IntKind.i64.wrap (Int.ofNat j+(1:Int)))=M (j+1))],
   .to .normal (qS d x [(6,M i),(8,M (j+1))]))]
 :=dh.of C C C
theorem aqe(d:Dc)(i j:Nat)(x:eG):dn (U dY []) [] 0 Tryz.f4 [3,4,5,6,7,9] (dN 1 (dm 3 MW)) (qS d x [(6,M i),(8,M j)]) [([],
   [],
   .to .normal (qS d x [(6,M i),(9,M 0)]))]
 :=dh.of C C C
theorem aqf(d:Dc)(i j:Nat)(x:eG):dn (U dY []) [(84,.split)] 0 Tryz.f4 [3,4,5,6,7,9] (dN 1 T5) (qS d x [(6,M i),(9,M j)]) [([((decide (Int.ofNat j<Int.ofNat d.ly.length)),true)],
   [],
   .to .normal (qS d x [(6,M i),(9,M j)])),
  ([((decide (Int.ofNat j<Int.ofNat d.ly.length)),false)],
   [],
   .to (.exit 4) (qS d x [(6,M i),(9,M j)]))]
 :=dh.of C C C
theorem aqg(d:Dc)(i j:Nat)(x y:eG):dn (U dY []) [(90,.dy (.dr y.ds))] 0 Tryz.f4 [3,4,5,6,7,9,10,11] (dN 2 aeB) (qS d x [(6,M i),(9,M j)]) [([],
   [((0:Int)<=Int.ofNat j/\Int.ofNat j<(Int.ofNat d.ly.length)),((eX d.ly).length=d.ly.length*31),(V.dr (dj (eX d.ly) (j*31) 31)=V.dr y.ds)],
   .to .normal (qS d x [(6,M i),(9,M j),(10,L y.id),(11,M 0)]))]
 :=dh.of C C C
theorem aqh(d:Dc)(i j k:Nat)(x:eG)(b:Int):dn (U (ZM d dY) []) [(95,.split),(101,.dy (.bool true))] 0 Tryz.f4 [3,4,5,6,7,9,10,11] (dN 1 Q8) (qS d x [(6,M i),(9,M j),(10,L b),(11,M k)])
  [([(decide (Int.ofNat k<Int.ofNat d.ly.length),true)],[d.v=d.v,V.bool (jS d (x.id) (b))=V.bool true],.to .normal (qS d x [(6,M i),(9,M j),(10,L b),(11,M k)])),
  ([(decide (Int.ofNat k<Int.ofNat d.ly.length),false)],[],.to (.exit 6) (qS d x [(6,M i),(9,M j),(10,L b),(11,M k)]))]:=dh.of C C C
theorem aqi(d:Dc)(i j k:Nat)(x:eG)(b:Int):dn (U (ZM d dY) []) [(95,.split),(101,.dy (.bool false))] 0 Tryz.f4 [3,4,5,6,7,9,10,11] (dN 1 Q8) (qS d x [(6,M i),(9,M j),(10,L b),(11,M k)])
  [([(decide (Int.ofNat k<Int.ofNat d.ly.length),true)],[d.v=d.v,V.bool (jS d (x.id) (b))=V.bool false],.to (.exit 6) (qS d x [(6,M i),(9,M j),(10,L b),(11,M k)])),
  ([(decide (Int.ofNat k<Int.ofNat d.ly.length),false)],[],.to (.exit 6) (qS d x [(6,M i),(9,M j),(10,L b),(11,M k)]))]:=dh.of C C C
theorem aqj(d:Dc)(i j k:Nat)(x z:eG)(b:Int):dn (U (ZM d dY) []) [(108,.dy (.dr z.ds)),(114,.split),(120,.dy (.bool true))] 0 Tryz.f4 [3,4,5,6,7,9,10,11] (dN 1 (dm 1 Q8)) (qS d x [(6,M i),(9,M j),(10,L b),(11,M k)])
  [([(jS d b z.id,true)],[(0:Int)<=Int.ofNat k/\Int.ofNat k<Int.ofNat d.ly.length,(eX d.ly).length=d.ly.length*31,V.dr (dj (eX d.ly) (k*31) 31)=V.dr z.ds,d.v=d.v,d.v=d.v,V.bool (jS d (x.id) (z.id))=V.bool true],.to .normal (qS d x [(6,M i),(9,M j),(10,L b),(11,M k)])),
  ([(jS d b z.id,false)],[(0:Int)<=Int.ofNat k/\Int.ofNat k<Int.ofNat d.ly.length,(eX d.ly).length=d.ly.length*31,V.dr (dj (eX d.ly) (k*31) 31)=V.dr z.ds,d.v=d.v],.to .normal (qS d x [(6,M i),(9,M j),(10,L b),(11,M k)]))]:=dh.of C C C
theorem aqk(d:Dc)(i j k:Nat)(x:eG)(b:Int):dn (U dY []) [(104,.dy (M (k+1)))] 0 Tryz.f4 [3,4,5,6,7,9,10,11] (dm 2 Q8) (qS d x [(6,M i),(9,M j),(10,L b),(11,M k)]) [([],
   [(V.int B (IntKind.i64.wrap (Int.ofNat k+(1:Int)))=M (k+1))],
   .to .normal (qS d x [(6,M i),(9,M j),(10,L b),(11,M (k+1))]))]
 :=dh.of C C C
theorem aql(d:Dc)(i j k:Nat)(x:eG)(b:Int):dn (U dY []) [(86,.dy (M (j+1)))] 0 Tryz.f4 [3,4,5,6,7,9] (dm 2 T5) (qS d x [(6,M i),(9,M j),(10,L b),(11,M k)]) [([],
   [(V.int B (IntKind.i64.wrap (Int.ofNat j+(1:Int)))=M (j+1))],
   .to .normal (qS d x [(6,M i),(9,M (j+1))]))]
 :=dh.of C C C
theorem aqm(d:Dc)(i j:Nat)(x:eG):dn (U dY []) [(23,.dy (M (i+1)))] 0 Tryz.f4 [3,4,5,6] (dm 2 T4) (qS d x [(6,M i),(9,M j)]) [([],
   [(V.int B (IntKind.i64.wrap (Int.ofNat i+(1:Int)))=M (i+1))],
   .to .normal (Rr d [(6,M (i+1))]))]
 :=dh.of C C C
theorem aqn(d:Dc)(i:Nat):dn (U dY []) [] 0 Tryz.f4 [] (dP (dm 4 Kz)) (Rr d [(6,M i)]) [([],
   [],
   .ret (.bool true) (W []) 0)]
 :=dh.of C C C
set_option maxRecDepth 10000
theorem YX{d:Dc}(h:jR d):(jf d).1=0:=by
 unfold jf;rw[aE h.w,gr (f:=JP d) fun j hj=>by unfold JP;rw[h.f _ (p9 hj)];rfl];simp only;rw[gr (f:=Be d) fun j hj=>by unfold Be;rw[h.k _ (p9 hj)];rfl];simp only;rw[gr (f:=zG d) fun j hj=>h.c _ (p9 hj)];simp only;rw[gr (f:=MB d) fun j hj=>h.a _ (p9 hj)];simp only;rw[aB (by have:=h.g;omega)]
theorem aqo(xs:List Int)(d:Dc):dn (U (eZ 34 [fg xs,M 8] d.v dY) []) [] 0 Tryz.f10 [] (dG Tryz.f10) (dw [fg xs] .nil 0)
  [([],[V.lE [fg xs,M 8]=[fg xs,M 8]],.ret d.v .nil 0)]:=dh.of C C C
theorem YY(xs:List Int):dS ak 10 [fg xs] (Au xs 8).v:=by
 have h:=XD xs 8 fa;generalize Au xs 8=d at *;exact eV Tryz.func10 (eI (fj h (dg _)) (aqo xs d) (dA (g0 ⟨eC rfl,_,_,_,rfl,rfl⟩)))
theorem YZ{d:Dc}(hd:JQ d)(hb:∀x∈d.ly,x.kd≠3->Kq x.f):eR ak (ZM d dY):=by
 refine fQ ⟨az C,fun args h' n s' v' R n2 e hA E w dF ra g hdm _=>?_⟩ (dg _);simp only at e;split at e
 case h_2=>cases e
 rename_i x a b;simp only[aq,aF]at e;obtain⟨rfl,rfl,rfl,rfl⟩:=e;have e1:x=d.v:=hA _ (by simp);subst e1;exact aeA hd hb a b E _ _ w dF ra g hdm
section
variable{d:Dc}(h:jR d)
include h
theorem Q9(a b:Int):jS d a b=true↔(∃n,kr d.ly a=some n)/\xb (fC d.ly true) a b:=by
 unfold jS okB;rw[show((jf d).1==0)=true by simpa using YX h,aN,ay,bA,ck,(jy d.ly true a).2]
theorem luT{xs:List Int}(hd:JQ d)(S:dS ak 10 [fg xs] d.v):TG ak 0 Tryz.f4.ntmps Kz (dw [fg xs] .nil 0) (fD ak 0 Tryz.f4 fun u _ _=>u= .bool true):=by
 have hU:=YZ hd h.bd;have zB:=h.big.2.1;have UK:=h.kids;have hu:=Q9 h;have D2:∀i,i<d.ly.length->∃n,kr d.ly (d.at i).id=some n:=fun i hi=>(h.ZL (p9 hi)).elim fun n hn=>⟨n,hn.1⟩;have f1:∀i,i<d.ly.length->jS d (d.at i).id (d.at i).id=false:=fun i hi=>by
  rw[Bool.eq_false_iff];exact fun q=>Q7 h _ ((hu _ _).1 q).2
 have f2:∀i,i<d.ly.length->(d.at i).id≠d.root->jS d d.root (d.at i).id=true:=fun i hi hr=>by
  refine(hu _ _).2 ⟨?_,Es h ((eW d.ly).length+1) _ (Nat.le_add_right _ _) (D2 i hi) hr⟩;have U9:=(rV h.w).2.2.2;unfold lV at U9;cases hn:kr d.ly d.root with
  |some n=>exact⟨n,rfl⟩
  |none=>rw[hn]at U9;cases U9
 have f3:∀i,i<d.ly.length->(d.at i).kd=4->jS d (d.at i).id (d.at i).of=true:=fun i hi h4=>by
  obtain⟨m,Dv,EI⟩:=h.ZL (p9 hi);exact(hu _ _).2 ⟨⟨m,Dv⟩,.one (Q5 Dv EI h4 true)⟩
 have f4:∀i,i<d.ly.length->∀j,j<(d.at i).kids.length->jS d (d.at i).id ((d.at i).kids.getD j 0)=true:=fun i hi j hj=>by
  obtain⟨m,Dv,EI⟩:=h.ZL (p9 hi);have Y:=Bl hj;have R:=(h.YT (p9 hi) Y).1;exact(hu _ _).2 ⟨⟨m,Dv⟩,.one (vo Dv EI G Y true)⟩
 have f5:∀a b c,jS d a b=true->jS d b c=true->jS d a c=true:=fun a b c Q R=>(hu _ _).2 ⟨((hu _ _).1 Q).1,((hu _ _).1 Q).2.trans ((hu _ _).1 R).2⟩;have hAA:∀i,i<d.ly.length->V.dr (dj (eX d.ly) (i*31) 31)= .dr (d.at i).ds:=fun i hi=>iq hi;have CU:∀i,i<d.ly.length->(d.at i).kids.length<=100:=fun i hi=>UK _ (p9 hi);clear hu D2 UK;refine fu 4 (fj S YW) (ap5 xs d) (eC rfl) ?_;refine dI C (dI C (gz (dg _) eH (ap6 d) (dA (g0 ⟨all_nil,fun A dU=>?_⟩))));simp only[andThen];refine iQ 0 d.ly.length (fun i=>Rr d [(6,M i)]) (fun _=>false) (dZ.norm dU) (fun i hi _ Q' k1 k2 k3=>?_) (fun _ A dU=>?_)
 rotate_left
 . simp only[andThen];exact dU _ _ (eI (dg _) (aqn d _) (dA (g0 ⟨all_nil,_,_,_,rfl,rfl⟩)))
 refine mE 1 (dg _) eH (ap7 d i) (dz (g1 fun h=>⟨all_nil,?_⟩) (dA (g1 fun h=>⟨all_nil,fun A dU=>k2 (by have:=tF h;omega) A (dZ.norm dU)⟩)));have q:=ko h;have g1':=f1 i q;have g2':=f2 i q;have g3':=f3 i q;have g4':=f4 i q;have hA:=hAA i q;have Y:=CU i q;generalize d.at i=x at *;refine dI C (fB (i:=1) C ?_);refine mE 1 (dg _) eH (ap8 d i x) (dA (g0 ⟨J (iM q) (J (fR _) (eC hA)),?_⟩))
 suffices nx:TG ak 0 Tryz.f4.ntmps (dm 2 MW) (qS d x [(6,M i)]) (gw 1 (andThen (fun A=>TG ak 0 Tryz.f4.ntmps (dm 2 T4) A Q') Q'))from
  mE 1 hU eH (ap9 d i x) (dz (g2 fun Q R=>⟨J rfl (J (aH V.bool g1') (J rfl (J (aH V.bool (g2' (by simpa using Q))) (J rfl (eC (aH V.bool (g3' (by simpa using R)))))))),nx⟩)
   (dz (g2 fun Q R=>⟨J rfl (J (aH V.bool g1') (J rfl (eC (aH V.bool (g2' (by simpa using Q)))))),nx⟩)
   (dz (g2 fun Q R=>⟨J rfl (J (aH V.bool g1') (J rfl (eC (aH V.bool (g3' (by simpa using R)))))),nx⟩)
   (dA (g2 fun Q R=>⟨J rfl (eC (aH V.bool g1')),nx⟩)))))
 refine dI C (dI C (gz (dg _) eH (aqa d i x) (dA (g0 ⟨all_nil,fun A dU=>?_⟩))));simp only[andThen];refine iQ 2 x.kids.length (fun j=>qS d x [(6,M i),(8,M j)]) (fun _=>false) (dZ.norm dU) (fun j hj _ Q2 m1 m2 m3=>?_) (fun _ A dU=>?_)
 . refine mE 1 (dg _) eH (aqb d i j x) (dz (g1 fun h=>⟨all_nil,?_⟩) (dA (g1 fun h=>⟨all_nil,fun A dU=>m2 (by have:=tF h;omega) A (dZ.norm dU)⟩)));have q2:=ko h;refine mE 1 hU eH (aqc d i j x (x.kids.getD j 0)) (dA (g0 ⟨J (iM q2) (J (ew _) (J (fJ q2) (J rfl (eC (aH V.bool (g4' j q2)))))),?_⟩));exact gz (dg _) eH (aqd d i j x) (dA (g0 ⟨eC (gJ G),fun A dU=>m1 q2 rfl A (dZ.norm dU)⟩))
 simp only[andThen];refine dU _ _ ?_;refine mE 1 (dg _) eH (aqe d i _ x) (dA (g0 ⟨all_nil,?_⟩));refine iQ 4 d.ly.length (fun j=>qS d x [(6,M i),(9,M j)]) (fun _=>false) .refl (fun j hj _ Q2 m1 m2 m3=>?_) (fun _ A dU=>?_)
 rotate_left
 . simp only[gw,andThen];exact dU _ _ (gz (dg _) eH (aqm d i _ x) (dA (g0 ⟨eC (gJ G),fun A dU=>k1 q rfl A (dZ.norm dU)⟩)))
 refine mE 1 (dg _) eH (aqf d i j x) (dz (g1 fun h=>⟨all_nil,?_⟩) (dA (g1 fun h=>⟨all_nil,fun A dU=>m2 (by have:=tF h;omega) A (dZ.norm dU)⟩)));have qj:=ko h;have hAj:=hAA j qj;generalize d.at j=y at *;refine dI C (fB (i:=5) C ?_);refine mE 2 (dg _) eH (aqg d i j x y) (dA (g0 ⟨J (iM qj) (J (fR _) (eC hAj)),?_⟩));have pJ:∀k A,dZ ak 0 Tryz.f4.ntmps A (qS d x [(6,M i),(9,M j),(10,L y.id),(11,M k)])->gw 5 (andThen (fun A=>TG ak 0 Tryz.f4.ntmps (dm 2 T5) A Q2) Q2) .normal A:=fun k A dU=>by
  simp only[gw,andThen];exact dU _ _ (gz (dg _) eH (aql d i j k x y.id) (dA (g0 ⟨eC (gJ G),fun A dU=>m1 qj rfl A (dZ.norm dU)⟩)))
 cases hxy:jS d x.id y.id with
 |false=>
  refine iQ 6 0 (fun k=>qS d x [(6,M i),(9,M j),(10,L y.id),(11,M k)]) (fun _=>false) .refl (fun k IJ _ Q3 n1 n2 n3=>?_) (fun _ A dU=>pJ 0 A dU);exact mE 1 hU eH (aqi d i j k x y.id) (dz (g1 fun h=>⟨J rfl (eC (aH V.bool hxy)),fun A dU=>n2 G A (dZ.norm dU)⟩) (dA (g1 fun h=>⟨all_nil,fun A dU=>n2 G A (dZ.norm dU)⟩)))
 |true=>
  refine iQ 6 d.ly.length (fun k=>qS d x [(6,M i),(9,M j),(10,L y.id),(11,M k)]) (fun _=>false) .refl (fun k IJ _ Q3 n1 n2 n3=>?_) (fun _ A dU=>pJ _ A dU);refine mE 1 hU eH (aqh d i j k x y.id) (dz (g1 fun h=>⟨J rfl (eC (aH V.bool hxy)),?_⟩) (dA (g1 fun h=>⟨all_nil,fun A dU=>n2 (by have:=tF h;omega) A (dZ.norm dU)⟩)));have qk:=ko h;have hAk:=hAA k qk;generalize d.at k=z at *;have nx2:TG ak 0 Tryz.f4.ntmps (dm 2 Q8) (qS d x [(6,M i),(9,M j),(10,L y.id),(11,M k)]) Q3:=gz (dg _) eH (aqk d i j k x y.id) (dA (g0 ⟨eC (gJ G),fun A dU=>n1 qk rfl A (dZ.norm dU)⟩));exact mE 1 hU eH (aqj d i j k x z y.id) (dz (g1 fun h=>⟨J (iM qk) (J (fR _) (J hAk (J rfl (J rfl (eC (aH V.bool (f5 _ _ _ hxy h))))))),nx2⟩) (dA (g1 fun h=>⟨J (iM qk) (J (fR _) (J hAk (eC rfl))),nx2⟩)))
end
theorem aeC(xs:List Int):TG ak 0 Tryz.f4.ntmps Kz (dw [fg xs] .nil 0) (fD ak 0 Tryz.f4 fun u _ _=>u= .bool true):=by
 obtain⟨Q,R⟩:=Qb xs 8;exact luT Q R.fs (YY xs)
end Go.Proofs.YtmjggdmekboefaaGreat
