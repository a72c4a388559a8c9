/- The Doc laws: the program's test of a layer's fields: contract. No conditions. -/
import Derived.Test.YtmjggdmekboefaaGreatJointW14
set_option linter.unusedVariables false
set_option linter.unusedSimpArgs false
set_option linter.unusedSectionVars false
namespace Go.Proofs.YtmjggdmekboefaaGreat
open Go Go.Eng
set_option maxRecDepth 10000
def mD(n:Int):Prop:= -9223372036854775808<=n/\n<=9223372036854775807
structure xX(f:FL):Prop where
 k:mD f.k
 r:mD f.r
 dv:mD f.dv
 vl:mD f.vl
theorem aa4:jM ak 63 (Go.Eng.dW LJ):=by
 refine Qp (aE dJ) fun ds hc v e hA=>?_;unfold LJ at e;split at e
 case h_2=>cases e
 rename_i k r n fh dv vl m cu;obtain⟨rfl,rfl⟩:=sm e;have e1:fh=eL (eN fh):=hA _ (by simp);have e2:n=(eN fh).length:=hA (n=(eN fh).length) (by simp);have e3:n<=1000000:=hA (n<=1000000) (by simp);have e4:cu=eL (eN cu):=hA (cu=eL (eN cu)) (by simp);have e5:m=(eN cu).length:=hA (m=(eN cu).length) (by simp);have e6:m<=1000000:=hA (m<=1000000) (by simp);generalize eN fh=l at *;generalize eN cu=q at *;subst e1 e2 e4 e5;exact Zk ⟨k,r,l,dv,vl,q⟩ (by show l.length<=_;omega) (by show q.length<=_;omega)
theorem DR:fo ak Wfb:=fq aa4 (be _)
theorem mW(n:Int)(h:mD n)(t u:aa):eU n++t=0::u↔n=0/\t=u:=by
 obtain⟨h1,C⟩:=h;have hz:eU 0=[0]:=by decide
 constructor
 . intro e;have hw:IntKind.u64.wrap n=if n<0 then n+18446744073709551616 else n:=by
    unfold IntKind.wrap;have e1:(2^IntKind.u64.bits:Int)=18446744073709551616:=by decide
    have e3:IntKind.u64.signed=false:=rfl;simp only[e1,e3,aT,aM,cI];split<;>omega
   have hu:IntKind.u64.wrap n=0:=by
    unfold eU at e;generalize IntKind.u64.wrap n=u at e hw;have hu0:0<=u/\u<18446744073709551616:=by rw[hw];split<;>omega
    by_cases c:128<=u
    . exfalso;have:uC 9 u=Dp u::uC 8 (u.fdiv 128):=by
       show(if 128<=u then _ else _)=_;rw[aF c]
      rw[this]at e;have e:UInt8.ofNat (Dp u).toNat::_=0::_:=e;injection e with e _;have hh:128<=(Dp u).toNat/\(Dp u).toNat<256:=by
       unfold Dp;generalize U:BitVec.ofInt 8 (IntKind.u8.wrap u)=b;have OS:BitVec.ofInt 8 (128:Int)=128#8:=by decide
       rw[OS];have h3:128<=(b|||128#8).toNat:=by
        have:∀b:BitVec 8,128<=(b|||128#8).toNat:=by decide
        exact this b
       have h4:=(b|||128#8).isLt;generalize (b|||128#8).toNat=z at h3 h4;unfold IntKind.wrap;have e1:(2^IntKind.u8.bits:Int)=256:=by decide
       have e3:IntKind.u8.signed=false:=rfl;simp only[e1,e3,aT,aM,cI,gD];omega
      have e2:=aG UInt8.toNat e;simp[UInt8.toNat_ofNat']at e2;omega
    . rw[Dq c]at e;have e:UInt8.ofNat (YH u).toNat::_=0::_:=e;injection e with e _;have e2:=aG UInt8.toNat e;unfold YH at e2;have hw8:IntKind.u8.wrap u=u:=by
       unfold IntKind.wrap;have e1:(2^IntKind.u8.bits:Int)=256:=by decide
       have e3:IntKind.u8.signed=false:=rfl;simp only[e1,e3,aT,aM,cI];omega
      rw[hw8]at e2;simp[UInt8.toNat_ofNat']at e2;omega
   have hn:n=0:=by rw[hw]at hu;split at hu<;>omega
   subst hn;rw[hz]at e;injection e with _ e;exact⟨rfl,e⟩
 . rintro⟨rfl,rfl⟩;rw[hz];rfl
section
variable(x:eV)(f:FuncId){fn:Func}(rest:ag)(m:Bool)(p:Int×Int)
theorem LK(a:Int)(l:List Int):gP (a::l)=eU a++gP l:=by unfold gP;simp
theorem tY(f:FL)(h:xX f)(h1:f.fh.length<=1000000)(C:f.cu.length<=1000000):mX (iw f) (iw uv)=tR f:=by
 have hz:iw uv=[0,0,0,0,0,0]:=by decide
 rw[kM,Bool.eq_iff_iff,ct,hz];have e:iw f=eU f.k++(eU f.r++(eU (Int.ofNat f.fh.length)++(gP f.fh++(eU f.dv++(eU f.vl++(eU (Int.ofNat f.cu.length)++gP f.cu)))))):=by
  unfold iw;simp only[LK,cC];have:gP []=[]:=rfl;rw[this,bG,bG]
 have b1:mD (Int.ofNat f.fh.length):=by unfold mD;simp only[gD];omega
 have b2:mD (Int.ofNat f.cu.length):=by unfold mD;simp only[gD];omega
 rw[e,mW _ h.k,mW _ h.r,mW _ b1];unfold tR nN;simp only[ay,ct];constructor
 . rintro⟨k1,k2,k3,k4⟩;have hk:f.fh=[]:=cN.2 (by simp only[gD]at k3;omega);rw[hk,show gP []=[]from rfl,bG,mW _ h.dv,mW _ h.vl]at k4;have h3:=(mW _ b2 (gP f.cu) []).1 (by rw[k4.2.2]);exact⟨k1,k2,k4.1,k4.2.1,k3,h3.1⟩
 . rintro⟨k1,k2,k3,k4,k5,k6⟩;have hk:f.fh=[]:=cN.2 (by simp only[gD]at k5;omega);have A:f.cu=[]:=cN.2 (by simp only[gD]at k6;omega);refine⟨k1,k2,k5,?_⟩;rw[hk,A,show gP []=[]from rfl,bG,mW _ h.dv,mW _ h.vl];exact⟨k3,k4,fg⟩
def VG(d:Dc)(O:List (Eng.D×Eng.D))(v:V):Prop:=Sa ak f (nG (Ju rest d O v))
def SC(d:Dc)(O:List (Eng.D×Eng.D))(p:Int×Int):Prop:=(p.1=0->lU f rest d O (.gK []))/\(p.1≠0->VG f rest d O (D6 p))
def agP:qb:=if p.1=0 then .ret (.gK [])else .nI (D6 p)
abbrev RX(fn:Func)(d:Dc)(O:List (Eng.D×Eng.D))(p:Int×Int):Exit->St->Prop:=DP ak 2 fn fun o b c=>o=agP p/\b=kT d O/\c=2
theorem Xs{f:FuncId}{fn:Func}{rest:ag}{d:Dc}{O:List (Eng.D×Eng.D)}{p:Int×Int}(hf:Tryz.prog.funcs[f]? =some fn)(hT:TG ak 2 fn.ntmps (dQ fn) (dI (pT::rest) (kT d O) 2) (RX fn d O p))
  (fj:Nat.blt f Tryz.prog.funcs.size=true:=by kernel_rfl) (U:fn.body=some (dQ fn):=by kernel_rfl) (l:(Nat.ble (pT::rest).length fn.ntmps&&Nat.blt fn.ntmps gO)=true:=by kernel_rfl):SC f rest d O p:=by
 have key:∀(v:V) (wr:V->qb),agP p=wr v->(∀args h k hc v' h' k',Ju rest d O v args h k=some (hc,v',h',k')->(∀a∈hc,a)->(Nat.ble args.length fn.ntmps&&Nat.blt fn.ntmps gO)=true/\TG ak k fn.ntmps (dQ fn) (dI args h k) (DP ak k fn fun a b c=>a=wr v'/\b=h'/\c=k')):=fun v wr hw args h k hc v' h' k' e hA=>by
  simp only[Ju,aq,aB]at e;obtain⟨rfl,rfl,rfl,rfl⟩:=e;have h1:args=pT::rest:=hA _ (by simp);have C:h=kT d O:=hA (h=kT d O) (by simp);have h3:k=2:=hA (k=2) (by simp);subst h1 C h3;exact⟨l,hw▸hT⟩
 refine⟨fun h=>?_,fun h=>?_⟩
 . exact Sd mo po .ret G3 (aE fj) hf U (key _ .ret (aF h))
 . exact Sd mo po .nI aaq (aE fj) hf U (key _ .nI (aD h))
theorem D8{dF:Bool->St}{β v:Bool}(h:β=v):ko.to .normal (dF v)=ko.to .normal (dF β):=by rw[h]
theorem pN{d:Dc}{O:List (Eng.D×Eng.D)}{p q:Int×Int}{s:St}{ch:List PanicEntry}(hp:BP (D6 q) ch)(e:Oy ak 2 fn s (.nI (D6 q) false)=some (.nI (D6 q),kT d O,2))(h:p=q)(h0:q.1≠0):RX fn d O p (.panic ch) s:=
 .DQ hp e ⟨by rw[h];exact(aD h0).symm,rfl,rfl⟩
def opB:Bool:=!(decide (x.op<0)||(decide (x.op>255)||(decide (x.md<0)||decide (x.md>15))))
def mkB:Bool:=m&&(x.L||nN x.ig.length)
theorem agQ:ba x m=!(opB x&&mkB x m):=by
 unfold ba opB mkB nN;have:decide (Int.ofNat x.ig.length>0)=!(Int.ofNat x.ig.length==(0:Int)):=by
  rw[Bool.eq_iff_iff];simp only[aU,bZ,cB,gD];omega
 rw[this];generalize decide (x.op<0)=a;generalize decide (x.op>255)=b;generalize decide (x.md<0)=c;generalize decide (x.md>15)=e;generalize (Int.ofNat x.ig.length==(0:Int))=f;generalize x.L=g;cases a<;>cases b<;>cases c<;>cases e<;>cases f<;>cases g<;>cases m<;>rfl
def u51:Bool:=nN x.kids.length&&((x.of==(0:Int))&&(GA x.fi&&nN x.gA.length))
theorem un1:HF (fF x 1)=(u51 x&&tR x.f):=by
 show GD 1 x=_;unfold GD u51;generalize JX x.pl=a;generalize (x.sp==(0:Int))=b;generalize nN x.gx.length=c;generalize nN x.kids.length=e;generalize (x.of==(0:Int))=f;generalize tR x.f=g;generalize nN x.gA.length=h;generalize GA x.fi=i;cases a<;>cases b<;>cases c<;>cases e<;>cases f<;>cases g<;>cases h<;>cases i<;>rfl
def u52:Bool:=JX x.pl&&((x.sp==(0:Int))&&(nN x.gx.length&&((x.of==(0:Int))&&(GA x.fi&&nN x.gA.length))))
theorem un2:HF (fF x 2)=(u52 x&&tR x.f):=by
 show GD 2 x=_;unfold GD u52;generalize JX x.pl=a;generalize (x.sp==(0:Int))=b;generalize nN x.gx.length=c;generalize nN x.kids.length=e;generalize (x.of==(0:Int))=f;generalize tR x.f=g;generalize nN x.gA.length=h;generalize GA x.fi=i;cases a<;>cases b<;>cases c<;>cases e<;>cases f<;>cases g<;>cases h<;>cases i<;>rfl
def u53:Bool:=JX x.pl&&((x.sp==(0:Int))&&(nN x.gx.length&&(nN x.kids.length&&((x.of==(0:Int))&&(GA x.fi&&nN x.gA.length)))))
theorem un3:HF (fF x 3)=u53 x:=by
 show GD 3 x=_;unfold GD u53;generalize JX x.pl=a;generalize (x.sp==(0:Int))=b;generalize nN x.gx.length=c;generalize nN x.kids.length=e;generalize (x.of==(0:Int))=f;generalize tR x.f=g;generalize nN x.gA.length=h;generalize GA x.fi=i;cases a<;>cases b<;>cases c<;>cases e<;>cases f<;>cases g<;>cases h<;>cases i<;>rfl
def u54:Bool:=(x.sp==(0:Int))&&(nN x.gx.length&&(nN x.kids.length&&(GA x.fi&&nN x.gA.length)))
theorem un4:HF (fF x 4)=(u54 x&&tR x.f):=by
 show GD 4 x=_;unfold GD u54;generalize JX x.pl=a;generalize (x.sp==(0:Int))=b;generalize nN x.gx.length=c;generalize nN x.kids.length=e;generalize (x.of==(0:Int))=f;generalize tR x.f=g;generalize nN x.gA.length=h;generalize GA x.fi=i;cases a<;>cases b<;>cases c<;>cases e<;>cases f<;>cases g<;>cases h<;>cases i<;>rfl
def u55:Bool:=JX x.pl&&((x.sp==(0:Int))&&(nN x.gx.length&&(nN x.kids.length&&(x.of==(0:Int)))))
theorem un5:HF (fF x 5)=(u55 x&&tR x.f):=by
 show GD 5 x=_;unfold GD u55;generalize JX x.pl=a;generalize (x.sp==(0:Int))=b;generalize nN x.gx.length=c;generalize nN x.kids.length=e;generalize (x.of==(0:Int))=f;generalize tR x.f=g;generalize nN x.gA.length=h;generalize GA x.fi=i;cases a<;>cases b<;>cases c<;>cases e<;>cases f<;>cases g<;>cases h<;>cases i<;>rfl
end
section
variable{d:Dc}{O:List (Eng.D×Eng.D)}{p:Int×Int}
noncomputable abbrev NF:Nat:=Tryz.f93.ntmps
theorem SD(x:eV)(hk:∀e,bs d.sp.length x=true->e=23->p=(e,x.id))(h:bs d.sp.length x=false->TG ak 2 NF (dH 13 gJ) (jY d O x []) (RX Tryz.f93 d O p)):TG ak 2 NF (dH 12 gJ) (jY d O x []) (RX Tryz.f93 d O p):=by
 refine kJ (rR (dO (dH 12 gJ))) (be _) (!bs d.sp.length x) (fun b=>jY d O x [(198,.bool b),(200,R x.id)]) 23 x.id [0,3] (jY d O x []) (asg d O x) ?_ (fun b=>by kernel_rfl) dJ (fun q=>h (by simpa using q)) (fun q ch hp=>pN hp dJ (hk 23 (by simpa using q) rfl) (show(23:Int)≠0 by decide))
 repeat' (first|exact ij|refine dN ?_ ?_)
 all_goals
  intro A;simp only[aA,aH,bq,aL,bn,aU,bu]at A;refine⟨all_nil,D8 (dF:=fun b=>jY d O x [(198,.bool b),(200,R x.id)]) ?_⟩;unfold bs
  first
  |(rw[aX S,aX S];rfl)
  |(rw[aX S,aW S];rfl)
  |(rw[aW S];rfl)
section
variable(x:eV)
noncomputable def b91:Bool:=cD (fK x.gx)
theorem bc1:bc (fF x 1) (cD (fK x.gx)) (iV x.f) (kf x.gA)=!b91 x:=by
 unfold b91;generalize cD (fK x.gx)=a;generalize iV x.f=b;generalize kf x.gA=c;cases a<;>cases b<;>cases c<;>rfl
theorem agR(hy:zC x)(hk:∀e,b91 x=false->e=1->p=(e,x.id))(h0:b91 x=true->p.1=0):TG ak 2 NF (dH 13 gJ) (jY d O (fF x 1) []) (RX Tryz.f93 d O p):=by
 refine JD (rR (dH 13 gJ)) (ff (v7 x.gx hy.gx) (be _)) (b91 x) (fun b=>jY d O (fF x 1) [(224,.bool b),(226,R x.id)]) 1 x.id (o1:=.ret (.gK [])) (h1:=kT d O) (n1:=2) (agu d O x (cD (fK x.gx))) ?_ (fun b=>by kernel_rfl) dJ (fun q=>⟨(aF (h0 q)).symm,rfl,rfl⟩) (fun q ch hp=>pN hp dJ (hk 1 q rfl) (show(1:Int)≠0 by decide))
 . repeat' (first|exact ij|refine dN ?_ ?_)
   all_goals
    intro A;simp only[aA,aH,bq,aL,bn]at A
    try exact absurd A.2 Bool.false_ne_true
   all_goals
    refine⟨by first|exact eO rfl|exact X rfl (eO rfl),D8 (dF:=fun b=>jY d O (fF x 1) [(224,.bool b),(226,R x.id)]) ?_⟩;unfold b91
    first
    |(rw[A,aP];done)
    |(rw[A,aT];done)
    |(rw[A];done)
    |(rw[A.1,A.2];done)
    |(rw[A.1,A.2];rfl)
    |(rw[A.1];rfl)
noncomputable def b92:Bool:=cD (fK x.gx)
theorem bc2:bc (fF x 2) (cD (fK x.gx)) (iV x.f) (kf x.gA)=!b92 x:=by
 unfold b92;generalize cD (fK x.gx)=a;generalize iV x.f=b;generalize kf x.gA=c;cases a<;>cases b<;>cases c<;>rfl
theorem agS(hy:zC x)(hk:∀e,b92 x=false->e=1->p=(e,x.id))(h0:b92 x=true->p.1=0):TG ak 2 NF (dH 13 gJ) (jY d O (fF x 2) []) (RX Tryz.f93 d O p):=by
 refine JD (rR (dH 13 gJ)) (ff (v7 x.gx hy.gx) (be _)) (b92 x) (fun b=>jY d O (fF x 2) [(224,.bool b),(226,R x.id)]) 1 x.id (o1:=.ret (.gK [])) (h1:=kT d O) (n1:=2) (agz d O x (cD (fK x.gx))) ?_ (fun b=>by kernel_rfl) dJ (fun q=>⟨(aF (h0 q)).symm,rfl,rfl⟩) (fun q ch hp=>pN hp dJ (hk 1 q rfl) (show(1:Int)≠0 by decide))
 . repeat' (first|exact ij|refine dN ?_ ?_)
   all_goals
    intro A;simp only[aA,aH,bq,aL,bn]at A
    try exact absurd A.2 Bool.false_ne_true
   all_goals
    refine⟨by first|exact eO rfl|exact X rfl (eO rfl),D8 (dF:=fun b=>jY d O (fF x 2) [(224,.bool b),(226,R x.id)]) ?_⟩;unfold b92
    first
    |(rw[A,aP];done)
    |(rw[A,aT];done)
    |(rw[A];done)
    |(rw[A.1,A.2];done)
    |(rw[A.1,A.2];rfl)
    |(rw[A.1];rfl)
noncomputable def b93:Bool:=cD (fK x.gx)&&iV x.f
theorem bc3:bc (fF x 3) (cD (fK x.gx)) (iV x.f) (kf x.gA)=!b93 x:=by
 unfold b93;generalize cD (fK x.gx)=a;generalize iV x.f=b;generalize kf x.gA=c;cases a<;>cases b<;>cases c<;>rfl
theorem agT(hy:zC x)(hk:∀e,b93 x=false->e=1->p=(e,x.id))(h0:b93 x=true->p.1=0):TG ak 2 NF (dH 13 gJ) (jY d O (fF x 3) []) (RX Tryz.f93 d O p):=by
 refine JD (rR (dH 13 gJ)) (ff (af7 x.f hy.fh (bN hy.cu fg)) (ff (v7 x.gx hy.gx) (be _))) (b93 x) (fun b=>jY d O (fF x 3) [(224,.bool b),(226,R x.id)]) 1 x.id (o1:=.ret (.gK [])) (h1:=kT d O) (n1:=2) (agE d O x (cD (fK x.gx)) (iV x.f)) ?_ (fun b=>by kernel_rfl) dJ (fun q=>⟨(aF (h0 q)).symm,rfl,rfl⟩) (fun q ch hp=>pN hp dJ (hk 1 q rfl) (show(1:Int)≠0 by decide))
 . repeat' (first|exact ij|refine dN ?_ ?_)
   all_goals
    intro A;simp only[aA,aH,bq,aL,bn]at A
    try exact absurd A.2 Bool.false_ne_true
   all_goals
    refine⟨by first|exact eO rfl|exact X rfl (eO rfl),D8 (dF:=fun b=>jY d O (fF x 3) [(224,.bool b),(226,R x.id)]) ?_⟩;unfold b93
    first
    |(rw[A,aP];done)
    |(rw[A,aT];done)
    |(rw[A];done)
    |(rw[A.1,A.2];done)
    |(rw[A.1,A.2];rfl)
    |(rw[A.1];rfl)
noncomputable def b94:Bool:=cD (fK x.gx)
theorem bc4:bc (fF x 4) (cD (fK x.gx)) (iV x.f) (kf x.gA)=!b94 x:=by
 unfold b94;generalize cD (fK x.gx)=a;generalize iV x.f=b;generalize kf x.gA=c;cases a<;>cases b<;>cases c<;>rfl
theorem agU(hy:zC x)(hk:∀e,b94 x=false->e=1->p=(e,x.id))(h0:b94 x=true->p.1=0):TG ak 2 NF (dH 13 gJ) (jY d O (fF x 4) []) (RX Tryz.f93 d O p):=by
 refine JD (rR (dH 13 gJ)) (ff (v7 x.gx hy.gx) (be _)) (b94 x) (fun b=>jY d O (fF x 4) [(224,.bool b),(226,R x.id)]) 1 x.id (o1:=.ret (.gK [])) (h1:=kT d O) (n1:=2) (agJ d O x (cD (fK x.gx))) ?_ (fun b=>by kernel_rfl) dJ (fun q=>⟨(aF (h0 q)).symm,rfl,rfl⟩) (fun q ch hp=>pN hp dJ (hk 1 q rfl) (show(1:Int)≠0 by decide))
 . repeat' (first|exact ij|refine dN ?_ ?_)
   all_goals
    intro A;simp only[aA,aH,bq,aL,bn]at A
    try exact absurd A.2 Bool.false_ne_true
   all_goals
    refine⟨by first|exact eO rfl|exact X rfl (eO rfl),D8 (dF:=fun b=>jY d O (fF x 4) [(224,.bool b),(226,R x.id)]) ?_⟩;unfold b94
    first
    |(rw[A,aP];done)
    |(rw[A,aT];done)
    |(rw[A];done)
    |(rw[A.1,A.2];done)
    |(rw[A.1,A.2];rfl)
    |(rw[A.1];rfl)
noncomputable def b95:Bool:=cD (fK x.gx)&&kf x.gA
theorem bc5:bc (fF x 5) (cD (fK x.gx)) (iV x.f) (kf x.gA)=!b95 x:=by
 unfold b95;generalize cD (fK x.gx)=a;generalize iV x.f=b;generalize kf x.gA=c;cases a<;>cases b<;>cases c<;>rfl
theorem agV(hy:zC x)(hk:∀e,b95 x=false->e=1->p=(e,x.id))(h0:b95 x=true->p.1=0):TG ak 2 NF (dH 13 gJ) (jY d O (fF x 5) []) (RX Tryz.f93 d O p):=by
 refine JD (rR (dH 13 gJ)) (ff (arn x.gA hy.gA) (ff (v7 x.gx hy.gx) (be _))) (b95 x) (fun b=>jY d O (fF x 5) [(224,.bool b),(226,R x.id)]) 1 x.id (o1:=.ret (.gK [])) (h1:=kT d O) (n1:=2) (agO d O x (cD (fK x.gx)) (kf x.gA)) ?_ (fun b=>by kernel_rfl) dJ (fun q=>⟨(aF (h0 q)).symm,rfl,rfl⟩) (fun q ch hp=>pN hp dJ (hk 1 q rfl) (show(1:Int)≠0 by decide))
 . repeat' (first|exact ij|refine dN ?_ ?_)
   all_goals
    intro A;simp only[aA,aH,bq,aL,bn]at A
    try exact absurd A.2 Bool.false_ne_true
   all_goals
    refine⟨by first|exact eO rfl|exact X rfl (eO rfl),D8 (dF:=fun b=>jY d O (fF x 5) [(224,.bool b),(226,R x.id)]) ?_⟩;unfold b95
    first
    |(rw[A,aP];done)
    |(rw[A,aT];done)
    |(rw[A];done)
    |(rw[A.1,A.2];done)
    |(rw[A.1,A.2];rfl)
    |(rw[A.1];rfl)
end
end
set_option maxRecDepth 10000
theorem zj(p:P7):(p.a==(0:Int)&&(p.b==(0:Int)&&(p.c==(0:Int)&&(p.d==(0:Int)&&(p.e==(0:Int)&&(p.f==(0:Int)&&(p.n==(0:Int)&&true)))))))=JX p:=rfl
theorem zk(p:C4):(p.r==(0:Int)&&(p.g==(0:Int)&&(p.b==(0:Int)&&(p.a==(0:Int)&&true))))=GA p:=rfl
section
variable{d:Dc}{O:List (Eng.D×Eng.D)}{p:Int×Int}
section
variable(x:eV)
theorem agW(hy:zC x)(U:xX x.f)(h:p=(if HF (fF x 1)=false then 41 else if bp (fF x 1) (Bn x.pl)=true then 44 else if bs d.sp.length (fF x 1)=true then 23 else if bc (fF x 1) (cD (fK x.gx)) (iV x.f) (kf x.gA)=true then 1 else 0,x.id)):TG ak 2 NF (dH 5 gJ) (jY d O (fF x 1) []) (RX Tryz.f93 d O p):=by
 rw[un1,bc1]at h;refine fN 4 (be _) (agq d O x) all_nil ?_;refine kJ (rR (dO (dH 9 gJ))) (be _) (u51 x) (fun b=>pM d O (fF x 1) true (Xp (fF x 1)) [(161,.bool b),(163,R x.id)]) 41 x.id [0,3,4,5] (pM d O (fF x 1) true (Xp (fF x 1)) []) (agr d O x) ?_ (fun b=>by kernel_rfl) dJ (fun q5=>?_) (fun q ch hp=>pN hp dJ (by rw[h,q];rfl) (show(41:Int)≠0 by decide))
 . repeat' (first|exact ij|refine dN ?_ ?_)
   all_goals
    intro A;simp only[aA,aH,bq,aL,bn,zj,zk]at A;refine⟨?_,D8 (dF:=(fun b=>pM d O (fF x 1) true (Xp (fF x 1)) [(161,.bool b),(163,R x.id)])) ?_⟩
    . repeat' (first|exact all_nil|refine X ?_ ?_)
      all_goals exact aG V.bool (by simp)
    . unfold u51 nN;simp only[A,aP,aT,cG,cJ]
 rw[q5]at h;have nx:tR x.f=true->TG ak 2 NF (dH 11 gJ) (wD d O (fF x 1) true []) (RX Tryz.f93 d O p):=fun q6=>by
  rw[q6]at h;refine kJ (rR (dO (dH 11 gJ))) (ff (afD x.pl) (be _)) (Bn x.pl) (fun b=>jY d O (fF x 1) [(181,.bool b),(183,R x.id)]) 44 x.id [0,3] (jY d O (fF x 1) []) (agt d O x (Bn x.pl)) (dK (g0 ⟨eO rfl,rfl⟩)) (fun b=>by kernel_rfl) dJ (fun q7=>?_) (fun q ch hp=>pN hp dJ (by rw[h];unfold bp;rw[q];rfl) (show(44:Int)≠0 by decide));have h7:bp (fF x 1) (Bn x.pl)=false:=by unfold bp;rw[q7];rfl
  rw[h7]at h;refine SD (fF x 1) (fun e q he=>?_) fun q9=>?_
  . rw[q]at h;rw[he];exact h
  . rw[q9]at h;refine agR x hy (fun e q he=>?_) fun q=>?_
    . rw[q]at h;rw[he];exact h
    . rw[q]at h;rw[h];rfl
 refine kJ (rR (dO (dH 10 gJ))) DR (tR x.f) (fun b=>wD d O (fF x 1) true [(171,.bool b),(173,R x.id)]) 41 x.id [0,3,5] (wD d O (fF x 1) true []) (ags d O x) ?_ (fun b=>by kernel_rfl) dJ nx (fun q ch hp=>pN hp dJ (by rw[h,q];rfl) (show(41:Int)≠0 by decide));have e1:eL x.f.fh=eL (eN (eL x.f.fh)):=by rw[fO]
 have e2:x.f.fh.length=(eN (eL x.f.fh)).length:=by rw[fO]
 have e3:eL x.f.cu=eL (eN (eL x.f.cu)):=by rw[fO]
 have e4:x.f.cu.length=(eN (eL x.f.cu)).length:=by rw[fO]
 have e5:mX (iw ⟨x.f.k,x.f.r,eN (eL x.f.fh),x.f.dv,x.f.vl,eN (eL x.f.cu)⟩) (iw ⟨0,0,eN [],0,0,eN []⟩)=tR x.f:=by
  rw[fO,fO];exact tY x.f U hy.fh hy.cu
 repeat' (first|exact ij|refine dN ?_ ?_)
 all_goals
  intro A;simp only[aA,aH,bq,aL,bn]at A;refine⟨?_,D8 (dF:=(fun b=>wD d O (fF x 1) true [(171,.bool b),(173,R x.id)])) (by rw[<- e5];exact A)⟩
  repeat' (first|exact all_nil|refine X ?_ ?_)
  all_goals first
   |exact e1
   |exact e2
   |exact e3
   |exact e4
   |exact hy.fh
   |exact hy.cu
   |rfl
   |exact aR _
theorem agX(hy:zC x)(U:xX x.f)(h:p=(if HF (fF x 2)=false then 41 else if bp (fF x 2) (Bn x.pl)=true then 44 else if bs d.sp.length (fF x 2)=true then 23 else if bc (fF x 2) (cD (fK x.gx)) (iV x.f) (kf x.gA)=true then 1 else 0,x.id)):TG ak 2 NF (dH 5 gJ) (jY d O (fF x 2) []) (RX Tryz.f93 d O p):=by
 rw[un2,bc2]at h;refine fN 4 (be _) (agv d O x) all_nil ?_;refine kJ (rR (dO (dH 9 gJ))) (be _) (u52 x) (fun b=>pM d O (fF x 2) false (OE (fF x 2)) [(161,.bool b),(163,R x.id)]) 41 x.id [0,3,4,5] (pM d O (fF x 2) false (OE (fF x 2)) []) (agw d O x) ?_ (fun b=>by kernel_rfl) dJ (fun q5=>?_) (fun q ch hp=>pN hp dJ (by rw[h,q];rfl) (show(41:Int)≠0 by decide))
 . repeat' (first|exact ij|refine dN ?_ ?_)
   all_goals
    intro A;simp only[aA,aH,bq,aL,bn,zj,zk]at A;refine⟨?_,D8 (dF:=(fun b=>pM d O (fF x 2) false (OE (fF x 2)) [(161,.bool b),(163,R x.id)])) ?_⟩
    . repeat' (first|exact all_nil|refine X ?_ ?_)
      all_goals exact aG V.bool (by simp)
    . unfold u52 nN;simp only[A,aP,aT,cG,cJ]
 rw[q5]at h;have nx:tR x.f=true->TG ak 2 NF (dH 11 gJ) (wD d O (fF x 2) false []) (RX Tryz.f93 d O p):=fun q6=>by
  rw[q6]at h;refine kJ (rR (dO (dH 11 gJ))) (be _) (true) (fun b=>jY d O (fF x 2) [(181,.bool b),(183,R x.id)]) 44 x.id [0,3] (jY d O (fF x 2) []) (agy d O x) (dK (g0 ⟨all_nil,rfl⟩)) (fun b=>by kernel_rfl) dJ (fun q7=>?_) (fun q ch hp=>absurd q fg);have h7:bp (fF x 2) (Bn x.pl)=false:=by unfold bp;rfl
  rw[h7]at h;refine SD (fF x 2) (fun e q he=>?_) fun q9=>?_
  . rw[q]at h;rw[he];exact h
  . rw[q9]at h;refine agS x hy (fun e q he=>?_) fun q=>?_
    . rw[q]at h;rw[he];exact h
    . rw[q]at h;rw[h];rfl
 refine kJ (rR (dO (dH 10 gJ))) DR (tR x.f) (fun b=>wD d O (fF x 2) false [(171,.bool b),(173,R x.id)]) 41 x.id [0,3,5] (wD d O (fF x 2) false []) (agx d O x) ?_ (fun b=>by kernel_rfl) dJ nx (fun q ch hp=>pN hp dJ (by rw[h,q];rfl) (show(41:Int)≠0 by decide));have e1:eL x.f.fh=eL (eN (eL x.f.fh)):=by rw[fO]
 have e2:x.f.fh.length=(eN (eL x.f.fh)).length:=by rw[fO]
 have e3:eL x.f.cu=eL (eN (eL x.f.cu)):=by rw[fO]
 have e4:x.f.cu.length=(eN (eL x.f.cu)).length:=by rw[fO]
 have e5:mX (iw ⟨x.f.k,x.f.r,eN (eL x.f.fh),x.f.dv,x.f.vl,eN (eL x.f.cu)⟩) (iw ⟨0,0,eN [],0,0,eN []⟩)=tR x.f:=by
  rw[fO,fO];exact tY x.f U hy.fh hy.cu
 repeat' (first|exact ij|refine dN ?_ ?_)
 all_goals
  intro A;simp only[aA,aH,bq,aL,bn]at A;refine⟨?_,D8 (dF:=(fun b=>wD d O (fF x 2) false [(171,.bool b),(173,R x.id)])) (by rw[<- e5];exact A)⟩
  repeat' (first|exact all_nil|refine X ?_ ?_)
  all_goals first
   |exact e1
   |exact e2
   |exact e3
   |exact e4
   |exact hy.fh
   |exact hy.cu
   |rfl
   |exact aR _
theorem agY(hy:zC x)(U:True)(h:p=(if HF (fF x 3)=false then 41 else if bp (fF x 3) (Bn x.pl)=true then 44 else if bs d.sp.length (fF x 3)=true then 23 else if bc (fF x 3) (cD (fK x.gx)) (iV x.f) (kf x.gA)=true then 1 else 0,x.id)):TG ak 2 NF (dH 5 gJ) (jY d O (fF x 3) []) (RX Tryz.f93 d O p):=by
 rw[un3,bc3]at h;refine fN 4 (be _) (agA d O x) all_nil ?_;refine kJ (rR (dO (dH 9 gJ))) (be _) (u53 x) (fun b=>pM d O (fF x 3) false (Xq (fF x 3)) [(161,.bool b),(163,R x.id)]) 41 x.id [0,3,4,5] (pM d O (fF x 3) false (Xq (fF x 3)) []) (agB d O x) ?_ (fun b=>by kernel_rfl) dJ (fun q5=>?_) (fun q ch hp=>pN hp dJ (by rw[h,q];rfl) (show(41:Int)≠0 by decide))
 . repeat' (first|exact ij|refine dN ?_ ?_)
   all_goals
    intro A;simp only[aA,aH,bq,aL,bn,zj,zk]at A;refine⟨?_,D8 (dF:=(fun b=>pM d O (fF x 3) false (Xq (fF x 3)) [(161,.bool b),(163,R x.id)])) ?_⟩
    . repeat' (first|exact all_nil|refine X ?_ ?_)
      all_goals exact aG V.bool (by simp)
    . unfold u53 nN;simp only[A,aP,aT,cG,cJ]
 rw[q5]at h;have nx:true=true->TG ak 2 NF (dH 11 gJ) (wD d O (fF x 3) false []) (RX Tryz.f93 d O p):=fun q6=>by
  skip
  refine kJ (rR (dO (dH 11 gJ))) (be _) (true) (fun b=>jY d O (fF x 3) [(181,.bool b),(183,R x.id)]) 44 x.id [0,3] (jY d O (fF x 3) []) (agD d O x) (dK (g0 ⟨all_nil,rfl⟩)) (fun b=>by kernel_rfl) dJ (fun q7=>?_) (fun q ch hp=>absurd q fg);have h7:bp (fF x 3) (Bn x.pl)=false:=by unfold bp;rfl
  rw[h7]at h;refine SD (fF x 3) (fun e q he=>?_) fun q9=>?_
  . rw[q]at h;rw[he];exact h
  . rw[q9]at h;refine agT x hy (fun e q he=>?_) fun q=>?_
    . rw[q]at h;rw[he];exact h
    . rw[q]at h;rw[h];rfl
 refine kJ (rR (dO (dH 10 gJ))) DR true (fun b=>wD d O (fF x 3) false [(171,.bool b),(173,R x.id)]) 41 x.id [0,3,5] (wD d O (fF x 3) false []) (agC d O x) (dK (g0 ⟨?_,rfl⟩)) (fun b=>by kernel_rfl) dJ (fun q=>nx q) (fun q ch hp=>absurd q fg);have e1:eL x.f.fh=eL (eN (eL x.f.fh)):=by rw[fO]
 have e2:x.f.fh.length=(eN (eL x.f.fh)).length:=by rw[fO]
 have e3:eL x.f.cu=eL (eN (eL x.f.cu)):=by rw[fO]
 have e4:x.f.cu.length=(eN (eL x.f.cu)).length:=by rw[fO]
 repeat' (first|exact all_nil|refine X ?_ ?_)
 all_goals first
  |exact e1
  |exact e2
  |exact e3
  |exact e4
  |exact hy.fh
  |exact hy.cu
  |exact aG V.bool (by rw[kM];exact beq_self_eq_true _)
theorem agZ(hy:zC x)(U:xX x.f)(h:p=(if HF (fF x 4)=false then 41 else if bp (fF x 4) (Bn x.pl)=true then 44 else if bs d.sp.length (fF x 4)=true then 23 else if bc (fF x 4) (cD (fK x.gx)) (iV x.f) (kf x.gA)=true then 1 else 0,x.id)):TG ak 2 NF (dH 5 gJ) (jY d O (fF x 4) []) (RX Tryz.f93 d O p):=by
 rw[un4,bc4]at h;refine fN 4 (be _) (agF d O x) all_nil ?_;refine kJ (rR (dO (dH 9 gJ))) (be _) (u54 x) (fun b=>pM d O (fF x 4) true (O3 (fF x 4)) [(161,.bool b),(163,R x.id)]) 41 x.id [0,3,4,5] (pM d O (fF x 4) true (O3 (fF x 4)) []) (agG d O x) ?_ (fun b=>by kernel_rfl) dJ (fun q5=>?_) (fun q ch hp=>pN hp dJ (by rw[h,q];rfl) (show(41:Int)≠0 by decide))
 . repeat' (first|exact ij|refine dN ?_ ?_)
   all_goals
    intro A;simp only[aA,aH,bq,aL,bn,zj,zk]at A;refine⟨?_,D8 (dF:=(fun b=>pM d O (fF x 4) true (O3 (fF x 4)) [(161,.bool b),(163,R x.id)])) ?_⟩
    . repeat' (first|exact all_nil|refine X ?_ ?_)
      all_goals exact aG V.bool (by simp)
    . unfold u54 nN;simp only[A,aP,aT,cG,cJ]
 rw[q5]at h;have nx:tR x.f=true->TG ak 2 NF (dH 11 gJ) (wD d O (fF x 4) true []) (RX Tryz.f93 d O p):=fun q6=>by
  rw[q6]at h;refine kJ (rR (dO (dH 11 gJ))) (ff (afD x.pl) (be _)) (Bn x.pl) (fun b=>jY d O (fF x 4) [(181,.bool b),(183,R x.id)]) 44 x.id [0,3] (jY d O (fF x 4) []) (agI d O x (Bn x.pl)) (dK (g0 ⟨eO rfl,rfl⟩)) (fun b=>by kernel_rfl) dJ (fun q7=>?_) (fun q ch hp=>pN hp dJ (by rw[h];unfold bp;rw[q];rfl) (show(44:Int)≠0 by decide));have h7:bp (fF x 4) (Bn x.pl)=false:=by unfold bp;rw[q7];rfl
  rw[h7]at h;refine SD (fF x 4) (fun e q he=>?_) fun q9=>?_
  . rw[q]at h;rw[he];exact h
  . rw[q9]at h;refine agU x hy (fun e q he=>?_) fun q=>?_
    . rw[q]at h;rw[he];exact h
    . rw[q]at h;rw[h];rfl
 refine kJ (rR (dO (dH 10 gJ))) DR (tR x.f) (fun b=>wD d O (fF x 4) true [(171,.bool b),(173,R x.id)]) 41 x.id [0,3,5] (wD d O (fF x 4) true []) (agH d O x) ?_ (fun b=>by kernel_rfl) dJ nx (fun q ch hp=>pN hp dJ (by rw[h,q];rfl) (show(41:Int)≠0 by decide));have e1:eL x.f.fh=eL (eN (eL x.f.fh)):=by rw[fO]
 have e2:x.f.fh.length=(eN (eL x.f.fh)).length:=by rw[fO]
 have e3:eL x.f.cu=eL (eN (eL x.f.cu)):=by rw[fO]
 have e4:x.f.cu.length=(eN (eL x.f.cu)).length:=by rw[fO]
 have e5:mX (iw ⟨x.f.k,x.f.r,eN (eL x.f.fh),x.f.dv,x.f.vl,eN (eL x.f.cu)⟩) (iw ⟨0,0,eN [],0,0,eN []⟩)=tR x.f:=by
  rw[fO,fO];exact tY x.f U hy.fh hy.cu
 repeat' (first|exact ij|refine dN ?_ ?_)
 all_goals
  intro A;simp only[aA,aH,bq,aL,bn]at A;refine⟨?_,D8 (dF:=(fun b=>wD d O (fF x 4) true [(171,.bool b),(173,R x.id)])) (by rw[<- e5];exact A)⟩
  repeat' (first|exact all_nil|refine X ?_ ?_)
  all_goals first
   |exact e1
   |exact e2
   |exact e3
   |exact e4
   |exact hy.fh
   |exact hy.cu
   |rfl
   |exact aR _
theorem ag0(hy:zC x)(U:xX x.f)(h:p=(if HF (fF x 5)=false then 41 else if bp (fF x 5) (Bn x.pl)=true then 44 else if bs d.sp.length (fF x 5)=true then 23 else if bc (fF x 5) (cD (fK x.gx)) (iV x.f) (kf x.gA)=true then 1 else 0,x.id)):TG ak 2 NF (dH 5 gJ) (jY d O (fF x 5) []) (RX Tryz.f93 d O p):=by
 rw[un5,bc5]at h;refine fN 4 (be _) (agK d O x) all_nil ?_;refine kJ (rR (dO (dH 9 gJ))) (be _) (u55 x) (fun b=>pM d O (fF x 5) false (Xr (fF x 5)) [(161,.bool b),(163,R x.id)]) 41 x.id [0,3,4,5] (pM d O (fF x 5) false (Xr (fF x 5)) []) (agL d O x) ?_ (fun b=>by kernel_rfl) dJ (fun q5=>?_) (fun q ch hp=>pN hp dJ (by rw[h,q];rfl) (show(41:Int)≠0 by decide))
 . repeat' (first|exact ij|refine dN ?_ ?_)
   all_goals
    intro A;simp only[aA,aH,bq,aL,bn,zj,zk]at A;refine⟨?_,D8 (dF:=(fun b=>pM d O (fF x 5) false (Xr (fF x 5)) [(161,.bool b),(163,R x.id)])) ?_⟩
    . repeat' (first|exact all_nil|refine X ?_ ?_)
      all_goals exact aG V.bool (by simp)
    . unfold u55 nN;simp only[A,aP,aT,cG,cJ]
 rw[q5]at h;have nx:tR x.f=true->TG ak 2 NF (dH 11 gJ) (wD d O (fF x 5) false []) (RX Tryz.f93 d O p):=fun q6=>by
  rw[q6]at h;refine kJ (rR (dO (dH 11 gJ))) (be _) (true) (fun b=>jY d O (fF x 5) [(181,.bool b),(183,R x.id)]) 44 x.id [0,3] (jY d O (fF x 5) []) (agN d O x) (dK (g0 ⟨all_nil,rfl⟩)) (fun b=>by kernel_rfl) dJ (fun q7=>?_) (fun q ch hp=>absurd q fg);have h7:bp (fF x 5) (Bn x.pl)=false:=by unfold bp;rfl
  rw[h7]at h;refine SD (fF x 5) (fun e q he=>?_) fun q9=>?_
  . rw[q]at h;rw[he];exact h
  . rw[q9]at h;refine agV x hy (fun e q he=>?_) fun q=>?_
    . rw[q]at h;rw[he];exact h
    . rw[q]at h;rw[h];rfl
 refine kJ (rR (dO (dH 10 gJ))) DR (tR x.f) (fun b=>wD d O (fF x 5) false [(171,.bool b),(173,R x.id)]) 41 x.id [0,3,5] (wD d O (fF x 5) false []) (agM d O x) ?_ (fun b=>by kernel_rfl) dJ nx (fun q ch hp=>pN hp dJ (by rw[h,q];rfl) (show(41:Int)≠0 by decide));have e1:eL x.f.fh=eL (eN (eL x.f.fh)):=by rw[fO]
 have e2:x.f.fh.length=(eN (eL x.f.fh)).length:=by rw[fO]
 have e3:eL x.f.cu=eL (eN (eL x.f.cu)):=by rw[fO]
 have e4:x.f.cu.length=(eN (eL x.f.cu)).length:=by rw[fO]
 have e5:mX (iw ⟨x.f.k,x.f.r,eN (eL x.f.fh),x.f.dv,x.f.vl,eN (eL x.f.cu)⟩) (iw ⟨0,0,eN [],0,0,eN []⟩)=tR x.f:=by
  rw[fO,fO];exact tY x.f U hy.fh hy.cu
 repeat' (first|exact ij|refine dN ?_ ?_)
 all_goals
  intro A;simp only[aA,aH,bq,aL,bn]at A;refine⟨?_,D8 (dF:=(fun b=>wD d O (fF x 5) false [(171,.bool b),(173,R x.id)])) (by rw[<- e5];exact A)⟩
  repeat' (first|exact all_nil|refine X ?_ ?_)
  all_goals first
   |exact e1
   |exact e2
   |exact e3
   |exact e4
   |exact hy.fh
   |exact hy.cu
   |rfl
   |exact aR _
theorem aa5(hy:zC x)(U:x.kd≠3->xX x.f):TG ak 2 NF gJ (dI [pT,x.v] (kT d O) 2) (RX Tryz.f93 d O (wB d.sp.length x,x.id)):=by
 have h0:wB d.sp.length x=if bk x=true then 41 else if qY x.nm=false then 72 else if ba x (cD (fK x.ig))=true then 1 else if HF x=false then 41 else if bp x (Bn x.pl)=true then 44 else if bs d.sp.length x=true then 23 else if bc x (cD (fK x.gx)) (iV x.f) (kf x.gA)=true then 1 else 0:=rfl
 generalize wB d.sp.length x=e at *;refine fN 1 (be _) (asb d O x) all_nil ?_;refine kJ (rR (dO (dH 1 gJ))) (be _) (!bk x) (fun b=>jY d O x [(13,.bool b),(15,R x.id)]) 41 x.id [0,3] (jY d O x []) (asc d O x) ?_ (fun b=>by kernel_rfl) dJ (fun q1=>?_) (fun q ch hp=>pN hp dJ (by rw[h0,aF (by simpa using q)]) (show(41:Int)≠0 by decide))
 . repeat' (first|exact ij|refine dN ?_ ?_)
   all_goals
    intro A;simp only[aA,aH,bq,aL,bn,aU,bu]at A;refine⟨all_nil,D8 (dF:=(fun b=>jY d O x [(13,.bool b),(15,R x.id)])) ?_⟩;unfold bk
    first
    |(rw[aX S,aX S];rfl)
    |(rw[aX S,aW S];rfl)
    |(rw[aW S];rfl)
 have q1:bk x=false:=by simpa using q1
 rw[aD (by rw[q1];decide)]at h0;refine kJ (rR (dO (dH 2 gJ))) (ff (VF x.nm) (be _)) (qY x.nm) (fun b=>jY d O x [(19,.bool b),(21,R x.id)]) 72 x.id [0,3] (jY d O x []) (asd d O x (qY x.nm)) (dK (g0 ⟨eO rfl,rfl⟩)) (fun b=>by kernel_rfl) dJ (fun q2=>?_) (fun q ch hp=>pN hp dJ (by rw[h0,aF q]) (show(72:Int)≠0 by decide));rw[aD (by rw[q2];decide),agQ]at h0;refine kJ (rR (dO (dH 3 gJ))) (be _) (opB x) (fun b=>jY d O x [(40,.bool b),(42,R x.id)]) 1 x.id [0,3] (jY d O x []) (ase d O x) ?_ (fun b=>by kernel_rfl) dJ (fun q3=>?_) (fun q ch hp=>pN hp dJ (by rw[h0,aF (by rw[q];rfl)]) (show(1:Int)≠0 by decide))
 . repeat' (first|exact ij|refine dN ?_ ?_)
   all_goals
    intro A;simp only[aA,aH,bq,aL,bn,aU,bu]at A;refine⟨all_nil,D8 (dF:=(fun b=>jY d O x [(40,.bool b),(42,R x.id)])) ?_⟩;unfold opB
    first
    |(rw[aX S,aX S,aX S,aX S];rfl)
    |(rw[aX S,aX S,aX S,aW S];rfl)
    |(rw[aX S,aX S,aW S];rfl)
    |(rw[aX S,aW S];rfl)
    |(rw[aW S];rfl)
 refine kJ (rR (dO (dH 4 gJ))) (ff (v7 x.ig hy.ig) (be _)) (mkB x (cD (fK x.ig))) (fun b=>jY d O x [(57,.bool b),(59,R x.id)]) 1 x.id [0,3] (jY d O x []) (asf d O x (cD (fK x.ig))) ?_ (fun b=>by kernel_rfl) dJ (fun q4=>?_) (fun q ch hp=>pN hp dJ (by rw[h0,aF (by rw[q,cJ];rfl)]) (show(1:Int)≠0 by decide))
 . repeat' (first|exact ij|refine dN ?_ ?_)
   all_goals
    intro A;simp only[aA,aH,bq,aL,bn]at A;refine⟨eO rfl,D8 (dF:=(fun b=>jY d O x [(57,.bool b),(59,R x.id)])) ?_⟩;unfold mkB nN;simp only[A,aP,aT,bY,bX]
 rw[aD (by rw[q3,q4];decide)]at h0;have hk:x.kd=1\/x.kd=2\/x.kd=3\/x.kd=4\/x.kd=5:=by
  unfold bk at q1;rw[cM,bu,bu]at q1;omega
 have DC:∀k,x.kd=k->x=fF x k:=fun k h=>by obtain⟨a,b⟩:=x;simp only at h;subst h;rfl
 rcases hk with h|h|h|h|h
 . have ex:=DC 1 h;have:=agW (d:=d) (O:=O) (p:=(e,x.id)) x hy (U S) (by rw[<- ex];exact aG (fun z=>(z,x.id)) h0);rw[<- ex]at this;exact this
 . have ex:=DC 2 h;have:=agX (d:=d) (O:=O) (p:=(e,x.id)) x hy (U S) (by rw[<- ex];exact aG (fun z=>(z,x.id)) h0);rw[<- ex]at this;exact this
 . have ex:=DC 3 h;have:=agY (d:=d) (O:=O) (p:=(e,x.id)) x hy trivial (by rw[<- ex];exact aG (fun z=>(z,x.id)) h0);rw[<- ex]at this;exact this
 . have ex:=DC 4 h;have:=agZ (d:=d) (O:=O) (p:=(e,x.id)) x hy (U S) (by rw[<- ex];exact aG (fun z=>(z,x.id)) h0);rw[<- ex]at this;exact this
 . have ex:=DC 5 h;have:=ag0 (d:=d) (O:=O) (p:=(e,x.id)) x hy (U S) (by rw[<- ex];exact aG (fun z=>(z,x.id)) h0);rw[<- ex]at this;exact this
end
end
theorem JL(d:Dc)(O:List (Eng.D×Eng.D))(x:eV)(hy:zC x)(U:x.kd≠3->xX x.f):SC 93 [x.v] d O (wB d.sp.length x,x.id):=Xs Tryz.func93 (aa5 x hy U)
set_option maxRecDepth 10000
noncomputable abbrev OF:Code:=dQ Tryz.f94
noncomputable abbrev aa6:Code:=dO (dH 1 OF)
noncomputable abbrev aa7:Code:=dP (dP (eB aa6))
noncomputable abbrev ag1:Code:=dP (dO (dH 2 aa7))
noncomputable abbrev ash:Code:=dP (dP (dH 2 ag1))
noncomputable abbrev aa8:Code:=dO (dH 2 OF)
noncomputable abbrev VH:Code:=dP (dP (eB aa8))
noncomputable abbrev OG:Code:=dP (dO (dH 2 VH))
noncomputable abbrev ag2:Code:=dO (dH 1 OG)
noncomputable abbrev aa9:Code:=dP (dP (eB ag2))
noncomputable abbrev aba:Code:=dP (dO (dH 2 aa9))
noncomputable abbrev VI:Code:=dP (dP (dH 4 OF))
noncomputable abbrev JM:Code:=dP (dO (dH 2 VI))
def hLq(d:Dc)(O cn:List (Eng.D×Eng.D))(q:af):I es:=hL ([(0,.cells (d.cs++[.map (some 1)])),(1,.gL (some .i64) O),(2,.gL (some .i64) cn)]++q)
def wE(d:Dc)(O cn:List (Eng.D×Eng.D))(r:List (Nat×V)):St:=fI ([(0,pT),(2,.map (some 2))]++r) (hLq d O cn []) 3
def D9(d:Dc)(O cn:List (Eng.D×Eng.D))(x:eV)(r:List (Nat×V)):St:=fI ([(0,pT),(2,.map (some 2)),(8,.ptr (some (3,0)))]++r) (hLq d O cn [(3,.cells x.cs)]) 4
def HJ(d:Dc)(O:List (Eng.D×Eng.D))(r:List (Nat×V)):St:=fI ([(0,pT)]++r) (kT d O) 2
def sLt(d:Dc)(O:List (Eng.D×Eng.D))(x:eV)(r:List (Nat×V)):St:=fI ([(0,pT),(15,.ptr (some (2,0)))]++r) (hL [(0,.cells (d.cs++[.map (some 1)])),(1,.gL (some .i64) O),(2,.cells x.cs)]) 3
def sLv(d:Dc)(O:List (Eng.D×Eng.D))(x:eV)(u:ag)(r:List (Nat×V)):St:=fI ([(0,pT),(15,.ptr (some (2,0))),(16,.ptr (some (3,0)))]++r) (hL [(0,.cells (d.cs++[.map (some 1)])),(1,.gL (some .i64) O),(2,.cells x.cs),(3,.cells u)]) 4
abbrev kG(d:Dc)(a b c:Nat)(i:Nat):List (Nat×V):=[(a,.eM false d.ly.length (fR d.ly)),(b,J d.ly.length),(c,J i)]
abbrev EB(x:eV)(a b c:Nat)(j:Nat):List (Nat×V):=[(a,fD x.kids),(b,J x.kids.length),(c,J j)]
abbrev Hg(k c:Int)(cn:List (Eng.D×Eng.D)):List (Eng.D×Eng.D):=nS (.int .i64 k) (.int .i64 c) cn
theorem asi(d:Dc)(O:List (Eng.D×Eng.D)):H (M ew []) [] 2 Tryz.f94 [0,2] (ek 1 OF) (dI [pT] (kT d O) 2) [([],[],eC (fI [(0,pT),(2,.map (some 2))] (hL [(0,.cells (d.cs++[.map (some 1)])),(1,.gL (some .i64) O),(2,.map [] 0)]) 3))]:=G.Y
theorem asj(d:Dc)(O cn:List (Eng.D×Eng.D)):H (M ew []) [] 2 Tryz.f94 [0,2,23,24,25] (dO aa6) (wE d O cn []) [([],[],eC (wE d O cn (kG d 23 24 25 0)))]:=G.Y
theorem asl(d:Dc)(O cn:List (Eng.D×Eng.D))(i:Nat):H (M ew []) [(26,.split)] 2 Tryz.f94 [0,2,23,24,25] (ek 2 aa7) (wE d O cn (kG d 23 24 25 i)) (fV (decide (Int.ofNat i<Int.ofNat d.ly.length)) ([],eC (wE d O cn (kG d 23 24 25 i))) ([],.to (.exit 0) (wE d O cn (kG d 23 24 25 i)))):=G.Y
theorem asm(d:Dc)(O cn:List (Eng.D×Eng.D))(i:Nat)(x:eV):H (M ew []) [(27,.dL (.eo x.ds))] 2 Tryz.f94 [0,2,23,24,25,30,31,32] (ek 2 ag1) (wE d O cn (kG d 23 24 25 i)) [([],[fT i d.ly.length,nK d.ly,gv (fR d.ly) i 31 x.ds],eC (wE d O cn (kG d 23 24 25 i++EB x 30 31 32 0)))]:=G.Y
theorem asn(d:Dc)(O cn:List (Eng.D×Eng.D))(i j:Nat)(x:eV)(k c c2:Int):H (M ew []) [(33,.split),(34,.dL (.eo [.int .i64 k])),(38,.dL (R c)),(39,.dL (R c2)),(40,.dL (J (j+1)))] 2 Tryz.f94 [0,2,23,24,25,30,31,32] (ash) (wE d O cn (kG d 23 24 25 i++EB x 30 31 32 j)) (fV (decide (Int.ofNat j<Int.ofNat x.kids.length)) ([fT j x.kids.length,jo x.kids,gv (eL x.kids) j 1 [D.int B k],(if false=true then V.gK [D.kV (V.int B (0:Int)) (fL (D.int B k) cn),V.bool (fL (D.int B k) cn).isSome]else D.kV (V.int B (0:Int)) (fL (D.int B k) cn))=R c,V.int B (IntKind.i64.wrap (c+(1:Int)))=R c2,oq j],eC (wE d O (Hg k c2 cn) (kG d 23 24 25 i++EB x 30 31 32 (j+1)))) ([],.to (.exit 2) (wE d O cn (kG d 23 24 25 i++EB x 30 31 32 j)))):=G.Y
theorem aso(d:Dc)(O cn:List (Eng.D×Eng.D))(i j:Nat)(x:eV):H (M ew []) [(41,.dL (J (i+1)))] 2 Tryz.f94 [0,2,23,24,25] (dH 3 aa7) (wE d O cn (kG d 23 24 25 i++EB x 30 31 32 j)) [([],[oq i],eC (wE d O cn (kG d 23 24 25 (i+1))))]:=G.Y
theorem asp(d:Dc)(O cn:List (Eng.D×Eng.D)):H (M ew []) [] 2 Tryz.f94 [0,2,46,47,48] (dO aa8) (wE d O cn []) [([],[],eC (wE d O cn (kG d 46 47 48 0)))]:=G.Y
theorem asq(d:Dc)(O cn:List (Eng.D×Eng.D))(i:Nat):H (M ew []) [(49,.split)] 2 Tryz.f94 [0,2,46,47,48] (ek 2 VH) (wE d O cn (kG d 46 47 48 i)) (fV (decide (Int.ofNat i<Int.ofNat d.ly.length)) ([],eC (wE d O cn (kG d 46 47 48 i))) ([],.to (.exit 4) (wE d O cn (kG d 46 47 48 i)))):=G.Y
theorem ass(d:Dc)(O cn:List (Eng.D×Eng.D))(i:Nat)(x:eV):H (M ew []) [(50,.dL (.eo x.ds))] 2 Tryz.f94 [0,2,8,46,47,48] (ek 1 OG) (wE d O cn (kG d 46 47 48 i)) [([],[fT i d.ly.length,nK d.ly,gv (fR d.ly) i 31 x.ds],eC (D9 d O cn x (kG d 46 47 48 i)))]:=G.Y
theorem ast(d:Dc)(O cn:List (Eng.D×Eng.D))(i:Nat)(x:eV):H (M ew []) [] 2 Tryz.f94 [0,2,8,46,47,48,53,54,55] (dO ag2) (D9 d O cn x (kG d 46 47 48 i)) [([],[],eC (D9 d O cn x (kG d 46 47 48 i++EB x 53 54 55 0)))]:=G.Y
theorem asu(d:Dc)(O cn:List (Eng.D×Eng.D))(i j:Nat)(x:eV):H (M ew []) [(56,.split)] 2 Tryz.f94 [0,2,8,46,47,48,53,54,55] (ek 2 aa9) (D9 d O cn x (kG d 46 47 48 i++EB x 53 54 55 j)) (fV (decide (Int.ofNat j<Int.ofNat x.kids.length)) ([],eC (D9 d O cn x (kG d 46 47 48 i++EB x 53 54 55 j))) ([],.to (.exit 6) (D9 d O cn x (kG d 46 47 48 i++EB x 53 54 55 j)))):=G.Y
theorem asv(d:Dc)(O cn:List (Eng.D×Eng.D))(i j:Nat)(x:eV)(k n:Int)(b:Bool):H (M ew []) [(57,.dL (.eo [.int .i64 k])),(65,.dL (.gK [R n,.bool b]))] 2 Tryz.f94 [0,2,8,46,47,48,53,54,55,12] (ek 2 aba) (D9 d O cn x (kG d 46 47 48 i++EB x 53 54 55 j)) [([],[fT j x.kids.length,jo x.kids,gv (eL x.kids) j 1 [D.int B k],(if true=true then V.gK [D.kV (V.int B (0:Int)) (fL (D.int B k) O),V.bool (fL (D.int B k) O).isSome]else D.kV (V.int B (0:Int)) (fL (D.int B k) O))=V.gK [R n,V.bool b]],eC (D9 d O cn x (kG d 46 47 48 i++EB x 53 54 55 j++[(12,.bool b)])))]:=G.Y
theorem asw(d:Dc)(O cn:List (Eng.D×Eng.D))(i j:Nat)(x:eV)(b:Bool):H (M ew []) [] 2 Tryz.f94 [0,2,8,46,47,48,53,54,55,68,70] (kS (dH 2 aba)) (D9 d O cn x (kG d 46 47 48 i++EB x 53 54 55 j++[(12,.bool b)])) [([],[],eC (D9 d O cn x (kG d 46 47 48 i++EB x 53 54 55 j++[(68,.bool b),(70,R x.id)])))]:=G.Y
theorem asx(d:Dc)(O cn:List (Eng.D×Eng.D))(i j:Nat)(x:eV):H (M ew []) [(72,.dL (J (j+1)))] 2 Tryz.f94 [0,2,8,46,47,48,53,54,55] (dH 3 aa9) (D9 d O cn x (kG d 46 47 48 i++EB x 53 54 55 j)) [([],[oq j],eC (D9 d O cn x (kG d 46 47 48 i++EB x 53 54 55 (j+1))))]:=G.Y
theorem asy(d:Dc)(O cn:List (Eng.D×Eng.D))(i j:Nat)(x:eV):H (M ew []) [(80,.split)] 2 Tryz.f94 [0,2,8,13,46,47,48] (ek 2 (dH 2 OG)) (D9 d O cn x (kG d 46 47 48 i++EB x 53 54 55 j)) (fV (x.id==d.root) ([],eC (D9 d O cn x ((13,R 0)::kG d 46 47 48 i))) ([],eC (D9 d O cn x ((13,R 1)::kG d 46 47 48 i)))):=G.Y
theorem asz(d:Dc)(O cn:List (Eng.D×Eng.D))(i:Nat)(x:eV)(w c:Int):H (M ew []) [(84,.dL (R c))] 2 Tryz.f94 [0,2,8,46,47,48,86,88] (kS (dH 4 OG)) (D9 d O cn x ((13,R w)::kG d 46 47 48 i)) [([],[(if false=true then V.gK [D.kV (V.int B (0:Int)) (fL (D.int B x.id) cn),V.bool (fL (D.int B x.id) cn).isSome]else D.kV (V.int B (0:Int)) (fL (D.int B x.id) cn))=R c],eC (D9 d O cn x (kG d 46 47 48 i++[(86,.bool (c==w)),(88,R x.id)])))]:=G.Y
theorem asA(d:Dc)(O cn:List (Eng.D×Eng.D))(i:Nat):H (M ew []) [(90,.dL (J (i+1)))] 2 Tryz.f94 [0,2,46,47,48] (dH 3 VH) (wE d O cn (kG d 46 47 48 i)) [([],[oq i],eC (wE d O cn (kG d 46 47 48 (i+1))))]:=G.Y
theorem asB(d:Dc)(O cn:List (Eng.D×Eng.D))(i:Nat):H (M ew []) [] 2 Tryz.f94 [0,95,96,97] (ek 1 (dH 3 OF)) (wE d O cn []) [([],[],eC (HJ d O (kG d 95 96 97 0)))]:=G.Y
theorem asC(d:Dc)(O:List (Eng.D×Eng.D))(i:Nat):H (M ew []) [(98,.split)] 2 Tryz.f94 [0,95,96,97] (ek 2 VI) (HJ d O (kG d 95 96 97 i)) (fV (decide (Int.ofNat i<Int.ofNat d.ly.length)) ([],eC (HJ d O (kG d 95 96 97 i))) ([],.to (.exit 8) (HJ d O (kG d 95 96 97 i)))):=G.Y
theorem asD(d:Dc)(O:List (Eng.D×Eng.D))(i:Nat)(x:eV):H (M ew []) [(99,.dL (.eo x.ds)),(103,.split)] 2 Tryz.f94 [0,15,95,96,97,103] (ek 2 JM) (HJ d O (kG d 95 96 97 i)) (fV (x.kd==(4:Int)) ([fT i d.ly.length,nK d.ly,gv (fR d.ly) i 31 x.ds],eC (sLt d O x (kG d 95 96 97 i++[(103,.bool true)]))) ([fT i d.ly.length,nK d.ly,gv (fR d.ly) i 31 x.ds],eC (sLt d O x (kG d 95 96 97 i++[(103,.bool false)])))):=G.Y
theorem asE(d:Dc)(O:List (Eng.D×Eng.D))(i:Nat)(x y:eV):H (M (o6 44 [R x.of] d O (.gK [y.v,.bool true]) ew) []) [] 2 Tryz.f94 [0,15,16,17,95,96,97] (ek 1 (l9 (dH 2 JM))) (sLt d O x (kG d 95 96 97 i++[(103,.bool true)])) [([],[[V.ptr (some (0,0)),V.int B x.of]=[pT,R x.of],(I.nil.set 0 (some (es.cells [V.eM false d.sp.length (lj d.sp),V.int B d.root,V.int B d.nx,V.eM false d.ly.length (fR d.ly),V.map (some 1)]))).set 1 (some (es.gL (some B) O))=kT d O,2=2],eC (sLv d O x y.cs (kG d 95 96 97 i++[(17,.bool true)])))]:=G.Y
theorem asF(d:Dc)(O:List (Eng.D×Eng.D))(i:Nat)(x:eV):H (M (o6 44 [R x.of] d O (.gK [Jv,.bool false]) ew) []) [] 2 Tryz.f94 [0,15,16,17,95,96,97] (ek 1 (l9 (dH 2 JM))) (sLt d O x (kG d 95 96 97 i++[(103,.bool true)])) [([],[[V.ptr (some (0,0)),V.int B x.of]=[pT,R x.of],(I.nil.set 0 (some (es.cells [V.eM false d.sp.length (lj d.sp),V.int B d.root,V.int B d.nx,V.eM false d.ly.length (fR d.ly),V.map (some 1)]))).set 1 (some (es.gL (some B) O))=kT d O,2=2],eC (sLv d O x (OW 0 0 z7 0) (kG d 95 96 97 i++[(17,.bool false)])))]:=G.Y
theorem asG(d:Dc)(O:List (Eng.D×Eng.D))(i:Nat)(x y:eV):H (M ew []) [(115,.split)] 2 Tryz.f94 [0,95,96,97,116,118] (kS (dH 1 (l9 (dH 2 JM)))) (sLv d O x y.cs (kG d 95 96 97 i++[(17,.bool true)])) (fV (y.kd !=(3:Int)) ([],eC (HJ d O (kG d 95 96 97 i++[(116,.bool true),(118,R x.id)]))) ([],eC (HJ d O (kG d 95 96 97 i++[(116,.bool false),(118,R x.id)])))):=G.Y
theorem asH(d:Dc)(O:List (Eng.D×Eng.D))(i:Nat)(x:eV):H (M ew []) [] 2 Tryz.f94 [0,95,96,97,116,118] (kS (dH 1 (l9 (dH 2 JM)))) (sLv d O x (OW 0 0 z7 0) (kG d 95 96 97 i++[(17,.bool false)])) [([],[],eC (HJ d O (kG d 95 96 97 i++[(116,.bool false),(118,R x.id)])))]:=G.Y
theorem asI(d:Dc)(O:List (Eng.D×Eng.D))(i:Nat)(x:eV):H (M ew []) [] 2 Tryz.f94 [0,95,96,97] (pc (dH 2 JM)) (sLt d O x (kG d 95 96 97 i++[(103,.bool false)])) [([],[],eC (HJ d O (kG d 95 96 97 i)))]:=G.Y
theorem asJ(d:Dc)(O:List (Eng.D×Eng.D))(i:Nat):H (M ew []) [(120,.dL (J (i+1)))] 2 Tryz.f94 [0,95,96,97] (dH 3 VI) (HJ d O (kG d 95 96 97 i)) [([],[oq i],eC (HJ d O (kG d 95 96 97 (i+1))))]:=G.Y
set_option maxRecDepth 10000
section
variable{N n0:Nat}{c:Code}{s:St}{Q:Exit->St->Prop}{ks:gG}{hh:List (Nat×List (Nat×mH))}{dG:List (Nat×mH)}{fn:Func}{live:List Nat}{dD:List (List (Bool×Bool)×ah×ko)}
theorem jm(k:Nat)(fm:fo ak ks)(iX:V->I es->Nat->Prop)(hr:H (M ks hh) dG N fn live (ek k c) s dD)(h:∀g∈dD,(∀b∈g.1,b.1=b.2)->(∀a∈g.2.1,a)/\SqQ ak N n0 fn live iX (dH k c) Q g.2.2)(A:fe n0 c=true:=by kernel_rfl):TG ak N n0 c s Q:=by
 obtain⟨hm,hr⟩:=hr;obtain⟨e1,e2,e3⟩:=hr.parts;obtain⟨l,hl⟩:=bR.1 e1;unfold wq yI at e2;unfold BI at e3;rw[hl]at e2 e3;simp only[wO]at e2 e3;obtain⟨⟨p,hp,ho⟩,C⟩:=kI ak (XH fm hh).cs (XH fm hh).cf dG (XH fm hh).snd 1000 (ek k c) s l hl;obtain⟨hA,hT⟩:=h (p.1.conds,p.1.P2,qB ak N fn live p.2) (e3▸oo hp) ho;have gF:=C p hp ho ⟨tG l e2 p hp,hA⟩;obtain⟨pp,x,T⟩:=p;simp only[qB]at hT;cases x with
 |normal=>
  simp only at hT;split at hT
  . rename_i s2 rP;exact yJ (fr:=1000) (XH fm hh).ok mo k A gF (gj rP hT)
  . exact hT.elim
 |ret=>
  simp only at hT;split at hT
  . rename_i v h' n' Kg;exact qU (fr:=1000) (XH fm hh).ok mo A (Ao k c s _ T gF (by intro q;cases q)) rfl (hT.2 T ⟨.inr rfl,v,h',n',Kg,hT.1⟩)
  . exact hT.elim
 |exit i=>
  simp only at hT;split at hT
  . rename_i s2 rP;exact qU (fr:=1000) (XH fm hh).ok mo A (Ao k c s _ T gF (by intro q;cases q)) rfl (hT T rP)
  . exact hT.elim
 |panic _=>exact hT.elim
end
def HK(cn:Sn)(k:Int):Int:=match fL (.int .i64 k) cn with
 |some (.int .i64 n)=>n
 |_=>0
def LL(cn:Sn):Prop:=∀k v,fL (.int .i64 k) cn=some v->∃n,v= .int .i64 n
def Hh(cn:Sn)(W:List Int):Sn:=W.foldl (fun c k=>Hg k (HK c k+1) c) cn
def LM(ls:List eV):Sn:=Hh [] (lD ls)
theorem VJ(k y c:Int)(cn:Sn):HK (Hg y c cn) k=if k=y then c else HK cn k:=by
 unfold HK Hg;rw[sQ];by_cases q:k=y
 . rw[aF q,aF q]
 . rw[aD q,aD q]
theorem SE{cn:Sn}(h:LL cn)(y c:Int):LL (Hg y c cn):=fun k v e=>by
 unfold Hg at e;rw[sQ]at e;split at e
 . exact⟨c,(dB e).symm⟩
 . exact h k v e
theorem Hi:∀(W:List Int) (cn:Sn),LL cn->LL (Hh cn W)/\∀k,HK (Hh cn W) k=HK cn k+(W.count k:Int)
 | [],cn,h=>⟨h,fun k=>by rw[List.count_nil];simp[Hh]⟩
 |y::W,cn,h=>by
  obtain⟨h1,C⟩:=Hi W (Hg y (HK cn y+1) cn) (SE h _ _);refine⟨h1,fun k=>?_⟩;have e:Hh cn (y::W)=Hh (Hg y (HK cn y+1) cn) W:=rfl;rw[e,C,VJ,List.count_cons];by_cases q:k=y
  . subst q;simp;omega
  . rw[aD q];have:(y==k)=false:=by simpa using fun e=>q e.symm
    rw[this];simp
theorem asK:LL []:=fun _ _ e=>by cases e
theorem Hj(ls:List eV):LL (LM ls)/\∀k,HK (LM ls) k=(mB ls k:Int):=by
 obtain⟨h1,C⟩:=Hi (lD ls) [] asK;refine⟨h1,fun k=>?_⟩;have:=C k;rw[yZ];have e:HK [] k=0:=rfl;rw[e,Int.zero_add]at this;exact this
theorem MX{cn:Sn}(h:LL cn)(k:Int):(if false=true then V.gK [D.kV (V.int B (0:Int)) (fL (D.int B k) cn),V.bool (fL (D.int B k) cn).isSome]else D.kV (V.int B (0:Int)) (fL (D.int B k) cn))=R (HK cn k):=by
 unfold HK;cases e:fL (.int .i64 k) cn with
 |none=>rfl
 |some v=>
  obtain⟨n,rfl⟩:=h k v e;rfl
theorem LN{ls:List eV}{i:Nat}(h:i<ls.length):lD (ls.take (i+1))=lD (ls.take i)++(ls.getD i gM).kids:=by
 unfold lD;rw[cz,getD_some gM h,Option.toList_some,bL,List.flatten_append];simp
theorem MY(cn:Sn)(a b:List Int):Hh cn (a++b)=Hh (Hh cn a) b:=by unfold Hh;rw[List.foldl_append]
theorem SF(cn:Sn){W:List Int}{j:Nat}(h:j<W.length):Hh cn (W.take (j+1))=Hg (W.getD j 0) (HK (Hh cn (W.take j)) (W.getD j 0)+1) (Hh cn (W.take j)):=by
 rw[cz,getD_some 0 h,Option.toList_some,MY];rfl
theorem VK{d:Dc}{i:Nat}(h:i<d.ly.length):LM (d.ly.take (i+1))=Hh (LM (d.ly.take i)) (d.at i).kids:=by
 unfold LM;rw[LN h,MY];rfl
def pg(d:Dc):Int×Int:=match l8 (B8 d) d.ly.length with
 |some i=>(40,(d.at i).id)
 |none=>match l8 (AE d) d.ly.length with
  |some i=>(40,(d.at i).id)
  |none=>(0,0)
section
variable{d:Dc}{O:Sn}
noncomputable abbrev NL:Nat:=Tryz.f94.ntmps
theorem ag4(hd:D5 d)(h40:d.ly.length<=1000){Q:Exit->St->Prop}(hQ:∀T,eJ ak 2 NL T (wE d O (LM d.ly) [])->Q .normal T):TG ak 2 NL aa6 (wE d O [] []) Q:=by
 have Ay:=hd.ly;refine dY dJ (gw (be _) eP (asj d O []) (dK (g0 ⟨all_nil,fun T eu=>?_⟩)));simp only[andThen];refine je 0 d.ly.length (fun i=>wE d O (LM (d.ly.take i)) (kG d 23 24 25 i)) (fun _=>false) (eJ.norm eu) (fun i hi hj Q' k1 k2 k3=>?_) (fun h1 T eu=>hQ T ?_)
 . refine jm 2 (be _) eP (asl d O _ i) (dN (g1 fun h=>⟨all_nil,?_⟩) (dK (g1 fun h=>⟨all_nil,fun T eu=>k2 (by have:=rG h;omega) T (eJ.norm eu)⟩)));have q:=kA h;have hA:V.eo (dU (fR d.ly) (i*31) 31)= .eo (d.at i).ds:=ik q;have hk:=hd.at q;change (d.at i).kids.length<=1000000 at hk;have Dt:=VK q;have hbd:∀k,0<=HK (LM (d.ly.take i)) k/\HK (LM (d.ly.take i)) k<=1000000000:=fun k=>by
    rw[(Hj _).2];have:=GG (d.ly.take i) k fun l hl=>hd.kids l (cK hl);rw[bf]at this;have:mB (d.ly.take i) k<=1000*1000000:=bN this (cV _ S);omega
   have hI:=(Hj (d.ly.take i)).1;generalize LM (d.ly.take i)=cn at *;generalize d.at i=x at *;refine dY dJ (fJ (i:=1) dJ ?_);refine jm 2 (be _) eP (asm d O cn i x) (dK (g0 ⟨X (iI q) (X (fS _) (eO hA)),?_⟩));refine je 2 x.kids.length (fun j=>wE d O (Hh cn (x.kids.take j)) (kG d 23 24 25 i++EB x 30 31 32 j)) (fun _=>false) .refl (fun j hj hjj Q2 m1 m2 m3=>?_) (fun h1 T eu=>?_)
   . have hI2:=(Hi (x.kids.take j) cn hI).1;have Yj:=(Hi (x.kids.take j) cn hI).2 (x.kids.getD j 0);have vN:(x.kids.take j).count (x.kids.getD j 0)<=1000000:=bN List.count_le_length (by rw[bf];omega);have OS:=hbd (x.kids.getD j 0);refine gw (be _) eP (asn d O (Hh cn (x.kids.take j)) i j x (x.kids.getD j 0) (HK (Hh cn (x.kids.take j)) (x.kids.getD j 0)) (HK (Hh cn (x.kids.take j)) (x.kids.getD j 0)+1)) (dN (g1 fun h=>?_) (dK (g1 fun h=>⟨all_nil,fun T eu=>m2 (by have:=rG h;omega) T (eJ.norm eu)⟩)));have q2:=kA h;refine⟨X (iI q2) (X (eI _) (X (fP q2) (X (MX hI2 _) (X (aG (V.int .i64) (iz ?_ ?_)) (eO (gV S)))))),fun T eu=>m1 q2 rfl T ?_⟩
     . omega
     . omega
     . show eJ _ _ _ _ (wE d O (Hh cn (x.kids.take (j+1))) (kG d 23 24 25 i++EB x 30 31 32 (j+1)));rw[SF cn q2];exact eJ.norm eu
   . simp only[gT,andThen];rw[br]at eu;refine eu _ _ (gw (be _) eP (aso d O _ i _ x) (dK (g0 ⟨eO (gV S),fun T eu=>k1 q rfl T ?_⟩)));show eJ _ _ _ _ (wE d O (LM (d.ly.take (i+1))) (kG d 23 24 25 (i+1)));rw[Dt];exact eJ.norm eu
 . rw[br]at eu;refine eu.trans ?_;exact .norm (live:=[0,2]) dJ
theorem abb{i:Nat}(hi:i<d.ly.length)(h:B8 d i=true)(hj:∀j,j<i->B8 d j=false):pg d=(40,(d.at i).id):=by
 unfold pg;rw[jH hi h hj]
theorem abc{i:Nat}(hi:i<d.ly.length)(C:∀j,j<d.ly.length->B8 d j=false)(h:AE d i=true)(hj:∀j,j<i->AE d j=false):pg d=(40,(d.at i).id):=by
 unfold pg;rw[gW C];simp only;rw[jH hi h hj]
theorem ag5(K:uF d O)(hd:D5 d)(h40:d.ly.length<=1000){Q:Exit->St->Prop}(hp:∀ch T,RX Tryz.f94 d O (pg d) (.panic ch) T->Q (.panic ch) T)(hQ:(∀j,j<d.ly.length->B8 d j=false)->∀T,kF 2 NL T (wE d O (LM d.ly) [])->Q .normal T):TG ak 2 NL aa8 (wE d O (LM d.ly) []) Q:=by
 have Ay:=hd.ly;have hI:=(Hj d.ly).1;have hC:=(Hj d.ly).2;generalize LM d.ly=cn at *;refine dY dJ (gw (be _) eP (asp d O cn) (dK (g0 ⟨all_nil,fun T eu=>?_⟩)));simp only[andThen];refine vB 4 d.ly.length (fun i=>wE d O cn (kG d 46 47 48 i)) (B8 d) (kF.norm eu) (fun i hi hj Q' k1 k2 k3=>?_) (fun h1 T eu=>hQ h1 T (eu.trans (kF.norm (hm:=[0,2]) dJ)));refine jm 2 (be _) eP (asq d O cn i) (dN (g1 fun h=>⟨all_nil,?_⟩) (dK (g1 fun h=>⟨all_nil,fun T eu=>k2 (by have:=rG h;omega) T (kF.norm eu)⟩)));have q:=kA h;have hA:V.eo (dU (fR d.ly) (i*31) 31)= .eo (d.at i).ds:=ik q;have hk:=hd.at q;change (d.at i).kids.length<=1000000 at hk;have ht:B8 d i=!rJ d (d.at i):=rfl;have vC:B8 d i=true->pg d=(40,(d.at i).id):=fun h=>abb q h hj;generalize d.at i=x at *;refine dY dJ (fJ (i:=5) dJ ?_);refine jm 1 (be _) eP (ass d O cn i x) (dK (g0 ⟨X (iI q) (X (fS _) (eO hA)),?_⟩));refine dY dJ ?_;refine dY dJ (gw (be _) eP (ast d O cn i x) (dK (g0 ⟨all_nil,fun T eu=>?_⟩)));simp only[andThen];refine vB 6 x.kids.length (fun j=>D9 d O cn x (kG d 46 47 48 i++EB x 53 54 55 j)) (fun j=>(jq d.ly (x.kids.getD j 0)).isNone) (kF.norm eu) (fun j hj hjj Q2 m1 m2 m3=>?_) (fun h1 T eu=>?_)
 . refine jm 2 (be _) eP (asu d O cn i j x) (dN (g1 fun h=>⟨all_nil,?_⟩) (dK (g1 fun h=>⟨all_nil,fun T eu=>m2 (by have:=rG h;omega) T (kF.norm eu)⟩)));have q2:=kA h;refine dY dJ (fJ (i:=7) dJ ?_);have hlk:∃n,(if true=true then V.gK [D.kV (V.int B (0:Int)) (fL (D.int B (x.kids.getD j 0)) O),V.bool (fL (D.int B (x.kids.getD j 0)) O).isSome]else D.kV (V.int B (0:Int)) (fL (D.int B (x.kids.getD j 0)) O))= .gK [R n,.bool (jq d.ly (x.kids.getD j 0)).isSome]:=by
    rw[K (x.kids.getD j 0)];cases jq d.ly (x.kids.getD j 0)with
    |none=>exact⟨0,rfl⟩
    |some n=>exact⟨Int.ofNat n,rfl⟩
   obtain⟨n,hn⟩:=hlk;refine jm 2 (be _) eP (asv d O cn i j x (x.kids.getD j 0) n (jq d.ly (x.kids.getD j 0)).isSome) (dK (g0 ⟨X (iI q2) (X (eI _) (X (fP q2) (eO hn))),?_⟩));refine Oz (rR (dH 2 aba)) (be _) (jq d.ly (x.kids.getD j 0)).isSome (fun b=>D9 d O cn x (kG d 46 47 48 i++EB x 53 54 55 j++[(68,.bool b),(70,R x.id)])) 40 x.id [0,2,8,46,47,48,53,54,55] (D9 d O cn x (kG d 46 47 48 i++EB x 53 54 55 j)) (asw d O cn i j x _) (dK (g0 ⟨all_nil,rfl⟩)) (fun b=>by kernel_rfl) dJ (fun U T eu=>?_) (fun U ch Hl=>?_)
   . simp only[gT,andThen];refine eu.xC _ _ (gw (be _) eP (asx d O cn i j x) (dK (g0 ⟨eO (gV S),fun T eu=>m1 q2 ?_ T (kF.norm eu)⟩)));show(jq d.ly (x.kids.getD j 0)).isNone=false;rw[<- Option.not_isSome,U];rfl
   . refine m3 ch _ (k3 ch _ (hp ch _ (pN Hl dJ (vC ?_) (show(40:Int)≠0 by decide))));rw[ht];unfold rJ;rw[Fm (d:=0) q2 (by rw[<- Option.not_isSome,U];rfl)];rfl
 . simp only[gT,andThen];refine eu.xC _ _ ?_;have ag6:rJ d x=(((x.id==d.root)&&(Int.ofNat (mB d.ly x.id)==(0:Int)))||((x.id !=d.root)&&(Int.ofNat (mB d.ly x.id)==(1:Int)))):=by unfold rJ;rw[Jd (d:=0) h1];rfl
   have oc:∀w,(Int.ofNat (mB d.ly x.id)==w)=rJ d x->TG ak 2 NL (dH 4 OG) (D9 d O cn x ((13,R w)::kG d 46 47 48 i)) (gT 5 (andThen (fun T=>TG ak 2 NL (dH 3 VH) T Q') Q')):=fun w hw=>by
    have PF:HK cn x.id=Int.ofNat (mB d.ly x.id):=hC x.id;refine Oz (rR (dH 4 OG)) (be _) (Int.ofNat (mB d.ly x.id)==w) (fun b=>D9 d O cn x (kG d 46 47 48 i++[(86,.bool b),(88,R x.id)])) 40 x.id [0,2,46,47,48] (wE d O cn (kG d 46 47 48 i)) (asz d O cn i x w (Int.ofNat (mB d.ly x.id))) (dK (g0 ⟨eO (by rw[MX hI,PF]),rfl⟩)) (fun b=>by kernel_rfl) dJ (fun U T eu=>?_) (fun U ch Hl=>?_)
    . simp only[gT,andThen];exact eu.xC _ _ (gw (be _) eP (asA d O cn i) (dK (g0 ⟨eO (gV S),fun T eu=>k1 q (by rw[ht,<- hw,U];rfl) T (kF.norm eu)⟩)))
    . exact k3 ch _ (hp ch _ (pN Hl dJ (vC (by rw[ht,<- hw,U];rfl)) (show(40:Int)≠0 by decide)))
   refine jm 2 (be _) eP (asy d O cn i _ x) (dN (g1 fun h=>⟨all_nil,oc 0 ?_⟩) (dK (g1 fun h=>⟨all_nil,oc 1 ?_⟩)))
   . rw[ag6,h];unfold bne;rw[h];simp
   . rw[ag6,h];unfold bne;rw[h];simp
theorem T9{fn:Func}{p:Int×Int}{s:St}(e:Oy ak 2 fn s .ret=some (.ret (.gK []),kT d O,2))(h:p.1=0):RX fn d O p .normal s:=⟨.ret,trivial,_,_,_,e,(aF h).symm,rfl,rfl⟩
theorem ag7(K:uF d O)(hd:D5 d)(h40:d.ly.length<=1000)(C:∀j,j<d.ly.length->B8 d j=false):TG ak 2 NL (dH 3 OF) (wE d O (LM d.ly) []) (RX Tryz.f94 d O (pg d)):=by
 have Ay:=hd.ly;refine fN 1 (be _) (asB d O _ 0) all_nil ?_;have xw:(∀j,j<d.ly.length->AE d j=false)->(pg d).1=0:=fun h1=>by
  unfold pg;rw[gW C];simp only;rw[gW h1]
 refine Sf (vB 8 d.ly.length (fun i=>HJ d O (kG d 95 96 97 i)) (AE d) (fun E a w r hn=>⟨hn,E,r,mO.refl r.good⟩) (fun i hi hj Q' k1 k2 k3=>?_) (fun h1 T eu=>⟨_,eu,T9 dJ (xw h1)⟩));refine jm 2 (be _) eP (asC d O i) (dN (g1 fun h=>⟨all_nil,?_⟩) (dK (g1 fun h=>⟨all_nil,fun T eu=>k2 (by have:=rG h;omega) T (kF.norm eu)⟩)));have q:=kA h;have hA:V.eo (dU (fR d.ly) (i*31) 31)= .eo (d.at i).ds:=ik q;have ht:AE d i=BM d (d.at i):=rfl;have vC:AE d i=true->pg d=(40,(d.at i).id):=fun h=>abc q C h hj;generalize d.at i=x at *;have nx:AE d i=false->∀T,kF 2 NL T (HJ d O (kG d 95 96 97 i))->TG ak 2 NL (dH 3 VI) T Q':=fun h3 T eu=>
  eu.xC _ _ (gw (be _) eP (asJ d O i) (dK (g0 ⟨eO (gV S),fun T eu=>k1 q h3 T (kF.norm eu)⟩)))
 have hpn:∀ch (b:Bool),BP (D6 (40,x.id)) ch->AE d i=true->Q' (.panic ch) (HJ d O (kG d 95 96 97 i++[(116,.bool false),(118,R x.id)])):=fun ch b Hl h3=>k3 ch _ (RQ.of (pN Hl dJ (vC h3) (show(40:Int)≠0 by decide)));refine dY dJ (fJ (i:=9) dJ ?_);refine jm 2 (be _) eP (asD d O i x) (dN (g1 fun h=>⟨X (iI q) (X (fS _) (eO hA)),?_⟩) (dK (g1 fun h=>⟨X (iI q) (X (fS _) (eO hA)),?_⟩)))
 . refine kz (t:=true) dJ dJ (fun _=>?_) (fun q=>by cases q);cases hn:jq d.ly x.of with
   |some m=>
    have hL:=kR K hn;have ht2:AE d i=((d.at m).kd==3):=by rw[ht];unfold BM;rw[h,hn];rfl
    generalize d.at m=y at *;refine jm 1 (lE hL (be _)) eP (asE d O i x y) (dK (g0 ⟨X rfl (X rfl (eO rfl)),?_⟩));refine Oz (rR (dH 1 (l9 (dH 2 JM)))) (be _) (y.kd !=(3:Int)) (fun b=>HJ d O (kG d 95 96 97 i++[(116,.bool b),(118,R x.id)])) 40 x.id [0,95,96,97] (HJ d O (kG d 95 96 97 i)) (asG d O i x y) (dN (g1 fun h=>⟨all_nil,by rw[h]⟩) (dK (g1 fun h=>⟨all_nil,by rw[h]⟩))) (fun b=>by kernel_rfl) dJ (fun U T eu=>?_) (fun U ch Hl=>?_)
    . simp only[gT,andThen];exact nx (by rw[ht2];unfold bne at U;simpa using U) T eu
    . exact hpn ch true Hl (by rw[ht2];unfold bne at U;simpa using U)
   |none=>
    have hL:=tW K hn;have ht2:AE d i=true:=by rw[ht];unfold BM;rw[h,hn];rfl
    refine jm 1 (lE hL (be _)) eP (asF d O i x) (dK (g0 ⟨X rfl (X rfl (eO rfl)),?_⟩));exact Oz (rR (dH 1 (l9 (dH 2 JM)))) (be _) false (fun b=>HJ d O (kG d 95 96 97 i++[(116,.bool b),(118,R x.id)])) 40 x.id [0,95,96,97] (HJ d O (kG d 95 96 97 i)) (asH d O i x) (dK (g0 ⟨all_nil,rfl⟩)) (fun b=>by kernel_rfl) dJ (fun U=>by cases U) (fun U ch Hl=>hpn ch true Hl ht2)
 . refine kz (t:=false) dJ dJ (fun q=>by cases q) (fun _=>?_);refine gw (be _) eP (asI d O i x) (dK (g0 ⟨all_nil,fun T eu=>?_⟩));simp only[gT,andThen];exact nx (by rw[ht];unfold BM;rw[h];rfl) T (kF.norm eu)
end
theorem LO(d:Dc)(O:Sn)(K:uF d O)(hd:D5 d)(h40:d.ly.length<=1000):SC 94 [] d O (pg d):=by
 refine Xs Tryz.func94 (fN 1 (be _) (asi d O) all_nil ?_);refine eJ.map [(2,some .i64)] (dF:=wE d O [] []) dJ _ _ ?_;refine dY dJ (ag4 hd h40 fun T eu=>?_);simp only[andThen];refine eu _ _ (dY dJ (ag5 K hd h40 (fun ch T h=>h) fun C T eu=>?_));simp only[andThen];exact eu.xC _ _ (ag7 K hd h40 C)
set_option maxRecDepth 10000
noncomputable def ag8(N:Nat)(fn:Func)(f0:Nat)(c:Code)(sp:ag->I es->Nat->Option (ah×V×I es×Nat))(s:St):Option (ah×V×I es×Nat):=match lV (rR c) c with
 | [o]=>match o.guard with
   |none=>match eG ak o s.F s.h s.n with
    |some (.call f args)=>match Nat.beq f f0 with
     |true=>match sp args s.h s.n with
      |some (hc,v,C,n2)=>match v.free with
       |true=>match Oy ak N fn { s with h:=C,n:=n2 } (.nI v false)with
        |some (.nI v2,h3,n3)=>some (hc,v2,h3,n3)
        |_=>none
       |false=>none
      |none=>none
     |false=>none
    |_=>none
   |some _=>none
 |_=>none
noncomputable def Xt(_:Program)(sp:ag->I es->Nat->Option (ah×V×I es×Nat))(_:List (Nat×mH))(_ N:Nat)(fn:Func)(live:List Nat)(c:Code)(s:St):Option (ag×ag×List (List (Bool×Bool)×ah×ko)):=match ag8 N fn (live.headD 0) c sp s with
 |some (hc,v,h,n)=>some ([],[],[([],hc,.ret v h n)])
 |none=>none
abbrev Fy(P:Program)(sp:ag->I es->Nat->Option (ah×V×I es×Nat))(dG:List (Nat×mH))(fr N:Nat)(fn:Func)(live:List Nat)(c:Code)(s:St)(hm:ag)(dD:List (List (Bool×Bool)×ah×ko)):Prop:=Xt P sp dG fr N fn live c s=some (hm,hm,dD)
section
variable{N n0:Nat}{c:Code}{s:St}{Q:Exit->St->Prop}{ks:gG}{hh:List (Nat×List (Nat×mH))}{dG:List (Nat×mH)}{fn:Func}{live:List Nat}{dD:List (List (Bool×Bool)×ah×ko)}
theorem ag9(fm:fo ak ks){A0 hc:ah}{s1:St}{f:FuncId}{sp:ag->I es->Nat->Option (ah×V×I es×Nat)}{v:V}{h:I es}{n:Nat}{iX:qb->I es->Nat->Prop}(hr:H (M ks hh) dG N fn live (kS c) s [([],A0,.to .normal s1)])(W7:∀a∈A0,a)(hO:Sa ak f sp)
  (hp:∃hm,Fy ak sp [] 1000 N fn [f] c s1 hm [([],hc,.ret v h n)]) (hA:∀a∈hc,a) (hR:iX (.nI v) h n) (hQ:∀ch T,DP ak N fn iX (.panic ch) T->Q (.panic ch) T)
  (hs:(fe n0 c&&(EA (rR c) c&&(lV (rR c) c).all fun o=>match o.dst with|some d=>decide (d<n0)|none=>true))=true:=by kernel_rfl):TG ak N n0 c s Q:=by
 simp only[ay]at hs;obtain⟨h1,C,h3⟩:=hs;obtain⟨hm,hr⟩:=hr;have hd:∀x∈lV (rR c) c,nw n0 x.dst:=fun x K d hd=>by
  have:=bw.1 h3 x K;rw[hd]at this;exact aZ this
 refine Cd (rR c) (XH fm hh) mo h1 C hr (acL ?_);refine⟨W7,s1,rfl,?_⟩;obtain⟨L2,hp⟩:=hp;unfold Fy Xt at hp;split at hp
 case h_2=>cases hp
 rename_i A1 v1 oU KN e;simp only[aq,aB,List.cons.injEq,ko.ret.injEq,and_true,true_and]at hp;obtain⟨_,_,rfl,rfl,rfl,rfl⟩:=hp;unfold ag8 at e;split at e
 case h_2=>cases e
 rename_i o ho;split at e
 case h_2=>cases e
 rename_i hg;split at e
 case h_2=>cases e
 rename_i f' args pG;split at e
 case h_2=>cases e
 rename_i hf;have hf:=aJ hf;simp only[List.headD_cons]at hf;subst hf;split at e
 case h_2=>cases e
 rename_i A2 v2 AU n2' D0;split at e
 case h_2=>cases e
 rename_i hv;split at e
 case h_2=>cases e
 rename_i v3 h3' n3' hl;simp only[aq,aB]at e;obtain⟨rfl,rfl,rfl,rfl⟩:=e;rw[ho]at hd ⊢;exact Cc hd hg pG hO D0 hA hv fun ch Hl=>hQ ch _ (.DQ Hl hl hR)
end
set_option maxRecDepth 10000
noncomputable abbrev oQ:Code:=dQ Tryz.f42
noncomputable abbrev abd:Code:=dO (dH 6 oQ)
noncomputable abbrev abe:Code:=dP (dP (eB abd))
noncomputable abbrev VL:Code:=dP (dO (dH 2 abe))
noncomputable abbrev abf:Code:=dO (dH 9 oQ)
noncomputable abbrev abg:Code:=dP (dP (eB abf))
noncomputable abbrev VM:Code:=dP (dO (dH 2 abg))
noncomputable abbrev abh:Code:=dO (dH 11 oQ)
noncomputable abbrev abi:Code:=dP (dP (eB abh))
noncomputable abbrev abj:Code:=dP (dO (dH 2 abi))
def hCx(d:Dc)(O:List (Eng.D×Eng.D))(q:af):I es:=hL ([(0,.cells d.cs),(1,.cells (d.cs++[.map (some 2)])),(2,.gL (some .i64) O)]++q)
def o8(d:Dc)(O:List (Eng.D×Eng.D))(r:List (Nat×V)):St:=fI ([(1,.ptr (some (0,0))),(3,.ptr (some (1,0)))]++r) (hCx d O []) 3
def VN(d:Dc)(O:List (Eng.D×Eng.D))(t:Nat)(u:ag)(r:List (Nat×V)):St:=fI ([(1,.ptr (some (0,0))),(3,.ptr (some (1,0))),(t,.ptr (some (3,0)))]++r) (hCx d O [(3,.cells u)]) 4
abbrev pT1:V:=.ptr (some (1,0))
def hCm(d:Dc)(l:List (Eng.D×Eng.D))(q:af):I es:=hL ([(0,.cells d.cs),(1,.cells (d.cs++[.map (some 2)])),(2,.oW (some .i64) l)]++q)
def AK(d:Dc)(l:List (Eng.D×Eng.D))(r:List (Nat×V)):St:=fI ([(1,.ptr (some (0,0))),(3,.ptr (some (1,0)))]++r) (hCm d l []) 3
def Xu(d:Dc)(l:List (Eng.D×Eng.D))(t:Nat)(u:ag)(r:List (Nat×V)):St:=fI ([(1,.ptr (some (0,0))),(3,.ptr (some (1,0))),(t,.ptr (some (3,0)))]++r) (hCm d l [(3,.cells u)]) 4
def sC0(d:Dc):St:=fI [(1,.ptr (some (0,0))),(3,.ptr (some (1,0)))] (hL [(0,.cells d.cs),(1,.cells (d.cs++[.map (some 2)])),(2,.map [] 0)]) 3
theorem asL(d:Dc):H (M ew []) [] 0 Tryz.f42 [1,3] (ek 2 oQ) (dI [d.v] .nil 0) [([],[],eC (sC0 d))]:=G.Y
theorem asM(d:Dc)(l:List (Eng.D×Eng.D)):H (M ew []) [(21,.split),(26,.split),(31,.split),(36,.split)] 0 Tryz.f42 [1,3,37] (kS (dO (dH 2 oQ))) (AK d l []) (Er (decide ((Int.ofNat d.sp.length)<=(8:Int))) (decide ((Int.ofNat d.ly.length)<=(40:Int))) (decide (d.nx>=(1:Int))) (decide (d.nx<=(1048576:Int))) ([],eC (AK d l [(37,.bool true)])) ([],eC (AK d l [(37,.bool false)]))):=G.Y
theorem asN(d:Dc)(l:List (Eng.D×Eng.D)):H (M ew []) [] 0 Tryz.f42 [1,3,4] (ek 1 (dH 3 oQ)) (AK d l []) [([],[],eC (AK d l [(4,ng 90)]))]:=G.Y
theorem asO(d:Dc)(l:List (Eng.D×Eng.D))(b:Bool):H (M (fa 92 [.eM false d.sp.length (lj d.sp),ng 90] (.bool b) ew) []) [] 0 Tryz.f42 [1,3,43] (kS (dO (dH 4 oQ))) (AK d l [(4,ng 90)]) [([],[V.jj ([]++[V.eM false d.sp.length (lj d.sp),ng 90]++[])=[V.eM false d.sp.length (lj d.sp),ng 90]],eC (AK d l [(43,.bool (!b))]))]:=G.Y
theorem asP(d:Dc)(l:List (Eng.D×Eng.D)):H (M ew []) [] 0 Tryz.f42 [1,3,5] (ek 1 (dH 5 oQ)) (AK d l []) [([],[],eC (AK d l [(5,R 0)]))]:=G.Y
theorem asQ(d:Dc)(l:List (Eng.D×Eng.D))(z:Int):H (M ew []) [] 0 Tryz.f42 [1,3,5,46,47,48] (dO abd) (AK d l [(5,R z)]) [([],[],eC (AK d l [(5,R z),(46,.eM false d.ly.length (fR d.ly)),(47,J d.ly.length),(48,J 0)]))]:=G.Y
theorem asR(d:Dc)(l:List (Eng.D×Eng.D))(z:Int)(i:Nat):H (M ew []) [(49,.split)] 0 Tryz.f42 [1,3,5,46,47,48] (ek 2 abe) (AK d l [(5,R z),(46,.eM false d.ly.length (fR d.ly)),(47,J d.ly.length),(48,J i)]) (fV (decide (Int.ofNat i<Int.ofNat d.ly.length)) ([],eC (AK d l [(5,R z),(46,.eM false d.ly.length (fR d.ly)),(47,J d.ly.length),(48,J i)])) ([],.to (.exit 0) (AK d l [(5,R z),(46,.eM false d.ly.length (fR d.ly)),(47,J d.ly.length),(48,J i)]))):=G.Y
theorem asS(d:Dc)(l:List (Eng.D×Eng.D))(z:Int)(i:Nat)(x:eV):H (M ew []) [(51,.dL (.eo x.ds))] 0 Tryz.f42 [1,3,5,6,7,46,47,48] (ek 1 VL) (AK d l [(5,R z),(46,.eM false d.ly.length (fR d.ly)),(47,J d.ly.length),(48,J i)]) [([],[fT i d.ly.length,nK d.ly,gv (fR d.ly) i 31 x.ds],eC (Xu d l 7 x.cs [(5,R z),(6,J i),(46,.eM false d.ly.length (fR d.ly)),(47,J d.ly.length),(48,J i)]))]:=G.Y
theorem asT(d:Dc)(l:List (Eng.D×Eng.D))(z:Int)(i:Nat)(x:eV):H (M ew []) [(56,.split),(62,.split)] 0 Tryz.f42 [1,3,5,6,7,46,47,48,63,65] (kS (dO (dH 1 VL))) (Xu d l 7 x.cs [(5,R z),(6,J i),(46,.eM false d.ly.length (fR d.ly)),(47,J d.ly.length),(48,J i)]) (BJ (decide (x.id>z)) (decide (x.id<d.nx)) ([],eC (Xu d l 7 x.cs [(5,R z),(6,J i),(46,.eM false d.ly.length (fR d.ly)),(47,J d.ly.length),(48,J i),(63,.bool true),(65,R x.id)])) ([],eC (Xu d l 7 x.cs [(5,R z),(6,J i),(46,.eM false d.ly.length (fR d.ly)),(47,J d.ly.length),(48,J i),(63,.bool false),(65,R x.id)]))):=G.Y
theorem asU(d:Dc)(l:List (Eng.D×Eng.D))(z:Int)(i:Nat)(x:eV):H (M ew []) [] 0 Tryz.f42 [1,3,5,46,47,48] (dH 2 VL) (Xu d l 7 x.cs [(5,R z),(6,J i),(46,.eM false d.ly.length (fR d.ly)),(47,J d.ly.length),(48,J i)]) [([],[fL (D.int B x.id) l=none,(0:Int)<=(Int.ofNat l.length)/\(Int.ofNat l.length)<(Int.ofNat (l++[(D.int B x.id,D.int B (0:Int))]).length)],eC (AK d (iY (l++[(.int .i64 x.id,.int .i64 0)]) (l.length:Int).toNat fun e=>(e.1,.int .i64 (Int.ofNat i))) [(5,R x.id),(46,.eM false d.ly.length (fR d.ly)),(47,J d.ly.length),(48,J i)]))]:=G.Y
theorem asV(d:Dc)(l:List (Eng.D×Eng.D))(z:Int)(i:Nat):H (M ew []) [(78,.dL (J (i+1)))] 0 Tryz.f42 [1,3,5,46,47,48] (dH 3 abe) (AK d l [(5,R z),(46,.eM false d.ly.length (fR d.ly)),(47,J d.ly.length),(48,J i)]) [([],[oq i],eC (AK d l [(5,R z),(46,.eM false d.ly.length (fR d.ly)),(47,J d.ly.length),(48,J (i+1))]))]:=G.Y
theorem asW(d:Dc)(O:List (Eng.D×Eng.D))(x:eV):H (M (o6 44 [R d.root] d O (.gK [x.v,.bool true]) ew) []) [] 0 Tryz.f42 [1,3,8,9] (ek 1 (dH 7 oQ)) (o8 d O []) [([],[[V.ptr (some (0,0)),V.int B d.root]=[pT,R d.root],(I.nil.set 0 (some (es.cells [V.eM false d.sp.length (lj d.sp),V.int B d.root,V.int B d.nx,V.eM false d.ly.length (fR d.ly),V.map (some 1)]))).set 1 (some (es.gL (some B) O))=kT d O,2=2],eC (VN d O 8 x.cs [(9,.bool true)]))]:=G.Y
theorem asX(d:Dc)(O:List (Eng.D×Eng.D)):H (M (o6 44 [R d.root] d O (.gK [Jv,.bool false]) ew) []) [] 0 Tryz.f42 [1,3,8,9] (ek 1 (dH 7 oQ)) (o8 d O []) [([],[[V.ptr (some (0,0)),V.int B d.root]=[pT,R d.root],(I.nil.set 0 (some (es.cells [V.eM false d.sp.length (lj d.sp),V.int B d.root,V.int B d.nx,V.eM false d.ly.length (fR d.ly),V.map (some 1)]))).set 1 (some (es.gL (some B) O))=kT d O,2=2],eC (VN d O 8 (OW 0 0 z7 0) [(9,.bool false)]))]:=G.Y
theorem asY(d:Dc)(O:List (Eng.D×Eng.D))(x:eV):H (M ew []) [(90,.split)] 0 Tryz.f42 [1,3,91,93] (kS (dO (dH 8 oQ))) (VN d O 8 x.cs [(9,.bool true)]) (fV (x.kd==(2:Int)) ([],eC (o8 d O [(91,.bool true),(93,R d.root)])) ([],eC (o8 d O [(91,.bool false),(93,R d.root)]))):=G.Y
theorem asZ(d:Dc)(O:List (Eng.D×Eng.D)):H (M ew []) [] 0 Tryz.f42 [1,3,91,93] (kS (dO (dH 8 oQ))) (VN d O 8 (OW 0 0 z7 0) [(9,.bool false)]) [([],[],eC (o8 d O [(91,.bool false),(93,R d.root)]))]:=G.Y
theorem as0(d:Dc)(O:List (Eng.D×Eng.D)):H (M ew []) [] 0 Tryz.f42 [1,3,96,97,98] (dO abf) (o8 d O []) [([],[],eC (o8 d O [(96,.eM false d.ly.length (fR d.ly)),(97,J d.ly.length),(98,J 0)]))]:=G.Y
theorem as1(d:Dc)(O:List (Eng.D×Eng.D))(i:Nat):H (M ew []) [(99,.split)] 0 Tryz.f42 [1,3,96,97,98] (ek 2 abg) (o8 d O [(96,.eM false d.ly.length (fR d.ly)),(97,J d.ly.length),(98,J i)]) (fV (decide (Int.ofNat i<Int.ofNat d.ly.length)) ([],eC (o8 d O [(96,.eM false d.ly.length (fR d.ly)),(97,J d.ly.length),(98,J i)])) ([],.to (.exit 2) (o8 d O [(96,.eM false d.ly.length (fR d.ly)),(97,J d.ly.length),(98,J i)]))):=G.Y
theorem as2(d:Dc)(O:List (Eng.D×Eng.D))(i:Nat)(x:eV):H (M ew []) [(100,.dL (.eo x.ds))] 0 Tryz.f42 [1,3,11,96,97,98] (ek 1 VM) (o8 d O [(96,.eM false d.ly.length (fR d.ly)),(97,J d.ly.length),(98,J i)]) [([],[fT i d.ly.length,nK d.ly,gv (fR d.ly) i 31 x.ds],eC (VN d O 11 x.cs [(96,.eM false d.ly.length (fR d.ly)),(97,J d.ly.length),(98,J i)]))]:=G.Y
theorem as3(d:Dc)(O:List (Eng.D×Eng.D))(i:Nat)(x:eV):H (M (o6 93 [x.v] d O (.gK []) ew) []) [] 0 Tryz.f42 [1,3,96,97,98] (dH 1 VM) (VN d O 11 x.cs [(96,.eM false d.ly.length (fR d.ly)),(97,J d.ly.length),(98,J i)]) [([],[[V.ptr (some (0,0)),V.agg [V.int B x.id,V.int B x.kd,V.str x.nm,V.bool x.hid,V.int B x.op,V.int B x.md,V.bool x.clip,V.int B x.pl.a,V.int B x.pl.b,V.int B x.pl.c,V.int B x.pl.d,V.int B x.pl.e,V.int B x.pl.f,V.int B x.pl.n,V.int B x.sp,V.eM false x.kids.length (eL x.kids),V.int B x.of,V.int B x.f.k,V.int B x.f.r,V.eM false x.f.fh.length (eL x.f.fh),V.int B x.f.dv,V.int B x.f.vl,V.eM false x.f.cu.length (eL x.f.cu),V.int IntKind.u8 x.fi.r,V.int IntKind.u8 x.fi.g,V.int IntKind.u8 x.fi.b,V.int IntKind.u8 x.fi.a,V.eM false x.gA.length (nf x.gA),V.eM false x.gx.length (iO x.gx),V.bool x.L,V.eM false x.ig.length (iO x.ig)]]=[pT,x.v],(I.nil.set 0 (some (es.cells [V.eM false d.sp.length (lj d.sp),V.int B d.root,V.int B d.nx,V.eM false d.ly.length (fR d.ly),V.map (some 1)]))).set 1 (some (es.gL (some B) O))=kT d O,2=2],eC (o8 d O [(96,.eM false d.ly.length (fR d.ly)),(97,J d.ly.length),(98,J i)]))]:=G.Y
theorem as4(d:Dc)(O:List (Eng.D×Eng.D))(i:Nat)(x:eV):H (M ew []) [] 0 Tryz.f42 [1,3,96,97,98,102,103] (kS (dH 1 VM)) (VN d O 11 x.cs [(96,.eM false d.ly.length (fR d.ly)),(97,J d.ly.length),(98,J i)]) [([],[],eC (o8 d O [(96,.eM false d.ly.length (fR d.ly)),(97,J d.ly.length),(98,J i),(102,pT1),(103,x.v)]))]:=G.Y
theorem as5(d:Dc)(O:List (Eng.D×Eng.D))(i:Nat)(x:eV)(p:Int×Int):∃hm,Fy ak (nG (Ju [x.v] d O (D6 p))) [] 1000 0 Tryz.f42 [93] (dH 1 VM) (o8 d O [(96,.eM false d.ly.length (fR d.ly)),(97,J d.ly.length),(98,J i),(102,pT1),(103,x.v)]) hm
  [([],
   [([V.ptr (some (0,0)),V.agg [V.int B x.id,V.int B x.kd,V.str x.nm,V.bool x.hid,V.int B x.op,V.int B x.md,V.bool x.clip,V.int B x.pl.a,V.int B x.pl.b,V.int B x.pl.c,V.int B x.pl.d,V.int B x.pl.e,V.int B x.pl.f,V.int B x.pl.n,V.int B x.sp,V.eM false x.kids.length (eL x.kids),V.int B x.of,V.int B x.f.k,V.int B x.f.r,V.eM false x.f.fh.length (eL x.f.fh),V.int B x.f.dv,V.int B x.f.vl,V.eM false x.f.cu.length (eL x.f.cu),V.int IntKind.u8 x.fi.r,V.int IntKind.u8 x.fi.g,V.int IntKind.u8 x.fi.b,V.int IntKind.u8 x.fi.a,V.eM false x.gA.length (nf x.gA),V.eM false x.gx.length (iO x.gx),V.bool x.L,V.eM false x.ig.length (iO x.ig)]]=[pT,x.v]),((I.nil.set 0 (some (es.cells [V.eM false d.sp.length (lj d.sp),V.int B d.root,V.int B d.nx,V.eM false d.ly.length (fR d.ly),V.map (some 1)]))).set 1 (some (es.gL (some B) O))=kT d O),(2=2)],
   .ret (.iface 99 (.agg [.int .i64 (p.1),.int .i64 (p.2)])) (hL []) 0)]
 :=⟨[],by unfold Fy;kernel_rfl⟩
theorem as6(d:Dc)(O:List (Eng.D×Eng.D))(i:Nat):H (M ew []) [(105,.dL (J (i+1)))] 0 Tryz.f42 [1,3,96,97,98] (dH 3 abg) (o8 d O [(96,.eM false d.ly.length (fR d.ly)),(97,J d.ly.length),(98,J i)]) [([],[oq i],eC (o8 d O [(96,.eM false d.ly.length (fR d.ly)),(97,J d.ly.length),(98,J (i+1))]))]:=G.Y
theorem as7(d:Dc)(O:List (Eng.D×Eng.D)):H (M (o6 94 [] d O (.gK []) ew) []) [] 0 Tryz.f42 [1,3] (dO (dH 10 oQ)) (o8 d O []) [([],[[V.ptr (some (0,0))]=[pT],(I.nil.set 0 (some (es.cells [V.eM false d.sp.length (lj d.sp),V.int B d.root,V.int B d.nx,V.eM false d.ly.length (fR d.ly),V.map (some 1)]))).set 1 (some (es.gL (some B) O))=kT d O,2=2],eC (o8 d O []))]:=G.Y
theorem as8(d:Dc)(O:List (Eng.D×Eng.D)):H (M ew []) [] 0 Tryz.f42 [1,3,106] (kS (dO (dH 10 oQ))) (o8 d O []) [([],[],eC (o8 d O [(106,pT1)]))]:=G.Y
theorem as9(d:Dc)(O:List (Eng.D×Eng.D))(p:Int×Int):∃hm,Fy ak (nG (Ju [] d O (D6 p))) [] 1000 0 Tryz.f42 [94] (dO (dH 10 oQ)) (o8 d O [(106,pT1)]) hm
  [([],
   [([V.ptr (some (0,0))]=[pT]),((I.nil.set 0 (some (es.cells [V.eM false d.sp.length (lj d.sp),V.int B d.root,V.int B d.nx,V.eM false d.ly.length (fR d.ly),V.map (some 1)]))).set 1 (some (es.gL (some B) O))=kT d O),(2=2)],
   .ret (.iface 99 (.agg [.int .i64 (p.1),.int .i64 (p.2)])) (hL []) 0)]
 :=⟨[],by unfold Fy;kernel_rfl⟩
theorem ata(d:Dc)(O:List (Eng.D×Eng.D)):H (M ew []) [] 0 Tryz.f42 [1,3,109,110,111] (dO abh) (o8 d O []) [([],[],eC (o8 d O [(109,.eM false d.ly.length (fR d.ly)),(110,J d.ly.length),(111,J 0)]))]:=G.Y
theorem atb(d:Dc)(O:List (Eng.D×Eng.D))(i:Nat):H (M ew []) [(112,.split)] 0 Tryz.f42 [1,3,109,110,111] (ek 2 abi) (o8 d O [(109,.eM false d.ly.length (fR d.ly)),(110,J d.ly.length),(111,J i)]) (fV (decide (Int.ofNat i<Int.ofNat d.ly.length)) ([],eC (o8 d O [(109,.eM false d.ly.length (fR d.ly)),(110,J d.ly.length),(111,J i)])) ([],.to (.exit 4) (o8 d O [(109,.eM false d.ly.length (fR d.ly)),(110,J d.ly.length),(111,J i)]))):=G.Y
theorem atc(d:Dc)(O:List (Eng.D×Eng.D))(i:Nat)(x:eV):H (M ew []) [(113,.dL (.eo x.ds))] 0 Tryz.f42 [1,3,13,109,110,111] (ek 1 abj) (o8 d O [(109,.eM false d.ly.length (fR d.ly)),(110,J d.ly.length),(111,J i)]) [([],[fT i d.ly.length,nK d.ly,gv (fR d.ly) i 31 x.ds],eC (VN d O 13 x.cs [(109,.eM false d.ly.length (fR d.ly)),(110,J d.ly.length),(111,J i)]))]:=G.Y
theorem atd(d:Dc)(O:List (Eng.D×Eng.D))(i:Nat)(x:eV)(b:Bool):H (M (o6 45 [R x.id,R x.id,fnT 95] d O (.bool b) ew) []) [] 0 Tryz.f42 [1,3,109,110,111,123,125] (kS (dH 1 abj)) (VN d O 13 x.cs [(109,.eM false d.ly.length (fR d.ly)),(110,J d.ly.length),(111,J i)]) [([],[[V.ptr (some (0,0)),V.int B x.id,V.int B x.id,V.fn (Fn.func 95) [V.ptr (some (0,0))] []]=[pT,R x.id,R x.id,fnT 95],(I.nil.set 0 (some (es.cells [V.eM false d.sp.length (lj d.sp),V.int B d.root,V.int B d.nx,V.eM false d.ly.length (fR d.ly),V.map (some 1)]))).set 1 (some (es.gL (some B) O))=kT d O,2=2],eC (o8 d O [(109,.eM false d.ly.length (fR d.ly)),(110,J d.ly.length),(111,J i),(123,.bool (!b)),(125,R x.id)]))]:=G.Y
theorem ate(d:Dc)(O:List (Eng.D×Eng.D))(i:Nat):H (M ew []) [(127,.dL (J (i+1)))] 0 Tryz.f42 [1,3,109,110,111] (dH 3 abi) (o8 d O [(109,.eM false d.ly.length (fR d.ly)),(110,J d.ly.length),(111,J i)]) [([],[oq i],eC (o8 d O [(109,.eM false d.ly.length (fR d.ly)),(110,J d.ly.length),(111,J (i+1))]))]:=G.Y
theorem atf(d:Dc)(O:List (Eng.D×Eng.D))(a:Int):H (M (o6 48 [R d.root] d O (R a) ew) []) [] 0 Tryz.f42 [3,132,134] (kS (dO (dH 12 oQ))) (o8 d O []) [([],[[V.ptr (some (0,0)),V.int B d.root]=[pT,R d.root],(I.nil.set 0 (some (es.cells [V.eM false d.sp.length (lj d.sp),V.int B d.root,V.int B d.nx,V.eM false d.ly.length (fR d.ly),V.map (some 1)]))).set 1 (some (es.gL (some B) O))=kT d O,2=2],eC (fI [(3,.ptr (some (0,0))),(132,.bool (decide (a<=(6:Int)))),(134,R d.root)] (kT d O) 2))]:=G.Y
theorem atg(d:Dc)(O:List (Eng.D×Eng.D)):H (M ew []) [] 0 Tryz.f42 [] (dH 13 oQ) (fI [(3,.ptr (some (0,0)))] (kT d O) 2) [([],[],.ret (.ptr (some (0,0))) (hL [(0,.cells [.eM false (d.sp.length) (lj d.sp),.int .i64 (d.root),.int .i64 (d.nx),.eM false (d.ly.length) (fR d.ly),.map (some 1)]),(1,.gL (some .i64) O)]) 2)]:=G.Y
set_option maxRecDepth 10000
def dE(EC:List Int):List (Eng.D×Eng.D):=EC.zipIdx.map fun p=>(.int .i64 p.1,.int .i64 (Int.ofNat p.2))
theorem MZ(k:Int):∀l:List (Int×Nat),(∀p∈l,p.1≠k)->fL (.int .i64 k) (l.map fun p=>(.int .i64 p.1,.int .i64 (Int.ofNat p.2)))=none
 | [],_=>rfl
 |p::l,h=>by
  have h1:=h p (by simp);simp only[b9,fL,iA,decide_true,aP];rw[aX fun e=>h1 e.symm];exact MZ k l fun p hp=>h p (by simp[hp])
theorem LP{EC:List Int}{k:Int}(h:k∉EC):fL (.int .i64 k) (dE EC)=none:=
 MZ k _ fun p hp e=>by
  obtain⟨k',j⟩:=p;obtain⟨_,_,h3⟩:=List.mem_zipIdx hp;simp only at e;subst e;exact h (h3▸bV _)
theorem Bv{α:Type}(f:α->α)(e:α):∀l:List α,iY (l++[e]) l.length f=l++[f e]
 | []=>rfl
 |x::l=>by simp only[List.cons_append,aN,iY,Bv f e l]
theorem VO(EC:List Int)(x:Int){i:Nat}(h:EC.length=i):iY (dE EC++[(.int .i64 x,.int .i64 0)]) ((dE EC).length:Int).toNat (fun e=>(e.1,.int .i64 (Int.ofNat i)))=dE (EC++[x]):=by
 rw[Int.toNat_natCast,Bv];unfold dE;rw[List.zipIdx_append,bL];simp[List.zipIdx,h]
theorem M0(k:Int):∀(ls:List eV) (s:Nat),fL (.int .i64 k) (((ls.map (·.id)).zipIdx s).map fun p=>(.int .i64 p.1,.int .i64 (Int.ofNat p.2)))=(ls.findIdx? fun l=>l.id==k).map fun n=>.int .i64 (Int.ofNat (s+n))
 | [],_=>rfl
 |l::ls,s=>by
  simp only[b9,List.zipIdx_cons,fL,iA,List.findIdx?_cons,decide_true,aP];by_cases q:k=l.id
  . subst q;simp
  . rw[aX q,aD (by simpa using fun e=>q e.symm)];simp only;rw[M0 k ls (s+1),Option.map_map];congr 1;funext n;simp only[Function.comp];congr 2;omega
theorem M1(d:Dc):uF d (dE (d.ly.map (·.id))):=fun k=>by
 have:=M0 k d.ly 0;simp only[bI]at this;exact this
section
variable{N n0 m:Nat}{s:St}{kd:Option IntKind}
theorem abk(ht:Nat.blt m gO=true)(L:s.h.get m=some (.map [] 0)):kF N n0 s { s with h:=s.h.set m (some (.oW kd [])) }:=
 kF.mem fun _ _ g=>pV (aE ht) L rfl (fun _ _ _ ⟨hs,ga,h1,C⟩=>⟨hs,ga,h1,⟨C,List.nodup_nil,(fun e he=>by cases he),(by rw[show ga.toList=[]from C];rfl)⟩⟩) g
theorem abl{O:List (Eng.D×Eng.D)}(ht:Nat.blt m gO=true)(L:s.h.get m=some (.oW kd O)):kF N n0 s { s with h:=s.h.set m (some (.gL kd O)) }:=
 kF.mem fun _ _ g=>pV (aE ht) L rfl (fun _ _ _ ⟨hs,ga,h1,C⟩=>⟨hs,ga,_,h1,C.rel⟩) g
end
set_option maxRecDepth 10000
noncomputable abbrev NC:Nat:=Tryz.f42.ntmps
def OH(d:Dc)(i:Nat):List Int:=(d.ly.take i).map (·.id)
def oA(d:Dc):List (Eng.D×Eng.D):=dE (d.ly.map (·.id))
noncomputable def LQ(d:Dc):qb:=if(gU d).1=0 then .ret pT else .nI (D6 (gU d))
abbrev RC(d:Dc):Exit->St->Prop:=DP ak 0 Tryz.f42 fun o h n=>o=LQ d/\((gU d).1=0->h=kT d (oA d)/\n=2)
theorem OI{d:Dc}{q:Int×Int}{ch:List PanicEntry}{s:St}(hp:BP (D6 q) ch)(hl:Oy ak 0 Tryz.f42 s (.nI (D6 q) false)=some (.nI (D6 q),.nil,0))(A:gU d=q)(h0:q.1≠0):RC d (.panic ch) s:=
 .DQ hp hl ⟨by unfold LQ;rw[A,aD h0],fun z=>absurd (by rw[A]at z;exact z) h0⟩
theorem abm{d:Dc}(h:xK d=true):¬((Int.ofNat d.sp.length)<=(8:Int)/\(Int.ofNat d.ly.length)<=(40:Int)/\d.nx>=(1:Int)/\d.nx<=(1048576:Int)):=by
 unfold xK at h;simp only[cq,aU]at h;omega
theorem VP{d:Dc}{i:Nat}(h:i<=d.ly.length):(OH d i).length=i:=by
 unfold OH;rw[bM,bf];omega
theorem JN{d:Dc}{i:Nat}(h:i<d.ly.length):OH d (i+1)=OH d i++[(d.at i).id]:=by
 unfold OH;rw[cz,getD_some gM h,Option.toList_some,bL];rfl
theorem SG{d:Dc}:∀{i:Nat},i<=d.ly.length->(∀j,j<i->tS d j=false)->(∀k∈OH d i,k<=vu d i)/\(OH d i).Nodup
 |0,_,_=>⟨(fun k hk=>by cases hk),List.nodup_nil⟩
 |i+1,h,hj=>by
  obtain⟨h1,C⟩:=SG (i:=i) S fun j W8=>hj j S;have U:=hj i S;unfold tS at U;rw[cM,bu]at U;rw[JN S];refine⟨fun k hk=>?_,List.nodup_append.2 ⟨C,by simp,fun a ha b D3=>?_⟩⟩
  . show k<=(d.at i).id;rcases bj.1 hk with q|q
    . have:=h1 k q;omega
    . rw[aI]at q;omega
  . rw[aI]at D3;subst D3;have:=h1 a ha;omega
theorem abn{ls:List eV}{x:eV}(h:x∈ls):∃n,jq ls x.id=some n:=by
 cases hn:jq ls x.id with
 |some n=>exact⟨n,rfl⟩
 |none=>
  unfold jq at hn;rw[cH]at hn;have:=hn x h;simp at this
section
variable{d:Dc}
theorem ath(TO:xK d=false)(vC:∀i,i<d.ly.length->tS d i=true->(∀j,j<i->tS d j=false)->gU d=(40,(d.at i).id)){Q:Exit->St->Prop}(hp:∀ch T,RC d (.panic ch) T->Q (.panic ch) T)
  (hQ:(∀j,j<d.ly.length->tS d j=false)->∀T,kF 0 NC T (o8 d (oA d) [])->Q .normal T):TG ak 0 NC abd (AK d [] [(5,R 0)]) Q:=by
 have h40:=(DI TO).2.1;refine dY dJ (gw (be _) eP (asQ d [] 0) (dK (g0 ⟨all_nil,fun T eu=>?_⟩)));simp only[andThen];refine vB 0 d.ly.length (fun i=>AK d (dE (OH d i)) ((5,R (vu d i))::kG d 46 47 48 i)) (tS d) (kF.norm eu) (fun i hi hj Q' k1 k2 k3=>?_) (fun h1 T eu=>hQ h1 T ?_)
 . refine jm 2 (be _) eP (asR d _ _ i) (dN (g1 fun h=>⟨all_nil,?_⟩) (dK (g1 fun h=>⟨all_nil,fun T eu=>k2 (by have:=rG h;omega) T (kF.norm eu)⟩)));have q:=kA h;have hA:V.eo (dU (fR d.ly) (i*31) 31)= .eo (d.at i).ds:=ik q;have U:tS d i=(decide ((d.at i).id<=vu d i)||decide ((d.at i).id>=d.nx)):=rfl;have Z2:=vC i q;have hl:=VP hi;obtain⟨m1,m2⟩:=SG hi hj;have wm:=JN q;have P1:=k1 q;have hpr:vu d (i+1)=(d.at i).id:=rfl;rw[wm,hpr]at P1;clear k1;generalize vu d i=z at *;generalize OH d i=EC at *;generalize d.at i=x at *;refine dY dJ (fJ (i:=1) dJ ?_);refine jm 1 (be _) eP (asS d (dE EC) z i x) (dK (g0 ⟨X (iI q) (X (fS _) (eO hA)),?_⟩));refine kJ (rR (dO (dH 1 VL))) (be _) (!tS d i) (fun b=>Xu d (dE EC) 7 x.cs ((5,R z)::(6,J i)::(kG d 46 47 48 i++[(63,.bool b),(65,R x.id)]))) 40 x.id [1,3,5,6,7,46,47,48] (Xu d (dE EC) 7 x.cs ((5,R z)::(6,J i)::kG d 46 47 48 i)) (asT d (dE EC) z i x) ?_ (fun b=>by kernel_rfl) dJ (fun hbf=>?_) (fun hbt ch Hl=>?_)
   . repeat' (first|exact ij|refine dN ?_ ?_)
     all_goals
      intro A;simp only[aA,aH,bq,aL,bn,aU,bu]at A;refine⟨all_nil,D8 (dF:=fun b=>Xu d (dE EC) 7 x.cs ((5,R z)::(6,J i)::(kG d 46 47 48 i++[(63,.bool b),(65,R x.id)]))) ?_⟩;rw[U]
      first
       |rw[aX S,aX S];rfl
       |rw[aW S];rfl
       |rw[Bool.or_comm,aW S];rfl
   . rw[bZ]at hbf;have K:x.id∉EC:=fun L=>by
      rw[U,cM,bu]at hbf;have:=m1 _ L;omega
     have hms:=VO EC x.id hl;have hbn:(0:Int)<=((dE EC).length:Int)/\((dE EC).length:Int)<((dE EC++[(Eng.D.int .i64 x.id,Eng.D.int .i64 0)]).length:Int):=by rw[az,bS];omega
     refine gw (be _) eP (asU d (dE EC) z i x) (dK (g0 ⟨X (LP K) (eO hbn),fun T eu=>?_⟩));rw[hms]at eu;simp only[gT,andThen];exact gj eu (gw (be _) eP (asV d _ _ i) (dK (g0 ⟨eO (gV S),fun T eu=>P1 hbf T (kF.norm eu)⟩)))
   . rw[dx]at hbt;exact k3 ch _ (hp ch _ (OI Hl dJ (Z2 hbt hj) (show(40:Int)≠0 by decide)))
 . have he:OH d d.ly.length=d.ly.map (·.id):=by unfold OH;rw[br]
   refine eu.trans ((kF.norm (hm:=[1,3]) (dF:=AK d (dE (OH d d.ly.length)) []) dJ).trans ?_);have:=abl (N:=0) (n0:=NC) (m:=2) (s:=AK d (dE (OH d d.ly.length)) []) (kd:=some .i64) dJ rfl;unfold oA;rw[<- he];exact this
theorem ati(hd:B9 d)(U:∀x∈d.ly,x.kd≠3->xX x.f)(h40:d.ly.length<=1000)(vC:∀i,i<d.ly.length->Ld d i=true->(∀j,j<i->Ld d j=false)->gU d=(wB d.sp.length (d.at i),(d.at i).id)){Q:Exit->St->Prop}(hp:∀ch T,RC d (.panic ch) T->Q (.panic ch) T)
  (hQ:(∀j,j<d.ly.length->Ld d j=false)->∀T,kF 0 NC T (o8 d (oA d) [])->Q .normal T):TG ak 0 NC abf (o8 d (oA d) []) Q:=by
 generalize oA d=O at *;refine dY dJ (gw (be _) eP (as0 d O) (dK (g0 ⟨all_nil,fun T eu=>?_⟩)));simp only[andThen];refine vB 2 d.ly.length (fun i=>o8 d O (kG d 96 97 98 i)) (Ld d) (kF.norm eu) (fun i hi hj Q' k1 k2 k3=>?_) (fun h1 T eu=>hQ h1 T (eu.trans (kF.norm (hm:=[1,3]) dJ)));refine jm 2 (be _) eP (as1 d O i) (dN (g1 fun h=>⟨all_nil,?_⟩) (dK (g1 fun h=>⟨all_nil,fun T eu=>k2 (by have:=rG h;omega) T (kF.norm eu)⟩)));have q:=kA h;have hA:V.eo (dU (fR d.ly) (i*31) 31)= .eo (d.at i).ds:=ik q;have hF:=JL d O (d.at i) (hd.at i) (U _ (vw q));have ht:Ld d i=(wB d.sp.length (d.at i) !=0):=rfl;have Z2:=fun h=>vC i q h hj;have P1:=k1 q;clear k1;generalize d.at i=x at *;refine dY dJ (fJ (i:=3) dJ ?_);refine jm 1 (be _) eP (as2 d O i x) (dK (g0 ⟨X (iI q) (X (fS _) (eO hA)),?_⟩));by_cases h0:wB d.sp.length x=0
 . refine gw (lE (hF.1 h0) (be _)) eP (as3 d O i x) (dK (g0 ⟨X rfl (X rfl (eO rfl)),fun T eu=>?_⟩));simp only[gT,andThen];exact gj eu (gw (be _) eP (as6 d O i) (dK (g0 ⟨eO (gV S),fun T eu=>P1 (by rw[ht,h0];rfl) T (kF.norm eu)⟩)))
 . have A:=Z2 (by rw[ht];simpa using h0);exact ag9 (iX:=fun o h n=>o=LQ d/\((gU d).1=0->h=kT d (oA d)/\n=2)) (be _) (as4 d O i x) all_nil (hF.2 h0) (as5 d O i x _) (X rfl (X rfl (eO rfl))) ⟨by unfold LQ;rw[A,aD h0];rfl,fun z=>absurd (by rw[A]at z;exact z) h0⟩ (fun ch T h=>k3 ch T (hp ch T h))
theorem atj(K:uF d (oA d))(hd:B9 d)(h40:d.ly.length<=1000)(vC:(pg d).1≠0->gU d=pg d){Q:Exit->St->Prop}(hp:∀ch T,RC d (.panic ch) T->Q (.panic ch) T)
  (hQ:(pg d).1=0->∀T,kF 0 NC T (o8 d (oA d) [])->Q .normal T):TG ak 0 NC (dO (dH 10 oQ)) (o8 d (oA d) []) Q:=by
 have hF:=LO d (oA d) K hd.m h40;by_cases h0:(pg d).1=0
 . exact gw (lE (hF.1 h0) (be _)) eP (as7 d (oA d)) (dK (g0 ⟨X rfl (X rfl (eO rfl)),fun T eu=>hQ h0 T (kF.norm eu)⟩))
 . have A:=vC h0;exact ag9 (iX:=fun o h n=>o=LQ d/\((gU d).1=0->h=kT d (oA d)/\n=2)) (be _) (as8 d (oA d)) all_nil (hF.2 h0) (as9 d (oA d) _) (X rfl (X rfl (eO rfl))) ⟨by unfold LQ;rw[A,aD h0];rfl,fun z=>absurd (by rw[A]at z;exact z) h0⟩ hp
theorem atk(K:uF d (oA d))(hd:B9 d)(h40:d.ly.length<=1000)(A:Clo d.ly)(vC:∀i,i<d.ly.length->Oj d i=true->(∀j,j<i->Oj d j=false)->gU d=(42,(d.at i).id)){Q:Exit->St->Prop}(hp:∀ch T,RC d (.panic ch) T->Q (.panic ch) T)
  (hQ:(∀j,j<d.ly.length->Oj d j=false)->∀T,kF 0 NC T (o8 d (oA d) [])->Q .normal T):TG ak 0 NC abh (o8 d (oA d) []) Q:=by
 generalize oA d=O at *;refine dY dJ (gw (be _) eP (ata d O) (dK (g0 ⟨all_nil,fun T eu=>?_⟩)));simp only[andThen];refine vB 4 d.ly.length (fun i=>o8 d O (kG d 109 110 111 i)) (Oj d) (kF.norm eu) (fun i hi hj Q' k1 k2 k3=>?_) (fun h1 T eu=>hQ h1 T (eu.trans (kF.norm (hm:=[1,3]) dJ)));refine jm 2 (be _) eP (atb d O i) (dN (g1 fun h=>⟨all_nil,?_⟩) (dK (g1 fun h=>⟨all_nil,fun T eu=>k2 (by have:=rG h;omega) T (kF.norm eu)⟩)));have q:=kA h;have hA:V.eo (dU (fR d.ly) (i*31) 31)= .eo (d.at i).ds:=ik q;obtain⟨n,hn⟩:=abn (vw q);obtain⟨b,hB,U⟩:=Jy d O K hd.m A (d.at i).id (d.at i).id hn;have ht:Oj d i=b:=by
  rw[Bool.eq_iff_iff,U,<- (kQ d.ly false (d.at i).id).2];unfold Oj;exact cQ
 have Z2:=fun h=>vC i q h hj;have P1:=k1 q;clear k1 hn;generalize d.at i=x at *;refine dY dJ (fJ (i:=5) dJ ?_);refine jm 1 (be _) eP (atc d O i x) (dK (g0 ⟨X (iI q) (X (fS _) (eO hA)),?_⟩));refine Oz (rR (dH 1 abj)) (lE hB (be _)) (!b) (fun b=>o8 d O (kG d 109 110 111 i++[(123,.bool b),(125,R x.id)])) 42 x.id [1,3,109,110,111] (o8 d O (kG d 109 110 111 i)) (atd d O i x b) (dK (g0 ⟨X rfl (X rfl (eO rfl)),rfl⟩)) (fun b=>by kernel_rfl) dJ (fun hbf T eu=>?_) (fun hbt ch Hl=>?_)
 . rw[bZ]at hbf;simp only[gT,andThen];exact eu.xC _ _ (gw (be _) eP (ate d O i) (dK (g0 ⟨eO (gV S),fun T eu=>P1 (ht.trans hbf) T (kF.norm eu)⟩)))
 . rw[dx]at hbt;exact k3 ch _ (hp ch _ (OI Hl dJ (Z2 (ht.trans hbt)) (show(42:Int)≠0 by decide)))
theorem atl(hD:lU 48 [R d.root] d (oA d) (R (jO d.ly 100 d.root)))(vC:gU d=if jO d.ly 100 d.root>6 then(43,d.root)else(0,0)):TG ak 0 NC (dH 12 oQ) (o8 d (oA d) []) (RC d):=by
 generalize jO d.ly 100 d.root=a at *;refine kJ (rR (dO (dH 12 oQ))) (lE hD (be _)) (decide (a<=(6:Int))) (fun b=>fI [(3,.ptr (some (0,0))),(132,.bool b),(134,R d.root)] (kT d (oA d)) 2) 43 d.root [3] (fI [(3,.ptr (some (0,0)))] (kT d (oA d)) 2) (atf d (oA d) a) (dK (g0 ⟨X rfl (X rfl (eO rfl)),rfl⟩)) (fun b=>by kernel_rfl) dJ (fun q=>?_) (fun q ch Hl=>?_)
 . have hq:=aZ q;rw[aD S]at vC;refine qT (eR (be _) (atg d (oA d)) (dK (g0 ⟨all_nil,_,_,_,rfl,?_⟩))) fun y T h=>DP.aap h;exact⟨by unfold LQ;rw[vC];rfl,fun _=>⟨rfl,rfl⟩⟩
 . have hq:=bt q;rw[aF S]at vC;exact OI Hl dJ vC (show(43:Int)≠0 by decide)
end
theorem abo{d:Dc}(hk:∀x∈d.ly,rJ d x=true)(A:∀x∈d.ly,BM d x=false):Clo d.ly:=fun x K p hp=>by
 unfold gp at hp;split at hp
 . rename_i h4;rw[aI]at hp;subst hp;have:=A x K;unfold BM at this;rw[h4]at this;cases hn:jq d.ly x.of with
   |none=>rw[hn]at this;cases this
   |some n=>exact⟨n,rfl⟩
 . exact AD (hk x K) hp
theorem ahc(d:Dc)(hd:B9 d)(U:∀x∈d.ly,x.kd≠3->xX x.f):TG ak 0 NC oQ (dI [d.v] .nil 0) (RC d):=by
 have hw:∀q,iP d=q->q.1≠0->gU d=q:=fun q h h0=>by
  unfold gU;rw[aD (by rw[h];exact h0),h]
 refine fN 2 (be _) (asL d) all_nil ?_;refine(abk (N:=0) (n0:=NC) (m:=2) (s:=sC0 d) (kd:=some .i64) dJ rfl).xC _ _ ?_;refine kJ (rR (dO (dH 2 oQ))) (be _) (!xK d) (fun b=>AK d [] [(37,.bool b)]) 2 0 [1,3] (AK d [] []) (asM d []) ?_ (fun b=>by kernel_rfl) dJ (fun q=>?_) (fun q ch hp=>?_)
 . repeat' (first|exact ij|refine dN ?_ ?_)
   all_goals
    intro A;simp only[aA,aH,bq,aL,bn,aU,bu]at A;refine⟨all_nil,D8 (dF:=fun b=>AK d [] [(37,.bool b)]) ?_⟩;cases hq:xK d with
    |true=>
     have:=abm hq
     first|rfl|(exfalso;simp only[gD]at A this;omega)
    |false=>
     have:=DI hq
     first|rfl|(exfalso;simp only[gD]at A;omega)
 rotate_left
 . rw[dx]at q;exact OI hp dJ (hw (2,0) (by unfold iP;rw[aF q]) (show(2:Int)≠0 by decide)) (show(2:Int)≠0 by decide)
 rw[bZ]at q;obtain⟨h8,h40,_,_⟩:=DI q;refine fN 1 (be _) (asN d []) all_nil ?_;refine kJ (rR (dO (dH 4 oQ))) (ff (Vz d.sp hd.s S) (be _)) (!(d.sp.any fun s=>!Bo s)) (fun b=>AK d [] [(43,.bool b)]) 23 0 [1,3] (AK d [] []) (asO d [] _) (dK (g0 ⟨eO rfl,rfl⟩)) (fun b=>by kernel_rfl) dJ (fun q2=>?_) (fun q2 ch hp=>?_)
 rotate_left
 . rw[dx]at q2;refine OI hp dJ (hw (23,0) ?_ (show(23:Int)≠0 by decide)) (show(23:Int)≠0 by decide);unfold iP;rw[aD (by rw[q];decide)];cases hf:l8 (fun i=>!Bo (d.sp.getD i OZ)) d.sp.length with
   |some i=>rfl
   |none=>
    exfalso;have:=pL hf;obtain⟨s,hs,rP⟩:=List.any_eq_true.1 q2;obtain⟨i,hi,rfl⟩:=ck hs;have:=this i hi;rw[ax,au hi]at this;rw[cA,rP]at this;cases this
 rw[bZ]at q2;have D0:l8 (fun i=>!Bo (d.sp.getD i OZ)) d.sp.length=none:=gW fun j hj=>by
  rw[dn]at q2;rw[ax,au hj,cA];have:=q2 _ (bV hj);simpa using this
 have hwh:iP d=match l8 (tS d) d.ly.length with
  |some i=>(40,(d.at i).id)
  |none=>if mC d=true then(40,d.root)else(0,0):=by
  unfold iP;rw[aD (by rw[q];decide),D0];rfl
 refine fN 1 (be _) (asP d []) all_nil ?_;refine dY dJ (ath q (fun i hi h1 hj=>hw _ (by rw[hwh,jH hi h1 hj]) (show(40:Int)≠0 by decide)) (fun ch T h=>h) fun h1 T eu=>?_);simp only[andThen];refine eu.xC _ _ ?_;rw[gW h1]at hwh;simp only at hwh;have K:=M1 d;have nx:mC d=false->TG ak 0 NC (dH 9 oQ) (o8 d (oA d) []) (RC d):=fun Xv=>by
  rw[aD (by rw[Xv];decide)]at hwh;have hw0:(iP d).1=0:=by rw[hwh]
  have ug:gU d=_:=aF hw0;refine dY dJ (ati hd U S (fun i hi h1 hj=>by rw[ug,jH hi h1 hj]) (fun ch T h=>h) fun h1 T eu=>?_);rw[gW h1]at ug;simp only[andThen];refine eu.xC _ _ ?_;have hl:pg d=match l8 (B8 d) d.ly.length with
   |some i=>(40,(d.at i).id)
   |none=>match l8 (AE d) d.ly.length with
    |some i=>(40,(d.at i).id)
    |none=>(0,0):=rfl
  refine dY dJ (atj K hd S (fun h=>?_) (fun ch T h=>h) fun C T eu=>?_)
  . rw[ug,hl];rw[hl]at h;simp only;cases e2:l8 (B8 d) d.ly.length with
    |some i=>rfl
    |none=>
     rw[e2]at h;simp only at h ⊢;cases e3:l8 (AE d) d.ly.length with
     |some i=>rfl
     |none=>rw[e3]at h;exact absurd rfl h
  have e2:l8 (B8 d) d.ly.length=none:=by
   cases e:l8 (B8 d) d.ly.length with
   |none=>rfl
   |some i=>rw[hl,e]at C;exact absurd C (show(40:Int)≠0 by decide)
  have e3:l8 (AE d) d.ly.length=none:=by
   cases e:l8 (AE d) d.ly.length with
   |none=>rfl
   |some i=>rw[hl,e2]at C;simp only at C;rw[e]at C;exact absurd C (show(40:Int)≠0 by decide)
  rw[e2]at ug;simp only at ug;rw[e3]at ug;simp only at ug;simp only[andThen];refine eu.xC _ _ ?_;have hK:∀x∈d.ly,rJ d x=true:=fun x K=>by
   obtain⟨j,hj,rfl⟩:=AF K;have:=pL e2 j hj;unfold B8 at this;simpa using this
  have vN:=abo hK fun x K=>by
   obtain⟨j,hj,rfl⟩:=AF K;exact pL e3 j hj
  refine dY dJ (atk K hd S vN (fun i hi h1 hj=>by rw[ug,jH hi h1 hj]) (fun ch T h=>h) fun h4 T eu=>?_);rw[gW h4]at ug;simp only at ug;simp only[andThen];refine eu.xC _ _ ?_;have hac:Fp d.ly false:=fun x K=>by
   obtain⟨j,hj,rfl⟩:=AF K;exact h4 j hj
  have hN:=lT hK;have R4:∃n,jq d.ly d.root=some n:=by
   cases hn:jq d.ly d.root with
   |some n=>exact⟨n,rfl⟩
   |none=>unfold mC at Xv;rw[hn]at Xv;cases Xv
  obtain⟨n,hn⟩:=R4;exact atl (DM d (oA d) K hd.m vN (yY d.ly false) (B6 hac) 100 fg d.root n hn (by unfold yY;have:=mV d.ly false d.root;omega)) ug
 have bad:mC d=true->∀ch,BP (D6 (40,d.root)) ch->RC d (.panic ch) (o8 d (oA d) [(91,.bool false),(93,R d.root)]):=fun h ch hp=>by
  rw[aF h]at hwh;exact OI hp dJ (hw _ hwh (show(40:Int)≠0 by decide)) (show(40:Int)≠0 by decide)
 cases hn:jq d.ly d.root with
 |some n=>
  have hL:=kR K hn;have hr:mC d=((d.at n).kd !=2):=by unfold mC;rw[hn]
  generalize d.at n=y at *;refine jm 1 (lE hL (be _)) eP (asW d (oA d) y) (dK (g0 ⟨X rfl (X rfl (eO rfl)),?_⟩));refine kJ (rR (dO (dH 8 oQ))) (be _) (!mC d) (fun b=>o8 d (oA d) [(91,.bool b),(93,R d.root)]) 40 d.root [1,3] (o8 d (oA d) []) (asY d (oA d) y) (dN (g1 fun h=>⟨all_nil,D8 (dF:=fun b=>o8 d (oA d) [(91,.bool b),(93,R d.root)]) ?_⟩) (dK (g1 fun h=>⟨all_nil,D8 (dF:=fun b=>o8 d (oA d) [(91,.bool b),(93,R d.root)]) ?_⟩))) (fun b=>by kernel_rfl) dJ (fun q=>nx (by simpa using q)) (fun q ch hp=>bad (by simpa using q) ch hp)
  . rw[hr];unfold bne;rw[h];rfl
  . rw[hr];unfold bne;rw[h];rfl
 |none=>
  have hL:=tW K hn;have hr:mC d=true:=by unfold mC;rw[hn]
  refine jm 1 (lE hL (be _)) eP (asX d (oA d)) (dK (g0 ⟨X rfl (X rfl (eO rfl)),?_⟩));exact kJ (rR (dO (dH 8 oQ))) (be _) false (fun b=>o8 d (oA d) [(91,.bool b),(93,R d.root)]) 40 d.root [1,3] (o8 d (oA d) []) (asZ d (oA d)) (dK (g0 ⟨all_nil,rfl⟩)) (fun b=>by kernel_rfl) dJ (fun q=>by cases q) (fun q ch hp=>bad hr ch hp)
set_option maxRecDepth 10000
def SH(d:Dc)(v:V)(h1:I es)(n1:Nat):ag->I es->Nat->Option (ah×V×I es×Nat):=fun args h k=>some ([args=[d.v],h= .nil,k=0],v,h1,n1)
theorem SI{d:Dc}(hd:B9 d)(U:∀x∈d.ly,x.kd≠3->xX x.f)(h0:(gU d).1=0):jM ak 42 (nG (SH d pT (kT d (oA d)) 2)):=
 Sd mo po .ret G3 (aE dJ) Tryz.func42 (code:=dQ Tryz.f42) dJ fun args h k hc v h' k' e hA=>by
  simp only[SH,aq,aB]at e;obtain⟨rfl,rfl,rfl,rfl⟩:=e;have h1:args=[d.v]:=hA _ (by simp);have C:h= .nil:=hA (h= .nil) (by simp);have h3:k=0:=hA (k=0) (by simp);subst h1 C h3;refine⟨dJ,qT (ahc d hd U) fun y s h=>?_⟩;obtain⟨m,L,o,h,n,e,q1,q2⟩:=h;exact⟨m,L,o,h,n,e,by rw[q1];exact aF h0,(q2 h0).1,(q2 h0).2⟩
theorem OJ{d:Dc}(hd:B9 d)(U:∀x∈d.ly,x.kd≠3->xX x.f)(h0:(gU d).1≠0):Sb ak 42 [d.v] (D6 (gU d)):=
 Sc (o:=.nI (D6 (gU d))) mo po Tryz.func42 (code:=dQ Tryz.f42) dJ dJ dJ rfl (qT (ahc d hd U) fun y s h=>by
  obtain⟨m,L,o,h,n,e,q1,q2⟩:=h;exact⟨m,L,o,h,n,e,by rw[q1];exact aD h0⟩)
noncomputable def cfN:gu:=fun _ _ _ _=>none
theorem Ho:iu ak cfN:=fun _ _ _ _ _ _ _ e=>by cases e
section
variable{N n0:Nat}{c:Code}{s:St}{Q Q1:Exit->St->Prop}{fn:Func}
theorem SJ{ops:Array Oper}{o:Oper}{rest:List Oper}(h:O2 ak N n0 ops [o] s Q1)(h1:∀T,Q1 .normal T->O2 ak N n0 ops rest T Q)(C:∀y T,y≠ .normal->Q1 y T->Q y T):O2 ak N n0 ops (o::rest) s Q:=fun E a w hx r hn k=>by
 show wpListIn (fz none) 0 ak ops hx ([o]++rest) a w;refine tM _ ?_;refine h E a w _ r hn fun y T E' a' w' q u oy r'=>?_;cases y with
 |normal=>exact h1 T q E' a' w' hx r' oy fun y s2 E2 a2 w2 q2 u2 qQ r2=>k y s2 E2 a2 w2 q2 (u.trans u2) qQ r2
 |_=>exact k _ T E' a' w' (C _ T (by intro z;cases z) q) u oy r'
noncomputable def toC(k:Nat)(c:Code)(s:St):Option St:=match gY ak cfN 20 (ek 2 c) s with
 |some (.normal,s1)=>match gY ak cfN 20 (Ez k (dO (dH 2 c))) s1 with
  |some (.normal,s2)=>some s2
  |_=>none
 |_=>none
noncomputable def frC(N:Nat)(fn:Func)(ops:Array Oper)(rest:List Oper)(c:Code)(s:St):Option (qb×I es×Nat):=match jI ak cfN ops rest s with
 |some (.normal,s3)=>match gY ak cfN 20 c s3 with
  |some (.ret,s4)=>Oy ak N fn s4 .ret
  |_=>none
 |_=>none
noncomputable def ahe(N:Nat)(fn:Func)(f0 k:Nat)(c:Code)(sp:ag->I es->Nat->Option (ah×V×I es×Nat))(s:St):Option (ah×qb×I es×Nat):=match toC k c s with
 |some s2=>match lV k (dO (dH 2 c))with
  |o::rest=>match o.guard with
   |none=>match eG ak o s2.F s2.h s2.n with
    |some (.call f args)=>match Nat.beq f f0 with
     |true=>match sp args s2.h s2.n with
      |some (hc,v,C,n2)=>match Go.Eng.jR s2.F o.dst v with
       |some F=>match frC N fn (Ox (dO (dH 2 c))) rest (eB (dH 2 c)) { s2 with F:=F,h:=C,n:=n2 }with
        |some (o,h,n)=>some (hc,o,h,n)
        |none=>none
       |none=>none
      |none=>none
     |false=>none
    |_=>none
   |some _=>none
  | []=>none
 |none=>none
noncomputable def ahf(N:Nat)(fn:Func)(f0 k:Nat)(c:Code)(sp:ag->I es->Nat->Option (ah×V×I es×Nat))(s:St):Option (ah×qb×I es×Nat):=match toC k c s with
 |some s2=>match lV k (dO (dH 2 c))with
  |o::_=>match o.guard with
   |none=>match eG ak o s2.F s2.h s2.n with
    |some (.call f args)=>match Nat.beq f f0 with
     |true=>match sp args s2.h s2.n with
      |some (hc,v,C,n2)=>match v.free with
       |true=>match Oy ak N fn { s2 with h:=C,n:=n2 } (.nI v false)with
        |some (o,h,n)=>some (hc,o,h,n)
        |none=>none
       |false=>none
      |none=>none
     |false=>none
    |_=>none
   |some _=>none
  | []=>none
 |none=>none
def LR(n0 k:Nat)(c:Code):Bool:=sB (dH 2 c)&&(fe n0 c&&(fe n0 (dO (dH 2 c))&&(fe n0 (eB (dH 2 c))&&(EA k (dO (dH 2 c))&&(lV k (dO (dH 2 c))).all fun o=>match o.dst with|some d=>decide (d<n0)|none=>true))))
theorem SK{k:Nat}{s2:St}(e:toC k c s=some s2)(h:O2 ak N n0 (Ox (dO (dH 2 c))) (lV k (dO (dH 2 c))) s2 (andThen (fun T=>TG ak N n0 (eB (dH 2 c)) T Q) Q))(hs:LR n0 k c=true):TG ak N n0 c s Q:=by
 unfold LR at hs;simp only[ay]at hs;obtain⟨h1,C,h3,_,h5,_⟩:=hs;unfold toC at e;split at e
 case h_2=>cases e
 rename_i s1 e1;split at e
 case h_2=>cases e
 rename_i s2' e2;obtain rfl:=eZ e;refine yJ (fr:=20) Ho mo 2 C e1 (dY h1 (MI (fr:=20) k Ho mo h3 h5 e2 h))
section
variable{f0 k:Nat}{sp:ag->I es->Nat->Option (ah×V×I es×Nat)}{hc:ah}{o1:qb}{h:I es}{n:Nat}
theorem JO(hs:LR n0 k c=true):∀x∈lV k (dO (dH 2 c)),nw n0 x.dst:=fun x K d hd=>by
 unfold LR at hs;simp only[ay]at hs;have:=bw.1 hs.2.2.2.2.2 x K;rw[hd]at this;exact aZ this
theorem VQ{iX:qb->I es->Nat->Prop}(hO:jM ak f0 sp)(e:ahe N fn f0 k c sp s=some (hc,o1,h,n))(hA:∀a∈hc,a)(hR:iX o1 h n)(hs:LR n0 k c=true:=by kernel_rfl):TG ak N n0 c s (DP ak N fn iX):=by
 have hd:=JO hs;have EJ:fe n0 (eB (dH 2 c))=true:=by
  unfold LR at hs;simp only[ay]at hs;exact hs.2.2.2.1
 unfold ahe at e;split at e
 case h_2=>cases e
 rename_i s2 e2;refine SK e2 ?_ hs;split at e
 case h_2=>cases e
 rename_i o rest hl;rw[hl]at hd ⊢;split at e
 case h_2=>cases e
 rename_i hg;split at e
 case h_2=>cases e
 rename_i f args pG;split at e
 case h_2=>cases e
 rename_i hf;have hf:=aJ hf;subst hf;split at e
 case h_2=>cases e
 rename_i A2 v C n2 D0;split at e
 case h_2=>cases e
 rename_i F zz;split at e
 case h_2=>cases e
 rename_i o3 h3 n3 Xw;simp only[aq,aB]at e;obtain⟨rfl,rfl,rfl,rfl⟩:=e;unfold frC at Xw;split at Xw
 case h_2=>cases Xw
 rename_i s3 e3;split at Xw
 case h_2=>cases Xw
 rename_i s4 e4;refine SJ (Q1:=fun y T=>y= .normal/\T={ s2 with F:=F,h:=C,n:=n2 }) (G2 (hd o (bB ..)) hg pG hO D0 hA zz ⟨rfl,rfl⟩) (fun T q=>?_) fun y T hy q=>absurd q.1 hy;obtain⟨_,rfl⟩:=q;refine DO Ho (fun x K=>hd x (bh _ K)) e3 rfl ?_;simp only[andThen];exact qU (fr:=20) Ho mo EJ e4 rfl ⟨.ret,trivial,_,_,_,Xw,hR⟩
theorem VR{iX:qb->I es->Nat->Prop}(hO:Sa ak f0 sp)(e:ahf N fn f0 k c sp s=some (hc,o1,h,n))(hA:∀a∈hc,a)(hR:iX o1 h n)(hs:LR n0 k c=true:=by kernel_rfl):TG ak N n0 c s (DP ak N fn iX):=by
 have hd:=JO hs;unfold ahf at e;split at e
 case h_2=>cases e
 rename_i s2 e2;refine SK e2 ?_ hs;split at e
 case h_2=>cases e
 rename_i o rest hl;rw[hl]at hd ⊢;split at e
 case h_2=>cases e
 rename_i hg;split at e
 case h_2=>cases e
 rename_i f args pG;split at e
 case h_2=>cases e
 rename_i hf;have hf:=aJ hf;subst hf;split at e
 case h_2=>cases e
 rename_i A2 v C n2 D0;split at e
 case h_2=>cases e
 rename_i hv;split at e
 case h_2=>cases e
 rename_i o3 h3 n3 Xw;simp only[aq,aB]at e;obtain⟨rfl,rfl,rfl,rfl⟩:=e;exact Cc hd hg pG hO D0 hA hv fun ch Hl=>DP.DQ Hl Xw hR
end
end
section
variable{d:Dc}(hd:B9 d)(U:∀x∈d.ly,x.kd≠3->xX x.f)
include hd U
theorem DS(h0:(gU d).1=0):jM ak 43 (nG (SH d pT (kT d (oA d)) 2)):=
 Sd mo po .ret G3 (aE dJ) Tryz.func43 (code:=dQ Tryz.f43) dJ fun args h k hc v h' k' e hA=>by
  simp only[SH,aq,aB]at e;obtain⟨rfl,rfl,rfl,rfl⟩:=e;have h1:args=[d.v]:=hA _ (by simp);have C:h= .nil:=hA (h= .nil) (by simp);have h3:k=0:=hA (k=0) (by simp);subst h1 C h3;have hO:=SI hd U h0;generalize oA d=O at *;exact⟨dJ,VQ (hc:=[[d.v]=[d.v],(I.nil:I es)=I.nil,(0:Nat)=0]) (o1:=.ret pT) (h:=kT d O) (n:=2) (k:=1) hO dJ (X rfl (X rfl (eO rfl))) ⟨rfl,rfl,rfl⟩⟩
theorem DT(h0:(gU d).1≠0):ee ak 43 [d.v] (.ptr none):=
 Sc (o:=.ret (.ptr none)) mo po Tryz.func43 (code:=dQ Tryz.f43) dJ dJ dJ rfl (by
  have hO:=OJ hd U h0;generalize gU d=p at *;exact VR (N:=0) (hc:=[V.jj [d.v]=[d.v]]) (o1:=.ret (.ptr none)) (h:=.nil) (n:=0) (k:=1) (G4 dJ hO) dJ (eO rfl) rfl)
end
set_option maxRecDepth 10000
theorem OK{l:List Int}{i j:Nat}{k:Int}(Pz:i<j)(hj:j<l.length)(h1:l.getD i 0=k)(C:l.getD j 0=k):2<=l.count k:=by
 have e:l.count k=(l.take j).count k+(l.drop j).count k:=by rw[<- List.count_append,dj]
 have m1:k∈l.take j:=by
  rw[ax,au S,cA]at h1;rw[<- h1];exact List.mem_take_iff_getElem.2 ⟨i,S,rfl⟩
 have m2:k∈l.drop j:=by
  rw[ax,au hj,cA]at C;rw[<- C];exact List.mem_drop_iff_getElem.2 ⟨0,S,by simp⟩
 have:=List.count_pos_iff.2 m1;have:=List.count_pos_iff.2 m2;omega
theorem SL{l:List Int}{j:Nat}{k:Int}(A:l.count k<=1)(hj:j<l.length)(h:l.getD j 0=k):l.findIdx? (. ==k)=some j:=by
 rw[bW];have hg:=h;rw[ax,au hj,cA]at hg;refine⟨hj,by simpa using hg,fun i hi q=>?_⟩;have q:=ct.1 q;have:=OK hi hj (by rw[ax,au S,cA];exact q) h;omega
theorem tZ{l:List Int}{j:Nat}(hj:j<l.length):l.getD j 0∈l:=by
 rw[ax,au hj];exact bV hj
theorem zl{k:Int}{x:eV}{j:Nat}(C:x.kd=2)(hj:j<x.kids.length)(hk:x.kids.getD j 0=k):∀{ls:List eV},(lD ls).count k=1->x∈ls->jN ls k=some (x.id,j)
 | [],_,K=>by cases K
 |y::ls,A,K=>by
  have e:(lD (y::ls)).count k=y.kids.count k+(lD ls).count k:=by
   have:lD (y::ls)=y.kids++lD ls:=rfl;rw[this,List.count_append]
  rw[e]at A;unfold jN;by_cases Gg:x∈ls
  . have hp:0<(lD ls).count k:=List.count_pos_iff.2 (List.mem_flatten.2 ⟨_,bP.2 ⟨x,Gg,rfl⟩,hk▸tZ hj⟩);have h0:y.kids.count k=0:=by omega
    have hn:y.kids.findIdx? (. ==k)=none:=by
     rw[cH];intro z hz;rw[List.count_eq_zero]at h0;exact cB.2 fun q=>h0 (q▸hz)
    rw[hn];have:(if y.kd=2 then(none:Option Nat)else none)=none:=by split<;>rfl
    rw[this];exact zl C hj hk S Gg
  . obtain rfl:x=y:=(aA.1 K).resolve_right Gg;rw[aF C,SL S hj hk]
section
variable{d:Dc}(h:jz d)
include h
theorem jz.D4{k:Int}(hk:∃n,jq d.ly k=some n)(hr:k≠d.root):(lD d.ly).count k=1:=by
 obtain⟨n,hn⟩:=hk;obtain⟨_,hid,L⟩:=iG hn;have:=B7 (h.k _ L);rw[hid,aD hr,yZ]at this;exact this
theorem jz.par{k:Int}(hk:∃n,jq d.ly k=some n)(hr:k≠d.root):∃g∈d.ly,∃j,g.kd=2/\j<g.kids.length/\g.kids.getD j 0=k/\jN d.ly k=some (g.id,j):=by
 have A:=h.D4 hk hr;obtain⟨W,CM,hk2⟩:=List.mem_flatten.1 (List.count_pos_iff.1 (by omega:0<(lD d.ly).count k));obtain⟨g,hg,rfl⟩:=bP.1 CM;have C:g.kd=2:=by
  by_cases q:g.kd=2
  . exact q
  . rw[h.G0 hg q]at hk2;cases hk2
 obtain⟨j,hj,e⟩:=ck hk2;have e2:g.kids.getD j 0=k:=by rw[ax,au hj];exact e
 exact⟨g,hg,j,C,hj,e2,zl C hj e2 A hg⟩
theorem jz.LU{g:eV}(hg:g∈d.ly){k:Int}(hk:k∈g.kids):g.kd=2/\(∃n,jq d.ly k=some n)/\k≠d.root:=by
 have C:g.kd=2:=by
  by_cases q:g.kd=2
  . exact q
  . rw[h.G0 hg q]at hk;cases hk
 refine⟨C,AD (h.k _ hg) hk,fun e=>?_⟩;obtain⟨n,hn⟩:=AD (h.k _ hg) hk;obtain⟨_,hid,L⟩:=iG hn;have:=B7 (h.k _ L);rw[hid,aF e,yZ,List.count_eq_zero]at this;exact this (List.mem_flatten.2 ⟨_,bP.2 ⟨g,hg,rfl⟩,hk⟩)
theorem jz.atG{g:eV}(hg:g∈d.ly):∃m,jq d.ly g.id=some m/\d.ly.getD m gM=g:=by
 obtain⟨m,h1,_,C⟩:=yW h.uniq hg;exact⟨m,h1,C⟩
omit h in
theorem we{g:eV}{m:Nat}(L:jq d.ly g.id=some m)(hg:d.ly.getD m gM=g)(C:g.kd≠4){k:Int}(hk:k∈g.kids)(gm:Bool):k∈gB d.ly gm g.id:=by
 unfold gB;rw[L];simp only;refine List.mem_append_left _ ?_;rw[hg];unfold gp;rw[aD C];exact hk
end
set_option maxRecDepth 10000
noncomputable abbrev abq:Code:=dQ Tryz.f17
noncomputable abbrev ahg:Code:=dQ Tryz.f19
abbrev vD:=List (Eng.D×Eng.D)
abbrev W43(d:Dc)(O:vD)(ks:gG):gG:=jC 43 (nG (SH d pT (kT d O) 2)) ks
abbrev aV(d:Dc):ah:=[[d.v]=[d.v],(I.nil:I es)= .nil,(0:Nat)=0]
abbrev aQ(d:Dc)(O:vD)(r:ag):ah:=[pT::r=pT::r,kT d O=kT d O,(2:Nat)=2]
theorem ahi(d:Dc)(O:vD)(a b:Int)(x:eV)(r:Bool):H (M (W43 d O (o6 44 [R a] d O (.gK [x.v,.bool true]) (o6 45 [R a,R b,fnT 46] d O (.bool r) ew))) []) [] 0 Tryz.f17 [] abq (dI [d.v,R a,R b] .nil 0)
  [([],aV d++(aQ d O [R a]++aQ d O [R a,R b,fnT 46]),.ret (.bool r) .nil 0)]:=G.Y
theorem ahj(d:Dc)(O:vD)(a b:Int):H (M (W43 d O (o6 44 [R a] d O (.gK [Jv,.bool false]) ew)) []) [] 0 Tryz.f17 [] abq (dI [d.v,R a,R b] .nil 0)
  [([],aV d++aQ d O [R a],.ret (.bool false) .nil 0)]:=G.Y
theorem ahk(d:Dc)(a b:Int):H (M (fa 43 [d.v] (.ptr none) ew) []) [] 0 Tryz.f17 [] abq (dI [d.v,R a,R b] .nil 0)
  [([],[V.jj [d.v]=[d.v]],.ret (.bool false) .nil 0)]:=G.Y
theorem ahl(d:Dc)(O:vD)(id v:Int):H (M (W43 d O (o6 48 [R id] d O (R v) ew)) []) [] 0 Tryz.f19 [] ahg (dI [d.v,R id] .nil 0)
  [([],aV d++aQ d O [R id],.ret (R v) .nil 0)]:=G.Y
theorem ahm(d:Dc)(id:Int):H (M (fa 43 [d.v] (.ptr none) ew) []) [] 0 Tryz.f19 [] ahg (dI [d.v,R id] .nil 0)
  [([],[V.jj [d.v]=[d.v]],.ret (R 0) .nil 0)]:=G.Y
theorem ahn(d:Dc)(O:vD)(id:Int):H (M (o6 44 [R id] d O (.gK [Jv,.bool false]) ew) []) [] 2 Tryz.f48 [] Oq (dI [pT,R id] (kT d O) 2)
  [([],aQ d O [R id],.ret (R 0) (kT d O) 2)]:=G.Y
section
variable{d:Dc}
theorem jz.bd(h:jz d):∀x∈d.ly,x.kd≠3->xX x.f:=fun x K h3=>by
 have h1:=(Cb (h.f x K)).2.2.2.1;unfold HF GD at h1;simp only[ay]at h1;have C:=h1.2.2.2.2.1;rw[show(x.kd==3)=false by simpa using h3,bX]at C;unfold tR at C;simp only[ay,ct]at C;obtain⟨e1,e2,e3,e4,_⟩:=C;refine⟨?_,?_,?_,?_⟩
 . rw[e1];unfold mD;decide
 . rw[e2];unfold mD;decide
 . rw[e3];unfold mD;decide
 . rw[e4];unfold mD;decide
noncomputable def TD(d:Dc):Bool:=(gU d).1==0
noncomputable def wU(d:Dc)(a b:Int):Bool:=TD d&&((jq d.ly a).isSome&&(jy d.ly true a).contains b)
noncomputable def DU(d:Dc)(a:Int):Int:=if TD d=true then jO d.ly 100 a else 0
variable(hd:B9 d)(U:∀x∈d.ly,x.kd≠3->xX x.f)
include hd U
theorem aho(a b:Int):ee ak 17 [d.v,R a,R b] (.bool (wU d a b)):=by
 unfold wU TD;by_cases h0:(gU d).1=0
 . have hV:=DS hd U h0;have K:=M1 d;have h:=tV h0;change uF d (oA d)at K;rw[show((gU d).1==0)=true by simpa using h0,aP];cases hn:jq d.ly a with
   |none=>
    have hL:=tW K hn;generalize oA d=O at *;exact fc Tryz.func17 (eR (fq hV (lE hL (be _))) (ahj d O a b) (dK (g0 ⟨X rfl (X rfl (X rfl (X rfl (X rfl (eO rfl))))),_,_,_,rfl,rfl⟩)))
   |some n=>
    have hL:=kR K hn;obtain⟨r,hR,hr⟩:=GZ d (oA d) K hd.m h.clo h.gm (fun x K k hk=>AD (h.k x K) hk) (by have:=lT h.k;have:=h.Tz;omega) b a hn;have e:(jy d.ly true a).contains b=r:=by
     rw[Bool.eq_iff_iff,hr,<- (kQ d.ly true a).2];exact cQ
    rw[Option.isSome_some,aP,e];generalize oA d=O at *;generalize d.at n=x at *;exact fc Tryz.func17 (eR (fq hV (lE hL (lE hR (be _)))) (ahi d O a b x r) (dK (g0 ⟨X rfl (X rfl (X rfl (X rfl (X rfl (X rfl (X rfl (X rfl (eO rfl)))))))),_,_,_,rfl,rfl⟩)))
 . have hV:=DT hd U h0;rw[show((gU d).1==0)=false by simpa using h0];exact fc Tryz.func17 (eR (ff hV (be _)) (ahk d a b) (dK (g0 ⟨eO rfl,_,_,_,rfl,rfl⟩)))
theorem abr(a:Int):ee ak 19 [d.v,R a] (R (DU d a)):=by
 unfold DU TD;by_cases h0:(gU d).1=0
 . have hV:=DS hd U h0;have K:=M1 d;have h:=tV h0;change uF d (oA d)at K;rw[show((gU d).1==0)=true by simpa using h0,aF rfl];have hT:lU 48 [R a] d (oA d) (R (jO d.ly 100 a)):=by
    cases hn:jq d.ly a with
    |none=>
     have hL:=tW K hn;have e:jO d.ly 100 a=0:=by unfold jO;rw[hn]
     rw[e];generalize oA d=O at *;exact DL Tryz.func48 (eR (lE hL (be _)) (ahn d O a) (dK (g0 ⟨X rfl (X rfl (eO rfl)),_,_,_,rfl,rfl,rfl,rfl⟩)))
    |some n=>exact DM d (oA d) K hd.m h.clo (yY d.ly false) (B6 h.a) 100 fg a n hn (by unfold yY;have:=mV d.ly false a;have:=lT h.k;have:=h.Tz;omega)
   generalize oA d=O at *;exact fc Tryz.func19 (eR (fq hV (lE hT (be _))) (ahl d O a _) (dK (g0 ⟨X rfl (X rfl (X rfl (X rfl (X rfl (eO rfl))))),_,_,_,rfl,rfl⟩)))
 . have hV:=DT hd U h0;rw[show((gU d).1==0)=false by simpa using h0,aD fg];exact fc Tryz.func19 (eR (ff hV (be _)) (ahm d a) (dK (g0 ⟨eO rfl,_,_,_,rfl,rfl⟩)))
end
set_option maxRecDepth 10000
noncomputable abbrev LV:Code:=dQ Tryz.f47
noncomputable abbrev SM:Code:=dP (dP (dH 2 LV))
noncomputable abbrev TE:Code:=dP (dO (dH 2 SM))
noncomputable abbrev abt:Code:=dQ Tryz.f18
def SN(c:Nat):V:=.fn (.func 47) [] [.ptr (some (0,0)),.ptr (some (3,0)),.ptr (some (c,0))]
def hOg(d:Dc)(O:vD)(sl:V)(q:af):I es:=hL ([(0,.cells [.ptr (some (1,0))]),(1,.cells (d.cs++[.map (some 2)])),(2,.gL (some .i64) O),(3,.cells [sl])]++q)
def Hp(d:Dc)(O:vD):I es:=hOg d O (.fk none 0 0 0) [(4,.cells [SN 4])]
def Hq(d:Dc)(O:vD)(n:Nat)(W:List Int):I es:=hOg d O (.fk (some (5,0)) n n 1) [(4,.cells [SN 4]),(5,.own .i64 W)]
def Bw(d:Dc)(O:vD)(n:Nat)(W:List Int):I es:=hOg d O (.fk (some (4,0)) n n 1) [(4,.own .i64 W),(5,.cells [SN 5])]
def Fz(d:Dc)(O:vD)(n:Nat)(W:List Int):I es:=hOg d O (.fk (some (6,0)) n n 1) [(5,.cells [SN 5]),(6,.own .i64 W)]
def aO(c:Nat)(x:Int):ag:=[R x,.ptr (some (0,0)),.ptr (some (3,0)),.ptr (some (c,0))]
def sO(c:Nat)(h:I es)(n:Nat)(ps:List Int)(i:Nat)(r:List (Nat×V)):St:=fI ([(1,.ptr (some (0,0))),(2,.ptr (some (3,0))),(3,.ptr (some (c,0))),(16,fD ps),(17,J ps.length),(18,J i)]++r) h n
def BQ(my:ag)(h0:I es)(N:Nat)(h1:I es)(n1:Nat):ag->I es->Nat->Option (ah×V×I es×Nat):=fun args h k=>some ([args=my,h=h0,k=N],.gK [],h1,n1)
theorem ahq(d:Dc)(O:vD)(x:Int)(y:eV):H (M (o6 44 [R x] d O (.gK [y.v,.bool true]) ew) []) [] 5 Tryz.f47 [1,2,3,16,17,18] (ek 2 LV) (dI (aO 4 x) (Hp d O) 5)
  [([],aQ d O [R x],.to .normal (sO 4 (Hp d O) 5 y.kids 0 []))]:=G.Y
theorem ahr(d:Dc)(O:vD)(n:Nat)(W:List Int)(x:Int)(y:eV):H (M (o6 44 [R x] d O (.gK [y.v,.bool true]) ew) []) [] 6 Tryz.f47 [1,2,3,16,17,18] (ek 2 LV) (dI (aO 5 x) (Bw d O n W) 6)
  [([],aQ d O [R x],.to .normal (sO 5 (Bw d O n W) 6 y.kids 0 []))]:=G.Y
theorem ahs(d:Dc)(O:vD)(ps:List Int)(i:Nat):H (M ew []) [(19,.split)] 5 Tryz.f47 [1,2,3,16,17,18] (ek 2 SM) (sO 4 (Hp d O) 5 ps i [])
  (fV (decide (Int.ofNat i<Int.ofNat ps.length)) ([],eC (sO 4 (Hp d O) 5 ps i [])) ([],.to (.exit 0) (sO 4 (Hp d O) 5 ps i []))):=G.Y
theorem aht(d:Dc)(O:vD)(n:Nat)(W:List Int)(ps:List Int)(i:Nat):H (M ew []) [(19,.split)] 5 Tryz.f47 [1,2,3,16,17,18] (ek 2 SM) (sO 4 (Hq d O n W) 6 ps i [])
  (fV (decide (Int.ofNat i<Int.ofNat ps.length)) ([],eC (sO 4 (Hq d O n W) 6 ps i [])) ([],.to (.exit 0) (sO 4 (Hq d O n W) 6 ps i []))):=G.Y
theorem ahu(d:Dc)(O:vD)(n:Nat)(W:List Int)(ps:List Int)(i:Nat):H (M ew []) [(19,.split)] 6 Tryz.f47 [1,2,3,16,17,18] (ek 2 SM) (sO 5 (Bw d O n W) 6 ps i [])
  (fV (decide (Int.ofNat i<Int.ofNat ps.length)) ([],eC (sO 5 (Bw d O n W) 6 ps i [])) ([],.to (.exit 0) (sO 5 (Bw d O n W) 6 ps i []))):=G.Y
theorem ahv(d:Dc)(O:vD)(n:Nat)(W:List Int)(ps:List Int)(i:Nat):H (M ew []) [(19,.split)] 6 Tryz.f47 [1,2,3,16,17,18] (ek 2 SM) (sO 5 (Fz d O n W) 7 ps i [])
  (fV (decide (Int.ofNat i<Int.ofNat ps.length)) ([],eC (sO 5 (Fz d O n W) 7 ps i [])) ([],.to (.exit 0) (sO 5 (Fz d O n W) 7 ps i []))):=G.Y
theorem ahw(d:Dc)(O:vD)(ps:List Int)(i:Nat)(k:Int):H (M ew []) [(20,.dL (.eo [.int .i64 k]))] 5 Tryz.f47 [1,2,3,8,16,17,18] (ek 2 TE) (sO 4 (Hp d O) 5 ps i [])
  [([],[fT i ps.length,jo ps,gv (eL ps) i 1 [D.int .i64 k]],eC (sO 4 (hOg d O (.fk (some (5,0)) 1 1 1) [(4,.cells [SN 4]),(5,.cells [R k])]) 6 ps i [(8,R k)]))]:=G.Y
theorem ahx(d:Dc)(O:vD)(n:Nat)(W:List Int)(ps:List Int)(i:Nat)(k:Int):H (M ew []) [(20,.dL (.eo [.int .i64 k]))] 5 Tryz.f47 [1,2,3,8,16,17,18] (ek 2 TE) (sO 4 (Hq d O n W) 6 ps i [])
  [([],[fT i ps.length,jo ps,gv (eL ps) i 1 [D.int .i64 k],0<n,0+n*1<=W.length,0<1,fM (n+1) 1 8=true],eC (sO 4 (Hq d O (n+1) (List.take (n*1) (List.drop 0 W)++[k])) 6 ps i [(8,R k)]))]:=G.Y
theorem ahy(d:Dc)(O:vD)(n:Nat)(W:List Int)(ps:List Int)(i:Nat)(k:Int):H (M ew []) [(20,.dL (.eo [.int .i64 k]))] 6 Tryz.f47 [1,2,3,8,16,17,18] (ek 2 TE) (sO 5 (Bw d O n W) 6 ps i [])
  [([],[fT i ps.length,jo ps,gv (eL ps) i 1 [D.int .i64 k],0<n,0+n*1<=W.length,0<1,fM (n+1) 1 8=true],eC (sO 5 (Fz d O (n+1) (List.take (n*1) (List.drop 0 W)++[k])) 7 ps i [(8,R k)]))]:=G.Y
theorem ahz(d:Dc)(O:vD)(n:Nat)(W:List Int)(ps:List Int)(i:Nat)(k:Int):H (M ew []) [(20,.dL (.eo [.int .i64 k]))] 6 Tryz.f47 [1,2,3,8,16,17,18] (ek 2 TE) (sO 5 (Fz d O n W) 7 ps i [])
  [([],[fT i ps.length,jo ps,gv (eL ps) i 1 [D.int .i64 k],0<n,0+n*1<=W.length,0<1,fM (n+1) 1 8=true],eC (sO 5 (Fz d O (n+1) (List.take (n*1) (List.drop 0 W)++[k])) 7 ps i [(8,R k)]))]:=G.Y
theorem abu(d:Dc)(O:vD)(n:Nat)(W:List Int)(ps:List Int)(i:Nat)(k:Int):H (M (jC 47 (nG (BQ (aO 5 k) (Bw d O n W) 6 (Bw d O n W) 6)) ew) []) [] 5 Tryz.f47 [1,2,3,16,17,18] (dH 2 TE) (sO 4 (Hq d O n W) 6 ps i [(8,R k)])
  [([],[aO 5 k=aO 5 k,Bw d O n W=Bw d O n W,(6:Nat)=6],eC (sO 4 (Hq d O n W) 6 ps i []))]:=G.Y
theorem abv(d:Dc)(O:vD)(n:Nat)(W:List Int)(n2:Nat)(ks2:List Int)(ps:List Int)(i:Nat)(k:Int):H (M (jC 47 (nG (BQ (aO 5 k) (Bw d O n W) 6 (Fz d O n2 ks2) 7)) ew) []) [] 5 Tryz.f47 [1,2,3,16,17,18] (dH 2 TE) (sO 4 (Hq d O n W) 6 ps i [(8,R k)])
  [([],[aO 5 k=aO 5 k,Bw d O n W=Bw d O n W,(6:Nat)=6],eC (sO 4 (Hq d O n2 ks2) 6 ps i []))]:=G.Y
theorem ahB(d:Dc)(O:vD)(n:Nat)(W:List Int)(ps:List Int)(i:Nat):H (M ew []) [(29,.dL (J (i+1)))] 5 Tryz.f47 [1,2,3,16,17,18] (dH 3 SM) (sO 4 (Hq d O n W) 6 ps i [])
  [([],[oq i],eC (sO 4 (Hq d O n W) 6 ps (i+1) []))]:=G.Y
theorem abw(d:Dc)(O:vD)(n:Nat)(W:List Int)(ps:List Int)(i:Nat)(k:Int):H (M (jC 47 (nG (BQ (aO 5 k) (Bw d O n W) 6 (Bw d O n W) 6)) ew) []) [] 6 Tryz.f47 [1,2,3,16,17,18] (dH 2 TE) (sO 5 (Fz d O n W) 7 ps i [(8,R k)])
  [([],[aO 5 k=aO 5 k,Bw d O n W=Bw d O n W,(6:Nat)=6],eC (sO 5 (Fz d O n W) 7 ps i []))]:=G.Y
theorem abx(d:Dc)(O:vD)(n:Nat)(W:List Int)(n2:Nat)(ks2:List Int)(ps:List Int)(i:Nat)(k:Int):H (M (jC 47 (nG (BQ (aO 5 k) (Bw d O n W) 6 (Fz d O n2 ks2) 7)) ew) []) [] 6 Tryz.f47 [1,2,3,16,17,18] (dH 2 TE) (sO 5 (Fz d O n W) 7 ps i [(8,R k)])
  [([],[aO 5 k=aO 5 k,Bw d O n W=Bw d O n W,(6:Nat)=6],eC (sO 5 (Fz d O n2 ks2) 7 ps i []))]:=G.Y
theorem ahC(d:Dc)(O:vD)(n:Nat)(W:List Int)(ps:List Int)(i:Nat):H (M ew []) [(29,.dL (J (i+1)))] 6 Tryz.f47 [1,2,3,16,17,18] (dH 3 SM) (sO 5 (Fz d O n W) 7 ps i [])
  [([],[oq i],eC (sO 5 (Fz d O n W) 7 ps (i+1) []))]:=G.Y
theorem ahD(d:Dc)(O:vD):H (M (W43 d O (jC 47 (nG (BQ (aO 4 d.root) (Hp d O) 5 (Hp d O) 5)) ew)) []) [] 0 Tryz.f18 [] abt (dI [d.v] .nil 0)
  [([],aV d++[aO 4 d.root=aO 4 d.root,Hp d O=Hp d O,(5:Nat)=5],.ret (.fk none 0 0 0) .nil 0)]:=G.Y
theorem ahE(d:Dc)(O:vD)(n:Nat)(W:List Int):H (M (W43 d O (jC 47 (nG (BQ (aO 4 d.root) (Hp d O) 5 (Hq d O n W) 6)) ew)) []) [] 0 Tryz.f18 [] abt (dI [d.v] .nil 0)
  [([],aV d++[aO 4 d.root=aO 4 d.root,Hp d O=Hp d O,(5:Nat)=5],.ret (.fk (some (0,0)) n n 1) (hL [(0,.own .i64 W)]) 1)]:=G.Y
theorem ahF(d:Dc):H (M (fa 43 [d.v] (.ptr none) ew) []) [] 0 Tryz.f18 [] abt (dI [d.v] .nil 0)
  [([],[V.jj [d.v]=[d.v]],.ret (.fk none 0 0 0) .nil 0)]:=G.Y
set_option maxRecDepth 10000
def iH(ls:List eV):Nat->Int->List Int
 |0,_=>[]
 |n+1,x=>match jq ls x with
  |some m=>(ls.getD m gM).kids.flatMap fun k=>k::iH ls n k
  |none=>[]
theorem orL{c:Nat}{x:Int}{h0 h1:I es}{N n1:Nat}(hT:TG ak N Tryz.f47.ntmps LV (dI (aO c x) h0 N) (DP ak N Tryz.f47 fun o h n=>o= .ret (.gK [])/\h=h1/\n=n1)):jM ak 47 (nG (BQ (aO c x) h0 N h1 n1)):=
 Sd mo po .ret G3 (aE dJ) Tryz.func47 (code:=LV) dJ fun args h k hc v h' k' e hA=>by
  simp only[BQ,aq,aB]at e;obtain⟨rfl,rfl,rfl,rfl⟩:=e;have h1:args=aO c x:=hA _ (by simp);have C:h=h0:=hA (h=h0) (by simp);have h3:k=N:=hA (k=N) (by simp);subst h1 C h3;exact⟨dJ,hT⟩
def OrB(d:Dc)(O:vD)(x:Int)(W o:List Int):Prop:=(o=[]->jM ak 47 (nG (BQ (aO 5 x) (Bw d O W.length W) 6 (Bw d O W.length W) 6)))/\(o≠[]->jM ak 47 (nG (BQ (aO 5 x) (Bw d O W.length W) 6 (Fz d O (W++o).length (W++o)) 7)))
def OrZ(d:Dc)(O:vD)(x:Int)(o:List Int):Prop:=(o=[]->jM ak 47 (nG (BQ (aO 4 x) (Hp d O) 5 (Hp d O) 5)))/\(o≠[]->jM ak 47 (nG (BQ (aO 4 x) (Hp d O) 5 (Hq d O o.length o) 6)))
theorem VS{N n1:Nat}{s:St}{h1:I es}(e:Oy ak N Tryz.f47 s .ret=some (.ret (.gK []),h1,n1)):DP ak N Tryz.f47 (fun o h n=>o= .ret (.gK [])/\h=h1/\n=n1) .normal s:=⟨.ret,trivial,_,_,_,e,rfl,rfl,rfl⟩
section
variable{f:Int->List Int}{ps:List Int}{i n:Nat}
theorem ow(h:i<ps.length):(ps.take (i+1)).flatMap f=(ps.take i).flatMap f++f (ps.getD i 0):=by
 rw[cz,getD_some 0 h,Option.toList_some,List.flatMap_append];simp
theorem zm(h:i<ps.length):((ps.take i).flatMap f).length+(f (ps.getD i 0)).length<=(ps.flatMap f).length:=by
 have e:=ow (f:=f) h;have:(ps.flatMap f).length=((ps.take (i+1)).flatMap f).length+((ps.drop (i+1)).flatMap f).length:=by
  rw[<- az,<- List.flatMap_append,dj]
 rw[this,e,az];omega
theorem M2{ls:List eV}{ps:List Int}(h:ps≠[]):(ps.flatMap fun k=>k::iH ls n k)≠[]:=by
 cases ps with
 |nil=>exact absurd rfl h
 |cons k ps=>simp
theorem Hr(l:List Int)(n:Nat)(k:Int)(h:n=l.length):List.take (n*1) (List.drop 0 l)++[k]=l++[k]:=by
 subst h;rw[bA,cR,br]
noncomputable abbrev NO:Nat:=Tryz.f47.ntmps
theorem SO{d:Dc}{O:vD}{x:Int}{y:eV}{n:Nat}{W:List Int}(CM:W≠[])(hL:lU 44 [R x] d O (.gK [y.v,.bool true]))(ih:∀i,i<y.kids.length->∀pP,pP≠[]->pP.length+(iH d.ly n (y.kids.getD i 0)).length<=1000000->OrB d O (y.kids.getD i 0) pP (iH d.ly n (y.kids.getD i 0)))(hl:W.length+(y.kids.flatMap fun k=>k::iH d.ly n k).length<=1000000)(hk:y.kids.length<=1000000):OrB d O x W (y.kids.flatMap fun k=>k::iH d.ly n k):=by
 have qI:∀h1 n1,(y.kids=[]->Bw d O W.length W=h1/\6=n1)->(y.kids≠[]->Fz d O (W++(y.kids.flatMap fun k=>k::iH d.ly n k)).length (W++(y.kids.flatMap fun k=>k::iH d.ly n k))=h1/\7=n1)->TG ak 6 NO LV (dI (aO 5 x) (Bw d O W.length W) 6) (DP ak 6 Tryz.f47 fun o h n=>o= .ret (.gK [])/\h=h1/\n=n1):=fun h1 n1 g0' g1'=>by
  refine fN 2 (lE hL (be _)) (ahr d O W.length W x y) (X rfl (X rfl (eO rfl))) ?_;generalize y.kids=ps at *;generalize hf:(fun k=>k::iH d.ly n k)=f at *;have Ip:∀k,f k=k::iH d.ly n k:=fun k=>by rw[<- hf]
  refine Sf (vB 0 ps.length (fun i=>match i with
   |0=>sO 5 (Bw d O W.length W) 6 ps 0 []
   |i+1=>sO 5 (Fz d O (W++(ps.take (i+1)).flatMap f).length (W++(ps.take (i+1)).flatMap f)) 7 ps (i+1) []) (fun _=>false) (fun E a w r hn=>⟨hn,E,r,mO.refl r.good⟩) (fun i hi _ Q' k1 k2 k3=>?_) (fun _ T eu=>?_))
  . have DV:i<ps.length->∀pP,pP=(W++(ps.take i).flatMap f)++[ps.getD i 0]->TG ak 6 NO (dH 2 TE) (sO 5 (Fz d O pP.length pP) 7 ps i [(8,R (ps.getD i 0))]) (gT 1 (andThen (fun T=>TG ak 6 NO (dH 3 SM) T Q') Q')):=fun q pP e=>by
     have kZ:=zm (f:=f) q;rw[Ip,aN]at kZ;have jJ:pP.length=W.length+((ps.take i).flatMap f).length+1:=by rw[e,az,bS,az]
     have jD:pP≠[]:=by rw[e];simp
     obtain⟨o1,o2⟩:=ih i q pP jD S;have TA:(W++(ps.take (i+1)).flatMap f)=pP++iH d.ly n (ps.getD i 0):=by
      rw[ow q,Ip,e];simp[cC]
     generalize iH d.ly n (ps.getD i 0)=o at *;generalize ps.getD i 0=k at *;have oc:∀T,kF 6 NO T (sO 5 (Fz d O (pP++o).length (pP++o)) 7 ps i [])->gT 1 (andThen (fun T=>TG ak 6 NO (dH 3 SM) T Q') Q') .normal T:=fun T eu=>by
      simp only[gT,andThen];rw[<- TA]at eu;exact eu.xC _ _ (gw (be _) eP (ahC d O _ _ ps i) (dK (g0 ⟨eO (gV S),fun T eu=>k1 q rfl T (kF.norm eu)⟩)))
     by_cases ho:o=[]
     . subst ho;rw[c5]at oc;exact gw (fq (o1 rfl) (be _)) eP (abw d O pP.length pP ps i k) (dK (g0 ⟨X rfl (X rfl (eO rfl)),fun T eu=>oc T (kF.norm eu)⟩))
     . exact gw (fq (o2 ho) (be _)) eP (abx d O pP.length pP (pP++o).length (pP++o) ps i k) (dK (g0 ⟨X rfl (X rfl (eO rfl)),fun T eu=>oc T (kF.norm eu)⟩))
    cases i with
    |zero=>
     refine jm 2 (be _) eP (ahu d O W.length W ps 0) (dN (g1 fun h=>⟨all_nil,?_⟩) (dK (g1 fun h=>⟨all_nil,fun T eu=>k2 (by have:=rG h;omega) T (kF.norm eu)⟩)));have q:=kA h;refine dY dJ (fJ (i:=1) dJ ?_);have hp:0<W.length:=List.length_pos_iff.2 CM;have C:=ahy d O W.length W ps 0 (ps.getD 0 0);rw[Hr W _ _ rfl,show W.length+1=(W++[ps.getD 0 0]).length by rw[az];rfl]at C;refine jm 2 (be _) eP C (dK (g0 ⟨X (iI q) (X (eI _) (X (fP q) (X hp (X S (X fg (eO (GI (by rw[az,bS];omega)))))))),?_⟩));exact DV q _ (by simp)
    |succ i=>
     have Nq:(W++(ps.take (i+1)).flatMap f)≠[]:=fun e=>by
      have C:=aG List.length e;rw[ow (show i<ps.length by omega),Ip]at C;simp at C
     refine jm 2 (be _) eP (ahv d O _ _ ps (i+1)) (dN (g1 fun h=>⟨all_nil,?_⟩) (dK (g1 fun h=>⟨all_nil,fun T eu=>k2 (by have:=rG h;omega) T (kF.norm eu)⟩)));have q:=kA h;have kZ:=zm (f:=f) q;rw[Ip,aN]at kZ;have vN:(W++(ps.take (i+1)).flatMap f).length<=W.length+((ps.take (i+1)).flatMap f).length:=by rw[az];exact aK _
     refine dY dJ (fJ (i:=1) dJ ?_);have hcm:=DV q;generalize (W++(ps.take (i+1)).flatMap f)=cu at *;have hp:0<cu.length:=List.length_pos_iff.2 Nq;have C:=ahz d O cu.length cu ps (i+1) (ps.getD (i+1) 0);rw[Hr cu _ _ rfl,show cu.length+1=(cu++[ps.getD (i+1) 0]).length by rw[az];rfl]at C;refine jm 2 (be _) eP C (dK (g0 ⟨X (iI q) (X (eI _) (X (fP q) (X hp (X S (X fg (eO (GI (by rw[az,bS];omega)))))))),?_⟩));exact hcm _ rfl
  . cases wo:ps.length with
    |zero=>
     rw[wo]at eu;obtain⟨rfl,rfl⟩:=g0' (cS.1 wo);exact⟨_,eu,VS dJ⟩
    |succ i=>
     rw[wo]at eu;obtain⟨rfl,rfl⟩:=g1' (fun e=>by rw[e]at wo;cases wo);have e:List.take (i+1) ps=ps:=by rw[<- wo,br]
     have rP:kF 6 NO T (sO 5 (Fz d O (W++(ps.take (i+1)).flatMap f).length (W++(ps.take (i+1)).flatMap f)) 7 ps (i+1) []):=eu;rw[e]at rP;refine⟨_,rP,VS ?_⟩;generalize W++List.flatMap f ps=cu;kernel_rfl
 refine⟨fun e=>?_,fun e=>?_⟩
 . have hn:y.kids=[]:=Classical.byContradiction fun q=>M2 q e;exact orL (qI _ _ (fun _=>⟨rfl,rfl⟩) fun q=>absurd hn q)
 . exact orL (qI _ _ (fun q=>absurd (by rw[q];rfl) e) fun _=>⟨rfl,rfl⟩)
end
theorem SP{d:Dc}{O:vD}{x:Int}{y:eV}{n:Nat}(hL:lU 44 [R x] d O (.gK [y.v,.bool true]))(ih:∀i,i<y.kids.length->∀pP,pP≠[]->pP.length+(iH d.ly n (y.kids.getD i 0)).length<=1000000->OrB d O (y.kids.getD i 0) pP (iH d.ly n (y.kids.getD i 0)))(hl:(y.kids.flatMap fun k=>k::iH d.ly n k).length<=1000000)(hk:y.kids.length<=1000000):OrZ d O x (y.kids.flatMap fun k=>k::iH d.ly n k):=by
 have qI:∀h1 n1,(y.kids=[]->Hp d O=h1/\5=n1)->(y.kids≠[]->Hq d O ((y.kids.flatMap fun k=>k::iH d.ly n k)).length ((y.kids.flatMap fun k=>k::iH d.ly n k))=h1/\6=n1)->TG ak 5 NO LV (dI (aO 4 x) (Hp d O) 5) (DP ak 5 Tryz.f47 fun o h n=>o= .ret (.gK [])/\h=h1/\n=n1):=fun h1 n1 g0' g1'=>by
  refine fN 2 (lE hL (be _)) (ahq d O x y) (X rfl (X rfl (eO rfl))) ?_;generalize y.kids=ps at *;generalize hf:(fun k=>k::iH d.ly n k)=f at *;have Ip:∀k,f k=k::iH d.ly n k:=fun k=>by rw[<- hf]
  refine Sf (vB 0 ps.length (fun i=>match i with
   |0=>sO 4 (Hp d O) 5 ps 0 []
   |i+1=>sO 4 (Hq d O ((ps.take (i+1)).flatMap f).length ((ps.take (i+1)).flatMap f)) 6 ps (i+1) []) (fun _=>false) (fun E a w r hn=>⟨hn,E,r,mO.refl r.good⟩) (fun i hi _ Q' k1 k2 k3=>?_) (fun _ T eu=>?_))
  . have DV:i<ps.length->∀pP,pP=((ps.take i).flatMap f)++[ps.getD i 0]->TG ak 5 NO (dH 2 TE) (sO 4 (Hq d O pP.length pP) 6 ps i [(8,R (ps.getD i 0))]) (gT 1 (andThen (fun T=>TG ak 5 NO (dH 3 SM) T Q') Q')):=fun q pP e=>by
     have kZ:=zm (f:=f) q;rw[Ip,aN]at kZ;have jJ:pP.length=((ps.take i).flatMap f).length+1:=by rw[e,az,bS]
     have jD:pP≠[]:=by rw[e];simp
     obtain⟨o1,o2⟩:=ih i q pP jD S;have TA:((ps.take (i+1)).flatMap f)=pP++iH d.ly n (ps.getD i 0):=by
      rw[ow q,Ip,e];simp[cC]
     generalize iH d.ly n (ps.getD i 0)=o at *;generalize ps.getD i 0=k at *;have oc:∀T,kF 5 NO T (sO 4 (Hq d O (pP++o).length (pP++o)) 6 ps i [])->gT 1 (andThen (fun T=>TG ak 5 NO (dH 3 SM) T Q') Q') .normal T:=fun T eu=>by
      simp only[gT,andThen];rw[<- TA]at eu;exact eu.xC _ _ (gw (be _) eP (ahB d O _ _ ps i) (dK (g0 ⟨eO (gV S),fun T eu=>k1 q rfl T (kF.norm eu)⟩)))
     by_cases ho:o=[]
     . subst ho;rw[c5]at oc;exact gw (fq (o1 rfl) (be _)) eP (abu d O pP.length pP ps i k) (dK (g0 ⟨X rfl (X rfl (eO rfl)),fun T eu=>oc T (kF.norm eu)⟩))
     . exact gw (fq (o2 ho) (be _)) eP (abv d O pP.length pP (pP++o).length (pP++o) ps i k) (dK (g0 ⟨X rfl (X rfl (eO rfl)),fun T eu=>oc T (kF.norm eu)⟩))
    cases i with
    |zero=>
     refine jm 2 (be _) eP (ahs d O ps 0) (dN (g1 fun h=>⟨all_nil,?_⟩) (dK (g1 fun h=>⟨all_nil,fun T eu=>k2 (by have:=rG h;omega) T (kF.norm eu)⟩)));have q:=kA h;refine dY dJ (fJ (i:=1) dJ ?_);refine jm 2 (be _) eP (ahw d O ps 0 (ps.getD 0 0)) (dK (g0 ⟨X (iI q) (X (eI _) (eO (fP q))),?_⟩));have A:=DV q [ps.getD 0 0] (by simp);generalize ps.getD 0 0=k at *;exact eJ.own [(5,.i64)] (dF:=sO 4 (Hq d O 1 [k]) 6 ps 0 [(8,R k)]) dJ _ _ A
    |succ i=>
     have Nq:((ps.take (i+1)).flatMap f)≠[]:=fun e=>by
      have C:=aG List.length e;rw[ow (show i<ps.length by omega),Ip]at C;simp at C
     refine jm 2 (be _) eP (aht d O _ _ ps (i+1)) (dN (g1 fun h=>⟨all_nil,?_⟩) (dK (g1 fun h=>⟨all_nil,fun T eu=>k2 (by have:=rG h;omega) T (kF.norm eu)⟩)));have q:=kA h;have kZ:=zm (f:=f) q;rw[Ip,aN]at kZ;have vN:((ps.take (i+1)).flatMap f).length<=((ps.take (i+1)).flatMap f).length:=by exact aK _
     refine dY dJ (fJ (i:=1) dJ ?_);have hcm:=DV q;generalize ((ps.take (i+1)).flatMap f)=cu at *;have hp:0<cu.length:=List.length_pos_iff.2 Nq;have C:=ahx d O cu.length cu ps (i+1) (ps.getD (i+1) 0);rw[Hr cu _ _ rfl,show cu.length+1=(cu++[ps.getD (i+1) 0]).length by rw[az];rfl]at C;refine jm 2 (be _) eP C (dK (g0 ⟨X (iI q) (X (eI _) (X (fP q) (X hp (X S (X fg (eO (GI (by rw[az,bS];omega)))))))),?_⟩));exact hcm _ rfl
  . cases wo:ps.length with
    |zero=>
     rw[wo]at eu;obtain⟨rfl,rfl⟩:=g0' (cS.1 wo);exact⟨_,eu,VS dJ⟩
    |succ i=>
     rw[wo]at eu;obtain⟨rfl,rfl⟩:=g1' (fun e=>by rw[e]at wo;cases wo);have e:List.take (i+1) ps=ps:=by rw[<- wo,br]
     have rP:kF 5 NO T (sO 4 (Hq d O ((ps.take (i+1)).flatMap f).length ((ps.take (i+1)).flatMap f)) 6 ps (i+1) []):=eu;rw[e]at rP;refine⟨_,rP,VS ?_⟩;generalize List.flatMap f ps=cu;kernel_rfl
 refine⟨fun e=>?_,fun e=>?_⟩
 . have hn:y.kids=[]:=Classical.byContradiction fun q=>M2 q e;exact orL (qI _ _ (fun _=>⟨rfl,rfl⟩) fun q=>absurd hn q)
 . exact orL (qI _ _ (fun q=>absurd (by rw[q];rfl) e) fun _=>⟨rfl,rfl⟩)
section
variable{d:Dc}(h:jz d)
include h
theorem OL(O:vD)(K:uF d O)(hd:D5 d):∀(n:Nat) (x:Int) (m:Nat) (W:List Int),jq d.ly x=some m->yY d.ly false x<n->W≠[]->W.length+(iH d.ly n x).length<=1000000->OrB d O x W (iH d.ly n x):=by
 intro n
 induction n with
 |zero=>intro _ _ _ _ hr;exact absurd hr (bE _)
 |succ n ih=>
  intro x m W L hr CM hl;obtain⟨fj,hid,oJ⟩:=iG L;have hL:=kR K L;have e:iH d.ly (n+1) x=(d.at m).kids.flatMap fun k=>k::iH d.ly n k:=by show(match jq d.ly x with|some m=>(d.ly.getD m gM).kids.flatMap (fun k=>k::iH d.ly n k)|none=>[])=_;rw[L];rfl
  rw[e]at hl ⊢;refine SO CM hL (fun i hi pP h1 C=>?_) hl (hd.kids _ oJ);have hk:=tZ hi;obtain⟨AU,⟨q,hq⟩,_⟩:=h.LU oJ hk;have hs:=Jn h.a (we (g:=d.at m) (by rw[show(d.at m).id=x from hid];exact L) rfl (by rw[show(d.at m).kd=2 from AU];decide) hk false);rw[show(d.at m).id=x from hid]at hs;exact ih _ q pP hq (by have:yY d.ly false ((d.at m).kids.getD i 0)<yY d.ly false x:=hs;omega) h1 C
theorem OM(O:vD)(K:uF d O)(hd:D5 d)(n:Nat)(x:Int)(m:Nat)(L:jq d.ly x=some m)(hr:yY d.ly false x<n+1)(hl:(iH d.ly (n+1) x).length<=1000000):OrZ d O x (iH d.ly (n+1) x):=by
 obtain⟨fj,hid,oJ⟩:=iG L;have hL:=kR K L;have e:iH d.ly (n+1) x=(d.at m).kids.flatMap fun k=>k::iH d.ly n k:=by show(match jq d.ly x with|some m=>(d.ly.getD m gM).kids.flatMap (fun k=>k::iH d.ly n k)|none=>[])=_;rw[L];rfl
 rw[e]at hl ⊢;refine SP hL (fun i hi pP h1 C=>?_) hl (hd.kids _ oJ);have hk:=tZ hi;obtain⟨AU,⟨q,hq⟩,_⟩:=h.LU oJ hk;have hs:=Jn h.a (we (g:=d.at m) (by rw[show(d.at m).id=x from hid];exact L) rfl (by rw[show(d.at m).kd=2 from AU];decide) hk false);rw[show(d.at m).id=x from hid]at hs;exact OL h O K hd n _ q pP hq (by have:yY d.ly false ((d.at m).kids.getD i 0)<yY d.ly false x:=hs;omega) h1 C
end
noncomputable def xT(d:Dc):List Int:=if TD d=true then iH d.ly 100 d.root else[]
set_option maxRecDepth 10000
def tT(d:Dc)(x:Int):List Int:=x::iH d.ly 100 x
theorem zn(y:Int)(f:Int->List Int):∀W:List Int,(W.flatMap f).count y=(W.map fun k=>(f k).count y).sum
 | []=>rfl
 |k::W=>by rw[List.flatMap_cons,List.count_append,b9,List.sum_cons,zn y f W]
theorem M3(g h:Int->Nat):∀W:List Int,(W.map fun k=>g k+h k).sum=(W.map g).sum+(W.map h).sum
 | []=>rfl
 |k::W=>by simp only[b9,List.sum_cons,M3 g h W];omega
theorem M4(y:Int):∀W:List Int,(W.map fun k=>if k=y then 1 else 0).sum=W.count y
 | []=>rfl
 |k::W=>by
  rw[b9,List.sum_cons,M4 y W,List.count_cons];by_cases q:k=y
  . simp[q];omega
  . simp[q]
theorem xU{f g:Int->List Int}:∀{W:List Int},(∀k∈W,f k=g k)->W.flatMap f=W.flatMap g
 | [],_=>rfl
 |k::W,h=>by rw[List.flatMap_cons,List.flatMap_cons,h k (by simp),xU fun k hk=>h k (by simp[hk])]
section
variable{d:Dc}(h:jz d)
include h
theorem uw(x:Int):yY d.ly false x<99:=by
 unfold yY;have:=mV d.ly false x;have:=lT h.k;have:=h.Tz;omega
theorem LW:∀(n k:Nat) (x:Int),yY d.ly false x<n->yY d.ly false x<k->iH d.ly n x=iH d.ly k x
 |0,_,_,h1,_=>absurd h1 (bE _)
 |_+1,0,_,_,C=>absurd C (bE _)
 |n+1,k+1,x,h1,C=>by
  show(match jq d.ly x with|some m=>(d.ly.getD m gM).kids.flatMap (fun j=>j::iH d.ly n j)|none=>[])=(match jq d.ly x with|some m=>(d.ly.getD m gM).kids.flatMap (fun j=>j::iH d.ly k j)|none=>[]);cases L:jq d.ly x with
  |none=>rfl
  |some m=>
   obtain⟨_,hid,oJ⟩:=iG L;refine xU fun j hj=>?_;obtain⟨AU,_,_⟩:=h.LU oJ hj;have hs:=Jn h.a (we (g:=d.ly.getD m gM) (by rw[hid];exact L) rfl (by rw[AU];decide) hj false);rw[hid]at hs;rw[LW n k j S S]
theorem zo{x:Int}{m:Nat}(L:jq d.ly x=some m):iH d.ly 100 x=(d.at m).kids.flatMap (tT d):=by
 show(match jq d.ly x with|some m=>(d.ly.getD m gM).kids.flatMap (fun j=>j::iH d.ly 99 j)|none=>[])=_;rw[L];exact xU fun j _=>by unfold tT;rw[LW h 99 100 j (uw h j) (by have:=uw h j;omega)]
theorem AL{x:Int}{m:Nat}(L:jq d.ly x=some m){k:Int}(hk:k∈(d.at m).kids):yY d.ly false k<yY d.ly false x/\∃q,jq d.ly k=some q:=by
 obtain⟨_,hid,oJ⟩:=iG L;obtain⟨C,KK,_⟩:=h.LU oJ hk;have hs:=Jn h.a (we (g:=d.at m) (by rw[show(d.at m).id=x from hid];exact L) rfl (by rw[show(d.at m).kd=2 from C];decide) hk false);rw[show(d.at m).id=x from hid]at hs;exact⟨hs,KK⟩
theorem SQ:∀(n:Nat) (x:Int),yY d.ly false x<n->(∃m,jq d.ly x=some m)->∀z∈tT d x,∃q,jq d.ly z=some q
 |0,_,hr,_,_,_=>absurd hr (bE _)
 |n+1,x,hr,⟨m,L⟩,z,hz=>by
  rcases aA.1 hz with rfl|q
  . exact⟨m,L⟩
  . rw[zo h L]at q;obtain⟨k,hk,hz⟩:=List.mem_flatMap.1 q;obtain⟨k1,k2⟩:=AL h L hk;exact SQ n k S k2 z hz
theorem JP:∀(n:Nat) (x:Int),yY d.ly false x<n->(∃m,jq d.ly x=some m)->(tT d x).count d.root=if x=d.root then 1 else 0
 |0,_,hr,_=>absurd hr (bE _)
 |n+1,x,hr,⟨m,L⟩=>by
  obtain⟨_,hid,oJ⟩:=iG L;have h0:(iH d.ly 100 x).count d.root=0:=by
   rw[zo h L,zn];have:∀W:List Int,(∀k∈W,(tT d k).count d.root=0)->(W.map fun k=>(tT d k).count d.root).sum=0:=fun W=>by
    induction W with
    |nil=>intro _;rfl
    |cons k W ih=>intro hk;rw[b9,List.sum_cons,hk k (by simp),ih fun k q=>hk k (by simp[q])]
   refine this _ fun k hk=>?_;obtain⟨k1,k2⟩:=AL h L hk;rw[JP n k S k2,aD (h.LU oJ hk).2.2]
  unfold tT;rw[List.count_cons,h0];simp
theorem M5{y:Int}{g:eV}{j:Nat}(hg:g∈d.ly)(C:g.kd=2)(hj:j<g.kids.length)(hy:g.kids.getD j 0=y):∀(n:Nat) (x:Int),yY d.ly false x<n->(∃m,jq d.ly x=some m)->(tT d x).count y=(if x=y then 1 else 0)+(tT d x).count g.id
 |0,_,hr,_=>absurd hr (bE _)
 |n+1,x,hr,⟨m,L⟩=>by
  obtain⟨_,hid,oJ⟩:=iG L;have hyk:y∈g.kids:=hy▸tZ hj;obtain⟨_,hyx,hyr⟩:=h.LU hg hyk;have A:=h.D4 hyx hyr;have hp:=zl C hj hy A hg;have Gg:(d.at m).kids.count y=if x=g.id then 1 else 0:=by
   by_cases q:x=g.id
   . rw[aF q];obtain⟨m2,e1,e2⟩:=h.atG hg;rw[<- q,L]at e1;obtain rfl:m=m2:=by simpa using e1
     have e3:(d.at m)=g:=e2;rw[e3];have u1:0<g.kids.count y:=List.count_pos_iff.2 hyk;have u2:g.kids.count y<=1:=by
      rw[<- A];unfold lD;exact List.Sublist.count_le y (List.sublist_flatten_of_mem (bP.2 ⟨g,hg,rfl⟩))
     omega
   . rw[aD q,List.count_eq_zero];intro ahG;obtain⟨i,hi,e⟩:=ck ahG;have e2:(d.at m).kids.getD i 0=y:=by rw[ax,au hi];exact e
     have:=zl (x:=d.at m) (h.LU oJ ahG).1 hi e2 A oJ;rw[hp]at this;simp only[aq,aB]at this;exact q (by rw[this.1];exact hid.symm)
  have hs:(iH d.ly 100 x).count y=(d.at m).kids.count y+(iH d.ly 100 x).count g.id:=by
   rw[zo h L,zn,zn,<- M4 y,<- M3];congr 1;refine List.map_congr_left fun k hk=>?_;obtain⟨k1,k2⟩:=AL h L hk;exact M5 hg C hj hy n k S k2
  unfold tT;rw[List.count_cons,List.count_cons,hs,Gg];simp only[ct];omega
theorem zq:∃n,jq d.ly d.root=some n:=by
 have Xv:=(sP h.w).2.2.2;unfold mC at Xv;cases hn:jq d.ly d.root with
 |some n=>exact⟨n,rfl⟩
 |none=>rw[hn]at Xv;cases Xv
theorem Hs:∀(b:Nat) (y:Int),100<=b+yY d.ly false y->(∃n,jq d.ly y=some n)->(tT d d.root).count y=1
 |0,y,U,_=>by have:=uw h y;omega
 |b+1,y,U,KK=>by
  by_cases q:y=d.root
  . rw[q,JP h 99 d.root (uw h _) (zq h),aF rfl]
  . obtain⟨g,hg,j,C,hj,e,_⟩:=h.par KK q;obtain⟨m,e1,e2⟩:=h.atG hg;have hk:=AL h (x:=g.id) e1 (k:=y) (by rw[show d.at m=g from e2,<- e];exact tZ hj);rw[M5 h hg C hj e 99 d.root (uw h _) (zq h),aD (fun z=>q z.symm),Hs b g.id S ⟨m,e1⟩]
theorem VT:(tT d d.root).Nodup:=by
 rw[List.nodup_iff_count];intro z;by_cases q:z∈tT d d.root
 . rw[Hs h 100 z (Nat.le_add_right _ _) (SQ h 99 d.root (uw h _) (zq h) z q)];exact aK _
 . rw[List.count_eq_zero.2 q];exact aR _
theorem atp{x:eV}(K:x∈d.ly):x.id∈tT d d.root:=by
 obtain⟨m,e1,_⟩:=h.atG K;exact List.count_pos_iff.1 (by rw[Hs h 100 x.id (Nat.le_add_right _ _) ⟨m,e1⟩];exact Nat.one_pos)
theorem Xx:(tT d d.root).length=d.ly.length:=by
 have hp:List.Perm (tT d d.root) (d.ly.map (·.id)):=by
  rw[List.perm_ext_iff_of_nodup (VT h) h.uniq];intro z;constructor
  . intro hz;obtain⟨q,hq⟩:=SQ h 99 d.root (uw h _) (zq h) z hz;obtain⟨_,hid,oJ⟩:=iG hq;exact bP.2 ⟨_,oJ,hid⟩
  . intro hz;obtain⟨x,K,rfl⟩:=bP.1 hz;exact atp h K
 have:=hp.length_eq;rwa [bM]at this
theorem LX{W:List Int}{j:Nat}(hj:j<W.length)(f:Int->List Int):W.flatMap f=(W.take j).flatMap f++f (W.getD j 0)++(W.drop (j+1)).flatMap f:=by
 rw[<- ow hj,<- List.flatMap_append,dj]
theorem M6:∀(b:Nat) (y:Int),100<=b+yY d.ly false y->(∃n,jq d.ly y=some n)->∃hc aj,tT d d.root=hc++tT d y++aj
 |0,y,U,_=>by have:=uw h y;omega
 |b+1,y,U,KK=>by
  by_cases q:y=d.root
  . exact⟨[],[],by rw[q];simp⟩
  . obtain⟨g,hg,j,C,hj,e,_⟩:=h.par KK q;obtain⟨m,e1,e2⟩:=h.atG hg;have hk:=AL h (x:=g.id) e1 (k:=y) (by rw[show d.at m=g from e2,<- e];exact tZ hj);obtain⟨hc,aj,hAB⟩:=M6 b g.id S ⟨m,e1⟩;have hT:tT d g.id=(g.id::(g.kids.take j).flatMap (tT d))++tT d y++(g.kids.drop (j+1)).flatMap (tT d):=by
     conv=>lhs;unfold tT
     rw[zo h e1,show d.at m=g from e2,LX h hj (tT d),e];simp
    exact⟨hc++(g.id::(g.kids.take j).flatMap (tT d)),(g.kids.drop (j+1)).flatMap (tT d)++aj,by rw[hAB,hT];simp⟩
end
section
variable{d:Dc}(h:jz d)
include h
end
set_option maxRecDepth 10000
def mTz:List (FuncId×ag×V):=[(8,[],.bool true)]
theorem aby:fo ak (Mj mTz):=Qd fun x K=>by
 simp only[mTz,aA,aH,bq]at K;subst K;exact san
set_option maxRecDepth 10000
theorem abz{d:Dc}(h:jz d):(gU d).1=0:=by
 unfold gU;rw[aF h.w,gW (f:=Ld d) fun j hj=>by unfold Ld;rw[h.f _ (vw hj)];rfl];simp only;rw[gW (f:=B8 d) fun j hj=>by unfold B8;rw[h.k _ (vw hj)];rfl];simp only;rw[gW (f:=AE d) fun j hj=>h.c _ (vw hj)];simp only;rw[gW (f:=Oj d) fun j hj=>h.a _ (vw hj)];simp only;rw[aD (by have:=h.g;omega)]
theorem atr(xs:List Int)(d:Dc):H (M (fa 34 [fD xs,J 8] d.v ew) []) [] 0 Tryz.f10 [] (dQ Tryz.f10) (dI [fD xs] .nil 0)
  [([],[V.jj [fD xs,J 8]=[fD xs,J 8]],.ret d.v .nil 0)]:=G.Y
theorem abA(xs:List Int):ee ak 10 [fD xs] (Bs xs 8).v:=by
 have h:=Z5 xs 8 fg;generalize Bs xs 8=d at *;exact fc Tryz.func10 (eR (ff h (be _)) (atr xs d) (dK (g0 ⟨eO rfl,_,_,_,rfl,rfl⟩)))
section
variable{d:Dc}(h:jz d)
include h
end
set_option maxRecDepth 10000
section
variable{d:Dc}(h:jz d)
include h
theorem FA:(iH d.ly 100 d.root).length+1=d.ly.length:=by
 have:=Xx h;unfold tT at this;rwa [aN]at this
theorem abB(hd:B9 d):ee ak 18 [d.v] (fD (iH d.ly 100 d.root)):=by
 have hV:=DS hd h.bd (abz h);have K:=M1 d;change uF d (oA d)at K;obtain⟨n,hn⟩:=zq h;have jJ:=FA h;have U:=h.Tz.2.1;have hO:=OM h (oA d) K hd.m 99 d.root n hn (by have:=uw h d.root;omega) (by show(iH d.ly 100 d.root).length<=_;omega);change OrZ d (oA d) d.root (iH d.ly 100 d.root)at hO;generalize oA d=O at *;generalize iH d.ly 100 d.root=o at *;by_cases q:o=[]
 . subst q;have:=fc (v:=.fk none 0 0 0) Tryz.func18 (eR (fq hV (fq (hO.1 rfl) (be _))) (ahD d O) (dK (g0 ⟨X rfl (X rfl (X rfl (X rfl (X rfl (eO rfl))))),_,_,_,rfl,rfl⟩)));exact this.nl
 . exact mz Tryz.func18 (eR (fq hV (fq (hO.2 q) (be _))) (ahE d O o.length o) (dK (g0 ⟨X rfl (X rfl (X rfl (X rfl (X rfl (eO rfl))))),_,_,_,rfl,.Am (v0:=fD o) [0] (hc:=[(eL o).length=o.length*1]) dJ (eO (eI _)) dJ dJ⟩)))
end
end Go.Proofs.YtmjggdmekboefaaGreat
