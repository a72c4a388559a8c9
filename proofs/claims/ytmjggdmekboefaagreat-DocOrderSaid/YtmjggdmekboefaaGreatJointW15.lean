/- The Doc laws: the program's test of a layer's fields: contract. No conditions. -/
import Derived.Test.YtmjggdmekboefaaGreatJointW14
set_option linter.unusedVariables false
set_option linter.unusedSimpArgs false
set_option linter.unusedSectionVars false
namespace Go.Proofs.YtmjggdmekboefaaGreat
open Go Go.Eng
set_option maxRecDepth 10000
def Aa(n:Int):Prop:= -9223372036854775808<=n/\n<=9223372036854775807
structure K1(f:FL):Prop where
 k:Aa f.k
 r:Aa f.r
 dv:Aa f.dv
 vl:Aa f.vl
theorem Zn:jK ak 63 (Go.Eng.dW K0):=by
 refine Ph (az C) fun ds aj v e hA=>?_;unfold K0 at e;split at e
 case h_2=>cases e
 rename_i k r n eM dv vl m cu;obtain⟨rfl,rfl⟩:=sm e;have e1:eM=dO (ee eM):=hA _ (by simp);have e2:n=(ee eM).length:=hA (n=(ee eM).length) (by simp);have e3:n<=1000000:=hA (n<=1000000) (by simp);have e4:cu=dO (ee cu):=hA (cu=dO (ee cu)) (by simp);have e5:m=(ee cu).length:=hA (m=(ee cu).length) (by simp);have e6:m<=1000000:=hA (m<=1000000) (by simp);generalize ee eM=l at *;generalize ee cu=q at *;subst e1 e2 e4 e5;exact Qb ⟨k,r,l,dv,vl,q⟩ (by show l.length<=_;omega) (by show q.length<=_;omega)
theorem Dp:eU ak Wfb:=fC Zn (di _)
theorem mH(n:Int)(h:Aa n)(t u:aa):dN n++t=0::u↔n=0/\t=u:=by
 obtain⟨Q,O⟩:=h;have hz:dN 0=[0]:=by decide
 constructor
 . intro e;have hw:IntKind.u64.wrap n=if n<0 then n+18446744073709551616 else n:=by
    unfold IntKind.wrap;have e1:(2^IntKind.u64.bits:Int)=18446744073709551616:=by decide
    have e3:IntKind.u64.signed=false:=rfl;simp only[e1,e3,aS,aM,cz];split<;>omega
   have hu:IntKind.u64.wrap n=0:=by
    unfold dN at e;generalize IntKind.u64.wrap n=u at e hw;have hu0:0<=u/\u<18446744073709551616:=by rw[hw];split<;>omega
    by_cases c:128<=u
    . exfalso;have:zH 9 u=NW u::zH 8 (u.fdiv 128):=by
       show(if 128<=u then _ else _)=_;rw[aG c]
      rw[this]at e;have e:UInt8.ofNat (NW u).toNat::_=0::_:=e;injection e with e _;have hh:128<=(NW u).toNat/\(NW u).toNat<256:=by
       unfold NW;generalize hb:BitVec.ofInt 8 (IntKind.u8.wrap u)=b;have NP:BitVec.ofInt 8 (128:Int)=128#8:=by decide
       rw[NP];have h3:128<=(b|||128#8).toNat:=by
        have:∀b:BitVec 8,128<=(b|||128#8).toNat:=by decide
        exact this b
       have h4:=(b|||128#8).isLt;generalize (b|||128#8).toNat=z at h3 h4;unfold IntKind.wrap;have e1:(2^IntKind.u8.bits:Int)=256:=by decide
       have e3:IntKind.u8.signed=false:=rfl;simp only[e1,e3,aS,aM,cz,gQ];omega
      have e2:=aI UInt8.toNat e;simp[UInt8.toNat_ofNat']at e2;omega
    . rw[If c]at e;have e:UInt8.ofNat (loB u).toNat::_=0::_:=e;injection e with e _;have e2:=aI UInt8.toNat e;unfold loB at e2;have hw8:IntKind.u8.wrap u=u:=by
       unfold IntKind.wrap;have e1:(2^IntKind.u8.bits:Int)=256:=by decide
       have e3:IntKind.u8.signed=false:=rfl;simp only[e1,e3,aS,aM,cz];omega
      rw[hw8]at e2;simp[UInt8.toNat_ofNat']at e2;omega
   have hn:n=0:=by rw[hw]at hu;split at hu<;>omega
   subst hn;rw[hz]at e;injection e with _ e;exact⟨rfl,e⟩
 . rintro⟨rfl,rfl⟩;rw[hz];rfl
section
variable(x:eJ)(f:FuncId){fn:Func}(rest:ag)(m:Bool)(p:Int×Int)
theorem K2(a:Int)(l:List Int):fS (a::l)=dN a++fS l:=by unfold fS;simp
theorem tG(f:FL)(h:K1 f)(Q:f.eM.length<=1000000)(O:f.cu.length<=1000000):lO (fW f) (fW tW)=tD f:=by
 have hz:fW tW=[0,0,0,0,0,0]:=by decide
 rw[kA,Bool.eq_iff_iff,cG,hz];have e:fW f=dN f.k++(dN f.r++(dN (Int.ofNat f.eM.length)++(fS f.eM++(dN f.dv++(dN f.vl++(dN (Int.ofNat f.cu.length)++fS f.cu)))))):=by
  unfold fW;simp only[K2,de];have:fS []=[]:=rfl;rw[this,cP,cP]
 have b1:Aa (Int.ofNat f.eM.length):=by unfold Aa;simp only[gQ];omega
 have b2:Aa (Int.ofNat f.cu.length):=by unfold Aa;simp only[gQ];omega
 rw[e,mH _ h.k,mH _ h.r,mH _ b1];unfold tD nN;simp only[ay,cG];constructor
 . rintro⟨k1,k2,k3,k4⟩;have W:f.eM=[]:=cE.2 (by simp only[gQ]at k3;omega);rw[W,show fS []=[]from rfl,cP,mH _ h.dv,mH _ h.vl]at k4;have h3:=(mH _ b2 (fS f.cu) []).1 (by rw[k4.2.2]);exact⟨k1,k2,k4.1,k4.2.1,k3,h3.1⟩
 . rintro⟨k1,k2,k3,k4,k5,k6⟩;have W:f.eM=[]:=cE.2 (by simp only[gQ]at k5;omega);have B:f.cu=[]:=cE.2 (by simp only[gQ]at k6;omega);refine⟨k1,k2,k5,?_⟩;rw[W,B,show fS []=[]from rfl,cP,mH _ h.dv,mH _ h.vl];exact⟨k3,k4,eY⟩
def UE(d:Dc)(T:List (Eng.D×Eng.D))(v:V):Prop:=Ra ak f (oB (IJ rest d T v))
def RA(d:Dc)(T:List (Eng.D×Eng.D))(p:Int×Int):Prop:=(p.1=0->mh f rest d T (.gw []))/\(p.1≠0->UE f rest d T (DD p))
def ae2:pO:=if p.1=0 then .ret (.gw [])else .nr (DD p)
abbrev RX(fn:Func)(d:Dc)(T:List (Eng.D×Eng.D))(p:Int×Int):Exit->St->Prop:=Dm ak 2 fn fun o b c=>o=ae2 p/\b=lR d T/\c=2
theorem VW{f:FuncId}{fn:Func}{rest:ag}{d:Dc}{T:List (Eng.D×Eng.D)}{p:Int×Int}(hf:Tryz.prog.funcs[f]? =some fn)(hT:TG ak 2 fn.ntmps (dI fn) (dy (pT::rest) (lR d T) 2) (RX fn d T p))
  (eO:Nat.blt f Tryz.prog.funcs.size=true:=by kernel_rfl) (hb:fn.body=some (dI fn):=by kernel_rfl) (l:(Nat.ble (pT::rest).length fn.ntmps&&Nat.blt fn.ntmps fZ)=true:=by kernel_rfl):RA f rest d T p:=by
 have key:∀(v:V) (wr:V->pO),ae2 p=wr v->(∀args h k aj v' h' k',IJ rest d T v args h k=some (aj,v',h',k')->(∀a∈aj,a)->(Nat.ble args.length fn.ntmps&&Nat.blt fn.ntmps fZ)=true/\TG ak k fn.ntmps (dI fn) (dy args h k) (Dm ak k fn fun a b c=>a=wr v'/\b=h'/\c=k')):=fun v wr hw args h k aj v' h' k' e hA=>by
  simp only[IJ,aq,aF]at e;obtain⟨rfl,rfl,rfl,rfl⟩:=e;have Q:args=pT::rest:=hA _ (by simp);have O:h=lR d T:=hA (h=lR d T) (by simp);have h3:k=2:=hA (k=2) (by simp);subst Q O h3;exact⟨l,hw▸hT⟩
 refine⟨fun h=>?_,fun h=>?_⟩
 . exact Rd mo po .ret Gq (az eO) hf hb (key _ .ret (aG h))
 . exact Rd mo po .nr YJ (az eO) hf hb (key _ .nr (aB h))
theorem DF{fm:Bool->St}{β v:Bool}(h:β=v):jL.to .normal (fm v)=jL.to .normal (fm β):=by rw[h]
theorem pz{d:Dc}{T:List (Eng.D×Eng.D)}{p q:Int×Int}{s:St}{ch:List PanicEntry}(hp:Bg (DD q) ch)(e:Nu ak 2 fn s (.nr (DD q) false)=some (.nr (DD q),lR d T,2))(h:p=q)(h0:q.1≠0):RX fn d T p (.panic ch) s:=
 .Dn hp e ⟨by rw[h];exact(aB h0).symm,rfl,rfl⟩
def opB:Bool:=!(decide (x.op<0)||(decide (x.op>255)||(decide (x.md<0)||decide (x.md>15))))
def mkB:Bool:=m&&(x.K||nN x.iH.length)
theorem ae3:ba x m=!(opB x&&mkB x m):=by
 unfold ba opB mkB nN;have:decide (Int.ofNat x.iH.length>0)=!(Int.ofNat x.iH.length==(0:Int)):=by
  rw[Bool.eq_iff_iff];simp only[aY,bV,b5,gQ];omega
 rw[this];generalize decide (x.op<0)=a;generalize decide (x.op>255)=b;generalize decide (x.md<0)=c;generalize decide (x.md>15)=e;generalize (Int.ofNat x.iH.length==(0:Int))=f;generalize x.K=g;cases a<;>cases b<;>cases c<;>cases e<;>cases f<;>cases g<;>cases m<;>rfl
def u51:Bool:=nN x.kids.length&&((x.of==(0:Int))&&(F2 x.fi&&nN x.gW.length))
theorem un1:GO (eP x 1)=(u51 x&&tD x.f):=by
 show F4 1 x=_;unfold F4 u51;generalize uY x.pl=a;generalize (x.sp==(0:Int))=b;generalize nN x.gd.length=c;generalize nN x.kids.length=e;generalize (x.of==(0:Int))=f;generalize tD x.f=g;generalize nN x.gW.length=h;generalize F2 x.fi=i;cases a<;>cases b<;>cases c<;>cases e<;>cases f<;>cases g<;>cases h<;>cases i<;>rfl
def u52:Bool:=uY x.pl&&((x.sp==(0:Int))&&(nN x.gd.length&&((x.of==(0:Int))&&(F2 x.fi&&nN x.gW.length))))
theorem un2:GO (eP x 2)=(u52 x&&tD x.f):=by
 show F4 2 x=_;unfold F4 u52;generalize uY x.pl=a;generalize (x.sp==(0:Int))=b;generalize nN x.gd.length=c;generalize nN x.kids.length=e;generalize (x.of==(0:Int))=f;generalize tD x.f=g;generalize nN x.gW.length=h;generalize F2 x.fi=i;cases a<;>cases b<;>cases c<;>cases e<;>cases f<;>cases g<;>cases h<;>cases i<;>rfl
def u53:Bool:=uY x.pl&&((x.sp==(0:Int))&&(nN x.gd.length&&(nN x.kids.length&&((x.of==(0:Int))&&(F2 x.fi&&nN x.gW.length)))))
theorem un3:GO (eP x 3)=u53 x:=by
 show F4 3 x=_;unfold F4 u53;generalize uY x.pl=a;generalize (x.sp==(0:Int))=b;generalize nN x.gd.length=c;generalize nN x.kids.length=e;generalize (x.of==(0:Int))=f;generalize tD x.f=g;generalize nN x.gW.length=h;generalize F2 x.fi=i;cases a<;>cases b<;>cases c<;>cases e<;>cases f<;>cases g<;>cases h<;>cases i<;>rfl
def u54:Bool:=(x.sp==(0:Int))&&(nN x.gd.length&&(nN x.kids.length&&(F2 x.fi&&nN x.gW.length)))
theorem un4:GO (eP x 4)=(u54 x&&tD x.f):=by
 show F4 4 x=_;unfold F4 u54;generalize uY x.pl=a;generalize (x.sp==(0:Int))=b;generalize nN x.gd.length=c;generalize nN x.kids.length=e;generalize (x.of==(0:Int))=f;generalize tD x.f=g;generalize nN x.gW.length=h;generalize F2 x.fi=i;cases a<;>cases b<;>cases c<;>cases e<;>cases f<;>cases g<;>cases h<;>cases i<;>rfl
def u55:Bool:=uY x.pl&&((x.sp==(0:Int))&&(nN x.gd.length&&(nN x.kids.length&&(x.of==(0:Int)))))
theorem un5:GO (eP x 5)=(u55 x&&tD x.f):=by
 show F4 5 x=_;unfold F4 u55;generalize uY x.pl=a;generalize (x.sp==(0:Int))=b;generalize nN x.gd.length=c;generalize nN x.kids.length=e;generalize (x.of==(0:Int))=f;generalize tD x.f=g;generalize nN x.gW.length=h;generalize F2 x.fi=i;cases a<;>cases b<;>cases c<;>cases e<;>cases f<;>cases g<;>cases h<;>cases i<;>rfl
end
section
variable{d:Dc}{T:List (Eng.D×Eng.D)}{p:Int×Int}
noncomputable abbrev NF:Nat:=Tryz.f93.ntmps
theorem RD(x:eJ)(W:∀e,bs d.sp.length x=true->e=23->p=(e,x.id))(h:bs d.sp.length x=false->TG ak 2 NF (dr 13 gq) (jq d T x []) (RX Tryz.f93 d T p)):TG ak 2 NF (dr 12 gq) (jq d T x []) (RX Tryz.f93 d T p):=by
 refine kr (rC (dF (dr 12 gq))) (di _) (!bs d.sp.length x) (fun b=>jq d T x [(198,.bool b),(200,L x.id)]) 23 x.id [0,3] (jq d T x []) (aqf d T x) ?_ (fun b=>by kernel_rfl) C (fun q=>h (by simpa using q)) (fun q ch hp=>pz hp C (W 23 (by simpa using q) rfl) (show(23:Int)≠0 by decide))
 repeat' (first|exact gH|refine dD ?_ ?_)
 all_goals
  intro B;simp only[aD,aJ,bn,aL,bh,aY,bu]at B;refine⟨all_nil,DF (fm:=fun b=>jq d T x [(198,.bool b),(200,L x.id)]) ?_⟩;unfold bs
  first
  |(rw[aT H,aT H];rfl)
  |(rw[aT H,aZ H];rfl)
  |(rw[aZ H];rfl)
section
variable(x:eJ)
noncomputable def b91:Bool:=cD (fg x.gd)
theorem bc1:bc (eP x 1) (cD (fg x.gd)) (iM x.f) (jF x.gW)=!b91 x:=by
 unfold b91;generalize cD (fg x.gd)=a;generalize iM x.f=b;generalize jF x.gW=c;cases a<;>cases b<;>cases c<;>rfl
theorem ae4(hy:DC x)(W:∀e,b91 x=false->e=1->p=(e,x.id))(h0:b91 x=true->p.1=0):TG ak 2 NF (dr 13 gq) (jq d T (eP x 1) []) (RX Tryz.f93 d T p):=by
 refine IQ (rC (dr 13 gq)) (fu (vG x.gd hy.gd) (di _)) (b91 x) (fun b=>jq d T (eP x 1) [(224,.bool b),(226,L x.id)]) 1 x.id (o1:=.ret (.gw [])) (Q:=lR d T) (n1:=2) (aeH d T x (cD (fg x.gd))) ?_ (fun b=>by kernel_rfl) C (fun q=>⟨(aG (h0 q)).symm,rfl,rfl⟩) (fun q ch hp=>pz hp C (W 1 q rfl) (show(1:Int)≠0 by decide))
 . repeat' (first|exact gH|refine dD ?_ ?_)
   all_goals
    intro B;simp only[aD,aJ,bn,aL,bh]at B
    try exact absurd B.2 Bool.false_ne_true
   all_goals
    refine⟨by first|exact eG rfl|exact S rfl (eG rfl),DF (fm:=fun b=>jq d T (eP x 1) [(224,.bool b),(226,L x.id)]) ?_⟩;unfold b91
    first
    |(rw[B,aN];done)
    |(rw[B,aS];done)
    |(rw[B];done)
    |(rw[B.1,B.2];done)
    |(rw[B.1,B.2];rfl)
    |(rw[B.1];rfl)
noncomputable def b92:Bool:=cD (fg x.gd)
theorem bc2:bc (eP x 2) (cD (fg x.gd)) (iM x.f) (jF x.gW)=!b92 x:=by
 unfold b92;generalize cD (fg x.gd)=a;generalize iM x.f=b;generalize jF x.gW=c;cases a<;>cases b<;>cases c<;>rfl
theorem ae5(hy:DC x)(W:∀e,b92 x=false->e=1->p=(e,x.id))(h0:b92 x=true->p.1=0):TG ak 2 NF (dr 13 gq) (jq d T (eP x 2) []) (RX Tryz.f93 d T p):=by
 refine IQ (rC (dr 13 gq)) (fu (vG x.gd hy.gd) (di _)) (b92 x) (fun b=>jq d T (eP x 2) [(224,.bool b),(226,L x.id)]) 1 x.id (o1:=.ret (.gw [])) (Q:=lR d T) (n1:=2) (aeM d T x (cD (fg x.gd))) ?_ (fun b=>by kernel_rfl) C (fun q=>⟨(aG (h0 q)).symm,rfl,rfl⟩) (fun q ch hp=>pz hp C (W 1 q rfl) (show(1:Int)≠0 by decide))
 . repeat' (first|exact gH|refine dD ?_ ?_)
   all_goals
    intro B;simp only[aD,aJ,bn,aL,bh]at B
    try exact absurd B.2 Bool.false_ne_true
   all_goals
    refine⟨by first|exact eG rfl|exact S rfl (eG rfl),DF (fm:=fun b=>jq d T (eP x 2) [(224,.bool b),(226,L x.id)]) ?_⟩;unfold b92
    first
    |(rw[B,aN];done)
    |(rw[B,aS];done)
    |(rw[B];done)
    |(rw[B.1,B.2];done)
    |(rw[B.1,B.2];rfl)
    |(rw[B.1];rfl)
noncomputable def b93:Bool:=cD (fg x.gd)&&iM x.f
theorem bc3:bc (eP x 3) (cD (fg x.gd)) (iM x.f) (jF x.gW)=!b93 x:=by
 unfold b93;generalize cD (fg x.gd)=a;generalize iM x.f=b;generalize jF x.gW=c;cases a<;>cases b<;>cases c<;>rfl
theorem ae6(hy:DC x)(W:∀e,b93 x=false->e=1->p=(e,x.id))(h0:b93 x=true->p.1=0):TG ak 2 NF (dr 13 gq) (jq d T (eP x 3) []) (RX Tryz.f93 d T p):=by
 refine IQ (rC (dr 13 gq)) (fu (ael x.f hy.eM (bE hy.cu eY)) (fu (vG x.gd hy.gd) (di _))) (b93 x) (fun b=>jq d T (eP x 3) [(224,.bool b),(226,L x.id)]) 1 x.id (o1:=.ret (.gw [])) (Q:=lR d T) (n1:=2) (aeR d T x (cD (fg x.gd)) (iM x.f)) ?_ (fun b=>by kernel_rfl) C (fun q=>⟨(aG (h0 q)).symm,rfl,rfl⟩) (fun q ch hp=>pz hp C (W 1 q rfl) (show(1:Int)≠0 by decide))
 . repeat' (first|exact gH|refine dD ?_ ?_)
   all_goals
    intro B;simp only[aD,aJ,bn,aL,bh]at B
    try exact absurd B.2 Bool.false_ne_true
   all_goals
    refine⟨by first|exact eG rfl|exact S rfl (eG rfl),DF (fm:=fun b=>jq d T (eP x 3) [(224,.bool b),(226,L x.id)]) ?_⟩;unfold b93
    first
    |(rw[B,aN];done)
    |(rw[B,aS];done)
    |(rw[B];done)
    |(rw[B.1,B.2];done)
    |(rw[B.1,B.2];rfl)
    |(rw[B.1];rfl)
noncomputable def b94:Bool:=cD (fg x.gd)
theorem bc4:bc (eP x 4) (cD (fg x.gd)) (iM x.f) (jF x.gW)=!b94 x:=by
 unfold b94;generalize cD (fg x.gd)=a;generalize iM x.f=b;generalize jF x.gW=c;cases a<;>cases b<;>cases c<;>rfl
theorem ae7(hy:DC x)(W:∀e,b94 x=false->e=1->p=(e,x.id))(h0:b94 x=true->p.1=0):TG ak 2 NF (dr 13 gq) (jq d T (eP x 4) []) (RX Tryz.f93 d T p):=by
 refine IQ (rC (dr 13 gq)) (fu (vG x.gd hy.gd) (di _)) (b94 x) (fun b=>jq d T (eP x 4) [(224,.bool b),(226,L x.id)]) 1 x.id (o1:=.ret (.gw [])) (Q:=lR d T) (n1:=2) (aeW d T x (cD (fg x.gd))) ?_ (fun b=>by kernel_rfl) C (fun q=>⟨(aG (h0 q)).symm,rfl,rfl⟩) (fun q ch hp=>pz hp C (W 1 q rfl) (show(1:Int)≠0 by decide))
 . repeat' (first|exact gH|refine dD ?_ ?_)
   all_goals
    intro B;simp only[aD,aJ,bn,aL,bh]at B
    try exact absurd B.2 Bool.false_ne_true
   all_goals
    refine⟨by first|exact eG rfl|exact S rfl (eG rfl),DF (fm:=fun b=>jq d T (eP x 4) [(224,.bool b),(226,L x.id)]) ?_⟩;unfold b94
    first
    |(rw[B,aN];done)
    |(rw[B,aS];done)
    |(rw[B];done)
    |(rw[B.1,B.2];done)
    |(rw[B.1,B.2];rfl)
    |(rw[B.1];rfl)
noncomputable def b95:Bool:=cD (fg x.gd)&&jF x.gW
theorem bc5:bc (eP x 5) (cD (fg x.gd)) (iM x.f) (jF x.gW)=!b95 x:=by
 unfold b95;generalize cD (fg x.gd)=a;generalize iM x.f=b;generalize jF x.gW=c;cases a<;>cases b<;>cases c<;>rfl
theorem ae8(hy:DC x)(W:∀e,b95 x=false->e=1->p=(e,x.id))(h0:b95 x=true->p.1=0):TG ak 2 NF (dr 13 gq) (jq d T (eP x 5) []) (RX Tryz.f93 d T p):=by
 refine IQ (rC (dr 13 gq)) (fu (apk x.gW hy.gW) (fu (vG x.gd hy.gd) (di _))) (b95 x) (fun b=>jq d T (eP x 5) [(224,.bool b),(226,L x.id)]) 1 x.id (o1:=.ret (.gw [])) (Q:=lR d T) (n1:=2) (ae1 d T x (cD (fg x.gd)) (jF x.gW)) ?_ (fun b=>by kernel_rfl) C (fun q=>⟨(aG (h0 q)).symm,rfl,rfl⟩) (fun q ch hp=>pz hp C (W 1 q rfl) (show(1:Int)≠0 by decide))
 . repeat' (first|exact gH|refine dD ?_ ?_)
   all_goals
    intro B;simp only[aD,aJ,bn,aL,bh]at B
    try exact absurd B.2 Bool.false_ne_true
   all_goals
    refine⟨by first|exact eG rfl|exact S rfl (eG rfl),DF (fm:=fun b=>jq d T (eP x 5) [(224,.bool b),(226,L x.id)]) ?_⟩;unfold b95
    first
    |(rw[B,aN];done)
    |(rw[B,aS];done)
    |(rw[B];done)
    |(rw[B.1,B.2];done)
    |(rw[B.1,B.2];rfl)
    |(rw[B.1];rfl)
end
end
set_option maxRecDepth 10000
theorem yL(p:P7):(p.a==(0:Int)&&(p.b==(0:Int)&&(p.c==(0:Int)&&(p.d==(0:Int)&&(p.e==(0:Int)&&(p.f==(0:Int)&&(p.n==(0:Int)&&true)))))))=uY p:=rfl
theorem yM(p:C4):(p.r==(0:Int)&&(p.g==(0:Int)&&(p.b==(0:Int)&&(p.a==(0:Int)&&true))))=F2 p:=rfl
section
variable{d:Dc}{T:List (Eng.D×Eng.D)}{p:Int×Int}
section
variable(x:eJ)
theorem ae9(hy:DC x)(hb:K1 x.f)(h:p=(if GO (eP x 1)=false then 41 else if bp (eP x 1) (AI x.pl)=true then 44 else if bs d.sp.length (eP x 1)=true then 23 else if bc (eP x 1) (cD (fg x.gd)) (iM x.f) (jF x.gW)=true then 1 else 0,x.id)):TG ak 2 NF (dr 5 gq) (jq d T (eP x 1) []) (RX Tryz.f93 d T p):=by
 rw[un1,bc1]at h;refine fF 4 (di _) (aeD d T x) all_nil ?_;refine kr (rC (dF (dr 9 gq))) (di _) (u51 x) (fun b=>mG d T (eP x 1) true (Rz (eP x 1)) [(161,.bool b),(163,L x.id)]) 41 x.id [0,3,4,5] (mG d T (eP x 1) true (Rz (eP x 1)) []) (aeE d T x) ?_ (fun b=>by kernel_rfl) C (fun q5=>?_) (fun q ch hp=>pz hp C (by rw[h,q];rfl) (show(41:Int)≠0 by decide))
 . repeat' (first|exact gH|refine dD ?_ ?_)
   all_goals
    intro B;simp only[aD,aJ,bn,aL,bh,yL,yM]at B;refine⟨?_,DF (fm:=(fun b=>mG d T (eP x 1) true (Rz (eP x 1)) [(161,.bool b),(163,L x.id)])) ?_⟩
    . repeat' (first|exact all_nil|refine S ?_ ?_)
      all_goals exact aI V.bool (by simp)
    . unfold u51 nN;simp only[B,aN,aS,ct,cB]
 rw[q5]at h;have nx:tD x.f=true->TG ak 2 NF (dr 11 gq) (vR d T (eP x 1) true []) (RX Tryz.f93 d T p):=fun q6=>by
  rw[q6]at h;refine kr (rC (dF (dr 11 gq))) (fu (afD x.pl) (di _)) (AI x.pl) (fun b=>jq d T (eP x 1) [(181,.bool b),(183,L x.id)]) 44 x.id [0,3] (jq d T (eP x 1) []) (aeG d T x (AI x.pl)) (dB (g0 ⟨eG rfl,rfl⟩)) (fun b=>by kernel_rfl) C (fun q7=>?_) (fun q ch hp=>pz hp C (by rw[h];unfold bp;rw[q];rfl) (show(44:Int)≠0 by decide));have h7:bp (eP x 1) (AI x.pl)=false:=by unfold bp;rw[q7];rfl
  rw[h7]at h;refine RD (eP x 1) (fun e q he=>?_) fun q9=>?_
  . rw[q]at h;rw[he];exact h
  . rw[q9]at h;refine ae4 x hy (fun e q he=>?_) fun q=>?_
    . rw[q]at h;rw[he];exact h
    . rw[q]at h;rw[h];rfl
 refine kr (rC (dF (dr 10 gq))) Dp (tD x.f) (fun b=>vR d T (eP x 1) true [(171,.bool b),(173,L x.id)]) 41 x.id [0,3,5] (vR d T (eP x 1) true []) (aeF d T x) ?_ (fun b=>by kernel_rfl) C nx (fun q ch hp=>pz hp C (by rw[h,q];rfl) (show(41:Int)≠0 by decide));have e1:dO x.f.eM=dO (ee (dO x.f.eM)):=by rw[fA]
 have e2:x.f.eM.length=(ee (dO x.f.eM)).length:=by rw[fA]
 have e3:dO x.f.cu=dO (ee (dO x.f.cu)):=by rw[fA]
 have e4:x.f.cu.length=(ee (dO x.f.cu)).length:=by rw[fA]
 have e5:lO (fW ⟨x.f.k,x.f.r,ee (dO x.f.eM),x.f.dv,x.f.vl,ee (dO x.f.cu)⟩) (fW ⟨0,0,ee [],0,0,ee []⟩)=tD x.f:=by
  rw[fA,fA];exact tG x.f hb hy.eM hy.cu
 repeat' (first|exact gH|refine dD ?_ ?_)
 all_goals
  intro B;simp only[aD,aJ,bn,aL,bh]at B;refine⟨?_,DF (fm:=(fun b=>vR d T (eP x 1) true [(171,.bool b),(173,L x.id)])) (by rw[<- e5];exact B)⟩
  repeat' (first|exact all_nil|refine S ?_ ?_)
  all_goals first
   |exact e1
   |exact e2
   |exact e3
   |exact e4
   |exact hy.eM
   |exact hy.cu
   |rfl
   |exact aU _
theorem afa(hy:DC x)(hb:K1 x.f)(h:p=(if GO (eP x 2)=false then 41 else if bp (eP x 2) (AI x.pl)=true then 44 else if bs d.sp.length (eP x 2)=true then 23 else if bc (eP x 2) (cD (fg x.gd)) (iM x.f) (jF x.gW)=true then 1 else 0,x.id)):TG ak 2 NF (dr 5 gq) (jq d T (eP x 2) []) (RX Tryz.f93 d T p):=by
 rw[un2,bc2]at h;refine fF 4 (di _) (aeI d T x) all_nil ?_;refine kr (rC (dF (dr 9 gq))) (di _) (u52 x) (fun b=>mG d T (eP x 2) false (Nz (eP x 2)) [(161,.bool b),(163,L x.id)]) 41 x.id [0,3,4,5] (mG d T (eP x 2) false (Nz (eP x 2)) []) (aeJ d T x) ?_ (fun b=>by kernel_rfl) C (fun q5=>?_) (fun q ch hp=>pz hp C (by rw[h,q];rfl) (show(41:Int)≠0 by decide))
 . repeat' (first|exact gH|refine dD ?_ ?_)
   all_goals
    intro B;simp only[aD,aJ,bn,aL,bh,yL,yM]at B;refine⟨?_,DF (fm:=(fun b=>mG d T (eP x 2) false (Nz (eP x 2)) [(161,.bool b),(163,L x.id)])) ?_⟩
    . repeat' (first|exact all_nil|refine S ?_ ?_)
      all_goals exact aI V.bool (by simp)
    . unfold u52 nN;simp only[B,aN,aS,ct,cB]
 rw[q5]at h;have nx:tD x.f=true->TG ak 2 NF (dr 11 gq) (vR d T (eP x 2) false []) (RX Tryz.f93 d T p):=fun q6=>by
  rw[q6]at h;refine kr (rC (dF (dr 11 gq))) (di _) (true) (fun b=>jq d T (eP x 2) [(181,.bool b),(183,L x.id)]) 44 x.id [0,3] (jq d T (eP x 2) []) (aeL d T x) (dB (g0 ⟨all_nil,rfl⟩)) (fun b=>by kernel_rfl) C (fun q7=>?_) (fun q ch hp=>absurd q eY);have h7:bp (eP x 2) (AI x.pl)=false:=by unfold bp;rfl
  rw[h7]at h;refine RD (eP x 2) (fun e q he=>?_) fun q9=>?_
  . rw[q]at h;rw[he];exact h
  . rw[q9]at h;refine ae5 x hy (fun e q he=>?_) fun q=>?_
    . rw[q]at h;rw[he];exact h
    . rw[q]at h;rw[h];rfl
 refine kr (rC (dF (dr 10 gq))) Dp (tD x.f) (fun b=>vR d T (eP x 2) false [(171,.bool b),(173,L x.id)]) 41 x.id [0,3,5] (vR d T (eP x 2) false []) (aeK d T x) ?_ (fun b=>by kernel_rfl) C nx (fun q ch hp=>pz hp C (by rw[h,q];rfl) (show(41:Int)≠0 by decide));have e1:dO x.f.eM=dO (ee (dO x.f.eM)):=by rw[fA]
 have e2:x.f.eM.length=(ee (dO x.f.eM)).length:=by rw[fA]
 have e3:dO x.f.cu=dO (ee (dO x.f.cu)):=by rw[fA]
 have e4:x.f.cu.length=(ee (dO x.f.cu)).length:=by rw[fA]
 have e5:lO (fW ⟨x.f.k,x.f.r,ee (dO x.f.eM),x.f.dv,x.f.vl,ee (dO x.f.cu)⟩) (fW ⟨0,0,ee [],0,0,ee []⟩)=tD x.f:=by
  rw[fA,fA];exact tG x.f hb hy.eM hy.cu
 repeat' (first|exact gH|refine dD ?_ ?_)
 all_goals
  intro B;simp only[aD,aJ,bn,aL,bh]at B;refine⟨?_,DF (fm:=(fun b=>vR d T (eP x 2) false [(171,.bool b),(173,L x.id)])) (by rw[<- e5];exact B)⟩
  repeat' (first|exact all_nil|refine S ?_ ?_)
  all_goals first
   |exact e1
   |exact e2
   |exact e3
   |exact e4
   |exact hy.eM
   |exact hy.cu
   |rfl
   |exact aU _
theorem afb(hy:DC x)(hb:True)(h:p=(if GO (eP x 3)=false then 41 else if bp (eP x 3) (AI x.pl)=true then 44 else if bs d.sp.length (eP x 3)=true then 23 else if bc (eP x 3) (cD (fg x.gd)) (iM x.f) (jF x.gW)=true then 1 else 0,x.id)):TG ak 2 NF (dr 5 gq) (jq d T (eP x 3) []) (RX Tryz.f93 d T p):=by
 rw[un3,bc3]at h;refine fF 4 (di _) (aeN d T x) all_nil ?_;refine kr (rC (dF (dr 9 gq))) (di _) (u53 x) (fun b=>mG d T (eP x 3) false (L5 (eP x 3)) [(161,.bool b),(163,L x.id)]) 41 x.id [0,3,4,5] (mG d T (eP x 3) false (L5 (eP x 3)) []) (aeO d T x) ?_ (fun b=>by kernel_rfl) C (fun q5=>?_) (fun q ch hp=>pz hp C (by rw[h,q];rfl) (show(41:Int)≠0 by decide))
 . repeat' (first|exact gH|refine dD ?_ ?_)
   all_goals
    intro B;simp only[aD,aJ,bn,aL,bh,yL,yM]at B;refine⟨?_,DF (fm:=(fun b=>mG d T (eP x 3) false (L5 (eP x 3)) [(161,.bool b),(163,L x.id)])) ?_⟩
    . repeat' (first|exact all_nil|refine S ?_ ?_)
      all_goals exact aI V.bool (by simp)
    . unfold u53 nN;simp only[B,aN,aS,ct,cB]
 rw[q5]at h;have nx:true=true->TG ak 2 NF (dr 11 gq) (vR d T (eP x 3) false []) (RX Tryz.f93 d T p):=fun q6=>by
  skip
  refine kr (rC (dF (dr 11 gq))) (di _) (true) (fun b=>jq d T (eP x 3) [(181,.bool b),(183,L x.id)]) 44 x.id [0,3] (jq d T (eP x 3) []) (aeQ d T x) (dB (g0 ⟨all_nil,rfl⟩)) (fun b=>by kernel_rfl) C (fun q7=>?_) (fun q ch hp=>absurd q eY);have h7:bp (eP x 3) (AI x.pl)=false:=by unfold bp;rfl
  rw[h7]at h;refine RD (eP x 3) (fun e q he=>?_) fun q9=>?_
  . rw[q]at h;rw[he];exact h
  . rw[q9]at h;refine ae6 x hy (fun e q he=>?_) fun q=>?_
    . rw[q]at h;rw[he];exact h
    . rw[q]at h;rw[h];rfl
 refine kr (rC (dF (dr 10 gq))) Dp true (fun b=>vR d T (eP x 3) false [(171,.bool b),(173,L x.id)]) 41 x.id [0,3,5] (vR d T (eP x 3) false []) (aeP d T x) (dB (g0 ⟨?_,rfl⟩)) (fun b=>by kernel_rfl) C (fun q=>nx q) (fun q ch hp=>absurd q eY);have e1:dO x.f.eM=dO (ee (dO x.f.eM)):=by rw[fA]
 have e2:x.f.eM.length=(ee (dO x.f.eM)).length:=by rw[fA]
 have e3:dO x.f.cu=dO (ee (dO x.f.cu)):=by rw[fA]
 have e4:x.f.cu.length=(ee (dO x.f.cu)).length:=by rw[fA]
 repeat' (first|exact all_nil|refine S ?_ ?_)
 all_goals first
  |exact e1
  |exact e2
  |exact e3
  |exact e4
  |exact hy.eM
  |exact hy.cu
  |exact aI V.bool (by rw[kA];exact beq_self_eq_true _)
theorem afc(hy:DC x)(hb:K1 x.f)(h:p=(if GO (eP x 4)=false then 41 else if bp (eP x 4) (AI x.pl)=true then 44 else if bs d.sp.length (eP x 4)=true then 23 else if bc (eP x 4) (cD (fg x.gd)) (iM x.f) (jF x.gW)=true then 1 else 0,x.id)):TG ak 2 NF (dr 5 gq) (jq d T (eP x 4) []) (RX Tryz.f93 d T p):=by
 rw[un4,bc4]at h;refine fF 4 (di _) (aeS d T x) all_nil ?_;refine kr (rC (dF (dr 9 gq))) (di _) (u54 x) (fun b=>mG d T (eP x 4) true (N4 (eP x 4)) [(161,.bool b),(163,L x.id)]) 41 x.id [0,3,4,5] (mG d T (eP x 4) true (N4 (eP x 4)) []) (aeT d T x) ?_ (fun b=>by kernel_rfl) C (fun q5=>?_) (fun q ch hp=>pz hp C (by rw[h,q];rfl) (show(41:Int)≠0 by decide))
 . repeat' (first|exact gH|refine dD ?_ ?_)
   all_goals
    intro B;simp only[aD,aJ,bn,aL,bh,yL,yM]at B;refine⟨?_,DF (fm:=(fun b=>mG d T (eP x 4) true (N4 (eP x 4)) [(161,.bool b),(163,L x.id)])) ?_⟩
    . repeat' (first|exact all_nil|refine S ?_ ?_)
      all_goals exact aI V.bool (by simp)
    . unfold u54 nN;simp only[B,aN,aS,ct,cB]
 rw[q5]at h;have nx:tD x.f=true->TG ak 2 NF (dr 11 gq) (vR d T (eP x 4) true []) (RX Tryz.f93 d T p):=fun q6=>by
  rw[q6]at h;refine kr (rC (dF (dr 11 gq))) (fu (afD x.pl) (di _)) (AI x.pl) (fun b=>jq d T (eP x 4) [(181,.bool b),(183,L x.id)]) 44 x.id [0,3] (jq d T (eP x 4) []) (aeV d T x (AI x.pl)) (dB (g0 ⟨eG rfl,rfl⟩)) (fun b=>by kernel_rfl) C (fun q7=>?_) (fun q ch hp=>pz hp C (by rw[h];unfold bp;rw[q];rfl) (show(44:Int)≠0 by decide));have h7:bp (eP x 4) (AI x.pl)=false:=by unfold bp;rw[q7];rfl
  rw[h7]at h;refine RD (eP x 4) (fun e q he=>?_) fun q9=>?_
  . rw[q]at h;rw[he];exact h
  . rw[q9]at h;refine ae7 x hy (fun e q he=>?_) fun q=>?_
    . rw[q]at h;rw[he];exact h
    . rw[q]at h;rw[h];rfl
 refine kr (rC (dF (dr 10 gq))) Dp (tD x.f) (fun b=>vR d T (eP x 4) true [(171,.bool b),(173,L x.id)]) 41 x.id [0,3,5] (vR d T (eP x 4) true []) (aeU d T x) ?_ (fun b=>by kernel_rfl) C nx (fun q ch hp=>pz hp C (by rw[h,q];rfl) (show(41:Int)≠0 by decide));have e1:dO x.f.eM=dO (ee (dO x.f.eM)):=by rw[fA]
 have e2:x.f.eM.length=(ee (dO x.f.eM)).length:=by rw[fA]
 have e3:dO x.f.cu=dO (ee (dO x.f.cu)):=by rw[fA]
 have e4:x.f.cu.length=(ee (dO x.f.cu)).length:=by rw[fA]
 have e5:lO (fW ⟨x.f.k,x.f.r,ee (dO x.f.eM),x.f.dv,x.f.vl,ee (dO x.f.cu)⟩) (fW ⟨0,0,ee [],0,0,ee []⟩)=tD x.f:=by
  rw[fA,fA];exact tG x.f hb hy.eM hy.cu
 repeat' (first|exact gH|refine dD ?_ ?_)
 all_goals
  intro B;simp only[aD,aJ,bn,aL,bh]at B;refine⟨?_,DF (fm:=(fun b=>vR d T (eP x 4) true [(171,.bool b),(173,L x.id)])) (by rw[<- e5];exact B)⟩
  repeat' (first|exact all_nil|refine S ?_ ?_)
  all_goals first
   |exact e1
   |exact e2
   |exact e3
   |exact e4
   |exact hy.eM
   |exact hy.cu
   |rfl
   |exact aU _
theorem afd(hy:DC x)(hb:K1 x.f)(h:p=(if GO (eP x 5)=false then 41 else if bp (eP x 5) (AI x.pl)=true then 44 else if bs d.sp.length (eP x 5)=true then 23 else if bc (eP x 5) (cD (fg x.gd)) (iM x.f) (jF x.gW)=true then 1 else 0,x.id)):TG ak 2 NF (dr 5 gq) (jq d T (eP x 5) []) (RX Tryz.f93 d T p):=by
 rw[un5,bc5]at h;refine fF 4 (di _) (aeX d T x) all_nil ?_;refine kr (rC (dF (dr 9 gq))) (di _) (u55 x) (fun b=>mG d T (eP x 5) false (N5 (eP x 5)) [(161,.bool b),(163,L x.id)]) 41 x.id [0,3,4,5] (mG d T (eP x 5) false (N5 (eP x 5)) []) (aeY d T x) ?_ (fun b=>by kernel_rfl) C (fun q5=>?_) (fun q ch hp=>pz hp C (by rw[h,q];rfl) (show(41:Int)≠0 by decide))
 . repeat' (first|exact gH|refine dD ?_ ?_)
   all_goals
    intro B;simp only[aD,aJ,bn,aL,bh,yL,yM]at B;refine⟨?_,DF (fm:=(fun b=>mG d T (eP x 5) false (N5 (eP x 5)) [(161,.bool b),(163,L x.id)])) ?_⟩
    . repeat' (first|exact all_nil|refine S ?_ ?_)
      all_goals exact aI V.bool (by simp)
    . unfold u55 nN;simp only[B,aN,aS,ct,cB]
 rw[q5]at h;have nx:tD x.f=true->TG ak 2 NF (dr 11 gq) (vR d T (eP x 5) false []) (RX Tryz.f93 d T p):=fun q6=>by
  rw[q6]at h;refine kr (rC (dF (dr 11 gq))) (di _) (true) (fun b=>jq d T (eP x 5) [(181,.bool b),(183,L x.id)]) 44 x.id [0,3] (jq d T (eP x 5) []) (ae0 d T x) (dB (g0 ⟨all_nil,rfl⟩)) (fun b=>by kernel_rfl) C (fun q7=>?_) (fun q ch hp=>absurd q eY);have h7:bp (eP x 5) (AI x.pl)=false:=by unfold bp;rfl
  rw[h7]at h;refine RD (eP x 5) (fun e q he=>?_) fun q9=>?_
  . rw[q]at h;rw[he];exact h
  . rw[q9]at h;refine ae8 x hy (fun e q he=>?_) fun q=>?_
    . rw[q]at h;rw[he];exact h
    . rw[q]at h;rw[h];rfl
 refine kr (rC (dF (dr 10 gq))) Dp (tD x.f) (fun b=>vR d T (eP x 5) false [(171,.bool b),(173,L x.id)]) 41 x.id [0,3,5] (vR d T (eP x 5) false []) (aeZ d T x) ?_ (fun b=>by kernel_rfl) C nx (fun q ch hp=>pz hp C (by rw[h,q];rfl) (show(41:Int)≠0 by decide));have e1:dO x.f.eM=dO (ee (dO x.f.eM)):=by rw[fA]
 have e2:x.f.eM.length=(ee (dO x.f.eM)).length:=by rw[fA]
 have e3:dO x.f.cu=dO (ee (dO x.f.cu)):=by rw[fA]
 have e4:x.f.cu.length=(ee (dO x.f.cu)).length:=by rw[fA]
 have e5:lO (fW ⟨x.f.k,x.f.r,ee (dO x.f.eM),x.f.dv,x.f.vl,ee (dO x.f.cu)⟩) (fW ⟨0,0,ee [],0,0,ee []⟩)=tD x.f:=by
  rw[fA,fA];exact tG x.f hb hy.eM hy.cu
 repeat' (first|exact gH|refine dD ?_ ?_)
 all_goals
  intro B;simp only[aD,aJ,bn,aL,bh]at B;refine⟨?_,DF (fm:=(fun b=>vR d T (eP x 5) false [(171,.bool b),(173,L x.id)])) (by rw[<- e5];exact B)⟩
  repeat' (first|exact all_nil|refine S ?_ ?_)
  all_goals first
   |exact e1
   |exact e2
   |exact e3
   |exact e4
   |exact hy.eM
   |exact hy.cu
   |rfl
   |exact aU _
theorem Zo(hy:DC x)(hb:x.kd≠3->K1 x.f):TG ak 2 NF gq (dy [pT,x.v] (lR d T) 2) (RX Tryz.f93 d T (vQ d.sp.length x,x.id)):=by
 have h0:vQ d.sp.length x=if bk x=true then 41 else if sk x.nm=false then 72 else if ba x (cD (fg x.iH))=true then 1 else if GO x=false then 41 else if bp x (AI x.pl)=true then 44 else if bs d.sp.length x=true then 23 else if bc x (cD (fg x.gd)) (iM x.f) (jF x.gW)=true then 1 else 0:=rfl
 generalize vQ d.sp.length x=e at *;refine fF 1 (di _) (aqa d T x) all_nil ?_;refine kr (rC (dF (dr 1 gq))) (di _) (!bk x) (fun b=>jq d T x [(13,.bool b),(15,L x.id)]) 41 x.id [0,3] (jq d T x []) (aqb d T x) ?_ (fun b=>by kernel_rfl) C (fun q1=>?_) (fun q ch hp=>pz hp C (by rw[h0,aG (by simpa using q)]) (show(41:Int)≠0 by decide))
 . repeat' (first|exact gH|refine dD ?_ ?_)
   all_goals
    intro B;simp only[aD,aJ,bn,aL,bh,aY,bu]at B;refine⟨all_nil,DF (fm:=(fun b=>jq d T x [(13,.bool b),(15,L x.id)])) ?_⟩;unfold bk
    first
    |(rw[aT H,aT H];rfl)
    |(rw[aT H,aZ H];rfl)
    |(rw[aZ H];rfl)
 have q1:bk x=false:=by simpa using q1
 rw[aB (by rw[q1];decide)]at h0;refine kr (rC (dF (dr 2 gq))) (fu (UD x.nm) (di _)) (sk x.nm) (fun b=>jq d T x [(19,.bool b),(21,L x.id)]) 72 x.id [0,3] (jq d T x []) (aqc d T x (sk x.nm)) (dB (g0 ⟨eG rfl,rfl⟩)) (fun b=>by kernel_rfl) C (fun q2=>?_) (fun q ch hp=>pz hp C (by rw[h0,aG q]) (show(72:Int)≠0 by decide));rw[aB (by rw[q2];decide),ae3]at h0;refine kr (rC (dF (dr 3 gq))) (di _) (opB x) (fun b=>jq d T x [(40,.bool b),(42,L x.id)]) 1 x.id [0,3] (jq d T x []) (aqd d T x) ?_ (fun b=>by kernel_rfl) C (fun q3=>?_) (fun q ch hp=>pz hp C (by rw[h0,aG (by rw[q];rfl)]) (show(1:Int)≠0 by decide))
 . repeat' (first|exact gH|refine dD ?_ ?_)
   all_goals
    intro B;simp only[aD,aJ,bn,aL,bh,aY,bu]at B;refine⟨all_nil,DF (fm:=(fun b=>jq d T x [(40,.bool b),(42,L x.id)])) ?_⟩;unfold opB
    first
    |(rw[aT H,aT H,aT H,aT H];rfl)
    |(rw[aT H,aT H,aT H,aZ H];rfl)
    |(rw[aT H,aT H,aZ H];rfl)
    |(rw[aT H,aZ H];rfl)
    |(rw[aZ H];rfl)
 refine kr (rC (dF (dr 4 gq))) (fu (vG x.iH hy.iH) (di _)) (mkB x (cD (fg x.iH))) (fun b=>jq d T x [(57,.bool b),(59,L x.id)]) 1 x.id [0,3] (jq d T x []) (aqe d T x (cD (fg x.iH))) ?_ (fun b=>by kernel_rfl) C (fun q4=>?_) (fun q ch hp=>pz hp C (by rw[h0,aG (by rw[q,cB];rfl)]) (show(1:Int)≠0 by decide))
 . repeat' (first|exact gH|refine dD ?_ ?_)
   all_goals
    intro B;simp only[aD,aJ,bn,aL,bh]at B;refine⟨eG rfl,DF (fm:=(fun b=>jq d T x [(57,.bool b),(59,L x.id)])) ?_⟩;unfold mkB nN;simp only[B,aN,aS,cq,cr]
 rw[aB (by rw[q3,q4];decide)]at h0;have W:x.kd=1\/x.kd=2\/x.kd=3\/x.kd=4\/x.kd=5:=by
  unfold bk at q1;rw[cK,bu,bu]at q1;omega
 have C6:∀k,x.kd=k->x=eP x k:=fun k h=>by obtain⟨a,b⟩:=x;simp only at h;subst h;rfl
 rcases W with h|h|h|h|h
 . have ex:=C6 1 h;have:=ae9 (d:=d) (T:=T) (p:=(e,x.id)) x hy (hb H) (by rw[<- ex];exact aI (fun z=>(z,x.id)) h0);rw[<- ex]at this;exact this
 . have ex:=C6 2 h;have:=afa (d:=d) (T:=T) (p:=(e,x.id)) x hy (hb H) (by rw[<- ex];exact aI (fun z=>(z,x.id)) h0);rw[<- ex]at this;exact this
 . have ex:=C6 3 h;have:=afb (d:=d) (T:=T) (p:=(e,x.id)) x hy trivial (by rw[<- ex];exact aI (fun z=>(z,x.id)) h0);rw[<- ex]at this;exact this
 . have ex:=C6 4 h;have:=afc (d:=d) (T:=T) (p:=(e,x.id)) x hy (hb H) (by rw[<- ex];exact aI (fun z=>(z,x.id)) h0);rw[<- ex]at this;exact this
 . have ex:=C6 5 h;have:=afd (d:=d) (T:=T) (p:=(e,x.id)) x hy (hb H) (by rw[<- ex];exact aI (fun z=>(z,x.id)) h0);rw[<- ex]at this;exact this
end
end
theorem IY(d:Dc)(T:List (Eng.D×Eng.D))(x:eJ)(hy:DC x)(hb:x.kd≠3->K1 x.f):RA 93 [x.v] d T (vQ d.sp.length x,x.id):=VW Tryz.func93 (Zo x hy hb)
set_option maxRecDepth 10000
noncomputable abbrev NA:Code:=dI Tryz.f94
noncomputable abbrev Zp:Code:=dF (dr 1 NA)
noncomputable abbrev Zq:Code:=dG (dG (dX Zp))
noncomputable abbrev afe:Code:=dG (dF (dr 2 Zq))
noncomputable abbrev aqg:Code:=dG (dG (dr 2 afe))
noncomputable abbrev Zr:Code:=dF (dr 2 NA)
noncomputable abbrev UF:Code:=dG (dG (dX Zr))
noncomputable abbrev NB:Code:=dG (dF (dr 2 UF))
noncomputable abbrev aff:Code:=dF (dr 1 NB)
noncomputable abbrev Zs:Code:=dG (dG (dX aff))
noncomputable abbrev Zt:Code:=dG (dF (dr 2 Zs))
noncomputable abbrev UG:Code:=dG (dG (dr 4 NA))
noncomputable abbrev IZ:Code:=dG (dF (dr 2 UG))
def hLq(d:Dc)(T cn:List (Eng.D×Eng.D))(q:af):J h2:=G ([(0,.cells (d.R++[.map (some 1)])),(1,.gl (some .i64) T),(2,.gl (some .i64) cn)]++q)
def vS(d:Dc)(T cn:List (Eng.D×Eng.D))(r:List (Nat×V)):St:=fq ([(0,pT),(2,.map (some 2))]++r) (hLq d T cn []) 3
def DG(d:Dc)(T cn:List (Eng.D×Eng.D))(x:eJ)(r:List (Nat×V)):St:=fq ([(0,pT),(2,.map (some 2)),(8,.ptr (some (3,0)))]++r) (hLq d T cn [(3,.cells x.R)]) 4
def GS(d:Dc)(T:List (Eng.D×Eng.D))(r:List (Nat×V)):St:=fq ([(0,pT)]++r) (lR d T) 2
def sLt(d:Dc)(T:List (Eng.D×Eng.D))(x:eJ)(r:List (Nat×V)):St:=fq ([(0,pT),(15,.ptr (some (2,0)))]++r) (G [(0,.cells (d.R++[.map (some 1)])),(1,.gl (some .i64) T),(2,.cells x.R)]) 3
def sLv(d:Dc)(T:List (Eng.D×Eng.D))(x:eJ)(u:ag)(r:List (Nat×V)):St:=fq ([(0,pT),(15,.ptr (some (2,0))),(16,.ptr (some (3,0)))]++r) (G [(0,.cells (d.R++[.map (some 1)])),(1,.gl (some .i64) T),(2,.cells x.R),(3,.cells u)]) 4
abbrev kg(d:Dc)(a b c:Nat)(i:Nat):List (Nat×V):=[(a,.eB false d.ly.length (fc d.ly)),(b,M d.ly.length),(c,M i)]
abbrev D7(x:eJ)(a b c:Nat)(j:Nat):List (Nat×V):=[(a,fj x.kids),(b,M x.kids.length),(c,M j)]
abbrev Gy(k c:Int)(cn:List (Eng.D×Eng.D)):List (Eng.D×Eng.D):=l9 (.int .i64 k) (.int .i64 c) cn
theorem aqh(d:Dc)(T:List (Eng.D×Eng.D)):dw (U dY []) [] 2 Tryz.f94 [0,2] (dM 1 NA) (dy [pT] (lR d T) 2) [([],
   [],
   .to .normal (fq [(0,pT),(2,.map (some 2))] (G [(0,.cells (d.R++[.map (some 1)])),(1,.gl (some .i64) T),(2,.map [] 0)]) 3))]
 :=dj.of C C C
theorem aqi(d:Dc)(T cn:List (Eng.D×Eng.D)):dw (U dY []) [] 2 Tryz.f94 [0,2,23,24,25] (dF Zp) (vS d T cn []) [([],
   [],
   .to .normal (vS d T cn (kg d 23 24 25 0)))]
 :=dj.of C C C
theorem aqj(d:Dc)(T cn:List (Eng.D×Eng.D))(i:Nat):dw (U dY []) [(26,.split)] 2 Tryz.f94 [0,2,23,24,25] (dM 2 Zq) (vS d T cn (kg d 23 24 25 i)) [([((decide (Int.ofNat i<Int.ofNat d.ly.length)),true)],
   [],
   .to .normal (vS d T cn (kg d 23 24 25 i))),
  ([((decide (Int.ofNat i<Int.ofNat d.ly.length)),false)],
   [],
   .to (.exit 0) (vS d T cn (kg d 23 24 25 i)))]
 :=dj.of C C C
theorem aqk(d:Dc)(T cn:List (Eng.D×Eng.D))(i:Nat)(x:eJ):dw (U dY []) [(27,.dz (.dx x.ds))] 2 Tryz.f94 [0,2,23,24,25,30,31,32] (dM 2 afe) (vS d T cn (kg d 23 24 25 i)) [([],
   [((0:Int)<=Int.ofNat i/\Int.ofNat i<(Int.ofNat d.ly.length)),((fc d.ly).length=d.ly.length*31),(V.dx (dn (fc d.ly) (i*31) 31)=V.dx x.ds)],
   .to .normal (vS d T cn (kg d 23 24 25 i++D7 x 30 31 32 0)))]
 :=dj.of C C C
theorem aql(d:Dc)(T cn:List (Eng.D×Eng.D))(i j:Nat)(x:eJ)(k c c2:Int):dw (U dY []) [(33,.split),(34,.dz (.dx [.int .i64 k])),(38,.dz (L c)),(39,.dz (L c2)),(40,.dz (M (j+1)))] 2 Tryz.f94 [0,2,23,24,25,30,31,32] (aqg) (vS d T cn (kg d 23 24 25 i++D7 x 30 31 32 j)) [([((decide (Int.ofNat j<Int.ofNat x.kids.length)),true)],
   [((0:Int)<=Int.ofNat j/\Int.ofNat j<(Int.ofNat x.kids.length)),((dO x.kids).length=x.kids.length*1),(V.dx (dn (dO x.kids) (j*1) 1)=V.dx [D.int A k]),((if false=true then V.gw [D.jX (V.int A (0:Int)) (eZ (D.int A k) cn),V.bool (eZ (D.int A k) cn).isSome]else D.jX (V.int A (0:Int)) (eZ (D.int A k) cn))=L c),(V.int A (IntKind.i64.wrap (c+(1:Int)))=L c2),(V.int A (IntKind.i64.wrap (Int.ofNat j+(1:Int)))=M (j+1))],
   .to .normal (vS d T (Gy k c2 cn) (kg d 23 24 25 i++D7 x 30 31 32 (j+1)))),
  ([((decide (Int.ofNat j<Int.ofNat x.kids.length)),false)],
   [],
   .to (.exit 2) (vS d T cn (kg d 23 24 25 i++D7 x 30 31 32 j)))]
 :=dj.of C C C
theorem aqm(d:Dc)(T cn:List (Eng.D×Eng.D))(i j:Nat)(x:eJ):dw (U dY []) [(41,.dz (M (i+1)))] 2 Tryz.f94 [0,2,23,24,25] (dr 3 Zq) (vS d T cn (kg d 23 24 25 i++D7 x 30 31 32 j)) [([],
   [(V.int A (IntKind.i64.wrap (Int.ofNat i+(1:Int)))=M (i+1))],
   .to .normal (vS d T cn (kg d 23 24 25 (i+1))))]
 :=dj.of C C C
theorem aqn(d:Dc)(T cn:List (Eng.D×Eng.D)):dw (U dY []) [] 2 Tryz.f94 [0,2,46,47,48] (dF Zr) (vS d T cn []) [([],
   [],
   .to .normal (vS d T cn (kg d 46 47 48 0)))]
 :=dj.of C C C
theorem aqo(d:Dc)(T cn:List (Eng.D×Eng.D))(i:Nat):dw (U dY []) [(49,.split)] 2 Tryz.f94 [0,2,46,47,48] (dM 2 UF) (vS d T cn (kg d 46 47 48 i)) [([((decide (Int.ofNat i<Int.ofNat d.ly.length)),true)],
   [],
   .to .normal (vS d T cn (kg d 46 47 48 i))),
  ([((decide (Int.ofNat i<Int.ofNat d.ly.length)),false)],
   [],
   .to (.exit 4) (vS d T cn (kg d 46 47 48 i)))]
 :=dj.of C C C
theorem aqp(d:Dc)(T cn:List (Eng.D×Eng.D))(i:Nat)(x:eJ):dw (U dY []) [(50,.dz (.dx x.ds))] 2 Tryz.f94 [0,2,8,46,47,48] (dM 1 NB) (vS d T cn (kg d 46 47 48 i)) [([],
   [((0:Int)<=Int.ofNat i/\Int.ofNat i<(Int.ofNat d.ly.length)),((fc d.ly).length=d.ly.length*31),(V.dx (dn (fc d.ly) (i*31) 31)=V.dx x.ds)],
   .to .normal (DG d T cn x (kg d 46 47 48 i)))]
 :=dj.of C C C
theorem aqq(d:Dc)(T cn:List (Eng.D×Eng.D))(i:Nat)(x:eJ):dw (U dY []) [] 2 Tryz.f94 [0,2,8,46,47,48,53,54,55] (dF aff) (DG d T cn x (kg d 46 47 48 i)) [([],
   [],
   .to .normal (DG d T cn x (kg d 46 47 48 i++D7 x 53 54 55 0)))]
 :=dj.of C C C
theorem aqr(d:Dc)(T cn:List (Eng.D×Eng.D))(i j:Nat)(x:eJ):dw (U dY []) [(56,.split)] 2 Tryz.f94 [0,2,8,46,47,48,53,54,55] (dM 2 Zs) (DG d T cn x (kg d 46 47 48 i++D7 x 53 54 55 j)) [([((decide (Int.ofNat j<Int.ofNat x.kids.length)),true)],
   [],
   .to .normal (DG d T cn x (kg d 46 47 48 i++D7 x 53 54 55 j))),
  ([((decide (Int.ofNat j<Int.ofNat x.kids.length)),false)],
   [],
   .to (.exit 6) (DG d T cn x (kg d 46 47 48 i++D7 x 53 54 55 j)))]
 :=dj.of C C C
theorem aqs(d:Dc)(T cn:List (Eng.D×Eng.D))(i j:Nat)(x:eJ)(k n:Int)(b:Bool):dw (U dY []) [(57,.dz (.dx [.int .i64 k])),(65,.dz (.gw [L n,.bool b]))] 2 Tryz.f94 [0,2,8,46,47,48,53,54,55,12] (dM 2 Zt) (DG d T cn x (kg d 46 47 48 i++D7 x 53 54 55 j)) [([],
   [((0:Int)<=Int.ofNat j/\Int.ofNat j<(Int.ofNat x.kids.length)),((dO x.kids).length=x.kids.length*1),(V.dx (dn (dO x.kids) (j*1) 1)=V.dx [D.int A k]),((if true=true then V.gw [D.jX (V.int A (0:Int)) (eZ (D.int A k) T),V.bool (eZ (D.int A k) T).isSome]else D.jX (V.int A (0:Int)) (eZ (D.int A k) T))=V.gw [L n,V.bool b])],
   .to .normal (DG d T cn x (kg d 46 47 48 i++D7 x 53 54 55 j++[(12,.bool b)])))]
 :=dj.of C C C
theorem aqt(d:Dc)(T cn:List (Eng.D×Eng.D))(i j:Nat)(x:eJ)(b:Bool):dw (U dY []) [] 2 Tryz.f94 [0,2,8,46,47,48,53,54,55,68,70] (kE (dr 2 Zt)) (DG d T cn x (kg d 46 47 48 i++D7 x 53 54 55 j++[(12,.bool b)])) [([],
   [],
   .to .normal (DG d T cn x (kg d 46 47 48 i++D7 x 53 54 55 j++[(68,.bool b),(70,L x.id)])))]
 :=dj.of C C C
theorem aqu(d:Dc)(T cn:List (Eng.D×Eng.D))(i j:Nat)(x:eJ):dw (U dY []) [(72,.dz (M (j+1)))] 2 Tryz.f94 [0,2,8,46,47,48,53,54,55] (dr 3 Zs) (DG d T cn x (kg d 46 47 48 i++D7 x 53 54 55 j)) [([],
   [(V.int A (IntKind.i64.wrap (Int.ofNat j+(1:Int)))=M (j+1))],
   .to .normal (DG d T cn x (kg d 46 47 48 i++D7 x 53 54 55 (j+1))))]
 :=dj.of C C C
theorem aqv(d:Dc)(T cn:List (Eng.D×Eng.D))(i j:Nat)(x:eJ):dw (U dY []) [(80,.split)] 2 Tryz.f94 [0,2,8,13,46,47,48] (dM 2 (dr 2 NB)) (DG d T cn x (kg d 46 47 48 i++D7 x 53 54 55 j)) [([((x.id==d.root),true)],
   [],
   .to .normal (DG d T cn x ((13,L 0)::kg d 46 47 48 i))),
  ([((x.id==d.root),false)],
   [],
   .to .normal (DG d T cn x ((13,L 1)::kg d 46 47 48 i)))]
 :=dj.of C C C
theorem aqw(d:Dc)(T cn:List (Eng.D×Eng.D))(i:Nat)(x:eJ)(w c:Int):dw (U dY []) [(84,.dz (L c))] 2 Tryz.f94 [0,2,8,46,47,48,86,88] (kE (dr 4 NB)) (DG d T cn x ((13,L w)::kg d 46 47 48 i)) [([],
   [((if false=true then V.gw [D.jX (V.int A (0:Int)) (eZ (D.int A x.id) cn),V.bool (eZ (D.int A x.id) cn).isSome]else D.jX (V.int A (0:Int)) (eZ (D.int A x.id) cn))=L c)],
   .to .normal (DG d T cn x (kg d 46 47 48 i++[(86,.bool (c==w)),(88,L x.id)])))]
 :=dj.of C C C
theorem aqx(d:Dc)(T cn:List (Eng.D×Eng.D))(i:Nat):dw (U dY []) [(90,.dz (M (i+1)))] 2 Tryz.f94 [0,2,46,47,48] (dr 3 UF) (vS d T cn (kg d 46 47 48 i)) [([],
   [(V.int A (IntKind.i64.wrap (Int.ofNat i+(1:Int)))=M (i+1))],
   .to .normal (vS d T cn (kg d 46 47 48 (i+1))))]
 :=dj.of C C C
theorem aqy(d:Dc)(T cn:List (Eng.D×Eng.D))(i:Nat):dw (U dY []) [] 2 Tryz.f94 [0,95,96,97] (dM 1 (dr 3 NA)) (vS d T cn []) [([],
   [],
   .to .normal (GS d T (kg d 95 96 97 0)))]
 :=dj.of C C C
theorem aqz(d:Dc)(T:List (Eng.D×Eng.D))(i:Nat):dw (U dY []) [(98,.split)] 2 Tryz.f94 [0,95,96,97] (dM 2 UG) (GS d T (kg d 95 96 97 i)) [([((decide (Int.ofNat i<Int.ofNat d.ly.length)),true)],
   [],
   .to .normal (GS d T (kg d 95 96 97 i))),
  ([((decide (Int.ofNat i<Int.ofNat d.ly.length)),false)],
   [],
   .to (.exit 8) (GS d T (kg d 95 96 97 i)))]
 :=dj.of C C C
theorem aqA(d:Dc)(T:List (Eng.D×Eng.D))(i:Nat)(x:eJ):dw (U dY []) [(99,.dz (.dx x.ds)),(103,.split)] 2 Tryz.f94 [0,15,95,96,97,103] (dM 2 IZ) (GS d T (kg d 95 96 97 i)) [([((x.kd==(4:Int)),true)],
   [((0:Int)<=Int.ofNat i/\Int.ofNat i<(Int.ofNat d.ly.length)),((fc d.ly).length=d.ly.length*31),(V.dx (dn (fc d.ly) (i*31) 31)=V.dx x.ds)],
   .to .normal (sLt d T x (kg d 95 96 97 i++[(103,.bool true)]))),
  ([((x.kd==(4:Int)),false)],
   [((0:Int)<=Int.ofNat i/\Int.ofNat i<(Int.ofNat d.ly.length)),((fc d.ly).length=d.ly.length*31),(V.dx (dn (fc d.ly) (i*31) 31)=V.dx x.ds)],
   .to .normal (sLt d T x (kg d 95 96 97 i++[(103,.bool false)])))]
 :=dj.of C C C
theorem aqB(d:Dc)(T:List (Eng.D×Eng.D))(i:Nat)(x y:eJ):dw (U (rZ 44 [L x.of] d T (.gw [y.v,.bool true]) dY) []) [] 2 Tryz.f94 [0,15,16,17,95,96,97] (dM 1 (lK (dr 2 IZ))) (sLt d T x (kg d 95 96 97 i++[(103,.bool true)])) [([],
   [([V.ptr (some (0,0)),V.int A x.of]=[pT,L x.of]),((J.nil.set 0 (some (h2.cells [V.eB false d.sp.length (mE d.sp),V.int A d.root,V.int A d.nx,V.eB false d.ly.length (fc d.ly),V.map (some 1)]))).set 1 (some (h2.gl (some A) T))=lR d T),(2=2)],
   .to .normal (sLv d T x y.R (kg d 95 96 97 i++[(17,.bool true)])))]
 :=dj.of C C C
theorem aqC(d:Dc)(T:List (Eng.D×Eng.D))(i:Nat)(x:eJ):dw (U (rZ 44 [L x.of] d T (.gw [T7,.bool false]) dY) []) [] 2 Tryz.f94 [0,15,16,17,95,96,97] (dM 1 (lK (dr 2 IZ))) (sLt d T x (kg d 95 96 97 i++[(103,.bool true)])) [([],
   [([V.ptr (some (0,0)),V.int A x.of]=[pT,L x.of]),((J.nil.set 0 (some (h2.cells [V.eB false d.sp.length (mE d.sp),V.int A d.root,V.int A d.nx,V.eB false d.ly.length (fc d.ly),V.map (some 1)]))).set 1 (some (h2.gl (some A) T))=lR d T),(2=2)],
   .to .normal (sLv d T x (NX 0 0 z7 0) (kg d 95 96 97 i++[(17,.bool false)])))]
 :=dj.of C C C
theorem aqD(d:Dc)(T:List (Eng.D×Eng.D))(i:Nat)(x y:eJ):dw (U dY []) [(115,.split)] 2 Tryz.f94 [0,95,96,97,116,118] (kE (dr 1 (lK (dr 2 IZ)))) (sLv d T x y.R (kg d 95 96 97 i++[(17,.bool true)])) [([((y.kd !=(3:Int)),true)],
   [],
   .to .normal (GS d T (kg d 95 96 97 i++[(116,.bool true),(118,L x.id)]))),
  ([((y.kd !=(3:Int)),false)],
   [],
   .to .normal (GS d T (kg d 95 96 97 i++[(116,.bool false),(118,L x.id)])))]
 :=dj.of C C C
theorem aqE(d:Dc)(T:List (Eng.D×Eng.D))(i:Nat)(x:eJ):dw (U dY []) [] 2 Tryz.f94 [0,95,96,97,116,118] (kE (dr 1 (lK (dr 2 IZ)))) (sLv d T x (NX 0 0 z7 0) (kg d 95 96 97 i++[(17,.bool false)])) [([],
   [],
   .to .normal (GS d T (kg d 95 96 97 i++[(116,.bool false),(118,L x.id)])))]
 :=dj.of C C C
theorem aqF(d:Dc)(T:List (Eng.D×Eng.D))(i:Nat)(x:eJ):dw (U dY []) [] 2 Tryz.f94 [0,95,96,97] (oW (dr 2 IZ)) (sLt d T x (kg d 95 96 97 i++[(103,.bool false)])) [([],
   [],
   .to .normal (GS d T (kg d 95 96 97 i)))]
 :=dj.of C C C
theorem aqG(d:Dc)(T:List (Eng.D×Eng.D))(i:Nat):dw (U dY []) [(120,.dz (M (i+1)))] 2 Tryz.f94 [0,95,96,97] (dr 3 UG) (GS d T (kg d 95 96 97 i)) [([],
   [(V.int A (IntKind.i64.wrap (Int.ofNat i+(1:Int)))=M (i+1))],
   .to .normal (GS d T (kg d 95 96 97 (i+1))))]
 :=dj.of C C C
set_option maxRecDepth 10000
section
variable{F fr:Nat}{c:Code}{s:St}{h1:Exit->St->Prop}{hk:gF}{hh:List (Nat×List (Nat×lM))}{dm:List (Nat×lM)}{fn:Func}{live:List Nat}{hL:List (List (Bool×Bool)×ah×jL)}
theorem kU(k:Nat)(s':eU ak hk)(cs:V->J h2->Nat->Prop)(hr:dw (U hk hh) dm F fn live (dM k c) s hL)(h:∀g∈hL,(∀b∈g.1,b.1=b.2)->(∀a∈g.2.1,a)/\SqQ ak F fr fn live cs (dr k c) h1 g.2.2)(B:eL fr c=true:=by kernel_rfl):TG ak F fr c s h1:=by
 obtain⟨iX,hr⟩:=hr;obtain⟨e1,e2,e3⟩:=hr.parts;obtain⟨l,hl⟩:=bH.1 e1;unfold uU wW at e2;unfold CI at e3;rw[hl]at e2 e3;simp only[tS]at e2 e3;obtain⟨⟨p,hp,ho⟩,O⟩:=ko ak (XH s' hh).R (XH s' hh).cf dm (XH s' hh).snd 1000 (dM k c) s l hl;obtain⟨hA,hT⟩:=h (p.1.conds,p.1.NU,nw ak F fn live p.2) (e3▸mD hp) ho;have gm:=O p hp ho ⟨qF l e2 p hp,hA⟩;obtain⟨pp,x,X⟩:=p;simp only[nw]at hT;cases x with
 |normal=>
  simp only at hT;split at hT
  . rename_i s2 pH;exact yf (n0:=1000) (XH s' hh).ok mo k B gm (fU pH hT)
  . exact hT.elim
 |ret=>
  simp only at hT;split at hT
  . rename_i v h' n' Js;exact qH (n0:=1000) (XH s' hh).ok mo B (zG k c s _ X gm (by intro q;cases q)) rfl (hT.2 X ⟨.inr rfl,v,h',n',Js,hT.1⟩)
  . exact hT.elim
 |exit i=>
  simp only at hT;split at hT
  . rename_i s2 pH;exact qH (n0:=1000) (XH s' hh).ok mo B (zG k c s _ X gm (by intro q;cases q)) rfl (hT X pH)
  . exact hT.elim
 |panic _=>exact hT.elim
end
def GU(cn:Sn)(k:Int):Int:=match eZ (.int .i64 k) cn with
 |some (.int .i64 n)=>n
 |_=>0
def K3(cn:Sn):Prop:=∀k v,eZ (.int .i64 k) cn=some v->∃n,v= .int .i64 n
def Gz(cn:Sn)(Y:List Int):Sn:=Y.foldl (fun c k=>Gy k (GU c k+1) c) cn
def K4(ls:List eJ):Sn:=Gz [] (kR ls)
theorem UH(k y c:Int)(cn:Sn):GU (Gy y c cn) k=if k=y then c else GU cn k:=by
 unfold GU Gy;rw[sw];by_cases q:k=y
 . rw[aG q,aG q]
 . rw[aB q,aB q]
theorem RE{cn:Sn}(h:K3 cn)(y c:Int):K3 (Gy y c cn):=fun k v e=>by
 unfold Gy at e;rw[sw]at e;split at e
 . exact⟨c,(dg e).symm⟩
 . exact h k v e
theorem GA:∀(Y:List Int) (cn:Sn),K3 cn->K3 (Gz cn Y)/\∀k,GU (Gz cn Y) k=GU cn k+(Y.count k:Int)
 | [],cn,h=>⟨h,fun k=>by rw[List.count_nil];simp[Gz]⟩
 |y::Y,cn,h=>by
  obtain⟨Q,O⟩:=GA Y (Gy y (GU cn y+1) cn) (RE h _ _);refine⟨Q,fun k=>?_⟩;have e:Gz cn (y::Y)=Gz (Gy y (GU cn y+1) cn) Y:=rfl;rw[e,O,UH,List.count_cons];by_cases q:k=y
  . subst q;simp;omega
  . rw[aB q];have:(y==k)=false:=by simpa using fun e=>q e.symm
    rw[this];simp
theorem aqH:K3 []:=fun _ _ e=>by cases e
theorem GB(ls:List eJ):K3 (K4 ls)/\∀k,GU (K4 ls) k=(lW ls k:Int):=by
 obtain⟨Q,O⟩:=GA (kR ls) [] aqH;refine⟨Q,fun k=>?_⟩;have:=O k;rw[yA];have e:GU [] k=0:=rfl;rw[e,Int.zero_add]at this;exact this
theorem Mb{cn:Sn}(h:K3 cn)(k:Int):(if false=true then V.gw [D.jX (V.int A (0:Int)) (eZ (D.int A k) cn),V.bool (eZ (D.int A k) cn).isSome]else D.jX (V.int A (0:Int)) (eZ (D.int A k) cn))=L (GU cn k):=by
 unfold GU;cases e:eZ (.int .i64 k) cn with
 |none=>rfl
 |some v=>
  obtain⟨n,rfl⟩:=h k v e;rfl
theorem K5{ls:List eJ}{i:Nat}(h:i<ls.length):kR (ls.take (i+1))=kR (ls.take i)++(ls.getD i gy).kids:=by
 unfold kR;rw[bY,getD_some gy h,Option.toList_some,bQ,List.flatten_append];simp
theorem Mc(cn:Sn)(a b:List Int):Gz cn (a++b)=Gz (Gz cn a) b:=by unfold Gz;rw[List.foldl_append]
theorem RF(cn:Sn){Y:List Int}{j:Nat}(h:j<Y.length):Gz cn (Y.take (j+1))=Gy (Y.getD j 0) (GU (Gz cn (Y.take j)) (Y.getD j 0)+1) (Gz cn (Y.take j)):=by
 rw[bY,getD_some 0 h,Option.toList_some,Mc];rfl
theorem UI{d:Dc}{i:Nat}(h:i<d.ly.length):K4 (d.ly.take (i+1))=Gz (K4 (d.ly.take i)) (d.at i).kids:=by
 unfold K4;rw[K5 h,Mc];rfl
def oZ(d:Dc):Int×Int:=match lI (BB d) d.ly.length with
 |some i=>(40,(d.at i).id)
 |none=>match lI (zW d) d.ly.length with
  |some i=>(40,(d.at i).id)
  |none=>(0,0)
section
variable{d:Dc}{T:Sn}
noncomputable abbrev NL:Nat:=Tryz.f94.ntmps
theorem afh(hd:F7 d)(h40:d.ly.length<=1000){h1:Exit->St->Prop}(hQ:∀X,ek ak 2 NL X (vS d T (K4 d.ly) [])->h1 .normal X):TG ak 2 NL Zp (vS d T [] []) h1:=by
 have zQ:=hd.ly;refine dK C (gv (di _) eE (aqi d T []) (dB (g0 ⟨all_nil,fun X dQ=>?_⟩)));simp only[andThen];refine jf 0 d.ly.length (fun i=>vS d T (K4 (d.ly.take i)) (kg d 23 24 25 i)) (fun _=>false) (ek.norm dQ) (fun i hi hj Q' k1 k2 k3=>?_) (fun Q X dQ=>hQ X ?_)
 . refine kU 2 (di _) eE (aqj d T _ i) (dD (g1 fun h=>⟨all_nil,?_⟩) (dB (g1 fun h=>⟨all_nil,fun X dQ=>k2 (by have:=r9 h;omega) X (ek.norm dQ)⟩)));have q:=jW h;have hA:V.dx (dn (fc d.ly) (i*31) 31)= .dx (d.at i).ds:=iw q;have W:=hd.at q;change (d.at i).kids.length<=1000000 at W;have Lw:=UI q;have hbd:∀k,0<=GU (K4 (d.ly.take i)) k/\GU (K4 (d.ly.take i)) k<=1000000000:=fun k=>by
    rw[(GB _).2];have:=F8 (d.ly.take i) k fun l hl=>hd.kids l (cJ hl);rw[bq]at this;have:lW (d.ly.take i) k<=1000*1000000:=bE this (cI _ H);omega
   have hI:=(GB (d.ly.take i)).1;generalize K4 (d.ly.take i)=cn at *;generalize d.at i=x at *;refine dK C (fh (i:=1) C ?_);refine kU 2 (di _) eE (aqk d T cn i x) (dB (g0 ⟨S (iI q) (S (gj _) (eG hA)),?_⟩));refine jf 2 x.kids.length (fun j=>vS d T (Gz cn (x.kids.take j)) (kg d 23 24 25 i++D7 x 30 31 32 j)) (fun _=>false) .refl (fun j hj hjj Q2 m1 m2 m3=>?_) (fun Q X dQ=>?_)
   . have hI2:=(GA (x.kids.take j) cn hI).1;have WC:=(GA (x.kids.take j) cn hI).2 (x.kids.getD j 0);have vY:(x.kids.take j).count (x.kids.getD j 0)<=1000000:=bE List.count_le_length (by rw[bq];omega);have NP:=hbd (x.kids.getD j 0);refine gv (di _) eE (aql d T (Gz cn (x.kids.take j)) i j x (x.kids.getD j 0) (GU (Gz cn (x.kids.take j)) (x.kids.getD j 0)) (GU (Gz cn (x.kids.take j)) (x.kids.getD j 0)+1)) (dD (g1 fun h=>?_) (dB (g1 fun h=>⟨all_nil,fun X dQ=>m2 (by have:=r9 h;omega) X (ek.norm dQ)⟩)));have q2:=jW h;refine⟨S (iI q2) (S (eo _) (S (fD q2) (S (Mb hI2 _) (S (aI (V.int .i64) (gZ ?_ ?_)) (eG (gJ H)))))),fun X dQ=>m1 q2 rfl X ?_⟩
     . omega
     . omega
     . show ek _ _ _ _ (vS d T (Gz cn (x.kids.take (j+1))) (kg d 23 24 25 i++D7 x 30 31 32 (j+1)));rw[RF cn q2];exact ek.norm dQ
   . simp only[gk,andThen];rw[bz]at dQ;refine dQ _ _ (gv (di _) eE (aqm d T _ i _ x) (dB (g0 ⟨eG (gJ H),fun X dQ=>k1 q rfl X ?_⟩)));show ek _ _ _ _ (vS d T (K4 (d.ly.take (i+1))) (kg d 23 24 25 (i+1)));rw[Lw];exact ek.norm dQ
 . rw[bz]at dQ;refine dQ.trans ?_;exact .norm (live:=[0,2]) C
theorem Zu{i:Nat}(hi:i<d.ly.length)(h:BB d i=true)(hj:∀j,j<i->BB d j=false):oZ d=(40,(d.at i).id):=by
 unfold oZ;rw[jj hi h hj]
theorem Zv{i:Nat}(hi:i<d.ly.length)(O:∀j,j<d.ly.length->BB d j=false)(h:zW d i=true)(hj:∀j,j<i->zW d j=false):oZ d=(40,(d.at i).id):=by
 unfold oZ;rw[gB O];simp only;rw[jj hi h hj]
theorem afi(I:xl d T)(hd:F7 d)(h40:d.ly.length<=1000){h1:Exit->St->Prop}(hp:∀ch X,RX Tryz.f94 d T (oZ d) (.panic ch) X->h1 (.panic ch) X)(hQ:(∀j,j<d.ly.length->BB d j=false)->∀X,j9 2 NL X (vS d T (K4 d.ly) [])->h1 .normal X):TG ak 2 NL Zr (vS d T (K4 d.ly) []) h1:=by
 have zQ:=hd.ly;have hI:=(GB d.ly).1;have hC:=(GB d.ly).2;generalize K4 d.ly=cn at *;refine dK C (gv (di _) eE (aqn d T cn) (dB (g0 ⟨all_nil,fun X dQ=>?_⟩)));simp only[andThen];refine vc 4 d.ly.length (fun i=>vS d T cn (kg d 46 47 48 i)) (BB d) (j9.norm dQ) (fun i hi hj Q' k1 k2 k3=>?_) (fun Q X dQ=>hQ Q X (dQ.trans (j9.norm (iX:=[0,2]) C)));refine kU 2 (di _) eE (aqo d T cn i) (dD (g1 fun h=>⟨all_nil,?_⟩) (dB (g1 fun h=>⟨all_nil,fun X dQ=>k2 (by have:=r9 h;omega) X (j9.norm dQ)⟩)));have q:=jW h;have hA:V.dx (dn (fc d.ly) (i*31) 31)= .dx (d.at i).ds:=iw q;have W:=hd.at q;change (d.at i).kids.length<=1000000 at W;have ht:BB d i=!q8 d (d.at i):=rfl;have ve:BB d i=true->oZ d=(40,(d.at i).id):=fun h=>Zu q h hj;generalize d.at i=x at *;refine dK C (fh (i:=5) C ?_);refine kU 1 (di _) eE (aqp d T cn i x) (dB (g0 ⟨S (iI q) (S (gj _) (eG hA)),?_⟩));refine dK C ?_;refine dK C (gv (di _) eE (aqq d T cn i x) (dB (g0 ⟨all_nil,fun X dQ=>?_⟩)));simp only[andThen];refine vc 6 x.kids.length (fun j=>DG d T cn x (kg d 46 47 48 i++D7 x 53 54 55 j)) (fun j=>(jy d.ly (x.kids.getD j 0)).isNone) (j9.norm dQ) (fun j hj hjj Q2 m1 m2 m3=>?_) (fun Q X dQ=>?_)
 . refine kU 2 (di _) eE (aqr d T cn i j x) (dD (g1 fun h=>⟨all_nil,?_⟩) (dB (g1 fun h=>⟨all_nil,fun X dQ=>m2 (by have:=r9 h;omega) X (j9.norm dQ)⟩)));have q2:=jW h;refine dK C (fh (i:=7) C ?_);have hlk:∃n,(if true=true then V.gw [D.jX (V.int A (0:Int)) (eZ (D.int A (x.kids.getD j 0)) T),V.bool (eZ (D.int A (x.kids.getD j 0)) T).isSome]else D.jX (V.int A (0:Int)) (eZ (D.int A (x.kids.getD j 0)) T))= .gw [L n,.bool (jy d.ly (x.kids.getD j 0)).isSome]:=by
    rw[I (x.kids.getD j 0)];cases jy d.ly (x.kids.getD j 0)with
    |none=>exact⟨0,rfl⟩
    |some n=>exact⟨Int.ofNat n,rfl⟩
   obtain⟨n,hn⟩:=hlk;refine kU 2 (di _) eE (aqs d T cn i j x (x.kids.getD j 0) n (jy d.ly (x.kids.getD j 0)).isSome) (dB (g0 ⟨S (iI q2) (S (eo _) (S (fD q2) (eG hn))),?_⟩));refine Nv (rC (dr 2 Zt)) (di _) (jy d.ly (x.kids.getD j 0)).isSome (fun b=>DG d T cn x (kg d 46 47 48 i++D7 x 53 54 55 j++[(68,.bool b),(70,L x.id)])) 40 x.id [0,2,8,46,47,48,53,54,55] (DG d T cn x (kg d 46 47 48 i++D7 x 53 54 55 j)) (aqt d T cn i j x _) (dB (g0 ⟨all_nil,rfl⟩)) (fun b=>by kernel_rfl) C (fun hb X dQ=>?_) (fun hb ch GC=>?_)
   . simp only[gk,andThen];refine dQ.vO _ _ (gv (di _) eE (aqu d T cn i j x) (dB (g0 ⟨eG (gJ H),fun X dQ=>m1 q2 ?_ X (j9.norm dQ)⟩)));show(jy d.ly (x.kids.getD j 0)).isNone=false;rw[<- Option.not_isSome,hb];rfl
   . refine m3 ch _ (k3 ch _ (hp ch _ (pz GC C (ve ?_) (show(40:Int)≠0 by decide))));rw[ht];unfold q8;rw[EK (d:=0) q2 (by rw[<- Option.not_isSome,hb];rfl)];rfl
 . simp only[gk,andThen];refine dQ.vO _ _ ?_;have afj:q8 d x=(((x.id==d.root)&&(Int.ofNat (lW d.ly x.id)==(0:Int)))||((x.id !=d.root)&&(Int.ofNat (lW d.ly x.id)==(1:Int)))):=by unfold q8;rw[Ir (d:=0) Q];rfl
   have oI:∀w,(Int.ofNat (lW d.ly x.id)==w)=q8 d x->TG ak 2 NL (dr 4 NB) (DG d T cn x ((13,L w)::kg d 46 47 48 i)) (gk 5 (andThen (fun X=>TG ak 2 NL (dr 3 UF) X Q') Q')):=fun w hw=>by
    have OG:GU cn x.id=Int.ofNat (lW d.ly x.id):=hC x.id;refine Nv (rC (dr 4 NB)) (di _) (Int.ofNat (lW d.ly x.id)==w) (fun b=>DG d T cn x (kg d 46 47 48 i++[(86,.bool b),(88,L x.id)])) 40 x.id [0,2,46,47,48] (vS d T cn (kg d 46 47 48 i)) (aqw d T cn i x w (Int.ofNat (lW d.ly x.id))) (dB (g0 ⟨eG (by rw[Mb hI,OG]),rfl⟩)) (fun b=>by kernel_rfl) C (fun hb X dQ=>?_) (fun hb ch GC=>?_)
    . simp only[gk,andThen];exact dQ.vO _ _ (gv (di _) eE (aqx d T cn i) (dB (g0 ⟨eG (gJ H),fun X dQ=>k1 q (by rw[ht,<- hw,hb];rfl) X (j9.norm dQ)⟩)))
    . exact k3 ch _ (hp ch _ (pz GC C (ve (by rw[ht,<- hw,hb];rfl)) (show(40:Int)≠0 by decide)))
   refine kU 2 (di _) eE (aqv d T cn i _ x) (dD (g1 fun h=>⟨all_nil,oI 0 ?_⟩) (dB (g1 fun h=>⟨all_nil,oI 1 ?_⟩)))
   . rw[afj,h];unfold bne;rw[h];simp
   . rw[afj,h];unfold bne;rw[h];simp
theorem SW{fn:Func}{p:Int×Int}{s:St}(e:Nu ak 2 fn s .ret=some (.ret (.gw []),lR d T,2))(h:p.1=0):RX fn d T p .normal s:=⟨.ret,trivial,_,_,_,e,(aG h).symm,rfl,rfl⟩
theorem afk(I:xl d T)(hd:F7 d)(h40:d.ly.length<=1000)(O:∀j,j<d.ly.length->BB d j=false):TG ak 2 NL (dr 3 NA) (vS d T (K4 d.ly) []) (RX Tryz.f94 d T (oZ d)):=by
 have zQ:=hd.ly;refine fF 1 (di _) (aqy d T _ 0) all_nil ?_;have A8:(∀j,j<d.ly.length->zW d j=false)->(oZ d).1=0:=fun Q=>by
  unfold oZ;rw[gB O];simp only;rw[gB Q]
 refine Rf (vc 8 d.ly.length (fun i=>GS d T (kg d 95 96 97 i)) (zW d) (fun E a w r hn=>⟨hn,E,r,kB.refl r.good⟩) (fun i hi hj Q' k1 k2 k3=>?_) (fun Q X dQ=>⟨_,dQ,SW C (A8 Q)⟩));refine kU 2 (di _) eE (aqz d T i) (dD (g1 fun h=>⟨all_nil,?_⟩) (dB (g1 fun h=>⟨all_nil,fun X dQ=>k2 (by have:=r9 h;omega) X (j9.norm dQ)⟩)));have q:=jW h;have hA:V.dx (dn (fc d.ly) (i*31) 31)= .dx (d.at i).ds:=iw q;have ht:zW d i=Be d (d.at i):=rfl;have ve:zW d i=true->oZ d=(40,(d.at i).id):=fun h=>Zv q O h hj;generalize d.at i=x at *;have nx:zW d i=false->∀X,j9 2 NL X (GS d T (kg d 95 96 97 i))->TG ak 2 NL (dr 3 UG) X Q':=fun h3 X dQ=>
  dQ.vO _ _ (gv (di _) eE (aqG d T i) (dB (g0 ⟨eG (gJ H),fun X dQ=>k1 q h3 X (j9.norm dQ)⟩)))
 have hpn:∀ch (b:Bool),Bg (DD (40,x.id)) ch->zW d i=true->Q' (.panic ch) (GS d T (kg d 95 96 97 i++[(116,.bool false),(118,L x.id)])):=fun ch b GC h3=>k3 ch _ (RQ.of (pz GC C (ve h3) (show(40:Int)≠0 by decide)));refine dK C (fh (i:=9) C ?_);refine kU 2 (di _) eE (aqA d T i x) (dD (g1 fun h=>⟨S (iI q) (S (gj _) (eG hA)),?_⟩) (dB (g1 fun h=>⟨S (iI q) (S (gj _) (eG hA)),?_⟩)))
 . refine jR (t:=true) C C (fun _=>?_) (fun q=>by cases q);cases hn:jy d.ly x.of with
   |some m=>
    have G:=nW I hn;have ht2:zW d i=((d.at m).kd==3):=by rw[ht];unfold Be;rw[h,hn];rfl
    generalize d.at m=y at *;refine kU 1 (ny G (di _)) eE (aqB d T i x y) (dB (g0 ⟨S rfl (S rfl (eG rfl)),?_⟩));refine Nv (rC (dr 1 (lK (dr 2 IZ)))) (di _) (y.kd !=(3:Int)) (fun b=>GS d T (kg d 95 96 97 i++[(116,.bool b),(118,L x.id)])) 40 x.id [0,95,96,97] (GS d T (kg d 95 96 97 i)) (aqD d T i x y) (dD (g1 fun h=>⟨all_nil,by rw[h]⟩) (dB (g1 fun h=>⟨all_nil,by rw[h]⟩))) (fun b=>by kernel_rfl) C (fun hb X dQ=>?_) (fun hb ch GC=>?_)
    . simp only[gk,andThen];exact nx (by rw[ht2];unfold bne at hb;simpa using hb) X dQ
    . exact hpn ch true GC (by rw[ht2];unfold bne at hb;simpa using hb)
   |none=>
    have G:=xm I hn;have ht2:zW d i=true:=by rw[ht];unfold Be;rw[h,hn];rfl
    refine kU 1 (ny G (di _)) eE (aqC d T i x) (dB (g0 ⟨S rfl (S rfl (eG rfl)),?_⟩));exact Nv (rC (dr 1 (lK (dr 2 IZ)))) (di _) false (fun b=>GS d T (kg d 95 96 97 i++[(116,.bool b),(118,L x.id)])) 40 x.id [0,95,96,97] (GS d T (kg d 95 96 97 i)) (aqE d T i x) (dB (g0 ⟨all_nil,rfl⟩)) (fun b=>by kernel_rfl) C (fun hb=>by cases hb) (fun hb ch GC=>hpn ch true GC ht2)
 . refine jR (t:=false) C C (fun q=>by cases q) (fun _=>?_);refine gv (di _) eE (aqF d T i x) (dB (g0 ⟨all_nil,fun X dQ=>?_⟩));simp only[gk,andThen];exact nx (by rw[ht];unfold Be;rw[h];rfl) X (j9.norm dQ)
end
theorem K6(d:Dc)(T:Sn)(I:xl d T)(hd:F7 d)(h40:d.ly.length<=1000):RA 94 [] d T (oZ d):=by
 refine VW Tryz.func94 (fF 1 (di _) (aqh d T) all_nil ?_);refine ek.map [(2,some .i64)] (fm:=vS d T [] []) C _ _ ?_;refine dK C (afh hd h40 fun X dQ=>?_);simp only[andThen];refine dQ _ _ (dK C (afi I hd h40 (fun ch X h=>h) fun O X dQ=>?_));simp only[andThen];exact dQ.vO _ _ (afk I hd h40 O)
set_option maxRecDepth 10000
noncomputable def afl(F:Nat)(fn:Func)(f0:Nat)(c:Code)(sp:ag->J h2->Nat->Option (ah×V×J h2×Nat))(s:St):Option (ah×V×J h2×Nat):=match lz (rC c) c with
 | [o]=>match o.guard with
   |none=>match dS ak o s.N s.h s.n with
    |some (.call f args)=>match Nat.beq f f0 with
     |true=>match sp args s.h s.n with
      |some (aj,v,O,n2)=>match v.free with
       |true=>match Nu ak F fn { s with h:=O,n:=n2 } (.nr v false)with
        |some (.nr v2,h3,n3)=>some (aj,v2,h3,n3)
        |_=>none
       |false=>none
      |none=>none
     |false=>none
    |_=>none
   |some _=>none
 |_=>none
noncomputable def VX(_:Program)(sp:ag->J h2->Nat->Option (ah×V×J h2×Nat))(_:List (Nat×lM))(_ F:Nat)(fn:Func)(live:List Nat)(c:Code)(s:St):Option (ag×ag×List (List (Bool×Bool)×ah×jL)):=match afl F fn (live.headD 0) c sp s with
 |some (aj,v,h,n)=>some ([],[],[([],aj,.ret v h n)])
 |none=>none
abbrev EX(P:Program)(sp:ag->J h2->Nat->Option (ah×V×J h2×Nat))(dm:List (Nat×lM))(n0 F:Nat)(fn:Func)(live:List Nat)(c:Code)(s:St)(iX:ag)(hL:List (List (Bool×Bool)×ah×jL)):Prop:=VX P sp dm n0 F fn live c s=some (iX,iX,hL)
section
variable{F fr:Nat}{c:Code}{s:St}{h1:Exit->St->Prop}{hk:gF}{hh:List (Nat×List (Nat×lM))}{dm:List (Nat×lM)}{fn:Func}{live:List Nat}{hL:List (List (Bool×Bool)×ah×jL)}
theorem afm(s':eU ak hk){A0 aj:ah}{s1:St}{f:FuncId}{sp:ag->J h2->Nat->Option (ah×V×J h2×Nat)}{v:V}{h:J h2}{n:Nat}{cs:pO->J h2->Nat->Prop}(hr:dw (U hk hh) dm F fn live (kE c) s [([],A0,.to .normal s1)])(VH:∀a∈A0,a)(hO:Ra ak f sp)
  (hp:∃iX,EX ak sp [] 1000 F fn [f] c s1 iX [([],aj,.ret v h n)]) (hA:∀a∈aj,a) (hR:cs (.nr v) h n) (hQ:∀ch X,Dm ak F fn cs (.panic ch) X->h1 (.panic ch) X)
  (hs:(eL fr c&&(D6 (rC c) c&&(lz (rC c) c).all fun o=>match o.dst with|some d=>decide (d<fr)|none=>true))=true:=by kernel_rfl):TG ak F fr c s h1:=by
 simp only[ay]at hs;obtain⟨Q,O,h3⟩:=hs;obtain⟨iX,hr⟩:=hr;have hd:∀x∈lz (rC c) c,mX fr x.dst:=fun x I d hd=>by
  have:=br.1 h3 x I;rw[hd]at this;exact aX this
 refine BE (rC c) (XH s' hh) mo Q O hr (aaJ ?_);refine⟨VH,s1,rfl,?_⟩;obtain⟨L2,hp⟩:=hp;unfold EX VX at hp;split at hp
 case h_2=>cases hp
 rename_i A1 v1 oG J2 e;simp only[aq,aF,List.cons.injEq,jL.ret.injEq,and_true,true_and]at hp;obtain⟨_,_,rfl,rfl,rfl,rfl⟩:=hp;unfold afl at e;split at e
 case h_2=>cases e
 rename_i o ho;split at e
 case h_2=>cases e
 rename_i hg;split at e
 case h_2=>cases e
 rename_i f' args pc;split at e
 case h_2=>cases e
 rename_i hf;have hf:=aA hf;simp only[List.headD_cons]at hf;subst hf;split at e
 case h_2=>cases e
 rename_i A2 v2 Ak n2' DK;split at e
 case h_2=>cases e
 rename_i hv;split at e
 case h_2=>cases e
 rename_i v3 h3' n3' hl;simp only[aq,aF]at e;obtain⟨rfl,rfl,rfl,rfl⟩:=e;rw[ho]at hd ⊢;exact BD hd hg pc hO DK hA hv fun ch GC=>hQ ch _ (.Dn GC hl hR)
end
set_option maxRecDepth 10000
noncomputable abbrev oD:Code:=dI Tryz.f42
noncomputable abbrev Zw:Code:=dF (dr 6 oD)
noncomputable abbrev Zx:Code:=dG (dG (dX Zw))
noncomputable abbrev UJ:Code:=dG (dF (dr 2 Zx))
noncomputable abbrev Zy:Code:=dF (dr 9 oD)
noncomputable abbrev Zz:Code:=dG (dG (dX Zy))
noncomputable abbrev UK:Code:=dG (dF (dr 2 Zz))
noncomputable abbrev ZA:Code:=dF (dr 11 oD)
noncomputable abbrev ZB:Code:=dG (dG (dX ZA))
noncomputable abbrev ZC:Code:=dG (dF (dr 2 ZB))
def hCx(d:Dc)(T:List (Eng.D×Eng.D))(q:af):J h2:=G ([(0,.cells d.R),(1,.cells (d.R++[.map (some 2)])),(2,.gl (some .i64) T)]++q)
def oQ(d:Dc)(T:List (Eng.D×Eng.D))(r:List (Nat×V)):St:=fq ([(1,.ptr (some (0,0))),(3,.ptr (some (1,0)))]++r) (hCx d T []) 3
def UL(d:Dc)(T:List (Eng.D×Eng.D))(t:Nat)(u:ag)(r:List (Nat×V)):St:=fq ([(1,.ptr (some (0,0))),(3,.ptr (some (1,0))),(t,.ptr (some (3,0)))]++r) (hCx d T [(3,.cells u)]) 4
abbrev pT1:V:=.ptr (some (1,0))
def hCm(d:Dc)(l:List (Eng.D×Eng.D))(q:af):J h2:=G ([(0,.cells d.R),(1,.cells (d.R++[.map (some 2)])),(2,.oJ (some .i64) l)]++q)
def xA(d:Dc)(l:List (Eng.D×Eng.D))(r:List (Nat×V)):St:=fq ([(1,.ptr (some (0,0))),(3,.ptr (some (1,0)))]++r) (hCm d l []) 3
def UM(d:Dc)(l:List (Eng.D×Eng.D))(t:Nat)(u:ag)(r:List (Nat×V)):St:=fq ([(1,.ptr (some (0,0))),(3,.ptr (some (1,0))),(t,.ptr (some (3,0)))]++r) (hCm d l [(3,.cells u)]) 4
def sC0(d:Dc):St:=fq [(1,.ptr (some (0,0))),(3,.ptr (some (1,0)))] (G [(0,.cells d.R),(1,.cells (d.R++[.map (some 2)])),(2,.map [] 0)]) 3
theorem aqI(d:Dc):dw (U dY []) [] 0 Tryz.f42 [1,3] (dM 2 oD) (dy [d.v] .nil 0) [([],
   [],
   .to .normal (sC0 d))]
 :=dj.of C C C
theorem aqJ(d:Dc)(l:List (Eng.D×Eng.D)):dw (U dY []) [(21,.split),(26,.split),(31,.split),(36,.split)] 0 Tryz.f42 [1,3,37] (kE (dF (dr 2 oD))) (xA d l []) [([((decide ((Int.ofNat d.sp.length)<=(8:Int))),true),((decide ((Int.ofNat d.ly.length)<=(40:Int))),true),((decide (d.nx>=(1:Int))),true),((decide (d.nx<=(1048576:Int))),true)],
   [],
   .to .normal (xA d l [(37,.bool true)])),
  ([((decide ((Int.ofNat d.sp.length)<=(8:Int))),true),((decide ((Int.ofNat d.ly.length)<=(40:Int))),true),((decide (d.nx>=(1:Int))),true),((decide (d.nx<=(1048576:Int))),false)],
   [],
   .to .normal (xA d l [(37,.bool false)])),
  ([((decide ((Int.ofNat d.sp.length)<=(8:Int))),true),((decide ((Int.ofNat d.ly.length)<=(40:Int))),true),((decide (d.nx>=(1:Int))),false)],
   [],
   .to .normal (xA d l [(37,.bool false)])),
  ([((decide ((Int.ofNat d.sp.length)<=(8:Int))),true),((decide ((Int.ofNat d.ly.length)<=(40:Int))),false)],
   [],
   .to .normal (xA d l [(37,.bool false)])),
  ([((decide ((Int.ofNat d.sp.length)<=(8:Int))),false)],
   [],
   .to .normal (xA d l [(37,.bool false)]))]
 :=dj.of C C C
theorem aqK(d:Dc)(l:List (Eng.D×Eng.D)):dw (U dY []) [] 0 Tryz.f42 [1,3,4] (dM 1 (dr 3 oD)) (xA d l []) [([],
   [],
   .to .normal (xA d l [(4,mK 90)]))]
 :=dj.of C C C
theorem aqL(d:Dc)(l:List (Eng.D×Eng.D))(b:Bool):dw (U (fb 92 [.eB false d.sp.length (mE d.sp),mK 90] (.bool b) dY) []) [] 0 Tryz.f42 [1,3,43] (kE (dF (dr 4 oD))) (xA d l [(4,mK 90)]) [([],
   [(V.lA ([]++[V.eB false d.sp.length (mE d.sp),mK 90]++[])=[V.eB false d.sp.length (mE d.sp),mK 90])],
   .to .normal (xA d l [(43,.bool (!b))]))]
 :=dj.of C C C
theorem aqM(d:Dc)(l:List (Eng.D×Eng.D)):dw (U dY []) [] 0 Tryz.f42 [1,3,5] (dM 1 (dr 5 oD)) (xA d l []) [([],
   [],
   .to .normal (xA d l [(5,L 0)]))]
 :=dj.of C C C
theorem aqN(d:Dc)(l:List (Eng.D×Eng.D))(z:Int):dw (U dY []) [] 0 Tryz.f42 [1,3,5,46,47,48] (dF Zw) (xA d l [(5,L z)]) [([],
   [],
   .to .normal (xA d l [(5,L z),(46,.eB false d.ly.length (fc d.ly)),(47,M d.ly.length),(48,M 0)]))]
 :=dj.of C C C
theorem aqO(d:Dc)(l:List (Eng.D×Eng.D))(z:Int)(i:Nat):dw (U dY []) [(49,.split)] 0 Tryz.f42 [1,3,5,46,47,48] (dM 2 Zx) (xA d l [(5,L z),(46,.eB false d.ly.length (fc d.ly)),(47,M d.ly.length),(48,M i)]) [([((decide (Int.ofNat i<Int.ofNat d.ly.length)),true)],
   [],
   .to .normal (xA d l [(5,L z),(46,.eB false d.ly.length (fc d.ly)),(47,M d.ly.length),(48,M i)])),
  ([((decide (Int.ofNat i<Int.ofNat d.ly.length)),false)],
   [],
   .to (.exit 0) (xA d l [(5,L z),(46,.eB false d.ly.length (fc d.ly)),(47,M d.ly.length),(48,M i)]))]
 :=dj.of C C C
theorem aqP(d:Dc)(l:List (Eng.D×Eng.D))(z:Int)(i:Nat)(x:eJ):dw (U dY []) [(51,.dz (.dx x.ds))] 0 Tryz.f42 [1,3,5,6,7,46,47,48] (dM 1 UJ) (xA d l [(5,L z),(46,.eB false d.ly.length (fc d.ly)),(47,M d.ly.length),(48,M i)]) [([],
   [((0:Int)<=Int.ofNat i/\Int.ofNat i<(Int.ofNat d.ly.length)),((fc d.ly).length=d.ly.length*31),(V.dx (dn (fc d.ly) (i*31) 31)=V.dx x.ds)],
   .to .normal (UM d l 7 x.R [(5,L z),(6,M i),(46,.eB false d.ly.length (fc d.ly)),(47,M d.ly.length),(48,M i)]))]
 :=dj.of C C C
theorem aqQ(d:Dc)(l:List (Eng.D×Eng.D))(z:Int)(i:Nat)(x:eJ):dw (U dY []) [(56,.split),(62,.split)] 0 Tryz.f42 [1,3,5,6,7,46,47,48,63,65] (kE (dF (dr 1 UJ))) (UM d l 7 x.R [(5,L z),(6,M i),(46,.eB false d.ly.length (fc d.ly)),(47,M d.ly.length),(48,M i)]) [([((decide (x.id>z)),true),((decide (x.id<d.nx)),true)],
   [],
   .to .normal (UM d l 7 x.R [(5,L z),(6,M i),(46,.eB false d.ly.length (fc d.ly)),(47,M d.ly.length),(48,M i),(63,.bool true),(65,L x.id)])),
  ([((decide (x.id>z)),true),((decide (x.id<d.nx)),false)],
   [],
   .to .normal (UM d l 7 x.R [(5,L z),(6,M i),(46,.eB false d.ly.length (fc d.ly)),(47,M d.ly.length),(48,M i),(63,.bool false),(65,L x.id)])),
  ([((decide (x.id>z)),false)],
   [],
   .to .normal (UM d l 7 x.R [(5,L z),(6,M i),(46,.eB false d.ly.length (fc d.ly)),(47,M d.ly.length),(48,M i),(63,.bool false),(65,L x.id)]))]
 :=dj.of C C C
theorem aqR(d:Dc)(l:List (Eng.D×Eng.D))(z:Int)(i:Nat)(x:eJ):dw (U dY []) [] 0 Tryz.f42 [1,3,5,46,47,48] (dr 2 UJ) (UM d l 7 x.R [(5,L z),(6,M i),(46,.eB false d.ly.length (fc d.ly)),(47,M d.ly.length),(48,M i)]) [([],
   [(eZ (D.int A x.id) l=none),((0:Int)<=(Int.ofNat l.length)/\(Int.ofNat l.length)<(Int.ofNat (l++[(D.int A x.id,D.int A (0:Int))]).length))],
   .to .normal (xA d (iB (l++[(.int .i64 x.id,.int .i64 0)]) (l.length:Int).toNat fun e=>(e.1,.int .i64 (Int.ofNat i))) [(5,L x.id),(46,.eB false d.ly.length (fc d.ly)),(47,M d.ly.length),(48,M i)]))]
 :=dj.of C C C
theorem aqS(d:Dc)(l:List (Eng.D×Eng.D))(z:Int)(i:Nat):dw (U dY []) [(78,.dz (M (i+1)))] 0 Tryz.f42 [1,3,5,46,47,48] (dr 3 Zx) (xA d l [(5,L z),(46,.eB false d.ly.length (fc d.ly)),(47,M d.ly.length),(48,M i)]) [([],
   [(V.int A (IntKind.i64.wrap (Int.ofNat i+(1:Int)))=M (i+1))],
   .to .normal (xA d l [(5,L z),(46,.eB false d.ly.length (fc d.ly)),(47,M d.ly.length),(48,M (i+1))]))]
 :=dj.of C C C
theorem aqT(d:Dc)(T:List (Eng.D×Eng.D))(x:eJ):dw (U (rZ 44 [L d.root] d T (.gw [x.v,.bool true]) dY) []) [] 0 Tryz.f42 [1,3,8,9] (dM 1 (dr 7 oD)) (oQ d T []) [([],
   [([V.ptr (some (0,0)),V.int A d.root]=[pT,L d.root]),((J.nil.set 0 (some (h2.cells [V.eB false d.sp.length (mE d.sp),V.int A d.root,V.int A d.nx,V.eB false d.ly.length (fc d.ly),V.map (some 1)]))).set 1 (some (h2.gl (some A) T))=lR d T),(2=2)],
   .to .normal (UL d T 8 x.R [(9,.bool true)]))]
 :=dj.of C C C
theorem aqU(d:Dc)(T:List (Eng.D×Eng.D)):dw (U (rZ 44 [L d.root] d T (.gw [T7,.bool false]) dY) []) [] 0 Tryz.f42 [1,3,8,9] (dM 1 (dr 7 oD)) (oQ d T []) [([],
   [([V.ptr (some (0,0)),V.int A d.root]=[pT,L d.root]),((J.nil.set 0 (some (h2.cells [V.eB false d.sp.length (mE d.sp),V.int A d.root,V.int A d.nx,V.eB false d.ly.length (fc d.ly),V.map (some 1)]))).set 1 (some (h2.gl (some A) T))=lR d T),(2=2)],
   .to .normal (UL d T 8 (NX 0 0 z7 0) [(9,.bool false)]))]
 :=dj.of C C C
theorem aqV(d:Dc)(T:List (Eng.D×Eng.D))(x:eJ):dw (U dY []) [(90,.split)] 0 Tryz.f42 [1,3,91,93] (kE (dF (dr 8 oD))) (UL d T 8 x.R [(9,.bool true)]) [([((x.kd==(2:Int)),true)],
   [],
   .to .normal (oQ d T [(91,.bool true),(93,L d.root)])),
  ([((x.kd==(2:Int)),false)],
   [],
   .to .normal (oQ d T [(91,.bool false),(93,L d.root)]))]
 :=dj.of C C C
theorem aqW(d:Dc)(T:List (Eng.D×Eng.D)):dw (U dY []) [] 0 Tryz.f42 [1,3,91,93] (kE (dF (dr 8 oD))) (UL d T 8 (NX 0 0 z7 0) [(9,.bool false)]) [([],
   [],
   .to .normal (oQ d T [(91,.bool false),(93,L d.root)]))]
 :=dj.of C C C
theorem aqX(d:Dc)(T:List (Eng.D×Eng.D)):dw (U dY []) [] 0 Tryz.f42 [1,3,96,97,98] (dF Zy) (oQ d T []) [([],
   [],
   .to .normal (oQ d T [(96,.eB false d.ly.length (fc d.ly)),(97,M d.ly.length),(98,M 0)]))]
 :=dj.of C C C
theorem aqY(d:Dc)(T:List (Eng.D×Eng.D))(i:Nat):dw (U dY []) [(99,.split)] 0 Tryz.f42 [1,3,96,97,98] (dM 2 Zz) (oQ d T [(96,.eB false d.ly.length (fc d.ly)),(97,M d.ly.length),(98,M i)]) [([((decide (Int.ofNat i<Int.ofNat d.ly.length)),true)],
   [],
   .to .normal (oQ d T [(96,.eB false d.ly.length (fc d.ly)),(97,M d.ly.length),(98,M i)])),
  ([((decide (Int.ofNat i<Int.ofNat d.ly.length)),false)],
   [],
   .to (.exit 2) (oQ d T [(96,.eB false d.ly.length (fc d.ly)),(97,M d.ly.length),(98,M i)]))]
 :=dj.of C C C
theorem aqZ(d:Dc)(T:List (Eng.D×Eng.D))(i:Nat)(x:eJ):dw (U dY []) [(100,.dz (.dx x.ds))] 0 Tryz.f42 [1,3,11,96,97,98] (dM 1 UK) (oQ d T [(96,.eB false d.ly.length (fc d.ly)),(97,M d.ly.length),(98,M i)]) [([],
   [((0:Int)<=Int.ofNat i/\Int.ofNat i<(Int.ofNat d.ly.length)),((fc d.ly).length=d.ly.length*31),(V.dx (dn (fc d.ly) (i*31) 31)=V.dx x.ds)],
   .to .normal (UL d T 11 x.R [(96,.eB false d.ly.length (fc d.ly)),(97,M d.ly.length),(98,M i)]))]
 :=dj.of C C C
theorem aq0(d:Dc)(T:List (Eng.D×Eng.D))(i:Nat)(x:eJ):dw (U (rZ 93 [x.v] d T (.gw []) dY) []) [] 0 Tryz.f42 [1,3,96,97,98] (dr 1 UK) (UL d T 11 x.R [(96,.eB false d.ly.length (fc d.ly)),(97,M d.ly.length),(98,M i)]) [([],
   [([V.ptr (some (0,0)),V.agg [V.int A x.id,V.int A x.kd,V.str x.nm,V.bool x.hid,V.int A x.op,V.int A x.md,V.bool x.clip,V.int A x.pl.a,V.int A x.pl.b,V.int A x.pl.c,V.int A x.pl.d,V.int A x.pl.e,V.int A x.pl.f,V.int A x.pl.n,V.int A x.sp,V.eB false x.kids.length (dO x.kids),V.int A x.of,V.int A x.f.k,V.int A x.f.r,V.eB false x.f.eM.length (dO x.f.eM),V.int A x.f.dv,V.int A x.f.vl,V.eB false x.f.cu.length (dO x.f.cu),V.int IntKind.u8 x.fi.r,V.int IntKind.u8 x.fi.g,V.int IntKind.u8 x.fi.b,V.int IntKind.u8 x.fi.a,V.eB false x.gW.length (qZ x.gW),V.eB false x.gd.length (jE x.gd),V.bool x.K,V.eB false x.iH.length (jE x.iH)]]=[pT,x.v]),((J.nil.set 0 (some (h2.cells [V.eB false d.sp.length (mE d.sp),V.int A d.root,V.int A d.nx,V.eB false d.ly.length (fc d.ly),V.map (some 1)]))).set 1 (some (h2.gl (some A) T))=lR d T),(2=2)],
   .to .normal (oQ d T [(96,.eB false d.ly.length (fc d.ly)),(97,M d.ly.length),(98,M i)]))]
 :=dj.of C C C
theorem aq1(d:Dc)(T:List (Eng.D×Eng.D))(i:Nat)(x:eJ):dw (U dY []) [] 0 Tryz.f42 [1,3,96,97,98,102,103] (kE (dr 1 UK)) (UL d T 11 x.R [(96,.eB false d.ly.length (fc d.ly)),(97,M d.ly.length),(98,M i)]) [([],
   [],
   .to .normal (oQ d T [(96,.eB false d.ly.length (fc d.ly)),(97,M d.ly.length),(98,M i),(102,pT1),(103,x.v)]))]
 :=dj.of C C C
theorem aq2(d:Dc)(T:List (Eng.D×Eng.D))(i:Nat)(x:eJ)(p:Int×Int):∃iX,EX ak (oB (IJ [x.v] d T (DD p))) [] 1000 0 Tryz.f42 [93] (dr 1 UK) (oQ d T [(96,.eB false d.ly.length (fc d.ly)),(97,M d.ly.length),(98,M i),(102,pT1),(103,x.v)]) iX
  [([],
   [([V.ptr (some (0,0)),V.agg [V.int A x.id,V.int A x.kd,V.str x.nm,V.bool x.hid,V.int A x.op,V.int A x.md,V.bool x.clip,V.int A x.pl.a,V.int A x.pl.b,V.int A x.pl.c,V.int A x.pl.d,V.int A x.pl.e,V.int A x.pl.f,V.int A x.pl.n,V.int A x.sp,V.eB false x.kids.length (dO x.kids),V.int A x.of,V.int A x.f.k,V.int A x.f.r,V.eB false x.f.eM.length (dO x.f.eM),V.int A x.f.dv,V.int A x.f.vl,V.eB false x.f.cu.length (dO x.f.cu),V.int IntKind.u8 x.fi.r,V.int IntKind.u8 x.fi.g,V.int IntKind.u8 x.fi.b,V.int IntKind.u8 x.fi.a,V.eB false x.gW.length (qZ x.gW),V.eB false x.gd.length (jE x.gd),V.bool x.K,V.eB false x.iH.length (jE x.iH)]]=[pT,x.v]),((J.nil.set 0 (some (h2.cells [V.eB false d.sp.length (mE d.sp),V.int A d.root,V.int A d.nx,V.eB false d.ly.length (fc d.ly),V.map (some 1)]))).set 1 (some (h2.gl (some A) T))=lR d T),(2=2)],
   .ret (.iface 99 (.agg [.int .i64 (p.1),.int .i64 (p.2)])) (G []) 0)]
 :=⟨[],by unfold EX;kernel_rfl⟩
theorem aq3(d:Dc)(T:List (Eng.D×Eng.D))(i:Nat):dw (U dY []) [(105,.dz (M (i+1)))] 0 Tryz.f42 [1,3,96,97,98] (dr 3 Zz) (oQ d T [(96,.eB false d.ly.length (fc d.ly)),(97,M d.ly.length),(98,M i)]) [([],
   [(V.int A (IntKind.i64.wrap (Int.ofNat i+(1:Int)))=M (i+1))],
   .to .normal (oQ d T [(96,.eB false d.ly.length (fc d.ly)),(97,M d.ly.length),(98,M (i+1))]))]
 :=dj.of C C C
theorem aq4(d:Dc)(T:List (Eng.D×Eng.D)):dw (U (rZ 94 [] d T (.gw []) dY) []) [] 0 Tryz.f42 [1,3] (dF (dr 10 oD)) (oQ d T []) [([],
   [([V.ptr (some (0,0))]=[pT]),((J.nil.set 0 (some (h2.cells [V.eB false d.sp.length (mE d.sp),V.int A d.root,V.int A d.nx,V.eB false d.ly.length (fc d.ly),V.map (some 1)]))).set 1 (some (h2.gl (some A) T))=lR d T),(2=2)],
   .to .normal (oQ d T []))]
 :=dj.of C C C
theorem aq5(d:Dc)(T:List (Eng.D×Eng.D)):dw (U dY []) [] 0 Tryz.f42 [1,3,106] (kE (dF (dr 10 oD))) (oQ d T []) [([],
   [],
   .to .normal (oQ d T [(106,pT1)]))]
 :=dj.of C C C
theorem aq6(d:Dc)(T:List (Eng.D×Eng.D))(p:Int×Int):∃iX,EX ak (oB (IJ [] d T (DD p))) [] 1000 0 Tryz.f42 [94] (dF (dr 10 oD)) (oQ d T [(106,pT1)]) iX
  [([],
   [([V.ptr (some (0,0))]=[pT]),((J.nil.set 0 (some (h2.cells [V.eB false d.sp.length (mE d.sp),V.int A d.root,V.int A d.nx,V.eB false d.ly.length (fc d.ly),V.map (some 1)]))).set 1 (some (h2.gl (some A) T))=lR d T),(2=2)],
   .ret (.iface 99 (.agg [.int .i64 (p.1),.int .i64 (p.2)])) (G []) 0)]
 :=⟨[],by unfold EX;kernel_rfl⟩
theorem aq7(d:Dc)(T:List (Eng.D×Eng.D)):dw (U dY []) [] 0 Tryz.f42 [1,3,109,110,111] (dF ZA) (oQ d T []) [([],
   [],
   .to .normal (oQ d T [(109,.eB false d.ly.length (fc d.ly)),(110,M d.ly.length),(111,M 0)]))]
 :=dj.of C C C
theorem aq8(d:Dc)(T:List (Eng.D×Eng.D))(i:Nat):dw (U dY []) [(112,.split)] 0 Tryz.f42 [1,3,109,110,111] (dM 2 ZB) (oQ d T [(109,.eB false d.ly.length (fc d.ly)),(110,M d.ly.length),(111,M i)]) [([((decide (Int.ofNat i<Int.ofNat d.ly.length)),true)],
   [],
   .to .normal (oQ d T [(109,.eB false d.ly.length (fc d.ly)),(110,M d.ly.length),(111,M i)])),
  ([((decide (Int.ofNat i<Int.ofNat d.ly.length)),false)],
   [],
   .to (.exit 4) (oQ d T [(109,.eB false d.ly.length (fc d.ly)),(110,M d.ly.length),(111,M i)]))]
 :=dj.of C C C
theorem aq9(d:Dc)(T:List (Eng.D×Eng.D))(i:Nat)(x:eJ):dw (U dY []) [(113,.dz (.dx x.ds))] 0 Tryz.f42 [1,3,13,109,110,111] (dM 1 ZC) (oQ d T [(109,.eB false d.ly.length (fc d.ly)),(110,M d.ly.length),(111,M i)]) [([],
   [((0:Int)<=Int.ofNat i/\Int.ofNat i<(Int.ofNat d.ly.length)),((fc d.ly).length=d.ly.length*31),(V.dx (dn (fc d.ly) (i*31) 31)=V.dx x.ds)],
   .to .normal (UL d T 13 x.R [(109,.eB false d.ly.length (fc d.ly)),(110,M d.ly.length),(111,M i)]))]
 :=dj.of C C C
theorem ara(d:Dc)(T:List (Eng.D×Eng.D))(i:Nat)(x:eJ)(b:Bool):dw (U (rZ 45 [L x.id,L x.id,fnT 95] d T (.bool b) dY) []) [] 0 Tryz.f42 [1,3,109,110,111,123,125] (kE (dr 1 ZC)) (UL d T 13 x.R [(109,.eB false d.ly.length (fc d.ly)),(110,M d.ly.length),(111,M i)]) [([],
   [([V.ptr (some (0,0)),V.int A x.id,V.int A x.id,V.fn (Fn.func 95) [V.ptr (some (0,0))] []]=[pT,L x.id,L x.id,fnT 95]),((J.nil.set 0 (some (h2.cells [V.eB false d.sp.length (mE d.sp),V.int A d.root,V.int A d.nx,V.eB false d.ly.length (fc d.ly),V.map (some 1)]))).set 1 (some (h2.gl (some A) T))=lR d T),(2=2)],
   .to .normal (oQ d T [(109,.eB false d.ly.length (fc d.ly)),(110,M d.ly.length),(111,M i),(123,.bool (!b)),(125,L x.id)]))]
 :=dj.of C C C
theorem arb(d:Dc)(T:List (Eng.D×Eng.D))(i:Nat):dw (U dY []) [(127,.dz (M (i+1)))] 0 Tryz.f42 [1,3,109,110,111] (dr 3 ZB) (oQ d T [(109,.eB false d.ly.length (fc d.ly)),(110,M d.ly.length),(111,M i)]) [([],
   [(V.int A (IntKind.i64.wrap (Int.ofNat i+(1:Int)))=M (i+1))],
   .to .normal (oQ d T [(109,.eB false d.ly.length (fc d.ly)),(110,M d.ly.length),(111,M (i+1))]))]
 :=dj.of C C C
theorem arc(d:Dc)(T:List (Eng.D×Eng.D))(a:Int):dw (U (rZ 48 [L d.root] d T (L a) dY) []) [] 0 Tryz.f42 [3,132,134] (kE (dF (dr 12 oD))) (oQ d T []) [([],
   [([V.ptr (some (0,0)),V.int A d.root]=[pT,L d.root]),((J.nil.set 0 (some (h2.cells [V.eB false d.sp.length (mE d.sp),V.int A d.root,V.int A d.nx,V.eB false d.ly.length (fc d.ly),V.map (some 1)]))).set 1 (some (h2.gl (some A) T))=lR d T),(2=2)],
   .to .normal (fq [(3,.ptr (some (0,0))),(132,.bool (decide (a<=(6:Int)))),(134,L d.root)] (lR d T) 2))]
 :=dj.of C C C
theorem ard(d:Dc)(T:List (Eng.D×Eng.D)):dw (U dY []) [] 0 Tryz.f42 [] (dr 13 oD) (fq [(3,.ptr (some (0,0)))] (lR d T) 2) [([],
   [],
   .ret (.ptr (some (0,0))) (G [(0,.cells [.eB false (d.sp.length) (mE d.sp),.int .i64 (d.root),.int .i64 (d.nx),.eB false (d.ly.length) (fc d.ly),.map (some 1)]),(1,.gl (some .i64) T)]) 2)]
 :=dj.of C C C
set_option maxRecDepth 10000
def dE(D8:List Int):List (Eng.D×Eng.D):=D8.zipIdx.map fun p=>(.int .i64 p.1,.int .i64 (Int.ofNat p.2))
theorem Md(k:Int):∀l:List (Int×Nat),(∀p∈l,p.1≠k)->eZ (.int .i64 k) (l.map fun p=>(.int .i64 p.1,.int .i64 (Int.ofNat p.2)))=none
 | [],_=>rfl
 |p::l,h=>by
  have Q:=h p (by simp);simp only[bP,eZ,gz,decide_true,aN];rw[aT fun e=>Q e.symm];exact Md k l fun p hp=>h p (by simp[hp])
theorem K7{D8:List Int}{k:Int}(h:k∉D8):eZ (.int .i64 k) (dE D8)=none:=
 Md k _ fun p hp e=>by
  obtain⟨k',j⟩:=p;obtain⟨_,_,h3⟩:=List.mem_zipIdx hp;simp only at e;subst e;exact h (h3▸bK _)
theorem AP{α:Type}(f:α->α)(e:α):∀l:List α,iB (l++[e]) l.length f=l++[f e]
 | []=>rfl
 |x::l=>by simp only[List.cons_append,aP,iB,AP f e l]
theorem UN(D8:List Int)(x:Int){i:Nat}(h:D8.length=i):iB (dE D8++[(.int .i64 x,.int .i64 0)]) ((dE D8).length:Int).toNat (fun e=>(e.1,.int .i64 (Int.ofNat i)))=dE (D8++[x]):=by
 rw[Int.toNat_natCast,AP];unfold dE;rw[List.zipIdx_append,bQ];simp[List.zipIdx,h]
theorem Me(k:Int):∀(ls:List eJ) (s:Nat),eZ (.int .i64 k) (((ls.map (·.id)).zipIdx s).map fun p=>(.int .i64 p.1,.int .i64 (Int.ofNat p.2)))=(ls.findIdx? fun l=>l.id==k).map fun n=>.int .i64 (Int.ofNat (s+n))
 | [],_=>rfl
 |l::ls,s=>by
  simp only[bP,List.zipIdx_cons,eZ,gz,List.findIdx?_cons,decide_true,aN];by_cases q:k=l.id
  . subst q;simp
  . rw[aT q,aB (by simpa using fun e=>q e.symm)];simp only;rw[Me k ls (s+1),Option.map_map];congr 1;funext n;simp only[Function.comp];congr 2;omega
theorem RG(d:Dc):xl d (dE (d.ly.map (·.id))):=fun k=>by
 have:=Me k d.ly 0;simp only[b7]at this;exact this
section
variable{F fr m:Nat}{s:St}{kd:Option IntKind}
theorem ZD(ht:Nat.blt m fZ=true)(K:s.h.get m=some (.map [] 0)):j9 F fr s { s with h:=s.h.set m (some (.oJ kd [])) }:=
 j9.mem fun _ _ g=>pK (az ht) K rfl (fun _ _ _ ⟨hs,fK,Q,O⟩=>⟨hs,fK,Q,⟨O,List.nodup_nil,(fun e he=>by cases he),(by rw[show fK.toList=[]from O];rfl)⟩⟩) g
theorem ZE{T:List (Eng.D×Eng.D)}(ht:Nat.blt m fZ=true)(K:s.h.get m=some (.oJ kd T)):j9 F fr s { s with h:=s.h.set m (some (.gl kd T)) }:=
 j9.mem fun _ _ g=>pK (az ht) K rfl (fun _ _ _ ⟨hs,fK,Q,O⟩=>⟨hs,fK,_,Q,O.rel⟩) g
end
set_option maxRecDepth 10000
noncomputable abbrev NC:Nat:=Tryz.f42.ntmps
def ND(d:Dc)(i:Nat):List Int:=(d.ly.take i).map (·.id)
def o4(d:Dc):List (Eng.D×Eng.D):=dE (d.ly.map (·.id))
noncomputable def K8(d:Dc):pO:=if(jo d).1=0 then .ret pT else .nr (DD (jo d))
abbrev RC(d:Dc):Exit->St->Prop:=Dm ak 0 Tryz.f42 fun o h n=>o=K8 d/\((jo d).1=0->h=lR d (o4 d)/\n=2)
theorem NG{d:Dc}{q:Int×Int}{ch:List PanicEntry}{s:St}(hp:Bg (DD q) ch)(hl:Nu ak 0 Tryz.f42 s (.nr (DD q) false)=some (.nr (DD q),.nil,0))(B:jo d=q)(h0:q.1≠0):RC d (.panic ch) s:=
 .Dn hp hl ⟨by unfold K8;rw[B,aB h0],fun z=>absurd (by rw[B]at z;exact z) h0⟩
theorem ZF{d:Dc}(h:xj d=true):¬((Int.ofNat d.sp.length)<=(8:Int)/\(Int.ofNat d.ly.length)<=(40:Int)/\d.nx>=(1:Int)/\d.nx<=(1048576:Int)):=by
 unfold xj at h;simp only[bX,aY]at h;omega
theorem UO{d:Dc}{i:Nat}(h:i<=d.ly.length):(ND d i).length=i:=by
 unfold ND;rw[bG,bq];omega
theorem I0{d:Dc}{i:Nat}(h:i<d.ly.length):ND d (i+1)=ND d i++[(d.at i).id]:=by
 unfold ND;rw[bY,getD_some gy h,Option.toList_some,bQ];rfl
theorem RH{d:Dc}:∀{i:Nat},i<=d.ly.length->(∀j,j<i->tE d j=false)->(∀k∈ND d i,k<=u0 d i)/\(ND d i).Nodup
 |0,_,_=>⟨(fun k W=>by cases W),List.nodup_nil⟩
 |i+1,h,hj=>by
  obtain⟨Q,O⟩:=RH (i:=i) H fun j VI=>hj j H;have hb:=hj i H;unfold tE at hb;rw[cK,bu]at hb;rw[I0 H];refine⟨fun k W=>?_,List.nodup_append.2 ⟨O,by simp,fun a ha b Bn=>?_⟩⟩
  . show k<=(d.at i).id;rcases bg.1 W with q|q
    . have:=Q k q;omega
    . rw[aH]at q;omega
  . rw[aH]at Bn;subst Bn;have:=Q a ha;omega
theorem ZG{ls:List eJ}{x:eJ}(h:x∈ls):∃n,jy ls x.id=some n:=by
 cases hn:jy ls x.id with
 |some n=>exact⟨n,rfl⟩
 |none=>
  unfold jy at hn;rw[cH]at hn;have:=hn x h;simp at this
section
variable{d:Dc}
theorem are(SA:xj d=false)(ve:∀i,i<d.ly.length->tE d i=true->(∀j,j<i->tE d j=false)->jo d=(40,(d.at i).id)){h1:Exit->St->Prop}(hp:∀ch X,RC d (.panic ch) X->h1 (.panic ch) X)
  (hQ:(∀j,j<d.ly.length->tE d j=false)->∀X,j9 0 NC X (oQ d (o4 d) [])->h1 .normal X):TG ak 0 NC Zw (xA d [] [(5,L 0)]) h1:=by
 have h40:=(Df SA).2.1;refine dK C (gv (di _) eE (aqN d [] 0) (dB (g0 ⟨all_nil,fun X dQ=>?_⟩)));simp only[andThen];refine vc 0 d.ly.length (fun i=>xA d (dE (ND d i)) ((5,L (u0 d i))::kg d 46 47 48 i)) (tE d) (j9.norm dQ) (fun i hi hj Q' k1 k2 k3=>?_) (fun Q X dQ=>hQ Q X ?_)
 . refine kU 2 (di _) eE (aqO d _ _ i) (dD (g1 fun h=>⟨all_nil,?_⟩) (dB (g1 fun h=>⟨all_nil,fun X dQ=>k2 (by have:=r9 h;omega) X (j9.norm dQ)⟩)));have q:=jW h;have hA:V.dx (dn (fc d.ly) (i*31) 31)= .dx (d.at i).ds:=iw q;have hb:tE d i=(decide ((d.at i).id<=u0 d i)||decide ((d.at i).id>=d.nx)):=rfl;have Yu:=ve i q;have hl:=UO hi;obtain⟨m1,m2⟩:=RH hi hj;have vK:=I0 q;have FD:=k1 q;have hpr:u0 d (i+1)=(d.at i).id:=rfl;rw[vK,hpr]at FD;clear k1;generalize u0 d i=z at *;generalize ND d i=D8 at *;generalize d.at i=x at *;refine dK C (fh (i:=1) C ?_);refine kU 1 (di _) eE (aqP d (dE D8) z i x) (dB (g0 ⟨S (iI q) (S (gj _) (eG hA)),?_⟩));refine kr (rC (dF (dr 1 UJ))) (di _) (!tE d i) (fun b=>UM d (dE D8) 7 x.R ((5,L z)::(6,M i)::(kg d 46 47 48 i++[(63,.bool b),(65,L x.id)]))) 40 x.id [1,3,5,6,7,46,47,48] (UM d (dE D8) 7 x.R ((5,L z)::(6,M i)::kg d 46 47 48 i)) (aqQ d (dE D8) z i x) ?_ (fun b=>by kernel_rfl) C (fun hbf=>?_) (fun hbt ch GC=>?_)
   . repeat' (first|exact gH|refine dD ?_ ?_)
     all_goals
      intro B;simp only[aD,aJ,bn,aL,bh,aY,bu]at B;refine⟨all_nil,DF (fm:=fun b=>UM d (dE D8) 7 x.R ((5,L z)::(6,M i)::(kg d 46 47 48 i++[(63,.bool b),(65,L x.id)]))) ?_⟩;rw[hb]
      first
       |rw[aT H,aT H];rfl
       |rw[aZ H];rfl
       |rw[Bool.or_comm,aZ H];rfl
   . rw[bV]at hbf;have I:x.id∉D8:=fun K=>by
      rw[hb,cK,bu]at hbf;have:=m1 _ K;omega
     have hms:=UN D8 x.id hl;have hbn:(0:Int)<=((dE D8).length:Int)/\((dE D8).length:Int)<((dE D8++[(Eng.D.int .i64 x.id,Eng.D.int .i64 0)]).length:Int):=by rw[aE,cg];omega
     refine gv (di _) eE (aqR d (dE D8) z i x) (dB (g0 ⟨S (K7 I) (eG hbn),fun X dQ=>?_⟩));rw[hms]at dQ;simp only[gk,andThen];exact fU dQ (gv (di _) eE (aqS d _ _ i) (dB (g0 ⟨eG (gJ H),fun X dQ=>FD hbf X (j9.norm dQ)⟩)))
   . rw[Bool.not_eq_false']at hbt;exact k3 ch _ (hp ch _ (NG GC C (Yu hbt hj) (show(40:Int)≠0 by decide)))
 . have he:ND d d.ly.length=d.ly.map (·.id):=by unfold ND;rw[bz]
   refine dQ.trans ((j9.norm (iX:=[1,3]) (fm:=xA d (dE (ND d d.ly.length)) []) C).trans ?_);have:=ZE (F:=0) (fr:=NC) (m:=2) (s:=xA d (dE (ND d d.ly.length)) []) (kd:=some .i64) C rfl;unfold o4;rw[<- he];exact this
theorem arf(hd:Jc d)(hb:∀x∈d.ly,x.kd≠3->K1 x.f)(h40:d.ly.length<=1000)(ve:∀i,i<d.ly.length->Ku d i=true->(∀j,j<i->Ku d j=false)->jo d=(vQ d.sp.length (d.at i),(d.at i).id)){h1:Exit->St->Prop}(hp:∀ch X,RC d (.panic ch) X->h1 (.panic ch) X)
  (hQ:(∀j,j<d.ly.length->Ku d j=false)->∀X,j9 0 NC X (oQ d (o4 d) [])->h1 .normal X):TG ak 0 NC Zy (oQ d (o4 d) []) h1:=by
 generalize o4 d=T at *;refine dK C (gv (di _) eE (aqX d T) (dB (g0 ⟨all_nil,fun X dQ=>?_⟩)));simp only[andThen];refine vc 2 d.ly.length (fun i=>oQ d T (kg d 96 97 98 i)) (Ku d) (j9.norm dQ) (fun i hi hj Q' k1 k2 k3=>?_) (fun Q X dQ=>hQ Q X (dQ.trans (j9.norm (iX:=[1,3]) C)));refine kU 2 (di _) eE (aqY d T i) (dD (g1 fun h=>⟨all_nil,?_⟩) (dB (g1 fun h=>⟨all_nil,fun X dQ=>k2 (by have:=r9 h;omega) X (j9.norm dQ)⟩)));have q:=jW h;have hA:V.dx (dn (fc d.ly) (i*31) 31)= .dx (d.at i).ds:=iw q;have hF:=IY d T (d.at i) (hd.at i) (hb _ (nj q));have ht:Ku d i=(vQ d.sp.length (d.at i) !=0):=rfl;have Yu:=fun h=>ve i q h hj;have FD:=k1 q;clear k1;generalize d.at i=x at *;refine dK C (fh (i:=3) C ?_);refine kU 1 (di _) eE (aqZ d T i x) (dB (g0 ⟨S (iI q) (S (gj _) (eG hA)),?_⟩));by_cases h0:vQ d.sp.length x=0
 . refine gv (ny (hF.1 h0) (di _)) eE (aq0 d T i x) (dB (g0 ⟨S rfl (S rfl (eG rfl)),fun X dQ=>?_⟩));simp only[gk,andThen];exact fU dQ (gv (di _) eE (aq3 d T i) (dB (g0 ⟨eG (gJ H),fun X dQ=>FD (by rw[ht,h0];rfl) X (j9.norm dQ)⟩)))
 . have B:=Yu (by rw[ht];simpa using h0);exact afm (cs:=fun o h n=>o=K8 d/\((jo d).1=0->h=lR d (o4 d)/\n=2)) (di _) (aq1 d T i x) all_nil (hF.2 h0) (aq2 d T i x _) (S rfl (S rfl (eG rfl))) ⟨by unfold K8;rw[B,aB h0];rfl,fun z=>absurd (by rw[B]at z;exact z) h0⟩ (fun ch X h=>k3 ch X (hp ch X h))
theorem arh(I:xl d (o4 d))(hd:Jc d)(h40:d.ly.length<=1000)(ve:(oZ d).1≠0->jo d=oZ d){h1:Exit->St->Prop}(hp:∀ch X,RC d (.panic ch) X->h1 (.panic ch) X)
  (hQ:(oZ d).1=0->∀X,j9 0 NC X (oQ d (o4 d) [])->h1 .normal X):TG ak 0 NC (dF (dr 10 oD)) (oQ d (o4 d) []) h1:=by
 have hF:=K6 d (o4 d) I hd.m h40;by_cases h0:(oZ d).1=0
 . exact gv (ny (hF.1 h0) (di _)) eE (aq4 d (o4 d)) (dB (g0 ⟨S rfl (S rfl (eG rfl)),fun X dQ=>hQ h0 X (j9.norm dQ)⟩))
 . have B:=ve h0;exact afm (cs:=fun o h n=>o=K8 d/\((jo d).1=0->h=lR d (o4 d)/\n=2)) (di _) (aq5 d (o4 d)) all_nil (hF.2 h0) (aq6 d (o4 d) _) (S rfl (S rfl (eG rfl))) ⟨by unfold K8;rw[B,aB h0];rfl,fun z=>absurd (by rw[B]at z;exact z) h0⟩ hp
theorem ari(I:xl d (o4 d))(hd:Jc d)(h40:d.ly.length<=1000)(B:Clo d.ly)(ve:∀i,i<d.ly.length->Ni d i=true->(∀j,j<i->Ni d j=false)->jo d=(42,(d.at i).id)){h1:Exit->St->Prop}(hp:∀ch X,RC d (.panic ch) X->h1 (.panic ch) X)
  (hQ:(∀j,j<d.ly.length->Ni d j=false)->∀X,j9 0 NC X (oQ d (o4 d) [])->h1 .normal X):TG ak 0 NC ZA (oQ d (o4 d) []) h1:=by
 generalize o4 d=T at *;refine dK C (gv (di _) eE (aq7 d T) (dB (g0 ⟨all_nil,fun X dQ=>?_⟩)));simp only[andThen];refine vc 4 d.ly.length (fun i=>oQ d T (kg d 109 110 111 i)) (Ni d) (j9.norm dQ) (fun i hi hj Q' k1 k2 k3=>?_) (fun Q X dQ=>hQ Q X (dQ.trans (j9.norm (iX:=[1,3]) C)));refine kU 2 (di _) eE (aq8 d T i) (dD (g1 fun h=>⟨all_nil,?_⟩) (dB (g1 fun h=>⟨all_nil,fun X dQ=>k2 (by have:=r9 h;omega) X (j9.norm dQ)⟩)));have q:=jW h;have hA:V.dx (dn (fc d.ly) (i*31) 31)= .dx (d.at i).ds:=iw q;obtain⟨n,hn⟩:=ZG (nj q);obtain⟨b,hB,hb⟩:=IL d T I hd.m B (d.at i).id (d.at i).id hn;have ht:Ni d i=b:=by
  rw[Bool.eq_iff_iff,hb,<- (lJ d.ly false (d.at i).id).2];unfold Ni;exact cM
 have Yu:=fun h=>ve i q h hj;have FD:=k1 q;clear k1 hn;generalize d.at i=x at *;refine dK C (fh (i:=5) C ?_);refine kU 1 (di _) eE (aq9 d T i x) (dB (g0 ⟨S (iI q) (S (gj _) (eG hA)),?_⟩));refine Nv (rC (dr 1 ZC)) (ny hB (di _)) (!b) (fun b=>oQ d T (kg d 109 110 111 i++[(123,.bool b),(125,L x.id)])) 42 x.id [1,3,109,110,111] (oQ d T (kg d 109 110 111 i)) (ara d T i x b) (dB (g0 ⟨S rfl (S rfl (eG rfl)),rfl⟩)) (fun b=>by kernel_rfl) C (fun hbf X dQ=>?_) (fun hbt ch GC=>?_)
 . rw[bV]at hbf;simp only[gk,andThen];exact dQ.vO _ _ (gv (di _) eE (arb d T i) (dB (g0 ⟨eG (gJ H),fun X dQ=>FD (ht.trans hbf) X (j9.norm dQ)⟩)))
 . rw[Bool.not_eq_false']at hbt;exact k3 ch _ (hp ch _ (NG GC C (Yu (ht.trans hbt)) (show(42:Int)≠0 by decide)))
theorem arj(hD:mh 48 [L d.root] d (o4 d) (L (ic d.ly 100 d.root)))(ve:jo d=if ic d.ly 100 d.root>6 then(43,d.root)else(0,0)):TG ak 0 NC (dr 12 oD) (oQ d (o4 d) []) (RC d):=by
 generalize ic d.ly 100 d.root=a at *;refine kr (rC (dF (dr 12 oD))) (ny hD (di _)) (decide (a<=(6:Int))) (fun b=>fq [(3,.ptr (some (0,0))),(132,.bool b),(134,L d.root)] (lR d (o4 d)) 2) 43 d.root [3] (fq [(3,.ptr (some (0,0)))] (lR d (o4 d)) 2) (arc d (o4 d) a) (dB (g0 ⟨S rfl (S rfl (eG rfl)),rfl⟩)) (fun b=>by kernel_rfl) C (fun q=>?_) (fun q ch GC=>?_)
 . have hq:=aX q;rw[aB H]at ve;refine qG (eK (di _) (ard d (o4 d)) (dB (g0 ⟨all_nil,_,_,_,rfl,?_⟩))) fun y X h=>Dm.YI h;exact⟨by unfold K8;rw[ve];rfl,fun _=>⟨rfl,rfl⟩⟩
 . have hq:=bB q;rw[aG H]at ve;exact NG GC C ve (show(43:Int)≠0 by decide)
end
theorem ZH{d:Dc}(W:∀x∈d.ly,q8 d x=true)(B:∀x∈d.ly,Be d x=false):Clo d.ly:=fun x I p hp=>by
 unfold fN at hp;split at hp
 . rename_i h4;rw[aH]at hp;subst hp;have:=B x I;unfold Be at this;rw[h4]at this;cases hn:jy d.ly x.of with
   |none=>rw[hn]at this;cases this
   |some n=>exact⟨n,rfl⟩
 . exact De (W x I) hp
theorem afo(d:Dc)(hd:Jc d)(hb:∀x∈d.ly,x.kd≠3->K1 x.f):TG ak 0 NC oD (dy [d.v] .nil 0) (RC d):=by
 have hw:∀q,ir d=q->q.1≠0->jo d=q:=fun q h h0=>by
  unfold jo;rw[aB (by rw[h];exact h0),h]
 refine fF 2 (di _) (aqI d) all_nil ?_;refine(ZD (F:=0) (fr:=NC) (m:=2) (s:=sC0 d) (kd:=some .i64) C rfl).vO _ _ ?_;refine kr (rC (dF (dr 2 oD))) (di _) (!xj d) (fun b=>xA d [] [(37,.bool b)]) 2 0 [1,3] (xA d [] []) (aqJ d []) ?_ (fun b=>by kernel_rfl) C (fun q=>?_) (fun q ch hp=>?_)
 . repeat' (first|exact gH|refine dD ?_ ?_)
   all_goals
    intro B;simp only[aD,aJ,bn,aL,bh,aY,bu]at B;refine⟨all_nil,DF (fm:=fun b=>xA d [] [(37,.bool b)]) ?_⟩;cases hq:xj d with
    |true=>
     have:=ZF hq
     first|rfl|(exfalso;simp only[gQ]at B this;omega)
    |false=>
     have:=Df hq
     first|rfl|(exfalso;simp only[gQ]at B;omega)
 rotate_left
 . rw[Bool.not_eq_false']at q;exact NG hp C (hw (2,0) (by unfold ir;rw[aG q]) (show(2:Int)≠0 by decide)) (show(2:Int)≠0 by decide)
 rw[bV]at q;obtain⟨h8,h40,_,_⟩:=Df q;refine fF 1 (di _) (aqK d []) all_nil ?_;refine kr (rC (dF (dr 4 oD))) (fu (Uw d.sp hd.s H) (di _)) (!(d.sp.any fun s=>!AJ s)) (fun b=>xA d [] [(43,.bool b)]) 23 0 [1,3] (xA d [] []) (aqL d [] _) (dB (g0 ⟨eG rfl,rfl⟩)) (fun b=>by kernel_rfl) C (fun q2=>?_) (fun q2 ch hp=>?_)
 rotate_left
 . rw[Bool.not_eq_false']at q2;refine NG hp C (hw (23,0) ?_ (show(23:Int)≠0 by decide)) (show(23:Int)≠0 by decide);unfold ir;rw[aB (by rw[q];decide)];cases hf:lI (fun i=>!AJ (d.sp.getD i N0)) d.sp.length with
   |some i=>rfl
   |none=>
    exfalso;have:=pq hf;obtain⟨s,hs,pH⟩:=List.any_eq_true.1 q2;obtain⟨i,hi,rfl⟩:=b6 hs;have:=this i hi;rw[ax,au hi]at this;rw[ck,pH]at this;cases this
 rw[bV]at q2;have DK:lI (fun i=>!AJ (d.sp.getD i N0)) d.sp.length=none:=gB fun j hj=>by
  rw[cT]at q2;rw[ax,au hj,ck];have:=q2 _ (bK hj);simpa using this
 have ZI:ir d=match lI (tE d) d.ly.length with
  |some i=>(40,(d.at i).id)
  |none=>if lX d=true then(40,d.root)else(0,0):=by
  unfold ir;rw[aB (by rw[q];decide),DK];rfl
 refine fF 1 (di _) (aqM d []) all_nil ?_;refine dK C (are q (fun i hi Q hj=>hw _ (by rw[ZI,jj hi Q hj]) (show(40:Int)≠0 by decide)) (fun ch X h=>h) fun Q X dQ=>?_);simp only[andThen];refine dQ.vO _ _ ?_;rw[gB Q]at ZI;simp only at ZI;have I:=RG d;have nx:lX d=false->TG ak 0 NC (dr 9 oD) (oQ d (o4 d) []) (RC d):=fun VY=>by
  rw[aB (by rw[VY];decide)]at ZI;have hw0:(ir d).1=0:=by rw[ZI]
  have tM:jo d=_:=aG hw0;refine dK C (arf hd hb H (fun i hi Q hj=>by rw[tM,jj hi Q hj]) (fun ch X h=>h) fun Q X dQ=>?_);rw[gB Q]at tM;simp only[andThen];refine dQ.vO _ _ ?_;have hl:oZ d=match lI (BB d) d.ly.length with
   |some i=>(40,(d.at i).id)
   |none=>match lI (zW d) d.ly.length with
    |some i=>(40,(d.at i).id)
    |none=>(0,0):=rfl
  refine dK C (arh I hd H (fun h=>?_) (fun ch X h=>h) fun O X dQ=>?_)
  . rw[tM,hl];rw[hl]at h;simp only;cases e2:lI (BB d) d.ly.length with
    |some i=>rfl
    |none=>
     rw[e2]at h;simp only at h ⊢;cases e3:lI (zW d) d.ly.length with
     |some i=>rfl
     |none=>rw[e3]at h;exact absurd rfl h
  have e2:lI (BB d) d.ly.length=none:=by
   cases e:lI (BB d) d.ly.length with
   |none=>rfl
   |some i=>rw[hl,e]at O;exact absurd O (show(40:Int)≠0 by decide)
  have e3:lI (zW d) d.ly.length=none:=by
   cases e:lI (zW d) d.ly.length with
   |none=>rfl
   |some i=>rw[hl,e2]at O;simp only at O;rw[e]at O;exact absurd O (show(40:Int)≠0 by decide)
  rw[e2]at tM;simp only at tM;rw[e3]at tM;simp only at tM;simp only[andThen];refine dQ.vO _ _ ?_;have hK:∀x∈d.ly,q8 d x=true:=fun x I=>by
   obtain⟨j,hj,rfl⟩:=zX I;have:=pq e2 j hj;unfold BB at this;simpa using this
  have vY:=ZH hK fun x I=>by
   obtain⟨j,hj,rfl⟩:=zX I;exact pq e3 j hj
  refine dK C (ari I hd H vY (fun i hi Q hj=>by rw[tM,jj hi Q hj]) (fun ch X h=>h) fun h4 X dQ=>?_);rw[gB h4]at tM;simp only at tM;simp only[andThen];refine dQ.vO _ _ ?_;have hac:EM d.ly false:=fun x I=>by
   obtain⟨j,hj,rfl⟩:=zX I;exact h4 j hj
  have hN:=oA hK;have Q4:∃n,jy d.ly d.root=some n:=by
   cases hn:jy d.ly d.root with
   |some n=>exact⟨n,rfl⟩
   |none=>unfold lX at VY;rw[hn]at VY;cases VY
  obtain⟨n,hn⟩:=Q4;exact arj (Dj d (o4 d) I hd.m vY (zV d.ly false) (Bz hac) 100 eY d.root n hn (by unfold zV;have:=oz d.ly false d.root;omega)) tM
 have bad:lX d=true->∀ch,Bg (DD (40,d.root)) ch->RC d (.panic ch) (oQ d (o4 d) [(91,.bool false),(93,L d.root)]):=fun h ch hp=>by
  rw[aG h]at ZI;exact NG hp C (hw _ ZI (show(40:Int)≠0 by decide)) (show(40:Int)≠0 by decide)
 cases hn:jy d.ly d.root with
 |some n=>
  have G:=nW I hn;have hr:lX d=((d.at n).kd !=2):=by unfold lX;rw[hn]
  generalize d.at n=y at *;refine kU 1 (ny G (di _)) eE (aqT d (o4 d) y) (dB (g0 ⟨S rfl (S rfl (eG rfl)),?_⟩));refine kr (rC (dF (dr 8 oD))) (di _) (!lX d) (fun b=>oQ d (o4 d) [(91,.bool b),(93,L d.root)]) 40 d.root [1,3] (oQ d (o4 d) []) (aqV d (o4 d) y) (dD (g1 fun h=>⟨all_nil,DF (fm:=fun b=>oQ d (o4 d) [(91,.bool b),(93,L d.root)]) ?_⟩) (dB (g1 fun h=>⟨all_nil,DF (fm:=fun b=>oQ d (o4 d) [(91,.bool b),(93,L d.root)]) ?_⟩))) (fun b=>by kernel_rfl) C (fun q=>nx (by simpa using q)) (fun q ch hp=>bad (by simpa using q) ch hp)
  . rw[hr];unfold bne;rw[h];rfl
  . rw[hr];unfold bne;rw[h];rfl
 |none=>
  have G:=xm I hn;have hr:lX d=true:=by unfold lX;rw[hn]
  refine kU 1 (ny G (di _)) eE (aqU d (o4 d)) (dB (g0 ⟨S rfl (S rfl (eG rfl)),?_⟩));exact kr (rC (dF (dr 8 oD))) (di _) false (fun b=>oQ d (o4 d) [(91,.bool b),(93,L d.root)]) 40 d.root [1,3] (oQ d (o4 d) []) (aqW d (o4 d)) (dB (g0 ⟨all_nil,rfl⟩)) (fun b=>by kernel_rfl) C (fun q=>by cases q) (fun q ch hp=>bad hr ch hp)
set_option maxRecDepth 10000
def RI(d:Dc)(v:V)(Q:J h2)(n1:Nat):ag->J h2->Nat->Option (ah×V×J h2×Nat):=fun args h k=>some ([args=[d.v],h= .nil,k=0],v,Q,n1)
theorem RJ{d:Dc}(hd:Jc d)(hb:∀x∈d.ly,x.kd≠3->K1 x.f)(h0:(jo d).1=0):jK ak 42 (oB (RI d pT (lR d (o4 d)) 2)):=
 Rd mo po .ret Gq (az C) Tryz.func42 (code:=dI Tryz.f42) C fun args h k aj v h' k' e hA=>by
  simp only[RI,aq,aF]at e;obtain⟨rfl,rfl,rfl,rfl⟩:=e;have Q:args=[d.v]:=hA _ (by simp);have O:h= .nil:=hA (h= .nil) (by simp);have h3:k=0:=hA (k=0) (by simp);subst Q O h3;refine⟨C,qG (afo d hd hb) fun y s h=>?_⟩;obtain⟨m,K,o,h,n,e,q1,q2⟩:=h;exact⟨m,K,o,h,n,e,by rw[q1];exact aG h0,(q2 h0).1,(q2 h0).2⟩
theorem NH{d:Dc}(hd:Jc d)(hb:∀x∈d.ly,x.kd≠3->K1 x.f)(h0:(jo d).1≠0):Rb ak 42 [d.v] (DD (jo d)):=
 Rc (o:=.nr (DD (jo d))) mo po Tryz.func42 (code:=dI Tryz.f42) C C C rfl (qG (afo d hd hb) fun y s h=>by
  obtain⟨m,K,o,h,n,e,q1,q2⟩:=h;exact⟨m,K,o,h,n,e,by rw[q1];exact aB h0⟩)
noncomputable def cfN:fO:=fun _ _ _ _=>none
theorem GD:gA ak cfN:=fun _ _ _ _ _ _ _ e=>by cases e
section
variable{F fr:Nat}{c:Code}{s:St}{h1 Q1:Exit->St->Prop}{fn:Func}
theorem RL{ops:Array Oper}{o:Oper}{rest:List Oper}(h:N3 ak F fr ops [o] s Q1)(Q:∀X,Q1 .normal X->N3 ak F fr ops rest X h1)(O:∀y X,y≠ .normal->Q1 y X->h1 y X):N3 ak F fr ops (o::rest) s h1:=fun E a w hm r hn k=>by
 show wpListIn (fz none) 0 ak ops hm ([o]++rest) a w;refine tw _ ?_;refine h E a w _ r hn fun y X E' a' w' q u n7 r'=>?_;cases y with
 |normal=>exact Q X q E' a' w' hm r' n7 fun y s2 E2 a2 w2 q2 u2 pD r2=>k y s2 E2 a2 w2 q2 (u.trans u2) pD r2
 |_=>exact k _ X E' a' w' (O _ X (by intro z;cases z) q) u n7 r'
noncomputable def toC(k:Nat)(c:Code)(s:St):Option St:=match gD ak cfN 20 (dM 2 c) s with
 |some (.normal,s1)=>match gD ak cfN 20 (D5 k (dF (dr 2 c))) s1 with
  |some (.normal,s2)=>some s2
  |_=>none
 |_=>none
noncomputable def frC(F:Nat)(fn:Func)(ops:Array Oper)(rest:List Oper)(c:Code)(s:St):Option (pO×J h2×Nat):=match jk ak cfN ops rest s with
 |some (.normal,s3)=>match gD ak cfN 20 c s3 with
  |some (.ret,s4)=>Nu ak F fn s4 .ret
  |_=>none
 |_=>none
noncomputable def afq(F:Nat)(fn:Func)(f0 k:Nat)(c:Code)(sp:ag->J h2->Nat->Option (ah×V×J h2×Nat))(s:St):Option (ah×pO×J h2×Nat):=match toC k c s with
 |some s2=>match lz k (dF (dr 2 c))with
  |o::rest=>match o.guard with
   |none=>match dS ak o s2.N s2.h s2.n with
    |some (.call f args)=>match Nat.beq f f0 with
     |true=>match sp args s2.h s2.n with
      |some (aj,v,O,n2)=>match Go.Eng.jw s2.N o.dst v with
       |some N=>match frC F fn (Nt (dF (dr 2 c))) rest (dX (dr 2 c)) { s2 with N:=N,h:=O,n:=n2 }with
        |some (o,h,n)=>some (aj,o,h,n)
        |none=>none
       |none=>none
      |none=>none
     |false=>none
    |_=>none
   |some _=>none
  | []=>none
 |none=>none
noncomputable def afr(F:Nat)(fn:Func)(f0 k:Nat)(c:Code)(sp:ag->J h2->Nat->Option (ah×V×J h2×Nat))(s:St):Option (ah×pO×J h2×Nat):=match toC k c s with
 |some s2=>match lz k (dF (dr 2 c))with
  |o::_=>match o.guard with
   |none=>match dS ak o s2.N s2.h s2.n with
    |some (.call f args)=>match Nat.beq f f0 with
     |true=>match sp args s2.h s2.n with
      |some (aj,v,O,n2)=>match v.free with
       |true=>match Nu ak F fn { s2 with h:=O,n:=n2 } (.nr v false)with
        |some (o,h,n)=>some (aj,o,h,n)
        |none=>none
       |false=>none
      |none=>none
     |false=>none
    |_=>none
   |some _=>none
  | []=>none
 |none=>none
def K9(fr k:Nat)(c:Code):Bool:=rT (dr 2 c)&&(eL fr c&&(eL fr (dF (dr 2 c))&&(eL fr (dX (dr 2 c))&&(D6 k (dF (dr 2 c))&&(lz k (dF (dr 2 c))).all fun o=>match o.dst with|some d=>decide (d<fr)|none=>true))))
theorem RM{k:Nat}{s2:St}(e:toC k c s=some s2)(h:N3 ak F fr (Nt (dF (dr 2 c))) (lz k (dF (dr 2 c))) s2 (andThen (fun X=>TG ak F fr (dX (dr 2 c)) X h1) h1))(hs:K9 fr k c=true):TG ak F fr c s h1:=by
 unfold K9 at hs;simp only[ay]at hs;obtain⟨Q,O,h3,_,h5,_⟩:=hs;unfold toC at e;split at e
 case h_2=>cases e
 rename_i s1 e1;split at e
 case h_2=>cases e
 rename_i s2' e2;obtain rfl:=eH e;refine yf (n0:=20) GD mo 2 O e1 (dK Q (LV (n0:=20) k GD mo h3 h5 e2 h))
section
variable{f0 k:Nat}{sp:ag->J h2->Nat->Option (ah×V×J h2×Nat)}{aj:ah}{o1:pO}{h:J h2}{n:Nat}
theorem I1(hs:K9 fr k c=true):∀x∈lz k (dF (dr 2 c)),mX fr x.dst:=fun x I d hd=>by
 unfold K9 at hs;simp only[ay]at hs;have:=br.1 hs.2.2.2.2.2 x I;rw[hd]at this;exact aX this
theorem UP{cs:pO->J h2->Nat->Prop}(hO:jK ak f0 sp)(e:afq F fn f0 k c sp s=some (aj,o1,h,n))(hA:∀a∈aj,a)(hR:cs o1 h n)(hs:K9 fr k c=true:=by kernel_rfl):TG ak F fr c s (Dm ak F fn cs):=by
 have hd:=I1 hs;have Eg:eL fr (dX (dr 2 c))=true:=by
  unfold K9 at hs;simp only[ay]at hs;exact hs.2.2.2.1
 unfold afq at e;split at e
 case h_2=>cases e
 rename_i s2 e2;refine RM e2 ?_ hs;split at e
 case h_2=>cases e
 rename_i o rest hl;rw[hl]at hd ⊢;split at e
 case h_2=>cases e
 rename_i hg;split at e
 case h_2=>cases e
 rename_i f args pc;split at e
 case h_2=>cases e
 rename_i hf;have hf:=aA hf;subst hf;split at e
 case h_2=>cases e
 rename_i A2 v O n2 DK;split at e
 case h_2=>cases e
 rename_i N vy;split at e
 case h_2=>cases e
 rename_i o3 h3 n3 VZ;simp only[aq,aF]at e;obtain⟨rfl,rfl,rfl,rfl⟩:=e;unfold frC at VZ;split at VZ
 case h_2=>cases VZ
 rename_i s3 e3;split at VZ
 case h_2=>cases VZ
 rename_i s4 e4;refine RL (Q1:=fun y X=>y= .normal/\X={ s2 with N:=N,h:=O,n:=n2 }) (Gp (hd o (bx ..)) hg pc hO DK hA vy ⟨rfl,rfl⟩) (fun X q=>?_) fun y X hy q=>absurd q.1 hy;obtain⟨_,rfl⟩:=q;refine Dl GD (fun x I=>hd x (bj _ I)) e3 rfl ?_;simp only[andThen];exact qH (n0:=20) GD mo Eg e4 rfl ⟨.ret,trivial,_,_,_,VZ,hR⟩
theorem UQ{cs:pO->J h2->Nat->Prop}(hO:Ra ak f0 sp)(e:afr F fn f0 k c sp s=some (aj,o1,h,n))(hA:∀a∈aj,a)(hR:cs o1 h n)(hs:K9 fr k c=true:=by kernel_rfl):TG ak F fr c s (Dm ak F fn cs):=by
 have hd:=I1 hs;unfold afr at e;split at e
 case h_2=>cases e
 rename_i s2 e2;refine RM e2 ?_ hs;split at e
 case h_2=>cases e
 rename_i o rest hl;rw[hl]at hd ⊢;split at e
 case h_2=>cases e
 rename_i hg;split at e
 case h_2=>cases e
 rename_i f args pc;split at e
 case h_2=>cases e
 rename_i hf;have hf:=aA hf;subst hf;split at e
 case h_2=>cases e
 rename_i A2 v O n2 DK;split at e
 case h_2=>cases e
 rename_i hv;split at e
 case h_2=>cases e
 rename_i o3 h3 n3 VZ;simp only[aq,aF]at e;obtain⟨rfl,rfl,rfl,rfl⟩:=e;exact BD hd hg pc hO DK hA hv fun ch GC=>Dm.Dn GC VZ hR
end
end
section
variable{d:Dc}(hd:Jc d)(hb:∀x∈d.ly,x.kd≠3->K1 x.f)
include hd hb
theorem I2(h0:(jo d).1=0):jK ak 43 (oB (RI d pT (lR d (o4 d)) 2)):=
 Rd mo po .ret Gq (az C) Tryz.func43 (code:=dI Tryz.f43) C fun args h k aj v h' k' e hA=>by
  simp only[RI,aq,aF]at e;obtain⟨rfl,rfl,rfl,rfl⟩:=e;have Q:args=[d.v]:=hA _ (by simp);have O:h= .nil:=hA (h= .nil) (by simp);have h3:k=0:=hA (k=0) (by simp);subst Q O h3;have hO:=RJ hd hb h0;generalize o4 d=T at *;exact⟨C,UP (aj:=[[d.v]=[d.v],(J.nil:J h2)=J.nil,(0:Nat)=0]) (o1:=.ret pT) (h:=lR d T) (n:=2) (k:=1) hO C (S rfl (S rfl (eG rfl))) ⟨rfl,rfl,rfl⟩⟩
theorem RN(h0:(jo d).1≠0):dU ak 43 [d.v] (.ptr none):=
 Rc (o:=.ret (.ptr none)) mo po Tryz.func43 (code:=dI Tryz.f43) C C C rfl (by
  have hO:=NH hd hb h0;generalize jo d=p at *;exact UQ (F:=0) (aj:=[V.lA [d.v]=[d.v]]) (o1:=.ret (.ptr none)) (h:=.nil) (n:=0) (k:=1) (Gr C hO) C (eG rfl) rfl)
end
set_option maxRecDepth 10000
theorem NI{l:List Int}{i j:Nat}{k:Int}(OB:i<j)(hj:j<l.length)(Q:l.getD i 0=k)(O:l.getD j 0=k):2<=l.count k:=by
 have e:l.count k=(l.take j).count k+(l.drop j).count k:=by rw[<- List.count_append,List.take_append_drop]
 have m1:k∈l.take j:=by
  rw[ax,au H,ck]at Q;rw[<- Q];exact List.mem_take_iff_getElem.2 ⟨i,H,rfl⟩
 have m2:k∈l.drop j:=by
  rw[ax,au hj,ck]at O;rw[<- O];exact List.mem_drop_iff_getElem.2 ⟨0,H,by simp⟩
 have:=List.count_pos_iff.2 m1;have:=List.count_pos_iff.2 m2;omega
theorem RO{l:List Int}{j:Nat}{k:Int}(B:l.count k<=1)(hj:j<l.length)(h:l.getD j 0=k):l.findIdx? (. ==k)=some j:=by
 rw[bO];have hg:=h;rw[ax,au hj,ck]at hg;refine⟨hj,by simpa using hg,fun i hi q=>?_⟩;have q:=cG.1 q;have:=NI hi hj (by rw[ax,au H,ck];exact q) h;omega
theorem nq{l:List Int}{j:Nat}(hj:j<l.length):l.getD j 0∈l:=by
 rw[ax,au hj];exact bK hj
theorem vf{k:Int}{x:eJ}{j:Nat}(O:x.kd=2)(hj:j<x.kids.length)(W:x.kids.getD j 0=k):∀{ls:List eJ},(kR ls).count k=1->x∈ls->jt ls k=some (x.id,j)
 | [],_,I=>by cases I
 |y::ls,B,I=>by
  have e:(kR (y::ls)).count k=y.kids.count k+(kR ls).count k:=by
   have:kR (y::ls)=y.kids++kR ls:=rfl;rw[this,List.count_append]
  rw[e]at B;unfold jt;by_cases DA:x∈ls
  . have hp:0<(kR ls).count k:=List.count_pos_iff.2 (List.mem_flatten.2 ⟨_,bN.2 ⟨x,DA,rfl⟩,W▸nq hj⟩);have h0:y.kids.count k=0:=by omega
    have hn:y.kids.findIdx? (. ==k)=none:=by
     rw[cH];intro z hz;rw[List.count_eq_zero]at h0;exact b5.2 fun q=>h0 (q▸hz)
    rw[hn];have:(if y.kd=2 then(none:Option Nat)else none)=none:=by split<;>rfl
    rw[this];exact vf O hj W H DA
  . obtain rfl:x=y:=(aD.1 I).resolve_right DA;rw[aG O,RO H hj W]
section
variable{d:Dc}(h:jg d)
include h
theorem jg.Cq{k:Int}(W:∃n,jy d.ly k=some n)(hr:k≠d.root):(kR d.ly).count k=1:=by
 obtain⟨n,hn⟩:=W;obtain⟨_,hid,K⟩:=jn hn;have:=BA (h.k _ K);rw[hid,aB hr,yA]at this;exact this
theorem jg.par{k:Int}(W:∃n,jy d.ly k=some n)(hr:k≠d.root):∃g∈d.ly,∃j,g.kd=2/\j<g.kids.length/\g.kids.getD j 0=k/\jt d.ly k=some (g.id,j):=by
 have B:=h.Cq W hr;obtain⟨Y,Cg,hk2⟩:=List.mem_flatten.1 (List.count_pos_iff.1 (by omega:0<(kR d.ly).count k));obtain⟨g,hg,rfl⟩:=bN.1 Cg;have O:g.kd=2:=by
  by_cases q:g.kd=2
  . exact q
  . rw[h.Gm hg q]at hk2;cases hk2
 obtain⟨j,hj,e⟩:=b6 hk2;have e2:g.kids.getD j 0=k:=by rw[ax,au hj];exact e
 exact⟨g,hg,j,O,hj,e2,vf O hj e2 B hg⟩
theorem jg.D9{g:eJ}(hg:g∈d.ly){k:Int}(W:k∈g.kids):g.kd=2/\(∃n,jy d.ly k=some n)/\k≠d.root:=by
 have O:g.kd=2:=by
  by_cases q:g.kd=2
  . exact q
  . rw[h.Gm hg q]at W;cases W
 refine⟨O,De (h.k _ hg) W,fun e=>?_⟩;obtain⟨n,hn⟩:=De (h.k _ hg) W;obtain⟨_,hid,K⟩:=jn hn;have:=BA (h.k _ K);rw[hid,aG e,yA,List.count_eq_zero]at this;exact this (List.mem_flatten.2 ⟨_,bN.2 ⟨g,hg,rfl⟩,W⟩)
theorem jg.UR{g:eJ}(hg:g∈d.ly):∃m,jy d.ly g.id=some m/\d.ly.getD m gy=g:=by
 obtain⟨m,Q,_,O⟩:=yy h.uniq hg;exact⟨m,Q,O⟩
omit h in
theorem vJ{g:eJ}{m:Nat}(K:jy d.ly g.id=some m)(hg:d.ly.getD m gy=g)(O:g.kd≠4){k:Int}(W:k∈g.kids)(fR:Bool):k∈ia d.ly fR g.id:=by
 unfold ia;rw[K];simp only;refine List.mem_append_left _ ?_;rw[hg];unfold fN;rw[aB O];exact W
end
set_option maxRecDepth 10000
noncomputable abbrev afs:Code:=dI Tryz.f19
abbrev oF:=List (Eng.D×Eng.D)
abbrev W43(d:Dc)(T:oF)(hk:gF):gF:=jZ 43 (oB (RI d pT (lR d T) 2)) hk
abbrev aV(d:Dc):ah:=[[d.v]=[d.v],(J.nil:J h2)= .nil,(0:Nat)=0]
abbrev aQ(d:Dc)(T:oF)(r:ag):ah:=[pT::r=pT::r,lR d T=lR d T,(2:Nat)=2]
theorem aft(d:Dc)(T:oF)(id v:Int):dw (U (W43 d T (rZ 48 [L id] d T (L v) dY)) []) [] 0 Tryz.f19 [] afs (dy [d.v,L id] .nil 0)
  [([],aV d++aQ d T [L id],.ret (L v) .nil 0)]:=dj.of C C C
theorem afu(d:Dc)(id:Int):dw (U (fb 43 [d.v] (.ptr none) dY) []) [] 0 Tryz.f19 [] afs (dy [d.v,L id] .nil 0)
  [([],[V.lA [d.v]=[d.v]],.ret (L 0) .nil 0)]:=dj.of C C C
theorem afv(d:Dc)(T:oF)(id:Int):dw (U (rZ 44 [L id] d T (.gw [T7,.bool false]) dY) []) [] 2 Tryz.f48 [] Np (dy [pT,L id] (lR d T) 2)
  [([],aQ d T [L id],.ret (L 0) (lR d T) 2)]:=dj.of C C C
section
variable{d:Dc}
theorem jg.bd(h:jg d):∀x∈d.ly,x.kd≠3->K1 x.f:=fun x I h3=>by
 have Q:=(LQ (h.f x I)).2.2.2.1;unfold GO F4 at Q;simp only[ay]at Q;have O:=Q.2.2.2.2.1;rw[show(x.kd==3)=false by simpa using h3,cr]at O;unfold tD at O;simp only[ay,cG]at O;obtain⟨e1,e2,e3,e4,_⟩:=O;refine⟨?_,?_,?_,?_⟩
 . rw[e1];unfold Aa;decide
 . rw[e2];unfold Aa;decide
 . rw[e3];unfold Aa;decide
 . rw[e4];unfold Aa;decide
noncomputable def okB(d:Dc):Bool:=(jo d).1==0
noncomputable def mj(d:Dc)(a:Int):Int:=if okB d=true then ic d.ly 100 a else 0
variable(hd:Jc d)(hb:∀x∈d.ly,x.kd≠3->K1 x.f)
include hd hb
theorem ZJ(a:Int):dU ak 19 [d.v,L a] (L (mj d a)):=by
 unfold mj okB;by_cases h0:(jo d).1=0
 . have hV:=I2 hd hb h0;have I:=RG d;have h:=KC h0;change xl d (o4 d)at I;rw[show((jo d).1==0)=true by simpa using h0,aG rfl];have hT:mh 48 [L a] d (o4 d) (L (ic d.ly 100 a)):=by
    cases hn:jy d.ly a with
    |none=>
     have G:=xm I hn;have e:ic d.ly 100 a=0:=by unfold ic;rw[hn]
     rw[e];generalize o4 d=T at *;exact EP Tryz.func48 (eK (ny G (di _)) (afv d T a) (dB (g0 ⟨S rfl (S rfl (eG rfl)),_,_,_,rfl,rfl,rfl,rfl⟩)))
    |some n=>exact Dj d (o4 d) I hd.m h.clo (zV d.ly false) (Bz h.a) 100 eY a n hn (by unfold zV;have:=oz d.ly false a;have:=oA h.k;have:=h.big;omega)
   generalize o4 d=T at *;exact eX Tryz.func19 (eK (fC hV (ny hT (di _))) (aft d T a _) (dB (g0 ⟨S rfl (S rfl (S rfl (S rfl (S rfl (eG rfl))))),_,_,_,rfl,rfl⟩)))
 . have hV:=RN hd hb h0;rw[show((jo d).1==0)=false by simpa using h0,aB eY];exact eX Tryz.func19 (eK (fu hV (di _)) (afu d a) (dB (g0 ⟨eG rfl,_,_,_,rfl,rfl⟩)))
end
set_option maxRecDepth 10000
noncomputable abbrev La:Code:=dI Tryz.f47
noncomputable abbrev RP:Code:=dG (dG (dr 2 La))
noncomputable abbrev Sm:Code:=dG (dF (dr 2 RP))
noncomputable abbrev afw:Code:=dI Tryz.f18
def RR(c:Nat):V:=.fn (.func 47) [] [.ptr (some (0,0)),.ptr (some (3,0)),.ptr (some (c,0))]
def hOg(d:Dc)(T:oF)(sl:V)(q:af):J h2:=G ([(0,.cells [.ptr (some (1,0))]),(1,.cells (d.R++[.map (some 2)])),(2,.gl (some .i64) T),(3,.cells [sl])]++q)
def GF(d:Dc)(T:oF):J h2:=hOg d T (.eR none 0 0 0) [(4,.cells [RR 4])]
def GG(d:Dc)(T:oF)(n:Nat)(Y:List Int):J h2:=hOg d T (.eR (some (5,0)) n n 1) [(4,.cells [RR 4]),(5,.own .i64 Y)]
def AQ(d:Dc)(T:oF)(n:Nat)(Y:List Int):J h2:=hOg d T (.eR (some (4,0)) n n 1) [(4,.own .i64 Y),(5,.cells [RR 5])]
def EY(d:Dc)(T:oF)(n:Nat)(Y:List Int):J h2:=hOg d T (.eR (some (6,0)) n n 1) [(5,.cells [RR 5]),(6,.own .i64 Y)]
def aO(c:Nat)(x:Int):ag:=[L x,.ptr (some (0,0)),.ptr (some (3,0)),.ptr (some (c,0))]
def sO(c:Nat)(h:J h2)(n:Nat)(ps:List Int)(i:Nat)(r:List (Nat×V)):St:=fq ([(1,.ptr (some (0,0))),(2,.ptr (some (3,0))),(3,.ptr (some (c,0))),(16,fj ps),(17,M ps.length),(18,M i)]++r) h n
def Bh(kp:ag)(h0:J h2)(F:Nat)(Q:J h2)(n1:Nat):ag->J h2->Nat->Option (ah×V×J h2×Nat):=fun args h k=>some ([args=kp,h=h0,k=F],.gw [],Q,n1)
theorem afy(d:Dc)(T:oF)(x:Int)(y:eJ):dw (U (rZ 44 [L x] d T (.gw [y.v,.bool true]) dY) []) [] 5 Tryz.f47 [1,2,3,16,17,18] (dM 2 La) (dy (aO 4 x) (GF d T) 5)
  [([],aQ d T [L x],.to .normal (sO 4 (GF d T) 5 y.kids 0 []))]:=dj.of C C C
theorem afz(d:Dc)(T:oF)(n:Nat)(Y:List Int)(x:Int)(y:eJ):dw (U (rZ 44 [L x] d T (.gw [y.v,.bool true]) dY) []) [] 6 Tryz.f47 [1,2,3,16,17,18] (dM 2 La) (dy (aO 5 x) (AQ d T n Y) 6)
  [([],aQ d T [L x],.to .normal (sO 5 (AQ d T n Y) 6 y.kids 0 []))]:=dj.of C C C
theorem afA(d:Dc)(T:oF)(ps:List Int)(i:Nat):dw (U dY []) [(19,.split)] 5 Tryz.f47 [1,2,3,16,17,18] (dM 2 RP) (sO 4 (GF d T) 5 ps i [])
  [([(decide (Int.ofNat i<Int.ofNat ps.length),true)],[],.to .normal (sO 4 (GF d T) 5 ps i [])),
  ([(decide (Int.ofNat i<Int.ofNat ps.length),false)],[],.to (.exit 0) (sO 4 (GF d T) 5 ps i []))]:=dj.of C C C
theorem afB(d:Dc)(T:oF)(n:Nat)(Y:List Int)(ps:List Int)(i:Nat):dw (U dY []) [(19,.split)] 5 Tryz.f47 [1,2,3,16,17,18] (dM 2 RP) (sO 4 (GG d T n Y) 6 ps i [])
  [([(decide (Int.ofNat i<Int.ofNat ps.length),true)],[],.to .normal (sO 4 (GG d T n Y) 6 ps i [])),
  ([(decide (Int.ofNat i<Int.ofNat ps.length),false)],[],.to (.exit 0) (sO 4 (GG d T n Y) 6 ps i []))]:=dj.of C C C
theorem afC(d:Dc)(T:oF)(n:Nat)(Y:List Int)(ps:List Int)(i:Nat):dw (U dY []) [(19,.split)] 6 Tryz.f47 [1,2,3,16,17,18] (dM 2 RP) (sO 5 (AQ d T n Y) 6 ps i [])
  [([(decide (Int.ofNat i<Int.ofNat ps.length),true)],[],.to .normal (sO 5 (AQ d T n Y) 6 ps i [])),
  ([(decide (Int.ofNat i<Int.ofNat ps.length),false)],[],.to (.exit 0) (sO 5 (AQ d T n Y) 6 ps i []))]:=dj.of C C C
theorem afE(d:Dc)(T:oF)(n:Nat)(Y:List Int)(ps:List Int)(i:Nat):dw (U dY []) [(19,.split)] 6 Tryz.f47 [1,2,3,16,17,18] (dM 2 RP) (sO 5 (EY d T n Y) 7 ps i [])
  [([(decide (Int.ofNat i<Int.ofNat ps.length),true)],[],.to .normal (sO 5 (EY d T n Y) 7 ps i [])),
  ([(decide (Int.ofNat i<Int.ofNat ps.length),false)],[],.to (.exit 0) (sO 5 (EY d T n Y) 7 ps i []))]:=dj.of C C C
theorem afF(d:Dc)(T:oF)(ps:List Int)(i:Nat)(k:Int):dw (U dY []) [(20,.dz (.dx [.int .i64 k]))] 5 Tryz.f47 [1,2,3,8,16,17,18] (dM 2 Sm) (sO 4 (GF d T) 5 ps i [])
  [([],[(0:Int)<=Int.ofNat i/\Int.ofNat i<Int.ofNat ps.length,(dO ps).length=ps.length*1,V.dx (dn (dO ps) (i*1) 1)=V.dx [D.int .i64 k]],.to .normal (sO 4 (hOg d T (.eR (some (5,0)) 1 1 1) [(4,.cells [RR 4]),(5,.cells [L k])]) 6 ps i [(8,L k)]))]:=dj.of C C C
theorem afG(d:Dc)(T:oF)(n:Nat)(Y:List Int)(ps:List Int)(i:Nat)(k:Int):dw (U dY []) [(20,.dz (.dx [.int .i64 k]))] 5 Tryz.f47 [1,2,3,8,16,17,18] (dM 2 Sm) (sO 4 (GG d T n Y) 6 ps i [])
  [([],[(0:Int)<=Int.ofNat i/\Int.ofNat i<Int.ofNat ps.length,(dO ps).length=ps.length*1,V.dx (dn (dO ps) (i*1) 1)=V.dx [D.int .i64 k],0<n,0+n*1<=Y.length,0<1,fo (n+1) 1 8=true],.to .normal (sO 4 (GG d T (n+1) (List.take (n*1) (List.drop 0 Y)++[k])) 6 ps i [(8,L k)]))]:=dj.of C C C
theorem afH(d:Dc)(T:oF)(n:Nat)(Y:List Int)(ps:List Int)(i:Nat)(k:Int):dw (U dY []) [(20,.dz (.dx [.int .i64 k]))] 6 Tryz.f47 [1,2,3,8,16,17,18] (dM 2 Sm) (sO 5 (AQ d T n Y) 6 ps i [])
  [([],[(0:Int)<=Int.ofNat i/\Int.ofNat i<Int.ofNat ps.length,(dO ps).length=ps.length*1,V.dx (dn (dO ps) (i*1) 1)=V.dx [D.int .i64 k],0<n,0+n*1<=Y.length,0<1,fo (n+1) 1 8=true],.to .normal (sO 5 (EY d T (n+1) (List.take (n*1) (List.drop 0 Y)++[k])) 7 ps i [(8,L k)]))]:=dj.of C C C
theorem afI(d:Dc)(T:oF)(n:Nat)(Y:List Int)(ps:List Int)(i:Nat)(k:Int):dw (U dY []) [(20,.dz (.dx [.int .i64 k]))] 6 Tryz.f47 [1,2,3,8,16,17,18] (dM 2 Sm) (sO 5 (EY d T n Y) 7 ps i [])
  [([],[(0:Int)<=Int.ofNat i/\Int.ofNat i<Int.ofNat ps.length,(dO ps).length=ps.length*1,V.dx (dn (dO ps) (i*1) 1)=V.dx [D.int .i64 k],0<n,0+n*1<=Y.length,0<1,fo (n+1) 1 8=true],.to .normal (sO 5 (EY d T (n+1) (List.take (n*1) (List.drop 0 Y)++[k])) 7 ps i [(8,L k)]))]:=dj.of C C C
theorem ZK(d:Dc)(T:oF)(n:Nat)(Y:List Int)(ps:List Int)(i:Nat)(k:Int):dw (U (jZ 47 (oB (Bh (aO 5 k) (AQ d T n Y) 6 (AQ d T n Y) 6)) dY) []) [] 5 Tryz.f47 [1,2,3,16,17,18] (dr 2 Sm) (sO 4 (GG d T n Y) 6 ps i [(8,L k)])
  [([],[aO 5 k=aO 5 k,AQ d T n Y=AQ d T n Y,(6:Nat)=6],.to .normal (sO 4 (GG d T n Y) 6 ps i []))]:=dj.of C C C
theorem ZL(d:Dc)(T:oF)(n:Nat)(Y:List Int)(n2:Nat)(ks2:List Int)(ps:List Int)(i:Nat)(k:Int):dw (U (jZ 47 (oB (Bh (aO 5 k) (AQ d T n Y) 6 (EY d T n2 ks2) 7)) dY) []) [] 5 Tryz.f47 [1,2,3,16,17,18] (dr 2 Sm) (sO 4 (GG d T n Y) 6 ps i [(8,L k)])
  [([],[aO 5 k=aO 5 k,AQ d T n Y=AQ d T n Y,(6:Nat)=6],.to .normal (sO 4 (GG d T n2 ks2) 6 ps i []))]:=dj.of C C C
theorem afK(d:Dc)(T:oF)(n:Nat)(Y:List Int)(ps:List Int)(i:Nat):dw (U dY []) [(29,.dz (M (i+1)))] 5 Tryz.f47 [1,2,3,16,17,18] (dr 3 RP) (sO 4 (GG d T n Y) 6 ps i [])
  [([],[V.int .i64 (IntKind.i64.wrap (Int.ofNat i+(1:Int)))=M (i+1)],.to .normal (sO 4 (GG d T n Y) 6 ps (i+1) []))]:=dj.of C C C
theorem ZM(d:Dc)(T:oF)(n:Nat)(Y:List Int)(ps:List Int)(i:Nat)(k:Int):dw (U (jZ 47 (oB (Bh (aO 5 k) (AQ d T n Y) 6 (AQ d T n Y) 6)) dY) []) [] 6 Tryz.f47 [1,2,3,16,17,18] (dr 2 Sm) (sO 5 (EY d T n Y) 7 ps i [(8,L k)])
  [([],[aO 5 k=aO 5 k,AQ d T n Y=AQ d T n Y,(6:Nat)=6],.to .normal (sO 5 (EY d T n Y) 7 ps i []))]:=dj.of C C C
theorem ZN(d:Dc)(T:oF)(n:Nat)(Y:List Int)(n2:Nat)(ks2:List Int)(ps:List Int)(i:Nat)(k:Int):dw (U (jZ 47 (oB (Bh (aO 5 k) (AQ d T n Y) 6 (EY d T n2 ks2) 7)) dY) []) [] 6 Tryz.f47 [1,2,3,16,17,18] (dr 2 Sm) (sO 5 (EY d T n Y) 7 ps i [(8,L k)])
  [([],[aO 5 k=aO 5 k,AQ d T n Y=AQ d T n Y,(6:Nat)=6],.to .normal (sO 5 (EY d T n2 ks2) 7 ps i []))]:=dj.of C C C
theorem afL(d:Dc)(T:oF)(n:Nat)(Y:List Int)(ps:List Int)(i:Nat):dw (U dY []) [(29,.dz (M (i+1)))] 6 Tryz.f47 [1,2,3,16,17,18] (dr 3 RP) (sO 5 (EY d T n Y) 7 ps i [])
  [([],[V.int .i64 (IntKind.i64.wrap (Int.ofNat i+(1:Int)))=M (i+1)],.to .normal (sO 5 (EY d T n Y) 7 ps (i+1) []))]:=dj.of C C C
theorem afM(d:Dc)(T:oF):dw (U (W43 d T (jZ 47 (oB (Bh (aO 4 d.root) (GF d T) 5 (GF d T) 5)) dY)) []) [] 0 Tryz.f18 [] afw (dy [d.v] .nil 0)
  [([],aV d++[aO 4 d.root=aO 4 d.root,GF d T=GF d T,(5:Nat)=5],.ret (.eR none 0 0 0) .nil 0)]:=dj.of C C C
theorem afN(d:Dc)(T:oF)(n:Nat)(Y:List Int):dw (U (W43 d T (jZ 47 (oB (Bh (aO 4 d.root) (GF d T) 5 (GG d T n Y) 6)) dY)) []) [] 0 Tryz.f18 [] afw (dy [d.v] .nil 0)
  [([],aV d++[aO 4 d.root=aO 4 d.root,GF d T=GF d T,(5:Nat)=5],.ret (.eR (some (0,0)) n n 1) (G [(0,.own .i64 Y)]) 1)]:=dj.of C C C
set_option maxRecDepth 10000
def iF(ls:List eJ):Nat->Int->List Int
 |0,_=>[]
 |n+1,x=>match jy ls x with
  |some m=>(ls.getD m gy).kids.flatMap fun k=>k::iF ls n k
  |none=>[]
theorem orL{c:Nat}{x:Int}{h0 Q:J h2}{F n1:Nat}(hT:TG ak F Tryz.f47.ntmps La (dy (aO c x) h0 F) (Dm ak F Tryz.f47 fun o h n=>o= .ret (.gw [])/\h=Q/\n=n1)):jK ak 47 (oB (Bh (aO c x) h0 F Q n1)):=
 Rd mo po .ret Gq (az C) Tryz.func47 (code:=La) C fun args h k aj v h' k' e hA=>by
  simp only[Bh,aq,aF]at e;obtain⟨rfl,rfl,rfl,rfl⟩:=e;have Q:args=aO c x:=hA _ (by simp);have O:h=h0:=hA (h=h0) (by simp);have h3:k=F:=hA (k=F) (by simp);subst Q O h3;exact⟨C,hT⟩
def OrB(d:Dc)(T:oF)(x:Int)(Y o:List Int):Prop:=(o=[]->jK ak 47 (oB (Bh (aO 5 x) (AQ d T Y.length Y) 6 (AQ d T Y.length Y) 6)))/\(o≠[]->jK ak 47 (oB (Bh (aO 5 x) (AQ d T Y.length Y) 6 (EY d T (Y++o).length (Y++o)) 7)))
def OrZ(d:Dc)(T:oF)(x:Int)(o:List Int):Prop:=(o=[]->jK ak 47 (oB (Bh (aO 4 x) (GF d T) 5 (GF d T) 5)))/\(o≠[]->jK ak 47 (oB (Bh (aO 4 x) (GF d T) 5 (GG d T o.length o) 6)))
theorem US{F n1:Nat}{s:St}{Q:J h2}(e:Nu ak F Tryz.f47 s .ret=some (.ret (.gw []),Q,n1)):Dm ak F Tryz.f47 (fun o h n=>o= .ret (.gw [])/\h=Q/\n=n1) .normal s:=⟨.ret,trivial,_,_,_,e,rfl,rfl,rfl⟩
section
variable{f:Int->List Int}{ps:List Int}{i n:Nat}
theorem nZ(h:i<ps.length):(ps.take (i+1)).flatMap f=(ps.take i).flatMap f++f (ps.getD i 0):=by
 rw[bY,getD_some 0 h,Option.toList_some,List.flatMap_append];simp
theorem BI(h:i<ps.length):((ps.take i).flatMap f).length+(f (ps.getD i 0)).length<=(ps.flatMap f).length:=by
 have e:=nZ (f:=f) h;have:(ps.flatMap f).length=((ps.take (i+1)).flatMap f).length+((ps.drop (i+1)).flatMap f).length:=by
  rw[<- aE,<- List.flatMap_append,List.take_append_drop]
 rw[this,e,aE];omega
theorem Mf{ls:List eJ}{ps:List Int}(h:ps≠[]):(ps.flatMap fun k=>k::iF ls n k)≠[]:=by
 cases ps with
 |nil=>exact absurd rfl h
 |cons k ps=>simp
theorem GH(l:List Int)(n:Nat)(k:Int)(h:n=l.length):List.take (n*1) (List.drop 0 l)++[k]=l++[k]:=by
 subst h;rw[cA,cU,bz]
noncomputable abbrev NO:Nat:=Tryz.f47.ntmps
theorem RS{d:Dc}{T:oF}{x:Int}{y:eJ}{n:Nat}{Y:List Int}(Cg:Y≠[])(G:mh 44 [L x] d T (.gw [y.v,.bool true]))(ih:∀i,i<y.kids.length->∀pC,pC≠[]->pC.length+(iF d.ly n (y.kids.getD i 0)).length<=1000000->OrB d T (y.kids.getD i 0) pC (iF d.ly n (y.kids.getD i 0)))(hl:Y.length+(y.kids.flatMap fun k=>k::iF d.ly n k).length<=1000000)(W:y.kids.length<=1000000):OrB d T x Y (y.kids.flatMap fun k=>k::iF d.ly n k):=by
 have qv:∀Q n1,(y.kids=[]->AQ d T Y.length Y=Q/\6=n1)->(y.kids≠[]->EY d T (Y++(y.kids.flatMap fun k=>k::iF d.ly n k)).length (Y++(y.kids.flatMap fun k=>k::iF d.ly n k))=Q/\7=n1)->TG ak 6 NO La (dy (aO 5 x) (AQ d T Y.length Y) 6) (Dm ak 6 Tryz.f47 fun o h n=>o= .ret (.gw [])/\h=Q/\n=n1):=fun Q n1 g0' g1'=>by
  refine fF 2 (ny G (di _)) (afz d T Y.length Y x y) (S rfl (S rfl (eG rfl))) ?_;generalize y.kids=ps at *;generalize hf:(fun k=>k::iF d.ly n k)=f at *;have JD:∀k,f k=k::iF d.ly n k:=fun k=>by rw[<- hf]
  refine Rf (vc 0 ps.length (fun i=>match i with
   |0=>sO 5 (AQ d T Y.length Y) 6 ps 0 []
   |i+1=>sO 5 (EY d T (Y++(ps.take (i+1)).flatMap f).length (Y++(ps.take (i+1)).flatMap f)) 7 ps (i+1) []) (fun _=>false) (fun E a w r hn=>⟨hn,E,r,kB.refl r.good⟩) (fun i hi _ Q' k1 k2 k3=>?_) (fun _ X dQ=>?_))
  . have Dq:i<ps.length->∀pC,pC=(Y++(ps.take i).flatMap f)++[ps.getD i 0]->TG ak 6 NO (dr 2 Sm) (sO 5 (EY d T pC.length pC) 7 ps i [(8,L (ps.getD i 0))]) (gk 1 (andThen (fun X=>TG ak 6 NO (dr 3 RP) X Q') Q')):=fun q pC e=>by
     have kK:=BI (f:=f) q;rw[JD,aP]at kK;have jx:pC.length=Y.length+((ps.take i).flatMap f).length+1:=by rw[e,aE,cg,aE]
     have iV:pC≠[]:=by rw[e];simp
     obtain⟨o1,o2⟩:=ih i q pC iV H;have Sj:(Y++(ps.take (i+1)).flatMap f)=pC++iF d.ly n (ps.getD i 0):=by
      rw[nZ q,JD,e];simp[de]
     generalize iF d.ly n (ps.getD i 0)=o at *;generalize ps.getD i 0=k at *;have oI:∀X,j9 6 NO X (sO 5 (EY d T (pC++o).length (pC++o)) 7 ps i [])->gk 1 (andThen (fun X=>TG ak 6 NO (dr 3 RP) X Q') Q') .normal X:=fun X dQ=>by
      simp only[gk,andThen];rw[<- Sj]at dQ;exact dQ.vO _ _ (gv (di _) eE (afL d T _ _ ps i) (dB (g0 ⟨eG (gJ H),fun X dQ=>k1 q rfl X (j9.norm dQ)⟩)))
     by_cases ho:o=[]
     . subst ho;rw[List.append_nil]at oI;exact gv (fC (o1 rfl) (di _)) eE (ZM d T pC.length pC ps i k) (dB (g0 ⟨S rfl (S rfl (eG rfl)),fun X dQ=>oI X (j9.norm dQ)⟩))
     . exact gv (fC (o2 ho) (di _)) eE (ZN d T pC.length pC (pC++o).length (pC++o) ps i k) (dB (g0 ⟨S rfl (S rfl (eG rfl)),fun X dQ=>oI X (j9.norm dQ)⟩))
    cases i with
    |zero=>
     refine kU 2 (di _) eE (afC d T Y.length Y ps 0) (dD (g1 fun h=>⟨all_nil,?_⟩) (dB (g1 fun h=>⟨all_nil,fun X dQ=>k2 (by have:=r9 h;omega) X (j9.norm dQ)⟩)));have q:=jW h;refine dK C (fh (i:=1) C ?_);have hp:0<Y.length:=List.length_pos_iff.2 Cg;have O:=afH d T Y.length Y ps 0 (ps.getD 0 0);rw[GH Y _ _ rfl,show Y.length+1=(Y++[ps.getD 0 0]).length by rw[aE];rfl]at O;refine kU 2 (di _) eE O (dB (g0 ⟨S (iI q) (S (eo _) (S (fD q) (S hp (S H (S eY (eG (Ks (by rw[aE,cg];omega)))))))),?_⟩));exact Dq q _ (by simp)
    |succ i=>
     have Mv:(Y++(ps.take (i+1)).flatMap f)≠[]:=fun e=>by
      have O:=aI List.length e;rw[nZ (show i<ps.length by omega),JD]at O;simp at O
     refine kU 2 (di _) eE (afE d T _ _ ps (i+1)) (dD (g1 fun h=>⟨all_nil,?_⟩) (dB (g1 fun h=>⟨all_nil,fun X dQ=>k2 (by have:=r9 h;omega) X (j9.norm dQ)⟩)));have q:=jW h;have kK:=BI (f:=f) q;rw[JD,aP]at kK;have vY:(Y++(ps.take (i+1)).flatMap f).length<=Y.length+((ps.take (i+1)).flatMap f).length:=by rw[aE];exact aK _
     refine dK C (fh (i:=1) C ?_);have hcm:=Dq q;generalize (Y++(ps.take (i+1)).flatMap f)=cu at *;have hp:0<cu.length:=List.length_pos_iff.2 Mv;have O:=afI d T cu.length cu ps (i+1) (ps.getD (i+1) 0);rw[GH cu _ _ rfl,show cu.length+1=(cu++[ps.getD (i+1) 0]).length by rw[aE];rfl]at O;refine kU 2 (di _) eE O (dB (g0 ⟨S (iI q) (S (eo _) (S (fD q) (S hp (S H (S eY (eG (Ks (by rw[aE,cg];omega)))))))),?_⟩));exact hcm _ rfl
  . cases vL:ps.length with
    |zero=>
     rw[vL]at dQ;obtain⟨rfl,rfl⟩:=g0' (List.length_eq_zero_iff.1 vL);exact⟨_,dQ,US C⟩
    |succ i=>
     rw[vL]at dQ;obtain⟨rfl,rfl⟩:=g1' (fun e=>by rw[e]at vL;cases vL);have e:List.take (i+1) ps=ps:=by rw[<- vL,bz]
     have pH:j9 6 NO X (sO 5 (EY d T (Y++(ps.take (i+1)).flatMap f).length (Y++(ps.take (i+1)).flatMap f)) 7 ps (i+1) []):=dQ;rw[e]at pH;refine⟨_,pH,US ?_⟩;generalize Y++List.flatMap f ps=cu;kernel_rfl
 refine⟨fun e=>?_,fun e=>?_⟩
 . have hn:y.kids=[]:=Classical.byContradiction fun q=>Mf q e;exact orL (qv _ _ (fun _=>⟨rfl,rfl⟩) fun q=>absurd hn q)
 . exact orL (qv _ _ (fun q=>absurd (by rw[q];rfl) e) fun _=>⟨rfl,rfl⟩)
end
theorem RT{d:Dc}{T:oF}{x:Int}{y:eJ}{n:Nat}(G:mh 44 [L x] d T (.gw [y.v,.bool true]))(ih:∀i,i<y.kids.length->∀pC,pC≠[]->pC.length+(iF d.ly n (y.kids.getD i 0)).length<=1000000->OrB d T (y.kids.getD i 0) pC (iF d.ly n (y.kids.getD i 0)))(hl:(y.kids.flatMap fun k=>k::iF d.ly n k).length<=1000000)(W:y.kids.length<=1000000):OrZ d T x (y.kids.flatMap fun k=>k::iF d.ly n k):=by
 have qv:∀Q n1,(y.kids=[]->GF d T=Q/\5=n1)->(y.kids≠[]->GG d T ((y.kids.flatMap fun k=>k::iF d.ly n k)).length ((y.kids.flatMap fun k=>k::iF d.ly n k))=Q/\6=n1)->TG ak 5 NO La (dy (aO 4 x) (GF d T) 5) (Dm ak 5 Tryz.f47 fun o h n=>o= .ret (.gw [])/\h=Q/\n=n1):=fun Q n1 g0' g1'=>by
  refine fF 2 (ny G (di _)) (afy d T x y) (S rfl (S rfl (eG rfl))) ?_;generalize y.kids=ps at *;generalize hf:(fun k=>k::iF d.ly n k)=f at *;have JD:∀k,f k=k::iF d.ly n k:=fun k=>by rw[<- hf]
  refine Rf (vc 0 ps.length (fun i=>match i with
   |0=>sO 4 (GF d T) 5 ps 0 []
   |i+1=>sO 4 (GG d T ((ps.take (i+1)).flatMap f).length ((ps.take (i+1)).flatMap f)) 6 ps (i+1) []) (fun _=>false) (fun E a w r hn=>⟨hn,E,r,kB.refl r.good⟩) (fun i hi _ Q' k1 k2 k3=>?_) (fun _ X dQ=>?_))
  . have Dq:i<ps.length->∀pC,pC=((ps.take i).flatMap f)++[ps.getD i 0]->TG ak 5 NO (dr 2 Sm) (sO 4 (GG d T pC.length pC) 6 ps i [(8,L (ps.getD i 0))]) (gk 1 (andThen (fun X=>TG ak 5 NO (dr 3 RP) X Q') Q')):=fun q pC e=>by
     have kK:=BI (f:=f) q;rw[JD,aP]at kK;have jx:pC.length=((ps.take i).flatMap f).length+1:=by rw[e,aE,cg]
     have iV:pC≠[]:=by rw[e];simp
     obtain⟨o1,o2⟩:=ih i q pC iV H;have Sj:((ps.take (i+1)).flatMap f)=pC++iF d.ly n (ps.getD i 0):=by
      rw[nZ q,JD,e];simp[de]
     generalize iF d.ly n (ps.getD i 0)=o at *;generalize ps.getD i 0=k at *;have oI:∀X,j9 5 NO X (sO 4 (GG d T (pC++o).length (pC++o)) 6 ps i [])->gk 1 (andThen (fun X=>TG ak 5 NO (dr 3 RP) X Q') Q') .normal X:=fun X dQ=>by
      simp only[gk,andThen];rw[<- Sj]at dQ;exact dQ.vO _ _ (gv (di _) eE (afK d T _ _ ps i) (dB (g0 ⟨eG (gJ H),fun X dQ=>k1 q rfl X (j9.norm dQ)⟩)))
     by_cases ho:o=[]
     . subst ho;rw[List.append_nil]at oI;exact gv (fC (o1 rfl) (di _)) eE (ZK d T pC.length pC ps i k) (dB (g0 ⟨S rfl (S rfl (eG rfl)),fun X dQ=>oI X (j9.norm dQ)⟩))
     . exact gv (fC (o2 ho) (di _)) eE (ZL d T pC.length pC (pC++o).length (pC++o) ps i k) (dB (g0 ⟨S rfl (S rfl (eG rfl)),fun X dQ=>oI X (j9.norm dQ)⟩))
    cases i with
    |zero=>
     refine kU 2 (di _) eE (afA d T ps 0) (dD (g1 fun h=>⟨all_nil,?_⟩) (dB (g1 fun h=>⟨all_nil,fun X dQ=>k2 (by have:=r9 h;omega) X (j9.norm dQ)⟩)));have q:=jW h;refine dK C (fh (i:=1) C ?_);refine kU 2 (di _) eE (afF d T ps 0 (ps.getD 0 0)) (dB (g0 ⟨S (iI q) (S (eo _) (eG (fD q))),?_⟩));have B:=Dq q [ps.getD 0 0] (by simp);generalize ps.getD 0 0=k at *;exact ek.own [(5,.i64)] (fm:=sO 4 (GG d T 1 [k]) 6 ps 0 [(8,L k)]) C _ _ B
    |succ i=>
     have Mv:((ps.take (i+1)).flatMap f)≠[]:=fun e=>by
      have O:=aI List.length e;rw[nZ (show i<ps.length by omega),JD]at O;simp at O
     refine kU 2 (di _) eE (afB d T _ _ ps (i+1)) (dD (g1 fun h=>⟨all_nil,?_⟩) (dB (g1 fun h=>⟨all_nil,fun X dQ=>k2 (by have:=r9 h;omega) X (j9.norm dQ)⟩)));have q:=jW h;have kK:=BI (f:=f) q;rw[JD,aP]at kK;have vY:((ps.take (i+1)).flatMap f).length<=((ps.take (i+1)).flatMap f).length:=by exact aK _
     refine dK C (fh (i:=1) C ?_);have hcm:=Dq q;generalize ((ps.take (i+1)).flatMap f)=cu at *;have hp:0<cu.length:=List.length_pos_iff.2 Mv;have O:=afG d T cu.length cu ps (i+1) (ps.getD (i+1) 0);rw[GH cu _ _ rfl,show cu.length+1=(cu++[ps.getD (i+1) 0]).length by rw[aE];rfl]at O;refine kU 2 (di _) eE O (dB (g0 ⟨S (iI q) (S (eo _) (S (fD q) (S hp (S H (S eY (eG (Ks (by rw[aE,cg];omega)))))))),?_⟩));exact hcm _ rfl
  . cases vL:ps.length with
    |zero=>
     rw[vL]at dQ;obtain⟨rfl,rfl⟩:=g0' (List.length_eq_zero_iff.1 vL);exact⟨_,dQ,US C⟩
    |succ i=>
     rw[vL]at dQ;obtain⟨rfl,rfl⟩:=g1' (fun e=>by rw[e]at vL;cases vL);have e:List.take (i+1) ps=ps:=by rw[<- vL,bz]
     have pH:j9 5 NO X (sO 4 (GG d T ((ps.take (i+1)).flatMap f).length ((ps.take (i+1)).flatMap f)) 6 ps (i+1) []):=dQ;rw[e]at pH;refine⟨_,pH,US ?_⟩;generalize List.flatMap f ps=cu;kernel_rfl
 refine⟨fun e=>?_,fun e=>?_⟩
 . have hn:y.kids=[]:=Classical.byContradiction fun q=>Mf q e;exact orL (qv _ _ (fun _=>⟨rfl,rfl⟩) fun q=>absurd hn q)
 . exact orL (qv _ _ (fun q=>absurd (by rw[q];rfl) e) fun _=>⟨rfl,rfl⟩)
section
variable{d:Dc}(h:jg d)
include h
theorem NJ(T:oF)(I:xl d T)(hd:F7 d):∀(n:Nat) (x:Int) (m:Nat) (Y:List Int),jy d.ly x=some m->zV d.ly false x<n->Y≠[]->Y.length+(iF d.ly n x).length<=1000000->OrB d T x Y (iF d.ly n x):=by
 intro n
 induction n with
 |zero=>intro _ _ _ _ hr;exact absurd hr (bC _)
 |succ n ih=>
  intro x m Y K hr Cg hl;obtain⟨eO,hid,qx⟩:=jn K;have G:=nW I K;have e:iF d.ly (n+1) x=(d.at m).kids.flatMap fun k=>k::iF d.ly n k:=by show(match jy d.ly x with|some m=>(d.ly.getD m gy).kids.flatMap (fun k=>k::iF d.ly n k)|none=>[])=_;rw[K];rfl
  rw[e]at hl ⊢;refine RS Cg G (fun i hi pC Q O=>?_) hl (hd.kids _ qx);have W:=nq hi;obtain⟨Ak,⟨q,hq⟩,_⟩:=h.D9 qx W;have hs:=IA h.a (vJ (g:=d.at m) (by rw[show(d.at m).id=x from hid];exact K) rfl (by rw[show(d.at m).kd=2 from Ak];decide) W false);rw[show(d.at m).id=x from hid]at hs;exact ih _ q pC hq (by have:zV d.ly false ((d.at m).kids.getD i 0)<zV d.ly false x:=hs;omega) Q O
theorem NK(T:oF)(I:xl d T)(hd:F7 d)(n:Nat)(x:Int)(m:Nat)(K:jy d.ly x=some m)(hr:zV d.ly false x<n+1)(hl:(iF d.ly (n+1) x).length<=1000000):OrZ d T x (iF d.ly (n+1) x):=by
 obtain⟨eO,hid,qx⟩:=jn K;have G:=nW I K;have e:iF d.ly (n+1) x=(d.at m).kids.flatMap fun k=>k::iF d.ly n k:=by show(match jy d.ly x with|some m=>(d.ly.getD m gy).kids.flatMap (fun k=>k::iF d.ly n k)|none=>[])=_;rw[K];rfl
 rw[e]at hl ⊢;refine RT G (fun i hi pC Q O=>?_) hl (hd.kids _ qx);have W:=nq hi;obtain⟨Ak,⟨q,hq⟩,_⟩:=h.D9 qx W;have hs:=IA h.a (vJ (g:=d.at m) (by rw[show(d.at m).id=x from hid];exact K) rfl (by rw[show(d.at m).kd=2 from Ak];decide) W false);rw[show(d.at m).id=x from hid]at hs;exact NJ h T I hd n _ q pC hq (by have:zV d.ly false ((d.at m).kids.getD i 0)<zV d.ly false x:=hs;omega) Q O
end
set_option maxRecDepth 10000
def tT(d:Dc)(x:Int):List Int:=x::iF d.ly 100 x
theorem yN(y:Int)(f:Int->List Int):∀Y:List Int,(Y.flatMap f).count y=(Y.map fun k=>(f k).count y).sum
 | []=>rfl
 |k::Y=>by rw[List.flatMap_cons,List.count_append,bP,List.sum_cons,yN y f Y]
theorem Mg(g h:Int->Nat):∀Y:List Int,(Y.map fun k=>g k+h k).sum=(Y.map g).sum+(Y.map h).sum
 | []=>rfl
 |k::Y=>by simp only[bP,List.sum_cons,Mg g h Y];omega
theorem Mh(y:Int):∀Y:List Int,(Y.map fun k=>if k=y then 1 else 0).sum=Y.count y
 | []=>rfl
 |k::Y=>by
  rw[bP,List.sum_cons,Mh y Y,List.count_cons];by_cases q:k=y
  . simp[q];omega
  . simp[q]
theorem xw{f g:Int->List Int}:∀{Y:List Int},(∀k∈Y,f k=g k)->Y.flatMap f=Y.flatMap g
 | [],_=>rfl
 |k::Y,h=>by rw[List.flatMap_cons,List.flatMap_cons,h k (by simp),xw fun k W=>h k (by simp[W])]
section
variable{d:Dc}(h:jg d)
include h
theorem vg(x:Int):zV d.ly false x<99:=by
 unfold zV;have:=oz d.ly false x;have:=oA h.k;have:=h.big;omega
theorem RU:∀(n k:Nat) (x:Int),zV d.ly false x<n->zV d.ly false x<k->iF d.ly n x=iF d.ly k x
 |0,_,_,Q,_=>absurd Q (bC _)
 |_+1,0,_,_,O=>absurd O (bC _)
 |n+1,k+1,x,Q,O=>by
  show(match jy d.ly x with|some m=>(d.ly.getD m gy).kids.flatMap (fun j=>j::iF d.ly n j)|none=>[])=(match jy d.ly x with|some m=>(d.ly.getD m gy).kids.flatMap (fun j=>j::iF d.ly k j)|none=>[]);cases K:jy d.ly x with
  |none=>rfl
  |some m=>
   obtain⟨_,hid,qx⟩:=jn K;refine xw fun j hj=>?_;obtain⟨Ak,_,_⟩:=h.D9 qx hj;have hs:=IA h.a (vJ (g:=d.ly.getD m gy) (by rw[hid];exact K) rfl (by rw[Ak];decide) hj false);rw[hid]at hs;rw[RU n k j H H]
theorem vh{x:Int}{m:Nat}(K:jy d.ly x=some m):iF d.ly 100 x=(d.at m).kids.flatMap (tT d):=by
 show(match jy d.ly x with|some m=>(d.ly.getD m gy).kids.flatMap (fun j=>j::iF d.ly 99 j)|none=>[])=_;rw[K];exact xw fun j _=>by unfold tT;rw[RU h 99 100 j (vg h j) (by have:=vg h j;omega)]
theorem Ab{x:Int}{m:Nat}(K:jy d.ly x=some m){k:Int}(W:k∈(d.at m).kids):zV d.ly false k<zV d.ly false x/\∃q,jy d.ly k=some q:=by
 obtain⟨_,hid,qx⟩:=jn K;obtain⟨O,FP,_⟩:=h.D9 qx W;have hs:=IA h.a (vJ (g:=d.at m) (by rw[show(d.at m).id=x from hid];exact K) rfl (by rw[show(d.at m).kd=2 from O];decide) W false);rw[show(d.at m).id=x from hid]at hs;exact⟨hs,FP⟩
theorem RV:∀(n:Nat) (x:Int),zV d.ly false x<n->(∃m,jy d.ly x=some m)->∀z∈tT d x,∃q,jy d.ly z=some q
 |0,_,hr,_,_,_=>absurd hr (bC _)
 |n+1,x,hr,⟨m,K⟩,z,hz=>by
  rcases aD.1 hz with rfl|q
  . exact⟨m,K⟩
  . rw[vh h K]at q;obtain⟨k,W,hz⟩:=List.mem_flatMap.1 q;obtain⟨k1,k2⟩:=Ab h K W;exact RV n k H k2 z hz
theorem I3:∀(n:Nat) (x:Int),zV d.ly false x<n->(∃m,jy d.ly x=some m)->(tT d x).count d.root=if x=d.root then 1 else 0
 |0,_,hr,_=>absurd hr (bC _)
 |n+1,x,hr,⟨m,K⟩=>by
  obtain⟨_,hid,qx⟩:=jn K;have h0:(iF d.ly 100 x).count d.root=0:=by
   rw[vh h K,yN];have:∀Y:List Int,(∀k∈Y,(tT d k).count d.root=0)->(Y.map fun k=>(tT d k).count d.root).sum=0:=fun Y=>by
    induction Y with
    |nil=>intro _;rfl
    |cons k Y ih=>intro W;rw[bP,List.sum_cons,W k (by simp),ih fun k q=>W k (by simp[q])]
   refine this _ fun k W=>?_;obtain⟨k1,k2⟩:=Ab h K W;rw[I3 n k H k2,aB (h.D9 qx W).2.2]
  unfold tT;rw[List.count_cons,h0];simp
theorem Mi{y:Int}{g:eJ}{j:Nat}(hg:g∈d.ly)(O:g.kd=2)(hj:j<g.kids.length)(hy:g.kids.getD j 0=y):∀(n:Nat) (x:Int),zV d.ly false x<n->(∃m,jy d.ly x=some m)->(tT d x).count y=(if x=y then 1 else 0)+(tT d x).count g.id
 |0,_,hr,_=>absurd hr (bC _)
 |n+1,x,hr,⟨m,K⟩=>by
  obtain⟨_,hid,qx⟩:=jn K;have hyk:y∈g.kids:=hy▸nq hj;obtain⟨_,hyx,hyr⟩:=h.D9 hg hyk;have B:=h.Cq hyx hyr;have hp:=vf O hj hy B hg;have DA:(d.at m).kids.count y=if x=g.id then 1 else 0:=by
   by_cases q:x=g.id
   . rw[aG q];obtain⟨m2,e1,e2⟩:=h.UR hg;rw[<- q,K]at e1;obtain rfl:m=m2:=by simpa using e1
     have e3:(d.at m)=g:=e2;rw[e3];have u1:0<g.kids.count y:=List.count_pos_iff.2 hyk;have u2:g.kids.count y<=1:=by
      rw[<- B];unfold kR;exact List.Sublist.count_le y (List.sublist_flatten_of_mem (bN.2 ⟨g,hg,rfl⟩))
     omega
   . rw[aB q,List.count_eq_zero];intro afO;obtain⟨i,hi,e⟩:=b6 afO;have e2:(d.at m).kids.getD i 0=y:=by rw[ax,au hi];exact e
     have:=vf (x:=d.at m) (h.D9 qx afO).1 hi e2 B qx;rw[hp]at this;simp only[aq,aF]at this;exact q (by rw[this.1];exact hid.symm)
  have hs:(iF d.ly 100 x).count y=(d.at m).kids.count y+(iF d.ly 100 x).count g.id:=by
   rw[vh h K,yN,yN,<- Mh y,<- Mg];congr 1;refine List.map_congr_left fun k W=>?_;obtain⟨k1,k2⟩:=Ab h K W;exact Mi hg O hj hy n k H k2
  unfold tT;rw[List.count_cons,List.count_cons,hs,DA];simp only[cG];omega
theorem yO:∃n,jy d.ly d.root=some n:=by
 have VY:=(su h.w).2.2.2;unfold lX at VY;cases hn:jy d.ly d.root with
 |some n=>exact⟨n,rfl⟩
 |none=>rw[hn]at VY;cases VY
theorem BJ:∀(b:Nat) (y:Int),100<=b+zV d.ly false y->(∃n,jy d.ly y=some n)->(tT d d.root).count y=1
 |0,y,hb,_=>by have:=vg h y;omega
 |b+1,y,hb,FP=>by
  by_cases q:y=d.root
  . rw[q,I3 h 99 d.root (vg h _) (yO h),aG rfl]
  . obtain⟨g,hg,j,O,hj,e,_⟩:=h.par FP q;obtain⟨m,e1,e2⟩:=h.UR hg;have W:=Ab h (x:=g.id) e1 (k:=y) (by rw[show d.at m=g from e2,<- e];exact nq hj);rw[Mi h hg O hj e 99 d.root (vg h _) (yO h),aB (fun z=>q z.symm),BJ b g.id H ⟨m,e1⟩]
theorem yP:(tT d d.root).Nodup:=by
 rw[List.nodup_iff_count];intro z;by_cases q:z∈tT d d.root
 . rw[BJ h 100 z (cQ _ _) (RV h 99 d.root (vg h _) (yO h) z q)];exact aK _
 . rw[List.count_eq_zero.2 q];exact aU _
theorem arp{x:eJ}(I:x∈d.ly):x.id∈tT d d.root:=by
 obtain⟨m,e1,_⟩:=h.UR I;exact List.count_pos_iff.1 (by rw[BJ h 100 x.id (cQ _ _) ⟨m,e1⟩];exact Nat.one_pos)
theorem afP:(tT d d.root).length=d.ly.length:=by
 have hp:List.Perm (tT d d.root) (d.ly.map (·.id)):=by
  rw[List.perm_ext_iff_of_nodup (yP h) h.uniq];intro z;constructor
  . intro hz;obtain⟨q,hq⟩:=RV h 99 d.root (vg h _) (yO h) z hz;obtain⟨_,hid,qx⟩:=jn hq;exact bN.2 ⟨_,qx,hid⟩
  . intro hz;obtain⟨x,I,rfl⟩:=bN.1 hz;exact arp h I
 have:=hp.length_eq;rwa [bG]at this
theorem Ds{Y:List Int}{j:Nat}(hj:j<Y.length)(f:Int->List Int):Y.flatMap f=(Y.take j).flatMap f++f (Y.getD j 0)++(Y.drop (j+1)).flatMap f:=by
 rw[<- nZ hj,<- List.flatMap_append,List.take_append_drop]
theorem Mj:∀(b:Nat) (y:Int),100<=b+zV d.ly false y->(∃n,jy d.ly y=some n)->∃aj hc,tT d d.root=aj++tT d y++hc
 |0,y,hb,_=>by have:=vg h y;omega
 |b+1,y,hb,FP=>by
  by_cases q:y=d.root
  . exact⟨[],[],by rw[q];simp⟩
  . obtain⟨g,hg,j,O,hj,e,_⟩:=h.par FP q;obtain⟨m,e1,e2⟩:=h.UR hg;have W:=Ab h (x:=g.id) e1 (k:=y) (by rw[show d.at m=g from e2,<- e];exact nq hj);obtain⟨aj,hc,hAB⟩:=Mj b g.id H ⟨m,e1⟩;have hT:tT d g.id=(g.id::(g.kids.take j).flatMap (tT d))++tT d y++(g.kids.drop (j+1)).flatMap (tT d):=by
     conv=>lhs;unfold tT
     rw[vh h e1,show d.at m=g from e2,Ds h hj (tT d),e];simp
    exact⟨aj++(g.id::(g.kids.take j).flatMap (tT d)),(g.kids.drop (j+1)).flatMap (tT d)++hc,by rw[hAB,hT];simp⟩
end
theorem RW{l aj hc:List Int}{y:Int}(hn:l.Nodup)(h:l=aj++y::hc):l.idxOf y=aj.length:=by
 subst h;have hy:y∉aj:=fun q=>by
  have:=(List.nodup_append.1 hn).2.2 y q y (by simp);exact this rfl
 rw[List.idxOf_append,aB hy,List.idxOf_cons_self];omega
def tH(d:Dc)(y:Int):Nat:=(tT d d.root).idxOf y
def I4(d:Dc)(x:eJ)(j:Nat):Nat:=match j with
 |0=>tH d x.id
 |j+1=>tH d (x.kids.getD j 0)
section
variable{d:Dc}(h:jg d)
include h
theorem UT{x:eJ}(I:x∈d.ly){j:Nat}(hj:j<x.kids.length):I4 d x j<tH d (x.kids.getD j 0):=by
 obtain⟨m,e1,e2⟩:=h.UR I;obtain⟨aj,hc,hAB⟩:=Mj h 100 x.id (cQ _ _) ⟨m,e1⟩;have hT:tT d x.id=x.id::x.kids.flatMap (tT d):=by
  conv=>lhs;unfold tT
  rw[vh h e1,show d.at m=x from e2]
 have hp:∀i,i<x.kids.length->tH d (x.kids.getD i 0)=aj.length+1+((x.kids.take i).flatMap (tT d)).length:=fun i hi=>by
  unfold tH;rw[RW (aj:=aj++x.id::(x.kids.take i).flatMap (tT d)) (hc:=iF d.ly 100 (x.kids.getD i 0)++(x.kids.drop (i+1)).flatMap (tT d)++hc) (yP h) (by
   rw[hAB,hT,Ds h hi (tT d),show tT d (x.kids.getD i 0)=x.kids.getD i 0::iF d.ly 100 (x.kids.getD i 0)from rfl];simp)]
  rw[aE,aP];omega
 rw[hp j hj];cases j with
 |zero=>
  show tH d x.id<_;unfold tH;rw[RW (aj:=aj) (hc:=x.kids.flatMap (tT d)++hc) (yP h) (by rw[hAB,hT];simp)];omega
 |succ j=>
  show tH d (x.kids.getD j 0)<_;rw[hp j H,nZ (show j<x.kids.length by omega),aE];unfold tT;rw[aP];omega
end
set_option maxRecDepth 10000
def mTz:List (FuncId×ag×V):=[(8,[],.bool true)]
theorem ZO:eU ak (Lo mTz):=O4 fun x I=>by
 simp only[mTz,aD,aJ,bn]at I;subst I;exact san
set_option maxRecDepth 10000
theorem RY{d:Dc}(h:jg d):(jo d).1=0:=by
 unfold jo;rw[aG h.w,gB (f:=Ku d) fun j hj=>by unfold Ku;rw[h.f _ (nj hj)];rfl];simp only;rw[gB (f:=BB d) fun j hj=>by unfold BB;rw[h.k _ (nj hj)];rfl];simp only;rw[gB (f:=zW d) fun j hj=>h.c _ (nj hj)];simp only;rw[gB (f:=Ni d) fun j hj=>h.a _ (nj hj)];simp only;rw[aB (by have:=h.g;omega)]
theorem ars(xs:List Int)(d:Dc):dw (U (fb 34 [fj xs,M 8] d.v dY) []) [] 0 Tryz.f10 [] (dI Tryz.f10) (dy [fj xs] .nil 0)
  [([],[V.lA [fj xs,M 8]=[fj xs,M 8]],.ret d.v .nil 0)]:=dj.of C C C
theorem ZP(xs:List Int):dU ak 10 [fj xs] (AM xs 8).v:=by
 have h:=Yx xs 8 eY;generalize AM xs 8=d at *;exact eX Tryz.func10 (eK (fu h (di _)) (ars xs d) (dB (g0 ⟨eG rfl,_,_,_,rfl,rfl⟩)))
section
variable{d:Dc}(h:jg d)
include h
end
set_option maxRecDepth 10000
theorem ZQ(m a:Int):m<=zU m a/\a<=zU m a:=by
 unfold zU;split<;>omega
theorem Dt{f:Int->Int}:∀(l:List Int) (m:Int),∀p∈l,f p<=l.foldl (fun m p=>zU m (f p)) m
 |x::l,m,p,hp=>by
  rcases aD.1 hp with rfl|q
  . exact Int.le_trans (ZQ m (f p)).2 (Db _)
  . exact Dt l _ p q
section
variable{d:Dc}(h:jg d)
include h
theorem Mk{x:eJ}(I:x∈d.ly){k:Int}(W:k∈x.kids):ic d.ly 100 k+1<=ic d.ly 100 x.id:=by
 obtain⟨m,e1,e2⟩:=h.UR I;obtain⟨O,_,_⟩:=h.D9 I W;have hp:fN x=x.kids:=by unfold fN;rw[aB H]
 have e:ic d.ly 100 x.id=x.kids.foldl (fun m p=>zU m (ic d.ly 99 p)) 0+1:=by
  show(match jy d.ly x.id with|none=>0|some n=>if((d.ly.getD n gy).kd !=2&&(d.ly.getD n gy).kd !=4)=true then 0 else(fN (d.ly.getD n gy)).foldl (fun m p=>zU m (ic d.ly 99 p)) 0+1)=_;rw[e1];simp only;rw[e2,aB (by rw[O];decide),hp]
 have hr:=vg h k;rw[e,TU (Bz h.a) 100 99 k H hr];have:=Dt (f:=ic d.ly 99) x.kids 0 k W;omega
theorem I5:∀(b:Nat) (y:Int),100<=b+zV d.ly false y->(∃n,jy d.ly y=some n)->ic d.ly 100 y<=ic d.ly 100 d.root
 |0,y,hb,_=>by have:=vg h y;omega
 |b+1,y,hb,FP=>by
  by_cases q:y=d.root
  . rw[q];exact Int.le_refl _
  . obtain⟨g,hg,j,O,hj,e,_⟩:=h.par FP q;obtain⟨m,e1,e2⟩:=h.UR hg;have W:=Ab h (x:=g.id) e1 (k:=y) (by rw[show d.at m=g from e2,<- e];exact nq hj);have Q:=Mk h hg (k:=y) (e▸nq hj);have O:=I5 b g.id H ⟨m,e1⟩;omega
theorem EZ:(iF d.ly 100 d.root).length+1=d.ly.length:=by
 have:=afP h;unfold tT at this;rwa [aP]at this
theorem ZR:okB d=true:=by
 unfold okB;have:=RY h;simpa using this
theorem ZS(hd:Jc d):dU ak 18 [d.v] (fj (iF d.ly 100 d.root)):=by
 have hV:=I2 hd h.bd (RY h);have I:=RG d;change xl d (o4 d)at I;obtain⟨n,hn⟩:=yO h;have jx:=EZ h;have hb:=h.big.2.1;have hO:=NK h (o4 d) I hd.m 99 d.root n hn (by have:=vg h d.root;omega) (by show(iF d.ly 100 d.root).length<=_;omega);change OrZ d (o4 d) d.root (iF d.ly 100 d.root)at hO;generalize o4 d=T at *;generalize iF d.ly 100 d.root=o at *;by_cases q:o=[]
 . subst q;have:=eX (v:=.eR none 0 0 0) Tryz.func18 (eK (fC hV (fC (hO.1 rfl) (di _))) (afM d T) (dB (g0 ⟨S rfl (S rfl (S rfl (S rfl (S rfl (eG rfl))))),_,_,_,rfl,rfl⟩)));exact this.nl
 . exact qL Tryz.func18 (eK (fC hV (fC (hO.2 q) (di _))) (afN d T o.length o) (dB (g0 ⟨S rfl (S rfl (S rfl (S rfl (S rfl (eG rfl))))),_,_,_,rfl,.Bu (v0:=fj o) [0] (aj:=[(dO o).length=o.length*1]) C (eG (eo _)) C C⟩)))
end
end Go.Proofs.YtmjggdmekboefaaGreat
