/- The Doc laws: the program's test of a layer's fields: contract. No conditions. -/
import Derived.Test.YtmjggdmekboefaaGreatJointW14
set_option linter.unusedVariables false
set_option linter.unusedSimpArgs false
set_option linter.unusedSectionVars false
namespace Go.Proofs.YtmjggdmekboefaaGreat
open Go Go.Eng
set_option maxRecDepth 10000
def me(n:Int):Prop:= -9223372036854775808<=n/\n<=9223372036854775807
structure ur(f:FL):Prop where
 k:me f.k
 r:me f.r
 dv:me f.dv
 vl:me f.vl
theorem aaq:kj ak 63 (Go.Eng.dW Le):=by
 refine PR (aE dD) fun ds fm v e hA=>?_;unfold Le at e;split at e
 case h_2=>cases e
 rename_i k r n eW dv vl m cu;obtain⟨rfl,rfl⟩:=sm e;have e1:eW=eG (eH eW):=hA _ (by simp);have e2:n=(eH eW).length:=hA (n=(eH eW).length) (by simp);have e3:n<=1000000:=hA (n<=1000000) (by simp);have e4:cu=eG (eH cu):=hA (cu=eG (eH cu)) (by simp);have e5:m=(eH cu).length:=hA (m=(eH cu).length) (by simp);have e6:m<=1000000:=hA (m<=1000000) (by simp);generalize eH eW=l at *;generalize eH cu=q at *;subst e1 e2 e4 e5;exact Yy ⟨k,r,l,dv,vl,q⟩ (by show l.length<=_;omega) (by show q.length<=_;omega)
theorem Dv:fe ak Wfb:=fN aaq (be _)
theorem mL(n:Int)(h:me n)(t u:aa):eO n++t=0::u↔n=0/\t=u:=by
 obtain⟨h1,C⟩:=h;have hz:eO 0=[0]:=by decide
 constructor
 . intro e;have hw:IntKind.u64.wrap n=if n<0 then n+18446744073709551616 else n:=by
    unfold IntKind.wrap;have e1:(2^IntKind.u64.bits:Int)=18446744073709551616:=by decide
    have e3:IntKind.u64.signed=false:=rfl;simp only[e1,e3,aQ,aM,cA];split<;>omega
   have hu:IntKind.u64.wrap n=0:=by
    unfold eO at e;generalize IntKind.u64.wrap n=u at e hw;have hu0:0<=u/\u<18446744073709551616:=by rw[hw];split<;>omega
    by_cases c:128<=u
    . exfalso;have:uj 9 u=CY u::uj 8 (u.fdiv 128):=by
       show(if 128<=u then _ else _)=_;rw[aD c]
      rw[this]at e;have e:UInt8.ofNat (CY u).toNat::_=0::_:=e;injection e with e _;have hh:128<=(CY u).toNat/\(CY u).toNat<256:=by
       unfold CY;generalize Y:BitVec.ofInt 8 (IntKind.u8.wrap u)=b;have Oh:BitVec.ofInt 8 (128:Int)=128#8:=by decide
       rw[Oh];have h3:128<=(b|||128#8).toNat:=by
        have:∀b:BitVec 8,128<=(b|||128#8).toNat:=by decide
        exact this b
       have h4:=(b|||128#8).isLt;generalize (b|||128#8).toNat=z at h3 h4;unfold IntKind.wrap;have e1:(2^IntKind.u8.bits:Int)=256:=by decide
       have e3:IntKind.u8.signed=false:=rfl;simp only[e1,e3,aQ,aM,cA,gB];omega
      have e2:=aI UInt8.toNat e;simp[UInt8.toNat_ofNat']at e2;omega
    . rw[CZ c]at e;have e:UInt8.ofNat (XW u).toNat::_=0::_:=e;injection e with e _;have e2:=aI UInt8.toNat e;unfold XW at e2;have hw8:IntKind.u8.wrap u=u:=by
       unfold IntKind.wrap;have e1:(2^IntKind.u8.bits:Int)=256:=by decide
       have e3:IntKind.u8.signed=false:=rfl;simp only[e1,e3,aQ,aM,cA];omega
      rw[hw8]at e2;simp[UInt8.toNat_ofNat']at e2;omega
   have hn:n=0:=by rw[hw]at hu;split at hu<;>omega
   subst hn;rw[hz]at e;injection e with _ e;exact⟨rfl,e⟩
 . rintro⟨rfl,rfl⟩;rw[hz];rfl
section
variable(x:eJ)(f:FuncId){fn:Func}(rest:ag)(m:Bool)(p:Int×Int)
theorem Lf(a:Int)(l:List Int):gC (a::l)=eO a++gC l:=by unfold gC;simp
theorem tN(f:FL)(h:ur f)(h1:f.eW.length<=1000000)(C:f.cu.length<=1000000):mM (ic f) (ic tZ)=tH f:=by
 have hz:ic tZ=[0,0,0,0,0,0]:=by decide
 rw[kD,Bool.eq_iff_iff,cm,hz];have e:ic f=eO f.k++(eO f.r++(eO (Int.ofNat f.eW.length)++(gC f.eW++(eO f.dv++(eO f.vl++(eO (Int.ofNat f.cu.length)++gC f.cu)))))):=by
  unfold ic;simp only[Lf,cO];have:gC []=[]:=rfl;rw[this,bA,bA]
 have b1:me (Int.ofNat f.eW.length):=by unfold me;simp only[gB];omega
 have b2:me (Int.ofNat f.cu.length):=by unfold me;simp only[gB];omega
 rw[e,mL _ h.k,mL _ h.r,mL _ b1];unfold tH nN;simp only[ay,cm];constructor
 . rintro⟨k1,k2,k3,k4⟩;have U:f.eW=[]:=cF.2 (by simp only[gB]at k3;omega);rw[U,show gC []=[]from rfl,bA,mL _ h.dv,mL _ h.vl]at k4;have h3:=(mL _ b2 (gC f.cu) []).1 (by rw[k4.2.2]);exact⟨k1,k2,k4.1,k4.2.1,k3,h3.1⟩
 . rintro⟨k1,k2,k3,k4,k5,k6⟩;have U:f.eW=[]:=cF.2 (by simp only[gB]at k5;omega);have N:f.cu=[]:=cF.2 (by simp only[gB]at k6;omega);refine⟨k1,k2,k5,?_⟩;rw[U,N,show gC []=[]from rfl,bA,mL _ h.dv,mL _ h.vl];exact⟨k3,k4,eX⟩
def UW(d:Dc)(O:List (Eng.D×Eng.D))(v:V):Prop:=Uy ak f (vX (I5 rest d O v))
def RZ(d:Dc)(O:List (Eng.D×Eng.D))(p:Int×Int):Prop:=(p.1=0->oO f rest d O (.gV []))/\(p.1≠0->UW f rest d O (xx p))
def af4:qw:=if p.1=0 then .ret (.gV [])else .lU (xx p)
abbrev RX(fn:Func)(d:Dc)(O:List (Eng.D×Eng.D))(p:Int×Int):Exit->St->Prop:=G6 ak 2 fn fun o b c=>o=af4 p/\b=mR d O/\c=2
theorem Wz{f:FuncId}{fn:Func}{rest:ag}{d:Dc}{O:List (Eng.D×Eng.D)}{p:Int×Int}(hf:Tryz.prog.funcs[f]? =some fn)(hT:TG ak 2 fn.ntmps (dL fn) (dB (pT::rest) (mR d O) 2) (RX fn d O p))
  (eY:Nat.blt f Tryz.prog.funcs.size=true:=by kernel_rfl) (Y:fn.body=some (dL fn):=by kernel_rfl) (l:(Nat.ble (pT::rest).length fn.ntmps&&Nat.blt fn.ntmps gy)=true:=by kernel_rfl):RZ f rest d O p:=by
 have key:∀(v:V) (wr:V->qw),af4 p=wr v->(∀args h k fm v' h' k',I5 rest d O v args h k=some (fm,v',h',k')->(∀a∈fm,a)->(Nat.ble args.length fn.ntmps&&Nat.blt fn.ntmps gy)=true/\TG ak k fn.ntmps (dL fn) (dB args h k) (G6 ak k fn fun a b c=>a=wr v'/\b=h'/\c=k')):=fun v wr hw args h k fm v' h' k' e hA=>by
  simp only[I5,aq,aB]at e;obtain⟨rfl,rfl,rfl,rfl⟩:=e;have h1:args=pT::rest:=hA _ (by simp);have C:h=mR d O:=hA (h=mR d O) (by simp);have h3:k=2:=hA (k=2) (by simp);subst h1 C h3;exact⟨l,hw▸hT⟩
 refine⟨fun h=>?_,fun h=>?_⟩
 . exact ZL mo po .ret Rz (aE eY) hf Y (key _ .ret (aD h))
 . exact ZL mo po .lU ZM (aE eY) hf Y (key _ .lU (aA h))
theorem DL{dy:Bool->St}{β v:Bool}(h:β=v):jU.to .normal (dy v)=jU.to .normal (dy β):=by rw[h]
theorem pA{d:Dc}{O:List (Eng.D×Eng.D)}{p q:Int×Int}{s:St}{ch:List PanicEntry}(hp:Bo (xx q) ch)(e:NT ak 2 fn s (.lU (xx q) false)=some (.lU (xx q),mR d O,2))(h:p=q)(h0:q.1≠0):RX fn d O p (.panic ch) s:=
 .Du hp e ⟨by rw[h];exact(aA h0).symm,rfl,rfl⟩
def opB:Bool:=!(decide (x.op<0)||(decide (x.op>255)||(decide (x.md<0)||decide (x.md>15))))
def mkB:Bool:=m&&(x.K||nN x.gT.length)
theorem af5:ba x m=!(opB x&&mkB x m):=by
 unfold ba opB mkB nN;have:decide (Int.ofNat x.gT.length>0)=!(Int.ofNat x.gT.length==(0:Int)):=by
  rw[Bool.eq_iff_iff];simp only[aS,bV,cr,gB];omega
 rw[this];generalize decide (x.op<0)=a;generalize decide (x.op>255)=b;generalize decide (x.md<0)=c;generalize decide (x.md>15)=e;generalize (Int.ofNat x.gT.length==(0:Int))=f;generalize x.K=g;cases a<;>cases b<;>cases c<;>cases e<;>cases f<;>cases g<;>cases m<;>rfl
def u51:Bool:=nN x.kids.length&&((x.of==(0:Int))&&(Ga x.fi&&nN x.gu.length))
theorem un1:G5 (fq x 1)=(u51 x&&tH x.f):=by
 show Gc 1 x=_;unfold Gc u51;generalize Ju x.pl=a;generalize (x.sp==(0:Int))=b;generalize nN x.gp.length=c;generalize nN x.kids.length=e;generalize (x.of==(0:Int))=f;generalize tH x.f=g;generalize nN x.gu.length=h;generalize Ga x.fi=i;cases a<;>cases b<;>cases c<;>cases e<;>cases f<;>cases g<;>cases h<;>cases i<;>rfl
def u52:Bool:=Ju x.pl&&((x.sp==(0:Int))&&(nN x.gp.length&&((x.of==(0:Int))&&(Ga x.fi&&nN x.gu.length))))
theorem un2:G5 (fq x 2)=(u52 x&&tH x.f):=by
 show Gc 2 x=_;unfold Gc u52;generalize Ju x.pl=a;generalize (x.sp==(0:Int))=b;generalize nN x.gp.length=c;generalize nN x.kids.length=e;generalize (x.of==(0:Int))=f;generalize tH x.f=g;generalize nN x.gu.length=h;generalize Ga x.fi=i;cases a<;>cases b<;>cases c<;>cases e<;>cases f<;>cases g<;>cases h<;>cases i<;>rfl
def u53:Bool:=Ju x.pl&&((x.sp==(0:Int))&&(nN x.gp.length&&(nN x.kids.length&&((x.of==(0:Int))&&(Ga x.fi&&nN x.gu.length)))))
theorem un3:G5 (fq x 3)=u53 x:=by
 show Gc 3 x=_;unfold Gc u53;generalize Ju x.pl=a;generalize (x.sp==(0:Int))=b;generalize nN x.gp.length=c;generalize nN x.kids.length=e;generalize (x.of==(0:Int))=f;generalize tH x.f=g;generalize nN x.gu.length=h;generalize Ga x.fi=i;cases a<;>cases b<;>cases c<;>cases e<;>cases f<;>cases g<;>cases h<;>cases i<;>rfl
def u54:Bool:=(x.sp==(0:Int))&&(nN x.gp.length&&(nN x.kids.length&&(Ga x.fi&&nN x.gu.length)))
theorem un4:G5 (fq x 4)=(u54 x&&tH x.f):=by
 show Gc 4 x=_;unfold Gc u54;generalize Ju x.pl=a;generalize (x.sp==(0:Int))=b;generalize nN x.gp.length=c;generalize nN x.kids.length=e;generalize (x.of==(0:Int))=f;generalize tH x.f=g;generalize nN x.gu.length=h;generalize Ga x.fi=i;cases a<;>cases b<;>cases c<;>cases e<;>cases f<;>cases g<;>cases h<;>cases i<;>rfl
def u55:Bool:=Ju x.pl&&((x.sp==(0:Int))&&(nN x.gp.length&&(nN x.kids.length&&(x.of==(0:Int)))))
theorem un5:G5 (fq x 5)=(u55 x&&tH x.f):=by
 show Gc 5 x=_;unfold Gc u55;generalize Ju x.pl=a;generalize (x.sp==(0:Int))=b;generalize nN x.gp.length=c;generalize nN x.kids.length=e;generalize (x.of==(0:Int))=f;generalize tH x.f=g;generalize nN x.gu.length=h;generalize Ga x.fi=i;cases a<;>cases b<;>cases c<;>cases e<;>cases f<;>cases g<;>cases h<;>cases i<;>rfl
end
section
variable{d:Dc}{O:List (Eng.D×Eng.D)}{p:Int×Int}
noncomputable abbrev NF:Nat:=Tryz.f93.ntmps
theorem R1(x:eJ)(U:∀e,bs d.sp.length x=true->e=23->p=(e,x.id))(h:bs d.sp.length x=false->TG ak 2 NF (dA 13 gz) (jL d O x []) (RX Tryz.f93 d O p)):TG ak 2 NF (dA 12 gz) (jL d O x []) (RX Tryz.f93 d O p):=by
 refine kA (rG (dI (dA 12 gz))) (be _) (!bs d.sp.length x) (fun b=>jL d O x [(198,.bool b),(200,F x.id)]) 23 x.id [0,3] (jL d O x []) (arb d O x) ?_ (fun b=>by kernel_rfl) dD (fun q=>h (by simpa using q)) (fun q ch hp=>pA hp dD (U 23 (by simpa using q) rfl) (show(23:Int)≠0 by decide))
 repeat' (first|exact gU|refine dJ ?_ ?_)
 all_goals
  intro N;simp only[az,aF,bh,aL,bg,aS,bt]at N;refine⟨all_nil,DL (dy:=fun b=>jL d O x [(198,.bool b),(200,F x.id)]) ?_⟩;unfold bs
  first
  |(rw[aV S,aV S];rfl)
  |(rw[aV S,aT S];rfl)
  |(rw[aT S];rfl)
section
variable(x:eJ)
noncomputable def b91:Bool:=cD (fC x.gp)
theorem bc1:bc (fq x 1) (cD (fC x.gp)) (iM x.f) (jP x.gu)=!b91 x:=by
 unfold b91;generalize cD (fC x.gp)=a;generalize iM x.f=b;generalize jP x.gu=c;cases a<;>cases b<;>cases c<;>rfl
theorem af6(hy:uq x)(U:∀e,b91 x=false->e=1->p=(e,x.id))(h0:b91 x=true->p.1=0):TG ak 2 NF (dA 13 gz) (jL d O (fq x 1) []) (RX Tryz.f93 d O p):=by
 refine Jb (rG (dA 13 gz)) (fk (vJ x.gp hy.gp) (be _)) (b91 x) (fun b=>jL d O (fq x 1) [(224,.bool b),(226,F x.id)]) 1 x.id (o1:=.ret (.gV [])) (h1:=mR d O) (n1:=2) (afJ d O x (cD (fC x.gp))) ?_ (fun b=>by kernel_rfl) dD (fun q=>⟨(aD (h0 q)).symm,rfl,rfl⟩) (fun q ch hp=>pA hp dD (U 1 q rfl) (show(1:Int)≠0 by decide))
 . repeat' (first|exact gU|refine dJ ?_ ?_)
   all_goals
    intro N;simp only[az,aF,bh,aL,bg]at N
    try exact absurd N.2 Bool.false_ne_true
   all_goals
    refine⟨by first|exact eM rfl|exact A rfl (eM rfl),DL (dy:=fun b=>jL d O (fq x 1) [(224,.bool b),(226,F x.id)]) ?_⟩;unfold b91
    first
    |(rw[N,aP];done)
    |(rw[N,aQ];done)
    |(rw[N];done)
    |(rw[N.1,N.2];done)
    |(rw[N.1,N.2];rfl)
    |(rw[N.1];rfl)
noncomputable def b92:Bool:=cD (fC x.gp)
theorem bc2:bc (fq x 2) (cD (fC x.gp)) (iM x.f) (jP x.gu)=!b92 x:=by
 unfold b92;generalize cD (fC x.gp)=a;generalize iM x.f=b;generalize jP x.gu=c;cases a<;>cases b<;>cases c<;>rfl
theorem af7(hy:uq x)(U:∀e,b92 x=false->e=1->p=(e,x.id))(h0:b92 x=true->p.1=0):TG ak 2 NF (dA 13 gz) (jL d O (fq x 2) []) (RX Tryz.f93 d O p):=by
 refine Jb (rG (dA 13 gz)) (fk (vJ x.gp hy.gp) (be _)) (b92 x) (fun b=>jL d O (fq x 2) [(224,.bool b),(226,F x.id)]) 1 x.id (o1:=.ret (.gV [])) (h1:=mR d O) (n1:=2) (afO d O x (cD (fC x.gp))) ?_ (fun b=>by kernel_rfl) dD (fun q=>⟨(aD (h0 q)).symm,rfl,rfl⟩) (fun q ch hp=>pA hp dD (U 1 q rfl) (show(1:Int)≠0 by decide))
 . repeat' (first|exact gU|refine dJ ?_ ?_)
   all_goals
    intro N;simp only[az,aF,bh,aL,bg]at N
    try exact absurd N.2 Bool.false_ne_true
   all_goals
    refine⟨by first|exact eM rfl|exact A rfl (eM rfl),DL (dy:=fun b=>jL d O (fq x 2) [(224,.bool b),(226,F x.id)]) ?_⟩;unfold b92
    first
    |(rw[N,aP];done)
    |(rw[N,aQ];done)
    |(rw[N];done)
    |(rw[N.1,N.2];done)
    |(rw[N.1,N.2];rfl)
    |(rw[N.1];rfl)
noncomputable def b93:Bool:=cD (fC x.gp)&&iM x.f
theorem bc3:bc (fq x 3) (cD (fC x.gp)) (iM x.f) (jP x.gu)=!b93 x:=by
 unfold b93;generalize cD (fC x.gp)=a;generalize iM x.f=b;generalize jP x.gu=c;cases a<;>cases b<;>cases c<;>rfl
theorem af8(hy:uq x)(U:∀e,b93 x=false->e=1->p=(e,x.id))(h0:b93 x=true->p.1=0):TG ak 2 NF (dA 13 gz) (jL d O (fq x 3) []) (RX Tryz.f93 d O p):=by
 refine Jb (rG (dA 13 gz)) (fk (afm x.f hy.eW (bH hy.cu eX)) (fk (vJ x.gp hy.gp) (be _))) (b93 x) (fun b=>jL d O (fq x 3) [(224,.bool b),(226,F x.id)]) 1 x.id (o1:=.ret (.gV [])) (h1:=mR d O) (n1:=2) (afT d O x (cD (fC x.gp)) (iM x.f)) ?_ (fun b=>by kernel_rfl) dD (fun q=>⟨(aD (h0 q)).symm,rfl,rfl⟩) (fun q ch hp=>pA hp dD (U 1 q rfl) (show(1:Int)≠0 by decide))
 . repeat' (first|exact gU|refine dJ ?_ ?_)
   all_goals
    intro N;simp only[az,aF,bh,aL,bg]at N
    try exact absurd N.2 Bool.false_ne_true
   all_goals
    refine⟨by first|exact eM rfl|exact A rfl (eM rfl),DL (dy:=fun b=>jL d O (fq x 3) [(224,.bool b),(226,F x.id)]) ?_⟩;unfold b93
    first
    |(rw[N,aP];done)
    |(rw[N,aQ];done)
    |(rw[N];done)
    |(rw[N.1,N.2];done)
    |(rw[N.1,N.2];rfl)
    |(rw[N.1];rfl)
noncomputable def b94:Bool:=cD (fC x.gp)
theorem bc4:bc (fq x 4) (cD (fC x.gp)) (iM x.f) (jP x.gu)=!b94 x:=by
 unfold b94;generalize cD (fC x.gp)=a;generalize iM x.f=b;generalize jP x.gu=c;cases a<;>cases b<;>cases c<;>rfl
theorem af9(hy:uq x)(U:∀e,b94 x=false->e=1->p=(e,x.id))(h0:b94 x=true->p.1=0):TG ak 2 NF (dA 13 gz) (jL d O (fq x 4) []) (RX Tryz.f93 d O p):=by
 refine Jb (rG (dA 13 gz)) (fk (vJ x.gp hy.gp) (be _)) (b94 x) (fun b=>jL d O (fq x 4) [(224,.bool b),(226,F x.id)]) 1 x.id (o1:=.ret (.gV [])) (h1:=mR d O) (n1:=2) (afY d O x (cD (fC x.gp))) ?_ (fun b=>by kernel_rfl) dD (fun q=>⟨(aD (h0 q)).symm,rfl,rfl⟩) (fun q ch hp=>pA hp dD (U 1 q rfl) (show(1:Int)≠0 by decide))
 . repeat' (first|exact gU|refine dJ ?_ ?_)
   all_goals
    intro N;simp only[az,aF,bh,aL,bg]at N
    try exact absurd N.2 Bool.false_ne_true
   all_goals
    refine⟨by first|exact eM rfl|exact A rfl (eM rfl),DL (dy:=fun b=>jL d O (fq x 4) [(224,.bool b),(226,F x.id)]) ?_⟩;unfold b94
    first
    |(rw[N,aP];done)
    |(rw[N,aQ];done)
    |(rw[N];done)
    |(rw[N.1,N.2];done)
    |(rw[N.1,N.2];rfl)
    |(rw[N.1];rfl)
noncomputable def b95:Bool:=cD (fC x.gp)&&jP x.gu
theorem bc5:bc (fq x 5) (cD (fC x.gp)) (iM x.f) (jP x.gu)=!b95 x:=by
 unfold b95;generalize cD (fC x.gp)=a;generalize iM x.f=b;generalize jP x.gu=c;cases a<;>cases b<;>cases c<;>rfl
theorem aga(hy:uq x)(U:∀e,b95 x=false->e=1->p=(e,x.id))(h0:b95 x=true->p.1=0):TG ak 2 NF (dA 13 gz) (jL d O (fq x 5) []) (RX Tryz.f93 d O p):=by
 refine Jb (rG (dA 13 gz)) (fk (aqj x.gu hy.gu) (fk (vJ x.gp hy.gp) (be _))) (b95 x) (fun b=>jL d O (fq x 5) [(224,.bool b),(226,F x.id)]) 1 x.id (o1:=.ret (.gV [])) (h1:=mR d O) (n1:=2) (af3 d O x (cD (fC x.gp)) (jP x.gu)) ?_ (fun b=>by kernel_rfl) dD (fun q=>⟨(aD (h0 q)).symm,rfl,rfl⟩) (fun q ch hp=>pA hp dD (U 1 q rfl) (show(1:Int)≠0 by decide))
 . repeat' (first|exact gU|refine dJ ?_ ?_)
   all_goals
    intro N;simp only[az,aF,bh,aL,bg]at N
    try exact absurd N.2 Bool.false_ne_true
   all_goals
    refine⟨by first|exact eM rfl|exact A rfl (eM rfl),DL (dy:=fun b=>jL d O (fq x 5) [(224,.bool b),(226,F x.id)]) ?_⟩;unfold b95
    first
    |(rw[N,aP];done)
    |(rw[N,aQ];done)
    |(rw[N];done)
    |(rw[N.1,N.2];done)
    |(rw[N.1,N.2];rfl)
    |(rw[N.1];rfl)
end
end
set_option maxRecDepth 10000
theorem yO(p:P7):(p.a==(0:Int)&&(p.b==(0:Int)&&(p.c==(0:Int)&&(p.d==(0:Int)&&(p.e==(0:Int)&&(p.f==(0:Int)&&(p.n==(0:Int)&&true)))))))=Ju p:=rfl
theorem yP(p:C4):(p.r==(0:Int)&&(p.g==(0:Int)&&(p.b==(0:Int)&&(p.a==(0:Int)&&true))))=Ga p:=rfl
section
variable{d:Dc}{O:List (Eng.D×Eng.D)}{p:Int×Int}
section
variable(x:eJ)
theorem agb(hy:uq x)(Y:ur x.f)(h:p=(if G5 (fq x 1)=false then 41 else if bp (fq x 1) (AR x.pl)=true then 44 else if bs d.sp.length (fq x 1)=true then 23 else if bc (fq x 1) (cD (fC x.gp)) (iM x.f) (jP x.gu)=true then 1 else 0,x.id)):TG ak 2 NF (dA 5 gz) (jL d O (fq x 1) []) (RX Tryz.f93 d O p):=by
 rw[un1,bc1]at h;refine fH 4 (be _) (afF d O x) all_nil ?_;refine kA (rG (dI (dA 9 gz))) (be _) (u51 x) (fun b=>pz d O (fq x 1) true (Ww (fq x 1)) [(161,.bool b),(163,F x.id)]) 41 x.id [0,3,4,5] (pz d O (fq x 1) true (Ww (fq x 1)) []) (afG d O x) ?_ (fun b=>by kernel_rfl) dD (fun q5=>?_) (fun q ch hp=>pA hp dD (by rw[h,q];rfl) (show(41:Int)≠0 by decide))
 . repeat' (first|exact gU|refine dJ ?_ ?_)
   all_goals
    intro N;simp only[az,aF,bh,aL,bg,yO,yP]at N;refine⟨?_,DL (dy:=(fun b=>pz d O (fq x 1) true (Ww (fq x 1)) [(161,.bool b),(163,F x.id)])) ?_⟩
    . repeat' (first|exact all_nil|refine A ?_ ?_)
      all_goals exact aI V.bool (by simp)
    . unfold u51 nN;simp only[N,aP,aQ,cz,cI]
 rw[q5]at h;have nx:tH x.f=true->TG ak 2 NF (dA 11 gz) (vY d O (fq x 1) true []) (RX Tryz.f93 d O p):=fun q6=>by
  rw[q6]at h;refine kA (rG (dI (dA 11 gz))) (fk (afD x.pl) (be _)) (AR x.pl) (fun b=>jL d O (fq x 1) [(181,.bool b),(183,F x.id)]) 44 x.id [0,3] (jL d O (fq x 1) []) (afI d O x (AR x.pl)) (dF (g0 ⟨eM rfl,rfl⟩)) (fun b=>by kernel_rfl) dD (fun q7=>?_) (fun q ch hp=>pA hp dD (by rw[h];unfold bp;rw[q];rfl) (show(44:Int)≠0 by decide));have h7:bp (fq x 1) (AR x.pl)=false:=by unfold bp;rw[q7];rfl
  rw[h7]at h;refine R1 (fq x 1) (fun e q he=>?_) fun q9=>?_
  . rw[q]at h;rw[he];exact h
  . rw[q9]at h;refine af6 x hy (fun e q he=>?_) fun q=>?_
    . rw[q]at h;rw[he];exact h
    . rw[q]at h;rw[h];rfl
 refine kA (rG (dI (dA 10 gz))) Dv (tH x.f) (fun b=>vY d O (fq x 1) true [(171,.bool b),(173,F x.id)]) 41 x.id [0,3,5] (vY d O (fq x 1) true []) (afH d O x) ?_ (fun b=>by kernel_rfl) dD nx (fun q ch hp=>pA hp dD (by rw[h,q];rfl) (show(41:Int)≠0 by decide));have e1:eG x.f.eW=eG (eH (eG x.f.eW)):=by rw[fI]
 have e2:x.f.eW.length=(eH (eG x.f.eW)).length:=by rw[fI]
 have e3:eG x.f.cu=eG (eH (eG x.f.cu)):=by rw[fI]
 have e4:x.f.cu.length=(eH (eG x.f.cu)).length:=by rw[fI]
 have e5:mM (ic ⟨x.f.k,x.f.r,eH (eG x.f.eW),x.f.dv,x.f.vl,eH (eG x.f.cu)⟩) (ic ⟨0,0,eH [],0,0,eH []⟩)=tH x.f:=by
  rw[fI,fI];exact tN x.f Y hy.eW hy.cu
 repeat' (first|exact gU|refine dJ ?_ ?_)
 all_goals
  intro N;simp only[az,aF,bh,aL,bg]at N;refine⟨?_,DL (dy:=(fun b=>vY d O (fq x 1) true [(171,.bool b),(173,F x.id)])) (by rw[<- e5];exact N)⟩
  repeat' (first|exact all_nil|refine A ?_ ?_)
  all_goals first
   |exact e1
   |exact e2
   |exact e3
   |exact e4
   |exact hy.eW
   |exact hy.cu
   |rfl
   |exact aN _
theorem agc(hy:uq x)(Y:ur x.f)(h:p=(if G5 (fq x 2)=false then 41 else if bp (fq x 2) (AR x.pl)=true then 44 else if bs d.sp.length (fq x 2)=true then 23 else if bc (fq x 2) (cD (fC x.gp)) (iM x.f) (jP x.gu)=true then 1 else 0,x.id)):TG ak 2 NF (dA 5 gz) (jL d O (fq x 2) []) (RX Tryz.f93 d O p):=by
 rw[un2,bc2]at h;refine fH 4 (be _) (afK d O x) all_nil ?_;refine kA (rG (dI (dA 9 gz))) (be _) (u52 x) (fun b=>pz d O (fq x 2) false (NY (fq x 2)) [(161,.bool b),(163,F x.id)]) 41 x.id [0,3,4,5] (pz d O (fq x 2) false (NY (fq x 2)) []) (afL d O x) ?_ (fun b=>by kernel_rfl) dD (fun q5=>?_) (fun q ch hp=>pA hp dD (by rw[h,q];rfl) (show(41:Int)≠0 by decide))
 . repeat' (first|exact gU|refine dJ ?_ ?_)
   all_goals
    intro N;simp only[az,aF,bh,aL,bg,yO,yP]at N;refine⟨?_,DL (dy:=(fun b=>pz d O (fq x 2) false (NY (fq x 2)) [(161,.bool b),(163,F x.id)])) ?_⟩
    . repeat' (first|exact all_nil|refine A ?_ ?_)
      all_goals exact aI V.bool (by simp)
    . unfold u52 nN;simp only[N,aP,aQ,cz,cI]
 rw[q5]at h;have nx:tH x.f=true->TG ak 2 NF (dA 11 gz) (vY d O (fq x 2) false []) (RX Tryz.f93 d O p):=fun q6=>by
  rw[q6]at h;refine kA (rG (dI (dA 11 gz))) (be _) (true) (fun b=>jL d O (fq x 2) [(181,.bool b),(183,F x.id)]) 44 x.id [0,3] (jL d O (fq x 2) []) (afN d O x) (dF (g0 ⟨all_nil,rfl⟩)) (fun b=>by kernel_rfl) dD (fun q7=>?_) (fun q ch hp=>absurd q eX);have h7:bp (fq x 2) (AR x.pl)=false:=by unfold bp;rfl
  rw[h7]at h;refine R1 (fq x 2) (fun e q he=>?_) fun q9=>?_
  . rw[q]at h;rw[he];exact h
  . rw[q9]at h;refine af7 x hy (fun e q he=>?_) fun q=>?_
    . rw[q]at h;rw[he];exact h
    . rw[q]at h;rw[h];rfl
 refine kA (rG (dI (dA 10 gz))) Dv (tH x.f) (fun b=>vY d O (fq x 2) false [(171,.bool b),(173,F x.id)]) 41 x.id [0,3,5] (vY d O (fq x 2) false []) (afM d O x) ?_ (fun b=>by kernel_rfl) dD nx (fun q ch hp=>pA hp dD (by rw[h,q];rfl) (show(41:Int)≠0 by decide));have e1:eG x.f.eW=eG (eH (eG x.f.eW)):=by rw[fI]
 have e2:x.f.eW.length=(eH (eG x.f.eW)).length:=by rw[fI]
 have e3:eG x.f.cu=eG (eH (eG x.f.cu)):=by rw[fI]
 have e4:x.f.cu.length=(eH (eG x.f.cu)).length:=by rw[fI]
 have e5:mM (ic ⟨x.f.k,x.f.r,eH (eG x.f.eW),x.f.dv,x.f.vl,eH (eG x.f.cu)⟩) (ic ⟨0,0,eH [],0,0,eH []⟩)=tH x.f:=by
  rw[fI,fI];exact tN x.f Y hy.eW hy.cu
 repeat' (first|exact gU|refine dJ ?_ ?_)
 all_goals
  intro N;simp only[az,aF,bh,aL,bg]at N;refine⟨?_,DL (dy:=(fun b=>vY d O (fq x 2) false [(171,.bool b),(173,F x.id)])) (by rw[<- e5];exact N)⟩
  repeat' (first|exact all_nil|refine A ?_ ?_)
  all_goals first
   |exact e1
   |exact e2
   |exact e3
   |exact e4
   |exact hy.eW
   |exact hy.cu
   |rfl
   |exact aN _
theorem agd(hy:uq x)(Y:True)(h:p=(if G5 (fq x 3)=false then 41 else if bp (fq x 3) (AR x.pl)=true then 44 else if bs d.sp.length (fq x 3)=true then 23 else if bc (fq x 3) (cD (fC x.gp)) (iM x.f) (jP x.gu)=true then 1 else 0,x.id)):TG ak 2 NF (dA 5 gz) (jL d O (fq x 3) []) (RX Tryz.f93 d O p):=by
 rw[un3,bc3]at h;refine fH 4 (be _) (afP d O x) all_nil ?_;refine kA (rG (dI (dA 9 gz))) (be _) (u53 x) (fun b=>pz d O (fq x 3) false (Wx (fq x 3)) [(161,.bool b),(163,F x.id)]) 41 x.id [0,3,4,5] (pz d O (fq x 3) false (Wx (fq x 3)) []) (afQ d O x) ?_ (fun b=>by kernel_rfl) dD (fun q5=>?_) (fun q ch hp=>pA hp dD (by rw[h,q];rfl) (show(41:Int)≠0 by decide))
 . repeat' (first|exact gU|refine dJ ?_ ?_)
   all_goals
    intro N;simp only[az,aF,bh,aL,bg,yO,yP]at N;refine⟨?_,DL (dy:=(fun b=>pz d O (fq x 3) false (Wx (fq x 3)) [(161,.bool b),(163,F x.id)])) ?_⟩
    . repeat' (first|exact all_nil|refine A ?_ ?_)
      all_goals exact aI V.bool (by simp)
    . unfold u53 nN;simp only[N,aP,aQ,cz,cI]
 rw[q5]at h;have nx:true=true->TG ak 2 NF (dA 11 gz) (vY d O (fq x 3) false []) (RX Tryz.f93 d O p):=fun q6=>by
  skip
  refine kA (rG (dI (dA 11 gz))) (be _) (true) (fun b=>jL d O (fq x 3) [(181,.bool b),(183,F x.id)]) 44 x.id [0,3] (jL d O (fq x 3) []) (afS d O x) (dF (g0 ⟨all_nil,rfl⟩)) (fun b=>by kernel_rfl) dD (fun q7=>?_) (fun q ch hp=>absurd q eX);have h7:bp (fq x 3) (AR x.pl)=false:=by unfold bp;rfl
  rw[h7]at h;refine R1 (fq x 3) (fun e q he=>?_) fun q9=>?_
  . rw[q]at h;rw[he];exact h
  . rw[q9]at h;refine af8 x hy (fun e q he=>?_) fun q=>?_
    . rw[q]at h;rw[he];exact h
    . rw[q]at h;rw[h];rfl
 refine kA (rG (dI (dA 10 gz))) Dv true (fun b=>vY d O (fq x 3) false [(171,.bool b),(173,F x.id)]) 41 x.id [0,3,5] (vY d O (fq x 3) false []) (afR d O x) (dF (g0 ⟨?_,rfl⟩)) (fun b=>by kernel_rfl) dD (fun q=>nx q) (fun q ch hp=>absurd q eX);have e1:eG x.f.eW=eG (eH (eG x.f.eW)):=by rw[fI]
 have e2:x.f.eW.length=(eH (eG x.f.eW)).length:=by rw[fI]
 have e3:eG x.f.cu=eG (eH (eG x.f.cu)):=by rw[fI]
 have e4:x.f.cu.length=(eH (eG x.f.cu)).length:=by rw[fI]
 repeat' (first|exact all_nil|refine A ?_ ?_)
 all_goals first
  |exact e1
  |exact e2
  |exact e3
  |exact e4
  |exact hy.eW
  |exact hy.cu
  |exact aI V.bool (by rw[kD];exact beq_self_eq_true _)
theorem age(hy:uq x)(Y:ur x.f)(h:p=(if G5 (fq x 4)=false then 41 else if bp (fq x 4) (AR x.pl)=true then 44 else if bs d.sp.length (fq x 4)=true then 23 else if bc (fq x 4) (cD (fC x.gp)) (iM x.f) (jP x.gu)=true then 1 else 0,x.id)):TG ak 2 NF (dA 5 gz) (jL d O (fq x 4) []) (RX Tryz.f93 d O p):=by
 rw[un4,bc4]at h;refine fH 4 (be _) (afU d O x) all_nil ?_;refine kA (rG (dI (dA 9 gz))) (be _) (u54 x) (fun b=>pz d O (fq x 4) true (Ox (fq x 4)) [(161,.bool b),(163,F x.id)]) 41 x.id [0,3,4,5] (pz d O (fq x 4) true (Ox (fq x 4)) []) (afV d O x) ?_ (fun b=>by kernel_rfl) dD (fun q5=>?_) (fun q ch hp=>pA hp dD (by rw[h,q];rfl) (show(41:Int)≠0 by decide))
 . repeat' (first|exact gU|refine dJ ?_ ?_)
   all_goals
    intro N;simp only[az,aF,bh,aL,bg,yO,yP]at N;refine⟨?_,DL (dy:=(fun b=>pz d O (fq x 4) true (Ox (fq x 4)) [(161,.bool b),(163,F x.id)])) ?_⟩
    . repeat' (first|exact all_nil|refine A ?_ ?_)
      all_goals exact aI V.bool (by simp)
    . unfold u54 nN;simp only[N,aP,aQ,cz,cI]
 rw[q5]at h;have nx:tH x.f=true->TG ak 2 NF (dA 11 gz) (vY d O (fq x 4) true []) (RX Tryz.f93 d O p):=fun q6=>by
  rw[q6]at h;refine kA (rG (dI (dA 11 gz))) (fk (afD x.pl) (be _)) (AR x.pl) (fun b=>jL d O (fq x 4) [(181,.bool b),(183,F x.id)]) 44 x.id [0,3] (jL d O (fq x 4) []) (afX d O x (AR x.pl)) (dF (g0 ⟨eM rfl,rfl⟩)) (fun b=>by kernel_rfl) dD (fun q7=>?_) (fun q ch hp=>pA hp dD (by rw[h];unfold bp;rw[q];rfl) (show(44:Int)≠0 by decide));have h7:bp (fq x 4) (AR x.pl)=false:=by unfold bp;rw[q7];rfl
  rw[h7]at h;refine R1 (fq x 4) (fun e q he=>?_) fun q9=>?_
  . rw[q]at h;rw[he];exact h
  . rw[q9]at h;refine af9 x hy (fun e q he=>?_) fun q=>?_
    . rw[q]at h;rw[he];exact h
    . rw[q]at h;rw[h];rfl
 refine kA (rG (dI (dA 10 gz))) Dv (tH x.f) (fun b=>vY d O (fq x 4) true [(171,.bool b),(173,F x.id)]) 41 x.id [0,3,5] (vY d O (fq x 4) true []) (afW d O x) ?_ (fun b=>by kernel_rfl) dD nx (fun q ch hp=>pA hp dD (by rw[h,q];rfl) (show(41:Int)≠0 by decide));have e1:eG x.f.eW=eG (eH (eG x.f.eW)):=by rw[fI]
 have e2:x.f.eW.length=(eH (eG x.f.eW)).length:=by rw[fI]
 have e3:eG x.f.cu=eG (eH (eG x.f.cu)):=by rw[fI]
 have e4:x.f.cu.length=(eH (eG x.f.cu)).length:=by rw[fI]
 have e5:mM (ic ⟨x.f.k,x.f.r,eH (eG x.f.eW),x.f.dv,x.f.vl,eH (eG x.f.cu)⟩) (ic ⟨0,0,eH [],0,0,eH []⟩)=tH x.f:=by
  rw[fI,fI];exact tN x.f Y hy.eW hy.cu
 repeat' (first|exact gU|refine dJ ?_ ?_)
 all_goals
  intro N;simp only[az,aF,bh,aL,bg]at N;refine⟨?_,DL (dy:=(fun b=>vY d O (fq x 4) true [(171,.bool b),(173,F x.id)])) (by rw[<- e5];exact N)⟩
  repeat' (first|exact all_nil|refine A ?_ ?_)
  all_goals first
   |exact e1
   |exact e2
   |exact e3
   |exact e4
   |exact hy.eW
   |exact hy.cu
   |rfl
   |exact aN _
theorem agf(hy:uq x)(Y:ur x.f)(h:p=(if G5 (fq x 5)=false then 41 else if bp (fq x 5) (AR x.pl)=true then 44 else if bs d.sp.length (fq x 5)=true then 23 else if bc (fq x 5) (cD (fC x.gp)) (iM x.f) (jP x.gu)=true then 1 else 0,x.id)):TG ak 2 NF (dA 5 gz) (jL d O (fq x 5) []) (RX Tryz.f93 d O p):=by
 rw[un5,bc5]at h;refine fH 4 (be _) (afZ d O x) all_nil ?_;refine kA (rG (dI (dA 9 gz))) (be _) (u55 x) (fun b=>pz d O (fq x 5) false (Wy (fq x 5)) [(161,.bool b),(163,F x.id)]) 41 x.id [0,3,4,5] (pz d O (fq x 5) false (Wy (fq x 5)) []) (af0 d O x) ?_ (fun b=>by kernel_rfl) dD (fun q5=>?_) (fun q ch hp=>pA hp dD (by rw[h,q];rfl) (show(41:Int)≠0 by decide))
 . repeat' (first|exact gU|refine dJ ?_ ?_)
   all_goals
    intro N;simp only[az,aF,bh,aL,bg,yO,yP]at N;refine⟨?_,DL (dy:=(fun b=>pz d O (fq x 5) false (Wy (fq x 5)) [(161,.bool b),(163,F x.id)])) ?_⟩
    . repeat' (first|exact all_nil|refine A ?_ ?_)
      all_goals exact aI V.bool (by simp)
    . unfold u55 nN;simp only[N,aP,aQ,cz,cI]
 rw[q5]at h;have nx:tH x.f=true->TG ak 2 NF (dA 11 gz) (vY d O (fq x 5) false []) (RX Tryz.f93 d O p):=fun q6=>by
  rw[q6]at h;refine kA (rG (dI (dA 11 gz))) (be _) (true) (fun b=>jL d O (fq x 5) [(181,.bool b),(183,F x.id)]) 44 x.id [0,3] (jL d O (fq x 5) []) (af2 d O x) (dF (g0 ⟨all_nil,rfl⟩)) (fun b=>by kernel_rfl) dD (fun q7=>?_) (fun q ch hp=>absurd q eX);have h7:bp (fq x 5) (AR x.pl)=false:=by unfold bp;rfl
  rw[h7]at h;refine R1 (fq x 5) (fun e q he=>?_) fun q9=>?_
  . rw[q]at h;rw[he];exact h
  . rw[q9]at h;refine aga x hy (fun e q he=>?_) fun q=>?_
    . rw[q]at h;rw[he];exact h
    . rw[q]at h;rw[h];rfl
 refine kA (rG (dI (dA 10 gz))) Dv (tH x.f) (fun b=>vY d O (fq x 5) false [(171,.bool b),(173,F x.id)]) 41 x.id [0,3,5] (vY d O (fq x 5) false []) (af1 d O x) ?_ (fun b=>by kernel_rfl) dD nx (fun q ch hp=>pA hp dD (by rw[h,q];rfl) (show(41:Int)≠0 by decide));have e1:eG x.f.eW=eG (eH (eG x.f.eW)):=by rw[fI]
 have e2:x.f.eW.length=(eH (eG x.f.eW)).length:=by rw[fI]
 have e3:eG x.f.cu=eG (eH (eG x.f.cu)):=by rw[fI]
 have e4:x.f.cu.length=(eH (eG x.f.cu)).length:=by rw[fI]
 have e5:mM (ic ⟨x.f.k,x.f.r,eH (eG x.f.eW),x.f.dv,x.f.vl,eH (eG x.f.cu)⟩) (ic ⟨0,0,eH [],0,0,eH []⟩)=tH x.f:=by
  rw[fI,fI];exact tN x.f Y hy.eW hy.cu
 repeat' (first|exact gU|refine dJ ?_ ?_)
 all_goals
  intro N;simp only[az,aF,bh,aL,bg]at N;refine⟨?_,DL (dy:=(fun b=>vY d O (fq x 5) false [(171,.bool b),(173,F x.id)])) (by rw[<- e5];exact N)⟩
  repeat' (first|exact all_nil|refine A ?_ ?_)
  all_goals first
   |exact e1
   |exact e2
   |exact e3
   |exact e4
   |exact hy.eW
   |exact hy.cu
   |rfl
   |exact aN _
theorem aar(hy:uq x)(Y:x.kd≠3->ur x.f):TG ak 2 NF gz (dB [pT,x.v] (mR d O) 2) (RX Tryz.f93 d O (vW d.sp.length x,x.id)):=by
 have h0:vW d.sp.length x=if bk x=true then 41 else if qK x.nm=false then 72 else if ba x (cD (fC x.gT))=true then 1 else if G5 x=false then 41 else if bp x (AR x.pl)=true then 44 else if bs d.sp.length x=true then 23 else if bc x (cD (fC x.gp)) (iM x.f) (jP x.gu)=true then 1 else 0:=rfl
 generalize vW d.sp.length x=e at *;refine fH 1 (be _) (aq6 d O x) all_nil ?_;refine kA (rG (dI (dA 1 gz))) (be _) (!bk x) (fun b=>jL d O x [(13,.bool b),(15,F x.id)]) 41 x.id [0,3] (jL d O x []) (aq7 d O x) ?_ (fun b=>by kernel_rfl) dD (fun q1=>?_) (fun q ch hp=>pA hp dD (by rw[h0,aD (by simpa using q)]) (show(41:Int)≠0 by decide))
 . repeat' (first|exact gU|refine dJ ?_ ?_)
   all_goals
    intro N;simp only[az,aF,bh,aL,bg,aS,bt]at N;refine⟨all_nil,DL (dy:=(fun b=>jL d O x [(13,.bool b),(15,F x.id)])) ?_⟩;unfold bk
    first
    |(rw[aV S,aV S];rfl)
    |(rw[aV S,aT S];rfl)
    |(rw[aT S];rfl)
 have q1:bk x=false:=by simpa using q1
 rw[aA (by rw[q1];decide)]at h0;refine kA (rG (dI (dA 2 gz))) (fk (UU x.nm) (be _)) (qK x.nm) (fun b=>jL d O x [(19,.bool b),(21,F x.id)]) 72 x.id [0,3] (jL d O x []) (aq8 d O x (qK x.nm)) (dF (g0 ⟨eM rfl,rfl⟩)) (fun b=>by kernel_rfl) dD (fun q2=>?_) (fun q ch hp=>pA hp dD (by rw[h0,aD q]) (show(72:Int)≠0 by decide));rw[aA (by rw[q2];decide),af5]at h0;refine kA (rG (dI (dA 3 gz))) (be _) (opB x) (fun b=>jL d O x [(40,.bool b),(42,F x.id)]) 1 x.id [0,3] (jL d O x []) (aq9 d O x) ?_ (fun b=>by kernel_rfl) dD (fun q3=>?_) (fun q ch hp=>pA hp dD (by rw[h0,aD (by rw[q];rfl)]) (show(1:Int)≠0 by decide))
 . repeat' (first|exact gU|refine dJ ?_ ?_)
   all_goals
    intro N;simp only[az,aF,bh,aL,bg,aS,bt]at N;refine⟨all_nil,DL (dy:=(fun b=>jL d O x [(40,.bool b),(42,F x.id)])) ?_⟩;unfold opB
    first
    |(rw[aV S,aV S,aV S,aV S];rfl)
    |(rw[aV S,aV S,aV S,aT S];rfl)
    |(rw[aV S,aV S,aT S];rfl)
    |(rw[aV S,aT S];rfl)
    |(rw[aT S];rfl)
 refine kA (rG (dI (dA 4 gz))) (fk (vJ x.gT hy.gT) (be _)) (mkB x (cD (fC x.gT))) (fun b=>jL d O x [(57,.bool b),(59,F x.id)]) 1 x.id [0,3] (jL d O x []) (ara d O x (cD (fC x.gT))) ?_ (fun b=>by kernel_rfl) dD (fun q4=>?_) (fun q ch hp=>pA hp dD (by rw[h0,aD (by rw[q,cI];rfl)]) (show(1:Int)≠0 by decide))
 . repeat' (first|exact gU|refine dJ ?_ ?_)
   all_goals
    intro N;simp only[az,aF,bh,aL,bg]at N;refine⟨eM rfl,DL (dy:=(fun b=>jL d O x [(57,.bool b),(59,F x.id)])) ?_⟩;unfold mkB nN;simp only[N,aP,aQ,bU,bR]
 rw[aA (by rw[q3,q4];decide)]at h0;have U:x.kd=1\/x.kd=2\/x.kd=3\/x.kd=4\/x.kd=5:=by
  unfold bk at q1;rw[cE,bt,bt]at q1;omega
 have De:∀k,x.kd=k->x=fq x k:=fun k h=>by obtain⟨a,b⟩:=x;simp only at h;subst h;rfl
 rcases U with h|h|h|h|h
 . have ex:=De 1 h;have:=agb (d:=d) (O:=O) (p:=(e,x.id)) x hy (Y S) (by rw[<- ex];exact aI (fun z=>(z,x.id)) h0);rw[<- ex]at this;exact this
 . have ex:=De 2 h;have:=agc (d:=d) (O:=O) (p:=(e,x.id)) x hy (Y S) (by rw[<- ex];exact aI (fun z=>(z,x.id)) h0);rw[<- ex]at this;exact this
 . have ex:=De 3 h;have:=agd (d:=d) (O:=O) (p:=(e,x.id)) x hy trivial (by rw[<- ex];exact aI (fun z=>(z,x.id)) h0);rw[<- ex]at this;exact this
 . have ex:=De 4 h;have:=age (d:=d) (O:=O) (p:=(e,x.id)) x hy (Y S) (by rw[<- ex];exact aI (fun z=>(z,x.id)) h0);rw[<- ex]at this;exact this
 . have ex:=De 5 h;have:=agf (d:=d) (O:=O) (p:=(e,x.id)) x hy (Y S) (by rw[<- ex];exact aI (fun z=>(z,x.id)) h0);rw[<- ex]at this;exact this
end
end
theorem Jj(d:Dc)(O:List (Eng.D×Eng.D))(x:eJ)(hy:uq x)(Y:x.kd≠3->ur x.f):RZ 93 [x.v] d O (vW d.sp.length x,x.id):=Wz Tryz.func93 (aar x hy Y)
set_option maxRecDepth 10000
noncomputable abbrev NZ:Code:=dL Tryz.f94
noncomputable abbrev aas:Code:=dI (dA 1 NZ)
noncomputable abbrev aat:Code:=dK (dK (dY aas))
noncomputable abbrev agh:Code:=dK (dI (dA 2 aat))
noncomputable abbrev arc:Code:=dK (dK (dA 2 agh))
noncomputable abbrev aau:Code:=dI (dA 2 NZ)
noncomputable abbrev UX:Code:=dK (dK (dY aau))
noncomputable abbrev N0:Code:=dK (dI (dA 2 UX))
noncomputable abbrev agi:Code:=dI (dA 1 N0)
noncomputable abbrev aav:Code:=dK (dK (dY agi))
noncomputable abbrev aaw:Code:=dK (dI (dA 2 aav))
noncomputable abbrev UY:Code:=dK (dK (dA 4 NZ))
noncomputable abbrev Jk:Code:=dK (dI (dA 2 UY))
def hLq(d:Dc)(O cn:List (Eng.D×Eng.D))(q:af):I es:=hL ([(0,.cells (d.cs++[.map (some 1)])),(1,.gM (some .i64) O),(2,.gM (some .i64) cn)]++q)
def vZ(d:Dc)(O cn:List (Eng.D×Eng.D))(r:List (Nat×V)):St:=fB ([(0,pT),(2,.map (some 2))]++r) (hLq d O cn []) 3
def DM(d:Dc)(O cn:List (Eng.D×Eng.D))(x:eJ)(r:List (Nat×V)):St:=fB ([(0,pT),(2,.map (some 2)),(8,.ptr (some (3,0)))]++r) (hLq d O cn [(3,.cells x.cs)]) 4
def G9(d:Dc)(O:List (Eng.D×Eng.D))(r:List (Nat×V)):St:=fB ([(0,pT)]++r) (mR d O) 2
def sLt(d:Dc)(O:List (Eng.D×Eng.D))(x:eJ)(r:List (Nat×V)):St:=fB ([(0,pT),(15,.ptr (some (2,0)))]++r) (hL [(0,.cells (d.cs++[.map (some 1)])),(1,.gM (some .i64) O),(2,.cells x.cs)]) 3
def sLv(d:Dc)(O:List (Eng.D×Eng.D))(x:eJ)(u:ag)(r:List (Nat×V)):St:=fB ([(0,pT),(15,.ptr (some (2,0))),(16,.ptr (some (3,0)))]++r) (hL [(0,.cells (d.cs++[.map (some 1)])),(1,.gM (some .i64) O),(2,.cells x.cs),(3,.cells u)]) 4
abbrev kr(d:Dc)(a b c:Nat)(i:Nat):List (Nat×V):=[(a,.eE false d.ly.length (fD d.ly)),(b,L d.ly.length),(c,L i)]
abbrev Ee(x:eJ)(a b c:Nat)(j:Nat):List (Nat×V):=[(a,fF x.kids),(b,L x.kids.length),(c,L j)]
abbrev GG(k c:Int)(cn:List (Eng.D×Eng.D)):List (Eng.D×Eng.D):=nI (.int .i64 k) (.int .i64 c) cn
theorem ard(d:Dc)(O:List (Eng.D×Eng.D)):H (M ek []) [] 2 Tryz.f94 [0,2] (dU 1 NZ) (dB [pT] (mR d O) 2) [([],[],eu (fB [(0,pT),(2,.map (some 2))] (hL [(0,.cells (d.cs++[.map (some 1)])),(1,.gM (some .i64) O),(2,.map [] 0)]) 3))]:=G.W
theorem are(d:Dc)(O cn:List (Eng.D×Eng.D)):H (M ek []) [] 2 Tryz.f94 [0,2,23,24,25] (dI aas) (vZ d O cn []) [([],[],eu (vZ d O cn (kr d 23 24 25 0)))]:=G.W
theorem arf(d:Dc)(O cn:List (Eng.D×Eng.D))(i:Nat):H (M ek []) [(26,.split)] 2 Tryz.f94 [0,2,23,24,25] (dU 2 aat) (vZ d O cn (kr d 23 24 25 i)) (fP (decide (Int.ofNat i<Int.ofNat d.ly.length)) ([],eu (vZ d O cn (kr d 23 24 25 i))) ([],.to (.exit 0) (vZ d O cn (kr d 23 24 25 i)))):=G.W
theorem arh(d:Dc)(O cn:List (Eng.D×Eng.D))(i:Nat)(x:eJ):H (M ek []) [(27,.dG (.dS x.ds))] 2 Tryz.f94 [0,2,23,24,25,30,31,32] (dU 2 agh) (vZ d O cn (kr d 23 24 25 i)) [([],[fR i d.ly.length,nE d.ly,gG (fD d.ly) i 31 x.ds],eu (vZ d O cn (kr d 23 24 25 i++Ee x 30 31 32 0)))]:=G.W
theorem ari(d:Dc)(O cn:List (Eng.D×Eng.D))(i j:Nat)(x:eJ)(k c c2:Int):H (M ek []) [(33,.split),(34,.dG (.dS [.int .i64 k])),(38,.dG (F c)),(39,.dG (F c2)),(40,.dG (L (j+1)))] 2 Tryz.f94 [0,2,23,24,25,30,31,32] (arc) (vZ d O cn (kr d 23 24 25 i++Ee x 30 31 32 j)) (fP (decide (Int.ofNat j<Int.ofNat x.kids.length)) ([fR j x.kids.length,jC x.kids,gG (eG x.kids) j 1 [D.int B k],(if false=true then V.gV [D.kJ (V.int B (0:Int)) (fG (D.int B k) cn),V.bool (fG (D.int B k) cn).isSome]else D.kJ (V.int B (0:Int)) (fG (D.int B k) cn))=F c,V.int B (IntKind.i64.wrap (c+(1:Int)))=F c2,oH j],eu (vZ d O (GG k c2 cn) (kr d 23 24 25 i++Ee x 30 31 32 (j+1)))) ([],.to (.exit 2) (vZ d O cn (kr d 23 24 25 i++Ee x 30 31 32 j)))):=G.W
theorem arj(d:Dc)(O cn:List (Eng.D×Eng.D))(i j:Nat)(x:eJ):H (M ek []) [(41,.dG (L (i+1)))] 2 Tryz.f94 [0,2,23,24,25] (dA 3 aat) (vZ d O cn (kr d 23 24 25 i++Ee x 30 31 32 j)) [([],[oH i],eu (vZ d O cn (kr d 23 24 25 (i+1))))]:=G.W
theorem ark(d:Dc)(O cn:List (Eng.D×Eng.D)):H (M ek []) [] 2 Tryz.f94 [0,2,46,47,48] (dI aau) (vZ d O cn []) [([],[],eu (vZ d O cn (kr d 46 47 48 0)))]:=G.W
theorem arl(d:Dc)(O cn:List (Eng.D×Eng.D))(i:Nat):H (M ek []) [(49,.split)] 2 Tryz.f94 [0,2,46,47,48] (dU 2 UX) (vZ d O cn (kr d 46 47 48 i)) (fP (decide (Int.ofNat i<Int.ofNat d.ly.length)) ([],eu (vZ d O cn (kr d 46 47 48 i))) ([],.to (.exit 4) (vZ d O cn (kr d 46 47 48 i)))):=G.W
theorem arn(d:Dc)(O cn:List (Eng.D×Eng.D))(i:Nat)(x:eJ):H (M ek []) [(50,.dG (.dS x.ds))] 2 Tryz.f94 [0,2,8,46,47,48] (dU 1 N0) (vZ d O cn (kr d 46 47 48 i)) [([],[fR i d.ly.length,nE d.ly,gG (fD d.ly) i 31 x.ds],eu (DM d O cn x (kr d 46 47 48 i)))]:=G.W
theorem aro(d:Dc)(O cn:List (Eng.D×Eng.D))(i:Nat)(x:eJ):H (M ek []) [] 2 Tryz.f94 [0,2,8,46,47,48,53,54,55] (dI agi) (DM d O cn x (kr d 46 47 48 i)) [([],[],eu (DM d O cn x (kr d 46 47 48 i++Ee x 53 54 55 0)))]:=G.W
theorem arp(d:Dc)(O cn:List (Eng.D×Eng.D))(i j:Nat)(x:eJ):H (M ek []) [(56,.split)] 2 Tryz.f94 [0,2,8,46,47,48,53,54,55] (dU 2 aav) (DM d O cn x (kr d 46 47 48 i++Ee x 53 54 55 j)) (fP (decide (Int.ofNat j<Int.ofNat x.kids.length)) ([],eu (DM d O cn x (kr d 46 47 48 i++Ee x 53 54 55 j))) ([],.to (.exit 6) (DM d O cn x (kr d 46 47 48 i++Ee x 53 54 55 j)))):=G.W
theorem arq(d:Dc)(O cn:List (Eng.D×Eng.D))(i j:Nat)(x:eJ)(k n:Int)(b:Bool):H (M ek []) [(57,.dG (.dS [.int .i64 k])),(65,.dG (.gV [F n,.bool b]))] 2 Tryz.f94 [0,2,8,46,47,48,53,54,55,12] (dU 2 aaw) (DM d O cn x (kr d 46 47 48 i++Ee x 53 54 55 j)) [([],[fR j x.kids.length,jC x.kids,gG (eG x.kids) j 1 [D.int B k],(if true=true then V.gV [D.kJ (V.int B (0:Int)) (fG (D.int B k) O),V.bool (fG (D.int B k) O).isSome]else D.kJ (V.int B (0:Int)) (fG (D.int B k) O))=V.gV [F n,V.bool b]],eu (DM d O cn x (kr d 46 47 48 i++Ee x 53 54 55 j++[(12,.bool b)])))]:=G.W
theorem ars(d:Dc)(O cn:List (Eng.D×Eng.D))(i j:Nat)(x:eJ)(b:Bool):H (M ek []) [] 2 Tryz.f94 [0,2,8,46,47,48,53,54,55,68,70] (kG (dA 2 aaw)) (DM d O cn x (kr d 46 47 48 i++Ee x 53 54 55 j++[(12,.bool b)])) [([],[],eu (DM d O cn x (kr d 46 47 48 i++Ee x 53 54 55 j++[(68,.bool b),(70,F x.id)])))]:=G.W
theorem art(d:Dc)(O cn:List (Eng.D×Eng.D))(i j:Nat)(x:eJ):H (M ek []) [(72,.dG (L (j+1)))] 2 Tryz.f94 [0,2,8,46,47,48,53,54,55] (dA 3 aav) (DM d O cn x (kr d 46 47 48 i++Ee x 53 54 55 j)) [([],[oH j],eu (DM d O cn x (kr d 46 47 48 i++Ee x 53 54 55 (j+1))))]:=G.W
theorem aru(d:Dc)(O cn:List (Eng.D×Eng.D))(i j:Nat)(x:eJ):H (M ek []) [(80,.split)] 2 Tryz.f94 [0,2,8,13,46,47,48] (dU 2 (dA 2 N0)) (DM d O cn x (kr d 46 47 48 i++Ee x 53 54 55 j)) (fP (x.id==d.root) ([],eu (DM d O cn x ((13,F 0)::kr d 46 47 48 i))) ([],eu (DM d O cn x ((13,F 1)::kr d 46 47 48 i)))):=G.W
theorem arv(d:Dc)(O cn:List (Eng.D×Eng.D))(i:Nat)(x:eJ)(w c:Int):H (M ek []) [(84,.dG (F c))] 2 Tryz.f94 [0,2,8,46,47,48,86,88] (kG (dA 4 N0)) (DM d O cn x ((13,F w)::kr d 46 47 48 i)) [([],[(if false=true then V.gV [D.kJ (V.int B (0:Int)) (fG (D.int B x.id) cn),V.bool (fG (D.int B x.id) cn).isSome]else D.kJ (V.int B (0:Int)) (fG (D.int B x.id) cn))=F c],eu (DM d O cn x (kr d 46 47 48 i++[(86,.bool (c==w)),(88,F x.id)])))]:=G.W
theorem arw(d:Dc)(O cn:List (Eng.D×Eng.D))(i:Nat):H (M ek []) [(90,.dG (L (i+1)))] 2 Tryz.f94 [0,2,46,47,48] (dA 3 UX) (vZ d O cn (kr d 46 47 48 i)) [([],[oH i],eu (vZ d O cn (kr d 46 47 48 (i+1))))]:=G.W
theorem arx(d:Dc)(O cn:List (Eng.D×Eng.D))(i:Nat):H (M ek []) [] 2 Tryz.f94 [0,95,96,97] (dU 1 (dA 3 NZ)) (vZ d O cn []) [([],[],eu (G9 d O (kr d 95 96 97 0)))]:=G.W
theorem ary(d:Dc)(O:List (Eng.D×Eng.D))(i:Nat):H (M ek []) [(98,.split)] 2 Tryz.f94 [0,95,96,97] (dU 2 UY) (G9 d O (kr d 95 96 97 i)) (fP (decide (Int.ofNat i<Int.ofNat d.ly.length)) ([],eu (G9 d O (kr d 95 96 97 i))) ([],.to (.exit 8) (G9 d O (kr d 95 96 97 i)))):=G.W
theorem arz(d:Dc)(O:List (Eng.D×Eng.D))(i:Nat)(x:eJ):H (M ek []) [(99,.dG (.dS x.ds)),(103,.split)] 2 Tryz.f94 [0,15,95,96,97,103] (dU 2 Jk) (G9 d O (kr d 95 96 97 i)) (fP (x.kd==(4:Int)) ([fR i d.ly.length,nE d.ly,gG (fD d.ly) i 31 x.ds],eu (sLt d O x (kr d 95 96 97 i++[(103,.bool true)]))) ([fR i d.ly.length,nE d.ly,gG (fD d.ly) i 31 x.ds],eu (sLt d O x (kr d 95 96 97 i++[(103,.bool false)])))):=G.W
theorem arA(d:Dc)(O:List (Eng.D×Eng.D))(i:Nat)(x y:eJ):H (M (xq 44 [F x.of] d O (.gV [y.v,.bool true]) ek) []) [] 2 Tryz.f94 [0,15,16,17,95,96,97] (dU 1 (lF (dA 2 Jk))) (sLt d O x (kr d 95 96 97 i++[(103,.bool true)])) [([],[[V.ptr (some (0,0)),V.int B x.of]=[pT,F x.of],(I.nil.set 0 (some (es.cells [V.eE false d.sp.length (jy d.sp),V.int B d.root,V.int B d.nx,V.eE false d.ly.length (fD d.ly),V.map (some 1)]))).set 1 (some (es.gM (some B) O))=mR d O,2=2],eu (sLv d O x y.cs (kr d 95 96 97 i++[(17,.bool true)])))]:=G.W
theorem arB(d:Dc)(O:List (Eng.D×Eng.D))(i:Nat)(x:eJ):H (M (xq 44 [F x.of] d O (.gV [Zw,.bool false]) ek) []) [] 2 Tryz.f94 [0,15,16,17,95,96,97] (dU 1 (lF (dA 2 Jk))) (sLt d O x (kr d 95 96 97 i++[(103,.bool true)])) [([],[[V.ptr (some (0,0)),V.int B x.of]=[pT,F x.of],(I.nil.set 0 (some (es.cells [V.eE false d.sp.length (jy d.sp),V.int B d.root,V.int B d.nx,V.eE false d.ly.length (fD d.ly),V.map (some 1)]))).set 1 (some (es.gM (some B) O))=mR d O,2=2],eu (sLv d O x (On 0 0 z7 0) (kr d 95 96 97 i++[(17,.bool false)])))]:=G.W
theorem arC(d:Dc)(O:List (Eng.D×Eng.D))(i:Nat)(x y:eJ):H (M ek []) [(115,.split)] 2 Tryz.f94 [0,95,96,97,116,118] (kG (dA 1 (lF (dA 2 Jk)))) (sLv d O x y.cs (kr d 95 96 97 i++[(17,.bool true)])) (fP (y.kd !=(3:Int)) ([],eu (G9 d O (kr d 95 96 97 i++[(116,.bool true),(118,F x.id)]))) ([],eu (G9 d O (kr d 95 96 97 i++[(116,.bool false),(118,F x.id)])))):=G.W
theorem arD(d:Dc)(O:List (Eng.D×Eng.D))(i:Nat)(x:eJ):H (M ek []) [] 2 Tryz.f94 [0,95,96,97,116,118] (kG (dA 1 (lF (dA 2 Jk)))) (sLv d O x (On 0 0 z7 0) (kr d 95 96 97 i++[(17,.bool false)])) [([],[],eu (G9 d O (kr d 95 96 97 i++[(116,.bool false),(118,F x.id)])))]:=G.W
theorem arE(d:Dc)(O:List (Eng.D×Eng.D))(i:Nat)(x:eJ):H (M ek []) [] 2 Tryz.f94 [0,95,96,97] (oy (dA 2 Jk)) (sLt d O x (kr d 95 96 97 i++[(103,.bool false)])) [([],[],eu (G9 d O (kr d 95 96 97 i)))]:=G.W
theorem arF(d:Dc)(O:List (Eng.D×Eng.D))(i:Nat):H (M ek []) [(120,.dG (L (i+1)))] 2 Tryz.f94 [0,95,96,97] (dA 3 UY) (G9 d O (kr d 95 96 97 i)) [([],[oH i],eu (G9 d O (kr d 95 96 97 (i+1))))]:=G.W
set_option maxRecDepth 10000
section
variable{X hc:Nat}{c:Code}{s:St}{Q:Exit->St->Prop}{dP:gJ}{hh:List (Nat×List (Nat×mj))}{dz:List (Nat×mj)}{fn:Func}{live:List Nat}{dx:List (List (Bool×Bool)×ah×jU)}
theorem jY(k:Nat)(n0:fe ak dP)(s':V->I es->Nat->Prop)(hr:H (M dP hh) dz X fn live (dU k c) s dx)(h:∀g∈dx,(∀b∈g.1,b.1=b.2)->(∀a∈g.2.1,a)/\SqQ ak X hc fn live s' (dA k c) Q g.2.2)(N:eV hc c=true:=by kernel_rfl):TG ak X hc c s Q:=by
 obtain⟨iW,hr⟩:=hr;obtain⟨e1,e2,e3⟩:=hr.parts;obtain⟨l,hl⟩:=bI.1 e1;unfold vP yn at e2;unfold Bg at e3;rw[hl]at e2 e3;simp only[wu]at e2 e3;obtain⟨⟨p,hp,ho⟩,C⟩:=jN ak (XH n0 hh).cs (XH n0 hh).cf dz (XH n0 hh).snd 1000 (dU k c) s l hl;obtain⟨hA,hT⟩:=h (p.1.conds,p.1.Om,qm ak X fn live p.2) (e3▸n5 hp) ho;have gx:=C p hp ho ⟨tu l e2 p hp,hA⟩;obtain⟨pp,x,R⟩:=p;simp only[qm]at hT;cases x with
 |normal=>
  simp only at hT;split at hT
  . rename_i s2 vQ;exact yo (iX:=1000) (XH n0 hh).ok mo k N gx (fQ vQ hT)
  . exact hT.elim
 |ret=>
  simp only at hT;split at hT
  . rename_i v h' n' JM;exact qG (iX:=1000) (XH n0 hh).ok mo N (zU k c s _ R gx (by intro q;cases q)) rfl (hT.2 R ⟨.inr rfl,v,h',n',JM,hT.1⟩)
  . exact hT.elim
 |exit i=>
  simp only at hT;split at hT
  . rename_i s2 vQ;exact qG (iX:=1000) (XH n0 hh).ok mo N (zU k c s _ R gx (by intro q;cases q)) rfl (hT R vQ)
  . exact hT.elim
 |panic _=>exact hT.elim
end
def He(cn:Sn)(k:Int):Int:=match fG (.int .i64 k) cn with
 |some (.int .i64 n)=>n
 |_=>0
def Lg(cn:Sn):Prop:=∀k v,fG (.int .i64 k) cn=some v->∃n,v= .int .i64 n
def GH(cn:Sn)(ks:List Int):Sn:=ks.foldl (fun c k=>GG k (He c k+1) c) cn
def Lh(ls:List eJ):Sn:=GH [] (lH ls)
theorem UZ(k y c:Int)(cn:Sn):He (GG y c cn) k=if k=y then c else He cn k:=by
 unfold He GG;rw[sD];by_cases q:k=y
 . rw[aD q,aD q]
 . rw[aA q,aA q]
theorem R2{cn:Sn}(h:Lg cn)(y c:Int):Lg (GG y c cn):=fun k v e=>by
 unfold GG at e;rw[sD]at e;split at e
 . exact⟨c,(dn e).symm⟩
 . exact h k v e
theorem GI:∀(ks:List Int) (cn:Sn),Lg cn->Lg (GH cn ks)/\∀k,He (GH cn ks) k=He cn k+(ks.count k:Int)
 | [],cn,h=>⟨h,fun k=>by rw[List.count_nil];simp[GH]⟩
 |y::ks,cn,h=>by
  obtain⟨h1,C⟩:=GI ks (GG y (He cn y+1) cn) (R2 h _ _);refine⟨h1,fun k=>?_⟩;have e:GH cn (y::ks)=GH (GG y (He cn y+1) cn) ks:=rfl;rw[e,C,UZ,List.count_cons];by_cases q:k=y
  . subst q;simp;omega
  . rw[aA q];have:(y==k)=false:=by simpa using fun e=>q e.symm
    rw[this];simp
theorem arG:Lg []:=fun _ _ e=>by cases e
theorem GJ(ls:List eJ):Lg (Lh ls)/\∀k,He (Lh ls) k=(mc ls k:Int):=by
 obtain⟨h1,C⟩:=GI (lH ls) [] arG;refine⟨h1,fun k=>?_⟩;have:=C k;rw[BD];have e:He [] k=0:=rfl;rw[e,Int.zero_add]at this;exact this
theorem Mr{cn:Sn}(h:Lg cn)(k:Int):(if false=true then V.gV [D.kJ (V.int B (0:Int)) (fG (D.int B k) cn),V.bool (fG (D.int B k) cn).isSome]else D.kJ (V.int B (0:Int)) (fG (D.int B k) cn))=F (He cn k):=by
 unfold He;cases e:fG (.int .i64 k) cn with
 |none=>rfl
 |some v=>
  obtain⟨n,rfl⟩:=h k v e;rfl
theorem Li{ls:List eJ}{i:Nat}(h:i<ls.length):lH (ls.take (i+1))=lH (ls.take i)++(ls.getD i gv).kids:=by
 unfold lH;rw[bY,getD_some gv h,Option.toList_some,bM,List.flatten_append];simp
theorem Ms(cn:Sn)(a b:List Int):GH cn (a++b)=GH (GH cn a) b:=by unfold GH;rw[List.foldl_append]
theorem R3(cn:Sn){ks:List Int}{j:Nat}(h:j<ks.length):GH cn (ks.take (j+1))=GG (ks.getD j 0) (He (GH cn (ks.take j)) (ks.getD j 0)+1) (GH cn (ks.take j)):=by
 rw[bY,getD_some 0 h,Option.toList_some,Ms];rfl
theorem U0{d:Dc}{i:Nat}(h:i<d.ly.length):Lh (d.ly.take (i+1))=GH (Lh (d.ly.take i)) (d.at i).kids:=by
 unfold Lh;rw[Li h,Ms];rfl
def oZ(d:Dc):Int×Int:=match lQ (BE d) d.ly.length with
 |some i=>(40,(d.at i).id)
 |none=>match lQ (Ae d) d.ly.length with
  |some i=>(40,(d.at i).id)
  |none=>(0,0)
section
variable{d:Dc}{O:Sn}
noncomputable abbrev NL:Nat:=Tryz.f94.ntmps
theorem agk(hd:IP d)(h40:d.ly.length<=1000){Q:Exit->St->Prop}(hQ:∀R,ew ak 2 NL R (vZ d O (Lh d.ly) [])->Q .normal R):TG ak 2 NL aas (vZ d O [] []) Q:=by
 have AS:=hd.ly;refine dM dD (gk (be _) eI (are d O []) (dF (g0 ⟨all_nil,fun R dX=>?_⟩)));simp only[andThen];refine iz 0 d.ly.length (fun i=>vZ d O (Lh (d.ly.take i)) (kr d 23 24 25 i)) (fun _=>false) (ew.norm dX) (fun i hi hj Q' k1 k2 k3=>?_) (fun h1 R dX=>hQ R ?_)
 . refine jY 2 (be _) eI (arf d O _ i) (dJ (g1 fun h=>⟨all_nil,?_⟩) (dF (g1 fun h=>⟨all_nil,fun R dX=>k2 (by have:=qZ h;omega) R (ew.norm dX)⟩)));have q:=j9 h;have hA:V.dS (dO (fD d.ly) (i*31) 31)= .dS (d.at i).ds:=iu q;have U:=hd.at q;change (d.at i).kids.length<=1000000 at U;have C3:=U0 q;have hbd:∀k,0<=He (Lh (d.ly.take i)) k/\He (Lh (d.ly.take i)) k<=1000000000:=fun k=>by
    rw[(GJ _).2];have:=Ge (d.ly.take i) k fun l hl=>hd.kids l (cN hl);rw[aW]at this;have:mc (d.ly.take i) k<=1000*1000000:=bH this (cM _ S);omega
   have hI:=(GJ (d.ly.take i)).1;generalize Lh (d.ly.take i)=cn at *;generalize d.at i=x at *;refine dM dD (fL (i:=1) dD ?_);refine jY 2 (be _) eI (arh d O cn i x) (dF (g0 ⟨A (iT q) (A (fE _) (eM hA)),?_⟩));refine iz 2 x.kids.length (fun j=>vZ d O (GH cn (x.kids.take j)) (kr d 23 24 25 i++Ee x 30 31 32 j)) (fun _=>false) .refl (fun j hj hjj Q2 m1 m2 m3=>?_) (fun h1 R dX=>?_)
   . have hI2:=(GI (x.kids.take j) cn hI).1;have Xx:=(GI (x.kids.take j) cn hI).2 (x.kids.getD j 0);have xB:(x.kids.take j).count (x.kids.getD j 0)<=1000000:=bH List.count_le_length (by rw[aW];omega);have Oh:=hbd (x.kids.getD j 0);refine gk (be _) eI (ari d O (GH cn (x.kids.take j)) i j x (x.kids.getD j 0) (He (GH cn (x.kids.take j)) (x.kids.getD j 0)) (He (GH cn (x.kids.take j)) (x.kids.getD j 0)+1)) (dJ (g1 fun h=>?_) (dF (g1 fun h=>⟨all_nil,fun R dX=>m2 (by have:=qZ h;omega) R (ew.norm dX)⟩)));have q2:=j9 h;refine⟨A (iT q2) (A (eK _) (A (gi q2) (A (Mr hI2 _) (A (aI (V.int .i64) (ij ?_ ?_)) (eM (gK S)))))),fun R dX=>m1 q2 rfl R ?_⟩
     . omega
     . omega
     . show ew _ _ _ _ (vZ d O (GH cn (x.kids.take (j+1))) (kr d 23 24 25 i++Ee x 30 31 32 (j+1)));rw[R3 cn q2];exact ew.norm dX
   . simp only[gZ,andThen];rw[bn]at dX;refine dX _ _ (gk (be _) eI (arj d O _ i _ x) (dF (g0 ⟨eM (gK S),fun R dX=>k1 q rfl R ?_⟩)));show ew _ _ _ _ (vZ d O (Lh (d.ly.take (i+1))) (kr d 23 24 25 (i+1)));rw[C3];exact ew.norm dX
 . rw[bn]at dX;refine dX.trans ?_;exact .norm (live:=[0,2]) dD
theorem aax{i:Nat}(hi:i<d.ly.length)(h:BE d i=true)(hj:∀j,j<i->BE d j=false):oZ d=(40,(d.at i).id):=by
 unfold oZ;rw[jq hi h hj]
theorem aay{i:Nat}(hi:i<d.ly.length)(C:∀j,j<d.ly.length->BE d j=false)(h:Ae d i=true)(hj:∀j,j<i->Ae d j=false):oZ d=(40,(d.at i).id):=by
 unfold oZ;rw[gL C];simp only;rw[jq hi h hj]
theorem agl(J:Dn d O)(hd:IP d)(h40:d.ly.length<=1000){Q:Exit->St->Prop}(hp:∀ch R,RX Tryz.f94 d O (oZ d) (.panic ch) R->Q (.panic ch) R)(hQ:(∀j,j<d.ly.length->BE d j=false)->∀R,lY 2 NL R (vZ d O (Lh d.ly) [])->Q .normal R):TG ak 2 NL aau (vZ d O (Lh d.ly) []) Q:=by
 have AS:=hd.ly;have hI:=(GJ d.ly).1;have hC:=(GJ d.ly).2;generalize Lh d.ly=cn at *;refine dM dD (gk (be _) eI (ark d O cn) (dF (g0 ⟨all_nil,fun R dX=>?_⟩)));simp only[andThen];refine Ak 4 d.ly.length (fun i=>vZ d O cn (kr d 46 47 48 i)) (BE d) (lY.norm dX) (fun i hi hj Q' k1 k2 k3=>?_) (fun h1 R dX=>hQ h1 R (dX.trans (lY.norm (iW:=[0,2]) dD)));refine jY 2 (be _) eI (arl d O cn i) (dJ (g1 fun h=>⟨all_nil,?_⟩) (dF (g1 fun h=>⟨all_nil,fun R dX=>k2 (by have:=qZ h;omega) R (lY.norm dX)⟩)));have q:=j9 h;have hA:V.dS (dO (fD d.ly) (i*31) 31)= .dS (d.at i).ds:=iu q;have U:=hd.at q;change (d.at i).kids.length<=1000000 at U;have ht:BE d i=!rq d (d.at i):=rfl;have vj:BE d i=true->oZ d=(40,(d.at i).id):=fun h=>aax q h hj;generalize d.at i=x at *;refine dM dD (fL (i:=5) dD ?_);refine jY 1 (be _) eI (arn d O cn i x) (dF (g0 ⟨A (iT q) (A (fE _) (eM hA)),?_⟩));refine dM dD ?_;refine dM dD (gk (be _) eI (aro d O cn i x) (dF (g0 ⟨all_nil,fun R dX=>?_⟩)));simp only[andThen];refine Ak 6 x.kids.length (fun j=>DM d O cn x (kr d 46 47 48 i++Ee x 53 54 55 j)) (fun j=>(jK d.ly (x.kids.getD j 0)).isNone) (lY.norm dX) (fun j hj hjj Q2 m1 m2 m3=>?_) (fun h1 R dX=>?_)
 . refine jY 2 (be _) eI (arp d O cn i j x) (dJ (g1 fun h=>⟨all_nil,?_⟩) (dF (g1 fun h=>⟨all_nil,fun R dX=>m2 (by have:=qZ h;omega) R (lY.norm dX)⟩)));have q2:=j9 h;refine dM dD (fL (i:=7) dD ?_);have hlk:∃n,(if true=true then V.gV [D.kJ (V.int B (0:Int)) (fG (D.int B (x.kids.getD j 0)) O),V.bool (fG (D.int B (x.kids.getD j 0)) O).isSome]else D.kJ (V.int B (0:Int)) (fG (D.int B (x.kids.getD j 0)) O))= .gV [F n,.bool (jK d.ly (x.kids.getD j 0)).isSome]:=by
    rw[J (x.kids.getD j 0)];cases jK d.ly (x.kids.getD j 0)with
    |none=>exact⟨0,rfl⟩
    |some n=>exact⟨Int.ofNat n,rfl⟩
   obtain⟨n,hn⟩:=hlk;refine jY 2 (be _) eI (arq d O cn i j x (x.kids.getD j 0) n (jK d.ly (x.kids.getD j 0)).isSome) (dF (g0 ⟨A (iT q2) (A (eK _) (A (gi q2) (eM hn))),?_⟩));refine NU (rG (dA 2 aaw)) (be _) (jK d.ly (x.kids.getD j 0)).isSome (fun b=>DM d O cn x (kr d 46 47 48 i++Ee x 53 54 55 j++[(68,.bool b),(70,F x.id)])) 40 x.id [0,2,8,46,47,48,53,54,55] (DM d O cn x (kr d 46 47 48 i++Ee x 53 54 55 j)) (ars d O cn i j x _) (dF (g0 ⟨all_nil,rfl⟩)) (fun b=>by kernel_rfl) dD (fun Y R dX=>?_) (fun Y ch GK=>?_)
   . simp only[gZ,andThen];refine dX.zS _ _ (gk (be _) eI (art d O cn i j x) (dF (g0 ⟨eM (gK S),fun R dX=>m1 q2 ?_ R (lY.norm dX)⟩)));show(jK d.ly (x.kids.getD j 0)).isNone=false;rw[<- Option.not_isSome,Y];rfl
   . refine m3 ch _ (k3 ch _ (hp ch _ (pA GK dD (vj ?_) (show(40:Int)≠0 by decide))));rw[ht];unfold rq;rw[EV (d:=0) q2 (by rw[<- Option.not_isSome,Y];rfl)];rfl
 . simp only[gZ,andThen];refine dX.zS _ _ ?_;have agm:rq d x=(((x.id==d.root)&&(Int.ofNat (mc d.ly x.id)==(0:Int)))||((x.id !=d.root)&&(Int.ofNat (mc d.ly x.id)==(1:Int)))):=by unfold rq;rw[IL (d:=0) h1];rfl
   have pX:∀w,(Int.ofNat (mc d.ly x.id)==w)=rq d x->TG ak 2 NL (dA 4 N0) (DM d O cn x ((13,F w)::kr d 46 47 48 i)) (gZ 5 (andThen (fun R=>TG ak 2 NL (dA 3 UX) R Q') Q')):=fun w hw=>by
    have O7:He cn x.id=Int.ofNat (mc d.ly x.id):=hC x.id;refine NU (rG (dA 4 N0)) (be _) (Int.ofNat (mc d.ly x.id)==w) (fun b=>DM d O cn x (kr d 46 47 48 i++[(86,.bool b),(88,F x.id)])) 40 x.id [0,2,46,47,48] (vZ d O cn (kr d 46 47 48 i)) (arv d O cn i x w (Int.ofNat (mc d.ly x.id))) (dF (g0 ⟨eM (by rw[Mr hI,O7]),rfl⟩)) (fun b=>by kernel_rfl) dD (fun Y R dX=>?_) (fun Y ch GK=>?_)
    . simp only[gZ,andThen];exact dX.zS _ _ (gk (be _) eI (arw d O cn i) (dF (g0 ⟨eM (gK S),fun R dX=>k1 q (by rw[ht,<- hw,Y];rfl) R (lY.norm dX)⟩)))
    . exact k3 ch _ (hp ch _ (pA GK dD (vj (by rw[ht,<- hw,Y];rfl)) (show(40:Int)≠0 by decide)))
   refine jY 2 (be _) eI (aru d O cn i _ x) (dJ (g1 fun h=>⟨all_nil,pX 0 ?_⟩) (dF (g1 fun h=>⟨all_nil,pX 1 ?_⟩)))
   . rw[agm,h];unfold bne;rw[h];simp
   . rw[agm,h];unfold bne;rw[h];simp
theorem Tm{fn:Func}{p:Int×Int}{s:St}(e:NT ak 2 fn s .ret=some (.ret (.gV []),mR d O,2))(h:p.1=0):RX fn d O p .normal s:=⟨.ret,trivial,_,_,_,e,(aD h).symm,rfl,rfl⟩
theorem agn(J:Dn d O)(hd:IP d)(h40:d.ly.length<=1000)(C:∀j,j<d.ly.length->BE d j=false):TG ak 2 NL (dA 3 NZ) (vZ d O (Lh d.ly) []) (RX Tryz.f94 d O (oZ d)):=by
 have AS:=hd.ly;refine fH 1 (be _) (arx d O _ 0) all_nil ?_;have wY:(∀j,j<d.ly.length->Ae d j=false)->(oZ d).1=0:=fun h1=>by
  unfold oZ;rw[gL C];simp only;rw[gL h1]
 refine ae9 (Ak 8 d.ly.length (fun i=>G9 d O (kr d 95 96 97 i)) (Ae d) (fun E a w r hn=>⟨hn,E,r,nk.refl r.good⟩) (fun i hi hj Q' k1 k2 k3=>?_) (fun h1 R dX=>⟨_,dX,Tm dD (wY h1)⟩));refine jY 2 (be _) eI (ary d O i) (dJ (g1 fun h=>⟨all_nil,?_⟩) (dF (g1 fun h=>⟨all_nil,fun R dX=>k2 (by have:=qZ h;omega) R (lY.norm dX)⟩)));have q:=j9 h;have hA:V.dS (dO (fD d.ly) (i*31) 31)= .dS (d.at i).ds:=iu q;have ht:Ae d i=Dk d (d.at i):=rfl;have vj:Ae d i=true->oZ d=(40,(d.at i).id):=fun h=>aay q C h hj;generalize d.at i=x at *;have nx:Ae d i=false->∀R,lY 2 NL R (G9 d O (kr d 95 96 97 i))->TG ak 2 NL (dA 3 UY) R Q':=fun h3 R dX=>
  dX.zS _ _ (gk (be _) eI (arF d O i) (dF (g0 ⟨eM (gK S),fun R dX=>k1 q h3 R (lY.norm dX)⟩)))
 have hpn:∀ch (b:Bool),Bo (xx (40,x.id)) ch->Ae d i=true->Q' (.panic ch) (G9 d O (kr d 95 96 97 i++[(116,.bool false),(118,F x.id)])):=fun ch b GK h3=>k3 ch _ (RQ.of (pA GK dD (vj h3) (show(40:Int)≠0 by decide)));refine dM dD (fL (i:=9) dD ?_);refine jY 2 (be _) eI (arz d O i x) (dJ (g1 fun h=>⟨A (iT q) (A (fE _) (eM hA)),?_⟩) (dF (g1 fun h=>⟨A (iT q) (A (fE _) (eM hA)),?_⟩)))
 . refine jZ (t:=true) dD dD (fun _=>?_) (fun q=>by cases q);cases hn:jK d.ly x.of with
   |some m=>
    have hL:=tL J hn;have ht2:Ae d i=((d.at m).kd==3):=by rw[ht];unfold Dk;rw[h,hn];rfl
    generalize d.at m=y at *;refine jY 1 (qQ hL (be _)) eI (arA d O i x y) (dF (g0 ⟨A rfl (A rfl (eM rfl)),?_⟩));refine NU (rG (dA 1 (lF (dA 2 Jk)))) (be _) (y.kd !=(3:Int)) (fun b=>G9 d O (kr d 95 96 97 i++[(116,.bool b),(118,F x.id)])) 40 x.id [0,95,96,97] (G9 d O (kr d 95 96 97 i)) (arC d O i x y) (dJ (g1 fun h=>⟨all_nil,by rw[h]⟩) (dF (g1 fun h=>⟨all_nil,by rw[h]⟩))) (fun b=>by kernel_rfl) dD (fun Y R dX=>?_) (fun Y ch GK=>?_)
    . simp only[gZ,andThen];exact nx (by rw[ht2];unfold bne at Y;simpa using Y) R dX
    . exact hpn ch true GK (by rw[ht2];unfold bne at Y;simpa using Y)
   |none=>
    have hL:=Dp J hn;have ht2:Ae d i=true:=by rw[ht];unfold Dk;rw[h,hn];rfl
    refine jY 1 (qQ hL (be _)) eI (arB d O i x) (dF (g0 ⟨A rfl (A rfl (eM rfl)),?_⟩));exact NU (rG (dA 1 (lF (dA 2 Jk)))) (be _) false (fun b=>G9 d O (kr d 95 96 97 i++[(116,.bool b),(118,F x.id)])) 40 x.id [0,95,96,97] (G9 d O (kr d 95 96 97 i)) (arD d O i x) (dF (g0 ⟨all_nil,rfl⟩)) (fun b=>by kernel_rfl) dD (fun Y=>by cases Y) (fun Y ch GK=>hpn ch true GK ht2)
 . refine jZ (t:=false) dD dD (fun q=>by cases q) (fun _=>?_);refine gk (be _) eI (arE d O i x) (dF (g0 ⟨all_nil,fun R dX=>?_⟩));simp only[gZ,andThen];exact nx (by rw[ht];unfold Dk;rw[h];rfl) R (lY.norm dX)
end
theorem Lj(d:Dc)(O:Sn)(J:Dn d O)(hd:IP d)(h40:d.ly.length<=1000):RZ 94 [] d O (oZ d):=by
 refine Wz Tryz.func94 (fH 1 (be _) (ard d O) all_nil ?_);refine ew.map [(2,some .i64)] (dy:=vZ d O [] []) dD _ _ ?_;refine dM dD (agk hd h40 fun R dX=>?_);simp only[andThen];refine dX _ _ (dM dD (agl J hd h40 (fun ch R h=>h) fun C R dX=>?_));simp only[andThen];exact dX.zS _ _ (agn J hd h40 C)
set_option maxRecDepth 10000
noncomputable def ago(X:Nat)(fn:Func)(f0:Nat)(c:Code)(sp:ag->I es->Nat->Option (ah×V×I es×Nat))(s:St):Option (ah×V×I es×Nat):=match lI (rG c) c with
 | [o]=>match o.guard with
   |none=>match eA ak o s.T s.h s.n with
    |some (.call f args)=>match Nat.beq f f0 with
     |true=>match sp args s.h s.n with
      |some (fm,v,C,n2)=>match v.free with
       |true=>match NT ak X fn { s with h:=C,n:=n2 } (.lU v false)with
        |some (.lU v2,h3,n3)=>some (fm,v2,h3,n3)
        |_=>none
       |false=>none
      |none=>none
     |false=>none
    |_=>none
   |some _=>none
 |_=>none
noncomputable def WA(_:Program)(sp:ag->I es->Nat->Option (ah×V×I es×Nat))(_:List (Nat×mj))(_ X:Nat)(fn:Func)(live:List Nat)(c:Code)(s:St):Option (ag×ag×List (List (Bool×Bool)×ah×jU)):=match ago X fn (live.headD 0) c sp s with
 |some (fm,v,h,n)=>some ([],[],[([],fm,.ret v h n)])
 |none=>none
abbrev E8(P:Program)(sp:ag->I es->Nat->Option (ah×V×I es×Nat))(dz:List (Nat×mj))(iX X:Nat)(fn:Func)(live:List Nat)(c:Code)(s:St)(iW:ag)(dx:List (List (Bool×Bool)×ah×jU)):Prop:=WA P sp dz iX X fn live c s=some (iW,iW,dx)
section
variable{X hc:Nat}{c:Code}{s:St}{Q:Exit->St->Prop}{dP:gJ}{hh:List (Nat×List (Nat×mj))}{dz:List (Nat×mj)}{fn:Func}{live:List Nat}{dx:List (List (Bool×Bool)×ah×jU)}
theorem agp(n0:fe ak dP){A0 fm:ah}{s1:St}{f:FuncId}{sp:ag->I es->Nat->Option (ah×V×I es×Nat)}{v:V}{h:I es}{n:Nat}{s':qw->I es->Nat->Prop}(hr:H (M dP hh) dz X fn live (kG c) s [([],A0,.to .normal s1)])(Wf:∀a∈A0,a)(hO:Uy ak f sp)
  (hp:∃iW,E8 ak sp [] 1000 X fn [f] c s1 iW [([],fm,.ret v h n)]) (hA:∀a∈fm,a) (hR:s' (.lU v) h n) (hQ:∀ch R,G6 ak X fn s' (.panic ch) R->Q (.panic ch) R)
  (hs:(eV hc c&&(Ed (rG c) c&&(lI (rG c) c).all fun o=>match o.dst with|some d=>decide (d<hc)|none=>true))=true:=by kernel_rfl):TG ak X hc c s Q:=by
 simp only[ay]at hs;obtain⟨h1,C,h3⟩:=hs;obtain⟨iW,hr⟩:=hr;have hd:∀x∈lI (rG c) c,ng hc x.dst:=fun x J d hd=>by
  have:=br.1 h3 x J;rw[hd]at this;exact aX this
 refine BK (rG c) (XH n0 hh) mo h1 C hr (abV ?_);refine⟨Wf,s1,rfl,?_⟩;obtain⟨L2,hp⟩:=hp;unfold E8 WA at hp;split at hp
 case h_2=>cases hp
 rename_i A1 v1 oF Kk e;simp only[aq,aB,List.cons.injEq,jU.ret.injEq,and_true,true_and]at hp;obtain⟨_,_,rfl,rfl,rfl,rfl⟩:=hp;unfold ago at e;split at e
 case h_2=>cases e
 rename_i o ho;split at e
 case h_2=>cases e
 rename_i hg;split at e
 case h_2=>cases e
 rename_i f' args pV;split at e
 case h_2=>cases e
 rename_i hf;have hf:=aJ hf;simp only[List.headD_cons]at hf;subst hf;split at e
 case h_2=>cases e
 rename_i A2 v2 DE n2' Ca;split at e
 case h_2=>cases e
 rename_i hv;split at e
 case h_2=>cases e
 rename_i v3 h3' n3' hl;simp only[aq,aB]at e;obtain⟨rfl,rfl,rfl,rfl⟩:=e;rw[ho]at hd ⊢;exact BJ hd hg pV hO Ca hA hv fun ch GK=>hQ ch _ (.Du GK hl hR)
end
set_option maxRecDepth 10000
noncomputable abbrev oC:Code:=dL Tryz.f42
noncomputable abbrev aaz:Code:=dI (dA 6 oC)
noncomputable abbrev aaA:Code:=dK (dK (dY aaz))
noncomputable abbrev U1:Code:=dK (dI (dA 2 aaA))
noncomputable abbrev aaB:Code:=dI (dA 9 oC)
noncomputable abbrev aaC:Code:=dK (dK (dY aaB))
noncomputable abbrev U2:Code:=dK (dI (dA 2 aaC))
noncomputable abbrev aaD:Code:=dI (dA 11 oC)
noncomputable abbrev aaE:Code:=dK (dK (dY aaD))
noncomputable abbrev aaF:Code:=dK (dI (dA 2 aaE))
def hCx(d:Dc)(O:List (Eng.D×Eng.D))(q:af):I es:=hL ([(0,.cells d.cs),(1,.cells (d.cs++[.map (some 2)])),(2,.gM (some .i64) O)]++q)
def oQ(d:Dc)(O:List (Eng.D×Eng.D))(r:List (Nat×V)):St:=fB ([(1,.ptr (some (0,0))),(3,.ptr (some (1,0)))]++r) (hCx d O []) 3
def U3(d:Dc)(O:List (Eng.D×Eng.D))(t:Nat)(u:ag)(r:List (Nat×V)):St:=fB ([(1,.ptr (some (0,0))),(3,.ptr (some (1,0))),(t,.ptr (some (3,0)))]++r) (hCx d O [(3,.cells u)]) 4
abbrev pT1:V:=.ptr (some (1,0))
def hCm(d:Dc)(l:List (Eng.D×Eng.D))(q:af):I es:=hL ([(0,.cells d.cs),(1,.cells (d.cs++[.map (some 2)])),(2,.oI (some .i64) l)]++q)
def Am(d:Dc)(l:List (Eng.D×Eng.D))(r:List (Nat×V)):St:=fB ([(1,.ptr (some (0,0))),(3,.ptr (some (1,0)))]++r) (hCm d l []) 3
def WB(d:Dc)(l:List (Eng.D×Eng.D))(t:Nat)(u:ag)(r:List (Nat×V)):St:=fB ([(1,.ptr (some (0,0))),(3,.ptr (some (1,0))),(t,.ptr (some (3,0)))]++r) (hCm d l [(3,.cells u)]) 4
def sC0(d:Dc):St:=fB [(1,.ptr (some (0,0))),(3,.ptr (some (1,0)))] (hL [(0,.cells d.cs),(1,.cells (d.cs++[.map (some 2)])),(2,.map [] 0)]) 3
theorem arH(d:Dc):H (M ek []) [] 0 Tryz.f42 [1,3] (dU 2 oC) (dB [d.v] .nil 0) [([],[],eu (sC0 d))]:=G.W
theorem arI(d:Dc)(l:List (Eng.D×Eng.D)):H (M ek []) [(21,.split),(26,.split),(31,.split),(36,.split)] 0 Tryz.f42 [1,3,37] (kG (dI (dA 2 oC))) (Am d l []) (D3 (decide ((Int.ofNat d.sp.length)<=(8:Int))) (decide ((Int.ofNat d.ly.length)<=(40:Int))) (decide (d.nx>=(1:Int))) (decide (d.nx<=(1048576:Int))) ([],eu (Am d l [(37,.bool true)])) ([],eu (Am d l [(37,.bool false)]))):=G.W
theorem arJ(d:Dc)(l:List (Eng.D×Eng.D)):H (M ek []) [] 0 Tryz.f42 [1,3,4] (dU 1 (dA 3 oC)) (Am d l []) [([],[],eu (Am d l [(4,mS 90)]))]:=G.W
theorem arK(d:Dc)(l:List (Eng.D×Eng.D))(b:Bool):H (M (fa 92 [.eE false d.sp.length (jy d.sp),mS 90] (.bool b) ek) []) [] 0 Tryz.f42 [1,3,43] (kG (dI (dA 4 oC))) (Am d l [(4,mS 90)]) [([],[V.jJ ([]++[V.eE false d.sp.length (jy d.sp),mS 90]++[])=[V.eE false d.sp.length (jy d.sp),mS 90]],eu (Am d l [(43,.bool (!b))]))]:=G.W
theorem arL(d:Dc)(l:List (Eng.D×Eng.D)):H (M ek []) [] 0 Tryz.f42 [1,3,5] (dU 1 (dA 5 oC)) (Am d l []) [([],[],eu (Am d l [(5,F 0)]))]:=G.W
theorem arM(d:Dc)(l:List (Eng.D×Eng.D))(z:Int):H (M ek []) [] 0 Tryz.f42 [1,3,5,46,47,48] (dI aaz) (Am d l [(5,F z)]) [([],[],eu (Am d l [(5,F z),(46,.eE false d.ly.length (fD d.ly)),(47,L d.ly.length),(48,L 0)]))]:=G.W
theorem arN(d:Dc)(l:List (Eng.D×Eng.D))(z:Int)(i:Nat):H (M ek []) [(49,.split)] 0 Tryz.f42 [1,3,5,46,47,48] (dU 2 aaA) (Am d l [(5,F z),(46,.eE false d.ly.length (fD d.ly)),(47,L d.ly.length),(48,L i)]) (fP (decide (Int.ofNat i<Int.ofNat d.ly.length)) ([],eu (Am d l [(5,F z),(46,.eE false d.ly.length (fD d.ly)),(47,L d.ly.length),(48,L i)])) ([],.to (.exit 0) (Am d l [(5,F z),(46,.eE false d.ly.length (fD d.ly)),(47,L d.ly.length),(48,L i)]))):=G.W
theorem arO(d:Dc)(l:List (Eng.D×Eng.D))(z:Int)(i:Nat)(x:eJ):H (M ek []) [(51,.dG (.dS x.ds))] 0 Tryz.f42 [1,3,5,6,7,46,47,48] (dU 1 U1) (Am d l [(5,F z),(46,.eE false d.ly.length (fD d.ly)),(47,L d.ly.length),(48,L i)]) [([],[fR i d.ly.length,nE d.ly,gG (fD d.ly) i 31 x.ds],eu (WB d l 7 x.cs [(5,F z),(6,L i),(46,.eE false d.ly.length (fD d.ly)),(47,L d.ly.length),(48,L i)]))]:=G.W
theorem arP(d:Dc)(l:List (Eng.D×Eng.D))(z:Int)(i:Nat)(x:eJ):H (M ek []) [(56,.split),(62,.split)] 0 Tryz.f42 [1,3,5,6,7,46,47,48,63,65] (kG (dI (dA 1 U1))) (WB d l 7 x.cs [(5,F z),(6,L i),(46,.eE false d.ly.length (fD d.ly)),(47,L d.ly.length),(48,L i)]) (CW (decide (x.id>z)) (decide (x.id<d.nx)) ([],eu (WB d l 7 x.cs [(5,F z),(6,L i),(46,.eE false d.ly.length (fD d.ly)),(47,L d.ly.length),(48,L i),(63,.bool true),(65,F x.id)])) ([],eu (WB d l 7 x.cs [(5,F z),(6,L i),(46,.eE false d.ly.length (fD d.ly)),(47,L d.ly.length),(48,L i),(63,.bool false),(65,F x.id)]))):=G.W
theorem arQ(d:Dc)(l:List (Eng.D×Eng.D))(z:Int)(i:Nat)(x:eJ):H (M ek []) [] 0 Tryz.f42 [1,3,5,46,47,48] (dA 2 U1) (WB d l 7 x.cs [(5,F z),(6,L i),(46,.eE false d.ly.length (fD d.ly)),(47,L d.ly.length),(48,L i)]) [([],[fG (D.int B x.id) l=none,(0:Int)<=(Int.ofNat l.length)/\(Int.ofNat l.length)<(Int.ofNat (l++[(D.int B x.id,D.int B (0:Int))]).length)],eu (Am d (iO (l++[(.int .i64 x.id,.int .i64 0)]) (l.length:Int).toNat fun e=>(e.1,.int .i64 (Int.ofNat i))) [(5,F x.id),(46,.eE false d.ly.length (fD d.ly)),(47,L d.ly.length),(48,L i)]))]:=G.W
theorem arR(d:Dc)(l:List (Eng.D×Eng.D))(z:Int)(i:Nat):H (M ek []) [(78,.dG (L (i+1)))] 0 Tryz.f42 [1,3,5,46,47,48] (dA 3 aaA) (Am d l [(5,F z),(46,.eE false d.ly.length (fD d.ly)),(47,L d.ly.length),(48,L i)]) [([],[oH i],eu (Am d l [(5,F z),(46,.eE false d.ly.length (fD d.ly)),(47,L d.ly.length),(48,L (i+1))]))]:=G.W
theorem arS(d:Dc)(O:List (Eng.D×Eng.D))(x:eJ):H (M (xq 44 [F d.root] d O (.gV [x.v,.bool true]) ek) []) [] 0 Tryz.f42 [1,3,8,9] (dU 1 (dA 7 oC)) (oQ d O []) [([],[[V.ptr (some (0,0)),V.int B d.root]=[pT,F d.root],(I.nil.set 0 (some (es.cells [V.eE false d.sp.length (jy d.sp),V.int B d.root,V.int B d.nx,V.eE false d.ly.length (fD d.ly),V.map (some 1)]))).set 1 (some (es.gM (some B) O))=mR d O,2=2],eu (U3 d O 8 x.cs [(9,.bool true)]))]:=G.W
theorem arT(d:Dc)(O:List (Eng.D×Eng.D)):H (M (xq 44 [F d.root] d O (.gV [Zw,.bool false]) ek) []) [] 0 Tryz.f42 [1,3,8,9] (dU 1 (dA 7 oC)) (oQ d O []) [([],[[V.ptr (some (0,0)),V.int B d.root]=[pT,F d.root],(I.nil.set 0 (some (es.cells [V.eE false d.sp.length (jy d.sp),V.int B d.root,V.int B d.nx,V.eE false d.ly.length (fD d.ly),V.map (some 1)]))).set 1 (some (es.gM (some B) O))=mR d O,2=2],eu (U3 d O 8 (On 0 0 z7 0) [(9,.bool false)]))]:=G.W
theorem arU(d:Dc)(O:List (Eng.D×Eng.D))(x:eJ):H (M ek []) [(90,.split)] 0 Tryz.f42 [1,3,91,93] (kG (dI (dA 8 oC))) (U3 d O 8 x.cs [(9,.bool true)]) (fP (x.kd==(2:Int)) ([],eu (oQ d O [(91,.bool true),(93,F d.root)])) ([],eu (oQ d O [(91,.bool false),(93,F d.root)]))):=G.W
theorem arV(d:Dc)(O:List (Eng.D×Eng.D)):H (M ek []) [] 0 Tryz.f42 [1,3,91,93] (kG (dI (dA 8 oC))) (U3 d O 8 (On 0 0 z7 0) [(9,.bool false)]) [([],[],eu (oQ d O [(91,.bool false),(93,F d.root)]))]:=G.W
theorem arW(d:Dc)(O:List (Eng.D×Eng.D)):H (M ek []) [] 0 Tryz.f42 [1,3,96,97,98] (dI aaB) (oQ d O []) [([],[],eu (oQ d O [(96,.eE false d.ly.length (fD d.ly)),(97,L d.ly.length),(98,L 0)]))]:=G.W
theorem arX(d:Dc)(O:List (Eng.D×Eng.D))(i:Nat):H (M ek []) [(99,.split)] 0 Tryz.f42 [1,3,96,97,98] (dU 2 aaC) (oQ d O [(96,.eE false d.ly.length (fD d.ly)),(97,L d.ly.length),(98,L i)]) (fP (decide (Int.ofNat i<Int.ofNat d.ly.length)) ([],eu (oQ d O [(96,.eE false d.ly.length (fD d.ly)),(97,L d.ly.length),(98,L i)])) ([],.to (.exit 2) (oQ d O [(96,.eE false d.ly.length (fD d.ly)),(97,L d.ly.length),(98,L i)]))):=G.W
theorem arY(d:Dc)(O:List (Eng.D×Eng.D))(i:Nat)(x:eJ):H (M ek []) [(100,.dG (.dS x.ds))] 0 Tryz.f42 [1,3,11,96,97,98] (dU 1 U2) (oQ d O [(96,.eE false d.ly.length (fD d.ly)),(97,L d.ly.length),(98,L i)]) [([],[fR i d.ly.length,nE d.ly,gG (fD d.ly) i 31 x.ds],eu (U3 d O 11 x.cs [(96,.eE false d.ly.length (fD d.ly)),(97,L d.ly.length),(98,L i)]))]:=G.W
theorem arZ(d:Dc)(O:List (Eng.D×Eng.D))(i:Nat)(x:eJ):H (M (xq 93 [x.v] d O (.gV []) ek) []) [] 0 Tryz.f42 [1,3,96,97,98] (dA 1 U2) (U3 d O 11 x.cs [(96,.eE false d.ly.length (fD d.ly)),(97,L d.ly.length),(98,L i)]) [([],[[V.ptr (some (0,0)),V.agg [V.int B x.id,V.int B x.kd,V.str x.nm,V.bool x.hid,V.int B x.op,V.int B x.md,V.bool x.clip,V.int B x.pl.a,V.int B x.pl.b,V.int B x.pl.c,V.int B x.pl.d,V.int B x.pl.e,V.int B x.pl.f,V.int B x.pl.n,V.int B x.sp,V.eE false x.kids.length (eG x.kids),V.int B x.of,V.int B x.f.k,V.int B x.f.r,V.eE false x.f.eW.length (eG x.f.eW),V.int B x.f.dv,V.int B x.f.vl,V.eE false x.f.cu.length (eG x.f.cu),V.int IntKind.u8 x.fi.r,V.int IntKind.u8 x.fi.g,V.int IntKind.u8 x.fi.b,V.int IntKind.u8 x.fi.a,V.eE false x.gu.length (mQ x.gu),V.eE false x.gp.length (iH x.gp),V.bool x.K,V.eE false x.gT.length (iH x.gT)]]=[pT,x.v],(I.nil.set 0 (some (es.cells [V.eE false d.sp.length (jy d.sp),V.int B d.root,V.int B d.nx,V.eE false d.ly.length (fD d.ly),V.map (some 1)]))).set 1 (some (es.gM (some B) O))=mR d O,2=2],eu (oQ d O [(96,.eE false d.ly.length (fD d.ly)),(97,L d.ly.length),(98,L i)]))]:=G.W
theorem ar0(d:Dc)(O:List (Eng.D×Eng.D))(i:Nat)(x:eJ):H (M ek []) [] 0 Tryz.f42 [1,3,96,97,98,102,103] (kG (dA 1 U2)) (U3 d O 11 x.cs [(96,.eE false d.ly.length (fD d.ly)),(97,L d.ly.length),(98,L i)]) [([],[],eu (oQ d O [(96,.eE false d.ly.length (fD d.ly)),(97,L d.ly.length),(98,L i),(102,pT1),(103,x.v)]))]:=G.W
theorem ar1(d:Dc)(O:List (Eng.D×Eng.D))(i:Nat)(x:eJ)(p:Int×Int):∃iW,E8 ak (vX (I5 [x.v] d O (xx p))) [] 1000 0 Tryz.f42 [93] (dA 1 U2) (oQ d O [(96,.eE false d.ly.length (fD d.ly)),(97,L d.ly.length),(98,L i),(102,pT1),(103,x.v)]) iW
  [([],
   [([V.ptr (some (0,0)),V.agg [V.int B x.id,V.int B x.kd,V.str x.nm,V.bool x.hid,V.int B x.op,V.int B x.md,V.bool x.clip,V.int B x.pl.a,V.int B x.pl.b,V.int B x.pl.c,V.int B x.pl.d,V.int B x.pl.e,V.int B x.pl.f,V.int B x.pl.n,V.int B x.sp,V.eE false x.kids.length (eG x.kids),V.int B x.of,V.int B x.f.k,V.int B x.f.r,V.eE false x.f.eW.length (eG x.f.eW),V.int B x.f.dv,V.int B x.f.vl,V.eE false x.f.cu.length (eG x.f.cu),V.int IntKind.u8 x.fi.r,V.int IntKind.u8 x.fi.g,V.int IntKind.u8 x.fi.b,V.int IntKind.u8 x.fi.a,V.eE false x.gu.length (mQ x.gu),V.eE false x.gp.length (iH x.gp),V.bool x.K,V.eE false x.gT.length (iH x.gT)]]=[pT,x.v]),((I.nil.set 0 (some (es.cells [V.eE false d.sp.length (jy d.sp),V.int B d.root,V.int B d.nx,V.eE false d.ly.length (fD d.ly),V.map (some 1)]))).set 1 (some (es.gM (some B) O))=mR d O),(2=2)],
   .ret (.iface 99 (.agg [.int .i64 (p.1),.int .i64 (p.2)])) (hL []) 0)]
 :=⟨[],by unfold E8;kernel_rfl⟩
theorem ar2(d:Dc)(O:List (Eng.D×Eng.D))(i:Nat):H (M ek []) [(105,.dG (L (i+1)))] 0 Tryz.f42 [1,3,96,97,98] (dA 3 aaC) (oQ d O [(96,.eE false d.ly.length (fD d.ly)),(97,L d.ly.length),(98,L i)]) [([],[oH i],eu (oQ d O [(96,.eE false d.ly.length (fD d.ly)),(97,L d.ly.length),(98,L (i+1))]))]:=G.W
theorem ar3(d:Dc)(O:List (Eng.D×Eng.D)):H (M (xq 94 [] d O (.gV []) ek) []) [] 0 Tryz.f42 [1,3] (dI (dA 10 oC)) (oQ d O []) [([],[[V.ptr (some (0,0))]=[pT],(I.nil.set 0 (some (es.cells [V.eE false d.sp.length (jy d.sp),V.int B d.root,V.int B d.nx,V.eE false d.ly.length (fD d.ly),V.map (some 1)]))).set 1 (some (es.gM (some B) O))=mR d O,2=2],eu (oQ d O []))]:=G.W
theorem ar4(d:Dc)(O:List (Eng.D×Eng.D)):H (M ek []) [] 0 Tryz.f42 [1,3,106] (kG (dI (dA 10 oC))) (oQ d O []) [([],[],eu (oQ d O [(106,pT1)]))]:=G.W
theorem ar5(d:Dc)(O:List (Eng.D×Eng.D))(p:Int×Int):∃iW,E8 ak (vX (I5 [] d O (xx p))) [] 1000 0 Tryz.f42 [94] (dI (dA 10 oC)) (oQ d O [(106,pT1)]) iW
  [([],
   [([V.ptr (some (0,0))]=[pT]),((I.nil.set 0 (some (es.cells [V.eE false d.sp.length (jy d.sp),V.int B d.root,V.int B d.nx,V.eE false d.ly.length (fD d.ly),V.map (some 1)]))).set 1 (some (es.gM (some B) O))=mR d O),(2=2)],
   .ret (.iface 99 (.agg [.int .i64 (p.1),.int .i64 (p.2)])) (hL []) 0)]
 :=⟨[],by unfold E8;kernel_rfl⟩
theorem ar6(d:Dc)(O:List (Eng.D×Eng.D)):H (M ek []) [] 0 Tryz.f42 [1,3,109,110,111] (dI aaD) (oQ d O []) [([],[],eu (oQ d O [(109,.eE false d.ly.length (fD d.ly)),(110,L d.ly.length),(111,L 0)]))]:=G.W
theorem ar7(d:Dc)(O:List (Eng.D×Eng.D))(i:Nat):H (M ek []) [(112,.split)] 0 Tryz.f42 [1,3,109,110,111] (dU 2 aaE) (oQ d O [(109,.eE false d.ly.length (fD d.ly)),(110,L d.ly.length),(111,L i)]) (fP (decide (Int.ofNat i<Int.ofNat d.ly.length)) ([],eu (oQ d O [(109,.eE false d.ly.length (fD d.ly)),(110,L d.ly.length),(111,L i)])) ([],.to (.exit 4) (oQ d O [(109,.eE false d.ly.length (fD d.ly)),(110,L d.ly.length),(111,L i)]))):=G.W
theorem ar8(d:Dc)(O:List (Eng.D×Eng.D))(i:Nat)(x:eJ):H (M ek []) [(113,.dG (.dS x.ds))] 0 Tryz.f42 [1,3,13,109,110,111] (dU 1 aaF) (oQ d O [(109,.eE false d.ly.length (fD d.ly)),(110,L d.ly.length),(111,L i)]) [([],[fR i d.ly.length,nE d.ly,gG (fD d.ly) i 31 x.ds],eu (U3 d O 13 x.cs [(109,.eE false d.ly.length (fD d.ly)),(110,L d.ly.length),(111,L i)]))]:=G.W
theorem ar9(d:Dc)(O:List (Eng.D×Eng.D))(i:Nat)(x:eJ)(b:Bool):H (M (xq 45 [F x.id,F x.id,fnT 95] d O (.bool b) ek) []) [] 0 Tryz.f42 [1,3,109,110,111,123,125] (kG (dA 1 aaF)) (U3 d O 13 x.cs [(109,.eE false d.ly.length (fD d.ly)),(110,L d.ly.length),(111,L i)]) [([],[[V.ptr (some (0,0)),V.int B x.id,V.int B x.id,V.fn (Fn.func 95) [V.ptr (some (0,0))] []]=[pT,F x.id,F x.id,fnT 95],(I.nil.set 0 (some (es.cells [V.eE false d.sp.length (jy d.sp),V.int B d.root,V.int B d.nx,V.eE false d.ly.length (fD d.ly),V.map (some 1)]))).set 1 (some (es.gM (some B) O))=mR d O,2=2],eu (oQ d O [(109,.eE false d.ly.length (fD d.ly)),(110,L d.ly.length),(111,L i),(123,.bool (!b)),(125,F x.id)]))]:=G.W
theorem asa(d:Dc)(O:List (Eng.D×Eng.D))(i:Nat):H (M ek []) [(127,.dG (L (i+1)))] 0 Tryz.f42 [1,3,109,110,111] (dA 3 aaE) (oQ d O [(109,.eE false d.ly.length (fD d.ly)),(110,L d.ly.length),(111,L i)]) [([],[oH i],eu (oQ d O [(109,.eE false d.ly.length (fD d.ly)),(110,L d.ly.length),(111,L (i+1))]))]:=G.W
theorem asb(d:Dc)(O:List (Eng.D×Eng.D))(a:Int):H (M (xq 48 [F d.root] d O (F a) ek) []) [] 0 Tryz.f42 [3,132,134] (kG (dI (dA 12 oC))) (oQ d O []) [([],[[V.ptr (some (0,0)),V.int B d.root]=[pT,F d.root],(I.nil.set 0 (some (es.cells [V.eE false d.sp.length (jy d.sp),V.int B d.root,V.int B d.nx,V.eE false d.ly.length (fD d.ly),V.map (some 1)]))).set 1 (some (es.gM (some B) O))=mR d O,2=2],eu (fB [(3,.ptr (some (0,0))),(132,.bool (decide (a<=(6:Int)))),(134,F d.root)] (mR d O) 2))]:=G.W
theorem asc(d:Dc)(O:List (Eng.D×Eng.D)):H (M ek []) [] 0 Tryz.f42 [] (dA 13 oC) (fB [(3,.ptr (some (0,0)))] (mR d O) 2) [([],[],.ret (.ptr (some (0,0))) (hL [(0,.cells [.eE false (d.sp.length) (jy d.sp),.int .i64 (d.root),.int .i64 (d.nx),.eE false (d.ly.length) (fD d.ly),.map (some 1)]),(1,.gM (some .i64) O)]) 2)]:=G.W
set_option maxRecDepth 10000
def dE(Ef:List Int):List (Eng.D×Eng.D):=Ef.zipIdx.map fun p=>(.int .i64 p.1,.int .i64 (Int.ofNat p.2))
theorem Mt(k:Int):∀l:List (Int×Nat),(∀p∈l,p.1≠k)->fG (.int .i64 k) (l.map fun p=>(.int .i64 p.1,.int .i64 (Int.ofNat p.2)))=none
 | [],_=>rfl
 |p::l,h=>by
  have h1:=h p (by simp);simp only[bQ,fG,ik,decide_true,aP];rw[aV fun e=>h1 e.symm];exact Mt k l fun p hp=>h p (by simp[hp])
theorem Lk{Ef:List Int}{k:Int}(h:k∉Ef):fG (.int .i64 k) (dE Ef)=none:=
 Mt k _ fun p hp e=>by
  obtain⟨k',j⟩:=p;obtain⟨_,_,h3⟩:=List.mem_zipIdx hp;simp only at e;subst e;exact h (h3▸bJ _)
theorem AY{α:Type}(f:α->α)(e:α):∀l:List α,iO (l++[e]) l.length f=l++[f e]
 | []=>rfl
 |x::l=>by simp only[List.cons_append,aR,iO,AY f e l]
theorem U4(Ef:List Int)(x:Int){i:Nat}(h:Ef.length=i):iO (dE Ef++[(.int .i64 x,.int .i64 0)]) ((dE Ef).length:Int).toNat (fun e=>(e.1,.int .i64 (Int.ofNat i)))=dE (Ef++[x]):=by
 rw[Int.toNat_natCast,AY];unfold dE;rw[List.zipIdx_append,bM];simp[List.zipIdx,h]
theorem Mu(k:Int):∀(ls:List eJ) (s:Nat),fG (.int .i64 k) (((ls.map (·.id)).zipIdx s).map fun p=>(.int .i64 p.1,.int .i64 (Int.ofNat p.2)))=(ls.findIdx? fun l=>l.id==k).map fun n=>.int .i64 (Int.ofNat (s+n))
 | [],_=>rfl
 |l::ls,s=>by
  simp only[bQ,List.zipIdx_cons,fG,ik,List.findIdx?_cons,decide_true,aP];by_cases q:k=l.id
  . subst q;simp
  . rw[aV q,aA (by simpa using fun e=>q e.symm)];simp only;rw[Mu k ls (s+1),Option.map_map];congr 1;funext n;simp only[Function.comp];congr 2;omega
theorem agr(d:Dc):Dn d (dE (d.ly.map (·.id))):=fun k=>by
 have:=Mu k d.ly 0;simp only[bB]at this;exact this
section
variable{X hc m:Nat}{s:St}{kd:Option IntKind}
theorem aaG(ht:Nat.blt m gy=true)(K:s.h.get m=some (.map [] 0)):lY X hc s { s with h:=s.h.set m (some (.oI kd [])) }:=
 lY.mem fun _ _ g=>pG (aE ht) K rfl (fun _ _ _ ⟨hs,fS,h1,C⟩=>⟨hs,fS,h1,⟨C,List.nodup_nil,(fun e he=>by cases he),(by rw[show fS.toList=[]from C];rfl)⟩⟩) g
theorem aaH{O:List (Eng.D×Eng.D)}(ht:Nat.blt m gy=true)(K:s.h.get m=some (.oI kd O)):lY X hc s { s with h:=s.h.set m (some (.gM kd O)) }:=
 lY.mem fun _ _ g=>pG (aE ht) K rfl (fun _ _ _ ⟨hs,fS,h1,C⟩=>⟨hs,fS,_,h1,C.rel⟩) g
end
set_option maxRecDepth 10000
noncomputable abbrev NC:Nat:=Tryz.f42.ntmps
def N1(d:Dc)(i:Nat):List Int:=(d.ly.take i).map (·.id)
def sM(d:Dc):List (Eng.D×Eng.D):=dE (d.ly.map (·.id))
noncomputable def Ll(d:Dc):qw:=if(gS d).1=0 then .ret pT else .lU (xx (gS d))
abbrev RC(d:Dc):Exit->St->Prop:=G6 ak 0 Tryz.f42 fun o h n=>o=Ll d/\((gS d).1=0->h=mR d (sM d)/\n=2)
theorem N2{d:Dc}{q:Int×Int}{ch:List PanicEntry}{s:St}(hp:Bo (xx q) ch)(hl:NT ak 0 Tryz.f42 s (.lU (xx q) false)=some (.lU (xx q),.nil,0))(N:gS d=q)(h0:q.1≠0):RC d (.panic ch) s:=
 .Du hp hl ⟨by unfold Ll;rw[N,aA h0],fun z=>absurd (by rw[N]at z;exact z) h0⟩
theorem aaI{d:Dc}(h:xn d=true):¬((Int.ofNat d.sp.length)<=(8:Int)/\(Int.ofNat d.ly.length)<=(40:Int)/\d.nx>=(1:Int)/\d.nx<=(1048576:Int)):=by
 unfold xn at h;simp only[cg,aS]at h;omega
theorem U5{d:Dc}{i:Nat}(h:i<=d.ly.length):(N1 d i).length=i:=by
 unfold N1;rw[bG,aW];omega
theorem Jl{d:Dc}{i:Nat}(h:i<d.ly.length):N1 d (i+1)=N1 d i++[(d.at i).id]:=by
 unfold N1;rw[bY,getD_some gv h,Option.toList_some,bM];rfl
theorem R4{d:Dc}:∀{i:Nat},i<=d.ly.length->(∀j,j<i->tJ d j=false)->(∀k∈N1 d i,k<=vc d i)/\(N1 d i).Nodup
 |0,_,_=>⟨(fun k U=>by cases U),List.nodup_nil⟩
 |i+1,h,hj=>by
  obtain⟨h1,C⟩:=R4 (i:=i) S fun j hji=>hj j S;have Y:=hj i S;unfold tJ at Y;rw[cE,bt]at Y;rw[Jl S];refine⟨fun k U=>?_,List.nodup_append.2 ⟨C,by simp,fun a ha b DH=>?_⟩⟩
  . show k<=(d.at i).id;rcases bf.1 U with q|q
    . have:=h1 k q;omega
    . rw[aG]at q;omega
  . rw[aG]at DH;subst DH;have:=h1 a ha;omega
theorem aaJ{ls:List eJ}{x:eJ}(h:x∈ls):∃n,jK ls x.id=some n:=by
 cases hn:jK ls x.id with
 |some n=>exact⟨n,rfl⟩
 |none=>
  unfold jK at hn;rw[cV]at hn;have:=hn x h;simp at this
section
variable{d:Dc}
theorem asd(SY:xn d=false)(vj:∀i,i<d.ly.length->tJ d i=true->(∀j,j<i->tJ d j=false)->gS d=(40,(d.at i).id)){Q:Exit->St->Prop}(hp:∀ch R,RC d (.panic ch) R->Q (.panic ch) R)
  (hQ:(∀j,j<d.ly.length->tJ d j=false)->∀R,lY 0 NC R (oQ d (sM d) [])->Q .normal R):TG ak 0 NC aaz (Am d [] [(5,F 0)]) Q:=by
 have h40:=(Dl SY).2.1;refine dM dD (gk (be _) eI (arM d [] 0) (dF (g0 ⟨all_nil,fun R dX=>?_⟩)));simp only[andThen];refine Ak 0 d.ly.length (fun i=>Am d (dE (N1 d i)) ((5,F (vc d i))::kr d 46 47 48 i)) (tJ d) (lY.norm dX) (fun i hi hj Q' k1 k2 k3=>?_) (fun h1 R dX=>hQ h1 R ?_)
 . refine jY 2 (be _) eI (arN d _ _ i) (dJ (g1 fun h=>⟨all_nil,?_⟩) (dF (g1 fun h=>⟨all_nil,fun R dX=>k2 (by have:=qZ h;omega) R (lY.norm dX)⟩)));have q:=j9 h;have hA:V.dS (dO (fD d.ly) (i*31) 31)= .dS (d.at i).ds:=iu q;have Y:tJ d i=(decide ((d.at i).id<=vc d i)||decide ((d.at i).id>=d.nx)):=rfl;have Zp:=vj i q;have hl:=U5 hi;obtain⟨m1,m2⟩:=R4 hi hj;have vt:=Jl q;have Ps:=k1 q;have hpr:vc d (i+1)=(d.at i).id:=rfl;rw[vt,hpr]at Ps;clear k1;generalize vc d i=z at *;generalize N1 d i=Ef at *;generalize d.at i=x at *;refine dM dD (fL (i:=1) dD ?_);refine jY 1 (be _) eI (arO d (dE Ef) z i x) (dF (g0 ⟨A (iT q) (A (fE _) (eM hA)),?_⟩));refine kA (rG (dI (dA 1 U1))) (be _) (!tJ d i) (fun b=>WB d (dE Ef) 7 x.cs ((5,F z)::(6,L i)::(kr d 46 47 48 i++[(63,.bool b),(65,F x.id)]))) 40 x.id [1,3,5,6,7,46,47,48] (WB d (dE Ef) 7 x.cs ((5,F z)::(6,L i)::kr d 46 47 48 i)) (arP d (dE Ef) z i x) ?_ (fun b=>by kernel_rfl) dD (fun hbf=>?_) (fun hbt ch GK=>?_)
   . repeat' (first|exact gU|refine dJ ?_ ?_)
     all_goals
      intro N;simp only[az,aF,bh,aL,bg,aS,bt]at N;refine⟨all_nil,DL (dy:=fun b=>WB d (dE Ef) 7 x.cs ((5,F z)::(6,L i)::(kr d 46 47 48 i++[(63,.bool b),(65,F x.id)]))) ?_⟩;rw[Y]
      first
       |rw[aV S,aV S];rfl
       |rw[aT S];rfl
       |rw[Bool.or_comm,aT S];rfl
   . rw[bV]at hbf;have J:x.id∉Ef:=fun K=>by
      rw[Y,cE,bt]at hbf;have:=m1 _ K;omega
     have hms:=U4 Ef x.id hl;have hbn:(0:Int)<=((dE Ef).length:Int)/\((dE Ef).length:Int)<((dE Ef++[(Eng.D.int .i64 x.id,Eng.D.int .i64 0)]).length:Int):=by rw[aH,cQ];omega
     refine gk (be _) eI (arQ d (dE Ef) z i x) (dF (g0 ⟨A (Lk J) (eM hbn),fun R dX=>?_⟩));rw[hms]at dX;simp only[gZ,andThen];exact fQ dX (gk (be _) eI (arR d _ _ i) (dF (g0 ⟨eM (gK S),fun R dX=>Ps hbf R (lY.norm dX)⟩)))
   . rw[di]at hbt;exact k3 ch _ (hp ch _ (N2 GK dD (Zp hbt hj) (show(40:Int)≠0 by decide)))
 . have he:N1 d d.ly.length=d.ly.map (·.id):=by unfold N1;rw[bn]
   refine dX.trans ((lY.norm (iW:=[1,3]) (dy:=Am d (dE (N1 d d.ly.length)) []) dD).trans ?_);have:=aaH (X:=0) (hc:=NC) (m:=2) (s:=Am d (dE (N1 d d.ly.length)) []) (kd:=some .i64) dD rfl;unfold sM;rw[<- he];exact this
theorem ase(hd:BF d)(Y:∀x∈d.ly,x.kd≠3->ur x.f)(h40:d.ly.length<=1000)(vj:∀i,i<d.ly.length->KK d i=true->(∀j,j<i->KK d j=false)->gS d=(vW d.sp.length (d.at i),(d.at i).id)){Q:Exit->St->Prop}(hp:∀ch R,RC d (.panic ch) R->Q (.panic ch) R)
  (hQ:(∀j,j<d.ly.length->KK d j=false)->∀R,lY 0 NC R (oQ d (sM d) [])->Q .normal R):TG ak 0 NC aaB (oQ d (sM d) []) Q:=by
 generalize sM d=O at *;refine dM dD (gk (be _) eI (arW d O) (dF (g0 ⟨all_nil,fun R dX=>?_⟩)));simp only[andThen];refine Ak 2 d.ly.length (fun i=>oQ d O (kr d 96 97 98 i)) (KK d) (lY.norm dX) (fun i hi hj Q' k1 k2 k3=>?_) (fun h1 R dX=>hQ h1 R (dX.trans (lY.norm (iW:=[1,3]) dD)));refine jY 2 (be _) eI (arX d O i) (dJ (g1 fun h=>⟨all_nil,?_⟩) (dF (g1 fun h=>⟨all_nil,fun R dX=>k2 (by have:=qZ h;omega) R (lY.norm dX)⟩)));have q:=j9 h;have hA:V.dS (dO (fD d.ly) (i*31) 31)= .dS (d.at i).ds:=iu q;have hF:=Jj d O (d.at i) (hd.at i) (Y _ (tK q));have ht:KK d i=(vW d.sp.length (d.at i) !=0):=rfl;have Zp:=fun h=>vj i q h hj;have Ps:=k1 q;clear k1;generalize d.at i=x at *;refine dM dD (fL (i:=3) dD ?_);refine jY 1 (be _) eI (arY d O i x) (dF (g0 ⟨A (iT q) (A (fE _) (eM hA)),?_⟩));by_cases h0:vW d.sp.length x=0
 . refine gk (qQ (hF.1 h0) (be _)) eI (arZ d O i x) (dF (g0 ⟨A rfl (A rfl (eM rfl)),fun R dX=>?_⟩));simp only[gZ,andThen];exact fQ dX (gk (be _) eI (ar2 d O i) (dF (g0 ⟨eM (gK S),fun R dX=>Ps (by rw[ht,h0];rfl) R (lY.norm dX)⟩)))
 . have N:=Zp (by rw[ht];simpa using h0);exact agp (s':=fun o h n=>o=Ll d/\((gS d).1=0->h=mR d (sM d)/\n=2)) (be _) (ar0 d O i x) all_nil (hF.2 h0) (ar1 d O i x _) (A rfl (A rfl (eM rfl))) ⟨by unfold Ll;rw[N,aA h0];rfl,fun z=>absurd (by rw[N]at z;exact z) h0⟩ (fun ch R h=>k3 ch R (hp ch R h))
theorem asf(J:Dn d (sM d))(hd:BF d)(h40:d.ly.length<=1000)(vj:(oZ d).1≠0->gS d=oZ d){Q:Exit->St->Prop}(hp:∀ch R,RC d (.panic ch) R->Q (.panic ch) R)
  (hQ:(oZ d).1=0->∀R,lY 0 NC R (oQ d (sM d) [])->Q .normal R):TG ak 0 NC (dI (dA 10 oC)) (oQ d (sM d) []) Q:=by
 have hF:=Lj d (sM d) J hd.m h40;by_cases h0:(oZ d).1=0
 . exact gk (qQ (hF.1 h0) (be _)) eI (ar3 d (sM d)) (dF (g0 ⟨A rfl (A rfl (eM rfl)),fun R dX=>hQ h0 R (lY.norm dX)⟩))
 . have N:=vj h0;exact agp (s':=fun o h n=>o=Ll d/\((gS d).1=0->h=mR d (sM d)/\n=2)) (be _) (ar4 d (sM d)) all_nil (hF.2 h0) (ar5 d (sM d) _) (A rfl (A rfl (eM rfl))) ⟨by unfold Ll;rw[N,aA h0];rfl,fun z=>absurd (by rw[N]at z;exact z) h0⟩ hp
theorem asg(J:Dn d (sM d))(hd:BF d)(h40:d.ly.length<=1000)(N:Clo d.ly)(vj:∀i,i<d.ly.length->NI d i=true->(∀j,j<i->NI d j=false)->gS d=(42,(d.at i).id)){Q:Exit->St->Prop}(hp:∀ch R,RC d (.panic ch) R->Q (.panic ch) R)
  (hQ:(∀j,j<d.ly.length->NI d j=false)->∀R,lY 0 NC R (oQ d (sM d) [])->Q .normal R):TG ak 0 NC aaD (oQ d (sM d) []) Q:=by
 generalize sM d=O at *;refine dM dD (gk (be _) eI (ar6 d O) (dF (g0 ⟨all_nil,fun R dX=>?_⟩)));simp only[andThen];refine Ak 4 d.ly.length (fun i=>oQ d O (kr d 109 110 111 i)) (NI d) (lY.norm dX) (fun i hi hj Q' k1 k2 k3=>?_) (fun h1 R dX=>hQ h1 R (dX.trans (lY.norm (iW:=[1,3]) dD)));refine jY 2 (be _) eI (ar7 d O i) (dJ (g1 fun h=>⟨all_nil,?_⟩) (dF (g1 fun h=>⟨all_nil,fun R dX=>k2 (by have:=qZ h;omega) R (lY.norm dX)⟩)));have q:=j9 h;have hA:V.dS (dO (fD d.ly) (i*31) 31)= .dS (d.at i).ds:=iu q;obtain⟨n,hn⟩:=aaJ (tK q);obtain⟨b,hB,Y⟩:=I8 d O J hd.m N (d.at i).id (d.at i).id hn;have ht:NI d i=b:=by
  rw[Bool.eq_iff_iff,Y,<- (lR d.ly false (d.at i).id).2];unfold NI;exact cR
 have Zp:=fun h=>vj i q h hj;have Ps:=k1 q;clear k1 hn;generalize d.at i=x at *;refine dM dD (fL (i:=5) dD ?_);refine jY 1 (be _) eI (ar8 d O i x) (dF (g0 ⟨A (iT q) (A (fE _) (eM hA)),?_⟩));refine NU (rG (dA 1 aaF)) (qQ hB (be _)) (!b) (fun b=>oQ d O (kr d 109 110 111 i++[(123,.bool b),(125,F x.id)])) 42 x.id [1,3,109,110,111] (oQ d O (kr d 109 110 111 i)) (ar9 d O i x b) (dF (g0 ⟨A rfl (A rfl (eM rfl)),rfl⟩)) (fun b=>by kernel_rfl) dD (fun hbf R dX=>?_) (fun hbt ch GK=>?_)
 . rw[bV]at hbf;simp only[gZ,andThen];exact dX.zS _ _ (gk (be _) eI (asa d O i) (dF (g0 ⟨eM (gK S),fun R dX=>Ps (ht.trans hbf) R (lY.norm dX)⟩)))
 . rw[di]at hbt;exact k3 ch _ (hp ch _ (N2 GK dD (Zp (ht.trans hbt)) (show(42:Int)≠0 by decide)))
theorem ash(hD:oO 48 [F d.root] d (sM d) (F (kn d.ly 100 d.root)))(vj:gS d=if kn d.ly 100 d.root>6 then(43,d.root)else(0,0)):TG ak 0 NC (dA 12 oC) (oQ d (sM d) []) (RC d):=by
 generalize kn d.ly 100 d.root=a at *;refine kA (rG (dI (dA 12 oC))) (qQ hD (be _)) (decide (a<=(6:Int))) (fun b=>fB [(3,.ptr (some (0,0))),(132,.bool b),(134,F d.root)] (mR d (sM d)) 2) 43 d.root [3] (fB [(3,.ptr (some (0,0)))] (mR d (sM d)) 2) (asb d (sM d) a) (dF (g0 ⟨A rfl (A rfl (eM rfl)),rfl⟩)) (fun b=>by kernel_rfl) dD (fun q=>?_) (fun q ch GK=>?_)
 . have hq:=aX q;rw[aA S]at vj;refine qF (eR (be _) (asc d (sM d)) (dF (g0 ⟨all_nil,_,_,_,rfl,?_⟩))) fun y R h=>G6.ZK h;exact⟨by unfold Ll;rw[vj];rfl,fun _=>⟨rfl,rfl⟩⟩
 . have hq:=bq q;rw[aD S]at vj;exact N2 GK dD vj (show(43:Int)≠0 by decide)
end
theorem aaK{d:Dc}(U:∀x∈d.ly,rq d x=true)(N:∀x∈d.ly,Dk d x=false):Clo d.ly:=fun x J p hp=>by
 unfold gA at hp;split at hp
 . rename_i h4;rw[aG]at hp;subst hp;have:=N x J;unfold Dk at this;rw[h4]at this;cases hn:jK d.ly x.of with
   |none=>rw[hn]at this;cases this
   |some n=>exact⟨n,rfl⟩
 . exact Gm (U x J) hp
theorem agt(d:Dc)(hd:BF d)(Y:∀x∈d.ly,x.kd≠3->ur x.f):TG ak 0 NC oC (dB [d.v] .nil 0) (RC d):=by
 have hw:∀q,iI d=q->q.1≠0->gS d=q:=fun q h h0=>by
  unfold gS;rw[aA (by rw[h];exact h0),h]
 refine fH 2 (be _) (arH d) all_nil ?_;refine(aaG (X:=0) (hc:=NC) (m:=2) (s:=sC0 d) (kd:=some .i64) dD rfl).zS _ _ ?_;refine kA (rG (dI (dA 2 oC))) (be _) (!xn d) (fun b=>Am d [] [(37,.bool b)]) 2 0 [1,3] (Am d [] []) (arI d []) ?_ (fun b=>by kernel_rfl) dD (fun q=>?_) (fun q ch hp=>?_)
 . repeat' (first|exact gU|refine dJ ?_ ?_)
   all_goals
    intro N;simp only[az,aF,bh,aL,bg,aS,bt]at N;refine⟨all_nil,DL (dy:=fun b=>Am d [] [(37,.bool b)]) ?_⟩;cases hq:xn d with
    |true=>
     have:=aaI hq
     first|rfl|(exfalso;simp only[gB]at N this;omega)
    |false=>
     have:=Dl hq
     first|rfl|(exfalso;simp only[gB]at N;omega)
 rotate_left
 . rw[di]at q;exact N2 hp dD (hw (2,0) (by unfold iI;rw[aD q]) (show(2:Int)≠0 by decide)) (show(2:Int)≠0 by decide)
 rw[bV]at q;obtain⟨h8,h40,_,_⟩:=Dl q;refine fH 1 (be _) (arJ d []) all_nil ?_;refine kA (rG (dI (dA 4 oC))) (fk (UO d.sp hd.s S) (be _)) (!(d.sp.any fun s=>!AT s)) (fun b=>Am d [] [(43,.bool b)]) 23 0 [1,3] (Am d [] []) (arK d [] _) (dF (g0 ⟨eM rfl,rfl⟩)) (fun b=>by kernel_rfl) dD (fun q2=>?_) (fun q2 ch hp=>?_)
 rotate_left
 . rw[di]at q2;refine N2 hp dD (hw (23,0) ?_ (show(23:Int)≠0 by decide)) (show(23:Int)≠0 by decide);unfold iI;rw[aA (by rw[q];decide)];cases hf:lQ (fun i=>!AT (d.sp.getD i D8)) d.sp.length with
   |some i=>rfl
   |none=>
    exfalso;have:=pq hf;obtain⟨s,hs,vQ⟩:=List.any_eq_true.1 q2;obtain⟨i,hi,rfl⟩:=ck hs;have:=this i hi;rw[ax,au hi]at this;rw[cq,vQ]at this;cases this
 rw[bV]at q2;have Ca:lQ (fun i=>!AT (d.sp.getD i D8)) d.sp.length=none:=gL fun j hj=>by
  rw[dc]at q2;rw[ax,au hj,cq];have:=q2 _ (bJ hj);simpa using this
 have hwh:iI d=match lQ (tJ d) d.ly.length with
  |some i=>(40,(d.at i).id)
  |none=>if mK d=true then(40,d.root)else(0,0):=by
  unfold iI;rw[aA (by rw[q];decide),Ca];rfl
 refine fH 1 (be _) (arL d []) all_nil ?_;refine dM dD (asd q (fun i hi h1 hj=>hw _ (by rw[hwh,jq hi h1 hj]) (show(40:Int)≠0 by decide)) (fun ch R h=>h) fun h1 R dX=>?_);simp only[andThen];refine dX.zS _ _ ?_;rw[gL h1]at hwh;simp only at hwh;have J:=agr d;have nx:mK d=false->TG ak 0 NC (dA 9 oC) (oQ d (sM d) []) (RC d):=fun WC=>by
  rw[aA (by rw[WC];decide)]at hwh;have hw0:(iI d).1=0:=by rw[hwh]
  have tQ:gS d=_:=aD hw0;refine dM dD (ase hd Y S (fun i hi h1 hj=>by rw[tQ,jq hi h1 hj]) (fun ch R h=>h) fun h1 R dX=>?_);rw[gL h1]at tQ;simp only[andThen];refine dX.zS _ _ ?_;have hl:oZ d=match lQ (BE d) d.ly.length with
   |some i=>(40,(d.at i).id)
   |none=>match lQ (Ae d) d.ly.length with
    |some i=>(40,(d.at i).id)
    |none=>(0,0):=rfl
  refine dM dD (asf J hd S (fun h=>?_) (fun ch R h=>h) fun C R dX=>?_)
  . rw[tQ,hl];rw[hl]at h;simp only;cases e2:lQ (BE d) d.ly.length with
    |some i=>rfl
    |none=>
     rw[e2]at h;simp only at h ⊢;cases e3:lQ (Ae d) d.ly.length with
     |some i=>rfl
     |none=>rw[e3]at h;exact absurd rfl h
  have e2:lQ (BE d) d.ly.length=none:=by
   cases e:lQ (BE d) d.ly.length with
   |none=>rfl
   |some i=>rw[hl,e]at C;exact absurd C (show(40:Int)≠0 by decide)
  have e3:lQ (Ae d) d.ly.length=none:=by
   cases e:lQ (Ae d) d.ly.length with
   |none=>rfl
   |some i=>rw[hl,e2]at C;simp only at C;rw[e]at C;exact absurd C (show(40:Int)≠0 by decide)
  rw[e2]at tQ;simp only at tQ;rw[e3]at tQ;simp only at tQ;simp only[andThen];refine dX.zS _ _ ?_;have hK:∀x∈d.ly,rq d x=true:=fun x J=>by
   obtain⟨j,hj,rfl⟩:=Af J;have:=pq e2 j hj;unfold BE at this;simpa using this
  have xB:=aaK hK fun x J=>by
   obtain⟨j,hj,rfl⟩:=Af J;exact pq e3 j hj
  refine dM dD (asg J hd S xB (fun i hi h1 hj=>by rw[tQ,jq hi h1 hj]) (fun ch R h=>h) fun h4 R dX=>?_);rw[gL h4]at tQ;simp only at tQ;simp only[andThen];refine dX.zS _ _ ?_;have hac:EX d.ly false:=fun x J=>by
   obtain⟨j,hj,rfl⟩:=Af J;exact h4 j hj
  have hN:=qP hK;have agu:∃n,jK d.ly d.root=some n:=by
   cases hn:jK d.ly d.root with
   |some n=>exact⟨n,rfl⟩
   |none=>unfold mK at WC;rw[hn]at WC;cases WC
  obtain⟨n,hn⟩:=agu;exact ash (KT d (sM d) J hd.m xB (Gl d.ly false) (L4 hac) 100 eX d.root n hn (by unfold Gl;have:=qO d.ly false d.root;omega)) tQ
 have bad:mK d=true->∀ch,Bo (xx (40,d.root)) ch->RC d (.panic ch) (oQ d (sM d) [(91,.bool false),(93,F d.root)]):=fun h ch hp=>by
  rw[aD h]at hwh;exact N2 hp dD (hw _ hwh (show(40:Int)≠0 by decide)) (show(40:Int)≠0 by decide)
 cases hn:jK d.ly d.root with
 |some n=>
  have hL:=tL J hn;have hr:mK d=((d.at n).kd !=2):=by unfold mK;rw[hn]
  generalize d.at n=y at *;refine jY 1 (qQ hL (be _)) eI (arS d (sM d) y) (dF (g0 ⟨A rfl (A rfl (eM rfl)),?_⟩));refine kA (rG (dI (dA 8 oC))) (be _) (!mK d) (fun b=>oQ d (sM d) [(91,.bool b),(93,F d.root)]) 40 d.root [1,3] (oQ d (sM d) []) (arU d (sM d) y) (dJ (g1 fun h=>⟨all_nil,DL (dy:=fun b=>oQ d (sM d) [(91,.bool b),(93,F d.root)]) ?_⟩) (dF (g1 fun h=>⟨all_nil,DL (dy:=fun b=>oQ d (sM d) [(91,.bool b),(93,F d.root)]) ?_⟩))) (fun b=>by kernel_rfl) dD (fun q=>nx (by simpa using q)) (fun q ch hp=>bad (by simpa using q) ch hp)
  . rw[hr];unfold bne;rw[h];rfl
  . rw[hr];unfold bne;rw[h];rfl
 |none=>
  have hL:=Dp J hn;have hr:mK d=true:=by unfold mK;rw[hn]
  refine jY 1 (qQ hL (be _)) eI (arT d (sM d)) (dF (g0 ⟨A rfl (A rfl (eM rfl)),?_⟩));exact kA (rG (dI (dA 8 oC))) (be _) false (fun b=>oQ d (sM d) [(91,.bool b),(93,F d.root)]) 40 d.root [1,3] (oQ d (sM d) []) (arV d (sM d)) (dF (g0 ⟨all_nil,rfl⟩)) (fun b=>by kernel_rfl) dD (fun q=>by cases q) (fun q ch hp=>bad hr ch hp)
set_option maxRecDepth 10000
def agv(d:Dc)(v:V)(h1:I es)(n1:Nat):ag->I es->Nat->Option (ah×V×I es×Nat):=fun args h k=>some ([args=[d.v],h= .nil,k=0],v,h1,n1)
theorem R5{d:Dc}(hd:BF d)(Y:∀x∈d.ly,x.kd≠3->ur x.f)(h0:(gS d).1=0):kj ak 42 (vX (agv d pT (mR d (sM d)) 2)):=
 ZL mo po .ret Rz (aE dD) Tryz.func42 (code:=dL Tryz.f42) dD fun args h k fm v h' k' e hA=>by
  simp only[agv,aq,aB]at e;obtain⟨rfl,rfl,rfl,rfl⟩:=e;have h1:args=[d.v]:=hA _ (by simp);have C:h= .nil:=hA (h= .nil) (by simp);have h3:k=0:=hA (k=0) (by simp);subst h1 C h3;refine⟨dD,qF (agt d hd Y) fun y s h=>?_⟩;obtain⟨m,K,o,h,n,e,q1,q2⟩:=h;exact⟨m,K,o,h,n,e,by rw[q1];exact aD h0,(q2 h0).1,(q2 h0).2⟩
theorem N3{d:Dc}(hd:BF d)(Y:∀x∈d.ly,x.kd≠3->ur x.f)(h0:(gS d).1≠0):Ry ak 42 [d.v] (xx (gS d)):=
 Mc (o:=.lU (xx (gS d))) mo po Tryz.func42 (code:=dL Tryz.f42) dD dD dD rfl (qF (agt d hd Y) fun y s h=>by
  obtain⟨m,K,o,h,n,e,q1,q2⟩:=h;exact⟨m,K,o,h,n,e,by rw[q1];exact aA h0⟩)
noncomputable def BP:gm:=fun _ _ _ _=>none
theorem GL:gY ak BP:=fun _ _ _ _ _ _ _ e=>by cases e
section
variable{X hc:Nat}{c:Code}{s:St}{Q Q1:Exit->St->Prop}{fn:Func}
theorem R6{ops:Array Oper}{o:Oper}{rest:List Oper}(h:Ow ak X hc ops [o] s Q1)(h1:∀R,Q1 .normal R->Ow ak X hc ops rest R Q)(C:∀y R,y≠ .normal->Q1 y R->Q y R):Ow ak X hc ops (o::rest) s Q:=fun E a w hm r hn k=>by
 show wpListIn (fz none) 0 ak ops hm ([o]++rest) a w;refine tC _ ?_;refine h E a w _ r hn fun y R E' a' w' q u od r'=>?_;cases y with
 |normal=>exact h1 R q E' a' w' hm r' od fun y s2 E2 a2 w2 q2 u2 qX r2=>k y s2 E2 a2 w2 q2 (u.trans u2) qX r2
 |_=>exact k _ R E' a' w' (C _ R (by intro z;cases z) q) u od r'
noncomputable def toC(k:Nat)(c:Code)(s:St):Option St:=match gH ak BP 20 (dU 2 c) s with
 |some (.normal,s1)=>match gH ak BP 20 (Ec k (dI (dA 2 c))) s1 with
  |some (.normal,s2)=>some s2
  |_=>none
 |_=>none
noncomputable def frC(X:Nat)(fn:Func)(ops:Array Oper)(rest:List Oper)(c:Code)(s:St):Option (qw×I es×Nat):=match jr ak BP ops rest s with
 |some (.normal,s3)=>match gH ak BP 20 c s3 with
  |some (.ret,s4)=>NT ak X fn s4 .ret
  |_=>none
 |_=>none
noncomputable def agw(X:Nat)(fn:Func)(f0 k:Nat)(c:Code)(sp:ag->I es->Nat->Option (ah×V×I es×Nat))(s:St):Option (ah×qw×I es×Nat):=match toC k c s with
 |some s2=>match lI k (dI (dA 2 c))with
  |o::rest=>match o.guard with
   |none=>match eA ak o s2.T s2.h s2.n with
    |some (.call f args)=>match Nat.beq f f0 with
     |true=>match sp args s2.h s2.n with
      |some (fm,v,C,n2)=>match Go.Eng.jB s2.T o.dst v with
       |some T=>match frC X fn (NS (dI (dA 2 c))) rest (dY (dA 2 c)) { s2 with T:=T,h:=C,n:=n2 }with
        |some (o,h,n)=>some (fm,o,h,n)
        |none=>none
       |none=>none
      |none=>none
     |false=>none
    |_=>none
   |some _=>none
  | []=>none
 |none=>none
def N4(hc k:Nat)(c:Code):Bool:=qf (dA 2 c)&&(eV hc c&&(eV hc (dI (dA 2 c))&&(eV hc (dY (dA 2 c))&&(Ed k (dI (dA 2 c))&&(lI k (dI (dA 2 c))).all fun o=>match o.dst with|some d=>decide (d<hc)|none=>true))))
theorem R7{k:Nat}{s2:St}(e:toC k c s=some s2)(h:Ow ak X hc (NS (dI (dA 2 c))) (lI k (dI (dA 2 c))) s2 (andThen (fun R=>TG ak X hc (dY (dA 2 c)) R Q) Q))(hs:N4 hc k c=true):TG ak X hc c s Q:=by
 unfold N4 at hs;simp only[ay]at hs;obtain⟨h1,C,h3,_,h5,_⟩:=hs;unfold toC at e;split at e
 case h_2=>cases e
 rename_i s1 e1;split at e
 case h_2=>cases e
 rename_i s2' e2;obtain rfl:=eU e;refine yo (iX:=20) GL mo 2 C e1 (dM h1 (Mb (iX:=20) k GL mo h3 h5 e2 h))
theorem Jm{k:Nat}(hs:N4 hc k c=true):∀x∈lI k (dI (dA 2 c)),ng hc x.dst:=fun x J d hd=>by
 unfold N4 at hs;simp only[ay]at hs;have:=br.1 hs.2.2.2.2.2 x J;rw[hd]at this;exact aX this
theorem U6{f0 k:Nat}{sp:ag->I es->Nat->Option (ah×V×I es×Nat)}{fm:ah}{o1:qw}{h:I es}{n:Nat}{s':qw->I es->Nat->Prop}(hO:kj ak f0 sp)(e:agw X fn f0 k c sp s=some (fm,o1,h,n))(hA:∀a∈fm,a)(hR:s' o1 h n)(hs:N4 hc k c=true:=by kernel_rfl):TG ak X hc c s (G6 ak X fn s'):=by
 have hd:=Jm hs;have En:eV hc (dY (dA 2 c))=true:=by
  unfold N4 at hs;simp only[ay]at hs;exact hs.2.2.2.1
 unfold agw at e;split at e
 case h_2=>cases e
 rename_i s2 e2;refine R7 e2 ?_ hs;split at e
 case h_2=>cases e
 rename_i o rest hl;rw[hl]at hd ⊢;split at e
 case h_2=>cases e
 rename_i hg;split at e
 case h_2=>cases e
 rename_i f args pV;split at e
 case h_2=>cases e
 rename_i hf;have hf:=aJ hf;subst hf;split at e
 case h_2=>cases e
 rename_i A2 v C n2 Ca;split at e
 case h_2=>cases e
 rename_i T y9;split at e
 case h_2=>cases e
 rename_i o3 h3 n3 hfc;simp only[aq,aB]at e;obtain⟨rfl,rfl,rfl,rfl⟩:=e;unfold frC at hfc;split at hfc
 case h_2=>cases hfc
 rename_i s3 e3;split at hfc
 case h_2=>cases hfc
 rename_i s4 e4;refine R6 (Q1:=fun y R=>y= .normal/\R={ s2 with T:=T,h:=C,n:=n2 }) (Gx (hd o (bw ..)) hg pV hO Ca hA y9 ⟨rfl,rfl⟩) (fun R q=>?_) fun y R hy q=>absurd q.1 hy;obtain⟨_,rfl⟩:=q;refine Dt GL (fun x J=>hd x (aZ _ J)) e3 rfl ?_;simp only[andThen];exact qG (iX:=20) GL mo En e4 rfl ⟨.ret,trivial,_,_,_,hfc,hR⟩
end
section
variable{d:Dc}(hd:BF d)(Y:∀x∈d.ly,x.kd≠3->ur x.f)
include hd Y
end
set_option maxRecDepth 10000
theorem N5{l:List Int}{i j:Nat}{k:Int}(O1:i<j)(hj:j<l.length)(h1:l.getD i 0=k)(C:l.getD j 0=k):2<=l.count k:=by
 have e:l.count k=(l.take j).count k+(l.drop j).count k:=by rw[<- List.count_append,List.take_append_drop]
 have m1:k∈l.take j:=by
  rw[ax,au S,cq]at h1;rw[<- h1];exact List.mem_take_iff_getElem.2 ⟨i,S,rfl⟩
 have m2:k∈l.drop j:=by
  rw[ax,au hj,cq]at C;rw[<- C];exact List.mem_drop_iff_getElem.2 ⟨0,S,by simp⟩
 have:=List.count_pos_iff.2 m1;have:=List.count_pos_iff.2 m2;omega
theorem R8{l:List Int}{j:Nat}{k:Int}(N:l.count k<=1)(hj:j<l.length)(h:l.getD j 0=k):l.findIdx? (. ==k)=some j:=by
 rw[bZ];have hg:=h;rw[ax,au hj,cq]at hg;refine⟨hj,by simpa using hg,fun i hi q=>?_⟩;have q:=cm.1 q;have:=N5 hi hj (by rw[ax,au S,cq];exact q) h;omega
theorem BQ{l:List Int}{j:Nat}(hj:j<l.length):l.getD j 0∈l:=by
 rw[ax,au hj];exact bJ hj
theorem yQ{k:Int}{x:eJ}{j:Nat}(C:x.kd=2)(hj:j<x.kids.length)(U:x.kids.getD j 0=k):∀{ls:List eJ},(lH ls).count k=1->x∈ls->lP ls k=some (x.id,j)
 | [],_,J=>by cases J
 |y::ls,N,J=>by
  have e:(lH (y::ls)).count k=y.kids.count k+(lH ls).count k:=by
   have:lH (y::ls)=y.kids++lH ls:=rfl;rw[this,List.count_append]
  rw[e]at N;unfold lP;by_cases FR:x∈ls
  . have hp:0<(lH ls).count k:=List.count_pos_iff.2 (List.mem_flatten.2 ⟨_,bS.2 ⟨x,FR,rfl⟩,U▸BQ hj⟩);have h0:y.kids.count k=0:=by omega
    have hn:y.kids.findIdx? (. ==k)=none:=by
     rw[cV];intro z hz;rw[List.count_eq_zero]at h0;exact cr.2 fun q=>h0 (q▸hz)
    rw[hn];have:(if y.kd=2 then(none:Option Nat)else none)=none:=by split<;>rfl
    rw[this];exact yQ C hj U S FR
  . obtain rfl:x=y:=(az.1 J).resolve_right FR;rw[aD C,R8 S hj U]
section
variable{d:Dc}(h:jW d)
include h
theorem jW.DI{k:Int}(U:∃n,jK d.ly k=some n)(hr:k≠d.root):(lH d.ly).count k=1:=by
 obtain⟨n,hn⟩:=U;obtain⟨_,hid,K⟩:=jv hn;have:=Gn (h.k _ K);rw[hid,aA hr,BD]at this;exact this
theorem jW.par{k:Int}(U:∃n,jK d.ly k=some n)(hr:k≠d.root):∃g∈d.ly,∃j,g.kd=2/\j<g.kids.length/\g.kids.getD j 0=k/\lP d.ly k=some (g.id,j):=by
 have N:=h.DI U hr;obtain⟨ks,HV,hk2⟩:=List.mem_flatten.1 (List.count_pos_iff.1 (by omega:0<(lH d.ly).count k));obtain⟨g,hg,rfl⟩:=bS.1 HV;have C:g.kd=2:=by
  by_cases q:g.kd=2
  . exact q
  . rw[h.Rs hg q]at hk2;cases hk2
 obtain⟨j,hj,e⟩:=ck hk2;have e2:g.kids.getD j 0=k:=by rw[ax,au hj];exact e
 exact⟨g,hg,j,C,hj,e2,yQ C hj e2 N hg⟩
theorem jW.R9{g:eJ}(hg:g∈d.ly){k:Int}(U:k∈g.kids):g.kd=2/\(∃n,jK d.ly k=some n)/\k≠d.root:=by
 have C:g.kd=2:=by
  by_cases q:g.kd=2
  . exact q
  . rw[h.Rs hg q]at U;cases U
 refine⟨C,Gm (h.k _ hg) U,fun e=>?_⟩;obtain⟨n,hn⟩:=Gm (h.k _ hg) U;obtain⟨_,hid,K⟩:=jv hn;have:=Gn (h.k _ K);rw[hid,aD e,BD,List.count_eq_zero]at this;exact this (List.mem_flatten.2 ⟨_,bS.2 ⟨g,hg,rfl⟩,U⟩)
theorem jW.atG{g:eJ}(hg:g∈d.ly):∃m,jK d.ly g.id=some m/\d.ly.getD m gv=g:=by
 obtain⟨m,h1,_,C⟩:=IU h.uniq hg;exact⟨m,h1,C⟩
omit h in
theorem E9{g:eJ}{m:Nat}(K:jK d.ly g.id=some m)(hg:d.ly.getD m gv=g)(C:g.kd≠4){k:Int}(U:k∈g.kids)(gj:Bool):k∈iB d.ly gj g.id:=by
 unfold iB;rw[K];simp only;refine List.mem_append_left _ ?_;rw[hg];unfold gA;rw[aA C];exact U
end
set_option maxRecDepth 10000
section
variable{d:Dc}
theorem jW.bd(h:jW d):∀x∈d.ly,x.kd≠3->ur x.f:=fun x J h3=>by
 have h1:=(BI (h.f x J)).2.2.2.1;unfold G5 Gc at h1;simp only[ay]at h1;have C:=h1.2.2.2.2.1;rw[show(x.kd==3)=false by simpa using h3,bR]at C;unfold tH at C;simp only[ay,cm]at C;obtain⟨e1,e2,e3,e4,_⟩:=C;refine⟨?_,?_,?_,?_⟩
 . rw[e1];unfold me;decide
 . rw[e2];unfold me;decide
 . rw[e3];unfold me;decide
 . rw[e4];unfold me;decide
variable(hd:BF d)(Y:∀x∈d.ly,x.kd≠3->ur x.f)
include hd Y
end
set_option maxRecDepth 10000
set_option maxRecDepth 10000
def yR(ls:List eJ):Nat->Int->List Int
 |0,_=>[]
 |n+1,x=>match jK ls x with
  |some m=>(ls.getD m gv).kids.flatMap fun k=>k::yR ls n k
  |none=>[]
theorem N6{f:Int->List Int}{ps:List Int}{i:Nat}(h:i<ps.length):(ps.take (i+1)).flatMap f=(ps.take i).flatMap f++f (ps.getD i 0):=by
 rw[bY,getD_some 0 h,Option.toList_some,List.flatMap_append];simp
section
variable{d:Dc}(h:jW d)
include h
end
set_option maxRecDepth 10000
def tT(d:Dc)(x:Int):List Int:=x::yR d.ly 100 x
theorem yS(y:Int)(f:Int->List Int):∀ks:List Int,(ks.flatMap f).count y=(ks.map fun k=>(f k).count y).sum
 | []=>rfl
 |k::ks=>by rw[List.flatMap_cons,List.count_append,bQ,List.sum_cons,yS y f ks]
theorem Mv(g h:Int->Nat):∀ks:List Int,(ks.map fun k=>g k+h k).sum=(ks.map g).sum+(ks.map h).sum
 | []=>rfl
 |k::ks=>by simp only[bQ,List.sum_cons,Mv g h ks];omega
theorem Mw(y:Int):∀ks:List Int,(ks.map fun k=>if k=y then 1 else 0).sum=ks.count y
 | []=>rfl
 |k::ks=>by
  rw[bQ,List.sum_cons,Mw y ks,List.count_cons];by_cases q:k=y
  . simp[q];omega
  . simp[q]
theorem xA{f g:Int->List Int}:∀{ks:List Int},(∀k∈ks,f k=g k)->ks.flatMap f=ks.flatMap g
 | [],_=>rfl
 |k::ks,h=>by rw[List.flatMap_cons,List.flatMap_cons,h k (by simp),xA fun k U=>h k (by simp[U])]
section
variable{d:Dc}(h:jW d)
include h
theorem yT(x:Int):Gl d.ly false x<99:=by
 unfold Gl;have:=qO d.ly false x;have:=qP h.k;have:=h.big;omega
theorem Lm:∀(n k:Nat) (x:Int),Gl d.ly false x<n->Gl d.ly false x<k->yR d.ly n x=yR d.ly k x
 |0,_,_,h1,_=>absurd h1 (bL _)
 |_+1,0,_,_,C=>absurd C (bL _)
 |n+1,k+1,x,h1,C=>by
  show(match jK d.ly x with|some m=>(d.ly.getD m gv).kids.flatMap (fun j=>j::yR d.ly n j)|none=>[])=(match jK d.ly x with|some m=>(d.ly.getD m gv).kids.flatMap (fun j=>j::yR d.ly k j)|none=>[]);cases K:jK d.ly x with
  |none=>rfl
  |some m=>
   obtain⟨_,hid,tc⟩:=jv K;refine xA fun j hj=>?_;obtain⟨DE,_,_⟩:=h.R9 tc hj;have hs:=Q6 h.a (E9 (g:=d.ly.getD m gv) (by rw[hid];exact K) rfl (by rw[DE];decide) hj false);rw[hid]at hs;rw[Lm n k j S S]
theorem yU{x:Int}{m:Nat}(K:jK d.ly x=some m):yR d.ly 100 x=(d.at m).kids.flatMap (tT d):=by
 show(match jK d.ly x with|some m=>(d.ly.getD m gv).kids.flatMap (fun j=>j::yR d.ly 99 j)|none=>[])=_;rw[K];exact xA fun j _=>by unfold tT;rw[Lm h 99 100 j (yT h j) (by have:=yT h j;omega)]
theorem Dw{x:Int}{m:Nat}(K:jK d.ly x=some m){k:Int}(U:k∈(d.at m).kids):Gl d.ly false k<Gl d.ly false x/\∃q,jK d.ly k=some q:=by
 obtain⟨_,hid,tc⟩:=jv K;obtain⟨C,Kh,_⟩:=h.R9 tc U;have hs:=Q6 h.a (E9 (g:=d.at m) (by rw[show(d.at m).id=x from hid];exact K) rfl (by rw[show(d.at m).kd=2 from C];decide) U false);rw[show(d.at m).id=x from hid]at hs;exact⟨hs,Kh⟩
theorem Sa:∀(n:Nat) (x:Int),Gl d.ly false x<n->(∃m,jK d.ly x=some m)->∀z∈tT d x,∃q,jK d.ly z=some q
 |0,_,hr,_,_,_=>absurd hr (bL _)
 |n+1,x,hr,⟨m,K⟩,z,hz=>by
  rcases az.1 hz with rfl|q
  . exact⟨m,K⟩
  . rw[yU h K]at q;obtain⟨k,U,hz⟩:=List.mem_flatMap.1 q;obtain⟨k1,k2⟩:=Dw h K U;exact Sa n k S k2 z hz
theorem Jn:∀(n:Nat) (x:Int),Gl d.ly false x<n->(∃m,jK d.ly x=some m)->(tT d x).count d.root=if x=d.root then 1 else 0
 |0,_,hr,_=>absurd hr (bL _)
 |n+1,x,hr,⟨m,K⟩=>by
  obtain⟨_,hid,tc⟩:=jv K;have h0:(yR d.ly 100 x).count d.root=0:=by
   rw[yU h K,yS];have:∀ks:List Int,(∀k∈ks,(tT d k).count d.root=0)->(ks.map fun k=>(tT d k).count d.root).sum=0:=fun ks=>by
    induction ks with
    |nil=>intro _;rfl
    |cons k ks ih=>intro U;rw[bQ,List.sum_cons,U k (by simp),ih fun k q=>U k (by simp[q])]
   refine this _ fun k U=>?_;obtain⟨k1,k2⟩:=Dw h K U;rw[Jn n k S k2,aA (h.R9 tc U).2.2]
  unfold tT;rw[List.count_cons,h0];simp
theorem Mx{y:Int}{g:eJ}{j:Nat}(hg:g∈d.ly)(C:g.kd=2)(hj:j<g.kids.length)(hy:g.kids.getD j 0=y):∀(n:Nat) (x:Int),Gl d.ly false x<n->(∃m,jK d.ly x=some m)->(tT d x).count y=(if x=y then 1 else 0)+(tT d x).count g.id
 |0,_,hr,_=>absurd hr (bL _)
 |n+1,x,hr,⟨m,K⟩=>by
  obtain⟨_,hid,tc⟩:=jv K;have hyk:y∈g.kids:=hy▸BQ hj;obtain⟨_,T8,hyr⟩:=h.R9 hg hyk;have N:=h.DI T8 hyr;have hp:=yQ C hj hy N hg;have FR:(d.at m).kids.count y=if x=g.id then 1 else 0:=by
   by_cases q:x=g.id
   . rw[aD q];obtain⟨m2,e1,e2⟩:=h.atG hg;rw[<- q,K]at e1;obtain rfl:m=m2:=by simpa using e1
     have e3:(d.at m)=g:=e2;rw[e3];have u1:0<g.kids.count y:=List.count_pos_iff.2 hyk;have u2:g.kids.count y<=1:=by
      rw[<- N];unfold lH;exact List.Sublist.count_le y (List.sublist_flatten_of_mem (bS.2 ⟨g,hg,rfl⟩))
     omega
   . rw[aA q,List.count_eq_zero];intro agx;obtain⟨i,hi,e⟩:=ck agx;have e2:(d.at m).kids.getD i 0=y:=by rw[ax,au hi];exact e
     have:=yQ (x:=d.at m) (h.R9 tc agx).1 hi e2 N tc;rw[hp]at this;simp only[aq,aB]at this;exact q (by rw[this.1];exact hid.symm)
  have hs:(yR d.ly 100 x).count y=(d.at m).kids.count y+(yR d.ly 100 x).count g.id:=by
   rw[yU h K,yS,yS,<- Mw y,<- Mv];congr 1;refine List.map_congr_left fun k U=>?_;obtain⟨k1,k2⟩:=Dw h K U;exact Mx hg C hj hy n k S k2
  unfold tT;rw[List.count_cons,List.count_cons,hs,FR];simp only[cm];omega
theorem BR:∃n,jK d.ly d.root=some n:=by
 have WC:=(ve h.w).2.2.2;unfold mK at WC;cases hn:jK d.ly d.root with
 |some n=>exact⟨n,rfl⟩
 |none=>rw[hn]at WC;cases WC
theorem GM:∀(b:Nat) (y:Int),100<=b+Gl d.ly false y->(∃n,jK d.ly y=some n)->(tT d d.root).count y=1
 |0,y,Y,_=>by have:=yT h y;omega
 |b+1,y,Y,Kh=>by
  by_cases q:y=d.root
  . rw[q,Jn h 99 d.root (yT h _) (BR h),aD rfl]
  . obtain⟨g,hg,j,C,hj,e,_⟩:=h.par Kh q;obtain⟨m,e1,e2⟩:=h.atG hg;have U:=Dw h (x:=g.id) e1 (k:=y) (by rw[show d.at m=g from e2,<- e];exact BQ hj);rw[Mx h hg C hj e 99 d.root (yT h _) (BR h),aA (fun z=>q z.symm),GM b g.id S ⟨m,e1⟩]
theorem U7:(tT d d.root).Nodup:=by
 rw[List.nodup_iff_count];intro z;by_cases q:z∈tT d d.root
 . rw[GM h 100 z (Nat.le_add_right _ _) (Sa h 99 d.root (yT h _) (BR h) z q)];exact aK _
 . rw[List.count_eq_zero.2 q];exact aN _
theorem asi{x:eJ}(J:x∈d.ly):x.id∈tT d d.root:=by
 obtain⟨m,e1,_⟩:=h.atG J;exact List.count_pos_iff.1 (by rw[GM h 100 x.id (Nat.le_add_right _ _) ⟨m,e1⟩];exact Nat.one_pos)
theorem agy:(tT d d.root).length=d.ly.length:=by
 have hp:List.Perm (tT d d.root) (d.ly.map (·.id)):=by
  rw[List.perm_ext_iff_of_nodup (U7 h) h.uniq];intro z;constructor
  . intro hz;obtain⟨q,hq⟩:=Sa h 99 d.root (yT h _) (BR h) z hz;obtain⟨_,hid,tc⟩:=jv hq;exact bS.2 ⟨_,tc,hid⟩
  . intro hz;obtain⟨x,J,rfl⟩:=bS.1 hz;exact asi h J
 have:=hp.length_eq;rwa [bG]at this
theorem Ln{ks:List Int}{j:Nat}(hj:j<ks.length)(f:Int->List Int):ks.flatMap f=(ks.take j).flatMap f++f (ks.getD j 0)++(ks.drop (j+1)).flatMap f:=by
 rw[<- N6 hj,<- List.flatMap_append,List.take_append_drop]
theorem My:∀(b:Nat) (y:Int),100<=b+Gl d.ly false y->(∃n,jK d.ly y=some n)->∃fm aj,tT d d.root=fm++tT d y++aj
 |0,y,Y,_=>by have:=yT h y;omega
 |b+1,y,Y,Kh=>by
  by_cases q:y=d.root
  . exact⟨[],[],by rw[q];simp⟩
  . obtain⟨g,hg,j,C,hj,e,_⟩:=h.par Kh q;obtain⟨m,e1,e2⟩:=h.atG hg;have U:=Dw h (x:=g.id) e1 (k:=y) (by rw[show d.at m=g from e2,<- e];exact BQ hj);obtain⟨fm,aj,hAB⟩:=My b g.id S ⟨m,e1⟩;have hT:tT d g.id=(g.id::(g.kids.take j).flatMap (tT d))++tT d y++(g.kids.drop (j+1)).flatMap (tT d):=by
     conv=>lhs;unfold tT
     rw[yU h e1,show d.at m=g from e2,Ln h hj (tT d),e];simp
    exact⟨fm++(g.id::(g.kids.take j).flatMap (tT d)),(g.kids.drop (j+1)).flatMap (tT d)++aj,by rw[hAB,hT];simp⟩
end
section
variable{d:Dc}(h:jW d)
include h
end
set_option maxRecDepth 10000
def mTz:List (FuncId×ag×V):=[(8,[],.bool true)]
theorem aaM:fe ak (LK mTz):=PC fun x J=>by
 simp only[mTz,az,aF,bh]at J;subst J;exact san
set_option maxRecDepth 10000
theorem asl(xs:List Int)(d:Dc):H (M (fa 34 [fF xs,L 8] d.v ek) []) [] 0 Tryz.f10 [] (dL Tryz.f10) (dB [fF xs] .nil 0)
  [([],[V.jJ [fF xs,L 8]=[fF xs,L 8]],.ret d.v .nil 0)]:=G.W
theorem aaN(xs:List Int):dV ak 10 [fF xs] (vh xs 8).v:=by
 have h:=Zs xs 8 eX;generalize vh xs 8=d at *;exact fc Tryz.func10 (eR (fk h (be _)) (asl xs d) (dF (g0 ⟨eM rfl,_,_,_,rfl,rfl⟩)))
section
variable{d:Dc}(h:jW d)
include h
end
set_option maxRecDepth 10000
section
variable{d:Dc}(h:jW d)
include h
end
end Go.Proofs.YtmjggdmekboefaaGreat
