/- Lemmas on the chunk store. No conditions. -/
import Derived.Test.YtfihojpgobmmdaaGreatDoorJointW07
import Derived.Test.YtfihojpgobmmdaaGreatDoorJointW08
set_option linter.unusedVariables false
set_option linter.unusedSimpArgs false
set_option linter.unusedSectionVars false
namespace Go.Proofs.YtfihojpgobmmdaaGreatDoor
open Go Go.Eng
def LR:ag->Option (ah×V)
 | [.dV _ n Q,.fn (.func 41) [] []]=>some ([Q=strs (dI Q),n=(dI Q).length,n<=1000000,∀x∈dI Q,x.length=32],.int .i64 (-1))
 |_=>none
theorem abO:jK ak 73 (FP LR):=by
 refine Jj (ax U) fun args cU v e hA=>?_;unfold LR at e;split at e
 . rename_i f n Q;obtain⟨rfl,rfl⟩:=fg e;have e1:Q=strs (dI Q):=hA _ (by simp);have e2:n=(dI Q).length:=hA (n=(dI Q).length) (by simp);have e3:n<=1000000:=hA (n<=1000000) (by simp);have e4:∀x∈dI Q,x.length=32:=hA (∀x∈dI Q,x.length=32) (by simp);generalize dI Q=ps at *;subst e1 e2;exact iq mo po Tryz.func73 U U rfl rfl (fB (abJ f ps e3 e4) fun y s h=>by
    obtain⟨hy,v,h',n',e,rfl,_,_⟩:=h;exact⟨hy,_,h',n',e,.self⟩)
 . cases e
section
variable(a:Bool)(lo:Option (Nat×Nat×B))(l:List (Nat×List (Nat×pC)))(x F R D:Int)(C O:ae)
def Qq:Int:=if a=true then IntKind.i64.wrap (x-1)else x
def Ic:Prop:=a=true->0<x/\x<=1000000
abbrev wL[eB]:Int:=Qq eB.on x
abbrev BZ[eB]:Prop:=Ic eB.on x
def LU:No:=fun p args=>match args with
 | [.ptr (some (3,0))]=>some ([p.off=false,Ic p.arm p.D],.bool true,dN { p with D:=Qq p.arm p.D },7)
 |_=>none
theorem am7:dc EY [] 7 Tryz.f53 [] (dO Tryz.f53) (cZ [.ptr (some (3,0))] (dN ⟨lo,F,R,false,false,D,C,O⟩) 7) [([],[],.ret (.bool true) (dN ⟨lo,F,R,false,false,D,C,O⟩) 7)]:=by
 rcases lo with _|⟨a,c,b⟩<;>exact cT.ef
theorem am8:dc EY [(19,.di (.bool false))] 7 Tryz.f53 [] (dO Tryz.f53) (cZ [.ptr (some (3,0))] (dN ⟨lo,F,R,false,true,D,C,O⟩) 7) [([],[jC (decide (IntKind.i64.wrap (D-1)<0))],.ret (.bool true) (dN ⟨lo,F,R,false,true,IntKind.i64.wrap (D-1),C,O⟩) 7)]:=by
 rcases lo with _|⟨a,c,b⟩<;>exact cT.ef
theorem abP:jK ak 53 (Po LU):=by
 refine Np (ax U) Tryz.func53 (code:=dO Tryz.f53) U fun p args cU v1 X n1 e hA=>?_;obtain⟨lo,F,R,off,arm,D,C,O⟩:=p;unfold LU at e;split at e
 case h_2=>cases e
 simp only[an,aB]at e;obtain⟨rfl,rfl,rfl,rfl⟩:=e;have X:off=false:=hA (off=false) (by simp);have h2:Ic arm D:=hA (Ic arm D) (by simp);subst X;refine⟨U,?_⟩;cases arm with
 |false=>
  refine eZ Pp (am7 lo F R D C O) (dG ?_);exact⟨cW,_,_,_,rfl,rfl,rfl,rfl⟩
 |true=>
  have h3:=h2 rfl;refine eZ Pp (am8 lo F R D C O) (dG ?_);refine⟨eS (aL V.bool (bz ?_)),_,_,_,rfl,rfl,rfl,rfl⟩;rw[eV L L];omega
noncomputable abbrev W14:jY:=kC 53 (Po LU) (kC 73 (FP LR) W13)
theorem LV:gm ak W14:=fh abP (fh abO LO)
noncomputable abbrev mD:e9:=gL ak W14 (rF l) 1000 40
noncomputable abbrev XQ:CX ak:=CX.of mo po LV (rF l) 1000 40
end
def DM:ag->Bool
 | [_,.fn (.func 44) _ _]=>true
 |_=>false
section
variable(f:Bool)(O:List (B))(T A:Nat)(b:B)(F R D:Int)[eB](C N:ae)
theorem agf:dc (zM (mD []) 73 DM [.dV f O.length (strs O),f44] (hB T A b F R D C N) 8 (.int .i64 (-1),hB T A b F R D C N,8)) [] 8 Tryz.f43 [] V7 (cZ [.dV f O.length (strs O),f44] (hB T A b F R D C N) 8) [([],[[V.dV f O.length (strs O),f44]=[.dV f O.length (strs O),f44]/\hB T A b F R D C N=hB T A b F R D C N/\8=8],.ret (.bool false) (hB T A b F R D C N) 8)]:=
 cT.ef
theorem LW(hl:O.length<=1000000)(hg:∀x∈O,Cn C x):c5 ak 43 [.dV f O.length (strs O),f44] (hB T A b F R D C N) 8 (.bool false) (hB T A b F R D C N) 8:=by
 have h73:c5 ak 73 [.dV f O.length (strs O),f44] (hB T A b F R D C N) 8 (.int .i64 (-1)) (hB T A b F R D C N) 8:=
  c7 Tryz.func73 U U (abK T A b F R D C N f O hl hg)
 refine c7 Tryz.func43 (code:=V7) U U ?_;refine eZ ((XQ []).LI DM (ax U) h73) (agf f O T A b F R D C N) (dG ?_);exact⟨fun p hp=>by rw[au]at hp;subst hp;exact⟨rfl,rfl,rfl⟩,_,_,_,rfl,rfl,rfl,rfl⟩
end
noncomputable abbrev csR(l:List (Nat×List (Nat×pC)))(h:H rs)(f:Bool)(O:List (B)):e9:=zM (mD l) 43 DM [.dV f O.length (strs O),f44] h 8 (.bool false,h,8)
noncomputable abbrev uO:Code:=dO Tryz.f15
def pN(F R D:Int)[eB](C O:ae):gx:=⟨none,F,R,false,eB.on,D,C,O⟩
def pS(T A:Nat)(b:B)(F R D:Int)[eB](C O:ae):gx:=⟨some (T,A,b),F,R,false,eB.on,D,C,O⟩
def Ps(d0:B)(iP:List (B))(k:Int):List (Nat×List (Nat×pC)):=[(18,[(15,.di (.ew [nW d0 iP k,.bool true]))])]
def E6:List (Nat×List (Nat×pC)):=[(18,[(15,.di (.ew [zO,.bool false]))]),(46,[(13,.di (.bool false))])]
def Sv(F R D:Int)[eB](C N:ae):H rs:=K [(0,.ints .u32 gS),(1,.ints .u32 gR),(3,.cells (vW 0 4 5 (pN F R D C N))),(4,.dy none C),(5,.dy none N)]
theorem agh(d d0:B)(iP:List (B))(k:Int)(f:Bool)(O:List (B))(T A:Nat)(b:B)(F R D:Int)[eB](C N:ae):dc (csR (Ps d0 iP k) (hB T A b F R D C N) f O) [(16,.di (.bool false)),(20,.di (.bool false))] 7 Tryz.f15 [] (uO) (cZ [.ptr (some (3,0)),.str d,.dV f O.length (strs O)] (dN (pS T A b F R D C N)) 7) [([],[jC (decide ((Int.ofNat d.length)>(65536:Int))),jC (decide ((Int.ofNat O.length)>(1024:Int))),strs O=strs (dI (strs O)),O.length=(dI (strs O)).length,O.length<=1000000,∀(x:B),x∈dI (strs O)->x.length=32,[V.dV f O.length (strs O),f44]=[V.dV f O.length (strs O),f44]/\hB T A b F R D C N=hB T A b F R D C N/\8=8,gS=gS,gR=gR,strs O=strs (dI (strs O)),O.length=(dI (strs O)).length,O.length<=1000000,(eJ (d::dI (strs O))).length<=1000000000,(if true=true then V.ew [lf.fI (V.agg [V.str ([]:B),V.dx none 0 0 0,V.int aj (0:Int)]) (dj (lf.str (dL d (dI (strs O)))) C),V.bool (dj (lf.str (dL d (dI (strs O)))) C).isSome]else lf.fI (V.agg [V.str ([]:B),V.dx none 0 0 0,V.int aj (0:Int)]) (dj (lf.str (dL d (dI (strs O)))) C))=V.ew [nW d0 iP k,V.bool true]],.ret (.ew [.str (dL d (dI (strs O))),.int .i64 0]) (K [(0,.ints .u32 gS),(1,.ints .u32 gR),(3,.cells [.dx (some (4,0)) T A 1,.int .i64 F,.map (some 5),.map (some 6),.int .i64 R,.bool false,.bool (eB.on),.int .i64 D]),(4,.ia 5 false b),(5,.dy none C),(6,.dy none N)]) 7)]:=cT.ef
theorem agi(d:B)(f:Bool)(O:List (B))(T A:Nat)(b:B)(F R D:Int)[eB](C N:ae):dc (csR E6 (hB T A b F R D C N) f O) [(16,.di (.bool false)),(20,.di (.bool false))] 7 Tryz.f15 [] (uO) (cZ [.ptr (some (3,0)),.str d,.dV f O.length (strs O)] (dN (pS T A b F R D C N)) 7) [([],[jC (decide ((Int.ofNat d.length)>(65536:Int))),jC (decide ((Int.ofNat O.length)>(1024:Int))),strs O=strs (dI (strs O)),O.length=(dI (strs O)).length,O.length<=1000000,∀(x:B),x∈dI (strs O)->x.length=32,[V.dV f O.length (strs O),f44]=[V.dV f O.length (strs O),f44]/\hB T A b F R D C N=hB T A b F R D C N/\8=8,gS=gS,gR=gR,strs O=strs (dI (strs O)),O.length=(dI (strs O)).length,O.length<=1000000,(eJ (d::dI (strs O))).length<=1000000000,(if true=true then V.ew [lf.fI (V.agg [V.str ([]:B),V.dx none 0 0 0,V.int aj (0:Int)]) (dj (lf.str (dL d (dI (strs O)))) C),V.bool (dj (lf.str (dL d (dI (strs O)))) C).isSome]else lf.fI (V.agg [V.str ([]:B),V.dx none 0 0 0,V.int aj (0:Int)]) (dj (lf.str (dL d (dI (strs O)))) C))=V.ew [zO,V.bool false],strs O=strs (dI (strs O)),O.length=(dI (strs O)).length,d.length<=100000000,O.length<=1000000,(dI (strs O)).flatten.length<=100000000,jC (decide (IntKind.i64.wrap ((Int.ofNat T)+(Int.ofNat (gM d (dI (strs O))).length))>(1048576:Int))),gS=gS,gR=gR,false=false,Ic eB.on D,0<A,T=b.length,fa (T+(gM d (dI (strs O))).length) 1 1=true,0<O.length,(strs O).length=O.length,O.length<=1000000],.ret (.ew [.str (dL d (dI (strs O))),.int .i64 0]) (K [(0,.ints .u32 gS),(1,.ints .u32 gR),(3,.cells [.dx (some (7,0)) (T+(gM d (dI (strs O))).length) (T+(gM d (dI (strs O))).length) 1,.int .i64 F,.map (some 5),.map (some 6),.int .i64 (IntKind.i64.wrap (R+(1:Int))),.bool false,.bool (eB.on),.int .i64 ((Qq eB.on D))]),(5,.dy none (iK (lf.str (dL d (dI (strs O)))) (lf.agg [lf.str d,lf.dV O.length (strs O),lf.int aj R]) C)),(6,.dy none N),(7,.ia 5 false (b++eW (eo (gM d (dI (strs O))))))]) 8)]:=cT.ef
def Sw(n:Nat)(b:B)(F R D:Int)[eB](C N:ae):H rs:=K [(0,.ints .u32 gS),(1,.ints .u32 gR),(3,.cells [.dx (some (7,0)) n n 1,.int .i64 F,.map (some 5),.map (some 6),.int .i64 R,.bool false,.bool eB.on,.int .i64 D]),(5,.dy none C),(6,.dy none N),(7,.ia 5 false b)]
theorem zQ:dI []=[]:=rfl
theorem gl{x y:Int}(h:x<=y):V.bool (decide (x>y))=V.bool false:=by
 rw[bz L]
theorem gZ(d:B)(O:List (B))(h:∀x∈O,x.length=32):(eJ (d::O)).length=8+d.length+40*O.length:=by
 have key:∀O:List (B),(∀x∈O,x.length=32)->(eJ O).length=40*O.length:=by
  intro O
  induction O with
  |nil=>intro _;rfl
  |cons x O ih=>
   intro h;have:=ih fun y hy=>h y (by simp[hy]);have M:=h x (by simp);unfold eJ at this ⊢;rw[List.flatMap_cons,ay,this,ay,vU,M,aT];omega
 have e:eJ (d::O)=(mM (Int.ofNat d.length)++d)++eJ O:=by
  unfold eJ;rw[List.flatMap_cons]
 rw[e,ay,key O h,ay,vU]
theorem tg{O:List (B)}(h:∀x∈O,x.length=32):O.flatten.length=32*O.length:=by
 induction O with
 |nil=>rfl
 |cons x O ih=>
  rw[List.flatten_cons,ay,ih fun y hy=>h y (by simp[hy]),h x (by simp),aT];omega
theorem AX(d:B){O:List (B)}(h:∀x∈O,x.length=32):(gM d O).length<=d.length+20+32*O.length:=by
 have:=(Jp d O).2;rw[tg h]at this;exact this
section
variable(d:B)(T A:Nat)(b:B)(F R D:Int)[eB](C N:ae)
variable(f:Bool)(O:List (B))
theorem Sx(hd:d.length<=65536)(hn:O.length<=1024)(h32:∀x∈O,x.length=32)(Cb:∀x∈O,Cn C x)(hk:Cn C (dL d O)):
  c5 ak 15 [.ptr (some (3,0)),.str d,.dV f O.length (strs O)] (dN (pS T A b F R D C N)) 7 (.ew [.str (dL d O),.int .i64 0]) (dN (pS T A b F R D C N)) 7:=by
 have hO:∀n:Nat,Int.ofNat n=(n:Int):=fun _=>rfl;obtain⟨d0,iP,k,hk⟩:=hk;refine c7 Tryz.func15 (code:=uO) U U ?_;obtain⟨be,hr⟩:=agh d d0 iP k f O T A b F R D C N;simp only[iu]at hr;refine ij ((XQ (Ps d0 iP k)).LI DM (ax U) (LW f O T A b F R D C N L Cb)) mo _ U hr (dG ?_);refine⟨?_,_,_,_,rfl,rfl,rfl,rfl⟩;have hj:=gZ d O h32
 repeat' (first|exact cW|refine kg ?_ ?_)
 . exact gl dr
 . exact gl dr
 . first|rfl|trivial
 . first|rfl|trivial
 . omega
 . exact h32
 . first|exact⟨rfl,rfl,rfl⟩|exact⟨trivial,trivial,rfl⟩|exact⟨trivial,trivial,trivial⟩|trivial
 . first|rfl|trivial
 . first|rfl|trivial
 . first|rfl|trivial
 . first|rfl|trivial
 . omega
 . omega
 . exact kZ hk
theorem Sy(ho:BZ D)(hd:d.length<=65536)(hn:O.length<=1024)(h0:0<O.length)(h32:∀x∈O,x.length=32)(Cb:∀x∈O,Cn C x)(hk:dj (.str (dL d O)) C=none)(J:0<A)(hl:T=b.length)(EM:T+(gM d O).length<=1048576):
  c5 ak 15 [.ptr (some (3,0)),.str d,.dV f O.length (strs O)] (dN (pS T A b F R D C N)) 7 (.ew [.str (dL d O),.int .i64 0])
   (Sw (T+(gM d O).length) (b++gM d O) F (IntKind.i64.wrap (R+1)) (wL D) (iK (.str (dL d O)) (tf d O R) C) N) 8:=by
 have hO:∀n:Nat,Int.ofNat n=(n:Int):=fun _=>rfl;refine c7 Tryz.func15 (code:=uO) U U ?_;obtain⟨be,hr⟩:=agi d f O T A b F R D C N;simp only[iu,gu]at hr;refine ij ((XQ E6).LI DM (ax U) (LW f O T A b F R D C N L Cb)) mo _ U hr (dG ?_);refine⟨?_,_,_,_,rfl,rfl,rfl,rfl⟩;have hj:=gZ d O h32;have RA:=tg h32
 repeat' (first|exact cW|refine kg ?_ ?_)
 . exact gl dr
 . exact gl dr
 . first|rfl|trivial
 . first|rfl|trivial
 . omega
 . exact h32
 . first|exact⟨rfl,rfl,rfl⟩|exact⟨trivial,trivial,rfl⟩|exact⟨trivial,trivial,trivial⟩|trivial
 . first|rfl|trivial
 . first|rfl|trivial
 . first|rfl|trivial
 . first|rfl|trivial
 . omega
 . omega
 . exact nc hk
 . first|rfl|trivial
 . first|rfl|trivial
 . omega
 . omega
 . omega
 . rw[eV dr dr];exact gl dr
 . first|rfl|trivial
 . first|rfl|trivial
 . first|rfl|trivial
 . exact ho
 . exact J
 . exact hl
 . exact jD L
 . exact h0
 . exact eN O
 . omega
end
set_option maxRecDepth 10000
noncomputable abbrev Sz:Code:=dO Tryz.f51
noncomputable abbrev Hw:Code:=dw 4 Sz
noncomputable abbrev agj:Code:=dD (dU (dS Hw))
noncomputable abbrev agk:Code:=rA agj
noncomputable abbrev agl:Code:=rB agj
noncomputable abbrev Hx:Code:=dO Tryz.f78
def lC(T A:Nat)(b:B)(F R D:Int)[eB](C N:ae):af:=[(0,.ints .u32 gS),(1,.ints .u32 gR),(3,.cells [.dx (some (4,0)) T A 1,.int .i64 F,.map (some 5),.map (some 6),.int .i64 R,.bool false,.bool eB.on,.int .i64 D]),(4,.ia 5 false b),(5,.dy none C),(6,.dy none N),(7,.cells [.ptr (some (3,0))]),(19,.cells [.map (some 6)])]
def v78:V:=.fn (.func 78) [] [.ptr (some (19,0))]
section
end
def Nw:Code->Nat | .region i _ _=>i|_=>0
def Zp:Code->Nat | .block i _=>i|_=>0
def DN(c:Code)(i:Nat):Oper:=(xC c).toList.getD i default
noncomputable def th(c:Code):r7:=
 ⟨Nw (dS c),Nw (dS (dD (dD (dU c)))),Nw (dS (dD (dU (dU (dD (dD (dU c))))))),DN (dS c) 0,DN (dS c) 1,DN (dS (dD (dD (dU c)))) 0,DN (dS (dD (dD (dU c)))) 1,
  DN (dS (dD (dU (dU (dD (dD (dU c))))))) 0,(xC (dS (dD (dU (dU (dD (dD (dU c)))))))).toList.tail,Zp (dU c),Zp (dU (dU (dD (dD (dU c))))),Y0 (dS (dU (dD (dD (dU c))))),dU (dD (dU (dU (dD (dD (dU c))))))⟩
def Hy(o:Oper):TypeId:=match o.op with | .range t _=>t|_=>0
noncomputable def abQ(t:TypeId):TypeId:=match Tryz.prog.underlying t with|some (.map k _)=>k|_=>0
noncomputable def abR(t:TypeId):TypeId:=match Tryz.prog.underlying t with|some (.map _ e)=>e|_=>0
theorem agm:Hx=(th Hx).code:=by kernel_rfl
noncomputable abbrev E7:Code:=dO Tryz.f81
theorem agn:E7=(th E7).code:=by kernel_rfl
theorem Nx:tc ak Tryz.f78.ntmps (th Hx) (.tmp 5) 6:=
 ⟨U,U,U,U,⟨Hy (th Hx).oR,abQ (Hy (th Hx).oR),abR (Hy (th Hx).oR),U,U⟩,U,U,U,U,ax rfl⟩
theorem Ny:tc ak Tryz.f81.ntmps (th E7) (.tmp 4) 5:=
 ⟨U,U,U,U,⟨Hy (th E7).oR,abQ (Hy (th E7).oR),abR (Hy (th E7).oR),U,U⟩,U,U,U,U,ax rfl⟩
def dA:B:=[2,143,13,245,184,89,111,188,209,12,151,32,183,164,120,79,142,126,4,246,41,189,90,98,191,189,241,57,103,139,102,36]
def dB:B:=[2,0,227,41,71,203,8,171,164,202,84,84,254,249,10,138,12,255,62,110,197,82,81,216,2,100,190,234,142,14,23,255]
def dZ:B:=[12,52,209,150,179,80,244,8,94,45,21,205,102,195,192,169,125,80,156,122,62,79,6,250,229,93,93,120,21,103,11,60]
def dW:B:=[35,95,214,175,20,142,21,202,151,71,13,237,237,76,72,234,146,53,15,127,206,192,87,87,51,33,159,135,81,237,161,19]
def dQ:B:=[142,53,194,205,59,246,100,27,219,14,32,80,183,105,50,203,178,230,3,74,13,218,204,29,155,234,130,166,186,87,247,207]
theorem ago:dL [120] []=dA:=by kernel_rfl
theorem agp:dL [121] [dA]=dB:=by kernel_rfl
theorem agq:dL [122] []=dZ:=by kernel_rfl
theorem agr:dL [119] []=dW:=by kernel_rfl
theorem Zq:EX [113]=dQ:=by kernel_rfl
def eA:lf:=tf [120] [] 0
section
variable(T A:Nat)(b:B)(F R D:Int)[eB]
end
section
variable(T A:Nat)(b:B)(F R D:Int)[eB]
end
noncomputable abbrev SA:Code:=dO Tryz.f100
noncomputable abbrev Pt:Code:=dw 1 SA
noncomputable abbrev ags:Code:=dD (dU (dS Pt))
noncomputable abbrev abS:Code:=Eng.rA ags
noncomputable abbrev abT:Code:=Eng.rB ags
noncomputable abbrev LX:Code:=dO Tryz.f54
noncomputable abbrev LY:Code:=dO Tryz.f79
def v81:V:=.fn (.func 81) [] [.ptr (some (21,0))]
def v56:V:=.fn (.func 56) [] [.ptr (some (7,0))]
section
variable(T A:Nat)(b:B)(F R D:Int)[eB]
def U9(s:St)(k:B)(v:V):St:={ s with S:=((((s.S.set 6 (some (.ew [.bool true,.str k,v]))).set 7 (some (.bool true))).set 8 (some (.ew [.str k,v]))).set 9 (some (.str k))).set 3 (some (.str k)) }
end
section
variable(T A:Nat)(b:B)(F R D:Int)[eB]
end
theorem qC{I rt:Nat}{c:Code}{s s1:St}{cs:Exit->St->Prop}{f:FuncId}{args:ag}{nx:V->H rs->Nat->Prop}(k:Nat)(hk:c= .region (Nw c) (((xC c).toList.take k)++DN c k::(xC c).toList.drop (k+1)).toArray false)(iC:fb rt c=true)
  (X:jo ak V6 (((xC c).toList.take k)++DN c k::(xC c).toList.drop (k+1)).toArray ((xC c).toList.take k) s=some (.normal,s1)) (hg:(DN c k).guard=none) (ho:dH ak (DN c k) s1.S s1.h s1.n=some (.call f args)) (vz:(callee ak f&&Nat.blt f Tryz.prog.funcs.size)=true) (J:gh ak f args s1.h s1.n nx)
  (hq:∀v h n,nx v h n->∃S s2,jj s1.S (DN c k).dst v=some S/\jo ak V6 (((xC c).toList.take k)++DN c k::(xC c).toList.drop (k+1)).toArray ((xC c).toList.drop (k+1)) { s1 with S:=S,h:=h,n:=n }=some (.normal,s2)/\cs .normal s2):TG ak I rt c s cs:=by
 rw[hk]at iC ⊢;exact Sp (Hu _) iC X hg ho vz J hq
section
variable(T A:Nat)(b:B)(F R D:Int)[eB]
end
noncomputable abbrev uP:Code:=dO Tryz.f19
noncomputable abbrev SB:Code:=dO Tryz.f113
noncomputable abbrev AY:Code:=dw 1 SB
noncomputable abbrev agt:Code:=dD (dU (dS AY))
noncomputable abbrev Wc:Code:=Eng.rA agt
noncomputable abbrev Wd:Code:=Eng.rB agt
noncomputable abbrev E9:Code:=dO Tryz.f88
noncomputable abbrev Fa:Code:=dO Tryz.f61
noncomputable abbrev Fb:Code:=dO Tryz.f86
noncomputable abbrev Pu:Code:=dO Tryz.f23
section
variable(T A:Nat)(b:B)(F R D:Int)[eB]
end
theorem agu:E9=(th E9).code:=by kernel_rfl
theorem Nz:tc ak Tryz.f88.ntmps (th E9) (.tmp 4) 5:=
 ⟨U,U,U,U,⟨Hy (th E9).oR,abQ (Hy (th E9).oR),abR (Hy (th E9).oR),U,U⟩,U,U,U,U,ax rfl⟩
section
variable(T A:Nat)(b:B)(F R D:Int)[eB]
omit [eB]in
theorem DO{a:ag}{h:H rs}{n:Nat}:a=a/\h=h/\n=n:=⟨rfl,rfl,rfl⟩
end
noncomputable abbrev We:Code:=dO Tryz.f83
noncomputable abbrev SC:Code:=dD (dw 2 We)
noncomputable abbrev abU:Code:=Na (dU SC)
section
variable(T A:Nat)(b:B)(F R D:Int)[eB](C N:ae)
end
theorem mw:∀{a b:B},eI a b=true->a=b
 | [],[],_=>rfl
 |x::a,y::b,h=>by
  simp only[eI]at h;split at h
  . rename_i M;rw[mw h,UInt8.toNat_inj.1 (aG M)]
  . cases h
 | [],_::_,h=>by cases h
 |_::_,[],h=>by cases h
noncomputable abbrev W15:jY:=W14
theorem SD:gm ak W15:=LV
noncomputable abbrev BD:e9:=gL ak W15 H0 1000 40
noncomputable abbrev XT:CX ak:=CX.of mo po SD H0 1000 40
noncomputable abbrev SE:Code:=dO Tryz.f57
noncomputable abbrev Pv:Code:=dw 3 SE
noncomputable abbrev agv:Code:=dD (dU (dS Pv))
noncomputable abbrev agw:Code:=Eng.rA agv
noncomputable abbrev agx:Code:=Eng.rB agv
def v103:V:=.fn (.func 103) [] [.ptr (some (11,0))]
section
variable(T A:Nat)(b:B)(F D:Int)[eB](C N:ae)
def lRv(R:Int)(nw nA:ae)(en:Int):af:=[(0,.ints .u32 gS),(1,.ints .u32 gR),(3,.cells [.dx (some (4,0)) T A 1,.int .i64 F,.map (some 7),.map (some 8),.int .i64 R,.bool false,.bool eB.on,.int .i64 D]),(4,.ia 5 false b),(5,.dy none C),(6,.dy none N),(7,.dy none nw),(8,.dy none nA),(9,.cells [.ptr (some (3,0))]),(10,.cells [.int .i64 en])]
end
section
variable(T A:Nat)(b:B)(F R D:Int)[eB](C N:ae)
theorem agz:dc BD [] 7 Tryz.f57 [1,2] (eU 3 SE) (cZ [.ptr (some (3,0))] (dN (pS T A b F R D C N)) 7) [([],[],eP (eL [(1,.ptr (some (9,0))),(2,.ptr (some (10,0)))] (K [(0,.ints .u32 gS),(1,.ints .u32 gR),(3,.cells [.dx (some (4,0)) T A 1,.int .i64 F,.map (some 7),.map (some 8),.int .i64 0,.bool false,.bool eB.on,.int .i64 D]),(4,.ia 5 false b),(5,.dy none C),(6,.dy none N),(7,.map [] 0),(8,.map [] 0),(9,.cells [.ptr (some (3,0))]),(10,.cells [.int .i64 0])]) 11))]:=
 cT.ef
end
section
variable(T A:Nat)(b:B)(F R D:Int)[eB]
def ana:List (Option Nat):=[some 0,some 1,some 2,some 3,some 7,some 5,some 6]
end
noncomputable abbrev Wf:Code:=dO Tryz.f13
def nw:ae:=[(.str dA,eA)]
def F0(S:List (Nat×V))(p:gx):St:=eL ((1,.ptr (some (3,0)))::S) (dN p) 7
abbrev uU:V:=.int .i64 0
theorem gk{f:FuncId}{args ot:ag}{ns:List (Option Nat)}{h X h2 mO:H rs}{n n2 Jk:Nat}{v v1:V}(k:vS ns h X)(ka:V.Ey (mu ns) args=some ot)(he:EU ns X (v1,mO,Jk) h n=some (v,h2,n2))
  (J:c5 ak f ot X ns.length v1 mO Jk):c5 ak f args h n v h2 n2:=by
 intro E w dm ra g hd;obtain⟨g1,d1⟩:=Nk g k;have ra1:dK (E.pick ns) ot dm:=uc (E':=E.pick ns) RZ (fun _ _ _ _ _ _=>rfl) (fun _ _ q=>q) _ _ _ ka ra;exact(J _ w dm ra1 g1 d1).mono fun en w' c=>Nl g hd k he c
def ns7:List (Option Nat):=[some 0,some 1,some 2,some 3,some 4,some 5,some 6]
noncomputable abbrev W16:jY:=W15
theorem DP:gm ak W16:=SD
noncomputable abbrev Va:e9:=gL ak W16 H0 1000 40
noncomputable abbrev XL:CX ak:=CX.of mo po DP H0 1000 40
end Go.Proofs.YtfihojpgobmmdaaGreatDoor
