/- The Doc laws: the reference's Made: pieces. No conditions. -/
import Derived.Test.YtmjggdmekboefaaGreatJointW08
import Derived.Test.YtmjggdmekboefaaGreatJointW09
set_option linter.unusedVariables false
set_option linter.unusedSimpArgs false
set_option linter.unusedSectionVars false
namespace Go.Proofs.YtmjggdmekboefaaGreat
open Go Go.Eng
set_option maxRecDepth 10000
def TY(xs:List Int)(i:Nat):S8:=⟨xs.getD i 0,xs.getD (i+1) 0,xs.getD (i+2) 0,xs.getD (i+3) 0,xs.getD (i+4) 0,xs.getD (i+5) 0,xs.getD (i+6) 0,xs.getD (i+7) 0⟩
noncomputable abbrev adG:Code:=dI Tryz.f34
noncomputable abbrev QF:Code:=dr 2 adG
noncomputable abbrev QG:Code:=dX QF
noncomputable abbrev amv:Code:=dX QG
noncomputable abbrev bMz:Code:=dG (dG (dX (dF QG)))
noncomputable abbrev zZ:Code:=dG (dF (dX bMz))
noncomputable abbrev QH:Code:=dr 5 zZ
noncomputable abbrev Yo:Code:=dX QH
section
variable(xs:List Int)(c i j:Nat)(Y:List Int)
noncomputable abbrev adH:Code:=dr 1 Yo
noncomputable abbrev adI:Code:=dr 1 adH
noncomputable abbrev adJ:Code:=dr 1 adI
noncomputable abbrev Yp:Code:=dr 1 adJ
noncomputable abbrev adK:Code:=dr 1 Yp
noncomputable abbrev amx:Code:=dr 1 adK
def QI:ag:=[gG,L 0,L 0,gG]
def yU(d:Dc)(r:List (Nat×V)):St:=fq ([(0,fj xs),(1,M c),(4,.ptr (some (0,0))),(5,.ptr (some (1,0)))]++r) (G [(0,.cells QI),(1,.cells d.R)]) 2
theorem amy(d:Dc):dw (U (fb 80 [] d.v dY) []) [] 0 Tryz.f34 [0,1,4,5] (dM 2 adG) (dy [fj xs,M c] .nil 0) [([],
   [(V.lA ([]++[]++[])=[])],
   .to .normal (yU xs c d []))]
 :=dj.of C C C
def IC(d:Dc)(i:Nat)(x:eJ)(r:List (Nat×V)):St:=fq ([(0,fj xs),(1,M c),(4,.ptr (some (0,0))),(5,.ptr (some (1,0))),(6,M i),(7,.ptr (some (2,0)))]++r) (G [(0,.cells QI),(1,.cells d.R),(2,.cells x.R)]) 3
def Kz(d:Dc)(i:Nat)(x:eJ)(r:List (Nat×V)):St:=fq ([(0,fj xs),(1,M c),(4,.ptr (some (0,0))),(5,.ptr (some (1,0))),(6,M i),(7,.ptr (some (2,0))),(8,.eR (some (3,0)) 0 0 1)]++r) (G [(0,.cells QI),(1,.cells d.R),(2,.cells x.R),(3,.cells [])]) 4
def KA(d:Dc)(i:Nat)(x:eJ)(l:List Int)(r:List (Nat×V)):St:=fq ([(0,fj xs),(1,M c),(4,.ptr (some (0,0))),(5,.ptr (some (1,0))),(6,M i),(7,.ptr (some (2,0))),(8,.eR (some (3,0)) l.length l.length 1)]++r) (G [(0,.cells QI),(1,.cells d.R),(2,.cells x.R),(3,.own .i64 l)]) 4
def sMf(d:Dc)(i:Nat)(x:eJ)(j:Nat)(r:List (Nat×V)):St:=fq ([(0,fj xs),(1,M c),(4,.ptr (some (0,0))),(5,.ptr (some (1,0))),(6,M i),(7,.ptr (some (2,0))),(8,.eR (some (3,0)) 1 1 1)]++r) (G [(0,.cells QI),(1,.cells d.R),(2,.cells x.R),(3,.cells [M j])]) 4
def sMg(d:Dc)(i:Nat)(x:eJ)(l:List Int)(j:Nat)(r:List (Nat×V)):St:=fq ([(0,fj xs),(1,M c),(4,.ptr (some (0,0))),(5,.ptr (some (1,0))),(6,M i),(7,.ptr (some (2,0))),(8,.eR (some (3,0)) (l.length+1) (l.length+1) 1)]++r) (G [(0,.cells QI),(1,.cells d.R),(2,.cells x.R),(3,.own .i64 (List.take (l.length*1) (List.drop 0 l)++[Int.ofNat j]))]) 4
abbrev xI:V:=.dx [.int .i64 (xs.getD i 0)]
theorem amA(d:Dc):dw (U dY []) [(17,.split),(20,.dz (xI xs 0)),(24,.split)] 0 Tryz.f34 [0,1,4,5,25] (dF (dF QF)) (yU xs c d []) [([((decide ((Int.ofNat xs.length)>(0:Int))),true),((IntKind.i64.wrap (Int.ofNat (BitVec.ofInt 64 ((xs.getD 0 (0:Int)).fdiv (1024:Int))&&&BitVec.ofInt 64 (3:Int)).toNat)==(1:Int)),true)],
   [((0:Int)<=(0:Int)/\(0:Int)<(Int.ofNat xs.length)),((dO xs).length=xs.length*1),(V.dx (dn (dO xs) 0 1)=xI xs 0)],
   .to .normal (yU xs c d [(25,.bool true)])),
  ([((decide ((Int.ofNat xs.length)>(0:Int))),true),((IntKind.i64.wrap (Int.ofNat (BitVec.ofInt 64 ((xs.getD 0 (0:Int)).fdiv (1024:Int))&&&BitVec.ofInt 64 (3:Int)).toNat)==(1:Int)),false)],
   [((0:Int)<=(0:Int)/\(0:Int)<(Int.ofNat xs.length)),((dO xs).length=xs.length*1),(V.dx (dn (dO xs) 0 1)=xI xs 0)],
   .to .normal (yU xs c d [(25,.bool false)])),
  ([((decide ((Int.ofNat xs.length)>(0:Int))),false)],
   [],
   .to .normal (yU xs c d [(25,.bool false)]))]
 :=dj.of C C C
abbrev KB:Prop:=V.int A (IntKind.i64.wrap (Int.ofNat i+(9:Int)))=M (i+9)
abbrev QJ:Prop:=V.int A (IntKind.i64.wrap ((9:Int)*Int.ofNat c))=M (9*c)
theorem amB(d:Dc)(i:Nat):dw (U dY []) [(35,.dz (M (i+9))),(42,.dz (M (9*c))),(38,.split),(43,.split)] 0 Tryz.f34 [0,1,4,5,6] (dF bMz) (yU xs c d [(6,M i)]) [([((decide (Int.ofNat (i+9)<=(Int.ofNat xs.length))),true),((decide (Int.ofNat i<Int.ofNat (9*c))),true)],
   [KB i,QJ c],
   .to .normal (yU xs c d [(6,M i)])),
  ([((decide (Int.ofNat (i+9)<=(Int.ofNat xs.length))),true),((decide (Int.ofNat i<Int.ofNat (9*c))),false)],
   [KB i,QJ c],
   .to (.exit 0) (yU xs c d [(6,M i)])),
  ([((decide (Int.ofNat (i+9)<=(Int.ofNat xs.length))),false)],
   [KB i],
   .to (.exit 0) (yU xs c d [(6,M i)]))]
 :=dj.of C C C
def TZ:ah:=[(0:Int)<=Int.ofNat i/\Int.ofNat i<Int.ofNat xs.length,(dO xs).length=xs.length*1,V.dx (dn (dO xs) (i*1) 1)=xI xs i]
def VN(k:Nat):Prop:=V.int .i64 (IntKind.i64.wrap (Int.ofNat i+Int.ofNat k))=M (i+k)
def r8A:ah:=TZ xs i++(VN i 1::(TZ xs (i+1)++(VN i 2::(TZ xs (i+2)++(VN i 3::(TZ xs (i+3)++(VN i 4::(TZ xs (i+4)++(VN i 5::(TZ xs (i+5)++(VN i 6::(TZ xs (i+6)++(VN i 7::(TZ xs (i+7)++[fa [.agg (TY xs i).R]]))))))))))))))
theorem amC(d:Dc)(i:Nat)(x:eJ):dw (U (fb 30 [.agg (TY xs i).R] x.v dY) []) [(49,.dz (xI xs i)),(53,.dz (M (i+1))),(54,.dz (xI xs (i+1))),(58,.dz (M (i+2))),(59,.dz (xI xs (i+2))),(63,.dz (M (i+3))),(64,.dz (xI xs (i+3))),(68,.dz (M (i+4))),(69,.dz (xI xs (i+4))),(73,.dz (M (i+5))),(74,.dz (xI xs (i+5))),(78,.dz (M (i+6))),(79,.dz (xI xs (i+6))),(83,.dz (M (i+7))),(84,.dz (xI xs (i+7)))] 0 Tryz.f34 [0,1,4,5,6,7] (dM 2 zZ) (yU xs c d [(6,M i)]) [([],r8A xs i,.to .normal (IC xs c d i { x with id:=d.nx } []))]:=dj.of C C C
theorem amD(d:Dc)(i:Nat)(x:eJ)(o:Int):dw (U dY []) [(93,.split),(96,.dz (M (i+7))),(97,.dz (xI xs (i+7))),(103,.dz (L o))] 0 Tryz.f34 [0,1,4,5,6,7] (dF (dr 2 zZ)) (IC xs c d i x []) [([((x.kd==(4:Int)),true)],
   [(V.int A (IntKind.i64.wrap (Int.ofNat i+(7:Int)))=M (i+7)),((0:Int)<=Int.ofNat (i+7)/\Int.ofNat (i+7)<(Int.ofNat xs.length)),((dO xs).length=xs.length*1),(V.dx (dn (dO xs) ((i+7)*1) 1)=xI xs (i+7)),(d.nx≠(0:Int)),(V.int A (IntKind.i64.wrap ((1:Int)+(IntKind.i64.wrap (Int.ofNat (BitVec.ofInt 64 (xs.getD (i+7) (0:Int))&&&BitVec.ofInt 64 (65535:Int)).toNat)).tmod d.nx))=L o)],
   .to .normal (IC xs c d i { x with of:=o } [])),
  ([((x.kd==(4:Int)),false)],
   [],
   .to .normal (IC xs c d i x []))]
 :=dj.of C C C
theorem amE(d:Dc)(i:Nat)(x:eJ)(o:Int):dw (U dY []) [(107,.split),(112,.split),(116,.dz (M (i+5))),(117,.dz (xI xs (i+5))),(119,.dz (L o))] 0 Tryz.f34 [0,1,4,5,6,7] (dF (dr 3 zZ)) (IC xs c d i x []) [([((x.kd==(1:Int)),true),((decide ((Int.ofNat d.sp.length)>(0:Int))),true)],
   [(V.int A (IntKind.i64.wrap (Int.ofNat i+(5:Int)))=M (i+5)),((0:Int)<=Int.ofNat (i+5)/\Int.ofNat (i+5)<(Int.ofNat xs.length)),((dO xs).length=xs.length*1),(V.dx (dn (dO xs) ((i+5)*1) 1)=xI xs (i+5)),(V.int A (IntKind.i64.wrap (Int.ofNat (BitVec.ofInt 64 (xs.getD (i+5) (0:Int))&&&BitVec.ofInt 64 (1:Int)).toNat))=L o)],
   .to .normal (IC xs c d i { x with sp:=o } [])),
  ([((x.kd==(1:Int)),true),((decide ((Int.ofNat d.sp.length)>(0:Int))),false)],
   [],
   .to .normal (IC xs c d i x [])),
  ([((x.kd==(1:Int)),false)],
   [],
   .to .normal (IC xs c d i x []))]
 :=dj.of C C C
theorem amF(d:Dc)(i:Nat)(x:eJ):dw (U dY []) [] 0 Tryz.f34 [0,1,4,5,6,7,8] (dM 1 (dr 4 zZ)) (IC xs c d i x []) [([],
   [],
   .to .normal (Kz xs c d i x []))]
 :=dj.of C C C
theorem amG(d:Dc)(i:Nat)(x:eJ):dw (U dY []) [] 0 Tryz.f34 [0,1,4,5,6,7,8,9] (dF (dF QH)) (Kz xs c d i x []) [([],
   [],
   .to .normal (Kz xs c d i x [(9,M 0)]))]
 :=dj.of C C C
abbrev QK:Prop:=V.int A (IntKind.i64.wrap (Int.ofNat j+(1:Int)))=M (j+1)
theorem amH(d:Dc)(i:Nat)(x y:eJ)(j:Nat):dw (U dY []) [(126,.split),(132,.dz (.dx y.ds)),(135,.split),(128,.dz (M (j+1)))] 0 Tryz.f34 [0,1,4,5,6,7,8,9] (dG (dG (dX (dF QH)))) (Kz xs c d i x [(9,M j)]) [([((decide (Int.ofNat j<(Int.ofNat d.ly.length))),true),((y.kd==(2:Int)),true)],
   [((0:Int)<=Int.ofNat j/\Int.ofNat j<(Int.ofNat d.ly.length)),((fc d.ly).length=d.ly.length*31),(V.dx (dn (fc d.ly) (j*31) 31)=V.dx y.ds),QK j],
   .to .normal (sMf xs c d i x j [(9,M (j+1))])),
  ([((decide (Int.ofNat j<(Int.ofNat d.ly.length))),true),((y.kd==(2:Int)),false)],
   [((0:Int)<=Int.ofNat j/\Int.ofNat j<(Int.ofNat d.ly.length)),((fc d.ly).length=d.ly.length*31),(V.dx (dn (fc d.ly) (j*31) 31)=V.dx y.ds),QK j],
   .to .normal (Kz xs c d i x [(9,M (j+1))])),
  ([((decide (Int.ofNat j<(Int.ofNat d.ly.length))),false)],
   [],
   .to (.exit 2) (Kz xs c d i x [(9,M j)]))]
 :=dj.of C C C
abbrev QL:Prop:=V.int A (IntKind.i64.wrap (Int.ofNat j+(1:Int)))=M (j+1)
theorem amI(d:Dc)(i:Nat)(x y:eJ)(l:List Int)(j:Nat):dw (U dY []) [(126,.split),(132,.dz (.dx y.ds)),(135,.split),(128,.dz (M (j+1)))] 0 Tryz.f34 [0,1,4,5,6,7,8,9] (dG (dG (dX (dF QH)))) (KA xs c d i x l [(9,M j)]) [([((decide (Int.ofNat j<(Int.ofNat d.ly.length))),true),((y.kd==(2:Int)),true)],
   [((0:Int)<=Int.ofNat j/\Int.ofNat j<(Int.ofNat d.ly.length)),((fc d.ly).length=d.ly.length*31),(V.dx (dn (fc d.ly) (j*31) 31)=V.dx y.ds),(0<l.length),(0+l.length*1<=l.length),(0<1),(fo (l.length+1) 1 8=true),QL j],
   .to .normal (sMg xs c d i x l j [(9,M (j+1))])),
  ([((decide (Int.ofNat j<(Int.ofNat d.ly.length))),true),((y.kd==(2:Int)),false)],
   [((0:Int)<=Int.ofNat j/\Int.ofNat j<(Int.ofNat d.ly.length)),((fc d.ly).length=d.ly.length*31),(V.dx (dn (fc d.ly) (j*31) 31)=V.dx y.ds),QL j],
   .to .normal (KA xs c d i x l [(9,M (j+1))])),
  ([((decide (Int.ofNat j<(Int.ofNat d.ly.length))),false)],
   [],
   .to (.exit 2) (KA xs c d i x l [(9,M j)]))]
 :=dj.of C C C
theorem amJ(d:Dc)(i:Nat)(x:eJ)(l:List Int)(g m:Nat):dw (U dY []) [(143,.dz (M (i+8))),(144,.dz (xI xs (i+8))),(149,.dz (M g)),(150,.dz (.dx [.int .i64 (Int.ofNat m)]))] 0 Tryz.f34 [0,1,4,5,6,7,10] (dM 1 Yo) (IC xs c d i x [(8,fj l)]) [([],
   [(V.int A (IntKind.i64.wrap (Int.ofNat i+(8:Int)))=M (i+8)),((0:Int)<=Int.ofNat (i+8)/\Int.ofNat (i+8)<(Int.ofNat xs.length)),((dO xs).length=xs.length*1),(V.dx (dn (dO xs) ((i+8)*1) 1)=xI xs (i+8)),((Int.ofNat l.length)≠(0:Int)),(V.int A ((IntKind.i64.wrap (Int.ofNat (BitVec.ofInt 64 (xs.getD (i+8) (0:Int))&&&BitVec.ofInt 64 (65535:Int)).toNat)).tmod (Int.ofNat l.length))=M g),((0:Int)<=Int.ofNat g/\Int.ofNat g<(Int.ofNat l.length)),((dO l).length=l.length*1),(V.dx (dn (dO l) (g*1) 1)=V.dx [D.int A (Int.ofNat m)])],
   .to .normal (IC xs c d i x [(10,M m)]))]
 :=dj.of C C C
def dMz(d:Dc)(nx:Int)(n:Nat):ag:=[.eB false d.sp.length (mE d.sp),L 1,L nx,.eR (some (4,0)) n n 31]
def Sh(d:Dc)(i:Nat)(x:eJ)(nx:Int)(n:Nat)(ds:List Eng.D)(r:List (Nat×V)):St:=fq ([(0,fj xs),(1,M c),(4,.ptr (some (0,0))),(5,.ptr (some (1,0))),(6,M i),(7,.ptr (some (2,0)))]++r) (G [(0,.cells QI),(1,.cells d.R),(2,.cells x.R),(3,.cells (dMz d nx n)),(4,.deep ds)]) 5
def sMw(d:Dc)(i:Nat)(x:eJ)(nx:Int)(n:Nat)(ds T:List Eng.D)(r:List (Nat×V)):St:=fq ([(0,fj xs),(1,M c),(4,.ptr (some (0,0))),(5,.ptr (some (1,0))),(6,M i),(7,.ptr (some (2,0)))]++r) (G [(0,.cells QI),(1,.cells d.R),(2,.cells x.R),(3,.cells (dMz d nx n)),(4,.deep ds),(5,.deep T)]) 6
def Yq(p:Nat)(id:Int):List Eng.D:=List.take ((0+(p-0)+1)*1) (List.drop 0 (List.take ((0+(p-0))*1) (List.drop 0 ([]++dn (dO Y) 0 ((p-0)*1)))++[.int .i64 id]))++dn (dO Y) (p*1) ((Y.length-p)*1)
def sMn(d:Dc)(i:Nat)(nx:Int)(n:Nat)(ds:List Eng.D):St:=fq [(0,fj xs),(1,M c),(4,.ptr (some (0,0))),(5,.ptr (some (1,0))),(6,M i),(11,.ptr (some (2,0)))] (G [(0,.cells QI),(1,.cells d.R),(2,.cells [.eB false d.sp.length (mE d.sp),L 1,L nx,.eR (some (3,0)) n n 31]),(3,.deep ds)]) 4
abbrev t11:Nat×V:=(11,.ptr (some (3,0)))
theorem amK(d:Dc)(i:Nat)(x:eJ)(m:Nat)(nx:Int):dw (U dY []) [(159,.dz (M (i+8))),(160,.dz (xI xs (i+8))),(164,.dz (L nx))] 0 Tryz.f34 [0,1,4,5,6,7,10,11] (dM 1 adH) (IC xs c d i x [(10,M m)]) [([],
   [(V.int A (IntKind.i64.wrap (Int.ofNat i+(8:Int)))=M (i+8)),((0:Int)<=Int.ofNat (i+8)/\Int.ofNat (i+8)<(Int.ofNat xs.length)),((dO xs).length=xs.length*1),(V.dx (dn (dO xs) ((i+8)*1) 1)=xI xs (i+8)),(V.int A (IntKind.i64.wrap (IntKind.i64.wrap (d.nx+(1:Int))+IntKind.i64.wrap (Int.ofNat (BitVec.ofInt 64 ((xs.getD (i+8) (0:Int)).fdiv (65536:Int))&&&BitVec.ofInt 64 (1:Int)).toNat)))=L nx),((fc d.ly).length=d.ly.length*31),(fo (0+d.ly.length) 31 328=true)],
   .to .normal (Sh xs c d i x nx (0+d.ly.length) ([]++fc d.ly) [(10,M m),t11]))]
 :=dj.of C C C
theorem amL(d:Dc)(i:Nat)(x:eJ)(m:Nat)(nx:Int)(n:Nat)(ds:List Eng.D)(Y:List Int):dw (U dY []) [(176,.dz (fj Y))] 0 Tryz.f34 [0,1,4,5,6,7,10,11,12] (dM 1 adI) (Sh xs c d i x nx n ds [(10,M m),t11]) [([],
   [((0:Int)<=Int.ofNat m/\Int.ofNat m<(Int.ofNat n)),(0+m*31+15<ds.length),((ds.getD (0+m*31+15) D.AU).jQ=fj Y),((dO Y).length=Y.length*1),(fo (0+Y.length) 1 8=true)],
   .to .normal (sMw xs c d i x nx n ds ([]++dO Y) [(10,M m),t11,(12,.eR (some (5,0)) (0+Y.length) (0+Y.length) 1)]))]
 :=dj.of C C C
theorem amM(d:Dc)(i:Nat)(x:eJ)(m:Nat)(nx:Int)(n:Nat)(ds:List Eng.D)(Y:List Int)(p:Nat):dw (U dY []) [(180,.dz (M (i+8))),(181,.dz (xI xs (i+8))),(187,.dz (M (Y.length+1))),(188,.dz (M p))] 0 Tryz.f34 [0,1,4,5,6,7,10,11,12,13] (dM 1 adJ) (Sh xs c d i x nx n ds [(10,M m),t11,(12,fj Y)]) [([],
   [(V.int A (IntKind.i64.wrap (Int.ofNat i+(8:Int)))=M (i+8)),((0:Int)<=Int.ofNat (i+8)/\Int.ofNat (i+8)<(Int.ofNat xs.length)),((dO xs).length=xs.length*1),(V.dx (dn (dO xs) ((i+8)*1) 1)=xI xs (i+8)),(V.int A (IntKind.i64.wrap ((Int.ofNat Y.length)+(1:Int)))=M (Y.length+1)),(Int.ofNat (Y.length+1)≠(0:Int)),(V.int A ((IntKind.i64.wrap (Int.ofNat (BitVec.ofInt 64 ((xs.getD (i+8) (0:Int)).fdiv (16:Int))&&&BitVec.ofInt 64 (65535:Int)).toNat)).tmod (Int.ofNat (Y.length+1)))=M p)],
   .to .normal (Sh xs c d i x nx n ds [(10,M m),t11,(12,fj Y),(13,M p)]))]
 :=dj.of C C C
theorem amN(d:Dc)(i:Nat)(x:eJ)(m:Nat)(nx:Int)(n:Nat)(ds:List Eng.D)(Y:List Int)(p:Nat):dw (U dY []) [] 0 Tryz.f34 [0,1,4,5,6,7,11,204,206] (TW (dF Yp)) (Sh xs c d i x nx n ds [(10,M m),t11,(12,fj Y),(13,M p)]) [([],
   [((dO Y).length=Y.length*1),((0:Int)<=Int.ofNat p/\Int.ofNat p<=(Int.ofNat Y.length)),((dn (dO Y) 0 ((p-0)*1)).length=(p-0)*1),(fo (0+(p-0)) 1 8=true),(0+(0+(p-0))*1<=([]++dn (dO Y) 0 ((p-0)*1)).length),(0<1),(fo (0+(p-0)+1) 1 8=true),((dO Y).length=Y.length*1),((0:Int)<=Int.ofNat p/\Int.ofNat p<=(Int.ofNat Y.length)),((dO Y).length=Y.length*1),((0:Int)<=Int.ofNat p/\Int.ofNat p<=(Int.ofNat Y.length)),((dO Y).length=Y.length*1),((0:Int)<=Int.ofNat p/\Int.ofNat p<=(Int.ofNat Y.length)),((dn (dO Y) (p*1) ((Y.length-p)*1)).length=(Y.length-p)*1),(0+(0+(p-0)+1)*1<=(List.take ((0+(p-0))*1) (List.drop 0 ([]++dn (dO Y) 0 ((p-0)*1)))++[D.int A x.id]).length),(fo (0+(p-0)+1+(Y.length-p)) 1 8=true),((0:Int)<=Int.ofNat m/\Int.ofNat m<(Int.ofNat n))],
   .to .normal (sMw xs c d i x nx n ds (Yq Y p x.id) [t11,(204,.eR (some (5,0)) (0+(p-0)+1+(Y.length-p)) (0+(p-0)+1+(Y.length-p)) 1),(206,.ptr (some (4,0+m*31+15)))]))]
 :=dj.of C C C
theorem amO(d:Dc)(i:Nat)(x:eJ)(nx:Int)(n o:Nat)(ds:List Eng.D)(Y:List Int):dw (U dY []) [] 0 Tryz.f34 [0,1,4,5,6,7,11] (IB (dF Yp)) (Sh xs c d i x nx n ds [t11,(204,fj Y),(206,.ptr (some (4,o)))]) [([],
   [(o+1<=ds.length)],
   .to .normal (Sh xs c d i x nx n (um ds o [.eB Y.length (dO Y)]) [t11]))]
 :=dj.of C C C
theorem amP(d:Dc)(i:Nat)(x:eJ)(nx:Int)(n:Nat)(ds:List Eng.D):dw (U dY []) [] 0 Tryz.f34 [0,1,4,5,6,11] (dM 1 adK) (Sh xs c d i x nx n ds [t11]) [([],
   [(0+n*31<=ds.length),(0<1),(fo (n+1) 31 328=true)],
   .to .normal (sMn xs c d i nx (n+1) (List.take (n*31) (List.drop 0 ds)++x.ds)))]
 :=dj.of C C C
def sMq(d d2:Dc)(i:Nat):St:=fq [(0,fj xs),(1,M c),(4,.ptr (some (0,0))),(5,.ptr (some (1,0))),(6,M i),(11,.ptr (some (2,0)))] (G [(0,.cells QI),(1,.cells d.R),(2,.cells d2.R)]) 3
abbrev QM(d2:Dc):Prop:=V.lA ([]++[V.agg (List.take 4 (List.drop 0 d2.R))]++[])=[d2.v]
theorem amQ(d d2:Dc)(i:Nat)(e a:Int):dw (U (fb 39 [d2.v] (df e a) dY) []) [(216,.split)] 0 Tryz.f34 [0,1,4,5,6] (amx) (sMq xs c d d2 i) [([((e==(0:Int)),true)],
   [QM d2],
   .to .normal (yU xs c d2 [(6,M i)])),
  ([((e==(0:Int)),false)],
   [QM d2],
   .to .normal (yU xs c d [(6,M i)]))]
 :=dj.of C C C
theorem amR(d:Dc)(i:Nat):dw (U dY []) [(46,.dz (M (i+9)))] 0 Tryz.f34 [0,1,4,5,6] (dX (dX bMz)) (yU xs c d [(6,M i)]) [([],
   [(V.int A (IntKind.i64.wrap (Int.ofNat i+(9:Int)))=M (i+9))],
   .to .normal (yU xs c d [(6,M (i+9))]))]
 :=dj.of C C C
theorem amS(d:Dc)(i:Nat):dw (U dY []) [] 0 Tryz.f34 [] (amv) (yU xs c d [(6,M i)]) [([],
   [],
   .ret (.agg [.eB false (d.sp.length) (mE d.sp),.int .i64 (d.root),.int .i64 (d.nx),.eB false (d.ly.length) (fc d.ly)]) (G []) 0)]
 :=dj.of C C C
theorem amT(d:Dc):dw (U dY []) [] 0 Tryz.f34 [0,1,4,5,6] (dF (dF QG)) (yU xs c d []) [([],
   [],
   .to .normal (yU xs c d [(6,M 0)]))]
 :=dj.of C C C
end
abbrev rdC(s:aa)(a:Nat)(f:Bool):ag:=[.str s,.int .i64 (Int.ofNat a),.bool f]
def adL:eJ:=⟨0,0,[],false,0,0,false,z7,0,[],0,tW,z4,[],[],false,[]⟩
def eJ.rc(y:eJ):ag:=y.R.set 27 gG
def hR(y:eJ)(s:aa)(a:Nat)(f:Bool):J h2:=G [(0,.cells adL.R),(1,.cells (rdC s a f)),(2,.cells y.rc)]
noncomputable abbrev adM:Code:=dI Tryz.f31
noncomputable abbrev amU:Code:=dr 6 adM
def adN(s:aa)(v:V):Prop:=(∃l,okL l/\LB l=s/\v= .gw [l.v,L 0])\/v= .gw [adL.v,L 11]
def TR(s:aa)(c:Code)(fm:St):Prop:=∃v,adN s v/\TG ak 0 Tryz.f31.ntmps c fm (fH ak 0 Tryz.f31 (vD v))
section
variable{hk:gF}{hh:List (Nat×List (Nat×lM))}{dm:List (Nat×lM)}{live:List Nat}{aj:ah}{fm s1:St}{c:Code}{s:aa}
theorem TR.st(k:Nat)(s':eU ak hk)(hr:dw (U hk hh) dm 0 Tryz.f31 live (dM k c) fm [([],aj,.to .normal s1)])(hA:∀a∈aj,a)(h:TR s (dr k c) s1)(B:eL Tryz.f31.ntmps c=true:=by kernel_rfl):TR s c fm:=
 h.elim fun v h=>⟨v,h.1,fF k s' hr hA h.2 B⟩
theorem TR.vO{S1:St}(h:ek ak 0 Tryz.f31.ntmps fm S1)(t:TR s c S1):TR s c fm:=t.elim fun v t=>⟨v,t.1,h _ _ t.2⟩
theorem TR.code{d:Code}(e:c=d)(t:TR s d fm):TR s c fm:=e▸t
end
section
variable{s:aa}(hs:s.length<=1500000)
include hs
theorem e7:dX amU=dr 7 adM:=by kernel_rfl
end
section
variable(cf:fO)(x:FuncId×ag×V)
noncomputable def VO:Bool:=
 match cf x.1 x.2.1 .nil gN with
 |some (.ret u,_,_)=>V.beq u x.2.2
 |_=>false
noncomputable def ID:Bool:=(Nat.blt x.1 Tryz.prog.funcs.size&&V.tR x.2.1)&&(x.2.2.free&&VO cf x)
end
theorem T0{cf:fO}(B:gA ak cf){x:FuncId×ag×V}(h:ID cf x=true):FA ak x:=by
 simp only[ID,ay,VO]at h;obtain⟨⟨h0,Q⟩,O,h3⟩:=h;split at h3
 . rename_i u h' n' e;rw[beq_eq _ _ h3]at e;exact⟨az h0,Q,O,cf,h',n',B,e⟩
 . cases h3
theorem san:FA ak (8,[],.bool true):=T0 (Av (n0:=1000) mo po 60) C
structure smL(l:eJ):Prop where
 nm:l.nm.length<=1000
 kids:l.kids.length<=1000
 eM:l.f.eM.length<=1000
 cu:l.f.cu.length<=1000
 gW:l.gW.length<=1000
theorem smL.ok{l:eJ}(h:smL l):okL l:=by
 obtain⟨Q,O,h3,h4,h5⟩:=h;exact⟨H,H,H,H,H⟩
theorem T1(s:List Int):(PZ s).length=s.length+1:=by
 unfold PZ;split<;>simp[LA]
theorem LJ(s:List Int)(hs:s.length<=12):(vP s).eM.length<=1000/\(vP s).cu.length<=1000:=by
 have Q:=P1 s 1;have ht:=yo Q.1 (d:=3) eY;unfold vP
 repeat' split
 all_goals first
  |exact⟨aU _,aU _⟩
  |(refine⟨?_,aU _⟩
    rw[P2];have:((f12 s 1).tmod 3).toNat<=2:=by omega
    have:=Nat.mul_le_mul (show 2*((f12 s 1).tmod 3).toNat+1<=5 by omega) (show 2*((f12 s 1).tmod 3).toNat+1<=5 by omega);omega)
  |(refine⟨aU _,?_⟩
    show(PZ (s.drop 1)).length<=1000;rw[T1,List.length_drop];omega)
theorem T2(s:S8):smL (lV s):=by
 refine⟨?_,aU _,?_,?_,?_⟩
 . show(NY s.s1).length<=1000;unfold NY;rw[List.length_drop,bq];simp only[aP,bW];omega
 . show(if GN s=3 then vP (l12 s)else tW).eM.length<=1000;split
   . exact(LJ (l12 s) (aK 12)).1
   . exact aU _
 . show(if GN s=3 then vP (l12 s)else tW).cu.length<=1000;split
   . exact(LJ (l12 s) (aK 12)).2
   . exact aU _
 . show(if GN s=5 then Ik s.s6 s.s7 (P4 s)else[]).length<=1000;split
   . unfold Ik P4;rw[bG,List.length_range];have:(BitVec.ofInt 64 s.s5&&&BitVec.ofInt 64 (3:Int)).toNat<=3:=by
      rw[BitVec.toNat_and];exact Nat.and_le_right
     omega
   . exact aU _
set_option maxRecDepth 10000
section
variable(xs:List Int)(x:eJ)(ls:List eJ)(i j n:Nat)
def Si(nx:Int):Int:=IntKind.i64.wrap (1+(an (xs.getD (i+7) 0) 65535).tmod nx)
def rj(o:Int):eJ:=if x.kd=4 then { x with of:=o }else x
def u6(o:Int):eJ:=if x.kd=1/\0<n then { x with sp:=o }else x
noncomputable def T3(d:Dc):eJ:=u6 (rj { lV (TY xs i)with id:=d.nx } (Si xs i d.nx)) d.sp.length (an (xs.getD (i+5) 0) 1)
def kM:List Int:=((List.range j).filter fun k=>(ls.getD k gy).kd==2).map Int.ofNat
theorem Nj:kM ls (j+1)=if((ls.getD j gy).kd==2)=true then kM ls j++[Int.ofNat j]else kM ls j:=by
 unfold kM;rw[List.range_succ,List.filter_append,bQ];by_cases h:((ls.getD j gy).kd==2)=true
 . rw[aG h,List.filter_cons_of_pos (p:=fun k=>(ls.getD k gy).kd==2) h];rfl
 . rw[aB h,List.filter_cons_of_neg (p:=fun k=>(ls.getD k gy).kd==2) h];simp
theorem IE{ls:List eJ}{j:Nat}{y:Int}:y∈kM ls j↔∃k,k<j/\(ls.getD k gy).kd=2/\y=Int.ofNat k:=by
 unfold kM;simp only[bN,List.mem_filter,bL,cG];constructor
 . rintro⟨k,⟨Q,O⟩,rfl⟩;exact⟨k,Q,O,rfl⟩
 . rintro⟨k,Q,O,rfl⟩;exact⟨k,⟨Q,O⟩,rfl⟩
def gI:Nat:=((an (xs.getD (i+8) 0) 65535).tmod (Int.ofNat n)).toNat
def mI(d:Dc):Nat:=((kM d.ly d.ly.length).getD (gI xs i (kM d.ly d.ly.length).length) 0).toNat
def nxI(d:Dc):Int:=IntKind.i64.wrap (IntKind.i64.wrap (d.nx+1)+an ((xs.getD (i+8) 0).fdiv 65536) 1)
def pI:Nat:=((an ((xs.getD (i+8) 0).fdiv 16) 65535).tmod (Int.ofNat (n+1))).toNat
def xk(Y:List Int)(p:Nat)(id:Int):List Int:=Y.take p++id::Y.drop p
noncomputable def D4(d:Dc):Dc where
 sp:=d.sp
 root:=1
 nx:=nxI xs i d
 ly:=d.ly.set (mI xs i d) { d.at (mI xs i d)with kids:=xk (d.at (mI xs i d)).kids (pI xs i (d.at (mI xs i d)).kids.length) d.nx }++[T3 xs i d]
noncomputable def wq(d:Dc):Dc:=if(jo (D4 xs i d)).1=0 then D4 xs i d else d
theorem Yr(d:Dc):(T3 xs i d).id=d.nx:=by
 unfold T3 u6 rj;split<;>split<;>rfl
end
theorem Gg{R x:ai}{o n k:Nat}(h:dn R o n=x)(W:k<n)(hl:x.length=n):R.getD (o+k) Eng.D.AU=x.getD k Eng.D.AU:=by
 subst h;unfold dn at hl ⊢;rw[ax,ax,bS,aG W,bU]
theorem Nk{l:List eJ}{i:Nat}(h:i<l.length):dn (fc l) (i*31) 31=(l.getD i gy).ds:=by
 rw[ax,au h];exact si (f:=eJ.ds) F1 l i h
theorem LK(a b:List eJ):fc (a++b)=fc a++fc b:=by unfold fc;rw[bQ,List.flatten_append]
theorem QN{l:List eJ}{m:Nat}(h:m<l.length)(Y:List Int):um (fc l) (0+m*31+15) [.eB Y.length (dO Y)]=fc (l.set m { l.getD m gy with kids:=Y }):=by
 have e:l=l.take m++(l.getD m gy::l.drop (m+1)):=by
  rw[ax,au h,ck,<- b9 h,List.take_append_drop]
 generalize l.getD m gy=x at e ⊢;have hl:(l.take m).length=m:=by rw[bq];omega
 generalize l.take m=a at e hl;generalize l.drop (m+1)=b at e;subst e;have e1:(a++x::b).set m { x with kids:=Y }=a++{ x with kids:=Y }::b:=by rw[List.set_append_right _ _ H];simp[hl]
 have e2:∀y:eJ,fc (a++y::b)=fc a++(y.ds++fc b):=fun y=>by rw[LK];rfl
 rw[e1,e2,e2];have hA:(fc a).length=0+m*31:=by rw[gj,hl,b7]
 generalize fc a=aj at hA ⊢;generalize fc b=hc;have:um (aj++(x.ds++hc)) (0+m*31+15) [.eB Y.length (dO Y)]=aj++um (x.ds++hc) 15 [.eB Y.length (dO Y)]:=by
  unfold um;rw[<- hA,List.take_append,cW H,Nat.add_sub_cancel_left,de];congr 3;rw[List.drop_append,List.drop_eq_nil_of_le H,cP];congr 1;omega
 rw[this];rfl
theorem T4(Y:List Int)(p:Nat)(id:Int)(h:p<=Y.length):Yq Y p id=dO (xk Y p id)/\0+(p-0)+1+(Y.length-p)=(xk Y p id).length:=by
 constructor
 . unfold Yq xk dn dO;simp only[cU,b7,Nat.sub_zero,cA,cP];rw[bQ,bP,List.map_take,List.map_drop];have hl:(Y.map (Eng.D.int .i64)).length=Y.length:=bG ..;generalize Y.map (Eng.D.int .i64)=n0 at hl ⊢;rw[List.take_take,Nat.min_self,cW (l:=n0.take p++[Eng.D.int .i64 id]) (by rw[aE,bq,cg];omega),cW (l:=n0.drop p) (by rw[List.length_drop];omega),de];rfl
 . unfold xk;rw[aE,aP,bq,List.length_drop];omega
set_option maxRecDepth 10000
structure jg(d:Dc):Prop where
 w:(ir d).1=0
 f:∀x∈d.ly,vQ d.sp.length x=0
 k:∀x∈d.ly,q8 d x=true
 c:∀x∈d.ly,Be d x=false
 a:EM d.ly false
 g:ic d.ly 100 d.root<=6
theorem KC{d:Dc}(h:(jo d).1=0):jg d:=by
 unfold jo at h;by_cases hw:(ir d).1=0
 . rw[aG hw]at h;cases Q:lI (Ku d) d.ly.length with
   |some i=>
    rw[Q]at h;obtain⟨_,O,_⟩:=TP Q;unfold Ku at O;rw[bne_iff_ne]at O;exact absurd h O
   |none=>
   rw[Q]at h;cases O:lI (BB d) d.ly.length with
   |some i=>rw[O]at h;exact absurd h (by simp only;decide)
   |none=>
   rw[O]at h;cases h3:lI (zW d) d.ly.length with
   |some i=>rw[h3]at h;exact absurd h (by simp only;decide)
   |none=>
   rw[h3]at h;cases h4:lI (Ni d) d.ly.length with
   |some i=>rw[h4]at h;exact absurd h (by simp only;decide)
   |none=>
   rw[h4]at h;simp only at h;split at h
   . exact absurd h (by simp only;decide)
   . rename_i h5;refine⟨hw,fun x I=>?_,fun x I=>?_,fun x I=>?_,fun x I=>?_,H⟩
     all_goals obtain⟨j,hj,rfl⟩:=zX I
     . have:=pq Q j hj;unfold Ku at this;simpa using this
     . have:=pq O j hj;unfold BB at this;simpa using this
     . exact pq h3 j hj
     . exact pq h4 j hj
 . rw[aB hw]at h;exact absurd h hw
theorem jg.big{d:Dc}(h:jg d):d.sp.length<=8/\d.ly.length<=40/\1<=d.nx/\d.nx<=1048576:=Df (su h.w).1
theorem jg.kids{d:Dc}(h:jg d):∀x∈d.ly,x.kids.length<=100:=fun x I=>by
 have Q:=zS I;have O:=oA h.k;have h3:=h.big;omega
theorem jg.grp{d:Dc}(h:jg d):∃k,k<d.ly.length/\(d.at k).kd=2:=by
 have Q:=(su h.w).2.2.2;unfold lX at Q;cases hn:jy d.ly d.root with
 |none=>rw[hn]at Q;cases Q
 |some n=>
  rw[hn]at Q;obtain⟨eO,_,_⟩:=jn hn;exact⟨n,eO,by simpa using Q⟩
structure Gh(d:Dc):Prop where
 nx1:1<=d.nx
 nx2:d.nx<=1048576
 len:d.ly.length<=40
 grp:∃k,k<d.ly.length/\(d.at k).kd=2
 kids:∀x∈d.ly,x.kids.length<=100
 fs:Jc d
theorem QO(s:S8):DC (lV s):=by
 have h:=T2 s;have Q:=h.nm;have O:=h.kids;have h3:=h.eM;have h4:=h.cu;have h5:=h.gW;refine⟨H,H,H,H,H,?_,?_⟩
 . show(if GN s=1 then nV [s.s4,s.s5,s.s6,s.s7,s.s2]else[]).length<=1000000;split
   . exact bE (w6 _) eY
   . exact aU _
 . show(if an s.s3 192=64 then nV [s.s3,s.s4,s.s5]else[]).length<=1000000;split
   . exact bE (w6 _) eY
   . exact aU _
section
variable(xs:List Int)(i:Nat)
theorem Ys(d:Dc):DC (T3 xs i d)/\(T3 xs i d).kids=[]:=by
 have h:=QO (TY xs i);have k:(lV (TY xs i)).kids=[]:=rfl;unfold T3;generalize lV (TY xs i)=y at h k;unfold u6 rj;obtain⟨Q,O,h3,h4,h5,h6,h7⟩:=h;split<;>split<;>exact⟨⟨Q,O,h3,h4,h5,h6,h7⟩,k⟩
theorem VP{xs:List Int}{i:Nat}{d:Dc}(h:∃k,k<d.ly.length/\(d.at k).kd=2):gI xs i (kM d.ly d.ly.length).length<(kM d.ly d.ly.length).length/\mI xs i d<d.ly.length/\(kM d.ly d.ly.length).getD (gI xs i (kM d.ly d.ly.length).length) 0=Int.ofNat (mI xs i d):=by
 obtain⟨k,W,hk2⟩:=h;have K:Int.ofNat k∈kM d.ly d.ly.length:=IE.2 ⟨k,W,hk2,rfl⟩;have hl:0<(kM d.ly d.ly.length).length:=List.length_pos_of_mem K;have hg:gI xs i (kM d.ly d.ly.length).length<(kM d.ly d.ly.length).length:=by
  unfold gI;have:=yo (show 0<=an (xs.getD (i+8) 0) 65535 from(EJ (xs.getD (i+8) 0) 65535 eY).1) (d:=Int.ofNat (kM d.ly d.ly.length).length) (by simp only[gQ];omega);simp only[gQ]at this ⊢;omega
 have DA:(kM d.ly d.ly.length).getD (gI xs i (kM d.ly d.ly.length).length) 0∈kM d.ly d.ly.length:=by
  rw[ax,au hg];exact bK hg
 obtain⟨j,hj,_,e⟩:=IE.1 DA;have e2:mI xs i d=j:=by unfold mI;rw[e];rfl
 exact⟨hg,H,by rw[e,e2]⟩
theorem adP(n:Nat):pI xs i n<=n:=by
 unfold pI;have:=yo (show 0<=an ((xs.getD (i+8) 0).fdiv 16) 65535 from(EJ ((xs.getD (i+8) 0).fdiv 16) 65535 eY).1) (d:=Int.ofNat (n+1)) (by simp only[gQ];omega);simp only[gQ]at this ⊢;omega
theorem IF(Y:List Int)(p:Nat)(id:Int):(xk Y p id).length=Y.length+1:=by
 unfold xk;rw[aE,aP,bq,List.length_drop];omega
theorem LL{d:Dc}(h:Gh d):Jc (D4 xs i d):=by
 have hl:∀x∈(D4 xs i d).ly,DC x:=fun x I=>by
  rcases bg.1 I with q|q
  . rcases List.mem_or_eq_of_mem_set q with q|q
    . exact h.fs.y x q
    . subst q;obtain⟨Q,O,h3,h4,h5,h6,h7⟩:=h.fs.at (mI xs i d);refine⟨Q,?_,h3,h4,h5,h6,h7⟩;show(xk _ _ _).length<=1000000;rw[IF];have:=Kv (d:=d) (p:=fun x=>x.kids.length<=100) (aU _) h.kids (mI xs i d);omega
  . rw[aH]at q;subst q;exact(Ys xs i d).1
 refine⟨⟨?_,fun x I=>(hl x I).kids⟩,h.fs.s,hl⟩;show(List.length (_++_))<=1000000;rw[aE,List.length_set];have:=h.len;simp only[aP,bW];omega
theorem Nl{d:Dc}(h:Gh d):Gh (wq xs i d):=by
 unfold wq;split
 . rename_i B;have k:=KC B;obtain⟨_,k1,k2,k3⟩:=k.big;exact⟨k2,k3,k1,k.grp,k.kids,LL xs i h⟩
 . exact h
end
set_option maxRecDepth 10000
section
variable{xs:List Int}{i:Nat}
theorem u7(h:i<xs.length):∀a∈TZ xs i,a:=S (iI h) (S (eo xs) (eG (fD h)))
theorem rq{k:Nat}(h:i+k<=9000000000000000000):VN i k:=aI (V.int .i64) (by rw[show Int.ofNat i+Int.ofNat k=Int.ofNat (i+k)from rfl];exact gZ (by simp only[gQ];omega) (by simp only[gQ];omega))
theorem u9{aj hc:ah}(Q:∀a∈aj,a)(O:∀a∈hc,a):∀a∈aj++hc,a:=fun a ha=>(bg.1 ha).elim (Q a) (O a)
theorem Yt(h:i+9<=xs.length)(I:i<=1000000):∀a∈r8A xs i,a:=by
 refine u9 (u7 H) (S (rq H) (u9 (u7 H) (S (rq H) (u9 (u7 H) (S (rq H) (u9 (u7 H) (S (rq H) (u9 (u7 H) (S (rq H) (u9 (u7 H) (S (rq H) (u9 (u7 H) (S (rq H) (u9 (u7 H) (eG rfl)))))))))))))))
end
def sMe(xs:List Int)(c:Nat)(d:Dc)(i:Nat)(x:eJ)(r:List (Nat×V)):List Int->St
 | []=>Kz xs c d i x r
 |y::l=>KA xs c d i x (y::l) r
theorem j9.Ip{F fr:Nat}{s fm:St}(ms live:List Nat){aj:ah}(e:Ip F ms live s=some (aj,fm))(hA:∀x∈aj,x):j9 F fr s fm:=by
 unfold YtmjggdmekboefaaGreat.Ip at e;split at e
 case h_2=>cases e
 rename_i A1 s1 Q;split at e
 case h_2=>cases e
 rename_i S1 O;obtain⟨rfl,rfl⟩:=ga e;exact(j9.fz ms Q hA).trans (j9.norm O)
theorem EO{Y:List Int}{a b:Nat}(h:a+b<=Y.length):(dn (dO Y) a b).length=b:=by
 unfold dn;rw[bq,List.length_drop,eo];omega
section
variable(xs:List Int)(c:Nat)
theorem amX(d:Dc)(i:Nat)(x:eJ)(TQ:T3 xs i d=x)(hd:Gh d)(hi:i+9<=xs.length)(I:i<=1000000){hm:Exit->St->Prop}(hK:∀X,ek ak 0 Tryz.f34.ntmps X (yU xs c (wq xs i d) [(6,M i)])->hm .normal X):TG ak 0 Tryz.f34.ntmps Yo (IC xs c d i x [(8,fj (kM d.ly d.ly.length))]) hm:=by
 have hr:=(⟨iI (show i+8<xs.length by omega),eo xs,fD (show i+8<xs.length by omega)⟩:((0:Int)<=Int.ofNat (i+8)/\Int.ofNat (i+8)<Int.ofNat xs.length)/\(dO xs).length=xs.length*1/\V.dx (dn (dO xs) ((i+8)*1) 1)=xI xs (i+8));have hw:=rq (i:=i) (k:=8) H;obtain⟨hg,K,Tf⟩:=VP (xs:=xs) (i:=i) hd.grp;have Dx:0<(kM d.ly d.ly.length).length:=by omega
 have hgl:(kM d.ly d.ly.length).length<=40:=by
  have Q:(kM d.ly d.ly.length).length<=d.ly.length:=by
   unfold kM;rw[bG];exact bE (List.length_filter_le ..) (by rw[List.length_range];exact aK _)
  have:=hd.len;omega
 have hgi:(an (xs.getD (i+8) 0) 65535).tmod (Int.ofNat (kM d.ly d.ly.length).length)=Int.ofNat (gI xs i (kM d.ly d.ly.length).length):=by
  unfold gI;have:=yo (show 0<=an (xs.getD (i+8) 0) 65535 from(EJ (xs.getD (i+8) 0) 65535 eY).1) (d:=Int.ofNat (kM d.ly d.ly.length).length) (by simp only[gQ];omega);exact(Int.toNat_of_nonneg this.1).symm
 have Yu:(an ((xs.getD (i+8) 0).fdiv 16) 65535).tmod (Int.ofNat ((d.at (mI xs i d)).kids.length+1))=Int.ofNat (pI xs i (d.at (mI xs i d)).kids.length):=by
  unfold pI;have:=yo (show 0<=an ((xs.getD (i+8) 0).fdiv 16) 65535 from(EJ ((xs.getD (i+8) 0).fdiv 16) 65535 eY).1) (d:=Int.ofNat ((d.at (mI xs i d)).kids.length+1)) (by simp only[gQ];omega);exact(Int.toNat_of_nonneg this.1).symm
 have hp:=adP xs i (d.at (mI xs i d)).kids.length;have hkl:=Kv (d:=d) (p:=fun x=>x.kids.length<=100) (aU _) hd.kids (mI xs i d);have jx:=hd.len;have mz:=fD hg;rw[Tf]at mz;have Cg:((fc d.ly).getD (0+mI xs i d*31+15) Eng.D.AU).jQ=fj (d.at (mI xs i d)).kids:=by
  rw[b7,Gg (Nk K) eY (F1 _)];rfl
 have qU:D4 xs i d={ sp:=d.sp,root:=1,nx:=nxI xs i d,ly:=d.ly.set (mI xs i d) { d.at (mI xs i d)with kids:=xk (d.at (mI xs i d)).kids (pI xs i (d.at (mI xs i d)).kids.length) d.nx }++[x] }:=by unfold D4;rw[TQ]
 have Dy:=QN K (xk (d.at (mI xs i d)).kids (pI xs i (d.at (mI xs i d)).kids.length) d.nx);have amY:x.id=d.nx:=by rw[<- TQ];exact Yr xs i d
 have hC:=Ym (D4 xs i d) (LL xs i hd);have vK:wq xs i d=if(jo (D4 xs i d)).1=0 then D4 xs i d else d:=rfl
 change um _ _ _=fc (d.ly.set (mI xs i d) { d.at (mI xs i d)with kids:=_ })at Dy;generalize hN:D4 xs i d=fr at qU hC vK;refine fF 1 (di _) (amJ xs c d i x _ _ (mI xs i d)) (S hw (S hr.1 (S hr.2.1 (S hr.2.2 (S (by simp only[gQ];omega) (S (aI (V.int .i64) hgi) (S (iI hg) (S (eo _) (eG mz))))))))) ?_;have hi9:=amK xs c d i x (mI xs i d) (nxI xs i d);rw[b7,cP]at hi9;refine fF 1 (di _) hi9 (S hw (S hr.1 (S hr.2.1 (S hr.2.2 (S rfl (S (gj _) (eG (aZ H))))))) ) ?_;generalize nxI xs i d=nx at qU ⊢;generalize mI xs i d=m at *;generalize hke:(d.at m).kids=Y at *;generalize pI xs i Y.length=p at *;refine fF 1 (di _) (amL xs c d i x m nx d.ly.length (fc d.ly) Y) (S (iI K) (S (by rw[gj];omega) (S Cg (S (eo _) (eG (Ks H)))))) ?_;rw[b7,cP];refine ek.Ip [5] [0,1,4,5,6,7,10,11,12] (fm:=Sh xs c d i x nx d.ly.length (fc d.ly) [(10,M m),t11,(12,fj Y)]) (aj:=[(dO Y).length=Y.length*1]) C (eG (eo _)) _ _ ?_;refine fF 1 (di _) (amM xs c d i x m nx d.ly.length (fc d.ly) Y p) (S hw (S hr.1 (S hr.2.1 (S hr.2.2 (S (gJ H) (S (by simp only[gQ];omega) (eG (aI (V.int .i64) Yu)))))))) ?_;obtain⟨L1,Sa⟩:=amN xs c d i x m nx d.ly.length (fc d.ly) Y p;obtain⟨L2,R9⟩:=amO xs c d i x nx d.ly.length (0+m*31+15) (fc d.ly) (xk Y p x.id);obtain⟨pk1,pk2⟩:=T4 Y p x.id hp;rw[pk1,pk2]at Sa;rw[amY]at Sa R9;refine dK C (Yn (XH (di _) []) (XH (di _) []) mo C Sa ?_ (j9.Ip [5] [0,1,4,5,6,7,11,204,206] (fm:=Sh xs c d i x nx d.ly.length (fc d.ly) [t11,(204,fj (xk Y p d.nx)),(206,.ptr (some (4,0+m*31+15)))]) (aj:=[(dO (xk Y p d.nx)).length=(xk Y p d.nx).length*1]) C (eG (eo _))) R9 (dB (g0 ⟨eG (by rw[gj];omega),_,rfl,fun X dQ=>?_⟩)))
 . have b:(0:Int)<=Int.ofNat p/\Int.ofNat p<=Int.ofNat Y.length:=⟨bZ _,by simp only[gQ];omega⟩;have c1:(dn (dO Y) 0 ((p-0)*1)).length=(p-0)*1:=EO H;refine S (eo _) (S b (S c1 (S (Ks H) (S (by rw[cP,c1];omega) (S eY (S (Ks H) (S (eo _) (S b (S (eo _) (S b (S (eo _) (S b (S (EO H) (S ?_ (S (Ks (by rw[IF];omega)) (eG (iI K)))))))))))))))));rw[aE,bq,cA,cP,c1,cg];omega
 simp only[andThen];rw[Dy]at dQ;refine fU dQ ?_;generalize zQ:d.ly.set m { d.at m with kids:=xk Y p d.nx }=ls at qU ⊢;have hll:ls.length=d.ly.length:=by rw[<- zQ,List.length_set]
 have hn8:=amP xs c d i x nx d.ly.length (fc ls);have e8:List.take (d.ly.length*31) (List.drop 0 (fc ls))++x.ds=fc (ls++[x]):=by
  rw[cA,cW (by rw[gj,hll];exact aK _),LK];congr 1
 have e9:d.ly.length+1=(ls++[x]).length:=by rw[aE,hll];rfl
 rw[e8,e9]at hn8;refine fF 1 (di _) hn8 (S (by rw[gj,hll];omega) (S eY (eG (aZ (by rw[<- e9];omega))))) ?_;refine ek.Ip [3] [0,1,4,5,6,11] (fm:=sMq xs c d fr i) (aj:=[(fc (ls++[x])).length=(ls++[x]).length*31]) (by rw[qU];kernel_rfl) (eG (gj _)) _ _ ?_;refine gv (fu hC (di _)) eE (amQ xs c d fr i (jo fr).1 (jo fr).2) (dD (g1 fun h=>⟨eG rfl,fun X dQ=>hK X ?_⟩) (dB (g1 fun h=>⟨eG rfl,fun X dQ=>hK X ?_⟩)))
 . rw[vK,aG (by simpa using h)];exact ek.norm dQ
 . rw[vK,aB (by simpa using h)];exact ek.norm dQ
theorem amZ(d:Dc)(i:Nat)(x:eJ)(TQ:T3 xs i d=x)(hd:Gh d)(hi:i+9<=xs.length)(I:i<=1000000){hm:Exit->St->Prop}(hK:∀X,ek ak 0 Tryz.f34.ntmps X (yU xs c (wq xs i d) [(6,M i)])->hm .normal X):TG ak 0 Tryz.f34.ntmps (dr 4 zZ) (IC xs c d i x []) hm:=by
 refine fF 1 (di _) (amF xs c d i x) all_nil ?_;rw[show dr 1 (dr 4 zZ)=QH from by kernel_rfl];refine dK C (dK C (gv (di _) eE (amG xs c d i x) (dB (g0 ⟨all_nil,fun X dQ=>?_⟩))));simp only[andThen];have jx:=hd.len;refine jf 2 d.ly.length (fun j=>sMe xs c d i x [(9,M j)] (kM d.ly j)) (fun _=>false) (ek.norm dQ) (fun j hj _ Q' k1 k2 k3=>?_) (fun _ X dQ=>?_)
 . have hA:=fun(h:(decide (Int.ofNat j<Int.ofNat d.ly.length))=true)=>(⟨iI (jW h),gj d.ly,iw (jW h)⟩:((0:Int)<=Int.ofNat j/\Int.ofNat j<Int.ofNat d.ly.length)/\(fc d.ly).length=d.ly.length*31/\V.dx (dn (fc d.ly) (j*31) 31)= .dx (d.at j).ds);have hs:kM d.ly (j+1)=if((d.at j).kd==2)=true then kM d.ly j++[Int.ofNat j]else kM d.ly j:=Nj d.ly j
   have hgl:(kM d.ly j).length<=40:=by
    unfold kM;rw[bG];exact bE (List.length_filter_le ..) (by rw[List.length_range];omega)
   have ON:∀l,kM d.ly j=l->∀X,ek ak 0 Tryz.f34.ntmps X (sMe xs c d i x [(9,M j)] l)->ek ak 0 Tryz.f34.ntmps X (sMe xs c d i x [(9,M j)] (kM d.ly j)):=fun l e X h=>e▸h;generalize hgq:kM d.ly j=l at hs hgl ⊢;cases l with
   |nil=>
    refine gv (di _) eE (amH xs c d i x (d.at j) j) (dD (g2 fun Q O=>?_) (dD (g2 fun Q O=>?_) (dB (g1 fun Q=>⟨all_nil,fun X dQ=>k2 (by have:=r9 Q;omega) X (ON _ hgq X (ek.norm dQ))⟩))))
    . obtain⟨a1,a2,a3⟩:=hA Q;refine⟨S a1 (S a2 (S a3 (eG (gJ (by have:=jW Q;omega))))),fun X dQ=>k1 (jW Q) rfl X ?_⟩;rw[hs,aG O];exact(ek.norm dQ).trans (ek.own [(3,.i64)] (fm:=KA xs c d i x [Int.ofNat j] [(9,M (j+1))]) C)
    . obtain⟨a1,a2,a3⟩:=hA Q;refine⟨S a1 (S a2 (S a3 (eG (gJ (by have:=jW Q;omega))))),fun X dQ=>k1 (jW Q) rfl X ?_⟩;rw[hs,aB (show ¬((d.at j).kd==2)=true by rw[O];decide)];exact ek.norm dQ
   |cons y l=>
    have hp:0<(y::l).length:=by simp only[aP];omega
    refine gv (di _) eE (amI xs c d i x (d.at j) (y::l) j) (dD (g2 fun Q O=>?_) (dD (g2 fun Q O=>?_) (dB (g1 fun Q=>⟨all_nil,fun X dQ=>k2 (by have:=r9 Q;omega) X (ON _ hgq X (ek.norm dQ))⟩))))
    . obtain⟨a1,a2,a3⟩:=hA Q;refine⟨S a1 (S a2 (S a3 (S hp (S H (S eY (S (Ks H) (eG (gJ (by have:=jW Q;omega))))))))),fun X dQ=>k1 (jW Q) rfl X ?_⟩;rw[hs,aG O];have e:sMg xs c d i x (y::l) j [(9,M (j+1))]=KA xs c d i x (y::l++[Int.ofNat j]) [(9,M (j+1))]:=by
       unfold sMg KA;rw[cA,cU,bz,aE];rfl
      rw[e]at dQ;exact ek.norm dQ
    . obtain⟨a1,a2,a3⟩:=hA Q;refine⟨S a1 (S a2 (S a3 (eG (gJ (by have:=jW Q;omega))))),fun X dQ=>k1 (jW Q) rfl X ?_⟩;rw[hs,aB (show ¬((d.at j).kd==2)=true by rw[O];decide)];exact ek.norm dQ
 simp only[andThen];refine dQ _ _ ?_;have K:=VP (xs:=xs) (i:=i) hd.grp;have B:=amX xs c d i x TQ hd hi I hK;generalize kM d.ly d.ly.length=l at K B ⊢;cases l with
 |nil=>exact absurd K.1 (bC _)
 |cons y l=>exact ek.Ip [3] [0,1,4,5,6,7,8] (fm:=IC xs c d i x [(8,fj (y::l))]) (aj:=[(dO (y::l)).length=(y::l).length*1]) C (eG (eo _)) _ _ B
theorem QS(d:Dc)(i:Nat)(hd:Gh d)(hi:i+9<=xs.length)(I:i<=1000000){hm:Exit->St->Prop}(hK:∀X,ek ak 0 Tryz.f34.ntmps X (yU xs c (wq xs i d) [(6,M i)])->hm .normal X):TG ak 0 Tryz.f34.ntmps zZ (yU xs c d [(6,M i)]) hm:=by
 have hr:=fun k (W:k<=8)=>(⟨iI (show i+k<xs.length by omega),eo xs,fD (show i+k<xs.length by omega)⟩:((0:Int)<=Int.ofNat (i+k)/\Int.ofNat (i+k)<Int.ofNat xs.length)/\(dO xs).length=xs.length*1/\V.dx (dn (dO xs) ((i+k)*1) 1)=xI xs (i+k));have hw:=fun k (W:k<=8)=>rq (i:=i) (k:=k) H;refine fF 2 (fu (ajt (TY xs i)) (di _)) (amC xs c d i (lV (TY xs i))) (Yt hi I) ?_;have Sj:d.nx≠0:=by have:=hd.nx1;omega
 generalize Z9:({ lV (TY xs i)with id:=d.nx }:eJ)=x1;refine dK C ?_;have A7:∀a∈[V.int .i64 (IntKind.i64.wrap (Int.ofNat i+(7:Int)))=M (i+7),(0:Int)<=Int.ofNat (i+7)/\Int.ofNat (i+7)<Int.ofNat xs.length,(dO xs).length=xs.length*1,V.dx (dn (dO xs) ((i+7)*1) 1)=xI xs (i+7),d.nx≠(0:Int),V.int .i64 (Si xs i d.nx)=L (Si xs i d.nx)],a:=S (hw 7 H) (S (hr 7 H).1 (S (hr 7 H).2.1 (S (hr 7 H).2.2 (S Sj (eG rfl)))));have s1:TG ak 0 Tryz.f34.ntmps (dr 3 zZ) (IC xs c d i (rj x1 (Si xs i d.nx)) []) hm:=by
  have A5:∀a∈[V.int .i64 (IntKind.i64.wrap (Int.ofNat i+(5:Int)))=M (i+5),(0:Int)<=Int.ofNat (i+5)/\Int.ofNat (i+5)<Int.ofNat xs.length,(dO xs).length=xs.length*1,V.dx (dn (dO xs) ((i+5)*1) 1)=xI xs (i+5),V.int .i64 (an (xs.getD (i+5) 0) 1)=L (an (xs.getD (i+5) 0) 1)],a:=S (hw 5 H) (S (hr 5 H).1 (S (hr 5 H).2.1 (S (hr 5 H).2.2 (eG rfl))));have TQ:T3 xs i d=u6 (rj x1 (Si xs i d.nx)) d.sp.length (an (xs.getD (i+5) 0) 1):=by rw[<- Z9];rfl
  have hb:=amZ xs c d i _ TQ hd hi I hK;generalize rj x1 (Si xs i d.nx)=x2 at hb;have Al:¬(x2.kd=1/\0<d.sp.length)->TG ak 0 Tryz.f34.ntmps (dr 4 zZ) (IC xs c d i x2 []) hm:=fun h=>by
   have e:u6 x2 d.sp.length (an (xs.getD (i+5) 0) 1)=x2:=by unfold u6;rw[aB h]
   rw[e]at hb;exact hb
  rw[show dr 3 zZ= .seq (dF (dr 3 zZ)) (dr 4 zZ)from by kernel_rfl];refine JV (gv (di _) eE (amE xs c d i x2 (an (xs.getD (i+5) 0) 1)) (dD (g2 fun Q O=>⟨A5,fun X dQ=>?_⟩) (dD (g2 fun Q O=>⟨all_nil,fun X dQ=>?_⟩) (dB (g1 fun Q=>⟨all_nil,fun X dQ=>?_⟩)))))
  . simp only[andThen];refine fU dQ ?_;have e:u6 x2 d.sp.length (an (xs.getD (i+5) 0) 1)={ x2 with sp:=an (xs.getD (i+5) 0) 1 }:=by unfold u6;rw[aG ⟨by simpa using Q,by have:=aX O;simp only[gQ]at this;omega⟩]
    rw[e]at hb;exact hb
  . simp only[andThen];refine fU dQ (Al fun q=>?_);have:=bB O;simp only[gQ]at this;omega
  . simp only[andThen];refine fU dQ (Al fun q=>?_);rw[q.1]at Q;cases Q
 refine gv (di _) eE (amD xs c d i x1 (Si xs i d.nx)) (dD (g1 fun h=>⟨A7,fun X dQ=>?_⟩) (dB (g1 fun h=>⟨all_nil,fun X dQ=>?_⟩)))
 . simp only[andThen];refine fU dQ ?_;have e:rj x1 (Si xs i d.nx)={ x1 with of:=Si xs i d.nx }:=by unfold rj;rw[aG (by simpa using h)]
   rw[<- e];exact s1
 . simp only[andThen];refine fU dQ ?_;have e:rj x1 (Si xs i d.nx)=x1:=by unfold rj;rw[aB (by simpa using h)]
   rw[e]at s1;exact s1
end
set_option maxRecDepth 10000
theorem am0:dw (U dY []) [] 0 Tryz.f80 [] (dI Tryz.f80) (dy [] .nil 0) [([],
   [],
   .ret (.agg [.eR none 0 0 0,.int .i64 1,.int .i64 2,.eR (some (0,0)) 1 1 31]) (G [(0,.cells [.int .i64 1,.int .i64 2,.str [],.bool false,.int .i64 255,.int .i64 0,.bool false,.int .i64 0,.int .i64 0,.int .i64 0,.int .i64 0,.int .i64 0,.int .i64 0,.int .i64 0,.int .i64 0,.eR none 0 0 0,.int .i64 0,.int .i64 0,.int .i64 0,.eR none 0 0 0,.int .i64 0,.int .i64 0,.eR none 0 0 0,.int .u8 0,.int .u8 0,.int .u8 0,.int .u8 0,.eR none 0 0 0,.eR none 0 0 0,.bool false,.eR none 0 0 0])]) 1)]
 :=dj.of C C C
theorem am1:dw (U dY []) [] 0 Tryz.f112 [] (dI Tryz.f112) (dy [] .nil 0) [([],
   [],
   .ret (.agg [.eR (some (0,0)) 2 2 1,.eR (some (0,0)) 2 2 1,.eR (some (0,0)) 2 2 1,.int .i64 4096,.int .i64 0,.int .i64 0,.int .i64 0,.int .i64 4096,.int .i64 0,.int .i64 0,.int .i64 0,.int .i64 4096,.int .i64 4096,.int .i64 0,.int .i64 0,.int .i64 0,.int .i64 4096,.int .i64 0,.int .i64 0,.int .i64 0,.int .i64 4096]) (G [(0,.cells [.int .i64 0,.int .i64 65535])]) 1)]
 :=dj.of C C C
section
variable(k:Int)(q:Nat)(s:Sp)(a:Int)
theorem am2:dw (U dY []) [(6,.split),(9,.split),(12,.split)] 0 Tryz.f113 [] (dI Tryz.f113) (dy [L k] .nil 0) [([((IntKind.i64.wrap (Int.ofNat (BitVec.ofInt 64 k&&&BitVec.ofInt 64 (3:Int)).toNat)==(1:Int)),true)],
   [],
   .ret (.eR (some (0,0)) 5 5 1) (G [(0,.cells [.int .i64 0,.int .i64 4096,.int .i64 16384,.int .i64 36864,.int .i64 65535])]) 1),
  ([((IntKind.i64.wrap (Int.ofNat (BitVec.ofInt 64 k&&&BitVec.ofInt 64 (3:Int)).toNat)==(1:Int)),false),((IntKind.i64.wrap (Int.ofNat (BitVec.ofInt 64 k&&&BitVec.ofInt 64 (3:Int)).toNat)==(2:Int)),true)],
   [],
   .ret (.eR (some (0,0)) 3 3 1) (G [(0,.cells [.int .i64 0,.int .i64 40000,.int .i64 65535])]) 1),
  ([((IntKind.i64.wrap (Int.ofNat (BitVec.ofInt 64 k&&&BitVec.ofInt 64 (3:Int)).toNat)==(1:Int)),false),((IntKind.i64.wrap (Int.ofNat (BitVec.ofInt 64 k&&&BitVec.ofInt 64 (3:Int)).toNat)==(2:Int)),false),((IntKind.i64.wrap (Int.ofNat (BitVec.ofInt 64 k&&&BitVec.ofInt 64 (3:Int)).toNat)==(3:Int)),true)],
   [],
   .ret (.eR (some (0,0)) 5 5 1) (G [(0,.cells [.int .i64 100,.int .i64 100,.int .i64 30000,.int .i64 30000,.int .i64 65000])]) 1),
  ([((IntKind.i64.wrap (Int.ofNat (BitVec.ofInt 64 k&&&BitVec.ofInt 64 (3:Int)).toNat)==(1:Int)),false),((IntKind.i64.wrap (Int.ofNat (BitVec.ofInt 64 k&&&BitVec.ofInt 64 (3:Int)).toNat)==(2:Int)),false),((IntKind.i64.wrap (Int.ofNat (BitVec.ofInt 64 k&&&BitVec.ofInt 64 (3:Int)).toNat)==(3:Int)),false)],
   [],
   .ret (.eR (some (0,0)) 2 2 1) (G [(0,.cells [.int .i64 0,.int .i64 65535])]) 1)]
 :=dj.of C C C
def sp1:Sp:=⟨[0,65535],[0,65535],[0,65535],⟨4096,0,0,0,4096,0,0,0,4096⟩,⟨4096,0,0,0,4096,0,0,0,4096⟩⟩
noncomputable abbrev adQ:Code:=dI Tryz.f81
noncomputable abbrev Yv:Code:=dr 7 adQ
noncomputable abbrev bSp:Code:=dG (dG (dX (dF Yv)))
def zSp:ag:=[gG,gG,gG]++D.fQ ((⟨0,0,0,0,0,0,0,0,0⟩:M9).ds++(⟨0,0,0,0,0,0,0,0,0⟩:M9).ds)
def Nn(r:List (Nat×V)):St:=fq ([(0,M q),(2,.ptr (some (0,0))),(3,.ptr (some (1,0)))]++r) (G [(0,.cells zSp),(1,.cells (D.fQ s.ds))]) 2
def mT:Nat->M9
 |0=>⟨4096,0,0,0,4096,0,0,0,4096⟩
 |1=>⟨0,4096,0,0,0,4096,4096,0,0⟩
 |2=>⟨2048,0,0,0,8192,0,0,0,4096⟩
 |_=>⟨4096,2048,0,0,4096,0,0,1024,4096⟩
def mF:Nat->M9
 |0=>⟨4096,0,0,0,4096,0,0,0,4096⟩
 |1=>⟨0,0,4096,4096,0,0,0,4096,0⟩
 |2=>⟨8192,0,0,0,2048,0,0,0,4096⟩
 |_=>⟨4096,-2048,0,0,4096,0,0,-1024,4096⟩
def sp4(r:Nat):Sp:=⟨[0,65535],[0,65535],[0,65535],mT r,mF r⟩
abbrev n4(i:Nat):Prop:=(0:Int)<=Int.ofNat i/\Int.ofNat i<4
theorem am4:∀r,r<4->dw (U (fb 112 [] sp1.v dY) []) [(10,.dz (M q)),(25,.dz (M r)),(30,.dz (M r))] 0 Tryz.f81 [0,2,3] (dM 7 adQ) (dy [L k] .nil 0)
  [([],[V.int .i64 ((IntKind.i64.wrap (k.tmod (256:Int)+(256:Int))).tmod (256:Int))=M q,fa [],V.int .i64 ((Int.ofNat q).tmod (4:Int))=M r,n4 r,V.int .i64 ((Int.ofNat q).tmod (4:Int))=M r,n4 r],.to .normal (Nn q (sp4 r) []))]:=by
 intro r hr;obtain rfl|rfl|rfl|rfl:r=0\/r=1\/r=2\/r=3:=by omega
 all_goals exact dj.of C C C
theorem am5:dw (U dY []) [] 0 Tryz.f81 [0,2,3,6] (dF (dF Yv)) (Nn q s []) [([],
   [],
   .to .normal (Nn q s [(6,M 0)]))]
 :=dj.of C C C
theorem am6(l:List Int):dw (U (fb 113 [L a] (fj l) dY) []) [(43,.dz (L a))] 0 Tryz.f81 [0,2,3,6] (bSp) (Nn q s [(6,M 0)]) [([],
   [((4:Int)≠(0:Int)),(V.int A ((IntKind.i64.wrap ((Int.ofNat q).tdiv (4:Int))).fdiv (1:Int))=L a),(V.lA ([]++[L a]++[])=[L a]),((0:Int)<=(0:Int)/\(0:Int)<(3:Int))],
   .to .normal (Nn q { s with c0:=l } [(6,M 1)]))]
 :=dj.of C C C
theorem am7(l:List Int):dw (U (fb 113 [L a] (fj l) dY) []) [(43,.dz (L a))] 0 Tryz.f81 [0,2,3,6] (bSp) (Nn q s [(6,M 1)]) [([],
   [((4:Int)≠(0:Int)),(V.int A ((IntKind.i64.wrap ((Int.ofNat q).tdiv (4:Int))).fdiv (4:Int))=L a),(V.lA ([]++[L a]++[])=[L a]),((0:Int)<=(1:Int)/\(1:Int)<(3:Int))],
   .to .normal (Nn q { s with c1:=l } [(6,M 2)]))]
 :=dj.of C C C
theorem am8(l:List Int):dw (U (fb 113 [L a] (fj l) dY) []) [(43,.dz (L a))] 0 Tryz.f81 [0,2,3,6] (bSp) (Nn q s [(6,M 2)]) [([],
   [((4:Int)≠(0:Int)),(V.int A ((IntKind.i64.wrap ((Int.ofNat q).tdiv (4:Int))).fdiv (16:Int))=L a),(V.lA ([]++[L a]++[])=[L a]),((0:Int)<=(2:Int)/\(2:Int)<(3:Int))],
   .to .normal (Nn q { s with c2:=l } [(6,M 3)]))]
 :=dj.of C C C
theorem am9:dw (U dY []) [] 0 Tryz.f81 [0,2,3,6] (bSp) (Nn q s [(6,M 3)]) [([],
   [],
   .to (.exit 0) (Nn q s [(6,M 3)]))]
 :=dj.of C C C
theorem ana:dw (U dY []) [] 0 Tryz.f81 [] (dX Yv) (Nn q s [(6,M 3)]) [([],
   [],
   .ret (.agg [.eB false (s.c0.length) (dO s.c0),.eB false (s.c1.length) (dO s.c1),.eB false (s.c2.length) (dO s.c2),.int .i64 (s.to.a),.int .i64 (s.to.b),.int .i64 (s.to.c),.int .i64 (s.to.d),.int .i64 (s.to.e),.int .i64 (s.to.f),.int .i64 (s.to.g),.int .i64 (s.to.h),.int .i64 (s.to.i),.int .i64 (s.N.a),.int .i64 (s.N.b),.int .i64 (s.N.c),.int .i64 (s.N.d),.int .i64 (s.N.e),.int .i64 (s.N.f),.int .i64 (s.N.g),.int .i64 (s.N.h),.int .i64 (s.N.i)]) (G []) 0)]
 :=dj.of C C C
end
set_option maxRecDepth 10000
section
variable(k:Int)
def yV:List Int:=if an k 3=1 then[0,4096,16384,36864,65535]else if an k 3=2 then[0,40000,65535]else if an k 3=3 then[100,100,30000,30000,65000]else[0,65535]
theorem Dh{x k:Int}(h:(x==k)=false):¬x=k:=fun e=>by rw[xg.2 e]at h;cases h
theorem cuD:dU ak 113 [L k] (fj (yV k)):=by
 refine qL Tryz.func113 (eK (di _) (am2 k) (dD (g1 fun Q=>⟨all_nil,_,_,_,rfl,?_⟩) (dD (g2 fun Q O=>⟨all_nil,_,_,_,rfl,?_⟩) (dD (g3 fun Q O h3=>⟨all_nil,_,_,_,rfl,?_⟩) (dB (g3 fun Q O h3=>⟨all_nil,_,_,_,rfl,?_⟩))))))
 . have e:yV k=[0,4096,16384,36864,65535]:=by unfold yV;rw[aG (show an k 3=1 from xg.1 Q)]
   rw[e];exact .Bu (v0:=fj [0,4096,16384,36864,65535]) [0] (aj:=[(dO [0,4096,16384,36864,65535]).length=5*1]) C (eG rfl) C C
 . have e:yV k=[0,40000,65535]:=by unfold yV;rw[aB (show ¬an k 3=1 from Dh Q),aG (show an k 3=2 from xg.1 O)]
   rw[e];exact .Bu (v0:=fj [0,40000,65535]) [0] (aj:=[(dO [0,40000,65535]).length=3*1]) C (eG rfl) C C
 . have e:yV k=[100,100,30000,30000,65000]:=by unfold yV;rw[aB (show ¬an k 3=1 from Dh Q),aB (show ¬an k 3=2 from Dh O),aG (show an k 3=3 from xg.1 h3)]
   rw[e];exact .Bu (v0:=fj [100,100,30000,30000,65000]) [0] (aj:=[(dO [100,100,30000,30000,65000]).length=5*1]) C (eG rfl) C C
 . have e:yV k=[0,65535]:=by unfold yV;rw[aB (show ¬an k 3=1 from Dh Q),aB (show ¬an k 3=2 from Dh O),aB (show ¬an k 3=3 from Dh h3)]
   rw[e];exact .Bu (v0:=fj [0,65535]) [0] (aj:=[(dO [0,65535]).length=2*1]) C (eG rfl) C C
theorem ane:dU ak 112 [] sp1.v:=
 qL Tryz.func112 (eK (di _) am1 (dB (g0 ⟨all_nil,_,_,_,rfl,.Bu (v0:=sp1.v) [0] (aj:=[(dO [0,65535]).length=2*1,(dO [0,65535]).length=2*1,(dO [0,65535]).length=2*1]) C (S rfl (S rfl (eG rfl))) C C⟩)))
def d00:Dc:=⟨[],1,2,[{ gy with id:=1,kd:=2,op:=255 }]⟩
theorem adR:dU ak 80 [] d00.v:=
 qL Tryz.func80 (eK (di _) am0 (dB (g0 ⟨all_nil,_,_,_,rfl,.Bu (v0:=.agg [gG,L 1,L 2,.eB false 1 (fc d00.ly)]) [0] (aj:=[(fc d00.ly).length=1*31]) C (eG rfl) C C⟩)))
def q256:Nat:=((IntKind.i64.wrap (k.tmod 256+256)).tmod 256).toNat
def N1:Sp:=⟨yV (IntKind.i64.wrap ((Int.ofNat (q256 k)).tdiv 4)),yV ((IntKind.i64.wrap ((Int.ofNat (q256 k)).tdiv 4)).fdiv 4),yV ((IntKind.i64.wrap ((Int.ofNat (q256 k)).tdiv 4)).fdiv 16),mT (q256 k%4),mF (q256 k%4)⟩
theorem T5:(IntKind.i64.wrap (k.tmod 256+256)).tmod 256=Int.ofNat (q256 k):=by
 have Q:-256<k.tmod 256:=Int.lt_tmod_of_pos k eY;have O:k.tmod 256<256:=Int.tmod_lt_of_pos k eY;have h3:IntKind.i64.wrap (k.tmod 256+256)=k.tmod 256+256:=gZ H H;unfold q256;rw[h3];have:=(yo (x:=k.tmod 256+256) (d:=256) H eY).1;exact(Int.toNat_of_nonneg this).symm
theorem Yw:dU ak 81 [L k] (N1 k).v:=by
 have hq:=aI (V.int .i64) (T5 k);unfold N1;generalize q256 k=q at *;have hr:(Int.ofNat q).tmod 4=Int.ofNat (q%4):=by
  exact Int.tmod_eq_emod_of_nonneg (bZ q)
 have h4:q%4<4:=Nat.mod_lt _ eY;generalize q%4=r at hr h4 ⊢;have n4r:n4 r:=⟨bZ _,cm.2 h4⟩;refine eX Tryz.func81 (fF 7 (fu ane (di _)) (am4 k q r h4) (S hq (S rfl (S (aI (V.int .i64) hr) (S n4r (S (aI (V.int .i64) hr) (eG n4r)))))) ?_);refine dK C (dK C (gv (di _) eE (am5 q (sp4 r)) (dB (g0 ⟨all_nil,fun X dQ=>?_⟩))));simp only[andThen];generalize ha:IntKind.i64.wrap ((Int.ofNat q).tdiv 4)=a;refine jf 0 3 (fun j=>Nn q (match j with|0=>sp4 r|1=>{ sp4 r with c0:=yV a }|2=>{ sp4 r with c0:=yV a,c1:=yV (a.fdiv 4) }|_=>{ sp4 r with c0:=yV a,c1:=yV (a.fdiv 4),c2:=yV (a.fdiv 16) }) [(6,M j)]) (fun _=>false) (ek.norm dQ) (fun j hj _ Q' k1 k2 k3=>?_) (fun _ X dQ=>?_)
 . match j,hj with
   |0,_=>exact gv (fu (cuD a) (di _)) eE (am6 q _ a (yV a)) (dB (g0 ⟨S eY (S (by rw[ha,show a.fdiv 1=a from Int.fdiv_one a]) (S rfl (eG eY))),fun X dQ=>k1 eY rfl X (ek.norm dQ)⟩))
   |1,_=>exact gv (fu (cuD (a.fdiv 4)) (di _)) eE (am7 q _ (a.fdiv 4) (yV (a.fdiv 4))) (dB (g0 ⟨S eY (S (by rw[ha]) (S rfl (eG eY))),fun X dQ=>k1 eY rfl X (ek.norm dQ)⟩))
   |2,_=>exact gv (fu (cuD (a.fdiv 16)) (di _)) eE (am8 q _ (a.fdiv 16) (yV (a.fdiv 16))) (dB (g0 ⟨S eY (S (by rw[ha]) (S rfl (eG eY))),fun X dQ=>k1 eY rfl X (ek.norm dQ)⟩))
   |3,_=>exact gv (di _) eE (am9 q _) (dB (g0 ⟨all_nil,fun X dQ=>k2 rfl X (ek.norm dQ)⟩))
   |n+4,hj=>exact absurd hj H
 simp only[andThen];refine dQ _ _ (eK (di _) (ana q _) (dB (g0 ⟨all_nil,_,_,_,rfl,rfl⟩)))
end
set_option maxRecDepth 10000
section
variable(xs:List Int)(c:Nat)
def sMs(d:Dc)(s:Sp):St:=fq [(0,fj xs),(1,M c),(4,.ptr (some (0,0))),(5,.ptr (some (1,0)))] (G [(0,.cells QI),(1,.cells [.eR (some (2,0)) 1 1 21,L d.root,L d.nx,.eB false d.ly.length (fc d.ly)]),(2,.cells (D.fQ s.ds))]) 3
theorem anf(d:Dc)(s:Sp)(a:Int):dw (U (fb 81 [L a] s.v dY) []) [(27,.dz (xI xs 0)),(30,.dz (L a))] 0 Tryz.f34 [0,1,4,5] (lK (dX (dF QF))) (yU xs c d [(25,.bool true)]) [([],
   [((0:Int)<=(0:Int)/\(0:Int)<(Int.ofNat xs.length)),((dO xs).length=xs.length*1),(V.dx (dn (dO xs) 0 1)=xI xs 0),(V.int A (IntKind.i64.wrap (Int.ofNat (BitVec.ofInt 64 ((xs.getD 0 (0:Int)).fdiv (4096:Int))&&&BitVec.ofInt 64 (1023:Int)).toNat))=L a),(V.lA ([]++[L a]++[])=[L a])],
   .to .normal (sMs xs c d s))]
 :=dj.of C C C
theorem ang(d:Dc):dw (U dY []) [] 0 Tryz.f34 [0,1,4,5] (oW (dX (dF QF))) (yU xs c d [(25,.bool false)]) [([],
   [],
   .to .normal (yU xs c d []))]
 :=dj.of C C C
end
set_option maxRecDepth 10000
def MZ(xs:List Int):Dc:=if 0<xs.length/\an ((xs.getD 0 0).fdiv 1024) 3=1 then { d00 with sp:=[N1 (an ((xs.getD 0 0).fdiv 4096) 1023)] }else d00
noncomputable def Sk(xs:List Int):Nat->Dc
 |0=>MZ xs
 |j+1=>wq xs (9*j) (Sk xs j)
section
variable(xs:List Int)(c:Nat)
def Sl:Nat:=min (xs.length/9) c
noncomputable def AM:Dc:=Sk xs (Sl xs c)
theorem adS(k:Int):TN (N1 k):=by
 have h:∀a,(yV a).length<=1000000:=fun a=>by
  unfold yV;split
  . decide
  . split
    . decide
    . split<;>decide
 exact⟨h _,h _,h _⟩
theorem T6:Gh (MZ xs):=by
 have h0:DC { gy with id:=1,kd:=2,op:=255 }:=⟨aU _,aU _,aU _,aU _,aU _,aU _,aU _⟩;have hl:∀x∈d00.ly,DC x/\x.kids.length<=100:=fun x I=>by
  have:x={ gy with id:=1,kd:=2,op:=255 }:=aH.1 I;subst this;exact⟨h0,aU _⟩
 unfold MZ;split
 . exact⟨show(1:Int)<=d00.nx by decide,show d00.nx<=1048576 by decide,show d00.ly.length<=40 by decide,⟨0,show 0<d00.ly.length by decide,rfl⟩,fun x I=>(hl x I).2,⟨⟨show d00.ly.length<=1000000 by decide,fun x I=>(hl x I).1.kids⟩,fun s hs=>(by rw[aH.1 hs];exact adS _),fun x I=>(hl x I).1⟩⟩
 . exact⟨eY,eY,eY,⟨0,eY,rfl⟩,fun x I=>(hl x I).2,⟨⟨eY,fun x I=>(hl x I).1.kids⟩,fun s hs=>(by cases hs),fun x I=>(hl x I).1⟩⟩
end
theorem Gi(xs:List Int):∀j,Gh (Sk xs j)
 |0=>T6 xs
 |j+1=>Nl xs _ (Gi xs j)
theorem Yx(xs:List Int)(c:Nat)(B:c<=100000):dU ak 34 [fj xs,M c] (AM xs c).v:=by
 refine eX Tryz.func34 (fF 2 (fu adR (di _)) (amy xs c d00) (eG rfl) ?_);have qv:∀X,ek ak 0 Tryz.f34.ntmps X (yU xs c (MZ xs) [])->TG ak 0 Tryz.f34.ntmps QG X (fH ak 0 Tryz.f34 fun u _ _=>u=(AM xs c).v):=fun X dQ=>by
  refine dQ _ _ (dK C (dK C (gv (di _) eE (amT xs c (MZ xs)) (dB (g0 ⟨all_nil,fun X dQ=>?_⟩)))));simp only[andThen];have hn:Sl xs c*9<=xs.length/\Sl xs c<=c:=by unfold Sl;omega
  have pD:∀j,j<Sl xs c\/(xs.length<9*j+9\/c<=j):=fun j=>by unfold Sl;omega
  refine jf 0 (Sl xs c) (fun j=>yU xs c (Sk xs j) [(6,M (9*j))]) (fun _=>false) (ek.norm dQ) (fun j hj _ Q' k1 k2 k3=>?_) (fun _ X dQ=>?_)
  . have A1:V.int .i64 (IntKind.i64.wrap (Int.ofNat (9*j)+(9:Int)))=M (9*j+9):=rq (i:=9*j) (k:=9) H;have A2:V.int .i64 (IntKind.i64.wrap ((9:Int)*Int.ofNat c))=M (9*c):=aI (V.int .i64) (by rw[show(9:Int)*Int.ofNat c=Int.ofNat (9*c)from rfl];exact gZ (by simp only[gQ];omega) (by simp only[gQ];omega));refine qt (di _) eE (amB xs c (Sk xs j) (9*j)) (dD (g2 fun Q O=>⟨S A1 (eG A2),?_⟩) (dD (g2 fun Q O=>⟨S A1 (eG A2),fun X dQ=>k2 ?_ X (ek.norm dQ)⟩) (dB (g1 fun Q=>⟨eG A1,fun X dQ=>k2 ?_ X (ek.norm dQ)⟩))))
    . have q1:9*j+9<=xs.length:=by have:=aX Q;simp only[gQ]at this;omega
      have q2:j<c:=by have:=jW O;omega
      have q3:j<Sl xs c:=by rcases pD j with q|q|q<;>omega
      refine dK C (fh (i:=1) C (QS xs c (Sk xs j) (9*j) (Gi xs j) q1 H fun X dQ=>?_));simp only[gk,andThen];exact dQ _ _ (gv (di _) eE (amR xs c (wq xs (9*j) (Sk xs j)) (9*j)) (dB (g0 ⟨eG A1,fun X dQ=>k1 q3 rfl X (ek.norm dQ)⟩)))
    . have:=r9 O;rcases pD j with q|q|q
      . omega
      . have:=aX Q;simp only[gQ]at this;omega
      . omega
    . have:=bB Q;simp only[gQ]at this;omega
  simp only[andThen];exact dQ _ _ (eK (di _) (amS xs c (Sk xs (Sl xs c)) (9*Sl xs c)) (dB (g0 ⟨all_nil,_,_,_,rfl,rfl⟩)))
 have hB:=fun(h:(decide ((Int.ofNat xs.length)>(0:Int)))=true)=>(by
  have:=aX h;simp only[gQ]at this;have q:0<xs.length:=by omega
  exact⟨iI q,eo xs,fD q⟩:((0:Int)<=(0:Int)/\(0:Int)<Int.ofNat xs.length)/\(dO xs).length=xs.length*1/\V.dx (dn (dO xs) 0 1)=xI xs 0)
 have no:MZ xs=d00->TG ak 0 Tryz.f34.ntmps (oW (dX (dF QF))) (yU xs c d00 [(25,.bool false)]) (andThen (fun X=>TG ak 0 Tryz.f34.ntmps QG X (fH ak 0 Tryz.f34 fun u _ _=>u=(AM xs c).v)) (fH ak 0 Tryz.f34 fun u _ _=>u=(AM xs c).v)):=fun e=>
  gv (di _) eE (ang xs c d00) (dB (g0 ⟨all_nil,fun X dQ=>qv X (by rw[e];exact ek.norm dQ)⟩))
 refine dK C (qt (di _) eE (amA xs c d00) (dD (g2 fun Q O=>?_) (dD (g2 fun Q O=>?_) (dB (g1 fun Q=>?_)))))
 . obtain⟨b1,b2,b3⟩:=hB Q;refine⟨S b1 (S b2 (eG b3)),jR (t:=true) C C (fun _=>?_) (fun h=>by cases h)⟩;have hp:0<xs.length:=by have:=aX Q;simp only[gQ]at this;omega
   have e:MZ xs={ d00 with sp:=[N1 (an ((xs.getD 0 0).fdiv 4096) 1023)] }:=by unfold MZ;rw[aG ⟨hp,xg.1 O⟩]
   refine gv (fu (Yw (an ((xs.getD 0 0).fdiv 4096) 1023)) (di _)) eE (anf xs c d00 (N1 (an ((xs.getD 0 0).fdiv 4096) 1023)) (an ((xs.getD 0 0).fdiv 4096) 1023)) (dB (g0 ⟨S b1 (S b2 (S b3 (S rfl (eG rfl)))),fun X dQ=>qv X ?_⟩));rw[e];generalize N1 (an ((xs.getD 0 0).fdiv 4096) 1023)=s at dQ;exact(ek.norm dQ).trans (ek.Ip [2] [0,1,4,5] (fm:=yU xs c { d00 with sp:=[s] } []) (aj:=[(mE [s]).length=1*21]) C (eG rfl))
 . obtain⟨b1,b2,b3⟩:=hB Q;refine⟨S b1 (S b2 (eG b3)),jR (t:=false) C C (fun h=>by cases h) (fun _=>no ?_)⟩;unfold MZ;rw[aB fun q=>Dh O q.2]
 . refine⟨all_nil,jR (t:=false) C C (fun h=>by cases h) (fun _=>no ?_)⟩;have:=bB Q;simp only[gQ]at this;unfold MZ;rw[aB fun q=>by have:=q.1;omega]
set_option maxRecDepth 10000
theorem QT(k:Int):jN (yV k)=true:=by
 unfold yV;split
 . decide
 . split
   . decide
   . split
     . decide
     . decide
theorem anh:∀r,r<4->∀a b c,((List.range 9).any (Gc ⟨a,b,c,mT r,mF r⟩)=false/\(List.range 3).any (fun i=>(List.range 3).any (zT ⟨a,b,c,mT r,mF r⟩ i))=false):=by
 intro r hr a b c;obtain rfl|rfl|rfl|rfl:r=0\/r=1\/r=2\/r=3:=by omega
 all_goals exact⟨C,C⟩
theorem Yy(k:Int):AJ (N1 k)=true:=by
 obtain⟨Q,O⟩:=anh (q256 k%4) (Nat.mod_lt _ eY) (yV (IntKind.i64.wrap ((Int.ofNat (q256 k)).tdiv 4))) (yV ((IntKind.i64.wrap ((Int.ofNat (q256 k)).tdiv 4)).fdiv 4)) (yV ((IntKind.i64.wrap ((Int.ofNat (q256 k)).tdiv 4)).fdiv 16));have h3:(List.range 3).any (fun i=>!jN ((N1 k).cv i))=false:=by
  rw[cT];intro i _;have:jN ((N1 k).cv i)=true:=match i with
   |0=>QT _
   |1=>QT _
   |_+2=>QT _
  rw[this];decide
 unfold AJ;rw[h3];have Q:(List.range 9).any (Gc (N1 k))=false:=Q;have O:(List.range 3).any (fun i=>(List.range 3).any (zT (N1 k) i))=false:=O;rw[Q,O];rfl
theorem ani:cD (fg [])=true:=PA ⟨aU _,fun i h=>absurd h (bC _)⟩
def N2:eJ:={ gy with id:=1,kd:=2,op:=255 }
theorem anj(n:Nat):vQ n N2=0:=by
 have e:vQ n N2=Kq n N2 (cD (fg [])) (cD (fg [])) (AI N2.pl) (iM N2.f) (sk N2.nm) (GO N2) (jF N2.gW):=rfl;have hs:bs n N2=false:=by
  unfold bs;have:decide (N2.sp>Int.ofNat n)=false:=aT (by show ¬(0:Int)>Int.ofNat n;simp only[gQ];omega);rw[this];rfl
 rw[e,ani];unfold Kq;rw[hs];rfl
theorem IG(sp:List Sp)(hl:sp.length<=8)(hs:∀s∈sp,AJ s=true):jo { d00 with sp:=sp }=(0,0):=by
 generalize hd:({ d00 with sp:=sp }:Dc)=d;have zQ:d.ly=[N2]:=by rw[<- hd];rfl
 have hr:d.root=1:=by rw[<- hd];rfl
 have Sj:d.nx=2:=by rw[<- hd];rfl
 have DK:d.sp=sp:=by rw[<- hd]
 have mV:d.at 0=N2:=by unfold Dc.at;rw[zQ];rfl
 have one:∀f:Nat->Bool,f 0=false->lI f d.ly.length=none:=fun f h=>gB fun j hj=>by
  rw[zQ]at hj;obtain rfl:j=0:=by simp only[aP,bW]at hj;omega
  exact h
 have w:ir d=(0,0):=by
  have hb:xj d=false:=by
   unfold xj;rw[DK,zQ,Sj];have:decide (Int.ofNat sp.length>(8:Int))=false:=aT (by simp only[gQ];omega);rw[this];rfl
  have Q:lI (fun i=>!AJ (d.sp.getD i N0)) d.sp.length=none:=gB fun j hj=>by
   have:d.sp.getD j N0∈sp:=by rw[DK]at hj ⊢;rw[ax,au hj];exact bK hj
   rw[hs _ this];rfl
  have O:tE d 0=false:=by unfold tE u0;rw[mV,Sj];rfl
  have h3:lX d=false:=by unfold lX Dc.at;rw[zQ,hr];rfl
  unfold ir;rw[hb,aB eY,Q];simp only;rw[one _ O];simp only;rw[h3];rfl
 have Q:Ku d 0=false:=by unfold Ku;rw[mV,anj];rfl
 have O:BB d 0=false:=by unfold BB q8;rw[mV,zQ,hr];rfl
 have h3:zW d 0=false:=by unfold zW Be;rw[mV];rfl
 have h4:Ni d 0=false:=by unfold Ni;rw[mV,zQ];rfl
 unfold jo;rw[w,aG rfl,one _ Q];simp only;rw[one _ O];simp only;rw[one _ h3];simp only;rw[one _ h4];simp only;rw[zQ,hr];rfl
theorem Yz(xs:List Int):(jo (MZ xs)).1=0:=by
 unfold MZ;split
 . rw[IG _ (by show 1<=8;decide) fun s hs=>(by rw[aH.1 hs];exact Yy _)]
 . have e:d00={ d00 with sp:=[] }:=rfl;rw[e,IG [] (aU _) fun s hs=>(by cases hs)]
theorem QU(xs:List Int):∀j,(jo (Sk xs j)).1=0
 |0=>Yz xs
 |j+1=>by
  show(jo (wq xs (9*j) (Sk xs j))).1=0;unfold wq;split
  . assumption
  . exact QU xs j
theorem QV(xs:List Int)(c:Nat):jg (AM xs c)/\Gh (AM xs c):=⟨KC (QU xs _),Gi xs _⟩
end Go.Proofs.YtmjggdmekboefaaGreat
