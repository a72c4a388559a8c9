/- The Doc laws: the reference's Made: pieces. No conditions. -/
import Derived.Test.YtmjggdmekboefaaGreatJointW08
import Derived.Test.YtmjggdmekboefaaGreatJointW09
set_option linter.unusedVariables false
set_option linter.unusedSimpArgs false
set_option linter.unusedSectionVars false
namespace Go.Proofs.YtmjggdmekboefaaGreat
open Go Go.Eng
set_option maxRecDepth 10000
def S4(xs:List Int)(i:Nat):S8:=⟨xs.getD i 0,xs.getD (i+1) 0,xs.getD (i+2) 0,xs.getD (i+3) 0,xs.getD (i+4) 0,xs.getD (i+5) 0,xs.getD (i+6) 0,xs.getD (i+7) 0⟩
noncomputable abbrev acB:Code:=dG Tryz.f34
noncomputable abbrev PX:Code:=dm 2 acB
noncomputable abbrev PY:Code:=dP PX
noncomputable abbrev ald:Code:=dP PY
noncomputable abbrev bMz:Code:=dD (dD (dP (dB PY)))
noncomputable abbrev zJ:Code:=dD (dB (dP bMz))
noncomputable abbrev PZ:Code:=dm 5 zJ
noncomputable abbrev Xu:Code:=dP PZ
section
variable(xs:List Int)(c i j:Nat)(ks:List Int)
noncomputable abbrev acC:Code:=dm 1 Xu
noncomputable abbrev acD:Code:=dm 1 acC
noncomputable abbrev acE:Code:=dm 1 acD
noncomputable abbrev Xv:Code:=dm 1 acE
noncomputable abbrev acF:Code:=dm 1 Xv
noncomputable abbrev alf:Code:=dm 1 acF
def P0:ag:=[gA,L 0,L 0,gA]
def yF(d:Dc)(r:List (Nat×V)):St:=ff ([(0,fg xs),(1,M c),(4,.ptr (some (0,0))),(5,.ptr (some (1,0)))]++r) (W [(0,.cells P0),(1,.cells d.T)]) 2
theorem alg(d:Dc):dn (U (eZ 80 [] d.v dY) []) [] 0 Tryz.f34 [0,1,4,5] (dN 2 acB) (dw [fg xs,M c] .nil 0) [([],
   [(V.lE ([]++[]++[])=[])],
   .to .normal (yF xs c d []))]
 :=dh.of C C C
def HT(d:Dc)(i:Nat)(x:eG)(r:List (Nat×V)):St:=ff ([(0,fg xs),(1,M c),(4,.ptr (some (0,0))),(5,.ptr (some (1,0))),(6,M i),(7,.ptr (some (2,0)))]++r) (W [(0,.cells P0),(1,.cells d.T),(2,.cells x.T)]) 3
def JV(d:Dc)(i:Nat)(x:eG)(r:List (Nat×V)):St:=ff ([(0,fg xs),(1,M c),(4,.ptr (some (0,0))),(5,.ptr (some (1,0))),(6,M i),(7,.ptr (some (2,0))),(8,.eS (some (3,0)) 0 0 1)]++r) (W [(0,.cells P0),(1,.cells d.T),(2,.cells x.T),(3,.cells [])]) 4
def JW(d:Dc)(i:Nat)(x:eG)(l:List Int)(r:List (Nat×V)):St:=ff ([(0,fg xs),(1,M c),(4,.ptr (some (0,0))),(5,.ptr (some (1,0))),(6,M i),(7,.ptr (some (2,0))),(8,.eS (some (3,0)) l.length l.length 1)]++r) (W [(0,.cells P0),(1,.cells d.T),(2,.cells x.T),(3,.own .i64 l)]) 4
def sMf(d:Dc)(i:Nat)(x:eG)(j:Nat)(r:List (Nat×V)):St:=ff ([(0,fg xs),(1,M c),(4,.ptr (some (0,0))),(5,.ptr (some (1,0))),(6,M i),(7,.ptr (some (2,0))),(8,.eS (some (3,0)) 1 1 1)]++r) (W [(0,.cells P0),(1,.cells d.T),(2,.cells x.T),(3,.cells [M j])]) 4
def sMg(d:Dc)(i:Nat)(x:eG)(l:List Int)(j:Nat)(r:List (Nat×V)):St:=ff ([(0,fg xs),(1,M c),(4,.ptr (some (0,0))),(5,.ptr (some (1,0))),(6,M i),(7,.ptr (some (2,0))),(8,.eS (some (3,0)) (l.length+1) (l.length+1) 1)]++r) (W [(0,.cells P0),(1,.cells d.T),(2,.cells x.T),(3,.own .i64 (List.take (l.length*1) (List.drop 0 l)++[Int.ofNat j]))]) 4
abbrev xI:V:=.dr [.int .i64 (xs.getD i 0)]
theorem ali(d:Dc):dn (U dY []) [(17,.split),(20,.dy (xI xs 0)),(24,.split)] 0 Tryz.f34 [0,1,4,5,25] (dB (dB PX)) (yF xs c d []) [([((decide ((Int.ofNat xs.length)>(0:Int))),true),((IntKind.i64.wrap (Int.ofNat (BitVec.ofInt 64 ((xs.getD 0 (0:Int)).fdiv (1024:Int))&&&BitVec.ofInt 64 (3:Int)).toNat)==(1:Int)),true)],
   [((0:Int)<=(0:Int)/\(0:Int)<(Int.ofNat xs.length)),((dM xs).length=xs.length*1),(V.dr (dj (dM xs) 0 1)=xI xs 0)],
   .to .normal (yF xs c d [(25,.bool true)])),
  ([((decide ((Int.ofNat xs.length)>(0:Int))),true),((IntKind.i64.wrap (Int.ofNat (BitVec.ofInt 64 ((xs.getD 0 (0:Int)).fdiv (1024:Int))&&&BitVec.ofInt 64 (3:Int)).toNat)==(1:Int)),false)],
   [((0:Int)<=(0:Int)/\(0:Int)<(Int.ofNat xs.length)),((dM xs).length=xs.length*1),(V.dr (dj (dM xs) 0 1)=xI xs 0)],
   .to .normal (yF xs c d [(25,.bool false)])),
  ([((decide ((Int.ofNat xs.length)>(0:Int))),false)],
   [],
   .to .normal (yF xs c d [(25,.bool false)]))]
 :=dh.of C C C
abbrev JX:Prop:=V.int B (IntKind.i64.wrap (Int.ofNat i+(9:Int)))=M (i+9)
abbrev P1:Prop:=V.int B (IntKind.i64.wrap ((9:Int)*Int.ofNat c))=M (9*c)
theorem alj(d:Dc)(i:Nat):dn (U dY []) [(35,.dy (M (i+9))),(42,.dy (M (9*c))),(38,.split),(43,.split)] 0 Tryz.f34 [0,1,4,5,6] (dB bMz) (yF xs c d [(6,M i)]) [([((decide (Int.ofNat (i+9)<=(Int.ofNat xs.length))),true),((decide (Int.ofNat i<Int.ofNat (9*c))),true)],
   [JX i,P1 c],
   .to .normal (yF xs c d [(6,M i)])),
  ([((decide (Int.ofNat (i+9)<=(Int.ofNat xs.length))),true),((decide (Int.ofNat i<Int.ofNat (9*c))),false)],
   [JX i,P1 c],
   .to (.exit 0) (yF xs c d [(6,M i)])),
  ([((decide (Int.ofNat (i+9)<=(Int.ofNat xs.length))),false)],
   [JX i],
   .to (.exit 0) (yF xs c d [(6,M i)]))]
 :=dh.of C C C
def S5:ah:=[(0:Int)<=Int.ofNat i/\Int.ofNat i<Int.ofNat xs.length,(dM xs).length=xs.length*1,V.dr (dj (dM xs) (i*1) 1)=xI xs i]
def UX(k:Nat):Prop:=V.int .i64 (IntKind.i64.wrap (Int.ofNat i+Int.ofNat k))=M (i+k)
def r8A:ah:=S5 xs i++(UX i 1::(S5 xs (i+1)++(UX i 2::(S5 xs (i+2)++(UX i 3::(S5 xs (i+3)++(UX i 4::(S5 xs (i+4)++(UX i 5::(S5 xs (i+5)++(UX i 6::(S5 xs (i+6)++(UX i 7::(S5 xs (i+7)++[eY [.agg (S4 xs i).T]]))))))))))))))
theorem alk(d:Dc)(i:Nat)(x:eG):dn (U (eZ 30 [.agg (S4 xs i).T] x.v dY) []) [(49,.dy (xI xs i)),(53,.dy (M (i+1))),(54,.dy (xI xs (i+1))),(58,.dy (M (i+2))),(59,.dy (xI xs (i+2))),(63,.dy (M (i+3))),(64,.dy (xI xs (i+3))),(68,.dy (M (i+4))),(69,.dy (xI xs (i+4))),(73,.dy (M (i+5))),(74,.dy (xI xs (i+5))),(78,.dy (M (i+6))),(79,.dy (xI xs (i+6))),(83,.dy (M (i+7))),(84,.dy (xI xs (i+7)))] 0 Tryz.f34 [0,1,4,5,6,7] (dN 2 zJ) (yF xs c d [(6,M i)]) [([],r8A xs i,.to .normal (HT xs c d i { x with id:=d.nx } []))]:=dh.of C C C
theorem alm(d:Dc)(i:Nat)(x:eG)(o:Int):dn (U dY []) [(93,.split),(96,.dy (M (i+7))),(97,.dy (xI xs (i+7))),(103,.dy (L o))] 0 Tryz.f34 [0,1,4,5,6,7] (dB (dm 2 zJ)) (HT xs c d i x []) [([((x.kd==(4:Int)),true)],
   [(V.int B (IntKind.i64.wrap (Int.ofNat i+(7:Int)))=M (i+7)),((0:Int)<=Int.ofNat (i+7)/\Int.ofNat (i+7)<(Int.ofNat xs.length)),((dM xs).length=xs.length*1),(V.dr (dj (dM xs) ((i+7)*1) 1)=xI xs (i+7)),(d.nx≠(0:Int)),(V.int B (IntKind.i64.wrap ((1:Int)+(IntKind.i64.wrap (Int.ofNat (BitVec.ofInt 64 (xs.getD (i+7) (0:Int))&&&BitVec.ofInt 64 (65535:Int)).toNat)).tmod d.nx))=L o)],
   .to .normal (HT xs c d i { x with of:=o } [])),
  ([((x.kd==(4:Int)),false)],
   [],
   .to .normal (HT xs c d i x []))]
 :=dh.of C C C
theorem aln(d:Dc)(i:Nat)(x:eG)(o:Int):dn (U dY []) [(107,.split),(112,.split),(116,.dy (M (i+5))),(117,.dy (xI xs (i+5))),(119,.dy (L o))] 0 Tryz.f34 [0,1,4,5,6,7] (dB (dm 3 zJ)) (HT xs c d i x []) [([((x.kd==(1:Int)),true),((decide ((Int.ofNat d.sp.length)>(0:Int))),true)],
   [(V.int B (IntKind.i64.wrap (Int.ofNat i+(5:Int)))=M (i+5)),((0:Int)<=Int.ofNat (i+5)/\Int.ofNat (i+5)<(Int.ofNat xs.length)),((dM xs).length=xs.length*1),(V.dr (dj (dM xs) ((i+5)*1) 1)=xI xs (i+5)),(V.int B (IntKind.i64.wrap (Int.ofNat (BitVec.ofInt 64 (xs.getD (i+5) (0:Int))&&&BitVec.ofInt 64 (1:Int)).toNat))=L o)],
   .to .normal (HT xs c d i { x with sp:=o } [])),
  ([((x.kd==(1:Int)),true),((decide ((Int.ofNat d.sp.length)>(0:Int))),false)],
   [],
   .to .normal (HT xs c d i x [])),
  ([((x.kd==(1:Int)),false)],
   [],
   .to .normal (HT xs c d i x []))]
 :=dh.of C C C
theorem alo(d:Dc)(i:Nat)(x:eG):dn (U dY []) [] 0 Tryz.f34 [0,1,4,5,6,7,8] (dN 1 (dm 4 zJ)) (HT xs c d i x []) [([],
   [],
   .to .normal (JV xs c d i x []))]
 :=dh.of C C C
theorem alp(d:Dc)(i:Nat)(x:eG):dn (U dY []) [] 0 Tryz.f34 [0,1,4,5,6,7,8,9] (dB (dB PZ)) (JV xs c d i x []) [([],
   [],
   .to .normal (JV xs c d i x [(9,M 0)]))]
 :=dh.of C C C
abbrev P2:Prop:=V.int B (IntKind.i64.wrap (Int.ofNat j+(1:Int)))=M (j+1)
theorem alq(d:Dc)(i:Nat)(x y:eG)(j:Nat):dn (U dY []) [(126,.split),(132,.dy (.dr y.ds)),(135,.split),(128,.dy (M (j+1)))] 0 Tryz.f34 [0,1,4,5,6,7,8,9] (dD (dD (dP (dB PZ)))) (JV xs c d i x [(9,M j)]) [([((decide (Int.ofNat j<(Int.ofNat d.ly.length))),true),((y.kd==(2:Int)),true)],
   [((0:Int)<=Int.ofNat j/\Int.ofNat j<(Int.ofNat d.ly.length)),((eX d.ly).length=d.ly.length*31),(V.dr (dj (eX d.ly) (j*31) 31)=V.dr y.ds),P2 j],
   .to .normal (sMf xs c d i x j [(9,M (j+1))])),
  ([((decide (Int.ofNat j<(Int.ofNat d.ly.length))),true),((y.kd==(2:Int)),false)],
   [((0:Int)<=Int.ofNat j/\Int.ofNat j<(Int.ofNat d.ly.length)),((eX d.ly).length=d.ly.length*31),(V.dr (dj (eX d.ly) (j*31) 31)=V.dr y.ds),P2 j],
   .to .normal (JV xs c d i x [(9,M (j+1))])),
  ([((decide (Int.ofNat j<(Int.ofNat d.ly.length))),false)],
   [],
   .to (.exit 2) (JV xs c d i x [(9,M j)]))]
 :=dh.of C C C
abbrev P3:Prop:=V.int B (IntKind.i64.wrap (Int.ofNat j+(1:Int)))=M (j+1)
theorem alr(d:Dc)(i:Nat)(x y:eG)(l:List Int)(j:Nat):dn (U dY []) [(126,.split),(132,.dy (.dr y.ds)),(135,.split),(128,.dy (M (j+1)))] 0 Tryz.f34 [0,1,4,5,6,7,8,9] (dD (dD (dP (dB PZ)))) (JW xs c d i x l [(9,M j)]) [([((decide (Int.ofNat j<(Int.ofNat d.ly.length))),true),((y.kd==(2:Int)),true)],
   [((0:Int)<=Int.ofNat j/\Int.ofNat j<(Int.ofNat d.ly.length)),((eX d.ly).length=d.ly.length*31),(V.dr (dj (eX d.ly) (j*31) 31)=V.dr y.ds),(0<l.length),(0+l.length*1<=l.length),(0<1),(fo (l.length+1) 1 8=true),P3 j],
   .to .normal (sMg xs c d i x l j [(9,M (j+1))])),
  ([((decide (Int.ofNat j<(Int.ofNat d.ly.length))),true),((y.kd==(2:Int)),false)],
   [((0:Int)<=Int.ofNat j/\Int.ofNat j<(Int.ofNat d.ly.length)),((eX d.ly).length=d.ly.length*31),(V.dr (dj (eX d.ly) (j*31) 31)=V.dr y.ds),P3 j],
   .to .normal (JW xs c d i x l [(9,M (j+1))])),
  ([((decide (Int.ofNat j<(Int.ofNat d.ly.length))),false)],
   [],
   .to (.exit 2) (JW xs c d i x l [(9,M j)]))]
 :=dh.of C C C
theorem als(d:Dc)(i:Nat)(x:eG)(l:List Int)(g m:Nat):dn (U dY []) [(143,.dy (M (i+8))),(144,.dy (xI xs (i+8))),(149,.dy (M g)),(150,.dy (.dr [.int .i64 (Int.ofNat m)]))] 0 Tryz.f34 [0,1,4,5,6,7,10] (dN 1 Xu) (HT xs c d i x [(8,fg l)]) [([],
   [(V.int B (IntKind.i64.wrap (Int.ofNat i+(8:Int)))=M (i+8)),((0:Int)<=Int.ofNat (i+8)/\Int.ofNat (i+8)<(Int.ofNat xs.length)),((dM xs).length=xs.length*1),(V.dr (dj (dM xs) ((i+8)*1) 1)=xI xs (i+8)),((Int.ofNat l.length)≠(0:Int)),(V.int B ((IntKind.i64.wrap (Int.ofNat (BitVec.ofInt 64 (xs.getD (i+8) (0:Int))&&&BitVec.ofInt 64 (65535:Int)).toNat)).tmod (Int.ofNat l.length))=M g),((0:Int)<=Int.ofNat g/\Int.ofNat g<(Int.ofNat l.length)),((dM l).length=l.length*1),(V.dr (dj (dM l) (g*1) 1)=V.dr [D.int B (Int.ofNat m)])],
   .to .normal (HT xs c d i x [(10,M m)]))]
 :=dh.of C C C
def dMz(d:Dc)(nx:Int)(n:Nat):ag:=[.eo false d.sp.length (lT d.sp),L 1,L nx,.eS (some (4,0)) n n 31]
def Rn(d:Dc)(i:Nat)(x:eG)(nx:Int)(n:Nat)(ds:List Eng.D)(r:List (Nat×V)):St:=ff ([(0,fg xs),(1,M c),(4,.ptr (some (0,0))),(5,.ptr (some (1,0))),(6,M i),(7,.ptr (some (2,0)))]++r) (W [(0,.cells P0),(1,.cells d.T),(2,.cells x.T),(3,.cells (dMz d nx n)),(4,.deep ds)]) 5
def sMw(d:Dc)(i:Nat)(x:eG)(nx:Int)(n:Nat)(ds X:List Eng.D)(r:List (Nat×V)):St:=ff ([(0,fg xs),(1,M c),(4,.ptr (some (0,0))),(5,.ptr (some (1,0))),(6,M i),(7,.ptr (some (2,0)))]++r) (W [(0,.cells P0),(1,.cells d.T),(2,.cells x.T),(3,.cells (dMz d nx n)),(4,.deep ds),(5,.deep X)]) 6
def Xw(p:Nat)(id:Int):List Eng.D:=List.take ((0+(p-0)+1)*1) (List.drop 0 (List.take ((0+(p-0))*1) (List.drop 0 ([]++dj (dM ks) 0 ((p-0)*1)))++[.int .i64 id]))++dj (dM ks) (p*1) ((ks.length-p)*1)
def sMn(d:Dc)(i:Nat)(nx:Int)(n:Nat)(ds:List Eng.D):St:=ff [(0,fg xs),(1,M c),(4,.ptr (some (0,0))),(5,.ptr (some (1,0))),(6,M i),(11,.ptr (some (2,0)))] (W [(0,.cells P0),(1,.cells d.T),(2,.cells [.eo false d.sp.length (lT d.sp),L 1,L nx,.eS (some (3,0)) n n 31]),(3,.deep ds)]) 4
abbrev t11:Nat×V:=(11,.ptr (some (3,0)))
theorem alu(d:Dc)(i:Nat)(x:eG)(m:Nat)(nx:Int):dn (U dY []) [(159,.dy (M (i+8))),(160,.dy (xI xs (i+8))),(164,.dy (L nx))] 0 Tryz.f34 [0,1,4,5,6,7,10,11] (dN 1 acC) (HT xs c d i x [(10,M m)]) [([],
   [(V.int B (IntKind.i64.wrap (Int.ofNat i+(8:Int)))=M (i+8)),((0:Int)<=Int.ofNat (i+8)/\Int.ofNat (i+8)<(Int.ofNat xs.length)),((dM xs).length=xs.length*1),(V.dr (dj (dM xs) ((i+8)*1) 1)=xI xs (i+8)),(V.int B (IntKind.i64.wrap (IntKind.i64.wrap (d.nx+(1:Int))+IntKind.i64.wrap (Int.ofNat (BitVec.ofInt 64 ((xs.getD (i+8) (0:Int)).fdiv (65536:Int))&&&BitVec.ofInt 64 (1:Int)).toNat)))=L nx),((eX d.ly).length=d.ly.length*31),(fo (0+d.ly.length) 31 328=true)],
   .to .normal (Rn xs c d i x nx (0+d.ly.length) ([]++eX d.ly) [(10,M m),t11]))]
 :=dh.of C C C
theorem alv(d:Dc)(i:Nat)(x:eG)(m:Nat)(nx:Int)(n:Nat)(ds:List Eng.D)(ks:List Int):dn (U dY []) [(176,.dy (fg ks))] 0 Tryz.f34 [0,1,4,5,6,7,10,11,12] (dN 1 acD) (Rn xs c d i x nx n ds [(10,M m),t11]) [([],
   [((0:Int)<=Int.ofNat m/\Int.ofNat m<(Int.ofNat n)),(0+m*31+15<ds.length),((ds.getD (0+m*31+15) D.AB).jJ=fg ks),((dM ks).length=ks.length*1),(fo (0+ks.length) 1 8=true)],
   .to .normal (sMw xs c d i x nx n ds ([]++dM ks) [(10,M m),t11,(12,.eS (some (5,0)) (0+ks.length) (0+ks.length) 1)]))]
 :=dh.of C C C
theorem alw(d:Dc)(i:Nat)(x:eG)(m:Nat)(nx:Int)(n:Nat)(ds:List Eng.D)(ks:List Int)(p:Nat):dn (U dY []) [(180,.dy (M (i+8))),(181,.dy (xI xs (i+8))),(187,.dy (M (ks.length+1))),(188,.dy (M p))] 0 Tryz.f34 [0,1,4,5,6,7,10,11,12,13] (dN 1 acE) (Rn xs c d i x nx n ds [(10,M m),t11,(12,fg ks)]) [([],
   [(V.int B (IntKind.i64.wrap (Int.ofNat i+(8:Int)))=M (i+8)),((0:Int)<=Int.ofNat (i+8)/\Int.ofNat (i+8)<(Int.ofNat xs.length)),((dM xs).length=xs.length*1),(V.dr (dj (dM xs) ((i+8)*1) 1)=xI xs (i+8)),(V.int B (IntKind.i64.wrap ((Int.ofNat ks.length)+(1:Int)))=M (ks.length+1)),(Int.ofNat (ks.length+1)≠(0:Int)),(V.int B ((IntKind.i64.wrap (Int.ofNat (BitVec.ofInt 64 ((xs.getD (i+8) (0:Int)).fdiv (16:Int))&&&BitVec.ofInt 64 (65535:Int)).toNat)).tmod (Int.ofNat (ks.length+1)))=M p)],
   .to .normal (Rn xs c d i x nx n ds [(10,M m),t11,(12,fg ks),(13,M p)]))]
 :=dh.of C C C
theorem alx(d:Dc)(i:Nat)(x:eG)(m:Nat)(nx:Int)(n:Nat)(ds:List Eng.D)(ks:List Int)(p:Nat):dn (U dY []) [] 0 Tryz.f34 [0,1,4,5,6,7,11,204,206] (S2 (dB Xv)) (Rn xs c d i x nx n ds [(10,M m),t11,(12,fg ks),(13,M p)]) [([],
   [((dM ks).length=ks.length*1),((0:Int)<=Int.ofNat p/\Int.ofNat p<=(Int.ofNat ks.length)),((dj (dM ks) 0 ((p-0)*1)).length=(p-0)*1),(fo (0+(p-0)) 1 8=true),(0+(0+(p-0))*1<=([]++dj (dM ks) 0 ((p-0)*1)).length),(0<1),(fo (0+(p-0)+1) 1 8=true),((dM ks).length=ks.length*1),((0:Int)<=Int.ofNat p/\Int.ofNat p<=(Int.ofNat ks.length)),((dM ks).length=ks.length*1),((0:Int)<=Int.ofNat p/\Int.ofNat p<=(Int.ofNat ks.length)),((dM ks).length=ks.length*1),((0:Int)<=Int.ofNat p/\Int.ofNat p<=(Int.ofNat ks.length)),((dj (dM ks) (p*1) ((ks.length-p)*1)).length=(ks.length-p)*1),(0+(0+(p-0)+1)*1<=(List.take ((0+(p-0))*1) (List.drop 0 ([]++dj (dM ks) 0 ((p-0)*1)))++[D.int B x.id]).length),(fo (0+(p-0)+1+(ks.length-p)) 1 8=true),((0:Int)<=Int.ofNat m/\Int.ofNat m<(Int.ofNat n))],
   .to .normal (sMw xs c d i x nx n ds (Xw ks p x.id) [t11,(204,.eS (some (5,0)) (0+(p-0)+1+(ks.length-p)) (0+(p-0)+1+(ks.length-p)) 1),(206,.ptr (some (4,0+m*31+15)))]))]
 :=dh.of C C C
theorem aly(d:Dc)(i:Nat)(x:eG)(nx:Int)(n o:Nat)(ds:List Eng.D)(ks:List Int):dn (U dY []) [] 0 Tryz.f34 [0,1,4,5,6,7,11] (HS (dB Xv)) (Rn xs c d i x nx n ds [t11,(204,fg ks),(206,.ptr (some (4,o)))]) [([],
   [(o+1<=ds.length)],
   .to .normal (Rn xs c d i x nx n (tS ds o [.eo ks.length (dM ks)]) [t11]))]
 :=dh.of C C C
theorem alz(d:Dc)(i:Nat)(x:eG)(nx:Int)(n:Nat)(ds:List Eng.D):dn (U dY []) [] 0 Tryz.f34 [0,1,4,5,6,11] (dN 1 acF) (Rn xs c d i x nx n ds [t11]) [([],
   [(0+n*31<=ds.length),(0<1),(fo (n+1) 31 328=true)],
   .to .normal (sMn xs c d i nx (n+1) (List.take (n*31) (List.drop 0 ds)++x.ds)))]
 :=dh.of C C C
def sMq(d d2:Dc)(i:Nat):St:=ff [(0,fg xs),(1,M c),(4,.ptr (some (0,0))),(5,.ptr (some (1,0))),(6,M i),(11,.ptr (some (2,0)))] (W [(0,.cells P0),(1,.cells d.T),(2,.cells d2.T)]) 3
abbrev P4(d2:Dc):Prop:=V.lE ([]++[V.agg (List.take 4 (List.drop 0 d2.T))]++[])=[d2.v]
theorem alA(d d2:Dc)(i:Nat)(e a:Int):dn (U (eZ 39 [d2.v] (df e a) dY) []) [(216,.split)] 0 Tryz.f34 [0,1,4,5,6] (alf) (sMq xs c d d2 i) [([((e==(0:Int)),true)],
   [P4 d2],
   .to .normal (yF xs c d2 [(6,M i)])),
  ([((e==(0:Int)),false)],
   [P4 d2],
   .to .normal (yF xs c d [(6,M i)]))]
 :=dh.of C C C
theorem alB(d:Dc)(i:Nat):dn (U dY []) [(46,.dy (M (i+9)))] 0 Tryz.f34 [0,1,4,5,6] (dP (dP bMz)) (yF xs c d [(6,M i)]) [([],
   [(V.int B (IntKind.i64.wrap (Int.ofNat i+(9:Int)))=M (i+9))],
   .to .normal (yF xs c d [(6,M (i+9))]))]
 :=dh.of C C C
theorem alC(d:Dc)(i:Nat):dn (U dY []) [] 0 Tryz.f34 [] (ald) (yF xs c d [(6,M i)]) [([],
   [],
   .ret (.agg [.eo false (d.sp.length) (lT d.sp),.int .i64 (d.root),.int .i64 (d.nx),.eo false (d.ly.length) (eX d.ly)]) (W []) 0)]
 :=dh.of C C C
theorem alD(d:Dc):dn (U dY []) [] 0 Tryz.f34 [0,1,4,5,6] (dB (dB PY)) (yF xs c d []) [([],
   [],
   .to .normal (yF xs c d [(6,M 0)]))]
 :=dh.of C C C
end
abbrev rdC(s:aa)(a:Nat)(f:Bool):ag:=[.str s,.int .i64 (Int.ofNat a),.bool f]
def acG:eG:=⟨0,0,[],false,0,0,false,z7,0,[],0,tJ,z4,[],[],false,[]⟩
def eG.rc(y:eG):ag:=y.T.set 27 gA
def hR(y:eG)(s:aa)(a:Nat)(f:Bool):I O:=W [(0,.cells acG.T),(1,.cells (rdC s a f)),(2,.cells y.rc)]
noncomputable abbrev acH:Code:=dG Tryz.f31
noncomputable abbrev alE:Code:=dm 6 acH
def acJ(s:aa)(v:V):Prop:=(∃l,okL l/\K0 l=s/\v= .gC [l.v,L 0])\/v= .gC [acG.v,L 11]
def TR(s:aa)(c:Code)(hm:St):Prop:=∃v,acJ s v/\TG ak 0 Tryz.f31.ntmps c hm (fD ak 0 Tryz.f31 (vh v))
section
variable{hL:gy}{hh:List (Nat×List (Nat×lI))}{hx:List (Nat×lI)}{live:List Nat}{s':ah}{hm s1:St}{c:Code}{s:aa}
theorem TR.st(k:Nat)(es:eR ak hL)(hr:dn (U hL hh) hx 0 Tryz.f31 live (dN k c) hm [([],s',.to .normal s1)])(hA:∀a∈s',a)(h:TR s (dm k c) s1)(K:eJ Tryz.f31.ntmps c=true:=by kernel_rfl):TR s c hm:=
 h.elim fun v h=>⟨v,h.1,fu k es hr hA h.2 K⟩
theorem TR.xY{S1:St}(h:dZ ak 0 Tryz.f31.ntmps hm S1)(t:TR s c S1):TR s c hm:=t.elim fun v t=>⟨v,t.1,h _ _ t.2⟩
theorem TR.code{d:Code}(e:c=d)(t:TR s d hm):TR s c hm:=e▸t
end
section
variable{s:aa}(hs:s.length<=1500000)
include hs
theorem e7:dP alE=dm 7 acH:=by kernel_rfl
end
section
variable(cf:fL)(x:FuncId×ag×V)
noncomputable def UY:Bool:=
 match cf x.1 x.2.1 .nil gN with
 |some (.ret u,_,_)=>V.beq u x.2.2
 |_=>false
noncomputable def HU:Bool:=(Nat.blt x.1 Tryz.prog.funcs.size&&V.tD x.2.1)&&(x.2.2.free&&UY cf x)
end
theorem S6{cf:fL}(K:gq ak cf){x:FuncId×ag×V}(h:HU cf x=true):EY ak x:=by
 simp only[HU,ay,UY]at h;obtain⟨⟨h0,Q⟩,R,h3⟩:=h;split at h3
 . rename_i u h' n' e;rw[beq_eq _ _ h3]at e;exact⟨az h0,Q,R,cf,h',n',K,e⟩
 . cases h3
theorem san:EY ak (8,[],.bool true):=S6 (Ae (fr:=1000) mo po 60) C
structure smL(l:eG):Prop where
 nm:l.nm.length<=1000
 kids:l.kids.length<=1000
 eK:l.f.eK.length<=1000
 cu:l.f.cu.length<=1000
 gU:l.gU.length<=1000
theorem smL.ok{l:eG}(h:smL l):okL l:=by
 obtain⟨Q,R,h3,h4,h5⟩:=h;exact⟨G,G,G,G,G⟩
theorem S7(s:List Int):(Pe s).length=s.length+1:=by
 unfold Pe;split<;>simp[KZ]
theorem K9(s:List Int)(hs:s.length<=12):(vx s).eK.length<=1000/\(vx s).cu.length<=1000:=by
 have Q:=Pg s 1;have ht:=x6 Q.1 (d:=3) fa;unfold vx
 repeat' split
 all_goals first
  |exact⟨aS _,aS _⟩
  |(refine⟨?_,aS _⟩
    rw[Ph];have:((f12 s 1).tmod 3).toNat<=2:=by omega
    have:=Nat.mul_le_mul (show 2*((f12 s 1).tmod 3).toNat+1<=5 by omega) (show 2*((f12 s 1).tmod 3).toNat+1<=5 by omega);omega)
  |(refine⟨aS _,?_⟩
    show(Pe (s.drop 1)).length<=1000;rw[S7,List.length_drop];omega)
theorem S9(s:S8):smL (lS s):=by
 refine⟨?_,aS _,?_,?_,?_⟩
 . show(M8 s.s1).length<=1000;unfold M8;rw[List.length_drop,bn];simp only[aR,bU];omega
 . show(if Ga s=3 then vx (l12 s)else tJ).eK.length<=1000;split
   . exact(K9 (l12 s) (aK 12)).1
   . exact aS _
 . show(if Ga s=3 then vx (l12 s)else tJ).cu.length<=1000;split
   . exact(K9 (l12 s) (aK 12)).2
   . exact aS _
 . show(if Ga s=5 then HB s.s6 s.s7 (Pk s)else[]).length<=1000;split
   . unfold HB Pk;rw[bI,List.length_range];have:(BitVec.ofInt 64 s.s5&&&BitVec.ofInt 64 (3:Int)).toNat<=3:=by
      rw[BitVec.toNat_and];exact Nat.and_le_right
     omega
   . exact aS _
set_option maxRecDepth 10000
section
variable(xs:List Int)(x:eG)(ls:List eG)(i j n:Nat)
def Ro(nx:Int):Int:=IntKind.i64.wrap (1+(an (xs.getD (i+7) 0) 65535).tmod nx)
def qQ(o:Int):eG:=if x.kd=4 then { x with of:=o }else x
def uN(o:Int):eG:=if x.kd=1/\0<n then { x with sp:=o }else x
noncomputable def Ta(d:Dc):eG:=uN (qQ { lS (S4 xs i)with id:=d.nx } (Ro xs i d.nx)) d.sp.length (an (xs.getD (i+5) 0) 1)
def kF:List Int:=((List.range j).filter fun k=>(ls.getD k gG).kd==2).map Int.ofNat
theorem MC:kF ls (j+1)=if((ls.getD j gG).kd==2)=true then kF ls j++[Int.ofNat j]else kF ls j:=by
 unfold kF;rw[List.range_succ,List.filter_append,bR];by_cases h:((ls.getD j gG).kd==2)=true
 . rw[aE h,List.filter_cons_of_pos (p:=fun k=>(ls.getD k gG).kd==2) h];rfl
 . rw[aB h,List.filter_cons_of_neg (p:=fun k=>(ls.getD k gG).kd==2) h];simp
theorem HV{ls:List eG}{j:Nat}{y:Int}:y∈kF ls j↔∃k,k<j/\(ls.getD k gG).kd=2/\y=Int.ofNat k:=by
 unfold kF;simp only[bQ,List.mem_filter,bH,cJ];constructor
 . rintro⟨k,⟨Q,R⟩,rfl⟩;exact⟨k,Q,R,rfl⟩
 . rintro⟨k,Q,R,rfl⟩;exact⟨k,⟨Q,R⟩,rfl⟩
def gI:Nat:=((an (xs.getD (i+8) 0) 65535).tmod (Int.ofNat n)).toNat
def mI(d:Dc):Nat:=((kF d.ly d.ly.length).getD (gI xs i (kF d.ly d.ly.length).length) 0).toNat
def nxI(d:Dc):Int:=IntKind.i64.wrap (IntKind.i64.wrap (d.nx+1)+an ((xs.getD (i+8) 0).fdiv 65536) 1)
def pI:Nat:=((an ((xs.getD (i+8) 0).fdiv 16) 65535).tmod (Int.ofNat (n+1))).toNat
def wS(ks:List Int)(p:Nat)(id:Int):List Int:=ks.take p++id::ks.drop p
noncomputable def Dy(d:Dc):Dc where
 sp:=d.sp
 root:=1
 nx:=nxI xs i d
 ly:=d.ly.set (mI xs i d) { d.at (mI xs i d)with kids:=wS (d.at (mI xs i d)).kids (pI xs i (d.at (mI xs i d)).kids.length) d.nx }++[Ta xs i d]
noncomputable def vQ(d:Dc):Dc:=if(jf (Dy xs i d)).1=0 then Dy xs i d else d
theorem Xx(d:Dc):(Ta xs i d).id=d.nx:=by
 unfold Ta uN qQ;split<;>split<;>rfl
end
theorem FH{T x:ai}{o n k:Nat}(h:dj T o n=x)(Y:k<n)(hl:x.length=n):T.getD (o+k) Eng.D.AB=x.getD k Eng.D.AB:=by
 subst h;unfold dj at hl ⊢;rw[ax,ax,bN,aE Y,bO]
theorem MD{l:List eG}{i:Nat}(h:i<l.length):dj (eX l) (i*31) 31=(l.getD i gG).ds:=by
 rw[ax,au h];exact rS (f:=eG.ds) Fs l i h
theorem La(a b:List eG):eX (a++b)=eX a++eX b:=by unfold eX;rw[bR,List.flatten_append]
theorem P5{l:List eG}{m:Nat}(h:m<l.length)(ks:List Int):tS (eX l) (0+m*31+15) [.eo ks.length (dM ks)]=eX (l.set m { l.getD m gG with kids:=ks }):=by
 have e:l=l.take m++(l.getD m gG::l.drop (m+1)):=by
  rw[ax,au h,b7,<- bY h,List.take_append_drop]
 generalize l.getD m gG=x at e ⊢;have hl:(l.take m).length=m:=by rw[bn];omega
 generalize l.take m=a at e hl;generalize l.drop (m+1)=b at e;subst e;have e1:(a++x::b).set m { x with kids:=ks }=a++{ x with kids:=ks }::b:=by rw[List.set_append_right _ _ G];simp[hl]
 have e2:∀y:eG,eX (a++y::b)=eX a++(y.ds++eX b):=fun y=>by rw[La];rfl
 rw[e1,e2,e2];have hA:(eX a).length=0+m*31:=by rw[fR,hl,b5]
 generalize eX a=s' at hA ⊢;generalize eX b=aj;have:tS (s'++(x.ds++aj)) (0+m*31+15) [.eo ks.length (dM ks)]=s'++tS (x.ds++aj) 15 [.eo ks.length (dM ks)]:=by
  unfold tS;rw[<- hA,List.take_append,cU G,Nat.add_sub_cancel_left,List.append_assoc];congr 3;rw[List.drop_append,List.drop_eq_nil_of_le G,cL];congr 1;omega
 rw[this];rfl
theorem Tb(ks:List Int)(p:Nat)(id:Int)(h:p<=ks.length):Xw ks p id=dM (wS ks p id)/\0+(p-0)+1+(ks.length-p)=(wS ks p id).length:=by
 constructor
 . unfold Xw wS dj dM;simp only[cS,b5,Nat.sub_zero,ct,cL];rw[bR,cC,dc,List.map_drop];have hl:(ks.map (Eng.D.int .i64)).length=ks.length:=bI ..;generalize ks.map (Eng.D.int .i64)=fr at hl ⊢;rw[List.take_take,Nat.min_self,cU (l:=fr.take p++[Eng.D.int .i64 id]) (by rw[aJ,bn,List.length_singleton];omega),cU (l:=fr.drop p) (by rw[List.length_drop];omega),List.append_assoc];rfl
 . unfold wS;rw[aJ,aR,bn,List.length_drop];omega
set_option maxRecDepth 10000
structure jR(d:Dc):Prop where
 w:(ig d).1=0
 f:∀x∈d.ly,vy d.sp.length x=0
 k:∀x∈d.ly,qP d x=true
 c:∀x∈d.ly,zF d x=false
 a:Eg d.ly false
 g:jQ d.ly 100 d.root<=6
theorem JY{d:Dc}(h:(jf d).1=0):jR d:=by
 unfold jf at h;by_cases hw:(ig d).1=0
 . rw[aE hw]at h;cases Q:lG (JP d) d.ly.length with
   |some i=>
    rw[Q]at h;obtain⟨_,R,_⟩:=SV Q;unfold JP at R;rw[bne_iff_ne]at R;exact absurd h R
   |none=>
   rw[Q]at h;cases R:lG (Be d) d.ly.length with
   |some i=>rw[R]at h;exact absurd h (by simp only;decide)
   |none=>
   rw[R]at h;cases h3:lG (zG d) d.ly.length with
   |some i=>rw[h3]at h;exact absurd h (by simp only;decide)
   |none=>
   rw[h3]at h;cases h4:lG (MB d) d.ly.length with
   |some i=>rw[h4]at h;exact absurd h (by simp only;decide)
   |none=>
   rw[h4]at h;simp only at h;split at h
   . exact absurd h (by simp only;decide)
   . rename_i h5;refine⟨hw,fun x H=>?_,fun x H=>?_,fun x H=>?_,fun x H=>?_,G⟩
     all_goals obtain⟨j,hj,rfl⟩:=zH H
     . have:=oV Q j hj;unfold JP at this;simpa using this
     . have:=oV R j hj;unfold Be at this;simpa using this
     . exact oV h3 j hj
     . exact oV h4 j hj
 . rw[aB hw]at h;exact absurd h hw
theorem jR.big{d:Dc}(h:jR d):d.sp.length<=8/\d.ly.length<=40/\1<=d.nx/\d.nx<=1048576:=CI (rV h.w).1
theorem jR.kids{d:Dc}(h:jR d):∀x∈d.ly,x.kids.length<=100:=fun x H=>by
 have Q:=vj H;have R:=qF h.k;have h3:=h.big;omega
theorem jR.grp{d:Dc}(h:jR d):∃k,k<d.ly.length/\(d.at k).kd=2:=by
 have Q:=(rV h.w).2.2.2;unfold lV at Q;cases hn:kr d.ly d.root with
 |none=>rw[hn]at Q;cases Q
 |some n=>
  rw[hn]at Q;obtain⟨eM,_,_⟩:=jG hn;exact⟨n,eM,by simpa using Q⟩
structure FI(d:Dc):Prop where
 nx1:1<=d.nx
 nx2:d.nx<=1048576
 len:d.ly.length<=40
 grp:∃k,k<d.ly.length/\(d.at k).kd=2
 kids:∀x∈d.ly,x.kids.length<=100
 fs:JQ d
theorem P6(s:S8):CY (lS s):=by
 have h:=S9 s;have Q:=h.nm;have R:=h.kids;have h3:=h.eK;have h4:=h.cu;have h5:=h.gU;refine⟨G,G,G,G,G,?_,?_⟩
 . show(if Ga s=1 then nR [s.s4,s.s5,s.s6,s.s7,s.s2]else[]).length<=1000000;split
   . exact bC (wK _) fa
   . exact aS _
 . show(if an s.s3 192=64 then nR [s.s3,s.s4,s.s5]else[]).length<=1000000;split
   . exact bC (wK _) fa
   . exact aS _
section
variable(xs:List Int)(i:Nat)
theorem Xy(d:Dc):CY (Ta xs i d)/\(Ta xs i d).kids=[]:=by
 have h:=P6 (S4 xs i);have k:(lS (S4 xs i)).kids=[]:=rfl;unfold Ta;generalize lS (S4 xs i)=y at h k;unfold uN qQ;obtain⟨Q,R,h3,h4,h5,h6,h7⟩:=h;split<;>split<;>exact⟨⟨Q,R,h3,h4,h5,h6,h7⟩,k⟩
theorem UZ{xs:List Int}{i:Nat}{d:Dc}(h:∃k,k<d.ly.length/\(d.at k).kd=2):gI xs i (kF d.ly d.ly.length).length<(kF d.ly d.ly.length).length/\mI xs i d<d.ly.length/\(kF d.ly d.ly.length).getD (gI xs i (kF d.ly d.ly.length).length) 0=Int.ofNat (mI xs i d):=by
 obtain⟨k,Y,hk2⟩:=h;have S:Int.ofNat k∈kF d.ly d.ly.length:=HV.2 ⟨k,Y,hk2,rfl⟩;have hl:0<(kF d.ly d.ly.length).length:=List.length_pos_of_mem S;have hg:gI xs i (kF d.ly d.ly.length).length<(kF d.ly d.ly.length).length:=by
  unfold gI;have:=x6 (show 0<=an (xs.getD (i+8) 0) 65535 from(Ed (xs.getD (i+8) 0) 65535 fa).1) (d:=Int.ofNat (kF d.ly d.ly.length).length) (by simp only[gT];omega);simp only[gT]at this ⊢;omega
 have D2:(kF d.ly d.ly.length).getD (gI xs i (kF d.ly d.ly.length).length) 0∈kF d.ly d.ly.length:=by
  rw[ax,au hg];exact bK hg
 obtain⟨j,hj,_,e⟩:=HV.1 D2;have e2:mI xs i d=j:=by unfold mI;rw[e];rfl
 exact⟨hg,G,by rw[e,e2]⟩
theorem acL(n:Nat):pI xs i n<=n:=by
 unfold pI;have:=x6 (show 0<=an ((xs.getD (i+8) 0).fdiv 16) 65535 from(Ed ((xs.getD (i+8) 0).fdiv 16) 65535 fa).1) (d:=Int.ofNat (n+1)) (by simp only[gT];omega);simp only[gT]at this ⊢;omega
theorem HW(ks:List Int)(p:Nat)(id:Int):(wS ks p id).length=ks.length+1:=by
 unfold wS;rw[aJ,aR,bn,List.length_drop];omega
theorem Lb{d:Dc}(h:FI d):JQ (Dy xs i d):=by
 have hl:∀x∈(Dy xs i d).ly,CY x:=fun x H=>by
  rcases bf.1 H with q|q
  . rcases List.mem_or_eq_of_mem_set q with q|q
    . exact h.fs.y x q
    . subst q;obtain⟨Q,R,h3,h4,h5,h6,h7⟩:=h.fs.at (mI xs i d);refine⟨Q,?_,h3,h4,h5,h6,h7⟩;show(wS _ _ _).length<=1000000;rw[HW];have:=JR (d:=d) (p:=fun x=>x.kids.length<=100) (aS _) h.kids (mI xs i d);omega
  . rw[aG]at q;subst q;exact(Xy xs i d).1
 refine⟨⟨?_,fun x H=>(hl x H).kids⟩,h.fs.s,hl⟩;show(List.length (_++_))<=1000000;rw[aJ,List.length_set];have:=h.len;simp only[aR,bU];omega
theorem ME{d:Dc}(h:FI d):FI (vQ xs i d):=by
 unfold vQ;split
 . rename_i K;have k:=JY K;obtain⟨_,k1,k2,k3⟩:=k.big;exact⟨k2,k3,k1,k.grp,k.kids,Lb xs i h⟩
 . exact h
end
set_option maxRecDepth 10000
section
variable{xs:List Int}{i:Nat}
theorem uO(h:i<xs.length):∀a∈S5 xs i,a:=J (iM h) (J (ew xs) (eC (fJ h)))
theorem qR{k:Nat}(h:i+k<=9000000000000000000):UX i k:=aH (V.int .i64) (by rw[show Int.ofNat i+Int.ofNat k=Int.ofNat (i+k)from rfl];exact ik (by simp only[gT];omega) (by simp only[gT];omega))
theorem uP{s' aj:ah}(Q:∀a∈s',a)(R:∀a∈aj,a):∀a∈s'++aj,a:=fun a ha=>(bf.1 ha).elim (Q a) (R a)
theorem Xz(h:i+9<=xs.length)(H:i<=1000000):∀a∈r8A xs i,a:=by
 refine uP (uO G) (J (qR G) (uP (uO G) (J (qR G) (uP (uO G) (J (qR G) (uP (uO G) (J (qR G) (uP (uO G) (J (qR G) (uP (uO G) (J (qR G) (uP (uO G) (J (qR G) (uP (uO G) (eC rfl)))))))))))))))
end
def sMe(xs:List Int)(c:Nat)(d:Dc)(i:Nat)(x:eG)(r:List (Nat×V)):List Int->St
 | []=>JV xs c d i x r
 |y::l=>JW xs c d i x (y::l) r
theorem lO.HF{N n0:Nat}{s hm:St}(ms live:List Nat){s':ah}(e:HF N ms live s=some (s',hm))(hA:∀x∈s',x):lO N n0 s hm:=by
 unfold YtmjggdmekboefaaGreat.HF at e;split at e
 case h_2=>cases e
 rename_i A1 s1 Q;split at e
 case h_2=>cases e
 rename_i S1 R;obtain⟨rfl,rfl⟩:=fW e;exact(lO.fz ms Q hA).trans (lO.norm R)
theorem Ei{ks:List Int}{a b:Nat}(h:a+b<=ks.length):(dj (dM ks) a b).length=b:=by
 unfold dj;rw[bn,List.length_drop,ew];omega
section
variable(xs:List Int)(c:Nat)
theorem alI(d:Dc)(i:Nat)(x:eG)(SW:Ta xs i d=x)(hd:FI d)(hi:i+9<=xs.length)(H:i<=1000000){hc:Exit->St->Prop}(hK:∀A,dZ ak 0 Tryz.f34.ntmps A (yF xs c (vQ xs i d) [(6,M i)])->hc .normal A):TG ak 0 Tryz.f34.ntmps Xu (HT xs c d i x [(8,fg (kF d.ly d.ly.length))]) hc:=by
 have hr:=(⟨iM (show i+8<xs.length by omega),ew xs,fJ (show i+8<xs.length by omega)⟩:((0:Int)<=Int.ofNat (i+8)/\Int.ofNat (i+8)<Int.ofNat xs.length)/\(dM xs).length=xs.length*1/\V.dr (dj (dM xs) ((i+8)*1) 1)=xI xs (i+8));have hw:=qR (i:=i) (k:=8) G;obtain⟨hg,S,Sl⟩:=UZ (xs:=xs) (i:=i) hd.grp;have CS:0<(kF d.ly d.ly.length).length:=by omega
 have hgl:(kF d.ly d.ly.length).length<=40:=by
  have Q:(kF d.ly d.ly.length).length<=d.ly.length:=by
   unfold kF;rw[bI];exact bC (List.length_filter_le ..) (by rw[List.length_range];exact aK _)
  have:=hd.len;omega
 have hgi:(an (xs.getD (i+8) 0) 65535).tmod (Int.ofNat (kF d.ly d.ly.length).length)=Int.ofNat (gI xs i (kF d.ly d.ly.length).length):=by
  unfold gI;have:=x6 (show 0<=an (xs.getD (i+8) 0) 65535 from(Ed (xs.getD (i+8) 0) 65535 fa).1) (d:=Int.ofNat (kF d.ly d.ly.length).length) (by simp only[gT];omega);exact(Int.toNat_of_nonneg this.1).symm
 have XA:(an ((xs.getD (i+8) 0).fdiv 16) 65535).tmod (Int.ofNat ((d.at (mI xs i d)).kids.length+1))=Int.ofNat (pI xs i (d.at (mI xs i d)).kids.length):=by
  unfold pI;have:=x6 (show 0<=an ((xs.getD (i+8) 0).fdiv 16) 65535 from(Ed ((xs.getD (i+8) 0).fdiv 16) 65535 fa).1) (d:=Int.ofNat ((d.at (mI xs i d)).kids.length+1)) (by simp only[gT];omega);exact(Int.toNat_of_nonneg this.1).symm
 have hp:=acL xs i (d.at (mI xs i d)).kids.length;have UK:=JR (d:=d) (p:=fun x=>x.kids.length<=100) (aS _) hd.kids (mI xs i d);have jO:=hd.len;have mh:=fJ hg;rw[Sl]at mh;have ES:((eX d.ly).getD (0+mI xs i d*31+15) Eng.D.AB).jJ=fg (d.at (mI xs i d)).kids:=by
  rw[b5,FH (MD S) fa (Fs _)];rfl
 have qJ:Dy xs i d={ sp:=d.sp,root:=1,nx:=nxI xs i d,ly:=d.ly.set (mI xs i d) { d.at (mI xs i d)with kids:=wS (d.at (mI xs i d)).kids (pI xs i (d.at (mI xs i d)).kids.length) d.nx }++[x] }:=by unfold Dy;rw[SW]
 have CT:=P5 S (wS (d.at (mI xs i d)).kids (pI xs i (d.at (mI xs i d)).kids.length) d.nx);have alJ:x.id=d.nx:=by rw[<- SW];exact Xx xs i d
 have hC:=Xs (Dy xs i d) (Lb xs i hd);have vr:vQ xs i d=if(jf (Dy xs i d)).1=0 then Dy xs i d else d:=rfl
 change tS _ _ _=eX (d.ly.set (mI xs i d) { d.at (mI xs i d)with kids:=_ })at CT;generalize hN:Dy xs i d=n0 at qJ hC vr;refine fu 1 (dg _) (als xs c d i x _ _ (mI xs i d)) (J hw (J hr.1 (J hr.2.1 (J hr.2.2 (J (by simp only[gT];omega) (J (aH (V.int .i64) hgi) (J (iM hg) (J (ew _) (eC mh))))))))) ?_;have hi9:=alu xs c d i x (mI xs i d) (nxI xs i d);rw[b5,cL]at hi9;refine fu 1 (dg _) hi9 (J hw (J hr.1 (J hr.2.1 (J hr.2.2 (J rfl (J (fR _) (eC (aY G))))))) ) ?_;generalize nxI xs i d=nx at qJ ⊢;generalize mI xs i d=m at *;generalize hke:(d.at m).kids=ks at *;generalize pI xs i ks.length=p at *;refine fu 1 (dg _) (alv xs c d i x m nx d.ly.length (eX d.ly) ks) (J (iM S) (J (by rw[fR];omega) (J ES (J (ew _) (eC (Nb G)))))) ?_;rw[b5,cL];refine dZ.HF [5] [0,1,4,5,6,7,10,11,12] (hm:=Rn xs c d i x nx d.ly.length (eX d.ly) [(10,M m),t11,(12,fg ks)]) (s':=[(dM ks).length=ks.length*1]) C (eC (ew _)) _ _ ?_;refine fu 1 (dg _) (alw xs c d i x m nx d.ly.length (eX d.ly) ks p) (J hw (J hr.1 (J hr.2.1 (J hr.2.2 (J (gJ G) (J (by simp only[gT];omega) (eC (aH (V.int .i64) XA)))))))) ?_;obtain⟨L1,Rg⟩:=alx xs c d i x m nx d.ly.length (eX d.ly) ks p;obtain⟨L2,Rf⟩:=aly xs c d i x nx d.ly.length (0+m*31+15) (eX d.ly) (wS ks p x.id);obtain⟨pk1,pk2⟩:=Tb ks p x.id hp;rw[pk1,pk2]at Rg;rw[alJ]at Rg Rf;refine dI C (Xt (XH (dg _) []) (XH (dg _) []) mo C Rg ?_ (lO.HF [5] [0,1,4,5,6,7,11,204,206] (hm:=Rn xs c d i x nx d.ly.length (eX d.ly) [t11,(204,fg (wS ks p d.nx)),(206,.ptr (some (4,0+m*31+15)))]) (s':=[(dM (wS ks p d.nx)).length=(wS ks p d.nx).length*1]) C (eC (ew _))) Rf (dA (g0 ⟨eC (by rw[fR];omega),_,rfl,fun A dU=>?_⟩)))
 . have b:(0:Int)<=Int.ofNat p/\Int.ofNat p<=Int.ofNat ks.length:=⟨bS _,by simp only[gT];omega⟩;have c1:(dj (dM ks) 0 ((p-0)*1)).length=(p-0)*1:=Ei G;refine J (ew _) (J b (J c1 (J (Nb G) (J (by rw[cL,c1];omega) (J fa (J (Nb G) (J (ew _) (J b (J (ew _) (J b (J (ew _) (J b (J (Ei G) (J ?_ (J (Nb (by rw[HW];omega)) (eC (iM S)))))))))))))))));rw[aJ,bn,ct,cL,c1,List.length_singleton];omega
 simp only[andThen];rw[CT]at dU;refine fU dU ?_;generalize zB:d.ly.set m { d.at m with kids:=wS ks p d.nx }=ls at qJ ⊢;have hll:ls.length=d.ly.length:=by rw[<- zB,List.length_set]
 have hn8:=alz xs c d i x nx d.ly.length (eX ls);have e8:List.take (d.ly.length*31) (List.drop 0 (eX ls))++x.ds=eX (ls++[x]):=by
  rw[ct,cU (by rw[fR,hll];exact aK _),La];congr 1
 have e9:d.ly.length+1=(ls++[x]).length:=by rw[aJ,hll];rfl
 rw[e8,e9]at hn8;refine fu 1 (dg _) hn8 (J (by rw[fR,hll];omega) (J fa (eC (aY (by rw[<- e9];omega))))) ?_;refine dZ.HF [3] [0,1,4,5,6,11] (hm:=sMq xs c d n0 i) (s':=[(eX (ls++[x])).length=(ls++[x]).length*31]) (by rw[qJ];kernel_rfl) (eC (fR _)) _ _ ?_;refine gz (fj hC (dg _)) eH (alA xs c d n0 i (jf n0).1 (jf n0).2) (dz (g1 fun h=>⟨eC rfl,fun A dU=>hK A ?_⟩) (dA (g1 fun h=>⟨eC rfl,fun A dU=>hK A ?_⟩)))
 . rw[vr,aE (by simpa using h)];exact dZ.norm dU
 . rw[vr,aB (by simpa using h)];exact dZ.norm dU
theorem alK(d:Dc)(i:Nat)(x:eG)(SW:Ta xs i d=x)(hd:FI d)(hi:i+9<=xs.length)(H:i<=1000000){hc:Exit->St->Prop}(hK:∀A,dZ ak 0 Tryz.f34.ntmps A (yF xs c (vQ xs i d) [(6,M i)])->hc .normal A):TG ak 0 Tryz.f34.ntmps (dm 4 zJ) (HT xs c d i x []) hc:=by
 refine fu 1 (dg _) (alo xs c d i x) all_nil ?_;rw[show dm 1 (dm 4 zJ)=PZ from by kernel_rfl];refine dI C (dI C (gz (dg _) eH (alp xs c d i x) (dA (g0 ⟨all_nil,fun A dU=>?_⟩))));simp only[andThen];have jO:=hd.len;refine iQ 2 d.ly.length (fun j=>sMe xs c d i x [(9,M j)] (kF d.ly j)) (fun _=>false) (dZ.norm dU) (fun j hj _ Q' k1 k2 k3=>?_) (fun _ A dU=>?_)
 . have hA:=fun(h:(decide (Int.ofNat j<Int.ofNat d.ly.length))=true)=>(⟨iM (ko h),fR d.ly,iq (ko h)⟩:((0:Int)<=Int.ofNat j/\Int.ofNat j<Int.ofNat d.ly.length)/\(eX d.ly).length=d.ly.length*31/\V.dr (dj (eX d.ly) (j*31) 31)= .dr (d.at j).ds);have hs:kF d.ly (j+1)=if((d.at j).kd==2)=true then kF d.ly j++[Int.ofNat j]else kF d.ly j:=MC d.ly j
   have hgl:(kF d.ly j).length<=40:=by
    unfold kF;rw[bI];exact bC (List.length_filter_le ..) (by rw[List.length_range];omega)
   have N3:∀l,kF d.ly j=l->∀A,dZ ak 0 Tryz.f34.ntmps A (sMe xs c d i x [(9,M j)] l)->dZ ak 0 Tryz.f34.ntmps A (sMe xs c d i x [(9,M j)] (kF d.ly j)):=fun l e A h=>e▸h;generalize hgq:kF d.ly j=l at hs hgl ⊢;cases l with
   |nil=>
    refine gz (dg _) eH (alq xs c d i x (d.at j) j) (dz (g2 fun Q R=>?_) (dz (g2 fun Q R=>?_) (dA (g1 fun Q=>⟨all_nil,fun A dU=>k2 (by have:=tF Q;omega) A (N3 _ hgq A (dZ.norm dU))⟩))))
    . obtain⟨a1,a2,a3⟩:=hA Q;refine⟨J a1 (J a2 (J a3 (eC (gJ (by have:=ko Q;omega))))),fun A dU=>k1 (ko Q) rfl A ?_⟩;rw[hs,aE R];exact(dZ.norm dU).trans (dZ.own [(3,.i64)] (hm:=JW xs c d i x [Int.ofNat j] [(9,M (j+1))]) C)
    . obtain⟨a1,a2,a3⟩:=hA Q;refine⟨J a1 (J a2 (J a3 (eC (gJ (by have:=ko Q;omega))))),fun A dU=>k1 (ko Q) rfl A ?_⟩;rw[hs,aB (show ¬((d.at j).kd==2)=true by rw[R];decide)];exact dZ.norm dU
   |cons y l=>
    have hp:0<(y::l).length:=by simp only[aR];omega
    refine gz (dg _) eH (alr xs c d i x (d.at j) (y::l) j) (dz (g2 fun Q R=>?_) (dz (g2 fun Q R=>?_) (dA (g1 fun Q=>⟨all_nil,fun A dU=>k2 (by have:=tF Q;omega) A (N3 _ hgq A (dZ.norm dU))⟩))))
    . obtain⟨a1,a2,a3⟩:=hA Q;refine⟨J a1 (J a2 (J a3 (J hp (J G (J fa (J (Nb G) (eC (gJ (by have:=ko Q;omega))))))))),fun A dU=>k1 (ko Q) rfl A ?_⟩;rw[hs,aE R];have e:sMg xs c d i x (y::l) j [(9,M (j+1))]=JW xs c d i x (y::l++[Int.ofNat j]) [(9,M (j+1))]:=by
       unfold sMg JW;rw[ct,cS,bD,aJ];rfl
      rw[e]at dU;exact dZ.norm dU
    . obtain⟨a1,a2,a3⟩:=hA Q;refine⟨J a1 (J a2 (J a3 (eC (gJ (by have:=ko Q;omega))))),fun A dU=>k1 (ko Q) rfl A ?_⟩;rw[hs,aB (show ¬((d.at j).kd==2)=true by rw[R];decide)];exact dZ.norm dU
 simp only[andThen];refine dU _ _ ?_;have S:=UZ (xs:=xs) (i:=i) hd.grp;have K:=alI xs c d i x SW hd hi H hK;generalize kF d.ly d.ly.length=l at S K ⊢;cases l with
 |nil=>exact absurd S.1 (bX _)
 |cons y l=>exact dZ.HF [3] [0,1,4,5,6,7,8] (hm:=HT xs c d i x [(8,fg (y::l))]) (s':=[(dM (y::l)).length=(y::l).length*1]) C (eC (ew _)) _ _ K
theorem P8(d:Dc)(i:Nat)(hd:FI d)(hi:i+9<=xs.length)(H:i<=1000000){hc:Exit->St->Prop}(hK:∀A,dZ ak 0 Tryz.f34.ntmps A (yF xs c (vQ xs i d) [(6,M i)])->hc .normal A):TG ak 0 Tryz.f34.ntmps zJ (yF xs c d [(6,M i)]) hc:=by
 have hr:=fun k (Y:k<=8)=>(⟨iM (show i+k<xs.length by omega),ew xs,fJ (show i+k<xs.length by omega)⟩:((0:Int)<=Int.ofNat (i+k)/\Int.ofNat (i+k)<Int.ofNat xs.length)/\(dM xs).length=xs.length*1/\V.dr (dj (dM xs) ((i+k)*1) 1)=xI xs (i+k));have hw:=fun k (Y:k<=8)=>qR (i:=i) (k:=k) G;refine fu 2 (fj (aic (S4 xs i)) (dg _)) (alk xs c d i (lS (S4 xs i))) (Xz hi H) ?_;have ZD:d.nx≠0:=by have:=hd.nx1;omega
 generalize Zb:({ lS (S4 xs i)with id:=d.nx }:eG)=x1;refine dI C ?_;have A7:∀a∈[V.int .i64 (IntKind.i64.wrap (Int.ofNat i+(7:Int)))=M (i+7),(0:Int)<=Int.ofNat (i+7)/\Int.ofNat (i+7)<Int.ofNat xs.length,(dM xs).length=xs.length*1,V.dr (dj (dM xs) ((i+7)*1) 1)=xI xs (i+7),d.nx≠(0:Int),V.int .i64 (Ro xs i d.nx)=L (Ro xs i d.nx)],a:=J (hw 7 G) (J (hr 7 G).1 (J (hr 7 G).2.1 (J (hr 7 G).2.2 (J ZD (eC rfl)))));have s1:TG ak 0 Tryz.f34.ntmps (dm 3 zJ) (HT xs c d i (qQ x1 (Ro xs i d.nx)) []) hc:=by
  have A5:∀a∈[V.int .i64 (IntKind.i64.wrap (Int.ofNat i+(5:Int)))=M (i+5),(0:Int)<=Int.ofNat (i+5)/\Int.ofNat (i+5)<Int.ofNat xs.length,(dM xs).length=xs.length*1,V.dr (dj (dM xs) ((i+5)*1) 1)=xI xs (i+5),V.int .i64 (an (xs.getD (i+5) 0) 1)=L (an (xs.getD (i+5) 0) 1)],a:=J (hw 5 G) (J (hr 5 G).1 (J (hr 5 G).2.1 (J (hr 5 G).2.2 (eC rfl))));have SW:Ta xs i d=uN (qQ x1 (Ro xs i d.nx)) d.sp.length (an (xs.getD (i+5) 0) 1):=by rw[<- Zb];rfl
  have hb:=alK xs c d i _ SW hd hi H hK;generalize qQ x1 (Ro xs i d.nx)=x2 at hb;have zW:¬(x2.kd=1/\0<d.sp.length)->TG ak 0 Tryz.f34.ntmps (dm 4 zJ) (HT xs c d i x2 []) hc:=fun h=>by
   have e:uN x2 d.sp.length (an (xs.getD (i+5) 0) 1)=x2:=by unfold uN;rw[aB h]
   rw[e]at hb;exact hb
  rw[show dm 3 zJ= .seq (dB (dm 3 zJ)) (dm 4 zJ)from by kernel_rfl];refine Ji (gz (dg _) eH (aln xs c d i x2 (an (xs.getD (i+5) 0) 1)) (dz (g2 fun Q R=>⟨A5,fun A dU=>?_⟩) (dz (g2 fun Q R=>⟨all_nil,fun A dU=>?_⟩) (dA (g1 fun Q=>⟨all_nil,fun A dU=>?_⟩)))))
  . simp only[andThen];refine fU dU ?_;have e:uN x2 d.sp.length (an (xs.getD (i+5) 0) 1)={ x2 with sp:=an (xs.getD (i+5) 0) 1 }:=by unfold uN;rw[aE ⟨by simpa using Q,by have:=aW R;simp only[gT]at this;omega⟩]
    rw[e]at hb;exact hb
  . simp only[andThen];refine fU dU (zW fun q=>?_);have:=bx R;simp only[gT]at this;omega
  . simp only[andThen];refine fU dU (zW fun q=>?_);rw[q.1]at Q;cases Q
 refine gz (dg _) eH (alm xs c d i x1 (Ro xs i d.nx)) (dz (g1 fun h=>⟨A7,fun A dU=>?_⟩) (dA (g1 fun h=>⟨all_nil,fun A dU=>?_⟩)))
 . simp only[andThen];refine fU dU ?_;have e:qQ x1 (Ro xs i d.nx)={ x1 with of:=Ro xs i d.nx }:=by unfold qQ;rw[aE (by simpa using h)]
   rw[<- e];exact s1
 . simp only[andThen];refine fU dU ?_;have e:qQ x1 (Ro xs i d.nx)=x1:=by unfold qQ;rw[aB (by simpa using h)]
   rw[e]at s1;exact s1
end
set_option maxRecDepth 10000
theorem alL:dn (U dY []) [] 0 Tryz.f80 [] (dG Tryz.f80) (dw [] .nil 0) [([],
   [],
   .ret (.agg [.eS none 0 0 0,.int .i64 1,.int .i64 2,.eS (some (0,0)) 1 1 31]) (W [(0,.cells [.int .i64 1,.int .i64 2,.str [],.bool false,.int .i64 255,.int .i64 0,.bool false,.int .i64 0,.int .i64 0,.int .i64 0,.int .i64 0,.int .i64 0,.int .i64 0,.int .i64 0,.int .i64 0,.eS none 0 0 0,.int .i64 0,.int .i64 0,.int .i64 0,.eS none 0 0 0,.int .i64 0,.int .i64 0,.eS none 0 0 0,.int .u8 0,.int .u8 0,.int .u8 0,.int .u8 0,.eS none 0 0 0,.eS none 0 0 0,.bool false,.eS none 0 0 0])]) 1)]
 :=dh.of C C C
theorem alM:dn (U dY []) [] 0 Tryz.f112 [] (dG Tryz.f112) (dw [] .nil 0) [([],
   [],
   .ret (.agg [.eS (some (0,0)) 2 2 1,.eS (some (0,0)) 2 2 1,.eS (some (0,0)) 2 2 1,.int .i64 4096,.int .i64 0,.int .i64 0,.int .i64 0,.int .i64 4096,.int .i64 0,.int .i64 0,.int .i64 0,.int .i64 4096,.int .i64 4096,.int .i64 0,.int .i64 0,.int .i64 0,.int .i64 4096,.int .i64 0,.int .i64 0,.int .i64 0,.int .i64 4096]) (W [(0,.cells [.int .i64 0,.int .i64 65535])]) 1)]
 :=dh.of C C C
section
variable(k:Int)(q:Nat)(s:Sp)(a:Int)
theorem alN:dn (U dY []) [(6,.split),(9,.split),(12,.split)] 0 Tryz.f113 [] (dG Tryz.f113) (dw [L k] .nil 0) [([((IntKind.i64.wrap (Int.ofNat (BitVec.ofInt 64 k&&&BitVec.ofInt 64 (3:Int)).toNat)==(1:Int)),true)],
   [],
   .ret (.eS (some (0,0)) 5 5 1) (W [(0,.cells [.int .i64 0,.int .i64 4096,.int .i64 16384,.int .i64 36864,.int .i64 65535])]) 1),
  ([((IntKind.i64.wrap (Int.ofNat (BitVec.ofInt 64 k&&&BitVec.ofInt 64 (3:Int)).toNat)==(1:Int)),false),((IntKind.i64.wrap (Int.ofNat (BitVec.ofInt 64 k&&&BitVec.ofInt 64 (3:Int)).toNat)==(2:Int)),true)],
   [],
   .ret (.eS (some (0,0)) 3 3 1) (W [(0,.cells [.int .i64 0,.int .i64 40000,.int .i64 65535])]) 1),
  ([((IntKind.i64.wrap (Int.ofNat (BitVec.ofInt 64 k&&&BitVec.ofInt 64 (3:Int)).toNat)==(1:Int)),false),((IntKind.i64.wrap (Int.ofNat (BitVec.ofInt 64 k&&&BitVec.ofInt 64 (3:Int)).toNat)==(2:Int)),false),((IntKind.i64.wrap (Int.ofNat (BitVec.ofInt 64 k&&&BitVec.ofInt 64 (3:Int)).toNat)==(3:Int)),true)],
   [],
   .ret (.eS (some (0,0)) 5 5 1) (W [(0,.cells [.int .i64 100,.int .i64 100,.int .i64 30000,.int .i64 30000,.int .i64 65000])]) 1),
  ([((IntKind.i64.wrap (Int.ofNat (BitVec.ofInt 64 k&&&BitVec.ofInt 64 (3:Int)).toNat)==(1:Int)),false),((IntKind.i64.wrap (Int.ofNat (BitVec.ofInt 64 k&&&BitVec.ofInt 64 (3:Int)).toNat)==(2:Int)),false),((IntKind.i64.wrap (Int.ofNat (BitVec.ofInt 64 k&&&BitVec.ofInt 64 (3:Int)).toNat)==(3:Int)),false)],
   [],
   .ret (.eS (some (0,0)) 2 2 1) (W [(0,.cells [.int .i64 0,.int .i64 65535])]) 1)]
 :=dh.of C C C
def sp1:Sp:=⟨[0,65535],[0,65535],[0,65535],⟨4096,0,0,0,4096,0,0,0,4096⟩,⟨4096,0,0,0,4096,0,0,0,4096⟩⟩
noncomputable abbrev acM:Code:=dG Tryz.f81
noncomputable abbrev XB:Code:=dm 7 acM
noncomputable abbrev bSp:Code:=dD (dD (dP (dB XB)))
def zSp:ag:=[gA,gA,gA]++D.fN ((⟨0,0,0,0,0,0,0,0,0⟩:M9).ds++(⟨0,0,0,0,0,0,0,0,0⟩:M9).ds)
def MF(r:List (Nat×V)):St:=ff ([(0,M q),(2,.ptr (some (0,0))),(3,.ptr (some (1,0)))]++r) (W [(0,.cells zSp),(1,.cells (D.fN s.ds))]) 2
def mT:Nat->M9
 |0=>⟨4096,0,0,0,4096,0,0,0,4096⟩
 |1=>⟨0,4096,0,0,0,4096,4096,0,0⟩
 |2=>⟨2048,0,0,0,8192,0,0,0,4096⟩
 |_=>⟨4096,2048,0,0,4096,0,0,1024,4096⟩
def mF:Nat->M9
 |0=>⟨4096,0,0,0,4096,0,0,0,4096⟩
 |1=>⟨0,0,4096,4096,0,0,0,4096,0⟩
 |2=>⟨8192,0,0,0,2048,0,0,0,4096⟩
 |_=>⟨4096,-2048,0,0,4096,0,0,-1024,4096⟩
def ZE(r:Nat):Sp:=⟨[0,65535],[0,65535],[0,65535],mT r,mF r⟩
abbrev n4(i:Nat):Prop:=(0:Int)<=Int.ofNat i/\Int.ofNat i<4
theorem alP:∀r,r<4->dn (U (eZ 112 [] sp1.v dY) []) [(10,.dy (M q)),(25,.dy (M r)),(30,.dy (M r))] 0 Tryz.f81 [0,2,3] (dN 7 acM) (dw [L k] .nil 0)
  [([],[V.int .i64 ((IntKind.i64.wrap (k.tmod (256:Int)+(256:Int))).tmod (256:Int))=M q,eY [],V.int .i64 ((Int.ofNat q).tmod (4:Int))=M r,n4 r,V.int .i64 ((Int.ofNat q).tmod (4:Int))=M r,n4 r],.to .normal (MF q (ZE r) []))]:=by
 intro r hr;obtain rfl|rfl|rfl|rfl:r=0\/r=1\/r=2\/r=3:=by omega
 all_goals exact dh.of C C C
theorem alQ:dn (U dY []) [] 0 Tryz.f81 [0,2,3,6] (dB (dB XB)) (MF q s []) [([],
   [],
   .to .normal (MF q s [(6,M 0)]))]
 :=dh.of C C C
theorem alR(l:List Int):dn (U (eZ 113 [L a] (fg l) dY) []) [(43,.dy (L a))] 0 Tryz.f81 [0,2,3,6] (bSp) (MF q s [(6,M 0)]) [([],
   [((4:Int)≠(0:Int)),(V.int B ((IntKind.i64.wrap ((Int.ofNat q).tdiv (4:Int))).fdiv (1:Int))=L a),(V.lE ([]++[L a]++[])=[L a]),((0:Int)<=(0:Int)/\(0:Int)<(3:Int))],
   .to .normal (MF q { s with c0:=l } [(6,M 1)]))]
 :=dh.of C C C
theorem alS(l:List Int):dn (U (eZ 113 [L a] (fg l) dY) []) [(43,.dy (L a))] 0 Tryz.f81 [0,2,3,6] (bSp) (MF q s [(6,M 1)]) [([],
   [((4:Int)≠(0:Int)),(V.int B ((IntKind.i64.wrap ((Int.ofNat q).tdiv (4:Int))).fdiv (4:Int))=L a),(V.lE ([]++[L a]++[])=[L a]),((0:Int)<=(1:Int)/\(1:Int)<(3:Int))],
   .to .normal (MF q { s with c1:=l } [(6,M 2)]))]
 :=dh.of C C C
theorem alT(l:List Int):dn (U (eZ 113 [L a] (fg l) dY) []) [(43,.dy (L a))] 0 Tryz.f81 [0,2,3,6] (bSp) (MF q s [(6,M 2)]) [([],
   [((4:Int)≠(0:Int)),(V.int B ((IntKind.i64.wrap ((Int.ofNat q).tdiv (4:Int))).fdiv (16:Int))=L a),(V.lE ([]++[L a]++[])=[L a]),((0:Int)<=(2:Int)/\(2:Int)<(3:Int))],
   .to .normal (MF q { s with c2:=l } [(6,M 3)]))]
 :=dh.of C C C
theorem alU:dn (U dY []) [] 0 Tryz.f81 [0,2,3,6] (bSp) (MF q s [(6,M 3)]) [([],
   [],
   .to (.exit 0) (MF q s [(6,M 3)]))]
 :=dh.of C C C
theorem alV:dn (U dY []) [] 0 Tryz.f81 [] (dP XB) (MF q s [(6,M 3)]) [([],
   [],
   .ret (.agg [.eo false (s.c0.length) (dM s.c0),.eo false (s.c1.length) (dM s.c1),.eo false (s.c2.length) (dM s.c2),.int .i64 (s.to.a),.int .i64 (s.to.b),.int .i64 (s.to.c),.int .i64 (s.to.d),.int .i64 (s.to.e),.int .i64 (s.to.f),.int .i64 (s.to.g),.int .i64 (s.to.h),.int .i64 (s.to.i),.int .i64 (s.F.a),.int .i64 (s.F.b),.int .i64 (s.F.c),.int .i64 (s.F.d),.int .i64 (s.F.e),.int .i64 (s.F.f),.int .i64 (s.F.g),.int .i64 (s.F.h),.int .i64 (s.F.i)]) (W []) 0)]
 :=dh.of C C C
end
set_option maxRecDepth 10000
section
variable(k:Int)
def yG:List Int:=if an k 3=1 then[0,4096,16384,36864,65535]else if an k 3=2 then[0,40000,65535]else if an k 3=3 then[100,100,30000,30000,65000]else[0,65535]
theorem CK{x k:Int}(h:(x==k)=false):¬x=k:=fun e=>by rw[wP.2 e]at h;cases h
theorem cuD:dS ak 113 [L k] (fg (yG k)):=by
 refine rQ Tryz.func113 (eI (dg _) (alN k) (dz (g1 fun Q=>⟨all_nil,_,_,_,rfl,?_⟩) (dz (g2 fun Q R=>⟨all_nil,_,_,_,rfl,?_⟩) (dz (g3 fun Q R h3=>⟨all_nil,_,_,_,rfl,?_⟩) (dA (g3 fun Q R h3=>⟨all_nil,_,_,_,rfl,?_⟩))))))
 . have e:yG k=[0,4096,16384,36864,65535]:=by unfold yG;rw[aE (show an k 3=1 from wP.1 Q)]
   rw[e];exact .Cs (v0:=fg [0,4096,16384,36864,65535]) [0] (s':=[(dM [0,4096,16384,36864,65535]).length=5*1]) C (eC rfl) C C
 . have e:yG k=[0,40000,65535]:=by unfold yG;rw[aB (show ¬an k 3=1 from CK Q),aE (show an k 3=2 from wP.1 R)]
   rw[e];exact .Cs (v0:=fg [0,40000,65535]) [0] (s':=[(dM [0,40000,65535]).length=3*1]) C (eC rfl) C C
 . have e:yG k=[100,100,30000,30000,65000]:=by unfold yG;rw[aB (show ¬an k 3=1 from CK Q),aB (show ¬an k 3=2 from CK R),aE (show an k 3=3 from wP.1 h3)]
   rw[e];exact .Cs (v0:=fg [100,100,30000,30000,65000]) [0] (s':=[(dM [100,100,30000,30000,65000]).length=5*1]) C (eC rfl) C C
 . have e:yG k=[0,65535]:=by unfold yG;rw[aB (show ¬an k 3=1 from CK Q),aB (show ¬an k 3=2 from CK R),aB (show ¬an k 3=3 from CK h3)]
   rw[e];exact .Cs (v0:=fg [0,65535]) [0] (s':=[(dM [0,65535]).length=2*1]) C (eC rfl) C C
theorem alX:dS ak 112 [] sp1.v:=
 rQ Tryz.func112 (eI (dg _) alM (dA (g0 ⟨all_nil,_,_,_,rfl,.Cs (v0:=sp1.v) [0] (s':=[(dM [0,65535]).length=2*1,(dM [0,65535]).length=2*1,(dM [0,65535]).length=2*1]) C (J rfl (J rfl (eC rfl))) C C⟩)))
def d00:Dc:=⟨[],1,2,[{ gG with id:=1,kd:=2,op:=255 }]⟩
theorem acN:dS ak 80 [] d00.v:=
 rQ Tryz.func80 (eI (dg _) alL (dA (g0 ⟨all_nil,_,_,_,rfl,.Cs (v0:=.agg [gA,L 1,L 2,.eo false 1 (eX d00.ly)]) [0] (s':=[(eX d00.ly).length=1*31]) C (eC rfl) C C⟩)))
def q256:Nat:=((IntKind.i64.wrap (k.tmod 256+256)).tmod 256).toNat
def Nd:Sp:=⟨yG (IntKind.i64.wrap ((Int.ofNat (q256 k)).tdiv 4)),yG ((IntKind.i64.wrap ((Int.ofNat (q256 k)).tdiv 4)).fdiv 4),yG ((IntKind.i64.wrap ((Int.ofNat (q256 k)).tdiv 4)).fdiv 16),mT (q256 k%4),mF (q256 k%4)⟩
theorem Tc:(IntKind.i64.wrap (k.tmod 256+256)).tmod 256=Int.ofNat (q256 k):=by
 have Q:-256<k.tmod 256:=Int.lt_tmod_of_pos k fa;have R:k.tmod 256<256:=Int.tmod_lt_of_pos k fa;have h3:IntKind.i64.wrap (k.tmod 256+256)=k.tmod 256+256:=ik G G;unfold q256;rw[h3];have:=(x6 (x:=k.tmod 256+256) (d:=256) G fa).1;exact(Int.toNat_of_nonneg this).symm
theorem XC:dS ak 81 [L k] (Nd k).v:=by
 have hq:=aH (V.int .i64) (Tc k);unfold Nd;generalize q256 k=q at *;have hr:(Int.ofNat q).tmod 4=Int.ofNat (q%4):=by
  exact Int.tmod_eq_emod_of_nonneg (bS q)
 have h4:q%4<4:=Nat.mod_lt _ fa;generalize q%4=r at hr h4 ⊢;have n4r:n4 r:=⟨bS _,cg.2 h4⟩;refine eV Tryz.func81 (fu 7 (fj alX (dg _)) (alP k q r h4) (J hq (J rfl (J (aH (V.int .i64) hr) (J n4r (J (aH (V.int .i64) hr) (eC n4r)))))) ?_);refine dI C (dI C (gz (dg _) eH (alQ q (ZE r)) (dA (g0 ⟨all_nil,fun A dU=>?_⟩))));simp only[andThen];generalize ha:IntKind.i64.wrap ((Int.ofNat q).tdiv 4)=a;refine iQ 0 3 (fun j=>MF q (match j with|0=>ZE r|1=>{ ZE r with c0:=yG a }|2=>{ ZE r with c0:=yG a,c1:=yG (a.fdiv 4) }|_=>{ ZE r with c0:=yG a,c1:=yG (a.fdiv 4),c2:=yG (a.fdiv 16) }) [(6,M j)]) (fun _=>false) (dZ.norm dU) (fun j hj _ Q' k1 k2 k3=>?_) (fun _ A dU=>?_)
 . match j,hj with
   |0,_=>exact gz (fj (cuD a) (dg _)) eH (alR q _ a (yG a)) (dA (g0 ⟨J fa (J (by rw[ha,show a.fdiv 1=a from Int.fdiv_one a]) (J rfl (eC fa))),fun A dU=>k1 fa rfl A (dZ.norm dU)⟩))
   |1,_=>exact gz (fj (cuD (a.fdiv 4)) (dg _)) eH (alS q _ (a.fdiv 4) (yG (a.fdiv 4))) (dA (g0 ⟨J fa (J (by rw[ha]) (J rfl (eC fa))),fun A dU=>k1 fa rfl A (dZ.norm dU)⟩))
   |2,_=>exact gz (fj (cuD (a.fdiv 16)) (dg _)) eH (alT q _ (a.fdiv 16) (yG (a.fdiv 16))) (dA (g0 ⟨J fa (J (by rw[ha]) (J rfl (eC fa))),fun A dU=>k1 fa rfl A (dZ.norm dU)⟩))
   |3,_=>exact gz (dg _) eH (alU q _) (dA (g0 ⟨all_nil,fun A dU=>k2 rfl A (dZ.norm dU)⟩))
   |n+4,hj=>exact absurd hj G
 simp only[andThen];refine dU _ _ (eI (dg _) (alV q _) (dA (g0 ⟨all_nil,_,_,_,rfl,rfl⟩)))
end
set_option maxRecDepth 10000
section
variable(xs:List Int)(c:Nat)
def sMs(d:Dc)(s:Sp):St:=ff [(0,fg xs),(1,M c),(4,.ptr (some (0,0))),(5,.ptr (some (1,0)))] (W [(0,.cells P0),(1,.cells [.eS (some (2,0)) 1 1 21,L d.root,L d.nx,.eo false d.ly.length (eX d.ly)]),(2,.cells (D.fN s.ds))]) 3
theorem alY(d:Dc)(s:Sp)(a:Int):dn (U (eZ 81 [L a] s.v dY) []) [(27,.dy (xI xs 0)),(30,.dy (L a))] 0 Tryz.f34 [0,1,4,5] (lH (dP (dB PX))) (yF xs c d [(25,.bool true)]) [([],
   [((0:Int)<=(0:Int)/\(0:Int)<(Int.ofNat xs.length)),((dM xs).length=xs.length*1),(V.dr (dj (dM xs) 0 1)=xI xs 0),(V.int B (IntKind.i64.wrap (Int.ofNat (BitVec.ofInt 64 ((xs.getD 0 (0:Int)).fdiv (4096:Int))&&&BitVec.ofInt 64 (1023:Int)).toNat))=L a),(V.lE ([]++[L a]++[])=[L a])],
   .to .normal (sMs xs c d s))]
 :=dh.of C C C
theorem alZ(d:Dc):dn (U dY []) [] 0 Tryz.f34 [0,1,4,5] (oH (dP (dB PX))) (yF xs c d [(25,.bool false)]) [([],
   [],
   .to .normal (yF xs c d []))]
 :=dh.of C C C
end
set_option maxRecDepth 10000
def Mk(xs:List Int):Dc:=if 0<xs.length/\an ((xs.getD 0 0).fdiv 1024) 3=1 then { d00 with sp:=[Nd (an ((xs.getD 0 0).fdiv 4096) 1023)] }else d00
noncomputable def Rp(xs:List Int):Nat->Dc
 |0=>Mk xs
 |j+1=>vQ xs (9*j) (Rp xs j)
section
variable(xs:List Int)(c:Nat)
def Rq:Nat:=min (xs.length/9) c
noncomputable def Au:Dc:=Rp xs (Rq xs c)
theorem acO(k:Int):SS (Nd k):=by
 have h:∀a,(yG a).length<=1000000:=fun a=>by
  unfold yG;split
  . decide
  . split
    . decide
    . split<;>decide
 exact⟨h _,h _,h _⟩
theorem Td:FI (Mk xs):=by
 have h0:CY { gG with id:=1,kd:=2,op:=255 }:=⟨aS _,aS _,aS _,aS _,aS _,aS _,aS _⟩;have hl:∀x∈d00.ly,CY x/\x.kids.length<=100:=fun x H=>by
  have:x={ gG with id:=1,kd:=2,op:=255 }:=aG.1 H;subst this;exact⟨h0,aS _⟩
 unfold Mk;split
 . exact⟨show(1:Int)<=d00.nx by decide,show d00.nx<=1048576 by decide,show d00.ly.length<=40 by decide,⟨0,show 0<d00.ly.length by decide,rfl⟩,fun x H=>(hl x H).2,⟨⟨show d00.ly.length<=1000000 by decide,fun x H=>(hl x H).1.kids⟩,fun s hs=>(by rw[aG.1 hs];exact acO _),fun x H=>(hl x H).1⟩⟩
 . exact⟨fa,fa,fa,⟨0,fa,rfl⟩,fun x H=>(hl x H).2,⟨⟨fa,fun x H=>(hl x H).1.kids⟩,fun s hs=>(by cases hs),fun x H=>(hl x H).1⟩⟩
end
theorem FJ(xs:List Int):∀j,FI (Rp xs j)
 |0=>Td xs
 |j+1=>ME xs _ (FJ xs j)
theorem XD(xs:List Int)(c:Nat)(K:c<=100000):dS ak 34 [fg xs,M c] (Au xs c).v:=by
 refine eV Tryz.func34 (fu 2 (fj acN (dg _)) (alg xs c d00) (eC rfl) ?_);have vt:∀A,dZ ak 0 Tryz.f34.ntmps A (yF xs c (Mk xs) [])->TG ak 0 Tryz.f34.ntmps PY A (fD ak 0 Tryz.f34 fun u _ _=>u=(Au xs c).v):=fun A dU=>by
  refine dU _ _ (dI C (dI C (gz (dg _) eH (alD xs c (Mk xs)) (dA (g0 ⟨all_nil,fun A dU=>?_⟩)))));simp only[andThen];have hn:Rq xs c*9<=xs.length/\Rq xs c<=c:=by unfold Rq;omega
  have o4:∀j,j<Rq xs c\/(xs.length<9*j+9\/c<=j):=fun j=>by unfold Rq;omega
  refine iQ 0 (Rq xs c) (fun j=>yF xs c (Rp xs j) [(6,M (9*j))]) (fun _=>false) (dZ.norm dU) (fun j hj _ Q' k1 k2 k3=>?_) (fun _ A dU=>?_)
  . have A1:V.int .i64 (IntKind.i64.wrap (Int.ofNat (9*j)+(9:Int)))=M (9*j+9):=qR (i:=9*j) (k:=9) G;have A2:V.int .i64 (IntKind.i64.wrap ((9:Int)*Int.ofNat c))=M (9*c):=aH (V.int .i64) (by rw[show(9:Int)*Int.ofNat c=Int.ofNat (9*c)from rfl];exact ik (by simp only[gT];omega) (by simp only[gT];omega));refine pF (dg _) eH (alj xs c (Rp xs j) (9*j)) (dz (g2 fun Q R=>⟨J A1 (eC A2),?_⟩) (dz (g2 fun Q R=>⟨J A1 (eC A2),fun A dU=>k2 ?_ A (dZ.norm dU)⟩) (dA (g1 fun Q=>⟨eC A1,fun A dU=>k2 ?_ A (dZ.norm dU)⟩))))
    . have q1:9*j+9<=xs.length:=by have:=aW Q;simp only[gT]at this;omega
      have q2:j<c:=by have:=ko R;omega
      have q3:j<Rq xs c:=by rcases o4 j with q|q|q<;>omega
      refine dI C (fB (i:=1) C (P8 xs c (Rp xs j) (9*j) (FJ xs j) q1 G fun A dU=>?_));simp only[gw,andThen];exact dU _ _ (gz (dg _) eH (alB xs c (vQ xs (9*j) (Rp xs j)) (9*j)) (dA (g0 ⟨eC A1,fun A dU=>k1 q3 rfl A (dZ.norm dU)⟩)))
    . have:=tF R;rcases o4 j with q|q|q
      . omega
      . have:=aW Q;simp only[gT]at this;omega
      . omega
    . have:=bx Q;simp only[gT]at this;omega
  simp only[andThen];exact dU _ _ (eI (dg _) (alC xs c (Rp xs (Rq xs c)) (9*Rq xs c)) (dA (g0 ⟨all_nil,_,_,_,rfl,rfl⟩)))
 have hB:=fun(h:(decide ((Int.ofNat xs.length)>(0:Int)))=true)=>(by
  have:=aW h;simp only[gT]at this;have q:0<xs.length:=by omega
  exact⟨iM q,ew xs,fJ q⟩:((0:Int)<=(0:Int)/\(0:Int)<Int.ofNat xs.length)/\(dM xs).length=xs.length*1/\V.dr (dj (dM xs) 0 1)=xI xs 0)
 have no:Mk xs=d00->TG ak 0 Tryz.f34.ntmps (oH (dP (dB PX))) (yF xs c d00 [(25,.bool false)]) (andThen (fun A=>TG ak 0 Tryz.f34.ntmps PY A (fD ak 0 Tryz.f34 fun u _ _=>u=(Au xs c).v)) (fD ak 0 Tryz.f34 fun u _ _=>u=(Au xs c).v)):=fun e=>
  gz (dg _) eH (alZ xs c d00) (dA (g0 ⟨all_nil,fun A dU=>vt A (by rw[e];exact dZ.norm dU)⟩))
 refine dI C (pF (dg _) eH (ali xs c d00) (dz (g2 fun Q R=>?_) (dz (g2 fun Q R=>?_) (dA (g1 fun Q=>?_)))))
 . obtain⟨b1,b2,b3⟩:=hB Q;refine⟨J b1 (J b2 (eC b3)),jK (t:=true) C C (fun _=>?_) (fun h=>by cases h)⟩;have hp:0<xs.length:=by have:=aW Q;simp only[gT]at this;omega
   have e:Mk xs={ d00 with sp:=[Nd (an ((xs.getD 0 0).fdiv 4096) 1023)] }:=by unfold Mk;rw[aE ⟨hp,wP.1 R⟩]
   refine gz (fj (XC (an ((xs.getD 0 0).fdiv 4096) 1023)) (dg _)) eH (alY xs c d00 (Nd (an ((xs.getD 0 0).fdiv 4096) 1023)) (an ((xs.getD 0 0).fdiv 4096) 1023)) (dA (g0 ⟨J b1 (J b2 (J b3 (J rfl (eC rfl)))),fun A dU=>vt A ?_⟩));rw[e];generalize Nd (an ((xs.getD 0 0).fdiv 4096) 1023)=s at dU;exact(dZ.norm dU).trans (dZ.HF [2] [0,1,4,5] (hm:=yF xs c { d00 with sp:=[s] } []) (s':=[(lT [s]).length=1*21]) C (eC rfl))
 . obtain⟨b1,b2,b3⟩:=hB Q;refine⟨J b1 (J b2 (eC b3)),jK (t:=false) C C (fun h=>by cases h) (fun _=>no ?_)⟩;unfold Mk;rw[aB fun q=>CK R q.2]
 . refine⟨all_nil,jK (t:=false) C C (fun h=>by cases h) (fun _=>no ?_)⟩;have:=bx Q;simp only[gT]at this;unfold Mk;rw[aB fun q=>by have:=q.1;omega]
set_option maxRecDepth 10000
theorem P9(k:Int):jF (yG k)=true:=by
 unfold yG;split
 . decide
 . split
   . decide
   . split
     . decide
     . decide
theorem al0:∀r,r<4->∀a b c,((List.range 9).any (FD ⟨a,b,c,mT r,mF r⟩)=false/\(List.range 3).any (fun i=>(List.range 3).any (zD ⟨a,b,c,mT r,mF r⟩ i))=false):=by
 intro r hr a b c;obtain rfl|rfl|rfl|rfl:r=0\/r=1\/r=2\/r=3:=by omega
 all_goals exact⟨C,C⟩
theorem XE(k:Int):Ar (Nd k)=true:=by
 obtain⟨Q,R⟩:=al0 (q256 k%4) (Nat.mod_lt _ fa) (yG (IntKind.i64.wrap ((Int.ofNat (q256 k)).tdiv 4))) (yG ((IntKind.i64.wrap ((Int.ofNat (q256 k)).tdiv 4)).fdiv 4)) (yG ((IntKind.i64.wrap ((Int.ofNat (q256 k)).tdiv 4)).fdiv 16));have h3:(List.range 3).any (fun i=>!jF ((Nd k).cv i))=false:=by
  rw[cR];intro i _;have:jF ((Nd k).cv i)=true:=match i with
   |0=>P9 _
   |1=>P9 _
   |_+2=>P9 _
  rw[this];decide
 unfold Ar;rw[h3];have Q:(List.range 9).any (FD (Nd k))=false:=Q;have R:(List.range 3).any (fun i=>(List.range 3).any (zD (Nd k) i))=false:=R;rw[Q,R];rfl
theorem al1:cD (fc [])=true:=OS ⟨aS _,fun i h=>absurd h (bX _)⟩
def Nf:eG:={ gG with id:=1,kd:=2,op:=255 }
theorem al2(n:Nat):vy n Nf=0:=by
 have e:vy n Nf=JL n Nf (cD (fc [])) (cD (fc [])) (Aq Nf.pl) (iH Nf.f) (rU Nf.nm) (Gb Nf) (jw Nf.gU):=rfl;have hs:bs n Nf=false:=by
  unfold bs;have:decide (Nf.sp>Int.ofNat n)=false:=aU (by show ¬(0:Int)>Int.ofNat n;simp only[gT];omega);rw[this];rfl
 rw[e,al1];unfold JL;rw[hs];rfl
theorem HX(sp:List Sp)(hl:sp.length<=8)(hs:∀s∈sp,Ar s=true):jf { d00 with sp:=sp }=(0,0):=by
 generalize hd:({ d00 with sp:=sp }:Dc)=d;have zB:d.ly=[Nf]:=by rw[<- hd];rfl
 have hr:d.root=1:=by rw[<- hd];rfl
 have ZD:d.nx=2:=by rw[<- hd];rfl
 have Da:d.sp=sp:=by rw[<- hd]
 have mR:d.at 0=Nf:=by unfold Dc.at;rw[zB];rfl
 have one:∀f:Nat->Bool,f 0=false->lG f d.ly.length=none:=fun f h=>gr fun j hj=>by
  rw[zB]at hj;obtain rfl:j=0:=by simp only[aR,bU]at hj;omega
  exact h
 have w:ig d=(0,0):=by
  have hb:wR d=false:=by
   unfold wR;rw[Da,zB,ZD];have:decide (Int.ofNat sp.length>(8:Int))=false:=aU (by simp only[gT];omega);rw[this];rfl
  have Q:lG (fun i=>!Ar (d.sp.getD i Nc)) d.sp.length=none:=gr fun j hj=>by
   have:d.sp.getD j Nc∈sp:=by rw[Da]at hj ⊢;rw[ax,au hj];exact bK hj
   rw[hs _ this];rfl
  have R:tj d 0=false:=by unfold tj uM;rw[mR,ZD];rfl
  have h3:lV d=false:=by unfold lV Dc.at;rw[zB,hr];rfl
  unfold ig;rw[hb,aB fa,Q];simp only;rw[one _ R];simp only;rw[h3];rfl
 have Q:JP d 0=false:=by unfold JP;rw[mR,al2];rfl
 have R:Be d 0=false:=by unfold Be qP;rw[mR,zB,hr];rfl
 have h3:zG d 0=false:=by unfold zG zF;rw[mR];rfl
 have h4:MB d 0=false:=by unfold MB;rw[mR,zB];rfl
 unfold jf;rw[w,aE rfl,one _ Q];simp only;rw[one _ R];simp only;rw[one _ h3];simp only;rw[one _ h4];simp only;rw[zB,hr];rfl
theorem XF(xs:List Int):(jf (Mk xs)).1=0:=by
 unfold Mk;split
 . rw[HX _ (by show 1<=8;decide) fun s hs=>(by rw[aG.1 hs];exact XE _)]
 . have e:d00={ d00 with sp:=[] }:=rfl;rw[e,HX [] (aS _) fun s hs=>(by cases hs)]
theorem Qa(xs:List Int):∀j,(jf (Rp xs j)).1=0
 |0=>XF xs
 |j+1=>by
  show(jf (vQ xs (9*j) (Rp xs j))).1=0;unfold vQ;split
  . assumption
  . exact Qa xs j
theorem Qb(xs:List Int)(c:Nat):jR (Au xs c)/\FI (Au xs c):=⟨JY (Qa xs _),FJ xs _⟩
end Go.Proofs.YtmjggdmekboefaaGreat
