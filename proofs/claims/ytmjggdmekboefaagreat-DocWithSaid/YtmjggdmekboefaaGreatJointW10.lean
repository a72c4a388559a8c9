/- The Doc laws: the reference's Made: pieces. No conditions. -/
import Derived.Test.YtmjggdmekboefaaGreatJointW08
import Derived.Test.YtmjggdmekboefaaGreatJointW09
set_option linter.unusedVariables false
set_option linter.unusedSimpArgs false
set_option linter.unusedSectionVars false
namespace Go.Proofs.YtmjggdmekboefaaGreat
open Go Go.Eng
set_option maxRecDepth 10000
def Uk(xs:List Int)(i:Nat):S8:=⟨xs.getD i 0,xs.getD (i+1) 0,xs.getD (i+2) 0,xs.getD (i+3) 0,xs.getD (i+4) 0,xs.getD (i+5) 0,xs.getD (i+6) 0,xs.getD (i+7) 0⟩
noncomputable abbrev aeG:Code:=dL Tryz.f34
noncomputable abbrev Ra:Code:=dA 2 aeG
noncomputable abbrev Rb:Code:=dY Ra
noncomputable abbrev anO:Code:=dY Rb
noncomputable abbrev bMz:Code:=dK (dK (dY (dI Rb)))
noncomputable abbrev Ah:Code:=dK (dI (dY bMz))
noncomputable abbrev Rc:Code:=dA 5 Ah
noncomputable abbrev Zj:Code:=dY Rc
section
variable(xs:List Int)(c i j:Nat)(ks:List Int)
noncomputable abbrev aeH:Code:=dA 1 Zj
noncomputable abbrev aeI:Code:=dA 1 aeH
noncomputable abbrev aeJ:Code:=dA 1 aeI
noncomputable abbrev Zk:Code:=dA 1 aeJ
noncomputable abbrev aeK:Code:=dA 1 Zk
noncomputable abbrev anQ:Code:=dA 1 aeK
def Ai:ag:=[gh,F 0,F 0,gh]
def ze(d:Dc)(r:List (Nat×V)):St:=fB ([(0,fF xs),(1,L c),(4,.ptr (some (0,0))),(5,.ptr (some (1,0)))]++r) (hL [(0,.cells Ai),(1,.cells d.cs)]) 2
theorem anR(d:Dc):H (M (fa 80 [] d.v ek) []) [] 0 Tryz.f34 [0,1,4,5] (dU 2 aeG) (dB [fF xs,L c] .nil 0) [([],[V.jJ ([]++[]++[])=[]],eu (ze xs c d []))]:=G.W
def Jw(d:Dc)(i:Nat)(x:eJ)(r:List (Nat×V)):St:=fB ([(0,fF xs),(1,L c),(4,.ptr (some (0,0))),(5,.ptr (some (1,0))),(6,L i),(7,.ptr (some (2,0)))]++r) (hL [(0,.cells Ai),(1,.cells d.cs),(2,.cells x.cs)]) 3
def KP(d:Dc)(i:Nat)(x:eJ)(r:List (Nat×V)):St:=fB ([(0,fF xs),(1,L c),(4,.ptr (some (0,0))),(5,.ptr (some (1,0))),(6,L i),(7,.ptr (some (2,0))),(8,.eZ (some (3,0)) 0 0 1)]++r) (hL [(0,.cells Ai),(1,.cells d.cs),(2,.cells x.cs),(3,.cells [])]) 4
def KQ(d:Dc)(i:Nat)(x:eJ)(l:List Int)(r:List (Nat×V)):St:=fB ([(0,fF xs),(1,L c),(4,.ptr (some (0,0))),(5,.ptr (some (1,0))),(6,L i),(7,.ptr (some (2,0))),(8,.eZ (some (3,0)) l.length l.length 1)]++r) (hL [(0,.cells Ai),(1,.cells d.cs),(2,.cells x.cs),(3,.own .i64 l)]) 4
def sMf(d:Dc)(i:Nat)(x:eJ)(j:Nat)(r:List (Nat×V)):St:=fB ([(0,fF xs),(1,L c),(4,.ptr (some (0,0))),(5,.ptr (some (1,0))),(6,L i),(7,.ptr (some (2,0))),(8,.eZ (some (3,0)) 1 1 1)]++r) (hL [(0,.cells Ai),(1,.cells d.cs),(2,.cells x.cs),(3,.cells [L j])]) 4
def sMg(d:Dc)(i:Nat)(x:eJ)(l:List Int)(j:Nat)(r:List (Nat×V)):St:=fB ([(0,fF xs),(1,L c),(4,.ptr (some (0,0))),(5,.ptr (some (1,0))),(6,L i),(7,.ptr (some (2,0))),(8,.eZ (some (3,0)) (l.length+1) (l.length+1) 1)]++r) (hL [(0,.cells Ai),(1,.cells d.cs),(2,.cells x.cs),(3,.own .i64 (List.take (l.length*1) (List.drop 0 l)++[Int.ofNat j]))]) 4
abbrev xI:V:=.dS [.int .i64 (xs.getD i 0)]
theorem anT(d:Dc):H (M ek []) [(17,.split),(20,.dG (xI xs 0)),(24,.split)] 0 Tryz.f34 [0,1,4,5,25] (dI (dI Ra)) (ze xs c d []) (si (decide ((Int.ofNat xs.length)>(0:Int))) (IntKind.i64.wrap (Int.ofNat (BitVec.ofInt 64 ((xs.getD 0 (0:Int)).fdiv (1024:Int))&&&BitVec.ofInt 64 (3:Int)).toNat)==(1:Int)) ([(0:Int)<=(0:Int)/\(0:Int)<(Int.ofNat xs.length),jC xs,V.dS (dO (eG xs) 0 1)=xI xs 0],eu (ze xs c d [(25,.bool true)])) ([(0:Int)<=(0:Int)/\(0:Int)<(Int.ofNat xs.length),jC xs,V.dS (dO (eG xs) 0 1)=xI xs 0],eu (ze xs c d [(25,.bool false)])) ([],eu (ze xs c d [(25,.bool false)]))):=G.W
abbrev KR:Prop:=V.int B (IntKind.i64.wrap (Int.ofNat i+(9:Int)))=L (i+9)
abbrev Rd:Prop:=V.int B (IntKind.i64.wrap ((9:Int)*Int.ofNat c))=L (9*c)
theorem anU(d:Dc)(i:Nat):H (M ek []) [(35,.dG (L (i+9))),(42,.dG (L (9*c))),(38,.split),(43,.split)] 0 Tryz.f34 [0,1,4,5,6] (dI bMz) (ze xs c d [(6,L i)]) (si (decide (Int.ofNat (i+9)<=(Int.ofNat xs.length))) (decide (Int.ofNat i<Int.ofNat (9*c))) ([KR i,Rd c],eu (ze xs c d [(6,L i)])) ([KR i,Rd c],.to (.exit 0) (ze xs c d [(6,L i)])) ([KR i],.to (.exit 0) (ze xs c d [(6,L i)]))):=G.W
def Ul:ah:=[(0:Int)<=Int.ofNat i/\Int.ofNat i<Int.ofNat xs.length,(eG xs).length=xs.length*1,V.dS (dO (eG xs) (i*1) 1)=xI xs i]
def Wm(k:Nat):Prop:=V.int .i64 (IntKind.i64.wrap (Int.ofNat i+Int.ofNat k))=L (i+k)
def r8A:ah:=Ul xs i++(Wm i 1::(Ul xs (i+1)++(Wm i 2::(Ul xs (i+2)++(Wm i 3::(Ul xs (i+3)++(Wm i 4::(Ul xs (i+4)++(Wm i 5::(Ul xs (i+5)++(Wm i 6::(Ul xs (i+6)++(Wm i 7::(Ul xs (i+7)++[fu [.agg (Uk xs i).cs]]))))))))))))))
theorem anV(d:Dc)(i:Nat)(x:eJ):H (M (fa 30 [.agg (Uk xs i).cs] x.v ek) []) [(49,.dG (xI xs i)),(53,.dG (L (i+1))),(54,.dG (xI xs (i+1))),(58,.dG (L (i+2))),(59,.dG (xI xs (i+2))),(63,.dG (L (i+3))),(64,.dG (xI xs (i+3))),(68,.dG (L (i+4))),(69,.dG (xI xs (i+4))),(73,.dG (L (i+5))),(74,.dG (xI xs (i+5))),(78,.dG (L (i+6))),(79,.dG (xI xs (i+6))),(83,.dG (L (i+7))),(84,.dG (xI xs (i+7)))] 0 Tryz.f34 [0,1,4,5,6,7] (dU 2 Ah) (ze xs c d [(6,L i)]) [([],r8A xs i,.to .normal (Jw xs c d i { x with id:=d.nx } []))]:=G.W
theorem anW(d:Dc)(i:Nat)(x:eJ)(o:Int):H (M ek []) [(93,.split),(96,.dG (L (i+7))),(97,.dG (xI xs (i+7))),(103,.dG (F o))] 0 Tryz.f34 [0,1,4,5,6,7] (dI (dA 2 Ah)) (Jw xs c d i x []) (fP (x.kd==(4:Int)) ([V.int B (IntKind.i64.wrap (Int.ofNat i+(7:Int)))=L (i+7),fR (i+7) xs.length,jC xs,V.dS (dO (eG xs) ((i+7)*1) 1)=xI xs (i+7),d.nx≠(0:Int),V.int B (IntKind.i64.wrap ((1:Int)+(IntKind.i64.wrap (Int.ofNat (BitVec.ofInt 64 (xs.getD (i+7) (0:Int))&&&BitVec.ofInt 64 (65535:Int)).toNat)).tmod d.nx))=F o],eu (Jw xs c d i { x with of:=o } [])) ([],eu (Jw xs c d i x []))):=G.W
theorem anX(d:Dc)(i:Nat)(x:eJ)(o:Int):H (M ek []) [(107,.split),(112,.split),(116,.dG (L (i+5))),(117,.dG (xI xs (i+5))),(119,.dG (F o))] 0 Tryz.f34 [0,1,4,5,6,7] (dI (dA 3 Ah)) (Jw xs c d i x []) (CW (x.kd==(1:Int)) (decide ((Int.ofNat d.sp.length)>(0:Int))) ([V.int B (IntKind.i64.wrap (Int.ofNat i+(5:Int)))=L (i+5),fR (i+5) xs.length,jC xs,V.dS (dO (eG xs) ((i+5)*1) 1)=xI xs (i+5),V.int B (IntKind.i64.wrap (Int.ofNat (BitVec.ofInt 64 (xs.getD (i+5) (0:Int))&&&BitVec.ofInt 64 (1:Int)).toNat))=F o],eu (Jw xs c d i { x with sp:=o } [])) ([],eu (Jw xs c d i x []))):=G.W
theorem anY(d:Dc)(i:Nat)(x:eJ):H (M ek []) [] 0 Tryz.f34 [0,1,4,5,6,7,8] (dU 1 (dA 4 Ah)) (Jw xs c d i x []) [([],[],eu (KP xs c d i x []))]:=G.W
theorem anZ(d:Dc)(i:Nat)(x:eJ):H (M ek []) [] 0 Tryz.f34 [0,1,4,5,6,7,8,9] (dI (dI Rc)) (KP xs c d i x []) [([],[],eu (KP xs c d i x [(9,L 0)]))]:=G.W
abbrev Re:Prop:=V.int B (IntKind.i64.wrap (Int.ofNat j+(1:Int)))=L (j+1)
theorem an0(d:Dc)(i:Nat)(x y:eJ)(j:Nat):H (M ek []) [(126,.split),(132,.dG (.dS y.ds)),(135,.split),(128,.dG (L (j+1)))] 0 Tryz.f34 [0,1,4,5,6,7,8,9] (dK (dK (dY (dI Rc)))) (KP xs c d i x [(9,L j)]) (si (decide (Int.ofNat j<(Int.ofNat d.ly.length))) (y.kd==(2:Int)) ([fR j d.ly.length,nE d.ly,gG (fD d.ly) j 31 y.ds,Re j],eu (sMf xs c d i x j [(9,L (j+1))])) ([fR j d.ly.length,nE d.ly,gG (fD d.ly) j 31 y.ds,Re j],eu (KP xs c d i x [(9,L (j+1))])) ([],.to (.exit 2) (KP xs c d i x [(9,L j)]))):=G.W
abbrev Rf:Prop:=V.int B (IntKind.i64.wrap (Int.ofNat j+(1:Int)))=L (j+1)
theorem an1(d:Dc)(i:Nat)(x y:eJ)(l:List Int)(j:Nat):H (M ek []) [(126,.split),(132,.dG (.dS y.ds)),(135,.split),(128,.dG (L (j+1)))] 0 Tryz.f34 [0,1,4,5,6,7,8,9] (dK (dK (dY (dI Rc)))) (KQ xs c d i x l [(9,L j)]) (si (decide (Int.ofNat j<(Int.ofNat d.ly.length))) (y.kd==(2:Int)) ([fR j d.ly.length,nE d.ly,gG (fD d.ly) j 31 y.ds,0<l.length,0+l.length*1<=l.length,0<1,fJ (l.length+1) 1 8=true,Rf j],eu (sMg xs c d i x l j [(9,L (j+1))])) ([fR j d.ly.length,nE d.ly,gG (fD d.ly) j 31 y.ds,Rf j],eu (KQ xs c d i x l [(9,L (j+1))])) ([],.to (.exit 2) (KQ xs c d i x l [(9,L j)]))):=G.W
theorem an2(d:Dc)(i:Nat)(x:eJ)(l:List Int)(g m:Nat):H (M ek []) [(143,.dG (L (i+8))),(144,.dG (xI xs (i+8))),(149,.dG (L g)),(150,.dG (.dS [.int .i64 (Int.ofNat m)]))] 0 Tryz.f34 [0,1,4,5,6,7,10] (dU 1 Zj) (Jw xs c d i x [(8,fF l)]) [([],[V.int B (IntKind.i64.wrap (Int.ofNat i+(8:Int)))=L (i+8),fR (i+8) xs.length,jC xs,V.dS (dO (eG xs) ((i+8)*1) 1)=xI xs (i+8),(Int.ofNat l.length)≠(0:Int),V.int B ((IntKind.i64.wrap (Int.ofNat (BitVec.ofInt 64 (xs.getD (i+8) (0:Int))&&&BitVec.ofInt 64 (65535:Int)).toNat)).tmod (Int.ofNat l.length))=L g,fR g l.length,jC l,gG (eG l) g 1 [D.int B (Int.ofNat m)]],eu (Jw xs c d i x [(10,L m)]))]:=G.W
def dMz(d:Dc)(nx:Int)(n:Nat):ag:=[.eE false d.sp.length (jy d.sp),F 1,F nx,.eZ (some (4,0)) n n 31]
def SI(d:Dc)(i:Nat)(x:eJ)(nx:Int)(n:Nat)(ds:List Eng.D)(r:List (Nat×V)):St:=fB ([(0,fF xs),(1,L c),(4,.ptr (some (0,0))),(5,.ptr (some (1,0))),(6,L i),(7,.ptr (some (2,0)))]++r) (hL [(0,.cells Ai),(1,.cells d.cs),(2,.cells x.cs),(3,.cells (dMz d nx n)),(4,.deep ds)]) 5
def sMw(d:Dc)(i:Nat)(x:eJ)(nx:Int)(n:Nat)(ds O:List Eng.D)(r:List (Nat×V)):St:=fB ([(0,fF xs),(1,L c),(4,.ptr (some (0,0))),(5,.ptr (some (1,0))),(6,L i),(7,.ptr (some (2,0)))]++r) (hL [(0,.cells Ai),(1,.cells d.cs),(2,.cells x.cs),(3,.cells (dMz d nx n)),(4,.deep ds),(5,.deep O)]) 6
def Zl(p:Nat)(id:Int):List Eng.D:=List.take ((0+(p-0)+1)*1) (List.drop 0 (List.take ((0+(p-0))*1) (List.drop 0 ([]++dO (eG ks) 0 ((p-0)*1)))++[.int .i64 id]))++dO (eG ks) (p*1) ((ks.length-p)*1)
def sMn(d:Dc)(i:Nat)(nx:Int)(n:Nat)(ds:List Eng.D):St:=fB [(0,fF xs),(1,L c),(4,.ptr (some (0,0))),(5,.ptr (some (1,0))),(6,L i),(11,.ptr (some (2,0)))] (hL [(0,.cells Ai),(1,.cells d.cs),(2,.cells [.eE false d.sp.length (jy d.sp),F 1,F nx,.eZ (some (3,0)) n n 31]),(3,.deep ds)]) 4
abbrev t11:Nat×V:=(11,.ptr (some (3,0)))
theorem an3(d:Dc)(i:Nat)(x:eJ)(m:Nat)(nx:Int):H (M ek []) [(159,.dG (L (i+8))),(160,.dG (xI xs (i+8))),(164,.dG (F nx))] 0 Tryz.f34 [0,1,4,5,6,7,10,11] (dU 1 aeH) (Jw xs c d i x [(10,L m)]) [([],[V.int B (IntKind.i64.wrap (Int.ofNat i+(8:Int)))=L (i+8),fR (i+8) xs.length,jC xs,V.dS (dO (eG xs) ((i+8)*1) 1)=xI xs (i+8),V.int B (IntKind.i64.wrap (IntKind.i64.wrap (d.nx+(1:Int))+IntKind.i64.wrap (Int.ofNat (BitVec.ofInt 64 ((xs.getD (i+8) (0:Int)).fdiv (65536:Int))&&&BitVec.ofInt 64 (1:Int)).toNat)))=F nx,nE d.ly,fJ (0+d.ly.length) 31 328=true],eu (SI xs c d i x nx (0+d.ly.length) ([]++fD d.ly) [(10,L m),t11]))]:=G.W
theorem an4(d:Dc)(i:Nat)(x:eJ)(m:Nat)(nx:Int)(n:Nat)(ds:List Eng.D)(ks:List Int):H (M ek []) [(176,.dG (fF ks))] 0 Tryz.f34 [0,1,4,5,6,7,10,11,12] (dU 1 aeI) (SI xs c d i x nx n ds [(10,L m),t11]) [([],[fR m n,0+m*31+15<ds.length,(ds.getD (0+m*31+15) D.A8).kH=fF ks,jC ks,fJ (0+ks.length) 1 8=true],eu (sMw xs c d i x nx n ds ([]++eG ks) [(10,L m),t11,(12,.eZ (some (5,0)) (0+ks.length) (0+ks.length) 1)]))]:=G.W
theorem an5(d:Dc)(i:Nat)(x:eJ)(m:Nat)(nx:Int)(n:Nat)(ds:List Eng.D)(ks:List Int)(p:Nat):H (M ek []) [(180,.dG (L (i+8))),(181,.dG (xI xs (i+8))),(187,.dG (L (ks.length+1))),(188,.dG (L p))] 0 Tryz.f34 [0,1,4,5,6,7,10,11,12,13] (dU 1 aeJ) (SI xs c d i x nx n ds [(10,L m),t11,(12,fF ks)]) [([],[V.int B (IntKind.i64.wrap (Int.ofNat i+(8:Int)))=L (i+8),fR (i+8) xs.length,jC xs,V.dS (dO (eG xs) ((i+8)*1) 1)=xI xs (i+8),V.int B (IntKind.i64.wrap ((Int.ofNat ks.length)+(1:Int)))=L (ks.length+1),Int.ofNat (ks.length+1)≠(0:Int),V.int B ((IntKind.i64.wrap (Int.ofNat (BitVec.ofInt 64 ((xs.getD (i+8) (0:Int)).fdiv (16:Int))&&&BitVec.ofInt 64 (65535:Int)).toNat)).tmod (Int.ofNat (ks.length+1)))=L p],eu (SI xs c d i x nx n ds [(10,L m),t11,(12,fF ks),(13,L p)]))]:=G.W
theorem an6(d:Dc)(i:Nat)(x:eJ)(m:Nat)(nx:Int)(n:Nat)(ds:List Eng.D)(ks:List Int)(p:Nat):H (M ek []) [] 0 Tryz.f34 [0,1,4,5,6,7,11,204,206] (Ui (dI Zk)) (SI xs c d i x nx n ds [(10,L m),t11,(12,fF ks),(13,L p)]) [([],[jC ks,(0:Int)<=Int.ofNat p/\Int.ofNat p<=(Int.ofNat ks.length),(dO (eG ks) 0 ((p-0)*1)).length=(p-0)*1,fJ (0+(p-0)) 1 8=true,0+(0+(p-0))*1<=([]++dO (eG ks) 0 ((p-0)*1)).length,0<1,fJ (0+(p-0)+1) 1 8=true,jC ks,(0:Int)<=Int.ofNat p/\Int.ofNat p<=(Int.ofNat ks.length),jC ks,(0:Int)<=Int.ofNat p/\Int.ofNat p<=(Int.ofNat ks.length),jC ks,(0:Int)<=Int.ofNat p/\Int.ofNat p<=(Int.ofNat ks.length),(dO (eG ks) (p*1) ((ks.length-p)*1)).length=(ks.length-p)*1,0+(0+(p-0)+1)*1<=(List.take ((0+(p-0))*1) (List.drop 0 ([]++dO (eG ks) 0 ((p-0)*1)))++[D.int B x.id]).length,fJ (0+(p-0)+1+(ks.length-p)) 1 8=true,fR m n],eu (sMw xs c d i x nx n ds (Zl ks p x.id) [t11,(204,.eZ (some (5,0)) (0+(p-0)+1+(ks.length-p)) (0+(p-0)+1+(ks.length-p)) 1),(206,.ptr (some (4,0+m*31+15)))]))]:=G.W
theorem an7(d:Dc)(i:Nat)(x:eJ)(nx:Int)(n o:Nat)(ds:List Eng.D)(ks:List Int):H (M ek []) [] 0 Tryz.f34 [0,1,4,5,6,7,11] (IZ (dI Zk)) (SI xs c d i x nx n ds [t11,(204,fF ks),(206,.ptr (some (4,o)))]) [([],[o+1<=ds.length],eu (SI xs c d i x nx n (nC ds o [.eE ks.length (eG ks)]) [t11]))]:=G.W
theorem an8(d:Dc)(i:Nat)(x:eJ)(nx:Int)(n:Nat)(ds:List Eng.D):H (M ek []) [] 0 Tryz.f34 [0,1,4,5,6,11] (dU 1 aeK) (SI xs c d i x nx n ds [t11]) [([],[0+n*31<=ds.length,0<1,fJ (n+1) 31 328=true],eu (sMn xs c d i nx (n+1) (List.take (n*31) (List.drop 0 ds)++x.ds)))]:=G.W
def sMq(d d2:Dc)(i:Nat):St:=fB [(0,fF xs),(1,L c),(4,.ptr (some (0,0))),(5,.ptr (some (1,0))),(6,L i),(11,.ptr (some (2,0)))] (hL [(0,.cells Ai),(1,.cells d.cs),(2,.cells d2.cs)]) 3
abbrev Rg(d2:Dc):Prop:=V.jJ ([]++[V.agg (List.take 4 (List.drop 0 d2.cs))]++[])=[d2.v]
theorem an9(d d2:Dc)(i:Nat)(e a:Int):H (M (fa 39 [d2.v] (df e a) ek) []) [(216,.split)] 0 Tryz.f34 [0,1,4,5,6] (anQ) (sMq xs c d d2 i) (fP (e==(0:Int)) ([Rg d2],eu (ze xs c d2 [(6,L i)])) ([Rg d2],eu (ze xs c d [(6,L i)]))):=G.W
theorem aoa(d:Dc)(i:Nat):H (M ek []) [(46,.dG (L (i+9)))] 0 Tryz.f34 [0,1,4,5,6] (dY (dY bMz)) (ze xs c d [(6,L i)]) [([],[V.int B (IntKind.i64.wrap (Int.ofNat i+(9:Int)))=L (i+9)],eu (ze xs c d [(6,L (i+9))]))]:=G.W
theorem aob(d:Dc)(i:Nat):H (M ek []) [] 0 Tryz.f34 [] (anO) (ze xs c d [(6,L i)]) [([],[],.ret (.agg [.eE false (d.sp.length) (jy d.sp),.int .i64 (d.root),.int .i64 (d.nx),.eE false (d.ly.length) (fD d.ly)]) (hL []) 0)]:=G.W
theorem aoc(d:Dc):H (M ek []) [] 0 Tryz.f34 [0,1,4,5,6] (dI (dI Rb)) (ze xs c d []) [([],[],eu (ze xs c d [(6,L 0)]))]:=G.W
end
abbrev rdC(s:aa)(a:Nat)(f:Bool):ag:=[.str s,.int .i64 (Int.ofNat a),.bool f]
def aeL:eJ:=⟨0,0,[],false,0,0,false,z7,0,[],0,tZ,z4,[],[],false,[]⟩
def eJ.rc(y:eJ):ag:=y.cs.set 27 gh
def hR(y:eJ)(s:aa)(a:Nat)(f:Bool):I es:=hL [(0,.cells aeL.cs),(1,.cells (rdC s a f)),(2,.cells y.rc)]
noncomputable abbrev aeM:Code:=dL Tryz.f31
noncomputable abbrev aod:Code:=dA 6 aeM
def aeN(s:aa)(v:V):Prop:=(∃l,okL l/\QB l=s/\v= .gV [l.v,F 0])\/v= .gV [aeL.v,F 11]
def TR(s:aa)(c:Code)(dy:St):Prop:=∃v,aeN s v/\TG ak 0 Tryz.f31.ntmps c dy (fV ak 0 Tryz.f31 (rE v))
section
variable{dP:gJ}{hh:List (Nat×List (Nat×mj))}{dz:List (Nat×mj)}{live:List Nat}{fm:ah}{dy s1:St}{c:Code}{s:aa}
theorem TR.code{d:Code}(e:c=d)(t:TR s d dy):TR s c dy:=e▸t
end
theorem xo(a b:Nat)(c:Code):dA a (dA b c)=dA (b+a) c:=kU b a c
section
variable{s:aa}(hs:s.length<=1500000)
include hs
theorem e7:dY aod=dA 7 aeM:=by kernel_rfl
end
section
variable(cf:gm)(x:FuncId×ag×V)
noncomputable def Wn:Bool:=
 match cf x.1 x.2.1 .nil gN with
 |some (.ret u,_,_)=>V.beq u x.2.2
 |_=>false
noncomputable def I0:Bool:=(Nat.blt x.1 Tryz.prog.funcs.size&&V.tW x.2.1)&&(x.2.2.free&&Wn cf x)
end
theorem Um{cf:gm}(N:gY ak cf){x:FuncId×ag×V}(h:I0 cf x=true):FJ ak x:=by
 simp only[I0,ay,Wn]at h;obtain⟨⟨h0,h1⟩,C,h3⟩:=h;split at h3
 . rename_i u h' n' e;rw[FF _ _ h3]at e;exact⟨aE h0,h1,C,cf,h',n',N,e⟩
 . cases h3
theorem san:FJ ak (8,[],.bool true):=Um (AH (iX:=1000) mo po 60) dD
structure smL(l:eJ):Prop where
 nm:l.nm.length<=1000
 kids:l.kids.length<=1000
 eW:l.f.eW.length<=1000
 cu:l.f.cu.length<=1000
 gu:l.gu.length<=1000
theorem smL.ok{l:eJ}(h:smL l):okL l:=by
 obtain⟨h1,C,h3,h4,h5⟩:=h;exact⟨S,S,S,S,S⟩
theorem Un(s:List Int):(Qt s).length=s.length+1:=by
 unfold Qt;split<;>simp[LU]
theorem L6(s:List Int)(hs:s.length<=12):(vU s).eW.length<=1000/\(vU s).cu.length<=1000:=by
 have h1:=Qv s 1;have ht:=wA h1.1 (d:=3) eX;unfold vU
 repeat' split
 all_goals first
  |exact⟨aN _,aN _⟩
  |(refine⟨?_,aN _⟩
    rw[Qw];have:((f12 s 1).tmod 3).toNat<=2:=by omega
    have:=Nat.mul_le_mul (show 2*((f12 s 1).tmod 3).toNat+1<=5 by omega) (show 2*((f12 s 1).tmod 3).toNat+1<=5 by omega);omega)
  |(refine⟨aN _,?_⟩
    show(Qt (s.drop 1)).length<=1000;rw[Un,List.length_drop];omega)
theorem Uo(s:S8):smL (mb s):=by
 refine⟨?_,aN _,?_,?_,?_⟩
 . show(Oo s.s1).length<=1000;unfold Oo;rw[List.length_drop,aW];simp only[aR,b9];omega
 . show(if G4 s=3 then vU (l12 s)else tZ).eW.length<=1000;split
   . exact(L6 (l12 s) (aK 12)).1
   . exact aN _
 . show(if G4 s=3 then vU (l12 s)else tZ).cu.length<=1000;split
   . exact(L6 (l12 s) (aK 12)).2
   . exact aN _
 . show(if G4 s=5 then II s.s6 s.s7 (Qy s)else[]).length<=1000;split
   . unfold II Qy;rw[bG,List.length_range];have:(BitVec.ofInt 64 s.s5&&&BitVec.ofInt 64 (3:Int)).toNat<=3:=by
      rw[BitVec.toNat_and];exact Nat.and_le_right
     omega
   . exact aN _
set_option maxRecDepth 10000
section
variable(xs:List Int)(x:eJ)(ls:List eJ)(i j n:Nat)
def SJ(nx:Int):Int:=IntKind.i64.wrap (1+(an (xs.getD (i+7) 0) 65535).tmod nx)
def ru(o:Int):eJ:=if x.kd=4 then { x with of:=o }else x
def vf(o:Int):eJ:=if x.kd=1/\0<n then { x with sp:=o }else x
noncomputable def Up(d:Dc):eJ:=vf (ru { mb (Uk xs i)with id:=d.nx } (SJ xs i d.nx)) d.sp.length (an (xs.getD (i+5) 0) 1)
def kQ:List Int:=((List.range j).filter fun k=>(ls.getD k gv).kd==2).map Int.ofNat
theorem NJ:kQ ls (j+1)=if((ls.getD j gv).kd==2)=true then kQ ls j++[Int.ofNat j]else kQ ls j:=by
 unfold kQ;rw[List.range_succ,List.filter_append,bM];by_cases h:((ls.getD j gv).kd==2)=true
 . rw[aD h,List.filter_cons_of_pos (p:=fun k=>(ls.getD k gv).kd==2) h];rfl
 . rw[aA h,List.filter_cons_of_neg (p:=fun k=>(ls.getD k gv).kd==2) h];simp
theorem I1{ls:List eJ}{j:Nat}{y:Int}:y∈kQ ls j↔∃k,k<j/\(ls.getD k gv).kd=2/\y=Int.ofNat k:=by
 unfold kQ;simp only[bS,List.mem_filter,bN,cm];constructor
 . rintro⟨k,⟨h1,C⟩,rfl⟩;exact⟨k,h1,C,rfl⟩
 . rintro⟨k,h1,C,rfl⟩;exact⟨k,⟨h1,C⟩,rfl⟩
def gI:Nat:=((an (xs.getD (i+8) 0) 65535).tmod (Int.ofNat n)).toNat
def mI(d:Dc):Nat:=((kQ d.ly d.ly.length).getD (gI xs i (kQ d.ly d.ly.length).length) 0).toNat
def nxI(d:Dc):Int:=IntKind.i64.wrap (IntKind.i64.wrap (d.nx+1)+an ((xs.getD (i+8) 0).fdiv 65536) 1)
def pI:Nat:=((an ((xs.getD (i+8) 0).fdiv 16) 65535).tmod (Int.ofNat (n+1))).toNat
def xp(ks:List Int)(p:Nat)(id:Int):List Int:=ks.take p++id::ks.drop p
noncomputable def Ea(d:Dc):Dc where
 sp:=d.sp
 root:=1
 nx:=nxI xs i d
 ly:=d.ly.set (mI xs i d) { d.at (mI xs i d)with kids:=xp (d.at (mI xs i d)).kids (pI xs i (d.at (mI xs i d)).kids.length) d.nx }++[Up xs i d]
noncomputable def wC(d:Dc):Dc:=if(gS (Ea xs i d)).1=0 then Ea xs i d else d
theorem Zm(d:Dc):(Up xs i d).id=d.nx:=by
 unfold Up vf ru;split<;>split<;>rfl
end
theorem Gp{cs x:ai}{o n k:Nat}(h:dO cs o n=x)(U:k<n)(hl:x.length=n):cs.getD (o+k) Eng.D.A8=x.getD k Eng.D.A8:=by
 subst h;unfold dO at hl ⊢;rw[ax,ax,bW,aD U,bX]
theorem NK{l:List eJ}{i:Nat}(h:i<l.length):dO (fD l) (i*31) 31=(l.getD i gv).ds:=by
 rw[ax,au h];exact su (f:=eJ.ds) Ab l i h
theorem BH(a b:List eJ):fD (a++b)=fD a++fD b:=by unfold fD;rw[bM,List.flatten_append]
theorem Rh{l:List eJ}{m:Nat}(h:m<l.length)(ks:List Int):nC (fD l) (0+m*31+15) [.eE ks.length (eG ks)]=fD (l.set m { l.getD m gv with kids:=ks }):=by
 have e:l=l.take m++(l.getD m gv::l.drop (m+1)):=by
  rw[ax,au h,cq,<- bz h,List.take_append_drop]
 generalize l.getD m gv=x at e ⊢;have hl:(l.take m).length=m:=by rw[aW];omega
 generalize l.take m=a at e hl;generalize l.drop (m+1)=b at e;subst e;have e1:(a++x::b).set m { x with kids:=ks }=a++{ x with kids:=ks }::b:=by rw[List.set_append_right _ _ S];simp[hl]
 have e2:∀y:eJ,fD (a++y::b)=fD a++(y.ds++fD b):=fun y=>by rw[BH];rfl
 rw[e1,e2,e2];have hA:(fD a).length=0+m*31:=by rw[fE,hl,bB]
 generalize fD a=fm at hA ⊢;generalize fD b=aj;have:nC (fm++(x.ds++aj)) (0+m*31+15) [.eE ks.length (eG ks)]=fm++nC (x.ds++aj) 15 [.eE ks.length (eG ks)]:=by
  unfold nC;rw[<- hA,List.take_append,cj S,Nat.add_sub_cancel_left,cO];congr 3;rw[List.drop_append,List.drop_eq_nil_of_le S,bA];congr 1;omega
 rw[this];rfl
theorem Uq(ks:List Int)(p:Nat)(id:Int)(h:p<=ks.length):Zl ks p id=eG (xp ks p id)/\0+(p-0)+1+(ks.length-p)=(xp ks p id).length:=by
 constructor
 . unfold Zl xp dO eG;simp only[cP,bB,dr,bx,bA];rw[bM,bQ,dm,List.map_drop];have hl:(ks.map (Eng.D.int .i64)).length=ks.length:=bG ..;generalize ks.map (Eng.D.int .i64)=iX at hl ⊢;rw[List.take_take,Nat.min_self,cj (l:=iX.take p++[Eng.D.int .i64 id]) (by rw[aH,aW,cQ];omega),cj (l:=iX.drop p) (by rw[List.length_drop];omega),cO];rfl
 . unfold xp;rw[aH,aR,aW,List.length_drop];omega
set_option maxRecDepth 10000
structure jW(d:Dc):Prop where
 w:(iI d).1=0
 f:∀x∈d.ly,vW d.sp.length x=0
 k:∀x∈d.ly,rq d x=true
 c:∀x∈d.ly,Dk d x=false
 a:EX d.ly false
 g:kn d.ly 100 d.root<=6
theorem KS{d:Dc}(h:(gS d).1=0):jW d:=by
 unfold gS at h;by_cases hw:(iI d).1=0
 . rw[aD hw]at h;cases h1:lQ (KK d) d.ly.length with
   |some i=>
    rw[h1]at h;obtain⟨_,C,_⟩:=Ud h1;unfold KK at C;rw[bne_iff_ne]at C;exact absurd h C
   |none=>
   rw[h1]at h;cases C:lQ (BE d) d.ly.length with
   |some i=>rw[C]at h;exact absurd h (by simp only;decide)
   |none=>
   rw[C]at h;cases h3:lQ (Ae d) d.ly.length with
   |some i=>rw[h3]at h;exact absurd h (by simp only;decide)
   |none=>
   rw[h3]at h;cases h4:lQ (NI d) d.ly.length with
   |some i=>rw[h4]at h;exact absurd h (by simp only;decide)
   |none=>
   rw[h4]at h;simp only at h;split at h
   . exact absurd h (by simp only;decide)
   . rename_i h5;refine⟨hw,fun x J=>?_,fun x J=>?_,fun x J=>?_,fun x J=>?_,S⟩
     all_goals obtain⟨j,hj,rfl⟩:=Af J
     . have:=pq h1 j hj;unfold KK at this;simpa using this
     . have:=pq C j hj;unfold BE at this;simpa using this
     . exact pq h3 j hj
     . exact pq h4 j hj
 . rw[aA hw]at h;exact absurd h hw
theorem jW.big{d:Dc}(h:jW d):d.sp.length<=8/\d.ly.length<=40/\1<=d.nx/\d.nx<=1048576:=Dl (ve h.w).1
theorem jW.kids{d:Dc}(h:jW d):∀x∈d.ly,x.kids.length<=100:=fun x J=>by
 have h1:=Ac J;have C:=qP h.k;have h3:=h.big;omega
theorem jW.grp{d:Dc}(h:jW d):∃k,k<d.ly.length/\(d.at k).kd=2:=by
 have h1:=(ve h.w).2.2.2;unfold mK at h1;cases hn:jK d.ly d.root with
 |none=>rw[hn]at h1;cases h1
 |some n=>
  rw[hn]at h1;obtain⟨eY,_,_⟩:=jv hn;exact⟨n,eY,by simpa using h1⟩
structure Eb(d:Dc):Prop where
 nx1:1<=d.nx
 nx2:d.nx<=1048576
 len:d.ly.length<=40
 grp:∃k,k<d.ly.length/\(d.at k).kd=2
 kids:∀x∈d.ly,x.kids.length<=100
 fs:BF d
theorem Ri(s:S8):uq (mb s):=by
 have h:=Uo s;have h1:=h.nm;have C:=h.kids;have h3:=h.eW;have h4:=h.cu;have h5:=h.gu;refine⟨S,S,S,S,S,?_,?_⟩
 . show(if G4 s=1 then n7 [s.s4,s.s5,s.s6,s.s7,s.s2]else[]).length<=1000000;split
   . exact bH (xj _) eX
   . exact aN _
 . show(if an s.s3 192=64 then n7 [s.s3,s.s4,s.s5]else[]).length<=1000000;split
   . exact bH (xj _) eX
   . exact aN _
section
variable(xs:List Int)(i:Nat)
theorem Zn(d:Dc):uq (Up xs i d)/\(Up xs i d).kids=[]:=by
 have h:=Ri (Uk xs i);have k:(mb (Uk xs i)).kids=[]:=rfl;unfold Up;generalize mb (Uk xs i)=y at h k;unfold vf ru;obtain⟨h1,C,h3,h4,h5,h6,h7⟩:=h;split<;>split<;>exact⟨⟨h1,C,h3,h4,h5,h6,h7⟩,k⟩
theorem Wp{xs:List Int}{i:Nat}{d:Dc}(h:∃k,k<d.ly.length/\(d.at k).kd=2):gI xs i (kQ d.ly d.ly.length).length<(kQ d.ly d.ly.length).length/\mI xs i d<d.ly.length/\(kQ d.ly d.ly.length).getD (gI xs i (kQ d.ly d.ly.length).length) 0=Int.ofNat (mI xs i d):=by
 obtain⟨k,U,hk2⟩:=h;have K:Int.ofNat k∈kQ d.ly d.ly.length:=I1.2 ⟨k,U,hk2,rfl⟩;have hl:0<(kQ d.ly d.ly.length).length:=List.length_pos_of_mem K;have hg:gI xs i (kQ d.ly d.ly.length).length<(kQ d.ly d.ly.length).length:=by
  unfold gI;have:=wA (show 0<=an (xs.getD (i+8) 0) 65535 from(AP (xs.getD (i+8) 0) 65535 eX).1) (d:=Int.ofNat (kQ d.ly d.ly.length).length) (by simp only[gB];omega);simp only[gB]at this ⊢;omega
 have FR:(kQ d.ly d.ly.length).getD (gI xs i (kQ d.ly d.ly.length).length) 0∈kQ d.ly d.ly.length:=by
  rw[ax,au hg];exact bJ hg
 obtain⟨j,hj,_,e⟩:=I1.1 FR;have e2:mI xs i d=j:=by unfold mI;rw[e];rfl
 exact⟨hg,S,by rw[e,e2]⟩
theorem aeR(n:Nat):pI xs i n<=n:=by
 unfold pI;have:=wA (show 0<=an ((xs.getD (i+8) 0).fdiv 16) 65535 from(AP ((xs.getD (i+8) 0).fdiv 16) 65535 eX).1) (d:=Int.ofNat (n+1)) (by simp only[gB];omega);simp only[gB]at this ⊢;omega
theorem I2(ks:List Int)(p:Nat)(id:Int):(xp ks p id).length=ks.length+1:=by
 unfold xp;rw[aH,aR,aW,List.length_drop];omega
theorem L7{d:Dc}(h:Eb d):BF (Ea xs i d):=by
 have hl:∀x∈(Ea xs i d).ly,uq x:=fun x J=>by
  rcases bf.1 J with q|q
  . rcases List.mem_or_eq_of_mem_set q with q|q
    . exact h.fs.y x q
    . subst q;obtain⟨h1,C,h3,h4,h5,h6,h7⟩:=h.fs.at (mI xs i d);refine⟨h1,?_,h3,h4,h5,h6,h7⟩;show(xp _ _ _).length<=1000000;rw[I2];have:=KL (d:=d) (p:=fun x=>x.kids.length<=100) (aN _) h.kids (mI xs i d);omega
  . rw[aG]at q;subst q;exact(Zn xs i d).1
 refine⟨⟨?_,fun x J=>(hl x J).kids⟩,h.fs.s,hl⟩;show(List.length (_++_))<=1000000;rw[aH,List.length_set];have:=h.len;simp only[aR,b9];omega
theorem NM{d:Dc}(h:Eb d):Eb (wC xs i d):=by
 unfold wC;split
 . rename_i N;have k:=KS N;obtain⟨_,k1,k2,k3⟩:=k.big;exact⟨k2,k3,k1,k.grp,k.kids,L7 xs i h⟩
 . exact h
end
set_option maxRecDepth 10000
section
variable{xs:List Int}{i:Nat}
theorem vg(h:i<xs.length):∀a∈Ul xs i,a:=A (iT h) (A (eK xs) (eM (gi h)))
theorem rz{k:Nat}(h:i+k<=9000000000000000000):Wm i k:=aI (V.int .i64) (by rw[show Int.ofNat i+Int.ofNat k=Int.ofNat (i+k)from rfl];exact ij (by simp only[gB];omega) (by simp only[gB];omega))
theorem l7{fm aj:ah}(h1:∀a∈fm,a)(C:∀a∈aj,a):∀a∈fm++aj,a:=fun a ha=>(bf.1 ha).elim (h1 a) (C a)
theorem Zo(h:i+9<=xs.length)(J:i<=1000000):∀a∈r8A xs i,a:=by
 refine l7 (vg S) (A (rz S) (l7 (vg S) (A (rz S) (l7 (vg S) (A (rz S) (l7 (vg S) (A (rz S) (l7 (vg S) (A (rz S) (l7 (vg S) (A (rz S) (l7 (vg S) (A (rz S) (l7 (vg S) (eM rfl)))))))))))))))
end
def sMe(xs:List Int)(c:Nat)(d:Dc)(i:Nat)(x:eJ)(r:List (Nat×V)):List Int->St
 | []=>KP xs c d i x r
 |y::l=>KQ xs c d i x (y::l) r
theorem lY.DJ{X hc:Nat}{s dy:St}(ms live:List Nat){fm:ah}(e:DJ X ms live s=some (fm,dy))(hA:∀x∈fm,x):lY X hc s dy:=by
 unfold YtmjggdmekboefaaGreat.DJ at e;split at e
 case h_2=>cases e
 rename_i A1 s1 h1;split at e
 case h_2=>cases e
 rename_i S1 C;obtain⟨rfl,rfl⟩:=gl e;exact(lY.fz ms h1 hA).trans (lY.norm C)
theorem EZ{ks:List Int}{a b:Nat}(h:a+b<=ks.length):(dO (eG ks) a b).length=b:=by
 unfold dO;rw[aW,List.length_drop,eK];omega
section
variable(xs:List Int)(c:Nat)
theorem aog(d:Dc)(i:Nat)(x:eJ)(Ue:Up xs i d=x)(hd:Eb d)(hi:i+9<=xs.length)(J:i<=1000000){hm:Exit->St->Prop}(hK:∀R,ew ak 0 Tryz.f34.ntmps R (ze xs c (wC xs i d) [(6,L i)])->hm .normal R):TG ak 0 Tryz.f34.ntmps Zj (Jw xs c d i x [(8,fF (kQ d.ly d.ly.length))]) hm:=by
 have hr:=(⟨iT (show i+8<xs.length by omega),eK xs,gi (show i+8<xs.length by omega)⟩:((0:Int)<=Int.ofNat (i+8)/\Int.ofNat (i+8)<Int.ofNat xs.length)/\(eG xs).length=xs.length*1/\V.dS (dO (eG xs) ((i+8)*1) 1)=xI xs (i+8));have hw:=rz (i:=i) (k:=8) S;obtain⟨hg,K,TJ⟩:=Wp (xs:=xs) (i:=i) hd.grp;have DD:0<(kQ d.ly d.ly.length).length:=by omega
 have hgl:(kQ d.ly d.ly.length).length<=40:=by
  have h1:(kQ d.ly d.ly.length).length<=d.ly.length:=by
   unfold kQ;rw[bG];exact bH (List.length_filter_le ..) (by rw[List.length_range];exact aK _)
  have:=hd.len;omega
 have hgi:(an (xs.getD (i+8) 0) 65535).tmod (Int.ofNat (kQ d.ly d.ly.length).length)=Int.ofNat (gI xs i (kQ d.ly d.ly.length).length):=by
  unfold gI;have:=wA (show 0<=an (xs.getD (i+8) 0) 65535 from(AP (xs.getD (i+8) 0) 65535 eX).1) (d:=Int.ofNat (kQ d.ly d.ly.length).length) (by simp only[gB];omega);exact(cS this.1).symm
 have Zp:(an ((xs.getD (i+8) 0).fdiv 16) 65535).tmod (Int.ofNat ((d.at (mI xs i d)).kids.length+1))=Int.ofNat (pI xs i (d.at (mI xs i d)).kids.length):=by
  unfold pI;have:=wA (show 0<=an ((xs.getD (i+8) 0).fdiv 16) 65535 from(AP ((xs.getD (i+8) 0).fdiv 16) 65535 eX).1) (d:=Int.ofNat ((d.at (mI xs i d)).kids.length+1)) (by simp only[gB];omega);exact(cS this.1).symm
 have hp:=aeR xs i (d.at (mI xs i d)).kids.length;have hkl:=KL (d:=d) (p:=fun x=>x.kids.length<=100) (aN _) hd.kids (mI xs i d);have jl:=hd.len;have ot:=gi hg;rw[TJ]at ot;have HV:((fD d.ly).getD (0+mI xs i d*31+15) Eng.D.A8).kH=fF (d.at (mI xs i d)).kids:=by
  rw[bB,Gp (NK K) eX (Ab _)];rfl
 have qV:Ea xs i d={ sp:=d.sp,root:=1,nx:=nxI xs i d,ly:=d.ly.set (mI xs i d) { d.at (mI xs i d)with kids:=xp (d.at (mI xs i d)).kids (pI xs i (d.at (mI xs i d)).kids.length) d.nx }++[x] }:=by unfold Ea;rw[Ue]
 have G1:=Rh K (xp (d.at (mI xs i d)).kids (pI xs i (d.at (mI xs i d)).kids.length) d.nx);have aoh:x.id=d.nx:=by rw[<- Ue];exact Zm xs i d
 have hC:=Q7 (Ea xs i d) (L7 xs i hd);have vt:wC xs i d=if(gS (Ea xs i d)).1=0 then Ea xs i d else d:=rfl
 change nC _ _ _=fD (d.ly.set (mI xs i d) { d.at (mI xs i d)with kids:=_ })at G1;generalize hN:Ea xs i d=hc at qV hC vt;refine fH 1 (be _) (an2 xs c d i x _ _ (mI xs i d)) (A hw (A hr.1 (A hr.2.1 (A hr.2.2 (A (by simp only[gB];omega) (A (aI (V.int .i64) hgi) (A (iT hg) (A (eK _) (eM ot))))))))) ?_;have hi9:=an3 xs c d i x (mI xs i d) (nxI xs i d);rw[bB,bA]at hi9;refine fH 1 (be _) hi9 (A hw (A hr.1 (A hr.2.1 (A hr.2.2 (A rfl (A (fE _) (eM (aT S))))))) ) ?_;generalize nxI xs i d=nx at qV ⊢;generalize mI xs i d=m at *;generalize hke:(d.at m).kids=ks at *;generalize pI xs i ks.length=p at *;refine fH 1 (be _) (an4 xs c d i x m nx d.ly.length (fD d.ly) ks) (A (iT K) (A (by rw[fE];omega) (A HV (A (eK _) (eM (LZ S)))))) ?_;rw[bB,bA];refine ew.DJ [5] [0,1,4,5,6,7,10,11,12] (dy:=SI xs c d i x nx d.ly.length (fD d.ly) [(10,L m),t11,(12,fF ks)]) (fm:=[(eG ks).length=ks.length*1]) dD (eM (eK _)) _ _ ?_;refine fH 1 (be _) (an5 xs c d i x m nx d.ly.length (fD d.ly) ks p) (A hw (A hr.1 (A hr.2.1 (A hr.2.2 (A (gK S) (A (by simp only[gB];omega) (eM (aI (V.int .i64) Zp)))))))) ?_;obtain⟨L1,SC⟩:=an6 xs c d i x m nx d.ly.length (fD d.ly) ks p;obtain⟨L2,Ph⟩:=an7 xs c d i x nx d.ly.length (0+m*31+15) (fD d.ly) (xp ks p x.id);obtain⟨pk1,pk2⟩:=Uq ks p x.id hp;rw[pk1,pk2]at SC;rw[aoh]at SC Ph;refine dM dD (Zi (XH (be _) []) (XH (be _) []) mo dD SC ?_ (lY.DJ [5] [0,1,4,5,6,7,11,204,206] (dy:=SI xs c d i x nx d.ly.length (fD d.ly) [t11,(204,fF (xp ks p d.nx)),(206,.ptr (some (4,0+m*31+15)))]) (fm:=[(eG (xp ks p d.nx)).length=(xp ks p d.nx).length*1]) dD (eM (eK _))) Ph (dF (g0 ⟨eM (by rw[fE];omega),_,rfl,fun R dX=>?_⟩)))
 . have b:(0:Int)<=Int.ofNat p/\Int.ofNat p<=Int.ofNat ks.length:=⟨bO _,by simp only[gB];omega⟩;have c1:(dO (eG ks) 0 ((p-0)*1)).length=(p-0)*1:=EZ S;refine A (eK _) (A b (A c1 (A (LZ S) (A (by rw[bA,c1];omega) (A eX (A (LZ S) (A (eK _) (A b (A (eK _) (A b (A (eK _) (A b (A (EZ S) (A ?_ (A (LZ (by rw[I2];omega)) (eM (iT K)))))))))))))))));rw[aH,aW,bx,bA,c1,cQ];omega
 simp only[andThen];rw[G1]at dX;refine fQ dX ?_;generalize AS:d.ly.set m { d.at m with kids:=xp ks p d.nx }=ls at qV ⊢;have hll:ls.length=d.ly.length:=by rw[<- AS,List.length_set]
 have hn8:=an8 xs c d i x nx d.ly.length (fD ls);have e8:List.take (d.ly.length*31) (List.drop 0 (fD ls))++x.ds=fD (ls++[x]):=by
  rw[bx,cj (by rw[fE,hll];exact aK _),BH];congr 1
 have e9:d.ly.length+1=(ls++[x]).length:=by rw[aH,hll];rfl
 rw[e8,e9]at hn8;refine fH 1 (be _) hn8 (A (by rw[fE,hll];omega) (A eX (eM (aT (by rw[<- e9];omega))))) ?_;refine ew.DJ [3] [0,1,4,5,6,11] (dy:=sMq xs c d hc i) (fm:=[(fD (ls++[x])).length=(ls++[x]).length*31]) (by rw[qV];kernel_rfl) (eM (fE _)) _ _ ?_;refine gk (fk hC (be _)) eI (an9 xs c d hc i (gS hc).1 (gS hc).2) (dJ (g1 fun h=>⟨eM rfl,fun R dX=>hK R ?_⟩) (dF (g1 fun h=>⟨eM rfl,fun R dX=>hK R ?_⟩)))
 . rw[vt,aD (by simpa using h)];exact ew.norm dX
 . rw[vt,aA (by simpa using h)];exact ew.norm dX
theorem aoi(d:Dc)(i:Nat)(x:eJ)(Ue:Up xs i d=x)(hd:Eb d)(hi:i+9<=xs.length)(J:i<=1000000){hm:Exit->St->Prop}(hK:∀R,ew ak 0 Tryz.f34.ntmps R (ze xs c (wC xs i d) [(6,L i)])->hm .normal R):TG ak 0 Tryz.f34.ntmps (dA 4 Ah) (Jw xs c d i x []) hm:=by
 refine fH 1 (be _) (anY xs c d i x) all_nil ?_;rw[show dA 1 (dA 4 Ah)=Rc from by kernel_rfl];refine dM dD (dM dD (gk (be _) eI (anZ xs c d i x) (dF (g0 ⟨all_nil,fun R dX=>?_⟩))));simp only[andThen];have jl:=hd.len;refine iz 2 d.ly.length (fun j=>sMe xs c d i x [(9,L j)] (kQ d.ly j)) (fun _=>false) (ew.norm dX) (fun j hj _ Q' k1 k2 k3=>?_) (fun _ R dX=>?_)
 . have hA:=fun(h:(decide (Int.ofNat j<Int.ofNat d.ly.length))=true)=>(⟨iT (j9 h),fE d.ly,iu (j9 h)⟩:((0:Int)<=Int.ofNat j/\Int.ofNat j<Int.ofNat d.ly.length)/\(fD d.ly).length=d.ly.length*31/\V.dS (dO (fD d.ly) (j*31) 31)= .dS (d.at j).ds);have hs:kQ d.ly (j+1)=if((d.at j).kd==2)=true then kQ d.ly j++[Int.ofNat j]else kQ d.ly j:=NJ d.ly j
   have hgl:(kQ d.ly j).length<=40:=by
    unfold kQ;rw[bG];exact bH (List.length_filter_le ..) (by rw[List.length_range];omega)
   have Pf:∀l,kQ d.ly j=l->∀R,ew ak 0 Tryz.f34.ntmps R (sMe xs c d i x [(9,L j)] l)->ew ak 0 Tryz.f34.ntmps R (sMe xs c d i x [(9,L j)] (kQ d.ly j)):=fun l e R h=>e▸h;generalize hgq:kQ d.ly j=l at hs hgl ⊢;cases l with
   |nil=>
    refine gk (be _) eI (an0 xs c d i x (d.at j) j) (dJ (g2 fun h1 C=>?_) (dJ (g2 fun h1 C=>?_) (dF (g1 fun h1=>⟨all_nil,fun R dX=>k2 (by have:=qZ h1;omega) R (Pf _ hgq R (ew.norm dX))⟩))))
    . obtain⟨a1,a2,a3⟩:=hA h1;refine⟨A a1 (A a2 (A a3 (eM (gK (by have:=j9 h1;omega))))),fun R dX=>k1 (j9 h1) rfl R ?_⟩;rw[hs,aD C];exact(ew.norm dX).trans (ew.own [(3,.i64)] (dy:=KQ xs c d i x [Int.ofNat j] [(9,L (j+1))]) dD)
    . obtain⟨a1,a2,a3⟩:=hA h1;refine⟨A a1 (A a2 (A a3 (eM (gK (by have:=j9 h1;omega))))),fun R dX=>k1 (j9 h1) rfl R ?_⟩;rw[hs,aA (show ¬((d.at j).kd==2)=true by rw[C];decide)];exact ew.norm dX
   |cons y l=>
    have hp:0<(y::l).length:=by simp only[aR];omega
    refine gk (be _) eI (an1 xs c d i x (d.at j) (y::l) j) (dJ (g2 fun h1 C=>?_) (dJ (g2 fun h1 C=>?_) (dF (g1 fun h1=>⟨all_nil,fun R dX=>k2 (by have:=qZ h1;omega) R (Pf _ hgq R (ew.norm dX))⟩))))
    . obtain⟨a1,a2,a3⟩:=hA h1;refine⟨A a1 (A a2 (A a3 (A hp (A S (A eX (A (LZ S) (eM (gK (by have:=j9 h1;omega))))))))),fun R dX=>k1 (j9 h1) rfl R ?_⟩;rw[hs,aD C];have e:sMg xs c d i x (y::l) j [(9,L (j+1))]=KQ xs c d i x (y::l++[Int.ofNat j]) [(9,L (j+1))]:=by
       unfold sMg KQ;rw[bx,cP,bn,aH];rfl
      rw[e]at dX;exact ew.norm dX
    . obtain⟨a1,a2,a3⟩:=hA h1;refine⟨A a1 (A a2 (A a3 (eM (gK (by have:=j9 h1;omega))))),fun R dX=>k1 (j9 h1) rfl R ?_⟩;rw[hs,aA (show ¬((d.at j).kd==2)=true by rw[C];decide)];exact ew.norm dX
 simp only[andThen];refine dX _ _ ?_;have K:=Wp (xs:=xs) (i:=i) hd.grp;have N:=aog xs c d i x Ue hd hi J hK;generalize kQ d.ly d.ly.length=l at K N ⊢;cases l with
 |nil=>exact absurd K.1 (bL _)
 |cons y l=>exact ew.DJ [3] [0,1,4,5,6,7,8] (dy:=Jw xs c d i x [(8,fF (y::l))]) (fm:=[(eG (y::l)).length=(y::l).length*1]) dD (eM (eK _)) _ _ N
theorem Rj(d:Dc)(i:Nat)(hd:Eb d)(hi:i+9<=xs.length)(J:i<=1000000){hm:Exit->St->Prop}(hK:∀R,ew ak 0 Tryz.f34.ntmps R (ze xs c (wC xs i d) [(6,L i)])->hm .normal R):TG ak 0 Tryz.f34.ntmps Ah (ze xs c d [(6,L i)]) hm:=by
 have hr:=fun k (U:k<=8)=>(⟨iT (show i+k<xs.length by omega),eK xs,gi (show i+k<xs.length by omega)⟩:((0:Int)<=Int.ofNat (i+k)/\Int.ofNat (i+k)<Int.ofNat xs.length)/\(eG xs).length=xs.length*1/\V.dS (dO (eG xs) ((i+k)*1) 1)=xI xs (i+k));have hw:=fun k (U:k<=8)=>rz (i:=i) (k:=k) S;refine fH 2 (fk (ak9 (Uk xs i)) (be _)) (anV xs c d i (mb (Uk xs i))) (Zo hi J) ?_;have hnx:d.nx≠0:=by have:=hd.nx1;omega
 generalize VH:({ mb (Uk xs i)with id:=d.nx }:eJ)=x1;refine dM dD ?_;have A7:∀a∈[V.int .i64 (IntKind.i64.wrap (Int.ofNat i+(7:Int)))=L (i+7),(0:Int)<=Int.ofNat (i+7)/\Int.ofNat (i+7)<Int.ofNat xs.length,(eG xs).length=xs.length*1,V.dS (dO (eG xs) ((i+7)*1) 1)=xI xs (i+7),d.nx≠(0:Int),V.int .i64 (SJ xs i d.nx)=F (SJ xs i d.nx)],a:=A (hw 7 S) (A (hr 7 S).1 (A (hr 7 S).2.1 (A (hr 7 S).2.2 (A hnx (eM rfl)))));have s1:TG ak 0 Tryz.f34.ntmps (dA 3 Ah) (Jw xs c d i (ru x1 (SJ xs i d.nx)) []) hm:=by
  have A5:∀a∈[V.int .i64 (IntKind.i64.wrap (Int.ofNat i+(5:Int)))=L (i+5),(0:Int)<=Int.ofNat (i+5)/\Int.ofNat (i+5)<Int.ofNat xs.length,(eG xs).length=xs.length*1,V.dS (dO (eG xs) ((i+5)*1) 1)=xI xs (i+5),V.int .i64 (an (xs.getD (i+5) 0) 1)=F (an (xs.getD (i+5) 0) 1)],a:=A (hw 5 S) (A (hr 5 S).1 (A (hr 5 S).2.1 (A (hr 5 S).2.2 (eM rfl))));have Ue:Up xs i d=vf (ru x1 (SJ xs i d.nx)) d.sp.length (an (xs.getD (i+5) 0) 1):=by rw[<- VH];rfl
  have Y:=aoi xs c d i _ Ue hd hi J hK;generalize ru x1 (SJ xs i d.nx)=x2 at Y;have Aw:¬(x2.kd=1/\0<d.sp.length)->TG ak 0 Tryz.f34.ntmps (dA 4 Ah) (Jw xs c d i x2 []) hm:=fun h=>by
   have e:vf x2 d.sp.length (an (xs.getD (i+5) 0) 1)=x2:=by unfold vf;rw[aA h]
   rw[e]at Y;exact Y
  rw[show dA 3 Ah= .seq (dI (dA 3 Ah)) (dA 4 Ah)from by kernel_rfl];refine Kf (gk (be _) eI (anX xs c d i x2 (an (xs.getD (i+5) 0) 1)) (dJ (g2 fun h1 C=>⟨A5,fun R dX=>?_⟩) (dJ (g2 fun h1 C=>⟨all_nil,fun R dX=>?_⟩) (dF (g1 fun h1=>⟨all_nil,fun R dX=>?_⟩)))))
  . simp only[andThen];refine fQ dX ?_;have e:vf x2 d.sp.length (an (xs.getD (i+5) 0) 1)={ x2 with sp:=an (xs.getD (i+5) 0) 1 }:=by unfold vf;rw[aD ⟨by simpa using h1,by have:=aX C;simp only[gB]at this;omega⟩]
    rw[e]at Y;exact Y
  . simp only[andThen];refine fQ dX (Aw fun q=>?_);have:=bq C;simp only[gB]at this;omega
  . simp only[andThen];refine fQ dX (Aw fun q=>?_);rw[q.1]at h1;cases h1
 refine gk (be _) eI (anW xs c d i x1 (SJ xs i d.nx)) (dJ (g1 fun h=>⟨A7,fun R dX=>?_⟩) (dF (g1 fun h=>⟨all_nil,fun R dX=>?_⟩)))
 . simp only[andThen];refine fQ dX ?_;have e:ru x1 (SJ xs i d.nx)={ x1 with of:=SJ xs i d.nx }:=by unfold ru;rw[aD (by simpa using h)]
   rw[<- e];exact s1
 . simp only[andThen];refine fQ dX ?_;have e:ru x1 (SJ xs i d.nx)=x1:=by unfold ru;rw[aA (by simpa using h)]
   rw[e]at s1;exact s1
end
set_option maxRecDepth 10000
theorem aoj:H (M ek []) [] 0 Tryz.f80 [] (dL Tryz.f80) (dB [] .nil 0) [([],[],.ret (.agg [.eZ none 0 0 0,.int .i64 1,.int .i64 2,.eZ (some (0,0)) 1 1 31]) (hL [(0,.cells [.int .i64 1,.int .i64 2,.str [],.bool false,.int .i64 255,.int .i64 0,.bool false,.int .i64 0,.int .i64 0,.int .i64 0,.int .i64 0,.int .i64 0,.int .i64 0,.int .i64 0,.int .i64 0,.eZ none 0 0 0,.int .i64 0,.int .i64 0,.int .i64 0,.eZ none 0 0 0,.int .i64 0,.int .i64 0,.eZ none 0 0 0,.int .u8 0,.int .u8 0,.int .u8 0,.int .u8 0,.eZ none 0 0 0,.eZ none 0 0 0,.bool false,.eZ none 0 0 0])]) 1)]:=G.W
theorem aok:H (M ek []) [] 0 Tryz.f112 [] (dL Tryz.f112) (dB [] .nil 0) [([],[],.ret (.agg [.eZ (some (0,0)) 2 2 1,.eZ (some (0,0)) 2 2 1,.eZ (some (0,0)) 2 2 1,.int .i64 4096,.int .i64 0,.int .i64 0,.int .i64 0,.int .i64 4096,.int .i64 0,.int .i64 0,.int .i64 0,.int .i64 4096,.int .i64 4096,.int .i64 0,.int .i64 0,.int .i64 0,.int .i64 4096,.int .i64 0,.int .i64 0,.int .i64 0,.int .i64 4096]) (hL [(0,.cells [.int .i64 0,.int .i64 65535])]) 1)]:=G.W
section
variable(k:Int)(q:Nat)(s:Sp)(a:Int)
theorem aol:H (M ek []) [(6,.split),(9,.split),(12,.split)] 0 Tryz.f113 [] (dL Tryz.f113) (dB [F k] .nil 0) (XT (IntKind.i64.wrap (Int.ofNat (BitVec.ofInt 64 k&&&BitVec.ofInt 64 (3:Int)).toNat)==(1:Int)) (IntKind.i64.wrap (Int.ofNat (BitVec.ofInt 64 k&&&BitVec.ofInt 64 (3:Int)).toNat)==(2:Int)) (IntKind.i64.wrap (Int.ofNat (BitVec.ofInt 64 k&&&BitVec.ofInt 64 (3:Int)).toNat)==(3:Int)) ([],.ret (.eZ (some (0,0)) 5 5 1) (hL [(0,.cells [.int .i64 0,.int .i64 4096,.int .i64 16384,.int .i64 36864,.int .i64 65535])]) 1) ([],.ret (.eZ (some (0,0)) 3 3 1) (hL [(0,.cells [.int .i64 0,.int .i64 40000,.int .i64 65535])]) 1) ([],.ret (.eZ (some (0,0)) 5 5 1) (hL [(0,.cells [.int .i64 100,.int .i64 100,.int .i64 30000,.int .i64 30000,.int .i64 65000])]) 1) ([],.ret (.eZ (some (0,0)) 2 2 1) (hL [(0,.cells [.int .i64 0,.int .i64 65535])]) 1)):=G.W
def sp1:Sp:=⟨[0,65535],[0,65535],[0,65535],⟨4096,0,0,0,4096,0,0,0,4096⟩,⟨4096,0,0,0,4096,0,0,0,4096⟩⟩
noncomputable abbrev aeS:Code:=dL Tryz.f81
noncomputable abbrev Zq:Code:=dA 7 aeS
noncomputable abbrev bSp:Code:=dK (dK (dY (dI Zq)))
def zSp:ag:=[gh,gh,gh]++D.fU ((⟨0,0,0,0,0,0,0,0,0⟩:M9).ds++(⟨0,0,0,0,0,0,0,0,0⟩:M9).ds)
def NN(r:List (Nat×V)):St:=fB ([(0,L q),(2,.ptr (some (0,0))),(3,.ptr (some (1,0)))]++r) (hL [(0,.cells zSp),(1,.cells (D.fU s.ds))]) 2
def mT:Nat->M9
 |0=>⟨4096,0,0,0,4096,0,0,0,4096⟩
 |1=>⟨0,4096,0,0,0,4096,4096,0,0⟩
 |2=>⟨2048,0,0,0,8192,0,0,0,4096⟩
 |_=>⟨4096,2048,0,0,4096,0,0,1024,4096⟩
def mF:Nat->M9
 |0=>⟨4096,0,0,0,4096,0,0,0,4096⟩
 |1=>⟨0,0,4096,4096,0,0,0,4096,0⟩
 |2=>⟨8192,0,0,0,2048,0,0,0,4096⟩
 |_=>⟨4096,-2048,0,0,4096,0,0,-1024,4096⟩
def sp4(r:Nat):Sp:=⟨[0,65535],[0,65535],[0,65535],mT r,mF r⟩
abbrev n4(i:Nat):Prop:=(0:Int)<=Int.ofNat i/\Int.ofNat i<4
theorem aon:∀r,r<4->H (M (fa 112 [] sp1.v ek) []) [(10,.dG (L q)),(25,.dG (L r)),(30,.dG (L r))] 0 Tryz.f81 [0,2,3] (dU 7 aeS) (dB [F k] .nil 0)
  [([],[V.int .i64 ((IntKind.i64.wrap (k.tmod (256:Int)+(256:Int))).tmod (256:Int))=L q,fu [],V.int .i64 ((Int.ofNat q).tmod (4:Int))=L r,n4 r,V.int .i64 ((Int.ofNat q).tmod (4:Int))=L r,n4 r],.to .normal (NN q (sp4 r) []))]:=by
 intro r hr;obtain rfl|rfl|rfl|rfl:r=0\/r=1\/r=2\/r=3:=by omega
 all_goals exact G.W
theorem aoo:H (M ek []) [] 0 Tryz.f81 [0,2,3,6] (dI (dI Zq)) (NN q s []) [([],[],eu (NN q s [(6,L 0)]))]:=G.W
theorem aop(l:List Int):H (M (fa 113 [F a] (fF l) ek) []) [(43,.dG (F a))] 0 Tryz.f81 [0,2,3,6] (bSp) (NN q s [(6,L 0)]) [([],[(4:Int)≠(0:Int),V.int B ((IntKind.i64.wrap ((Int.ofNat q).tdiv (4:Int))).fdiv (1:Int))=F a,V.jJ ([]++[F a]++[])=[F a],(0:Int)<=(0:Int)/\(0:Int)<(3:Int)],eu (NN q { s with c0:=l } [(6,L 1)]))]:=G.W
theorem aoq(l:List Int):H (M (fa 113 [F a] (fF l) ek) []) [(43,.dG (F a))] 0 Tryz.f81 [0,2,3,6] (bSp) (NN q s [(6,L 1)]) [([],[(4:Int)≠(0:Int),V.int B ((IntKind.i64.wrap ((Int.ofNat q).tdiv (4:Int))).fdiv (4:Int))=F a,V.jJ ([]++[F a]++[])=[F a],(0:Int)<=(1:Int)/\(1:Int)<(3:Int)],eu (NN q { s with c1:=l } [(6,L 2)]))]:=G.W
theorem aor(l:List Int):H (M (fa 113 [F a] (fF l) ek) []) [(43,.dG (F a))] 0 Tryz.f81 [0,2,3,6] (bSp) (NN q s [(6,L 2)]) [([],[(4:Int)≠(0:Int),V.int B ((IntKind.i64.wrap ((Int.ofNat q).tdiv (4:Int))).fdiv (16:Int))=F a,V.jJ ([]++[F a]++[])=[F a],(0:Int)<=(2:Int)/\(2:Int)<(3:Int)],eu (NN q { s with c2:=l } [(6,L 3)]))]:=G.W
theorem aos:H (M ek []) [] 0 Tryz.f81 [0,2,3,6] (bSp) (NN q s [(6,L 3)]) [([],[],.to (.exit 0) (NN q s [(6,L 3)]))]:=G.W
theorem aot:H (M ek []) [] 0 Tryz.f81 [] (dY Zq) (NN q s [(6,L 3)]) [([],[],.ret (.agg [.eE false (s.c0.length) (eG s.c0),.eE false (s.c1.length) (eG s.c1),.eE false (s.c2.length) (eG s.c2),.int .i64 (s.to.a),.int .i64 (s.to.b),.int .i64 (s.to.c),.int .i64 (s.to.d),.int .i64 (s.to.e),.int .i64 (s.to.f),.int .i64 (s.to.g),.int .i64 (s.to.h),.int .i64 (s.to.i),.int .i64 (s.T.a),.int .i64 (s.T.b),.int .i64 (s.T.c),.int .i64 (s.T.d),.int .i64 (s.T.e),.int .i64 (s.T.f),.int .i64 (s.T.g),.int .i64 (s.T.h),.int .i64 (s.T.i)]) (hL []) 0)]:=G.W
end
set_option maxRecDepth 10000
section
variable(k:Int)
def zf:List Int:=if an k 3=1 then[0,4096,16384,36864,65535]else if an k 3=2 then[0,40000,65535]else if an k 3=3 then[100,100,30000,30000,65000]else[0,65535]
theorem Gq{x k:Int}(h:(x==k)=false):¬x=k:=fun e=>by rw[Bj.2 e]at h;cases h
theorem cuD:dV ak 113 [F k] (fF (zf k)):=by
 refine mJ Tryz.func113 (eR (be _) (aol k) (dJ (g1 fun h1=>⟨all_nil,_,_,_,rfl,?_⟩) (dJ (g2 fun h1 C=>⟨all_nil,_,_,_,rfl,?_⟩) (dJ (g3 fun h1 C h3=>⟨all_nil,_,_,_,rfl,?_⟩) (dF (g3 fun h1 C h3=>⟨all_nil,_,_,_,rfl,?_⟩))))))
 . have e:zf k=[0,4096,16384,36864,65535]:=by unfold zf;rw[aD (show an k 3=1 from Bj.1 h1)]
   rw[e];exact .Bi (v0:=fF [0,4096,16384,36864,65535]) [0] (fm:=[(eG [0,4096,16384,36864,65535]).length=5*1]) dD (eM rfl) dD dD
 . have e:zf k=[0,40000,65535]:=by unfold zf;rw[aA (show ¬an k 3=1 from Gq h1),aD (show an k 3=2 from Bj.1 C)]
   rw[e];exact .Bi (v0:=fF [0,40000,65535]) [0] (fm:=[(eG [0,40000,65535]).length=3*1]) dD (eM rfl) dD dD
 . have e:zf k=[100,100,30000,30000,65000]:=by unfold zf;rw[aA (show ¬an k 3=1 from Gq h1),aA (show ¬an k 3=2 from Gq C),aD (show an k 3=3 from Bj.1 h3)]
   rw[e];exact .Bi (v0:=fF [100,100,30000,30000,65000]) [0] (fm:=[(eG [100,100,30000,30000,65000]).length=5*1]) dD (eM rfl) dD dD
 . have e:zf k=[0,65535]:=by unfold zf;rw[aA (show ¬an k 3=1 from Gq h1),aA (show ¬an k 3=2 from Gq C),aA (show ¬an k 3=3 from Gq h3)]
   rw[e];exact .Bi (v0:=fF [0,65535]) [0] (fm:=[(eG [0,65535]).length=2*1]) dD (eM rfl) dD dD
theorem aov:dV ak 112 [] sp1.v:=
 mJ Tryz.func112 (eR (be _) aok (dF (g0 ⟨all_nil,_,_,_,rfl,.Bi (v0:=sp1.v) [0] (fm:=[(eG [0,65535]).length=2*1,(eG [0,65535]).length=2*1,(eG [0,65535]).length=2*1]) dD (A rfl (A rfl (eM rfl))) dD dD⟩)))
def d00:Dc:=⟨[],1,2,[{ gv with id:=1,kd:=2,op:=255 }]⟩
theorem aeT:dV ak 80 [] d00.v:=
 mJ Tryz.func80 (eR (be _) aoj (dF (g0 ⟨all_nil,_,_,_,rfl,.Bi (v0:=.agg [gh,F 1,F 2,.eE false 1 (fD d00.ly)]) [0] (fm:=[(fD d00.ly).length=1*31]) dD (eM rfl) dD dD⟩)))
def q256:Nat:=((IntKind.i64.wrap (k.tmod 256+256)).tmod 256).toNat
def Ou:Sp:=⟨zf (IntKind.i64.wrap ((Int.ofNat (q256 k)).tdiv 4)),zf ((IntKind.i64.wrap ((Int.ofNat (q256 k)).tdiv 4)).fdiv 4),zf ((IntKind.i64.wrap ((Int.ofNat (q256 k)).tdiv 4)).fdiv 16),mT (q256 k%4),mF (q256 k%4)⟩
theorem Ur:(IntKind.i64.wrap (k.tmod 256+256)).tmod 256=Int.ofNat (q256 k):=by
 have h1:-256<k.tmod 256:=Int.lt_tmod_of_pos k eX;have C:k.tmod 256<256:=Int.tmod_lt_of_pos k eX;have h3:IntKind.i64.wrap (k.tmod 256+256)=k.tmod 256+256:=ij S S;unfold q256;rw[h3];have:=(wA (x:=k.tmod 256+256) (d:=256) S eX).1;exact(cS this).symm
theorem Zr:dV ak 81 [F k] (Ou k).v:=by
 have hq:=aI (V.int .i64) (Ur k);unfold Ou;generalize q256 k=q at *;have hr:(Int.ofNat q).tmod 4=Int.ofNat (q%4):=by
  exact Int.tmod_eq_emod_of_nonneg (bO q)
 have h4:q%4<4:=Nat.mod_lt _ eX;generalize q%4=r at hr h4 ⊢;have n4r:n4 r:=⟨bO _,cB.2 h4⟩;refine fc Tryz.func81 (fH 7 (fk aov (be _)) (aon k q r h4) (A hq (A rfl (A (aI (V.int .i64) hr) (A n4r (A (aI (V.int .i64) hr) (eM n4r)))))) ?_);refine dM dD (dM dD (gk (be _) eI (aoo q (sp4 r)) (dF (g0 ⟨all_nil,fun R dX=>?_⟩))));simp only[andThen];generalize ha:IntKind.i64.wrap ((Int.ofNat q).tdiv 4)=a;refine iz 0 3 (fun j=>NN q (match j with|0=>sp4 r|1=>{ sp4 r with c0:=zf a }|2=>{ sp4 r with c0:=zf a,c1:=zf (a.fdiv 4) }|_=>{ sp4 r with c0:=zf a,c1:=zf (a.fdiv 4),c2:=zf (a.fdiv 16) }) [(6,L j)]) (fun _=>false) (ew.norm dX) (fun j hj _ Q' k1 k2 k3=>?_) (fun _ R dX=>?_)
 . match j,hj with
   |0,_=>exact gk (fk (cuD a) (be _)) eI (aop q _ a (zf a)) (dF (g0 ⟨A eX (A (by rw[ha,show a.fdiv 1=a from Int.fdiv_one a]) (A rfl (eM eX))),fun R dX=>k1 eX rfl R (ew.norm dX)⟩))
   |1,_=>exact gk (fk (cuD (a.fdiv 4)) (be _)) eI (aoq q _ (a.fdiv 4) (zf (a.fdiv 4))) (dF (g0 ⟨A eX (A (by rw[ha]) (A rfl (eM eX))),fun R dX=>k1 eX rfl R (ew.norm dX)⟩))
   |2,_=>exact gk (fk (cuD (a.fdiv 16)) (be _)) eI (aor q _ (a.fdiv 16) (zf (a.fdiv 16))) (dF (g0 ⟨A eX (A (by rw[ha]) (A rfl (eM eX))),fun R dX=>k1 eX rfl R (ew.norm dX)⟩))
   |3,_=>exact gk (be _) eI (aos q _) (dF (g0 ⟨all_nil,fun R dX=>k2 rfl R (ew.norm dX)⟩))
   |n+4,hj=>exact absurd hj S
 simp only[andThen];refine dX _ _ (eR (be _) (aot q _) (dF (g0 ⟨all_nil,_,_,_,rfl,rfl⟩)))
end
set_option maxRecDepth 10000
section
variable(xs:List Int)(c:Nat)
def sMs(d:Dc)(s:Sp):St:=fB [(0,fF xs),(1,L c),(4,.ptr (some (0,0))),(5,.ptr (some (1,0)))] (hL [(0,.cells Ai),(1,.cells [.eZ (some (2,0)) 1 1 21,F d.root,F d.nx,.eE false d.ly.length (fD d.ly)]),(2,.cells (D.fU s.ds))]) 3
theorem aow(d:Dc)(s:Sp)(a:Int):H (M (fa 81 [F a] s.v ek) []) [(27,.dG (xI xs 0)),(30,.dG (F a))] 0 Tryz.f34 [0,1,4,5] (lF (dY (dI Ra))) (ze xs c d [(25,.bool true)]) [([],[(0:Int)<=(0:Int)/\(0:Int)<(Int.ofNat xs.length),jC xs,V.dS (dO (eG xs) 0 1)=xI xs 0,V.int B (IntKind.i64.wrap (Int.ofNat (BitVec.ofInt 64 ((xs.getD 0 (0:Int)).fdiv (4096:Int))&&&BitVec.ofInt 64 (1023:Int)).toNat))=F a,V.jJ ([]++[F a]++[])=[F a]],eu (sMs xs c d s))]:=G.W
theorem aox(d:Dc):H (M ek []) [] 0 Tryz.f34 [0,1,4,5] (oy (dY (dI Ra))) (ze xs c d [(25,.bool false)]) [([],[],eu (ze xs c d []))]:=G.W
end
set_option maxRecDepth 10000
def Nk(xs:List Int):Dc:=if 0<xs.length/\an ((xs.getD 0 0).fdiv 1024) 3=1 then { d00 with sp:=[Ou (an ((xs.getD 0 0).fdiv 4096) 1023)] }else d00
noncomputable def SK(xs:List Int):Nat->Dc
 |0=>Nk xs
 |j+1=>wC xs (9*j) (SK xs j)
section
variable(xs:List Int)(c:Nat)
def SL:Nat:=min (xs.length/9) c
noncomputable def vh:Dc:=SK xs (SL xs c)
theorem aeU(k:Int):NH (Ou k):=by
 have h:∀a,(zf a).length<=1000000:=fun a=>by
  unfold zf;split
  . decide
  . split
    . decide
    . split<;>decide
 exact⟨h _,h _,h _⟩
theorem Us:Eb (Nk xs):=by
 have h0:uq { gv with id:=1,kd:=2,op:=255 }:=⟨aN _,aN _,aN _,aN _,aN _,aN _,aN _⟩;have hl:∀x∈d00.ly,uq x/\x.kids.length<=100:=fun x J=>by
  have:x={ gv with id:=1,kd:=2,op:=255 }:=aG.1 J;subst this;exact⟨h0,aN _⟩
 unfold Nk;split
 . exact⟨show(1:Int)<=d00.nx by decide,show d00.nx<=1048576 by decide,show d00.ly.length<=40 by decide,⟨0,show 0<d00.ly.length by decide,rfl⟩,fun x J=>(hl x J).2,⟨⟨show d00.ly.length<=1000000 by decide,fun x J=>(hl x J).1.kids⟩,fun s hs=>(by rw[aG.1 hs];exact aeU _),fun x J=>(hl x J).1⟩⟩
 . exact⟨eX,eX,eX,⟨0,eX,rfl⟩,fun x J=>(hl x J).2,⟨⟨eX,fun x J=>(hl x J).1.kids⟩,fun s hs=>(by cases hs),fun x J=>(hl x J).1⟩⟩
end
theorem Gr(xs:List Int):∀j,Eb (SK xs j)
 |0=>Us xs
 |j+1=>NM xs _ (Gr xs j)
theorem Zs(xs:List Int)(c:Nat)(N:c<=100000):dV ak 34 [fF xs,L c] (vh xs c).v:=by
 refine fc Tryz.func34 (fH 2 (fk aeT (be _)) (anR xs c d00) (eM rfl) ?_);have vO:∀R,ew ak 0 Tryz.f34.ntmps R (ze xs c (Nk xs) [])->TG ak 0 Tryz.f34.ntmps Rb R (fV ak 0 Tryz.f34 fun u _ _=>u=(vh xs c).v):=fun R dX=>by
  refine dX _ _ (dM dD (dM dD (gk (be _) eI (aoc xs c (Nk xs)) (dF (g0 ⟨all_nil,fun R dX=>?_⟩)))));simp only[andThen];have hn:SL xs c*9<=xs.length/\SL xs c<=c:=by unfold SL;omega
  have qX:∀j,j<SL xs c\/(xs.length<9*j+9\/c<=j):=fun j=>by unfold SL;omega
  refine iz 0 (SL xs c) (fun j=>ze xs c (SK xs j) [(6,L (9*j))]) (fun _=>false) (ew.norm dX) (fun j hj _ Q' k1 k2 k3=>?_) (fun _ R dX=>?_)
  . have A1:V.int .i64 (IntKind.i64.wrap (Int.ofNat (9*j)+(9:Int)))=L (9*j+9):=rz (i:=9*j) (k:=9) S;have A2:V.int .i64 (IntKind.i64.wrap ((9:Int)*Int.ofNat c))=L (9*c):=aI (V.int .i64) (by rw[show(9:Int)*Int.ofNat c=Int.ofNat (9*c)from rfl];exact ij (by simp only[gB];omega) (by simp only[gB];omega));refine qv (be _) eI (anU xs c (SK xs j) (9*j)) (dJ (g2 fun h1 C=>⟨A A1 (eM A2),?_⟩) (dJ (g2 fun h1 C=>⟨A A1 (eM A2),fun R dX=>k2 ?_ R (ew.norm dX)⟩) (dF (g1 fun h1=>⟨eM A1,fun R dX=>k2 ?_ R (ew.norm dX)⟩))))
    . have q1:9*j+9<=xs.length:=by have:=aX h1;simp only[gB]at this;omega
      have q2:j<c:=by have:=j9 C;omega
      have q3:j<SL xs c:=by rcases qX j with q|q|q<;>omega
      refine dM dD (fL (i:=1) dD (Rj xs c (SK xs j) (9*j) (Gr xs j) q1 S fun R dX=>?_));simp only[gZ,andThen];exact dX _ _ (gk (be _) eI (aoa xs c (wC xs (9*j) (SK xs j)) (9*j)) (dF (g0 ⟨eM A1,fun R dX=>k1 q3 rfl R (ew.norm dX)⟩)))
    . have:=qZ C;rcases qX j with q|q|q
      . omega
      . have:=aX h1;simp only[gB]at this;omega
      . omega
    . have:=bq h1;simp only[gB]at this;omega
  simp only[andThen];exact dX _ _ (eR (be _) (aob xs c (SK xs (SL xs c)) (9*SL xs c)) (dF (g0 ⟨all_nil,_,_,_,rfl,rfl⟩)))
 have hB:=fun(h:(decide ((Int.ofNat xs.length)>(0:Int)))=true)=>(by
  have:=aX h;simp only[gB]at this;have q:0<xs.length:=by omega
  exact⟨iT q,eK xs,gi q⟩:((0:Int)<=(0:Int)/\(0:Int)<Int.ofNat xs.length)/\(eG xs).length=xs.length*1/\V.dS (dO (eG xs) 0 1)=xI xs 0)
 have no:Nk xs=d00->TG ak 0 Tryz.f34.ntmps (oy (dY (dI Ra))) (ze xs c d00 [(25,.bool false)]) (andThen (fun R=>TG ak 0 Tryz.f34.ntmps Rb R (fV ak 0 Tryz.f34 fun u _ _=>u=(vh xs c).v)) (fV ak 0 Tryz.f34 fun u _ _=>u=(vh xs c).v)):=fun e=>
  gk (be _) eI (aox xs c d00) (dF (g0 ⟨all_nil,fun R dX=>vO R (by rw[e];exact ew.norm dX)⟩))
 refine dM dD (qv (be _) eI (anT xs c d00) (dJ (g2 fun h1 C=>?_) (dJ (g2 fun h1 C=>?_) (dF (g1 fun h1=>?_)))))
 . obtain⟨b1,b2,b3⟩:=hB h1;refine⟨A b1 (A b2 (eM b3)),jZ (t:=true) dD dD (fun _=>?_) (fun h=>by cases h)⟩;have hp:0<xs.length:=by have:=aX h1;simp only[gB]at this;omega
   have e:Nk xs={ d00 with sp:=[Ou (an ((xs.getD 0 0).fdiv 4096) 1023)] }:=by unfold Nk;rw[aD ⟨hp,Bj.1 C⟩]
   refine gk (fk (Zr (an ((xs.getD 0 0).fdiv 4096) 1023)) (be _)) eI (aow xs c d00 (Ou (an ((xs.getD 0 0).fdiv 4096) 1023)) (an ((xs.getD 0 0).fdiv 4096) 1023)) (dF (g0 ⟨A b1 (A b2 (A b3 (A rfl (eM rfl)))),fun R dX=>vO R ?_⟩));rw[e];generalize Ou (an ((xs.getD 0 0).fdiv 4096) 1023)=s at dX;exact(ew.norm dX).trans (ew.DJ [2] [0,1,4,5] (dy:=ze xs c { d00 with sp:=[s] } []) (fm:=[(jy [s]).length=1*21]) dD (eM rfl))
 . obtain⟨b1,b2,b3⟩:=hB h1;refine⟨A b1 (A b2 (eM b3)),jZ (t:=false) dD dD (fun h=>by cases h) (fun _=>no ?_)⟩;unfold Nk;rw[aA fun q=>Gq C q.2]
 . refine⟨all_nil,jZ (t:=false) dD dD (fun h=>by cases h) (fun _=>no ?_)⟩;have:=bq h1;simp only[gB]at this;unfold Nk;rw[aA fun q=>by have:=q.1;omega]
set_option maxRecDepth 10000
theorem Rk(k:Int):jV (zf k)=true:=by
 unfold zf;split
 . decide
 . split
   . decide
   . split
     . decide
     . decide
theorem aoy:∀r,r<4->∀a b c,((List.range 9).any (Gi ⟨a,b,c,mT r,mF r⟩)=false/\(List.range 3).any (fun i=>(List.range 3).any (Ad ⟨a,b,c,mT r,mF r⟩ i))=false):=by
 intro r hr a b c;obtain rfl|rfl|rfl|rfl:r=0\/r=1\/r=2\/r=3:=by omega
 all_goals exact⟨dD,dD⟩
theorem Zt(k:Int):AT (Ou k)=true:=by
 obtain⟨h1,C⟩:=aoy (q256 k%4) (Nat.mod_lt _ eX) (zf (IntKind.i64.wrap ((Int.ofNat (q256 k)).tdiv 4))) (zf ((IntKind.i64.wrap ((Int.ofNat (q256 k)).tdiv 4)).fdiv 4)) (zf ((IntKind.i64.wrap ((Int.ofNat (q256 k)).tdiv 4)).fdiv 16));have h3:(List.range 3).any (fun i=>!jV ((Ou k).cv i))=false:=by
  rw[dc];intro i _;have:jV ((Ou k).cv i)=true:=match i with
   |0=>Rk _
   |1=>Rk _
   |_+2=>Rk _
  rw[this];decide
 unfold AT;rw[h3];have h1:(List.range 9).any (Gi (Ou k))=false:=h1;have C:(List.range 3).any (fun i=>(List.range 3).any (Ad (Ou k) i))=false:=C;rw[h1,C];rfl
theorem aoz:cD (fC [])=true:=P5 ⟨aN _,fun i h=>absurd h (bL _)⟩
def Ov:eJ:={ gv with id:=1,kd:=2,op:=255 }
theorem aoA(n:Nat):vW n Ov=0:=by
 have e:vW n Ov=KG n Ov (cD (fC [])) (cD (fC [])) (AR Ov.pl) (iM Ov.f) (qK Ov.nm) (G5 Ov) (jP Ov.gu):=rfl;have hs:bs n Ov=false:=by
  unfold bs;have:decide (Ov.sp>Int.ofNat n)=false:=aV (by show ¬(0:Int)>Int.ofNat n;simp only[gB];omega);rw[this];rfl
 rw[e,aoz];unfold KG;rw[hs];rfl
theorem I3(sp:List Sp)(hl:sp.length<=8)(hs:∀s∈sp,AT s=true):gS { d00 with sp:=sp }=(0,0):=by
 generalize hd:({ d00 with sp:=sp }:Dc)=d;have AS:d.ly=[Ov]:=by rw[<- hd];rfl
 have hr:d.root=1:=by rw[<- hd];rfl
 have hnx:d.nx=2:=by rw[<- hd];rfl
 have Ca:d.sp=sp:=by rw[<- hd]
 have ny:d.at 0=Ov:=by unfold Dc.at;rw[AS];rfl
 have one:∀f:Nat->Bool,f 0=false->lQ f d.ly.length=none:=fun f h=>gL fun j hj=>by
  rw[AS]at hj;obtain rfl:j=0:=by simp only[aR,b9]at hj;omega
  exact h
 have w:iI d=(0,0):=by
  have Y:xn d=false:=by
   unfold xn;rw[Ca,AS,hnx];have:decide (Int.ofNat sp.length>(8:Int))=false:=aV (by simp only[gB];omega);rw[this];rfl
  have h1:lQ (fun i=>!AT (d.sp.getD i D8)) d.sp.length=none:=gL fun j hj=>by
   have:d.sp.getD j D8∈sp:=by rw[Ca]at hj ⊢;rw[ax,au hj];exact bJ hj
   rw[hs _ this];rfl
  have C:tJ d 0=false:=by unfold tJ vc;rw[ny,hnx];rfl
  have h3:mK d=false:=by unfold mK Dc.at;rw[AS,hr];rfl
  unfold iI;rw[Y,aA eX,h1];simp only;rw[one _ C];simp only;rw[h3];rfl
 have h1:KK d 0=false:=by unfold KK;rw[ny,aoA];rfl
 have C:BE d 0=false:=by unfold BE rq;rw[ny,AS,hr];rfl
 have h3:Ae d 0=false:=by unfold Ae Dk;rw[ny];rfl
 have h4:NI d 0=false:=by unfold NI;rw[ny,AS];rfl
 unfold gS;rw[w,aD rfl,one _ h1];simp only;rw[one _ C];simp only;rw[one _ h3];simp only;rw[one _ h4];simp only;rw[AS,hr];rfl
theorem Zu(xs:List Int):(gS (Nk xs)).1=0:=by
 unfold Nk;split
 . rw[I3 _ (by show 1<=8;decide) fun s hs=>(by rw[aG.1 hs];exact Zt _)]
 . have e:d00={ d00 with sp:=[] }:=rfl;rw[e,I3 [] (aN _) fun s hs=>(by cases hs)]
theorem Rl(xs:List Int):∀j,(gS (SK xs j)).1=0
 |0=>Zu xs
 |j+1=>by
  show(gS (wC xs (9*j) (SK xs j))).1=0;unfold wC;split
  . assumption
  . exact Rl xs j
theorem Rm(xs:List Int)(c:Nat):jW (vh xs c)/\Eb (vh xs c):=⟨KS (Rl xs _),Gr xs _⟩
end Go.Proofs.YtmjggdmekboefaaGreat
