/- The Doc laws: the reference's Made: pieces. No conditions. -/
import Derived.Test.YtmjggdmekboefaaGreatJointW08
import Derived.Test.YtmjggdmekboefaaGreatJointW09
set_option linter.unusedVariables false
set_option linter.unusedSimpArgs false
set_option linter.unusedSectionVars false
namespace Go.Proofs.YtmjggdmekboefaaGreat
open Go Go.Eng
set_option maxRecDepth 10000
def U4(xs:List Int)(i:Nat):S8:=⟨xs.getD i 0,xs.getD (i+1) 0,xs.getD (i+2) 0,xs.getD (i+3) 0,xs.getD (i+4) 0,xs.getD (i+5) 0,xs.getD (i+6) 0,xs.getD (i+7) 0⟩
noncomputable abbrev afn:Code:=dQ Tryz.f34
noncomputable abbrev RH:Code:=dH 2 afn
noncomputable abbrev RI:Code:=eB RH
noncomputable abbrev aoG:Code:=eB RI
noncomputable abbrev bMz:Code:=dP (dP (eB (dO RI)))
noncomputable abbrev AH:Code:=dP (dO (eB bMz))
noncomputable abbrev RJ:Code:=dH 5 AH
noncomputable abbrev ZW:Code:=eB RJ
section
variable(xs:List Int)(c i j:Nat)(W:List Int)
noncomputable abbrev afo:Code:=dH 1 ZW
noncomputable abbrev afp:Code:=dH 1 afo
noncomputable abbrev afq:Code:=dH 1 afp
noncomputable abbrev ZX:Code:=dH 1 afq
noncomputable abbrev afr:Code:=dH 1 ZX
noncomputable abbrev aoI:Code:=dH 1 afr
def Li:ag:=[gH,R 0,R 0,gH]
def zE(d:Dc)(r:List (Nat×V)):St:=fI ([(0,fD xs),(1,J c),(4,.ptr (some (0,0))),(5,.ptr (some (1,0)))]++r) (hL [(0,.cells Li),(1,.cells d.cs)]) 2
theorem aoJ(d:Dc):H (M (fa 80 [] d.v ew) []) [] 0 Tryz.f34 [0,1,4,5] (ek 2 afn) (dI [fD xs,J c] .nil 0) [([],[V.jj ([]++[]++[])=[]],eC (zE xs c d []))]:=G.Y
def JZ(d:Dc)(i:Nat)(x:eV)(r:List (Nat×V)):St:=fI ([(0,fD xs),(1,J c),(4,.ptr (some (0,0))),(5,.ptr (some (1,0))),(6,J i),(7,.ptr (some (2,0)))]++r) (hL [(0,.cells Li),(1,.cells d.cs),(2,.cells x.cs)]) 3
def Lj(d:Dc)(i:Nat)(x:eV)(r:List (Nat×V)):St:=fI ([(0,fD xs),(1,J c),(4,.ptr (some (0,0))),(5,.ptr (some (1,0))),(6,J i),(7,.ptr (some (2,0))),(8,.fk (some (3,0)) 0 0 1)]++r) (hL [(0,.cells Li),(1,.cells d.cs),(2,.cells x.cs),(3,.cells [])]) 4
def Lk(d:Dc)(i:Nat)(x:eV)(l:List Int)(r:List (Nat×V)):St:=fI ([(0,fD xs),(1,J c),(4,.ptr (some (0,0))),(5,.ptr (some (1,0))),(6,J i),(7,.ptr (some (2,0))),(8,.fk (some (3,0)) l.length l.length 1)]++r) (hL [(0,.cells Li),(1,.cells d.cs),(2,.cells x.cs),(3,.own .i64 l)]) 4
def sMf(d:Dc)(i:Nat)(x:eV)(j:Nat)(r:List (Nat×V)):St:=fI ([(0,fD xs),(1,J c),(4,.ptr (some (0,0))),(5,.ptr (some (1,0))),(6,J i),(7,.ptr (some (2,0))),(8,.fk (some (3,0)) 1 1 1)]++r) (hL [(0,.cells Li),(1,.cells d.cs),(2,.cells x.cs),(3,.cells [J j])]) 4
def sMg(d:Dc)(i:Nat)(x:eV)(l:List Int)(j:Nat)(r:List (Nat×V)):St:=fI ([(0,fD xs),(1,J c),(4,.ptr (some (0,0))),(5,.ptr (some (1,0))),(6,J i),(7,.ptr (some (2,0))),(8,.fk (some (3,0)) (l.length+1) (l.length+1) 1)]++r) (hL [(0,.cells Li),(1,.cells d.cs),(2,.cells x.cs),(3,.own .i64 (List.take (l.length*1) (List.drop 0 l)++[Int.ofNat j]))]) 4
abbrev xI:V:=.eo [.int .i64 (xs.getD i 0)]
theorem aoL(d:Dc):H (M ew []) [(17,.split),(20,.dL (xI xs 0)),(24,.split)] 0 Tryz.f34 [0,1,4,5,25] (dO (dO RH)) (zE xs c d []) (sI (decide ((Int.ofNat xs.length)>(0:Int))) (IntKind.i64.wrap (Int.ofNat (BitVec.ofInt 64 ((xs.getD 0 (0:Int)).fdiv (1024:Int))&&&BitVec.ofInt 64 (3:Int)).toNat)==(1:Int)) ([(0:Int)<=(0:Int)/\(0:Int)<(Int.ofNat xs.length),jo xs,V.eo (dU (eL xs) 0 1)=xI xs 0],eC (zE xs c d [(25,.bool true)])) ([(0:Int)<=(0:Int)/\(0:Int)<(Int.ofNat xs.length),jo xs,V.eo (dU (eL xs) 0 1)=xI xs 0],eC (zE xs c d [(25,.bool false)])) ([],eC (zE xs c d [(25,.bool false)]))):=G.Y
abbrev Ll:Prop:=V.int B (IntKind.i64.wrap (Int.ofNat i+(9:Int)))=J (i+9)
abbrev RL:Prop:=V.int B (IntKind.i64.wrap ((9:Int)*Int.ofNat c))=J (9*c)
theorem aoM(d:Dc)(i:Nat):H (M ew []) [(35,.dL (J (i+9))),(42,.dL (J (9*c))),(38,.split),(43,.split)] 0 Tryz.f34 [0,1,4,5,6] (dO bMz) (zE xs c d [(6,J i)]) (sI (decide (Int.ofNat (i+9)<=(Int.ofNat xs.length))) (decide (Int.ofNat i<Int.ofNat (9*c))) ([Ll i,RL c],eC (zE xs c d [(6,J i)])) ([Ll i,RL c],.to (.exit 0) (zE xs c d [(6,J i)])) ([Ll i],.to (.exit 0) (zE xs c d [(6,J i)]))):=G.Y
def U5:ah:=[(0:Int)<=Int.ofNat i/\Int.ofNat i<Int.ofNat xs.length,(eL xs).length=xs.length*1,V.eo (dU (eL xs) (i*1) 1)=xI xs i]
def Xf(k:Nat):Prop:=V.int .i64 (IntKind.i64.wrap (Int.ofNat i+Int.ofNat k))=J (i+k)
def r8A:ah:=U5 xs i++(Xf i 1::(U5 xs (i+1)++(Xf i 2::(U5 xs (i+2)++(Xf i 3::(U5 xs (i+3)++(Xf i 4::(U5 xs (i+4)++(Xf i 5::(U5 xs (i+5)++(Xf i 6::(U5 xs (i+6)++(Xf i 7::(U5 xs (i+7)++[fG [.agg (U4 xs i).cs]]))))))))))))))
theorem aoN(d:Dc)(i:Nat)(x:eV):H (M (fa 30 [.agg (U4 xs i).cs] x.v ew) []) [(49,.dL (xI xs i)),(53,.dL (J (i+1))),(54,.dL (xI xs (i+1))),(58,.dL (J (i+2))),(59,.dL (xI xs (i+2))),(63,.dL (J (i+3))),(64,.dL (xI xs (i+3))),(68,.dL (J (i+4))),(69,.dL (xI xs (i+4))),(73,.dL (J (i+5))),(74,.dL (xI xs (i+5))),(78,.dL (J (i+6))),(79,.dL (xI xs (i+6))),(83,.dL (J (i+7))),(84,.dL (xI xs (i+7)))] 0 Tryz.f34 [0,1,4,5,6,7] (ek 2 AH) (zE xs c d [(6,J i)]) [([],r8A xs i,.to .normal (JZ xs c d i { x with id:=d.nx } []))]:=G.Y
theorem aoO(d:Dc)(i:Nat)(x:eV)(o:Int):H (M ew []) [(93,.split),(96,.dL (J (i+7))),(97,.dL (xI xs (i+7))),(103,.dL (R o))] 0 Tryz.f34 [0,1,4,5,6,7] (dO (dH 2 AH)) (JZ xs c d i x []) (fV (x.kd==(4:Int)) ([V.int B (IntKind.i64.wrap (Int.ofNat i+(7:Int)))=J (i+7),fT (i+7) xs.length,jo xs,V.eo (dU (eL xs) ((i+7)*1) 1)=xI xs (i+7),d.nx≠(0:Int),V.int B (IntKind.i64.wrap ((1:Int)+(IntKind.i64.wrap (Int.ofNat (BitVec.ofInt 64 (xs.getD (i+7) (0:Int))&&&BitVec.ofInt 64 (65535:Int)).toNat)).tmod d.nx))=R o],eC (JZ xs c d i { x with of:=o } [])) ([],eC (JZ xs c d i x []))):=G.Y
theorem aoP(d:Dc)(i:Nat)(x:eV)(o:Int):H (M ew []) [(107,.split),(112,.split),(116,.dL (J (i+5))),(117,.dL (xI xs (i+5))),(119,.dL (R o))] 0 Tryz.f34 [0,1,4,5,6,7] (dO (dH 3 AH)) (JZ xs c d i x []) (BJ (x.kd==(1:Int)) (decide ((Int.ofNat d.sp.length)>(0:Int))) ([V.int B (IntKind.i64.wrap (Int.ofNat i+(5:Int)))=J (i+5),fT (i+5) xs.length,jo xs,V.eo (dU (eL xs) ((i+5)*1) 1)=xI xs (i+5),V.int B (IntKind.i64.wrap (Int.ofNat (BitVec.ofInt 64 (xs.getD (i+5) (0:Int))&&&BitVec.ofInt 64 (1:Int)).toNat))=R o],eC (JZ xs c d i { x with sp:=o } [])) ([],eC (JZ xs c d i x []))):=G.Y
theorem aoQ(d:Dc)(i:Nat)(x:eV):H (M ew []) [] 0 Tryz.f34 [0,1,4,5,6,7,8] (ek 1 (dH 4 AH)) (JZ xs c d i x []) [([],[],eC (Lj xs c d i x []))]:=G.Y
theorem aoR(d:Dc)(i:Nat)(x:eV):H (M ew []) [] 0 Tryz.f34 [0,1,4,5,6,7,8,9] (dO (dO RJ)) (Lj xs c d i x []) [([],[],eC (Lj xs c d i x [(9,J 0)]))]:=G.Y
abbrev RM:Prop:=V.int B (IntKind.i64.wrap (Int.ofNat j+(1:Int)))=J (j+1)
theorem aoS(d:Dc)(i:Nat)(x y:eV)(j:Nat):H (M ew []) [(126,.split),(132,.dL (.eo y.ds)),(135,.split),(128,.dL (J (j+1)))] 0 Tryz.f34 [0,1,4,5,6,7,8,9] (dP (dP (eB (dO RJ)))) (Lj xs c d i x [(9,J j)]) (sI (decide (Int.ofNat j<(Int.ofNat d.ly.length))) (y.kd==(2:Int)) ([fT j d.ly.length,nK d.ly,gv (fR d.ly) j 31 y.ds,RM j],eC (sMf xs c d i x j [(9,J (j+1))])) ([fT j d.ly.length,nK d.ly,gv (fR d.ly) j 31 y.ds,RM j],eC (Lj xs c d i x [(9,J (j+1))])) ([],.to (.exit 2) (Lj xs c d i x [(9,J j)]))):=G.Y
abbrev RN:Prop:=V.int B (IntKind.i64.wrap (Int.ofNat j+(1:Int)))=J (j+1)
theorem aoT(d:Dc)(i:Nat)(x y:eV)(l:List Int)(j:Nat):H (M ew []) [(126,.split),(132,.dL (.eo y.ds)),(135,.split),(128,.dL (J (j+1)))] 0 Tryz.f34 [0,1,4,5,6,7,8,9] (dP (dP (eB (dO RJ)))) (Lk xs c d i x l [(9,J j)]) (sI (decide (Int.ofNat j<(Int.ofNat d.ly.length))) (y.kd==(2:Int)) ([fT j d.ly.length,nK d.ly,gv (fR d.ly) j 31 y.ds,0<l.length,0+l.length*1<=l.length,0<1,fM (l.length+1) 1 8=true,RN j],eC (sMg xs c d i x l j [(9,J (j+1))])) ([fT j d.ly.length,nK d.ly,gv (fR d.ly) j 31 y.ds,RN j],eC (Lk xs c d i x l [(9,J (j+1))])) ([],.to (.exit 2) (Lk xs c d i x l [(9,J j)]))):=G.Y
theorem aoU(d:Dc)(i:Nat)(x:eV)(l:List Int)(g m:Nat):H (M ew []) [(143,.dL (J (i+8))),(144,.dL (xI xs (i+8))),(149,.dL (J g)),(150,.dL (.eo [.int .i64 (Int.ofNat m)]))] 0 Tryz.f34 [0,1,4,5,6,7,10] (ek 1 ZW) (JZ xs c d i x [(8,fD l)]) [([],[V.int B (IntKind.i64.wrap (Int.ofNat i+(8:Int)))=J (i+8),fT (i+8) xs.length,jo xs,V.eo (dU (eL xs) ((i+8)*1) 1)=xI xs (i+8),(Int.ofNat l.length)≠(0:Int),V.int B ((IntKind.i64.wrap (Int.ofNat (BitVec.ofInt 64 (xs.getD (i+8) (0:Int))&&&BitVec.ofInt 64 (65535:Int)).toNat)).tmod (Int.ofNat l.length))=J g,fT g l.length,jo l,gv (eL l) g 1 [D.int B (Int.ofNat m)]],eC (JZ xs c d i x [(10,J m)]))]:=G.Y
def dMz(d:Dc)(nx:Int)(n:Nat):ag:=[.eM false d.sp.length (lj d.sp),R 1,R nx,.fk (some (4,0)) n n 31]
def Tw(d:Dc)(i:Nat)(x:eV)(nx:Int)(n:Nat)(ds:List Eng.D)(r:List (Nat×V)):St:=fI ([(0,fD xs),(1,J c),(4,.ptr (some (0,0))),(5,.ptr (some (1,0))),(6,J i),(7,.ptr (some (2,0)))]++r) (hL [(0,.cells Li),(1,.cells d.cs),(2,.cells x.cs),(3,.cells (dMz d nx n)),(4,.deep ds)]) 5
def sMw(d:Dc)(i:Nat)(x:eV)(nx:Int)(n:Nat)(ds O:List Eng.D)(r:List (Nat×V)):St:=fI ([(0,fD xs),(1,J c),(4,.ptr (some (0,0))),(5,.ptr (some (1,0))),(6,J i),(7,.ptr (some (2,0)))]++r) (hL [(0,.cells Li),(1,.cells d.cs),(2,.cells x.cs),(3,.cells (dMz d nx n)),(4,.deep ds),(5,.deep O)]) 6
def ZY(p:Nat)(id:Int):List Eng.D:=List.take ((0+(p-0)+1)*1) (List.drop 0 (List.take ((0+(p-0))*1) (List.drop 0 ([]++dU (eL W) 0 ((p-0)*1)))++[.int .i64 id]))++dU (eL W) (p*1) ((W.length-p)*1)
def sMn(d:Dc)(i:Nat)(nx:Int)(n:Nat)(ds:List Eng.D):St:=fI [(0,fD xs),(1,J c),(4,.ptr (some (0,0))),(5,.ptr (some (1,0))),(6,J i),(11,.ptr (some (2,0)))] (hL [(0,.cells Li),(1,.cells d.cs),(2,.cells [.eM false d.sp.length (lj d.sp),R 1,R nx,.fk (some (3,0)) n n 31]),(3,.deep ds)]) 4
abbrev t11:Nat×V:=(11,.ptr (some (3,0)))
theorem aoV(d:Dc)(i:Nat)(x:eV)(m:Nat)(nx:Int):H (M ew []) [(159,.dL (J (i+8))),(160,.dL (xI xs (i+8))),(164,.dL (R nx))] 0 Tryz.f34 [0,1,4,5,6,7,10,11] (ek 1 afo) (JZ xs c d i x [(10,J m)]) [([],[V.int B (IntKind.i64.wrap (Int.ofNat i+(8:Int)))=J (i+8),fT (i+8) xs.length,jo xs,V.eo (dU (eL xs) ((i+8)*1) 1)=xI xs (i+8),V.int B (IntKind.i64.wrap (IntKind.i64.wrap (d.nx+(1:Int))+IntKind.i64.wrap (Int.ofNat (BitVec.ofInt 64 ((xs.getD (i+8) (0:Int)).fdiv (65536:Int))&&&BitVec.ofInt 64 (1:Int)).toNat)))=R nx,nK d.ly,fM (0+d.ly.length) 31 328=true],eC (Tw xs c d i x nx (0+d.ly.length) ([]++fR d.ly) [(10,J m),t11]))]:=G.Y
theorem aoW(d:Dc)(i:Nat)(x:eV)(m:Nat)(nx:Int)(n:Nat)(ds:List Eng.D)(W:List Int):H (M ew []) [(176,.dL (fD W))] 0 Tryz.f34 [0,1,4,5,6,7,10,11,12] (ek 1 afp) (Tw xs c d i x nx n ds [(10,J m),t11]) [([],[fT m n,0+m*31+15<ds.length,(ds.getD (0+m*31+15) D.Bz).kx=fD W,jo W,fM (0+W.length) 1 8=true],eC (sMw xs c d i x nx n ds ([]++eL W) [(10,J m),t11,(12,.fk (some (5,0)) (0+W.length) (0+W.length) 1)]))]:=G.Y
theorem aoX(d:Dc)(i:Nat)(x:eV)(m:Nat)(nx:Int)(n:Nat)(ds:List Eng.D)(W:List Int)(p:Nat):H (M ew []) [(180,.dL (J (i+8))),(181,.dL (xI xs (i+8))),(187,.dL (J (W.length+1))),(188,.dL (J p))] 0 Tryz.f34 [0,1,4,5,6,7,10,11,12,13] (ek 1 afq) (Tw xs c d i x nx n ds [(10,J m),t11,(12,fD W)]) [([],[V.int B (IntKind.i64.wrap (Int.ofNat i+(8:Int)))=J (i+8),fT (i+8) xs.length,jo xs,V.eo (dU (eL xs) ((i+8)*1) 1)=xI xs (i+8),V.int B (IntKind.i64.wrap ((Int.ofNat W.length)+(1:Int)))=J (W.length+1),Int.ofNat (W.length+1)≠(0:Int),V.int B ((IntKind.i64.wrap (Int.ofNat (BitVec.ofInt 64 ((xs.getD (i+8) (0:Int)).fdiv (16:Int))&&&BitVec.ofInt 64 (65535:Int)).toNat)).tmod (Int.ofNat (W.length+1)))=J p],eC (Tw xs c d i x nx n ds [(10,J m),t11,(12,fD W),(13,J p)]))]:=G.Y
theorem aoY(d:Dc)(i:Nat)(x:eV)(m:Nat)(nx:Int)(n:Nat)(ds:List Eng.D)(W:List Int)(p:Nat):H (M ew []) [] 0 Tryz.f34 [0,1,4,5,6,7,11,204,206] (U2 (dO ZX)) (Tw xs c d i x nx n ds [(10,J m),t11,(12,fD W),(13,J p)]) [([],[jo W,(0:Int)<=Int.ofNat p/\Int.ofNat p<=(Int.ofNat W.length),(dU (eL W) 0 ((p-0)*1)).length=(p-0)*1,fM (0+(p-0)) 1 8=true,0+(0+(p-0))*1<=([]++dU (eL W) 0 ((p-0)*1)).length,0<1,fM (0+(p-0)+1) 1 8=true,jo W,(0:Int)<=Int.ofNat p/\Int.ofNat p<=(Int.ofNat W.length),jo W,(0:Int)<=Int.ofNat p/\Int.ofNat p<=(Int.ofNat W.length),jo W,(0:Int)<=Int.ofNat p/\Int.ofNat p<=(Int.ofNat W.length),(dU (eL W) (p*1) ((W.length-p)*1)).length=(W.length-p)*1,0+(0+(p-0)+1)*1<=(List.take ((0+(p-0))*1) (List.drop 0 ([]++dU (eL W) 0 ((p-0)*1)))++[D.int B x.id]).length,fM (0+(p-0)+1+(W.length-p)) 1 8=true,fT m n],eC (sMw xs c d i x nx n ds (ZY W p x.id) [t11,(204,.fk (some (5,0)) (0+(p-0)+1+(W.length-p)) (0+(p-0)+1+(W.length-p)) 1),(206,.ptr (some (4,0+m*31+15)))]))]:=G.Y
theorem aoZ(d:Dc)(i:Nat)(x:eV)(nx:Int)(n o:Nat)(ds:List Eng.D)(W:List Int):H (M ew []) [] 0 Tryz.f34 [0,1,4,5,6,7,11] (Jo (dO ZX)) (Tw xs c d i x nx n ds [t11,(204,fD W),(206,.ptr (some (4,o)))]) [([],[o+1<=ds.length],eC (Tw xs c d i x nx n (qL ds o [.eM W.length (eL W)]) [t11]))]:=G.Y
theorem ao0(d:Dc)(i:Nat)(x:eV)(nx:Int)(n:Nat)(ds:List Eng.D):H (M ew []) [] 0 Tryz.f34 [0,1,4,5,6,11] (ek 1 afr) (Tw xs c d i x nx n ds [t11]) [([],[0+n*31<=ds.length,0<1,fM (n+1) 31 328=true],eC (sMn xs c d i nx (n+1) (List.take (n*31) (List.drop 0 ds)++x.ds)))]:=G.Y
def sMq(d d2:Dc)(i:Nat):St:=fI [(0,fD xs),(1,J c),(4,.ptr (some (0,0))),(5,.ptr (some (1,0))),(6,J i),(11,.ptr (some (2,0)))] (hL [(0,.cells Li),(1,.cells d.cs),(2,.cells d2.cs)]) 3
abbrev RO(d2:Dc):Prop:=V.jj ([]++[V.agg (List.take 4 (List.drop 0 d2.cs))]++[])=[d2.v]
theorem ao1(d d2:Dc)(i:Nat)(e a:Int):H (M (fa 39 [d2.v] (df e a) ew) []) [(216,.split)] 0 Tryz.f34 [0,1,4,5,6] (aoI) (sMq xs c d d2 i) (fV (e==(0:Int)) ([RO d2],eC (zE xs c d2 [(6,J i)])) ([RO d2],eC (zE xs c d [(6,J i)]))):=G.Y
theorem ao2(d:Dc)(i:Nat):H (M ew []) [(46,.dL (J (i+9)))] 0 Tryz.f34 [0,1,4,5,6] (eB (eB bMz)) (zE xs c d [(6,J i)]) [([],[V.int B (IntKind.i64.wrap (Int.ofNat i+(9:Int)))=J (i+9)],eC (zE xs c d [(6,J (i+9))]))]:=G.Y
theorem ao3(d:Dc)(i:Nat):H (M ew []) [] 0 Tryz.f34 [] (aoG) (zE xs c d [(6,J i)]) [([],[],.ret (.agg [.eM false (d.sp.length) (lj d.sp),.int .i64 (d.root),.int .i64 (d.nx),.eM false (d.ly.length) (fR d.ly)]) (hL []) 0)]:=G.Y
theorem ao4(d:Dc):H (M ew []) [] 0 Tryz.f34 [0,1,4,5,6] (dO (dO RI)) (zE xs c d []) [([],[],eC (zE xs c d [(6,J 0)]))]:=G.Y
end
abbrev rdC(s:aa)(a:Nat)(f:Bool):ag:=[.str s,.int .i64 (Int.ofNat a),.bool f]
def BN:eV:=⟨0,0,[],false,0,0,false,z7,0,[],0,uv,z4,[],[],false,[]⟩
def eV.rc(y:eV):ag:=y.cs.set 27 gH
def hR(y:eV)(s:aa)(a:Nat)(f:Bool):I es:=hL [(0,.cells BN.cs),(1,.cells (rdC s a f)),(2,.cells y.rc)]
noncomputable abbrev afs:Code:=dQ Tryz.f31
def z31(id kd:Int)(nm:aa):ag:=[R id,R kd,.str nm,.bool false,R 0,R 0,.bool false]++(z7.cs++([R 0,gH,R 0]++([R 0,R 0,gH,R 0,R 0,gH]++(z4.cs++[gH,gH,.bool false,gH]))))
noncomputable abbrev ao5:Code:=dH 6 afs
def aft(s:aa)(v:V):Prop:=(∃l,okL l/\Re l=s/\v= .gK [l.v,R 0])\/v= .gK [BN.v,R 11]
def TR(s:aa)(c:Code)(dF:St):Prop:=∃v,aft s v/\TG ak 0 Tryz.f31.ntmps c dF (gi ak 0 Tryz.f31 (uI v))
section
variable{ks:gG}{hh:List (Nat×List (Nat×mH))}{dG:List (Nat×mH)}{live:List Nat}{hc:ah}{dF s1:St}{c:Code}{s:aa}
theorem TR.code{d:Code}(e:c=d)(t:TR s d dF):TR s c dF:=e▸t
end
theorem xL(a b:Nat)(c:Code):dH a (dH b c)=dH (b+a) c:=lg b a c
section
variable{s:aa}(hs:s.length<=1500000)
include hs
theorem e7:eB ao5=dH 7 afs:=by kernel_rfl
end
section
variable(cf:gu)(x:FuncId×ag×V)
noncomputable def Xg:Bool:=
 match cf x.1 x.2.1 .nil gN with
 |some (.ret u,_,_)=>V.beq u x.2.2
 |_=>false
noncomputable def Jp:Bool:=(Nat.blt x.1 Tryz.prog.funcs.size&&V.uo x.2.1)&&(x.2.2.free&&Xg cf x)
end
theorem U6{cf:gu}(A:iu ak cf){x:FuncId×ag×V}(h:Jp cf x=true):F9 ak x:=by
 simp only[Jp,ay,Xg]at h;obtain⟨⟨h0,h1⟩,C,h3⟩:=h;split at h3
 . rename_i u h' n' e;rw[F5 _ _ h3]at e;exact⟨aE h0,h1,C,cf,h',n',A,e⟩
 . cases h3
theorem san:F9 ak (8,[],.bool true):=U6 (Bd (fr:=1000) mo po 60) dJ
structure smL(l:eV):Prop where
 nm:l.nm.length<=1000
 kids:l.kids.length<=1000
 fh:l.f.fh.length<=1000
 cu:l.f.cu.length<=1000
 gA:l.gA.length<=1000
theorem smL.ok{l:eV}(h:smL l):okL l:=by
 obtain⟨h1,C,h3,h4,h5⟩:=h;exact⟨S,S,S,S,S⟩
theorem U7(s:List Int):(Q6 s).length=s.length+1:=by
 unfold Q6;split<;>simp[Mr]
theorem Mz(s:List Int)(hs:s.length<=12):(wz s).fh.length<=1000/\(wz s).cu.length<=1000:=by
 have h1:=Q8 s 1;have ht:=wR h1.1 (d:=3) fg;unfold wz
 repeat' split
 all_goals first
  |exact⟨aR _,aR _⟩
  |(refine⟨?_,aR _⟩
    rw[Q9];have:((f12 s 1).tmod 3).toNat<=2:=by omega
    have:=Nat.mul_le_mul (show 2*((f12 s 1).tmod 3).toNat+1<=5 by omega) (show 2*((f12 s 1).tmod 3).toNat+1<=5 by omega);omega)
  |(refine⟨aR _,?_⟩
    show(Q6 (s.drop 1)).length<=1000;rw[U7,dA];omega)
theorem U8(s:S8):smL (mA s):=by
 refine⟨?_,aR _,?_,?_,?_⟩
 . show(OX s.s1).length<=1000;unfold OX;rw[dA,bf];simp only[aN,cm];omega
 . show(if HE s=3 then wz (l12 s)else uv).fh.length<=1000;split
   . exact(Mz (l12 s) (aK 12)).1
   . exact aR _
 . show(if HE s=3 then wz (l12 s)else uv).cu.length<=1000;split
   . exact(Mz (l12 s) (aK 12)).2
   . exact aR _
 . show(if HE s=5 then Ja s.s6 s.s7 (Rb s)else[]).length<=1000;split
   . unfold Ja Rb;rw[bM,List.length_range];have:(BitVec.ofInt 64 s.s5&&&BitVec.ofInt 64 (3:Int)).toNat<=3:=by
      rw[BitVec.toNat_and];exact Nat.and_le_right
     omega
   . exact aR _
set_option maxRecDepth 10000
section
variable(xs:List Int)(x:eV)(ls:List eV)(i j n:Nat)
def Tx(nx:Int):Int:=IntKind.i64.wrap (1+(an (xs.getD (i+7) 0) 65535).tmod nx)
def rK(o:Int):eV:=if x.kd=4 then { x with of:=o }else x
def vx(o:Int):eV:=if x.kd=1/\0<n then { x with sp:=o }else x
noncomputable def U9(d:Dc):eV:=vx (rK { mA (U4 xs i)with id:=d.nx } (Tx xs i d.nx)) d.sp.length (an (xs.getD (i+5) 0) 1)
def k8:List Int:=((List.range j).filter fun k=>(ls.getD k gM).kd==2).map Int.ofNat
theorem Ok:k8 ls (j+1)=if((ls.getD j gM).kd==2)=true then k8 ls j++[Int.ofNat j]else k8 ls j:=by
 unfold k8;rw[List.range_succ,List.filter_append,bL];by_cases h:((ls.getD j gM).kd==2)=true
 . rw[aF h,List.filter_cons_of_pos (p:=fun k=>(ls.getD k gM).kd==2) h];rfl
 . rw[aD h,List.filter_cons_of_neg (p:=fun k=>(ls.getD k gM).kd==2) h];simp
theorem Jq{ls:List eV}{j:Nat}{y:Int}:y∈k8 ls j↔∃k,k<j/\(ls.getD k gM).kd=2/\y=Int.ofNat k:=by
 unfold k8;simp only[bP,List.mem_filter,bQ,ct];constructor
 . rintro⟨k,⟨h1,C⟩,rfl⟩;exact⟨k,h1,C,rfl⟩
 . rintro⟨k,h1,C,rfl⟩;exact⟨k,⟨h1,C⟩,rfl⟩
def gI:Nat:=((an (xs.getD (i+8) 0) 65535).tmod (Int.ofNat n)).toNat
def mI(d:Dc):Nat:=((k8 d.ly d.ly.length).getD (gI xs i (k8 d.ly d.ly.length).length) 0).toNat
def nxI(d:Dc):Int:=IntKind.i64.wrap (IntKind.i64.wrap (d.nx+1)+an ((xs.getD (i+8) 0).fdiv 65536) 1)
def pI:Nat:=((an ((xs.getD (i+8) 0).fdiv 16) 65535).tmod (Int.ofNat (n+1))).toNat
def xM(W:List Int)(p:Nat)(id:Int):List Int:=W.take p++id::W.drop p
noncomputable def Ex(d:Dc):Dc where
 sp:=d.sp
 root:=1
 nx:=nxI xs i d
 ly:=d.ly.set (mI xs i d) { d.at (mI xs i d)with kids:=xM (d.at (mI xs i d)).kids (pI xs i (d.at (mI xs i d)).kids.length) d.nx }++[U9 xs i d]
noncomputable def wT(d:Dc):Dc:=if(gU (Ex xs i d)).1=0 then Ex xs i d else d
theorem ZZ(d:Dc):(U9 xs i d).id=d.nx:=by
 unfold U9 vx rK;split<;>split<;>rfl
end
theorem GS{cs x:ai}{o n k:Nat}(h:dU cs o n=x)(hk:k<n)(hl:x.length=n):cs.getD (o+k) Eng.D.Bz=x.getD k Eng.D.Bz:=by
 subst h;unfold dU at hl ⊢;rw[ax,ax,cg,aF hk,cj]
theorem Ol{l:List eV}{i:Nat}(h:i<l.length):dU (fR l) (i*31) 31=(l.getD i gM).ds:=by
 rw[ax,au h];exact sL (f:=eV.ds) Ax l i h
theorem GU(a b:List eV):fR (a++b)=fR a++fR b:=by unfold fR;rw[bL,List.flatten_append]
theorem RP{l:List eV}{m:Nat}(h:m<l.length)(W:List Int):qL (fR l) (0+m*31+15) [.eM W.length (eL W)]=fR (l.set m { l.getD m gM with kids:=W }):=by
 have e:l=l.take m++(l.getD m gM::l.drop (m+1)):=by
  rw[ax,au h,cA,<- bC h,dj]
 generalize l.getD m gM=x at e ⊢;have hl:(l.take m).length=m:=by rw[bf];omega
 generalize l.take m=a at e hl;generalize l.drop (m+1)=b at e;subst e;have e1:(a++x::b).set m { x with kids:=W }=a++{ x with kids:=W }::b:=by rw[List.set_append_right _ _ S];simp[hl]
 have e2:∀y:eV,fR (a++y::b)=fR a++(y.ds++fR b):=fun y=>by rw[GU];rfl
 rw[e1,e2,e2];have hA:(fR a).length=0+m*31:=by rw[fS,hl,bI]
 generalize fR a=hc at hA ⊢;generalize fR b=aj;have:qL (hc++(x.ds++aj)) (0+m*31+15) [.eM W.length (eL W)]=hc++qL (x.ds++aj) 15 [.eM W.length (eL W)]:=by
  unfold qL;rw[<- hA,List.take_append,cr S,Nat.add_sub_cancel_left,cC];congr 3;rw[List.drop_append,List.drop_eq_nil_of_le S,bG];congr 1;omega
 rw[this];rfl
theorem Va(W:List Int)(p:Nat)(id:Int)(h:p<=W.length):ZY W p id=eL (xM W p id)/\0+(p-0)+1+(W.length-p)=(xM W p id).length:=by
 constructor
 . unfold ZY xM dU eL;simp only[cR,bI,dz,bA,bG];rw[bL,b9,dh,List.map_drop];have hl:(W.map (Eng.D.int .i64)).length=W.length:=bM ..;generalize W.map (Eng.D.int .i64)=fr at hl ⊢;rw[List.take_take,Nat.min_self,cr (l:=fr.take p++[Eng.D.int .i64 id]) (by rw[az,bf,bS];omega),cr (l:=fr.drop p) (by rw[dA];omega),cC];rfl
 . unfold xM;rw[az,aN,bf,dA];omega
set_option maxRecDepth 10000
structure jz(d:Dc):Prop where
 w:(iP d).1=0
 f:∀x∈d.ly,wB d.sp.length x=0
 k:∀x∈d.ly,rJ d x=true
 c:∀x∈d.ly,BM d x=false
 a:Fp d.ly false
 g:jO d.ly 100 d.root<=6
theorem tV{d:Dc}(h:(gU d).1=0):jz d:=by
 unfold gU at h;by_cases hw:(iP d).1=0
 . rw[aF hw]at h;cases h1:l8 (Ld d) d.ly.length with
   |some i=>
    rw[h1]at h;obtain⟨_,C,_⟩:=UX h1;unfold Ld at C;rw[bne_iff_ne]at C;exact absurd h C
   |none=>
   rw[h1]at h;cases C:l8 (B8 d) d.ly.length with
   |some i=>rw[C]at h;exact absurd h (by simp only;decide)
   |none=>
   rw[C]at h;cases h3:l8 (AE d) d.ly.length with
   |some i=>rw[h3]at h;exact absurd h (by simp only;decide)
   |none=>
   rw[h3]at h;cases h4:l8 (Oj d) d.ly.length with
   |some i=>rw[h4]at h;exact absurd h (by simp only;decide)
   |none=>
   rw[h4]at h;simp only at h;split at h
   . exact absurd h (by simp only;decide)
   . rename_i h5;refine⟨hw,fun x K=>?_,fun x K=>?_,fun x K=>?_,fun x K=>?_,S⟩
     all_goals obtain⟨j,hj,rfl⟩:=AF K
     . have:=pL h1 j hj;unfold Ld at this;simpa using this
     . have:=pL C j hj;unfold B8 at this;simpa using this
     . exact pL h3 j hj
     . exact pL h4 j hj
 . rw[aD hw]at h;exact absurd h hw
theorem jz.Tz{d:Dc}(h:jz d):d.sp.length<=8/\d.ly.length<=40/\1<=d.nx/\d.nx<=1048576:=DI (sP h.w).1
theorem jz.kids{d:Dc}(h:jz d):∀x∈d.ly,x.kids.length<=100:=fun x K=>by
 have h1:=AA K;have C:=lT h.k;have h3:=h.Tz;omega
theorem jz.grp{d:Dc}(h:jz d):∃k,k<d.ly.length/\(d.at k).kd=2:=by
 have h1:=(sP h.w).2.2.2;unfold mC at h1;cases hn:jq d.ly d.root with
 |none=>rw[hn]at h1;cases h1
 |some n=>
  rw[hn]at h1;obtain⟨fj,_,_⟩:=iG hn;exact⟨n,fj,by simpa using h1⟩
structure Ey(d:Dc):Prop where
 nx1:1<=d.nx
 nx2:d.nx<=1048576
 len:d.ly.length<=40
 grp:∃k,k<d.ly.length/\(d.at k).kd=2
 kids:∀x∈d.ly,x.kids.length<=100
 fs:B9 d
theorem RR(s:S8):zC (mA s):=by
 have h:=U8 s;have h1:=h.nm;have C:=h.kids;have h3:=h.fh;have h4:=h.cu;have h5:=h.gA;refine⟨S,S,S,S,S,?_,?_⟩
 . show(if HE s=1 then ot [s.s4,s.s5,s.s6,s.s7,s.s2]else[]).length<=1000000;split
   . exact bN (xG _) fg
   . exact aR _
 . show(if an s.s3 192=64 then ot [s.s3,s.s4,s.s5]else[]).length<=1000000;split
   . exact bN (xG _) fg
   . exact aR _
section
variable(xs:List Int)(i:Nat)
theorem Z0(d:Dc):zC (U9 xs i d)/\(U9 xs i d).kids=[]:=by
 have h:=RR (U4 xs i);have k:(mA (U4 xs i)).kids=[]:=rfl;unfold U9;generalize mA (U4 xs i)=y at h k;unfold vx rK;obtain⟨h1,C,h3,h4,h5,h6,h7⟩:=h;split<;>split<;>exact⟨⟨h1,C,h3,h4,h5,h6,h7⟩,k⟩
theorem Xh{xs:List Int}{i:Nat}{d:Dc}(h:∃k,k<d.ly.length/\(d.at k).kd=2):gI xs i (k8 d.ly d.ly.length).length<(k8 d.ly d.ly.length).length/\mI xs i d<d.ly.length/\(k8 d.ly d.ly.length).getD (gI xs i (k8 d.ly d.ly.length).length) 0=Int.ofNat (mI xs i d):=by
 obtain⟨k,hk,hk2⟩:=h;have L:Int.ofNat k∈k8 d.ly d.ly.length:=Jq.2 ⟨k,hk,hk2,rfl⟩;have hl:0<(k8 d.ly d.ly.length).length:=List.length_pos_of_mem L;have hg:gI xs i (k8 d.ly d.ly.length).length<(k8 d.ly d.ly.length).length:=by
  unfold gI;have:=wR (show 0<=an (xs.getD (i+8) 0) 65535 from(Bl (xs.getD (i+8) 0) 65535 fg).1) (d:=Int.ofNat (k8 d.ly d.ly.length).length) (by simp only[gD];omega);simp only[gD]at this ⊢;omega
 have Gg:(k8 d.ly d.ly.length).getD (gI xs i (k8 d.ly d.ly.length).length) 0∈k8 d.ly d.ly.length:=by
  rw[ax,au hg];exact bV hg
 obtain⟨j,hj,_,e⟩:=Jq.1 Gg;have e2:mI xs i d=j:=by unfold mI;rw[e];rfl
 exact⟨hg,S,by rw[e,e2]⟩
theorem afw(n:Nat):pI xs i n<=n:=by
 unfold pI;have:=wR (show 0<=an ((xs.getD (i+8) 0).fdiv 16) 65535 from(Bl ((xs.getD (i+8) 0).fdiv 16) 65535 fg).1) (d:=Int.ofNat (n+1)) (by simp only[gD];omega);simp only[gD]at this ⊢;omega
theorem Jr(W:List Int)(p:Nat)(id:Int):(xM W p id).length=W.length+1:=by
 unfold xM;rw[az,aN,bf,dA];omega
theorem MA{d:Dc}(h:Ey d):B9 (Ex xs i d):=by
 have hl:∀x∈(Ex xs i d).ly,zC x:=fun x K=>by
  rcases bj.1 K with q|q
  . rcases List.mem_or_eq_of_mem_set q with q|q
    . exact h.fs.y x q
    . subst q;obtain⟨h1,C,h3,h4,h5,h6,h7⟩:=h.fs.at (mI xs i d);refine⟨h1,?_,h3,h4,h5,h6,h7⟩;show(xM _ _ _).length<=1000000;rw[Jr];have:=Le (d:=d) (p:=fun x=>x.kids.length<=100) (aR _) h.kids (mI xs i d);omega
  . rw[aI]at q;subst q;exact(Z0 xs i d).1
 refine⟨⟨?_,fun x K=>(hl x K).kids⟩,h.fs.s,hl⟩;show(List.length (_++_))<=1000000;rw[az,List.length_set];have:=h.len;simp only[aN,cm];omega
theorem Om{d:Dc}(h:Ey d):Ey (wT xs i d):=by
 unfold wT;split
 . rename_i A;have k:=tV A;obtain⟨_,k1,k2,k3⟩:=k.Tz;exact⟨k2,k3,k1,k.grp,k.kids,MA xs i h⟩
 . exact h
end
set_option maxRecDepth 10000
section
variable{xs:List Int}{i:Nat}
theorem vy(h:i<xs.length):∀a∈U5 xs i,a:=X (iI h) (X (eI xs) (eO (fP h)))
theorem rL{k:Nat}(h:i+k<=9000000000000000000):Xf i k:=aG (V.int .i64) (by rw[show Int.ofNat i+Int.ofNat k=Int.ofNat (i+k)from rfl];exact iz (by simp only[gD];omega) (by simp only[gD];omega))
theorem vz{hc aj:ah}(h1:∀a∈hc,a)(C:∀a∈aj,a):∀a∈hc++aj,a:=fun a ha=>(bj.1 ha).elim (h1 a) (C a)
theorem Z1(h:i+9<=xs.length)(K:i<=1000000):∀a∈r8A xs i,a:=by
 refine vz (vy S) (X (rL S) (vz (vy S) (X (rL S) (vz (vy S) (X (rL S) (vz (vy S) (X (rL S) (vz (vy S) (X (rL S) (vz (vy S) (X (rL S) (vz (vy S) (X (rL S) (vz (vy S) (eO rfl)))))))))))))))
end
def sMe(xs:List Int)(c:Nat)(d:Dc)(i:Nat)(x:eV)(r:List (Nat×V)):List Int->St
 | []=>Lj xs c d i x r
 |y::l=>Lk xs c d i x (y::l) r
theorem kF.Fl{N n0:Nat}{s dF:St}(ms live:List Nat){hc:ah}(e:Fl N ms live s=some (hc,dF))(hA:∀x∈hc,x):kF N n0 s dF:=by
 unfold YtmjggdmekboefaaGreat.Fl at e;split at e
 case h_2=>cases e
 rename_i A1 s1 h1;split at e
 case h_2=>cases e
 rename_i S1 C;obtain⟨rfl,rfl⟩:=gr e;exact(kF.fz ms h1 hA).trans (kF.norm C)
theorem Fs{W:List Int}{a b:Nat}(h:a+b<=W.length):(dU (eL W) a b).length=b:=by
 unfold dU;rw[bf,dA,eI];omega
section
variable(xs:List Int)(c:Nat)
theorem ao8(d:Dc)(i:Nat)(x:eV)(UY:U9 xs i d=x)(hd:Ey d)(hi:i+9<=xs.length)(K:i<=1000000){hx:Exit->St->Prop}(hK:∀T,eJ ak 0 Tryz.f34.ntmps T (zE xs c (wT xs i d) [(6,J i)])->hx .normal T):TG ak 0 Tryz.f34.ntmps ZW (JZ xs c d i x [(8,fD (k8 d.ly d.ly.length))]) hx:=by
 have hr:=(⟨iI (show i+8<xs.length by omega),eI xs,fP (show i+8<xs.length by omega)⟩:((0:Int)<=Int.ofNat (i+8)/\Int.ofNat (i+8)<Int.ofNat xs.length)/\(eL xs).length=xs.length*1/\V.eo (dU (eL xs) ((i+8)*1) 1)=xI xs (i+8));have hw:=rL (i:=i) (k:=8) S;obtain⟨hg,L,Uu⟩:=Xh (xs:=xs) (i:=i) hd.grp;have D1:0<(k8 d.ly d.ly.length).length:=by omega
 have hgl:(k8 d.ly d.ly.length).length<=40:=by
  have h1:(k8 d.ly d.ly.length).length<=d.ly.length:=by
   unfold k8;rw[bM];exact bN (List.length_filter_le ..) (by rw[List.length_range];exact aK _)
  have:=hd.len;omega
 have hgi:(an (xs.getD (i+8) 0) 65535).tmod (Int.ofNat (k8 d.ly d.ly.length).length)=Int.ofNat (gI xs i (k8 d.ly d.ly.length).length):=by
  unfold gI;have:=wR (show 0<=an (xs.getD (i+8) 0) 65535 from(Bl (xs.getD (i+8) 0) 65535 fg).1) (d:=Int.ofNat (k8 d.ly d.ly.length).length) (by simp only[gD];omega);exact(cZ this.1).symm
 have Z2:(an ((xs.getD (i+8) 0).fdiv 16) 65535).tmod (Int.ofNat ((d.at (mI xs i d)).kids.length+1))=Int.ofNat (pI xs i (d.at (mI xs i d)).kids.length):=by
  unfold pI;have:=wR (show 0<=an ((xs.getD (i+8) 0).fdiv 16) 65535 from(Bl ((xs.getD (i+8) 0).fdiv 16) 65535 fg).1) (d:=Int.ofNat ((d.at (mI xs i d)).kids.length+1)) (by simp only[gD];omega);exact(cZ this.1).symm
 have hp:=afw xs i (d.at (mI xs i d)).kids.length;have hkl:=Le (d:=d) (p:=fun x=>x.kids.length<=100) (aR _) hd.kids (mI xs i d);have jJ:=hd.len;have oH:=fP hg;rw[Uu]at oH;have CM:((fR d.ly).getD (0+mI xs i d*31+15) Eng.D.Bz).kx=fD (d.at (mI xs i d)).kids:=by
  rw[bI,GS (Ol L) fg (Ax _)];rfl
 have rC:Ex xs i d={ sp:=d.sp,root:=1,nx:=nxI xs i d,ly:=d.ly.set (mI xs i d) { d.at (mI xs i d)with kids:=xM (d.at (mI xs i d)).kids (pI xs i (d.at (mI xs i d)).kids.length) d.nx }++[x] }:=by unfold Ex;rw[UY]
 have HB:=RP L (xM (d.at (mI xs i d)).kids (pI xs i (d.at (mI xs i d)).kids.length) d.nx);have ao9:x.id=d.nx:=by rw[<- UY];exact ZZ xs i d
 have hC:=GR (Ex xs i d) (MA xs i hd);have wm:wT xs i d=if(gU (Ex xs i d)).1=0 then Ex xs i d else d:=rfl
 change qL _ _ _=fR (d.ly.set (mI xs i d) { d.at (mI xs i d)with kids:=_ })at HB;generalize hN:Ex xs i d=n0 at rC hC wm;refine fN 1 (be _) (aoU xs c d i x _ _ (mI xs i d)) (X hw (X hr.1 (X hr.2.1 (X hr.2.2 (X (by simp only[gD];omega) (X (aG (V.int .i64) hgi) (X (iI hg) (X (eI _) (eO oH))))))))) ?_;have hi9:=aoV xs c d i x (mI xs i d) (nxI xs i d);rw[bI,bG]at hi9;refine fN 1 (be _) hi9 (X hw (X hr.1 (X hr.2.1 (X hr.2.2 (X rfl (X (fS _) (eO (aW S))))))) ) ?_;generalize nxI xs i d=nx at rC ⊢;generalize mI xs i d=m at *;generalize hke:(d.at m).kids=W at *;generalize pI xs i W.length=p at *;refine fN 1 (be _) (aoW xs c d i x m nx d.ly.length (fR d.ly) W) (X (iI L) (X (by rw[fS];omega) (X CM (X (eI _) (eO (GI S)))))) ?_;rw[bI,bG];refine eJ.Fl [5] [0,1,4,5,6,7,10,11,12] (dF:=Tw xs c d i x nx d.ly.length (fR d.ly) [(10,J m),t11,(12,fD W)]) (hc:=[(eL W).length=W.length*1]) dJ (eO (eI _)) _ _ ?_;refine fN 1 (be _) (aoX xs c d i x m nx d.ly.length (fR d.ly) W p) (X hw (X hr.1 (X hr.2.1 (X hr.2.2 (X (gV S) (X (by simp only[gD];omega) (eO (aG (V.int .i64) Z2)))))))) ?_;obtain⟨L1,Tn⟩:=aoY xs c d i x m nx d.ly.length (fR d.ly) W p;obtain⟨L2,PS⟩:=aoZ xs c d i x nx d.ly.length (0+m*31+15) (fR d.ly) (xM W p x.id);obtain⟨pk1,pk2⟩:=Va W p x.id hp;rw[pk1,pk2]at Tn;rw[ao9]at Tn PS;refine dY dJ (ZV (XH (be _) []) (XH (be _) []) mo dJ Tn ?_ (kF.Fl [5] [0,1,4,5,6,7,11,204,206] (dF:=Tw xs c d i x nx d.ly.length (fR d.ly) [t11,(204,fD (xM W p d.nx)),(206,.ptr (some (4,0+m*31+15)))]) (hc:=[(eL (xM W p d.nx)).length=(xM W p d.nx).length*1]) dJ (eO (eI _))) PS (dK (g0 ⟨eO (by rw[fS];omega),_,rfl,fun T eu=>?_⟩)))
 . have b:(0:Int)<=Int.ofNat p/\Int.ofNat p<=Int.ofNat W.length:=⟨bJ _,by simp only[gD];omega⟩;have c1:(dU (eL W) 0 ((p-0)*1)).length=(p-0)*1:=Fs S;refine X (eI _) (X b (X c1 (X (GI S) (X (by rw[bG,c1];omega) (X fg (X (GI S) (X (eI _) (X b (X (eI _) (X b (X (eI _) (X b (X (Fs S) (X ?_ (X (GI (by rw[Jr];omega)) (eO (iI L)))))))))))))))));rw[az,bf,bA,bG,c1,bS];omega
 simp only[andThen];rw[HB]at eu;refine gj eu ?_;generalize Ay:d.ly.set m { d.at m with kids:=xM W p d.nx }=ls at rC ⊢;have hll:ls.length=d.ly.length:=by rw[<- Ay,List.length_set]
 have hn8:=ao0 xs c d i x nx d.ly.length (fR ls);have e8:List.take (d.ly.length*31) (List.drop 0 (fR ls))++x.ds=fR (ls++[x]):=by
  rw[bA,cr (by rw[fS,hll];exact aK _),GU];congr 1
 have e9:d.ly.length+1=(ls++[x]).length:=by rw[az,hll];rfl
 rw[e8,e9]at hn8;refine fN 1 (be _) hn8 (X (by rw[fS,hll];omega) (X fg (eO (aW (by rw[<- e9];omega))))) ?_;refine eJ.Fl [3] [0,1,4,5,6,11] (dF:=sMq xs c d n0 i) (hc:=[(fR (ls++[x])).length=(ls++[x]).length*31]) (by rw[rC];kernel_rfl) (eO (fS _)) _ _ ?_;refine gw (ff hC (be _)) eP (ao1 xs c d n0 i (gU n0).1 (gU n0).2) (dN (g1 fun h=>⟨eO rfl,fun T eu=>hK T ?_⟩) (dK (g1 fun h=>⟨eO rfl,fun T eu=>hK T ?_⟩)))
 . rw[wm,aF (by simpa using h)];exact eJ.norm eu
 . rw[wm,aD (by simpa using h)];exact eJ.norm eu
theorem apa(d:Dc)(i:Nat)(x:eV)(UY:U9 xs i d=x)(hd:Ey d)(hi:i+9<=xs.length)(K:i<=1000000){hx:Exit->St->Prop}(hK:∀T,eJ ak 0 Tryz.f34.ntmps T (zE xs c (wT xs i d) [(6,J i)])->hx .normal T):TG ak 0 Tryz.f34.ntmps (dH 4 AH) (JZ xs c d i x []) hx:=by
 refine fN 1 (be _) (aoQ xs c d i x) all_nil ?_;rw[show dH 1 (dH 4 AH)=RJ from by kernel_rfl];refine dY dJ (dY dJ (gw (be _) eP (aoR xs c d i x) (dK (g0 ⟨all_nil,fun T eu=>?_⟩))));simp only[andThen];have jJ:=hd.len;refine je 2 d.ly.length (fun j=>sMe xs c d i x [(9,J j)] (k8 d.ly j)) (fun _=>false) (eJ.norm eu) (fun j hj _ Q' k1 k2 k3=>?_) (fun _ T eu=>?_)
 . have hA:=fun(h:(decide (Int.ofNat j<Int.ofNat d.ly.length))=true)=>(⟨iI (kA h),fS d.ly,ik (kA h)⟩:((0:Int)<=Int.ofNat j/\Int.ofNat j<Int.ofNat d.ly.length)/\(fR d.ly).length=d.ly.length*31/\V.eo (dU (fR d.ly) (j*31) 31)= .eo (d.at j).ds);have hs:k8 d.ly (j+1)=if((d.at j).kd==2)=true then k8 d.ly j++[Int.ofNat j]else k8 d.ly j:=Ok d.ly j
   have hgl:(k8 d.ly j).length<=40:=by
    unfold k8;rw[bM];exact bN (List.length_filter_le ..) (by rw[List.length_range];omega)
   have PO:∀l,k8 d.ly j=l->∀T,eJ ak 0 Tryz.f34.ntmps T (sMe xs c d i x [(9,J j)] l)->eJ ak 0 Tryz.f34.ntmps T (sMe xs c d i x [(9,J j)] (k8 d.ly j)):=fun l e T h=>e▸h;generalize hgq:k8 d.ly j=l at hs hgl ⊢;cases l with
   |nil=>
    refine gw (be _) eP (aoS xs c d i x (d.at j) j) (dN (g2 fun h1 C=>?_) (dN (g2 fun h1 C=>?_) (dK (g1 fun h1=>⟨all_nil,fun T eu=>k2 (by have:=rG h1;omega) T (PO _ hgq T (eJ.norm eu))⟩))))
    . obtain⟨a1,a2,a3⟩:=hA h1;refine⟨X a1 (X a2 (X a3 (eO (gV (by have:=kA h1;omega))))),fun T eu=>k1 (kA h1) rfl T ?_⟩;rw[hs,aF C];exact(eJ.norm eu).trans (eJ.own [(3,.i64)] (dF:=Lk xs c d i x [Int.ofNat j] [(9,J (j+1))]) dJ)
    . obtain⟨a1,a2,a3⟩:=hA h1;refine⟨X a1 (X a2 (X a3 (eO (gV (by have:=kA h1;omega))))),fun T eu=>k1 (kA h1) rfl T ?_⟩;rw[hs,aD (show ¬((d.at j).kd==2)=true by rw[C];decide)];exact eJ.norm eu
   |cons y l=>
    have hp:0<(y::l).length:=by simp only[aN];omega
    refine gw (be _) eP (aoT xs c d i x (d.at j) (y::l) j) (dN (g2 fun h1 C=>?_) (dN (g2 fun h1 C=>?_) (dK (g1 fun h1=>⟨all_nil,fun T eu=>k2 (by have:=rG h1;omega) T (PO _ hgq T (eJ.norm eu))⟩))))
    . obtain⟨a1,a2,a3⟩:=hA h1;refine⟨X a1 (X a2 (X a3 (X hp (X S (X fg (X (GI S) (eO (gV (by have:=kA h1;omega))))))))),fun T eu=>k1 (kA h1) rfl T ?_⟩;rw[hs,aF C];have e:sMg xs c d i x (y::l) j [(9,J (j+1))]=Lk xs c d i x (y::l++[Int.ofNat j]) [(9,J (j+1))]:=by
       unfold sMg Lk;rw[bA,cR,br,az];rfl
      rw[e]at eu;exact eJ.norm eu
    . obtain⟨a1,a2,a3⟩:=hA h1;refine⟨X a1 (X a2 (X a3 (eO (gV (by have:=kA h1;omega))))),fun T eu=>k1 (kA h1) rfl T ?_⟩;rw[hs,aD (show ¬((d.at j).kd==2)=true by rw[C];decide)];exact eJ.norm eu
 simp only[andThen];refine eu _ _ ?_;have L:=Xh (xs:=xs) (i:=i) hd.grp;have A:=ao8 xs c d i x UY hd hi K hK;generalize k8 d.ly d.ly.length=l at L A ⊢;cases l with
 |nil=>exact absurd L.1 (bE _)
 |cons y l=>exact eJ.Fl [3] [0,1,4,5,6,7,8] (dF:=JZ xs c d i x [(8,fD (y::l))]) (hc:=[(eL (y::l)).length=(y::l).length*1]) dJ (eO (eI _)) _ _ A
theorem RS(d:Dc)(i:Nat)(hd:Ey d)(hi:i+9<=xs.length)(K:i<=1000000){hx:Exit->St->Prop}(hK:∀T,eJ ak 0 Tryz.f34.ntmps T (zE xs c (wT xs i d) [(6,J i)])->hx .normal T):TG ak 0 Tryz.f34.ntmps AH (zE xs c d [(6,J i)]) hx:=by
 have hr:=fun k (hk:k<=8)=>(⟨iI (show i+k<xs.length by omega),eI xs,fP (show i+k<xs.length by omega)⟩:((0:Int)<=Int.ofNat (i+k)/\Int.ofNat (i+k)<Int.ofNat xs.length)/\(eL xs).length=xs.length*1/\V.eo (dU (eL xs) ((i+k)*1) 1)=xI xs (i+k));have hw:=fun k (hk:k<=8)=>rL (i:=i) (k:=k) S;refine fN 2 (ff (alU (U4 xs i)) (be _)) (aoN xs c d i (mA (U4 xs i))) (Z1 hi K) ?_;have TA:d.nx≠0:=by have:=hd.nx1;omega
 generalize Wr:({ mA (U4 xs i)with id:=d.nx }:eV)=x1;refine dY dJ ?_;have A7:∀a∈[V.int .i64 (IntKind.i64.wrap (Int.ofNat i+(7:Int)))=J (i+7),(0:Int)<=Int.ofNat (i+7)/\Int.ofNat (i+7)<Int.ofNat xs.length,(eL xs).length=xs.length*1,V.eo (dU (eL xs) ((i+7)*1) 1)=xI xs (i+7),d.nx≠(0:Int),V.int .i64 (Tx xs i d.nx)=R (Tx xs i d.nx)],a:=X (hw 7 S) (X (hr 7 S).1 (X (hr 7 S).2.1 (X (hr 7 S).2.2 (X TA (eO rfl)))));have s1:TG ak 0 Tryz.f34.ntmps (dH 3 AH) (JZ xs c d i (rK x1 (Tx xs i d.nx)) []) hx:=by
  have A5:∀a∈[V.int .i64 (IntKind.i64.wrap (Int.ofNat i+(5:Int)))=J (i+5),(0:Int)<=Int.ofNat (i+5)/\Int.ofNat (i+5)<Int.ofNat xs.length,(eL xs).length=xs.length*1,V.eo (dU (eL xs) ((i+5)*1) 1)=xI xs (i+5),V.int .i64 (an (xs.getD (i+5) 0) 1)=R (an (xs.getD (i+5) 0) 1)],a:=X (hw 5 S) (X (hr 5 S).1 (X (hr 5 S).2.1 (X (hr 5 S).2.2 (eO rfl))));have UY:U9 xs i d=vx (rK x1 (Tx xs i d.nx)) d.sp.length (an (xs.getD (i+5) 0) 1):=by rw[<- Wr];rfl
  have U:=apa xs c d i _ UY hd hi K hK;generalize rK x1 (Tx xs i d.nx)=x2 at U;have AW:¬(x2.kd=1/\0<d.sp.length)->TG ak 0 Tryz.f34.ntmps (dH 4 AH) (JZ xs c d i x2 []) hx:=fun h=>by
   have e:vx x2 d.sp.length (an (xs.getD (i+5) 0) 1)=x2:=by unfold vx;rw[aD h]
   rw[e]at U;exact U
  rw[show dH 3 AH= .seq (dO (dH 3 AH)) (dH 4 AH)from by kernel_rfl];refine KI (gw (be _) eP (aoP xs c d i x2 (an (xs.getD (i+5) 0) 1)) (dN (g2 fun h1 C=>⟨A5,fun T eu=>?_⟩) (dN (g2 fun h1 C=>⟨all_nil,fun T eu=>?_⟩) (dK (g1 fun h1=>⟨all_nil,fun T eu=>?_⟩)))))
  . simp only[andThen];refine gj eu ?_;have e:vx x2 d.sp.length (an (xs.getD (i+5) 0) 1)={ x2 with sp:=an (xs.getD (i+5) 0) 1 }:=by unfold vx;rw[aF ⟨by simpa using h1,by have:=aZ C;simp only[gD]at this;omega⟩]
    rw[e]at U;exact U
  . simp only[andThen];refine gj eu (AW fun q=>?_);have:=bt C;simp only[gD]at this;omega
  . simp only[andThen];refine gj eu (AW fun q=>?_);rw[q.1]at h1;cases h1
 refine gw (be _) eP (aoO xs c d i x1 (Tx xs i d.nx)) (dN (g1 fun h=>⟨A7,fun T eu=>?_⟩) (dK (g1 fun h=>⟨all_nil,fun T eu=>?_⟩)))
 . simp only[andThen];refine gj eu ?_;have e:rK x1 (Tx xs i d.nx)={ x1 with of:=Tx xs i d.nx }:=by unfold rK;rw[aF (by simpa using h)]
   rw[<- e];exact s1
 . simp only[andThen];refine gj eu ?_;have e:rK x1 (Tx xs i d.nx)=x1:=by unfold rK;rw[aD (by simpa using h)]
   rw[e]at s1;exact s1
end
set_option maxRecDepth 10000
theorem apb:H (M ew []) [] 0 Tryz.f80 [] (dQ Tryz.f80) (dI [] .nil 0) [([],[],.ret (.agg [.fk none 0 0 0,.int .i64 1,.int .i64 2,.fk (some (0,0)) 1 1 31]) (hL [(0,.cells [.int .i64 1,.int .i64 2,.str [],.bool false,.int .i64 255,.int .i64 0,.bool false,.int .i64 0,.int .i64 0,.int .i64 0,.int .i64 0,.int .i64 0,.int .i64 0,.int .i64 0,.int .i64 0,.fk none 0 0 0,.int .i64 0,.int .i64 0,.int .i64 0,.fk none 0 0 0,.int .i64 0,.int .i64 0,.fk none 0 0 0,.int .u8 0,.int .u8 0,.int .u8 0,.int .u8 0,.fk none 0 0 0,.fk none 0 0 0,.bool false,.fk none 0 0 0])]) 1)]:=G.Y
theorem apc:H (M ew []) [] 0 Tryz.f112 [] (dQ Tryz.f112) (dI [] .nil 0) [([],[],.ret (.agg [.fk (some (0,0)) 2 2 1,.fk (some (0,0)) 2 2 1,.fk (some (0,0)) 2 2 1,.int .i64 4096,.int .i64 0,.int .i64 0,.int .i64 0,.int .i64 4096,.int .i64 0,.int .i64 0,.int .i64 0,.int .i64 4096,.int .i64 4096,.int .i64 0,.int .i64 0,.int .i64 0,.int .i64 4096,.int .i64 0,.int .i64 0,.int .i64 0,.int .i64 4096]) (hL [(0,.cells [.int .i64 0,.int .i64 65535])]) 1)]:=G.Y
section
variable(k:Int)(q:Nat)(s:Sp)(a:Int)
theorem apd:H (M ew []) [(6,.split),(9,.split),(12,.split)] 0 Tryz.f113 [] (dQ Tryz.f113) (dI [R k] .nil 0) (YE (IntKind.i64.wrap (Int.ofNat (BitVec.ofInt 64 k&&&BitVec.ofInt 64 (3:Int)).toNat)==(1:Int)) (IntKind.i64.wrap (Int.ofNat (BitVec.ofInt 64 k&&&BitVec.ofInt 64 (3:Int)).toNat)==(2:Int)) (IntKind.i64.wrap (Int.ofNat (BitVec.ofInt 64 k&&&BitVec.ofInt 64 (3:Int)).toNat)==(3:Int)) ([],.ret (.fk (some (0,0)) 5 5 1) (hL [(0,.cells [.int .i64 0,.int .i64 4096,.int .i64 16384,.int .i64 36864,.int .i64 65535])]) 1) ([],.ret (.fk (some (0,0)) 3 3 1) (hL [(0,.cells [.int .i64 0,.int .i64 40000,.int .i64 65535])]) 1) ([],.ret (.fk (some (0,0)) 5 5 1) (hL [(0,.cells [.int .i64 100,.int .i64 100,.int .i64 30000,.int .i64 30000,.int .i64 65000])]) 1) ([],.ret (.fk (some (0,0)) 2 2 1) (hL [(0,.cells [.int .i64 0,.int .i64 65535])]) 1)):=G.Y
def sp1:Sp:=⟨[0,65535],[0,65535],[0,65535],⟨4096,0,0,0,4096,0,0,0,4096⟩,⟨4096,0,0,0,4096,0,0,0,4096⟩⟩
noncomputable abbrev afx:Code:=dQ Tryz.f81
noncomputable abbrev Z3:Code:=dH 7 afx
noncomputable abbrev bSp:Code:=dP (dP (eB (dO Z3)))
def zSp:ag:=[gH,gH,gH]++D.gk ((⟨0,0,0,0,0,0,0,0,0⟩:M9).ds++(⟨0,0,0,0,0,0,0,0,0⟩:M9).ds)
def On(r:List (Nat×V)):St:=fI ([(0,J q),(2,.ptr (some (0,0))),(3,.ptr (some (1,0)))]++r) (hL [(0,.cells zSp),(1,.cells (D.gk s.ds))]) 2
def mT:Nat->M9
 |0=>⟨4096,0,0,0,4096,0,0,0,4096⟩
 |1=>⟨0,4096,0,0,0,4096,4096,0,0⟩
 |2=>⟨2048,0,0,0,8192,0,0,0,4096⟩
 |_=>⟨4096,2048,0,0,4096,0,0,1024,4096⟩
def mF:Nat->M9
 |0=>⟨4096,0,0,0,4096,0,0,0,4096⟩
 |1=>⟨0,0,4096,4096,0,0,0,4096,0⟩
 |2=>⟨8192,0,0,0,2048,0,0,0,4096⟩
 |_=>⟨4096,-2048,0,0,4096,0,0,-1024,4096⟩
def sp4(r:Nat):Sp:=⟨[0,65535],[0,65535],[0,65535],mT r,mF r⟩
abbrev n4(i:Nat):Prop:=(0:Int)<=Int.ofNat i/\Int.ofNat i<4
theorem apf:∀r,r<4->H (M (fa 112 [] sp1.v ew) []) [(10,.dL (J q)),(25,.dL (J r)),(30,.dL (J r))] 0 Tryz.f81 [0,2,3] (ek 7 afx) (dI [R k] .nil 0)
  [([],[V.int .i64 ((IntKind.i64.wrap (k.tmod (256:Int)+(256:Int))).tmod (256:Int))=J q,fG [],V.int .i64 ((Int.ofNat q).tmod (4:Int))=J r,n4 r,V.int .i64 ((Int.ofNat q).tmod (4:Int))=J r,n4 r],.to .normal (On q (sp4 r) []))]:=by
 intro r hr;obtain rfl|rfl|rfl|rfl:r=0\/r=1\/r=2\/r=3:=by omega
 all_goals exact G.Y
theorem apg:H (M ew []) [] 0 Tryz.f81 [0,2,3,6] (dO (dO Z3)) (On q s []) [([],[],eC (On q s [(6,J 0)]))]:=G.Y
theorem aph(l:List Int):H (M (fa 113 [R a] (fD l) ew) []) [(43,.dL (R a))] 0 Tryz.f81 [0,2,3,6] (bSp) (On q s [(6,J 0)]) [([],[(4:Int)≠(0:Int),V.int B ((IntKind.i64.wrap ((Int.ofNat q).tdiv (4:Int))).fdiv (1:Int))=R a,V.jj ([]++[R a]++[])=[R a],(0:Int)<=(0:Int)/\(0:Int)<(3:Int)],eC (On q { s with c0:=l } [(6,J 1)]))]:=G.Y
theorem api(l:List Int):H (M (fa 113 [R a] (fD l) ew) []) [(43,.dL (R a))] 0 Tryz.f81 [0,2,3,6] (bSp) (On q s [(6,J 1)]) [([],[(4:Int)≠(0:Int),V.int B ((IntKind.i64.wrap ((Int.ofNat q).tdiv (4:Int))).fdiv (4:Int))=R a,V.jj ([]++[R a]++[])=[R a],(0:Int)<=(1:Int)/\(1:Int)<(3:Int)],eC (On q { s with c1:=l } [(6,J 2)]))]:=G.Y
theorem apj(l:List Int):H (M (fa 113 [R a] (fD l) ew) []) [(43,.dL (R a))] 0 Tryz.f81 [0,2,3,6] (bSp) (On q s [(6,J 2)]) [([],[(4:Int)≠(0:Int),V.int B ((IntKind.i64.wrap ((Int.ofNat q).tdiv (4:Int))).fdiv (16:Int))=R a,V.jj ([]++[R a]++[])=[R a],(0:Int)<=(2:Int)/\(2:Int)<(3:Int)],eC (On q { s with c2:=l } [(6,J 3)]))]:=G.Y
theorem apk:H (M ew []) [] 0 Tryz.f81 [0,2,3,6] (bSp) (On q s [(6,J 3)]) [([],[],.to (.exit 0) (On q s [(6,J 3)]))]:=G.Y
theorem apl:H (M ew []) [] 0 Tryz.f81 [] (eB Z3) (On q s [(6,J 3)]) [([],[],.ret (.agg [.eM false (s.c0.length) (eL s.c0),.eM false (s.c1.length) (eL s.c1),.eM false (s.c2.length) (eL s.c2),.int .i64 (s.to.a),.int .i64 (s.to.b),.int .i64 (s.to.c),.int .i64 (s.to.d),.int .i64 (s.to.e),.int .i64 (s.to.f),.int .i64 (s.to.g),.int .i64 (s.to.h),.int .i64 (s.to.i),.int .i64 (s.F.a),.int .i64 (s.F.b),.int .i64 (s.F.c),.int .i64 (s.F.d),.int .i64 (s.F.e),.int .i64 (s.F.f),.int .i64 (s.F.g),.int .i64 (s.F.h),.int .i64 (s.F.i)]) (hL []) 0)]:=G.Y
end
set_option maxRecDepth 10000
section
variable(k:Int)
def zF:List Int:=if an k 3=1 then[0,4096,16384,36864,65535]else if an k 3=2 then[0,40000,65535]else if an k 3=3 then[100,100,30000,30000,65000]else[0,65535]
theorem DK{x k:Int}(h:(x==k)=false):¬x=k:=fun e=>by rw[xJ.2 e]at h;cases h
theorem cuD:ee ak 113 [R k] (fD (zF k)):=by
 refine mz Tryz.func113 (eR (be _) (apd k) (dN (g1 fun h1=>⟨all_nil,_,_,_,rfl,?_⟩) (dN (g2 fun h1 C=>⟨all_nil,_,_,_,rfl,?_⟩) (dN (g3 fun h1 C h3=>⟨all_nil,_,_,_,rfl,?_⟩) (dK (g3 fun h1 C h3=>⟨all_nil,_,_,_,rfl,?_⟩))))))
 . have e:zF k=[0,4096,16384,36864,65535]:=by unfold zF;rw[aF (show an k 3=1 from xJ.1 h1)]
   rw[e];exact .Am (v0:=fD [0,4096,16384,36864,65535]) [0] (hc:=[(eL [0,4096,16384,36864,65535]).length=5*1]) dJ (eO rfl) dJ dJ
 . have e:zF k=[0,40000,65535]:=by unfold zF;rw[aD (show ¬an k 3=1 from DK h1),aF (show an k 3=2 from xJ.1 C)]
   rw[e];exact .Am (v0:=fD [0,40000,65535]) [0] (hc:=[(eL [0,40000,65535]).length=3*1]) dJ (eO rfl) dJ dJ
 . have e:zF k=[100,100,30000,30000,65000]:=by unfold zF;rw[aD (show ¬an k 3=1 from DK h1),aD (show ¬an k 3=2 from DK C),aF (show an k 3=3 from xJ.1 h3)]
   rw[e];exact .Am (v0:=fD [100,100,30000,30000,65000]) [0] (hc:=[(eL [100,100,30000,30000,65000]).length=5*1]) dJ (eO rfl) dJ dJ
 . have e:zF k=[0,65535]:=by unfold zF;rw[aD (show ¬an k 3=1 from DK h1),aD (show ¬an k 3=2 from DK C),aD (show ¬an k 3=3 from DK h3)]
   rw[e];exact .Am (v0:=fD [0,65535]) [0] (hc:=[(eL [0,65535]).length=2*1]) dJ (eO rfl) dJ dJ
theorem apn:ee ak 112 [] sp1.v:=
 mz Tryz.func112 (eR (be _) apc (dK (g0 ⟨all_nil,_,_,_,rfl,.Am (v0:=sp1.v) [0] (hc:=[(eL [0,65535]).length=2*1,(eL [0,65535]).length=2*1,(eL [0,65535]).length=2*1]) dJ (X rfl (X rfl (eO rfl))) dJ dJ⟩)))
def d00:Dc:=⟨[],1,2,[{ gM with id:=1,kd:=2,op:=255 }]⟩
theorem afy:ee ak 80 [] d00.v:=
 mz Tryz.func80 (eR (be _) apb (dK (g0 ⟨all_nil,_,_,_,rfl,.Am (v0:=.agg [gH,R 1,R 2,.eM false 1 (fR d00.ly)]) [0] (hc:=[(fR d00.ly).length=1*31]) dJ (eO rfl) dJ dJ⟩)))
def q256:Nat:=((IntKind.i64.wrap (k.tmod 256+256)).tmod 256).toNat
def O0:Sp:=⟨zF (IntKind.i64.wrap ((Int.ofNat (q256 k)).tdiv 4)),zF ((IntKind.i64.wrap ((Int.ofNat (q256 k)).tdiv 4)).fdiv 4),zF ((IntKind.i64.wrap ((Int.ofNat (q256 k)).tdiv 4)).fdiv 16),mT (q256 k%4),mF (q256 k%4)⟩
theorem Vb:(IntKind.i64.wrap (k.tmod 256+256)).tmod 256=Int.ofNat (q256 k):=by
 have h1:-256<k.tmod 256:=Int.lt_tmod_of_pos k fg;have C:k.tmod 256<256:=Int.tmod_lt_of_pos k fg;have h3:IntKind.i64.wrap (k.tmod 256+256)=k.tmod 256+256:=iz S S;unfold q256;rw[h3];have:=(wR (x:=k.tmod 256+256) (d:=256) S fg).1;exact(cZ this).symm
theorem Z4:ee ak 81 [R k] (O0 k).v:=by
 have hq:=aG (V.int .i64) (Vb k);unfold O0;generalize q256 k=q at *;have hr:(Int.ofNat q).tmod 4=Int.ofNat (q%4):=by
  exact Int.tmod_eq_emod_of_nonneg (bJ q)
 have h4:q%4<4:=Nat.mod_lt _ fg;generalize q%4=r at hr h4 ⊢;have n4r:n4 r:=⟨bJ _,cE.2 h4⟩;refine fc Tryz.func81 (fN 7 (ff apn (be _)) (apf k q r h4) (X hq (X rfl (X (aG (V.int .i64) hr) (X n4r (X (aG (V.int .i64) hr) (eO n4r)))))) ?_);refine dY dJ (dY dJ (gw (be _) eP (apg q (sp4 r)) (dK (g0 ⟨all_nil,fun T eu=>?_⟩))));simp only[andThen];generalize ha:IntKind.i64.wrap ((Int.ofNat q).tdiv 4)=a;refine je 0 3 (fun j=>On q (match j with|0=>sp4 r|1=>{ sp4 r with c0:=zF a }|2=>{ sp4 r with c0:=zF a,c1:=zF (a.fdiv 4) }|_=>{ sp4 r with c0:=zF a,c1:=zF (a.fdiv 4),c2:=zF (a.fdiv 16) }) [(6,J j)]) (fun _=>false) (eJ.norm eu) (fun j hj _ Q' k1 k2 k3=>?_) (fun _ T eu=>?_)
 . match j,hj with
   |0,_=>exact gw (ff (cuD a) (be _)) eP (aph q _ a (zF a)) (dK (g0 ⟨X fg (X (by rw[ha,show a.fdiv 1=a from Int.fdiv_one a]) (X rfl (eO fg))),fun T eu=>k1 fg rfl T (eJ.norm eu)⟩))
   |1,_=>exact gw (ff (cuD (a.fdiv 4)) (be _)) eP (api q _ (a.fdiv 4) (zF (a.fdiv 4))) (dK (g0 ⟨X fg (X (by rw[ha]) (X rfl (eO fg))),fun T eu=>k1 fg rfl T (eJ.norm eu)⟩))
   |2,_=>exact gw (ff (cuD (a.fdiv 16)) (be _)) eP (apj q _ (a.fdiv 16) (zF (a.fdiv 16))) (dK (g0 ⟨X fg (X (by rw[ha]) (X rfl (eO fg))),fun T eu=>k1 fg rfl T (eJ.norm eu)⟩))
   |3,_=>exact gw (be _) eP (apk q _) (dK (g0 ⟨all_nil,fun T eu=>k2 rfl T (eJ.norm eu)⟩))
   |n+4,hj=>exact absurd hj S
 simp only[andThen];refine eu _ _ (eR (be _) (apl q _) (dK (g0 ⟨all_nil,_,_,_,rfl,rfl⟩)))
end
set_option maxRecDepth 10000
section
variable(xs:List Int)(c:Nat)
def sMs(d:Dc)(s:Sp):St:=fI [(0,fD xs),(1,J c),(4,.ptr (some (0,0))),(5,.ptr (some (1,0)))] (hL [(0,.cells Li),(1,.cells [.fk (some (2,0)) 1 1 21,R d.root,R d.nx,.eM false d.ly.length (fR d.ly)]),(2,.cells (D.gk s.ds))]) 3
theorem apo(d:Dc)(s:Sp)(a:Int):H (M (fa 81 [R a] s.v ew) []) [(27,.dL (xI xs 0)),(30,.dL (R a))] 0 Tryz.f34 [0,1,4,5] (l9 (eB (dO RH))) (zE xs c d [(25,.bool true)]) [([],[(0:Int)<=(0:Int)/\(0:Int)<(Int.ofNat xs.length),jo xs,V.eo (dU (eL xs) 0 1)=xI xs 0,V.int B (IntKind.i64.wrap (Int.ofNat (BitVec.ofInt 64 ((xs.getD 0 (0:Int)).fdiv (4096:Int))&&&BitVec.ofInt 64 (1023:Int)).toNat))=R a,V.jj ([]++[R a]++[])=[R a]],eC (sMs xs c d s))]:=G.Y
theorem apq(d:Dc):H (M ew []) [] 0 Tryz.f34 [0,1,4,5] (pc (eB (dO RH))) (zE xs c d [(25,.bool false)]) [([],[],eC (zE xs c d []))]:=G.Y
end
set_option maxRecDepth 10000
def NY(xs:List Int):Dc:=if 0<xs.length/\an ((xs.getD 0 0).fdiv 1024) 3=1 then { d00 with sp:=[O0 (an ((xs.getD 0 0).fdiv 4096) 1023)] }else d00
noncomputable def TB(xs:List Int):Nat->Dc
 |0=>NY xs
 |j+1=>wT xs (9*j) (TB xs j)
section
variable(xs:List Int)(c:Nat)
def TC:Nat:=min (xs.length/9) c
noncomputable def Bs:Dc:=TB xs (TC xs c)
theorem afz(k:Int):Tu (O0 k):=by
 have h:∀a,(zF a).length<=1000000:=fun a=>by
  unfold zF;split
  . decide
  . split
    . decide
    . split<;>decide
 exact⟨h _,h _,h _⟩
theorem Vc:Ey (NY xs):=by
 have h0:zC { gM with id:=1,kd:=2,op:=255 }:=⟨aR _,aR _,aR _,aR _,aR _,aR _,aR _⟩;have hl:∀x∈d00.ly,zC x/\x.kids.length<=100:=fun x K=>by
  have:x={ gM with id:=1,kd:=2,op:=255 }:=aI.1 K;subst this;exact⟨h0,aR _⟩
 unfold NY;split
 . exact⟨show(1:Int)<=d00.nx by decide,show d00.nx<=1048576 by decide,show d00.ly.length<=40 by decide,⟨0,show 0<d00.ly.length by decide,rfl⟩,fun x K=>(hl x K).2,⟨⟨show d00.ly.length<=1000000 by decide,fun x K=>(hl x K).1.kids⟩,fun s hs=>(by rw[aI.1 hs];exact afz _),fun x K=>(hl x K).1⟩⟩
 . exact⟨fg,fg,fg,⟨0,fg,rfl⟩,fun x K=>(hl x K).2,⟨⟨fg,fun x K=>(hl x K).1.kids⟩,fun s hs=>(by cases hs),fun x K=>(hl x K).1⟩⟩
end
theorem GV(xs:List Int):∀j,Ey (TB xs j)
 |0=>Vc xs
 |j+1=>Om xs _ (GV xs j)
theorem Z5(xs:List Int)(c:Nat)(A:c<=100000):ee ak 34 [fD xs,J c] (Bs xs c).v:=by
 refine fc Tryz.func34 (fN 2 (ff afy (be _)) (aoJ xs c d00) (eO rfl) ?_);have qI:∀T,eJ ak 0 Tryz.f34.ntmps T (zE xs c (NY xs) [])->TG ak 0 Tryz.f34.ntmps RI T (gi ak 0 Tryz.f34 fun u _ _=>u=(Bs xs c).v):=fun T eu=>by
  refine eu _ _ (dY dJ (dY dJ (gw (be _) eP (ao4 xs c (NY xs)) (dK (g0 ⟨all_nil,fun T eu=>?_⟩)))));simp only[andThen];have hn:TC xs c*9<=xs.length/\TC xs c<=c:=by unfold TC;omega
  have qQ:∀j,j<TC xs c\/(xs.length<9*j+9\/c<=j):=fun j=>by unfold TC;omega
  refine je 0 (TC xs c) (fun j=>zE xs c (TB xs j) [(6,J (9*j))]) (fun _=>false) (eJ.norm eu) (fun j hj _ Q' k1 k2 k3=>?_) (fun _ T eu=>?_)
  . have A1:V.int .i64 (IntKind.i64.wrap (Int.ofNat (9*j)+(9:Int)))=J (9*j+9):=rL (i:=9*j) (k:=9) S;have A2:V.int .i64 (IntKind.i64.wrap ((9:Int)*Int.ofNat c))=J (9*c):=aG (V.int .i64) (by rw[show(9:Int)*Int.ofNat c=Int.ofNat (9*c)from rfl];exact iz (by simp only[gD];omega) (by simp only[gD];omega));refine qm (be _) eP (aoM xs c (TB xs j) (9*j)) (dN (g2 fun h1 C=>⟨X A1 (eO A2),?_⟩) (dN (g2 fun h1 C=>⟨X A1 (eO A2),fun T eu=>k2 ?_ T (eJ.norm eu)⟩) (dK (g1 fun h1=>⟨eO A1,fun T eu=>k2 ?_ T (eJ.norm eu)⟩))))
    . have q1:9*j+9<=xs.length:=by have:=aZ h1;simp only[gD]at this;omega
      have q2:j<c:=by have:=kA C;omega
      have q3:j<TC xs c:=by rcases qQ j with q|q|q<;>omega
      refine dY dJ (fJ (i:=1) dJ (RS xs c (TB xs j) (9*j) (GV xs j) q1 S fun T eu=>?_));simp only[gT,andThen];exact eu _ _ (gw (be _) eP (ao2 xs c (wT xs (9*j) (TB xs j)) (9*j)) (dK (g0 ⟨eO A1,fun T eu=>k1 q3 rfl T (eJ.norm eu)⟩)))
    . have:=rG C;rcases qQ j with q|q|q
      . omega
      . have:=aZ h1;simp only[gD]at this;omega
      . omega
    . have:=bt h1;simp only[gD]at this;omega
  simp only[andThen];exact eu _ _ (eR (be _) (ao3 xs c (TB xs (TC xs c)) (9*TC xs c)) (dK (g0 ⟨all_nil,_,_,_,rfl,rfl⟩)))
 have hB:=fun(h:(decide ((Int.ofNat xs.length)>(0:Int)))=true)=>(by
  have:=aZ h;simp only[gD]at this;have q:0<xs.length:=by omega
  exact⟨iI q,eI xs,fP q⟩:((0:Int)<=(0:Int)/\(0:Int)<Int.ofNat xs.length)/\(eL xs).length=xs.length*1/\V.eo (dU (eL xs) 0 1)=xI xs 0)
 have no:NY xs=d00->TG ak 0 Tryz.f34.ntmps (pc (eB (dO RH))) (zE xs c d00 [(25,.bool false)]) (andThen (fun T=>TG ak 0 Tryz.f34.ntmps RI T (gi ak 0 Tryz.f34 fun u _ _=>u=(Bs xs c).v)) (gi ak 0 Tryz.f34 fun u _ _=>u=(Bs xs c).v)):=fun e=>
  gw (be _) eP (apq xs c d00) (dK (g0 ⟨all_nil,fun T eu=>qI T (by rw[e];exact eJ.norm eu)⟩))
 refine dY dJ (qm (be _) eP (aoL xs c d00) (dN (g2 fun h1 C=>?_) (dN (g2 fun h1 C=>?_) (dK (g1 fun h1=>?_)))))
 . obtain⟨b1,b2,b3⟩:=hB h1;refine⟨X b1 (X b2 (eO b3)),kz (t:=true) dJ dJ (fun _=>?_) (fun h=>by cases h)⟩;have hp:0<xs.length:=by have:=aZ h1;simp only[gD]at this;omega
   have e:NY xs={ d00 with sp:=[O0 (an ((xs.getD 0 0).fdiv 4096) 1023)] }:=by unfold NY;rw[aF ⟨hp,xJ.1 C⟩]
   refine gw (ff (Z4 (an ((xs.getD 0 0).fdiv 4096) 1023)) (be _)) eP (apo xs c d00 (O0 (an ((xs.getD 0 0).fdiv 4096) 1023)) (an ((xs.getD 0 0).fdiv 4096) 1023)) (dK (g0 ⟨X b1 (X b2 (X b3 (X rfl (eO rfl)))),fun T eu=>qI T ?_⟩));rw[e];generalize O0 (an ((xs.getD 0 0).fdiv 4096) 1023)=s at eu;exact(eJ.norm eu).trans (eJ.Fl [2] [0,1,4,5] (dF:=zE xs c { d00 with sp:=[s] } []) (hc:=[(lj [s]).length=1*21]) dJ (eO rfl))
 . obtain⟨b1,b2,b3⟩:=hB h1;refine⟨X b1 (X b2 (eO b3)),kz (t:=false) dJ dJ (fun h=>by cases h) (fun _=>no ?_)⟩;unfold NY;rw[aD fun q=>DK C q.2]
 . refine⟨all_nil,kz (t:=false) dJ dJ (fun h=>by cases h) (fun _=>no ?_)⟩;have:=bt h1;simp only[gD]at this;unfold NY;rw[aD fun q=>by have:=q.1;omega]
set_option maxRecDepth 10000
theorem RT(k:Int):kp (zF k)=true:=by
 unfold zF;split
 . decide
 . split
   . decide
   . split
     . decide
     . decide
theorem apr:∀r,r<4->∀a b c,((List.range 9).any (GL ⟨a,b,c,mT r,mF r⟩)=false/\(List.range 3).any (fun i=>(List.range 3).any (AB ⟨a,b,c,mT r,mF r⟩ i))=false):=by
 intro r hr a b c;obtain rfl|rfl|rfl|rfl:r=0\/r=1\/r=2\/r=3:=by omega
 all_goals exact⟨dJ,dJ⟩
theorem Z6(k:Int):Bo (O0 k)=true:=by
 obtain⟨h1,C⟩:=apr (q256 k%4) (Nat.mod_lt _ fg) (zF (IntKind.i64.wrap ((Int.ofNat (q256 k)).tdiv 4))) (zF ((IntKind.i64.wrap ((Int.ofNat (q256 k)).tdiv 4)).fdiv 4)) (zF ((IntKind.i64.wrap ((Int.ofNat (q256 k)).tdiv 4)).fdiv 16));have h3:(List.range 3).any (fun i=>!kp ((O0 k).cv i))=false:=by
  rw[dn];intro i _;have:kp ((O0 k).cv i)=true:=match i with
   |0=>RT _
   |1=>RT _
   |_+2=>RT _
  rw[this];decide
 unfold Bo;rw[h3];have h1:(List.range 9).any (GL (O0 k))=false:=h1;have C:(List.range 3).any (fun i=>(List.range 3).any (AB (O0 k) i))=false:=C;rw[h1,C];rfl
theorem aps:cD (fK [])=true:=QD ⟨aR _,fun i h=>absurd h (bE _)⟩
def O1:eV:={ gM with id:=1,kd:=2,op:=255 }
theorem apt(n:Nat):wB n O1=0:=by
 have e:wB n O1=K9 n O1 (cD (fK [])) (cD (fK [])) (Bn O1.pl) (iV O1.f) (qY O1.nm) (HF O1) (kf O1.gA):=rfl;have hs:bs n O1=false:=by
  unfold bs;have:decide (O1.sp>Int.ofNat n)=false:=aX (by show ¬(0:Int)>Int.ofNat n;simp only[gD];omega);rw[this];rfl
 rw[e,aps];unfold K9;rw[hs];rfl
theorem Js(sp:List Sp)(hl:sp.length<=8)(hs:∀s∈sp,Bo s=true):gU { d00 with sp:=sp }=(0,0):=by
 generalize hd:({ d00 with sp:=sp }:Dc)=d;have Ay:d.ly=[O1]:=by rw[<- hd];rfl
 have hr:d.root=1:=by rw[<- hd];rfl
 have TA:d.nx=2:=by rw[<- hd];rfl
 have D0:d.sp=sp:=by rw[<- hd]
 have nJ:d.at 0=O1:=by unfold Dc.at;rw[Ay];rfl
 have one:∀f:Nat->Bool,f 0=false->l8 f d.ly.length=none:=fun f h=>gW fun j hj=>by
  rw[Ay]at hj;obtain rfl:j=0:=by simp only[aN,cm]at hj;omega
  exact h
 have w:iP d=(0,0):=by
  have U:xK d=false:=by
   unfold xK;rw[D0,Ay,TA];have:decide (Int.ofNat sp.length>(8:Int))=false:=aX (by simp only[gD];omega);rw[this];rfl
  have h1:l8 (fun i=>!Bo (d.sp.getD i OZ)) d.sp.length=none:=gW fun j hj=>by
   have:d.sp.getD j OZ∈sp:=by rw[D0]at hj ⊢;rw[ax,au hj];exact bV hj
   rw[hs _ this];rfl
  have C:tS d 0=false:=by unfold tS vu;rw[nJ,TA];rfl
  have h3:mC d=false:=by unfold mC Dc.at;rw[Ay,hr];rfl
  unfold iP;rw[U,aD fg,h1];simp only;rw[one _ C];simp only;rw[h3];rfl
 have h1:Ld d 0=false:=by unfold Ld;rw[nJ,apt];rfl
 have C:B8 d 0=false:=by unfold B8 rJ;rw[nJ,Ay,hr];rfl
 have h3:AE d 0=false:=by unfold AE BM;rw[nJ];rfl
 have h4:Oj d 0=false:=by unfold Oj;rw[nJ,Ay];rfl
 unfold gU;rw[w,aF rfl,one _ h1];simp only;rw[one _ C];simp only;rw[one _ h3];simp only;rw[one _ h4];simp only;rw[Ay,hr];rfl
theorem Z7(xs:List Int):(gU (NY xs)).1=0:=by
 unfold NY;split
 . rw[Js _ (by show 1<=8;decide) fun s hs=>(by rw[aI.1 hs];exact Z6 _)]
 . have e:d00={ d00 with sp:=[] }:=rfl;rw[e,Js [] (aR _) fun s hs=>(by cases hs)]
theorem RU(xs:List Int):∀j,(gU (TB xs j)).1=0
 |0=>Z7 xs
 |j+1=>by
  show(gU (wT xs (9*j) (TB xs j))).1=0;unfold wT;split
  . assumption
  . exact RU xs j
theorem RV(xs:List Int)(c:Nat):jz (Bs xs c)/\Ey (Bs xs c):=⟨tV (RU xs _),GV xs _⟩
end Go.Proofs.YtmjggdmekboefaaGreat
