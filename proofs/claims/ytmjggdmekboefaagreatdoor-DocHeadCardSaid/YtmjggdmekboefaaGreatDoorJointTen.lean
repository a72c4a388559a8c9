/- The Doc laws: filter.Bytes: pieces. No conditions. -/
import Derived.Test.YtmjggdmekboefaaGreatDoorJointEight
import Derived.Test.YtmjggdmekboefaaGreatDoorJointNine
set_option linter.unusedVariables false
set_option linter.unusedSimpArgs false
set_option linter.unusedSectionVars false
namespace Go.Proofs.YtmjggdmekboefaaGreatDoor
open Go Go.Eng
noncomputable abbrev cdNu:Code:=bodyOf Tryz.f62
noncomputable abbrev tlNu:Code:=tailN 2 cdNu
noncomputable abbrev cdBy:Code:=bodyOf Tryz.f34
def sNu (n:Nat) (cs:List D) (s:List UInt8) (i:Nat):St:=stG [(3,.str s),(6,.lst false n cs),(7,iW n),(8,iW i)] .nil 3
def intL:List D→List Int
 | .int .i64 x :: r=>x :: intL r
 | _=>[]
theorem intL_isD:∀ l:List Int,intL (isD l)=l
 | []=>rfl
 | x :: l=>by
   show x :: intL (isD l)=_
   rw [intL_isD l]
def numsB (l:List Int):List UInt8:=(l.map varB).flatten
def textB (s:List UInt8):List UInt8:=varB (Int.ofNat s.length) ++ s
def specNu:List D→Option (List Prop × V)
 | [.lst n cs]=>some ([cs=isD (intL cs),n=(intL cs).length,n ≤ 4000000],.str (numsB (intL cs)))
 | _=>none
theorem nu_1 (n:Nat) (cs:List D):∃ L,RunIs Tryz.prog (csH W4 []) [] 1000 3 Tryz.f62 [0,3] (headN 2 cdNu) (startSt [.lst false n cs] .nil 3) L
  [([],
   [],
   .to .normal (stG [(0,.lst false n cs),(3,.str [])] (hL []) 3))]
 :=RunIs.of (by kernel_rfl) (by kernel_rfl) (by kernel_rfl)
theorem nu_2 (n:Nat) (cs:List D):∃ L,RunIs Tryz.prog (csH W4 []) [] 1000 3 Tryz.f62 [3,6,7,8] (seqL (seqL tlNu)) (stG [(0,.lst false n cs),(3,.str [])] .nil 3) L
  [([],
   [],
   .to .normal (sNu n cs [] 0))]
 :=RunIs.of (by kernel_rfl) (by kernel_rfl) (by kernel_rfl)
theorem nu_3 (n:Nat) (cs:List D) (s:List UInt8) (i:Nat) (v:Int):∃ L,RunIs Tryz.prog (csH W4 []) [(9,.split),(10,.give (.fptr [.int .i64 v])),(16,.give (iW (i+1)))] 1000 3 Tryz.f62 [3,6,7,8] (inner (inner (seqR (seqL tlNu)))) (sNu n cs s i) L
  [([((decide (Int.ofNat i < Int.ofNat n)),true)],
   [((0:Int) ≤ Int.ofNat i∧Int.ofNat i < (Int.ofNat n)),(cs.length=n * 1),(V.fptr (cellsAt cs (i * 1) 1)=V.fptr [D.int IntKind.i64 v]),(s.length+(varB v).length ≤ 9223372036854775807),(V.int IntKind.i64 (IntKind.i64.wrap (Int.ofNat i+(1:Int)))=iW (i+1))],
   .to .normal (sNu n cs (s ++ varB v) (i+1))),
  ([((decide (Int.ofNat i < Int.ofNat n)),false)],
   [],
   .to (.exit 0) (sNu n cs s i))]
 :=RunIs.of (by kernel_rfl) (by kernel_rfl) (by kernel_rfl)
theorem nu_4 (n:Nat) (cs:List D) (s:List UInt8) (i:Nat):∃ L,RunIs Tryz.prog (csH W4 []) [] 1000 3 Tryz.f62 [] (seqR tlNu) (sNu n cs s i) L
  [([],
   [],
   .ret (.str s) (hL []) 3)]
 :=RunIs.of (by kernel_rfl) (by kernel_rfl) (by kernel_rfl)
theorem by_1 (f:FL):∃ L,RunIs Tryz.prog (csH (addW 62 (thawD specNu) W4) []) [] 1000 3 Tryz.f34 [] (cdBy) (startSt [f.v] .nil 3) L
  [([],
   [([D.int IntKind.i64 f.k,D.int IntKind.i64 f.r,D.int IntKind.i64 (Int.ofNat f.ker.length)].length=3),([D.int IntKind.i64 f.k,D.int IntKind.i64 f.r,D.int IntKind.i64 (Int.ofNat f.ker.length)]=isD (intL [D.int IntKind.i64 f.k,D.int IntKind.i64 f.r,D.int IntKind.i64 (Int.ofNat f.ker.length)])),(3=(intL [D.int IntKind.i64 f.k,D.int IntKind.i64 f.r,D.int IntKind.i64 (Int.ofNat f.ker.length)]).length),(3 ≤ 4000000),(isD f.ker=isD (intL (isD f.ker))),(f.ker.length=(intL (isD f.ker)).length),(f.ker.length ≤ 4000000),((numsB (intL [D.int IntKind.i64 f.k,D.int IntKind.i64 f.r,D.int IntKind.i64 (Int.ofNat f.ker.length)])).length+(numsB (intL (isD f.ker))).length ≤ 9223372036854775807),([D.int IntKind.i64 f.dv,D.int IntKind.i64 f.vl,D.int IntKind.i64 (Int.ofNat f.cu.length)].length=3),([D.int IntKind.i64 f.dv,D.int IntKind.i64 f.vl,D.int IntKind.i64 (Int.ofNat f.cu.length)]=isD (intL [D.int IntKind.i64 f.dv,D.int IntKind.i64 f.vl,D.int IntKind.i64 (Int.ofNat f.cu.length)])),(3=(intL [D.int IntKind.i64 f.dv,D.int IntKind.i64 f.vl,D.int IntKind.i64 (Int.ofNat f.cu.length)]).length),(3 ≤ 4000000),((numsB (intL [D.int IntKind.i64 f.k,D.int IntKind.i64 f.r,D.int IntKind.i64 (Int.ofNat f.ker.length)]) ++ numsB (intL (isD f.ker))).length+(numsB (intL [D.int IntKind.i64 f.dv,D.int IntKind.i64 f.vl,D.int IntKind.i64 (Int.ofNat f.cu.length)])).length ≤ 9223372036854775807),(isD f.cu=isD (intL (isD f.cu))),(f.cu.length=(intL (isD f.cu)).length),(f.cu.length ≤ 4000000),((numsB (intL [D.int IntKind.i64 f.k,D.int IntKind.i64 f.r,D.int IntKind.i64 (Int.ofNat f.ker.length)]) ++ numsB (intL (isD f.ker)) ++ numsB (intL [D.int IntKind.i64 f.dv,D.int IntKind.i64 f.vl,D.int IntKind.i64 (Int.ofNat f.cu.length)])).length+(numsB (intL (isD f.cu))).length ≤ 9223372036854775807)],
   .ret (.str (numsB [f.k,f.r,Int.ofNat f.ker.length] ++ numsB (intL (isD f.ker)) ++ numsB [f.dv,f.vl,Int.ofNat f.cu.length] ++ numsB (intL (isD f.cu)))) (hL []) 3)]
 :=RunIs.of (by kernel_rfl) (by kernel_rfl) (by kernel_rfl)
end Go.Proofs.YtmjggdmekboefaaGreatDoor
namespace Go.Proofs.YtmjggdmekboefaaGreatDoor
open Go Go.Eng
theorem numsB_step {l:List Int} {i:Nat} {v:Int} (h:l[i]? =some v):numsB (l.take (i+1))=numsB (l.take i) ++ varB v:=by
 unfold numsB
 rw [List.take_add_one,h]; simp
theorem numsB_len:∀ l:List Int,(numsB l).length ≤ 10 * l.length
 | []=>by simp [numsB]
 | x :: l=>by
   have:=numsB_len l
   have h:=(varB_len x).2
   unfold numsB at this ⊢
   simp only [List.map_cons,List.flatten_cons,List.length_append,List.length_cons]; omega
theorem numsD (l:List Int) (hl:l.length ≤ 4000000):DeepTo Tryz.prog 62 [isV l] (.str (numsB l)):=by
 refine deepT Tryz.func62 ?_
 refine isE1 2 W4_ok (nu_1 l.length (isD l)) all_nil ?_
 refine loopF W4_ok 0 _ [3,6,7,8] (l.length - ·) (· ≤ l.length) (fun i=>sNu l.length (isD l) (numsB (l.take i)) i) 0 (Nat.zero_le _) (nu_2 _ _) all_nil .refl fun i hi=>?_
 refine ⟨_,W4_ok,[],_,_,nu_3 _ _ _ i (l.getD i 0),gcons (g1 fun h=>?_) (gone (g1 fun h=>⟨all_nil,rfl,?_⟩))⟩
 · have hlt:=dlt h
   obtain ⟨v,hv⟩:∃ v,l[i]? =some v:=⟨_,List.getElem?_eq_getElem hlt⟩
   have ev:l.getD i 0=v:=by rw [List.getD_eq_getElem?_getD,hv]; rfl
   rw [ev]
   have h1:=numsB_len (l.take i)
   have h2:=(varB_len v).2
   rw [List.length_take] at h1
   refine ⟨fm (ibd hlt) (fm (isD_len l) (fm (isD_at hv) (fm (by omega) (fm1 (vsuc (by omega)))))),i+1,lsub hlt,hlt,?_⟩
   rw [← numsB_step hv]; exact .refl
 · obtain rfl:i=l.length:=by have:=dge h; omega
   rw [List.take_length]
   exact retE W4_ok (nu_4 _ _ _ _) (gone (g0 ⟨all_nil,_,_,_,rfl,rfl⟩))
theorem one_Nu:OneW Tryz.prog 62 (thawD specNu):=by
 refine thawD_ok (by kernel_rfl) fun ds A v e hA=>?_
 unfold specNu at e
 split at e
 case h_2=>cases e
 rename_i n cs
 obtain ⟨rfl,rfl⟩:=sm e
 have h1:cs=isD (intL cs):=hA _ (by simp)
 have h2:n=(intL cs).length:=hA (n=(intL cs).length) (by simp)
 have h3:n ≤ 4000000:=hA (n ≤ 4000000) (by simp)
 generalize intL cs=l at *
 subst h1 h2
 exact numsD l h3
def bytesF (f:FL):List UInt8:=numsB [f.k,f.r,Int.ofNat f.ker.length] ++ numsB f.ker ++ numsB [f.dv,f.vl,Int.ofNat f.cu.length] ++ numsB f.cu
theorem bytesF_len (f:FL):(bytesF f).length ≤ 60+10 * f.ker.length+10 * f.cu.length:=by
 have h1:=numsB_len [f.k,f.r,Int.ofNat f.ker.length]
 have h2:=numsB_len f.ker
 have h3:=numsB_len [f.dv,f.vl,Int.ofNat f.cu.length]
 have h4:=numsB_len f.cu
 simp only [List.length_cons,List.length_nil] at h1 h3
 unfold bytesF
 simp only [List.length_append]; omega
theorem bytesD (f:FL) (h1:f.ker.length ≤ 2000000) (h2:f.cu.length ≤ 2000000):DeepTo Tryz.prog 34 [f.v] (.str (bytesF f)):=by
 refine deepT Tryz.func34 ?_
 have hr:=by_1 f
 have e1:=numsB_len [f.k,f.r,Int.ofNat f.ker.length]
 have e2:=numsB_len f.ker
 have e3:=numsB_len [f.dv,f.vl,Int.ofNat f.cu.length]
 have e4:=numsB_len f.cu
 simp only [List.length_cons,List.length_nil] at e1 e3
 have i3:∀ a b c:Int,intL [D.int IntKind.i64 a,D.int IntKind.i64 b,D.int IntKind.i64 c]=[a,b,c]:=fun _ _ _=>rfl
 simp only [intL_isD,i3] at hr
 refine retE (addW_ok one_Nu W4_ok) hr (gone (g0 ⟨?_,_,_,_,rfl,rfl⟩))
 repeat' (first | exact all_nil | refine fm ?_ ?_)
 all_goals first | rfl | omega | (simp only [List.length_append] <;> omega)
end Go.Proofs.YtmjggdmekboefaaGreatDoor
namespace Go.Proofs.YtmjggdmekboefaaGreatDoor
open Go Go.Eng
noncomputable abbrev cdHd:Code:=bodyOf Tryz.f9
noncomputable abbrev cdPc:Code:=bodyOf Tryz.f30
noncomputable abbrev W6:CtrW:=addW 58 specCk (addW 62 (thawD specNu) W4)
theorem W6_ok:CtrWOk Tryz.prog W6:=addW_ok one_Ck (addW_ok one_Nu W4_ok)
def sHq (l:Lay) (fl:Int) (n:Nat) (s:List UInt8):St:=stG [(1,.ptr (some (3,0))),(3,iX fl),(6,.ptr (some (4,0))),(7,.fn (.func 30) [] [.ptr (some (4,0))])] (hL [(3,.cells l.cs),(4,.bld 73 true (.slc (some (5,0)) n n 1)),(5,.buf 5 false s)]) 6
abbrev sHd (l:Lay) (fl:Int) (s:List UInt8):St:=sHq l fl s.length s
def ap (s t:List UInt8):List UInt8:=s ++ strI (bytesI t)
theorem ap_eq (s t:List UInt8):ap s t=s ++ t:=by unfold ap; rw [strI_bytesI]
def flg (a b c:Bool):Int:=(if a then 1 else 0)+((if b then 2 else 0)+(if c then 4 else 0))
theorem hd_1 (l:Lay):∃ L,RunIs Tryz.prog (csH W6 []) [] 1000 3 Tryz.f9 [1,3] (headN 2 cdHd) (startSt [l.v] .nil 3) L
  [([],
   [],
   .to .normal (stG [(1,.ptr (some (3,0))),(3,iX 0)] (hL [(3,.cells l.cs)]) 4))]
 :=RunIs.of (by kernel_rfl) (by kernel_rfl) (by kernel_rfl)
theorem hd_2 (l:Lay):RunE (csH W6 []) [] 3 Tryz.f9 [1,3] (headN 1 (tailN 2 cdHd)) (stG [(1,.ptr (some (3,0))),(3,iX 0)] (hL [(3,.cells l.cs)]) 4) [([],[],.to .normal (stG [(1,.ptr (some (3,0))),(3,iX (flg l.hid l.clip l.hm))] (hL [(3,.cells l.cs)]) 4))]:=by
 obtain ⟨_,_,_,a,_,_,b,_,_,_,_,_,_,_,_,c,_⟩:=l
 cases a <;> cases b <;> cases c <;> exact RunIs.of (by kernel_rfl) (by kernel_rfl) (by kernel_rfl)
theorem hd_3 (l:Lay) (fl:Int):∃ L,RunIs Tryz.prog (csH W6 []) [] 1000 3 Tryz.f9 [1,3,6,7] (headN 3 (tailN 3 cdHd)) (stG [(1,.ptr (some (3,0))),(3,iX fl)] (hL [(3,.cells l.cs)]) 4) L
  [([],
   [((0:Int) ≤ (0:Int)∧(0:Int) < (2:Int)),(0 < (varB l.id).length),(roomy (varB l.id).length 1 1=true),((0:Int) ≤ (1:Int)∧(1:Int) < (2:Int)),(0 < (varB l.id).length),((varB l.id).length=(varB l.id).length),(roomy ((varB l.id).length+(varB l.kd).length) 1 1=true)],
   .to .normal (sHq l fl ((varB l.id).length+(varB l.kd).length) (ap (varB l.id) (varB l.kd))))]
 :=RunIs.of (by kernel_rfl) (by kernel_rfl) (by kernel_rfl)
theorem hd_4 (l:Lay) (fl:Int) (s:List UInt8):∃ L,RunIs Tryz.prog (csH W6 []) [] 1000 3 Tryz.f9 [1,3,6,7] (headN 1 (tailN 6 cdHd)) (sHd l fl s) L
  [([],
   [((varB (Int.ofNat l.nm.length)).length+l.nm.length ≤ 9223372036854775807),((varB (Int.ofNat l.nm.length) ++ l.nm).length+(put1 fl).length ≤ 9223372036854775807),(0 < s.length),(s.length=s.length),(roomy (s.length+(varB (Int.ofNat l.nm.length) ++ l.nm ++ put1 fl).length) 1 1=true)],
   .to .normal (sHq l fl (s.length+(textB l.nm ++ put1 fl).length) (ap s (textB l.nm ++ put1 fl))))]
 :=RunIs.of (by kernel_rfl) (by kernel_rfl) (by kernel_rfl)
theorem hd_5 (l:Lay) (fl:Int) (s:List UInt8):∃ L,RunIs Tryz.prog (csH W6 []) [] 1000 3 Tryz.f9 [1,3,6,7] (headN 1 (tailN 7 cdHd)) (sHd l fl s) L
  [([],
   [((0:Int) ≤ (0:Int)∧(0:Int) < (2:Int)),(0 < s.length),(s.length=s.length),(roomy (s.length+(varB l.op).length) 1 1=true),((0:Int) ≤ (1:Int)∧(1:Int) < (2:Int)),(0 < s.length+(varB l.op).length),(s.length+(varB l.op).length=(s ++ strI (bytesI (varB l.op))).length),(roomy (s.length+(varB l.op).length+(varB l.md).length) 1 1=true)],
   .to .normal (sHq l fl (s.length+(varB l.op).length+(varB l.md).length) (ap (ap s (varB l.op)) (varB l.md))))]
 :=RunIs.of (by kernel_rfl) (by kernel_rfl) (by kernel_rfl)
theorem hd_6 (l:Lay) (fl:Int) (s:List UInt8):∃ L,RunIs Tryz.prog (csH W6 []) [] 1000 3 Tryz.f9 [1,3,6,7] (headN 1 (tailN 8 cdHd)) (sHd l fl s) L
  [([],
   [((0:Int) ≤ (0:Int)∧(0:Int) < (1:Int)),(0 < s.length),(s.length=s.length),(roomy (s.length+(varB l.pl.a).length) 1 1=true),((0:Int) ≤ (0:Int)∧(0:Int) < (1:Int)),(0 < s.length+(varB l.pl.a).length),(s.length+(varB l.pl.a).length=(s ++ strI (bytesI (varB l.pl.a))).length),(roomy (s.length+(varB l.pl.a).length+(varB l.pl.b).length) 1 1=true),((0:Int) ≤ (0:Int)∧(0:Int) < (1:Int)),(0 < s.length+(varB l.pl.a).length+(varB l.pl.b).length),(s.length+(varB l.pl.a).length+(varB l.pl.b).length=(s ++ strI (bytesI (varB l.pl.a)) ++ strI (bytesI (varB l.pl.b))).length),(roomy (s.length+(varB l.pl.a).length+(varB l.pl.b).length+(varB l.pl.c).length) 1 1=true),((0:Int) ≤ (0:Int)∧(0:Int) < (1:Int)),(0 < s.length+(varB l.pl.a).length+(varB l.pl.b).length+(varB l.pl.c).length),(s.length+(varB l.pl.a).length+(varB l.pl.b).length+(varB l.pl.c).length=(s ++ strI (bytesI (varB l.pl.a)) ++ strI (bytesI (varB l.pl.b)) ++ strI (bytesI (varB l.pl.c))).length),(roomy (s.length+(varB l.pl.a).length+(varB l.pl.b).length+(varB l.pl.c).length+(varB l.pl.d).length) 1 1=true),((0:Int) ≤ (0:Int)∧(0:Int) < (1:Int)),(0 < s.length+(varB l.pl.a).length+(varB l.pl.b).length+(varB l.pl.c).length+(varB l.pl.d).length),(s.length+(varB l.pl.a).length+(varB l.pl.b).length+(varB l.pl.c).length+(varB l.pl.d).length=(s ++ strI (bytesI (varB l.pl.a)) ++ strI (bytesI (varB l.pl.b)) ++ strI (bytesI (varB l.pl.c)) ++ strI (bytesI (varB l.pl.d))).length),(roomy (s.length+(varB l.pl.a).length+(varB l.pl.b).length+(varB l.pl.c).length+(varB l.pl.d).length+(varB l.pl.e).length) 1 1=true),((0:Int) ≤ (0:Int)∧(0:Int) < (1:Int)),(0 < s.length+(varB l.pl.a).length+(varB l.pl.b).length+(varB l.pl.c).length+(varB l.pl.d).length+(varB l.pl.e).length),(s.length+(varB l.pl.a).length+(varB l.pl.b).length+(varB l.pl.c).length+(varB l.pl.d).length+(varB l.pl.e).length=(s ++ strI (bytesI (varB l.pl.a)) ++ strI (bytesI (varB l.pl.b)) ++ strI (bytesI (varB l.pl.c)) ++ strI (bytesI (varB l.pl.d)) ++ strI (bytesI (varB l.pl.e))).length),(roomy (s.length+(varB l.pl.a).length+(varB l.pl.b).length+(varB l.pl.c).length+(varB l.pl.d).length+(varB l.pl.e).length+(varB l.pl.f).length) 1 1=true),((0:Int) ≤ (0:Int)∧(0:Int) < (1:Int)),(0 < s.length+(varB l.pl.a).length+(varB l.pl.b).length+(varB l.pl.c).length+(varB l.pl.d).length+(varB l.pl.e).length+(varB l.pl.f).length),(s.length+(varB l.pl.a).length+(varB l.pl.b).length+(varB l.pl.c).length+(varB l.pl.d).length+(varB l.pl.e).length+(varB l.pl.f).length=(s ++ strI (bytesI (varB l.pl.a)) ++ strI (bytesI (varB l.pl.b)) ++ strI (bytesI (varB l.pl.c)) ++ strI (bytesI (varB l.pl.d)) ++ strI (bytesI (varB l.pl.e)) ++ strI (bytesI (varB l.pl.f))).length),(roomy (s.length+(varB l.pl.a).length+(varB l.pl.b).length+(varB l.pl.c).length+(varB l.pl.d).length+(varB l.pl.e).length+(varB l.pl.f).length+(varB l.pl.n).length) 1 1=true)],
   .to .normal (sHq l fl (s.length+(varB l.pl.a).length+(varB l.pl.b).length+(varB l.pl.c).length+(varB l.pl.d).length+(varB l.pl.e).length+(varB l.pl.f).length+(varB l.pl.n).length) (ap (ap (ap (ap (ap (ap (ap s (varB l.pl.a)) (varB l.pl.b)) (varB l.pl.c)) (varB l.pl.d)) (varB l.pl.e)) (varB l.pl.f)) (varB l.pl.n))))]
 :=RunIs.of (by kernel_rfl) (by kernel_rfl) (by kernel_rfl)
theorem hd_7 (l:Lay) (fl:Int) (s:List UInt8):∃ L,RunIs Tryz.prog (csH W6 []) [] 1000 3 Tryz.f9 [1,3,6,7] (headN 1 (tailN 9 cdHd)) (sHd l fl s) L
  [([],
   [((0:Int) ≤ (0:Int)∧(0:Int) < (2:Int)),(0 < s.length),(s.length=s.length),(roomy (s.length+(varB l.sp).length) 1 1=true),((0:Int) ≤ (1:Int)∧(1:Int) < (2:Int)),(0 < s.length+(varB l.sp).length),(s.length+(varB l.sp).length=(s ++ strI (bytesI (varB l.sp))).length),(roomy (s.length+(varB l.sp).length+(varB (Int.ofNat l.kids.length)).length) 1 1=true)],
   .to .normal (sHq l fl (s.length+(varB l.sp).length+(varB (Int.ofNat l.kids.length)).length) (ap (ap s (varB l.sp)) (varB (Int.ofNat l.kids.length)))))]
 :=RunIs.of (by kernel_rfl) (by kernel_rfl) (by kernel_rfl)
def sHr (l:Lay) (n:Nat) (s:List UInt8):St:=stG [(1,.ptr (some (3,0))),(6,.ptr (some (4,0))),(7,.fn (.func 30) [] [.ptr (some (4,0))])] (hL [(3,.cells l.cs),(4,.bld 73 true (.slc (some (5,0)) n n 1)),(5,.buf 5 false s)]) 6
def fiB (c:C4):List UInt8:=[UInt8.ofNat c.r.toNat,UInt8.ofNat c.g.toNat,UInt8.ofNat c.b.toNat,UInt8.ofNat c.a.toNat]
def sPt (n:Nat) (cs:List D) (i m:Nat) (s:List UInt8):St:=stG [(6,.ptr (some (3,0))),(7,.fn (.func 30) [] [.ptr (some (3,0))]),(105,.lst false n cs),(106,iW n),(107,iW i)] (hL [(3,.bld 73 true (.slc (some (4,0)) m m 1)),(4,.buf 5 false s)]) 5
noncomputable abbrev tlHd:Code:=tailN 15 cdHd
def hHd (l:Lay) (s:List UInt8):Tr O:=hL [(3,.cells l.cs),(4,.bld 73 true (.slc (some (5,0)) s.length s.length 1)),(5,.buf 5 false s)]
def hHe (l:Lay) (n:Nat) (s:List UInt8):Tr O:=hL [(3,.cells l.cs),(4,.bld 73 true (.slc (some (6,0)) n n 1)),(6,.buf 5 false s)]
def fPc (n:Nat) (cs:List D) (i:Nat):List (Nat × V):=[(1,.ptr (some (4,0))),(5,.lst false n cs),(6,iW n),(7,iW i)]
def sP2 (l:Lay) (n:Nat) (cs:List D) (i:Nat) (s:List UInt8):St:=stG (fPc n cs i) (hHd l s) 6
def sP3 (l:Lay) (n:Nat) (cs:List D) (i m:Nat) (s:List UInt8):St:=stG (fPc n cs i) (hHe l m s) 7
noncomputable abbrev lpPc:Code:=seqR cdPc
theorem pc_1 (l:Lay) (n:Nat) (cs:List D) (s:List UInt8):∃ L,RunIs Tryz.prog (csH W6 []) [] 1000 6 Tryz.f30 [1,5,6,7] (seqL cdPc) (startSt [.lst false n cs,.ptr (some (4,0))] (hHd l s) 6) L
  [([],
   [],
   .to .normal (sP2 l n cs 0 s))]
 :=RunIs.of (by kernel_rfl) (by kernel_rfl) (by kernel_rfl)
theorem pc_2 (l:Lay) (n:Nat) (cs:List D) (i:Nat) (s:List UInt8) (v:Int):∃ L,FinIs Tryz.prog (csH W6 []) [(8,.split),(9,.give (.fptr [.int .i64 v])),(14,.give (iW (i+1)))] 1000 6 Tryz.f30 [1,5,6,7] 0 (inner (inner lpPc)) (sP2 l n cs i s) L
  [([((decide (Int.ofNat i < Int.ofNat n)),true)],
   [((0:Int) ≤ Int.ofNat i∧Int.ofNat i < (Int.ofNat n)),(cs.length=n * 1),(V.fptr (cellsAt cs (i * 1) 1)=V.fptr [D.int IntKind.i64 v]),(0 < s.length),(s.length=s.length),(roomy (s.length+(varB v).length) 1 1=true),(V.int IntKind.i64 (IntKind.i64.wrap (Int.ofNat i+(1:Int)))=iW (i+1))],
   .to .normal (sP3 l n cs (i+1) (s.length+(varB v).length) (ap s (varB v)))),
  ([((decide (Int.ofNat i < Int.ofNat n)),false)],
   [],
   .ret (.tup []) (hHd l s) 6)]
 :=FinIs.of (by kernel_rfl) (by kernel_rfl) (by kernel_rfl)
theorem pc_3 (l:Lay) (n:Nat) (cs:List D) (i:Nat) (s:List UInt8) (v:Int):∃ L,FinIs Tryz.prog (csH W6 []) [(8,.split),(9,.give (.fptr [.int .i64 v])),(14,.give (iW (i+1)))] 1000 6 Tryz.f30 [1,5,6,7] 0 (inner (inner lpPc)) (sP3 l n cs i s.length s) L
  [([((decide (Int.ofNat i < Int.ofNat n)),true)],
   [((0:Int) ≤ Int.ofNat i∧Int.ofNat i < (Int.ofNat n)),(cs.length=n * 1),(V.fptr (cellsAt cs (i * 1) 1)=V.fptr [D.int IntKind.i64 v]),(0 < s.length),(s.length=s.length),(roomy (s.length+(varB v).length) 1 1=true),(V.int IntKind.i64 (IntKind.i64.wrap (Int.ofNat i+(1:Int)))=iW (i+1))],
   .to .normal (sP3 l n cs (i+1) (s.length+(varB v).length) (ap s (varB v)))),
  ([((decide (Int.ofNat i < Int.ofNat n)),false)],
   [],
   .ret (.tup []) (hHe l s.length s) 7)]
 :=FinIs.of (by kernel_rfl) (by kernel_rfl) (by kernel_rfl)
theorem hd_8 (l:Lay) (fl:Int) (s t:List UInt8):∃ L,RunIs Tryz.prog (csH (pinW 30 [isV l.kids,.ptr (some (4,0))] (hHd l s) 6 (.tup []) (hHe l t.length t) 7 W6) []) [] 1000 3 Tryz.f9 [1,3,6,7] (headN 1 (tailN 10 cdHd)) (sHd l fl s) L
  [([],
   [(pinT [isV l.kids,.ptr (some (4,0))] (hHd l s) 6)],
   .to .normal (sHd l fl t))]
 :=RunIs.of (by kernel_rfl) (by kernel_rfl) (by kernel_rfl)
theorem hd_9 (l:Lay) (fl:Int) (s b:List UInt8):∃ L,RunIs Tryz.prog (csH (pinN 34 [l.f.v] (.str b) W6) []) [] 1000 3 Tryz.f9 [1,6,7] (headN 4 (tailN 11 cdHd)) (sHd l fl s) L
  [([],
   [((0:Int) ≤ (0:Int)∧(0:Int) < (1:Int)),(0 < s.length),(s.length=s.length),(roomy (s.length+(varB l.of).length) 1 1=true),(pinA [l.f.v]),(0 < s.length+(varB l.of).length),(s.length+(varB l.of).length=(s ++ strI (bytesI (varB l.of))).length),(roomy (s.length+(varB l.of).length+b.length) 1 1=true),(0 < s.length+(varB l.of).length+b.length),(s.length+(varB l.of).length+b.length=(s ++ strI (bytesI (varB l.of)) ++ strI (bytesI b)).length),(roomy (s.length+(varB l.of).length+b.length+4) 1 1=true),((0:Int) ≤ (0:Int)∧(0:Int) < (1:Int)),(0 < s.length+(varB l.of).length+b.length+4),(s.length+(varB l.of).length+b.length+4=(s ++ strI (bytesI (varB l.of)) ++ strI (bytesI b) ++ [UInt8.ofNat l.fi.r.toNat,UInt8.ofNat l.fi.g.toNat,UInt8.ofNat l.fi.b.toNat,UInt8.ofNat l.fi.a.toNat]).length),(roomy (s.length+(varB l.of).length+b.length+4+(varB (Int.ofNat l.pth.length)).length) 1 1=true)],
   .to .normal (sHr l (s.length+(varB l.of).length+b.length+4+(varB (Int.ofNat l.pth.length)).length) (ap (ap (ap s (varB l.of)) b ++ fiB l.fi) (varB (Int.ofNat l.pth.length)))))]
 :=RunIs.of (by kernel_rfl) (by kernel_rfl) (by kernel_rfl)
theorem hd_a (l:Lay) (s:List UInt8):∃ L,RunIs Tryz.prog (csH W6 []) [] 1000 3 Tryz.f9 [6,7,105,106,107] (seqL (seqL tlHd)) (sHr l s.length s) L
  [([],
   [],
   .to .normal (sPt l.pth.length (ptD l.pth) 0 s.length s))]
 :=RunIs.of (by kernel_rfl) (by kernel_rfl) (by kernel_rfl)
theorem hd_b (n:Nat) (cs:List D) (i:Nat) (s:List UInt8) (x y:Int):∃ L,RunIs Tryz.prog (csH W6 []) [(108,.split),(109,.give (.fptr [.int .i64 x,.int .i64 y])),(118,.give (iW (i+1)))] 1000 3 Tryz.f9 [6,7,105,106,107] (inner (inner (seqR (seqL tlHd)))) (sPt n cs i s.length s) L
  [([((decide (Int.ofNat i < Int.ofNat n)),true)],
   [((0:Int) ≤ Int.ofNat i∧Int.ofNat i < (Int.ofNat n)),(cs.length=n * 2),(V.fptr (cellsAt cs (i * 2) 2)=V.fptr [D.int IntKind.i64 x,D.int IntKind.i64 y]),((0:Int) ≤ (0:Int)∧(0:Int) < (2:Int)),(0 < s.length),(s.length=s.length),(roomy (s.length+(varB x).length) 1 1=true),((0:Int) ≤ (1:Int)∧(1:Int) < (2:Int)),(0 < s.length+(varB x).length),(s.length+(varB x).length=(s ++ strI (bytesI (varB x))).length),(roomy (s.length+(varB x).length+(varB y).length) 1 1=true),(V.int IntKind.i64 (IntKind.i64.wrap (Int.ofNat i+(1:Int)))=iW (i+1))],
   .to .normal (sPt n cs (i+1) (s.length+(varB x).length+(varB y).length) (ap (ap s (varB x)) (varB y)))),
  ([((decide (Int.ofNat i < Int.ofNat n)),false)],
   [],
   .to (.exit 4) (sPt n cs i s.length s))]
 :=RunIs.of (by kernel_rfl) (by kernel_rfl) (by kernel_rfl)
theorem hd_c (n:Nat) (cs:List D) (i:Nat) (s:List UInt8):∃ L,RunIs Tryz.prog (csH W6 []) [] 1000 3 Tryz.f9 [] (seqR tlHd) (sPt n cs i s.length s) L
  [([],
   [(0 < s.length),((Int.ofNat s.length)=(Int.ofNat s.length)∧0 < s.length),(s.length ≤ 9223372036854775807)],
   .ret (.str s) (hL []) 3)]
 :=RunIs.of (by kernel_rfl) (by kernel_rfl) (by kernel_rfl)
end Go.Proofs.YtmjggdmekboefaaGreatDoor
namespace Go.Proofs.YtmjggdmekboefaaGreatDoor
open Go Go.Eng
def ptsB (l:List (Int × Int)):List UInt8:=(l.map fun p=>varB p.1 ++ varB p.2).flatten
def plcB (p:P7):List UInt8:=varB p.a ++ varB p.b ++ varB p.c ++ varB p.d ++ varB p.e ++ varB p.f ++ varB p.n
def headF (l:Lay):List UInt8:=varB l.id ++ varB l.kd ++ (textB l.nm ++ put1 (flg l.hid l.clip l.hm)) ++ varB l.op ++ varB l.md ++ plcB l.pl ++ varB l.sp ++ varB (Int.ofNat l.kids.length) ++ numsB l.kids ++ varB l.of ++ bytesF l.f ++ fiB l.fi ++ varB (Int.ofNat l.pth.length) ++ ptsB l.pth
structure okL (l:Lay):Prop where
 nm:l.nm.length ≤ 2000000
 kids:l.kids.length ≤ 2000000
 ker:l.f.ker.length ≤ 2000000
 cu:l.f.cu.length ≤ 2000000
 pth:l.pth.length ≤ 2000000
theorem ptD_len (l:List (Int × Int)):(ptD l).length=l.length * 2:=flatW_len (f:=fun p:Int × Int=>[D.int .i64 p.1,D.int .i64 p.2]) (fun _=>rfl) l
theorem ptD_at {l:List (Int × Int)} {i:Nat} {p:Int × Int} (h:l[i]? =some p):V.fptr (cellsAt (ptD l) (i * 2) 2)= .fptr [.int .i64 p.1,.int .i64 p.2]:=by
 have hlt:i < l.length:=(List.getElem?_eq_some_iff.1 h).1
 have hv:l[i]=p:=(List.getElem?_eq_some_iff.1 h).2
 rw [← hv]
 exact congrArg _ (flatW_at (f:=fun p:Int × Int=>[D.int .i64 p.1,D.int .i64 p.2]) (fun _=>rfl) l i hlt)
theorem ptsB_step {l:List (Int × Int)} {i:Nat} {p:Int × Int} (h:l[i]? =some p):ptsB (l.take (i+1))=ptsB (l.take i) ++ (varB p.1 ++ varB p.2):=by
 unfold ptsB
 rw [List.take_add_one,h]; simp
theorem ptsB_len:∀ l:List (Int × Int),(ptsB l).length ≤ 20 * l.length
 | []=>by simp [ptsB]
 | p :: l=>by
   have:=ptsB_len l
   have h:=(varB_len p.1).2
   have h':=(varB_len p.2).2
   unfold ptsB at this ⊢
   simp only [List.map_cons,List.flatten_cons,List.length_append,List.length_cons]; omega
theorem pcIs (l:Lay) (s:List UInt8) (h0:0 < s.length) (h1:s.length ≤ 100000000) (h2:l.kids.length ≤ 2000000):CallIs Tryz.prog 30 [isV l.kids,.ptr (some (4,0))] (hHd l s) 6 (.tup []) (hHe l (s ++ numsB l.kids).length (s ++ numsB l.kids)) 7:=by
 have key:∀ (R:V→Tr O→Nat→Prop),(l.kids=[]→R (.tup []) (hHd l s) 6)→(l.kids ≠ []→R (.tup []) (hHe l (s ++ numsB l.kids).length (s ++ numsB l.kids)) 7)→TG Tryz.prog 6 Tryz.f30.ntmps cdPc (startSt [isV l.kids,.ptr (some (4,0))] (hHd l s) 6) (RetG Tryz.prog 6 Tryz.f30 R):=by
  intro R r0 r1
  refine TG_seq' (by kernel_rfl) (isE W6_ok anyR (pc_1 l l.kids.length (isD l.kids) s) (gone (g0 ⟨all_nil,fun s' hs'=>?_⟩)))
  simp only [andThen]
  refine TG_whileN (α:=Nat) 0 (l.kids.length - ·) (· ≤ l.kids.length) (fun i=>match i with
   | 0=>sP2 l l.kids.length (isD l.kids) 0 s
   | j+1=>sP3 l l.kids.length (isD l.kids) (j+1) (s ++ numsB (l.kids.take (j+1))).length (s ++ numsB (l.kids.take (j+1)))) (by kernel_rfl) (by kernel_rfl) 0 (Nat.zero_le _) (.norm hs') fun i hi=>?_
  have hfin:∀ s',RetG Tryz.prog 6 Tryz.f30 R .normal s'→outOf 0 (RetG Tryz.prog 6 Tryz.f30 R) (.exit 0) s':=fun s' h=>by rw [outOf_exit]; exact h
  have hret:∀ s',RetG Tryz.prog 6 Tryz.f30 R .ret s'→outOf 0 (RetG Tryz.prog 6 Tryz.f30 R) .ret s':=fun s' h=>by simpa [outOf] using h
  have hnl:=numsB_len (l.kids.take i)
  rw [List.length_take] at hnl
  cases i with
  | zero=>
    obtain ⟨L,hr⟩:=pc_2 l l.kids.length (isD l.kids) 0 s (l.kids.getD 0 0)
    refine TG_isF 0 (XH W6_ok []) mo R (by kernel_rfl) hr hfin (gcons (g1 fun h=>?_) (gone (g1 fun h=>⟨all_nil,r0 ?_,hret⟩)))
    · have hlt:=dlt h
      obtain ⟨v,hv⟩:∃ v,l.kids[0]? =some v:=⟨_,List.getElem?_eq_getElem hlt⟩
      have ev:l.kids.getD 0 0=v:=by rw [List.getD_eq_getElem?_getD,hv]; rfl
      rw [ev]
      have hb:=(varB_len v).2
      refine ⟨fm (ibd hlt) (fm (isD_len _) (fm (isD_at hv) (fm h0 (fm rfl (fm (roomy_ok (by omega)) (fm1 (vsuc (by omega)))))))),fun s2 hs2=>⟨1,by show l.kids.length - 1 < l.kids.length - 0; omega,hlt,?_⟩⟩
      have e:numsB (l.kids.take 1)=varB v:=by rw [numsB_step hv]; rfl
      show Goes _ _ _ _ (sP3 l l.kids.length (isD l.kids) (0+1) (s ++ numsB (l.kids.take 1)).length (s ++ numsB (l.kids.take 1)))
      rw [e,List.length_append,← ap_eq]
      exact .norm hs2
    · have:=dge h
      exact List.length_eq_zero_iff.1 (by omega)
  | succ j=>
    generalize hu:s ++ numsB (l.kids.take (j+1))=u
    have hul:u.length=s.length+(numsB (l.kids.take (j+1))).length:=by rw [← hu,List.length_append]
    obtain ⟨L,hr⟩:=pc_3 l l.kids.length (isD l.kids) (j+1) u (l.kids.getD (j+1) 0)
    show TG _ _ _ _ (sP3 l l.kids.length (isD l.kids) (j+1) (s ++ numsB (l.kids.take (j+1))).length (s ++ numsB (l.kids.take (j+1)))) _
    rw [hu]
    refine TG_isF 0 (XH W6_ok []) mo R (by kernel_rfl) hr hfin (gcons (g1 fun h=>?_) (gone (g1 fun h=>⟨all_nil,?_,hret⟩)))
    · have hlt:=dlt h
      obtain ⟨v,hv⟩:∃ v,l.kids[j+1]? =some v:=⟨_,List.getElem?_eq_getElem hlt⟩
      have ev:l.kids.getD (j+1) 0=v:=by rw [List.getD_eq_getElem?_getD,hv]; rfl
      rw [ev]
      have hb:=(varB_len v).2
      refine ⟨fm (ibd hlt) (fm (isD_len _) (fm (isD_at hv) (fm (by omega) (fm rfl (fm (roomy_ok (by omega)) (fm1 (vsuc (by omega)))))))),fun s2 hs2=>⟨j+1+1,by show l.kids.length - (j+1+1) < l.kids.length - (j+1); omega,hlt,?_⟩⟩
      show Goes _ _ _ _ (sP3 l l.kids.length (isD l.kids) (j+1+1) (s ++ numsB (l.kids.take (j+1+1))).length (s ++ numsB (l.kids.take (j+1+1))))
      rw [numsB_step hv,← List.append_assoc,hu,List.length_append,← ap_eq]
      exact .norm hs2
    · have:=dge h
      have e:j+1=l.kids.length:=by omega
      rw [e,List.take_length] at hu
      rw [← hu]
      exact r1 fun q=>by rw [q] at e; cases e
 by_cases hk:l.kids=[]
 · have c:CallIs Tryz.prog 30 [isV l.kids,.ptr (some (4,0))] (hHd l s) 6 (.tup []) (hHd l s) 6:=fun E w args' ra g hd=>
    calls_of_TG1 mo po Tryz.func30 (code:=cdPc) (by kernel_rfl) (by kernel_rfl) _ _ _ (key _ (fun _=>⟨rfl,rfl,rfl⟩) (fun h=>absurd hk h)) ra g hd
   have e:s ++ numsB l.kids=s:=by rw [hk]; simp [numsB]
   rw [e]
   exact c.mov 5 (by kernel_rfl)
 · exact fun E w args' ra g hd=>calls_of_TG1 mo po Tryz.func30 (code:=cdPc) (by kernel_rfl) (by kernel_rfl) _ _ _ (key _ (fun h=>absurd h hk) (fun _=>⟨rfl,rfl,rfl⟩)) ra g hd
end Go.Proofs.YtmjggdmekboefaaGreatDoor
namespace Go.Proofs.YtmjggdmekboefaaGreatDoor
open Go Go.Eng
theorem sHq_eq {l:Lay} {fl:Int} {n:Nat} {s t:List UInt8} (e:s=t) (h:n=t.length):sHq l fl n s=sHd l fl t:=by rw [e,h]
theorem headD (l:Lay) (h:okL l):DeepTo Tryz.prog 9 [l.v] (.str (headF l)):=by
 refine deepT Tryz.func9 ?_
 have a1:=varB_len l.id
 have a2:=numsB_len l.kids
 have a3:=bytesF_len l.f
 have a5:=varB_len l.kd
 have a6:=varB_len (Int.ofNat l.nm.length)
 have a7:=varB_len l.op
 have a8:=varB_len l.md
 have a9:=varB_len l.sp
 have b1:=varB_len (Int.ofNat l.kids.length)
 have b2:=varB_len l.of
 have b3:=varB_len (Int.ofNat l.pth.length)
 have c1:=varB_len l.pl.a
 have c2:=varB_len l.pl.b
 have c3:=varB_len l.pl.c
 have c4:=varB_len l.pl.d
 have c5:=varB_len l.pl.e
 have c6:=varB_len l.pl.f
 have c7:=varB_len l.pl.n
 obtain ⟨d1,d2,d3,d4,d5⟩:=h
 generalize hfl:flg l.hid l.clip l.hm=fl
 have p1:(put1 fl).length=1:=rfl
 have p2:(fiB l.fi).length=4:=rfl
 have hT:(textB l.nm ++ put1 fl).length=(varB (Int.ofNat l.nm.length)).length+l.nm.length+1:=by unfold textB; rw [List.length_append,List.length_append,p1]
 have hT':(varB (Int.ofNat l.nm.length) ++ l.nm ++ put1 fl).length=(varB (Int.ofNat l.nm.length)).length+l.nm.length+1:=hT
 have hT2:(varB (Int.ofNat l.nm.length) ++ l.nm).length=(varB (Int.ofNat l.nm.length)).length+l.nm.length:=List.length_append ..
 refine isE1 2 W6_ok (hd_1 l) all_nil (isE1 1 W6_ok (hd_2 l) all_nil ?_)
 rw [hfl,tailN_seq]
 refine isE1 3 W6_ok (hd_3 l fl) ?_ ?_
 · repeat' (first | exact all_nil | refine fm ?_ ?_)
   all_goals first | decide | exact roomy_ok (by omega) | omega
 rw [tailN_seq,sHq_eq (t:=varB l.id ++ varB l.kd) (ap_eq _ _) (by rw [List.length_append])]
 generalize hs1:varB l.id ++ varB l.kd=s1
 have l1:s1.length=(varB l.id).length+(varB l.kd).length:=by rw [← hs1,List.length_append]
 refine isE1 1 W6_ok (hd_4 l fl s1) ?_ ?_
 · repeat' (first | exact all_nil | refine fm ?_ ?_)
   all_goals first | exact roomy_ok (by omega) | omega
 rw [tailN_seq,sHq_eq (t:=s1 ++ (textB l.nm ++ put1 fl)) (ap_eq _ _) (by simp only [List.length_append])]
 generalize hs2:s1 ++ (textB l.nm ++ put1 fl)=s2
 have l2:s2.length=s1.length+((varB (Int.ofNat l.nm.length)).length+l.nm.length+1):=by rw [← hs2,List.length_append,hT]
 refine isE1 1 W6_ok (hd_5 l fl s2) ?_ ?_
 · repeat' (first | exact all_nil | refine fm ?_ ?_)
   all_goals first | decide | exact roomy_ok (by omega) | omega | (simp only [strI_bytesI,List.length_append] <;> omega)
 rw [tailN_seq,sHq_eq (t:=s2 ++ varB l.op ++ varB l.md) (by simp only [ap_eq]) (by simp only [List.length_append])]
 generalize hs3:s2 ++ varB l.op ++ varB l.md=s3
 have l3:s3.length=s2.length+(varB l.op).length+(varB l.md).length:=by rw [← hs3]; simp only [List.length_append]
 refine isE1 1 W6_ok (hd_6 l fl s3) ?_ ?_
 · repeat' (first | exact all_nil | refine fm ?_ ?_)
   all_goals first | decide | exact roomy_ok (by omega) | omega | (simp only [strI_bytesI,List.length_append] <;> omega)
 rw [tailN_seq,sHq_eq (t:=s3 ++ plcB l.pl) (by unfold plcB; simp only [ap_eq,List.append_assoc]) (by unfold plcB; simp only [List.length_append]; omega)]
 have lp:(plcB l.pl).length=(varB l.pl.a).length+(varB l.pl.b).length+(varB l.pl.c).length+(varB l.pl.d).length+(varB l.pl.e).length+(varB l.pl.f).length+(varB l.pl.n).length:=by unfold plcB; simp only [List.length_append]
 generalize hs4:s3 ++ plcB l.pl=s4
 have l4:s4.length=s3.length+(plcB l.pl).length:=by rw [← hs4,List.length_append]
 refine isE1 1 W6_ok (hd_7 l fl s4) ?_ ?_
 · repeat' (first | exact all_nil | refine fm ?_ ?_)
   all_goals first | decide | exact roomy_ok (by omega) | omega | (simp only [strI_bytesI,List.length_append] <;> omega)
 rw [tailN_seq,sHq_eq (t:=s4 ++ varB l.sp ++ varB (Int.ofNat l.kids.length)) (by simp only [ap_eq]) (by simp only [List.length_append])]
 generalize hs5:s4 ++ varB l.sp ++ varB (Int.ofNat l.kids.length)=s5
 have l5:s5.length=s4.length+(varB l.sp).length+(varB (Int.ofNat l.kids.length)).length:=by rw [← hs5]; simp only [List.length_append]
 refine isE1 1 (pinW_ok (Nat.le_of_ble_eq_true (by kernel_rfl)) (pcIs l s5 (by omega) (by omega) d2) W6_ok) (hd_8 l fl s5 (s5 ++ numsB l.kids)) (fm1 ⟨rfl,rfl,rfl⟩) ?_
 rw [tailN_seq]
 generalize hs6:s5 ++ numsB l.kids=s6
 have l6:s6.length=s5.length+(numsB l.kids).length:=by rw [← hs6,List.length_append]
 refine isE1 4 (pinK (bytesD l.f d3 d4) W6_ok) (hd_9 l fl s6 (bytesF l.f)) ?_ ?_
 · repeat' (first | exact all_nil | refine fm ?_ ?_)
   all_goals first | decide | rfl | exact roomy_ok (by omega) | omega | (simp only [strI_bytesI,List.length_append,List.length_cons,List.length_nil] <;> omega)
 rw [tailN_seq]
 have e7:ap (ap (ap s6 (varB l.of)) (bytesF l.f) ++ fiB l.fi) (varB (Int.ofNat l.pth.length))=s6 ++ varB l.of ++ bytesF l.f ++ fiB l.fi ++ varB (Int.ofNat l.pth.length):=by simp only [ap_eq]
 rw [e7]
 generalize hs7:s6 ++ varB l.of ++ bytesF l.f ++ fiB l.fi ++ varB (Int.ofNat l.pth.length)=s7
 have l7:s7.length=s6.length+(varB l.of).length+(bytesF l.f).length+4+(varB (Int.ofNat l.pth.length)).length:=by rw [← hs7]; simp only [List.length_append,p2]
 rw [← l7]
 have hfin:headF l=s7 ++ ptsB l.pth:=by
  unfold headF
  rw [hfl,hs1,hs2,hs3,hs4,hs5,hs6,hs7]
 refine loopF W6_ok 4 _ [6,7,105,106,107] (l.pth.length - ·) (· ≤ l.pth.length) (fun i=>sPt l.pth.length (ptD l.pth) i (s7 ++ ptsB (l.pth.take i)).length (s7 ++ ptsB (l.pth.take i))) 0 (Nat.zero_le _) (hd_a l s7) all_nil (by simp only [List.take_zero,ptsB,List.map_nil,List.flatten_nil,List.append_nil]; exact .refl) fun i hi=>?_
 have hpl:=ptsB_len (l.pth.take i)
 rw [List.length_take] at hpl
 generalize hu:s7 ++ ptsB (l.pth.take i)=u
 have lu:u.length=s7.length+(ptsB (l.pth.take i)).length:=by rw [← hu,List.length_append]
 refine ⟨_,W6_ok,[],_,_,hd_b l.pth.length (ptD l.pth) i u (l.pth.getD i (0,0)).1 (l.pth.getD i (0,0)).2,gcons (g1 fun h=>?_) (gone (g1 fun h=>⟨all_nil,rfl,?_⟩))⟩
 · have hlt:=dlt h
   obtain ⟨p,hp⟩:∃ p,l.pth[i]? =some p:=⟨_,List.getElem?_eq_getElem hlt⟩
   have ev:l.pth.getD i (0,0)=p:=by rw [List.getD_eq_getElem?_getD,hp]; rfl
   rw [ev]
   have q1:=varB_len p.1
   have q2:=varB_len p.2
   have hat:=ptD_at hp
   refine ⟨?_,i+1,lsub hlt,hlt,?_⟩
   · repeat' (first | exact all_nil | refine fm ?_ ?_)
     all_goals first | decide | exact ibd hlt | exact ptD_len _ | exact hat | exact roomy_ok (by omega) | exact vsuc (by omega) | omega | (simp only [strI_bytesI,List.length_append] <;> omega)
   · show Goes _ _ _ _ (sPt l.pth.length (ptD l.pth) (i+1) (s7 ++ ptsB (l.pth.take (i+1))).length (s7 ++ ptsB (l.pth.take (i+1))))
     rw [ptsB_step hp,← List.append_assoc,hu]
     have e:ap (ap u (varB p.1)) (varB p.2)=u ++ (varB p.1 ++ varB p.2):=by simp only [ap_eq,List.append_assoc]
     have e2:u.length+(varB p.1).length+(varB p.2).length=(u ++ (varB p.1 ++ varB p.2)).length:=by simp only [List.length_append]; omega
     rw [e,e2]; exact .refl
 · obtain rfl:i=l.pth.length:=by have:=dge h; omega
   rw [List.take_length] at hu
   rw [hfin,hu]
   exact retE W6_ok (hd_c _ _ _ u) (gone (g0 ⟨fm (by omega) (fm ⟨rfl,by omega⟩ (fm1 (by omega))),_,_,_,rfl,rfl⟩))
end Go.Proofs.YtmjggdmekboefaaGreatDoor
namespace Go.Proofs.YtmjggdmekboefaaGreatDoor
open Go Go.Eng
noncomputable abbrev cdPc2:Code:=bodyOf Tryz.f120
noncomputable abbrev cdTc:Code:=bodyOf Tryz.f96
noncomputable abbrev tlTc:Code:=tailN 1 cdTc
noncomputable abbrev cdTz:Code:=bodyOf Tryz.f95
noncomputable abbrev cdTb:Code:=bodyOf Tryz.f64
noncomputable abbrev tlTb:Code:=tailN 2 cdTb
abbrev pq4 (r g b a:Int):V:=.agg [.int .u8 r,.int .u8 g,.int .u8 b,.int .u8 a]
theorem pcl_1 (r g b a:Int):∃ L,RunIs Tryz.prog (csH noW []) [(5,.split)] 1000 3 Tryz.f120 [] (cdPc2) (startSt [pq4 r g b a] .nil 3) L
  [([((a == (0:Int)),true)],
   [],
   .ret (.agg [.int .u8 0,.int .u8 0,.int .u8 0,.int .u8 0]) (hL []) 3),
  ([((a == (0:Int)),false)],
   [],
   .ret (.agg [.int .u8 r,.int .u8 g,.int .u8 b,.int .u8 a]) (hL []) 3)]
 :=RunIs.of (by kernel_rfl) (by kernel_rfl) (by kernel_rfl)
def specPc:List V→Option (List Prop × V)
 | [.agg [.int .u8 r,.int .u8 g,.int .u8 b,.int .u8 a]]=>some ([],pq4 (cl a r) (cl a g) (cl a b) (cl a a))
 | _=>none
noncomputable abbrev Wpc:CtrW:=addW 120 (pureW specPc) noW
theorem one_Pc:OneW Tryz.prog 120 (pureW specPc):=by
 refine pureT Tryz.func120 fun args A v e=>?_
 unfold specPc at e
 split at e
 case h_2=>cases e
 rename_i r g b a
 obtain ⟨rfl,rfl⟩:=sm e
 refine ⟨rfl,rfl,rfl,fun _=>retE (noW_ok _) (pcl_1 r g b a) (gcons (g1 fun h=>⟨all_nil,_,_,_,rfl,?_⟩) (gone (g1 fun h=>⟨all_nil,_,_,_,rfl,?_⟩)))⟩
 · have h:a=0:=by simpa using h
   simp only [pq4,cl,if_pos h]
 · have h:¬ a=0:=by simpa using h
   simp only [pq4,cl,if_neg h]
theorem Wpc_ok:CtrWOk Tryz.prog Wpc:=addW_ok one_Pc (noW_ok _)
def sTc (p:Nat→Int) (ks:List Int) (i:Nat):St:=stG [(1,.ptr (some (3,0))),(2,.ptr (some (4,0))),(5,tlV p),(6,iW i)] (hL [(3,.own .u8 ks),(4,.own .u8 (List.replicate 256 0))]) 5
theorem tc_1 (p:Nat→Int):∃ L,RunIs Tryz.prog (csH Wpc []) [] 1000 3 Tryz.f96 [1,2] (headN 1 cdTc) (startSt [tlV p] .nil 3) L
  [([],
   [],
   .to .normal (stG [(1,.ptr (some (3,0))),(2,.ptr (some (4,0)))] (hL [(3,.cells (D.toVs (tcs p))),(4,.cells (List.replicate 256 (.int .u8 0)))]) 5))]
 :=RunIs.of (by kernel_rfl) (by kernel_rfl) (by kernel_rfl)
theorem tc_2 (p:Nat→Int) (ks:List Int):RunE (csH Wpc []) [] 3 Tryz.f96 [1,2,5,6] (seqL (seqL tlTc)) (stG [(1,.ptr (some (3,0))),(2,.ptr (some (4,0)))] (hL [(3,.cells (D.toVs (tcs p))),(4,.cells (List.replicate 256 (.int .u8 0)))]) 5) [([],[],.to .normal (stG [(1,.ptr (some (3,0))),(2,.ptr (some (4,0))),(5,tlV p),(6,iX 0)] (hL [(3,.cells (D.toVs (tcs p))),(4,.cells (List.replicate 256 (.int .u8 0)))]) 5))]:=RunIs.of (by kernel_rfl) (by kernel_rfl) (by kernel_rfl)
theorem tc_3 (p:Nat→Int) (ks:List Int) (i:Nat) (r g b a:Int):RunE (csH Wpc []) [(7,.split),(9,.give (pq4 r g b a)),(14,.give (iW (i+1)))] 3 Tryz.f96 [1,2,5,6] (inner (inner (seqR (seqL tlTc)))) (sTc p ks i)
  [([(decide (Int.ofNat i < 64),true)],[(0:Int) ≤ Int.ofNat i∧Int.ofNat i < 64,i * 4+4 ≤ (D.toVs (tcs p)).length,V.agg (List.take 4 (List.drop (i * 4) (D.toVs (tcs p))))=pq4 r g b a,(0:Int) ≤ Int.ofNat i∧Int.ofNat i < 64,0+i * 4+4 ≤ ks.length,V.int .i64 (IntKind.i64.wrap (Int.ofNat i+1))=iW (i+1)],
   .to .normal (sTc p (putI ks (0+i * 4) [cl a r,cl a g,cl a b,cl a a]) (i+1))),
   ([(decide (Int.ofNat i < 64),false)],[],.to (.exit 0) (sTc p ks i))]:=RunIs.of (by kernel_rfl) (by kernel_rfl) (by kernel_rfl)
theorem tc_4 (p:Nat→Int) (ks:List Int):RunE (csH Wpc []) [] 3 Tryz.f96 [] (seqR tlTc) (sTc p ks 64) [([],[256 ≤ ks.length,256 ≤ 256],.ret (aggInts .u8 ks 0 256) (hL []) 3)]:=RunIs.of (by kernel_rfl) (by kernel_rfl) (by kernel_rfl)
def eqT (p q:Nat→Int):Bool:=(List.range 64).all fun i=>(p (i * 4) == q (i * 4)) && ((p (i * 4+1) == q (i * 4+1)) && ((p (i * 4+2) == q (i * 4+2)) && ((p (i * 4+3) == q (i * 4+3)) && true)))
theorem tz_1 (p q:Nat→Int):RunE (csH (pinN 96 [tlV p] (tlV q) noW) []) [] 3 Tryz.f95 [] cdTz (startSt [tlV p] .nil 3) [([],[pinA [tlV p]],.ret (.bool (eqT q fun _=>0)) (hL []) 3)]:=RunIs.of (by kernel_rfl) (by kernel_rfl) (by kernel_rfl)
end Go.Proofs.YtmjggdmekboefaaGreatDoor
