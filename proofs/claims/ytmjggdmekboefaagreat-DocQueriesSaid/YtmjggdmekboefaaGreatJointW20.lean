/- The Doc laws: numbers that come in. No conditions. -/
import Derived.Test.YtmjggdmekboefaaGreatJointW18
import Derived.Test.YtmjggdmekboefaaGreatJointW19
import Derived.Test.YtmjggdmekboefaaGreatJointW16
set_option linter.unusedVariables false
set_option linter.unusedSimpArgs false
set_option linter.unusedSectionVars false
namespace Go.Proofs.YtmjggdmekboefaaGreat
open Go Go.ChangeShapes Go.WideShapes Go.ChangeAt Go.RowKit Go.Eng
set_option linter.constructorNameAsVariable false
theorem sU:∀{jS:List (ai)},(∀r∈jS,Ty.ok (.int .i64) r)->∃l:List Int,jS.flatten=l.map (.int .i64)/\l.length=jS.length
 | [],_=>⟨[],rfl,rfl⟩
 |r::jS,h=>by
  obtain⟨l,h1,C⟩:=sU (jS:=jS) fun x K=>h x (bh _ K);obtain⟨n,rfl,_⟩:=h r (by simp);exact⟨n::l,by rw[de,h1];rfl,by simp[C]⟩
section
variable{dG:Type}{enc:TypeId×Value->dG}{w:World}{r:Reach}{base:Nat}{t:TypeId}{v:Value}{d:DataW dG}{ps:List MemPlace}{DY:Nat->Bool}{L0:Bool}
theorem Ng{s':Ty}(n:Nat)(hT:Hy ak n t=some s')(hs:∀cs,v≠ .agg cs)(h:DataW.Trod enc ak w 0 DY L0 t v d ps):∃ds,s'.ok ds/\jl (uG w) ds [v]:=by
 obtain⟨fuel,h⟩:=h;have e:v.cells.toList=[v]:=by cases v<;>first|rfl|exact absurd rfl (hs _)
 rw[e]at h;exact zw n hT h
theorem Td(h:Value.okWide ak w r base t v)(ht:∀fs,Tryz.prog.underlying t≠some (.struct fs))(ht2:∀k e,Tryz.prog.underlying t≠some (.array k e)):∀cs,v≠ .agg cs:=by
 rintro cs rfl;unfold Value.okWide at h;split at h
 . rename_i q;exact ht _ q
 . rename_i q;exact ht2 _ _ q
 . unfold Cell.okWide Cell.ok at h;split at h<;>first|(split at h<;>simp_all)|simp_all
theorem Wg(hT:Hy ak 9 t=some (.fk (.int .i64)))(hs:∀cs,v≠ .agg cs)(h:DataW.Trod enc ak w 0 DY L0 t v d ps):∃l:List Int,lF (uG w) (.eM l.length (l.map (.int .i64))) v:=by
 obtain⟨xs0,⟨awY,rfl,_,abW⟩,y0,ys0,_,WR,_,e0⟩:=Ng 9 hT hs h;cases e0;obtain⟨l,ava,avb⟩:=sU abW;rw[ava,<- avb]at WR;exact⟨l,WR⟩
end
theorem OQ{f:FuncId}{fn:Func}{code:Code}(hf:Tryz.prog.funcs[f]? =some fn)(U:fn.body=some code){args:ag}{vs:List Value}{w:World}
  (l:(Nat.ble args.length fn.ntmps&&Nat.blt fn.ntmps gO)=true) (hT:TG ak 0 fn.ntmps code (dI args .nil 0) (gi ak 0 fn fun u _ _=>u= .bool true))
  (ra:eK (BH (uG w)) args vs):Calls ak f vs.toArray w fun e w'=>e= .returned (.bool true)/\Below w.heap.size w w':=by
 have g:Eng.Good (BH (uG w)) .nil w:=xx (fun p hp=>by cases hp) (Wf w);refine(Df mo po hf U l hT ra g (C3 (aK _)) xB).mono fun e w' ⟨⟨E2,ho⟩,hbl⟩=>⟨?_,hbl⟩;cases e with
 |returned v'=>
  have ho:eH E2 (.bool true) v':=ho;simp only[eH]at ho;rw[ho]
 |_=>exact ho.elim
end Go.Proofs.YtmjggdmekboefaaGreat
namespace Go.Proofs.YtmjggdmekboefaaGreat.Q
open Go Go.Eng
set_option maxRecDepth 100000
theorem Hz{n:Int}(h:(Lit.int B n).wf=true):mD n:=by
 unfold mD;simp only[Lit.wf,ay,aU]at h;exact h
abbrev tI:Ty:=.int .i64
abbrev tU:Ty:=.int .u8
abbrev tPx:Ty:=.agg [tU,tU,tU,tU]
abbrev tTl:Ty:=.agg [.agg [tI,tI],.agg (List.replicate 64 tPx)]
abbrev tLy:Ty:=.agg [tI,tI,.str,.bool,tI,tI,.bool,.agg [tI,tI,tI,tI,tI,tI,tI],tI,.fk tI,tI,.agg [tI,tI,.fk tI,tI,tI,.fk tI],tPx,.fk (.agg [tI,tI]),.agg [.fk tTl],.bool,.agg [.fk tTl]]
theorem sU:∀{jS:List (ai)},(∀r∈jS,Ty.ok tI r)->∃l:List Int,jS.flatten=eL l/\l.length=jS.length
 | [],_=>⟨[],rfl,rfl⟩
 |r::jS,h=>by
  obtain⟨l,h1,C⟩:=sU (jS:=jS) fun x K=>h x (bh _ K);obtain⟨s,rfl,_⟩:=h r (by simp);exact⟨s::l,by rw[de,h1];rfl,by simp[C]⟩
theorem JS:∀{jS:List (ai)},(∀r∈jS,Ty.ok (.agg [tI,tI]) r)->∃l:List (Int×Int),jS.flatten=nf l/\l.length=jS.length
 | [],_=>⟨[],rfl,rfl⟩
 |r::jS,h=>by
  obtain⟨l,h1,C⟩:=JS (jS:=jS) fun x K=>h x (bh _ K);obtain⟨_,_,rfl,⟨x,rfl,_⟩,_,_,rfl,⟨y,rfl,_⟩,rfl⟩:=h r (by simp);exact⟨(x,y)::l,by rw[de,h1];rfl,by simp[C]⟩
theorem XE:∀(n:Nat) {b:ai},Ty.oks (List.replicate n tPx) b->∃W:List Int,W.length=4*n/\b=W.map (D.int .u8)
 |0,b,h=>⟨[],rfl,h⟩
 |n+1,b,h=>by
  obtain⟨_,b',rfl,⟨_,_,rfl,⟨x,rfl,_⟩,_,_,rfl,⟨y,rfl,_⟩,_,_,rfl,⟨z,rfl,_⟩,_,_,rfl,⟨w,rfl,_⟩,rfl⟩,U⟩:=h;obtain⟨W,h1,rfl⟩:=XE n U;exact⟨x::y::z::w::W,by simp only[aN,h1];omega,rfl⟩
theorem JT:∀{jS:List (ai)},(∀r∈jS,Ty.ok tTl r)->∃l:List Tl,jS.flatten=iO l/\l.length=jS.length
 | [],_=>⟨[],rfl,rfl⟩
 |r::jS,h=>by
  obtain⟨l,h1,C⟩:=JT (jS:=jS) fun x K=>h x (bh _ K);obtain⟨_,_,rfl,⟨_,_,rfl,⟨x,rfl,_⟩,_,_,rfl,⟨y,rfl,_⟩,rfl⟩,_,_,rfl,hp,rfl⟩:=h r (by simp);obtain⟨W,h3,rfl⟩:=XE 64 hp;have e:W.map (D.int .u8)=vZ fun j=>W.getD j 0:=by
   unfold vZ;refine List.ext_getElem? fun j=>?_;rw[bD,bD];by_cases hj:j<256
   . rw[di hj];show _=some (D.int .u8 (W.getD j 0));rw[ax,au S];rfl
   . rw[cF S,cF (by simp;omega)];rfl
  refine⟨⟨x,y,fun j=>W.getD j 0⟩::l,?_,by simp[C]⟩;rw[de,h1,e];rfl
section
variable{r:ai}
theorem DZ(h:Ty.ok (.fk tI) r):∃l:List Int,r=[.eM l.length (eL l)]:=by
 obtain⟨jS,rfl,_,hr⟩:=h;obtain⟨l,h1,C⟩:=sU hr;exact⟨l,by rw[h1,C]⟩
theorem Wh(h:Ty.ok (.fk (.agg [tI,tI])) r):∃l:List (Int×Int),r=[.eM l.length (nf l)]:=by
 obtain⟨jS,rfl,_,hr⟩:=h;obtain⟨l,h1,C⟩:=JS hr;exact⟨l,by rw[h1,C]⟩
theorem Nh(h:Ty.ok (.agg [.fk tTl]) r):∃l:List Tl,r=[.eM l.length (iO l)]:=by
 obtain⟨_,_,rfl,⟨jS,rfl,_,hr⟩,rfl⟩:=h;obtain⟨l,h1,C⟩:=JT hr;exact⟨l,by rw[h1,C];rfl⟩
theorem abX(h:Ty.ok tLy r):∃l:eV,r=l.ds/\xX l.f:=by
 obtain⟨_,_,rfl,⟨i0,rfl,_⟩,_,_,rfl,⟨i1,rfl,_⟩,_,_,rfl,⟨i2,rfl,_⟩,_,_,rfl,⟨i3,rfl⟩,_,_,rfl,⟨i4,rfl,_⟩,_,_,rfl,⟨i5,rfl,_⟩,_,_,rfl,⟨i6,rfl⟩,_,_,rfl,
  ⟨_,_,rfl,⟨p1,rfl,_⟩,_,_,rfl,⟨p2,rfl,_⟩,_,_,rfl,⟨p3,rfl,_⟩,_,_,rfl,⟨p4,rfl,_⟩,_,_,rfl,⟨p5,rfl,_⟩,_,_,rfl,⟨p6,rfl,_⟩,_,_,rfl,⟨p7,rfl,_⟩,rfl⟩,
  _,_,rfl,⟨i8,rfl,_⟩,_,_,rfl,h9,_,_,rfl,⟨ia,rfl,_⟩,_,_,rfl,
  ⟨_,_,rfl,⟨f1,rfl,w1⟩,_,_,rfl,⟨f2,rfl,w2⟩,_,_,rfl,h3,_,_,rfl,⟨f4,rfl,w4⟩,_,_,rfl,⟨f5,rfl,w5⟩,_,_,rfl,h6,rfl⟩,
  _,_,rfl,⟨_,_,rfl,⟨c1,rfl,_⟩,_,_,rfl,⟨c2,rfl,_⟩,_,_,rfl,⟨c3,rfl,_⟩,_,_,rfl,⟨c4,rfl,_⟩,rfl⟩,_,_,rfl,hp,_,_,rfl,ht,_,_,rfl,⟨im,rfl⟩,_,_,rfl,L,rfl⟩:=h
 obtain⟨l1,rfl⟩:=DZ h9;obtain⟨l2,rfl⟩:=DZ h3;obtain⟨l3,rfl⟩:=DZ h6;obtain⟨l4,rfl⟩:=Wh hp;obtain⟨l5,rfl⟩:=Nh ht;obtain⟨l6,rfl⟩:=Nh L;exact⟨⟨i0,i1,i2,i3,i4,i5,i6,⟨p1,p2,p3,p4,p5,p6,p7⟩,i8,l1,ia,⟨f1,f2,l2,f4,f5,l3⟩,⟨c1,c2,c3,c4⟩,l4,l5,im,l6⟩,rfl,Hz w1,Hz w2,Hz w4,Hz w5⟩
theorem abY(h:Ty.ok (.agg [tI,tI,tI,tLy]) r):∃(la fi v:Int) (l:eV),r=[.int .i64 la,.int .i64 fi,.int .i64 v]++l.ds/\xX l.f:=by
 obtain⟨_,_,rfl,⟨la,rfl,_⟩,_,_,rfl,⟨fi,rfl,_⟩,_,_,rfl,⟨v,rfl,_⟩,_,_,rfl,h,rfl⟩:=h;obtain⟨l,rfl,U⟩:=abX h;exact⟨la,fi,v,l,by rw[c5];rfl,U⟩
end
end Go.Proofs.YtmjggdmekboefaaGreat.Q
