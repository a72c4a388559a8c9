/- The Doc laws: numbers that come in. No conditions. -/
import Derived.Test.YtmjggdmekboefaaGreatJointW18
import Derived.Test.YtmjggdmekboefaaGreatJointW19
import Derived.Test.YtmjggdmekboefaaGreatJointW16
set_option linter.unusedVariables false
set_option linter.unusedSimpArgs false
set_option linter.unusedSectionVars false
namespace Go.Proofs.YtmjggdmekboefaaGreat
open Go Go.ChangeShapes Go.WideShapes Go.ChangeAt Go.RowKit Go.Eng
set_option linter.constructorNameAsVariable false
theorem sH:∀{jD:List (ai)},(∀r∈jD,Ty.ok (.int .i64) r)->∃l:List Int,jD.flatten=l.map (.int .i64)/\l.length=jD.length
 | [],_=>⟨[],rfl,rfl⟩
 |r::jD,h=>by
  obtain⟨l,h1,C⟩:=sH (jD:=jD) fun x J=>h x (aZ _ J);obtain⟨n,rfl,_⟩:=h r (by simp);exact⟨n::l,by rw[cU,h1];rfl,by simp[C]⟩
section
variable{dz:Type}{enc:TypeId×Value->dz}{w:World}{r:Reach}{base:Nat}{t:TypeId}{v:Value}{d:DataW dz}{ps:List MemPlace}{DB:Nat->Bool}{Ls:Bool}
theorem Vw{fr:Ty}(n:Nat)(hT:GY ak n t=some fr)(hs:∀cs,v≠ .agg cs)(h:DataW.Trod enc ak w 0 DB Ls t v d ps):∃ds,fr.ok ds/\jd (uv w) ds [v]:=by
 obtain⟨fuel,h⟩:=h;have e:v.cells.toList=[v]:=by cases v<;>first|rfl|exact absurd rfl (hs _)
 rw[e]at h;exact yY n hT h
theorem aa9(h:Value.okWide ak w r base t v)(ht:∀fs,Tryz.prog.underlying t≠some (.struct fs))(ht2:∀k e,Tryz.prog.underlying t≠some (.array k e)):∀cs,v≠ .agg cs:=by
 rintro cs rfl;unfold Value.okWide at h;split at h
 . rename_i q;exact ht _ q
 . rename_i q;exact ht2 _ _ q
 . unfold Cell.okWide Cell.ok at h;split at h<;>first|(split at h<;>simp_all)|simp_all
theorem Vx(hT:GY ak 9 t=some (.eZ (.int .i64)))(hs:∀cs,v≠ .agg cs)(h:DataW.Trod enc ak w 0 DB Ls t v d ps):∃l:List Int,lg (uv w) (.eE l.length (l.map (.int .i64))) v:=by
 obtain⟨xs0,⟨av0,rfl,_,aba⟩,y0,ys0,_,V4,_,e0⟩:=Vw 9 hT hs h;cases e0;obtain⟨l,at7,at8⟩:=sH aba;rw[at7,<- at8]at V4;exact⟨l,V4⟩
end
theorem Of{f:FuncId}{fn:Func}{code:Code}(hf:Tryz.prog.funcs[f]? =some fn)(Y:fn.body=some code){args:ag}{vs:List Value}{w:World}
  (l:(Nat.ble args.length fn.ntmps&&Nat.blt fn.ntmps gy)=true) (hT:TG ak 0 fn.ntmps code (dB args .nil 0) (fV ak 0 fn fun u _ _=>u= .bool true))
  (ra:eC (Bf (uv w)) args vs):Calls ak f vs.toArray w fun e w'=>e= .returned (.bool true)/\Below w.heap.size w w':=by
 have g:Eng.Good (Bf (uv w)) .nil w:=wZ (fun p hp=>by cases hp) (Vv w);refine(CN mo po hf Y l hT ra g (CD (aK _)) xb).mono fun e w' ⟨⟨E2,ho⟩,hbl⟩=>⟨?_,hbl⟩;cases e with
 |returned v'=>
  have ho:eB E2 (.bool true) v':=ho;simp only[eB]at ho;rw[ho]
 |_=>exact ho.elim
end Go.Proofs.YtmjggdmekboefaaGreat
namespace Go.Proofs.YtmjggdmekboefaaGreat.Q
open Go Go.Eng
set_option maxRecDepth 100000
theorem GZ{n:Int}(h:(Lit.int B n).wf=true):me n:=by
 unfold me;simp only[Lit.wf,ay,aS]at h;exact h
abbrev tI:Ty:=.int .i64
abbrev tU:Ty:=.int .u8
abbrev tPx:Ty:=.agg [tU,tU,tU,tU]
abbrev tTl:Ty:=.agg [.agg [tI,tI],.agg (List.replicate 64 tPx)]
abbrev tLy:Ty:=.agg [tI,tI,.str,.bool,tI,tI,.bool,.agg [tI,tI,tI,tI,tI,tI,tI],tI,.eZ tI,tI,.agg [tI,tI,.eZ tI,tI,tI,.eZ tI],tPx,.eZ (.agg [tI,tI]),.agg [.eZ tTl],.bool,.agg [.eZ tTl]]
theorem sH:∀{jD:List (ai)},(∀r∈jD,Ty.ok tI r)->∃l:List Int,jD.flatten=eG l/\l.length=jD.length
 | [],_=>⟨[],rfl,rfl⟩
 |r::jD,h=>by
  obtain⟨l,h1,C⟩:=sH (jD:=jD) fun x J=>h x (aZ _ J);obtain⟨s,rfl,_⟩:=h r (by simp);exact⟨s::l,by rw[cU,h1];rfl,by simp[C]⟩
theorem Jo:∀{jD:List (ai)},(∀r∈jD,Ty.ok (.agg [tI,tI]) r)->∃l:List (Int×Int),jD.flatten=mQ l/\l.length=jD.length
 | [],_=>⟨[],rfl,rfl⟩
 |r::jD,h=>by
  obtain⟨l,h1,C⟩:=Jo (jD:=jD) fun x J=>h x (aZ _ J);obtain⟨_,_,rfl,⟨x,rfl,_⟩,_,_,rfl,⟨y,rfl,_⟩,rfl⟩:=h r (by simp);exact⟨(x,y)::l,by rw[cU,h1];rfl,by simp[C]⟩
theorem WR:∀(n:Nat) {b:ai},Ty.oks (List.replicate n tPx) b->∃ks:List Int,ks.length=4*n/\b=ks.map (D.int .u8)
 |0,b,h=>⟨[],rfl,h⟩
 |n+1,b,h=>by
  obtain⟨_,b',rfl,⟨_,_,rfl,⟨x,rfl,_⟩,_,_,rfl,⟨y,rfl,_⟩,_,_,rfl,⟨z,rfl,_⟩,_,_,rfl,⟨w,rfl,_⟩,rfl⟩,Y⟩:=h;obtain⟨ks,h1,rfl⟩:=WR n Y;exact⟨x::y::z::w::ks,by simp only[aR,h1];omega,rfl⟩
theorem Jp:∀{jD:List (ai)},(∀r∈jD,Ty.ok tTl r)->∃l:List Tl,jD.flatten=iH l/\l.length=jD.length
 | [],_=>⟨[],rfl,rfl⟩
 |r::jD,h=>by
  obtain⟨l,h1,C⟩:=Jp (jD:=jD) fun x J=>h x (aZ _ J);obtain⟨_,_,rfl,⟨_,_,rfl,⟨x,rfl,_⟩,_,_,rfl,⟨y,rfl,_⟩,rfl⟩,_,_,rfl,hp,rfl⟩:=h r (by simp);obtain⟨ks,h3,rfl⟩:=WR 64 hp;have e:ks.map (D.int .u8)=vI fun j=>ks.getD j 0:=by
   unfold vI;refine List.ext_getElem? fun j=>?_;rw[bC,bC];by_cases hj:j<256
   . rw[cZ hj];show _=some (D.int .u8 (ks.getD j 0));rw[ax,au S];rfl
   . rw[ct S,ct (by simp;omega)];rfl
  refine⟨⟨x,y,fun j=>ks.getD j 0⟩::l,?_,by simp[C]⟩;rw[cU,h1,e];rfl
section
variable{r:ai}
theorem DC(h:Ty.ok (.eZ tI) r):∃l:List Int,r=[.eE l.length (eG l)]:=by
 obtain⟨jD,rfl,_,hr⟩:=h;obtain⟨l,h1,C⟩:=sH hr;exact⟨l,by rw[h1,C]⟩
theorem Vy(h:Ty.ok (.eZ (.agg [tI,tI])) r):∃l:List (Int×Int),r=[.eE l.length (mQ l)]:=by
 obtain⟨jD,rfl,_,hr⟩:=h;obtain⟨l,h1,C⟩:=Jo hr;exact⟨l,by rw[h1,C]⟩
theorem MJ(h:Ty.ok (.agg [.eZ tTl]) r):∃l:List Tl,r=[.eE l.length (iH l)]:=by
 obtain⟨_,_,rfl,⟨jD,rfl,_,hr⟩,rfl⟩:=h;obtain⟨l,h1,C⟩:=Jp hr;exact⟨l,by rw[h1,C];rfl⟩
theorem abb(h:Ty.ok tLy r):∃l:eJ,r=l.ds/\ur l.f:=by
 obtain⟨_,_,rfl,⟨i0,rfl,_⟩,_,_,rfl,⟨i1,rfl,_⟩,_,_,rfl,⟨i2,rfl,_⟩,_,_,rfl,⟨i3,rfl⟩,_,_,rfl,⟨i4,rfl,_⟩,_,_,rfl,⟨i5,rfl,_⟩,_,_,rfl,⟨i6,rfl⟩,_,_,rfl,
  ⟨_,_,rfl,⟨p1,rfl,_⟩,_,_,rfl,⟨p2,rfl,_⟩,_,_,rfl,⟨p3,rfl,_⟩,_,_,rfl,⟨p4,rfl,_⟩,_,_,rfl,⟨p5,rfl,_⟩,_,_,rfl,⟨p6,rfl,_⟩,_,_,rfl,⟨p7,rfl,_⟩,rfl⟩,
  _,_,rfl,⟨i8,rfl,_⟩,_,_,rfl,h9,_,_,rfl,⟨ia,rfl,_⟩,_,_,rfl,
  ⟨_,_,rfl,⟨f1,rfl,w1⟩,_,_,rfl,⟨f2,rfl,w2⟩,_,_,rfl,h3,_,_,rfl,⟨f4,rfl,w4⟩,_,_,rfl,⟨f5,rfl,w5⟩,_,_,rfl,h6,rfl⟩,
  _,_,rfl,⟨_,_,rfl,⟨c1,rfl,_⟩,_,_,rfl,⟨c2,rfl,_⟩,_,_,rfl,⟨c3,rfl,_⟩,_,_,rfl,⟨c4,rfl,_⟩,rfl⟩,_,_,rfl,hp,_,_,rfl,ht,_,_,rfl,⟨im,rfl⟩,_,_,rfl,K,rfl⟩:=h
 obtain⟨l1,rfl⟩:=DC h9;obtain⟨l2,rfl⟩:=DC h3;obtain⟨l3,rfl⟩:=DC h6;obtain⟨l4,rfl⟩:=Vy hp;obtain⟨l5,rfl⟩:=MJ ht;obtain⟨l6,rfl⟩:=MJ K;exact⟨⟨i0,i1,i2,i3,i4,i5,i6,⟨p1,p2,p3,p4,p5,p6,p7⟩,i8,l1,ia,⟨f1,f2,l2,f4,f5,l3⟩,⟨c1,c2,c3,c4⟩,l4,l5,im,l6⟩,rfl,GZ w1,GZ w2,GZ w4,GZ w5⟩
theorem abc(h:Ty.ok (.agg [tI,tI,tI,tLy]) r):∃(la fi v:Int) (l:eJ),r=[.int .i64 la,.int .i64 fi,.int .i64 v]++l.ds/\ur l.f:=by
 obtain⟨_,_,rfl,⟨la,rfl,_⟩,_,_,rfl,⟨fi,rfl,_⟩,_,_,rfl,⟨v,rfl,_⟩,_,_,rfl,h,rfl⟩:=h;obtain⟨l,rfl,Y⟩:=abb h;exact⟨la,fi,v,l,by rw[dw];rfl,Y⟩
end
end Go.Proofs.YtmjggdmekboefaaGreat.Q
