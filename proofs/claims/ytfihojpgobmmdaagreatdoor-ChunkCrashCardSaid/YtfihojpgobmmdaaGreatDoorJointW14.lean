/- The engine, part MI: a call whose arguments may be frozen ahead of it. No conditions: lemmas alone. -/
import Derived.Test.YtfihojpgobmmdaaGreatDoorJointW12
import Derived.Sort.Row
import Derived.Sort.Grow
import Derived.Sort.EncStr
set_option linter.unusedVariables false
set_option linter.unusedSimpArgs false
set_option linter.unusedSectionVars false
namespace Go.Eng
open Go Go.RowKit
theorem fU.frz{P:Program}{f:FuncId}{args q7:ag}{h h2:Tr O}{n:Nat}{ms:List Nat}{A:ah}{R:V->Tr O->Nat->Prop}
  (hl:(Nat.beq args.length q7.length&&Nat.blt args.length fN)=true) (e:XR ms (cT args h n)=some (A,cT q7 h2 n)) (hA:∀a∈A,a) (c:fU P f q7 h2 n R):fU P f args h n R:=by
 intro E w c9 ra g hd;simp only[aC]at hl;have iT:args.length=q7.length:=aD hl.1;have fJ:args.length<fN:=au hl.2;obtain⟨ya,lQ⟩:=tj (n:=args.length) ra (aA _) fJ;have r:jV E args.length (cT args h n) { tmps:=c9.toArray++Array.replicate (args.length-c9.toArray.size) undef,defers:=[] } w:=⟨g,hd,ya,lQ,rfl⟩;obtain⟨E2,r2,u,_,jb⟩:=wh (n0:=n) e hA r (aA _);have as8:c9.length=args.length:=eL ra;have ra2:dI E2 q7 c9:=by
  refine jz be fun i v hv=>?_;have hi:i<q7.length:=(aF.1 hv).1;have hg:(cT q7 h2 n).fr.get i=some v:=by
   show(lP q7 0 .nil).get i=some v;rw[u7 q7 0 .nil i be];rw[aG be];simpa using hv
  obtain⟨v',k1,k2⟩:=r2.fr i v hg;refine⟨v',?_,k2⟩;rw[bR (by simp;omega)]at k1;simpa using k1
 refine(c E2 w c9 ra2 r2.good r2.nZ).mono fun en w' ⟨v,h',n',hR,E3,u3,fK,hd3,Ky,ho⟩=>⟨v,h',n',hR,E3,?_,fun m hm=>(fK m hm).trans (jb m),hd3,Ky,ho⟩;exact(u.trans (lH.of u3 fK (aA _))).qo hd
theorem cU.frz{P:Program}{f:FuncId}{args q7:ag}{h h2:Tr O}{n:Nat}{ms:List Nat}{A:ah}{v:V}{h1:Tr O}{n1:Nat}
  (hl:(Nat.beq args.length q7.length&&Nat.blt args.length fN)=true) (e:XR ms (cT args h n)=some (A,cT q7 h2 n)) (hA:∀a∈A,a) (c:cU P f q7 h2 n v h1 n1):cU P f args h n v h1 n1:=
 fU.is (c.one.frz hl e hA)
open Go.Proofs
section
variable(ss:List (aa))
def iQ:List (aa):=ss.mergeSort fun x y=>decide (x<=y)
theorem sE:(iQ ss).length=ss.length:=List.length_mergeSort ..
end
def RG(P:Program)(f:FuncId):Prop:=∀(BO off cP:Nat) (ss:List (aa)) (w:World),Sort.Holds encStr w BO off ss.toArray->BO<w.heap.size->ss.length<4611686018427387904->
 Calls P f #[.slice (some ⟨BO,off,none⟩) ss.length cP] w fun e w'=>e= .returned (.tuple #[])/\∃n os,w'=Sort.grow (Sort.putRow encStr (Sort.ahead w n) BO off (ss.mergeSort fun x y=>decide (x<=y)).toArray) os
theorem GU(w:World)(n b s:Nat)(zs:List (aa))(os:Array Obj){c:Array Value}{el:TypeId}{fz:Nat×Nat}(hb:w.heap[b]? =some (.cells c el fz))(k:Nat)(hk:k<w.heap.size):
  (Sort.grow (Sort.putRow encStr (Sort.ahead w n) b s zs.toArray) os).heap[k]? =if k=b then some (.cells (Sort.putCells encStr s zs.toArray c) el fz)else w.heap[k]?:=by
 have h1:(Sort.grow (Sort.putRow encStr (Sort.ahead w n) b s zs.toArray) os).heap[k]? =(Sort.putRow encStr (Sort.ahead w n) b s zs.toArray).heap[k]?:=by
  show((Sort.putRow encStr (Sort.ahead w n) b s zs.toArray).heap++os)[k]? =_;rw[bR];rw[Sort.size_putRow];exact hk
 rw[h1];show(w.heap.modify b (Sort.onCells _))[k]? =_;rw[cm];by_cases q:k=b
 . subst q;rw[aG rfl,aG rfl,hb];rfl
 . rw[aI (fun z=>q z.symm),aI q]
theorem Fl{φ:Nat->Option (Array Value)}:∀{ss:List (aa)} {vs:List Value},iw φ (ss.map D.str) vs->vs=ss.map encStr
 | [],_,r=>r
 |s::ss,_,⟨y,ys,_,r,rs,e⟩=>by subst e;rw[Fl rs];exact aN (. ::_) r
theorem Fm{φ:Nat->Option (Array Value)}:∀(ss:List (aa)),iw φ (ss.map D.str) (ss.map encStr)
 | []=>rfl
 |_::ss=>⟨_,_,rfl,rfl,Fm ss,rfl⟩
theorem Dh{P:Program}{f:FuncId}{m l cp:Nat}{h:Tr O}{n:Nat}{ss zs:List (aa)}{rest:ag}(hz:zs.length=ss.length)(hm:h.get m=some (.deep (ss.map D.str)))(yS:m<fN)(h0:0<l)(hl:l=ss.length)(P7:l<1000000)
  (hs:∀E w (b o cP:Nat) (I7:List Value),Good E h w->dI E rest I7->E.ι m=some (b,o)->Sort.Holds encStr w b o ss.toArray->b<w.heap.size->Calls P f (.slice (some ⟨b,o,none⟩) ss.length cP::I7).toArray w fun e w'=>e= .returned (.tuple #[])/\∃n os,w'=Sort.grow (Sort.putRow encStr (Sort.ahead w n) b o zs.toArray) os):
  cU P f (.di (some (m,0)) l cp 1::rest) h n (.ef []) (h.set m (some (.deep (zs.map D.str)))) n:=by
 intro E w c9 ra g hd;obtain⟨y,ys,r0,rs,rfl⟩:=ra;obtain⟨b,s,o',gj,e1,q1,q2,q3,q4,rfl⟩:=r0;have ho:o'=s:=by have:=q1 be;omega
 subst ho;obtain⟨b',s',e2,c,el,fz,vs,k1,k2,k3,k4,k5⟩:=g.rel m _ hm;rw[e1]at e2;simp only[an,aB]at e2;obtain⟨rfl,rfl⟩:=e2;have hbb:b<w.heap.size:=g.mU m b o' e1;have hvs:=Fl k4;subst hvs;have mh:∀j,j<ss.length->c[o'+j]? =some (encStr (ss.toArray[j]!)):=by
  intro j hj;rw[k5 j (encStr ss[j]) (by rw[br,ay hj];rfl)];rw[getElem!_pos ss.toArray j (by simpa using hj)];simp
 have hH:Sort.Holds encStr w b o' ss.toArray:=by
  intro j hj;have hj:j<ss.length:=by simpa using hj
  have hcj:=mh j hj;refine⟨by unfold World.cell?;simp only[k1];exact hcj,?_⟩;unfold World.frozen?;simp only[k1];have alI:o'+j<c.size:=by
   rcases bN (o'+j) c.size with q|q
   . exact q
   . rw[Array.getElem?_eq_none q]at hcj;cases hcj
  have:=k3 (o'+j) alI;obtain⟨lo,hi⟩:=fz;simp only at this ⊢;cases hq:(decide (lo<=o'+j)&&decide (o'+j<hi))with
  |false=>rfl
  |true=>
   simp only[aC,bC]at hq;exact absurd hq this
 subst hl;refine(hs E w b o' gj ys g rs e1 hH hbb).mono fun en w' ⟨he,nn,os,hw⟩=>?_;have MO:∀k,k<w.heap.size->w'.heap[k]? =if k=b then some (.cells (Sort.putCells encStr o' zs.toArray c) el fz)else w.heap[k]?:=by
  intro k hk;rw[hw];exact GU w nn b o' zs os k1 k hk
 have lQ:w.heap.size<=w'.heap.size:=by
  rw[hw];show w.heap.size<=((Sort.putRow encStr (Sort.ahead w nn) b o' zs.toArray).heap++os).size;rw[Array.size_append,Sort.size_putRow];exact Nat.le_add_right _ _
 have tZ:eC h m:=⟨_,hm,rfl⟩;have kH:∀j,(h.set m (some (O.deep (zs.map D.str)))).get j=if j=m then some (O.deep (zs.map D.str))else h.get j:=fun j=>Tr.eS _ _ _ yS
 have iz:∀j,((h.set m (some (O.deep (zs.map D.str)))).get j≠none↔h.get j≠none)/\(eC (h.set m (some (O.deep (zs.map D.str)))) j->eC h j):=by
  intro j;rw[kH];by_cases q:j=m
  . subst q;rw[aG rfl,hm];exact⟨by simp,fun _=>tZ⟩
  . rw[aI q];exact⟨Iff.rfl,fun z=>oz yS z q⟩
 have g':Good E (h.set m (some (O.deep (zs.map D.str)))) w':=by
  refine⟨fun j o hj=>?_,fun j j' x t t' fP hj QO e1 e2=>g.inj j j' x t t' fP ((iz j).2 hj) ((iz j').1.1 QO) e1 e2,fun j x t e=>bD (g.mU j x t e) lQ,g.jm,fun x cc hx=>?_⟩
  . rw[kH]at hj;split at hj
    . rename_i q;subst q;obtain rfl:=ew hj;refine⟨b,o',e1,Sort.putCells encStr o' zs.toArray c,el,fz,zs.map encStr,by rw[MO b hbb,aG rfl],by simp[Sort.putCells,k2],by simpa[Sort.putCells]using k3,Fm _,fun i x hi=>?_⟩;have Qg:i<zs.length:=by
       rcases bN i zs.length with q|q
       . exact q
       . rw[bP (by simpa using q)]at hi;cases hi
      have hc:=mh i (by rw[<- hz];exact Qg);simp only[Sort.putCells,Array.getElem?_mapIdx,hc,bh];rw[aG ⟨be,by simp;exact Qg⟩,show o'+i-o'=i by omega,getElem!_pos zs.toArray i (by simpa using Qg)];rw[br,ay Qg]at hi;simp only[bh,an]at hi;simp[<- hi]
    . rename_i q;obtain⟨x,t,h1,h2⟩:=g.rel j o hj;refine⟨x,t,h1,ik (Env.le_refl E) rfl ?_ h2⟩;have hx:=g.mU j x t h1;rw[MO x hx,aI];rintro rfl;exact g.inj m j x o' t (fun z=>q z.symm) tZ (by rw[hj];simp) e1 h1
  . obtain⟨⟨Xs,fz',Um⟩,Qt⟩:=g.gM x cc hx;have hxb:x≠b:=by rintro rfl;exact Qt m o' tZ e1
    have Cm:x<w.heap.size:=(aQ.1 Um).1;exact⟨⟨Xs,fz',by rw[MO x Cm,aI hxb];exact Um⟩,fun j t hj=>Qt j t ((iz j).2 hj)⟩
 refine⟨E,⟨Env.le_refl E,g',lQ,by rw[hw];rfl,by rw[hw];rfl,by rw[hw];rfl,fun x hx rU=>?_,fun j x t hj e hx=>⟨j,t,(iz j).1.1 hj,e,(iz j).2⟩,fun x c h=>.inl h⟩,fun _ _=>rfl,hd,aA _,?_⟩
 . rw[MO x hx,aI];rintro rfl;exact rU m o' tZ e1
 . rw[he];exact⟨[],rfl,rfl⟩
theorem I8{P:Program}{f:FuncId}(hs:RG P f){m l cp:Nat}{h:Tr O}{n:Nat}{ss:List (aa)}(hm:h.get m=some (.deep (ss.map D.str)))(yS:m<fN)(h0:0<l)(hl:l=ss.length)(P7:l<1000000):
  cU P f [.di (some (m,0)) l cp 1] h n (.ef []) (h.set m (some (.deep ((iQ ss).map D.str)))) n:=
 Dh (sE ss) hm yS h0 hl P7 fun E w b o cP I7 _ rs _ hH hb=>by
  have rs:I7=[]:=rs;subst rs;exact hs b o cP ss w hH hb be
end Go.Eng
