/- The engine, part MI: a call whose arguments may be frozen ahead of it. No conditions: lemmas alone. -/
import Derived.Test.YtfihojpgobmmdaaGreatDoorJointW12
import Derived.Sort.Row
import Derived.Sort.Grow
import Derived.Sort.EncStr
set_option linter.unusedVariables false
set_option linter.unusedSimpArgs false
set_option linter.unusedSectionVars false
namespace Go.Eng
open Go Go.RowKit
theorem fQ.frz{P:Program}{f:FuncId}{args q8:ag}{h h2:Tr O}{n:Nat}{ms:List Nat}{A:ah}{R:V->Tr O->Nat->Prop}
  (hl:(Nat.beq args.length q8.length&&Nat.blt args.length fL)=true) (e:XG ms (cS args h n)=some (A,cS q8 h2 n)) (hA:∀a∈A,a) (c:fQ P f q8 h2 n R):fQ P f args h n R:=by
 intro E w c9 ra g hd;simp only[aC]at hl;have iS:args.length=q8.length:=aD hl.1;have fF:args.length<fL:=au hl.2;obtain⟨x8,lW⟩:=tj (n:=args.length) ra (aA _) fF;have r:jY E args.length (cS args h n) { tmps:=c9.toArray++Array.replicate (args.length-c9.toArray.size) undef,defers:=[] } w:=⟨g,hd,x8,lW,rfl⟩;obtain⟨E2,r2,u,_,iY⟩:=wh (n0:=n) e hA r (aA _);have asO:c9.length=args.length:=eL ra;have ra2:dI E2 q8 c9:=by
  refine jD be fun i v hv=>?_;have hi:i<q8.length:=(aF.1 hv).1;have hg:(cS q8 h2 n).fr.get i=some v:=by
   show(lN q8 0 .nil).get i=some v;rw[u6 q8 0 .nil i be];rw[aG be];simpa using hv
  obtain⟨v',k1,k2⟩:=r2.fr i v hg;refine⟨v',?_,k2⟩;rw[bS (by simp;omega)]at k1;simpa using k1
 refine(c E2 w c9 ra2 r2.good r2.oe).mono fun en w' ⟨v,h',n',hR,E3,u3,fJ,hd3,Kk,ho⟩=>⟨v,h',n',hR,E3,?_,fun m hm=>(fJ m hm).trans (iY m),hd3,Kk,ho⟩;exact(u.trans (lB.of u3 fJ (aA _))).qp hd
theorem cU.frz{P:Program}{f:FuncId}{args q8:ag}{h h2:Tr O}{n:Nat}{ms:List Nat}{A:ah}{v:V}{h1:Tr O}{n1:Nat}
  (hl:(Nat.beq args.length q8.length&&Nat.blt args.length fL)=true) (e:XG ms (cS args h n)=some (A,cS q8 h2 n)) (hA:∀a∈A,a) (c:cU P f q8 h2 n v h1 n1):cU P f args h n v h1 n1:=
 fQ.is (c.one.frz hl e hA)
open Go.Proofs
section
variable(ss:List (aa))
def iO:List (aa):=ss.mergeSort fun x y=>decide (x<=y)
theorem su:(iO ss).length=ss.length:=List.length_mergeSort ..
end
def Rq(P:Program)(f:FuncId):Prop:=∀(BL off cP:Nat) (ss:List (aa)) (w:World),Sort.Holds encStr w BL off ss.toArray->BL<w.heap.size->ss.length<4611686018427387904->
 Calls P f #[.slice (some ⟨BL,off,none⟩) ss.length cP] w fun e w'=>e= .returned (.tuple #[])/\∃n os,w'=Sort.grow (Sort.putRow encStr (Sort.ahead w n) BL off (ss.mergeSort fun x y=>decide (x<=y)).toArray) os
theorem GM(w:World)(n b s:Nat)(zs:List (aa))(os:Array Obj){c:Array Value}{el:TypeId}{fz:Nat×Nat}(hb:w.heap[b]? =some (.cells c el fz))(k:Nat)(hk:k<w.heap.size):
  (Sort.grow (Sort.putRow encStr (Sort.ahead w n) b s zs.toArray) os).heap[k]? =if k=b then some (.cells (Sort.putCells encStr s zs.toArray c) el fz)else w.heap[k]?:=by
 have h1:(Sort.grow (Sort.putRow encStr (Sort.ahead w n) b s zs.toArray) os).heap[k]? =(Sort.putRow encStr (Sort.ahead w n) b s zs.toArray).heap[k]?:=by
  show((Sort.putRow encStr (Sort.ahead w n) b s zs.toArray).heap++os)[k]? =_;rw[bS];rw[Sort.size_putRow];exact hk
 rw[h1];show(w.heap.modify b (Sort.onCells _))[k]? =_;rw[cm];by_cases q:k=b
 . subst q;rw[aG rfl,aG rfl,hb];rfl
 . rw[aI (fun z=>q z.symm),aI q]
theorem Fk{φ:Nat->Option (Array Value)}:∀{ss:List (aa)} {vs:List Value},iq φ (ss.map D.str) vs->vs=ss.map encStr
 | [],_,r=>r
 |s::ss,_,⟨y,ys,_,r,rs,e⟩=>by subst e;rw[Fk rs];exact aM (. ::_) r
theorem Fl{φ:Nat->Option (Array Value)}:∀(ss:List (aa)),iq φ (ss.map D.str) (ss.map encStr)
 | []=>rfl
 |_::ss=>⟨_,_,rfl,rfl,Fl ss,rfl⟩
theorem Df{P:Program}{f:FuncId}{m l cp:Nat}{h:Tr O}{n:Nat}{ss zs:List (aa)}{rest:ag}(hz:zs.length=ss.length)(hm:h.get m=some (.deep (ss.map D.str)))(yP:m<fL)(h0:0<l)(hl:l=ss.length)(PN:l<1000000)
  (hs:∀E w (b o cP:Nat) (IW:List Value),Good E h w->dI E rest IW->E.ι m=some (b,o)->Sort.Holds encStr w b o ss.toArray->b<w.heap.size->Calls P f (.slice (some ⟨b,o,none⟩) ss.length cP::IW).toArray w fun e w'=>e= .returned (.tuple #[])/\∃n os,w'=Sort.grow (Sort.putRow encStr (Sort.ahead w n) b o zs.toArray) os):
  cU P f (.dj (some (m,0)) l cp 1::rest) h n (.ew []) (h.set m (some (.deep (zs.map D.str)))) n:=by
 intro E w c9 ra g hd;obtain⟨y,ys,r0,rs,rfl⟩:=ra;obtain⟨b,s,o',gj,e1,q1,q2,q3,q4,rfl⟩:=r0;have ho:o'=s:=by have:=q1 be;omega
 subst ho;obtain⟨b',s',e2,c,el,fz,vs,k1,k2,k3,k4,k5⟩:=g.rel m _ hm;rw[e1]at e2;simp only[an,aB]at e2;obtain⟨rfl,rfl⟩:=e2;have hbb:b<w.heap.size:=g.mW m b o' e1;have hvs:=Fk k4;subst hvs;have l9:∀j,j<ss.length->c[o'+j]? =some (encStr (ss.toArray[j]!)):=by
  intro j hj;rw[k5 j (encStr ss[j]) (by rw[bt,ay hj];rfl)];rw[getElem!_pos ss.toArray j (by simpa using hj)];simp
 have hH:Sort.Holds encStr w b o' ss.toArray:=by
  intro j hj;have hj:j<ss.length:=by simpa using hj
  have hcj:=l9 j hj;refine⟨by unfold World.cell?;simp only[k1];exact hcj,?_⟩;unfold World.frozen?;simp only[k1];have alq:o'+j<c.size:=by
   rcases bP (o'+j) c.size with q|q
   . exact q
   . rw[Array.getElem?_eq_none q]at hcj;cases hcj
  have:=k3 (o'+j) alq;obtain⟨lo,hi⟩:=fz;simp only at this ⊢;cases hq:(decide (lo<=o'+j)&&decide (o'+j<hi))with
  |false=>rfl
  |true=>
   simp only[aC,bC]at hq;exact absurd hq this
 subst hl;refine(hs E w b o' gj ys g rs e1 hH hbb).mono fun en w' ⟨he,nn,os,hw⟩=>?_;have Mx:∀k,k<w.heap.size->w'.heap[k]? =if k=b then some (.cells (Sort.putCells encStr o' zs.toArray c) el fz)else w.heap[k]?:=by
  intro k hk;rw[hw];exact GM w nn b o' zs os k1 k hk
 have lW:w.heap.size<=w'.heap.size:=by
  rw[hw];show w.heap.size<=((Sort.putRow encStr (Sort.ahead w nn) b o' zs.toArray).heap++os).size;rw[Array.size_append,Sort.size_putRow];exact Nat.le_add_right _ _
 have ue:eC h m:=⟨_,hm,rfl⟩;have kJ:∀j,(h.set m (some (O.deep (zs.map D.str)))).get j=if j=m then some (O.deep (zs.map D.str))else h.get j:=fun j=>Tr.eP _ _ _ yP
 have iu:∀j,((h.set m (some (O.deep (zs.map D.str)))).get j≠none↔h.get j≠none)/\(eC (h.set m (some (O.deep (zs.map D.str)))) j->eC h j):=by
  intro j;rw[kJ];by_cases q:j=m
  . subst q;rw[aG rfl,hm];exact⟨by simp,fun _=>ue⟩
  . rw[aI q];exact⟨Iff.rfl,fun z=>oC yP z q⟩
 have g':Good E (h.set m (some (O.deep (zs.map D.str)))) w':=by
  refine⟨fun j o hj=>?_,fun j j' x t t' fN hj Qy e1 e2=>g.inj j j' x t t' fN ((iu j).2 hj) ((iu j').1.1 Qy) e1 e2,fun j x t e=>bE (g.mW j x t e) lW,g.jj,fun x cc hx=>?_⟩
  . rw[kJ]at hj;split at hj
    . rename_i q;subst q;obtain rfl:=eo hj;refine⟨b,o',e1,Sort.putCells encStr o' zs.toArray c,el,fz,zs.map encStr,by rw[Mx b hbb,aG rfl],by simp[Sort.putCells,k2],by simpa[Sort.putCells]using k3,Fl _,fun i x hi=>?_⟩;have PX:i<zs.length:=by
       rcases bP i zs.length with q|q
       . exact q
       . rw[bR (by simpa using q)]at hi;cases hi
      have hc:=l9 i (by rw[<- hz];exact PX);simp only[Sort.putCells,Array.getElem?_mapIdx,hc,bh];rw[aG ⟨be,by simp;exact PX⟩,show o'+i-o'=i by omega,getElem!_pos zs.toArray i (by simpa using PX)];rw[bt,ay PX]at hi;simp only[bh,an]at hi;simp[<- hi]
    . rename_i q;obtain⟨x,t,h1,h2⟩:=g.rel j o hj;refine⟨x,t,h1,ij (Env.le_refl E) rfl ?_ h2⟩;have hx:=g.mW j x t h1;rw[Mx x hx,aI];rintro rfl;exact g.inj m j x o' t (fun z=>q z.symm) ue (by rw[hj];simp) e1 h1
  . obtain⟨⟨Xk,fz',T6⟩,Qd⟩:=g.gP x cc hx;have hxb:x≠b:=by rintro rfl;exact Qd m o' ue e1
    have Ck:x<w.heap.size:=(aQ.1 T6).1;exact⟨⟨Xk,fz',by rw[Mx x Ck,aI hxb];exact T6⟩,fun j t hj=>Qd j t ((iu j).2 hj)⟩
 refine⟨E,⟨Env.le_refl E,g',lW,by rw[hw];rfl,by rw[hw];rfl,by rw[hw];rfl,fun x hx tV=>?_,fun j x t hj e hx=>⟨j,t,(iu j).1.1 hj,e,(iu j).2⟩,fun x c h=>.inl h⟩,fun _ _=>rfl,hd,aA _,?_⟩
 . rw[Mx x hx,aI];rintro rfl;exact tV m o' ue e1
 . rw[he];exact⟨[],rfl,rfl⟩
theorem IX{P:Program}{f:FuncId}(hs:Rq P f){m l cp:Nat}{h:Tr O}{n:Nat}{ss:List (aa)}(hm:h.get m=some (.deep (ss.map D.str)))(yP:m<fL)(h0:0<l)(hl:l=ss.length)(PN:l<1000000):
  cU P f [.dj (some (m,0)) l cp 1] h n (.ew []) (h.set m (some (.deep ((iO ss).map D.str)))) n:=
 Df (su ss) hm yP h0 hl PN fun E w b o cP IW _ rs _ hH hb=>by
  have rs:IW=[]:=rs;subst rs;exact hs b o cP ss w hH hb be
end Go.Eng
