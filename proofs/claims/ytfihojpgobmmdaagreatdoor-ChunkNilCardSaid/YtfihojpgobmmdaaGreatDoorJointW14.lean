/- Lemmas of the engine. No conditions. -/
import Derived.Test.YtfihojpgobmmdaaGreatDoorJointW10
import Derived.Sort.Row
import Derived.Sort.Grow
import Derived.Sort.EncStr
set_option linter.unusedVariables false
set_option linter.unusedSimpArgs false
set_option linter.unusedSectionVars false
namespace Go.Eng
open Go Go.RowKit
theorem gh.YT{P:Program}{f:FuncId}{args rO:ag}{h B:H lf}{n:Nat}{ms:List Nat}{cS:ah}{nx:V->H lf->Nat->Prop}
  (hl:(Nat.beq args.length rO.length&&Nat.blt args.length fP)=true) (e:Yy ms (cU args h n)=some (cS,cU rO B n)) (hA:∀a∈cS,a) (c:gh P f rO B n nx):gh P f args h n nx:=by
 intro E w de ra g hd;simp only[aC]at hl;have iQ:args.length=rO.length:=aD hl.1;have fI:args.length<fP:=au hl.2;obtain⟨yp,l8⟩:=tH (n:=args.length) ra (aA _) fI;have r:kf E args.length (cU args h n) { tmps:=de.toArray++Array.replicate (args.length-de.toArray.size) undef,defers:=[] } w:=⟨g,hd,yp,l8,rfl⟩;obtain⟨E2,r2,u,_,jj⟩:=wH (M:=n) e hA r (aA _);have auf:de.length=args.length:=eP ra;have QK:dL E2 rO de:=by
  refine jG K fun i v hv=>?_;have hi:i<rO.length:=(aG.1 hv).1;have hg:(cU rO B n).S.get i=some v:=by
   show(lU rO 0 .nil).get i=some v;rw[vr rO 0 .nil i K];rw[aH K];simpa using hv
  obtain⟨v',k1,k2⟩:=r2.S i v hg;refine⟨v',?_,k2⟩;rw[bS (by simp;omega)]at k1;simpa using k1
 refine(c E2 w de QK r2.good r2.oz).mono fun en w' ⟨v,h',n',hR,E3,u3,fQ,hd3,KE,ho⟩=>⟨v,h',n',hR,E3,?_,fun m W=>(fQ m W).trans (jj m),hd3,KE,ho⟩;exact(u.trans (lM.of u3 fQ (aA _))).qG hd
theorem cW.YT{P:Program}{f:FuncId}{args rO:ag}{h B:H lf}{n:Nat}{ms:List Nat}{cS:ah}{v:V}{N:H lf}{n1:Nat}
  (hl:(Nat.beq args.length rO.length&&Nat.blt args.length fP)=true) (e:Yy ms (cU args h n)=some (cS,cU rO B n)) (hA:∀a∈cS,a) (c:cW P f rO B n v N n1):cW P f args h n v N n1:=
 gh.is (c.one.YT hl e hA)
open Go.Proofs
section
variable(ss:List (L))
def iz:List (L):=ss.mergeSort fun x y=>decide (x<=y)
theorem sP:(iz ss).length=ss.length:=List.length_mergeSort ..
end
def RY(P:Program)(f:FuncId):Prop:=∀(B3 off A:Nat) (ss:List (L)) (w:World),Sort.Holds encStr w B3 off ss.toArray->B3<w.heap.size->ss.length<4611686018427387904->
 Calls P f #[.slice (some ⟨B3,off,none⟩) ss.length A] w fun e w'=>e= .returned (.tuple #[])/\∃n os,w'=Sort.grow (Sort.putRow encStr (Sort.ahead w n) B3 off (ss.mergeSort fun x y=>decide (x<=y)).toArray) os
theorem G2(w:World)(n b s:Nat)(zs:List (L))(os:Array Obj){c:Array Value}{el:TypeId}{fz:Nat×Nat}(hb:w.heap[b]? =some (.cells c el fz))(k:Nat)(hk:k<w.heap.size):
  (Sort.grow (Sort.putRow encStr (Sort.ahead w n) b s zs.toArray) os).heap[k]? =if k=b then some (.cells (Sort.putCells encStr s zs.toArray c) el fz)else w.heap[k]?:=by
 have N:(Sort.grow (Sort.putRow encStr (Sort.ahead w n) b s zs.toArray) os).heap[k]? =(Sort.putRow encStr (Sort.ahead w n) b s zs.toArray).heap[k]?:=by
  show((Sort.putRow encStr (Sort.ahead w n) b s zs.toArray).heap++os)[k]? =_;rw[bS];rw[Sort.size_putRow];exact hk
 rw[N];show(w.heap.modify b (Sort.onCells _))[k]? =_;rw[cq];by_cases q:k=b
 . subst q;rw[aH rfl,aH rfl,hb];rfl
 . rw[aI (fun z=>q z.symm),aI q]
theorem Fx{φ:Nat->Option (Array Value)}:∀{ss:List (L)} {vs:List Value},iw φ (ss.map rs.str) vs->vs=ss.map encStr
 | [],_,r=>r
 |s::ss,_,⟨y,ys,_,r,D,e⟩=>by subst e;rw[Fx D];exact aN (. ::_) r
theorem Fy{φ:Nat->Option (Array Value)}:∀(ss:List (L)),iw φ (ss.map rs.str) (ss.map encStr)
 | []=>rfl
 |_::ss=>⟨_,_,rfl,rfl,Fy ss,rfl⟩
theorem Dy{P:Program}{f:FuncId}{m l cp:Nat}{h:H lf}{n:Nat}{ss zs:List (L)}{rest:ag}(hz:zs.length=ss.length)(W:h.get m=some (.deep (ss.map rs.str)))(y8:m<fP)(h0:0<l)(hl:l=ss.length)(Qj:l<1000000)
  (hs:∀E w (b o A:Nat) (Je:List Value),Good E h w->dL E rest Je->E.ι m=some (b,o)->Sort.Holds encStr w b o ss.toArray->b<w.heap.size->Calls P f (.slice (some ⟨b,o,none⟩) ss.length A::Je).toArray w fun e w'=>e= .returned (.tuple #[])/\∃n os,w'=Sort.grow (Sort.putRow encStr (Sort.ahead w n) b o zs.toArray) os):
  cW P f (.dj (some (m,0)) l cp 1::rest) h n (.ew []) (h.set m (some (.deep (zs.map rs.str)))) n:=by
 intro E w de ra g hd;obtain⟨y,ys,r0,D,rfl⟩:=ra;obtain⟨b,s,o',gp,e1,q1,q2,q3,q4,rfl⟩:=r0;have ho:o'=s:=by have:=q1 K;omega
 subst ho;obtain⟨b',s',e2,c,el,fz,vs,k1,k2,k3,k4,k5⟩:=g.rel m _ W;rw[e1]at e2;simp only[an,aB]at e2;obtain⟨rfl,rfl⟩:=e2;have hbb:b<w.heap.size:=g.mK m b o' e1;have hvs:=Fx k4;subst hvs;have mC:∀j,j<ss.length->c[o'+j]? =some (encStr (ss.toArray[j]!)):=by
  intro j hj;rw[k5 j (encStr ss[j]) (by rw[bu,ay hj];rfl)];rw[getElem!_pos ss.toArray j (by simpa using hj)];simp
 have hH:Sort.Holds encStr w b o' ss.toArray:=by
  intro j hj;have hj:j<ss.length:=by simpa using hj
  have hcj:=mC j hj;refine⟨by unfold World.cell?;simp only[k1];exact hcj,?_⟩;unfold World.frozen?;simp only[k1];have amv:o'+j<c.size:=by
   rcases bK (o'+j) c.size with q|q
   . exact q
   . rw[Array.getElem?_eq_none q]at hcj;cases hcj
  have:=k3 (o'+j) amv;obtain⟨lo,hi⟩:=fz;simp only at this ⊢;cases hq:(decide (lo<=o'+j)&&decide (o'+j<hi))with
  |false=>rfl
  |true=>
   simp only[aC,bD]at hq;exact absurd hq this
 subst hl;refine(hs E w b o' gp ys g D e1 hH hbb).mono fun en w' ⟨he,nn,os,hw⟩=>?_;have MT:∀k,k<w.heap.size->w'.heap[k]? =if k=b then some (.cells (Sort.putCells encStr o' zs.toArray c) el fz)else w.heap[k]?:=by
  intro k hk;rw[hw];exact G2 w nn b o' zs os k1 k hk
 have l8:w.heap.size<=w'.heap.size:=by
  rw[hw];show w.heap.size<=((Sort.putRow encStr (Sort.ahead w nn) b o' zs.toArray).heap++os).size;rw[Array.size_append,Sort.size_putRow];exact Nat.le_add_right _ _
 have uz:eE h m:=⟨_,W,rfl⟩;have kL:∀j,(h.set m (some (lf.deep (zs.map rs.str)))).get j=if j=m then some (lf.deep (zs.map rs.str))else h.get j:=fun j=>H.eY _ _ _ y8
 have iH:∀j,((h.set m (some (lf.deep (zs.map rs.str)))).get j≠none↔h.get j≠none)/\(eE (h.set m (some (lf.deep (zs.map rs.str)))) j->eE h j):=by
  intro j;rw[kL];by_cases q:j=m
  . subst q;rw[aH rfl,W];exact⟨by simp,fun _=>uz⟩
  . rw[aI q];exact⟨Iff.rfl,fun z=>oS y8 z q⟩
 have g':Good E (h.set m (some (lf.deep (zs.map rs.str)))) w':=by
  refine⟨fun j o hj=>?_,fun j j' x t t' fU hj Q4 e1 e2=>g.inj j j' x t t' fU ((iH j).2 hj) ((iH j').1.1 Q4) e1 e2,fun j x t e=>bF (g.mK j x t e) l8,g.jh,fun x cc G=>?_⟩
  . rw[kL]at hj;split at hj
    . rename_i q;subst q;obtain rfl:=ek hj;refine⟨b,o',e1,Sort.putCells encStr o' zs.toArray c,el,fz,zs.map encStr,by rw[MT b hbb,aH rfl],by simp[Sort.putCells,k2],by simpa[Sort.putCells]using k3,Fy _,fun i x hi=>?_⟩;have Qr:i<zs.length:=by
       rcases bK i zs.length with q|q
       . exact q
       . rw[bN (by simpa using q)]at hi;cases hi
      have I:=mC i (by rw[<- hz];exact Qr);simp only[Sort.putCells,Array.getElem?_mapIdx,I,bj];rw[aH ⟨K,by simp;exact Qr⟩,show o'+i-o'=i by omega,getElem!_pos zs.toArray i (by simpa using Qr)];rw[bu,ay Qr]at hi;simp only[bj,an]at hi;simp[<- hi]
    . rename_i q;obtain⟨x,t,N,B⟩:=g.rel j o hj;refine⟨x,t,N,gU (Env.le_refl E) rfl ?_ B⟩;have G:=g.mK j x t N;rw[MT x G,aI];rintro rfl;exact g.inj m j x o' t (fun z=>q z.symm) uz (by rw[hj];simp) e1 N
  . obtain⟨⟨UI,fz',UK⟩,QD⟩:=g.gQ x cc G;have hxb:x≠b:=by rintro rfl;exact QD m o' uz e1
    have BD:x<w.heap.size:=(aQ.1 UK).1;exact⟨⟨UI,fz',by rw[MT x BD,aI hxb];exact UK⟩,fun j t hj=>QD j t ((iH j).2 hj)⟩
 refine⟨E,⟨Env.le_refl E,g',l8,by rw[hw];rfl,by rw[hw];rfl,by rw[hw];rfl,fun x G sB=>?_,fun j x t hj e G=>⟨j,t,(iH j).1.1 hj,e,(iH j).2⟩,fun x c h=>.inl h⟩,fun _ _=>rfl,hd,aA _,?_⟩
 . rw[MT x G,aI];rintro rfl;exact sB m o' uz e1
 . rw[he];exact⟨[],rfl,rfl⟩
theorem Jf{P:Program}{f:FuncId}(hs:RY P f){m l cp:Nat}{h:H lf}{n:Nat}{ss:List (L)}(W:h.get m=some (.deep (ss.map rs.str)))(y8:m<fP)(h0:0<l)(hl:l=ss.length)(Qj:l<1000000):
  cW P f [.dj (some (m,0)) l cp 1] h n (.ew []) (h.set m (some (.deep ((iz ss).map rs.str)))) n:=
 Dy (sP ss) W y8 h0 hl Qj fun E w b o A Je _ D _ hH hb=>by
  have D:Je=[]:=D;subst D;exact hs b o A ss w hH hb K
end Go.Eng
