/- Lemmas of the engine. No conditions. -/
import Derived.Test.YtfihojpgobmmdaaGreatDoorJointW08
import Derived.Sort.Row
import Derived.Sort.Grow
import Derived.Sort.EncStr
set_option linter.unusedVariables false
set_option linter.unusedSimpArgs false
set_option linter.unusedSectionVars false
namespace Go.Eng
open Go Go.RowKit Go.Proofs
section
variable(ss:List (B))
def jm:List (B):=ss.mergeSort fun x y=>decide (x<=y)
theorem tj:(jm ss).length=ss.length:=List.length_mergeSort ..
end
def SF(P:Program)(f:FuncId):Prop:=∀(Cl off A:Nat) (ss:List (B)) (w:World),Sort.Holds encStr w Cl off ss.toArray->Cl<w.heap.size->ss.length<4611686018427387904->
 Calls P f #[.slice (some ⟨Cl,off,none⟩) ss.length A] w fun e w'=>e= .returned (.tuple #[])/\∃n os,w'=Sort.grow (Sort.putRow encStr (Sort.ahead w n) Cl off (ss.mergeSort fun x y=>decide (x<=y)).toArray) os
theorem Hz(w:World)(n b s:Nat)(zs:List (B))(os:Array Obj){c:Array Value}{el:TypeId}{fz:Nat×Nat}(hb:w.heap[b]? =some (.cells c el fz))(k:Nat)(hk:k<w.heap.size):
  (Sort.grow (Sort.putRow encStr (Sort.ahead w n) b s zs.toArray) os).heap[k]? =if k=b then some (.cells (Sort.putCells encStr s zs.toArray c) el fz)else w.heap[k]?:=by
 have X:(Sort.grow (Sort.putRow encStr (Sort.ahead w n) b s zs.toArray) os).heap[k]? =(Sort.putRow encStr (Sort.ahead w n) b s zs.toArray).heap[k]?:=by
  show((Sort.putRow encStr (Sort.ahead w n) b s zs.toArray).heap++os)[k]? =_;rw[bT];rw[Sort.size_putRow];exact hk
 rw[X];show(w.heap.modify b (Sort.onCells _))[k]? =_;rw[cr];by_cases q:k=b
 . subst q;rw[aF rfl,aF rfl,hb];rfl
 . rw[aJ (fun z=>q z.symm),aJ q]
theorem F1{φ:Nat->Option (Array Value)}:∀{ss:List (B)} {vs:List Value},iH φ (ss.map lf.str) vs->vs=ss.map encStr
 | [],_,r=>r
 |s::ss,_,⟨y,ys,_,r,O,e⟩=>by subst e;rw[F1 O];exact aL (. ::_) r
theorem F2{φ:Nat->Option (Array Value)}:∀(ss:List (B)),iH φ (ss.map lf.str) (ss.map encStr)
 | []=>rfl
 |_::ss=>⟨_,_,rfl,rfl,F2 ss,rfl⟩
theorem DQ{P:Program}{f:FuncId}{m l cp:Nat}{h:H rs}{n:Nat}{ss zs:List (B)}{rest:ag}(hz:zs.length=ss.length)(W:h.get m=some (.deep (ss.map lf.str)))(zw:m<fW)(h0:0<l)(hl:l=ss.length)(Q5:l<1000000)
  (hs:∀E w (b o A:Nat) (JA:List Value),Good E h w->dK E rest JA->E.ι m=some (b,o)->Sort.Holds encStr w b o ss.toArray->b<w.heap.size->Calls P f (.slice (some ⟨b,o,none⟩) ss.length A::JA).toArray w fun e w'=>e= .returned (.tuple #[])/\∃n os,w'=Sort.grow (Sort.putRow encStr (Sort.ahead w n) b o zs.toArray) os):
  c5 P f (.dx (some (m,0)) l cp 1::rest) h n (.ew []) (h.set m (some (.deep (zs.map lf.str)))) n:=by
 intro E w dm ra g hd;obtain⟨y,ys,r0,O,rfl⟩:=ra;obtain⟨b,s,o',gq,e1,q1,q2,q3,q4,rfl⟩:=r0;have ho:o'=s:=by have:=q1 L;omega
 subst ho;obtain⟨b',s',e2,c,el,fz,vs,k1,k2,k3,k4,k5⟩:=g.rel m _ W;rw[e1]at e2;simp only[an,aB]at e2;obtain⟨rfl,rfl⟩:=e2;have hbb:b<w.heap.size:=g.ny m b o' e1;have hvs:=F1 k4;subst hvs;have mJ:∀j,j<ss.length->c[o'+j]? =some (encStr (ss.toArray[j]!)):=by
  intro j hj;rw[k5 j (encStr ss[j]) (by rw[bu,az hj];rfl)];rw[getElem!_pos ss.toArray j (by simpa using hj)];simp
 have hH:Sort.Holds encStr w b o' ss.toArray:=by
  intro j hj;have hj:j<ss.length:=by simpa using hj
  have hcj:=mJ j hj;refine⟨by unfold World.cell?;simp only[k1];exact hcj,?_⟩;unfold World.frozen?;simp only[k1];have ane:o'+j<c.size:=by
   rcases bO (o'+j) c.size with q|q
   . exact q
   . rw[Array.getElem?_eq_none q]at hcj;cases hcj
  have:=k3 (o'+j) ane;obtain⟨lo,hi⟩:=fz;simp only at this ⊢;cases hq:(decide (lo<=o'+j)&&decide (o'+j<hi))with
  |false=>rfl
  |true=>
   simp only[aE,bD]at hq;exact absurd hq this
 subst hl;refine(hs E w b o' gq ys g O e1 hH hbb).mono fun en w' ⟨he,nn,os,hw⟩=>?_;have NA:∀k,k<w.heap.size->w'.heap[k]? =if k=b then some (.cells (Sort.putCells encStr o' zs.toArray c) el fz)else w.heap[k]?:=by
  intro k hk;rw[hw];exact Hz w nn b o' zs os k1 k hk
 have mA:w.heap.size<=w'.heap.size:=by
  rw[hw];show w.heap.size<=((Sort.putRow encStr (Sort.ahead w nn) b o' zs.toArray).heap++os).size;rw[Array.size_append,Sort.size_putRow];exact Nat.le_add_right _ _
 have uL:eG h m:=⟨_,W,rfl⟩;have kY:∀j,(h.set m (some (rs.deep (zs.map lf.str)))).get j=if j=m then some (rs.deep (zs.map lf.str))else h.get j:=fun j=>H.eY _ _ _ zw
 have iJ:∀j,((h.set m (some (rs.deep (zs.map lf.str)))).get j≠none↔h.get j≠none)/\(eG (h.set m (some (rs.deep (zs.map lf.str)))) j->eG h j):=by
  intro j;rw[kY];by_cases q:j=m
  . subst q;rw[aF rfl,W];exact⟨by simp,fun _=>uL⟩
  . rw[aJ q];exact⟨Iff.rfl,fun z=>o9 zw z q⟩
 have g':Good E (h.set m (some (rs.deep (zs.map lf.str)))) w':=by
  refine⟨fun j o hj=>?_,fun j j' x t t' fS hj RM e1 e2=>g.inj j j' x t t' fS ((iJ j).2 hj) ((iJ j').1.1 RM) e1 e2,fun j x t e=>bC (g.ny j x t e) mA,g.jy,fun x cc M=>?_⟩
  . rw[kY]at hj;split at hj
    . rename_i q;subst q;obtain rfl:=eE hj;refine⟨b,o',e1,Sort.putCells encStr o' zs.toArray c,el,fz,zs.map encStr,by rw[NA b hbb,aF rfl],by simp[Sort.putCells,k2],by simpa[Sort.putCells]using k3,F2 _,fun i x hi=>?_⟩;have M4:i<zs.length:=by
       rcases bO i zs.length with q|q
       . exact q
       . rw[bS (by simpa using q)]at hi;cases hi
      have J:=mJ i (by rw[<- hz];exact M4);simp only[Sort.putCells,Array.getElem?_mapIdx,J,bj];rw[aF ⟨L,by simp;exact M4⟩,show o'+i-o'=i by omega,getElem!_pos zs.toArray i (by simpa using M4)];rw[bu,az M4]at hi;simp only[bj,an]at hi;simp[<- hi]
    . rename_i q;obtain⟨x,t,X,h2⟩:=g.rel j o hj;refine⟨x,t,X,iF (Env.le_refl E) rfl ?_ h2⟩;have M:=g.ny j x t X;rw[NA x M,aJ];rintro rfl;exact g.inj m j x o' t (fun z=>q z.symm) uL (by rw[hj];simp) e1 X
  . obtain⟨⟨YL,fz',Vx⟩,Rp⟩:=g.gX x cc M;have hxb:x≠b:=by rintro rfl;exact Rp m o' uL e1
    have CR:x<w.heap.size:=(aS.1 Vx).1;exact⟨⟨YL,fz',by rw[NA x CR,aJ hxb];exact Vx⟩,fun j t hj=>Rp j t ((iJ j).2 hj)⟩
 refine⟨E,⟨Env.le_refl E,g',mA,by rw[hw];rfl,by rw[hw];rfl,by rw[hw];rfl,fun x M rV=>?_,fun j x t hj e M=>⟨j,t,(iJ j).1.1 hj,e,(iJ j).2⟩,fun x c h=>.inl h⟩,fun _ _=>rfl,hd,aC _,?_⟩
 . rw[NA x M,aJ];rintro rfl;exact rV m o' uL e1
 . rw[he];exact⟨[],rfl,rfl⟩
theorem JB{P:Program}{f:FuncId}(hs:SF P f){m l cp:Nat}{h:H rs}{n:Nat}{ss:List (B)}(W:h.get m=some (.deep (ss.map lf.str)))(zw:m<fW)(h0:0<l)(hl:l=ss.length)(Q5:l<1000000):
  c5 P f [.dx (some (m,0)) l cp 1] h n (.ew []) (h.set m (some (.deep ((jm ss).map lf.str)))) n:=
 DQ (tj ss) W zw h0 hl Q5 fun E w b o A JA _ O _ hH hb=>by
  have O:JA=[]:=O;subst O;exact hs b o A ss w hH hb L
end Go.Eng
