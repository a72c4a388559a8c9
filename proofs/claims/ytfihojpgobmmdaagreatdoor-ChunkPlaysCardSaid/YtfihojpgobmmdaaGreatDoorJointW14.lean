/- The engine, part MI: a call whose arguments may be frozen ahead of it. No conditions: lemmas alone. -/
import Derived.Test.YtfihojpgobmmdaaGreatDoorJointW12
import Derived.Sort.Row
import Derived.Sort.Grow
import Derived.Sort.EncStr
set_option linter.unusedVariables false
set_option linter.unusedSimpArgs false
set_option linter.unusedSectionVars false
namespace Go.Eng
open Go Go.RowKit
theorem fO.ZV{P:Program}{f:FuncId}{args qW:ag}{h h2:Tr O}{n:Nat}{ms:List Nat}{A:ah}{R:V->Tr O->Nat->Prop}
  (hl:(Nat.beq args.length qW.length&&Nat.blt args.length fI)=true) (e:WZ ms (cR args h n)=some (A,cR qW h2 n)) (hA:∀a∈A,a) (c:fO P f qW h2 n R):fO P f args h n R:=by
 intro E w c7 ra g hd;simp only[aC]at hl;have iQ:args.length=qW.length:=aD hl.1;have fE:args.length<fI:=au hl.2;obtain⟨xV,lP⟩:=td (n:=args.length) ra (aA _) fE;have r:jS E args.length (cR args h n) { tmps:=c7.toArray++Array.replicate (args.length-c7.toArray.size) undef,defers:=[] } w:=⟨g,hd,xV,lP,rfl⟩;obtain⟨E2,r2,u,_,iV⟩:=vW (n0:=n) e hA r (aA _);have arC:c7.length=args.length:=eK ra;have ra2:dG E2 qW c7:=by
  refine jt be fun i v hv=>?_;have hi:i<qW.length:=(aF.1 hv).1;have hg:(cR qW h2 n).fr.get i=some v:=by
   show(lH qW 0 .nil).get i=some v;rw[uT qW 0 .nil i be];rw[aG be];simpa using hv
  obtain⟨v',k1,k2⟩:=r2.fr i v hg;refine⟨v',?_,k2⟩;rw[bQ (by simp;omega)]at k1;simpa using k1
 refine(c E2 w c7 ra2 r2.good r2.nW).mono fun en w' ⟨v,h',n',hR,E3,u3,fF,hd3,J0,ho⟩=>⟨v,h',n',hR,E3,?_,fun m hm=>(fF m hm).trans (iV m),hd3,J0,ho⟩;exact(u.trans (lp.of u3 fF (aA _))).qi hd
theorem cT.ZV{P:Program}{f:FuncId}{args qW:ag}{h h2:Tr O}{n:Nat}{ms:List Nat}{A:ah}{v:V}{h1:Tr O}{n1:Nat}
  (hl:(Nat.beq args.length qW.length&&Nat.blt args.length fI)=true) (e:WZ ms (cR args h n)=some (A,cR qW h2 n)) (hA:∀a∈A,a) (c:cT P f qW h2 n v h1 n1):cT P f args h n v h1 n1:=
 fO.is (c.one.ZV hl e hA)
open Go.Proofs
section
variable(ss:List (aa))
def iL:List (aa):=ss.mergeSort fun x y=>decide (x<=y)
theorem sj:(iL ss).length=ss.length:=List.length_mergeSort ..
end
def Q0(P:Program)(f:FuncId):Prop:=∀(Bv off cO:Nat) (ss:List (aa)) (w:World),Sort.Holds encStr w Bv off ss.toArray->Bv<w.heap.size->ss.length<4611686018427387904->
 Calls P f #[.slice (some ⟨Bv,off,none⟩) ss.length cO] w fun e w'=>e= .returned (.tuple #[])/\∃n os,w'=Sort.grow (Sort.putRow encStr (Sort.ahead w n) Bv off (ss.mergeSort fun x y=>decide (x<=y)).toArray) os
theorem Gv(w:World)(n b s:Nat)(zs:List (aa))(os:Array Obj){c:Array Value}{el:TypeId}{fz:Nat×Nat}(hb:w.heap[b]? =some (.cells c el fz))(k:Nat)(hk:k<w.heap.size):
  (Sort.grow (Sort.putRow encStr (Sort.ahead w n) b s zs.toArray) os).heap[k]? =if k=b then some (.cells (Sort.putCells encStr s zs.toArray c) el fz)else w.heap[k]?:=by
 have h1:(Sort.grow (Sort.putRow encStr (Sort.ahead w n) b s zs.toArray) os).heap[k]? =(Sort.putRow encStr (Sort.ahead w n) b s zs.toArray).heap[k]?:=by
  show((Sort.putRow encStr (Sort.ahead w n) b s zs.toArray).heap++os)[k]? =_;rw[bQ];rw[Sort.size_putRow];exact hk
 rw[h1];show(w.heap.modify b (Sort.onCells _))[k]? =_;rw[cm];by_cases q:k=b
 . subst q;rw[aG rfl,aG rfl,hb];rfl
 . rw[aI (fun z=>q z.symm),aI q]
theorem EV{φ:Nat->Option (Array Value)}:∀{ss:List (aa)} {vs:List Value},ig φ (ss.map D.str) vs->vs=ss.map encStr
 | [],_,r=>r
 |s::ss,_,⟨y,ys,_,r,rs,e⟩=>by subst e;rw[EV rs];exact aN (. ::_) r
theorem EX{φ:Nat->Option (Array Value)}:∀(ss:List (aa)),ig φ (ss.map D.str) (ss.map encStr)
 | []=>rfl
 |_::ss=>⟨_,_,rfl,rfl,EX ss,rfl⟩
theorem CW{P:Program}{f:FuncId}{m l cp:Nat}{h:Tr O}{n:Nat}{ss zs:List (aa)}{rest:ag}(hz:zs.length=ss.length)(hm:h.get m=some (.deep (ss.map D.str)))(yG:m<fI)(h0:0<l)(hl:l=ss.length)(Pn:l<1000000)
  (hs:∀E w (b o cO:Nat) (ID:List Value),Good E h w->dG E rest ID->E.ι m=some (b,o)->Sort.Holds encStr w b o ss.toArray->b<w.heap.size->Calls P f (.slice (some ⟨b,o,none⟩) ss.length cO::ID).toArray w fun e w'=>e= .returned (.tuple #[])/\∃n os,w'=Sort.grow (Sort.putRow encStr (Sort.ahead w n) b o zs.toArray) os):
  cT P f (.di (some (m,0)) l cp 1::rest) h n (.eo []) (h.set m (some (.deep (zs.map D.str)))) n:=by
 intro E w c7 ra g hd;obtain⟨y,ys,r0,rs,rfl⟩:=ra;obtain⟨b,s,o',fZ,e1,q1,q2,q3,q4,rfl⟩:=r0;have ho:o'=s:=by have:=q1 be;omega
 subst ho;obtain⟨b',s',e2,c,el,fz,vs,k1,k2,k3,k4,k5⟩:=g.rel m _ hm;rw[e1]at e2;simp only[an,aB]at e2;obtain⟨rfl,rfl⟩:=e2;have hbb:b<w.heap.size:=g.mO m b o' e1;have hvs:=EV k4;subst hvs;have l5:∀j,j<ss.length->c[o'+j]? =some (encStr (ss.toArray[j]!)):=by
  intro j hj;rw[k5 j (encStr ss[j]) (by rw[br,ay hj];rfl)];rw[getElem!_pos ss.toArray j (by simpa using hj)];simp
 have hH:Sort.Holds encStr w b o' ss.toArray:=by
  intro j hj;have hj:j<ss.length:=by simpa using hj
  have hcj:=l5 j hj;refine⟨by unfold World.cell?;simp only[k1];exact hcj,?_⟩;unfold World.frozen?;simp only[k1];have akr:o'+j<c.size:=by
   rcases bN (o'+j) c.size with q|q
   . exact q
   . rw[Array.getElem?_eq_none q]at hcj;cases hcj
  have:=k3 (o'+j) akr;obtain⟨lo,hi⟩:=fz;simp only at this ⊢;cases hq:(decide (lo<=o'+j)&&decide (o'+j<hi))with
  |false=>rfl
  |true=>
   simp only[aC,bB]at hq;exact absurd hq this
 subst hl;refine(hs E w b o' fZ ys g rs e1 hH hbb).mono fun en w' ⟨he,nn,os,hw⟩=>?_;have Mc:∀k,k<w.heap.size->w'.heap[k]? =if k=b then some (.cells (Sort.putCells encStr o' zs.toArray c) el fz)else w.heap[k]?:=by
  intro k hk;rw[hw];exact Gv w nn b o' zs os k1 k hk
 have lP:w.heap.size<=w'.heap.size:=by
  rw[hw];show w.heap.size<=((Sort.putRow encStr (Sort.ahead w nn) b o' zs.toArray).heap++os).size;rw[Array.size_append,Sort.size_putRow];exact Nat.le_add_right _ _
 have tT:ew h m:=⟨_,hm,rfl⟩;have kD:∀j,(h.set m (some (O.deep (zs.map D.str)))).get j=if j=m then some (O.deep (zs.map D.str))else h.get j:=fun j=>Tr.eO _ _ _ yG
 have ik:∀j,((h.set m (some (O.deep (zs.map D.str)))).get j≠none↔h.get j≠none)/\(ew (h.set m (some (O.deep (zs.map D.str)))) j->ew h j):=by
  intro j;rw[kD];by_cases q:j=m
  . subst q;rw[aG rfl,hm];exact⟨by simp,fun _=>tT⟩
  . rw[aI q];exact⟨Iff.rfl,fun z=>ox yG z q⟩
 have g':Good E (h.set m (some (O.deep (zs.map D.str)))) w':=by
  refine⟨fun j o hj=>?_,fun j j' x t t' fL hj P9 e1 e2=>g.inj j j' x t t' fL ((ik j).2 hj) ((ik j').1.1 P9) e1 e2,fun j x t e=>bD (g.mO j x t e) lP,g.jf,fun x cc hx=>?_⟩
  . rw[kD]at hj;split at hj
    . rename_i q;subst q;obtain rfl:=ek hj;refine⟨b,o',e1,Sort.putCells encStr o' zs.toArray c,el,fz,zs.map encStr,by rw[Mc b hbb,aG rfl],by simp[Sort.putCells,k2],by simpa[Sort.putCells]using k3,EX _,fun i x hi=>?_⟩;have Pv:i<zs.length:=by
       rcases bN i zs.length with q|q
       . exact q
       . rw[bP (by simpa using q)]at hi;cases hi
      have hc:=l5 i (by rw[<- hz];exact Pv);simp only[Sort.putCells,Array.getElem?_mapIdx,hc,bh];rw[aG ⟨be,by simp;exact Pv⟩,show o'+i-o'=i by omega,getElem!_pos zs.toArray i (by simpa using Pv)];rw[br,ay Pv]at hi;simp only[bh,an]at hi;simp[<- hi]
    . rename_i q;obtain⟨x,t,h1,h2⟩:=g.rel j o hj;refine⟨x,t,h1,hU (Env.le_refl E) rfl ?_ h2⟩;have hx:=g.mO j x t h1;rw[Mc x hx,aI];rintro rfl;exact g.inj m j x o' t (fun z=>q z.symm) tT (by rw[hj];simp) e1 h1
  . obtain⟨⟨WA,fz',Tz⟩,PI⟩:=g.gI x cc hx;have hxb:x≠b:=by rintro rfl;exact PI m o' tT e1
    have B3:x<w.heap.size:=(aQ.1 Tz).1;exact⟨⟨WA,fz',by rw[Mc x B3,aI hxb];exact Tz⟩,fun j t hj=>PI j t ((ik j).2 hj)⟩
 refine⟨E,⟨Env.le_refl E,g',lP,by rw[hw];rfl,by rw[hw];rfl,by rw[hw];rfl,fun x hx tO=>?_,fun j x t hj e hx=>⟨j,t,(ik j).1.1 hj,e,(ik j).2⟩,fun x c h=>.inl h⟩,fun _ _=>rfl,hd,aA _,?_⟩
 . rw[Mc x hx,aI];rintro rfl;exact tO m o' tT e1
 . rw[he];exact⟨[],rfl,rfl⟩
theorem IE{P:Program}{f:FuncId}(hs:Q0 P f){m l cp:Nat}{h:Tr O}{n:Nat}{ss:List (aa)}(hm:h.get m=some (.deep (ss.map D.str)))(yG:m<fI)(h0:0<l)(hl:l=ss.length)(Pn:l<1000000):
  cT P f [.di (some (m,0)) l cp 1] h n (.eo []) (h.set m (some (.deep ((iL ss).map D.str)))) n:=
 CW (sj ss) hm yG h0 hl Pn fun E w b o cO ID _ rs _ hH hb=>by
  have rs:ID=[]:=rs;subst rs;exact hs b o cO ss w hH hb be
end Go.Eng
