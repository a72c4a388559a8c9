/- Lemmas of the engine. No conditions. -/
import Derived.Test.YtfihojpgobmmdaaGreatDoorJointW04
import Derived.ProofKit
import Derived.OpenShut
set_option linter.unusedVariables false
set_option linter.unusedSimpArgs false
set_option linter.unusedSectionVars false
namespace Go.Eng
open Go Go.ChangeShapes Go.WideShapes
inductive Ty where
 |bool
 |int (k:IntKind)
 |str
 |dx (e:Ty)
 |agg (fs:List Ty)
 deriving Inhabited
mutual
def Ty.ok:Ty->ai->Prop
 | .bool,ds=>∃b,ds=[.bool b]
 | .int k,ds=>∃n,ds=[.int k n]/\(Lit.int k n).wf=true
 | .str,ds=>∃s,ds=[.str s]/\s.length<=maxLen
 | .dx e,ds=>∃rows:List (ai),ds=[.dV rows.length rows.flatten]/\rows.length<=maxLen/\∀r∈rows,Ty.ok e r
 | .agg fs,ds=>Ty.oks fs ds
def Ty.oks:List Ty->ai->Prop
 | [],ds=>ds=[]
 |f::fs,ds=>∃a b,ds=a++b/\Ty.ok f a/\Ty.oks fs b
end
def wu(P:Program)(ty:TypeId->Option Ty):Nat->List Field->Option (List Ty×Nat)
 |off,[]=>some ([],off)
 |off,f::fs=>if f.offset=off then(match ty f.type,wu P ty (off+P.cellsOf f.type) fs with
  |some a,some (l,n)=>some (a::l,n)
  |_,_=>none)else none
def Kl(P:Program):Nat->TypeId->Option Ty
 |0,_=>none
 |d+1,t=>match P.underlying t with
  |some .bool=>some .bool
  |some (.int k)=>some (.int k)
  |some .string=>some .str
  |some (.slice e)=>match Kl P d e,Nat.blt 0 (P.cellsOf e)with
   |some x,true=>some (.dx x)
   |_,_=>none
  |some (.array n e)=>match Kl P d e,Nat.beq (n*P.cellsOf e) (P.cellsOf t)with
   |some x,true=>some (.agg (List.replicate n x))
   |_,_=>none
  |some (.struct fs)=>match wu P (Kl P d) 0 fs.toList with
   |some (l,n)=>if n=P.cellsOf t then some (.agg l)else none
   |none=>none
  |_=>none
def xm(w:World)(b:Nat):Option (Array Value):=match w.heap[b]? with
 |some (.cells c _ _)=>some c
 |_=>none
theorem YC(w:World):aaw (xm w) w:=by
 intro b c q;unfold xm at q;split at q
 . rename_i c' el fz h;cases q;exact⟨el,fz,h⟩
 . cases q
theorem BM{w:World}{a:Addr}{n:Nat}{Q:List Value}(h:w.cells? 0 a n=some Q):Q.length=n/\∀i,i<n->w.cell? (a.add i)=Q[i]?:=by
 unfold World.cells? at h;rw[aF (aX _)]at h;have hl:Q.length=n:=by simpa using mapM_some_length h
 exact⟨hl,fun i hi=>mapM_some_get h i i (by simp[hi])⟩
theorem Er{w:World}{b o:Nat}{v:Value}(h:w.cell? ⟨b,o,none⟩=some v):∃c,xm w b=some c/\c[o]? =some v:=by
 unfold World.cell? at h;unfold xm;simp only at h;split at h
 . rename_i c el fz hb;simp only[Option.isSome_none,aP,cJ]at h;exact⟨c,by rw[hb],h⟩
 . cases h
section
variable{Tr:Type}{enc:TypeId×Value->Tr}{P:Program}{w:World}{BN:Nat->Bool}{Km:Bool}
theorem Oq{e:Ty}{b o k n:Nat}(f:List Value->Prop)
  (hf:∀Q,f Q->∃ds,e.ok ds/\iH (xm w) ds Q) (M:∀i,i<n->∃Q,w.cells? 0 ⟨b,o+i*k,none⟩ k=some Q/\f Q) (c:Array Value) (J:0<n->xm w b=some c):
  ∀m,m<=n->∃(rows:List (ai)) (vs:List Value),rows.length=m/\(∀r∈rows,e.ok r)/\iH (xm w) rows.flatten vs/\vs.length=m*k/\∀(j:Nat) (v:Value),vs[j]? =some v->c[o+j]? =some v
 |0,_=>⟨[],[],rfl,by simp,rfl,by simp,by simp⟩
 |m+1,W=>by
  obtain⟨rows,vs,X,h2,h3,h4,h5⟩:=Oq f hf M c J m L;obtain⟨Q,k1,k2⟩:=M m L;obtain⟨ds,g1,g2⟩:=hf Q k2;obtain⟨hl,mJ⟩:=BM k1;refine⟨rows++[ds],vs++Q,by simp[X],fun r hr=>?_,?_,?_,fun j v hj=>?_⟩
  . rcases aW.1 hr with hr|hr
    . exact h2 r hr
    . rw[au]at hr;subst hr;exact g1
  . rw[ct];exact qm h3 (by simpa using g2)
  . rw[ay,h4,hl,Nat.succ_mul]
  . by_cases q:j<vs.length
    . rw[bB q]at hj;exact h5 j v hj
    . rw[cq L]at hj;have fH:=(aH.1 hj).1;have:=mJ (j-vs.length) L;rw[hj,Go.WideShapes.add_plain]at this;obtain⟨c',e1,e2⟩:=Er this;rw[J L]at e1;cases e1;rw[<- e2];congr 1;rw[h4];have:m*k<=j:=by omega
      omega
theorem Ai:∀(d:Nat) {t:TypeId} {cS:Ty} {fuel:Nat} {Q:List Value} {x:DataW Tr×List MemPlace},Kl P d t=some cS->DataW.trod enc P w 0 BN Km fuel t Q=some x->∃ds,cS.ok ds/\iH (xm w) ds Q
 |0,t,cS,fuel,Q,x,h,_=>by simp[Kl]at h
 |d+1,t,cS,fuel,Q,x,h,M=>by
  unfold Kl at h;split at h
  . rename_i ht;cases h;obtain⟨b,rfl,_⟩:=DataW.trod_bool ht M;exact⟨[.bool b],⟨b,rfl⟩,_,_,rfl,rfl,rfl,rfl⟩
  . rename_i k ht;cases h;obtain⟨n,rfl,_,hw⟩:=DataW.trod_int ht M;exact⟨[.int k n],⟨n,rfl,hw⟩,_,_,rfl,rfl,rfl,rfl⟩
  . rename_i ht;cases h;obtain⟨s,rfl,_,hs⟩:=DataW.trod_string ht M;refine⟨[.str s.data.toList],⟨_,rfl,?_⟩,_,_,rfl,?_,rfl,rfl⟩
    . exact hs
    . show Value.string s=Value.string ⟨s.data.toList.toArray⟩;simp
  . rename_i e ht;split at h
    case h_2=>cases h
    rename_i h1 hX hk;cases h;have hk:0<P.cellsOf e:=ax hk;rcases DataW.trod_slice ht M with⟨rfl,_⟩|⟨a,T,A,at3,rest,n,rfl,rfl,_,_,ja,oc,hel,hi,_,_⟩
    . exact⟨[.dV 0 []],⟨[],rfl,by simp,by simp⟩,_,_,rfl,⟨none,0,[],rfl,aC _,rfl,fun _=>rfl,fun h=>absurd h (cB _)⟩,rfl,rfl⟩
    . rcases Nat.eq_zero_or_pos T with h0|mT
      . subst h0;exact⟨[.dV 0 []],⟨[],rfl,by simp,by simp⟩,_,_,rfl,⟨some a,A,[],rfl,aX _,rfl,fun _=>rfl,fun h=>absurd h (cB _)⟩,rfl,rfl⟩
      . have Lf:∀i,i<T->∃ci,w.cells? 0 (a.add (i*P.cellsOf e)) (P.cellsOf e)=some ci/\∃y,DataW.trod enc P w 0 BN Km n e ci=some y:=by
         intro i fH;have:=hi i fH;rw[az L]at this;obtain⟨ci,e1,e2⟩:=Option.bind_eq_some_iff.1 this;exact⟨ci,e1,_,e2⟩
        obtain⟨c0,k1,_⟩:=Lf 0 mT;obtain⟨vt,qn⟩:=BM k1;have h00:=qn 0 hk;obtain⟨b,o,Qi⟩:=a;have hz:(⟨b,o,Qi⟩:Addr).add (0*P.cellsOf e)=⟨b,o,Qi⟩:=by rw[Nat.zero_mul];rfl
        rw[hz]at h00;have ajt:(⟨b,o,Qi⟩:Addr).add 0=⟨b,o,Qi⟩:=rfl;rw[ajt,az L]at h00;have aju:Qi=none:=by
         unfold World.cell? at h00;simp only at h00;split at h00
         . split at h00
           . cases h00
           . rename_i q;cases Qi with
             |none=>rfl
             |some _=>exact absurd rfl q
         . cases h00
        subst aju;obtain⟨c,J,_⟩:=Er h00;obtain⟨rows,vs,X,h2,h3,h4,h5⟩:=Oq (e:=h1) (b:=b) (o:=o) (k:=P.cellsOf e) (n:=T) (fun ci=>∃y,DataW.trod enc P w 0 BN Km n e ci=some y)
         (fun ci ⟨y,hy⟩=>Ai d hX hy) (fun i fH=>by
          obtain⟨ci,e1,e2⟩:=Lf i fH;rw[Go.WideShapes.add_plain]at e1;exact⟨ci,e1,e2⟩) c (fun _=>J) T (aC _)
        refine⟨[.dV rows.length rows.flatten],⟨rows,rfl,L,h2⟩,_,_,rfl,?_,rfl,rfl⟩;rw[X];exact⟨_,A,vs,rfl,ja,h3,fun h=>by omega,fun _=>⟨b,o,c,rfl,J,h5⟩⟩
  . rename_i n e ht;split at h
    case h_2=>cases h
    rename_i h1 hX hk;cases h;have hk:n*P.cellsOf e=P.cellsOf t:=aG hk;obtain⟨xs,m,rfl,_,qR,U2,hi⟩:=DataW.trod_array ht M;have key:∀(q:Nat),q<=n->∃ds,Ty.oks (List.replicate q h1) ds/\iH (xm w) ds (Q.drop ((n-q)*P.cellsOf e)):=by
     intro q
     induction q with
     |zero=>intro _;exact⟨[],rfl,by rw[Nat.sub_zero,hk,<- qR,List.drop_length];rfl⟩
     |succ q ih=>
      intro hq;obtain⟨ds,g1,g2⟩:=ih L;have X:=hi (n-(q+1)) L;rw[az L]at X;obtain⟨da,f1,f2⟩:=Ai d hX X;refine⟨da++ds,⟨da,ds,rfl,f1,g1⟩,?_⟩;have e1:Q.drop ((n-(q+1))*P.cellsOf e)=(Q.drop ((n-(q+1))*P.cellsOf e)).take (P.cellsOf e)++Q.drop ((n-q)*P.cellsOf e):=by
       have e2:(n-q)*P.cellsOf e=P.cellsOf e+(n-(q+1))*P.cellsOf e:=by
        rw[show n-q=(n-(q+1))+1 by omega,Nat.succ_mul];omega
       rw[e2,Nat.add_comm (P.cellsOf e),<- List.drop_drop,cg]
      rw[e1];exact qm f2 g2
    obtain⟨ds,g1,g2⟩:=key n (aC _);refine⟨ds,g1,?_⟩;simpa using g2
  . rename_i fs ht;split at h
    case h_2=>cases h
    rename_i l n hF;split at h
    case isFalse=>cases h
    rename_i hn;cases h;obtain⟨xs,m,rfl,_,qR,U2,hi⟩:=DataW.trod_struct ht M;have key:∀(F:List Field) (off:Nat) (l:List Ty),wu P (Kl P d) off F=some (l,n)->(∀f∈F,∃y,DataW.trod enc P w 0 BN Km m f.type ((Q.drop f.offset).take (P.cellsOf f.type))=some y)->∃ds,Ty.oks l ds/\iH (xm w) ds (Q.drop off):=by
     intro F
     induction F with
     |nil=>
      intro off l h _;simp only[wu,an,aB]at h;obtain⟨rfl,rfl⟩:=h;exact⟨[],rfl,by rw[hn,<- qR,List.drop_length];rfl⟩
     |cons f F ih=>
      intro off l h hy;simp only[wu]at h;split at h
      case isFalse=>cases h
      rename_i asi;split at h
      case h_2=>cases h
      rename_i a l2 n2 ha Ex;simp only[an,aB]at h;obtain⟨rfl,rfl⟩:=h;obtain⟨ds,g1,g2⟩:=ih _ _ Ex fun f' hf'=>hy f' (by simp[hf']);obtain⟨y,hy1⟩:=hy f (by simp);obtain⟨da,f1,f2⟩:=Ai d ha hy1;refine⟨da++ds,⟨da,ds,rfl,f1,g1⟩,?_⟩;rw[asi]at f2;have e1:Q.drop off=(Q.drop off).take (P.cellsOf f.type)++Q.drop (off+P.cellsOf f.type):=by
       rw[<- List.drop_drop,cg]
      rw[e1];exact qm f2 g2
    obtain⟨ds,g1,g2⟩:=key fs.toList 0 l hF fun f hf=>by
     obtain⟨i,hi1,xW⟩:=List.getElem_of_mem hf;have hi3:fs[i]? =some f:=by rw[<- xW];simp at hi1;simp[hi1]
     have:=hi i f hi3;rw[az (by have:=(aS.1 hi3).1;omega)]at this;exact⟨_,this⟩
    exact⟨ds,g1,by simpa using g2⟩
  . cases h
end
end Go.Eng
