/- Lemmas of the engine. No conditions. -/
import Derived.Test.YtfihojpgobmmdaaGreatDoorJointW04
import Derived.ProofKit
import Derived.OpenShut
set_option linter.unusedVariables false
set_option linter.unusedSimpArgs false
set_option linter.unusedSectionVars false
namespace Go.Eng
open Go Go.ChangeShapes Go.WideShapes
inductive Ty where
 |bool
 |int (k:IntKind)
 |str
 |dj (e:Ty)
 |agg (fs:List Ty)
 deriving Inhabited
mutual
def Ty.ok:Ty->ai->Prop
 | .bool,ds=>∃b,ds=[.bool b]
 | .int k,ds=>∃n,ds=[.int k n]/\(Lit.int k n).wf=true
 | .str,ds=>∃s,ds=[.str s]/\s.length<=maxLen
 | .dj e,ds=>∃rows:List (ai),ds=[.dS rows.length rows.flatten]/\rows.length<=maxLen/\∀r∈rows,Ty.ok e r
 | .agg fs,ds=>Ty.oks fs ds
def Ty.oks:List Ty->ai->Prop
 | [],ds=>ds=[]
 |f::fs,ds=>∃a b,ds=a++b/\Ty.ok f a/\Ty.oks fs b
end
def vW(P:Program)(ty:TypeId->Option Ty):Nat->List Field->Option (List Ty×Nat)
 |off,[]=>some ([],off)
 |off,f::fs=>if f.offset=off then(match ty f.type,vW P ty (off+P.cellsOf f.type) fs with
  |some a,some (l,n)=>some (a::l,n)
  |_,_=>none)else none
def JW(P:Program):Nat->TypeId->Option Ty
 |0,_=>none
 |d+1,t=>match P.underlying t with
  |some .bool=>some .bool
  |some (.int k)=>some (.int k)
  |some .string=>some .str
  |some (.slice e)=>match JW P d e,Nat.blt 0 (P.cellsOf e)with
   |some x,true=>some (.dj x)
   |_,_=>none
  |some (.array n e)=>match JW P d e,Nat.beq (n*P.cellsOf e) (P.cellsOf t)with
   |some x,true=>some (.agg (List.replicate n x))
   |_,_=>none
  |some (.struct fs)=>match vW P (JW P d) 0 fs.toList with
   |some (l,n)=>if n=P.cellsOf t then some (.agg l)else none
   |none=>none
  |_=>none
def AU(w:World)(b:Nat):Option (Array Value):=match w.heap[b]? with
 |some (.cells c _ _)=>some c
 |_=>none
theorem XD(w:World):QH (AU w) w:=by
 intro b c q;unfold AU at q;split at q
 . rename_i c' el fz h;cases q;exact⟨el,fz,h⟩
 . cases q
theorem Bz{w:World}{a:Addr}{n:Nat}{C:List Value}(h:w.cells? 0 a n=some C):C.length=n/\∀i,i<n->w.cell? (a.add i)=C[i]?:=by
 unfold World.cells? at h;rw[aH (aX _)]at h;have hl:C.length=n:=by simpa using mapM_some_length h
 exact⟨hl,fun i hi=>mapM_some_get h i i (by simp[hi])⟩
theorem D8{w:World}{b o:Nat}{v:Value}(h:w.cell? ⟨b,o,none⟩=some v):∃c,AU w b=some c/\c[o]? =some v:=by
 unfold World.cell? at h;unfold AU;simp only at h;split at h
 . rename_i c el fz hb;simp only[Option.isSome_none,aO,cI]at h;exact⟨c,by rw[hb],h⟩
 . cases h
section
variable{Tr:Type}{enc:TypeId×Value->Tr}{P:Program}{w:World}{FX:Nat->Bool}{Pr:Bool}
theorem NJ{e:Ty}{b o k n:Nat}(f:List Value->Prop)
  (hf:∀C,f C->∃ds,e.ok ds/\iw (AU w) ds C) (G:∀i,i<n->∃C,w.cells? 0 ⟨b,o+i*k,none⟩ k=some C/\f C) (c:Array Value) (I:0<n->AU w b=some c):
  ∀m,m<=n->∃(rows:List (ai)) (vs:List Value),rows.length=m/\(∀r∈rows,e.ok r)/\iw (AU w) rows.flatten vs/\vs.length=m*k/\∀(j:Nat) (v:Value),vs[j]? =some v->c[o+j]? =some v
 |0,_=>⟨[],[],rfl,by simp,rfl,by simp,by simp⟩
 |m+1,W=>by
  obtain⟨rows,vs,N,B,h3,h4,h5⟩:=NJ f hf G c I m K;obtain⟨C,k1,k2⟩:=G m K;obtain⟨ds,g1,g2⟩:=hf C k2;obtain⟨hl,mC⟩:=Bz k1;refine⟨rows++[ds],vs++C,by simp[N],fun r hr=>?_,?_,?_,fun j v hj=>?_⟩
  . rcases aW.1 hr with hr|hr
    . exact B r hr
    . rw[aq]at hr;subst hr;exact g1
  . rw[cz];exact qe h3 (by simpa using g2)
  . rw[ax,h4,hl,Nat.succ_mul]
  . by_cases q:j<vs.length
    . rw[bz q]at hj;exact h5 j v hj
    . rw[cm K]at hj;have fI:=(aG.1 hj).1;have:=mC (j-vs.length) K;rw[hj,Go.WideShapes.add_plain]at this;obtain⟨c',e1,e2⟩:=D8 this;rw[I K]at e1;cases e1;rw[<- e2];congr 1;rw[h4];have:m*k<=j:=by omega
      omega
theorem Cd:∀(d:Nat) {t:TypeId} {cQ:Ty} {fuel:Nat} {C:List Value} {x:DataW Tr×List MemPlace},JW P d t=some cQ->DataW.trod enc P w 0 FX Pr fuel t C=some x->∃ds,cQ.ok ds/\iw (AU w) ds C
 |0,t,cQ,fuel,C,x,h,_=>by simp[JW]at h
 |d+1,t,cQ,fuel,C,x,h,G=>by
  unfold JW at h;split at h
  . rename_i ht;cases h;obtain⟨b,rfl,_⟩:=DataW.trod_bool ht G;exact⟨[.bool b],⟨b,rfl⟩,_,_,rfl,rfl,rfl,rfl⟩
  . rename_i k ht;cases h;obtain⟨n,rfl,_,hw⟩:=DataW.trod_int ht G;exact⟨[.int k n],⟨n,rfl,hw⟩,_,_,rfl,rfl,rfl,rfl⟩
  . rename_i ht;cases h;obtain⟨s,rfl,_,hs⟩:=DataW.trod_string ht G;refine⟨[.str s.data.toList],⟨_,rfl,?_⟩,_,_,rfl,?_,rfl,rfl⟩
    . exact hs
    . show Value.string s=Value.string ⟨s.data.toList.toArray⟩;simp
  . rename_i e ht;split at h
    case h_2=>cases h
    rename_i fl hX hk;cases h;have hk:0<P.cellsOf e:=au hk;rcases DataW.trod_slice ht G with⟨rfl,_⟩|⟨a,T,A,asR,rest,n,rfl,rfl,_,_,iQ,nP,hel,hi,_,_⟩
    . exact⟨[.dS 0 []],⟨[],rfl,by simp,by simp⟩,_,_,rfl,⟨none,0,[],rfl,aA _,rfl,fun _=>rfl,fun h=>absurd h (cG _)⟩,rfl,rfl⟩
    . rcases Nat.eq_zero_or_pos T with h0|mL
      . subst h0;exact⟨[.dS 0 []],⟨[],rfl,by simp,by simp⟩,_,_,rfl,⟨some a,A,[],rfl,aX _,rfl,fun _=>rfl,fun h=>absurd h (cG _)⟩,rfl,rfl⟩
      . have U8:∀i,i<T->∃ci,w.cells? 0 (a.add (i*P.cellsOf e)) (P.cellsOf e)=some ci/\∃y,DataW.trod enc P w 0 FX Pr n e ci=some y:=by
         intro i fI;have:=hi i fI;rw[ay K]at this;obtain⟨ci,e1,e2⟩:=Option.bind_eq_some_iff.1 this;exact⟨ci,e1,_,e2⟩
        obtain⟨c0,k1,_⟩:=U8 0 mL;obtain⟨wj,sg⟩:=Bz k1;have h00:=sg 0 hk;obtain⟨b,o,Ps⟩:=a;have hz:(⟨b,o,Ps⟩:Addr).add (0*P.cellsOf e)=⟨b,o,Ps⟩:=by rw[Nat.zero_mul];rfl
        rw[hz]at h00;have ah7:(⟨b,o,Ps⟩:Addr).add 0=⟨b,o,Ps⟩:=rfl;rw[ah7,ay K]at h00;have ah8:Ps=none:=by
         unfold World.cell? at h00;simp only at h00;split at h00
         . split at h00
           . cases h00
           . rename_i q;cases Ps with
             |none=>rfl
             |some _=>exact absurd rfl q
         . cases h00
        subst ah8;obtain⟨c,I,_⟩:=D8 h00;obtain⟨rows,vs,N,B,h3,h4,h5⟩:=NJ (e:=fl) (b:=b) (o:=o) (k:=P.cellsOf e) (n:=T) (fun ci=>∃y,DataW.trod enc P w 0 FX Pr n e ci=some y)
         (fun ci ⟨y,hy⟩=>Cd d hX hy) (fun i fI=>by
          obtain⟨ci,e1,e2⟩:=U8 i fI;rw[Go.WideShapes.add_plain]at e1;exact⟨ci,e1,e2⟩) c (fun _=>I) T (aA _)
        refine⟨[.dS rows.length rows.flatten],⟨rows,rfl,K,B⟩,_,_,rfl,?_,rfl,rfl⟩;rw[N];exact⟨_,A,vs,rfl,iQ,h3,fun h=>by omega,fun _=>⟨b,o,c,rfl,I,h5⟩⟩
  . rename_i n e ht;split at h
    case h_2=>cases h
    rename_i fl hX hk;cases h;have hk:n*P.cellsOf e=P.cellsOf t:=aD hk;obtain⟨xs,m,rfl,_,oO,Ud,hi⟩:=DataW.trod_array ht G;have key:∀(q:Nat),q<=n->∃ds,Ty.oks (List.replicate q fl) ds/\iw (AU w) ds (C.drop ((n-q)*P.cellsOf e)):=by
     intro q
     induction q with
     |zero=>intro _;exact⟨[],rfl,by rw[Nat.sub_zero,hk,<- oO,List.drop_length];rfl⟩
     |succ q ih=>
      intro hq;obtain⟨ds,g1,g2⟩:=ih K;have N:=hi (n-(q+1)) K;rw[ay K]at N;obtain⟨da,f1,f2⟩:=Cd d hX N;refine⟨da++ds,⟨da,ds,rfl,f1,g1⟩,?_⟩;have e1:C.drop ((n-(q+1))*P.cellsOf e)=(C.drop ((n-(q+1))*P.cellsOf e)).take (P.cellsOf e)++C.drop ((n-q)*P.cellsOf e):=by
       have e2:(n-q)*P.cellsOf e=P.cellsOf e+(n-(q+1))*P.cellsOf e:=by
        rw[show n-q=(n-(q+1))+1 by omega,Nat.succ_mul];omega
       rw[e2,Nat.add_comm (P.cellsOf e),<- List.drop_drop,cn]
      rw[e1];exact qe f2 g2
    obtain⟨ds,g1,g2⟩:=key n (aA _);refine⟨ds,g1,?_⟩;simpa using g2
  . rename_i fs ht;split at h
    case h_2=>cases h
    rename_i l n hF;split at h
    case isFalse=>cases h
    rename_i hn;cases h;obtain⟨xs,m,rfl,_,oO,Ud,hi⟩:=DataW.trod_struct ht G;have key:∀(X:List Field) (off:Nat) (l:List Ty),vW P (JW P d) off X=some (l,n)->(∀f∈X,∃y,DataW.trod enc P w 0 FX Pr m f.type ((C.drop f.offset).take (P.cellsOf f.type))=some y)->∃ds,Ty.oks l ds/\iw (AU w) ds (C.drop off):=by
     intro X
     induction X with
     |nil=>
      intro off l h _;simp only[vW,an,aB]at h;obtain⟨rfl,rfl⟩:=h;exact⟨[],rfl,by rw[hn,<- oO,List.drop_length];rfl⟩
     |cons f X ih=>
      intro off l h hy;simp only[vW]at h;split at h
      case isFalse=>cases h
      rename_i aqJ;split at h
      case h_2=>cases h
      rename_i a l2 n2 ha HI;simp only[an,aB]at h;obtain⟨rfl,rfl⟩:=h;obtain⟨ds,g1,g2⟩:=ih _ _ HI fun f' hf'=>hy f' (by simp[hf']);obtain⟨y,hy1⟩:=hy f (by simp);obtain⟨da,f1,f2⟩:=Cd d ha hy1;refine⟨da++ds,⟨da,ds,rfl,f1,g1⟩,?_⟩;rw[aqJ]at f2;have e1:C.drop off=(C.drop off).take (P.cellsOf f.type)++C.drop (off+P.cellsOf f.type):=by
       rw[<- List.drop_drop,cn]
      rw[e1];exact qe f2 g2
    obtain⟨ds,g1,g2⟩:=key fs.toList 0 l hF fun f hf=>by
     obtain⟨i,ZC,zX⟩:=List.getElem_of_mem hf;have hi3:fs[i]? =some f:=by rw[<- zX];simp at ZC;simp[ZC]
     have:=hi i f hi3;rw[ay (by have:=(aQ.1 hi3).1;omega)]at this;exact⟨_,this⟩
    exact⟨ds,g1,by simpa using g2⟩
  . cases h
end
end Go.Eng
