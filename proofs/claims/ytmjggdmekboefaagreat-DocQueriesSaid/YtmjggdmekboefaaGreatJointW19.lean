/- Lemmas of the engine. No conditions. -/
import Derived.Test.YtmjggdmekboefaaGreatJointW04
import Derived.ProofKit
import Derived.OpenShut
set_option linter.unusedVariables false
set_option linter.unusedSimpArgs false
set_option linter.unusedSectionVars false
namespace Go.Eng
open Go Go.ChangeShapes Go.WideShapes
inductive Ty where
 |bool
 |int (k:IntKind)
 |str
 |fk (e:Ty)
 |agg (fs:List Ty)
 deriving Inhabited
mutual
def Ty.ok:Ty->ai->Prop
 | .bool,ds=>∃b,ds=[.bool b]
 | .int k,ds=>∃n,ds=[.int k n]/\(Lit.int k n).wf=true
 | .str,ds=>∃s,ds=[.str s]/\s.length<=maxLen
 | .fk e,ds=>∃jS:List (ai),ds=[.eM jS.length jS.flatten]/\jS.length<=maxLen/\∀r∈jS,Ty.ok e r
 | .agg fs,ds=>Ty.oks fs ds
def Ty.oks:List Ty->ai->Prop
 | [],ds=>ds=[]
 |f::fs,ds=>∃a b,ds=a++b/\Ty.ok f a/\Ty.oks fs b
end
def vE(P:Program)(ty:TypeId->Option Ty):Nat->List Field->Option (List Ty×Nat)
 |off,[]=>some ([],off)
 |off,f::fs=>if f.offset=off then(match ty f.type,vE P ty (off+P.cellsOf f.type) fs with
  |some a,some (l,n)=>some (a::l,n)
  |_,_=>none)else none
def Hy(P:Program):Nat->TypeId->Option Ty
 |0,_=>none
 |d+1,t=>match P.underlying t with
  |some .bool=>some .bool
  |some (.int k)=>some (.int k)
  |some .string=>some .str
  |some (.slice e)=>match Hy P d e,Nat.blt 0 (P.cellsOf e)with
   |some x,true=>some (.fk x)
   |_,_=>none
  |some (.array n e)=>match Hy P d e,Nat.beq (n*P.cellsOf e) (P.cellsOf t)with
   |some x,true=>some (.agg (List.replicate n x))
   |_,_=>none
  |some (.struct fs)=>match vE P (Hy P d) 0 fs.toList with
   |some (l,n)=>if n=P.cellsOf t then some (.agg l)else none
   |none=>none
  |_=>none
def uG(w:World)(b:Nat):Option (Array Value):=match w.heap[b]? with
 |some (.cells c _ _)=>some c
 |_=>none
theorem Wf(w:World):T3 (uG w) w:=by
 intro b c q;unfold uG at q;split at q
 . rename_i c' el fz h;cases q;exact⟨el,fz,h⟩
 . cases q
theorem Bx{w:World}{a:Addr}{n:Nat}{cs:List Value}(h:w.cells? 0 a n=some cs):cs.length=n/\∀i,i<n->w.cell? (a.add i)=cs[i]?:=by
 unfold World.cells? at h;rw[aF (aR _)]at h;have hl:cs.length=n:=by simpa using mapM_some_length h
 exact⟨hl,fun i hi=>mapM_some_get h i i (by simp[hi])⟩
theorem DX{w:World}{b o:Nat}{v:Value}(h:w.cell? ⟨b,o,none⟩=some v):∃c,uG w b=some c/\c[o]? =some v:=by
 unfold World.cell? at h;unfold uG;simp only at h;split at h
 . rename_i c el fz U;simp only[Option.isSome_none,aM,cI]at h;exact⟨c,by rw[U],h⟩
 . cases h
section
variable{dG:Type}{enc:TypeId×Value->dG}{P:Program}{w:World}{DY:Nat->Bool}{L0:Bool}
theorem Nf{e:Ty}{b o k n:Nat}(f:List Value->Prop)
  (hf:∀cs,f cs->∃ds,e.ok ds/\jl (uG w) ds cs) (K:∀i,i<n->∃cs,w.cells? 0 ⟨b,o+i*k,none⟩ k=some cs/\f cs) (c:Array Value) (A:0<n->uG w b=some c):
  ∀m,m<=n->∃(jS:List (ai)) (vs:List Value),jS.length=m/\(∀r∈jS,e.ok r)/\jl (uG w) jS.flatten vs/\vs.length=m*k/\∀(j:Nat) (v:Value),vs[j]? =some v->c[o+j]? =some v
 |0,_=>⟨[],[],rfl,by simp,rfl,by simp,by simp⟩
 |m+1,L=>by
  obtain⟨jS,vs,h1,C,h3,h4,h5⟩:=Nf f hf K c A m S;obtain⟨cs,k1,k2⟩:=K m S;obtain⟨ds,g1,g2⟩:=hf cs k2;obtain⟨hl,oH⟩:=Bx k1;refine⟨jS++[ds],vs++cs,by simp[h1],fun r hr=>?_,?_,?_,fun j v hj=>?_⟩
  . rcases bj.1 hr with hr|hr
    . exact C r hr
    . rw[aI]at hr;subst hr;exact g1
  . rw[List.flatten_append];exact pD h3 (by simpa using g2)
  . rw[az,h4,hl,Nat.succ_mul]
  . by_cases q:j<vs.length
    . rw[bH q]at hj;exact h5 j v hj
    . rw[dc S]at hj;have fj:=(aS.1 hj).1;have:=oH (j-vs.length) S;rw[hj,Go.WideShapes.add_plain]at this;obtain⟨c',e1,e2⟩:=DX this;rw[A S]at e1;cases e1;rw[<- e2];congr 1;rw[h4];have:m*k<=j:=by omega
      omega
theorem zw:∀(d:Nat) {t:TypeId} {s':Ty} {fuel:Nat} {cs:List Value} {x:DataW dG×List MemPlace},Hy P d t=some s'->DataW.trod enc P w 0 DY L0 fuel t cs=some x->∃ds,s'.ok ds/\jl (uG w) ds cs
 |0,t,s',fuel,cs,x,h,_=>by simp[Hy]at h
 |d+1,t,s',fuel,cs,x,h,K=>by
  unfold Hy at h;split at h
  . rename_i ht;cases h;obtain⟨b,rfl,_⟩:=DataW.trod_bool ht K;exact⟨[.bool b],⟨b,rfl⟩,_,_,rfl,rfl,rfl,rfl⟩
  . rename_i k ht;cases h;obtain⟨n,rfl,_,hw⟩:=DataW.trod_int ht K;exact⟨[.int k n],⟨n,rfl,hw⟩,_,_,rfl,rfl,rfl,rfl⟩
  . rename_i ht;cases h;obtain⟨s,rfl,_,hs⟩:=DataW.trod_string ht K;refine⟨[.str s.data.toList],⟨_,rfl,?_⟩,_,_,rfl,?_,rfl,rfl⟩
    . exact hs
    . show Value.string s=Value.string ⟨s.data.toList.toArray⟩;simp
  . rename_i e ht;split at h
    case h_2=>cases h
    rename_i fm hX hk;cases h;have hk:0<P.cellsOf e:=aE hk;rcases DataW.trod_slice ht K with⟨rfl,_⟩|⟨a,len,kg,awW,rest,n,rfl,rfl,_,_,jJ,oG,hel,hi,_,_⟩
    . exact⟨[.eM 0 []],⟨[],rfl,by simp,by simp⟩,_,_,rfl,⟨none,0,[],rfl,aK _,rfl,fun _=>rfl,fun h=>absurd h (dy _)⟩,rfl,rfl⟩
    . rcases cW len with h0|uY
      . subst h0;exact⟨[.eM 0 []],⟨[],rfl,by simp,by simp⟩,_,_,rfl,⟨some a,kg,[],rfl,aR _,rfl,fun _=>rfl,fun h=>absurd h (dy _)⟩,rfl,rfl⟩
      . have KK:∀i,i<len->∃ci,w.cells? 0 (a.add (i*P.cellsOf e)) (P.cellsOf e)=some ci/\∃y,DataW.trod enc P w 0 DY L0 n e ci=some y:=by
         intro i fj;have:=hi i fj;rw[au S]at this;obtain⟨ci,e1,e2⟩:=Option.bind_eq_some_iff.1 this;exact⟨ci,e1,_,e2⟩
        obtain⟨c0,k1,_⟩:=KK 0 uY;obtain⟨D1,ug⟩:=Bx k1;have h00:=ug 0 hk;obtain⟨b,o,OP⟩:=a;have hz:(⟨b,o,OP⟩:Addr).add (0*P.cellsOf e)=⟨b,o,OP⟩:=by rw[Nat.zero_mul];rfl
        rw[hz]at h00;have aim:(⟨b,o,OP⟩:Addr).add 0=⟨b,o,OP⟩:=rfl;rw[aim,au S]at h00;have ain:OP=none:=by
         unfold World.cell? at h00;simp only at h00;split at h00
         . split at h00
           . cases h00
           . rename_i q;cases OP with
             |none=>rfl
             |some _=>exact absurd rfl q
         . cases h00
        subst ain;obtain⟨c,A,_⟩:=DX h00;obtain⟨jS,vs,h1,C,h3,h4,h5⟩:=Nf (e:=fm) (b:=b) (o:=o) (k:=P.cellsOf e) (n:=len) (fun ci=>∃y,DataW.trod enc P w 0 DY L0 n e ci=some y)
         (fun ci ⟨y,hy⟩=>zw d hX hy) (fun i fj=>by
          obtain⟨ci,e1,e2⟩:=KK i fj;rw[Go.WideShapes.add_plain]at e1;exact⟨ci,e1,e2⟩) c (fun _=>A) len (aK _)
        refine⟨[.eM jS.length jS.flatten],⟨jS,rfl,S,C⟩,_,_,rfl,?_,rfl,rfl⟩;rw[h1];exact⟨_,kg,vs,rfl,jJ,h3,fun h=>by omega,fun _=>⟨b,o,c,rfl,A,h5⟩⟩
  . rename_i n e ht;split at h
    case h_2=>cases h
    rename_i fm hX hk;cases h;have hk:n*P.cellsOf e=P.cellsOf t:=aJ hk;obtain⟨xs,m,rfl,_,vN,Km,hi⟩:=DataW.trod_array ht K;have key:∀(q:Nat),q<=n->∃ds,Ty.oks (List.replicate q fm) ds/\jl (uG w) ds (cs.drop ((n-q)*P.cellsOf e)):=by
     intro q
     induction q with
     |zero=>intro _;exact⟨[],rfl,by rw[dz,hk,<- vN,List.drop_length];rfl⟩
     |succ q ih=>
      intro hq;obtain⟨ds,g1,g2⟩:=ih S;have h1:=hi (n-(q+1)) S;rw[au S]at h1;obtain⟨da,f1,f2⟩:=zw d hX h1;refine⟨da++ds,⟨da,ds,rfl,f1,g1⟩,?_⟩;have e1:cs.drop ((n-(q+1))*P.cellsOf e)=(cs.drop ((n-(q+1))*P.cellsOf e)).take (P.cellsOf e)++cs.drop ((n-q)*P.cellsOf e):=by
       have e2:(n-q)*P.cellsOf e=P.cellsOf e+(n-(q+1))*P.cellsOf e:=by
        rw[show n-q=(n-(q+1))+1 by omega,Nat.succ_mul];omega
       rw[e2,Nat.add_comm (P.cellsOf e),<- List.drop_drop,dj]
      rw[e1];exact pD f2 g2
    obtain⟨ds,g1,g2⟩:=key n (aK _);refine⟨ds,g1,?_⟩;simpa using g2
  . rename_i fs ht;split at h
    case h_2=>cases h
    rename_i l n hF;split at h
    case isFalse=>cases h
    rename_i hn;cases h;obtain⟨xs,m,rfl,_,vN,Km,hi⟩:=DataW.trod_struct ht K;have key:∀(fl:List Field) (off:Nat) (l:List Ty),vE P (Hy P d) off fl=some (l,n)->(∀f∈fl,∃y,DataW.trod enc P w 0 DY L0 m f.type ((cs.drop f.offset).take (P.cellsOf f.type))=some y)->∃ds,Ty.oks l ds/\jl (uG w) ds (cs.drop off):=by
     intro fl
     induction fl with
     |nil=>
      intro off l h _;simp only[vE,aq,aB]at h;obtain⟨rfl,rfl⟩:=h;exact⟨[],rfl,by rw[hn,<- vN,List.drop_length];rfl⟩
     |cons f fl ih=>
      intro off l h hy;simp only[vE]at h;split at h
      case isFalse=>cases h
      rename_i au9;split at h
      case h_2=>cases h
      rename_i a l2 n2 ha PS;simp only[aq,aB]at h;obtain⟨rfl,rfl⟩:=h;obtain⟨ds,g1,g2⟩:=ih _ _ PS fun f' hf'=>hy f' (by simp[hf']);obtain⟨y,hy1⟩:=hy f (by simp);obtain⟨da,f1,f2⟩:=zw d ha hy1;refine⟨da++ds,⟨da,ds,rfl,f1,g1⟩,?_⟩;rw[au9]at f2;have e1:cs.drop off=(cs.drop off).take (P.cellsOf f.type)++cs.drop (off+P.cellsOf f.type):=by
       rw[<- List.drop_drop,dj]
      rw[e1];exact pD f2 g2
    obtain⟨ds,g1,g2⟩:=key fs.toList 0 l hF fun f hf=>by
     obtain⟨i,hi1,BB⟩:=ck hf;have hi3:fs[i]? =some f:=by rw[<- BB];simp at hi1;simp[hi1]
     have:=hi i f hi3;rw[au (by have:=(aY.1 hi3).1;omega)]at this;exact⟨_,this⟩
    exact⟨ds,g1,by simpa using g2⟩
  . cases h
end
end Go.Eng
