/- Lemmas of the engine. No conditions. -/
import Derived.Test.YtmjggdmekboefaaGreatJointW04
import Derived.ProofKit
import Derived.OpenShut
set_option linter.unusedVariables false
set_option linter.unusedSimpArgs false
set_option linter.unusedSectionVars false
namespace Go.Eng
open Go Go.ChangeShapes Go.WideShapes
inductive Ty where
 |bool
 |int (k:IntKind)
 |str
 |eZ (e:Ty)
 |agg (fs:List Ty)
 deriving Inhabited
mutual
def Ty.ok:Ty->ai->Prop
 | .bool,ds=>∃b,ds=[.bool b]
 | .int k,ds=>∃n,ds=[.int k n]/\(Lit.int k n).wf=true
 | .str,ds=>∃s,ds=[.str s]/\s.length<=maxLen
 | .eZ e,ds=>∃jD:List (ai),ds=[.eE jD.length jD.flatten]/\jD.length<=maxLen/\∀r∈jD,Ty.ok e r
 | .agg fs,ds=>Ty.oks fs ds
def Ty.oks:List Ty->ai->Prop
 | [],ds=>ds=[]
 |f::fs,ds=>∃a b,ds=a++b/\Ty.ok f a/\Ty.oks fs b
end
def vk(P:Program)(ty:TypeId->Option Ty):Nat->List Field->Option (List Ty×Nat)
 |off,[]=>some ([],off)
 |off,f::fs=>if f.offset=off then(match ty f.type,vk P ty (off+P.cellsOf f.type) fs with
  |some a,some (l,n)=>some (a::l,n)
  |_,_=>none)else none
def GY(P:Program):Nat->TypeId->Option Ty
 |0,_=>none
 |d+1,t=>match P.underlying t with
  |some .bool=>some .bool
  |some (.int k)=>some (.int k)
  |some .string=>some .str
  |some (.slice e)=>match GY P d e,Nat.blt 0 (P.cellsOf e)with
   |some x,true=>some (.eZ x)
   |_,_=>none
  |some (.array n e)=>match GY P d e,Nat.beq (n*P.cellsOf e) (P.cellsOf t)with
   |some x,true=>some (.agg (List.replicate n x))
   |_,_=>none
  |some (.struct fs)=>match vk P (GY P d) 0 fs.toList with
   |some (l,n)=>if n=P.cellsOf t then some (.agg l)else none
   |none=>none
  |_=>none
def uv(w:World)(b:Nat):Option (Array Value):=match w.heap[b]? with
 |some (.cells c _ _)=>some c
 |_=>none
theorem Vv(w:World):Tf (uv w) w:=by
 intro b c q;unfold uv at q;split at q
 . rename_i c' el fz h;cases q;exact⟨el,fz,h⟩
 . cases q
theorem AZ{w:World}{a:Addr}{n:Nat}{cs:List Value}(h:w.cells? 0 a n=some cs):cs.length=n/\∀i,i<n->w.cell? (a.add i)=cs[i]?:=by
 unfold World.cells? at h;rw[aD (aN _)]at h;have hl:cs.length=n:=by simpa using mapM_some_length h
 exact⟨hl,fun i hi=>mapM_some_get h i i (by simp[hi])⟩
theorem DA{w:World}{b o:Nat}{v:Value}(h:w.cell? ⟨b,o,none⟩=some v):∃c,uv w b=some c/\c[o]? =some v:=by
 unfold World.cell? at h;unfold uv;simp only at h;split at h
 . rename_i c el fz Y;simp only[Option.isSome_none,aM,cA]at h;exact⟨c,by rw[Y],h⟩
 . cases h
section
variable{dz:Type}{enc:TypeId×Value->dz}{P:Program}{w:World}{DB:Nat->Bool}{Ls:Bool}
theorem MI{e:Ty}{b o k n:Nat}(f:List Value->Prop)
  (hf:∀cs,f cs->∃ds,e.ok ds/\jd (uv w) ds cs) (J:∀i,i<n->∃cs,w.cells? 0 ⟨b,o+i*k,none⟩ k=some cs/\f cs) (c:Array Value) (N:0<n->uv w b=some c):
  ∀m,m<=n->∃(jD:List (ai)) (vs:List Value),jD.length=m/\(∀r∈jD,e.ok r)/\jd (uv w) jD.flatten vs/\vs.length=m*k/\∀(j:Nat) (v:Value),vs[j]? =some v->c[o+j]? =some v
 |0,_=>⟨[],[],rfl,by simp,rfl,by simp,by simp⟩
 |m+1,K=>by
  obtain⟨jD,vs,h1,C,h3,h4,h5⟩:=MI f hf J c N m S;obtain⟨cs,k1,k2⟩:=J m S;obtain⟨ds,g1,g2⟩:=hf cs k2;obtain⟨hl,ot⟩:=AZ k1;refine⟨jD++[ds],vs++cs,by simp[h1],fun r hr=>?_,?_,?_,fun j v hj=>?_⟩
  . rcases bf.1 hr with hr|hr
    . exact C r hr
    . rw[aG]at hr;subst hr;exact g1
  . rw[List.flatten_append];exact o8 h3 (by simpa using g2)
  . rw[aH,h4,hl,Nat.succ_mul]
  . by_cases q:j<vs.length
    . rw[bD q]at hj;exact h5 j v hj
    . rw[cT S]at hj;have eY:=(aO.1 hj).1;have:=ot (j-vs.length) S;rw[hj,Go.WideShapes.add_plain]at this;obtain⟨c',e1,e2⟩:=DA this;rw[N S]at e1;cases e1;rw[<- e2];congr 1;rw[h4];have:m*k<=j:=by omega
      omega
theorem yY:∀(d:Nat) {t:TypeId} {fr:Ty} {fuel:Nat} {cs:List Value} {x:DataW dz×List MemPlace},GY P d t=some fr->DataW.trod enc P w 0 DB Ls fuel t cs=some x->∃ds,fr.ok ds/\jd (uv w) ds cs
 |0,t,fr,fuel,cs,x,h,_=>by simp[GY]at h
 |d+1,t,fr,fuel,cs,x,h,J=>by
  unfold GY at h;split at h
  . rename_i ht;cases h;obtain⟨b,rfl,_⟩:=DataW.trod_bool ht J;exact⟨[.bool b],⟨b,rfl⟩,_,_,rfl,rfl,rfl,rfl⟩
  . rename_i k ht;cases h;obtain⟨n,rfl,_,hw⟩:=DataW.trod_int ht J;exact⟨[.int k n],⟨n,rfl,hw⟩,_,_,rfl,rfl,rfl,rfl⟩
  . rename_i ht;cases h;obtain⟨s,rfl,_,hs⟩:=DataW.trod_string ht J;refine⟨[.str s.data.toList],⟨_,rfl,?_⟩,_,_,rfl,?_,rfl,rfl⟩
    . exact hs
    . show Value.string s=Value.string ⟨s.data.toList.toArray⟩;simp
  . rename_i e ht;split at h
    case h_2=>cases h
    rename_i n0 hX U;cases h;have U:0<P.cellsOf e:=aE U;rcases DataW.trod_slice ht J with⟨rfl,_⟩|⟨a,len,jQ,avZ,rest,n,rfl,rfl,_,_,jl,oq,hel,hi,_,_⟩
    . exact⟨[.eE 0 []],⟨[],rfl,by simp,by simp⟩,_,_,rfl,⟨none,0,[],rfl,aK _,rfl,fun _=>rfl,fun h=>absurd h (dj _)⟩,rfl,rfl⟩
    . rcases cH len with h0|uL
      . subst h0;exact⟨[.eE 0 []],⟨[],rfl,by simp,by simp⟩,_,_,rfl,⟨some a,jQ,[],rfl,aN _,rfl,fun _=>rfl,fun h=>absurd h (dj _)⟩,rfl,rfl⟩
      . have Kh:∀i,i<len->∃ci,w.cells? 0 (a.add (i*P.cellsOf e)) (P.cellsOf e)=some ci/\∃y,DataW.trod enc P w 0 DB Ls n e ci=some y:=by
         intro i eY;have:=hi i eY;rw[au S]at this;obtain⟨ci,e1,e2⟩:=Option.bind_eq_some_iff.1 this;exact⟨ci,e1,_,e2⟩
        obtain⟨c0,k1,_⟩:=Kh 0 uL;obtain⟨DD,tQ⟩:=AZ k1;have h00:=tQ 0 U;obtain⟨b,o,Oe⟩:=a;have hz:(⟨b,o,Oe⟩:Addr).add (0*P.cellsOf e)=⟨b,o,Oe⟩:=by rw[Nat.zero_mul];rfl
        rw[hz]at h00;have ahz:(⟨b,o,Oe⟩:Addr).add 0=⟨b,o,Oe⟩:=rfl;rw[ahz,au S]at h00;have ahA:Oe=none:=by
         unfold World.cell? at h00;simp only at h00;split at h00
         . split at h00
           . cases h00
           . rename_i q;cases Oe with
             |none=>rfl
             |some _=>exact absurd rfl q
         . cases h00
        subst ahA;obtain⟨c,N,_⟩:=DA h00;obtain⟨jD,vs,h1,C,h3,h4,h5⟩:=MI (e:=n0) (b:=b) (o:=o) (k:=P.cellsOf e) (n:=len) (fun ci=>∃y,DataW.trod enc P w 0 DB Ls n e ci=some y)
         (fun ci ⟨y,hy⟩=>yY d hX hy) (fun i eY=>by
          obtain⟨ci,e1,e2⟩:=Kh i eY;rw[Go.WideShapes.add_plain]at e1;exact⟨ci,e1,e2⟩) c (fun _=>N) len (aK _)
        refine⟨[.eE jD.length jD.flatten],⟨jD,rfl,S,C⟩,_,_,rfl,?_,rfl,rfl⟩;rw[h1];exact⟨_,jQ,vs,rfl,jl,h3,fun h=>by omega,fun _=>⟨b,o,c,rfl,N,h5⟩⟩
  . rename_i n e ht;split at h
    case h_2=>cases h
    rename_i n0 hX U;cases h;have U:n*P.cellsOf e=P.cellsOf t:=aJ U;obtain⟨xs,m,rfl,_,xB,JS,hi⟩:=DataW.trod_array ht J;have key:∀(q:Nat),q<=n->∃ds,Ty.oks (List.replicate q n0) ds/\jd (uv w) ds (cs.drop ((n-q)*P.cellsOf e)):=by
     intro q
     induction q with
     |zero=>intro _;exact⟨[],rfl,by rw[dr,U,<- xB,List.drop_length];rfl⟩
     |succ q ih=>
      intro hq;obtain⟨ds,g1,g2⟩:=ih S;have h1:=hi (n-(q+1)) S;rw[au S]at h1;obtain⟨da,f1,f2⟩:=yY d hX h1;refine⟨da++ds,⟨da,ds,rfl,f1,g1⟩,?_⟩;have e1:cs.drop ((n-(q+1))*P.cellsOf e)=(cs.drop ((n-(q+1))*P.cellsOf e)).take (P.cellsOf e)++cs.drop ((n-q)*P.cellsOf e):=by
       have e2:(n-q)*P.cellsOf e=P.cellsOf e+(n-(q+1))*P.cellsOf e:=by
        rw[show n-q=(n-(q+1))+1 by omega,Nat.succ_mul];omega
       rw[e2,Nat.add_comm (P.cellsOf e),<- List.drop_drop,List.take_append_drop]
      rw[e1];exact o8 f2 g2
    obtain⟨ds,g1,g2⟩:=key n (aK _);refine⟨ds,g1,?_⟩;simpa using g2
  . rename_i fs ht;split at h
    case h_2=>cases h
    rename_i l n hF;split at h
    case isFalse=>cases h
    rename_i hn;cases h;obtain⟨xs,m,rfl,_,xB,JS,hi⟩:=DataW.trod_struct ht J;have key:∀(fl:List Field) (off:Nat) (l:List Ty),vk P (GY P d) off fl=some (l,n)->(∀f∈fl,∃y,DataW.trod enc P w 0 DB Ls m f.type ((cs.drop f.offset).take (P.cellsOf f.type))=some y)->∃ds,Ty.oks l ds/\jd (uv w) ds (cs.drop off):=by
     intro fl
     induction fl with
     |nil=>
      intro off l h _;simp only[vk,aq,aB]at h;obtain⟨rfl,rfl⟩:=h;exact⟨[],rfl,by rw[hn,<- xB,List.drop_length];rfl⟩
     |cons f fl ih=>
      intro off l h hy;simp only[vk]at h;split at h
      case isFalse=>cases h
      rename_i at6;split at h
      case h_2=>cases h
      rename_i a l2 n2 ha Ph;simp only[aq,aB]at h;obtain⟨rfl,rfl⟩:=h;obtain⟨ds,g1,g2⟩:=ih _ _ Ph fun f' hf'=>hy f' (by simp[hf']);obtain⟨y,hy1⟩:=hy f (by simp);obtain⟨da,f1,f2⟩:=yY d ha hy1;refine⟨da++ds,⟨da,ds,rfl,f1,g1⟩,?_⟩;rw[at6]at f2;have e1:cs.drop off=(cs.drop off).take (P.cellsOf f.type)++cs.drop (off+P.cellsOf f.type):=by
       rw[<- List.drop_drop,List.take_append_drop]
      rw[e1];exact o8 f2 g2
    obtain⟨ds,g1,g2⟩:=key fs.toList 0 l hF fun f hf=>by
     obtain⟨i,hi1,Ba⟩:=ck hf;have hi3:fs[i]? =some f:=by rw[<- Ba];simp at hi1;simp[hi1]
     have:=hi i f hi3;rw[au (by have:=(aU.1 hi3).1;omega)]at this;exact⟨_,this⟩
    exact⟨ds,g1,by simpa using g2⟩
  . cases h
end
end Go.Eng
