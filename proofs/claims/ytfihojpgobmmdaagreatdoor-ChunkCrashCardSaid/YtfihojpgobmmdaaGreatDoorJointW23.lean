/- The engine, part IN: data that come in, as deep values. No conditions: lemmas alone. -/
import Derived.Test.YtfihojpgobmmdaaGreatDoorJointW04
import Derived.ProofKit
import Derived.OpenShut
set_option linter.unusedVariables false
set_option linter.unusedSimpArgs false
set_option linter.unusedSectionVars false
namespace Go.Eng
open Go Go.ChangeShapes Go.WideShapes
inductive Ty where
 |bool
 |int (k:IntKind)
 |str
 |di (e:Ty)
 |agg (fs:List Ty)
 deriving Inhabited
mutual
def Ty.ok:Ty->ai->Prop
 | .bool,ds=>∃b,ds=[.bool b]
 | .int k,ds=>∃n,ds=[.int k n]/\(Lit.int k n).wf=true
 | .str,ds=>∃s,ds=[.str s]/\s.length<=maxLen
 | .di e,ds=>∃rows:List (ai),ds=[.dM rows.length rows.flatten]/\rows.length<=maxLen/\∀r∈rows,Ty.ok e r
 | .agg fs,ds=>Ty.oks fs ds
def Ty.oks:List Ty->ai->Prop
 | [],ds=>ds=[]
 |f::fs,ds=>∃a b,ds=a++b/\Ty.ok f a/\Ty.oks fs b
end
def vI(P:Program)(ty:TypeId->Option Ty):Nat->List Field->Option (List Ty×Nat)
 |off,[]=>some ([],off)
 |off,f::fs=>if f.offset=off then(match ty f.type,vI P ty (off+P.cellsOf f.type) fs with
  |some a,some (l,n)=>some (a::l,n)
  |_,_=>none)else none
def JP(P:Program):Nat->TypeId->Option Ty
 |0,_=>none
 |d+1,t=>match P.underlying t with
  |some .bool=>some .bool
  |some (.int k)=>some (.int k)
  |some .string=>some .str
  |some (.slice e)=>match JP P d e,Nat.blt 0 (P.cellsOf e)with
   |some x,true=>some (.di x)
   |_,_=>none
  |some (.array n e)=>match JP P d e,Nat.beq (n*P.cellsOf e) (P.cellsOf t)with
   |some x,true=>some (.agg (List.replicate n x))
   |_,_=>none
  |some (.struct fs)=>match vI P (JP P d) 0 fs.toList with
   |some (l,n)=>if n=P.cellsOf t then some (.agg l)else none
   |none=>none
  |_=>none
def x9(w:World)(b:Nat):Option (Array Value):=match w.heap[b]? with
 |some (.cells c _ _)=>some c
 |_=>none
theorem Xi(w:World):Zq (x9 w) w:=by
 intro b c q;unfold x9 at q;split at q
 . rename_i c' el fz h;cases q;exact⟨el,fz,h⟩
 . cases q
theorem Bn{w:World}{a:Addr}{n:Nat}{cs:List Value}(h:w.cells? 0 a n=some cs):cs.length=n/\∀i,i<n->w.cell? (a.add i)=cs[i]?:=by
 unfold World.cells? at h;rw[aG (aY _)]at h;have hl:cs.length=n:=by simpa using mapM_some_length h
 exact⟨hl,fun i hi=>mapM_some_get h i i (by simp[hi])⟩
theorem DS{w:World}{b o:Nat}{v:Value}(h:w.cell? ⟨b,o,none⟩=some v):∃c,x9 w b=some c/\c[o]? =some v:=by
 unfold World.cell? at h;unfold x9;simp only at h;split at h
 . rename_i c el fz hb;simp only[Option.isSome_none,aO,cG]at h;exact⟨c,by rw[hb],h⟩
 . cases h
section
variable{H:Type}{enc:TypeId×Value->H}{P:Program}{w:World}{Bo:Nat->Bool}{JQ:Bool}
theorem NF{e:Ty}{b o k n:Nat}(f:List Value->Prop)
  (hf:∀cs,f cs->∃ds,e.ok ds/\iw (x9 w) ds cs) (hx:∀i,i<n->∃cs,w.cells? 0 ⟨b,o+i*k,none⟩ k=some cs/\f cs) (c:Array Value) (hc:0<n->x9 w b=some c):
  ∀m,m<=n->∃(rows:List (ai)) (vs:List Value),rows.length=m/\(∀r∈rows,e.ok r)/\iw (x9 w) rows.flatten vs/\vs.length=m*k/\∀(j:Nat) (v:Value),vs[j]? =some v->c[o+j]? =some v
 |0,_=>⟨[],[],rfl,by simp,rfl,by simp,by simp⟩
 |m+1,hm=>by
  obtain⟨rows,vs,h1,h2,h3,h4,h5⟩:=NF f hf hx c hc m be;obtain⟨cs,k1,k2⟩:=hx m be;obtain⟨ds,g1,g2⟩:=hf cs k2;obtain⟨hl,mh⟩:=Bn k1;refine⟨rows++[ds],vs++cs,by simp[h1],fun r hr=>?_,?_,?_,fun j v hj=>?_⟩
  . rcases aU.1 hr with hr|hr
    . exact h2 r hr
    . rw[aq]at hr;subst hr;exact g1
  . rw[cr];exact pM h3 (by simpa using g2)
  . rw[ax,h4,hl,Nat.succ_mul]
  . by_cases q:j<vs.length
    . rw[bz q]at hj;exact h5 j v hj
    . rw[cj be]at hj;have fJ:=(aF.1 hj).1;have:=mh (j-vs.length) be;rw[hj,Go.WideShapes.add_plain]at this;obtain⟨c',e1,e2⟩:=DS this;rw[hc be]at e1;cases e1;rw[<- e2];congr 1;rw[h4];have:m*k<=j:=by omega
      omega
theorem zK:∀(d:Nat) {t:TypeId} {T:Ty} {fuel:Nat} {cs:List Value} {x:DataW H×List MemPlace},JP P d t=some T->DataW.trod enc P w 0 Bo JQ fuel t cs=some x->∃ds,T.ok ds/\iw (x9 w) ds cs
 |0,t,T,fuel,cs,x,h,_=>by simp[JP]at h
 |d+1,t,T,fuel,cs,x,h,hx=>by
  unfold JP at h;split at h
  . rename_i ht;cases h;obtain⟨b,rfl,_⟩:=DataW.trod_bool ht hx;exact⟨[.bool b],⟨b,rfl⟩,_,_,rfl,rfl,rfl,rfl⟩
  . rename_i k ht;cases h;obtain⟨n,rfl,_,hw⟩:=DataW.trod_int ht hx;exact⟨[.int k n],⟨n,rfl,hw⟩,_,_,rfl,rfl,rfl,rfl⟩
  . rename_i ht;cases h;obtain⟨s,rfl,_,hs⟩:=DataW.trod_string ht hx;refine⟨[.str s.data.toList],⟨_,rfl,?_⟩,_,_,rfl,?_,rfl,rfl⟩
    . exact hs
    . show Value.string s=Value.string ⟨s.data.toList.toArray⟩;simp
  . rename_i e ht;split at h
    case h_2=>cases h
    rename_i X hX hk;cases h;have hk:0<P.cellsOf e:=au hk;rcases DataW.trod_slice ht hx with⟨rfl,_⟩|⟨a,cO,cP,arY,rest,n,rfl,rfl,_,_,iT,nA,hel,hi,_,_⟩
    . exact⟨[.dM 0 []],⟨[],rfl,by simp,by simp⟩,_,_,rfl,⟨none,0,[],rfl,aA _,rfl,fun _=>rfl,fun h=>absurd h (cF _)⟩,rfl,rfl⟩
    . rcases Nat.eq_zero_or_pos cO with h0|mG
      . subst h0;exact⟨[.dM 0 []],⟨[],rfl,by simp,by simp⟩,_,_,rfl,⟨some a,cP,[],rfl,aY _,rfl,fun _=>rfl,fun h=>absurd h (cF _)⟩,rfl,rfl⟩
      . have UL:∀i,i<cO->∃ci,w.cells? 0 (a.add (i*P.cellsOf e)) (P.cellsOf e)=some ci/\∃y,DataW.trod enc P w 0 Bo JQ n e ci=some y:=by
         intro i fJ;have:=hi i fJ;rw[ay be]at this;obtain⟨ci,e1,e2⟩:=Option.bind_eq_some_iff.1 this;exact⟨ci,e1,_,e2⟩
        obtain⟨c0,k1,_⟩:=UL 0 mG;obtain⟨vR,rR⟩:=Bn k1;have h00:=rR 0 hk;obtain⟨b,o,Pq⟩:=a;have hz:(⟨b,o,Pq⟩:Addr).add (0*P.cellsOf e)=⟨b,o,Pq⟩:=by rw[Nat.zero_mul];rfl
        rw[hz]at h00;have ahW:(⟨b,o,Pq⟩:Addr).add 0=⟨b,o,Pq⟩:=rfl;rw[ahW,ay be]at h00;have ahX:Pq=none:=by
         unfold World.cell? at h00;simp only at h00;split at h00
         . split at h00
           . cases h00
           . rename_i q;cases Pq with
             |none=>rfl
             |some _=>exact absurd rfl q
         . cases h00
        subst ahX;obtain⟨c,hc,_⟩:=DS h00;obtain⟨rows,vs,h1,h2,h3,h4,h5⟩:=NF (e:=X) (b:=b) (o:=o) (k:=P.cellsOf e) (n:=cO) (fun ci=>∃y,DataW.trod enc P w 0 Bo JQ n e ci=some y)
         (fun ci ⟨y,hy⟩=>zK d hX hy) (fun i fJ=>by
          obtain⟨ci,e1,e2⟩:=UL i fJ;rw[Go.WideShapes.add_plain]at e1;exact⟨ci,e1,e2⟩) c (fun _=>hc) cO (aA _)
        refine⟨[.dM rows.length rows.flatten],⟨rows,rfl,be,h2⟩,_,_,rfl,?_,rfl,rfl⟩;rw[h1];exact⟨_,cP,vs,rfl,iT,h3,fun h=>by omega,fun _=>⟨b,o,c,rfl,hc,h5⟩⟩
  . rename_i n e ht;split at h
    case h_2=>cases h
    rename_i X hX hk;cases h;have hk:n*P.cellsOf e=P.cellsOf t:=aD hk;obtain⟨xs,m,rfl,_,rT,TT,hi⟩:=DataW.trod_array ht hx;have key:∀(q:Nat),q<=n->∃ds,Ty.oks (List.replicate q X) ds/\iw (x9 w) ds (cs.drop ((n-q)*P.cellsOf e)):=by
     intro q
     induction q with
     |zero=>intro _;exact⟨[],rfl,by rw[Nat.sub_zero,hk,<- rT,List.drop_length];rfl⟩
     |succ q ih=>
      intro hq;obtain⟨ds,g1,g2⟩:=ih be;have h1:=hi (n-(q+1)) be;rw[ay be]at h1;obtain⟨da,f1,f2⟩:=zK d hX h1;refine⟨da++ds,⟨da,ds,rfl,f1,g1⟩,?_⟩;have e1:cs.drop ((n-(q+1))*P.cellsOf e)=(cs.drop ((n-(q+1))*P.cellsOf e)).take (P.cellsOf e)++cs.drop ((n-q)*P.cellsOf e):=by
       have e2:(n-q)*P.cellsOf e=P.cellsOf e+(n-(q+1))*P.cellsOf e:=by
        rw[show n-q=(n-(q+1))+1 by omega,Nat.succ_mul];omega
       rw[e2,Nat.add_comm (P.cellsOf e),<- List.drop_drop,ck]
      rw[e1];exact pM f2 g2
    obtain⟨ds,g1,g2⟩:=key n (aA _);refine⟨ds,g1,?_⟩;simpa using g2
  . rename_i fs ht;split at h
    case h_2=>cases h
    rename_i l n hF;split at h
    case isFalse=>cases h
    rename_i hn;cases h;obtain⟨xs,m,rfl,_,rT,TT,hi⟩:=DataW.trod_struct ht hx;have key:∀(fl:List Field) (off:Nat) (l:List Ty),vI P (JP P d) off fl=some (l,n)->(∀f∈fl,∃y,DataW.trod enc P w 0 Bo JQ m f.type ((cs.drop f.offset).take (P.cellsOf f.type))=some y)->∃ds,Ty.oks l ds/\iw (x9 w) ds (cs.drop off):=by
     intro fl
     induction fl with
     |nil=>
      intro off l h _;simp only[vI,an,aB]at h;obtain⟨rfl,rfl⟩:=h;exact⟨[],rfl,by rw[hn,<- rT,List.drop_length];rfl⟩
     |cons f fl ih=>
      intro off l h hy;simp only[vI]at h;split at h
      case isFalse=>cases h
      rename_i aqf;split at h
      case h_2=>cases h
      rename_i a l2 n2 ha HB;simp only[an,aB]at h;obtain⟨rfl,rfl⟩:=h;obtain⟨ds,g1,g2⟩:=ih _ _ HB fun f' hf'=>hy f' (by simp[hf']);obtain⟨y,hy1⟩:=hy f (by simp);obtain⟨da,f1,f2⟩:=zK d ha hy1;refine⟨da++ds,⟨da,ds,rfl,f1,g1⟩,?_⟩;rw[aqf]at f2;have e1:cs.drop off=(cs.drop off).take (P.cellsOf f.type)++cs.drop (off+P.cellsOf f.type):=by
       rw[<- List.drop_drop,ck]
      rw[e1];exact pM f2 g2
    obtain⟨ds,g1,g2⟩:=key fs.toList 0 l hF fun f hf=>by
     obtain⟨i,Zb,zM⟩:=List.getElem_of_mem hf;have hi3:fs[i]? =some f:=by rw[<- zM];simp at Zb;simp[Zb]
     have:=hi i f hi3;rw[ay (by have:=(aQ.1 hi3).1;omega)]at this;exact⟨_,this⟩
    exact⟨ds,g1,by simpa using g2⟩
  . cases h
end
end Go.Eng
