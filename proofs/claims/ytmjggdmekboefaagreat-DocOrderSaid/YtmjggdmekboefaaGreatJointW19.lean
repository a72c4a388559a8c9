/- Lemmas of the engine. No conditions. -/
import Derived.Test.YtmjggdmekboefaaGreatJointW04
import Derived.ProofKit
import Derived.OpenShut
set_option linter.unusedVariables false
set_option linter.unusedSimpArgs false
set_option linter.unusedSectionVars false
namespace Go.Eng
open Go Go.ChangeShapes Go.WideShapes
inductive Ty where
 |bool
 |int (k:IntKind)
 |str
 |eR (e:Ty)
 |agg (fs:List Ty)
 deriving Inhabited
mutual
def Ty.ok:Ty->ai->Prop
 | .bool,ds=>∃b,ds=[.bool b]
 | .int k,ds=>∃n,ds=[.int k n]/\(Lit.int k n).wf=true
 | .str,ds=>∃s,ds=[.str s]/\s.length<=maxLen
 | .eR e,ds=>∃rows:List (ai),ds=[.eB rows.length rows.flatten]/\rows.length<=maxLen/\∀r∈rows,Ty.ok e r
 | .agg fs,ds=>Ty.oks fs ds
def Ty.oks:List Ty->ai->Prop
 | [],ds=>ds=[]
 |f::fs,ds=>∃a b,ds=a++b/\Ty.ok f a/\Ty.oks fs b
end
def vi(P:Program)(ty:TypeId->Option Ty):Nat->List Field->Option (List Ty×Nat)
 |off,[]=>some ([],off)
 |off,f::fs=>if f.offset=off then(match ty f.type,vi P ty (off+P.cellsOf f.type) fs with
  |some a,some (l,n)=>some (a::l,n)
  |_,_=>none)else none
def GJ(P:Program):Nat->TypeId->Option Ty
 |0,_=>none
 |d+1,t=>match P.underlying t with
  |some .bool=>some .bool
  |some (.int k)=>some (.int k)
  |some .string=>some .str
  |some (.slice e)=>match GJ P d e,Nat.blt 0 (P.cellsOf e)with
   |some x,true=>some (.eR x)
   |_,_=>none
  |some (.array n e)=>match GJ P d e,Nat.beq (n*P.cellsOf e) (P.cellsOf t)with
   |some x,true=>some (.agg (List.replicate n x))
   |_,_=>none
  |some (.struct fs)=>match vi P (GJ P d) 0 fs.toList with
   |some (l,n)=>if n=P.cellsOf t then some (.agg l)else none
   |none=>none
  |_=>none
def vU(w:World)(b:Nat):Option (Array Value):=match w.heap[b]? with
 |some (.cells c _ _)=>some c
 |_=>none
theorem UY(w:World):SO (vU w) w:=by
 intro b c q;unfold vU at q;split at q
 . rename_i c' el fz h;cases q;exact⟨el,fz,h⟩
 . cases q
theorem AR{w:World}{a:Addr}{n:Nat}{R:List Value}(h:w.cells? 0 a n=some R):R.length=n/\∀i,i<n->w.cell? (a.add i)=R[i]?:=by
 unfold World.cells? at h;rw[aG (aU _)]at h;have hl:R.length=n:=by simpa using mapM_some_length h
 exact⟨hl,fun i hi=>mapM_some_get h i i (by simp[hi])⟩
theorem Dv{w:World}{b o:Nat}{v:Value}(h:w.cell? ⟨b,o,none⟩=some v):∃c,vU w b=some c/\c[o]? =some v:=by
 unfold World.cell? at h;unfold vU;simp only at h;split at h
 . rename_i c el fz hb;simp only[Option.isSome_none,aM,cz]at h;exact⟨c,by rw[hb],h⟩
 . cases h
section
variable{dm:Type}{enc:TypeId×Value->dm}{P:Program}{w:World}{Dw:Nat->Bool}{Lc:Bool}
theorem Mm{e:Ty}{b o k n:Nat}(f:List Value->Prop)
  (hf:∀R,f R->∃ds,e.ok ds/\iS (vU w) ds R) (I:∀i,i<n->∃R,w.cells? 0 ⟨b,o+i*k,none⟩ k=some R/\f R) (c:Array Value) (B:0<n->vU w b=some c):
  ∀m,m<=n->∃(rows:List (ai)) (vs:List Value),rows.length=m/\(∀r∈rows,e.ok r)/\iS (vU w) rows.flatten vs/\vs.length=m*k/\∀(j:Nat) (v:Value),vs[j]? =some v->c[o+j]? =some v
 |0,_=>⟨[],[],rfl,by simp,rfl,by simp,by simp⟩
 |m+1,K=>by
  obtain⟨rows,vs,Q,O,h3,h4,h5⟩:=Mm f hf I c B m H;obtain⟨R,k1,k2⟩:=I m H;obtain⟨ds,g1,g2⟩:=hf R k2;obtain⟨hl,mz⟩:=AR k1;refine⟨rows++[ds],vs++R,by simp[Q],fun r hr=>?_,?_,?_,fun j v hj=>?_⟩
  . rcases bg.1 hr with hr|hr
    . exact O r hr
    . rw[aH]at hr;subst hr;exact g1
  . rw[List.flatten_append];exact o9 h3 (by simpa using g2)
  . rw[aE,h4,hl,Nat.succ_mul]
  . by_cases q:j<vs.length
    . rw[bD q]at hj;exact h5 j v hj
    . rw[cN H]at hj;have eO:=(aR.1 hj).1;have:=mz (j-vs.length) H;rw[hj,Go.WideShapes.add_plain]at this;obtain⟨c',e1,e2⟩:=Dv this;rw[B H]at e1;cases e1;rw[<- e2];congr 1;rw[h4];have:m*k<=j:=by omega
      omega
theorem BK:∀(d:Nat) {t:TypeId} {es:Ty} {fuel:Nat} {R:List Value} {x:DataW dm×List MemPlace},GJ P d t=some es->DataW.trod enc P w 0 Dw Lc fuel t R=some x->∃ds,es.ok ds/\iS (vU w) ds R
 |0,t,es,fuel,R,x,h,_=>by simp[GJ]at h
 |d+1,t,es,fuel,R,x,h,I=>by
  unfold GJ at h;split at h
  . rename_i ht;cases h;obtain⟨b,rfl,_⟩:=DataW.trod_bool ht I;exact⟨[.bool b],⟨b,rfl⟩,_,_,rfl,rfl,rfl,rfl⟩
  . rename_i k ht;cases h;obtain⟨n,rfl,_,hw⟩:=DataW.trod_int ht I;exact⟨[.int k n],⟨n,rfl,hw⟩,_,_,rfl,rfl,rfl,rfl⟩
  . rename_i ht;cases h;obtain⟨s,rfl,_,hs⟩:=DataW.trod_string ht I;refine⟨[.str s.data.toList],⟨_,rfl,?_⟩,_,_,rfl,?_,rfl,rfl⟩
    . exact hs
    . show Value.string s=Value.string ⟨s.data.toList.toArray⟩;simp
  . rename_i e ht;split at h
    case h_2=>cases h
    rename_i s' hX W;cases h;have W:0<P.cellsOf e:=az W;rcases DataW.trod_slice ht I with⟨rfl,_⟩|⟨a,len,jO,atw,rest,n,rfl,rfl,_,_,jx,oe,hel,hi,_,_⟩
    . exact⟨[.eB 0 []],⟨[],rfl,by simp,by simp⟩,_,_,rfl,⟨none,0,[],rfl,aK _,rfl,fun _=>rfl,fun h=>absurd h (Nat.lt_irrefl _)⟩,rfl,rfl⟩
    . rcases Nat.eq_zero_or_pos len with h0|xS
      . subst h0;exact⟨[.eB 0 []],⟨[],rfl,by simp,by simp⟩,_,_,rfl,⟨some a,jO,[],rfl,aU _,rfl,fun _=>rfl,fun h=>absurd h (Nat.lt_irrefl _)⟩,rfl,rfl⟩
      . have FP:∀i,i<len->∃ci,w.cells? 0 (a.add (i*P.cellsOf e)) (P.cellsOf e)=some ci/\∃y,DataW.trod enc P w 0 Dw Lc n e ci=some y:=by
         intro i eO;have:=hi i eO;rw[au H]at this;obtain⟨ci,e1,e2⟩:=Option.bind_eq_some_iff.1 this;exact⟨ci,e1,_,e2⟩
        obtain⟨c0,k1,_⟩:=FP 0 xS;obtain⟨Dx,tM⟩:=AR k1;have h00:=tM 0 W;obtain⟨b,o,NM⟩:=a;have hz:(⟨b,o,NM⟩:Addr).add (0*P.cellsOf e)=⟨b,o,NM⟩:=by rw[Nat.zero_mul];rfl
        rw[hz]at h00;have afW:(⟨b,o,NM⟩:Addr).add 0=⟨b,o,NM⟩:=rfl;rw[afW,au H]at h00;have afX:NM=none:=by
         unfold World.cell? at h00;simp only at h00;split at h00
         . split at h00
           . cases h00
           . rename_i q;cases NM with
             |none=>rfl
             |some _=>exact absurd rfl q
         . cases h00
        subst afX;obtain⟨c,B,_⟩:=Dv h00;obtain⟨rows,vs,Q,O,h3,h4,h5⟩:=Mm (e:=s') (b:=b) (o:=o) (k:=P.cellsOf e) (n:=len) (fun ci=>∃y,DataW.trod enc P w 0 Dw Lc n e ci=some y)
         (fun ci ⟨y,hy⟩=>BK d hX hy) (fun i eO=>by
          obtain⟨ci,e1,e2⟩:=FP i eO;rw[Go.WideShapes.add_plain]at e1;exact⟨ci,e1,e2⟩) c (fun _=>B) len (aK _)
        refine⟨[.eB rows.length rows.flatten],⟨rows,rfl,H,O⟩,_,_,rfl,?_,rfl,rfl⟩;rw[Q];exact⟨_,jO,vs,rfl,jx,h3,fun h=>by omega,fun _=>⟨b,o,c,rfl,B,h5⟩⟩
  . rename_i n e ht;split at h
    case h_2=>cases h
    rename_i s' hX W;cases h;have W:n*P.cellsOf e=P.cellsOf t:=aA W;obtain⟨xs,m,rfl,_,vY,Jy,hi⟩:=DataW.trod_array ht I;have key:∀(q:Nat),q<=n->∃ds,Ty.oks (List.replicate q s') ds/\iS (vU w) ds (R.drop ((n-q)*P.cellsOf e)):=by
     intro q
     induction q with
     |zero=>intro _;exact⟨[],rfl,by rw[Nat.sub_zero,W,<- vY,List.drop_length];rfl⟩
     |succ q ih=>
      intro hq;obtain⟨ds,g1,g2⟩:=ih H;have Q:=hi (n-(q+1)) H;rw[au H]at Q;obtain⟨da,f1,f2⟩:=BK d hX Q;refine⟨da++ds,⟨da,ds,rfl,f1,g1⟩,?_⟩;have e1:R.drop ((n-(q+1))*P.cellsOf e)=(R.drop ((n-(q+1))*P.cellsOf e)).take (P.cellsOf e)++R.drop ((n-q)*P.cellsOf e):=by
       have e2:(n-q)*P.cellsOf e=P.cellsOf e+(n-(q+1))*P.cellsOf e:=by
        rw[show n-q=(n-(q+1))+1 by omega,Nat.succ_mul];omega
       rw[e2,Nat.add_comm (P.cellsOf e),<- List.drop_drop,List.take_append_drop]
      rw[e1];exact o9 f2 g2
    obtain⟨ds,g1,g2⟩:=key n (aK _);refine⟨ds,g1,?_⟩;simpa using g2
  . rename_i fs ht;split at h
    case h_2=>cases h
    rename_i l n hF;split at h
    case isFalse=>cases h
    rename_i hn;cases h;obtain⟨xs,m,rfl,_,vY,Jy,hi⟩:=DataW.trod_struct ht I;have key:∀(fl:List Field) (off:Nat) (l:List Ty),vi P (GJ P d) off fl=some (l,n)->(∀f∈fl,∃y,DataW.trod enc P w 0 Dw Lc m f.type ((R.drop f.offset).take (P.cellsOf f.type))=some y)->∃ds,Ty.oks l ds/\iS (vU w) ds (R.drop off):=by
     intro fl
     induction fl with
     |nil=>
      intro off l h _;simp only[vi,aq,aF]at h;obtain⟨rfl,rfl⟩:=h;exact⟨[],rfl,by rw[hn,<- vY,List.drop_length];rfl⟩
     |cons f fl ih=>
      intro off l h hy;simp only[vi]at h;split at h
      case isFalse=>cases h
      rename_i arQ;split at h
      case h_2=>cases h
      rename_i a l2 n2 ha R9;simp only[aq,aF]at h;obtain⟨rfl,rfl⟩:=h;obtain⟨ds,g1,g2⟩:=ih _ _ R9 fun f' hf'=>hy f' (by simp[hf']);obtain⟨y,hy1⟩:=hy f (by simp);obtain⟨da,f1,f2⟩:=BK d ha hy1;refine⟨da++ds,⟨da,ds,rfl,f1,g1⟩,?_⟩;rw[arQ]at f2;have e1:R.drop off=(R.drop off).take (P.cellsOf f.type)++R.drop (off+P.cellsOf f.type):=by
       rw[<- List.drop_drop,List.take_append_drop]
      rw[e1];exact o9 f2 g2
    obtain⟨ds,g1,g2⟩:=key fs.toList 0 l hF fun f hf=>by
     obtain⟨i,hi1,AW⟩:=b6 hf;have hi3:fs[i]? =some f:=by rw[<- AW];simp at hi1;simp[hi1]
     have:=hi i f hi3;rw[au (by have:=(aW.1 hi3).1;omega)]at this;exact⟨_,this⟩
    exact⟨ds,g1,by simpa using g2⟩
  . cases h
end
end Go.Eng
