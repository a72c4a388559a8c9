/- Lemmas of the engine. No conditions. -/
import Derived.Test.YtmjggdmekboefaaGreatJointW04
import Derived.ProofKit
import Derived.OpenShut
set_option linter.unusedVariables false
set_option linter.unusedSimpArgs false
set_option linter.unusedSectionVars false
namespace Go.Eng
open Go Go.ChangeShapes Go.WideShapes
inductive Ty where
 |bool
 |int (k:IntKind)
 |str
 |eS (e:Ty)
 |agg (fs:List Ty)
 deriving Inhabited
mutual
def Ty.ok:Ty->ai->Prop
 | .bool,ds=>∃b,ds=[.bool b]
 | .int k,ds=>∃n,ds=[.int k n]/\(Lit.int k n).wf=true
 | .str,ds=>∃s,ds=[.str s]/\s.length<=maxLen
 | .eS e,ds=>∃rows:List (ai),ds=[.eo rows.length rows.flatten]/\rows.length<=maxLen/\∀r∈rows,Ty.ok e r
 | .agg fs,ds=>Ty.oks fs ds
def Ty.oks:List Ty->ai->Prop
 | [],ds=>ds=[]
 |f::fs,ds=>∃a b,ds=a++b/\Ty.ok f a/\Ty.oks fs b
end
def uS(P:Program)(ty:TypeId->Option Ty):Nat->List Field->Option (List Ty×Nat)
 |off,[]=>some ([],off)
 |off,f::fs=>if f.offset=off then(match ty f.type,uS P ty (off+P.cellsOf f.type) fs with
  |some a,some (l,n)=>some (a::l,n)
  |_,_=>none)else none
def F6(P:Program):Nat->TypeId->Option Ty
 |0,_=>none
 |d+1,t=>match P.underlying t with
  |some .bool=>some .bool
  |some (.int k)=>some (.int k)
  |some .string=>some .str
  |some (.slice e)=>match F6 P d e,Nat.blt 0 (P.cellsOf e)with
   |some x,true=>some (.eS x)
   |_,_=>none
  |some (.array n e)=>match F6 P d e,Nat.beq (n*P.cellsOf e) (P.cellsOf t)with
   |some x,true=>some (.agg (List.replicate n x))
   |_,_=>none
  |some (.struct fs)=>match uS P (F6 P d) 0 fs.toList with
   |some (l,n)=>if n=P.cellsOf t then some (.agg l)else none
   |none=>none
  |_=>none
def vB(w:World)(b:Nat):Option (Array Value):=match w.heap[b]? with
 |some (.cells c _ _)=>some c
 |_=>none
theorem T7(w:World):RU (vB w) w:=by
 intro b c q;unfold vB at q;split at q
 . rename_i c' el fz h;cases q;exact⟨el,fz,h⟩
 . cases q
theorem Ay{w:World}{a:Addr}{n:Nat}{T:List Value}(h:w.cells? 0 a n=some T):T.length=n/\∀i,i<n->w.cell? (a.add i)=T[i]?:=by
 unfold World.cells? at h;rw[aE (aS _)]at h;have hl:T.length=n:=by simpa using mapM_some_length h
 exact⟨hl,fun i hi=>mapM_some_get h i i (by simp[hi])⟩
theorem CQ{w:World}{b o:Nat}{v:Value}(h:w.cell? ⟨b,o,none⟩=some v):∃c,vB w b=some c/\c[o]? =some v:=by
 unfold World.cell? at h;unfold vB;simp only at h;split at h
 . rename_i c el fz hb;simp only[Option.isSome_none,aM,cr]at h;exact⟨c,by rw[hb],h⟩
 . cases h
section
variable{hx:Type}{enc:TypeId×Value->hx}{P:Program}{w:World}{CR:Nat->Bool}{KA:Bool}
theorem LF{e:Ty}{b o k n:Nat}(f:List Value->Prop)
  (hf:∀T,f T->∃ds,e.ok ds/\iN (vB w) ds T) (H:∀i,i<n->∃T,w.cells? 0 ⟨b,o+i*k,none⟩ k=some T/\f T) (c:Array Value) (K:0<n->vB w b=some c):
  ∀m,m<=n->∃(rows:List (ai)) (vs:List Value),rows.length=m/\(∀r∈rows,e.ok r)/\iN (vB w) rows.flatten vs/\vs.length=m*k/\∀(j:Nat) (v:Value),vs[j]? =some v->c[o+j]? =some v
 |0,_=>⟨[],[],rfl,by simp,rfl,by simp,by simp⟩
 |m+1,S=>by
  obtain⟨rows,vs,Q,R,h3,h4,h5⟩:=LF f hf H c K m G;obtain⟨T,k1,k2⟩:=H m G;obtain⟨ds,g1,g2⟩:=hf T k2;obtain⟨hl,mh⟩:=Ay k1;refine⟨rows++[ds],vs++T,by simp[Q],fun r hr=>?_,?_,?_,fun j v hj=>?_⟩
  . rcases bf.1 hr with hr|hr
    . exact R r hr
    . rw[aG]at hr;subst hr;exact g1
  . rw[List.flatten_append];exact oO h3 (by simpa using g2)
  . rw[aJ,h4,hl,Nat.succ_mul]
  . by_cases q:j<vs.length
    . rw[bB q]at hj;exact h5 j v hj
    . rw[cM G]at hj;have eM:=(aO.1 hj).1;have:=mh (j-vs.length) G;rw[hj,Go.WideShapes.add_plain]at this;obtain⟨c',e1,e2⟩:=CQ this;rw[K G]at e1;cases e1;rw[<- e2];congr 1;rw[h4];have:m*k<=j:=by omega
      omega
theorem Bm:∀(d:Nat) {t:TypeId} {cs:Ty} {fuel:Nat} {T:List Value} {x:DataW hx×List MemPlace},F6 P d t=some cs->DataW.trod enc P w 0 CR KA fuel t T=some x->∃ds,cs.ok ds/\iN (vB w) ds T
 |0,t,cs,fuel,T,x,h,_=>by simp[F6]at h
 |d+1,t,cs,fuel,T,x,h,H=>by
  unfold F6 at h;split at h
  . rename_i ht;cases h;obtain⟨b,rfl,_⟩:=DataW.trod_bool ht H;exact⟨[.bool b],⟨b,rfl⟩,_,_,rfl,rfl,rfl,rfl⟩
  . rename_i k ht;cases h;obtain⟨n,rfl,_,hw⟩:=DataW.trod_int ht H;exact⟨[.int k n],⟨n,rfl,hw⟩,_,_,rfl,rfl,rfl,rfl⟩
  . rename_i ht;cases h;obtain⟨s,rfl,_,hs⟩:=DataW.trod_string ht H;refine⟨[.str s.data.toList],⟨_,rfl,?_⟩,_,_,rfl,?_,rfl,rfl⟩
    . exact hs
    . show Value.string s=Value.string ⟨s.data.toList.toArray⟩;simp
  . rename_i e ht;split at h
    case h_2=>cases h
    rename_i es hX Y;cases h;have Y:0<P.cellsOf e:=az Y;rcases DataW.trod_slice ht H with⟨rfl,_⟩|⟨a,len,jH,asl,rest,n,rfl,rfl,_,_,jO,n5,hel,hi,_,_⟩
    . exact⟨[.eo 0 []],⟨[],rfl,by simp,by simp⟩,_,_,rfl,⟨none,0,[],rfl,aK _,rfl,fun _=>rfl,fun h=>absurd h (cZ _)⟩,rfl,rfl⟩
    . rcases Nat.eq_zero_or_pos len with h0|xA
      . subst h0;exact⟨[.eo 0 []],⟨[],rfl,by simp,by simp⟩,_,_,rfl,⟨some a,jH,[],rfl,aS _,rfl,fun _=>rfl,fun h=>absurd h (cZ _)⟩,rfl,rfl⟩
      . have KO:∀i,i<len->∃ci,w.cells? 0 (a.add (i*P.cellsOf e)) (P.cellsOf e)=some ci/\∃y,DataW.trod enc P w 0 CR KA n e ci=some y:=by
         intro i eM;have:=hi i eM;rw[au G]at this;obtain⟨ci,e1,e2⟩:=Option.bind_eq_some_iff.1 this;exact⟨ci,e1,_,e2⟩
        obtain⟨c0,k1,_⟩:=KO 0 xA;obtain⟨CS,tw⟩:=Ay k1;have h00:=tw 0 Y;obtain⟨b,o,MX⟩:=a;have hz:(⟨b,o,MX⟩:Addr).add (0*P.cellsOf e)=⟨b,o,MX⟩:=by rw[Nat.zero_mul];rfl
        rw[hz]at h00;have aeG:(⟨b,o,MX⟩:Addr).add 0=⟨b,o,MX⟩:=rfl;rw[aeG,au G]at h00;have aeH:MX=none:=by
         unfold World.cell? at h00;simp only at h00;split at h00
         . split at h00
           . cases h00
           . rename_i q;cases MX with
             |none=>rfl
             |some _=>exact absurd rfl q
         . cases h00
        subst aeH;obtain⟨c,K,_⟩:=CQ h00;obtain⟨rows,vs,Q,R,h3,h4,h5⟩:=LF (e:=es) (b:=b) (o:=o) (k:=P.cellsOf e) (n:=len) (fun ci=>∃y,DataW.trod enc P w 0 CR KA n e ci=some y)
         (fun ci ⟨y,hy⟩=>Bm d hX hy) (fun i eM=>by
          obtain⟨ci,e1,e2⟩:=KO i eM;rw[Go.WideShapes.add_plain]at e1;exact⟨ci,e1,e2⟩) c (fun _=>K) len (aK _)
        refine⟨[.eo rows.length rows.flatten],⟨rows,rfl,G,R⟩,_,_,rfl,?_,rfl,rfl⟩;rw[Q];exact⟨_,jH,vs,rfl,jO,h3,fun h=>by omega,fun _=>⟨b,o,c,rfl,K,h5⟩⟩
  . rename_i n e ht;split at h
    case h_2=>cases h
    rename_i es hX Y;cases h;have Y:n*P.cellsOf e=P.cellsOf t:=aA Y;obtain⟨xs,m,rfl,_,vG,IV,hi⟩:=DataW.trod_array ht H;have key:∀(q:Nat),q<=n->∃ds,Ty.oks (List.replicate q es) ds/\iN (vB w) ds (T.drop ((n-q)*P.cellsOf e)):=by
     intro q
     induction q with
     |zero=>intro _;exact⟨[],rfl,by rw[Nat.sub_zero,Y,<- vG,List.drop_length];rfl⟩
     |succ q ih=>
      intro hq;obtain⟨ds,g1,g2⟩:=ih G;have Q:=hi (n-(q+1)) G;rw[au G]at Q;obtain⟨da,f1,f2⟩:=Bm d hX Q;refine⟨da++ds,⟨da,ds,rfl,f1,g1⟩,?_⟩;have e1:T.drop ((n-(q+1))*P.cellsOf e)=(T.drop ((n-(q+1))*P.cellsOf e)).take (P.cellsOf e)++T.drop ((n-q)*P.cellsOf e):=by
       have e2:(n-q)*P.cellsOf e=P.cellsOf e+(n-(q+1))*P.cellsOf e:=by
        rw[show n-q=(n-(q+1))+1 by omega,Nat.succ_mul];omega
       rw[e2,Nat.add_comm (P.cellsOf e),<- List.drop_drop,List.take_append_drop]
      rw[e1];exact oO f2 g2
    obtain⟨ds,g1,g2⟩:=key n (aK _);refine⟨ds,g1,?_⟩;simpa using g2
  . rename_i fs ht;split at h
    case h_2=>cases h
    rename_i l n hF;split at h
    case isFalse=>cases h
    rename_i hn;cases h;obtain⟨xs,m,rfl,_,vG,IV,hi⟩:=DataW.trod_struct ht H;have key:∀(fl:List Field) (off:Nat) (l:List Ty),uS P (F6 P d) off fl=some (l,n)->(∀f∈fl,∃y,DataW.trod enc P w 0 CR KA m f.type ((T.drop f.offset).take (P.cellsOf f.type))=some y)->∃ds,Ty.oks l ds/\iN (vB w) ds (T.drop off):=by
     intro fl
     induction fl with
     |nil=>
      intro off l h _;simp only[uS,aq,aF]at h;obtain⟨rfl,rfl⟩:=h;exact⟨[],rfl,by rw[hn,<- vG,List.drop_length];rfl⟩
     |cons f fl ih=>
      intro off l h hy;simp only[uS]at h;split at h
      case isFalse=>cases h
      rename_i aqu;split at h
      case h_2=>cases h
      rename_i a l2 n2 ha Rf;simp only[aq,aF]at h;obtain⟨rfl,rfl⟩:=h;obtain⟨ds,g1,g2⟩:=ih _ _ Rf fun f' hf'=>hy f' (by simp[hf']);obtain⟨y,hy1⟩:=hy f (by simp);obtain⟨da,f1,f2⟩:=Bm d ha hy1;refine⟨da++ds,⟨da,ds,rfl,f1,g1⟩,?_⟩;rw[aqu]at f2;have e1:T.drop off=(T.drop off).take (P.cellsOf f.type)++T.drop (off+P.cellsOf f.type):=by
       rw[<- List.drop_drop,List.take_append_drop]
      rw[e1];exact oO f2 g2
    obtain⟨ds,g1,g2⟩:=key fs.toList 0 l hF fun f hf=>by
     obtain⟨i,Z6,AE⟩:=bW hf;have hi3:fs[i]? =some f:=by rw[<- AE];simp at Z6;simp[Z6]
     have:=hi i f hi3;rw[au (by have:=(aT.1 hi3).1;omega)]at this;exact⟨_,this⟩
    exact⟨ds,g1,by simpa using g2⟩
  . cases h
end
end Go.Eng
