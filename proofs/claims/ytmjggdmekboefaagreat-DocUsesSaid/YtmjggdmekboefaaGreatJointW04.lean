/- Lemmas of the engine. No conditions. -/
import Derived.Test.YtmjggdmekboefaaGreatJointW03
import Derived.Maps.RangeRun
set_option linter.unusedVariables false
set_option linter.unusedSimpArgs false
set_option linter.unusedSectionVars false
set_option maxRecDepth 10000
namespace Go.Eng
open Go Go.RowKit
mutual
def V.deep:V->Bool
 | .ptr (some _)=>false
 | .eS (some _) _ _ _=>false
 | .map (some _)=>false
 | .fn f a c=>uW f&&(V.pX a&&V.pX c)
 | .iface _ x=>V.deep x
 | .agg T=>V.pX T
 | .gC T=>V.pX T
 |_=>true
def V.pX:ag->Bool
 | []=>true
 |x::xs=>V.deep x&&V.pX xs
end
mutual
theorem Ck{E E':Env}(kH:∀b c,E.φ b=some c->E'.φ b=some c):∀(v:V) (v':Value),v.deep=true->dQ E v v'->dQ E' v v'
 | .bool _,_,_,r=>r
 | .int _ _,_,_,r=>r
 | .str _,_,_,r=>r
 | .ptr none,_,_,r=>r
 | .ptr (some _),_,h,_=>by simp[V.deep]at h
 | .eS none _ _ _,_,_,r=>r
 | .eS (some _) _ _ _,_,h,_=>by simp[V.deep]at h
 | .map none,_,_,r=>r
 | .map (some _),_,h,_=>by simp[V.deep]at h
 | .fn f a c,_,h,⟨f',a',c',rf,ra,rc,q⟩=>by
   simp only[V.deep,ay]at h;refine⟨f',a',c',?_,lD kH a a' h.2.1 ra,lD kH c c' h.2.2 rc,q⟩;cases f<;>first|exact rf|(simp[uW]at h;done)
 | .kz,_,_,r=>r
 | .iface _ x,_,h,⟨x',r,q⟩=>⟨x',Ck kH x x' (by simpa only[V.deep]using h) r,q⟩
 | .nilIface,_,_,r=>r
 | .agg T,_,h,⟨cs',r,q⟩=>⟨cs',lD kH T cs' (by simpa only[V.deep]using h) r,q⟩
 | .gC T,_,h,⟨cs',r,q⟩=>⟨cs',lD kH T cs' (by simpa only[V.deep]using h) r,q⟩
 | .eo _ _ _,_,_,r=>⟨me kH _ _ r.1,r.2⟩
 | .dr T,_,_,⟨b,o,c,vs,e,e1,r,q⟩=>⟨b,o,c,vs,e,kH _ _ e1,iz kH T vs r,q⟩
theorem lD{E E':Env}(kH:∀b c,E.φ b=some c->E'.φ b=some c):∀(v:ag) (v':List Value),V.pX v=true->dV E v v'->dV E' v v'
 | [],_,_,r=>r
 |x::xs,_,h,⟨y,ys,r,rs,q⟩=>by
  simp only[V.pX,ay]at h;exact⟨y,ys,Ck kH x y h.1 r,lD kH xs ys h.2 rs,q⟩
end
section
variable(fr:Nat->Option (ai))
mutual
def An:V->Option (ah×V)
 | .eS (some (m,o)) len jH jm=>match fr m with
   |some T=>match o with
    |0=>some ([T.length=len*jm],.eo false len T)
    |o+1=>some ([],.eo false len ((T.drop (o+1)).take (len*jm)))
   |none=>some ([],.eS (some (m,o)) len jH jm)
 | .ptr (some (m,o))=>match fr m with
   |some _=>none
   |none=>some ([],.ptr (some (m,o)))
 | .map (some m)=>match fr m with
   |some _=>none
   |none=>some ([],.map (some m))
 | .fn f a c=>match f with
   | .yield m=>match fr m with
     |some _=>none
     |none=>match vu a with
      |some (s',a)=>match vu c with
       |some (aj,c)=>some (s'++aj,.fn (.yield m) a c)
       |none=>none
      |none=>none
   |f=>match vu a with
    |some (s',a)=>match vu c with
     |some (aj,c)=>some (s'++aj,.fn f a c)
     |none=>none
    |none=>none
 | .iface t x=>match An x with
   |some (s',x)=>some (s',.iface t x)
   |none=>none
 | .agg T=>match vu T with
   |some (s',T)=>some (s',.agg T)
   |none=>none
 | .gC T=>match vu T with
   |some (s',T)=>some (s',.gC T)
   |none=>none
 | .bool b=>some ([],.bool b)
 | .int k n=>some ([],.int k n)
 | .str s=>some ([],.str s)
 | .ptr none=>some ([],.ptr none)
 | .eS none l c e=>some ([],.eS none l c e)
 | .map none=>some ([],.map none)
 | .kz=>some ([],.kz)
 | .nilIface=>some ([],.nilIface)
 | .eo f n T=>some ([],.eo f n T)
 | .dr T=>some ([],.dr T)
def vu:ag->Option (ah×ag)
 | []=>some ([],[])
 |x::xs=>match An x with
  |some (s',x)=>match vu xs with
   |some (aj,xs)=>some (s'++aj,x::xs)
   |none=>none
  |none=>none
end
end
def VR(fr:Nat->Option (ai))(E:Env)(φ:Nat->Option (Array Value)):Prop:=
 ∀m T,fr m=some T->∀b s,E.ι m=some (b,s)->∃c vs,φ b=some c/\iN φ T vs/\∀(j:Nat) (x:Value),vs[j]? =some x->c[s+j]? =some x
section
variable{fr:Nat->Option (ai)}{E E':Env}(hF:VR fr E E'.φ)(iS:∀m,E'.ι m=E.ι m)(ou:E'.β=E.β)(kH:∀b c,E.φ b=some c->E'.φ b=some c)
include hF iS ou kH
mutual
theorem sZ:∀(v v2:V) (s':ah) (v':Value),An fr v=some (s',v2)->(∀a∈s',a)->dQ E v v'->dQ E' v2 v'
 | .bool _,v2,s',_,h,_,r=>by simp only[An,aq,aF]at h;obtain⟨rfl,rfl⟩:=h;exact r
 | .int _ _,v2,s',_,h,_,r=>by simp only[An,aq,aF]at h;obtain⟨rfl,rfl⟩:=h;exact r
 | .str _,v2,s',_,h,_,r=>by simp only[An,aq,aF]at h;obtain⟨rfl,rfl⟩:=h;exact r
 | .ptr none,v2,s',_,h,_,r=>by simp only[An,aq,aF]at h;obtain⟨rfl,rfl⟩:=h;exact r
 | .eS none _ _ _,v2,s',_,h,_,r=>by simp only[An,aq,aF]at h;obtain⟨rfl,rfl⟩:=h;exact r
 | .map none,v2,s',_,h,_,r=>by simp only[An,aq,aF]at h;obtain⟨rfl,rfl⟩:=h;exact r
 | .kz,v2,s',_,h,_,r=>by simp only[An,aq,aF]at h;obtain⟨rfl,rfl⟩:=h;exact r
 | .nilIface,v2,s',_,h,_,r=>by simp only[An,aq,aF]at h;obtain⟨rfl,rfl⟩:=h;exact r
 | .eo f n T,v2,s',_,h,_,r=>by
   simp only[An,aq,aF]at h;obtain⟨rfl,rfl⟩:=h;exact⟨me kH _ _ r.1,r.2⟩
 | .dr T,v2,s',_,h,_,⟨b,o,c,vs,e,e1,r,q⟩=>by
   simp only[An,aq,aF]at h;obtain⟨rfl,rfl⟩:=h;exact⟨b,o,c,vs,e,kH _ _ e1,iz kH T vs r,q⟩
 | .ptr (some (m,o)),v2,s',_,h,_,⟨b,s,e,q⟩=>by
   simp only[An]at h;split at h
   . cases h
   . obtain⟨rfl,rfl⟩:=fW h;exact⟨b,s,(iS m).trans e,q⟩
 | .map (some m),v2,s',_,h,_,⟨b,e,q⟩=>by
   simp only[An]at h;split at h
   . cases h
   . obtain⟨rfl,rfl⟩:=fW h;exact⟨b,(iS m).trans e,q⟩
 | .eS (some (m,o)) len jH jm,v2,s',_,h,hA,⟨b,s,o',gp,e,q1,q2,q3,q4,q5⟩=>by
   simp only[An]at h;split at h
   . rename_i T qb;obtain⟨c,vs,k1,k2,k3⟩:=hF m T qb b s e;have key:∀(ds:ai) (us:List Value),iN E'.φ ds us->(len=0->ds=[])->(0<len->∀(j:Nat) (x:Value),us[j]? =some x->c[s+o+j]? =some x)->dQ E' (.eo false len ds) (.slice (some ⟨b,o',none⟩) len gp):=by
      intro ds us Q R h3;refine⟨⟨_,gp,us,rfl,G,Q,R,fun hp=>⟨b,o',c,rfl,k1,?_⟩⟩,fun q=>by cases q⟩;rw[q1 G];exact h3 hp
     split at h
     . obtain⟨rfl,rfl⟩:=fW h;rw[q5];have hl:T.length=len*jm:=hA _ (aG.2 rfl);refine key T vs k2 (fun z=>?_) (fun _ j x H=>by rw[Nat.add_zero];exact k3 j x H);rw[z,Nat.zero_mul]at hl;exact List.length_eq_zero_iff.1 hl
     . rename_i o;obtain⟨rfl,rfl⟩:=fW h;rw[q5];refine key _ _ (sk (ny k2)) (fun z=>by rw[z];simp) (fun _ j x H=>?_);rw[bN]at H;split at H
       . rw[bO]at H;rw[<- k3 _ x H,Nat.add_assoc]
       . cases H
   . obtain⟨rfl,rfl⟩:=fW h;exact⟨b,s,o',gp,(iS m).trans e,q1,q2,q3,by rw[ou];exact q4,q5⟩
 | .fn f a c,v2,s',_,h,hA,⟨f',a',c',rf,ra,rc,q⟩=>by
   simp only[An]at h;split at h
   . rename_i m;split at h
     . cases h
     . split at h
       case h_2=>cases h
       rename_i A1 a2 ha;split at h
       case h_2=>cases h
       rename_i B1 c2 K;obtain⟨rfl,rfl⟩:=fW h;obtain⟨l,s,e,q2⟩:=rf;exact⟨f',a',c',⟨l,s,(iS m).trans e,q2⟩,kY a a2 A1 a' ha (fun x H=>hA x (bf.2 (.inl H))) ra,kY c c2 B1 c' K (fun x H=>hA x (bf.2 (.inr H))) rc,q⟩
   . rename_i ja;split at h
     case h_2=>cases h
     rename_i A1 a2 ha;split at h
     case h_2=>cases h
     rename_i B1 c2 K;obtain⟨rfl,rfl⟩:=fW h;refine⟨f',a',c',?_,kY a a2 A1 a' ha (fun x H=>hA x (bf.2 (.inl H))) ra,kY c c2 B1 c' K (fun x H=>hA x (bf.2 (.inr H))) rc,q⟩;cases f<;>first|exact rf|exact(ja _ rfl).elim
 | .iface t x,v2,s',_,h,hA,⟨x',r,q⟩=>by
   simp only[An]at h;split at h
   . rename_i A1 x2 H;obtain⟨rfl,rfl⟩:=fW h;exact⟨x',sZ x x2 _ x' H hA r,q⟩
   . cases h
 | .agg T,v2,s',_,h,hA,⟨cs',r,q⟩=>by
   simp only[An]at h;split at h
   . rename_i A1 x2 H;obtain⟨rfl,rfl⟩:=fW h;exact⟨cs',kY T x2 _ cs' H hA r,q⟩
   . cases h
 | .gC T,v2,s',_,h,hA,⟨cs',r,q⟩=>by
   simp only[An]at h;split at h
   . rename_i A1 x2 H;obtain⟨rfl,rfl⟩:=fW h;exact⟨cs',kY T x2 _ cs' H hA r,q⟩
   . cases h
theorem kY:∀(v v2:ag) (s':ah) (v':List Value),vu fr v=some (s',v2)->(∀a∈s',a)->dV E v v'->dV E' v2 v'
 | [],v2,s',_,h,_,r=>by simp only[vu,aq,aF]at h;obtain⟨rfl,rfl⟩:=h;exact r
 |x::xs,v2,s',_,h,hA,⟨y,ys,r,rs,q⟩=>by
  simp only[vu]at h;split at h
  case h_2=>cases h
  rename_i A1 x2 H;split at h
  case h_2=>cases h
  rename_i B1 Mc BI;obtain⟨rfl,rfl⟩:=fW h;exact⟨y,ys,sZ x x2 A1 y H (fun a ha=>hA a (bf.2 (.inl ha))) r,kY xs Mc B1 ys BI (fun a ha=>hA a (bf.2 (.inr ha))) rs,q⟩
end
end
def Cl:O->Option (ai)
 | .deep T=>some T
 | .own k ks=>some (ks.map (.int k))
 | .cells T=>ij T
 |_=>none
section
variable(fr:Nat->Option (ai))
def Cm:I V->Option (ah×I V)
 | .nil=>some ([],.nil)
 | .node v l r=>match(match v with
    |none=>some ([],none)
    |some v=>match An fr v with
     |some (s',v)=>some (s',some v)
     |none=>none:Option (ah×Option V))with
   |some (s',v)=>match Cm l with
    |some (aj,l)=>match Cm r with
     |some (be,r)=>some (s'++(aj++be),.node v l r)
     |none=>none
    |none=>none
   |none=>none
def Oq:List (V×V×Nat)->Option (ah×List (V×V×Nat))
 | []=>some ([],[])
 |x::xs=>match An fr x.1 with
  |some (s',k)=>match An fr x.2.1 with
   |some (aj,v)=>match Oq xs with
    |some (be,xs)=>some (s'++(aj++be),(k,v,x.2.2)::xs)
    |none=>none
   |none=>none
  |none=>none
def F8:O->Option (ah×O)
 | .cells T=>match vu fr T with
   |some (s',T)=>some (s',.cells T)
   |none=>none
 | .map X c=>match Oq fr X with
   |some (s',X)=>some (s',.map X c)
   |none=>none
 | .nq s p=>some ([],.nq s p)
 | .ints k ks=>some ([],.ints k ks)
 | .own k ks=>some ([],.own k ks)
 | .deep T=>some ([],.deep T)
 | .tr e f s=>some ([],.tr e f s)
 | .Az t s x=>match An fr x with
   |some (s',x)=>some (s',.Az t s x)
   |none=>none
 | .gh k X=>some ([],.gh k X)
 | .ow k X=>some ([],.ow k X)
 | .tL=>some ([],.tL)
 | .loop st pe F ps a b=>match Cm fr F with
   |some (s',F)=>some (s',.loop st pe F ps a b)
   |none=>none
def D6:I O->Option (ah×I O)
 | .nil=>some ([],.nil)
 | .node v l r=>match(match v with
    |none=>some ([],none)
    |some v=>match F8 fr v with
     |some (s',v)=>some (s',some v)
     |none=>none:Option (ah×Option O))with
   |some (s',v)=>match D6 l with
    |some (aj,l)=>match D6 r with
     |some (be,r)=>some (s'++(aj++be),.node v l r)
     |none=>none
    |none=>none
   |none=>none
def Ot:List (FuncId×ag×ag)->Option (ah×List (FuncId×ag×ag))
 | []=>some ([],[])
 |x::xs=>match vu fr x.2.1 with
  |some (s',c)=>match vu fr x.2.2 with
   |some (aj,a)=>match Ot xs with
    |some (be,xs)=>some (s'++(aj++be),(x.1,c,a)::xs)
    |none=>none
   |none=>none
  |none=>none
end
def VS(h:I O)(ms:List Nat)(m:Nat):Option (ai):=match ms.any (Nat.beq m)with
 |true=>match h.get m with
  |some o=>Cl o
  |none=>none
 |false=>none
def KN(h:I O):List Nat->Bool
 | []=>true
 |m::ms=>Nat.blt m fV&&((match h.get m with|some o=>(match Cl o with|some _=>true|none=>false)|none=>false)&&KN h ms)
def xX:List Nat->I O->I O
 | [],h=>h
 |m::ms,h=>xX ms (h.set m none)
def M5(ms:List Nat)(s:St):Option (ah×St):=match KN s.h ms with
 |true=>match Cm (VS s.h ms) s.F with
  |some (s',F)=>match D6 (VS s.h ms) s.h with
   |some (aj,h)=>match Ot (VS s.h ms) s.gZ with
    |some (be,d)=>some (s'++(aj++be),{ F:=F,h:=xX ms h,n:=s.n,gZ:=d })
    |none=>none
   |none=>none
  |none=>none
 |false=>none
theorem vf{fr:Nat->Option (ai)}:∀(t t2:I V) (s':ah),Cm fr t=some (s',t2)->∀k v2,t2.get k=some v2->∃v aj,t.get k=some v/\An fr v=some (aj,v2)/\∀b∈aj,b∈s'
 | .nil,t2,s',h,k,v2,Y=>by simp only[Cm,aq,aF]at h;obtain⟨_,rfl⟩:=h;simp[I.get]at Y
 | .node v l r,t2,s',h,k,v2,Y=>by
   simp only[Cm]at h;split at h
   case h_2=>cases h
   rename_i A1 v1 Q;split at h
   case h_2=>cases h
   rename_i B1 l1 hl;split at h
   case h_2=>cases h
   rename_i C1 r1 hr;obtain⟨rfl,rfl⟩:=fW h;simp only[I.get]at Y ⊢;split at Y
   . subst Y;cases v with
     |none=>simp at Q
     |some v=>
      simp only at Q;split at Q
      . rename_i A0 v0 h0;simp only[aF,aq]at Q;obtain⟨rfl,rfl⟩:=Q;exact⟨v,A0,rfl,h0,fun b hb=>bf.2 (.inl hb)⟩
      . cases Q
   . rename_i k;split at Y
     . rename_i R8;obtain⟨v,aj,q1,q2,q3⟩:=vf l l1 B1 hl _ v2 Y;exact⟨v,aj,q1,q2,fun b hb=>bf.2 (.inr (bf.2 (.inl (q3 b hb))))⟩
     . rename_i R8;obtain⟨v,aj,q1,q2,q3⟩:=vf r r1 C1 hr _ v2 Y;exact⟨v,aj,q1,q2,fun b hb=>bf.2 (.inr (bf.2 (.inr (q3 b hb))))⟩
theorem zf{fr:Nat->Option (ai)}:∀(t t2:I O) (s':ah),D6 fr t=some (s',t2)->∀k v2,t2.get k=some v2->∃v aj,t.get k=some v/\F8 fr v=some (aj,v2)/\∀b∈aj,b∈s'
 | .nil,t2,s',h,k,v2,Y=>by simp only[D6,aq,aF]at h;obtain⟨_,rfl⟩:=h;simp[I.get]at Y
 | .node v l r,t2,s',h,k,v2,Y=>by
   simp only[D6]at h;split at h
   case h_2=>cases h
   rename_i A1 v1 Q;split at h
   case h_2=>cases h
   rename_i B1 l1 hl;split at h
   case h_2=>cases h
   rename_i C1 r1 hr;obtain⟨rfl,rfl⟩:=fW h;simp only[I.get]at Y ⊢;split at Y
   . subst Y;cases v with
     |none=>simp at Q
     |some v=>
      simp only at Q;split at Q
      . rename_i A0 v0 h0;simp only[aF,aq]at Q;obtain⟨rfl,rfl⟩:=Q;exact⟨v,A0,rfl,h0,fun b hb=>bf.2 (.inl hb)⟩
      . cases Q
   . rename_i k;split at Y
     . obtain⟨v,aj,q1,q2,q3⟩:=zf l l1 B1 hl _ v2 Y;exact⟨v,aj,q1,q2,fun b hb=>bf.2 (.inr (bf.2 (.inl (q3 b hb))))⟩
     . obtain⟨v,aj,q1,q2,q3⟩:=zf r r1 C1 hr _ v2 Y;exact⟨v,aj,q1,q2,fun b hb=>bf.2 (.inr (bf.2 (.inr (q3 b hb))))⟩
section
variable{fr:Nat->Option (ai)}{E E':Env}(hF:VR fr E E'.φ)(iS:∀m,E'.ι m=E.ι m)(ou:E'.β=E.β)(kH:∀b c,E.φ b=some c->E'.φ b=some c)
include hF iS ou kH
theorem Ho:∀(X yC:List (V×V×Nat)) (s':ah) (l:List MapEntry),Oq fr X=some (s',yC)->(∀a∈s',a)->kC E X l->kC E' yC l
 | [],yC,s',_,h,_,r=>by simp only[Oq,aq,aF]at h;obtain⟨rfl,rfl⟩:=h;exact r
 |x::xs,yC,s',_,h,hA,⟨y,ys,r1,r2,r3,rs,q⟩=>by
  simp only[Oq]at h;split at h
  case h_2=>cases h
  rename_i A1 k Y;split at h
  case h_2=>cases h
  rename_i B1 v hv;split at h
  case h_2=>cases h
  rename_i C1 Mc BI;obtain⟨rfl,rfl⟩:=fW h;exact⟨y,ys,sZ hF iS ou kH _ _ _ _ Y (fun a ha=>hA a (by simp[ha])) r1,sZ hF iS ou kH _ _ _ _ hv (fun a ha=>hA a (by simp[ha])) r2,r3,Ho xs Mc C1 ys BI (fun a ha=>hA a (by simp[ha])) rs,q⟩
theorem R9{w:World}{b s:Nat}:∀(o o2:O) (s':ah),F8 fr o=some (s',o2)->(∀a∈s',a)->nA E w b s o->nA E' w b s o2
 | .cells T,o2,s',h,hA,⟨c,el,fz,Q,R,h3,h4⟩=>by
   simp only[F8]at h;split at h
   case h_2=>cases h
   rename_i A1 VF qb;obtain⟨rfl,rfl⟩:=fW h;obtain⟨vs,k1,k2⟩:=rq.1 h4;exact⟨c,el,fz,Q,by rw[ou];exact R,h3,rq.2 ⟨vs,kY hF iS ou kH _ _ _ _ qb hA k1,k2⟩⟩
 | .map X cl,o2,s',h,hA,⟨hs,fG,Q,R⟩=>by
   simp only[F8]at h;split at h
   case h_2=>cases h
   rename_i A1 yC Vm;obtain⟨rfl,rfl⟩:=fW h;exact⟨hs,fG,Q,Ho hF iS ou kH _ _ _ _ Vm hA R⟩
 | .nq st p,o2,s',h,_,r=>by simp only[F8,aq,aF]at h;obtain⟨rfl,rfl⟩:=h;exact r
 | .ints k ks,o2,s',h,_,⟨c,el,fz,Q,R,h3⟩=>by simp only[F8,aq,aF]at h;obtain⟨rfl,rfl⟩:=h;exact⟨c,el,fz,Q,by rw[ou];exact R,h3⟩
 | .own k ks,o2,s',h,_,⟨c,el,fz,Q,R,h3,h4⟩=>by simp only[F8,aq,aF]at h;obtain⟨rfl,rfl⟩:=h;exact⟨c,el,fz,Q,by rw[ou];exact R,h3,vD h4⟩
 | .deep T,o2,s',h,_,⟨c,el,fz,vs,Q,R,h3,h4,h5⟩=>by simp only[F8,aq,aF]at h;obtain⟨rfl,rfl⟩:=h;exact⟨c,el,fz,vs,Q,by rw[ou];exact R,h3,iz kH _ _ h4,h5⟩
 | .tr el zO t,o2,s',h,_,⟨c,fz,xs,Q,h0,R,h3⟩=>by simp only[F8,aq,aF]at h;obtain⟨rfl,rfl⟩:=h;exact⟨c,fz,xs,Q,h0,by rw[ou];exact R,h3⟩
 | .Az t self x,o2,s',h,hA,⟨hs,x',fz,Q,R,h3,h4⟩=>by
   simp only[F8]at h;split at h
   case h_2=>cases h
   rename_i A1 x2 H;obtain⟨rfl,rfl⟩:=fW h;exact⟨hs,x',fz,Q,by rw[ou];exact R,h3,sZ hF iS ou kH _ _ _ _ H hA h4⟩
 | .gh kk X,o2,s',h,_,⟨hs,fG,cl,Q,R⟩=>by simp only[F8,aq,aF]at h;obtain⟨rfl,rfl⟩:=h;exact⟨hs,fG,cl,Q,R.mono kH⟩
 | .ow kk X,o2,s',h,_,⟨hs,fG,Q,R⟩=>by simp only[F8,aq,aF]at h;obtain⟨rfl,rfl⟩:=h;exact⟨hs,fG,Q,R.mono kH⟩
 | .tL,o2,s',h,_,r=>by simp only[F8,aq,aF]at h;obtain⟨rfl,rfl⟩:=h;exact r
 | .loop st pe F ps a b',o2,s',h,hA,⟨r,Q,R,h3,h4,h5,h6,h7,h8⟩=>by
   simp only[F8]at h;split at h
   case h_2=>cases h
   rename_i A1 I4 vb;obtain⟨rfl,rfl⟩:=fW h;refine⟨r,Q,R,h3,h4,h5,h6,fun t v e=>?_,h8⟩;obtain⟨v0,aj,q1,q2,q3⟩:=vf _ _ _ vb t v e;obtain⟨v',k1,k2⟩:=h7 t v0 q1;exact⟨v',k1,sZ hF iS ou kH _ _ _ _ q2 (fun x H=>hA x (q3 x H)) k2⟩
theorem Hp:∀(xs Mc:List (FuncId×ag×ag)) (s':ah) (ys:List Deferred),Ot fr xs=some (s',Mc)->(∀a∈s',a)->vJ E xs ys->vJ E' Mc ys
 | [],Mc,s',_,h,_,r=>by simp only[Ot,aq,aF]at h;obtain⟨rfl,rfl⟩:=h;exact r
 |x::xs,Mc,s',_,h,hA,⟨d,ys,r1,rs,q⟩=>by
  simp only[Ot]at h;split at h
  case h_2=>cases h
  rename_i A1 c K;split at h
  case h_2=>cases h
  rename_i B1 a ha;split at h
  case h_2=>cases h
  rename_i C1 xs3 BI;obtain⟨rfl,rfl⟩:=fW h;refine⟨d,ys,?_,Hp xs xs3 C1 ys BI (fun a ha=>hA a (by simp[ha])) rs,q⟩;rcases r1 with⟨H,c',a',q1,q2,q3⟩|⟨H,m,b,s,q1,q2,q3⟩
  . exact .inl ⟨H,c',a',kY hF iS ou kH _ _ _ _ K (fun a ha=>hA a (by simp[ha])) q1,kY hF iS ou kH _ _ _ _ ha (fun a ha=>hA a (by simp[ha])) q2,q3⟩
  . refine .inr ⟨H,m,b,s,?_,(iS m).trans q2,q3⟩;have q1:x.2.2=[V.map (some m)]:=q1;rw[q1]at ha;simp only[vu,An]at ha;cases S:fr m with
    |some _=>rw[S]at ha;cases ha
    |none=>rw[S]at ha;simp only[aq,aF]at ha;exact ha.2.symm
end
theorem VT{fr:Nat->Option (ai)}{o o2:O}{s':ah}(h:F8 fr o=some (s',o2)):o2.wr=o.wr:=by
 cases o<;>simp only[F8]at h<;>(try split at h)<;>first|(simp only[aq,aF]at h;obtain⟨_,rfl⟩:=h;rfl)|cases h
theorem D7:∀(ms:List Nat) (h:I O) (k:Nat),(∀m∈ms,m<fV)->(xX ms h).get k=if k∈ms then none else h.get k
 | [],h,k,_=>by simp[xX]
 |m::ms,h,k,ht=>by
  rw[xX,D7 ms _ k fun m S=>ht m (by simp[S]),I.fF _ _ _ (ht m (by simp))];by_cases Q:k∈ms
  . simp[Q]
  . by_cases R:k=m
    . simp[R]
    . simp[Q,R]
theorem Cn{h:I O}:∀{ms:List Nat},KN h ms=true->∀m∈ms,m<fV/\∃o T,h.get m=some o/\Cl o=some T
 | [],_,m,S=>by simp at S
 |x::ms,h,m,S=>by
  simp only[KN,ay]at h;rcases aD.1 S with rfl|S
  . refine⟨az h.1,?_⟩;have:=h.2.1;split at this
    . rename_i o ho;split at this
      . rename_i T K;exact⟨o,T,ho,K⟩
      . cases this
    . cases this
  . exact Cn h.2.2 m S
theorem Ou{h:I O}{ms:List Nat}{m:Nat}{T:ai}(e:VS h ms m=some T):m∈ms/\∃o,h.get m=some o/\Cl o=some T:=by
 unfold VS at e;split at e
 . rename_i ha;split at e
   . rename_i o ho;obtain⟨x,H,q⟩:=List.any_eq_true.1 ha;have:=aA q;subst this;exact⟨H,o,ho,e⟩
   . cases e
 . cases e
theorem A8{o:O}{T:ai}(h:Cl o=some T):o.wr=true:=by cases o<;>simp[Cl]at h<;>rfl
theorem Hq{E:Env}{w:World}{b s:Nat}{o:O}{T:ai}(h:Cl o=some T)(r:nA E w b s o):∃c el fz vs,w.heap[b]? =some (.cells c el fz)/\iN E.φ T vs/\∀(j:Nat) (x:Value),vs[j]? =some x->c[s+j]? =some x:=by
 cases o<;>simp only[Cl,aq,reduceCtorEq]at h
 . obtain⟨c,el,fz,Q,_,_,h4⟩:=r;obtain⟨vs,k1,k2⟩:=rq.1 h4;exact⟨c,el,fz,vs,Q,sw h k1,k2⟩
 . rename_i k ks;subst h;obtain⟨c,el,fz,Q,_,_,h4⟩:=r;have e:D.fN (ks.map (.int k))=ks.map (.int k):=by rw[D.ga,List.map_map];rfl
   obtain⟨vs,k1,k2⟩:=(nC (fun x H=>by obtain⟨_,_,rfl⟩:=bQ.1 H;rfl)).1 (by rw[e];exact h4:lP E s (D.fN (ks.map (.int k))) c);exact⟨c,el,fz,vs,Q,k1,k2⟩
 . subst h;obtain⟨c,el,fz,vs,Q,_,_,h4,h5⟩:=r;exact⟨c,el,fz,vs,Q,h4,h5⟩
open Classical in
noncomputable def vw(E:Env)(fr:Nat->Option (ai))(w:World)(b:Nat):Option (Array Value):=if ∃m s,(fr m).isSome=true/\E.ι m=some (b,s)then(match w.heap[b]? with|some (.cells c _ _)=>some c|_=>none)else E.φ b
theorem o8{N n0:Nat}{ms:List Nat}{s s2:St}{s':ah}{E:Env}{a:Act}{w:World}(e:M5 ms s=some (s',s2))(hA:∀x∈s',x)(r:jT E n0 s a w)(hn:N<=s.n):
  ∃E2,jT E2 n0 s2 a w/\kK N E s.h w E2 s2.h w/\N<=s2.n/\(∀m,E2.ι m=E.ι m):=by
 unfold M5 at e;split at e
 case h_2=>cases e
 rename_i Sa;split at e
 case h_2=>cases e
 rename_i A1 I4 vb;split at e
 case h_2=>cases e
 rename_i B1 R hh;split at e
 case h_2=>cases e
 rename_i C1 d2 BZ;simp only[aq,aF]at e;obtain⟨rfl,rfl⟩:=e;have Sa:=Cn Sa;generalize hFd:VS s.h ms=fr at *;have g:=r.good;have VU:∀m T,fr m=some T->m∈ms/\∃o,s.h.get m=some o/\Cl o=some T:=fun m T q=>Ou (h:=s.h) (ms:=ms) (by rw[hFd];exact q);have hmF:∀m,m∈ms->(fr m).isSome=true:=by
  intro m S;obtain⟨_,o,T,Q,h3⟩:=Sa m S;rw[<- hFd];unfold VS;rw[show ms.any (Nat.beq m)=true from List.any_eq_true.2 ⟨m,S,Nat.beq_refl m⟩,Q];simp only[h3];rfl
 have qf:∀b c,E.φ b=some c->vw E fr w b=some c:=by
  intro b c q;unfold vw;rw[aB];. exact q
  rintro⟨m,A,Q,h3⟩;obtain⟨T,qb⟩:=bA.1 Q;obtain⟨_,o,k1,k2⟩:=VU m T qb;exact(g.iu b c q).2 m A ⟨o,k1,A8 k2⟩ h3
 let E2:Env:=⟨E.ι,E.β,vw E fr w⟩
 have hFz:VR fr E E2.φ:=by
  intro m T qb b A hb;obtain⟨_,o,k1,k2⟩:=VU m T qb;obtain⟨b',t,q1,q2⟩:=g.rel m o k1;rw[hb]at q1;cases q1;obtain⟨c,el,fz,vs,p1,p2,p3⟩:=Hq k2 q2;refine⟨c,vs,?_,iz qf _ _ p2,p3⟩;show vw E fr w b=some c;unfold vw;rw[aE ⟨m,A,by rw[qb];rfl,hb⟩,p1]
 have hA1:∀x∈A1,x:=fun x H=>hA x (by simp[H]);have hB1:∀x∈B1,x:=fun x H=>hA x (by simp[H]);have hC1:∀x∈C1,x:=fun x H=>hA x (by simp[H]);have lq:∀k o2,(xX ms R).get k=some o2->k∉ms/\∃o aj,s.h.get k=some o/\F8 fr o=some (aj,o2)/\∀b∈aj,b:=by
  intro k o2 q;rw[D7 ms R k fun m S=>(Sa m S).1]at q;split at q
  . cases q
  . rename_i Y;obtain⟨o,aj,q1,q2,q3⟩:=zf _ _ _ hh k o2 q;exact⟨Y,o,aj,q1,q2,fun b hb=>hB1 b (q3 b hb)⟩
 have LK:∀k,eL (xX ms R) k->k∉ms/\eL s.h k:=by
  rintro k ⟨o2,q1,q2⟩;obtain⟨Y,o,aj,p1,p2,_⟩:=lq k o2 q1;exact⟨Y,o,p1,(VT p2).symm.trans q2⟩
 have ED:∀k,(xX ms R).get k≠none->s.h.get k≠none:=by
  intro k q;obtain⟨o2,q⟩:=bw.1 q;obtain⟨_,o,_,p1,_⟩:=lq k o2 q;rw[p1];simp
 have pP:Good E2 (xX ms R) w:=by
  refine⟨fun m o2 S=>?_,fun m m' b t t' ja S qe e1 e2=>g.inj m m' b t t' ja (LK m S).2 (ED m' qe) e1 e2,g.oy,g.kg,fun b c q=>?_⟩
  . obtain⟨_,o,aj,p1,p2,p3⟩:=lq m o2 S;obtain⟨b,t,q1,q2⟩:=g.rel m o p1;exact⟨b,t,q1,R9 (E':=E2) hFz (fun _=>rfl) rfl qf o o2 aj p2 p3 q2⟩
  . have q:vw E fr w b=some c:=q;unfold vw at q;split at q
    . rename_i KO;obtain⟨m,t,Q,h3⟩:=KO;obtain⟨T,qb⟩:=bA.1 Q;obtain⟨hms,o,k1,k2⟩:=VU m T qb;refine⟨?_,fun m' t' qe e1=>?_⟩
      . split at q
        . rename_i c' el fz K;cases q;exact⟨el,fz,K⟩
        . cases q
      . obtain⟨hnm,hw'⟩:=LK m' qe;exact g.inj m m' b t t' (fun z=>hnm (z▸hms)) ⟨o,k1,A8 k2⟩ hw'.live h3 e1
    . exact⟨(g.iu b c q).1,fun m' t' qe=>(g.iu b c q).2 m' t' (LK m' qe).2⟩
 refine⟨E2,⟨pP,r.qd,fun t v2 hv=>?_,r.size,Hp (E':=E2) hFz (fun _=>rfl) rfl qf _ _ _ _ BZ hC1 r.gZ⟩,⟨fun m b t _ q=>⟨q,rfl⟩,fun _ _=>rfl,qf,pP,aK _,rfl,rfl,rfl,fun _ _ _=>rfl,fun m b t S q _=>⟨m,t,ED m S,q,fun z=>(LK m z).2⟩,fun b c q=>?_⟩,hn,fun _=>rfl⟩
 . obtain⟨v,aj,q1,q2,q3⟩:=vf _ _ _ vb t v2 hv;obtain⟨v',k1,k2⟩:=r.F t v q1;exact⟨v',k1,sZ (E':=E2) hFz (fun _=>rfl) rfl qf _ _ _ _ q2 (fun x H=>hA1 x (q3 x H)) k2⟩
 . have q:vw E fr w b=some c:=q;unfold vw at q;split at q
   . rename_i KO;obtain⟨m,t,Q,h3⟩:=KO;obtain⟨T,qb⟩:=bA.1 Q;obtain⟨_,o,k1,k2⟩:=VU m T qb;exact .inr (.inr ⟨m,t,⟨o,k1,A8 k2⟩,h3⟩)
   . exact .inl q
theorem VV{P:Program}{N n0:Nat}{c:Code}{s s2:St}{s':ah}{h1:Exit->St->Prop}(ms:List Nat)(e:M5 ms s=some (s',s2))(hA:∀x∈s',x)(h:TG P N n0 c s2 h1):TG P N n0 c s h1:=by
 intro E a w hc r hn k;obtain⟨E2,r2,u2,o4,_⟩:=o8 e hA r hn;exact h E2 a w hc r2 o4 fun y A E' a' w' q u nV r'=>k y A E' a' w' q (u2.trans u) nV r'
def D8(h:I O):List Nat->Option (I O)
 | []=>some h
 |m::r=>match h.get m with
  |some (.cells T)=>match ij T with
   |some ds=>match Nat.blt m fV with
    |true=>D8 (h.set m (some (.deep ds))) r
    |false=>none
   |none=>none
  |some (.own k ks)=>match Nat.blt m fV with
   |true=>D8 (h.set m (some (.deep (ks.map (.int k))))) r
   |false=>none
  |_=>none
section
variable{E:Env}{w:World}{b s:Nat}
theorem o9{h:I O}{w:World}{m:Nat}{o o2:O}(ht:m<fV)(S:h.get m=some o)(hw:o.wr=true)(ho:∀b s,E.ι m=some (b,s)->nA E w b s o->nA E w b s o2)(g:Good E h w):
  Good E (h.set m (some o2)) w/\∀j,((h.set m (some o2)).get j≠none↔h.get j≠none)/\(eL (h.set m (some o2)) j->eL h j):=by
 have lq:∀j,(h.set m (some o2)).get j=if j=m then some o2 else h.get j:=fun j=>I.fF _ _ _ ht
 have ED:∀j,((h.set m (some o2)).get j≠none↔h.get j≠none)/\(eL (h.set m (some o2)) j->eL h j):=by
  intro j;rw[lq];by_cases q:j=m
  . subst q;rw[aE rfl,S];exact⟨by simp,fun _=>⟨_,S,hw⟩⟩
  . rw[aB q];exact⟨Iff.rfl,fun z=>pA ht z q⟩
 refine⟨⟨fun j o' hj=>?_,fun j j' b s A ja hj w7 e1 e2=>g.inj j j' b s A ja ((ED j).2 hj) ((ED j').1.1 w7) e1 e2,g.oy,g.kg,fun b c q=>⟨g.fz b c q,fun m' s qe=>(g.iu b c q).2 m' s ((ED m').2 qe)⟩⟩,ED⟩;rw[lq]at hj;split at hj
 . rename_i q;subst q;obtain rfl:=eB hj;obtain⟨b,s,Q,R⟩:=g.rel j _ S;exact⟨b,s,Q,ho b s Q R⟩
 . exact g.rel j o' hj
theorem Jm{T:ag}{ds:ai}(hd:ij T=some ds)(r:nA E w b s (.cells T)):nA E w b s (.deep ds):=by
 obtain⟨c,el,fz,Q,R,h3,h4⟩:=r;obtain⟨vs,k1,k2⟩:=rq.1 h4;exact⟨c,el,fz,vs,Q,R,h3,sw hd k1,k2⟩
theorem Ov{k:IntKind}{ks:List Int}(r:nA E w b s (.own k ks)):nA E w b s (.deep (ks.map (.int k))):=by
 obtain⟨c,el,fz,Q,R,h3,h4⟩:=r;have e:D.fN (ks.map (.int k))=ks.map (.int k):=by rw[D.ga,List.map_map];rfl
 obtain⟨vs,k1,k2⟩:=(nC (fun x H=>by obtain⟨_,_,rfl⟩:=bQ.1 H;rfl)).1 (by rw[e];exact h4:lP E s (D.fN (ks.map (.int k))) c);exact⟨c,el,fz,vs,Q,R,h3,k1,k2⟩
end
theorem pY{E:Env}{w:World}:∀(l:List Nat) (h R:I O),D8 h l=some R->Good E h w->Good E R w/\∀m,(R.get m≠none↔h.get m≠none)/\(eL R m->eL h m)
 | [],h,R,e,g=>by simp only[D8,aq]at e;subst e;exact⟨g,fun m=>⟨Iff.rfl,id⟩⟩
 |m::r,h,R,e,g=>by
  unfold D8 at e;split at e
  . rename_i T S;split at e
    case h_2=>cases e
    rename_i ds hd;split at e
    case h_2=>cases e
    rename_i ht;obtain⟨g1,k1⟩:=o9 (az ht) S rfl (fun b s _ q=>Jm hd q) g;obtain⟨g2,k2⟩:=pY r _ R e g1;exact⟨g2,fun j=>⟨(k2 j).1.trans (k1 j).1,fun z=>(k1 j).2 ((k2 j).2 z)⟩⟩
  . rename_i k ks S;split at e
    case h_2=>cases e
    rename_i ht;obtain⟨g1,k1⟩:=o9 (az ht) S rfl (fun b s _ q=>Ov q) g;obtain⟨g2,k2⟩:=pY r _ R e g1;exact⟨g2,fun j=>⟨(k2 j).1.trans (k1 j).1,fun z=>(k1 j).2 ((k2 j).2 z)⟩⟩
  . cases e
def Co(l:List Nat)(s:St):Option St:=match D8 s.h l with
 |some h=>some { s with h:=h }
 |none=>none
section
variable{P:Program}{N n0:Nat}{c:Code}{s:St}
theorem Ow{R:I O}{h1:Exit->St->Prop}(hg:∀E w,Good E s.h w->Good E R w/\∀m,(R.get m≠none↔s.h.get m≠none)/\(eL R m->eL s.h m))(h:TG P N n0 c { s with h:=R } h1):TG P N n0 c s h1:=by
 intro E a w hc r hn k;obtain⟨g2,k2⟩:=hg E w r.good;have u:kK N E s.h w E R w:=⟨fun _ _ _ _ e=>⟨e,rfl⟩,fun _ _=>rfl,fun _ _ q=>q,g2,aK _,rfl,rfl,rfl,fun _ _ _=>rfl,fun m b s1 S e1 _=>⟨m,s1,(k2 m).1.1 S,e1,(k2 m).2⟩,fun _ _ q=>.inl q⟩;exact h E a w hc ⟨g2,r.qd,r.F,r.size,r.gZ⟩ hn fun y A E' a' w' q u' nV r'=>k y A E' a' w' q (u.trans u') nV r'
theorem Sb{s2:St}{h1:Exit->St->Prop}(l:List Nat)(e:Co l s=some s2)(h:TG P N n0 c s2 h1):TG P N n0 c s h1:=by
 unfold Co at e;split at e
 case h_2=>cases e
 rename_i R hh;obtain rfl:=eB e;exact Ow (fun E w g=>pY l s.h R hh g) h
end
theorem Ml{E:Env}{w:World}{b s:Nat}{c:Nat}(kd:Option IntKind)(r:nA E w b s (.map [] c)):nA E w b s (.gh kd []):=by
 obtain⟨hs,fG,Q,R⟩:=r;have:fG.toList=[]:=R;refine⟨hs,fG,c,Q,⟨⟨[],.refl _,by rw[this];rfl⟩,by simp,by simp,by rw[this];simp,by rw[this];simp⟩⟩
def Ox(h:I O):List (Nat×Option IntKind)->Option (I O)
 | []=>some h
 |(m,kd)::r=>match h.get m with
  |some (.map [] _)=>match Nat.blt m fV with
   |true=>Ox (h.set m (some (.gh kd []))) r
   |false=>none
  |_=>none
theorem D9{E:Env}{w:World}:∀(l:List (Nat×Option IntKind)) (h R:I O),Ox h l=some R->Good E h w->Good E R w/\∀m,(R.get m≠none↔h.get m≠none)/\(eL R m->eL h m)
 | [],h,R,e,g=>by simp only[Ox,aq]at e;subst e;exact⟨g,fun m=>⟨Iff.rfl,id⟩⟩
 |(m,kd)::r,h,R,e,g=>by
  unfold Ox at e;split at e
  case h_2=>cases e
  rename_i c S;split at e
  case h_2=>cases e
  rename_i ht;obtain⟨g1,k1⟩:=o9 (az ht) S rfl (fun b s _ q=>Ml kd q) g;obtain⟨g2,k2⟩:=D9 r _ R e g1;exact⟨g2,fun j=>⟨(k2 j).1.trans (k1 j).1,fun z=>(k1 j).2 ((k2 j).2 z)⟩⟩
def VW(l:List (Nat×Option IntKind))(s:St):Option St:=match Ox s.h l with
 |some h=>some { s with h:=h }
 |none=>none
theorem VX{P:Program}{N n0:Nat}{c:Code}{s s2:St}{h1:Exit->St->Prop}(l:List (Nat×Option IntKind))(e:VW l s=some s2)(h:TG P N n0 c s2 h1):TG P N n0 c s h1:=by
 unfold VW at e;split at e
 case h_2=>cases e
 rename_i R hh;obtain rfl:=eB e;exact Ow (fun E w g=>D9 l s.h R hh g) h
def Mm:List (List Nat)->St->Option (ah×St)
 | [],s=>some ([],s)
 |ms::r,s=>match M5 ms s with
  |some (s',s)=>match Mm r s with
   |some (aj,s)=>some (s'++aj,s)
   |none=>none
  |none=>none
theorem Cp{N n0:Nat}{w:World}{a:Act}:∀(l:List (List Nat)) {s s2:St} {s':ah} {E:Env},Mm l s=some (s',s2)->(∀x∈s',x)->jT E n0 s a w->N<=s.n->
  ∃E2,jT E2 n0 s2 a w/\kK N E s.h w E2 s2.h w/\N<=s2.n/\(∀m,E2.ι m=E.ι m)
 | [],s,s2,s',E,e,_,r,hn=>by
   simp only[Mm,aq,aF]at e;obtain⟨rfl,rfl⟩:=e;exact⟨E,r,.refl r.good,hn,fun _=>rfl⟩
 |ms::l,s,s2,s',E,e,hA,r,hn=>by
  simp only[Mm]at e;split at e
  case h_2=>cases e
  rename_i A1 s1 Q;split at e
  case h_2=>cases e
  rename_i B1 s3 h3;obtain⟨rfl,rfl⟩:=fW e;obtain⟨E1,r1,u1,n1,i1⟩:=o8 Q (fun x H=>hA x (by simp[H])) r hn;obtain⟨E2,r2,u2,n2,i2⟩:=Cp l h3 (fun x H=>hA x (by simp[H])) r1 n1;exact⟨E2,r2,u1.trans u2,n2,fun m=>(i2 m).trans (i1 m)⟩
def Oy(v:V)(u:V)(h:I O)(n:Nat):Prop:=∃l s' s2,Mm l { F:=I.nil.set 0 (some u),h:=h,n:=n,gZ:=[] }=some (s',s2)/\(∀a∈s',a)/\s2.F.get 0=some v
theorem Oy.self{v:V}{h:I O}{n:Nat}:Oy v v h n:=⟨[],[],_,rfl,by simp,I.oP _ _ fa⟩
theorem Cq{E E1:Env}{h h0 h':I O}{n n':Nat}{w w':World}{u v:V}{en:Ending}(g:Good E h w)(hd:pH E n)(kH:E1.φ=E.φ)(VP:∀m,¬eL h0 m)(hv:v.deep=true)(hz:Oy v u h' n')
  (c:iC E1 h0 gN w (.ret u) h' n' en w'):iC E h n w (.ret v) h n en w':=by
 obtain⟨E2,u2,_,pN,hn,ho⟩:=c;cases en with
 |returned x=>
  have ho:dQ E2 u x:=ho;obtain⟨l,s',s2,e1,hA,e2⟩:=hz;have sr:jT E2 1 { F:=I.nil.set 0 (some u),h:=h',n:=n',gZ:=[] } { tmps:=#[x],defers:=[] } w':=by
   refine⟨u2.good,pN,fun t y hy=>?_,rfl,rfl⟩;rw[I.fF _ _ _ fa]at hy;split at hy
   . rename_i q;subst q;cases hy;exact⟨x,rfl,ho⟩
   . simp[I.get]at hy
  obtain⟨E3,r3,u3,_,_⟩:=Cp (N:=0) l e1 hA sr (aS _);obtain⟨x',q1,q2⟩:=r3.F 0 v e2;simp only[List.getElem?_toArray,cG,aq]at q1;subst q1;have Uw:∀b,b<w.heap.size->w'.heap[b]? =w.heap[b]?:=fun b hb=>u2.keep b hb fun m s S=>absurd S (VP m);have bl:Below w.heap.size w w':=⟨u2.os,u2.tape,u2.output,u2.size,Uw⟩;have gb:=g.below bl;have Oa:∀b c,E3.φ b=some c->E.φ b=some c\/w.heap.size<=b:=by
   intro b c q;have k3:∀m s,eL h' m->E2.ι m=some (b,s)->w.heap.size<=b:=by
    intro m s S e;rcases br b w.heap.size with z|z
    . obtain⟨m0,s0,_,_,k0⟩:=u2.tv m b s S.live e z;exact absurd (k0 S) (VP m0)
    . exact z
   rcases u3.C8 b c q with q|q|⟨m,s,p1,p2⟩
   . rcases u2.C8 b c q with q|q|⟨m,s,p1,p2⟩
     . exact .inl (kH▸q)
     . exact .inr q
     . exact absurd p1 (VP m)
   . exact .inr (bC u2.size q)
   . exact .inr (k3 m s p1 p2)
  have Ue:∀b c,E.φ b=some c->E3.φ b=some c:=fun b c q=>u3.fz b c (u2.le.fz b c (kH▸q))
  let E':Env:=⟨E.ι,E.β,E3.φ⟩
  have lj:E.le E':=⟨fun m b s q=>⟨q,rfl⟩,Ue⟩;have aaH:Good E' h w':=by
   refine⟨fun m o S=>?_,gb.inj,gb.oy,gb.kg,fun b c q=>⟨r3.good.fz b c q,fun m s S e=>?_⟩⟩
   . obtain⟨b,s,k1,k2⟩:=gb.rel m o S;exact⟨b,s,k1,jd lj rfl rfl k2⟩
   . rcases Oa b c q with z|z
     . exact(g.iu b c z).2 m s S e
     . have:=g.oy m b s e;omega
  refine⟨E',⟨lj,aaH,u2.size,u2.tape,u2.os,u2.output,fun b hb _=>Uw b hb,fun m b s S e _=>⟨m,s,S,e,id⟩,fun b c q=>?_⟩,fun _ _=>rfl,hd,aK _,(Ck (E:=E3) (E':=E') (fun _ _ q=>q) v x hv q2:dQ E' v x)⟩;rcases Oa b c q with z|z
  . exact .inl z
  . exact .inr (.inl z)
 |_=>exact ho.elim
def dS(P:Program)(f:FuncId)(args:ag)(v:V):Prop:=∀E h n w dF,dV E args dF->Good E h w->pH E n->Calls P f dF.toArray w (iC E h n w (.ret v) h n)
theorem Jn{P:Program}(S:P.follows .mixedOrders=true)(r9:jC P=true){f:FuncId}{fn:Func}{code:Code}(hf:P.funcs[f]? =some fn)(hb:fn.body=some code){args:ag}
  (l:(Nat.ble args.length fn.ntmps&&Nat.blt fn.ntmps fV)=true) {v:V} (Sc:V.pX args=true) (hv:v.deep=true) (hT:TG P gN fn.ntmps code (dw args .nil gN) (fD P gN fn (Oy v))):dS P f args v:=by
 intro E h n w dF ra g hd;have g0:Good (AW E.φ) .nil w:=wA g.wg g.fz;have ra0:dV (AW E.φ) args dF:=lD (E:=E) (E':=AW E.φ) (fun _ _ q=>q) _ _ Sc ra;exact(qw S r9 hf hb l _ hT ra0 g0 (B6 (aK _))).mono fun e w' ⟨u,h',n',hz,k⟩=>Cq (E1:=AW E.φ) g hd rfl wG hv hz k
def Ea:ag->Option (ai)
 | []=>some []
 |x::xs=>match V.Iy x with
  |some d=>match Ea xs with
   |some l=>some (d::l)
   |none=>none
  |none=>none
theorem zg{E:Env}:∀{xs:ag} {ds:ai},Ea xs=some ds->∀{l:List Value},dV E xs l->dV E (ds.map D.jJ) l
 | [],ds,h,l,r=>by simp only[Ea,aq]at h;subst h;exact r
 |x::xs,ds,h,l,r=>by
  simp only[Ea]at h;split at h
  case h_2=>cases h
  rename_i d hd;split at h
  case h_2=>cases h
  rename_i l' hl;obtain rfl:=eB h;obtain⟨y,ys,r0,rs,rfl⟩:=r;exact⟨y,ys,q8 _ _ (xn hd r0).1,zg hl rs,rfl⟩
mutual
theorem Oz:∀d:D,d.jJ.deep=true
 | .bool _=>rfl
 | .int _ _=>rfl
 | .str _=>rfl
 | .eo _ _=>rfl
 | .agg T=>by simp only[D.jJ,V.deep];exact zh T
theorem zh:∀l:ai,V.pX (D.fN l)=true
 | []=>rfl
 |x::xs=>by simp only[D.fN,V.pX,Oz x,zh xs,Bool.and_self]
end
theorem OA(l:ai):V.pX (l.map D.jJ)=true:=by rw[<- D.ga];exact zh l
def dW(f:ai->Option (ah×V)):ag->I O->Nat->Option (ah×V×I O×Nat):=fun args h n=>match Ea args with
 |some ds=>match f ds with
  |some (s',v)=>some (s',v,h,n)
  |none=>none
 |none=>none
theorem OB{P:Program}{f:FuncId}{spec:ai->Option (ah×V)}(eM:f<P.funcs.size)(h:∀args s' v,spec args=some (s',v)->(∀a∈s',a)->dS P f (args.map D.jJ) v):kE P f (dW spec):=by
 refine⟨eM,fun args h' n s' v R n2 e hA E w dF ra g hd K=>?_⟩;unfold dW at e;split at e
 . rename_i ds hds;split at e
   . rename_i A' v' hs;simp only[aq,aF]at e;obtain⟨rfl,rfl,rfl,rfl⟩:=e;exact h ds _ _ hs hA E h' n w dF (zg hds ra) g hd
   . cases e
 . cases e
def Env.pick(E:Env)(ns:List (Option Nat)):Env:=⟨fun j=>match ns.getD j none with
 |some m=>E.ι m
 |none=>none,E.β,E.φ⟩
theorem lX{E:Env}{ns:List (Option Nat)}{j m:Nat}(h:ns.getD j none=some m):(E.pick ns).ι j=E.ι m:=by
 show(match ns.getD j none with|some m=>E.ι m|none=>none)=_;rw[h]
def OC:List (Option Nat)->Nat->Nat->Option Nat
 | [],_,_=>none
 |none::r,j,m=>OC r (j+1) m
 |some k::r,j,m=>match Nat.beq k m with
  |true=>some j
  |false=>OC r (j+1) m
theorem zi:∀(l:List (Option Nat)) (j m k:Nat),OC l j m=some k->j<=k/\l.getD (k-j) none=some m
 | [],_,_,_,h=>by cases h
 |none::r,j,m,k,h=>by
  obtain⟨Q,R⟩:=zi r (j+1) m k h;refine⟨G,?_⟩;rw[show k-j=(k-(j+1))+1 by omega];simpa using R
 |some x::r,j,m,k,h=>by
  simp only[OC]at h;split at h
  . rename_i hb;obtain rfl:=eB h;refine⟨aK _,?_⟩;simp[aA hb]
  . obtain⟨Q,R⟩:=zi r (j+1) m k h;refine⟨G,?_⟩;rw[show k-j=(k-(j+1))+1 by omega];simpa using R
abbrev mu(ns:List (Option Nat)):Nat->Option Nat:=OC ns 0
theorem Sd{ns:List (Option Nat)}{m k:Nat}(h:mu ns m=some k):ns.getD k none=some m:=by
 have:=(zi ns 0 m k h).2;simpa using this
theorem OD{E:Env}{ns:List (Option Nat)}:∀m k,mu ns m=some k->(E.pick ns).ι k=E.ι m:=fun _ _ h=>lX (Sd h)
def zj:List (Option Nat)->Bool
 | []=>true
 |none::r=>zj r
 |some k::r=>!(r.any fun x=>match x with|some j=>Nat.beq k j|none=>false)&&zj r
theorem uH:∀{l:List (Option Nat)},zj l=true->∀i j m,l.getD i none=some m->l.getD j none=some m->i=j
 | [],_,i,_,_,h,_=>by simp at h
 |none::r,h,i,j,m,Q,R=>by
  cases i with
  |zero=>simp at Q
  |succ i=>cases j with
   |zero=>simp at R
   |succ j=>rw[uH (l:=r) h i j m (by simpa using Q) (by simpa using R)]
 |some k::r,h,i,j,m,Q,R=>by
  simp only[zj,ay,bP]at h;have no:∀q,r.getD q none≠some k:=by
   intro q hq;have S:some k∈r:=by
    rw[ax]at hq;cases H:r[q]? with
    |none=>rw[H]at hq;cases hq
    |some x=>rw[H]at hq;simp only[b7]at hq;subst hq;exact List.mem_of_getElem? H
   have:(r.any fun x=>match x with|some j=>Nat.beq k j|none=>false)=true:=List.any_eq_true.2 ⟨_,S,Nat.beq_refl k⟩;rw[this]at h;cases h.1
  cases i with
  |zero=>
   simp at Q;subst Q;cases j with
   |zero=>rfl
   |succ j=>exact absurd (by simpa using R) (no j)
  |succ i=>cases j with
   |zero=>simp at R;subst R;exact absurd (by simpa using Q) (no i)
   |succ j=>rw[uH h.2 i j m (by simpa using Q) (by simpa using R)]
structure Fg(ns:List (Option Nat))(h Q:I O):Prop where
 kg:∀p∈tK,ns.getD p.2 none=some p.2
 one:zj ns=true
 live:∀j m,ns.getD j none=some m->(∃p∈tK,p.2=m)\/h.get m≠none
 get:∀j o1,Q.get j=some o1->∃m o,ns.getD j none=some m/\h.get m=some o/\o.rn (mu ns)=some o1
theorem KP{E:Env}{h Q:I O}{w:World}{ns:List (Option Nat)}(g:Good E h w)(k:Fg ns h Q):Good (E.pick ns) Q w/\pH (E.pick ns) ns.length:=by
 have hw:∀j,eL Q j->∃m,ns.getD j none=some m/\eL h m:=by
  rintro j ⟨o1,R,h3⟩;obtain⟨m,o,q1,q2,q3⟩:=k.get j o1 R;exact⟨m,q1,o,q2,(Ag q3).symm.trans h3⟩
 refine⟨⟨fun j o1 hj=>?_,fun j j' b s A ja hj w7 e1 e2=>?_,fun j b s e=>?_,fun p hp=>?_,fun b c q=>⟨g.fz b c q,fun j s hj e=>?_⟩⟩,fun j hj=>?_⟩
 . obtain⟨m,o,q1,q2,q3⟩:=k.get j o1 hj;obtain⟨b,s,e1,e2⟩:=g.rel m o q2;exact⟨b,s,(lX q1).trans e1,AX (E':=E.pick ns) OD (fun _ _ _ _ _ _=>rfl) (fun _ _ q=>q) rfl o o1 q3 e2⟩
 . obtain⟨m,q1,q2⟩:=hw j hj;obtain⟨o',w7⟩:=bw.1 w7;obtain⟨m',o,p1,p2,_⟩:=k.get j' o' w7;rw[lX q1]at e1;rw[lX p1]at e2;by_cases S:m=m'
   . subst S;exact ja (uH k.one j j' m q1 p1)
   . exact g.inj m m' b s A S q2 (by rw[p2];simp) e1 e2
 . have e:(match ns.getD j none with|some m=>E.ι m|none=>none)=some (b,s):=e;split at e
   . exact g.oy _ b s e
   . cases e
 . rw[lX (k.kg p hp)];exact g.kg p hp
 . obtain⟨m,q1,q2⟩:=hw j hj;rw[lX q1]at e;exact(g.iu b c q).2 m s q2 e
 . show(match ns.getD j none with|some m=>E.ι m|none=>none)=none;rw[ax,cK (show ns.length<=j from hj)];rfl
def Ux(ns:List (Option Nat))(ot:I O)(N n m:Nat):Option Nat:=match Nat.blt m N with
 |true=>ns.getD m none
 |false=>match ot.get m with
  |some o=>match o.wr with
   |true=>some (n+(m-N))
   |false=>none
  |none=>none
def Cr(ν:Nat->Option Nat)(ns:List (Option Nat))(Q ot:I O):Nat->Nat->I O->Option (I O)
 |0,_,h=>some h
 |i+1,q,h=>match Q.get q with
  |some o0=>match o0.wr with
   |true=>match ns.getD q none with
    |some m=>match Nat.blt m fV with
     |true=>match ot.get q with
      |some o=>match o.wr with
       |true=>match o.rn ν with
        |some o2=>Cr ν ns Q ot i (q+1) (h.set m (some o2))
        |none=>none
       |false=>none
      |none=>Cr ν ns Q ot i (q+1) (h.set m none)
     |false=>none
    |none=>none
   |false=>Cr ν ns Q ot i (q+1) h
  |none=>Cr ν ns Q ot i (q+1) h
def Mn(ν:Nat->Option Nat)(Q:I O):Nat->Nat->I O->Option (I O)
 |0,_,h=>some h
 |i+1,j,h=>match ν j with
  |none=>Mn ν Q i (j+1) h
  |some k=>match Q.get j with
   |some o=>match o.rn ν with
    |some o2=>match Nat.blt k fV with
     |true=>Mn ν Q i (j+1) (h.set k (some o2))
     |false=>none
    |none=>none
   |none=>none
def OE(ns:List (Option Nat))(Q:I O)(r:V×I O×Nat)(h:I O)(n:Nat):Option (V×I O×Nat):=
 match r.1.rn (Ux ns r.2.1 ns.length n)with
 |some v=>match Cr (Ux ns r.2.1 ns.length n) ns Q r.2.1 ns.length 0 h with
  |some R=>match Mn (Ux ns r.2.1 ns.length n) r.2.1 (r.2.2-ns.length) ns.length R with
   |some h3=>some (v,h3,n+(r.2.2-ns.length))
   |none=>none
  |none=>none
 |none=>none
theorem vg{ν:Nat->Option Nat}{ns:List (Option Nat)}{Q ot:I O}:∀(i q:Nat) (h R:I O),Cr ν ns Q ot i q h=some R->∀m o,R.get m=some o->
  (h.get m=some o/\∀p,q<=p->p<q+i->eL Q p->ns.getD p none≠some m)\/∃p,q<=p/\p<q+i/\eL Q p/\ns.getD p none=some m/\∃o1,ot.get p=some o1/\o1.wr=true/\o1.rn ν=some o
 |0,q,h,R,e,m,o,S=>by simp only[Cr,aq]at e;subst e;exact .inl ⟨S,fun p Q R=>by omega⟩
 |i+1,q,h,R,e,m,o,S=>by
  simp only[Cr]at e;have skip:(¬eL Q q)->Cr ν ns Q ot i (q+1) h=some R->_:=fun hq e=>vg i (q+1) h R e m o S;have pJ:∀(h':I O) (x:Option O) (m0:Nat),m0<fV->h'=h.set m0 x->eL Q q->ns.getD q none=some m0->(∀y,x=some y->∃o1,ot.get q=some o1/\o1.wr=true/\o1.rn ν=some y)->Cr ν ns Q ot i (q+1) h'=some R->
    (h.get m=some o/\∀p,q<=p->p<q+(i+1)->eL Q p->ns.getD p none≠some m)\/∃p,q<=p/\p<q+(i+1)/\eL Q p/\ns.getD p none=some m/\∃o1,ot.get p=some o1/\o1.wr=true/\o1.rn ν=some o:=by
   intro h' x m0 ht hh hw Iq H e;rcases vg i (q+1) h' R e m o S with⟨k1,k2⟩|⟨p,k1,k2,k3⟩
   . rw[hh,I.fF _ _ _ ht]at k1;split at k1
     . rename_i z;subst z;exact .inr ⟨q,aK _,G,hw,Iq,H o k1⟩
     . rename_i z;refine .inl ⟨k1,fun p p1 p2 p3=>?_⟩;rcases Nat.eq_or_lt_of_le p1 with rfl|p1
       . rw[Iq];intro c;cases c;exact z rfl
       . exact k2 p p1 G p3
   . exact .inr ⟨p,G,G,k3⟩
  have aaJ:(¬eL Q q)->Cr ν ns Q ot i (q+1) h=some R->
    (h.get m=some o/\∀p,q<=p->p<q+(i+1)->eL Q p->ns.getD p none≠some m)\/∃p,q<=p/\p<q+(i+1)/\eL Q p/\ns.getD p none=some m/\∃o1,ot.get p=some o1/\o1.wr=true/\o1.rn ν=some o:=by
   intro hq e;rcases vg i (q+1) h R e m o S with⟨k1,k2⟩|⟨p,k1,k2,k3⟩
   . refine .inl ⟨k1,fun p p1 p2 p3=>?_⟩;rcases Nat.eq_or_lt_of_le p1 with rfl|p1
     . exact absurd p3 hq
     . exact k2 p p1 G p3
   . exact .inr ⟨p,G,G,k3⟩
  split at e
  . rename_i o0 Za;split at e
    . rename_i Zj;split at e
      case h_2=>cases e
      rename_i m0 Iq;split at e
      case h_2=>cases e
      rename_i ht;have ht:=az ht;split at e
      . rename_i o1 ho1;split at e
        case h_2=>cases e
        rename_i IK;split at e
        case h_2=>cases e
        rename_i o2 N0;exact pJ _ (some o2) m0 ht rfl ⟨o0,Za,Zj⟩ Iq (fun y hy=>by cases hy;exact⟨o1,ho1,IK,N0⟩) e
      . exact pJ _ none m0 ht rfl ⟨o0,Za,Zj⟩ Iq (fun y hy=>by cases hy) e
    . rename_i Zj;exact aaJ (fun⟨o,q1,q2⟩=>by rw[Za]at q1;cases q1;rw[Zj]at q2;cases q2) e
  . rename_i Za;exact aaJ (fun⟨o,q1,q2⟩=>by rw[Za]at q1;cases q1) e
theorem zk{ν:Nat->Option Nat}{Q:I O}:∀(i j:Nat) (h R:I O),Mn ν Q i j h=some R->∀m o,R.get m=some o->h.get m=some o\/∃q,j<=q/\q<j+i/\ν q=some m/\∃o1,Q.get q=some o1/\o1.rn ν=some o
 |0,j,h,R,e,m,o,S=>by simp only[Mn,aq]at e;subst e;exact .inl S
 |i+1,j,h,R,e,m,o,S=>by
  simp only[Mn]at e;split at e
  . rcases zk i (j+1) h R e m o S with q|⟨q,q1,q2,q3⟩
    . exact .inl q
    . exact .inr ⟨q,G,G,q3⟩
  . rename_i k Y;split at e
    case h_2=>cases e
    rename_i o1 ho;split at e
    case h_2=>cases e
    rename_i o2 N0;split at e
    case h_2=>cases e
    rename_i ht;rcases zk i (j+1) _ R e m o S with q|⟨q,q1,q2,q3⟩
    . rw[I.fF _ _ _ (show k<fV from az ht)]at q;split at q
      . rename_i z;subst z;obtain rfl:=eB q;exact .inr ⟨j,aK _,G,Y,o1,ho,N0⟩
      . exact .inl q
    . exact .inr ⟨q,G,G,q3⟩
theorem KQ{E:Env}{h Q:I O}{n:Nat}{w:World}{ns:List (Option Nat)}{r:V×I O×Nat}{v:V}{R:I O}{n2:Nat}(g:Good E h w)(hd:pH E n)(k0:Fg ns h Q)
  (he:OE ns Q r h n=some (v,R,n2)) {en:Ending} {w':World} (c:iC (E.pick ns) Q ns.length w (.ret r.1) r.2.1 r.2.2 en w'):iC E h n w (.ret v) R n2 en w':=by
 obtain⟨v1,ot,Jo⟩:=r;obtain⟨E2,u,fq,pN,hn,ho⟩:=c;simp only at u pN hn ho;unfold OE at he;simp only at he;split at he
 case h_2=>cases he
 rename_i v' hv;split at he
 case h_2=>cases he
 rename_i hL' hhL;split at he
 case h_2=>cases he
 rename_i hH' hhH;simp only[aq,aF]at he;obtain⟨rfl,rfl,rfl⟩:=he;generalize RA:ns.length=N at *
 let ν:=Ux ns ot N n
 have VY:∀m k,m<N->ν m=some k->ns.getD m none=some k:=by
  intro m k S Y;have hb:Nat.blt m N=true:=Nat.ble_eq_true_of_le S;simp only[ν,Ux,hb]at Y;exact Y
 have Fh:∀m k,N<=m->ν m=some k->k=n+(m-N)/\eL ot m:=by
  intro m k S Y;have hb:Nat.blt m N=false:=by
   cases q:Nat.blt m N with
   |false=>rfl
   |true=>exact absurd (az q) (Nat.not_lt.2 S)
  simp only[ν,Ux,hb]at Y;split at Y
  . rename_i o ho1;split at Y
    . rename_i hw;simp only[aq]at Y;exact⟨Y.symm,o,ho1,hw⟩
    . cases Y
  . cases Y
 have pre:∀j,eL Q j->∃m,ns.getD j none=some m/\eL h m:=by
  rintro j ⟨o1,q2,q3⟩;obtain⟨m,o,p1,p2,p3⟩:=k0.get j o1 q2;exact⟨m,p1,o,p2,(Ag p3).symm.trans q3⟩
 have agD:∀j,Q.get j≠none->∃m,ns.getD j none=some m/\h.get m≠none:=by
  intro j hj;obtain⟨o1,q2⟩:=bw.1 hj;obtain⟨m,o,p1,p2,_⟩:=k0.get j o1 q2;exact⟨m,p1,by rw[p2];simp⟩
 have old:∀j b s,ot.get j≠none->E2.ι j=some (b,s)->b<w.heap.size->∃m s0,h.get m≠none/\E.ι m=some (b,s0)/\(∃j0,ns.getD j0 none=some m/\j0<N/\(eL ot j->eL Q j0))/\(eL ot j->eL h m):=by
  intro j b s hj e hb;obtain⟨j0,s0,q1,q2,q3⟩:=u.tv j b s hj e hb;obtain⟨m,p1,p2⟩:=agD j0 q1;have hj0:j0<N:=by
   rcases br j0 N with z|z
   . exact z
   . rw[ax,cK G]at p1;cases p1
  refine⟨m,s0,p2,by rw[<- lX p1];exact q2,⟨j0,p1,hj0,q3⟩,fun z=>?_⟩;obtain⟨m',p3,p4⟩:=pre j0 (q3 z);rw[p1]at p3;cases p3;exact p4
 let E':Env:=⟨fun m=>if m<n then E.ι m else(match ν (N+(m-n))with|some _=>E2.ι (N+(m-n))|none=>none),fun b=>if b<w.heap.size then E.β b else E2.β b,E2.φ⟩
 have vL:∀m,m<n->E'.ι m=E.ι m:=fun m S=>aE S;have aaK:∀j k,N<=j->ν j=some k->E'.ι k=E2.ι j:=by
  intro j k hj Y;obtain⟨rfl,_⟩:=Fh j k hj Y;show(if n+(j-N)<n then _ else _)=_;rw[aB G];have:N+(n+(j-N)-n)=j:=by omega
  rw[this,Y]
 have aaL:∀m k,m<N->ns.getD m none=some k->E2.ι m=E.ι k:=fun m k S Y=>(fq m S).trans (lX Y);have hkn:∀k,E.ι k≠none->k<n:=fun k e=>by
  rcases br k n with q|q
  . exact q
  . exact absurd (hd k q) e
 have iS:∀m k,ν m=some k->E'.ι k=E2.ι m:=by
  intro m k Y;by_cases S:m<N
  . have Iq:=VY m k S Y;rw[aaL m k S Iq];by_cases CU:k<n
    . exact vL k CU
    . exact absurd (hkn k (by
       rcases k0.live m k Iq with⟨p,hp,rfl⟩|q
       . rw[g.kg p hp];simp
       . obtain⟨o,q⟩:=bw.1 q;obtain⟨b,s,e,_⟩:=g.rel k o q;rw[e];simp)) CU
  . exact aaK m k (Nat.le_of_not_lt S) Y
 have lj:E.le E':=by
  refine⟨fun m b s e=>?_,fun b c q=>u.le.fz b c q⟩;exact⟨(vL m (hkn m (by rw[e];simp))).trans e,aE (g.oy m b s e)⟩
 have VZ:pH E' (n+(Jo-N)):=by
  intro m S;have S:n+(Jo-N)<=m:=S;show(if m<n then _ else _)=none;rw[aB G];split
  . exact pN _ (by show Jo<=_;omega)
  . rfl
 have V0:∀m k b s,ν m=some k->E2.ι m=some (b,s)->E'.β b=E2.β b:=by
  intro m k b s Y e;show(if b<w.heap.size then E.β b else E2.β b)=_;split
  . rename_i hb;by_cases S:m<N
    . have e1:(E.pick ns).ι m=some (b,s):=by rw[<- fq m S];exact e
      exact(u.le.nm m b s e1).2.symm
    . obtain⟨_,hw⟩:=Fh m k (Nat.le_of_not_lt S) Y;obtain⟨j0,s0,q1,q2,_⟩:=u.tv m b s hw.live e hb;exact(u.le.nm j0 b s0 q2).2.symm
  . rfl
 have tC:∀m o,hH'.get m=some o->(h.get m=some o/\m<n/\∀p,eL Q p->ns.getD p none≠some m)\/(∃q,ν q=some m/\eL ot q/\(q<N->eL Q q)/\∃o1,ot.get q=some o1/\o1.rn ν=some o):=by
  intro m o S;rcases zk _ _ _ _ hhH m o S with q|⟨q,q1,q2,q3,q4⟩
  . rcases vg _ _ _ _ hhL m o q with⟨k1,k2⟩|⟨p,k1,k2,k3,k4,o1,k5,k6,k7⟩
    . refine .inl ⟨k1,?_,fun p hp Iq=>?_⟩
      . obtain⟨b,s,e,_⟩:=g.rel m o k1;exact hkn m (by rw[e];simp)
      . have hp0:p<N:=by
         rcases br p N with z|z
         . exact z
         . rw[ax,cK G]at Iq;cases Iq
        exact k2 p (aS _) G hp Iq
    . have hp0:p<N:=by omega
      refine .inr ⟨p,?_,⟨o1,k5,k6⟩,fun _=>k3,o1,k5,k7⟩;have hb:Nat.blt p N=true:=Nat.ble_eq_true_of_le hp0;show Ux ns ot N n p=some m;simp only[Ux,hb];exact k4
  . obtain⟨o1,p1,p2⟩:=q4;exact .inr ⟨q,q3,(Fh q m q1 q3).2,fun z=>absurd z (Nat.not_lt.2 q1),o1,p1,p2⟩
 have keep:∀m o,h.get m=some o->(∀p,eL Q p->ns.getD p none≠some m)->∀b s,E.ι m=some (b,s)->w'.heap[b]? =w.heap[b]?:=by
  intro m o S hp b s e;refine u.keep b (g.oy m b s e) fun j t hj e2=>?_;obtain⟨m',p1,p2⟩:=pre j hj;rw[lX p1]at e2;exact g.inj m' m b t s (fun z=>hp j hj (z▸p1)) p2 (by rw[S];simp) e2 e
 have pP:Good E' hH' w':=by
  refine⟨?_,?_,?_,g.kg.mono lj,fun b c q=>⟨u.good.fz b c q,?_⟩⟩
  . intro m o S;rcases tC m o S with⟨h0,Ru,hp⟩|⟨q,q1,_,_,o1,q3,q4⟩
    . obtain⟨b,s,e1,e2⟩:=g.rel m o h0;exact⟨b,s,(lj.nm m b s e1).1,jd lj (lj.nm m b s e1).2 (keep m o h0 hp b s e1) e2⟩
    . obtain⟨b,s,e1,e2⟩:=u.good.rel q o1 q3;exact⟨b,s,(iS q m q1).trans e1,AX (E':=E') iS V0 (fun _ _ q=>q) (V0 q m b s q1 e1) o1 o q4 e2⟩
  . rintro m m' b s A ja ⟨o,S,hw⟩ qe e1 e2;obtain⟨o',qe⟩:=bw.1 qe;rcases tC m o S with⟨h0,Ru,hp⟩|⟨q,q1,q2,q5,o1,q3,q4⟩<;>rcases tC m' o' qe with⟨h0',aaM,hp'⟩|⟨q',q1',q2',q5',o1',q3',q4'⟩
    . rw[vL m Ru]at e1;rw[vL m' aaM]at e2;exact g.inj m m' b s A ja ⟨o,h0,hw⟩ (by rw[h0'];simp) e1 e2
    . rw[vL m Ru]at e1;rw[iS q' m' q1']at e2;obtain⟨mm,s0,k1,k2,⟨j0,k3,_,k5⟩,k4⟩:=old q' b A q2'.live e2 (g.oy m b s e1);exact g.inj m mm b s s0 (fun z=>hp j0 (k5 q2') (z▸k3)) ⟨o,h0,hw⟩ k1 e1 k2
    . rw[vL m' aaM]at e2;rw[iS q m q1]at e1;obtain⟨mm,s0,k1,k2,⟨j0,k3,_,k5⟩,k4⟩:=old q b s q2.live e1 (g.oy m' b A e2);exact g.inj mm m' b s0 A (fun z=>hp' j0 (k5 q2) (z▸k3)) (k4 q2) (by rw[h0'];simp) k2 e2
    . rw[iS q m q1]at e1;rw[iS q' m' q1']at e2;exact u.good.inj q q' b s A (fun z=>ja (by subst z;rw[q1]at q1';exact de q1')) q2 q2'.live e1 e2
  . intro m b s e;by_cases S:m<n
    . rw[vL m S]at e;exact bM (g.oy m b s e) u.size
    . have e:(if m<n then E.ι m else(match ν (N+(m-n))with|some _=>E2.ι (N+(m-n))|none=>none))=some (b,s):=e;rw[aB S]at e;split at e
      . exact u.good.oy _ b s e
      . cases e
  . rintro m s ⟨o,S,hw⟩ e;rcases tC m o S with⟨h0,Ru,hp⟩|⟨q',q1,q2,_⟩
    . rw[vL m Ru]at e;rcases u.C8 b c q with z|z|⟨j,t,z1,z2⟩
      . exact(g.iu b c z).2 m s ⟨o,h0,hw⟩ e
      . have:=g.oy m b s e;omega
      . obtain⟨m',p1,p2⟩:=pre j z1;rw[lX p1]at z2;exact g.inj m m' b s t (fun z=>hp j z1 (z▸p1)) ⟨o,h0,hw⟩ p2.live e z2
    . rw[iS q' m q1]at e;exact(u.good.iu b c q).2 q' s q2 e
 refine⟨E',⟨lj,pP,u.size,u.tape,u.os,u.output,fun b hb zW=>?_,?_,fun b c q=>?_⟩,fun m S=>vL m S,VZ,Nat.le_add_right _ _,?_⟩
 . refine u.keep b hb fun j t hj e=>?_;obtain⟨m',p1,p2⟩:=pre j hj;rw[lX p1]at e;exact zW m' t p2 e
 . intro m b s S e hb;obtain⟨o,S⟩:=bw.1 S;rcases tC m o S with⟨h0,Ru,hp⟩|⟨q,q1,q2,_⟩
   . rw[vL m Ru]at e;exact⟨m,s,by rw[h0];simp,e,fun⟨o',k1,k2⟩=>⟨o,h0,by rw[S]at k1;cases k1;exact k2⟩⟩
   . rw[iS q m q1]at e;obtain⟨mm,s0,k1,k2,_,k4⟩:=old q b s q2.live e hb;exact⟨mm,s0,k1,k2,fun _=>k4 q2⟩
 . rcases u.C8 b c q with z|z|⟨j,t,z1,z2⟩
   . exact .inl z
   . exact .inr (.inl z)
   . obtain⟨m',p1,p2⟩:=pre j z1;rw[lX p1]at z2;exact .inr (.inr ⟨m',t,p2,z2⟩)
 . cases en with
   |returned x=>exact sN (E':=E') iS V0 (fun _ _ q=>q) v1 _ x hv ho
   |_=>exact ho.elim
theorem Mo{P:Program}(S:P.follows .mixedOrders=true)(r9:jC P=true){f:FuncId}{fn:Func}{code:Code}(hf:P.funcs[f]? =some fn)(hb:fn.body=some code){args rP:ag}{ns:List (Option Nat)}{h Q R ot:I O}{n n2 Jo:Nat}{v v1:V}
  (l:(Nat.ble rP.length fn.ntmps&&Nat.blt fn.ntmps fV)=true) (k:Fg ns h Q) (ka:V.Jb (mu ns) args=some rP) (he:OE ns Q (v1,ot,Jo) h n=some (v,R,n2))
  (hT:TG P ns.length fn.ntmps code (dw rP Q ns.length) (fD P ns.length fn fun a b c=>a=v1/\b=ot/\c=Jo))
  {E:Env} {w:World} {dF:List Value} (ra:dV E args dF) (g:Good E h w) (hd:pH E n):Calls P f dF.toArray w (iC E h n w (.ret v) R n2):=by
 obtain⟨g1,d1⟩:=KP g k;have ra1:dV (E.pick ns) rP dF:=sO (E':=E.pick ns) OD (fun _ _ _ _ _ _=>rfl) (fun _ _ q=>q) _ _ _ ka ra;exact(sY S r9 hf hb l v1 ot Jo hT ra1 g1 d1).mono fun en w' c=>KQ g hd k he c
abbrev agH(a:ag)(h:I O)(n:Nat):Prop:=a=a/\h=h/\n=n
def OF(T:jY)(f:FuncId)(q:ag->Bool)(args:ag)(h:I O)(n:Nat)(r:V×I O×Nat):jY:=fun f' a' h' n'=>match Nat.beq f' f&&q a' with
 |true=>some [(⟨[],[],[a'=args/\h'=h/\n'=n]⟩,r)]
 |false=>T f' a' h' n'
open Classical in
noncomputable def Hr(cf:fL)(f:FuncId)(q:ag->Bool)(args:ag)(h:I O)(n:Nat)(r:V×I O×Nat):fL:=fun f' a' h' n'=>
 if(Nat.beq f' f&&q a')=true then(if a'=args/\h'=h/\n'=n then some (.ret r.1,r.2.1,r.2.2)else none)else cf f' a' h' n'
theorem Hs{T:jY}{cf:fL}(hs:qM T cf)(f:FuncId)(q:ag->Bool)(args:ag)(h:I O)(n:Nat)(r:V×I O×Nat):qM (OF T f q args h n r) (Hr cf f q args h n r):=by
 intro f' a' h' n';unfold OF Hr;cases hb:(Nat.beq f' f&&q a')with
 |true=>
  rw[aE rfl];intro l e;obtain rfl:=eB e;refine⟨⟨_,aG.2 rfl,fun c K=>by simp at K⟩,fun e he _ hg=>?_⟩;simp only[aG]at he;subst he;have:a'=args/\h'=h/\n'=n:=hg.2 _ (aG.2 rfl);simp only;rw[aE this];rfl
 |false=>
  rw[aB (by simp)];exact hs f' a' h' n'
theorem OG{P:Program}{cf:fL}(Y:gq P cf){f:FuncId}{q:ag->Bool}{args:ag}{h:I O}{n:Nat}{v:V}{Q:I O}{n1:Nat}(eM:f<P.funcs.size)
  (K:∀E w dF,dV E args dF->Good E h w->pH E n->Calls P f dF.toArray w (iC E h n w (.ret v) Q n1)):gq P (Hr cf f q args h n (v,Q,n1)):=by
 intro f' a' h' n' agI R n2 e E w dF ra g hd;unfold Hr at e;split at e
 . rename_i hf;simp only[ay]at hf;have hf:=aA hf.1;subst hf;split at e
   . rename_i hq;obtain⟨rfl,rfl,rfl⟩:=hq;simp only[aq,aF]at e;obtain⟨rfl,rfl,rfl⟩:=e;exact⟨fun _=>K E w dF ra g hd,fun m l s hf _=>absurd eM (by rw[hf];exact Nat.not_lt.2 (Nat.le_add_right _ _))⟩
   . cases e
 . exact Y f' a' h' n' agI R n2 e E w dF ra g hd
noncomputable def CX.qg{P:Program}(es:CX P)(q:ag->Bool){f:FuncId}{args:ag}{h:I O}{n:Nat}{v:V}{Q:I O}{n1:Nat}(eM:f<P.funcs.size)
  (K:∀E w dF,dV E args dF->Good E h w->pH E n->Calls P f dF.toArray w (iC E h n w (.ret v) Q n1)):CX P:=
 ⟨OF es.T f q args h n (v,Q,n1),Hr es.cf f q args h n (v,Q,n1),Hs es.snd f q args h n (v,Q,n1),OG es.ok eM K⟩
def jE(P:Program)(f:FuncId)(args:ag)(h:I O)(n:Nat)(v:V)(Q:I O)(n1:Nat):Prop:=∀E w dF,dV E args dF->Good E h w->pH E n->Calls P f dF.toArray w (iC E h n w (.ret v) Q n1)
open Go.ChangeMaps (setBlock)
structure Se(φ:Nat->Option (Array Value))(kd:Option IntKind)(X:ae)(w:World)(r b:Nat)(left:ae):Prop where
 ex:∃seen fG eO,w.heap[r]? =some (.mapIter (some b) eO seen eO)/\w.heap[b]? =some (.map fG eO)/\jM φ kd X fG.toList eO/\∃l,List.Perm l left/\kD φ l (leftOf fG seen).toList
theorem Se.mono{φ Gl:Nat->Option (Array Value)}{kd:Option IntKind}{X left:ae}{w w':World}{r b:Nat}(kH:∀b c,φ b=some c->Gl b=some c)(hr:w'.heap[r]? =w.heap[r]?)(hb:w'.heap[b]? =w.heap[b]?)(i:Se φ kd X w r b left):Se Gl kd X w' r b left:=by
 obtain⟨seen,fG,eO,Q,R,h3,l,h4,h5⟩:=i.ex;exact⟨seen,fG,eO,hr.trans Q,hb.trans R,h3.mono kH,l,h4,su kH _ _ h5⟩
section
variable{P:Program}{fr:Fence}{n:Nat}{ops:Array Oper}{h1:Exit->Act->World->Prop}{a:Act}{w:World}{rest:List Oper}{o:Oper}
end
theorem kK.weaken{N n1:Nat}(hn:N<=n1){E E':Env}{h h':I O}{w w':World}(u:kK n1 E h w E' h' w'):kK N E h w E' h' w':=
 ⟨fun m b s S=>u.le m b s G,fun m S=>u.low m G,u.fz,u.good,u.size,u.tape,u.os,u.output,u.keep,u.tv,u.C8⟩
structure Ht(N:Nat)(E0:Env)(h0:I O)(w0:World)(m mi:Nat)(kd:Option IntKind)(X left:ae)(r b:Nat)(E:Env)(h:I O)(w:World):Prop where
 tA:kK N E0 h0 w0 E h w
 it:Se E.φ kd X w r b left
 em:E.ι m=some (b,0)
 ei:E.ι mi=some (r,0)
 hr:∀k z,h.get k≠none->E.ι k≠some (r,z)
 hb:∀k z,h.get k≠none->E.ι k≠some (b,z)
 rlt:r<w.heap.size
 blt:b<w.heap.size
 r0:w0.heap.size<=r
 ne:r≠b
theorem Ht.step{N n1:Nat}{E0:Env}{h0:I O}{w0:World}{m mi:Nat}{kd:Option IntKind}{X left:ae}{r b:Nat}{E E':Env}{h h':I O}{w w':World}(hn:N<=n1)(S:m<n1)(hi:mi<n1)(c:Ht N E0 h0 w0 m mi kd X left r b E h w)
  (u:kK n1 E h w E' h' w'):Ht N E0 h0 w0 m mi kd X left r b E' h' w' where
 tA:=c.tA.trans (u.weaken hn)
 it:=c.it.mono u.fz (u.keep r c.rlt fun k z Y=>c.hr k z Y.live) (u.keep b c.blt fun k z Y=>c.hb k z Y.live)
 em:=(u.low m S).trans c.em
 ei:=(u.low mi hi).trans c.ei
 hr:=fun k z Y e=>by
  obtain⟨m0,s0,q1,q2,_⟩:=u.tv k r z Y e c.rlt;exact c.hr m0 s0 q1 q2
 hb:=fun k z Y e=>by
  obtain⟨m0,s0,q1,q2,_⟩:=u.tv k b z Y e c.blt;exact c.hb m0 s0 q1 q2
 rlt:=bM c.rlt u.size
 blt:=bM c.blt u.size
 r0:=c.r0
 ne:=c.ne
theorem Ht.back{N:Nat}{E0:Env}{h0:I O}{w0:World}{m mi:Nat}{kd:Option IntKind}{X left:ae}{r b:Nat}{E:Env}{h:I O}{w:World}(c:Ht N E0 h0 w0 m mi kd X left r b E h w)(hm0:eL h0 m)(he0:E0.ι m=some (b,0))(Ma:m<fV):
  kK N E0 h0 w0 E (h.set m (some (.gh kd X))) w:=by
 have g:=c.tA.good;obtain⟨seen,fG,eO,k1,k2,k3,_⟩:=c.it.ex;have lq:∀k,(h.set m (some (O.gh kd X))).get k=if k=m then some (.gh kd X)else h.get k:=fun k=>I.fF _ _ _ Ma
 have LK:∀k,k≠m->eL (h.set m (some (O.gh kd X))) k->eL h k:=fun k Y ⟨o,q1,q2⟩=>⟨o,by rw[lq,aB Y]at q1;exact q1,q2⟩;have vb:∀b' cc,E.φ b'=some cc->b'≠b:=by
  rintro b' cc q rfl;obtain⟨⟨el,fz,e⟩,_⟩:=g.iu _ cc q;rw[k2]at e;cases e
 refine⟨c.tA.le,c.tA.low,c.tA.fz,⟨fun k o Y=>?_,fun k k' b' z z' CU Y oG e e'=>?_,g.oy,g.kg,fun b' cc q=>⟨(g.iu b' cc q).1,fun k z Y e=>?_⟩⟩,c.tA.size,c.tA.tape,c.tA.os,c.tA.output,c.tA.keep,fun k b' z Y e AV=>?_,c.tA.C8⟩
 . rw[lq]at Y;split at Y
   . rename_i q;subst q;cases Y;exact⟨b,0,c.em,rfl,fG,eO,k2,k3⟩
   . exact g.rel k o Y
 . by_cases q:k=m
   . subst q;rw[c.em]at e;cases e;have oG:h.get k'≠none:=by rw[lq,aB (Ne.symm CU)]at oG;exact oG
     exact c.hb k' z' oG e'
   . by_cases q':k'=m
     . subst q';rw[c.em]at e';cases e';exact c.hb k z (LK k q Y).live e
     . exact g.inj k k' b' z z' CU (LK k q Y) (by rw[lq,aB q']at oG;exact oG) e e'
 . by_cases q':k=m
   . subst q';rw[c.em]at e;cases e;exact vb _ cc q rfl
   . exact(g.iu b' cc q).2 k z (LK k q' Y) e
 . by_cases q':k=m
   . subst q';rw[c.em]at e;cases e;exact⟨k,0,hm0.live,he0,fun _=>hm0⟩
   . obtain⟨m0,s0,p1,p2,p3⟩:=c.tA.tv k b' z (by rw[lq,aB q']at Y;exact Y) e AV;exact⟨m0,s0,p1,p2,fun x=>p3 (LK k q' x)⟩
structure Fi where
 g0:Nat
 g1:Nat
 g2:Nat
 o0:Oper
 oR:Oper
 oN:Oper
 oX:Oper
 oE:Oper
 post:List Oper
 bl:Nat
 b1:Nat
 tok:Operand
 rest:Code
def Fi.code(m:Fi):Code:=.seq (.region m.g0 #[m.o0,m.oR] false) (.block m.bl (.loop (.seq (.region m.g1 #[m.oN,m.oX] false) (.seq (.cond m.tok .skip (.exit m.bl)) (.block m.b1 (.seq (.region m.g2 (m.oE::m.post).toArray false) m.rest))))))
structure Zk(P:Program)(n0:Nat)(c:Fi)(xR:Operand)(tI:Nat):Prop where
 g0:c.o0.guard=none
 gR:c.oR.guard=none
 gN:c.oN.guard=none
 gE:c.oE.guard=none
 opR:∃ty k e,c.oR.op= .range ty xR/\P.underlying ty=some (.map k e)
 dR:c.oR.dst=some tI
 opN:c.oN.op= .next (.tmp tI) false
 opE:c.oE.op= .entry (.tmp tI)
 ok:eJ n0 c.code=true
 tI:tI<fV
def lO(N n0:Nat)(s hm:St):Prop:=∀E a w,jT E n0 s a w->N<=s.n->N<=hm.n/\∃E2,jT E2 n0 hm a w/\kK N E s.h w E2 hm.h w
theorem lO.norm{N n0:Nat}{iX:List Nat}{s hm:St}(e:kW N iX s=some hm):lO N n0 s hm:=fun _ _ _ r _=>(od e r).2
theorem lO.trans{N n0:Nat}{a b c:St}(Q:lO N n0 a b)(R:lO N n0 b c):lO N n0 a c:=fun E x w r hn=>by
 obtain⟨o4,E2,r2,u2⟩:=Q E x w r hn;obtain⟨Iu,E3,r3,u3⟩:=R E2 x w r2 o4;exact⟨Iu,E3,r3,u2.trans u3⟩
theorem lO.mem{N n0:Nat}{s:St}{R:I O}(hg:∀E w,Good E s.h w->Good E R w/\∀m,(R.get m≠none↔s.h.get m≠none)/\(eL R m->eL s.h m)):lO N n0 s { s with h:=R }:=fun E a w r hn=>by
 obtain⟨g2,k2⟩:=hg E w r.good;exact⟨hn,E,⟨g2,r.qd,r.F,r.size,r.gZ⟩,⟨fun _ _ _ _ e=>⟨e,rfl⟩,fun _ _=>rfl,fun _ _ q=>q,g2,aK _,rfl,rfl,rfl,fun _ _ _=>rfl,fun m b s1 S e1 _=>⟨m,s1,(k2 m).1.1 S,e1,(k2 m).2⟩,fun _ _ q=>.inl q⟩⟩
theorem lO.deep{N n0:Nat}{s hm:St}(l:List Nat)(e:Co l s=some hm):lO N n0 s hm:=by
 unfold Co at e;split at e
 case h_2=>cases e
 rename_i R hh;obtain rfl:=eB e;exact lO.mem fun E w g=>pY l s.h R hh g
def lR(P:Program)(f:FuncId)(args:ag)(h:I O)(n:Nat)(h2:V->I O->Nat->Prop):Prop:=
 ∀E w dF,dV E args dF->Good E h w->pH E n->Calls P f dF.toArray w fun e w'=>∃v h' n',h2 v h' n'/\iC E h n w (.ret v) h' n' e w'
theorem jE.one{P:Program}{f:FuncId}{args:ag}{h:I O}{n:Nat}{v:V}{Q:I O}{n1:Nat}(c:jE P f args h n v Q n1):lR P f args h n fun a b d=>a=v/\b=Q/\d=n1:=
 fun E w dF ra g hd=>(c E w dF ra g hd).mono fun _ _ q=>⟨_,_,_,⟨rfl,rfl,rfl⟩,q⟩
theorem lR.mono{P:Program}{f:FuncId}{args:ag}{h:I O}{n:Nat}{h2 R':V->I O->Nat->Prop}(c:lR P f args h n h2)(hr:∀v h n,h2 v h n->R' v h n):lR P f args h n R':=
 fun E w dF ra g hd=>(c E w dF ra g hd).mono fun _ _ ⟨v,h',n',r,q⟩=>⟨v,h',n',hr _ _ _ r,q⟩
theorem lR.is{P:Program}{f:FuncId}{args:ag}{h:I O}{n:Nat}{v:V}{Q:I O}{n1:Nat}(c:lR P f args h n fun a b d=>a=v/\b=Q/\d=n1):jE P f args h n v Q n1:=
 fun E w dF ra g hd=>(c E w dF ra g hd).mono fun _ _ ⟨_,_,_,⟨e1,e2,e3⟩,q⟩=>by subst e1 e2 e3;exact q
theorem s8{P:Program}{fr:Fence}{n:Nat}{ops:Array Oper}{h1:Exit->Act->World->Prop}{l2:List Oper}:∀(l1:List Oper) {a:Act} {w:World},
  wpListIn fr n P ops (fun y a w=>match y with | .normal=>wpListIn fr n P ops h1 l2 a w|y=>h1 y a w) l1 a w->wpListIn fr n P ops h1 (l1++l2) a w
 | [],a,w,h=>h
 |o::l1,a,w,h=>by
  show wpListIn fr n P ops h1 (o::(l1++l2)) a w;unfold wpListIn at h ⊢;split
  . rename_i hw;rw[aE hw]at h;refine Mg (fun a w q=>s8 l1 q) (fun y a w hy q=>?_) h;cases y<;>first|exact absurd rfl hy|exact q
  . rename_i hw;rw[aB hw]at h;exact⟨h.1,s8 l1 h.2⟩
section
variable(P:Program)(N:Nat)(fn:Func)
def OH(p:es×St):jD:=match p.1 with
 | .normal=>match Jj P N fn p.2 with
   |some (v,h,n)=>.ret v h n
   |none=>.bad
 | .ret=>match Jj P N fn p.2 with
   |some (v,h,n)=>.ret v h n
   |none=>.bad
 |_=>.bad
def aaN(T:jY)(hx:List (Nat×lI))(fr N:Nat)(fn:Func)(c:Code)(s:St):List (List (Bool×Bool)×ah×jD):=uB (OH P N fn) (tE (jP P T hx fr c s))
def Uy(T:jY)(hx:List (Nat×lI))(fr N:Nat)(fn:Func)(c:Code)(s:St)(di:List (List (Bool×Bool)×ah×jD)):Prop:=Am P T hx fr c s=true/\uG P T hx fr c s=wF P T hx fr c s/\aaN P T hx fr N fn c s=di
end
theorem V1{P:Program}{N n0:Nat}{fn:Func}{hx:List (Nat×lI)}{fr:Nat}{c:Code}{s:St}{di:List (List (Bool×Bool)×ah×jD)}(X':CX P)(S:P.follows .mixedOrders=true)(h2:V->I O->Nat->Prop)(K:eJ n0 c=true)(hr:Uy P X'.T hx fr N fn c s di)
  (h:∀g∈di,(∀b∈g.1,b.1=b.2)->(∀a∈g.2.1,a)/\∃v h n,g.2.2= .ret v h n/\h2 v h n):TG P N n0 c s (fD P N fn h2):=by
 obtain⟨e1,e2,e3⟩:=hr;obtain⟨l,hl⟩:=bA.1 e1;unfold uG wF at e2;unfold aaN at e3;rw[hl]at e2 e3;simp only[tE]at e2 e3;refine Jk (X':=X') S K hl fun p hp ho=>?_;obtain⟨hA,v,h',n',he,hR⟩:=h (p.1.conds,p.1.M4,OH P N fn p.2) (e3▸my hp) ho;refine⟨⟨qt l e2 p hp,hA⟩,?_⟩;obtain⟨pp,x,A⟩:=p;simp only[OH]at he;cases x with
 |normal=>
  simp only at he;split at he
  . rename_i v1 Q n1 Y8;cases he;exact⟨.normal,rfl,.inl rfl,_,_,_,Y8,hR⟩
  . cases he
 |ret=>
  simp only at he;split at he
  . rename_i v1 Q n1 Y8;cases he;exact⟨.ret,rfl,.inr rfl,_,_,_,Y8,hR⟩
  . cases he
 |exit i=>simp only at he;cases he
 |panic _=>simp only at he;cases he
theorem lR.Cs{P:Program}{f:FuncId}{args mZ:ag}{h R:I O}{n:Nat}{ms:List Nat}{s':ah}{h2:V->I O->Nat->Prop}
  (hl:(Nat.beq args.length mZ.length&&Nat.blt args.length fV)=true) (e:M5 ms (dw args h n)=some (s',dw mZ R n)) (hA:∀a∈s',a) (c:lR P f mZ R n h2):lR P f args h n h2:=by
 intro E w dF ra g hd;simp only[ay]at hl;have jO:args.length=mZ.length:=aA hl.1;have eM:args.length<fV:=az hl.2;obtain⟨vb,mg⟩:=nM (n:=args.length) ra (aK _) eM;have r:jT E args.length (dw args h n) { tmps:=dF.toArray++Array.replicate (args.length-dF.toArray.size) undef,defers:=[] } w:=⟨g,hd,vb,mg,rfl⟩;obtain⟨E2,r2,u,_,iS⟩:=o8 (N:=n) e hA r (aK _);have V2:dF.length=args.length:=eP ra;have Up:dV E2 mZ dF:=by
  refine iZ G fun i v hv=>?_;have hi:i<mZ.length:=(aO.1 hv).1;have hg:(dw mZ R n).F.get i=some v:=by
   show(lg mZ 0 .nil).get i=some v;rw[ux mZ 0 .nil i G];rw[aE G];simpa using hv
  obtain⟨v',k1,k2⟩:=r2.F i v hg;refine⟨v',?_,k2⟩;rw[b6 (by simp;omega)]at k1;simpa using k1
 refine(c E2 w dF Up r2.good r2.qd).mono fun en w' ⟨v,h',n',hR,E3,u3,fq,hd3,Iu,ho⟩=>⟨v,h',n',hR,E3,?_,fun m S=>(fq m S).trans (iS m),hd3,Iu,ho⟩;exact(u.trans (kK.of u3 fq (aK _))).tA hd
theorem jE.Cs{P:Program}{f:FuncId}{args mZ:ag}{h R:I O}{n:Nat}{ms:List Nat}{s':ah}{v:V}{Q:I O}{n1:Nat}
  (hl:(Nat.beq args.length mZ.length&&Nat.blt args.length fV)=true) (e:M5 ms (dw args h n)=some (s',dw mZ R n)) (hA:∀a∈s',a) (c:jE P f mZ R n v Q n1):jE P f args h n v Q n1:=
 lR.is (c.one.Cs hl e hA)
def hP(T:ag):I O:=I.nil.set gN (some (.cells T))
def dZ(P:Program)(N n0:Nat)(s hm:St):Prop:=∀c h1,TG P N n0 c hm h1->TG P N n0 c s h1
section
variable{P:Program}{N n0:Nat}{s s1 hm:St}
theorem dZ.refl:dZ P N n0 s s:=fun _ _ h=>h
theorem dZ.trans(Q:dZ P N n0 s s1)(R:dZ P N n0 s1 hm):dZ P N n0 s hm:=fun c h1 h=>Q c h1 (R c h1 h)
theorem dZ.norm{live:List Nat}(e:kW N live s=some hm):dZ P N n0 s hm:=fun _ _ h=>fU e h
theorem dZ.deep(l:List Nat)(e:Co l s=some hm):dZ P N n0 s hm:=fun _ _ h=>Sb l e h
theorem dZ.own(l:List (Nat×IntKind))(e:VQ l s=some hm):dZ P N n0 s hm:=fun _ _ h=>ze l e h
theorem dZ.map(l:List (Nat×Option IntKind))(e:VW l s=some hm):dZ P N n0 s hm:=fun _ _ h=>VX l e h
theorem dZ.Cs(ms:List Nat){s':ah}(e:M5 ms s=some (s',hm))(hA:∀x∈s',x):dZ P N n0 s hm:=fun _ _ h=>VV ms e hA h
end
section
variable{p:Prop}{P:Program}{N n0:Nat}{c:Code}{s:St}{h1:Exit->St->Prop}
theorem lO.xY{hm:St}(h:lO N n0 s hm):dZ P N n0 s hm:=fun _ _ hT E a w hc r hn k=>by
 obtain⟨o4,E2,r2,u2⟩:=h E a w r hn;exact hT E2 a w hc r2 o4 fun y A E' a' w' q u nV r'=>k y A E' a' w' q (u2.trans u) nV r'
theorem Sf(b m:Nat)(hm:Nat->St)(K:mY c b=true)(hl:oz (dD c)=true)(h0:dZ P N n0 s (hm 0))
  (hb:∀i,i<m->TG P N n0 (dD (dD c)) (hm i) (andThen (fun A=>dZ P N n0 A (hm (i+1))) (gw b h1)))
  (he:TG P N n0 (dD (dD c)) (hm m) (fun y A=>y≠ .normal/\gw b h1 y A)):TG P N n0 c s h1:=by
 refine fB K (ju (fun k s=>∃i,k=m-i/\i<=m/\dZ P N n0 s (hm i)) hl ?_ m ⟨0,rfl,aS _,h0⟩);rintro k s1 ⟨i,Y,hi,pG⟩;refine pG _ _ ?_;rcases br i m with eM|N3
 . refine qu (hb i eM) fun y A h=>?_;cases y with
   |normal=>exact⟨m-(i+1),G,i+1,rfl,G,h⟩
   |_=>exact h
 . obtain rfl:i=m:=by omega
   refine qu he fun y A h=>?_;cases y with
   |normal=>exact absurd rfl h.1
   |_=>exact h.2
theorem zl{α:Type}{P:Program}{N n0:Nat}{c:Code}{s:St}{h1:Exit->St->Prop}(b:Nat)(μ:α->Nat)(Tr:α->Prop)(hm:α->St)(K:mY c b=true)(hl:oz (dD c)=true)(x0:α)(i0:Tr x0)(h0:dZ P N n0 s (hm x0))
  (hb:∀x,Tr x->TG P N n0 (dD (dD c)) (hm x) (andThen (fun A=>∃x',μ x'<μ x/\Tr x'/\dZ P N n0 A (hm x')) (gw b h1))):TG P N n0 c s h1:=by
 refine fB K (ju (fun k s=>∃x,k=μ x/\Tr x/\dZ P N n0 s (hm x)) hl ?_ (μ x0) ⟨x0,rfl,i0,h0⟩);rintro k s1 ⟨x,Y,hi,pG⟩;refine pG _ _ ?_;refine qu (hb x hi) fun y A h=>?_;cases y with
 |normal=>
  obtain⟨x',Q,R,h3⟩:=h;exact⟨μ x',G,x',rfl,R,h3⟩
 |_=>exact h
theorem J{l:ah}(h:p)(t:∀a∈l,a):∀a∈p::l,a:=List.forall_mem_cons.2 ⟨h,t⟩
theorem eC(h:p):∀a∈[p],a:=J h fun _ h=>absurd h aI
def V3(f0:FuncId)(kM:ag)(h0:I O)(N:Nat)(v:V)(Q:I O)(n1:Nat)(hm:gy):gy:=fun f args h n=>match Nat.beq f f0 with
 |true=>some ([args=kM/\h=h0/\n=N],v,Q,n1)
 |false=>hm f args h n
theorem Sg{f0:FuncId}{kM:ag}{h0:I O}{N:Nat}{v:V}{Q:I O}{n1:Nat}{hm:gy}(eM:f0<P.funcs.size)(K:jE P f0 kM h0 N v Q n1)(hS:eR P hm):eR P (V3 f0 kM h0 N v Q n1 hm):=by
 intro f args h n s' v' h' n' e;unfold V3 at e;split at e
 . rename_i hb;have hb:=aA hb;subst hb;simp only[aq,aF]at e;obtain⟨rfl,rfl,rfl,rfl⟩:=e;refine⟨eM,fun hA E w dF ra g hd _=>?_⟩;obtain⟨rfl,rfl,rfl⟩:=hA _ (aG.2 rfl);exact K E w dF ra g hd
 . exact hS f args h n s' v' h' n' e
def KR(P:Program)(N:Nat)(fn:Func)(live:List Nat)(b:Nat)(p:es×St):jD:=match p.1 with
 | .exit i=>match Nat.beq i b with
   |true=>match Jj P N fn p.2 with
    |some (v,h,n)=>.ret v h n
    |none=>.bad
   |false=>.bad
 |_=>nr P N fn live p
def V4(P:Program)(T:jY)(hx:List (Nat×lI))(fr N:Nat)(fn:Func)(live:List Nat)(b:Nat)(c:Code)(s:St):Option (ag×ag×List (List (Bool×Bool)×ah×jD)):=
 match jP P T hx fr c s with
 |some l=>some (pV l,uC l,uB (KR P N fn live b) l)
 |none=>none
abbrev xZ(P:Program)(T:jY)(hx:List (Nat×lI))(fr N:Nat)(fn:Func)(live:List Nat)(b:Nat)(c:Code)(s:St)(iX:ag)(di:List (List (Bool×Bool)×ah×jD)):Prop:=V4 P T hx fr N fn live b c s=some (iX,iX,di)
theorem xZ.of{T:jY}{hx:List (Nat×lI)}{fr N:Nat}{fn:Func}{live:List Nat}{b:Nat}{c:Code}{s:St}{di:List (List (Bool×Bool)×ah×jD)}(Q:Am P T hx fr c s=true)(R:uG P T hx fr c s=wF P T hx fr c s)
  (h3:uB (KR P N fn live b) (tE (jP P T hx fr c s))=di):∃iX,xZ P T hx fr N fn live b c s iX di:=by
 obtain⟨l,hl⟩:=bA.1 Q;unfold uG wF at R;rw[hl]at R h3;simp only[tE]at R h3;exact⟨pV l,by simp only[xZ,V4,hl,h3,<- R]⟩
theorem OI{hx:List (Nat×lI)}{fr:Nat}{fn:Func}{live:List Nat}{iX:ag}{di:List (List (Bool×Bool)×ah×jD)}(b:Nat)(X':CX P)(S:P.follows .mixedOrders=true)(h2:V->I O->Nat->Prop)(K:eJ n0 c=true)(hr:xZ P X'.T hx fr N fn live b c s iX di)
  (hQ:∀A,fD P N fn h2 .normal A->h1 (.exit b) A) (h:∀g∈di,(∀b∈g.1,b.1=b.2)->(∀a∈g.2.1,a)/\g.2.2.post P N fn live h2 h1):TG P N n0 c s h1:=by
 unfold xZ V4 at hr;cases hl:jP P X'.T hx fr c s with
 |none=>rw[hl]at hr;cases hr
 |some l=>
  rw[hl]at hr;simp only[aq,aF]at hr;obtain⟨e1,e2,e3⟩:=hr;refine Jk (X':=X') S K hl fun p hp ho=>?_;have hg:=h (p.1.conds,p.1.M4,KR P N fn live b p.2) (e3▸my hp) ho;refine⟨⟨qt l (e1.trans e2.symm) p hp,hg.1⟩,?_⟩;obtain⟨pp,x,A⟩:=p;have iJ:=hg.2;simp only[KR]at iJ;cases x with
  |normal=>
   simp only[nr]at iJ;split at iJ
   . rename_i s2 qV;exact⟨.normal,rfl,iJ A qV⟩
   . exact iJ.elim
  |exit i=>
   simp only at iJ;split at iJ
   . rename_i hb;have hb:=aA hb;subst hb;split at iJ
     . rename_i v h n hr;exact⟨.exit i,rfl,hQ A ⟨.inl rfl,v,h,n,hr,iJ.1⟩⟩
     . exact iJ.elim
   . exact iJ.elim
  |ret=>
   simp only[nr]at iJ;split at iJ
   . rename_i v h n hr;exact⟨.ret,rfl,iJ.2 A ⟨.inr rfl,v,h,n,hr,iJ.1⟩⟩
   . exact iJ.elim
  |panic _=>exact iJ.elim
end
theorem Mp{h h0:I O}(hh:∀k,h.get k=h0.get k)(m:Nat):eL h m↔eL h0 m:=by unfold eL;rw[hh m]
theorem jE.ext{P:Program}{f:FuncId}{args:ag}{h h0 Q R:I O}{n n1:Nat}{v:V}(hh:∀k,h.get k=h0.get k)(Y:∀k,Q.get k=R.get k)(c:jE P f args h0 n v R n1):jE P f args h n v Q n1:=by
 intro E w dF ra g hd;refine(c E w dF ra (g.ext fun k=>(hh k).symm) hd).mono fun e w' ⟨E',u,q1,q2,q3,q4⟩=>⟨E',?_,q1,q2,q3,q4⟩;have u:=u.ext Y;have hw:=Mp hh;exact⟨u.le,u.good,u.size,u.tape,u.os,u.output,fun b hb S=>u.keep b hb fun m s h=>S m s ((hw m).2 h),fun m b s Q R h3=>by
  obtain⟨m0,s0,a1,a2,a3⟩:=u.tv m b s Q R h3;exact⟨m0,s0,by rw[hh];exact a1,a2,fun h=>(hw m0).2 (a3 h)⟩,fun b c h=>by
  rcases u.C8 b c h with h|h|⟨m,s,Q,R⟩
  . exact .inl h
  . exact .inr (.inl h)
  . exact .inr (.inr ⟨m,s,(hw m).2 Q,R⟩)⟩
def x3(back:I Nat):Nat->Bool
 |0=>true
 |k+1=>(match back.get k with|some m=>Nat.beq m k|none=>false)&&x3 back k
theorem vM{back:I Nat}:∀{k:Nat},x3 back k=true->∀m,m<k->back.get m=some m
 |0,_,m,S=>by omega
 |k+1,h,m,S=>by
  simp only[x3,ay]at h;by_cases e:m=k
  . subst e;cases q:back.get m with
    |none=>rw[q]at h;cases h.1
    |some j=>rw[q]at h;rw[aA h.1]
  . exact vM h.2 m G
def KS(N lo:Nat)(live:List Nat)(s:St):Option St:=
 match Nat.ble N s.n&&Nat.ble lo N with
 |false=>none
 |true=>match G6 s.h 100000 (B8 s.h lo (rJ s.F live++Ca s.gZ [])) (RW lo) (E4 N) N with
  |some (ρ,oc,k)=>
   let back:=wB oc k .nil
   let ν:=wC ρ back k
   match(x3 back N&&Nat.ble N k)&&Nat.ble gN N with
   |true=>match B9 ν s.h (oc.filter fun m=>(ρ.get m).isSome) .nil with
    |some R=>match wE ν s.F live .nil with
     |some I4=>match Md ν s.gZ with
      |some d2=>some { F:=I4,h:=R,n:=k,gZ:=d2 }
      |none=>none
     |none=>none
    |none=>none
   |false=>none
  |none=>none
theorem Hu{N lo n0:Nat}{live:List Nat}{s s2:St}{E:Env}{a:Act}{w:World}(e:KS N lo live s=some s2)(r:jT E n0 s a w):N<=s.n/\N<=s2.n/\∃E2,jT E2 n0 s2 a w/\kK N E s.h w E2 s2.h w:=by
 unfold KS at e;split at e
 . cases e
 rename_i hn;simp only[ay]at hn;split at e
 case h_2=>cases e
 rename_i ρ oc k ht;revert e;generalize aaz:wB oc k .nil=back;intro e;simp only at e;split at e
 case h_2=>cases e
 rename_i fq;simp only[ay]at fq;split at e
 case h_2=>cases e
 rename_i R hh;split at e
 case h_2=>cases e
 rename_i I4 vb;split at e
 case h_2=>cases e
 rename_i d2 BZ;simp only[aq]at e;subst e
 let E2:Env:=⟨fun m=>if m<k then(match back.get m with|some old=>E.ι old|none=>none)else none,E.β,E.φ⟩
 have iS:∀m j,wC ρ back k m=some j->E2.ι j=E.ι m:=by
  intro m j hj;obtain⟨_,R,h3⟩:=Af hj;show(if j<k then(match back.get j with|some old=>E.ι old|none=>none)else none)=_;rw[aE h3,R]
 have Y:N<=k:=az fq.1.2;have CT:∀m,m<N->E2.ι m=E.ι m:=fun m S=>by
  show(if m<k then(match back.get m with|some old=>E.ι old|none=>none)else none)=_;rw[aE (bM S Y),vM fq.1.1 m S]
 have It:=sP _ .nil R hh (fun j o hj=>by simp[I.get]at hj);have pP:Good E2 R w:=by
  refine⟨?_,?_,?_,fun p hp=>(CT _ (bM (EX hp) (az fq.2))).trans (r.good.kg p hp),fun b c q=>⟨(r.good.iu b c q).1,fun m s1 S e1=>?_⟩⟩
  case refine_4=>
   obtain⟨o,ho,VG⟩:=S;obtain⟨old,p,k1,k2,k3⟩:=It m o ho;rw[iS old m k1]at e1;exact(r.good.iu b c q).2 old s1 ⟨p,k2,(Ag k3).symm.trans VG⟩ e1
  . intro m o2 S;obtain⟨old,o,k1,k2,k3⟩:=It m o2 S;obtain⟨b,A,e1,e2⟩:=r.good.rel old o k2;exact⟨b,A,(iS old m k1).trans e1,AX iS (fun _ _ _ _ _ _=>rfl) (fun _ _ q=>q) rfl o o2 k3 e2⟩
  . intro m m' b s1 s2 ja S qe e1 e2;obtain⟨o,ho,VG⟩:=S;obtain⟨o',Dg⟩:=bw.1 qe;obtain⟨old,p,k1,k2,k3⟩:=It m o ho;obtain⟨AF,p',Iv,k2',_⟩:=It m' o' Dg;rw[iS old m k1]at e1;rw[iS AF m' Iv]at e2;by_cases n7:old=AF
    . subst n7;rw[k1]at Iv;simp only[aq]at Iv;exact ja Iv
    . exact r.good.inj old AF b s1 s2 n7 ⟨p,k2,(Ag k3).symm.trans VG⟩ (by rw[k2'];simp) e1 e2
  . intro m b s1 e1;have e1:(if m<k then(match back.get m with|some old=>E.ι old|none=>none)else none)=some (b,s1):=e1;split at e1
    . split at e1
      . exact r.good.oy _ b s1 e1
      . cases e1
    . cases e1
 refine⟨az hn.1,Y,E2,⟨pP,?_,?_,r.size,?_⟩,?_⟩
 . intro m S;show(if m<k then _ else none)=none;rw[aB (by show ¬m<k;have:k<=m:=S;omega)]
 . intro t v2 hv;obtain⟨v,k1,k2⟩:=qp live .nil I4 vb (fun j o hj=>by simp[I.get]at hj) t v2 hv;obtain⟨v',Q,R⟩:=r.F t v k1;exact⟨v',Q,sN iS (fun _ _ _ _ _ _=>rfl) (fun _ _ q=>q) v v2 v' k2 R⟩
 . exact Cb iS _ _ _ BZ r.gZ
 . refine⟨fun m b s1 S e1=>⟨(CT m S).trans e1,rfl⟩,CT,fun _ _ q=>q,pP,aK _,rfl,rfl,rfl,fun _ _ _=>rfl,?_,fun _ _ q=>.inl q⟩;intro m b s1 S e1 hb;obtain⟨o,ho⟩:=bw.1 S;obtain⟨old,p,k1,k2,k3⟩:=It m o ho;rw[iS old m k1]at e1;refine⟨old,s1,by rw[k2];simp,e1,fun⟨o',q1,q2⟩=>⟨p,k2,?_⟩⟩;rw[ho]at q1;cases q1;exact(Ag k3).symm.trans q2
def Step(N:Nat)(s s2:St):Prop:=∀n0 E a w,jT E n0 s a w->N<=s.n->N<=s2.n/\∃E2,jT E2 n0 s2 a w/\kK N E s.h w E2 s2.h w
theorem Step.refl{N:Nat}{s:St}:Step N s s:=fun _ E _ _ r hn=>⟨hn,E,r,.refl r.good⟩
theorem Step.trans{N:Nat}{s s1 s2:St}(a:Step N s s1)(b:Step N s1 s2):Step N s s2:=fun n0 E c w r hn=>by
 obtain⟨Q,E1,r1,u1⟩:=a n0 E c w r hn;obtain⟨R,E2,r2,u2⟩:=b n0 E1 c w r1 Q;exact⟨R,E2,r2,u1.trans u2⟩
section
variable{P:Program}{N:Nat}{s:St}{n0:Nat}{s2:St}
theorem Step.mov(lo:Nat){live:List Nat}(e:KS N lo live s=some s2):Step N s s2:=fun _ _ _ _ r _=>(Hu e r).2
theorem Step.norm{live:List Nat}(e:kW N live s=some s2):Step N s s2:=fun _ _ _ _ r _=>(od e r).2
theorem Step.mem{R:I O}(hg:∀E w,Good E s.h w->Good E R w/\∀m,(R.get m≠none↔s.h.get m≠none)/\(eL R m->eL s.h m)):Step N s { s with h:=R }:=fun n0 E a w r hn=>by
 obtain⟨g2,k2⟩:=hg E w r.good;exact⟨hn,E,⟨g2,r.qd,r.F,r.size,r.gZ⟩,⟨fun _ _ _ _ e=>⟨e,rfl⟩,fun _ _=>rfl,fun _ _ q=>q,g2,aK _,rfl,rfl,rfl,fun _ _ _=>rfl,fun m b s1 S e1 _=>⟨m,s1,(k2 m).1.1 S,e1,(k2 m).2⟩,fun _ _ q=>.inl q⟩⟩
theorem Step.deep(l:List Nat)(e:Co l s=some s2):Step N s s2:=by
 unfold Co at e;split at e
 case h_2=>cases e
 rename_i R hh;obtain rfl:=eB e;exact Step.mem fun E w g=>pY l s.h R hh g
theorem Step.Cs(ms:List Nat){s':ah}(e:M5 ms s=some (s',s2))(hA:∀x∈s',x):Step N s s2:=fun n0 E a w r hn=>by
 obtain⟨E2,r2,u,o4,_⟩:=o8 (N:=N) e hA r hn;exact⟨o4,E2,r2,u⟩
theorem Sh{c:Code}{s s2:St}{h1:Exit->St->Prop}(e:Step N s s2)(h:TG P N n0 c s2 h1):TG P N n0 c s h1:=by
 intro E a w hc r hn k;obtain⟨o4,E2,r2,u2⟩:=e n0 E a w r hn;exact h E2 a w hc r2 o4 fun y A E' a' w' q u nV r'=>k y A E' a' w' q (u2.trans u) nV r'
theorem dZ.step{s hm:St}(e:Step N s hm):dZ P N n0 s hm:=fun _ _ h=>Sh e h
def rst(v:V)(h:I O)(n:Nat):St:={ F:=I.nil.set 0 (some v),h:=h,n:=n,gZ:=[] }
end
theorem jE.step{P:Program}{f:FuncId}{args:ag}{h Q R:I O}{n n1 n2:Nat}{v v2:V}(c:jE P f args h n v Q n1)(st:Step n (rst v Q n1) (rst v2 R n2)):jE P f args h n v2 R n2:=by
 intro E w dF ra g hd;refine(c E w dF ra g hd).mono fun en w' ⟨E1,u,fq,M2,De,ho⟩=>?_;cases en with
 |panicked ch=>exact ho.elim
 |outgrown=>exact ho.elim
 |returned v'=>
  have hv:dQ E1 v v':=ho;have r:jT E1 1 (rst v Q n1) { tmps:=#[v'],defers:=[] } w':=by
   refine⟨u.good,M2,fun t x H=>?_,rfl,rfl⟩;have H:(I.nil.set 0 (some v)).get t=some x:=H;rw[I.fF _ _ _ (az fa)]at H;split at H
   . rename_i e0;subst e0;cases H;exact⟨v',rfl,hv⟩
   . exact absurd H (by simp[I.get])
  obtain⟨o4,E2,r2,u2⟩:=st 1 E1 _ w' r De;obtain⟨x,H,hv2⟩:=r2.F 0 v2 (by show(I.nil.set 0 (some v2)).get 0=some v2;rw[I.fF _ _ _ (az fa),aE rfl]);have H:some v'=some x:=H;obtain rfl:=eB H;exact⟨E2,((kK.of (N:=n) u fq (aK _)).trans u2).tA hd,fun m S=>(u2.low m S).trans (fq m S),r2.qd,o4,hv2⟩
theorem jE.mov{P:Program}{f:FuncId}{args:ag}{h Q R:I O}{n n1 n2:Nat}{v v2:V}(lo:Nat)(c:jE P f args h n v Q n1)(e:KS n lo [0] (rst v Q n1)=some (rst v2 R n2)):jE P f args h n v2 R n2:=c.step (.mov lo e)
theorem jE.nil{P:Program}{f:FuncId}{args:ag}{h Q:I O}{n n1 z:Nat}(b:Bool)(c:jE P f args h n (.eS none 0 0 z) Q n1):jE P f args h n (.eo b 0 []) Q n1:=by
 intro E w dF ra g hd;refine(c E w dF ra g hd).mono fun en w' ⟨E1,u,fq,M2,De,ho⟩=>⟨E1,u,fq,M2,De,?_⟩;cases en with
 |panicked ch=>exact ho.elim
 |outgrown=>exact ho.elim
 |returned v'=>
  obtain⟨_,_,rfl⟩:0=0/\0=0/\v'= .slice none 0 0:=ho;exact⟨⟨none,0,[],rfl,aK _,rfl,fun _=>rfl,fun h=>absurd h (cZ _)⟩,fun _=>⟨none,rfl⟩⟩
def rbS(p i:Nat)(s:St):Option St:=match s.h.get p with
 |some (.cells T)=>match T[i]? with
  |some (.eS (some (m,o)) len jH jm)=>match s.h.get m with
   |some (.deep h2)=>match(Nat.blt m fV&&Nat.blt p fV)&&(Nat.blt s.n fV&&Bool.not (Nat.beq p m))with
    |true=>some { s with h:=((s.h.set m none).set p (some (.cells (T.set i (.eS (some (s.n,0)) len len jm))))).set s.n (some (.deep ((h2.drop o).take (len*jm)))),n:=s.n+1 }
    |false=>none
   |_=>none
  |_=>none
 |_=>none
theorem Step.rb{N:Nat}{s s2:St}(p i:Nat)(e:rbS p i s=some s2):Step N s s2:=by
 unfold rbS at e;split at e
 case h_2=>cases e
 rename_i T hp;split at e
 case h_2=>cases e
 rename_i m o len _ jm hi;split at e
 case h_2=>cases e
 rename_i h2 S;split at e
 case h_2=>cases e
 rename_i hb;simp only[ay,bP]at hb;obtain⟨⟨Ma,VA⟩,hnt,hpm⟩:=hb;have Ma:m<fV:=az Ma;have VA:p<fV:=az VA;have hnt:s.n<fV:=az hnt;have hpm:p≠m:=fun q=>by rw[q,Nat.beq_refl]at hpm;cases hpm
 obtain rfl:=eB e;intro n0 E a w r hn;have g:=r.good;obtain⟨bm,sm,em,om⟩:=g.rel m _ S;obtain⟨bp,sp,ep,op⟩:=g.rel p _ hp;have Aa:E.ι s.n=none:=r.qd _ (aK _);have Ru:m≠s.n:=fun q=>by rw[q,Aa]at em;cases em
 have hpn:p≠s.n:=fun q=>by rw[q,Aa]at ep;cases ep
 let E2:Env:=⟨fun j=>if j=s.n then some (bm,sm+o)else E.ι j,E.β,E.φ⟩
 have e2n:E2.ι s.n=some (bm,sm+o):=aE rfl;have e2:∀j,j≠s.n->E2.ι j=E.ι j:=fun j hj=>aB hj;have lj:E.le E2:=⟨fun j b x hj=>⟨by
  rw[e2 j fun q=>by rw[q,Aa]at hj;cases hj];exact hj,rfl⟩,fun _ _ q=>q⟩
 have lq:∀j,(((s.h.set m none).set p (some (.cells (T.set i (.eS (some (s.n,0)) len len jm))))).set s.n (some (.deep ((h2.drop o).take (len*jm))))).get j=
   if j=s.n then some (.deep ((h2.drop o).take (len*jm)))else if j=p then some (.cells (T.set i (.eS (some (s.n,0)) len len jm)))else if j=m then none else s.h.get j:=fun j=>by
  rw[I.fF _ _ _ hnt,I.fF _ _ _ VA,I.fF _ _ _ Ma]
 have hor:∀j b x,(((s.h.set m none).set p (some (.cells (T.set i (.eS (some (s.n,0)) len len jm))))).set s.n (some (.deep ((h2.drop o).take (len*jm))))).get j≠none->E2.ι j=some (b,x)->∃j0 x0,s.h.get j0≠none/\E.ι j0=some (b,x0)/\(j=s.n->j0=m)/\(j≠s.n->j0=j/\j≠m):=by
  intro j b x hj ej;rw[lq]at hj;by_cases q:j=s.n
  . subst q;rw[e2n]at ej;simp only[aq,aF]at ej;obtain⟨rfl,_⟩:=ej;exact⟨m,sm,by rw[S];simp,em,fun _=>rfl,fun q=>absurd rfl q⟩
  . rw[e2 j q]at ej;rw[aB q]at hj;refine⟨j,x,?_,ej,fun q'=>absurd q' q,fun _=>⟨rfl,?_⟩⟩
    . by_cases q1:j=p
      . subst q1;rw[hp];simp
      . rw[aB q1]at hj;by_cases q2:j=m
        . rw[aE q2]at hj;exact absurd rfl hj
        . rw[aB q2]at hj;exact hj
    . intro q2;subst q2;rw[aB (fun q=>hpm q.symm),aE rfl]at hj;exact absurd rfl hj
 have hw:∀j,eL (((s.h.set m none).set p (some (.cells (T.set i (.eS (some (s.n,0)) len len jm))))).set s.n (some (.deep ((h2.drop o).take (len*jm))))) j->j≠s.n->eL s.h j:=by
  rintro j ⟨x,H,hxw⟩ q;rw[lq,aB q]at H;by_cases q1:j=p
  . subst q1;exact⟨_,hp,rfl⟩
  . rw[aB q1]at H;by_cases q2:j=m
    . rw[aE q2]at H;cases H
    . rw[aB q2]at H;exact⟨x,H,hxw⟩
 have Ul:eL s.h m:=⟨_,S,rfl⟩;have pP:Good E2 (((s.h.set m none).set p (some (.cells (T.set i (.eS (some (s.n,0)) len len jm))))).set s.n (some (.deep ((h2.drop o).take (len*jm))))) w:=by
  refine⟨fun j x hj=>?_,fun j j' b x x' ja hj w7 e1 e1'=>?_,fun j b x ej=>?_,fun q hq=>lj.nm _ _ _ (g.kg q hq) |>.1,fun b c q=>⟨(g.iu b c q).1,fun j x hj ej=>?_⟩⟩
  . rw[lq]at hj;by_cases q:j=s.n
    . subst q;rw[aE rfl]at hj;obtain rfl:=eB hj;refine⟨bm,sm+o,e2n,?_⟩;obtain⟨c,el,fz,vs,Q,R,h3,h4,h5⟩:=om;refine⟨c,el,fz,(vs.drop o).take (len*jm),Q,R,h3,sk (ny h4),fun k x H=>?_⟩;rw[bN]at H;split at H
      . rw[bO]at H;have:=h5 (o+k) x H;rw[<- this];congr 1;omega
      . cases H
    . rw[aB q]at hj;by_cases q1:j=p
      . subst q1;rw[aE rfl]at hj;obtain rfl:=eB hj;refine⟨bp,sp,by rw[e2 _ q];exact ep,?_⟩;obtain⟨c,el,fz,Q,R,h3,h4⟩:=op;refine⟨c,el,fz,Q,R,h3,fun k v hv=>?_⟩;rw[List.getElem?_set]at hv;split at hv
        . rename_i hik;subst hik;split at hv
          . obtain rfl:=eB hv;obtain⟨v',k1,b,s0,o',gp,q1,q2,q3,q4,q5,q6⟩:=h4 i _ hi;rw[em]at q1;simp only[aq,aF]at q1;obtain⟨rfl,rfl⟩:=q1;exact⟨v',k1,bm,sm+o,o',gp,e2n,fun h0=>q2 (bM h0 q3),aK _,bC q3 q4,q5,q6⟩
          . cases hv
        . obtain⟨v',k1,k2⟩:=h4 k v hv;exact⟨v',k1,jc lj v v' k2⟩
      . rw[aB q1]at hj;split at hj
        . cases hj
        . obtain⟨b,x0,k1,k2⟩:=g.rel j x hj;exact⟨b,x0,by rw[e2 _ q];exact k1,jd lj rfl rfl k2⟩
  . have hj0:(((s.h.set m none).set p (some (.cells (T.set i (.eS (some (s.n,0)) len len jm))))).set s.n (some (.deep ((h2.drop o).take (len*jm))))).get j≠none:=by obtain⟨y,hy,_⟩:=hj;rw[hy];simp
    obtain⟨k,x1,a1,a2,a3,a4⟩:=hor j b x hj0 e1;obtain⟨k',x2,b1,b2,b3,b4⟩:=hor j' b x' w7 e1';have hkw:eL s.h k:=by
     by_cases q:j=s.n
     . rw[a3 q];exact Ul
     . rw[(a4 q).1];exact hw j hj q
    refine g.inj k k' b x1 x2 ?_ hkw b1 a2 b2;by_cases q:j=s.n
    . have q':j'≠s.n:=fun z=>ja (q.trans z.symm);rw[a3 q,(b4 q').1];exact fun z=>(b4 q').2 z.symm
    . by_cases q':j'=s.n
      . rw[(a4 q).1,b3 q'];exact(a4 q).2
      . rw[(a4 q).1,(b4 q').1];exact ja
  . by_cases q:j=s.n
    . rw[q,e2n]at ej;simp only[aq,aF]at ej;obtain⟨rfl,_⟩:=ej;exact g.oy _ _ _ em
    . rw[e2 j q]at ej;exact g.oy _ _ _ ej
  . by_cases q2:j=s.n
    . rw[q2,e2n]at ej;simp only[aq,aF]at ej;obtain⟨rfl,_⟩:=ej;exact(g.iu _ c q).2 m sm Ul em
    . rw[e2 j q2]at ej;exact(g.iu b c q).2 j x (hw j hj q2) ej
 refine⟨Nat.le_succ_of_le hn,E2,⟨pP,fun j hj=>?_,mq lj r.F,r.size,jB lj _ _ r.gZ⟩,?_⟩
 . have hj:s.n+1<=j:=hj;rw[e2 j G];exact r.qd j (Nat.le_of_succ_le hj)
 . refine⟨fun j b x _ ej=>lj.nm j b x ej,fun j hj=>e2 j G,fun _ _ q=>q,pP,aK _,rfl,rfl,rfl,fun _ _ _=>rfl,fun j b x hj ej _=>?_,fun _ _ q=>.inl q⟩;obtain⟨k,x1,a1,a2,a3,a4⟩:=hor j b x hj ej;refine⟨k,x1,a1,a2,fun z=>?_⟩;by_cases q:j=s.n
   . rw[a3 q];exact Ul
   . rw[(a4 q).1];exact hw j z q
mutual
def V.nl:V->V
 | .eS none len c e=>match len with
   |0=>.eo false 0 []
   |_=>.eS none len c e
 | .eo _ n T=>.eo false n T
 | .agg T=>.agg (V.lE T)
 | .gC T=>.gC (V.lE T)
 |v=>v
def V.lE:ag->ag
 | []=>[]
 |x::xs=>x.nl::V.lE xs
end
mutual
theorem zm{E:Env}:∀(v:V) (v':Value),dQ E v v'->dQ E v.nl v'
 | .eS none 0 _ _,_,⟨_,_,e⟩=>by
   rw[e];exact⟨⟨none,0,[],rfl,aK _,rfl,fun _=>rfl,fun h=>absurd h (cZ _)⟩,fun h=>by cases h⟩
 | .eS none (_+1) _ _,_,r=>r
 | .eo _ _ _,_,r=>⟨r.1,fun h=>by cases h⟩
 | .agg T,_,⟨cs',r,q⟩=>⟨cs',s9 T cs' r,q⟩
 | .gC T,_,⟨cs',r,q⟩=>⟨cs',s9 T cs' r,q⟩
 | .bool _,_,r=>r
 | .int _ _,_,r=>r
 | .str _,_,r=>r
 | .ptr _,_,r=>r
 | .eS (some _) _ _ _,_,r=>r
 | .map _,_,r=>r
 | .fn _ _ _,_,r=>r
 | .kz,_,r=>r
 | .iface _ _,_,r=>r
 | .nilIface,_,r=>r
 | .dr _,_,r=>r
theorem s9{E:Env}:∀(v:ag) (v':List Value),dV E v v'->dV E (V.lE v) v'
 | [],_,r=>r
 |x::xs,_,⟨y,ys,r,rs,q⟩=>⟨y,ys,zm x y r,s9 xs ys rs,q⟩
end
theorem dS.nl{P:Program}{f:FuncId}{args:ag}{v:V}(h:dS P f args v):dS P f args v.nl:=fun E h' n w dF ra g hd=>
 (h E h' n w dF ra g hd).mono fun en w' ⟨E1,u,fq,M2,De,ho⟩=>⟨E1,u,fq,M2,De,by
  cases en with
  |returned v'=>exact zm v v' ho
  |panicked _=>exact ho.elim
  |outgrown=>exact ho.elim⟩
def eZ(f0:FuncId)(kM:ag)(v:V)(hm:gy):gy:=fun f args h n=>match Nat.beq f f0 with
 |true=>some ([V.lE args=kM],v,h,n)
 |false=>hm f args h n
theorem Si{P:Program}{f0:FuncId}{kM:ag}{v:V}{hm:gy}(eM:Nat.blt f0 P.funcs.size=true)(K:dS P f0 kM v)(hS:eR P hm):eR P (eZ f0 kM v hm):=by
 intro f args h n s' v' h' n' e;unfold eZ at e;split at e
 . rename_i hb;have hb:=aA hb;subst hb;simp only[aq,aF]at e;obtain⟨rfl,rfl,rfl,rfl⟩:=e;refine⟨az eM,fun hA E w dF ra g hd _=>?_⟩;obtain rfl:=hA _ (aG.2 rfl);exact K E h n w dF (s9 _ _ ra) g hd
 . exact hS f args h n s' v' h' n' e
def vh(v:V)(u:V)(h:I O)(n:Nat):Prop:=∃v0,Oy v0 u h n/\v0.deep=true/\v0.nl=v
theorem vh.self{v u:V}{h:I O}{n:Nat}(hd:u.deep=true)(e:u.nl=v):vh v u h n:=⟨u,.self,hd,e⟩
def V5(ms:List Nat)(u:V)(h:I O)(n:Nat):Option (ah×V):=match M5 ms { F:=I.nil.set 0 (some u),h:=h,n:=n,gZ:=[] }with
 |some (s',s2)=>match s2.F.get 0 with
  |some v=>some (s',v)
  |none=>none
 |none=>none
theorem vh.Cs{v u v0:V}{h:I O}{n:Nat}(ms:List Nat){s':ah}(e:V5 ms u h n=some (s',v0))(hA:∀a∈s',a)(hd:v0.deep=true)(en:v0.nl=v):vh v u h n:=by
 unfold V5 at e;split at e
 case h_2=>cases e
 rename_i A1 s2 Q;split at e
 case h_2=>cases e
 rename_i v1 R;simp only[aq,aF]at e;obtain⟨rfl,rfl⟩:=e;exact⟨v1,⟨[ms],A1++[],s2,by simp only[Mm,Q],fun a ha=>hA a (by simpa using ha),R⟩,hd,en⟩
theorem dS.agN{P:Program}(S:P.follows .mixedOrders=true)(r9:jC P=true){f:FuncId}{fn:Func}{code:Code}(hf:P.funcs[f]? =some fn)(hb:fn.body=some code){args:ag}
  (l:(Nat.ble args.length fn.ntmps&&Nat.blt fn.ntmps fV)=true) {v:V} (Sc:V.pX args=true) (hT:TG P gN fn.ntmps code (dw args .nil gN) (fD P gN fn (vh v))):dS P f args v:=by
 intro E h n w dF ra g hd;have g0:Good (AW E.φ) .nil w:=wA g.wg g.fz;have ra0:dV (AW E.φ) args dF:=lD (E:=E) (E':=AW E.φ) (fun _ _ q=>q) _ _ Sc ra;refine(qw S r9 hf hb l _ hT ra0 g0 (B6 (aK _))).mono fun e w' ⟨u,h',n',⟨v0,hz,hv,hn⟩,k⟩=>?_;obtain⟨E1,u,fq,M2,De,ho⟩:=Cq (E1:=AW E.φ) g hd rfl wG hv hz k;refine⟨E1,u,fq,M2,De,?_⟩;subst hn;cases e with
 |returned v'=>exact zm v0 v' ho
 |panicked _=>exact ho.elim
 |outgrown=>exact ho.elim
def O.nl:O->O
 | .cells T=>.cells (V.lE T)
 |o=>o
def Zl:I V->I V
 | .nil=>.nil
 | .node v l r=>.node (v.map V.nl) (Zl l) (Zl r)
def Uz:I O->I O
 | .nil=>.nil
 | .node v l r=>.node (v.map O.nl) (Uz l) (Uz r)
theorem Fj:∀(t:I V) (k:Nat),(Zl t).get k=(t.get k).map V.nl
 | .nil,_=>rfl
 | .node v l r,k=>by
   simp only[Zl,I.get];split
   . rfl
   . split
     . exact Fj l _
     . exact Fj r _
theorem vi:∀(t:I O) (k:Nat),(Uz t).get k=(t.get k).map O.nl
 | .nil,_=>rfl
 | .node v l r,k=>by
   simp only[Uz,I.get];split
   . rfl
   . split
     . exact vi l _
     . exact vi r _
theorem KT:∀(l:ag) (i:Nat),(V.lE l)[i]? =(l[i]?).map V.nl
 | [],_=>by simp[V.lE]
 |x::l,0=>by simp[V.lE]
 |x::l,i+1=>by simpa[V.lE]using KT l i
theorem Sj{E:Env}{w:World}{b s:Nat}{o:O}(r:nA E w b s o):nA E w b s o.nl:=by
 cases o with
 |cells T=>
  obtain⟨c,el,fz,Q,R,h3,h4⟩:=r;refine⟨c,el,fz,Q,R,h3,fun i v hv=>?_⟩;rw[KT]at hv;cases K:T[i]? with
  |none=>rw[K]at hv;cases hv
  |some u=>
   rw[K]at hv;simp only[bu,aq]at hv;subst hv;obtain⟨v',k1,k2⟩:=h4 i u K;exact⟨v',k1,zm u v' k2⟩
 |_=>exact r
theorem OJ(o:O):o.nl.wr=o.wr:=by cases o<;>rfl
def nlS(s:St):St:={ s with F:=Zl s.F,h:=Uz s.h }
theorem Step.nl{N:Nat}{s:St}:Step N s (nlS s):=fun n0 E a w r hn=>by
 have iP:∀m,eL (Uz s.h) m↔eL s.h m:=fun m=>by
  constructor
  . rintro⟨o,Q,R⟩;rw[vi]at Q;cases h0:s.h.get m with
    |none=>rw[h0]at Q;cases Q
    |some o0=>
     rw[h0]at Q;simp only[bu,aq]at Q;subst Q;exact⟨o0,h0,by rw[OJ]at R;exact R⟩
  . rintro⟨o,Q,R⟩;exact⟨o.nl,by rw[vi,Q];rfl,by rw[OJ];exact R⟩
 have ja:∀m,(Uz s.h).get m≠none↔s.h.get m≠none:=fun m=>by
  rw[vi];cases s.h.get m<;>simp
 have g:Good E (Uz s.h) w:=by
  refine⟨fun m o S=>?_,fun m m' b s1 s2 L6 S qe=>r.good.inj m m' b s1 s2 L6 ((iP m).1 S) ((ja m').1 qe),r.good.oy,r.good.kg,fun b c q=>⟨(r.good.iu b c q).1,fun m s1 S=>(r.good.iu b c q).2 m s1 ((iP m).1 S)⟩⟩;rw[vi]at S;cases h0:s.h.get m with
  |none=>rw[h0]at S;cases S
  |some o0=>
   rw[h0]at S;simp only[bu,aq]at S;subst S;obtain⟨b,s1,k1,k2⟩:=r.good.rel m o0 h0;exact⟨b,s1,k1,Sj k2⟩
 refine⟨hn,E,⟨g,r.qd,fun t v hv=>?_,r.size,r.gZ⟩,⟨fun _ _ _ _ e=>⟨e,rfl⟩,fun _ _=>rfl,fun _ _ q=>q,g,aK _,rfl,rfl,rfl,fun _ _ _=>rfl,fun m b s1 S e1 _=>⟨m,s1,(ja m).1 S,e1,(iP m).1⟩,fun _ _ q=>.inl q⟩⟩;have hv:(Zl s.F).get t=some v:=hv;rw[Fj]at hv;cases h0:s.F.get t with
 |none=>rw[h0]at hv;cases hv
 |some u=>
  rw[h0]at hv;simp only[bu,aq]at hv;subst hv;obtain⟨v',k1,k2⟩:=r.F t u h0;exact⟨v',k1,zm u v' k2⟩
theorem dZ.nl{P:Program}{N n0:Nat}{s hm:St}(e:nlS s=hm):dZ P N n0 s hm:=e▸ .step .nl
def Zm(is:List Nat):Nat->ag->ag
 |_,[]=>[]
 |i,x::r=>(match is.any (Nat.beq i)with|true=>x.nl|false=>x)::Zm is (i+1) r
theorem KU(is:List Nat):∀(l:ag) (i j:Nat) (v:V),(Zm is i l)[j]? =some v->∃u,l[j]? =some u/\(v=u\/v=u.nl)
 | [],_,_,_,h=>by simp[Zm]at h
 |x::l,i,0,v,h=>by
  simp only[Zm,cG,aq]at h;subst h;refine⟨x,rfl,?_⟩;split<;>simp
 |x::l,i,j+1,v,h=>by
  simp only[Zm,List.getElem?_cons_succ]at h ⊢;exact KU is l (i+1) j v h
def Sk(m:Nat)(is:List Nat)(s:St):Option St:=match Nat.blt m fV,s.h.get m with
 |true,some (.cells T)=>some { s with h:=s.h.set m (some (.cells (Zm is 0 T))) }
 |_,_=>none
theorem Step.Sk{N:Nat}{s hm:St}(m:Nat)(is:List Nat)(e:Go.Eng.Sk m is s=some hm):Step N s hm:=by
 unfold Go.Eng.Sk at e;split at e
 case h_2=>cases e
 rename_i T ht S;obtain rfl:=eB e;refine Step.mem fun E w g=>o9 (az ht) S rfl (fun b s1 _ q=>?_) g;obtain⟨c,el,fz,Q,R,h3,h4⟩:=q;refine⟨c,el,fz,Q,R,h3,fun j v hv=>?_⟩;obtain⟨u,k1,k2⟩:=KU is T 0 j v hv;obtain⟨v',q1,q2⟩:=h4 j u k1;rcases k2 with rfl|rfl
 . exact⟨v',q1,q2⟩
 . exact⟨v',q1,zm u v' q2⟩
def OK:ag->List Nat
 | []=>[]
 | .eS (some (m,_)) _ _ _::r=>m::OK r
 |_::r=>OK r
def rbA(F:I V):Nat->Nat->Option (ag)
 |_,0=>some []
 |i,k+1=>match F.get i with
  |some v=>match rbA F (i+1) k with
   |some l=>some (v::l)
   |none=>none
  |none=>none
theorem Hv{F:I V}:∀(k i:Nat) (l:ag),rbA F i k=some l->l.length=k/\∀(j:Nat) (v:V),l[j]? =some v->F.get (i+j)=some v
 |0,i,l,e=>by simp only[rbA,aq]at e;subst e;simp
 |k+1,i,l,e=>by
  simp only[rbA]at e;split at e
  case h_2=>cases e
  rename_i v hv;split at e
  case h_2=>cases e
  rename_i l' hl;obtain rfl:=eB e;obtain⟨Q,R⟩:=Hv k (i+1) l' hl;refine⟨by simp[Q],fun j u hj=>?_⟩;cases j with
  |zero=>simp at hj;subst hj;exact hv
  |succ j=>
   have:=R j u (by simpa using hj);rw[<- this];congr 1;omega
def OL(f0:FuncId)(kM:ag)(v:V)(hm:gy):gy:=fun f args h n=>match Nat.beq f f0 with
 |true=>match Nat.blt args.length fV with
  |true=>match M5 (OK args) (dw args h n)with
   |some (s',s2)=>match rbA s2.F 0 args.length,Nat.beq s2.n n with
    |some mZ,true=>some (s'++[V.lE mZ=kM],v,s2.h,n)
    |_,_=>none
   |none=>none
  |false=>none
 |false=>hm f args h n
theorem Fk{P:Program}{f0:FuncId}{kM:ag}{v:V}{hm:gy}(eM:Nat.blt f0 P.funcs.size=true)(K:dS P f0 kM v)(hS:eR P hm):eR P (OL f0 kM v hm):=by
 intro f args h n s' v' h' n' e;unfold OL at e;split at e
 case h_2=>exact hS f args h n s' v' h' n' e
 rename_i hb;have hb:=aA hb;subst hb;split at e
 case h_2=>cases e
 rename_i V6;have V6:args.length<fV:=az V6;split at e
 case h_2=>cases e
 rename_i A1 s2 C9;split at e
 case h_2=>cases e
 rename_i mZ hrb hn;simp only[aq,aF]at e;obtain⟨rfl,rfl,rfl,rfl⟩:=e;have hn:=aA hn;refine⟨az eM,fun hA E w dF ra g hd _=>?_⟩;obtain⟨vb,mg⟩:=nM (n:=args.length) ra (aK _) V6;have r:jT E args.length (dw args h n) { tmps:=dF.toArray++Array.replicate (args.length-dF.toArray.size) undef,defers:=[] } w:=⟨g,hd,vb,mg,rfl⟩;obtain⟨E2,r2,u,_,iS⟩:=o8 (N:=n) C9 (fun a ha=>hA a (by simp[ha])) r (aK _);obtain⟨k1,k2⟩:=Hv _ _ _ hrb;have V2:dF.length=args.length:=eP ra;have Up:dV E2 mZ dF:=by
  refine iZ G fun i v hv=>?_;have hi:i<mZ.length:=(aO.1 hv).1;obtain⟨v',q1,q2⟩:=r2.F i v (by have:=k2 i v hv;rwa [b5]at this);refine⟨v',?_,q2⟩;rw[b6 (by simp;omega)]at q1;simpa using q1
 have he:V.lE mZ=kM:=hA _ (by simp);subst he;refine(K E2 s2.h n w dF (s9 _ _ Up) r2.good (hn▸r2.qd)).mono fun en w' ⟨E3,u3,fq,hd3,Iu,ho⟩=>⟨E3,?_,fun m S=>(fq m S).trans (iS m),hd3,Iu,ho⟩;exact(u.trans (kK.of u3 fq (aK _))).tA hd
end Go.Eng
