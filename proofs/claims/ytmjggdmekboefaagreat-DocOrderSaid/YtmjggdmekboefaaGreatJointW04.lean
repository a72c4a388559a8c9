/- Lemmas of the engine. No conditions. -/
import Derived.Test.YtmjggdmekboefaaGreatJointW03
import Derived.Maps.RangeRun
set_option linter.unusedVariables false
set_option linter.unusedSimpArgs false
set_option linter.unusedSectionVars false
set_option maxRecDepth 10000
namespace Go.Eng
open Go Go.RowKit
mutual
def V.deep:V->Bool
 | .ptr (some _)=>false
 | .eR (some _) _ _ _=>false
 | .map (some _)=>false
 | .fn f a c=>vn f&&(V.qi a&&V.qi c)
 | .iface _ x=>V.deep x
 | .agg R=>V.qi R
 | .gw R=>V.qi R
 |_=>true
def V.qi:ag->Bool
 | []=>true
 |x::xs=>V.deep x&&V.qi xs
end
mutual
theorem CK{E E':Env}(kO:∀b c,E.φ b=some c->E'.φ b=some c):∀(v:V) (v':Value),v.deep=true->dV E v v'->dV E' v v'
 | .bool _,_,_,r=>r
 | .int _ _,_,_,r=>r
 | .str _,_,_,r=>r
 | .ptr none,_,_,r=>r
 | .ptr (some _),_,h,_=>by simp[V.deep]at h
 | .eR none _ _ _,_,_,r=>r
 | .eR (some _) _ _ _,_,h,_=>by simp[V.deep]at h
 | .map none,_,_,r=>r
 | .map (some _),_,h,_=>by simp[V.deep]at h
 | .fn f a c,_,h,⟨f',a',c',rf,ra,rc,q⟩=>by
   simp only[V.deep,ay]at h;refine⟨f',a',c',?_,lG kO a a' h.2.1 ra,lG kO c c' h.2.2 rc,q⟩;cases f<;>first|exact rf|(simp[vn]at h;done)
 | .kG,_,_,r=>r
 | .iface _ x,_,h,⟨x',r,q⟩=>⟨x',CK kO x x' (by simpa only[V.deep]using h) r,q⟩
 | .nilIface,_,_,r=>r
 | .agg R,_,h,⟨cs',r,q⟩=>⟨cs',lG kO R cs' (by simpa only[V.deep]using h) r,q⟩
 | .gw R,_,h,⟨cs',r,q⟩=>⟨cs',lG kO R cs' (by simpa only[V.deep]using h) r,q⟩
 | .eB _ _ _,_,_,r=>⟨mw kO _ _ r.1,r.2⟩
 | .dx R,_,_,⟨b,o,c,vs,e,e1,r,q⟩=>⟨b,o,c,vs,e,kO _ _ e1,iC kO R vs r,q⟩
theorem lG{E E':Env}(kO:∀b c,E.φ b=some c->E'.φ b=some c):∀(v:ag) (v':List Value),V.qi v=true->dZ E v v'->dZ E' v v'
 | [],_,_,r=>r
 |x::xs,_,h,⟨y,ys,r,rs,q⟩=>by
  simp only[V.qi,ay]at h;exact⟨y,ys,CK kO x y h.1 r,lG kO xs ys h.2 rs,q⟩
end
section
variable(n0:Nat->Option (ai))
mutual
def AF:V->Option (ah×V)
 | .eR (some (m,o)) len jO jv=>match n0 m with
   |some R=>match o with
    |0=>some ([R.length=len*jv],.eB false len R)
    |o+1=>some ([],.eB false len ((R.drop (o+1)).take (len*jv)))
   |none=>some ([],.eR (some (m,o)) len jO jv)
 | .ptr (some (m,o))=>match n0 m with
   |some _=>none
   |none=>some ([],.ptr (some (m,o)))
 | .map (some m)=>match n0 m with
   |some _=>none
   |none=>some ([],.map (some m))
 | .fn f a c=>match f with
   | .yield m=>match n0 m with
     |some _=>none
     |none=>match vM a with
      |some (aj,a)=>match vM c with
       |some (hc,c)=>some (aj++hc,.fn (.yield m) a c)
       |none=>none
      |none=>none
   |f=>match vM a with
    |some (aj,a)=>match vM c with
     |some (hc,c)=>some (aj++hc,.fn f a c)
     |none=>none
    |none=>none
 | .iface t x=>match AF x with
   |some (aj,x)=>some (aj,.iface t x)
   |none=>none
 | .agg R=>match vM R with
   |some (aj,R)=>some (aj,.agg R)
   |none=>none
 | .gw R=>match vM R with
   |some (aj,R)=>some (aj,.gw R)
   |none=>none
 | .bool b=>some ([],.bool b)
 | .int k n=>some ([],.int k n)
 | .str s=>some ([],.str s)
 | .ptr none=>some ([],.ptr none)
 | .eR none l c e=>some ([],.eR none l c e)
 | .map none=>some ([],.map none)
 | .kG=>some ([],.kG)
 | .nilIface=>some ([],.nilIface)
 | .eB f n R=>some ([],.eB f n R)
 | .dx R=>some ([],.dx R)
def vM:ag->Option (ah×ag)
 | []=>some ([],[])
 |x::xs=>match AF x with
  |some (aj,x)=>match vM xs with
   |some (hc,xs)=>some (aj++hc,x::xs)
   |none=>none
  |none=>none
end
end
def WJ(n0:Nat->Option (ai))(E:Env)(φ:Nat->Option (Array Value)):Prop:=
 ∀m R,n0 m=some R->∀b s,E.ι m=some (b,s)->∃c vs,φ b=some c/\iS φ R vs/\∀(j:Nat) (x:Value),vs[j]? =some x->c[s+j]? =some x
section
variable{n0:Nat->Option (ai)}{E E':Env}(hF:WJ n0 E E'.φ)(iY:∀m,E'.ι m=E.ι m)(oH:E'.β=E.β)(kO:∀b c,E.φ b=some c->E'.φ b=some c)
include hF iY oH kO
mutual
theorem tv:∀(v v2:V) (aj:ah) (v':Value),AF n0 v=some (aj,v2)->(∀a∈aj,a)->dV E v v'->dV E' v2 v'
 | .bool _,v2,aj,_,h,_,r=>by simp only[AF,aq,aF]at h;obtain⟨rfl,rfl⟩:=h;exact r
 | .int _ _,v2,aj,_,h,_,r=>by simp only[AF,aq,aF]at h;obtain⟨rfl,rfl⟩:=h;exact r
 | .str _,v2,aj,_,h,_,r=>by simp only[AF,aq,aF]at h;obtain⟨rfl,rfl⟩:=h;exact r
 | .ptr none,v2,aj,_,h,_,r=>by simp only[AF,aq,aF]at h;obtain⟨rfl,rfl⟩:=h;exact r
 | .eR none _ _ _,v2,aj,_,h,_,r=>by simp only[AF,aq,aF]at h;obtain⟨rfl,rfl⟩:=h;exact r
 | .map none,v2,aj,_,h,_,r=>by simp only[AF,aq,aF]at h;obtain⟨rfl,rfl⟩:=h;exact r
 | .kG,v2,aj,_,h,_,r=>by simp only[AF,aq,aF]at h;obtain⟨rfl,rfl⟩:=h;exact r
 | .nilIface,v2,aj,_,h,_,r=>by simp only[AF,aq,aF]at h;obtain⟨rfl,rfl⟩:=h;exact r
 | .eB f n R,v2,aj,_,h,_,r=>by
   simp only[AF,aq,aF]at h;obtain⟨rfl,rfl⟩:=h;exact⟨mw kO _ _ r.1,r.2⟩
 | .dx R,v2,aj,_,h,_,⟨b,o,c,vs,e,e1,r,q⟩=>by
   simp only[AF,aq,aF]at h;obtain⟨rfl,rfl⟩:=h;exact⟨b,o,c,vs,e,kO _ _ e1,iC kO R vs r,q⟩
 | .ptr (some (m,o)),v2,aj,_,h,_,⟨b,s,e,q⟩=>by
   simp only[AF]at h;split at h
   . cases h
   . obtain⟨rfl,rfl⟩:=ga h;exact⟨b,s,(iY m).trans e,q⟩
 | .map (some m),v2,aj,_,h,_,⟨b,e,q⟩=>by
   simp only[AF]at h;split at h
   . cases h
   . obtain⟨rfl,rfl⟩:=ga h;exact⟨b,(iY m).trans e,q⟩
 | .eR (some (m,o)) len jO jv,v2,aj,_,h,hA,⟨b,s,o',gx,e,q1,q2,q3,q4,q5⟩=>by
   simp only[AF]at h;split at h
   . rename_i R qq;obtain⟨c,vs,k1,k2,k3⟩:=hF m R qq b s e;have key:∀(ds:ai) (us:List Value),iS E'.φ ds us->(len=0->ds=[])->(0<len->∀(j:Nat) (x:Value),us[j]? =some x->c[s+o+j]? =some x)->dV E' (.eB false len ds) (.slice (some ⟨b,o',none⟩) len gx):=by
      intro ds us Q O h3;refine⟨⟨_,gx,us,rfl,H,Q,O,fun hp=>⟨b,o',c,rfl,k1,?_⟩⟩,fun q=>by cases q⟩;rw[q1 H];exact h3 hp
     split at h
     . obtain⟨rfl,rfl⟩:=ga h;rw[q5];have hl:R.length=len*jv:=hA _ (aH.2 rfl);refine key R vs k2 (fun z=>?_) (fun _ j x I=>by rw[Nat.add_zero];exact k3 j x I);rw[z,Nat.zero_mul]at hl;exact List.length_eq_zero_iff.1 hl
     . rename_i o;obtain⟨rfl,rfl⟩:=ga h;rw[q5];refine key _ _ (sJ (nD k2)) (fun z=>by rw[z];simp) (fun _ j x I=>?_);rw[bS]at I;split at I
       . rw[bU]at I;rw[<- k3 _ x I,Nat.add_assoc]
       . cases I
   . obtain⟨rfl,rfl⟩:=ga h;exact⟨b,s,o',gx,(iY m).trans e,q1,q2,q3,by rw[oH];exact q4,q5⟩
 | .fn f a c,v2,aj,_,h,hA,⟨f',a',c',rf,ra,rc,q⟩=>by
   simp only[AF]at h;split at h
   . rename_i m;split at h
     . cases h
     . split at h
       case h_2=>cases h
       rename_i A1 a2 ha;split at h
       case h_2=>cases h
       rename_i B1 c2 B;obtain⟨rfl,rfl⟩:=ga h;obtain⟨l,s,e,q2⟩:=rf;exact⟨f',a',c',⟨l,s,(iY m).trans e,q2⟩,lj a a2 A1 a' ha (fun x I=>hA x (bg.2 (.inl I))) ra,lj c c2 B1 c' B (fun x I=>hA x (bg.2 (.inr I))) rc,q⟩
   . rename_i iV;split at h
     case h_2=>cases h
     rename_i A1 a2 ha;split at h
     case h_2=>cases h
     rename_i B1 c2 B;obtain⟨rfl,rfl⟩:=ga h;refine⟨f',a',c',?_,lj a a2 A1 a' ha (fun x I=>hA x (bg.2 (.inl I))) ra,lj c c2 B1 c' B (fun x I=>hA x (bg.2 (.inr I))) rc,q⟩;cases f<;>first|exact rf|exact(iV _ rfl).elim
 | .iface t x,v2,aj,_,h,hA,⟨x',r,q⟩=>by
   simp only[AF]at h;split at h
   . rename_i A1 x2 I;obtain⟨rfl,rfl⟩:=ga h;exact⟨x',tv x x2 _ x' I hA r,q⟩
   . cases h
 | .agg R,v2,aj,_,h,hA,⟨cs',r,q⟩=>by
   simp only[AF]at h;split at h
   . rename_i A1 x2 I;obtain⟨rfl,rfl⟩:=ga h;exact⟨cs',lj R x2 _ cs' I hA r,q⟩
   . cases h
 | .gw R,v2,aj,_,h,hA,⟨cs',r,q⟩=>by
   simp only[AF]at h;split at h
   . rename_i A1 x2 I;obtain⟨rfl,rfl⟩:=ga h;exact⟨cs',lj R x2 _ cs' I hA r,q⟩
   . cases h
theorem lj:∀(v v2:ag) (aj:ah) (v':List Value),vM n0 v=some (aj,v2)->(∀a∈aj,a)->dZ E v v'->dZ E' v2 v'
 | [],v2,aj,_,h,_,r=>by simp only[vM,aq,aF]at h;obtain⟨rfl,rfl⟩:=h;exact r
 |x::xs,v2,aj,_,h,hA,⟨y,ys,r,rs,q⟩=>by
  simp only[vM]at h;split at h
  case h_2=>cases h
  rename_i A1 x2 I;split at h
  case h_2=>cases h
  rename_i B1 MR B8;obtain⟨rfl,rfl⟩:=ga h;exact⟨y,ys,tv x x2 A1 y I (fun a ha=>hA a (bg.2 (.inl ha))) r,lj xs MR B1 ys B8 (fun a ha=>hA a (bg.2 (.inr ha))) rs,q⟩
end
end
def CL:h2->Option (ai)
 | .deep R=>some R
 | .own k Y=>some (Y.map (.int k))
 | .cells R=>iu R
 |_=>none
section
variable(n0:Nat->Option (ai))
def CM:J V->Option (ah×J V)
 | .nil=>some ([],.nil)
 | .node v l r=>match(match v with
    |none=>some ([],none)
    |some v=>match AF n0 v with
     |some (aj,v)=>some (aj,some v)
     |none=>none:Option (ah×Option V))with
   |some (aj,v)=>match CM l with
    |some (hc,l)=>match CM r with
     |some (be,r)=>some (aj++(hc++be),.node v l r)
     |none=>none
    |none=>none
   |none=>none
def O8:List (V×V×Nat)->Option (ah×List (V×V×Nat))
 | []=>some ([],[])
 |x::xs=>match AF n0 x.1 with
  |some (aj,k)=>match AF n0 x.2.1 with
   |some (hc,v)=>match O8 xs with
    |some (be,xs)=>some (aj++(hc++be),(k,v,x.2.2)::xs)
    |none=>none
   |none=>none
  |none=>none
def GL:h2->Option (ah×h2)
 | .cells R=>match vM n0 R with
   |some (aj,R)=>some (aj,.cells R)
   |none=>none
 | .map T c=>match O8 n0 T with
   |some (aj,T)=>some (aj,.map T c)
   |none=>none
 | .nv s p=>some ([],.nv s p)
 | .ints k Y=>some ([],.ints k Y)
 | .own k Y=>some ([],.own k Y)
 | .deep R=>some ([],.deep R)
 | .tJ e f s=>some ([],.tJ e f s)
 | .AS t s x=>match AF n0 x with
   |some (aj,x)=>some (aj,.AS t s x)
   |none=>none
 | .gl k T=>some ([],.gl k T)
 | .oJ k T=>some ([],.oJ k T)
 | .tY=>some ([],.tY)
 | .loop st pe N ps a b=>match CM n0 N with
   |some (aj,N)=>some (aj,.loop st pe N ps a b)
   |none=>none
def EC:J h2->Option (ah×J h2)
 | .nil=>some ([],.nil)
 | .node v l r=>match(match v with
    |none=>some ([],none)
    |some v=>match GL n0 v with
     |some (aj,v)=>some (aj,some v)
     |none=>none:Option (ah×Option h2))with
   |some (aj,v)=>match EC l with
    |some (hc,l)=>match EC r with
     |some (be,r)=>some (aj++(hc++be),.node v l r)
     |none=>none
    |none=>none
   |none=>none
def O9:List (FuncId×ag×ag)->Option (ah×List (FuncId×ag×ag))
 | []=>some ([],[])
 |x::xs=>match vM n0 x.2.1 with
  |some (aj,c)=>match vM n0 x.2.2 with
   |some (hc,a)=>match O9 xs with
    |some (be,xs)=>some (aj++(hc++be),(x.1,c,a)::xs)
    |none=>none
   |none=>none
  |none=>none
end
def WK(h:J h2)(ms:List Nat)(m:Nat):Option (ai):=match ms.any (Nat.beq m)with
 |true=>match h.get m with
  |some o=>CL o
  |none=>none
 |false=>none
def Lp(h:J h2):List Nat->Bool
 | []=>true
 |m::ms=>Nat.blt m fZ&&((match h.get m with|some o=>(match CL o with|some _=>true|none=>false)|none=>false)&&Lp h ms)
def yg:List Nat->J h2->J h2
 | [],h=>h
 |m::ms,h=>yg ms (h.set m none)
def NV(ms:List Nat)(s:St):Option (ah×St):=match Lp s.h ms with
 |true=>match CM (WK s.h ms) s.N with
  |some (aj,N)=>match EC (WK s.h ms) s.h with
   |some (hc,h)=>match O9 (WK s.h ms) s.ij with
    |some (be,d)=>some (aj++(hc++be),{ N:=N,h:=yg ms h,n:=s.n,ij:=d })
    |none=>none
   |none=>none
  |none=>none
 |false=>none
theorem vB{n0:Nat->Option (ai)}:∀(t t2:J V) (aj:ah),CM n0 t=some (aj,t2)->∀k v2,t2.get k=some v2->∃v hc,t.get k=some v/\AF n0 v=some (hc,v2)/\∀b∈hc,b∈aj
 | .nil,t2,aj,h,k,v2,W=>by simp only[CM,aq,aF]at h;obtain⟨_,rfl⟩:=h;simp[J.get]at W
 | .node v l r,t2,aj,h,k,v2,W=>by
   simp only[CM]at h;split at h
   case h_2=>cases h
   rename_i A1 v1 Q;split at h
   case h_2=>cases h
   rename_i B1 l1 hl;split at h
   case h_2=>cases h
   rename_i C1 r1 hr;obtain⟨rfl,rfl⟩:=ga h;simp only[J.get]at W ⊢;split at W
   . subst W;cases v with
     |none=>simp at Q
     |some v=>
      simp only at Q;split at Q
      . rename_i A0 v0 h0;simp only[aF,aq]at Q;obtain⟨rfl,rfl⟩:=Q;exact⟨v,A0,rfl,h0,fun b hb=>bg.2 (.inl hb)⟩
      . cases Q
   . rename_i k;split at W
     . rename_i ahP;obtain⟨v,hc,q1,q2,q3⟩:=vB l l1 B1 hl _ v2 W;exact⟨v,hc,q1,q2,fun b hb=>bg.2 (.inr (bg.2 (.inl (q3 b hb))))⟩
     . rename_i ahP;obtain⟨v,hc,q1,q2,q3⟩:=vB r r1 C1 hr _ v2 W;exact⟨v,hc,q1,q2,fun b hb=>bg.2 (.inr (bg.2 (.inr (q3 b hb))))⟩
theorem zy{n0:Nat->Option (ai)}:∀(t t2:J h2) (aj:ah),EC n0 t=some (aj,t2)->∀k v2,t2.get k=some v2->∃v hc,t.get k=some v/\GL n0 v=some (hc,v2)/\∀b∈hc,b∈aj
 | .nil,t2,aj,h,k,v2,W=>by simp only[EC,aq,aF]at h;obtain⟨_,rfl⟩:=h;simp[J.get]at W
 | .node v l r,t2,aj,h,k,v2,W=>by
   simp only[EC]at h;split at h
   case h_2=>cases h
   rename_i A1 v1 Q;split at h
   case h_2=>cases h
   rename_i B1 l1 hl;split at h
   case h_2=>cases h
   rename_i C1 r1 hr;obtain⟨rfl,rfl⟩:=ga h;simp only[J.get]at W ⊢;split at W
   . subst W;cases v with
     |none=>simp at Q
     |some v=>
      simp only at Q;split at Q
      . rename_i A0 v0 h0;simp only[aF,aq]at Q;obtain⟨rfl,rfl⟩:=Q;exact⟨v,A0,rfl,h0,fun b hb=>bg.2 (.inl hb)⟩
      . cases Q
   . rename_i k;split at W
     . obtain⟨v,hc,q1,q2,q3⟩:=zy l l1 B1 hl _ v2 W;exact⟨v,hc,q1,q2,fun b hb=>bg.2 (.inr (bg.2 (.inl (q3 b hb))))⟩
     . obtain⟨v,hc,q1,q2,q3⟩:=zy r r1 C1 hr _ v2 W;exact⟨v,hc,q1,q2,fun b hb=>bg.2 (.inr (bg.2 (.inr (q3 b hb))))⟩
section
variable{n0:Nat->Option (ai)}{E E':Env}(hF:WJ n0 E E'.φ)(iY:∀m,E'.ι m=E.ι m)(oH:E'.β=E.β)(kO:∀b c,E.φ b=some c->E'.φ b=some c)
include hF iY oH kO
theorem H6:∀(T yR:List (V×V×Nat)) (aj:ah) (l:List MapEntry),O8 n0 T=some (aj,yR)->(∀a∈aj,a)->kI E T l->kI E' yR l
 | [],yR,aj,_,h,_,r=>by simp only[O8,aq,aF]at h;obtain⟨rfl,rfl⟩:=h;exact r
 |x::xs,yR,aj,_,h,hA,⟨y,ys,r1,r2,r3,rs,q⟩=>by
  simp only[O8]at h;split at h
  case h_2=>cases h
  rename_i A1 k W;split at h
  case h_2=>cases h
  rename_i B1 v hv;split at h
  case h_2=>cases h
  rename_i C1 MR B8;obtain⟨rfl,rfl⟩:=ga h;exact⟨y,ys,tv hF iY oH kO _ _ _ _ W (fun a ha=>hA a (by simp[ha])) r1,tv hF iY oH kO _ _ _ _ hv (fun a ha=>hA a (by simp[ha])) r2,r3,H6 xs MR C1 ys B8 (fun a ha=>hA a (by simp[ha])) rs,q⟩
theorem S3{w:World}{b s:Nat}:∀(o o2:h2) (aj:ah),GL n0 o=some (aj,o2)->(∀a∈aj,a)->nE E w b s o->nE E' w b s o2
 | .cells R,o2,aj,h,hA,⟨c,el,fz,Q,O,h3,h4⟩=>by
   simp only[GL]at h;split at h
   case h_2=>cases h
   rename_i A1 Wv qq;obtain⟨rfl,rfl⟩:=ga h;obtain⟨vs,k1,k2⟩:=rG.1 h4;exact⟨c,el,fz,Q,by rw[oH];exact O,h3,rG.2 ⟨vs,lj hF iY oH kO _ _ _ _ qq hA k1,k2⟩⟩
 | .map T cl,o2,aj,h,hA,⟨hs,fK,Q,O⟩=>by
   simp only[GL]at h;split at h
   case h_2=>cases h
   rename_i A1 yR Wc;obtain⟨rfl,rfl⟩:=ga h;exact⟨hs,fK,Q,H6 hF iY oH kO _ _ _ _ Wc hA O⟩
 | .nv st p,o2,aj,h,_,r=>by simp only[GL,aq,aF]at h;obtain⟨rfl,rfl⟩:=h;exact r
 | .ints k Y,o2,aj,h,_,⟨c,el,fz,Q,O,h3⟩=>by simp only[GL,aq,aF]at h;obtain⟨rfl,rfl⟩:=h;exact⟨c,el,fz,Q,by rw[oH];exact O,h3⟩
 | .own k Y,o2,aj,h,_,⟨c,el,fz,Q,O,h3,h4⟩=>by simp only[GL,aq,aF]at h;obtain⟨rfl,rfl⟩:=h;exact⟨c,el,fz,Q,by rw[oH];exact O,h3,vW h4⟩
 | .deep R,o2,aj,h,_,⟨c,el,fz,vs,Q,O,h3,h4,h5⟩=>by simp only[GL,aq,aF]at h;obtain⟨rfl,rfl⟩:=h;exact⟨c,el,fz,vs,Q,by rw[oH];exact O,h3,iC kO _ _ h4,h5⟩
 | .tJ el Ac t,o2,aj,h,_,⟨c,fz,xs,Q,h0,O,h3⟩=>by simp only[GL,aq,aF]at h;obtain⟨rfl,rfl⟩:=h;exact⟨c,fz,xs,Q,h0,by rw[oH];exact O,h3⟩
 | .AS t self x,o2,aj,h,hA,⟨hs,x',fz,Q,O,h3,h4⟩=>by
   simp only[GL]at h;split at h
   case h_2=>cases h
   rename_i A1 x2 I;obtain⟨rfl,rfl⟩:=ga h;exact⟨hs,x',fz,Q,by rw[oH];exact O,h3,tv hF iY oH kO _ _ _ _ I hA h4⟩
 | .gl kk T,o2,aj,h,_,⟨hs,fK,cl,Q,O⟩=>by simp only[GL,aq,aF]at h;obtain⟨rfl,rfl⟩:=h;exact⟨hs,fK,cl,Q,O.mono kO⟩
 | .oJ kk T,o2,aj,h,_,⟨hs,fK,Q,O⟩=>by simp only[GL,aq,aF]at h;obtain⟨rfl,rfl⟩:=h;exact⟨hs,fK,Q,O.mono kO⟩
 | .tY,o2,aj,h,_,r=>by simp only[GL,aq,aF]at h;obtain⟨rfl,rfl⟩:=h;exact r
 | .loop st pe N ps a b',o2,aj,h,hA,⟨r,Q,O,h3,h4,h5,h6,h7,h8⟩=>by
   simp only[GL]at h;split at h
   case h_2=>cases h
   rename_i A1 JI vy;obtain⟨rfl,rfl⟩:=ga h;refine⟨r,Q,O,h3,h4,h5,h6,fun t v e=>?_,h8⟩;obtain⟨v0,hc,q1,q2,q3⟩:=vB _ _ _ vy t v e;obtain⟨v',k1,k2⟩:=h7 t v0 q1;exact⟨v',k1,tv hF iY oH kO _ _ _ _ q2 (fun x I=>hA x (q3 x I)) k2⟩
theorem H7:∀(xs MR:List (FuncId×ag×ag)) (aj:ah) (ys:List Deferred),O9 n0 xs=some (aj,MR)->(∀a∈aj,a)->v8 E xs ys->v8 E' MR ys
 | [],MR,aj,_,h,_,r=>by simp only[O9,aq,aF]at h;obtain⟨rfl,rfl⟩:=h;exact r
 |x::xs,MR,aj,_,h,hA,⟨d,ys,r1,rs,q⟩=>by
  simp only[O9]at h;split at h
  case h_2=>cases h
  rename_i A1 c B;split at h
  case h_2=>cases h
  rename_i B1 a ha;split at h
  case h_2=>cases h
  rename_i C1 xs3 B8;obtain⟨rfl,rfl⟩:=ga h;refine⟨d,ys,?_,H7 xs xs3 C1 ys B8 (fun a ha=>hA a (by simp[ha])) rs,q⟩;rcases r1 with⟨I,c',a',q1,q2,q3⟩|⟨I,m,b,s,q1,q2,q3⟩
  . exact .inl ⟨I,c',a',lj hF iY oH kO _ _ _ _ B (fun a ha=>hA a (by simp[ha])) q1,lj hF iY oH kO _ _ _ _ ha (fun a ha=>hA a (by simp[ha])) q2,q3⟩
  . refine .inr ⟨I,m,b,s,?_,(iY m).trans q2,q3⟩;have q1:x.2.2=[V.map (some m)]:=q1;rw[q1]at ha;simp only[vM,AF]at ha;cases K:n0 m with
    |some _=>rw[K]at ha;cases ha
    |none=>rw[K]at ha;simp only[aq,aF]at ha;exact ha.2.symm
end
theorem WL{n0:Nat->Option (ai)}{o o2:h2}{aj:ah}(h:GL n0 o=some (aj,o2)):o2.wr=o.wr:=by
 cases o<;>simp only[GL]at h<;>(try split at h)<;>first|(simp only[aq,aF]at h;obtain⟨_,rfl⟩:=h;rfl)|cases h
theorem ED:∀(ms:List Nat) (h:J h2) (k:Nat),(∀m∈ms,m<fZ)->(yg ms h).get k=if k∈ms then none else h.get k
 | [],h,k,_=>by simp[yg]
 |m::ms,h,k,ht=>by
  rw[yg,ED ms _ k fun m K=>ht m (by simp[K]),J.fJ _ _ _ (ht m (by simp))];by_cases Q:k∈ms
  . simp[Q]
  . by_cases O:k=m
    . simp[O]
    . simp[Q,O]
theorem CN{h:J h2}:∀{ms:List Nat},Lp h ms=true->∀m∈ms,m<fZ/\∃o R,h.get m=some o/\CL o=some R
 | [],_,m,K=>by simp at K
 |x::ms,h,m,K=>by
  simp only[Lp,ay]at h;rcases aD.1 K with rfl|K
  . refine⟨az h.1,?_⟩;have:=h.2.1;split at this
    . rename_i o ho;split at this
      . rename_i R B;exact⟨o,R,ho,B⟩
      . cases this
    . cases this
  . exact CN h.2.2 m K
theorem Pa{h:J h2}{ms:List Nat}{m:Nat}{R:ai}(e:WK h ms m=some R):m∈ms/\∃o,h.get m=some o/\CL o=some R:=by
 unfold WK at e;split at e
 . rename_i ha;split at e
   . rename_i o ho;obtain⟨x,I,q⟩:=List.any_eq_true.1 ha;have:=aA q;subst this;exact⟨I,o,ho,e⟩
   . cases e
 . cases e
theorem Bt{o:h2}{R:ai}(h:CL o=some R):o.wr=true:=by cases o<;>simp[CL]at h<;>rfl
theorem H8{E:Env}{w:World}{b s:Nat}{o:h2}{R:ai}(h:CL o=some R)(r:nE E w b s o):∃c el fz vs,w.heap[b]? =some (.cells c el fz)/\iS E.φ R vs/\∀(j:Nat) (x:Value),vs[j]? =some x->c[s+j]? =some x:=by
 cases o<;>simp only[CL,aq,reduceCtorEq]at h
 . obtain⟨c,el,fz,Q,_,_,h4⟩:=r;obtain⟨vs,k1,k2⟩:=rG.1 h4;exact⟨c,el,fz,vs,Q,sL h k1,k2⟩
 . rename_i k Y;subst h;obtain⟨c,el,fz,Q,_,_,h4⟩:=r;have e:D.fQ (Y.map (.int k))=Y.map (.int k):=by rw[D.gh,List.map_map];rfl
   obtain⟨vs,k1,k2⟩:=(nG (fun x I=>by obtain⟨_,_,rfl⟩:=bN.1 I;rfl)).1 (by rw[e];exact h4:lS E s (D.fQ (Y.map (.int k))) c);exact⟨c,el,fz,vs,Q,k1,k2⟩
 . subst h;obtain⟨c,el,fz,vs,Q,_,_,h4,h5⟩:=r;exact⟨c,el,fz,vs,Q,h4,h5⟩
open Classical in
noncomputable def vN(E:Env)(n0:Nat->Option (ai))(w:World)(b:Nat):Option (Array Value):=if ∃m s,(n0 m).isSome=true/\E.ι m=some (b,s)then(match w.heap[b]? with|some (.cells c _ _)=>some c|_=>none)else E.φ b
theorem pJ{F fr:Nat}{ms:List Nat}{s s2:St}{aj:ah}{E:Env}{a:Act}{w:World}(e:NV ms s=some (aj,s2))(hA:∀x∈aj,x)(r:jY E fr s a w)(hn:F<=s.n):
  ∃E2,jY E2 fr s2 a w/\kB F E s.h w E2 s2.h w/\F<=s2.n/\(∀m,E2.ι m=E.ι m):=by
 unfold NV at e;split at e
 case h_2=>cases e
 rename_i S4;split at e
 case h_2=>cases e
 rename_i A1 JI vy;split at e
 case h_2=>cases e
 rename_i B1 O hh;split at e
 case h_2=>cases e
 rename_i C1 d2 Cr;simp only[aq,aF]at e;obtain⟨rfl,rfl⟩:=e;have S4:=CN S4;generalize hFd:WK s.h ms=n0 at *;have g:=r.good;have WM:∀m R,n0 m=some R->m∈ms/\∃o,s.h.get m=some o/\CL o=some R:=fun m R q=>Pa (h:=s.h) (ms:=ms) (by rw[hFd];exact q);have hmF:∀m,m∈ms->(n0 m).isSome=true:=by
  intro m K;obtain⟨_,o,R,Q,h3⟩:=S4 m K;rw[<- hFd];unfold WK;rw[show ms.any (Nat.beq m)=true from List.any_eq_true.2 ⟨m,K,Nat.beq_refl m⟩,Q];simp only[h3];rfl
 have qw:∀b c,E.φ b=some c->vN E n0 w b=some c:=by
  intro b c q;unfold vN;rw[aB];. exact q
  rintro⟨m,X,Q,h3⟩;obtain⟨R,qq⟩:=bH.1 Q;obtain⟨_,o,k1,k2⟩:=WM m R qq;exact(g.iz b c q).2 m X ⟨o,k1,Bt k2⟩ h3
 let E2:Env:=⟨E.ι,E.β,vN E n0 w⟩
 have hFz:WJ n0 E E2.φ:=by
  intro m R qq b X hb;obtain⟨_,o,k1,k2⟩:=WM m R qq;obtain⟨b',t,q1,q2⟩:=g.rel m o k1;rw[hb]at q1;cases q1;obtain⟨c,el,fz,vs,p1,p2,p3⟩:=H8 k2 q2;refine⟨c,vs,?_,iC qw _ _ p2,p3⟩;show vN E n0 w b=some c;unfold vN;rw[aG ⟨m,X,by rw[qq];rfl,hb⟩,p1]
 have hA1:∀x∈A1,x:=fun x I=>hA x (by simp[I]);have hB1:∀x∈B1,x:=fun x I=>hA x (by simp[I]);have hC1:∀x∈C1,x:=fun x I=>hA x (by simp[I]);have lC:∀k o2,(yg ms O).get k=some o2->k∉ms/\∃o hc,s.h.get k=some o/\GL n0 o=some (hc,o2)/\∀b∈hc,b:=by
  intro k o2 q;rw[ED ms O k fun m K=>(S4 m K).1]at q;split at q
  . cases q
  . rename_i W;obtain⟨o,hc,q1,q2,q3⟩:=zy _ _ _ hh k o2 q;exact⟨W,o,hc,q1,q2,fun b hb=>hB1 b (q3 b hb)⟩
 have Mr:∀k,eN (yg ms O) k->k∉ms/\eN s.h k:=by
  rintro k ⟨o2,q1,q2⟩;obtain⟨W,o,hc,p1,p2,_⟩:=lC k o2 q1;exact⟨W,o,p1,(WL p2).symm.trans q2⟩
 have Fh:∀k,(yg ms O).get k≠none->s.h.get k≠none:=by
  intro k q;obtain⟨o2,q⟩:=bA.1 q;obtain⟨_,o,_,p1,_⟩:=lC k o2 q;rw[p1];simp
 have p9:Good E2 (yg ms O) w:=by
  refine⟨fun m o2 K=>?_,fun m m' b t t' iV K sD e1 e2=>g.inj m m' b t t' iV (Mr m K).2 (Fh m' sD) e1 e2,g.oL,g.kx,fun b c q=>?_⟩
  . obtain⟨_,o,hc,p1,p2,p3⟩:=lC m o2 K;obtain⟨b,t,q1,q2⟩:=g.rel m o p1;exact⟨b,t,q1,S3 (E':=E2) hFz (fun _=>rfl) rfl qw o o2 hc p2 p3 q2⟩
  . have q:vN E n0 w b=some c:=q;unfold vN at q;split at q
    . rename_i FP;obtain⟨m,t,Q,h3⟩:=FP;obtain⟨R,qq⟩:=bH.1 Q;obtain⟨hms,o,k1,k2⟩:=WM m R qq;refine⟨?_,fun m' t' sD e1=>?_⟩
      . split at q
        . rename_i c' el fz B;cases q;exact⟨el,fz,B⟩
        . cases q
      . obtain⟨hnm,hw'⟩:=Mr m' sD;exact g.inj m m' b t t' (fun z=>hnm (z▸hms)) ⟨o,k1,Bt k2⟩ hw'.live h3 e1
    . exact⟨(g.iz b c q).1,fun m' t' sD=>(g.iz b c q).2 m' t' (Mr m' sD).2⟩
 refine⟨E2,⟨p9,r.qu,fun t v2 hv=>?_,r.size,H7 (E':=E2) hFz (fun _=>rfl) rfl qw _ _ _ _ Cr hC1 r.ij⟩,⟨fun m b t _ q=>⟨q,rfl⟩,fun _ _=>rfl,qw,p9,aK _,rfl,rfl,rfl,fun _ _ _=>rfl,fun m b t K q _=>⟨m,t,Fh m K,q,fun z=>(Mr m z).2⟩,fun b c q=>?_⟩,hn,fun _=>rfl⟩
 . obtain⟨v,hc,q1,q2,q3⟩:=vB _ _ _ vy t v2 hv;obtain⟨v',k1,k2⟩:=r.N t v q1;exact⟨v',k1,tv (E':=E2) hFz (fun _=>rfl) rfl qw _ _ _ _ q2 (fun x I=>hA1 x (q3 x I)) k2⟩
 . have q:vN E n0 w b=some c:=q;unfold vN at q;split at q
   . rename_i FP;obtain⟨m,t,Q,h3⟩:=FP;obtain⟨R,qq⟩:=bH.1 Q;obtain⟨_,o,k1,k2⟩:=WM m R qq;exact .inr (.inr ⟨m,t,⟨o,k1,Bt k2⟩,h3⟩)
   . exact .inl q
theorem WN{P:Program}{F fr:Nat}{c:Code}{s s2:St}{aj:ah}{h1:Exit->St->Prop}(ms:List Nat)(e:NV ms s=some (aj,s2))(hA:∀x∈aj,x)(h:TG P F fr c s2 h1):TG P F fr c s h1:=by
 intro E a w hm r hn k;obtain⟨E2,r2,u2,pD,_⟩:=pJ e hA r hn;exact h E2 a w hm r2 pD fun y X E' a' w' q u n7 r'=>k y X E' a' w' q (u2.trans u) n7 r'
def EE(h:J h2):List Nat->Option (J h2)
 | []=>some h
 |m::r=>match h.get m with
  |some (.cells R)=>match iu R with
   |some ds=>match Nat.blt m fZ with
    |true=>EE (h.set m (some (.deep ds))) r
    |false=>none
   |none=>none
  |some (.own k Y)=>match Nat.blt m fZ with
   |true=>EE (h.set m (some (.deep (Y.map (.int k))))) r
   |false=>none
  |_=>none
section
variable{E:Env}{w:World}{b s:Nat}
theorem pK{h:J h2}{w:World}{m:Nat}{o o2:h2}(ht:m<fZ)(K:h.get m=some o)(hw:o.wr=true)(ho:∀b s,E.ι m=some (b,s)->nE E w b s o->nE E w b s o2)(g:Good E h w):
  Good E (h.set m (some o2)) w/\∀j,((h.set m (some o2)).get j≠none↔h.get j≠none)/\(eN (h.set m (some o2)) j->eN h j):=by
 have lC:∀j,(h.set m (some o2)).get j=if j=m then some o2 else h.get j:=fun j=>J.fJ _ _ _ ht
 have Fh:∀j,((h.set m (some o2)).get j≠none↔h.get j≠none)/\(eN (h.set m (some o2)) j->eN h j):=by
  intro j;rw[lC];by_cases q:j=m
  . subst q;rw[aG rfl,K];exact⟨by simp,fun _=>⟨_,K,hw⟩⟩
  . rw[aB q];exact⟨Iff.rfl,fun z=>pR ht z q⟩
 refine⟨⟨fun j o' hj=>?_,fun j j' b s X iV hj xy e1 e2=>g.inj j j' b s X iV ((Fh j).2 hj) ((Fh j').1.1 xy) e1 e2,g.oL,g.kx,fun b c q=>⟨g.fz b c q,fun m' s sD=>(g.iz b c q).2 m' s ((Fh m').2 sD)⟩⟩,Fh⟩;rw[lC]at hj;split at hj
 . rename_i q;subst q;obtain rfl:=eH hj;obtain⟨b,s,Q,O⟩:=g.rel j _ K;exact⟨b,s,Q,ho b s Q O⟩
 . exact g.rel j o' hj
theorem JZ{R:ag}{ds:ai}(hd:iu R=some ds)(r:nE E w b s (.cells R)):nE E w b s (.deep ds):=by
 obtain⟨c,el,fz,Q,O,h3,h4⟩:=r;obtain⟨vs,k1,k2⟩:=rG.1 h4;exact⟨c,el,fz,vs,Q,O,h3,sL hd k1,k2⟩
theorem Pb{k:IntKind}{Y:List Int}(r:nE E w b s (.own k Y)):nE E w b s (.deep (Y.map (.int k))):=by
 obtain⟨c,el,fz,Q,O,h3,h4⟩:=r;have e:D.fQ (Y.map (.int k))=Y.map (.int k):=by rw[D.gh,List.map_map];rfl
 obtain⟨vs,k1,k2⟩:=(nG (fun x I=>by obtain⟨_,_,rfl⟩:=bN.1 I;rfl)).1 (by rw[e];exact h4:lS E s (D.fQ (Y.map (.int k))) c);exact⟨c,el,fz,vs,Q,O,h3,k1,k2⟩
end
theorem ql{E:Env}{w:World}:∀(l:List Nat) (h O:J h2),EE h l=some O->Good E h w->Good E O w/\∀m,(O.get m≠none↔h.get m≠none)/\(eN O m->eN h m)
 | [],h,O,e,g=>by simp only[EE,aq]at e;subst e;exact⟨g,fun m=>⟨Iff.rfl,id⟩⟩
 |m::r,h,O,e,g=>by
  unfold EE at e;split at e
  . rename_i R K;split at e
    case h_2=>cases e
    rename_i ds hd;split at e
    case h_2=>cases e
    rename_i ht;obtain⟨g1,k1⟩:=pK (az ht) K rfl (fun b s _ q=>JZ hd q) g;obtain⟨g2,k2⟩:=ql r _ O e g1;exact⟨g2,fun j=>⟨(k2 j).1.trans (k1 j).1,fun z=>(k1 j).2 ((k2 j).2 z)⟩⟩
  . rename_i k Y K;split at e
    case h_2=>cases e
    rename_i ht;obtain⟨g1,k1⟩:=pK (az ht) K rfl (fun b s _ q=>Pb q) g;obtain⟨g2,k2⟩:=ql r _ O e g1;exact⟨g2,fun j=>⟨(k2 j).1.trans (k1 j).1,fun z=>(k1 j).2 ((k2 j).2 z)⟩⟩
  . cases e
def CO(l:List Nat)(s:St):Option St:=match EE s.h l with
 |some h=>some { s with h:=h }
 |none=>none
section
variable{P:Program}{F fr:Nat}{c:Code}{s:St}
theorem Pc{O:J h2}{h1:Exit->St->Prop}(hg:∀E w,Good E s.h w->Good E O w/\∀m,(O.get m≠none↔s.h.get m≠none)/\(eN O m->eN s.h m))(h:TG P F fr c { s with h:=O } h1):TG P F fr c s h1:=by
 intro E a w hm r hn k;obtain⟨g2,k2⟩:=hg E w r.good;have u:kB F E s.h w E O w:=⟨fun _ _ _ _ e=>⟨e,rfl⟩,fun _ _=>rfl,fun _ _ q=>q,g2,aK _,rfl,rfl,rfl,fun _ _ _=>rfl,fun m b s1 K e1 _=>⟨m,s1,(k2 m).1.1 K,e1,(k2 m).2⟩,fun _ _ q=>.inl q⟩;exact h E a w hm ⟨g2,r.qu,r.N,r.size,r.ij⟩ hn fun y X E' a' w' q u' n7 r'=>k y X E' a' w' q (u.trans u') n7 r'
theorem S5{s2:St}{h1:Exit->St->Prop}(l:List Nat)(e:CO l s=some s2)(h:TG P F fr c s2 h1):TG P F fr c s h1:=by
 unfold CO at e;split at e
 case h_2=>cases e
 rename_i O hh;obtain rfl:=eH e;exact Pc (fun E w g=>ql l s.h O hh g) h
end
theorem M0{E:Env}{w:World}{b s:Nat}{c:Nat}(kd:Option IntKind)(r:nE E w b s (.map [] c)):nE E w b s (.gl kd []):=by
 obtain⟨hs,fK,Q,O⟩:=r;have:fK.toList=[]:=O;refine⟨hs,fK,c,Q,⟨⟨[],.refl _,by rw[this];rfl⟩,by simp,by simp,by rw[this];simp,by rw[this];simp⟩⟩
def Pd(h:J h2):List (Nat×Option IntKind)->Option (J h2)
 | []=>some h
 |(m,kd)::r=>match h.get m with
  |some (.map [] _)=>match Nat.blt m fZ with
   |true=>Pd (h.set m (some (.gl kd []))) r
   |false=>none
  |_=>none
theorem EF{E:Env}{w:World}:∀(l:List (Nat×Option IntKind)) (h O:J h2),Pd h l=some O->Good E h w->Good E O w/\∀m,(O.get m≠none↔h.get m≠none)/\(eN O m->eN h m)
 | [],h,O,e,g=>by simp only[Pd,aq]at e;subst e;exact⟨g,fun m=>⟨Iff.rfl,id⟩⟩
 |(m,kd)::r,h,O,e,g=>by
  unfold Pd at e;split at e
  case h_2=>cases e
  rename_i c K;split at e
  case h_2=>cases e
  rename_i ht;obtain⟨g1,k1⟩:=pK (az ht) K rfl (fun b s _ q=>M0 kd q) g;obtain⟨g2,k2⟩:=EF r _ O e g1;exact⟨g2,fun j=>⟨(k2 j).1.trans (k1 j).1,fun z=>(k1 j).2 ((k2 j).2 z)⟩⟩
def WO(l:List (Nat×Option IntKind))(s:St):Option St:=match Pd s.h l with
 |some h=>some { s with h:=h }
 |none=>none
theorem WQ{P:Program}{F fr:Nat}{c:Code}{s s2:St}{h1:Exit->St->Prop}(l:List (Nat×Option IntKind))(e:WO l s=some s2)(h:TG P F fr c s2 h1):TG P F fr c s h1:=by
 unfold WO at e;split at e
 case h_2=>cases e
 rename_i O hh;obtain rfl:=eH e;exact Pc (fun E w g=>EF l s.h O hh g) h
def M1:List (List Nat)->St->Option (ah×St)
 | [],s=>some ([],s)
 |ms::r,s=>match NV ms s with
  |some (aj,s)=>match M1 r s with
   |some (hc,s)=>some (aj++hc,s)
   |none=>none
  |none=>none
theorem CP{F fr:Nat}{w:World}{a:Act}:∀(l:List (List Nat)) {s s2:St} {aj:ah} {E:Env},M1 l s=some (aj,s2)->(∀x∈aj,x)->jY E fr s a w->F<=s.n->
  ∃E2,jY E2 fr s2 a w/\kB F E s.h w E2 s2.h w/\F<=s2.n/\(∀m,E2.ι m=E.ι m)
 | [],s,s2,aj,E,e,_,r,hn=>by
   simp only[M1,aq,aF]at e;obtain⟨rfl,rfl⟩:=e;exact⟨E,r,.refl r.good,hn,fun _=>rfl⟩
 |ms::l,s,s2,aj,E,e,hA,r,hn=>by
  simp only[M1]at e;split at e
  case h_2=>cases e
  rename_i A1 s1 Q;split at e
  case h_2=>cases e
  rename_i B1 s3 h3;obtain⟨rfl,rfl⟩:=ga e;obtain⟨E1,r1,u1,n1,i1⟩:=pJ Q (fun x I=>hA x (by simp[I])) r hn;obtain⟨E2,r2,u2,n2,i2⟩:=CP l h3 (fun x I=>hA x (by simp[I])) r1 n1;exact⟨E2,r2,u1.trans u2,n2,fun m=>(i2 m).trans (i1 m)⟩
def Pe(v:V)(u:V)(h:J h2)(n:Nat):Prop:=∃l aj s2,M1 l { N:=J.nil.set 0 (some u),h:=h,n:=n,ij:=[] }=some (aj,s2)/\(∀a∈aj,a)/\s2.N.get 0=some v
theorem Pe.self{v:V}{h:J h2}{n:Nat}:Pe v v h n:=⟨[],[],_,rfl,by simp,J.pb _ _ eY⟩
theorem CQ{E E1:Env}{h h0 h':J h2}{n n':Nat}{w w':World}{u v:V}{en:Ending}(g:Good E h w)(hd:pX E n)(kO:E1.φ=E.φ)(WH:∀m,¬eN h0 m)(hv:v.deep=true)(hz:Pe v u h' n')
  (c:iG E1 h0 gN w (.ret u) h' n' en w'):iG E h n w (.ret v) h n en w':=by
 obtain⟨E2,u2,_,p7,hn,ho⟩:=c;cases en with
 |returned x=>
  have ho:dV E2 u x:=ho;obtain⟨l,aj,s2,e1,hA,e2⟩:=hz;have sr:jY E2 1 { N:=J.nil.set 0 (some u),h:=h',n:=n',ij:=[] } { tmps:=#[x],defers:=[] } w':=by
   refine⟨u2.good,p7,fun t y hy=>?_,rfl,rfl⟩;rw[J.fJ _ _ _ eY]at hy;split at hy
   . rename_i q;subst q;cases hy;exact⟨x,rfl,ho⟩
   . simp[J.get]at hy
  obtain⟨E3,r3,u3,_,_⟩:=CP (F:=0) l e1 hA sr (aU _);obtain⟨x',q1,q2⟩:=r3.N 0 v e2;simp only[List.getElem?_toArray,cF,aq]at q1;subst q1;have Vo:∀b,b<w.heap.size->w'.heap[b]? =w.heap[b]?:=fun b hb=>u2.keep b hb fun m s K=>absurd K (WH m);have bl:Below w.heap.size w w':=⟨u2.os,u2.tape,u2.output,u2.size,Vo⟩;have gb:=g.below bl;have OU:∀b c,E3.φ b=some c->E.φ b=some c\/w.heap.size<=b:=by
   intro b c q;have k3:∀m s,eN h' m->E2.ι m=some (b,s)->w.heap.size<=b:=by
    intro m s K e;rcases bt b w.heap.size with z|z
    . obtain⟨m0,s0,_,_,k0⟩:=u2.tL m b s K.live e z;exact absurd (k0 K) (WH m0)
    . exact z
   rcases u3.DI b c q with q|q|⟨m,s,p1,p2⟩
   . rcases u2.DI b c q with q|q|⟨m,s,p1,p2⟩
     . exact .inl (kO▸q)
     . exact .inr q
     . exact absurd p1 (WH m)
   . exact .inr (bE u2.size q)
   . exact .inr (k3 m s p1 p2)
  have U6:∀b c,E.φ b=some c->E3.φ b=some c:=fun b c q=>u3.fz b c (u2.le.fz b c (kO▸q))
  let E':Env:=⟨E.ι,E.β,E3.φ⟩
  have kK:E.le E':=⟨fun m b s q=>⟨q,rfl⟩,U6⟩;have abE:Good E' h w':=by
   refine⟨fun m o K=>?_,gb.inj,gb.oL,gb.kx,fun b c q=>⟨r3.good.fz b c q,fun m s K e=>?_⟩⟩
   . obtain⟨b,s,k1,k2⟩:=gb.rel m o K;exact⟨b,s,k1,ji kK rfl rfl k2⟩
   . rcases OU b c q with z|z
     . exact(g.iz b c z).2 m s K e
     . have:=g.oL m b s e;omega
  refine⟨E',⟨kK,abE,u2.size,u2.tape,u2.os,u2.output,fun b hb _=>Vo b hb,fun m b s K e _=>⟨m,s,K,e,id⟩,fun b c q=>?_⟩,fun _ _=>rfl,hd,aK _,(CK (E:=E3) (E':=E') (fun _ _ q=>q) v x hv q2:dV E' v x)⟩;rcases OU b c q with z|z
  . exact .inl z
  . exact .inr (.inl z)
 |_=>exact ho.elim
def dU(P:Program)(f:FuncId)(args:ag)(v:V):Prop:=∀E h n w dH,dZ E args dH->Good E h w->pX E n->Calls P f dH.toArray w (iG E h n w (.ret v) h n)
theorem J0{P:Program}(K:P.follows .mixedOrders=true)(sF:jJ P=true){f:FuncId}{fn:Func}{code:Code}(hf:P.funcs[f]? =some fn)(hb:fn.body=some code){args:ag}
  (l:(Nat.ble args.length fn.ntmps&&Nat.blt fn.ntmps fZ)=true) {v:V} (J1:V.qi args=true) (hv:v.deep=true) (hT:TG P gN fn.ntmps code (dy args .nil gN) (fH P gN fn (Pe v))):dU P f args v:=by
 intro E h n w dH ra g hd;have g0:Good (Bo E.φ) .nil w:=wR g.wg g.fz;have ra0:dZ (Bo E.φ) args dH:=lG (E:=E) (E':=Bo E.φ) (fun _ _ q=>q) _ _ J1 ra;exact(qI K sF hf hb l _ hT ra0 g0 (Cw (aK _))).mono fun e w' ⟨u,h',n',hz,k⟩=>CQ (E1:=Bo E.φ) g hd rfl wX hv hz k
def EG:ag->Option (ai)
 | []=>some []
 |x::xs=>match V.Jf x with
  |some d=>match EG xs with
   |some l=>some (d::l)
   |none=>none
  |none=>none
theorem zz{E:Env}:∀{xs:ag} {ds:ai},EG xs=some ds->∀{l:List Value},dZ E xs l->dZ E (ds.map D.jQ) l
 | [],ds,h,l,r=>by simp only[EG,aq]at h;subst h;exact r
 |x::xs,ds,h,l,r=>by
  simp only[EG]at h;split at h
  case h_2=>cases h
  rename_i d hd;split at h
  case h_2=>cases h
  rename_i l' hl;obtain rfl:=eH h;obtain⟨y,ys,r0,rs,rfl⟩:=r;exact⟨y,ys,rE _ _ (xH hd r0).1,zz hl rs,rfl⟩
mutual
theorem Pf:∀d:D,d.jQ.deep=true
 | .bool _=>rfl
 | .int _ _=>rfl
 | .str _=>rfl
 | .eB _ _=>rfl
 | .agg R=>by simp only[D.jQ,V.deep];exact zA R
theorem zA:∀l:ai,V.qi (D.fQ l)=true
 | []=>rfl
 |x::xs=>by simp only[D.fQ,V.qi,Pf x,zA xs,Bool.and_self]
end
theorem Pg(l:ai):V.qi (l.map D.jQ)=true:=by rw[<- D.gh];exact zA l
def dW(f:ai->Option (ah×V)):ag->J h2->Nat->Option (ah×V×J h2×Nat):=fun args h n=>match EG args with
 |some ds=>match f ds with
  |some (aj,v)=>some (aj,v,h,n)
  |none=>none
 |none=>none
theorem Ph{P:Program}{f:FuncId}{spec:ai->Option (ah×V)}(eO:f<P.funcs.size)(h:∀args aj v,spec args=some (aj,v)->(∀a∈aj,a)->dU P f (args.map D.jQ) v):jK P f (dW spec):=by
 refine⟨eO,fun args h' n aj v O n2 e hA E w dH ra g hd B=>?_⟩;unfold dW at e;split at e
 . rename_i ds hds;split at e
   . rename_i A' v' hs;simp only[aq,aF]at e;obtain⟨rfl,rfl,rfl,rfl⟩:=e;exact h ds _ _ hs hA E h' n w dH (zz hds ra) g hd
   . cases e
 . cases e
def Env.pick(E:Env)(ns:List (Option Nat)):Env:=⟨fun j=>match ns.getD j none with
 |some m=>E.ι m
 |none=>none,E.β,E.φ⟩
theorem lZ{E:Env}{ns:List (Option Nat)}{j m:Nat}(h:ns.getD j none=some m):(E.pick ns).ι j=E.ι m:=by
 show(match ns.getD j none with|some m=>E.ι m|none=>none)=_;rw[h]
def Pj:List (Option Nat)->Nat->Nat->Option Nat
 | [],_,_=>none
 |none::r,j,m=>Pj r (j+1) m
 |some k::r,j,m=>match Nat.beq k m with
  |true=>some j
  |false=>Pj r (j+1) m
theorem zB:∀(l:List (Option Nat)) (j m k:Nat),Pj l j m=some k->j<=k/\l.getD (k-j) none=some m
 | [],_,_,_,h=>by cases h
 |none::r,j,m,k,h=>by
  obtain⟨Q,O⟩:=zB r (j+1) m k h;refine⟨H,?_⟩;rw[show k-j=(k-(j+1))+1 by omega];simpa using O
 |some x::r,j,m,k,h=>by
  simp only[Pj]at h;split at h
  . rename_i hb;obtain rfl:=eH h;refine⟨aK _,?_⟩;simp[aA hb]
  . obtain⟨Q,O⟩:=zB r (j+1) m k h;refine⟨H,?_⟩;rw[show k-j=(k-(j+1))+1 by omega];simpa using O
abbrev mu(ns:List (Option Nat)):Nat->Option Nat:=Pj ns 0
theorem S6{ns:List (Option Nat)}{m k:Nat}(h:mu ns m=some k):ns.getD k none=some m:=by
 have:=(zB ns 0 m k h).2;simpa using this
theorem Pk{E:Env}{ns:List (Option Nat)}:∀m k,mu ns m=some k->(E.pick ns).ι k=E.ι m:=fun _ _ h=>lZ (S6 h)
def zC:List (Option Nat)->Bool
 | []=>true
 |none::r=>zC r
 |some k::r=>!(r.any fun x=>match x with|some j=>Nat.beq k j|none=>false)&&zC r
theorem uV:∀{l:List (Option Nat)},zC l=true->∀i j m,l.getD i none=some m->l.getD j none=some m->i=j
 | [],_,i,_,_,h,_=>by simp at h
 |none::r,h,i,j,m,Q,O=>by
  cases i with
  |zero=>simp at Q
  |succ i=>cases j with
   |zero=>simp at O
   |succ j=>rw[uV (l:=r) h i j m (by simpa using Q) (by simpa using O)]
 |some k::r,h,i,j,m,Q,O=>by
  simp only[zC,ay,bV]at h;have no:∀q,r.getD q none≠some k:=by
   intro q hq;have K:some k∈r:=by
    rw[ax]at hq;cases I:r[q]? with
    |none=>rw[I]at hq;cases hq
    |some x=>rw[I]at hq;simp only[ck]at hq;subst hq;exact List.mem_of_getElem? I
   have:(r.any fun x=>match x with|some j=>Nat.beq k j|none=>false)=true:=List.any_eq_true.2 ⟨_,K,Nat.beq_refl k⟩;rw[this]at h;cases h.1
  cases i with
  |zero=>
   simp at Q;subst Q;cases j with
   |zero=>rfl
   |succ j=>exact absurd (by simpa using O) (no j)
  |succ i=>cases j with
   |zero=>simp at O;subst O;exact absurd (by simpa using Q) (no i)
   |succ j=>rw[uV h.2 i j m (by simpa using Q) (by simpa using O)]
structure FQ(ns:List (Option Nat))(h Q:J h2):Prop where
 kx:∀p∈tX,ns.getD p.2 none=some p.2
 one:zC ns=true
 live:∀j m,ns.getD j none=some m->(∃p∈tX,p.2=m)\/h.get m≠none
 get:∀j o1,Q.get j=some o1->∃m o,ns.getD j none=some m/\h.get m=some o/\o.rn (mu ns)=some o1
theorem Lq{E:Env}{h Q:J h2}{w:World}{ns:List (Option Nat)}(g:Good E h w)(k:FQ ns h Q):Good (E.pick ns) Q w/\pX (E.pick ns) ns.length:=by
 have hw:∀j,eN Q j->∃m,ns.getD j none=some m/\eN h m:=by
  rintro j ⟨o1,O,h3⟩;obtain⟨m,o,q1,q2,q3⟩:=k.get j o1 O;exact⟨m,q1,o,q2,(Ax q3).symm.trans h3⟩
 refine⟨⟨fun j o1 hj=>?_,fun j j' b s X iV hj xy e1 e2=>?_,fun j b s e=>?_,fun p hp=>?_,fun b c q=>⟨g.fz b c q,fun j s hj e=>?_⟩⟩,fun j hj=>?_⟩
 . obtain⟨m,o,q1,q2,q3⟩:=k.get j o1 hj;obtain⟨b,s,e1,e2⟩:=g.rel m o q2;exact⟨b,s,(lZ q1).trans e1,Bp (E':=E.pick ns) Pk (fun _ _ _ _ _ _=>rfl) (fun _ _ q=>q) rfl o o1 q3 e2⟩
 . obtain⟨m,q1,q2⟩:=hw j hj;obtain⟨o',xy⟩:=bA.1 xy;obtain⟨m',o,p1,p2,_⟩:=k.get j' o' xy;rw[lZ q1]at e1;rw[lZ p1]at e2;by_cases K:m=m'
   . subst K;exact iV (uV k.one j j' m q1 p1)
   . exact g.inj m m' b s X K q2 (by rw[p2];simp) e1 e2
 . have e:(match ns.getD j none with|some m=>E.ι m|none=>none)=some (b,s):=e;split at e
   . exact g.oL _ b s e
   . cases e
 . rw[lZ (k.kx p hp)];exact g.kx p hp
 . obtain⟨m,q1,q2⟩:=hw j hj;rw[lZ q1]at e;exact(g.iz b c q).2 m s q2 e
 . show(match ns.getD j none with|some m=>E.ι m|none=>none)=none;rw[ax,cL (show ns.length<=j from hj)];rfl
def Vp(ns:List (Option Nat))(oG:J h2)(F n m:Nat):Option Nat:=match Nat.blt m F with
 |true=>ns.getD m none
 |false=>match oG.get m with
  |some o=>match o.wr with
   |true=>some (n+(m-F))
   |false=>none
  |none=>none
def CR(ν:Nat->Option Nat)(ns:List (Option Nat))(Q oG:J h2):Nat->Nat->J h2->Option (J h2)
 |0,_,h=>some h
 |i+1,q,h=>match Q.get q with
  |some o0=>match o0.wr with
   |true=>match ns.getD q none with
    |some m=>match Nat.blt m fZ with
     |true=>match oG.get q with
      |some o=>match o.wr with
       |true=>match o.rn ν with
        |some o2=>CR ν ns Q oG i (q+1) (h.set m (some o2))
        |none=>none
       |false=>none
      |none=>CR ν ns Q oG i (q+1) (h.set m none)
     |false=>none
    |none=>none
   |false=>CR ν ns Q oG i (q+1) h
  |none=>CR ν ns Q oG i (q+1) h
def M2(ν:Nat->Option Nat)(Q:J h2):Nat->Nat->J h2->Option (J h2)
 |0,_,h=>some h
 |i+1,j,h=>match ν j with
  |none=>M2 ν Q i (j+1) h
  |some k=>match Q.get j with
   |some o=>match o.rn ν with
    |some o2=>match Nat.blt k fZ with
     |true=>M2 ν Q i (j+1) (h.set k (some o2))
     |false=>none
    |none=>none
   |none=>none
def Pm(ns:List (Option Nat))(Q:J h2)(r:V×J h2×Nat)(h:J h2)(n:Nat):Option (V×J h2×Nat):=
 match r.1.rn (Vp ns r.2.1 ns.length n)with
 |some v=>match CR (Vp ns r.2.1 ns.length n) ns Q r.2.1 ns.length 0 h with
  |some O=>match M2 (Vp ns r.2.1 ns.length n) r.2.1 (r.2.2-ns.length) ns.length O with
   |some h3=>some (v,h3,n+(r.2.2-ns.length))
   |none=>none
  |none=>none
 |none=>none
theorem vC{ν:Nat->Option Nat}{ns:List (Option Nat)}{Q oG:J h2}:∀(i q:Nat) (h O:J h2),CR ν ns Q oG i q h=some O->∀m o,O.get m=some o->
  (h.get m=some o/\∀p,q<=p->p<q+i->eN Q p->ns.getD p none≠some m)\/∃p,q<=p/\p<q+i/\eN Q p/\ns.getD p none=some m/\∃o1,oG.get p=some o1/\o1.wr=true/\o1.rn ν=some o
 |0,q,h,O,e,m,o,K=>by simp only[CR,aq]at e;subst e;exact .inl ⟨K,fun p Q O=>by omega⟩
 |i+1,q,h,O,e,m,o,K=>by
  simp only[CR]at e;have skip:(¬eN Q q)->CR ν ns Q oG i (q+1) h=some O->_:=fun hq e=>vC i (q+1) h O e m o K;have oI:∀(h':J h2) (x:Option h2) (m0:Nat),m0<fZ->h'=h.set m0 x->eN Q q->ns.getD q none=some m0->(∀y,x=some y->∃o1,oG.get q=some o1/\o1.wr=true/\o1.rn ν=some y)->CR ν ns Q oG i (q+1) h'=some O->
    (h.get m=some o/\∀p,q<=p->p<q+(i+1)->eN Q p->ns.getD p none≠some m)\/∃p,q<=p/\p<q+(i+1)/\eN Q p/\ns.getD p none=some m/\∃o1,oG.get p=some o1/\o1.wr=true/\o1.rn ν=some o:=by
   intro h' x m0 ht hh hw I7 I e;rcases vC i (q+1) h' O e m o K with⟨k1,k2⟩|⟨p,k1,k2,k3⟩
   . rw[hh,J.fJ _ _ _ ht]at k1;split at k1
     . rename_i z;subst z;exact .inr ⟨q,aK _,H,hw,I7,I o k1⟩
     . rename_i z;refine .inl ⟨k1,fun p p1 p2 p3=>?_⟩;rcases Nat.eq_or_lt_of_le p1 with rfl|p1
       . rw[I7];intro c;cases c;exact z rfl
       . exact k2 p p1 H p3
   . exact .inr ⟨p,H,H,k3⟩
  have abG:(¬eN Q q)->CR ν ns Q oG i (q+1) h=some O->
    (h.get m=some o/\∀p,q<=p->p<q+(i+1)->eN Q p->ns.getD p none≠some m)\/∃p,q<=p/\p<q+(i+1)/\eN Q p/\ns.getD p none=some m/\∃o1,oG.get p=some o1/\o1.wr=true/\o1.rn ν=some o:=by
   intro hq e;rcases vC i (q+1) h O e m o K with⟨k1,k2⟩|⟨p,k1,k2,k3⟩
   . refine .inl ⟨k1,fun p p1 p2 p3=>?_⟩;rcases Nat.eq_or_lt_of_le p1 with rfl|p1
     . exact absurd p3 hq
     . exact k2 p p1 H p3
   . exact .inr ⟨p,H,H,k3⟩
  split at e
  . rename_i o0 Z8;split at e
    . rename_i hw0;split at e
      case h_2=>cases e
      rename_i m0 I7;split at e
      case h_2=>cases e
      rename_i ht;have ht:=az ht;split at e
      . rename_i o1 ho1;split at e
        case h_2=>cases e
        rename_i Jp;split at e
        case h_2=>cases e
        rename_i o2 OK;exact oI _ (some o2) m0 ht rfl ⟨o0,Z8,hw0⟩ I7 (fun y hy=>by cases hy;exact⟨o1,ho1,Jp,OK⟩) e
      . exact oI _ none m0 ht rfl ⟨o0,Z8,hw0⟩ I7 (fun y hy=>by cases hy) e
    . rename_i hw0;exact abG (fun⟨o,q1,q2⟩=>by rw[Z8]at q1;cases q1;rw[hw0]at q2;cases q2) e
  . rename_i Z8;exact abG (fun⟨o,q1,q2⟩=>by rw[Z8]at q1;cases q1) e
theorem zD{ν:Nat->Option Nat}{Q:J h2}:∀(i j:Nat) (h O:J h2),M2 ν Q i j h=some O->∀m o,O.get m=some o->h.get m=some o\/∃q,j<=q/\q<j+i/\ν q=some m/\∃o1,Q.get q=some o1/\o1.rn ν=some o
 |0,j,h,O,e,m,o,K=>by simp only[M2,aq]at e;subst e;exact .inl K
 |i+1,j,h,O,e,m,o,K=>by
  simp only[M2]at e;split at e
  . rcases zD i (j+1) h O e m o K with q|⟨q,q1,q2,q3⟩
    . exact .inl q
    . exact .inr ⟨q,H,H,q3⟩
  . rename_i k W;split at e
    case h_2=>cases e
    rename_i o1 ho;split at e
    case h_2=>cases e
    rename_i o2 OK;split at e
    case h_2=>cases e
    rename_i ht;rcases zD i (j+1) _ O e m o K with q|⟨q,q1,q2,q3⟩
    . rw[J.fJ _ _ _ (show k<fZ from az ht)]at q;split at q
      . rename_i z;subst z;obtain rfl:=eH q;exact .inr ⟨j,aK _,H,W,o1,ho,OK⟩
      . exact .inl q
    . exact .inr ⟨q,H,H,q3⟩
theorem Lr{E:Env}{h Q:J h2}{n:Nat}{w:World}{ns:List (Option Nat)}{r:V×J h2×Nat}{v:V}{O:J h2}{n2:Nat}(g:Good E h w)(hd:pX E n)(k0:FQ ns h Q)
  (he:Pm ns Q r h n=some (v,O,n2)) {en:Ending} {w':World} (c:iG (E.pick ns) Q ns.length w (.ret r.1) r.2.1 r.2.2 en w'):iG E h n w (.ret v) O n2 en w':=by
 obtain⟨v1,oG,J2⟩:=r;obtain⟨E2,u,fE,p7,hn,ho⟩:=c;simp only at u p7 hn ho;unfold Pm at he;simp only at he;split at he
 case h_2=>cases he
 rename_i v' hv;split at he
 case h_2=>cases he
 rename_i hL' hhL;split at he
 case h_2=>cases he
 rename_i hH' hhH;simp only[aq,aF]at he;obtain⟨rfl,rfl,rfl⟩:=he;generalize Mv:ns.length=F at *
 let ν:=Vp ns oG F n
 have WR:∀m k,m<F->ν m=some k->ns.getD m none=some k:=by
  intro m k K W;have hb:Nat.blt m F=true:=Nat.ble_eq_true_of_le K;simp only[ν,Vp,hb]at W;exact W
 have FR:∀m k,F<=m->ν m=some k->k=n+(m-F)/\eN oG m:=by
  intro m k K W;have hb:Nat.blt m F=false:=by
   cases q:Nat.blt m F with
   |false=>rfl
   |true=>exact absurd (az q) (Nat.not_lt.2 K)
  simp only[ν,Vp,hb]at W;split at W
  . rename_i o ho1;split at W
    . rename_i hw;simp only[aq]at W;exact⟨W.symm,o,ho1,hw⟩
    . cases W
  . cases W
 have pre:∀j,eN Q j->∃m,ns.getD j none=some m/\eN h m:=by
  rintro j ⟨o1,q2,q3⟩;obtain⟨m,o,p1,p2,p3⟩:=k0.get j o1 q2;exact⟨m,p1,o,p2,(Ax p3).symm.trans q3⟩
 have ahU:∀j,Q.get j≠none->∃m,ns.getD j none=some m/\h.get m≠none:=by
  intro j hj;obtain⟨o1,q2⟩:=bA.1 hj;obtain⟨m,o,p1,p2,_⟩:=k0.get j o1 q2;exact⟨m,p1,by rw[p2];simp⟩
 have old:∀j b s,oG.get j≠none->E2.ι j=some (b,s)->b<w.heap.size->∃m s0,h.get m≠none/\E.ι m=some (b,s0)/\(∃j0,ns.getD j0 none=some m/\j0<F/\(eN oG j->eN Q j0))/\(eN oG j->eN h m):=by
  intro j b s hj e hb;obtain⟨j0,s0,q1,q2,q3⟩:=u.tL j b s hj e hb;obtain⟨m,p1,p2⟩:=ahU j0 q1;have hj0:j0<F:=by
   rcases bt j0 F with z|z
   . exact z
   . rw[ax,cL H]at p1;cases p1
  refine⟨m,s0,p2,by rw[<- lZ p1];exact q2,⟨j0,p1,hj0,q3⟩,fun z=>?_⟩;obtain⟨m',p3,p4⟩:=pre j0 (q3 z);rw[p1]at p3;cases p3;exact p4
 let E':Env:=⟨fun m=>if m<n then E.ι m else(match ν (F+(m-n))with|some _=>E2.ι (F+(m-n))|none=>none),fun b=>if b<w.heap.size then E.β b else E2.β b,E2.φ⟩
 have we:∀m,m<n->E'.ι m=E.ι m:=fun m K=>aG K;have abH:∀j k,F<=j->ν j=some k->E'.ι k=E2.ι j:=by
  intro j k hj W;obtain⟨rfl,_⟩:=FR j k hj W;show(if n+(j-F)<n then _ else _)=_;rw[aB H];have:F+(n+(j-F)-n)=j:=by omega
  rw[this,W]
 have abI:∀m k,m<F->ns.getD m none=some k->E2.ι m=E.ι k:=fun m k K W=>(fE m K).trans (lZ W);have hkn:∀k,E.ι k≠none->k<n:=fun k e=>by
  rcases bt k n with q|q
  . exact q
  . exact absurd (hd k q) e
 have iY:∀m k,ν m=some k->E'.ι k=E2.ι m:=by
  intro m k W;by_cases K:m<F
  . have I7:=WR m k K W;rw[abI m k K I7];by_cases Dz:k<n
    . exact we k Dz
    . exact absurd (hkn k (by
       rcases k0.live m k I7 with⟨p,hp,rfl⟩|q
       . rw[g.kx p hp];simp
       . obtain⟨o,q⟩:=bA.1 q;obtain⟨b,s,e,_⟩:=g.rel k o q;rw[e];simp)) Dz
  . exact abH m k (Nat.le_of_not_lt K) W
 have kK:E.le E':=by
  refine⟨fun m b s e=>?_,fun b c q=>u.le.fz b c q⟩;exact⟨(we m (hkn m (by rw[e];simp))).trans e,aG (g.oL m b s e)⟩
 have WS:pX E' (n+(J2-F)):=by
  intro m K;have K:n+(J2-F)<=m:=K;show(if m<n then _ else _)=none;rw[aB H];split
  . exact p7 _ (by show J2<=_;omega)
  . rfl
 have WT:∀m k b s,ν m=some k->E2.ι m=some (b,s)->E'.β b=E2.β b:=by
  intro m k b s W e;show(if b<w.heap.size then E.β b else E2.β b)=_;split
  . rename_i hb;by_cases K:m<F
    . have e1:(E.pick ns).ι m=some (b,s):=by rw[<- fE m K];exact e
      exact(u.le.nm m b s e1).2.symm
    . obtain⟨_,hw⟩:=FR m k (Nat.le_of_not_lt K) W;obtain⟨j0,s0,q1,q2,_⟩:=u.tL m b s hw.live e hb;exact(u.le.nm j0 b s0 q2).2.symm
  . rfl
 have tQ:∀m o,hH'.get m=some o->(h.get m=some o/\m<n/\∀p,eN Q p->ns.getD p none≠some m)\/(∃q,ν q=some m/\eN oG q/\(q<F->eN Q q)/\∃o1,oG.get q=some o1/\o1.rn ν=some o):=by
  intro m o K;rcases zD _ _ _ _ hhH m o K with q|⟨q,q1,q2,q3,q4⟩
  . rcases vC _ _ _ _ hhL m o q with⟨k1,k2⟩|⟨p,k1,k2,k3,k4,o1,k5,k6,k7⟩
    . refine .inl ⟨k1,?_,fun p hp I7=>?_⟩
      . obtain⟨b,s,e,_⟩:=g.rel m o k1;exact hkn m (by rw[e];simp)
      . have hp0:p<F:=by
         rcases bt p F with z|z
         . exact z
         . rw[ax,cL H]at I7;cases I7
        exact k2 p (aU _) H hp I7
    . have hp0:p<F:=by omega
      refine .inr ⟨p,?_,⟨o1,k5,k6⟩,fun _=>k3,o1,k5,k7⟩;have hb:Nat.blt p F=true:=Nat.ble_eq_true_of_le hp0;show Vp ns oG F n p=some m;simp only[Vp,hb];exact k4
  . obtain⟨o1,p1,p2⟩:=q4;exact .inr ⟨q,q3,(FR q m q1 q3).2,fun z=>absurd z (Nat.not_lt.2 q1),o1,p1,p2⟩
 have keep:∀m o,h.get m=some o->(∀p,eN Q p->ns.getD p none≠some m)->∀b s,E.ι m=some (b,s)->w'.heap[b]? =w.heap[b]?:=by
  intro m o K hp b s e;refine u.keep b (g.oL m b s e) fun j t hj e2=>?_;obtain⟨m',p1,p2⟩:=pre j hj;rw[lZ p1]at e2;exact g.inj m' m b t s (fun z=>hp j hj (z▸p1)) p2 (by rw[K];simp) e2 e
 have p9:Good E' hH' w':=by
  refine⟨?_,?_,?_,g.kx.mono kK,fun b c q=>⟨u.good.fz b c q,?_⟩⟩
  . intro m o K;rcases tQ m o K with⟨h0,Ss,hp⟩|⟨q,q1,_,_,o1,q3,q4⟩
    . obtain⟨b,s,e1,e2⟩:=g.rel m o h0;exact⟨b,s,(kK.nm m b s e1).1,ji kK (kK.nm m b s e1).2 (keep m o h0 hp b s e1) e2⟩
    . obtain⟨b,s,e1,e2⟩:=u.good.rel q o1 q3;exact⟨b,s,(iY q m q1).trans e1,Bp (E':=E') iY WT (fun _ _ q=>q) (WT q m b s q1 e1) o1 o q4 e2⟩
  . rintro m m' b s X iV ⟨o,K,hw⟩ sD e1 e2;obtain⟨o',sD⟩:=bA.1 sD;rcases tQ m o K with⟨h0,Ss,hp⟩|⟨q,q1,q2,q5,o1,q3,q4⟩<;>rcases tQ m' o' sD with⟨h0',abJ,hp'⟩|⟨q',q1',q2',q5',o1',q3',q4'⟩
    . rw[we m Ss]at e1;rw[we m' abJ]at e2;exact g.inj m m' b s X iV ⟨o,h0,hw⟩ (by rw[h0'];simp) e1 e2
    . rw[we m Ss]at e1;rw[iY q' m' q1']at e2;obtain⟨mm,s0,k1,k2,⟨j0,k3,_,k5⟩,k4⟩:=old q' b X q2'.live e2 (g.oL m b s e1);exact g.inj m mm b s s0 (fun z=>hp j0 (k5 q2') (z▸k3)) ⟨o,h0,hw⟩ k1 e1 k2
    . rw[we m' abJ]at e2;rw[iY q m q1]at e1;obtain⟨mm,s0,k1,k2,⟨j0,k3,_,k5⟩,k4⟩:=old q b s q2.live e1 (g.oL m' b X e2);exact g.inj mm m' b s0 X (fun z=>hp' j0 (k5 q2) (z▸k3)) (k4 q2) (by rw[h0'];simp) k2 e2
    . rw[iY q m q1]at e1;rw[iY q' m' q1']at e2;exact u.good.inj q q' b s X (fun z=>iV (by subst z;rw[q1]at q1';exact dg q1')) q2 q2'.live e1 e2
  . intro m b s e;by_cases K:m<n
    . rw[we m K]at e;exact bR (g.oL m b s e) u.size
    . have e:(if m<n then E.ι m else(match ν (F+(m-n))with|some _=>E2.ι (F+(m-n))|none=>none))=some (b,s):=e;rw[aB K]at e;split at e
      . exact u.good.oL _ b s e
      . cases e
  . rintro m s ⟨o,K,hw⟩ e;rcases tQ m o K with⟨h0,Ss,hp⟩|⟨q',q1,q2,_⟩
    . rw[we m Ss]at e;rcases u.DI b c q with z|z|⟨j,t,z1,z2⟩
      . exact(g.iz b c z).2 m s ⟨o,h0,hw⟩ e
      . have:=g.oL m b s e;omega
      . obtain⟨m',p1,p2⟩:=pre j z1;rw[lZ p1]at z2;exact g.inj m m' b s t (fun z=>hp j z1 (z▸p1)) ⟨o,h0,hw⟩ p2.live e z2
    . rw[iY q' m q1]at e;exact(u.good.iz b c q).2 q' s q2 e
 refine⟨E',⟨kK,p9,u.size,u.tape,u.os,u.output,fun b hb Al=>?_,?_,fun b c q=>?_⟩,fun m K=>we m K,WS,cQ _ _,?_⟩
 . refine u.keep b hb fun j t hj e=>?_;obtain⟨m',p1,p2⟩:=pre j hj;rw[lZ p1]at e;exact Al m' t p2 e
 . intro m b s K e hb;obtain⟨o,K⟩:=bA.1 K;rcases tQ m o K with⟨h0,Ss,hp⟩|⟨q,q1,q2,_⟩
   . rw[we m Ss]at e;exact⟨m,s,by rw[h0];simp,e,fun⟨o',k1,k2⟩=>⟨o,h0,by rw[K]at k1;cases k1;exact k2⟩⟩
   . rw[iY q m q1]at e;obtain⟨mm,s0,k1,k2,_,k4⟩:=old q b s q2.live e hb;exact⟨mm,s0,k1,k2,fun _=>k4 q2⟩
 . rcases u.DI b c q with z|z|⟨j,t,z1,z2⟩
   . exact .inl z
   . exact .inr (.inl z)
   . obtain⟨m',p1,p2⟩:=pre j z1;rw[lZ p1]at z2;exact .inr (.inr ⟨m',t,p2,z2⟩)
 . cases en with
   |returned x=>exact s8 (E':=E') iY WT (fun _ _ q=>q) v1 _ x hv ho
   |_=>exact ho.elim
theorem M3{P:Program}(K:P.follows .mixedOrders=true)(sF:jJ P=true){f:FuncId}{fn:Func}{code:Code}(hf:P.funcs[f]? =some fn)(hb:fn.body=some code){args rY:ag}{ns:List (Option Nat)}{h Q O oG:J h2}{n n2 J2:Nat}{v v1:V}
  (l:(Nat.ble rY.length fn.ntmps&&Nat.blt fn.ntmps fZ)=true) (k:FQ ns h Q) (ka:V.JO (mu ns) args=some rY) (he:Pm ns Q (v1,oG,J2) h n=some (v,O,n2))
  (hT:TG P ns.length fn.ntmps code (dy rY Q ns.length) (fH P ns.length fn fun a b c=>a=v1/\b=oG/\c=J2))
  {E:Env} {w:World} {dH:List Value} (ra:dZ E args dH) (g:Good E h w) (hd:pX E n):Calls P f dH.toArray w (iG E h n w (.ret v) O n2):=by
 obtain⟨g1,d1⟩:=Lq g k;have ra1:dZ (E.pick ns) rY dH:=s9 (E':=E.pick ns) Pk (fun _ _ _ _ _ _=>rfl) (fun _ _ q=>q) _ _ _ ka ra;exact(tu K sF hf hb l v1 oG J2 hT ra1 g1 d1).mono fun en w' c=>Lr g hd k he c
abbrev ahY(a:ag)(h:J h2)(n:Nat):Prop:=a=a/\h=h/\n=n
def Pn(R:kn)(f:FuncId)(q:ag->Bool)(args:ag)(h:J h2)(n:Nat)(r:V×J h2×Nat):kn:=fun f' a' h' n'=>match Nat.beq f' f&&q a' with
 |true=>some [(⟨[],[],[a'=args/\h'=h/\n'=n]⟩,r)]
 |false=>R f' a' h' n'
open Classical in
noncomputable def H9(cf:fO)(f:FuncId)(q:ag->Bool)(args:ag)(h:J h2)(n:Nat)(r:V×J h2×Nat):fO:=fun f' a' h' n'=>
 if(Nat.beq f' f&&q a')=true then(if a'=args/\h'=h/\n'=n then some (.ret r.1,r.2.1,r.2.2)else none)else cf f' a' h' n'
theorem Ia{R:kn}{cf:fO}(hs:qX R cf)(f:FuncId)(q:ag->Bool)(args:ag)(h:J h2)(n:Nat)(r:V×J h2×Nat):qX (Pn R f q args h n r) (H9 cf f q args h n r):=by
 intro f' a' h' n';unfold Pn H9;cases hb:(Nat.beq f' f&&q a')with
 |true=>
  rw[aG rfl];intro l e;obtain rfl:=eH e;refine⟨⟨_,aH.2 rfl,fun c B=>by simp at B⟩,fun e he _ hg=>?_⟩;simp only[aH]at he;subst he;have:a'=args/\h'=h/\n'=n:=hg.2 _ (aH.2 rfl);simp only;rw[aG this];rfl
 |false=>
  rw[aB (by simp)];exact hs f' a' h' n'
theorem Po{P:Program}{cf:fO}(W:gA P cf){f:FuncId}{q:ag->Bool}{args:ag}{h:J h2}{n:Nat}{v:V}{Q:J h2}{n1:Nat}(eO:f<P.funcs.size)
  (B:∀E w dH,dZ E args dH->Good E h w->pX E n->Calls P f dH.toArray w (iG E h n w (.ret v) Q n1)):gA P (H9 cf f q args h n (v,Q,n1)):=by
 intro f' a' h' n' ahZ O n2 e E w dH ra g hd;unfold H9 at e;split at e
 . rename_i hf;simp only[ay]at hf;have hf:=aA hf.1;subst hf;split at e
   . rename_i hq;obtain⟨rfl,rfl,rfl⟩:=hq;simp only[aq,aF]at e;obtain⟨rfl,rfl,rfl⟩:=e;exact⟨fun _=>B E w dH ra g hd,fun m l s hf _=>absurd eO (by rw[hf];exact Nat.not_lt.2 (cQ _ _))⟩
   . cases e
 . exact W f' a' h' n' ahZ O n2 e E w dH ra g hd
noncomputable def CX.rZ{P:Program}(s':CX P)(q:ag->Bool){f:FuncId}{args:ag}{h:J h2}{n:Nat}{v:V}{Q:J h2}{n1:Nat}(eO:f<P.funcs.size)
  (B:∀E w dH,dZ E args dH->Good E h w->pX E n->Calls P f dH.toArray w (iG E h n w (.ret v) Q n1)):CX P:=
 ⟨Pn s'.R f q args h n (v,Q,n1),H9 s'.cf f q args h n (v,Q,n1),Ia s'.snd f q args h n (v,Q,n1),Po s'.ok eO B⟩
def jM(P:Program)(f:FuncId)(args:ag)(h:J h2)(n:Nat)(v:V)(Q:J h2)(n1:Nat):Prop:=∀E w dH,dZ E args dH->Good E h w->pX E n->Calls P f dH.toArray w (iG E h n w (.ret v) Q n1)
open Go.ChangeMaps (setBlock)
structure S7(φ:Nat->Option (Array Value))(kd:Option IntKind)(T:ae)(w:World)(r b:Nat)(left:ae):Prop where
 ex:∃seen fK eS,w.heap[r]? =some (.mapIter (some b) eS seen eS)/\w.heap[b]? =some (.map fK eS)/\jT φ kd T fK.toList eS/\∃l,List.Perm l left/\kJ φ l (leftOf fK seen).toList
theorem S7.mono{φ G0:Nat->Option (Array Value)}{kd:Option IntKind}{T left:ae}{w w':World}{r b:Nat}(kO:∀b c,φ b=some c->G0 b=some c)(hr:w'.heap[r]? =w.heap[r]?)(hb:w'.heap[b]? =w.heap[b]?)(i:S7 φ kd T w r b left):S7 G0 kd T w' r b left:=by
 obtain⟨seen,fK,eS,Q,O,h3,l,h4,h5⟩:=i.ex;exact⟨seen,fK,eS,hr.trans Q,hb.trans O,h3.mono kO,l,h4,sK kO _ _ h5⟩
section
variable{P:Program}{n0:Fence}{n:Nat}{ops:Array Oper}{h1:Exit->Act->World->Prop}{a:Act}{w:World}{rest:List Oper}{o:Oper}
end
theorem kB.weaken{F n1:Nat}(hn:F<=n1){E E':Env}{h h':J h2}{w w':World}(u:kB n1 E h w E' h' w'):kB F E h w E' h' w':=
 ⟨fun m b s K=>u.le m b s H,fun m K=>u.low m H,u.fz,u.good,u.size,u.tape,u.os,u.output,u.keep,u.tL,u.DI⟩
structure Ib(F:Nat)(E0:Env)(h0:J h2)(w0:World)(m mi:Nat)(kd:Option IntKind)(T left:ae)(r b:Nat)(E:Env)(h:J h2)(w:World):Prop where
 tO:kB F E0 h0 w0 E h w
 it:S7 E.φ kd T w r b left
 em:E.ι m=some (b,0)
 ei:E.ι mi=some (r,0)
 hr:∀k z,h.get k≠none->E.ι k≠some (r,z)
 hb:∀k z,h.get k≠none->E.ι k≠some (b,z)
 rlt:r<w.heap.size
 blt:b<w.heap.size
 r0:w0.heap.size<=r
 ne:r≠b
theorem Ib.step{F n1:Nat}{E0:Env}{h0:J h2}{w0:World}{m mi:Nat}{kd:Option IntKind}{T left:ae}{r b:Nat}{E E':Env}{h h':J h2}{w w':World}(hn:F<=n1)(K:m<n1)(hi:mi<n1)(c:Ib F E0 h0 w0 m mi kd T left r b E h w)
  (u:kB n1 E h w E' h' w'):Ib F E0 h0 w0 m mi kd T left r b E' h' w' where
 tO:=c.tO.trans (u.weaken hn)
 it:=c.it.mono u.fz (u.keep r c.rlt fun k z W=>c.hr k z W.live) (u.keep b c.blt fun k z W=>c.hb k z W.live)
 em:=(u.low m K).trans c.em
 ei:=(u.low mi hi).trans c.ei
 hr:=fun k z W e=>by
  obtain⟨m0,s0,q1,q2,_⟩:=u.tL k r z W e c.rlt;exact c.hr m0 s0 q1 q2
 hb:=fun k z W e=>by
  obtain⟨m0,s0,q1,q2,_⟩:=u.tL k b z W e c.blt;exact c.hb m0 s0 q1 q2
 rlt:=bR c.rlt u.size
 blt:=bR c.blt u.size
 r0:=c.r0
 ne:=c.ne
theorem Ib.back{F:Nat}{E0:Env}{h0:J h2}{w0:World}{m mi:Nat}{kd:Option IntKind}{T left:ae}{r b:Nat}{E:Env}{h:J h2}{w:World}(c:Ib F E0 h0 w0 m mi kd T left r b E h w)(hm0:eN h0 m)(he0:E0.ι m=some (b,0))(MP:m<fZ):
  kB F E0 h0 w0 E (h.set m (some (.gl kd T))) w:=by
 have g:=c.tO.good;obtain⟨seen,fK,eS,k1,k2,k3,_⟩:=c.it.ex;have lC:∀k,(h.set m (some (h2.gl kd T))).get k=if k=m then some (.gl kd T)else h.get k:=fun k=>J.fJ _ _ _ MP
 have Mr:∀k,k≠m->eN (h.set m (some (h2.gl kd T))) k->eN h k:=fun k W ⟨o,q1,q2⟩=>⟨o,by rw[lC,aB W]at q1;exact q1,q2⟩;have vy:∀b' cc,E.φ b'=some cc->b'≠b:=by
  rintro b' cc q rfl;obtain⟨⟨el,fz,e⟩,_⟩:=g.iz _ cc q;rw[k2]at e;cases e
 refine⟨c.tO.le,c.tO.low,c.tO.fz,⟨fun k o W=>?_,fun k k' b' z z' Dz W oV e e'=>?_,g.oL,g.kx,fun b' cc q=>⟨(g.iz b' cc q).1,fun k z W e=>?_⟩⟩,c.tO.size,c.tO.tape,c.tO.os,c.tO.output,c.tO.keep,fun k b' z W e Bn=>?_,c.tO.DI⟩
 . rw[lC]at W;split at W
   . rename_i q;subst q;cases W;exact⟨b,0,c.em,rfl,fK,eS,k2,k3⟩
   . exact g.rel k o W
 . by_cases q:k=m
   . subst q;rw[c.em]at e;cases e;have oV:h.get k'≠none:=by rw[lC,aB (Ne.symm Dz)]at oV;exact oV
     exact c.hb k' z' oV e'
   . by_cases q':k'=m
     . subst q';rw[c.em]at e';cases e';exact c.hb k z (Mr k q W).live e
     . exact g.inj k k' b' z z' Dz (Mr k q W) (by rw[lC,aB q']at oV;exact oV) e e'
 . by_cases q':k=m
   . subst q';rw[c.em]at e;cases e;exact vy _ cc q rfl
   . exact(g.iz b' cc q).2 k z (Mr k q' W) e
 . by_cases q':k=m
   . subst q';rw[c.em]at e;cases e;exact⟨k,0,hm0.live,he0,fun _=>hm0⟩
   . obtain⟨m0,s0,p1,p2,p3⟩:=c.tO.tL k b' z (by rw[lC,aB q']at W;exact W) e Bn;exact⟨m0,s0,p1,p2,fun x=>p3 (Mr k q' x)⟩
structure FT where
 g0:Nat
 g1:Nat
 g2:Nat
 o0:Oper
 oR:Oper
 oN:Oper
 oX:Oper
 oE:Oper
 post:List Oper
 bl:Nat
 b1:Nat
 tok:Operand
 rest:Code
def FT.code(m:FT):Code:=.seq (.region m.g0 #[m.o0,m.oR] false) (.block m.bl (.loop (.seq (.region m.g1 #[m.oN,m.oX] false) (.seq (.cond m.tok .skip (.exit m.bl)) (.block m.b1 (.seq (.region m.g2 (m.oE::m.post).toArray false) m.rest))))))
structure aai(P:Program)(fr:Nat)(c:FT)(xR:Operand)(tI:Nat):Prop where
 g0:c.o0.guard=none
 gR:c.oR.guard=none
 gN:c.oN.guard=none
 gE:c.oE.guard=none
 opR:∃ty k e,c.oR.op= .range ty xR/\P.underlying ty=some (.map k e)
 dR:c.oR.dst=some tI
 opN:c.oN.op= .next (.tmp tI) false
 opE:c.oE.op= .entry (.tmp tI)
 ok:eL fr c.code=true
 tI:tI<fZ
def j9(F fr:Nat)(s fm:St):Prop:=∀E a w,jY E fr s a w->F<=s.n->F<=fm.n/\∃E2,jY E2 fr fm a w/\kB F E s.h w E2 fm.h w
theorem j9.norm{F fr:Nat}{iX:List Nat}{s fm:St}(e:ld F iX s=some fm):j9 F fr s fm:=fun _ _ _ r _=>(ot e r).2
theorem j9.trans{F fr:Nat}{a b c:St}(Q:j9 F fr a b)(O:j9 F fr b c):j9 F fr a c:=fun E x w r hn=>by
 obtain⟨pD,E2,r2,u2⟩:=Q E x w r hn;obtain⟨Jb,E3,r3,u3⟩:=O E2 x w r2 pD;exact⟨Jb,E3,r3,u2.trans u3⟩
theorem j9.mem{F fr:Nat}{s:St}{O:J h2}(hg:∀E w,Good E s.h w->Good E O w/\∀m,(O.get m≠none↔s.h.get m≠none)/\(eN O m->eN s.h m)):j9 F fr s { s with h:=O }:=fun E a w r hn=>by
 obtain⟨g2,k2⟩:=hg E w r.good;exact⟨hn,E,⟨g2,r.qu,r.N,r.size,r.ij⟩,⟨fun _ _ _ _ e=>⟨e,rfl⟩,fun _ _=>rfl,fun _ _ q=>q,g2,aK _,rfl,rfl,rfl,fun _ _ _=>rfl,fun m b s1 K e1 _=>⟨m,s1,(k2 m).1.1 K,e1,(k2 m).2⟩,fun _ _ q=>.inl q⟩⟩
theorem j9.deep{F fr:Nat}{s fm:St}(l:List Nat)(e:CO l s=some fm):j9 F fr s fm:=by
 unfold CO at e;split at e
 case h_2=>cases e
 rename_i O hh;obtain rfl:=eH e;exact j9.mem fun E w g=>ql l s.h O hh g
def lU(P:Program)(f:FuncId)(args:ag)(h:J h2)(n:Nat)(cs:V->J h2->Nat->Prop):Prop:=
 ∀E w dH,dZ E args dH->Good E h w->pX E n->Calls P f dH.toArray w fun e w'=>∃v h' n',cs v h' n'/\iG E h n w (.ret v) h' n' e w'
theorem jM.one{P:Program}{f:FuncId}{args:ag}{h:J h2}{n:Nat}{v:V}{Q:J h2}{n1:Nat}(c:jM P f args h n v Q n1):lU P f args h n fun a b d=>a=v/\b=Q/\d=n1:=
 fun E w dH ra g hd=>(c E w dH ra g hd).mono fun _ _ q=>⟨_,_,_,⟨rfl,rfl,rfl⟩,q⟩
theorem lU.mono{P:Program}{f:FuncId}{args:ag}{h:J h2}{n:Nat}{cs R':V->J h2->Nat->Prop}(c:lU P f args h n cs)(hr:∀v h n,cs v h n->R' v h n):lU P f args h n R':=
 fun E w dH ra g hd=>(c E w dH ra g hd).mono fun _ _ ⟨v,h',n',r,q⟩=>⟨v,h',n',hr _ _ _ r,q⟩
theorem lU.is{P:Program}{f:FuncId}{args:ag}{h:J h2}{n:Nat}{v:V}{Q:J h2}{n1:Nat}(c:lU P f args h n fun a b d=>a=v/\b=Q/\d=n1):jM P f args h n v Q n1:=
 fun E w dH ra g hd=>(c E w dH ra g hd).mono fun _ _ ⟨_,_,_,⟨e1,e2,e3⟩,q⟩=>by subst e1 e2 e3;exact q
theorem tw{P:Program}{n0:Fence}{n:Nat}{ops:Array Oper}{h1:Exit->Act->World->Prop}{l2:List Oper}:∀(l1:List Oper) {a:Act} {w:World},
  wpListIn n0 n P ops (fun y a w=>match y with | .normal=>wpListIn n0 n P ops h1 l2 a w|y=>h1 y a w) l1 a w->wpListIn n0 n P ops h1 (l1++l2) a w
 | [],a,w,h=>h
 |o::l1,a,w,h=>by
  show wpListIn n0 n P ops h1 (o::(l1++l2)) a w;unfold wpListIn at h ⊢;split
  . rename_i hw;rw[aG hw]at h;refine MV (fun a w q=>tw l1 q) (fun y a w hy q=>?_) h;cases y<;>first|exact absurd rfl hy|exact q
  . rename_i hw;rw[aB hw]at h;exact⟨h.1,tw l1 h.2⟩
section
variable(P:Program)(F:Nat)(fn:Func)
def Pp(p:s'×St):jL:=match p.1 with
 | .normal=>match JW P F fn p.2 with
   |some (v,h,n)=>.ret v h n
   |none=>.bad
 | .ret=>match JW P F fn p.2 with
   |some (v,h,n)=>.ret v h n
   |none=>.bad
 |_=>.bad
def abK(R:kn)(dm:List (Nat×lM))(n0 F:Nat)(fn:Func)(c:Code)(s:St):List (List (Bool×Bool)×ah×jL):=uP (Pp P F fn) (tS (jV P R dm n0 c s))
def Vq(R:kn)(dm:List (Nat×lM))(n0 F:Nat)(fn:Func)(c:Code)(s:St)(hL:List (List (Bool×Bool)×ah×jL)):Prop:=AE P R dm n0 c s=true/\uU P R dm n0 c s=wW P R dm n0 c s/\abK P R dm n0 F fn c s=hL
end
theorem WU{P:Program}{F fr:Nat}{fn:Func}{dm:List (Nat×lM)}{n0:Nat}{c:Code}{s:St}{hL:List (List (Bool×Bool)×ah×jL)}(X':CX P)(K:P.follows .mixedOrders=true)(cs:V->J h2->Nat->Prop)(B:eL fr c=true)(hr:Vq P X'.R dm n0 F fn c s hL)
  (h:∀g∈hL,(∀b∈g.1,b.1=b.2)->(∀a∈g.2.1,a)/\∃v h n,g.2.2= .ret v h n/\cs v h n):TG P F fr c s (fH P F fn cs):=by
 obtain⟨e1,e2,e3⟩:=hr;obtain⟨l,hl⟩:=bH.1 e1;unfold uU wW at e2;unfold abK at e3;rw[hl]at e2 e3;simp only[tS]at e2 e3;refine JX (X':=X') K B hl fun p hp ho=>?_;obtain⟨hA,v,h',n',he,hR⟩:=h (p.1.conds,p.1.NU,Pp P F fn p.2) (e3▸mD hp) ho;refine⟨⟨qF l e2 p hp,hA⟩,?_⟩;obtain⟨pp,x,X⟩:=p;simp only[Pp]at he;cases x with
 |normal=>
  simp only at he;split at he
  . rename_i v1 Q n1 Z6;cases he;exact⟨.normal,rfl,.inl rfl,_,_,_,Z6,hR⟩
  . cases he
 |ret=>
  simp only at he;split at he
  . rename_i v1 Q n1 Z6;cases he;exact⟨.ret,rfl,.inr rfl,_,_,_,Z6,hR⟩
  . cases he
 |exit i=>simp only at he;cases he
 |panic _=>simp only at he;cases he
theorem lU.Bu{P:Program}{f:FuncId}{args ng:ag}{h O:J h2}{n:Nat}{ms:List Nat}{aj:ah}{cs:V->J h2->Nat->Prop}
  (hl:(Nat.beq args.length ng.length&&Nat.blt args.length fZ)=true) (e:NV ms (dy args h n)=some (aj,dy ng O n)) (hA:∀a∈aj,a) (c:lU P f ng O n cs):lU P f args h n cs:=by
 intro E w dH ra g hd;simp only[ay]at hl;have jx:args.length=ng.length:=aA hl.1;have eO:args.length<fZ:=az hl.2;obtain⟨vy,my⟩:=nR (n:=args.length) ra (aK _) eO;have r:jY E args.length (dy args h n) { tmps:=dH.toArray++Array.replicate (args.length-dH.toArray.size) undef,defers:=[] } w:=⟨g,hd,vy,my,rfl⟩;obtain⟨E2,r2,u,_,iY⟩:=pJ (F:=n) e hA r (aK _);have WV:dH.length=args.length:=eT ra;have Vh:dZ E2 ng dH:=by
  refine jd H fun i v hv=>?_;have hi:i<ng.length:=(aR.1 hv).1;have hg:(dy ng O n).N.get i=some v:=by
   show(lB ng 0 .nil).get i=some v;rw[uL ng 0 .nil i H];rw[aG H];simpa using hv
  obtain⟨v',k1,k2⟩:=r2.N i v hg;refine⟨v',?_,k2⟩;rw[cj (by simp;omega)]at k1;simpa using k1
 refine(c E2 w dH Vh r2.good r2.qu).mono fun en w' ⟨v,h',n',hR,E3,u3,fE,hd3,Jb,ho⟩=>⟨v,h',n',hR,E3,?_,fun m K=>(fE m K).trans (iY m),hd3,Jb,ho⟩;exact(u.trans (kB.of u3 fE (aK _))).tO hd
theorem jM.Bu{P:Program}{f:FuncId}{args ng:ag}{h O:J h2}{n:Nat}{ms:List Nat}{aj:ah}{v:V}{Q:J h2}{n1:Nat}
  (hl:(Nat.beq args.length ng.length&&Nat.blt args.length fZ)=true) (e:NV ms (dy args h n)=some (aj,dy ng O n)) (hA:∀a∈aj,a) (c:jM P f ng O n v Q n1):jM P f args h n v Q n1:=
 lU.is (c.one.Bu hl e hA)
def hP(R:ag):J h2:=J.nil.set gN (some (.cells R))
def ek(P:Program)(F fr:Nat)(s fm:St):Prop:=∀c h1,TG P F fr c fm h1->TG P F fr c s h1
section
variable{P:Program}{F fr:Nat}{s s1 fm:St}
theorem ek.refl:ek P F fr s s:=fun _ _ h=>h
theorem ek.trans(Q:ek P F fr s s1)(O:ek P F fr s1 fm):ek P F fr s fm:=fun c h1 h=>Q c h1 (O c h1 h)
theorem ek.norm{live:List Nat}(e:ld F live s=some fm):ek P F fr s fm:=fun _ _ h=>fU e h
theorem ek.deep(l:List Nat)(e:CO l s=some fm):ek P F fr s fm:=fun _ _ h=>S5 l e h
theorem ek.own(l:List (Nat×IntKind))(e:WI l s=some fm):ek P F fr s fm:=fun _ _ h=>zx l e h
theorem ek.map(l:List (Nat×Option IntKind))(e:WO l s=some fm):ek P F fr s fm:=fun _ _ h=>WQ l e h
theorem ek.Bu(ms:List Nat){aj:ah}(e:NV ms s=some (aj,fm))(hA:∀x∈aj,x):ek P F fr s fm:=fun _ _ h=>WN ms e hA h
end
section
variable{p:Prop}{P:Program}{F fr:Nat}{c:Code}{s:St}{h1:Exit->St->Prop}
theorem j9.vO{fm:St}(h:j9 F fr s fm):ek P F fr s fm:=fun _ _ hT E a w hm r hn k=>by
 obtain⟨pD,E2,r2,u2⟩:=h E a w r hn;exact hT E2 a w hm r2 pD fun y X E' a' w' q u n7 r'=>k y X E' a' w' q (u2.trans u) n7 r'
theorem S9(b m:Nat)(fm:Nat->St)(B:nf c b=true)(hl:oM (dG c)=true)(h0:ek P F fr s (fm 0))
  (hb:∀i,i<m->TG P F fr (dG (dG c)) (fm i) (andThen (fun X=>ek P F fr X (fm (i+1))) (gk b h1)))
  (he:TG P F fr (dG (dG c)) (fm m) (fun y X=>y≠ .normal/\gk b h1 y X)):TG P F fr c s h1:=by
 refine fh B (jD (fun k s=>∃i,k=m-i/\i<=m/\ek P F fr s (fm i)) hl ?_ m ⟨0,rfl,aU _,h0⟩);rintro k s1 ⟨i,W,hi,pW⟩;refine pW _ _ ?_;rcases bt i m with eO|ON
 . refine qG (hb i eO) fun y X h=>?_;cases y with
   |normal=>exact⟨m-(i+1),H,i+1,rfl,H,h⟩
   |_=>exact h
 . obtain rfl:i=m:=by omega
   refine qG he fun y X h=>?_;cases y with
   |normal=>exact absurd rfl h.1
   |_=>exact h.2
theorem zE{α:Type}{P:Program}{F fr:Nat}{c:Code}{s:St}{h1:Exit->St->Prop}(b:Nat)(μ:α->Nat)(hx:α->Prop)(fm:α->St)(B:nf c b=true)(hl:oM (dG c)=true)(x0:α)(i0:hx x0)(h0:ek P F fr s (fm x0))
  (hb:∀x,hx x->TG P F fr (dG (dG c)) (fm x) (andThen (fun X=>∃x',μ x'<μ x/\hx x'/\ek P F fr X (fm x')) (gk b h1))):TG P F fr c s h1:=by
 refine fh B (jD (fun k s=>∃x,k=μ x/\hx x/\ek P F fr s (fm x)) hl ?_ (μ x0) ⟨x0,rfl,i0,h0⟩);rintro k s1 ⟨x,W,hi,pW⟩;refine pW _ _ ?_;refine qG (hb x hi) fun y X h=>?_;cases y with
 |normal=>
  obtain⟨x',Q,O,h3⟩:=h;exact⟨μ x',H,x',rfl,O,h3⟩
 |_=>exact h
theorem S{l:ah}(h:p)(t:∀a∈l,a):∀a∈p::l,a:=List.forall_mem_cons.2 ⟨h,t⟩
theorem eG(h:p):∀a∈[p],a:=S h fun _ h=>absurd h aJ
def WW(f0:FuncId)(kp:ag)(h0:J h2)(F:Nat)(v:V)(Q:J h2)(n1:Nat)(fm:gF):gF:=fun f args h n=>match Nat.beq f f0 with
 |true=>some ([args=kp/\h=h0/\n=F],v,Q,n1)
 |false=>fm f args h n
theorem Ta{f0:FuncId}{kp:ag}{h0:J h2}{F:Nat}{v:V}{Q:J h2}{n1:Nat}{fm:gF}(eO:f0<P.funcs.size)(B:jM P f0 kp h0 F v Q n1)(hS:eU P fm):eU P (WW f0 kp h0 F v Q n1 fm):=by
 intro f args h n aj v' h' n' e;unfold WW at e;split at e
 . rename_i hb;have hb:=aA hb;subst hb;simp only[aq,aF]at e;obtain⟨rfl,rfl,rfl,rfl⟩:=e;refine⟨eO,fun hA E w dH ra g hd _=>?_⟩;obtain⟨rfl,rfl,rfl⟩:=hA _ (aH.2 rfl);exact B E w dH ra g hd
 . exact hS f args h n aj v' h' n' e
def Ls(P:Program)(F:Nat)(fn:Func)(live:List Nat)(b:Nat)(p:s'×St):jL:=match p.1 with
 | .exit i=>match Nat.beq i b with
   |true=>match JW P F fn p.2 with
    |some (v,h,n)=>.ret v h n
    |none=>.bad
   |false=>.bad
 |_=>nw P F fn live p
def WX(P:Program)(R:kn)(dm:List (Nat×lM))(n0 F:Nat)(fn:Func)(live:List Nat)(b:Nat)(c:Code)(s:St):Option (ag×ag×List (List (Bool×Bool)×ah×jL)):=
 match jV P R dm n0 c s with
 |some l=>some (qg l,uQ l,uP (Ls P F fn live b) l)
 |none=>none
abbrev yh(P:Program)(R:kn)(dm:List (Nat×lM))(n0 F:Nat)(fn:Func)(live:List Nat)(b:Nat)(c:Code)(s:St)(iX:ag)(hL:List (List (Bool×Bool)×ah×jL)):Prop:=WX P R dm n0 F fn live b c s=some (iX,iX,hL)
theorem yh.of{R:kn}{dm:List (Nat×lM)}{n0 F:Nat}{fn:Func}{live:List Nat}{b:Nat}{c:Code}{s:St}{hL:List (List (Bool×Bool)×ah×jL)}(Q:AE P R dm n0 c s=true)(O:uU P R dm n0 c s=wW P R dm n0 c s)
  (h3:uP (Ls P F fn live b) (tS (jV P R dm n0 c s))=hL):∃iX,yh P R dm n0 F fn live b c s iX hL:=by
 obtain⟨l,hl⟩:=bH.1 Q;unfold uU wW at O;rw[hl]at O h3;simp only[tS]at O h3;exact⟨qg l,by simp only[yh,WX,hl,h3,<- O]⟩
theorem Pq{dm:List (Nat×lM)}{n0:Nat}{fn:Func}{live:List Nat}{iX:ag}{hL:List (List (Bool×Bool)×ah×jL)}(b:Nat)(X':CX P)(K:P.follows .mixedOrders=true)(cs:V->J h2->Nat->Prop)(B:eL fr c=true)(hr:yh P X'.R dm n0 F fn live b c s iX hL)
  (hQ:∀X,fH P F fn cs .normal X->h1 (.exit b) X) (h:∀g∈hL,(∀b∈g.1,b.1=b.2)->(∀a∈g.2.1,a)/\g.2.2.post P F fn live cs h1):TG P F fr c s h1:=by
 unfold yh WX at hr;cases hl:jV P X'.R dm n0 c s with
 |none=>rw[hl]at hr;cases hr
 |some l=>
  rw[hl]at hr;simp only[aq,aF]at hr;obtain⟨e1,e2,e3⟩:=hr;refine JX (X':=X') K B hl fun p hp ho=>?_;have hg:=h (p.1.conds,p.1.NU,Ls P F fn live b p.2) (e3▸mD hp) ho;refine⟨⟨qF l (e1.trans e2.symm) p hp,hg.1⟩,?_⟩;obtain⟨pp,x,X⟩:=p;have iO:=hg.2;simp only[Ls]at iO;cases x with
  |normal=>
   simp only[nw]at iO;split at iO
   . rename_i s2 pH;exact⟨.normal,rfl,iO X pH⟩
   . exact iO.elim
  |exit i=>
   simp only at iO;split at iO
   . rename_i hb;have hb:=aA hb;subst hb;split at iO
     . rename_i v h n hr;exact⟨.exit i,rfl,hQ X ⟨.inl rfl,v,h,n,hr,iO.1⟩⟩
     . exact iO.elim
   . exact iO.elim
  |ret=>
   simp only[nw]at iO;split at iO
   . rename_i v h n hr;exact⟨.ret,rfl,iO.2 X ⟨.inr rfl,v,h,n,hr,iO.1⟩⟩
   . exact iO.elim
  |panic _=>exact iO.elim
end
theorem M4{h h0:J h2}(hh:∀k,h.get k=h0.get k)(m:Nat):eN h m↔eN h0 m:=by unfold eN;rw[hh m]
theorem jM.ext{P:Program}{f:FuncId}{args:ag}{h h0 Q O:J h2}{n n1:Nat}{v:V}(hh:∀k,h.get k=h0.get k)(W:∀k,Q.get k=O.get k)(c:jM P f args h0 n v O n1):jM P f args h n v Q n1:=by
 intro E w dH ra g hd;refine(c E w dH ra (g.ext fun k=>(hh k).symm) hd).mono fun e w' ⟨E',u,q1,q2,q3,q4⟩=>⟨E',?_,q1,q2,q3,q4⟩;have u:=u.ext W;have hw:=M4 hh;exact⟨u.le,u.good,u.size,u.tape,u.os,u.output,fun b hb K=>u.keep b hb fun m s h=>K m s ((hw m).2 h),fun m b s Q O h3=>by
  obtain⟨m0,s0,a1,a2,a3⟩:=u.tL m b s Q O h3;exact⟨m0,s0,by rw[hh];exact a1,a2,fun h=>(hw m0).2 (a3 h)⟩,fun b c h=>by
  rcases u.DI b c h with h|h|⟨m,s,Q,O⟩
  . exact .inl h
  . exact .inr (.inl h)
  . exact .inr (.inr ⟨m,s,(hw m).2 Q,O⟩)⟩
def yj(back:J Nat):Nat->Bool
 |0=>true
 |k+1=>(match back.get k with|some m=>Nat.beq m k|none=>false)&&yj back k
theorem wh{back:J Nat}:∀{k:Nat},yj back k=true->∀m,m<k->back.get m=some m
 |0,_,m,K=>by omega
 |k+1,h,m,K=>by
  simp only[yj,ay]at h;by_cases e:m=k
  . subst e;cases q:back.get m with
    |none=>rw[q]at h;cases h.1
    |some j=>rw[q]at h;rw[aA h.1]
  . exact wh h.2 m H
def Lt(F lo:Nat)(live:List Nat)(s:St):Option St:=
 match Nat.ble F s.n&&Nat.ble lo F with
 |false=>none
 |true=>match HP s.h 100000 (Cy s.h lo (rS s.N live++CA s.ij [])) (SQ lo) (FC F) F with
  |some (ρ,oq,k)=>
   let back:=wS oq k .nil
   let ν:=wT ρ back k
   match(yj back F&&Nat.ble F k)&&Nat.ble gN F with
   |true=>match Cz ν s.h (oq.filter fun m=>(ρ.get m).isSome) .nil with
    |some O=>match wV ν s.N live .nil with
     |some JI=>match MS ν s.ij with
      |some d2=>some { N:=JI,h:=O,n:=k,ij:=d2 }
      |none=>none
     |none=>none
    |none=>none
   |false=>none
  |none=>none
theorem Ic{F lo fr:Nat}{live:List Nat}{s s2:St}{E:Env}{a:Act}{w:World}(e:Lt F lo live s=some s2)(r:jY E fr s a w):F<=s.n/\F<=s2.n/\∃E2,jY E2 fr s2 a w/\kB F E s.h w E2 s2.h w:=by
 unfold Lt at e;split at e
 . cases e
 rename_i hn;simp only[ay]at hn;split at e
 case h_2=>cases e
 rename_i ρ oq k ht;revert e;generalize abw:wS oq k .nil=back;intro e;simp only at e;split at e
 case h_2=>cases e
 rename_i fE;simp only[ay]at fE;split at e
 case h_2=>cases e
 rename_i O hh;split at e
 case h_2=>cases e
 rename_i JI vy;split at e
 case h_2=>cases e
 rename_i d2 Cr;simp only[aq]at e;subst e
 let E2:Env:=⟨fun m=>if m<k then(match back.get m with|some old=>E.ι old|none=>none)else none,E.β,E.φ⟩
 have iY:∀m j,wT ρ back k m=some j->E2.ι j=E.ι m:=by
  intro m j hj;obtain⟨_,O,h3⟩:=Aw hj;show(if j<k then(match back.get j with|some old=>E.ι old|none=>none)else none)=_;rw[aG h3,O]
 have W:F<=k:=az fE.1.2;have Dy:∀m,m<F->E2.ι m=E.ι m:=fun m K=>by
  show(if m<k then(match back.get m with|some old=>E.ι old|none=>none)else none)=_;rw[aG (bR K W),wh fE.1.1 m K]
 have Ja:=tc _ .nil O hh (fun j o hj=>by simp[J.get]at hj);have p9:Good E2 O w:=by
  refine⟨?_,?_,?_,fun p hp=>(Dy _ (bR (Fz hp) (az fE.2))).trans (r.good.kx p hp),fun b c q=>⟨(r.good.iz b c q).1,fun m s1 K e1=>?_⟩⟩
  case refine_4=>
   obtain⟨o,ho,Ww⟩:=K;obtain⟨old,p,k1,k2,k3⟩:=Ja m o ho;rw[iY old m k1]at e1;exact(r.good.iz b c q).2 old s1 ⟨p,k2,(Ax k3).symm.trans Ww⟩ e1
  . intro m o2 K;obtain⟨old,o,k1,k2,k3⟩:=Ja m o2 K;obtain⟨b,X,e1,e2⟩:=r.good.rel old o k2;exact⟨b,X,(iY old m k1).trans e1,Bp iY (fun _ _ _ _ _ _=>rfl) (fun _ _ q=>q) rfl o o2 k3 e2⟩
  . intro m m' b s1 s2 iV K sD e1 e2;obtain⟨o,ho,Ww⟩:=K;obtain⟨o',DP⟩:=bA.1 sD;obtain⟨old,p,k1,k2,k3⟩:=Ja m o ho;obtain⟨AX,p',FD,k2',_⟩:=Ja m' o' DP;rw[iY old m k1]at e1;rw[iY AX m' FD]at e2;by_cases og:old=AX
    . subst og;rw[k1]at FD;simp only[aq]at FD;exact iV FD
    . exact r.good.inj old AX b s1 s2 og ⟨p,k2,(Ax k3).symm.trans Ww⟩ (by rw[k2'];simp) e1 e2
  . intro m b s1 e1;have e1:(if m<k then(match back.get m with|some old=>E.ι old|none=>none)else none)=some (b,s1):=e1;split at e1
    . split at e1
      . exact r.good.oL _ b s1 e1
      . cases e1
    . cases e1
 refine⟨az hn.1,W,E2,⟨p9,?_,?_,r.size,?_⟩,?_⟩
 . intro m K;show(if m<k then _ else none)=none;rw[aB (by show ¬m<k;have:k<=m:=K;omega)]
 . intro t v2 hv;obtain⟨v,k1,k2⟩:=qD live .nil JI vy (fun j o hj=>by simp[J.get]at hj) t v2 hv;obtain⟨v',Q,O⟩:=r.N t v k1;exact⟨v',Q,s8 iY (fun _ _ _ _ _ _=>rfl) (fun _ _ q=>q) v v2 v' k2 O⟩
 . exact CB iY _ _ _ Cr r.ij
 . refine⟨fun m b s1 K e1=>⟨(Dy m K).trans e1,rfl⟩,Dy,fun _ _ q=>q,p9,aK _,rfl,rfl,rfl,fun _ _ _=>rfl,?_,fun _ _ q=>.inl q⟩;intro m b s1 K e1 hb;obtain⟨o,ho⟩:=bA.1 K;obtain⟨old,p,k1,k2,k3⟩:=Ja m o ho;rw[iY old m k1]at e1;refine⟨old,s1,by rw[k2];simp,e1,fun⟨o',q1,q2⟩=>⟨p,k2,?_⟩⟩;rw[ho]at q1;cases q1;exact(Ax k3).symm.trans q2
def Step(F:Nat)(s s2:St):Prop:=∀fr E a w,jY E fr s a w->F<=s.n->F<=s2.n/\∃E2,jY E2 fr s2 a w/\kB F E s.h w E2 s2.h w
theorem Step.refl{F:Nat}{s:St}:Step F s s:=fun _ E _ _ r hn=>⟨hn,E,r,.refl r.good⟩
theorem Step.trans{F:Nat}{s s1 s2:St}(a:Step F s s1)(b:Step F s1 s2):Step F s s2:=fun fr E c w r hn=>by
 obtain⟨Q,E1,r1,u1⟩:=a fr E c w r hn;obtain⟨O,E2,r2,u2⟩:=b fr E1 c w r1 Q;exact⟨O,E2,r2,u1.trans u2⟩
section
variable{P:Program}{F:Nat}{s:St}{fr:Nat}{s2:St}
theorem Step.mov(lo:Nat){live:List Nat}(e:Lt F lo live s=some s2):Step F s s2:=fun _ _ _ _ r _=>(Ic e r).2
theorem Step.norm{live:List Nat}(e:ld F live s=some s2):Step F s s2:=fun _ _ _ _ r _=>(ot e r).2
theorem Step.mem{O:J h2}(hg:∀E w,Good E s.h w->Good E O w/\∀m,(O.get m≠none↔s.h.get m≠none)/\(eN O m->eN s.h m)):Step F s { s with h:=O }:=fun fr E a w r hn=>by
 obtain⟨g2,k2⟩:=hg E w r.good;exact⟨hn,E,⟨g2,r.qu,r.N,r.size,r.ij⟩,⟨fun _ _ _ _ e=>⟨e,rfl⟩,fun _ _=>rfl,fun _ _ q=>q,g2,aK _,rfl,rfl,rfl,fun _ _ _=>rfl,fun m b s1 K e1 _=>⟨m,s1,(k2 m).1.1 K,e1,(k2 m).2⟩,fun _ _ q=>.inl q⟩⟩
theorem Step.deep(l:List Nat)(e:CO l s=some s2):Step F s s2:=by
 unfold CO at e;split at e
 case h_2=>cases e
 rename_i O hh;obtain rfl:=eH e;exact Step.mem fun E w g=>ql l s.h O hh g
theorem Step.Bu(ms:List Nat){aj:ah}(e:NV ms s=some (aj,s2))(hA:∀x∈aj,x):Step F s s2:=fun fr E a w r hn=>by
 obtain⟨E2,r2,u,pD,_⟩:=pJ (F:=F) e hA r hn;exact⟨pD,E2,r2,u⟩
theorem Tb{c:Code}{s s2:St}{h1:Exit->St->Prop}(e:Step F s s2)(h:TG P F fr c s2 h1):TG P F fr c s h1:=by
 intro E a w hm r hn k;obtain⟨pD,E2,r2,u2⟩:=e fr E a w r hn;exact h E2 a w hm r2 pD fun y X E' a' w' q u n7 r'=>k y X E' a' w' q (u2.trans u) n7 r'
theorem ek.step{s fm:St}(e:Step F s fm):ek P F fr s fm:=fun _ _ h=>Tb e h
def rst(v:V)(h:J h2)(n:Nat):St:={ N:=J.nil.set 0 (some v),h:=h,n:=n,ij:=[] }
end
theorem jM.step{P:Program}{f:FuncId}{args:ag}{h Q O:J h2}{n n1 n2:Nat}{v v2:V}(c:jM P f args h n v Q n1)(st:Step n (rst v Q n1) (rst v2 O n2)):jM P f args h n v2 O n2:=by
 intro E w dH ra g hd;refine(c E w dH ra g hd).mono fun en w' ⟨E1,u,fE,NS,DN,ho⟩=>?_;cases en with
 |panicked ch=>exact ho.elim
 |outgrown=>exact ho.elim
 |returned v'=>
  have hv:dV E1 v v':=ho;have r:jY E1 1 (rst v Q n1) { tmps:=#[v'],defers:=[] } w':=by
   refine⟨u.good,NS,fun t x I=>?_,rfl,rfl⟩;have I:(J.nil.set 0 (some v)).get t=some x:=I;rw[J.fJ _ _ _ (az eY)]at I;split at I
   . rename_i e0;subst e0;cases I;exact⟨v',rfl,hv⟩
   . exact absurd I (by simp[J.get])
  obtain⟨pD,E2,r2,u2⟩:=st 1 E1 _ w' r DN;obtain⟨x,I,hv2⟩:=r2.N 0 v2 (by show(J.nil.set 0 (some v2)).get 0=some v2;rw[J.fJ _ _ _ (az eY),aG rfl]);have I:some v'=some x:=I;obtain rfl:=eH I;exact⟨E2,((kB.of (F:=n) u fE (aK _)).trans u2).tO hd,fun m K=>(u2.low m K).trans (fE m K),r2.qu,pD,hv2⟩
theorem jM.mov{P:Program}{f:FuncId}{args:ag}{h Q O:J h2}{n n1 n2:Nat}{v v2:V}(lo:Nat)(c:jM P f args h n v Q n1)(e:Lt n lo [0] (rst v Q n1)=some (rst v2 O n2)):jM P f args h n v2 O n2:=c.step (.mov lo e)
theorem jM.nil{P:Program}{f:FuncId}{args:ag}{h Q:J h2}{n n1 z:Nat}(b:Bool)(c:jM P f args h n (.eR none 0 0 z) Q n1):jM P f args h n (.eB b 0 []) Q n1:=by
 intro E w dH ra g hd;refine(c E w dH ra g hd).mono fun en w' ⟨E1,u,fE,NS,DN,ho⟩=>⟨E1,u,fE,NS,DN,?_⟩;cases en with
 |panicked ch=>exact ho.elim
 |outgrown=>exact ho.elim
 |returned v'=>
  obtain⟨_,_,rfl⟩:0=0/\0=0/\v'= .slice none 0 0:=ho;exact⟨⟨none,0,[],rfl,aK _,rfl,fun _=>rfl,fun h=>absurd h (Nat.lt_irrefl _)⟩,fun _=>⟨none,rfl⟩⟩
def rbS(p i:Nat)(s:St):Option St:=match s.h.get p with
 |some (.cells R)=>match R[i]? with
  |some (.eR (some (m,o)) len jO jv)=>match s.h.get m with
   |some (.deep cs)=>match(Nat.blt m fZ&&Nat.blt p fZ)&&(Nat.blt s.n fZ&&Bool.not (Nat.beq p m))with
    |true=>some { s with h:=((s.h.set m none).set p (some (.cells (R.set i (.eR (some (s.n,0)) len len jv))))).set s.n (some (.deep ((cs.drop o).take (len*jv)))),n:=s.n+1 }
    |false=>none
   |_=>none
  |_=>none
 |_=>none
theorem Step.rb{F:Nat}{s s2:St}(p i:Nat)(e:rbS p i s=some s2):Step F s s2:=by
 unfold rbS at e;split at e
 case h_2=>cases e
 rename_i R hp;split at e
 case h_2=>cases e
 rename_i m o len _ jv hi;split at e
 case h_2=>cases e
 rename_i cs K;split at e
 case h_2=>cases e
 rename_i hb;simp only[ay,bV]at hb;obtain⟨⟨MP,Wq⟩,hnt,hpm⟩:=hb;have MP:m<fZ:=az MP;have Wq:p<fZ:=az Wq;have hnt:s.n<fZ:=az hnt;have hpm:p≠m:=fun q=>by rw[q,Nat.beq_refl]at hpm;cases hpm
 obtain rfl:=eH e;intro fr E a w r hn;have g:=r.good;obtain⟨bm,sm,em,om⟩:=g.rel m _ K;obtain⟨bp,sp,ep,op⟩:=g.rel p _ hp;have Ar:E.ι s.n=none:=r.qu _ (aK _);have Ss:m≠s.n:=fun q=>by rw[q,Ar]at em;cases em
 have hpn:p≠s.n:=fun q=>by rw[q,Ar]at ep;cases ep
 let E2:Env:=⟨fun j=>if j=s.n then some (bm,sm+o)else E.ι j,E.β,E.φ⟩
 have e2n:E2.ι s.n=some (bm,sm+o):=aG rfl;have e2:∀j,j≠s.n->E2.ι j=E.ι j:=fun j hj=>aB hj;have kK:E.le E2:=⟨fun j b x hj=>⟨by
  rw[e2 j fun q=>by rw[q,Ar]at hj;cases hj];exact hj,rfl⟩,fun _ _ q=>q⟩
 have lC:∀j,(((s.h.set m none).set p (some (.cells (R.set i (.eR (some (s.n,0)) len len jv))))).set s.n (some (.deep ((cs.drop o).take (len*jv))))).get j=
   if j=s.n then some (.deep ((cs.drop o).take (len*jv)))else if j=p then some (.cells (R.set i (.eR (some (s.n,0)) len len jv)))else if j=m then none else s.h.get j:=fun j=>by
  rw[J.fJ _ _ _ hnt,J.fJ _ _ _ Wq,J.fJ _ _ _ MP]
 have hor:∀j b x,(((s.h.set m none).set p (some (.cells (R.set i (.eR (some (s.n,0)) len len jv))))).set s.n (some (.deep ((cs.drop o).take (len*jv))))).get j≠none->E2.ι j=some (b,x)->∃j0 x0,s.h.get j0≠none/\E.ι j0=some (b,x0)/\(j=s.n->j0=m)/\(j≠s.n->j0=j/\j≠m):=by
  intro j b x hj ej;rw[lC]at hj;by_cases q:j=s.n
  . subst q;rw[e2n]at ej;simp only[aq,aF]at ej;obtain⟨rfl,_⟩:=ej;exact⟨m,sm,by rw[K];simp,em,fun _=>rfl,fun q=>absurd rfl q⟩
  . rw[e2 j q]at ej;rw[aB q]at hj;refine⟨j,x,?_,ej,fun q'=>absurd q' q,fun _=>⟨rfl,?_⟩⟩
    . by_cases q1:j=p
      . subst q1;rw[hp];simp
      . rw[aB q1]at hj;by_cases q2:j=m
        . rw[aG q2]at hj;exact absurd rfl hj
        . rw[aB q2]at hj;exact hj
    . intro q2;subst q2;rw[aB (fun q=>hpm q.symm),aG rfl]at hj;exact absurd rfl hj
 have hw:∀j,eN (((s.h.set m none).set p (some (.cells (R.set i (.eR (some (s.n,0)) len len jv))))).set s.n (some (.deep ((cs.drop o).take (len*jv))))) j->j≠s.n->eN s.h j:=by
  rintro j ⟨x,I,hxw⟩ q;rw[lC,aB q]at I;by_cases q1:j=p
  . subst q1;exact⟨_,hp,rfl⟩
  . rw[aB q1]at I;by_cases q2:j=m
    . rw[aG q2]at I;cases I
    . rw[aB q2]at I;exact⟨x,I,hxw⟩
 have Vd:eN s.h m:=⟨_,K,rfl⟩;have p9:Good E2 (((s.h.set m none).set p (some (.cells (R.set i (.eR (some (s.n,0)) len len jv))))).set s.n (some (.deep ((cs.drop o).take (len*jv))))) w:=by
  refine⟨fun j x hj=>?_,fun j j' b x x' iV hj xy e1 e1'=>?_,fun j b x ej=>?_,fun q hq=>kK.nm _ _ _ (g.kx q hq) |>.1,fun b c q=>⟨(g.iz b c q).1,fun j x hj ej=>?_⟩⟩
  . rw[lC]at hj;by_cases q:j=s.n
    . subst q;rw[aG rfl]at hj;obtain rfl:=eH hj;refine⟨bm,sm+o,e2n,?_⟩;obtain⟨c,el,fz,vs,Q,O,h3,h4,h5⟩:=om;refine⟨c,el,fz,(vs.drop o).take (len*jv),Q,O,h3,sJ (nD h4),fun k x I=>?_⟩;rw[bS]at I;split at I
      . rw[bU]at I;have:=h5 (o+k) x I;rw[<- this];congr 1;omega
      . cases I
    . rw[aB q]at hj;by_cases q1:j=p
      . subst q1;rw[aG rfl]at hj;obtain rfl:=eH hj;refine⟨bp,sp,by rw[e2 _ q];exact ep,?_⟩;obtain⟨c,el,fz,Q,O,h3,h4⟩:=op;refine⟨c,el,fz,Q,O,h3,fun k v hv=>?_⟩;rw[List.getElem?_set]at hv;split at hv
        . rename_i hik;subst hik;split at hv
          . obtain rfl:=eH hv;obtain⟨v',k1,b,s0,o',gx,q1,q2,q3,q4,q5,q6⟩:=h4 i _ hi;rw[em]at q1;simp only[aq,aF]at q1;obtain⟨rfl,rfl⟩:=q1;exact⟨v',k1,bm,sm+o,o',gx,e2n,fun h0=>q2 (bR h0 q3),aK _,bE q3 q4,q5,q6⟩
          . cases hv
        . obtain⟨v',k1,k2⟩:=h4 k v hv;exact⟨v',k1,jh kK v v' k2⟩
      . rw[aB q1]at hj;split at hj
        . cases hj
        . obtain⟨b,x0,k1,k2⟩:=g.rel j x hj;exact⟨b,x0,by rw[e2 _ q];exact k1,ji kK rfl rfl k2⟩
  . have hj0:(((s.h.set m none).set p (some (.cells (R.set i (.eR (some (s.n,0)) len len jv))))).set s.n (some (.deep ((cs.drop o).take (len*jv))))).get j≠none:=by obtain⟨y,hy,_⟩:=hj;rw[hy];simp
    obtain⟨k,x1,a1,a2,a3,a4⟩:=hor j b x hj0 e1;obtain⟨k',x2,b1,b2,b3,b4⟩:=hor j' b x' xy e1';have hkw:eN s.h k:=by
     by_cases q:j=s.n
     . rw[a3 q];exact Vd
     . rw[(a4 q).1];exact hw j hj q
    refine g.inj k k' b x1 x2 ?_ hkw b1 a2 b2;by_cases q:j=s.n
    . have q':j'≠s.n:=fun z=>iV (q.trans z.symm);rw[a3 q,(b4 q').1];exact fun z=>(b4 q').2 z.symm
    . by_cases q':j'=s.n
      . rw[(a4 q).1,b3 q'];exact(a4 q).2
      . rw[(a4 q).1,(b4 q').1];exact iV
  . by_cases q:j=s.n
    . rw[q,e2n]at ej;simp only[aq,aF]at ej;obtain⟨rfl,_⟩:=ej;exact g.oL _ _ _ em
    . rw[e2 j q]at ej;exact g.oL _ _ _ ej
  . by_cases q2:j=s.n
    . rw[q2,e2n]at ej;simp only[aq,aF]at ej;obtain⟨rfl,_⟩:=ej;exact(g.iz _ c q).2 m sm Vd em
    . rw[e2 j q2]at ej;exact(g.iz b c q).2 j x (hw j hj q2) ej
 refine⟨Nat.le_succ_of_le hn,E2,⟨p9,fun j hj=>?_,mB kK r.N,r.size,jI kK _ _ r.ij⟩,?_⟩
 . have hj:s.n+1<=j:=hj;rw[e2 j H];exact r.qu j (Nat.le_of_succ_le hj)
 . refine⟨fun j b x _ ej=>kK.nm j b x ej,fun j hj=>e2 j H,fun _ _ q=>q,p9,aK _,rfl,rfl,rfl,fun _ _ _=>rfl,fun j b x hj ej _=>?_,fun _ _ q=>.inl q⟩;obtain⟨k,x1,a1,a2,a3,a4⟩:=hor j b x hj ej;refine⟨k,x1,a1,a2,fun z=>?_⟩;by_cases q:j=s.n
   . rw[a3 q];exact Vd
   . rw[(a4 q).1];exact hw j z q
mutual
def V.nl:V->V
 | .eR none len c e=>match len with
   |0=>.eB false 0 []
   |_=>.eR none len c e
 | .eB _ n R=>.eB false n R
 | .agg R=>.agg (V.lA R)
 | .gw R=>.gw (V.lA R)
 |v=>v
def V.lA:ag->ag
 | []=>[]
 |x::xs=>x.nl::V.lA xs
end
mutual
theorem zF{E:Env}:∀(v:V) (v':Value),dV E v v'->dV E v.nl v'
 | .eR none 0 _ _,_,⟨_,_,e⟩=>by
   rw[e];exact⟨⟨none,0,[],rfl,aK _,rfl,fun _=>rfl,fun h=>absurd h (Nat.lt_irrefl _)⟩,fun h=>by cases h⟩
 | .eR none (_+1) _ _,_,r=>r
 | .eB _ _ _,_,r=>⟨r.1,fun h=>by cases h⟩
 | .agg R,_,⟨cs',r,q⟩=>⟨cs',tx R cs' r,q⟩
 | .gw R,_,⟨cs',r,q⟩=>⟨cs',tx R cs' r,q⟩
 | .bool _,_,r=>r
 | .int _ _,_,r=>r
 | .str _,_,r=>r
 | .ptr _,_,r=>r
 | .eR (some _) _ _ _,_,r=>r
 | .map _,_,r=>r
 | .fn _ _ _,_,r=>r
 | .kG,_,r=>r
 | .iface _ _,_,r=>r
 | .nilIface,_,r=>r
 | .dx _,_,r=>r
theorem tx{E:Env}:∀(v:ag) (v':List Value),dZ E v v'->dZ E (V.lA v) v'
 | [],_,r=>r
 |x::xs,_,⟨y,ys,r,rs,q⟩=>⟨y,ys,zF x y r,tx xs ys rs,q⟩
end
theorem dU.nl{P:Program}{f:FuncId}{args:ag}{v:V}(h:dU P f args v):dU P f args v.nl:=fun E h' n w dH ra g hd=>
 (h E h' n w dH ra g hd).mono fun en w' ⟨E1,u,fE,NS,DN,ho⟩=>⟨E1,u,fE,NS,DN,by
  cases en with
  |returned v'=>exact zF v v' ho
  |panicked _=>exact ho.elim
  |outgrown=>exact ho.elim⟩
def fb(f0:FuncId)(kp:ag)(v:V)(fm:gF):gF:=fun f args h n=>match Nat.beq f f0 with
 |true=>some ([V.lA args=kp],v,h,n)
 |false=>fm f args h n
theorem Tc{P:Program}{f0:FuncId}{kp:ag}{v:V}{fm:gF}(eO:Nat.blt f0 P.funcs.size=true)(B:dU P f0 kp v)(hS:eU P fm):eU P (fb f0 kp v fm):=by
 intro f args h n aj v' h' n' e;unfold fb at e;split at e
 . rename_i hb;have hb:=aA hb;subst hb;simp only[aq,aF]at e;obtain⟨rfl,rfl,rfl,rfl⟩:=e;refine⟨az eO,fun hA E w dH ra g hd _=>?_⟩;obtain rfl:=hA _ (aH.2 rfl);exact B E h n w dH (tx _ _ ra) g hd
 . exact hS f args h n aj v' h' n' e
def vD(v:V)(u:V)(h:J h2)(n:Nat):Prop:=∃v0,Pe v0 u h n/\v0.deep=true/\v0.nl=v
theorem vD.self{v u:V}{h:J h2}{n:Nat}(hd:u.deep=true)(e:u.nl=v):vD v u h n:=⟨u,.self,hd,e⟩
def WY(ms:List Nat)(u:V)(h:J h2)(n:Nat):Option (ah×V):=match NV ms { N:=J.nil.set 0 (some u),h:=h,n:=n,ij:=[] }with
 |some (aj,s2)=>match s2.N.get 0 with
  |some v=>some (aj,v)
  |none=>none
 |none=>none
theorem vD.Bu{v u v0:V}{h:J h2}{n:Nat}(ms:List Nat){aj:ah}(e:WY ms u h n=some (aj,v0))(hA:∀a∈aj,a)(hd:v0.deep=true)(en:v0.nl=v):vD v u h n:=by
 unfold WY at e;split at e
 case h_2=>cases e
 rename_i A1 s2 Q;split at e
 case h_2=>cases e
 rename_i v1 O;simp only[aq,aF]at e;obtain⟨rfl,rfl⟩:=e;exact⟨v1,⟨[ms],A1++[],s2,by simp only[M1,Q],fun a ha=>hA a (by simpa using ha),O⟩,hd,en⟩
theorem dU.ah3{P:Program}(K:P.follows .mixedOrders=true)(sF:jJ P=true){f:FuncId}{fn:Func}{code:Code}(hf:P.funcs[f]? =some fn)(hb:fn.body=some code){args:ag}
  (l:(Nat.ble args.length fn.ntmps&&Nat.blt fn.ntmps fZ)=true) {v:V} (J1:V.qi args=true) (hT:TG P gN fn.ntmps code (dy args .nil gN) (fH P gN fn (vD v))):dU P f args v:=by
 intro E h n w dH ra g hd;have g0:Good (Bo E.φ) .nil w:=wR g.wg g.fz;have ra0:dZ (Bo E.φ) args dH:=lG (E:=E) (E':=Bo E.φ) (fun _ _ q=>q) _ _ J1 ra;refine(qI K sF hf hb l _ hT ra0 g0 (Cw (aK _))).mono fun e w' ⟨u,h',n',⟨v0,hz,hv,hn⟩,k⟩=>?_;obtain⟨E1,u,fE,NS,DN,ho⟩:=CQ (E1:=Bo E.φ) g hd rfl wX hv hz k;refine⟨E1,u,fE,NS,DN,?_⟩;subst hn;cases e with
 |returned v'=>exact zF v0 v' ho
 |panicked _=>exact ho.elim
 |outgrown=>exact ho.elim
def h2.nl:h2->h2
 | .cells R=>.cells (V.lA R)
 |o=>o
def nlV:J V->J V
 | .nil=>.nil
 | .node v l r=>.node (v.map V.nl) (nlV l) (nlV r)
def Vr:J h2->J h2
 | .nil=>.nil
 | .node v l r=>.node (v.map h2.nl) (Vr l) (Vr r)
theorem FU:∀(t:J V) (k:Nat),(nlV t).get k=(t.get k).map V.nl
 | .nil,_=>rfl
 | .node v l r,k=>by
   simp only[nlV,J.get];split
   . rfl
   . split
     . exact FU l _
     . exact FU r _
theorem vE:∀(t:J h2) (k:Nat),(Vr t).get k=(t.get k).map h2.nl
 | .nil,_=>rfl
 | .node v l r,k=>by
   simp only[Vr,J.get];split
   . rfl
   . split
     . exact vE l _
     . exact vE r _
theorem Lu:∀(l:ag) (i:Nat),(V.lA l)[i]? =(l[i]?).map V.nl
 | [],_=>by simp[V.lA]
 |x::l,0=>by simp[V.lA]
 |x::l,i+1=>by simpa[V.lA]using Lu l i
theorem Td{E:Env}{w:World}{b s:Nat}{o:h2}(r:nE E w b s o):nE E w b s o.nl:=by
 cases o with
 |cells R=>
  obtain⟨c,el,fz,Q,O,h3,h4⟩:=r;refine⟨c,el,fz,Q,O,h3,fun i v hv=>?_⟩;rw[Lu]at hv;cases B:R[i]? with
  |none=>rw[B]at hv;cases hv
  |some u=>
   rw[B]at hv;simp only[bw,aq]at hv;subst hv;obtain⟨v',k1,k2⟩:=h4 i u B;exact⟨v',k1,zF u v' k2⟩
 |_=>exact r
theorem Pr(o:h2):o.nl.wr=o.wr:=by cases o<;>rfl
def nlS(s:St):St:={ s with N:=nlV s.N,h:=Vr s.h }
theorem Step.nl{F:Nat}{s:St}:Step F s (nlS s):=fun fr E a w r hn=>by
 have iU:∀m,eN (Vr s.h) m↔eN s.h m:=fun m=>by
  constructor
  . rintro⟨o,Q,O⟩;rw[vE]at Q;cases h0:s.h.get m with
    |none=>rw[h0]at Q;cases Q
    |some o0=>
     rw[h0]at Q;simp only[bw,aq]at Q;subst Q;exact⟨o0,h0,by rw[Pr]at O;exact O⟩
  . rintro⟨o,Q,O⟩;exact⟨o.nl,by rw[vE,Q];rfl,by rw[Pr];exact O⟩
 have iV:∀m,(Vr s.h).get m≠none↔s.h.get m≠none:=fun m=>by
  rw[vE];cases s.h.get m<;>simp
 have g:Good E (Vr s.h) w:=by
  refine⟨fun m o K=>?_,fun m m' b s1 s2 ML K sD=>r.good.inj m m' b s1 s2 ML ((iU m).1 K) ((iV m').1 sD),r.good.oL,r.good.kx,fun b c q=>⟨(r.good.iz b c q).1,fun m s1 K=>(r.good.iz b c q).2 m s1 ((iU m).1 K)⟩⟩;rw[vE]at K;cases h0:s.h.get m with
  |none=>rw[h0]at K;cases K
  |some o0=>
   rw[h0]at K;simp only[bw,aq]at K;subst K;obtain⟨b,s1,k1,k2⟩:=r.good.rel m o0 h0;exact⟨b,s1,k1,Td k2⟩
 refine⟨hn,E,⟨g,r.qu,fun t v hv=>?_,r.size,r.ij⟩,⟨fun _ _ _ _ e=>⟨e,rfl⟩,fun _ _=>rfl,fun _ _ q=>q,g,aK _,rfl,rfl,rfl,fun _ _ _=>rfl,fun m b s1 K e1 _=>⟨m,s1,(iV m).1 K,e1,(iU m).1⟩,fun _ _ q=>.inl q⟩⟩;have hv:(nlV s.N).get t=some v:=hv;rw[FU]at hv;cases h0:s.N.get t with
 |none=>rw[h0]at hv;cases hv
 |some u=>
  rw[h0]at hv;simp only[bw,aq]at hv;subst hv;obtain⟨v',k1,k2⟩:=r.N t u h0;exact⟨v',k1,zF u v' k2⟩
theorem ek.nl{P:Program}{F fr:Nat}{s fm:St}(e:nlS s=fm):ek P F fr s fm:=e▸ .step .nl
def nlI(is:List Nat):Nat->ag->ag
 |_,[]=>[]
 |i,x::r=>(match is.any (Nat.beq i)with|true=>x.nl|false=>x)::nlI is (i+1) r
theorem Lv(is:List Nat):∀(l:ag) (i j:Nat) (v:V),(nlI is i l)[j]? =some v->∃u,l[j]? =some u/\(v=u\/v=u.nl)
 | [],_,_,_,h=>by simp[nlI]at h
 |x::l,i,0,v,h=>by
  simp only[nlI,cF,aq]at h;subst h;refine⟨x,rfl,?_⟩;split<;>simp
 |x::l,i,j+1,v,h=>by
  simp only[nlI,List.getElem?_cons_succ]at h ⊢;exact Lv is l (i+1) j v h
def Te(m:Nat)(is:List Nat)(s:St):Option St:=match Nat.blt m fZ,s.h.get m with
 |true,some (.cells R)=>some { s with h:=s.h.set m (some (.cells (nlI is 0 R))) }
 |_,_=>none
theorem Step.Te{F:Nat}{s fm:St}(m:Nat)(is:List Nat)(e:Go.Eng.Te m is s=some fm):Step F s fm:=by
 unfold Go.Eng.Te at e;split at e
 case h_2=>cases e
 rename_i R ht K;obtain rfl:=eH e;refine Step.mem fun E w g=>pK (az ht) K rfl (fun b s1 _ q=>?_) g;obtain⟨c,el,fz,Q,O,h3,h4⟩:=q;refine⟨c,el,fz,Q,O,h3,fun j v hv=>?_⟩;obtain⟨u,k1,k2⟩:=Lv is R 0 j v hv;obtain⟨v',q1,q2⟩:=h4 j u k1;rcases k2 with rfl|rfl
 . exact⟨v',q1,q2⟩
 . exact⟨v',q1,zF u v' q2⟩
def Ps:ag->List Nat
 | []=>[]
 | .eR (some (m,_)) _ _ _::r=>m::Ps r
 |_::r=>Ps r
def rbA(N:J V):Nat->Nat->Option (ag)
 |_,0=>some []
 |i,k+1=>match N.get i with
  |some v=>match rbA N (i+1) k with
   |some l=>some (v::l)
   |none=>none
  |none=>none
theorem Ie{N:J V}:∀(k i:Nat) (l:ag),rbA N i k=some l->l.length=k/\∀(j:Nat) (v:V),l[j]? =some v->N.get (i+j)=some v
 |0,i,l,e=>by simp only[rbA,aq]at e;subst e;simp
 |k+1,i,l,e=>by
  simp only[rbA]at e;split at e
  case h_2=>cases e
  rename_i v hv;split at e
  case h_2=>cases e
  rename_i l' hl;obtain rfl:=eH e;obtain⟨Q,O⟩:=Ie k (i+1) l' hl;refine⟨by simp[Q],fun j u hj=>?_⟩;cases j with
  |zero=>simp at hj;subst hj;exact hv
  |succ j=>
   have:=O j u (by simpa using hj);rw[<- this];congr 1;omega
def Pt(f0:FuncId)(kp:ag)(v:V)(fm:gF):gF:=fun f args h n=>match Nat.beq f f0 with
 |true=>match Nat.blt args.length fZ with
  |true=>match NV (Ps args) (dy args h n)with
   |some (aj,s2)=>match rbA s2.N 0 args.length,Nat.beq s2.n n with
    |some ng,true=>some (aj++[V.lA ng=kp],v,s2.h,n)
    |_,_=>none
   |none=>none
  |false=>none
 |false=>fm f args h n
theorem FV{P:Program}{f0:FuncId}{kp:ag}{v:V}{fm:gF}(eO:Nat.blt f0 P.funcs.size=true)(B:dU P f0 kp v)(hS:eU P fm):eU P (Pt f0 kp v fm):=by
 intro f args h n aj v' h' n' e;unfold Pt at e;split at e
 case h_2=>exact hS f args h n aj v' h' n' e
 rename_i hb;have hb:=aA hb;subst hb;split at e
 case h_2=>cases e
 rename_i WZ;have WZ:args.length<fZ:=az WZ;split at e
 case h_2=>cases e
 rename_i A1 s2 DJ;split at e
 case h_2=>cases e
 rename_i ng hrb hn;simp only[aq,aF]at e;obtain⟨rfl,rfl,rfl,rfl⟩:=e;have hn:=aA hn;refine⟨az eO,fun hA E w dH ra g hd _=>?_⟩;obtain⟨vy,my⟩:=nR (n:=args.length) ra (aK _) WZ;have r:jY E args.length (dy args h n) { tmps:=dH.toArray++Array.replicate (args.length-dH.toArray.size) undef,defers:=[] } w:=⟨g,hd,vy,my,rfl⟩;obtain⟨E2,r2,u,_,iY⟩:=pJ (F:=n) DJ (fun a ha=>hA a (by simp[ha])) r (aK _);obtain⟨k1,k2⟩:=Ie _ _ _ hrb;have WV:dH.length=args.length:=eT ra;have Vh:dZ E2 ng dH:=by
  refine jd H fun i v hv=>?_;have hi:i<ng.length:=(aR.1 hv).1;obtain⟨v',q1,q2⟩:=r2.N i v (by have:=k2 i v hv;rwa [b7]at this);refine⟨v',?_,q2⟩;rw[cj (by simp;omega)]at q1;simpa using q1
 have he:V.lA ng=kp:=hA _ (by simp);subst he;refine(B E2 s2.h n w dH (tx _ _ Vh) r2.good (hn▸r2.qu)).mono fun en w' ⟨E3,u3,fE,hd3,Jb,ho⟩=>⟨E3,?_,fun m K=>(fE m K).trans (iY m),hd3,Jb,ho⟩;exact(u.trans (kB.of u3 fE (aK _))).tO hd
end Go.Eng
