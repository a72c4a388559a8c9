/- The engine, part RA: rows are frozen; contracts of functions on deep values. No conditions: lemmas alone. -/
import Derived.Test.YtfihojpgobmmdaaGreatDoorJointW03
set_option linter.unusedVariables false
set_option linter.unusedSimpArgs false
set_option linter.unusedSectionVars false
namespace Go.Eng
open Go Go.RowKit
mutual
def V.deep:V->Bool
 | .ptr (some _)=>false
 | .di (some _) _ _ _=>false
 | .map (some _)=>false
 | .fn f a c=>vD f&&(V.qz a&&V.qz c)
 | .iface _ x=>V.deep x
 | .agg cs=>V.qz cs
 | .eo cs=>V.qz cs
 |_=>true
def V.qz:ag->Bool
 | []=>true
 |x::xs=>V.deep x&&V.qz xs
end
mutual
theorem CF{E E':Env}(kQ:∀b c,E.φ b=some c->E'.φ b=some c):∀(v:V) (v':Value),v.deep=true->dz E v v'->dz E' v v'
 | .bool _,_,_,r=>r
 | .int _ _,_,_,r=>r
 | .str _,_,_,r=>r
 | .ptr none,_,_,r=>r
 | .ptr (some _),_,h,_=>by simp[V.deep]at h
 | .di none _ _ _,_,_,r=>r
 | .di (some _) _ _ _,_,h,_=>by simp[V.deep]at h
 | .map none,_,_,r=>r
 | .map (some _),_,h,_=>by simp[V.deep]at h
 | .fn f a c,_,h,⟨f',a',c',rf,ra,rc,q⟩=>by
   simp only[V.deep,aC]at h;refine⟨f',a',c',?_,oa kQ a a' h.2.1 ra,oa kQ c c' h.2.2 rc,q⟩;cases f<;>first|exact rf|(simp[vD]at h;done)
 | .kA,_,_,r=>r
 | .iface _ x,_,h,⟨x',r,q⟩=>⟨x',CF kQ x x' (by simpa only[V.deep]using h) r,q⟩
 | .nilIface,_,_,r=>r
 | .agg cs,_,h,⟨cs',r,q⟩=>⟨cs',oa kQ cs cs' (by simpa only[V.deep]using h) r,q⟩
 | .eo cs,_,h,⟨cs',r,q⟩=>⟨cs',oa kQ cs cs' (by simpa only[V.deep]using h) r,q⟩
 | .dL _ _ _,_,_,r=>⟨kF kQ _ _ r.1,r.2⟩
 | .dm cs,_,_,⟨b,o,c,vs,e,e1,r,q⟩=>⟨b,o,c,vs,e,kQ _ _ e1,iP kQ cs vs r,q⟩
theorem oa{E E':Env}(kQ:∀b c,E.φ b=some c->E'.φ b=some c):∀(v:ag) (v':List Value),V.qz v=true->dG E v v'->dG E' v v'
 | [],_,_,r=>r
 |x::xs,_,h,⟨y,ys,r,rs,q⟩=>by
  simp only[V.qz,aC]at h;exact⟨y,ys,CF kQ x y h.1 r,oa kQ xs ys h.2 rs,q⟩
end
section
variable(F:Nat->Option (ai))
mutual
def AQ:V->Option (ah×V)
 | .di (some (m,o)) cN cO jo=>match F m with
   |some cs=>match o with
    |0=>some ([cs.length=cN*jo],.dL false cN cs)
    |o+1=>some ([],.dL false cN ((cs.drop (o+1)).take (cN*jo)))
   |none=>some ([],.di (some (m,o)) cN cO jo)
 | .ptr (some (m,o))=>match F m with
   |some _=>none
   |none=>some ([],.ptr (some (m,o)))
 | .map (some m)=>match F m with
   |some _=>none
   |none=>some ([],.map (some m))
 | .fn f a c=>match f with
   | .yield m=>match F m with
     |some _=>none
     |none=>match yR a with
      |some (A,a)=>match yR c with
       |some (B,c)=>some (A++B,.fn (.yield m) a c)
       |none=>none
      |none=>none
   |f=>match yR a with
    |some (A,a)=>match yR c with
     |some (B,c)=>some (A++B,.fn f a c)
     |none=>none
    |none=>none
 | .iface t x=>match AQ x with
   |some (A,x)=>some (A,.iface t x)
   |none=>none
 | .agg cs=>match yR cs with
   |some (A,cs)=>some (A,.agg cs)
   |none=>none
 | .eo cs=>match yR cs with
   |some (A,cs)=>some (A,.eo cs)
   |none=>none
 | .bool b=>some ([],.bool b)
 | .int k n=>some ([],.int k n)
 | .str s=>some ([],.str s)
 | .ptr none=>some ([],.ptr none)
 | .di none l c e=>some ([],.di none l c e)
 | .map none=>some ([],.map none)
 | .kA=>some ([],.kA)
 | .nilIface=>some ([],.nilIface)
 | .dL f n cs=>some ([],.dL f n cs)
 | .dm cs=>some ([],.dm cs)
def yR:ag->Option (ah×ag)
 | []=>some ([],[])
 |x::xs=>match AQ x with
  |some (A,x)=>match yR xs with
   |some (B,xs)=>some (A++B,x::xs)
   |none=>none
  |none=>none
end
end
def YL(F:Nat->Option (ai))(E:Env)(φ:Nat->Option (Array Value)):Prop:=
 ∀m cs,F m=some cs->∀b s,E.ι m=some (b,s)->∃c vs,φ b=some c/\ig φ cs vs/\∀(j:Nat) (x:Value),vs[j]? =some x->c[s+j]? =some x
section
variable{F:Nat->Option (ai)}{E E':Env}(hF:YL F E E'.φ)(iV:∀m,E'.ι m=E.ι m)(oM:E'.β=E.β)(kQ:∀b c,E.φ b=some c->E'.φ b=some c)
include hF iV oM kQ
mutual
theorem tA:∀(v v2:V) (A:ah) (v':Value),AQ F v=some (A,v2)->(∀a∈A,a)->dz E v v'->dz E' v2 v'
 | .bool _,v2,A,_,h,_,r=>by simp only[AQ,an,aB]at h;obtain⟨rfl,rfl⟩:=h;exact r
 | .int _ _,v2,A,_,h,_,r=>by simp only[AQ,an,aB]at h;obtain⟨rfl,rfl⟩:=h;exact r
 | .str _,v2,A,_,h,_,r=>by simp only[AQ,an,aB]at h;obtain⟨rfl,rfl⟩:=h;exact r
 | .ptr none,v2,A,_,h,_,r=>by simp only[AQ,an,aB]at h;obtain⟨rfl,rfl⟩:=h;exact r
 | .di none _ _ _,v2,A,_,h,_,r=>by simp only[AQ,an,aB]at h;obtain⟨rfl,rfl⟩:=h;exact r
 | .map none,v2,A,_,h,_,r=>by simp only[AQ,an,aB]at h;obtain⟨rfl,rfl⟩:=h;exact r
 | .kA,v2,A,_,h,_,r=>by simp only[AQ,an,aB]at h;obtain⟨rfl,rfl⟩:=h;exact r
 | .nilIface,v2,A,_,h,_,r=>by simp only[AQ,an,aB]at h;obtain⟨rfl,rfl⟩:=h;exact r
 | .dL f n cs,v2,A,_,h,_,r=>by
   simp only[AQ,an,aB]at h;obtain⟨rfl,rfl⟩:=h;exact⟨kF kQ _ _ r.1,r.2⟩
 | .dm cs,v2,A,_,h,_,⟨b,o,c,vs,e,e1,r,q⟩=>by
   simp only[AQ,an,aB]at h;obtain⟨rfl,rfl⟩:=h;exact⟨b,o,c,vs,e,kQ _ _ e1,iP kQ cs vs r,q⟩
 | .ptr (some (m,o)),v2,A,_,h,_,⟨b,s,e,q⟩=>by
   simp only[AQ]at h;split at h
   . cases h
   . obtain⟨rfl,rfl⟩:=eY h;exact⟨b,s,(iV m).trans e,q⟩
 | .map (some m),v2,A,_,h,_,⟨b,e,q⟩=>by
   simp only[AQ]at h;split at h
   . cases h
   . obtain⟨rfl,rfl⟩:=eY h;exact⟨b,(iV m).trans e,q⟩
 | .di (some (m,o)) cN cO jo,v2,A,_,h,hA,⟨b,s,o',fZ,e,q1,q2,q3,q4,q5⟩=>by
   simp only[AQ]at h;split at h
   . rename_i cs oQ;obtain⟨c,vs,k1,k2,k3⟩:=hF m cs oQ b s e;have key:∀(ds:ai) (us:List Value),ig E'.φ ds us->(cN=0->ds=[])->(0<cN->∀(j:Nat) (x:Value),us[j]? =some x->c[s+o+j]? =some x)->dz E' (.dL false cN ds) (.slice (some ⟨b,o',none⟩) cN fZ):=by
      intro ds us h1 h2 h3;refine⟨⟨_,fZ,us,rfl,be,h1,h2,fun hp=>⟨b,o',c,rfl,k1,?_⟩⟩,fun q=>by cases q⟩;rw[q1 be];exact h3 hp
     split at h
     . obtain⟨rfl,rfl⟩:=eY h;rw[q5];have hl:cs.length=cN*jo:=hA _ (aq.2 rfl);refine key cs vs k2 (fun z=>?_) (fun _ j x hx=>by rw[Nat.add_zero];exact k3 j x hx);rw[z,Nat.zero_mul]at hl;exact cG.1 hl
     . rename_i o;obtain⟨rfl,rfl⟩:=eY h;rw[q5];refine key _ _ (sM (nM k2)) (fun z=>by rw[z];simp) (fun _ j x hx=>?_);rw[bM]at hx;split at hx
       . rw[bG]at hx;rw[<- k3 _ x hx,cA]
       . cases hx
   . obtain⟨rfl,rfl⟩:=eY h;exact⟨b,s,o',fZ,(iV m).trans e,q1,q2,q3,by rw[oM];exact q4,q5⟩
 | .fn f a c,v2,A,_,h,hA,⟨f',a',c',rf,ra,rc,q⟩=>by
   simp only[AQ]at h;split at h
   . rename_i m;split at h
     . cases h
     . split at h
       case h_2=>cases h
       rename_i A1 a2 ha;split at h
       case h_2=>cases h
       rename_i B1 c2 hc;obtain⟨rfl,rfl⟩:=eY h;obtain⟨l,s,e,q2⟩:=rf;exact⟨f',a',c',⟨l,s,(iV m).trans e,q2⟩,l6 a a2 A1 a' ha (fun x hx=>hA x (aU.2 (.inl hx))) ra,l6 c c2 B1 c' hc (fun x hx=>hA x (aU.2 (.inr hx))) rc,q⟩
   . rename_i fL;split at h
     case h_2=>cases h
     rename_i A1 a2 ha;split at h
     case h_2=>cases h
     rename_i B1 c2 hc;obtain⟨rfl,rfl⟩:=eY h;refine⟨f',a',c',?_,l6 a a2 A1 a' ha (fun x hx=>hA x (aU.2 (.inl hx))) ra,l6 c c2 B1 c' hc (fun x hx=>hA x (aU.2 (.inr hx))) rc,q⟩;cases f<;>first|exact rf|exact(fL _ rfl).elim
 | .iface t x,v2,A,_,h,hA,⟨x',r,q⟩=>by
   simp only[AQ]at h;split at h
   . rename_i A1 x2 hx;obtain⟨rfl,rfl⟩:=eY h;exact⟨x',tA x x2 _ x' hx hA r,q⟩
   . cases h
 | .agg cs,v2,A,_,h,hA,⟨cs',r,q⟩=>by
   simp only[AQ]at h;split at h
   . rename_i A1 x2 hx;obtain⟨rfl,rfl⟩:=eY h;exact⟨cs',l6 cs x2 _ cs' hx hA r,q⟩
   . cases h
 | .eo cs,v2,A,_,h,hA,⟨cs',r,q⟩=>by
   simp only[AQ]at h;split at h
   . rename_i A1 x2 hx;obtain⟨rfl,rfl⟩:=eY h;exact⟨cs',l6 cs x2 _ cs' hx hA r,q⟩
   . cases h
theorem l6:∀(v v2:ag) (A:ah) (v':List Value),yR F v=some (A,v2)->(∀a∈A,a)->dG E v v'->dG E' v2 v'
 | [],v2,A,_,h,_,r=>by simp only[yR,an,aB]at h;obtain⟨rfl,rfl⟩:=h;exact r
 |x::xs,v2,A,_,h,hA,⟨y,ys,r,rs,q⟩=>by
  simp only[yR]at h;split at h
  case h_2=>cases h
  rename_i A1 x2 hx;split at h
  case h_2=>cases h
  rename_i B1 Nw B3;obtain⟨rfl,rfl⟩:=eY h;exact⟨y,ys,tA x x2 A1 y hx (fun a ha=>hA a (aU.2 (.inl ha))) r,l6 xs Nw B1 ys B3 (fun a ha=>hA a (aU.2 (.inr ha))) rs,q⟩
end
end
def rY:O->Option (ai)
 | .deep cs=>some cs
 | .own k ks=>some (ks.map (.int k))
 | .cells cs=>gX cs
 |_=>none
section
variable(F:Nat->Option (ai))
def CG:Tr V->Option (ah×Tr V)
 | .nil=>some ([],.nil)
 | .node v l r=>match(match v with
    |none=>some ([],none)
    |some v=>match AQ F v with
     |some (A,v)=>some (A,some v)
     |none=>none:Option (ah×Option V))with
   |some (A,v)=>match CG l with
    |some (B,l)=>match CG r with
     |some (C,r)=>some (A++(B++C),.node v l r)
     |none=>none
    |none=>none
   |none=>none
def Qc:List (V×V×Nat)->Option (ah×List (V×V×Nat))
 | []=>some ([],[])
 |x::xs=>match AQ F x.1 with
  |some (A,k)=>match AQ F x.2.1 with
   |some (B,v)=>match Qc xs with
    |some (C,xs)=>some (A++(B++C),(k,v,x.2.2)::xs)
    |none=>none
   |none=>none
  |none=>none
def Ig:O->Option (ah×O)
 | .cells cs=>match yR F cs with
   |some (A,cs)=>some (A,.cells cs)
   |none=>none
 | .map es c=>match Qc F es with
   |some (A,es)=>some (A,.map es c)
   |none=>none
 | .nA s p=>some ([],.nA s p)
 | .ints k ks=>some ([],.ints k ks)
 | .own k ks=>some ([],.own k ks)
 | .deep cs=>some ([],.deep cs)
 | .iS e f s=>some ([],.iS e f s)
 | .A3 t s x=>match AQ F x with
   |some (A,x)=>some (A,.A3 t s x)
   |none=>none
 | .dD k es=>some ([],.dD k es)
 | .me=>some ([],.me)
 | .loop st pe fr ps a b=>match CG F fr with
   |some (A,fr)=>some (A,.loop st pe fr ps a b)
   |none=>none
def EG:Tr O->Option (ah×Tr O)
 | .nil=>some ([],.nil)
 | .node v l r=>match(match v with
    |none=>some ([],none)
    |some v=>match Ig F v with
     |some (A,v)=>some (A,some v)
     |none=>none:Option (ah×Option O))with
   |some (A,v)=>match EG l with
    |some (B,l)=>match EG r with
     |some (C,r)=>some (A++(B++C),.node v l r)
     |none=>none
    |none=>none
   |none=>none
def Qd:List (FuncId×ag×ag)->Option (ah×List (FuncId×ag×ag))
 | []=>some ([],[])
 |x::xs=>match yR F x.2.1 with
  |some (A,c)=>match yR F x.2.2 with
   |some (B,a)=>match Qd xs with
    |some (C,xs)=>some (A++(B++C),(x.1,c,a)::xs)
    |none=>none
   |none=>none
  |none=>none
end
def YM(h:Tr O)(ms:List Nat)(m:Nat):Option (ai):=match ms.any (Nat.beq m)with
 |true=>match h.get m with
  |some o=>rY o
  |none=>none
 |false=>none
def LV(h:Tr O):List Nat->Bool
 | []=>true
 |m::ms=>Nat.blt m fI&&((match h.get m with|some o=>(match rY o with|some _=>true|none=>false)|none=>false)&&LV h ms)
def yS:List Nat->Tr O->Tr O
 | [],h=>h
 |m::ms,h=>yS ms (h.set m none)
def WZ(ms:List Nat)(s:St):Option (ah×St):=match LV s.h ms with
 |true=>match CG (YM s.h ms) s.fr with
  |some (A,fr)=>match EG (YM s.h ms) s.h with
   |some (B,h)=>match Qd (YM s.h ms) s.gu with
    |some (C,d)=>some (A++(B++C),{ fr:=fr,h:=yS ms h,n:=s.n,gu:=d })
    |none=>none
   |none=>none
  |none=>none
 |false=>none
theorem vV{F:Nat->Option (ai)}:∀(t t2:Tr V) (A:ah),CG F t=some (A,t2)->∀k v2,t2.get k=some v2->∃v B,t.get k=some v/\AQ F v=some (B,v2)/\∀b∈B,b∈A
 | .nil,t2,A,h,k,v2,hk=>by simp only[CG,an,aB]at h;obtain⟨_,rfl⟩:=h;simp[Tr.get]at hk
 | .node v l r,t2,A,h,k,v2,hk=>by
   simp only[CG]at h;split at h
   case h_2=>cases h
   rename_i A1 v1 h1;split at h
   case h_2=>cases h
   rename_i B1 l1 hl;split at h
   case h_2=>cases h
   rename_i C1 r1 hr;obtain⟨rfl,rfl⟩:=eY h;simp only[Tr.get]at hk ⊢;split at hk
   . subst hk;cases v with
     |none=>simp at h1
     |some v=>
      simp only at h1;split at h1
      . rename_i A0 v0 h0;simp only[aB,an]at h1;obtain⟨rfl,rfl⟩:=h1;exact⟨v,A0,rfl,h0,fun b hb=>aU.2 (.inl hb)⟩
      . cases h1
   . rename_i k;split at hk
     . rename_i aiM;obtain⟨v,B,q1,q2,q3⟩:=vV l l1 B1 hl _ v2 hk;exact⟨v,B,q1,q2,fun b hb=>aU.2 (.inr (aU.2 (.inl (q3 b hb))))⟩
     . rename_i aiM;obtain⟨v,B,q1,q2,q3⟩:=vV r r1 C1 hr _ v2 hk;exact⟨v,B,q1,q2,fun b hb=>aU.2 (.inr (aU.2 (.inr (q3 b hb))))⟩
theorem zZ{F:Nat->Option (ai)}:∀(t t2:Tr O) (A:ah),EG F t=some (A,t2)->∀k v2,t2.get k=some v2->∃v B,t.get k=some v/\Ig F v=some (B,v2)/\∀b∈B,b∈A
 | .nil,t2,A,h,k,v2,hk=>by simp only[EG,an,aB]at h;obtain⟨_,rfl⟩:=h;simp[Tr.get]at hk
 | .node v l r,t2,A,h,k,v2,hk=>by
   simp only[EG]at h;split at h
   case h_2=>cases h
   rename_i A1 v1 h1;split at h
   case h_2=>cases h
   rename_i B1 l1 hl;split at h
   case h_2=>cases h
   rename_i C1 r1 hr;obtain⟨rfl,rfl⟩:=eY h;simp only[Tr.get]at hk ⊢;split at hk
   . subst hk;cases v with
     |none=>simp at h1
     |some v=>
      simp only at h1;split at h1
      . rename_i A0 v0 h0;simp only[aB,an]at h1;obtain⟨rfl,rfl⟩:=h1;exact⟨v,A0,rfl,h0,fun b hb=>aU.2 (.inl hb)⟩
      . cases h1
   . rename_i k;split at hk
     . obtain⟨v,B,q1,q2,q3⟩:=zZ l l1 B1 hl _ v2 hk;exact⟨v,B,q1,q2,fun b hb=>aU.2 (.inr (aU.2 (.inl (q3 b hb))))⟩
     . obtain⟨v,B,q1,q2,q3⟩:=zZ r r1 C1 hr _ v2 hk;exact⟨v,B,q1,q2,fun b hb=>aU.2 (.inr (aU.2 (.inr (q3 b hb))))⟩
section
variable{F:Nat->Option (ai)}{E E':Env}(hF:YL F E E'.φ)(iV:∀m,E'.ι m=E.ι m)(oM:E'.β=E.β)(kQ:∀b c,E.φ b=some c->E'.φ b=some c)
include hF iV oM kQ
theorem Ih:∀(es tP:List (V×V×Nat)) (A:ah) (l:List MapEntry),Qc F es=some (A,tP)->(∀a∈A,a)->kC E es l->kC E' tP l
 | [],tP,A,_,h,_,r=>by simp only[Qc,an,aB]at h;obtain⟨rfl,rfl⟩:=h;exact r
 |x::xs,tP,A,_,h,hA,⟨y,ys,r1,r2,r3,rs,q⟩=>by
  simp only[Qc]at h;split at h
  case h_2=>cases h
  rename_i A1 k hk;split at h
  case h_2=>cases h
  rename_i B1 v hv;split at h
  case h_2=>cases h
  rename_i C1 Nw B3;obtain⟨rfl,rfl⟩:=eY h;exact⟨y,ys,tA hF iV oM kQ _ _ _ _ hk (fun a ha=>hA a (by simp[ha])) r1,tA hF iV oM kQ _ _ _ _ hv (fun a ha=>hA a (by simp[ha])) r2,r3,Ih xs Nw C1 ys B3 (fun a ha=>hA a (by simp[ha])) rs,q⟩
theorem TX{w:World}{b s:Nat}:∀(o o2:O) (A:ah),Ig F o=some (A,o2)->(∀a∈A,a)->lO E w b s o->lO E' w b s o2
 | .cells cs,o2,A,h,hA,⟨c,el,fz,h1,h2,h3,h4⟩=>by
   simp only[Ig]at h;split at h
   case h_2=>cases h
   rename_i A1 uW oQ;obtain⟨rfl,rfl⟩:=eY h;obtain⟨vs,k1,k2⟩:=rJ.1 h4;exact⟨c,el,fz,h1,by rw[oM];exact h2,h3,rJ.2 ⟨vs,l6 hF iV oM kQ _ _ _ _ oQ hA k1,k2⟩⟩
 | .map es cl,o2,A,h,hA,⟨hs,fQ,h1,h2⟩=>by
   simp only[Ig]at h;split at h
   case h_2=>cases h
   rename_i A1 tP S3;obtain⟨rfl,rfl⟩:=eY h;exact⟨hs,fQ,h1,Ih hF iV oM kQ _ _ _ _ S3 hA h2⟩
 | .nA st p,o2,A,h,_,r=>by simp only[Ig,an,aB]at h;obtain⟨rfl,rfl⟩:=h;exact r
 | .ints k ks,o2,A,h,_,⟨c,el,fz,h1,h2,h3⟩=>by simp only[Ig,an,aB]at h;obtain⟨rfl,rfl⟩:=h;exact⟨c,el,fz,h1,by rw[oM];exact h2,h3⟩
 | .own k ks,o2,A,h,_,⟨c,el,fz,h1,h2,h3,h4⟩=>by simp only[Ig,an,aB]at h;obtain⟨rfl,rfl⟩:=h;exact⟨c,el,fz,h1,by rw[oM];exact h2,h3,wE h4⟩
 | .deep cs,o2,A,h,_,⟨c,el,fz,vs,h1,h2,h3,h4,h5⟩=>by simp only[Ig,an,aB]at h;obtain⟨rfl,rfl⟩:=h;exact⟨c,el,fz,vs,h1,by rw[oM];exact h2,h3,iP kQ _ _ h4,h5⟩
 | .iS el As t,o2,A,h,_,⟨c,fz,xs,h1,h0,h2,h3⟩=>by simp only[Ig,an,aB]at h;obtain⟨rfl,rfl⟩:=h;exact⟨c,fz,xs,h1,h0,by rw[oM];exact h2,h3⟩
 | .A3 t self x,o2,A,h,hA,⟨hs,x',fz,h1,h2,h3,h4⟩=>by
   simp only[Ig]at h;split at h
   case h_2=>cases h
   rename_i A1 x2 hx;obtain⟨rfl,rfl⟩:=eY h;exact⟨hs,x',fz,h1,by rw[oM];exact h2,h3,tA hF iV oM kQ _ _ _ _ hx hA h4⟩
 | .dD kk es,o2,A,h,_,⟨hs,fQ,cl,h1,h2⟩=>by simp only[Ig,an,aB]at h;obtain⟨rfl,rfl⟩:=h;exact⟨hs,fQ,cl,h1,h2.mono kQ⟩
 | .me,o2,A,h,_,r=>by simp only[Ig,an,aB]at h;obtain⟨rfl,rfl⟩:=h;exact r
 | .loop st pe fr ps a b',o2,A,h,hA,⟨r,h1,h2,h3,h4,h5,h6,h7,h8⟩=>by
   simp only[Ig]at h;split at h
   case h_2=>cases h
   rename_i A1 xn xV;obtain⟨rfl,rfl⟩:=eY h;refine⟨r,h1,h2,h3,h4,h5,h6,fun t v e=>?_,h8⟩;obtain⟨v0,B,q1,q2,q3⟩:=vV _ _ _ xV t v e;obtain⟨v',k1,k2⟩:=h7 t v0 q1;exact⟨v',k1,tA hF iV oM kQ _ _ _ _ q2 (fun x hx=>hA x (q3 x hx)) k2⟩
theorem Ii:∀(xs Nw:List (FuncId×ag×ag)) (A:ah) (ys:List Deferred),Qd F xs=some (A,Nw)->(∀a∈A,a)->wI E xs ys->wI E' Nw ys
 | [],Nw,A,_,h,_,r=>by simp only[Qd,an,aB]at h;obtain⟨rfl,rfl⟩:=h;exact r
 |x::xs,Nw,A,_,h,hA,⟨d,ys,r1,rs,q⟩=>by
  simp only[Qd]at h;split at h
  case h_2=>cases h
  rename_i A1 c hc;split at h
  case h_2=>cases h
  rename_i B1 a ha;split at h
  case h_2=>cases h
  rename_i C1 xs3 B3;obtain⟨rfl,rfl⟩:=eY h;refine⟨d,ys,?_,Ii xs xs3 C1 ys B3 (fun a ha=>hA a (by simp[ha])) rs,q⟩;rcases r1 with⟨hx,c',a',q1,q2,q3⟩|⟨hx,m,b,s,q1,q2,q3⟩
  . exact .inl ⟨hx,c',a',l6 hF iV oM kQ _ _ _ _ hc (fun a ha=>hA a (by simp[ha])) q1,l6 hF iV oM kQ _ _ _ _ ha (fun a ha=>hA a (by simp[ha])) q2,q3⟩
  . refine .inr ⟨hx,m,b,s,?_,(iV m).trans q2,q3⟩;have q1:x.2.2=[V.map (some m)]:=q1;rw[q1]at ha;simp only[yR,AQ]at ha;cases hm:F m with
    |some _=>rw[hm]at ha;cases ha
    |none=>rw[hm]at ha;simp only[an,aB]at ha;exact ha.2.symm
end
theorem YN{F:Nat->Option (ai)}{o o2:O}{A:ah}(h:Ig F o=some (A,o2)):o2.wr=o.wr:=by
 cases o<;>simp only[Ig]at h<;>(try split at h)<;>first|(simp only[an,aB]at h;obtain⟨_,rfl⟩:=h;rfl)|cases h
theorem EH:∀(ms:List Nat) (h:Tr O) (k:Nat),(∀m∈ms,m<fI)->(yS ms h).get k=if k∈ms then none else h.get k
 | [],h,k,_=>by simp[yS]
 |m::ms,h,k,ht=>by
  rw[yS,EH ms _ k fun m hm=>ht m (by simp[hm]),Tr.eO _ _ _ (ht m (by simp))];by_cases h1:k∈ms
  . simp[h1]
  . by_cases h2:k=m
    . simp[h2]
    . simp[h1,h2]
theorem CH{h:Tr O}:∀{ms:List Nat},LV h ms=true->∀m∈ms,m<fI/\∃o cs,h.get m=some o/\rY o=some cs
 | [],_,m,hm=>by simp at hm
 |x::ms,h,m,hm=>by
  simp only[LV,aC]at h;rcases aE.1 hm with rfl|hm
  . refine⟨au h.1,?_⟩;have:=h.2.1;split at this
    . rename_i o ho;split at this
      . rename_i cs hc;exact⟨o,cs,ho,hc⟩
      . cases this
    . cases this
  . exact CH h.2.2 m hm
theorem Qe{h:Tr O}{ms:List Nat}{m:Nat}{cs:ai}(e:YM h ms m=some cs):m∈ms/\∃o,h.get m=some o/\rY o=some cs:=by
 unfold YM at e;split at e
 . rename_i ha;split at e
   . rename_i o ho;obtain⟨x,hx,q⟩:=List.any_eq_true.1 ha;have:=aD q;subst this;exact⟨hx,o,ho,e⟩
   . cases e
 . cases e
theorem Gh{o:O}{cs:ai}(h:rY o=some cs):o.wr=true:=by cases o<;>simp[rY]at h<;>rfl
theorem Qf{E:Env}{w:World}{b s:Nat}{o:O}{cs:ai}(h:rY o=some cs)(r:lO E w b s o):∃c el fz vs,w.heap[b]? =some (.cells c el fz)/\ig E.φ cs vs/\∀(j:Nat) (x:Value),vs[j]? =some x->c[s+j]? =some x:=by
 cases o<;>simp only[rY,an,reduceCtorEq]at h
 . obtain⟨c,el,fz,h1,_,_,h4⟩:=r;obtain⟨vs,k1,k2⟩:=rJ.1 h4;exact⟨c,el,fz,vs,h1,sN h k1,k2⟩
 . rename_i k ks;subst h;obtain⟨c,el,fz,h1,_,_,h4⟩:=r;have e:D.lN (ks.map (.int k))=ks.map (.int k):=by rw[D.gr,List.map_map];rfl
   obtain⟨vs,k1,k2⟩:=(nN (fun x hx=>by obtain⟨_,_,rfl⟩:=bA.1 hx;rfl)).1 (by rw[e];exact h4:lY E s (D.lN (ks.map (.int k))) c);exact⟨c,el,fz,vs,h1,k1,k2⟩
 . subst h;obtain⟨c,el,fz,vs,h1,_,_,h4,h5⟩:=r;exact⟨c,el,fz,vs,h1,h4,h5⟩
open Classical in
noncomputable def Gi(E:Env)(F:Nat->Option (ai))(w:World)(b:Nat):Option (Array Value):=if ∃m s,(F m).isSome=true/\E.ι m=some (b,s)then(match w.heap[b]? with|some (.cells c _ _)=>some c|_=>none)else E.φ b
theorem vW{n0 N:Nat}{ms:List Nat}{s s2:St}{A:ah}{E:Env}{a:Act}{w:World}(e:WZ ms s=some (A,s2))(hA:∀x∈A,x)(r:jS E N s a w)(hn:n0<=s.n):
  ∃E2,jS E2 N s2 a w/\lp n0 E s.h w E2 s2.h w/\n0<=s2.n/\(∀m,E2.ι m=E.ι m):=by
 unfold WZ at e;split at e
 case h_2=>cases e
 rename_i TY;split at e
 case h_2=>cases e
 rename_i A1 xn xV;split at e
 case h_2=>cases e
 rename_i B1 h2 hh;split at e
 case h_2=>cases e
 rename_i C1 d2 FY;simp only[an,aB]at e;obtain⟨rfl,rfl⟩:=e;have TY:=CH TY;generalize hFd:YM s.h ms=F at *;have g:=r.good;have hFm:∀m cs,F m=some cs->m∈ms/\∃o,s.h.get m=some o/\rY o=some cs:=fun m cs q=>Qe (h:=s.h) (ms:=ms) (by rw[hFd];exact q);have hmF:∀m,m∈ms->(F m).isSome=true:=by
  intro m hm;obtain⟨_,o,cs,h1,h3⟩:=TY m hm;rw[<- hFd];unfold YM;rw[show ms.any (Nat.beq m)=true from List.any_eq_true.2 ⟨m,hm,cL m⟩,h1];simp only[h3];rfl
 have uF:∀b c,E.φ b=some c->Gi E F w b=some c:=by
  intro b c q;unfold Gi;rw[aI];. exact q
  rintro⟨m,s',h1,h3⟩;obtain⟨cs,oQ⟩:=b9.1 h1;obtain⟨_,o,k1,k2⟩:=hFm m cs oQ;exact(g.gI b c q).2 m s' ⟨o,k1,Gh k2⟩ h3
 let E2:Env:=⟨E.ι,E.β,Gi E F w⟩
 have hFz:YL F E E2.φ:=by
  intro m cs oQ b s' hb;obtain⟨_,o,k1,k2⟩:=hFm m cs oQ;obtain⟨b',t,q1,q2⟩:=g.rel m o k1;rw[hb]at q1;cases q1;obtain⟨c,el,fz,vs,p1,p2,p3⟩:=Qf k2 q2;refine⟨c,vs,?_,iP uF _ _ p2,p3⟩;show Gi E F w b=some c;unfold Gi;rw[aG ⟨m,s',by rw[oQ];rfl,hb⟩,p1]
 have hA1:∀x∈A1,x:=fun x hx=>hA x (by simp[hx]);have hB1:∀x∈B1,x:=fun x hx=>hA x (by simp[hx]);have hC1:∀x∈C1,x:=fun x hx=>hA x (by simp[hx]);have kD:∀k o2,(yS ms h2).get k=some o2->k∉ms/\∃o B,s.h.get k=some o/\Ig F o=some (B,o2)/\∀b∈B,b:=by
  intro k o2 q;rw[EH ms h2 k fun m hm=>(TY m hm).1]at q;split at q
  . cases q
  . rename_i hk;obtain⟨o,B,q1,q2,q3⟩:=zZ _ _ _ hh k o2 q;exact⟨hk,o,B,q1,q2,fun b hb=>hB1 b (q3 b hb)⟩
 have tT:∀k,ew (yS ms h2) k->k∉ms/\ew s.h k:=by
  rintro k ⟨o2,q1,q2⟩;obtain⟨hk,o,B,p1,p2,_⟩:=kD k o2 q1;exact⟨hk,o,p1,(YN p2).symm.trans q2⟩
 have FG:∀k,(yS ms h2).get k≠none->s.h.get k≠none:=by
  intro k q;obtain⟨o2,q⟩:=bf.1 q;obtain⟨_,o,_,p1,_⟩:=kD k o2 q;rw[p1];simp
 have qp:Good E2 (yS ms h2) w:=by
  refine⟨fun m o2 hm=>?_,fun m m' b t t' fL hm sP e1 e2=>g.inj m m' b t t' fL (tT m hm).2 (FG m' sP) e1 e2,g.mO,g.jf,fun b c q=>?_⟩
  . obtain⟨_,o,B,p1,p2,p3⟩:=kD m o2 hm;obtain⟨b,t,q1,q2⟩:=g.rel m o p1;exact⟨b,t,q1,TX (E':=E2) hFz (fun _=>rfl) rfl uF o o2 B p2 p3 q2⟩
  . have q:Gi E F w b=some c:=q;unfold Gi at q;split at q
    . rename_i hex;obtain⟨m,t,h1,h3⟩:=hex;obtain⟨cs,oQ⟩:=b9.1 h1;obtain⟨hms,o,k1,k2⟩:=hFm m cs oQ;refine⟨?_,fun m' t' sP e1=>?_⟩
      . split at q
        . rename_i c' el fz hc;cases q;exact⟨el,fz,hc⟩
        . cases q
      . obtain⟨hnm,hw'⟩:=tT m' sP;exact g.inj m m' b t t' (fun z=>hnm (z▸hms)) ⟨o,k1,Gh k2⟩ hw'.live h3 e1
    . exact⟨(g.gI b c q).1,fun m' t' sP=>(g.gI b c q).2 m' t' (tT m' sP).2⟩
 refine⟨E2,⟨qp,r.nW,fun t v2 hv=>?_,r.size,Ii (E':=E2) hFz (fun _=>rfl) rfl uF _ _ _ _ FY hC1 r.gu⟩,⟨fun m b t _ q=>⟨q,rfl⟩,fun _ _=>rfl,uF,qp,aA _,rfl,rfl,rfl,fun _ _ _=>rfl,fun m b t hm q _=>⟨m,t,FG m hm,q,fun z=>(tT m z).2⟩,fun b c q=>?_⟩,hn,fun _=>rfl⟩
 . obtain⟨v,B,q1,q2,q3⟩:=vV _ _ _ xV t v2 hv;obtain⟨v',k1,k2⟩:=r.fr t v q1;exact⟨v',k1,tA (E':=E2) hFz (fun _=>rfl) rfl uF _ _ _ _ q2 (fun x hx=>hA1 x (q3 x hx)) k2⟩
 . have q:Gi E F w b=some c:=q;unfold Gi at q;split at q
   . rename_i hex;obtain⟨m,t,h1,h3⟩:=hex;obtain⟨cs,oQ⟩:=b9.1 h1;obtain⟨_,o,k1,k2⟩:=hFm m cs oQ;exact .inr (.inr ⟨m,t,⟨o,k1,Gh k2⟩,h3⟩)
   . exact .inl q
theorem xz{P:Program}{n0 N:Nat}{c:Code}{s s2:St}{A:ah}{Q:Exit->St->Prop}(ms:List Nat)(e:WZ ms s=some (A,s2))(hA:∀x∈A,x)(h:TG P n0 N c s2 Q):TG P n0 N c s Q:=by
 intro E a w K r hn k;obtain⟨E2,r2,u2,w8,_⟩:=vW e hA r hn;exact h E2 a w K r2 w8 fun y s' E' a' w' q u o8 r'=>k y s' E' a' w' q (u2.trans u) o8 r'
def EI(h:Tr O):List Nat->Option (Tr O)
 | []=>some h
 |m::r=>match h.get m with
  |some (.cells cs)=>match gX cs with
   |some ds=>match Nat.blt m fI with
    |true=>EI (h.set m (some (.deep ds))) r
    |false=>none
   |none=>none
  |some (.own k ks)=>match Nat.blt m fI with
   |true=>EI (h.set m (some (.deep (ks.map (.int k))))) r
   |false=>none
  |_=>none
section
variable{E:Env}{w:World}{b s:Nat}
theorem r7{h:Tr O}{w:World}{m:Nat}{o o2:O}(ht:m<fI)(hm:h.get m=some o)(hw:o.wr=true)(ho:∀b s,E.ι m=some (b,s)->lO E w b s o->lO E w b s o2)(g:Good E h w):
  Good E (h.set m (some o2)) w/\∀j,((h.set m (some o2)).get j≠none↔h.get j≠none)/\(ew (h.set m (some o2)) j->ew h j):=by
 have kD:∀j,(h.set m (some o2)).get j=if j=m then some o2 else h.get j:=fun j=>Tr.eO _ _ _ ht
 have FG:∀j,((h.set m (some o2)).get j≠none↔h.get j≠none)/\(ew (h.set m (some o2)) j->ew h j):=by
  intro j;rw[kD];by_cases q:j=m
  . subst q;rw[aG rfl,hm];exact⟨by simp,fun _=>⟨_,hm,hw⟩⟩
  . rw[aI q];exact⟨Iff.rfl,fun z=>ox ht z q⟩
 refine⟨⟨fun j o' hj=>?_,fun j j' b s s' fL hj P9 e1 e2=>g.inj j j' b s s' fL ((FG j).2 hj) ((FG j').1.1 P9) e1 e2,g.mO,g.jf,fun b c q=>⟨g.fz b c q,fun m' s sP=>(g.gI b c q).2 m' s ((FG m').2 sP)⟩⟩,FG⟩;rw[kD]at hj;split at hj
 . rename_i q;subst q;obtain rfl:=ek hj;obtain⟨b,s,h1,h2⟩:=g.rel j _ hm;exact⟨b,s,h1,ho b s h1 h2⟩
 . exact g.rel j o' hj
theorem Ke{cs:ag}{ds:ai}(hd:gX cs=some ds)(r:lO E w b s (.cells cs)):lO E w b s (.deep ds):=by
 obtain⟨c,el,fz,h1,h2,h3,h4⟩:=r;obtain⟨vs,k1,k2⟩:=rJ.1 h4;exact⟨c,el,fz,vs,h1,h2,h3,sN hd k1,k2⟩
theorem Qg{k:IntKind}{ks:List Int}(r:lO E w b s (.own k ks)):lO E w b s (.deep (ks.map (.int k))):=by
 obtain⟨c,el,fz,h1,h2,h3,h4⟩:=r;have e:D.lN (ks.map (.int k))=ks.map (.int k):=by rw[D.gr,List.map_map];rfl
 obtain⟨vs,k1,k2⟩:=(nN (fun x hx=>by obtain⟨_,_,rfl⟩:=bA.1 hx;rfl)).1 (by rw[e];exact h4:lY E s (D.lN (ks.map (.int k))) c);exact⟨c,el,fz,vs,h1,h2,h3,k1,k2⟩
end
theorem qA{E:Env}{w:World}:∀(l:List Nat) (h h2:Tr O),EI h l=some h2->Good E h w->Good E h2 w/\∀m,(h2.get m≠none↔h.get m≠none)/\(ew h2 m->ew h m)
 | [],h,h2,e,g=>by simp only[EI,an]at e;subst e;exact⟨g,fun m=>⟨Iff.rfl,id⟩⟩
 |m::r,h,h2,e,g=>by
  unfold EI at e;split at e
  . rename_i cs hm;split at e
    case h_2=>cases e
    rename_i ds hd;split at e
    case h_2=>cases e
    rename_i ht;obtain⟨g1,k1⟩:=r7 (au ht) hm rfl (fun b s _ q=>Ke hd q) g;obtain⟨g2,k2⟩:=qA r _ h2 e g1;exact⟨g2,fun j=>⟨(k2 j).1.trans (k1 j).1,fun z=>(k1 j).2 ((k2 j).2 z)⟩⟩
  . rename_i k ks hm;split at e
    case h_2=>cases e
    rename_i ht;obtain⟨g1,k1⟩:=r7 (au ht) hm rfl (fun b s _ q=>Qg q) g;obtain⟨g2,k2⟩:=qA r _ h2 e g1;exact⟨g2,fun j=>⟨(k2 j).1.trans (k1 j).1,fun z=>(k1 j).2 ((k2 j).2 z)⟩⟩
  . cases e
def CI(l:List Nat)(s:St):Option St:=match EI s.h l with
 |some h=>some { s with h:=h }
 |none=>none
theorem Kf{P:Program}{n0 N:Nat}{c:Code}{s:St}{h2:Tr O}{Q:Exit->St->Prop}(hg:∀E w,Good E s.h w->Good E h2 w/\∀m,(h2.get m≠none↔s.h.get m≠none)/\(ew h2 m->ew s.h m))(h:TG P n0 N c { s with h:=h2 } Q):TG P n0 N c s Q:=by
 intro E a w K r hn k;obtain⟨g2,k2⟩:=hg E w r.good;have u:lp n0 E s.h w E h2 w:=⟨fun _ _ _ _ e=>⟨e,rfl⟩,fun _ _=>rfl,fun _ _ q=>q,g2,aA _,rfl,rfl,rfl,fun _ _ _=>rfl,fun m b s1 hm e1 _=>⟨m,s1,(k2 m).1.1 hm,e1,(k2 m).2⟩,fun _ _ q=>.inl q⟩;exact h E a w K ⟨g2,r.nW,r.fr,r.size,r.gu⟩ hn fun y s' E' a' w' q u' o8 r'=>k y s' E' a' w' q (u.trans u') o8 r'
theorem tB{P:Program}{n0 N:Nat}{c:Code}{s s2:St}{Q:Exit->St->Prop}(l:List Nat)(e:CI l s=some s2)(h:TG P n0 N c s2 Q):TG P n0 N c s Q:=by
 unfold CI at e;split at e
 case h_2=>cases e
 rename_i h2 hh;obtain rfl:=ek e;exact Kf (fun E w g=>qA l s.h h2 hh g) h
theorem NJ{E:Env}{w:World}{b s:Nat}{c:Nat}(kd:Option IntKind)(r:lO E w b s (.map [] c)):lO E w b s (.dD kd []):=by
 obtain⟨hs,fQ,h1,h2⟩:=r;have:fQ.toList=[]:=h2;refine⟨hs,fQ,c,h1,⟨⟨[],.refl _,by rw[this];rfl⟩,by simp,by simp,by rw[this];simp,by rw[this];simp⟩⟩
def Qh(h:Tr O):List (Nat×Option IntKind)->Option (Tr O)
 | []=>some h
 |(m,kd)::r=>match h.get m with
  |some (.map [] _)=>match Nat.blt m fI with
   |true=>Qh (h.set m (some (.dD kd []))) r
   |false=>none
  |_=>none
theorem z6{E:Env}{w:World}:∀(l:List (Nat×Option IntKind)) (h h2:Tr O),Qh h l=some h2->Good E h w->Good E h2 w/\∀m,(h2.get m≠none↔h.get m≠none)/\(ew h2 m->ew h m)
 | [],h,h2,e,g=>by simp only[Qh,an]at e;subst e;exact⟨g,fun m=>⟨Iff.rfl,id⟩⟩
 |(m,kd)::r,h,h2,e,g=>by
  unfold Qh at e;split at e
  case h_2=>cases e
  rename_i c hm;split at e
  case h_2=>cases e
  rename_i ht;obtain⟨g1,k1⟩:=r7 (au ht) hm rfl (fun b s _ q=>NJ kd q) g;obtain⟨g2,k2⟩:=z6 r _ h2 e g1;exact⟨g2,fun j=>⟨(k2 j).1.trans (k1 j).1,fun z=>(k1 j).2 ((k2 j).2 z)⟩⟩
def Qi(l:List (Nat×Option IntKind))(s:St):Option St:=match Qh s.h l with
 |some h=>some { s with h:=h }
 |none=>none
theorem z7{P:Program}{n0 N:Nat}{c:Code}{s s2:St}{Q:Exit->St->Prop}(l:List (Nat×Option IntKind))(e:Qi l s=some s2)(h:TG P n0 N c s2 Q):TG P n0 N c s Q:=by
 unfold Qi at e;split at e
 case h_2=>cases e
 rename_i h2 hh;obtain rfl:=ek e;exact Kf (fun E w g=>z6 l s.h h2 hh g) h
theorem NK{E:Env}{w:World}{b s:Nat}{kd:Option IntKind}{es tP:ae}(p:List.Perm es tP)(r:lO E w b s (.dD kd es)):lO E w b s (.dD kd tP):=by
 obtain⟨hs,fQ,c,h1,h2⟩:=r;obtain⟨l,q1,q2⟩:=h2.row;exact⟨hs,fQ,c,h1,⟨⟨l,q1.trans p,q2⟩,((p.map _).nodup_iff).1 h2.keys,fun e he=>h2.kind e (p.mem_iff.2 he),h2.old,h2.born⟩⟩
def Qj:List (List Nat)->St->Option (ah×St)
 | [],s=>some ([],s)
 |ms::r,s=>match WZ ms s with
  |some (A,s)=>match Qj r s with
   |some (B,s)=>some (A++B,s)
   |none=>none
  |none=>none
theorem CJ{n0 N:Nat}{w:World}{a:Act}:∀(l:List (List Nat)) {s s2:St} {A:ah} {E:Env},Qj l s=some (A,s2)->(∀x∈A,x)->jS E N s a w->n0<=s.n->
  ∃E2,jS E2 N s2 a w/\lp n0 E s.h w E2 s2.h w/\n0<=s2.n/\(∀m,E2.ι m=E.ι m)
 | [],s,s2,A,E,e,_,r,hn=>by
   simp only[Qj,an,aB]at e;obtain⟨rfl,rfl⟩:=e;exact⟨E,r,.refl r.good,hn,fun _=>rfl⟩
 |ms::l,s,s2,A,E,e,hA,r,hn=>by
  simp only[Qj]at e;split at e
  case h_2=>cases e
  rename_i A1 s1 h1;split at e
  case h_2=>cases e
  rename_i B1 s3 h3;obtain⟨rfl,rfl⟩:=eY e;obtain⟨E1,r1,u1,n1,i1⟩:=vW h1 (fun x hx=>hA x (by simp[hx])) r hn;obtain⟨E2,r2,u2,n2,i2⟩:=CJ l h3 (fun x hx=>hA x (by simp[hx])) r1 n1;exact⟨E2,r2,u1.trans u2,n2,fun m=>(i2 m).trans (i1 m)⟩
def ny(v:V)(u:V)(h:Tr O)(n:Nat):Prop:=∃l A s2,Qj l { fr:=Tr.nil.set 0 (some u),h:=h,n:=n,gu:=[] }=some (A,s2)/\(∀a∈A,a)/\s2.fr.get 0=some v
theorem ny.self{v:V}{h:Tr O}{n:Nat}:ny v v h n:=⟨[],[],_,rfl,by simp,Tr.mS _ _ dN⟩
theorem CK{E E1:Env}{h h0 h':Tr O}{n n':Nat}{w w':World}{u v:V}{en:Ending}(g:Good E h w)(hd:qH E n)(kQ:E1.φ=E.φ)(AP:∀m,¬ew h0 m)(hv:v.deep=true)(hz:ny v u h' n')
  (c:jR E1 h0 gN w (.ret u) h' n' en w'):jR E h n w (.ret v) h n en w':=by
 obtain⟨E2,u2,_,rQ,hn,ho⟩:=c;cases en with
 |returned x=>
  have ho:dz E2 u x:=ho;obtain⟨l,A,s2,e1,hA,e2⟩:=hz;have sr:jS E2 1 { fr:=Tr.nil.set 0 (some u),h:=h',n:=n',gu:=[] } { tmps:=#[x],defers:=[] } w':=by
   refine⟨u2.good,rQ,fun t y hy=>?_,rfl,rfl⟩;rw[Tr.eO _ _ _ dN]at hy;split at hy
   . rename_i q;subst q;cases hy;exact⟨x,rfl,ho⟩
   . simp[Tr.get]at hy
  obtain⟨E3,r3,u3,_,_⟩:=CJ (n0:=0) l e1 hA sr (aW _);obtain⟨x',q1,q2⟩:=r3.fr 0 v e2;simp only[List.getElem?_toArray,bF,an]at q1;subst q1;have W0:∀b,b<w.heap.size->w'.heap[b]? =w.heap[b]?:=fun b hb=>u2.keep b hb fun m s hm=>absurd hm (AP m);have bl:Below w.heap.size w w':=⟨u2.os,u2.tape,u2.output,u2.size,W0⟩;have gb:=g.below bl;have PL:∀b c,E3.φ b=some c->E.φ b=some c\/w.heap.size<=b:=by
   intro b c q;have k3:∀m s,ew h' m->E2.ι m=some (b,s)->w.heap.size<=b:=by
    intro m s hm e;rcases bN b w.heap.size with z|z
    . obtain⟨m0,s0,_,_,k0⟩:=u2.sO m b s hm.live e z;exact absurd (k0 hm) (AP m0)
    . exact z
   rcases u3.DF b c q with q|q|⟨m,s,p1,p2⟩
   . rcases u2.DF b c q with q|q|⟨m,s,p1,p2⟩
     . exact .inl (kQ▸q)
     . exact .inr q
     . exact absurd p1 (AP m)
   . exact .inr (bU u2.size q)
   . exact .inr (k3 m s p1 p2)
  have Pr:∀b c,E.φ b=some c->E3.φ b=some c:=fun b c q=>u3.fz b c (u2.le.fz b c (kQ▸q))
  let E':Env:=⟨E.ι,E.β,E3.φ⟩
  have ku:E.le E':=⟨fun m b s q=>⟨q,rfl⟩,Pr⟩;have ac6:Good E' h w':=by
   refine⟨fun m o hm=>?_,gb.inj,gb.mO,gb.jf,fun b c q=>⟨r3.good.fz b c q,fun m s hm e=>?_⟩⟩
   . obtain⟨b,s,k1,k2⟩:=gb.rel m o hm;exact⟨b,s,k1,hU ku rfl rfl k2⟩
   . rcases PL b c q with z|z
     . exact(g.gI b c z).2 m s hm e
     . have:=g.mO m b s e;omega
  refine⟨E',⟨ku,ac6,u2.size,u2.tape,u2.os,u2.output,fun b hb _=>W0 b hb,fun m b s hm e _=>⟨m,s,hm,e,id⟩,fun b c q=>?_⟩,fun _ _=>rfl,hd,aA _,(CF (E:=E3) (E':=E') (fun _ _ q=>q) v x hv q2:dz E' v x)⟩;rcases PL b c q with z|z
  . exact .inl z
  . exact .inr (.inl z)
 |_=>exact ho.elim
def EJ(f:ag->Option (ah×V)):ag->Tr O->Nat->Option (ah×V×Tr O×Nat):=fun args h n=>match f args with
 |some (A,v)=>some (A,v,h,n)
 |none=>none
def Kg(P:Program)(f:FuncId)(args:ag)(v:V):Prop:=∀E h n w c7,dG E args c7->Good E h w->qH E n->Calls P f c7.toArray w (jR E h n w (.ret v) h n)
theorem Ij{P:Program}{f:FuncId}{spec:ag->Option (ah×V)}(fE:f<P.funcs.size)(h:∀args A v,spec args=some (A,v)->(∀a∈A,a)->Kg P f args v):jC P f (EJ spec):=by
 refine⟨fE,fun args h' n A v h2 n2 e hA E w c7 ra g hd hc=>?_⟩;unfold EJ at e;split at e
 . rename_i A' v' hs;simp only[an,aB]at e;obtain⟨rfl,rfl,rfl,rfl⟩:=e;exact h args _ _ hs hA E h' n w c7 ra g hd
 . cases e
theorem gO{P:Program}(hm:P.follows .mixedOrders=true)(xp:lj P=true){f:FuncId}{fn:Func}{code:Code}(hf:P.funcs[f]? =some fn)(hb:fn.body=some code){args:ag}
  (l:(Nat.ble args.length fn.ntmps&&Nat.blt fn.ntmps fI)=true) {v:V} (hdp:V.qz args=true) (hv:v.deep=true) (hT:TG P gN fn.ntmps code (cR args .nil gN) (fB P gN fn (ny v))):Kg P f args v:=by
 intro E h n w c7 ra g hd;have g0:Good (TO E.φ) .nil w:=PM g.wg g.fz;have ra0:dG (TO E.φ) args c7:=oa (E:=E) (E':=TO E.φ) (fun _ _ q=>q) _ _ hdp ra;exact(oF hm xp hf hb l _ hT ra0 g0 (WO (aA _))).mono fun e w' ⟨u,h',n',hz,k⟩=>CK (E1:=TO E.φ) g hd rfl P6 hv hz k
def EK:ag->Option (ai)
 | []=>some []
 |x::xs=>match V.OV x with
  |some d=>match EK xs with
   |some l=>some (d::l)
   |none=>none
  |none=>none
theorem z8{E:Env}:∀{xs:ag} {ds:ai},EK xs=some ds->∀{l:List Value},dG E xs l->dG E (ds.map D.iH) l
 | [],ds,h,l,r=>by simp only[EK,an]at h;subst h;exact r
 |x::xs,ds,h,l,r=>by
  simp only[EK]at h;split at h
  case h_2=>cases h
  rename_i d hd;split at h
  case h_2=>cases h
  rename_i l' hl;obtain rfl:=ek h;obtain⟨y,ys,r0,rs,rfl⟩:=r;exact⟨y,ys,lX _ _ (FD hd r0).1,z8 hl rs,rfl⟩
def dW(f:ai->Option (ah×V)):ag->Tr O->Nat->Option (ah×V×Tr O×Nat):=fun args h n=>match EK args with
 |some ds=>match f ds with
  |some (A,v)=>some (A,v,h,n)
  |none=>none
 |none=>none
theorem vc{P:Program}{f:FuncId}{spec:ai->Option (ah×V)}(fE:f<P.funcs.size)(h:∀args A v,spec args=some (A,v)->(∀a∈A,a)->Kg P f (args.map D.iH) v):jC P f (dW spec):=by
 refine⟨fE,fun args h' n A v h2 n2 e hA E w c7 ra g hd hc=>?_⟩;unfold dW at e;split at e
 . rename_i ds hds;split at e
   . rename_i A' v' hs;simp only[an,aB]at e;obtain⟨rfl,rfl,rfl,rfl⟩:=e;exact h ds _ _ hs hA E h' n w c7 (z8 hds ra) g hd
   . cases e
 . cases e
def Env.pick(E:Env)(ns:List (Option Nat)):Env:=⟨fun j=>match ns.getD j none with
 |some m=>E.ι m
 |none=>none,E.β,E.φ⟩
theorem mj{E:Env}{ns:List (Option Nat)}{j m:Nat}(h:ns.getD j none=some m):(E.pick ns).ι j=E.ι m:=by
 show(match ns.getD j none with|some m=>E.ι m|none=>none)=_;rw[h]
def Aa:List (Option Nat)->Nat->Nat->Option Nat
 | [],_,_=>none
 |none::r,j,m=>Aa r (j+1) m
 |some k::r,j,m=>match Nat.beq k m with
  |true=>some j
  |false=>Aa r (j+1) m
theorem Ab:∀(l:List (Option Nat)) (j m k:Nat),Aa l j m=some k->j<=k/\l.getD (k-j) none=some m
 | [],_,_,_,h=>by cases h
 |none::r,j,m,k,h=>by
  obtain⟨h1,h2⟩:=Ab r (j+1) m k h;refine⟨be,?_⟩;rw[show k-j=(k-(j+1))+1 by omega];simpa using h2
 |some x::r,j,m,k,h=>by
  simp only[Aa]at h;split at h
  . rename_i hb;obtain rfl:=ek h;refine⟨aA _,?_⟩;simp[aD hb]
  . obtain⟨h1,h2⟩:=Ab r (j+1) m k h;refine⟨be,?_⟩;rw[show k-j=(k-(j+1))+1 by omega];simpa using h2
abbrev mu(ns:List (Option Nat)):Nat->Option Nat:=Aa ns 0
theorem TZ{ns:List (Option Nat)}{m k:Nat}(h:mu ns m=some k):ns.getD k none=some m:=by
 have:=(Ab ns 0 m k h).2;simpa using this
theorem Qk{E:Env}{ns:List (Option Nat)}:∀m k,mu ns m=some k->(E.pick ns).ι k=E.ι m:=fun _ _ h=>mj (TZ h)
def ni:List (Option Nat)->Bool
 | []=>true
 |none::r=>ni r
 |some k::r=>!(r.any fun x=>match x with|some j=>Nat.beq k j|none=>false)&&ni r
theorem oG:∀{l:List (Option Nat)},ni l=true->∀i j m,l.getD i none=some m->l.getD j none=some m->i=j
 | [],_,i,_,_,h,_=>by simp at h
 |none::r,h,i,j,m,h1,h2=>by
  cases i with
  |zero=>simp at h1
  |succ i=>cases j with
   |zero=>simp at h2
   |succ j=>rw[oG (l:=r) h i j m (by simpa using h1) (by simpa using h2)]
 |some k::r,h,i,j,m,h1,h2=>by
  simp only[ni,aC,Bool.not_eq_true']at h;have no:∀q,r.getD q none≠some k:=by
   intro q hq;have hm:some k∈r:=by
    rw[aM]at hq;cases hx:r[q]? with
    |none=>rw[hx]at hq;cases hq
    |some x=>rw[hx]at hq;simp only[Option.getD_some]at hq;subst hq;exact aZ hx
   have:(r.any fun x=>match x with|some j=>Nat.beq k j|none=>false)=true:=List.any_eq_true.2 ⟨_,hm,cL k⟩;rw[this]at h;cases h.1
  cases i with
  |zero=>
   simp at h1;subst h1;cases j with
   |zero=>rfl
   |succ j=>exact absurd (by simpa using h2) (no j)
  |succ i=>cases j with
   |zero=>simp at h2;subst h2;exact absurd (by simpa using h1) (no i)
   |succ j=>rw[oG h.2 i j m (by simpa using h1) (by simpa using h2)]
structure ve(ns:List (Option Nat))(h h1:Tr O):Prop where
 jf:∀p∈jL,ns.getD p.2 none=some p.2
 one:ni ns=true
 live:∀j m,ns.getD j none=some m->(∃p∈jL,p.2=m)\/h.get m≠none
 get:∀j o1,h1.get j=some o1->∃m o,ns.getD j none=some m/\h.get m=some o/\o.rn (mu ns)=some o1
theorem LW{E:Env}{h h1:Tr O}{w:World}{ns:List (Option Nat)}(g:Good E h w)(k:ve ns h h1):Good (E.pick ns) h1 w/\qH (E.pick ns) ns.length:=by
 have hw:∀j,ew h1 j->∃m,ns.getD j none=some m/\ew h m:=by
  rintro j ⟨o1,h2,h3⟩;obtain⟨m,o,q1,q2,q3⟩:=k.get j o1 h2;exact⟨m,q1,o,q2,(AK q3).symm.trans h3⟩
 refine⟨⟨fun j o1 hj=>?_,fun j j' b s s' fL hj P9 e1 e2=>?_,fun j b s e=>?_,fun p hp=>?_,fun b c q=>⟨g.fz b c q,fun j s hj e=>?_⟩⟩,fun j hj=>?_⟩
 . obtain⟨m,o,q1,q2,q3⟩:=k.get j o1 hj;obtain⟨b,s,e1,e2⟩:=g.rel m o q2;exact⟨b,s,(mj q1).trans e1,Bo (E':=E.pick ns) Qk (fun _ _ _ _ _ _=>rfl) (fun _ _ q=>q) rfl o o1 q3 e2⟩
 . obtain⟨m,q1,q2⟩:=hw j hj;obtain⟨o',P9⟩:=bf.1 P9;obtain⟨m',o,p1,p2,_⟩:=k.get j' o' P9;rw[mj q1]at e1;rw[mj p1]at e2;by_cases hm:m=m'
   . subst hm;exact fL (oG k.one j j' m q1 p1)
   . exact g.inj m m' b s s' hm q2 (by rw[p2];simp) e1 e2
 . have e:(match ns.getD j none with|some m=>E.ι m|none=>none)=some (b,s):=e;split at e
   . exact g.mO _ b s e
   . cases e
 . rw[mj (k.jf p hp)];exact g.jf p hp
 . obtain⟨m,q1,q2⟩:=hw j hj;rw[mj q1]at e;exact(g.gI b c q).2 m s q2 e
 . show(match ns.getD j none with|some m=>E.ι m|none=>none)=none;rw[aM,bP (show ns.length<=j from hj)];rfl
def T0(ns:List (Option Nat))(mh:Tr O)(n0 n m:Nat):Option Nat:=match Nat.blt m n0 with
 |true=>ns.getD m none
 |false=>match mh.get m with
  |some o=>match o.wr with
   |true=>some (n+(m-n0))
   |false=>none
  |none=>none
def oW(ν:Nat->Option Nat)(ns:List (Option Nat))(h1 mh:Tr O):Nat->Nat->Tr O->Option (Tr O)
 |0,_,h=>some h
 |i+1,q,h=>match h1.get q with
  |some o0=>match o0.wr with
   |true=>match ns.getD q none with
    |some m=>match Nat.blt m fI with
     |true=>match mh.get q with
      |some o=>match o.wr with
       |true=>match o.rn ν with
        |some o2=>oW ν ns h1 mh i (q+1) (h.set m (some o2))
        |none=>none
       |false=>none
      |none=>oW ν ns h1 mh i (q+1) (h.set m none)
     |false=>none
    |none=>none
   |false=>oW ν ns h1 mh i (q+1) h
  |none=>oW ν ns h1 mh i (q+1) h
def Kh(ν:Nat->Option Nat)(h1:Tr O):Nat->Nat->Tr O->Option (Tr O)
 |0,_,h=>some h
 |i+1,j,h=>match ν j with
  |none=>Kh ν h1 i (j+1) h
  |some k=>match h1.get j with
   |some o=>match o.rn ν with
    |some o2=>match Nat.blt k fI with
     |true=>Kh ν h1 i (j+1) (h.set k (some o2))
     |false=>none
    |none=>none
   |none=>none
def D0(ns:List (Option Nat))(h1:Tr O)(r:V×Tr O×Nat)(h:Tr O)(n:Nat):Option (V×Tr O×Nat):=
 match r.1.rn (T0 ns r.2.1 ns.length n)with
 |some v=>match oW (T0 ns r.2.1 ns.length n) ns h1 r.2.1 ns.length 0 h with
  |some h2=>match Kh (T0 ns r.2.1 ns.length n) r.2.1 (r.2.2-ns.length) ns.length h2 with
   |some h3=>some (v,h3,n+(r.2.2-ns.length))
   |none=>none
  |none=>none
 |none=>none
theorem vX{ν:Nat->Option Nat}{ns:List (Option Nat)}{h1 mh:Tr O}:∀(i q:Nat) (h h2:Tr O),oW ν ns h1 mh i q h=some h2->∀m o,h2.get m=some o->
  (h.get m=some o/\∀p,q<=p->p<q+i->ew h1 p->ns.getD p none≠some m)\/∃p,q<=p/\p<q+i/\ew h1 p/\ns.getD p none=some m/\∃o1,mh.get p=some o1/\o1.wr=true/\o1.rn ν=some o
 |0,q,h,h2,e,m,o,hm=>by simp only[oW,an]at e;subst e;exact .inl ⟨hm,fun p h1 h2=>by omega⟩
 |i+1,q,h,h2,e,m,o,hm=>by
  simp only[oW]at e;have skip:(¬ew h1 q)->oW ν ns h1 mh i (q+1) h=some h2->_:=fun hq e=>vX i (q+1) h h2 e m o hm;have Ep:∀(h':Tr O) (x:Option O) (m0:Nat),m0<fI->h'=h.set m0 x->ew h1 q->ns.getD q none=some m0->(∀y,x=some y->∃o1,mh.get q=some o1/\o1.wr=true/\o1.rn ν=some y)->oW ν ns h1 mh i (q+1) h'=some h2->
    (h.get m=some o/\∀p,q<=p->p<q+(i+1)->ew h1 p->ns.getD p none≠some m)\/∃p,q<=p/\p<q+(i+1)/\ew h1 p/\ns.getD p none=some m/\∃o1,mh.get p=some o1/\o1.wr=true/\o1.rn ν=some o:=by
   intro h' x m0 ht hh hw FJ hx e;rcases vX i (q+1) h' h2 e m o hm with⟨k1,k2⟩|⟨p,k1,k2,k3⟩
   . rw[hh,Tr.eO _ _ _ ht]at k1;split at k1
     . rename_i z;subst z;exact .inr ⟨q,aA _,be,hw,FJ,hx o k1⟩
     . rename_i z;refine .inl ⟨k1,fun p p1 p2 p3=>?_⟩;rcases Nat.eq_or_lt_of_le p1 with rfl|p1
       . rw[FJ];intro c;cases c;exact z rfl
       . exact k2 p p1 be p3
   . exact .inr ⟨p,be,be,k3⟩
  have ac7:(¬ew h1 q)->oW ν ns h1 mh i (q+1) h=some h2->
    (h.get m=some o/\∀p,q<=p->p<q+(i+1)->ew h1 p->ns.getD p none≠some m)\/∃p,q<=p/\p<q+(i+1)/\ew h1 p/\ns.getD p none=some m/\∃o1,mh.get p=some o1/\o1.wr=true/\o1.rn ν=some o:=by
   intro hq e;rcases vX i (q+1) h h2 e m o hm with⟨k1,k2⟩|⟨p,k1,k2,k3⟩
   . refine .inl ⟨k1,fun p p1 p2 p3=>?_⟩;rcases Nat.eq_or_lt_of_le p1 with rfl|p1
     . exact absurd p3 hq
     . exact k2 p p1 be p3
   . exact .inr ⟨p,be,be,k3⟩
  split at e
  . rename_i o0 ho0;split at e
    . rename_i Ql;split at e
      case h_2=>cases e
      rename_i m0 FJ;split at e
      case h_2=>cases e
      rename_i ht;have ht:=au ht;split at e
      . rename_i o1 ho1;split at e
        case h_2=>cases e
        rename_i Ej;split at e
        case h_2=>cases e
        rename_i o2 TH;exact Ep _ (some o2) m0 ht rfl ⟨o0,ho0,Ql⟩ FJ (fun y hy=>by cases hy;exact⟨o1,ho1,Ej,TH⟩) e
      . exact Ep _ none m0 ht rfl ⟨o0,ho0,Ql⟩ FJ (fun y hy=>by cases hy) e
    . rename_i Ql;exact ac7 (fun⟨o,q1,q2⟩=>by rw[ho0]at q1;cases q1;rw[Ql]at q2;cases q2) e
  . rename_i ho0;exact ac7 (fun⟨o,q1,q2⟩=>by rw[ho0]at q1;cases q1) e
theorem Ac{ν:Nat->Option Nat}{h1:Tr O}:∀(i j:Nat) (h h2:Tr O),Kh ν h1 i j h=some h2->∀m o,h2.get m=some o->h.get m=some o\/∃q,j<=q/\q<j+i/\ν q=some m/\∃o1,h1.get q=some o1/\o1.rn ν=some o
 |0,j,h,h2,e,m,o,hm=>by simp only[Kh,an]at e;subst e;exact .inl hm
 |i+1,j,h,h2,e,m,o,hm=>by
  simp only[Kh]at e;split at e
  . rcases Ac i (j+1) h h2 e m o hm with q|⟨q,q1,q2,q3⟩
    . exact .inl q
    . exact .inr ⟨q,be,be,q3⟩
  . rename_i k hk;split at e
    case h_2=>cases e
    rename_i o1 ho;split at e
    case h_2=>cases e
    rename_i o2 TH;split at e
    case h_2=>cases e
    rename_i ht;rcases Ac i (j+1) _ h2 e m o hm with q|⟨q,q1,q2,q3⟩
    . rw[Tr.eO _ _ _ (show k<fI from au ht)]at q;split at q
      . rename_i z;subst z;obtain rfl:=ek q;exact .inr ⟨j,aA _,be,hk,o1,ho,TH⟩
      . exact .inl q
    . exact .inr ⟨q,be,be,q3⟩
theorem LX{E:Env}{h h1:Tr O}{n:Nat}{w:World}{ns:List (Option Nat)}{r:V×Tr O×Nat}{v:V}{h2:Tr O}{n2:Nat}(g:Good E h w)(hd:qH E n)(k0:ve ns h h1)
  (he:D0 ns h1 r h n=some (v,h2,n2)) {en:Ending} {w':World} (c:jR (E.pick ns) h1 ns.length w (.ret r.1) r.2.1 r.2.2 en w'):jR E h n w (.ret v) h2 n2 en w':=by
 obtain⟨v1,mh,Ik⟩:=r;obtain⟨E2,u,fF,rQ,hn,ho⟩:=c;simp only at u rQ hn ho;unfold D0 at he;simp only at he;split at he
 case h_2=>cases he
 rename_i v' hv;split at he
 case h_2=>cases he
 rename_i hL' hhL;split at he
 case h_2=>cases he
 rename_i hH' hhH;simp only[an,aB]at he;obtain⟨rfl,rfl,rfl⟩:=he;generalize Tw:ns.length=n0 at *
 let ν:=T0 ns mh n0 n
 have YO:∀m k,m<n0->ν m=some k->ns.getD m none=some k:=by
  intro m k hm hk;have hb:Nat.blt m n0=true:=Nat.ble_eq_true_of_le hm;simp only[ν,T0,hb]at hk;exact hk
 have Gj:∀m k,n0<=m->ν m=some k->k=n+(m-n0)/\ew mh m:=by
  intro m k hm hk;have hb:Nat.blt m n0=false:=by
   cases q:Nat.blt m n0 with
   |false=>rfl
   |true=>exact absurd (au q) (Nat.not_lt.2 hm)
  simp only[ν,T0,hb]at hk;split at hk
  . rename_i o ho1;split at hk
    . rename_i hw;simp only[an]at hk;exact⟨hk.symm,o,ho1,hw⟩
    . cases hk
  . cases hk
 have pre:∀j,ew h1 j->∃m,ns.getD j none=some m/\ew h m:=by
  rintro j ⟨o1,q2,q3⟩;obtain⟨m,o,p1,p2,p3⟩:=k0.get j o1 q2;exact⟨m,p1,o,p2,(AK p3).symm.trans q3⟩
 have aiT:∀j,h1.get j≠none->∃m,ns.getD j none=some m/\h.get m≠none:=by
  intro j hj;obtain⟨o1,q2⟩:=bf.1 hj;obtain⟨m,o,p1,p2,_⟩:=k0.get j o1 q2;exact⟨m,p1,by rw[p2];simp⟩
 have old:∀j b s,mh.get j≠none->E2.ι j=some (b,s)->b<w.heap.size->∃m s0,h.get m≠none/\E.ι m=some (b,s0)/\(∃j0,ns.getD j0 none=some m/\j0<n0/\(ew mh j->ew h1 j0))/\(ew mh j->ew h m):=by
  intro j b s hj e hb;obtain⟨j0,s0,q1,q2,q3⟩:=u.sO j b s hj e hb;obtain⟨m,p1,p2⟩:=aiT j0 q1;have hj0:j0<n0:=by
   rcases bN j0 n0 with z|z
   . exact z
   . rw[aM,bP be]at p1;cases p1
  refine⟨m,s0,p2,by rw[<- mj p1];exact q2,⟨j0,p1,hj0,q3⟩,fun z=>?_⟩;obtain⟨m',p3,p4⟩:=pre j0 (q3 z);rw[p1]at p3;cases p3;exact p4
 let E':Env:=⟨fun m=>if m<n then E.ι m else(match ν (n0+(m-n))with|some _=>E2.ι (n0+(m-n))|none=>none),fun b=>if b<w.heap.size then E.β b else E2.β b,E2.φ⟩
 have wM:∀m,m<n->E'.ι m=E.ι m:=fun m hm=>aG hm;have ac8:∀j k,n0<=j->ν j=some k->E'.ι k=E2.ι j:=by
  intro j k hj hk;obtain⟨rfl,_⟩:=Gj j k hj hk;show(if n+(j-n0)<n then _ else _)=_;rw[aI be];have:n0+(n+(j-n0)-n)=j:=by omega
  rw[this,hk]
 have ac9:∀m k,m<n0->ns.getD m none=some k->E2.ι m=E.ι k:=fun m k hm hk=>(fF m hm).trans (mj hk);have hkn:∀k,E.ι k≠none->k<n:=fun k e=>by
  rcases bN k n with q|q
  . exact q
  . exact absurd (hd k q) e
 have iV:∀m k,ν m=some k->E'.ι k=E2.ι m:=by
  intro m k hk;by_cases hm:m<n0
  . have FJ:=YO m k hm hk;rw[ac9 m k hm FJ];by_cases Eo:k<n
    . exact wM k Eo
    . exact absurd (hkn k (by
       rcases k0.live m k FJ with⟨p,hp,rfl⟩|q
       . rw[g.jf p hp];simp
       . obtain⟨o,q⟩:=bf.1 q;obtain⟨b,s,e,_⟩:=g.rel k o q;rw[e];simp)) Eo
  . exact ac8 m k (Nat.le_of_not_lt hm) hk
 have ku:E.le E':=by
  refine⟨fun m b s e=>?_,fun b c q=>u.le.fz b c q⟩;exact⟨(wM m (hkn m (by rw[e];simp))).trans e,aG (g.mO m b s e)⟩
 have YP:qH E' (n+(Ik-n0)):=by
  intro m hm;have hm:n+(Ik-n0)<=m:=hm;show(if m<n then _ else _)=none;rw[aI be];split
  . exact rQ _ (by show Ik<=_;omega)
  . rfl
 have YQ:∀m k b s,ν m=some k->E2.ι m=some (b,s)->E'.β b=E2.β b:=by
  intro m k b s hk e;show(if b<w.heap.size then E.β b else E2.β b)=_;split
  . rename_i hb;by_cases hm:m<n0
    . have e1:(E.pick ns).ι m=some (b,s):=by rw[<- fF m hm];exact e
      exact(u.le.nm m b s e1).2.symm
    . obtain⟨_,hw⟩:=Gj m k (Nat.le_of_not_lt hm) hk;obtain⟨j0,s0,q1,q2,_⟩:=u.sO m b s hw.live e hb;exact(u.le.nm j0 b s0 q2).2.symm
  . rfl
 have qq:∀m o,hH'.get m=some o->(h.get m=some o/\m<n/\∀p,ew h1 p->ns.getD p none≠some m)\/(∃q,ν q=some m/\ew mh q/\(q<n0->ew h1 q)/\∃o1,mh.get q=some o1/\o1.rn ν=some o):=by
  intro m o hm;rcases Ac _ _ _ _ hhH m o hm with q|⟨q,q1,q2,q3,q4⟩
  . rcases vX _ _ _ _ hhL m o q with⟨k1,k2⟩|⟨p,k1,k2,k3,k4,o1,k5,k6,k7⟩
    . refine .inl ⟨k1,?_,fun p hp FJ=>?_⟩
      . obtain⟨b,s,e,_⟩:=g.rel m o k1;exact hkn m (by rw[e];simp)
      . have hp0:p<n0:=by
         rcases bN p n0 with z|z
         . exact z
         . rw[aM,bP be]at FJ;cases FJ
        exact k2 p (aW _) be hp FJ
    . have hp0:p<n0:=by omega
      refine .inr ⟨p,?_,⟨o1,k5,k6⟩,fun _=>k3,o1,k5,k7⟩;have hb:Nat.blt p n0=true:=Nat.ble_eq_true_of_le hp0;show T0 ns mh n0 n p=some m;simp only[T0,hb];exact k4
  . obtain⟨o1,p1,p2⟩:=q4;exact .inr ⟨q,q3,(Gj q m q1 q3).2,fun z=>absurd z (Nat.not_lt.2 q1),o1,p1,p2⟩
 have keep:∀m o,h.get m=some o->(∀p,ew h1 p->ns.getD p none≠some m)->∀b s,E.ι m=some (b,s)->w'.heap[b]? =w.heap[b]?:=by
  intro m o hm hp b s e;refine u.keep b (g.mO m b s e) fun j t hj e2=>?_;obtain⟨m',p1,p2⟩:=pre j hj;rw[mj p1]at e2;exact g.inj m' m b t s (fun z=>hp j hj (z▸p1)) p2 (by rw[hm];simp) e2 e
 have qp:Good E' hH' w':=by
  refine⟨?_,?_,?_,g.jf.mono ku,fun b c q=>⟨u.good.fz b c q,?_⟩⟩
  . intro m o hm;rcases qq m o hm with⟨h0,O9,hp⟩|⟨q,q1,_,_,o1,q3,q4⟩
    . obtain⟨b,s,e1,e2⟩:=g.rel m o h0;exact⟨b,s,(ku.nm m b s e1).1,hU ku (ku.nm m b s e1).2 (keep m o h0 hp b s e1) e2⟩
    . obtain⟨b,s,e1,e2⟩:=u.good.rel q o1 q3;exact⟨b,s,(iV q m q1).trans e1,Bo (E':=E') iV YQ (fun _ _ q=>q) (YQ q m b s q1 e1) o1 o q4 e2⟩
  . rintro m m' b s s' fL ⟨o,hm,hw⟩ sP e1 e2;obtain⟨o',sP⟩:=bf.1 sP;rcases qq m o hm with⟨h0,O9,hp⟩|⟨q,q1,q2,q5,o1,q3,q4⟩<;>rcases qq m' o' sP with⟨h0',ada,OP⟩|⟨q',q1',q2',q5',o1',q3',q4'⟩
    . rw[wM m O9]at e1;rw[wM m' ada]at e2;exact g.inj m m' b s s' fL ⟨o,h0,hw⟩ (by rw[h0'];simp) e1 e2
    . rw[wM m O9]at e1;rw[iV q' m' q1']at e2;obtain⟨mm,s0,k1,k2,⟨j0,k3,_,k5⟩,k4⟩:=old q' b s' q2'.live e2 (g.mO m b s e1);exact g.inj m mm b s s0 (fun z=>hp j0 (k5 q2') (z▸k3)) ⟨o,h0,hw⟩ k1 e1 k2
    . rw[wM m' ada]at e2;rw[iV q m q1]at e1;obtain⟨mm,s0,k1,k2,⟨j0,k3,_,k5⟩,k4⟩:=old q b s q2.live e1 (g.mO m' b s' e2);exact g.inj mm m' b s0 s' (fun z=>OP j0 (k5 q2) (z▸k3)) (k4 q2) (by rw[h0'];simp) k2 e2
    . rw[iV q m q1]at e1;rw[iV q' m' q1']at e2;exact u.good.inj q q' b s s' (fun z=>fL (by subst z;rw[q1]at q1';exact cC q1')) q2 q2'.live e1 e2
  . intro m b s e;by_cases hm:m<n
    . rw[wM m hm]at e;exact bD (g.mO m b s e) u.size
    . have e:(if m<n then E.ι m else(match ν (n0+(m-n))with|some _=>E2.ι (n0+(m-n))|none=>none))=some (b,s):=e;rw[aI hm]at e;split at e
      . exact u.good.mO _ b s e
      . cases e
  . rintro m s ⟨o,hm,hw⟩ e;rcases qq m o hm with⟨h0,O9,hp⟩|⟨q',q1,q2,_⟩
    . rw[wM m O9]at e;rcases u.DF b c q with z|z|⟨j,t,z1,z2⟩
      . exact(g.gI b c z).2 m s ⟨o,h0,hw⟩ e
      . have:=g.mO m b s e;omega
      . obtain⟨m',p1,p2⟩:=pre j z1;rw[mj p1]at z2;exact g.inj m m' b s t (fun z=>hp j z1 (z▸p1)) ⟨o,h0,hw⟩ p2.live e z2
    . rw[iV q' m q1]at e;exact(u.good.gI b c q).2 q' s q2 e
 refine⟨E',⟨ku,qp,u.size,u.tape,u.os,u.output,fun b hb tO=>?_,?_,fun b c q=>?_⟩,fun m hm=>wM m hm,YP,Nat.le_add_right _ _,?_⟩
 . refine u.keep b hb fun j t hj e=>?_;obtain⟨m',p1,p2⟩:=pre j hj;rw[mj p1]at e;exact tO m' t p2 e
 . intro m b s hm e hb;obtain⟨o,hm⟩:=bf.1 hm;rcases qq m o hm with⟨h0,O9,hp⟩|⟨q,q1,q2,_⟩
   . rw[wM m O9]at e;exact⟨m,s,by rw[h0];simp,e,fun⟨o',k1,k2⟩=>⟨o,h0,by rw[hm]at k1;cases k1;exact k2⟩⟩
   . rw[iV q m q1]at e;obtain⟨mm,s0,k1,k2,_,k4⟩:=old q b s q2.live e hb;exact⟨mm,s0,k1,k2,fun _=>k4 q2⟩
 . rcases u.DF b c q with z|z|⟨j,t,z1,z2⟩
   . exact .inl z
   . exact .inr (.inl z)
   . obtain⟨m',p1,p2⟩:=pre j z1;rw[mj p1]at z2;exact .inr (.inr ⟨m',t,p2,z2⟩)
 . cases en with
   |returned x=>exact tf (E':=E') iV YQ (fun _ _ q=>q) v1 _ x hv ho
   |_=>exact ho.elim
theorem EL{P:Program}(hm:P.follows .mixedOrders=true)(xp:lj P=true){f:FuncId}{fn:Func}{code:Code}(hf:P.funcs[f]? =some fn)(hb:fn.body=some code){args nE:ag}{ns:List (Option Nat)}{h h1 h2 mh:Tr O}{n n2 Ik:Nat}{v v1:V}
  (l:(Nat.ble nE.length fn.ntmps&&Nat.blt fn.ntmps fI)=true) (k:ve ns h h1) (ka:V.DJ (mu ns) args=some nE) (he:D0 ns h1 (v1,mh,Ik) h n=some (v,h2,n2))
  (hT:TG P ns.length fn.ntmps code (cR nE h1 ns.length) (fB P ns.length fn fun a b c=>a=v1/\b=mh/\c=Ik))
  {E:Env} {w:World} {c7:List Value} (ra:dG E args c7) (g:Good E h w) (hd:qH E n):Calls P f c7.toArray w (jR E h n w (.ret v) h2 n2):=by
 obtain⟨g1,d1⟩:=LW g k;have ra1:dG (E.pick ns) nE c7:=tg (E':=E.pick ns) Qk (fun _ _ _ _ _ _=>rfl) (fun _ _ q=>q) _ _ _ ka ra;exact(yP hm xp hf hb l v1 mh Ik hT ra1 g1 d1).mono fun en w' c=>LX g hd k he c
end Go.Eng
