/- Lemmas of the engine. No conditions. -/
import Derived.Test.YtmjggdmekboefaaGreatJointW03
import Derived.Maps.RangeRun
set_option linter.unusedVariables false
set_option linter.unusedSimpArgs false
set_option linter.unusedSectionVars false
set_option maxRecDepth 10000
namespace Go.Eng
open Go Go.RowKit
mutual
def V.deep:V->Bool
 | .ptr (some _)=>false
 | .eZ (some _) _ _ _=>false
 | .map (some _)=>false
 | .fn f a c=>vp f&&(V.qn a&&V.qn c)
 | .iface _ x=>V.deep x
 | .agg cs=>V.qn cs
 | .gV cs=>V.qn cs
 |_=>true
def V.qn:ag->Bool
 | []=>true
 |x::xs=>V.deep x&&V.qn xs
end
mutual
theorem CO{E E':Env}(kT:∀b c,E.φ b=some c->E'.φ b=some c):∀(v:V) (v':Value),v.deep=true->eB E v v'->eB E' v v'
 | .bool _,_,_,r=>r
 | .int _ _,_,_,r=>r
 | .str _,_,_,r=>r
 | .ptr none,_,_,r=>r
 | .ptr (some _),_,h,_=>by simp[V.deep]at h
 | .eZ none _ _ _,_,_,r=>r
 | .eZ (some _) _ _ _,_,h,_=>by simp[V.deep]at h
 | .map none,_,_,r=>r
 | .map (some _),_,h,_=>by simp[V.deep]at h
 | .fn f a c,_,h,⟨f',a',c',rf,ra,rc,q⟩=>by
   simp only[V.deep,ay]at h;refine⟨f',a',c',?_,lN kT a a' h.2.1 ra,lN kT c c' h.2.2 rc,q⟩;cases f<;>first|exact rf|(simp[vp]at h;done)
 | .kI,_,_,r=>r
 | .iface _ x,_,h,⟨x',r,q⟩=>⟨x',CO kT x x' (by simpa only[V.deep]using h) r,q⟩
 | .nilIface,_,_,r=>r
 | .agg cs,_,h,⟨cs',r,q⟩=>⟨cs',lN kT cs cs' (by simpa only[V.deep]using h) r,q⟩
 | .gV cs,_,h,⟨cs',r,q⟩=>⟨cs',lN kT cs cs' (by simpa only[V.deep]using h) r,q⟩
 | .eE _ _ _,_,_,r=>⟨mE kT _ _ r.1,r.2⟩
 | .dS cs,_,_,⟨b,o,c,vs,e,e1,r,q⟩=>⟨b,o,c,vs,e,kT _ _ e1,iP kT cs vs r,q⟩
theorem lN{E E':Env}(kT:∀b c,E.φ b=some c->E'.φ b=some c):∀(v:ag) (v':List Value),V.qn v=true->eC E v v'->eC E' v v'
 | [],_,_,r=>r
 |x::xs,_,h,⟨y,ys,r,rs,q⟩=>by
  simp only[V.qn,ay]at h;exact⟨y,ys,CO kT x y h.1 r,lN kT xs ys h.2 rs,q⟩
end
section
variable(iX:Nat->Option (ai))
mutual
def AO:V->Option (ah×V)
 | .eZ (some (m,o)) len jQ kY=>match iX m with
   |some cs=>match o with
    |0=>some ([cs.length=len*kY],.eE false len cs)
    |o+1=>some ([],.eE false len ((cs.drop (o+1)).take (len*kY)))
   |none=>some ([],.eZ (some (m,o)) len jQ kY)
 | .ptr (some (m,o))=>match iX m with
   |some _=>none
   |none=>some ([],.ptr (some (m,o)))
 | .map (some m)=>match iX m with
   |some _=>none
   |none=>some ([],.map (some m))
 | .fn f a c=>match f with
   | .yield m=>match iX m with
     |some _=>none
     |none=>match vR a with
      |some (fm,a)=>match vR c with
       |some (aj,c)=>some (fm++aj,.fn (.yield m) a c)
       |none=>none
      |none=>none
   |f=>match vR a with
    |some (fm,a)=>match vR c with
     |some (aj,c)=>some (fm++aj,.fn f a c)
     |none=>none
    |none=>none
 | .iface t x=>match AO x with
   |some (fm,x)=>some (fm,.iface t x)
   |none=>none
 | .agg cs=>match vR cs with
   |some (fm,cs)=>some (fm,.agg cs)
   |none=>none
 | .gV cs=>match vR cs with
   |some (fm,cs)=>some (fm,.gV cs)
   |none=>none
 | .bool b=>some ([],.bool b)
 | .int k n=>some ([],.int k n)
 | .str s=>some ([],.str s)
 | .ptr none=>some ([],.ptr none)
 | .eZ none l c e=>some ([],.eZ none l c e)
 | .map none=>some ([],.map none)
 | .kI=>some ([],.kI)
 | .nilIface=>some ([],.nilIface)
 | .eE f n cs=>some ([],.eE f n cs)
 | .dS cs=>some ([],.dS cs)
def vR:ag->Option (ah×ag)
 | []=>some ([],[])
 |x::xs=>match AO x with
  |some (fm,x)=>match vR xs with
   |some (aj,xs)=>some (fm++aj,x::xs)
   |none=>none
  |none=>none
end
end
def XC(iX:Nat->Option (ai))(E:Env)(φ:Nat->Option (Array Value)):Prop:=
 ∀m cs,iX m=some cs->∀b s,E.ι m=some (b,s)->∃c vs,φ b=some c/\jd φ cs vs/\∀(j:Nat) (x:Value),vs[j]? =some x->c[s+j]? =some x
section
variable{iX:Nat->Option (ai)}{E E':Env}(hF:XC iX E E'.φ)(jz:∀m,E'.ι m=E.ι m)(oG:E'.β=E.β)(kT:∀b c,E.φ b=some c->E'.φ b=some c)
include hF jz oG kT
mutual
theorem tB:∀(v v2:V) (fm:ah) (v':Value),AO iX v=some (fm,v2)->(∀a∈fm,a)->eB E v v'->eB E' v2 v'
 | .bool _,v2,fm,_,h,_,r=>by simp only[AO,aq,aB]at h;obtain⟨rfl,rfl⟩:=h;exact r
 | .int _ _,v2,fm,_,h,_,r=>by simp only[AO,aq,aB]at h;obtain⟨rfl,rfl⟩:=h;exact r
 | .str _,v2,fm,_,h,_,r=>by simp only[AO,aq,aB]at h;obtain⟨rfl,rfl⟩:=h;exact r
 | .ptr none,v2,fm,_,h,_,r=>by simp only[AO,aq,aB]at h;obtain⟨rfl,rfl⟩:=h;exact r
 | .eZ none _ _ _,v2,fm,_,h,_,r=>by simp only[AO,aq,aB]at h;obtain⟨rfl,rfl⟩:=h;exact r
 | .map none,v2,fm,_,h,_,r=>by simp only[AO,aq,aB]at h;obtain⟨rfl,rfl⟩:=h;exact r
 | .kI,v2,fm,_,h,_,r=>by simp only[AO,aq,aB]at h;obtain⟨rfl,rfl⟩:=h;exact r
 | .nilIface,v2,fm,_,h,_,r=>by simp only[AO,aq,aB]at h;obtain⟨rfl,rfl⟩:=h;exact r
 | .eE f n cs,v2,fm,_,h,_,r=>by
   simp only[AO,aq,aB]at h;obtain⟨rfl,rfl⟩:=h;exact⟨mE kT _ _ r.1,r.2⟩
 | .dS cs,v2,fm,_,h,_,⟨b,o,c,vs,e,e1,r,q⟩=>by
   simp only[AO,aq,aB]at h;obtain⟨rfl,rfl⟩:=h;exact⟨b,o,c,vs,e,kT _ _ e1,iP kT cs vs r,q⟩
 | .ptr (some (m,o)),v2,fm,_,h,_,⟨b,s,e,q⟩=>by
   simp only[AO]at h;split at h
   . cases h
   . obtain⟨rfl,rfl⟩:=gl h;exact⟨b,s,(jz m).trans e,q⟩
 | .map (some m),v2,fm,_,h,_,⟨b,e,q⟩=>by
   simp only[AO]at h;split at h
   . cases h
   . obtain⟨rfl,rfl⟩:=gl h;exact⟨b,(jz m).trans e,q⟩
 | .eZ (some (m,o)) len jQ kY,v2,fm,_,h,hA,⟨b,s,o',gP,e,q1,q2,q3,q4,q5⟩=>by
   simp only[AO]at h;split at h
   . rename_i cs qu;obtain⟨c,vs,k1,k2,k3⟩:=hF m cs qu b s e;have key:∀(ds:ai) (us:List Value),jd E'.φ ds us->(len=0->ds=[])->(0<len->∀(j:Nat) (x:Value),us[j]? =some x->c[s+o+j]? =some x)->eB E' (.eE false len ds) (.slice (some ⟨b,o',none⟩) len gP):=by
      intro ds us h1 C h3;refine⟨⟨_,gP,us,rfl,S,h1,C,fun hp=>⟨b,o',c,rfl,k1,?_⟩⟩,fun q=>by cases q⟩;rw[q1 S];exact h3 hp
     split at h
     . obtain⟨rfl,rfl⟩:=gl h;rw[q5];have hl:cs.length=len*kY:=hA _ (aG.2 rfl);refine key cs vs k2 (fun z=>?_) (fun _ j x J=>by rw[Nat.add_zero];exact k3 j x J);rw[z,Nat.zero_mul]at hl;exact de.1 hl
     . rename_i o;obtain⟨rfl,rfl⟩:=gl h;rw[q5];refine key _ _ (wH (pP k2)) (fun z=>by rw[z];simp) (fun _ j x J=>?_);rw[bW]at J;split at J
       . rw[bX]at J;rw[<- k3 _ x J,Nat.add_assoc]
       . cases J
   . obtain⟨rfl,rfl⟩:=gl h;exact⟨b,s,o',gP,(jz m).trans e,q1,q2,q3,by rw[oG];exact q4,q5⟩
 | .fn f a c,v2,fm,_,h,hA,⟨f',a',c',rf,ra,rc,q⟩=>by
   simp only[AO]at h;split at h
   . rename_i m;split at h
     . cases h
     . split at h
       case h_2=>cases h
       rename_i A1 a2 ha;split at h
       case h_2=>cases h
       rename_i B1 c2 N;obtain⟨rfl,rfl⟩:=gl h;obtain⟨l,s,e,q2⟩:=rf;exact⟨f',a',c',⟨l,s,(jz m).trans e,q2⟩,lG a a2 A1 a' ha (fun x J=>hA x (bf.2 (.inl J))) ra,lG c c2 B1 c' N (fun x J=>hA x (bf.2 (.inr J))) rc,q⟩
   . rename_i jw;split at h
     case h_2=>cases h
     rename_i A1 a2 ha;split at h
     case h_2=>cases h
     rename_i B1 c2 N;obtain⟨rfl,rfl⟩:=gl h;refine⟨f',a',c',?_,lG a a2 A1 a' ha (fun x J=>hA x (bf.2 (.inl J))) ra,lG c c2 B1 c' N (fun x J=>hA x (bf.2 (.inr J))) rc,q⟩;cases f<;>first|exact rf|exact(jw _ rfl).elim
 | .iface t x,v2,fm,_,h,hA,⟨x',r,q⟩=>by
   simp only[AO]at h;split at h
   . rename_i A1 x2 J;obtain⟨rfl,rfl⟩:=gl h;exact⟨x',tB x x2 _ x' J hA r,q⟩
   . cases h
 | .agg cs,v2,fm,_,h,hA,⟨cs',r,q⟩=>by
   simp only[AO]at h;split at h
   . rename_i A1 x2 J;obtain⟨rfl,rfl⟩:=gl h;exact⟨cs',lG cs x2 _ cs' J hA r,q⟩
   . cases h
 | .gV cs,v2,fm,_,h,hA,⟨cs',r,q⟩=>by
   simp only[AO]at h;split at h
   . rename_i A1 x2 J;obtain⟨rfl,rfl⟩:=gl h;exact⟨cs',lG cs x2 _ cs' J hA r,q⟩
   . cases h
theorem lG:∀(v v2:ag) (fm:ah) (v':List Value),vR iX v=some (fm,v2)->(∀a∈fm,a)->eC E v v'->eC E' v2 v'
 | [],v2,fm,_,h,_,r=>by simp only[vR,aq,aB]at h;obtain⟨rfl,rfl⟩:=h;exact r
 |x::xs,v2,fm,_,h,hA,⟨y,ys,r,rs,q⟩=>by
  simp only[vR]at h;split at h
  case h_2=>cases h
  rename_i A1 x2 J;split at h
  case h_2=>cases h
  rename_i B1 Nb Ch;obtain⟨rfl,rfl⟩:=gl h;exact⟨y,ys,tB x x2 A1 y J (fun a ha=>hA a (bf.2 (.inl ha))) r,lG xs Nb B1 ys Ch (fun a ha=>hA a (bf.2 (.inr ha))) rs,q⟩
end
end
def CP:es->Option (ai)
 | .deep cs=>some cs
 | .own k ks=>some (ks.map (.int k))
 | .cells cs=>iJ cs
 |_=>none
section
variable(iX:Nat->Option (ai))
def CQ:I V->Option (ah×I V)
 | .nil=>some ([],.nil)
 | .node v l r=>match(match v with
    |none=>some ([],none)
    |some v=>match AO iX v with
     |some (fm,v)=>some (fm,some v)
     |none=>none:Option (ah×Option V))with
   |some (fm,v)=>match CQ l with
    |some (aj,l)=>match CQ r with
     |some (h2,r)=>some (fm++(aj++h2),.node v l r)
     |none=>none
    |none=>none
   |none=>none
def PF:List (V×V×Nat)->Option (ah×List (V×V×Nat))
 | []=>some ([],[])
 |x::xs=>match AO iX x.1 with
  |some (fm,k)=>match AO iX x.2.1 with
   |some (aj,v)=>match PF xs with
    |some (h2,xs)=>some (fm++(aj++h2),(k,v,x.2.2)::xs)
    |none=>none
   |none=>none
  |none=>none
def G2:es->Option (ah×es)
 | .cells cs=>match vR iX cs with
   |some (fm,cs)=>some (fm,.cells cs)
   |none=>none
 | .map O c=>match PF iX O with
   |some (fm,O)=>some (fm,.map O c)
   |none=>none
 | .nB s p=>some ([],.nB s p)
 | .ints k ks=>some ([],.ints k ks)
 | .own k ks=>some ([],.own k ks)
 | .deep cs=>some ([],.deep cs)
 | .vM e f s=>some ([],.vM e f s)
 | .Hh t s x=>match AO iX x with
   |some (fm,x)=>some (fm,.Hh t s x)
   |none=>none
 | .gM k O=>some ([],.gM k O)
 | .oI k O=>some ([],.oI k O)
 | .ud=>some ([],.ud)
 | .loop st pe T ps a b=>match CQ iX T with
   |some (fm,T)=>some (fm,.loop st pe T ps a b)
   |none=>none
def EK:I es->Option (ah×I es)
 | .nil=>some ([],.nil)
 | .node v l r=>match(match v with
    |none=>some ([],none)
    |some v=>match G2 iX v with
     |some (fm,v)=>some (fm,some v)
     |none=>none:Option (ah×Option es))with
   |some (fm,v)=>match EK l with
    |some (aj,l)=>match EK r with
     |some (h2,r)=>some (fm++(aj++h2),.node v l r)
     |none=>none
    |none=>none
   |none=>none
def PG:List (FuncId×ag×ag)->Option (ah×List (FuncId×ag×ag))
 | []=>some ([],[])
 |x::xs=>match vR iX x.2.1 with
  |some (fm,c)=>match vR iX x.2.2 with
   |some (aj,a)=>match PG xs with
    |some (h2,xs)=>some (fm++(aj++h2),(x.1,c,a)::xs)
    |none=>none
   |none=>none
  |none=>none
end
def XD(h:I es)(ms:List Nat)(m:Nat):Option (ai):=match ms.any (Nat.beq m)with
 |true=>match h.get m with
  |some o=>CP o
  |none=>none
 |false=>none
def LL(h:I es):List Nat->Bool
 | []=>true
 |m::ms=>Nat.blt m gy&&((match h.get m with|some o=>(match CP o with|some _=>true|none=>false)|none=>false)&&LL h ms)
def yp:List Nat->I es->I es
 | [],h=>h
 |m::ms,h=>yp ms (h.set m none)
def Ts(ms:List Nat)(s:St):Option (ah×St):=match LL s.h ms with
 |true=>match CQ (XD s.h ms) s.T with
  |some (fm,T)=>match EK (XD s.h ms) s.h with
   |some (aj,h)=>match PG (XD s.h ms) s.iE with
    |some (h2,d)=>some (fm++(aj++h2),{ T:=T,h:=yp ms h,n:=s.n,iE:=d })
    |none=>none
   |none=>none
  |none=>none
 |false=>none
theorem vD{iX:Nat->Option (ai)}:∀(t t2:I V) (fm:ah),CQ iX t=some (fm,t2)->∀k v2,t2.get k=some v2->∃v aj,t.get k=some v/\AO iX v=some (aj,v2)/\∀b∈aj,b∈fm
 | .nil,t2,fm,h,k,v2,U=>by simp only[CQ,aq,aB]at h;obtain⟨_,rfl⟩:=h;simp[I.get]at U
 | .node v l r,t2,fm,h,k,v2,U=>by
   simp only[CQ]at h;split at h
   case h_2=>cases h
   rename_i A1 v1 h1;split at h
   case h_2=>cases h
   rename_i B1 l1 hl;split at h
   case h_2=>cases h
   rename_i C1 r1 hr;obtain⟨rfl,rfl⟩:=gl h;simp only[I.get]at U ⊢;split at U
   . subst U;cases v with
     |none=>simp at h1
     |some v=>
      simp only at h1;split at h1
      . rename_i A0 v0 h0;simp only[aB,aq]at h1;obtain⟨rfl,rfl⟩:=h1;exact⟨v,A0,rfl,h0,fun b Y=>bf.2 (.inl Y)⟩
      . cases h1
   . rename_i k;split at U
     . rename_i ajw;obtain⟨v,aj,q1,q2,q3⟩:=vD l l1 B1 hl _ v2 U;exact⟨v,aj,q1,q2,fun b Y=>bf.2 (.inr (bf.2 (.inl (q3 b Y))))⟩
     . rename_i ajw;obtain⟨v,aj,q1,q2,q3⟩:=vD r r1 C1 hr _ v2 U;exact⟨v,aj,q1,q2,fun b Y=>bf.2 (.inr (bf.2 (.inr (q3 b Y))))⟩
theorem zM{iX:Nat->Option (ai)}:∀(t t2:I es) (fm:ah),EK iX t=some (fm,t2)->∀k v2,t2.get k=some v2->∃v aj,t.get k=some v/\G2 iX v=some (aj,v2)/\∀b∈aj,b∈fm
 | .nil,t2,fm,h,k,v2,U=>by simp only[EK,aq,aB]at h;obtain⟨_,rfl⟩:=h;simp[I.get]at U
 | .node v l r,t2,fm,h,k,v2,U=>by
   simp only[EK]at h;split at h
   case h_2=>cases h
   rename_i A1 v1 h1;split at h
   case h_2=>cases h
   rename_i B1 l1 hl;split at h
   case h_2=>cases h
   rename_i C1 r1 hr;obtain⟨rfl,rfl⟩:=gl h;simp only[I.get]at U ⊢;split at U
   . subst U;cases v with
     |none=>simp at h1
     |some v=>
      simp only at h1;split at h1
      . rename_i A0 v0 h0;simp only[aB,aq]at h1;obtain⟨rfl,rfl⟩:=h1;exact⟨v,A0,rfl,h0,fun b Y=>bf.2 (.inl Y)⟩
      . cases h1
   . rename_i k;split at U
     . obtain⟨v,aj,q1,q2,q3⟩:=zM l l1 B1 hl _ v2 U;exact⟨v,aj,q1,q2,fun b Y=>bf.2 (.inr (bf.2 (.inl (q3 b Y))))⟩
     . obtain⟨v,aj,q1,q2,q3⟩:=zM r r1 C1 hr _ v2 U;exact⟨v,aj,q1,q2,fun b Y=>bf.2 (.inr (bf.2 (.inr (q3 b Y))))⟩
section
variable{iX:Nat->Option (ai)}{E E':Env}(hF:XC iX E E'.φ)(jz:∀m,E'.ι m=E.ι m)(oG:E'.β=E.β)(kT:∀b c,E.φ b=some c->E'.φ b=some c)
include hF jz oG kT
theorem Iz:∀(O y8:List (V×V×Nat)) (fm:ah) (l:List MapEntry),PF iX O=some (fm,y8)->(∀a∈fm,a)->kM E O l->kM E' y8 l
 | [],y8,fm,_,h,_,r=>by simp only[PF,aq,aB]at h;obtain⟨rfl,rfl⟩:=h;exact r
 |x::xs,y8,fm,_,h,hA,⟨y,ys,r1,r2,r3,rs,q⟩=>by
  simp only[PF]at h;split at h
  case h_2=>cases h
  rename_i A1 k U;split at h
  case h_2=>cases h
  rename_i B1 v hv;split at h
  case h_2=>cases h
  rename_i C1 Nb Ch;obtain⟨rfl,rfl⟩:=gl h;exact⟨y,ys,tB hF jz oG kT _ _ _ _ U (fun a ha=>hA a (by simp[ha])) r1,tB hF jz oG kT _ _ _ _ hv (fun a ha=>hA a (by simp[ha])) r2,r3,Iz xs Nb C1 ys Ch (fun a ha=>hA a (by simp[ha])) rs,q⟩
theorem Tt{w:World}{b s:Nat}:∀(o o2:es) (fm:ah),G2 iX o=some (fm,o2)->(∀a∈fm,a)->nJ E w b s o->nJ E' w b s o2
 | .cells cs,o2,fm,h,hA,⟨c,el,fz,h1,C,h3,h4⟩=>by
   simp only[G2]at h;split at h
   case h_2=>cases h
   rename_i A1 Xr qu;obtain⟨rfl,rfl⟩:=gl h;obtain⟨vs,k1,k2⟩:=rL.1 h4;exact⟨c,el,fz,h1,by rw[oG];exact C,h3,rL.2 ⟨vs,lG hF jz oG kT _ _ _ _ qu hA k1,k2⟩⟩
 | .map O cl,o2,fm,h,hA,⟨hs,fS,h1,C⟩=>by
   simp only[G2]at h;split at h
   case h_2=>cases h
   rename_i A1 y8 W9;obtain⟨rfl,rfl⟩:=gl h;exact⟨hs,fS,h1,Iz hF jz oG kT _ _ _ _ W9 hA C⟩
 | .nB st p,o2,fm,h,_,r=>by simp only[G2,aq,aB]at h;obtain⟨rfl,rfl⟩:=h;exact r
 | .ints k ks,o2,fm,h,_,⟨c,el,fz,h1,C,h3⟩=>by simp only[G2,aq,aB]at h;obtain⟨rfl,rfl⟩:=h;exact⟨c,el,fz,h1,by rw[oG];exact C,h3⟩
 | .own k ks,o2,fm,h,_,⟨c,el,fz,h1,C,h3,h4⟩=>by simp only[G2,aq,aB]at h;obtain⟨rfl,rfl⟩:=h;exact⟨c,el,fz,h1,by rw[oG];exact C,h3,wc h4⟩
 | .deep cs,o2,fm,h,_,⟨c,el,fz,vs,h1,C,h3,h4,h5⟩=>by simp only[G2,aq,aB]at h;obtain⟨rfl,rfl⟩:=h;exact⟨c,el,fz,vs,h1,by rw[oG];exact C,h3,iP kT _ _ h4,h5⟩
 | .vM el An t,o2,fm,h,_,⟨c,fz,xs,h1,h0,C,h3⟩=>by simp only[G2,aq,aB]at h;obtain⟨rfl,rfl⟩:=h;exact⟨c,fz,xs,h1,h0,by rw[oG];exact C,h3⟩
 | .Hh t self x,o2,fm,h,hA,⟨hs,x',fz,h1,C,h3,h4⟩=>by
   simp only[G2]at h;split at h
   case h_2=>cases h
   rename_i A1 x2 J;obtain⟨rfl,rfl⟩:=gl h;exact⟨hs,x',fz,h1,by rw[oG];exact C,h3,tB hF jz oG kT _ _ _ _ J hA h4⟩
 | .gM kk O,o2,fm,h,_,⟨hs,fS,cl,h1,C⟩=>by simp only[G2,aq,aB]at h;obtain⟨rfl,rfl⟩:=h;exact⟨hs,fS,cl,h1,C.mono kT⟩
 | .oI kk O,o2,fm,h,_,⟨hs,fS,h1,C⟩=>by simp only[G2,aq,aB]at h;obtain⟨rfl,rfl⟩:=h;exact⟨hs,fS,h1,C.mono kT⟩
 | .ud,o2,fm,h,_,r=>by simp only[G2,aq,aB]at h;obtain⟨rfl,rfl⟩:=h;exact r
 | .loop st pe T ps a b',o2,fm,h,hA,⟨r,h1,C,h3,h4,h5,h6,h7,h8⟩=>by
   simp only[G2]at h;split at h
   case h_2=>cases h
   rename_i A1 O6 y9;obtain⟨rfl,rfl⟩:=gl h;refine⟨r,h1,C,h3,h4,h5,h6,fun t v e=>?_,h8⟩;obtain⟨v0,aj,q1,q2,q3⟩:=vD _ _ _ y9 t v e;obtain⟨v',k1,k2⟩:=h7 t v0 q1;exact⟨v',k1,tB hF jz oG kT _ _ _ _ q2 (fun x J=>hA x (q3 x J)) k2⟩
theorem IA:∀(xs Nb:List (FuncId×ag×ag)) (fm:ah) (ys:List Deferred),PG iX xs=some (fm,Nb)->(∀a∈fm,a)->wo E xs ys->wo E' Nb ys
 | [],Nb,fm,_,h,_,r=>by simp only[PG,aq,aB]at h;obtain⟨rfl,rfl⟩:=h;exact r
 |x::xs,Nb,fm,_,h,hA,⟨d,ys,r1,rs,q⟩=>by
  simp only[PG]at h;split at h
  case h_2=>cases h
  rename_i A1 c N;split at h
  case h_2=>cases h
  rename_i B1 a ha;split at h
  case h_2=>cases h
  rename_i C1 xs3 Ch;obtain⟨rfl,rfl⟩:=gl h;refine⟨d,ys,?_,IA xs xs3 C1 ys Ch (fun a ha=>hA a (by simp[ha])) rs,q⟩;rcases r1 with⟨J,c',a',q1,q2,q3⟩|⟨J,m,b,s,q1,q2,q3⟩
  . exact .inl ⟨J,c',a',lG hF jz oG kT _ _ _ _ N (fun a ha=>hA a (by simp[ha])) q1,lG hF jz oG kT _ _ _ _ ha (fun a ha=>hA a (by simp[ha])) q2,q3⟩
  . refine .inr ⟨J,m,b,s,?_,(jz m).trans q2,q3⟩;have q1:x.2.2=[V.map (some m)]:=q1;rw[q1]at ha;simp only[vR,AO]at ha;cases K:iX m with
    |some _=>rw[K]at ha;cases ha
    |none=>rw[K]at ha;simp only[aq,aB]at ha;exact ha.2.symm
end
theorem XE{iX:Nat->Option (ai)}{o o2:es}{fm:ah}(h:G2 iX o=some (fm,o2)):o2.wr=o.wr:=by
 cases o<;>simp only[G2]at h<;>(try split at h)<;>first|(simp only[aq,aB]at h;obtain⟨_,rfl⟩:=h;rfl)|cases h
theorem EL:∀(ms:List Nat) (h:I es) (k:Nat),(∀m∈ms,m<gy)->(yp ms h).get k=if k∈ms then none else h.get k
 | [],h,k,_=>by simp[yp]
 |m::ms,h,k,ht=>by
  rw[yp,EL ms _ k fun m K=>ht m (by simp[K]),I.gw _ _ _ (ht m (by simp))];by_cases h1:k∈ms
  . simp[h1]
  . by_cases C:k=m
    . simp[C]
    . simp[h1,C]
theorem CR{h:I es}:∀{ms:List Nat},LL h ms=true->∀m∈ms,m<gy/\∃o cs,h.get m=some o/\CP o=some cs
 | [],_,m,K=>by simp at K
 |x::ms,h,m,K=>by
  simp only[LL,ay]at h;rcases az.1 K with rfl|K
  . refine⟨aE h.1,?_⟩;have:=h.2.1;split at this
    . rename_i o ho;split at this
      . rename_i cs N;exact⟨o,cs,ho,N⟩
      . cases this
    . cases this
  . exact CR h.2.2 m K
theorem PI{h:I es}{ms:List Nat}{m:Nat}{cs:ai}(e:XD h ms m=some cs):m∈ms/\∃o,h.get m=some o/\CP o=some cs:=by
 unfold XD at e;split at e
 . rename_i ha;split at e
   . rename_i o ho;obtain⟨x,J,q⟩:=List.any_eq_true.1 ha;have:=aJ q;subst this;exact⟨J,o,ho,e⟩
   . cases e
 . cases e
theorem Bx{o:es}{cs:ai}(h:CP o=some cs):o.wr=true:=by cases o<;>simp[CP]at h<;>rfl
theorem IB{E:Env}{w:World}{b s:Nat}{o:es}{cs:ai}(h:CP o=some cs)(r:nJ E w b s o):∃c el fz vs,w.heap[b]? =some (.cells c el fz)/\jd E.φ cs vs/\∀(j:Nat) (x:Value),vs[j]? =some x->c[s+j]? =some x:=by
 cases o<;>simp only[CP,aq,reduceCtorEq]at h
 . obtain⟨c,el,fz,h1,_,_,h4⟩:=r;obtain⟨vs,k1,k2⟩:=rL.1 h4;exact⟨c,el,fz,vs,h1,sR h k1,k2⟩
 . rename_i k ks;subst h;obtain⟨c,el,fz,h1,_,_,h4⟩:=r;have e:D.fU (ks.map (.int k))=ks.map (.int k):=by rw[D.gq,List.map_map];rfl
   obtain⟨vs,k1,k2⟩:=(nL (fun x J=>by obtain⟨_,_,rfl⟩:=bS.1 J;rfl)).1 (by rw[e];exact h4:l8 E s (D.fU (ks.map (.int k))) c);exact⟨c,el,fz,vs,h1,k1,k2⟩
 . subst h;obtain⟨c,el,fz,vs,h1,_,_,h4,h5⟩:=r;exact⟨c,el,fz,vs,h1,h4,h5⟩
open Classical in
noncomputable def vS(E:Env)(iX:Nat->Option (ai))(w:World)(b:Nat):Option (Array Value):=if ∃m s,(iX m).isSome=true/\E.ι m=some (b,s)then(match w.heap[b]? with|some (.cells c _ _)=>some c|_=>none)else E.φ b
theorem vE{X hc:Nat}{ms:List Nat}{s s2:St}{fm:ah}{E:Env}{a:Act}{w:World}(e:Ts ms s=some (fm,s2))(hA:∀x∈fm,x)(r:lq E hc s a w)(hn:X<=s.n):
  ∃E2,lq E2 hc s2 a w/\nk X E s.h w E2 s2.h w/\X<=s2.n/\(∀m,E2.ι m=E.ι m):=by
 unfold Ts at e;split at e
 case h_2=>cases e
 rename_i Tu;split at e
 case h_2=>cases e
 rename_i A1 O6 y9;split at e
 case h_2=>cases e
 rename_i B1 C hh;split at e
 case h_2=>cases e
 rename_i C1 d2 DZ;simp only[aq,aB]at e;obtain⟨rfl,rfl⟩:=e;have Tu:=CR Tu;generalize hFd:XD s.h ms=iX at *;have g:=r.good;have XF:∀m cs,iX m=some cs->m∈ms/\∃o,s.h.get m=some o/\CP o=some cs:=fun m cs q=>PI (h:=s.h) (ms:=ms) (by rw[hFd];exact q);have hmF:∀m,m∈ms->(iX m).isSome=true:=by
  intro m K;obtain⟨_,o,cs,h1,h3⟩:=Tu m K;rw[<- hFd];unfold XD;rw[show ms.any (Nat.beq m)=true from List.any_eq_true.2 ⟨m,K,Nat.beq_refl m⟩,h1];simp only[h3];rfl
 have qx:∀b c,E.φ b=some c->vS E iX w b=some c:=by
  intro b c q;unfold vS;rw[aA];. exact q
  rintro⟨m,R,h1,h3⟩;obtain⟨cs,qu⟩:=bI.1 h1;obtain⟨_,o,k1,k2⟩:=XF m cs qu;exact(g.jo b c q).2 m R ⟨o,k1,Bx k2⟩ h3
 let E2:Env:=⟨E.ι,E.β,vS E iX w⟩
 have hFz:XC iX E E2.φ:=by
  intro m cs qu b R Y;obtain⟨_,o,k1,k2⟩:=XF m cs qu;obtain⟨b',t,q1,q2⟩:=g.rel m o k1;rw[Y]at q1;cases q1;obtain⟨c,el,fz,vs,p1,p2,p3⟩:=IB k2 q2;refine⟨c,vs,?_,iP qx _ _ p2,p3⟩;show vS E iX w b=some c;unfold vS;rw[aD ⟨m,R,by rw[qu];rfl,Y⟩,p1]
 have hA1:∀x∈A1,x:=fun x J=>hA x (by simp[J]);have hB1:∀x∈B1,x:=fun x J=>hA x (by simp[J]);have hC1:∀x∈C1,x:=fun x J=>hA x (by simp[J]);have pb:∀k o2,(yp ms C).get k=some o2->k∉ms/\∃o aj,s.h.get k=some o/\G2 iX o=some (aj,o2)/\∀b∈aj,b:=by
  intro k o2 q;rw[EL ms C k fun m K=>(Tu m K).1]at q;split at q
  . cases q
  . rename_i U;obtain⟨o,aj,q1,q2,q3⟩:=zM _ _ _ hh k o2 q;exact⟨U,o,aj,q1,q2,fun b Y=>hB1 b (q3 b Y)⟩
 have VB:∀k,ff (yp ms C) k->k∉ms/\ff s.h k:=by
  rintro k ⟨o2,q1,q2⟩;obtain⟨U,o,aj,p1,p2,_⟩:=pb k o2 q1;exact⟨U,o,p1,(XE p2).symm.trans q2⟩
 have Fp:∀k,(yp ms C).get k≠none->s.h.get k≠none:=by
  intro k q;obtain⟨o2,q⟩:=bE.1 q;obtain⟨_,o,_,p1,_⟩:=pb k o2 q;rw[p1];simp
 have ye:Good E2 (yp ms C) w:=by
  refine⟨fun m o2 K=>?_,fun m m' b t t' jw K tP e1 e2=>g.inj m m' b t t' jw (VB m K).2 (Fp m' tP) e1 e2,g.qt,g.lj,fun b c q=>?_⟩
  . obtain⟨_,o,aj,p1,p2,p3⟩:=pb m o2 K;obtain⟨b,t,q1,q2⟩:=g.rel m o p1;exact⟨b,t,q1,Tt (E':=E2) hFz (fun _=>rfl) rfl qx o o2 aj p2 p3 q2⟩
  . have q:vS E iX w b=some c:=q;unfold vS at q;split at q
    . rename_i Kh;obtain⟨m,t,h1,h3⟩:=Kh;obtain⟨cs,qu⟩:=bI.1 h1;obtain⟨hms,o,k1,k2⟩:=XF m cs qu;refine⟨?_,fun m' t' tP e1=>?_⟩
      . split at q
        . rename_i c' el fz N;cases q;exact⟨el,fz,N⟩
        . cases q
      . obtain⟨hnm,hw'⟩:=VB m' tP;exact g.inj m m' b t t' (fun z=>hnm (z▸hms)) ⟨o,k1,Bx k2⟩ hw'.live h3 e1
    . exact⟨(g.jo b c q).1,fun m' t' tP=>(g.jo b c q).2 m' t' (VB m' tP).2⟩
 refine⟨E2,⟨ye,r.rD,fun t v2 hv=>?_,r.size,IA (E':=E2) hFz (fun _=>rfl) rfl qx _ _ _ _ DZ hC1 r.iE⟩,⟨fun m b t _ q=>⟨q,rfl⟩,fun _ _=>rfl,qx,ye,aK _,rfl,rfl,rfl,fun _ _ _=>rfl,fun m b t K q _=>⟨m,t,Fp m K,q,fun z=>(VB m z).2⟩,fun b c q=>?_⟩,hn,fun _=>rfl⟩
 . obtain⟨v,aj,q1,q2,q3⟩:=vD _ _ _ y9 t v2 hv;obtain⟨v',k1,k2⟩:=r.T t v q1;exact⟨v',k1,tB (E':=E2) hFz (fun _=>rfl) rfl qx _ _ _ _ q2 (fun x J=>hA1 x (q3 x J)) k2⟩
 . have q:vS E iX w b=some c:=q;unfold vS at q;split at q
   . rename_i Kh;obtain⟨m,t,h1,h3⟩:=Kh;obtain⟨cs,qu⟩:=bI.1 h1;obtain⟨_,o,k1,k2⟩:=XF m cs qu;exact .inr (.inr ⟨m,t,⟨o,k1,Bx k2⟩,h3⟩)
   . exact .inl q
theorem XG{P:Program}{X hc:Nat}{c:Code}{s s2:St}{fm:ah}{Q:Exit->St->Prop}(ms:List Nat)(e:Ts ms s=some (fm,s2))(hA:∀x∈fm,x)(h:TG P X hc c s2 Q):TG P X hc c s Q:=by
 intro E a w hm r hn k;obtain⟨E2,r2,u2,qX,_⟩:=vE e hA r hn;exact h E2 a w hm r2 qX fun y R E' a' w' q u od r'=>k y R E' a' w' q (u2.trans u) od r'
def EM(h:I es):List Nat->Option (I es)
 | []=>some h
 |m::r=>match h.get m with
  |some (.cells cs)=>match iJ cs with
   |some ds=>match Nat.blt m gy with
    |true=>EM (h.set m (some (.deep ds))) r
    |false=>none
   |none=>none
  |some (.own k ks)=>match Nat.blt m gy with
   |true=>EM (h.set m (some (.deep (ks.map (.int k))))) r
   |false=>none
  |_=>none
section
variable{E:Env}{w:World}{b s:Nat}
theorem pG{h:I es}{w:World}{m:Nat}{o o2:es}(ht:m<gy)(K:h.get m=some o)(hw:o.wr=true)(ho:∀b s,E.ι m=some (b,s)->nJ E w b s o->nJ E w b s o2)(g:Good E h w):
  Good E (h.set m (some o2)) w/\∀j,((h.set m (some o2)).get j≠none↔h.get j≠none)/\(ff (h.set m (some o2)) j->ff h j):=by
 have pb:∀j,(h.set m (some o2)).get j=if j=m then some o2 else h.get j:=fun j=>I.gw _ _ _ ht
 have Fp:∀j,((h.set m (some o2)).get j≠none↔h.get j≠none)/\(ff (h.set m (some o2)) j->ff h j):=by
  intro j;rw[pb];by_cases q:j=m
  . subst q;rw[aD rfl,K];exact⟨by simp,fun _=>⟨_,K,hw⟩⟩
  . rw[aA q];exact⟨Iff.rfl,fun z=>pQ ht z q⟩
 refine⟨⟨fun j o' hj=>?_,fun j j' b s R jw hj Bh e1 e2=>g.inj j j' b s R jw ((Fp j).2 hj) ((Fp j').1.1 Bh) e1 e2,g.qt,g.lj,fun b c q=>⟨g.fz b c q,fun m' s tP=>(g.jo b c q).2 m' s ((Fp m').2 tP)⟩⟩,Fp⟩;rw[pb]at hj;split at hj
 . rename_i q;subst q;obtain rfl:=eU hj;obtain⟨b,s,h1,C⟩:=g.rel j _ K;exact⟨b,s,h1,ho b s h1 C⟩
 . exact g.rel j o' hj
theorem Ki{cs:ag}{ds:ai}(hd:iJ cs=some ds)(r:nJ E w b s (.cells cs)):nJ E w b s (.deep ds):=by
 obtain⟨c,el,fz,h1,C,h3,h4⟩:=r;obtain⟨vs,k1,k2⟩:=rL.1 h4;exact⟨c,el,fz,vs,h1,C,h3,sR hd k1,k2⟩
theorem PJ{k:IntKind}{ks:List Int}(r:nJ E w b s (.own k ks)):nJ E w b s (.deep (ks.map (.int k))):=by
 obtain⟨c,el,fz,h1,C,h3,h4⟩:=r;have e:D.fU (ks.map (.int k))=ks.map (.int k):=by rw[D.gq,List.map_map];rfl
 obtain⟨vs,k1,k2⟩:=(nL (fun x J=>by obtain⟨_,_,rfl⟩:=bS.1 J;rfl)).1 (by rw[e];exact h4:l8 E s (D.fU (ks.map (.int k))) c);exact⟨c,el,fz,vs,h1,C,h3,k1,k2⟩
end
theorem qo{E:Env}{w:World}:∀(l:List Nat) (h C:I es),EM h l=some C->Good E h w->Good E C w/\∀m,(C.get m≠none↔h.get m≠none)/\(ff C m->ff h m)
 | [],h,C,e,g=>by simp only[EM,aq]at e;subst e;exact⟨g,fun m=>⟨Iff.rfl,id⟩⟩
 |m::r,h,C,e,g=>by
  unfold EM at e;split at e
  . rename_i cs K;split at e
    case h_2=>cases e
    rename_i ds hd;split at e
    case h_2=>cases e
    rename_i ht;obtain⟨g1,k1⟩:=pG (aE ht) K rfl (fun b s _ q=>Ki hd q) g;obtain⟨g2,k2⟩:=qo r _ C e g1;exact⟨g2,fun j=>⟨(k2 j).1.trans (k1 j).1,fun z=>(k1 j).2 ((k2 j).2 z)⟩⟩
  . rename_i k ks K;split at e
    case h_2=>cases e
    rename_i ht;obtain⟨g1,k1⟩:=pG (aE ht) K rfl (fun b s _ q=>PJ q) g;obtain⟨g2,k2⟩:=qo r _ C e g1;exact⟨g2,fun j=>⟨(k2 j).1.trans (k1 j).1,fun z=>(k1 j).2 ((k2 j).2 z)⟩⟩
  . cases e
def CS(l:List Nat)(s:St):Option St:=match EM s.h l with
 |some h=>some { s with h:=h }
 |none=>none
section
variable{P:Program}{X hc:Nat}{c:Code}{s:St}
theorem PK{C:I es}{Q:Exit->St->Prop}(hg:∀E w,Good E s.h w->Good E C w/\∀m,(C.get m≠none↔s.h.get m≠none)/\(ff C m->ff s.h m))(h:TG P X hc c { s with h:=C } Q):TG P X hc c s Q:=by
 intro E a w hm r hn k;obtain⟨g2,k2⟩:=hg E w r.good;have u:nk X E s.h w E C w:=⟨fun _ _ _ _ e=>⟨e,rfl⟩,fun _ _=>rfl,fun _ _ q=>q,g2,aK _,rfl,rfl,rfl,fun _ _ _=>rfl,fun m b s1 K e1 _=>⟨m,s1,(k2 m).1.1 K,e1,(k2 m).2⟩,fun _ _ q=>.inl q⟩;exact h E a w hm ⟨g2,r.rD,r.T,r.size,r.iE⟩ hn fun y R E' a' w' q u' od r'=>k y R E' a' w' q (u.trans u') od r'
theorem Tv{s2:St}{Q:Exit->St->Prop}(l:List Nat)(e:CS l s=some s2)(h:TG P X hc c s2 Q):TG P X hc c s Q:=by
 unfold CS at e;split at e
 case h_2=>cases e
 rename_i C hh;obtain rfl:=eU e;exact PK (fun E w g=>qo l s.h C hh g) h
end
theorem Nl{E:Env}{w:World}{b s:Nat}{c:Nat}(kd:Option IntKind)(r:nJ E w b s (.map [] c)):nJ E w b s (.gM kd []):=by
 obtain⟨hs,fS,h1,C⟩:=r;have:fS.toList=[]:=C;refine⟨hs,fS,c,h1,⟨⟨[],.refl _,by rw[this];rfl⟩,by simp,by simp,by rw[this];simp,by rw[this];simp⟩⟩
def PL(h:I es):List (Nat×Option IntKind)->Option (I es)
 | []=>some h
 |(m,kd)::r=>match h.get m with
  |some (.map [] _)=>match Nat.blt m gy with
   |true=>PL (h.set m (some (.gM kd []))) r
   |false=>none
  |_=>none
theorem EN{E:Env}{w:World}:∀(l:List (Nat×Option IntKind)) (h C:I es),PL h l=some C->Good E h w->Good E C w/\∀m,(C.get m≠none↔h.get m≠none)/\(ff C m->ff h m)
 | [],h,C,e,g=>by simp only[PL,aq]at e;subst e;exact⟨g,fun m=>⟨Iff.rfl,id⟩⟩
 |(m,kd)::r,h,C,e,g=>by
  unfold PL at e;split at e
  case h_2=>cases e
  rename_i c K;split at e
  case h_2=>cases e
  rename_i ht;obtain⟨g1,k1⟩:=pG (aE ht) K rfl (fun b s _ q=>Nl kd q) g;obtain⟨g2,k2⟩:=EN r _ C e g1;exact⟨g2,fun j=>⟨(k2 j).1.trans (k1 j).1,fun z=>(k1 j).2 ((k2 j).2 z)⟩⟩
def XI(l:List (Nat×Option IntKind))(s:St):Option St:=match PL s.h l with
 |some h=>some { s with h:=h }
 |none=>none
theorem XJ{P:Program}{X hc:Nat}{c:Code}{s s2:St}{Q:Exit->St->Prop}(l:List (Nat×Option IntKind))(e:XI l s=some s2)(h:TG P X hc c s2 Q):TG P X hc c s Q:=by
 unfold XI at e;split at e
 case h_2=>cases e
 rename_i C hh;obtain rfl:=eU e;exact PK (fun E w g=>EN l s.h C hh g) h
def Nn:List (List Nat)->St->Option (ah×St)
 | [],s=>some ([],s)
 |ms::r,s=>match Ts ms s with
  |some (fm,s)=>match Nn r s with
   |some (aj,s)=>some (fm++aj,s)
   |none=>none
  |none=>none
theorem CT{X hc:Nat}{w:World}{a:Act}:∀(l:List (List Nat)) {s s2:St} {fm:ah} {E:Env},Nn l s=some (fm,s2)->(∀x∈fm,x)->lq E hc s a w->X<=s.n->
  ∃E2,lq E2 hc s2 a w/\nk X E s.h w E2 s2.h w/\X<=s2.n/\(∀m,E2.ι m=E.ι m)
 | [],s,s2,fm,E,e,_,r,hn=>by
   simp only[Nn,aq,aB]at e;obtain⟨rfl,rfl⟩:=e;exact⟨E,r,.refl r.good,hn,fun _=>rfl⟩
 |ms::l,s,s2,fm,E,e,hA,r,hn=>by
  simp only[Nn]at e;split at e
  case h_2=>cases e
  rename_i A1 s1 h1;split at e
  case h_2=>cases e
  rename_i B1 s3 h3;obtain⟨rfl,rfl⟩:=gl e;obtain⟨E1,r1,u1,n1,i1⟩:=vE h1 (fun x J=>hA x (by simp[J])) r hn;obtain⟨E2,r2,u2,n2,i2⟩:=CT l h3 (fun x J=>hA x (by simp[J])) r1 n1;exact⟨E2,r2,u1.trans u2,n2,fun m=>(i2 m).trans (i1 m)⟩
def PM(v:V)(u:V)(h:I es)(n:Nat):Prop:=∃l fm s2,Nn l { T:=I.nil.set 0 (some u),h:=h,n:=n,iE:=[] }=some (fm,s2)/\(∀a∈fm,a)/\s2.T.get 0=some v
theorem PM.self{v:V}{h:I es}{n:Nat}:PM v v h n:=⟨[],[],_,rfl,by simp,I.o9 _ _ eX⟩
theorem CU{E E1:Env}{h h0 h':I es}{n n':Nat}{w w':World}{u v:V}{en:Ending}(g:Good E h w)(hd:qy E n)(kT:E1.φ=E.φ)(XA:∀m,¬ff h0 m)(hv:v.deep=true)(hz:PM v u h' n')
  (c:jj E1 h0 gN w (.ret u) h' n' en w'):jj E h n w (.ret v) h n en w':=by
 obtain⟨E2,u2,_,p9,hn,ho⟩:=c;cases en with
 |returned x=>
  have ho:eB E2 u x:=ho;obtain⟨l,fm,s2,e1,hA,e2⟩:=hz;have sr:lq E2 1 { T:=I.nil.set 0 (some u),h:=h',n:=n',iE:=[] } { tmps:=#[x],defers:=[] } w':=by
   refine⟨u2.good,p9,fun t y hy=>?_,rfl,rfl⟩;rw[I.gw _ _ _ eX]at hy;split at hy
   . rename_i q;subst q;cases hy;exact⟨x,rfl,ho⟩
   . simp[I.get]at hy
  obtain⟨E3,r3,u3,_,_⟩:=CT (X:=0) l e1 hA sr (aN _);obtain⟨x',q1,q2⟩:=r3.T 0 v e2;simp only[List.getElem?_toArray,cK,aq]at q1;subst q1;have VZ:∀b,b<w.heap.size->w'.heap[b]? =w.heap[b]?:=fun b Y=>u2.keep b Y fun m s K=>absurd K (XA m);have bl:Below w.heap.size w w':=⟨u2.os,u2.tape,u2.output,u2.size,VZ⟩;have gb:=g.below bl;have Pp:∀b c,E3.φ b=some c->E.φ b=some c\/w.heap.size<=b:=by
   intro b c q;have k3:∀m s,ff h' m->E2.ι m=some (b,s)->w.heap.size<=b:=by
    intro m s K e;rcases bj b w.heap.size with z|z
    . obtain⟨m0,s0,_,_,k0⟩:=u2.vN m b s K.live e z;exact absurd (k0 K) (XA m0)
    . exact z
   rcases u3.Fm b c q with q|q|⟨m,s,p1,p2⟩
   . rcases u2.Fm b c q with q|q|⟨m,s,p1,p2⟩
     . exact .inl (kT▸q)
     . exact .inr q
     . exact absurd p1 (XA m)
   . exact .inr (bH u2.size q)
   . exact .inr (k3 m s p1 p2)
  have VI:∀b c,E.φ b=some c->E3.φ b=some c:=fun b c q=>u3.fz b c (u2.le.fz b c (kT▸q))
  let E':Env:=⟨E.ι,E.β,E3.φ⟩
  have mg:E.le E':=⟨fun m b s q=>⟨q,rfl⟩,VI⟩;have acT:Good E' h w':=by
   refine⟨fun m o K=>?_,gb.inj,gb.qt,gb.lj,fun b c q=>⟨r3.good.fz b c q,fun m s K e=>?_⟩⟩
   . obtain⟨b,s,k1,k2⟩:=gb.rel m o K;exact⟨b,s,k1,jG mg rfl rfl k2⟩
   . rcases Pp b c q with z|z
     . exact(g.jo b c z).2 m s K e
     . have:=g.qt m b s e;omega
  refine⟨E',⟨mg,acT,u2.size,u2.tape,u2.os,u2.output,fun b Y _=>VZ b Y,fun m b s K e _=>⟨m,s,K,e,id⟩,fun b c q=>?_⟩,fun _ _=>rfl,hd,aK _,(CO (E:=E3) (E':=E') (fun _ _ q=>q) v x hv q2:eB E' v x)⟩;rcases Pp b c q with z|z
  . exact .inl z
  . exact .inr (.inl z)
 |_=>exact ho.elim
def dV(P:Program)(f:FuncId)(args:ag)(v:V):Prop:=∀E h n w dQ,eC E args dQ->Good E h w->qy E n->Calls P f dQ.toArray w (jj E h n w (.ret v) h n)
theorem Kj{P:Program}(K:P.follows .mixedOrders=true)(sJ:jT P=true){f:FuncId}{fn:Func}{code:Code}(hf:P.funcs[f]? =some fn)(Y:fn.body=some code){args:ag}
  (l:(Nat.ble args.length fn.ntmps&&Nat.blt fn.ntmps gy)=true) {v:V} (Tw:V.qn args=true) (hv:v.deep=true) (hT:TG P gN fn.ntmps code (dB args .nil gN) (fV P gN fn (PM v))):dV P f args v:=by
 intro E h n w dQ ra g hd;have g0:Good (Bf E.φ) .nil w:=wZ g.wg g.fz;have ra0:eC (Bf E.φ) args dQ:=lN (E:=E) (E':=Bf E.φ) (fun _ _ q=>q) _ _ Tw ra;exact(qH K sJ hf Y l _ hT ra0 g0 (CD (aK _))).mono fun e w' ⟨u,h',n',hz,k⟩=>CU (E1:=Bf E.φ) g hd rfl xb hv hz k
def EO:ag->Option (ai)
 | []=>some []
 |x::xs=>match V.Jz x with
  |some d=>match EO xs with
   |some l=>some (d::l)
   |none=>none
  |none=>none
theorem zN{E:Env}:∀{xs:ag} {ds:ai},EO xs=some ds->∀{l:List Value},eC E xs l->eC E (ds.map D.kH) l
 | [],ds,h,l,r=>by simp only[EO,aq]at h;subst h;exact r
 |x::xs,ds,h,l,r=>by
  simp only[EO]at h;split at h
  case h_2=>cases h
  rename_i d hd;split at h
  case h_2=>cases h
  rename_i l' hl;obtain rfl:=eU h;obtain⟨y,ys,r0,rs,rfl⟩:=r;exact⟨y,ys,rI _ _ (xM hd r0).1,zN hl rs,rfl⟩
mutual
theorem PN:∀d:D,d.kH.deep=true
 | .bool _=>rfl
 | .int _ _=>rfl
 | .str _=>rfl
 | .eE _ _=>rfl
 | .agg cs=>by simp only[D.kH,V.deep];exact zO cs
theorem zO:∀l:ai,V.qn (D.fU l)=true
 | []=>rfl
 |x::xs=>by simp only[D.fU,V.qn,PN x,zO xs,Bool.and_self]
end
theorem PO(l:ai):V.qn (l.map D.kH)=true:=by rw[<- D.gq];exact zO l
def dW(f:ai->Option (ah×V)):ag->I es->Nat->Option (ah×V×I es×Nat):=fun args h n=>match EO args with
 |some ds=>match f ds with
  |some (fm,v)=>some (fm,v,h,n)
  |none=>none
 |none=>none
theorem PR{P:Program}{f:FuncId}{spec:ai->Option (ah×V)}(eY:f<P.funcs.size)(h:∀args fm v,spec args=some (fm,v)->(∀a∈fm,a)->dV P f (args.map D.kH) v):kj P f (dW spec):=by
 refine⟨eY,fun args h' n fm v C n2 e hA E w dQ ra g hd N=>?_⟩;unfold dW at e;split at e
 . rename_i ds hds;split at e
   . rename_i A' v' hs;simp only[aq,aB]at e;obtain⟨rfl,rfl,rfl,rfl⟩:=e;exact h ds _ _ hs hA E h' n w dQ (zN hds ra) g hd
   . cases e
 . cases e
def Env.pick(E:Env)(ns:List (Option Nat)):Env:=⟨fun j=>match ns.getD j none with
 |some m=>E.ι m
 |none=>none,E.β,E.φ⟩
theorem mq{E:Env}{ns:List (Option Nat)}{j m:Nat}(h:ns.getD j none=some m):(E.pick ns).ι j=E.ι m:=by
 show(match ns.getD j none with|some m=>E.ι m|none=>none)=_;rw[h]
def PS:List (Option Nat)->Nat->Nat->Option Nat
 | [],_,_=>none
 |none::r,j,m=>PS r (j+1) m
 |some k::r,j,m=>match Nat.beq k m with
  |true=>some j
  |false=>PS r (j+1) m
theorem zP:∀(l:List (Option Nat)) (j m k:Nat),PS l j m=some k->j<=k/\l.getD (k-j) none=some m
 | [],_,_,_,h=>by cases h
 |none::r,j,m,k,h=>by
  obtain⟨h1,C⟩:=zP r (j+1) m k h;refine⟨S,?_⟩;rw[show k-j=(k-(j+1))+1 by omega];simpa using C
 |some x::r,j,m,k,h=>by
  simp only[PS]at h;split at h
  . rename_i Y;obtain rfl:=eU h;refine⟨aK _,?_⟩;simp[aJ Y]
  . obtain⟨h1,C⟩:=zP r (j+1) m k h;refine⟨S,?_⟩;rw[show k-j=(k-(j+1))+1 by omega];simpa using C
abbrev mu(ns:List (Option Nat)):Nat->Option Nat:=PS ns 0
theorem Tx{ns:List (Option Nat)}{m k:Nat}(h:mu ns m=some k):ns.getD k none=some m:=by
 have:=(zP ns 0 m k h).2;simpa using this
theorem PT{E:Env}{ns:List (Option Nat)}:∀m k,mu ns m=some k->(E.pick ns).ι k=E.ι m:=fun _ _ h=>mq (Tx h)
def zQ:List (Option Nat)->Bool
 | []=>true
 |none::r=>zQ r
 |some k::r=>!(r.any fun x=>match x with|some j=>Nat.beq k j|none=>false)&&zQ r
theorem u0:∀{l:List (Option Nat)},zQ l=true->∀i j m,l.getD i none=some m->l.getD j none=some m->i=j
 | [],_,i,_,_,h,_=>by simp at h
 |none::r,h,i,j,m,h1,C=>by
  cases i with
  |zero=>simp at h1
  |succ i=>cases j with
   |zero=>simp at C
   |succ j=>rw[u0 (l:=r) h i j m (by simpa using h1) (by simpa using C)]
 |some k::r,h,i,j,m,h1,C=>by
  simp only[zQ,ay,bV]at h;have no:∀q,r.getD q none≠some k:=by
   intro q hq;have K:some k∈r:=by
    rw[ax]at hq;cases J:r[q]? with
    |none=>rw[J]at hq;cases hq
    |some x=>rw[J]at hq;simp only[cq]at hq;subst hq;exact List.mem_of_getElem? J
   have:(r.any fun x=>match x with|some j=>Nat.beq k j|none=>false)=true:=List.any_eq_true.2 ⟨_,K,Nat.beq_refl k⟩;rw[this]at h;cases h.1
  cases i with
  |zero=>
   simp at h1;subst h1;cases j with
   |zero=>rfl
   |succ j=>exact absurd (by simpa using C) (no j)
  |succ i=>cases j with
   |zero=>simp at C;subst C;exact absurd (by simpa using h1) (no i)
   |succ j=>rw[u0 h.2 i j m (by simpa using h1) (by simpa using C)]
structure F0(ns:List (Option Nat))(h h1:I es):Prop where
 lj:∀p∈uc,ns.getD p.2 none=some p.2
 one:zQ ns=true
 live:∀j m,ns.getD j none=some m->(∃p∈uc,p.2=m)\/h.get m≠none
 get:∀j o1,h1.get j=some o1->∃m o,ns.getD j none=some m/\h.get m=some o/\o.rn (mu ns)=some o1
theorem LM{E:Env}{h h1:I es}{w:World}{ns:List (Option Nat)}(g:Good E h w)(k:F0 ns h h1):Good (E.pick ns) h1 w/\qy (E.pick ns) ns.length:=by
 have hw:∀j,ff h1 j->∃m,ns.getD j none=some m/\ff h m:=by
  rintro j ⟨o1,C,h3⟩;obtain⟨m,o,q1,q2,q3⟩:=k.get j o1 C;exact⟨m,q1,o,q2,(Ij q3).symm.trans h3⟩
 refine⟨⟨fun j o1 hj=>?_,fun j j' b s R jw hj Bh e1 e2=>?_,fun j b s e=>?_,fun p hp=>?_,fun b c q=>⟨g.fz b c q,fun j s hj e=>?_⟩⟩,fun j hj=>?_⟩
 . obtain⟨m,o,q1,q2,q3⟩:=k.get j o1 hj;obtain⟨b,s,e1,e2⟩:=g.rel m o q2;exact⟨b,s,(mq q1).trans e1,FK (E':=E.pick ns) PT (fun _ _ _ _ _ _=>rfl) (fun _ _ q=>q) rfl o o1 q3 e2⟩
 . obtain⟨m,q1,q2⟩:=hw j hj;obtain⟨o',Bh⟩:=bE.1 Bh;obtain⟨m',o,p1,p2,_⟩:=k.get j' o' Bh;rw[mq q1]at e1;rw[mq p1]at e2;by_cases K:m=m'
   . subst K;exact jw (u0 k.one j j' m q1 p1)
   . exact g.inj m m' b s R K q2 (by rw[p2];simp) e1 e2
 . have e:(match ns.getD j none with|some m=>E.ι m|none=>none)=some (b,s):=e;split at e
   . exact g.qt _ b s e
   . cases e
 . rw[mq (k.lj p hp)];exact g.lj p hp
 . obtain⟨m,q1,q2⟩:=hw j hj;rw[mq q1]at e;exact(g.jo b c q).2 m s q2 e
 . show(match ns.getD j none with|some m=>E.ι m|none=>none)=none;rw[ax,ct (show ns.length<=j from hj)];rfl
def V0(ns:List (Option Nat))(oF:I es)(X n m:Nat):Option Nat:=match Nat.blt m X with
 |true=>ns.getD m none
 |false=>match oF.get m with
  |some o=>match o.wr with
   |true=>some (n+(m-X))
   |false=>none
  |none=>none
def CV(ν:Nat->Option Nat)(ns:List (Option Nat))(h1 oF:I es):Nat->Nat->I es->Option (I es)
 |0,_,h=>some h
 |i+1,q,h=>match h1.get q with
  |some o0=>match o0.wr with
   |true=>match ns.getD q none with
    |some m=>match Nat.blt m gy with
     |true=>match oF.get q with
      |some o=>match o.wr with
       |true=>match o.rn ν with
        |some o2=>CV ν ns h1 oF i (q+1) (h.set m (some o2))
        |none=>none
       |false=>none
      |none=>CV ν ns h1 oF i (q+1) (h.set m none)
     |false=>none
    |none=>none
   |false=>CV ν ns h1 oF i (q+1) h
  |none=>CV ν ns h1 oF i (q+1) h
def No(ν:Nat->Option Nat)(h1:I es):Nat->Nat->I es->Option (I es)
 |0,_,h=>some h
 |i+1,j,h=>match ν j with
  |none=>No ν h1 i (j+1) h
  |some k=>match h1.get j with
   |some o=>match o.rn ν with
    |some o2=>match Nat.blt k gy with
     |true=>No ν h1 i (j+1) (h.set k (some o2))
     |false=>none
    |none=>none
   |none=>none
def PU(ns:List (Option Nat))(h1:I es)(r:V×I es×Nat)(h:I es)(n:Nat):Option (V×I es×Nat):=
 match r.1.rn (V0 ns r.2.1 ns.length n)with
 |some v=>match CV (V0 ns r.2.1 ns.length n) ns h1 r.2.1 ns.length 0 h with
  |some C=>match No (V0 ns r.2.1 ns.length n) r.2.1 (r.2.2-ns.length) ns.length C with
   |some h3=>some (v,h3,n+(r.2.2-ns.length))
   |none=>none
  |none=>none
 |none=>none
theorem vG{ν:Nat->Option Nat}{ns:List (Option Nat)}{h1 oF:I es}:∀(i q:Nat) (h C:I es),CV ν ns h1 oF i q h=some C->∀m o,C.get m=some o->
  (h.get m=some o/\∀p,q<=p->p<q+i->ff h1 p->ns.getD p none≠some m)\/∃p,q<=p/\p<q+i/\ff h1 p/\ns.getD p none=some m/\∃o1,oF.get p=some o1/\o1.wr=true/\o1.rn ν=some o
 |0,q,h,C,e,m,o,K=>by simp only[CV,aq]at e;subst e;exact .inl ⟨K,fun p h1 C=>by omega⟩
 |i+1,q,h,C,e,m,o,K=>by
  simp only[CV]at e;have skip:(¬ff h1 q)->CV ν ns h1 oF i (q+1) h=some C->_:=fun hq e=>vG i (q+1) h C e m o K;have pX:∀(h':I es) (x:Option es) (m0:Nat),m0<gy->h'=h.set m0 x->ff h1 q->ns.getD q none=some m0->(∀y,x=some y->∃o1,oF.get q=some o1/\o1.wr=true/\o1.rn ν=some y)->CV ν ns h1 oF i (q+1) h'=some C->
    (h.get m=some o/\∀p,q<=p->p<q+(i+1)->ff h1 p->ns.getD p none≠some m)\/∃p,q<=p/\p<q+(i+1)/\ff h1 p/\ns.getD p none=some m/\∃o1,oF.get p=some o1/\o1.wr=true/\o1.rn ν=some o:=by
   intro h' x m0 ht hh hw Jq J e;rcases vG i (q+1) h' C e m o K with⟨k1,k2⟩|⟨p,k1,k2,k3⟩
   . rw[hh,I.gw _ _ _ ht]at k1;split at k1
     . rename_i z;subst z;exact .inr ⟨q,aK _,S,hw,Jq,J o k1⟩
     . rename_i z;refine .inl ⟨k1,fun p p1 p2 p3=>?_⟩;rcases Nat.eq_or_lt_of_le p1 with rfl|p1
       . rw[Jq];intro c;cases c;exact z rfl
       . exact k2 p p1 S p3
   . exact .inr ⟨p,S,S,k3⟩
  have acV:(¬ff h1 q)->CV ν ns h1 oF i (q+1) h=some C->
    (h.get m=some o/\∀p,q<=p->p<q+(i+1)->ff h1 p->ns.getD p none≠some m)\/∃p,q<=p/\p<q+(i+1)/\ff h1 p/\ns.getD p none=some m/\∃o1,oF.get p=some o1/\o1.wr=true/\o1.rn ν=some o:=by
   intro hq e;rcases vG i (q+1) h C e m o K with⟨k1,k2⟩|⟨p,k1,k2,k3⟩
   . refine .inl ⟨k1,fun p p1 p2 p3=>?_⟩;rcases Nat.eq_or_lt_of_le p1 with rfl|p1
     . exact absurd p3 hq
     . exact k2 p p1 S p3
   . exact .inr ⟨p,S,S,k3⟩
  split at e
  . rename_i o0 ho0;split at e
    . rename_i hw0;split at e
      case h_2=>cases e
      rename_i m0 Jq;split at e
      case h_2=>cases e
      rename_i ht;have ht:=aE ht;split at e
      . rename_i o1 ho1;split at e
        case h_2=>cases e
        rename_i JJ;split at e
        case h_2=>cases e
        rename_i o2 Pc;exact pX _ (some o2) m0 ht rfl ⟨o0,ho0,hw0⟩ Jq (fun y hy=>by cases hy;exact⟨o1,ho1,JJ,Pc⟩) e
      . exact pX _ none m0 ht rfl ⟨o0,ho0,hw0⟩ Jq (fun y hy=>by cases hy) e
    . rename_i hw0;exact acV (fun⟨o,q1,q2⟩=>by rw[ho0]at q1;cases q1;rw[hw0]at q2;cases q2) e
  . rename_i ho0;exact acV (fun⟨o,q1,q2⟩=>by rw[ho0]at q1;cases q1) e
theorem zR{ν:Nat->Option Nat}{h1:I es}:∀(i j:Nat) (h C:I es),No ν h1 i j h=some C->∀m o,C.get m=some o->h.get m=some o\/∃q,j<=q/\q<j+i/\ν q=some m/\∃o1,h1.get q=some o1/\o1.rn ν=some o
 |0,j,h,C,e,m,o,K=>by simp only[No,aq]at e;subst e;exact .inl K
 |i+1,j,h,C,e,m,o,K=>by
  simp only[No]at e;split at e
  . rcases zR i (j+1) h C e m o K with q|⟨q,q1,q2,q3⟩
    . exact .inl q
    . exact .inr ⟨q,S,S,q3⟩
  . rename_i k U;split at e
    case h_2=>cases e
    rename_i o1 ho;split at e
    case h_2=>cases e
    rename_i o2 Pc;split at e
    case h_2=>cases e
    rename_i ht;rcases zR i (j+1) _ C e m o K with q|⟨q,q1,q2,q3⟩
    . rw[I.gw _ _ _ (show k<gy from aE ht)]at q;split at q
      . rename_i z;subst z;obtain rfl:=eU q;exact .inr ⟨j,aK _,S,U,o1,ho,Pc⟩
      . exact .inl q
    . exact .inr ⟨q,S,S,q3⟩
theorem LN{E:Env}{h h1:I es}{n:Nat}{w:World}{ns:List (Option Nat)}{r:V×I es×Nat}{v:V}{C:I es}{n2:Nat}(g:Good E h w)(hd:qy E n)(k0:F0 ns h h1)
  (he:PU ns h1 r h n=some (v,C,n2)) {en:Ending} {w':World} (c:jj (E.pick ns) h1 ns.length w (.ret r.1) r.2.1 r.2.2 en w'):jj E h n w (.ret v) C n2 en w':=by
 obtain⟨v1,oF,Kk⟩:=r;obtain⟨E2,u,fT,p9,hn,ho⟩:=c;simp only at u p9 hn ho;unfold PU at he;simp only at he;split at he
 case h_2=>cases he
 rename_i v' hv;split at he
 case h_2=>cases he
 rename_i hL' hhL;split at he
 case h_2=>cases he
 rename_i hH' hhH;simp only[aq,aB]at he;obtain⟨rfl,rfl,rfl⟩:=he;generalize SX:ns.length=X at *
 let ν:=V0 ns oF X n
 have XK:∀m k,m<X->ν m=some k->ns.getD m none=some k:=by
  intro m k K U;have Y:Nat.blt m X=true:=Nat.ble_eq_true_of_le K;simp only[ν,V0,Y]at U;exact U
 have F1:∀m k,X<=m->ν m=some k->k=n+(m-X)/\ff oF m:=by
  intro m k K U;have Y:Nat.blt m X=false:=by
   cases q:Nat.blt m X with
   |false=>rfl
   |true=>exact absurd (aE q) (Nat.not_lt.2 K)
  simp only[ν,V0,Y]at U;split at U
  . rename_i o ho1;split at U
    . rename_i hw;simp only[aq]at U;exact⟨U.symm,o,ho1,hw⟩
    . cases U
  . cases U
 have pre:∀j,ff h1 j->∃m,ns.getD j none=some m/\ff h m:=by
  rintro j ⟨o1,q2,q3⟩;obtain⟨m,o,p1,p2,p3⟩:=k0.get j o1 q2;exact⟨m,p1,o,p2,(Ij p3).symm.trans q3⟩
 have ajB:∀j,h1.get j≠none->∃m,ns.getD j none=some m/\h.get m≠none:=by
  intro j hj;obtain⟨o1,q2⟩:=bE.1 hj;obtain⟨m,o,p1,p2,_⟩:=k0.get j o1 q2;exact⟨m,p1,by rw[p2];simp⟩
 have old:∀j b s,oF.get j≠none->E2.ι j=some (b,s)->b<w.heap.size->∃m s0,h.get m≠none/\E.ι m=some (b,s0)/\(∃j0,ns.getD j0 none=some m/\j0<X/\(ff oF j->ff h1 j0))/\(ff oF j->ff h m):=by
  intro j b s hj e Y;obtain⟨j0,s0,q1,q2,q3⟩:=u.vN j b s hj e Y;obtain⟨m,p1,p2⟩:=ajB j0 q1;have hj0:j0<X:=by
   rcases bj j0 X with z|z
   . exact z
   . rw[ax,ct S]at p1;cases p1
  refine⟨m,s0,p2,by rw[<- mq p1];exact q2,⟨j0,p1,hj0,q3⟩,fun z=>?_⟩;obtain⟨m',p3,p4⟩:=pre j0 (q3 z);rw[p1]at p3;cases p3;exact p4
 let E':Env:=⟨fun m=>if m<n then E.ι m else(match ν (X+(m-n))with|some _=>E2.ι (X+(m-n))|none=>none),fun b=>if b<w.heap.size then E.β b else E2.β b,E2.φ⟩
 have wv:∀m,m<n->E'.ι m=E.ι m:=fun m K=>aD K;have acW:∀j k,X<=j->ν j=some k->E'.ι k=E2.ι j:=by
  intro j k hj U;obtain⟨rfl,_⟩:=F1 j k hj U;show(if n+(j-X)<n then _ else _)=_;rw[aA S];have:X+(n+(j-X)-n)=j:=by omega
  rw[this,U]
 have acX:∀m k,m<X->ns.getD m none=some k->E2.ι m=E.ι k:=fun m k K U=>(fT m K).trans (mq U);have hkn:∀k,E.ι k≠none->k<n:=fun k e=>by
  rcases bj k n with q|q
  . exact q
  . exact absurd (hd k q) e
 have jz:∀m k,ν m=some k->E'.ι k=E2.ι m:=by
  intro m k U;by_cases K:m<X
  . have Jq:=XK m k K U;rw[acX m k K Jq];by_cases HM:k<n
    . exact wv k HM
    . exact absurd (hkn k (by
       rcases k0.live m k Jq with⟨p,hp,rfl⟩|q
       . rw[g.lj p hp];simp
       . obtain⟨o,q⟩:=bE.1 q;obtain⟨b,s,e,_⟩:=g.rel k o q;rw[e];simp)) HM
  . exact acW m k (Nat.le_of_not_lt K) U
 have mg:E.le E':=by
  refine⟨fun m b s e=>?_,fun b c q=>u.le.fz b c q⟩;exact⟨(wv m (hkn m (by rw[e];simp))).trans e,aD (g.qt m b s e)⟩
 have XL:qy E' (n+(Kk-X)):=by
  intro m K;have K:n+(Kk-X)<=m:=K;show(if m<n then _ else _)=none;rw[aA S];split
  . exact p9 _ (by show Kk<=_;omega)
  . rfl
 have XM:∀m k b s,ν m=some k->E2.ι m=some (b,s)->E'.β b=E2.β b:=by
  intro m k b s U e;show(if b<w.heap.size then E.β b else E2.β b)=_;split
  . rename_i Y;by_cases K:m<X
    . have e1:(E.pick ns).ι m=some (b,s):=by rw[<- fT m K];exact e
      exact(u.le.nm m b s e1).2.symm
    . obtain⟨_,hw⟩:=F1 m k (Nat.le_of_not_lt K) U;obtain⟨j0,s0,q1,q2,_⟩:=u.vN m b s hw.live e Y;exact(u.le.nm j0 b s0 q2).2.symm
  . rfl
 have tV:∀m o,hH'.get m=some o->(h.get m=some o/\m<n/\∀p,ff h1 p->ns.getD p none≠some m)\/(∃q,ν q=some m/\ff oF q/\(q<X->ff h1 q)/\∃o1,oF.get q=some o1/\o1.rn ν=some o):=by
  intro m o K;rcases zR _ _ _ _ hhH m o K with q|⟨q,q1,q2,q3,q4⟩
  . rcases vG _ _ _ _ hhL m o q with⟨k1,k2⟩|⟨p,k1,k2,k3,k4,o1,k5,k6,k7⟩
    . refine .inl ⟨k1,?_,fun p hp Jq=>?_⟩
      . obtain⟨b,s,e,_⟩:=g.rel m o k1;exact hkn m (by rw[e];simp)
      . have hp0:p<X:=by
         rcases bj p X with z|z
         . exact z
         . rw[ax,ct S]at Jq;cases Jq
        exact k2 p (aN _) S hp Jq
    . have hp0:p<X:=by omega
      refine .inr ⟨p,?_,⟨o1,k5,k6⟩,fun _=>k3,o1,k5,k7⟩;have Y:Nat.blt p X=true:=Nat.ble_eq_true_of_le hp0;show V0 ns oF X n p=some m;simp only[V0,Y];exact k4
  . obtain⟨o1,p1,p2⟩:=q4;exact .inr ⟨q,q3,(F1 q m q1 q3).2,fun z=>absurd z (Nat.not_lt.2 q1),o1,p1,p2⟩
 have keep:∀m o,h.get m=some o->(∀p,ff h1 p->ns.getD p none≠some m)->∀b s,E.ι m=some (b,s)->w'.heap[b]? =w.heap[b]?:=by
  intro m o K hp b s e;refine u.keep b (g.qt m b s e) fun j t hj e2=>?_;obtain⟨m',p1,p2⟩:=pre j hj;rw[mq p1]at e2;exact g.inj m' m b t s (fun z=>hp j hj (z▸p1)) p2 (by rw[K];simp) e2 e
 have ye:Good E' hH' w':=by
  refine⟨?_,?_,?_,g.lj.mono mg,fun b c q=>⟨u.good.fz b c q,?_⟩⟩
  . intro m o K;rcases tV m o K with⟨h0,VA,hp⟩|⟨q,q1,_,_,o1,q3,q4⟩
    . obtain⟨b,s,e1,e2⟩:=g.rel m o h0;exact⟨b,s,(mg.nm m b s e1).1,jG mg (mg.nm m b s e1).2 (keep m o h0 hp b s e1) e2⟩
    . obtain⟨b,s,e1,e2⟩:=u.good.rel q o1 q3;exact⟨b,s,(jz q m q1).trans e1,FK (E':=E') jz XM (fun _ _ q=>q) (XM q m b s q1 e1) o1 o q4 e2⟩
  . rintro m m' b s R jw ⟨o,K,hw⟩ tP e1 e2;obtain⟨o',tP⟩:=bE.1 tP;rcases tV m o K with⟨h0,VA,hp⟩|⟨q,q1,q2,q5,o1,q3,q4⟩<;>rcases tV m' o' tP with⟨h0',acY,hp'⟩|⟨q',q1',q2',q5',o1',q3',q4'⟩
    . rw[wv m VA]at e1;rw[wv m' acY]at e2;exact g.inj m m' b s R jw ⟨o,h0,hw⟩ (by rw[h0'];simp) e1 e2
    . rw[wv m VA]at e1;rw[jz q' m' q1']at e2;obtain⟨mm,s0,k1,k2,⟨j0,k3,_,k5⟩,k4⟩:=old q' b R q2'.live e2 (g.qt m b s e1);exact g.inj m mm b s s0 (fun z=>hp j0 (k5 q2') (z▸k3)) ⟨o,h0,hw⟩ k1 e1 k2
    . rw[wv m' acY]at e2;rw[jz q m q1]at e1;obtain⟨mm,s0,k1,k2,⟨j0,k3,_,k5⟩,k4⟩:=old q b s q2.live e1 (g.qt m' b R e2);exact g.inj mm m' b s0 R (fun z=>hp' j0 (k5 q2) (z▸k3)) (k4 q2) (by rw[h0'];simp) k2 e2
    . rw[jz q m q1]at e1;rw[jz q' m' q1']at e2;exact u.good.inj q q' b s R (fun z=>jw (by subst z;rw[q1]at q1';exact dn q1')) q2 q2'.live e1 e2
  . intro m b s e;by_cases K:m<n
    . rw[wv m K]at e;exact cG (g.qt m b s e) u.size
    . have e:(if m<n then E.ι m else(match ν (X+(m-n))with|some _=>E2.ι (X+(m-n))|none=>none))=some (b,s):=e;rw[aA K]at e;split at e
      . exact u.good.qt _ b s e
      . cases e
  . rintro m s ⟨o,K,hw⟩ e;rcases tV m o K with⟨h0,VA,hp⟩|⟨q',q1,q2,_⟩
    . rw[wv m VA]at e;rcases u.Fm b c q with z|z|⟨j,t,z1,z2⟩
      . exact(g.jo b c z).2 m s ⟨o,h0,hw⟩ e
      . have:=g.qt m b s e;omega
      . obtain⟨m',p1,p2⟩:=pre j z1;rw[mq p1]at z2;exact g.inj m m' b s t (fun z=>hp j z1 (z▸p1)) ⟨o,h0,hw⟩ p2.live e z2
    . rw[jz q' m q1]at e;exact(u.good.jo b c q).2 q' s q2 e
 refine⟨E',⟨mg,ye,u.size,u.tape,u.os,u.output,fun b Y Aw=>?_,?_,fun b c q=>?_⟩,fun m K=>wv m K,XL,Nat.le_add_right _ _,?_⟩
 . refine u.keep b Y fun j t hj e=>?_;obtain⟨m',p1,p2⟩:=pre j hj;rw[mq p1]at e;exact Aw m' t p2 e
 . intro m b s K e Y;obtain⟨o,K⟩:=bE.1 K;rcases tV m o K with⟨h0,VA,hp⟩|⟨q,q1,q2,_⟩
   . rw[wv m VA]at e;exact⟨m,s,by rw[h0];simp,e,fun⟨o',k1,k2⟩=>⟨o,h0,by rw[K]at k1;cases k1;exact k2⟩⟩
   . rw[jz q m q1]at e;obtain⟨mm,s0,k1,k2,_,k4⟩:=old q b s q2.live e Y;exact⟨mm,s0,k1,k2,fun _=>k4 q2⟩
 . rcases u.Fm b c q with z|z|⟨j,t,z1,z2⟩
   . exact .inl z
   . exact .inr (.inl z)
   . obtain⟨m',p1,p2⟩:=pre j z1;rw[mq p1]at z2;exact .inr (.inr ⟨m',t,p2,z2⟩)
 . cases en with
   |returned x=>exact uT (E':=E') jz XM (fun _ _ q=>q) v1 _ x hv ho
   |_=>exact ho.elim
theorem Np{P:Program}(K:P.follows .mixedOrders=true)(sJ:jT P=true){f:FuncId}{fn:Func}{code:Code}(hf:P.funcs[f]? =some fn)(Y:fn.body=some code){args sg:ag}{ns:List (Option Nat)}{h h1 C oF:I es}{n n2 Kk:Nat}{v v1:V}
  (l:(Nat.ble sg.length fn.ntmps&&Nat.blt fn.ntmps gy)=true) (k:F0 ns h h1) (ka:V.J6 (mu ns) args=some sg) (he:PU ns h1 (v1,oF,Kk) h n=some (v,C,n2))
  (hT:TG P ns.length fn.ntmps code (dB sg h1 ns.length) (fV P ns.length fn fun a b c=>a=v1/\b=oF/\c=Kk))
  {E:Env} {w:World} {dQ:List Value} (ra:eC E args dQ) (g:Good E h w) (hd:qy E n):Calls P f dQ.toArray w (jj E h n w (.ret v) C n2):=by
 obtain⟨g1,d1⟩:=LM g k;have ra1:eC (E.pick ns) sg dQ:=th (E':=E.pick ns) PT (fun _ _ _ _ _ _=>rfl) (fun _ _ q=>q) _ _ _ ka ra;exact(FZ K sJ hf Y l v1 oF Kk hT ra1 g1 d1).mono fun en w' c=>LN g hd k he c
def u6(P:Program)(f:FuncId)(args:ag)(h:I es)(n:Nat)(v:V)(h1:I es)(n1:Nat):Prop:=∀E w dQ,eC E args dQ->Good E h w->qy E n->Calls P f dQ.toArray w (jj E h n w (.ret v) h1 n1)
open Go.ChangeMaps (setBlock)
structure Tz(φ:Nat->Option (Array Value))(kd:Option IntKind)(O:ae)(w:World)(r b:Nat)(left:ae):Prop where
 ex:∃seen fS fg,w.heap[r]? =some (.mapIter (some b) fg seen fg)/\w.heap[b]? =some (.map fS fg)/\kg φ kd O fS.toList fg/\∃l,List.Perm l left/\kN φ l (leftOf fS seen).toList
theorem Tz.mono{φ Hq:Nat->Option (Array Value)}{kd:Option IntKind}{O left:ae}{w w':World}{r b:Nat}(kT:∀b c,φ b=some c->Hq b=some c)(hr:w'.heap[r]? =w.heap[r]?)(Y:w'.heap[b]? =w.heap[b]?)(i:Tz φ kd O w r b left):Tz Hq kd O w' r b left:=by
 obtain⟨seen,fS,fg,h1,C,h3,l,h4,h5⟩:=i.ex;exact⟨seen,fS,fg,hr.trans h1,Y.trans C,h3.mono kT,l,h4,sQ kT _ _ h5⟩
section
variable{P:Program}{iX:Fence}{n:Nat}{ops:Array Oper}{Q:Exit->Act->World->Prop}{a:Act}{w:World}{rest:List Oper}{o:Oper}
end
structure auJ(X:Nat)(E0:Env)(h0:I es)(w0:World)(m mi:Nat)(kd:Option IntKind)(O left:ae)(r b:Nat)(E:Env)(h:I es)(w:World):Prop where
 Cl:nk X E0 h0 w0 E h w
 it:Tz E.φ kd O w r b left
 em:E.ι m=some (b,0)
 ei:E.ι mi=some (r,0)
 hr:∀k z,h.get k≠none->E.ι k≠some (r,z)
 Y:∀k z,h.get k≠none->E.ι k≠some (b,z)
 rlt:r<w.heap.size
 blt:b<w.heap.size
 r0:w0.heap.size<=r
 ne:r≠b
structure F2 where
 g0:Nat
 g1:Nat
 g2:Nat
 o0:Oper
 oR:Oper
 oN:Oper
 oX:Oper
 oE:Oper
 post:List Oper
 bl:Nat
 b1:Nat
 tok:Operand
 rest:Code
def F2.code(m:F2):Code:=.seq (.region m.g0 #[m.o0,m.oR] false) (.block m.bl (.loop (.seq (.region m.g1 #[m.oN,m.oX] false) (.seq (.cond m.tok .skip (.exit m.bl)) (.block m.b1 (.seq (.region m.g2 (m.oE::m.post).toArray false) m.rest))))))
structure abt(P:Program)(hc:Nat)(c:F2)(xR:Operand)(tI:Nat):Prop where
 g0:c.o0.guard=none
 gR:c.oR.guard=none
 gN:c.oN.guard=none
 gE:c.oE.guard=none
 opR:∃ty k e,c.oR.op= .range ty xR/\P.underlying ty=some (.map k e)
 dR:c.oR.dst=some tI
 opN:c.oN.op= .next (.tmp tI) false
 opE:c.oE.op= .entry (.tmp tI)
 ok:eV hc c.code=true
 tI:tI<gy
def lY(X hc:Nat)(s dy:St):Prop:=∀E a w,lq E hc s a w->X<=s.n->X<=dy.n/\∃E2,lq E2 hc dy a w/\nk X E s.h w E2 dy.h w
theorem lY.norm{X hc:Nat}{iW:List Nat}{s dy:St}(e:ld X iW s=some dy):lY X hc s dy:=fun _ _ _ r _=>(ox e r).2
theorem lY.trans{X hc:Nat}{a b c:St}(h1:lY X hc a b)(C:lY X hc b c):lY X hc a c:=fun E x w r hn=>by
 obtain⟨qX,E2,r2,u2⟩:=h1 E x w r hn;obtain⟨Oj,E3,r3,u3⟩:=C E2 x w r2 qX;exact⟨Oj,E3,r3,u2.trans u3⟩
theorem lY.mem{X hc:Nat}{s:St}{C:I es}(hg:∀E w,Good E s.h w->Good E C w/\∀m,(C.get m≠none↔s.h.get m≠none)/\(ff C m->ff s.h m)):lY X hc s { s with h:=C }:=fun E a w r hn=>by
 obtain⟨g2,k2⟩:=hg E w r.good;exact⟨hn,E,⟨g2,r.rD,r.T,r.size,r.iE⟩,⟨fun _ _ _ _ e=>⟨e,rfl⟩,fun _ _=>rfl,fun _ _ q=>q,g2,aK _,rfl,rfl,rfl,fun _ _ _=>rfl,fun m b s1 K e1 _=>⟨m,s1,(k2 m).1.1 K,e1,(k2 m).2⟩,fun _ _ q=>.inl q⟩⟩
theorem lY.deep{X hc:Nat}{s dy:St}(l:List Nat)(e:CS l s=some dy):lY X hc s dy:=by
 unfold CS at e;split at e
 case h_2=>cases e
 rename_i C hh;obtain rfl:=eU e;exact lY.mem fun E w g=>qo l s.h C hh g
def yq(P:Program)(f:FuncId)(args:ag)(h:I es)(n:Nat)(s':V->I es->Nat->Prop):Prop:=
 ∀E w dQ,eC E args dQ->Good E h w->qy E n->Calls P f dQ.toArray w fun e w'=>∃v h' n',s' v h' n'/\jj E h n w (.ret v) h' n' e w'
theorem u6.one{P:Program}{f:FuncId}{args:ag}{h:I es}{n:Nat}{v:V}{h1:I es}{n1:Nat}(c:u6 P f args h n v h1 n1):yq P f args h n fun a b d=>a=v/\b=h1/\d=n1:=
 fun E w dQ ra g hd=>(c E w dQ ra g hd).mono fun _ _ q=>⟨_,_,_,⟨rfl,rfl,rfl⟩,q⟩
theorem yq.mono{P:Program}{f:FuncId}{args:ag}{h:I es}{n:Nat}{s' R':V->I es->Nat->Prop}(c:yq P f args h n s')(hr:∀v h n,s' v h n->R' v h n):yq P f args h n R':=
 fun E w dQ ra g hd=>(c E w dQ ra g hd).mono fun _ _ ⟨v,h',n',r,q⟩=>⟨v,h',n',hr _ _ _ r,q⟩
theorem tC{P:Program}{iX:Fence}{n:Nat}{ops:Array Oper}{Q:Exit->Act->World->Prop}{l2:List Oper}:∀(l1:List Oper) {a:Act} {w:World},
  wpListIn iX n P ops (fun y a w=>match y with | .normal=>wpListIn iX n P ops Q l2 a w|y=>Q y a w) l1 a w->wpListIn iX n P ops Q (l1++l2) a w
 | [],a,w,h=>h
 |o::l1,a,w,h=>by
  show wpListIn iX n P ops Q (o::(l1++l2)) a w;unfold wpListIn at h ⊢;split
  . rename_i hw;rw[aD hw]at h;refine Nf (fun a w q=>tC l1 q) (fun y a w hy q=>?_) h;cases y<;>first|exact absurd rfl hy|exact q
  . rename_i hw;rw[aA hw]at h;exact⟨h.1,tC l1 h.2⟩
section
variable(P:Program)(X:Nat)(fn:Func)
def PV(p:n0×St):jU:=match p.1 with
 | .normal=>match Nj P X fn p.2 with
   |some (v,h,n)=>.ret v h n
   |none=>.bad
 | .ret=>match Nj P X fn p.2 with
   |some (v,h,n)=>.ret v h n
   |none=>.bad
 |_=>.bad
def acZ(cs:lS)(dz:List (Nat×mj))(iX X:Nat)(fn:Func)(c:Code)(s:St):List (List (Bool×Bool)×ah×jU):=yh (PV P X fn) (wu (kz P cs dz iX c s))
def V1(cs:lS)(dz:List (Nat×mj))(iX X:Nat)(fn:Func)(c:Code)(s:St)(dx:List (List (Bool×Bool)×ah×jU)):Prop:=AN P cs dz iX c s=true/\vP P cs dz iX c s=yn P cs dz iX c s/\acZ P cs dz iX X fn c s=dx
end
theorem XN{P:Program}{X hc:Nat}{fn:Func}{dz:List (Nat×mj)}{iX:Nat}{c:Code}{s:St}{dx:List (List (Bool×Bool)×ah×jU)}(X':CX P)(K:P.follows .mixedOrders=true)(s':V->I es->Nat->Prop)(N:eV hc c=true)(hr:V1 P X'.cs dz iX X fn c s dx)
  (h:∀g∈dx,(∀b∈g.1,b.1=b.2)->(∀a∈g.2.1,a)/\∃v h n,g.2.2= .ret v h n/\s' v h n):TG P X hc c s (fV P X fn s'):=by
 obtain⟨e1,e2,e3⟩:=hr;obtain⟨l,hl⟩:=bI.1 e1;unfold vP yn at e2;unfold acZ at e3;rw[hl]at e2 e3;simp only[wu]at e2 e3;refine PB (X':=X') K N hl fun p hp ho=>?_;obtain⟨hA,v,h',n',he,hR⟩:=h (p.1.conds,p.1.Om,PV P X fn p.2) (e3▸n5 hp) ho;refine⟨⟨tu l e2 p hp,hA⟩,?_⟩;obtain⟨pp,x,R⟩:=p;simp only[PV]at he;cases x with
 |normal=>
  simp only at he;split at he
  . rename_i v1 h1 n1 VG;cases he;exact⟨.normal,rfl,.inl rfl,_,_,_,VG,hR⟩
  . cases he
 |ret=>
  simp only at he;split at he
  . rename_i v1 h1 n1 VG;cases he;exact⟨.ret,rfl,.inr rfl,_,_,_,VG,hR⟩
  . cases he
 |exit i=>simp only at he;cases he
 |panic _=>simp only at he;cases he
def hP(cs:ag):I es:=I.nil.set gN (some (.cells cs))
def ew(P:Program)(X hc:Nat)(s dy:St):Prop:=∀c Q,TG P X hc c dy Q->TG P X hc c s Q
section
variable{P:Program}{X hc:Nat}{s s1 dy:St}
theorem ew.refl:ew P X hc s s:=fun _ _ h=>h
theorem ew.trans(h1:ew P X hc s s1)(C:ew P X hc s1 dy):ew P X hc s dy:=fun c Q h=>h1 c Q (C c Q h)
theorem ew.norm{live:List Nat}(e:ld X live s=some dy):ew P X hc s dy:=fun _ _ h=>fQ e h
theorem ew.deep(l:List Nat)(e:CS l s=some dy):ew P X hc s dy:=fun _ _ h=>Tv l e h
theorem ew.own(l:List (Nat×IntKind))(e:XB l s=some dy):ew P X hc s dy:=fun _ _ h=>zL l e h
theorem ew.map(l:List (Nat×Option IntKind))(e:XI l s=some dy):ew P X hc s dy:=fun _ _ h=>XJ l e h
theorem ew.Bi(ms:List Nat){fm:ah}(e:Ts ms s=some (fm,dy))(hA:∀x∈fm,x):ew P X hc s dy:=fun _ _ h=>XG ms e hA h
end
section
variable{p:Prop}{P:Program}{X hc:Nat}{c:Code}{s:St}{Q:Exit->St->Prop}
theorem lY.zS{dy:St}(h:lY X hc s dy):ew P X hc s dy:=fun _ _ hT E a w hm r hn k=>by
 obtain⟨qX,E2,r2,u2⟩:=h E a w r hn;exact hT E2 a w hm r2 qX fun y R E' a' w' q u od r'=>k y R E' a' w' q (u2.trans u) od r'
theorem TA(b m:Nat)(dy:Nat->St)(N:nq c b=true)(hl:oL (dK c)=true)(h0:ew P X hc s (dy 0))
  (Y:∀i,i<m->TG P X hc (dK (dK c)) (dy i) (andThen (fun R=>ew P X hc R (dy (i+1))) (gZ b Q)))
  (he:TG P X hc (dK (dK c)) (dy m) (fun y R=>y≠ .normal/\gZ b Q y R)):TG P X hc c s Q:=by
 refine fL N (jO (fun k s=>∃i,k=m-i/\i<=m/\ew P X hc s (dy i)) hl ?_ m ⟨0,rfl,aN _,h0⟩);rintro k s1 ⟨i,U,hi,oV⟩;refine oV _ _ ?_;rcases bj i m with eY|Pf
 . refine qF (Y i eY) fun y R h=>?_;cases y with
   |normal=>exact⟨m-(i+1),S,i+1,rfl,S,h⟩
   |_=>exact h
 . obtain rfl:i=m:=by omega
   refine qF he fun y R h=>?_;cases y with
   |normal=>exact absurd rfl h.1
   |_=>exact h.2
theorem EP{α:Type}{P:Program}{X hc:Nat}{c:Code}{s:St}{Q:Exit->St->Prop}(b:Nat)(μ:α->Nat)(Tr:α->Prop)(dy:α->St)(N:nq c b=true)(hl:oL (dK c)=true)(x0:α)(i0:Tr x0)(h0:ew P X hc s (dy x0))
  (Y:∀x,Tr x->TG P X hc (dK (dK c)) (dy x) (andThen (fun R=>∃x',μ x'<μ x/\Tr x'/\ew P X hc R (dy x')) (gZ b Q))):TG P X hc c s Q:=by
 refine fL N (jO (fun k s=>∃x,k=μ x/\Tr x/\ew P X hc s (dy x)) hl ?_ (μ x0) ⟨x0,rfl,i0,h0⟩);rintro k s1 ⟨x,U,hi,oV⟩;refine oV _ _ ?_;refine qF (Y x hi) fun y R h=>?_;cases y with
 |normal=>
  obtain⟨x',h1,C,h3⟩:=h;exact⟨μ x',S,x',rfl,C,h3⟩
 |_=>exact h
theorem A{l:ah}(h:p)(t:∀a∈l,a):∀a∈p::l,a:=List.forall_mem_cons.2 ⟨h,t⟩
theorem eM(h:p):∀a∈[p],a:=A h fun _ h=>absurd h aF
end
theorem Nq{h h0:I es}(hh:∀k,h.get k=h0.get k)(m:Nat):ff h m↔ff h0 m:=by unfold ff;rw[hh m]
theorem u6.ext{P:Program}{f:FuncId}{args:ag}{h h0 h1 C:I es}{n n1:Nat}{v:V}(hh:∀k,h.get k=h0.get k)(U:∀k,h1.get k=C.get k)(c:u6 P f args h0 n v C n1):u6 P f args h n v h1 n1:=by
 intro E w dQ ra g hd;refine(c E w dQ ra (g.ext fun k=>(hh k).symm) hd).mono fun e w' ⟨E',u,q1,q2,q3,q4⟩=>⟨E',?_,q1,q2,q3,q4⟩;have u:=u.ext U;have hw:=Nq hh;exact⟨u.le,u.good,u.size,u.tape,u.os,u.output,fun b Y K=>u.keep b Y fun m s h=>K m s ((hw m).2 h),fun m b s h1 C h3=>by
  obtain⟨m0,s0,a1,a2,a3⟩:=u.vN m b s h1 C h3;exact⟨m0,s0,by rw[hh];exact a1,a2,fun h=>(hw m0).2 (a3 h)⟩,fun b c h=>by
  rcases u.Fm b c h with h|h|⟨m,s,h1,C⟩
  . exact .inl h
  . exact .inr (.inl h)
  . exact .inr (.inr ⟨m,s,(hw m).2 h1,C⟩)⟩
def Step(X:Nat)(s s2:St):Prop:=∀hc E a w,lq E hc s a w->X<=s.n->X<=s2.n/\∃E2,lq E2 hc s2 a w/\nk X E s.h w E2 s2.h w
theorem Step.refl{X:Nat}{s:St}:Step X s s:=fun _ E _ _ r hn=>⟨hn,E,r,.refl r.good⟩
theorem Step.trans{X:Nat}{s s1 s2:St}(a:Step X s s1)(b:Step X s1 s2):Step X s s2:=fun hc E c w r hn=>by
 obtain⟨h1,E1,r1,u1⟩:=a hc E c w r hn;obtain⟨C,E2,r2,u2⟩:=b hc E1 c w r1 h1;exact⟨C,E2,r2,u1.trans u2⟩
section
variable{P:Program}{X:Nat}{s:St}{hc:Nat}{s2:St}
theorem Step.norm{live:List Nat}(e:ld X live s=some s2):Step X s s2:=fun _ _ _ _ r _=>(ox e r).2
theorem Step.mem{C:I es}(hg:∀E w,Good E s.h w->Good E C w/\∀m,(C.get m≠none↔s.h.get m≠none)/\(ff C m->ff s.h m)):Step X s { s with h:=C }:=fun hc E a w r hn=>by
 obtain⟨g2,k2⟩:=hg E w r.good;exact⟨hn,E,⟨g2,r.rD,r.T,r.size,r.iE⟩,⟨fun _ _ _ _ e=>⟨e,rfl⟩,fun _ _=>rfl,fun _ _ q=>q,g2,aK _,rfl,rfl,rfl,fun _ _ _=>rfl,fun m b s1 K e1 _=>⟨m,s1,(k2 m).1.1 K,e1,(k2 m).2⟩,fun _ _ q=>.inl q⟩⟩
theorem Step.deep(l:List Nat)(e:CS l s=some s2):Step X s s2:=by
 unfold CS at e;split at e
 case h_2=>cases e
 rename_i C hh;obtain rfl:=eU e;exact Step.mem fun E w g=>qo l s.h C hh g
theorem TB{c:Code}{s s2:St}{Q:Exit->St->Prop}(e:Step X s s2)(h:TG P X hc c s2 Q):TG P X hc c s Q:=by
 intro E a w hm r hn k;obtain⟨qX,E2,r2,u2⟩:=e hc E a w r hn;exact h E2 a w hm r2 qX fun y R E' a' w' q u od r'=>k y R E' a' w' q (u2.trans u) od r'
theorem ew.step{s dy:St}(e:Step X s dy):ew P X hc s dy:=fun _ _ h=>TB e h
theorem u6.nil{f:FuncId}{args:ag}{h h1:I es}{n n1 z:Nat}(b:Bool)(c:u6 P f args h n (.eZ none 0 0 z) h1 n1):u6 P f args h n (.eE b 0 []) h1 n1:=by
 intro E w dQ ra g hd;refine(c E w dQ ra g hd).mono fun en w' ⟨E1,u,fT,SB,Hx,ho⟩=>⟨E1,u,fT,SB,Hx,?_⟩;cases en with
 |panicked ch=>exact ho.elim
 |outgrown=>exact ho.elim
 |returned v'=>
  obtain⟨_,_,rfl⟩:0=0/\0=0/\v'= .slice none 0 0:=ho;exact⟨⟨none,0,[],rfl,aK _,rfl,fun _=>rfl,fun h=>absurd h (dj _)⟩,fun _=>⟨none,rfl⟩⟩
end
mutual
def V.nl:V->V
 | .eZ none len c e=>match len with
   |0=>.eE false 0 []
   |_=>.eZ none len c e
 | .eE _ n cs=>.eE false n cs
 | .agg cs=>.agg (V.jJ cs)
 | .gV cs=>.gV (V.jJ cs)
 |v=>v
def V.jJ:ag->ag
 | []=>[]
 |x::xs=>x.nl::V.jJ xs
end
mutual
theorem zT{E:Env}:∀(v:V) (v':Value),eB E v v'->eB E v.nl v'
 | .eZ none 0 _ _,_,⟨_,_,e⟩=>by
   rw[e];exact⟨⟨none,0,[],rfl,aK _,rfl,fun _=>rfl,fun h=>absurd h (dj _)⟩,fun h=>by cases h⟩
 | .eZ none (_+1) _ _,_,r=>r
 | .eE _ _ _,_,r=>⟨r.1,fun h=>by cases h⟩
 | .agg cs,_,⟨cs',r,q⟩=>⟨cs',tD cs cs' r,q⟩
 | .gV cs,_,⟨cs',r,q⟩=>⟨cs',tD cs cs' r,q⟩
 | .bool _,_,r=>r
 | .int _ _,_,r=>r
 | .str _,_,r=>r
 | .ptr _,_,r=>r
 | .eZ (some _) _ _ _,_,r=>r
 | .map _,_,r=>r
 | .fn _ _ _,_,r=>r
 | .kI,_,r=>r
 | .iface _ _,_,r=>r
 | .nilIface,_,r=>r
 | .dS _,_,r=>r
theorem tD{E:Env}:∀(v:ag) (v':List Value),eC E v v'->eC E (V.jJ v) v'
 | [],_,r=>r
 |x::xs,_,⟨y,ys,r,rs,q⟩=>⟨y,ys,zT x y r,tD xs ys rs,q⟩
end
theorem dV.nl{P:Program}{f:FuncId}{args:ag}{v:V}(h:dV P f args v):dV P f args v.nl:=fun E h' n w dQ ra g hd=>
 (h E h' n w dQ ra g hd).mono fun en w' ⟨E1,u,fT,SB,Hx,ho⟩=>⟨E1,u,fT,SB,Hx,by
  cases en with
  |returned v'=>exact zT v v' ho
  |panicked _=>exact ho.elim
  |outgrown=>exact ho.elim⟩
def fa(f0:FuncId)(nr:ag)(v:V)(dy:gJ):gJ:=fun f args h n=>match Nat.beq f f0 with
 |true=>some ([V.jJ args=nr],v,h,n)
 |false=>dy f args h n
theorem TC{P:Program}{f0:FuncId}{nr:ag}{v:V}{dy:gJ}(eY:Nat.blt f0 P.funcs.size=true)(N:dV P f0 nr v)(hS:fe P dy):fe P (fa f0 nr v dy):=by
 intro f args h n fm v' h' n' e;unfold fa at e;split at e
 . rename_i Y;have Y:=aJ Y;subst Y;simp only[aq,aB]at e;obtain⟨rfl,rfl,rfl,rfl⟩:=e;refine⟨aE eY,fun hA E w dQ ra g hd _=>?_⟩;obtain rfl:=hA _ (aG.2 rfl);exact N E h n w dQ (tD _ _ ra) g hd
 . exact hS f args h n fm v' h' n' e
def rE(v:V)(u:V)(h:I es)(n:Nat):Prop:=∃v0,PM v0 u h n/\v0.deep=true/\v0.nl=v
theorem rE.self{v u:V}{h:I es}{n:Nat}(hd:u.deep=true)(e:u.nl=v):rE v u h n:=⟨u,.self,hd,e⟩
def XO(ms:List Nat)(u:V)(h:I es)(n:Nat):Option (ah×V):=match Ts ms { T:=I.nil.set 0 (some u),h:=h,n:=n,iE:=[] }with
 |some (fm,s2)=>match s2.T.get 0 with
  |some v=>some (fm,v)
  |none=>none
 |none=>none
theorem rE.Bi{v u v0:V}{h:I es}{n:Nat}(ms:List Nat){fm:ah}(e:XO ms u h n=some (fm,v0))(hA:∀a∈fm,a)(hd:v0.deep=true)(en:v0.nl=v):rE v u h n:=by
 unfold XO at e;split at e
 case h_2=>cases e
 rename_i A1 s2 h1;split at e
 case h_2=>cases e
 rename_i v1 C;simp only[aq,aB]at e;obtain⟨rfl,rfl⟩:=e;exact⟨v1,⟨[ms],A1++[],s2,by simp only[Nn,h1],fun a ha=>hA a (by simpa using ha),C⟩,hd,en⟩
theorem dV.ajE{P:Program}(K:P.follows .mixedOrders=true)(sJ:jT P=true){f:FuncId}{fn:Func}{code:Code}(hf:P.funcs[f]? =some fn)(Y:fn.body=some code){args:ag}
  (l:(Nat.ble args.length fn.ntmps&&Nat.blt fn.ntmps gy)=true) {v:V} (Tw:V.qn args=true) (hT:TG P gN fn.ntmps code (dB args .nil gN) (fV P gN fn (rE v))):dV P f args v:=by
 intro E h n w dQ ra g hd;have g0:Good (Bf E.φ) .nil w:=wZ g.wg g.fz;have ra0:eC (Bf E.φ) args dQ:=lN (E:=E) (E':=Bf E.φ) (fun _ _ q=>q) _ _ Tw ra;refine(qH K sJ hf Y l _ hT ra0 g0 (CD (aK _))).mono fun e w' ⟨u,h',n',⟨v0,hz,hv,hn⟩,k⟩=>?_;obtain⟨E1,u,fT,SB,Hx,ho⟩:=CU (E1:=Bf E.φ) g hd rfl xb hv hz k;refine⟨E1,u,fT,SB,Hx,?_⟩;subst hn;cases e with
 |returned v'=>exact zT v0 v' ho
 |panicked _=>exact ho.elim
 |outgrown=>exact ho.elim
def es.nl:es->es
 | .cells cs=>.cells (V.jJ cs)
 |o=>o
def nlV:I V->I V
 | .nil=>.nil
 | .node v l r=>.node (v.map V.nl) (nlV l) (nlV r)
def V2:I es->I es
 | .nil=>.nil
 | .node v l r=>.node (v.map es.nl) (V2 l) (V2 r)
theorem F3:∀(t:I V) (k:Nat),(nlV t).get k=(t.get k).map V.nl
 | .nil,_=>rfl
 | .node v l r,k=>by
   simp only[nlV,I.get];split
   . rfl
   . split
     . exact F3 l _
     . exact F3 r _
theorem vH:∀(t:I es) (k:Nat),(V2 t).get k=(t.get k).map es.nl
 | .nil,_=>rfl
 | .node v l r,k=>by
   simp only[V2,I.get];split
   . rfl
   . split
     . exact vH l _
     . exact vH r _
theorem LO:∀(l:ag) (i:Nat),(V.jJ l)[i]? =(l[i]?).map V.nl
 | [],_=>by simp[V.jJ]
 |x::l,0=>by simp[V.jJ]
 |x::l,i+1=>by simpa[V.jJ]using LO l i
theorem TD{E:Env}{w:World}{b s:Nat}{o:es}(r:nJ E w b s o):nJ E w b s o.nl:=by
 cases o with
 |cells cs=>
  obtain⟨c,el,fz,h1,C,h3,h4⟩:=r;refine⟨c,el,fz,h1,C,h3,fun i v hv=>?_⟩;rw[LO]at hv;cases N:cs[i]? with
  |none=>rw[N]at hv;cases hv
  |some u=>
   rw[N]at hv;simp only[bu,aq]at hv;subst hv;obtain⟨v',k1,k2⟩:=h4 i u N;exact⟨v',k1,zT u v' k2⟩
 |_=>exact r
theorem PW(o:es):o.nl.wr=o.wr:=by cases o<;>rfl
def nlS(s:St):St:={ s with T:=nlV s.T,h:=V2 s.h }
theorem Step.nl{X:Nat}{s:St}:Step X s (nlS s):=fun hc E a w r hn=>by
 have jm:∀m,ff (V2 s.h) m↔ff s.h m:=fun m=>by
  constructor
  . rintro⟨o,h1,C⟩;rw[vH]at h1;cases h0:s.h.get m with
    |none=>rw[h0]at h1;cases h1
    |some o0=>
     rw[h0]at h1;simp only[bu,aq]at h1;subst h1;exact⟨o0,h0,by rw[PW]at C;exact C⟩
  . rintro⟨o,h1,C⟩;exact⟨o.nl,by rw[vH,h1];rfl,by rw[PW];exact C⟩
 have jw:∀m,(V2 s.h).get m≠none↔s.h.get m≠none:=fun m=>by
  rw[vH];cases s.h.get m<;>simp
 have g:Good E (V2 s.h) w:=by
  refine⟨fun m o K=>?_,fun m m' b s1 s2 M5 K tP=>r.good.inj m m' b s1 s2 M5 ((jm m).1 K) ((jw m').1 tP),r.good.qt,r.good.lj,fun b c q=>⟨(r.good.jo b c q).1,fun m s1 K=>(r.good.jo b c q).2 m s1 ((jm m).1 K)⟩⟩;rw[vH]at K;cases h0:s.h.get m with
  |none=>rw[h0]at K;cases K
  |some o0=>
   rw[h0]at K;simp only[bu,aq]at K;subst K;obtain⟨b,s1,k1,k2⟩:=r.good.rel m o0 h0;exact⟨b,s1,k1,TD k2⟩
 refine⟨hn,E,⟨g,r.rD,fun t v hv=>?_,r.size,r.iE⟩,⟨fun _ _ _ _ e=>⟨e,rfl⟩,fun _ _=>rfl,fun _ _ q=>q,g,aK _,rfl,rfl,rfl,fun _ _ _=>rfl,fun m b s1 K e1 _=>⟨m,s1,(jw m).1 K,e1,(jm m).1⟩,fun _ _ q=>.inl q⟩⟩;have hv:(nlV s.T).get t=some v:=hv;rw[F3]at hv;cases h0:s.T.get t with
 |none=>rw[h0]at hv;cases hv
 |some u=>
  rw[h0]at hv;simp only[bu,aq]at hv;subst hv;obtain⟨v',k1,k2⟩:=r.T t u h0;exact⟨v',k1,zT u v' k2⟩
theorem ew.nl{P:Program}{X hc:Nat}{s dy:St}(e:nlS s=dy):ew P X hc s dy:=e▸ .step .nl
def nlI(is:List Nat):Nat->ag->ag
 |_,[]=>[]
 |i,x::r=>(match is.any (Nat.beq i)with|true=>x.nl|false=>x)::nlI is (i+1) r
theorem LP(is:List Nat):∀(l:ag) (i j:Nat) (v:V),(nlI is i l)[j]? =some v->∃u,l[j]? =some u/\(v=u\/v=u.nl)
 | [],_,_,_,h=>by simp[nlI]at h
 |x::l,i,0,v,h=>by
  simp only[nlI,cK,aq]at h;subst h;refine⟨x,rfl,?_⟩;split<;>simp
 |x::l,i,j+1,v,h=>by
  simp only[nlI,List.getElem?_cons_succ]at h ⊢;exact LP is l (i+1) j v h
def TE(m:Nat)(is:List Nat)(s:St):Option St:=match Nat.blt m gy,s.h.get m with
 |true,some (.cells cs)=>some { s with h:=s.h.set m (some (.cells (nlI is 0 cs))) }
 |_,_=>none
theorem Step.TE{X:Nat}{s dy:St}(m:Nat)(is:List Nat)(e:Go.Eng.TE m is s=some dy):Step X s dy:=by
 unfold Go.Eng.TE at e;split at e
 case h_2=>cases e
 rename_i cs ht K;obtain rfl:=eU e;refine Step.mem fun E w g=>pG (aE ht) K rfl (fun b s1 _ q=>?_) g;obtain⟨c,el,fz,h1,C,h3,h4⟩:=q;refine⟨c,el,fz,h1,C,h3,fun j v hv=>?_⟩;obtain⟨u,k1,k2⟩:=LP is cs 0 j v hv;obtain⟨v',q1,q2⟩:=h4 j u k1;rcases k2 with rfl|rfl
 . exact⟨v',q1,q2⟩
 . exact⟨v',q1,zT u v' q2⟩
def PX:ag->List Nat
 | []=>[]
 | .eZ (some (m,_)) _ _ _::r=>m::PX r
 |_::r=>PX r
def rbA(T:I V):Nat->Nat->Option (ag)
 |_,0=>some []
 |i,k+1=>match T.get i with
  |some v=>match rbA T (i+1) k with
   |some l=>some (v::l)
   |none=>none
  |none=>none
theorem IC{T:I V}:∀(k i:Nat) (l:ag),rbA T i k=some l->l.length=k/\∀(j:Nat) (v:V),l[j]? =some v->T.get (i+j)=some v
 |0,i,l,e=>by simp only[rbA,aq]at e;subst e;simp
 |k+1,i,l,e=>by
  simp only[rbA]at e;split at e
  case h_2=>cases e
  rename_i v hv;split at e
  case h_2=>cases e
  rename_i l' hl;obtain rfl:=eU e;obtain⟨h1,C⟩:=IC k (i+1) l' hl;refine⟨by simp[h1],fun j u hj=>?_⟩;cases j with
  |zero=>simp at hj;subst hj;exact hv
  |succ j=>
   have:=C j u (by simpa using hj);rw[<- this];congr 1;omega
def PY(f0:FuncId)(nr:ag)(v:V)(dy:gJ):gJ:=fun f args h n=>match Nat.beq f f0 with
 |true=>match Nat.blt args.length gy with
  |true=>match Ts (PX args) (dB args h n)with
   |some (fm,s2)=>match rbA s2.T 0 args.length,Nat.beq s2.n n with
    |some ID,true=>some (fm++[V.jJ ID=nr],v,s2.h,n)
    |_,_=>none
   |none=>none
  |false=>none
 |false=>dy f args h n
theorem F4{P:Program}{f0:FuncId}{nr:ag}{v:V}{dy:gJ}(eY:Nat.blt f0 P.funcs.size=true)(N:dV P f0 nr v)(hS:fe P dy):fe P (PY f0 nr v dy):=by
 intro f args h n fm v' h' n' e;unfold PY at e;split at e
 case h_2=>exact hS f args h n fm v' h' n' e
 rename_i Y;have Y:=aJ Y;subst Y;split at e
 case h_2=>cases e
 rename_i XP;have XP:args.length<gy:=aE XP;split at e
 case h_2=>cases e
 rename_i A1 s2 DQ;split at e
 case h_2=>cases e
 rename_i ID hrb hn;simp only[aq,aB]at e;obtain⟨rfl,rfl,rfl,rfl⟩:=e;have hn:=aJ hn;refine⟨aE eY,fun hA E w dQ ra g hd _=>?_⟩;obtain⟨y9,mP⟩:=qd (n:=args.length) ra (aK _) XP;have r:lq E args.length (dB args h n) { tmps:=dQ.toArray++Array.replicate (args.length-dQ.toArray.size) undef,defers:=[] } w:=⟨g,hd,y9,mP,rfl⟩;obtain⟨E2,r2,u,_,jz⟩:=vE (X:=n) DQ (fun a ha=>hA a (by simp[ha])) r (aK _);obtain⟨k1,k2⟩:=IC _ _ _ hrb;have ac1:dQ.length=args.length:=fo ra;have VS:eC E2 ID dQ:=by
  refine jM S fun i v hv=>?_;have hi:i<ID.length:=(aO.1 hv).1;obtain⟨v',q1,q2⟩:=r2.T i v (by have:=k2 i v hv;rwa [bB]at this);refine⟨v',?_,q2⟩;rw[cJ (by simp;omega)]at q1;simpa using q1
 have he:V.jJ ID=nr:=hA _ (by simp);subst he;refine(N E2 s2.h n w dQ (tD _ _ VS) r2.good (hn▸r2.rD)).mono fun en w' ⟨E3,u3,fT,hd3,Oj,ho⟩=>⟨E3,?_,fun m K=>(fT m K).trans (jz m),hd3,Oj,ho⟩;exact(u.trans (nk.of u3 fT (aK _))).Cl hd
end Go.Eng
