/- Lemmas of the engine. No conditions. -/
import Derived.Test.YtmjggdmekboefaaGreatJointW03
import Derived.Maps.RangeRun
set_option linter.unusedVariables false
set_option linter.unusedSimpArgs false
set_option linter.unusedSectionVars false
set_option maxRecDepth 10000
namespace Go.Eng
open Go Go.RowKit
mutual
def V.deep:V->Bool
 | .ptr (some _)=>false
 | .fk (some _) _ _ _=>false
 | .map (some _)=>false
 | .fn f a c=>vJ f&&(V.qC a&&V.qC c)
 | .iface _ x=>V.deep x
 | .agg cs=>V.qC cs
 | .gK cs=>V.qC cs
 |_=>true
def V.qC:ag->Bool
 | []=>true
 |x::xs=>V.deep x&&V.qC xs
end
mutual
theorem Dg{E E':Env}(ld:∀b c,E.φ b=some c->E'.φ b=some c):∀(v:V) (v':Value),v.deep=true->eH E v v'->eH E' v v'
 | .bool _,_,_,r=>r
 | .int _ _,_,_,r=>r
 | .str _,_,_,r=>r
 | .ptr none,_,_,r=>r
 | .ptr (some _),_,h,_=>by simp[V.deep]at h
 | .fk none _ _ _,_,_,r=>r
 | .fk (some _) _ _ _,_,h,_=>by simp[V.deep]at h
 | .map none,_,_,r=>r
 | .map (some _),_,h,_=>by simp[V.deep]at h
 | .fn f a c,_,h,⟨f',a',c',rf,ra,rc,q⟩=>by
   simp only[V.deep,ay]at h;refine⟨f',a',c',?_,lZ ld a a' h.2.1 ra,lZ ld c c' h.2.2 rc,q⟩;cases f<;>first|exact rf|(simp[vJ]at h;done)
 | .kU,_,_,r=>r
 | .iface _ x,_,h,⟨x',r,q⟩=>⟨x',Dg ld x x' (by simpa only[V.deep]using h) r,q⟩
 | .nilIface,_,_,r=>r
 | .agg cs,_,h,⟨cs',r,q⟩=>⟨cs',lZ ld cs cs' (by simpa only[V.deep]using h) r,q⟩
 | .gK cs,_,h,⟨cs',r,q⟩=>⟨cs',lZ ld cs cs' (by simpa only[V.deep]using h) r,q⟩
 | .eM _ _ _,_,_,r=>⟨mR ld _ _ r.1,r.2⟩
 | .eo cs,_,_,⟨b,o,c,vs,e,e1,r,q⟩=>⟨b,o,c,vs,e,ld _ _ e1,ja ld cs vs r,q⟩
theorem lZ{E E':Env}(ld:∀b c,E.φ b=some c->E'.φ b=some c):∀(v:ag) (v':List Value),V.qC v=true->eK E v v'->eK E' v v'
 | [],_,_,r=>r
 |x::xs,_,h,⟨y,ys,r,rs,q⟩=>by
  simp only[V.qC,ay]at h;exact⟨y,ys,Dg ld x y h.1 r,lZ ld xs ys h.2 rs,q⟩
end
section
variable(fr:Nat->Option (ai))
mutual
def Bk:V->Option (ah×V)
 | .fk (some (m,o)) len kg lz=>match fr m with
   |some cs=>match o with
    |0=>some ([cs.length=len*lz],.eM false len cs)
    |o+1=>some ([],.eM false len ((cs.drop (o+1)).take (len*lz)))
   |none=>some ([],.fk (some (m,o)) len kg lz)
 | .ptr (some (m,o))=>match fr m with
   |some _=>none
   |none=>some ([],.ptr (some (m,o)))
 | .map (some m)=>match fr m with
   |some _=>none
   |none=>some ([],.map (some m))
 | .fn f a c=>match f with
   | .yield m=>match fr m with
     |some _=>none
     |none=>match wu a with
      |some (hc,a)=>match wu c with
       |some (aj,c)=>some (hc++aj,.fn (.yield m) a c)
       |none=>none
      |none=>none
   |f=>match wu a with
    |some (hc,a)=>match wu c with
     |some (aj,c)=>some (hc++aj,.fn f a c)
     |none=>none
    |none=>none
 | .iface t x=>match Bk x with
   |some (hc,x)=>some (hc,.iface t x)
   |none=>none
 | .agg cs=>match wu cs with
   |some (hc,cs)=>some (hc,.agg cs)
   |none=>none
 | .gK cs=>match wu cs with
   |some (hc,cs)=>some (hc,.gK cs)
   |none=>none
 | .bool b=>some ([],.bool b)
 | .int k n=>some ([],.int k n)
 | .str s=>some ([],.str s)
 | .ptr none=>some ([],.ptr none)
 | .fk none l c e=>some ([],.fk none l c e)
 | .map none=>some ([],.map none)
 | .kU=>some ([],.kU)
 | .nilIface=>some ([],.nilIface)
 | .eM f n cs=>some ([],.eM f n cs)
 | .eo cs=>some ([],.eo cs)
def wu:ag->Option (ah×ag)
 | []=>some ([],[])
 |x::xs=>match Bk x with
  |some (hc,x)=>match wu xs with
   |some (aj,xs)=>some (hc++aj,x::xs)
   |none=>none
  |none=>none
end
end
def Yo(fr:Nat->Option (ai))(E:Env)(φ:Nat->Option (Array Value)):Prop:=
 ∀m cs,fr m=some cs->∀b s,E.ι m=some (b,s)->∃c vs,φ b=some c/\jl φ cs vs/\∀(j:Nat) (x:Value),vs[j]? =some x->c[s+j]? =some x
section
variable{fr:Nat->Option (ai)}{E E':Env}(hF:Yo fr E E'.φ)(jP:∀m,E'.ι m=E.ι m)(oV:E'.β=E.β)(ld:∀b c,E.φ b=some c->E'.φ b=some c)
include hF jP oV ld
mutual
theorem tL:∀(v v2:V) (hc:ah) (v':Value),Bk fr v=some (hc,v2)->(∀a∈hc,a)->eH E v v'->eH E' v2 v'
 | .bool _,v2,hc,_,h,_,r=>by simp only[Bk,aq,aB]at h;obtain⟨rfl,rfl⟩:=h;exact r
 | .int _ _,v2,hc,_,h,_,r=>by simp only[Bk,aq,aB]at h;obtain⟨rfl,rfl⟩:=h;exact r
 | .str _,v2,hc,_,h,_,r=>by simp only[Bk,aq,aB]at h;obtain⟨rfl,rfl⟩:=h;exact r
 | .ptr none,v2,hc,_,h,_,r=>by simp only[Bk,aq,aB]at h;obtain⟨rfl,rfl⟩:=h;exact r
 | .fk none _ _ _,v2,hc,_,h,_,r=>by simp only[Bk,aq,aB]at h;obtain⟨rfl,rfl⟩:=h;exact r
 | .map none,v2,hc,_,h,_,r=>by simp only[Bk,aq,aB]at h;obtain⟨rfl,rfl⟩:=h;exact r
 | .kU,v2,hc,_,h,_,r=>by simp only[Bk,aq,aB]at h;obtain⟨rfl,rfl⟩:=h;exact r
 | .nilIface,v2,hc,_,h,_,r=>by simp only[Bk,aq,aB]at h;obtain⟨rfl,rfl⟩:=h;exact r
 | .eM f n cs,v2,hc,_,h,_,r=>by
   simp only[Bk,aq,aB]at h;obtain⟨rfl,rfl⟩:=h;exact⟨mR ld _ _ r.1,r.2⟩
 | .eo cs,v2,hc,_,h,_,⟨b,o,c,vs,e,e1,r,q⟩=>by
   simp only[Bk,aq,aB]at h;obtain⟨rfl,rfl⟩:=h;exact⟨b,o,c,vs,e,ld _ _ e1,ja ld cs vs r,q⟩
 | .ptr (some (m,o)),v2,hc,_,h,_,⟨b,s,e,q⟩=>by
   simp only[Bk]at h;split at h
   . cases h
   . obtain⟨rfl,rfl⟩:=gr h;exact⟨b,s,(jP m).trans e,q⟩
 | .map (some m),v2,hc,_,h,_,⟨b,e,q⟩=>by
   simp only[Bk]at h;split at h
   . cases h
   . obtain⟨rfl,rfl⟩:=gr h;exact⟨b,(jP m).trans e,q⟩
 | .fk (some (m,o)) len kg lz,v2,hc,_,h,hA,⟨b,s,o',gZ,e,q1,q2,q3,q4,q5⟩=>by
   simp only[Bk]at h;split at h
   . rename_i cs qH;obtain⟨c,vs,k1,k2,k3⟩:=hF m cs qH b s e;have key:∀(ds:ai) (us:List Value),jl E'.φ ds us->(len=0->ds=[])->(0<len->∀(j:Nat) (x:Value),us[j]? =some x->c[s+o+j]? =some x)->eH E' (.eM false len ds) (.slice (some ⟨b,o',none⟩) len gZ):=by
      intro ds us h1 C h3;refine⟨⟨_,gZ,us,rfl,S,h1,C,fun hp=>⟨b,o',c,rfl,k1,?_⟩⟩,fun q=>by cases q⟩;rw[q1 S];exact h3 hp
     split at h
     . obtain⟨rfl,rfl⟩:=gr h;rw[q5];have hl:cs.length=len*lz:=hA _ (aI.2 rfl);refine key cs vs k2 (fun z=>?_) (fun _ j x K=>by rw[Nat.add_zero];exact k3 j x K);rw[z,Nat.zero_mul]at hl;exact cS.1 hl
     . rename_i o;obtain⟨rfl,rfl⟩:=gr h;rw[q5];refine key _ _ (wZ (qf k2)) (fun z=>by rw[z];simp) (fun _ j x K=>?_);rw[cg]at K;split at K
       . rw[cj]at K;rw[<- k3 _ x K,Nat.add_assoc]
       . cases K
   . obtain⟨rfl,rfl⟩:=gr h;exact⟨b,s,o',gZ,(jP m).trans e,q1,q2,q3,by rw[oV];exact q4,q5⟩
 | .fn f a c,v2,hc,_,h,hA,⟨f',a',c',rf,ra,rc,q⟩=>by
   simp only[Bk]at h;split at h
   . rename_i m;split at h
     . cases h
     . split at h
       case h_2=>cases h
       rename_i A1 a2 ha;split at h
       case h_2=>cases h
       rename_i B1 c2 A;obtain⟨rfl,rfl⟩:=gr h;obtain⟨l,s,e,q2⟩:=rf;exact⟨f',a',c',⟨l,s,(jP m).trans e,q2⟩,lR a a2 A1 a' ha (fun x K=>hA x (bj.2 (.inl K))) ra,lR c c2 B1 c' A (fun x K=>hA x (bj.2 (.inr K))) rc,q⟩
   . rename_i jD;split at h
     case h_2=>cases h
     rename_i A1 a2 ha;split at h
     case h_2=>cases h
     rename_i B1 c2 A;obtain⟨rfl,rfl⟩:=gr h;refine⟨f',a',c',?_,lR a a2 A1 a' ha (fun x K=>hA x (bj.2 (.inl K))) ra,lR c c2 B1 c' A (fun x K=>hA x (bj.2 (.inr K))) rc,q⟩;cases f<;>first|exact rf|exact(jD _ rfl).elim
 | .iface t x,v2,hc,_,h,hA,⟨x',r,q⟩=>by
   simp only[Bk]at h;split at h
   . rename_i A1 x2 K;obtain⟨rfl,rfl⟩:=gr h;exact⟨x',tL x x2 _ x' K hA r,q⟩
   . cases h
 | .agg cs,v2,hc,_,h,hA,⟨cs',r,q⟩=>by
   simp only[Bk]at h;split at h
   . rename_i A1 x2 K;obtain⟨rfl,rfl⟩:=gr h;exact⟨cs',lR cs x2 _ cs' K hA r,q⟩
   . cases h
 | .gK cs,v2,hc,_,h,hA,⟨cs',r,q⟩=>by
   simp only[Bk]at h;split at h
   . rename_i A1 x2 K;obtain⟨rfl,rfl⟩:=gr h;exact⟨cs',lR cs x2 _ cs' K hA r,q⟩
   . cases h
theorem lR:∀(v v2:ag) (hc:ah) (v':List Value),wu fr v=some (hc,v2)->(∀a∈hc,a)->eK E v v'->eK E' v2 v'
 | [],v2,hc,_,h,_,r=>by simp only[wu,aq,aB]at h;obtain⟨rfl,rfl⟩:=h;exact r
 |x::xs,v2,hc,_,h,hA,⟨y,ys,r,rs,q⟩=>by
  simp only[wu]at h;split at h
  case h_2=>cases h
  rename_i A1 x2 K;split at h
  case h_2=>cases h
  rename_i B1 NQ CD;obtain⟨rfl,rfl⟩:=gr h;exact⟨y,ys,tL x x2 A1 y K (fun a ha=>hA a (bj.2 (.inl ha))) r,lR xs NQ B1 ys CD (fun a ha=>hA a (bj.2 (.inr ha))) rs,q⟩
end
end
def Dh:es->Option (ai)
 | .deep cs=>some cs
 | .own k W=>some (W.map (.int k))
 | .cells cs=>iQ cs
 |_=>none
section
variable(fr:Nat->Option (ai))
def Di:I V->Option (ah×I V)
 | .nil=>some ([],.nil)
 | .node v l r=>match(match v with
    |none=>some ([],none)
    |some v=>match Bk fr v with
     |some (hc,v)=>some (hc,some v)
     |none=>none:Option (ah×Option V))with
   |some (hc,v)=>match Di l with
    |some (aj,l)=>match Di r with
     |some (h2,r)=>some (hc++(aj++h2),.node v l r)
     |none=>none
    |none=>none
   |none=>none
def Qg:List (V×V×Nat)->Option (ah×List (V×V×Nat))
 | []=>some ([],[])
 |x::xs=>match Bk fr x.1 with
  |some (hc,k)=>match Bk fr x.2.1 with
   |some (aj,v)=>match Qg xs with
    |some (h2,xs)=>some (hc++(aj++h2),(k,v,x.2.2)::xs)
    |none=>none
   |none=>none
  |none=>none
def HC:es->Option (ah×es)
 | .cells cs=>match wu fr cs with
   |some (hc,cs)=>some (hc,.cells cs)
   |none=>none
 | .map O c=>match Qg fr O with
   |some (hc,O)=>some (hc,.map O c)
   |none=>none
 | .nM s p=>some ([],.nM s p)
 | .ints k W=>some ([],.ints k W)
 | .own k W=>some ([],.own k W)
 | .deep cs=>some ([],.deep cs)
 | .wh e f s=>some ([],.wh e f s)
 | .HM t s x=>match Bk fr x with
   |some (hc,x)=>some (hc,.HM t s x)
   |none=>none
 | .gL k O=>some ([],.gL k O)
 | .oW k O=>some ([],.oW k O)
 | .uy=>some ([],.uy)
 | .loop st pe F ps a b=>match Di fr F with
   |some (hc,F)=>some (hc,.loop st pe F ps a b)
   |none=>none
def Fa:I es->Option (ah×I es)
 | .nil=>some ([],.nil)
 | .node v l r=>match(match v with
    |none=>some ([],none)
    |some v=>match HC fr v with
     |some (hc,v)=>some (hc,some v)
     |none=>none:Option (ah×Option es))with
   |some (hc,v)=>match Fa l with
    |some (aj,l)=>match Fa r with
     |some (h2,r)=>some (hc++(aj++h2),.node v l r)
     |none=>none
    |none=>none
   |none=>none
def Qh:List (FuncId×ag×ag)->Option (ah×List (FuncId×ag×ag))
 | []=>some ([],[])
 |x::xs=>match wu fr x.2.1 with
  |some (hc,c)=>match wu fr x.2.2 with
   |some (aj,a)=>match Qh xs with
    |some (h2,xs)=>some (hc++(aj++h2),(x.1,c,a)::xs)
    |none=>none
   |none=>none
  |none=>none
end
def Yp(h:I es)(ms:List Nat)(m:Nat):Option (ai):=match ms.any (Nat.beq m)with
 |true=>match h.get m with
  |some o=>Dh o
  |none=>none
 |false=>none
def Mk(h:I es):List Nat->Bool
 | []=>true
 |m::ms=>Nat.blt m gO&&((match h.get m with|some o=>(match Dh o with|some _=>true|none=>false)|none=>false)&&Mk h ms)
def yK:List Nat->I es->I es
 | [],h=>h
 |m::ms,h=>yK ms (h.set m none)
def Ue(ms:List Nat)(s:St):Option (ah×St):=match Mk s.h ms with
 |true=>match Di (Yp s.h ms) s.F with
  |some (hc,F)=>match Fa (Yp s.h ms) s.h with
   |some (aj,h)=>match Qh (Yp s.h ms) s.iZ with
    |some (h2,d)=>some (hc++(aj++h2),{ F:=F,h:=yK ms h,n:=s.n,iZ:=d })
    |none=>none
   |none=>none
  |none=>none
 |false=>none
theorem vV{fr:Nat->Option (ai)}:∀(t t2:I V) (hc:ah),Di fr t=some (hc,t2)->∀k v2,t2.get k=some v2->∃v aj,t.get k=some v/\Bk fr v=some (aj,v2)/\∀b∈aj,b∈hc
 | .nil,t2,hc,h,k,v2,hk=>by simp only[Di,aq,aB]at h;obtain⟨_,rfl⟩:=h;simp[I.get]at hk
 | .node v l r,t2,hc,h,k,v2,hk=>by
   simp only[Di]at h;split at h
   case h_2=>cases h
   rename_i A1 v1 h1;split at h
   case h_2=>cases h
   rename_i B1 l1 hl;split at h
   case h_2=>cases h
   rename_i C1 r1 hr;obtain⟨rfl,rfl⟩:=gr h;simp only[I.get]at hk ⊢;split at hk
   . subst hk;cases v with
     |none=>simp at h1
     |some v=>
      simp only at h1;split at h1
      . rename_i A0 v0 h0;simp only[aB,aq]at h1;obtain⟨rfl,rfl⟩:=h1;exact⟨v,A0,rfl,h0,fun b U=>bj.2 (.inl U)⟩
      . cases h1
   . rename_i k;split at hk
     . rename_i Uf;obtain⟨v,aj,q1,q2,q3⟩:=vV l l1 B1 hl _ v2 hk;exact⟨v,aj,q1,q2,fun b U=>bj.2 (.inr (bj.2 (.inl (q3 b U))))⟩
     . rename_i Uf;obtain⟨v,aj,q1,q2,q3⟩:=vV r r1 C1 hr _ v2 hk;exact⟨v,aj,q1,q2,fun b U=>bj.2 (.inr (bj.2 (.inr (q3 b U))))⟩
theorem Ag{fr:Nat->Option (ai)}:∀(t t2:I es) (hc:ah),Fa fr t=some (hc,t2)->∀k v2,t2.get k=some v2->∃v aj,t.get k=some v/\HC fr v=some (aj,v2)/\∀b∈aj,b∈hc
 | .nil,t2,hc,h,k,v2,hk=>by simp only[Fa,aq,aB]at h;obtain⟨_,rfl⟩:=h;simp[I.get]at hk
 | .node v l r,t2,hc,h,k,v2,hk=>by
   simp only[Fa]at h;split at h
   case h_2=>cases h
   rename_i A1 v1 h1;split at h
   case h_2=>cases h
   rename_i B1 l1 hl;split at h
   case h_2=>cases h
   rename_i C1 r1 hr;obtain⟨rfl,rfl⟩:=gr h;simp only[I.get]at hk ⊢;split at hk
   . subst hk;cases v with
     |none=>simp at h1
     |some v=>
      simp only at h1;split at h1
      . rename_i A0 v0 h0;simp only[aB,aq]at h1;obtain⟨rfl,rfl⟩:=h1;exact⟨v,A0,rfl,h0,fun b U=>bj.2 (.inl U)⟩
      . cases h1
   . rename_i k;split at hk
     . obtain⟨v,aj,q1,q2,q3⟩:=Ag l l1 B1 hl _ v2 hk;exact⟨v,aj,q1,q2,fun b U=>bj.2 (.inr (bj.2 (.inl (q3 b U))))⟩
     . obtain⟨v,aj,q1,q2,q3⟩:=Ag r r1 C1 hr _ v2 hk;exact⟨v,aj,q1,q2,fun b U=>bj.2 (.inr (bj.2 (.inr (q3 b U))))⟩
section
variable{fr:Nat->Option (ai)}{E E':Env}(hF:Yo fr E E'.φ)(jP:∀m,E'.ι m=E.ι m)(oV:E'.β=E.β)(ld:∀b c,E.φ b=some c->E'.φ b=some c)
include hF jP oV ld
theorem I2:∀(O zy:List (V×V×Nat)) (hc:ah) (l:List MapEntry),Qg fr O=some (hc,zy)->(∀a∈hc,a)->kX E O l->kX E' zy l
 | [],zy,hc,_,h,_,r=>by simp only[Qg,aq,aB]at h;obtain⟨rfl,rfl⟩:=h;exact r
 |x::xs,zy,hc,_,h,hA,⟨y,ys,r1,r2,r3,rs,q⟩=>by
  simp only[Qg]at h;split at h
  case h_2=>cases h
  rename_i A1 k hk;split at h
  case h_2=>cases h
  rename_i B1 v hv;split at h
  case h_2=>cases h
  rename_i C1 NQ CD;obtain⟨rfl,rfl⟩:=gr h;exact⟨y,ys,tL hF jP oV ld _ _ _ _ hk (fun a ha=>hA a (by simp[ha])) r1,tL hF jP oV ld _ _ _ _ hv (fun a ha=>hA a (by simp[ha])) r2,r3,I2 xs NQ C1 ys CD (fun a ha=>hA a (by simp[ha])) rs,q⟩
theorem Ug{w:World}{b s:Nat}:∀(o o2:es) (hc:ah),HC fr o=some (hc,o2)->(∀a∈hc,a)->nT E w b s o->nT E' w b s o2
 | .cells cs,o2,hc,h,hA,⟨c,el,fz,h1,C,h3,h4⟩=>by
   simp only[HC]at h;split at h
   case h_2=>cases h
   rename_i A1 Yc qH;obtain⟨rfl,rfl⟩:=gr h;obtain⟨vs,k1,k2⟩:=rW.1 h4;exact⟨c,el,fz,h1,by rw[oV];exact C,h3,rW.2 ⟨vs,lR hF jP oV ld _ _ _ _ qH hA k1,k2⟩⟩
 | .map O cl,o2,hc,h,hA,⟨hs,ga,h1,C⟩=>by
   simp only[HC]at h;split at h
   case h_2=>cases h
   rename_i A1 zy XR;obtain⟨rfl,rfl⟩:=gr h;exact⟨hs,ga,h1,I2 hF jP oV ld _ _ _ _ XR hA C⟩
 | .nM st p,o2,hc,h,_,r=>by simp only[HC,aq,aB]at h;obtain⟨rfl,rfl⟩:=h;exact r
 | .ints k W,o2,hc,h,_,⟨c,el,fz,h1,C,h3⟩=>by simp only[HC,aq,aB]at h;obtain⟨rfl,rfl⟩:=h;exact⟨c,el,fz,h1,by rw[oV];exact C,h3⟩
 | .own k W,o2,hc,h,_,⟨c,el,fz,h1,C,h3,h4⟩=>by simp only[HC,aq,aB]at h;obtain⟨rfl,rfl⟩:=h;exact⟨c,el,fz,h1,by rw[oV];exact C,h3,wH h4⟩
 | .deep cs,o2,hc,h,_,⟨c,el,fz,vs,h1,C,h3,h4,h5⟩=>by simp only[HC,aq,aB]at h;obtain⟨rfl,rfl⟩:=h;exact⟨c,el,fz,vs,h1,by rw[oV];exact C,h3,ja ld _ _ h4,h5⟩
 | .wh el AM t,o2,hc,h,_,⟨c,fz,xs,h1,h0,C,h3⟩=>by simp only[HC,aq,aB]at h;obtain⟨rfl,rfl⟩:=h;exact⟨c,fz,xs,h1,h0,by rw[oV];exact C,h3⟩
 | .HM t self x,o2,hc,h,hA,⟨hs,x',fz,h1,C,h3,h4⟩=>by
   simp only[HC]at h;split at h
   case h_2=>cases h
   rename_i A1 x2 K;obtain⟨rfl,rfl⟩:=gr h;exact⟨hs,x',fz,h1,by rw[oV];exact C,h3,tL hF jP oV ld _ _ _ _ K hA h4⟩
 | .gL kk O,o2,hc,h,_,⟨hs,ga,cl,h1,C⟩=>by simp only[HC,aq,aB]at h;obtain⟨rfl,rfl⟩:=h;exact⟨hs,ga,cl,h1,C.mono ld⟩
 | .oW kk O,o2,hc,h,_,⟨hs,ga,h1,C⟩=>by simp only[HC,aq,aB]at h;obtain⟨rfl,rfl⟩:=h;exact⟨hs,ga,h1,C.mono ld⟩
 | .uy,o2,hc,h,_,r=>by simp only[HC,aq,aB]at h;obtain⟨rfl,rfl⟩:=h;exact r
 | .loop st pe F ps a b',o2,hc,h,hA,⟨r,h1,C,h3,h4,h5,h6,h7,h8⟩=>by
   simp only[HC]at h;split at h
   case h_2=>cases h
   rename_i A1 PE zz;obtain⟨rfl,rfl⟩:=gr h;refine⟨r,h1,C,h3,h4,h5,h6,fun t v e=>?_,h8⟩;obtain⟨v0,aj,q1,q2,q3⟩:=vV _ _ _ zz t v e;obtain⟨v',k1,k2⟩:=h7 t v0 q1;exact⟨v',k1,tL hF jP oV ld _ _ _ _ q2 (fun x K=>hA x (q3 x K)) k2⟩
theorem I3:∀(xs NQ:List (FuncId×ag×ag)) (hc:ah) (ys:List Deferred),Qh fr xs=some (hc,NQ)->(∀a∈hc,a)->wM E xs ys->wM E' NQ ys
 | [],NQ,hc,_,h,_,r=>by simp only[Qh,aq,aB]at h;obtain⟨rfl,rfl⟩:=h;exact r
 |x::xs,NQ,hc,_,h,hA,⟨d,ys,r1,rs,q⟩=>by
  simp only[Qh]at h;split at h
  case h_2=>cases h
  rename_i A1 c A;split at h
  case h_2=>cases h
  rename_i B1 a ha;split at h
  case h_2=>cases h
  rename_i C1 xs3 CD;obtain⟨rfl,rfl⟩:=gr h;refine⟨d,ys,?_,I3 xs xs3 C1 ys CD (fun a ha=>hA a (by simp[ha])) rs,q⟩;rcases r1 with⟨K,c',a',q1,q2,q3⟩|⟨K,m,b,s,q1,q2,q3⟩
  . exact .inl ⟨K,c',a',lR hF jP oV ld _ _ _ _ A (fun a ha=>hA a (by simp[ha])) q1,lR hF jP oV ld _ _ _ _ ha (fun a ha=>hA a (by simp[ha])) q2,q3⟩
  . refine .inr ⟨K,m,b,s,?_,(jP m).trans q2,q3⟩;have q1:x.2.2=[V.map (some m)]:=q1;rw[q1]at ha;simp only[wu,Bk]at ha;cases L:fr m with
    |some _=>rw[L]at ha;cases ha
    |none=>rw[L]at ha;simp only[aq,aB]at ha;exact ha.2.symm
end
theorem Yq{fr:Nat->Option (ai)}{o o2:es}{hc:ah}(h:HC fr o=some (hc,o2)):o2.wr=o.wr:=by
 cases o<;>simp only[HC]at h<;>(try split at h)<;>first|(simp only[aq,aB]at h;obtain⟨_,rfl⟩:=h;rfl)|cases h
theorem Fb:∀(ms:List Nat) (h:I es) (k:Nat),(∀m∈ms,m<gO)->(yK ms h).get k=if k∈ms then none else h.get k
 | [],h,k,_=>by simp[yK]
 |m::ms,h,k,ht=>by
  rw[yK,Fb ms _ k fun m L=>ht m (by simp[L]),I.gC _ _ _ (ht m (by simp))];by_cases h1:k∈ms
  . simp[h1]
  . by_cases C:k=m
    . simp[C]
    . simp[h1,C]
theorem Dj{h:I es}:∀{ms:List Nat},Mk h ms=true->∀m∈ms,m<gO/\∃o cs,h.get m=some o/\Dh o=some cs
 | [],_,m,L=>by simp at L
 |x::ms,h,m,L=>by
  simp only[Mk,ay]at h;rcases aA.1 L with rfl|L
  . refine⟨aE h.1,?_⟩;have:=h.2.1;split at this
    . rename_i o ho;split at this
      . rename_i cs A;exact⟨o,cs,ho,A⟩
      . cases this
    . cases this
  . exact Dj h.2.2 m L
theorem Qi{h:I es}{ms:List Nat}{m:Nat}{cs:ai}(e:Yp h ms m=some cs):m∈ms/\∃o,h.get m=some o/\Dh o=some cs:=by
 unfold Yp at e;split at e
 . rename_i ha;split at e
   . rename_i o ho;obtain⟨x,K,q⟩:=List.any_eq_true.1 ha;have:=aJ q;subst this;exact⟨K,o,ho,e⟩
   . cases e
 . cases e
theorem BZ{o:es}{cs:ai}(h:Dh o=some cs):o.wr=true:=by cases o<;>simp[Dh]at h<;>rfl
theorem I4{E:Env}{w:World}{b s:Nat}{o:es}{cs:ai}(h:Dh o=some cs)(r:nT E w b s o):∃c el fz vs,w.heap[b]? =some (.cells c el fz)/\jl E.φ cs vs/\∀(j:Nat) (x:Value),vs[j]? =some x->c[s+j]? =some x:=by
 cases o<;>simp only[Dh,aq,reduceCtorEq]at h
 . obtain⟨c,el,fz,h1,_,_,h4⟩:=r;obtain⟨vs,k1,k2⟩:=rW.1 h4;exact⟨c,el,fz,vs,h1,tc h k1,k2⟩
 . rename_i k W;subst h;obtain⟨c,el,fz,h1,_,_,h4⟩:=r;have e:D.gk (W.map (.int k))=W.map (.int k):=by rw[D.gy,List.map_map];rfl
   obtain⟨vs,k1,k2⟩:=(nV (fun x K=>by obtain⟨_,_,rfl⟩:=bP.1 K;rfl)).1 (by rw[e];exact h4:mj E s (D.gk (W.map (.int k))) c);exact⟨c,el,fz,vs,h1,k1,k2⟩
 . subst h;obtain⟨c,el,fz,vs,h1,_,_,h4,h5⟩:=r;exact⟨c,el,fz,vs,h1,h4,h5⟩
open Classical in
noncomputable def wv(E:Env)(fr:Nat->Option (ai))(w:World)(b:Nat):Option (Array Value):=if ∃m s,(fr m).isSome=true/\E.ι m=some (b,s)then(match w.heap[b]? with|some (.cells c _ _)=>some c|_=>none)else E.φ b
theorem vW{N n0:Nat}{ms:List Nat}{s s2:St}{hc:ah}{E:Env}{a:Act}{w:World}(e:Ue ms s=some (hc,s2))(hA:∀x∈hc,x)(r:lI E n0 s a w)(hn:N<=s.n):
  ∃E2,lI E2 n0 s2 a w/\mO N E s.h w E2 s2.h w/\N<=s2.n/\(∀m,E2.ι m=E.ι m):=by
 unfold Ue at e;split at e
 case h_2=>cases e
 rename_i Uh;split at e
 case h_2=>cases e
 rename_i A1 PE zz;split at e
 case h_2=>cases e
 rename_i B1 C hh;split at e
 case h_2=>cases e
 rename_i C1 d2 Em;simp only[aq,aB]at e;obtain⟨rfl,rfl⟩:=e;have Uh:=Dj Uh;generalize hFd:Yp s.h ms=fr at *;have g:=r.good;have Yr:∀m cs,fr m=some cs->m∈ms/\∃o,s.h.get m=some o/\Dh o=some cs:=fun m cs q=>Qi (h:=s.h) (ms:=ms) (by rw[hFd];exact q);have hmF:∀m,m∈ms->(fr m).isSome=true:=by
  intro m L;obtain⟨_,o,cs,h1,h3⟩:=Uh m L;rw[<- hFd];unfold Yp;rw[show ms.any (Nat.beq m)=true from List.any_eq_true.2 ⟨m,L,Nat.beq_refl m⟩,h1];simp only[h3];rfl
 have qJ:∀b c,E.φ b=some c->wv E fr w b=some c:=by
  intro b c q;unfold wv;rw[aD];. exact q
  rintro⟨m,T,h1,h3⟩;obtain⟨cs,qH⟩:=bR.1 h1;obtain⟨_,o,k1,k2⟩:=Yr m cs qH;exact(g.jG b c q).2 m T ⟨o,k1,BZ k2⟩ h3
 let E2:Env:=⟨E.ι,E.β,wv E fr w⟩
 have hFz:Yo fr E E2.φ:=by
  intro m cs qH b T U;obtain⟨_,o,k1,k2⟩:=Yr m cs qH;obtain⟨b',t,q1,q2⟩:=g.rel m o k1;rw[U]at q1;cases q1;obtain⟨c,el,fz,vs,p1,p2,p3⟩:=I4 k2 q2;refine⟨c,vs,?_,ja qJ _ _ p2,p3⟩;show wv E fr w b=some c;unfold wv;rw[aF ⟨m,T,by rw[qH];rfl,U⟩,p1]
 have hA1:∀x∈A1,x:=fun x K=>hA x (by simp[K]);have hB1:∀x∈B1,x:=fun x K=>hA x (by simp[K]);have hC1:∀x∈C1,x:=fun x K=>hA x (by simp[K]);have pF:∀k o2,(yK ms C).get k=some o2->k∉ms/\∃o aj,s.h.get k=some o/\HC fr o=some (aj,o2)/\∀b∈aj,b:=by
  intro k o2 q;rw[Fb ms C k fun m L=>(Uh m L).1]at q;split at q
  . cases q
  . rename_i hk;obtain⟨o,aj,q1,q2,q3⟩:=Ag _ _ _ hh k o2 q;exact⟨hk,o,aj,q1,q2,fun b U=>hB1 b (q3 b U)⟩
 have Wk:∀k,fu (yK ms C) k->k∉ms/\fu s.h k:=by
  rintro k ⟨o2,q1,q2⟩;obtain⟨hk,o,aj,p1,p2,_⟩:=pF k o2 q1;exact⟨hk,o,p1,(Yq p2).symm.trans q2⟩
 have FO:∀k,(yK ms C).get k≠none->s.h.get k≠none:=by
  intro k q;obtain⟨o2,q⟩:=bK.1 q;obtain⟨_,o,_,p1,_⟩:=pF k o2 q;rw[p1];simp
 have yC:Good E2 (yK ms C) w:=by
  refine⟨fun m o2 L=>?_,fun m m' b t t' jD L ue e1 e2=>g.inj m m' b t t' jD (Wk m L).2 (FO m' ue) e1 e2,g.qG,g.lG,fun b c q=>?_⟩
  . obtain⟨_,o,aj,p1,p2,p3⟩:=pF m o2 L;obtain⟨b,t,q1,q2⟩:=g.rel m o p1;exact⟨b,t,q1,Ug (E':=E2) hFz (fun _=>rfl) rfl qJ o o2 aj p2 p3 q2⟩
  . have q:wv E fr w b=some c:=q;unfold wv at q;split at q
    . rename_i KK;obtain⟨m,t,h1,h3⟩:=KK;obtain⟨cs,qH⟩:=bR.1 h1;obtain⟨hms,o,k1,k2⟩:=Yr m cs qH;refine⟨?_,fun m' t' ue e1=>?_⟩
      . split at q
        . rename_i c' el fz A;cases q;exact⟨el,fz,A⟩
        . cases q
      . obtain⟨hnm,hw'⟩:=Wk m' ue;exact g.inj m m' b t t' (fun z=>hnm (z▸hms)) ⟨o,k1,BZ k2⟩ hw'.live h3 e1
    . exact⟨(g.jG b c q).1,fun m' t' ue=>(g.jG b c q).2 m' t' (Wk m' ue).2⟩
 refine⟨E2,⟨yC,r.rO,fun t v2 hv=>?_,r.size,I3 (E':=E2) hFz (fun _=>rfl) rfl qJ _ _ _ _ Em hC1 r.iZ⟩,⟨fun m b t _ q=>⟨q,rfl⟩,fun _ _=>rfl,qJ,yC,aK _,rfl,rfl,rfl,fun _ _ _=>rfl,fun m b t L q _=>⟨m,t,FO m L,q,fun z=>(Wk m z).2⟩,fun b c q=>?_⟩,hn,fun _=>rfl⟩
 . obtain⟨v,aj,q1,q2,q3⟩:=vV _ _ _ zz t v2 hv;obtain⟨v',k1,k2⟩:=r.F t v q1;exact⟨v',k1,tL (E':=E2) hFz (fun _=>rfl) rfl qJ _ _ _ _ q2 (fun x K=>hA1 x (q3 x K)) k2⟩
 . have q:wv E fr w b=some c:=q;unfold wv at q;split at q
   . rename_i KK;obtain⟨m,t,h1,h3⟩:=KK;obtain⟨cs,qH⟩:=bR.1 h1;obtain⟨_,o,k1,k2⟩:=Yr m cs qH;exact .inr (.inr ⟨m,t,⟨o,k1,BZ k2⟩,h3⟩)
   . exact .inl q
theorem Ys{P:Program}{N n0:Nat}{c:Code}{s s2:St}{hc:ah}{Q:Exit->St->Prop}(ms:List Nat)(e:Ue ms s=some (hc,s2))(hA:∀x∈hc,x)(h:TG P N n0 c s2 Q):TG P N n0 c s Q:=by
 intro E a w hx r hn k;obtain⟨E2,r2,u2,qQ,_⟩:=vW e hA r hn;exact h E2 a w hx r2 qQ fun y T E' a' w' q u oy r'=>k y T E' a' w' q (u2.trans u) oy r'
def Fc(h:I es):List Nat->Option (I es)
 | []=>some h
 |m::r=>match h.get m with
  |some (.cells cs)=>match iQ cs with
   |some ds=>match Nat.blt m gO with
    |true=>Fc (h.set m (some (.deep ds))) r
    |false=>none
   |none=>none
  |some (.own k W)=>match Nat.blt m gO with
   |true=>Fc (h.set m (some (.deep (W.map (.int k))))) r
   |false=>none
  |_=>none
section
variable{E:Env}{w:World}{b s:Nat}
theorem pV{h:I es}{w:World}{m:Nat}{o o2:es}(ht:m<gO)(L:h.get m=some o)(hw:o.wr=true)(ho:∀b s,E.ι m=some (b,s)->nT E w b s o->nT E w b s o2)(g:Good E h w):
  Good E (h.set m (some o2)) w/\∀j,((h.set m (some o2)).get j≠none↔h.get j≠none)/\(fu (h.set m (some o2)) j->fu h j):=by
 have pF:∀j,(h.set m (some o2)).get j=if j=m then some o2 else h.get j:=fun j=>I.gC _ _ _ ht
 have FO:∀j,((h.set m (some o2)).get j≠none↔h.get j≠none)/\(fu (h.set m (some o2)) j->fu h j):=by
  intro j;rw[pF];by_cases q:j=m
  . subst q;rw[aF rfl,L];exact⟨by simp,fun _=>⟨_,L,hw⟩⟩
  . rw[aD q];exact⟨Iff.rfl,fun z=>qg ht z q⟩
 refine⟨⟨fun j o' hj=>?_,fun j j' b s T jD hj zB e1 e2=>g.inj j j' b s T jD ((FO j).2 hj) ((FO j').1.1 zB) e1 e2,g.qG,g.lG,fun b c q=>⟨g.fz b c q,fun m' s ue=>(g.jG b c q).2 m' s ((FO m').2 ue)⟩⟩,FO⟩;rw[pF]at hj;split at hj
 . rename_i q;subst q;obtain rfl:=eZ hj;obtain⟨b,s,h1,C⟩:=g.rel j _ L;exact⟨b,s,h1,ho b s h1 C⟩
 . exact g.rel j o' hj
theorem KL{cs:ag}{ds:ai}(hd:iQ cs=some ds)(r:nT E w b s (.cells cs)):nT E w b s (.deep ds):=by
 obtain⟨c,el,fz,h1,C,h3,h4⟩:=r;obtain⟨vs,k1,k2⟩:=rW.1 h4;exact⟨c,el,fz,vs,h1,C,h3,tc hd k1,k2⟩
theorem Qj{k:IntKind}{W:List Int}(r:nT E w b s (.own k W)):nT E w b s (.deep (W.map (.int k))):=by
 obtain⟨c,el,fz,h1,C,h3,h4⟩:=r;have e:D.gk (W.map (.int k))=W.map (.int k):=by rw[D.gy,List.map_map];rfl
 obtain⟨vs,k1,k2⟩:=(nV (fun x K=>by obtain⟨_,_,rfl⟩:=bP.1 K;rfl)).1 (by rw[e];exact h4:mj E s (D.gk (W.map (.int k))) c);exact⟨c,el,fz,vs,h1,C,h3,k1,k2⟩
end
theorem qD{E:Env}{w:World}:∀(l:List Nat) (h C:I es),Fc h l=some C->Good E h w->Good E C w/\∀m,(C.get m≠none↔h.get m≠none)/\(fu C m->fu h m)
 | [],h,C,e,g=>by simp only[Fc,aq]at e;subst e;exact⟨g,fun m=>⟨Iff.rfl,id⟩⟩
 |m::r,h,C,e,g=>by
  unfold Fc at e;split at e
  . rename_i cs L;split at e
    case h_2=>cases e
    rename_i ds hd;split at e
    case h_2=>cases e
    rename_i ht;obtain⟨g1,k1⟩:=pV (aE ht) L rfl (fun b s _ q=>KL hd q) g;obtain⟨g2,k2⟩:=qD r _ C e g1;exact⟨g2,fun j=>⟨(k2 j).1.trans (k1 j).1,fun z=>(k1 j).2 ((k2 j).2 z)⟩⟩
  . rename_i k W L;split at e
    case h_2=>cases e
    rename_i ht;obtain⟨g1,k1⟩:=pV (aE ht) L rfl (fun b s _ q=>Qj q) g;obtain⟨g2,k2⟩:=qD r _ C e g1;exact⟨g2,fun j=>⟨(k2 j).1.trans (k1 j).1,fun z=>(k1 j).2 ((k2 j).2 z)⟩⟩
  . cases e
def Dk(l:List Nat)(s:St):Option St:=match Fc s.h l with
 |some h=>some { s with h:=h }
 |none=>none
section
variable{P:Program}{N n0:Nat}{c:Code}{s:St}
theorem Qk{C:I es}{Q:Exit->St->Prop}(hg:∀E w,Good E s.h w->Good E C w/\∀m,(C.get m≠none↔s.h.get m≠none)/\(fu C m->fu s.h m))(h:TG P N n0 c { s with h:=C } Q):TG P N n0 c s Q:=by
 intro E a w hx r hn k;obtain⟨g2,k2⟩:=hg E w r.good;have u:mO N E s.h w E C w:=⟨fun _ _ _ _ e=>⟨e,rfl⟩,fun _ _=>rfl,fun _ _ q=>q,g2,aK _,rfl,rfl,rfl,fun _ _ _=>rfl,fun m b s1 L e1 _=>⟨m,s1,(k2 m).1.1 L,e1,(k2 m).2⟩,fun _ _ q=>.inl q⟩;exact h E a w hx ⟨g2,r.rO,r.F,r.size,r.iZ⟩ hn fun y T E' a' w' q u' oy r'=>k y T E' a' w' q (u.trans u') oy r'
theorem Ui{s2:St}{Q:Exit->St->Prop}(l:List Nat)(e:Dk l s=some s2)(h:TG P N n0 c s2 Q):TG P N n0 c s Q:=by
 unfold Dk at e;split at e
 case h_2=>cases e
 rename_i C hh;obtain rfl:=eZ e;exact Qk (fun E w g=>qD l s.h C hh g) h
end
theorem NZ{E:Env}{w:World}{b s:Nat}{c:Nat}(kd:Option IntKind)(r:nT E w b s (.map [] c)):nT E w b s (.gL kd []):=by
 obtain⟨hs,ga,h1,C⟩:=r;have:ga.toList=[]:=C;refine⟨hs,ga,c,h1,⟨⟨[],.refl _,by rw[this];rfl⟩,by simp,by simp,by rw[this];simp,by rw[this];simp⟩⟩
def Ql(h:I es):List (Nat×Option IntKind)->Option (I es)
 | []=>some h
 |(m,kd)::r=>match h.get m with
  |some (.map [] _)=>match Nat.blt m gO with
   |true=>Ql (h.set m (some (.gL kd []))) r
   |false=>none
  |_=>none
theorem Fe{E:Env}{w:World}:∀(l:List (Nat×Option IntKind)) (h C:I es),Ql h l=some C->Good E h w->Good E C w/\∀m,(C.get m≠none↔h.get m≠none)/\(fu C m->fu h m)
 | [],h,C,e,g=>by simp only[Ql,aq]at e;subst e;exact⟨g,fun m=>⟨Iff.rfl,id⟩⟩
 |(m,kd)::r,h,C,e,g=>by
  unfold Ql at e;split at e
  case h_2=>cases e
  rename_i c L;split at e
  case h_2=>cases e
  rename_i ht;obtain⟨g1,k1⟩:=pV (aE ht) L rfl (fun b s _ q=>NZ kd q) g;obtain⟨g2,k2⟩:=Fe r _ C e g1;exact⟨g2,fun j=>⟨(k2 j).1.trans (k1 j).1,fun z=>(k1 j).2 ((k2 j).2 z)⟩⟩
def Yt(l:List (Nat×Option IntKind))(s:St):Option St:=match Ql s.h l with
 |some h=>some { s with h:=h }
 |none=>none
theorem Yu{P:Program}{N n0:Nat}{c:Code}{s s2:St}{Q:Exit->St->Prop}(l:List (Nat×Option IntKind))(e:Yt l s=some s2)(h:TG P N n0 c s2 Q):TG P N n0 c s Q:=by
 unfold Yt at e;split at e
 case h_2=>cases e
 rename_i C hh;obtain rfl:=eZ e;exact Qk (fun E w g=>Fe l s.h C hh g) h
def N0:List (List Nat)->St->Option (ah×St)
 | [],s=>some ([],s)
 |ms::r,s=>match Ue ms s with
  |some (hc,s)=>match N0 r s with
   |some (aj,s)=>some (hc++aj,s)
   |none=>none
  |none=>none
theorem Dl{N n0:Nat}{w:World}{a:Act}:∀(l:List (List Nat)) {s s2:St} {hc:ah} {E:Env},N0 l s=some (hc,s2)->(∀x∈hc,x)->lI E n0 s a w->N<=s.n->
  ∃E2,lI E2 n0 s2 a w/\mO N E s.h w E2 s2.h w/\N<=s2.n/\(∀m,E2.ι m=E.ι m)
 | [],s,s2,hc,E,e,_,r,hn=>by
   simp only[N0,aq,aB]at e;obtain⟨rfl,rfl⟩:=e;exact⟨E,r,.refl r.good,hn,fun _=>rfl⟩
 |ms::l,s,s2,hc,E,e,hA,r,hn=>by
  simp only[N0]at e;split at e
  case h_2=>cases e
  rename_i A1 s1 h1;split at e
  case h_2=>cases e
  rename_i B1 s3 h3;obtain⟨rfl,rfl⟩:=gr e;obtain⟨E1,r1,u1,n1,i1⟩:=vW h1 (fun x K=>hA x (by simp[K])) r hn;obtain⟨E2,r2,u2,n2,i2⟩:=Dl l h3 (fun x K=>hA x (by simp[K])) r1 n1;exact⟨E2,r2,u1.trans u2,n2,fun m=>(i2 m).trans (i1 m)⟩
def Qm(v:V)(u:V)(h:I es)(n:Nat):Prop:=∃l hc s2,N0 l { F:=I.nil.set 0 (some u),h:=h,n:=n,iZ:=[] }=some (hc,s2)/\(∀a∈hc,a)/\s2.F.get 0=some v
theorem Qm.self{v:V}{h:I es}{n:Nat}:Qm v v h n:=⟨[],[],_,rfl,by simp,I.pE _ _ fg⟩
theorem Dm{E E1:Env}{h h0 h':I es}{n n':Nat}{w w':World}{u v:V}{en:Ending}(g:Good E h w)(hd:qK E n)(ld:E1.φ=E.φ)(Ym:∀m,¬fu h0 m)(hv:v.deep=true)(hz:Qm v u h' n')
  (c:jx E1 h0 gN w (.ret u) h' n' en w'):jx E h n w (.ret v) h n en w':=by
 obtain⟨E2,u2,_,qt,hn,ho⟩:=c;cases en with
 |returned x=>
  have ho:eH E2 u x:=ho;obtain⟨l,hc,s2,e1,hA,e2⟩:=hz;have sr:lI E2 1 { F:=I.nil.set 0 (some u),h:=h',n:=n',iZ:=[] } { tmps:=#[x],defers:=[] } w':=by
   refine⟨u2.good,qt,fun t y hy=>?_,rfl,rfl⟩;rw[I.gC _ _ _ fg]at hy;split at hy
   . rename_i q;subst q;cases hy;exact⟨x,rfl,ho⟩
   . simp[I.get]at hy
  obtain⟨E3,r3,u3,_,_⟩:=Dl (N:=0) l e1 hA sr (aR _);obtain⟨x',q1,q2⟩:=r3.F 0 v e2;simp only[List.getElem?_toArray,cT,aq]at q1;subst q1;have WL:∀b,b<w.heap.size->w'.heap[b]? =w.heap[b]?:=fun b U=>u2.keep b U fun m s L=>absurd L (Ym m);have bl:Below w.heap.size w w':=⟨u2.os,u2.tape,u2.output,u2.size,WL⟩;have gb:=g.below bl;have PY:∀b c,E3.φ b=some c->E.φ b=some c\/w.heap.size<=b:=by
   intro b c q;have k3:∀m s,fu h' m->E2.ι m=some (b,s)->w.heap.size<=b:=by
    intro m s L e;rcases bx b w.heap.size with z|z
    . obtain⟨m0,s0,_,_,k0⟩:=u2.wj m b s L.live e z;exact absurd (k0 L) (Ym m0)
    . exact z
   rcases u3.FM b c q with q|q|⟨m,s,p1,p2⟩
   . rcases u2.FM b c q with q|q|⟨m,s,p1,p2⟩
     . exact .inl (ld▸q)
     . exact .inr q
     . exact absurd p1 (Ym m)
   . exact .inr (bN u2.size q)
   . exact .inr (k3 m s p1 p2)
  have Ws:∀b c,E.φ b=some c->E3.φ b=some c:=fun b c q=>u3.fz b c (u2.le.fz b c (ld▸q))
  let E':Env:=⟨E.ι,E.β,E3.φ⟩
  have kZ:E.le E':=⟨fun m b s q=>⟨q,rfl⟩,Ws⟩;have adF:Good E' h w':=by
   refine⟨fun m o L=>?_,gb.inj,gb.qG,gb.lG,fun b c q=>⟨r3.good.fz b c q,fun m s L e=>?_⟩⟩
   . obtain⟨b,s,k1,k2⟩:=gb.rel m o L;exact⟨b,s,k1,jV kZ rfl rfl k2⟩
   . rcases PY b c q with z|z
     . exact(g.jG b c z).2 m s L e
     . have:=g.qG m b s e;omega
  refine⟨E',⟨kZ,adF,u2.size,u2.tape,u2.os,u2.output,fun b U _=>WL b U,fun m b s L e _=>⟨m,s,L,e,id⟩,fun b c q=>?_⟩,fun _ _=>rfl,hd,aK _,(Dg (E:=E3) (E':=E') (fun _ _ q=>q) v x hv q2:eH E' v x)⟩;rcases PY b c q with z|z
  . exact .inl z
  . exact .inr (.inl z)
 |_=>exact ho.elim
def ee(P:Program)(f:FuncId)(args:ag)(v:V):Prop:=∀E h n w dZ,eK E args dZ->Good E h w->qK E n->Calls P f dZ.toArray w (jx E h n w (.ret v) h n)
theorem KM{P:Program}(L:P.follows .mixedOrders=true)(sW:kn P=true){f:FuncId}{fn:Func}{code:Code}(hf:P.funcs[f]? =some fn)(U:fn.body=some code){args:ag}
  (l:(Nat.ble args.length fn.ntmps&&Nat.blt fn.ntmps gO)=true) {v:V} (Uj:V.qC args=true) (hv:v.deep=true) (hT:TG P gN fn.ntmps code (dI args .nil gN) (gi P gN fn (Qm v))):ee P f args v:=by
 intro E h n w dZ ra g hd;have g0:Good (BH E.φ) .nil w:=xx g.wg g.fz;have ra0:eK (BH E.φ) args dZ:=lZ (E:=E) (E':=BH E.φ) (fun _ _ q=>q) _ _ Uj ra;exact(qV L sW hf U l _ hT ra0 g0 (C3 (aK _))).mono fun e w' ⟨u,h',n',hz,k⟩=>Dm (E1:=BH E.φ) g hd rfl xB hv hz k
def Ff:ag->Option (ai)
 | []=>some []
 |x::xs=>match V.J2 x with
  |some d=>match Ff xs with
   |some l=>some (d::l)
   |none=>none
  |none=>none
theorem Ah{E:Env}:∀{xs:ag} {ds:ai},Ff xs=some ds->∀{l:List Value},eK E xs l->eK E (ds.map D.kx) l
 | [],ds,h,l,r=>by simp only[Ff,aq]at h;subst h;exact r
 |x::xs,ds,h,l,r=>by
  simp only[Ff]at h;split at h
  case h_2=>cases h
  rename_i d hd;split at h
  case h_2=>cases h
  rename_i l' hl;obtain rfl:=eZ h;obtain⟨y,ys,r0,rs,rfl⟩:=r;exact⟨y,ys,rT _ _ (x7 hd r0).1,Ah hl rs,rfl⟩
mutual
theorem Qn:∀d:D,d.kx.deep=true
 | .bool _=>rfl
 | .int _ _=>rfl
 | .str _=>rfl
 | .eM _ _=>rfl
 | .agg cs=>by simp only[D.kx,V.deep];exact Ai cs
theorem Ai:∀l:ai,V.qC (D.gk l)=true
 | []=>rfl
 |x::xs=>by simp only[D.gk,V.qC,Qn x,Ai xs,Bool.and_self]
end
theorem Qo(l:ai):V.qC (l.map D.kx)=true:=by rw[<- D.gy];exact Ai l
def dW(f:ai->Option (ah×V)):ag->I es->Nat->Option (ah×V×I es×Nat):=fun args h n=>match Ff args with
 |some ds=>match f ds with
  |some (hc,v)=>some (hc,v,h,n)
  |none=>none
 |none=>none
theorem Qp{P:Program}{f:FuncId}{spec:ai->Option (ah×V)}(fj:f<P.funcs.size)(h:∀args hc v,spec args=some (hc,v)->(∀a∈hc,a)->ee P f (args.map D.kx) v):jM P f (dW spec):=by
 refine⟨fj,fun args h' n hc v C n2 e hA E w dZ ra g hd A=>?_⟩;unfold dW at e;split at e
 . rename_i ds hds;split at e
   . rename_i A' v' hs;simp only[aq,aB]at e;obtain⟨rfl,rfl,rfl,rfl⟩:=e;exact h ds _ _ hs hA E h' n w dZ (Ah hds ra) g hd
   . cases e
 . cases e
def Env.pick(E:Env)(ns:List (Option Nat)):Env:=⟨fun j=>match ns.getD j none with
 |some m=>E.ι m
 |none=>none,E.β,E.φ⟩
theorem mJ{E:Env}{ns:List (Option Nat)}{j m:Nat}(h:ns.getD j none=some m):(E.pick ns).ι j=E.ι m:=by
 show(match ns.getD j none with|some m=>E.ι m|none=>none)=_;rw[h]
def Qq:List (Option Nat)->Nat->Nat->Option Nat
 | [],_,_=>none
 |none::r,j,m=>Qq r (j+1) m
 |some k::r,j,m=>match Nat.beq k m with
  |true=>some j
  |false=>Qq r (j+1) m
theorem Aj:∀(l:List (Option Nat)) (j m k:Nat),Qq l j m=some k->j<=k/\l.getD (k-j) none=some m
 | [],_,_,_,h=>by cases h
 |none::r,j,m,k,h=>by
  obtain⟨h1,C⟩:=Aj r (j+1) m k h;refine⟨S,?_⟩;rw[show k-j=(k-(j+1))+1 by omega];simpa using C
 |some x::r,j,m,k,h=>by
  simp only[Qq]at h;split at h
  . rename_i U;obtain rfl:=eZ h;refine⟨aK _,?_⟩;simp[aJ U]
  . obtain⟨h1,C⟩:=Aj r (j+1) m k h;refine⟨S,?_⟩;rw[show k-j=(k-(j+1))+1 by omega];simpa using C
abbrev mu(ns:List (Option Nat)):Nat->Option Nat:=Qq ns 0
theorem Uk{ns:List (Option Nat)}{m k:Nat}(h:mu ns m=some k):ns.getD k none=some m:=by
 have:=(Aj ns 0 m k h).2;simpa using this
theorem Qr{E:Env}{ns:List (Option Nat)}:∀m k,mu ns m=some k->(E.pick ns).ι k=E.ι m:=fun _ _ h=>mJ (Uk h)
def Ak:List (Option Nat)->Bool
 | []=>true
 |none::r=>Ak r
 |some k::r=>!(r.any fun x=>match x with|some j=>Nat.beq k j|none=>false)&&Ak r
theorem vn:∀{l:List (Option Nat)},Ak l=true->∀i j m,l.getD i none=some m->l.getD j none=some m->i=j
 | [],_,i,_,_,h,_=>by simp at h
 |none::r,h,i,j,m,h1,C=>by
  cases i with
  |zero=>simp at h1
  |succ i=>cases j with
   |zero=>simp at C
   |succ j=>rw[vn (l:=r) h i j m (by simpa using h1) (by simpa using C)]
 |some k::r,h,i,j,m,h1,C=>by
  simp only[Ak,ay,bZ]at h;have no:∀q,r.getD q none≠some k:=by
   intro q hq;have L:some k∈r:=by
    rw[ax]at hq;cases K:r[q]? with
    |none=>rw[K]at hq;cases hq
    |some x=>rw[K]at hq;simp only[cA]at hq;subst hq;exact List.mem_of_getElem? K
   have:(r.any fun x=>match x with|some j=>Nat.beq k j|none=>false)=true:=List.any_eq_true.2 ⟨_,L,Nat.beq_refl k⟩;rw[this]at h;cases h.1
  cases i with
  |zero=>
   simp at h1;subst h1;cases j with
   |zero=>rfl
   |succ j=>exact absurd (by simpa using C) (no j)
  |succ i=>cases j with
   |zero=>simp at C;subst C;exact absurd (by simpa using h1) (no i)
   |succ j=>rw[vn h.2 i j m (by simpa using h1) (by simpa using C)]
structure Gp(ns:List (Option Nat))(h h1:I es):Prop where
 lG:∀p∈ux,ns.getD p.2 none=some p.2
 one:Ak ns=true
 live:∀j m,ns.getD j none=some m->(∃p∈ux,p.2=m)\/h.get m≠none
 get:∀j o1,h1.get j=some o1->∃m o,ns.getD j none=some m/\h.get m=some o/\o.rn (mu ns)=some o1
theorem Ml{E:Env}{h h1:I es}{w:World}{ns:List (Option Nat)}(g:Good E h w)(k:Gp ns h h1):Good (E.pick ns) h1 w/\qK (E.pick ns) ns.length:=by
 have hw:∀j,fu h1 j->∃m,ns.getD j none=some m/\fu h m:=by
  rintro j ⟨o1,C,h3⟩;obtain⟨m,o,q1,q2,q3⟩:=k.get j o1 C;exact⟨m,q1,o,q2,(IL q3).symm.trans h3⟩
 refine⟨⟨fun j o1 hj=>?_,fun j j' b s T jD hj zB e1 e2=>?_,fun j b s e=>?_,fun p hp=>?_,fun b c q=>⟨g.fz b c q,fun j s hj e=>?_⟩⟩,fun j hj=>?_⟩
 . obtain⟨m,o,q1,q2,q3⟩:=k.get j o1 hj;obtain⟨b,s,e1,e2⟩:=g.rel m o q2;exact⟨b,s,(mJ q1).trans e1,Ga (E':=E.pick ns) Qr (fun _ _ _ _ _ _=>rfl) (fun _ _ q=>q) rfl o o1 q3 e2⟩
 . obtain⟨m,q1,q2⟩:=hw j hj;obtain⟨o',zB⟩:=bK.1 zB;obtain⟨m',o,p1,p2,_⟩:=k.get j' o' zB;rw[mJ q1]at e1;rw[mJ p1]at e2;by_cases L:m=m'
   . subst L;exact jD (vn k.one j j' m q1 p1)
   . exact g.inj m m' b s T L q2 (by rw[p2];simp) e1 e2
 . have e:(match ns.getD j none with|some m=>E.ι m|none=>none)=some (b,s):=e;split at e
   . exact g.qG _ b s e
   . cases e
 . rw[mJ (k.lG p hp)];exact g.lG p hp
 . obtain⟨m,q1,q2⟩:=hw j hj;rw[mJ q1]at e;exact(g.jG b c q).2 m s q2 e
 . show(match ns.getD j none with|some m=>E.ι m|none=>none)=none;rw[ax,cF (show ns.length<=j from hj)];rfl
def WM(ns:List (Option Nat))(oU:I es)(N n m:Nat):Option Nat:=match Nat.blt m N with
 |true=>ns.getD m none
 |false=>match oU.get m with
  |some o=>match o.wr with
   |true=>some (n+(m-N))
   |false=>none
  |none=>none
def Dn(ν:Nat->Option Nat)(ns:List (Option Nat))(h1 oU:I es):Nat->Nat->I es->Option (I es)
 |0,_,h=>some h
 |i+1,q,h=>match h1.get q with
  |some o0=>match o0.wr with
   |true=>match ns.getD q none with
    |some m=>match Nat.blt m gO with
     |true=>match oU.get q with
      |some o=>match o.wr with
       |true=>match o.rn ν with
        |some o2=>Dn ν ns h1 oU i (q+1) (h.set m (some o2))
        |none=>none
       |false=>none
      |none=>Dn ν ns h1 oU i (q+1) (h.set m none)
     |false=>none
    |none=>none
   |false=>Dn ν ns h1 oU i (q+1) h
  |none=>Dn ν ns h1 oU i (q+1) h
def N1(ν:Nat->Option Nat)(h1:I es):Nat->Nat->I es->Option (I es)
 |0,_,h=>some h
 |i+1,j,h=>match ν j with
  |none=>N1 ν h1 i (j+1) h
  |some k=>match h1.get j with
   |some o=>match o.rn ν with
    |some o2=>match Nat.blt k gO with
     |true=>N1 ν h1 i (j+1) (h.set k (some o2))
     |false=>none
    |none=>none
   |none=>none
def Qs(ns:List (Option Nat))(h1:I es)(r:V×I es×Nat)(h:I es)(n:Nat):Option (V×I es×Nat):=
 match r.1.rn (WM ns r.2.1 ns.length n)with
 |some v=>match Dn (WM ns r.2.1 ns.length n) ns h1 r.2.1 ns.length 0 h with
  |some C=>match N1 (WM ns r.2.1 ns.length n) r.2.1 (r.2.2-ns.length) ns.length C with
   |some h3=>some (v,h3,n+(r.2.2-ns.length))
   |none=>none
  |none=>none
 |none=>none
theorem vX{ν:Nat->Option Nat}{ns:List (Option Nat)}{h1 oU:I es}:∀(i q:Nat) (h C:I es),Dn ν ns h1 oU i q h=some C->∀m o,C.get m=some o->
  (h.get m=some o/\∀p,q<=p->p<q+i->fu h1 p->ns.getD p none≠some m)\/∃p,q<=p/\p<q+i/\fu h1 p/\ns.getD p none=some m/\∃o1,oU.get p=some o1/\o1.wr=true/\o1.rn ν=some o
 |0,q,h,C,e,m,o,L=>by simp only[Dn,aq]at e;subst e;exact .inl ⟨L,fun p h1 C=>by omega⟩
 |i+1,q,h,C,e,m,o,L=>by
  simp only[Dn]at e;have skip:(¬fu h1 q)->Dn ν ns h1 oU i (q+1) h=some C->_:=fun hq e=>vX i (q+1) h C e m o L;have oc:∀(h':I es) (x:Option es) (m0:Nat),m0<gO->h'=h.set m0 x->fu h1 q->ns.getD q none=some m0->(∀y,x=some y->∃o1,oU.get q=some o1/\o1.wr=true/\o1.rn ν=some y)->Dn ν ns h1 oU i (q+1) h'=some C->
    (h.get m=some o/\∀p,q<=p->p<q+(i+1)->fu h1 p->ns.getD p none≠some m)\/∃p,q<=p/\p<q+(i+1)/\fu h1 p/\ns.getD p none=some m/\∃o1,oU.get p=some o1/\o1.wr=true/\o1.rn ν=some o:=by
   intro h' x m0 ht hh hw JU K e;rcases vX i (q+1) h' C e m o L with⟨k1,k2⟩|⟨p,k1,k2,k3⟩
   . rw[hh,I.gC _ _ _ ht]at k1;split at k1
     . rename_i z;subst z;exact .inr ⟨q,aK _,S,hw,JU,K o k1⟩
     . rename_i z;refine .inl ⟨k1,fun p p1 p2 p3=>?_⟩;rcases Nat.eq_or_lt_of_le p1 with rfl|p1
       . rw[JU];intro c;cases c;exact z rfl
       . exact k2 p p1 S p3
   . exact .inr ⟨p,S,S,k3⟩
  have adH:(¬fu h1 q)->Dn ν ns h1 oU i (q+1) h=some C->
    (h.get m=some o/\∀p,q<=p->p<q+(i+1)->fu h1 p->ns.getD p none≠some m)\/∃p,q<=p/\p<q+(i+1)/\fu h1 p/\ns.getD p none=some m/\∃o1,oU.get p=some o1/\o1.wr=true/\o1.rn ν=some o:=by
   intro hq e;rcases vX i (q+1) h C e m o L with⟨k1,k2⟩|⟨p,k1,k2,k3⟩
   . refine .inl ⟨k1,fun p p1 p2 p3=>?_⟩;rcases Nat.eq_or_lt_of_le p1 with rfl|p1
     . exact absurd p3 hq
     . exact k2 p p1 S p3
   . exact .inr ⟨p,S,S,k3⟩
  split at e
  . rename_i o0 ho0;split at e
    . rename_i hw0;split at e
      case h_2=>cases e
      rename_i m0 JU;split at e
      case h_2=>cases e
      rename_i ht;have ht:=aE ht;split at e
      . rename_i o1 ho1;split at e
        case h_2=>cases e
        rename_i Kc;split at e
        case h_2=>cases e
        rename_i o2 PL;exact oc _ (some o2) m0 ht rfl ⟨o0,ho0,hw0⟩ JU (fun y hy=>by cases hy;exact⟨o1,ho1,Kc,PL⟩) e
      . exact oc _ none m0 ht rfl ⟨o0,ho0,hw0⟩ JU (fun y hy=>by cases hy) e
    . rename_i hw0;exact adH (fun⟨o,q1,q2⟩=>by rw[ho0]at q1;cases q1;rw[hw0]at q2;cases q2) e
  . rename_i ho0;exact adH (fun⟨o,q1,q2⟩=>by rw[ho0]at q1;cases q1) e
theorem Al{ν:Nat->Option Nat}{h1:I es}:∀(i j:Nat) (h C:I es),N1 ν h1 i j h=some C->∀m o,C.get m=some o->h.get m=some o\/∃q,j<=q/\q<j+i/\ν q=some m/\∃o1,h1.get q=some o1/\o1.rn ν=some o
 |0,j,h,C,e,m,o,L=>by simp only[N1,aq]at e;subst e;exact .inl L
 |i+1,j,h,C,e,m,o,L=>by
  simp only[N1]at e;split at e
  . rcases Al i (j+1) h C e m o L with q|⟨q,q1,q2,q3⟩
    . exact .inl q
    . exact .inr ⟨q,S,S,q3⟩
  . rename_i k hk;split at e
    case h_2=>cases e
    rename_i o1 ho;split at e
    case h_2=>cases e
    rename_i o2 PL;split at e
    case h_2=>cases e
    rename_i ht;rcases Al i (j+1) _ C e m o L with q|⟨q,q1,q2,q3⟩
    . rw[I.gC _ _ _ (show k<gO from aE ht)]at q;split at q
      . rename_i z;subst z;obtain rfl:=eZ q;exact .inr ⟨j,aK _,S,hk,o1,ho,PL⟩
      . exact .inl q
    . exact .inr ⟨q,S,S,q3⟩
theorem Mm{E:Env}{h h1:I es}{n:Nat}{w:World}{ns:List (Option Nat)}{r:V×I es×Nat}{v:V}{C:I es}{n2:Nat}(g:Good E h w)(hd:qK E n)(k0:Gp ns h h1)
  (he:Qs ns h1 r h n=some (v,C,n2)) {en:Ending} {w':World} (c:jx (E.pick ns) h1 ns.length w (.ret r.1) r.2.1 r.2.2 en w'):jx E h n w (.ret v) C n2 en w':=by
 obtain⟨v1,oU,KN⟩:=r;obtain⟨E2,u,gd,qt,hn,ho⟩:=c;simp only at u qt hn ho;unfold Qs at he;simp only at he;split at he
 case h_2=>cases he
 rename_i v' hv;split at he
 case h_2=>cases he
 rename_i hL' hhL;split at he
 case h_2=>cases he
 rename_i hH' hhH;simp only[aq,aB]at he;obtain⟨rfl,rfl,rfl⟩:=he;generalize Nq:ns.length=N at *
 let ν:=WM ns oU N n
 have Yv:∀m k,m<N->ν m=some k->ns.getD m none=some k:=by
  intro m k L hk;have U:Nat.blt m N=true:=Nat.ble_eq_true_of_le L;simp only[ν,WM,U]at hk;exact hk
 have Gq:∀m k,N<=m->ν m=some k->k=n+(m-N)/\fu oU m:=by
  intro m k L hk;have U:Nat.blt m N=false:=by
   cases q:Nat.blt m N with
   |false=>rfl
   |true=>exact absurd (aE q) (Nat.not_lt.2 L)
  simp only[ν,WM,U]at hk;split at hk
  . rename_i o ho1;split at hk
    . rename_i hw;simp only[aq]at hk;exact⟨hk.symm,o,ho1,hw⟩
    . cases hk
  . cases hk
 have pre:∀j,fu h1 j->∃m,ns.getD j none=some m/\fu h m:=by
  rintro j ⟨o1,q2,q3⟩;obtain⟨m,o,p1,p2,p3⟩:=k0.get j o1 q2;exact⟨m,p1,o,p2,(IL p3).symm.trans q3⟩
 have ako:∀j,h1.get j≠none->∃m,ns.getD j none=some m/\h.get m≠none:=by
  intro j hj;obtain⟨o1,q2⟩:=bK.1 hj;obtain⟨m,o,p1,p2,_⟩:=k0.get j o1 q2;exact⟨m,p1,by rw[p2];simp⟩
 have old:∀j b s,oU.get j≠none->E2.ι j=some (b,s)->b<w.heap.size->∃m s0,h.get m≠none/\E.ι m=some (b,s0)/\(∃j0,ns.getD j0 none=some m/\j0<N/\(fu oU j->fu h1 j0))/\(fu oU j->fu h m):=by
  intro j b s hj e U;obtain⟨j0,s0,q1,q2,q3⟩:=u.wj j b s hj e U;obtain⟨m,p1,p2⟩:=ako j0 q1;have hj0:j0<N:=by
   rcases bx j0 N with z|z
   . exact z
   . rw[ax,cF S]at p1;cases p1
  refine⟨m,s0,p2,by rw[<- mJ p1];exact q2,⟨j0,p1,hj0,q3⟩,fun z=>?_⟩;obtain⟨m',p3,p4⟩:=pre j0 (q3 z);rw[p1]at p3;cases p3;exact p4
 let E':Env:=⟨fun m=>if m<n then E.ι m else(match ν (N+(m-n))with|some _=>E2.ι (N+(m-n))|none=>none),fun b=>if b<w.heap.size then E.β b else E2.β b,E2.φ⟩
 have wP:∀m,m<n->E'.ι m=E.ι m:=fun m L=>aF L;have adI:∀j k,N<=j->ν j=some k->E'.ι k=E2.ι j:=by
  intro j k hj hk;obtain⟨rfl,_⟩:=Gq j k hj hk;show(if n+(j-N)<n then _ else _)=_;rw[aD S];have:N+(n+(j-N)-n)=j:=by omega
  rw[this,hk]
 have adJ:∀m k,m<N->ns.getD m none=some k->E2.ι m=E.ι k:=fun m k L hk=>(gd m L).trans (mJ hk);have hkn:∀k,E.ι k≠none->k<n:=fun k e=>by
  rcases bx k n with q|q
  . exact q
  . exact absurd (hd k q) e
 have jP:∀m k,ν m=some k->E'.ι k=E2.ι m:=by
  intro m k hk;by_cases L:m<N
  . have JU:=Yv m k L hk;rw[adJ m k L JU];by_cases Ij:k<n
    . exact wP k Ij
    . exact absurd (hkn k (by
       rcases k0.live m k JU with⟨p,hp,rfl⟩|q
       . rw[g.lG p hp];simp
       . obtain⟨o,q⟩:=bK.1 q;obtain⟨b,s,e,_⟩:=g.rel k o q;rw[e];simp)) Ij
  . exact adI m k (Nat.le_of_not_lt L) hk
 have kZ:E.le E':=by
  refine⟨fun m b s e=>?_,fun b c q=>u.le.fz b c q⟩;exact⟨(wP m (hkn m (by rw[e];simp))).trans e,aF (g.qG m b s e)⟩
 have Yw:qK E' (n+(KN-N)):=by
  intro m L;have L:n+(KN-N)<=m:=L;show(if m<n then _ else _)=none;rw[aD S];split
  . exact qt _ (by show KN<=_;omega)
  . rfl
 have Yx:∀m k b s,ν m=some k->E2.ι m=some (b,s)->E'.β b=E2.β b:=by
  intro m k b s hk e;show(if b<w.heap.size then E.β b else E2.β b)=_;split
  . rename_i U;by_cases L:m<N
    . have e1:(E.pick ns).ι m=some (b,s):=by rw[<- gd m L];exact e
      exact(u.le.nm m b s e1).2.symm
    . obtain⟨_,hw⟩:=Gq m k (Nat.le_of_not_lt L) hk;obtain⟨j0,s0,q1,q2,_⟩:=u.wj m b s hw.live e U;exact(u.le.nm j0 b s0 q2).2.symm
  . rfl
 have um:∀m o,hH'.get m=some o->(h.get m=some o/\m<n/\∀p,fu h1 p->ns.getD p none≠some m)\/(∃q,ν q=some m/\fu oU q/\(q<N->fu h1 q)/\∃o1,oU.get q=some o1/\o1.rn ν=some o):=by
  intro m o L;rcases Al _ _ _ _ hhH m o L with q|⟨q,q1,q2,q3,q4⟩
  . rcases vX _ _ _ _ hhL m o q with⟨k1,k2⟩|⟨p,k1,k2,k3,k4,o1,k5,k6,k7⟩
    . refine .inl ⟨k1,?_,fun p hp JU=>?_⟩
      . obtain⟨b,s,e,_⟩:=g.rel m o k1;exact hkn m (by rw[e];simp)
      . have hp0:p<N:=by
         rcases bx p N with z|z
         . exact z
         . rw[ax,cF S]at JU;cases JU
        exact k2 p (aR _) S hp JU
    . have hp0:p<N:=by omega
      refine .inr ⟨p,?_,⟨o1,k5,k6⟩,fun _=>k3,o1,k5,k7⟩;have U:Nat.blt p N=true:=Nat.ble_eq_true_of_le hp0;show WM ns oU N n p=some m;simp only[WM,U];exact k4
  . obtain⟨o1,p1,p2⟩:=q4;exact .inr ⟨q,q3,(Gq q m q1 q3).2,fun z=>absurd z (Nat.not_lt.2 q1),o1,p1,p2⟩
 have keep:∀m o,h.get m=some o->(∀p,fu h1 p->ns.getD p none≠some m)->∀b s,E.ι m=some (b,s)->w'.heap[b]? =w.heap[b]?:=by
  intro m o L hp b s e;refine u.keep b (g.qG m b s e) fun j t hj e2=>?_;obtain⟨m',p1,p2⟩:=pre j hj;rw[mJ p1]at e2;exact g.inj m' m b t s (fun z=>hp j hj (z▸p1)) p2 (by rw[L];simp) e2 e
 have yC:Good E' hH' w':=by
  refine⟨?_,?_,?_,g.lG.mono kZ,fun b c q=>⟨u.good.fz b c q,?_⟩⟩
  . intro m o L;rcases um m o L with⟨h0,Wj,hp⟩|⟨q,q1,_,_,o1,q3,q4⟩
    . obtain⟨b,s,e1,e2⟩:=g.rel m o h0;exact⟨b,s,(kZ.nm m b s e1).1,jV kZ (kZ.nm m b s e1).2 (keep m o h0 hp b s e1) e2⟩
    . obtain⟨b,s,e1,e2⟩:=u.good.rel q o1 q3;exact⟨b,s,(jP q m q1).trans e1,Ga (E':=E') jP Yx (fun _ _ q=>q) (Yx q m b s q1 e1) o1 o q4 e2⟩
  . rintro m m' b s T jD ⟨o,L,hw⟩ ue e1 e2;obtain⟨o',ue⟩:=bK.1 ue;rcases um m o L with⟨h0,Wj,hp⟩|⟨q,q1,q2,q5,o1,q3,q4⟩<;>rcases um m' o' ue with⟨h0',adK,hp'⟩|⟨q',q1',q2',q5',o1',q3',q4'⟩
    . rw[wP m Wj]at e1;rw[wP m' adK]at e2;exact g.inj m m' b s T jD ⟨o,h0,hw⟩ (by rw[h0'];simp) e1 e2
    . rw[wP m Wj]at e1;rw[jP q' m' q1']at e2;obtain⟨mm,s0,k1,k2,⟨j0,k3,_,k5⟩,k4⟩:=old q' b T q2'.live e2 (g.qG m b s e1);exact g.inj m mm b s s0 (fun z=>hp j0 (k5 q2') (z▸k3)) ⟨o,h0,hw⟩ k1 e1 k2
    . rw[wP m' adK]at e2;rw[jP q m q1]at e1;obtain⟨mm,s0,k1,k2,⟨j0,k3,_,k5⟩,k4⟩:=old q b s q2.live e1 (g.qG m' b T e2);exact g.inj mm m' b s0 T (fun z=>hp' j0 (k5 q2) (z▸k3)) (k4 q2) (by rw[h0'];simp) k2 e2
    . rw[jP q m q1]at e1;rw[jP q' m' q1']at e2;exact u.good.inj q q' b s T (fun z=>jD (by subst z;rw[q1]at q1';exact dB q1')) q2 q2'.live e1 e2
  . intro m b s e;by_cases L:m<n
    . rw[wP m L]at e;exact cO (g.qG m b s e) u.size
    . have e:(if m<n then E.ι m else(match ν (N+(m-n))with|some _=>E2.ι (N+(m-n))|none=>none))=some (b,s):=e;rw[aD L]at e;split at e
      . exact u.good.qG _ b s e
      . cases e
  . rintro m s ⟨o,L,hw⟩ e;rcases um m o L with⟨h0,Wj,hp⟩|⟨q',q1,q2,_⟩
    . rw[wP m Wj]at e;rcases u.FM b c q with z|z|⟨j,t,z1,z2⟩
      . exact(g.jG b c z).2 m s ⟨o,h0,hw⟩ e
      . have:=g.qG m b s e;omega
      . obtain⟨m',p1,p2⟩:=pre j z1;rw[mJ p1]at z2;exact g.inj m m' b s t (fun z=>hp j z1 (z▸p1)) ⟨o,h0,hw⟩ p2.live e z2
    . rw[jP q' m q1]at e;exact(u.good.jG b c q).2 q' s q2 e
 refine⟨E',⟨kZ,yC,u.size,u.tape,u.os,u.output,fun b U AW=>?_,?_,fun b c q=>?_⟩,fun m L=>wP m L,Yw,Nat.le_add_right _ _,?_⟩
 . refine u.keep b U fun j t hj e=>?_;obtain⟨m',p1,p2⟩:=pre j hj;rw[mJ p1]at e;exact AW m' t p2 e
 . intro m b s L e U;obtain⟨o,L⟩:=bK.1 L;rcases um m o L with⟨h0,Wj,hp⟩|⟨q,q1,q2,_⟩
   . rw[wP m Wj]at e;exact⟨m,s,by rw[h0];simp,e,fun⟨o',k1,k2⟩=>⟨o,h0,by rw[L]at k1;cases k1;exact k2⟩⟩
   . rw[jP q m q1]at e;obtain⟨mm,s0,k1,k2,_,k4⟩:=old q b s q2.live e U;exact⟨mm,s0,k1,k2,fun _=>k4 q2⟩
 . rcases u.FM b c q with z|z|⟨j,t,z1,z2⟩
   . exact .inl z
   . exact .inr (.inl z)
   . obtain⟨m',p1,p2⟩:=pre j z1;rw[mJ p1]at z2;exact .inr (.inr ⟨m',t,p2,z2⟩)
 . cases en with
   |returned x=>exact ve (E':=E') jP Yx (fun _ _ q=>q) v1 _ x hv ho
   |_=>exact ho.elim
theorem N2{P:Program}(L:P.follows .mixedOrders=true)(sW:kn P=true){f:FuncId}{fn:Func}{code:Code}(hf:P.funcs[f]? =some fn)(U:fn.body=some code){args sH:ag}{ns:List (Option Nat)}{h h1 C oU:I es}{n n2 KN:Nat}{v v1:V}
  (l:(Nat.ble sH.length fn.ntmps&&Nat.blt fn.ntmps gO)=true) (k:Gp ns h h1) (ka:V.KA (mu ns) args=some sH) (he:Qs ns h1 (v1,oU,KN) h n=some (v,C,n2))
  (hT:TG P ns.length fn.ntmps code (dI sH h1 ns.length) (gi P ns.length fn fun a b c=>a=v1/\b=oU/\c=KN))
  {E:Env} {w:World} {dZ:List Value} (ra:eK E args dZ) (g:Good E h w) (hd:qK E n):Calls P f dZ.toArray w (jx E h n w (.ret v) C n2):=by
 obtain⟨g1,d1⟩:=Ml g k;have ra1:eK (E.pick ns) sH dZ:=tA (E':=E.pick ns) Qr (fun _ _ _ _ _ _=>rfl) (fun _ _ q=>q) _ _ _ ka ra;exact(Gn L sW hf U l v1 oU KN hT ra1 g1 d1).mono fun en w' c=>Mm g hd k he c
def vo(P:Program)(f:FuncId)(args:ag)(h:I es)(n:Nat)(v:V)(h1:I es)(n1:Nat):Prop:=∀E w dZ,eK E args dZ->Good E h w->qK E n->Calls P f dZ.toArray w (jx E h n w (.ret v) h1 n1)
open Go.ChangeMaps (setBlock)
structure Ul(φ:Nat->Option (Array Value))(kd:Option IntKind)(O:ae)(w:World)(r b:Nat)(left:ae):Prop where
 ex:∃seen ga fA,w.heap[r]? =some (.mapIter (some b) fA seen fA)/\w.heap[b]? =some (.map ga fA)/\kC φ kd O ga.toList fA/\∃l,List.Perm l left/\kY φ l (leftOf ga seen).toList
theorem Ul.mono{φ HS:Nat->Option (Array Value)}{kd:Option IntKind}{O left:ae}{w w':World}{r b:Nat}(ld:∀b c,φ b=some c->HS b=some c)(hr:w'.heap[r]? =w.heap[r]?)(U:w'.heap[b]? =w.heap[b]?)(i:Ul φ kd O w r b left):Ul HS kd O w' r b left:=by
 obtain⟨seen,ga,fA,h1,C,h3,l,h4,h5⟩:=i.ex;exact⟨seen,ga,fA,hr.trans h1,U.trans C,h3.mono ld,l,h4,s9 ld _ _ h5⟩
section
variable{P:Program}{fr:Fence}{n:Nat}{ops:Array Oper}{Q:Exit->Act->World->Prop}{a:Act}{w:World}{rest:List Oper}{o:Oper}
end
structure avL(N:Nat)(E0:Env)(h0:I es)(w0:World)(m mi:Nat)(kd:Option IntKind)(O left:ae)(r b:Nat)(E:Env)(h:I es)(w:World):Prop where
 CH:mO N E0 h0 w0 E h w
 it:Ul E.φ kd O w r b left
 em:E.ι m=some (b,0)
 ei:E.ι mi=some (r,0)
 hr:∀k z,h.get k≠none->E.ι k≠some (r,z)
 U:∀k z,h.get k≠none->E.ι k≠some (b,z)
 rlt:r<w.heap.size
 blt:b<w.heap.size
 r0:w0.heap.size<=r
 ne:r≠b
structure Gr where
 g0:Nat
 g1:Nat
 g2:Nat
 o0:Oper
 oR:Oper
 oN:Oper
 oX:Oper
 oE:Oper
 post:List Oper
 bl:Nat
 b1:Nat
 tok:Operand
 rest:Code
def Gr.code(m:Gr):Code:=.seq (.region m.g0 #[m.o0,m.oR] false) (.block m.bl (.loop (.seq (.region m.g1 #[m.oN,m.oX] false) (.seq (.cond m.tok .skip (.exit m.bl)) (.block m.b1 (.seq (.region m.g2 (m.oE::m.post).toArray false) m.rest))))))
structure ach(P:Program)(n0:Nat)(c:Gr)(xR:Operand)(tI:Nat):Prop where
 g0:c.o0.guard=none
 gR:c.oR.guard=none
 gN:c.oN.guard=none
 gE:c.oE.guard=none
 opR:∃ty k e,c.oR.op= .range ty xR/\P.underlying ty=some (.map k e)
 dR:c.oR.dst=some tI
 opN:c.oN.op= .next (.tmp tI) false
 opE:c.oE.op= .entry (.tmp tI)
 ok:fe n0 c.code=true
 tI:tI<gO
def kF(N n0:Nat)(s dF:St):Prop:=∀E a w,lI E n0 s a w->N<=s.n->N<=dF.n/\∃E2,lI E2 n0 dF a w/\mO N E s.h w E2 dF.h w
theorem kF.norm{N n0:Nat}{hm:List Nat}{s dF:St}(e:lB N hm s=some dF):kF N n0 s dF:=fun _ _ _ r _=>(oM e r).2
theorem kF.trans{N n0:Nat}{a b c:St}(h1:kF N n0 a b)(C:kF N n0 b c):kF N n0 a c:=fun E x w r hn=>by
 obtain⟨qQ,E2,r2,u2⟩:=h1 E x w r hn;obtain⟨Mb,E3,r3,u3⟩:=C E2 x w r2 qQ;exact⟨Mb,E3,r3,u2.trans u3⟩
theorem kF.mem{N n0:Nat}{s:St}{C:I es}(hg:∀E w,Good E s.h w->Good E C w/\∀m,(C.get m≠none↔s.h.get m≠none)/\(fu C m->fu s.h m)):kF N n0 s { s with h:=C }:=fun E a w r hn=>by
 obtain⟨g2,k2⟩:=hg E w r.good;exact⟨hn,E,⟨g2,r.rO,r.F,r.size,r.iZ⟩,⟨fun _ _ _ _ e=>⟨e,rfl⟩,fun _ _=>rfl,fun _ _ q=>q,g2,aK _,rfl,rfl,rfl,fun _ _ _=>rfl,fun m b s1 L e1 _=>⟨m,s1,(k2 m).1.1 L,e1,(k2 m).2⟩,fun _ _ q=>.inl q⟩⟩
theorem kF.deep{N n0:Nat}{s dF:St}(l:List Nat)(e:Dk l s=some dF):kF N n0 s dF:=by
 unfold Dk at e;split at e
 case h_2=>cases e
 rename_i C hh;obtain rfl:=eZ e;exact kF.mem fun E w g=>qD l s.h C hh g
def yL(P:Program)(f:FuncId)(args:ag)(h:I es)(n:Nat)(iX:V->I es->Nat->Prop):Prop:=
 ∀E w dZ,eK E args dZ->Good E h w->qK E n->Calls P f dZ.toArray w fun e w'=>∃v h' n',iX v h' n'/\jx E h n w (.ret v) h' n' e w'
theorem vo.one{P:Program}{f:FuncId}{args:ag}{h:I es}{n:Nat}{v:V}{h1:I es}{n1:Nat}(c:vo P f args h n v h1 n1):yL P f args h n fun a b d=>a=v/\b=h1/\d=n1:=
 fun E w dZ ra g hd=>(c E w dZ ra g hd).mono fun _ _ q=>⟨_,_,_,⟨rfl,rfl,rfl⟩,q⟩
theorem yL.mono{P:Program}{f:FuncId}{args:ag}{h:I es}{n:Nat}{iX R':V->I es->Nat->Prop}(c:yL P f args h n iX)(hr:∀v h n,iX v h n->R' v h n):yL P f args h n R':=
 fun E w dZ ra g hd=>(c E w dZ ra g hd).mono fun _ _ ⟨v,h',n',r,q⟩=>⟨v,h',n',hr _ _ _ r,q⟩
theorem tM{P:Program}{fr:Fence}{n:Nat}{ops:Array Oper}{Q:Exit->Act->World->Prop}{l2:List Oper}:∀(l1:List Oper) {a:Act} {w:World},
  wpListIn fr n P ops (fun y a w=>match y with | .normal=>wpListIn fr n P ops Q l2 a w|y=>Q y a w) l1 a w->wpListIn fr n P ops Q (l1++l2) a w
 | [],a,w,h=>h
 |o::l1,a,w,h=>by
  show wpListIn fr n P ops Q (o::(l1++l2)) a w;unfold wpListIn at h ⊢;split
  . rename_i hw;rw[aF hw]at h;refine NT (fun a w q=>tM l1 q) (fun y a w hy q=>?_) h;cases y<;>first|exact absurd rfl hy|exact q
  . rename_i hw;rw[aD hw]at h;exact⟨h.1,tM l1 h.2⟩
section
variable(P:Program)(N:Nat)(fn:Func)
def Qt(p:fm×St):ko:=match p.1 with
 | .normal=>match NX P N fn p.2 with
   |some (v,h,n)=>.ret v h n
   |none=>.bad
 | .ret=>match NX P N fn p.2 with
   |some (v,h,n)=>.ret v h n
   |none=>.bad
 |_=>.bad
def adL(cs:mw)(dG:List (Nat×mH))(fr N:Nat)(fn:Func)(c:Code)(s:St):List (List (Bool×Bool)×ah×ko):=yF (Qt P N fn) (wO (lC P cs dG fr c s))
def WN(cs:mw)(dG:List (Nat×mH))(fr N:Nat)(fn:Func)(c:Code)(s:St)(dD:List (List (Bool×Bool)×ah×ko)):Prop:=Bj P cs dG fr c s=true/\wq P cs dG fr c s=yI P cs dG fr c s/\adL P cs dG fr N fn c s=dD
end
theorem Yy{P:Program}{N n0:Nat}{fn:Func}{dG:List (Nat×mH)}{fr:Nat}{c:Code}{s:St}{dD:List (List (Bool×Bool)×ah×ko)}(X':CX P)(L:P.follows .mixedOrders=true)(iX:V->I es->Nat->Prop)(A:fe n0 c=true)(hr:WN P X'.cs dG fr N fn c s dD)
  (h:∀g∈dD,(∀b∈g.1,b.1=b.2)->(∀a∈g.2.1,a)/\∃v h n,g.2.2= .ret v h n/\iX v h n):TG P N n0 c s (gi P N fn iX):=by
 obtain⟨e1,e2,e3⟩:=hr;obtain⟨l,hl⟩:=bR.1 e1;unfold wq yI at e2;unfold adL at e3;rw[hl]at e2 e3;simp only[wO]at e2 e3;refine Qc (X':=X') L A hl fun p hp ho=>?_;obtain⟨hA,v,h',n',he,hR⟩:=h (p.1.conds,p.1.P2,Qt P N fn p.2) (e3▸oo hp) ho;refine⟨⟨tG l e2 p hp,hA⟩,?_⟩;obtain⟨pp,x,T⟩:=p;simp only[Qt]at he;cases x with
 |normal=>
  simp only at he;split at he
  . rename_i v1 h1 n1 Wq;cases he;exact⟨.normal,rfl,.inl rfl,_,_,_,Wq,hR⟩
  . cases he
 |ret=>
  simp only at he;split at he
  . rename_i v1 h1 n1 Wq;cases he;exact⟨.ret,rfl,.inr rfl,_,_,_,Wq,hR⟩
  . cases he
 |exit i=>simp only at he;cases he
 |panic _=>simp only at he;cases he
def hP(cs:ag):I es:=I.nil.set gN (some (.cells cs))
def eJ(P:Program)(N n0:Nat)(s dF:St):Prop:=∀c Q,TG P N n0 c dF Q->TG P N n0 c s Q
section
variable{P:Program}{N n0:Nat}{s s1 dF:St}
theorem eJ.refl:eJ P N n0 s s:=fun _ _ h=>h
theorem eJ.trans(h1:eJ P N n0 s s1)(C:eJ P N n0 s1 dF):eJ P N n0 s dF:=fun c Q h=>h1 c Q (C c Q h)
theorem eJ.norm{live:List Nat}(e:lB N live s=some dF):eJ P N n0 s dF:=fun _ _ h=>gj e h
theorem eJ.deep(l:List Nat)(e:Dk l s=some dF):eJ P N n0 s dF:=fun _ _ h=>Ui l e h
theorem eJ.own(l:List (Nat×IntKind))(e:Yn l s=some dF):eJ P N n0 s dF:=fun _ _ h=>Af l e h
theorem eJ.map(l:List (Nat×Option IntKind))(e:Yt l s=some dF):eJ P N n0 s dF:=fun _ _ h=>Yu l e h
theorem eJ.Am(ms:List Nat){hc:ah}(e:Ue ms s=some (hc,dF))(hA:∀x∈hc,x):eJ P N n0 s dF:=fun _ _ h=>Ys ms e hA h
end
section
variable{p:Prop}{P:Program}{N n0:Nat}{c:Code}{s:St}{Q:Exit->St->Prop}
theorem kF.xC{dF:St}(h:kF N n0 s dF):eJ P N n0 s dF:=fun _ _ hT E a w hx r hn k=>by
 obtain⟨qQ,E2,r2,u2⟩:=h E a w r hn;exact hT E2 a w hx r2 qQ fun y T E' a' w' q u oy r'=>k y T E' a' w' q (u2.trans u) oy r'
theorem Um(b m:Nat)(dF:Nat->St)(A:nC c b=true)(hl:o4 (dP c)=true)(h0:eJ P N n0 s (dF 0))
  (U:∀i,i<m->TG P N n0 (dP (dP c)) (dF i) (andThen (fun T=>eJ P N n0 T (dF (i+1))) (gT b Q)))
  (he:TG P N n0 (dP (dP c)) (dF m) (fun y T=>y≠ .normal/\gT b Q y T)):TG P N n0 c s Q:=by
 refine fJ A (j9 (fun k s=>∃i,k=m-i/\i<=m/\eJ P N n0 s (dF i)) hl ?_ m ⟨0,rfl,aR _,h0⟩);rintro k s1 ⟨i,hk,hi,pQ⟩;refine pQ _ _ ?_;rcases bx i m with fj|PO
 . refine qT (U i fj) fun y T h=>?_;cases y with
   |normal=>exact⟨m-(i+1),S,i+1,rfl,S,h⟩
   |_=>exact h
 . obtain rfl:i=m:=by omega
   refine qT he fun y T h=>?_;cases y with
   |normal=>exact absurd rfl h.1
   |_=>exact h.2
theorem Fg{α:Type}{P:Program}{N n0:Nat}{c:Code}{s:St}{Q:Exit->St->Prop}(b:Nat)(μ:α->Nat)(Tr:α->Prop)(dF:α->St)(A:nC c b=true)(hl:o4 (dP c)=true)(x0:α)(i0:Tr x0)(h0:eJ P N n0 s (dF x0))
  (U:∀x,Tr x->TG P N n0 (dP (dP c)) (dF x) (andThen (fun T=>∃x',μ x'<μ x/\Tr x'/\eJ P N n0 T (dF x')) (gT b Q))):TG P N n0 c s Q:=by
 refine fJ A (j9 (fun k s=>∃x,k=μ x/\Tr x/\eJ P N n0 s (dF x)) hl ?_ (μ x0) ⟨x0,rfl,i0,h0⟩);rintro k s1 ⟨x,hk,hi,pQ⟩;refine pQ _ _ ?_;refine qT (U x hi) fun y T h=>?_;cases y with
 |normal=>
  obtain⟨x',h1,C,h3⟩:=h;exact⟨μ x',S,x',rfl,C,h3⟩
 |_=>exact h
theorem X{l:ah}(h:p)(t:∀a∈l,a):∀a∈p::l,a:=List.forall_mem_cons.2 ⟨h,t⟩
theorem eO(h:p):∀a∈[p],a:=X h fun _ h=>absurd h aH
end
theorem N3{h h0:I es}(hh:∀k,h.get k=h0.get k)(m:Nat):fu h m↔fu h0 m:=by unfold fu;rw[hh m]
theorem vo.ext{P:Program}{f:FuncId}{args:ag}{h h0 h1 C:I es}{n n1:Nat}{v:V}(hh:∀k,h.get k=h0.get k)(hk:∀k,h1.get k=C.get k)(c:vo P f args h0 n v C n1):vo P f args h n v h1 n1:=by
 intro E w dZ ra g hd;refine(c E w dZ ra (g.ext fun k=>(hh k).symm) hd).mono fun e w' ⟨E',u,q1,q2,q3,q4⟩=>⟨E',?_,q1,q2,q3,q4⟩;have u:=u.ext hk;have hw:=N3 hh;exact⟨u.le,u.good,u.size,u.tape,u.os,u.output,fun b U L=>u.keep b U fun m s h=>L m s ((hw m).2 h),fun m b s h1 C h3=>by
  obtain⟨m0,s0,a1,a2,a3⟩:=u.wj m b s h1 C h3;exact⟨m0,s0,by rw[hh];exact a1,a2,fun h=>(hw m0).2 (a3 h)⟩,fun b c h=>by
  rcases u.FM b c h with h|h|⟨m,s,h1,C⟩
  . exact .inl h
  . exact .inr (.inl h)
  . exact .inr (.inr ⟨m,s,(hw m).2 h1,C⟩)⟩
def Step(N:Nat)(s s2:St):Prop:=∀n0 E a w,lI E n0 s a w->N<=s.n->N<=s2.n/\∃E2,lI E2 n0 s2 a w/\mO N E s.h w E2 s2.h w
theorem Step.refl{N:Nat}{s:St}:Step N s s:=fun _ E _ _ r hn=>⟨hn,E,r,.refl r.good⟩
theorem Step.trans{N:Nat}{s s1 s2:St}(a:Step N s s1)(b:Step N s1 s2):Step N s s2:=fun n0 E c w r hn=>by
 obtain⟨h1,E1,r1,u1⟩:=a n0 E c w r hn;obtain⟨C,E2,r2,u2⟩:=b n0 E1 c w r1 h1;exact⟨C,E2,r2,u1.trans u2⟩
section
variable{P:Program}{N:Nat}{s:St}{n0:Nat}{s2:St}
theorem Step.norm{live:List Nat}(e:lB N live s=some s2):Step N s s2:=fun _ _ _ _ r _=>(oM e r).2
theorem Step.mem{C:I es}(hg:∀E w,Good E s.h w->Good E C w/\∀m,(C.get m≠none↔s.h.get m≠none)/\(fu C m->fu s.h m)):Step N s { s with h:=C }:=fun n0 E a w r hn=>by
 obtain⟨g2,k2⟩:=hg E w r.good;exact⟨hn,E,⟨g2,r.rO,r.F,r.size,r.iZ⟩,⟨fun _ _ _ _ e=>⟨e,rfl⟩,fun _ _=>rfl,fun _ _ q=>q,g2,aK _,rfl,rfl,rfl,fun _ _ _=>rfl,fun m b s1 L e1 _=>⟨m,s1,(k2 m).1.1 L,e1,(k2 m).2⟩,fun _ _ q=>.inl q⟩⟩
theorem Step.deep(l:List Nat)(e:Dk l s=some s2):Step N s s2:=by
 unfold Dk at e;split at e
 case h_2=>cases e
 rename_i C hh;obtain rfl:=eZ e;exact Step.mem fun E w g=>qD l s.h C hh g
theorem Un{c:Code}{s s2:St}{Q:Exit->St->Prop}(e:Step N s s2)(h:TG P N n0 c s2 Q):TG P N n0 c s Q:=by
 intro E a w hx r hn k;obtain⟨qQ,E2,r2,u2⟩:=e n0 E a w r hn;exact h E2 a w hx r2 qQ fun y T E' a' w' q u oy r'=>k y T E' a' w' q (u2.trans u) oy r'
theorem eJ.step{s dF:St}(e:Step N s dF):eJ P N n0 s dF:=fun _ _ h=>Un e h
theorem vo.nil{f:FuncId}{args:ag}{h h1:I es}{n n1 z:Nat}(b:Bool)(c:vo P f args h n (.fk none 0 0 z) h1 n1):vo P f args h n (.eM b 0 []) h1 n1:=by
 intro E w dZ ra g hd;refine(c E w dZ ra g hd).mono fun en w' ⟨E1,u,gd,Tm,FQ,ho⟩=>⟨E1,u,gd,Tm,FQ,?_⟩;cases en with
 |panicked ch=>exact ho.elim
 |outgrown=>exact ho.elim
 |returned v'=>
  obtain⟨_,_,rfl⟩:0=0/\0=0/\v'= .slice none 0 0:=ho;exact⟨⟨none,0,[],rfl,aK _,rfl,fun _=>rfl,fun h=>absurd h (dy _)⟩,fun _=>⟨none,rfl⟩⟩
end
mutual
def V.nl:V->V
 | .fk none len c e=>match len with
   |0=>.eM false 0 []
   |_=>.fk none len c e
 | .eM _ n cs=>.eM false n cs
 | .agg cs=>.agg (V.jj cs)
 | .gK cs=>.gK (V.jj cs)
 |v=>v
def V.jj:ag->ag
 | []=>[]
 |x::xs=>x.nl::V.jj xs
end
mutual
theorem An{E:Env}:∀(v:V) (v':Value),eH E v v'->eH E v.nl v'
 | .fk none 0 _ _,_,⟨_,_,e⟩=>by
   rw[e];exact⟨⟨none,0,[],rfl,aK _,rfl,fun _=>rfl,fun h=>absurd h (dy _)⟩,fun h=>by cases h⟩
 | .fk none (_+1) _ _,_,r=>r
 | .eM _ _ _,_,r=>⟨r.1,fun h=>by cases h⟩
 | .agg cs,_,⟨cs',r,q⟩=>⟨cs',tN cs cs' r,q⟩
 | .gK cs,_,⟨cs',r,q⟩=>⟨cs',tN cs cs' r,q⟩
 | .bool _,_,r=>r
 | .int _ _,_,r=>r
 | .str _,_,r=>r
 | .ptr _,_,r=>r
 | .fk (some _) _ _ _,_,r=>r
 | .map _,_,r=>r
 | .fn _ _ _,_,r=>r
 | .kU,_,r=>r
 | .iface _ _,_,r=>r
 | .nilIface,_,r=>r
 | .eo _,_,r=>r
theorem tN{E:Env}:∀(v:ag) (v':List Value),eK E v v'->eK E (V.jj v) v'
 | [],_,r=>r
 |x::xs,_,⟨y,ys,r,rs,q⟩=>⟨y,ys,An x y r,tN xs ys rs,q⟩
end
theorem ee.nl{P:Program}{f:FuncId}{args:ag}{v:V}(h:ee P f args v):ee P f args v.nl:=fun E h' n w dZ ra g hd=>
 (h E h' n w dZ ra g hd).mono fun en w' ⟨E1,u,gd,Tm,FQ,ho⟩=>⟨E1,u,gd,Tm,FQ,by
  cases en with
  |returned v'=>exact An v v' ho
  |panicked _=>exact ho.elim
  |outgrown=>exact ho.elim⟩
def fa(f0:FuncId)(my:ag)(v:V)(dF:gG):gG:=fun f args h n=>match Nat.beq f f0 with
 |true=>some ([V.jj args=my],v,h,n)
 |false=>dF f args h n
theorem Uo{P:Program}{f0:FuncId}{my:ag}{v:V}{dF:gG}(fj:Nat.blt f0 P.funcs.size=true)(A:ee P f0 my v)(hS:fo P dF):fo P (fa f0 my v dF):=by
 intro f args h n hc v' h' n' e;unfold fa at e;split at e
 . rename_i U;have U:=aJ U;subst U;simp only[aq,aB]at e;obtain⟨rfl,rfl,rfl,rfl⟩:=e;refine⟨aE fj,fun hA E w dZ ra g hd _=>?_⟩;obtain rfl:=hA _ (aI.2 rfl);exact A E h n w dZ (tN _ _ ra) g hd
 . exact hS f args h n hc v' h' n' e
def uI(v:V)(u:V)(h:I es)(n:Nat):Prop:=∃v0,Qm v0 u h n/\v0.deep=true/\v0.nl=v
theorem uI.self{v u:V}{h:I es}{n:Nat}(hd:u.deep=true)(e:u.nl=v):uI v u h n:=⟨u,.self,hd,e⟩
def Yz(ms:List Nat)(u:V)(h:I es)(n:Nat):Option (ah×V):=match Ue ms { F:=I.nil.set 0 (some u),h:=h,n:=n,iZ:=[] }with
 |some (hc,s2)=>match s2.F.get 0 with
  |some v=>some (hc,v)
  |none=>none
 |none=>none
theorem uI.Am{v u v0:V}{h:I es}{n:Nat}(ms:List Nat){hc:ah}(e:Yz ms u h n=some (hc,v0))(hA:∀a∈hc,a)(hd:v0.deep=true)(en:v0.nl=v):uI v u h n:=by
 unfold Yz at e;split at e
 case h_2=>cases e
 rename_i A1 s2 h1;split at e
 case h_2=>cases e
 rename_i v1 C;simp only[aq,aB]at e;obtain⟨rfl,rfl⟩:=e;exact⟨v1,⟨[ms],A1++[],s2,by simp only[N0,h1],fun a ha=>hA a (by simpa using ha),C⟩,hd,en⟩
theorem ee.akr{P:Program}(L:P.follows .mixedOrders=true)(sW:kn P=true){f:FuncId}{fn:Func}{code:Code}(hf:P.funcs[f]? =some fn)(U:fn.body=some code){args:ag}
  (l:(Nat.ble args.length fn.ntmps&&Nat.blt fn.ntmps gO)=true) {v:V} (Uj:V.qC args=true) (hT:TG P gN fn.ntmps code (dI args .nil gN) (gi P gN fn (uI v))):ee P f args v:=by
 intro E h n w dZ ra g hd;have g0:Good (BH E.φ) .nil w:=xx g.wg g.fz;have ra0:eK (BH E.φ) args dZ:=lZ (E:=E) (E':=BH E.φ) (fun _ _ q=>q) _ _ Uj ra;refine(qV L sW hf U l _ hT ra0 g0 (C3 (aK _))).mono fun e w' ⟨u,h',n',⟨v0,hz,hv,hn⟩,k⟩=>?_;obtain⟨E1,u,gd,Tm,FQ,ho⟩:=Dm (E1:=BH E.φ) g hd rfl xB hv hz k;refine⟨E1,u,gd,Tm,FQ,?_⟩;subst hn;cases e with
 |returned v'=>exact An v0 v' ho
 |panicked _=>exact ho.elim
 |outgrown=>exact ho.elim
def es.nl:es->es
 | .cells cs=>.cells (V.jj cs)
 |o=>o
def nlV:I V->I V
 | .nil=>.nil
 | .node v l r=>.node (v.map V.nl) (nlV l) (nlV r)
def WO:I es->I es
 | .nil=>.nil
 | .node v l r=>.node (v.map es.nl) (WO l) (WO r)
theorem Gs:∀(t:I V) (k:Nat),(nlV t).get k=(t.get k).map V.nl
 | .nil,_=>rfl
 | .node v l r,k=>by
   simp only[nlV,I.get];split
   . rfl
   . split
     . exact Gs l _
     . exact Gs r _
theorem vY:∀(t:I es) (k:Nat),(WO t).get k=(t.get k).map es.nl
 | .nil,_=>rfl
 | .node v l r,k=>by
   simp only[WO,I.get];split
   . rfl
   . split
     . exact vY l _
     . exact vY r _
theorem Mn:∀(l:ag) (i:Nat),(V.jj l)[i]? =(l[i]?).map V.nl
 | [],_=>by simp[V.jj]
 |x::l,0=>by simp[V.jj]
 |x::l,i+1=>by simpa[V.jj]using Mn l i
theorem Up{E:Env}{w:World}{b s:Nat}{o:es}(r:nT E w b s o):nT E w b s o.nl:=by
 cases o with
 |cells cs=>
  obtain⟨c,el,fz,h1,C,h3,h4⟩:=r;refine⟨c,el,fz,h1,C,h3,fun i v hv=>?_⟩;rw[Mn]at hv;cases A:cs[i]? with
  |none=>rw[A]at hv;cases hv
  |some u=>
   rw[A]at hv;simp only[bz,aq]at hv;subst hv;obtain⟨v',k1,k2⟩:=h4 i u A;exact⟨v',k1,An u v' k2⟩
 |_=>exact r
theorem Qu(o:es):o.nl.wr=o.wr:=by cases o<;>rfl
def nlS(s:St):St:={ s with F:=nlV s.F,h:=WO s.h }
theorem Step.nl{N:Nat}{s:St}:Step N s (nlS s):=fun n0 E a w r hn=>by
 have jE:∀m,fu (WO s.h) m↔fu s.h m:=fun m=>by
  constructor
  . rintro⟨o,h1,C⟩;rw[vY]at h1;cases h0:s.h.get m with
    |none=>rw[h0]at h1;cases h1
    |some o0=>
     rw[h0]at h1;simp only[bz,aq]at h1;subst h1;exact⟨o0,h0,by rw[Qu]at C;exact C⟩
  . rintro⟨o,h1,C⟩;exact⟨o.nl,by rw[vY,h1];rfl,by rw[Qu];exact C⟩
 have jD:∀m,(WO s.h).get m≠none↔s.h.get m≠none:=fun m=>by
  rw[vY];cases s.h.get m<;>simp
 have g:Good E (WO s.h) w:=by
  refine⟨fun m o L=>?_,fun m m' b s1 s2 NJ L ue=>r.good.inj m m' b s1 s2 NJ ((jE m).1 L) ((jD m').1 ue),r.good.qG,r.good.lG,fun b c q=>⟨(r.good.jG b c q).1,fun m s1 L=>(r.good.jG b c q).2 m s1 ((jE m).1 L)⟩⟩;rw[vY]at L;cases h0:s.h.get m with
  |none=>rw[h0]at L;cases L
  |some o0=>
   rw[h0]at L;simp only[bz,aq]at L;subst L;obtain⟨b,s1,k1,k2⟩:=r.good.rel m o0 h0;exact⟨b,s1,k1,Up k2⟩
 refine⟨hn,E,⟨g,r.rO,fun t v hv=>?_,r.size,r.iZ⟩,⟨fun _ _ _ _ e=>⟨e,rfl⟩,fun _ _=>rfl,fun _ _ q=>q,g,aK _,rfl,rfl,rfl,fun _ _ _=>rfl,fun m b s1 L e1 _=>⟨m,s1,(jD m).1 L,e1,(jE m).1⟩,fun _ _ q=>.inl q⟩⟩;have hv:(nlV s.F).get t=some v:=hv;rw[Gs]at hv;cases h0:s.F.get t with
 |none=>rw[h0]at hv;cases hv
 |some u=>
  rw[h0]at hv;simp only[bz,aq]at hv;subst hv;obtain⟨v',k1,k2⟩:=r.F t u h0;exact⟨v',k1,An u v' k2⟩
theorem eJ.nl{P:Program}{N n0:Nat}{s dF:St}(e:nlS s=dF):eJ P N n0 s dF:=e▸ .step .nl
def nlI(is:List Nat):Nat->ag->ag
 |_,[]=>[]
 |i,x::r=>(match is.any (Nat.beq i)with|true=>x.nl|false=>x)::nlI is (i+1) r
theorem Mo(is:List Nat):∀(l:ag) (i j:Nat) (v:V),(nlI is i l)[j]? =some v->∃u,l[j]? =some u/\(v=u\/v=u.nl)
 | [],_,_,_,h=>by simp[nlI]at h
 |x::l,i,0,v,h=>by
  simp only[nlI,cT,aq]at h;subst h;refine⟨x,rfl,?_⟩;split<;>simp
 |x::l,i,j+1,v,h=>by
  simp only[nlI,List.getElem?_cons_succ]at h ⊢;exact Mo is l (i+1) j v h
def Uq(m:Nat)(is:List Nat)(s:St):Option St:=match Nat.blt m gO,s.h.get m with
 |true,some (.cells cs)=>some { s with h:=s.h.set m (some (.cells (nlI is 0 cs))) }
 |_,_=>none
theorem Step.Uq{N:Nat}{s dF:St}(m:Nat)(is:List Nat)(e:Go.Eng.Uq m is s=some dF):Step N s dF:=by
 unfold Go.Eng.Uq at e;split at e
 case h_2=>cases e
 rename_i cs ht L;obtain rfl:=eZ e;refine Step.mem fun E w g=>pV (aE ht) L rfl (fun b s1 _ q=>?_) g;obtain⟨c,el,fz,h1,C,h3,h4⟩:=q;refine⟨c,el,fz,h1,C,h3,fun j v hv=>?_⟩;obtain⟨u,k1,k2⟩:=Mo is cs 0 j v hv;obtain⟨v',q1,q2⟩:=h4 j u k1;rcases k2 with rfl|rfl
 . exact⟨v',q1,q2⟩
 . exact⟨v',q1,An u v' q2⟩
def Qv:ag->List Nat
 | []=>[]
 | .fk (some (m,_)) _ _ _::r=>m::Qv r
 |_::r=>Qv r
def rbA(F:I V):Nat->Nat->Option (ag)
 |_,0=>some []
 |i,k+1=>match F.get i with
  |some v=>match rbA F (i+1) k with
   |some l=>some (v::l)
   |none=>none
  |none=>none
theorem I5{F:I V}:∀(k i:Nat) (l:ag),rbA F i k=some l->l.length=k/\∀(j:Nat) (v:V),l[j]? =some v->F.get (i+j)=some v
 |0,i,l,e=>by simp only[rbA,aq]at e;subst e;simp
 |k+1,i,l,e=>by
  simp only[rbA]at e;split at e
  case h_2=>cases e
  rename_i v hv;split at e
  case h_2=>cases e
  rename_i l' hl;obtain rfl:=eZ e;obtain⟨h1,C⟩:=I5 k (i+1) l' hl;refine⟨by simp[h1],fun j u hj=>?_⟩;cases j with
  |zero=>simp at hj;subst hj;exact hv
  |succ j=>
   have:=C j u (by simpa using hj);rw[<- this];congr 1;omega
def Qw(f0:FuncId)(my:ag)(v:V)(dF:gG):gG:=fun f args h n=>match Nat.beq f f0 with
 |true=>match Nat.blt args.length gO with
  |true=>match Ue (Qv args) (dI args h n)with
   |some (hc,s2)=>match rbA s2.F 0 args.length,Nat.beq s2.n n with
    |some I6,true=>some (hc++[V.jj I6=my],v,s2.h,n)
    |_,_=>none
   |none=>none
  |false=>none
 |false=>dF f args h n
theorem Gt{P:Program}{f0:FuncId}{my:ag}{v:V}{dF:gG}(fj:Nat.blt f0 P.funcs.size=true)(A:ee P f0 my v)(hS:fo P dF):fo P (Qw f0 my v dF):=by
 intro f args h n hc v' h' n' e;unfold Qw at e;split at e
 case h_2=>exact hS f args h n hc v' h' n' e
 rename_i U;have U:=aJ U;subst U;split at e
 case h_2=>cases e
 rename_i YA;have YA:args.length<gO:=aE YA;split at e
 case h_2=>cases e
 rename_i A1 s2 Ed;split at e
 case h_2=>cases e
 rename_i I6 hrb hn;simp only[aq,aB]at e;obtain⟨rfl,rfl,rfl,rfl⟩:=e;have hn:=aJ hn;refine⟨aE fj,fun hA E w dZ ra g hd _=>?_⟩;obtain⟨zz,nc⟩:=qv (n:=args.length) ra (aK _) YA;have r:lI E args.length (dI args h n) { tmps:=dZ.toArray++Array.replicate (args.length-dZ.toArray.size) undef,defers:=[] } w:=⟨g,hd,zz,nc,rfl⟩;obtain⟨E2,r2,u,_,jP⟩:=vW (N:=n) Ed (fun a ha=>hA a (by simp[ha])) r (aK _);obtain⟨k1,k2⟩:=I5 _ _ _ hrb;have adN:dZ.length=args.length:=fE ra;have WC:eK E2 I6 dZ:=by
  refine jZ S fun i v hv=>?_;have hi:i<I6.length:=(aS.1 hv).1;obtain⟨v',q1,q2⟩:=r2.F i v (by have:=k2 i v hv;rwa [bI]at this);refine⟨v',?_,q2⟩;rw[cP (by simp;omega)]at q1;simpa using q1
 have he:V.jj I6=my:=hA _ (by simp);subst he;refine(A E2 s2.h n w dZ (tN _ _ WC) r2.good (hn▸r2.rO)).mono fun en w' ⟨E3,u3,gd,hd3,Mb,ho⟩=>⟨E3,?_,fun m L=>(gd m L).trans (jP m),hd3,Mb,ho⟩;exact(u.trans (mO.of u3 gd (aK _))).CH hd
end Go.Eng
