/- The engine, part RA: rows are frozen; contracts of functions on deep values. No conditions: lemmas alone. -/
import Derived.Test.YtfihojpgobmmdaaGreatDoorJointW03
set_option linter.unusedVariables false
set_option linter.unusedSimpArgs false
set_option linter.unusedSectionVars false
namespace Go.Eng
open Go Go.RowKit
mutual
def V.deep:V->Bool
 | .ptr (some _)=>false
 | .di (some _) _ _ _=>false
 | .map (some _)=>false
 | .fn f a c=>vL f&&(V.qE a&&V.qE c)
 | .iface _ x=>V.deep x
 | .agg cs=>V.qE cs
 | .ef cs=>V.qE cs
 |_=>true
def V.qE:ag->Bool
 | []=>true
 |x::xs=>V.deep x&&V.qE xs
end
mutual
theorem C0{E E':Env}(kU:∀b c,E.φ b=some c->E'.φ b=some c):∀(v:V) (v':Value),v.deep=true->dF E v v'->dF E' v v'
 | .bool _,_,_,r=>r
 | .int _ _,_,_,r=>r
 | .str _,_,_,r=>r
 | .ptr none,_,_,r=>r
 | .ptr (some _),_,h,_=>by simp[V.deep]at h
 | .di none _ _ _,_,_,r=>r
 | .di (some _) _ _ _,_,h,_=>by simp[V.deep]at h
 | .map none,_,_,r=>r
 | .map (some _),_,h,_=>by simp[V.deep]at h
 | .fn f a c,_,h,⟨f',a',c',rf,ra,rc,q⟩=>by
   simp only[V.deep,aC]at h;refine⟨f',a',c',?_,od kU a a' h.2.1 ra,od kU c c' h.2.2 rc,q⟩;cases f<;>first|exact rf|(simp[vL]at h;done)
 | .kE,_,_,r=>r
 | .iface _ x,_,h,⟨x',r,q⟩=>⟨x',C0 kU x x' (by simpa only[V.deep]using h) r,q⟩
 | .nilIface,_,_,r=>r
 | .agg cs,_,h,⟨cs',r,q⟩=>⟨cs',od kU cs cs' (by simpa only[V.deep]using h) r,q⟩
 | .ef cs,_,h,⟨cs',r,q⟩=>⟨cs',od kU cs cs' (by simpa only[V.deep]using h) r,q⟩
 | .dM _ _ _,_,_,r=>⟨kJ kU _ _ r.1,r.2⟩
 | .dw cs,_,_,⟨b,o,c,vs,e,e1,r,q⟩=>⟨b,o,c,vs,e,kU _ _ e1,iS kU cs vs r,q⟩
theorem od{E E':Env}(kU:∀b c,E.φ b=some c->E'.φ b=some c):∀(v:ag) (v':List Value),V.qE v=true->dI E v v'->dI E' v v'
 | [],_,_,r=>r
 |x::xs,_,h,⟨y,ys,r,rs,q⟩=>by
  simp only[V.qE,aC]at h;exact⟨y,ys,C0 kU x y h.1 r,od kU xs ys h.2 rs,q⟩
end
section
variable(F:Nat->Option (ai))
mutual
def Bd:V->Option (ah×V)
 | .di (some (m,o)) cO cP jv=>match F m with
   |some cs=>match o with
    |0=>some ([cs.length=cO*jv],.dM false cO cs)
    |o+1=>some ([],.dM false cO ((cs.drop (o+1)).take (cO*jv)))
   |none=>some ([],.di (some (m,o)) cO cP jv)
 | .ptr (some (m,o))=>match F m with
   |some _=>none
   |none=>some ([],.ptr (some (m,o)))
 | .map (some m)=>match F m with
   |some _=>none
   |none=>some ([],.map (some m))
 | .fn f a c=>match f with
   | .yield m=>match F m with
     |some _=>none
     |none=>match y7 a with
      |some (A,a)=>match y7 c with
       |some (B,c)=>some (A++B,.fn (.yield m) a c)
       |none=>none
      |none=>none
   |f=>match y7 a with
    |some (A,a)=>match y7 c with
     |some (B,c)=>some (A++B,.fn f a c)
     |none=>none
    |none=>none
 | .iface t x=>match Bd x with
   |some (A,x)=>some (A,.iface t x)
   |none=>none
 | .agg cs=>match y7 cs with
   |some (A,cs)=>some (A,.agg cs)
   |none=>none
 | .ef cs=>match y7 cs with
   |some (A,cs)=>some (A,.ef cs)
   |none=>none
 | .bool b=>some ([],.bool b)
 | .int k n=>some ([],.int k n)
 | .str s=>some ([],.str s)
 | .ptr none=>some ([],.ptr none)
 | .di none l c e=>some ([],.di none l c e)
 | .map none=>some ([],.map none)
 | .kE=>some ([],.kE)
 | .nilIface=>some ([],.nilIface)
 | .dM f n cs=>some ([],.dM f n cs)
 | .dw cs=>some ([],.dw cs)
def y7:ag->Option (ah×ag)
 | []=>some ([],[])
 |x::xs=>match Bd x with
  |some (A,x)=>match y7 xs with
   |some (B,xs)=>some (A++B,x::xs)
   |none=>none
  |none=>none
end
end
def Zy(F:Nat->Option (ai))(E:Env)(φ:Nat->Option (Array Value)):Prop:=
 ∀m cs,F m=some cs->∀b s,E.ι m=some (b,s)->∃c vs,φ b=some c/\iw φ cs vs/\∀(j:Nat) (x:Value),vs[j]? =some x->c[s+j]? =some x
section
variable{F:Nat->Option (ai)}{E E':Env}(hF:Zy F E E'.φ)(jb:∀m,E'.ι m=E.ι m)(oQ:E'.β=E.β)(kU:∀b c,E.φ b=some c->E'.φ b=some c)
include hF jb oQ kU
mutual
theorem tE:∀(v v2:V) (A:ah) (v':Value),Bd F v=some (A,v2)->(∀a∈A,a)->dF E v v'->dF E' v2 v'
 | .bool _,v2,A,_,h,_,r=>by simp only[Bd,an,aB]at h;obtain⟨rfl,rfl⟩:=h;exact r
 | .int _ _,v2,A,_,h,_,r=>by simp only[Bd,an,aB]at h;obtain⟨rfl,rfl⟩:=h;exact r
 | .str _,v2,A,_,h,_,r=>by simp only[Bd,an,aB]at h;obtain⟨rfl,rfl⟩:=h;exact r
 | .ptr none,v2,A,_,h,_,r=>by simp only[Bd,an,aB]at h;obtain⟨rfl,rfl⟩:=h;exact r
 | .di none _ _ _,v2,A,_,h,_,r=>by simp only[Bd,an,aB]at h;obtain⟨rfl,rfl⟩:=h;exact r
 | .map none,v2,A,_,h,_,r=>by simp only[Bd,an,aB]at h;obtain⟨rfl,rfl⟩:=h;exact r
 | .kE,v2,A,_,h,_,r=>by simp only[Bd,an,aB]at h;obtain⟨rfl,rfl⟩:=h;exact r
 | .nilIface,v2,A,_,h,_,r=>by simp only[Bd,an,aB]at h;obtain⟨rfl,rfl⟩:=h;exact r
 | .dM f n cs,v2,A,_,h,_,r=>by
   simp only[Bd,an,aB]at h;obtain⟨rfl,rfl⟩:=h;exact⟨kJ kU _ _ r.1,r.2⟩
 | .dw cs,v2,A,_,h,_,⟨b,o,c,vs,e,e1,r,q⟩=>by
   simp only[Bd,an,aB]at h;obtain⟨rfl,rfl⟩:=h;exact⟨b,o,c,vs,e,kU _ _ e1,iS kU cs vs r,q⟩
 | .ptr (some (m,o)),v2,A,_,h,_,⟨b,s,e,q⟩=>by
   simp only[Bd]at h;split at h
   . cases h
   . obtain⟨rfl,rfl⟩:=fa h;exact⟨b,s,(jb m).trans e,q⟩
 | .map (some m),v2,A,_,h,_,⟨b,e,q⟩=>by
   simp only[Bd]at h;split at h
   . cases h
   . obtain⟨rfl,rfl⟩:=fa h;exact⟨b,(jb m).trans e,q⟩
 | .di (some (m,o)) cO cP jv,v2,A,_,h,hA,⟨b,s,o',gj,e,q1,q2,q3,q4,q5⟩=>by
   simp only[Bd]at h;split at h
   . rename_i cs oV;obtain⟨c,vs,k1,k2,k3⟩:=hF m cs oV b s e;have key:∀(ds:ai) (us:List Value),iw E'.φ ds us->(cO=0->ds=[])->(0<cO->∀(j:Nat) (x:Value),us[j]? =some x->c[s+o+j]? =some x)->dF E' (.dM false cO ds) (.slice (some ⟨b,o',none⟩) cO gj):=by
      intro ds us h1 h2 h3;refine⟨⟨_,gj,us,rfl,be,h1,h2,fun hp=>⟨b,o',c,rfl,k1,?_⟩⟩,fun q=>by cases q⟩;rw[q1 be];exact h3 hp
     split at h
     . obtain⟨rfl,rfl⟩:=fa h;rw[q5];have hl:cs.length=cO*jv:=hA _ (aq.2 rfl);refine key cs vs k2 (fun z=>?_) (fun _ j x hx=>by rw[Nat.add_zero];exact k3 j x hx);rw[z,Nat.zero_mul]at hl;exact cH.1 hl
     . rename_i o;obtain⟨rfl,rfl⟩:=fa h;rw[q5];refine key _ _ (sR (nP k2)) (fun z=>by rw[z];simp) (fun _ j x hx=>?_);rw[bL]at hx;split at hx
       . rw[bH]at hx;rw[<- k3 _ x hx,cA]
       . cases hx
   . obtain⟨rfl,rfl⟩:=fa h;exact⟨b,s,o',gj,(jb m).trans e,q1,q2,q3,by rw[oQ];exact q4,q5⟩
 | .fn f a c,v2,A,_,h,hA,⟨f',a',c',rf,ra,rc,q⟩=>by
   simp only[Bd]at h;split at h
   . rename_i m;split at h
     . cases h
     . split at h
       case h_2=>cases h
       rename_i A1 a2 ha;split at h
       case h_2=>cases h
       rename_i B1 c2 hc;obtain⟨rfl,rfl⟩:=fa h;obtain⟨l,s,e,q2⟩:=rf;exact⟨f',a',c',⟨l,s,(jb m).trans e,q2⟩,mq a a2 A1 a' ha (fun x hx=>hA x (aU.2 (.inl hx))) ra,mq c c2 B1 c' hc (fun x hx=>hA x (aU.2 (.inr hx))) rc,q⟩
   . rename_i fP;split at h
     case h_2=>cases h
     rename_i A1 a2 ha;split at h
     case h_2=>cases h
     rename_i B1 c2 hc;obtain⟨rfl,rfl⟩:=fa h;refine⟨f',a',c',?_,mq a a2 A1 a' ha (fun x hx=>hA x (aU.2 (.inl hx))) ra,mq c c2 B1 c' hc (fun x hx=>hA x (aU.2 (.inr hx))) rc,q⟩;cases f<;>first|exact rf|exact(fP _ rfl).elim
 | .iface t x,v2,A,_,h,hA,⟨x',r,q⟩=>by
   simp only[Bd]at h;split at h
   . rename_i A1 x2 hx;obtain⟨rfl,rfl⟩:=fa h;exact⟨x',tE x x2 _ x' hx hA r,q⟩
   . cases h
 | .agg cs,v2,A,_,h,hA,⟨cs',r,q⟩=>by
   simp only[Bd]at h;split at h
   . rename_i A1 x2 hx;obtain⟨rfl,rfl⟩:=fa h;exact⟨cs',mq cs x2 _ cs' hx hA r,q⟩
   . cases h
 | .ef cs,v2,A,_,h,hA,⟨cs',r,q⟩=>by
   simp only[Bd]at h;split at h
   . rename_i A1 x2 hx;obtain⟨rfl,rfl⟩:=fa h;exact⟨cs',mq cs x2 _ cs' hx hA r,q⟩
   . cases h
theorem mq:∀(v v2:ag) (A:ah) (v':List Value),y7 F v=some (A,v2)->(∀a∈A,a)->dI E v v'->dI E' v2 v'
 | [],v2,A,_,h,_,r=>by simp only[y7,an,aB]at h;obtain⟨rfl,rfl⟩:=h;exact r
 |x::xs,v2,A,_,h,hA,⟨y,ys,r,rs,q⟩=>by
  simp only[y7]at h;split at h
  case h_2=>cases h
  rename_i A1 x2 hx;split at h
  case h_2=>cases h
  rename_i B1 Og Cm;obtain⟨rfl,rfl⟩:=fa h;exact⟨y,ys,tE x x2 A1 y hx (fun a ha=>hA a (aU.2 (.inl ha))) r,mq xs Og B1 ys Cm (fun a ha=>hA a (aU.2 (.inr ha))) rs,q⟩
end
end
def sk:O->Option (ai)
 | .deep cs=>some cs
 | .own k ks=>some (ks.map (.int k))
 | .cells cs=>ia cs
 |_=>none
section
variable(F:Nat->Option (ai))
def C2:Tr V->Option (ah×Tr V)
 | .nil=>some ([],.nil)
 | .node v l r=>match(match v with
    |none=>some ([],none)
    |some v=>match Bd F v with
     |some (A,v)=>some (A,some v)
     |none=>none:Option (ah×Option V))with
   |some (A,v)=>match C2 l with
    |some (B,l)=>match C2 r with
     |some (C,r)=>some (A++(B++C),.node v l r)
     |none=>none
    |none=>none
   |none=>none
def QU:List (V×V×Nat)->Option (ah×List (V×V×Nat))
 | []=>some ([],[])
 |x::xs=>match Bd F x.1 with
  |some (A,k)=>match Bd F x.2.1 with
   |some (B,v)=>match QU xs with
    |some (C,xs)=>some (A++(B++C),(k,v,x.2.2)::xs)
    |none=>none
   |none=>none
  |none=>none
def IK:O->Option (ah×O)
 | .cells cs=>match y7 F cs with
   |some (A,cs)=>some (A,.cells cs)
   |none=>none
 | .map es c=>match QU F es with
   |some (A,es)=>some (A,.map es c)
   |none=>none
 | .nE s p=>some ([],.nE s p)
 | .ints k ks=>some ([],.ints k ks)
 | .own k ks=>some ([],.own k ks)
 | .deep cs=>some ([],.deep cs)
 | .iX e f s=>some ([],.iX e f s)
 | .Bp t s x=>match Bd F x with
   |some (A,x)=>some (A,.Bp t s x)
   |none=>none
 | .dy k es=>some ([],.dy k es)
 | .mA=>some ([],.mA)
 | .loop st pe fr ps a b=>match C2 F fr with
   |some (A,fr)=>some (A,.loop st pe fr ps a b)
   |none=>none
def EZ:Tr O->Option (ah×Tr O)
 | .nil=>some ([],.nil)
 | .node v l r=>match(match v with
    |none=>some ([],none)
    |some v=>match IK F v with
     |some (A,v)=>some (A,some v)
     |none=>none:Option (ah×Option O))with
   |some (A,v)=>match EZ l with
    |some (B,l)=>match EZ r with
     |some (C,r)=>some (A++(B++C),.node v l r)
     |none=>none
    |none=>none
   |none=>none
def QV:List (FuncId×ag×ag)->Option (ah×List (FuncId×ag×ag))
 | []=>some ([],[])
 |x::xs=>match y7 F x.2.1 with
  |some (A,c)=>match y7 F x.2.2 with
   |some (B,a)=>match QV xs with
    |some (C,xs)=>some (A++(B++C),(x.1,c,a)::xs)
    |none=>none
   |none=>none
  |none=>none
end
def Zz(h:Tr O)(ms:List Nat)(m:Nat):Option (ai):=match ms.any (Nat.beq m)with
 |true=>match h.get m with
  |some o=>sk o
  |none=>none
 |false=>none
def MF(h:Tr O):List Nat->Bool
 | []=>true
 |m::ms=>Nat.blt m fN&&((match h.get m with|some o=>(match sk o with|some _=>true|none=>false)|none=>false)&&MF h ms)
def y8:List Nat->Tr O->Tr O
 | [],h=>h
 |m::ms,h=>y8 ms (h.set m none)
def XR(ms:List Nat)(s:St):Option (ah×St):=match MF s.h ms with
 |true=>match C2 (Zz s.h ms) s.fr with
  |some (A,fr)=>match EZ (Zz s.h ms) s.h with
   |some (B,h)=>match QV (Zz s.h ms) s.gz with
    |some (C,d)=>some (A++(B++C),{ fr:=fr,h:=y8 ms h,n:=s.n,gz:=d })
    |none=>none
   |none=>none
  |none=>none
 |false=>none
theorem we{F:Nat->Option (ai)}:∀(t t2:Tr V) (A:ah),C2 F t=some (A,t2)->∀k v2,t2.get k=some v2->∃v B,t.get k=some v/\Bd F v=some (B,v2)/\∀b∈B,b∈A
 | .nil,t2,A,h,k,v2,hk=>by simp only[C2,an,aB]at h;obtain⟨_,rfl⟩:=h;simp[Tr.get]at hk
 | .node v l r,t2,A,h,k,v2,hk=>by
   simp only[C2]at h;split at h
   case h_2=>cases h
   rename_i A1 v1 h1;split at h
   case h_2=>cases h
   rename_i B1 l1 hl;split at h
   case h_2=>cases h
   rename_i C1 r1 hr;obtain⟨rfl,rfl⟩:=fa h;simp only[Tr.get]at hk ⊢;split at hk
   . subst hk;cases v with
     |none=>simp at h1
     |some v=>
      simp only at h1;split at h1
      . rename_i A0 v0 h0;simp only[aB,an]at h1;obtain⟨rfl,rfl⟩:=h1;exact⟨v,A0,rfl,h0,fun b hb=>aU.2 (.inl hb)⟩
      . cases h1
   . rename_i k;split at hk
     . rename_i aj1;obtain⟨v,B,q1,q2,q3⟩:=we l l1 B1 hl _ v2 hk;exact⟨v,B,q1,q2,fun b hb=>aU.2 (.inr (aU.2 (.inl (q3 b hb))))⟩
     . rename_i aj1;obtain⟨v,B,q1,q2,q3⟩:=we r r1 C1 hr _ v2 hk;exact⟨v,B,q1,q2,fun b hb=>aU.2 (.inr (aU.2 (.inr (q3 b hb))))⟩
theorem Ao{F:Nat->Option (ai)}:∀(t t2:Tr O) (A:ah),EZ F t=some (A,t2)->∀k v2,t2.get k=some v2->∃v B,t.get k=some v/\IK F v=some (B,v2)/\∀b∈B,b∈A
 | .nil,t2,A,h,k,v2,hk=>by simp only[EZ,an,aB]at h;obtain⟨_,rfl⟩:=h;simp[Tr.get]at hk
 | .node v l r,t2,A,h,k,v2,hk=>by
   simp only[EZ]at h;split at h
   case h_2=>cases h
   rename_i A1 v1 h1;split at h
   case h_2=>cases h
   rename_i B1 l1 hl;split at h
   case h_2=>cases h
   rename_i C1 r1 hr;obtain⟨rfl,rfl⟩:=fa h;simp only[Tr.get]at hk ⊢;split at hk
   . subst hk;cases v with
     |none=>simp at h1
     |some v=>
      simp only at h1;split at h1
      . rename_i A0 v0 h0;simp only[aB,an]at h1;obtain⟨rfl,rfl⟩:=h1;exact⟨v,A0,rfl,h0,fun b hb=>aU.2 (.inl hb)⟩
      . cases h1
   . rename_i k;split at hk
     . obtain⟨v,B,q1,q2,q3⟩:=Ao l l1 B1 hl _ v2 hk;exact⟨v,B,q1,q2,fun b hb=>aU.2 (.inr (aU.2 (.inl (q3 b hb))))⟩
     . obtain⟨v,B,q1,q2,q3⟩:=Ao r r1 C1 hr _ v2 hk;exact⟨v,B,q1,q2,fun b hb=>aU.2 (.inr (aU.2 (.inr (q3 b hb))))⟩
section
variable{F:Nat->Option (ai)}{E E':Env}(hF:Zy F E E'.φ)(jb:∀m,E'.ι m=E.ι m)(oQ:E'.β=E.β)(kU:∀b c,E.φ b=some c->E'.φ b=some c)
include hF jb oQ kU
theorem IL:∀(es tU:List (V×V×Nat)) (A:ah) (l:List MapEntry),QU F es=some (A,tU)->(∀a∈A,a)->kG E es l->kG E' tU l
 | [],tU,A,_,h,_,r=>by simp only[QU,an,aB]at h;obtain⟨rfl,rfl⟩:=h;exact r
 |x::xs,tU,A,_,h,hA,⟨y,ys,r1,r2,r3,rs,q⟩=>by
  simp only[QU]at h;split at h
  case h_2=>cases h
  rename_i A1 k hk;split at h
  case h_2=>cases h
  rename_i B1 v hv;split at h
  case h_2=>cases h
  rename_i C1 Og Cm;obtain⟨rfl,rfl⟩:=fa h;exact⟨y,ys,tE hF jb oQ kU _ _ _ _ hk (fun a ha=>hA a (by simp[ha])) r1,tE hF jb oQ kU _ _ _ _ hv (fun a ha=>hA a (by simp[ha])) r2,r3,IL xs Og C1 ys Cm (fun a ha=>hA a (by simp[ha])) rs,q⟩
theorem UJ{w:World}{b s:Nat}:∀(o o2:O) (A:ah),IK F o=some (A,o2)->(∀a∈A,a)->lY E w b s o->lY E' w b s o2
 | .cells cs,o2,A,h,hA,⟨c,el,fz,h1,h2,h3,h4⟩=>by
   simp only[IK]at h;split at h
   case h_2=>cases h
   rename_i A1 ve oV;obtain⟨rfl,rfl⟩:=fa h;obtain⟨vs,k1,k2⟩:=rM.1 h4;exact⟨c,el,fz,h1,by rw[oQ];exact h2,h3,rM.2 ⟨vs,mq hF jb oQ kU _ _ _ _ oV hA k1,k2⟩⟩
 | .map es cl,o2,A,h,hA,⟨hs,fW,h1,h2⟩=>by
   simp only[IK]at h;split at h
   case h_2=>cases h
   rename_i A1 tU TS;obtain⟨rfl,rfl⟩:=fa h;exact⟨hs,fW,h1,IL hF jb oQ kU _ _ _ _ TS hA h2⟩
 | .nE st p,o2,A,h,_,r=>by simp only[IK,an,aB]at h;obtain⟨rfl,rfl⟩:=h;exact r
 | .ints k ks,o2,A,h,_,⟨c,el,fz,h1,h2,h3⟩=>by simp only[IK,an,aB]at h;obtain⟨rfl,rfl⟩:=h;exact⟨c,el,fz,h1,by rw[oQ];exact h2,h3⟩
 | .own k ks,o2,A,h,_,⟨c,el,fz,h1,h2,h3,h4⟩=>by simp only[IK,an,aB]at h;obtain⟨rfl,rfl⟩:=h;exact⟨c,el,fz,h1,by rw[oQ];exact h2,h3,wO h4⟩
 | .deep cs,o2,A,h,_,⟨c,el,fz,vs,h1,h2,h3,h4,h5⟩=>by simp only[IK,an,aB]at h;obtain⟨rfl,rfl⟩:=h;exact⟨c,el,fz,vs,h1,by rw[oQ];exact h2,h3,iS kU _ _ h4,h5⟩
 | .iX el AL t,o2,A,h,_,⟨c,fz,xs,h1,h0,h2,h3⟩=>by simp only[IK,an,aB]at h;obtain⟨rfl,rfl⟩:=h;exact⟨c,fz,xs,h1,h0,by rw[oQ];exact h2,h3⟩
 | .Bp t self x,o2,A,h,hA,⟨hs,x',fz,h1,h2,h3,h4⟩=>by
   simp only[IK]at h;split at h
   case h_2=>cases h
   rename_i A1 x2 hx;obtain⟨rfl,rfl⟩:=fa h;exact⟨hs,x',fz,h1,by rw[oQ];exact h2,h3,tE hF jb oQ kU _ _ _ _ hx hA h4⟩
 | .dy kk es,o2,A,h,_,⟨hs,fW,cl,h1,h2⟩=>by simp only[IK,an,aB]at h;obtain⟨rfl,rfl⟩:=h;exact⟨hs,fW,cl,h1,h2.mono kU⟩
 | .mA,o2,A,h,_,r=>by simp only[IK,an,aB]at h;obtain⟨rfl,rfl⟩:=h;exact r
 | .loop st pe fr ps a b',o2,A,h,hA,⟨r,h1,h2,h3,h4,h5,h6,h7,h8⟩=>by
   simp only[IK]at h;split at h
   case h_2=>cases h
   rename_i A1 xB ya;obtain⟨rfl,rfl⟩:=fa h;refine⟨r,h1,h2,h3,h4,h5,h6,fun t v e=>?_,h8⟩;obtain⟨v0,B,q1,q2,q3⟩:=we _ _ _ ya t v e;obtain⟨v',k1,k2⟩:=h7 t v0 q1;exact⟨v',k1,tE hF jb oQ kU _ _ _ _ q2 (fun x hx=>hA x (q3 x hx)) k2⟩
theorem IM:∀(xs Og:List (FuncId×ag×ag)) (A:ah) (ys:List Deferred),QV F xs=some (A,Og)->(∀a∈A,a)->wS E xs ys->wS E' Og ys
 | [],Og,A,_,h,_,r=>by simp only[QV,an,aB]at h;obtain⟨rfl,rfl⟩:=h;exact r
 |x::xs,Og,A,_,h,hA,⟨d,ys,r1,rs,q⟩=>by
  simp only[QV]at h;split at h
  case h_2=>cases h
  rename_i A1 c hc;split at h
  case h_2=>cases h
  rename_i B1 a ha;split at h
  case h_2=>cases h
  rename_i C1 xs3 Cm;obtain⟨rfl,rfl⟩:=fa h;refine⟨d,ys,?_,IM xs xs3 C1 ys Cm (fun a ha=>hA a (by simp[ha])) rs,q⟩;rcases r1 with⟨hx,c',a',q1,q2,q3⟩|⟨hx,m,b,s,q1,q2,q3⟩
  . exact .inl ⟨hx,c',a',mq hF jb oQ kU _ _ _ _ hc (fun a ha=>hA a (by simp[ha])) q1,mq hF jb oQ kU _ _ _ _ ha (fun a ha=>hA a (by simp[ha])) q2,q3⟩
  . refine .inr ⟨hx,m,b,s,?_,(jb m).trans q2,q3⟩;have q1:x.2.2=[V.map (some m)]:=q1;rw[q1]at ha;simp only[y7,Bd]at ha;cases hm:F m with
    |some _=>rw[hm]at ha;cases ha
    |none=>rw[hm]at ha;simp only[an,aB]at ha;exact ha.2.symm
end
theorem ZA{F:Nat->Option (ai)}{o o2:O}{A:ah}(h:IK F o=some (A,o2)):o2.wr=o.wr:=by
 cases o<;>simp only[IK]at h<;>(try split at h)<;>first|(simp only[an,aB]at h;obtain⟨_,rfl⟩:=h;rfl)|cases h
theorem E5:∀(ms:List Nat) (h:Tr O) (k:Nat),(∀m∈ms,m<fN)->(y8 ms h).get k=if k∈ms then none else h.get k
 | [],h,k,_=>by simp[y8]
 |m::ms,h,k,ht=>by
  rw[y8,E5 ms _ k fun m hm=>ht m (by simp[hm]),Tr.eS _ _ _ (ht m (by simp))];by_cases h1:k∈ms
  . simp[h1]
  . by_cases h2:k=m
    . simp[h2]
    . simp[h1,h2]
theorem C3{h:Tr O}:∀{ms:List Nat},MF h ms=true->∀m∈ms,m<fN/\∃o cs,h.get m=some o/\sk o=some cs
 | [],_,m,hm=>by simp at hm
 |x::ms,h,m,hm=>by
  simp only[MF,aC]at h;rcases aE.1 hm with rfl|hm
  . refine⟨au h.1,?_⟩;have:=h.2.1;split at this
    . rename_i o ho;split at this
      . rename_i cs hc;exact⟨o,cs,ho,hc⟩
      . cases this
    . cases this
  . exact C3 h.2.2 m hm
theorem QW{h:Tr O}{ms:List Nat}{m:Nat}{cs:ai}(e:Zz h ms m=some cs):m∈ms/\∃o,h.get m=some o/\sk o=some cs:=by
 unfold Zz at e;split at e
 . rename_i ha;split at e
   . rename_i o ho;obtain⟨x,hx,q⟩:=List.any_eq_true.1 ha;have:=aD q;subst this;exact⟨hx,o,ho,e⟩
   . cases e
 . cases e
theorem GG{o:O}{cs:ai}(h:sk o=some cs):o.wr=true:=by cases o<;>simp[sk]at h<;>rfl
theorem QX{E:Env}{w:World}{b s:Nat}{o:O}{cs:ai}(h:sk o=some cs)(r:lY E w b s o):∃c el fz vs,w.heap[b]? =some (.cells c el fz)/\iw E.φ cs vs/\∀(j:Nat) (x:Value),vs[j]? =some x->c[s+j]? =some x:=by
 cases o<;>simp only[sk,an,reduceCtorEq]at h
 . obtain⟨c,el,fz,h1,_,_,h4⟩:=r;obtain⟨vs,k1,k2⟩:=rM.1 h4;exact⟨c,el,fz,vs,h1,sU h k1,k2⟩
 . rename_i k ks;subst h;obtain⟨c,el,fz,h1,_,_,h4⟩:=r;have e:D.jO (ks.map (.int k))=ks.map (.int k):=by rw[D.gx,List.map_map];rfl
   obtain⟨vs,k1,k2⟩:=(nQ (fun x hx=>by obtain⟨_,_,rfl⟩:=bB.1 hx;rfl)).1 (by rw[e];exact h4:l9 E s (D.jO (ks.map (.int k))) c);exact⟨c,el,fz,vs,h1,k1,k2⟩
 . subst h;obtain⟨c,el,fz,vs,h1,_,_,h4,h5⟩:=r;exact⟨c,el,fz,vs,h1,h4,h5⟩
open Classical in
noncomputable def GH(E:Env)(F:Nat->Option (ai))(w:World)(b:Nat):Option (Array Value):=if ∃m s,(F m).isSome=true/\E.ι m=some (b,s)then(match w.heap[b]? with|some (.cells c _ _)=>some c|_=>none)else E.φ b
theorem wh{n0 N:Nat}{ms:List Nat}{s s2:St}{A:ah}{E:Env}{a:Act}{w:World}(e:XR ms s=some (A,s2))(hA:∀x∈A,x)(r:jV E N s a w)(hn:n0<=s.n):
  ∃E2,jV E2 N s2 a w/\lH n0 E s.h w E2 s2.h w/\n0<=s2.n/\(∀m,E2.ι m=E.ι m):=by
 unfold XR at e;split at e
 case h_2=>cases e
 rename_i UK;split at e
 case h_2=>cases e
 rename_i A1 xB ya;split at e
 case h_2=>cases e
 rename_i B1 h2 hh;split at e
 case h_2=>cases e
 rename_i C1 d2 Gl;simp only[an,aB]at e;obtain⟨rfl,rfl⟩:=e;have UK:=C3 UK;generalize hFd:Zz s.h ms=F at *;have g:=r.good;have hFm:∀m cs,F m=some cs->m∈ms/\∃o,s.h.get m=some o/\sk o=some cs:=fun m cs q=>QW (h:=s.h) (ms:=ms) (by rw[hFd];exact q);have hmF:∀m,m∈ms->(F m).isSome=true:=by
  intro m hm;obtain⟨_,o,cs,h1,h3⟩:=UK m hm;rw[<- hFd];unfold Zz;rw[show ms.any (Nat.beq m)=true from List.any_eq_true.2 ⟨m,hm,cM m⟩,h1];simp only[h3];rfl
 have uO:∀b c,E.φ b=some c->GH E F w b=some c:=by
  intro b c q;unfold GH;rw[aI];. exact q
  rintro⟨m,s',h1,h3⟩;obtain⟨cs,oV⟩:=b9.1 h1;obtain⟨_,o,k1,k2⟩:=hFm m cs oV;exact(g.gM b c q).2 m s' ⟨o,k1,GG k2⟩ h3
 let E2:Env:=⟨E.ι,E.β,GH E F w⟩
 have hFz:Zy F E E2.φ:=by
  intro m cs oV b s' hb;obtain⟨_,o,k1,k2⟩:=hFm m cs oV;obtain⟨b',t,q1,q2⟩:=g.rel m o k1;rw[hb]at q1;cases q1;obtain⟨c,el,fz,vs,p1,p2,p3⟩:=QX k2 q2;refine⟨c,vs,?_,iS uO _ _ p2,p3⟩;show GH E F w b=some c;unfold GH;rw[aG ⟨m,s',by rw[oV];rfl,hb⟩,p1]
 have hA1:∀x∈A1,x:=fun x hx=>hA x (by simp[hx]);have hB1:∀x∈B1,x:=fun x hx=>hA x (by simp[hx]);have hC1:∀x∈C1,x:=fun x hx=>hA x (by simp[hx]);have kH:∀k o2,(y8 ms h2).get k=some o2->k∉ms/\∃o B,s.h.get k=some o/\IK F o=some (B,o2)/\∀b∈B,b:=by
  intro k o2 q;rw[E5 ms h2 k fun m hm=>(UK m hm).1]at q;split at q
  . cases q
  . rename_i hk;obtain⟨o,B,q1,q2,q3⟩:=Ao _ _ _ hh k o2 q;exact⟨hk,o,B,q1,q2,fun b hb=>hB1 b (q3 b hb)⟩
 have tZ:∀k,eC (y8 ms h2) k->k∉ms/\eC s.h k:=by
  rintro k ⟨o2,q1,q2⟩;obtain⟨hk,o,B,p1,p2,_⟩:=kH k o2 q1;exact⟨hk,o,p1,(ZA p2).symm.trans q2⟩
 have F4:∀k,(y8 ms h2).get k≠none->s.h.get k≠none:=by
  intro k q;obtain⟨o2,q⟩:=bg.1 q;obtain⟨_,o,_,p1,_⟩:=kH k o2 q;rw[p1];simp
 have qw:Good E2 (y8 ms h2) w:=by
  refine⟨fun m o2 hm=>?_,fun m m' b t t' fP hm sW e1 e2=>g.inj m m' b t t' fP (tZ m hm).2 (F4 m' sW) e1 e2,g.mU,g.jm,fun b c q=>?_⟩
  . obtain⟨_,o,B,p1,p2,p3⟩:=kH m o2 hm;obtain⟨b,t,q1,q2⟩:=g.rel m o p1;exact⟨b,t,q1,UJ (E':=E2) hFz (fun _=>rfl) rfl uO o o2 B p2 p3 q2⟩
  . have q:GH E F w b=some c:=q;unfold GH at q;split at q
    . rename_i UL;obtain⟨m,t,h1,h3⟩:=UL;obtain⟨cs,oV⟩:=b9.1 h1;obtain⟨hms,o,k1,k2⟩:=hFm m cs oV;refine⟨?_,fun m' t' sW e1=>?_⟩
      . split at q
        . rename_i c' el fz hc;cases q;exact⟨el,fz,hc⟩
        . cases q
      . obtain⟨hnm,hw'⟩:=tZ m' sW;exact g.inj m m' b t t' (fun z=>hnm (z▸hms)) ⟨o,k1,GG k2⟩ hw'.live h3 e1
    . exact⟨(g.gM b c q).1,fun m' t' sW=>(g.gM b c q).2 m' t' (tZ m' sW).2⟩
 refine⟨E2,⟨qw,r.nZ,fun t v2 hv=>?_,r.size,IM (E':=E2) hFz (fun _=>rfl) rfl uO _ _ _ _ Gl hC1 r.gz⟩,⟨fun m b t _ q=>⟨q,rfl⟩,fun _ _=>rfl,uO,qw,aA _,rfl,rfl,rfl,fun _ _ _=>rfl,fun m b t hm q _=>⟨m,t,F4 m hm,q,fun z=>(tZ m z).2⟩,fun b c q=>?_⟩,hn,fun _=>rfl⟩
 . obtain⟨v,B,q1,q2,q3⟩:=we _ _ _ ya t v2 hv;obtain⟨v',k1,k2⟩:=r.fr t v q1;exact⟨v',k1,tE (E':=E2) hFz (fun _=>rfl) rfl uO _ _ _ _ q2 (fun x hx=>hA1 x (q3 x hx)) k2⟩
 . have q:GH E F w b=some c:=q;unfold GH at q;split at q
   . rename_i UL;obtain⟨m,t,h1,h3⟩:=UL;obtain⟨cs,oV⟩:=b9.1 h1;obtain⟨_,o,k1,k2⟩:=hFm m cs oV;exact .inr (.inr ⟨m,t,⟨o,k1,GG k2⟩,h3⟩)
   . exact .inl q
theorem xJ{P:Program}{n0 N:Nat}{c:Code}{s s2:St}{A:ah}{Q:Exit->St->Prop}(ms:List Nat)(e:XR ms s=some (A,s2))(hA:∀x∈A,x)(h:TG P n0 N c s2 Q):TG P n0 N c s Q:=by
 intro E a w K r hn k;obtain⟨E2,r2,u2,xn,_⟩:=wh e hA r hn;exact h E2 a w K r2 xn fun y s' E' a' w' q u pC r'=>k y s' E' a' w' q (u2.trans u) pC r'
def E6(h:Tr O):List Nat->Option (Tr O)
 | []=>some h
 |m::r=>match h.get m with
  |some (.cells cs)=>match ia cs with
   |some ds=>match Nat.blt m fN with
    |true=>E6 (h.set m (some (.deep ds))) r
    |false=>none
   |none=>none
  |some (.own k ks)=>match Nat.blt m fN with
   |true=>E6 (h.set m (some (.deep (ks.map (.int k))))) r
   |false=>none
  |_=>none
section
variable{E:Env}{w:World}{b s:Nat}
theorem sq{h:Tr O}{w:World}{m:Nat}{o o2:O}(ht:m<fN)(hm:h.get m=some o)(hw:o.wr=true)(ho:∀b s,E.ι m=some (b,s)->lY E w b s o->lY E w b s o2)(g:Good E h w):
  Good E (h.set m (some o2)) w/\∀j,((h.set m (some o2)).get j≠none↔h.get j≠none)/\(eC (h.set m (some o2)) j->eC h j):=by
 have kH:∀j,(h.set m (some o2)).get j=if j=m then some o2 else h.get j:=fun j=>Tr.eS _ _ _ ht
 have F4:∀j,((h.set m (some o2)).get j≠none↔h.get j≠none)/\(eC (h.set m (some o2)) j->eC h j):=by
  intro j;rw[kH];by_cases q:j=m
  . subst q;rw[aG rfl,hm];exact⟨by simp,fun _=>⟨_,hm,hw⟩⟩
  . rw[aI q];exact⟨Iff.rfl,fun z=>oz ht z q⟩
 refine⟨⟨fun j o' hj=>?_,fun j j' b s s' fP hj QO e1 e2=>g.inj j j' b s s' fP ((F4 j).2 hj) ((F4 j').1.1 QO) e1 e2,g.mU,g.jm,fun b c q=>⟨g.fz b c q,fun m' s sW=>(g.gM b c q).2 m' s ((F4 m').2 sW)⟩⟩,F4⟩;rw[kH]at hj;split at hj
 . rename_i q;subst q;obtain rfl:=ew hj;obtain⟨b,s,h1,h2⟩:=g.rel j _ hm;exact⟨b,s,h1,ho b s h1 h2⟩
 . exact g.rel j o' hj
theorem KL{cs:ag}{ds:ai}(hd:ia cs=some ds)(r:lY E w b s (.cells cs)):lY E w b s (.deep ds):=by
 obtain⟨c,el,fz,h1,h2,h3,h4⟩:=r;obtain⟨vs,k1,k2⟩:=rM.1 h4;exact⟨c,el,fz,vs,h1,h2,h3,sU hd k1,k2⟩
theorem QY{k:IntKind}{ks:List Int}(r:lY E w b s (.own k ks)):lY E w b s (.deep (ks.map (.int k))):=by
 obtain⟨c,el,fz,h1,h2,h3,h4⟩:=r;have e:D.jO (ks.map (.int k))=ks.map (.int k):=by rw[D.gx,List.map_map];rfl
 obtain⟨vs,k1,k2⟩:=(nQ (fun x hx=>by obtain⟨_,_,rfl⟩:=bB.1 hx;rfl)).1 (by rw[e];exact h4:l9 E s (D.jO (ks.map (.int k))) c);exact⟨c,el,fz,vs,h1,h2,h3,k1,k2⟩
end
theorem qF{E:Env}{w:World}:∀(l:List Nat) (h h2:Tr O),E6 h l=some h2->Good E h w->Good E h2 w/\∀m,(h2.get m≠none↔h.get m≠none)/\(eC h2 m->eC h m)
 | [],h,h2,e,g=>by simp only[E6,an]at e;subst e;exact⟨g,fun m=>⟨Iff.rfl,id⟩⟩
 |m::r,h,h2,e,g=>by
  unfold E6 at e;split at e
  . rename_i cs hm;split at e
    case h_2=>cases e
    rename_i ds hd;split at e
    case h_2=>cases e
    rename_i ht;obtain⟨g1,k1⟩:=sq (au ht) hm rfl (fun b s _ q=>KL hd q) g;obtain⟨g2,k2⟩:=qF r _ h2 e g1;exact⟨g2,fun j=>⟨(k2 j).1.trans (k1 j).1,fun z=>(k1 j).2 ((k2 j).2 z)⟩⟩
  . rename_i k ks hm;split at e
    case h_2=>cases e
    rename_i ht;obtain⟨g1,k1⟩:=sq (au ht) hm rfl (fun b s _ q=>QY q) g;obtain⟨g2,k2⟩:=qF r _ h2 e g1;exact⟨g2,fun j=>⟨(k2 j).1.trans (k1 j).1,fun z=>(k1 j).2 ((k2 j).2 z)⟩⟩
  . cases e
def C4(l:List Nat)(s:St):Option St:=match E6 s.h l with
 |some h=>some { s with h:=h }
 |none=>none
theorem KM{P:Program}{n0 N:Nat}{c:Code}{s:St}{h2:Tr O}{Q:Exit->St->Prop}(hg:∀E w,Good E s.h w->Good E h2 w/\∀m,(h2.get m≠none↔s.h.get m≠none)/\(eC h2 m->eC s.h m))(h:TG P n0 N c { s with h:=h2 } Q):TG P n0 N c s Q:=by
 intro E a w K r hn k;obtain⟨g2,k2⟩:=hg E w r.good;have u:lH n0 E s.h w E h2 w:=⟨fun _ _ _ _ e=>⟨e,rfl⟩,fun _ _=>rfl,fun _ _ q=>q,g2,aA _,rfl,rfl,rfl,fun _ _ _=>rfl,fun m b s1 hm e1 _=>⟨m,s1,(k2 m).1.1 hm,e1,(k2 m).2⟩,fun _ _ q=>.inl q⟩;exact h E a w K ⟨g2,r.nZ,r.fr,r.size,r.gz⟩ hn fun y s' E' a' w' q u' pC r'=>k y s' E' a' w' q (u.trans u') pC r'
theorem tF{P:Program}{n0 N:Nat}{c:Code}{s s2:St}{Q:Exit->St->Prop}(l:List Nat)(e:C4 l s=some s2)(h:TG P n0 N c s2 Q):TG P n0 N c s Q:=by
 unfold C4 at e;split at e
 case h_2=>cases e
 rename_i h2 hh;obtain rfl:=ew e;exact KM (fun E w g=>qF l s.h h2 hh g) h
theorem Ow{E:Env}{w:World}{b s:Nat}{c:Nat}(kd:Option IntKind)(r:lY E w b s (.map [] c)):lY E w b s (.dy kd []):=by
 obtain⟨hs,fW,h1,h2⟩:=r;have:fW.toList=[]:=h2;refine⟨hs,fW,c,h1,⟨⟨[],.refl _,by rw[this];rfl⟩,by simp,by simp,by rw[this];simp,by rw[this];simp⟩⟩
def QZ(h:Tr O):List (Nat×Option IntKind)->Option (Tr O)
 | []=>some h
 |(m,kd)::r=>match h.get m with
  |some (.map [] _)=>match Nat.blt m fN with
   |true=>QZ (h.set m (some (.dy kd []))) r
   |false=>none
  |_=>none
theorem Ap{E:Env}{w:World}:∀(l:List (Nat×Option IntKind)) (h h2:Tr O),QZ h l=some h2->Good E h w->Good E h2 w/\∀m,(h2.get m≠none↔h.get m≠none)/\(eC h2 m->eC h m)
 | [],h,h2,e,g=>by simp only[QZ,an]at e;subst e;exact⟨g,fun m=>⟨Iff.rfl,id⟩⟩
 |(m,kd)::r,h,h2,e,g=>by
  unfold QZ at e;split at e
  case h_2=>cases e
  rename_i c hm;split at e
  case h_2=>cases e
  rename_i ht;obtain⟨g1,k1⟩:=sq (au ht) hm rfl (fun b s _ q=>Ow kd q) g;obtain⟨g2,k2⟩:=Ap r _ h2 e g1;exact⟨g2,fun j=>⟨(k2 j).1.trans (k1 j).1,fun z=>(k1 j).2 ((k2 j).2 z)⟩⟩
def Q0(l:List (Nat×Option IntKind))(s:St):Option St:=match QZ s.h l with
 |some h=>some { s with h:=h }
 |none=>none
theorem Aq{P:Program}{n0 N:Nat}{c:Code}{s s2:St}{Q:Exit->St->Prop}(l:List (Nat×Option IntKind))(e:Q0 l s=some s2)(h:TG P n0 N c s2 Q):TG P n0 N c s Q:=by
 unfold Q0 at e;split at e
 case h_2=>cases e
 rename_i h2 hh;obtain rfl:=ew e;exact KM (fun E w g=>Ap l s.h h2 hh g) h
theorem Ox{E:Env}{w:World}{b s:Nat}{kd:Option IntKind}{es tU:ae}(p:List.Perm es tU)(r:lY E w b s (.dy kd es)):lY E w b s (.dy kd tU):=by
 obtain⟨hs,fW,c,h1,h2⟩:=r;obtain⟨l,q1,q2⟩:=h2.row;exact⟨hs,fW,c,h1,⟨⟨l,q1.trans p,q2⟩,((p.map _).nodup_iff).1 h2.keys,fun e he=>h2.kind e (p.mem_iff.2 he),h2.old,h2.born⟩⟩
def Q2:List (List Nat)->St->Option (ah×St)
 | [],s=>some ([],s)
 |ms::r,s=>match XR ms s with
  |some (A,s)=>match Q2 r s with
   |some (B,s)=>some (A++B,s)
   |none=>none
  |none=>none
theorem C5{n0 N:Nat}{w:World}{a:Act}:∀(l:List (List Nat)) {s s2:St} {A:ah} {E:Env},Q2 l s=some (A,s2)->(∀x∈A,x)->jV E N s a w->n0<=s.n->
  ∃E2,jV E2 N s2 a w/\lH n0 E s.h w E2 s2.h w/\n0<=s2.n/\(∀m,E2.ι m=E.ι m)
 | [],s,s2,A,E,e,_,r,hn=>by
   simp only[Q2,an,aB]at e;obtain⟨rfl,rfl⟩:=e;exact⟨E,r,.refl r.good,hn,fun _=>rfl⟩
 |ms::l,s,s2,A,E,e,hA,r,hn=>by
  simp only[Q2]at e;split at e
  case h_2=>cases e
  rename_i A1 s1 h1;split at e
  case h_2=>cases e
  rename_i B1 s3 h3;obtain⟨rfl,rfl⟩:=fa e;obtain⟨E1,r1,u1,n1,i1⟩:=wh h1 (fun x hx=>hA x (by simp[hx])) r hn;obtain⟨E2,r2,u2,n2,i2⟩:=C5 l h3 (fun x hx=>hA x (by simp[hx])) r1 n1;exact⟨E2,r2,u1.trans u2,n2,fun m=>(i2 m).trans (i1 m)⟩
def nB(v:V)(u:V)(h:Tr O)(n:Nat):Prop:=∃l A s2,Q2 l { fr:=Tr.nil.set 0 (some u),h:=h,n:=n,gz:=[] }=some (A,s2)/\(∀a∈A,a)/\s2.fr.get 0=some v
theorem nB.self{v:V}{h:Tr O}{n:Nat}:nB v v h n:=⟨[],[],_,rfl,by simp,Tr.mY _ _ dP⟩
theorem C6{E E1:Env}{h h0 h':Tr O}{n n':Nat}{w w':World}{u v:V}{en:Ending}(g:Good E h w)(hd:qL E n)(kU:E1.φ=E.φ)(Bc:∀m,¬eC h0 m)(hv:v.deep=true)(hz:nB v u h' n')
  (c:jU E1 h0 gN w (.ret u) h' n' en w'):jU E h n w (.ret v) h n en w':=by
 obtain⟨E2,u2,_,rX,hn,ho⟩:=c;cases en with
 |returned x=>
  have ho:dF E2 u x:=ho;obtain⟨l,A,s2,e1,hA,e2⟩:=hz;have sr:jV E2 1 { fr:=Tr.nil.set 0 (some u),h:=h',n:=n',gz:=[] } { tmps:=#[x],defers:=[] } w':=by
   refine⟨u2.good,rX,fun t y hy=>?_,rfl,rfl⟩;rw[Tr.eS _ _ _ dP]at hy;split at hy
   . rename_i q;subst q;cases hy;exact⟨x,rfl,ho⟩
   . simp[Tr.get]at hy
  obtain⟨E3,r3,u3,_,_⟩:=C5 (n0:=0) l e1 hA sr (aY _);obtain⟨x',q1,q2⟩:=r3.fr 0 v e2;simp only[List.getElem?_toArray,bG,an]at q1;subst q1;have XS:∀b,b<w.heap.size->w'.heap[b]? =w.heap[b]?:=fun b hb=>u2.keep b hb fun m s hm=>absurd hm (Bc m);have bl:Below w.heap.size w w':=⟨u2.os,u2.tape,u2.output,u2.size,XS⟩;have gb:=g.below bl;have Qw:∀b c,E3.φ b=some c->E.φ b=some c\/w.heap.size<=b:=by
   intro b c q;have k3:∀m s,eC h' m->E2.ι m=some (b,s)->w.heap.size<=b:=by
    intro m s hm e;rcases bN b w.heap.size with z|z
    . obtain⟨m0,s0,_,_,k0⟩:=u2.sV m b s hm.live e z;exact absurd (k0 hm) (Bc m0)
    . exact z
   rcases u3.DU b c q with q|q|⟨m,s,p1,p2⟩
   . rcases u2.DU b c q with q|q|⟨m,s,p1,p2⟩
     . exact .inl (kU▸q)
     . exact .inr q
     . exact absurd p1 (Bc m)
   . exact .inr (bU u2.size q)
   . exact .inr (k3 m s p1 p2)
  have Qc:∀b c,E.φ b=some c->E3.φ b=some c:=fun b c q=>u3.fz b c (u2.le.fz b c (kU▸q))
  let E':Env:=⟨E.ι,E.β,E3.φ⟩
  have kC:E.le E':=⟨fun m b s q=>⟨q,rfl⟩,Qc⟩;have ad9:Good E' h w':=by
   refine⟨fun m o hm=>?_,gb.inj,gb.mU,gb.jm,fun b c q=>⟨r3.good.fz b c q,fun m s hm e=>?_⟩⟩
   . obtain⟨b,s,k1,k2⟩:=gb.rel m o hm;exact⟨b,s,k1,ik kC rfl rfl k2⟩
   . rcases Qw b c q with z|z
     . exact(g.gM b c z).2 m s hm e
     . have:=g.mU m b s e;omega
  refine⟨E',⟨kC,ad9,u2.size,u2.tape,u2.os,u2.output,fun b hb _=>XS b hb,fun m b s hm e _=>⟨m,s,hm,e,id⟩,fun b c q=>?_⟩,fun _ _=>rfl,hd,aA _,(C0 (E:=E3) (E':=E') (fun _ _ q=>q) v x hv q2:dF E' v x)⟩;rcases Qw b c q with z|z
  . exact .inl z
  . exact .inr (.inl z)
 |_=>exact ho.elim
def E7(f:ag->Option (ah×V)):ag->Tr O->Nat->Option (ah×V×Tr O×Nat):=fun args h n=>match f args with
 |some (A,v)=>some (A,v,h,n)
 |none=>none
def KN(P:Program)(f:FuncId)(args:ag)(v:V):Prop:=∀E h n w c9,dI E args c9->Good E h w->qL E n->Calls P f c9.toArray w (jU E h n w (.ret v) h n)
theorem IN{P:Program}{f:FuncId}{spec:ag->Option (ah×V)}(fJ:f<P.funcs.size)(h:∀args A v,spec args=some (A,v)->(∀a∈A,a)->KN P f args v):jG P f (E7 spec):=by
 refine⟨fJ,fun args h' n A v h2 n2 e hA E w c9 ra g hd hc=>?_⟩;unfold E7 at e;split at e
 . rename_i A' v' hs;simp only[an,aB]at e;obtain⟨rfl,rfl,rfl,rfl⟩:=e;exact h args _ _ hs hA E h' n w c9 ra g hd
 . cases e
theorem gU{P:Program}(hm:P.follows .mixedOrders=true)(xD:lB P=true){f:FuncId}{fn:Func}{code:Code}(hf:P.funcs[f]? =some fn)(hb:fn.body=some code){args:ag}
  (l:(Nat.ble args.length fn.ntmps&&Nat.blt fn.ntmps fN)=true) {v:V} (hdp:V.qE args=true) (hv:v.deep=true) (hT:TG P gN fn.ntmps code (cT args .nil gN) (fH P gN fn (nB v))):KN P f args v:=by
 intro E h n w c9 ra g hd;have g0:Good (UA E.φ) .nil w:=Qx g.wg g.fz;have ra0:dI (UA E.φ) args c9:=od (E:=E) (E':=UA E.φ) (fun _ _ q=>q) _ _ hdp ra;exact(oH hm xD hf hb l _ hT ra0 g0 (XD (aA _))).mono fun e w' ⟨u,h',n',hz,k⟩=>C6 (E1:=UA E.φ) g hd rfl QM hv hz k
def E9:ag->Option (ai)
 | []=>some []
 |x::xs=>match V.PC x with
  |some d=>match E9 xs with
   |some l=>some (d::l)
   |none=>none
  |none=>none
theorem Ar{E:Env}:∀{xs:ag} {ds:ai},E9 xs=some ds->∀{l:List Value},dI E xs l->dI E (ds.map D.iL) l
 | [],ds,h,l,r=>by simp only[E9,an]at h;subst h;exact r
 |x::xs,ds,h,l,r=>by
  simp only[E9]at h;split at h
  case h_2=>cases h
  rename_i d hd;split at h
  case h_2=>cases h
  rename_i l' hl;obtain rfl:=ew h;obtain⟨y,ys,r0,rs,rfl⟩:=r;exact⟨y,ys,lu _ _ (F1 hd r0).1,Ar hl rs,rfl⟩
def dW(f:ai->Option (ah×V)):ag->Tr O->Nat->Option (ah×V×Tr O×Nat):=fun args h n=>match E9 args with
 |some ds=>match f ds with
  |some (A,v)=>some (A,v,h,n)
  |none=>none
 |none=>none
theorem vl{P:Program}{f:FuncId}{spec:ai->Option (ah×V)}(fJ:f<P.funcs.size)(h:∀args A v,spec args=some (A,v)->(∀a∈A,a)->KN P f (args.map D.iL) v):jG P f (dW spec):=by
 refine⟨fJ,fun args h' n A v h2 n2 e hA E w c9 ra g hd hc=>?_⟩;unfold dW at e;split at e
 . rename_i ds hds;split at e
   . rename_i A' v' hs;simp only[an,aB]at e;obtain⟨rfl,rfl,rfl,rfl⟩:=e;exact h ds _ _ hs hA E h' n w c9 (Ar hds ra) g hd
   . cases e
 . cases e
def Env.pick(E:Env)(ns:List (Option Nat)):Env:=⟨fun j=>match ns.getD j none with
 |some m=>E.ι m
 |none=>none,E.β,E.φ⟩
theorem mC{E:Env}{ns:List (Option Nat)}{j m:Nat}(h:ns.getD j none=some m):(E.pick ns).ι j=E.ι m:=by
 show(match ns.getD j none with|some m=>E.ι m|none=>none)=_;rw[h]
def As:List (Option Nat)->Nat->Nat->Option Nat
 | [],_,_=>none
 |none::r,j,m=>As r (j+1) m
 |some k::r,j,m=>match Nat.beq k m with
  |true=>some j
  |false=>As r (j+1) m
theorem Au:∀(l:List (Option Nat)) (j m k:Nat),As l j m=some k->j<=k/\l.getD (k-j) none=some m
 | [],_,_,_,h=>by cases h
 |none::r,j,m,k,h=>by
  obtain⟨h1,h2⟩:=Au r (j+1) m k h;refine⟨be,?_⟩;rw[show k-j=(k-(j+1))+1 by omega];simpa using h2
 |some x::r,j,m,k,h=>by
  simp only[As]at h;split at h
  . rename_i hb;obtain rfl:=ew h;refine⟨aA _,?_⟩;simp[aD hb]
  . obtain⟨h1,h2⟩:=Au r (j+1) m k h;refine⟨be,?_⟩;rw[show k-j=(k-(j+1))+1 by omega];simpa using h2
abbrev mu(ns:List (Option Nat)):Nat->Option Nat:=As ns 0
theorem UM{ns:List (Option Nat)}{m k:Nat}(h:mu ns m=some k):ns.getD k none=some m:=by
 have:=(Au ns 0 m k h).2;simpa using this
theorem Q3{E:Env}{ns:List (Option Nat)}:∀m k,mu ns m=some k->(E.pick ns).ι k=E.ι m:=fun _ _ h=>mC (UM h)
def nr:List (Option Nat)->Bool
 | []=>true
 |none::r=>nr r
 |some k::r=>!(r.any fun x=>match x with|some j=>Nat.beq k j|none=>false)&&nr r
theorem oJ:∀{l:List (Option Nat)},nr l=true->∀i j m,l.getD i none=some m->l.getD j none=some m->i=j
 | [],_,i,_,_,h,_=>by simp at h
 |none::r,h,i,j,m,h1,h2=>by
  cases i with
  |zero=>simp at h1
  |succ i=>cases j with
   |zero=>simp at h2
   |succ j=>rw[oJ (l:=r) h i j m (by simpa using h1) (by simpa using h2)]
 |some k::r,h,i,j,m,h1,h2=>by
  simp only[nr,aC,Bool.not_eq_true']at h;have no:∀q,r.getD q none≠some k:=by
   intro q hq;have hm:some k∈r:=by
    rw[aL]at hq;cases hx:r[q]? with
    |none=>rw[hx]at hq;cases hq
    |some x=>rw[hx]at hq;simp only[Option.getD_some]at hq;subst hq;exact bf hx
   have:(r.any fun x=>match x with|some j=>Nat.beq k j|none=>false)=true:=List.any_eq_true.2 ⟨_,hm,cM k⟩;rw[this]at h;cases h.1
  cases i with
  |zero=>
   simp at h1;subst h1;cases j with
   |zero=>rfl
   |succ j=>exact absurd (by simpa using h2) (no j)
  |succ i=>cases j with
   |zero=>simp at h2;subst h2;exact absurd (by simpa using h1) (no i)
   |succ j=>rw[oJ h.2 i j m (by simpa using h1) (by simpa using h2)]
structure vn(ns:List (Option Nat))(h h1:Tr O):Prop where
 jm:∀p∈jN,ns.getD p.2 none=some p.2
 one:nr ns=true
 live:∀j m,ns.getD j none=some m->(∃p∈jN,p.2=m)\/h.get m≠none
 get:∀j o1,h1.get j=some o1->∃m o,ns.getD j none=some m/\h.get m=some o/\o.rn (mu ns)=some o1
theorem MG{E:Env}{h h1:Tr O}{w:World}{ns:List (Option Nat)}(g:Good E h w)(k:vn ns h h1):Good (E.pick ns) h1 w/\qL (E.pick ns) ns.length:=by
 have hw:∀j,eC h1 j->∃m,ns.getD j none=some m/\eC h m:=by
  rintro j ⟨o1,h2,h3⟩;obtain⟨m,o,q1,q2,q3⟩:=k.get j o1 h2;exact⟨m,q1,o,q2,(A4 q3).symm.trans h3⟩
 refine⟨⟨fun j o1 hj=>?_,fun j j' b s s' fP hj QO e1 e2=>?_,fun j b s e=>?_,fun p hp=>?_,fun b c q=>⟨g.fz b c q,fun j s hj e=>?_⟩⟩,fun j hj=>?_⟩
 . obtain⟨m,o,q1,q2,q3⟩:=k.get j o1 hj;obtain⟨b,s,e1,e2⟩:=g.rel m o q2;exact⟨b,s,(mC q1).trans e1,BH (E':=E.pick ns) Q3 (fun _ _ _ _ _ _=>rfl) (fun _ _ q=>q) rfl o o1 q3 e2⟩
 . obtain⟨m,q1,q2⟩:=hw j hj;obtain⟨o',QO⟩:=bg.1 QO;obtain⟨m',o,p1,p2,_⟩:=k.get j' o' QO;rw[mC q1]at e1;rw[mC p1]at e2;by_cases hm:m=m'
   . subst hm;exact fP (oJ k.one j j' m q1 p1)
   . exact g.inj m m' b s s' hm q2 (by rw[p2];simp) e1 e2
 . have e:(match ns.getD j none with|some m=>E.ι m|none=>none)=some (b,s):=e;split at e
   . exact g.mU _ b s e
   . cases e
 . rw[mC (k.jm p hp)];exact g.jm p hp
 . obtain⟨m,q1,q2⟩:=hw j hj;rw[mC q1]at e;exact(g.gM b c q).2 m s q2 e
 . show(match ns.getD j none with|some m=>E.ι m|none=>none)=none;rw[aL,bP (show ns.length<=j from hj)];rfl
def UN(ns:List (Option Nat))(mB:Tr O)(n0 n m:Nat):Option Nat:=match Nat.blt m n0 with
 |true=>ns.getD m none
 |false=>match mB.get m with
  |some o=>match o.wr with
   |true=>some (n+(m-n0))
   |false=>none
  |none=>none
def o7(ν:Nat->Option Nat)(ns:List (Option Nat))(h1 mB:Tr O):Nat->Nat->Tr O->Option (Tr O)
 |0,_,h=>some h
 |i+1,q,h=>match h1.get q with
  |some o0=>match o0.wr with
   |true=>match ns.getD q none with
    |some m=>match Nat.blt m fN with
     |true=>match mB.get q with
      |some o=>match o.wr with
       |true=>match o.rn ν with
        |some o2=>o7 ν ns h1 mB i (q+1) (h.set m (some o2))
        |none=>none
       |false=>none
      |none=>o7 ν ns h1 mB i (q+1) (h.set m none)
     |false=>none
    |none=>none
   |false=>o7 ν ns h1 mB i (q+1) h
  |none=>o7 ν ns h1 mB i (q+1) h
def KO(ν:Nat->Option Nat)(h1:Tr O):Nat->Nat->Tr O->Option (Tr O)
 |0,_,h=>some h
 |i+1,j,h=>match ν j with
  |none=>KO ν h1 i (j+1) h
  |some k=>match h1.get j with
   |some o=>match o.rn ν with
    |some o2=>match Nat.blt k fN with
     |true=>KO ν h1 i (j+1) (h.set k (some o2))
     |false=>none
    |none=>none
   |none=>none
def Eh(ns:List (Option Nat))(h1:Tr O)(r:V×Tr O×Nat)(h:Tr O)(n:Nat):Option (V×Tr O×Nat):=
 match r.1.rn (UN ns r.2.1 ns.length n)with
 |some v=>match o7 (UN ns r.2.1 ns.length n) ns h1 r.2.1 ns.length 0 h with
  |some h2=>match KO (UN ns r.2.1 ns.length n) r.2.1 (r.2.2-ns.length) ns.length h2 with
   |some h3=>some (v,h3,n+(r.2.2-ns.length))
   |none=>none
  |none=>none
 |none=>none
theorem wj{ν:Nat->Option Nat}{ns:List (Option Nat)}{h1 mB:Tr O}:∀(i q:Nat) (h h2:Tr O),o7 ν ns h1 mB i q h=some h2->∀m o,h2.get m=some o->
  (h.get m=some o/\∀p,q<=p->p<q+i->eC h1 p->ns.getD p none≠some m)\/∃p,q<=p/\p<q+i/\eC h1 p/\ns.getD p none=some m/\∃o1,mB.get p=some o1/\o1.wr=true/\o1.rn ν=some o
 |0,q,h,h2,e,m,o,hm=>by simp only[o7,an]at e;subst e;exact .inl ⟨hm,fun p h1 h2=>by omega⟩
 |i+1,q,h,h2,e,m,o,hm=>by
  simp only[o7]at e;have skip:(¬eC h1 q)->o7 ν ns h1 mB i (q+1) h=some h2->_:=fun hq e=>wj i (q+1) h h2 e m o hm;have Cu:∀(h':Tr O) (x:Option O) (m0:Nat),m0<fN->h'=h.set m0 x->eC h1 q->ns.getD q none=some m0->(∀y,x=some y->∃o1,mB.get q=some o1/\o1.wr=true/\o1.rn ν=some y)->o7 ν ns h1 mB i (q+1) h'=some h2->
    (h.get m=some o/\∀p,q<=p->p<q+(i+1)->eC h1 p->ns.getD p none≠some m)\/∃p,q<=p/\p<q+(i+1)/\eC h1 p/\ns.getD p none=some m/\∃o1,mB.get p=some o1/\o1.wr=true/\o1.rn ν=some o:=by
   intro h' x m0 ht hh hw F7 hx e;rcases wj i (q+1) h' h2 e m o hm with⟨k1,k2⟩|⟨p,k1,k2,k3⟩
   . rw[hh,Tr.eS _ _ _ ht]at k1;split at k1
     . rename_i z;subst z;exact .inr ⟨q,aA _,be,hw,F7,hx o k1⟩
     . rename_i z;refine .inl ⟨k1,fun p p1 p2 p3=>?_⟩;rcases Nat.eq_or_lt_of_le p1 with rfl|p1
       . rw[F7];intro c;cases c;exact z rfl
       . exact k2 p p1 be p3
   . exact .inr ⟨p,be,be,k3⟩
  have aea:(¬eC h1 q)->o7 ν ns h1 mB i (q+1) h=some h2->
    (h.get m=some o/\∀p,q<=p->p<q+(i+1)->eC h1 p->ns.getD p none≠some m)\/∃p,q<=p/\p<q+(i+1)/\eC h1 p/\ns.getD p none=some m/\∃o1,mB.get p=some o1/\o1.wr=true/\o1.rn ν=some o:=by
   intro hq e;rcases wj i (q+1) h h2 e m o hm with⟨k1,k2⟩|⟨p,k1,k2,k3⟩
   . refine .inl ⟨k1,fun p p1 p2 p3=>?_⟩;rcases Nat.eq_or_lt_of_le p1 with rfl|p1
     . exact absurd p3 hq
     . exact k2 p p1 be p3
   . exact .inr ⟨p,be,be,k3⟩
  split at e
  . rename_i o0 ho0;split at e
    . rename_i Q4;split at e
      case h_2=>cases e
      rename_i m0 F7;split at e
      case h_2=>cases e
      rename_i ht;have ht:=au ht;split at e
      . rename_i o1 ho1;split at e
        case h_2=>cases e
        rename_i Hx;split at e
        case h_2=>cases e
        rename_i o2 Ut;exact Cu _ (some o2) m0 ht rfl ⟨o0,ho0,Q4⟩ F7 (fun y hy=>by cases hy;exact⟨o1,ho1,Hx,Ut⟩) e
      . exact Cu _ none m0 ht rfl ⟨o0,ho0,Q4⟩ F7 (fun y hy=>by cases hy) e
    . rename_i Q4;exact aea (fun⟨o,q1,q2⟩=>by rw[ho0]at q1;cases q1;rw[Q4]at q2;cases q2) e
  . rename_i ho0;exact aea (fun⟨o,q1,q2⟩=>by rw[ho0]at q1;cases q1) e
theorem Av{ν:Nat->Option Nat}{h1:Tr O}:∀(i j:Nat) (h h2:Tr O),KO ν h1 i j h=some h2->∀m o,h2.get m=some o->h.get m=some o\/∃q,j<=q/\q<j+i/\ν q=some m/\∃o1,h1.get q=some o1/\o1.rn ν=some o
 |0,j,h,h2,e,m,o,hm=>by simp only[KO,an]at e;subst e;exact .inl hm
 |i+1,j,h,h2,e,m,o,hm=>by
  simp only[KO]at e;split at e
  . rcases Av i (j+1) h h2 e m o hm with q|⟨q,q1,q2,q3⟩
    . exact .inl q
    . exact .inr ⟨q,be,be,q3⟩
  . rename_i k hk;split at e
    case h_2=>cases e
    rename_i o1 ho;split at e
    case h_2=>cases e
    rename_i o2 Ut;split at e
    case h_2=>cases e
    rename_i ht;rcases Av i (j+1) _ h2 e m o hm with q|⟨q,q1,q2,q3⟩
    . rw[Tr.eS _ _ _ (show k<fN from au ht)]at q;split at q
      . rename_i z;subst z;obtain rfl:=ew q;exact .inr ⟨j,aA _,be,hk,o1,ho,Ut⟩
      . exact .inl q
    . exact .inr ⟨q,be,be,q3⟩
theorem MH{E:Env}{h h1:Tr O}{n:Nat}{w:World}{ns:List (Option Nat)}{r:V×Tr O×Nat}{v:V}{h2:Tr O}{n2:Nat}(g:Good E h w)(hd:qL E n)(k0:vn ns h h1)
  (he:Eh ns h1 r h n=some (v,h2,n2)) {en:Ending} {w':World} (c:jU (E.pick ns) h1 ns.length w (.ret r.1) r.2.1 r.2.2 en w'):jU E h n w (.ret v) h2 n2 en w':=by
 obtain⟨v1,mB,IP⟩:=r;obtain⟨E2,u,fK,rX,hn,ho⟩:=c;simp only at u rX hn ho;unfold Eh at he;simp only at he;split at he
 case h_2=>cases he
 rename_i v' hv;split at he
 case h_2=>cases he
 rename_i hL' hhL;split at he
 case h_2=>cases he
 rename_i hH' hhH;simp only[an,aB]at he;obtain⟨rfl,rfl,rfl⟩:=he;generalize Uk:ns.length=n0 at *
 let ν:=UN ns mB n0 n
 have ZB:∀m k,m<n0->ν m=some k->ns.getD m none=some k:=by
  intro m k hm hk;have hb:Nat.blt m n0=true:=Nat.ble_eq_true_of_le hm;simp only[ν,UN,hb]at hk;exact hk
 have GI:∀m k,n0<=m->ν m=some k->k=n+(m-n0)/\eC mB m:=by
  intro m k hm hk;have hb:Nat.blt m n0=false:=by
   cases q:Nat.blt m n0 with
   |false=>rfl
   |true=>exact absurd (au q) (Nat.not_lt.2 hm)
  simp only[ν,UN,hb]at hk;split at hk
  . rename_i o ho1;split at hk
    . rename_i hw;simp only[an]at hk;exact⟨hk.symm,o,ho1,hw⟩
    . cases hk
  . cases hk
 have pre:∀j,eC h1 j->∃m,ns.getD j none=some m/\eC h m:=by
  rintro j ⟨o1,q2,q3⟩;obtain⟨m,o,p1,p2,p3⟩:=k0.get j o1 q2;exact⟨m,p1,o,p2,(A4 p3).symm.trans q3⟩
 have aj8:∀j,h1.get j≠none->∃m,ns.getD j none=some m/\h.get m≠none:=by
  intro j hj;obtain⟨o1,q2⟩:=bg.1 hj;obtain⟨m,o,p1,p2,_⟩:=k0.get j o1 q2;exact⟨m,p1,by rw[p2];simp⟩
 have old:∀j b s,mB.get j≠none->E2.ι j=some (b,s)->b<w.heap.size->∃m s0,h.get m≠none/\E.ι m=some (b,s0)/\(∃j0,ns.getD j0 none=some m/\j0<n0/\(eC mB j->eC h1 j0))/\(eC mB j->eC h m):=by
  intro j b s hj e hb;obtain⟨j0,s0,q1,q2,q3⟩:=u.sV j b s hj e hb;obtain⟨m,p1,p2⟩:=aj8 j0 q1;have hj0:j0<n0:=by
   rcases bN j0 n0 with z|z
   . exact z
   . rw[aL,bP be]at p1;cases p1
  refine⟨m,s0,p2,by rw[<- mC p1];exact q2,⟨j0,p1,hj0,q3⟩,fun z=>?_⟩;obtain⟨m',p3,p4⟩:=pre j0 (q3 z);rw[p1]at p3;cases p3;exact p4
 let E':Env:=⟨fun m=>if m<n then E.ι m else(match ν (n0+(m-n))with|some _=>E2.ι (n0+(m-n))|none=>none),fun b=>if b<w.heap.size then E.β b else E2.β b,E2.φ⟩
 have wW:∀m,m<n->E'.ι m=E.ι m:=fun m hm=>aG hm;have aeb:∀j k,n0<=j->ν j=some k->E'.ι k=E2.ι j:=by
  intro j k hj hk;obtain⟨rfl,_⟩:=GI j k hj hk;show(if n+(j-n0)<n then _ else _)=_;rw[aI be];have:n0+(n+(j-n0)-n)=j:=by omega
  rw[this,hk]
 have aec:∀m k,m<n0->ns.getD m none=some k->E2.ι m=E.ι k:=fun m k hm hk=>(fK m hm).trans (mC hk);have hkn:∀k,E.ι k≠none->k<n:=fun k e=>by
  rcases bN k n with q|q
  . exact q
  . exact absurd (hd k q) e
 have jb:∀m k,ν m=some k->E'.ι k=E2.ι m:=by
  intro m k hk;by_cases hm:m<n0
  . have F7:=ZB m k hm hk;rw[aec m k hm F7];by_cases EH:k<n
    . exact wW k EH
    . exact absurd (hkn k (by
       rcases k0.live m k F7 with⟨p,hp,rfl⟩|q
       . rw[g.jm p hp];simp
       . obtain⟨o,q⟩:=bg.1 q;obtain⟨b,s,e,_⟩:=g.rel k o q;rw[e];simp)) EH
  . exact aeb m k (Nat.le_of_not_lt hm) hk
 have kC:E.le E':=by
  refine⟨fun m b s e=>?_,fun b c q=>u.le.fz b c q⟩;exact⟨(wW m (hkn m (by rw[e];simp))).trans e,aG (g.mU m b s e)⟩
 have ZC:qL E' (n+(IP-n0)):=by
  intro m hm;have hm:n+(IP-n0)<=m:=hm;show(if m<n then _ else _)=none;rw[aI be];split
  . exact rX _ (by show IP<=_;omega)
  . rfl
 have ZD:∀m k b s,ν m=some k->E2.ι m=some (b,s)->E'.β b=E2.β b:=by
  intro m k b s hk e;show(if b<w.heap.size then E.β b else E2.β b)=_;split
  . rename_i hb;by_cases hm:m<n0
    . have e1:(E.pick ns).ι m=some (b,s):=by rw[<- fK m hm];exact e
      exact(u.le.nm m b s e1).2.symm
    . obtain⟨_,hw⟩:=GI m k (Nat.le_of_not_lt hm) hk;obtain⟨j0,s0,q1,q2,_⟩:=u.sV m b s hw.live e hb;exact(u.le.nm j0 b s0 q2).2.symm
  . rfl
 have qx:∀m o,hH'.get m=some o->(h.get m=some o/\m<n/\∀p,eC h1 p->ns.getD p none≠some m)\/(∃q,ν q=some m/\eC mB q/\(q<n0->eC h1 q)/\∃o1,mB.get q=some o1/\o1.rn ν=some o):=by
  intro m o hm;rcases Av _ _ _ _ hhH m o hm with q|⟨q,q1,q2,q3,q4⟩
  . rcases wj _ _ _ _ hhL m o q with⟨k1,k2⟩|⟨p,k1,k2,k3,k4,o1,k5,k6,k7⟩
    . refine .inl ⟨k1,?_,fun p hp F7=>?_⟩
      . obtain⟨b,s,e,_⟩:=g.rel m o k1;exact hkn m (by rw[e];simp)
      . have hp0:p<n0:=by
         rcases bN p n0 with z|z
         . exact z
         . rw[aL,bP be]at F7;cases F7
        exact k2 p (aY _) be hp F7
    . have hp0:p<n0:=by omega
      refine .inr ⟨p,?_,⟨o1,k5,k6⟩,fun _=>k3,o1,k5,k7⟩;have hb:Nat.blt p n0=true:=Nat.ble_eq_true_of_le hp0;show UN ns mB n0 n p=some m;simp only[UN,hb];exact k4
  . obtain⟨o1,p1,p2⟩:=q4;exact .inr ⟨q,q3,(GI q m q1 q3).2,fun z=>absurd z (Nat.not_lt.2 q1),o1,p1,p2⟩
 have keep:∀m o,h.get m=some o->(∀p,eC h1 p->ns.getD p none≠some m)->∀b s,E.ι m=some (b,s)->w'.heap[b]? =w.heap[b]?:=by
  intro m o hm hp b s e;refine u.keep b (g.mU m b s e) fun j t hj e2=>?_;obtain⟨m',p1,p2⟩:=pre j hj;rw[mC p1]at e2;exact g.inj m' m b t s (fun z=>hp j hj (z▸p1)) p2 (by rw[hm];simp) e2 e
 have qw:Good E' hH' w':=by
  refine⟨?_,?_,?_,g.jm.mono kC,fun b c q=>⟨u.good.fz b c q,?_⟩⟩
  . intro m o hm;rcases qx m o hm with⟨h0,Ka,hp⟩|⟨q,q1,_,_,o1,q3,q4⟩
    . obtain⟨b,s,e1,e2⟩:=g.rel m o h0;exact⟨b,s,(kC.nm m b s e1).1,ik kC (kC.nm m b s e1).2 (keep m o h0 hp b s e1) e2⟩
    . obtain⟨b,s,e1,e2⟩:=u.good.rel q o1 q3;exact⟨b,s,(jb q m q1).trans e1,BH (E':=E') jb ZD (fun _ _ q=>q) (ZD q m b s q1 e1) o1 o q4 e2⟩
  . rintro m m' b s s' fP ⟨o,hm,hw⟩ sW e1 e2;obtain⟨o',sW⟩:=bg.1 sW;rcases qx m o hm with⟨h0,Ka,hp⟩|⟨q,q1,q2,q5,o1,q3,q4⟩<;>rcases qx m' o' sW with⟨h0',aed,Pw⟩|⟨q',q1',q2',q5',o1',q3',q4'⟩
    . rw[wW m Ka]at e1;rw[wW m' aed]at e2;exact g.inj m m' b s s' fP ⟨o,h0,hw⟩ (by rw[h0'];simp) e1 e2
    . rw[wW m Ka]at e1;rw[jb q' m' q1']at e2;obtain⟨mm,s0,k1,k2,⟨j0,k3,_,k5⟩,k4⟩:=old q' b s' q2'.live e2 (g.mU m b s e1);exact g.inj m mm b s s0 (fun z=>hp j0 (k5 q2') (z▸k3)) ⟨o,h0,hw⟩ k1 e1 k2
    . rw[wW m' aed]at e2;rw[jb q m q1]at e1;obtain⟨mm,s0,k1,k2,⟨j0,k3,_,k5⟩,k4⟩:=old q b s q2.live e1 (g.mU m' b s' e2);exact g.inj mm m' b s0 s' (fun z=>Pw j0 (k5 q2) (z▸k3)) (k4 q2) (by rw[h0'];simp) k2 e2
    . rw[jb q m q1]at e1;rw[jb q' m' q1']at e2;exact u.good.inj q q' b s s' (fun z=>fP (by subst z;rw[q1]at q1';exact cC q1')) q2 q2'.live e1 e2
  . intro m b s e;by_cases hm:m<n
    . rw[wW m hm]at e;exact bD (g.mU m b s e) u.size
    . have e:(if m<n then E.ι m else(match ν (n0+(m-n))with|some _=>E2.ι (n0+(m-n))|none=>none))=some (b,s):=e;rw[aI hm]at e;split at e
      . exact u.good.mU _ b s e
      . cases e
  . rintro m s ⟨o,hm,hw⟩ e;rcases qx m o hm with⟨h0,Ka,hp⟩|⟨q',q1,q2,_⟩
    . rw[wW m Ka]at e;rcases u.DU b c q with z|z|⟨j,t,z1,z2⟩
      . exact(g.gM b c z).2 m s ⟨o,h0,hw⟩ e
      . have:=g.mU m b s e;omega
      . obtain⟨m',p1,p2⟩:=pre j z1;rw[mC p1]at z2;exact g.inj m m' b s t (fun z=>hp j z1 (z▸p1)) ⟨o,h0,hw⟩ p2.live e z2
    . rw[jb q' m q1]at e;exact(u.good.gM b c q).2 q' s q2 e
 refine⟨E',⟨kC,qw,u.size,u.tape,u.os,u.output,fun b hb rU=>?_,?_,fun b c q=>?_⟩,fun m hm=>wW m hm,ZC,Nat.le_add_right _ _,?_⟩
 . refine u.keep b hb fun j t hj e=>?_;obtain⟨m',p1,p2⟩:=pre j hj;rw[mC p1]at e;exact rU m' t p2 e
 . intro m b s hm e hb;obtain⟨o,hm⟩:=bg.1 hm;rcases qx m o hm with⟨h0,Ka,hp⟩|⟨q,q1,q2,_⟩
   . rw[wW m Ka]at e;exact⟨m,s,by rw[h0];simp,e,fun⟨o',k1,k2⟩=>⟨o,h0,by rw[hm]at k1;cases k1;exact k2⟩⟩
   . rw[jb q m q1]at e;obtain⟨mm,s0,k1,k2,_,k4⟩:=old q b s q2.live e hb;exact⟨mm,s0,k1,k2,fun _=>k4 q2⟩
 . rcases u.DU b c q with z|z|⟨j,t,z1,z2⟩
   . exact .inl z
   . exact .inr (.inl z)
   . obtain⟨m',p1,p2⟩:=pre j z1;rw[mC p1]at z2;exact .inr (.inr ⟨m',t,p2,z2⟩)
 . cases en with
   |returned x=>exact tn (E':=E') jb ZD (fun _ _ q=>q) v1 _ x hv ho
   |_=>exact ho.elim
theorem Fa{P:Program}(hm:P.follows .mixedOrders=true)(xD:lB P=true){f:FuncId}{fn:Func}{code:Code}(hf:P.funcs[f]? =some fn)(hb:fn.body=some code){args nH:ag}{ns:List (Option Nat)}{h h1 h2 mB:Tr O}{n n2 IP:Nat}{v v1:V}
  (l:(Nat.ble nH.length fn.ntmps&&Nat.blt fn.ntmps fN)=true) (k:vn ns h h1) (ka:V.D0 (mu ns) args=some nH) (he:Eh ns h1 (v1,mB,IP) h n=some (v,h2,n2))
  (hT:TG P ns.length fn.ntmps code (cT nH h1 ns.length) (fH P ns.length fn fun a b c=>a=v1/\b=mB/\c=IP))
  {E:Env} {w:World} {c9:List Value} (ra:dI E args c9) (g:Good E h w) (hd:qL E n):Calls P f c9.toArray w (jU E h n w (.ret v) h2 n2):=by
 obtain⟨g1,d1⟩:=MG g k;have ra1:dI (E.pick ns) nH c9:=tq (E':=E.pick ns) Q3 (fun _ _ _ _ _ _=>rfl) (fun _ _ q=>q) _ _ _ ka ra;exact(y5 hm xD hf hb l v1 mB IP hT ra1 g1 d1).mono fun en w' c=>MH g hd k he c
end Go.Eng
